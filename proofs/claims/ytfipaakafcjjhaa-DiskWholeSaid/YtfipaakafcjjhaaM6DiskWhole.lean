/- Merged: G1, Bx. -/
import Derived.Test.YtfipaakafcjjhaaM5DiskWhole
import Derived.Test.YtfipaakafcjjhaaM3DiskWhole
import Derived.Test.YtfipaakafcjjhaaM4DiskWhole
section
set_option linter.unusedSectionVars false
set_option linter.unusedVariables false
set_option linter.unusedSimpArgs false
namespace Go.Proofs.YtfipaakafcjjhaaD
open Go Go.RowKit Go.Ab Go.Proofs

def m12_l1 (p0 : Int) : Nat → (List (List Int)) → Int → Option (List (List Int))
  | 0, _, _ => none
  | k1 + 1, l4, n3 =>
    if (decide (n3 < (if (4096 : Int) < (if p0 < 1 then 1 else p0) then 4096 else (if p0 < 1 then 1 else p0)))) = true then
      Option.bind (
        if (l4 ++ [(List.replicate (Int.toNat 96) 0)]).length ≤ 1073741824 then
        some ()
        else none) fun _ =>
      m12_l1 p0 k1 (l4 ++ [(List.replicate (Int.toNat 96) 0)]) (w64 (n3 + 1))
    else
      some l4
def m12 (p0 : Int) : Option Disk :=
  Option.bind (
    (m12_l1 p0 (Int.toNat (if (4096 : Int) < (if p0 < 1 then 1 else p0) then 4096 else (if p0 < 1 then 1 else p0)) + 1) [] 0).bind fun l5 =>
    some l5) fun l1 =>
  some (Disk.mk l1 [] (-1) false)

theorem m12_ok (p0 : Int)  {r : Disk} (hm : m12 p0 = some r) : Ab.Fn Try.prog 12 [.i p0] [] (fun a s => a = .agg [.sl 1 (cL 1 (cN .u8)) r.fDurable, .sl 2 Write.cells r.fPending, .i r.fLeft, .b r.fDown] ∧ s = []) := by
  rw [m12] at hm
  refine Ab.Fn.of Try.func12 rfl rfl rfl (fun C => ?_)
  refine CW.seq ?_
  refine CW.region ?_
  refine RW.v rfl rfl rfl (Yv.alloc rfl zerb26) ?_
  rintro _ _ ⟨b1, rfl, rfl⟩
  refine RW.nil ?_
  refine CW.seq ?_
  refine CW.region ?_
  refine RW.p rfl rfl rfl (Yp.build rfl plc26 zer26 rfl rfl) ?_
  refine RW.v rfl rfl rfl (Yv.alloc rfl zerb26) ?_
  rintro _ _ ⟨b2, rfl, rfl⟩
  refine RW.u rfl rfl (Yu.storeB 0 rfl rfl rfl rfl sz26 (Pw.p rfl) rfl (Nat.le_of_ble_eq_true rfl)) ?_
  refine RW.nil ?_
  refine CW.seq ?_
  obtain ⟨l1, hs1, hk1⟩ := bnd hm
  refine CW.cut (fun E σ => ∃ v1 : Value, Sub [(2, .lit (.pointer (some ⟨b1, 0, none⟩))), (3, .lit (.pointer (some ⟨b2, 0, none⟩)))] E ∧ σ = [.box b1 26 [.lit (.slice none 0 0), .lit (.slice none 0 0), .i 0, .b false], .box b2 26 [.lit v1, .lit (.slice none 0 0), .i (-1), .b false], .row v1 29 1 (cL 1 (cN .u8)) l1]) ?_ ?_
  ·
    have hm := hs1
    refine CW.seq ?_
    refine CW.region ?_
    refine RW.p rfl rfl rfl (Yp.move rfl rfl) ?_
    refine RW.p rfl rfl rfl (Yp.max rfl rfl rfl) ?_
    refine RW.p rfl rfl rfl (Yp.min rfl rfl rfl) ?_
    refine RW.p rfl rfl rfl (Yp.move rfl rfl) ?_
    refine RW.nil ?_
    refine CW.block ?_
    refine CW.own none 29 1 (cL 1 (cN .u8)) ?_
    refine CW.sel [2, 1, 0] rfl ?_
    obtain ⟨l5, hs2, hk2⟩ := bnd hm
    refine CW.lp (fun k1 E σ => ∃ l4 : List (List Int), ∃ n3 : Int, ∃ v4 : Value, Sub [(2, .lit (.pointer (some ⟨b1, 0, none⟩))), (3, .lit (.pointer (some ⟨b2, 0, none⟩))), (7, .i (if (4096 : Int) < (if p0 < 1 then 1 else p0) then 4096 else (if p0 < 1 then 1 else p0))), (8, .i n3)] E ∧ σ = [.box b1 26 [.lit (.slice none 0 0), .lit (.slice none 0 0), .i 0, .b false], .box b2 26 [.lit v4, .lit (.slice none 0 0), .i (-1), .b false], .row v4 29 1 (cL 1 (cN .u8)) l4] ∧ m12_l1 p0 k1 l4 n3 = some l5) (Int.toNat (if (4096 : Int) < (if p0 < 1 then 1 else p0) then 4096 else (if p0 < 1 then 1 else p0)) + 1) ?_ ?_
    · exact ⟨[], 0, (.slice none 0 0), (Sub.cons rfl (Sub.cons rfl (Sub.cons rfl (Sub.cons rfl Sub.nil)))), rfl, hs2⟩
    ·
      rintro k1 E σ ⟨l4, n3, v4, hsub1, rfl, hm⟩
      refine CW.weak ?_ hsub1
      cases k1 with
      | zero => cases hm
      | succ k1 =>
        rw [m12_l1] at hm
        refine CW.seq ?_
        refine CW.region ?_
        refine RW.p rfl rfl rfl (Yp.lss rfl rfl rfl) ?_
        refine RW.nil ?_
        refine CW.seq ?_
        refine CW.cond rfl (fun hb1 => ?_) (fun hb1 => ?_)
        ·
          have hm := ift hm hb1
          refine CW.skip ?_
          refine CW.seq ?_
          obtain ⟨⟨⟩, hs3, hk3⟩ := bnd hm
          refine CW.cut (fun E σ => ∃ v6 : Value, Sub [(2, .lit (.pointer (some ⟨b1, 0, none⟩))), (3, .lit (.pointer (some ⟨b2, 0, none⟩))), (7, .i (if (4096 : Int) < (if p0 < 1 then 1 else p0) then 4096 else (if p0 < 1 then 1 else p0))), (8, .i n3)] E ∧ σ = [.box b1 26 [.lit (.slice none 0 0), .lit (.slice none 0 0), .i 0, .b false], .box b2 26 [.lit v6, .lit (.slice none 0 0), .i (-1), .b false], .row v6 29 1 (cL 1 (cN .u8)) (l4 ++ [(List.replicate (Int.toNat 96) 0)])]) ?_ ?_
          ·
            have hm := hs3
            refine CW.block ?_
            obtain ⟨hc1, hm⟩ := chk hm
            refine CW.drawSel 7 rfl [1, 1, 0] [.box b2 26 [.lit v4, .lit (.slice none 0 0), .i (-1), .b false], .row v4 29 1 (cL 1 (cN .u8)) l4] [.box b1 26 [.lit (.slice none 0 0), .lit (.slice none 0 0), .i 0, .b false]] rfl (by kernel_rfl) ?_
            intro A1 w1 hB1
            refine RH.take 0 rfl (by kernel_rfl) rfl rfl rfl hB1 (Yp.fieldP rfl rfl Try.underlying26 rfl sz23) ?_
            refine RH.two 1 2 (by kernel_rfl) ?_ ?_
            ·
              refine RO.p rfl rfl rfl rfl rfl (Yp.loadB1 1 rfl rfl rfl one23 rfl) ?_
              refine RH.one 2 (by kernel_rfl) ?_
              refine RO.v rfl rfl rfl rfl rfl (Yv.make (cN .u8) 0 rfl rfl rfl Try.underlying29 szb5 zer5 rfl rfl rfl (by decide) (by decide)) (fun b hb => absurd hb (by simp)) ?_
              rintro _ _ ⟨v10, rfl, rfl⟩
              refine RH.one 3 (by kernel_rfl) ?_
              refine RO.frz 0 12 rfl rfl (Vw.row 0 rfl) ?_
              refine RO.v rfl rfl rfl rfl rfl (Yv.lit (cL 1 (cN .u8)) ([(List.replicate (Int.toNat 96) 0)] : List (List Int)) rfl Try.underlying23 sz29 zer29 rfl rfl rfl rfl rfl (fun i hi => by match i, hi with | 0, _ => rfl) (by decide) (by decide)) (fun b hb => absurd hb (by simp)) ?_
              rintro _ _ ⟨v11, rfl, rfl⟩
              refine RH.one 4 (by kernel_rfl) ?_
              refine RO.v rfl rfl rfl rfl rfl (Yv.app (l := l4) (l2 := ([(List.replicate (Int.toNat 96) 0)] : List (List Int))) 3 rfl rfl rfl (.inr (.inr ⟨0, _, rfl, rfl⟩)) Try.underlying23 szb29 zer29 rfl rfl (fun _ => rfl) hc1) (inX (r := .row v4 29 1 (cL 1 (cN .u8)) l4) 1 rfl) ?_
              rintro _ _ ⟨v12, rfl, rfl⟩
              refine RH.take 5 rfl (by kernel_rfl) rfl rfl rfl hB1 (Yp.fieldP rfl rfl Try.underlying26 rfl sz23) ?_
              refine RH.one 6 (by kernel_rfl) ?_
              refine RO.u rfl rfl rfl (Yu.storeB 2 rfl rfl rfl rfl sz23 (Pw.own 3 rfl) rfl (Nat.le_of_ble_eq_true rfl)) (inX (r := .box b2 26 [.lit v4, .lit (.slice none 0 0), .i (-1), .b false]) 0 rfl) ?_
              refine RH.sel [1, 1, 1] rfl ?_
              refine RH.done (by kernel_rfl) ?_
              cases hm
              exact ⟨v12, (Sub.cons rfl (Sub.cons rfl (Sub.cons rfl (Sub.cons rfl Sub.nil)))), rfl⟩
            ·
              refine RO.v rfl rfl rfl rfl rfl (Yv.make (cN .u8) 0 rfl rfl rfl Try.underlying29 szb5 zer5 rfl rfl rfl (by decide) (by decide)) (fun b hb => absurd hb (by simp)) ?_
              rintro _ _ ⟨v13, rfl, rfl⟩
              refine RH.two 1 3 (by kernel_rfl) ?_ ?_
              ·
                refine RO.p rfl rfl rfl rfl rfl (Yp.loadB1 2 rfl rfl rfl one23 rfl) ?_
                refine RH.one 3 (by kernel_rfl) ?_
                refine RO.frz 0 12 rfl rfl (Vw.row 0 rfl) ?_
                refine RO.v rfl rfl rfl rfl rfl (Yv.lit (cL 1 (cN .u8)) ([(List.replicate (Int.toNat 96) 0)] : List (List Int)) rfl Try.underlying23 sz29 zer29 rfl rfl rfl rfl rfl (fun i hi => by match i, hi with | 0, _ => rfl) (by decide) (by decide)) (fun b hb => absurd hb (by simp)) ?_
                rintro _ _ ⟨v14, rfl, rfl⟩
                refine RH.one 4 (by kernel_rfl) ?_
                refine RO.v rfl rfl rfl rfl rfl (Yv.app (l := l4) (l2 := ([(List.replicate (Int.toNat 96) 0)] : List (List Int))) 3 rfl rfl rfl (.inr (.inr ⟨0, _, rfl, rfl⟩)) Try.underlying23 szb29 zer29 rfl rfl (fun _ => rfl) hc1) (inX (r := .row v4 29 1 (cL 1 (cN .u8)) l4) 1 rfl) ?_
                rintro _ _ ⟨v15, rfl, rfl⟩
                refine RH.take 5 rfl (by kernel_rfl) rfl rfl rfl hB1 (Yp.fieldP rfl rfl Try.underlying26 rfl sz23) ?_
                refine RH.one 6 (by kernel_rfl) ?_
                refine RO.u rfl rfl rfl (Yu.storeB 2 rfl rfl rfl rfl sz23 (Pw.own 3 rfl) rfl (Nat.le_of_ble_eq_true rfl)) (inX (r := .box b2 26 [.lit v4, .lit (.slice none 0 0), .i (-1), .b false]) 0 rfl) ?_
                refine RH.sel [1, 1, 1] rfl ?_
                refine RH.done (by kernel_rfl) ?_
                cases hm
                exact ⟨v15, (Sub.cons rfl (Sub.cons rfl (Sub.cons rfl (Sub.cons rfl Sub.nil)))), rfl⟩
              ·
                refine RO.frz 0 12 rfl rfl (Vw.row 0 rfl) ?_
                refine RO.v rfl rfl rfl rfl rfl (Yv.lit (cL 1 (cN .u8)) ([(List.replicate (Int.toNat 96) 0)] : List (List Int)) rfl Try.underlying23 sz29 zer29 rfl rfl rfl rfl rfl (fun i hi => by match i, hi with | 0, _ => rfl) (by decide) (by decide)) (fun b hb => absurd hb (by simp)) ?_
                rintro _ _ ⟨v16, rfl, rfl⟩
                refine RH.one 1 (by kernel_rfl) ?_
                refine RO.p rfl rfl rfl rfl rfl (Yp.loadB1 2 rfl rfl rfl one23 rfl) ?_
                refine RH.one 4 (by kernel_rfl) ?_
                refine RO.v rfl rfl rfl rfl rfl (Yv.app (l := l4) (l2 := ([(List.replicate (Int.toNat 96) 0)] : List (List Int))) 3 rfl rfl rfl (.inr (.inr ⟨0, _, rfl, rfl⟩)) Try.underlying23 szb29 zer29 rfl rfl (fun _ => rfl) hc1) (inX (r := .row v4 29 1 (cL 1 (cN .u8)) l4) 1 rfl) ?_
                rintro _ _ ⟨v17, rfl, rfl⟩
                refine RH.take 5 rfl (by kernel_rfl) rfl rfl rfl hB1 (Yp.fieldP rfl rfl Try.underlying26 rfl sz23) ?_
                refine RH.one 6 (by kernel_rfl) ?_
                refine RO.u rfl rfl rfl (Yu.storeB 2 rfl rfl rfl rfl sz23 (Pw.own 3 rfl) rfl (Nat.le_of_ble_eq_true rfl)) (inX (r := .box b2 26 [.lit v4, .lit (.slice none 0 0), .i (-1), .b false]) 0 rfl) ?_
                refine RH.sel [1, 1, 1] rfl ?_
                refine RH.done (by kernel_rfl) ?_
                cases hm
                exact ⟨v17, (Sub.cons rfl (Sub.cons rfl (Sub.cons rfl (Sub.cons rfl Sub.nil)))), rfl⟩
          ·
            rintro E σ ⟨v6, hsub2, rfl⟩
            have hm := hk3
            refine CW.weak ?_ hsub2
            refine CW.region ?_
            refine RW.p rfl rfl rfl (Yp.add rfl rfl rfl) ?_
            refine RW.p rfl rfl rfl (Yp.move rfl rfl) ?_
            refine RW.nil ?_
            exact ⟨k1, Nat.lt_succ_self _, _, _, v6, (Sub.cons rfl (Sub.cons rfl (Sub.cons rfl (Sub.cons rfl Sub.nil)))), rfl, hm⟩
        ·
          have hm := iff' hm hb1
          refine CW.exit ?_
          cases hm
          have hm := hk2
          cases hm
          exact ⟨v4, (Sub.cons rfl (Sub.cons rfl Sub.nil)), rfl⟩
  ·
    rintro E σ ⟨v1, hsub3, rfl⟩
    have hm := hk1
    refine CW.weak ?_ hsub3
    refine CW.seq ?_
    refine CW.region ?_
    refine RW.p rfl rfl rfl (Yp.loadBN 1 rfl rfl rfl many26 (Nat.le_of_ble_eq_true rfl)) ?_
    refine RW.u rfl rfl (Yu.storeB 0 rfl rfl rfl rfl sz26 (Pw.agg (PwL.own 2 rfl (PwL.p rfl (PwL.p rfl (PwL.p rfl PwL.nil))))) rfl (Nat.le_of_ble_eq_true rfl)) ?_
    refine RW.nil ?_
    refine CW.frzB 2 0 rfl rfl (VwL.cons (Vw.row 0 rfl) (VwL.cons (Vw.id _) (VwL.cons (Vw.id _) (VwL.cons (Vw.id _) VwL.nil)))) ?_
    refine CW.sayB 0 rfl (VwL.cons (Vw.id _) (VwL.cons (Vw.nil 2 Write.cells) (VwL.cons (Vw.id _) (VwL.cons (Vw.id _) VwL.nil)))) ?_
    refine CW.ret ?_
    cases hm
    exact fin1 (.inr rfl) rfl (ResIs.cellN 0 rfl rfl many26 rfl) (List.nil_sublist _) ⟨rfl, rfl⟩

def m14 (p0 : List Int) (p1 : List Int) : Option Bool :=
  some ((strOfNums p0).toList == (strOfNums p1).toList)

theorem m14_ok (p0 : List Int) (p1 : List Int)  {r : Bool} (hm : m14 p0 p1 = some r) : Ab.Fn Try.prog 14 [.sl 1 (cN .u8) p0, .sl 1 (cN .u8) p1] [] (fun a s => a = .b r ∧ s = []) := by
  rw [m14] at hm
  refine Ab.Fn.of Try.func14 rfl rfl rfl (fun C => ?_)
  refine CW.seq ?_
  refine CW.region ?_
  refine RW.p rfl rfl rfl (Yp.assign rfl rfl) ?_
  refine RW.nil ?_
  refine CW.seq ?_
  refine CW.region ?_
  refine RW.p rfl rfl rfl (Yp.move rfl rfl) ?_
  refine RW.p rfl rfl rfl (Yp.b2s (l := p0) rfl (.inr (.inl rfl)) Try.underlying29 Try.underlying5 Try.underlying9) ?_
  refine RW.p rfl rfl rfl (Yp.move rfl rfl) ?_
  refine RW.p rfl rfl rfl (Yp.b2s (l := p1) rfl (.inr (.inl rfl)) Try.underlying29 Try.underlying5 Try.underlying9) ?_
  refine RW.p rfl rfl rfl (Yp.seql rfl rfl rfl) ?_
  refine RW.p rfl rfl rfl (Yp.assign rfl rfl) ?_
  refine RW.nil ?_
  refine CW.ret ?_
  cases hm
  exact fin1 (.inr rfl) rfl (ResIs.tmp rfl) (List.nil_sublist _) ⟨rfl, rfl⟩

def m15 (p0 : Int) : Option (List Int) :=
  (m37 ([p0] : List Int) 96).bind fun x1 =>
  some x1

theorem m15_ok (p0 : Int)  {r : List Int} (hm : m15 p0 = some r) : Ab.Fn Try.prog 15 [.n .u8 p0] [] (fun a s => a = .sl 1 (cN .u8) r ∧ s = []) := by
  rw [m15] at hm
  refine Ab.Fn.of Try.func15 rfl rfl rfl (fun C => ?_)
  refine CW.seq ?_
  refine CW.region ?_
  refine RW.p rfl rfl rfl (Yp.assign rfl rfl) ?_
  refine RW.nil ?_
  refine CW.seq ?_
  refine CW.region ?_
  refine RW.p rfl rfl rfl (Yp.move rfl rfl) ?_
  refine RW.v rfl rfl rfl (Yv.lit (cN .u8) ([p0] : List Int) rfl Try.underlying29 sz5 zer5 rfl rfl rfl rfl rfl (fun i hi => by match i, hi with | 0, _ => rfl) (by decide) (by decide)) ?_
  rintro _ _ ⟨v1, rfl, rfl⟩
  refine RW.frz 0 4 rfl rfl (Vw.row 0 rfl) ?_
  obtain ⟨x1, hx1, hm⟩ := bnd hm
  refine RW.c rfl rfl rfl (Yc.fnV (σp := []) (args' := [.sl 1 (cN .u8) ([p0] : List Int), .i 96]) rfl rfl ok37 rfl rfl rfl (VwL.id _) (m37_ok ([p0] : List Int) 96 hx1)) ?_
  rintro _ _ ⟨_, ⟨rfl, rfl⟩, rfl⟩
  refine RW.p rfl rfl rfl (Yp.assign rfl rfl) ?_
  refine RW.nil ?_
  refine CW.ret ?_
  cases hm
  exact fin1 (.inr rfl) rfl (ResIs.tmp rfl) (List.nil_sublist _) ⟨rfl, rfl⟩

def m40_l1 (p0 : Disk) : Nat → (List (List Int)) → Int → Option (List (List Int))
  | 0, _, _ => none
  | k1 + 1, l4, n3 =>
    if (decide (n3 < (p0.fDurable.length : Int))) = true then
      Option.bind (
        if 0 ≤ n3 ∧ n3 < (p0.fDurable.length : Int) then
        (m39 (p0.fDurable[Int.toNat n3]!)).bind fun x1 =>
        if (l4 ++ [x1]).length ≤ 1073741824 then
        some (l4 ++ [x1])
        else none
        else none) fun l6 =>
      m40_l1 p0 k1 l6 (w64 (n3 + 1))
    else
      some l4
def m40_l2 (p0 : Disk) : Nat → (List Write) → Int → Option (List Write)
  | 0, _, _ => none
  | k2 + 1, l10, n6 =>
    if (decide (n6 < (p0.fPending.length : Int))) = true then
      Option.bind (
        if 0 ≤ n6 ∧ n6 < (p0.fPending.length : Int) then
        (m39 ((p0.fPending[Int.toNat n6]!).fData)).bind fun x2 =>
        if (l10 ++ [(Write.mk ((p0.fPending[Int.toNat n6]!).fAt) x2)]).length ≤ 1073741824 then
        some (l10 ++ [(Write.mk ((p0.fPending[Int.toNat n6]!).fAt) x2)])
        else none
        else none) fun l12 =>
      m40_l2 p0 k2 l12 (w64 (n6 + 1))
    else
      some l10
def m40 (p0 : Disk) : Option Disk :=
  Option.bind (
    (m40_l1 p0 (Int.toNat (p0.fDurable.length : Int) + 1) [] 0).bind fun l5 =>
    some l5) fun l1 =>
  Option.bind (
    (m40_l2 p0 (Int.toNat (p0.fPending.length : Int) + 1) [] 0).bind fun l11 =>
    some l11) fun l7 =>
  some (Disk.mk l1 l7 p0.fLeft p0.fDown)

theorem m40_ok (p0 : Disk)  {r : Disk} (hm : m40 p0 = some r) : Ab.Fn Try.prog 40 [.agg [.sl 1 (cL 1 (cN .u8)) p0.fDurable, .sl 2 Write.cells p0.fPending, .i p0.fLeft, .b p0.fDown]] [] (fun a s => a = .agg [.sl 1 (cL 1 (cN .u8)) r.fDurable, .sl 2 Write.cells r.fPending, .i r.fLeft, .b r.fDown] ∧ s = []) := by
  rw [m40] at hm
  refine Ab.Fn.of Try.func40 rfl rfl rfl (fun C => ?_)
  refine CW.seq ?_
  refine CW.region ?_
  refine RW.v rfl rfl rfl (Yv.box rfl rfl (Pw.p rfl)) ?_
  rintro _ _ ⟨b1, rfl, rfl⟩
  refine RW.v rfl rfl rfl (Yv.alloc rfl zerb26) ?_
  rintro _ _ ⟨b2, rfl, rfl⟩
  refine RW.nil ?_
  refine CW.seq ?_
  refine CW.region ?_
  refine RW.p rfl rfl rfl (Yp.loadBN 1 rfl rfl rfl many26 (Nat.le_of_ble_eq_true rfl)) ?_
  refine RW.v rfl rfl rfl (Yv.alloc rfl zerb26) ?_
  rintro _ _ ⟨b3, rfl, rfl⟩
  refine RW.u rfl rfl (Yu.storeB 0 rfl rfl rfl rfl sz26 (Pw.p rfl) rfl (Nat.le_of_ble_eq_true rfl)) ?_
  refine RW.nil ?_
  refine CW.seq ?_
  refine CW.region ?_
  refine RW.p rfl rfl rfl (Yp.fieldP rfl rfl Try.underlying26 rfl sz23) ?_
  refine RW.u rfl rfl (Yu.storeB 0 rfl rfl rfl rfl sz23 (Pw.p rfl) rfl (Nat.le_of_ble_eq_true rfl)) ?_
  refine RW.p rfl rfl rfl (Yp.fieldP rfl rfl Try.underlying26 rfl sz24) ?_
  refine RW.u rfl rfl (Yu.storeB 0 rfl rfl rfl rfl sz24 (Pw.p rfl) rfl (Nat.le_of_ble_eq_true rfl)) ?_
  refine RW.nil ?_
  refine CW.seq ?_
  obtain ⟨l1, hs1, hk1⟩ := bnd hm
  refine CW.cut (fun E σ => ∃ v1 : Value, Sub [(1, .lit (.pointer (some ⟨b1, 0, none⟩))), (2, .lit (.pointer (some ⟨b2, 0, none⟩))), (3, .lit (.pointer (some ⟨b3, 0, none⟩)))] E ∧ σ = [.box b1 26 [.sl 1 (cL 1 (cN .u8)) p0.fDurable, .sl 2 Write.cells p0.fPending, .i p0.fLeft, .b p0.fDown], .box b2 26 [.lit (.slice none 0 0), .lit (.slice none 0 0), .i 0, .b false], .box b3 26 [.lit v1, .lit (.slice none 0 0), .i p0.fLeft, .b p0.fDown], .row v1 29 1 (cL 1 (cN .u8)) l1]) ?_ ?_
  ·
    have hm := hs1
    refine CW.seq ?_
    refine CW.region ?_
    refine RW.p rfl rfl rfl (Yp.fieldP rfl rfl Try.underlying26 rfl sz23) ?_
    refine RW.p rfl rfl rfl (Yp.loadB1 2 rfl rfl rfl one23 rfl) ?_
    refine RW.p rfl rfl rfl (Yp.lenSl rfl rfl Try.underlying23) ?_
    refine RW.p rfl rfl rfl (Yp.move rfl rfl) ?_
    refine RW.nil ?_
    refine CW.block ?_
    refine CW.own none 29 1 (cL 1 (cN .u8)) ?_
    refine CW.sel [3, 2, 1, 0] rfl ?_
    obtain ⟨l5, hs2, hk2⟩ := bnd hm
    refine CW.lp (fun k1 E σ => ∃ l4 : List (List Int), ∃ n3 : Int, ∃ v4 : Value, Sub [(1, .lit (.pointer (some ⟨b1, 0, none⟩))), (2, .lit (.pointer (some ⟨b2, 0, none⟩))), (3, .lit (.pointer (some ⟨b3, 0, none⟩))), (12, .sl 1 (cL 1 (cN .u8)) p0.fDurable), (13, .i (p0.fDurable.length : Int)), (14, .i n3)] E ∧ σ = [.box b1 26 [.sl 1 (cL 1 (cN .u8)) p0.fDurable, .sl 2 Write.cells p0.fPending, .i p0.fLeft, .b p0.fDown], .box b2 26 [.lit (.slice none 0 0), .lit (.slice none 0 0), .i 0, .b false], .box b3 26 [.lit v4, .lit (.slice none 0 0), .i p0.fLeft, .b p0.fDown], .row v4 29 1 (cL 1 (cN .u8)) l4] ∧ m40_l1 p0 k1 l4 n3 = some l5) (Int.toNat (p0.fDurable.length : Int) + 1) ?_ ?_
    · exact ⟨[], 0, (.slice none 0 0), (Sub.cons rfl (Sub.cons rfl (Sub.cons rfl (Sub.cons rfl (Sub.cons rfl (Sub.cons rfl Sub.nil)))))), rfl, hs2⟩
    ·
      rintro k1 E σ ⟨l4, n3, v4, hsub1, rfl, hm⟩
      refine CW.weak ?_ hsub1
      cases k1 with
      | zero => cases hm
      | succ k1 =>
        rw [m40_l1] at hm
        refine CW.seq ?_
        refine CW.region ?_
        refine RW.p rfl rfl rfl (Yp.lss rfl rfl rfl) ?_
        refine RW.nil ?_
        refine CW.seq ?_
        refine CW.cond rfl (fun hb1 => ?_) (fun hb1 => ?_)
        ·
          have hm := ift hm hb1
          refine CW.skip ?_
          refine CW.seq ?_
          obtain ⟨l6, hs3, hk3⟩ := bnd hm
          refine CW.cut (fun E σ => ∃ v6 : Value, Sub [(1, .lit (.pointer (some ⟨b1, 0, none⟩))), (2, .lit (.pointer (some ⟨b2, 0, none⟩))), (3, .lit (.pointer (some ⟨b3, 0, none⟩))), (12, .sl 1 (cL 1 (cN .u8)) p0.fDurable), (13, .i (p0.fDurable.length : Int)), (14, .i n3)] E ∧ σ = [.box b1 26 [.sl 1 (cL 1 (cN .u8)) p0.fDurable, .sl 2 Write.cells p0.fPending, .i p0.fLeft, .b p0.fDown], .box b2 26 [.lit (.slice none 0 0), .lit (.slice none 0 0), .i 0, .b false], .box b3 26 [.lit v6, .lit (.slice none 0 0), .i p0.fLeft, .b p0.fDown], .row v6 29 1 (cL 1 (cN .u8)) l6]) ?_ ?_
          ·
            have hm := hs3
            refine CW.block ?_
            refine CW.seq ?_
            refine CW.region ?_
            obtain ⟨hc1, hm⟩ := chk hm
            refine RW.p rfl rfl rfl (Yp.indexSl rfl rfl rfl Try.underlying23 sz29 hc1) ?_
            refine RW.p rfl rfl rfl (Yp.loadF1 rfl rfl one29 rfl) ?_
            refine RW.p rfl rfl rfl (Yp.assign rfl rfl) ?_
            refine RW.nil ?_
            obtain ⟨x1, hx1, hm⟩ := bnd hm
            obtain ⟨hc2, hm⟩ := chk hm
            refine CW.drawSel 8 rfl [2, 2, 0, 0] [.box b3 26 [.lit v4, .lit (.slice none 0 0), .i p0.fLeft, .b p0.fDown], .row v4 29 1 (cL 1 (cN .u8)) l4] [.box b1 26 [.sl 1 (cL 1 (cN .u8)) p0.fDurable, .sl 2 Write.cells p0.fPending, .i p0.fLeft, .b p0.fDown], .box b2 26 [.lit (.slice none 0 0), .lit (.slice none 0 0), .i 0, .b false]] rfl (by kernel_rfl) ?_
            intro A1 w1 hB1
            refine RH.take 0 rfl (by kernel_rfl) rfl rfl rfl hB1 (Yp.fieldP rfl rfl Try.underlying26 rfl sz23) ?_
            refine RH.take 2 rfl (by kernel_rfl) rfl rfl rfl hB1 (Yp.move rfl rfl) ?_
            refine RH.two 1 3 (by kernel_rfl) ?_ ?_
            ·
              refine RO.p rfl rfl rfl rfl rfl (Yp.loadB1 2 rfl rfl rfl one23 rfl) ?_
              refine RH.one 3 (by kernel_rfl) ?_
              refine RO.c rfl rfl rfl rfl rfl (Yc.fnV (σp := []) (args' := [.sl 1 (cN .u8) (p0.fDurable[Int.toNat n3]!)]) rfl rfl ok39 rfl rfl rfl (VwL.id _) (m39_ok (p0.fDurable[Int.toNat n3]!) hx1)) (fun b hb => absurd hb (by simp [blks])) ?_
              rintro _ _ ⟨_, ⟨rfl, rfl⟩, rfl⟩
              refine RH.one 4 (by kernel_rfl) ?_
              refine RO.v rfl rfl rfl rfl rfl (Yv.lit (cL 1 (cN .u8)) ([x1] : List (List Int)) rfl Try.underlying23 sz29 zer29 rfl rfl rfl rfl rfl (fun i hi => by match i, hi with | 0, _ => rfl) (by decide) (by decide)) (fun b hb => absurd hb (by simp)) ?_
              rintro _ _ ⟨v9, rfl, rfl⟩
              refine RH.one 5 (by kernel_rfl) ?_
              refine RO.v rfl rfl rfl rfl rfl (Yv.app (l := l4) (l2 := ([x1] : List (List Int))) 4 rfl rfl rfl (.inr (.inr ⟨0, _, rfl, rfl⟩)) Try.underlying23 szb29 zer29 rfl rfl (fun _ => rfl) hc2) (inX (r := .row v4 29 1 (cL 1 (cN .u8)) l4) 1 rfl) ?_
              rintro _ _ ⟨v10, rfl, rfl⟩
              refine RH.take 6 rfl (by kernel_rfl) rfl rfl rfl hB1 (Yp.fieldP rfl rfl Try.underlying26 rfl sz23) ?_
              refine RH.one 7 (by kernel_rfl) ?_
              refine RO.u rfl rfl rfl (Yu.storeB 3 rfl rfl rfl rfl sz23 (Pw.own 4 rfl) rfl (Nat.le_of_ble_eq_true rfl)) (inX (r := .box b3 26 [.lit v4, .lit (.slice none 0 0), .i p0.fLeft, .b p0.fDown]) 0 rfl) ?_
              refine RH.sel [1, 1, 1, 1] rfl ?_
              refine RH.done (by kernel_rfl) ?_
              cases hm
              exact ⟨v10, (Sub.cons rfl (Sub.cons rfl (Sub.cons rfl (Sub.cons rfl (Sub.cons rfl (Sub.cons rfl Sub.nil)))))), rfl⟩
            ·
              refine RO.c rfl rfl rfl rfl rfl (Yc.fnV (σp := []) (args' := [.sl 1 (cN .u8) (p0.fDurable[Int.toNat n3]!)]) rfl rfl ok39 rfl rfl rfl (VwL.id _) (m39_ok (p0.fDurable[Int.toNat n3]!) hx1)) (fun b hb => absurd hb (by simp [blks])) ?_
              rintro _ _ ⟨_, ⟨rfl, rfl⟩, rfl⟩
              refine RH.two 1 4 (by kernel_rfl) ?_ ?_
              ·
                refine RO.p rfl rfl rfl rfl rfl (Yp.loadB1 2 rfl rfl rfl one23 rfl) ?_
                refine RH.one 4 (by kernel_rfl) ?_
                refine RO.v rfl rfl rfl rfl rfl (Yv.lit (cL 1 (cN .u8)) ([x1] : List (List Int)) rfl Try.underlying23 sz29 zer29 rfl rfl rfl rfl rfl (fun i hi => by match i, hi with | 0, _ => rfl) (by decide) (by decide)) (fun b hb => absurd hb (by simp)) ?_
                rintro _ _ ⟨v11, rfl, rfl⟩
                refine RH.one 5 (by kernel_rfl) ?_
                refine RO.v rfl rfl rfl rfl rfl (Yv.app (l := l4) (l2 := ([x1] : List (List Int))) 4 rfl rfl rfl (.inr (.inr ⟨0, _, rfl, rfl⟩)) Try.underlying23 szb29 zer29 rfl rfl (fun _ => rfl) hc2) (inX (r := .row v4 29 1 (cL 1 (cN .u8)) l4) 1 rfl) ?_
                rintro _ _ ⟨v12, rfl, rfl⟩
                refine RH.take 6 rfl (by kernel_rfl) rfl rfl rfl hB1 (Yp.fieldP rfl rfl Try.underlying26 rfl sz23) ?_
                refine RH.one 7 (by kernel_rfl) ?_
                refine RO.u rfl rfl rfl (Yu.storeB 3 rfl rfl rfl rfl sz23 (Pw.own 4 rfl) rfl (Nat.le_of_ble_eq_true rfl)) (inX (r := .box b3 26 [.lit v4, .lit (.slice none 0 0), .i p0.fLeft, .b p0.fDown]) 0 rfl) ?_
                refine RH.sel [1, 1, 1, 1] rfl ?_
                refine RH.done (by kernel_rfl) ?_
                cases hm
                exact ⟨v12, (Sub.cons rfl (Sub.cons rfl (Sub.cons rfl (Sub.cons rfl (Sub.cons rfl (Sub.cons rfl Sub.nil)))))), rfl⟩
              ·
                refine RO.v rfl rfl rfl rfl rfl (Yv.lit (cL 1 (cN .u8)) ([x1] : List (List Int)) rfl Try.underlying23 sz29 zer29 rfl rfl rfl rfl rfl (fun i hi => by match i, hi with | 0, _ => rfl) (by decide) (by decide)) (fun b hb => absurd hb (by simp)) ?_
                rintro _ _ ⟨v13, rfl, rfl⟩
                refine RH.one 1 (by kernel_rfl) ?_
                refine RO.p rfl rfl rfl rfl rfl (Yp.loadB1 3 rfl rfl rfl one23 rfl) ?_
                refine RH.one 5 (by kernel_rfl) ?_
                refine RO.v rfl rfl rfl rfl rfl (Yv.app (l := l4) (l2 := ([x1] : List (List Int))) 4 rfl rfl rfl (.inr (.inr ⟨0, _, rfl, rfl⟩)) Try.underlying23 szb29 zer29 rfl rfl (fun _ => rfl) hc2) (inX (r := .row v4 29 1 (cL 1 (cN .u8)) l4) 1 rfl) ?_
                rintro _ _ ⟨v14, rfl, rfl⟩
                refine RH.take 6 rfl (by kernel_rfl) rfl rfl rfl hB1 (Yp.fieldP rfl rfl Try.underlying26 rfl sz23) ?_
                refine RH.one 7 (by kernel_rfl) ?_
                refine RO.u rfl rfl rfl (Yu.storeB 3 rfl rfl rfl rfl sz23 (Pw.own 4 rfl) rfl (Nat.le_of_ble_eq_true rfl)) (inX (r := .box b3 26 [.lit v4, .lit (.slice none 0 0), .i p0.fLeft, .b p0.fDown]) 0 rfl) ?_
                refine RH.sel [1, 1, 1, 1] rfl ?_
                refine RH.done (by kernel_rfl) ?_
                cases hm
                exact ⟨v14, (Sub.cons rfl (Sub.cons rfl (Sub.cons rfl (Sub.cons rfl (Sub.cons rfl (Sub.cons rfl Sub.nil)))))), rfl⟩
          ·
            rintro E σ ⟨v6, hsub2, rfl⟩
            have hm := hk3
            refine CW.weak ?_ hsub2
            refine CW.region ?_
            refine RW.p rfl rfl rfl (Yp.add rfl rfl rfl) ?_
            refine RW.p rfl rfl rfl (Yp.move rfl rfl) ?_
            refine RW.nil ?_
            exact ⟨k1, Nat.lt_succ_self _, _, _, v6, (Sub.cons rfl (Sub.cons rfl (Sub.cons rfl (Sub.cons rfl (Sub.cons rfl (Sub.cons rfl Sub.nil)))))), rfl, hm⟩
        ·
          have hm := iff' hm hb1
          refine CW.exit ?_
          cases hm
          have hm := hk2
          cases hm
          exact ⟨v4, (Sub.cons rfl (Sub.cons rfl (Sub.cons rfl Sub.nil))), rfl⟩
  ·
    rintro E σ ⟨v1, hsub3, rfl⟩
    have hm := hk1
    refine CW.weak ?_ hsub3
    refine CW.seq ?_
    obtain ⟨l7, hs4, hk4⟩ := bnd hm
    refine CW.cut (fun E σ => ∃ v15 : Value, Sub [(2, .lit (.pointer (some ⟨b2, 0, none⟩))), (3, .lit (.pointer (some ⟨b3, 0, none⟩)))] E ∧ σ = [.box b2 26 [.lit (.slice none 0 0), .lit (.slice none 0 0), .i 0, .b false], .box b3 26 [.lit v1, .lit v15, .i p0.fLeft, .b p0.fDown], .row v1 29 1 (cL 1 (cN .u8)) l1, .row v15 56 2 Write.cells l7]) ?_ ?_
    ·
      have hm := hs4
      refine CW.seq ?_
      refine CW.region ?_
      refine RW.p rfl rfl rfl (Yp.fieldP rfl rfl Try.underlying26 rfl sz24) ?_
      refine RW.p rfl rfl rfl (Yp.loadB1 0 rfl rfl rfl one24 rfl) ?_
      refine RW.p rfl rfl rfl (Yp.lenSl rfl rfl Try.underlying24) ?_
      refine RW.p rfl rfl rfl (Yp.move rfl rfl) ?_
      refine RW.nil ?_
      refine CW.block ?_
      refine CW.own none 56 2 Write.cells ?_
      refine CW.sel [2, 2, 2, 0] rfl ?_
      obtain ⟨l11, hs5, hk5⟩ := bnd hm
      refine CW.lp (fun k2 E σ => ∃ l10 : List Write, ∃ n6 : Int, ∃ v18 : Value, Sub [(2, .lit (.pointer (some ⟨b2, 0, none⟩))), (3, .lit (.pointer (some ⟨b3, 0, none⟩))), (27, .sl 2 Write.cells p0.fPending), (28, .i (p0.fPending.length : Int)), (29, .i n6)] E ∧ σ = [.box b2 26 [.lit (.slice none 0 0), .lit (.slice none 0 0), .i 0, .b false], .box b3 26 [.lit v1, .lit v18, .i p0.fLeft, .b p0.fDown], .row v1 29 1 (cL 1 (cN .u8)) l1, .row v18 56 2 Write.cells l10] ∧ m40_l2 p0 k2 l10 n6 = some l11) (Int.toNat (p0.fPending.length : Int) + 1) ?_ ?_
      · exact ⟨[], 0, (.slice none 0 0), (Sub.cons rfl (Sub.cons rfl (Sub.cons rfl (Sub.cons rfl (Sub.cons rfl Sub.nil))))), rfl, hs5⟩
      ·
        rintro k2 E σ ⟨l10, n6, v18, hsub4, rfl, hm⟩
        refine CW.weak ?_ hsub4
        cases k2 with
        | zero => cases hm
        | succ k2 =>
          rw [m40_l2] at hm
          refine CW.seq ?_
          refine CW.region ?_
          refine RW.p rfl rfl rfl (Yp.lss rfl rfl rfl) ?_
          refine RW.nil ?_
          refine CW.seq ?_
          refine CW.cond rfl (fun hb2 => ?_) (fun hb2 => ?_)
          ·
            have hm := ift hm hb2
            refine CW.skip ?_
            refine CW.seq ?_
            obtain ⟨l12, hs6, hk6⟩ := bnd hm
            refine CW.cut (fun E σ => ∃ v20 : Value, Sub [(2, .lit (.pointer (some ⟨b2, 0, none⟩))), (3, .lit (.pointer (some ⟨b3, 0, none⟩))), (27, .sl 2 Write.cells p0.fPending), (28, .i (p0.fPending.length : Int)), (29, .i n6)] E ∧ σ = [.box b2 26 [.lit (.slice none 0 0), .lit (.slice none 0 0), .i 0, .b false], .box b3 26 [.lit v1, .lit v20, .i p0.fLeft, .b p0.fDown], .row v1 29 1 (cL 1 (cN .u8)) l1, .row v20 56 2 Write.cells l12]) ?_ ?_
            ·
              have hm := hs6
              refine CW.block ?_
              refine CW.seq ?_
              refine CW.region ?_
              obtain ⟨hc3, hm⟩ := chk hm
              refine RW.p rfl rfl rfl (Yp.indexSl rfl rfl rfl Try.underlying24 sz56 hc3) ?_
              refine RW.p rfl rfl rfl (Yp.loadFN rfl rfl many56 (Nat.le_of_ble_eq_true rfl)) ?_
              refine RW.v rfl rfl rfl (Yv.alloc rfl zerb56) ?_
              rintro _ _ ⟨b4, rfl, rfl⟩
              refine RW.u rfl rfl (Yu.storeB 0 rfl rfl rfl rfl sz56 (Pw.p rfl) rfl (Nat.le_of_ble_eq_true rfl)) ?_
              refine RW.nil ?_
              obtain ⟨x2, hx2, hm⟩ := bnd hm
              obtain ⟨hc4, hm⟩ := chk hm
              refine CW.drawSel 12 rfl [2, 2, 2, 0, 0] [.box b3 26 [.lit v1, .lit v18, .i p0.fLeft, .b p0.fDown], .row v1 29 1 (cL 1 (cN .u8)) l1, .row v18 56 2 Write.cells l10] [.box b4 56 [.i ((p0.fPending[Int.toNat n6]!).fAt), .sl 1 (cN .u8) ((p0.fPending[Int.toNat n6]!).fData)], .box b2 26 [.lit (.slice none 0 0), .lit (.slice none 0 0), .i 0, .b false]] rfl (by kernel_rfl) ?_
              intro A2 w2 hB2
              refine RH.take 0 rfl (by kernel_rfl) rfl rfl rfl hB2 (Yp.fieldP rfl rfl Try.underlying26 rfl sz24) ?_
              refine RH.take 2 rfl (by kernel_rfl) rfl rfl rfl hB2 (Yp.fieldP rfl rfl Try.underlying56 rfl sz3) ?_
              refine RH.take 3 rfl (by kernel_rfl) rfl rfl rfl hB2 (Yp.loadB1 0 rfl rfl rfl one3 rfl) ?_
              refine RH.take 4 rfl (by kernel_rfl) rfl rfl rfl hB2 (Yp.fieldP rfl rfl Try.underlying56 rfl sz29) ?_
              refine RH.take 5 rfl (by kernel_rfl) rfl rfl rfl hB2 (Yp.loadB1 0 rfl rfl rfl one29 rfl) ?_
              refine RH.two 1 6 (by kernel_rfl) ?_ ?_
              ·
                refine RO.p rfl rfl rfl rfl rfl (Yp.loadB1 2 rfl rfl rfl one24 rfl) ?_
                refine RH.one 6 (by kernel_rfl) ?_
                refine RO.c rfl rfl rfl rfl rfl (Yc.fnV (σp := []) (args' := [.sl 1 (cN .u8) ((p0.fPending[Int.toNat n6]!).fData)]) rfl rfl ok39 rfl rfl rfl (VwL.id _) (m39_ok ((p0.fPending[Int.toNat n6]!).fData) hx2)) (fun b hb => absurd hb (by simp [blks])) ?_
                rintro _ _ ⟨_, ⟨rfl, rfl⟩, rfl⟩
                refine RH.one 7 (by kernel_rfl) ?_
                refine RO.p rfl rfl rfl rfl rfl (Yp.build rfl plc56 zer56 rfl rfl) ?_
                refine RH.one 8 (by kernel_rfl) ?_
                refine RO.v rfl rfl rfl rfl rfl (Yv.lit Write.cells ([(Write.mk ((p0.fPending[Int.toNat n6]!).fAt) x2)] : List Write) rfl Try.underlying24 sz56 zer56 rfl rfl rfl rfl rfl (fun i hi => by match i, hi with | 0, _ => rfl) (by decide) (by decide)) (fun b hb => absurd hb (by simp)) ?_
                rintro _ _ ⟨v23, rfl, rfl⟩
                refine RH.one 9 (by kernel_rfl) ?_
                refine RO.v rfl rfl rfl rfl rfl (Yv.app (l := l10) (l2 := ([(Write.mk ((p0.fPending[Int.toNat n6]!).fAt) x2)] : List Write)) 5 rfl rfl rfl (.inr (.inr ⟨0, _, rfl, rfl⟩)) Try.underlying24 szb56 zer56 rfl rfl (fun _ => rfl) hc4) (inX (r := .row v18 56 2 Write.cells l10) 2 rfl) ?_
                rintro _ _ ⟨v24, rfl, rfl⟩
                refine RH.take 10 rfl (by kernel_rfl) rfl rfl rfl hB2 (Yp.fieldP rfl rfl Try.underlying26 rfl sz24) ?_
                refine RH.one 11 (by kernel_rfl) ?_
                refine RO.u rfl rfl rfl (Yu.storeB 3 rfl rfl rfl rfl sz24 (Pw.own 5 rfl) rfl (Nat.le_of_ble_eq_true rfl)) (inX (r := .box b3 26 [.lit v1, .lit v18, .i p0.fLeft, .b p0.fDown]) 0 rfl) ?_
                refine RH.sel [2, 2, 2, 2] rfl ?_
                refine RH.done (by kernel_rfl) ?_
                cases hm
                exact ⟨v24, (Sub.cons rfl (Sub.cons rfl (Sub.cons rfl (Sub.cons rfl (Sub.cons rfl Sub.nil))))), rfl⟩
              ·
                refine RO.c rfl rfl rfl rfl rfl (Yc.fnV (σp := []) (args' := [.sl 1 (cN .u8) ((p0.fPending[Int.toNat n6]!).fData)]) rfl rfl ok39 rfl rfl rfl (VwL.id _) (m39_ok ((p0.fPending[Int.toNat n6]!).fData) hx2)) (fun b hb => absurd hb (by simp [blks])) ?_
                rintro _ _ ⟨_, ⟨rfl, rfl⟩, rfl⟩
                refine RH.two 1 7 (by kernel_rfl) ?_ ?_
                ·
                  refine RO.p rfl rfl rfl rfl rfl (Yp.loadB1 2 rfl rfl rfl one24 rfl) ?_
                  refine RH.one 7 (by kernel_rfl) ?_
                  refine RO.p rfl rfl rfl rfl rfl (Yp.build rfl plc56 zer56 rfl rfl) ?_
                  refine RH.one 8 (by kernel_rfl) ?_
                  refine RO.v rfl rfl rfl rfl rfl (Yv.lit Write.cells ([(Write.mk ((p0.fPending[Int.toNat n6]!).fAt) x2)] : List Write) rfl Try.underlying24 sz56 zer56 rfl rfl rfl rfl rfl (fun i hi => by match i, hi with | 0, _ => rfl) (by decide) (by decide)) (fun b hb => absurd hb (by simp)) ?_
                  rintro _ _ ⟨v25, rfl, rfl⟩
                  refine RH.one 9 (by kernel_rfl) ?_
                  refine RO.v rfl rfl rfl rfl rfl (Yv.app (l := l10) (l2 := ([(Write.mk ((p0.fPending[Int.toNat n6]!).fAt) x2)] : List Write)) 5 rfl rfl rfl (.inr (.inr ⟨0, _, rfl, rfl⟩)) Try.underlying24 szb56 zer56 rfl rfl (fun _ => rfl) hc4) (inX (r := .row v18 56 2 Write.cells l10) 2 rfl) ?_
                  rintro _ _ ⟨v26, rfl, rfl⟩
                  refine RH.take 10 rfl (by kernel_rfl) rfl rfl rfl hB2 (Yp.fieldP rfl rfl Try.underlying26 rfl sz24) ?_
                  refine RH.one 11 (by kernel_rfl) ?_
                  refine RO.u rfl rfl rfl (Yu.storeB 3 rfl rfl rfl rfl sz24 (Pw.own 5 rfl) rfl (Nat.le_of_ble_eq_true rfl)) (inX (r := .box b3 26 [.lit v1, .lit v18, .i p0.fLeft, .b p0.fDown]) 0 rfl) ?_
                  refine RH.sel [2, 2, 2, 2] rfl ?_
                  refine RH.done (by kernel_rfl) ?_
                  cases hm
                  exact ⟨v26, (Sub.cons rfl (Sub.cons rfl (Sub.cons rfl (Sub.cons rfl (Sub.cons rfl Sub.nil))))), rfl⟩
                ·
                  refine RO.p rfl rfl rfl rfl rfl (Yp.build rfl plc56 zer56 rfl rfl) ?_
                  refine RH.two 1 8 (by kernel_rfl) ?_ ?_
                  ·
                    refine RO.p rfl rfl rfl rfl rfl (Yp.loadB1 2 rfl rfl rfl one24 rfl) ?_
                    refine RH.one 8 (by kernel_rfl) ?_
                    refine RO.v rfl rfl rfl rfl rfl (Yv.lit Write.cells ([(Write.mk ((p0.fPending[Int.toNat n6]!).fAt) x2)] : List Write) rfl Try.underlying24 sz56 zer56 rfl rfl rfl rfl rfl (fun i hi => by match i, hi with | 0, _ => rfl) (by decide) (by decide)) (fun b hb => absurd hb (by simp)) ?_
                    rintro _ _ ⟨v27, rfl, rfl⟩
                    refine RH.one 9 (by kernel_rfl) ?_
                    refine RO.v rfl rfl rfl rfl rfl (Yv.app (l := l10) (l2 := ([(Write.mk ((p0.fPending[Int.toNat n6]!).fAt) x2)] : List Write)) 5 rfl rfl rfl (.inr (.inr ⟨0, _, rfl, rfl⟩)) Try.underlying24 szb56 zer56 rfl rfl (fun _ => rfl) hc4) (inX (r := .row v18 56 2 Write.cells l10) 2 rfl) ?_
                    rintro _ _ ⟨v28, rfl, rfl⟩
                    refine RH.take 10 rfl (by kernel_rfl) rfl rfl rfl hB2 (Yp.fieldP rfl rfl Try.underlying26 rfl sz24) ?_
                    refine RH.one 11 (by kernel_rfl) ?_
                    refine RO.u rfl rfl rfl (Yu.storeB 3 rfl rfl rfl rfl sz24 (Pw.own 5 rfl) rfl (Nat.le_of_ble_eq_true rfl)) (inX (r := .box b3 26 [.lit v1, .lit v18, .i p0.fLeft, .b p0.fDown]) 0 rfl) ?_
                    refine RH.sel [2, 2, 2, 2] rfl ?_
                    refine RH.done (by kernel_rfl) ?_
                    cases hm
                    exact ⟨v28, (Sub.cons rfl (Sub.cons rfl (Sub.cons rfl (Sub.cons rfl (Sub.cons rfl Sub.nil))))), rfl⟩
                  ·
                    refine RO.v rfl rfl rfl rfl rfl (Yv.lit Write.cells ([(Write.mk ((p0.fPending[Int.toNat n6]!).fAt) x2)] : List Write) rfl Try.underlying24 sz56 zer56 rfl rfl rfl rfl rfl (fun i hi => by match i, hi with | 0, _ => rfl) (by decide) (by decide)) (fun b hb => absurd hb (by simp)) ?_
                    rintro _ _ ⟨v29, rfl, rfl⟩
                    refine RH.one 1 (by kernel_rfl) ?_
                    refine RO.p rfl rfl rfl rfl rfl (Yp.loadB1 3 rfl rfl rfl one24 rfl) ?_
                    refine RH.one 9 (by kernel_rfl) ?_
                    refine RO.v rfl rfl rfl rfl rfl (Yv.app (l := l10) (l2 := ([(Write.mk ((p0.fPending[Int.toNat n6]!).fAt) x2)] : List Write)) 5 rfl rfl rfl (.inr (.inr ⟨0, _, rfl, rfl⟩)) Try.underlying24 szb56 zer56 rfl rfl (fun _ => rfl) hc4) (inX (r := .row v18 56 2 Write.cells l10) 2 rfl) ?_
                    rintro _ _ ⟨v30, rfl, rfl⟩
                    refine RH.take 10 rfl (by kernel_rfl) rfl rfl rfl hB2 (Yp.fieldP rfl rfl Try.underlying26 rfl sz24) ?_
                    refine RH.one 11 (by kernel_rfl) ?_
                    refine RO.u rfl rfl rfl (Yu.storeB 3 rfl rfl rfl rfl sz24 (Pw.own 5 rfl) rfl (Nat.le_of_ble_eq_true rfl)) (inX (r := .box b3 26 [.lit v1, .lit v18, .i p0.fLeft, .b p0.fDown]) 0 rfl) ?_
                    refine RH.sel [2, 2, 2, 2] rfl ?_
                    refine RH.done (by kernel_rfl) ?_
                    cases hm
                    exact ⟨v30, (Sub.cons rfl (Sub.cons rfl (Sub.cons rfl (Sub.cons rfl (Sub.cons rfl Sub.nil))))), rfl⟩
            ·
              rintro E σ ⟨v20, hsub5, rfl⟩
              have hm := hk6
              refine CW.weak ?_ hsub5
              refine CW.region ?_
              refine RW.p rfl rfl rfl (Yp.add rfl rfl rfl) ?_
              refine RW.p rfl rfl rfl (Yp.move rfl rfl) ?_
              refine RW.nil ?_
              exact ⟨k2, Nat.lt_succ_self _, _, _, v20, (Sub.cons rfl (Sub.cons rfl (Sub.cons rfl (Sub.cons rfl (Sub.cons rfl Sub.nil))))), rfl, hm⟩
          ·
            have hm := iff' hm hb2
            refine CW.exit ?_
            cases hm
            have hm := hk5
            cases hm
            exact ⟨v18, (Sub.cons rfl (Sub.cons rfl Sub.nil)), rfl⟩
    ·
      rintro E σ ⟨v15, hsub6, rfl⟩
      have hm := hk4
      refine CW.weak ?_ hsub6
      refine CW.seq ?_
      refine CW.region ?_
      refine RW.p rfl rfl rfl (Yp.loadBN 1 rfl rfl rfl many26 (Nat.le_of_ble_eq_true rfl)) ?_
      refine RW.u rfl rfl (Yu.storeB 0 rfl rfl rfl rfl sz26 (Pw.agg (PwL.own 2 rfl (PwL.own 3 rfl (PwL.p rfl (PwL.p rfl PwL.nil))))) rfl (Nat.le_of_ble_eq_true rfl)) ?_
      refine RW.nil ?_
      refine CW.frzB 2 0 rfl rfl (VwL.cons (Vw.row 0 rfl) (VwL.cons (Vw.id _) (VwL.cons (Vw.id _) (VwL.cons (Vw.id _) VwL.nil)))) ?_
      refine CW.frzB 2 0 rfl rfl (VwL.cons (Vw.id _) (VwL.cons (Vw.row 0 rfl) (VwL.cons (Vw.id _) (VwL.cons (Vw.id _) VwL.nil)))) ?_
      refine CW.ret ?_
      cases hm
      exact fin1 (.inr rfl) rfl (ResIs.cellN 0 rfl rfl many26 rfl) (List.nil_sublist _) ⟨rfl, rfl⟩

def m41 (p0 : Disk) : Option (Bool × Disk) :=
  Option.bind (
    if (decide (p0.fLeft = 0)) = true then
      some (Sum.inr (false, (Disk.mk p0.fDurable p0.fPending p0.fLeft true)))
    else
      if (decide ((0 : Int) < p0.fLeft)) = true then
        some (Sum.inl (w64 (p0.fLeft - 1)))
      else
        some (Sum.inl p0.fLeft)) fun o1 =>
  match o1 with
  | .inl n1 =>
    some (true, (Disk.mk p0.fDurable p0.fPending n1 p0.fDown))
  | .inr r =>
    some r

theorem m41_ok (p0 : Disk) (pb0 : Nat) {r : Bool × Disk} (hm : m41 p0 = some r) : Ab.Fn Try.prog 41 [.lit (.pointer (some ⟨pb0, 0, none⟩))] [.box pb0 26 [.sl 1 (cL 1 (cN .u8)) p0.fDurable, .sl 2 Write.cells p0.fPending, .i p0.fLeft, .b p0.fDown]] (fun a s => a = .b r.1 ∧ s = [.box pb0 26 [.sl 1 (cL 1 (cN .u8)) p0.fDurable, .sl 2 Write.cells p0.fPending, .i r.2.fLeft, .b r.2.fDown]]) := by
  rw [m41] at hm
  refine Ab.Fn.of Try.func41 rfl rfl rfl (fun C => ?_)
  refine CW.seq ?_
  refine CW.region ?_
  refine RW.p rfl rfl rfl (Yp.assign rfl rfl) ?_
  refine RW.nil ?_
  refine CW.seq ?_
  obtain ⟨o1, hs1, hk1⟩ := bnd hm
  refine CW.cut (fun E σ => ∃ n1 : Int, o1 = Sum.inl n1 ∧ Sub [(0, .lit (.pointer (some ⟨pb0, 0, none⟩)))] E ∧ σ = [.box pb0 26 [.sl 1 (cL 1 (cN .u8)) p0.fDurable, .sl 2 Write.cells p0.fPending, .i n1, .b p0.fDown]]) ?_ ?_
  ·
    have hm := hs1
    refine CW.block ?_
    refine CW.seq ?_
    refine CW.region ?_
    refine RW.p rfl rfl rfl (Yp.move rfl rfl) ?_
    refine RW.p rfl rfl rfl (Yp.nilCheckP rfl rfl) ?_
    refine RW.p rfl rfl rfl (Yp.fieldP rfl rfl Try.underlying26 rfl sz3) ?_
    refine RW.p rfl rfl rfl (Yp.loadB1 0 rfl rfl rfl one3 rfl) ?_
    refine RW.p rfl rfl rfl (Yp.eql rfl rfl rfl) ?_
    refine RW.p rfl rfl rfl (Yp.assign rfl rfl) ?_
    refine RW.nil ?_
    refine CW.cond rfl (fun hb1 => ?_) (fun hb1 => ?_)
    ·
      have hm := ift hm hb1
      refine CW.seq ?_
      refine CW.region ?_
      refine RW.p rfl rfl rfl (Yp.move rfl rfl) ?_
      refine RW.p rfl rfl rfl (Yp.nilCheckP rfl rfl) ?_
      refine RW.p rfl rfl rfl (Yp.fieldP rfl rfl Try.underlying26 rfl sz4) ?_
      refine RW.u rfl rfl (Yu.storeB 0 rfl rfl rfl rfl sz4 (Pw.p rfl) rfl (Nat.le_of_ble_eq_true rfl)) ?_
      refine RW.nil ?_
      refine CW.seq ?_
      refine CW.region ?_
      refine RW.p rfl rfl rfl (Yp.assign rfl rfl) ?_
      refine RW.nil ?_
      refine CW.ret ?_
      cases hm
      have hm := hk1
      cases hm
      exact fin1 (.inr rfl) rfl (ResIs.tmp rfl) (.cons_cons _ (List.nil_sublist _)) ⟨rfl, rfl⟩
    ·
      have hm := iff' hm hb1
      refine CW.seq ?_
      refine CW.region ?_
      refine RW.p rfl rfl rfl (Yp.move rfl rfl) ?_
      refine RW.p rfl rfl rfl (Yp.nilCheckP rfl rfl) ?_
      refine RW.p rfl rfl rfl (Yp.fieldP rfl rfl Try.underlying26 rfl sz3) ?_
      refine RW.p rfl rfl rfl (Yp.loadB1 0 rfl rfl rfl one3 rfl) ?_
      refine RW.p rfl rfl rfl (Yp.gtr rfl rfl rfl) ?_
      refine RW.p rfl rfl rfl (Yp.assign rfl rfl) ?_
      refine RW.nil ?_
      refine CW.cond rfl (fun hb2 => ?_) (fun hb2 => ?_)
      ·
        have hm := ift hm hb2
        refine CW.region ?_
        refine RW.p rfl rfl rfl (Yp.move rfl rfl) ?_
        refine RW.p rfl rfl rfl (Yp.nilCheckP rfl rfl) ?_
        refine RW.p rfl rfl rfl (Yp.fieldP rfl rfl Try.underlying26 rfl sz3) ?_
        refine RW.p rfl rfl rfl (Yp.loadB1 0 rfl rfl rfl one3 rfl) ?_
        refine RW.p rfl rfl rfl (Yp.sub rfl rfl rfl) ?_
        refine RW.p rfl rfl rfl (Yp.nilCheckP rfl rfl) ?_
        refine RW.p rfl rfl rfl (Yp.fieldP rfl rfl Try.underlying26 rfl sz3) ?_
        refine RW.u rfl rfl (Yu.storeB 0 rfl rfl rfl rfl sz3 (Pw.p rfl) rfl (Nat.le_of_ble_eq_true rfl)) ?_
        refine RW.nil ?_
        cases hm
        exact ⟨_, rfl, (Sub.cons rfl Sub.nil), rfl⟩
      ·
        have hm := iff' hm hb2
        refine CW.skip ?_
        cases hm
        exact ⟨_, rfl, (Sub.cons rfl Sub.nil), rfl⟩
  ·
    rintro E σ ⟨n1, rfl, hsub1, rfl⟩
    have hm := hk1
    refine CW.weak ?_ hsub1
    refine CW.seq ?_
    refine CW.region ?_
    refine RW.p rfl rfl rfl (Yp.assign rfl rfl) ?_
    refine RW.nil ?_
    refine CW.ret ?_
    cases hm
    exact fin1 (.inr rfl) rfl (ResIs.tmp rfl) (.cons_cons _ (List.nil_sublist _)) ⟨rfl, rfl⟩

def m40_1_l1 (p0 : Disk) : Nat → (List (List Int)) → Int → Option (List (List Int))
  | 0, _, _ => none
  | k1 + 1, l4, n3 =>
    if (decide (n3 < (p0.fDurable.length : Int))) = true then
      Option.bind (
        if 0 ≤ n3 ∧ n3 < (p0.fDurable.length : Int) then
        (m39 (p0.fDurable[Int.toNat n3]!)).bind fun x1 =>
        if (l4 ++ [x1]).length ≤ 1073741824 then
        some (l4 ++ [x1])
        else none
        else none) fun l6 =>
      m40_1_l1 p0 k1 l6 (w64 (n3 + 1))
    else
      some l4
def m40_1_l2 (p0 : Disk) : Nat → (List Write) → Int → Option (List Write)
  | 0, _, _ => none
  | k2 + 1, l10, n6 =>
    if (decide (n6 < (p0.fPending.length : Int))) = true then
      Option.bind (
        if 0 ≤ n6 ∧ n6 < (p0.fPending.length : Int) then
        (m39 ((p0.fPending[Int.toNat n6]!).fData)).bind fun x2 =>
        if (l10 ++ [(Write.mk ((p0.fPending[Int.toNat n6]!).fAt) x2)]).length ≤ 1073741824 then
        some (l10 ++ [(Write.mk ((p0.fPending[Int.toNat n6]!).fAt) x2)])
        else none
        else none) fun l12 =>
      m40_1_l2 p0 k2 l12 (w64 (n6 + 1))
    else
      some l10
def m40_1 (p0 : Disk) : Option Disk :=
  Option.bind (
    (m40_1_l1 p0 (Int.toNat (p0.fDurable.length : Int) + 1) [] 0).bind fun l5 =>
    some l5) fun l1 =>
  Option.bind (
    (m40_1_l2 p0 (Int.toNat (p0.fPending.length : Int) + 1) [] 0).bind fun l11 =>
    some l11) fun l7 =>
  some (Disk.mk l1 l7 p0.fLeft p0.fDown)

theorem m40_1_ok (p0 : Disk)  {r : Disk} (hm : m40_1 p0 = some r) : Ab.Fn Try.prog 40 [.agg [.sl 1 (cL 1 (cN .u8)) p0.fDurable, .sl 2 Write.cells p0.fPending, .i p0.fLeft, .b p0.fDown]] [] (fun a s => ∃ w0 : Value, ∃ w1 : Value, a = .agg [.lit w0, .lit w1, .i r.fLeft, .b r.fDown] ∧ s = [.row w0 29 1 (cL 1 (cN .u8)) r.fDurable, .row w1 56 2 Write.cells r.fPending]) := by
  rw [m40_1] at hm
  refine Ab.Fn.of Try.func40 rfl rfl rfl (fun C => ?_)
  refine CW.seq ?_
  refine CW.region ?_
  refine RW.v rfl rfl rfl (Yv.box rfl rfl (Pw.p rfl)) ?_
  rintro _ _ ⟨b1, rfl, rfl⟩
  refine RW.v rfl rfl rfl (Yv.alloc rfl zerb26) ?_
  rintro _ _ ⟨b2, rfl, rfl⟩
  refine RW.nil ?_
  refine CW.seq ?_
  refine CW.region ?_
  refine RW.p rfl rfl rfl (Yp.loadBN 1 rfl rfl rfl many26 (Nat.le_of_ble_eq_true rfl)) ?_
  refine RW.v rfl rfl rfl (Yv.alloc rfl zerb26) ?_
  rintro _ _ ⟨b3, rfl, rfl⟩
  refine RW.u rfl rfl (Yu.storeB 0 rfl rfl rfl rfl sz26 (Pw.p rfl) rfl (Nat.le_of_ble_eq_true rfl)) ?_
  refine RW.nil ?_
  refine CW.seq ?_
  refine CW.region ?_
  refine RW.p rfl rfl rfl (Yp.fieldP rfl rfl Try.underlying26 rfl sz23) ?_
  refine RW.u rfl rfl (Yu.storeB 0 rfl rfl rfl rfl sz23 (Pw.p rfl) rfl (Nat.le_of_ble_eq_true rfl)) ?_
  refine RW.p rfl rfl rfl (Yp.fieldP rfl rfl Try.underlying26 rfl sz24) ?_
  refine RW.u rfl rfl (Yu.storeB 0 rfl rfl rfl rfl sz24 (Pw.p rfl) rfl (Nat.le_of_ble_eq_true rfl)) ?_
  refine RW.nil ?_
  refine CW.seq ?_
  obtain ⟨l1, hs1, hk1⟩ := bnd hm
  refine CW.cut (fun E σ => ∃ v1 : Value, Sub [(1, .lit (.pointer (some ⟨b1, 0, none⟩))), (2, .lit (.pointer (some ⟨b2, 0, none⟩))), (3, .lit (.pointer (some ⟨b3, 0, none⟩)))] E ∧ σ = [.box b1 26 [.sl 1 (cL 1 (cN .u8)) p0.fDurable, .sl 2 Write.cells p0.fPending, .i p0.fLeft, .b p0.fDown], .box b2 26 [.lit (.slice none 0 0), .lit (.slice none 0 0), .i 0, .b false], .box b3 26 [.lit v1, .lit (.slice none 0 0), .i p0.fLeft, .b p0.fDown], .row v1 29 1 (cL 1 (cN .u8)) l1]) ?_ ?_
  ·
    have hm := hs1
    refine CW.seq ?_
    refine CW.region ?_
    refine RW.p rfl rfl rfl (Yp.fieldP rfl rfl Try.underlying26 rfl sz23) ?_
    refine RW.p rfl rfl rfl (Yp.loadB1 2 rfl rfl rfl one23 rfl) ?_
    refine RW.p rfl rfl rfl (Yp.lenSl rfl rfl Try.underlying23) ?_
    refine RW.p rfl rfl rfl (Yp.move rfl rfl) ?_
    refine RW.nil ?_
    refine CW.block ?_
    refine CW.own none 29 1 (cL 1 (cN .u8)) ?_
    refine CW.sel [3, 2, 1, 0] rfl ?_
    obtain ⟨l5, hs2, hk2⟩ := bnd hm
    refine CW.lp (fun k1 E σ => ∃ l4 : List (List Int), ∃ n3 : Int, ∃ v4 : Value, Sub [(1, .lit (.pointer (some ⟨b1, 0, none⟩))), (2, .lit (.pointer (some ⟨b2, 0, none⟩))), (3, .lit (.pointer (some ⟨b3, 0, none⟩))), (12, .sl 1 (cL 1 (cN .u8)) p0.fDurable), (13, .i (p0.fDurable.length : Int)), (14, .i n3)] E ∧ σ = [.box b1 26 [.sl 1 (cL 1 (cN .u8)) p0.fDurable, .sl 2 Write.cells p0.fPending, .i p0.fLeft, .b p0.fDown], .box b2 26 [.lit (.slice none 0 0), .lit (.slice none 0 0), .i 0, .b false], .box b3 26 [.lit v4, .lit (.slice none 0 0), .i p0.fLeft, .b p0.fDown], .row v4 29 1 (cL 1 (cN .u8)) l4] ∧ m40_1_l1 p0 k1 l4 n3 = some l5) (Int.toNat (p0.fDurable.length : Int) + 1) ?_ ?_
    · exact ⟨[], 0, (.slice none 0 0), (Sub.cons rfl (Sub.cons rfl (Sub.cons rfl (Sub.cons rfl (Sub.cons rfl (Sub.cons rfl Sub.nil)))))), rfl, hs2⟩
    ·
      rintro k1 E σ ⟨l4, n3, v4, hsub1, rfl, hm⟩
      refine CW.weak ?_ hsub1
      cases k1 with
      | zero => cases hm
      | succ k1 =>
        rw [m40_1_l1] at hm
        refine CW.seq ?_
        refine CW.region ?_
        refine RW.p rfl rfl rfl (Yp.lss rfl rfl rfl) ?_
        refine RW.nil ?_
        refine CW.seq ?_
        refine CW.cond rfl (fun hb1 => ?_) (fun hb1 => ?_)
        ·
          have hm := ift hm hb1
          refine CW.skip ?_
          refine CW.seq ?_
          obtain ⟨l6, hs3, hk3⟩ := bnd hm
          refine CW.cut (fun E σ => ∃ v6 : Value, Sub [(1, .lit (.pointer (some ⟨b1, 0, none⟩))), (2, .lit (.pointer (some ⟨b2, 0, none⟩))), (3, .lit (.pointer (some ⟨b3, 0, none⟩))), (12, .sl 1 (cL 1 (cN .u8)) p0.fDurable), (13, .i (p0.fDurable.length : Int)), (14, .i n3)] E ∧ σ = [.box b1 26 [.sl 1 (cL 1 (cN .u8)) p0.fDurable, .sl 2 Write.cells p0.fPending, .i p0.fLeft, .b p0.fDown], .box b2 26 [.lit (.slice none 0 0), .lit (.slice none 0 0), .i 0, .b false], .box b3 26 [.lit v6, .lit (.slice none 0 0), .i p0.fLeft, .b p0.fDown], .row v6 29 1 (cL 1 (cN .u8)) l6]) ?_ ?_
          ·
            have hm := hs3
            refine CW.block ?_
            refine CW.seq ?_
            refine CW.region ?_
            obtain ⟨hc1, hm⟩ := chk hm
            refine RW.p rfl rfl rfl (Yp.indexSl rfl rfl rfl Try.underlying23 sz29 hc1) ?_
            refine RW.p rfl rfl rfl (Yp.loadF1 rfl rfl one29 rfl) ?_
            refine RW.p rfl rfl rfl (Yp.assign rfl rfl) ?_
            refine RW.nil ?_
            obtain ⟨x1, hx1, hm⟩ := bnd hm
            obtain ⟨hc2, hm⟩ := chk hm
            refine CW.drawSel 8 rfl [2, 2, 0, 0] [.box b3 26 [.lit v4, .lit (.slice none 0 0), .i p0.fLeft, .b p0.fDown], .row v4 29 1 (cL 1 (cN .u8)) l4] [.box b1 26 [.sl 1 (cL 1 (cN .u8)) p0.fDurable, .sl 2 Write.cells p0.fPending, .i p0.fLeft, .b p0.fDown], .box b2 26 [.lit (.slice none 0 0), .lit (.slice none 0 0), .i 0, .b false]] rfl (by kernel_rfl) ?_
            intro A1 w1 hB1
            refine RH.take 0 rfl (by kernel_rfl) rfl rfl rfl hB1 (Yp.fieldP rfl rfl Try.underlying26 rfl sz23) ?_
            refine RH.take 2 rfl (by kernel_rfl) rfl rfl rfl hB1 (Yp.move rfl rfl) ?_
            refine RH.two 1 3 (by kernel_rfl) ?_ ?_
            ·
              refine RO.p rfl rfl rfl rfl rfl (Yp.loadB1 2 rfl rfl rfl one23 rfl) ?_
              refine RH.one 3 (by kernel_rfl) ?_
              refine RO.c rfl rfl rfl rfl rfl (Yc.fnV (σp := []) (args' := [.sl 1 (cN .u8) (p0.fDurable[Int.toNat n3]!)]) rfl rfl ok39 rfl rfl rfl (VwL.id _) (m39_ok (p0.fDurable[Int.toNat n3]!) hx1)) (fun b hb => absurd hb (by simp [blks])) ?_
              rintro _ _ ⟨_, ⟨rfl, rfl⟩, rfl⟩
              refine RH.one 4 (by kernel_rfl) ?_
              refine RO.v rfl rfl rfl rfl rfl (Yv.lit (cL 1 (cN .u8)) ([x1] : List (List Int)) rfl Try.underlying23 sz29 zer29 rfl rfl rfl rfl rfl (fun i hi => by match i, hi with | 0, _ => rfl) (by decide) (by decide)) (fun b hb => absurd hb (by simp)) ?_
              rintro _ _ ⟨v9, rfl, rfl⟩
              refine RH.one 5 (by kernel_rfl) ?_
              refine RO.v rfl rfl rfl rfl rfl (Yv.app (l := l4) (l2 := ([x1] : List (List Int))) 4 rfl rfl rfl (.inr (.inr ⟨0, _, rfl, rfl⟩)) Try.underlying23 szb29 zer29 rfl rfl (fun _ => rfl) hc2) (inX (r := .row v4 29 1 (cL 1 (cN .u8)) l4) 1 rfl) ?_
              rintro _ _ ⟨v10, rfl, rfl⟩
              refine RH.take 6 rfl (by kernel_rfl) rfl rfl rfl hB1 (Yp.fieldP rfl rfl Try.underlying26 rfl sz23) ?_
              refine RH.one 7 (by kernel_rfl) ?_
              refine RO.u rfl rfl rfl (Yu.storeB 3 rfl rfl rfl rfl sz23 (Pw.own 4 rfl) rfl (Nat.le_of_ble_eq_true rfl)) (inX (r := .box b3 26 [.lit v4, .lit (.slice none 0 0), .i p0.fLeft, .b p0.fDown]) 0 rfl) ?_
              refine RH.sel [1, 1, 1, 1] rfl ?_
              refine RH.done (by kernel_rfl) ?_
              cases hm
              exact ⟨v10, (Sub.cons rfl (Sub.cons rfl (Sub.cons rfl (Sub.cons rfl (Sub.cons rfl (Sub.cons rfl Sub.nil)))))), rfl⟩
            ·
              refine RO.c rfl rfl rfl rfl rfl (Yc.fnV (σp := []) (args' := [.sl 1 (cN .u8) (p0.fDurable[Int.toNat n3]!)]) rfl rfl ok39 rfl rfl rfl (VwL.id _) (m39_ok (p0.fDurable[Int.toNat n3]!) hx1)) (fun b hb => absurd hb (by simp [blks])) ?_
              rintro _ _ ⟨_, ⟨rfl, rfl⟩, rfl⟩
              refine RH.two 1 4 (by kernel_rfl) ?_ ?_
              ·
                refine RO.p rfl rfl rfl rfl rfl (Yp.loadB1 2 rfl rfl rfl one23 rfl) ?_
                refine RH.one 4 (by kernel_rfl) ?_
                refine RO.v rfl rfl rfl rfl rfl (Yv.lit (cL 1 (cN .u8)) ([x1] : List (List Int)) rfl Try.underlying23 sz29 zer29 rfl rfl rfl rfl rfl (fun i hi => by match i, hi with | 0, _ => rfl) (by decide) (by decide)) (fun b hb => absurd hb (by simp)) ?_
                rintro _ _ ⟨v11, rfl, rfl⟩
                refine RH.one 5 (by kernel_rfl) ?_
                refine RO.v rfl rfl rfl rfl rfl (Yv.app (l := l4) (l2 := ([x1] : List (List Int))) 4 rfl rfl rfl (.inr (.inr ⟨0, _, rfl, rfl⟩)) Try.underlying23 szb29 zer29 rfl rfl (fun _ => rfl) hc2) (inX (r := .row v4 29 1 (cL 1 (cN .u8)) l4) 1 rfl) ?_
                rintro _ _ ⟨v12, rfl, rfl⟩
                refine RH.take 6 rfl (by kernel_rfl) rfl rfl rfl hB1 (Yp.fieldP rfl rfl Try.underlying26 rfl sz23) ?_
                refine RH.one 7 (by kernel_rfl) ?_
                refine RO.u rfl rfl rfl (Yu.storeB 3 rfl rfl rfl rfl sz23 (Pw.own 4 rfl) rfl (Nat.le_of_ble_eq_true rfl)) (inX (r := .box b3 26 [.lit v4, .lit (.slice none 0 0), .i p0.fLeft, .b p0.fDown]) 0 rfl) ?_
                refine RH.sel [1, 1, 1, 1] rfl ?_
                refine RH.done (by kernel_rfl) ?_
                cases hm
                exact ⟨v12, (Sub.cons rfl (Sub.cons rfl (Sub.cons rfl (Sub.cons rfl (Sub.cons rfl (Sub.cons rfl Sub.nil)))))), rfl⟩
              ·
                refine RO.v rfl rfl rfl rfl rfl (Yv.lit (cL 1 (cN .u8)) ([x1] : List (List Int)) rfl Try.underlying23 sz29 zer29 rfl rfl rfl rfl rfl (fun i hi => by match i, hi with | 0, _ => rfl) (by decide) (by decide)) (fun b hb => absurd hb (by simp)) ?_
                rintro _ _ ⟨v13, rfl, rfl⟩
                refine RH.one 1 (by kernel_rfl) ?_
                refine RO.p rfl rfl rfl rfl rfl (Yp.loadB1 3 rfl rfl rfl one23 rfl) ?_
                refine RH.one 5 (by kernel_rfl) ?_
                refine RO.v rfl rfl rfl rfl rfl (Yv.app (l := l4) (l2 := ([x1] : List (List Int))) 4 rfl rfl rfl (.inr (.inr ⟨0, _, rfl, rfl⟩)) Try.underlying23 szb29 zer29 rfl rfl (fun _ => rfl) hc2) (inX (r := .row v4 29 1 (cL 1 (cN .u8)) l4) 1 rfl) ?_
                rintro _ _ ⟨v14, rfl, rfl⟩
                refine RH.take 6 rfl (by kernel_rfl) rfl rfl rfl hB1 (Yp.fieldP rfl rfl Try.underlying26 rfl sz23) ?_
                refine RH.one 7 (by kernel_rfl) ?_
                refine RO.u rfl rfl rfl (Yu.storeB 3 rfl rfl rfl rfl sz23 (Pw.own 4 rfl) rfl (Nat.le_of_ble_eq_true rfl)) (inX (r := .box b3 26 [.lit v4, .lit (.slice none 0 0), .i p0.fLeft, .b p0.fDown]) 0 rfl) ?_
                refine RH.sel [1, 1, 1, 1] rfl ?_
                refine RH.done (by kernel_rfl) ?_
                cases hm
                exact ⟨v14, (Sub.cons rfl (Sub.cons rfl (Sub.cons rfl (Sub.cons rfl (Sub.cons rfl (Sub.cons rfl Sub.nil)))))), rfl⟩
          ·
            rintro E σ ⟨v6, hsub2, rfl⟩
            have hm := hk3
            refine CW.weak ?_ hsub2
            refine CW.region ?_
            refine RW.p rfl rfl rfl (Yp.add rfl rfl rfl) ?_
            refine RW.p rfl rfl rfl (Yp.move rfl rfl) ?_
            refine RW.nil ?_
            exact ⟨k1, Nat.lt_succ_self _, _, _, v6, (Sub.cons rfl (Sub.cons rfl (Sub.cons rfl (Sub.cons rfl (Sub.cons rfl (Sub.cons rfl Sub.nil)))))), rfl, hm⟩
        ·
          have hm := iff' hm hb1
          refine CW.exit ?_
          cases hm
          have hm := hk2
          cases hm
          exact ⟨v4, (Sub.cons rfl (Sub.cons rfl (Sub.cons rfl Sub.nil))), rfl⟩
  ·
    rintro E σ ⟨v1, hsub3, rfl⟩
    have hm := hk1
    refine CW.weak ?_ hsub3
    refine CW.seq ?_
    obtain ⟨l7, hs4, hk4⟩ := bnd hm
    refine CW.cut (fun E σ => ∃ v15 : Value, Sub [(2, .lit (.pointer (some ⟨b2, 0, none⟩))), (3, .lit (.pointer (some ⟨b3, 0, none⟩)))] E ∧ σ = [.box b2 26 [.lit (.slice none 0 0), .lit (.slice none 0 0), .i 0, .b false], .box b3 26 [.lit v1, .lit v15, .i p0.fLeft, .b p0.fDown], .row v1 29 1 (cL 1 (cN .u8)) l1, .row v15 56 2 Write.cells l7]) ?_ ?_
    ·
      have hm := hs4
      refine CW.seq ?_
      refine CW.region ?_
      refine RW.p rfl rfl rfl (Yp.fieldP rfl rfl Try.underlying26 rfl sz24) ?_
      refine RW.p rfl rfl rfl (Yp.loadB1 0 rfl rfl rfl one24 rfl) ?_
      refine RW.p rfl rfl rfl (Yp.lenSl rfl rfl Try.underlying24) ?_
      refine RW.p rfl rfl rfl (Yp.move rfl rfl) ?_
      refine RW.nil ?_
      refine CW.block ?_
      refine CW.own none 56 2 Write.cells ?_
      refine CW.sel [2, 2, 2, 0] rfl ?_
      obtain ⟨l11, hs5, hk5⟩ := bnd hm
      refine CW.lp (fun k2 E σ => ∃ l10 : List Write, ∃ n6 : Int, ∃ v18 : Value, Sub [(2, .lit (.pointer (some ⟨b2, 0, none⟩))), (3, .lit (.pointer (some ⟨b3, 0, none⟩))), (27, .sl 2 Write.cells p0.fPending), (28, .i (p0.fPending.length : Int)), (29, .i n6)] E ∧ σ = [.box b2 26 [.lit (.slice none 0 0), .lit (.slice none 0 0), .i 0, .b false], .box b3 26 [.lit v1, .lit v18, .i p0.fLeft, .b p0.fDown], .row v1 29 1 (cL 1 (cN .u8)) l1, .row v18 56 2 Write.cells l10] ∧ m40_1_l2 p0 k2 l10 n6 = some l11) (Int.toNat (p0.fPending.length : Int) + 1) ?_ ?_
      · exact ⟨[], 0, (.slice none 0 0), (Sub.cons rfl (Sub.cons rfl (Sub.cons rfl (Sub.cons rfl (Sub.cons rfl Sub.nil))))), rfl, hs5⟩
      ·
        rintro k2 E σ ⟨l10, n6, v18, hsub4, rfl, hm⟩
        refine CW.weak ?_ hsub4
        cases k2 with
        | zero => cases hm
        | succ k2 =>
          rw [m40_1_l2] at hm
          refine CW.seq ?_
          refine CW.region ?_
          refine RW.p rfl rfl rfl (Yp.lss rfl rfl rfl) ?_
          refine RW.nil ?_
          refine CW.seq ?_
          refine CW.cond rfl (fun hb2 => ?_) (fun hb2 => ?_)
          ·
            have hm := ift hm hb2
            refine CW.skip ?_
            refine CW.seq ?_
            obtain ⟨l12, hs6, hk6⟩ := bnd hm
            refine CW.cut (fun E σ => ∃ v20 : Value, Sub [(2, .lit (.pointer (some ⟨b2, 0, none⟩))), (3, .lit (.pointer (some ⟨b3, 0, none⟩))), (27, .sl 2 Write.cells p0.fPending), (28, .i (p0.fPending.length : Int)), (29, .i n6)] E ∧ σ = [.box b2 26 [.lit (.slice none 0 0), .lit (.slice none 0 0), .i 0, .b false], .box b3 26 [.lit v1, .lit v20, .i p0.fLeft, .b p0.fDown], .row v1 29 1 (cL 1 (cN .u8)) l1, .row v20 56 2 Write.cells l12]) ?_ ?_
            ·
              have hm := hs6
              refine CW.block ?_
              refine CW.seq ?_
              refine CW.region ?_
              obtain ⟨hc3, hm⟩ := chk hm
              refine RW.p rfl rfl rfl (Yp.indexSl rfl rfl rfl Try.underlying24 sz56 hc3) ?_
              refine RW.p rfl rfl rfl (Yp.loadFN rfl rfl many56 (Nat.le_of_ble_eq_true rfl)) ?_
              refine RW.v rfl rfl rfl (Yv.alloc rfl zerb56) ?_
              rintro _ _ ⟨b4, rfl, rfl⟩
              refine RW.u rfl rfl (Yu.storeB 0 rfl rfl rfl rfl sz56 (Pw.p rfl) rfl (Nat.le_of_ble_eq_true rfl)) ?_
              refine RW.nil ?_
              obtain ⟨x2, hx2, hm⟩ := bnd hm
              obtain ⟨hc4, hm⟩ := chk hm
              refine CW.drawSel 12 rfl [2, 2, 2, 0, 0] [.box b3 26 [.lit v1, .lit v18, .i p0.fLeft, .b p0.fDown], .row v1 29 1 (cL 1 (cN .u8)) l1, .row v18 56 2 Write.cells l10] [.box b4 56 [.i ((p0.fPending[Int.toNat n6]!).fAt), .sl 1 (cN .u8) ((p0.fPending[Int.toNat n6]!).fData)], .box b2 26 [.lit (.slice none 0 0), .lit (.slice none 0 0), .i 0, .b false]] rfl (by kernel_rfl) ?_
              intro A2 w2 hB2
              refine RH.take 0 rfl (by kernel_rfl) rfl rfl rfl hB2 (Yp.fieldP rfl rfl Try.underlying26 rfl sz24) ?_
              refine RH.take 2 rfl (by kernel_rfl) rfl rfl rfl hB2 (Yp.fieldP rfl rfl Try.underlying56 rfl sz3) ?_
              refine RH.take 3 rfl (by kernel_rfl) rfl rfl rfl hB2 (Yp.loadB1 0 rfl rfl rfl one3 rfl) ?_
              refine RH.take 4 rfl (by kernel_rfl) rfl rfl rfl hB2 (Yp.fieldP rfl rfl Try.underlying56 rfl sz29) ?_
              refine RH.take 5 rfl (by kernel_rfl) rfl rfl rfl hB2 (Yp.loadB1 0 rfl rfl rfl one29 rfl) ?_
              refine RH.two 1 6 (by kernel_rfl) ?_ ?_
              ·
                refine RO.p rfl rfl rfl rfl rfl (Yp.loadB1 2 rfl rfl rfl one24 rfl) ?_
                refine RH.one 6 (by kernel_rfl) ?_
                refine RO.c rfl rfl rfl rfl rfl (Yc.fnV (σp := []) (args' := [.sl 1 (cN .u8) ((p0.fPending[Int.toNat n6]!).fData)]) rfl rfl ok39 rfl rfl rfl (VwL.id _) (m39_ok ((p0.fPending[Int.toNat n6]!).fData) hx2)) (fun b hb => absurd hb (by simp [blks])) ?_
                rintro _ _ ⟨_, ⟨rfl, rfl⟩, rfl⟩
                refine RH.one 7 (by kernel_rfl) ?_
                refine RO.p rfl rfl rfl rfl rfl (Yp.build rfl plc56 zer56 rfl rfl) ?_
                refine RH.one 8 (by kernel_rfl) ?_
                refine RO.v rfl rfl rfl rfl rfl (Yv.lit Write.cells ([(Write.mk ((p0.fPending[Int.toNat n6]!).fAt) x2)] : List Write) rfl Try.underlying24 sz56 zer56 rfl rfl rfl rfl rfl (fun i hi => by match i, hi with | 0, _ => rfl) (by decide) (by decide)) (fun b hb => absurd hb (by simp)) ?_
                rintro _ _ ⟨v23, rfl, rfl⟩
                refine RH.one 9 (by kernel_rfl) ?_
                refine RO.v rfl rfl rfl rfl rfl (Yv.app (l := l10) (l2 := ([(Write.mk ((p0.fPending[Int.toNat n6]!).fAt) x2)] : List Write)) 5 rfl rfl rfl (.inr (.inr ⟨0, _, rfl, rfl⟩)) Try.underlying24 szb56 zer56 rfl rfl (fun _ => rfl) hc4) (inX (r := .row v18 56 2 Write.cells l10) 2 rfl) ?_
                rintro _ _ ⟨v24, rfl, rfl⟩
                refine RH.take 10 rfl (by kernel_rfl) rfl rfl rfl hB2 (Yp.fieldP rfl rfl Try.underlying26 rfl sz24) ?_
                refine RH.one 11 (by kernel_rfl) ?_
                refine RO.u rfl rfl rfl (Yu.storeB 3 rfl rfl rfl rfl sz24 (Pw.own 5 rfl) rfl (Nat.le_of_ble_eq_true rfl)) (inX (r := .box b3 26 [.lit v1, .lit v18, .i p0.fLeft, .b p0.fDown]) 0 rfl) ?_
                refine RH.sel [2, 2, 2, 2] rfl ?_
                refine RH.done (by kernel_rfl) ?_
                cases hm
                exact ⟨v24, (Sub.cons rfl (Sub.cons rfl (Sub.cons rfl (Sub.cons rfl (Sub.cons rfl Sub.nil))))), rfl⟩
              ·
                refine RO.c rfl rfl rfl rfl rfl (Yc.fnV (σp := []) (args' := [.sl 1 (cN .u8) ((p0.fPending[Int.toNat n6]!).fData)]) rfl rfl ok39 rfl rfl rfl (VwL.id _) (m39_ok ((p0.fPending[Int.toNat n6]!).fData) hx2)) (fun b hb => absurd hb (by simp [blks])) ?_
                rintro _ _ ⟨_, ⟨rfl, rfl⟩, rfl⟩
                refine RH.two 1 7 (by kernel_rfl) ?_ ?_
                ·
                  refine RO.p rfl rfl rfl rfl rfl (Yp.loadB1 2 rfl rfl rfl one24 rfl) ?_
                  refine RH.one 7 (by kernel_rfl) ?_
                  refine RO.p rfl rfl rfl rfl rfl (Yp.build rfl plc56 zer56 rfl rfl) ?_
                  refine RH.one 8 (by kernel_rfl) ?_
                  refine RO.v rfl rfl rfl rfl rfl (Yv.lit Write.cells ([(Write.mk ((p0.fPending[Int.toNat n6]!).fAt) x2)] : List Write) rfl Try.underlying24 sz56 zer56 rfl rfl rfl rfl rfl (fun i hi => by match i, hi with | 0, _ => rfl) (by decide) (by decide)) (fun b hb => absurd hb (by simp)) ?_
                  rintro _ _ ⟨v25, rfl, rfl⟩
                  refine RH.one 9 (by kernel_rfl) ?_
                  refine RO.v rfl rfl rfl rfl rfl (Yv.app (l := l10) (l2 := ([(Write.mk ((p0.fPending[Int.toNat n6]!).fAt) x2)] : List Write)) 5 rfl rfl rfl (.inr (.inr ⟨0, _, rfl, rfl⟩)) Try.underlying24 szb56 zer56 rfl rfl (fun _ => rfl) hc4) (inX (r := .row v18 56 2 Write.cells l10) 2 rfl) ?_
                  rintro _ _ ⟨v26, rfl, rfl⟩
                  refine RH.take 10 rfl (by kernel_rfl) rfl rfl rfl hB2 (Yp.fieldP rfl rfl Try.underlying26 rfl sz24) ?_
                  refine RH.one 11 (by kernel_rfl) ?_
                  refine RO.u rfl rfl rfl (Yu.storeB 3 rfl rfl rfl rfl sz24 (Pw.own 5 rfl) rfl (Nat.le_of_ble_eq_true rfl)) (inX (r := .box b3 26 [.lit v1, .lit v18, .i p0.fLeft, .b p0.fDown]) 0 rfl) ?_
                  refine RH.sel [2, 2, 2, 2] rfl ?_
                  refine RH.done (by kernel_rfl) ?_
                  cases hm
                  exact ⟨v26, (Sub.cons rfl (Sub.cons rfl (Sub.cons rfl (Sub.cons rfl (Sub.cons rfl Sub.nil))))), rfl⟩
                ·
                  refine RO.p rfl rfl rfl rfl rfl (Yp.build rfl plc56 zer56 rfl rfl) ?_
                  refine RH.two 1 8 (by kernel_rfl) ?_ ?_
                  ·
                    refine RO.p rfl rfl rfl rfl rfl (Yp.loadB1 2 rfl rfl rfl one24 rfl) ?_
                    refine RH.one 8 (by kernel_rfl) ?_
                    refine RO.v rfl rfl rfl rfl rfl (Yv.lit Write.cells ([(Write.mk ((p0.fPending[Int.toNat n6]!).fAt) x2)] : List Write) rfl Try.underlying24 sz56 zer56 rfl rfl rfl rfl rfl (fun i hi => by match i, hi with | 0, _ => rfl) (by decide) (by decide)) (fun b hb => absurd hb (by simp)) ?_
                    rintro _ _ ⟨v27, rfl, rfl⟩
                    refine RH.one 9 (by kernel_rfl) ?_
                    refine RO.v rfl rfl rfl rfl rfl (Yv.app (l := l10) (l2 := ([(Write.mk ((p0.fPending[Int.toNat n6]!).fAt) x2)] : List Write)) 5 rfl rfl rfl (.inr (.inr ⟨0, _, rfl, rfl⟩)) Try.underlying24 szb56 zer56 rfl rfl (fun _ => rfl) hc4) (inX (r := .row v18 56 2 Write.cells l10) 2 rfl) ?_
                    rintro _ _ ⟨v28, rfl, rfl⟩
                    refine RH.take 10 rfl (by kernel_rfl) rfl rfl rfl hB2 (Yp.fieldP rfl rfl Try.underlying26 rfl sz24) ?_
                    refine RH.one 11 (by kernel_rfl) ?_
                    refine RO.u rfl rfl rfl (Yu.storeB 3 rfl rfl rfl rfl sz24 (Pw.own 5 rfl) rfl (Nat.le_of_ble_eq_true rfl)) (inX (r := .box b3 26 [.lit v1, .lit v18, .i p0.fLeft, .b p0.fDown]) 0 rfl) ?_
                    refine RH.sel [2, 2, 2, 2] rfl ?_
                    refine RH.done (by kernel_rfl) ?_
                    cases hm
                    exact ⟨v28, (Sub.cons rfl (Sub.cons rfl (Sub.cons rfl (Sub.cons rfl (Sub.cons rfl Sub.nil))))), rfl⟩
                  ·
                    refine RO.v rfl rfl rfl rfl rfl (Yv.lit Write.cells ([(Write.mk ((p0.fPending[Int.toNat n6]!).fAt) x2)] : List Write) rfl Try.underlying24 sz56 zer56 rfl rfl rfl rfl rfl (fun i hi => by match i, hi with | 0, _ => rfl) (by decide) (by decide)) (fun b hb => absurd hb (by simp)) ?_
                    rintro _ _ ⟨v29, rfl, rfl⟩
                    refine RH.one 1 (by kernel_rfl) ?_
                    refine RO.p rfl rfl rfl rfl rfl (Yp.loadB1 3 rfl rfl rfl one24 rfl) ?_
                    refine RH.one 9 (by kernel_rfl) ?_
                    refine RO.v rfl rfl rfl rfl rfl (Yv.app (l := l10) (l2 := ([(Write.mk ((p0.fPending[Int.toNat n6]!).fAt) x2)] : List Write)) 5 rfl rfl rfl (.inr (.inr ⟨0, _, rfl, rfl⟩)) Try.underlying24 szb56 zer56 rfl rfl (fun _ => rfl) hc4) (inX (r := .row v18 56 2 Write.cells l10) 2 rfl) ?_
                    rintro _ _ ⟨v30, rfl, rfl⟩
                    refine RH.take 10 rfl (by kernel_rfl) rfl rfl rfl hB2 (Yp.fieldP rfl rfl Try.underlying26 rfl sz24) ?_
                    refine RH.one 11 (by kernel_rfl) ?_
                    refine RO.u rfl rfl rfl (Yu.storeB 3 rfl rfl rfl rfl sz24 (Pw.own 5 rfl) rfl (Nat.le_of_ble_eq_true rfl)) (inX (r := .box b3 26 [.lit v1, .lit v18, .i p0.fLeft, .b p0.fDown]) 0 rfl) ?_
                    refine RH.sel [2, 2, 2, 2] rfl ?_
                    refine RH.done (by kernel_rfl) ?_
                    cases hm
                    exact ⟨v30, (Sub.cons rfl (Sub.cons rfl (Sub.cons rfl (Sub.cons rfl (Sub.cons rfl Sub.nil))))), rfl⟩
            ·
              rintro E σ ⟨v20, hsub5, rfl⟩
              have hm := hk6
              refine CW.weak ?_ hsub5
              refine CW.region ?_
              refine RW.p rfl rfl rfl (Yp.add rfl rfl rfl) ?_
              refine RW.p rfl rfl rfl (Yp.move rfl rfl) ?_
              refine RW.nil ?_
              exact ⟨k2, Nat.lt_succ_self _, _, _, v20, (Sub.cons rfl (Sub.cons rfl (Sub.cons rfl (Sub.cons rfl (Sub.cons rfl Sub.nil))))), rfl, hm⟩
          ·
            have hm := iff' hm hb2
            refine CW.exit ?_
            cases hm
            have hm := hk5
            cases hm
            exact ⟨v18, (Sub.cons rfl (Sub.cons rfl Sub.nil)), rfl⟩
    ·
      rintro E σ ⟨v15, hsub6, rfl⟩
      have hm := hk4
      refine CW.weak ?_ hsub6
      refine CW.seq ?_
      refine CW.region ?_
      refine RW.p rfl rfl rfl (Yp.loadBN 1 rfl rfl rfl many26 (Nat.le_of_ble_eq_true rfl)) ?_
      refine RW.u rfl rfl (Yu.storeB 0 rfl rfl rfl rfl sz26 (Pw.agg (PwL.own 2 rfl (PwL.own 3 rfl (PwL.p rfl (PwL.p rfl PwL.nil))))) rfl (Nat.le_of_ble_eq_true rfl)) ?_
      refine RW.nil ?_
      refine CW.sel [2, 2, 0] rfl ?_
      refine CW.ret ?_
      cases hm
      exact fin1 (.inr rfl) rfl (ResIs.cellN 2 rfl rfl many26 rfl) (.cons_cons _ (.cons_cons _ (List.nil_sublist _))) ⟨v1, v15, rfl, rfl⟩

def m41_1 (p0 : Disk) : Option (Bool × Disk) :=
  Option.bind (
    if (decide (p0.fLeft = 0)) = true then
      some (Sum.inr (false, (Disk.mk p0.fDurable p0.fPending p0.fLeft true)))
    else
      if (decide ((0 : Int) < p0.fLeft)) = true then
        some (Sum.inl (w64 (p0.fLeft - 1)))
      else
        some (Sum.inl p0.fLeft)) fun o1 =>
  match o1 with
  | .inl n1 =>
    some (true, (Disk.mk p0.fDurable p0.fPending n1 p0.fDown))
  | .inr r =>
    some r

theorem m41_1_ok (p0 : Disk) (pb0 : Nat) (pv0_0 : Value) (pv0_1 : Value) {r : Bool × Disk} (hm : m41_1 p0 = some r) : Ab.Fn Try.prog 41 [.lit (.pointer (some ⟨pb0, 0, none⟩))] [.box pb0 26 [.lit pv0_0, .lit pv0_1, .i p0.fLeft, .b p0.fDown], .row pv0_0 29 1 (cL 1 (cN .u8)) p0.fDurable, .row pv0_1 56 2 Write.cells p0.fPending] (fun a s => a = .b r.1 ∧ s = [.box pb0 26 [.lit pv0_0, .lit pv0_1, .i r.2.fLeft, .b r.2.fDown], .row pv0_0 29 1 (cL 1 (cN .u8)) p0.fDurable, .row pv0_1 56 2 Write.cells p0.fPending]) := by
  rw [m41_1] at hm
  refine Ab.Fn.of Try.func41 rfl rfl rfl (fun C => ?_)
  refine CW.seq ?_
  refine CW.region ?_
  refine RW.p rfl rfl rfl (Yp.assign rfl rfl) ?_
  refine RW.nil ?_
  refine CW.seq ?_
  obtain ⟨o1, hs1, hk1⟩ := bnd hm
  refine CW.cut (fun E σ => ∃ n1 : Int, o1 = Sum.inl n1 ∧ Sub [(0, .lit (.pointer (some ⟨pb0, 0, none⟩)))] E ∧ σ = [.box pb0 26 [.lit pv0_0, .lit pv0_1, .i n1, .b p0.fDown], .row pv0_0 29 1 (cL 1 (cN .u8)) p0.fDurable, .row pv0_1 56 2 Write.cells p0.fPending]) ?_ ?_
  ·
    have hm := hs1
    refine CW.block ?_
    refine CW.seq ?_
    refine CW.region ?_
    refine RW.p rfl rfl rfl (Yp.move rfl rfl) ?_
    refine RW.p rfl rfl rfl (Yp.nilCheckP rfl rfl) ?_
    refine RW.p rfl rfl rfl (Yp.fieldP rfl rfl Try.underlying26 rfl sz3) ?_
    refine RW.p rfl rfl rfl (Yp.loadB1 0 rfl rfl rfl one3 rfl) ?_
    refine RW.p rfl rfl rfl (Yp.eql rfl rfl rfl) ?_
    refine RW.p rfl rfl rfl (Yp.assign rfl rfl) ?_
    refine RW.nil ?_
    refine CW.cond rfl (fun hb1 => ?_) (fun hb1 => ?_)
    ·
      have hm := ift hm hb1
      refine CW.seq ?_
      refine CW.region ?_
      refine RW.p rfl rfl rfl (Yp.move rfl rfl) ?_
      refine RW.p rfl rfl rfl (Yp.nilCheckP rfl rfl) ?_
      refine RW.p rfl rfl rfl (Yp.fieldP rfl rfl Try.underlying26 rfl sz4) ?_
      refine RW.u rfl rfl (Yu.storeB 0 rfl rfl rfl rfl sz4 (Pw.p rfl) rfl (Nat.le_of_ble_eq_true rfl)) ?_
      refine RW.nil ?_
      refine CW.seq ?_
      refine CW.region ?_
      refine RW.p rfl rfl rfl (Yp.assign rfl rfl) ?_
      refine RW.nil ?_
      refine CW.ret ?_
      cases hm
      have hm := hk1
      cases hm
      exact fin1 (.inr rfl) rfl (ResIs.tmp rfl) (.cons_cons _ (.cons_cons _ (.cons_cons _ (List.nil_sublist _)))) ⟨rfl, rfl⟩
    ·
      have hm := iff' hm hb1
      refine CW.seq ?_
      refine CW.region ?_
      refine RW.p rfl rfl rfl (Yp.move rfl rfl) ?_
      refine RW.p rfl rfl rfl (Yp.nilCheckP rfl rfl) ?_
      refine RW.p rfl rfl rfl (Yp.fieldP rfl rfl Try.underlying26 rfl sz3) ?_
      refine RW.p rfl rfl rfl (Yp.loadB1 0 rfl rfl rfl one3 rfl) ?_
      refine RW.p rfl rfl rfl (Yp.gtr rfl rfl rfl) ?_
      refine RW.p rfl rfl rfl (Yp.assign rfl rfl) ?_
      refine RW.nil ?_
      refine CW.cond rfl (fun hb2 => ?_) (fun hb2 => ?_)
      ·
        have hm := ift hm hb2
        refine CW.region ?_
        refine RW.p rfl rfl rfl (Yp.move rfl rfl) ?_
        refine RW.p rfl rfl rfl (Yp.nilCheckP rfl rfl) ?_
        refine RW.p rfl rfl rfl (Yp.fieldP rfl rfl Try.underlying26 rfl sz3) ?_
        refine RW.p rfl rfl rfl (Yp.loadB1 0 rfl rfl rfl one3 rfl) ?_
        refine RW.p rfl rfl rfl (Yp.sub rfl rfl rfl) ?_
        refine RW.p rfl rfl rfl (Yp.nilCheckP rfl rfl) ?_
        refine RW.p rfl rfl rfl (Yp.fieldP rfl rfl Try.underlying26 rfl sz3) ?_
        refine RW.u rfl rfl (Yu.storeB 0 rfl rfl rfl rfl sz3 (Pw.p rfl) rfl (Nat.le_of_ble_eq_true rfl)) ?_
        refine RW.nil ?_
        cases hm
        exact ⟨_, rfl, (Sub.cons rfl Sub.nil), rfl⟩
      ·
        have hm := iff' hm hb2
        refine CW.skip ?_
        cases hm
        exact ⟨_, rfl, (Sub.cons rfl Sub.nil), rfl⟩
  ·
    rintro E σ ⟨n1, rfl, hsub1, rfl⟩
    have hm := hk1
    refine CW.weak ?_ hsub1
    refine CW.seq ?_
    refine CW.region ?_
    refine RW.p rfl rfl rfl (Yp.assign rfl rfl) ?_
    refine RW.nil ?_
    refine CW.ret ?_
    cases hm
    exact fin1 (.inr rfl) rfl (ResIs.tmp rfl) (.cons_cons _ (.cons_cons _ (.cons_cons _ (List.nil_sublist _)))) ⟨rfl, rfl⟩

def m19 (p0 : Disk) (p1 : Int) (p2 : List Int) : Option (Disk × Int) :=
  (m13 p0).bind fun x1 =>
  if (!x1) = true then
    some ((Disk.mk [] [] 0 false), 1)
  else
    (m40_1 p0).bind fun x2 =>
    Option.bind (
      if (decide (p1 < 0)) = true then
        some true
      else
        some (decide ((p0.fDurable.length : Int) ≤ p1))) fun c1 =>
    if c1 = true then
      some (x2, 3)
    else
      if (!decide ((p2.length : Int) = 96)) = true then
        some (x2, 2)
      else
        if p0.fDown = true then
          some (x2, 17)
        else
          if (decide ((p0.fPending.length : Int) = 8192)) = true then
            some (x2, 16)
          else
            (m41_1 x2).bind fun x3 =>
            if (!x3.1) = true then
              some ((Disk.mk x2.fDurable x2.fPending x3.2.fLeft x3.2.fDown), 17)
            else
              Option.bind (
                (m39 p2).bind fun x4 =>
                if (x2.fPending ++ [(Write.mk p1 x4)]).length ≤ 1073741824 then
                some (x2.fPending ++ [(Write.mk p1 x4)])
                else none) fun l1 =>
              some ((Disk.mk x2.fDurable l1 x3.2.fLeft x3.2.fDown), 0)

theorem m19_ok (p0 : Disk) (p1 : Int) (p2 : List Int)  {r : Disk × Int} (hm : m19 p0 p1 p2 = some r) : Ab.Fn Try.prog 19 [.agg [.sl 1 (cL 1 (cN .u8)) p0.fDurable, .sl 2 Write.cells p0.fPending, .i p0.fLeft, .b p0.fDown], .i p1, .sl 1 (cN .u8) p2] [] (fun a s => a = .tup [.agg [.sl 1 (cL 1 (cN .u8)) r.1.fDurable, .sl 2 Write.cells r.1.fPending, .i r.1.fLeft, .b r.1.fDown], .i r.2] ∧ s = []) := by
  rw [m19] at hm
  refine Ab.Fn.of Try.func19 rfl rfl rfl (fun C => ?_)
  refine CW.seq ?_
  refine CW.region ?_
  refine RW.v rfl rfl rfl (Yv.box rfl rfl (Pw.p rfl)) ?_
  rintro _ _ ⟨b1, rfl, rfl⟩
  refine RW.v rfl rfl rfl (Yv.alloc rfl zerb26) ?_
  rintro _ _ ⟨b2, rfl, rfl⟩
  refine RW.p rfl rfl rfl (Yp.assign rfl rfl) ?_
  refine RW.nil ?_
  refine CW.seq ?_
  refine CW.seq ?_
  refine CW.region ?_
  refine RW.p rfl rfl rfl (Yp.loadBN 1 rfl rfl rfl many26 (Nat.le_of_ble_eq_true rfl)) ?_
  obtain ⟨x1, hx1, hm⟩ := bnd hm
  refine RW.c rfl rfl rfl (Yc.fnV (σp := []) (args' := [.agg [.sl 1 (cL 1 (cN .u8)) p0.fDurable, .sl 2 Write.cells p0.fPending, .i p0.fLeft, .b p0.fDown]]) rfl rfl ok13 rfl rfl rfl (VwL.id _) (m13_ok p0 hx1)) ?_
  rintro _ _ ⟨_, ⟨rfl, rfl⟩, rfl⟩
  refine RW.p rfl rfl rfl (Yp.not rfl rfl) ?_
  refine RW.nil ?_
  refine CW.cond rfl (fun hb1 => ?_) (fun hb1 => ?_)
  ·
    have hm := ift hm hb1
    refine CW.seq ?_
    refine CW.region ?_
    refine RW.p rfl rfl rfl (Yp.build rfl plc26 zer26 rfl rfl) ?_
    refine RW.u rfl rfl (Yu.storeB 0 rfl rfl rfl rfl sz26 (Pw.p rfl) rfl (Nat.le_of_ble_eq_true rfl)) ?_
    refine RW.p rfl rfl rfl (Yp.assign rfl rfl) ?_
    refine RW.nil ?_
    refine CW.sayB 0 rfl (VwL.cons (Vw.nil 1 (cL 1 (cN .u8))) (VwL.cons (Vw.nil 2 Write.cells) (VwL.cons (Vw.id _) (VwL.cons (Vw.id _) VwL.nil)))) ?_
    refine CW.ret ?_
    cases hm
    exact fin2 (.inr rfl) rfl (ResIs.cellN 0 rfl rfl many26 rfl) (ResIs.tmp rfl) (List.nil_sublist _) ⟨rfl, rfl⟩
  ·
    have hm := iff' hm hb1
    refine CW.skip ?_
    refine CW.seq ?_
    refine CW.region ?_
    refine RW.p rfl rfl rfl (Yp.loadBN 1 rfl rfl rfl many26 (Nat.le_of_ble_eq_true rfl)) ?_
    obtain ⟨x2, hx2, hm⟩ := bnd hm
    refine RW.c rfl rfl rfl (Yc.fnV (σp := []) (args' := [.agg [.sl 1 (cL 1 (cN .u8)) p0.fDurable, .sl 2 Write.cells p0.fPending, .i p0.fLeft, .b p0.fDown]]) rfl rfl ok40 rfl rfl rfl (VwL.id _) (m40_1_ok p0 hx2)) ?_
    rintro _ _ ⟨_, ⟨v1, v2, rfl, rfl⟩, rfl⟩
    refine RW.v rfl rfl rfl (Yv.alloc rfl zerb26) ?_
    rintro _ _ ⟨b3, rfl, rfl⟩
    refine RW.u rfl rfl (Yu.storeB 0 rfl rfl rfl rfl sz26 (Pw.agg (PwL.own 1 rfl (PwL.own 2 rfl (PwL.p rfl (PwL.p rfl PwL.nil))))) rfl (Nat.le_of_ble_eq_true rfl)) ?_
    refine RW.nil ?_
    refine CW.seq ?_
    refine CW.block ?_
    refine CW.seq ?_
    obtain ⟨c1, hs1, hk1⟩ := bnd hm
    refine CW.cut (fun E σ => Sub [(1, .i p1), (2, .sl 1 (cN .u8) p2), (3, .lit (.pointer (some ⟨b1, 0, none⟩))), (6, .lit (.pointer (some ⟨b2, 0, none⟩))), (8, .lit (.pointer (some ⟨b3, 0, none⟩))), (15, .b c1)] E ∧ σ = [.box b1 26 [.sl 1 (cL 1 (cN .u8)) p0.fDurable, .sl 2 Write.cells p0.fPending, .i p0.fLeft, .b p0.fDown], .box b2 26 [.lit (.slice none 0 0), .lit (.slice none 0 0), .i 0, .b false], .box b3 26 [.lit v1, .lit v2, .i x2.fLeft, .b x2.fDown], .row v1 29 1 (cL 1 (cN .u8)) x2.fDurable, .row v2 56 2 Write.cells x2.fPending]) ?_ ?_
    ·
      have hm := hs1
      refine CW.region ?_
      refine RW.p rfl rfl rfl (Yp.move rfl rfl) ?_
      refine RW.p rfl rfl rfl (Yp.lss rfl rfl rfl) ?_
      refine RW.p rfl rfl rfl (Yp.move rfl rfl) ?_
      rcases Bool.eq_false_or_eq_true (decide (p1 < 0)) with hb2 | hb2
      ·
        have hm := ift hm hb2
        refine RW.eqv 18 rfl (congrArg AV.b hb2) ?_
        refine RW.skip rfl rfl rfl ?_
        refine RW.skip rfl rfl rfl ?_
        refine RW.skip rfl rfl rfl ?_
        refine RW.skip rfl rfl rfl ?_
        refine RW.skip rfl rfl rfl ?_
        refine RW.p rfl rfl rfl (Yp.pickT rfl rfl rfl) ?_
        refine RW.p rfl rfl rfl (Yp.assign rfl rfl) ?_
        refine RW.sel [4, 3, 0, 0, 0] rfl ?_
        refine RW.nil ?_
        cases hm
        exact ⟨(Sub.cons rfl (Sub.cons rfl (Sub.cons rfl (Sub.cons rfl (Sub.cons rfl (Sub.cons rfl Sub.nil)))))), rfl⟩
      ·
        have hm := iff' hm hb2
        refine RW.eqv 18 rfl (congrArg AV.b hb2) ?_
        refine RW.p rfl rfl rfl (Yp.move rfl rfl) ?_
        refine RW.p rfl rfl rfl (Yp.fieldP rfl rfl Try.underlying26 rfl sz23) ?_
        refine RW.p rfl rfl rfl (Yp.loadB1 4 rfl rfl rfl one23 rfl) ?_
        refine RW.p rfl rfl rfl (Yp.lenSl rfl rfl Try.underlying23) ?_
        refine RW.p rfl rfl rfl (Yp.geq rfl rfl rfl) ?_
        refine RW.p rfl rfl rfl (Yp.pickF rfl rfl rfl) ?_
        refine RW.p rfl rfl rfl (Yp.assign rfl rfl) ?_
        refine RW.sel [4, 3, 0, 0, 0] rfl ?_
        refine RW.nil ?_
        cases hm
        exact ⟨(Sub.cons rfl (Sub.cons rfl (Sub.cons rfl (Sub.cons rfl (Sub.cons rfl (Sub.cons rfl Sub.nil)))))), rfl⟩
    ·
      rintro E σ ⟨hsub1, rfl⟩
      have hm := hk1
      refine CW.weak ?_ hsub1
      refine CW.cond rfl (fun hb3 => ?_) (fun hb3 => ?_)
      ·
        have hm := ift hm hb3
        refine CW.seq ?_
        refine CW.region ?_
        refine RW.p rfl rfl rfl (Yp.loadBN 2 rfl rfl rfl many26 (Nat.le_of_ble_eq_true rfl)) ?_
        refine RW.u rfl rfl (Yu.storeB 1 rfl rfl rfl rfl sz26 (Pw.agg (PwL.own 3 rfl (PwL.own 4 rfl (PwL.p rfl (PwL.p rfl PwL.nil))))) rfl (Nat.le_of_ble_eq_true rfl)) ?_
        refine RW.p rfl rfl rfl (Yp.assign rfl rfl) ?_
        refine RW.nil ?_
        refine CW.frzB 3 1 rfl rfl (VwL.cons (Vw.row 0 rfl) (VwL.cons (Vw.id _) (VwL.cons (Vw.id _) (VwL.cons (Vw.id _) VwL.nil)))) ?_
        refine CW.frzB 3 1 rfl rfl (VwL.cons (Vw.id _) (VwL.cons (Vw.row 0 rfl) (VwL.cons (Vw.id _) (VwL.cons (Vw.id _) VwL.nil)))) ?_
        refine CW.ret ?_
        cases hm
        exact fin2 (.inr rfl) rfl (ResIs.cellN 1 rfl rfl many26 rfl) (ResIs.tmp rfl) (List.nil_sublist _) ⟨rfl, rfl⟩
      ·
        have hm := iff' hm hb3
        refine CW.seq ?_
        refine CW.region ?_
        refine RW.p rfl rfl rfl (Yp.move rfl rfl) ?_
        refine RW.p rfl rfl rfl (Yp.lenSl rfl rfl Try.underlying29) ?_
        refine RW.p rfl rfl rfl (Yp.neq rfl rfl rfl) ?_
        refine RW.p rfl rfl rfl (Yp.assign rfl rfl) ?_
        refine RW.nil ?_
        refine CW.cond rfl (fun hb4 => ?_) (fun hb4 => ?_)
        ·
          have hm := ift hm hb4
          refine CW.seq ?_
          refine CW.region ?_
          refine RW.p rfl rfl rfl (Yp.loadBN 2 rfl rfl rfl many26 (Nat.le_of_ble_eq_true rfl)) ?_
          refine RW.u rfl rfl (Yu.storeB 1 rfl rfl rfl rfl sz26 (Pw.agg (PwL.own 3 rfl (PwL.own 4 rfl (PwL.p rfl (PwL.p rfl PwL.nil))))) rfl (Nat.le_of_ble_eq_true rfl)) ?_
          refine RW.p rfl rfl rfl (Yp.assign rfl rfl) ?_
          refine RW.nil ?_
          refine CW.frzB 3 1 rfl rfl (VwL.cons (Vw.row 0 rfl) (VwL.cons (Vw.id _) (VwL.cons (Vw.id _) (VwL.cons (Vw.id _) VwL.nil)))) ?_
          refine CW.frzB 3 1 rfl rfl (VwL.cons (Vw.id _) (VwL.cons (Vw.row 0 rfl) (VwL.cons (Vw.id _) (VwL.cons (Vw.id _) VwL.nil)))) ?_
          refine CW.ret ?_
          cases hm
          exact fin2 (.inr rfl) rfl (ResIs.cellN 1 rfl rfl many26 rfl) (ResIs.tmp rfl) (List.nil_sublist _) ⟨rfl, rfl⟩
        ·
          have hm := iff' hm hb4
          refine CW.seq ?_
          refine CW.region ?_
          refine RW.p rfl rfl rfl (Yp.fieldP rfl rfl Try.underlying26 rfl sz4) ?_
          refine RW.p rfl rfl rfl (Yp.loadB1 0 rfl rfl rfl one4 rfl) ?_
          refine RW.p rfl rfl rfl (Yp.assign rfl rfl) ?_
          refine RW.nil ?_
          refine CW.cond rfl (fun hb5 => ?_) (fun hb5 => ?_)
          ·
            have hm := ift hm hb5
            refine CW.seq ?_
            refine CW.region ?_
            refine RW.p rfl rfl rfl (Yp.loadBN 2 rfl rfl rfl many26 (Nat.le_of_ble_eq_true rfl)) ?_
            refine RW.u rfl rfl (Yu.storeB 1 rfl rfl rfl rfl sz26 (Pw.agg (PwL.own 3 rfl (PwL.own 4 rfl (PwL.p rfl (PwL.p rfl PwL.nil))))) rfl (Nat.le_of_ble_eq_true rfl)) ?_
            refine RW.p rfl rfl rfl (Yp.assign rfl rfl) ?_
            refine RW.nil ?_
            refine CW.frzB 3 1 rfl rfl (VwL.cons (Vw.row 0 rfl) (VwL.cons (Vw.id _) (VwL.cons (Vw.id _) (VwL.cons (Vw.id _) VwL.nil)))) ?_
            refine CW.frzB 3 1 rfl rfl (VwL.cons (Vw.id _) (VwL.cons (Vw.row 0 rfl) (VwL.cons (Vw.id _) (VwL.cons (Vw.id _) VwL.nil)))) ?_
            refine CW.ret ?_
            cases hm
            exact fin2 (.inr rfl) rfl (ResIs.cellN 1 rfl rfl many26 rfl) (ResIs.tmp rfl) (List.nil_sublist _) ⟨rfl, rfl⟩
          ·
            have hm := iff' hm hb5
            refine CW.seq ?_
            refine CW.region ?_
            refine RW.p rfl rfl rfl (Yp.fieldP rfl rfl Try.underlying26 rfl sz24) ?_
            refine RW.p rfl rfl rfl (Yp.loadB1 0 rfl rfl rfl one24 rfl) ?_
            refine RW.p rfl rfl rfl (Yp.lenSl rfl rfl Try.underlying24) ?_
            refine RW.p rfl rfl rfl (Yp.eql rfl rfl rfl) ?_
            refine RW.p rfl rfl rfl (Yp.assign rfl rfl) ?_
            refine RW.nil ?_
            refine CW.cond rfl (fun hb6 => ?_) (fun hb6 => ?_)
            ·
              have hm := ift hm hb6
              refine CW.seq ?_
              refine CW.region ?_
              refine RW.p rfl rfl rfl (Yp.loadBN 2 rfl rfl rfl many26 (Nat.le_of_ble_eq_true rfl)) ?_
              refine RW.u rfl rfl (Yu.storeB 1 rfl rfl rfl rfl sz26 (Pw.agg (PwL.own 3 rfl (PwL.own 4 rfl (PwL.p rfl (PwL.p rfl PwL.nil))))) rfl (Nat.le_of_ble_eq_true rfl)) ?_
              refine RW.p rfl rfl rfl (Yp.assign rfl rfl) ?_
              refine RW.nil ?_
              refine CW.frzB 3 1 rfl rfl (VwL.cons (Vw.row 0 rfl) (VwL.cons (Vw.id _) (VwL.cons (Vw.id _) (VwL.cons (Vw.id _) VwL.nil)))) ?_
              refine CW.frzB 3 1 rfl rfl (VwL.cons (Vw.id _) (VwL.cons (Vw.row 0 rfl) (VwL.cons (Vw.id _) (VwL.cons (Vw.id _) VwL.nil)))) ?_
              refine CW.ret ?_
              cases hm
              exact fin2 (.inr rfl) rfl (ResIs.cellN 1 rfl rfl many26 rfl) (ResIs.tmp rfl) (List.nil_sublist _) ⟨rfl, rfl⟩
            ·
              have hm := iff' hm hb6
              refine CW.seq ?_
              refine CW.region ?_
              refine RW.sel [2, 2, 2, 0, 0] rfl ?_
              obtain ⟨x3, hx3, hm⟩ := bnd hm
              refine RW.c rfl rfl rfl (Yc.fnV (σp := [.box b3 26 [.lit v1, .lit v2, .i x2.fLeft, .b x2.fDown], .row v1 29 1 (cL 1 (cN .u8)) x2.fDurable, .row v2 56 2 Write.cells x2.fPending]) (args' := [.lit (.pointer (some ⟨b3, 0, none⟩))]) rfl rfl ok41 rfl rfl rfl (VwL.id _) (m41_1_ok x2 b3 v1 v2 hx3)) ?_
              rintro _ _ ⟨_, ⟨rfl, rfl⟩, rfl⟩
              refine RW.p rfl rfl rfl (Yp.not rfl rfl) ?_
              refine RW.p rfl rfl rfl (Yp.assign rfl rfl) ?_
              refine RW.nil ?_
              refine CW.cond rfl (fun hb7 => ?_) (fun hb7 => ?_)
              ·
                have hm := ift hm hb7
                refine CW.seq ?_
                refine CW.region ?_
                refine RW.p rfl rfl rfl (Yp.loadBN 0 rfl rfl rfl many26 (Nat.le_of_ble_eq_true rfl)) ?_
                refine RW.u rfl rfl (Yu.storeB 4 rfl rfl rfl rfl sz26 (Pw.agg (PwL.own 1 rfl (PwL.own 2 rfl (PwL.p rfl (PwL.p rfl PwL.nil))))) rfl (Nat.le_of_ble_eq_true rfl)) ?_
                refine RW.p rfl rfl rfl (Yp.assign rfl rfl) ?_
                refine RW.nil ?_
                refine CW.frzB 1 3 rfl rfl (VwL.cons (Vw.row 0 rfl) (VwL.cons (Vw.id _) (VwL.cons (Vw.id _) (VwL.cons (Vw.id _) VwL.nil)))) ?_
                refine CW.frzB 1 2 rfl rfl (VwL.cons (Vw.id _) (VwL.cons (Vw.row 0 rfl) (VwL.cons (Vw.id _) (VwL.cons (Vw.id _) VwL.nil)))) ?_
                refine CW.ret ?_
                cases hm
                exact fin2 (.inr rfl) rfl (ResIs.cellN 2 rfl rfl many26 rfl) (ResIs.tmp rfl) (List.nil_sublist _) ⟨rfl, rfl⟩
              ·
                have hm := iff' hm hb7
                refine CW.skip ?_
                refine CW.seq ?_
                obtain ⟨l1, hs2, hk2⟩ := bnd hm
                refine CW.cut (fun E σ => ∃ v3 : Value, Sub [(6, .lit (.pointer (some ⟨b2, 0, none⟩))), (8, .lit (.pointer (some ⟨b3, 0, none⟩)))] E ∧ σ = [.box b2 26 [.lit (.slice none 0 0), .lit (.slice none 0 0), .i 0, .b false], .box b3 26 [.lit v1, .lit v3, .i x3.2.fLeft, .b x3.2.fDown], .row v1 29 1 (cL 1 (cN .u8)) x2.fDurable, .row v3 56 2 Write.cells l1]) ?_ ?_
                ·
                  have hm := hs2
                  obtain ⟨x4, hx4, hm⟩ := bnd hm
                  obtain ⟨hc1, hm⟩ := chk hm
                  refine CW.drawSel 10 rfl [0, 0, 0, 0, 0] [.box b3 26 [.lit v1, .lit v2, .i x3.2.fLeft, .b x3.2.fDown], .row v1 29 1 (cL 1 (cN .u8)) x2.fDurable, .row v2 56 2 Write.cells x2.fPending] [.box b1 26 [.sl 1 (cL 1 (cN .u8)) p0.fDurable, .sl 2 Write.cells p0.fPending, .i p0.fLeft, .b p0.fDown], .box b2 26 [.lit (.slice none 0 0), .lit (.slice none 0 0), .i 0, .b false]] rfl (by kernel_rfl) ?_
                  intro A1 w1 hB1
                  refine RH.take 0 rfl (by kernel_rfl) rfl rfl rfl hB1 (Yp.fieldP rfl rfl Try.underlying26 rfl sz24) ?_
                  refine RH.take 2 rfl (by kernel_rfl) rfl rfl rfl hB1 (Yp.move rfl rfl) ?_
                  refine RH.take 3 rfl (by kernel_rfl) rfl rfl rfl hB1 (Yp.move rfl rfl) ?_
                  refine RH.two 1 4 (by kernel_rfl) ?_ ?_
                  ·
                    refine RO.p rfl rfl rfl rfl rfl (Yp.loadB1 0 rfl rfl rfl one24 rfl) ?_
                    refine RH.one 4 (by kernel_rfl) ?_
                    refine RO.c rfl rfl rfl rfl rfl (Yc.fnV (σp := []) (args' := [.sl 1 (cN .u8) p2]) rfl rfl ok39 rfl rfl rfl (VwL.id _) (m39_ok p2 hx4)) (fun b hb => absurd hb (by simp [blks])) ?_
                    rintro _ _ ⟨_, ⟨rfl, rfl⟩, rfl⟩
                    refine RH.one 5 (by kernel_rfl) ?_
                    refine RO.p rfl rfl rfl rfl rfl (Yp.build rfl plc56 zer56 rfl rfl) ?_
                    refine RH.one 6 (by kernel_rfl) ?_
                    refine RO.v rfl rfl rfl rfl rfl (Yv.lit Write.cells ([(Write.mk p1 x4)] : List Write) rfl Try.underlying24 sz56 zer56 rfl rfl rfl rfl rfl (fun i hi => by match i, hi with | 0, _ => rfl) (by decide) (by decide)) (fun b hb => absurd hb (by simp)) ?_
                    rintro _ _ ⟨v6, rfl, rfl⟩
                    refine RH.one 7 (by kernel_rfl) ?_
                    refine RO.v rfl rfl rfl rfl rfl (Yv.app (l := x2.fPending) (l2 := ([(Write.mk p1 x4)] : List Write)) 3 rfl rfl rfl (.inr (.inr ⟨0, _, rfl, rfl⟩)) Try.underlying24 szb56 zer56 rfl rfl (fun _ => rfl) hc1) (inX (r := .row v2 56 2 Write.cells x2.fPending) 2 rfl) ?_
                    rintro _ _ ⟨v7, rfl, rfl⟩
                    refine RH.take 8 rfl (by kernel_rfl) rfl rfl rfl hB1 (Yp.fieldP rfl rfl Try.underlying26 rfl sz24) ?_
                    refine RH.one 9 (by kernel_rfl) ?_
                    refine RO.u rfl rfl rfl (Yu.storeB 1 rfl rfl rfl rfl sz24 (Pw.own 3 rfl) rfl (Nat.le_of_ble_eq_true rfl)) (inX (r := .box b3 26 [.lit v1, .lit v2, .i x3.2.fLeft, .b x3.2.fDown]) 0 rfl) ?_
                    refine RH.sel [5, 1, 1, 1] rfl ?_
                    refine RH.done (by kernel_rfl) ?_
                    cases hm
                    exact ⟨v7, (Sub.cons rfl (Sub.cons rfl Sub.nil)), rfl⟩
                  ·
                    refine RO.c rfl rfl rfl rfl rfl (Yc.fnV (σp := []) (args' := [.sl 1 (cN .u8) p2]) rfl rfl ok39 rfl rfl rfl (VwL.id _) (m39_ok p2 hx4)) (fun b hb => absurd hb (by simp [blks])) ?_
                    rintro _ _ ⟨_, ⟨rfl, rfl⟩, rfl⟩
                    refine RH.two 1 5 (by kernel_rfl) ?_ ?_
                    ·
                      refine RO.p rfl rfl rfl rfl rfl (Yp.loadB1 0 rfl rfl rfl one24 rfl) ?_
                      refine RH.one 5 (by kernel_rfl) ?_
                      refine RO.p rfl rfl rfl rfl rfl (Yp.build rfl plc56 zer56 rfl rfl) ?_
                      refine RH.one 6 (by kernel_rfl) ?_
                      refine RO.v rfl rfl rfl rfl rfl (Yv.lit Write.cells ([(Write.mk p1 x4)] : List Write) rfl Try.underlying24 sz56 zer56 rfl rfl rfl rfl rfl (fun i hi => by match i, hi with | 0, _ => rfl) (by decide) (by decide)) (fun b hb => absurd hb (by simp)) ?_
                      rintro _ _ ⟨v8, rfl, rfl⟩
                      refine RH.one 7 (by kernel_rfl) ?_
                      refine RO.v rfl rfl rfl rfl rfl (Yv.app (l := x2.fPending) (l2 := ([(Write.mk p1 x4)] : List Write)) 3 rfl rfl rfl (.inr (.inr ⟨0, _, rfl, rfl⟩)) Try.underlying24 szb56 zer56 rfl rfl (fun _ => rfl) hc1) (inX (r := .row v2 56 2 Write.cells x2.fPending) 2 rfl) ?_
                      rintro _ _ ⟨v9, rfl, rfl⟩
                      refine RH.take 8 rfl (by kernel_rfl) rfl rfl rfl hB1 (Yp.fieldP rfl rfl Try.underlying26 rfl sz24) ?_
                      refine RH.one 9 (by kernel_rfl) ?_
                      refine RO.u rfl rfl rfl (Yu.storeB 1 rfl rfl rfl rfl sz24 (Pw.own 3 rfl) rfl (Nat.le_of_ble_eq_true rfl)) (inX (r := .box b3 26 [.lit v1, .lit v2, .i x3.2.fLeft, .b x3.2.fDown]) 0 rfl) ?_
                      refine RH.sel [5, 1, 1, 1] rfl ?_
                      refine RH.done (by kernel_rfl) ?_
                      cases hm
                      exact ⟨v9, (Sub.cons rfl (Sub.cons rfl Sub.nil)), rfl⟩
                    ·
                      refine RO.p rfl rfl rfl rfl rfl (Yp.build rfl plc56 zer56 rfl rfl) ?_
                      refine RH.two 1 6 (by kernel_rfl) ?_ ?_
                      ·
                        refine RO.p rfl rfl rfl rfl rfl (Yp.loadB1 0 rfl rfl rfl one24 rfl) ?_
                        refine RH.one 6 (by kernel_rfl) ?_
                        refine RO.v rfl rfl rfl rfl rfl (Yv.lit Write.cells ([(Write.mk p1 x4)] : List Write) rfl Try.underlying24 sz56 zer56 rfl rfl rfl rfl rfl (fun i hi => by match i, hi with | 0, _ => rfl) (by decide) (by decide)) (fun b hb => absurd hb (by simp)) ?_
                        rintro _ _ ⟨v10, rfl, rfl⟩
                        refine RH.one 7 (by kernel_rfl) ?_
                        refine RO.v rfl rfl rfl rfl rfl (Yv.app (l := x2.fPending) (l2 := ([(Write.mk p1 x4)] : List Write)) 3 rfl rfl rfl (.inr (.inr ⟨0, _, rfl, rfl⟩)) Try.underlying24 szb56 zer56 rfl rfl (fun _ => rfl) hc1) (inX (r := .row v2 56 2 Write.cells x2.fPending) 2 rfl) ?_
                        rintro _ _ ⟨v11, rfl, rfl⟩
                        refine RH.take 8 rfl (by kernel_rfl) rfl rfl rfl hB1 (Yp.fieldP rfl rfl Try.underlying26 rfl sz24) ?_
                        refine RH.one 9 (by kernel_rfl) ?_
                        refine RO.u rfl rfl rfl (Yu.storeB 1 rfl rfl rfl rfl sz24 (Pw.own 3 rfl) rfl (Nat.le_of_ble_eq_true rfl)) (inX (r := .box b3 26 [.lit v1, .lit v2, .i x3.2.fLeft, .b x3.2.fDown]) 0 rfl) ?_
                        refine RH.sel [5, 1, 1, 1] rfl ?_
                        refine RH.done (by kernel_rfl) ?_
                        cases hm
                        exact ⟨v11, (Sub.cons rfl (Sub.cons rfl Sub.nil)), rfl⟩
                      ·
                        refine RO.v rfl rfl rfl rfl rfl (Yv.lit Write.cells ([(Write.mk p1 x4)] : List Write) rfl Try.underlying24 sz56 zer56 rfl rfl rfl rfl rfl (fun i hi => by match i, hi with | 0, _ => rfl) (by decide) (by decide)) (fun b hb => absurd hb (by simp)) ?_
                        rintro _ _ ⟨v12, rfl, rfl⟩
                        refine RH.one 1 (by kernel_rfl) ?_
                        refine RO.p rfl rfl rfl rfl rfl (Yp.loadB1 1 rfl rfl rfl one24 rfl) ?_
                        refine RH.one 7 (by kernel_rfl) ?_
                        refine RO.v rfl rfl rfl rfl rfl (Yv.app (l := x2.fPending) (l2 := ([(Write.mk p1 x4)] : List Write)) 3 rfl rfl rfl (.inr (.inr ⟨0, _, rfl, rfl⟩)) Try.underlying24 szb56 zer56 rfl rfl (fun _ => rfl) hc1) (inX (r := .row v2 56 2 Write.cells x2.fPending) 2 rfl) ?_
                        rintro _ _ ⟨v13, rfl, rfl⟩
                        refine RH.take 8 rfl (by kernel_rfl) rfl rfl rfl hB1 (Yp.fieldP rfl rfl Try.underlying26 rfl sz24) ?_
                        refine RH.one 9 (by kernel_rfl) ?_
                        refine RO.u rfl rfl rfl (Yu.storeB 1 rfl rfl rfl rfl sz24 (Pw.own 3 rfl) rfl (Nat.le_of_ble_eq_true rfl)) (inX (r := .box b3 26 [.lit v1, .lit v2, .i x3.2.fLeft, .b x3.2.fDown]) 0 rfl) ?_
                        refine RH.sel [5, 1, 1, 1] rfl ?_
                        refine RH.done (by kernel_rfl) ?_
                        cases hm
                        exact ⟨v13, (Sub.cons rfl (Sub.cons rfl Sub.nil)), rfl⟩
                ·
                  rintro E σ ⟨v3, hsub2, rfl⟩
                  have hm := hk2
                  refine CW.weak ?_ hsub2
                  refine CW.seq ?_
                  refine CW.region ?_
                  refine RW.p rfl rfl rfl (Yp.loadBN 1 rfl rfl rfl many26 (Nat.le_of_ble_eq_true rfl)) ?_
                  refine RW.u rfl rfl (Yu.storeB 0 rfl rfl rfl rfl sz26 (Pw.agg (PwL.own 2 rfl (PwL.own 3 rfl (PwL.p rfl (PwL.p rfl PwL.nil))))) rfl (Nat.le_of_ble_eq_true rfl)) ?_
                  refine RW.p rfl rfl rfl (Yp.assign rfl rfl) ?_
                  refine RW.nil ?_
                  refine CW.frzB 2 0 rfl rfl (VwL.cons (Vw.row 0 rfl) (VwL.cons (Vw.id _) (VwL.cons (Vw.id _) (VwL.cons (Vw.id _) VwL.nil)))) ?_
                  refine CW.frzB 2 0 rfl rfl (VwL.cons (Vw.id _) (VwL.cons (Vw.row 0 rfl) (VwL.cons (Vw.id _) (VwL.cons (Vw.id _) VwL.nil)))) ?_
                  refine CW.ret ?_
                  cases hm
                  exact fin2 (.inr rfl) rfl (ResIs.cellN 0 rfl rfl many26 rfl) (ResIs.tmp rfl) (List.nil_sublist _) ⟨rfl, rfl⟩

def m45_1 (p0 : Disk) (p1 : Write) : Option Disk :=
  if 0 ≤ p1.fAt ∧ p1.fAt < (p0.fDurable.length : Int) then
  some (Disk.mk (p0.fDurable.set (Int.toNat p1.fAt) p1.fData) p0.fPending p0.fLeft p0.fDown)
  else none

theorem m45_1_ok (p0 : Disk) (p1 : Write) (pb0 : Nat) (pv0_0 : Value) (pv0_1 : Value) {r : Disk} (hm : m45_1 p0 p1 = some r) : Ab.Fn Try.prog 45 [.lit (.pointer (some ⟨pb0, 0, none⟩)), .agg [.i p1.fAt, .sl 1 (cN .u8) p1.fData]] [.box pb0 26 [.lit pv0_0, .lit pv0_1, .i p0.fLeft, .b p0.fDown], .row pv0_0 29 1 (cL 1 (cN .u8)) p0.fDurable, .row pv0_1 56 2 Write.cells p0.fPending] (fun a s => ∃ w0 : Value, a = .tup [] ∧ s = [.box pb0 26 [.lit w0, .lit pv0_1, .i p0.fLeft, .b p0.fDown], .row w0 29 1 (cL 1 (cN .u8)) r.fDurable, .row pv0_1 56 2 Write.cells p0.fPending]) := by
  rw [m45_1] at hm
  refine Ab.Fn.of Try.func45 rfl rfl rfl (fun C => ?_)
  refine CW.seq ?_
  refine CW.region ?_
  refine RW.v rfl rfl rfl (Yv.box rfl rfl (Pw.p rfl)) ?_
  rintro _ _ ⟨b1, rfl, rfl⟩
  refine RW.nil ?_
  obtain ⟨hc1, hm⟩ := chk hm
  refine CW.drawSel 10 rfl [1, 1, 1, 0] [.box pb0 26 [.lit pv0_0, .lit pv0_1, .i p0.fLeft, .b p0.fDown], .row pv0_0 29 1 (cL 1 (cN .u8)) p0.fDurable, .row pv0_1 56 2 Write.cells p0.fPending] [.box b1 56 [.i p1.fAt, .sl 1 (cN .u8) p1.fData]] rfl (by kernel_rfl) ?_
  intro A1 w1 hB1
  refine RH.take 0 rfl (by kernel_rfl) rfl rfl rfl hB1 (Yp.move rfl rfl) ?_
  refine RH.take 1 rfl (by kernel_rfl) rfl rfl rfl hB1 (Yp.nilCheckP rfl rfl) ?_
  refine RH.take 2 rfl (by kernel_rfl) rfl rfl rfl hB1 (Yp.fieldP rfl rfl Try.underlying26 rfl sz23) ?_
  refine RH.take 4 rfl (by kernel_rfl) rfl rfl rfl hB1 (Yp.fieldP rfl rfl Try.underlying56 rfl sz3) ?_
  refine RH.take 5 rfl (by kernel_rfl) rfl rfl rfl hB1 (Yp.loadB1 0 rfl rfl rfl one3 rfl) ?_
  refine RH.take 6 rfl (by kernel_rfl) rfl rfl rfl hB1 (Yp.fieldP rfl rfl Try.underlying56 rfl sz29) ?_
  refine RH.take 7 rfl (by kernel_rfl) rfl rfl rfl hB1 (Yp.loadB1 0 rfl rfl rfl one29 rfl) ?_
  refine RH.one 3 (by kernel_rfl) ?_
  refine RO.p rfl rfl rfl rfl rfl (Yp.loadB1 1 rfl rfl rfl one23 rfl) ?_
  refine RH.one 8 (by kernel_rfl) ?_
  refine RO.p rfl rfl rfl rfl rfl (Yp.indexRow 2 rfl rfl rfl rfl Try.underlying23 sz29 hc1) ?_
  refine RH.one 9 (by kernel_rfl) ?_
  refine RO.u rfl rfl rfl (Yu.storeR (of := 0) (m := Int.toNat p1.fAt) 2 p1.fData rfl rfl rfl rfl sz29 rfl rfl rfl (by have := hc1; (try simp only [List.length_set] at this); (try simp only [List.length_set]); omega) (by decide) rfl) (inX (r := .row pv0_0 29 1 (cL 1 (cN .u8)) p0.fDurable) 1 rfl) ?_
  refine RH.sel [1, 1, 1] rfl ?_
  refine RH.done (by kernel_rfl) ?_
  cases hm
  exact fin0 (.inl rfl) rfl  (.cons_cons _ (.cons_cons _ (.cons_cons _ (List.nil_sublist _)))) ⟨pv0_0, rfl, rfl⟩

def m22_l1 (x2 : Disk) (n1 : Int) (c1 : Bool) : Nat → (List (List Int)) → Int → Option (List (List Int))
  | 0, _, _ => none
  | k1 + 1, l4, n4 =>
    if (decide (n4 < (x2.fPending.length : Int))) = true then
      if 0 ≤ n4 ∧ n4 < (x2.fPending.length : Int) then
      (m45_1 (Disk.mk l4 x2.fPending n1 c1) (x2.fPending[Int.toNat n4]!)).bind fun x4 =>
      m22_l1 x2 n1 c1 k1 x4.fDurable (w64 (n4 + 1))
      else none
    else
      some l4
def m22 (p0 : Disk) : Option (Disk × Int) :=
  (m13 p0).bind fun x1 =>
  if (!x1) = true then
    some ((Disk.mk [] [] 0 false), 1)
  else
    (m40_1 p0).bind fun x2 =>
    Option.bind (
      if p0.fDown = true then
        some (x2.fLeft, x2.fDown, true)
      else
        (m41_1 x2).bind fun x3 =>
        some (x3.2.fLeft, x3.2.fDown, (!x3.1))) fun (n1, c1, c2) =>
    if c2 = true then
      some ((Disk.mk x2.fDurable x2.fPending n1 c1), 17)
    else
      Option.bind (
        (m22_l1 x2 n1 c1 (Int.toNat (x2.fPending.length : Int) + 1) x2.fDurable 0).bind fun l5 =>
        some l5) fun l1 =>
      some ((Disk.mk l1 [] n1 c1), 0)

theorem m22_ok (p0 : Disk)  {r : Disk × Int} (hm : m22 p0 = some r) : Ab.Fn Try.prog 22 [.agg [.sl 1 (cL 1 (cN .u8)) p0.fDurable, .sl 2 Write.cells p0.fPending, .i p0.fLeft, .b p0.fDown]] [] (fun a s => a = .tup [.agg [.sl 1 (cL 1 (cN .u8)) r.1.fDurable, .sl 2 Write.cells r.1.fPending, .i r.1.fLeft, .b r.1.fDown], .i r.2] ∧ s = []) := by
  rw [m22] at hm
  refine Ab.Fn.of Try.func22 rfl rfl rfl (fun C => ?_)
  refine CW.seq ?_
  refine CW.region ?_
  refine RW.v rfl rfl rfl (Yv.box rfl rfl (Pw.p rfl)) ?_
  rintro _ _ ⟨b1, rfl, rfl⟩
  refine RW.v rfl rfl rfl (Yv.alloc rfl zerb26) ?_
  rintro _ _ ⟨b2, rfl, rfl⟩
  refine RW.p rfl rfl rfl (Yp.assign rfl rfl) ?_
  refine RW.nil ?_
  refine CW.seq ?_
  refine CW.seq ?_
  refine CW.region ?_
  refine RW.p rfl rfl rfl (Yp.loadBN 1 rfl rfl rfl many26 (Nat.le_of_ble_eq_true rfl)) ?_
  obtain ⟨x1, hx1, hm⟩ := bnd hm
  refine RW.c rfl rfl rfl (Yc.fnV (σp := []) (args' := [.agg [.sl 1 (cL 1 (cN .u8)) p0.fDurable, .sl 2 Write.cells p0.fPending, .i p0.fLeft, .b p0.fDown]]) rfl rfl ok13 rfl rfl rfl (VwL.id _) (m13_ok p0 hx1)) ?_
  rintro _ _ ⟨_, ⟨rfl, rfl⟩, rfl⟩
  refine RW.p rfl rfl rfl (Yp.not rfl rfl) ?_
  refine RW.nil ?_
  refine CW.cond rfl (fun hb1 => ?_) (fun hb1 => ?_)
  ·
    have hm := ift hm hb1
    refine CW.seq ?_
    refine CW.region ?_
    refine RW.p rfl rfl rfl (Yp.build rfl plc26 zer26 rfl rfl) ?_
    refine RW.u rfl rfl (Yu.storeB 0 rfl rfl rfl rfl sz26 (Pw.p rfl) rfl (Nat.le_of_ble_eq_true rfl)) ?_
    refine RW.p rfl rfl rfl (Yp.assign rfl rfl) ?_
    refine RW.nil ?_
    refine CW.sayB 0 rfl (VwL.cons (Vw.nil 1 (cL 1 (cN .u8))) (VwL.cons (Vw.nil 2 Write.cells) (VwL.cons (Vw.id _) (VwL.cons (Vw.id _) VwL.nil)))) ?_
    refine CW.ret ?_
    cases hm
    exact fin2 (.inr rfl) rfl (ResIs.cellN 0 rfl rfl many26 rfl) (ResIs.tmp rfl) (List.nil_sublist _) ⟨rfl, rfl⟩
  ·
    have hm := iff' hm hb1
    refine CW.skip ?_
    refine CW.seq ?_
    refine CW.region ?_
    refine RW.p rfl rfl rfl (Yp.loadBN 1 rfl rfl rfl many26 (Nat.le_of_ble_eq_true rfl)) ?_
    obtain ⟨x2, hx2, hm⟩ := bnd hm
    refine RW.c rfl rfl rfl (Yc.fnV (σp := []) (args' := [.agg [.sl 1 (cL 1 (cN .u8)) p0.fDurable, .sl 2 Write.cells p0.fPending, .i p0.fLeft, .b p0.fDown]]) rfl rfl ok40 rfl rfl rfl (VwL.id _) (m40_1_ok p0 hx2)) ?_
    rintro _ _ ⟨_, ⟨v1, v2, rfl, rfl⟩, rfl⟩
    refine RW.v rfl rfl rfl (Yv.alloc rfl zerb26) ?_
    rintro _ _ ⟨b3, rfl, rfl⟩
    refine RW.u rfl rfl (Yu.storeB 0 rfl rfl rfl rfl sz26 (Pw.agg (PwL.own 1 rfl (PwL.own 2 rfl (PwL.p rfl (PwL.p rfl PwL.nil))))) rfl (Nat.le_of_ble_eq_true rfl)) ?_
    refine RW.nil ?_
    refine CW.seq ?_
    refine CW.seq ?_
    obtain ⟨⟨n1, c1, c2⟩, hs1, hk1⟩ := bnd hm
    refine CW.cut (fun E σ => Sub [(2, .lit (.pointer (some ⟨b2, 0, none⟩))), (4, .lit (.pointer (some ⟨b3, 0, none⟩))), (18, .b c2)] E ∧ σ = [.box b2 26 [.lit (.slice none 0 0), .lit (.slice none 0 0), .i 0, .b false], .box b3 26 [.lit v1, .lit v2, .i n1, .b c1], .row v1 29 1 (cL 1 (cN .u8)) x2.fDurable, .row v2 56 2 Write.cells x2.fPending]) ?_ ?_
    ·
      have hm := hs1
      refine CW.region ?_
      refine RW.p rfl rfl rfl (Yp.fieldP rfl rfl Try.underlying26 rfl sz4) ?_
      refine RW.p rfl rfl rfl (Yp.loadB1 4 rfl rfl rfl one4 rfl) ?_
      refine RW.p rfl rfl rfl (Yp.move rfl rfl) ?_
      rcases Bool.eq_false_or_eq_true p0.fDown with hb2 | hb2
      ·
        have hm := ift hm hb2
        refine RW.eqv 15 rfl (congrArg AV.b hb2) ?_
        refine RW.skip rfl rfl rfl ?_
        refine RW.skip rfl rfl rfl ?_
        refine RW.p rfl rfl rfl (Yp.pickT rfl rfl rfl) ?_
        refine RW.sel [3, 0, 0, 0] rfl ?_
        refine RW.nil ?_
        cases hm
        exact ⟨(Sub.cons rfl (Sub.cons rfl (Sub.cons rfl Sub.nil))), rfl⟩
      ·
        have hm := iff' hm hb2
        refine RW.eqv 15 rfl (congrArg AV.b hb2) ?_
        obtain ⟨x3, hx3, hm⟩ := bnd hm
        refine RW.c rfl rfl rfl (Yc.fnV (σp := [.box b3 26 [.lit v1, .lit v2, .i x2.fLeft, .b x2.fDown], .row v1 29 1 (cL 1 (cN .u8)) x2.fDurable, .row v2 56 2 Write.cells x2.fPending]) (args' := [.lit (.pointer (some ⟨b3, 0, none⟩))]) rfl rfl ok41 rfl rfl rfl (VwL.id _) (m41_1_ok x2 b3 v1 v2 hx3)) ?_
        rintro _ _ ⟨_, ⟨rfl, rfl⟩, rfl⟩
        refine RW.p rfl rfl rfl (Yp.not rfl rfl) ?_
        refine RW.p rfl rfl rfl (Yp.pickF rfl rfl rfl) ?_
        refine RW.sel [3, 0, 0, 0] rfl ?_
        refine RW.nil ?_
        cases hm
        exact ⟨(Sub.cons rfl (Sub.cons rfl (Sub.cons rfl Sub.nil))), rfl⟩
    ·
      rintro E σ ⟨hsub1, rfl⟩
      have hm := hk1
      refine CW.weak ?_ hsub1
      refine CW.cond rfl (fun hb3 => ?_) (fun hb3 => ?_)
      ·
        have hm := ift hm hb3
        refine CW.seq ?_
        refine CW.region ?_
        refine RW.p rfl rfl rfl (Yp.loadBN 1 rfl rfl rfl many26 (Nat.le_of_ble_eq_true rfl)) ?_
        refine RW.u rfl rfl (Yu.storeB 0 rfl rfl rfl rfl sz26 (Pw.agg (PwL.own 2 rfl (PwL.own 3 rfl (PwL.p rfl (PwL.p rfl PwL.nil))))) rfl (Nat.le_of_ble_eq_true rfl)) ?_
        refine RW.p rfl rfl rfl (Yp.assign rfl rfl) ?_
        refine RW.nil ?_
        refine CW.frzB 2 0 rfl rfl (VwL.cons (Vw.row 0 rfl) (VwL.cons (Vw.id _) (VwL.cons (Vw.id _) (VwL.cons (Vw.id _) VwL.nil)))) ?_
        refine CW.frzB 2 0 rfl rfl (VwL.cons (Vw.id _) (VwL.cons (Vw.row 0 rfl) (VwL.cons (Vw.id _) (VwL.cons (Vw.id _) VwL.nil)))) ?_
        refine CW.ret ?_
        cases hm
        exact fin2 (.inr rfl) rfl (ResIs.cellN 0 rfl rfl many26 rfl) (ResIs.tmp rfl) (List.nil_sublist _) ⟨rfl, rfl⟩
      ·
        have hm := iff' hm hb3
        refine CW.skip ?_
        refine CW.seq ?_
        obtain ⟨l1, hs2, hk2⟩ := bnd hm
        refine CW.cut (fun E σ => ∃ v3 : Value, Sub [(2, .lit (.pointer (some ⟨b2, 0, none⟩))), (4, .lit (.pointer (some ⟨b3, 0, none⟩)))] E ∧ σ = [.box b2 26 [.lit (.slice none 0 0), .lit (.slice none 0 0), .i 0, .b false], .box b3 26 [.lit v3, .lit v2, .i n1, .b c1], .row v3 29 1 (cL 1 (cN .u8)) l1, .row v2 56 2 Write.cells x2.fPending]) ?_ ?_
        ·
          have hm := hs2
          refine CW.seq ?_
          refine CW.region ?_
          refine RW.p rfl rfl rfl (Yp.fieldP rfl rfl Try.underlying26 rfl sz24) ?_
          refine RW.p rfl rfl rfl (Yp.loadB1 1 rfl rfl rfl one24 rfl) ?_
          refine RW.p rfl rfl rfl (Yp.lenRow 3 rfl rfl rfl Try.underlying24) ?_
          refine RW.p rfl rfl rfl (Yp.move rfl rfl) ?_
          refine RW.nil ?_
          refine CW.block ?_
          obtain ⟨l5, hs3, hk3⟩ := bnd hm
          refine CW.lp (fun k1 E σ => ∃ l4 : List (List Int), ∃ n4 : Int, ∃ v6 : Value, Sub [(2, .lit (.pointer (some ⟨b2, 0, none⟩))), (4, .lit (.pointer (some ⟨b3, 0, none⟩))), (21, .lit v2), (22, .i (x2.fPending.length : Int)), (23, .i n4)] E ∧ σ = [.box b2 26 [.lit (.slice none 0 0), .lit (.slice none 0 0), .i 0, .b false], .box b3 26 [.lit v6, .lit v2, .i n1, .b c1], .row v6 29 1 (cL 1 (cN .u8)) l4, .row v2 56 2 Write.cells x2.fPending] ∧ m22_l1 x2 n1 c1 k1 l4 n4 = some l5) (Int.toNat (x2.fPending.length : Int) + 1) ?_ ?_
          · exact ⟨x2.fDurable, 0, v1, (Sub.cons rfl (Sub.cons rfl (Sub.cons rfl (Sub.cons rfl (Sub.cons rfl Sub.nil))))), rfl, hs3⟩
          ·
            rintro k1 E σ ⟨l4, n4, v6, hsub2, rfl, hm⟩
            refine CW.weak ?_ hsub2
            cases k1 with
            | zero => cases hm
            | succ k1 =>
              rw [m22_l1] at hm
              refine CW.seq ?_
              refine CW.region ?_
              refine RW.p rfl rfl rfl (Yp.lss rfl rfl rfl) ?_
              refine RW.nil ?_
              refine CW.seq ?_
              refine CW.cond rfl (fun hb4 => ?_) (fun hb4 => ?_)
              ·
                have hm := ift hm hb4
                refine CW.skip ?_
                refine CW.seq ?_
                refine CW.block ?_
                refine CW.seq ?_
                refine CW.region ?_
                obtain ⟨hc1, hm⟩ := chk hm
                refine RW.p rfl rfl rfl (Yp.indexRow 3 rfl rfl rfl rfl Try.underlying24 sz56 hc1) ?_
                refine RW.p rfl rfl rfl (Yp.loadRN (of := 0) 3 (Int.toNat n4) rfl rfl rfl many56 rfl (by have := hc1; (try simp only [List.length_set] at this); (try simp only [List.length_set]); omega) (by decide)) ?_
                refine RW.v rfl rfl rfl (Yv.alloc rfl zerb56) ?_
                rintro _ _ ⟨b4, rfl, rfl⟩
                refine RW.u rfl rfl (Yu.storeB 0 rfl rfl rfl rfl sz56 (Pw.p rfl) rfl (Nat.le_of_ble_eq_true rfl)) ?_
                refine RW.nil ?_
                refine CW.region ?_
                refine RW.p rfl rfl rfl (Yp.loadBN 0 rfl rfl rfl many56 (Nat.le_of_ble_eq_true rfl)) ?_
                refine RW.sel [2, 2, 2, 0, 0] rfl ?_
                obtain ⟨x4, hx4, hm⟩ := bnd hm
                refine RW.c rfl rfl rfl (Yc.fnV (σp := [.box b3 26 [.lit v6, .lit v2, .i n1, .b c1], .row v6 29 1 (cL 1 (cN .u8)) l4, .row v2 56 2 Write.cells x2.fPending]) (args' := [.lit (.pointer (some ⟨b3, 0, none⟩)), .agg [.i ((x2.fPending[Int.toNat n4]!).fAt), .sl 1 (cN .u8) ((x2.fPending[Int.toNat n4]!).fData)]]) rfl rfl ok45 rfl rfl rfl (VwL.id _) (m45_1_ok (Disk.mk l4 x2.fPending n1 c1) (x2.fPending[Int.toNat n4]!) b3 v6 v2 hx4)) ?_
                rintro _ _ ⟨_, ⟨v8, rfl, rfl⟩, rfl⟩
                refine RW.nil ?_
                refine CW.region ?_
                refine RW.p rfl rfl rfl (Yp.add rfl rfl rfl) ?_
                refine RW.p rfl rfl rfl (Yp.move rfl rfl) ?_
                refine RW.sel [4, 0, 0, 0] rfl ?_
                refine RW.nil ?_
                exact ⟨k1, Nat.lt_succ_self _, _, _, v8, (Sub.cons rfl (Sub.cons rfl (Sub.cons rfl (Sub.cons rfl (Sub.cons rfl Sub.nil))))), rfl, hm⟩
              ·
                have hm := iff' hm hb4
                refine CW.exit ?_
                cases hm
                have hm := hk3
                cases hm
                exact ⟨v6, (Sub.cons rfl (Sub.cons rfl Sub.nil)), rfl⟩
        ·
          rintro E σ ⟨v3, hsub3, rfl⟩
          have hm := hk2
          refine CW.weak ?_ hsub3
          refine CW.seq ?_
          refine CW.region ?_
          refine RW.p rfl rfl rfl (Yp.fieldP rfl rfl Try.underlying26 rfl sz24) ?_
          refine RW.u rfl rfl (Yu.storeB 1 rfl rfl rfl rfl sz24 (Pw.p rfl) rfl (Nat.le_of_ble_eq_true rfl)) ?_
          refine RW.nil ?_
          refine CW.seq ?_
          refine CW.region ?_
          refine RW.p rfl rfl rfl (Yp.loadBN 1 rfl rfl rfl many26 (Nat.le_of_ble_eq_true rfl)) ?_
          refine RW.u rfl rfl (Yu.storeB 0 rfl rfl rfl rfl sz26 (Pw.agg (PwL.own 2 rfl (PwL.p rfl (PwL.p rfl (PwL.p rfl PwL.nil))))) rfl (Nat.le_of_ble_eq_true rfl)) ?_
          refine RW.p rfl rfl rfl (Yp.assign rfl rfl) ?_
          refine RW.nil ?_
          refine CW.frzB 2 0 rfl rfl (VwL.cons (Vw.row 0 rfl) (VwL.cons (Vw.id _) (VwL.cons (Vw.id _) (VwL.cons (Vw.id _) VwL.nil)))) ?_
          refine CW.sayB 0 rfl (VwL.cons (Vw.id _) (VwL.cons (Vw.nil 2 Write.cells) (VwL.cons (Vw.id _) (VwL.cons (Vw.id _) VwL.nil)))) ?_
          refine CW.ret ?_
          cases hm
          exact fin2 (.inr rfl) rfl (ResIs.cellN 0 rfl rfl many26 rfl) (ResIs.tmp rfl) (List.nil_sublist _) ⟨rfl, rfl⟩

def m23 (p0 : Disk) (p1 : Int) : Option (Disk × Int) :=
  (m13 p0).bind fun x1 =>
  if (!x1) = true then
    some ((Disk.mk [] [] 0 false), 1)
  else
    (m40 p0).bind fun x2 =>
    if p0.fDown = true then
      some (x2, 17)
    else
      some ((Disk.mk x2.fDurable x2.fPending (if p1 < (-1) then (-1) else p1) x2.fDown), 0)

theorem m23_ok (p0 : Disk) (p1 : Int)  {r : Disk × Int} (hm : m23 p0 p1 = some r) : Ab.Fn Try.prog 23 [.agg [.sl 1 (cL 1 (cN .u8)) p0.fDurable, .sl 2 Write.cells p0.fPending, .i p0.fLeft, .b p0.fDown], .i p1] [] (fun a s => a = .tup [.agg [.sl 1 (cL 1 (cN .u8)) r.1.fDurable, .sl 2 Write.cells r.1.fPending, .i r.1.fLeft, .b r.1.fDown], .i r.2] ∧ s = []) := by
  rw [m23] at hm
  refine Ab.Fn.of Try.func23 rfl rfl rfl (fun C => ?_)
  refine CW.seq ?_
  refine CW.region ?_
  refine RW.v rfl rfl rfl (Yv.box rfl rfl (Pw.p rfl)) ?_
  rintro _ _ ⟨b1, rfl, rfl⟩
  refine RW.v rfl rfl rfl (Yv.alloc rfl zerb26) ?_
  rintro _ _ ⟨b2, rfl, rfl⟩
  refine RW.p rfl rfl rfl (Yp.assign rfl rfl) ?_
  refine RW.nil ?_
  refine CW.seq ?_
  refine CW.seq ?_
  refine CW.region ?_
  refine RW.p rfl rfl rfl (Yp.loadBN 1 rfl rfl rfl many26 (Nat.le_of_ble_eq_true rfl)) ?_
  obtain ⟨x1, hx1, hm⟩ := bnd hm
  refine RW.c rfl rfl rfl (Yc.fnV (σp := []) (args' := [.agg [.sl 1 (cL 1 (cN .u8)) p0.fDurable, .sl 2 Write.cells p0.fPending, .i p0.fLeft, .b p0.fDown]]) rfl rfl ok13 rfl rfl rfl (VwL.id _) (m13_ok p0 hx1)) ?_
  rintro _ _ ⟨_, ⟨rfl, rfl⟩, rfl⟩
  refine RW.p rfl rfl rfl (Yp.not rfl rfl) ?_
  refine RW.nil ?_
  refine CW.cond rfl (fun hb1 => ?_) (fun hb1 => ?_)
  ·
    have hm := ift hm hb1
    refine CW.seq ?_
    refine CW.region ?_
    refine RW.p rfl rfl rfl (Yp.build rfl plc26 zer26 rfl rfl) ?_
    refine RW.u rfl rfl (Yu.storeB 0 rfl rfl rfl rfl sz26 (Pw.p rfl) rfl (Nat.le_of_ble_eq_true rfl)) ?_
    refine RW.p rfl rfl rfl (Yp.assign rfl rfl) ?_
    refine RW.nil ?_
    refine CW.sayB 0 rfl (VwL.cons (Vw.nil 1 (cL 1 (cN .u8))) (VwL.cons (Vw.nil 2 Write.cells) (VwL.cons (Vw.id _) (VwL.cons (Vw.id _) VwL.nil)))) ?_
    refine CW.ret ?_
    cases hm
    exact fin2 (.inr rfl) rfl (ResIs.cellN 0 rfl rfl many26 rfl) (ResIs.tmp rfl) (List.nil_sublist _) ⟨rfl, rfl⟩
  ·
    have hm := iff' hm hb1
    refine CW.skip ?_
    refine CW.seq ?_
    refine CW.region ?_
    refine RW.p rfl rfl rfl (Yp.loadBN 1 rfl rfl rfl many26 (Nat.le_of_ble_eq_true rfl)) ?_
    obtain ⟨x2, hx2, hm⟩ := bnd hm
    refine RW.c rfl rfl rfl (Yc.fnV (σp := []) (args' := [.agg [.sl 1 (cL 1 (cN .u8)) p0.fDurable, .sl 2 Write.cells p0.fPending, .i p0.fLeft, .b p0.fDown]]) rfl rfl ok40 rfl rfl rfl (VwL.id _) (m40_ok p0 hx2)) ?_
    rintro _ _ ⟨_, ⟨rfl, rfl⟩, rfl⟩
    refine RW.v rfl rfl rfl (Yv.alloc rfl zerb26) ?_
    rintro _ _ ⟨b3, rfl, rfl⟩
    refine RW.u rfl rfl (Yu.storeB 0 rfl rfl rfl rfl sz26 (Pw.p rfl) rfl (Nat.le_of_ble_eq_true rfl)) ?_
    refine RW.nil ?_
    refine CW.seq ?_
    refine CW.seq ?_
    refine CW.region ?_
    refine RW.p rfl rfl rfl (Yp.fieldP rfl rfl Try.underlying26 rfl sz4) ?_
    refine RW.p rfl rfl rfl (Yp.loadB1 2 rfl rfl rfl one4 rfl) ?_
    refine RW.nil ?_
    refine CW.cond rfl (fun hb2 => ?_) (fun hb2 => ?_)
    ·
      have hm := ift hm hb2
      refine CW.seq ?_
      refine CW.region ?_
      refine RW.p rfl rfl rfl (Yp.loadBN 0 rfl rfl rfl many26 (Nat.le_of_ble_eq_true rfl)) ?_
      refine RW.u rfl rfl (Yu.storeB 1 rfl rfl rfl rfl sz26 (Pw.p rfl) rfl (Nat.le_of_ble_eq_true rfl)) ?_
      refine RW.p rfl rfl rfl (Yp.assign rfl rfl) ?_
      refine RW.nil ?_
      refine CW.ret ?_
      cases hm
      exact fin2 (.inr rfl) rfl (ResIs.cellN 1 rfl rfl many26 rfl) (ResIs.tmp rfl) (List.nil_sublist _) ⟨rfl, rfl⟩
    ·
      have hm := iff' hm hb2
      refine CW.skip ?_
      refine CW.seq ?_
      refine CW.region ?_
      refine RW.p rfl rfl rfl (Yp.move rfl rfl) ?_
      refine RW.p rfl rfl rfl (Yp.max rfl rfl rfl) ?_
      refine RW.p rfl rfl rfl (Yp.fieldP rfl rfl Try.underlying26 rfl sz3) ?_
      refine RW.u rfl rfl (Yu.storeB 0 rfl rfl rfl rfl sz3 (Pw.p rfl) rfl (Nat.le_of_ble_eq_true rfl)) ?_
      refine RW.nil ?_
      refine CW.seq ?_
      refine CW.region ?_
      refine RW.p rfl rfl rfl (Yp.loadBN 0 rfl rfl rfl many26 (Nat.le_of_ble_eq_true rfl)) ?_
      refine RW.u rfl rfl (Yu.storeB 1 rfl rfl rfl rfl sz26 (Pw.p rfl) rfl (Nat.le_of_ble_eq_true rfl)) ?_
      refine RW.p rfl rfl rfl (Yp.assign rfl rfl) ?_
      refine RW.nil ?_
      refine CW.ret ?_
      cases hm
      exact fin2 (.inr rfl) rfl (ResIs.cellN 1 rfl rfl many26 rfl) (ResIs.tmp rfl) (List.nil_sublist _) ⟨rfl, rfl⟩

def m24_l1 (p1 : List Bool) (x2 : Disk) : Nat → (List (List Int)) → Int → Option (List (List Int))
  | 0, _, _ => none
  | k1 + 1, l4, n3 =>
    if (decide (n3 < (x2.fPending.length : Int))) = true then
      Option.bind (
        if 0 ≤ n3 ∧ n3 < (x2.fPending.length : Int) then
        Option.bind (
          if (decide (n3 < (p1.length : Int))) = true then
            if 0 ≤ n3 ∧ n3 < (p1.length : Int) then
            some (p1[Int.toNat n3]!)
            else none
          else
            some false) fun c1 =>
        if c1 = true then
          (m45_1 (Disk.mk l4 x2.fPending x2.fLeft x2.fDown) (x2.fPending[Int.toNat n3]!)).bind fun x3 =>
          some x3.fDurable
        else
          some l4
        else none) fun l6 =>
      m24_l1 p1 x2 k1 l6 (w64 (n3 + 1))
    else
      some l4
def m24 (p0 : Disk) (p1 : List Bool) : Option (Disk × Int) :=
  (m13 p0).bind fun x1 =>
  if (!x1) = true then
    some ((Disk.mk [] [] 0 false), 1)
  else
    (m40_1 p0).bind fun x2 =>
    Option.bind (
      (m24_l1 p1 x2 (Int.toNat (x2.fPending.length : Int) + 1) x2.fDurable 0).bind fun l5 =>
      some l5) fun l1 =>
    some ((Disk.mk l1 [] (-1) false), 0)

theorem m24_ok (p0 : Disk) (p1 : List Bool)  {r : Disk × Int} (hm : m24 p0 p1 = some r) : Ab.Fn Try.prog 24 [.agg [.sl 1 (cL 1 (cN .u8)) p0.fDurable, .sl 2 Write.cells p0.fPending, .i p0.fLeft, .b p0.fDown], .sl 1 cB p1] [] (fun a s => a = .tup [.agg [.sl 1 (cL 1 (cN .u8)) r.1.fDurable, .sl 2 Write.cells r.1.fPending, .i r.1.fLeft, .b r.1.fDown], .i r.2] ∧ s = []) := by
  rw [m24] at hm
  refine Ab.Fn.of Try.func24 rfl rfl rfl (fun C => ?_)
  refine CW.seq ?_
  refine CW.region ?_
  refine RW.v rfl rfl rfl (Yv.box rfl rfl (Pw.p rfl)) ?_
  rintro _ _ ⟨b1, rfl, rfl⟩
  refine RW.v rfl rfl rfl (Yv.alloc rfl zerb26) ?_
  rintro _ _ ⟨b2, rfl, rfl⟩
  refine RW.p rfl rfl rfl (Yp.assign rfl rfl) ?_
  refine RW.nil ?_
  refine CW.seq ?_
  refine CW.seq ?_
  refine CW.region ?_
  refine RW.p rfl rfl rfl (Yp.loadBN 1 rfl rfl rfl many26 (Nat.le_of_ble_eq_true rfl)) ?_
  obtain ⟨x1, hx1, hm⟩ := bnd hm
  refine RW.c rfl rfl rfl (Yc.fnV (σp := []) (args' := [.agg [.sl 1 (cL 1 (cN .u8)) p0.fDurable, .sl 2 Write.cells p0.fPending, .i p0.fLeft, .b p0.fDown]]) rfl rfl ok13 rfl rfl rfl (VwL.id _) (m13_ok p0 hx1)) ?_
  rintro _ _ ⟨_, ⟨rfl, rfl⟩, rfl⟩
  refine RW.p rfl rfl rfl (Yp.not rfl rfl) ?_
  refine RW.nil ?_
  refine CW.cond rfl (fun hb1 => ?_) (fun hb1 => ?_)
  ·
    have hm := ift hm hb1
    refine CW.seq ?_
    refine CW.region ?_
    refine RW.p rfl rfl rfl (Yp.build rfl plc26 zer26 rfl rfl) ?_
    refine RW.u rfl rfl (Yu.storeB 0 rfl rfl rfl rfl sz26 (Pw.p rfl) rfl (Nat.le_of_ble_eq_true rfl)) ?_
    refine RW.p rfl rfl rfl (Yp.assign rfl rfl) ?_
    refine RW.nil ?_
    refine CW.sayB 0 rfl (VwL.cons (Vw.nil 1 (cL 1 (cN .u8))) (VwL.cons (Vw.nil 2 Write.cells) (VwL.cons (Vw.id _) (VwL.cons (Vw.id _) VwL.nil)))) ?_
    refine CW.ret ?_
    cases hm
    exact fin2 (.inr rfl) rfl (ResIs.cellN 0 rfl rfl many26 rfl) (ResIs.tmp rfl) (List.nil_sublist _) ⟨rfl, rfl⟩
  ·
    have hm := iff' hm hb1
    refine CW.skip ?_
    refine CW.seq ?_
    refine CW.region ?_
    refine RW.p rfl rfl rfl (Yp.loadBN 1 rfl rfl rfl many26 (Nat.le_of_ble_eq_true rfl)) ?_
    obtain ⟨x2, hx2, hm⟩ := bnd hm
    refine RW.c rfl rfl rfl (Yc.fnV (σp := []) (args' := [.agg [.sl 1 (cL 1 (cN .u8)) p0.fDurable, .sl 2 Write.cells p0.fPending, .i p0.fLeft, .b p0.fDown]]) rfl rfl ok40 rfl rfl rfl (VwL.id _) (m40_1_ok p0 hx2)) ?_
    rintro _ _ ⟨_, ⟨v1, v2, rfl, rfl⟩, rfl⟩
    refine RW.v rfl rfl rfl (Yv.alloc rfl zerb26) ?_
    rintro _ _ ⟨b3, rfl, rfl⟩
    refine RW.u rfl rfl (Yu.storeB 0 rfl rfl rfl rfl sz26 (Pw.agg (PwL.own 1 rfl (PwL.own 2 rfl (PwL.p rfl (PwL.p rfl PwL.nil))))) rfl (Nat.le_of_ble_eq_true rfl)) ?_
    refine RW.nil ?_
    refine CW.seq ?_
    obtain ⟨l1, hs1, hk1⟩ := bnd hm
    refine CW.cut (fun E σ => ∃ v3 : Value, Sub [(4, .lit (.pointer (some ⟨b2, 0, none⟩))), (6, .lit (.pointer (some ⟨b3, 0, none⟩)))] E ∧ σ = [.box b2 26 [.lit (.slice none 0 0), .lit (.slice none 0 0), .i 0, .b false], .box b3 26 [.lit v3, .lit v2, .i x2.fLeft, .b x2.fDown], .row v3 29 1 (cL 1 (cN .u8)) l1, .row v2 56 2 Write.cells x2.fPending]) ?_ ?_
    ·
      have hm := hs1
      refine CW.seq ?_
      refine CW.region ?_
      refine RW.p rfl rfl rfl (Yp.fieldP rfl rfl Try.underlying26 rfl sz24) ?_
      refine RW.p rfl rfl rfl (Yp.loadB1 0 rfl rfl rfl one24 rfl) ?_
      refine RW.p rfl rfl rfl (Yp.lenRow 2 rfl rfl rfl Try.underlying24) ?_
      refine RW.p rfl rfl rfl (Yp.move rfl rfl) ?_
      refine RW.nil ?_
      refine CW.block ?_
      refine CW.sel [3, 0, 0, 0] rfl ?_
      obtain ⟨l5, hs2, hk2⟩ := bnd hm
      refine CW.lp (fun k1 E σ => ∃ l4 : List (List Int), ∃ n3 : Int, ∃ v6 : Value, Sub [(1, .sl 1 cB p1), (4, .lit (.pointer (some ⟨b2, 0, none⟩))), (6, .lit (.pointer (some ⟨b3, 0, none⟩))), (16, .lit v2), (17, .i (x2.fPending.length : Int)), (18, .i n3)] E ∧ σ = [.box b2 26 [.lit (.slice none 0 0), .lit (.slice none 0 0), .i 0, .b false], .box b3 26 [.lit v6, .lit v2, .i x2.fLeft, .b x2.fDown], .row v6 29 1 (cL 1 (cN .u8)) l4, .row v2 56 2 Write.cells x2.fPending] ∧ m24_l1 p1 x2 k1 l4 n3 = some l5) (Int.toNat (x2.fPending.length : Int) + 1) ?_ ?_
      · exact ⟨x2.fDurable, 0, v1, (Sub.cons rfl (Sub.cons rfl (Sub.cons rfl (Sub.cons rfl (Sub.cons rfl (Sub.cons rfl Sub.nil)))))), rfl, hs2⟩
      ·
        rintro k1 E σ ⟨l4, n3, v6, hsub1, rfl, hm⟩
        refine CW.weak ?_ hsub1
        cases k1 with
        | zero => cases hm
        | succ k1 =>
          rw [m24_l1] at hm
          refine CW.seq ?_
          refine CW.region ?_
          refine RW.p rfl rfl rfl (Yp.lss rfl rfl rfl) ?_
          refine RW.nil ?_
          refine CW.seq ?_
          refine CW.cond rfl (fun hb2 => ?_) (fun hb2 => ?_)
          ·
            have hm := ift hm hb2
            refine CW.skip ?_
            refine CW.seq ?_
            obtain ⟨l6, hs3, hk3⟩ := bnd hm
            refine CW.cut (fun E σ => ∃ v8 : Value, Sub [(1, .sl 1 cB p1), (4, .lit (.pointer (some ⟨b2, 0, none⟩))), (6, .lit (.pointer (some ⟨b3, 0, none⟩))), (16, .lit v2), (17, .i (x2.fPending.length : Int)), (18, .i n3)] E ∧ σ = [.box b2 26 [.lit (.slice none 0 0), .lit (.slice none 0 0), .i 0, .b false], .box b3 26 [.lit v8, .lit v2, .i x2.fLeft, .b x2.fDown], .row v8 29 1 (cL 1 (cN .u8)) l6, .row v2 56 2 Write.cells x2.fPending]) ?_ ?_
            ·
              have hm := hs3
              refine CW.block ?_
              refine CW.seq ?_
              refine CW.region ?_
              refine RW.p rfl rfl rfl (Yp.move rfl rfl) ?_
              obtain ⟨hc1, hm⟩ := chk hm
              refine RW.p rfl rfl rfl (Yp.indexRow 3 rfl rfl rfl rfl Try.underlying24 sz56 hc1) ?_
              refine RW.p rfl rfl rfl (Yp.loadRN (of := 0) 3 (Int.toNat n3) rfl rfl rfl many56 rfl (by have := hc1; (try simp only [List.length_set] at this); (try simp only [List.length_set]); omega) (by decide)) ?_
              refine RW.v rfl rfl rfl (Yv.alloc rfl zerb56) ?_
              rintro _ _ ⟨b4, rfl, rfl⟩
              refine RW.p rfl rfl rfl (Yp.assign rfl rfl) ?_
              refine RW.u rfl rfl (Yu.storeB 0 rfl rfl rfl rfl sz56 (Pw.p rfl) rfl (Nat.le_of_ble_eq_true rfl)) ?_
              refine RW.nil ?_
              refine CW.seq ?_
              obtain ⟨c1, hs4, hk4⟩ := bnd hm
              refine CW.cut (fun E σ => Sub [(1, .sl 1 cB p1), (4, .lit (.pointer (some ⟨b2, 0, none⟩))), (6, .lit (.pointer (some ⟨b3, 0, none⟩))), (8, .lit (.pointer (some ⟨b4, 0, none⟩))), (16, .lit v2), (17, .i (x2.fPending.length : Int)), (18, .i n3), (32, .b c1)] E ∧ σ = [.box b2 26 [.lit (.slice none 0 0), .lit (.slice none 0 0), .i 0, .b false], .box b3 26 [.lit v6, .lit v2, .i x2.fLeft, .b x2.fDown], .row v6 29 1 (cL 1 (cN .u8)) l4, .row v2 56 2 Write.cells x2.fPending, .box b4 56 [.i ((x2.fPending[Int.toNat n3]!).fAt), .sl 1 (cN .u8) ((x2.fPending[Int.toNat n3]!).fData)]]) ?_ ?_
              ·
                have hm := hs4
                refine CW.region ?_
                refine RW.p rfl rfl rfl (Yp.move rfl rfl) ?_
                refine RW.p rfl rfl rfl (Yp.move rfl rfl) ?_
                refine RW.p rfl rfl rfl (Yp.lenSl rfl rfl Try.underlying44) ?_
                refine RW.p rfl rfl rfl (Yp.lss rfl rfl rfl) ?_
                refine RW.p rfl rfl rfl (Yp.move rfl rfl) ?_
                rcases Bool.eq_false_or_eq_true (decide (n3 < (p1.length : Int))) with hb3 | hb3
                ·
                  have hm := ift hm hb3
                  refine RW.eqv 27 rfl (congrArg AV.b hb3) ?_
                  refine RW.p rfl rfl rfl (Yp.move rfl rfl) ?_
                  refine RW.p rfl rfl rfl (Yp.move rfl rfl) ?_
                  obtain ⟨hc2, hm⟩ := chk hm
                  refine RW.p rfl rfl rfl (Yp.indexSl rfl rfl rfl Try.underlying44 sz4 hc2) ?_
                  refine RW.p rfl rfl rfl (Yp.loadF1 rfl rfl one4 rfl) ?_
                  refine RW.p rfl rfl rfl (Yp.pickT rfl rfl rfl) ?_
                  refine RW.sel [1, 1, 1, 1, 0] rfl ?_
                  refine RW.nil ?_
                  cases hm
                  exact ⟨(Sub.cons rfl (Sub.cons rfl (Sub.cons rfl (Sub.cons rfl (Sub.cons rfl (Sub.cons rfl (Sub.cons rfl (Sub.cons rfl Sub.nil)))))))), rfl⟩
                ·
                  have hm := iff' hm hb3
                  refine RW.eqv 27 rfl (congrArg AV.b hb3) ?_
                  refine RW.skip rfl rfl rfl ?_
                  refine RW.skip rfl rfl rfl ?_
                  refine RW.skip rfl rfl rfl ?_
                  refine RW.skip rfl rfl rfl ?_
                  refine RW.p rfl rfl rfl (Yp.pickF rfl rfl rfl) ?_
                  refine RW.sel [1, 1, 1, 1, 0] rfl ?_
                  refine RW.nil ?_
                  cases hm
                  exact ⟨(Sub.cons rfl (Sub.cons rfl (Sub.cons rfl (Sub.cons rfl (Sub.cons rfl (Sub.cons rfl (Sub.cons rfl (Sub.cons rfl Sub.nil)))))))), rfl⟩
              ·
                rintro E σ ⟨hsub2, rfl⟩
                have hm := hk4
                refine CW.weak ?_ hsub2
                refine CW.cond rfl (fun hb4 => ?_) (fun hb4 => ?_)
                ·
                  have hm := ift hm hb4
                  refine CW.region ?_
                  refine RW.p rfl rfl rfl (Yp.loadBN 4 rfl rfl rfl many56 (Nat.le_of_ble_eq_true rfl)) ?_
                  refine RW.sel [1, 1, 1, 0, 0] rfl ?_
                  obtain ⟨x3, hx3, hm⟩ := bnd hm
                  refine RW.c rfl rfl rfl (Yc.fnV (σp := [.box b3 26 [.lit v6, .lit v2, .i x2.fLeft, .b x2.fDown], .row v6 29 1 (cL 1 (cN .u8)) l4, .row v2 56 2 Write.cells x2.fPending]) (args' := [.lit (.pointer (some ⟨b3, 0, none⟩)), .agg [.i ((x2.fPending[Int.toNat n3]!).fAt), .sl 1 (cN .u8) ((x2.fPending[Int.toNat n3]!).fData)]]) rfl rfl ok45 rfl rfl rfl (VwL.id _) (m45_1_ok (Disk.mk l4 x2.fPending x2.fLeft x2.fDown) (x2.fPending[Int.toNat n3]!) b3 v6 v2 hx3)) ?_
                  rintro _ _ ⟨_, ⟨v9, rfl, rfl⟩, rfl⟩
                  refine RW.sel [3, 0, 0, 0] rfl ?_
                  refine RW.nil ?_
                  cases hm
                  exact ⟨v9, (Sub.cons rfl (Sub.cons rfl (Sub.cons rfl (Sub.cons rfl (Sub.cons rfl (Sub.cons rfl Sub.nil)))))), rfl⟩
                ·
                  have hm := iff' hm hb4
                  refine CW.sel [0, 0, 0, 0] rfl ?_
                  refine CW.skip ?_
                  cases hm
                  exact ⟨v6, (Sub.cons rfl (Sub.cons rfl (Sub.cons rfl (Sub.cons rfl (Sub.cons rfl (Sub.cons rfl Sub.nil)))))), rfl⟩
            ·
              rintro E σ ⟨v8, hsub3, rfl⟩
              have hm := hk3
              refine CW.weak ?_ hsub3
              refine CW.region ?_
              refine RW.p rfl rfl rfl (Yp.add rfl rfl rfl) ?_
              refine RW.p rfl rfl rfl (Yp.move rfl rfl) ?_
              refine RW.nil ?_
              exact ⟨k1, Nat.lt_succ_self _, _, _, v8, (Sub.cons rfl (Sub.cons rfl (Sub.cons rfl (Sub.cons rfl (Sub.cons rfl (Sub.cons rfl Sub.nil)))))), rfl, hm⟩
          ·
            have hm := iff' hm hb2
            refine CW.exit ?_
            cases hm
            have hm := hk2
            cases hm
            exact ⟨v6, (Sub.cons rfl (Sub.cons rfl Sub.nil)), rfl⟩
    ·
      rintro E σ ⟨v3, hsub4, rfl⟩
      have hm := hk1
      refine CW.weak ?_ hsub4
      refine CW.seq ?_
      refine CW.region ?_
      refine RW.p rfl rfl rfl (Yp.fieldP rfl rfl Try.underlying26 rfl sz24) ?_
      refine RW.u rfl rfl (Yu.storeB 1 rfl rfl rfl rfl sz24 (Pw.p rfl) rfl (Nat.le_of_ble_eq_true rfl)) ?_
      refine RW.p rfl rfl rfl (Yp.fieldP rfl rfl Try.underlying26 rfl sz3) ?_
      refine RW.u rfl rfl (Yu.storeB 1 rfl rfl rfl rfl sz3 (Pw.p rfl) rfl (Nat.le_of_ble_eq_true rfl)) ?_
      refine RW.p rfl rfl rfl (Yp.fieldP rfl rfl Try.underlying26 rfl sz4) ?_
      refine RW.u rfl rfl (Yu.storeB 1 rfl rfl rfl rfl sz4 (Pw.p rfl) rfl (Nat.le_of_ble_eq_true rfl)) ?_
      refine RW.nil ?_
      refine CW.seq ?_
      refine CW.region ?_
      refine RW.p rfl rfl rfl (Yp.loadBN 1 rfl rfl rfl many26 (Nat.le_of_ble_eq_true rfl)) ?_
      refine RW.u rfl rfl (Yu.storeB 0 rfl rfl rfl rfl sz26 (Pw.agg (PwL.own 2 rfl (PwL.p rfl (PwL.p rfl (PwL.p rfl PwL.nil))))) rfl (Nat.le_of_ble_eq_true rfl)) ?_
      refine RW.p rfl rfl rfl (Yp.assign rfl rfl) ?_
      refine RW.nil ?_
      refine CW.frzB 2 0 rfl rfl (VwL.cons (Vw.row 0 rfl) (VwL.cons (Vw.id _) (VwL.cons (Vw.id _) (VwL.cons (Vw.id _) VwL.nil)))) ?_
      refine CW.sayB 0 rfl (VwL.cons (Vw.id _) (VwL.cons (Vw.nil 2 Write.cells) (VwL.cons (Vw.id _) (VwL.cons (Vw.id _) VwL.nil)))) ?_
      refine CW.ret ?_
      cases hm
      exact fin2 (.inr rfl) rfl (ResIs.cellN 0 rfl rfl many26 rfl) (ResIs.tmp rfl) (List.nil_sublist _) ⟨rfl, rfl⟩

def m25_l1 (p0 : Disk) : Nat → Int → Option (Sum Unit Bool)
  | 0, _ => none
  | k1 + 1, n3 =>
    if (decide (n3 < (p0.fDurable.length : Int))) = true then
      if 0 ≤ n3 ∧ n3 < (p0.fDurable.length : Int) then
      if (!decide (((p0.fDurable[Int.toNat n3]!).length : Int) = 96)) = true then
        some (Sum.inr false)
      else
        m25_l1 p0 k1 (w64 (n3 + 1))
      else none
    else
      some (Sum.inl ())
def m25_l2 (p0 : Disk) : Nat → Int → Option (Sum Unit Bool)
  | 0, _ => none
  | k2 + 1, n6 =>
    if (decide (n6 < (p0.fPending.length : Int))) = true then
      if 0 ≤ n6 ∧ n6 < (p0.fPending.length : Int) then
      Option.bind (
        if (decide (((p0.fPending[Int.toNat n6]!).fAt) < 0)) = true then
          some true
        else
          if (decide ((p0.fDurable.length : Int) ≤ ((p0.fPending[Int.toNat n6]!).fAt))) = true then
            some true
          else
            some (!decide ((((p0.fPending[Int.toNat n6]!).fData).length : Int) = 96))) fun c2 =>
      if c2 = true then
        some (Sum.inr false)
      else
        m25_l2 p0 k2 (w64 (n6 + 1))
      else none
    else
      some (Sum.inl ())
def m25 (p0 : Disk) : Option Bool :=
  Option.bind (
    if (decide ((p0.fDurable.length : Int) < 1)) = true then
      some true
    else
      if (decide ((4096 : Int) < (p0.fDurable.length : Int))) = true then
        some true
      else
        some (decide ((8192 : Int) < (p0.fPending.length : Int)))) fun c1 =>
  if c1 = true then
    some false
  else
    Option.bind (
      (m25_l1 p0 (Int.toNat (p0.fDurable.length : Int) + 1) 0).bind fun o3 =>
      match o3 with
      | .inl () =>
        some (Sum.inl ())
      | .inr r =>
        some (Sum.inr r)) fun o2 =>
    match o2 with
    | .inl () =>
      Option.bind (
        (m25_l2 p0 (Int.toNat (p0.fPending.length : Int) + 1) 0).bind fun o5 =>
        match o5 with
        | .inl () =>
          some (Sum.inl ())
        | .inr r =>
          some (Sum.inr r)) fun o4 =>
      match o4 with
      | .inl () =>
        some true
      | .inr r =>
        some r
    | .inr r =>
      some r

theorem m25_ok (p0 : Disk)  {r : Bool} (hm : m25 p0 = some r) : Ab.Fn Try.prog 25 [.agg [.sl 1 (cL 1 (cN .u8)) p0.fDurable, .sl 2 Write.cells p0.fPending, .i p0.fLeft, .b p0.fDown]] [] (fun a s => a = .b r ∧ s = []) := by
  rw [m25] at hm
  refine Ab.Fn.of Try.func25 rfl rfl rfl (fun C => ?_)
  refine CW.seq ?_
  refine CW.region ?_
  refine RW.v rfl rfl rfl (Yv.box rfl rfl (Pw.p rfl)) ?_
  rintro _ _ ⟨b1, rfl, rfl⟩
  refine RW.p rfl rfl rfl (Yp.assign rfl rfl) ?_
  refine RW.nil ?_
  refine CW.seq ?_
  refine CW.seq ?_
  obtain ⟨c1, hs1, hk1⟩ := bnd hm
  refine CW.cut (fun E σ => Sub [(1, .lit (.pointer (some ⟨b1, 0, none⟩))), (22, .b c1)] E ∧ σ = [.box b1 26 [.sl 1 (cL 1 (cN .u8)) p0.fDurable, .sl 2 Write.cells p0.fPending, .i p0.fLeft, .b p0.fDown]]) ?_ ?_
  ·
    have hm := hs1
    refine CW.region ?_
    refine RW.p rfl rfl rfl (Yp.fieldP rfl rfl Try.underlying26 rfl sz23) ?_
    refine RW.p rfl rfl rfl (Yp.loadB1 0 rfl rfl rfl one23 rfl) ?_
    refine RW.p rfl rfl rfl (Yp.lenSl rfl rfl Try.underlying23) ?_
    refine RW.p rfl rfl rfl (Yp.lss rfl rfl rfl) ?_
    refine RW.p rfl rfl rfl (Yp.move rfl rfl) ?_
    rcases Bool.eq_false_or_eq_true (decide ((p0.fDurable.length : Int) < 1)) with hb1 | hb1
    ·
      have hm := ift hm hb1
      refine RW.eqv 11 rfl (congrArg AV.b hb1) ?_
      refine RW.skip rfl rfl rfl ?_
      refine RW.skip rfl rfl rfl ?_
      refine RW.skip rfl rfl rfl ?_
      refine RW.skip rfl rfl rfl ?_
      refine RW.p rfl rfl rfl (Yp.pickT rfl rfl rfl) ?_
      refine RW.p rfl rfl rfl (Yp.move rfl rfl) ?_
      refine RW.skip rfl rfl rfl ?_
      refine RW.skip rfl rfl rfl ?_
      refine RW.skip rfl rfl rfl ?_
      refine RW.skip rfl rfl rfl ?_
      refine RW.p rfl rfl rfl (Yp.pickT rfl rfl rfl) ?_
      refine RW.nil ?_
      cases hm
      exact ⟨(Sub.cons rfl (Sub.cons rfl Sub.nil)), rfl⟩
    ·
      have hm := iff' hm hb1
      refine RW.eqv 11 rfl (congrArg AV.b hb1) ?_
      refine RW.p rfl rfl rfl (Yp.fieldP rfl rfl Try.underlying26 rfl sz23) ?_
      refine RW.p rfl rfl rfl (Yp.loadB1 0 rfl rfl rfl one23 rfl) ?_
      refine RW.p rfl rfl rfl (Yp.lenSl rfl rfl Try.underlying23) ?_
      refine RW.p rfl rfl rfl (Yp.gtr rfl rfl rfl) ?_
      refine RW.p rfl rfl rfl (Yp.pickF rfl rfl rfl) ?_
      refine RW.p rfl rfl rfl (Yp.move rfl rfl) ?_
      rcases Bool.eq_false_or_eq_true (decide ((4096 : Int) < (p0.fDurable.length : Int))) with hb2 | hb2
      ·
        have hm := ift hm hb2
        refine RW.eqv 17 rfl (congrArg AV.b hb2) ?_
        refine RW.skip rfl rfl rfl ?_
        refine RW.skip rfl rfl rfl ?_
        refine RW.skip rfl rfl rfl ?_
        refine RW.skip rfl rfl rfl ?_
        refine RW.p rfl rfl rfl (Yp.pickT rfl rfl rfl) ?_
        refine RW.nil ?_
        cases hm
        exact ⟨(Sub.cons rfl (Sub.cons rfl Sub.nil)), rfl⟩
      ·
        have hm := iff' hm hb2
        refine RW.eqv 17 rfl (congrArg AV.b hb2) ?_
        refine RW.p rfl rfl rfl (Yp.fieldP rfl rfl Try.underlying26 rfl sz24) ?_
        refine RW.p rfl rfl rfl (Yp.loadB1 0 rfl rfl rfl one24 rfl) ?_
        refine RW.p rfl rfl rfl (Yp.lenSl rfl rfl Try.underlying24) ?_
        refine RW.p rfl rfl rfl (Yp.gtr rfl rfl rfl) ?_
        refine RW.p rfl rfl rfl (Yp.pickF rfl rfl rfl) ?_
        refine RW.nil ?_
        cases hm
        exact ⟨(Sub.cons rfl (Sub.cons rfl Sub.nil)), rfl⟩
  ·
    rintro E σ ⟨hsub1, rfl⟩
    have hm := hk1
    refine CW.weak ?_ hsub1
    refine CW.cond rfl (fun hb3 => ?_) (fun hb3 => ?_)
    ·
      have hm := ift hm hb3
      refine CW.seq ?_
      refine CW.region ?_
      refine RW.p rfl rfl rfl (Yp.assign rfl rfl) ?_
      refine RW.nil ?_
      refine CW.ret ?_
      cases hm
      exact fin1 (.inr rfl) rfl (ResIs.tmp rfl) (List.nil_sublist _) ⟨rfl, rfl⟩
    ·
      have hm := iff' hm hb3
      refine CW.skip ?_
      refine CW.seq ?_
      obtain ⟨o2, hs2, hk2⟩ := bnd hm
      refine CW.cut (fun E σ => o2 = Sum.inl () ∧ Sub [(1, .lit (.pointer (some ⟨b1, 0, none⟩)))] E ∧ σ = [.box b1 26 [.sl 1 (cL 1 (cN .u8)) p0.fDurable, .sl 2 Write.cells p0.fPending, .i p0.fLeft, .b p0.fDown]]) ?_ ?_
      ·
        have hm := hs2
        refine CW.seq ?_
        refine CW.region ?_
        refine RW.p rfl rfl rfl (Yp.fieldP rfl rfl Try.underlying26 rfl sz23) ?_
        refine RW.p rfl rfl rfl (Yp.loadB1 0 rfl rfl rfl one23 rfl) ?_
        refine RW.p rfl rfl rfl (Yp.lenSl rfl rfl Try.underlying23) ?_
        refine RW.p rfl rfl rfl (Yp.move rfl rfl) ?_
        refine RW.nil ?_
        refine CW.block ?_
        obtain ⟨o3, hs3, hk3⟩ := bnd hm
        refine CW.lp (fun k1 E σ => ∃ n3 : Int, Sub [(1, .lit (.pointer (some ⟨b1, 0, none⟩))), (24, .sl 1 (cL 1 (cN .u8)) p0.fDurable), (25, .i (p0.fDurable.length : Int)), (26, .i n3)] E ∧ σ = [.box b1 26 [.sl 1 (cL 1 (cN .u8)) p0.fDurable, .sl 2 Write.cells p0.fPending, .i p0.fLeft, .b p0.fDown]] ∧ m25_l1 p0 k1 n3 = some o3) (Int.toNat (p0.fDurable.length : Int) + 1) ?_ ?_
        · exact ⟨0, (Sub.cons rfl (Sub.cons rfl (Sub.cons rfl (Sub.cons rfl Sub.nil)))), rfl, hs3⟩
        ·
          rintro k1 E σ ⟨n3, hsub2, rfl, hm⟩
          refine CW.weak ?_ hsub2
          cases k1 with
          | zero => cases hm
          | succ k1 =>
            rw [m25_l1] at hm
            refine CW.seq ?_
            refine CW.region ?_
            refine RW.p rfl rfl rfl (Yp.lss rfl rfl rfl) ?_
            refine RW.nil ?_
            refine CW.seq ?_
            refine CW.cond rfl (fun hb4 => ?_) (fun hb4 => ?_)
            ·
              have hm := ift hm hb4
              refine CW.skip ?_
              refine CW.seq ?_
              refine CW.block ?_
              refine CW.seq ?_
              refine CW.region ?_
              obtain ⟨hc1, hm⟩ := chk hm
              refine RW.p rfl rfl rfl (Yp.indexSl rfl rfl rfl Try.underlying23 sz29 hc1) ?_
              refine RW.p rfl rfl rfl (Yp.loadF1 rfl rfl one29 rfl) ?_
              refine RW.p rfl rfl rfl (Yp.assign rfl rfl) ?_
              refine RW.nil ?_
              refine CW.seq ?_
              refine CW.region ?_
              refine RW.p rfl rfl rfl (Yp.move rfl rfl) ?_
              refine RW.p rfl rfl rfl (Yp.lenSl rfl rfl Try.underlying29) ?_
              refine RW.p rfl rfl rfl (Yp.neq rfl rfl rfl) ?_
              refine RW.nil ?_
              refine CW.cond rfl (fun hb5 => ?_) (fun hb5 => ?_)
              ·
                have hm := ift hm hb5
                refine CW.seq ?_
                refine CW.region ?_
                refine RW.p rfl rfl rfl (Yp.assign rfl rfl) ?_
                refine RW.nil ?_
                refine CW.ret ?_
                cases hm
                have hm := hk3
                cases hm
                have hm := hk2
                cases hm
                exact fin1 (.inr rfl) rfl (ResIs.tmp rfl) (List.nil_sublist _) ⟨rfl, rfl⟩
              ·
                have hm := iff' hm hb5
                refine CW.skip ?_
                refine CW.region ?_
                refine RW.p rfl rfl rfl (Yp.add rfl rfl rfl) ?_
                refine RW.p rfl rfl rfl (Yp.move rfl rfl) ?_
                refine RW.nil ?_
                exact ⟨k1, Nat.lt_succ_self _, _, (Sub.cons rfl (Sub.cons rfl (Sub.cons rfl (Sub.cons rfl Sub.nil)))), rfl, hm⟩
            ·
              have hm := iff' hm hb4
              refine CW.exit ?_
              cases hm
              have hm := hk3
              cases hm
              exact ⟨rfl, (Sub.cons rfl Sub.nil), rfl⟩
      ·
        rintro E σ ⟨rfl, hsub3, rfl⟩
        have hm := hk2
        refine CW.weak ?_ hsub3
        refine CW.seq ?_
        obtain ⟨o4, hs4, hk4⟩ := bnd hm
        refine CW.cut (fun E σ => o4 = Sum.inl () ∧ Sub [] E ∧ σ = []) ?_ ?_
        ·
          have hm := hs4
          refine CW.seq ?_
          refine CW.region ?_
          refine RW.p rfl rfl rfl (Yp.fieldP rfl rfl Try.underlying26 rfl sz24) ?_
          refine RW.p rfl rfl rfl (Yp.loadB1 0 rfl rfl rfl one24 rfl) ?_
          refine RW.p rfl rfl rfl (Yp.lenSl rfl rfl Try.underlying24) ?_
          refine RW.p rfl rfl rfl (Yp.move rfl rfl) ?_
          refine RW.nil ?_
          refine CW.block ?_
          obtain ⟨o5, hs5, hk5⟩ := bnd hm
          refine CW.lp (fun k2 E σ => ∃ n6 : Int, Sub [(1, .lit (.pointer (some ⟨b1, 0, none⟩))), (35, .sl 2 Write.cells p0.fPending), (36, .i (p0.fPending.length : Int)), (37, .i n6)] E ∧ σ = [.box b1 26 [.sl 1 (cL 1 (cN .u8)) p0.fDurable, .sl 2 Write.cells p0.fPending, .i p0.fLeft, .b p0.fDown]] ∧ m25_l2 p0 k2 n6 = some o5) (Int.toNat (p0.fPending.length : Int) + 1) ?_ ?_
          · exact ⟨0, (Sub.cons rfl (Sub.cons rfl (Sub.cons rfl (Sub.cons rfl Sub.nil)))), rfl, hs5⟩
          ·
            rintro k2 E σ ⟨n6, hsub4, rfl, hm⟩
            refine CW.weak ?_ hsub4
            cases k2 with
            | zero => cases hm
            | succ k2 =>
              rw [m25_l2] at hm
              refine CW.seq ?_
              refine CW.region ?_
              refine RW.p rfl rfl rfl (Yp.lss rfl rfl rfl) ?_
              refine RW.nil ?_
              refine CW.seq ?_
              refine CW.cond rfl (fun hb6 => ?_) (fun hb6 => ?_)
              ·
                have hm := ift hm hb6
                refine CW.skip ?_
                refine CW.seq ?_
                refine CW.block ?_
                refine CW.seq ?_
                refine CW.region ?_
                obtain ⟨hc2, hm⟩ := chk hm
                refine RW.p rfl rfl rfl (Yp.indexSl rfl rfl rfl Try.underlying24 sz56 hc2) ?_
                refine RW.p rfl rfl rfl (Yp.loadFN rfl rfl many56 (Nat.le_of_ble_eq_true rfl)) ?_
                refine RW.v rfl rfl rfl (Yv.alloc rfl zerb56) ?_
                rintro _ _ ⟨b2, rfl, rfl⟩
                refine RW.u rfl rfl (Yu.storeB 0 rfl rfl rfl rfl sz56 (Pw.p rfl) rfl (Nat.le_of_ble_eq_true rfl)) ?_
                refine RW.nil ?_
                refine CW.seq ?_
                obtain ⟨c2, hs6, hk6⟩ := bnd hm
                refine CW.cut (fun E σ => Sub [(1, .lit (.pointer (some ⟨b1, 0, none⟩))), (35, .sl 2 Write.cells p0.fPending), (36, .i (p0.fPending.length : Int)), (37, .i n6), (57, .b c2)] E ∧ σ = [.box b1 26 [.sl 1 (cL 1 (cN .u8)) p0.fDurable, .sl 2 Write.cells p0.fPending, .i p0.fLeft, .b p0.fDown]]) ?_ ?_
                ·
                  have hm := hs6
                  refine CW.region ?_
                  refine RW.p rfl rfl rfl (Yp.fieldP rfl rfl Try.underlying56 rfl sz3) ?_
                  refine RW.p rfl rfl rfl (Yp.loadB1 0 rfl rfl rfl one3 rfl) ?_
                  refine RW.p rfl rfl rfl (Yp.lss rfl rfl rfl) ?_
                  refine RW.p rfl rfl rfl (Yp.move rfl rfl) ?_
                  rcases Bool.eq_false_or_eq_true (decide (((p0.fPending[Int.toNat n6]!).fAt) < 0)) with hb7 | hb7
                  ·
                    have hm := ift hm hb7
                    refine RW.eqv 44 rfl (congrArg AV.b hb7) ?_
                    refine RW.skip rfl rfl rfl ?_
                    refine RW.skip rfl rfl rfl ?_
                    refine RW.skip rfl rfl rfl ?_
                    refine RW.skip rfl rfl rfl ?_
                    refine RW.skip rfl rfl rfl ?_
                    refine RW.skip rfl rfl rfl ?_
                    refine RW.p rfl rfl rfl (Yp.pickT rfl rfl rfl) ?_
                    refine RW.p rfl rfl rfl (Yp.move rfl rfl) ?_
                    refine RW.skip rfl rfl rfl ?_
                    refine RW.skip rfl rfl rfl ?_
                    refine RW.skip rfl rfl rfl ?_
                    refine RW.skip rfl rfl rfl ?_
                    refine RW.p rfl rfl rfl (Yp.pickT rfl rfl rfl) ?_
                    refine RW.sel [1] rfl ?_
                    refine RW.nil ?_
                    cases hm
                    exact ⟨(Sub.cons rfl (Sub.cons rfl (Sub.cons rfl (Sub.cons rfl (Sub.cons rfl Sub.nil))))), rfl⟩
                  ·
                    have hm := iff' hm hb7
                    refine RW.eqv 44 rfl (congrArg AV.b hb7) ?_
                    refine RW.p rfl rfl rfl (Yp.fieldP rfl rfl Try.underlying56 rfl sz3) ?_
                    refine RW.p rfl rfl rfl (Yp.loadB1 0 rfl rfl rfl one3 rfl) ?_
                    refine RW.p rfl rfl rfl (Yp.fieldP rfl rfl Try.underlying26 rfl sz23) ?_
                    refine RW.p rfl rfl rfl (Yp.loadB1 1 rfl rfl rfl one23 rfl) ?_
                    refine RW.p rfl rfl rfl (Yp.lenSl rfl rfl Try.underlying23) ?_
                    refine RW.p rfl rfl rfl (Yp.geq rfl rfl rfl) ?_
                    refine RW.p rfl rfl rfl (Yp.pickF rfl rfl rfl) ?_
                    refine RW.p rfl rfl rfl (Yp.move rfl rfl) ?_
                    rcases Bool.eq_false_or_eq_true (decide ((p0.fDurable.length : Int) ≤ ((p0.fPending[Int.toNat n6]!).fAt))) with hb8 | hb8
                    ·
                      have hm := ift hm hb8
                      refine RW.eqv 52 rfl (congrArg AV.b hb8) ?_
                      refine RW.skip rfl rfl rfl ?_
                      refine RW.skip rfl rfl rfl ?_
                      refine RW.skip rfl rfl rfl ?_
                      refine RW.skip rfl rfl rfl ?_
                      refine RW.p rfl rfl rfl (Yp.pickT rfl rfl rfl) ?_
                      refine RW.sel [1] rfl ?_
                      refine RW.nil ?_
                      cases hm
                      exact ⟨(Sub.cons rfl (Sub.cons rfl (Sub.cons rfl (Sub.cons rfl (Sub.cons rfl Sub.nil))))), rfl⟩
                    ·
                      have hm := iff' hm hb8
                      refine RW.eqv 52 rfl (congrArg AV.b hb8) ?_
                      refine RW.p rfl rfl rfl (Yp.fieldP rfl rfl Try.underlying56 rfl sz29) ?_
                      refine RW.p rfl rfl rfl (Yp.loadB1 0 rfl rfl rfl one29 rfl) ?_
                      refine RW.p rfl rfl rfl (Yp.lenSl rfl rfl Try.underlying29) ?_
                      refine RW.p rfl rfl rfl (Yp.neq rfl rfl rfl) ?_
                      refine RW.p rfl rfl rfl (Yp.pickF rfl rfl rfl) ?_
                      refine RW.sel [1] rfl ?_
                      refine RW.nil ?_
                      cases hm
                      exact ⟨(Sub.cons rfl (Sub.cons rfl (Sub.cons rfl (Sub.cons rfl (Sub.cons rfl Sub.nil))))), rfl⟩
                ·
                  rintro E σ ⟨hsub5, rfl⟩
                  have hm := hk6
                  refine CW.weak ?_ hsub5
                  refine CW.cond rfl (fun hb9 => ?_) (fun hb9 => ?_)
                  ·
                    have hm := ift hm hb9
                    refine CW.seq ?_
                    refine CW.region ?_
                    refine RW.p rfl rfl rfl (Yp.assign rfl rfl) ?_
                    refine RW.nil ?_
                    refine CW.ret ?_
                    cases hm
                    have hm := hk5
                    cases hm
                    have hm := hk4
                    cases hm
                    exact fin1 (.inr rfl) rfl (ResIs.tmp rfl) (List.nil_sublist _) ⟨rfl, rfl⟩
                  ·
                    have hm := iff' hm hb9
                    refine CW.skip ?_
                    refine CW.region ?_
                    refine RW.p rfl rfl rfl (Yp.add rfl rfl rfl) ?_
                    refine RW.p rfl rfl rfl (Yp.move rfl rfl) ?_
                    refine RW.nil ?_
                    exact ⟨k2, Nat.lt_succ_self _, _, (Sub.cons rfl (Sub.cons rfl (Sub.cons rfl (Sub.cons rfl Sub.nil)))), rfl, hm⟩
              ·
                have hm := iff' hm hb6
                refine CW.sel [] rfl ?_
                refine CW.exit ?_
                cases hm
                have hm := hk5
                cases hm
                exact ⟨rfl, Sub.nil, rfl⟩
        ·
          rintro E σ ⟨rfl, hsub6, rfl⟩
          have hm := hk4
          refine CW.weak ?_ hsub6
          refine CW.seq ?_
          refine CW.region ?_
          refine RW.p rfl rfl rfl (Yp.assign rfl rfl) ?_
          refine RW.nil ?_
          refine CW.ret ?_
          cases hm
          exact fin1 (.inr rfl) rfl (ResIs.tmp rfl) (List.nil_sublist _) ⟨rfl, rfl⟩

def m11  : Option Bool :=
  (m12 2).bind fun x1 =>
  Option.bind (
    (m15 7).bind fun x2 =>
    (m19 x1 1 x2).bind fun x3 =>
    some (x3.1.fDurable, x3.1.fPending, x3.1.fLeft, x3.1.fDown, x3.2)) fun (l1, l2, n1, c1, n2) =>
  if (!decide (n2 = 0)) = true then
    some false
  else
    (m17 (Disk.mk l1 l2 n1 c1) 1).bind fun x4 =>
    (m24 (Disk.mk l1 l2 n1 c1) []).bind fun x5 =>
    (m17 x5.1 1).bind fun x6 =>
    (m15 7).bind fun x7 =>
    (m19 (Disk.mk [] [] 0 false) 0 x7).bind fun x8 =>
    Option.bind (
      if (decide (x4.2 = 0)) = true then
        (m15 7).bind fun x9 =>
        (m14 x4.1 x9).bind fun x10 =>
        if x10 = true then
          if (decide (x5.2 = 0)) = true then
            if (decide (x6.2 = 0)) = true then
              (m15 0).bind fun x11 =>
              (m14 x6.1 x11).bind fun x12 =>
              if x12 = true then
                some (decide (x8.2 = 1))
              else
                some false
            else
              some false
          else
            some false
        else
          some false
      else
        some false) fun c2 =>
    some c2

theorem m11_ok   {r : Bool} (hm : m11  = some r) : Ab.Fn Try.prog 11 [] [] (fun a s => a = .b r ∧ s = []) := by
  rw [m11] at hm
  refine Ab.Fn.of Try.func11 rfl rfl rfl (fun C => ?_)
  refine CW.seq ?_
  refine CW.region ?_
  refine RW.p rfl rfl rfl (Yp.assign rfl rfl) ?_
  refine RW.nil ?_
  refine CW.seq ?_
  refine CW.region ?_
  obtain ⟨x1, hx1, hm⟩ := bnd hm
  refine RW.c rfl rfl rfl (Yc.fnV (σp := []) (args' := [.i 2]) rfl rfl ok12 rfl rfl rfl (VwL.id _) (m12_ok 2 hx1)) ?_
  rintro _ _ ⟨_, ⟨rfl, rfl⟩, rfl⟩
  refine RW.v rfl rfl rfl (Yv.alloc rfl zerb26) ?_
  rintro _ _ ⟨b1, rfl, rfl⟩
  refine RW.u rfl rfl (Yu.storeB 0 rfl rfl rfl rfl sz26 (Pw.p rfl) rfl (Nat.le_of_ble_eq_true rfl)) ?_
  refine RW.nil ?_
  refine CW.seq ?_
  obtain ⟨⟨l1, l2, n1, c1, n2⟩, hs1, hk1⟩ := bnd hm
  refine CW.cut (fun E σ => Sub [(1, .lit (.pointer (some ⟨b1, 0, none⟩))), (2, .i n2)] E ∧ σ = [.box b1 26 [.sl 1 (cL 1 (cN .u8)) l1, .sl 2 Write.cells l2, .i n1, .b c1]]) ?_ ?_
  ·
    have hm := hs1
    obtain ⟨x2, hx2, hm⟩ := bnd hm
    obtain ⟨x3, hx3, hm⟩ := bnd hm
    refine CW.drawSel 8 rfl [0] [.box b1 26 [.sl 1 (cL 1 (cN .u8)) x1.fDurable, .sl 2 Write.cells x1.fPending, .i x1.fLeft, .b x1.fDown]] [] rfl (by kernel_rfl) ?_
    intro A1 w1 hB1
    refine RH.two 0 1 (by kernel_rfl) ?_ ?_
    ·
      refine RO.p rfl rfl rfl rfl rfl (Yp.loadBN 0 rfl rfl rfl many26 (Nat.le_of_ble_eq_true rfl)) ?_
      refine RH.one 1 (by kernel_rfl) ?_
      refine RO.c rfl rfl rfl rfl rfl (Yc.fnV (σp := []) (args' := [.n .u8 7]) rfl rfl ok15 rfl rfl rfl (VwL.id _) (m15_ok 7 hx2)) (fun b hb => absurd hb (by simp [blks])) ?_
      rintro _ _ ⟨_, ⟨rfl, rfl⟩, rfl⟩
      refine RH.one 2 (by kernel_rfl) ?_
      refine RO.c rfl rfl rfl rfl rfl (Yc.fnV (σp := []) (args' := [.agg [.sl 1 (cL 1 (cN .u8)) x1.fDurable, .sl 2 Write.cells x1.fPending, .i x1.fLeft, .b x1.fDown], .i 1, .sl 1 (cN .u8) x2]) rfl rfl ok19 rfl rfl rfl (VwL.id _) (m19_ok x1 1 x2 hx3)) (fun b hb => absurd hb (by simp [blks])) ?_
      rintro _ _ ⟨_, ⟨rfl, rfl⟩, rfl⟩
      refine RH.one 3 (by kernel_rfl) ?_
      refine RO.p rfl rfl rfl rfl rfl (Yp.move rfl rfl) ?_
      refine RH.two 4 5 (by kernel_rfl) ?_ ?_
      ·
        refine RO.p rfl rfl rfl rfl rfl (Yp.extract rfl rfl rfl) ?_
        refine RH.two 5 6 (by kernel_rfl) ?_ ?_
        ·
          refine RO.p rfl rfl rfl rfl rfl (Yp.extract rfl rfl rfl) ?_
          refine RH.one 6 (by kernel_rfl) ?_
          refine RO.u rfl rfl rfl (Yu.storeB 0 rfl rfl rfl rfl sz26 (Pw.p rfl) rfl (Nat.le_of_ble_eq_true rfl)) (inX (r := .box b1 26 [.sl 1 (cL 1 (cN .u8)) x1.fDurable, .sl 2 Write.cells x1.fPending, .i x1.fLeft, .b x1.fDown]) 0 rfl) ?_
          refine RH.one 7 (by kernel_rfl) ?_
          refine RO.p rfl rfl rfl rfl rfl (Yp.assign rfl rfl) ?_
          refine RH.done (by kernel_rfl) ?_
          cases hm
          exact ⟨(Sub.cons rfl (Sub.cons rfl Sub.nil)), rfl⟩
        ·
          refine RO.u rfl rfl rfl (Yu.storeB 0 rfl rfl rfl rfl sz26 (Pw.p rfl) rfl (Nat.le_of_ble_eq_true rfl)) (inX (r := .box b1 26 [.sl 1 (cL 1 (cN .u8)) x1.fDurable, .sl 2 Write.cells x1.fPending, .i x1.fLeft, .b x1.fDown]) 0 rfl) ?_
          refine RH.one 5 (by kernel_rfl) ?_
          refine RO.p rfl rfl rfl rfl rfl (Yp.extract rfl rfl rfl) ?_
          refine RH.one 7 (by kernel_rfl) ?_
          refine RO.p rfl rfl rfl rfl rfl (Yp.assign rfl rfl) ?_
          refine RH.done (by kernel_rfl) ?_
          cases hm
          exact ⟨(Sub.cons rfl (Sub.cons rfl Sub.nil)), rfl⟩
      ·
        refine RO.p rfl rfl rfl rfl rfl (Yp.extract rfl rfl rfl) ?_
        refine RH.one 4 (by kernel_rfl) ?_
        refine RO.p rfl rfl rfl rfl rfl (Yp.extract rfl rfl rfl) ?_
        refine RH.one 6 (by kernel_rfl) ?_
        refine RO.u rfl rfl rfl (Yu.storeB 0 rfl rfl rfl rfl sz26 (Pw.p rfl) rfl (Nat.le_of_ble_eq_true rfl)) (inX (r := .box b1 26 [.sl 1 (cL 1 (cN .u8)) x1.fDurable, .sl 2 Write.cells x1.fPending, .i x1.fLeft, .b x1.fDown]) 0 rfl) ?_
        refine RH.one 7 (by kernel_rfl) ?_
        refine RO.p rfl rfl rfl rfl rfl (Yp.assign rfl rfl) ?_
        refine RH.done (by kernel_rfl) ?_
        cases hm
        exact ⟨(Sub.cons rfl (Sub.cons rfl Sub.nil)), rfl⟩
    ·
      refine RO.c rfl rfl rfl rfl rfl (Yc.fnV (σp := []) (args' := [.n .u8 7]) rfl rfl ok15 rfl rfl rfl (VwL.id _) (m15_ok 7 hx2)) (fun b hb => absurd hb (by simp [blks])) ?_
      rintro _ _ ⟨_, ⟨rfl, rfl⟩, rfl⟩
      refine RH.one 0 (by kernel_rfl) ?_
      refine RO.p rfl rfl rfl rfl rfl (Yp.loadBN 0 rfl rfl rfl many26 (Nat.le_of_ble_eq_true rfl)) ?_
      refine RH.one 2 (by kernel_rfl) ?_
      refine RO.c rfl rfl rfl rfl rfl (Yc.fnV (σp := []) (args' := [.agg [.sl 1 (cL 1 (cN .u8)) x1.fDurable, .sl 2 Write.cells x1.fPending, .i x1.fLeft, .b x1.fDown], .i 1, .sl 1 (cN .u8) x2]) rfl rfl ok19 rfl rfl rfl (VwL.id _) (m19_ok x1 1 x2 hx3)) (fun b hb => absurd hb (by simp [blks])) ?_
      rintro _ _ ⟨_, ⟨rfl, rfl⟩, rfl⟩
      refine RH.one 3 (by kernel_rfl) ?_
      refine RO.p rfl rfl rfl rfl rfl (Yp.move rfl rfl) ?_
      refine RH.two 4 5 (by kernel_rfl) ?_ ?_
      ·
        refine RO.p rfl rfl rfl rfl rfl (Yp.extract rfl rfl rfl) ?_
        refine RH.two 5 6 (by kernel_rfl) ?_ ?_
        ·
          refine RO.p rfl rfl rfl rfl rfl (Yp.extract rfl rfl rfl) ?_
          refine RH.one 6 (by kernel_rfl) ?_
          refine RO.u rfl rfl rfl (Yu.storeB 0 rfl rfl rfl rfl sz26 (Pw.p rfl) rfl (Nat.le_of_ble_eq_true rfl)) (inX (r := .box b1 26 [.sl 1 (cL 1 (cN .u8)) x1.fDurable, .sl 2 Write.cells x1.fPending, .i x1.fLeft, .b x1.fDown]) 0 rfl) ?_
          refine RH.one 7 (by kernel_rfl) ?_
          refine RO.p rfl rfl rfl rfl rfl (Yp.assign rfl rfl) ?_
          refine RH.done (by kernel_rfl) ?_
          cases hm
          exact ⟨(Sub.cons rfl (Sub.cons rfl Sub.nil)), rfl⟩
        ·
          refine RO.u rfl rfl rfl (Yu.storeB 0 rfl rfl rfl rfl sz26 (Pw.p rfl) rfl (Nat.le_of_ble_eq_true rfl)) (inX (r := .box b1 26 [.sl 1 (cL 1 (cN .u8)) x1.fDurable, .sl 2 Write.cells x1.fPending, .i x1.fLeft, .b x1.fDown]) 0 rfl) ?_
          refine RH.one 5 (by kernel_rfl) ?_
          refine RO.p rfl rfl rfl rfl rfl (Yp.extract rfl rfl rfl) ?_
          refine RH.one 7 (by kernel_rfl) ?_
          refine RO.p rfl rfl rfl rfl rfl (Yp.assign rfl rfl) ?_
          refine RH.done (by kernel_rfl) ?_
          cases hm
          exact ⟨(Sub.cons rfl (Sub.cons rfl Sub.nil)), rfl⟩
      ·
        refine RO.p rfl rfl rfl rfl rfl (Yp.extract rfl rfl rfl) ?_
        refine RH.one 4 (by kernel_rfl) ?_
        refine RO.p rfl rfl rfl rfl rfl (Yp.extract rfl rfl rfl) ?_
        refine RH.one 6 (by kernel_rfl) ?_
        refine RO.u rfl rfl rfl (Yu.storeB 0 rfl rfl rfl rfl sz26 (Pw.p rfl) rfl (Nat.le_of_ble_eq_true rfl)) (inX (r := .box b1 26 [.sl 1 (cL 1 (cN .u8)) x1.fDurable, .sl 2 Write.cells x1.fPending, .i x1.fLeft, .b x1.fDown]) 0 rfl) ?_
        refine RH.one 7 (by kernel_rfl) ?_
        refine RO.p rfl rfl rfl rfl rfl (Yp.assign rfl rfl) ?_
        refine RH.done (by kernel_rfl) ?_
        cases hm
        exact ⟨(Sub.cons rfl (Sub.cons rfl Sub.nil)), rfl⟩
  ·
    rintro E σ ⟨hsub1, rfl⟩
    have hm := hk1
    refine CW.weak ?_ hsub1
    refine CW.seq ?_
    refine CW.seq ?_
    refine CW.region ?_
    refine RW.p rfl rfl rfl (Yp.move rfl rfl) ?_
    refine RW.p rfl rfl rfl (Yp.neq rfl rfl rfl) ?_
    refine RW.nil ?_
    refine CW.cond rfl (fun hb1 => ?_) (fun hb1 => ?_)
    ·
      have hm := ift hm hb1
      refine CW.seq ?_
      refine CW.region ?_
      refine RW.p rfl rfl rfl (Yp.assign rfl rfl) ?_
      refine RW.nil ?_
      refine CW.ret ?_
      cases hm
      exact fin1 (.inr rfl) rfl (ResIs.tmp rfl) (List.nil_sublist _) ⟨rfl, rfl⟩
    ·
      have hm := iff' hm hb1
      refine CW.skip ?_
      refine CW.seq ?_
      refine CW.region ?_
      refine RW.p rfl rfl rfl (Yp.loadBN 0 rfl rfl rfl many26 (Nat.le_of_ble_eq_true rfl)) ?_
      obtain ⟨x4, hx4, hm⟩ := bnd hm
      refine RW.c rfl rfl rfl (Yc.fnV (σp := []) (args' := [.agg [.sl 1 (cL 1 (cN .u8)) ((Disk.mk l1 l2 n1 c1).fDurable), .sl 2 Write.cells ((Disk.mk l1 l2 n1 c1).fPending), .i ((Disk.mk l1 l2 n1 c1).fLeft), .b ((Disk.mk l1 l2 n1 c1).fDown)], .i 1]) rfl rfl ok17 rfl rfl rfl (VwL.id _) (m17_ok (Disk.mk l1 l2 n1 c1) 1 hx4)) ?_
      rintro _ _ ⟨_, ⟨rfl, rfl⟩, rfl⟩
      refine RW.p rfl rfl rfl (Yp.move rfl rfl) ?_
      refine RW.p rfl rfl rfl (Yp.extract rfl rfl rfl) ?_
      refine RW.p rfl rfl rfl (Yp.extract rfl rfl rfl) ?_
      refine RW.p rfl rfl rfl (Yp.assign rfl rfl) ?_
      refine RW.p rfl rfl rfl (Yp.assign rfl rfl) ?_
      refine RW.nil ?_
      refine CW.seq ?_
      refine CW.region ?_
      refine RW.p rfl rfl rfl (Yp.loadBN 0 rfl rfl rfl many26 (Nat.le_of_ble_eq_true rfl)) ?_
      obtain ⟨x5, hx5, hm⟩ := bnd hm
      refine RW.c rfl rfl rfl (Yc.fnV (σp := []) (args' := [.agg [.sl 1 (cL 1 (cN .u8)) ((Disk.mk l1 l2 n1 c1).fDurable), .sl 2 Write.cells ((Disk.mk l1 l2 n1 c1).fPending), .i ((Disk.mk l1 l2 n1 c1).fLeft), .b ((Disk.mk l1 l2 n1 c1).fDown)], .sl 1 cB []]) rfl rfl ok24 rfl rfl rfl (VwL.cons (Vw.id _) (VwL.cons (Vw.nil 1 cB) VwL.nil)) (m24_ok (Disk.mk l1 l2 n1 c1) [] hx5)) ?_
      rintro _ _ ⟨_, ⟨rfl, rfl⟩, rfl⟩
      refine RW.p rfl rfl rfl (Yp.move rfl rfl) ?_
      refine RW.p rfl rfl rfl (Yp.extract rfl rfl rfl) ?_
      refine RW.p rfl rfl rfl (Yp.extract rfl rfl rfl) ?_
      refine RW.v rfl rfl rfl (Yv.alloc rfl zerb26) ?_
      rintro _ _ ⟨b2, rfl, rfl⟩
      refine RW.u rfl rfl (Yu.storeB 0 rfl rfl rfl rfl sz26 (Pw.p rfl) rfl (Nat.le_of_ble_eq_true rfl)) ?_
      refine RW.p rfl rfl rfl (Yp.assign rfl rfl) ?_
      refine RW.nil ?_
      refine CW.seq ?_
      refine CW.region ?_
      refine RW.p rfl rfl rfl (Yp.loadBN 0 rfl rfl rfl many26 (Nat.le_of_ble_eq_true rfl)) ?_
      obtain ⟨x6, hx6, hm⟩ := bnd hm
      refine RW.c rfl rfl rfl (Yc.fnV (σp := []) (args' := [.agg [.sl 1 (cL 1 (cN .u8)) x5.1.fDurable, .sl 2 Write.cells x5.1.fPending, .i x5.1.fLeft, .b x5.1.fDown], .i 1]) rfl rfl ok17 rfl rfl rfl (VwL.id _) (m17_ok x5.1 1 hx6)) ?_
      rintro _ _ ⟨_, ⟨rfl, rfl⟩, rfl⟩
      refine RW.p rfl rfl rfl (Yp.move rfl rfl) ?_
      refine RW.p rfl rfl rfl (Yp.extract rfl rfl rfl) ?_
      refine RW.p rfl rfl rfl (Yp.extract rfl rfl rfl) ?_
      refine RW.p rfl rfl rfl (Yp.assign rfl rfl) ?_
      refine RW.p rfl rfl rfl (Yp.assign rfl rfl) ?_
      refine RW.nil ?_
      refine CW.seq ?_
      refine CW.region ?_
      refine RW.p rfl rfl rfl (Yp.build rfl plc26 zer26 rfl rfl) ?_
      obtain ⟨x7, hx7, hm⟩ := bnd hm
      refine RW.c rfl rfl rfl (Yc.fnV (σp := []) (args' := [.n .u8 7]) rfl rfl ok15 rfl rfl rfl (VwL.id _) (m15_ok 7 hx7)) ?_
      rintro _ _ ⟨_, ⟨rfl, rfl⟩, rfl⟩
      obtain ⟨x8, hx8, hm⟩ := bnd hm
      refine RW.c rfl rfl rfl (Yc.fnV (σp := []) (args' := [.agg [.sl 1 (cL 1 (cN .u8)) ((Disk.mk [] [] 0 false).fDurable), .sl 2 Write.cells ((Disk.mk [] [] 0 false).fPending), .i ((Disk.mk [] [] 0 false).fLeft), .b ((Disk.mk [] [] 0 false).fDown)], .i 0, .sl 1 (cN .u8) x7]) rfl rfl ok19 rfl rfl rfl (VwL.cons (Vw.agg (VwL.cons (Vw.nil 1 (cL 1 (cN .u8))) (VwL.cons (Vw.nil 2 Write.cells) (VwL.cons (Vw.id _) (VwL.cons (Vw.id _) VwL.nil))))) (VwL.cons (Vw.id _) (VwL.cons (Vw.id _) VwL.nil))) (m19_ok (Disk.mk [] [] 0 false) 0 x7 hx8)) ?_
      rintro _ _ ⟨_, ⟨rfl, rfl⟩, rfl⟩
      refine RW.p rfl rfl rfl (Yp.move rfl rfl) ?_
      refine RW.p rfl rfl rfl (Yp.extract rfl rfl rfl) ?_
      refine RW.p rfl rfl rfl (Yp.extract rfl rfl rfl) ?_
      refine RW.v rfl rfl rfl (Yv.alloc rfl zerb26) ?_
      rintro _ _ ⟨b3, rfl, rfl⟩
      refine RW.u rfl rfl (Yu.storeB 0 rfl rfl rfl rfl sz26 (Pw.p rfl) rfl (Nat.le_of_ble_eq_true rfl)) ?_
      refine RW.p rfl rfl rfl (Yp.assign rfl rfl) ?_
      refine RW.nil ?_
      refine CW.seq ?_
      obtain ⟨c2, hs2, hk2⟩ := bnd hm
      refine CW.cut (fun E σ => Sub [(0, .b c2)] E ∧ σ = []) ?_ ?_
      ·
        have hm := hs2
        refine CW.region ?_
        refine RW.p rfl rfl rfl (Yp.move rfl rfl) ?_
        refine RW.p rfl rfl rfl (Yp.eql rfl rfl rfl) ?_
        refine RW.p rfl rfl rfl (Yp.move rfl rfl) ?_
        rcases Bool.eq_false_or_eq_true (decide (x4.2 = 0)) with hb2 | hb2
        ·
          have hm := ift hm hb2
          refine RW.eqv 43 rfl (congrArg AV.b hb2) ?_
          refine RW.p rfl rfl rfl (Yp.move rfl rfl) ?_
          obtain ⟨x9, hx9, hm⟩ := bnd hm
          refine RW.c rfl rfl rfl (Yc.fnV (σp := []) (args' := [.n .u8 7]) rfl rfl ok15 rfl rfl rfl (VwL.id _) (m15_ok 7 hx9)) ?_
          rintro _ _ ⟨_, ⟨rfl, rfl⟩, rfl⟩
          obtain ⟨x10, hx10, hm⟩ := bnd hm
          refine RW.c rfl rfl rfl (Yc.fnV (σp := []) (args' := [.sl 1 (cN .u8) x4.1, .sl 1 (cN .u8) x9]) rfl rfl ok14 rfl rfl rfl (VwL.id _) (m14_ok x4.1 x9 hx10)) ?_
          rintro _ _ ⟨_, ⟨rfl, rfl⟩, rfl⟩
          refine RW.p rfl rfl rfl (Yp.pickT rfl rfl rfl) ?_
          refine RW.p rfl rfl rfl (Yp.move rfl rfl) ?_
          rcases Bool.eq_false_or_eq_true x10 with hb3 | hb3
          ·
            have hm := ift hm hb3
            refine RW.eqv 48 rfl (congrArg AV.b hb3) ?_
            refine RW.p rfl rfl rfl (Yp.move rfl rfl) ?_
            refine RW.p rfl rfl rfl (Yp.eql rfl rfl rfl) ?_
            refine RW.p rfl rfl rfl (Yp.pickT rfl rfl rfl) ?_
            refine RW.p rfl rfl rfl (Yp.move rfl rfl) ?_
            rcases Bool.eq_false_or_eq_true (decide (x5.2 = 0)) with hb4 | hb4
            ·
              have hm := ift hm hb4
              refine RW.eqv 52 rfl (congrArg AV.b hb4) ?_
              refine RW.p rfl rfl rfl (Yp.move rfl rfl) ?_
              refine RW.p rfl rfl rfl (Yp.eql rfl rfl rfl) ?_
              refine RW.p rfl rfl rfl (Yp.pickT rfl rfl rfl) ?_
              refine RW.p rfl rfl rfl (Yp.move rfl rfl) ?_
              rcases Bool.eq_false_or_eq_true (decide (x6.2 = 0)) with hb5 | hb5
              ·
                have hm := ift hm hb5
                refine RW.eqv 56 rfl (congrArg AV.b hb5) ?_
                refine RW.p rfl rfl rfl (Yp.move rfl rfl) ?_
                obtain ⟨x11, hx11, hm⟩ := bnd hm
                refine RW.c rfl rfl rfl (Yc.fnV (σp := []) (args' := [.n .u8 0]) rfl rfl ok15 rfl rfl rfl (VwL.id _) (m15_ok 0 hx11)) ?_
                rintro _ _ ⟨_, ⟨rfl, rfl⟩, rfl⟩
                obtain ⟨x12, hx12, hm⟩ := bnd hm
                refine RW.c rfl rfl rfl (Yc.fnV (σp := []) (args' := [.sl 1 (cN .u8) x6.1, .sl 1 (cN .u8) x11]) rfl rfl ok14 rfl rfl rfl (VwL.id _) (m14_ok x6.1 x11 hx12)) ?_
                rintro _ _ ⟨_, ⟨rfl, rfl⟩, rfl⟩
                refine RW.p rfl rfl rfl (Yp.pickT rfl rfl rfl) ?_
                refine RW.p rfl rfl rfl (Yp.move rfl rfl) ?_
                rcases Bool.eq_false_or_eq_true x12 with hb6 | hb6
                ·
                  have hm := ift hm hb6
                  refine RW.eqv 61 rfl (congrArg AV.b hb6) ?_
                  refine RW.p rfl rfl rfl (Yp.move rfl rfl) ?_
                  refine RW.p rfl rfl rfl (Yp.eql rfl rfl rfl) ?_
                  refine RW.p rfl rfl rfl (Yp.pickT rfl rfl rfl) ?_
                  refine RW.p rfl rfl rfl (Yp.assign rfl rfl) ?_
                  refine RW.sel [] rfl ?_
                  refine RW.nil ?_
                  cases hm
                  exact ⟨(Sub.cons rfl Sub.nil), rfl⟩
                ·
                  have hm := iff' hm hb6
                  refine RW.eqv 61 rfl (congrArg AV.b hb6) ?_
                  refine RW.skip rfl rfl rfl ?_
                  refine RW.skip rfl rfl rfl ?_
                  refine RW.p rfl rfl rfl (Yp.pickF rfl rfl rfl) ?_
                  refine RW.p rfl rfl rfl (Yp.assign rfl rfl) ?_
                  refine RW.sel [] rfl ?_
                  refine RW.nil ?_
                  cases hm
                  exact ⟨(Sub.cons rfl Sub.nil), rfl⟩
              ·
                have hm := iff' hm hb5
                refine RW.eqv 56 rfl (congrArg AV.b hb5) ?_
                refine RW.skip rfl rfl rfl ?_
                refine RW.skip rfl rfl rfl ?_
                refine RW.skip rfl rfl rfl ?_
                refine RW.p rfl rfl rfl (Yp.pickF rfl rfl rfl) ?_
                refine RW.p rfl rfl rfl (Yp.move rfl rfl) ?_
                refine RW.skip rfl rfl rfl ?_
                refine RW.skip rfl rfl rfl ?_
                refine RW.p rfl rfl rfl (Yp.pickF rfl rfl rfl) ?_
                refine RW.p rfl rfl rfl (Yp.assign rfl rfl) ?_
                refine RW.sel [] rfl ?_
                refine RW.nil ?_
                cases hm
                exact ⟨(Sub.cons rfl Sub.nil), rfl⟩
            ·
              have hm := iff' hm hb4
              refine RW.eqv 52 rfl (congrArg AV.b hb4) ?_
              refine RW.skip rfl rfl rfl ?_
              refine RW.skip rfl rfl rfl ?_
              refine RW.p rfl rfl rfl (Yp.pickF rfl rfl rfl) ?_
              refine RW.p rfl rfl rfl (Yp.move rfl rfl) ?_
              refine RW.skip rfl rfl rfl ?_
              refine RW.skip rfl rfl rfl ?_
              refine RW.skip rfl rfl rfl ?_
              refine RW.p rfl rfl rfl (Yp.pickF rfl rfl rfl) ?_
              refine RW.p rfl rfl rfl (Yp.move rfl rfl) ?_
              refine RW.skip rfl rfl rfl ?_
              refine RW.skip rfl rfl rfl ?_
              refine RW.p rfl rfl rfl (Yp.pickF rfl rfl rfl) ?_
              refine RW.p rfl rfl rfl (Yp.assign rfl rfl) ?_
              refine RW.sel [] rfl ?_
              refine RW.nil ?_
              cases hm
              exact ⟨(Sub.cons rfl Sub.nil), rfl⟩
          ·
            have hm := iff' hm hb3
            refine RW.eqv 48 rfl (congrArg AV.b hb3) ?_
            refine RW.skip rfl rfl rfl ?_
            refine RW.skip rfl rfl rfl ?_
            refine RW.p rfl rfl rfl (Yp.pickF rfl rfl rfl) ?_
            refine RW.p rfl rfl rfl (Yp.move rfl rfl) ?_
            refine RW.skip rfl rfl rfl ?_
            refine RW.skip rfl rfl rfl ?_
            refine RW.p rfl rfl rfl (Yp.pickF rfl rfl rfl) ?_
            refine RW.p rfl rfl rfl (Yp.move rfl rfl) ?_
            refine RW.skip rfl rfl rfl ?_
            refine RW.skip rfl rfl rfl ?_
            refine RW.skip rfl rfl rfl ?_
            refine RW.p rfl rfl rfl (Yp.pickF rfl rfl rfl) ?_
            refine RW.p rfl rfl rfl (Yp.move rfl rfl) ?_
            refine RW.skip rfl rfl rfl ?_
            refine RW.skip rfl rfl rfl ?_
            refine RW.p rfl rfl rfl (Yp.pickF rfl rfl rfl) ?_
            refine RW.p rfl rfl rfl (Yp.assign rfl rfl) ?_
            refine RW.sel [] rfl ?_
            refine RW.nil ?_
            cases hm
            exact ⟨(Sub.cons rfl Sub.nil), rfl⟩
        ·
          have hm := iff' hm hb2
          refine RW.eqv 43 rfl (congrArg AV.b hb2) ?_
          refine RW.skip rfl rfl rfl ?_
          refine RW.skip rfl rfl rfl ?_
          refine RW.skip rfl rfl rfl ?_
          refine RW.p rfl rfl rfl (Yp.pickF rfl rfl rfl) ?_
          refine RW.p rfl rfl rfl (Yp.move rfl rfl) ?_
          refine RW.skip rfl rfl rfl ?_
          refine RW.skip rfl rfl rfl ?_
          refine RW.p rfl rfl rfl (Yp.pickF rfl rfl rfl) ?_
          refine RW.p rfl rfl rfl (Yp.move rfl rfl) ?_
          refine RW.skip rfl rfl rfl ?_
          refine RW.skip rfl rfl rfl ?_
          refine RW.p rfl rfl rfl (Yp.pickF rfl rfl rfl) ?_
          refine RW.p rfl rfl rfl (Yp.move rfl rfl) ?_
          refine RW.skip rfl rfl rfl ?_
          refine RW.skip rfl rfl rfl ?_
          refine RW.skip rfl rfl rfl ?_
          refine RW.p rfl rfl rfl (Yp.pickF rfl rfl rfl) ?_
          refine RW.p rfl rfl rfl (Yp.move rfl rfl) ?_
          refine RW.skip rfl rfl rfl ?_
          refine RW.skip rfl rfl rfl ?_
          refine RW.p rfl rfl rfl (Yp.pickF rfl rfl rfl) ?_
          refine RW.p rfl rfl rfl (Yp.assign rfl rfl) ?_
          refine RW.sel [] rfl ?_
          refine RW.nil ?_
          cases hm
          exact ⟨(Sub.cons rfl Sub.nil), rfl⟩
      ·
        rintro E σ ⟨hsub2, rfl⟩
        have hm := hk2
        refine CW.weak ?_ hsub2
        refine CW.ret ?_
        cases hm
        exact fin1 (.inr rfl) rfl (ResIs.tmp rfl) (List.nil_sublist _) ⟨rfl, rfl⟩


end Go.Proofs.YtfipaakafcjjhaaD
end
section
set_option linter.unusedSectionVars false
set_option linter.unusedVariables false
set_option linter.unusedSimpArgs false
set_option maxRecDepth 100000
namespace Go.Proofs.Ytfipaakafcjjhaa
open Go Go.Iv
def toW (w : Write) : YtfipaakafcjjhaaD.Write := ⟨w.fAt, w.fData⟩
def toD (d : Disk) : YtfipaakafcjjhaaD.Disk := ⟨d.fDurable, d.fPending.map toW, d.fLeft, d.fDown⟩
def frW (w : YtfipaakafcjjhaaD.Write) : Write := ⟨w.fAt, w.fData⟩
def frD (d : YtfipaakafcjjhaaD.Disk) : Disk := ⟨d.fDurable, d.fPending.map frW, d.fLeft, d.fDown⟩
theorem toW_frW (w : YtfipaakafcjjhaaD.Write) : toW (frW w) = w := rfl
theorem toD_frD (d : YtfipaakafcjjhaaD.Disk) : toD (frD d) = d := by
  obtain ⟨a, b, c, e⟩ := d
  show (YtfipaakafcjjhaaD.Disk.mk a ((b.map frW).map toW) c e) = _
  rw [List.map_map, show (toW ∘ frW) = id from rfl, List.map_id]
theorem br_bytes (l : List Int) : Br (.sl 5 l) (.sl 1 (Ab.cN .u8) l) := Br.sl (t := 5) (l := l) (l' := l) rfl fun i _ => BrL.cons (.lit _) .nil
theorem br_bools (l : List Bool) : Br (.sl 4 l) (.sl 1 Ab.cB l) := Br.sl (t := 4) (l := l) (l' := l) rfl fun i _ => BrL.cons (.lit _) .nil
theorem br_rows (l : List (List Int)) : Br (.sl 29 l) (.sl 1 (Ab.cL 1 (Ab.cN .u8)) l) := Br.sl (t := 29) (l := l) (l' := l) rfl fun i _ => BrL.cons (br_bytes _) .nil
theorem mapW (l : List Write) (i : Nat) (hi : i < l.length) : (l.map toW)[i]! = toW l[i]! := by
  rw [getElem!_pos (l.map toW) i (by simpa using hi), getElem!_pos l i hi, List.getElem_map]
theorem lenW (l : List Write) : l.length = (l.map toW).length := by simp
theorem br_writes (l : List Write) : Br (.sl 56 l) (.sl 2 YtfipaakafcjjhaaD.Write.cells (l.map toW)) := Br.sl (t := 56) (l := l) (l' := l.map toW) (lenW l) fun i hi => by
  rw [mapW l i hi]
  exact BrL.cons (.lit _) (BrL.cons (br_bytes _) .nil)
theorem br_disk (d : Disk) : Br (.agg (uni.cells 26 d)) (.agg [.sl 1 (Ab.cL 1 (Ab.cN .u8)) (toD d).fDurable, .sl 2 YtfipaakafcjjhaaD.Write.cells (toD d).fPending, .i (toD d).fLeft, .b (toD d).fDown]) :=
  Br.agg (BrL.cons (br_rows _) (BrL.cons (br_writes _) (BrL.cons (.lit _) (BrL.cons (.lit _) .nil))))
theorem br_frD (d : YtfipaakafcjjhaaD.Disk) : Br (.agg (uni.cells 26 (frD d))) (.agg [.sl 1 (Ab.cL 1 (Ab.cN .u8)) d.fDurable, .sl 2 YtfipaakafcjjhaaD.Write.cells d.fPending, .i d.fLeft, .b d.fDown]) := by
  have h := br_disk (frD d)
  rw [toD_frD] at h
  exact h
theorem subs_id {xs : List AV} (h : xs.all (cloB 2) = true) (ρ : Gh) : xs.map (AVq.sub ρ) = xs := by
  have : xs.map (AVq.sub ρ) = xs.map id := List.map_congr_left fun c hc => cloB_sub 2 (List.all_eq_true.1 h c hc)
  rw [this, List.map_id]
theorem map_frD {o : Option (YtfipaakafcjjhaaD.Disk × Int)} {r : Disk × Int} (h : o.map (fun r => (frD r.1, r.2)) = some r) : ∃ q, o = some q ∧ r = (frD q.1, q.2) := by
  cases o with
  | none => cases h
  | some q => exact ⟨q, rfl, (Option.some.inj h).symm⟩
theorem map_frD1 {o : Option YtfipaakafcjjhaaD.Disk} {r : Disk} (h : o.map frD = some r) : ∃ q, o = some q ∧ r = frD q := by
  cases o with
  | none => cases h
  | some q => exact ⟨q, rfl, (Option.some.inj h).symm⟩
/-! ### 11: keyhole/keyholelaw49.known -/
abbrev E11 : Type := Bool
abbrev P11_e : Type := (Bool × Unit) × (Unit)
noncomputable def rb11_e : St → Option P11_e := stR 0 (slC 0 asB slN) rsN
noncomputable def pb11_e : P11_e → St := stP 0 (fun z => [(0, .b z.1)]) (fun z => [])
noncomputable def mk11_e (z : P11_e) : E11 := z.1.1
noncomputable def pt11_e (x : E11) : St := pb11_e ((x, ()), (()))
noncomputable def rd11_e : St → Option E11 := rdC 0 [] [0] (rdM mk11_e rb11_e)
theorem rb11_e_ok (n : Nat) : RdOk 0 n rb11_e pb11_e := stR_ok (.cons .b .nil) .nil
theorem rd11_e_ok (n : Nat) : RdOk 0 n rd11_e pt11_e := rdC_ok ((rb11_e_ok n).m mk11_e (pat' := pt11_e) fun _ => rfl)
noncomputable def o11 (x : E11) : Out := match (match outOf Try.prog 11 (pt11_e x) with
    | some ds => some (Out.mk (resA ds) (keepR (pt11_e x).R 0 (resA ds)) (pt11_e x).nx)
    | none => none) with
  | some o => o
  | none => ⟨.tup [], [], 0⟩
theorem fnok11 : fnOk Try.prog 11 := ⟨_, Try.func11, by kernel_rfl, by kernel_rfl⟩
def m11 : E11 := true
def Gv11 : Prop := FnY Try.prog 11 [] [] 0 (o11 m11)
noncomputable def e11 (F : Orc) : Orc := orL 11 false pkN (fun g => some m11 : (Unit) → Option E11) o11 F
theorem e11_okv (hv : Gv11) {F : Orc} (h : OrcG Try.prog F) : OrcG Try.prog (e11 F) := orL_g (sc := scU) h scU_ok fnok11 (ca := fun g => []) (.nil : PkN pkN _) (fun b => by kernel_rfl) (fun b => by kernel_rfl) (fun g b hb => by cases hb; exact hv)
theorem e11_pure {F : Orc} {f : Nat} (h : PureF F f) : PureF (e11 F) f := orL_pure h (fun b => by kernel_rfl)
theorem o11_eq : o11 m11 = ⟨.b true, [], 0⟩ := by kernel_rfl
theorem gv11 : Gv11 := by
  unfold Gv11
  rw [o11_eq]
  exact fnY_ofFn (Fn.ofAb (YtfipaakafcjjhaaD.m11_ok (r := true) (by kernel_rfl)) .nil (Br.lit _)) (subs_id (by kernel_rfl)) (fun ρ => cloB_sub 2 (by kernel_rfl))
/-! ### 12: keyhole/disk.New -/
abbrev E12 : Type := Disk
abbrev P12_e : Type := (Unit × Unit) × (Disk × Unit)
noncomputable def rb12_e : St → Option P12_e := stR 1 (slC 2 (asP 0 0) slN) (rsN2 0 26 (asCs 26) rsN)
noncomputable def pb12_e : P12_e → St := stP 1 (fun z => [(2, .ptr 0 0)]) (fun z => [(0, .box 26 (uni.cells 26 z.1))])
noncomputable def mk12_e (z : P12_e) : E12 := z.2.1
noncomputable def pt12_e (x : E12) : St := pb12_e (((), ()), (x, ()))
noncomputable def rd12_e : St → Option E12 := rdC 0 [] [2] (rdM mk12_e rb12_e)
theorem rb12_e_ok (n : Nat) : RdOk 0 n rb12_e pb12_e := stR_ok (.cons (.p 0 0) .nil) (.boxN (PkN.parse 26) .nil)
theorem rd12_e_ok (n : Nat) : RdOk 0 n rd12_e pt12_e := rdC_ok ((rb12_e_ok n).m mk12_e (pat' := pt12_e) fun _ => rfl)
noncomputable def o12 (x : E12) : Out := match (match outOf Try.prog 12 (pt12_e x) with
    | some ds => some (Out.mk (resA ds) (keepR (pt12_e x).R 0 (resA ds)) (pt12_e x).nx)
    | none => none) with
  | some o => o
  | none => ⟨.tup [], [], 0⟩
theorem fnok12 : fnOk Try.prog 12 := ⟨_, Try.func12, by kernel_rfl, by kernel_rfl⟩
def m12 (a0 : Int) : Option E12 := (YtfipaakafcjjhaaD.m12 a0).map frD
def Gv12 : Prop := ∀ (a0 : Int) (r : E12), m12 a0 = some r → FnY Try.prog 12 [.n .i64 a0] [] 0 (o12 r)
noncomputable def e12 (F : Orc) : Orc := orY 12 0 (qy0 (pkC (asI .i64) pkN)) (fun g => m12 g.1 : (Int × Unit) → Option E12) o12 F
theorem e12_okv (hv : Gv12) {F : Orc} (h : OrcG Try.prog F) : OrcG Try.prog (e12 F) := orY_g h fnok12 (qy0_ok (ca := fun g => [.n .i64 g.1]) ((.cons (.i .i64) .nil) : PkN (pkC (asI .i64) pkN) _)) (fun b => by kernel_rfl) (fun g b hb => hv g.1 b hb)
theorem e12_skip {F : Orc} {f : Nat} (hne : Nat.beq f 12 = false) (h : PureF F f) : PureF (e12 F) f := orY_skip hne h
theorem gv12 : Gv12 := fun a0 r h => by
  obtain ⟨q, h1, rfl⟩ := map_frD1 h
  rw [show o12 (frD q) = ⟨.agg (uni.cells 26 (frD q)), [], (o12 (frD q)).c⟩ from by kernel_rfl]
  exact fnY_ofFn (Fn.ofAb (YtfipaakafcjjhaaD.m12_ok a0 h1) (BrL.cons (.lit _) .nil) (br_frD _)) (subs_id (by kernel_rfl)) (fun ρ => cloB_sub 2 (by kernel_rfl))
/-! ### 14: bytes.Equal -/
abbrev E14 : Type := Bool
abbrev P14_e : Type := (Bool × Unit) × (Unit)
noncomputable def rb14_e : St → Option P14_e := stR 0 (slC 4 asB slN) rsN
noncomputable def pb14_e : P14_e → St := stP 0 (fun z => [(4, .b z.1)]) (fun z => [])
noncomputable def mk14_e (z : P14_e) : E14 := z.1.1
noncomputable def pt14_e (x : E14) : St := pb14_e ((x, ()), (()))
noncomputable def rd14_e : St → Option E14 := rdC 0 [] [4] (rdM mk14_e rb14_e)
theorem rb14_e_ok (n : Nat) : RdOk 0 n rb14_e pb14_e := stR_ok (.cons .b .nil) .nil
theorem rd14_e_ok (n : Nat) : RdOk 0 n rd14_e pt14_e := rdC_ok ((rb14_e_ok n).m mk14_e (pat' := pt14_e) fun _ => rfl)
noncomputable def o14 (x : E14) : Out := match (match outOf Try.prog 14 (pt14_e x) with
    | some ds => some (Out.mk (resA ds) (keepR (pt14_e x).R 0 (resA ds)) (pt14_e x).nx)
    | none => none) with
  | some o => o
  | none => ⟨.tup [], [], 0⟩
theorem fnok14 : fnOk Try.prog 14 := ⟨_, Try.func14, by kernel_rfl, by kernel_rfl⟩
def m14 (a0 : List Int) (a1 : List Int) : Option E14 := YtfipaakafcjjhaaD.m14 a0 a1
def Gv14 : Prop := ∀ (a0 : List Int) (a1 : List Int) (r : E14), m14 a0 a1 = some r → FnY Try.prog 14 [.sl 5 a0, .sl 5 a1] [] 0 (o14 r)
noncomputable def e14 (F : Orc) : Orc := orL 14 false (pkC (asL 5) (pkC (asL 5) pkN)) (fun g => m14 g.1 g.2.1 : ((List Int) × (List Int) × Unit) → Option E14) o14 F
theorem e14_okv (hv : Gv14) {F : Orc} (h : OrcG Try.prog F) : OrcG Try.prog (e14 F) := orL_g (sc := scU) h scU_ok fnok14 (ca := fun g => [.sl 5 g.1, .sl 5 g.2.1]) ((.cons (.l 5) (.cons (.l 5) .nil)) : PkN (pkC (asL 5) (pkC (asL 5) pkN)) _) (fun b => by kernel_rfl) (fun b => by kernel_rfl) (fun g b hb => hv g.1 g.2.1 b hb)
theorem e14_pure {F : Orc} {f : Nat} (h : PureF F f) : PureF (e14 F) f := orL_pure h (fun b => by kernel_rfl)
theorem gv14 : Gv14 := fun a0 a1 r h => by
  rw [show o14 r = ⟨.b r, [], 0⟩ from by cases r <;> kernel_rfl]
  exact fnY_ofFn (Fn.ofAb (YtfipaakafcjjhaaD.m14_ok a0 a1 h) (BrL.cons (br_bytes _) (BrL.cons (br_bytes _) .nil)) (Br.lit _)) (subs_id (by kernel_rfl)) (fun ρ => cloB_sub 2 (by kernel_rfl))
/-! ### 15: keyhole/keyholelaw49.sector -/
abbrev E15 : Type := List Int
abbrev P15_e : Type := ((List Int) × Unit) × (Unit)
noncomputable def rb15_e : St → Option P15_e := stR 0 (slC 2 (asL 5) slN) rsN
noncomputable def pb15_e : P15_e → St := stP 0 (fun z => [(2, .sl 5 z.1)]) (fun z => [])
noncomputable def mk15_e (z : P15_e) : E15 := z.1.1
noncomputable def pt15_e (x : E15) : St := pb15_e ((x, ()), (()))
noncomputable def rd15_e : St → Option E15 := rdC 0 [] [2] (rdM mk15_e rb15_e)
theorem rb15_e_ok (n : Nat) : RdOk 0 n rb15_e pb15_e := stR_ok (.cons (.l 5) .nil) .nil
theorem rd15_e_ok (n : Nat) : RdOk 0 n rd15_e pt15_e := rdC_ok ((rb15_e_ok n).m mk15_e (pat' := pt15_e) fun _ => rfl)
noncomputable def o15 (x : E15) : Out := match (match outOf Try.prog 15 (pt15_e x) with
    | some ds => some (Out.mk (resA ds) (keepR (pt15_e x).R 0 (resA ds)) (pt15_e x).nx)
    | none => none) with
  | some o => o
  | none => ⟨.tup [], [], 0⟩
theorem fnok15 : fnOk Try.prog 15 := ⟨_, Try.func15, by kernel_rfl, by kernel_rfl⟩
def m15 (a0 : Int) : Option E15 := YtfipaakafcjjhaaD.m15 a0
def Gv15 : Prop := ∀ (a0 : Int) (r : E15), m15 a0 = some r → FnY Try.prog 15 [.n .u8 a0] [] 0 (o15 r)
noncomputable def e15 (F : Orc) : Orc := orY 15 0 (qy0 (pkC (asI .u8) pkN)) (fun g => m15 g.1 : (Int × Unit) → Option E15) o15 F
theorem e15_okv (hv : Gv15) {F : Orc} (h : OrcG Try.prog F) : OrcG Try.prog (e15 F) := orY_g h fnok15 (qy0_ok (ca := fun g => [.n .u8 g.1]) ((.cons (.i .u8) .nil) : PkN (pkC (asI .u8) pkN) _)) (fun b => by kernel_rfl) (fun g b hb => hv g.1 b hb)
theorem e15_skip {F : Orc} {f : Nat} (hne : Nat.beq f 15 = false) (h : PureF F f) : PureF (e15 F) f := orY_skip hne h
theorem gv15 : Gv15 := fun a0 r h => by
  rw [show o15 r = ⟨.sl 5 r, [], (o15 r).c⟩ from by kernel_rfl]
  exact fnY_ofFn (Fn.ofAb (YtfipaakafcjjhaaD.m15_ok a0 h) (BrL.cons (.lit _) .nil) (br_bytes _)) (subs_id (by kernel_rfl)) (fun ρ => cloB_sub 2 (by kernel_rfl))
/-! ### 17: keyhole/disk.Read -/
abbrev E17 : Type := (List Int) × Int
abbrev P17_e : Type := (Unit × Unit × Unit) × ((((List Int) × Unit)) × ((Int × Unit)) × Unit)
noncomputable def rb17_e : St → Option P17_e := stR 2 (slC 4 (asP 0 0) (slC 5 (asP 1 0) slN)) (rsN2 0 29 (pkC (asL 5) pkN) (rsN2 1 33 (pkC (asI .i64) pkN) rsN))
noncomputable def pb17_e : P17_e → St := stP 2 (fun z => [(4, .ptr 0 0), (5, .ptr 1 0)]) (fun z => [(0, .box 29 [.sl 5 z.1.1]), (1, .box 33 [.n .i64 z.2.1.1])])
noncomputable def mk17_e (z : P17_e) : E17 := (z.2.1.1, z.2.2.1.1)
noncomputable def pt17_e (x : E17) : St := pb17_e (((), (), ()), ((x.1, ()), (x.2, ()), ()))
noncomputable def rd17_e : St → Option E17 := rdC 0 [] [4, 5] (rdM mk17_e rb17_e)
theorem rb17_e_ok (n : Nat) : RdOk 0 n rb17_e pb17_e := stR_ok (.cons (.p 0 0) (.cons (.p 1 0) .nil)) (.boxN (.cons (.l 5) .nil) (.boxN (.cons (.i .i64) .nil) .nil))
theorem rd17_e_ok (n : Nat) : RdOk 0 n rd17_e pt17_e := rdC_ok ((rb17_e_ok n).m mk17_e (pat' := pt17_e) fun _ => rfl)
noncomputable def o17 (x : E17) : Out := match (match outOf Try.prog 17 (pt17_e x) with
    | some ds => some (Out.mk (resA ds) (keepR (pt17_e x).R 0 (resA ds)) (pt17_e x).nx)
    | none => none) with
  | some o => o
  | none => ⟨.tup [], [], 0⟩
theorem fnok17 : fnOk Try.prog 17 := ⟨_, Try.func17, by kernel_rfl, by kernel_rfl⟩
def m17 (a0 : Disk) (a1 : Int) : Option E17 := YtfipaakafcjjhaaD.m17 (toD a0) a1
def Gv17 : Prop := ∀ (a0 : Disk) (a1 : Int) (r : E17), m17 a0 a1 = some r → FnY Try.prog 17 [.agg (uni.cells 26 a0), .n .i64 a1] [] 0 (o17 r)
noncomputable def e17 (F : Orc) : Orc := orY 17 0 (qy0 (pkC (asGc 26) (pkC (asI .i64) pkN))) (fun g => m17 g.1 g.2.1 : (Disk × Int × Unit) → Option E17) o17 F
theorem e17_okv (hv : Gv17) {F : Orc} (h : OrcG Try.prog F) : OrcG Try.prog (e17 F) := orY_g h fnok17 (qy0_ok (ca := fun g => [.agg (uni.cells 26 g.1), .n .i64 g.2.1]) ((.cons (.g 26) (.cons (.i .i64) .nil)) : PkN (pkC (asGc 26) (pkC (asI .i64) pkN)) _)) (fun b => by kernel_rfl) (fun g b hb => hv g.1 g.2.1 b hb)
theorem e17_skip {F : Orc} {f : Nat} (hne : Nat.beq f 17 = false) (h : PureF F f) : PureF (e17 F) f := orY_skip hne h
theorem gv17 : Gv17 := fun a0 a1 r h => by
  rw [show o17 r = ⟨.tup [.sl 5 r.1, .n .i64 r.2], [], (o17 r).c⟩ from by kernel_rfl]
  exact fnY_ofFn (Fn.ofAb (YtfipaakafcjjhaaD.m17_ok (toD a0) a1 h) (BrL.cons (br_disk a0) (BrL.cons (.lit _) .nil)) (Br.tup (BrL.cons (br_bytes _) (BrL.cons (.lit _) .nil)))) (subs_id (by kernel_rfl)) (fun ρ => cloB_sub 2 (by kernel_rfl))
/-! ### 19: keyhole/disk.Write -/
abbrev E19 : Type := Disk × Int
abbrev P19_e : Type := (Unit × Int × Unit) × (Disk × Unit)
noncomputable def rb19_e : St → Option P19_e := stR 1 (slC 6 (asP 0 0) (slC 7 (asI .i64) slN)) (rsN2 0 26 (asCs 26) rsN)
noncomputable def pb19_e : P19_e → St := stP 1 (fun z => [(6, .ptr 0 0), (7, .n .i64 z.2.1)]) (fun z => [(0, .box 26 (uni.cells 26 z.1))])
noncomputable def mk19_e (z : P19_e) : E19 := (z.2.1, z.1.2.1)
noncomputable def pt19_e (x : E19) : St := pb19_e (((), x.2, ()), (x.1, ()))
noncomputable def rd19_e : St → Option E19 := rdC 0 [] [6, 7] (rdM mk19_e rb19_e)
theorem rb19_e_ok (n : Nat) : RdOk 0 n rb19_e pb19_e := stR_ok (.cons (.p 0 0) (.cons (.i .i64) .nil)) (.boxN (PkN.parse 26) .nil)
theorem rd19_e_ok (n : Nat) : RdOk 0 n rd19_e pt19_e := rdC_ok ((rb19_e_ok n).m mk19_e (pat' := pt19_e) fun _ => rfl)
noncomputable def o19 (x : E19) : Out := match (match outOf Try.prog 19 (pt19_e x) with
    | some ds => some (Out.mk (resA ds) (keepR (pt19_e x).R 0 (resA ds)) (pt19_e x).nx)
    | none => none) with
  | some o => o
  | none => ⟨.tup [], [], 0⟩
theorem fnok19 : fnOk Try.prog 19 := ⟨_, Try.func19, by kernel_rfl, by kernel_rfl⟩
def m19 (a0 : Disk) (a1 : Int) (a2 : List Int) : Option E19 := (YtfipaakafcjjhaaD.m19 (toD a0) a1 a2).map fun r => (frD r.1, r.2)
def Gv19 : Prop := ∀ (a0 : Disk) (a1 : Int) (a2 : List Int) (r : E19), m19 a0 a1 a2 = some r → FnY Try.prog 19 [.agg (uni.cells 26 a0), .n .i64 a1, .sl 5 a2] [] 0 (o19 r)
noncomputable def e19 (F : Orc) : Orc := orY 19 0 (qy0 (pkC (asGc 26) (pkC (asI .i64) (pkC (asL 5) pkN)))) (fun g => m19 g.1 g.2.1 g.2.2.1 : (Disk × Int × (List Int) × Unit) → Option E19) o19 F
theorem e19_okv (hv : Gv19) {F : Orc} (h : OrcG Try.prog F) : OrcG Try.prog (e19 F) := orY_g h fnok19 (qy0_ok (ca := fun g => [.agg (uni.cells 26 g.1), .n .i64 g.2.1, .sl 5 g.2.2.1]) ((.cons (.g 26) (.cons (.i .i64) (.cons (.l 5) .nil))) : PkN (pkC (asGc 26) (pkC (asI .i64) (pkC (asL 5) pkN))) _)) (fun b => by kernel_rfl) (fun g b hb => hv g.1 g.2.1 g.2.2.1 b hb)
theorem e19_skip {F : Orc} {f : Nat} (hne : Nat.beq f 19 = false) (h : PureF F f) : PureF (e19 F) f := orY_skip hne h
theorem gv19 : Gv19 := fun a0 a1 a2 r h => by
  obtain ⟨q, h1, rfl⟩ := map_frD h
  rw [show o19 (frD q.1, q.2) = ⟨.tup [.agg (uni.cells 26 (frD q.1)), .n .i64 q.2], [], (o19 (frD q.1, q.2)).c⟩ from by kernel_rfl]
  exact fnY_ofFn (Fn.ofAb (YtfipaakafcjjhaaD.m19_ok (toD a0) a1 a2 h1) (BrL.cons (br_disk a0) (BrL.cons (.lit _) (BrL.cons (br_bytes _) .nil))) (Br.tup (BrL.cons (br_frD _) (BrL.cons (.lit _) .nil)))) (subs_id (by kernel_rfl)) (fun ρ => cloB_sub 2 (by kernel_rfl))
/-! ### 22: keyhole/disk.Sync -/
abbrev E22 : Type := Disk × Int
abbrev P22_e : Type := (Unit × Int × Unit) × (Disk × Unit)
noncomputable def rb22_e : St → Option P22_e := stR 1 (slC 2 (asP 0 0) (slC 3 (asI .i64) slN)) (rsN2 0 26 (asCs 26) rsN)
noncomputable def pb22_e : P22_e → St := stP 1 (fun z => [(2, .ptr 0 0), (3, .n .i64 z.2.1)]) (fun z => [(0, .box 26 (uni.cells 26 z.1))])
noncomputable def mk22_e (z : P22_e) : E22 := (z.2.1, z.1.2.1)
noncomputable def pt22_e (x : E22) : St := pb22_e (((), x.2, ()), (x.1, ()))
noncomputable def rd22_e : St → Option E22 := rdC 0 [] [2, 3] (rdM mk22_e rb22_e)
theorem rb22_e_ok (n : Nat) : RdOk 0 n rb22_e pb22_e := stR_ok (.cons (.p 0 0) (.cons (.i .i64) .nil)) (.boxN (PkN.parse 26) .nil)
theorem rd22_e_ok (n : Nat) : RdOk 0 n rd22_e pt22_e := rdC_ok ((rb22_e_ok n).m mk22_e (pat' := pt22_e) fun _ => rfl)
noncomputable def o22 (x : E22) : Out := match (match outOf Try.prog 22 (pt22_e x) with
    | some ds => some (Out.mk (resA ds) (keepR (pt22_e x).R 0 (resA ds)) (pt22_e x).nx)
    | none => none) with
  | some o => o
  | none => ⟨.tup [], [], 0⟩
theorem fnok22 : fnOk Try.prog 22 := ⟨_, Try.func22, by kernel_rfl, by kernel_rfl⟩
def m22 (a0 : Disk) : Option E22 := (YtfipaakafcjjhaaD.m22 (toD a0)).map fun r => (frD r.1, r.2)
def Gv22 : Prop := ∀ (a0 : Disk) (r : E22), m22 a0 = some r → FnY Try.prog 22 [.agg (uni.cells 26 a0)] [] 0 (o22 r)
noncomputable def e22 (F : Orc) : Orc := orY 22 0 (qy0 (pkC (asGc 26) pkN)) (fun g => m22 g.1 : (Disk × Unit) → Option E22) o22 F
theorem e22_okv (hv : Gv22) {F : Orc} (h : OrcG Try.prog F) : OrcG Try.prog (e22 F) := orY_g h fnok22 (qy0_ok (ca := fun g => [.agg (uni.cells 26 g.1)]) ((.cons (.g 26) .nil) : PkN (pkC (asGc 26) pkN) _)) (fun b => by kernel_rfl) (fun g b hb => hv g.1 b hb)
theorem e22_skip {F : Orc} {f : Nat} (hne : Nat.beq f 22 = false) (h : PureF F f) : PureF (e22 F) f := orY_skip hne h
theorem gv22 : Gv22 := fun a0 r h => by
  obtain ⟨q, h1, rfl⟩ := map_frD h
  rw [show o22 (frD q.1, q.2) = ⟨.tup [.agg (uni.cells 26 (frD q.1)), .n .i64 q.2], [], (o22 (frD q.1, q.2)).c⟩ from by kernel_rfl]
  exact fnY_ofFn (Fn.ofAb (YtfipaakafcjjhaaD.m22_ok (toD a0) h1) (BrL.cons (br_disk a0) .nil) (Br.tup (BrL.cons (br_frD _) (BrL.cons (.lit _) .nil)))) (subs_id (by kernel_rfl)) (fun ρ => cloB_sub 2 (by kernel_rfl))
/-! ### 23: keyhole/disk.Arm -/
abbrev E23 : Type := Disk × Int
abbrev P23_e : Type := (Unit × Int × Unit) × (Disk × Unit)
noncomputable def rb23_e : St → Option P23_e := stR 1 (slC 4 (asP 0 0) (slC 5 (asI .i64) slN)) (rsN2 0 26 (asCs 26) rsN)
noncomputable def pb23_e : P23_e → St := stP 1 (fun z => [(4, .ptr 0 0), (5, .n .i64 z.2.1)]) (fun z => [(0, .box 26 (uni.cells 26 z.1))])
noncomputable def mk23_e (z : P23_e) : E23 := (z.2.1, z.1.2.1)
noncomputable def pt23_e (x : E23) : St := pb23_e (((), x.2, ()), (x.1, ()))
noncomputable def rd23_e : St → Option E23 := rdC 0 [] [4, 5] (rdM mk23_e rb23_e)
theorem rb23_e_ok (n : Nat) : RdOk 0 n rb23_e pb23_e := stR_ok (.cons (.p 0 0) (.cons (.i .i64) .nil)) (.boxN (PkN.parse 26) .nil)
theorem rd23_e_ok (n : Nat) : RdOk 0 n rd23_e pt23_e := rdC_ok ((rb23_e_ok n).m mk23_e (pat' := pt23_e) fun _ => rfl)
noncomputable def o23 (x : E23) : Out := match (match outOf Try.prog 23 (pt23_e x) with
    | some ds => some (Out.mk (resA ds) (keepR (pt23_e x).R 0 (resA ds)) (pt23_e x).nx)
    | none => none) with
  | some o => o
  | none => ⟨.tup [], [], 0⟩
theorem fnok23 : fnOk Try.prog 23 := ⟨_, Try.func23, by kernel_rfl, by kernel_rfl⟩
def m23 (a0 : Disk) (a1 : Int) : Option E23 := (YtfipaakafcjjhaaD.m23 (toD a0) a1).map fun r => (frD r.1, r.2)
def Gv23 : Prop := ∀ (a0 : Disk) (a1 : Int) (r : E23), m23 a0 a1 = some r → FnY Try.prog 23 [.agg (uni.cells 26 a0), .n .i64 a1] [] 0 (o23 r)
noncomputable def e23 (F : Orc) : Orc := orY 23 0 (qy0 (pkC (asGc 26) (pkC (asI .i64) pkN))) (fun g => m23 g.1 g.2.1 : (Disk × Int × Unit) → Option E23) o23 F
theorem e23_okv (hv : Gv23) {F : Orc} (h : OrcG Try.prog F) : OrcG Try.prog (e23 F) := orY_g h fnok23 (qy0_ok (ca := fun g => [.agg (uni.cells 26 g.1), .n .i64 g.2.1]) ((.cons (.g 26) (.cons (.i .i64) .nil)) : PkN (pkC (asGc 26) (pkC (asI .i64) pkN)) _)) (fun b => by kernel_rfl) (fun g b hb => hv g.1 g.2.1 b hb)
theorem e23_skip {F : Orc} {f : Nat} (hne : Nat.beq f 23 = false) (h : PureF F f) : PureF (e23 F) f := orY_skip hne h
theorem gv23 : Gv23 := fun a0 a1 r h => by
  obtain ⟨q, h1, rfl⟩ := map_frD h
  rw [show o23 (frD q.1, q.2) = ⟨.tup [.agg (uni.cells 26 (frD q.1)), .n .i64 q.2], [], (o23 (frD q.1, q.2)).c⟩ from by kernel_rfl]
  exact fnY_ofFn (Fn.ofAb (YtfipaakafcjjhaaD.m23_ok (toD a0) a1 h1) (BrL.cons (br_disk a0) (BrL.cons (.lit _) .nil)) (Br.tup (BrL.cons (br_frD _) (BrL.cons (.lit _) .nil)))) (subs_id (by kernel_rfl)) (fun ρ => cloB_sub 2 (by kernel_rfl))
/-! ### 24: keyhole/disk.Crash -/
abbrev E24 : Type := Disk × Int
abbrev P24_e : Type := (Unit × Int × Unit) × (Disk × Unit)
noncomputable def rb24_e : St → Option P24_e := stR 1 (slC 4 (asP 0 0) (slC 5 (asI .i64) slN)) (rsN2 0 26 (asCs 26) rsN)
noncomputable def pb24_e : P24_e → St := stP 1 (fun z => [(4, .ptr 0 0), (5, .n .i64 z.2.1)]) (fun z => [(0, .box 26 (uni.cells 26 z.1))])
noncomputable def mk24_e (z : P24_e) : E24 := (z.2.1, z.1.2.1)
noncomputable def pt24_e (x : E24) : St := pb24_e (((), x.2, ()), (x.1, ()))
noncomputable def rd24_e : St → Option E24 := rdC 0 [] [4, 5] (rdM mk24_e rb24_e)
theorem rb24_e_ok (n : Nat) : RdOk 0 n rb24_e pb24_e := stR_ok (.cons (.p 0 0) (.cons (.i .i64) .nil)) (.boxN (PkN.parse 26) .nil)
theorem rd24_e_ok (n : Nat) : RdOk 0 n rd24_e pt24_e := rdC_ok ((rb24_e_ok n).m mk24_e (pat' := pt24_e) fun _ => rfl)
noncomputable def o24 (x : E24) : Out := match (match outOf Try.prog 24 (pt24_e x) with
    | some ds => some (Out.mk (resA ds) (keepR (pt24_e x).R 0 (resA ds)) (pt24_e x).nx)
    | none => none) with
  | some o => o
  | none => ⟨.tup [], [], 0⟩
theorem fnok24 : fnOk Try.prog 24 := ⟨_, Try.func24, by kernel_rfl, by kernel_rfl⟩
def m24 (a0 : Disk) (a1 : List Bool) : Option E24 := (YtfipaakafcjjhaaD.m24 (toD a0) a1).map fun r => (frD r.1, r.2)
def Gv24 : Prop := ∀ (a0 : Disk) (a1 : List Bool) (r : E24), m24 a0 a1 = some r → FnY Try.prog 24 [.agg (uni.cells 26 a0), .sl 4 a1] [] 0 (o24 r)
noncomputable def e24 (F : Orc) : Orc := orY 24 0 (qy0 (pkC (asGc 26) (pkC (asL 4) pkN))) (fun g => m24 g.1 g.2.1 : (Disk × (List Bool) × Unit) → Option E24) o24 F
theorem e24_okv (hv : Gv24) {F : Orc} (h : OrcG Try.prog F) : OrcG Try.prog (e24 F) := orY_g h fnok24 (qy0_ok (ca := fun g => [.agg (uni.cells 26 g.1), .sl 4 g.2.1]) ((.cons (.g 26) (.cons (.l 4) .nil)) : PkN (pkC (asGc 26) (pkC (asL 4) pkN)) _)) (fun b => by kernel_rfl) (fun g b hb => hv g.1 g.2.1 b hb)
theorem e24_skip {F : Orc} {f : Nat} (hne : Nat.beq f 24 = false) (h : PureF F f) : PureF (e24 F) f := orY_skip hne h
theorem gv24 : Gv24 := fun a0 a1 r h => by
  obtain ⟨q, h1, rfl⟩ := map_frD h
  rw [show o24 (frD q.1, q.2) = ⟨.tup [.agg (uni.cells 26 (frD q.1)), .n .i64 q.2], [], (o24 (frD q.1, q.2)).c⟩ from by kernel_rfl]
  exact fnY_ofFn (Fn.ofAb (YtfipaakafcjjhaaD.m24_ok (toD a0) a1 h1) (BrL.cons (br_disk a0) (BrL.cons (br_bools _) .nil)) (Br.tup (BrL.cons (br_frD _) (BrL.cons (.lit _) .nil)))) (subs_id (by kernel_rfl)) (fun ρ => cloB_sub 2 (by kernel_rfl))
/-! ### 25: keyhole/keyholelaw49.valid -/
abbrev E25 : Type := Bool
abbrev P25_e : Type := (Bool × Unit) × (Unit)
noncomputable def rb25_e : St → Option P25_e := stR 0 (slC 2 asB slN) rsN
noncomputable def pb25_e : P25_e → St := stP 0 (fun z => [(2, .b z.1)]) (fun z => [])
noncomputable def mk25_e (z : P25_e) : E25 := z.1.1
noncomputable def pt25_e (x : E25) : St := pb25_e ((x, ()), (()))
noncomputable def rd25_e : St → Option E25 := rdC 0 [] [2] (rdM mk25_e rb25_e)
theorem rb25_e_ok (n : Nat) : RdOk 0 n rb25_e pb25_e := stR_ok (.cons .b .nil) .nil
theorem rd25_e_ok (n : Nat) : RdOk 0 n rd25_e pt25_e := rdC_ok ((rb25_e_ok n).m mk25_e (pat' := pt25_e) fun _ => rfl)
noncomputable def o25 (x : E25) : Out := match (match outOf Try.prog 25 (pt25_e x) with
    | some ds => some (Out.mk (resA ds) (keepR (pt25_e x).R 0 (resA ds)) (pt25_e x).nx)
    | none => none) with
  | some o => o
  | none => ⟨.tup [], [], 0⟩
theorem fnok25 : fnOk Try.prog 25 := ⟨_, Try.func25, by kernel_rfl, by kernel_rfl⟩
def m25 (a0 : Disk) : Option E25 := YtfipaakafcjjhaaD.m25 (toD a0)
def Gv25 : Prop := ∀ (a0 : Disk) (r : E25), m25 a0 = some r → FnY Try.prog 25 [.agg (uni.cells 26 a0)] [] 0 (o25 r)
noncomputable def e25 (F : Orc) : Orc := orL 25 false (pkC (asGc 26) pkN) (fun g => m25 g.1 : (Disk × Unit) → Option E25) o25 F
theorem e25_okv (hv : Gv25) {F : Orc} (h : OrcG Try.prog F) : OrcG Try.prog (e25 F) := orL_g (sc := scU) h scU_ok fnok25 (ca := fun g => [.agg (uni.cells 26 g.1)]) ((.cons (.g 26) .nil) : PkN (pkC (asGc 26) pkN) _) (fun b => by kernel_rfl) (fun b => by kernel_rfl) (fun g b hb => hv g.1 b hb)
theorem e25_pure {F : Orc} {f : Nat} (h : PureF F f) : PureF (e25 F) f := orL_pure h (fun b => by kernel_rfl)
theorem gv25 : Gv25 := fun a0 r h => by
  rw [show o25 r = ⟨.b r, [], 0⟩ from by cases r <;> kernel_rfl]
  exact fnY_ofFn (Fn.ofAb (YtfipaakafcjjhaaD.m25_ok (toD a0) h) (BrL.cons (br_disk a0) .nil) (Br.lit _)) (subs_id (by kernel_rfl)) (fun ρ => cloB_sub 2 (by kernel_rfl))
end Go.Proofs.Ytfipaakafcjjhaa
end
