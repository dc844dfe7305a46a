/- Models of functions, and that the code does what they say. -/
import Derived.Test.YtfipaakafcjjhaaMan
set_option linter.unusedSectionVars false
set_option linter.unusedVariables false
set_option linter.unusedSimpArgs false
namespace Go.Proofs.Ytfipaakafcjjhaa
open Go.RowKit Go.Ab

def m12_l1 (p0 : Int) : Nat → (List (List Int)) → Int → Option (List (List Int))
  | 0, _, _ => none
  | k1 + 1, l4, n3 =>
    if (decide (n3 < (if (4096 : Int) < (if p0 < 1 then 1 else p0) then 4096 else (if p0 < 1 then 1 else p0)))) = true then
      Option.bind (
        if (l4 ++ [(List.replicate (Int.toNat 96) 0)]).length ≤ 1073741824 then
        some ()
        else none) fun _ =>
      m12_l1 p0 k1 (l4 ++ [(List.replicate (Int.toNat 96) 0)]) (w64 (n3 + 1))
    else
      some l4
def m12 (p0 : Int) : Option Disk :=
  Option.bind (
    (m12_l1 p0 (Int.toNat (if (4096 : Int) < (if p0 < 1 then 1 else p0) then 4096 else (if p0 < 1 then 1 else p0)) + 1) [] 0).bind fun l5 =>
    some l5) fun l1 =>
  some (Disk.mk l1 [] (-1) false)

theorem m12_ok (p0 : Int)  {r : Disk} (hm : m12 p0 = some r) : Ab.Fn Try.prog 12 [.i p0] [] (fun a s => a = .agg [.sl 1 (cL 1 (cN .u8)) r.fDurable, .sl 2 Write.cells r.fPending, .i r.fLeft, .b r.fDown] ∧ s = []) := by
  rw [m12] at hm
  refine Ab.Fn.of Try.func12 rfl rfl rfl (fun C => ?_)
  refine CW.seq ?_
  refine CW.region ?_
  refine RW.v rfl rfl rfl (Yv.alloc rfl zerb26) ?_
  rintro _ _ ⟨b1, rfl, rfl⟩
  refine RW.nil ?_
  refine CW.seq ?_
  refine CW.region ?_
  refine RW.p rfl rfl rfl (Yp.build rfl plc26 zer26 rfl rfl) ?_
  refine RW.v rfl rfl rfl (Yv.alloc rfl zerb26) ?_
  rintro _ _ ⟨b2, rfl, rfl⟩
  refine RW.u rfl rfl (Yu.storeB 0 rfl rfl rfl rfl sz26 (Pw.p rfl) rfl (Nat.le_of_ble_eq_true rfl)) ?_
  refine RW.nil ?_
  refine CW.seq ?_
  obtain ⟨l1, hs1, hk1⟩ := bnd hm
  refine CW.cut (fun E σ => ∃ v1 : Value, Sub [(2, .lit (.pointer (some ⟨b1, 0, none⟩))), (3, .lit (.pointer (some ⟨b2, 0, none⟩)))] E ∧ σ = [.box b1 26 [.lit (.slice none 0 0), .lit (.slice none 0 0), .i 0, .b false], .box b2 26 [.lit v1, .lit (.slice none 0 0), .i (-1), .b false], .row v1 29 1 (cL 1 (cN .u8)) l1]) ?_ ?_
  ·
    have hm := hs1
    refine CW.seq ?_
    refine CW.region ?_
    refine RW.p rfl rfl rfl (Yp.move rfl rfl) ?_
    refine RW.p rfl rfl rfl (Yp.max rfl rfl rfl) ?_
    refine RW.p rfl rfl rfl (Yp.min rfl rfl rfl) ?_
    refine RW.p rfl rfl rfl (Yp.move rfl rfl) ?_
    refine RW.nil ?_
    refine CW.block ?_
    refine CW.own none 29 1 (cL 1 (cN .u8)) ?_
    refine CW.sel [2, 1, 0] rfl ?_
    obtain ⟨l5, hs2, hk2⟩ := bnd hm
    refine CW.lp (fun k1 E σ => ∃ l4 : List (List Int), ∃ n3 : Int, ∃ v4 : Value, Sub [(2, .lit (.pointer (some ⟨b1, 0, none⟩))), (3, .lit (.pointer (some ⟨b2, 0, none⟩))), (7, .i (if (4096 : Int) < (if p0 < 1 then 1 else p0) then 4096 else (if p0 < 1 then 1 else p0))), (8, .i n3)] E ∧ σ = [.box b1 26 [.lit (.slice none 0 0), .lit (.slice none 0 0), .i 0, .b false], .box b2 26 [.lit v4, .lit (.slice none 0 0), .i (-1), .b false], .row v4 29 1 (cL 1 (cN .u8)) l4] ∧ m12_l1 p0 k1 l4 n3 = some l5) (Int.toNat (if (4096 : Int) < (if p0 < 1 then 1 else p0) then 4096 else (if p0 < 1 then 1 else p0)) + 1) ?_ ?_
    · exact ⟨[], 0, (.slice none 0 0), (Sub.cons rfl (Sub.cons rfl (Sub.cons rfl (Sub.cons rfl Sub.nil)))), rfl, hs2⟩
    ·
      rintro k1 E σ ⟨l4, n3, v4, hsub1, rfl, hm⟩
      refine CW.weak ?_ hsub1
      cases k1 with
      | zero => cases hm
      | succ k1 =>
        rw [m12_l1] at hm
        refine CW.seq ?_
        refine CW.region ?_
        refine RW.p rfl rfl rfl (Yp.lss rfl rfl rfl) ?_
        refine RW.nil ?_
        refine CW.seq ?_
        refine CW.cond rfl (fun hb1 => ?_) (fun hb1 => ?_)
        ·
          have hm := ift hm hb1
          refine CW.skip ?_
          refine CW.seq ?_
          obtain ⟨⟨⟩, hs3, hk3⟩ := bnd hm
          refine CW.cut (fun E σ => ∃ v6 : Value, Sub [(2, .lit (.pointer (some ⟨b1, 0, none⟩))), (3, .lit (.pointer (some ⟨b2, 0, none⟩))), (7, .i (if (4096 : Int) < (if p0 < 1 then 1 else p0) then 4096 else (if p0 < 1 then 1 else p0))), (8, .i n3)] E ∧ σ = [.box b1 26 [.lit (.slice none 0 0), .lit (.slice none 0 0), .i 0, .b false], .box b2 26 [.lit v6, .lit (.slice none 0 0), .i (-1), .b false], .row v6 29 1 (cL 1 (cN .u8)) (l4 ++ [(List.replicate (Int.toNat 96) 0)])]) ?_ ?_
          ·
            have hm := hs3
            refine CW.block ?_
            obtain ⟨hc1, hm⟩ := chk hm
            refine CW.drawSel 7 rfl [1, 1, 0] [.box b2 26 [.lit v4, .lit (.slice none 0 0), .i (-1), .b false], .row v4 29 1 (cL 1 (cN .u8)) l4] [.box b1 26 [.lit (.slice none 0 0), .lit (.slice none 0 0), .i 0, .b false]] rfl (by kernel_rfl) ?_
            intro A1 w1 hB1
            refine RH.take 0 rfl (by kernel_rfl) rfl rfl rfl hB1 (Yp.fieldP rfl rfl Try.underlying26 rfl sz23) ?_
            refine RH.two 1 2 (by kernel_rfl) ?_ ?_
            ·
              refine RO.p rfl rfl rfl rfl rfl (Yp.loadB1 1 rfl rfl rfl one23 rfl) ?_
              refine RH.one 2 (by kernel_rfl) ?_
              refine RO.v rfl rfl rfl rfl rfl (Yv.make (cN .u8) 0 rfl rfl rfl Try.underlying29 szb5 zer5 rfl rfl rfl (by decide) (by decide)) (fun b hb => absurd hb (by simp)) ?_
              rintro _ _ ⟨v10, rfl, rfl⟩
              refine RH.one 3 (by kernel_rfl) ?_
              refine RO.frz 0 12 rfl rfl (Vw.row 0 rfl) ?_
              refine RO.v rfl rfl rfl rfl rfl (Yv.lit (cL 1 (cN .u8)) ([(List.replicate (Int.toNat 96) 0)] : List (List Int)) rfl Try.underlying23 sz29 zer29 rfl rfl rfl rfl rfl (fun i hi => by match i, hi with | 0, _ => rfl) (by decide) (by decide)) (fun b hb => absurd hb (by simp)) ?_
              rintro _ _ ⟨v11, rfl, rfl⟩
              refine RH.one 4 (by kernel_rfl) ?_
              refine RO.v rfl rfl rfl rfl rfl (Yv.app (l := l4) (l2 := ([(List.replicate (Int.toNat 96) 0)] : List (List Int))) 3 rfl rfl rfl (.inr (.inr ⟨0, _, rfl, rfl⟩)) Try.underlying23 szb29 zer29 rfl rfl (fun _ => rfl) hc1) (inX (r := .row v4 29 1 (cL 1 (cN .u8)) l4) 1 rfl) ?_
              rintro _ _ ⟨v12, rfl, rfl⟩
              refine RH.take 5 rfl (by kernel_rfl) rfl rfl rfl hB1 (Yp.fieldP rfl rfl Try.underlying26 rfl sz23) ?_
              refine RH.one 6 (by kernel_rfl) ?_
              refine RO.u rfl rfl rfl (Yu.storeB 2 rfl rfl rfl rfl sz23 (Pw.own 3 rfl) rfl (Nat.le_of_ble_eq_true rfl)) (inX (r := .box b2 26 [.lit v4, .lit (.slice none 0 0), .i (-1), .b false]) 0 rfl) ?_
              refine RH.sel [1, 1, 1] rfl ?_
              refine RH.done (by kernel_rfl) ?_
              cases hm
              exact ⟨v12, (Sub.cons rfl (Sub.cons rfl (Sub.cons rfl (Sub.cons rfl Sub.nil)))), rfl⟩
            ·
              refine RO.v rfl rfl rfl rfl rfl (Yv.make (cN .u8) 0 rfl rfl rfl Try.underlying29 szb5 zer5 rfl rfl rfl (by decide) (by decide)) (fun b hb => absurd hb (by simp)) ?_
              rintro _ _ ⟨v13, rfl, rfl⟩
              refine RH.two 1 3 (by kernel_rfl) ?_ ?_
              ·
                refine RO.p rfl rfl rfl rfl rfl (Yp.loadB1 2 rfl rfl rfl one23 rfl) ?_
                refine RH.one 3 (by kernel_rfl) ?_
                refine RO.frz 0 12 rfl rfl (Vw.row 0 rfl) ?_
                refine RO.v rfl rfl rfl rfl rfl (Yv.lit (cL 1 (cN .u8)) ([(List.replicate (Int.toNat 96) 0)] : List (List Int)) rfl Try.underlying23 sz29 zer29 rfl rfl rfl rfl rfl (fun i hi => by match i, hi with | 0, _ => rfl) (by decide) (by decide)) (fun b hb => absurd hb (by simp)) ?_
                rintro _ _ ⟨v14, rfl, rfl⟩
                refine RH.one 4 (by kernel_rfl) ?_
                refine RO.v rfl rfl rfl rfl rfl (Yv.app (l := l4) (l2 := ([(List.replicate (Int.toNat 96) 0)] : List (List Int))) 3 rfl rfl rfl (.inr (.inr ⟨0, _, rfl, rfl⟩)) Try.underlying23 szb29 zer29 rfl rfl (fun _ => rfl) hc1) (inX (r := .row v4 29 1 (cL 1 (cN .u8)) l4) 1 rfl) ?_
                rintro _ _ ⟨v15, rfl, rfl⟩
                refine RH.take 5 rfl (by kernel_rfl) rfl rfl rfl hB1 (Yp.fieldP rfl rfl Try.underlying26 rfl sz23) ?_
                refine RH.one 6 (by kernel_rfl) ?_
                refine RO.u rfl rfl rfl (Yu.storeB 2 rfl rfl rfl rfl sz23 (Pw.own 3 rfl) rfl (Nat.le_of_ble_eq_true rfl)) (inX (r := .box b2 26 [.lit v4, .lit (.slice none 0 0), .i (-1), .b false]) 0 rfl) ?_
                refine RH.sel [1, 1, 1] rfl ?_
                refine RH.done (by kernel_rfl) ?_
                cases hm
                exact ⟨v15, (Sub.cons rfl (Sub.cons rfl (Sub.cons rfl (Sub.cons rfl Sub.nil)))), rfl⟩
              ·
                refine RO.frz 0 12 rfl rfl (Vw.row 0 rfl) ?_
                refine RO.v rfl rfl rfl rfl rfl (Yv.lit (cL 1 (cN .u8)) ([(List.replicate (Int.toNat 96) 0)] : List (List Int)) rfl Try.underlying23 sz29 zer29 rfl rfl rfl rfl rfl (fun i hi => by match i, hi with | 0, _ => rfl) (by decide) (by decide)) (fun b hb => absurd hb (by simp)) ?_
                rintro _ _ ⟨v16, rfl, rfl⟩
                refine RH.one 1 (by kernel_rfl) ?_
                refine RO.p rfl rfl rfl rfl rfl (Yp.loadB1 2 rfl rfl rfl one23 rfl) ?_
                refine RH.one 4 (by kernel_rfl) ?_
                refine RO.v rfl rfl rfl rfl rfl (Yv.app (l := l4) (l2 := ([(List.replicate (Int.toNat 96) 0)] : List (List Int))) 3 rfl rfl rfl (.inr (.inr ⟨0, _, rfl, rfl⟩)) Try.underlying23 szb29 zer29 rfl rfl (fun _ => rfl) hc1) (inX (r := .row v4 29 1 (cL 1 (cN .u8)) l4) 1 rfl) ?_
                rintro _ _ ⟨v17, rfl, rfl⟩
                refine RH.take 5 rfl (by kernel_rfl) rfl rfl rfl hB1 (Yp.fieldP rfl rfl Try.underlying26 rfl sz23) ?_
                refine RH.one 6 (by kernel_rfl) ?_
                refine RO.u rfl rfl rfl (Yu.storeB 2 rfl rfl rfl rfl sz23 (Pw.own 3 rfl) rfl (Nat.le_of_ble_eq_true rfl)) (inX (r := .box b2 26 [.lit v4, .lit (.slice none 0 0), .i (-1), .b false]) 0 rfl) ?_
                refine RH.sel [1, 1, 1] rfl ?_
                refine RH.done (by kernel_rfl) ?_
                cases hm
                exact ⟨v17, (Sub.cons rfl (Sub.cons rfl (Sub.cons rfl (Sub.cons rfl Sub.nil)))), rfl⟩
          ·
            rintro E σ ⟨v6, hsub2, rfl⟩
            have hm := hk3
            refine CW.weak ?_ hsub2
            refine CW.region ?_
            refine RW.p rfl rfl rfl (Yp.add rfl rfl rfl) ?_
            refine RW.p rfl rfl rfl (Yp.move rfl rfl) ?_
            refine RW.nil ?_
            exact ⟨k1, Nat.lt_succ_self _, _, _, v6, (Sub.cons rfl (Sub.cons rfl (Sub.cons rfl (Sub.cons rfl Sub.nil)))), rfl, hm⟩
        ·
          have hm := iff' hm hb1
          refine CW.exit ?_
          cases hm
          have hm := hk2
          cases hm
          exact ⟨v4, (Sub.cons rfl (Sub.cons rfl Sub.nil)), rfl⟩
  ·
    rintro E σ ⟨v1, hsub3, rfl⟩
    have hm := hk1
    refine CW.weak ?_ hsub3
    refine CW.seq ?_
    refine CW.region ?_
    refine RW.p rfl rfl rfl (Yp.loadBN 1 rfl rfl rfl many26 (Nat.le_of_ble_eq_true rfl)) ?_
    refine RW.u rfl rfl (Yu.storeB 0 rfl rfl rfl rfl sz26 (Pw.agg (PwL.own 2 rfl (PwL.p rfl (PwL.p rfl (PwL.p rfl PwL.nil))))) rfl (Nat.le_of_ble_eq_true rfl)) ?_
    refine RW.nil ?_
    refine CW.frzB 2 0 rfl rfl (VwL.cons (Vw.row 0 rfl) (VwL.cons (Vw.id _) (VwL.cons (Vw.id _) (VwL.cons (Vw.id _) VwL.nil)))) ?_
    refine CW.sayB 0 rfl (VwL.cons (Vw.id _) (VwL.cons (Vw.nil 2 Write.cells) (VwL.cons (Vw.id _) (VwL.cons (Vw.id _) VwL.nil)))) ?_
    refine CW.ret ?_
    cases hm
    exact fin1 (.inr rfl) rfl (ResIs.cellN 0 rfl rfl many26 rfl) (List.nil_sublist _) ⟨rfl, rfl⟩

def m15 (p0 : Int) : Option (List Int) :=
  (m37 ([p0] : List Int) 96).bind fun x1 =>
  some x1

theorem m15_ok (p0 : Int)  {r : List Int} (hm : m15 p0 = some r) : Ab.Fn Try.prog 15 [.n .u8 p0] [] (fun a s => a = .sl 1 (cN .u8) r ∧ s = []) := by
  rw [m15] at hm
  refine Ab.Fn.of Try.func15 rfl rfl rfl (fun C => ?_)
  refine CW.seq ?_
  refine CW.region ?_
  refine RW.p rfl rfl rfl (Yp.assign rfl rfl) ?_
  refine RW.nil ?_
  refine CW.seq ?_
  refine CW.region ?_
  refine RW.p rfl rfl rfl (Yp.move rfl rfl) ?_
  refine RW.v rfl rfl rfl (Yv.lit (cN .u8) ([p0] : List Int) rfl Try.underlying29 sz5 zer5 rfl rfl rfl rfl rfl (fun i hi => by match i, hi with | 0, _ => rfl) (by decide) (by decide)) ?_
  rintro _ _ ⟨v1, rfl, rfl⟩
  refine RW.frz 0 4 rfl rfl (Vw.row 0 rfl) ?_
  obtain ⟨x1, hx1, hm⟩ := bnd hm
  refine RW.c rfl rfl rfl (Yc.fnV (σp := []) (args' := [.sl 1 (cN .u8) ([p0] : List Int), .i 96]) rfl rfl ok37 rfl rfl rfl (VwL.id _) (m37_ok ([p0] : List Int) 96 hx1)) ?_
  rintro _ _ ⟨_, ⟨rfl, rfl⟩, rfl⟩
  refine RW.p rfl rfl rfl (Yp.assign rfl rfl) ?_
  refine RW.nil ?_
  refine CW.ret ?_
  cases hm
  exact fin1 (.inr rfl) rfl (ResIs.tmp rfl) (List.nil_sublist _) ⟨rfl, rfl⟩

def m40_l1 (p0 : Disk) : Nat → (List (List Int)) → Int → Option (List (List Int))
  | 0, _, _ => none
  | k1 + 1, l4, n3 =>
    if (decide (n3 < (p0.fDurable.length : Int))) = true then
      Option.bind (
        if 0 ≤ n3 ∧ n3 < (p0.fDurable.length : Int) then
        (m39 (p0.fDurable[Int.toNat n3]!)).bind fun x1 =>
        if (l4 ++ [x1]).length ≤ 1073741824 then
        some (l4 ++ [x1])
        else none
        else none) fun l6 =>
      m40_l1 p0 k1 l6 (w64 (n3 + 1))
    else
      some l4
def m40_l2 (p0 : Disk) : Nat → (List Write) → Int → Option (List Write)
  | 0, _, _ => none
  | k2 + 1, l10, n6 =>
    if (decide (n6 < (p0.fPending.length : Int))) = true then
      Option.bind (
        if 0 ≤ n6 ∧ n6 < (p0.fPending.length : Int) then
        (m39 ((p0.fPending[Int.toNat n6]!).fData)).bind fun x2 =>
        if (l10 ++ [(Write.mk ((p0.fPending[Int.toNat n6]!).fAt) x2)]).length ≤ 1073741824 then
        some (l10 ++ [(Write.mk ((p0.fPending[Int.toNat n6]!).fAt) x2)])
        else none
        else none) fun l12 =>
      m40_l2 p0 k2 l12 (w64 (n6 + 1))
    else
      some l10
def m40 (p0 : Disk) : Option Disk :=
  Option.bind (
    (m40_l1 p0 (Int.toNat (p0.fDurable.length : Int) + 1) [] 0).bind fun l5 =>
    some l5) fun l1 =>
  Option.bind (
    (m40_l2 p0 (Int.toNat (p0.fPending.length : Int) + 1) [] 0).bind fun l11 =>
    some l11) fun l7 =>
  some (Disk.mk l1 l7 p0.fLeft p0.fDown)

theorem m40_ok (p0 : Disk)  {r : Disk} (hm : m40 p0 = some r) : Ab.Fn Try.prog 40 [.agg [.sl 1 (cL 1 (cN .u8)) p0.fDurable, .sl 2 Write.cells p0.fPending, .i p0.fLeft, .b p0.fDown]] [] (fun a s => a = .agg [.sl 1 (cL 1 (cN .u8)) r.fDurable, .sl 2 Write.cells r.fPending, .i r.fLeft, .b r.fDown] ∧ s = []) := by
  rw [m40] at hm
  refine Ab.Fn.of Try.func40 rfl rfl rfl (fun C => ?_)
  refine CW.seq ?_
  refine CW.region ?_
  refine RW.v rfl rfl rfl (Yv.box rfl rfl (Pw.p rfl)) ?_
  rintro _ _ ⟨b1, rfl, rfl⟩
  refine RW.v rfl rfl rfl (Yv.alloc rfl zerb26) ?_
  rintro _ _ ⟨b2, rfl, rfl⟩
  refine RW.nil ?_
  refine CW.seq ?_
  refine CW.region ?_
  refine RW.p rfl rfl rfl (Yp.loadBN 1 rfl rfl rfl many26 (Nat.le_of_ble_eq_true rfl)) ?_
  refine RW.v rfl rfl rfl (Yv.alloc rfl zerb26) ?_
  rintro _ _ ⟨b3, rfl, rfl⟩
  refine RW.u rfl rfl (Yu.storeB 0 rfl rfl rfl rfl sz26 (Pw.p rfl) rfl (Nat.le_of_ble_eq_true rfl)) ?_
  refine RW.nil ?_
  refine CW.seq ?_
  refine CW.region ?_
  refine RW.p rfl rfl rfl (Yp.fieldP rfl rfl Try.underlying26 rfl sz23) ?_
  refine RW.u rfl rfl (Yu.storeB 0 rfl rfl rfl rfl sz23 (Pw.p rfl) rfl (Nat.le_of_ble_eq_true rfl)) ?_
  refine RW.p rfl rfl rfl (Yp.fieldP rfl rfl Try.underlying26 rfl sz24) ?_
  refine RW.u rfl rfl (Yu.storeB 0 rfl rfl rfl rfl sz24 (Pw.p rfl) rfl (Nat.le_of_ble_eq_true rfl)) ?_
  refine RW.nil ?_
  refine CW.seq ?_
  obtain ⟨l1, hs1, hk1⟩ := bnd hm
  refine CW.cut (fun E σ => ∃ v1 : Value, Sub [(1, .lit (.pointer (some ⟨b1, 0, none⟩))), (2, .lit (.pointer (some ⟨b2, 0, none⟩))), (3, .lit (.pointer (some ⟨b3, 0, none⟩)))] E ∧ σ = [.box b1 26 [.sl 1 (cL 1 (cN .u8)) p0.fDurable, .sl 2 Write.cells p0.fPending, .i p0.fLeft, .b p0.fDown], .box b2 26 [.lit (.slice none 0 0), .lit (.slice none 0 0), .i 0, .b false], .box b3 26 [.lit v1, .lit (.slice none 0 0), .i p0.fLeft, .b p0.fDown], .row v1 29 1 (cL 1 (cN .u8)) l1]) ?_ ?_
  ·
    have hm := hs1
    refine CW.seq ?_
    refine CW.region ?_
    refine RW.p rfl rfl rfl (Yp.fieldP rfl rfl Try.underlying26 rfl sz23) ?_
    refine RW.p rfl rfl rfl (Yp.loadB1 2 rfl rfl rfl one23 rfl) ?_
    refine RW.p rfl rfl rfl (Yp.lenSl rfl rfl Try.underlying23) ?_
    refine RW.p rfl rfl rfl (Yp.move rfl rfl) ?_
    refine RW.nil ?_
    refine CW.block ?_
    refine CW.own none 29 1 (cL 1 (cN .u8)) ?_
    refine CW.sel [3, 2, 1, 0] rfl ?_
    obtain ⟨l5, hs2, hk2⟩ := bnd hm
    refine CW.lp (fun k1 E σ => ∃ l4 : List (List Int), ∃ n3 : Int, ∃ v4 : Value, Sub [(1, .lit (.pointer (some ⟨b1, 0, none⟩))), (2, .lit (.pointer (some ⟨b2, 0, none⟩))), (3, .lit (.pointer (some ⟨b3, 0, none⟩))), (12, .sl 1 (cL 1 (cN .u8)) p0.fDurable), (13, .i (p0.fDurable.length : Int)), (14, .i n3)] E ∧ σ = [.box b1 26 [.sl 1 (cL 1 (cN .u8)) p0.fDurable, .sl 2 Write.cells p0.fPending, .i p0.fLeft, .b p0.fDown], .box b2 26 [.lit (.slice none 0 0), .lit (.slice none 0 0), .i 0, .b false], .box b3 26 [.lit v4, .lit (.slice none 0 0), .i p0.fLeft, .b p0.fDown], .row v4 29 1 (cL 1 (cN .u8)) l4] ∧ m40_l1 p0 k1 l4 n3 = some l5) (Int.toNat (p0.fDurable.length : Int) + 1) ?_ ?_
    · exact ⟨[], 0, (.slice none 0 0), (Sub.cons rfl (Sub.cons rfl (Sub.cons rfl (Sub.cons rfl (Sub.cons rfl (Sub.cons rfl Sub.nil)))))), rfl, hs2⟩
    ·
      rintro k1 E σ ⟨l4, n3, v4, hsub1, rfl, hm⟩
      refine CW.weak ?_ hsub1
      cases k1 with
      | zero => cases hm
      | succ k1 =>
        rw [m40_l1] at hm
        refine CW.seq ?_
        refine CW.region ?_
        refine RW.p rfl rfl rfl (Yp.lss rfl rfl rfl) ?_
        refine RW.nil ?_
        refine CW.seq ?_
        refine CW.cond rfl (fun hb1 => ?_) (fun hb1 => ?_)
        ·
          have hm := ift hm hb1
          refine CW.skip ?_
          refine CW.seq ?_
          obtain ⟨l6, hs3, hk3⟩ := bnd hm
          refine CW.cut (fun E σ => ∃ v6 : Value, Sub [(1, .lit (.pointer (some ⟨b1, 0, none⟩))), (2, .lit (.pointer (some ⟨b2, 0, none⟩))), (3, .lit (.pointer (some ⟨b3, 0, none⟩))), (12, .sl 1 (cL 1 (cN .u8)) p0.fDurable), (13, .i (p0.fDurable.length : Int)), (14, .i n3)] E ∧ σ = [.box b1 26 [.sl 1 (cL 1 (cN .u8)) p0.fDurable, .sl 2 Write.cells p0.fPending, .i p0.fLeft, .b p0.fDown], .box b2 26 [.lit (.slice none 0 0), .lit (.slice none 0 0), .i 0, .b false], .box b3 26 [.lit v6, .lit (.slice none 0 0), .i p0.fLeft, .b p0.fDown], .row v6 29 1 (cL 1 (cN .u8)) l6]) ?_ ?_
          ·
            have hm := hs3
            refine CW.block ?_
            refine CW.seq ?_
            refine CW.region ?_
            obtain ⟨hc1, hm⟩ := chk hm
            refine RW.p rfl rfl rfl (Yp.indexSl rfl rfl rfl Try.underlying23 sz29 hc1) ?_
            refine RW.p rfl rfl rfl (Yp.loadF1 rfl rfl one29 rfl) ?_
            refine RW.p rfl rfl rfl (Yp.assign rfl rfl) ?_
            refine RW.nil ?_
            obtain ⟨x1, hx1, hm⟩ := bnd hm
            obtain ⟨hc2, hm⟩ := chk hm
            refine CW.drawSel 8 rfl [2, 2, 0, 0] [.box b3 26 [.lit v4, .lit (.slice none 0 0), .i p0.fLeft, .b p0.fDown], .row v4 29 1 (cL 1 (cN .u8)) l4] [.box b1 26 [.sl 1 (cL 1 (cN .u8)) p0.fDurable, .sl 2 Write.cells p0.fPending, .i p0.fLeft, .b p0.fDown], .box b2 26 [.lit (.slice none 0 0), .lit (.slice none 0 0), .i 0, .b false]] rfl (by kernel_rfl) ?_
            intro A1 w1 hB1
            refine RH.take 0 rfl (by kernel_rfl) rfl rfl rfl hB1 (Yp.fieldP rfl rfl Try.underlying26 rfl sz23) ?_
            refine RH.take 2 rfl (by kernel_rfl) rfl rfl rfl hB1 (Yp.move rfl rfl) ?_
            refine RH.two 1 3 (by kernel_rfl) ?_ ?_
            ·
              refine RO.p rfl rfl rfl rfl rfl (Yp.loadB1 2 rfl rfl rfl one23 rfl) ?_
              refine RH.one 3 (by kernel_rfl) ?_
              refine RO.c rfl rfl rfl rfl rfl (Yc.fnV (σp := []) (args' := [.sl 1 (cN .u8) (p0.fDurable[Int.toNat n3]!)]) rfl rfl ok39 rfl rfl rfl (VwL.id _) (m39_ok (p0.fDurable[Int.toNat n3]!) hx1)) (fun b hb => absurd hb (by simp [blks])) ?_
              rintro _ _ ⟨_, ⟨rfl, rfl⟩, rfl⟩
              refine RH.one 4 (by kernel_rfl) ?_
              refine RO.v rfl rfl rfl rfl rfl (Yv.lit (cL 1 (cN .u8)) ([x1] : List (List Int)) rfl Try.underlying23 sz29 zer29 rfl rfl rfl rfl rfl (fun i hi => by match i, hi with | 0, _ => rfl) (by decide) (by decide)) (fun b hb => absurd hb (by simp)) ?_
              rintro _ _ ⟨v9, rfl, rfl⟩
              refine RH.one 5 (by kernel_rfl) ?_
              refine RO.v rfl rfl rfl rfl rfl (Yv.app (l := l4) (l2 := ([x1] : List (List Int))) 4 rfl rfl rfl (.inr (.inr ⟨0, _, rfl, rfl⟩)) Try.underlying23 szb29 zer29 rfl rfl (fun _ => rfl) hc2) (inX (r := .row v4 29 1 (cL 1 (cN .u8)) l4) 1 rfl) ?_
              rintro _ _ ⟨v10, rfl, rfl⟩
              refine RH.take 6 rfl (by kernel_rfl) rfl rfl rfl hB1 (Yp.fieldP rfl rfl Try.underlying26 rfl sz23) ?_
              refine RH.one 7 (by kernel_rfl) ?_
              refine RO.u rfl rfl rfl (Yu.storeB 3 rfl rfl rfl rfl sz23 (Pw.own 4 rfl) rfl (Nat.le_of_ble_eq_true rfl)) (inX (r := .box b3 26 [.lit v4, .lit (.slice none 0 0), .i p0.fLeft, .b p0.fDown]) 0 rfl) ?_
              refine RH.sel [1, 1, 1, 1] rfl ?_
              refine RH.done (by kernel_rfl) ?_
              cases hm
              exact ⟨v10, (Sub.cons rfl (Sub.cons rfl (Sub.cons rfl (Sub.cons rfl (Sub.cons rfl (Sub.cons rfl Sub.nil)))))), rfl⟩
            ·
              refine RO.c rfl rfl rfl rfl rfl (Yc.fnV (σp := []) (args' := [.sl 1 (cN .u8) (p0.fDurable[Int.toNat n3]!)]) rfl rfl ok39 rfl rfl rfl (VwL.id _) (m39_ok (p0.fDurable[Int.toNat n3]!) hx1)) (fun b hb => absurd hb (by simp [blks])) ?_
              rintro _ _ ⟨_, ⟨rfl, rfl⟩, rfl⟩
              refine RH.two 1 4 (by kernel_rfl) ?_ ?_
              ·
                refine RO.p rfl rfl rfl rfl rfl (Yp.loadB1 2 rfl rfl rfl one23 rfl) ?_
                refine RH.one 4 (by kernel_rfl) ?_
                refine RO.v rfl rfl rfl rfl rfl (Yv.lit (cL 1 (cN .u8)) ([x1] : List (List Int)) rfl Try.underlying23 sz29 zer29 rfl rfl rfl rfl rfl (fun i hi => by match i, hi with | 0, _ => rfl) (by decide) (by decide)) (fun b hb => absurd hb (by simp)) ?_
                rintro _ _ ⟨v11, rfl, rfl⟩
                refine RH.one 5 (by kernel_rfl) ?_
                refine RO.v rfl rfl rfl rfl rfl (Yv.app (l := l4) (l2 := ([x1] : List (List Int))) 4 rfl rfl rfl (.inr (.inr ⟨0, _, rfl, rfl⟩)) Try.underlying23 szb29 zer29 rfl rfl (fun _ => rfl) hc2) (inX (r := .row v4 29 1 (cL 1 (cN .u8)) l4) 1 rfl) ?_
                rintro _ _ ⟨v12, rfl, rfl⟩
                refine RH.take 6 rfl (by kernel_rfl) rfl rfl rfl hB1 (Yp.fieldP rfl rfl Try.underlying26 rfl sz23) ?_
                refine RH.one 7 (by kernel_rfl) ?_
                refine RO.u rfl rfl rfl (Yu.storeB 3 rfl rfl rfl rfl sz23 (Pw.own 4 rfl) rfl (Nat.le_of_ble_eq_true rfl)) (inX (r := .box b3 26 [.lit v4, .lit (.slice none 0 0), .i p0.fLeft, .b p0.fDown]) 0 rfl) ?_
                refine RH.sel [1, 1, 1, 1] rfl ?_
                refine RH.done (by kernel_rfl) ?_
                cases hm
                exact ⟨v12, (Sub.cons rfl (Sub.cons rfl (Sub.cons rfl (Sub.cons rfl (Sub.cons rfl (Sub.cons rfl Sub.nil)))))), rfl⟩
              ·
                refine RO.v rfl rfl rfl rfl rfl (Yv.lit (cL 1 (cN .u8)) ([x1] : List (List Int)) rfl Try.underlying23 sz29 zer29 rfl rfl rfl rfl rfl (fun i hi => by match i, hi with | 0, _ => rfl) (by decide) (by decide)) (fun b hb => absurd hb (by simp)) ?_
                rintro _ _ ⟨v13, rfl, rfl⟩
                refine RH.one 1 (by kernel_rfl) ?_
                refine RO.p rfl rfl rfl rfl rfl (Yp.loadB1 3 rfl rfl rfl one23 rfl) ?_
                refine RH.one 5 (by kernel_rfl) ?_
                refine RO.v rfl rfl rfl rfl rfl (Yv.app (l := l4) (l2 := ([x1] : List (List Int))) 4 rfl rfl rfl (.inr (.inr ⟨0, _, rfl, rfl⟩)) Try.underlying23 szb29 zer29 rfl rfl (fun _ => rfl) hc2) (inX (r := .row v4 29 1 (cL 1 (cN .u8)) l4) 1 rfl) ?_
                rintro _ _ ⟨v14, rfl, rfl⟩
                refine RH.take 6 rfl (by kernel_rfl) rfl rfl rfl hB1 (Yp.fieldP rfl rfl Try.underlying26 rfl sz23) ?_
                refine RH.one 7 (by kernel_rfl) ?_
                refine RO.u rfl rfl rfl (Yu.storeB 3 rfl rfl rfl rfl sz23 (Pw.own 4 rfl) rfl (Nat.le_of_ble_eq_true rfl)) (inX (r := .box b3 26 [.lit v4, .lit (.slice none 0 0), .i p0.fLeft, .b p0.fDown]) 0 rfl) ?_
                refine RH.sel [1, 1, 1, 1] rfl ?_
                refine RH.done (by kernel_rfl) ?_
                cases hm
                exact ⟨v14, (Sub.cons rfl (Sub.cons rfl (Sub.cons rfl (Sub.cons rfl (Sub.cons rfl (Sub.cons rfl Sub.nil)))))), rfl⟩
          ·
            rintro E σ ⟨v6, hsub2, rfl⟩
            have hm := hk3
            refine CW.weak ?_ hsub2
            refine CW.region ?_
            refine RW.p rfl rfl rfl (Yp.add rfl rfl rfl) ?_
            refine RW.p rfl rfl rfl (Yp.move rfl rfl) ?_
            refine RW.nil ?_
            exact ⟨k1, Nat.lt_succ_self _, _, _, v6, (Sub.cons rfl (Sub.cons rfl (Sub.cons rfl (Sub.cons rfl (Sub.cons rfl (Sub.cons rfl Sub.nil)))))), rfl, hm⟩
        ·
          have hm := iff' hm hb1
          refine CW.exit ?_
          cases hm
          have hm := hk2
          cases hm
          exact ⟨v4, (Sub.cons rfl (Sub.cons rfl (Sub.cons rfl Sub.nil))), rfl⟩
  ·
    rintro E σ ⟨v1, hsub3, rfl⟩
    have hm := hk1
    refine CW.weak ?_ hsub3
    refine CW.seq ?_
    obtain ⟨l7, hs4, hk4⟩ := bnd hm
    refine CW.cut (fun E σ => ∃ v15 : Value, Sub [(2, .lit (.pointer (some ⟨b2, 0, none⟩))), (3, .lit (.pointer (some ⟨b3, 0, none⟩)))] E ∧ σ = [.box b2 26 [.lit (.slice none 0 0), .lit (.slice none 0 0), .i 0, .b false], .box b3 26 [.lit v1, .lit v15, .i p0.fLeft, .b p0.fDown], .row v1 29 1 (cL 1 (cN .u8)) l1, .row v15 56 2 Write.cells l7]) ?_ ?_
    ·
      have hm := hs4
      refine CW.seq ?_
      refine CW.region ?_
      refine RW.p rfl rfl rfl (Yp.fieldP rfl rfl Try.underlying26 rfl sz24) ?_
      refine RW.p rfl rfl rfl (Yp.loadB1 0 rfl rfl rfl one24 rfl) ?_
      refine RW.p rfl rfl rfl (Yp.lenSl rfl rfl Try.underlying24) ?_
      refine RW.p rfl rfl rfl (Yp.move rfl rfl) ?_
      refine RW.nil ?_
      refine CW.block ?_
      refine CW.own none 56 2 Write.cells ?_
      refine CW.sel [2, 2, 2, 0] rfl ?_
      obtain ⟨l11, hs5, hk5⟩ := bnd hm
      refine CW.lp (fun k2 E σ => ∃ l10 : List Write, ∃ n6 : Int, ∃ v18 : Value, Sub [(2, .lit (.pointer (some ⟨b2, 0, none⟩))), (3, .lit (.pointer (some ⟨b3, 0, none⟩))), (27, .sl 2 Write.cells p0.fPending), (28, .i (p0.fPending.length : Int)), (29, .i n6)] E ∧ σ = [.box b2 26 [.lit (.slice none 0 0), .lit (.slice none 0 0), .i 0, .b false], .box b3 26 [.lit v1, .lit v18, .i p0.fLeft, .b p0.fDown], .row v1 29 1 (cL 1 (cN .u8)) l1, .row v18 56 2 Write.cells l10] ∧ m40_l2 p0 k2 l10 n6 = some l11) (Int.toNat (p0.fPending.length : Int) + 1) ?_ ?_
      · exact ⟨[], 0, (.slice none 0 0), (Sub.cons rfl (Sub.cons rfl (Sub.cons rfl (Sub.cons rfl (Sub.cons rfl Sub.nil))))), rfl, hs5⟩
      ·
        rintro k2 E σ ⟨l10, n6, v18, hsub4, rfl, hm⟩
        refine CW.weak ?_ hsub4
        cases k2 with
        | zero => cases hm
        | succ k2 =>
          rw [m40_l2] at hm
          refine CW.seq ?_
          refine CW.region ?_
          refine RW.p rfl rfl rfl (Yp.lss rfl rfl rfl) ?_
          refine RW.nil ?_
          refine CW.seq ?_
          refine CW.cond rfl (fun hb2 => ?_) (fun hb2 => ?_)
          ·
            have hm := ift hm hb2
            refine CW.skip ?_
            refine CW.seq ?_
            obtain ⟨l12, hs6, hk6⟩ := bnd hm
            refine CW.cut (fun E σ => ∃ v20 : Value, Sub [(2, .lit (.pointer (some ⟨b2, 0, none⟩))), (3, .lit (.pointer (some ⟨b3, 0, none⟩))), (27, .sl 2 Write.cells p0.fPending), (28, .i (p0.fPending.length : Int)), (29, .i n6)] E ∧ σ = [.box b2 26 [.lit (.slice none 0 0), .lit (.slice none 0 0), .i 0, .b false], .box b3 26 [.lit v1, .lit v20, .i p0.fLeft, .b p0.fDown], .row v1 29 1 (cL 1 (cN .u8)) l1, .row v20 56 2 Write.cells l12]) ?_ ?_
            ·
              have hm := hs6
              refine CW.block ?_
              refine CW.seq ?_
              refine CW.region ?_
              obtain ⟨hc3, hm⟩ := chk hm
              refine RW.p rfl rfl rfl (Yp.indexSl rfl rfl rfl Try.underlying24 sz56 hc3) ?_
              refine RW.p rfl rfl rfl (Yp.loadFN rfl rfl many56 (Nat.le_of_ble_eq_true rfl)) ?_
              refine RW.v rfl rfl rfl (Yv.alloc rfl zerb56) ?_
              rintro _ _ ⟨b4, rfl, rfl⟩
              refine RW.u rfl rfl (Yu.storeB 0 rfl rfl rfl rfl sz56 (Pw.p rfl) rfl (Nat.le_of_ble_eq_true rfl)) ?_
              refine RW.nil ?_
              obtain ⟨x2, hx2, hm⟩ := bnd hm
              obtain ⟨hc4, hm⟩ := chk hm
              refine CW.drawSel 12 rfl [2, 2, 2, 0, 0] [.box b3 26 [.lit v1, .lit v18, .i p0.fLeft, .b p0.fDown], .row v1 29 1 (cL 1 (cN .u8)) l1, .row v18 56 2 Write.cells l10] [.box b4 56 [.i ((p0.fPending[Int.toNat n6]!).fAt), .sl 1 (cN .u8) ((p0.fPending[Int.toNat n6]!).fData)], .box b2 26 [.lit (.slice none 0 0), .lit (.slice none 0 0), .i 0, .b false]] rfl (by kernel_rfl) ?_
              intro A2 w2 hB2
              refine RH.take 0 rfl (by kernel_rfl) rfl rfl rfl hB2 (Yp.fieldP rfl rfl Try.underlying26 rfl sz24) ?_
              refine RH.take 2 rfl (by kernel_rfl) rfl rfl rfl hB2 (Yp.fieldP rfl rfl Try.underlying56 rfl sz3) ?_
              refine RH.take 3 rfl (by kernel_rfl) rfl rfl rfl hB2 (Yp.loadB1 0 rfl rfl rfl one3 rfl) ?_
              refine RH.take 4 rfl (by kernel_rfl) rfl rfl rfl hB2 (Yp.fieldP rfl rfl Try.underlying56 rfl sz29) ?_
              refine RH.take 5 rfl (by kernel_rfl) rfl rfl rfl hB2 (Yp.loadB1 0 rfl rfl rfl one29 rfl) ?_
              refine RH.two 1 6 (by kernel_rfl) ?_ ?_
              ·
                refine RO.p rfl rfl rfl rfl rfl (Yp.loadB1 2 rfl rfl rfl one24 rfl) ?_
                refine RH.one 6 (by kernel_rfl) ?_
                refine RO.c rfl rfl rfl rfl rfl (Yc.fnV (σp := []) (args' := [.sl 1 (cN .u8) ((p0.fPending[Int.toNat n6]!).fData)]) rfl rfl ok39 rfl rfl rfl (VwL.id _) (m39_ok ((p0.fPending[Int.toNat n6]!).fData) hx2)) (fun b hb => absurd hb (by simp [blks])) ?_
                rintro _ _ ⟨_, ⟨rfl, rfl⟩, rfl⟩
                refine RH.one 7 (by kernel_rfl) ?_
                refine RO.p rfl rfl rfl rfl rfl (Yp.build rfl plc56 zer56 rfl rfl) ?_
                refine RH.one 8 (by kernel_rfl) ?_
                refine RO.v rfl rfl rfl rfl rfl (Yv.lit Write.cells ([(Write.mk ((p0.fPending[Int.toNat n6]!).fAt) x2)] : List Write) rfl Try.underlying24 sz56 zer56 rfl rfl rfl rfl rfl (fun i hi => by match i, hi with | 0, _ => rfl) (by decide) (by decide)) (fun b hb => absurd hb (by simp)) ?_
                rintro _ _ ⟨v23, rfl, rfl⟩
                refine RH.one 9 (by kernel_rfl) ?_
                refine RO.v rfl rfl rfl rfl rfl (Yv.app (l := l10) (l2 := ([(Write.mk ((p0.fPending[Int.toNat n6]!).fAt) x2)] : List Write)) 5 rfl rfl rfl (.inr (.inr ⟨0, _, rfl, rfl⟩)) Try.underlying24 szb56 zer56 rfl rfl (fun _ => rfl) hc4) (inX (r := .row v18 56 2 Write.cells l10) 2 rfl) ?_
                rintro _ _ ⟨v24, rfl, rfl⟩
                refine RH.take 10 rfl (by kernel_rfl) rfl rfl rfl hB2 (Yp.fieldP rfl rfl Try.underlying26 rfl sz24) ?_
                refine RH.one 11 (by kernel_rfl) ?_
                refine RO.u rfl rfl rfl (Yu.storeB 3 rfl rfl rfl rfl sz24 (Pw.own 5 rfl) rfl (Nat.le_of_ble_eq_true rfl)) (inX (r := .box b3 26 [.lit v1, .lit v18, .i p0.fLeft, .b p0.fDown]) 0 rfl) ?_
                refine RH.sel [2, 2, 2, 2] rfl ?_
                refine RH.done (by kernel_rfl) ?_
                cases hm
                exact ⟨v24, (Sub.cons rfl (Sub.cons rfl (Sub.cons rfl (Sub.cons rfl (Sub.cons rfl Sub.nil))))), rfl⟩
              ·
                refine RO.c rfl rfl rfl rfl rfl (Yc.fnV (σp := []) (args' := [.sl 1 (cN .u8) ((p0.fPending[Int.toNat n6]!).fData)]) rfl rfl ok39 rfl rfl rfl (VwL.id _) (m39_ok ((p0.fPending[Int.toNat n6]!).fData) hx2)) (fun b hb => absurd hb (by simp [blks])) ?_
                rintro _ _ ⟨_, ⟨rfl, rfl⟩, rfl⟩
                refine RH.two 1 7 (by kernel_rfl) ?_ ?_
                ·
                  refine RO.p rfl rfl rfl rfl rfl (Yp.loadB1 2 rfl rfl rfl one24 rfl) ?_
                  refine RH.one 7 (by kernel_rfl) ?_
                  refine RO.p rfl rfl rfl rfl rfl (Yp.build rfl plc56 zer56 rfl rfl) ?_
                  refine RH.one 8 (by kernel_rfl) ?_
                  refine RO.v rfl rfl rfl rfl rfl (Yv.lit Write.cells ([(Write.mk ((p0.fPending[Int.toNat n6]!).fAt) x2)] : List Write) rfl Try.underlying24 sz56 zer56 rfl rfl rfl rfl rfl (fun i hi => by match i, hi with | 0, _ => rfl) (by decide) (by decide)) (fun b hb => absurd hb (by simp)) ?_
                  rintro _ _ ⟨v25, rfl, rfl⟩
                  refine RH.one 9 (by kernel_rfl) ?_
                  refine RO.v rfl rfl rfl rfl rfl (Yv.app (l := l10) (l2 := ([(Write.mk ((p0.fPending[Int.toNat n6]!).fAt) x2)] : List Write)) 5 rfl rfl rfl (.inr (.inr ⟨0, _, rfl, rfl⟩)) Try.underlying24 szb56 zer56 rfl rfl (fun _ => rfl) hc4) (inX (r := .row v18 56 2 Write.cells l10) 2 rfl) ?_
                  rintro _ _ ⟨v26, rfl, rfl⟩
                  refine RH.take 10 rfl (by kernel_rfl) rfl rfl rfl hB2 (Yp.fieldP rfl rfl Try.underlying26 rfl sz24) ?_
                  refine RH.one 11 (by kernel_rfl) ?_
                  refine RO.u rfl rfl rfl (Yu.storeB 3 rfl rfl rfl rfl sz24 (Pw.own 5 rfl) rfl (Nat.le_of_ble_eq_true rfl)) (inX (r := .box b3 26 [.lit v1, .lit v18, .i p0.fLeft, .b p0.fDown]) 0 rfl) ?_
                  refine RH.sel [2, 2, 2, 2] rfl ?_
                  refine RH.done (by kernel_rfl) ?_
                  cases hm
                  exact ⟨v26, (Sub.cons rfl (Sub.cons rfl (Sub.cons rfl (Sub.cons rfl (Sub.cons rfl Sub.nil))))), rfl⟩
                ·
                  refine RO.p rfl rfl rfl rfl rfl (Yp.build rfl plc56 zer56 rfl rfl) ?_
                  refine RH.two 1 8 (by kernel_rfl) ?_ ?_
                  ·
                    refine RO.p rfl rfl rfl rfl rfl (Yp.loadB1 2 rfl rfl rfl one24 rfl) ?_
                    refine RH.one 8 (by kernel_rfl) ?_
                    refine RO.v rfl rfl rfl rfl rfl (Yv.lit Write.cells ([(Write.mk ((p0.fPending[Int.toNat n6]!).fAt) x2)] : List Write) rfl Try.underlying24 sz56 zer56 rfl rfl rfl rfl rfl (fun i hi => by match i, hi with | 0, _ => rfl) (by decide) (by decide)) (fun b hb => absurd hb (by simp)) ?_
                    rintro _ _ ⟨v27, rfl, rfl⟩
                    refine RH.one 9 (by kernel_rfl) ?_
                    refine RO.v rfl rfl rfl rfl rfl (Yv.app (l := l10) (l2 := ([(Write.mk ((p0.fPending[Int.toNat n6]!).fAt) x2)] : List Write)) 5 rfl rfl rfl (.inr (.inr ⟨0, _, rfl, rfl⟩)) Try.underlying24 szb56 zer56 rfl rfl (fun _ => rfl) hc4) (inX (r := .row v18 56 2 Write.cells l10) 2 rfl) ?_
                    rintro _ _ ⟨v28, rfl, rfl⟩
                    refine RH.take 10 rfl (by kernel_rfl) rfl rfl rfl hB2 (Yp.fieldP rfl rfl Try.underlying26 rfl sz24) ?_
                    refine RH.one 11 (by kernel_rfl) ?_
                    refine RO.u rfl rfl rfl (Yu.storeB 3 rfl rfl rfl rfl sz24 (Pw.own 5 rfl) rfl (Nat.le_of_ble_eq_true rfl)) (inX (r := .box b3 26 [.lit v1, .lit v18, .i p0.fLeft, .b p0.fDown]) 0 rfl) ?_
                    refine RH.sel [2, 2, 2, 2] rfl ?_
                    refine RH.done (by kernel_rfl) ?_
                    cases hm
                    exact ⟨v28, (Sub.cons rfl (Sub.cons rfl (Sub.cons rfl (Sub.cons rfl (Sub.cons rfl Sub.nil))))), rfl⟩
                  ·
                    refine RO.v rfl rfl rfl rfl rfl (Yv.lit Write.cells ([(Write.mk ((p0.fPending[Int.toNat n6]!).fAt) x2)] : List Write) rfl Try.underlying24 sz56 zer56 rfl rfl rfl rfl rfl (fun i hi => by match i, hi with | 0, _ => rfl) (by decide) (by decide)) (fun b hb => absurd hb (by simp)) ?_
                    rintro _ _ ⟨v29, rfl, rfl⟩
                    refine RH.one 1 (by kernel_rfl) ?_
                    refine RO.p rfl rfl rfl rfl rfl (Yp.loadB1 3 rfl rfl rfl one24 rfl) ?_
                    refine RH.one 9 (by kernel_rfl) ?_
                    refine RO.v rfl rfl rfl rfl rfl (Yv.app (l := l10) (l2 := ([(Write.mk ((p0.fPending[Int.toNat n6]!).fAt) x2)] : List Write)) 5 rfl rfl rfl (.inr (.inr ⟨0, _, rfl, rfl⟩)) Try.underlying24 szb56 zer56 rfl rfl (fun _ => rfl) hc4) (inX (r := .row v18 56 2 Write.cells l10) 2 rfl) ?_
                    rintro _ _ ⟨v30, rfl, rfl⟩
                    refine RH.take 10 rfl (by kernel_rfl) rfl rfl rfl hB2 (Yp.fieldP rfl rfl Try.underlying26 rfl sz24) ?_
                    refine RH.one 11 (by kernel_rfl) ?_
                    refine RO.u rfl rfl rfl (Yu.storeB 3 rfl rfl rfl rfl sz24 (Pw.own 5 rfl) rfl (Nat.le_of_ble_eq_true rfl)) (inX (r := .box b3 26 [.lit v1, .lit v18, .i p0.fLeft, .b p0.fDown]) 0 rfl) ?_
                    refine RH.sel [2, 2, 2, 2] rfl ?_
                    refine RH.done (by kernel_rfl) ?_
                    cases hm
                    exact ⟨v30, (Sub.cons rfl (Sub.cons rfl (Sub.cons rfl (Sub.cons rfl (Sub.cons rfl Sub.nil))))), rfl⟩
            ·
              rintro E σ ⟨v20, hsub5, rfl⟩
              have hm := hk6
              refine CW.weak ?_ hsub5
              refine CW.region ?_
              refine RW.p rfl rfl rfl (Yp.add rfl rfl rfl) ?_
              refine RW.p rfl rfl rfl (Yp.move rfl rfl) ?_
              refine RW.nil ?_
              exact ⟨k2, Nat.lt_succ_self _, _, _, v20, (Sub.cons rfl (Sub.cons rfl (Sub.cons rfl (Sub.cons rfl (Sub.cons rfl Sub.nil))))), rfl, hm⟩
          ·
            have hm := iff' hm hb2
            refine CW.exit ?_
            cases hm
            have hm := hk5
            cases hm
            exact ⟨v18, (Sub.cons rfl (Sub.cons rfl Sub.nil)), rfl⟩
    ·
      rintro E σ ⟨v15, hsub6, rfl⟩
      have hm := hk4
      refine CW.weak ?_ hsub6
      refine CW.seq ?_
      refine CW.region ?_
      refine RW.p rfl rfl rfl (Yp.loadBN 1 rfl rfl rfl many26 (Nat.le_of_ble_eq_true rfl)) ?_
      refine RW.u rfl rfl (Yu.storeB 0 rfl rfl rfl rfl sz26 (Pw.agg (PwL.own 2 rfl (PwL.own 3 rfl (PwL.p rfl (PwL.p rfl PwL.nil))))) rfl (Nat.le_of_ble_eq_true rfl)) ?_
      refine RW.nil ?_
      refine CW.frzB 2 0 rfl rfl (VwL.cons (Vw.row 0 rfl) (VwL.cons (Vw.id _) (VwL.cons (Vw.id _) (VwL.cons (Vw.id _) VwL.nil)))) ?_
      refine CW.frzB 2 0 rfl rfl (VwL.cons (Vw.id _) (VwL.cons (Vw.row 0 rfl) (VwL.cons (Vw.id _) (VwL.cons (Vw.id _) VwL.nil)))) ?_
      refine CW.ret ?_
      cases hm
      exact fin1 (.inr rfl) rfl (ResIs.cellN 0 rfl rfl many26 rfl) (List.nil_sublist _) ⟨rfl, rfl⟩

def m41 (p0 : Disk) : Option (Bool × Disk) :=
  Option.bind (
    if (decide (p0.fLeft = 0)) = true then
      some (Sum.inr (false, (Disk.mk p0.fDurable p0.fPending p0.fLeft true)))
    else
      if (decide ((0 : Int) < p0.fLeft)) = true then
        some (Sum.inl (w64 (p0.fLeft - 1)))
      else
        some (Sum.inl p0.fLeft)) fun o1 =>
  match o1 with
  | .inl n1 =>
    some (true, (Disk.mk p0.fDurable p0.fPending n1 p0.fDown))
  | .inr r =>
    some r

theorem m41_ok (p0 : Disk) (pb0 : Nat) {r : Bool × Disk} (hm : m41 p0 = some r) : Ab.Fn Try.prog 41 [.lit (.pointer (some ⟨pb0, 0, none⟩))] [.box pb0 26 [.sl 1 (cL 1 (cN .u8)) p0.fDurable, .sl 2 Write.cells p0.fPending, .i p0.fLeft, .b p0.fDown]] (fun a s => a = .b r.1 ∧ s = [.box pb0 26 [.sl 1 (cL 1 (cN .u8)) p0.fDurable, .sl 2 Write.cells p0.fPending, .i r.2.fLeft, .b r.2.fDown]]) := by
  rw [m41] at hm
  refine Ab.Fn.of Try.func41 rfl rfl rfl (fun C => ?_)
  refine CW.seq ?_
  refine CW.region ?_
  refine RW.p rfl rfl rfl (Yp.assign rfl rfl) ?_
  refine RW.nil ?_
  refine CW.seq ?_
  obtain ⟨o1, hs1, hk1⟩ := bnd hm
  refine CW.cut (fun E σ => ∃ n1 : Int, o1 = Sum.inl n1 ∧ Sub [(0, .lit (.pointer (some ⟨pb0, 0, none⟩)))] E ∧ σ = [.box pb0 26 [.sl 1 (cL 1 (cN .u8)) p0.fDurable, .sl 2 Write.cells p0.fPending, .i n1, .b p0.fDown]]) ?_ ?_
  ·
    have hm := hs1
    refine CW.block ?_
    refine CW.seq ?_
    refine CW.region ?_
    refine RW.p rfl rfl rfl (Yp.move rfl rfl) ?_
    refine RW.p rfl rfl rfl (Yp.nilCheckP rfl rfl) ?_
    refine RW.p rfl rfl rfl (Yp.fieldP rfl rfl Try.underlying26 rfl sz3) ?_
    refine RW.p rfl rfl rfl (Yp.loadB1 0 rfl rfl rfl one3 rfl) ?_
    refine RW.p rfl rfl rfl (Yp.eql rfl rfl rfl) ?_
    refine RW.p rfl rfl rfl (Yp.assign rfl rfl) ?_
    refine RW.nil ?_
    refine CW.cond rfl (fun hb1 => ?_) (fun hb1 => ?_)
    ·
      have hm := ift hm hb1
      refine CW.seq ?_
      refine CW.region ?_
      refine RW.p rfl rfl rfl (Yp.move rfl rfl) ?_
      refine RW.p rfl rfl rfl (Yp.nilCheckP rfl rfl) ?_
      refine RW.p rfl rfl rfl (Yp.fieldP rfl rfl Try.underlying26 rfl sz4) ?_
      refine RW.u rfl rfl (Yu.storeB 0 rfl rfl rfl rfl sz4 (Pw.p rfl) rfl (Nat.le_of_ble_eq_true rfl)) ?_
      refine RW.nil ?_
      refine CW.seq ?_
      refine CW.region ?_
      refine RW.p rfl rfl rfl (Yp.assign rfl rfl) ?_
      refine RW.nil ?_
      refine CW.ret ?_
      cases hm
      have hm := hk1
      cases hm
      exact fin1 (.inr rfl) rfl (ResIs.tmp rfl) (.cons_cons _ (List.nil_sublist _)) ⟨rfl, rfl⟩
    ·
      have hm := iff' hm hb1
      refine CW.seq ?_
      refine CW.region ?_
      refine RW.p rfl rfl rfl (Yp.move rfl rfl) ?_
      refine RW.p rfl rfl rfl (Yp.nilCheckP rfl rfl) ?_
      refine RW.p rfl rfl rfl (Yp.fieldP rfl rfl Try.underlying26 rfl sz3) ?_
      refine RW.p rfl rfl rfl (Yp.loadB1 0 rfl rfl rfl one3 rfl) ?_
      refine RW.p rfl rfl rfl (Yp.gtr rfl rfl rfl) ?_
      refine RW.p rfl rfl rfl (Yp.assign rfl rfl) ?_
      refine RW.nil ?_
      refine CW.cond rfl (fun hb2 => ?_) (fun hb2 => ?_)
      ·
        have hm := ift hm hb2
        refine CW.region ?_
        refine RW.p rfl rfl rfl (Yp.move rfl rfl) ?_
        refine RW.p rfl rfl rfl (Yp.nilCheckP rfl rfl) ?_
        refine RW.p rfl rfl rfl (Yp.fieldP rfl rfl Try.underlying26 rfl sz3) ?_
        refine RW.p rfl rfl rfl (Yp.loadB1 0 rfl rfl rfl one3 rfl) ?_
        refine RW.p rfl rfl rfl (Yp.sub rfl rfl rfl) ?_
        refine RW.p rfl rfl rfl (Yp.nilCheckP rfl rfl) ?_
        refine RW.p rfl rfl rfl (Yp.fieldP rfl rfl Try.underlying26 rfl sz3) ?_
        refine RW.u rfl rfl (Yu.storeB 0 rfl rfl rfl rfl sz3 (Pw.p rfl) rfl (Nat.le_of_ble_eq_true rfl)) ?_
        refine RW.nil ?_
        cases hm
        exact ⟨_, rfl, (Sub.cons rfl Sub.nil), rfl⟩
      ·
        have hm := iff' hm hb2
        refine CW.skip ?_
        cases hm
        exact ⟨_, rfl, (Sub.cons rfl Sub.nil), rfl⟩
  ·
    rintro E σ ⟨n1, rfl, hsub1, rfl⟩
    have hm := hk1
    refine CW.weak ?_ hsub1
    refine CW.seq ?_
    refine CW.region ?_
    refine RW.p rfl rfl rfl (Yp.assign rfl rfl) ?_
    refine RW.nil ?_
    refine CW.ret ?_
    cases hm
    exact fin1 (.inr rfl) rfl (ResIs.tmp rfl) (.cons_cons _ (List.nil_sublist _)) ⟨rfl, rfl⟩

def m40_1_l1 (p0 : Disk) : Nat → (List (List Int)) → Int → Option (List (List Int))
  | 0, _, _ => none
  | k1 + 1, l4, n3 =>
    if (decide (n3 < (p0.fDurable.length : Int))) = true then
      Option.bind (
        if 0 ≤ n3 ∧ n3 < (p0.fDurable.length : Int) then
        (m39 (p0.fDurable[Int.toNat n3]!)).bind fun x1 =>
        if (l4 ++ [x1]).length ≤ 1073741824 then
        some (l4 ++ [x1])
        else none
        else none) fun l6 =>
      m40_1_l1 p0 k1 l6 (w64 (n3 + 1))
    else
      some l4
def m40_1_l2 (p0 : Disk) : Nat → (List Write) → Int → Option (List Write)
  | 0, _, _ => none
  | k2 + 1, l10, n6 =>
    if (decide (n6 < (p0.fPending.length : Int))) = true then
      Option.bind (
        if 0 ≤ n6 ∧ n6 < (p0.fPending.length : Int) then
        (m39 ((p0.fPending[Int.toNat n6]!).fData)).bind fun x2 =>
        if (l10 ++ [(Write.mk ((p0.fPending[Int.toNat n6]!).fAt) x2)]).length ≤ 1073741824 then
        some (l10 ++ [(Write.mk ((p0.fPending[Int.toNat n6]!).fAt) x2)])
        else none
        else none) fun l12 =>
      m40_1_l2 p0 k2 l12 (w64 (n6 + 1))
    else
      some l10
def m40_1 (p0 : Disk) : Option Disk :=
  Option.bind (
    (m40_1_l1 p0 (Int.toNat (p0.fDurable.length : Int) + 1) [] 0).bind fun l5 =>
    some l5) fun l1 =>
  Option.bind (
    (m40_1_l2 p0 (Int.toNat (p0.fPending.length : Int) + 1) [] 0).bind fun l11 =>
    some l11) fun l7 =>
  some (Disk.mk l1 l7 p0.fLeft p0.fDown)

theorem m40_1_ok (p0 : Disk)  {r : Disk} (hm : m40_1 p0 = some r) : Ab.Fn Try.prog 40 [.agg [.sl 1 (cL 1 (cN .u8)) p0.fDurable, .sl 2 Write.cells p0.fPending, .i p0.fLeft, .b p0.fDown]] [] (fun a s => ∃ w0 : Value, ∃ w1 : Value, a = .agg [.lit w0, .lit w1, .i r.fLeft, .b r.fDown] ∧ s = [.row w0 29 1 (cL 1 (cN .u8)) r.fDurable, .row w1 56 2 Write.cells r.fPending]) := by
  rw [m40_1] at hm
  refine Ab.Fn.of Try.func40 rfl rfl rfl (fun C => ?_)
  refine CW.seq ?_
  refine CW.region ?_
  refine RW.v rfl rfl rfl (Yv.box rfl rfl (Pw.p rfl)) ?_
  rintro _ _ ⟨b1, rfl, rfl⟩
  refine RW.v rfl rfl rfl (Yv.alloc rfl zerb26) ?_
  rintro _ _ ⟨b2, rfl, rfl⟩
  refine RW.nil ?_
  refine CW.seq ?_
  refine CW.region ?_
  refine RW.p rfl rfl rfl (Yp.loadBN 1 rfl rfl rfl many26 (Nat.le_of_ble_eq_true rfl)) ?_
  refine RW.v rfl rfl rfl (Yv.alloc rfl zerb26) ?_
  rintro _ _ ⟨b3, rfl, rfl⟩
  refine RW.u rfl rfl (Yu.storeB 0 rfl rfl rfl rfl sz26 (Pw.p rfl) rfl (Nat.le_of_ble_eq_true rfl)) ?_
  refine RW.nil ?_
  refine CW.seq ?_
  refine CW.region ?_
  refine RW.p rfl rfl rfl (Yp.fieldP rfl rfl Try.underlying26 rfl sz23) ?_
  refine RW.u rfl rfl (Yu.storeB 0 rfl rfl rfl rfl sz23 (Pw.p rfl) rfl (Nat.le_of_ble_eq_true rfl)) ?_
  refine RW.p rfl rfl rfl (Yp.fieldP rfl rfl Try.underlying26 rfl sz24) ?_
  refine RW.u rfl rfl (Yu.storeB 0 rfl rfl rfl rfl sz24 (Pw.p rfl) rfl (Nat.le_of_ble_eq_true rfl)) ?_
  refine RW.nil ?_
  refine CW.seq ?_
  obtain ⟨l1, hs1, hk1⟩ := bnd hm
  refine CW.cut (fun E σ => ∃ v1 : Value, Sub [(1, .lit (.pointer (some ⟨b1, 0, none⟩))), (2, .lit (.pointer (some ⟨b2, 0, none⟩))), (3, .lit (.pointer (some ⟨b3, 0, none⟩)))] E ∧ σ = [.box b1 26 [.sl 1 (cL 1 (cN .u8)) p0.fDurable, .sl 2 Write.cells p0.fPending, .i p0.fLeft, .b p0.fDown], .box b2 26 [.lit (.slice none 0 0), .lit (.slice none 0 0), .i 0, .b false], .box b3 26 [.lit v1, .lit (.slice none 0 0), .i p0.fLeft, .b p0.fDown], .row v1 29 1 (cL 1 (cN .u8)) l1]) ?_ ?_
  ·
    have hm := hs1
    refine CW.seq ?_
    refine CW.region ?_
    refine RW.p rfl rfl rfl (Yp.fieldP rfl rfl Try.underlying26 rfl sz23) ?_
    refine RW.p rfl rfl rfl (Yp.loadB1 2 rfl rfl rfl one23 rfl) ?_
    refine RW.p rfl rfl rfl (Yp.lenSl rfl rfl Try.underlying23) ?_
    refine RW.p rfl rfl rfl (Yp.move rfl rfl) ?_
    refine RW.nil ?_
    refine CW.block ?_
    refine CW.own none 29 1 (cL 1 (cN .u8)) ?_
    refine CW.sel [3, 2, 1, 0] rfl ?_
    obtain ⟨l5, hs2, hk2⟩ := bnd hm
    refine CW.lp (fun k1 E σ => ∃ l4 : List (List Int), ∃ n3 : Int, ∃ v4 : Value, Sub [(1, .lit (.pointer (some ⟨b1, 0, none⟩))), (2, .lit (.pointer (some ⟨b2, 0, none⟩))), (3, .lit (.pointer (some ⟨b3, 0, none⟩))), (12, .sl 1 (cL 1 (cN .u8)) p0.fDurable), (13, .i (p0.fDurable.length : Int)), (14, .i n3)] E ∧ σ = [.box b1 26 [.sl 1 (cL 1 (cN .u8)) p0.fDurable, .sl 2 Write.cells p0.fPending, .i p0.fLeft, .b p0.fDown], .box b2 26 [.lit (.slice none 0 0), .lit (.slice none 0 0), .i 0, .b false], .box b3 26 [.lit v4, .lit (.slice none 0 0), .i p0.fLeft, .b p0.fDown], .row v4 29 1 (cL 1 (cN .u8)) l4] ∧ m40_1_l1 p0 k1 l4 n3 = some l5) (Int.toNat (p0.fDurable.length : Int) + 1) ?_ ?_
    · exact ⟨[], 0, (.slice none 0 0), (Sub.cons rfl (Sub.cons rfl (Sub.cons rfl (Sub.cons rfl (Sub.cons rfl (Sub.cons rfl Sub.nil)))))), rfl, hs2⟩
    ·
      rintro k1 E σ ⟨l4, n3, v4, hsub1, rfl, hm⟩
      refine CW.weak ?_ hsub1
      cases k1 with
      | zero => cases hm
      | succ k1 =>
        rw [m40_1_l1] at hm
        refine CW.seq ?_
        refine CW.region ?_
        refine RW.p rfl rfl rfl (Yp.lss rfl rfl rfl) ?_
        refine RW.nil ?_
        refine CW.seq ?_
        refine CW.cond rfl (fun hb1 => ?_) (fun hb1 => ?_)
        ·
          have hm := ift hm hb1
          refine CW.skip ?_
          refine CW.seq ?_
          obtain ⟨l6, hs3, hk3⟩ := bnd hm
          refine CW.cut (fun E σ => ∃ v6 : Value, Sub [(1, .lit (.pointer (some ⟨b1, 0, none⟩))), (2, .lit (.pointer (some ⟨b2, 0, none⟩))), (3, .lit (.pointer (some ⟨b3, 0, none⟩))), (12, .sl 1 (cL 1 (cN .u8)) p0.fDurable), (13, .i (p0.fDurable.length : Int)), (14, .i n3)] E ∧ σ = [.box b1 26 [.sl 1 (cL 1 (cN .u8)) p0.fDurable, .sl 2 Write.cells p0.fPending, .i p0.fLeft, .b p0.fDown], .box b2 26 [.lit (.slice none 0 0), .lit (.slice none 0 0), .i 0, .b false], .box b3 26 [.lit v6, .lit (.slice none 0 0), .i p0.fLeft, .b p0.fDown], .row v6 29 1 (cL 1 (cN .u8)) l6]) ?_ ?_
          ·
            have hm := hs3
            refine CW.block ?_
            refine CW.seq ?_
            refine CW.region ?_
            obtain ⟨hc1, hm⟩ := chk hm
            refine RW.p rfl rfl rfl (Yp.indexSl rfl rfl rfl Try.underlying23 sz29 hc1) ?_
            refine RW.p rfl rfl rfl (Yp.loadF1 rfl rfl one29 rfl) ?_
            refine RW.p rfl rfl rfl (Yp.assign rfl rfl) ?_
            refine RW.nil ?_
            obtain ⟨x1, hx1, hm⟩ := bnd hm
            obtain ⟨hc2, hm⟩ := chk hm
            refine CW.drawSel 8 rfl [2, 2, 0, 0] [.box b3 26 [.lit v4, .lit (.slice none 0 0), .i p0.fLeft, .b p0.fDown], .row v4 29 1 (cL 1 (cN .u8)) l4] [.box b1 26 [.sl 1 (cL 1 (cN .u8)) p0.fDurable, .sl 2 Write.cells p0.fPending, .i p0.fLeft, .b p0.fDown], .box b2 26 [.lit (.slice none 0 0), .lit (.slice none 0 0), .i 0, .b false]] rfl (by kernel_rfl) ?_
            intro A1 w1 hB1
            refine RH.take 0 rfl (by kernel_rfl) rfl rfl rfl hB1 (Yp.fieldP rfl rfl Try.underlying26 rfl sz23) ?_
            refine RH.take 2 rfl (by kernel_rfl) rfl rfl rfl hB1 (Yp.move rfl rfl) ?_
            refine RH.two 1 3 (by kernel_rfl) ?_ ?_
            ·
              refine RO.p rfl rfl rfl rfl rfl (Yp.loadB1 2 rfl rfl rfl one23 rfl) ?_
              refine RH.one 3 (by kernel_rfl) ?_
              refine RO.c rfl rfl rfl rfl rfl (Yc.fnV (σp := []) (args' := [.sl 1 (cN .u8) (p0.fDurable[Int.toNat n3]!)]) rfl rfl ok39 rfl rfl rfl (VwL.id _) (m39_ok (p0.fDurable[Int.toNat n3]!) hx1)) (fun b hb => absurd hb (by simp [blks])) ?_
              rintro _ _ ⟨_, ⟨rfl, rfl⟩, rfl⟩
              refine RH.one 4 (by kernel_rfl) ?_
              refine RO.v rfl rfl rfl rfl rfl (Yv.lit (cL 1 (cN .u8)) ([x1] : List (List Int)) rfl Try.underlying23 sz29 zer29 rfl rfl rfl rfl rfl (fun i hi => by match i, hi with | 0, _ => rfl) (by decide) (by decide)) (fun b hb => absurd hb (by simp)) ?_
              rintro _ _ ⟨v9, rfl, rfl⟩
              refine RH.one 5 (by kernel_rfl) ?_
              refine RO.v rfl rfl rfl rfl rfl (Yv.app (l := l4) (l2 := ([x1] : List (List Int))) 4 rfl rfl rfl (.inr (.inr ⟨0, _, rfl, rfl⟩)) Try.underlying23 szb29 zer29 rfl rfl (fun _ => rfl) hc2) (inX (r := .row v4 29 1 (cL 1 (cN .u8)) l4) 1 rfl) ?_
              rintro _ _ ⟨v10, rfl, rfl⟩
              refine RH.take 6 rfl (by kernel_rfl) rfl rfl rfl hB1 (Yp.fieldP rfl rfl Try.underlying26 rfl sz23) ?_
              refine RH.one 7 (by kernel_rfl) ?_
              refine RO.u rfl rfl rfl (Yu.storeB 3 rfl rfl rfl rfl sz23 (Pw.own 4 rfl) rfl (Nat.le_of_ble_eq_true rfl)) (inX (r := .box b3 26 [.lit v4, .lit (.slice none 0 0), .i p0.fLeft, .b p0.fDown]) 0 rfl) ?_
              refine RH.sel [1, 1, 1, 1] rfl ?_
              refine RH.done (by kernel_rfl) ?_
              cases hm
              exact ⟨v10, (Sub.cons rfl (Sub.cons rfl (Sub.cons rfl (Sub.cons rfl (Sub.cons rfl (Sub.cons rfl Sub.nil)))))), rfl⟩
            ·
              refine RO.c rfl rfl rfl rfl rfl (Yc.fnV (σp := []) (args' := [.sl 1 (cN .u8) (p0.fDurable[Int.toNat n3]!)]) rfl rfl ok39 rfl rfl rfl (VwL.id _) (m39_ok (p0.fDurable[Int.toNat n3]!) hx1)) (fun b hb => absurd hb (by simp [blks])) ?_
              rintro _ _ ⟨_, ⟨rfl, rfl⟩, rfl⟩
              refine RH.two 1 4 (by kernel_rfl) ?_ ?_
              ·
                refine RO.p rfl rfl rfl rfl rfl (Yp.loadB1 2 rfl rfl rfl one23 rfl) ?_
                refine RH.one 4 (by kernel_rfl) ?_
                refine RO.v rfl rfl rfl rfl rfl (Yv.lit (cL 1 (cN .u8)) ([x1] : List (List Int)) rfl Try.underlying23 sz29 zer29 rfl rfl rfl rfl rfl (fun i hi => by match i, hi with | 0, _ => rfl) (by decide) (by decide)) (fun b hb => absurd hb (by simp)) ?_
                rintro _ _ ⟨v11, rfl, rfl⟩
                refine RH.one 5 (by kernel_rfl) ?_
                refine RO.v rfl rfl rfl rfl rfl (Yv.app (l := l4) (l2 := ([x1] : List (List Int))) 4 rfl rfl rfl (.inr (.inr ⟨0, _, rfl, rfl⟩)) Try.underlying23 szb29 zer29 rfl rfl (fun _ => rfl) hc2) (inX (r := .row v4 29 1 (cL 1 (cN .u8)) l4) 1 rfl) ?_
                rintro _ _ ⟨v12, rfl, rfl⟩
                refine RH.take 6 rfl (by kernel_rfl) rfl rfl rfl hB1 (Yp.fieldP rfl rfl Try.underlying26 rfl sz23) ?_
                refine RH.one 7 (by kernel_rfl) ?_
                refine RO.u rfl rfl rfl (Yu.storeB 3 rfl rfl rfl rfl sz23 (Pw.own 4 rfl) rfl (Nat.le_of_ble_eq_true rfl)) (inX (r := .box b3 26 [.lit v4, .lit (.slice none 0 0), .i p0.fLeft, .b p0.fDown]) 0 rfl) ?_
                refine RH.sel [1, 1, 1, 1] rfl ?_
                refine RH.done (by kernel_rfl) ?_
                cases hm
                exact ⟨v12, (Sub.cons rfl (Sub.cons rfl (Sub.cons rfl (Sub.cons rfl (Sub.cons rfl (Sub.cons rfl Sub.nil)))))), rfl⟩
              ·
                refine RO.v rfl rfl rfl rfl rfl (Yv.lit (cL 1 (cN .u8)) ([x1] : List (List Int)) rfl Try.underlying23 sz29 zer29 rfl rfl rfl rfl rfl (fun i hi => by match i, hi with | 0, _ => rfl) (by decide) (by decide)) (fun b hb => absurd hb (by simp)) ?_
                rintro _ _ ⟨v13, rfl, rfl⟩
                refine RH.one 1 (by kernel_rfl) ?_
                refine RO.p rfl rfl rfl rfl rfl (Yp.loadB1 3 rfl rfl rfl one23 rfl) ?_
                refine RH.one 5 (by kernel_rfl) ?_
                refine RO.v rfl rfl rfl rfl rfl (Yv.app (l := l4) (l2 := ([x1] : List (List Int))) 4 rfl rfl rfl (.inr (.inr ⟨0, _, rfl, rfl⟩)) Try.underlying23 szb29 zer29 rfl rfl (fun _ => rfl) hc2) (inX (r := .row v4 29 1 (cL 1 (cN .u8)) l4) 1 rfl) ?_
                rintro _ _ ⟨v14, rfl, rfl⟩
                refine RH.take 6 rfl (by kernel_rfl) rfl rfl rfl hB1 (Yp.fieldP rfl rfl Try.underlying26 rfl sz23) ?_
                refine RH.one 7 (by kernel_rfl) ?_
                refine RO.u rfl rfl rfl (Yu.storeB 3 rfl rfl rfl rfl sz23 (Pw.own 4 rfl) rfl (Nat.le_of_ble_eq_true rfl)) (inX (r := .box b3 26 [.lit v4, .lit (.slice none 0 0), .i p0.fLeft, .b p0.fDown]) 0 rfl) ?_
                refine RH.sel [1, 1, 1, 1] rfl ?_
                refine RH.done (by kernel_rfl) ?_
                cases hm
                exact ⟨v14, (Sub.cons rfl (Sub.cons rfl (Sub.cons rfl (Sub.cons rfl (Sub.cons rfl (Sub.cons rfl Sub.nil)))))), rfl⟩
          ·
            rintro E σ ⟨v6, hsub2, rfl⟩
            have hm := hk3
            refine CW.weak ?_ hsub2
            refine CW.region ?_
            refine RW.p rfl rfl rfl (Yp.add rfl rfl rfl) ?_
            refine RW.p rfl rfl rfl (Yp.move rfl rfl) ?_
            refine RW.nil ?_
            exact ⟨k1, Nat.lt_succ_self _, _, _, v6, (Sub.cons rfl (Sub.cons rfl (Sub.cons rfl (Sub.cons rfl (Sub.cons rfl (Sub.cons rfl Sub.nil)))))), rfl, hm⟩
        ·
          have hm := iff' hm hb1
          refine CW.exit ?_
          cases hm
          have hm := hk2
          cases hm
          exact ⟨v4, (Sub.cons rfl (Sub.cons rfl (Sub.cons rfl Sub.nil))), rfl⟩
  ·
    rintro E σ ⟨v1, hsub3, rfl⟩
    have hm := hk1
    refine CW.weak ?_ hsub3
    refine CW.seq ?_
    obtain ⟨l7, hs4, hk4⟩ := bnd hm
    refine CW.cut (fun E σ => ∃ v15 : Value, Sub [(2, .lit (.pointer (some ⟨b2, 0, none⟩))), (3, .lit (.pointer (some ⟨b3, 0, none⟩)))] E ∧ σ = [.box b2 26 [.lit (.slice none 0 0), .lit (.slice none 0 0), .i 0, .b false], .box b3 26 [.lit v1, .lit v15, .i p0.fLeft, .b p0.fDown], .row v1 29 1 (cL 1 (cN .u8)) l1, .row v15 56 2 Write.cells l7]) ?_ ?_
    ·
      have hm := hs4
      refine CW.seq ?_
      refine CW.region ?_
      refine RW.p rfl rfl rfl (Yp.fieldP rfl rfl Try.underlying26 rfl sz24) ?_
      refine RW.p rfl rfl rfl (Yp.loadB1 0 rfl rfl rfl one24 rfl) ?_
      refine RW.p rfl rfl rfl (Yp.lenSl rfl rfl Try.underlying24) ?_
      refine RW.p rfl rfl rfl (Yp.move rfl rfl) ?_
      refine RW.nil ?_
      refine CW.block ?_
      refine CW.own none 56 2 Write.cells ?_
      refine CW.sel [2, 2, 2, 0] rfl ?_
      obtain ⟨l11, hs5, hk5⟩ := bnd hm
      refine CW.lp (fun k2 E σ => ∃ l10 : List Write, ∃ n6 : Int, ∃ v18 : Value, Sub [(2, .lit (.pointer (some ⟨b2, 0, none⟩))), (3, .lit (.pointer (some ⟨b3, 0, none⟩))), (27, .sl 2 Write.cells p0.fPending), (28, .i (p0.fPending.length : Int)), (29, .i n6)] E ∧ σ = [.box b2 26 [.lit (.slice none 0 0), .lit (.slice none 0 0), .i 0, .b false], .box b3 26 [.lit v1, .lit v18, .i p0.fLeft, .b p0.fDown], .row v1 29 1 (cL 1 (cN .u8)) l1, .row v18 56 2 Write.cells l10] ∧ m40_1_l2 p0 k2 l10 n6 = some l11) (Int.toNat (p0.fPending.length : Int) + 1) ?_ ?_
      · exact ⟨[], 0, (.slice none 0 0), (Sub.cons rfl (Sub.cons rfl (Sub.cons rfl (Sub.cons rfl (Sub.cons rfl Sub.nil))))), rfl, hs5⟩
      ·
        rintro k2 E σ ⟨l10, n6, v18, hsub4, rfl, hm⟩
        refine CW.weak ?_ hsub4
        cases k2 with
        | zero => cases hm
        | succ k2 =>
          rw [m40_1_l2] at hm
          refine CW.seq ?_
          refine CW.region ?_
          refine RW.p rfl rfl rfl (Yp.lss rfl rfl rfl) ?_
          refine RW.nil ?_
          refine CW.seq ?_
          refine CW.cond rfl (fun hb2 => ?_) (fun hb2 => ?_)
          ·
            have hm := ift hm hb2
            refine CW.skip ?_
            refine CW.seq ?_
            obtain ⟨l12, hs6, hk6⟩ := bnd hm
            refine CW.cut (fun E σ => ∃ v20 : Value, Sub [(2, .lit (.pointer (some ⟨b2, 0, none⟩))), (3, .lit (.pointer (some ⟨b3, 0, none⟩))), (27, .sl 2 Write.cells p0.fPending), (28, .i (p0.fPending.length : Int)), (29, .i n6)] E ∧ σ = [.box b2 26 [.lit (.slice none 0 0), .lit (.slice none 0 0), .i 0, .b false], .box b3 26 [.lit v1, .lit v20, .i p0.fLeft, .b p0.fDown], .row v1 29 1 (cL 1 (cN .u8)) l1, .row v20 56 2 Write.cells l12]) ?_ ?_
            ·
              have hm := hs6
              refine CW.block ?_
              refine CW.seq ?_
              refine CW.region ?_
              obtain ⟨hc3, hm⟩ := chk hm
              refine RW.p rfl rfl rfl (Yp.indexSl rfl rfl rfl Try.underlying24 sz56 hc3) ?_
              refine RW.p rfl rfl rfl (Yp.loadFN rfl rfl many56 (Nat.le_of_ble_eq_true rfl)) ?_
              refine RW.v rfl rfl rfl (Yv.alloc rfl zerb56) ?_
              rintro _ _ ⟨b4, rfl, rfl⟩
              refine RW.u rfl rfl (Yu.storeB 0 rfl rfl rfl rfl sz56 (Pw.p rfl) rfl (Nat.le_of_ble_eq_true rfl)) ?_
              refine RW.nil ?_
              obtain ⟨x2, hx2, hm⟩ := bnd hm
              obtain ⟨hc4, hm⟩ := chk hm
              refine CW.drawSel 12 rfl [2, 2, 2, 0, 0] [.box b3 26 [.lit v1, .lit v18, .i p0.fLeft, .b p0.fDown], .row v1 29 1 (cL 1 (cN .u8)) l1, .row v18 56 2 Write.cells l10] [.box b4 56 [.i ((p0.fPending[Int.toNat n6]!).fAt), .sl 1 (cN .u8) ((p0.fPending[Int.toNat n6]!).fData)], .box b2 26 [.lit (.slice none 0 0), .lit (.slice none 0 0), .i 0, .b false]] rfl (by kernel_rfl) ?_
              intro A2 w2 hB2
              refine RH.take 0 rfl (by kernel_rfl) rfl rfl rfl hB2 (Yp.fieldP rfl rfl Try.underlying26 rfl sz24) ?_
              refine RH.take 2 rfl (by kernel_rfl) rfl rfl rfl hB2 (Yp.fieldP rfl rfl Try.underlying56 rfl sz3) ?_
              refine RH.take 3 rfl (by kernel_rfl) rfl rfl rfl hB2 (Yp.loadB1 0 rfl rfl rfl one3 rfl) ?_
              refine RH.take 4 rfl (by kernel_rfl) rfl rfl rfl hB2 (Yp.fieldP rfl rfl Try.underlying56 rfl sz29) ?_
              refine RH.take 5 rfl (by kernel_rfl) rfl rfl rfl hB2 (Yp.loadB1 0 rfl rfl rfl one29 rfl) ?_
              refine RH.two 1 6 (by kernel_rfl) ?_ ?_
              ·
                refine RO.p rfl rfl rfl rfl rfl (Yp.loadB1 2 rfl rfl rfl one24 rfl) ?_
                refine RH.one 6 (by kernel_rfl) ?_
                refine RO.c rfl rfl rfl rfl rfl (Yc.fnV (σp := []) (args' := [.sl 1 (cN .u8) ((p0.fPending[Int.toNat n6]!).fData)]) rfl rfl ok39 rfl rfl rfl (VwL.id _) (m39_ok ((p0.fPending[Int.toNat n6]!).fData) hx2)) (fun b hb => absurd hb (by simp [blks])) ?_
                rintro _ _ ⟨_, ⟨rfl, rfl⟩, rfl⟩
                refine RH.one 7 (by kernel_rfl) ?_
                refine RO.p rfl rfl rfl rfl rfl (Yp.build rfl plc56 zer56 rfl rfl) ?_
                refine RH.one 8 (by kernel_rfl) ?_
                refine RO.v rfl rfl rfl rfl rfl (Yv.lit Write.cells ([(Write.mk ((p0.fPending[Int.toNat n6]!).fAt) x2)] : List Write) rfl Try.underlying24 sz56 zer56 rfl rfl rfl rfl rfl (fun i hi => by match i, hi with | 0, _ => rfl) (by decide) (by decide)) (fun b hb => absurd hb (by simp)) ?_
                rintro _ _ ⟨v23, rfl, rfl⟩
                refine RH.one 9 (by kernel_rfl) ?_
                refine RO.v rfl rfl rfl rfl rfl (Yv.app (l := l10) (l2 := ([(Write.mk ((p0.fPending[Int.toNat n6]!).fAt) x2)] : List Write)) 5 rfl rfl rfl (.inr (.inr ⟨0, _, rfl, rfl⟩)) Try.underlying24 szb56 zer56 rfl rfl (fun _ => rfl) hc4) (inX (r := .row v18 56 2 Write.cells l10) 2 rfl) ?_
                rintro _ _ ⟨v24, rfl, rfl⟩
                refine RH.take 10 rfl (by kernel_rfl) rfl rfl rfl hB2 (Yp.fieldP rfl rfl Try.underlying26 rfl sz24) ?_
                refine RH.one 11 (by kernel_rfl) ?_
                refine RO.u rfl rfl rfl (Yu.storeB 3 rfl rfl rfl rfl sz24 (Pw.own 5 rfl) rfl (Nat.le_of_ble_eq_true rfl)) (inX (r := .box b3 26 [.lit v1, .lit v18, .i p0.fLeft, .b p0.fDown]) 0 rfl) ?_
                refine RH.sel [2, 2, 2, 2] rfl ?_
                refine RH.done (by kernel_rfl) ?_
                cases hm
                exact ⟨v24, (Sub.cons rfl (Sub.cons rfl (Sub.cons rfl (Sub.cons rfl (Sub.cons rfl Sub.nil))))), rfl⟩
              ·
                refine RO.c rfl rfl rfl rfl rfl (Yc.fnV (σp := []) (args' := [.sl 1 (cN .u8) ((p0.fPending[Int.toNat n6]!).fData)]) rfl rfl ok39 rfl rfl rfl (VwL.id _) (m39_ok ((p0.fPending[Int.toNat n6]!).fData) hx2)) (fun b hb => absurd hb (by simp [blks])) ?_
                rintro _ _ ⟨_, ⟨rfl, rfl⟩, rfl⟩
                refine RH.two 1 7 (by kernel_rfl) ?_ ?_
                ·
                  refine RO.p rfl rfl rfl rfl rfl (Yp.loadB1 2 rfl rfl rfl one24 rfl) ?_
                  refine RH.one 7 (by kernel_rfl) ?_
                  refine RO.p rfl rfl rfl rfl rfl (Yp.build rfl plc56 zer56 rfl rfl) ?_
                  refine RH.one 8 (by kernel_rfl) ?_
                  refine RO.v rfl rfl rfl rfl rfl (Yv.lit Write.cells ([(Write.mk ((p0.fPending[Int.toNat n6]!).fAt) x2)] : List Write) rfl Try.underlying24 sz56 zer56 rfl rfl rfl rfl rfl (fun i hi => by match i, hi with | 0, _ => rfl) (by decide) (by decide)) (fun b hb => absurd hb (by simp)) ?_
                  rintro _ _ ⟨v25, rfl, rfl⟩
                  refine RH.one 9 (by kernel_rfl) ?_
                  refine RO.v rfl rfl rfl rfl rfl (Yv.app (l := l10) (l2 := ([(Write.mk ((p0.fPending[Int.toNat n6]!).fAt) x2)] : List Write)) 5 rfl rfl rfl (.inr (.inr ⟨0, _, rfl, rfl⟩)) Try.underlying24 szb56 zer56 rfl rfl (fun _ => rfl) hc4) (inX (r := .row v18 56 2 Write.cells l10) 2 rfl) ?_
                  rintro _ _ ⟨v26, rfl, rfl⟩
                  refine RH.take 10 rfl (by kernel_rfl) rfl rfl rfl hB2 (Yp.fieldP rfl rfl Try.underlying26 rfl sz24) ?_
                  refine RH.one 11 (by kernel_rfl) ?_
                  refine RO.u rfl rfl rfl (Yu.storeB 3 rfl rfl rfl rfl sz24 (Pw.own 5 rfl) rfl (Nat.le_of_ble_eq_true rfl)) (inX (r := .box b3 26 [.lit v1, .lit v18, .i p0.fLeft, .b p0.fDown]) 0 rfl) ?_
                  refine RH.sel [2, 2, 2, 2] rfl ?_
                  refine RH.done (by kernel_rfl) ?_
                  cases hm
                  exact ⟨v26, (Sub.cons rfl (Sub.cons rfl (Sub.cons rfl (Sub.cons rfl (Sub.cons rfl Sub.nil))))), rfl⟩
                ·
                  refine RO.p rfl rfl rfl rfl rfl (Yp.build rfl plc56 zer56 rfl rfl) ?_
                  refine RH.two 1 8 (by kernel_rfl) ?_ ?_
                  ·
                    refine RO.p rfl rfl rfl rfl rfl (Yp.loadB1 2 rfl rfl rfl one24 rfl) ?_
                    refine RH.one 8 (by kernel_rfl) ?_
                    refine RO.v rfl rfl rfl rfl rfl (Yv.lit Write.cells ([(Write.mk ((p0.fPending[Int.toNat n6]!).fAt) x2)] : List Write) rfl Try.underlying24 sz56 zer56 rfl rfl rfl rfl rfl (fun i hi => by match i, hi with | 0, _ => rfl) (by decide) (by decide)) (fun b hb => absurd hb (by simp)) ?_
                    rintro _ _ ⟨v27, rfl, rfl⟩
                    refine RH.one 9 (by kernel_rfl) ?_
                    refine RO.v rfl rfl rfl rfl rfl (Yv.app (l := l10) (l2 := ([(Write.mk ((p0.fPending[Int.toNat n6]!).fAt) x2)] : List Write)) 5 rfl rfl rfl (.inr (.inr ⟨0, _, rfl, rfl⟩)) Try.underlying24 szb56 zer56 rfl rfl (fun _ => rfl) hc4) (inX (r := .row v18 56 2 Write.cells l10) 2 rfl) ?_
                    rintro _ _ ⟨v28, rfl, rfl⟩
                    refine RH.take 10 rfl (by kernel_rfl) rfl rfl rfl hB2 (Yp.fieldP rfl rfl Try.underlying26 rfl sz24) ?_
                    refine RH.one 11 (by kernel_rfl) ?_
                    refine RO.u rfl rfl rfl (Yu.storeB 3 rfl rfl rfl rfl sz24 (Pw.own 5 rfl) rfl (Nat.le_of_ble_eq_true rfl)) (inX (r := .box b3 26 [.lit v1, .lit v18, .i p0.fLeft, .b p0.fDown]) 0 rfl) ?_
                    refine RH.sel [2, 2, 2, 2] rfl ?_
                    refine RH.done (by kernel_rfl) ?_
                    cases hm
                    exact ⟨v28, (Sub.cons rfl (Sub.cons rfl (Sub.cons rfl (Sub.cons rfl (Sub.cons rfl Sub.nil))))), rfl⟩
                  ·
                    refine RO.v rfl rfl rfl rfl rfl (Yv.lit Write.cells ([(Write.mk ((p0.fPending[Int.toNat n6]!).fAt) x2)] : List Write) rfl Try.underlying24 sz56 zer56 rfl rfl rfl rfl rfl (fun i hi => by match i, hi with | 0, _ => rfl) (by decide) (by decide)) (fun b hb => absurd hb (by simp)) ?_
                    rintro _ _ ⟨v29, rfl, rfl⟩
                    refine RH.one 1 (by kernel_rfl) ?_
                    refine RO.p rfl rfl rfl rfl rfl (Yp.loadB1 3 rfl rfl rfl one24 rfl) ?_
                    refine RH.one 9 (by kernel_rfl) ?_
                    refine RO.v rfl rfl rfl rfl rfl (Yv.app (l := l10) (l2 := ([(Write.mk ((p0.fPending[Int.toNat n6]!).fAt) x2)] : List Write)) 5 rfl rfl rfl (.inr (.inr ⟨0, _, rfl, rfl⟩)) Try.underlying24 szb56 zer56 rfl rfl (fun _ => rfl) hc4) (inX (r := .row v18 56 2 Write.cells l10) 2 rfl) ?_
                    rintro _ _ ⟨v30, rfl, rfl⟩
                    refine RH.take 10 rfl (by kernel_rfl) rfl rfl rfl hB2 (Yp.fieldP rfl rfl Try.underlying26 rfl sz24) ?_
                    refine RH.one 11 (by kernel_rfl) ?_
                    refine RO.u rfl rfl rfl (Yu.storeB 3 rfl rfl rfl rfl sz24 (Pw.own 5 rfl) rfl (Nat.le_of_ble_eq_true rfl)) (inX (r := .box b3 26 [.lit v1, .lit v18, .i p0.fLeft, .b p0.fDown]) 0 rfl) ?_
                    refine RH.sel [2, 2, 2, 2] rfl ?_
                    refine RH.done (by kernel_rfl) ?_
                    cases hm
                    exact ⟨v30, (Sub.cons rfl (Sub.cons rfl (Sub.cons rfl (Sub.cons rfl (Sub.cons rfl Sub.nil))))), rfl⟩
            ·
              rintro E σ ⟨v20, hsub5, rfl⟩
              have hm := hk6
              refine CW.weak ?_ hsub5
              refine CW.region ?_
              refine RW.p rfl rfl rfl (Yp.add rfl rfl rfl) ?_
              refine RW.p rfl rfl rfl (Yp.move rfl rfl) ?_
              refine RW.nil ?_
              exact ⟨k2, Nat.lt_succ_self _, _, _, v20, (Sub.cons rfl (Sub.cons rfl (Sub.cons rfl (Sub.cons rfl (Sub.cons rfl Sub.nil))))), rfl, hm⟩
          ·
            have hm := iff' hm hb2
            refine CW.exit ?_
            cases hm
            have hm := hk5
            cases hm
            exact ⟨v18, (Sub.cons rfl (Sub.cons rfl Sub.nil)), rfl⟩
    ·
      rintro E σ ⟨v15, hsub6, rfl⟩
      have hm := hk4
      refine CW.weak ?_ hsub6
      refine CW.seq ?_
      refine CW.region ?_
      refine RW.p rfl rfl rfl (Yp.loadBN 1 rfl rfl rfl many26 (Nat.le_of_ble_eq_true rfl)) ?_
      refine RW.u rfl rfl (Yu.storeB 0 rfl rfl rfl rfl sz26 (Pw.agg (PwL.own 2 rfl (PwL.own 3 rfl (PwL.p rfl (PwL.p rfl PwL.nil))))) rfl (Nat.le_of_ble_eq_true rfl)) ?_
      refine RW.nil ?_
      refine CW.sel [2, 2, 0] rfl ?_
      refine CW.ret ?_
      cases hm
      exact fin1 (.inr rfl) rfl (ResIs.cellN 2 rfl rfl many26 rfl) (.cons_cons _ (.cons_cons _ (List.nil_sublist _))) ⟨v1, v15, rfl, rfl⟩

def m41_1 (p0 : Disk) : Option (Bool × Disk) :=
  Option.bind (
    if (decide (p0.fLeft = 0)) = true then
      some (Sum.inr (false, (Disk.mk p0.fDurable p0.fPending p0.fLeft true)))
    else
      if (decide ((0 : Int) < p0.fLeft)) = true then
        some (Sum.inl (w64 (p0.fLeft - 1)))
      else
        some (Sum.inl p0.fLeft)) fun o1 =>
  match o1 with
  | .inl n1 =>
    some (true, (Disk.mk p0.fDurable p0.fPending n1 p0.fDown))
  | .inr r =>
    some r

theorem m41_1_ok (p0 : Disk) (pb0 : Nat) (pv0_0 : Value) (pv0_1 : Value) {r : Bool × Disk} (hm : m41_1 p0 = some r) : Ab.Fn Try.prog 41 [.lit (.pointer (some ⟨pb0, 0, none⟩))] [.box pb0 26 [.lit pv0_0, .lit pv0_1, .i p0.fLeft, .b p0.fDown], .row pv0_0 29 1 (cL 1 (cN .u8)) p0.fDurable, .row pv0_1 56 2 Write.cells p0.fPending] (fun a s => a = .b r.1 ∧ s = [.box pb0 26 [.lit pv0_0, .lit pv0_1, .i r.2.fLeft, .b r.2.fDown], .row pv0_0 29 1 (cL 1 (cN .u8)) p0.fDurable, .row pv0_1 56 2 Write.cells p0.fPending]) := by
  rw [m41_1] at hm
  refine Ab.Fn.of Try.func41 rfl rfl rfl (fun C => ?_)
  refine CW.seq ?_
  refine CW.region ?_
  refine RW.p rfl rfl rfl (Yp.assign rfl rfl) ?_
  refine RW.nil ?_
  refine CW.seq ?_
  obtain ⟨o1, hs1, hk1⟩ := bnd hm
  refine CW.cut (fun E σ => ∃ n1 : Int, o1 = Sum.inl n1 ∧ Sub [(0, .lit (.pointer (some ⟨pb0, 0, none⟩)))] E ∧ σ = [.box pb0 26 [.lit pv0_0, .lit pv0_1, .i n1, .b p0.fDown], .row pv0_0 29 1 (cL 1 (cN .u8)) p0.fDurable, .row pv0_1 56 2 Write.cells p0.fPending]) ?_ ?_
  ·
    have hm := hs1
    refine CW.block ?_
    refine CW.seq ?_
    refine CW.region ?_
    refine RW.p rfl rfl rfl (Yp.move rfl rfl) ?_
    refine RW.p rfl rfl rfl (Yp.nilCheckP rfl rfl) ?_
    refine RW.p rfl rfl rfl (Yp.fieldP rfl rfl Try.underlying26 rfl sz3) ?_
    refine RW.p rfl rfl rfl (Yp.loadB1 0 rfl rfl rfl one3 rfl) ?_
    refine RW.p rfl rfl rfl (Yp.eql rfl rfl rfl) ?_
    refine RW.p rfl rfl rfl (Yp.assign rfl rfl) ?_
    refine RW.nil ?_
    refine CW.cond rfl (fun hb1 => ?_) (fun hb1 => ?_)
    ·
      have hm := ift hm hb1
      refine CW.seq ?_
      refine CW.region ?_
      refine RW.p rfl rfl rfl (Yp.move rfl rfl) ?_
      refine RW.p rfl rfl rfl (Yp.nilCheckP rfl rfl) ?_
      refine RW.p rfl rfl rfl (Yp.fieldP rfl rfl Try.underlying26 rfl sz4) ?_
      refine RW.u rfl rfl (Yu.storeB 0 rfl rfl rfl rfl sz4 (Pw.p rfl) rfl (Nat.le_of_ble_eq_true rfl)) ?_
      refine RW.nil ?_
      refine CW.seq ?_
      refine CW.region ?_
      refine RW.p rfl rfl rfl (Yp.assign rfl rfl) ?_
      refine RW.nil ?_
      refine CW.ret ?_
      cases hm
      have hm := hk1
      cases hm
      exact fin1 (.inr rfl) rfl (ResIs.tmp rfl) (.cons_cons _ (.cons_cons _ (.cons_cons _ (List.nil_sublist _)))) ⟨rfl, rfl⟩
    ·
      have hm := iff' hm hb1
      refine CW.seq ?_
      refine CW.region ?_
      refine RW.p rfl rfl rfl (Yp.move rfl rfl) ?_
      refine RW.p rfl rfl rfl (Yp.nilCheckP rfl rfl) ?_
      refine RW.p rfl rfl rfl (Yp.fieldP rfl rfl Try.underlying26 rfl sz3) ?_
      refine RW.p rfl rfl rfl (Yp.loadB1 0 rfl rfl rfl one3 rfl) ?_
      refine RW.p rfl rfl rfl (Yp.gtr rfl rfl rfl) ?_
      refine RW.p rfl rfl rfl (Yp.assign rfl rfl) ?_
      refine RW.nil ?_
      refine CW.cond rfl (fun hb2 => ?_) (fun hb2 => ?_)
      ·
        have hm := ift hm hb2
        refine CW.region ?_
        refine RW.p rfl rfl rfl (Yp.move rfl rfl) ?_
        refine RW.p rfl rfl rfl (Yp.nilCheckP rfl rfl) ?_
        refine RW.p rfl rfl rfl (Yp.fieldP rfl rfl Try.underlying26 rfl sz3) ?_
        refine RW.p rfl rfl rfl (Yp.loadB1 0 rfl rfl rfl one3 rfl) ?_
        refine RW.p rfl rfl rfl (Yp.sub rfl rfl rfl) ?_
        refine RW.p rfl rfl rfl (Yp.nilCheckP rfl rfl) ?_
        refine RW.p rfl rfl rfl (Yp.fieldP rfl rfl Try.underlying26 rfl sz3) ?_
        refine RW.u rfl rfl (Yu.storeB 0 rfl rfl rfl rfl sz3 (Pw.p rfl) rfl (Nat.le_of_ble_eq_true rfl)) ?_
        refine RW.nil ?_
        cases hm
        exact ⟨_, rfl, (Sub.cons rfl Sub.nil), rfl⟩
      ·
        have hm := iff' hm hb2
        refine CW.skip ?_
        cases hm
        exact ⟨_, rfl, (Sub.cons rfl Sub.nil), rfl⟩
  ·
    rintro E σ ⟨n1, rfl, hsub1, rfl⟩
    have hm := hk1
    refine CW.weak ?_ hsub1
    refine CW.seq ?_
    refine CW.region ?_
    refine RW.p rfl rfl rfl (Yp.assign rfl rfl) ?_
    refine RW.nil ?_
    refine CW.ret ?_
    cases hm
    exact fin1 (.inr rfl) rfl (ResIs.tmp rfl) (.cons_cons _ (.cons_cons _ (.cons_cons _ (List.nil_sublist _)))) ⟨rfl, rfl⟩

def m19 (p0 : Disk) (p1 : Int) (p2 : List Int) : Option (Disk × Int) :=
  (m13 p0).bind fun x1 =>
  if (!x1) = true then
    some ((Disk.mk [] [] 0 false), 1)
  else
    (m40_1 p0).bind fun x2 =>
    Option.bind (
      if (decide (p1 < 0)) = true then
        some true
      else
        some (decide ((p0.fDurable.length : Int) ≤ p1))) fun c1 =>
    if c1 = true then
      some (x2, 3)
    else
      if (!decide ((p2.length : Int) = 96)) = true then
        some (x2, 2)
      else
        if p0.fDown = true then
          some (x2, 17)
        else
          if (decide ((p0.fPending.length : Int) = 8192)) = true then
            some (x2, 16)
          else
            (m41_1 x2).bind fun x3 =>
            if (!x3.1) = true then
              some ((Disk.mk x2.fDurable x2.fPending x3.2.fLeft x3.2.fDown), 17)
            else
              Option.bind (
                (m39 p2).bind fun x4 =>
                if (x2.fPending ++ [(Write.mk p1 x4)]).length ≤ 1073741824 then
                some (x2.fPending ++ [(Write.mk p1 x4)])
                else none) fun l1 =>
              some ((Disk.mk x2.fDurable l1 x3.2.fLeft x3.2.fDown), 0)

theorem m19_ok (p0 : Disk) (p1 : Int) (p2 : List Int)  {r : Disk × Int} (hm : m19 p0 p1 p2 = some r) : Ab.Fn Try.prog 19 [.agg [.sl 1 (cL 1 (cN .u8)) p0.fDurable, .sl 2 Write.cells p0.fPending, .i p0.fLeft, .b p0.fDown], .i p1, .sl 1 (cN .u8) p2] [] (fun a s => a = .tup [.agg [.sl 1 (cL 1 (cN .u8)) r.1.fDurable, .sl 2 Write.cells r.1.fPending, .i r.1.fLeft, .b r.1.fDown], .i r.2] ∧ s = []) := by
  rw [m19] at hm
  refine Ab.Fn.of Try.func19 rfl rfl rfl (fun C => ?_)
  refine CW.seq ?_
  refine CW.region ?_
  refine RW.v rfl rfl rfl (Yv.box rfl rfl (Pw.p rfl)) ?_
  rintro _ _ ⟨b1, rfl, rfl⟩
  refine RW.v rfl rfl rfl (Yv.alloc rfl zerb26) ?_
  rintro _ _ ⟨b2, rfl, rfl⟩
  refine RW.p rfl rfl rfl (Yp.assign rfl rfl) ?_
  refine RW.nil ?_
  refine CW.seq ?_
  refine CW.seq ?_
  refine CW.region ?_
  refine RW.p rfl rfl rfl (Yp.loadBN 1 rfl rfl rfl many26 (Nat.le_of_ble_eq_true rfl)) ?_
  obtain ⟨x1, hx1, hm⟩ := bnd hm
  refine RW.c rfl rfl rfl (Yc.fnV (σp := []) (args' := [.agg [.sl 1 (cL 1 (cN .u8)) p0.fDurable, .sl 2 Write.cells p0.fPending, .i p0.fLeft, .b p0.fDown]]) rfl rfl ok13 rfl rfl rfl (VwL.id _) (m13_ok p0 hx1)) ?_
  rintro _ _ ⟨_, ⟨rfl, rfl⟩, rfl⟩
  refine RW.p rfl rfl rfl (Yp.not rfl rfl) ?_
  refine RW.nil ?_
  refine CW.cond rfl (fun hb1 => ?_) (fun hb1 => ?_)
  ·
    have hm := ift hm hb1
    refine CW.seq ?_
    refine CW.region ?_
    refine RW.p rfl rfl rfl (Yp.build rfl plc26 zer26 rfl rfl) ?_
    refine RW.u rfl rfl (Yu.storeB 0 rfl rfl rfl rfl sz26 (Pw.p rfl) rfl (Nat.le_of_ble_eq_true rfl)) ?_
    refine RW.p rfl rfl rfl (Yp.assign rfl rfl) ?_
    refine RW.nil ?_
    refine CW.sayB 0 rfl (VwL.cons (Vw.nil 1 (cL 1 (cN .u8))) (VwL.cons (Vw.nil 2 Write.cells) (VwL.cons (Vw.id _) (VwL.cons (Vw.id _) VwL.nil)))) ?_
    refine CW.ret ?_
    cases hm
    exact fin2 (.inr rfl) rfl (ResIs.cellN 0 rfl rfl many26 rfl) (ResIs.tmp rfl) (List.nil_sublist _) ⟨rfl, rfl⟩
  ·
    have hm := iff' hm hb1
    refine CW.skip ?_
    refine CW.seq ?_
    refine CW.region ?_
    refine RW.p rfl rfl rfl (Yp.loadBN 1 rfl rfl rfl many26 (Nat.le_of_ble_eq_true rfl)) ?_
    obtain ⟨x2, hx2, hm⟩ := bnd hm
    refine RW.c rfl rfl rfl (Yc.fnV (σp := []) (args' := [.agg [.sl 1 (cL 1 (cN .u8)) p0.fDurable, .sl 2 Write.cells p0.fPending, .i p0.fLeft, .b p0.fDown]]) rfl rfl ok40 rfl rfl rfl (VwL.id _) (m40_1_ok p0 hx2)) ?_
    rintro _ _ ⟨_, ⟨v1, v2, rfl, rfl⟩, rfl⟩
    refine RW.v rfl rfl rfl (Yv.alloc rfl zerb26) ?_
    rintro _ _ ⟨b3, rfl, rfl⟩
    refine RW.u rfl rfl (Yu.storeB 0 rfl rfl rfl rfl sz26 (Pw.agg (PwL.own 1 rfl (PwL.own 2 rfl (PwL.p rfl (PwL.p rfl PwL.nil))))) rfl (Nat.le_of_ble_eq_true rfl)) ?_
    refine RW.nil ?_
    refine CW.seq ?_
    refine CW.block ?_
    refine CW.seq ?_
    obtain ⟨c1, hs1, hk1⟩ := bnd hm
    refine CW.cut (fun E σ => Sub [(1, .i p1), (2, .sl 1 (cN .u8) p2), (3, .lit (.pointer (some ⟨b1, 0, none⟩))), (6, .lit (.pointer (some ⟨b2, 0, none⟩))), (8, .lit (.pointer (some ⟨b3, 0, none⟩))), (15, .b c1)] E ∧ σ = [.box b1 26 [.sl 1 (cL 1 (cN .u8)) p0.fDurable, .sl 2 Write.cells p0.fPending, .i p0.fLeft, .b p0.fDown], .box b2 26 [.lit (.slice none 0 0), .lit (.slice none 0 0), .i 0, .b false], .box b3 26 [.lit v1, .lit v2, .i x2.fLeft, .b x2.fDown], .row v1 29 1 (cL 1 (cN .u8)) x2.fDurable, .row v2 56 2 Write.cells x2.fPending]) ?_ ?_
    ·
      have hm := hs1
      refine CW.region ?_
      refine RW.p rfl rfl rfl (Yp.move rfl rfl) ?_
      refine RW.p rfl rfl rfl (Yp.lss rfl rfl rfl) ?_
      refine RW.p rfl rfl rfl (Yp.move rfl rfl) ?_
      rcases Bool.eq_false_or_eq_true (decide (p1 < 0)) with hb2 | hb2
      ·
        have hm := ift hm hb2
        refine RW.eqv 18 rfl (congrArg AV.b hb2) ?_
        refine RW.skip rfl rfl rfl ?_
        refine RW.skip rfl rfl rfl ?_
        refine RW.skip rfl rfl rfl ?_
        refine RW.skip rfl rfl rfl ?_
        refine RW.skip rfl rfl rfl ?_
        refine RW.p rfl rfl rfl (Yp.pickT rfl rfl rfl) ?_
        refine RW.p rfl rfl rfl (Yp.assign rfl rfl) ?_
        refine RW.sel [4, 3, 0, 0, 0] rfl ?_
        refine RW.nil ?_
        cases hm
        exact ⟨(Sub.cons rfl (Sub.cons rfl (Sub.cons rfl (Sub.cons rfl (Sub.cons rfl (Sub.cons rfl Sub.nil)))))), rfl⟩
      ·
        have hm := iff' hm hb2
        refine RW.eqv 18 rfl (congrArg AV.b hb2) ?_
        refine RW.p rfl rfl rfl (Yp.move rfl rfl) ?_
        refine RW.p rfl rfl rfl (Yp.fieldP rfl rfl Try.underlying26 rfl sz23) ?_
        refine RW.p rfl rfl rfl (Yp.loadB1 4 rfl rfl rfl one23 rfl) ?_
        refine RW.p rfl rfl rfl (Yp.lenSl rfl rfl Try.underlying23) ?_
        refine RW.p rfl rfl rfl (Yp.geq rfl rfl rfl) ?_
        refine RW.p rfl rfl rfl (Yp.pickF rfl rfl rfl) ?_
        refine RW.p rfl rfl rfl (Yp.assign rfl rfl) ?_
        refine RW.sel [4, 3, 0, 0, 0] rfl ?_
        refine RW.nil ?_
        cases hm
        exact ⟨(Sub.cons rfl (Sub.cons rfl (Sub.cons rfl (Sub.cons rfl (Sub.cons rfl (Sub.cons rfl Sub.nil)))))), rfl⟩
    ·
      rintro E σ ⟨hsub1, rfl⟩
      have hm := hk1
      refine CW.weak ?_ hsub1
      refine CW.cond rfl (fun hb3 => ?_) (fun hb3 => ?_)
      ·
        have hm := ift hm hb3
        refine CW.seq ?_
        refine CW.region ?_
        refine RW.p rfl rfl rfl (Yp.loadBN 2 rfl rfl rfl many26 (Nat.le_of_ble_eq_true rfl)) ?_
        refine RW.u rfl rfl (Yu.storeB 1 rfl rfl rfl rfl sz26 (Pw.agg (PwL.own 3 rfl (PwL.own 4 rfl (PwL.p rfl (PwL.p rfl PwL.nil))))) rfl (Nat.le_of_ble_eq_true rfl)) ?_
        refine RW.p rfl rfl rfl (Yp.assign rfl rfl) ?_
        refine RW.nil ?_
        refine CW.frzB 3 1 rfl rfl (VwL.cons (Vw.row 0 rfl) (VwL.cons (Vw.id _) (VwL.cons (Vw.id _) (VwL.cons (Vw.id _) VwL.nil)))) ?_
        refine CW.frzB 3 1 rfl rfl (VwL.cons (Vw.id _) (VwL.cons (Vw.row 0 rfl) (VwL.cons (Vw.id _) (VwL.cons (Vw.id _) VwL.nil)))) ?_
        refine CW.ret ?_
        cases hm
        exact fin2 (.inr rfl) rfl (ResIs.cellN 1 rfl rfl many26 rfl) (ResIs.tmp rfl) (List.nil_sublist _) ⟨rfl, rfl⟩
      ·
        have hm := iff' hm hb3
        refine CW.seq ?_
        refine CW.region ?_
        refine RW.p rfl rfl rfl (Yp.move rfl rfl) ?_
        refine RW.p rfl rfl rfl (Yp.lenSl rfl rfl Try.underlying29) ?_
        refine RW.p rfl rfl rfl (Yp.neq rfl rfl rfl) ?_
        refine RW.p rfl rfl rfl (Yp.assign rfl rfl) ?_
        refine RW.nil ?_
        refine CW.cond rfl (fun hb4 => ?_) (fun hb4 => ?_)
        ·
          have hm := ift hm hb4
          refine CW.seq ?_
          refine CW.region ?_
          refine RW.p rfl rfl rfl (Yp.loadBN 2 rfl rfl rfl many26 (Nat.le_of_ble_eq_true rfl)) ?_
          refine RW.u rfl rfl (Yu.storeB 1 rfl rfl rfl rfl sz26 (Pw.agg (PwL.own 3 rfl (PwL.own 4 rfl (PwL.p rfl (PwL.p rfl PwL.nil))))) rfl (Nat.le_of_ble_eq_true rfl)) ?_
          refine RW.p rfl rfl rfl (Yp.assign rfl rfl) ?_
          refine RW.nil ?_
          refine CW.frzB 3 1 rfl rfl (VwL.cons (Vw.row 0 rfl) (VwL.cons (Vw.id _) (VwL.cons (Vw.id _) (VwL.cons (Vw.id _) VwL.nil)))) ?_
          refine CW.frzB 3 1 rfl rfl (VwL.cons (Vw.id _) (VwL.cons (Vw.row 0 rfl) (VwL.cons (Vw.id _) (VwL.cons (Vw.id _) VwL.nil)))) ?_
          refine CW.ret ?_
          cases hm
          exact fin2 (.inr rfl) rfl (ResIs.cellN 1 rfl rfl many26 rfl) (ResIs.tmp rfl) (List.nil_sublist _) ⟨rfl, rfl⟩
        ·
          have hm := iff' hm hb4
          refine CW.seq ?_
          refine CW.region ?_
          refine RW.p rfl rfl rfl (Yp.fieldP rfl rfl Try.underlying26 rfl sz4) ?_
          refine RW.p rfl rfl rfl (Yp.loadB1 0 rfl rfl rfl one4 rfl) ?_
          refine RW.p rfl rfl rfl (Yp.assign rfl rfl) ?_
          refine RW.nil ?_
          refine CW.cond rfl (fun hb5 => ?_) (fun hb5 => ?_)
          ·
            have hm := ift hm hb5
            refine CW.seq ?_
            refine CW.region ?_
            refine RW.p rfl rfl rfl (Yp.loadBN 2 rfl rfl rfl many26 (Nat.le_of_ble_eq_true rfl)) ?_
            refine RW.u rfl rfl (Yu.storeB 1 rfl rfl rfl rfl sz26 (Pw.agg (PwL.own 3 rfl (PwL.own 4 rfl (PwL.p rfl (PwL.p rfl PwL.nil))))) rfl (Nat.le_of_ble_eq_true rfl)) ?_
            refine RW.p rfl rfl rfl (Yp.assign rfl rfl) ?_
            refine RW.nil ?_
            refine CW.frzB 3 1 rfl rfl (VwL.cons (Vw.row 0 rfl) (VwL.cons (Vw.id _) (VwL.cons (Vw.id _) (VwL.cons (Vw.id _) VwL.nil)))) ?_
            refine CW.frzB 3 1 rfl rfl (VwL.cons (Vw.id _) (VwL.cons (Vw.row 0 rfl) (VwL.cons (Vw.id _) (VwL.cons (Vw.id _) VwL.nil)))) ?_
            refine CW.ret ?_
            cases hm
            exact fin2 (.inr rfl) rfl (ResIs.cellN 1 rfl rfl many26 rfl) (ResIs.tmp rfl) (List.nil_sublist _) ⟨rfl, rfl⟩
          ·
            have hm := iff' hm hb5
            refine CW.seq ?_
            refine CW.region ?_
            refine RW.p rfl rfl rfl (Yp.fieldP rfl rfl Try.underlying26 rfl sz24) ?_
            refine RW.p rfl rfl rfl (Yp.loadB1 0 rfl rfl rfl one24 rfl) ?_
            refine RW.p rfl rfl rfl (Yp.lenSl rfl rfl Try.underlying24) ?_
            refine RW.p rfl rfl rfl (Yp.eql rfl rfl rfl) ?_
            refine RW.p rfl rfl rfl (Yp.assign rfl rfl) ?_
            refine RW.nil ?_
            refine CW.cond rfl (fun hb6 => ?_) (fun hb6 => ?_)
            ·
              have hm := ift hm hb6
              refine CW.seq ?_
              refine CW.region ?_
              refine RW.p rfl rfl rfl (Yp.loadBN 2 rfl rfl rfl many26 (Nat.le_of_ble_eq_true rfl)) ?_
              refine RW.u rfl rfl (Yu.storeB 1 rfl rfl rfl rfl sz26 (Pw.agg (PwL.own 3 rfl (PwL.own 4 rfl (PwL.p rfl (PwL.p rfl PwL.nil))))) rfl (Nat.le_of_ble_eq_true rfl)) ?_
              refine RW.p rfl rfl rfl (Yp.assign rfl rfl) ?_
              refine RW.nil ?_
              refine CW.frzB 3 1 rfl rfl (VwL.cons (Vw.row 0 rfl) (VwL.cons (Vw.id _) (VwL.cons (Vw.id _) (VwL.cons (Vw.id _) VwL.nil)))) ?_
              refine CW.frzB 3 1 rfl rfl (VwL.cons (Vw.id _) (VwL.cons (Vw.row 0 rfl) (VwL.cons (Vw.id _) (VwL.cons (Vw.id _) VwL.nil)))) ?_
              refine CW.ret ?_
              cases hm
              exact fin2 (.inr rfl) rfl (ResIs.cellN 1 rfl rfl many26 rfl) (ResIs.tmp rfl) (List.nil_sublist _) ⟨rfl, rfl⟩
            ·
              have hm := iff' hm hb6
              refine CW.seq ?_
              refine CW.region ?_
              refine RW.sel [2, 2, 2, 0, 0] rfl ?_
              obtain ⟨x3, hx3, hm⟩ := bnd hm
              refine RW.c rfl rfl rfl (Yc.fnV (σp := [.box b3 26 [.lit v1, .lit v2, .i x2.fLeft, .b x2.fDown], .row v1 29 1 (cL 1 (cN .u8)) x2.fDurable, .row v2 56 2 Write.cells x2.fPending]) (args' := [.lit (.pointer (some ⟨b3, 0, none⟩))]) rfl rfl ok41 rfl rfl rfl (VwL.id _) (m41_1_ok x2 b3 v1 v2 hx3)) ?_
              rintro _ _ ⟨_, ⟨rfl, rfl⟩, rfl⟩
              refine RW.p rfl rfl rfl (Yp.not rfl rfl) ?_
              refine RW.p rfl rfl rfl (Yp.assign rfl rfl) ?_
              refine RW.nil ?_
              refine CW.cond rfl (fun hb7 => ?_) (fun hb7 => ?_)
              ·
                have hm := ift hm hb7
                refine CW.seq ?_
                refine CW.region ?_
                refine RW.p rfl rfl rfl (Yp.loadBN 0 rfl rfl rfl many26 (Nat.le_of_ble_eq_true rfl)) ?_
                refine RW.u rfl rfl (Yu.storeB 4 rfl rfl rfl rfl sz26 (Pw.agg (PwL.own 1 rfl (PwL.own 2 rfl (PwL.p rfl (PwL.p rfl PwL.nil))))) rfl (Nat.le_of_ble_eq_true rfl)) ?_
                refine RW.p rfl rfl rfl (Yp.assign rfl rfl) ?_
                refine RW.nil ?_
                refine CW.frzB 1 3 rfl rfl (VwL.cons (Vw.row 0 rfl) (VwL.cons (Vw.id _) (VwL.cons (Vw.id _) (VwL.cons (Vw.id _) VwL.nil)))) ?_
                refine CW.frzB 1 2 rfl rfl (VwL.cons (Vw.id _) (VwL.cons (Vw.row 0 rfl) (VwL.cons (Vw.id _) (VwL.cons (Vw.id _) VwL.nil)))) ?_
                refine CW.ret ?_
                cases hm
                exact fin2 (.inr rfl) rfl (ResIs.cellN 2 rfl rfl many26 rfl) (ResIs.tmp rfl) (List.nil_sublist _) ⟨rfl, rfl⟩
              ·
                have hm := iff' hm hb7
                refine CW.skip ?_
                refine CW.seq ?_
                obtain ⟨l1, hs2, hk2⟩ := bnd hm
                refine CW.cut (fun E σ => ∃ v3 : Value, Sub [(6, .lit (.pointer (some ⟨b2, 0, none⟩))), (8, .lit (.pointer (some ⟨b3, 0, none⟩)))] E ∧ σ = [.box b2 26 [.lit (.slice none 0 0), .lit (.slice none 0 0), .i 0, .b false], .box b3 26 [.lit v1, .lit v3, .i x3.2.fLeft, .b x3.2.fDown], .row v1 29 1 (cL 1 (cN .u8)) x2.fDurable, .row v3 56 2 Write.cells l1]) ?_ ?_
                ·
                  have hm := hs2
                  obtain ⟨x4, hx4, hm⟩ := bnd hm
                  obtain ⟨hc1, hm⟩ := chk hm
                  refine CW.drawSel 10 rfl [0, 0, 0, 0, 0] [.box b3 26 [.lit v1, .lit v2, .i x3.2.fLeft, .b x3.2.fDown], .row v1 29 1 (cL 1 (cN .u8)) x2.fDurable, .row v2 56 2 Write.cells x2.fPending] [.box b1 26 [.sl 1 (cL 1 (cN .u8)) p0.fDurable, .sl 2 Write.cells p0.fPending, .i p0.fLeft, .b p0.fDown], .box b2 26 [.lit (.slice none 0 0), .lit (.slice none 0 0), .i 0, .b false]] rfl (by kernel_rfl) ?_
                  intro A1 w1 hB1
                  refine RH.take 0 rfl (by kernel_rfl) rfl rfl rfl hB1 (Yp.fieldP rfl rfl Try.underlying26 rfl sz24) ?_
                  refine RH.take 2 rfl (by kernel_rfl) rfl rfl rfl hB1 (Yp.move rfl rfl) ?_
                  refine RH.take 3 rfl (by kernel_rfl) rfl rfl rfl hB1 (Yp.move rfl rfl) ?_
                  refine RH.two 1 4 (by kernel_rfl) ?_ ?_
                  ·
                    refine RO.p rfl rfl rfl rfl rfl (Yp.loadB1 0 rfl rfl rfl one24 rfl) ?_
                    refine RH.one 4 (by kernel_rfl) ?_
                    refine RO.c rfl rfl rfl rfl rfl (Yc.fnV (σp := []) (args' := [.sl 1 (cN .u8) p2]) rfl rfl ok39 rfl rfl rfl (VwL.id _) (m39_ok p2 hx4)) (fun b hb => absurd hb (by simp [blks])) ?_
                    rintro _ _ ⟨_, ⟨rfl, rfl⟩, rfl⟩
                    refine RH.one 5 (by kernel_rfl) ?_
                    refine RO.p rfl rfl rfl rfl rfl (Yp.build rfl plc56 zer56 rfl rfl) ?_
                    refine RH.one 6 (by kernel_rfl) ?_
                    refine RO.v rfl rfl rfl rfl rfl (Yv.lit Write.cells ([(Write.mk p1 x4)] : List Write) rfl Try.underlying24 sz56 zer56 rfl rfl rfl rfl rfl (fun i hi => by match i, hi with | 0, _ => rfl) (by decide) (by decide)) (fun b hb => absurd hb (by simp)) ?_
                    rintro _ _ ⟨v6, rfl, rfl⟩
                    refine RH.one 7 (by kernel_rfl) ?_
                    refine RO.v rfl rfl rfl rfl rfl (Yv.app (l := x2.fPending) (l2 := ([(Write.mk p1 x4)] : List Write)) 3 rfl rfl rfl (.inr (.inr ⟨0, _, rfl, rfl⟩)) Try.underlying24 szb56 zer56 rfl rfl (fun _ => rfl) hc1) (inX (r := .row v2 56 2 Write.cells x2.fPending) 2 rfl) ?_
                    rintro _ _ ⟨v7, rfl, rfl⟩
                    refine RH.take 8 rfl (by kernel_rfl) rfl rfl rfl hB1 (Yp.fieldP rfl rfl Try.underlying26 rfl sz24) ?_
                    refine RH.one 9 (by kernel_rfl) ?_
                    refine RO.u rfl rfl rfl (Yu.storeB 1 rfl rfl rfl rfl sz24 (Pw.own 3 rfl) rfl (Nat.le_of_ble_eq_true rfl)) (inX (r := .box b3 26 [.lit v1, .lit v2, .i x3.2.fLeft, .b x3.2.fDown]) 0 rfl) ?_
                    refine RH.sel [5, 1, 1, 1] rfl ?_
                    refine RH.done (by kernel_rfl) ?_
                    cases hm
                    exact ⟨v7, (Sub.cons rfl (Sub.cons rfl Sub.nil)), rfl⟩
                  ·
                    refine RO.c rfl rfl rfl rfl rfl (Yc.fnV (σp := []) (args' := [.sl 1 (cN .u8) p2]) rfl rfl ok39 rfl rfl rfl (VwL.id _) (m39_ok p2 hx4)) (fun b hb => absurd hb (by simp [blks])) ?_
                    rintro _ _ ⟨_, ⟨rfl, rfl⟩, rfl⟩
                    refine RH.two 1 5 (by kernel_rfl) ?_ ?_
                    ·
                      refine RO.p rfl rfl rfl rfl rfl (Yp.loadB1 0 rfl rfl rfl one24 rfl) ?_
                      refine RH.one 5 (by kernel_rfl) ?_
                      refine RO.p rfl rfl rfl rfl rfl (Yp.build rfl plc56 zer56 rfl rfl) ?_
                      refine RH.one 6 (by kernel_rfl) ?_
                      refine RO.v rfl rfl rfl rfl rfl (Yv.lit Write.cells ([(Write.mk p1 x4)] : List Write) rfl Try.underlying24 sz56 zer56 rfl rfl rfl rfl rfl (fun i hi => by match i, hi with | 0, _ => rfl) (by decide) (by decide)) (fun b hb => absurd hb (by simp)) ?_
                      rintro _ _ ⟨v8, rfl, rfl⟩
                      refine RH.one 7 (by kernel_rfl) ?_
                      refine RO.v rfl rfl rfl rfl rfl (Yv.app (l := x2.fPending) (l2 := ([(Write.mk p1 x4)] : List Write)) 3 rfl rfl rfl (.inr (.inr ⟨0, _, rfl, rfl⟩)) Try.underlying24 szb56 zer56 rfl rfl (fun _ => rfl) hc1) (inX (r := .row v2 56 2 Write.cells x2.fPending) 2 rfl) ?_
                      rintro _ _ ⟨v9, rfl, rfl⟩
                      refine RH.take 8 rfl (by kernel_rfl) rfl rfl rfl hB1 (Yp.fieldP rfl rfl Try.underlying26 rfl sz24) ?_
                      refine RH.one 9 (by kernel_rfl) ?_
                      refine RO.u rfl rfl rfl (Yu.storeB 1 rfl rfl rfl rfl sz24 (Pw.own 3 rfl) rfl (Nat.le_of_ble_eq_true rfl)) (inX (r := .box b3 26 [.lit v1, .lit v2, .i x3.2.fLeft, .b x3.2.fDown]) 0 rfl) ?_
                      refine RH.sel [5, 1, 1, 1] rfl ?_
                      refine RH.done (by kernel_rfl) ?_
                      cases hm
                      exact ⟨v9, (Sub.cons rfl (Sub.cons rfl Sub.nil)), rfl⟩
                    ·
                      refine RO.p rfl rfl rfl rfl rfl (Yp.build rfl plc56 zer56 rfl rfl) ?_
                      refine RH.two 1 6 (by kernel_rfl) ?_ ?_
                      ·
                        refine RO.p rfl rfl rfl rfl rfl (Yp.loadB1 0 rfl rfl rfl one24 rfl) ?_
                        refine RH.one 6 (by kernel_rfl) ?_
                        refine RO.v rfl rfl rfl rfl rfl (Yv.lit Write.cells ([(Write.mk p1 x4)] : List Write) rfl Try.underlying24 sz56 zer56 rfl rfl rfl rfl rfl (fun i hi => by match i, hi with | 0, _ => rfl) (by decide) (by decide)) (fun b hb => absurd hb (by simp)) ?_
                        rintro _ _ ⟨v10, rfl, rfl⟩
                        refine RH.one 7 (by kernel_rfl) ?_
                        refine RO.v rfl rfl rfl rfl rfl (Yv.app (l := x2.fPending) (l2 := ([(Write.mk p1 x4)] : List Write)) 3 rfl rfl rfl (.inr (.inr ⟨0, _, rfl, rfl⟩)) Try.underlying24 szb56 zer56 rfl rfl (fun _ => rfl) hc1) (inX (r := .row v2 56 2 Write.cells x2.fPending) 2 rfl) ?_
                        rintro _ _ ⟨v11, rfl, rfl⟩
                        refine RH.take 8 rfl (by kernel_rfl) rfl rfl rfl hB1 (Yp.fieldP rfl rfl Try.underlying26 rfl sz24) ?_
                        refine RH.one 9 (by kernel_rfl) ?_
                        refine RO.u rfl rfl rfl (Yu.storeB 1 rfl rfl rfl rfl sz24 (Pw.own 3 rfl) rfl (Nat.le_of_ble_eq_true rfl)) (inX (r := .box b3 26 [.lit v1, .lit v2, .i x3.2.fLeft, .b x3.2.fDown]) 0 rfl) ?_
                        refine RH.sel [5, 1, 1, 1] rfl ?_
                        refine RH.done (by kernel_rfl) ?_
                        cases hm
                        exact ⟨v11, (Sub.cons rfl (Sub.cons rfl Sub.nil)), rfl⟩
                      ·
                        refine RO.v rfl rfl rfl rfl rfl (Yv.lit Write.cells ([(Write.mk p1 x4)] : List Write) rfl Try.underlying24 sz56 zer56 rfl rfl rfl rfl rfl (fun i hi => by match i, hi with | 0, _ => rfl) (by decide) (by decide)) (fun b hb => absurd hb (by simp)) ?_
                        rintro _ _ ⟨v12, rfl, rfl⟩
                        refine RH.one 1 (by kernel_rfl) ?_
                        refine RO.p rfl rfl rfl rfl rfl (Yp.loadB1 1 rfl rfl rfl one24 rfl) ?_
                        refine RH.one 7 (by kernel_rfl) ?_
                        refine RO.v rfl rfl rfl rfl rfl (Yv.app (l := x2.fPending) (l2 := ([(Write.mk p1 x4)] : List Write)) 3 rfl rfl rfl (.inr (.inr ⟨0, _, rfl, rfl⟩)) Try.underlying24 szb56 zer56 rfl rfl (fun _ => rfl) hc1) (inX (r := .row v2 56 2 Write.cells x2.fPending) 2 rfl) ?_
                        rintro _ _ ⟨v13, rfl, rfl⟩
                        refine RH.take 8 rfl (by kernel_rfl) rfl rfl rfl hB1 (Yp.fieldP rfl rfl Try.underlying26 rfl sz24) ?_
                        refine RH.one 9 (by kernel_rfl) ?_
                        refine RO.u rfl rfl rfl (Yu.storeB 1 rfl rfl rfl rfl sz24 (Pw.own 3 rfl) rfl (Nat.le_of_ble_eq_true rfl)) (inX (r := .box b3 26 [.lit v1, .lit v2, .i x3.2.fLeft, .b x3.2.fDown]) 0 rfl) ?_
                        refine RH.sel [5, 1, 1, 1] rfl ?_
                        refine RH.done (by kernel_rfl) ?_
                        cases hm
                        exact ⟨v13, (Sub.cons rfl (Sub.cons rfl Sub.nil)), rfl⟩
                ·
                  rintro E σ ⟨v3, hsub2, rfl⟩
                  have hm := hk2
                  refine CW.weak ?_ hsub2
                  refine CW.seq ?_
                  refine CW.region ?_
                  refine RW.p rfl rfl rfl (Yp.loadBN 1 rfl rfl rfl many26 (Nat.le_of_ble_eq_true rfl)) ?_
                  refine RW.u rfl rfl (Yu.storeB 0 rfl rfl rfl rfl sz26 (Pw.agg (PwL.own 2 rfl (PwL.own 3 rfl (PwL.p rfl (PwL.p rfl PwL.nil))))) rfl (Nat.le_of_ble_eq_true rfl)) ?_
                  refine RW.p rfl rfl rfl (Yp.assign rfl rfl) ?_
                  refine RW.nil ?_
                  refine CW.frzB 2 0 rfl rfl (VwL.cons (Vw.row 0 rfl) (VwL.cons (Vw.id _) (VwL.cons (Vw.id _) (VwL.cons (Vw.id _) VwL.nil)))) ?_
                  refine CW.frzB 2 0 rfl rfl (VwL.cons (Vw.id _) (VwL.cons (Vw.row 0 rfl) (VwL.cons (Vw.id _) (VwL.cons (Vw.id _) VwL.nil)))) ?_
                  refine CW.ret ?_
                  cases hm
                  exact fin2 (.inr rfl) rfl (ResIs.cellN 0 rfl rfl many26 rfl) (ResIs.tmp rfl) (List.nil_sublist _) ⟨rfl, rfl⟩

def m45_1 (p0 : Disk) (p1 : Write) : Option Disk :=
  if 0 ≤ p1.fAt ∧ p1.fAt < (p0.fDurable.length : Int) then
  some (Disk.mk (p0.fDurable.set (Int.toNat p1.fAt) p1.fData) p0.fPending p0.fLeft p0.fDown)
  else none

theorem m45_1_ok (p0 : Disk) (p1 : Write) (pb0 : Nat) (pv0_0 : Value) (pv0_1 : Value) {r : Disk} (hm : m45_1 p0 p1 = some r) : Ab.Fn Try.prog 45 [.lit (.pointer (some ⟨pb0, 0, none⟩)), .agg [.i p1.fAt, .sl 1 (cN .u8) p1.fData]] [.box pb0 26 [.lit pv0_0, .lit pv0_1, .i p0.fLeft, .b p0.fDown], .row pv0_0 29 1 (cL 1 (cN .u8)) p0.fDurable, .row pv0_1 56 2 Write.cells p0.fPending] (fun a s => ∃ w0 : Value, a = .tup [] ∧ s = [.box pb0 26 [.lit w0, .lit pv0_1, .i p0.fLeft, .b p0.fDown], .row w0 29 1 (cL 1 (cN .u8)) r.fDurable, .row pv0_1 56 2 Write.cells p0.fPending]) := by
  rw [m45_1] at hm
  refine Ab.Fn.of Try.func45 rfl rfl rfl (fun C => ?_)
  refine CW.seq ?_
  refine CW.region ?_
  refine RW.v rfl rfl rfl (Yv.box rfl rfl (Pw.p rfl)) ?_
  rintro _ _ ⟨b1, rfl, rfl⟩
  refine RW.nil ?_
  obtain ⟨hc1, hm⟩ := chk hm
  refine CW.drawSel 10 rfl [1, 1, 1, 0] [.box pb0 26 [.lit pv0_0, .lit pv0_1, .i p0.fLeft, .b p0.fDown], .row pv0_0 29 1 (cL 1 (cN .u8)) p0.fDurable, .row pv0_1 56 2 Write.cells p0.fPending] [.box b1 56 [.i p1.fAt, .sl 1 (cN .u8) p1.fData]] rfl (by kernel_rfl) ?_
  intro A1 w1 hB1
  refine RH.take 0 rfl (by kernel_rfl) rfl rfl rfl hB1 (Yp.move rfl rfl) ?_
  refine RH.take 1 rfl (by kernel_rfl) rfl rfl rfl hB1 (Yp.nilCheckP rfl rfl) ?_
  refine RH.take 2 rfl (by kernel_rfl) rfl rfl rfl hB1 (Yp.fieldP rfl rfl Try.underlying26 rfl sz23) ?_
  refine RH.take 4 rfl (by kernel_rfl) rfl rfl rfl hB1 (Yp.fieldP rfl rfl Try.underlying56 rfl sz3) ?_
  refine RH.take 5 rfl (by kernel_rfl) rfl rfl rfl hB1 (Yp.loadB1 0 rfl rfl rfl one3 rfl) ?_
  refine RH.take 6 rfl (by kernel_rfl) rfl rfl rfl hB1 (Yp.fieldP rfl rfl Try.underlying56 rfl sz29) ?_
  refine RH.take 7 rfl (by kernel_rfl) rfl rfl rfl hB1 (Yp.loadB1 0 rfl rfl rfl one29 rfl) ?_
  refine RH.one 3 (by kernel_rfl) ?_
  refine RO.p rfl rfl rfl rfl rfl (Yp.loadB1 1 rfl rfl rfl one23 rfl) ?_
  refine RH.one 8 (by kernel_rfl) ?_
  refine RO.p rfl rfl rfl rfl rfl (Yp.indexRow 2 rfl rfl rfl rfl Try.underlying23 sz29 hc1) ?_
  refine RH.one 9 (by kernel_rfl) ?_
  refine RO.u rfl rfl rfl (Yu.storeR (of := 0) (m := Int.toNat p1.fAt) 2 p1.fData rfl rfl rfl rfl sz29 rfl rfl rfl (by have := hc1; (try simp only [List.length_set] at this); (try simp only [List.length_set]); omega) (by decide) rfl) (inX (r := .row pv0_0 29 1 (cL 1 (cN .u8)) p0.fDurable) 1 rfl) ?_
  refine RH.sel [1, 1, 1] rfl ?_
  refine RH.done (by kernel_rfl) ?_
  cases hm
  exact fin0 (.inl rfl) rfl  (.cons_cons _ (.cons_cons _ (.cons_cons _ (List.nil_sublist _)))) ⟨pv0_0, rfl, rfl⟩

def m24_l1 (p1 : List Bool) (x2 : Disk) : Nat → (List (List Int)) → Int → Option (List (List Int))
  | 0, _, _ => none
  | k1 + 1, l4, n3 =>
    if (decide (n3 < (x2.fPending.length : Int))) = true then
      Option.bind (
        if 0 ≤ n3 ∧ n3 < (x2.fPending.length : Int) then
        Option.bind (
          if (decide (n3 < (p1.length : Int))) = true then
            if 0 ≤ n3 ∧ n3 < (p1.length : Int) then
            some (p1[Int.toNat n3]!)
            else none
          else
            some false) fun c1 =>
        if c1 = true then
          (m45_1 (Disk.mk l4 x2.fPending x2.fLeft x2.fDown) (x2.fPending[Int.toNat n3]!)).bind fun x3 =>
          some x3.fDurable
        else
          some l4
        else none) fun l6 =>
      m24_l1 p1 x2 k1 l6 (w64 (n3 + 1))
    else
      some l4
def m24 (p0 : Disk) (p1 : List Bool) : Option (Disk × Int) :=
  (m13 p0).bind fun x1 =>
  if (!x1) = true then
    some ((Disk.mk [] [] 0 false), 1)
  else
    (m40_1 p0).bind fun x2 =>
    Option.bind (
      (m24_l1 p1 x2 (Int.toNat (x2.fPending.length : Int) + 1) x2.fDurable 0).bind fun l5 =>
      some l5) fun l1 =>
    some ((Disk.mk l1 [] (-1) false), 0)

theorem m24_ok (p0 : Disk) (p1 : List Bool)  {r : Disk × Int} (hm : m24 p0 p1 = some r) : Ab.Fn Try.prog 24 [.agg [.sl 1 (cL 1 (cN .u8)) p0.fDurable, .sl 2 Write.cells p0.fPending, .i p0.fLeft, .b p0.fDown], .sl 1 cB p1] [] (fun a s => a = .tup [.agg [.sl 1 (cL 1 (cN .u8)) r.1.fDurable, .sl 2 Write.cells r.1.fPending, .i r.1.fLeft, .b r.1.fDown], .i r.2] ∧ s = []) := by
  rw [m24] at hm
  refine Ab.Fn.of Try.func24 rfl rfl rfl (fun C => ?_)
  refine CW.seq ?_
  refine CW.region ?_
  refine RW.v rfl rfl rfl (Yv.box rfl rfl (Pw.p rfl)) ?_
  rintro _ _ ⟨b1, rfl, rfl⟩
  refine RW.v rfl rfl rfl (Yv.alloc rfl zerb26) ?_
  rintro _ _ ⟨b2, rfl, rfl⟩
  refine RW.p rfl rfl rfl (Yp.assign rfl rfl) ?_
  refine RW.nil ?_
  refine CW.seq ?_
  refine CW.seq ?_
  refine CW.region ?_
  refine RW.p rfl rfl rfl (Yp.loadBN 1 rfl rfl rfl many26 (Nat.le_of_ble_eq_true rfl)) ?_
  obtain ⟨x1, hx1, hm⟩ := bnd hm
  refine RW.c rfl rfl rfl (Yc.fnV (σp := []) (args' := [.agg [.sl 1 (cL 1 (cN .u8)) p0.fDurable, .sl 2 Write.cells p0.fPending, .i p0.fLeft, .b p0.fDown]]) rfl rfl ok13 rfl rfl rfl (VwL.id _) (m13_ok p0 hx1)) ?_
  rintro _ _ ⟨_, ⟨rfl, rfl⟩, rfl⟩
  refine RW.p rfl rfl rfl (Yp.not rfl rfl) ?_
  refine RW.nil ?_
  refine CW.cond rfl (fun hb1 => ?_) (fun hb1 => ?_)
  ·
    have hm := ift hm hb1
    refine CW.seq ?_
    refine CW.region ?_
    refine RW.p rfl rfl rfl (Yp.build rfl plc26 zer26 rfl rfl) ?_
    refine RW.u rfl rfl (Yu.storeB 0 rfl rfl rfl rfl sz26 (Pw.p rfl) rfl (Nat.le_of_ble_eq_true rfl)) ?_
    refine RW.p rfl rfl rfl (Yp.assign rfl rfl) ?_
    refine RW.nil ?_
    refine CW.sayB 0 rfl (VwL.cons (Vw.nil 1 (cL 1 (cN .u8))) (VwL.cons (Vw.nil 2 Write.cells) (VwL.cons (Vw.id _) (VwL.cons (Vw.id _) VwL.nil)))) ?_
    refine CW.ret ?_
    cases hm
    exact fin2 (.inr rfl) rfl (ResIs.cellN 0 rfl rfl many26 rfl) (ResIs.tmp rfl) (List.nil_sublist _) ⟨rfl, rfl⟩
  ·
    have hm := iff' hm hb1
    refine CW.skip ?_
    refine CW.seq ?_
    refine CW.region ?_
    refine RW.p rfl rfl rfl (Yp.loadBN 1 rfl rfl rfl many26 (Nat.le_of_ble_eq_true rfl)) ?_
    obtain ⟨x2, hx2, hm⟩ := bnd hm
    refine RW.c rfl rfl rfl (Yc.fnV (σp := []) (args' := [.agg [.sl 1 (cL 1 (cN .u8)) p0.fDurable, .sl 2 Write.cells p0.fPending, .i p0.fLeft, .b p0.fDown]]) rfl rfl ok40 rfl rfl rfl (VwL.id _) (m40_1_ok p0 hx2)) ?_
    rintro _ _ ⟨_, ⟨v1, v2, rfl, rfl⟩, rfl⟩
    refine RW.v rfl rfl rfl (Yv.alloc rfl zerb26) ?_
    rintro _ _ ⟨b3, rfl, rfl⟩
    refine RW.u rfl rfl (Yu.storeB 0 rfl rfl rfl rfl sz26 (Pw.agg (PwL.own 1 rfl (PwL.own 2 rfl (PwL.p rfl (PwL.p rfl PwL.nil))))) rfl (Nat.le_of_ble_eq_true rfl)) ?_
    refine RW.nil ?_
    refine CW.seq ?_
    obtain ⟨l1, hs1, hk1⟩ := bnd hm
    refine CW.cut (fun E σ => ∃ v3 : Value, Sub [(4, .lit (.pointer (some ⟨b2, 0, none⟩))), (6, .lit (.pointer (some ⟨b3, 0, none⟩)))] E ∧ σ = [.box b2 26 [.lit (.slice none 0 0), .lit (.slice none 0 0), .i 0, .b false], .box b3 26 [.lit v3, .lit v2, .i x2.fLeft, .b x2.fDown], .row v3 29 1 (cL 1 (cN .u8)) l1, .row v2 56 2 Write.cells x2.fPending]) ?_ ?_
    ·
      have hm := hs1
      refine CW.seq ?_
      refine CW.region ?_
      refine RW.p rfl rfl rfl (Yp.fieldP rfl rfl Try.underlying26 rfl sz24) ?_
      refine RW.p rfl rfl rfl (Yp.loadB1 0 rfl rfl rfl one24 rfl) ?_
      refine RW.p rfl rfl rfl (Yp.lenRow 2 rfl rfl rfl Try.underlying24) ?_
      refine RW.p rfl rfl rfl (Yp.move rfl rfl) ?_
      refine RW.nil ?_
      refine CW.block ?_
      refine CW.sel [3, 0, 0, 0] rfl ?_
      obtain ⟨l5, hs2, hk2⟩ := bnd hm
      refine CW.lp (fun k1 E σ => ∃ l4 : List (List Int), ∃ n3 : Int, ∃ v6 : Value, Sub [(1, .sl 1 cB p1), (4, .lit (.pointer (some ⟨b2, 0, none⟩))), (6, .lit (.pointer (some ⟨b3, 0, none⟩))), (16, .lit v2), (17, .i (x2.fPending.length : Int)), (18, .i n3)] E ∧ σ = [.box b2 26 [.lit (.slice none 0 0), .lit (.slice none 0 0), .i 0, .b false], .box b3 26 [.lit v6, .lit v2, .i x2.fLeft, .b x2.fDown], .row v6 29 1 (cL 1 (cN .u8)) l4, .row v2 56 2 Write.cells x2.fPending] ∧ m24_l1 p1 x2 k1 l4 n3 = some l5) (Int.toNat (x2.fPending.length : Int) + 1) ?_ ?_
      · exact ⟨x2.fDurable, 0, v1, (Sub.cons rfl (Sub.cons rfl (Sub.cons rfl (Sub.cons rfl (Sub.cons rfl (Sub.cons rfl Sub.nil)))))), rfl, hs2⟩
      ·
        rintro k1 E σ ⟨l4, n3, v6, hsub1, rfl, hm⟩
        refine CW.weak ?_ hsub1
        cases k1 with
        | zero => cases hm
        | succ k1 =>
          rw [m24_l1] at hm
          refine CW.seq ?_
          refine CW.region ?_
          refine RW.p rfl rfl rfl (Yp.lss rfl rfl rfl) ?_
          refine RW.nil ?_
          refine CW.seq ?_
          refine CW.cond rfl (fun hb2 => ?_) (fun hb2 => ?_)
          ·
            have hm := ift hm hb2
            refine CW.skip ?_
            refine CW.seq ?_
            obtain ⟨l6, hs3, hk3⟩ := bnd hm
            refine CW.cut (fun E σ => ∃ v8 : Value, Sub [(1, .sl 1 cB p1), (4, .lit (.pointer (some ⟨b2, 0, none⟩))), (6, .lit (.pointer (some ⟨b3, 0, none⟩))), (16, .lit v2), (17, .i (x2.fPending.length : Int)), (18, .i n3)] E ∧ σ = [.box b2 26 [.lit (.slice none 0 0), .lit (.slice none 0 0), .i 0, .b false], .box b3 26 [.lit v8, .lit v2, .i x2.fLeft, .b x2.fDown], .row v8 29 1 (cL 1 (cN .u8)) l6, .row v2 56 2 Write.cells x2.fPending]) ?_ ?_
            ·
              have hm := hs3
              refine CW.block ?_
              refine CW.seq ?_
              refine CW.region ?_
              refine RW.p rfl rfl rfl (Yp.move rfl rfl) ?_
              obtain ⟨hc1, hm⟩ := chk hm
              refine RW.p rfl rfl rfl (Yp.indexRow 3 rfl rfl rfl rfl Try.underlying24 sz56 hc1) ?_
              refine RW.p rfl rfl rfl (Yp.loadRN (of := 0) 3 (Int.toNat n3) rfl rfl rfl many56 rfl (by have := hc1; (try simp only [List.length_set] at this); (try simp only [List.length_set]); omega) (by decide)) ?_
              refine RW.v rfl rfl rfl (Yv.alloc rfl zerb56) ?_
              rintro _ _ ⟨b4, rfl, rfl⟩
              refine RW.p rfl rfl rfl (Yp.assign rfl rfl) ?_
              refine RW.u rfl rfl (Yu.storeB 0 rfl rfl rfl rfl sz56 (Pw.p rfl) rfl (Nat.le_of_ble_eq_true rfl)) ?_
              refine RW.nil ?_
              refine CW.seq ?_
              obtain ⟨c1, hs4, hk4⟩ := bnd hm
              refine CW.cut (fun E σ => Sub [(1, .sl 1 cB p1), (4, .lit (.pointer (some ⟨b2, 0, none⟩))), (6, .lit (.pointer (some ⟨b3, 0, none⟩))), (8, .lit (.pointer (some ⟨b4, 0, none⟩))), (16, .lit v2), (17, .i (x2.fPending.length : Int)), (18, .i n3), (32, .b c1)] E ∧ σ = [.box b2 26 [.lit (.slice none 0 0), .lit (.slice none 0 0), .i 0, .b false], .box b3 26 [.lit v6, .lit v2, .i x2.fLeft, .b x2.fDown], .row v6 29 1 (cL 1 (cN .u8)) l4, .row v2 56 2 Write.cells x2.fPending, .box b4 56 [.i ((x2.fPending[Int.toNat n3]!).fAt), .sl 1 (cN .u8) ((x2.fPending[Int.toNat n3]!).fData)]]) ?_ ?_
              ·
                have hm := hs4
                refine CW.region ?_
                refine RW.p rfl rfl rfl (Yp.move rfl rfl) ?_
                refine RW.p rfl rfl rfl (Yp.move rfl rfl) ?_
                refine RW.p rfl rfl rfl (Yp.lenSl rfl rfl Try.underlying44) ?_
                refine RW.p rfl rfl rfl (Yp.lss rfl rfl rfl) ?_
                refine RW.p rfl rfl rfl (Yp.move rfl rfl) ?_
                rcases Bool.eq_false_or_eq_true (decide (n3 < (p1.length : Int))) with hb3 | hb3
                ·
                  have hm := ift hm hb3
                  refine RW.eqv 27 rfl (congrArg AV.b hb3) ?_
                  refine RW.p rfl rfl rfl (Yp.move rfl rfl) ?_
                  refine RW.p rfl rfl rfl (Yp.move rfl rfl) ?_
                  obtain ⟨hc2, hm⟩ := chk hm
                  refine RW.p rfl rfl rfl (Yp.indexSl rfl rfl rfl Try.underlying44 sz4 hc2) ?_
                  refine RW.p rfl rfl rfl (Yp.loadF1 rfl rfl one4 rfl) ?_
                  refine RW.p rfl rfl rfl (Yp.pickT rfl rfl rfl) ?_
                  refine RW.sel [1, 1, 1, 1, 0] rfl ?_
                  refine RW.nil ?_
                  cases hm
                  exact ⟨(Sub.cons rfl (Sub.cons rfl (Sub.cons rfl (Sub.cons rfl (Sub.cons rfl (Sub.cons rfl (Sub.cons rfl (Sub.cons rfl Sub.nil)))))))), rfl⟩
                ·
                  have hm := iff' hm hb3
                  refine RW.eqv 27 rfl (congrArg AV.b hb3) ?_
                  refine RW.skip rfl rfl rfl ?_
                  refine RW.skip rfl rfl rfl ?_
                  refine RW.skip rfl rfl rfl ?_
                  refine RW.skip rfl rfl rfl ?_
                  refine RW.p rfl rfl rfl (Yp.pickF rfl rfl rfl) ?_
                  refine RW.sel [1, 1, 1, 1, 0] rfl ?_
                  refine RW.nil ?_
                  cases hm
                  exact ⟨(Sub.cons rfl (Sub.cons rfl (Sub.cons rfl (Sub.cons rfl (Sub.cons rfl (Sub.cons rfl (Sub.cons rfl (Sub.cons rfl Sub.nil)))))))), rfl⟩
              ·
                rintro E σ ⟨hsub2, rfl⟩
                have hm := hk4
                refine CW.weak ?_ hsub2
                refine CW.cond rfl (fun hb4 => ?_) (fun hb4 => ?_)
                ·
                  have hm := ift hm hb4
                  refine CW.region ?_
                  refine RW.p rfl rfl rfl (Yp.loadBN 4 rfl rfl rfl many56 (Nat.le_of_ble_eq_true rfl)) ?_
                  refine RW.sel [1, 1, 1, 0, 0] rfl ?_
                  obtain ⟨x3, hx3, hm⟩ := bnd hm
                  refine RW.c rfl rfl rfl (Yc.fnV (σp := [.box b3 26 [.lit v6, .lit v2, .i x2.fLeft, .b x2.fDown], .row v6 29 1 (cL 1 (cN .u8)) l4, .row v2 56 2 Write.cells x2.fPending]) (args' := [.lit (.pointer (some ⟨b3, 0, none⟩)), .agg [.i ((x2.fPending[Int.toNat n3]!).fAt), .sl 1 (cN .u8) ((x2.fPending[Int.toNat n3]!).fData)]]) rfl rfl ok45 rfl rfl rfl (VwL.id _) (m45_1_ok (Disk.mk l4 x2.fPending x2.fLeft x2.fDown) (x2.fPending[Int.toNat n3]!) b3 v6 v2 hx3)) ?_
                  rintro _ _ ⟨_, ⟨v9, rfl, rfl⟩, rfl⟩
                  refine RW.sel [3, 0, 0, 0] rfl ?_
                  refine RW.nil ?_
                  cases hm
                  exact ⟨v9, (Sub.cons rfl (Sub.cons rfl (Sub.cons rfl (Sub.cons rfl (Sub.cons rfl (Sub.cons rfl Sub.nil)))))), rfl⟩
                ·
                  have hm := iff' hm hb4
                  refine CW.sel [0, 0, 0, 0] rfl ?_
                  refine CW.skip ?_
                  cases hm
                  exact ⟨v6, (Sub.cons rfl (Sub.cons rfl (Sub.cons rfl (Sub.cons rfl (Sub.cons rfl (Sub.cons rfl Sub.nil)))))), rfl⟩
            ·
              rintro E σ ⟨v8, hsub3, rfl⟩
              have hm := hk3
              refine CW.weak ?_ hsub3
              refine CW.region ?_
              refine RW.p rfl rfl rfl (Yp.add rfl rfl rfl) ?_
              refine RW.p rfl rfl rfl (Yp.move rfl rfl) ?_
              refine RW.nil ?_
              exact ⟨k1, Nat.lt_succ_self _, _, _, v8, (Sub.cons rfl (Sub.cons rfl (Sub.cons rfl (Sub.cons rfl (Sub.cons rfl (Sub.cons rfl Sub.nil)))))), rfl, hm⟩
          ·
            have hm := iff' hm hb2
            refine CW.exit ?_
            cases hm
            have hm := hk2
            cases hm
            exact ⟨v6, (Sub.cons rfl (Sub.cons rfl Sub.nil)), rfl⟩
    ·
      rintro E σ ⟨v3, hsub4, rfl⟩
      have hm := hk1
      refine CW.weak ?_ hsub4
      refine CW.seq ?_
      refine CW.region ?_
      refine RW.p rfl rfl rfl (Yp.fieldP rfl rfl Try.underlying26 rfl sz24) ?_
      refine RW.u rfl rfl (Yu.storeB 1 rfl rfl rfl rfl sz24 (Pw.p rfl) rfl (Nat.le_of_ble_eq_true rfl)) ?_
      refine RW.p rfl rfl rfl (Yp.fieldP rfl rfl Try.underlying26 rfl sz3) ?_
      refine RW.u rfl rfl (Yu.storeB 1 rfl rfl rfl rfl sz3 (Pw.p rfl) rfl (Nat.le_of_ble_eq_true rfl)) ?_
      refine RW.p rfl rfl rfl (Yp.fieldP rfl rfl Try.underlying26 rfl sz4) ?_
      refine RW.u rfl rfl (Yu.storeB 1 rfl rfl rfl rfl sz4 (Pw.p rfl) rfl (Nat.le_of_ble_eq_true rfl)) ?_
      refine RW.nil ?_
      refine CW.seq ?_
      refine CW.region ?_
      refine RW.p rfl rfl rfl (Yp.loadBN 1 rfl rfl rfl many26 (Nat.le_of_ble_eq_true rfl)) ?_
      refine RW.u rfl rfl (Yu.storeB 0 rfl rfl rfl rfl sz26 (Pw.agg (PwL.own 2 rfl (PwL.p rfl (PwL.p rfl (PwL.p rfl PwL.nil))))) rfl (Nat.le_of_ble_eq_true rfl)) ?_
      refine RW.p rfl rfl rfl (Yp.assign rfl rfl) ?_
      refine RW.nil ?_
      refine CW.frzB 2 0 rfl rfl (VwL.cons (Vw.row 0 rfl) (VwL.cons (Vw.id _) (VwL.cons (Vw.id _) (VwL.cons (Vw.id _) VwL.nil)))) ?_
      refine CW.sayB 0 rfl (VwL.cons (Vw.id _) (VwL.cons (Vw.nil 2 Write.cells) (VwL.cons (Vw.id _) (VwL.cons (Vw.id _) VwL.nil)))) ?_
      refine CW.ret ?_
      cases hm
      exact fin2 (.inr rfl) rfl (ResIs.cellN 0 rfl rfl many26 rfl) (ResIs.tmp rfl) (List.nil_sublist _) ⟨rfl, rfl⟩

def m14 (p0 : List Int) (p1 : List Int) : Option Bool :=
  some ((strOfNums p0).toList == (strOfNums p1).toList)

theorem m14_ok (p0 : List Int) (p1 : List Int)  {r : Bool} (hm : m14 p0 p1 = some r) : Ab.Fn Try.prog 14 [.sl 1 (cN .u8) p0, .sl 1 (cN .u8) p1] [] (fun a s => a = .b r ∧ s = []) := by
  rw [m14] at hm
  refine Ab.Fn.of Try.func14 rfl rfl rfl (fun C => ?_)
  refine CW.seq ?_
  refine CW.region ?_
  refine RW.p rfl rfl rfl (Yp.assign rfl rfl) ?_
  refine RW.nil ?_
  refine CW.seq ?_
  refine CW.region ?_
  refine RW.p rfl rfl rfl (Yp.move rfl rfl) ?_
  refine RW.p rfl rfl rfl (Yp.b2s (l := p0) rfl (.inr (.inl rfl)) Try.underlying29 Try.underlying5 Try.underlying9) ?_
  refine RW.p rfl rfl rfl (Yp.move rfl rfl) ?_
  refine RW.p rfl rfl rfl (Yp.b2s (l := p1) rfl (.inr (.inl rfl)) Try.underlying29 Try.underlying5 Try.underlying9) ?_
  refine RW.p rfl rfl rfl (Yp.seql rfl rfl rfl) ?_
  refine RW.p rfl rfl rfl (Yp.assign rfl rfl) ?_
  refine RW.nil ?_
  refine CW.ret ?_
  cases hm
  exact fin1 (.inr rfl) rfl (ResIs.tmp rfl) (List.nil_sublist _) ⟨rfl, rfl⟩

def m11  : Option Bool :=
  (m12 2).bind fun x1 =>
  Option.bind (
    (m15 7).bind fun x2 =>
    (m19 x1 1 x2).bind fun x3 =>
    some (x3.1.fDurable, x3.1.fPending, x3.1.fLeft, x3.1.fDown, x3.2)) fun (l1, l2, n1, c1, n2) =>
  if (!decide (n2 = 0)) = true then
    some false
  else
    (m17 (Disk.mk l1 l2 n1 c1) 1).bind fun x4 =>
    (m24 (Disk.mk l1 l2 n1 c1) []).bind fun x5 =>
    (m17 x5.1 1).bind fun x6 =>
    (m15 7).bind fun x7 =>
    (m19 (Disk.mk [] [] 0 false) 0 x7).bind fun x8 =>
    Option.bind (
      if (decide (x4.2 = 0)) = true then
        (m15 7).bind fun x9 =>
        (m14 x4.1 x9).bind fun x10 =>
        if x10 = true then
          if (decide (x5.2 = 0)) = true then
            if (decide (x6.2 = 0)) = true then
              (m15 0).bind fun x11 =>
              (m14 x6.1 x11).bind fun x12 =>
              if x12 = true then
                some (decide (x8.2 = 1))
              else
                some false
            else
              some false
          else
            some false
        else
          some false
      else
        some false) fun c2 =>
    some c2

theorem m11_ok   {r : Bool} (hm : m11  = some r) : Ab.Fn Try.prog 11 [] [] (fun a s => a = .b r ∧ s = []) := by
  rw [m11] at hm
  refine Ab.Fn.of Try.func11 rfl rfl rfl (fun C => ?_)
  refine CW.seq ?_
  refine CW.region ?_
  refine RW.p rfl rfl rfl (Yp.assign rfl rfl) ?_
  refine RW.nil ?_
  refine CW.seq ?_
  refine CW.region ?_
  obtain ⟨x1, hx1, hm⟩ := bnd hm
  refine RW.c rfl rfl rfl (Yc.fnV (σp := []) (args' := [.i 2]) rfl rfl ok12 rfl rfl rfl (VwL.id _) (m12_ok 2 hx1)) ?_
  rintro _ _ ⟨_, ⟨rfl, rfl⟩, rfl⟩
  refine RW.v rfl rfl rfl (Yv.alloc rfl zerb26) ?_
  rintro _ _ ⟨b1, rfl, rfl⟩
  refine RW.u rfl rfl (Yu.storeB 0 rfl rfl rfl rfl sz26 (Pw.p rfl) rfl (Nat.le_of_ble_eq_true rfl)) ?_
  refine RW.nil ?_
  refine CW.seq ?_
  obtain ⟨⟨l1, l2, n1, c1, n2⟩, hs1, hk1⟩ := bnd hm
  refine CW.cut (fun E σ => Sub [(1, .lit (.pointer (some ⟨b1, 0, none⟩))), (2, .i n2)] E ∧ σ = [.box b1 26 [.sl 1 (cL 1 (cN .u8)) l1, .sl 2 Write.cells l2, .i n1, .b c1]]) ?_ ?_
  ·
    have hm := hs1
    obtain ⟨x2, hx2, hm⟩ := bnd hm
    obtain ⟨x3, hx3, hm⟩ := bnd hm
    refine CW.drawSel 8 rfl [0] [.box b1 26 [.sl 1 (cL 1 (cN .u8)) x1.fDurable, .sl 2 Write.cells x1.fPending, .i x1.fLeft, .b x1.fDown]] [] rfl (by kernel_rfl) ?_
    intro A1 w1 hB1
    refine RH.two 0 1 (by kernel_rfl) ?_ ?_
    ·
      refine RO.p rfl rfl rfl rfl rfl (Yp.loadBN 0 rfl rfl rfl many26 (Nat.le_of_ble_eq_true rfl)) ?_
      refine RH.one 1 (by kernel_rfl) ?_
      refine RO.c rfl rfl rfl rfl rfl (Yc.fnV (σp := []) (args' := [.n .u8 7]) rfl rfl ok15 rfl rfl rfl (VwL.id _) (m15_ok 7 hx2)) (fun b hb => absurd hb (by simp [blks])) ?_
      rintro _ _ ⟨_, ⟨rfl, rfl⟩, rfl⟩
      refine RH.one 2 (by kernel_rfl) ?_
      refine RO.c rfl rfl rfl rfl rfl (Yc.fnV (σp := []) (args' := [.agg [.sl 1 (cL 1 (cN .u8)) x1.fDurable, .sl 2 Write.cells x1.fPending, .i x1.fLeft, .b x1.fDown], .i 1, .sl 1 (cN .u8) x2]) rfl rfl ok19 rfl rfl rfl (VwL.id _) (m19_ok x1 1 x2 hx3)) (fun b hb => absurd hb (by simp [blks])) ?_
      rintro _ _ ⟨_, ⟨rfl, rfl⟩, rfl⟩
      refine RH.one 3 (by kernel_rfl) ?_
      refine RO.p rfl rfl rfl rfl rfl (Yp.move rfl rfl) ?_
      refine RH.two 4 5 (by kernel_rfl) ?_ ?_
      ·
        refine RO.p rfl rfl rfl rfl rfl (Yp.extract rfl rfl rfl) ?_
        refine RH.two 5 6 (by kernel_rfl) ?_ ?_
        ·
          refine RO.p rfl rfl rfl rfl rfl (Yp.extract rfl rfl rfl) ?_
          refine RH.one 6 (by kernel_rfl) ?_
          refine RO.u rfl rfl rfl (Yu.storeB 0 rfl rfl rfl rfl sz26 (Pw.p rfl) rfl (Nat.le_of_ble_eq_true rfl)) (inX (r := .box b1 26 [.sl 1 (cL 1 (cN .u8)) x1.fDurable, .sl 2 Write.cells x1.fPending, .i x1.fLeft, .b x1.fDown]) 0 rfl) ?_
          refine RH.one 7 (by kernel_rfl) ?_
          refine RO.p rfl rfl rfl rfl rfl (Yp.assign rfl rfl) ?_
          refine RH.done (by kernel_rfl) ?_
          cases hm
          exact ⟨(Sub.cons rfl (Sub.cons rfl Sub.nil)), rfl⟩
        ·
          refine RO.u rfl rfl rfl (Yu.storeB 0 rfl rfl rfl rfl sz26 (Pw.p rfl) rfl (Nat.le_of_ble_eq_true rfl)) (inX (r := .box b1 26 [.sl 1 (cL 1 (cN .u8)) x1.fDurable, .sl 2 Write.cells x1.fPending, .i x1.fLeft, .b x1.fDown]) 0 rfl) ?_
          refine RH.one 5 (by kernel_rfl) ?_
          refine RO.p rfl rfl rfl rfl rfl (Yp.extract rfl rfl rfl) ?_
          refine RH.one 7 (by kernel_rfl) ?_
          refine RO.p rfl rfl rfl rfl rfl (Yp.assign rfl rfl) ?_
          refine RH.done (by kernel_rfl) ?_
          cases hm
          exact ⟨(Sub.cons rfl (Sub.cons rfl Sub.nil)), rfl⟩
      ·
        refine RO.p rfl rfl rfl rfl rfl (Yp.extract rfl rfl rfl) ?_
        refine RH.one 4 (by kernel_rfl) ?_
        refine RO.p rfl rfl rfl rfl rfl (Yp.extract rfl rfl rfl) ?_
        refine RH.one 6 (by kernel_rfl) ?_
        refine RO.u rfl rfl rfl (Yu.storeB 0 rfl rfl rfl rfl sz26 (Pw.p rfl) rfl (Nat.le_of_ble_eq_true rfl)) (inX (r := .box b1 26 [.sl 1 (cL 1 (cN .u8)) x1.fDurable, .sl 2 Write.cells x1.fPending, .i x1.fLeft, .b x1.fDown]) 0 rfl) ?_
        refine RH.one 7 (by kernel_rfl) ?_
        refine RO.p rfl rfl rfl rfl rfl (Yp.assign rfl rfl) ?_
        refine RH.done (by kernel_rfl) ?_
        cases hm
        exact ⟨(Sub.cons rfl (Sub.cons rfl Sub.nil)), rfl⟩
    ·
      refine RO.c rfl rfl rfl rfl rfl (Yc.fnV (σp := []) (args' := [.n .u8 7]) rfl rfl ok15 rfl rfl rfl (VwL.id _) (m15_ok 7 hx2)) (fun b hb => absurd hb (by simp [blks])) ?_
      rintro _ _ ⟨_, ⟨rfl, rfl⟩, rfl⟩
      refine RH.one 0 (by kernel_rfl) ?_
      refine RO.p rfl rfl rfl rfl rfl (Yp.loadBN 0 rfl rfl rfl many26 (Nat.le_of_ble_eq_true rfl)) ?_
      refine RH.one 2 (by kernel_rfl) ?_
      refine RO.c rfl rfl rfl rfl rfl (Yc.fnV (σp := []) (args' := [.agg [.sl 1 (cL 1 (cN .u8)) x1.fDurable, .sl 2 Write.cells x1.fPending, .i x1.fLeft, .b x1.fDown], .i 1, .sl 1 (cN .u8) x2]) rfl rfl ok19 rfl rfl rfl (VwL.id _) (m19_ok x1 1 x2 hx3)) (fun b hb => absurd hb (by simp [blks])) ?_
      rintro _ _ ⟨_, ⟨rfl, rfl⟩, rfl⟩
      refine RH.one 3 (by kernel_rfl) ?_
      refine RO.p rfl rfl rfl rfl rfl (Yp.move rfl rfl) ?_
      refine RH.two 4 5 (by kernel_rfl) ?_ ?_
      ·
        refine RO.p rfl rfl rfl rfl rfl (Yp.extract rfl rfl rfl) ?_
        refine RH.two 5 6 (by kernel_rfl) ?_ ?_
        ·
          refine RO.p rfl rfl rfl rfl rfl (Yp.extract rfl rfl rfl) ?_
          refine RH.one 6 (by kernel_rfl) ?_
          refine RO.u rfl rfl rfl (Yu.storeB 0 rfl rfl rfl rfl sz26 (Pw.p rfl) rfl (Nat.le_of_ble_eq_true rfl)) (inX (r := .box b1 26 [.sl 1 (cL 1 (cN .u8)) x1.fDurable, .sl 2 Write.cells x1.fPending, .i x1.fLeft, .b x1.fDown]) 0 rfl) ?_
          refine RH.one 7 (by kernel_rfl) ?_
          refine RO.p rfl rfl rfl rfl rfl (Yp.assign rfl rfl) ?_
          refine RH.done (by kernel_rfl) ?_
          cases hm
          exact ⟨(Sub.cons rfl (Sub.cons rfl Sub.nil)), rfl⟩
        ·
          refine RO.u rfl rfl rfl (Yu.storeB 0 rfl rfl rfl rfl sz26 (Pw.p rfl) rfl (Nat.le_of_ble_eq_true rfl)) (inX (r := .box b1 26 [.sl 1 (cL 1 (cN .u8)) x1.fDurable, .sl 2 Write.cells x1.fPending, .i x1.fLeft, .b x1.fDown]) 0 rfl) ?_
          refine RH.one 5 (by kernel_rfl) ?_
          refine RO.p rfl rfl rfl rfl rfl (Yp.extract rfl rfl rfl) ?_
          refine RH.one 7 (by kernel_rfl) ?_
          refine RO.p rfl rfl rfl rfl rfl (Yp.assign rfl rfl) ?_
          refine RH.done (by kernel_rfl) ?_
          cases hm
          exact ⟨(Sub.cons rfl (Sub.cons rfl Sub.nil)), rfl⟩
      ·
        refine RO.p rfl rfl rfl rfl rfl (Yp.extract rfl rfl rfl) ?_
        refine RH.one 4 (by kernel_rfl) ?_
        refine RO.p rfl rfl rfl rfl rfl (Yp.extract rfl rfl rfl) ?_
        refine RH.one 6 (by kernel_rfl) ?_
        refine RO.u rfl rfl rfl (Yu.storeB 0 rfl rfl rfl rfl sz26 (Pw.p rfl) rfl (Nat.le_of_ble_eq_true rfl)) (inX (r := .box b1 26 [.sl 1 (cL 1 (cN .u8)) x1.fDurable, .sl 2 Write.cells x1.fPending, .i x1.fLeft, .b x1.fDown]) 0 rfl) ?_
        refine RH.one 7 (by kernel_rfl) ?_
        refine RO.p rfl rfl rfl rfl rfl (Yp.assign rfl rfl) ?_
        refine RH.done (by kernel_rfl) ?_
        cases hm
        exact ⟨(Sub.cons rfl (Sub.cons rfl Sub.nil)), rfl⟩
  ·
    rintro E σ ⟨hsub1, rfl⟩
    have hm := hk1
    refine CW.weak ?_ hsub1
    refine CW.seq ?_
    refine CW.seq ?_
    refine CW.region ?_
    refine RW.p rfl rfl rfl (Yp.move rfl rfl) ?_
    refine RW.p rfl rfl rfl (Yp.neq rfl rfl rfl) ?_
    refine RW.nil ?_
    refine CW.cond rfl (fun hb1 => ?_) (fun hb1 => ?_)
    ·
      have hm := ift hm hb1
      refine CW.seq ?_
      refine CW.region ?_
      refine RW.p rfl rfl rfl (Yp.assign rfl rfl) ?_
      refine RW.nil ?_
      refine CW.ret ?_
      cases hm
      exact fin1 (.inr rfl) rfl (ResIs.tmp rfl) (List.nil_sublist _) ⟨rfl, rfl⟩
    ·
      have hm := iff' hm hb1
      refine CW.skip ?_
      refine CW.seq ?_
      refine CW.region ?_
      refine RW.p rfl rfl rfl (Yp.loadBN 0 rfl rfl rfl many26 (Nat.le_of_ble_eq_true rfl)) ?_
      obtain ⟨x4, hx4, hm⟩ := bnd hm
      refine RW.c rfl rfl rfl (Yc.fnV (σp := []) (args' := [.agg [.sl 1 (cL 1 (cN .u8)) ((Disk.mk l1 l2 n1 c1).fDurable), .sl 2 Write.cells ((Disk.mk l1 l2 n1 c1).fPending), .i ((Disk.mk l1 l2 n1 c1).fLeft), .b ((Disk.mk l1 l2 n1 c1).fDown)], .i 1]) rfl rfl ok17 rfl rfl rfl (VwL.id _) (m17_ok (Disk.mk l1 l2 n1 c1) 1 hx4)) ?_
      rintro _ _ ⟨_, ⟨rfl, rfl⟩, rfl⟩
      refine RW.p rfl rfl rfl (Yp.move rfl rfl) ?_
      refine RW.p rfl rfl rfl (Yp.extract rfl rfl rfl) ?_
      refine RW.p rfl rfl rfl (Yp.extract rfl rfl rfl) ?_
      refine RW.p rfl rfl rfl (Yp.assign rfl rfl) ?_
      refine RW.p rfl rfl rfl (Yp.assign rfl rfl) ?_
      refine RW.nil ?_
      refine CW.seq ?_
      refine CW.region ?_
      refine RW.p rfl rfl rfl (Yp.loadBN 0 rfl rfl rfl many26 (Nat.le_of_ble_eq_true rfl)) ?_
      obtain ⟨x5, hx5, hm⟩ := bnd hm
      refine RW.c rfl rfl rfl (Yc.fnV (σp := []) (args' := [.agg [.sl 1 (cL 1 (cN .u8)) ((Disk.mk l1 l2 n1 c1).fDurable), .sl 2 Write.cells ((Disk.mk l1 l2 n1 c1).fPending), .i ((Disk.mk l1 l2 n1 c1).fLeft), .b ((Disk.mk l1 l2 n1 c1).fDown)], .sl 1 cB []]) rfl rfl ok24 rfl rfl rfl (VwL.cons (Vw.id _) (VwL.cons (Vw.nil 1 cB) VwL.nil)) (m24_ok (Disk.mk l1 l2 n1 c1) [] hx5)) ?_
      rintro _ _ ⟨_, ⟨rfl, rfl⟩, rfl⟩
      refine RW.p rfl rfl rfl (Yp.move rfl rfl) ?_
      refine RW.p rfl rfl rfl (Yp.extract rfl rfl rfl) ?_
      refine RW.p rfl rfl rfl (Yp.extract rfl rfl rfl) ?_
      refine RW.v rfl rfl rfl (Yv.alloc rfl zerb26) ?_
      rintro _ _ ⟨b2, rfl, rfl⟩
      refine RW.u rfl rfl (Yu.storeB 0 rfl rfl rfl rfl sz26 (Pw.p rfl) rfl (Nat.le_of_ble_eq_true rfl)) ?_
      refine RW.p rfl rfl rfl (Yp.assign rfl rfl) ?_
      refine RW.nil ?_
      refine CW.seq ?_
      refine CW.region ?_
      refine RW.p rfl rfl rfl (Yp.loadBN 0 rfl rfl rfl many26 (Nat.le_of_ble_eq_true rfl)) ?_
      obtain ⟨x6, hx6, hm⟩ := bnd hm
      refine RW.c rfl rfl rfl (Yc.fnV (σp := []) (args' := [.agg [.sl 1 (cL 1 (cN .u8)) x5.1.fDurable, .sl 2 Write.cells x5.1.fPending, .i x5.1.fLeft, .b x5.1.fDown], .i 1]) rfl rfl ok17 rfl rfl rfl (VwL.id _) (m17_ok x5.1 1 hx6)) ?_
      rintro _ _ ⟨_, ⟨rfl, rfl⟩, rfl⟩
      refine RW.p rfl rfl rfl (Yp.move rfl rfl) ?_
      refine RW.p rfl rfl rfl (Yp.extract rfl rfl rfl) ?_
      refine RW.p rfl rfl rfl (Yp.extract rfl rfl rfl) ?_
      refine RW.p rfl rfl rfl (Yp.assign rfl rfl) ?_
      refine RW.p rfl rfl rfl (Yp.assign rfl rfl) ?_
      refine RW.nil ?_
      refine CW.seq ?_
      refine CW.region ?_
      refine RW.p rfl rfl rfl (Yp.build rfl plc26 zer26 rfl rfl) ?_
      obtain ⟨x7, hx7, hm⟩ := bnd hm
      refine RW.c rfl rfl rfl (Yc.fnV (σp := []) (args' := [.n .u8 7]) rfl rfl ok15 rfl rfl rfl (VwL.id _) (m15_ok 7 hx7)) ?_
      rintro _ _ ⟨_, ⟨rfl, rfl⟩, rfl⟩
      obtain ⟨x8, hx8, hm⟩ := bnd hm
      refine RW.c rfl rfl rfl (Yc.fnV (σp := []) (args' := [.agg [.sl 1 (cL 1 (cN .u8)) ((Disk.mk [] [] 0 false).fDurable), .sl 2 Write.cells ((Disk.mk [] [] 0 false).fPending), .i ((Disk.mk [] [] 0 false).fLeft), .b ((Disk.mk [] [] 0 false).fDown)], .i 0, .sl 1 (cN .u8) x7]) rfl rfl ok19 rfl rfl rfl (VwL.cons (Vw.agg (VwL.cons (Vw.nil 1 (cL 1 (cN .u8))) (VwL.cons (Vw.nil 2 Write.cells) (VwL.cons (Vw.id _) (VwL.cons (Vw.id _) VwL.nil))))) (VwL.cons (Vw.id _) (VwL.cons (Vw.id _) VwL.nil))) (m19_ok (Disk.mk [] [] 0 false) 0 x7 hx8)) ?_
      rintro _ _ ⟨_, ⟨rfl, rfl⟩, rfl⟩
      refine RW.p rfl rfl rfl (Yp.move rfl rfl) ?_
      refine RW.p rfl rfl rfl (Yp.extract rfl rfl rfl) ?_
      refine RW.p rfl rfl rfl (Yp.extract rfl rfl rfl) ?_
      refine RW.v rfl rfl rfl (Yv.alloc rfl zerb26) ?_
      rintro _ _ ⟨b3, rfl, rfl⟩
      refine RW.u rfl rfl (Yu.storeB 0 rfl rfl rfl rfl sz26 (Pw.p rfl) rfl (Nat.le_of_ble_eq_true rfl)) ?_
      refine RW.p rfl rfl rfl (Yp.assign rfl rfl) ?_
      refine RW.nil ?_
      refine CW.seq ?_
      obtain ⟨c2, hs2, hk2⟩ := bnd hm
      refine CW.cut (fun E σ => Sub [(0, .b c2)] E ∧ σ = []) ?_ ?_
      ·
        have hm := hs2
        refine CW.region ?_
        refine RW.p rfl rfl rfl (Yp.move rfl rfl) ?_
        refine RW.p rfl rfl rfl (Yp.eql rfl rfl rfl) ?_
        refine RW.p rfl rfl rfl (Yp.move rfl rfl) ?_
        rcases Bool.eq_false_or_eq_true (decide (x4.2 = 0)) with hb2 | hb2
        ·
          have hm := ift hm hb2
          refine RW.eqv 43 rfl (congrArg AV.b hb2) ?_
          refine RW.p rfl rfl rfl (Yp.move rfl rfl) ?_
          obtain ⟨x9, hx9, hm⟩ := bnd hm
          refine RW.c rfl rfl rfl (Yc.fnV (σp := []) (args' := [.n .u8 7]) rfl rfl ok15 rfl rfl rfl (VwL.id _) (m15_ok 7 hx9)) ?_
          rintro _ _ ⟨_, ⟨rfl, rfl⟩, rfl⟩
          obtain ⟨x10, hx10, hm⟩ := bnd hm
          refine RW.c rfl rfl rfl (Yc.fnV (σp := []) (args' := [.sl 1 (cN .u8) x4.1, .sl 1 (cN .u8) x9]) rfl rfl ok14 rfl rfl rfl (VwL.id _) (m14_ok x4.1 x9 hx10)) ?_
          rintro _ _ ⟨_, ⟨rfl, rfl⟩, rfl⟩
          refine RW.p rfl rfl rfl (Yp.pickT rfl rfl rfl) ?_
          refine RW.p rfl rfl rfl (Yp.move rfl rfl) ?_
          rcases Bool.eq_false_or_eq_true x10 with hb3 | hb3
          ·
            have hm := ift hm hb3
            refine RW.eqv 48 rfl (congrArg AV.b hb3) ?_
            refine RW.p rfl rfl rfl (Yp.move rfl rfl) ?_
            refine RW.p rfl rfl rfl (Yp.eql rfl rfl rfl) ?_
            refine RW.p rfl rfl rfl (Yp.pickT rfl rfl rfl) ?_
            refine RW.p rfl rfl rfl (Yp.move rfl rfl) ?_
            rcases Bool.eq_false_or_eq_true (decide (x5.2 = 0)) with hb4 | hb4
            ·
              have hm := ift hm hb4
              refine RW.eqv 52 rfl (congrArg AV.b hb4) ?_
              refine RW.p rfl rfl rfl (Yp.move rfl rfl) ?_
              refine RW.p rfl rfl rfl (Yp.eql rfl rfl rfl) ?_
              refine RW.p rfl rfl rfl (Yp.pickT rfl rfl rfl) ?_
              refine RW.p rfl rfl rfl (Yp.move rfl rfl) ?_
              rcases Bool.eq_false_or_eq_true (decide (x6.2 = 0)) with hb5 | hb5
              ·
                have hm := ift hm hb5
                refine RW.eqv 56 rfl (congrArg AV.b hb5) ?_
                refine RW.p rfl rfl rfl (Yp.move rfl rfl) ?_
                obtain ⟨x11, hx11, hm⟩ := bnd hm
                refine RW.c rfl rfl rfl (Yc.fnV (σp := []) (args' := [.n .u8 0]) rfl rfl ok15 rfl rfl rfl (VwL.id _) (m15_ok 0 hx11)) ?_
                rintro _ _ ⟨_, ⟨rfl, rfl⟩, rfl⟩
                obtain ⟨x12, hx12, hm⟩ := bnd hm
                refine RW.c rfl rfl rfl (Yc.fnV (σp := []) (args' := [.sl 1 (cN .u8) x6.1, .sl 1 (cN .u8) x11]) rfl rfl ok14 rfl rfl rfl (VwL.id _) (m14_ok x6.1 x11 hx12)) ?_
                rintro _ _ ⟨_, ⟨rfl, rfl⟩, rfl⟩
                refine RW.p rfl rfl rfl (Yp.pickT rfl rfl rfl) ?_
                refine RW.p rfl rfl rfl (Yp.move rfl rfl) ?_
                rcases Bool.eq_false_or_eq_true x12 with hb6 | hb6
                ·
                  have hm := ift hm hb6
                  refine RW.eqv 61 rfl (congrArg AV.b hb6) ?_
                  refine RW.p rfl rfl rfl (Yp.move rfl rfl) ?_
                  refine RW.p rfl rfl rfl (Yp.eql rfl rfl rfl) ?_
                  refine RW.p rfl rfl rfl (Yp.pickT rfl rfl rfl) ?_
                  refine RW.p rfl rfl rfl (Yp.assign rfl rfl) ?_
                  refine RW.sel [] rfl ?_
                  refine RW.nil ?_
                  cases hm
                  exact ⟨(Sub.cons rfl Sub.nil), rfl⟩
                ·
                  have hm := iff' hm hb6
                  refine RW.eqv 61 rfl (congrArg AV.b hb6) ?_
                  refine RW.skip rfl rfl rfl ?_
                  refine RW.skip rfl rfl rfl ?_
                  refine RW.p rfl rfl rfl (Yp.pickF rfl rfl rfl) ?_
                  refine RW.p rfl rfl rfl (Yp.assign rfl rfl) ?_
                  refine RW.sel [] rfl ?_
                  refine RW.nil ?_
                  cases hm
                  exact ⟨(Sub.cons rfl Sub.nil), rfl⟩
              ·
                have hm := iff' hm hb5
                refine RW.eqv 56 rfl (congrArg AV.b hb5) ?_
                refine RW.skip rfl rfl rfl ?_
                refine RW.skip rfl rfl rfl ?_
                refine RW.skip rfl rfl rfl ?_
                refine RW.p rfl rfl rfl (Yp.pickF rfl rfl rfl) ?_
                refine RW.p rfl rfl rfl (Yp.move rfl rfl) ?_
                refine RW.skip rfl rfl rfl ?_
                refine RW.skip rfl rfl rfl ?_
                refine RW.p rfl rfl rfl (Yp.pickF rfl rfl rfl) ?_
                refine RW.p rfl rfl rfl (Yp.assign rfl rfl) ?_
                refine RW.sel [] rfl ?_
                refine RW.nil ?_
                cases hm
                exact ⟨(Sub.cons rfl Sub.nil), rfl⟩
            ·
              have hm := iff' hm hb4
              refine RW.eqv 52 rfl (congrArg AV.b hb4) ?_
              refine RW.skip rfl rfl rfl ?_
              refine RW.skip rfl rfl rfl ?_
              refine RW.p rfl rfl rfl (Yp.pickF rfl rfl rfl) ?_
              refine RW.p rfl rfl rfl (Yp.move rfl rfl) ?_
              refine RW.skip rfl rfl rfl ?_
              refine RW.skip rfl rfl rfl ?_
              refine RW.skip rfl rfl rfl ?_
              refine RW.p rfl rfl rfl (Yp.pickF rfl rfl rfl) ?_
              refine RW.p rfl rfl rfl (Yp.move rfl rfl) ?_
              refine RW.skip rfl rfl rfl ?_
              refine RW.skip rfl rfl rfl ?_
              refine RW.p rfl rfl rfl (Yp.pickF rfl rfl rfl) ?_
              refine RW.p rfl rfl rfl (Yp.assign rfl rfl) ?_
              refine RW.sel [] rfl ?_
              refine RW.nil ?_
              cases hm
              exact ⟨(Sub.cons rfl Sub.nil), rfl⟩
          ·
            have hm := iff' hm hb3
            refine RW.eqv 48 rfl (congrArg AV.b hb3) ?_
            refine RW.skip rfl rfl rfl ?_
            refine RW.skip rfl rfl rfl ?_
            refine RW.p rfl rfl rfl (Yp.pickF rfl rfl rfl) ?_
            refine RW.p rfl rfl rfl (Yp.move rfl rfl) ?_
            refine RW.skip rfl rfl rfl ?_
            refine RW.skip rfl rfl rfl ?_
            refine RW.p rfl rfl rfl (Yp.pickF rfl rfl rfl) ?_
            refine RW.p rfl rfl rfl (Yp.move rfl rfl) ?_
            refine RW.skip rfl rfl rfl ?_
            refine RW.skip rfl rfl rfl ?_
            refine RW.skip rfl rfl rfl ?_
            refine RW.p rfl rfl rfl (Yp.pickF rfl rfl rfl) ?_
            refine RW.p rfl rfl rfl (Yp.move rfl rfl) ?_
            refine RW.skip rfl rfl rfl ?_
            refine RW.skip rfl rfl rfl ?_
            refine RW.p rfl rfl rfl (Yp.pickF rfl rfl rfl) ?_
            refine RW.p rfl rfl rfl (Yp.assign rfl rfl) ?_
            refine RW.sel [] rfl ?_
            refine RW.nil ?_
            cases hm
            exact ⟨(Sub.cons rfl Sub.nil), rfl⟩
        ·
          have hm := iff' hm hb2
          refine RW.eqv 43 rfl (congrArg AV.b hb2) ?_
          refine RW.skip rfl rfl rfl ?_
          refine RW.skip rfl rfl rfl ?_
          refine RW.skip rfl rfl rfl ?_
          refine RW.p rfl rfl rfl (Yp.pickF rfl rfl rfl) ?_
          refine RW.p rfl rfl rfl (Yp.move rfl rfl) ?_
          refine RW.skip rfl rfl rfl ?_
          refine RW.skip rfl rfl rfl ?_
          refine RW.p rfl rfl rfl (Yp.pickF rfl rfl rfl) ?_
          refine RW.p rfl rfl rfl (Yp.move rfl rfl) ?_
          refine RW.skip rfl rfl rfl ?_
          refine RW.skip rfl rfl rfl ?_
          refine RW.p rfl rfl rfl (Yp.pickF rfl rfl rfl) ?_
          refine RW.p rfl rfl rfl (Yp.move rfl rfl) ?_
          refine RW.skip rfl rfl rfl ?_
          refine RW.skip rfl rfl rfl ?_
          refine RW.skip rfl rfl rfl ?_
          refine RW.p rfl rfl rfl (Yp.pickF rfl rfl rfl) ?_
          refine RW.p rfl rfl rfl (Yp.move rfl rfl) ?_
          refine RW.skip rfl rfl rfl ?_
          refine RW.skip rfl rfl rfl ?_
          refine RW.p rfl rfl rfl (Yp.pickF rfl rfl rfl) ?_
          refine RW.p rfl rfl rfl (Yp.assign rfl rfl) ?_
          refine RW.sel [] rfl ?_
          refine RW.nil ?_
          cases hm
          exact ⟨(Sub.cons rfl Sub.nil), rfl⟩
      ·
        rintro E σ ⟨hsub2, rfl⟩
        have hm := hk2
        refine CW.weak ?_ hsub2
        refine CW.ret ?_
        cases hm
        exact fin1 (.inr rfl) rfl (ResIs.tmp rfl) (List.nil_sublist _) ⟨rfl, rfl⟩

def m3_l1 (x2 : Disk) : Nat → Int → Option (Sum Unit Bool)
  | 0, _ => none
  | k1 + 1, n3 =>
    if (decide (n3 < (x2.fDurable.length : Int))) = true then
      if 0 ≤ n3 ∧ n3 < (x2.fDurable.length : Int) then
      (m15 0).bind fun x4 =>
      (m14 (x2.fDurable[Int.toNat n3]!) x4).bind fun x5 =>
      if (!x5) = true then
        some (Sum.inr false)
      else
        m3_l1 x2 k1 (w64 (n3 + 1))
      else none
    else
      some (Sum.inl ())
def m3 (p0 : Int) : Option Bool :=
  (m11).bind fun x1 =>
  if (!x1) = true then
    some false
  else
    if (decide ((100 : Int) < p0)) = true then
      some true
    else
      (m12 p0).bind fun x2 =>
      Option.bind (
        if (!decide ((x2.fDurable.length : Int) = (if p0 < 1 then 1 else p0))) = true then
          some true
        else
          if (!decide ((x2.fPending.length : Int) = 0)) = true then
            some true
          else
            if (!decide (x2.fLeft = (-1))) = true then
              some true
            else
              if x2.fDown = true then
                some true
              else
                (m13 x2).bind fun x3 =>
                some (!x3)) fun c1 =>
      if c1 = true then
        some false
      else
        Option.bind (
          (m3_l1 x2 (Int.toNat (x2.fDurable.length : Int) + 1) 0).bind fun o3 =>
          match o3 with
          | .inl () =>
            some (Sum.inl ())
          | .inr r =>
            some (Sum.inr r)) fun o2 =>
        match o2 with
        | .inl () =>
          some true
        | .inr r =>
          some r

theorem m3_ok (p0 : Int)  {r : Bool} (hm : m3 p0 = some r) : Ab.Fn Try.prog 3 [.i p0] [] (fun a s => a = .b r ∧ s = []) := by
  rw [m3] at hm
  refine Ab.Fn.of Try.func3 rfl rfl rfl (fun C => ?_)
  refine CW.seq ?_
  refine CW.region ?_
  refine RW.p rfl rfl rfl (Yp.assign rfl rfl) ?_
  refine RW.nil ?_
  refine CW.seq ?_
  refine CW.seq ?_
  refine CW.region ?_
  obtain ⟨x1, hx1, hm⟩ := bnd hm
  refine RW.c rfl rfl rfl (Yc.fnV (σp := []) (args' := []) rfl rfl ok11 rfl rfl rfl (VwL.id _) (m11_ok  hx1)) ?_
  rintro _ _ ⟨_, ⟨rfl, rfl⟩, rfl⟩
  refine RW.p rfl rfl rfl (Yp.not rfl rfl) ?_
  refine RW.nil ?_
  refine CW.cond rfl (fun hb1 => ?_) (fun hb1 => ?_)
  ·
    have hm := ift hm hb1
    refine CW.seq ?_
    refine CW.region ?_
    refine RW.p rfl rfl rfl (Yp.assign rfl rfl) ?_
    refine RW.nil ?_
    refine CW.ret ?_
    cases hm
    exact fin1 (.inr rfl) rfl (ResIs.tmp rfl) (List.nil_sublist _) ⟨rfl, rfl⟩
  ·
    have hm := iff' hm hb1
    refine CW.skip ?_
    refine CW.seq ?_
    refine CW.seq ?_
    refine CW.region ?_
    refine RW.p rfl rfl rfl (Yp.move rfl rfl) ?_
    refine RW.p rfl rfl rfl (Yp.gtr rfl rfl rfl) ?_
    refine RW.nil ?_
    refine CW.cond rfl (fun hb2 => ?_) (fun hb2 => ?_)
    ·
      have hm := ift hm hb2
      refine CW.seq ?_
      refine CW.region ?_
      refine RW.p rfl rfl rfl (Yp.assign rfl rfl) ?_
      refine RW.nil ?_
      refine CW.ret ?_
      cases hm
      exact fin1 (.inr rfl) rfl (ResIs.tmp rfl) (List.nil_sublist _) ⟨rfl, rfl⟩
    ·
      have hm := iff' hm hb2
      refine CW.skip ?_
      refine CW.seq ?_
      refine CW.region ?_
      refine RW.p rfl rfl rfl (Yp.move rfl rfl) ?_
      obtain ⟨x2, hx2, hm⟩ := bnd hm
      refine RW.c rfl rfl rfl (Yc.fnV (σp := []) (args' := [.i p0]) rfl rfl ok12 rfl rfl rfl (VwL.id _) (m12_ok p0 hx2)) ?_
      rintro _ _ ⟨_, ⟨rfl, rfl⟩, rfl⟩
      refine RW.v rfl rfl rfl (Yv.alloc rfl zerb26) ?_
      rintro _ _ ⟨b1, rfl, rfl⟩
      refine RW.u rfl rfl (Yu.storeB 0 rfl rfl rfl rfl sz26 (Pw.p rfl) rfl (Nat.le_of_ble_eq_true rfl)) ?_
      refine RW.nil ?_
      refine CW.seq ?_
      refine CW.seq ?_
      obtain ⟨c1, hs1, hk1⟩ := bnd hm
      refine CW.cut (fun E σ => Sub [(3, .lit (.pointer (some ⟨b1, 0, none⟩))), (37, .b c1)] E ∧ σ = [.box b1 26 [.sl 1 (cL 1 (cN .u8)) x2.fDurable, .sl 2 Write.cells x2.fPending, .i x2.fLeft, .b x2.fDown]]) ?_ ?_
      ·
        have hm := hs1
        refine CW.region ?_
        refine RW.p rfl rfl rfl (Yp.fieldP rfl rfl Try.underlying26 rfl sz23) ?_
        refine RW.p rfl rfl rfl (Yp.loadB1 0 rfl rfl rfl one23 rfl) ?_
        refine RW.p rfl rfl rfl (Yp.lenSl rfl rfl Try.underlying23) ?_
        refine RW.p rfl rfl rfl (Yp.move rfl rfl) ?_
        refine RW.p rfl rfl rfl (Yp.max rfl rfl rfl) ?_
        refine RW.p rfl rfl rfl (Yp.neq rfl rfl rfl) ?_
        refine RW.p rfl rfl rfl (Yp.move rfl rfl) ?_
        rcases Bool.eq_false_or_eq_true (!decide ((x2.fDurable.length : Int) = (if p0 < 1 then 1 else p0))) with hb3 | hb3
        ·
          have hm := ift hm hb3
          refine RW.eqv 18 rfl (congrArg AV.b hb3) ?_
          refine RW.skip rfl rfl rfl ?_
          refine RW.skip rfl rfl rfl ?_
          refine RW.skip rfl rfl rfl ?_
          refine RW.skip rfl rfl rfl ?_
          refine RW.p rfl rfl rfl (Yp.pickT rfl rfl rfl) ?_
          refine RW.p rfl rfl rfl (Yp.move rfl rfl) ?_
          refine RW.skip rfl rfl rfl ?_
          refine RW.skip rfl rfl rfl ?_
          refine RW.skip rfl rfl rfl ?_
          refine RW.p rfl rfl rfl (Yp.pickT rfl rfl rfl) ?_
          refine RW.p rfl rfl rfl (Yp.move rfl rfl) ?_
          refine RW.skip rfl rfl rfl ?_
          refine RW.skip rfl rfl rfl ?_
          refine RW.p rfl rfl rfl (Yp.pickT rfl rfl rfl) ?_
          refine RW.p rfl rfl rfl (Yp.move rfl rfl) ?_
          refine RW.skip rfl rfl rfl ?_
          refine RW.skip rfl rfl rfl ?_
          refine RW.skip rfl rfl rfl ?_
          refine RW.p rfl rfl rfl (Yp.pickT rfl rfl rfl) ?_
          refine RW.nil ?_
          cases hm
          exact ⟨(Sub.cons rfl (Sub.cons rfl Sub.nil)), rfl⟩
        ·
          have hm := iff' hm hb3
          refine RW.eqv 18 rfl (congrArg AV.b hb3) ?_
          refine RW.p rfl rfl rfl (Yp.fieldP rfl rfl Try.underlying26 rfl sz24) ?_
          refine RW.p rfl rfl rfl (Yp.loadB1 0 rfl rfl rfl one24 rfl) ?_
          refine RW.p rfl rfl rfl (Yp.lenSl rfl rfl Try.underlying24) ?_
          refine RW.p rfl rfl rfl (Yp.neq rfl rfl rfl) ?_
          refine RW.p rfl rfl rfl (Yp.pickF rfl rfl rfl) ?_
          refine RW.p rfl rfl rfl (Yp.move rfl rfl) ?_
          rcases Bool.eq_false_or_eq_true (!decide ((x2.fPending.length : Int) = 0)) with hb4 | hb4
          ·
            have hm := ift hm hb4
            refine RW.eqv 24 rfl (congrArg AV.b hb4) ?_
            refine RW.skip rfl rfl rfl ?_
            refine RW.skip rfl rfl rfl ?_
            refine RW.skip rfl rfl rfl ?_
            refine RW.p rfl rfl rfl (Yp.pickT rfl rfl rfl) ?_
            refine RW.p rfl rfl rfl (Yp.move rfl rfl) ?_
            refine RW.skip rfl rfl rfl ?_
            refine RW.skip rfl rfl rfl ?_
            refine RW.p rfl rfl rfl (Yp.pickT rfl rfl rfl) ?_
            refine RW.p rfl rfl rfl (Yp.move rfl rfl) ?_
            refine RW.skip rfl rfl rfl ?_
            refine RW.skip rfl rfl rfl ?_
            refine RW.skip rfl rfl rfl ?_
            refine RW.p rfl rfl rfl (Yp.pickT rfl rfl rfl) ?_
            refine RW.nil ?_
            cases hm
            exact ⟨(Sub.cons rfl (Sub.cons rfl Sub.nil)), rfl⟩
          ·
            have hm := iff' hm hb4
            refine RW.eqv 24 rfl (congrArg AV.b hb4) ?_
            refine RW.p rfl rfl rfl (Yp.fieldP rfl rfl Try.underlying26 rfl sz3) ?_
            refine RW.p rfl rfl rfl (Yp.loadB1 0 rfl rfl rfl one3 rfl) ?_
            refine RW.p rfl rfl rfl (Yp.neq rfl rfl rfl) ?_
            refine RW.p rfl rfl rfl (Yp.pickF rfl rfl rfl) ?_
            refine RW.p rfl rfl rfl (Yp.move rfl rfl) ?_
            rcases Bool.eq_false_or_eq_true (!decide (x2.fLeft = (-1))) with hb5 | hb5
            ·
              have hm := ift hm hb5
              refine RW.eqv 29 rfl (congrArg AV.b hb5) ?_
              refine RW.skip rfl rfl rfl ?_
              refine RW.skip rfl rfl rfl ?_
              refine RW.p rfl rfl rfl (Yp.pickT rfl rfl rfl) ?_
              refine RW.p rfl rfl rfl (Yp.move rfl rfl) ?_
              refine RW.skip rfl rfl rfl ?_
              refine RW.skip rfl rfl rfl ?_
              refine RW.skip rfl rfl rfl ?_
              refine RW.p rfl rfl rfl (Yp.pickT rfl rfl rfl) ?_
              refine RW.nil ?_
              cases hm
              exact ⟨(Sub.cons rfl (Sub.cons rfl Sub.nil)), rfl⟩
            ·
              have hm := iff' hm hb5
              refine RW.eqv 29 rfl (congrArg AV.b hb5) ?_
              refine RW.p rfl rfl rfl (Yp.fieldP rfl rfl Try.underlying26 rfl sz4) ?_
              refine RW.p rfl rfl rfl (Yp.loadB1 0 rfl rfl rfl one4 rfl) ?_
              refine RW.p rfl rfl rfl (Yp.pickF rfl rfl rfl) ?_
              refine RW.p rfl rfl rfl (Yp.move rfl rfl) ?_
              rcases Bool.eq_false_or_eq_true x2.fDown with hb6 | hb6
              ·
                have hm := ift hm hb6
                refine RW.eqv 33 rfl (congrArg AV.b hb6) ?_
                refine RW.skip rfl rfl rfl ?_
                refine RW.skip rfl rfl rfl ?_
                refine RW.skip rfl rfl rfl ?_
                refine RW.p rfl rfl rfl (Yp.pickT rfl rfl rfl) ?_
                refine RW.nil ?_
                cases hm
                exact ⟨(Sub.cons rfl (Sub.cons rfl Sub.nil)), rfl⟩
              ·
                have hm := iff' hm hb6
                refine RW.eqv 33 rfl (congrArg AV.b hb6) ?_
                refine RW.p rfl rfl rfl (Yp.loadBN 0 rfl rfl rfl many26 (Nat.le_of_ble_eq_true rfl)) ?_
                obtain ⟨x3, hx3, hm⟩ := bnd hm
                refine RW.c rfl rfl rfl (Yc.fnV (σp := []) (args' := [.agg [.sl 1 (cL 1 (cN .u8)) x2.fDurable, .sl 2 Write.cells x2.fPending, .i x2.fLeft, .b x2.fDown]]) rfl rfl ok13 rfl rfl rfl (VwL.id _) (m13_ok x2 hx3)) ?_
                rintro _ _ ⟨_, ⟨rfl, rfl⟩, rfl⟩
                refine RW.p rfl rfl rfl (Yp.not rfl rfl) ?_
                refine RW.p rfl rfl rfl (Yp.pickF rfl rfl rfl) ?_
                refine RW.nil ?_
                cases hm
                exact ⟨(Sub.cons rfl (Sub.cons rfl Sub.nil)), rfl⟩
      ·
        rintro E σ ⟨hsub1, rfl⟩
        have hm := hk1
        refine CW.weak ?_ hsub1
        refine CW.cond rfl (fun hb7 => ?_) (fun hb7 => ?_)
        ·
          have hm := ift hm hb7
          refine CW.seq ?_
          refine CW.region ?_
          refine RW.p rfl rfl rfl (Yp.assign rfl rfl) ?_
          refine RW.nil ?_
          refine CW.ret ?_
          cases hm
          exact fin1 (.inr rfl) rfl (ResIs.tmp rfl) (List.nil_sublist _) ⟨rfl, rfl⟩
        ·
          have hm := iff' hm hb7
          refine CW.skip ?_
          refine CW.seq ?_
          obtain ⟨o2, hs2, hk2⟩ := bnd hm
          refine CW.cut (fun E σ => o2 = Sum.inl () ∧ Sub [] E ∧ σ = []) ?_ ?_
          ·
            have hm := hs2
            refine CW.seq ?_
            refine CW.region ?_
            refine RW.p rfl rfl rfl (Yp.fieldP rfl rfl Try.underlying26 rfl sz23) ?_
            refine RW.p rfl rfl rfl (Yp.loadB1 0 rfl rfl rfl one23 rfl) ?_
            refine RW.p rfl rfl rfl (Yp.lenSl rfl rfl Try.underlying23) ?_
            refine RW.p rfl rfl rfl (Yp.move rfl rfl) ?_
            refine RW.nil ?_
            refine CW.block ?_
            refine CW.sel [] rfl ?_
            obtain ⟨o3, hs3, hk3⟩ := bnd hm
            refine CW.lp (fun k1 E σ => ∃ n3 : Int, Sub [(39, .sl 1 (cL 1 (cN .u8)) x2.fDurable), (40, .i (x2.fDurable.length : Int)), (41, .i n3)] E ∧ σ = [] ∧ m3_l1 x2 k1 n3 = some o3) (Int.toNat (x2.fDurable.length : Int) + 1) ?_ ?_
            · exact ⟨0, (Sub.cons rfl (Sub.cons rfl (Sub.cons rfl Sub.nil))), rfl, hs3⟩
            ·
              rintro k1 E σ ⟨n3, hsub2, rfl, hm⟩
              refine CW.weak ?_ hsub2
              cases k1 with
              | zero => cases hm
              | succ k1 =>
                rw [m3_l1] at hm
                refine CW.seq ?_
                refine CW.region ?_
                refine RW.p rfl rfl rfl (Yp.lss rfl rfl rfl) ?_
                refine RW.nil ?_
                refine CW.seq ?_
                refine CW.cond rfl (fun hb8 => ?_) (fun hb8 => ?_)
                ·
                  have hm := ift hm hb8
                  refine CW.skip ?_
                  refine CW.seq ?_
                  refine CW.block ?_
                  refine CW.seq ?_
                  refine CW.region ?_
                  obtain ⟨hc1, hm⟩ := chk hm
                  refine RW.p rfl rfl rfl (Yp.indexSl rfl rfl rfl Try.underlying23 sz29 hc1) ?_
                  refine RW.p rfl rfl rfl (Yp.loadF1 rfl rfl one29 rfl) ?_
                  refine RW.p rfl rfl rfl (Yp.assign rfl rfl) ?_
                  refine RW.nil ?_
                  refine CW.seq ?_
                  refine CW.region ?_
                  refine RW.p rfl rfl rfl (Yp.move rfl rfl) ?_
                  obtain ⟨x4, hx4, hm⟩ := bnd hm
                  refine RW.c rfl rfl rfl (Yc.fnV (σp := []) (args' := [.n .u8 0]) rfl rfl ok15 rfl rfl rfl (VwL.id _) (m15_ok 0 hx4)) ?_
                  rintro _ _ ⟨_, ⟨rfl, rfl⟩, rfl⟩
                  obtain ⟨x5, hx5, hm⟩ := bnd hm
                  refine RW.c rfl rfl rfl (Yc.fnV (σp := []) (args' := [.sl 1 (cN .u8) (x2.fDurable[Int.toNat n3]!), .sl 1 (cN .u8) x4]) rfl rfl ok14 rfl rfl rfl (VwL.id _) (m14_ok (x2.fDurable[Int.toNat n3]!) x4 hx5)) ?_
                  rintro _ _ ⟨_, ⟨rfl, rfl⟩, rfl⟩
                  refine RW.p rfl rfl rfl (Yp.not rfl rfl) ?_
                  refine RW.nil ?_
                  refine CW.cond rfl (fun hb9 => ?_) (fun hb9 => ?_)
                  ·
                    have hm := ift hm hb9
                    refine CW.seq ?_
                    refine CW.region ?_
                    refine RW.p rfl rfl rfl (Yp.assign rfl rfl) ?_
                    refine RW.nil ?_
                    refine CW.ret ?_
                    cases hm
                    have hm := hk3
                    cases hm
                    have hm := hk2
                    cases hm
                    exact fin1 (.inr rfl) rfl (ResIs.tmp rfl) (List.nil_sublist _) ⟨rfl, rfl⟩
                  ·
                    have hm := iff' hm hb9
                    refine CW.skip ?_
                    refine CW.region ?_
                    refine RW.p rfl rfl rfl (Yp.add rfl rfl rfl) ?_
                    refine RW.p rfl rfl rfl (Yp.move rfl rfl) ?_
                    refine RW.nil ?_
                    exact ⟨k1, Nat.lt_succ_self _, _, (Sub.cons rfl (Sub.cons rfl (Sub.cons rfl Sub.nil))), rfl, hm⟩
                ·
                  have hm := iff' hm hb8
                  refine CW.exit ?_
                  cases hm
                  have hm := hk3
                  cases hm
                  exact ⟨rfl, Sub.nil, rfl⟩
          ·
            rintro E σ ⟨rfl, hsub3, rfl⟩
            have hm := hk2
            refine CW.weak ?_ hsub3
            refine CW.seq ?_
            refine CW.region ?_
            refine RW.p rfl rfl rfl (Yp.assign rfl rfl) ?_
            refine RW.nil ?_
            refine CW.ret ?_
            cases hm
            exact fin1 (.inr rfl) rfl (ResIs.tmp rfl) (List.nil_sublist _) ⟨rfl, rfl⟩

def m16_l1 (p0 : Disk) : Nat → Int → Option (Sum Unit Bool)
  | 0, _ => none
  | k1 + 1, n3 =>
    if (decide (n3 < (p0.fDurable.length : Int))) = true then
      if 0 ≤ n3 ∧ n3 < (p0.fDurable.length : Int) then
      if (decide ((200 : Int) < ((p0.fDurable[Int.toNat n3]!).length : Int))) = true then
        some (Sum.inr false)
      else
        m16_l1 p0 k1 (w64 (n3 + 1))
      else none
    else
      some (Sum.inl ())
def m16_l2 (p0 : Disk) : Nat → Int → Option (Sum Unit Bool)
  | 0, _ => none
  | k2 + 1, n6 =>
    if (decide (n6 < (p0.fPending.length : Int))) = true then
      if 0 ≤ n6 ∧ n6 < (p0.fPending.length : Int) then
      if (decide ((200 : Int) < (((p0.fPending[Int.toNat n6]!).fData).length : Int))) = true then
        some (Sum.inr false)
      else
        m16_l2 p0 k2 (w64 (n6 + 1))
      else none
    else
      some (Sum.inl ())
def m16 (p0 : Disk) : Option Bool :=
  Option.bind (
    if (decide ((20 : Int) < (p0.fDurable.length : Int))) = true then
      some true
    else
      some (decide ((40 : Int) < (p0.fPending.length : Int)))) fun c1 =>
  if c1 = true then
    some false
  else
    Option.bind (
      (m16_l1 p0 (Int.toNat (p0.fDurable.length : Int) + 1) 0).bind fun o3 =>
      match o3 with
      | .inl () =>
        some (Sum.inl ())
      | .inr r =>
        some (Sum.inr r)) fun o2 =>
    match o2 with
    | .inl () =>
      Option.bind (
        (m16_l2 p0 (Int.toNat (p0.fPending.length : Int) + 1) 0).bind fun o5 =>
        match o5 with
        | .inl () =>
          some (Sum.inl ())
        | .inr r =>
          some (Sum.inr r)) fun o4 =>
      match o4 with
      | .inl () =>
        some true
      | .inr r =>
        some r
    | .inr r =>
      some r

theorem m16_ok (p0 : Disk)  {r : Bool} (hm : m16 p0 = some r) : Ab.Fn Try.prog 16 [.agg [.sl 1 (cL 1 (cN .u8)) p0.fDurable, .sl 2 Write.cells p0.fPending, .i p0.fLeft, .b p0.fDown]] [] (fun a s => a = .b r ∧ s = []) := by
  rw [m16] at hm
  refine Ab.Fn.of Try.func16 rfl rfl rfl (fun C => ?_)
  refine CW.seq ?_
  refine CW.region ?_
  refine RW.v rfl rfl rfl (Yv.box rfl rfl (Pw.p rfl)) ?_
  rintro _ _ ⟨b1, rfl, rfl⟩
  refine RW.p rfl rfl rfl (Yp.assign rfl rfl) ?_
  refine RW.nil ?_
  refine CW.seq ?_
  refine CW.seq ?_
  obtain ⟨c1, hs1, hk1⟩ := bnd hm
  refine CW.cut (fun E σ => Sub [(1, .lit (.pointer (some ⟨b1, 0, none⟩))), (16, .b c1)] E ∧ σ = [.box b1 26 [.sl 1 (cL 1 (cN .u8)) p0.fDurable, .sl 2 Write.cells p0.fPending, .i p0.fLeft, .b p0.fDown]]) ?_ ?_
  ·
    have hm := hs1
    refine CW.region ?_
    refine RW.p rfl rfl rfl (Yp.fieldP rfl rfl Try.underlying26 rfl sz23) ?_
    refine RW.p rfl rfl rfl (Yp.loadB1 0 rfl rfl rfl one23 rfl) ?_
    refine RW.p rfl rfl rfl (Yp.lenSl rfl rfl Try.underlying23) ?_
    refine RW.p rfl rfl rfl (Yp.gtr rfl rfl rfl) ?_
    refine RW.p rfl rfl rfl (Yp.move rfl rfl) ?_
    rcases Bool.eq_false_or_eq_true (decide ((20 : Int) < (p0.fDurable.length : Int))) with hb1 | hb1
    ·
      have hm := ift hm hb1
      refine RW.eqv 11 rfl (congrArg AV.b hb1) ?_
      refine RW.skip rfl rfl rfl ?_
      refine RW.skip rfl rfl rfl ?_
      refine RW.skip rfl rfl rfl ?_
      refine RW.skip rfl rfl rfl ?_
      refine RW.p rfl rfl rfl (Yp.pickT rfl rfl rfl) ?_
      refine RW.nil ?_
      cases hm
      exact ⟨(Sub.cons rfl (Sub.cons rfl Sub.nil)), rfl⟩
    ·
      have hm := iff' hm hb1
      refine RW.eqv 11 rfl (congrArg AV.b hb1) ?_
      refine RW.p rfl rfl rfl (Yp.fieldP rfl rfl Try.underlying26 rfl sz24) ?_
      refine RW.p rfl rfl rfl (Yp.loadB1 0 rfl rfl rfl one24 rfl) ?_
      refine RW.p rfl rfl rfl (Yp.lenSl rfl rfl Try.underlying24) ?_
      refine RW.p rfl rfl rfl (Yp.gtr rfl rfl rfl) ?_
      refine RW.p rfl rfl rfl (Yp.pickF rfl rfl rfl) ?_
      refine RW.nil ?_
      cases hm
      exact ⟨(Sub.cons rfl (Sub.cons rfl Sub.nil)), rfl⟩
  ·
    rintro E σ ⟨hsub1, rfl⟩
    have hm := hk1
    refine CW.weak ?_ hsub1
    refine CW.cond rfl (fun hb2 => ?_) (fun hb2 => ?_)
    ·
      have hm := ift hm hb2
      refine CW.seq ?_
      refine CW.region ?_
      refine RW.p rfl rfl rfl (Yp.assign rfl rfl) ?_
      refine RW.nil ?_
      refine CW.ret ?_
      cases hm
      exact fin1 (.inr rfl) rfl (ResIs.tmp rfl) (List.nil_sublist _) ⟨rfl, rfl⟩
    ·
      have hm := iff' hm hb2
      refine CW.skip ?_
      refine CW.seq ?_
      obtain ⟨o2, hs2, hk2⟩ := bnd hm
      refine CW.cut (fun E σ => o2 = Sum.inl () ∧ Sub [(1, .lit (.pointer (some ⟨b1, 0, none⟩)))] E ∧ σ = [.box b1 26 [.sl 1 (cL 1 (cN .u8)) p0.fDurable, .sl 2 Write.cells p0.fPending, .i p0.fLeft, .b p0.fDown]]) ?_ ?_
      ·
        have hm := hs2
        refine CW.seq ?_
        refine CW.region ?_
        refine RW.p rfl rfl rfl (Yp.fieldP rfl rfl Try.underlying26 rfl sz23) ?_
        refine RW.p rfl rfl rfl (Yp.loadB1 0 rfl rfl rfl one23 rfl) ?_
        refine RW.p rfl rfl rfl (Yp.lenSl rfl rfl Try.underlying23) ?_
        refine RW.p rfl rfl rfl (Yp.move rfl rfl) ?_
        refine RW.nil ?_
        refine CW.block ?_
        obtain ⟨o3, hs3, hk3⟩ := bnd hm
        refine CW.lp (fun k1 E σ => ∃ n3 : Int, Sub [(1, .lit (.pointer (some ⟨b1, 0, none⟩))), (18, .sl 1 (cL 1 (cN .u8)) p0.fDurable), (19, .i (p0.fDurable.length : Int)), (20, .i n3)] E ∧ σ = [.box b1 26 [.sl 1 (cL 1 (cN .u8)) p0.fDurable, .sl 2 Write.cells p0.fPending, .i p0.fLeft, .b p0.fDown]] ∧ m16_l1 p0 k1 n3 = some o3) (Int.toNat (p0.fDurable.length : Int) + 1) ?_ ?_
        · exact ⟨0, (Sub.cons rfl (Sub.cons rfl (Sub.cons rfl (Sub.cons rfl Sub.nil)))), rfl, hs3⟩
        ·
          rintro k1 E σ ⟨n3, hsub2, rfl, hm⟩
          refine CW.weak ?_ hsub2
          cases k1 with
          | zero => cases hm
          | succ k1 =>
            rw [m16_l1] at hm
            refine CW.seq ?_
            refine CW.region ?_
            refine RW.p rfl rfl rfl (Yp.lss rfl rfl rfl) ?_
            refine RW.nil ?_
            refine CW.seq ?_
            refine CW.cond rfl (fun hb3 => ?_) (fun hb3 => ?_)
            ·
              have hm := ift hm hb3
              refine CW.skip ?_
              refine CW.seq ?_
              refine CW.block ?_
              refine CW.seq ?_
              refine CW.region ?_
              obtain ⟨hc1, hm⟩ := chk hm
              refine RW.p rfl rfl rfl (Yp.indexSl rfl rfl rfl Try.underlying23 sz29 hc1) ?_
              refine RW.p rfl rfl rfl (Yp.loadF1 rfl rfl one29 rfl) ?_
              refine RW.p rfl rfl rfl (Yp.assign rfl rfl) ?_
              refine RW.nil ?_
              refine CW.seq ?_
              refine CW.region ?_
              refine RW.p rfl rfl rfl (Yp.move rfl rfl) ?_
              refine RW.p rfl rfl rfl (Yp.lenSl rfl rfl Try.underlying29) ?_
              refine RW.p rfl rfl rfl (Yp.gtr rfl rfl rfl) ?_
              refine RW.nil ?_
              refine CW.cond rfl (fun hb4 => ?_) (fun hb4 => ?_)
              ·
                have hm := ift hm hb4
                refine CW.seq ?_
                refine CW.region ?_
                refine RW.p rfl rfl rfl (Yp.assign rfl rfl) ?_
                refine RW.nil ?_
                refine CW.ret ?_
                cases hm
                have hm := hk3
                cases hm
                have hm := hk2
                cases hm
                exact fin1 (.inr rfl) rfl (ResIs.tmp rfl) (List.nil_sublist _) ⟨rfl, rfl⟩
              ·
                have hm := iff' hm hb4
                refine CW.skip ?_
                refine CW.region ?_
                refine RW.p rfl rfl rfl (Yp.add rfl rfl rfl) ?_
                refine RW.p rfl rfl rfl (Yp.move rfl rfl) ?_
                refine RW.nil ?_
                exact ⟨k1, Nat.lt_succ_self _, _, (Sub.cons rfl (Sub.cons rfl (Sub.cons rfl (Sub.cons rfl Sub.nil)))), rfl, hm⟩
            ·
              have hm := iff' hm hb3
              refine CW.exit ?_
              cases hm
              have hm := hk3
              cases hm
              exact ⟨rfl, (Sub.cons rfl Sub.nil), rfl⟩
      ·
        rintro E σ ⟨rfl, hsub3, rfl⟩
        have hm := hk2
        refine CW.weak ?_ hsub3
        refine CW.seq ?_
        obtain ⟨o4, hs4, hk4⟩ := bnd hm
        refine CW.cut (fun E σ => o4 = Sum.inl () ∧ Sub [] E ∧ σ = []) ?_ ?_
        ·
          have hm := hs4
          refine CW.seq ?_
          refine CW.region ?_
          refine RW.p rfl rfl rfl (Yp.fieldP rfl rfl Try.underlying26 rfl sz24) ?_
          refine RW.p rfl rfl rfl (Yp.loadB1 0 rfl rfl rfl one24 rfl) ?_
          refine RW.p rfl rfl rfl (Yp.lenSl rfl rfl Try.underlying24) ?_
          refine RW.p rfl rfl rfl (Yp.move rfl rfl) ?_
          refine RW.nil ?_
          refine CW.block ?_
          refine CW.sel [] rfl ?_
          obtain ⟨o5, hs5, hk5⟩ := bnd hm
          refine CW.lp (fun k2 E σ => ∃ n6 : Int, Sub [(29, .sl 2 Write.cells p0.fPending), (30, .i (p0.fPending.length : Int)), (31, .i n6)] E ∧ σ = [] ∧ m16_l2 p0 k2 n6 = some o5) (Int.toNat (p0.fPending.length : Int) + 1) ?_ ?_
          · exact ⟨0, (Sub.cons rfl (Sub.cons rfl (Sub.cons rfl Sub.nil))), rfl, hs5⟩
          ·
            rintro k2 E σ ⟨n6, hsub4, rfl, hm⟩
            refine CW.weak ?_ hsub4
            cases k2 with
            | zero => cases hm
            | succ k2 =>
              rw [m16_l2] at hm
              refine CW.seq ?_
              refine CW.region ?_
              refine RW.p rfl rfl rfl (Yp.lss rfl rfl rfl) ?_
              refine RW.nil ?_
              refine CW.seq ?_
              refine CW.cond rfl (fun hb5 => ?_) (fun hb5 => ?_)
              ·
                have hm := ift hm hb5
                refine CW.skip ?_
                refine CW.seq ?_
                refine CW.block ?_
                refine CW.seq ?_
                refine CW.region ?_
                obtain ⟨hc2, hm⟩ := chk hm
                refine RW.p rfl rfl rfl (Yp.indexSl rfl rfl rfl Try.underlying24 sz56 hc2) ?_
                refine RW.p rfl rfl rfl (Yp.loadFN rfl rfl many56 (Nat.le_of_ble_eq_true rfl)) ?_
                refine RW.v rfl rfl rfl (Yv.alloc rfl zerb56) ?_
                rintro _ _ ⟨b2, rfl, rfl⟩
                refine RW.u rfl rfl (Yu.storeB 0 rfl rfl rfl rfl sz56 (Pw.p rfl) rfl (Nat.le_of_ble_eq_true rfl)) ?_
                refine RW.nil ?_
                refine CW.seq ?_
                refine CW.region ?_
                refine RW.p rfl rfl rfl (Yp.fieldP rfl rfl Try.underlying56 rfl sz29) ?_
                refine RW.p rfl rfl rfl (Yp.loadB1 0 rfl rfl rfl one29 rfl) ?_
                refine RW.p rfl rfl rfl (Yp.lenSl rfl rfl Try.underlying29) ?_
                refine RW.p rfl rfl rfl (Yp.gtr rfl rfl rfl) ?_
                refine RW.nil ?_
                refine CW.cond rfl (fun hb6 => ?_) (fun hb6 => ?_)
                ·
                  have hm := ift hm hb6
                  refine CW.seq ?_
                  refine CW.region ?_
                  refine RW.p rfl rfl rfl (Yp.assign rfl rfl) ?_
                  refine RW.nil ?_
                  refine CW.ret ?_
                  cases hm
                  have hm := hk5
                  cases hm
                  have hm := hk4
                  cases hm
                  exact fin1 (.inr rfl) rfl (ResIs.tmp rfl) (List.nil_sublist _) ⟨rfl, rfl⟩
                ·
                  have hm := iff' hm hb6
                  refine CW.skip ?_
                  refine CW.region ?_
                  refine RW.p rfl rfl rfl (Yp.add rfl rfl rfl) ?_
                  refine RW.p rfl rfl rfl (Yp.move rfl rfl) ?_
                  refine RW.sel [] rfl ?_
                  refine RW.nil ?_
                  exact ⟨k2, Nat.lt_succ_self _, _, (Sub.cons rfl (Sub.cons rfl (Sub.cons rfl Sub.nil))), rfl, hm⟩
              ·
                have hm := iff' hm hb5
                refine CW.exit ?_
                cases hm
                have hm := hk5
                cases hm
                exact ⟨rfl, Sub.nil, rfl⟩
        ·
          rintro E σ ⟨rfl, hsub5, rfl⟩
          have hm := hk4
          refine CW.weak ?_ hsub5
          refine CW.seq ?_
          refine CW.region ?_
          refine RW.p rfl rfl rfl (Yp.assign rfl rfl) ?_
          refine RW.nil ?_
          refine CW.ret ?_
          cases hm
          exact fin1 (.inr rfl) rfl (ResIs.tmp rfl) (List.nil_sublist _) ⟨rfl, rfl⟩

def m25_l1 (p0 : Disk) : Nat → Int → Option (Sum Unit Bool)
  | 0, _ => none
  | k1 + 1, n3 =>
    if (decide (n3 < (p0.fDurable.length : Int))) = true then
      if 0 ≤ n3 ∧ n3 < (p0.fDurable.length : Int) then
      if (!decide (((p0.fDurable[Int.toNat n3]!).length : Int) = 96)) = true then
        some (Sum.inr false)
      else
        m25_l1 p0 k1 (w64 (n3 + 1))
      else none
    else
      some (Sum.inl ())
def m25_l2 (p0 : Disk) : Nat → Int → Option (Sum Unit Bool)
  | 0, _ => none
  | k2 + 1, n6 =>
    if (decide (n6 < (p0.fPending.length : Int))) = true then
      if 0 ≤ n6 ∧ n6 < (p0.fPending.length : Int) then
      Option.bind (
        if (decide (((p0.fPending[Int.toNat n6]!).fAt) < 0)) = true then
          some true
        else
          if (decide ((p0.fDurable.length : Int) ≤ ((p0.fPending[Int.toNat n6]!).fAt))) = true then
            some true
          else
            some (!decide ((((p0.fPending[Int.toNat n6]!).fData).length : Int) = 96))) fun c2 =>
      if c2 = true then
        some (Sum.inr false)
      else
        m25_l2 p0 k2 (w64 (n6 + 1))
      else none
    else
      some (Sum.inl ())
def m25 (p0 : Disk) : Option Bool :=
  Option.bind (
    if (decide ((p0.fDurable.length : Int) < 1)) = true then
      some true
    else
      if (decide ((4096 : Int) < (p0.fDurable.length : Int))) = true then
        some true
      else
        some (decide ((8192 : Int) < (p0.fPending.length : Int)))) fun c1 =>
  if c1 = true then
    some false
  else
    Option.bind (
      (m25_l1 p0 (Int.toNat (p0.fDurable.length : Int) + 1) 0).bind fun o3 =>
      match o3 with
      | .inl () =>
        some (Sum.inl ())
      | .inr r =>
        some (Sum.inr r)) fun o2 =>
    match o2 with
    | .inl () =>
      Option.bind (
        (m25_l2 p0 (Int.toNat (p0.fPending.length : Int) + 1) 0).bind fun o5 =>
        match o5 with
        | .inl () =>
          some (Sum.inl ())
        | .inr r =>
          some (Sum.inr r)) fun o4 =>
      match o4 with
      | .inl () =>
        some true
      | .inr r =>
        some r
    | .inr r =>
      some r

theorem m25_ok (p0 : Disk)  {r : Bool} (hm : m25 p0 = some r) : Ab.Fn Try.prog 25 [.agg [.sl 1 (cL 1 (cN .u8)) p0.fDurable, .sl 2 Write.cells p0.fPending, .i p0.fLeft, .b p0.fDown]] [] (fun a s => a = .b r ∧ s = []) := by
  rw [m25] at hm
  refine Ab.Fn.of Try.func25 rfl rfl rfl (fun C => ?_)
  refine CW.seq ?_
  refine CW.region ?_
  refine RW.v rfl rfl rfl (Yv.box rfl rfl (Pw.p rfl)) ?_
  rintro _ _ ⟨b1, rfl, rfl⟩
  refine RW.p rfl rfl rfl (Yp.assign rfl rfl) ?_
  refine RW.nil ?_
  refine CW.seq ?_
  refine CW.seq ?_
  obtain ⟨c1, hs1, hk1⟩ := bnd hm
  refine CW.cut (fun E σ => Sub [(1, .lit (.pointer (some ⟨b1, 0, none⟩))), (22, .b c1)] E ∧ σ = [.box b1 26 [.sl 1 (cL 1 (cN .u8)) p0.fDurable, .sl 2 Write.cells p0.fPending, .i p0.fLeft, .b p0.fDown]]) ?_ ?_
  ·
    have hm := hs1
    refine CW.region ?_
    refine RW.p rfl rfl rfl (Yp.fieldP rfl rfl Try.underlying26 rfl sz23) ?_
    refine RW.p rfl rfl rfl (Yp.loadB1 0 rfl rfl rfl one23 rfl) ?_
    refine RW.p rfl rfl rfl (Yp.lenSl rfl rfl Try.underlying23) ?_
    refine RW.p rfl rfl rfl (Yp.lss rfl rfl rfl) ?_
    refine RW.p rfl rfl rfl (Yp.move rfl rfl) ?_
    rcases Bool.eq_false_or_eq_true (decide ((p0.fDurable.length : Int) < 1)) with hb1 | hb1
    ·
      have hm := ift hm hb1
      refine RW.eqv 11 rfl (congrArg AV.b hb1) ?_
      refine RW.skip rfl rfl rfl ?_
      refine RW.skip rfl rfl rfl ?_
      refine RW.skip rfl rfl rfl ?_
      refine RW.skip rfl rfl rfl ?_
      refine RW.p rfl rfl rfl (Yp.pickT rfl rfl rfl) ?_
      refine RW.p rfl rfl rfl (Yp.move rfl rfl) ?_
      refine RW.skip rfl rfl rfl ?_
      refine RW.skip rfl rfl rfl ?_
      refine RW.skip rfl rfl rfl ?_
      refine RW.skip rfl rfl rfl ?_
      refine RW.p rfl rfl rfl (Yp.pickT rfl rfl rfl) ?_
      refine RW.nil ?_
      cases hm
      exact ⟨(Sub.cons rfl (Sub.cons rfl Sub.nil)), rfl⟩
    ·
      have hm := iff' hm hb1
      refine RW.eqv 11 rfl (congrArg AV.b hb1) ?_
      refine RW.p rfl rfl rfl (Yp.fieldP rfl rfl Try.underlying26 rfl sz23) ?_
      refine RW.p rfl rfl rfl (Yp.loadB1 0 rfl rfl rfl one23 rfl) ?_
      refine RW.p rfl rfl rfl (Yp.lenSl rfl rfl Try.underlying23) ?_
      refine RW.p rfl rfl rfl (Yp.gtr rfl rfl rfl) ?_
      refine RW.p rfl rfl rfl (Yp.pickF rfl rfl rfl) ?_
      refine RW.p rfl rfl rfl (Yp.move rfl rfl) ?_
      rcases Bool.eq_false_or_eq_true (decide ((4096 : Int) < (p0.fDurable.length : Int))) with hb2 | hb2
      ·
        have hm := ift hm hb2
        refine RW.eqv 17 rfl (congrArg AV.b hb2) ?_
        refine RW.skip rfl rfl rfl ?_
        refine RW.skip rfl rfl rfl ?_
        refine RW.skip rfl rfl rfl ?_
        refine RW.skip rfl rfl rfl ?_
        refine RW.p rfl rfl rfl (Yp.pickT rfl rfl rfl) ?_
        refine RW.nil ?_
        cases hm
        exact ⟨(Sub.cons rfl (Sub.cons rfl Sub.nil)), rfl⟩
      ·
        have hm := iff' hm hb2
        refine RW.eqv 17 rfl (congrArg AV.b hb2) ?_
        refine RW.p rfl rfl rfl (Yp.fieldP rfl rfl Try.underlying26 rfl sz24) ?_
        refine RW.p rfl rfl rfl (Yp.loadB1 0 rfl rfl rfl one24 rfl) ?_
        refine RW.p rfl rfl rfl (Yp.lenSl rfl rfl Try.underlying24) ?_
        refine RW.p rfl rfl rfl (Yp.gtr rfl rfl rfl) ?_
        refine RW.p rfl rfl rfl (Yp.pickF rfl rfl rfl) ?_
        refine RW.nil ?_
        cases hm
        exact ⟨(Sub.cons rfl (Sub.cons rfl Sub.nil)), rfl⟩
  ·
    rintro E σ ⟨hsub1, rfl⟩
    have hm := hk1
    refine CW.weak ?_ hsub1
    refine CW.cond rfl (fun hb3 => ?_) (fun hb3 => ?_)
    ·
      have hm := ift hm hb3
      refine CW.seq ?_
      refine CW.region ?_
      refine RW.p rfl rfl rfl (Yp.assign rfl rfl) ?_
      refine RW.nil ?_
      refine CW.ret ?_
      cases hm
      exact fin1 (.inr rfl) rfl (ResIs.tmp rfl) (List.nil_sublist _) ⟨rfl, rfl⟩
    ·
      have hm := iff' hm hb3
      refine CW.skip ?_
      refine CW.seq ?_
      obtain ⟨o2, hs2, hk2⟩ := bnd hm
      refine CW.cut (fun E σ => o2 = Sum.inl () ∧ Sub [(1, .lit (.pointer (some ⟨b1, 0, none⟩)))] E ∧ σ = [.box b1 26 [.sl 1 (cL 1 (cN .u8)) p0.fDurable, .sl 2 Write.cells p0.fPending, .i p0.fLeft, .b p0.fDown]]) ?_ ?_
      ·
        have hm := hs2
        refine CW.seq ?_
        refine CW.region ?_
        refine RW.p rfl rfl rfl (Yp.fieldP rfl rfl Try.underlying26 rfl sz23) ?_
        refine RW.p rfl rfl rfl (Yp.loadB1 0 rfl rfl rfl one23 rfl) ?_
        refine RW.p rfl rfl rfl (Yp.lenSl rfl rfl Try.underlying23) ?_
        refine RW.p rfl rfl rfl (Yp.move rfl rfl) ?_
        refine RW.nil ?_
        refine CW.block ?_
        obtain ⟨o3, hs3, hk3⟩ := bnd hm
        refine CW.lp (fun k1 E σ => ∃ n3 : Int, Sub [(1, .lit (.pointer (some ⟨b1, 0, none⟩))), (24, .sl 1 (cL 1 (cN .u8)) p0.fDurable), (25, .i (p0.fDurable.length : Int)), (26, .i n3)] E ∧ σ = [.box b1 26 [.sl 1 (cL 1 (cN .u8)) p0.fDurable, .sl 2 Write.cells p0.fPending, .i p0.fLeft, .b p0.fDown]] ∧ m25_l1 p0 k1 n3 = some o3) (Int.toNat (p0.fDurable.length : Int) + 1) ?_ ?_
        · exact ⟨0, (Sub.cons rfl (Sub.cons rfl (Sub.cons rfl (Sub.cons rfl Sub.nil)))), rfl, hs3⟩
        ·
          rintro k1 E σ ⟨n3, hsub2, rfl, hm⟩
          refine CW.weak ?_ hsub2
          cases k1 with
          | zero => cases hm
          | succ k1 =>
            rw [m25_l1] at hm
            refine CW.seq ?_
            refine CW.region ?_
            refine RW.p rfl rfl rfl (Yp.lss rfl rfl rfl) ?_
            refine RW.nil ?_
            refine CW.seq ?_
            refine CW.cond rfl (fun hb4 => ?_) (fun hb4 => ?_)
            ·
              have hm := ift hm hb4
              refine CW.skip ?_
              refine CW.seq ?_
              refine CW.block ?_
              refine CW.seq ?_
              refine CW.region ?_
              obtain ⟨hc1, hm⟩ := chk hm
              refine RW.p rfl rfl rfl (Yp.indexSl rfl rfl rfl Try.underlying23 sz29 hc1) ?_
              refine RW.p rfl rfl rfl (Yp.loadF1 rfl rfl one29 rfl) ?_
              refine RW.p rfl rfl rfl (Yp.assign rfl rfl) ?_
              refine RW.nil ?_
              refine CW.seq ?_
              refine CW.region ?_
              refine RW.p rfl rfl rfl (Yp.move rfl rfl) ?_
              refine RW.p rfl rfl rfl (Yp.lenSl rfl rfl Try.underlying29) ?_
              refine RW.p rfl rfl rfl (Yp.neq rfl rfl rfl) ?_
              refine RW.nil ?_
              refine CW.cond rfl (fun hb5 => ?_) (fun hb5 => ?_)
              ·
                have hm := ift hm hb5
                refine CW.seq ?_
                refine CW.region ?_
                refine RW.p rfl rfl rfl (Yp.assign rfl rfl) ?_
                refine RW.nil ?_
                refine CW.ret ?_
                cases hm
                have hm := hk3
                cases hm
                have hm := hk2
                cases hm
                exact fin1 (.inr rfl) rfl (ResIs.tmp rfl) (List.nil_sublist _) ⟨rfl, rfl⟩
              ·
                have hm := iff' hm hb5
                refine CW.skip ?_
                refine CW.region ?_
                refine RW.p rfl rfl rfl (Yp.add rfl rfl rfl) ?_
                refine RW.p rfl rfl rfl (Yp.move rfl rfl) ?_
                refine RW.nil ?_
                exact ⟨k1, Nat.lt_succ_self _, _, (Sub.cons rfl (Sub.cons rfl (Sub.cons rfl (Sub.cons rfl Sub.nil)))), rfl, hm⟩
            ·
              have hm := iff' hm hb4
              refine CW.exit ?_
              cases hm
              have hm := hk3
              cases hm
              exact ⟨rfl, (Sub.cons rfl Sub.nil), rfl⟩
      ·
        rintro E σ ⟨rfl, hsub3, rfl⟩
        have hm := hk2
        refine CW.weak ?_ hsub3
        refine CW.seq ?_
        obtain ⟨o4, hs4, hk4⟩ := bnd hm
        refine CW.cut (fun E σ => o4 = Sum.inl () ∧ Sub [] E ∧ σ = []) ?_ ?_
        ·
          have hm := hs4
          refine CW.seq ?_
          refine CW.region ?_
          refine RW.p rfl rfl rfl (Yp.fieldP rfl rfl Try.underlying26 rfl sz24) ?_
          refine RW.p rfl rfl rfl (Yp.loadB1 0 rfl rfl rfl one24 rfl) ?_
          refine RW.p rfl rfl rfl (Yp.lenSl rfl rfl Try.underlying24) ?_
          refine RW.p rfl rfl rfl (Yp.move rfl rfl) ?_
          refine RW.nil ?_
          refine CW.block ?_
          obtain ⟨o5, hs5, hk5⟩ := bnd hm
          refine CW.lp (fun k2 E σ => ∃ n6 : Int, Sub [(1, .lit (.pointer (some ⟨b1, 0, none⟩))), (35, .sl 2 Write.cells p0.fPending), (36, .i (p0.fPending.length : Int)), (37, .i n6)] E ∧ σ = [.box b1 26 [.sl 1 (cL 1 (cN .u8)) p0.fDurable, .sl 2 Write.cells p0.fPending, .i p0.fLeft, .b p0.fDown]] ∧ m25_l2 p0 k2 n6 = some o5) (Int.toNat (p0.fPending.length : Int) + 1) ?_ ?_
          · exact ⟨0, (Sub.cons rfl (Sub.cons rfl (Sub.cons rfl (Sub.cons rfl Sub.nil)))), rfl, hs5⟩
          ·
            rintro k2 E σ ⟨n6, hsub4, rfl, hm⟩
            refine CW.weak ?_ hsub4
            cases k2 with
            | zero => cases hm
            | succ k2 =>
              rw [m25_l2] at hm
              refine CW.seq ?_
              refine CW.region ?_
              refine RW.p rfl rfl rfl (Yp.lss rfl rfl rfl) ?_
              refine RW.nil ?_
              refine CW.seq ?_
              refine CW.cond rfl (fun hb6 => ?_) (fun hb6 => ?_)
              ·
                have hm := ift hm hb6
                refine CW.skip ?_
                refine CW.seq ?_
                refine CW.block ?_
                refine CW.seq ?_
                refine CW.region ?_
                obtain ⟨hc2, hm⟩ := chk hm
                refine RW.p rfl rfl rfl (Yp.indexSl rfl rfl rfl Try.underlying24 sz56 hc2) ?_
                refine RW.p rfl rfl rfl (Yp.loadFN rfl rfl many56 (Nat.le_of_ble_eq_true rfl)) ?_
                refine RW.v rfl rfl rfl (Yv.alloc rfl zerb56) ?_
                rintro _ _ ⟨b2, rfl, rfl⟩
                refine RW.u rfl rfl (Yu.storeB 0 rfl rfl rfl rfl sz56 (Pw.p rfl) rfl (Nat.le_of_ble_eq_true rfl)) ?_
                refine RW.nil ?_
                refine CW.seq ?_
                obtain ⟨c2, hs6, hk6⟩ := bnd hm
                refine CW.cut (fun E σ => Sub [(1, .lit (.pointer (some ⟨b1, 0, none⟩))), (35, .sl 2 Write.cells p0.fPending), (36, .i (p0.fPending.length : Int)), (37, .i n6), (57, .b c2)] E ∧ σ = [.box b1 26 [.sl 1 (cL 1 (cN .u8)) p0.fDurable, .sl 2 Write.cells p0.fPending, .i p0.fLeft, .b p0.fDown]]) ?_ ?_
                ·
                  have hm := hs6
                  refine CW.region ?_
                  refine RW.p rfl rfl rfl (Yp.fieldP rfl rfl Try.underlying56 rfl sz3) ?_
                  refine RW.p rfl rfl rfl (Yp.loadB1 0 rfl rfl rfl one3 rfl) ?_
                  refine RW.p rfl rfl rfl (Yp.lss rfl rfl rfl) ?_
                  refine RW.p rfl rfl rfl (Yp.move rfl rfl) ?_
                  rcases Bool.eq_false_or_eq_true (decide (((p0.fPending[Int.toNat n6]!).fAt) < 0)) with hb7 | hb7
                  ·
                    have hm := ift hm hb7
                    refine RW.eqv 44 rfl (congrArg AV.b hb7) ?_
                    refine RW.skip rfl rfl rfl ?_
                    refine RW.skip rfl rfl rfl ?_
                    refine RW.skip rfl rfl rfl ?_
                    refine RW.skip rfl rfl rfl ?_
                    refine RW.skip rfl rfl rfl ?_
                    refine RW.skip rfl rfl rfl ?_
                    refine RW.p rfl rfl rfl (Yp.pickT rfl rfl rfl) ?_
                    refine RW.p rfl rfl rfl (Yp.move rfl rfl) ?_
                    refine RW.skip rfl rfl rfl ?_
                    refine RW.skip rfl rfl rfl ?_
                    refine RW.skip rfl rfl rfl ?_
                    refine RW.skip rfl rfl rfl ?_
                    refine RW.p rfl rfl rfl (Yp.pickT rfl rfl rfl) ?_
                    refine RW.sel [1] rfl ?_
                    refine RW.nil ?_
                    cases hm
                    exact ⟨(Sub.cons rfl (Sub.cons rfl (Sub.cons rfl (Sub.cons rfl (Sub.cons rfl Sub.nil))))), rfl⟩
                  ·
                    have hm := iff' hm hb7
                    refine RW.eqv 44 rfl (congrArg AV.b hb7) ?_
                    refine RW.p rfl rfl rfl (Yp.fieldP rfl rfl Try.underlying56 rfl sz3) ?_
                    refine RW.p rfl rfl rfl (Yp.loadB1 0 rfl rfl rfl one3 rfl) ?_
                    refine RW.p rfl rfl rfl (Yp.fieldP rfl rfl Try.underlying26 rfl sz23) ?_
                    refine RW.p rfl rfl rfl (Yp.loadB1 1 rfl rfl rfl one23 rfl) ?_
                    refine RW.p rfl rfl rfl (Yp.lenSl rfl rfl Try.underlying23) ?_
                    refine RW.p rfl rfl rfl (Yp.geq rfl rfl rfl) ?_
                    refine RW.p rfl rfl rfl (Yp.pickF rfl rfl rfl) ?_
                    refine RW.p rfl rfl rfl (Yp.move rfl rfl) ?_
                    rcases Bool.eq_false_or_eq_true (decide ((p0.fDurable.length : Int) ≤ ((p0.fPending[Int.toNat n6]!).fAt))) with hb8 | hb8
                    ·
                      have hm := ift hm hb8
                      refine RW.eqv 52 rfl (congrArg AV.b hb8) ?_
                      refine RW.skip rfl rfl rfl ?_
                      refine RW.skip rfl rfl rfl ?_
                      refine RW.skip rfl rfl rfl ?_
                      refine RW.skip rfl rfl rfl ?_
                      refine RW.p rfl rfl rfl (Yp.pickT rfl rfl rfl) ?_
                      refine RW.sel [1] rfl ?_
                      refine RW.nil ?_
                      cases hm
                      exact ⟨(Sub.cons rfl (Sub.cons rfl (Sub.cons rfl (Sub.cons rfl (Sub.cons rfl Sub.nil))))), rfl⟩
                    ·
                      have hm := iff' hm hb8
                      refine RW.eqv 52 rfl (congrArg AV.b hb8) ?_
                      refine RW.p rfl rfl rfl (Yp.fieldP rfl rfl Try.underlying56 rfl sz29) ?_
                      refine RW.p rfl rfl rfl (Yp.loadB1 0 rfl rfl rfl one29 rfl) ?_
                      refine RW.p rfl rfl rfl (Yp.lenSl rfl rfl Try.underlying29) ?_
                      refine RW.p rfl rfl rfl (Yp.neq rfl rfl rfl) ?_
                      refine RW.p rfl rfl rfl (Yp.pickF rfl rfl rfl) ?_
                      refine RW.sel [1] rfl ?_
                      refine RW.nil ?_
                      cases hm
                      exact ⟨(Sub.cons rfl (Sub.cons rfl (Sub.cons rfl (Sub.cons rfl (Sub.cons rfl Sub.nil))))), rfl⟩
                ·
                  rintro E σ ⟨hsub5, rfl⟩
                  have hm := hk6
                  refine CW.weak ?_ hsub5
                  refine CW.cond rfl (fun hb9 => ?_) (fun hb9 => ?_)
                  ·
                    have hm := ift hm hb9
                    refine CW.seq ?_
                    refine CW.region ?_
                    refine RW.p rfl rfl rfl (Yp.assign rfl rfl) ?_
                    refine RW.nil ?_
                    refine CW.ret ?_
                    cases hm
                    have hm := hk5
                    cases hm
                    have hm := hk4
                    cases hm
                    exact fin1 (.inr rfl) rfl (ResIs.tmp rfl) (List.nil_sublist _) ⟨rfl, rfl⟩
                  ·
                    have hm := iff' hm hb9
                    refine CW.skip ?_
                    refine CW.region ?_
                    refine RW.p rfl rfl rfl (Yp.add rfl rfl rfl) ?_
                    refine RW.p rfl rfl rfl (Yp.move rfl rfl) ?_
                    refine RW.nil ?_
                    exact ⟨k2, Nat.lt_succ_self _, _, (Sub.cons rfl (Sub.cons rfl (Sub.cons rfl (Sub.cons rfl Sub.nil)))), rfl, hm⟩
              ·
                have hm := iff' hm hb6
                refine CW.sel [] rfl ?_
                refine CW.exit ?_
                cases hm
                have hm := hk5
                cases hm
                exact ⟨rfl, Sub.nil, rfl⟩
        ·
          rintro E σ ⟨rfl, hsub6, rfl⟩
          have hm := hk4
          refine CW.weak ?_ hsub6
          refine CW.seq ?_
          refine CW.region ?_
          refine RW.p rfl rfl rfl (Yp.assign rfl rfl) ?_
          refine RW.nil ?_
          refine CW.ret ?_
          cases hm
          exact fin1 (.inr rfl) rfl (ResIs.tmp rfl) (List.nil_sublist _) ⟨rfl, rfl⟩

def m18_l1 (p0 : Disk) (p1 : Int) : Nat → (List Int) → Int → Option (List Int)
  | 0, _, _ => none
  | k1 + 1, l4, n3 =>
    if (decide (n3 < (p0.fPending.length : Int))) = true then
      Option.bind (
        if 0 ≤ n3 ∧ n3 < (p0.fPending.length : Int) then
        if (decide (((p0.fPending[Int.toNat n3]!).fAt) = p1)) = true then
          some ((p0.fPending[Int.toNat n3]!).fData)
        else
          some l4
        else none) fun l6 =>
      m18_l1 p0 p1 k1 l6 (w64 (n3 + 1))
    else
      some l4
def m18 (p0 : Disk) (p1 : Int) : Option (List Int × Int) :=
  (m25 p0).bind fun x1 =>
  if (!x1) = true then
    some ([], 1)
  else
    Option.bind (
      if (decide (p1 < 0)) = true then
        some true
      else
        some (decide ((p0.fDurable.length : Int) ≤ p1))) fun c1 =>
    if c1 = true then
      some ([], 3)
    else
      if p0.fDown = true then
        some ([], 17)
      else
        if 0 ≤ p1 ∧ p1 < (p0.fDurable.length : Int) then
        Option.bind (
          (m18_l1 p0 p1 (Int.toNat (p0.fPending.length : Int) + 1) (p0.fDurable[Int.toNat p1]!) 0).bind fun l5 =>
          some l5) fun l1 =>
        some (l1, 0)
        else none

theorem m18_ok (p0 : Disk) (p1 : Int)  {r : List Int × Int} (hm : m18 p0 p1 = some r) : Ab.Fn Try.prog 18 [.agg [.sl 1 (cL 1 (cN .u8)) p0.fDurable, .sl 2 Write.cells p0.fPending, .i p0.fLeft, .b p0.fDown], .i p1] [] (fun a s => a = .tup [.sl 1 (cN .u8) r.1, .i r.2] ∧ s = []) := by
  rw [m18] at hm
  refine Ab.Fn.of Try.func18 rfl rfl rfl (fun C => ?_)
  refine CW.seq ?_
  refine CW.region ?_
  refine RW.v rfl rfl rfl (Yv.box rfl rfl (Pw.p rfl)) ?_
  rintro _ _ ⟨b1, rfl, rfl⟩
  refine RW.p rfl rfl rfl (Yp.assign rfl rfl) ?_
  refine RW.p rfl rfl rfl (Yp.assign rfl rfl) ?_
  refine RW.nil ?_
  refine CW.seq ?_
  refine CW.seq ?_
  refine CW.region ?_
  refine RW.p rfl rfl rfl (Yp.loadBN 0 rfl rfl rfl many26 (Nat.le_of_ble_eq_true rfl)) ?_
  obtain ⟨x1, hx1, hm⟩ := bnd hm
  refine RW.c rfl rfl rfl (Yc.fnV (σp := []) (args' := [.agg [.sl 1 (cL 1 (cN .u8)) p0.fDurable, .sl 2 Write.cells p0.fPending, .i p0.fLeft, .b p0.fDown]]) rfl rfl ok25 rfl rfl rfl (VwL.id _) (m25_ok p0 hx1)) ?_
  rintro _ _ ⟨_, ⟨rfl, rfl⟩, rfl⟩
  refine RW.p rfl rfl rfl (Yp.not rfl rfl) ?_
  refine RW.nil ?_
  refine CW.cond rfl (fun hb1 => ?_) (fun hb1 => ?_)
  ·
    have hm := ift hm hb1
    refine CW.seq ?_
    refine CW.region ?_
    refine RW.p rfl rfl rfl (Yp.assign rfl rfl) ?_
    refine RW.p rfl rfl rfl (Yp.assign rfl rfl) ?_
    refine RW.nil ?_
    refine CW.say 4 rfl (Vw.nil 1 (cN .u8)) ?_
    refine CW.ret ?_
    cases hm
    exact fin2 (.inr rfl) rfl (ResIs.tmp rfl) (ResIs.tmp rfl) (List.nil_sublist _) ⟨rfl, rfl⟩
  ·
    have hm := iff' hm hb1
    refine CW.skip ?_
    refine CW.seq ?_
    refine CW.seq ?_
    obtain ⟨c1, hs1, hk1⟩ := bnd hm
    refine CW.cut (fun E σ => Sub [(1, .i p1), (2, .lit (.pointer (some ⟨b1, 0, none⟩))), (20, .b c1)] E ∧ σ = [.box b1 26 [.sl 1 (cL 1 (cN .u8)) p0.fDurable, .sl 2 Write.cells p0.fPending, .i p0.fLeft, .b p0.fDown]]) ?_ ?_
    ·
      have hm := hs1
      refine CW.region ?_
      refine RW.p rfl rfl rfl (Yp.move rfl rfl) ?_
      refine RW.p rfl rfl rfl (Yp.lss rfl rfl rfl) ?_
      refine RW.p rfl rfl rfl (Yp.move rfl rfl) ?_
      rcases Bool.eq_false_or_eq_true (decide (p1 < 0)) with hb2 | hb2
      ·
        have hm := ift hm hb2
        refine RW.eqv 14 rfl (congrArg AV.b hb2) ?_
        refine RW.skip rfl rfl rfl ?_
        refine RW.skip rfl rfl rfl ?_
        refine RW.skip rfl rfl rfl ?_
        refine RW.skip rfl rfl rfl ?_
        refine RW.skip rfl rfl rfl ?_
        refine RW.p rfl rfl rfl (Yp.pickT rfl rfl rfl) ?_
        refine RW.nil ?_
        cases hm
        exact ⟨(Sub.cons rfl (Sub.cons rfl (Sub.cons rfl Sub.nil))), rfl⟩
      ·
        have hm := iff' hm hb2
        refine RW.eqv 14 rfl (congrArg AV.b hb2) ?_
        refine RW.p rfl rfl rfl (Yp.move rfl rfl) ?_
        refine RW.p rfl rfl rfl (Yp.fieldP rfl rfl Try.underlying26 rfl sz23) ?_
        refine RW.p rfl rfl rfl (Yp.loadB1 0 rfl rfl rfl one23 rfl) ?_
        refine RW.p rfl rfl rfl (Yp.lenSl rfl rfl Try.underlying23) ?_
        refine RW.p rfl rfl rfl (Yp.geq rfl rfl rfl) ?_
        refine RW.p rfl rfl rfl (Yp.pickF rfl rfl rfl) ?_
        refine RW.nil ?_
        cases hm
        exact ⟨(Sub.cons rfl (Sub.cons rfl (Sub.cons rfl Sub.nil))), rfl⟩
    ·
      rintro E σ ⟨hsub1, rfl⟩
      have hm := hk1
      refine CW.weak ?_ hsub1
      refine CW.cond rfl (fun hb3 => ?_) (fun hb3 => ?_)
      ·
        have hm := ift hm hb3
        refine CW.seq ?_
        refine CW.region ?_
        refine RW.p rfl rfl rfl (Yp.assign rfl rfl) ?_
        refine RW.p rfl rfl rfl (Yp.assign rfl rfl) ?_
        refine RW.nil ?_
        refine CW.say 4 rfl (Vw.nil 1 (cN .u8)) ?_
        refine CW.ret ?_
        cases hm
        exact fin2 (.inr rfl) rfl (ResIs.tmp rfl) (ResIs.tmp rfl) (List.nil_sublist _) ⟨rfl, rfl⟩
      ·
        have hm := iff' hm hb3
        refine CW.skip ?_
        refine CW.seq ?_
        refine CW.seq ?_
        refine CW.region ?_
        refine RW.p rfl rfl rfl (Yp.fieldP rfl rfl Try.underlying26 rfl sz4) ?_
        refine RW.p rfl rfl rfl (Yp.loadB1 0 rfl rfl rfl one4 rfl) ?_
        refine RW.nil ?_
        refine CW.cond rfl (fun hb4 => ?_) (fun hb4 => ?_)
        ·
          have hm := ift hm hb4
          refine CW.seq ?_
          refine CW.region ?_
          refine RW.p rfl rfl rfl (Yp.assign rfl rfl) ?_
          refine RW.p rfl rfl rfl (Yp.assign rfl rfl) ?_
          refine RW.nil ?_
          refine CW.say 4 rfl (Vw.nil 1 (cN .u8)) ?_
          refine CW.ret ?_
          cases hm
          exact fin2 (.inr rfl) rfl (ResIs.tmp rfl) (ResIs.tmp rfl) (List.nil_sublist _) ⟨rfl, rfl⟩
        ·
          have hm := iff' hm hb4
          refine CW.skip ?_
          refine CW.seq ?_
          refine CW.region ?_
          refine RW.p rfl rfl rfl (Yp.fieldP rfl rfl Try.underlying26 rfl sz23) ?_
          refine RW.p rfl rfl rfl (Yp.loadB1 0 rfl rfl rfl one23 rfl) ?_
          refine RW.p rfl rfl rfl (Yp.move rfl rfl) ?_
          obtain ⟨hc1, hm⟩ := chk hm
          refine RW.p rfl rfl rfl (Yp.indexSl rfl rfl rfl Try.underlying23 sz29 hc1) ?_
          refine RW.p rfl rfl rfl (Yp.loadF1 rfl rfl one29 rfl) ?_
          refine RW.p rfl rfl rfl (Yp.assign rfl rfl) ?_
          refine RW.nil ?_
          refine CW.seq ?_
          obtain ⟨l1, hs2, hk2⟩ := bnd hm
          refine CW.cut (fun E σ => Sub [(6, .sl 1 (cN .u8) l1)] E ∧ σ = []) ?_ ?_
          ·
            have hm := hs2
            refine CW.seq ?_
            refine CW.region ?_
            refine RW.p rfl rfl rfl (Yp.fieldP rfl rfl Try.underlying26 rfl sz24) ?_
            refine RW.p rfl rfl rfl (Yp.loadB1 0 rfl rfl rfl one24 rfl) ?_
            refine RW.p rfl rfl rfl (Yp.lenSl rfl rfl Try.underlying24) ?_
            refine RW.p rfl rfl rfl (Yp.move rfl rfl) ?_
            refine RW.nil ?_
            refine CW.block ?_
            refine CW.sel [] rfl ?_
            obtain ⟨l5, hs3, hk3⟩ := bnd hm
            refine CW.lp (fun k1 E σ => ∃ l4 : List Int, ∃ n3 : Int, Sub [(1, .i p1), (6, .sl 1 (cN .u8) l4), (29, .sl 2 Write.cells p0.fPending), (30, .i (p0.fPending.length : Int)), (31, .i n3)] E ∧ σ = [] ∧ m18_l1 p0 p1 k1 l4 n3 = some l5) (Int.toNat (p0.fPending.length : Int) + 1) ?_ ?_
            · exact ⟨(p0.fDurable[Int.toNat p1]!), 0, (Sub.cons rfl (Sub.cons rfl (Sub.cons rfl (Sub.cons rfl (Sub.cons rfl Sub.nil))))), rfl, hs3⟩
            ·
              rintro k1 E σ ⟨l4, n3, hsub2, rfl, hm⟩
              refine CW.weak ?_ hsub2
              cases k1 with
              | zero => cases hm
              | succ k1 =>
                rw [m18_l1] at hm
                refine CW.seq ?_
                refine CW.region ?_
                refine RW.p rfl rfl rfl (Yp.lss rfl rfl rfl) ?_
                refine RW.nil ?_
                refine CW.seq ?_
                refine CW.cond rfl (fun hb5 => ?_) (fun hb5 => ?_)
                ·
                  have hm := ift hm hb5
                  refine CW.skip ?_
                  refine CW.seq ?_
                  obtain ⟨l6, hs4, hk4⟩ := bnd hm
                  refine CW.cut (fun E σ => Sub [(1, .i p1), (6, .sl 1 (cN .u8) l6), (29, .sl 2 Write.cells p0.fPending), (30, .i (p0.fPending.length : Int)), (31, .i n3)] E ∧ σ = []) ?_ ?_
                  ·
                    have hm := hs4
                    refine CW.block ?_
                    refine CW.seq ?_
                    refine CW.region ?_
                    obtain ⟨hc2, hm⟩ := chk hm
                    refine RW.p rfl rfl rfl (Yp.indexSl rfl rfl rfl Try.underlying24 sz56 hc2) ?_
                    refine RW.p rfl rfl rfl (Yp.loadFN rfl rfl many56 (Nat.le_of_ble_eq_true rfl)) ?_
                    refine RW.v rfl rfl rfl (Yv.alloc rfl zerb56) ?_
                    rintro _ _ ⟨b2, rfl, rfl⟩
                    refine RW.u rfl rfl (Yu.storeB 0 rfl rfl rfl rfl sz56 (Pw.p rfl) rfl (Nat.le_of_ble_eq_true rfl)) ?_
                    refine RW.nil ?_
                    refine CW.seq ?_
                    refine CW.region ?_
                    refine RW.p rfl rfl rfl (Yp.fieldP rfl rfl Try.underlying56 rfl sz3) ?_
                    refine RW.p rfl rfl rfl (Yp.loadB1 0 rfl rfl rfl one3 rfl) ?_
                    refine RW.p rfl rfl rfl (Yp.move rfl rfl) ?_
                    refine RW.p rfl rfl rfl (Yp.eql rfl rfl rfl) ?_
                    refine RW.nil ?_
                    refine CW.cond rfl (fun hb6 => ?_) (fun hb6 => ?_)
                    ·
                      have hm := ift hm hb6
                      refine CW.region ?_
                      refine RW.p rfl rfl rfl (Yp.fieldP rfl rfl Try.underlying56 rfl sz29) ?_
                      refine RW.p rfl rfl rfl (Yp.loadB1 0 rfl rfl rfl one29 rfl) ?_
                      refine RW.p rfl rfl rfl (Yp.assign rfl rfl) ?_
                      refine RW.sel [] rfl ?_
                      refine RW.nil ?_
                      cases hm
                      exact ⟨(Sub.cons rfl (Sub.cons rfl (Sub.cons rfl (Sub.cons rfl (Sub.cons rfl Sub.nil))))), rfl⟩
                    ·
                      have hm := iff' hm hb6
                      refine CW.sel [] rfl ?_
                      refine CW.skip ?_
                      cases hm
                      exact ⟨(Sub.cons rfl (Sub.cons rfl (Sub.cons rfl (Sub.cons rfl (Sub.cons rfl Sub.nil))))), rfl⟩
                  ·
                    rintro E σ ⟨hsub3, rfl⟩
                    have hm := hk4
                    refine CW.weak ?_ hsub3
                    refine CW.region ?_
                    refine RW.p rfl rfl rfl (Yp.add rfl rfl rfl) ?_
                    refine RW.p rfl rfl rfl (Yp.move rfl rfl) ?_
                    refine RW.nil ?_
                    exact ⟨k1, Nat.lt_succ_self _, _, _, (Sub.cons rfl (Sub.cons rfl (Sub.cons rfl (Sub.cons rfl (Sub.cons rfl Sub.nil))))), rfl, hm⟩
                ·
                  have hm := iff' hm hb5
                  refine CW.exit ?_
                  cases hm
                  have hm := hk3
                  cases hm
                  exact ⟨(Sub.cons rfl Sub.nil), rfl⟩
          ·
            rintro E σ ⟨hsub4, rfl⟩
            have hm := hk2
            refine CW.weak ?_ hsub4
            refine CW.seq ?_
            refine CW.region ?_
            refine RW.p rfl rfl rfl (Yp.move rfl rfl) ?_
            refine RW.p rfl rfl rfl (Yp.assign rfl rfl) ?_
            refine RW.p rfl rfl rfl (Yp.assign rfl rfl) ?_
            refine RW.nil ?_
            refine CW.ret ?_
            cases hm
            exact fin2 (.inr rfl) rfl (ResIs.tmp rfl) (ResIs.tmp rfl) (List.nil_sublist _) ⟨rfl, rfl⟩

def m4 (p0 : Disk) (p1 : Int) : Option Bool :=
  (m11).bind fun x1 =>
  if (!x1) = true then
    some false
  else
    (m16 p0).bind fun x2 =>
    if (!x2) = true then
      some true
    else
      (m17 p0 p1).bind fun x3 =>
      (m18 p0 p1).bind fun x4 =>
      Option.bind (
        if (decide (x3.2 = x4.2)) = true then
          (m14 x3.1 x4.1).bind fun x5 =>
          some x5
        else
          some false) fun c1 =>
      some c1

theorem m4_ok (p0 : Disk) (p1 : Int)  {r : Bool} (hm : m4 p0 p1 = some r) : Ab.Fn Try.prog 4 [.agg [.sl 1 (cL 1 (cN .u8)) p0.fDurable, .sl 2 Write.cells p0.fPending, .i p0.fLeft, .b p0.fDown], .i p1] [] (fun a s => a = .b r ∧ s = []) := by
  rw [m4] at hm
  refine Ab.Fn.of Try.func4 rfl rfl rfl (fun C => ?_)
  refine CW.seq ?_
  refine CW.region ?_
  refine RW.v rfl rfl rfl (Yv.box rfl rfl (Pw.p rfl)) ?_
  rintro _ _ ⟨b1, rfl, rfl⟩
  refine RW.p rfl rfl rfl (Yp.assign rfl rfl) ?_
  refine RW.nil ?_
  refine CW.seq ?_
  refine CW.seq ?_
  refine CW.region ?_
  obtain ⟨x1, hx1, hm⟩ := bnd hm
  refine RW.c rfl rfl rfl (Yc.fnV (σp := []) (args' := []) rfl rfl ok11 rfl rfl rfl (VwL.id _) (m11_ok  hx1)) ?_
  rintro _ _ ⟨_, ⟨rfl, rfl⟩, rfl⟩
  refine RW.p rfl rfl rfl (Yp.not rfl rfl) ?_
  refine RW.nil ?_
  refine CW.cond rfl (fun hb1 => ?_) (fun hb1 => ?_)
  ·
    have hm := ift hm hb1
    refine CW.seq ?_
    refine CW.region ?_
    refine RW.p rfl rfl rfl (Yp.assign rfl rfl) ?_
    refine RW.nil ?_
    refine CW.ret ?_
    cases hm
    exact fin1 (.inr rfl) rfl (ResIs.tmp rfl) (List.nil_sublist _) ⟨rfl, rfl⟩
  ·
    have hm := iff' hm hb1
    refine CW.skip ?_
    refine CW.seq ?_
    refine CW.seq ?_
    refine CW.region ?_
    refine RW.p rfl rfl rfl (Yp.loadBN 0 rfl rfl rfl many26 (Nat.le_of_ble_eq_true rfl)) ?_
    obtain ⟨x2, hx2, hm⟩ := bnd hm
    refine RW.c rfl rfl rfl (Yc.fnV (σp := []) (args' := [.agg [.sl 1 (cL 1 (cN .u8)) p0.fDurable, .sl 2 Write.cells p0.fPending, .i p0.fLeft, .b p0.fDown]]) rfl rfl ok16 rfl rfl rfl (VwL.id _) (m16_ok p0 hx2)) ?_
    rintro _ _ ⟨_, ⟨rfl, rfl⟩, rfl⟩
    refine RW.p rfl rfl rfl (Yp.not rfl rfl) ?_
    refine RW.nil ?_
    refine CW.cond rfl (fun hb2 => ?_) (fun hb2 => ?_)
    ·
      have hm := ift hm hb2
      refine CW.seq ?_
      refine CW.region ?_
      refine RW.p rfl rfl rfl (Yp.assign rfl rfl) ?_
      refine RW.nil ?_
      refine CW.ret ?_
      cases hm
      exact fin1 (.inr rfl) rfl (ResIs.tmp rfl) (List.nil_sublist _) ⟨rfl, rfl⟩
    ·
      have hm := iff' hm hb2
      refine CW.skip ?_
      refine CW.seq ?_
      refine CW.region ?_
      refine RW.p rfl rfl rfl (Yp.loadBN 0 rfl rfl rfl many26 (Nat.le_of_ble_eq_true rfl)) ?_
      refine RW.p rfl rfl rfl (Yp.move rfl rfl) ?_
      obtain ⟨x3, hx3, hm⟩ := bnd hm
      refine RW.c rfl rfl rfl (Yc.fnV (σp := []) (args' := [.agg [.sl 1 (cL 1 (cN .u8)) p0.fDurable, .sl 2 Write.cells p0.fPending, .i p0.fLeft, .b p0.fDown], .i p1]) rfl rfl ok17 rfl rfl rfl (VwL.id _) (m17_ok p0 p1 hx3)) ?_
      rintro _ _ ⟨_, ⟨rfl, rfl⟩, rfl⟩
      refine RW.p rfl rfl rfl (Yp.move rfl rfl) ?_
      refine RW.p rfl rfl rfl (Yp.extract rfl rfl rfl) ?_
      refine RW.p rfl rfl rfl (Yp.extract rfl rfl rfl) ?_
      refine RW.p rfl rfl rfl (Yp.assign rfl rfl) ?_
      refine RW.p rfl rfl rfl (Yp.assign rfl rfl) ?_
      refine RW.nil ?_
      refine CW.seq ?_
      refine CW.region ?_
      refine RW.p rfl rfl rfl (Yp.loadBN 0 rfl rfl rfl many26 (Nat.le_of_ble_eq_true rfl)) ?_
      refine RW.p rfl rfl rfl (Yp.move rfl rfl) ?_
      obtain ⟨x4, hx4, hm⟩ := bnd hm
      refine RW.c rfl rfl rfl (Yc.fnV (σp := []) (args' := [.agg [.sl 1 (cL 1 (cN .u8)) p0.fDurable, .sl 2 Write.cells p0.fPending, .i p0.fLeft, .b p0.fDown], .i p1]) rfl rfl ok18 rfl rfl rfl (VwL.id _) (m18_ok p0 p1 hx4)) ?_
      rintro _ _ ⟨_, ⟨rfl, rfl⟩, rfl⟩
      refine RW.p rfl rfl rfl (Yp.move rfl rfl) ?_
      refine RW.p rfl rfl rfl (Yp.extract rfl rfl rfl) ?_
      refine RW.p rfl rfl rfl (Yp.extract rfl rfl rfl) ?_
      refine RW.p rfl rfl rfl (Yp.assign rfl rfl) ?_
      refine RW.p rfl rfl rfl (Yp.assign rfl rfl) ?_
      refine RW.nil ?_
      refine CW.seq ?_
      obtain ⟨c1, hs1, hk1⟩ := bnd hm
      refine CW.cut (fun E σ => Sub [(4, .b c1)] E ∧ σ = []) ?_ ?_
      ·
        have hm := hs1
        refine CW.region ?_
        refine RW.p rfl rfl rfl (Yp.move rfl rfl) ?_
        refine RW.p rfl rfl rfl (Yp.move rfl rfl) ?_
        refine RW.p rfl rfl rfl (Yp.eql rfl rfl rfl) ?_
        refine RW.p rfl rfl rfl (Yp.move rfl rfl) ?_
        rcases Bool.eq_false_or_eq_true (decide (x3.2 = x4.2)) with hb3 | hb3
        ·
          have hm := ift hm hb3
          refine RW.eqv 29 rfl (congrArg AV.b hb3) ?_
          refine RW.p rfl rfl rfl (Yp.move rfl rfl) ?_
          refine RW.p rfl rfl rfl (Yp.move rfl rfl) ?_
          obtain ⟨x5, hx5, hm⟩ := bnd hm
          refine RW.c rfl rfl rfl (Yc.fnV (σp := []) (args' := [.sl 1 (cN .u8) x3.1, .sl 1 (cN .u8) x4.1]) rfl rfl ok14 rfl rfl rfl (VwL.id _) (m14_ok x3.1 x4.1 hx5)) ?_
          rintro _ _ ⟨_, ⟨rfl, rfl⟩, rfl⟩
          refine RW.p rfl rfl rfl (Yp.pickT rfl rfl rfl) ?_
          refine RW.p rfl rfl rfl (Yp.assign rfl rfl) ?_
          refine RW.sel [] rfl ?_
          refine RW.nil ?_
          cases hm
          exact ⟨(Sub.cons rfl Sub.nil), rfl⟩
        ·
          have hm := iff' hm hb3
          refine RW.eqv 29 rfl (congrArg AV.b hb3) ?_
          refine RW.skip rfl rfl rfl ?_
          refine RW.skip rfl rfl rfl ?_
          refine RW.skip rfl rfl rfl ?_
          refine RW.p rfl rfl rfl (Yp.pickF rfl rfl rfl) ?_
          refine RW.p rfl rfl rfl (Yp.assign rfl rfl) ?_
          refine RW.sel [] rfl ?_
          refine RW.nil ?_
          cases hm
          exact ⟨(Sub.cons rfl Sub.nil), rfl⟩
      ·
        rintro E σ ⟨hsub1, rfl⟩
        have hm := hk1
        refine CW.weak ?_ hsub1
        refine CW.ret ?_
        cases hm
        exact fin1 (.inr rfl) rfl (ResIs.tmp rfl) (List.nil_sublist _) ⟨rfl, rfl⟩

def m31 (p0 : List Int) : Option (List Int) :=
  if (([] : List Int) ++ p0).length ≤ 1073741824 then
  some (([] : List Int) ++ p0)
  else none

theorem m31_ok (p0 : List Int)  {r : List Int} (hm : m31 p0 = some r) : Ab.Fn Try.prog 31 [.sl 1 (cN .u8) p0] [] (fun a s => a = .sl 1 (cN .u8) r ∧ s = []) := by
  rw [m31] at hm
  refine Ab.Fn.of Try.func31 rfl rfl rfl (fun C => ?_)
  refine CW.seq ?_
  refine CW.region ?_
  refine RW.p rfl rfl rfl (Yp.assign rfl rfl) ?_
  refine RW.nil ?_
  refine CW.seq ?_
  refine CW.seq ?_
  refine CW.region ?_
  refine RW.p rfl rfl rfl (Yp.move rfl rfl) ?_
  refine RW.nil? rfl rfl rfl (YpNil.sl rfl rfl rfl Try.underlying29) ?_
  rintro z1 hz1
  refine RW.nil ?_
  refine CW.cond rfl (fun hb1 => ?_) (fun hb1 => ?_)
  ·
    refine CW.seq ?_
    refine CW.region ?_
    refine RW.p rfl rfl rfl (Yp.assign rfl rfl) ?_
    refine RW.nil ?_
    refine CW.say 2 rfl (Vw.nil 1 (cN .u8)) ?_
    refine CW.ret ?_
    have hm : some [] = some r := by have h := hm; rw [hz1 hb1] at h; simpa using h
    cases hm
    exact fin1 (.inr rfl) rfl (ResIs.tmp rfl) (List.nil_sublist _) ⟨rfl, rfl⟩
  ·
    refine CW.skip ?_
    refine CW.seq ?_
    refine CW.region ?_
    refine RW.v rfl rfl rfl (Yv.lit0 (cN .u8) 1 rfl Try.underlying29 sz5) ?_
    rintro _ _ ⟨v1, rfl, rfl⟩
    refine RW.p rfl rfl rfl (Yp.move rfl rfl) ?_
    obtain ⟨hc1, hm⟩ := chk hm
    refine RW.v rfl rfl rfl (Yv.app (l := []) (l2 := p0) 0 rfl rfl rfl (.inr (.inl rfl)) Try.underlying29 szb5 zer5 rfl rfl (fun _ => rfl) hc1) ?_
    rintro _ _ ⟨v2, rfl, rfl⟩
    refine RW.p rfl rfl rfl (Yp.assign rfl rfl) ?_
    refine RW.nil ?_
    refine CW.frz 0 2 rfl rfl (Vw.row 0 rfl) ?_
    refine CW.ret ?_
    cases hm
    exact fin1 (.inr rfl) rfl (ResIs.tmp rfl) (List.nil_sublist _) ⟨rfl, rfl⟩

def m30_l1 (p0 : Disk) : Nat → (List (List Int)) → Int → Option (List (List Int))
  | 0, _, _ => none
  | k1 + 1, l4, n3 =>
    if (decide (n3 < (p0.fDurable.length : Int))) = true then
      Option.bind (
        if 0 ≤ n3 ∧ n3 < (p0.fDurable.length : Int) then
        (m31 (p0.fDurable[Int.toNat n3]!)).bind fun x1 =>
        if (l4 ++ [x1]).length ≤ 1073741824 then
        some (l4 ++ [x1])
        else none
        else none) fun l6 =>
      m30_l1 p0 k1 l6 (w64 (n3 + 1))
    else
      some l4
def m30_l2 (p0 : Disk) : Nat → (List Write) → Int → Option (List Write)
  | 0, _, _ => none
  | k2 + 1, l10, n6 =>
    if (decide (n6 < (p0.fPending.length : Int))) = true then
      Option.bind (
        if 0 ≤ n6 ∧ n6 < (p0.fPending.length : Int) then
        (m31 ((p0.fPending[Int.toNat n6]!).fData)).bind fun x2 =>
        if (l10 ++ [(Write.mk ((p0.fPending[Int.toNat n6]!).fAt) x2)]).length ≤ 1073741824 then
        some (l10 ++ [(Write.mk ((p0.fPending[Int.toNat n6]!).fAt) x2)])
        else none
        else none) fun l12 =>
      m30_l2 p0 k2 l12 (w64 (n6 + 1))
    else
      some l10
def m30 (p0 : Disk) : Option Disk :=
  Option.bind (
    (m30_l1 p0 (Int.toNat (p0.fDurable.length : Int) + 1) [] 0).bind fun l5 =>
    some l5) fun l1 =>
  Option.bind (
    (m30_l2 p0 (Int.toNat (p0.fPending.length : Int) + 1) [] 0).bind fun l11 =>
    some l11) fun l7 =>
  some (Disk.mk l1 l7 p0.fLeft p0.fDown)

theorem m30_ok (p0 : Disk)  {r : Disk} (hm : m30 p0 = some r) : Ab.Fn Try.prog 30 [.agg [.sl 1 (cL 1 (cN .u8)) p0.fDurable, .sl 2 Write.cells p0.fPending, .i p0.fLeft, .b p0.fDown]] [] (fun a s => a = .agg [.sl 1 (cL 1 (cN .u8)) r.fDurable, .sl 2 Write.cells r.fPending, .i r.fLeft, .b r.fDown] ∧ s = []) := by
  rw [m30] at hm
  refine Ab.Fn.of Try.func30 rfl rfl rfl (fun C => ?_)
  refine CW.seq ?_
  refine CW.region ?_
  refine RW.v rfl rfl rfl (Yv.box rfl rfl (Pw.p rfl)) ?_
  rintro _ _ ⟨b1, rfl, rfl⟩
  refine RW.v rfl rfl rfl (Yv.alloc rfl zerb26) ?_
  rintro _ _ ⟨b2, rfl, rfl⟩
  refine RW.nil ?_
  refine CW.seq ?_
  refine CW.region ?_
  refine RW.p rfl rfl rfl (Yp.fieldP rfl rfl Try.underlying26 rfl sz3) ?_
  refine RW.p rfl rfl rfl (Yp.loadB1 1 rfl rfl rfl one3 rfl) ?_
  refine RW.p rfl rfl rfl (Yp.fieldP rfl rfl Try.underlying26 rfl sz4) ?_
  refine RW.p rfl rfl rfl (Yp.loadB1 1 rfl rfl rfl one4 rfl) ?_
  refine RW.p rfl rfl rfl (Yp.build rfl plc26 zer26 rfl rfl) ?_
  refine RW.v rfl rfl rfl (Yv.alloc rfl zerb26) ?_
  rintro _ _ ⟨b3, rfl, rfl⟩
  refine RW.u rfl rfl (Yu.storeB 0 rfl rfl rfl rfl sz26 (Pw.p rfl) rfl (Nat.le_of_ble_eq_true rfl)) ?_
  refine RW.nil ?_
  refine CW.seq ?_
  obtain ⟨l1, hs1, hk1⟩ := bnd hm
  refine CW.cut (fun E σ => ∃ v1 : Value, Sub [(1, .lit (.pointer (some ⟨b1, 0, none⟩))), (2, .lit (.pointer (some ⟨b2, 0, none⟩))), (3, .lit (.pointer (some ⟨b3, 0, none⟩)))] E ∧ σ = [.box b1 26 [.sl 1 (cL 1 (cN .u8)) p0.fDurable, .sl 2 Write.cells p0.fPending, .i p0.fLeft, .b p0.fDown], .box b2 26 [.lit (.slice none 0 0), .lit (.slice none 0 0), .i 0, .b false], .box b3 26 [.lit v1, .lit (.slice none 0 0), .i p0.fLeft, .b p0.fDown], .row v1 29 1 (cL 1 (cN .u8)) l1]) ?_ ?_
  ·
    have hm := hs1
    refine CW.seq ?_
    refine CW.region ?_
    refine RW.p rfl rfl rfl (Yp.fieldP rfl rfl Try.underlying26 rfl sz23) ?_
    refine RW.p rfl rfl rfl (Yp.loadB1 2 rfl rfl rfl one23 rfl) ?_
    refine RW.p rfl rfl rfl (Yp.lenSl rfl rfl Try.underlying23) ?_
    refine RW.p rfl rfl rfl (Yp.move rfl rfl) ?_
    refine RW.nil ?_
    refine CW.block ?_
    refine CW.own none 29 1 (cL 1 (cN .u8)) ?_
    refine CW.sel [3, 2, 1, 0] rfl ?_
    obtain ⟨l5, hs2, hk2⟩ := bnd hm
    refine CW.lp (fun k1 E σ => ∃ l4 : List (List Int), ∃ n3 : Int, ∃ v4 : Value, Sub [(1, .lit (.pointer (some ⟨b1, 0, none⟩))), (2, .lit (.pointer (some ⟨b2, 0, none⟩))), (3, .lit (.pointer (some ⟨b3, 0, none⟩))), (14, .sl 1 (cL 1 (cN .u8)) p0.fDurable), (15, .i (p0.fDurable.length : Int)), (16, .i n3)] E ∧ σ = [.box b1 26 [.sl 1 (cL 1 (cN .u8)) p0.fDurable, .sl 2 Write.cells p0.fPending, .i p0.fLeft, .b p0.fDown], .box b2 26 [.lit (.slice none 0 0), .lit (.slice none 0 0), .i 0, .b false], .box b3 26 [.lit v4, .lit (.slice none 0 0), .i p0.fLeft, .b p0.fDown], .row v4 29 1 (cL 1 (cN .u8)) l4] ∧ m30_l1 p0 k1 l4 n3 = some l5) (Int.toNat (p0.fDurable.length : Int) + 1) ?_ ?_
    · exact ⟨[], 0, (.slice none 0 0), (Sub.cons rfl (Sub.cons rfl (Sub.cons rfl (Sub.cons rfl (Sub.cons rfl (Sub.cons rfl Sub.nil)))))), rfl, hs2⟩
    ·
      rintro k1 E σ ⟨l4, n3, v4, hsub1, rfl, hm⟩
      refine CW.weak ?_ hsub1
      cases k1 with
      | zero => cases hm
      | succ k1 =>
        rw [m30_l1] at hm
        refine CW.seq ?_
        refine CW.region ?_
        refine RW.p rfl rfl rfl (Yp.lss rfl rfl rfl) ?_
        refine RW.nil ?_
        refine CW.seq ?_
        refine CW.cond rfl (fun hb1 => ?_) (fun hb1 => ?_)
        ·
          have hm := ift hm hb1
          refine CW.skip ?_
          refine CW.seq ?_
          obtain ⟨l6, hs3, hk3⟩ := bnd hm
          refine CW.cut (fun E σ => ∃ v6 : Value, Sub [(1, .lit (.pointer (some ⟨b1, 0, none⟩))), (2, .lit (.pointer (some ⟨b2, 0, none⟩))), (3, .lit (.pointer (some ⟨b3, 0, none⟩))), (14, .sl 1 (cL 1 (cN .u8)) p0.fDurable), (15, .i (p0.fDurable.length : Int)), (16, .i n3)] E ∧ σ = [.box b1 26 [.sl 1 (cL 1 (cN .u8)) p0.fDurable, .sl 2 Write.cells p0.fPending, .i p0.fLeft, .b p0.fDown], .box b2 26 [.lit (.slice none 0 0), .lit (.slice none 0 0), .i 0, .b false], .box b3 26 [.lit v6, .lit (.slice none 0 0), .i p0.fLeft, .b p0.fDown], .row v6 29 1 (cL 1 (cN .u8)) l6]) ?_ ?_
          ·
            have hm := hs3
            refine CW.block ?_
            refine CW.seq ?_
            refine CW.region ?_
            obtain ⟨hc1, hm⟩ := chk hm
            refine RW.p rfl rfl rfl (Yp.indexSl rfl rfl rfl Try.underlying23 sz29 hc1) ?_
            refine RW.p rfl rfl rfl (Yp.loadF1 rfl rfl one29 rfl) ?_
            refine RW.p rfl rfl rfl (Yp.assign rfl rfl) ?_
            refine RW.nil ?_
            obtain ⟨x1, hx1, hm⟩ := bnd hm
            obtain ⟨hc2, hm⟩ := chk hm
            refine CW.drawSel 8 rfl [2, 2, 0, 0] [.box b3 26 [.lit v4, .lit (.slice none 0 0), .i p0.fLeft, .b p0.fDown], .row v4 29 1 (cL 1 (cN .u8)) l4] [.box b1 26 [.sl 1 (cL 1 (cN .u8)) p0.fDurable, .sl 2 Write.cells p0.fPending, .i p0.fLeft, .b p0.fDown], .box b2 26 [.lit (.slice none 0 0), .lit (.slice none 0 0), .i 0, .b false]] rfl (by kernel_rfl) ?_
            intro A1 w1 hB1
            refine RH.take 0 rfl (by kernel_rfl) rfl rfl rfl hB1 (Yp.fieldP rfl rfl Try.underlying26 rfl sz23) ?_
            refine RH.take 2 rfl (by kernel_rfl) rfl rfl rfl hB1 (Yp.move rfl rfl) ?_
            refine RH.two 1 3 (by kernel_rfl) ?_ ?_
            ·
              refine RO.p rfl rfl rfl rfl rfl (Yp.loadB1 2 rfl rfl rfl one23 rfl) ?_
              refine RH.one 3 (by kernel_rfl) ?_
              refine RO.c rfl rfl rfl rfl rfl (Yc.fnV (σp := []) (args' := [.sl 1 (cN .u8) (p0.fDurable[Int.toNat n3]!)]) rfl rfl ok31 rfl rfl rfl (VwL.id _) (m31_ok (p0.fDurable[Int.toNat n3]!) hx1)) (fun b hb => absurd hb (by simp [blks])) ?_
              rintro _ _ ⟨_, ⟨rfl, rfl⟩, rfl⟩
              refine RH.one 4 (by kernel_rfl) ?_
              refine RO.v rfl rfl rfl rfl rfl (Yv.lit (cL 1 (cN .u8)) ([x1] : List (List Int)) rfl Try.underlying23 sz29 zer29 rfl rfl rfl rfl rfl (fun i hi => by match i, hi with | 0, _ => rfl) (by decide) (by decide)) (fun b hb => absurd hb (by simp)) ?_
              rintro _ _ ⟨v9, rfl, rfl⟩
              refine RH.one 5 (by kernel_rfl) ?_
              refine RO.v rfl rfl rfl rfl rfl (Yv.app (l := l4) (l2 := ([x1] : List (List Int))) 4 rfl rfl rfl (.inr (.inr ⟨0, _, rfl, rfl⟩)) Try.underlying23 szb29 zer29 rfl rfl (fun _ => rfl) hc2) (inX (r := .row v4 29 1 (cL 1 (cN .u8)) l4) 1 rfl) ?_
              rintro _ _ ⟨v10, rfl, rfl⟩
              refine RH.take 6 rfl (by kernel_rfl) rfl rfl rfl hB1 (Yp.fieldP rfl rfl Try.underlying26 rfl sz23) ?_
              refine RH.one 7 (by kernel_rfl) ?_
              refine RO.u rfl rfl rfl (Yu.storeB 3 rfl rfl rfl rfl sz23 (Pw.own 4 rfl) rfl (Nat.le_of_ble_eq_true rfl)) (inX (r := .box b3 26 [.lit v4, .lit (.slice none 0 0), .i p0.fLeft, .b p0.fDown]) 0 rfl) ?_
              refine RH.sel [1, 1, 1, 1] rfl ?_
              refine RH.done (by kernel_rfl) ?_
              cases hm
              exact ⟨v10, (Sub.cons rfl (Sub.cons rfl (Sub.cons rfl (Sub.cons rfl (Sub.cons rfl (Sub.cons rfl Sub.nil)))))), rfl⟩
            ·
              refine RO.c rfl rfl rfl rfl rfl (Yc.fnV (σp := []) (args' := [.sl 1 (cN .u8) (p0.fDurable[Int.toNat n3]!)]) rfl rfl ok31 rfl rfl rfl (VwL.id _) (m31_ok (p0.fDurable[Int.toNat n3]!) hx1)) (fun b hb => absurd hb (by simp [blks])) ?_
              rintro _ _ ⟨_, ⟨rfl, rfl⟩, rfl⟩
              refine RH.two 1 4 (by kernel_rfl) ?_ ?_
              ·
                refine RO.p rfl rfl rfl rfl rfl (Yp.loadB1 2 rfl rfl rfl one23 rfl) ?_
                refine RH.one 4 (by kernel_rfl) ?_
                refine RO.v rfl rfl rfl rfl rfl (Yv.lit (cL 1 (cN .u8)) ([x1] : List (List Int)) rfl Try.underlying23 sz29 zer29 rfl rfl rfl rfl rfl (fun i hi => by match i, hi with | 0, _ => rfl) (by decide) (by decide)) (fun b hb => absurd hb (by simp)) ?_
                rintro _ _ ⟨v11, rfl, rfl⟩
                refine RH.one 5 (by kernel_rfl) ?_
                refine RO.v rfl rfl rfl rfl rfl (Yv.app (l := l4) (l2 := ([x1] : List (List Int))) 4 rfl rfl rfl (.inr (.inr ⟨0, _, rfl, rfl⟩)) Try.underlying23 szb29 zer29 rfl rfl (fun _ => rfl) hc2) (inX (r := .row v4 29 1 (cL 1 (cN .u8)) l4) 1 rfl) ?_
                rintro _ _ ⟨v12, rfl, rfl⟩
                refine RH.take 6 rfl (by kernel_rfl) rfl rfl rfl hB1 (Yp.fieldP rfl rfl Try.underlying26 rfl sz23) ?_
                refine RH.one 7 (by kernel_rfl) ?_
                refine RO.u rfl rfl rfl (Yu.storeB 3 rfl rfl rfl rfl sz23 (Pw.own 4 rfl) rfl (Nat.le_of_ble_eq_true rfl)) (inX (r := .box b3 26 [.lit v4, .lit (.slice none 0 0), .i p0.fLeft, .b p0.fDown]) 0 rfl) ?_
                refine RH.sel [1, 1, 1, 1] rfl ?_
                refine RH.done (by kernel_rfl) ?_
                cases hm
                exact ⟨v12, (Sub.cons rfl (Sub.cons rfl (Sub.cons rfl (Sub.cons rfl (Sub.cons rfl (Sub.cons rfl Sub.nil)))))), rfl⟩
              ·
                refine RO.v rfl rfl rfl rfl rfl (Yv.lit (cL 1 (cN .u8)) ([x1] : List (List Int)) rfl Try.underlying23 sz29 zer29 rfl rfl rfl rfl rfl (fun i hi => by match i, hi with | 0, _ => rfl) (by decide) (by decide)) (fun b hb => absurd hb (by simp)) ?_
                rintro _ _ ⟨v13, rfl, rfl⟩
                refine RH.one 1 (by kernel_rfl) ?_
                refine RO.p rfl rfl rfl rfl rfl (Yp.loadB1 3 rfl rfl rfl one23 rfl) ?_
                refine RH.one 5 (by kernel_rfl) ?_
                refine RO.v rfl rfl rfl rfl rfl (Yv.app (l := l4) (l2 := ([x1] : List (List Int))) 4 rfl rfl rfl (.inr (.inr ⟨0, _, rfl, rfl⟩)) Try.underlying23 szb29 zer29 rfl rfl (fun _ => rfl) hc2) (inX (r := .row v4 29 1 (cL 1 (cN .u8)) l4) 1 rfl) ?_
                rintro _ _ ⟨v14, rfl, rfl⟩
                refine RH.take 6 rfl (by kernel_rfl) rfl rfl rfl hB1 (Yp.fieldP rfl rfl Try.underlying26 rfl sz23) ?_
                refine RH.one 7 (by kernel_rfl) ?_
                refine RO.u rfl rfl rfl (Yu.storeB 3 rfl rfl rfl rfl sz23 (Pw.own 4 rfl) rfl (Nat.le_of_ble_eq_true rfl)) (inX (r := .box b3 26 [.lit v4, .lit (.slice none 0 0), .i p0.fLeft, .b p0.fDown]) 0 rfl) ?_
                refine RH.sel [1, 1, 1, 1] rfl ?_
                refine RH.done (by kernel_rfl) ?_
                cases hm
                exact ⟨v14, (Sub.cons rfl (Sub.cons rfl (Sub.cons rfl (Sub.cons rfl (Sub.cons rfl (Sub.cons rfl Sub.nil)))))), rfl⟩
          ·
            rintro E σ ⟨v6, hsub2, rfl⟩
            have hm := hk3
            refine CW.weak ?_ hsub2
            refine CW.region ?_
            refine RW.p rfl rfl rfl (Yp.add rfl rfl rfl) ?_
            refine RW.p rfl rfl rfl (Yp.move rfl rfl) ?_
            refine RW.nil ?_
            exact ⟨k1, Nat.lt_succ_self _, _, _, v6, (Sub.cons rfl (Sub.cons rfl (Sub.cons rfl (Sub.cons rfl (Sub.cons rfl (Sub.cons rfl Sub.nil)))))), rfl, hm⟩
        ·
          have hm := iff' hm hb1
          refine CW.exit ?_
          cases hm
          have hm := hk2
          cases hm
          exact ⟨v4, (Sub.cons rfl (Sub.cons rfl (Sub.cons rfl Sub.nil))), rfl⟩
  ·
    rintro E σ ⟨v1, hsub3, rfl⟩
    have hm := hk1
    refine CW.weak ?_ hsub3
    refine CW.seq ?_
    obtain ⟨l7, hs4, hk4⟩ := bnd hm
    refine CW.cut (fun E σ => ∃ v15 : Value, Sub [(2, .lit (.pointer (some ⟨b2, 0, none⟩))), (3, .lit (.pointer (some ⟨b3, 0, none⟩)))] E ∧ σ = [.box b2 26 [.lit (.slice none 0 0), .lit (.slice none 0 0), .i 0, .b false], .box b3 26 [.lit v1, .lit v15, .i p0.fLeft, .b p0.fDown], .row v1 29 1 (cL 1 (cN .u8)) l1, .row v15 56 2 Write.cells l7]) ?_ ?_
    ·
      have hm := hs4
      refine CW.seq ?_
      refine CW.region ?_
      refine RW.p rfl rfl rfl (Yp.fieldP rfl rfl Try.underlying26 rfl sz24) ?_
      refine RW.p rfl rfl rfl (Yp.loadB1 0 rfl rfl rfl one24 rfl) ?_
      refine RW.p rfl rfl rfl (Yp.lenSl rfl rfl Try.underlying24) ?_
      refine RW.p rfl rfl rfl (Yp.move rfl rfl) ?_
      refine RW.nil ?_
      refine CW.block ?_
      refine CW.own none 56 2 Write.cells ?_
      refine CW.sel [2, 2, 2, 0] rfl ?_
      obtain ⟨l11, hs5, hk5⟩ := bnd hm
      refine CW.lp (fun k2 E σ => ∃ l10 : List Write, ∃ n6 : Int, ∃ v18 : Value, Sub [(2, .lit (.pointer (some ⟨b2, 0, none⟩))), (3, .lit (.pointer (some ⟨b3, 0, none⟩))), (29, .sl 2 Write.cells p0.fPending), (30, .i (p0.fPending.length : Int)), (31, .i n6)] E ∧ σ = [.box b2 26 [.lit (.slice none 0 0), .lit (.slice none 0 0), .i 0, .b false], .box b3 26 [.lit v1, .lit v18, .i p0.fLeft, .b p0.fDown], .row v1 29 1 (cL 1 (cN .u8)) l1, .row v18 56 2 Write.cells l10] ∧ m30_l2 p0 k2 l10 n6 = some l11) (Int.toNat (p0.fPending.length : Int) + 1) ?_ ?_
      · exact ⟨[], 0, (.slice none 0 0), (Sub.cons rfl (Sub.cons rfl (Sub.cons rfl (Sub.cons rfl (Sub.cons rfl Sub.nil))))), rfl, hs5⟩
      ·
        rintro k2 E σ ⟨l10, n6, v18, hsub4, rfl, hm⟩
        refine CW.weak ?_ hsub4
        cases k2 with
        | zero => cases hm
        | succ k2 =>
          rw [m30_l2] at hm
          refine CW.seq ?_
          refine CW.region ?_
          refine RW.p rfl rfl rfl (Yp.lss rfl rfl rfl) ?_
          refine RW.nil ?_
          refine CW.seq ?_
          refine CW.cond rfl (fun hb2 => ?_) (fun hb2 => ?_)
          ·
            have hm := ift hm hb2
            refine CW.skip ?_
            refine CW.seq ?_
            obtain ⟨l12, hs6, hk6⟩ := bnd hm
            refine CW.cut (fun E σ => ∃ v20 : Value, Sub [(2, .lit (.pointer (some ⟨b2, 0, none⟩))), (3, .lit (.pointer (some ⟨b3, 0, none⟩))), (29, .sl 2 Write.cells p0.fPending), (30, .i (p0.fPending.length : Int)), (31, .i n6)] E ∧ σ = [.box b2 26 [.lit (.slice none 0 0), .lit (.slice none 0 0), .i 0, .b false], .box b3 26 [.lit v1, .lit v20, .i p0.fLeft, .b p0.fDown], .row v1 29 1 (cL 1 (cN .u8)) l1, .row v20 56 2 Write.cells l12]) ?_ ?_
            ·
              have hm := hs6
              refine CW.block ?_
              refine CW.seq ?_
              refine CW.region ?_
              obtain ⟨hc3, hm⟩ := chk hm
              refine RW.p rfl rfl rfl (Yp.indexSl rfl rfl rfl Try.underlying24 sz56 hc3) ?_
              refine RW.p rfl rfl rfl (Yp.loadFN rfl rfl many56 (Nat.le_of_ble_eq_true rfl)) ?_
              refine RW.v rfl rfl rfl (Yv.alloc rfl zerb56) ?_
              rintro _ _ ⟨b4, rfl, rfl⟩
              refine RW.u rfl rfl (Yu.storeB 0 rfl rfl rfl rfl sz56 (Pw.p rfl) rfl (Nat.le_of_ble_eq_true rfl)) ?_
              refine RW.nil ?_
              obtain ⟨x2, hx2, hm⟩ := bnd hm
              obtain ⟨hc4, hm⟩ := chk hm
              refine CW.drawSel 12 rfl [2, 2, 2, 0, 0] [.box b3 26 [.lit v1, .lit v18, .i p0.fLeft, .b p0.fDown], .row v1 29 1 (cL 1 (cN .u8)) l1, .row v18 56 2 Write.cells l10] [.box b4 56 [.i ((p0.fPending[Int.toNat n6]!).fAt), .sl 1 (cN .u8) ((p0.fPending[Int.toNat n6]!).fData)], .box b2 26 [.lit (.slice none 0 0), .lit (.slice none 0 0), .i 0, .b false]] rfl (by kernel_rfl) ?_
              intro A2 w2 hB2
              refine RH.take 0 rfl (by kernel_rfl) rfl rfl rfl hB2 (Yp.fieldP rfl rfl Try.underlying26 rfl sz24) ?_
              refine RH.take 2 rfl (by kernel_rfl) rfl rfl rfl hB2 (Yp.fieldP rfl rfl Try.underlying56 rfl sz3) ?_
              refine RH.take 3 rfl (by kernel_rfl) rfl rfl rfl hB2 (Yp.loadB1 0 rfl rfl rfl one3 rfl) ?_
              refine RH.take 4 rfl (by kernel_rfl) rfl rfl rfl hB2 (Yp.fieldP rfl rfl Try.underlying56 rfl sz29) ?_
              refine RH.take 5 rfl (by kernel_rfl) rfl rfl rfl hB2 (Yp.loadB1 0 rfl rfl rfl one29 rfl) ?_
              refine RH.two 1 6 (by kernel_rfl) ?_ ?_
              ·
                refine RO.p rfl rfl rfl rfl rfl (Yp.loadB1 2 rfl rfl rfl one24 rfl) ?_
                refine RH.one 6 (by kernel_rfl) ?_
                refine RO.c rfl rfl rfl rfl rfl (Yc.fnV (σp := []) (args' := [.sl 1 (cN .u8) ((p0.fPending[Int.toNat n6]!).fData)]) rfl rfl ok31 rfl rfl rfl (VwL.id _) (m31_ok ((p0.fPending[Int.toNat n6]!).fData) hx2)) (fun b hb => absurd hb (by simp [blks])) ?_
                rintro _ _ ⟨_, ⟨rfl, rfl⟩, rfl⟩
                refine RH.one 7 (by kernel_rfl) ?_
                refine RO.p rfl rfl rfl rfl rfl (Yp.build rfl plc56 zer56 rfl rfl) ?_
                refine RH.one 8 (by kernel_rfl) ?_
                refine RO.v rfl rfl rfl rfl rfl (Yv.lit Write.cells ([(Write.mk ((p0.fPending[Int.toNat n6]!).fAt) x2)] : List Write) rfl Try.underlying24 sz56 zer56 rfl rfl rfl rfl rfl (fun i hi => by match i, hi with | 0, _ => rfl) (by decide) (by decide)) (fun b hb => absurd hb (by simp)) ?_
                rintro _ _ ⟨v23, rfl, rfl⟩
                refine RH.one 9 (by kernel_rfl) ?_
                refine RO.v rfl rfl rfl rfl rfl (Yv.app (l := l10) (l2 := ([(Write.mk ((p0.fPending[Int.toNat n6]!).fAt) x2)] : List Write)) 5 rfl rfl rfl (.inr (.inr ⟨0, _, rfl, rfl⟩)) Try.underlying24 szb56 zer56 rfl rfl (fun _ => rfl) hc4) (inX (r := .row v18 56 2 Write.cells l10) 2 rfl) ?_
                rintro _ _ ⟨v24, rfl, rfl⟩
                refine RH.take 10 rfl (by kernel_rfl) rfl rfl rfl hB2 (Yp.fieldP rfl rfl Try.underlying26 rfl sz24) ?_
                refine RH.one 11 (by kernel_rfl) ?_
                refine RO.u rfl rfl rfl (Yu.storeB 3 rfl rfl rfl rfl sz24 (Pw.own 5 rfl) rfl (Nat.le_of_ble_eq_true rfl)) (inX (r := .box b3 26 [.lit v1, .lit v18, .i p0.fLeft, .b p0.fDown]) 0 rfl) ?_
                refine RH.sel [2, 2, 2, 2] rfl ?_
                refine RH.done (by kernel_rfl) ?_
                cases hm
                exact ⟨v24, (Sub.cons rfl (Sub.cons rfl (Sub.cons rfl (Sub.cons rfl (Sub.cons rfl Sub.nil))))), rfl⟩
              ·
                refine RO.c rfl rfl rfl rfl rfl (Yc.fnV (σp := []) (args' := [.sl 1 (cN .u8) ((p0.fPending[Int.toNat n6]!).fData)]) rfl rfl ok31 rfl rfl rfl (VwL.id _) (m31_ok ((p0.fPending[Int.toNat n6]!).fData) hx2)) (fun b hb => absurd hb (by simp [blks])) ?_
                rintro _ _ ⟨_, ⟨rfl, rfl⟩, rfl⟩
                refine RH.two 1 7 (by kernel_rfl) ?_ ?_
                ·
                  refine RO.p rfl rfl rfl rfl rfl (Yp.loadB1 2 rfl rfl rfl one24 rfl) ?_
                  refine RH.one 7 (by kernel_rfl) ?_
                  refine RO.p rfl rfl rfl rfl rfl (Yp.build rfl plc56 zer56 rfl rfl) ?_
                  refine RH.one 8 (by kernel_rfl) ?_
                  refine RO.v rfl rfl rfl rfl rfl (Yv.lit Write.cells ([(Write.mk ((p0.fPending[Int.toNat n6]!).fAt) x2)] : List Write) rfl Try.underlying24 sz56 zer56 rfl rfl rfl rfl rfl (fun i hi => by match i, hi with | 0, _ => rfl) (by decide) (by decide)) (fun b hb => absurd hb (by simp)) ?_
                  rintro _ _ ⟨v25, rfl, rfl⟩
                  refine RH.one 9 (by kernel_rfl) ?_
                  refine RO.v rfl rfl rfl rfl rfl (Yv.app (l := l10) (l2 := ([(Write.mk ((p0.fPending[Int.toNat n6]!).fAt) x2)] : List Write)) 5 rfl rfl rfl (.inr (.inr ⟨0, _, rfl, rfl⟩)) Try.underlying24 szb56 zer56 rfl rfl (fun _ => rfl) hc4) (inX (r := .row v18 56 2 Write.cells l10) 2 rfl) ?_
                  rintro _ _ ⟨v26, rfl, rfl⟩
                  refine RH.take 10 rfl (by kernel_rfl) rfl rfl rfl hB2 (Yp.fieldP rfl rfl Try.underlying26 rfl sz24) ?_
                  refine RH.one 11 (by kernel_rfl) ?_
                  refine RO.u rfl rfl rfl (Yu.storeB 3 rfl rfl rfl rfl sz24 (Pw.own 5 rfl) rfl (Nat.le_of_ble_eq_true rfl)) (inX (r := .box b3 26 [.lit v1, .lit v18, .i p0.fLeft, .b p0.fDown]) 0 rfl) ?_
                  refine RH.sel [2, 2, 2, 2] rfl ?_
                  refine RH.done (by kernel_rfl) ?_
                  cases hm
                  exact ⟨v26, (Sub.cons rfl (Sub.cons rfl (Sub.cons rfl (Sub.cons rfl (Sub.cons rfl Sub.nil))))), rfl⟩
                ·
                  refine RO.p rfl rfl rfl rfl rfl (Yp.build rfl plc56 zer56 rfl rfl) ?_
                  refine RH.two 1 8 (by kernel_rfl) ?_ ?_
                  ·
                    refine RO.p rfl rfl rfl rfl rfl (Yp.loadB1 2 rfl rfl rfl one24 rfl) ?_
                    refine RH.one 8 (by kernel_rfl) ?_
                    refine RO.v rfl rfl rfl rfl rfl (Yv.lit Write.cells ([(Write.mk ((p0.fPending[Int.toNat n6]!).fAt) x2)] : List Write) rfl Try.underlying24 sz56 zer56 rfl rfl rfl rfl rfl (fun i hi => by match i, hi with | 0, _ => rfl) (by decide) (by decide)) (fun b hb => absurd hb (by simp)) ?_
                    rintro _ _ ⟨v27, rfl, rfl⟩
                    refine RH.one 9 (by kernel_rfl) ?_
                    refine RO.v rfl rfl rfl rfl rfl (Yv.app (l := l10) (l2 := ([(Write.mk ((p0.fPending[Int.toNat n6]!).fAt) x2)] : List Write)) 5 rfl rfl rfl (.inr (.inr ⟨0, _, rfl, rfl⟩)) Try.underlying24 szb56 zer56 rfl rfl (fun _ => rfl) hc4) (inX (r := .row v18 56 2 Write.cells l10) 2 rfl) ?_
                    rintro _ _ ⟨v28, rfl, rfl⟩
                    refine RH.take 10 rfl (by kernel_rfl) rfl rfl rfl hB2 (Yp.fieldP rfl rfl Try.underlying26 rfl sz24) ?_
                    refine RH.one 11 (by kernel_rfl) ?_
                    refine RO.u rfl rfl rfl (Yu.storeB 3 rfl rfl rfl rfl sz24 (Pw.own 5 rfl) rfl (Nat.le_of_ble_eq_true rfl)) (inX (r := .box b3 26 [.lit v1, .lit v18, .i p0.fLeft, .b p0.fDown]) 0 rfl) ?_
                    refine RH.sel [2, 2, 2, 2] rfl ?_
                    refine RH.done (by kernel_rfl) ?_
                    cases hm
                    exact ⟨v28, (Sub.cons rfl (Sub.cons rfl (Sub.cons rfl (Sub.cons rfl (Sub.cons rfl Sub.nil))))), rfl⟩
                  ·
                    refine RO.v rfl rfl rfl rfl rfl (Yv.lit Write.cells ([(Write.mk ((p0.fPending[Int.toNat n6]!).fAt) x2)] : List Write) rfl Try.underlying24 sz56 zer56 rfl rfl rfl rfl rfl (fun i hi => by match i, hi with | 0, _ => rfl) (by decide) (by decide)) (fun b hb => absurd hb (by simp)) ?_
                    rintro _ _ ⟨v29, rfl, rfl⟩
                    refine RH.one 1 (by kernel_rfl) ?_
                    refine RO.p rfl rfl rfl rfl rfl (Yp.loadB1 3 rfl rfl rfl one24 rfl) ?_
                    refine RH.one 9 (by kernel_rfl) ?_
                    refine RO.v rfl rfl rfl rfl rfl (Yv.app (l := l10) (l2 := ([(Write.mk ((p0.fPending[Int.toNat n6]!).fAt) x2)] : List Write)) 5 rfl rfl rfl (.inr (.inr ⟨0, _, rfl, rfl⟩)) Try.underlying24 szb56 zer56 rfl rfl (fun _ => rfl) hc4) (inX (r := .row v18 56 2 Write.cells l10) 2 rfl) ?_
                    rintro _ _ ⟨v30, rfl, rfl⟩
                    refine RH.take 10 rfl (by kernel_rfl) rfl rfl rfl hB2 (Yp.fieldP rfl rfl Try.underlying26 rfl sz24) ?_
                    refine RH.one 11 (by kernel_rfl) ?_
                    refine RO.u rfl rfl rfl (Yu.storeB 3 rfl rfl rfl rfl sz24 (Pw.own 5 rfl) rfl (Nat.le_of_ble_eq_true rfl)) (inX (r := .box b3 26 [.lit v1, .lit v18, .i p0.fLeft, .b p0.fDown]) 0 rfl) ?_
                    refine RH.sel [2, 2, 2, 2] rfl ?_
                    refine RH.done (by kernel_rfl) ?_
                    cases hm
                    exact ⟨v30, (Sub.cons rfl (Sub.cons rfl (Sub.cons rfl (Sub.cons rfl (Sub.cons rfl Sub.nil))))), rfl⟩
            ·
              rintro E σ ⟨v20, hsub5, rfl⟩
              have hm := hk6
              refine CW.weak ?_ hsub5
              refine CW.region ?_
              refine RW.p rfl rfl rfl (Yp.add rfl rfl rfl) ?_
              refine RW.p rfl rfl rfl (Yp.move rfl rfl) ?_
              refine RW.nil ?_
              exact ⟨k2, Nat.lt_succ_self _, _, _, v20, (Sub.cons rfl (Sub.cons rfl (Sub.cons rfl (Sub.cons rfl (Sub.cons rfl Sub.nil))))), rfl, hm⟩
          ·
            have hm := iff' hm hb2
            refine CW.exit ?_
            cases hm
            have hm := hk5
            cases hm
            exact ⟨v18, (Sub.cons rfl (Sub.cons rfl Sub.nil)), rfl⟩
    ·
      rintro E σ ⟨v15, hsub6, rfl⟩
      have hm := hk4
      refine CW.weak ?_ hsub6
      refine CW.seq ?_
      refine CW.region ?_
      refine RW.p rfl rfl rfl (Yp.loadBN 1 rfl rfl rfl many26 (Nat.le_of_ble_eq_true rfl)) ?_
      refine RW.u rfl rfl (Yu.storeB 0 rfl rfl rfl rfl sz26 (Pw.agg (PwL.own 2 rfl (PwL.own 3 rfl (PwL.p rfl (PwL.p rfl PwL.nil))))) rfl (Nat.le_of_ble_eq_true rfl)) ?_
      refine RW.nil ?_
      refine CW.frzB 2 0 rfl rfl (VwL.cons (Vw.row 0 rfl) (VwL.cons (Vw.id _) (VwL.cons (Vw.id _) (VwL.cons (Vw.id _) VwL.nil)))) ?_
      refine CW.frzB 2 0 rfl rfl (VwL.cons (Vw.id _) (VwL.cons (Vw.row 0 rfl) (VwL.cons (Vw.id _) (VwL.cons (Vw.id _) VwL.nil)))) ?_
      refine CW.ret ?_
      cases hm
      exact fin1 (.inr rfl) rfl (ResIs.cellN 0 rfl rfl many26 rfl) (List.nil_sublist _) ⟨rfl, rfl⟩


end Go.Proofs.Ytfipaakafcjjhaa
