/- copied, Write, Sync, Crash and Arm once more: what they return lies in new blocks. -/
import Derived.Test.YtfipaakafcjjhaaFo
import Derived.Test.YtfipaakafcjjhaaFr
import Derived.Test.YtfipaakafcjjhaaG2
set_option linter.unusedSectionVars false
set_option linter.unusedVariables false
set_option linter.unusedSimpArgs false
namespace Go.Proofs.Ytfipaakafcjjhaa
open Go Go.RowKit Go.Ab Go.Proofs

theorem oldD {A : Nat → Prop} {w : World} {p0 : Disk} {ys : List AV} {vs : List Value} (h : RelL A w (.agg [.sl 1 (cL 1 (cN .u8)) p0.fDurable, .sl 2 Write.cells p0.fPending, .i p0.fLeft, .b p0.fDown] :: ys) vs) :
    ∃ qa ka qb kb xs, vs = .agg [.slice qa p0.fDurable.length ka, .slice qb p0.fPending.length kb, .int .i64 p0.fLeft, .bool p0.fDown].toArray :: xs ∧ Rel A w (.sl 1 (cL 1 (cN .u8)) p0.fDurable) (.slice qa p0.fDurable.length ka) ∧ Rel A w (.sl 2 Write.cells p0.fPending) (.slice qb p0.fPending.length kb) ∧
      Rel A w (.agg [.sl 1 (cL 1 (cN .u8)) p0.fDurable, .sl 2 Write.cells p0.fPending, .i p0.fLeft, .b p0.fDown]) (.agg [.slice qa p0.fDurable.length ka, .slice qb p0.fPending.length kb, .int .i64 p0.fLeft, .bool p0.fDown].toArray) ∧ RelL A w ys xs := by
  obtain ⟨v, xs, rfl, h1, h2⟩ := h.head
  have hd := h1
  obtain ⟨us, rfl, h3⟩ := h1.aggInv
  obtain ⟨s1, us, rfl, e1, h3⟩ := h3.head
  obtain ⟨s2, us, rfl, e2, h3⟩ := h3.head
  obtain ⟨x3, us, rfl, e3, h3⟩ := h3.head
  obtain ⟨x4, us, rfl, e4, h3⟩ := h3.head
  obtain rfl : us = [] := List.eq_nil_of_length_eq_zero (by simpa using h3.1)
  obtain rfl := e3.litEq
  obtain rfl := e4.litEq
  obtain ⟨qa, ka, _, rfl, _⟩ := e1.slInv
  obtain ⟨qb, kb, _, rfl, _⟩ := e2.slInv
  exact ⟨qa, ka, qb, kb, xs, rfl, e1, e2, hd, h2⟩
theorem oldW {A : Nat → Prop} {w : World} {x : Write} {us : List Value} (h : RelL A w (Write.cells x) us) : ∃ q k, us = [.int .i64 x.fAt, .slice q x.fData.length k] ∧ Rel A w (.sl 1 (cN .u8) x.fData) (.slice q x.fData.length k) := by
  obtain ⟨x1, us, rfl, e1, h3⟩ := RelL.head h
  obtain ⟨x2, us, rfl, e2, h3⟩ := h3.head
  obtain rfl : us = [] := List.eq_nil_of_length_eq_zero (by simpa using h3.1)
  obtain rfl := e1.litEq
  obtain ⟨q, k, _, rfl, _⟩ := e2.slInv
  exact ⟨q, k, rfl, e2⟩

theorem f39 (p0 : List Int) {r : List Int} (hm : m39 p0 = some r) : Fr Try.prog 39 [.sl 1 (cN .u8) p0] (fun a s => a = .sl 1 (cN .u8) r ∧ s = []) :=
  Fr.frz (T := 5) (Fr.ofFn (m39o_ok p0 hm) (by
    rintro _ _ ⟨v, rfl, rfl⟩
    exact ⟨Cl.lit _, fun r hr => by rw [List.mem_singleton] at hr; subst hr; exact ClR.row (fun x => ClL.cons (Cl.lit _) ClL.nil)⟩))
theorem f13 (p0 : Disk) {r : Bool} (hm : m13 p0 = some r) : Fr Try.prog 13 [.agg [.sl 1 (cL 1 (cN .u8)) p0.fDurable, .sl 2 Write.cells p0.fPending, .i p0.fLeft, .b p0.fDown]] (fun a s => a = .b r ∧ s = []) :=
  Fr.ofFn (m13_ok p0 hm) (by
    rintro _ _ ⟨rfl, rfl⟩
    exact ⟨Cl.lit _, fun r hr => by cases hr⟩)

theorem f40 (p0 : Disk)  {r : Disk} (hm : m40_1 p0 = some r) : Fr Try.prog 40 [.agg [.sl 1 (cL 1 (cN .u8)) p0.fDurable, .sl 2 Write.cells p0.fPending, .i p0.fLeft, .b p0.fDown]] (fun a s => ∃ w0 : Value, ∃ w1 : Value, a = .agg [.lit w0, .lit w1, .i r.fLeft, .b r.fDown] ∧ s = [.row w0 29 1 (cL 1 (cN .u8)) r.fDurable, .row w1 56 2 Write.cells r.fPending]) := by
  rw [m40_1] at hm
  refine Fr.of Try.func40 rfl rfl (fun C vs hO hv => ?_)
  obtain ⟨qa, ka, qb, kb, xs, rfl, hoA, hoB, hd, hvr⟩ := oldD hv
  obtain rfl : xs = [] := List.eq_nil_of_length_eq_zero (by simpa using hvr.1)
  refine ⟨[.agg [.lit (.slice qa p0.fDurable.length ka), .lit (.slice qb p0.fPending.length kb), .i p0.fLeft, .b p0.fDown]], rfl, fun A w => (Det.agg (Det.lit (Det.lit (Det.lit (Det.lit Det.nil)))) Det.nil A w).1, ?_⟩
  refine CW.seq ?_
  refine CW.region ?_
  refine RW.v rfl rfl rfl (Yv.box rfl rfl (Pw.p rfl)) ?_
  rintro _ _ ⟨b1, rfl, rfl⟩
  refine RW.v rfl rfl rfl (Yv.alloc rfl zerb26) ?_
  rintro _ _ ⟨b2, rfl, rfl⟩
  refine RW.nil ?_
  refine CW.seq ?_
  refine CW.region ?_
  refine RW.p rfl rfl rfl (Yp.loadBN 1 rfl rfl rfl many26 (Nat.le_of_ble_eq_true rfl)) ?_
  refine RW.v rfl rfl rfl (Yv.alloc rfl zerb26) ?_
  rintro _ _ ⟨b3, rfl, rfl⟩
  refine RW.u rfl rfl (Yu.storeB 0 rfl rfl rfl rfl sz26 (Pw.p rfl) rfl (Nat.le_of_ble_eq_true rfl)) ?_
  refine RW.nil ?_
  refine CW.seq ?_
  refine CW.region ?_
  refine RW.p rfl rfl rfl (Yp.fieldP rfl rfl Try.underlying26 rfl sz23) ?_
  refine RW.u rfl rfl (Yu.storeB 0 rfl rfl rfl rfl sz23 (Pw.p rfl) rfl (Nat.le_of_ble_eq_true rfl)) ?_
  refine RW.p rfl rfl rfl (Yp.fieldP rfl rfl Try.underlying26 rfl sz24) ?_
  refine RW.u rfl rfl (Yu.storeB 0 rfl rfl rfl rfl sz24 (Pw.p rfl) rfl (Nat.le_of_ble_eq_true rfl)) ?_
  refine RW.nil ?_
  refine CW.seq ?_
  obtain ⟨l1, hs1, hk1⟩ := bnd hm
  refine CW.cut (fun E σ => ∃ v1 : Value, Sub [(1, .lit (.pointer (some ⟨b1, 0, none⟩))), (2, .lit (.pointer (some ⟨b2, 0, none⟩))), (3, .lit (.pointer (some ⟨b3, 0, none⟩)))] E ∧ σ = [.box b1 26 [.lit (.slice qa p0.fDurable.length ka), .lit (.slice qb p0.fPending.length kb), .i p0.fLeft, .b p0.fDown], .box b2 26 [.lit (.slice none 0 0), .lit (.slice none 0 0), .i 0, .b false], .box b3 26 [.lit v1, .lit (.slice none 0 0), .i p0.fLeft, .b p0.fDown], .row v1 29 1 (cL 1 (cN .u8)) l1]) ?_ ?_
  ·
    have hm := hs1
    refine CW.seq ?_
    refine CW.region ?_
    refine RW.p rfl rfl rfl (Yp.fieldP rfl rfl Try.underlying26 rfl sz23) ?_
    refine RW.p rfl rfl rfl (Yp.loadB1 2 rfl rfl rfl one23 rfl) ?_
    refine RW.p rfl rfl rfl (Yp.lenO hoA rfl rfl Try.underlying23) ?_
    refine RW.p rfl rfl rfl (Yp.move rfl rfl) ?_
    refine RW.nil ?_
    refine CW.block ?_
    refine CW.own none 29 1 (cL 1 (cN .u8)) ?_
    refine CW.sel [3, 2, 1, 0] rfl ?_
    obtain ⟨l5, hs2, hk2⟩ := bnd hm
    refine CW.lp (fun k1 E σ => ∃ l4 : List (List Int), ∃ n3 : Int, ∃ v4 : Value, Sub [(1, .lit (.pointer (some ⟨b1, 0, none⟩))), (2, .lit (.pointer (some ⟨b2, 0, none⟩))), (3, .lit (.pointer (some ⟨b3, 0, none⟩))), (12, .lit (.slice qa p0.fDurable.length ka)), (13, .i (p0.fDurable.length : Int)), (14, .i n3)] E ∧ σ = [.box b1 26 [.lit (.slice qa p0.fDurable.length ka), .lit (.slice qb p0.fPending.length kb), .i p0.fLeft, .b p0.fDown], .box b2 26 [.lit (.slice none 0 0), .lit (.slice none 0 0), .i 0, .b false], .box b3 26 [.lit v4, .lit (.slice none 0 0), .i p0.fLeft, .b p0.fDown], .row v4 29 1 (cL 1 (cN .u8)) l4] ∧ m40_1_l1 p0 k1 l4 n3 = some l5) (Int.toNat (p0.fDurable.length : Int) + 1) ?_ ?_
    · exact ⟨[], 0, (.slice none 0 0), (Sub.cons rfl (Sub.cons rfl (Sub.cons rfl (Sub.cons rfl (Sub.cons rfl (Sub.cons rfl Sub.nil)))))), rfl, hs2⟩
    ·
      rintro k1 E σ ⟨l4, n3, v4, hsub1, rfl, hm⟩
      refine CW.weak ?_ hsub1
      cases k1 with
      | zero => cases hm
      | succ k1 =>
        rw [m40_1_l1] at hm
        refine CW.seq ?_
        refine CW.region ?_
        refine RW.p rfl rfl rfl (Yp.lss rfl rfl rfl) ?_
        refine RW.nil ?_
        refine CW.seq ?_
        refine CW.cond rfl (fun hb1 => ?_) (fun hb1 => ?_)
        ·
          have hm := ift hm hb1
          refine CW.skip ?_
          refine CW.seq ?_
          obtain ⟨l6, hs3, hk3⟩ := bnd hm
          refine CW.cut (fun E σ => ∃ v6 : Value, Sub [(1, .lit (.pointer (some ⟨b1, 0, none⟩))), (2, .lit (.pointer (some ⟨b2, 0, none⟩))), (3, .lit (.pointer (some ⟨b3, 0, none⟩))), (12, .lit (.slice qa p0.fDurable.length ka)), (13, .i (p0.fDurable.length : Int)), (14, .i n3)] E ∧ σ = [.box b1 26 [.lit (.slice qa p0.fDurable.length ka), .lit (.slice qb p0.fPending.length kb), .i p0.fLeft, .b p0.fDown], .box b2 26 [.lit (.slice none 0 0), .lit (.slice none 0 0), .i 0, .b false], .box b3 26 [.lit v6, .lit (.slice none 0 0), .i p0.fLeft, .b p0.fDown], .row v6 29 1 (cL 1 (cN .u8)) l6]) ?_ ?_
          ·
            have hm := hs3
            refine CW.block ?_
            refine CW.seq ?_
            refine CW.region ?_
            obtain ⟨hc1, hm⟩ := chk hm
            refine RW.p rfl rfl rfl (Yp.indexO hoA rfl rfl rfl Try.underlying23 sz29 hc1) ?_
            refine RW.v rfl rfl rfl (Yv.loadO1 hO hoA (i := Int.toNat n3) (by omega) rfl rfl one29 rfl) ?_
            rintro _ _ ⟨u1, rfl, rfl, huA⟩
            refine RW.p rfl rfl rfl (Yp.assign rfl rfl) ?_
            refine RW.nil ?_
            obtain ⟨x1, hx1, hm⟩ := bnd hm
            obtain ⟨hc2, hm⟩ := chk hm
            refine CW.drawSel 8 rfl [2, 2, 0, 0] [.box b3 26 [.lit v4, .lit (.slice none 0 0), .i p0.fLeft, .b p0.fDown], .row v4 29 1 (cL 1 (cN .u8)) l4] [.box b1 26 [.lit (.slice qa p0.fDurable.length ka), .lit (.slice qb p0.fPending.length kb), .i p0.fLeft, .b p0.fDown], .box b2 26 [.lit (.slice none 0 0), .lit (.slice none 0 0), .i 0, .b false]] rfl (by kernel_rfl) ?_
            intro A1 w1 hB1
            refine RH.take 0 rfl (by kernel_rfl) rfl rfl rfl hB1 (Yp.fieldP rfl rfl Try.underlying26 rfl sz23) ?_
            refine RH.take 2 rfl (by kernel_rfl) rfl rfl rfl hB1 (Yp.move rfl rfl) ?_
            refine RH.two 1 3 (by kernel_rfl) ?_ ?_
            ·
              refine RO.p rfl rfl rfl rfl rfl (Yp.loadB1 2 rfl rfl rfl one23 rfl) ?_
              refine RH.one 3 (by kernel_rfl) ?_
              refine RO.c rfl rfl rfl rfl rfl (Yc.det hO (Det.lit Det.nil) (RelL.cons huA RelL.nil) rfl rfl ok39 rfl rfl (f39 (p0.fDurable[Int.toNat n3]!) hx1)) (fun b hb => absurd hb (by simp [blks])) ?_
              rintro _ _ ⟨_, ⟨rfl, rfl⟩, rfl⟩
              refine RH.one 4 (by kernel_rfl) ?_
              refine RO.v rfl rfl rfl rfl rfl (Yv.lit (cL 1 (cN .u8)) ([x1] : List (List Int)) rfl Try.underlying23 sz29 zer29 rfl rfl rfl rfl rfl (fun i hi => by match i, hi with | 0, _ => rfl) (by decide) (by decide)) (fun b hb => absurd hb (by simp)) ?_
              rintro _ _ ⟨v9, rfl, rfl⟩
              refine RH.one 5 (by kernel_rfl) ?_
              refine RO.v rfl rfl rfl rfl rfl (Yv.app (l := l4) (l2 := ([x1] : List (List Int))) 4 rfl rfl rfl (.inr (.inr ⟨0, _, rfl, rfl⟩)) Try.underlying23 szb29 zer29 rfl rfl (fun _ => rfl) hc2) (inX (r := .row v4 29 1 (cL 1 (cN .u8)) l4) 1 rfl) ?_
              rintro _ _ ⟨v10, rfl, rfl⟩
              refine RH.take 6 rfl (by kernel_rfl) rfl rfl rfl hB1 (Yp.fieldP rfl rfl Try.underlying26 rfl sz23) ?_
              refine RH.one 7 (by kernel_rfl) ?_
              refine RO.u rfl rfl rfl (Yu.storeB 3 rfl rfl rfl rfl sz23 (Pw.own 4 rfl) rfl (Nat.le_of_ble_eq_true rfl)) (inX (r := .box b3 26 [.lit v4, .lit (.slice none 0 0), .i p0.fLeft, .b p0.fDown]) 0 rfl) ?_
              refine RH.sel [1, 1, 1, 1] rfl ?_
              refine RH.done (by kernel_rfl) ?_
              cases hm
              exact ⟨v10, (Sub.cons rfl (Sub.cons rfl (Sub.cons rfl (Sub.cons rfl (Sub.cons rfl (Sub.cons rfl Sub.nil)))))), rfl⟩
            ·
              refine RO.c rfl rfl rfl rfl rfl (Yc.det hO (Det.lit Det.nil) (RelL.cons huA RelL.nil) rfl rfl ok39 rfl rfl (f39 (p0.fDurable[Int.toNat n3]!) hx1)) (fun b hb => absurd hb (by simp [blks])) ?_
              rintro _ _ ⟨_, ⟨rfl, rfl⟩, rfl⟩
              refine RH.two 1 4 (by kernel_rfl) ?_ ?_
              ·
                refine RO.p rfl rfl rfl rfl rfl (Yp.loadB1 2 rfl rfl rfl one23 rfl) ?_
                refine RH.one 4 (by kernel_rfl) ?_
                refine RO.v rfl rfl rfl rfl rfl (Yv.lit (cL 1 (cN .u8)) ([x1] : List (List Int)) rfl Try.underlying23 sz29 zer29 rfl rfl rfl rfl rfl (fun i hi => by match i, hi with | 0, _ => rfl) (by decide) (by decide)) (fun b hb => absurd hb (by simp)) ?_
                rintro _ _ ⟨v11, rfl, rfl⟩
                refine RH.one 5 (by kernel_rfl) ?_
                refine RO.v rfl rfl rfl rfl rfl (Yv.app (l := l4) (l2 := ([x1] : List (List Int))) 4 rfl rfl rfl (.inr (.inr ⟨0, _, rfl, rfl⟩)) Try.underlying23 szb29 zer29 rfl rfl (fun _ => rfl) hc2) (inX (r := .row v4 29 1 (cL 1 (cN .u8)) l4) 1 rfl) ?_
                rintro _ _ ⟨v12, rfl, rfl⟩
                refine RH.take 6 rfl (by kernel_rfl) rfl rfl rfl hB1 (Yp.fieldP rfl rfl Try.underlying26 rfl sz23) ?_
                refine RH.one 7 (by kernel_rfl) ?_
                refine RO.u rfl rfl rfl (Yu.storeB 3 rfl rfl rfl rfl sz23 (Pw.own 4 rfl) rfl (Nat.le_of_ble_eq_true rfl)) (inX (r := .box b3 26 [.lit v4, .lit (.slice none 0 0), .i p0.fLeft, .b p0.fDown]) 0 rfl) ?_
                refine RH.sel [1, 1, 1, 1] rfl ?_
                refine RH.done (by kernel_rfl) ?_
                cases hm
                exact ⟨v12, (Sub.cons rfl (Sub.cons rfl (Sub.cons rfl (Sub.cons rfl (Sub.cons rfl (Sub.cons rfl Sub.nil)))))), rfl⟩
              ·
                refine RO.v rfl rfl rfl rfl rfl (Yv.lit (cL 1 (cN .u8)) ([x1] : List (List Int)) rfl Try.underlying23 sz29 zer29 rfl rfl rfl rfl rfl (fun i hi => by match i, hi with | 0, _ => rfl) (by decide) (by decide)) (fun b hb => absurd hb (by simp)) ?_
                rintro _ _ ⟨v13, rfl, rfl⟩
                refine RH.one 1 (by kernel_rfl) ?_
                refine RO.p rfl rfl rfl rfl rfl (Yp.loadB1 3 rfl rfl rfl one23 rfl) ?_
                refine RH.one 5 (by kernel_rfl) ?_
                refine RO.v rfl rfl rfl rfl rfl (Yv.app (l := l4) (l2 := ([x1] : List (List Int))) 4 rfl rfl rfl (.inr (.inr ⟨0, _, rfl, rfl⟩)) Try.underlying23 szb29 zer29 rfl rfl (fun _ => rfl) hc2) (inX (r := .row v4 29 1 (cL 1 (cN .u8)) l4) 1 rfl) ?_
                rintro _ _ ⟨v14, rfl, rfl⟩
                refine RH.take 6 rfl (by kernel_rfl) rfl rfl rfl hB1 (Yp.fieldP rfl rfl Try.underlying26 rfl sz23) ?_
                refine RH.one 7 (by kernel_rfl) ?_
                refine RO.u rfl rfl rfl (Yu.storeB 3 rfl rfl rfl rfl sz23 (Pw.own 4 rfl) rfl (Nat.le_of_ble_eq_true rfl)) (inX (r := .box b3 26 [.lit v4, .lit (.slice none 0 0), .i p0.fLeft, .b p0.fDown]) 0 rfl) ?_
                refine RH.sel [1, 1, 1, 1] rfl ?_
                refine RH.done (by kernel_rfl) ?_
                cases hm
                exact ⟨v14, (Sub.cons rfl (Sub.cons rfl (Sub.cons rfl (Sub.cons rfl (Sub.cons rfl (Sub.cons rfl Sub.nil)))))), rfl⟩
          ·
            rintro E σ ⟨v6, hsub2, rfl⟩
            have hm := hk3
            refine CW.weak ?_ hsub2
            refine CW.region ?_
            refine RW.p rfl rfl rfl (Yp.add rfl rfl rfl) ?_
            refine RW.p rfl rfl rfl (Yp.move rfl rfl) ?_
            refine RW.nil ?_
            exact ⟨k1, Nat.lt_succ_self _, _, _, v6, (Sub.cons rfl (Sub.cons rfl (Sub.cons rfl (Sub.cons rfl (Sub.cons rfl (Sub.cons rfl Sub.nil)))))), rfl, hm⟩
        ·
          have hm := iff' hm hb1
          refine CW.exit ?_
          cases hm
          have hm := hk2
          cases hm
          exact ⟨v4, (Sub.cons rfl (Sub.cons rfl (Sub.cons rfl Sub.nil))), rfl⟩
  ·
    rintro E σ ⟨v1, hsub3, rfl⟩
    have hm := hk1
    refine CW.weak ?_ hsub3
    refine CW.seq ?_
    obtain ⟨l7, hs4, hk4⟩ := bnd hm
    refine CW.cut (fun E σ => ∃ v15 : Value, Sub [(2, .lit (.pointer (some ⟨b2, 0, none⟩))), (3, .lit (.pointer (some ⟨b3, 0, none⟩)))] E ∧ σ = [.box b2 26 [.lit (.slice none 0 0), .lit (.slice none 0 0), .i 0, .b false], .box b3 26 [.lit v1, .lit v15, .i p0.fLeft, .b p0.fDown], .row v1 29 1 (cL 1 (cN .u8)) l1, .row v15 56 2 Write.cells l7]) ?_ ?_
    ·
      have hm := hs4
      refine CW.seq ?_
      refine CW.region ?_
      refine RW.p rfl rfl rfl (Yp.fieldP rfl rfl Try.underlying26 rfl sz24) ?_
      refine RW.p rfl rfl rfl (Yp.loadB1 0 rfl rfl rfl one24 rfl) ?_
      refine RW.p rfl rfl rfl (Yp.lenO hoB rfl rfl Try.underlying24) ?_
      refine RW.p rfl rfl rfl (Yp.move rfl rfl) ?_
      refine RW.nil ?_
      refine CW.block ?_
      refine CW.own none 56 2 Write.cells ?_
      refine CW.sel [2, 2, 2, 0] rfl ?_
      obtain ⟨l11, hs5, hk5⟩ := bnd hm
      refine CW.lp (fun k2 E σ => ∃ l10 : List Write, ∃ n6 : Int, ∃ v18 : Value, Sub [(2, .lit (.pointer (some ⟨b2, 0, none⟩))), (3, .lit (.pointer (some ⟨b3, 0, none⟩))), (27, .lit (.slice qb p0.fPending.length kb)), (28, .i (p0.fPending.length : Int)), (29, .i n6)] E ∧ σ = [.box b2 26 [.lit (.slice none 0 0), .lit (.slice none 0 0), .i 0, .b false], .box b3 26 [.lit v1, .lit v18, .i p0.fLeft, .b p0.fDown], .row v1 29 1 (cL 1 (cN .u8)) l1, .row v18 56 2 Write.cells l10] ∧ m40_1_l2 p0 k2 l10 n6 = some l11) (Int.toNat (p0.fPending.length : Int) + 1) ?_ ?_
      · exact ⟨[], 0, (.slice none 0 0), (Sub.cons rfl (Sub.cons rfl (Sub.cons rfl (Sub.cons rfl (Sub.cons rfl Sub.nil))))), rfl, hs5⟩
      ·
        rintro k2 E σ ⟨l10, n6, v18, hsub4, rfl, hm⟩
        refine CW.weak ?_ hsub4
        cases k2 with
        | zero => cases hm
        | succ k2 =>
          rw [m40_1_l2] at hm
          refine CW.seq ?_
          refine CW.region ?_
          refine RW.p rfl rfl rfl (Yp.lss rfl rfl rfl) ?_
          refine RW.nil ?_
          refine CW.seq ?_
          refine CW.cond rfl (fun hb2 => ?_) (fun hb2 => ?_)
          ·
            have hm := ift hm hb2
            refine CW.skip ?_
            refine CW.seq ?_
            obtain ⟨l12, hs6, hk6⟩ := bnd hm
            refine CW.cut (fun E σ => ∃ v20 : Value, Sub [(2, .lit (.pointer (some ⟨b2, 0, none⟩))), (3, .lit (.pointer (some ⟨b3, 0, none⟩))), (27, .lit (.slice qb p0.fPending.length kb)), (28, .i (p0.fPending.length : Int)), (29, .i n6)] E ∧ σ = [.box b2 26 [.lit (.slice none 0 0), .lit (.slice none 0 0), .i 0, .b false], .box b3 26 [.lit v1, .lit v20, .i p0.fLeft, .b p0.fDown], .row v1 29 1 (cL 1 (cN .u8)) l1, .row v20 56 2 Write.cells l12]) ?_ ?_
            ·
              have hm := hs6
              refine CW.block ?_
              refine CW.seq ?_
              refine CW.region ?_
              obtain ⟨hc3, hm⟩ := chk hm
              refine RW.p rfl rfl rfl (Yp.indexO hoB rfl rfl rfl Try.underlying24 sz56 hc3) ?_
              refine RW.v rfl rfl rfl (Yv.loadON hO hoB (i := Int.toNat n6) (by omega) rfl rfl many56) ?_
              rintro _ _ ⟨us, rfl, rfl, hus⟩
              obtain ⟨qc, kc, rfl, huB⟩ := oldW hus
              refine RW.v rfl rfl rfl (Yv.alloc rfl zerb56) ?_
              rintro _ _ ⟨b4, rfl, rfl⟩
              refine RW.u rfl rfl (Yu.storeB 0 rfl rfl rfl rfl sz56 (Pw.p rfl) rfl (Nat.le_of_ble_eq_true rfl)) ?_
              refine RW.nil ?_
              obtain ⟨x2, hx2, hm⟩ := bnd hm
              obtain ⟨hc4, hm⟩ := chk hm
              refine CW.drawSel 12 rfl [2, 2, 2, 0, 0] [.box b3 26 [.lit v1, .lit v18, .i p0.fLeft, .b p0.fDown], .row v1 29 1 (cL 1 (cN .u8)) l1, .row v18 56 2 Write.cells l10] [.box b4 56 [.i ((p0.fPending[Int.toNat n6]!).fAt), .lit (.slice qc (p0.fPending[Int.toNat n6]!).fData.length kc)], .box b2 26 [.lit (.slice none 0 0), .lit (.slice none 0 0), .i 0, .b false]] rfl (by kernel_rfl) ?_
              intro A2 w2 hB2
              refine RH.take 0 rfl (by kernel_rfl) rfl rfl rfl hB2 (Yp.fieldP rfl rfl Try.underlying26 rfl sz24) ?_
              refine RH.take 2 rfl (by kernel_rfl) rfl rfl rfl hB2 (Yp.fieldP rfl rfl Try.underlying56 rfl sz3) ?_
              refine RH.take 3 rfl (by kernel_rfl) rfl rfl rfl hB2 (Yp.loadB1 0 rfl rfl rfl one3 rfl) ?_
              refine RH.take 4 rfl (by kernel_rfl) rfl rfl rfl hB2 (Yp.fieldP rfl rfl Try.underlying56 rfl sz29) ?_
              refine RH.take 5 rfl (by kernel_rfl) rfl rfl rfl hB2 (Yp.loadB1 0 rfl rfl rfl one29 rfl) ?_
              refine RH.two 1 6 (by kernel_rfl) ?_ ?_
              ·
                refine RO.p rfl rfl rfl rfl rfl (Yp.loadB1 2 rfl rfl rfl one24 rfl) ?_
                refine RH.one 6 (by kernel_rfl) ?_
                refine RO.c rfl rfl rfl rfl rfl (Yc.det hO (Det.lit Det.nil) (RelL.cons huB RelL.nil) rfl rfl ok39 rfl rfl (f39 ((p0.fPending[Int.toNat n6]!).fData) hx2)) (fun b hb => absurd hb (by simp [blks])) ?_
                rintro _ _ ⟨_, ⟨rfl, rfl⟩, rfl⟩
                refine RH.one 7 (by kernel_rfl) ?_
                refine RO.p rfl rfl rfl rfl rfl (Yp.build rfl plc56 zer56 rfl rfl) ?_
                refine RH.one 8 (by kernel_rfl) ?_
                refine RO.v rfl rfl rfl rfl rfl (Yv.lit Write.cells ([(Write.mk ((p0.fPending[Int.toNat n6]!).fAt) x2)] : List Write) rfl Try.underlying24 sz56 zer56 rfl rfl rfl rfl rfl (fun i hi => by match i, hi with | 0, _ => rfl) (by decide) (by decide)) (fun b hb => absurd hb (by simp)) ?_
                rintro _ _ ⟨v23, rfl, rfl⟩
                refine RH.one 9 (by kernel_rfl) ?_
                refine RO.v rfl rfl rfl rfl rfl (Yv.app (l := l10) (l2 := ([(Write.mk ((p0.fPending[Int.toNat n6]!).fAt) x2)] : List Write)) 5 rfl rfl rfl (.inr (.inr ⟨0, _, rfl, rfl⟩)) Try.underlying24 szb56 zer56 rfl rfl (fun _ => rfl) hc4) (inX (r := .row v18 56 2 Write.cells l10) 2 rfl) ?_
                rintro _ _ ⟨v24, rfl, rfl⟩
                refine RH.take 10 rfl (by kernel_rfl) rfl rfl rfl hB2 (Yp.fieldP rfl rfl Try.underlying26 rfl sz24) ?_
                refine RH.one 11 (by kernel_rfl) ?_
                refine RO.u rfl rfl rfl (Yu.storeB 3 rfl rfl rfl rfl sz24 (Pw.own 5 rfl) rfl (Nat.le_of_ble_eq_true rfl)) (inX (r := .box b3 26 [.lit v1, .lit v18, .i p0.fLeft, .b p0.fDown]) 0 rfl) ?_
                refine RH.sel [2, 2, 2, 2] rfl ?_
                refine RH.done (by kernel_rfl) ?_
                cases hm
                exact ⟨v24, (Sub.cons rfl (Sub.cons rfl (Sub.cons rfl (Sub.cons rfl (Sub.cons rfl Sub.nil))))), rfl⟩
              ·
                refine RO.c rfl rfl rfl rfl rfl (Yc.det hO (Det.lit Det.nil) (RelL.cons huB RelL.nil) rfl rfl ok39 rfl rfl (f39 ((p0.fPending[Int.toNat n6]!).fData) hx2)) (fun b hb => absurd hb (by simp [blks])) ?_
                rintro _ _ ⟨_, ⟨rfl, rfl⟩, rfl⟩
                refine RH.two 1 7 (by kernel_rfl) ?_ ?_
                ·
                  refine RO.p rfl rfl rfl rfl rfl (Yp.loadB1 2 rfl rfl rfl one24 rfl) ?_
                  refine RH.one 7 (by kernel_rfl) ?_
                  refine RO.p rfl rfl rfl rfl rfl (Yp.build rfl plc56 zer56 rfl rfl) ?_
                  refine RH.one 8 (by kernel_rfl) ?_
                  refine RO.v rfl rfl rfl rfl rfl (Yv.lit Write.cells ([(Write.mk ((p0.fPending[Int.toNat n6]!).fAt) x2)] : List Write) rfl Try.underlying24 sz56 zer56 rfl rfl rfl rfl rfl (fun i hi => by match i, hi with | 0, _ => rfl) (by decide) (by decide)) (fun b hb => absurd hb (by simp)) ?_
                  rintro _ _ ⟨v25, rfl, rfl⟩
                  refine RH.one 9 (by kernel_rfl) ?_
                  refine RO.v rfl rfl rfl rfl rfl (Yv.app (l := l10) (l2 := ([(Write.mk ((p0.fPending[Int.toNat n6]!).fAt) x2)] : List Write)) 5 rfl rfl rfl (.inr (.inr ⟨0, _, rfl, rfl⟩)) Try.underlying24 szb56 zer56 rfl rfl (fun _ => rfl) hc4) (inX (r := .row v18 56 2 Write.cells l10) 2 rfl) ?_
                  rintro _ _ ⟨v26, rfl, rfl⟩
                  refine RH.take 10 rfl (by kernel_rfl) rfl rfl rfl hB2 (Yp.fieldP rfl rfl Try.underlying26 rfl sz24) ?_
                  refine RH.one 11 (by kernel_rfl) ?_
                  refine RO.u rfl rfl rfl (Yu.storeB 3 rfl rfl rfl rfl sz24 (Pw.own 5 rfl) rfl (Nat.le_of_ble_eq_true rfl)) (inX (r := .box b3 26 [.lit v1, .lit v18, .i p0.fLeft, .b p0.fDown]) 0 rfl) ?_
                  refine RH.sel [2, 2, 2, 2] rfl ?_
                  refine RH.done (by kernel_rfl) ?_
                  cases hm
                  exact ⟨v26, (Sub.cons rfl (Sub.cons rfl (Sub.cons rfl (Sub.cons rfl (Sub.cons rfl Sub.nil))))), rfl⟩
                ·
                  refine RO.p rfl rfl rfl rfl rfl (Yp.build rfl plc56 zer56 rfl rfl) ?_
                  refine RH.two 1 8 (by kernel_rfl) ?_ ?_
                  ·
                    refine RO.p rfl rfl rfl rfl rfl (Yp.loadB1 2 rfl rfl rfl one24 rfl) ?_
                    refine RH.one 8 (by kernel_rfl) ?_
                    refine RO.v rfl rfl rfl rfl rfl (Yv.lit Write.cells ([(Write.mk ((p0.fPending[Int.toNat n6]!).fAt) x2)] : List Write) rfl Try.underlying24 sz56 zer56 rfl rfl rfl rfl rfl (fun i hi => by match i, hi with | 0, _ => rfl) (by decide) (by decide)) (fun b hb => absurd hb (by simp)) ?_
                    rintro _ _ ⟨v27, rfl, rfl⟩
                    refine RH.one 9 (by kernel_rfl) ?_
                    refine RO.v rfl rfl rfl rfl rfl (Yv.app (l := l10) (l2 := ([(Write.mk ((p0.fPending[Int.toNat n6]!).fAt) x2)] : List Write)) 5 rfl rfl rfl (.inr (.inr ⟨0, _, rfl, rfl⟩)) Try.underlying24 szb56 zer56 rfl rfl (fun _ => rfl) hc4) (inX (r := .row v18 56 2 Write.cells l10) 2 rfl) ?_
                    rintro _ _ ⟨v28, rfl, rfl⟩
                    refine RH.take 10 rfl (by kernel_rfl) rfl rfl rfl hB2 (Yp.fieldP rfl rfl Try.underlying26 rfl sz24) ?_
                    refine RH.one 11 (by kernel_rfl) ?_
                    refine RO.u rfl rfl rfl (Yu.storeB 3 rfl rfl rfl rfl sz24 (Pw.own 5 rfl) rfl (Nat.le_of_ble_eq_true rfl)) (inX (r := .box b3 26 [.lit v1, .lit v18, .i p0.fLeft, .b p0.fDown]) 0 rfl) ?_
                    refine RH.sel [2, 2, 2, 2] rfl ?_
                    refine RH.done (by kernel_rfl) ?_
                    cases hm
                    exact ⟨v28, (Sub.cons rfl (Sub.cons rfl (Sub.cons rfl (Sub.cons rfl (Sub.cons rfl Sub.nil))))), rfl⟩
                  ·
                    refine RO.v rfl rfl rfl rfl rfl (Yv.lit Write.cells ([(Write.mk ((p0.fPending[Int.toNat n6]!).fAt) x2)] : List Write) rfl Try.underlying24 sz56 zer56 rfl rfl rfl rfl rfl (fun i hi => by match i, hi with | 0, _ => rfl) (by decide) (by decide)) (fun b hb => absurd hb (by simp)) ?_
                    rintro _ _ ⟨v29, rfl, rfl⟩
                    refine RH.one 1 (by kernel_rfl) ?_
                    refine RO.p rfl rfl rfl rfl rfl (Yp.loadB1 3 rfl rfl rfl one24 rfl) ?_
                    refine RH.one 9 (by kernel_rfl) ?_
                    refine RO.v rfl rfl rfl rfl rfl (Yv.app (l := l10) (l2 := ([(Write.mk ((p0.fPending[Int.toNat n6]!).fAt) x2)] : List Write)) 5 rfl rfl rfl (.inr (.inr ⟨0, _, rfl, rfl⟩)) Try.underlying24 szb56 zer56 rfl rfl (fun _ => rfl) hc4) (inX (r := .row v18 56 2 Write.cells l10) 2 rfl) ?_
                    rintro _ _ ⟨v30, rfl, rfl⟩
                    refine RH.take 10 rfl (by kernel_rfl) rfl rfl rfl hB2 (Yp.fieldP rfl rfl Try.underlying26 rfl sz24) ?_
                    refine RH.one 11 (by kernel_rfl) ?_
                    refine RO.u rfl rfl rfl (Yu.storeB 3 rfl rfl rfl rfl sz24 (Pw.own 5 rfl) rfl (Nat.le_of_ble_eq_true rfl)) (inX (r := .box b3 26 [.lit v1, .lit v18, .i p0.fLeft, .b p0.fDown]) 0 rfl) ?_
                    refine RH.sel [2, 2, 2, 2] rfl ?_
                    refine RH.done (by kernel_rfl) ?_
                    cases hm
                    exact ⟨v30, (Sub.cons rfl (Sub.cons rfl (Sub.cons rfl (Sub.cons rfl (Sub.cons rfl Sub.nil))))), rfl⟩
            ·
              rintro E σ ⟨v20, hsub5, rfl⟩
              have hm := hk6
              refine CW.weak ?_ hsub5
              refine CW.region ?_
              refine RW.p rfl rfl rfl (Yp.add rfl rfl rfl) ?_
              refine RW.p rfl rfl rfl (Yp.move rfl rfl) ?_
              refine RW.nil ?_
              exact ⟨k2, Nat.lt_succ_self _, _, _, v20, (Sub.cons rfl (Sub.cons rfl (Sub.cons rfl (Sub.cons rfl (Sub.cons rfl Sub.nil))))), rfl, hm⟩
          ·
            have hm := iff' hm hb2
            refine CW.exit ?_
            cases hm
            have hm := hk5
            cases hm
            exact ⟨v18, (Sub.cons rfl (Sub.cons rfl Sub.nil)), rfl⟩
    ·
      rintro E σ ⟨v15, hsub6, rfl⟩
      have hm := hk4
      refine CW.weak ?_ hsub6
      refine CW.seq ?_
      refine CW.region ?_
      refine RW.p rfl rfl rfl (Yp.loadBN 1 rfl rfl rfl many26 (Nat.le_of_ble_eq_true rfl)) ?_
      refine RW.u rfl rfl (Yu.storeB 0 rfl rfl rfl rfl sz26 (Pw.agg (PwL.own 2 rfl (PwL.own 3 rfl (PwL.p rfl (PwL.p rfl PwL.nil))))) rfl (Nat.le_of_ble_eq_true rfl)) ?_
      refine RW.nil ?_
      refine CW.sel [2, 2, 0] rfl ?_
      refine CW.ret ?_
      cases hm
      exact fin1 (.inr rfl) rfl (ResIs.cellN 2 rfl rfl many26 rfl) (.cons_cons _ (.cons_cons _ (List.nil_sublist _))) ⟨v1, v15, rfl, rfl⟩

theorem m40_l1_same (p0 : Disk) : ∀ k l i, m40_l1 p0 k l i = m40_1_l1 p0 k l i
  | 0, _, _ => rfl
  | k + 1, l, i => by simp only [m40_l1, m40_1_l1, m40_l1_same]
theorem m40_l2_same (p0 : Disk) : ∀ k l i, m40_l2 p0 k l i = m40_1_l2 p0 k l i
  | 0, _, _ => rfl
  | k + 1, l, i => by simp only [m40_l2, m40_1_l2, m40_l2_same]
theorem f40d (p0 : Disk) {r : Disk} (hm : m40 p0 = some r) : Fr Try.prog 40 [.agg [.sl 1 (cL 1 (cN .u8)) p0.fDurable, .sl 2 Write.cells p0.fPending, .i p0.fLeft, .b p0.fDown]] (fun a s => a = .agg [.sl 1 (cL 1 (cN .u8)) r.fDurable, .sl 2 Write.cells r.fPending, .i r.fLeft, .b r.fDown] ∧ s = []) :=
  Fr.frzG (f40 p0 (by rw [← hm]; simp only [m40, m40_1, m40_l1_same, m40_l2_same])) (by
    rintro _ _ ⟨w0, w1, rfl, rfl⟩
    exact ⟨_, ⟨rfl, rfl⟩, Vw.agg (VwL.cons (Vw.row 0 rfl) (VwL.cons (Vw.row 1 rfl) (VwL.cons (Vw.id _) (VwL.cons (Vw.id _) VwL.nil))))⟩)

theorem f22 (p0 : Disk)  {r : Disk × Int} (hm : m22 p0 = some r) : Fr Try.prog 22 [.agg [.sl 1 (cL 1 (cN .u8)) p0.fDurable, .sl 2 Write.cells p0.fPending, .i p0.fLeft, .b p0.fDown]] (fun a s => a = .tup [.agg [.sl 1 (cL 1 (cN .u8)) r.1.fDurable, .sl 2 Write.cells r.1.fPending, .i r.1.fLeft, .b r.1.fDown], .i r.2] ∧ s = []) := by
  rw [m22] at hm
  refine Fr.of Try.func22 rfl rfl (fun C vs hO hv => ?_)
  obtain ⟨qa, ka, qb, kb, xs, rfl, hoA, hoB, hd, hvr⟩ := oldD hv
  obtain rfl : xs = [] := List.eq_nil_of_length_eq_zero (by simpa using hvr.1)
  refine ⟨[.agg [.lit (.slice qa p0.fDurable.length ka), .lit (.slice qb p0.fPending.length kb), .i p0.fLeft, .b p0.fDown]], rfl, fun A w => (Det.agg (Det.lit (Det.lit (Det.lit (Det.lit Det.nil)))) Det.nil A w).1, ?_⟩
  refine CW.seq ?_
  refine CW.region ?_
  refine RW.v rfl rfl rfl (Yv.box rfl rfl (Pw.p rfl)) ?_
  rintro _ _ ⟨b1, rfl, rfl⟩
  refine RW.v rfl rfl rfl (Yv.alloc rfl zerb26) ?_
  rintro _ _ ⟨b2, rfl, rfl⟩
  refine RW.p rfl rfl rfl (Yp.assign rfl rfl) ?_
  refine RW.nil ?_
  refine CW.seq ?_
  refine CW.seq ?_
  refine CW.region ?_
  refine RW.p rfl rfl rfl (Yp.loadBN 1 rfl rfl rfl many26 (Nat.le_of_ble_eq_true rfl)) ?_
  obtain ⟨x1, hx1, hm⟩ := bnd hm
  refine RW.c rfl rfl rfl (Yc.det hO (Det.agg (Det.lit (Det.lit (Det.lit (Det.lit Det.nil)))) Det.nil) (RelL.cons hd RelL.nil) rfl rfl ok13 rfl rfl (f13 p0 hx1)) ?_
  rintro _ _ ⟨_, ⟨rfl, rfl⟩, rfl⟩
  refine RW.p rfl rfl rfl (Yp.not rfl rfl) ?_
  refine RW.nil ?_
  refine CW.cond rfl (fun hb1 => ?_) (fun hb1 => ?_)
  ·
    have hm := ift hm hb1
    refine CW.seq ?_
    refine CW.region ?_
    refine RW.p rfl rfl rfl (Yp.build rfl plc26 zer26 rfl rfl) ?_
    refine RW.u rfl rfl (Yu.storeB 0 rfl rfl rfl rfl sz26 (Pw.p rfl) rfl (Nat.le_of_ble_eq_true rfl)) ?_
    refine RW.p rfl rfl rfl (Yp.assign rfl rfl) ?_
    refine RW.nil ?_
    refine CW.sayB 0 rfl (VwL.cons (Vw.nil 1 (cL 1 (cN .u8))) (VwL.cons (Vw.nil 2 Write.cells) (VwL.cons (Vw.id _) (VwL.cons (Vw.id _) VwL.nil)))) ?_
    refine CW.ret ?_
    cases hm
    exact fin2 (.inr rfl) rfl (ResIs.cellN 0 rfl rfl many26 rfl) (ResIs.tmp rfl) (List.nil_sublist _) ⟨rfl, rfl⟩
  ·
    have hm := iff' hm hb1
    refine CW.skip ?_
    refine CW.seq ?_
    refine CW.region ?_
    refine RW.p rfl rfl rfl (Yp.loadBN 1 rfl rfl rfl many26 (Nat.le_of_ble_eq_true rfl)) ?_
    obtain ⟨x2, hx2, hm⟩ := bnd hm
    refine RW.c rfl rfl rfl (Yc.det hO (Det.agg (Det.lit (Det.lit (Det.lit (Det.lit Det.nil)))) Det.nil) (RelL.cons hd RelL.nil) rfl rfl ok40 rfl rfl (f40 p0 hx2)) ?_
    rintro _ _ ⟨_, ⟨v1, v2, rfl, rfl⟩, rfl⟩
    refine RW.v rfl rfl rfl (Yv.alloc rfl zerb26) ?_
    rintro _ _ ⟨b3, rfl, rfl⟩
    refine RW.u rfl rfl (Yu.storeB 0 rfl rfl rfl rfl sz26 (Pw.agg (PwL.own 1 rfl (PwL.own 2 rfl (PwL.p rfl (PwL.p rfl PwL.nil))))) rfl (Nat.le_of_ble_eq_true rfl)) ?_
    refine RW.nil ?_
    refine CW.seq ?_
    refine CW.seq ?_
    obtain ⟨⟨n1, c1, c2⟩, hs1, hk1⟩ := bnd hm
    refine CW.cut (fun E σ => Sub [(2, .lit (.pointer (some ⟨b2, 0, none⟩))), (4, .lit (.pointer (some ⟨b3, 0, none⟩))), (18, .b c2)] E ∧ σ = [.box b2 26 [.lit (.slice none 0 0), .lit (.slice none 0 0), .i 0, .b false], .box b3 26 [.lit v1, .lit v2, .i n1, .b c1], .row v1 29 1 (cL 1 (cN .u8)) x2.fDurable, .row v2 56 2 Write.cells x2.fPending]) ?_ ?_
    ·
      have hm := hs1
      refine CW.region ?_
      refine RW.p rfl rfl rfl (Yp.fieldP rfl rfl Try.underlying26 rfl sz4) ?_
      refine RW.p rfl rfl rfl (Yp.loadB1 4 rfl rfl rfl one4 rfl) ?_
      refine RW.p rfl rfl rfl (Yp.move rfl rfl) ?_
      rcases Bool.eq_false_or_eq_true p0.fDown with hb2 | hb2
      ·
        have hm := ift hm hb2
        refine RW.eqv 15 rfl (congrArg AV.b hb2) ?_
        refine RW.skip rfl rfl rfl ?_
        refine RW.skip rfl rfl rfl ?_
        refine RW.p rfl rfl rfl (Yp.pickT rfl rfl rfl) ?_
        refine RW.sel [3, 0, 0, 0] rfl ?_
        refine RW.nil ?_
        cases hm
        exact ⟨(Sub.cons rfl (Sub.cons rfl (Sub.cons rfl Sub.nil))), rfl⟩
      ·
        have hm := iff' hm hb2
        refine RW.eqv 15 rfl (congrArg AV.b hb2) ?_
        obtain ⟨x3, hx3, hm⟩ := bnd hm
        refine RW.c rfl rfl rfl (Yc.fnV (σp := [.box b3 26 [.lit v1, .lit v2, .i x2.fLeft, .b x2.fDown], .row v1 29 1 (cL 1 (cN .u8)) x2.fDurable, .row v2 56 2 Write.cells x2.fPending]) (args' := [.lit (.pointer (some ⟨b3, 0, none⟩))]) rfl rfl ok41 rfl rfl rfl (VwL.id _) (m41_1_ok x2 b3 v1 v2 hx3)) ?_
        rintro _ _ ⟨_, ⟨rfl, rfl⟩, rfl⟩
        refine RW.p rfl rfl rfl (Yp.not rfl rfl) ?_
        refine RW.p rfl rfl rfl (Yp.pickF rfl rfl rfl) ?_
        refine RW.sel [3, 0, 0, 0] rfl ?_
        refine RW.nil ?_
        cases hm
        exact ⟨(Sub.cons rfl (Sub.cons rfl (Sub.cons rfl Sub.nil))), rfl⟩
    ·
      rintro E σ ⟨hsub1, rfl⟩
      have hm := hk1
      refine CW.weak ?_ hsub1
      refine CW.cond rfl (fun hb3 => ?_) (fun hb3 => ?_)
      ·
        have hm := ift hm hb3
        refine CW.seq ?_
        refine CW.region ?_
        refine RW.p rfl rfl rfl (Yp.loadBN 1 rfl rfl rfl many26 (Nat.le_of_ble_eq_true rfl)) ?_
        refine RW.u rfl rfl (Yu.storeB 0 rfl rfl rfl rfl sz26 (Pw.agg (PwL.own 2 rfl (PwL.own 3 rfl (PwL.p rfl (PwL.p rfl PwL.nil))))) rfl (Nat.le_of_ble_eq_true rfl)) ?_
        refine RW.p rfl rfl rfl (Yp.assign rfl rfl) ?_
        refine RW.nil ?_
        refine CW.frzB 2 0 rfl rfl (VwL.cons (Vw.row 0 rfl) (VwL.cons (Vw.id _) (VwL.cons (Vw.id _) (VwL.cons (Vw.id _) VwL.nil)))) ?_
        refine CW.frzB 2 0 rfl rfl (VwL.cons (Vw.id _) (VwL.cons (Vw.row 0 rfl) (VwL.cons (Vw.id _) (VwL.cons (Vw.id _) VwL.nil)))) ?_
        refine CW.ret ?_
        cases hm
        exact fin2 (.inr rfl) rfl (ResIs.cellN 0 rfl rfl many26 rfl) (ResIs.tmp rfl) (List.nil_sublist _) ⟨rfl, rfl⟩
      ·
        have hm := iff' hm hb3
        refine CW.skip ?_
        refine CW.seq ?_
        obtain ⟨l1, hs2, hk2⟩ := bnd hm
        refine CW.cut (fun E σ => ∃ v3 : Value, Sub [(2, .lit (.pointer (some ⟨b2, 0, none⟩))), (4, .lit (.pointer (some ⟨b3, 0, none⟩)))] E ∧ σ = [.box b2 26 [.lit (.slice none 0 0), .lit (.slice none 0 0), .i 0, .b false], .box b3 26 [.lit v3, .lit v2, .i n1, .b c1], .row v3 29 1 (cL 1 (cN .u8)) l1, .row v2 56 2 Write.cells x2.fPending]) ?_ ?_
        ·
          have hm := hs2
          refine CW.seq ?_
          refine CW.region ?_
          refine RW.p rfl rfl rfl (Yp.fieldP rfl rfl Try.underlying26 rfl sz24) ?_
          refine RW.p rfl rfl rfl (Yp.loadB1 1 rfl rfl rfl one24 rfl) ?_
          refine RW.p rfl rfl rfl (Yp.lenRow 3 rfl rfl rfl Try.underlying24) ?_
          refine RW.p rfl rfl rfl (Yp.move rfl rfl) ?_
          refine RW.nil ?_
          refine CW.block ?_
          obtain ⟨l5, hs3, hk3⟩ := bnd hm
          refine CW.lp (fun k1 E σ => ∃ l4 : List (List Int), ∃ n4 : Int, ∃ v6 : Value, Sub [(2, .lit (.pointer (some ⟨b2, 0, none⟩))), (4, .lit (.pointer (some ⟨b3, 0, none⟩))), (21, .lit v2), (22, .i (x2.fPending.length : Int)), (23, .i n4)] E ∧ σ = [.box b2 26 [.lit (.slice none 0 0), .lit (.slice none 0 0), .i 0, .b false], .box b3 26 [.lit v6, .lit v2, .i n1, .b c1], .row v6 29 1 (cL 1 (cN .u8)) l4, .row v2 56 2 Write.cells x2.fPending] ∧ m22_l1 x2 n1 c1 k1 l4 n4 = some l5) (Int.toNat (x2.fPending.length : Int) + 1) ?_ ?_
          · exact ⟨x2.fDurable, 0, v1, (Sub.cons rfl (Sub.cons rfl (Sub.cons rfl (Sub.cons rfl (Sub.cons rfl Sub.nil))))), rfl, hs3⟩
          ·
            rintro k1 E σ ⟨l4, n4, v6, hsub2, rfl, hm⟩
            refine CW.weak ?_ hsub2
            cases k1 with
            | zero => cases hm
            | succ k1 =>
              rw [m22_l1] at hm
              refine CW.seq ?_
              refine CW.region ?_
              refine RW.p rfl rfl rfl (Yp.lss rfl rfl rfl) ?_
              refine RW.nil ?_
              refine CW.seq ?_
              refine CW.cond rfl (fun hb4 => ?_) (fun hb4 => ?_)
              ·
                have hm := ift hm hb4
                refine CW.skip ?_
                refine CW.seq ?_
                refine CW.block ?_
                refine CW.seq ?_
                refine CW.region ?_
                obtain ⟨hc1, hm⟩ := chk hm
                refine RW.p rfl rfl rfl (Yp.indexRow 3 rfl rfl rfl rfl Try.underlying24 sz56 hc1) ?_
                refine RW.p rfl rfl rfl (Yp.loadRN (of := 0) 3 (Int.toNat n4) rfl rfl rfl many56 rfl (by have := hc1; (try simp only [List.length_set] at this); (try simp only [List.length_set]); omega) (by decide)) ?_
                refine RW.v rfl rfl rfl (Yv.alloc rfl zerb56) ?_
                rintro _ _ ⟨b4, rfl, rfl⟩
                refine RW.u rfl rfl (Yu.storeB 0 rfl rfl rfl rfl sz56 (Pw.p rfl) rfl (Nat.le_of_ble_eq_true rfl)) ?_
                refine RW.nil ?_
                refine CW.region ?_
                refine RW.p rfl rfl rfl (Yp.loadBN 0 rfl rfl rfl many56 (Nat.le_of_ble_eq_true rfl)) ?_
                refine RW.sel [2, 2, 2, 0, 0] rfl ?_
                obtain ⟨x4, hx4, hm⟩ := bnd hm
                refine RW.c rfl rfl rfl (Yc.fnV (σp := [.box b3 26 [.lit v6, .lit v2, .i n1, .b c1], .row v6 29 1 (cL 1 (cN .u8)) l4, .row v2 56 2 Write.cells x2.fPending]) (args' := [.lit (.pointer (some ⟨b3, 0, none⟩)), .agg [.i ((x2.fPending[Int.toNat n4]!).fAt), .sl 1 (cN .u8) ((x2.fPending[Int.toNat n4]!).fData)]]) rfl rfl ok45 rfl rfl rfl (VwL.id _) (m45_1_ok (Disk.mk l4 x2.fPending n1 c1) (x2.fPending[Int.toNat n4]!) b3 v6 v2 hx4)) ?_
                rintro _ _ ⟨_, ⟨v8, rfl, rfl⟩, rfl⟩
                refine RW.nil ?_
                refine CW.region ?_
                refine RW.p rfl rfl rfl (Yp.add rfl rfl rfl) ?_
                refine RW.p rfl rfl rfl (Yp.move rfl rfl) ?_
                refine RW.sel [4, 0, 0, 0] rfl ?_
                refine RW.nil ?_
                exact ⟨k1, Nat.lt_succ_self _, _, _, v8, (Sub.cons rfl (Sub.cons rfl (Sub.cons rfl (Sub.cons rfl (Sub.cons rfl Sub.nil))))), rfl, hm⟩
              ·
                have hm := iff' hm hb4
                refine CW.exit ?_
                cases hm
                have hm := hk3
                cases hm
                exact ⟨v6, (Sub.cons rfl (Sub.cons rfl Sub.nil)), rfl⟩
        ·
          rintro E σ ⟨v3, hsub3, rfl⟩
          have hm := hk2
          refine CW.weak ?_ hsub3
          refine CW.seq ?_
          refine CW.region ?_
          refine RW.p rfl rfl rfl (Yp.fieldP rfl rfl Try.underlying26 rfl sz24) ?_
          refine RW.u rfl rfl (Yu.storeB 1 rfl rfl rfl rfl sz24 (Pw.p rfl) rfl (Nat.le_of_ble_eq_true rfl)) ?_
          refine RW.nil ?_
          refine CW.seq ?_
          refine CW.region ?_
          refine RW.p rfl rfl rfl (Yp.loadBN 1 rfl rfl rfl many26 (Nat.le_of_ble_eq_true rfl)) ?_
          refine RW.u rfl rfl (Yu.storeB 0 rfl rfl rfl rfl sz26 (Pw.agg (PwL.own 2 rfl (PwL.p rfl (PwL.p rfl (PwL.p rfl PwL.nil))))) rfl (Nat.le_of_ble_eq_true rfl)) ?_
          refine RW.p rfl rfl rfl (Yp.assign rfl rfl) ?_
          refine RW.nil ?_
          refine CW.frzB 2 0 rfl rfl (VwL.cons (Vw.row 0 rfl) (VwL.cons (Vw.id _) (VwL.cons (Vw.id _) (VwL.cons (Vw.id _) VwL.nil)))) ?_
          refine CW.sayB 0 rfl (VwL.cons (Vw.id _) (VwL.cons (Vw.nil 2 Write.cells) (VwL.cons (Vw.id _) (VwL.cons (Vw.id _) VwL.nil)))) ?_
          refine CW.ret ?_
          cases hm
          exact fin2 (.inr rfl) rfl (ResIs.cellN 0 rfl rfl many26 rfl) (ResIs.tmp rfl) (List.nil_sublist _) ⟨rfl, rfl⟩

theorem f23 (p0 : Disk) (p1 : Int)  {r : Disk × Int} (hm : m23 p0 p1 = some r) : Fr Try.prog 23 [.agg [.sl 1 (cL 1 (cN .u8)) p0.fDurable, .sl 2 Write.cells p0.fPending, .i p0.fLeft, .b p0.fDown], .i p1] (fun a s => a = .tup [.agg [.sl 1 (cL 1 (cN .u8)) r.1.fDurable, .sl 2 Write.cells r.1.fPending, .i r.1.fLeft, .b r.1.fDown], .i r.2] ∧ s = []) := by
  rw [m23] at hm
  refine Fr.of Try.func23 rfl rfl (fun C vs hO hv => ?_)
  obtain ⟨qa, ka, qb, kb, xs, rfl, hoA, hoB, hd, hvr⟩ := oldD hv
  obtain ⟨x, xs, rfl, hx, hvr⟩ := hvr.head
  obtain rfl := hx.litEq
  obtain rfl : xs = [] := List.eq_nil_of_length_eq_zero (by simpa using hvr.1)
  refine ⟨[.agg [.lit (.slice qa p0.fDurable.length ka), .lit (.slice qb p0.fPending.length kb), .i p0.fLeft, .b p0.fDown], .i p1], rfl, fun A w => (Det.agg (Det.lit (Det.lit (Det.lit (Det.lit Det.nil)))) (Det.lit Det.nil) A w).1, ?_⟩
  refine CW.seq ?_
  refine CW.region ?_
  refine RW.v rfl rfl rfl (Yv.box rfl rfl (Pw.p rfl)) ?_
  rintro _ _ ⟨b1, rfl, rfl⟩
  refine RW.v rfl rfl rfl (Yv.alloc rfl zerb26) ?_
  rintro _ _ ⟨b2, rfl, rfl⟩
  refine RW.p rfl rfl rfl (Yp.assign rfl rfl) ?_
  refine RW.nil ?_
  refine CW.seq ?_
  refine CW.seq ?_
  refine CW.region ?_
  refine RW.p rfl rfl rfl (Yp.loadBN 1 rfl rfl rfl many26 (Nat.le_of_ble_eq_true rfl)) ?_
  obtain ⟨x1, hx1, hm⟩ := bnd hm
  refine RW.c rfl rfl rfl (Yc.det hO (Det.agg (Det.lit (Det.lit (Det.lit (Det.lit Det.nil)))) Det.nil) (RelL.cons hd RelL.nil) rfl rfl ok13 rfl rfl (f13 p0 hx1)) ?_
  rintro _ _ ⟨_, ⟨rfl, rfl⟩, rfl⟩
  refine RW.p rfl rfl rfl (Yp.not rfl rfl) ?_
  refine RW.nil ?_
  refine CW.cond rfl (fun hb1 => ?_) (fun hb1 => ?_)
  ·
    have hm := ift hm hb1
    refine CW.seq ?_
    refine CW.region ?_
    refine RW.p rfl rfl rfl (Yp.build rfl plc26 zer26 rfl rfl) ?_
    refine RW.u rfl rfl (Yu.storeB 0 rfl rfl rfl rfl sz26 (Pw.p rfl) rfl (Nat.le_of_ble_eq_true rfl)) ?_
    refine RW.p rfl rfl rfl (Yp.assign rfl rfl) ?_
    refine RW.nil ?_
    refine CW.sayB 0 rfl (VwL.cons (Vw.nil 1 (cL 1 (cN .u8))) (VwL.cons (Vw.nil 2 Write.cells) (VwL.cons (Vw.id _) (VwL.cons (Vw.id _) VwL.nil)))) ?_
    refine CW.ret ?_
    cases hm
    exact fin2 (.inr rfl) rfl (ResIs.cellN 0 rfl rfl many26 rfl) (ResIs.tmp rfl) (List.nil_sublist _) ⟨rfl, rfl⟩
  ·
    have hm := iff' hm hb1
    refine CW.skip ?_
    refine CW.seq ?_
    refine CW.region ?_
    refine RW.p rfl rfl rfl (Yp.loadBN 1 rfl rfl rfl many26 (Nat.le_of_ble_eq_true rfl)) ?_
    obtain ⟨x2, hx2, hm⟩ := bnd hm
    refine RW.c rfl rfl rfl (Yc.det hO (Det.agg (Det.lit (Det.lit (Det.lit (Det.lit Det.nil)))) Det.nil) (RelL.cons hd RelL.nil) rfl rfl ok40 rfl rfl (f40d p0 hx2)) ?_
    rintro _ _ ⟨_, ⟨rfl, rfl⟩, rfl⟩
    refine RW.v rfl rfl rfl (Yv.alloc rfl zerb26) ?_
    rintro _ _ ⟨b3, rfl, rfl⟩
    refine RW.u rfl rfl (Yu.storeB 0 rfl rfl rfl rfl sz26 (Pw.p rfl) rfl (Nat.le_of_ble_eq_true rfl)) ?_
    refine RW.nil ?_
    refine CW.seq ?_
    refine CW.seq ?_
    refine CW.region ?_
    refine RW.p rfl rfl rfl (Yp.fieldP rfl rfl Try.underlying26 rfl sz4) ?_
    refine RW.p rfl rfl rfl (Yp.loadB1 2 rfl rfl rfl one4 rfl) ?_
    refine RW.nil ?_
    refine CW.cond rfl (fun hb2 => ?_) (fun hb2 => ?_)
    ·
      have hm := ift hm hb2
      refine CW.seq ?_
      refine CW.region ?_
      refine RW.p rfl rfl rfl (Yp.loadBN 0 rfl rfl rfl many26 (Nat.le_of_ble_eq_true rfl)) ?_
      refine RW.u rfl rfl (Yu.storeB 1 rfl rfl rfl rfl sz26 (Pw.p rfl) rfl (Nat.le_of_ble_eq_true rfl)) ?_
      refine RW.p rfl rfl rfl (Yp.assign rfl rfl) ?_
      refine RW.nil ?_
      refine CW.ret ?_
      cases hm
      exact fin2 (.inr rfl) rfl (ResIs.cellN 1 rfl rfl many26 rfl) (ResIs.tmp rfl) (List.nil_sublist _) ⟨rfl, rfl⟩
    ·
      have hm := iff' hm hb2
      refine CW.skip ?_
      refine CW.seq ?_
      refine CW.region ?_
      refine RW.p rfl rfl rfl (Yp.move rfl rfl) ?_
      refine RW.p rfl rfl rfl (Yp.max rfl rfl rfl) ?_
      refine RW.p rfl rfl rfl (Yp.fieldP rfl rfl Try.underlying26 rfl sz3) ?_
      refine RW.u rfl rfl (Yu.storeB 0 rfl rfl rfl rfl sz3 (Pw.p rfl) rfl (Nat.le_of_ble_eq_true rfl)) ?_
      refine RW.nil ?_
      refine CW.seq ?_
      refine CW.region ?_
      refine RW.p rfl rfl rfl (Yp.loadBN 0 rfl rfl rfl many26 (Nat.le_of_ble_eq_true rfl)) ?_
      refine RW.u rfl rfl (Yu.storeB 1 rfl rfl rfl rfl sz26 (Pw.p rfl) rfl (Nat.le_of_ble_eq_true rfl)) ?_
      refine RW.p rfl rfl rfl (Yp.assign rfl rfl) ?_
      refine RW.nil ?_
      refine CW.ret ?_
      cases hm
      exact fin2 (.inr rfl) rfl (ResIs.cellN 1 rfl rfl many26 rfl) (ResIs.tmp rfl) (List.nil_sublist _) ⟨rfl, rfl⟩

theorem f24 (p0 : Disk) (p1 : List Bool)  {r : Disk × Int} (hm : m24 p0 p1 = some r) : Fr Try.prog 24 [.agg [.sl 1 (cL 1 (cN .u8)) p0.fDurable, .sl 2 Write.cells p0.fPending, .i p0.fLeft, .b p0.fDown], .sl 1 cB p1] (fun a s => a = .tup [.agg [.sl 1 (cL 1 (cN .u8)) r.1.fDurable, .sl 2 Write.cells r.1.fPending, .i r.1.fLeft, .b r.1.fDown], .i r.2] ∧ s = []) := by
  rw [m24] at hm
  refine Fr.of Try.func24 rfl rfl (fun C vs hO hv => ?_)
  obtain ⟨qa, ka, qb, kb, xs, rfl, hoA, hoB, hd, hvr⟩ := oldD hv
  obtain ⟨x, xs, rfl, hoC, hvr⟩ := hvr.head
  obtain ⟨qc, kc, _, rfl, _⟩ := hoC.slInv
  obtain rfl : xs = [] := List.eq_nil_of_length_eq_zero (by simpa using hvr.1)
  refine ⟨[.agg [.lit (.slice qa p0.fDurable.length ka), .lit (.slice qb p0.fPending.length kb), .i p0.fLeft, .b p0.fDown], .lit (.slice qc p1.length kc)], rfl, fun A w => (Det.agg (Det.lit (Det.lit (Det.lit (Det.lit Det.nil)))) (Det.lit Det.nil) A w).1, ?_⟩
  refine CW.seq ?_
  refine CW.region ?_
  refine RW.v rfl rfl rfl (Yv.box rfl rfl (Pw.p rfl)) ?_
  rintro _ _ ⟨b1, rfl, rfl⟩
  refine RW.v rfl rfl rfl (Yv.alloc rfl zerb26) ?_
  rintro _ _ ⟨b2, rfl, rfl⟩
  refine RW.p rfl rfl rfl (Yp.assign rfl rfl) ?_
  refine RW.nil ?_
  refine CW.seq ?_
  refine CW.seq ?_
  refine CW.region ?_
  refine RW.p rfl rfl rfl (Yp.loadBN 1 rfl rfl rfl many26 (Nat.le_of_ble_eq_true rfl)) ?_
  obtain ⟨x1, hx1, hm⟩ := bnd hm
  refine RW.c rfl rfl rfl (Yc.det hO (Det.agg (Det.lit (Det.lit (Det.lit (Det.lit Det.nil)))) Det.nil) (RelL.cons hd RelL.nil) rfl rfl ok13 rfl rfl (f13 p0 hx1)) ?_
  rintro _ _ ⟨_, ⟨rfl, rfl⟩, rfl⟩
  refine RW.p rfl rfl rfl (Yp.not rfl rfl) ?_
  refine RW.nil ?_
  refine CW.cond rfl (fun hb1 => ?_) (fun hb1 => ?_)
  ·
    have hm := ift hm hb1
    refine CW.seq ?_
    refine CW.region ?_
    refine RW.p rfl rfl rfl (Yp.build rfl plc26 zer26 rfl rfl) ?_
    refine RW.u rfl rfl (Yu.storeB 0 rfl rfl rfl rfl sz26 (Pw.p rfl) rfl (Nat.le_of_ble_eq_true rfl)) ?_
    refine RW.p rfl rfl rfl (Yp.assign rfl rfl) ?_
    refine RW.nil ?_
    refine CW.sayB 0 rfl (VwL.cons (Vw.nil 1 (cL 1 (cN .u8))) (VwL.cons (Vw.nil 2 Write.cells) (VwL.cons (Vw.id _) (VwL.cons (Vw.id _) VwL.nil)))) ?_
    refine CW.ret ?_
    cases hm
    exact fin2 (.inr rfl) rfl (ResIs.cellN 0 rfl rfl many26 rfl) (ResIs.tmp rfl) (List.nil_sublist _) ⟨rfl, rfl⟩
  ·
    have hm := iff' hm hb1
    refine CW.skip ?_
    refine CW.seq ?_
    refine CW.region ?_
    refine RW.p rfl rfl rfl (Yp.loadBN 1 rfl rfl rfl many26 (Nat.le_of_ble_eq_true rfl)) ?_
    obtain ⟨x2, hx2, hm⟩ := bnd hm
    refine RW.c rfl rfl rfl (Yc.det hO (Det.agg (Det.lit (Det.lit (Det.lit (Det.lit Det.nil)))) Det.nil) (RelL.cons hd RelL.nil) rfl rfl ok40 rfl rfl (f40 p0 hx2)) ?_
    rintro _ _ ⟨_, ⟨v1, v2, rfl, rfl⟩, rfl⟩
    refine RW.v rfl rfl rfl (Yv.alloc rfl zerb26) ?_
    rintro _ _ ⟨b3, rfl, rfl⟩
    refine RW.u rfl rfl (Yu.storeB 0 rfl rfl rfl rfl sz26 (Pw.agg (PwL.own 1 rfl (PwL.own 2 rfl (PwL.p rfl (PwL.p rfl PwL.nil))))) rfl (Nat.le_of_ble_eq_true rfl)) ?_
    refine RW.nil ?_
    refine CW.seq ?_
    obtain ⟨l1, hs1, hk1⟩ := bnd hm
    refine CW.cut (fun E σ => ∃ v3 : Value, Sub [(4, .lit (.pointer (some ⟨b2, 0, none⟩))), (6, .lit (.pointer (some ⟨b3, 0, none⟩)))] E ∧ σ = [.box b2 26 [.lit (.slice none 0 0), .lit (.slice none 0 0), .i 0, .b false], .box b3 26 [.lit v3, .lit v2, .i x2.fLeft, .b x2.fDown], .row v3 29 1 (cL 1 (cN .u8)) l1, .row v2 56 2 Write.cells x2.fPending]) ?_ ?_
    ·
      have hm := hs1
      refine CW.seq ?_
      refine CW.region ?_
      refine RW.p rfl rfl rfl (Yp.fieldP rfl rfl Try.underlying26 rfl sz24) ?_
      refine RW.p rfl rfl rfl (Yp.loadB1 0 rfl rfl rfl one24 rfl) ?_
      refine RW.p rfl rfl rfl (Yp.lenRow 2 rfl rfl rfl Try.underlying24) ?_
      refine RW.p rfl rfl rfl (Yp.move rfl rfl) ?_
      refine RW.nil ?_
      refine CW.block ?_
      refine CW.sel [3, 0, 0, 0] rfl ?_
      obtain ⟨l5, hs2, hk2⟩ := bnd hm
      refine CW.lp (fun k1 E σ => ∃ l4 : List (List Int), ∃ n3 : Int, ∃ v6 : Value, Sub [(1, .lit (.slice qc p1.length kc)), (4, .lit (.pointer (some ⟨b2, 0, none⟩))), (6, .lit (.pointer (some ⟨b3, 0, none⟩))), (16, .lit v2), (17, .i (x2.fPending.length : Int)), (18, .i n3)] E ∧ σ = [.box b2 26 [.lit (.slice none 0 0), .lit (.slice none 0 0), .i 0, .b false], .box b3 26 [.lit v6, .lit v2, .i x2.fLeft, .b x2.fDown], .row v6 29 1 (cL 1 (cN .u8)) l4, .row v2 56 2 Write.cells x2.fPending] ∧ m24_l1 p1 x2 k1 l4 n3 = some l5) (Int.toNat (x2.fPending.length : Int) + 1) ?_ ?_
      · exact ⟨x2.fDurable, 0, v1, (Sub.cons rfl (Sub.cons rfl (Sub.cons rfl (Sub.cons rfl (Sub.cons rfl (Sub.cons rfl Sub.nil)))))), rfl, hs2⟩
      ·
        rintro k1 E σ ⟨l4, n3, v6, hsub1, rfl, hm⟩
        refine CW.weak ?_ hsub1
        cases k1 with
        | zero => cases hm
        | succ k1 =>
          rw [m24_l1] at hm
          refine CW.seq ?_
          refine CW.region ?_
          refine RW.p rfl rfl rfl (Yp.lss rfl rfl rfl) ?_
          refine RW.nil ?_
          refine CW.seq ?_
          refine CW.cond rfl (fun hb2 => ?_) (fun hb2 => ?_)
          ·
            have hm := ift hm hb2
            refine CW.skip ?_
            refine CW.seq ?_
            obtain ⟨l6, hs3, hk3⟩ := bnd hm
            refine CW.cut (fun E σ => ∃ v8 : Value, Sub [(1, .lit (.slice qc p1.length kc)), (4, .lit (.pointer (some ⟨b2, 0, none⟩))), (6, .lit (.pointer (some ⟨b3, 0, none⟩))), (16, .lit v2), (17, .i (x2.fPending.length : Int)), (18, .i n3)] E ∧ σ = [.box b2 26 [.lit (.slice none 0 0), .lit (.slice none 0 0), .i 0, .b false], .box b3 26 [.lit v8, .lit v2, .i x2.fLeft, .b x2.fDown], .row v8 29 1 (cL 1 (cN .u8)) l6, .row v2 56 2 Write.cells x2.fPending]) ?_ ?_
            ·
              have hm := hs3
              refine CW.block ?_
              refine CW.seq ?_
              refine CW.region ?_
              refine RW.p rfl rfl rfl (Yp.move rfl rfl) ?_
              obtain ⟨hc1, hm⟩ := chk hm
              refine RW.p rfl rfl rfl (Yp.indexRow 3 rfl rfl rfl rfl Try.underlying24 sz56 hc1) ?_
              refine RW.p rfl rfl rfl (Yp.loadRN (of := 0) 3 (Int.toNat n3) rfl rfl rfl many56 rfl (by have := hc1; (try simp only [List.length_set] at this); (try simp only [List.length_set]); omega) (by decide)) ?_
              refine RW.v rfl rfl rfl (Yv.alloc rfl zerb56) ?_
              rintro _ _ ⟨b4, rfl, rfl⟩
              refine RW.p rfl rfl rfl (Yp.assign rfl rfl) ?_
              refine RW.u rfl rfl (Yu.storeB 0 rfl rfl rfl rfl sz56 (Pw.p rfl) rfl (Nat.le_of_ble_eq_true rfl)) ?_
              refine RW.nil ?_
              refine CW.seq ?_
              obtain ⟨c1, hs4, hk4⟩ := bnd hm
              refine CW.cut (fun E σ => Sub [(1, .lit (.slice qc p1.length kc)), (4, .lit (.pointer (some ⟨b2, 0, none⟩))), (6, .lit (.pointer (some ⟨b3, 0, none⟩))), (8, .lit (.pointer (some ⟨b4, 0, none⟩))), (16, .lit v2), (17, .i (x2.fPending.length : Int)), (18, .i n3), (32, .b c1)] E ∧ σ = [.box b2 26 [.lit (.slice none 0 0), .lit (.slice none 0 0), .i 0, .b false], .box b3 26 [.lit v6, .lit v2, .i x2.fLeft, .b x2.fDown], .row v6 29 1 (cL 1 (cN .u8)) l4, .row v2 56 2 Write.cells x2.fPending, .box b4 56 [.i ((x2.fPending[Int.toNat n3]!).fAt), .sl 1 (cN .u8) ((x2.fPending[Int.toNat n3]!).fData)]]) ?_ ?_
              ·
                have hm := hs4
                refine CW.region ?_
                refine RW.p rfl rfl rfl (Yp.move rfl rfl) ?_
                refine RW.p rfl rfl rfl (Yp.move rfl rfl) ?_
                refine RW.p rfl rfl rfl (Yp.lenO hoC rfl rfl Try.underlying44) ?_
                refine RW.p rfl rfl rfl (Yp.lss rfl rfl rfl) ?_
                refine RW.p rfl rfl rfl (Yp.move rfl rfl) ?_
                rcases Bool.eq_false_or_eq_true (decide (n3 < (p1.length : Int))) with hb3 | hb3
                ·
                  have hm := ift hm hb3
                  refine RW.eqv 27 rfl (congrArg AV.b hb3) ?_
                  refine RW.p rfl rfl rfl (Yp.move rfl rfl) ?_
                  refine RW.p rfl rfl rfl (Yp.move rfl rfl) ?_
                  obtain ⟨hc2, hm⟩ := chk hm
                  refine RW.p rfl rfl rfl (Yp.indexO hoC rfl rfl rfl Try.underlying44 sz4 hc2) ?_
                  refine RW.v rfl rfl rfl (Yv.loadO1 hO hoC (i := Int.toNat n3) (by omega) rfl rfl one4 rfl) ?_
                  rintro _ _ ⟨u1, rfl, rfl, huA⟩
                  obtain rfl := huA.litEq
                  refine RW.p rfl rfl rfl (Yp.pickT rfl rfl rfl) ?_
                  refine RW.sel [1, 1, 1, 1, 0] rfl ?_
                  refine RW.nil ?_
                  cases hm
                  exact ⟨(Sub.cons rfl (Sub.cons rfl (Sub.cons rfl (Sub.cons rfl (Sub.cons rfl (Sub.cons rfl (Sub.cons rfl (Sub.cons rfl Sub.nil)))))))), rfl⟩
                ·
                  have hm := iff' hm hb3
                  refine RW.eqv 27 rfl (congrArg AV.b hb3) ?_
                  refine RW.skip rfl rfl rfl ?_
                  refine RW.skip rfl rfl rfl ?_
                  refine RW.skip rfl rfl rfl ?_
                  refine RW.skip rfl rfl rfl ?_
                  refine RW.p rfl rfl rfl (Yp.pickF rfl rfl rfl) ?_
                  refine RW.sel [1, 1, 1, 1, 0] rfl ?_
                  refine RW.nil ?_
                  cases hm
                  exact ⟨(Sub.cons rfl (Sub.cons rfl (Sub.cons rfl (Sub.cons rfl (Sub.cons rfl (Sub.cons rfl (Sub.cons rfl (Sub.cons rfl Sub.nil)))))))), rfl⟩
              ·
                rintro E σ ⟨hsub2, rfl⟩
                have hm := hk4
                refine CW.weak ?_ hsub2
                refine CW.cond rfl (fun hb4 => ?_) (fun hb4 => ?_)
                ·
                  have hm := ift hm hb4
                  refine CW.region ?_
                  refine RW.p rfl rfl rfl (Yp.loadBN 4 rfl rfl rfl many56 (Nat.le_of_ble_eq_true rfl)) ?_
                  refine RW.sel [1, 1, 1, 0, 0] rfl ?_
                  obtain ⟨x3, hx3, hm⟩ := bnd hm
                  refine RW.c rfl rfl rfl (Yc.fnV (σp := [.box b3 26 [.lit v6, .lit v2, .i x2.fLeft, .b x2.fDown], .row v6 29 1 (cL 1 (cN .u8)) l4, .row v2 56 2 Write.cells x2.fPending]) (args' := [.lit (.pointer (some ⟨b3, 0, none⟩)), .agg [.i ((x2.fPending[Int.toNat n3]!).fAt), .sl 1 (cN .u8) ((x2.fPending[Int.toNat n3]!).fData)]]) rfl rfl ok45 rfl rfl rfl (VwL.id _) (m45_1_ok (Disk.mk l4 x2.fPending x2.fLeft x2.fDown) (x2.fPending[Int.toNat n3]!) b3 v6 v2 hx3)) ?_
                  rintro _ _ ⟨_, ⟨v9, rfl, rfl⟩, rfl⟩
                  refine RW.sel [3, 0, 0, 0] rfl ?_
                  refine RW.nil ?_
                  cases hm
                  exact ⟨v9, (Sub.cons rfl (Sub.cons rfl (Sub.cons rfl (Sub.cons rfl (Sub.cons rfl (Sub.cons rfl Sub.nil)))))), rfl⟩
                ·
                  have hm := iff' hm hb4
                  refine CW.sel [0, 0, 0, 0] rfl ?_
                  refine CW.skip ?_
                  cases hm
                  exact ⟨v6, (Sub.cons rfl (Sub.cons rfl (Sub.cons rfl (Sub.cons rfl (Sub.cons rfl (Sub.cons rfl Sub.nil)))))), rfl⟩
            ·
              rintro E σ ⟨v8, hsub3, rfl⟩
              have hm := hk3
              refine CW.weak ?_ hsub3
              refine CW.region ?_
              refine RW.p rfl rfl rfl (Yp.add rfl rfl rfl) ?_
              refine RW.p rfl rfl rfl (Yp.move rfl rfl) ?_
              refine RW.nil ?_
              exact ⟨k1, Nat.lt_succ_self _, _, _, v8, (Sub.cons rfl (Sub.cons rfl (Sub.cons rfl (Sub.cons rfl (Sub.cons rfl (Sub.cons rfl Sub.nil)))))), rfl, hm⟩
          ·
            have hm := iff' hm hb2
            refine CW.exit ?_
            cases hm
            have hm := hk2
            cases hm
            exact ⟨v6, (Sub.cons rfl (Sub.cons rfl Sub.nil)), rfl⟩
    ·
      rintro E σ ⟨v3, hsub4, rfl⟩
      have hm := hk1
      refine CW.weak ?_ hsub4
      refine CW.seq ?_
      refine CW.region ?_
      refine RW.p rfl rfl rfl (Yp.fieldP rfl rfl Try.underlying26 rfl sz24) ?_
      refine RW.u rfl rfl (Yu.storeB 1 rfl rfl rfl rfl sz24 (Pw.p rfl) rfl (Nat.le_of_ble_eq_true rfl)) ?_
      refine RW.p rfl rfl rfl (Yp.fieldP rfl rfl Try.underlying26 rfl sz3) ?_
      refine RW.u rfl rfl (Yu.storeB 1 rfl rfl rfl rfl sz3 (Pw.p rfl) rfl (Nat.le_of_ble_eq_true rfl)) ?_
      refine RW.p rfl rfl rfl (Yp.fieldP rfl rfl Try.underlying26 rfl sz4) ?_
      refine RW.u rfl rfl (Yu.storeB 1 rfl rfl rfl rfl sz4 (Pw.p rfl) rfl (Nat.le_of_ble_eq_true rfl)) ?_
      refine RW.nil ?_
      refine CW.seq ?_
      refine CW.region ?_
      refine RW.p rfl rfl rfl (Yp.loadBN 1 rfl rfl rfl many26 (Nat.le_of_ble_eq_true rfl)) ?_
      refine RW.u rfl rfl (Yu.storeB 0 rfl rfl rfl rfl sz26 (Pw.agg (PwL.own 2 rfl (PwL.p rfl (PwL.p rfl (PwL.p rfl PwL.nil))))) rfl (Nat.le_of_ble_eq_true rfl)) ?_
      refine RW.p rfl rfl rfl (Yp.assign rfl rfl) ?_
      refine RW.nil ?_
      refine CW.frzB 2 0 rfl rfl (VwL.cons (Vw.row 0 rfl) (VwL.cons (Vw.id _) (VwL.cons (Vw.id _) (VwL.cons (Vw.id _) VwL.nil)))) ?_
      refine CW.sayB 0 rfl (VwL.cons (Vw.id _) (VwL.cons (Vw.nil 2 Write.cells) (VwL.cons (Vw.id _) (VwL.cons (Vw.id _) VwL.nil)))) ?_
      refine CW.ret ?_
      cases hm
      exact fin2 (.inr rfl) rfl (ResIs.cellN 0 rfl rfl many26 rfl) (ResIs.tmp rfl) (List.nil_sublist _) ⟨rfl, rfl⟩

theorem f19 (p0 : Disk) (p1 : Int) (p2 : List Int)  {r : Disk × Int} (hm : m19 p0 p1 p2 = some r) : Fr Try.prog 19 [.agg [.sl 1 (cL 1 (cN .u8)) p0.fDurable, .sl 2 Write.cells p0.fPending, .i p0.fLeft, .b p0.fDown], .i p1, .sl 1 (cN .u8) p2] (fun a s => a = .tup [.agg [.sl 1 (cL 1 (cN .u8)) r.1.fDurable, .sl 2 Write.cells r.1.fPending, .i r.1.fLeft, .b r.1.fDown], .i r.2] ∧ s = []) := by
  rw [m19] at hm
  refine Fr.of Try.func19 rfl rfl (fun C vs hO hv => ?_)
  obtain ⟨qa, ka, qb, kb, xs, rfl, hoA, hoB, hd, hvr⟩ := oldD hv
  obtain ⟨x, xs1, rfl, hx, hv2⟩ := hvr.head
  obtain rfl := hx.litEq
  obtain ⟨x, xs, rfl, hoC, hvr⟩ := hv2.head
  obtain ⟨qc, kc, _, rfl, _⟩ := hoC.slInv
  obtain rfl : xs = [] := List.eq_nil_of_length_eq_zero (by simpa using hvr.1)
  refine ⟨[.agg [.lit (.slice qa p0.fDurable.length ka), .lit (.slice qb p0.fPending.length kb), .i p0.fLeft, .b p0.fDown], .i p1, .lit (.slice qc p2.length kc)], rfl, fun A w => (Det.agg (Det.lit (Det.lit (Det.lit (Det.lit Det.nil)))) (Det.lit (Det.lit Det.nil)) A w).1, ?_⟩
  refine CW.seq ?_
  refine CW.region ?_
  refine RW.v rfl rfl rfl (Yv.box rfl rfl (Pw.p rfl)) ?_
  rintro _ _ ⟨b1, rfl, rfl⟩
  refine RW.v rfl rfl rfl (Yv.alloc rfl zerb26) ?_
  rintro _ _ ⟨b2, rfl, rfl⟩
  refine RW.p rfl rfl rfl (Yp.assign rfl rfl) ?_
  refine RW.nil ?_
  refine CW.seq ?_
  refine CW.seq ?_
  refine CW.region ?_
  refine RW.p rfl rfl rfl (Yp.loadBN 1 rfl rfl rfl many26 (Nat.le_of_ble_eq_true rfl)) ?_
  obtain ⟨x1, hx1, hm⟩ := bnd hm
  refine RW.c rfl rfl rfl (Yc.det hO (Det.agg (Det.lit (Det.lit (Det.lit (Det.lit Det.nil)))) Det.nil) (RelL.cons hd RelL.nil) rfl rfl ok13 rfl rfl (f13 p0 hx1)) ?_
  rintro _ _ ⟨_, ⟨rfl, rfl⟩, rfl⟩
  refine RW.p rfl rfl rfl (Yp.not rfl rfl) ?_
  refine RW.nil ?_
  refine CW.cond rfl (fun hb1 => ?_) (fun hb1 => ?_)
  ·
    have hm := ift hm hb1
    refine CW.seq ?_
    refine CW.region ?_
    refine RW.p rfl rfl rfl (Yp.build rfl plc26 zer26 rfl rfl) ?_
    refine RW.u rfl rfl (Yu.storeB 0 rfl rfl rfl rfl sz26 (Pw.p rfl) rfl (Nat.le_of_ble_eq_true rfl)) ?_
    refine RW.p rfl rfl rfl (Yp.assign rfl rfl) ?_
    refine RW.nil ?_
    refine CW.sayB 0 rfl (VwL.cons (Vw.nil 1 (cL 1 (cN .u8))) (VwL.cons (Vw.nil 2 Write.cells) (VwL.cons (Vw.id _) (VwL.cons (Vw.id _) VwL.nil)))) ?_
    refine CW.ret ?_
    cases hm
    exact fin2 (.inr rfl) rfl (ResIs.cellN 0 rfl rfl many26 rfl) (ResIs.tmp rfl) (List.nil_sublist _) ⟨rfl, rfl⟩
  ·
    have hm := iff' hm hb1
    refine CW.skip ?_
    refine CW.seq ?_
    refine CW.region ?_
    refine RW.p rfl rfl rfl (Yp.loadBN 1 rfl rfl rfl many26 (Nat.le_of_ble_eq_true rfl)) ?_
    obtain ⟨x2, hx2, hm⟩ := bnd hm
    refine RW.c rfl rfl rfl (Yc.det hO (Det.agg (Det.lit (Det.lit (Det.lit (Det.lit Det.nil)))) Det.nil) (RelL.cons hd RelL.nil) rfl rfl ok40 rfl rfl (f40 p0 hx2)) ?_
    rintro _ _ ⟨_, ⟨v1, v2, rfl, rfl⟩, rfl⟩
    refine RW.v rfl rfl rfl (Yv.alloc rfl zerb26) ?_
    rintro _ _ ⟨b3, rfl, rfl⟩
    refine RW.u rfl rfl (Yu.storeB 0 rfl rfl rfl rfl sz26 (Pw.agg (PwL.own 1 rfl (PwL.own 2 rfl (PwL.p rfl (PwL.p rfl PwL.nil))))) rfl (Nat.le_of_ble_eq_true rfl)) ?_
    refine RW.nil ?_
    refine CW.seq ?_
    refine CW.block ?_
    refine CW.seq ?_
    obtain ⟨c1, hs1, hk1⟩ := bnd hm
    refine CW.cut (fun E σ => Sub [(1, .i p1), (2, .lit (.slice qc p2.length kc)), (3, .lit (.pointer (some ⟨b1, 0, none⟩))), (6, .lit (.pointer (some ⟨b2, 0, none⟩))), (8, .lit (.pointer (some ⟨b3, 0, none⟩))), (15, .b c1)] E ∧ σ = [.box b1 26 [.lit (.slice qa p0.fDurable.length ka), .lit (.slice qb p0.fPending.length kb), .i p0.fLeft, .b p0.fDown], .box b2 26 [.lit (.slice none 0 0), .lit (.slice none 0 0), .i 0, .b false], .box b3 26 [.lit v1, .lit v2, .i x2.fLeft, .b x2.fDown], .row v1 29 1 (cL 1 (cN .u8)) x2.fDurable, .row v2 56 2 Write.cells x2.fPending]) ?_ ?_
    ·
      have hm := hs1
      refine CW.region ?_
      refine RW.p rfl rfl rfl (Yp.move rfl rfl) ?_
      refine RW.p rfl rfl rfl (Yp.lss rfl rfl rfl) ?_
      refine RW.p rfl rfl rfl (Yp.move rfl rfl) ?_
      rcases Bool.eq_false_or_eq_true (decide (p1 < 0)) with hb2 | hb2
      ·
        have hm := ift hm hb2
        refine RW.eqv 18 rfl (congrArg AV.b hb2) ?_
        refine RW.skip rfl rfl rfl ?_
        refine RW.skip rfl rfl rfl ?_
        refine RW.skip rfl rfl rfl ?_
        refine RW.skip rfl rfl rfl ?_
        refine RW.skip rfl rfl rfl ?_
        refine RW.p rfl rfl rfl (Yp.pickT rfl rfl rfl) ?_
        refine RW.p rfl rfl rfl (Yp.assign rfl rfl) ?_
        refine RW.sel [4, 3, 0, 0, 0] rfl ?_
        refine RW.nil ?_
        cases hm
        exact ⟨(Sub.cons rfl (Sub.cons rfl (Sub.cons rfl (Sub.cons rfl (Sub.cons rfl (Sub.cons rfl Sub.nil)))))), rfl⟩
      ·
        have hm := iff' hm hb2
        refine RW.eqv 18 rfl (congrArg AV.b hb2) ?_
        refine RW.p rfl rfl rfl (Yp.move rfl rfl) ?_
        refine RW.p rfl rfl rfl (Yp.fieldP rfl rfl Try.underlying26 rfl sz23) ?_
        refine RW.p rfl rfl rfl (Yp.loadB1 4 rfl rfl rfl one23 rfl) ?_
        refine RW.p rfl rfl rfl (Yp.lenO hoA rfl rfl Try.underlying23) ?_
        refine RW.p rfl rfl rfl (Yp.geq rfl rfl rfl) ?_
        refine RW.p rfl rfl rfl (Yp.pickF rfl rfl rfl) ?_
        refine RW.p rfl rfl rfl (Yp.assign rfl rfl) ?_
        refine RW.sel [4, 3, 0, 0, 0] rfl ?_
        refine RW.nil ?_
        cases hm
        exact ⟨(Sub.cons rfl (Sub.cons rfl (Sub.cons rfl (Sub.cons rfl (Sub.cons rfl (Sub.cons rfl Sub.nil)))))), rfl⟩
    ·
      rintro E σ ⟨hsub1, rfl⟩
      have hm := hk1
      refine CW.weak ?_ hsub1
      refine CW.cond rfl (fun hb3 => ?_) (fun hb3 => ?_)
      ·
        have hm := ift hm hb3
        refine CW.seq ?_
        refine CW.region ?_
        refine RW.p rfl rfl rfl (Yp.loadBN 2 rfl rfl rfl many26 (Nat.le_of_ble_eq_true rfl)) ?_
        refine RW.u rfl rfl (Yu.storeB 1 rfl rfl rfl rfl sz26 (Pw.agg (PwL.own 3 rfl (PwL.own 4 rfl (PwL.p rfl (PwL.p rfl PwL.nil))))) rfl (Nat.le_of_ble_eq_true rfl)) ?_
        refine RW.p rfl rfl rfl (Yp.assign rfl rfl) ?_
        refine RW.nil ?_
        refine CW.frzB 3 1 rfl rfl (VwL.cons (Vw.row 0 rfl) (VwL.cons (Vw.id _) (VwL.cons (Vw.id _) (VwL.cons (Vw.id _) VwL.nil)))) ?_
        refine CW.frzB 3 1 rfl rfl (VwL.cons (Vw.id _) (VwL.cons (Vw.row 0 rfl) (VwL.cons (Vw.id _) (VwL.cons (Vw.id _) VwL.nil)))) ?_
        refine CW.ret ?_
        cases hm
        exact fin2 (.inr rfl) rfl (ResIs.cellN 1 rfl rfl many26 rfl) (ResIs.tmp rfl) (List.nil_sublist _) ⟨rfl, rfl⟩
      ·
        have hm := iff' hm hb3
        refine CW.seq ?_
        refine CW.region ?_
        refine RW.p rfl rfl rfl (Yp.move rfl rfl) ?_
        refine RW.p rfl rfl rfl (Yp.lenO hoC rfl rfl Try.underlying29) ?_
        refine RW.p rfl rfl rfl (Yp.neq rfl rfl rfl) ?_
        refine RW.p rfl rfl rfl (Yp.assign rfl rfl) ?_
        refine RW.nil ?_
        refine CW.cond rfl (fun hb4 => ?_) (fun hb4 => ?_)
        ·
          have hm := ift hm hb4
          refine CW.seq ?_
          refine CW.region ?_
          refine RW.p rfl rfl rfl (Yp.loadBN 2 rfl rfl rfl many26 (Nat.le_of_ble_eq_true rfl)) ?_
          refine RW.u rfl rfl (Yu.storeB 1 rfl rfl rfl rfl sz26 (Pw.agg (PwL.own 3 rfl (PwL.own 4 rfl (PwL.p rfl (PwL.p rfl PwL.nil))))) rfl (Nat.le_of_ble_eq_true rfl)) ?_
          refine RW.p rfl rfl rfl (Yp.assign rfl rfl) ?_
          refine RW.nil ?_
          refine CW.frzB 3 1 rfl rfl (VwL.cons (Vw.row 0 rfl) (VwL.cons (Vw.id _) (VwL.cons (Vw.id _) (VwL.cons (Vw.id _) VwL.nil)))) ?_
          refine CW.frzB 3 1 rfl rfl (VwL.cons (Vw.id _) (VwL.cons (Vw.row 0 rfl) (VwL.cons (Vw.id _) (VwL.cons (Vw.id _) VwL.nil)))) ?_
          refine CW.ret ?_
          cases hm
          exact fin2 (.inr rfl) rfl (ResIs.cellN 1 rfl rfl many26 rfl) (ResIs.tmp rfl) (List.nil_sublist _) ⟨rfl, rfl⟩
        ·
          have hm := iff' hm hb4
          refine CW.seq ?_
          refine CW.region ?_
          refine RW.p rfl rfl rfl (Yp.fieldP rfl rfl Try.underlying26 rfl sz4) ?_
          refine RW.p rfl rfl rfl (Yp.loadB1 0 rfl rfl rfl one4 rfl) ?_
          refine RW.p rfl rfl rfl (Yp.assign rfl rfl) ?_
          refine RW.nil ?_
          refine CW.cond rfl (fun hb5 => ?_) (fun hb5 => ?_)
          ·
            have hm := ift hm hb5
            refine CW.seq ?_
            refine CW.region ?_
            refine RW.p rfl rfl rfl (Yp.loadBN 2 rfl rfl rfl many26 (Nat.le_of_ble_eq_true rfl)) ?_
            refine RW.u rfl rfl (Yu.storeB 1 rfl rfl rfl rfl sz26 (Pw.agg (PwL.own 3 rfl (PwL.own 4 rfl (PwL.p rfl (PwL.p rfl PwL.nil))))) rfl (Nat.le_of_ble_eq_true rfl)) ?_
            refine RW.p rfl rfl rfl (Yp.assign rfl rfl) ?_
            refine RW.nil ?_
            refine CW.frzB 3 1 rfl rfl (VwL.cons (Vw.row 0 rfl) (VwL.cons (Vw.id _) (VwL.cons (Vw.id _) (VwL.cons (Vw.id _) VwL.nil)))) ?_
            refine CW.frzB 3 1 rfl rfl (VwL.cons (Vw.id _) (VwL.cons (Vw.row 0 rfl) (VwL.cons (Vw.id _) (VwL.cons (Vw.id _) VwL.nil)))) ?_
            refine CW.ret ?_
            cases hm
            exact fin2 (.inr rfl) rfl (ResIs.cellN 1 rfl rfl many26 rfl) (ResIs.tmp rfl) (List.nil_sublist _) ⟨rfl, rfl⟩
          ·
            have hm := iff' hm hb5
            refine CW.seq ?_
            refine CW.region ?_
            refine RW.p rfl rfl rfl (Yp.fieldP rfl rfl Try.underlying26 rfl sz24) ?_
            refine RW.p rfl rfl rfl (Yp.loadB1 0 rfl rfl rfl one24 rfl) ?_
            refine RW.p rfl rfl rfl (Yp.lenO hoB rfl rfl Try.underlying24) ?_
            refine RW.p rfl rfl rfl (Yp.eql rfl rfl rfl) ?_
            refine RW.p rfl rfl rfl (Yp.assign rfl rfl) ?_
            refine RW.nil ?_
            refine CW.cond rfl (fun hb6 => ?_) (fun hb6 => ?_)
            ·
              have hm := ift hm hb6
              refine CW.seq ?_
              refine CW.region ?_
              refine RW.p rfl rfl rfl (Yp.loadBN 2 rfl rfl rfl many26 (Nat.le_of_ble_eq_true rfl)) ?_
              refine RW.u rfl rfl (Yu.storeB 1 rfl rfl rfl rfl sz26 (Pw.agg (PwL.own 3 rfl (PwL.own 4 rfl (PwL.p rfl (PwL.p rfl PwL.nil))))) rfl (Nat.le_of_ble_eq_true rfl)) ?_
              refine RW.p rfl rfl rfl (Yp.assign rfl rfl) ?_
              refine RW.nil ?_
              refine CW.frzB 3 1 rfl rfl (VwL.cons (Vw.row 0 rfl) (VwL.cons (Vw.id _) (VwL.cons (Vw.id _) (VwL.cons (Vw.id _) VwL.nil)))) ?_
              refine CW.frzB 3 1 rfl rfl (VwL.cons (Vw.id _) (VwL.cons (Vw.row 0 rfl) (VwL.cons (Vw.id _) (VwL.cons (Vw.id _) VwL.nil)))) ?_
              refine CW.ret ?_
              cases hm
              exact fin2 (.inr rfl) rfl (ResIs.cellN 1 rfl rfl many26 rfl) (ResIs.tmp rfl) (List.nil_sublist _) ⟨rfl, rfl⟩
            ·
              have hm := iff' hm hb6
              refine CW.seq ?_
              refine CW.region ?_
              refine RW.sel [2, 2, 2, 0, 0] rfl ?_
              obtain ⟨x3, hx3, hm⟩ := bnd hm
              refine RW.c rfl rfl rfl (Yc.fnV (σp := [.box b3 26 [.lit v1, .lit v2, .i x2.fLeft, .b x2.fDown], .row v1 29 1 (cL 1 (cN .u8)) x2.fDurable, .row v2 56 2 Write.cells x2.fPending]) (args' := [.lit (.pointer (some ⟨b3, 0, none⟩))]) rfl rfl ok41 rfl rfl rfl (VwL.id _) (m41_1_ok x2 b3 v1 v2 hx3)) ?_
              rintro _ _ ⟨_, ⟨rfl, rfl⟩, rfl⟩
              refine RW.p rfl rfl rfl (Yp.not rfl rfl) ?_
              refine RW.p rfl rfl rfl (Yp.assign rfl rfl) ?_
              refine RW.nil ?_
              refine CW.cond rfl (fun hb7 => ?_) (fun hb7 => ?_)
              ·
                have hm := ift hm hb7
                refine CW.seq ?_
                refine CW.region ?_
                refine RW.p rfl rfl rfl (Yp.loadBN 0 rfl rfl rfl many26 (Nat.le_of_ble_eq_true rfl)) ?_
                refine RW.u rfl rfl (Yu.storeB 4 rfl rfl rfl rfl sz26 (Pw.agg (PwL.own 1 rfl (PwL.own 2 rfl (PwL.p rfl (PwL.p rfl PwL.nil))))) rfl (Nat.le_of_ble_eq_true rfl)) ?_
                refine RW.p rfl rfl rfl (Yp.assign rfl rfl) ?_
                refine RW.nil ?_
                refine CW.frzB 1 3 rfl rfl (VwL.cons (Vw.row 0 rfl) (VwL.cons (Vw.id _) (VwL.cons (Vw.id _) (VwL.cons (Vw.id _) VwL.nil)))) ?_
                refine CW.frzB 1 2 rfl rfl (VwL.cons (Vw.id _) (VwL.cons (Vw.row 0 rfl) (VwL.cons (Vw.id _) (VwL.cons (Vw.id _) VwL.nil)))) ?_
                refine CW.ret ?_
                cases hm
                exact fin2 (.inr rfl) rfl (ResIs.cellN 2 rfl rfl many26 rfl) (ResIs.tmp rfl) (List.nil_sublist _) ⟨rfl, rfl⟩
              ·
                have hm := iff' hm hb7
                refine CW.skip ?_
                refine CW.seq ?_
                obtain ⟨l1, hs2, hk2⟩ := bnd hm
                refine CW.cut (fun E σ => ∃ v3 : Value, Sub [(6, .lit (.pointer (some ⟨b2, 0, none⟩))), (8, .lit (.pointer (some ⟨b3, 0, none⟩)))] E ∧ σ = [.box b2 26 [.lit (.slice none 0 0), .lit (.slice none 0 0), .i 0, .b false], .box b3 26 [.lit v1, .lit v3, .i x3.2.fLeft, .b x3.2.fDown], .row v1 29 1 (cL 1 (cN .u8)) x2.fDurable, .row v3 56 2 Write.cells l1]) ?_ ?_
                ·
                  have hm := hs2
                  obtain ⟨x4, hx4, hm⟩ := bnd hm
                  obtain ⟨hc1, hm⟩ := chk hm
                  refine CW.drawSel 10 rfl [0, 0, 0, 0, 0] [.box b3 26 [.lit v1, .lit v2, .i x3.2.fLeft, .b x3.2.fDown], .row v1 29 1 (cL 1 (cN .u8)) x2.fDurable, .row v2 56 2 Write.cells x2.fPending] [.box b1 26 [.lit (.slice qa p0.fDurable.length ka), .lit (.slice qb p0.fPending.length kb), .i p0.fLeft, .b p0.fDown], .box b2 26 [.lit (.slice none 0 0), .lit (.slice none 0 0), .i 0, .b false]] rfl (by kernel_rfl) ?_
                  intro A1 w1 hB1
                  refine RH.take 0 rfl (by kernel_rfl) rfl rfl rfl hB1 (Yp.fieldP rfl rfl Try.underlying26 rfl sz24) ?_
                  refine RH.take 2 rfl (by kernel_rfl) rfl rfl rfl hB1 (Yp.move rfl rfl) ?_
                  refine RH.take 3 rfl (by kernel_rfl) rfl rfl rfl hB1 (Yp.move rfl rfl) ?_
                  refine RH.two 1 4 (by kernel_rfl) ?_ ?_
                  ·
                    refine RO.p rfl rfl rfl rfl rfl (Yp.loadB1 0 rfl rfl rfl one24 rfl) ?_
                    refine RH.one 4 (by kernel_rfl) ?_
                    refine RO.c rfl rfl rfl rfl rfl (Yc.det hO (Det.lit Det.nil) (RelL.cons hoC RelL.nil) rfl rfl ok39 rfl rfl (f39 p2 hx4)) (fun b hb => absurd hb (by simp [blks])) ?_
                    rintro _ _ ⟨_, ⟨rfl, rfl⟩, rfl⟩
                    refine RH.one 5 (by kernel_rfl) ?_
                    refine RO.p rfl rfl rfl rfl rfl (Yp.build rfl plc56 zer56 rfl rfl) ?_
                    refine RH.one 6 (by kernel_rfl) ?_
                    refine RO.v rfl rfl rfl rfl rfl (Yv.lit Write.cells ([(Write.mk p1 x4)] : List Write) rfl Try.underlying24 sz56 zer56 rfl rfl rfl rfl rfl (fun i hi => by match i, hi with | 0, _ => rfl) (by decide) (by decide)) (fun b hb => absurd hb (by simp)) ?_
                    rintro _ _ ⟨v6, rfl, rfl⟩
                    refine RH.one 7 (by kernel_rfl) ?_
                    refine RO.v rfl rfl rfl rfl rfl (Yv.app (l := x2.fPending) (l2 := ([(Write.mk p1 x4)] : List Write)) 3 rfl rfl rfl (.inr (.inr ⟨0, _, rfl, rfl⟩)) Try.underlying24 szb56 zer56 rfl rfl (fun _ => rfl) hc1) (inX (r := .row v2 56 2 Write.cells x2.fPending) 2 rfl) ?_
                    rintro _ _ ⟨v7, rfl, rfl⟩
                    refine RH.take 8 rfl (by kernel_rfl) rfl rfl rfl hB1 (Yp.fieldP rfl rfl Try.underlying26 rfl sz24) ?_
                    refine RH.one 9 (by kernel_rfl) ?_
                    refine RO.u rfl rfl rfl (Yu.storeB 1 rfl rfl rfl rfl sz24 (Pw.own 3 rfl) rfl (Nat.le_of_ble_eq_true rfl)) (inX (r := .box b3 26 [.lit v1, .lit v2, .i x3.2.fLeft, .b x3.2.fDown]) 0 rfl) ?_
                    refine RH.sel [5, 1, 1, 1] rfl ?_
                    refine RH.done (by kernel_rfl) ?_
                    cases hm
                    exact ⟨v7, (Sub.cons rfl (Sub.cons rfl Sub.nil)), rfl⟩
                  ·
                    refine RO.c rfl rfl rfl rfl rfl (Yc.det hO (Det.lit Det.nil) (RelL.cons hoC RelL.nil) rfl rfl ok39 rfl rfl (f39 p2 hx4)) (fun b hb => absurd hb (by simp [blks])) ?_
                    rintro _ _ ⟨_, ⟨rfl, rfl⟩, rfl⟩
                    refine RH.two 1 5 (by kernel_rfl) ?_ ?_
                    ·
                      refine RO.p rfl rfl rfl rfl rfl (Yp.loadB1 0 rfl rfl rfl one24 rfl) ?_
                      refine RH.one 5 (by kernel_rfl) ?_
                      refine RO.p rfl rfl rfl rfl rfl (Yp.build rfl plc56 zer56 rfl rfl) ?_
                      refine RH.one 6 (by kernel_rfl) ?_
                      refine RO.v rfl rfl rfl rfl rfl (Yv.lit Write.cells ([(Write.mk p1 x4)] : List Write) rfl Try.underlying24 sz56 zer56 rfl rfl rfl rfl rfl (fun i hi => by match i, hi with | 0, _ => rfl) (by decide) (by decide)) (fun b hb => absurd hb (by simp)) ?_
                      rintro _ _ ⟨v8, rfl, rfl⟩
                      refine RH.one 7 (by kernel_rfl) ?_
                      refine RO.v rfl rfl rfl rfl rfl (Yv.app (l := x2.fPending) (l2 := ([(Write.mk p1 x4)] : List Write)) 3 rfl rfl rfl (.inr (.inr ⟨0, _, rfl, rfl⟩)) Try.underlying24 szb56 zer56 rfl rfl (fun _ => rfl) hc1) (inX (r := .row v2 56 2 Write.cells x2.fPending) 2 rfl) ?_
                      rintro _ _ ⟨v9, rfl, rfl⟩
                      refine RH.take 8 rfl (by kernel_rfl) rfl rfl rfl hB1 (Yp.fieldP rfl rfl Try.underlying26 rfl sz24) ?_
                      refine RH.one 9 (by kernel_rfl) ?_
                      refine RO.u rfl rfl rfl (Yu.storeB 1 rfl rfl rfl rfl sz24 (Pw.own 3 rfl) rfl (Nat.le_of_ble_eq_true rfl)) (inX (r := .box b3 26 [.lit v1, .lit v2, .i x3.2.fLeft, .b x3.2.fDown]) 0 rfl) ?_
                      refine RH.sel [5, 1, 1, 1] rfl ?_
                      refine RH.done (by kernel_rfl) ?_
                      cases hm
                      exact ⟨v9, (Sub.cons rfl (Sub.cons rfl Sub.nil)), rfl⟩
                    ·
                      refine RO.p rfl rfl rfl rfl rfl (Yp.build rfl plc56 zer56 rfl rfl) ?_
                      refine RH.two 1 6 (by kernel_rfl) ?_ ?_
                      ·
                        refine RO.p rfl rfl rfl rfl rfl (Yp.loadB1 0 rfl rfl rfl one24 rfl) ?_
                        refine RH.one 6 (by kernel_rfl) ?_
                        refine RO.v rfl rfl rfl rfl rfl (Yv.lit Write.cells ([(Write.mk p1 x4)] : List Write) rfl Try.underlying24 sz56 zer56 rfl rfl rfl rfl rfl (fun i hi => by match i, hi with | 0, _ => rfl) (by decide) (by decide)) (fun b hb => absurd hb (by simp)) ?_
                        rintro _ _ ⟨v10, rfl, rfl⟩
                        refine RH.one 7 (by kernel_rfl) ?_
                        refine RO.v rfl rfl rfl rfl rfl (Yv.app (l := x2.fPending) (l2 := ([(Write.mk p1 x4)] : List Write)) 3 rfl rfl rfl (.inr (.inr ⟨0, _, rfl, rfl⟩)) Try.underlying24 szb56 zer56 rfl rfl (fun _ => rfl) hc1) (inX (r := .row v2 56 2 Write.cells x2.fPending) 2 rfl) ?_
                        rintro _ _ ⟨v11, rfl, rfl⟩
                        refine RH.take 8 rfl (by kernel_rfl) rfl rfl rfl hB1 (Yp.fieldP rfl rfl Try.underlying26 rfl sz24) ?_
                        refine RH.one 9 (by kernel_rfl) ?_
                        refine RO.u rfl rfl rfl (Yu.storeB 1 rfl rfl rfl rfl sz24 (Pw.own 3 rfl) rfl (Nat.le_of_ble_eq_true rfl)) (inX (r := .box b3 26 [.lit v1, .lit v2, .i x3.2.fLeft, .b x3.2.fDown]) 0 rfl) ?_
                        refine RH.sel [5, 1, 1, 1] rfl ?_
                        refine RH.done (by kernel_rfl) ?_
                        cases hm
                        exact ⟨v11, (Sub.cons rfl (Sub.cons rfl Sub.nil)), rfl⟩
                      ·
                        refine RO.v rfl rfl rfl rfl rfl (Yv.lit Write.cells ([(Write.mk p1 x4)] : List Write) rfl Try.underlying24 sz56 zer56 rfl rfl rfl rfl rfl (fun i hi => by match i, hi with | 0, _ => rfl) (by decide) (by decide)) (fun b hb => absurd hb (by simp)) ?_
                        rintro _ _ ⟨v12, rfl, rfl⟩
                        refine RH.one 1 (by kernel_rfl) ?_
                        refine RO.p rfl rfl rfl rfl rfl (Yp.loadB1 1 rfl rfl rfl one24 rfl) ?_
                        refine RH.one 7 (by kernel_rfl) ?_
                        refine RO.v rfl rfl rfl rfl rfl (Yv.app (l := x2.fPending) (l2 := ([(Write.mk p1 x4)] : List Write)) 3 rfl rfl rfl (.inr (.inr ⟨0, _, rfl, rfl⟩)) Try.underlying24 szb56 zer56 rfl rfl (fun _ => rfl) hc1) (inX (r := .row v2 56 2 Write.cells x2.fPending) 2 rfl) ?_
                        rintro _ _ ⟨v13, rfl, rfl⟩
                        refine RH.take 8 rfl (by kernel_rfl) rfl rfl rfl hB1 (Yp.fieldP rfl rfl Try.underlying26 rfl sz24) ?_
                        refine RH.one 9 (by kernel_rfl) ?_
                        refine RO.u rfl rfl rfl (Yu.storeB 1 rfl rfl rfl rfl sz24 (Pw.own 3 rfl) rfl (Nat.le_of_ble_eq_true rfl)) (inX (r := .box b3 26 [.lit v1, .lit v2, .i x3.2.fLeft, .b x3.2.fDown]) 0 rfl) ?_
                        refine RH.sel [5, 1, 1, 1] rfl ?_
                        refine RH.done (by kernel_rfl) ?_
                        cases hm
                        exact ⟨v13, (Sub.cons rfl (Sub.cons rfl Sub.nil)), rfl⟩
                ·
                  rintro E σ ⟨v3, hsub2, rfl⟩
                  have hm := hk2
                  refine CW.weak ?_ hsub2
                  refine CW.seq ?_
                  refine CW.region ?_
                  refine RW.p rfl rfl rfl (Yp.loadBN 1 rfl rfl rfl many26 (Nat.le_of_ble_eq_true rfl)) ?_
                  refine RW.u rfl rfl (Yu.storeB 0 rfl rfl rfl rfl sz26 (Pw.agg (PwL.own 2 rfl (PwL.own 3 rfl (PwL.p rfl (PwL.p rfl PwL.nil))))) rfl (Nat.le_of_ble_eq_true rfl)) ?_
                  refine RW.p rfl rfl rfl (Yp.assign rfl rfl) ?_
                  refine RW.nil ?_
                  refine CW.frzB 2 0 rfl rfl (VwL.cons (Vw.row 0 rfl) (VwL.cons (Vw.id _) (VwL.cons (Vw.id _) (VwL.cons (Vw.id _) VwL.nil)))) ?_
                  refine CW.frzB 2 0 rfl rfl (VwL.cons (Vw.id _) (VwL.cons (Vw.row 0 rfl) (VwL.cons (Vw.id _) (VwL.cons (Vw.id _) VwL.nil)))) ?_
                  refine CW.ret ?_
                  cases hm
                  exact fin2 (.inr rfl) rfl (ResIs.cellN 0 rfl rfl many26 rfl) (ResIs.tmp rfl) (List.nil_sublist _) ⟨rfl, rfl⟩

end Go.Proofs.Ytfipaakafcjjhaa
