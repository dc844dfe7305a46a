/- Models of functions, and that the code does what they say. -/
import Derived.Test.YtfipaakafcjjhaaRep
set_option linter.unusedSectionVars false
set_option linter.unusedVariables false
set_option linter.unusedSimpArgs false
namespace Go.Proofs.Ytfipaakafcjjhaa
open Go.RowKit Go.Ab

def m32 (p0 : List Int) : Option Bool :=
  some (decide ((p0.length : Int) = 96))

theorem m32_ok (p0 : List Int)  {r : Bool} (hm : m32 p0 = some r) : Ab.Fn Try.prog 32 [.sl 1 (cN .u8) p0] [] (fun a s => a = .b r ∧ s = []) := by
  rw [m32] at hm
  refine Ab.Fn.of Try.func32 rfl rfl rfl (fun C => ?_)
  refine CW.seq ?_
  refine CW.region ?_
  refine RW.p rfl rfl rfl (Yp.assign rfl rfl) ?_
  refine RW.nil ?_
  refine CW.seq ?_
  refine CW.region ?_
  refine RW.p rfl rfl rfl (Yp.move rfl rfl) ?_
  refine RW.p rfl rfl rfl (Yp.lenSl rfl rfl Try.underlying29) ?_
  refine RW.p rfl rfl rfl (Yp.eql rfl rfl rfl) ?_
  refine RW.p rfl rfl rfl (Yp.assign rfl rfl) ?_
  refine RW.nil ?_
  refine CW.ret ?_
  cases hm
  exact fin1 (.inr rfl) rfl (ResIs.tmp rfl) (List.nil_sublist _) ⟨rfl, rfl⟩

def m34 (p0 : List Int) : Option Bool :=
  (m32 p0).bind fun x1 =>
  some (!x1)

theorem m34_ok (p0 : List Int) (pb1 : Nat) {r : Bool} (hm : m34 p0 = some r) : Ab.Fn Try.prog 34 [.sl 1 (cN .u8) p0, .lit (.pointer (some ⟨pb1, 0, none⟩))] [.box pb1 57 [.fn (.func 32) []]] (fun a s => a = .b r ∧ s = [.box pb1 57 [.fn (.func 32) []]]) := by
  rw [m34] at hm
  refine Ab.Fn.of Try.func34 rfl rfl rfl (fun C => ?_)
  refine CW.seq ?_
  refine CW.region ?_
  refine RW.p rfl rfl rfl (Yp.assign rfl rfl) ?_
  refine RW.nil ?_
  refine CW.seq ?_
  refine CW.region ?_
  refine RW.p rfl rfl rfl (Yp.loadB1 0 rfl rfl rfl one57 rfl) ?_
  refine RW.p rfl rfl rfl (Yp.move rfl rfl) ?_
  obtain ⟨x1, hx1, hm⟩ := bnd hm
  refine RW.c rfl rfl rfl (Yc.fnV (σp := []) (args' := [.sl 1 (cN .u8) p0]) rfl rfl ok32 rfl rfl rfl (VwL.id _) (m32_ok p0 hx1)) ?_
  rintro _ _ ⟨_, ⟨rfl, rfl⟩, rfl⟩
  refine RW.p rfl rfl rfl (Yp.not rfl rfl) ?_
  refine RW.p rfl rfl rfl (Yp.assign rfl rfl) ?_
  refine RW.nil ?_
  refine CW.ret ?_
  cases hm
  exact fin1 (.inr rfl) rfl (ResIs.tmp rfl) (.cons_cons _ (List.nil_sublist _)) ⟨rfl, rfl⟩

def m48_l1 (p0 : List (List Int)) : Nat → Int → Option (Sum Unit Int)
  | 0, _ => none
  | k1 + 1, n3 =>
    if (decide (n3 < (p0.length : Int))) = true then
      if 0 ≤ n3 ∧ n3 < (p0.length : Int) then
      (m34 (p0[Int.toNat n3]!)).bind fun x1 =>
      if x1 = true then
        some (Sum.inr n3)
      else
        m48_l1 p0 k1 (w64 (n3 + 1))
      else none
    else
      some (Sum.inl ())
def m48 (p0 : List (List Int)) : Option Int :=
  Option.bind (
    (m48_l1 p0 (Int.toNat (p0.length : Int) + 1) 0).bind fun o2 =>
    match o2 with
    | .inl () =>
      some (Sum.inl ())
    | .inr r =>
      some (Sum.inr r)) fun o1 =>
  match o1 with
  | .inl () =>
    some (-1)
  | .inr r =>
    some r

theorem m48_ok (p0 : List (List Int)) (pb1_0 : Nat) {r : Int} (hm : m48 p0 = some r) : Ab.Fn Try.prog 48 [.sl 1 (cL 1 (cN .u8)) p0, .fn (.func 34) [.lit (.pointer (some ⟨pb1_0, 0, none⟩))]] [.box pb1_0 57 [.fn (.func 32) []]] (fun a s => a = .i r ∧ s = [.box pb1_0 57 [.fn (.func 32) []]]) := by
  rw [m48] at hm
  refine Ab.Fn.of Try.func48 rfl rfl rfl (fun C => ?_)
  refine CW.seq ?_
  refine CW.region ?_
  refine RW.p rfl rfl rfl (Yp.assign rfl rfl) ?_
  refine RW.nil ?_
  refine CW.seq ?_
  obtain ⟨o1, hs1, hk1⟩ := bnd hm
  refine CW.cut (fun E σ => o1 = Sum.inl () ∧ Sub [(1, .fn (.func 34) [.lit (.pointer (some ⟨pb1_0, 0, none⟩))])] E ∧ σ = [.box pb1_0 57 [.fn (.func 32) []]]) ?_ ?_
  ·
    have hm := hs1
    refine CW.seq ?_
    refine CW.region ?_
    refine RW.p rfl rfl rfl (Yp.move rfl rfl) ?_
    refine RW.p rfl rfl rfl (Yp.lenSl rfl rfl Try.underlying23) ?_
    refine RW.p rfl rfl rfl (Yp.move rfl rfl) ?_
    refine RW.nil ?_
    refine CW.block ?_
    obtain ⟨o2, hs2, hk2⟩ := bnd hm
    refine CW.lp (fun k1 E σ => ∃ n3 : Int, Sub [(0, .sl 1 (cL 1 (cN .u8)) p0), (1, .fn (.func 34) [.lit (.pointer (some ⟨pb1_0, 0, none⟩))]), (7, .i (p0.length : Int)), (8, .i n3)] E ∧ σ = [.box pb1_0 57 [.fn (.func 32) []]] ∧ m48_l1 p0 k1 n3 = some o2) (Int.toNat (p0.length : Int) + 1) ?_ ?_
    · exact ⟨0, (Sub.cons rfl (Sub.cons rfl (Sub.cons rfl (Sub.cons rfl Sub.nil)))), rfl, hs2⟩
    ·
      rintro k1 E σ ⟨n3, hsub1, rfl, hm⟩
      refine CW.weak ?_ hsub1
      cases k1 with
      | zero => cases hm
      | succ k1 =>
        rw [m48_l1] at hm
        refine CW.seq ?_
        refine CW.region ?_
        refine RW.p rfl rfl rfl (Yp.lss rfl rfl rfl) ?_
        refine RW.nil ?_
        refine CW.seq ?_
        refine CW.cond rfl (fun hb1 => ?_) (fun hb1 => ?_)
        ·
          have hm := ift hm hb1
          refine CW.skip ?_
          refine CW.seq ?_
          refine CW.block ?_
          refine CW.seq ?_
          refine CW.region ?_
          refine RW.p rfl rfl rfl (Yp.move rfl rfl) ?_
          refine RW.p rfl rfl rfl (Yp.assign rfl rfl) ?_
          refine RW.nil ?_
          refine CW.seq ?_
          refine CW.region ?_
          refine RW.p rfl rfl rfl (Yp.move rfl rfl) ?_
          refine RW.p rfl rfl rfl (Yp.move rfl rfl) ?_
          refine RW.p rfl rfl rfl (Yp.move rfl rfl) ?_
          obtain ⟨hc1, hm⟩ := chk hm
          refine RW.p rfl rfl rfl (Yp.indexSl rfl rfl rfl Try.underlying23 sz29 hc1) ?_
          refine RW.p rfl rfl rfl (Yp.loadF1 rfl rfl one29 rfl) ?_
          obtain ⟨x1, hx1, hm⟩ := bnd hm
          refine RW.c rfl rfl rfl (Yc.fnV (σp := [.box pb1_0 57 [.fn (.func 32) []]]) (args' := [.sl 1 (cN .u8) (p0[Int.toNat n3]!), .lit (.pointer (some ⟨pb1_0, 0, none⟩))]) rfl rfl ok34 rfl rfl rfl (VwL.id _) (m34_ok (p0[Int.toNat n3]!) pb1_0 hx1)) ?_
          rintro _ _ ⟨_, ⟨rfl, rfl⟩, rfl⟩
          refine RW.nil ?_
          refine CW.cond rfl (fun hb2 => ?_) (fun hb2 => ?_)
          ·
            have hm := ift hm hb2
            refine CW.seq ?_
            refine CW.region ?_
            refine RW.p rfl rfl rfl (Yp.move rfl rfl) ?_
            refine RW.p rfl rfl rfl (Yp.assign rfl rfl) ?_
            refine RW.nil ?_
            refine CW.ret ?_
            cases hm
            have hm := hk2
            cases hm
            have hm := hk1
            cases hm
            exact fin1 (.inr rfl) rfl (ResIs.tmp rfl) (.cons_cons _ (List.nil_sublist _)) ⟨rfl, rfl⟩
          ·
            have hm := iff' hm hb2
            refine CW.skip ?_
            refine CW.region ?_
            refine RW.p rfl rfl rfl (Yp.add rfl rfl rfl) ?_
            refine RW.p rfl rfl rfl (Yp.move rfl rfl) ?_
            refine RW.nil ?_
            exact ⟨k1, Nat.lt_succ_self _, _, (Sub.cons rfl (Sub.cons rfl (Sub.cons rfl (Sub.cons rfl Sub.nil)))), rfl, hm⟩
        ·
          have hm := iff' hm hb1
          refine CW.exit ?_
          cases hm
          have hm := hk2
          cases hm
          exact ⟨rfl, (Sub.cons rfl Sub.nil), rfl⟩
  ·
    rintro E σ ⟨rfl, hsub2, rfl⟩
    have hm := hk1
    refine CW.weak ?_ hsub2
    refine CW.seq ?_
    refine CW.region ?_
    refine RW.p rfl rfl rfl (Yp.assign rfl rfl) ?_
    refine RW.nil ?_
    refine CW.ret ?_
    cases hm
    exact fin1 (.inr rfl) rfl (ResIs.tmp rfl) (.cons_cons _ (List.nil_sublist _)) ⟨rfl, rfl⟩

def m33 (p0 : List (List Int)) : Option Bool :=
  (m48 p0).bind fun x1 =>
  some (decide ((0 : Int) ≤ x1))

theorem m33_ok (p0 : List (List Int)) (pb1_0 : Nat) {r : Bool} (hm : m33 p0 = some r) : Ab.Fn Try.prog 33 [.sl 1 (cL 1 (cN .u8)) p0, .fn (.func 34) [.lit (.pointer (some ⟨pb1_0, 0, none⟩))]] [.box pb1_0 57 [.fn (.func 32) []]] (fun a s => a = .b r ∧ s = [.box pb1_0 57 [.fn (.func 32) []]]) := by
  rw [m33] at hm
  refine Ab.Fn.of Try.func33 rfl rfl rfl (fun C => ?_)
  refine CW.seq ?_
  refine CW.region ?_
  refine RW.p rfl rfl rfl (Yp.assign rfl rfl) ?_
  refine RW.nil ?_
  refine CW.seq ?_
  refine CW.region ?_
  refine RW.p rfl rfl rfl (Yp.move rfl rfl) ?_
  refine RW.p rfl rfl rfl (Yp.move rfl rfl) ?_
  obtain ⟨x1, hx1, hm⟩ := bnd hm
  refine RW.c rfl rfl rfl (Yc.fnV (σp := [.box pb1_0 57 [.fn (.func 32) []]]) (args' := [.sl 1 (cL 1 (cN .u8)) p0, .fn (.func 34) [.lit (.pointer (some ⟨pb1_0, 0, none⟩))]]) rfl rfl ok48 rfl rfl rfl (VwL.id _) (m48_ok p0 pb1_0 hx1)) ?_
  rintro _ _ ⟨_, ⟨rfl, rfl⟩, rfl⟩
  refine RW.p rfl rfl rfl (Yp.geq rfl rfl rfl) ?_
  refine RW.p rfl rfl rfl (Yp.assign rfl rfl) ?_
  refine RW.nil ?_
  refine CW.ret ?_
  cases hm
  exact fin1 (.inr rfl) rfl (ResIs.tmp rfl) (.cons_cons _ (List.nil_sublist _)) ⟨rfl, rfl⟩

def m36 (p0 : Write) (p1 : Int) : Option Bool :=
  Option.bind (
    if (decide (p0.fAt < 0)) = true then
      some true
    else
      if (decide (p1 ≤ p0.fAt)) = true then
        some true
      else
        (m32 p0.fData).bind fun x1 =>
        some (!x1)) fun c1 =>
  some c1

theorem m36_ok (p0 : Write) (p1 : Int) (pb1 : Nat) (pb2 : Nat) {r : Bool} (hm : m36 p0 p1 = some r) : Ab.Fn Try.prog 36 [.agg [.i p0.fAt, .sl 1 (cN .u8) p0.fData], .lit (.pointer (some ⟨pb1, 0, none⟩)), .lit (.pointer (some ⟨pb2, 0, none⟩))] [.box pb1 3 [.i p1], .box pb2 57 [.fn (.func 32) []]] (fun a s => a = .b r ∧ s = [.box pb1 3 [.i p1], .box pb2 57 [.fn (.func 32) []]]) := by
  rw [m36] at hm
  refine Ab.Fn.of Try.func36 rfl rfl rfl (fun C => ?_)
  refine CW.seq ?_
  refine CW.region ?_
  refine RW.v rfl rfl rfl (Yv.box rfl rfl (Pw.p rfl)) ?_
  rintro _ _ ⟨b1, rfl, rfl⟩
  refine RW.p rfl rfl rfl (Yp.assign rfl rfl) ?_
  refine RW.nil ?_
  refine CW.seq ?_
  obtain ⟨c1, hs1, hk1⟩ := bnd hm
  refine CW.cut (fun E σ => Sub [(1, .lit (.pointer (some ⟨pb1, 0, none⟩))), (2, .lit (.pointer (some ⟨pb2, 0, none⟩))), (4, .b c1)] E ∧ σ = [.box pb1 3 [.i p1], .box pb2 57 [.fn (.func 32) []]]) ?_ ?_
  ·
    have hm := hs1
    refine CW.region ?_
    refine RW.p rfl rfl rfl (Yp.fieldP rfl rfl Try.underlying56 rfl sz3) ?_
    refine RW.p rfl rfl rfl (Yp.loadB1 0 rfl rfl rfl one3 rfl) ?_
    refine RW.p rfl rfl rfl (Yp.lss rfl rfl rfl) ?_
    refine RW.p rfl rfl rfl (Yp.move rfl rfl) ?_
    rcases Bool.eq_false_or_eq_true (decide (p0.fAt < 0)) with hb1 | hb1
    ·
      have hm := ift hm hb1
      refine RW.eqv 8 rfl (congrArg AV.b hb1) ?_
      refine RW.skip rfl rfl rfl ?_
      refine RW.skip rfl rfl rfl ?_
      refine RW.skip rfl rfl rfl ?_
      refine RW.skip rfl rfl rfl ?_
      refine RW.p rfl rfl rfl (Yp.pickT rfl rfl rfl) ?_
      refine RW.p rfl rfl rfl (Yp.move rfl rfl) ?_
      refine RW.skip rfl rfl rfl ?_
      refine RW.skip rfl rfl rfl ?_
      refine RW.skip rfl rfl rfl ?_
      refine RW.skip rfl rfl rfl ?_
      refine RW.skip rfl rfl rfl ?_
      refine RW.p rfl rfl rfl (Yp.pickT rfl rfl rfl) ?_
      refine RW.p rfl rfl rfl (Yp.assign rfl rfl) ?_
      refine RW.sel [1, 1] rfl ?_
      refine RW.nil ?_
      cases hm
      exact ⟨(Sub.cons rfl (Sub.cons rfl (Sub.cons rfl Sub.nil))), rfl⟩
    ·
      have hm := iff' hm hb1
      refine RW.eqv 8 rfl (congrArg AV.b hb1) ?_
      refine RW.p rfl rfl rfl (Yp.fieldP rfl rfl Try.underlying56 rfl sz3) ?_
      refine RW.p rfl rfl rfl (Yp.loadB1 0 rfl rfl rfl one3 rfl) ?_
      refine RW.p rfl rfl rfl (Yp.loadB1 1 rfl rfl rfl one3 rfl) ?_
      refine RW.p rfl rfl rfl (Yp.geq rfl rfl rfl) ?_
      refine RW.p rfl rfl rfl (Yp.pickF rfl rfl rfl) ?_
      refine RW.p rfl rfl rfl (Yp.move rfl rfl) ?_
      rcases Bool.eq_false_or_eq_true (decide (p1 ≤ p0.fAt)) with hb2 | hb2
      ·
        have hm := ift hm hb2
        refine RW.eqv 14 rfl (congrArg AV.b hb2) ?_
        refine RW.skip rfl rfl rfl ?_
        refine RW.skip rfl rfl rfl ?_
        refine RW.skip rfl rfl rfl ?_
        refine RW.skip rfl rfl rfl ?_
        refine RW.skip rfl rfl rfl ?_
        refine RW.p rfl rfl rfl (Yp.pickT rfl rfl rfl) ?_
        refine RW.p rfl rfl rfl (Yp.assign rfl rfl) ?_
        refine RW.sel [1, 1] rfl ?_
        refine RW.nil ?_
        cases hm
        exact ⟨(Sub.cons rfl (Sub.cons rfl (Sub.cons rfl Sub.nil))), rfl⟩
      ·
        have hm := iff' hm hb2
        refine RW.eqv 14 rfl (congrArg AV.b hb2) ?_
        refine RW.p rfl rfl rfl (Yp.loadB1 2 rfl rfl rfl one57 rfl) ?_
        refine RW.p rfl rfl rfl (Yp.fieldP rfl rfl Try.underlying56 rfl sz29) ?_
        refine RW.p rfl rfl rfl (Yp.loadB1 0 rfl rfl rfl one29 rfl) ?_
        obtain ⟨x1, hx1, hm⟩ := bnd hm
        refine RW.c rfl rfl rfl (Yc.fnV (σp := []) (args' := [.sl 1 (cN .u8) p0.fData]) rfl rfl ok32 rfl rfl rfl (VwL.id _) (m32_ok p0.fData hx1)) ?_
        rintro _ _ ⟨_, ⟨rfl, rfl⟩, rfl⟩
        refine RW.p rfl rfl rfl (Yp.not rfl rfl) ?_
        refine RW.p rfl rfl rfl (Yp.pickF rfl rfl rfl) ?_
        refine RW.p rfl rfl rfl (Yp.assign rfl rfl) ?_
        refine RW.sel [1, 1] rfl ?_
        refine RW.nil ?_
        cases hm
        exact ⟨(Sub.cons rfl (Sub.cons rfl (Sub.cons rfl Sub.nil))), rfl⟩
  ·
    rintro E σ ⟨hsub1, rfl⟩
    have hm := hk1
    refine CW.weak ?_ hsub1
    refine CW.ret ?_
    cases hm
    exact fin1 (.inr rfl) rfl (ResIs.tmp rfl) (.cons_cons _ (.cons_cons _ (List.nil_sublist _))) ⟨rfl, rfl⟩

def m49_l1 (p0 : List Write) (p1_0 : Int) : Nat → Int → Option (Sum Unit Int)
  | 0, _ => none
  | k1 + 1, n3 =>
    if (decide (n3 < (p0.length : Int))) = true then
      if 0 ≤ n3 ∧ n3 < (p0.length : Int) then
      (m36 (p0[Int.toNat n3]!) p1_0).bind fun x1 =>
      if x1 = true then
        some (Sum.inr n3)
      else
        m49_l1 p0 p1_0 k1 (w64 (n3 + 1))
      else none
    else
      some (Sum.inl ())
def m49 (p0 : List Write) (p1_0 : Int) : Option Int :=
  Option.bind (
    (m49_l1 p0 p1_0 (Int.toNat (p0.length : Int) + 1) 0).bind fun o2 =>
    match o2 with
    | .inl () =>
      some (Sum.inl ())
    | .inr r =>
      some (Sum.inr r)) fun o1 =>
  match o1 with
  | .inl () =>
    some (-1)
  | .inr r =>
    some r

theorem m49_ok (p0 : List Write) (p1_0 : Int) (pb1_0 : Nat) (pb1_1 : Nat) {r : Int} (hm : m49 p0 p1_0 = some r) : Ab.Fn Try.prog 49 [.sl 2 Write.cells p0, .fn (.func 36) [.lit (.pointer (some ⟨pb1_0, 0, none⟩)), .lit (.pointer (some ⟨pb1_1, 0, none⟩))]] [.box pb1_0 3 [.i p1_0], .box pb1_1 57 [.fn (.func 32) []]] (fun a s => a = .i r ∧ s = [.box pb1_0 3 [.i p1_0], .box pb1_1 57 [.fn (.func 32) []]]) := by
  rw [m49] at hm
  refine Ab.Fn.of Try.func49 rfl rfl rfl (fun C => ?_)
  refine CW.seq ?_
  refine CW.region ?_
  refine RW.p rfl rfl rfl (Yp.assign rfl rfl) ?_
  refine RW.nil ?_
  refine CW.seq ?_
  obtain ⟨o1, hs1, hk1⟩ := bnd hm
  refine CW.cut (fun E σ => o1 = Sum.inl () ∧ Sub [(1, .fn (.func 36) [.lit (.pointer (some ⟨pb1_0, 0, none⟩)), .lit (.pointer (some ⟨pb1_1, 0, none⟩))])] E ∧ σ = [.box pb1_0 3 [.i p1_0], .box pb1_1 57 [.fn (.func 32) []]]) ?_ ?_
  ·
    have hm := hs1
    refine CW.seq ?_
    refine CW.region ?_
    refine RW.p rfl rfl rfl (Yp.move rfl rfl) ?_
    refine RW.p rfl rfl rfl (Yp.lenSl rfl rfl Try.underlying24) ?_
    refine RW.p rfl rfl rfl (Yp.move rfl rfl) ?_
    refine RW.nil ?_
    refine CW.block ?_
    obtain ⟨o2, hs2, hk2⟩ := bnd hm
    refine CW.lp (fun k1 E σ => ∃ n3 : Int, Sub [(0, .sl 2 Write.cells p0), (1, .fn (.func 36) [.lit (.pointer (some ⟨pb1_0, 0, none⟩)), .lit (.pointer (some ⟨pb1_1, 0, none⟩))]), (7, .i (p0.length : Int)), (8, .i n3)] E ∧ σ = [.box pb1_0 3 [.i p1_0], .box pb1_1 57 [.fn (.func 32) []]] ∧ m49_l1 p0 p1_0 k1 n3 = some o2) (Int.toNat (p0.length : Int) + 1) ?_ ?_
    · exact ⟨0, (Sub.cons rfl (Sub.cons rfl (Sub.cons rfl (Sub.cons rfl Sub.nil)))), rfl, hs2⟩
    ·
      rintro k1 E σ ⟨n3, hsub1, rfl, hm⟩
      refine CW.weak ?_ hsub1
      cases k1 with
      | zero => cases hm
      | succ k1 =>
        rw [m49_l1] at hm
        refine CW.seq ?_
        refine CW.region ?_
        refine RW.p rfl rfl rfl (Yp.lss rfl rfl rfl) ?_
        refine RW.nil ?_
        refine CW.seq ?_
        refine CW.cond rfl (fun hb1 => ?_) (fun hb1 => ?_)
        ·
          have hm := ift hm hb1
          refine CW.skip ?_
          refine CW.seq ?_
          refine CW.block ?_
          refine CW.seq ?_
          refine CW.region ?_
          refine RW.p rfl rfl rfl (Yp.move rfl rfl) ?_
          refine RW.p rfl rfl rfl (Yp.assign rfl rfl) ?_
          refine RW.nil ?_
          refine CW.seq ?_
          refine CW.region ?_
          refine RW.p rfl rfl rfl (Yp.move rfl rfl) ?_
          refine RW.p rfl rfl rfl (Yp.move rfl rfl) ?_
          refine RW.p rfl rfl rfl (Yp.move rfl rfl) ?_
          obtain ⟨hc1, hm⟩ := chk hm
          refine RW.p rfl rfl rfl (Yp.indexSl rfl rfl rfl Try.underlying24 sz56 hc1) ?_
          refine RW.p rfl rfl rfl (Yp.loadFN rfl rfl many56 (Nat.le_of_ble_eq_true rfl)) ?_
          obtain ⟨x1, hx1, hm⟩ := bnd hm
          refine RW.c rfl rfl rfl (Yc.fnV (σp := [.box pb1_0 3 [.i p1_0], .box pb1_1 57 [.fn (.func 32) []]]) (args' := [.agg [.i ((p0[Int.toNat n3]!).fAt), .sl 1 (cN .u8) ((p0[Int.toNat n3]!).fData)], .lit (.pointer (some ⟨pb1_0, 0, none⟩)), .lit (.pointer (some ⟨pb1_1, 0, none⟩))]) rfl rfl ok36 rfl rfl rfl (VwL.id _) (m36_ok (p0[Int.toNat n3]!) p1_0 pb1_0 pb1_1 hx1)) ?_
          rintro _ _ ⟨_, ⟨rfl, rfl⟩, rfl⟩
          refine RW.nil ?_
          refine CW.cond rfl (fun hb2 => ?_) (fun hb2 => ?_)
          ·
            have hm := ift hm hb2
            refine CW.seq ?_
            refine CW.region ?_
            refine RW.p rfl rfl rfl (Yp.move rfl rfl) ?_
            refine RW.p rfl rfl rfl (Yp.assign rfl rfl) ?_
            refine RW.nil ?_
            refine CW.ret ?_
            cases hm
            have hm := hk2
            cases hm
            have hm := hk1
            cases hm
            exact fin1 (.inr rfl) rfl (ResIs.tmp rfl) (.cons_cons _ (.cons_cons _ (List.nil_sublist _))) ⟨rfl, rfl⟩
          ·
            have hm := iff' hm hb2
            refine CW.skip ?_
            refine CW.region ?_
            refine RW.p rfl rfl rfl (Yp.add rfl rfl rfl) ?_
            refine RW.p rfl rfl rfl (Yp.move rfl rfl) ?_
            refine RW.nil ?_
            exact ⟨k1, Nat.lt_succ_self _, _, (Sub.cons rfl (Sub.cons rfl (Sub.cons rfl (Sub.cons rfl Sub.nil)))), rfl, hm⟩
        ·
          have hm := iff' hm hb1
          refine CW.exit ?_
          cases hm
          have hm := hk2
          cases hm
          exact ⟨rfl, (Sub.cons rfl Sub.nil), rfl⟩
  ·
    rintro E σ ⟨rfl, hsub2, rfl⟩
    have hm := hk1
    refine CW.weak ?_ hsub2
    refine CW.seq ?_
    refine CW.region ?_
    refine RW.p rfl rfl rfl (Yp.assign rfl rfl) ?_
    refine RW.nil ?_
    refine CW.ret ?_
    cases hm
    exact fin1 (.inr rfl) rfl (ResIs.tmp rfl) (.cons_cons _ (.cons_cons _ (List.nil_sublist _))) ⟨rfl, rfl⟩

def m35 (p0 : List Write) (p1_0 : Int) : Option Bool :=
  (m49 p0 p1_0).bind fun x1 =>
  some (decide ((0 : Int) ≤ x1))

theorem m35_ok (p0 : List Write) (p1_0 : Int) (pb1_0 : Nat) (pb1_1 : Nat) {r : Bool} (hm : m35 p0 p1_0 = some r) : Ab.Fn Try.prog 35 [.sl 2 Write.cells p0, .fn (.func 36) [.lit (.pointer (some ⟨pb1_0, 0, none⟩)), .lit (.pointer (some ⟨pb1_1, 0, none⟩))]] [.box pb1_0 3 [.i p1_0], .box pb1_1 57 [.fn (.func 32) []]] (fun a s => a = .b r ∧ s = [.box pb1_0 3 [.i p1_0], .box pb1_1 57 [.fn (.func 32) []]]) := by
  rw [m35] at hm
  refine Ab.Fn.of Try.func35 rfl rfl rfl (fun C => ?_)
  refine CW.seq ?_
  refine CW.region ?_
  refine RW.p rfl rfl rfl (Yp.assign rfl rfl) ?_
  refine RW.nil ?_
  refine CW.seq ?_
  refine CW.region ?_
  refine RW.p rfl rfl rfl (Yp.move rfl rfl) ?_
  refine RW.p rfl rfl rfl (Yp.move rfl rfl) ?_
  obtain ⟨x1, hx1, hm⟩ := bnd hm
  refine RW.c rfl rfl rfl (Yc.fnV (σp := [.box pb1_0 3 [.i p1_0], .box pb1_1 57 [.fn (.func 32) []]]) (args' := [.sl 2 Write.cells p0, .fn (.func 36) [.lit (.pointer (some ⟨pb1_0, 0, none⟩)), .lit (.pointer (some ⟨pb1_1, 0, none⟩))]]) rfl rfl ok49 rfl rfl rfl (VwL.id _) (m49_ok p0 p1_0 pb1_0 pb1_1 hx1)) ?_
  rintro _ _ ⟨_, ⟨rfl, rfl⟩, rfl⟩
  refine RW.p rfl rfl rfl (Yp.geq rfl rfl rfl) ?_
  refine RW.p rfl rfl rfl (Yp.assign rfl rfl) ?_
  refine RW.nil ?_
  refine CW.ret ?_
  cases hm
  exact fin1 (.inr rfl) rfl (ResIs.tmp rfl) (.cons_cons _ (.cons_cons _ (List.nil_sublist _))) ⟨rfl, rfl⟩

def m13 (p0 : Disk) : Option Bool :=
  Option.bind (
    if (decide ((p0.fDurable.length : Int) < 1)) = true then
      some true
    else
      if (decide ((4096 : Int) < (p0.fDurable.length : Int))) = true then
        some true
      else
        some (decide ((8192 : Int) < (p0.fPending.length : Int)))) fun c1 =>
  if c1 = true then
    some false
  else
    (m33 p0.fDurable).bind fun x1 =>
    if x1 = true then
      some false
    else
      (m35 p0.fPending (p0.fDurable.length : Int)).bind fun x2 =>
      some (!x2)

theorem m13_ok (p0 : Disk)  {r : Bool} (hm : m13 p0 = some r) : Ab.Fn Try.prog 13 [.agg [.sl 1 (cL 1 (cN .u8)) p0.fDurable, .sl 2 Write.cells p0.fPending, .i p0.fLeft, .b p0.fDown]] [] (fun a s => a = .b r ∧ s = []) := by
  rw [m13] at hm
  refine Ab.Fn.of Try.func13 rfl rfl rfl (fun C => ?_)
  refine CW.seq ?_
  refine CW.region ?_
  refine RW.v rfl rfl rfl (Yv.box rfl rfl (Pw.p rfl)) ?_
  rintro _ _ ⟨b1, rfl, rfl⟩
  refine RW.p rfl rfl rfl (Yp.assign rfl rfl) ?_
  refine RW.nil ?_
  refine CW.seq ?_
  refine CW.region ?_
  refine RW.p rfl rfl rfl (Yp.fieldP rfl rfl Try.underlying26 rfl sz23) ?_
  refine RW.p rfl rfl rfl (Yp.loadB1 0 rfl rfl rfl one23 rfl) ?_
  refine RW.p rfl rfl rfl (Yp.lenSl rfl rfl Try.underlying23) ?_
  refine RW.v rfl rfl rfl (Yv.alloc rfl zerb3) ?_
  rintro _ _ ⟨b2, rfl, rfl⟩
  refine RW.u rfl rfl (Yu.storeB 0 rfl rfl rfl rfl sz3 (Pw.p rfl) rfl (Nat.le_of_ble_eq_true rfl)) ?_
  refine RW.nil ?_
  refine CW.seq ?_
  refine CW.seq ?_
  obtain ⟨c1, hs1, hk1⟩ := bnd hm
  refine CW.cut (fun E σ => Sub [(1, .lit (.pointer (some ⟨b1, 0, none⟩))), (3, .lit (.pointer (some ⟨b2, 0, none⟩))), (19, .b c1)] E ∧ σ = [.box b1 26 [.sl 1 (cL 1 (cN .u8)) p0.fDurable, .sl 2 Write.cells p0.fPending, .i p0.fLeft, .b p0.fDown], .box b2 3 [.i (p0.fDurable.length : Int)]]) ?_ ?_
  ·
    have hm := hs1
    refine CW.region ?_
    refine RW.p rfl rfl rfl (Yp.loadB1 0 rfl rfl rfl one3 rfl) ?_
    refine RW.p rfl rfl rfl (Yp.lss rfl rfl rfl) ?_
    refine RW.p rfl rfl rfl (Yp.move rfl rfl) ?_
    rcases Bool.eq_false_or_eq_true (decide ((p0.fDurable.length : Int) < 1)) with hb1 | hb1
    ·
      have hm := ift hm hb1
      refine RW.eqv 10 rfl (congrArg AV.b hb1) ?_
      refine RW.skip rfl rfl rfl ?_
      refine RW.skip rfl rfl rfl ?_
      refine RW.p rfl rfl rfl (Yp.pickT rfl rfl rfl) ?_
      refine RW.p rfl rfl rfl (Yp.move rfl rfl) ?_
      refine RW.skip rfl rfl rfl ?_
      refine RW.skip rfl rfl rfl ?_
      refine RW.skip rfl rfl rfl ?_
      refine RW.skip rfl rfl rfl ?_
      refine RW.p rfl rfl rfl (Yp.pickT rfl rfl rfl) ?_
      refine RW.sel [1, 0] rfl ?_
      refine RW.nil ?_
      cases hm
      exact ⟨(Sub.cons rfl (Sub.cons rfl (Sub.cons rfl Sub.nil))), rfl⟩
    ·
      have hm := iff' hm hb1
      refine RW.eqv 10 rfl (congrArg AV.b hb1) ?_
      refine RW.p rfl rfl rfl (Yp.loadB1 0 rfl rfl rfl one3 rfl) ?_
      refine RW.p rfl rfl rfl (Yp.gtr rfl rfl rfl) ?_
      refine RW.p rfl rfl rfl (Yp.pickF rfl rfl rfl) ?_
      refine RW.p rfl rfl rfl (Yp.move rfl rfl) ?_
      rcases Bool.eq_false_or_eq_true (decide ((4096 : Int) < (p0.fDurable.length : Int))) with hb2 | hb2
      ·
        have hm := ift hm hb2
        refine RW.eqv 14 rfl (congrArg AV.b hb2) ?_
        refine RW.skip rfl rfl rfl ?_
        refine RW.skip rfl rfl rfl ?_
        refine RW.skip rfl rfl rfl ?_
        refine RW.skip rfl rfl rfl ?_
        refine RW.p rfl rfl rfl (Yp.pickT rfl rfl rfl) ?_
        refine RW.sel [1, 0] rfl ?_
        refine RW.nil ?_
        cases hm
        exact ⟨(Sub.cons rfl (Sub.cons rfl (Sub.cons rfl Sub.nil))), rfl⟩
      ·
        have hm := iff' hm hb2
        refine RW.eqv 14 rfl (congrArg AV.b hb2) ?_
        refine RW.p rfl rfl rfl (Yp.fieldP rfl rfl Try.underlying26 rfl sz24) ?_
        refine RW.p rfl rfl rfl (Yp.loadB1 1 rfl rfl rfl one24 rfl) ?_
        refine RW.p rfl rfl rfl (Yp.lenSl rfl rfl Try.underlying24) ?_
        refine RW.p rfl rfl rfl (Yp.gtr rfl rfl rfl) ?_
        refine RW.p rfl rfl rfl (Yp.pickF rfl rfl rfl) ?_
        refine RW.sel [1, 0] rfl ?_
        refine RW.nil ?_
        cases hm
        exact ⟨(Sub.cons rfl (Sub.cons rfl (Sub.cons rfl Sub.nil))), rfl⟩
  ·
    rintro E σ ⟨hsub1, rfl⟩
    have hm := hk1
    refine CW.weak ?_ hsub1
    refine CW.cond rfl (fun hb3 => ?_) (fun hb3 => ?_)
    ·
      have hm := ift hm hb3
      refine CW.seq ?_
      refine CW.region ?_
      refine RW.p rfl rfl rfl (Yp.assign rfl rfl) ?_
      refine RW.nil ?_
      refine CW.ret ?_
      cases hm
      exact fin1 (.inr rfl) rfl (ResIs.tmp rfl) (List.nil_sublist _) ⟨rfl, rfl⟩
    ·
      have hm := iff' hm hb3
      refine CW.skip ?_
      refine CW.seq ?_
      refine CW.region ?_
      refine RW.v rfl rfl rfl (Yv.alloc rfl zerb57) ?_
      rintro _ _ ⟨b3, rfl, rfl⟩
      refine RW.u rfl rfl (Yu.storeB 0 rfl rfl rfl rfl sz57 (Pw.p rfl) rfl (Nat.le_of_ble_eq_true rfl)) ?_
      refine RW.nil ?_
      refine CW.seq ?_
      refine CW.seq ?_
      refine CW.region ?_
      refine RW.p rfl rfl rfl (Yp.fieldP rfl rfl Try.underlying26 rfl sz23) ?_
      refine RW.p rfl rfl rfl (Yp.loadB1 1 rfl rfl rfl one23 rfl) ?_
      refine RW.p rfl rfl rfl (Yp.func rfl rfl rfl) ?_
      obtain ⟨x1, hx1, hm⟩ := bnd hm
      refine RW.c rfl rfl rfl (Yc.fnV (σp := [.box b3 57 [.fn (.func 32) []]]) (args' := [.sl 1 (cL 1 (cN .u8)) p0.fDurable, .fn (.func 34) [.lit (.pointer (some ⟨b3, 0, none⟩))]]) rfl rfl ok33 rfl rfl rfl (VwL.id _) (m33_ok p0.fDurable b3 hx1)) ?_
      rintro _ _ ⟨_, ⟨rfl, rfl⟩, rfl⟩
      refine RW.nil ?_
      refine CW.cond rfl (fun hb4 => ?_) (fun hb4 => ?_)
      ·
        have hm := ift hm hb4
        refine CW.seq ?_
        refine CW.region ?_
        refine RW.p rfl rfl rfl (Yp.assign rfl rfl) ?_
        refine RW.nil ?_
        refine CW.ret ?_
        cases hm
        exact fin1 (.inr rfl) rfl (ResIs.tmp rfl) (List.nil_sublist _) ⟨rfl, rfl⟩
      ·
        have hm := iff' hm hb4
        refine CW.skip ?_
        refine CW.seq ?_
        refine CW.region ?_
        refine RW.p rfl rfl rfl (Yp.fieldP rfl rfl Try.underlying26 rfl sz24) ?_
        refine RW.p rfl rfl rfl (Yp.loadB1 1 rfl rfl rfl one24 rfl) ?_
        refine RW.p rfl rfl rfl (Yp.func rfl rfl rfl) ?_
        refine RW.sel [2, 0, 0] rfl ?_
        obtain ⟨x2, hx2, hm⟩ := bnd hm
        refine RW.c rfl rfl rfl (Yc.fnV (σp := [.box b2 3 [.i (p0.fDurable.length : Int)], .box b3 57 [.fn (.func 32) []]]) (args' := [.sl 2 Write.cells p0.fPending, .fn (.func 36) [.lit (.pointer (some ⟨b2, 0, none⟩)), .lit (.pointer (some ⟨b3, 0, none⟩))]]) rfl rfl ok35 rfl rfl rfl (VwL.id _) (m35_ok p0.fPending (p0.fDurable.length : Int) b2 b3 hx2)) ?_
        rintro _ _ ⟨_, ⟨rfl, rfl⟩, rfl⟩
        refine RW.p rfl rfl rfl (Yp.not rfl rfl) ?_
        refine RW.p rfl rfl rfl (Yp.assign rfl rfl) ?_
        refine RW.nil ?_
        refine CW.ret ?_
        cases hm
        exact fin1 (.inr rfl) rfl (ResIs.tmp rfl) (List.nil_sublist _) ⟨rfl, rfl⟩

def m39 (p0 : List Int) : Option (List Int) :=
  if (([] : List Int) ++ p0).length ≤ 1073741824 then
  some (([] : List Int) ++ p0)
  else none

theorem m39_ok (p0 : List Int)  {r : List Int} (hm : m39 p0 = some r) : Ab.Fn Try.prog 39 [.sl 1 (cN .u8) p0] [] (fun a s => a = .sl 1 (cN .u8) r ∧ s = []) := by
  rw [m39] at hm
  refine Ab.Fn.of Try.func39 rfl rfl rfl (fun C => ?_)
  refine CW.seq ?_
  refine CW.region ?_
  refine RW.p rfl rfl rfl (Yp.assign rfl rfl) ?_
  refine RW.nil ?_
  refine CW.seq ?_
  refine CW.seq ?_
  refine CW.region ?_
  refine RW.p rfl rfl rfl (Yp.move rfl rfl) ?_
  refine RW.nil? rfl rfl rfl (YpNil.sl rfl rfl rfl Try.underlying29) ?_
  rintro z1 hz1
  refine RW.nil ?_
  refine CW.cond rfl (fun hb1 => ?_) (fun hb1 => ?_)
  ·
    refine CW.seq ?_
    refine CW.region ?_
    refine RW.p rfl rfl rfl (Yp.assign rfl rfl) ?_
    refine RW.nil ?_
    refine CW.say 2 rfl (Vw.nil 1 (cN .u8)) ?_
    refine CW.ret ?_
    have hm : some [] = some r := by have h := hm; rw [hz1 hb1] at h; simpa using h
    cases hm
    exact fin1 (.inr rfl) rfl (ResIs.tmp rfl) (List.nil_sublist _) ⟨rfl, rfl⟩
  ·
    refine CW.skip ?_
    refine CW.seq ?_
    refine CW.region ?_
    refine RW.v rfl rfl rfl (Yv.lit0 (cN .u8) 1 rfl Try.underlying29 sz5) ?_
    rintro _ _ ⟨v1, rfl, rfl⟩
    refine RW.p rfl rfl rfl (Yp.move rfl rfl) ?_
    obtain ⟨hc1, hm⟩ := chk hm
    refine RW.v rfl rfl rfl (Yv.app (l := []) (l2 := p0) 0 rfl rfl rfl (.inr (.inl rfl)) Try.underlying29 szb5 zer5 rfl rfl (fun _ => rfl) hc1) ?_
    rintro _ _ ⟨v2, rfl, rfl⟩
    refine RW.p rfl rfl rfl (Yp.assign rfl rfl) ?_
    refine RW.nil ?_
    refine CW.frz 0 2 rfl rfl (Vw.row 0 rfl) ?_
    refine CW.ret ?_
    cases hm
    exact fin1 (.inr rfl) rfl (ResIs.tmp rfl) (List.nil_sublist _) ⟨rfl, rfl⟩


end Go.Proofs.Ytfipaakafcjjhaa
