/- Merged: Gb. -/
import Derived.Test.YtaonipoflmbhgaaGreatM3AbstractWholes
section
set_option linter.unusedSectionVars false
set_option linter.unusedVariables false
set_option linter.unusedSimpArgs false
set_option maxRecDepth 100000
namespace Go.Proofs.YtaonipoflmbhgaaGreat
open Go Go.Iv
/-! ### 109: (*keyhole/flat.measure).over -/
noncomputable def F109 : Orc := or0
theorem F109_ok : OrcG Tryz.prog F109 := or0_g
abbrev E109 : Type := Bool × Measure
abbrev P109_e : Type := (Bool × Unit) × (Measure × Unit)
noncomputable def rb109_e : St → Option P109_e := stR 1 (slC 2 asB slN) (rsN2 0 154 (asCs 154) rsN)
noncomputable def pb109_e : P109_e → St := stP 1 (fun z => [(2, .b z.1)]) (fun z => [(0, .box 154 (uni.cells 154 z.1))])
noncomputable def mk109_e (z : P109_e) : E109 := (z.1.1, z.2.1)
noncomputable def pt109_e (x : E109) : St := pb109_e ((x.1, ()), (x.2, ()))
noncomputable def rd109_e : St → Option E109 := rdC 1 [] [2] (rdM mk109_e rb109_e)
theorem rb109_e_ok (n : Nat) : RdOk 1 n rb109_e pb109_e := stR_ok (.cons .b .nil) (.boxN (PkN.parse 154) .nil)
theorem rd109_e_ok (n : Nat) : RdOk 1 n rd109_e pt109_e := rdC_ok ((rb109_e_ok n).m mk109_e (pat' := pt109_e) fun _ => rfl)
noncomputable def an109 : An := (.two .no (.two (.rb [] 2) .no))
theorem pu109  : ∀ f ∈ ([] : List Nat), PureF (F109) f := fun f hf => by
  cases hf
theorem fa109 : FnAn Tryz.prog (F109) 1 300 109 (an109) := fnAn_of (l := [(.skip, (.rb [] 2))]) Tryz.func109 (bodyOf_eq (by kernel_rfl)) (by kernel_rfl) fun p hp => by
  simp only [List.mem_cons, List.not_mem_nil, or_false] at hp
  rcases hp with rfl
  · exact pu109
noncomputable def m109 (b0 : Measure) : E109 :=
  let r1 : Bool := bif b0.fDeep then
    true
  else
    decide (1024 < b0.fNodes)
  (r1, b0)
theorem c109 (b0 : Measure) : callR Tryz.prog (F109) 300 (an109) 109 [.ptr 0 0] [(0, .box 154 (uni.cells 154 b0))] 1 rd109_e = some (m109 b0) := by
  refine Eq.trans (b := (
    match bif b0.fDeep then
      some (true)
    else
      some (decide (1024 < b0.fNodes)) with
    | none =>
      none
    | some r1 =>
      some ((r1, b0)) : Option E109)) (by kernel_rfl) ?_
  simp only [m109, cond_some, ite_some]
noncomputable def o109 (x : E109) : Out := match (match outOf Tryz.prog 109 (pt109_e x) with
    | some ds => some (Out.mk (resA ds) (keepR (pt109_e x).R 1 (resA ds)) (pt109_e x).nx)
    | none => none) with
  | some o => o
  | none => ⟨.tup [], [], 0⟩
theorem fn109 (b0 : Measure) (r : E109) (h : m109 b0 = r) : fnOk Tryz.prog 109 ∧ FnY Tryz.prog 109 [.ptr 0 0] [(0, .box 154 (uni.cells 154 b0))] 1 (o109 r) :=
  fnY_of (p := r) F109_ok (fa109) rd109_e_ok (fun p => by kernel_rfl) (ltd_of (by kernel_rfl)) (rltd_of (by kernel_rfl)) ((c109 b0).trans (congrArg some h))
theorem fnok109 : fnOk Tryz.prog 109 := ⟨_, Tryz.func109, by kernel_rfl, by kernel_rfl⟩
noncomputable def e109 (F : Orc) : Orc := orY 109 1 (qyR (pkC (asP 0 0) pkN) (rsN2 0 154 (asCs 154) rsN)) (fun g => some (m109 g.2.1) : ((Unit × Unit) × (Measure × Unit)) → Option E109) o109 F
theorem e109_ok {F : Orc} (h : OrcG Tryz.prog F) : OrcG Tryz.prog (e109 F) := orY_g h fnok109 (qyR_ok (ca := fun g => [.ptr 0 0]) (cr := fun g => [(0, .box 154 (uni.cells 154 g.1))]) ((.cons (.p 0 0) .nil) : PkN (pkC (asP 0 0) pkN) _) ((.boxN (PkN.parse 154) .nil) : RsOk (rsN2 0 154 (asCs 154) rsN) _)) (fun b => by kernel_rfl) (fun g b hb => (fn109 g.2.1 b (Option.some.inj hb)).2)
theorem e109_skip {F : Orc} {f : Nat} (hne : Nat.beq f 109 = false) (h : PureF F f) : PureF (e109 F) f := orY_skip hne h
/-! ### 110: (*keyhole/flat.measure).term -/
abbrev E110 : Type := Measure
abbrev P110_e : Type := (Unit) × (Measure × Unit)
noncomputable def rb110_e : St → Option P110_e := stR 1 slN (rsN2 0 154 (asCs 154) rsN)
noncomputable def pb110_e : P110_e → St := stP 1 (fun z => []) (fun z => [(0, .box 154 (uni.cells 154 z.1))])
noncomputable def mk110_e (z : P110_e) : E110 := z.2.1
noncomputable def pt110_e (x : E110) : St := pb110_e ((()), (x, ()))
noncomputable def rd110_e : St → Option E110 := rdC 1 [] [] (rdM mk110_e rb110_e)
theorem rb110_e_ok (n : Nat) : RdOk 1 n rb110_e pb110_e := stR_ok .nil (.boxN (PkN.parse 154) .nil)
theorem rd110_e_ok (n : Nat) : RdOk 1 n rd110_e pt110_e := rdC_ok ((rb110_e_ok n).m mk110_e (pat' := pt110_e) fun _ => rfl)
noncomputable def o110 (x : E110) : Out := match (match outOf Tryz.prog 110 (pt110_e x) with
    | some ds => some (Out.mk (resA ds) (keepR (pt110_e x).R 1 (resA ds)) (pt110_e x).nx)
    | none => none) with
  | some o => o
  | none => ⟨.tup [], [], 0⟩
theorem fnok110 : fnOk Tryz.prog 110 := ⟨_, Tryz.func110, by kernel_rfl, by kernel_rfl⟩
noncomputable def x110 (M110 : GTerm → Int → Measure → Option E110) (F : Orc) : Orc := orY 110 1 (qyR (pkC (asP 0 0) (pkC (asGc 97) (pkC (asI .i64) pkN))) (rsN2 0 154 (asCs 154) rsN)) (fun g => M110 g.1.2.1 g.1.2.2.1 g.2.1 : ((Unit × GTerm × Int × Unit) × (Measure × Unit)) → Option E110) o110 F
theorem x110_skip {M : GTerm → Int → Measure → Option E110} {F : Orc} {f : Nat} (hne : Nat.beq f 110 = false) (h : PureF F f) : PureF (x110 M F) f := orY_skip hne h
def H110 (M : GTerm → Int → Measure → Option E110) : Prop := ∀ (a1 : GTerm) (a2 : Int) (b0 : Measure) (r : E110), M a1 a2 b0 = some r → FnY Tryz.prog 110 [.ptr 0 0, .agg (uni.cells 97 a1), .n .i64 a2] [(0, .box 154 (uni.cells 154 b0))] 1 (o110 r)
theorem x110_ok {M : GTerm → Int → Measure → Option E110} (hM : H110 M) {F : Orc} (h : OrcG Tryz.prog F) : OrcG Tryz.prog (x110 M F) := orY_g h fnok110 (qyR_ok (ca := fun g => [.ptr 0 0, .agg (uni.cells 97 g.2.1), .n .i64 g.2.2.1]) (cr := fun g => [(0, .box 154 (uni.cells 154 g.1))]) ((.cons (.p 0 0) (.cons (.g 97) (.cons (.i .i64) .nil))) : PkN (pkC (asP 0 0) (pkC (asGc 97) (pkC (asI .i64) pkN))) _) ((.boxN (PkN.parse 154) .nil) : RsOk (rsN2 0 154 (asCs 154) rsN) _)) (fun b => by kernel_rfl) (fun g b hb => hM g.1.2.1 g.1.2.2.1 g.2.1 b hb)
noncomputable def F110 (M110 : GTerm → Int → Measure → Option E110) : Orc := (x110 M110 (e109 or0))
theorem F110_ok {M110} (h110 : H110 M110) : OrcG Tryz.prog (F110 M110) := (x110_ok h110 (e109_ok or0_g))
structure L110_0 where
  t2 : Int
  t29 : List GTerm
  t30 : Int
  t31 : Int
  b0 : Measure
abbrev P110_0 : Type := (Unit × Int × (List GTerm) × Int × Int × Unit) × (Measure × Unit)
noncomputable def rb110_0 : St → Option P110_0 := stR 1 (slC 0 (asP 0 0) (slC 2 (asI .i64) (slC 29 (asL 97) (slC 30 (asI .i64) (slC 31 (asI .i64) slN))))) (rsN2 0 154 (asCs 154) rsN)
noncomputable def pb110_0 : P110_0 → St := stP 1 (fun z => [(0, .ptr 0 0), (2, .n .i64 z.2.1), (29, .sl 97 z.2.2.1), (30, .n .i64 z.2.2.2.1), (31, .n .i64 z.2.2.2.2.1)]) (fun z => [(0, .box 154 (uni.cells 154 z.1))])
noncomputable def mk110_0 (z : P110_0) : L110_0 := ⟨z.1.2.1, z.1.2.2.1, z.1.2.2.2.1, z.1.2.2.2.2.1, z.2.1⟩
noncomputable def pt110_0 (x : L110_0) : St := pb110_0 (((), x.t2, x.t29, x.t30, x.t31, ()), (x.b0, ()))
noncomputable def rd110_0 : St → Option L110_0 := rdC 1 [] [0, 2, 29, 30, 31] (rdM mk110_0 rb110_0)
theorem rb110_0_ok (n : Nat) : RdOk 1 n rb110_0 pb110_0 := stR_ok (.cons (.p 0 0) (.cons (.i .i64) (.cons (.l 97) (.cons (.i .i64) (.cons (.i .i64) .nil))))) (.boxN (PkN.parse 154) .nil)
theorem rd110_0_ok (n : Nat) : RdOk 1 n rd110_0 pt110_0 := rdC_ok ((rb110_0_ok n).m mk110_0 (pat' := pt110_0) fun _ => rfl)
noncomputable def n110_0 (M110 : GTerm → Int → Measure → Option E110) (p : L110_0) : Option (Option L110_0) :=
  bif decide (p.t31 < p.t30) then
    if (0 : Int) ≤ p.t31 ∧ p.t31 < (↑p.t29.length : Int) then
      match M110 (GTerm.mk p.t29[p.t31.toNat]!.fOp p.t29[p.t31.toNat]!.fN p.t29[p.t31.toNat]!.fKids) (IntKind.i64.wrap (p.t2 + 1)) p.b0 with
      | none =>
        none
      | some r1 =>
        some (some (L110_0.mk p.t2 p.t29 p.t30 (IntKind.i64.wrap (p.t31 + 1)) r1))
    else
      none
  else
    some (none)
theorem q110_0 (M110 : GTerm → Int → Measure → Option E110) (p : L110_0) : execA Tryz.prog (F110 M110) Tryz.f110.ntmps 300 (loopAt Tryz.f110 0) .no (Option L110_0) (pt110_0 p) (kOn rd110_0) = n110_0 M110 p := by kernel_rfl
noncomputable def a110_0 (M110 : GTerm → Int → Measure → Option E110) : L110_0 → Option L110_0 := advG (n110_0 M110)
noncomputable def an110 (M110 : GTerm → Int → Measure → Option E110) : An := (.two .no (.two .no (.two .no (.two .no (.two .no (.lp L110_0 rd110_0 pt110_0 (a110_0 M110) .no))))))
theorem fa110 (M110 : GTerm → Int → Measure → Option E110) : FnAn Tryz.prog (F110 M110) 1 300 110 (an110 M110) := fnAn_of (l := [(loopAt Tryz.f110 0, (.lp L110_0 rd110_0 pt110_0 (a110_0 M110) .no))]) Tryz.func110 (bodyOf_eq (by kernel_rfl)) (by kernel_rfl) fun p hp => by
  simp only [List.mem_cons, List.not_mem_nil, or_false] at hp
  rcases hp with rfl
  · exact ⟨rd110_0_ok _, advG_ok (q110_0 M110)⟩
noncomputable def s110 (M110 : GTerm → Int → Measure → Option E110) (a1 : GTerm) (a2 : Int) (b0 : Measure) : Option E110 :=
  bif b0.fDeep then
    bif (m109 (Measure.mk (IntKind.i64.wrap (b0.fNodes + 1)) true)).fst then
      some ((m109 (Measure.mk (IntKind.i64.wrap (b0.fNodes + 1)) true)).snd)
    else
      match a110_0 M110 (L110_0.mk a2 a1.fKids (↑a1.fKids.length : Int) (0) (m109 (Measure.mk (IntKind.i64.wrap (b0.fNodes + 1)) true)).snd) with
      | none =>
        none
      | some r2 =>
        bif decide (r2.t31 < r2.t30) then
          if (0 : Int) ≤ r2.t31 ∧ r2.t31 < (↑r2.t29.length : Int) then
            match M110 (GTerm.mk r2.t29[r2.t31.toNat]!.fOp r2.t29[r2.t31.toNat]!.fN r2.t29[r2.t31.toNat]!.fKids) (IntKind.i64.wrap (r2.t2 + 1)) r2.b0 with
            | none =>
              none
            | some r3 =>
              none
          else
            none
        else
          some (r2.b0)
  else
    bif (m109 (Measure.mk (IntKind.i64.wrap (b0.fNodes + 1)) (decide (12 < a2)))).fst then
      some ((m109 (Measure.mk (IntKind.i64.wrap (b0.fNodes + 1)) (decide (12 < a2)))).snd)
    else
      match a110_0 M110 (L110_0.mk a2 a1.fKids (↑a1.fKids.length : Int) (0) (m109 (Measure.mk (IntKind.i64.wrap (b0.fNodes + 1)) (decide (12 < a2)))).snd) with
      | none =>
        none
      | some r4 =>
        bif decide (r4.t31 < r4.t30) then
          if (0 : Int) ≤ r4.t31 ∧ r4.t31 < (↑r4.t29.length : Int) then
            match M110 (GTerm.mk r4.t29[r4.t31.toNat]!.fOp r4.t29[r4.t31.toNat]!.fN r4.t29[r4.t31.toNat]!.fKids) (IntKind.i64.wrap (r4.t2 + 1)) r4.b0 with
            | none =>
              none
            | some r5 =>
              none
          else
            none
        else
          some (r4.b0)
theorem c110 (M110 : GTerm → Int → Measure → Option E110) (a1 : GTerm) (a2 : Int) (b0 : Measure) : callR Tryz.prog (F110 M110) 300 (an110 M110) 110 [.ptr 0 0, .agg (uni.cells 97 a1), .n .i64 a2] [(0, .box 154 (uni.cells 154 b0))] 1 rd110_e = s110 M110 a1 a2 b0 := by kernel_rfl
noncomputable def mm110 : Nat → (GTerm → Int → Measure → Option E110)
  | 0 => (fun _ _ _ => none)
  | n + 1 => (s110 (mm110 n))
noncomputable def m110 (n : Nat) : GTerm → Int → Measure → Option E110 := (mm110 n)
theorem mm110_ok : ∀ n, H110 (m110 n)
  | 0 => fun _ _ _ _ h => by cases h
  | n + 1 => by
    have ih := mm110_ok n
    have i110 := ih
    exact fun a1 a2 b0 r h => (fnY_of (p := r) (F110_ok i110) (fa110 (m110 n)) rd110_e_ok (fun p => by kernel_rfl) (ltd_of (by kernel_rfl)) (rltd_of (by kernel_rfl)) ((c110 (m110 n) a1 a2 b0).trans h)).2
noncomputable def r110 : GTerm → Int → Measure → Option E110 := fun a1 a2 b0 => lim (fun n => m110 n a1 a2 b0)
theorem r110_ok : H110 r110 := fun a1 a2 b0 r h => by
  obtain ⟨n, hn⟩ := lim_some h
  exact (mm110_ok n) a1 a2 b0 r hn
noncomputable def e110 (F : Orc) : Orc := x110 r110 F
theorem e110_ok {F : Orc} (h : OrcG Tryz.prog F) : OrcG Tryz.prog (e110 F) := x110_ok r110_ok h
theorem e110_skip {F : Orc} {f : Nat} (hne : Nat.beq f 110 = false) (h : PureF F f) : PureF (e110 F) f := x110_skip hne h
/-! ### 108: (*keyhole/flat.measure).steps -/
abbrev E108 : Type := Measure
abbrev P108_e : Type := (Unit) × (Measure × Unit)
noncomputable def rb108_e : St → Option P108_e := stR 1 slN (rsN2 0 154 (asCs 154) rsN)
noncomputable def pb108_e : P108_e → St := stP 1 (fun z => []) (fun z => [(0, .box 154 (uni.cells 154 z.1))])
noncomputable def mk108_e (z : P108_e) : E108 := z.2.1
noncomputable def pt108_e (x : E108) : St := pb108_e ((()), (x, ()))
noncomputable def rd108_e : St → Option E108 := rdC 1 [] [] (rdM mk108_e rb108_e)
theorem rb108_e_ok (n : Nat) : RdOk 1 n rb108_e pb108_e := stR_ok .nil (.boxN (PkN.parse 154) .nil)
theorem rd108_e_ok (n : Nat) : RdOk 1 n rd108_e pt108_e := rdC_ok ((rb108_e_ok n).m mk108_e (pat' := pt108_e) fun _ => rfl)
noncomputable def o108 (x : E108) : Out := match (match outOf Tryz.prog 108 (pt108_e x) with
    | some ds => some (Out.mk (resA ds) (keepR (pt108_e x).R 1 (resA ds)) (pt108_e x).nx)
    | none => none) with
  | some o => o
  | none => ⟨.tup [], [], 0⟩
theorem fnok108 : fnOk Tryz.prog 108 := ⟨_, Tryz.func108, by kernel_rfl, by kernel_rfl⟩
noncomputable def x108 (M108 : (List GStep) → Int → Measure → Option E108) (F : Orc) : Orc := orY 108 1 (qyR (pkC (asP 0 0) (pkC (asL 134) (pkC (asI .i64) pkN))) (rsN2 0 154 (asCs 154) rsN)) (fun g => M108 g.1.2.1 g.1.2.2.1 g.2.1 : ((Unit × (List GStep) × Int × Unit) × (Measure × Unit)) → Option E108) o108 F
theorem x108_skip {M : (List GStep) → Int → Measure → Option E108} {F : Orc} {f : Nat} (hne : Nat.beq f 108 = false) (h : PureF F f) : PureF (x108 M F) f := orY_skip hne h
def H108 (M : (List GStep) → Int → Measure → Option E108) : Prop := ∀ (a1 : List GStep) (a2 : Int) (b0 : Measure) (r : E108), M a1 a2 b0 = some r → FnY Tryz.prog 108 [.ptr 0 0, .sl 134 a1, .n .i64 a2] [(0, .box 154 (uni.cells 154 b0))] 1 (o108 r)
theorem x108_ok {M : (List GStep) → Int → Measure → Option E108} (hM : H108 M) {F : Orc} (h : OrcG Tryz.prog F) : OrcG Tryz.prog (x108 M F) := orY_g h fnok108 (qyR_ok (ca := fun g => [.ptr 0 0, .sl 134 g.2.1, .n .i64 g.2.2.1]) (cr := fun g => [(0, .box 154 (uni.cells 154 g.1))]) ((.cons (.p 0 0) (.cons (.l 134) (.cons (.i .i64) .nil))) : PkN (pkC (asP 0 0) (pkC (asL 134) (pkC (asI .i64) pkN))) _) ((.boxN (PkN.parse 154) .nil) : RsOk (rsN2 0 154 (asCs 154) rsN) _)) (fun b => by kernel_rfl) (fun g b hb => hM g.1.2.1 g.1.2.2.1 g.2.1 b hb)
noncomputable def F108 (M108 : (List GStep) → Int → Measure → Option E108) : Orc := (e110 (e109 (x108 M108 or0)))
theorem F108_ok {M108} (h108 : H108 M108) : OrcG Tryz.prog (F108 M108) := (e110_ok (e109_ok (x108_ok h108 or0_g)))
structure L108_0 where
  t2 : Int
  t8 : List GStep
  t9 : Int
  t10 : Int
  b0 : Measure
abbrev P108_0 : Type := (Unit × Int × (List GStep) × Int × Int × Unit) × (Measure × Unit)
noncomputable def rb108_0 : St → Option P108_0 := stR 1 (slC 0 (asP 0 0) (slC 2 (asI .i64) (slC 8 (asL 134) (slC 9 (asI .i64) (slC 10 (asI .i64) slN))))) (rsN2 0 154 (asCs 154) rsN)
noncomputable def pb108_0 : P108_0 → St := stP 1 (fun z => [(0, .ptr 0 0), (2, .n .i64 z.2.1), (8, .sl 134 z.2.2.1), (9, .n .i64 z.2.2.2.1), (10, .n .i64 z.2.2.2.2.1)]) (fun z => [(0, .box 154 (uni.cells 154 z.1))])
noncomputable def mk108_0 (z : P108_0) : L108_0 := ⟨z.1.2.1, z.1.2.2.1, z.1.2.2.2.1, z.1.2.2.2.2.1, z.2.1⟩
noncomputable def pt108_0 (x : L108_0) : St := pb108_0 (((), x.t2, x.t8, x.t9, x.t10, ()), (x.b0, ()))
noncomputable def rd108_0 : St → Option L108_0 := rdC 1 [] [0, 2, 8, 9, 10] (rdM mk108_0 rb108_0)
theorem rb108_0_ok (n : Nat) : RdOk 1 n rb108_0 pb108_0 := stR_ok (.cons (.p 0 0) (.cons (.i .i64) (.cons (.l 134) (.cons (.i .i64) (.cons (.i .i64) .nil))))) (.boxN (PkN.parse 154) .nil)
theorem rd108_0_ok (n : Nat) : RdOk 1 n rd108_0 pt108_0 := rdC_ok ((rb108_0_ok n).m mk108_0 (pat' := pt108_0) fun _ => rfl)
noncomputable def n108_0 (M108 : (List GStep) → Int → Measure → Option E108) (p : L108_0) : Option (Option L108_0) :=
  bif decide (p.t10 < p.t9) then
    if (0 : Int) ≤ p.t10 ∧ p.t10 < (↑p.t8.length : Int) then
      bif p.b0.fDeep then
        bif (m109 (Measure.mk (IntKind.i64.wrap (p.b0.fNodes + 1)) true)).fst then
          some (none)
        else
          match r110 (GTerm.mk p.t8[p.t10.toNat]!.fTerm.fOp p.t8[p.t10.toNat]!.fTerm.fN p.t8[p.t10.toNat]!.fTerm.fKids) (1) (m109 (Measure.mk (IntKind.i64.wrap (p.b0.fNodes + 1)) true)).snd with
          | none =>
            none
          | some r1 =>
            match M108 p.t8[p.t10.toNat]!.fThen (IntKind.i64.wrap (p.t2 + 1)) r1 with
            | none =>
              none
            | some r2 =>
              match M108 p.t8[p.t10.toNat]!.fElse (IntKind.i64.wrap (p.t2 + 1)) r2 with
              | none =>
                none
              | some r3 =>
                some (some (L108_0.mk p.t2 p.t8 p.t9 (IntKind.i64.wrap (p.t10 + 1)) r3))
      else
        bif (m109 (Measure.mk (IntKind.i64.wrap (p.b0.fNodes + 1)) (decide (12 < (((), p.t2, p.t8, p.t9, p.t10, ()), p.b0, ()).fst.snd.fst)))).fst then
          some (none)
        else
          match r110 (GTerm.mk p.t8[p.t10.toNat]!.fTerm.fOp p.t8[p.t10.toNat]!.fTerm.fN p.t8[p.t10.toNat]!.fTerm.fKids) (1) (m109 (Measure.mk (IntKind.i64.wrap (p.b0.fNodes + 1)) (decide (12 < (((), p.t2, p.t8, p.t9, p.t10, ()), p.b0, ()).fst.snd.fst)))).snd with
          | none =>
            none
          | some r4 =>
            match M108 p.t8[p.t10.toNat]!.fThen (IntKind.i64.wrap (p.t2 + 1)) r4 with
            | none =>
              none
            | some r5 =>
              match M108 p.t8[p.t10.toNat]!.fElse (IntKind.i64.wrap (p.t2 + 1)) r5 with
              | none =>
                none
              | some r6 =>
                some (some (L108_0.mk p.t2 p.t8 p.t9 (IntKind.i64.wrap (p.t10 + 1)) r6))
    else
      none
  else
    some (none)
theorem q108_0 (M108 : (List GStep) → Int → Measure → Option E108) (p : L108_0) : execA Tryz.prog (F108 M108) Tryz.f108.ntmps 300 (loopAt Tryz.f108 0) .no (Option L108_0) (pt108_0 p) (kOn rd108_0) = n108_0 M108 p := by kernel_rfl
noncomputable def a108_0 (M108 : (List GStep) → Int → Measure → Option E108) : L108_0 → Option L108_0 := advG (n108_0 M108)
noncomputable def an108 (M108 : (List GStep) → Int → Measure → Option E108) : An := (.two .no (.lp L108_0 rd108_0 pt108_0 (a108_0 M108) .no))
theorem fa108 (M108 : (List GStep) → Int → Measure → Option E108) : FnAn Tryz.prog (F108 M108) 1 300 108 (an108 M108) := fnAn_of (l := [(loopAt Tryz.f108 0, (.lp L108_0 rd108_0 pt108_0 (a108_0 M108) .no))]) Tryz.func108 (bodyOf_eq (by kernel_rfl)) (by kernel_rfl) fun p hp => by
  simp only [List.mem_cons, List.not_mem_nil, or_false] at hp
  rcases hp with rfl
  · exact ⟨rd108_0_ok _, advG_ok (q108_0 M108)⟩
noncomputable def s108 (M108 : (List GStep) → Int → Measure → Option E108) (a1 : List GStep) (a2 : Int) (b0 : Measure) : Option E108 :=
  match a108_0 M108 (L108_0.mk a2 a1 (↑a1.length : Int) (0) b0) with
  | none =>
    none
  | some r7 =>
    bif decide (r7.t10 < r7.t9) then
      if (0 : Int) ≤ r7.t10 ∧ r7.t10 < (↑r7.t8.length : Int) then
        bif r7.b0.fDeep then
          bif (m109 (Measure.mk (IntKind.i64.wrap (r7.b0.fNodes + 1)) true)).fst then
            some ((m109 (Measure.mk (IntKind.i64.wrap (r7.b0.fNodes + 1)) true)).snd)
          else
            match r110 (GTerm.mk r7.t8[r7.t10.toNat]!.fTerm.fOp r7.t8[r7.t10.toNat]!.fTerm.fN r7.t8[r7.t10.toNat]!.fTerm.fKids) (1) (m109 (Measure.mk (IntKind.i64.wrap (r7.b0.fNodes + 1)) true)).snd with
            | none =>
              none
            | some r8 =>
              match M108 r7.t8[r7.t10.toNat]!.fThen (IntKind.i64.wrap (r7.t2 + 1)) r8 with
              | none =>
                none
              | some r9 =>
                match M108 r7.t8[r7.t10.toNat]!.fElse (IntKind.i64.wrap (r7.t2 + 1)) r9 with
                | none =>
                  none
                | some r10 =>
                  none
        else
          bif (m109 (Measure.mk (IntKind.i64.wrap (r7.b0.fNodes + 1)) (decide (12 < (((), r7.t2, r7.t8, r7.t9, r7.t10, ()), r7.b0, ()).fst.snd.fst)))).fst then
            some ((m109 (Measure.mk (IntKind.i64.wrap (r7.b0.fNodes + 1)) (decide (12 < (((), r7.t2, r7.t8, r7.t9, r7.t10, ()), r7.b0, ()).fst.snd.fst)))).snd)
          else
            match r110 (GTerm.mk r7.t8[r7.t10.toNat]!.fTerm.fOp r7.t8[r7.t10.toNat]!.fTerm.fN r7.t8[r7.t10.toNat]!.fTerm.fKids) (1) (m109 (Measure.mk (IntKind.i64.wrap (r7.b0.fNodes + 1)) (decide (12 < (((), r7.t2, r7.t8, r7.t9, r7.t10, ()), r7.b0, ()).fst.snd.fst)))).snd with
            | none =>
              none
            | some r11 =>
              match M108 r7.t8[r7.t10.toNat]!.fThen (IntKind.i64.wrap (r7.t2 + 1)) r11 with
              | none =>
                none
              | some r12 =>
                match M108 r7.t8[r7.t10.toNat]!.fElse (IntKind.i64.wrap (r7.t2 + 1)) r12 with
                | none =>
                  none
                | some r13 =>
                  none
      else
        none
    else
      some (r7.b0)
theorem c108 (M108 : (List GStep) → Int → Measure → Option E108) (a1 : List GStep) (a2 : Int) (b0 : Measure) : callR Tryz.prog (F108 M108) 300 (an108 M108) 108 [.ptr 0 0, .sl 134 a1, .n .i64 a2] [(0, .box 154 (uni.cells 154 b0))] 1 rd108_e = s108 M108 a1 a2 b0 := by kernel_rfl
noncomputable def mm108 : Nat → ((List GStep) → Int → Measure → Option E108)
  | 0 => (fun _ _ _ => none)
  | n + 1 => (s108 (mm108 n))
noncomputable def m108 (n : Nat) : (List GStep) → Int → Measure → Option E108 := (mm108 n)
theorem mm108_ok : ∀ n, H108 (m108 n)
  | 0 => fun _ _ _ _ h => by cases h
  | n + 1 => by
    have ih := mm108_ok n
    have i108 := ih
    exact fun a1 a2 b0 r h => (fnY_of (p := r) (F108_ok i108) (fa108 (m108 n)) rd108_e_ok (fun p => by kernel_rfl) (ltd_of (by kernel_rfl)) (rltd_of (by kernel_rfl)) ((c108 (m108 n) a1 a2 b0).trans h)).2
noncomputable def r108 : (List GStep) → Int → Measure → Option E108 := fun a1 a2 b0 => lim (fun n => m108 n a1 a2 b0)
theorem r108_ok : H108 r108 := fun a1 a2 b0 r h => by
  obtain ⟨n, hn⟩ := lim_some h
  exact (mm108_ok n) a1 a2 b0 r hn
noncomputable def e108 (F : Orc) : Orc := x108 r108 F
theorem e108_ok {F : Orc} (h : OrcG Tryz.prog F) : OrcG Tryz.prog (e108 F) := x108_ok r108_ok h
theorem e108_skip {F : Orc} {f : Nat} (hne : Nat.beq f 108 = false) (h : PureF F f) : PureF (e108 F) f := x108_skip hne h
/-! ### 160: keyhole/flat.varsCode$1 -/
noncomputable def F160 : Orc := or0
theorem F160_ok : OrcG Tryz.prog F160 := or0_g
abbrev E160 : Type := Bool
abbrev P160_e : Type := (Bool × Unit) × (Unit)
noncomputable def rb160_e : St → Option P160_e := stR 0 (slC 3 asB slN) rsN
noncomputable def pb160_e : P160_e → St := stP 0 (fun z => [(3, .b z.1)]) (fun z => [])
noncomputable def mk160_e (z : P160_e) : E160 := z.1.1
noncomputable def pt160_e (x : E160) : St := pb160_e ((x, ()), (()))
noncomputable def rd160_e : St → Option E160 := rdC 0 [] [3] (rdM mk160_e rb160_e)
theorem rb160_e_ok (n : Nat) : RdOk 0 n rb160_e pb160_e := stR_ok (.cons .b .nil) .nil
theorem rd160_e_ok (n : Nat) : RdOk 0 n rd160_e pt160_e := rdC_ok ((rb160_e_ok n).m mk160_e (pat' := pt160_e) fun _ => rfl)
noncomputable def an160 : An := .no
theorem fa160 : FnAn Tryz.prog (F160) 0 300 160 (an160) := fnAn_of (l := []) Tryz.func160 (bodyOf_eq (by kernel_rfl)) (by kernel_rfl) fun p hp => by
  cases hp
noncomputable def m160 (a0 : GVar) (c0 : GVar) : E160 :=
  a0.fName.toList == c0.fName.toList
theorem c160 (a0 : GVar) (c0 : GVar) : callR Tryz.prog (F160) 300 (an160) 160 [.agg (uni.cells 91 a0), .fp (uni.cells 91 c0)] [] 0 rd160_e = some (m160 a0 c0) := by kernel_rfl
noncomputable def o160 (x : E160) : Out := match (match outOf Tryz.prog 160 (pt160_e x) with
    | some ds => some (Out.mk (resA ds) (keepR (pt160_e x).R 0 (resA ds)) (pt160_e x).nx)
    | none => none) with
  | some o => o
  | none => ⟨.tup [], [], 0⟩
theorem fn160 (a0 : GVar) (c0 : GVar) (r : E160) (h : m160 a0 c0 = r) : fnOk Tryz.prog 160 ∧ FnY Tryz.prog 160 [.agg (uni.cells 91 a0), .fp (uni.cells 91 c0)] [] 0 (o160 r) :=
  fnY_of (p := r) F160_ok (fa160) rd160_e_ok (fun p => by kernel_rfl) (ltd_of (by kernel_rfl)) (rltd_of (by kernel_rfl)) ((c160 a0 c0).trans (congrArg some h))
theorem fnok160 : fnOk Tryz.prog 160 := ⟨_, Tryz.func160, by kernel_rfl, by kernel_rfl⟩
noncomputable def e160 (F : Orc) : Orc := orL 160 false (pkC (asGc 91) (pkC (asFp (asCs 91)) pkN)) (fun g => some (m160 g.1 g.2.1) : (GVar × GVar × Unit) → Option E160) o160 F
theorem e160_ok {F : Orc} (h : OrcG Tryz.prog F) : OrcG Tryz.prog (e160 F) := orL_g (sc := scU) h scU_ok fnok160 (ca := fun g => [.agg (uni.cells 91 g.1), .fp (uni.cells 91 g.2.1)]) ((.cons (.g 91) (.cons (.fp (PkN.parse 91)) .nil)) : PkN (pkC (asGc 91) (pkC (asFp (asCs 91)) pkN)) _) (fun b => by kernel_rfl) (fun b => by kernel_rfl) (fun g b hb => (fn160 g.1 g.2.1 b (Option.some.inj hb)).2)
theorem e160_pure {F : Orc} {f : Nat} (h : PureF F f) : PureF (e160 F) f := orL_pure h (fun b => by kernel_rfl)
/-! ### 161: keyhole/flat.isName -/
noncomputable def F161 : Orc := or0
theorem F161_ok : OrcG Tryz.prog F161 := or0_g
structure L161_0 where
  t0 : ByteArray
  t14 : Int
  t15 : Int
abbrev P161_0 : Type := (ByteArray × Int × Int × Unit) × (Unit)
noncomputable def rb161_0 : St → Option P161_0 := stR 0 (slC 0 asS (slC 14 (asI .i64) (slC 15 (asI .i64) slN))) rsN
noncomputable def pb161_0 : P161_0 → St := stP 0 (fun z => [(0, .s z.1), (14, .n .i64 z.2.1), (15, .n .i64 z.2.2.1)]) (fun z => [])
noncomputable def mk161_0 (z : P161_0) : L161_0 := ⟨z.1.1, z.1.2.1, z.1.2.2.1⟩
noncomputable def pt161_0 (x : L161_0) : St := pb161_0 ((x.t0, x.t14, x.t15, ()), (()))
noncomputable def rd161_0 : St → Option L161_0 := rdC 0 [] [0, 14, 15] (rdM mk161_0 rb161_0)
theorem rb161_0_ok (n : Nat) : RdOk 0 n rb161_0 pb161_0 := stR_ok (.cons .s (.cons (.i .i64) (.cons (.i .i64) .nil))) .nil
theorem rd161_0_ok (n : Nat) : RdOk 0 n rd161_0 pt161_0 := rdC_ok ((rb161_0_ok n).m mk161_0 (pat' := pt161_0) fun _ => rfl)
noncomputable def n161_0 (p : L161_0) : Option (Option L161_0) :=
  bif decide (p.t15 < p.t14) then
    if (0 : Int) ≤ p.t15 ∧ p.t15 < (↑p.t0.size : Int) then
      match bif decide (97 ≤ byteAt p.t0 p.t15.toNat) then
        some (decide (byteAt p.t0 p.t15.toNat ≤ 122))
      else
        some (false) with
      | none =>
        none
      | some r1 =>
        match bif bif r1 then false else true then
          bif decide (p.t15 = 0) then
            some (true)
          else
            bif decide (byteAt p.t0 p.t15.toNat < 48) then
              bif bif decide (byteAt p.t0 p.t15.toNat = 46) then false else true then
                some (bif decide (byteAt p.t0 p.t15.toNat = 95) then false else true)
              else
                some (false)
            else
              bif decide (57 < byteAt p.t0 p.t15.toNat) then
                bif bif decide (byteAt p.t0 p.t15.toNat = 46) then false else true then
                  some (bif decide (byteAt p.t0 p.t15.toNat = 95) then false else true)
                else
                  some (false)
              else
                some (false)
        else
          some (false) with
        | none =>
          none
        | some r2 =>
          bif r2 then
            some (none)
          else
            some (some (L161_0.mk p.t0 p.t14 (IntKind.i64.wrap (p.t15 + 1))))
    else
      none
  else
    some (none)
theorem q161_0 (p : L161_0) : execA Tryz.prog (F161) Tryz.f161.ntmps 300 (loopAt Tryz.f161 0) (.two .no (.two .no (.two (.two .no (.two .no (.two (.rb [] 5) (.two (.rb [] 48) .no)))) .no))) (Option L161_0) (pt161_0 p) (kOn rd161_0) = n161_0 p := by kernel_rfl
noncomputable def a161_0 : L161_0 → Option L161_0 := advG (n161_0)
abbrev E161 : Type := Bool
abbrev P161_e : Type := (Bool × Unit) × (Unit)
noncomputable def rb161_e : St → Option P161_e := stR 0 (slC 2 asB slN) rsN
noncomputable def pb161_e : P161_e → St := stP 0 (fun z => [(2, .b z.1)]) (fun z => [])
noncomputable def mk161_e (z : P161_e) : E161 := z.1.1
noncomputable def pt161_e (x : E161) : St := pb161_e ((x, ()), (()))
noncomputable def rd161_e : St → Option E161 := rdC 0 [] [2] (rdM mk161_e rb161_e)
theorem rb161_e_ok (n : Nat) : RdOk 0 n rb161_e pb161_e := stR_ok (.cons .b .nil) .nil
theorem rd161_e_ok (n : Nat) : RdOk 0 n rd161_e pt161_e := rdC_ok ((rb161_e_ok n).m mk161_e (pat' := pt161_e) fun _ => rfl)
noncomputable def an161 : An := (.two .no (.two (.two (.rb [] 12) .no) (.two (.two .no (.lp L161_0 rd161_0 pt161_0 a161_0 (.two .no (.two .no (.two (.two .no (.two .no (.two (.rb [] 5) (.two (.rb [] 48) .no)))) .no))))) .no)))
theorem pu161  : ∀ f ∈ ([] : List Nat), PureF (F161) f := fun f hf => by
  cases hf
theorem fa161 : FnAn Tryz.prog (F161) 0 300 161 (an161) := fnAn_of (l := [(.skip, (.rb [] 12)), (loopAt Tryz.f161 0, (.lp L161_0 rd161_0 pt161_0 a161_0 (.two .no (.two .no (.two (.two .no (.two .no (.two (.rb [] 5) (.two (.rb [] 48) .no)))) .no))))), (.skip, (.rb [] 5)), (.skip, (.rb [] 48))]) Tryz.func161 (bodyOf_eq (by kernel_rfl)) (by kernel_rfl) fun p hp => by
  simp only [List.mem_cons, List.not_mem_nil, or_false] at hp
  rcases hp with rfl | rfl | rfl | rfl
  · exact pu161
  · exact ⟨rd161_0_ok _, advG_ok (q161_0)⟩
  · exact pu161
  · exact pu161
noncomputable def m161 (a0 : ByteArray) : Option E161 :=
  match bif a0.toList == (ByteArray.mk (Array.mk [])).toList then
    some (true)
  else
    some (decide (40 < (↑a0.size : Int))) with
  | none =>
    none
  | some r3 =>
    bif r3 then
      some (false)
    else
      match a161_0 (L161_0.mk a0 (↑a0.size : Int) (0)) with
      | none =>
        none
      | some r4 =>
        bif decide (r4.t15 < r4.t14) then
          if (0 : Int) ≤ r4.t15 ∧ r4.t15 < (↑r4.t0.size : Int) then
            match bif decide (97 ≤ byteAt r4.t0 r4.t15.toNat) then
              some (decide (byteAt r4.t0 r4.t15.toNat ≤ 122))
            else
              some (false) with
            | none =>
              none
            | some r5 =>
              match bif bif r5 then false else true then
                bif decide (r4.t15 = 0) then
                  some (true)
                else
                  bif decide (byteAt r4.t0 r4.t15.toNat < 48) then
                    bif bif decide (byteAt r4.t0 r4.t15.toNat = 46) then false else true then
                      some (bif decide (byteAt r4.t0 r4.t15.toNat = 95) then false else true)
                    else
                      some (false)
                  else
                    bif decide (57 < byteAt r4.t0 r4.t15.toNat) then
                      bif bif decide (byteAt r4.t0 r4.t15.toNat = 46) then false else true then
                        some (bif decide (byteAt r4.t0 r4.t15.toNat = 95) then false else true)
                      else
                        some (false)
                    else
                      some (false)
              else
                some (false) with
              | none =>
                none
              | some r6 =>
                bif r6 then
                  some (false)
                else
                  none
          else
            none
        else
          some (true)
theorem c161 (a0 : ByteArray) : callR Tryz.prog (F161) 300 (an161) 161 [.s a0] [] 0 rd161_e = m161 a0 := by kernel_rfl
noncomputable def o161 (x : E161) : Out := match (match outOf Tryz.prog 161 (pt161_e x) with
    | some ds => some (Out.mk (resA ds) (keepR (pt161_e x).R 0 (resA ds)) (pt161_e x).nx)
    | none => none) with
  | some o => o
  | none => ⟨.tup [], [], 0⟩
theorem fn161 (a0 : ByteArray) (r : E161) (h : m161 a0 = some r) : fnOk Tryz.prog 161 ∧ FnY Tryz.prog 161 [.s a0] [] 0 (o161 r) :=
  fnY_of (p := r) F161_ok (fa161) rd161_e_ok (fun p => by kernel_rfl) (ltd_of (by kernel_rfl)) (rltd_of (by kernel_rfl)) ((c161 a0).trans h)
theorem fnok161 : fnOk Tryz.prog 161 := ⟨_, Tryz.func161, by kernel_rfl, by kernel_rfl⟩
noncomputable def e161 (F : Orc) : Orc := orL 161 false (pkC asS pkN) (fun g => m161 g.1 : (ByteArray × Unit) → Option E161) o161 F
theorem e161_ok {F : Orc} (h : OrcG Tryz.prog F) : OrcG Tryz.prog (e161 F) := orL_g (sc := scU) h scU_ok fnok161 (ca := fun g => [.s g.1]) ((.cons .s .nil) : PkN (pkC asS pkN) _) (fun b => by kernel_rfl) (fun b => by kernel_rfl) (fun g b hb => (fn161 g.1 b hb).2)
theorem e161_pure {F : Orc} {f : Nat} (h : PureF F f) : PureF (e161 F) f := orL_pure h (fun b => by kernel_rfl)
/-! ### 190: slices.IndexFunc[[]keyhole/api.Var,keyhole/api.Var] -/
noncomputable def F190 : Orc := (e160 or0)
theorem F190_ok : OrcG Tryz.prog F190 := (e160_ok or0_g)
structure L190_0 where
  t0 : List GVar
  t1_0_0 : ByteArray
  t1_0_1 : Int
  t1_0_2 : Int
  t1_0_3 : Int
  t1_0_4 : Int
  t7 : Int
  t8 : Int
abbrev P190_0 : Type := ((List GVar) × ((((ByteArray × Int × Int × Int × Int × Unit)) × Unit)) × Int × Int × Unit) × (Unit)
noncomputable def rb190_0 : St → Option P190_0 := stR 0 (slC 0 (asL 91) (slC 1 (asFf 160 (pkC (asFp (pkC asS (pkC (asI .i64) (pkC (asI .i64) (pkC (asI .i64) (pkC (asI .i64) pkN)))))) pkN)) (slC 7 (asI .i64) (slC 8 (asI .i64) slN)))) rsN
noncomputable def pb190_0 : P190_0 → St := stP 0 (fun z => [(0, .sl 91 z.1), (1, .fn (.func 160) [.fp [.s z.2.1.1.1, .n .i64 z.2.1.1.2.1, .n .i64 z.2.1.1.2.2.1, .n .i64 z.2.1.1.2.2.2.1, .n .i64 z.2.1.1.2.2.2.2.1]]), (7, .n .i64 z.2.2.1), (8, .n .i64 z.2.2.2.1)]) (fun z => [])
noncomputable def mk190_0 (z : P190_0) : L190_0 := ⟨z.1.1, z.1.2.1.1.1, z.1.2.1.1.2.1, z.1.2.1.1.2.2.1, z.1.2.1.1.2.2.2.1, z.1.2.1.1.2.2.2.2.1, z.1.2.2.1, z.1.2.2.2.1⟩
noncomputable def pt190_0 (x : L190_0) : St := pb190_0 ((x.t0, ((x.t1_0_0, x.t1_0_1, x.t1_0_2, x.t1_0_3, x.t1_0_4, ()), ()), x.t7, x.t8, ()), (()))
noncomputable def rd190_0 : St → Option L190_0 := rdC 0 [] [0, 1, 7, 8] (rdM mk190_0 rb190_0)
theorem rb190_0_ok (n : Nat) : RdOk 0 n rb190_0 pb190_0 := stR_ok (.cons (.l 91) (.cons (.ff 160 (.cons (.fp (.cons .s (.cons (.i .i64) (.cons (.i .i64) (.cons (.i .i64) (.cons (.i .i64) .nil)))))) .nil)) (.cons (.i .i64) (.cons (.i .i64) .nil)))) .nil
theorem rd190_0_ok (n : Nat) : RdOk 0 n rd190_0 pt190_0 := rdC_ok ((rb190_0_ok n).m mk190_0 (pat' := pt190_0) fun _ => rfl)
noncomputable def n190_0 (p : L190_0) : Option (Option L190_0) :=
  bif decide (p.t8 < p.t7) then
    if (0 : Int) ≤ p.t8 ∧ p.t8 < (↑p.t0.length : Int) then
      bif m160 p.t0[p.t8.toNat]! (GVar.mk p.t1_0_0 p.t1_0_1 p.t1_0_2 p.t1_0_3 p.t1_0_4) then
        some (none)
      else
        some (some (L190_0.mk p.t0 p.t1_0_0 p.t1_0_1 p.t1_0_2 p.t1_0_3 p.t1_0_4 p.t7 (IntKind.i64.wrap (p.t8 + 1))))
    else
      none
  else
    some (none)
theorem q190_0 (p : L190_0) : execA Tryz.prog (F190) Tryz.f190.ntmps 300 (loopAt Tryz.f190 0) .no (Option L190_0) (pt190_0 p) (kOn rd190_0) = n190_0 p := by kernel_rfl
noncomputable def a190_0 : L190_0 → Option L190_0 := advG (n190_0)
abbrev E190 : Type := Int
abbrev P190_e : Type := (Int × Unit) × (Unit)
noncomputable def rb190_e : St → Option P190_e := stR 0 (slC 4 (asI .i64) slN) rsN
noncomputable def pb190_e : P190_e → St := stP 0 (fun z => [(4, .n .i64 z.1)]) (fun z => [])
noncomputable def mk190_e (z : P190_e) : E190 := z.1.1
noncomputable def pt190_e (x : E190) : St := pb190_e ((x, ()), (()))
noncomputable def rd190_e : St → Option E190 := rdC 0 [] [4] (rdM mk190_e rb190_e)
theorem rb190_e_ok (n : Nat) : RdOk 0 n rb190_e pb190_e := stR_ok (.cons (.i .i64) .nil) .nil
theorem rd190_e_ok (n : Nat) : RdOk 0 n rd190_e pt190_e := rdC_ok ((rb190_e_ok n).m mk190_e (pat' := pt190_e) fun _ => rfl)
noncomputable def an190 : An := (.two .no (.two (.two .no (.lp L190_0 rd190_0 pt190_0 a190_0 .no)) .no))
theorem fa190 : FnAn Tryz.prog (F190) 0 300 190 (an190) := fnAn_of (l := [(loopAt Tryz.f190 0, (.lp L190_0 rd190_0 pt190_0 a190_0 .no))]) Tryz.func190 (bodyOf_eq (by kernel_rfl)) (by kernel_rfl) fun p hp => by
  simp only [List.mem_cons, List.not_mem_nil, or_false] at hp
  rcases hp with rfl
  · exact ⟨rd190_0_ok _, advG_ok (q190_0)⟩
noncomputable def m190 (a0 : List GVar) (a1_0 : GVar) : Option E190 :=
  match a190_0 (L190_0.mk a0 a1_0.fName a1_0.fKind a1_0.fLow a1_0.fHigh a1_0.fInit (↑a0.length : Int) (0)) with
  | none =>
    none
  | some r1 =>
    bif decide (r1.t8 < r1.t7) then
      if (0 : Int) ≤ r1.t8 ∧ r1.t8 < (↑r1.t0.length : Int) then
        bif m160 r1.t0[r1.t8.toNat]! (GVar.mk r1.t1_0_0 r1.t1_0_1 r1.t1_0_2 r1.t1_0_3 r1.t1_0_4) then
          some (r1.t8)
        else
          none
      else
        none
    else
      some (-1)
theorem c190 (a0 : List GVar) (a1_0 : GVar) : callR Tryz.prog (F190) 300 (an190) 190 [.sl 91 a0, .fn (.func 160) [.fp (uni.cells 91 a1_0)]] [] 0 rd190_e = m190 a0 a1_0 := by kernel_rfl
noncomputable def o190 (x : E190) : Out := match (match outOf Tryz.prog 190 (pt190_e x) with
    | some ds => some (Out.mk (resA ds) (keepR (pt190_e x).R 0 (resA ds)) (pt190_e x).nx)
    | none => none) with
  | some o => o
  | none => ⟨.tup [], [], 0⟩
theorem fn190 (a0 : List GVar) (a1_0 : GVar) (r : E190) (h : m190 a0 a1_0 = some r) : fnOk Tryz.prog 190 ∧ FnY Tryz.prog 190 [.sl 91 a0, .fn (.func 160) [.fp (uni.cells 91 a1_0)]] [] 0 (o190 r) :=
  fnY_of (p := r) F190_ok (fa190) rd190_e_ok (fun p => by kernel_rfl) (ltd_of (by kernel_rfl)) (rltd_of (by kernel_rfl)) ((c190 a0 a1_0).trans h)
theorem fnok190 : fnOk Tryz.prog 190 := ⟨_, Tryz.func190, by kernel_rfl, by kernel_rfl⟩
noncomputable def e190 (F : Orc) : Orc := orL 190 true (pkC (asL 91) (pkC (asFf 160 (pkC (asFp (asCs 91)) pkN)) pkN)) (fun g => m190 g.1 g.2.1.1 : ((List GVar) × ((GVar × Unit)) × Unit) → Option E190) o190 F
theorem e190_ok {F : Orc} (h : OrcG Tryz.prog F) : OrcG Tryz.prog (e190 F) := orL_g (sc := scU) h scU_ok fnok190 (ca := fun g => [.sl 91 g.1, .fn (.func 160) [.fp (uni.cells 91 g.2.1.1)]]) ((.cons (.l 91) (.cons (.ff 160 (.cons (.fp (PkN.parse 91)) .nil)) .nil)) : PkN (pkC (asL 91) (pkC (asFf 160 (pkC (asFp (asCs 91)) pkN)) pkN)) _) (fun b => by kernel_rfl) (fun b => by kernel_rfl) (fun g b hb => (fn190 g.1 g.2.1.1 b hb).2)
theorem e190_pure {F : Orc} {f : Nat} (h : PureF F f) : PureF (e190 F) f := orL_pure h (fun b => by kernel_rfl)
/-! ### 162: slices.ContainsFunc[[]keyhole/api.Var,keyhole/api.Var] -/
noncomputable def F162 : Orc := (e190 (e160 or0))
theorem F162_ok : OrcG Tryz.prog F162 := (e190_ok (e160_ok or0_g))
abbrev E162 : Type := Bool
abbrev P162_e : Type := (Bool × Unit) × (Unit)
noncomputable def rb162_e : St → Option P162_e := stR 0 (slC 4 asB slN) rsN
noncomputable def pb162_e : P162_e → St := stP 0 (fun z => [(4, .b z.1)]) (fun z => [])
noncomputable def mk162_e (z : P162_e) : E162 := z.1.1
noncomputable def pt162_e (x : E162) : St := pb162_e ((x, ()), (()))
noncomputable def rd162_e : St → Option E162 := rdC 0 [] [4] (rdM mk162_e rb162_e)
theorem rb162_e_ok (n : Nat) : RdOk 0 n rb162_e pb162_e := stR_ok (.cons .b .nil) .nil
theorem rd162_e_ok (n : Nat) : RdOk 0 n rd162_e pt162_e := rdC_ok ((rb162_e_ok n).m mk162_e (pat' := pt162_e) fun _ => rfl)
noncomputable def an162 : An := .no
theorem fa162 : FnAn Tryz.prog (F162) 0 300 162 (an162) := fnAn_of (l := []) Tryz.func162 (bodyOf_eq (by kernel_rfl)) (by kernel_rfl) fun p hp => by
  cases hp
noncomputable def m162 (a0 : List GVar) (a1_0 : GVar) : Option E162 :=
  match m190 a0 a1_0 with
  | none =>
    none
  | some r1 =>
    some (decide (0 ≤ r1))
theorem c162 (a0 : List GVar) (a1_0 : GVar) : callR Tryz.prog (F162) 300 (an162) 162 [.sl 91 a0, .fn (.func 160) [.fp (uni.cells 91 a1_0)]] [] 0 rd162_e = m162 a0 a1_0 := by kernel_rfl
noncomputable def o162 (x : E162) : Out := match (match outOf Tryz.prog 162 (pt162_e x) with
    | some ds => some (Out.mk (resA ds) (keepR (pt162_e x).R 0 (resA ds)) (pt162_e x).nx)
    | none => none) with
  | some o => o
  | none => ⟨.tup [], [], 0⟩
theorem fn162 (a0 : List GVar) (a1_0 : GVar) (r : E162) (h : m162 a0 a1_0 = some r) : fnOk Tryz.prog 162 ∧ FnY Tryz.prog 162 [.sl 91 a0, .fn (.func 160) [.fp (uni.cells 91 a1_0)]] [] 0 (o162 r) :=
  fnY_of (p := r) F162_ok (fa162) rd162_e_ok (fun p => by kernel_rfl) (ltd_of (by kernel_rfl)) (rltd_of (by kernel_rfl)) ((c162 a0 a1_0).trans h)
theorem fnok162 : fnOk Tryz.prog 162 := ⟨_, Tryz.func162, by kernel_rfl, by kernel_rfl⟩
noncomputable def e162 (F : Orc) : Orc := orL 162 true (pkC (asL 91) (pkC (asFf 160 (pkC (asFp (asCs 91)) pkN)) pkN)) (fun g => m162 g.1 g.2.1.1 : ((List GVar) × ((GVar × Unit)) × Unit) → Option E162) o162 F
theorem e162_ok {F : Orc} (h : OrcG Tryz.prog F) : OrcG Tryz.prog (e162 F) := orL_g (sc := scU) h scU_ok fnok162 (ca := fun g => [.sl 91 g.1, .fn (.func 160) [.fp (uni.cells 91 g.2.1.1)]]) ((.cons (.l 91) (.cons (.ff 160 (.cons (.fp (PkN.parse 91)) .nil)) .nil)) : PkN (pkC (asL 91) (pkC (asFf 160 (pkC (asFp (asCs 91)) pkN)) pkN)) _) (fun b => by kernel_rfl) (fun b => by kernel_rfl) (fun g b hb => (fn162 g.1 g.2.1.1 b hb).2)
theorem e162_pure {F : Orc} {f : Nat} (h : PureF F f) : PureF (e162 F) f := orL_pure h (fun b => by kernel_rfl)
/-! ### 163: keyhole/flat.bounded -/
noncomputable def F163 : Orc := or0
theorem F163_ok : OrcG Tryz.prog F163 := or0_g
abbrev E163 : Type := Bool
abbrev P163_e : Type := (Bool × Unit) × (Unit)
noncomputable def rb163_e : St → Option P163_e := stR 0 (slC 4 asB slN) rsN
noncomputable def pb163_e : P163_e → St := stP 0 (fun z => [(4, .b z.1)]) (fun z => [])
noncomputable def mk163_e (z : P163_e) : E163 := z.1.1
noncomputable def pt163_e (x : E163) : St := pb163_e ((x, ()), (()))
noncomputable def rd163_e : St → Option E163 := rdC 0 [] [4] (rdM mk163_e rb163_e)
theorem rb163_e_ok (n : Nat) : RdOk 0 n rb163_e pb163_e := stR_ok (.cons .b .nil) .nil
theorem rd163_e_ok (n : Nat) : RdOk 0 n rd163_e pt163_e := rdC_ok ((rb163_e_ok n).m mk163_e (pat' := pt163_e) fun _ => rfl)
noncomputable def an163 : An := (.two .no (.two (.rb [] 4) .no))
theorem pu163  : ∀ f ∈ ([] : List Nat), PureF (F163) f := fun f hf => by
  cases hf
theorem fa163 : FnAn Tryz.prog (F163) 0 300 163 (an163) := fnAn_of (l := [(.skip, (.rb [] 4))]) Tryz.func163 (bodyOf_eq (by kernel_rfl)) (by kernel_rfl) fun p hp => by
  simp only [List.mem_cons, List.not_mem_nil, or_false] at hp
  rcases hp with rfl
  · exact pu163
noncomputable def m163 (a0 : Int) (a1 : Int) : E163 :=
  let r1 : Bool := bif decide (a0 ≤ a1) then
    bif decide (-1048576 ≤ a0) then
      decide (a1 ≤ 1048576)
    else
      false
  else
    false
  r1
theorem c163 (a0 : Int) (a1 : Int) : callR Tryz.prog (F163) 300 (an163) 163 [.n .i64 a0, .n .i64 a1] [] 0 rd163_e = some (m163 a0 a1) := by
  refine Eq.trans (b := (
    match bif decide (a0 ≤ a1) then
      bif decide (-1048576 ≤ a0) then
        some (decide (a1 ≤ 1048576))
      else
        some (false)
    else
      some (false) with
    | none =>
      none
    | some r1 =>
      some (r1) : Option E163)) (by kernel_rfl) ?_
  simp only [m163, cond_some, ite_some]
noncomputable def o163 (x : E163) : Out := match (match outOf Tryz.prog 163 (pt163_e x) with
    | some ds => some (Out.mk (resA ds) (keepR (pt163_e x).R 0 (resA ds)) (pt163_e x).nx)
    | none => none) with
  | some o => o
  | none => ⟨.tup [], [], 0⟩
theorem fn163 (a0 : Int) (a1 : Int) (r : E163) (h : m163 a0 a1 = r) : fnOk Tryz.prog 163 ∧ FnY Tryz.prog 163 [.n .i64 a0, .n .i64 a1] [] 0 (o163 r) :=
  fnY_of (p := r) F163_ok (fa163) rd163_e_ok (fun p => by kernel_rfl) (ltd_of (by kernel_rfl)) (rltd_of (by kernel_rfl)) ((c163 a0 a1).trans (congrArg some h))
theorem fnok163 : fnOk Tryz.prog 163 := ⟨_, Tryz.func163, by kernel_rfl, by kernel_rfl⟩
noncomputable def e163 (F : Orc) : Orc := orL 163 false (pkC (asI .i64) (pkC (asI .i64) pkN)) (fun g => some (m163 g.1 g.2.1) : (Int × Int × Unit) → Option E163) o163 F
theorem e163_ok {F : Orc} (h : OrcG Tryz.prog F) : OrcG Tryz.prog (e163 F) := orL_g (sc := scU) h scU_ok fnok163 (ca := fun g => [.n .i64 g.1, .n .i64 g.2.1]) ((.cons (.i .i64) (.cons (.i .i64) .nil)) : PkN (pkC (asI .i64) (pkC (asI .i64) pkN)) _) (fun b => by kernel_rfl) (fun b => by kernel_rfl) (fun g b hb => (fn163 g.1 g.2.1 b (Option.some.inj hb)).2)
theorem e163_pure {F : Orc} {f : Nat} (h : PureF F f) : PureF (e163 F) f := orL_pure h (fun b => by kernel_rfl)
/-! ### 217: keyhole/domain.size -/
noncomputable def F217 : Orc := or0
theorem F217_ok : OrcG Tryz.prog F217 := or0_g
abbrev E217 : Type := Int
abbrev P217_e : Type := (Int × Unit) × (Unit)
noncomputable def rb217_e : St → Option P217_e := stR 0 (slC 2 (asI .i64) slN) rsN
noncomputable def pb217_e : P217_e → St := stP 0 (fun z => [(2, .n .i64 z.1)]) (fun z => [])
noncomputable def mk217_e (z : P217_e) : E217 := z.1.1
noncomputable def pt217_e (x : E217) : St := pb217_e ((x, ()), (()))
noncomputable def rd217_e : St → Option E217 := rdC 0 [] [2] (rdM mk217_e rb217_e)
theorem rb217_e_ok (n : Nat) : RdOk 0 n rb217_e pb217_e := stR_ok (.cons (.i .i64) .nil) .nil
theorem rd217_e_ok (n : Nat) : RdOk 0 n rd217_e pt217_e := rdC_ok ((rb217_e_ok n).m mk217_e (pat' := pt217_e) fun _ => rfl)
noncomputable def an217 : An := .no
theorem fa217 : FnAn Tryz.prog (F217) 0 300 217 (an217) := fnAn_of (l := []) Tryz.func217 (bodyOf_eq (by kernel_rfl)) (by kernel_rfl) fun p hp => by
  cases hp
noncomputable def m217 (a0 : GVar) : E217 :=
  IntKind.i64.wrap (IntKind.i64.wrap (a0.fHigh - a0.fLow) + 1)
theorem c217 (a0 : GVar) : callR Tryz.prog (F217) 300 (an217) 217 [.agg (uni.cells 91 a0)] [] 0 rd217_e = some (m217 a0) := by kernel_rfl
noncomputable def o217 (x : E217) : Out := match (match outOf Tryz.prog 217 (pt217_e x) with
    | some ds => some (Out.mk (resA ds) (keepR (pt217_e x).R 0 (resA ds)) (pt217_e x).nx)
    | none => none) with
  | some o => o
  | none => ⟨.tup [], [], 0⟩
theorem fn217 (a0 : GVar) (r : E217) (h : m217 a0 = r) : fnOk Tryz.prog 217 ∧ FnY Tryz.prog 217 [.agg (uni.cells 91 a0)] [] 0 (o217 r) :=
  fnY_of (p := r) F217_ok (fa217) rd217_e_ok (fun p => by kernel_rfl) (ltd_of (by kernel_rfl)) (rltd_of (by kernel_rfl)) ((c217 a0).trans (congrArg some h))
theorem fnok217 : fnOk Tryz.prog 217 := ⟨_, Tryz.func217, by kernel_rfl, by kernel_rfl⟩
noncomputable def e217 (F : Orc) : Orc := orL 217 false (pkC (asGc 91) pkN) (fun g => some (m217 g.1) : (GVar × Unit) → Option E217) o217 F
theorem e217_ok {F : Orc} (h : OrcG Tryz.prog F) : OrcG Tryz.prog (e217 F) := orL_g (sc := scU) h scU_ok fnok217 (ca := fun g => [.agg (uni.cells 91 g.1)]) ((.cons (.g 91) .nil) : PkN (pkC (asGc 91) pkN) _) (fun b => by kernel_rfl) (fun b => by kernel_rfl) (fun g b hb => (fn217 g.1 b (Option.some.inj hb)).2)
theorem e217_pure {F : Orc} {f : Nat} (h : PureF F f) : PureF (e217 F) f := orL_pure h (fun b => by kernel_rfl)
/-! ### 191: keyhole/domain.chosen -/
noncomputable def F191 : Orc := (e217 or0)
theorem F191_ok : OrcG Tryz.prog F191 := (e217_ok or0_g)
structure L191_1 where
  t7 : List GVar
  t10 : Int
  t49 : List GVar
  t50 : Int
  t51 : Int
abbrev P191_1 : Type := (Unit × Int × Unit × Int × Int × Unit) × ((List GVar) × Unit)
noncomputable def rb191_1 : St → Option P191_1 := stR 1 (slC 7 (asO 0) (slC 10 (asI .i64) (slC 49 (asO 0) (slC 50 (asI .i64) (slC 51 (asI .i64) slN))))) (rsR 0 91 rsN)
noncomputable def pb191_1 : P191_1 → St := stP 1 (fun z => [(7, .own 0), (10, .n .i64 z.2.1), (49, .own 0), (50, .n .i64 z.2.2.2.1), (51, .n .i64 z.2.2.2.2.1)]) (fun z => [(0, .row 91 z.1)])
noncomputable def mk191_1 (z : P191_1) : L191_1 := ⟨z.2.1, z.1.2.1, z.2.1, z.1.2.2.2.1, z.1.2.2.2.2.1⟩
noncomputable def pt191_1 (x : L191_1) : St := pb191_1 (((), x.t10, (), x.t50, x.t51, ()), (x.t49, ()))
noncomputable def rd191_1 : St → Option L191_1 := rdC 0 [] [7, 10, 49, 50, 51] (rdM mk191_1 rb191_1)
theorem rb191_1_ok (n : Nat) : RdOk 0 n rb191_1 pb191_1 := stR_ok (.cons (.o 0) (.cons (.i .i64) (.cons (.o 0) (.cons (.i .i64) (.cons (.i .i64) .nil))))) (.row .nil)
theorem rd191_1_ok (n : Nat) : RdOk 0 n rd191_1 pt191_1 := rdC_ok ((rb191_1_ok n).m mk191_1 (pat' := pt191_1) fun _ => rfl)
noncomputable def n191_1 (p : L191_1) : Option (Option L191_1) :=
  bif decide (p.t51 < p.t50) then
    if (0 : Int) ≤ p.t51 ∧ p.t51 < (↑p.t49.length : Int) then
      if 91 = 91 ∧ p.t51.toNat < p.t49.length then
        bif decide (4096 < IntKind.i64.wrap (p.t10 * m217 p.t49[p.t51.toNat]!)) then
          some (none)
        else
          some (some (L191_1.mk p.t49 (IntKind.i64.wrap (p.t10 * m217 p.t49[p.t51.toNat]!)) p.t49 p.t50 (IntKind.i64.wrap (p.t51 + 1))))
      else
        none
    else
      none
  else
    some (none)
theorem q191_1 (p : L191_1) : execA Tryz.prog (F191) Tryz.f191.ntmps 300 (loopAt Tryz.f191 1) .no (Option L191_1) (pt191_1 p) (kOn rd191_1) = n191_1 p := by kernel_rfl
noncomputable def a191_1 : L191_1 → Option L191_1 := advG (n191_1)
structure L191_0 where
  t1 : Int
  t7 : List GVar
  t19 : List GVar
  t20 : Int
  t21 : Int
abbrev P191_0 : Type := (Int × Unit × (List GVar) × Int × Int × Unit) × ((List GVar) × Unit)
noncomputable def rb191_0 : St → Option P191_0 := stR 1 (slC 1 (asI .i64) (slC 7 (asO 0) (slC 19 (asL 91) (slC 20 (asI .i64) (slC 21 (asI .i64) slN))))) (rsR 0 91 rsN)
noncomputable def pb191_0 : P191_0 → St := stP 1 (fun z => [(1, .n .i64 z.1), (7, .own 0), (19, .sl 91 z.2.2.1), (20, .n .i64 z.2.2.2.1), (21, .n .i64 z.2.2.2.2.1)]) (fun z => [(0, .row 91 z.1)])
noncomputable def mk191_0 (z : P191_0) : L191_0 := ⟨z.1.1, z.2.1, z.1.2.2.1, z.1.2.2.2.1, z.1.2.2.2.2.1⟩
noncomputable def pt191_0 (x : L191_0) : St := pb191_0 ((x.t1, (), x.t19, x.t20, x.t21, ()), (x.t7, ()))
noncomputable def rd191_0 : St → Option L191_0 := rdC 0 [] [1, 7, 19, 20, 21] (rdF (ownS 7 [] 91) (rdC 0 [] [1, 7, 19, 20, 21] (rdM mk191_0 rb191_0)))
theorem rb191_0_ok (n : Nat) : RdOk 0 n rb191_0 pb191_0 := stR_ok (.cons (.i .i64) (.cons (.o 0) (.cons (.l 91) (.cons (.i .i64) (.cons (.i .i64) .nil))))) (.row .nil)
theorem rd191_0_ok (n : Nat) : RdOk 0 n rd191_0 pt191_0 := rdC_ok (rdF_ok (.s 7 [] 91) (rdC_ok ((rb191_0_ok n).m mk191_0 (pat' := pt191_0) fun _ => rfl)))
noncomputable def n191_0 (p : L191_0) : Option (Option L191_0) :=
  bif decide (p.t21 < p.t20) then
    if (0 : Int) ≤ p.t21 ∧ p.t21 < (↑p.t19.length : Int) then
      bif bif decide (p.t19[p.t21.toNat]!.fKind = p.t1) then false else true then
        some (some (L191_0.mk p.t1 p.t7 p.t19 p.t20 (IntKind.i64.wrap (p.t21 + 1))))
      else
        match bif decide (p.t19[p.t21.toNat]!.fHigh < p.t19[p.t21.toNat]!.fLow) then
          some (true)
        else
          bif decide (p.t19[p.t21.toNat]!.fLow < -1048576) then
            some (true)
          else
            some (decide (1048576 < p.t19[p.t21.toNat]!.fHigh)) with
        | none =>
          none
        | some r1 =>
          bif r1 then
            some (none)
          else
            if (p.t7 ++ [p.t19[p.t21.toNat]!]).length ≤ 1073741824 then
              some (some (L191_0.mk p.t1 (p.t7 ++ [p.t19[p.t21.toNat]!]) p.t19 p.t20 (IntKind.i64.wrap (p.t21 + 1))))
            else
              none
    else
      none
  else
    some (none)
theorem q191_0 (p : L191_0) : execA Tryz.prog (F191) Tryz.f191.ntmps 300 (loopAt Tryz.f191 0) (.two .no (.two .no (.two (.two .no (.two .no (.two (.two (.rb [] 43) .no) .no))) .no))) (Option L191_0) (pt191_0 p) (kOn rd191_0) = n191_0 p := by kernel_rfl
noncomputable def a191_0 : L191_0 → Option L191_0 := advG (n191_0)
abbrev E191 : Type := (List GVar) × Int × Int
abbrev P191_e : Type := (Unit × Int × Int × Unit) × ((List GVar) × Unit)
noncomputable def rb191_e : St → Option P191_e := stR 1 (slC 4 (asO 0) (slC 5 (asI .i64) (slC 6 (asI .i64) slN))) (rsR 0 91 rsN)
noncomputable def pb191_e : P191_e → St := stP 1 (fun z => [(4, .own 0), (5, .n .i64 z.2.1), (6, .n .i64 z.2.2.1)]) (fun z => [(0, .row 91 z.1)])
noncomputable def mk191_e (z : P191_e) : E191 := (z.2.1, z.1.2.1, z.1.2.2.1)
noncomputable def pt191_e (x : E191) : St := pb191_e (((), x.2.1, x.2.2, ()), (x.1, ()))
noncomputable def rd191_e : St → Option E191 := rdC 0 [] [4, 5, 6] (rdF (ownS 4 [] 91) (rdC 0 [] [4, 5, 6] (rdM mk191_e rb191_e)))
theorem rb191_e_ok (n : Nat) : RdOk 0 n rb191_e pb191_e := stR_ok (.cons (.o 0) (.cons (.i .i64) (.cons (.i .i64) .nil))) (.row .nil)
theorem rd191_e_ok (n : Nat) : RdOk 0 n rd191_e pt191_e := rdC_ok (rdF_ok (.s 4 [] 91) (rdC_ok ((rb191_e_ok n).m mk191_e (pat' := pt191_e) fun _ => rfl)))
noncomputable def an191 : An := (.two .no (.two .no (.two .no (.two (.two .no (.lp L191_0 rd191_0 pt191_0 a191_0 (.two .no (.two .no (.two (.two .no (.two .no (.two (.two (.rb [] 43) .no) .no))) .no))))) (.two .no (.two (.two .no (.lp L191_1 rd191_1 pt191_1 a191_1 .no)) .no))))))
theorem pu191  : ∀ f ∈ ([] : List Nat), PureF (F191) f := fun f hf => by
  cases hf
theorem fa191 : FnAn Tryz.prog (F191) 0 300 191 (an191) := fnAn_of (l := [(loopAt Tryz.f191 0, (.lp L191_0 rd191_0 pt191_0 a191_0 (.two .no (.two .no (.two (.two .no (.two .no (.two (.two (.rb [] 43) .no) .no))) .no))))), (.skip, (.rb [] 43)), (loopAt Tryz.f191 1, (.lp L191_1 rd191_1 pt191_1 a191_1 .no))]) Tryz.func191 (bodyOf_eq (by kernel_rfl)) (by kernel_rfl) fun p hp => by
  simp only [List.mem_cons, List.not_mem_nil, or_false] at hp
  rcases hp with rfl | rfl | rfl
  · exact ⟨rd191_0_ok _, advG_ok (q191_0)⟩
  · exact pu191
  · exact ⟨rd191_1_ok _, advG_ok (q191_1)⟩
noncomputable def m191 (a0 : List GVar) (a1 : Int) : Option E191 :=
  bif decide (a1 = 0) then
    match a191_0 (L191_0.mk a1 [] a0 (↑a0.length : Int) (0)) with
    | none =>
      none
    | some r2 =>
      bif decide (r2.t21 < r2.t20) then
        if (0 : Int) ≤ r2.t21 ∧ r2.t21 < (↑r2.t19.length : Int) then
          bif bif decide (r2.t19[r2.t21.toNat]!.fKind = r2.t1) then false else true then
            none
          else
            match bif decide (r2.t19[r2.t21.toNat]!.fHigh < r2.t19[r2.t21.toNat]!.fLow) then
              some (true)
            else
              bif decide (r2.t19[r2.t21.toNat]!.fLow < -1048576) then
                some (true)
              else
                some (decide (1048576 < r2.t19[r2.t21.toNat]!.fHigh)) with
            | none =>
              none
            | some r3 =>
              bif r3 then
                some (([], 0, 3))
              else
                if (r2.t7 ++ [r2.t19[r2.t21.toNat]!]).length ≤ 1073741824 then
                  none
                else
                  none
        else
          none
      else
        match a191_1 (L191_1.mk r2.t7 (1) r2.t7 (↑r2.t7.length : Int) (0)) with
        | none =>
          none
        | some r4 =>
          bif decide (r4.t51 < r4.t50) then
            if (0 : Int) ≤ r4.t51 ∧ r4.t51 < (↑r4.t49.length : Int) then
              if 91 = 91 ∧ r4.t51.toNat < r4.t49.length then
                bif decide (4096 < IntKind.i64.wrap (r4.t10 * m217 r4.t49[r4.t51.toNat]!)) then
                  some (([], 0, 4))
                else
                  none
              else
                none
            else
              none
          else
            some ((r4.t49, r4.t10, 0))
  else
    bif decide (a1 = 1) then
      match a191_0 (L191_0.mk a1 [] a0 (↑a0.length : Int) (0)) with
      | none =>
        none
      | some r5 =>
        bif decide (r5.t21 < r5.t20) then
          if (0 : Int) ≤ r5.t21 ∧ r5.t21 < (↑r5.t19.length : Int) then
            bif bif decide (r5.t19[r5.t21.toNat]!.fKind = r5.t1) then false else true then
              none
            else
              match bif decide (r5.t19[r5.t21.toNat]!.fHigh < r5.t19[r5.t21.toNat]!.fLow) then
                some (true)
              else
                bif decide (r5.t19[r5.t21.toNat]!.fLow < -1048576) then
                  some (true)
                else
                  some (decide (1048576 < r5.t19[r5.t21.toNat]!.fHigh)) with
              | none =>
                none
              | some r6 =>
                bif r6 then
                  some (([], 0, 3))
                else
                  if (r5.t7 ++ [r5.t19[r5.t21.toNat]!]).length ≤ 1073741824 then
                    none
                  else
                    none
          else
            none
        else
          match a191_1 (L191_1.mk r5.t7 (1) r5.t7 (↑r5.t7.length : Int) (0)) with
          | none =>
            none
          | some r7 =>
            bif decide (r7.t51 < r7.t50) then
              if (0 : Int) ≤ r7.t51 ∧ r7.t51 < (↑r7.t49.length : Int) then
                if 91 = 91 ∧ r7.t51.toNat < r7.t49.length then
                  bif decide (4096 < IntKind.i64.wrap (r7.t10 * m217 r7.t49[r7.t51.toNat]!)) then
                    some (([], 0, 4))
                  else
                    none
                else
                  none
              else
                none
            else
              some ((r7.t49, r7.t10, 0))
    else
      bif decide (a1 = 2) then
        match a191_0 (L191_0.mk a1 [] a0 (↑a0.length : Int) (0)) with
        | none =>
          none
        | some r8 =>
          bif decide (r8.t21 < r8.t20) then
            if (0 : Int) ≤ r8.t21 ∧ r8.t21 < (↑r8.t19.length : Int) then
              bif bif decide (r8.t19[r8.t21.toNat]!.fKind = r8.t1) then false else true then
                none
              else
                match bif decide (r8.t19[r8.t21.toNat]!.fHigh < r8.t19[r8.t21.toNat]!.fLow) then
                  some (true)
                else
                  bif decide (r8.t19[r8.t21.toNat]!.fLow < -1048576) then
                    some (true)
                  else
                    some (decide (1048576 < r8.t19[r8.t21.toNat]!.fHigh)) with
                | none =>
                  none
                | some r9 =>
                  bif r9 then
                    some (([], 0, 3))
                  else
                    if (r8.t7 ++ [r8.t19[r8.t21.toNat]!]).length ≤ 1073741824 then
                      none
                    else
                      none
            else
              none
          else
            match a191_1 (L191_1.mk r8.t7 (1) r8.t7 (↑r8.t7.length : Int) (0)) with
            | none =>
              none
            | some r10 =>
              bif decide (r10.t51 < r10.t50) then
                if (0 : Int) ≤ r10.t51 ∧ r10.t51 < (↑r10.t49.length : Int) then
                  if 91 = 91 ∧ r10.t51.toNat < r10.t49.length then
                    bif decide (4096 < IntKind.i64.wrap (r10.t10 * m217 r10.t49[r10.t51.toNat]!)) then
                      some (([], 0, 4))
                    else
                      none
                  else
                    none
                else
                  none
              else
                some ((r10.t49, r10.t10, 0))
      else
        bif decide (a1 = 3) then
          match a191_0 (L191_0.mk a1 [] a0 (↑a0.length : Int) (0)) with
          | none =>
            none
          | some r11 =>
            bif decide (r11.t21 < r11.t20) then
              if (0 : Int) ≤ r11.t21 ∧ r11.t21 < (↑r11.t19.length : Int) then
                bif bif decide (r11.t19[r11.t21.toNat]!.fKind = r11.t1) then false else true then
                  none
                else
                  match bif decide (r11.t19[r11.t21.toNat]!.fHigh < r11.t19[r11.t21.toNat]!.fLow) then
                    some (true)
                  else
                    bif decide (r11.t19[r11.t21.toNat]!.fLow < -1048576) then
                      some (true)
                    else
                      some (decide (1048576 < r11.t19[r11.t21.toNat]!.fHigh)) with
                  | none =>
                    none
                  | some r12 =>
                    bif r12 then
                      some (([], 0, 3))
                    else
                      if (r11.t7 ++ [r11.t19[r11.t21.toNat]!]).length ≤ 1073741824 then
                        none
                      else
                        none
              else
                none
            else
              match a191_1 (L191_1.mk r11.t7 (1) r11.t7 (↑r11.t7.length : Int) (0)) with
              | none =>
                none
              | some r13 =>
                bif decide (r13.t51 < r13.t50) then
                  if (0 : Int) ≤ r13.t51 ∧ r13.t51 < (↑r13.t49.length : Int) then
                    if 91 = 91 ∧ r13.t51.toNat < r13.t49.length then
                      bif decide (4096 < IntKind.i64.wrap (r13.t10 * m217 r13.t49[r13.t51.toNat]!)) then
                        some (([], 0, 4))
                      else
                        none
                    else
                      none
                  else
                    none
                else
                  some ((r13.t49, r13.t10, 0))
        else
          some (([], 0, 1))
theorem c191 (a0 : List GVar) (a1 : Int) : callR Tryz.prog (F191) 300 (an191) 191 [.sl 91 a0, .n .i64 a1] [] 0 rd191_e = m191 a0 a1 := by kernel_rfl
noncomputable def o191 (x : E191) : Out := match (match outOf Tryz.prog 191 (pt191_e x) with
    | some ds => some (Out.mk (resA ds) (keepR (pt191_e x).R 0 (resA ds)) (pt191_e x).nx)
    | none => none) with
  | some o => o
  | none => ⟨.tup [], [], 0⟩
theorem fn191 (a0 : List GVar) (a1 : Int) (r : E191) (h : m191 a0 a1 = some r) : fnOk Tryz.prog 191 ∧ FnY Tryz.prog 191 [.sl 91 a0, .n .i64 a1] [] 0 (o191 r) :=
  fnY_of (p := r) F191_ok (fa191) rd191_e_ok (fun p => by kernel_rfl) (ltd_of (by kernel_rfl)) (rltd_of (by kernel_rfl)) ((c191 a0 a1).trans h)
theorem fnok191 : fnOk Tryz.prog 191 := ⟨_, Tryz.func191, by kernel_rfl, by kernel_rfl⟩
noncomputable def e191 (F : Orc) : Orc := orL 191 false (pkC (asL 91) (pkC (asI .i64) pkN)) (fun g => m191 g.1 g.2.1 : ((List GVar) × Int × Unit) → Option E191) o191 F
theorem e191_ok {F : Orc} (h : OrcG Tryz.prog F) : OrcG Tryz.prog (e191 F) := orL_g (sc := scU) h scU_ok fnok191 (ca := fun g => [.sl 91 g.1, .n .i64 g.2.1]) ((.cons (.l 91) (.cons (.i .i64) .nil)) : PkN (pkC (asL 91) (pkC (asI .i64) pkN)) _) (fun b => by kernel_rfl) (fun b => by kernel_rfl) (fun g b hb => (fn191 g.1 g.2.1 b hb).2)
theorem e191_skip {F : Orc} {f : Nat} (hne : Nat.beq f 191 = false) (h : PureF F f) : PureF (e191 F) f := orL_skip hne h
/-! ### 164: keyhole/domain.Space -/
noncomputable def F164 : Orc := (e191 or0)
theorem F164_ok : OrcG Tryz.prog F164 := (e191_ok or0_g)
abbrev E164 : Type := Int × Int
abbrev P164_e : Type := (Int × Int × Unit) × (Unit)
noncomputable def rb164_e : St → Option P164_e := stR 0 (slC 4 (asI .i64) (slC 5 (asI .i64) slN)) rsN
noncomputable def pb164_e : P164_e → St := stP 0 (fun z => [(4, .n .i64 z.1), (5, .n .i64 z.2.1)]) (fun z => [])
noncomputable def mk164_e (z : P164_e) : E164 := (z.1.1, z.1.2.1)
noncomputable def pt164_e (x : E164) : St := pb164_e ((x.1, x.2, ()), (()))
noncomputable def rd164_e : St → Option E164 := rdC 0 [] [4, 5] (rdM mk164_e rb164_e)
theorem rb164_e_ok (n : Nat) : RdOk 0 n rb164_e pb164_e := stR_ok (.cons (.i .i64) (.cons (.i .i64) .nil)) .nil
theorem rd164_e_ok (n : Nat) : RdOk 0 n rd164_e pt164_e := rdC_ok ((rb164_e_ok n).m mk164_e (pat' := pt164_e) fun _ => rfl)
noncomputable def an164 : An := .no
theorem fa164 : FnAn Tryz.prog (F164) 0 300 164 (an164) := fnAn_of (l := []) Tryz.func164 (bodyOf_eq (by kernel_rfl)) (by kernel_rfl) fun p hp => by
  cases hp
noncomputable def m164 (a0 : List GVar) (a1 : Int) : Option E164 :=
  match m191 a0 a1 with
  | none =>
    none
  | some r1 =>
    some (r1.snd)
theorem c164 (a0 : List GVar) (a1 : Int) : callR Tryz.prog (F164) 300 (an164) 164 [.sl 91 a0, .n .i64 a1] [] 0 rd164_e = m164 a0 a1 := by kernel_rfl
noncomputable def o164 (x : E164) : Out := match (match outOf Tryz.prog 164 (pt164_e x) with
    | some ds => some (Out.mk (resA ds) (keepR (pt164_e x).R 0 (resA ds)) (pt164_e x).nx)
    | none => none) with
  | some o => o
  | none => ⟨.tup [], [], 0⟩
theorem fn164 (a0 : List GVar) (a1 : Int) (r : E164) (h : m164 a0 a1 = some r) : fnOk Tryz.prog 164 ∧ FnY Tryz.prog 164 [.sl 91 a0, .n .i64 a1] [] 0 (o164 r) :=
  fnY_of (p := r) F164_ok (fa164) rd164_e_ok (fun p => by kernel_rfl) (ltd_of (by kernel_rfl)) (rltd_of (by kernel_rfl)) ((c164 a0 a1).trans h)
theorem fnok164 : fnOk Tryz.prog 164 := ⟨_, Tryz.func164, by kernel_rfl, by kernel_rfl⟩
noncomputable def e164 (F : Orc) : Orc := orL 164 false (pkC (asL 91) (pkC (asI .i64) pkN)) (fun g => m164 g.1 g.2.1 : ((List GVar) × Int × Unit) → Option E164) o164 F
theorem e164_ok {F : Orc} (h : OrcG Tryz.prog F) : OrcG Tryz.prog (e164 F) := orL_g (sc := scU) h scU_ok fnok164 (ca := fun g => [.sl 91 g.1, .n .i64 g.2.1]) ((.cons (.l 91) (.cons (.i .i64) .nil)) : PkN (pkC (asL 91) (pkC (asI .i64) pkN)) _) (fun b => by kernel_rfl) (fun b => by kernel_rfl) (fun g b hb => (fn164 g.1 g.2.1 b hb).2)
theorem e164_pure {F : Orc} {f : Nat} (h : PureF F f) : PureF (e164 F) f := orL_pure h (fun b => by kernel_rfl)
/-! ### 111: keyhole/flat.varsCode -/
noncomputable def F111 : Orc := (e164 (e163 (e162 (e161 or0))))
theorem F111_ok : OrcG Tryz.prog F111 := (e164_ok (e163_ok (e162_ok (e161_ok or0_g))))
structure L111_1 where
  t0 : List GVar
  t71 : List Int
  t72 : Int
  t73 : Int
abbrev P111_1 : Type := ((List GVar) × Unit × Int × Int × Unit) × ((List Int) × Unit)
noncomputable def rb111_1 : St → Option P111_1 := stR 1 (slC 0 (asL 91) (slC 71 (asO 0) (slC 72 (asI .i64) (slC 73 (asI .i64) slN)))) (rsR 0 89 rsN)
noncomputable def pb111_1 : P111_1 → St := stP 1 (fun z => [(0, .sl 91 z.1), (71, .own 0), (72, .n .i64 z.2.2.1), (73, .n .i64 z.2.2.2.1)]) (fun z => [(0, .row 89 z.1)])
noncomputable def mk111_1 (z : P111_1) : L111_1 := ⟨z.1.1, z.2.1, z.1.2.2.1, z.1.2.2.2.1⟩
noncomputable def pt111_1 (x : L111_1) : St := pb111_1 ((x.t0, (), x.t72, x.t73, ()), (x.t71, ()))
noncomputable def rd111_1 : St → Option L111_1 := rdC 0 [] [0, 71, 72, 73] (rdM mk111_1 rb111_1)
theorem rb111_1_ok (n : Nat) : RdOk 0 n rb111_1 pb111_1 := stR_ok (.cons (.l 91) (.cons (.o 0) (.cons (.i .i64) (.cons (.i .i64) .nil)))) (.row .nil)
theorem rd111_1_ok (n : Nat) : RdOk 0 n rd111_1 pt111_1 := rdC_ok ((rb111_1_ok n).m mk111_1 (pat' := pt111_1) fun _ => rfl)
noncomputable def n111_1 (p : L111_1) : Option (Option L111_1) :=
  bif decide (p.t73 < p.t72) then
    if (0 : Int) ≤ p.t73 ∧ p.t73 < (↑p.t71.length : Int) then
      if 89 = 89 ∧ p.t73.toNat < p.t71.length then
        match m164 p.t0 p.t71[p.t73.toNat]! with
        | none =>
          none
        | some r6 =>
          match bif bif decide (r6.snd = 0) then false else true then
            some (true)
          else
            bif decide (((p.t0, (), p.t72, p.t73, ()), p.t71, ()).snd.fst[((p.t0, (), p.t72, p.t73, ()), p.t71, ()).fst.snd.snd.snd.fst.toNat]! = 3) then
              some (decide (256 < r6.fst))
            else
              some (false) with
          | none =>
            none
          | some r7 =>
            bif r7 then
              some (none)
            else
              some (some (L111_1.mk p.t0 p.t71 p.t72 (IntKind.i64.wrap (p.t73 + 1))))
      else
        none
    else
      none
  else
    some (none)
theorem q111_1 (p : L111_1) : execA Tryz.prog (F111) Tryz.f111.ntmps 300 (loopAt Tryz.f111 1) (.two .no (.two .no (.two (.two .no (.two .no (.two (.rb [] 92) .no))) .no))) (Option L111_1) (pt111_1 p) (kOn rd111_1) = n111_1 p := by kernel_rfl
noncomputable def a111_1 : L111_1 → Option L111_1 := advG (n111_1)
structure L111_0 where
  t0 : List GVar
  t10 : List GVar
  t11 : Int
  t12 : Int
abbrev P111_0 : Type := ((List GVar) × (List GVar) × Int × Int × Unit) × (Unit)
noncomputable def rb111_0 : St → Option P111_0 := stR 0 (slC 0 (asL 91) (slC 10 (asL 91) (slC 11 (asI .i64) (slC 12 (asI .i64) slN)))) rsN
noncomputable def pb111_0 : P111_0 → St := stP 0 (fun z => [(0, .sl 91 z.1), (10, .sl 91 z.2.1), (11, .n .i64 z.2.2.1), (12, .n .i64 z.2.2.2.1)]) (fun z => [])
noncomputable def mk111_0 (z : P111_0) : L111_0 := ⟨z.1.1, z.1.2.1, z.1.2.2.1, z.1.2.2.2.1⟩
noncomputable def pt111_0 (x : L111_0) : St := pb111_0 ((x.t0, x.t10, x.t11, x.t12, ()), (()))
noncomputable def rd111_0 : St → Option L111_0 := rdC 0 [] [0, 10, 11, 12] (rdM mk111_0 rb111_0)
theorem rb111_0_ok (n : Nat) : RdOk 0 n rb111_0 pb111_0 := stR_ok (.cons (.l 91) (.cons (.l 91) (.cons (.i .i64) (.cons (.i .i64) .nil)))) .nil
theorem rd111_0_ok (n : Nat) : RdOk 0 n rd111_0 pt111_0 := rdC_ok ((rb111_0_ok n).m mk111_0 (pat' := pt111_0) fun _ => rfl)
noncomputable def n111_0 (p : L111_0) : Option (Option L111_0) :=
  bif decide (p.t12 < p.t11) then
    if (0 : Int) ≤ p.t12 ∧ p.t12 < (↑p.t10.length : Int) then
      match m161 p.t10[p.t12.toNat]!.fName with
      | none =>
        none
      | some r1 =>
        bif bif r1 then false else true then
          some (none)
        else
          if (0 : Int) ≤ p.t12 ∧ p.t12 ≤ (↑p.t0.length : Int) then
            match m162 (List.take p.t12.toNat p.t0) p.t10[p.t12.toNat]! with
            | none =>
              none
            | some r2 =>
              bif r2 then
                some (none)
              else
                match bif decide (p.t10[p.t12.toNat]!.fKind < 0) then
                  some (true)
                else
                  some (decide (3 < p.t10[p.t12.toNat]!.fKind)) with
                | none =>
                  none
                | some r3 =>
                  bif r3 then
                    some (none)
                  else
                    bif bif m163 p.t10[p.t12.toNat]!.fLow p.t10[p.t12.toNat]!.fHigh then false else true then
                      some (none)
                    else
                      match bif bif decide (p.t10[p.t12.toNat]!.fKind = 0) then false else true then
                        some (bif decide (p.t10[p.t12.toNat]!.fInit = 0) then false else true)
                      else
                        some (false) with
                      | none =>
                        none
                      | some r4 =>
                        bif r4 then
                          some (none)
                        else
                          match bif decide (p.t10[p.t12.toNat]!.fKind = 0) then
                            bif decide (p.t10[p.t12.toNat]!.fInit < p.t10[p.t12.toNat]!.fLow) then
                              some (true)
                            else
                              some (decide (p.t10[p.t12.toNat]!.fHigh < p.t10[p.t12.toNat]!.fInit))
                          else
                            some (false) with
                          | none =>
                            none
                          | some r5 =>
                            bif r5 then
                              some (none)
                            else
                              some (some (L111_0.mk p.t0 p.t10 p.t11 (IntKind.i64.wrap (p.t12 + 1))))
          else
            none
    else
      none
  else
    some (none)
theorem q111_0 (p : L111_0) : execA Tryz.prog (F111) Tryz.f111.ntmps 300 (loopAt Tryz.f111 0) (.two .no (.two .no (.two (.two .no (.two .no (.two .no (.two .no (.two .no (.two .no (.two (.rb [] 29) (.two .no (.two (.two .no (.two .no (.two (.rb [] 38) (.two .no (.rb [] 38))))) .no))))))))) .no))) (Option L111_0) (pt111_0 p) (kOn rd111_0) = n111_0 p := by kernel_rfl
noncomputable def a111_0 : L111_0 → Option L111_0 := advG (n111_0)
abbrev E111 : Type := Int
abbrev P111_e : Type := (Int × Unit) × (Unit)
noncomputable def rb111_e : St → Option P111_e := stR 0 (slC 2 (asI .i64) slN) rsN
noncomputable def pb111_e : P111_e → St := stP 0 (fun z => [(2, .n .i64 z.1)]) (fun z => [])
noncomputable def mk111_e (z : P111_e) : E111 := z.1.1
noncomputable def pt111_e (x : E111) : St := pb111_e ((x, ()), (()))
noncomputable def rd111_e : St → Option E111 := rdC 0 [] [2] (rdM mk111_e rb111_e)
theorem rb111_e_ok (n : Nat) : RdOk 0 n rb111_e pb111_e := stR_ok (.cons (.i .i64) .nil) .nil
theorem rd111_e_ok (n : Nat) : RdOk 0 n rd111_e pt111_e := rdC_ok ((rb111_e_ok n).m mk111_e (pat' := pt111_e) fun _ => rfl)
noncomputable def an111 : An := (.two .no (.two (.two .no (.lp L111_0 rd111_0 pt111_0 a111_0 (.two .no (.two .no (.two (.two .no (.two .no (.two .no (.two .no (.two .no (.two .no (.two (.rb [] 29) (.two .no (.two (.two .no (.two .no (.two (.rb [] 38) (.two .no (.rb [] 38))))) .no))))))))) .no))))) (.two (.two .no (.lp L111_1 rd111_1 pt111_1 a111_1 (.two .no (.two .no (.two (.two .no (.two .no (.two (.rb [] 92) .no))) .no))))) .no)))
theorem pu111  : ∀ f ∈ ([] : List Nat), PureF (F111) f := fun f hf => by
  cases hf
theorem fa111 : FnAn Tryz.prog (F111) 0 300 111 (an111) := fnAn_of (l := [(loopAt Tryz.f111 0, (.lp L111_0 rd111_0 pt111_0 a111_0 (.two .no (.two .no (.two (.two .no (.two .no (.two .no (.two .no (.two .no (.two .no (.two (.rb [] 29) (.two .no (.two (.two .no (.two .no (.two (.rb [] 38) (.two .no (.rb [] 38))))) .no))))))))) .no))))), (.skip, (.rb [] 29)), (.skip, (.rb [] 38)), (.skip, (.rb [] 38)), (loopAt Tryz.f111 1, (.lp L111_1 rd111_1 pt111_1 a111_1 (.two .no (.two .no (.two (.two .no (.two .no (.two (.rb [] 92) .no))) .no))))), (.skip, (.rb [] 92))]) Tryz.func111 (bodyOf_eq (by kernel_rfl)) (by kernel_rfl) fun p hp => by
  simp only [List.mem_cons, List.not_mem_nil, or_false] at hp
  rcases hp with rfl | rfl | rfl | rfl | rfl | rfl
  · exact ⟨rd111_0_ok _, advG_ok (q111_0)⟩
  · exact pu111
  · exact pu111
  · exact pu111
  · exact ⟨rd111_1_ok _, advG_ok (q111_1)⟩
  · exact pu111
noncomputable def m111 (a0 : List GVar) : Option E111 :=
  match a111_0 (L111_0.mk a0 a0 (↑a0.length : Int) (0)) with
  | none =>
    none
  | some r8 =>
    bif decide (r8.t12 < r8.t11) then
      if (0 : Int) ≤ r8.t12 ∧ r8.t12 < (↑r8.t10.length : Int) then
        match m161 r8.t10[r8.t12.toNat]!.fName with
        | none =>
          none
        | some r9 =>
          bif bif r9 then false else true then
            some (7)
          else
            if (0 : Int) ≤ r8.t12 ∧ r8.t12 ≤ (↑r8.t0.length : Int) then
              match m162 (List.take r8.t12.toNat r8.t0) r8.t10[r8.t12.toNat]! with
              | none =>
                none
              | some r10 =>
                bif r10 then
                  some (8)
                else
                  match bif decide (r8.t10[r8.t12.toNat]!.fKind < 0) then
                    some (true)
                  else
                    some (decide (3 < r8.t10[r8.t12.toNat]!.fKind)) with
                  | none =>
                    none
                  | some r11 =>
                    bif r11 then
                      some (1)
                    else
                      bif bif m163 r8.t10[r8.t12.toNat]!.fLow r8.t10[r8.t12.toNat]!.fHigh then false else true then
                        some (3)
                      else
                        match bif bif decide (r8.t10[r8.t12.toNat]!.fKind = 0) then false else true then
                          some (bif decide (r8.t10[r8.t12.toNat]!.fInit = 0) then false else true)
                        else
                          some (false) with
                        | none =>
                          none
                        | some r12 =>
                          bif r12 then
                            some (3)
                          else
                            match bif decide (r8.t10[r8.t12.toNat]!.fKind = 0) then
                              bif decide (r8.t10[r8.t12.toNat]!.fInit < r8.t10[r8.t12.toNat]!.fLow) then
                                some (true)
                              else
                                some (decide (r8.t10[r8.t12.toNat]!.fHigh < r8.t10[r8.t12.toNat]!.fInit))
                            else
                              some (false) with
                            | none =>
                              none
                            | some r13 =>
                              bif r13 then
                                some (3)
                              else
                                none
            else
              none
      else
        none
    else
      match a111_1 (L111_1.mk r8.t0 [1, 2, 3] (↑3 : Int) (0)) with
      | none =>
        none
      | some r14 =>
        bif decide (r14.t73 < r14.t72) then
          if (0 : Int) ≤ r14.t73 ∧ r14.t73 < (↑r14.t71.length : Int) then
            if 89 = 89 ∧ r14.t73.toNat < r14.t71.length then
              match m164 r14.t0 r14.t71[r14.t73.toNat]! with
              | none =>
                none
              | some r15 =>
                match bif bif decide (r15.snd = 0) then false else true then
                  some (true)
                else
                  bif decide (((r14.t0, (), r14.t72, r14.t73, ()), r14.t71, ()).snd.fst[((r14.t0, (), r14.t72, r14.t73, ()), r14.t71, ()).fst.snd.snd.snd.fst.toNat]! = 3) then
                    some (decide (256 < r15.fst))
                  else
                    some (false) with
                | none =>
                  none
                | some r16 =>
                  bif r16 then
                    some (4)
                  else
                    none
            else
              none
          else
            none
        else
          some (0)
theorem c111 (a0 : List GVar) : callR Tryz.prog (F111) 300 (an111) 111 [.sl 91 a0] [] 0 rd111_e = m111 a0 := by kernel_rfl
noncomputable def o111 (x : E111) : Out := match (match outOf Tryz.prog 111 (pt111_e x) with
    | some ds => some (Out.mk (resA ds) (keepR (pt111_e x).R 0 (resA ds)) (pt111_e x).nx)
    | none => none) with
  | some o => o
  | none => ⟨.tup [], [], 0⟩
theorem fn111 (a0 : List GVar) (r : E111) (h : m111 a0 = some r) : fnOk Tryz.prog 111 ∧ FnY Tryz.prog 111 [.sl 91 a0] [] 0 (o111 r) :=
  fnY_of (p := r) F111_ok (fa111) rd111_e_ok (fun p => by kernel_rfl) (ltd_of (by kernel_rfl)) (rltd_of (by kernel_rfl)) ((c111 a0).trans h)
theorem fnok111 : fnOk Tryz.prog 111 := ⟨_, Tryz.func111, by kernel_rfl, by kernel_rfl⟩
noncomputable def e111 (F : Orc) : Orc := orL 111 false (pkC (asL 91) pkN) (fun g => m111 g.1 : ((List GVar) × Unit) → Option E111) o111 F
theorem e111_ok {F : Orc} (h : OrcG Tryz.prog F) : OrcG Tryz.prog (e111 F) := orL_g (sc := scU) h scU_ok fnok111 (ca := fun g => [.sl 91 g.1]) ((.cons (.l 91) .nil) : PkN (pkC (asL 91) pkN) _) (fun b => by kernel_rfl) (fun b => by kernel_rfl) (fun g b hb => (fn111 g.1 b hb).2)
theorem e111_pure {F : Orc} {f : Nat} (h : PureF F f) : PureF (e111 F) f := orL_pure h (fun b => by kernel_rfl)
/-! ### 165: keyhole/flat.hatchesCode$1 -/
noncomputable def F165 : Orc := or0
theorem F165_ok : OrcG Tryz.prog F165 := or0_g
abbrev E165 : Type := Bool
abbrev P165_e : Type := (Bool × Unit) × (Unit)
noncomputable def rb165_e : St → Option P165_e := stR 0 (slC 3 asB slN) rsN
noncomputable def pb165_e : P165_e → St := stP 0 (fun z => [(3, .b z.1)]) (fun z => [])
noncomputable def mk165_e (z : P165_e) : E165 := z.1.1
noncomputable def pt165_e (x : E165) : St := pb165_e ((x, ()), (()))
noncomputable def rd165_e : St → Option E165 := rdC 0 [] [3] (rdM mk165_e rb165_e)
theorem rb165_e_ok (n : Nat) : RdOk 0 n rb165_e pb165_e := stR_ok (.cons .b .nil) .nil
theorem rd165_e_ok (n : Nat) : RdOk 0 n rd165_e pt165_e := rdC_ok ((rb165_e_ok n).m mk165_e (pat' := pt165_e) fun _ => rfl)
noncomputable def an165 : An := .no
theorem fa165 : FnAn Tryz.prog (F165) 0 300 165 (an165) := fnAn_of (l := []) Tryz.func165 (bodyOf_eq (by kernel_rfl)) (by kernel_rfl) fun p hp => by
  cases hp
noncomputable def m165 (a0 : Hatch) (c0 : Hatch) : E165 :=
  a0.fName.toList == c0.fName.toList
theorem c165 (a0 : Hatch) (c0 : Hatch) : callR Tryz.prog (F165) 300 (an165) 165 [.agg (uni.cells 99 a0), .fp (uni.cells 99 c0)] [] 0 rd165_e = some (m165 a0 c0) := by kernel_rfl
noncomputable def o165 (x : E165) : Out := match (match outOf Tryz.prog 165 (pt165_e x) with
    | some ds => some (Out.mk (resA ds) (keepR (pt165_e x).R 0 (resA ds)) (pt165_e x).nx)
    | none => none) with
  | some o => o
  | none => ⟨.tup [], [], 0⟩
theorem fn165 (a0 : Hatch) (c0 : Hatch) (r : E165) (h : m165 a0 c0 = r) : fnOk Tryz.prog 165 ∧ FnY Tryz.prog 165 [.agg (uni.cells 99 a0), .fp (uni.cells 99 c0)] [] 0 (o165 r) :=
  fnY_of (p := r) F165_ok (fa165) rd165_e_ok (fun p => by kernel_rfl) (ltd_of (by kernel_rfl)) (rltd_of (by kernel_rfl)) ((c165 a0 c0).trans (congrArg some h))
theorem fnok165 : fnOk Tryz.prog 165 := ⟨_, Tryz.func165, by kernel_rfl, by kernel_rfl⟩
noncomputable def e165 (F : Orc) : Orc := orL 165 false (pkC (asGc 99) (pkC (asFp (asCs 99)) pkN)) (fun g => some (m165 g.1 g.2.1) : (Hatch × Hatch × Unit) → Option E165) o165 F
theorem e165_ok {F : Orc} (h : OrcG Tryz.prog F) : OrcG Tryz.prog (e165 F) := orL_g (sc := scU) h scU_ok fnok165 (ca := fun g => [.agg (uni.cells 99 g.1), .fp (uni.cells 99 g.2.1)]) ((.cons (.g 99) (.cons (.fp (PkN.parse 99)) .nil)) : PkN (pkC (asGc 99) (pkC (asFp (asCs 99)) pkN)) _) (fun b => by kernel_rfl) (fun b => by kernel_rfl) (fun g b hb => (fn165 g.1 g.2.1 b (Option.some.inj hb)).2)
theorem e165_pure {F : Orc} {f : Nat} (h : PureF F f) : PureF (e165 F) f := orL_pure h (fun b => by kernel_rfl)
/-! ### 192: slices.IndexFunc[[]keyhole/api.Hatch,keyhole/api.Hatch] -/
noncomputable def F192 : Orc := (e165 or0)
theorem F192_ok : OrcG Tryz.prog F192 := (e165_ok or0_g)
structure L192_0 where
  t0 : List Hatch
  t1_0_0 : ByteArray
  t1_0_1 : Int
  t1_0_2 : Int
  t1_0_3 : Int
  t1_0_4 : Int
  t1_0_5 : List GTerm
  t7 : Int
  t8 : Int
abbrev P192_0 : Type := ((List Hatch) × ((((ByteArray × Int × Int × Int × Int × (List GTerm) × Unit)) × Unit)) × Int × Int × Unit) × (Unit)
noncomputable def rb192_0 : St → Option P192_0 := stR 0 (slC 0 (asL 99) (slC 1 (asFf 165 (pkC (asFp (pkC asS (pkC (asI .i64) (pkC (asI .i64) (pkC (asI .i64) (pkC (asI .i64) (pkC (asL 97) pkN))))))) pkN)) (slC 7 (asI .i64) (slC 8 (asI .i64) slN)))) rsN
noncomputable def pb192_0 : P192_0 → St := stP 0 (fun z => [(0, .sl 99 z.1), (1, .fn (.func 165) [.fp [.s z.2.1.1.1, .n .i64 z.2.1.1.2.1, .n .i64 z.2.1.1.2.2.1, .n .i64 z.2.1.1.2.2.2.1, .n .i64 z.2.1.1.2.2.2.2.1, .sl 97 z.2.1.1.2.2.2.2.2.1]]), (7, .n .i64 z.2.2.1), (8, .n .i64 z.2.2.2.1)]) (fun z => [])
noncomputable def mk192_0 (z : P192_0) : L192_0 := ⟨z.1.1, z.1.2.1.1.1, z.1.2.1.1.2.1, z.1.2.1.1.2.2.1, z.1.2.1.1.2.2.2.1, z.1.2.1.1.2.2.2.2.1, z.1.2.1.1.2.2.2.2.2.1, z.1.2.2.1, z.1.2.2.2.1⟩
noncomputable def pt192_0 (x : L192_0) : St := pb192_0 ((x.t0, ((x.t1_0_0, x.t1_0_1, x.t1_0_2, x.t1_0_3, x.t1_0_4, x.t1_0_5, ()), ()), x.t7, x.t8, ()), (()))
noncomputable def rd192_0 : St → Option L192_0 := rdC 0 [] [0, 1, 7, 8] (rdM mk192_0 rb192_0)
theorem rb192_0_ok (n : Nat) : RdOk 0 n rb192_0 pb192_0 := stR_ok (.cons (.l 99) (.cons (.ff 165 (.cons (.fp (.cons .s (.cons (.i .i64) (.cons (.i .i64) (.cons (.i .i64) (.cons (.i .i64) (.cons (.l 97) .nil))))))) .nil)) (.cons (.i .i64) (.cons (.i .i64) .nil)))) .nil
theorem rd192_0_ok (n : Nat) : RdOk 0 n rd192_0 pt192_0 := rdC_ok ((rb192_0_ok n).m mk192_0 (pat' := pt192_0) fun _ => rfl)
noncomputable def n192_0 (p : L192_0) : Option (Option L192_0) :=
  bif decide (p.t8 < p.t7) then
    if (0 : Int) ≤ p.t8 ∧ p.t8 < (↑p.t0.length : Int) then
      bif m165 (Hatch.mk p.t0[p.t8.toNat]!.fName p.t0[p.t8.toNat]!.fLow p.t0[p.t8.toNat]!.fHigh (GTerm.mk p.t0[p.t8.toNat]!.fTerm.fOp p.t0[p.t8.toNat]!.fTerm.fN p.t0[p.t8.toNat]!.fTerm.fKids)) (Hatch.mk p.t1_0_0 p.t1_0_1 p.t1_0_2 (GTerm.mk p.t1_0_3 p.t1_0_4 p.t1_0_5)) then
        some (none)
      else
        some (some (L192_0.mk p.t0 p.t1_0_0 p.t1_0_1 p.t1_0_2 p.t1_0_3 p.t1_0_4 p.t1_0_5 p.t7 (IntKind.i64.wrap (p.t8 + 1))))
    else
      none
  else
    some (none)
theorem q192_0 (p : L192_0) : execA Tryz.prog (F192) Tryz.f192.ntmps 300 (loopAt Tryz.f192 0) .no (Option L192_0) (pt192_0 p) (kOn rd192_0) = n192_0 p := by kernel_rfl
noncomputable def a192_0 : L192_0 → Option L192_0 := advG (n192_0)
abbrev E192 : Type := Int
abbrev P192_e : Type := (Int × Unit) × (Unit)
noncomputable def rb192_e : St → Option P192_e := stR 0 (slC 4 (asI .i64) slN) rsN
noncomputable def pb192_e : P192_e → St := stP 0 (fun z => [(4, .n .i64 z.1)]) (fun z => [])
noncomputable def mk192_e (z : P192_e) : E192 := z.1.1
noncomputable def pt192_e (x : E192) : St := pb192_e ((x, ()), (()))
noncomputable def rd192_e : St → Option E192 := rdC 0 [] [4] (rdM mk192_e rb192_e)
theorem rb192_e_ok (n : Nat) : RdOk 0 n rb192_e pb192_e := stR_ok (.cons (.i .i64) .nil) .nil
theorem rd192_e_ok (n : Nat) : RdOk 0 n rd192_e pt192_e := rdC_ok ((rb192_e_ok n).m mk192_e (pat' := pt192_e) fun _ => rfl)
noncomputable def an192 : An := (.two .no (.two (.two .no (.lp L192_0 rd192_0 pt192_0 a192_0 .no)) .no))
theorem fa192 : FnAn Tryz.prog (F192) 0 300 192 (an192) := fnAn_of (l := [(loopAt Tryz.f192 0, (.lp L192_0 rd192_0 pt192_0 a192_0 .no))]) Tryz.func192 (bodyOf_eq (by kernel_rfl)) (by kernel_rfl) fun p hp => by
  simp only [List.mem_cons, List.not_mem_nil, or_false] at hp
  rcases hp with rfl
  · exact ⟨rd192_0_ok _, advG_ok (q192_0)⟩
noncomputable def m192 (a0 : List Hatch) (a1_0 : Hatch) : Option E192 :=
  match a192_0 (L192_0.mk a0 a1_0.fName a1_0.fLow a1_0.fHigh a1_0.fTerm.fOp a1_0.fTerm.fN a1_0.fTerm.fKids (↑a0.length : Int) (0)) with
  | none =>
    none
  | some r1 =>
    bif decide (r1.t8 < r1.t7) then
      if (0 : Int) ≤ r1.t8 ∧ r1.t8 < (↑r1.t0.length : Int) then
        bif m165 (Hatch.mk r1.t0[r1.t8.toNat]!.fName r1.t0[r1.t8.toNat]!.fLow r1.t0[r1.t8.toNat]!.fHigh (GTerm.mk r1.t0[r1.t8.toNat]!.fTerm.fOp r1.t0[r1.t8.toNat]!.fTerm.fN r1.t0[r1.t8.toNat]!.fTerm.fKids)) (Hatch.mk r1.t1_0_0 r1.t1_0_1 r1.t1_0_2 (GTerm.mk r1.t1_0_3 r1.t1_0_4 r1.t1_0_5)) then
          some (r1.t8)
        else
          none
      else
        none
    else
      some (-1)
theorem c192 (a0 : List Hatch) (a1_0 : Hatch) : callR Tryz.prog (F192) 300 (an192) 192 [.sl 99 a0, .fn (.func 165) [.fp (uni.cells 99 a1_0)]] [] 0 rd192_e = m192 a0 a1_0 := by kernel_rfl
noncomputable def o192 (x : E192) : Out := match (match outOf Tryz.prog 192 (pt192_e x) with
    | some ds => some (Out.mk (resA ds) (keepR (pt192_e x).R 0 (resA ds)) (pt192_e x).nx)
    | none => none) with
  | some o => o
  | none => ⟨.tup [], [], 0⟩
theorem fn192 (a0 : List Hatch) (a1_0 : Hatch) (r : E192) (h : m192 a0 a1_0 = some r) : fnOk Tryz.prog 192 ∧ FnY Tryz.prog 192 [.sl 99 a0, .fn (.func 165) [.fp (uni.cells 99 a1_0)]] [] 0 (o192 r) :=
  fnY_of (p := r) F192_ok (fa192) rd192_e_ok (fun p => by kernel_rfl) (ltd_of (by kernel_rfl)) (rltd_of (by kernel_rfl)) ((c192 a0 a1_0).trans h)
theorem fnok192 : fnOk Tryz.prog 192 := ⟨_, Tryz.func192, by kernel_rfl, by kernel_rfl⟩
noncomputable def e192 (F : Orc) : Orc := orL 192 true (pkC (asL 99) (pkC (asFf 165 (pkC (asFp (asCs 99)) pkN)) pkN)) (fun g => m192 g.1 g.2.1.1 : ((List Hatch) × ((Hatch × Unit)) × Unit) → Option E192) o192 F
theorem e192_ok {F : Orc} (h : OrcG Tryz.prog F) : OrcG Tryz.prog (e192 F) := orL_g (sc := scU) h scU_ok fnok192 (ca := fun g => [.sl 99 g.1, .fn (.func 165) [.fp (uni.cells 99 g.2.1.1)]]) ((.cons (.l 99) (.cons (.ff 165 (.cons (.fp (PkN.parse 99)) .nil)) .nil)) : PkN (pkC (asL 99) (pkC (asFf 165 (pkC (asFp (asCs 99)) pkN)) pkN)) _) (fun b => by kernel_rfl) (fun b => by kernel_rfl) (fun g b hb => (fn192 g.1 g.2.1.1 b hb).2)
theorem e192_pure {F : Orc} {f : Nat} (h : PureF F f) : PureF (e192 F) f := orL_pure h (fun b => by kernel_rfl)
/-! ### 166: slices.ContainsFunc[[]keyhole/api.Hatch,keyhole/api.Hatch] -/
noncomputable def F166 : Orc := (e192 (e165 or0))
theorem F166_ok : OrcG Tryz.prog F166 := (e192_ok (e165_ok or0_g))
abbrev E166 : Type := Bool
abbrev P166_e : Type := (Bool × Unit) × (Unit)
noncomputable def rb166_e : St → Option P166_e := stR 0 (slC 4 asB slN) rsN
noncomputable def pb166_e : P166_e → St := stP 0 (fun z => [(4, .b z.1)]) (fun z => [])
noncomputable def mk166_e (z : P166_e) : E166 := z.1.1
noncomputable def pt166_e (x : E166) : St := pb166_e ((x, ()), (()))
noncomputable def rd166_e : St → Option E166 := rdC 0 [] [4] (rdM mk166_e rb166_e)
theorem rb166_e_ok (n : Nat) : RdOk 0 n rb166_e pb166_e := stR_ok (.cons .b .nil) .nil
theorem rd166_e_ok (n : Nat) : RdOk 0 n rd166_e pt166_e := rdC_ok ((rb166_e_ok n).m mk166_e (pat' := pt166_e) fun _ => rfl)
noncomputable def an166 : An := .no
theorem fa166 : FnAn Tryz.prog (F166) 0 300 166 (an166) := fnAn_of (l := []) Tryz.func166 (bodyOf_eq (by kernel_rfl)) (by kernel_rfl) fun p hp => by
  cases hp
noncomputable def m166 (a0 : List Hatch) (a1_0 : Hatch) : Option E166 :=
  match m192 a0 (Hatch.mk a1_0.fName a1_0.fLow a1_0.fHigh (GTerm.mk a1_0.fTerm.fOp a1_0.fTerm.fN a1_0.fTerm.fKids)) with
  | none =>
    none
  | some r1 =>
    some (decide (0 ≤ r1))
theorem c166 (a0 : List Hatch) (a1_0 : Hatch) : callR Tryz.prog (F166) 300 (an166) 166 [.sl 99 a0, .fn (.func 165) [.fp (uni.cells 99 a1_0)]] [] 0 rd166_e = m166 a0 a1_0 := by kernel_rfl
noncomputable def o166 (x : E166) : Out := match (match outOf Tryz.prog 166 (pt166_e x) with
    | some ds => some (Out.mk (resA ds) (keepR (pt166_e x).R 0 (resA ds)) (pt166_e x).nx)
    | none => none) with
  | some o => o
  | none => ⟨.tup [], [], 0⟩
theorem fn166 (a0 : List Hatch) (a1_0 : Hatch) (r : E166) (h : m166 a0 a1_0 = some r) : fnOk Tryz.prog 166 ∧ FnY Tryz.prog 166 [.sl 99 a0, .fn (.func 165) [.fp (uni.cells 99 a1_0)]] [] 0 (o166 r) :=
  fnY_of (p := r) F166_ok (fa166) rd166_e_ok (fun p => by kernel_rfl) (ltd_of (by kernel_rfl)) (rltd_of (by kernel_rfl)) ((c166 a0 a1_0).trans h)
theorem fnok166 : fnOk Tryz.prog 166 := ⟨_, Tryz.func166, by kernel_rfl, by kernel_rfl⟩
noncomputable def e166 (F : Orc) : Orc := orL 166 true (pkC (asL 99) (pkC (asFf 165 (pkC (asFp (asCs 99)) pkN)) pkN)) (fun g => m166 g.1 g.2.1.1 : ((List Hatch) × ((Hatch × Unit)) × Unit) → Option E166) o166 F
theorem e166_ok {F : Orc} (h : OrcG Tryz.prog F) : OrcG Tryz.prog (e166 F) := orL_g (sc := scU) h scU_ok fnok166 (ca := fun g => [.sl 99 g.1, .fn (.func 165) [.fp (uni.cells 99 g.2.1.1)]]) ((.cons (.l 99) (.cons (.ff 165 (.cons (.fp (PkN.parse 99)) .nil)) .nil)) : PkN (pkC (asL 99) (pkC (asFf 165 (pkC (asFp (asCs 99)) pkN)) pkN)) _) (fun b => by kernel_rfl) (fun b => by kernel_rfl) (fun g b hb => (fn166 g.1 g.2.1.1 b hb).2)
theorem e166_pure {F : Orc} {f : Nat} (h : PureF F f) : PureF (e166 F) f := orL_pure h (fun b => by kernel_rfl)
/-! ### 218: keyhole/flat.kids -/
noncomputable def F218 : Orc := or0
theorem F218_ok : OrcG Tryz.prog F218 := or0_g
abbrev E218 : Type := Int × Int
abbrev P218_e : Type := (Int × Int × Unit) × (Unit)
noncomputable def rb218_e : St → Option P218_e := stR 0 (slC 2 (asI .i64) (slC 3 (asI .i64) slN)) rsN
noncomputable def pb218_e : P218_e → St := stP 0 (fun z => [(2, .n .i64 z.1), (3, .n .i64 z.2.1)]) (fun z => [])
noncomputable def mk218_e (z : P218_e) : E218 := (z.1.1, z.1.2.1)
noncomputable def pt218_e (x : E218) : St := pb218_e ((x.1, x.2, ()), (()))
noncomputable def rd218_e : St → Option E218 := rdC 0 [] [2, 3] (rdM mk218_e rb218_e)
theorem rb218_e_ok (n : Nat) : RdOk 0 n rb218_e pb218_e := stR_ok (.cons (.i .i64) (.cons (.i .i64) .nil)) .nil
theorem rd218_e_ok (n : Nat) : RdOk 0 n rd218_e pt218_e := rdC_ok ((rb218_e_ok n).m mk218_e (pat' := pt218_e) fun _ => rfl)
noncomputable def an218 : An := (.two .no (.two (.two (.rb [] 4) (.two .no (.two (.rb [] 11) (.two .no (.two (.rb [] 18) .no))))) .no))
theorem pu218  : ∀ f ∈ ([] : List Nat), PureF (F218) f := fun f hf => by
  cases hf
theorem fa218 : FnAn Tryz.prog (F218) 0 300 218 (an218) := fnAn_of (l := [(.skip, (.rb [] 4)), (.skip, (.rb [] 11)), (.skip, (.rb [] 18))]) Tryz.func218 (bodyOf_eq (by kernel_rfl)) (by kernel_rfl) fun p hp => by
  simp only [List.mem_cons, List.not_mem_nil, or_false] at hp
  rcases hp with rfl | rfl | rfl
  · exact pu218
  · exact pu218
  · exact pu218
noncomputable def m218 (a0 : Int) : E218 :=
  let r1 : Bool := bif decide (a0 = 0) then
    true
  else
    decide (a0 = 24)
  bif r1 then
    (0, 0)
  else
    let r2 : Bool := bif decide (a0 = 6) then
      true
    else
      decide (a0 = 7)
    bif r2 then
      (1, 1)
    else
      let r3 : Bool := bif decide (8 ≤ a0) then
        decide (a0 ≤ 22)
      else
        false
      bif r3 then
        (2, 2)
      else
        bif decide (a0 = 23) then
          (3, 3)
        else
          bif decide (a0 = 25) then
            (2, 33)
          else
            (-1, -1)
theorem c218 (a0 : Int) : callR Tryz.prog (F218) 300 (an218) 218 [.n .i64 a0] [] 0 rd218_e = some (m218 a0) := by
  refine Eq.trans (b := (
    match bif decide (a0 = 0) then
      some (true)
    else
      some (decide (a0 = 24)) with
    | none =>
      none
    | some r1 =>
      bif r1 then
        some ((0, 0))
      else
        match bif decide (a0 = 6) then
          some (true)
        else
          some (decide (a0 = 7)) with
        | none =>
          none
        | some r2 =>
          bif r2 then
            some ((1, 1))
          else
            match bif decide (8 ≤ a0) then
              some (decide (a0 ≤ 22))
            else
              some (false) with
            | none =>
              none
            | some r3 =>
              bif r3 then
                some ((2, 2))
              else
                bif decide (a0 = 23) then
                  some ((3, 3))
                else
                  bif decide (a0 = 25) then
                    some ((2, 33))
                  else
                    some ((-1, -1)) : Option E218)) (by kernel_rfl) ?_
  simp only [m218, cond_some, ite_some]
noncomputable def o218 (x : E218) : Out := match (match outOf Tryz.prog 218 (pt218_e x) with
    | some ds => some (Out.mk (resA ds) (keepR (pt218_e x).R 0 (resA ds)) (pt218_e x).nx)
    | none => none) with
  | some o => o
  | none => ⟨.tup [], [], 0⟩
theorem fn218 (a0 : Int) (r : E218) (h : m218 a0 = r) : fnOk Tryz.prog 218 ∧ FnY Tryz.prog 218 [.n .i64 a0] [] 0 (o218 r) :=
  fnY_of (p := r) F218_ok (fa218) rd218_e_ok (fun p => by kernel_rfl) (ltd_of (by kernel_rfl)) (rltd_of (by kernel_rfl)) ((c218 a0).trans (congrArg some h))
theorem fnok218 : fnOk Tryz.prog 218 := ⟨_, Tryz.func218, by kernel_rfl, by kernel_rfl⟩
noncomputable def e218 (F : Orc) : Orc := orL 218 false (pkC (asI .i64) pkN) (fun g => some (m218 g.1) : (Int × Unit) → Option E218) o218 F
theorem e218_ok {F : Orc} (h : OrcG Tryz.prog F) : OrcG Tryz.prog (e218 F) := orL_g (sc := scU) h scU_ok fnok218 (ca := fun g => [.n .i64 g.1]) ((.cons (.i .i64) .nil) : PkN (pkC (asI .i64) pkN) _) (fun b => by kernel_rfl) (fun b => by kernel_rfl) (fun g b hb => (fn218 g.1 b (Option.some.inj hb)).2)
theorem e218_pure {F : Orc} {f : Nat} (h : PureF F f) : PureF (e218 F) f := orL_pure h (fun b => by kernel_rfl)
/-! ### 193: keyhole/flat.formed -/
abbrev E193 : Type := Bool
abbrev P193_e : Type := (Bool × Unit) × (Unit)
noncomputable def rb193_e : St → Option P193_e := stR 0 (slC 6 asB slN) rsN
noncomputable def pb193_e : P193_e → St := stP 0 (fun z => [(6, .b z.1)]) (fun z => [])
noncomputable def mk193_e (z : P193_e) : E193 := z.1.1
noncomputable def pt193_e (x : E193) : St := pb193_e ((x, ()), (()))
noncomputable def rd193_e : St → Option E193 := rdC 0 [] [6] (rdM mk193_e rb193_e)
theorem rb193_e_ok (n : Nat) : RdOk 0 n rb193_e pb193_e := stR_ok (.cons .b .nil) .nil
theorem rd193_e_ok (n : Nat) : RdOk 0 n rd193_e pt193_e := rdC_ok ((rb193_e_ok n).m mk193_e (pat' := pt193_e) fun _ => rfl)
noncomputable def o193 (x : E193) : Out := match (match outOf Tryz.prog 193 (pt193_e x) with
    | some ds => some (Out.mk (resA ds) (keepR (pt193_e x).R 0 (resA ds)) (pt193_e x).nx)
    | none => none) with
  | some o => o
  | none => ⟨.tup [], [], 0⟩
theorem fnok193 : fnOk Tryz.prog 193 := ⟨_, Tryz.func193, by kernel_rfl, by kernel_rfl⟩
noncomputable def x193 (M193 : (List GVar) → GTerm → Bool → Option E193) (F : Orc) : Orc := orL 193 false (pkC (asL 91) (pkC (asGc 97) (pkC asB pkN))) (fun g => M193 g.1 g.2.1 g.2.2.1 : ((List GVar) × GTerm × Bool × Unit) → Option E193) o193 F
theorem x193_pure {M : (List GVar) → GTerm → Bool → Option E193} {F : Orc} {f : Nat} (h : PureF F f) : PureF (x193 M F) f := orL_pure h (fun b => by kernel_rfl)
def H193 (M : (List GVar) → GTerm → Bool → Option E193) : Prop := ∀ (a0 : List GVar) (a1 : GTerm) (a2 : Bool) (r : E193), M a0 a1 a2 = some r → FnY Tryz.prog 193 [.sl 91 a0, .agg (uni.cells 97 a1), .b a2] [] 0 (o193 r)
theorem x193_ok {M : (List GVar) → GTerm → Bool → Option E193} (hM : H193 M) {F : Orc} (h : OrcG Tryz.prog F) : OrcG Tryz.prog (x193 M F) := orL_g (sc := scU) h scU_ok fnok193 (ca := fun g => [.sl 91 g.1, .agg (uni.cells 97 g.2.1), .b g.2.2.1]) ((.cons (.l 91) (.cons (.g 97) (.cons .b .nil))) : PkN (pkC (asL 91) (pkC (asGc 97) (pkC asB pkN))) _) (fun b => by kernel_rfl) (fun b => by kernel_rfl) (fun g b hb => hM g.1 g.2.1 g.2.2.1 b hb)
noncomputable def F193 (M193 : (List GVar) → GTerm → Bool → Option E193) : Orc := (e218 (x193 M193 or0))
theorem F193_ok {M193} (h193 : H193 M193) : OrcG Tryz.prog (F193 M193) := (e218_ok (x193_ok h193 or0_g))
structure L193_0 where
  t0 : List GVar
  t2 : Bool
  t65 : List GTerm
  t66 : Int
  t67 : Int
abbrev P193_0 : Type := ((List GVar) × Bool × (List GTerm) × Int × Int × Unit) × (Unit)
noncomputable def rb193_0 : St → Option P193_0 := stR 0 (slC 0 (asL 91) (slC 2 asB (slC 65 (asL 97) (slC 66 (asI .i64) (slC 67 (asI .i64) slN))))) rsN
noncomputable def pb193_0 : P193_0 → St := stP 0 (fun z => [(0, .sl 91 z.1), (2, .b z.2.1), (65, .sl 97 z.2.2.1), (66, .n .i64 z.2.2.2.1), (67, .n .i64 z.2.2.2.2.1)]) (fun z => [])
noncomputable def mk193_0 (z : P193_0) : L193_0 := ⟨z.1.1, z.1.2.1, z.1.2.2.1, z.1.2.2.2.1, z.1.2.2.2.2.1⟩
noncomputable def pt193_0 (x : L193_0) : St := pb193_0 ((x.t0, x.t2, x.t65, x.t66, x.t67, ()), (()))
noncomputable def rd193_0 : St → Option L193_0 := rdC 0 [] [0, 2, 65, 66, 67] (rdM mk193_0 rb193_0)
theorem rb193_0_ok (n : Nat) : RdOk 0 n rb193_0 pb193_0 := stR_ok (.cons (.l 91) (.cons .b (.cons (.l 97) (.cons (.i .i64) (.cons (.i .i64) .nil))))) .nil
theorem rd193_0_ok (n : Nat) : RdOk 0 n rd193_0 pt193_0 := rdC_ok ((rb193_0_ok n).m mk193_0 (pat' := pt193_0) fun _ => rfl)
noncomputable def n193_0 (M193 : (List GVar) → GTerm → Bool → Option E193) (p : L193_0) : Option (Option L193_0) :=
  bif decide (p.t67 < p.t66) then
    if (0 : Int) ≤ p.t67 ∧ p.t67 < (↑p.t65.length : Int) then
      match M193 p.t0 (GTerm.mk p.t65[p.t67.toNat]!.fOp p.t65[p.t67.toNat]!.fN p.t65[p.t67.toNat]!.fKids) p.t2 with
      | none =>
        none
      | some r1 =>
        bif bif r1 then false else true then
          some (none)
        else
          some (some (L193_0.mk p.t0 p.t2 p.t65 p.t66 (IntKind.i64.wrap (p.t67 + 1))))
    else
      none
  else
    some (none)
theorem q193_0 (M193 : (List GVar) → GTerm → Bool → Option E193) (p : L193_0) : execA Tryz.prog (F193 M193) Tryz.f193.ntmps 300 (loopAt Tryz.f193 0) .no (Option L193_0) (pt193_0 p) (kOn rd193_0) = n193_0 M193 p := by kernel_rfl
noncomputable def a193_0 (M193 : (List GVar) → GTerm → Bool → Option E193) : L193_0 → Option L193_0 := advG (n193_0 M193)
noncomputable def an193 (M193 : (List GVar) → GTerm → Bool → Option E193) : An := (.two .no (.two .no (.two (.two (.rb [] 32) .no) (.two (.two .no (.two .no (.two .no (.two .no (.two (.two (.rb [] 63) .no) .no))))) (.two (.two .no (.lp L193_0 rd193_0 pt193_0 (a193_0 M193) .no)) .no)))))
theorem pu193 {M193} : ∀ f ∈ ([] : List Nat), PureF (F193 M193) f := fun f hf => by
  cases hf
theorem fa193 (M193 : (List GVar) → GTerm → Bool → Option E193) : FnAn Tryz.prog (F193 M193) 0 300 193 (an193 M193) := fnAn_of (l := [(.skip, (.rb [] 32)), (.skip, (.rb [] 63)), (loopAt Tryz.f193 0, (.lp L193_0 rd193_0 pt193_0 (a193_0 M193) .no))]) Tryz.func193 (bodyOf_eq (by kernel_rfl)) (by kernel_rfl) fun p hp => by
  simp only [List.mem_cons, List.not_mem_nil, or_false] at hp
  rcases hp with rfl | rfl | rfl
  · exact pu193
  · exact pu193
  · exact ⟨rd193_0_ok _, advG_ok (q193_0 M193)⟩
noncomputable def s193 (M193 : (List GVar) → GTerm → Bool → Option E193) (a0 : List GVar) (a1 : GTerm) (a2 : Bool) : Option E193 :=
  match bif decide ((m218 a1.fOp).fst < 0) then
    some (true)
  else
    bif decide ((↑a1.fKids.length : Int) < (m218 a1.fOp).fst) then
      some (true)
    else
      some (decide ((m218 a1.fOp).snd < (↑a1.fKids.length : Int))) with
  | none =>
    none
  | some r2 =>
    bif r2 then
      some (false)
    else
      bif decide (a1.fOp = 0) then
        match a193_0 M193 (L193_0.mk a0 a2 a1.fKids (↑a1.fKids.length : Int) (0)) with
        | none =>
          none
        | some r3 =>
          bif decide (r3.t67 < r3.t66) then
            if (0 : Int) ≤ r3.t67 ∧ r3.t67 < (↑r3.t65.length : Int) then
              match M193 r3.t0 (GTerm.mk r3.t65[r3.t67.toNat]!.fOp r3.t65[r3.t67.toNat]!.fN r3.t65[r3.t67.toNat]!.fKids) r3.t2 with
              | none =>
                none
              | some r4 =>
                bif bif r4 then false else true then
                  some (false)
                else
                  none
            else
              none
          else
            some (true)
      else
        bif decide (a1.fOp = 24) then
          match bif decide (a1.fN < 0) then
            some (true)
          else
            bif decide ((↑a0.length : Int) ≤ a1.fN) then
              some (true)
            else
              bif a2 then
                if (0 : Int) ≤ a1.fN ∧ a1.fN < (↑a0.length : Int) then
                  some (decide (a0[a1.fN.toNat]!.fKind = 0))
                else
                  none
              else
                some (false) with
          | none =>
            none
          | some r5 =>
            bif r5 then
              some (false)
            else
              match a193_0 M193 (L193_0.mk a0 a2 a1.fKids (↑a1.fKids.length : Int) (0)) with
              | none =>
                none
              | some r6 =>
                bif decide (r6.t67 < r6.t66) then
                  if (0 : Int) ≤ r6.t67 ∧ r6.t67 < (↑r6.t65.length : Int) then
                    match M193 r6.t0 (GTerm.mk r6.t65[r6.t67.toNat]!.fOp r6.t65[r6.t67.toNat]!.fN r6.t65[r6.t67.toNat]!.fKids) r6.t2 with
                    | none =>
                      none
                    | some r7 =>
                      bif bif r7 then false else true then
                        some (false)
                      else
                        none
                  else
                    none
                else
                  some (true)
        else
          bif bif decide (a1.fN = 0) then false else true then
            some (false)
          else
            match a193_0 M193 (L193_0.mk a0 a2 a1.fKids (↑a1.fKids.length : Int) (0)) with
            | none =>
              none
            | some r8 =>
              bif decide (r8.t67 < r8.t66) then
                if (0 : Int) ≤ r8.t67 ∧ r8.t67 < (↑r8.t65.length : Int) then
                  match M193 r8.t0 (GTerm.mk r8.t65[r8.t67.toNat]!.fOp r8.t65[r8.t67.toNat]!.fN r8.t65[r8.t67.toNat]!.fKids) r8.t2 with
                  | none =>
                    none
                  | some r9 =>
                    bif bif r9 then false else true then
                      some (false)
                    else
                      none
                else
                  none
              else
                some (true)
theorem c193 (M193 : (List GVar) → GTerm → Bool → Option E193) (a0 : List GVar) (a1 : GTerm) (a2 : Bool) : callR Tryz.prog (F193 M193) 300 (an193 M193) 193 [.sl 91 a0, .agg (uni.cells 97 a1), .b a2] [] 0 rd193_e = s193 M193 a0 a1 a2 := by kernel_rfl
noncomputable def mm193 : Nat → ((List GVar) → GTerm → Bool → Option E193)
  | 0 => (fun _ _ _ => none)
  | n + 1 => (s193 (mm193 n))
noncomputable def m193 (n : Nat) : (List GVar) → GTerm → Bool → Option E193 := (mm193 n)
theorem mm193_ok : ∀ n, H193 (m193 n)
  | 0 => fun _ _ _ _ h => by cases h
  | n + 1 => by
    have ih := mm193_ok n
    have i193 := ih
    exact fun a0 a1 a2 r h => (fnY_of (p := r) (F193_ok i193) (fa193 (m193 n)) rd193_e_ok (fun p => by kernel_rfl) (ltd_of (by kernel_rfl)) (rltd_of (by kernel_rfl)) ((c193 (m193 n) a0 a1 a2).trans h)).2
noncomputable def r193 : (List GVar) → GTerm → Bool → Option E193 := fun a0 a1 a2 => lim (fun n => m193 n a0 a1 a2)
theorem r193_ok : H193 r193 := fun a0 a1 a2 r h => by
  obtain ⟨n, hn⟩ := lim_some h
  exact (mm193_ok n) a0 a1 a2 r hn
noncomputable def e193 (F : Orc) : Orc := x193 r193 F
theorem e193_ok {F : Orc} (h : OrcG Tryz.prog F) : OrcG Tryz.prog (e193 F) := x193_ok r193_ok h
theorem e193_pure {F : Orc} {f : Nat} (h : PureF F f) : PureF (e193 F) f := x193_pure h
/-! ### 229: keyhole/flat.rule$1 -/
noncomputable def F229 : Orc := or0
theorem F229_ok : OrcG Tryz.prog F229 := or0_g
abbrev E229 : Type := Int
abbrev P229_e : Type := (Int × Unit) × (Unit)
noncomputable def rb229_e : St → Option P229_e := stR 0 (slC 4 (asI .i64) slN) rsN
noncomputable def pb229_e : P229_e → St := stP 0 (fun z => [(4, .n .i64 z.1)]) (fun z => [])
noncomputable def mk229_e (z : P229_e) : E229 := z.1.1
noncomputable def pt229_e (x : E229) : St := pb229_e ((x, ()), (()))
noncomputable def rd229_e : St → Option E229 := rdC 0 [] [4] (rdM mk229_e rb229_e)
theorem rb229_e_ok (n : Nat) : RdOk 0 n rb229_e pb229_e := stR_ok (.cons (.i .i64) .nil) .nil
theorem rd229_e_ok (n : Nat) : RdOk 0 n rd229_e pt229_e := rdC_ok ((rb229_e_ok n).m mk229_e (pat' := pt229_e) fun _ => rfl)
noncomputable def an229 : An := .no
theorem fa229 : FnAn Tryz.prog (F229) 0 300 229 (an229) := fnAn_of (l := []) Tryz.func229 (bodyOf_eq (by kernel_rfl)) (by kernel_rfl) fun p hp => by
  cases hp
noncomputable def m229 (a0 : Int) (a1 : Int) : E229 :=
  IntKind.i64.wrap (a0 * a1)
theorem c229 (a0 : Int) (a1 : Int) : callR Tryz.prog (F229) 300 (an229) 229 [.n .i64 a0, .n .i64 a1] [] 0 rd229_e = some (m229 a0 a1) := by kernel_rfl
noncomputable def o229 (x : E229) : Out := match (match outOf Tryz.prog 229 (pt229_e x) with
    | some ds => some (Out.mk (resA ds) (keepR (pt229_e x).R 0 (resA ds)) (pt229_e x).nx)
    | none => none) with
  | some o => o
  | none => ⟨.tup [], [], 0⟩
theorem fn229 (a0 : Int) (a1 : Int) (r : E229) (h : m229 a0 a1 = r) : fnOk Tryz.prog 229 ∧ FnY Tryz.prog 229 [.n .i64 a0, .n .i64 a1] [] 0 (o229 r) :=
  fnY_of (p := r) F229_ok (fa229) rd229_e_ok (fun p => by kernel_rfl) (ltd_of (by kernel_rfl)) (rltd_of (by kernel_rfl)) ((c229 a0 a1).trans (congrArg some h))
theorem fnok229 : fnOk Tryz.prog 229 := ⟨_, Tryz.func229, by kernel_rfl, by kernel_rfl⟩
noncomputable def e229 (F : Orc) : Orc := orL 229 false (pkC (asI .i64) (pkC (asI .i64) pkN)) (fun g => some (m229 g.1 g.2.1) : (Int × Int × Unit) → Option E229) o229 F
theorem e229_ok {F : Orc} (h : OrcG Tryz.prog F) : OrcG Tryz.prog (e229 F) := orL_g (sc := scU) h scU_ok fnok229 (ca := fun g => [.n .i64 g.1, .n .i64 g.2.1]) ((.cons (.i .i64) (.cons (.i .i64) .nil)) : PkN (pkC (asI .i64) (pkC (asI .i64) pkN)) _) (fun b => by kernel_rfl) (fun b => by kernel_rfl) (fun g b hb => (fn229 g.1 g.2.1 b (Option.some.inj hb)).2)
theorem e229_pure {F : Orc} {f : Nat} (h : PureF F f) : PureF (e229 F) f := orL_pure h (fun b => by kernel_rfl)
/-! ### 230: (keyhole/flat.span).hull -/
noncomputable def F230 : Orc := or0
theorem F230_ok : OrcG Tryz.prog F230 := or0_g
abbrev E230 : Type := Span
abbrev P230_e : Type := (Unit × Unit) × (Span × Unit)
noncomputable def rb230_e : St → Option P230_e := stR 1 (slC 4 (asP 0 0) slN) (rsN2 0 218 (asCs 218) rsN)
noncomputable def pb230_e : P230_e → St := stP 1 (fun z => [(4, .ptr 0 0)]) (fun z => [(0, .box 218 (uni.cells 218 z.1))])
noncomputable def mk230_e (z : P230_e) : E230 := z.2.1
noncomputable def pt230_e (x : E230) : St := pb230_e (((), ()), (x, ()))
noncomputable def rd230_e : St → Option E230 := rdC 0 [] [4] (rdM mk230_e rb230_e)
theorem rb230_e_ok (n : Nat) : RdOk 0 n rb230_e pb230_e := stR_ok (.cons (.p 0 0) .nil) (.boxN (PkN.parse 218) .nil)
theorem rd230_e_ok (n : Nat) : RdOk 0 n rd230_e pt230_e := rdC_ok ((rb230_e_ok n).m mk230_e (pat' := pt230_e) fun _ => rfl)
noncomputable def an230 : An := .no
theorem fa230 : FnAn Tryz.prog (F230) 0 300 230 (an230) := fnAn_of (l := []) Tryz.func230 (bodyOf_eq (by kernel_rfl)) (by kernel_rfl) fun p hp => by
  cases hp
noncomputable def m230 (a0 : Span) (a1 : Span) : E230 :=
  Span.mk (if a1.fLow < a0.fLow then a1.fLow else a0.fLow) (if a0.fHigh < a1.fHigh then a1.fHigh else a0.fHigh)
theorem c230 (a0 : Span) (a1 : Span) : callR Tryz.prog (F230) 300 (an230) 230 [.agg (uni.cells 218 a0), .agg (uni.cells 218 a1)] [] 0 rd230_e = some (m230 a0 a1) := by
  refine Eq.trans (b := (
    some (Span.mk (if a1.fLow < a0.fLow then a1.fLow else a0.fLow) (if a0.fHigh < a1.fHigh then a1.fHigh else a0.fHigh)) : Option E230)) (by kernel_rfl) ?_
  simp only [m230, cond_some, ite_some]
noncomputable def o230 (x : E230) : Out := match (match outOf Tryz.prog 230 (pt230_e x) with
    | some ds => some (Out.mk (resA ds) (keepR (pt230_e x).R 0 (resA ds)) (pt230_e x).nx)
    | none => none) with
  | some o => o
  | none => ⟨.tup [], [], 0⟩
theorem fn230 (a0 : Span) (a1 : Span) (r : E230) (h : m230 a0 a1 = r) : fnOk Tryz.prog 230 ∧ FnY Tryz.prog 230 [.agg (uni.cells 218 a0), .agg (uni.cells 218 a1)] [] 0 (o230 r) :=
  fnY_of (p := r) F230_ok (fa230) rd230_e_ok (fun p => by kernel_rfl) (ltd_of (by kernel_rfl)) (rltd_of (by kernel_rfl)) ((c230 a0 a1).trans (congrArg some h))
theorem fnok230 : fnOk Tryz.prog 230 := ⟨_, Tryz.func230, by kernel_rfl, by kernel_rfl⟩
noncomputable def e230 (F : Orc) : Orc := orL 230 false (pkC (asGc 218) (pkC (asGc 218) pkN)) (fun g => some (m230 g.1 g.2.1) : (Span × Span × Unit) → Option E230) o230 F
theorem e230_ok {F : Orc} (h : OrcG Tryz.prog F) : OrcG Tryz.prog (e230 F) := orL_g (sc := scU) h scU_ok fnok230 (ca := fun g => [.agg (uni.cells 218 g.1), .agg (uni.cells 218 g.2.1)]) ((.cons (.g 218) (.cons (.g 218) .nil)) : PkN (pkC (asGc 218) (pkC (asGc 218) pkN)) _) (fun b => by kernel_rfl) (fun b => by kernel_rfl) (fun g b hb => (fn230 g.1 g.2.1 b (Option.some.inj hb)).2)
theorem e230_pure {F : Orc} {f : Nat} (h : PureF F f) : PureF (e230 F) f := orL_pure h (fun b => by kernel_rfl)
/-! ### 228: keyhole/flat.corners -/
noncomputable def F228 : Orc := (e230 (e229 or0))
theorem F228_ok : OrcG Tryz.prog F228 := (e230_ok (e229_ok or0_g))
structure L228_0 where
  t38 : List Int
  t39 : Int
  t40 : Int
  b0 : Span
  b1 : Span
abbrev P228_0 : Type := (Unit × Unit × Unit × Int × Int × Unit) × (Span × Span × (List Int) × Unit)
noncomputable def rb228_0 : St → Option P228_0 := stR 3 (slC 6 (asP 0 0) (slC 8 (asP 1 0) (slC 38 (asO 2) (slC 39 (asI .i64) (slC 40 (asI .i64) slN))))) (rsN2 0 218 (asCs 218) (rsN2 1 218 (asCs 218) (rsR 2 3 rsN)))
noncomputable def pb228_0 : P228_0 → St := stP 3 (fun z => [(6, .ptr 0 0), (8, .ptr 1 0), (38, .own 2), (39, .n .i64 z.2.2.2.1), (40, .n .i64 z.2.2.2.2.1)]) (fun z => [(0, .box 218 (uni.cells 218 z.1)), (1, .box 218 (uni.cells 218 z.2.1)), (2, .row 3 z.2.2.1)])
noncomputable def mk228_0 (z : P228_0) : L228_0 := ⟨z.2.2.2.1, z.1.2.2.2.1, z.1.2.2.2.2.1, z.2.1, z.2.2.1⟩
noncomputable def pt228_0 (x : L228_0) : St := pb228_0 (((), (), (), x.t39, x.t40, ()), (x.b0, x.b1, x.t38, ()))
noncomputable def rd228_0 : St → Option L228_0 := rdC 0 [] [6, 8, 38, 39, 40] (rdM mk228_0 rb228_0)
theorem rb228_0_ok (n : Nat) : RdOk 0 n rb228_0 pb228_0 := stR_ok (.cons (.p 0 0) (.cons (.p 1 0) (.cons (.o 2) (.cons (.i .i64) (.cons (.i .i64) .nil))))) (.boxN (PkN.parse 218) (.boxN (PkN.parse 218) (.row .nil)))
theorem rd228_0_ok (n : Nat) : RdOk 0 n rd228_0 pt228_0 := rdC_ok ((rb228_0_ok n).m mk228_0 (pat' := pt228_0) fun _ => rfl)
noncomputable def n228_0 (p : L228_0) : Option (Option L228_0) :=
  bif decide (p.t40 < p.t39) then
    if (0 : Int) ≤ p.t40 ∧ p.t40 < (↑p.t38.length : Int) then
      if 3 = 3 ∧ p.t40.toNat < p.t38.length then
        some (some (L228_0.mk p.t38 p.t39 (IntKind.i64.wrap (p.t40 + 1)) p.b0 (m230 p.b1 (Span.mk p.t38[p.t40.toNat]! p.t38[p.t40.toNat]!))))
      else
        none
    else
      none
  else
    some (none)
theorem q228_0 (p : L228_0) : execA Tryz.prog (F228) Tryz.f228.ntmps 300 (loopAt Tryz.f228 0) .no (Option L228_0) (pt228_0 p) (kOn rd228_0) = n228_0 p := by kernel_rfl
noncomputable def a228_0 : L228_0 → Option L228_0 := advG (n228_0)
abbrev E228 : Type := Span
abbrev P228_e : Type := (Unit × Unit) × (Span × Unit)
noncomputable def rb228_e : St → Option P228_e := stR 1 (slC 6 (asP 0 0) slN) (rsN2 0 218 (asCs 218) rsN)
noncomputable def pb228_e : P228_e → St := stP 1 (fun z => [(6, .ptr 0 0)]) (fun z => [(0, .box 218 (uni.cells 218 z.1))])
noncomputable def mk228_e (z : P228_e) : E228 := z.2.1
noncomputable def pt228_e (x : E228) : St := pb228_e (((), ()), (x, ()))
noncomputable def rd228_e : St → Option E228 := rdC 0 [] [6] (rdM mk228_e rb228_e)
theorem rb228_e_ok (n : Nat) : RdOk 0 n rb228_e pb228_e := stR_ok (.cons (.p 0 0) .nil) (.boxN (PkN.parse 218) .nil)
theorem rd228_e_ok (n : Nat) : RdOk 0 n rd228_e pt228_e := rdC_ok ((rb228_e_ok n).m mk228_e (pat' := pt228_e) fun _ => rfl)
noncomputable def an228 : An := (.two .no (.two .no (.two .no (.two (.two .no (.lp L228_0 rd228_0 pt228_0 a228_0 .no)) .no))))
theorem fa228 : FnAn Tryz.prog (F228) 0 300 228 (an228) := fnAn_of (l := [(loopAt Tryz.f228 0, (.lp L228_0 rd228_0 pt228_0 a228_0 .no))]) Tryz.func228 (bodyOf_eq (by kernel_rfl)) (by kernel_rfl) fun p hp => by
  simp only [List.mem_cons, List.not_mem_nil, or_false] at hp
  rcases hp with rfl
  · exact ⟨rd228_0_ok _, advG_ok (q228_0)⟩
noncomputable def m228 (a0 : Span) (a1 : Span) : Option E228 :=
  match a228_0 (L228_0.mk [m229 a0.fLow a1.fHigh, m229 a0.fHigh a1.fLow, m229 a0.fHigh a1.fHigh] (↑[m229 a0.fLow a1.fHigh, m229 a0.fHigh a1.fLow, m229 a0.fHigh a1.fHigh].length : Int) (0) (Span.mk (0) (0)) (Span.mk (m229 a0.fLow a1.fLow) (m229 a0.fLow a1.fLow))) with
  | none =>
    none
  | some r1 =>
    bif decide (r1.t40 < r1.t39) then
      if (0 : Int) ≤ r1.t40 ∧ r1.t40 < (↑r1.t38.length : Int) then
        if 3 = 3 ∧ r1.t40.toNat < r1.t38.length then
          none
        else
          none
      else
        none
    else
      some (r1.b1)
theorem c228 (a0 : Span) (a1 : Span) : callR Tryz.prog (F228) 300 (an228) 228 [.agg (uni.cells 218 a0), .agg (uni.cells 218 a1), .fn (.func 229) []] [] 0 rd228_e = m228 a0 a1 := by kernel_rfl
noncomputable def o228 (x : E228) : Out := match (match outOf Tryz.prog 228 (pt228_e x) with
    | some ds => some (Out.mk (resA ds) (keepR (pt228_e x).R 0 (resA ds)) (pt228_e x).nx)
    | none => none) with
  | some o => o
  | none => ⟨.tup [], [], 0⟩
theorem fn228 (a0 : Span) (a1 : Span) (r : E228) (h : m228 a0 a1 = some r) : fnOk Tryz.prog 228 ∧ FnY Tryz.prog 228 [.agg (uni.cells 218 a0), .agg (uni.cells 218 a1), .fn (.func 229) []] [] 0 (o228 r) :=
  fnY_of (p := r) F228_ok (fa228) rd228_e_ok (fun p => by kernel_rfl) (ltd_of (by kernel_rfl)) (rltd_of (by kernel_rfl)) ((c228 a0 a1).trans h)
theorem fnok228 : fnOk Tryz.prog 228 := ⟨_, Tryz.func228, by kernel_rfl, by kernel_rfl⟩
noncomputable def e228 (F : Orc) : Orc := orL 228 false (pkC (asGc 218) (pkC (asGc 218) (pkC (asFf 229 pkN) pkN))) (fun g => m228 g.1 g.2.1 : (Span × Span × ((Unit)) × Unit) → Option E228) o228 F
theorem e228_ok {F : Orc} (h : OrcG Tryz.prog F) : OrcG Tryz.prog (e228 F) := orL_g (sc := scU) h scU_ok fnok228 (ca := fun g => [.agg (uni.cells 218 g.1), .agg (uni.cells 218 g.2.1), .fn (.func 229) []]) ((.cons (.g 218) (.cons (.g 218) (.cons (.ff 229 .nil) .nil))) : PkN (pkC (asGc 218) (pkC (asGc 218) (pkC (asFf 229 pkN) pkN))) _) (fun b => by kernel_rfl) (fun b => by kernel_rfl) (fun g b hb => (fn228 g.1 g.2.1 b hb).2)
theorem e228_pure {F : Orc} {f : Nat} (h : PureF F f) : PureF (e228 F) f := orL_pure h (fun b => by kernel_rfl)
/-! ### 219: keyhole/flat.rule -/
noncomputable def F219 : Orc := (e230 (e229 (e228 or0)))
theorem F219_ok : OrcG Tryz.prog F219 := (e230_ok (e229_ok (e228_ok or0_g)))
structure L219_0 where
  t207 : List Span
  t208 : Int
  t209 : Int
  b0 : Span
  b1 : Span
abbrev P219_0 : Type := (Unit × Unit × (List Span) × Int × Int × Unit) × (Span × Span × Unit)
noncomputable def rb219_0 : St → Option P219_0 := stR 2 (slC 6 (asP 0 0) (slC 9 (asP 1 0) (slC 207 (asL 218) (slC 208 (asI .i64) (slC 209 (asI .i64) slN))))) (rsN2 0 218 (asCs 218) (rsN2 1 218 (asCs 218) rsN))
noncomputable def pb219_0 : P219_0 → St := stP 2 (fun z => [(6, .ptr 0 0), (9, .ptr 1 0), (207, .sl 218 z.2.2.1), (208, .n .i64 z.2.2.2.1), (209, .n .i64 z.2.2.2.2.1)]) (fun z => [(0, .box 218 (uni.cells 218 z.1)), (1, .box 218 (uni.cells 218 z.2.1))])
noncomputable def mk219_0 (z : P219_0) : L219_0 := ⟨z.1.2.2.1, z.1.2.2.2.1, z.1.2.2.2.2.1, z.2.1, z.2.2.1⟩
noncomputable def pt219_0 (x : L219_0) : St := pb219_0 (((), (), x.t207, x.t208, x.t209, ()), (x.b0, x.b1, ()))
noncomputable def rd219_0 : St → Option L219_0 := rdC 0 [] [6, 9, 207, 208, 209] (rdM mk219_0 rb219_0)
theorem rb219_0_ok (n : Nat) : RdOk 0 n rb219_0 pb219_0 := stR_ok (.cons (.p 0 0) (.cons (.p 1 0) (.cons (.l 218) (.cons (.i .i64) (.cons (.i .i64) .nil))))) (.boxN (PkN.parse 218) (.boxN (PkN.parse 218) .nil))
theorem rd219_0_ok (n : Nat) : RdOk 0 n rd219_0 pt219_0 := rdC_ok ((rb219_0_ok n).m mk219_0 (pat' := pt219_0) fun _ => rfl)
noncomputable def n219_0 (p : L219_0) : Option (Option L219_0) :=
  bif decide (p.t209 < p.t208) then
    if (0 : Int) ≤ p.t209 ∧ p.t209 < (↑p.t207.length : Int) then
      some (some (L219_0.mk p.t207 p.t208 (IntKind.i64.wrap (p.t209 + 1)) p.b0 (m230 p.b1 p.t207[p.t209.toNat]!)))
    else
      none
  else
    some (none)
theorem q219_0 (p : L219_0) : execA Tryz.prog (F219) Tryz.f219.ntmps 300 (loopAt Tryz.f219 0) .no (Option L219_0) (pt219_0 p) (kOn rd219_0) = n219_0 p := by kernel_rfl
noncomputable def a219_0 : L219_0 → Option L219_0 := advG (n219_0)
abbrev E219 : Type := Span
abbrev P219_e : Type := (Unit × Unit) × (Span × Unit)
noncomputable def rb219_e : St → Option P219_e := stR 1 (slC 6 (asP 0 0) slN) (rsN2 0 218 (asCs 218) rsN)
noncomputable def pb219_e : P219_e → St := stP 1 (fun z => [(6, .ptr 0 0)]) (fun z => [(0, .box 218 (uni.cells 218 z.1))])
noncomputable def mk219_e (z : P219_e) : E219 := z.2.1
noncomputable def pt219_e (x : E219) : St := pb219_e (((), ()), (x, ()))
noncomputable def rd219_e : St → Option E219 := rdC 0 [] [6] (rdM mk219_e rb219_e)
theorem rb219_e_ok (n : Nat) : RdOk 0 n rb219_e pb219_e := stR_ok (.cons (.p 0 0) .nil) (.boxN (PkN.parse 218) .nil)
theorem rd219_e_ok (n : Nat) : RdOk 0 n rd219_e pt219_e := rdC_ok ((rb219_e_ok n).m mk219_e (pat' := pt219_e) fun _ => rfl)
noncomputable def an219 : An := (.two .no (.two (.two .no (.two .no (.two .no (.two .no (.two .no (.two .no (.two .no (.two .no (.two .no (.two .no (.two .no (.two .no (.two .no (.two .no (.two (.two .no (.two (.two (.rb [] 123) .no) .no)) (.two .no (.two .no (.two .no (.two .no (.two .no (.two .no (.two .no (.two (.two .no (.two (.two .no (.lp L219_0 rd219_0 pt219_0 a219_0 .no)) .no)) .no))))))))))))))))))))))) .no))
theorem pu219  : ∀ f ∈ ([] : List Nat), PureF (F219) f := fun f hf => by
  cases hf
theorem fa219 : FnAn Tryz.prog (F219) 0 300 219 (an219) := fnAn_of (l := [(.skip, (.rb [] 123)), (loopAt Tryz.f219 0, (.lp L219_0 rd219_0 pt219_0 a219_0 .no))]) Tryz.func219 (bodyOf_eq (by kernel_rfl)) (by kernel_rfl) fun p hp => by
  simp only [List.mem_cons, List.not_mem_nil, or_false] at hp
  rcases hp with rfl | rfl
  · exact pu219
  · exact ⟨rd219_0_ok _, advG_ok (q219_0)⟩
noncomputable def m219 (a0 : List GVar) (a1 : GTerm) (a2 : List Span) : Option E219 :=
  bif decide (a1.fOp = 0) then
    some (Span.mk a1.fN a1.fN)
  else
    bif decide (a1.fOp = 24) then
      if (0 : Int) ≤ a1.fN ∧ a1.fN < (↑a0.length : Int) then
        if (0 : Int) ≤ a1.fN ∧ a1.fN < (↑a0.length : Int) then
          some (Span.mk a0[a1.fN.toNat]!.fLow a0[a1.fN.toNat]!.fHigh)
        else
          none
      else
        none
    else
      bif decide (a1.fOp = 6) then
        if (0 : Int) ≤ (0 : Int) ∧ (0 : Int) < (↑a2.length : Int) then
          if (0 : Int) ≤ (0 : Int) ∧ (0 : Int) < (↑a2.length : Int) then
            some (Span.mk (IntKind.i64.wrap (0 - a2[0]!.fHigh)) (IntKind.i64.wrap (0 - a2[0]!.fLow)))
          else
            none
        else
          none
      else
        bif decide (a1.fOp = 8) then
          if (0 : Int) ≤ (0 : Int) ∧ (0 : Int) < (↑a2.length : Int) then
            if (0 : Int) ≤ (1 : Int) ∧ (1 : Int) < (↑a2.length : Int) then
              if (0 : Int) ≤ (0 : Int) ∧ (0 : Int) < (↑a2.length : Int) then
                if (0 : Int) ≤ (1 : Int) ∧ (1 : Int) < (↑a2.length : Int) then
                  some (Span.mk (IntKind.i64.wrap (a2[0]!.fLow + a2[1]!.fLow)) (IntKind.i64.wrap (a2[0]!.fHigh + a2[1]!.fHigh)))
                else
                  none
              else
                none
            else
              none
          else
            none
        else
          bif decide (a1.fOp = 9) then
            if (0 : Int) ≤ (0 : Int) ∧ (0 : Int) < (↑a2.length : Int) then
              if (0 : Int) ≤ (1 : Int) ∧ (1 : Int) < (↑a2.length : Int) then
                if (0 : Int) ≤ (0 : Int) ∧ (0 : Int) < (↑a2.length : Int) then
                  if (0 : Int) ≤ (1 : Int) ∧ (1 : Int) < (↑a2.length : Int) then
                    some (Span.mk (IntKind.i64.wrap (a2[0]!.fLow - a2[1]!.fHigh)) (IntKind.i64.wrap (a2[0]!.fHigh - a2[1]!.fLow)))
                  else
                    none
                else
                  none
              else
                none
            else
              none
          else
            bif decide (a1.fOp = 10) then
              if (0 : Int) ≤ (0 : Int) ∧ (0 : Int) < (↑a2.length : Int) then
                if (0 : Int) ≤ (1 : Int) ∧ (1 : Int) < (↑a2.length : Int) then
                  match m228 a2[0]! a2[1]! with
                  | none =>
                    none
                  | some r1 =>
                    some (r1)
                else
                  none
              else
                none
            else
              bif decide (a1.fOp = 11) then
                if (0 : Int) ≤ (0 : Int) ∧ (0 : Int) < (↑a2.length : Int) then
                  if (0 : Int) ≤ (0 : Int) ∧ (0 : Int) < (↑a2.length : Int) then
                    match if (0 : Int) ≤ (0 : Int) ∧ (0 : Int) < (↑a2.length : Int) then
                      bif decide (0 ≤ a2[0]!.fLow) then
                        if (0 : Int) ≤ (1 : Int) ∧ (1 : Int) < (↑a2.length : Int) then
                          some (decide (0 ≤ a2[1]!.fLow))
                        else
                          none
                      else
                        some (false)
                    else
                      none with
                    | none =>
                      none
                    | some r2 =>
                      bif r2 then
                        some (Span.mk (0) (if a2[0]!.fHigh < IntKind.i64.wrap (0 - a2[0]!.fLow) then IntKind.i64.wrap (0 - a2[0]!.fLow) else a2[0]!.fHigh))
                      else
                        some (Span.mk (IntKind.i64.wrap (0 - if a2[0]!.fHigh < IntKind.i64.wrap (0 - a2[0]!.fLow) then IntKind.i64.wrap (0 - a2[0]!.fLow) else a2[0]!.fHigh)) (if a2[0]!.fHigh < IntKind.i64.wrap (0 - a2[0]!.fLow) then IntKind.i64.wrap (0 - a2[0]!.fLow) else a2[0]!.fHigh))
                  else
                    none
                else
                  none
              else
                bif decide (a1.fOp = 12) then
                  if (0 : Int) ≤ (1 : Int) ∧ (1 : Int) < (↑a2.length : Int) then
                    bif decide (a2[1]!.fLow < 0) then
                      if (0 : Int) ≤ (1 : Int) ∧ (1 : Int) < (↑a2.length : Int) then
                        if (0 : Int) ≤ (1 : Int) ∧ (1 : Int) < (↑a2.length : Int) then
                          bif decide (0 < a2[1]!.fHigh) then
                            if (0 : Int) ≤ (1 : Int) ∧ (1 : Int) < (↑a2.length : Int) then
                              some (Span.mk (if 0 < IntKind.i64.wrap (a2[1]!.fLow + 1) then 0 else IntKind.i64.wrap (a2[1]!.fLow + 1)) (if IntKind.i64.wrap (a2[1]!.fHigh - 1) < 0 then 0 else IntKind.i64.wrap (a2[1]!.fHigh - 1)))
                            else
                              none
                          else
                            some (Span.mk (if 0 < IntKind.i64.wrap (a2[1]!.fLow + 1) then 0 else IntKind.i64.wrap (a2[1]!.fLow + 1)) (0))
                        else
                          none
                      else
                        none
                    else
                      if (0 : Int) ≤ (1 : Int) ∧ (1 : Int) < (↑a2.length : Int) then
                        bif decide (0 < a2[1]!.fHigh) then
                          if (0 : Int) ≤ (1 : Int) ∧ (1 : Int) < (↑a2.length : Int) then
                            some (Span.mk (0) (if IntKind.i64.wrap (a2[1]!.fHigh - 1) < 0 then 0 else IntKind.i64.wrap (a2[1]!.fHigh - 1)))
                          else
                            none
                        else
                          some (Span.mk (0) (0))
                      else
                        none
                  else
                    none
                else
                  bif decide (a1.fOp = 21) then
                    if (0 : Int) ≤ (0 : Int) ∧ (0 : Int) < (↑a2.length : Int) then
                      if (0 : Int) ≤ (1 : Int) ∧ (1 : Int) < (↑a2.length : Int) then
                        if (0 : Int) ≤ (0 : Int) ∧ (0 : Int) < (↑a2.length : Int) then
                          if (0 : Int) ≤ (1 : Int) ∧ (1 : Int) < (↑a2.length : Int) then
                            some (Span.mk (if a2[1]!.fLow < a2[0]!.fLow then a2[1]!.fLow else a2[0]!.fLow) (if a2[1]!.fHigh < a2[0]!.fHigh then a2[1]!.fHigh else a2[0]!.fHigh))
                          else
                            none
                        else
                          none
                      else
                        none
                    else
                      none
                  else
                    bif decide (a1.fOp = 22) then
                      if (0 : Int) ≤ (0 : Int) ∧ (0 : Int) < (↑a2.length : Int) then
                        if (0 : Int) ≤ (1 : Int) ∧ (1 : Int) < (↑a2.length : Int) then
                          if (0 : Int) ≤ (0 : Int) ∧ (0 : Int) < (↑a2.length : Int) then
                            if (0 : Int) ≤ (1 : Int) ∧ (1 : Int) < (↑a2.length : Int) then
                              some (Span.mk (if a2[0]!.fLow < a2[1]!.fLow then a2[1]!.fLow else a2[0]!.fLow) (if a2[0]!.fHigh < a2[1]!.fHigh then a2[1]!.fHigh else a2[0]!.fHigh))
                            else
                              none
                          else
                            none
                        else
                          none
                      else
                        none
                    else
                      bif decide (a1.fOp = 23) then
                        if (0 : Int) ≤ (1 : Int) ∧ (1 : Int) < (↑a2.length : Int) then
                          if (0 : Int) ≤ (2 : Int) ∧ (2 : Int) ≤ (↑a2.length : Int) then
                            match a219_0 (L219_0.mk (List.drop 2 a2) (↑(List.drop 2 a2).length : Int) (0) (Span.mk (0) (0)) a2[1]!) with
                            | none =>
                              none
                            | some r3 =>
                              bif decide (r3.t209 < r3.t208) then
                                if (0 : Int) ≤ r3.t209 ∧ r3.t209 < (↑r3.t207.length : Int) then
                                  none
                                else
                                  none
                              else
                                some (r3.b1)
                          else
                            none
                        else
                          none
                      else
                        bif decide (a1.fOp = 25) then
                          if (0 : Int) ≤ (1 : Int) ∧ (1 : Int) < (↑a2.length : Int) then
                            if (0 : Int) ≤ (2 : Int) ∧ (2 : Int) ≤ (↑a2.length : Int) then
                              match a219_0 (L219_0.mk (List.drop 2 a2) (↑(List.drop 2 a2).length : Int) (0) (Span.mk (0) (0)) a2[1]!) with
                              | none =>
                                none
                              | some r4 =>
                                bif decide (r4.t209 < r4.t208) then
                                  if (0 : Int) ≤ r4.t209 ∧ r4.t209 < (↑r4.t207.length : Int) then
                                    none
                                  else
                                    none
                                else
                                  some (r4.b1)
                            else
                              none
                          else
                            none
                        else
                          some (Span.mk (0) (1))
theorem c219 (a0 : List GVar) (a1 : GTerm) (a2 : List Span) : callR Tryz.prog (F219) 300 (an219) 219 [.sl 91 a0, .agg (uni.cells 97 a1), .sl 218 a2] [] 0 rd219_e = m219 a0 a1 a2 := by kernel_rfl
noncomputable def o219 (x : E219) : Out := match (match outOf Tryz.prog 219 (pt219_e x) with
    | some ds => some (Out.mk (resA ds) (keepR (pt219_e x).R 0 (resA ds)) (pt219_e x).nx)
    | none => none) with
  | some o => o
  | none => ⟨.tup [], [], 0⟩
theorem fn219 (a0 : List GVar) (a1 : GTerm) (a2 : List Span) (r : E219) (h : m219 a0 a1 a2 = some r) : fnOk Tryz.prog 219 ∧ FnY Tryz.prog 219 [.sl 91 a0, .agg (uni.cells 97 a1), .sl 218 a2] [] 0 (o219 r) :=
  fnY_of (p := r) F219_ok (fa219) rd219_e_ok (fun p => by kernel_rfl) (ltd_of (by kernel_rfl)) (rltd_of (by kernel_rfl)) ((c219 a0 a1 a2).trans h)
theorem fnok219 : fnOk Tryz.prog 219 := ⟨_, Tryz.func219, by kernel_rfl, by kernel_rfl⟩
noncomputable def e219 (F : Orc) : Orc := orL 219 false (pkC (asL 91) (pkC (asGc 97) (pkC (asL 218) pkN))) (fun g => m219 g.1 g.2.1 g.2.2.1 : ((List GVar) × GTerm × (List Span) × Unit) → Option E219) o219 F
theorem e219_ok {F : Orc} (h : OrcG Tryz.prog F) : OrcG Tryz.prog (e219 F) := orL_g (sc := scU) h scU_ok fnok219 (ca := fun g => [.sl 91 g.1, .agg (uni.cells 97 g.2.1), .sl 218 g.2.2.1]) ((.cons (.l 91) (.cons (.g 97) (.cons (.l 218) .nil))) : PkN (pkC (asL 91) (pkC (asGc 97) (pkC (asL 218) pkN))) _) (fun b => by kernel_rfl) (fun b => by kernel_rfl) (fun g b hb => (fn219 g.1 g.2.1 g.2.2.1 b hb).2)
theorem e219_pure {F : Orc} {f : Nat} (h : PureF F f) : PureF (e219 F) f := orL_pure h (fun b => by kernel_rfl)
/-! ### 194: keyhole/flat.ranged -/
abbrev E194 : Type := Span × Bool
abbrev P194_e : Type := (Unit × Bool × Unit) × (Span × Unit)
noncomputable def rb194_e : St → Option P194_e := stR 1 (slC 4 (asP 0 0) (slC 5 asB slN)) (rsN2 0 218 (asCs 218) rsN)
noncomputable def pb194_e : P194_e → St := stP 1 (fun z => [(4, .ptr 0 0), (5, .b z.2.1)]) (fun z => [(0, .box 218 (uni.cells 218 z.1))])
noncomputable def mk194_e (z : P194_e) : E194 := (z.2.1, z.1.2.1)
noncomputable def pt194_e (x : E194) : St := pb194_e (((), x.2, ()), (x.1, ()))
noncomputable def rd194_e : St → Option E194 := rdC 0 [] [4, 5] (rdM mk194_e rb194_e)
theorem rb194_e_ok (n : Nat) : RdOk 0 n rb194_e pb194_e := stR_ok (.cons (.p 0 0) (.cons .b .nil)) (.boxN (PkN.parse 218) .nil)
theorem rd194_e_ok (n : Nat) : RdOk 0 n rd194_e pt194_e := rdC_ok ((rb194_e_ok n).m mk194_e (pat' := pt194_e) fun _ => rfl)
noncomputable def o194 (x : E194) : Out := match (match outOf Tryz.prog 194 (pt194_e x) with
    | some ds => some (Out.mk (resA ds) (keepR (pt194_e x).R 0 (resA ds)) (pt194_e x).nx)
    | none => none) with
  | some o => o
  | none => ⟨.tup [], [], 0⟩
theorem fnok194 : fnOk Tryz.prog 194 := ⟨_, Tryz.func194, by kernel_rfl, by kernel_rfl⟩
noncomputable def x194 (M194 : (List GVar) → GTerm → Option E194) (F : Orc) : Orc := orL 194 false (pkC (asL 91) (pkC (asGc 97) pkN)) (fun g => M194 g.1 g.2.1 : ((List GVar) × GTerm × Unit) → Option E194) o194 F
theorem x194_pure {M : (List GVar) → GTerm → Option E194} {F : Orc} {f : Nat} (h : PureF F f) : PureF (x194 M F) f := orL_pure h (fun b => by kernel_rfl)
def H194 (M : (List GVar) → GTerm → Option E194) : Prop := ∀ (a0 : List GVar) (a1 : GTerm) (r : E194), M a0 a1 = some r → FnY Tryz.prog 194 [.sl 91 a0, .agg (uni.cells 97 a1)] [] 0 (o194 r)
theorem x194_ok {M : (List GVar) → GTerm → Option E194} (hM : H194 M) {F : Orc} (h : OrcG Tryz.prog F) : OrcG Tryz.prog (x194 M F) := orL_g (sc := scU) h scU_ok fnok194 (ca := fun g => [.sl 91 g.1, .agg (uni.cells 97 g.2.1)]) ((.cons (.l 91) (.cons (.g 97) .nil)) : PkN (pkC (asL 91) (pkC (asGc 97) pkN)) _) (fun b => by kernel_rfl) (fun b => by kernel_rfl) (fun g b hb => hM g.1 g.2.1 b hb)
noncomputable def F194 (M194 : (List GVar) → GTerm → Option E194) : Orc := (e219 (x194 M194 or0))
theorem F194_ok {M194} (h194 : H194 M194) : OrcG Tryz.prog (F194 M194) := (e219_ok (x194_ok h194 or0_g))
structure L194_0 where
  t0 : List GVar
  t6 : List Span
  t13 : List GTerm
  t14 : Int
  t15 : Int
  b0 : GTerm
  b1 : Span
abbrev P194_0 : Type := ((List GVar) × Unit × Unit × Unit × (List GTerm) × Int × Int × Unit) × (GTerm × Span × (List Span) × Unit)
noncomputable def rb194_0 : St → Option P194_0 := stR 3 (slC 0 (asL 91) (slC 3 (asP 0 0) (slC 4 (asP 1 0) (slC 6 (asO 2) (slC 13 (asL 97) (slC 14 (asI .i64) (slC 15 (asI .i64) slN))))))) (rsN2 0 97 (asCs 97) (rsN2 1 218 (asCs 218) (rsR 2 218 rsN)))
noncomputable def pb194_0 : P194_0 → St := stP 3 (fun z => [(0, .sl 91 z.1), (3, .ptr 0 0), (4, .ptr 1 0), (6, .own 2), (13, .sl 97 z.2.2.2.2.1), (14, .n .i64 z.2.2.2.2.2.1), (15, .n .i64 z.2.2.2.2.2.2.1)]) (fun z => [(0, .box 97 (uni.cells 97 z.1)), (1, .box 218 (uni.cells 218 z.2.1)), (2, .row 218 z.2.2.1)])
noncomputable def mk194_0 (z : P194_0) : L194_0 := ⟨z.1.1, z.2.2.2.1, z.1.2.2.2.2.1, z.1.2.2.2.2.2.1, z.1.2.2.2.2.2.2.1, z.2.1, z.2.2.1⟩
noncomputable def pt194_0 (x : L194_0) : St := pb194_0 ((x.t0, (), (), (), x.t13, x.t14, x.t15, ()), (x.b0, x.b1, x.t6, ()))
noncomputable def rd194_0 : St → Option L194_0 := rdC 0 [] [0, 3, 4, 6, 13, 14, 15] (rdF (ownS 6 [] 218) (rdC 0 [] [0, 3, 4, 6, 13, 14, 15] (rdM mk194_0 rb194_0)))
theorem rb194_0_ok (n : Nat) : RdOk 0 n rb194_0 pb194_0 := stR_ok (.cons (.l 91) (.cons (.p 0 0) (.cons (.p 1 0) (.cons (.o 2) (.cons (.l 97) (.cons (.i .i64) (.cons (.i .i64) .nil))))))) (.boxN (PkN.parse 97) (.boxN (PkN.parse 218) (.row .nil)))
theorem rd194_0_ok (n : Nat) : RdOk 0 n rd194_0 pt194_0 := rdC_ok (rdF_ok (.s 6 [] 218) (rdC_ok ((rb194_0_ok n).m mk194_0 (pat' := pt194_0) fun _ => rfl)))
noncomputable def n194_0 (M194 : (List GVar) → GTerm → Option E194) (p : L194_0) : Option (Option L194_0) :=
  bif decide (p.t15 < p.t14) then
    if (0 : Int) ≤ p.t15 ∧ p.t15 < (↑p.t13.length : Int) then
      match M194 p.t0 (GTerm.mk p.t13[p.t15.toNat]!.fOp p.t13[p.t15.toNat]!.fN p.t13[p.t15.toNat]!.fKids) with
      | none =>
        none
      | some r1 =>
        bif bif r1.snd then false else true then
          some (none)
        else
          if (p.t6 ++ [r1.fst]).length ≤ 1073741824 then
            some (some (L194_0.mk p.t0 (p.t6 ++ [r1.fst]) p.t13 p.t14 (IntKind.i64.wrap (p.t15 + 1)) (GTerm.mk p.b0.fOp p.b0.fN p.b0.fKids) p.b1))
          else
            none
    else
      none
  else
    some (none)
theorem q194_0 (M194 : (List GVar) → GTerm → Option E194) (p : L194_0) : execA Tryz.prog (F194 M194) Tryz.f194.ntmps 300 (loopAt Tryz.f194 0) .no (Option L194_0) (pt194_0 p) (kOn rd194_0) = n194_0 M194 p := by kernel_rfl
noncomputable def a194_0 (M194 : (List GVar) → GTerm → Option E194) : L194_0 → Option L194_0 := advG (n194_0 M194)
noncomputable def an194 (M194 : (List GVar) → GTerm → Option E194) : An := (.two .no (.two .no (.two (.two .no (.lp L194_0 rd194_0 pt194_0 (a194_0 M194) .no)) .no)))
theorem fa194 (M194 : (List GVar) → GTerm → Option E194) : FnAn Tryz.prog (F194 M194) 0 300 194 (an194 M194) := fnAn_of (l := [(loopAt Tryz.f194 0, (.lp L194_0 rd194_0 pt194_0 (a194_0 M194) .no))]) Tryz.func194 (bodyOf_eq (by kernel_rfl)) (by kernel_rfl) fun p hp => by
  simp only [List.mem_cons, List.not_mem_nil, or_false] at hp
  rcases hp with rfl
  · exact ⟨rd194_0_ok _, advG_ok (q194_0 M194)⟩
noncomputable def s194 (M194 : (List GVar) → GTerm → Option E194) (a0 : List GVar) (a1 : GTerm) : Option E194 :=
  match a194_0 M194 (L194_0.mk a0 [] a1.fKids (↑a1.fKids.length : Int) (0) (GTerm.mk a1.fOp a1.fN a1.fKids) (Span.mk (0) (0))) with
  | none =>
    none
  | some r2 =>
    bif decide (r2.t15 < r2.t14) then
      if (0 : Int) ≤ r2.t15 ∧ r2.t15 < (↑r2.t13.length : Int) then
        match M194 r2.t0 (GTerm.mk r2.t13[r2.t15.toNat]!.fOp r2.t13[r2.t15.toNat]!.fN r2.t13[r2.t15.toNat]!.fKids) with
        | none =>
          none
        | some r3 =>
          bif bif r3.snd then false else true then
            some ((Span.mk (0) (0), false))
          else
            if (r2.t6 ++ [r3.fst]).length ≤ 1073741824 then
              none
            else
              none
      else
        none
    else
      match m219 r2.t0 (GTerm.mk r2.b0.fOp r2.b0.fN r2.b0.fKids) r2.t6 with
      | none =>
        none
      | some r4 =>
        bif decide (-1048576 ≤ r4.fLow) then
          some ((r4, decide (r4.fHigh ≤ 1048576)))
        else
          some ((r4, false))
theorem c194 (M194 : (List GVar) → GTerm → Option E194) (a0 : List GVar) (a1 : GTerm) : callR Tryz.prog (F194 M194) 300 (an194 M194) 194 [.sl 91 a0, .agg (uni.cells 97 a1)] [] 0 rd194_e = s194 M194 a0 a1 := by kernel_rfl
noncomputable def mm194 : Nat → ((List GVar) → GTerm → Option E194)
  | 0 => (fun _ _ => none)
  | n + 1 => (s194 (mm194 n))
noncomputable def m194 (n : Nat) : (List GVar) → GTerm → Option E194 := (mm194 n)
theorem mm194_ok : ∀ n, H194 (m194 n)
  | 0 => fun _ _ _ h => by cases h
  | n + 1 => by
    have ih := mm194_ok n
    have i194 := ih
    exact fun a0 a1 r h => (fnY_of (p := r) (F194_ok i194) (fa194 (m194 n)) rd194_e_ok (fun p => by kernel_rfl) (ltd_of (by kernel_rfl)) (rltd_of (by kernel_rfl)) ((c194 (m194 n) a0 a1).trans h)).2
noncomputable def r194 : (List GVar) → GTerm → Option E194 := fun a0 a1 => lim (fun n => m194 n a0 a1)
theorem r194_ok : H194 r194 := fun a0 a1 r h => by
  obtain ⟨n, hn⟩ := lim_some h
  exact (mm194_ok n) a0 a1 r hn
noncomputable def e194 (F : Orc) : Orc := x194 r194 F
theorem e194_ok {F : Orc} (h : OrcG Tryz.prog F) : OrcG Tryz.prog (e194 F) := x194_ok r194_ok h
theorem e194_pure {F : Orc} {f : Nat} (h : PureF F f) : PureF (e194 F) f := x194_pure h
/-! ### 167: keyhole/flat.termCode -/
noncomputable def F167 : Orc := (e194 (e193 or0))
theorem F167_ok : OrcG Tryz.prog F167 := (e194_ok (e193_ok or0_g))
abbrev E167 : Type := Int
abbrev P167_e : Type := (Int × Unit) × (Unit)
noncomputable def rb167_e : St → Option P167_e := stR 0 (slC 6 (asI .i64) slN) rsN
noncomputable def pb167_e : P167_e → St := stP 0 (fun z => [(6, .n .i64 z.1)]) (fun z => [])
noncomputable def mk167_e (z : P167_e) : E167 := z.1.1
noncomputable def pt167_e (x : E167) : St := pb167_e ((x, ()), (()))
noncomputable def rd167_e : St → Option E167 := rdC 0 [] [6] (rdM mk167_e rb167_e)
theorem rb167_e_ok (n : Nat) : RdOk 0 n rb167_e pb167_e := stR_ok (.cons (.i .i64) .nil) .nil
theorem rd167_e_ok (n : Nat) : RdOk 0 n rd167_e pt167_e := rdC_ok ((rb167_e_ok n).m mk167_e (pat' := pt167_e) fun _ => rfl)
noncomputable def an167 : An := .no
theorem fa167 : FnAn Tryz.prog (F167) 0 300 167 (an167) := fnAn_of (l := []) Tryz.func167 (bodyOf_eq (by kernel_rfl)) (by kernel_rfl) fun p hp => by
  cases hp
noncomputable def m167 (a0 : List GVar) (a1 : GTerm) (a2 : Bool) : Option E167 :=
  match r193 a0 (GTerm.mk a1.fOp a1.fN a1.fKids) a2 with
  | none =>
    none
  | some r1 =>
    bif bif r1 then false else true then
      some (1)
    else
      match r194 a0 (GTerm.mk a1.fOp a1.fN a1.fKids) with
      | none =>
        none
      | some r2 =>
        bif bif r2.snd then false else true then
          some (3)
        else
          some (0)
theorem c167 (a0 : List GVar) (a1 : GTerm) (a2 : Bool) : callR Tryz.prog (F167) 300 (an167) 167 [.sl 91 a0, .agg (uni.cells 97 a1), .b a2] [] 0 rd167_e = m167 a0 a1 a2 := by kernel_rfl
noncomputable def o167 (x : E167) : Out := match (match outOf Tryz.prog 167 (pt167_e x) with
    | some ds => some (Out.mk (resA ds) (keepR (pt167_e x).R 0 (resA ds)) (pt167_e x).nx)
    | none => none) with
  | some o => o
  | none => ⟨.tup [], [], 0⟩
theorem fn167 (a0 : List GVar) (a1 : GTerm) (a2 : Bool) (r : E167) (h : m167 a0 a1 a2 = some r) : fnOk Tryz.prog 167 ∧ FnY Tryz.prog 167 [.sl 91 a0, .agg (uni.cells 97 a1), .b a2] [] 0 (o167 r) :=
  fnY_of (p := r) F167_ok (fa167) rd167_e_ok (fun p => by kernel_rfl) (ltd_of (by kernel_rfl)) (rltd_of (by kernel_rfl)) ((c167 a0 a1 a2).trans h)
theorem fnok167 : fnOk Tryz.prog 167 := ⟨_, Tryz.func167, by kernel_rfl, by kernel_rfl⟩
noncomputable def e167 (F : Orc) : Orc := orL 167 false (pkC (asL 91) (pkC (asGc 97) (pkC asB pkN))) (fun g => m167 g.1 g.2.1 g.2.2.1 : ((List GVar) × GTerm × Bool × Unit) → Option E167) o167 F
theorem e167_ok {F : Orc} (h : OrcG Tryz.prog F) : OrcG Tryz.prog (e167 F) := orL_g (sc := scU) h scU_ok fnok167 (ca := fun g => [.sl 91 g.1, .agg (uni.cells 97 g.2.1), .b g.2.2.1]) ((.cons (.l 91) (.cons (.g 97) (.cons .b .nil))) : PkN (pkC (asL 91) (pkC (asGc 97) (pkC asB pkN))) _) (fun b => by kernel_rfl) (fun b => by kernel_rfl) (fun g b hb => (fn167 g.1 g.2.1 g.2.2.1 b hb).2)
theorem e167_pure {F : Orc} {f : Nat} (h : PureF F f) : PureF (e167 F) f := orL_pure h (fun b => by kernel_rfl)
/-! ### 112: keyhole/flat.hatchesCode -/
noncomputable def F112 : Orc := (e167 (e166 (e163 (e161 or0))))
theorem F112_ok : OrcG Tryz.prog F112 := (e167_ok (e166_ok (e163_ok (e161_ok or0_g))))
structure L112_0 where
  t8 : List Hatch
  t9 : Int
  t10 : Int
  b0 : Flat
abbrev P112_0 : Type := (Unit × (List Hatch) × Int × Int × Unit) × (Flat × Unit)
noncomputable def rb112_0 : St → Option P112_0 := stR 1 (slC 1 (asP 0 0) (slC 8 (asL 99) (slC 9 (asI .i64) (slC 10 (asI .i64) slN)))) (rsN2 0 26 (asCs 26) rsN)
noncomputable def pb112_0 : P112_0 → St := stP 1 (fun z => [(1, .ptr 0 0), (8, .sl 99 z.2.1), (9, .n .i64 z.2.2.1), (10, .n .i64 z.2.2.2.1)]) (fun z => [(0, .box 26 (uni.cells 26 z.1))])
noncomputable def mk112_0 (z : P112_0) : L112_0 := ⟨z.1.2.1, z.1.2.2.1, z.1.2.2.2.1, z.2.1⟩
noncomputable def pt112_0 (x : L112_0) : St := pb112_0 (((), x.t8, x.t9, x.t10, ()), (x.b0, ()))
noncomputable def rd112_0 : St → Option L112_0 := rdC 0 [] [1, 8, 9, 10] (rdM mk112_0 rb112_0)
theorem rb112_0_ok (n : Nat) : RdOk 0 n rb112_0 pb112_0 := stR_ok (.cons (.p 0 0) (.cons (.l 99) (.cons (.i .i64) (.cons (.i .i64) .nil)))) (.boxN (PkN.parse 26) .nil)
theorem rd112_0_ok (n : Nat) : RdOk 0 n rd112_0 pt112_0 := rdC_ok ((rb112_0_ok n).m mk112_0 (pat' := pt112_0) fun _ => rfl)
noncomputable def n112_0 (p : L112_0) : Option (Option L112_0) :=
  bif decide (p.t10 < p.t9) then
    if (0 : Int) ≤ p.t10 ∧ p.t10 < (↑p.t8.length : Int) then
      match m161 p.t8[p.t10.toNat]!.fName with
      | none =>
        none
      | some r1 =>
        bif bif r1 then false else true then
          some (none)
        else
          if (0 : Int) ≤ p.t10 ∧ p.t10 ≤ (↑p.b0.fHatches.length : Int) then
            match m166 (List.take p.t10.toNat p.b0.fHatches) (Hatch.mk p.t8[p.t10.toNat]!.fName p.t8[p.t10.toNat]!.fLow p.t8[p.t10.toNat]!.fHigh (GTerm.mk p.t8[p.t10.toNat]!.fTerm.fOp p.t8[p.t10.toNat]!.fTerm.fN p.t8[p.t10.toNat]!.fTerm.fKids)) with
            | none =>
              none
            | some r2 =>
              bif r2 then
                some (none)
              else
                bif bif m163 p.t8[p.t10.toNat]!.fLow p.t8[p.t10.toNat]!.fHigh then false else true then
                  some (none)
                else
                  match m167 p.b0.fVars (GTerm.mk p.t8[p.t10.toNat]!.fTerm.fOp p.t8[p.t10.toNat]!.fTerm.fN p.t8[p.t10.toNat]!.fTerm.fKids) true with
                  | none =>
                    none
                  | some r3 =>
                    bif bif decide (r3 = 0) then false else true then
                      some (none)
                    else
                      some (some (L112_0.mk p.t8 p.t9 (IntKind.i64.wrap (p.t10 + 1)) p.b0))
          else
            none
    else
      none
  else
    some (none)
theorem q112_0 (p : L112_0) : execA Tryz.prog (F112) Tryz.f112.ntmps 300 (loopAt Tryz.f112 0) .no (Option L112_0) (pt112_0 p) (kOn rd112_0) = n112_0 p := by kernel_rfl
noncomputable def a112_0 : L112_0 → Option L112_0 := advG (n112_0)
abbrev E112 : Type := Int
abbrev P112_e : Type := (Int × Unit) × (Unit)
noncomputable def rb112_e : St → Option P112_e := stR 0 (slC 2 (asI .i64) slN) rsN
noncomputable def pb112_e : P112_e → St := stP 0 (fun z => [(2, .n .i64 z.1)]) (fun z => [])
noncomputable def mk112_e (z : P112_e) : E112 := z.1.1
noncomputable def pt112_e (x : E112) : St := pb112_e ((x, ()), (()))
noncomputable def rd112_e : St → Option E112 := rdC 0 [] [2] (rdM mk112_e rb112_e)
theorem rb112_e_ok (n : Nat) : RdOk 0 n rb112_e pb112_e := stR_ok (.cons (.i .i64) .nil) .nil
theorem rd112_e_ok (n : Nat) : RdOk 0 n rd112_e pt112_e := rdC_ok ((rb112_e_ok n).m mk112_e (pat' := pt112_e) fun _ => rfl)
noncomputable def an112 : An := (.two .no (.two (.two .no (.lp L112_0 rd112_0 pt112_0 a112_0 .no)) .no))
theorem fa112 : FnAn Tryz.prog (F112) 0 300 112 (an112) := fnAn_of (l := [(loopAt Tryz.f112 0, (.lp L112_0 rd112_0 pt112_0 a112_0 .no))]) Tryz.func112 (bodyOf_eq (by kernel_rfl)) (by kernel_rfl) fun p hp => by
  simp only [List.mem_cons, List.not_mem_nil, or_false] at hp
  rcases hp with rfl
  · exact ⟨rd112_0_ok _, advG_ok (q112_0)⟩
noncomputable def m112 (a0 : Flat) : Option E112 :=
  match a112_0 (L112_0.mk a0.fHatches (↑a0.fHatches.length : Int) (0) a0) with
  | none =>
    none
  | some r4 =>
    bif decide (r4.t10 < r4.t9) then
      if (0 : Int) ≤ r4.t10 ∧ r4.t10 < (↑r4.t8.length : Int) then
        match m161 r4.t8[r4.t10.toNat]!.fName with
        | none =>
          none
        | some r5 =>
          bif bif r5 then false else true then
            some (7)
          else
            if (0 : Int) ≤ r4.t10 ∧ r4.t10 ≤ (↑r4.b0.fHatches.length : Int) then
              match m166 (List.take r4.t10.toNat r4.b0.fHatches) (Hatch.mk r4.t8[r4.t10.toNat]!.fName r4.t8[r4.t10.toNat]!.fLow r4.t8[r4.t10.toNat]!.fHigh (GTerm.mk r4.t8[r4.t10.toNat]!.fTerm.fOp r4.t8[r4.t10.toNat]!.fTerm.fN r4.t8[r4.t10.toNat]!.fTerm.fKids)) with
              | none =>
                none
              | some r6 =>
                bif r6 then
                  some (8)
                else
                  bif bif m163 r4.t8[r4.t10.toNat]!.fLow r4.t8[r4.t10.toNat]!.fHigh then false else true then
                    some (3)
                  else
                    match m167 r4.b0.fVars (GTerm.mk r4.t8[r4.t10.toNat]!.fTerm.fOp r4.t8[r4.t10.toNat]!.fTerm.fN r4.t8[r4.t10.toNat]!.fTerm.fKids) true with
                    | none =>
                      none
                    | some r7 =>
                      bif bif decide (r7 = 0) then false else true then
                        some (r7)
                      else
                        none
            else
              none
      else
        none
    else
      some (0)
theorem c112 (a0 : Flat) : callR Tryz.prog (F112) 300 (an112) 112 [.agg (uni.cells 26 a0)] [] 0 rd112_e = m112 a0 := by kernel_rfl
noncomputable def o112 (x : E112) : Out := match (match outOf Tryz.prog 112 (pt112_e x) with
    | some ds => some (Out.mk (resA ds) (keepR (pt112_e x).R 0 (resA ds)) (pt112_e x).nx)
    | none => none) with
  | some o => o
  | none => ⟨.tup [], [], 0⟩
theorem fn112 (a0 : Flat) (r : E112) (h : m112 a0 = some r) : fnOk Tryz.prog 112 ∧ FnY Tryz.prog 112 [.agg (uni.cells 26 a0)] [] 0 (o112 r) :=
  fnY_of (p := r) F112_ok (fa112) rd112_e_ok (fun p => by kernel_rfl) (ltd_of (by kernel_rfl)) (rltd_of (by kernel_rfl)) ((c112 a0).trans h)
theorem fnok112 : fnOk Tryz.prog 112 := ⟨_, Tryz.func112, by kernel_rfl, by kernel_rfl⟩
noncomputable def e112 (F : Orc) : Orc := orL 112 false (pkC (asGc 26) pkN) (fun g => m112 g.1 : (Flat × Unit) → Option E112) o112 F
theorem e112_ok {F : Orc} (h : OrcG Tryz.prog F) : OrcG Tryz.prog (e112 F) := orL_g (sc := scU) h scU_ok fnok112 (ca := fun g => [.agg (uni.cells 26 g.1)]) ((.cons (.g 26) .nil) : PkN (pkC (asGc 26) pkN) _) (fun b => by kernel_rfl) (fun b => by kernel_rfl) (fun g b hb => (fn112 g.1 b hb).2)
theorem e112_pure {F : Orc} {f : Nat} (h : PureF F f) : PureF (e112 F) f := orL_pure h (fun b => by kernel_rfl)
/-! ### 195: keyhole/flat.usesVar -/
noncomputable def F195 : Orc := or0
theorem F195_ok : OrcG Tryz.prog F195 := or0_g
abbrev E195 : Type := Bool
abbrev P195_e : Type := (Bool × Unit) × (Unit)
noncomputable def rb195_e : St → Option P195_e := stR 0 (slC 2 asB slN) rsN
noncomputable def pb195_e : P195_e → St := stP 0 (fun z => [(2, .b z.1)]) (fun z => [])
noncomputable def mk195_e (z : P195_e) : E195 := z.1.1
noncomputable def pt195_e (x : E195) : St := pb195_e ((x, ()), (()))
noncomputable def rd195_e : St → Option E195 := rdC 0 [] [2] (rdM mk195_e rb195_e)
theorem rb195_e_ok (n : Nat) : RdOk 0 n rb195_e pb195_e := stR_ok (.cons .b .nil) .nil
theorem rd195_e_ok (n : Nat) : RdOk 0 n rd195_e pt195_e := rdC_ok ((rb195_e_ok n).m mk195_e (pat' := pt195_e) fun _ => rfl)
noncomputable def an195 : An := (.two .no (.two (.rb [] 2) .no))
theorem pu195  : ∀ f ∈ ([] : List Nat), PureF (F195) f := fun f hf => by
  cases hf
theorem fa195 : FnAn Tryz.prog (F195) 0 300 195 (an195) := fnAn_of (l := [(.skip, (.rb [] 2))]) Tryz.func195 (bodyOf_eq (by kernel_rfl)) (by kernel_rfl) fun p hp => by
  simp only [List.mem_cons, List.not_mem_nil, or_false] at hp
  rcases hp with rfl
  · exact pu195
noncomputable def m195 (a0 : Int) : E195 :=
  let r1 : Bool := bif decide (a0 = 0) then
    true
  else
    decide (a0 = 5)
  r1
theorem c195 (a0 : Int) : callR Tryz.prog (F195) 300 (an195) 195 [.n .i64 a0] [] 0 rd195_e = some (m195 a0) := by
  refine Eq.trans (b := (
    match bif decide (a0 = 0) then
      some (true)
    else
      some (decide (a0 = 5)) with
    | none =>
      none
    | some r1 =>
      some (r1) : Option E195)) (by kernel_rfl) ?_
  simp only [m195, cond_some, ite_some]
noncomputable def o195 (x : E195) : Out := match (match outOf Tryz.prog 195 (pt195_e x) with
    | some ds => some (Out.mk (resA ds) (keepR (pt195_e x).R 0 (resA ds)) (pt195_e x).nx)
    | none => none) with
  | some o => o
  | none => ⟨.tup [], [], 0⟩
theorem fn195 (a0 : Int) (r : E195) (h : m195 a0 = r) : fnOk Tryz.prog 195 ∧ FnY Tryz.prog 195 [.n .i64 a0] [] 0 (o195 r) :=
  fnY_of (p := r) F195_ok (fa195) rd195_e_ok (fun p => by kernel_rfl) (ltd_of (by kernel_rfl)) (rltd_of (by kernel_rfl)) ((c195 a0).trans (congrArg some h))
theorem fnok195 : fnOk Tryz.prog 195 := ⟨_, Tryz.func195, by kernel_rfl, by kernel_rfl⟩
noncomputable def e195 (F : Orc) : Orc := orL 195 false (pkC (asI .i64) pkN) (fun g => some (m195 g.1) : (Int × Unit) → Option E195) o195 F
theorem e195_ok {F : Orc} (h : OrcG Tryz.prog F) : OrcG Tryz.prog (e195 F) := orL_g (sc := scU) h scU_ok fnok195 (ca := fun g => [.n .i64 g.1]) ((.cons (.i .i64) .nil) : PkN (pkC (asI .i64) pkN) _) (fun b => by kernel_rfl) (fun b => by kernel_rfl) (fun g b hb => (fn195 g.1 b (Option.some.inj hb)).2)
theorem e195_pure {F : Orc} {f : Nat} (h : PureF F f) : PureF (e195 F) f := orL_pure h (fun b => by kernel_rfl)
/-! ### 196: keyhole/flat.usesN -/
noncomputable def F196 : Orc := or0
theorem F196_ok : OrcG Tryz.prog F196 := or0_g
abbrev E196 : Type := Bool
abbrev P196_e : Type := (Bool × Unit) × (Unit)
noncomputable def rb196_e : St → Option P196_e := stR 0 (slC 2 asB slN) rsN
noncomputable def pb196_e : P196_e → St := stP 0 (fun z => [(2, .b z.1)]) (fun z => [])
noncomputable def mk196_e (z : P196_e) : E196 := z.1.1
noncomputable def pt196_e (x : E196) : St := pb196_e ((x, ()), (()))
noncomputable def rd196_e : St → Option E196 := rdC 0 [] [2] (rdM mk196_e rb196_e)
theorem rb196_e_ok (n : Nat) : RdOk 0 n rb196_e pb196_e := stR_ok (.cons .b .nil) .nil
theorem rd196_e_ok (n : Nat) : RdOk 0 n rd196_e pt196_e := rdC_ok ((rb196_e_ok n).m mk196_e (pat' := pt196_e) fun _ => rfl)
noncomputable def an196 : An := (.two .no (.two (.rb [] 2) .no))
theorem pu196  : ∀ f ∈ ([] : List Nat), PureF (F196) f := fun f hf => by
  cases hf
theorem fa196 : FnAn Tryz.prog (F196) 0 300 196 (an196) := fnAn_of (l := [(.skip, (.rb [] 2))]) Tryz.func196 (bodyOf_eq (by kernel_rfl)) (by kernel_rfl) fun p hp => by
  simp only [List.mem_cons, List.not_mem_nil, or_false] at hp
  rcases hp with rfl
  · exact pu196
noncomputable def m196 (a0 : Int) : E196 :=
  let r1 : Bool := bif decide (a0 = 4) then
    true
  else
    decide (a0 = 5)
  r1
theorem c196 (a0 : Int) : callR Tryz.prog (F196) 300 (an196) 196 [.n .i64 a0] [] 0 rd196_e = some (m196 a0) := by
  refine Eq.trans (b := (
    match bif decide (a0 = 4) then
      some (true)
    else
      some (decide (a0 = 5)) with
    | none =>
      none
    | some r1 =>
      some (r1) : Option E196)) (by kernel_rfl) ?_
  simp only [m196, cond_some, ite_some]
noncomputable def o196 (x : E196) : Out := match (match outOf Tryz.prog 196 (pt196_e x) with
    | some ds => some (Out.mk (resA ds) (keepR (pt196_e x).R 0 (resA ds)) (pt196_e x).nx)
    | none => none) with
  | some o => o
  | none => ⟨.tup [], [], 0⟩
theorem fn196 (a0 : Int) (r : E196) (h : m196 a0 = r) : fnOk Tryz.prog 196 ∧ FnY Tryz.prog 196 [.n .i64 a0] [] 0 (o196 r) :=
  fnY_of (p := r) F196_ok (fa196) rd196_e_ok (fun p => by kernel_rfl) (ltd_of (by kernel_rfl)) (rltd_of (by kernel_rfl)) ((c196 a0).trans (congrArg some h))
theorem fnok196 : fnOk Tryz.prog 196 := ⟨_, Tryz.func196, by kernel_rfl, by kernel_rfl⟩
noncomputable def e196 (F : Orc) : Orc := orL 196 false (pkC (asI .i64) pkN) (fun g => some (m196 g.1) : (Int × Unit) → Option E196) o196 F
theorem e196_ok {F : Orc} (h : OrcG Tryz.prog F) : OrcG Tryz.prog (e196 F) := orL_g (sc := scU) h scU_ok fnok196 (ca := fun g => [.n .i64 g.1]) ((.cons (.i .i64) .nil) : PkN (pkC (asI .i64) pkN) _) (fun b => by kernel_rfl) (fun b => by kernel_rfl) (fun g b hb => (fn196 g.1 b (Option.some.inj hb)).2)
theorem e196_pure {F : Orc} {f : Nat} (h : PureF F f) : PureF (e196 F) f := orL_pure h (fun b => by kernel_rfl)
/-! ### 197: keyhole/flat.usesTerm -/
noncomputable def F197 : Orc := or0
theorem F197_ok : OrcG Tryz.prog F197 := or0_g
abbrev E197 : Type := Bool
abbrev P197_e : Type := (Bool × Unit) × (Unit)
noncomputable def rb197_e : St → Option P197_e := stR 0 (slC 2 asB slN) rsN
noncomputable def pb197_e : P197_e → St := stP 0 (fun z => [(2, .b z.1)]) (fun z => [])
noncomputable def mk197_e (z : P197_e) : E197 := z.1.1
noncomputable def pt197_e (x : E197) : St := pb197_e ((x, ()), (()))
noncomputable def rd197_e : St → Option E197 := rdC 0 [] [2] (rdM mk197_e rb197_e)
theorem rb197_e_ok (n : Nat) : RdOk 0 n rb197_e pb197_e := stR_ok (.cons .b .nil) .nil
theorem rd197_e_ok (n : Nat) : RdOk 0 n rd197_e pt197_e := rdC_ok ((rb197_e_ok n).m mk197_e (pat' := pt197_e) fun _ => rfl)
noncomputable def an197 : An := (.two .no (.two (.rb [] 2) .no))
theorem pu197  : ∀ f ∈ ([] : List Nat), PureF (F197) f := fun f hf => by
  cases hf
theorem fa197 : FnAn Tryz.prog (F197) 0 300 197 (an197) := fnAn_of (l := [(.skip, (.rb [] 2))]) Tryz.func197 (bodyOf_eq (by kernel_rfl)) (by kernel_rfl) fun p hp => by
  simp only [List.mem_cons, List.not_mem_nil, or_false] at hp
  rcases hp with rfl
  · exact pu197
noncomputable def m197 (a0 : Int) : E197 :=
  let r1 : Bool := bif decide (a0 = 0) then
    true
  else
    bif decide (a0 = 1) then
      true
    else
      bif decide (a0 = 3) then
        true
      else
        decide (a0 = 4)
  r1
theorem c197 (a0 : Int) : callR Tryz.prog (F197) 300 (an197) 197 [.n .i64 a0] [] 0 rd197_e = some (m197 a0) := by
  refine Eq.trans (b := (
    match bif decide (a0 = 0) then
      some (true)
    else
      bif decide (a0 = 1) then
        some (true)
      else
        bif decide (a0 = 3) then
          some (true)
        else
          some (decide (a0 = 4)) with
    | none =>
      none
    | some r1 =>
      some (r1) : Option E197)) (by kernel_rfl) ?_
  simp only [m197, cond_some, ite_some]
noncomputable def o197 (x : E197) : Out := match (match outOf Tryz.prog 197 (pt197_e x) with
    | some ds => some (Out.mk (resA ds) (keepR (pt197_e x).R 0 (resA ds)) (pt197_e x).nx)
    | none => none) with
  | some o => o
  | none => ⟨.tup [], [], 0⟩
theorem fn197 (a0 : Int) (r : E197) (h : m197 a0 = r) : fnOk Tryz.prog 197 ∧ FnY Tryz.prog 197 [.n .i64 a0] [] 0 (o197 r) :=
  fnY_of (p := r) F197_ok (fa197) rd197_e_ok (fun p => by kernel_rfl) (ltd_of (by kernel_rfl)) (rltd_of (by kernel_rfl)) ((c197 a0).trans (congrArg some h))
theorem fnok197 : fnOk Tryz.prog 197 := ⟨_, Tryz.func197, by kernel_rfl, by kernel_rfl⟩
noncomputable def e197 (F : Orc) : Orc := orL 197 false (pkC (asI .i64) pkN) (fun g => some (m197 g.1) : (Int × Unit) → Option E197) o197 F
theorem e197_ok {F : Orc} (h : OrcG Tryz.prog F) : OrcG Tryz.prog (e197 F) := orL_g (sc := scU) h scU_ok fnok197 (ca := fun g => [.n .i64 g.1]) ((.cons (.i .i64) .nil) : PkN (pkC (asI .i64) pkN) _) (fun b => by kernel_rfl) (fun b => by kernel_rfl) (fun g b hb => (fn197 g.1 b (Option.some.inj hb)).2)
theorem e197_pure {F : Orc} {f : Nat} (h : PureF F f) : PureF (e197 F) f := orL_pure h (fun b => by kernel_rfl)
/-! ### 198: keyhole/flat.zeroTerm -/
noncomputable def F198 : Orc := or0
theorem F198_ok : OrcG Tryz.prog F198 := or0_g
abbrev E198 : Type := Bool
abbrev P198_e : Type := (Bool × Unit) × (Unit)
noncomputable def rb198_e : St → Option P198_e := stR 0 (slC 2 asB slN) rsN
noncomputable def pb198_e : P198_e → St := stP 0 (fun z => [(2, .b z.1)]) (fun z => [])
noncomputable def mk198_e (z : P198_e) : E198 := z.1.1
noncomputable def pt198_e (x : E198) : St := pb198_e ((x, ()), (()))
noncomputable def rd198_e : St → Option E198 := rdC 0 [] [2] (rdM mk198_e rb198_e)
theorem rb198_e_ok (n : Nat) : RdOk 0 n rb198_e pb198_e := stR_ok (.cons .b .nil) .nil
theorem rd198_e_ok (n : Nat) : RdOk 0 n rd198_e pt198_e := rdC_ok ((rb198_e_ok n).m mk198_e (pat' := pt198_e) fun _ => rfl)
noncomputable def an198 : An := (.two .no (.two (.rb [] 2) .no))
theorem pu198  : ∀ f ∈ ([] : List Nat), PureF (F198) f := fun f hf => by
  cases hf
theorem fa198 : FnAn Tryz.prog (F198) 0 300 198 (an198) := fnAn_of (l := [(.skip, (.rb [] 2))]) Tryz.func198 (bodyOf_eq (by kernel_rfl)) (by kernel_rfl) fun p hp => by
  simp only [List.mem_cons, List.not_mem_nil, or_false] at hp
  rcases hp with rfl
  · exact pu198
noncomputable def m198 (a0 : GTerm) : E198 :=
  let r1 : Bool := bif decide (a0.fOp = 0) then
    bif decide (a0.fN = 0) then
      decide ((↑a0.fKids.length : Int) = 0)
    else
      false
  else
    false
  r1
theorem c198 (a0 : GTerm) : callR Tryz.prog (F198) 300 (an198) 198 [.agg (uni.cells 97 a0)] [] 0 rd198_e = some (m198 a0) := by
  refine Eq.trans (b := (
    match bif decide (a0.fOp = 0) then
      bif decide (a0.fN = 0) then
        some (decide ((↑a0.fKids.length : Int) = 0))
      else
        some (false)
    else
      some (false) with
    | none =>
      none
    | some r1 =>
      some (r1) : Option E198)) (by kernel_rfl) ?_
  simp only [m198, cond_some, ite_some]
noncomputable def o198 (x : E198) : Out := match (match outOf Tryz.prog 198 (pt198_e x) with
    | some ds => some (Out.mk (resA ds) (keepR (pt198_e x).R 0 (resA ds)) (pt198_e x).nx)
    | none => none) with
  | some o => o
  | none => ⟨.tup [], [], 0⟩
theorem fn198 (a0 : GTerm) (r : E198) (h : m198 a0 = r) : fnOk Tryz.prog 198 ∧ FnY Tryz.prog 198 [.agg (uni.cells 97 a0)] [] 0 (o198 r) :=
  fnY_of (p := r) F198_ok (fa198) rd198_e_ok (fun p => by kernel_rfl) (ltd_of (by kernel_rfl)) (rltd_of (by kernel_rfl)) ((c198 a0).trans (congrArg some h))
theorem fnok198 : fnOk Tryz.prog 198 := ⟨_, Tryz.func198, by kernel_rfl, by kernel_rfl⟩
noncomputable def e198 (F : Orc) : Orc := orL 198 false (pkC (asGc 97) pkN) (fun g => some (m198 g.1) : (GTerm × Unit) → Option E198) o198 F
theorem e198_ok {F : Orc} (h : OrcG Tryz.prog F) : OrcG Tryz.prog (e198 F) := orL_g (sc := scU) h scU_ok fnok198 (ca := fun g => [.agg (uni.cells 97 g.1)]) ((.cons (.g 97) .nil) : PkN (pkC (asGc 97) pkN) _) (fun b => by kernel_rfl) (fun b => by kernel_rfl) (fun g b hb => (fn198 g.1 b (Option.some.inj hb)).2)
theorem e198_pure {F : Orc} {f : Nat} (h : PureF F f) : PureF (e198 F) f := orL_pure h (fun b => by kernel_rfl)
/-! ### 199: keyhole/flat.rising -/
noncomputable def F199 : Orc := or0
theorem F199_ok : OrcG Tryz.prog F199 := or0_g
structure L199_0 where
  t0 : List Int
  t5 : Int
  t6 : Int
abbrev P199_0 : Type := ((List Int) × Int × Int × Unit) × (Unit)
noncomputable def rb199_0 : St → Option P199_0 := stR 0 (slC 0 (asL 3) (slC 5 (asI .i64) (slC 6 (asI .i64) slN))) rsN
noncomputable def pb199_0 : P199_0 → St := stP 0 (fun z => [(0, .sl 3 z.1), (5, .n .i64 z.2.1), (6, .n .i64 z.2.2.1)]) (fun z => [])
noncomputable def mk199_0 (z : P199_0) : L199_0 := ⟨z.1.1, z.1.2.1, z.1.2.2.1⟩
noncomputable def pt199_0 (x : L199_0) : St := pb199_0 ((x.t0, x.t5, x.t6, ()), (()))
noncomputable def rd199_0 : St → Option L199_0 := rdC 0 [] [0, 5, 6] (rdM mk199_0 rb199_0)
theorem rb199_0_ok (n : Nat) : RdOk 0 n rb199_0 pb199_0 := stR_ok (.cons (.l 3) (.cons (.i .i64) (.cons (.i .i64) .nil))) .nil
theorem rd199_0_ok (n : Nat) : RdOk 0 n rd199_0 pt199_0 := rdC_ok ((rb199_0_ok n).m mk199_0 (pat' := pt199_0) fun _ => rfl)
noncomputable def n199_0 (p : L199_0) : Option (Option L199_0) :=
  bif decide (p.t6 < p.t5) then
    bif decide (0 < p.t6) then
      if (0 : Int) ≤ p.t6 ∧ p.t6 < (↑p.t0.length : Int) then
        if (0 : Int) ≤ IntKind.i64.wrap (p.t6 - (1 : Int)) ∧ IntKind.i64.wrap (p.t6 - (1 : Int)) < (↑p.t0.length : Int) then
          bif decide (((p.t0, p.t5, p.t6, ()), ()).fst.fst[((p.t0, p.t5, p.t6, ()), ()).fst.snd.snd.fst.toNat]! ≤ ((p.t0, p.t5, p.t6, ()), ()).fst.fst[(IntKind.i64.wrap (((p.t0, p.t5, p.t6, ()), ()).fst.snd.snd.fst - 1)).toNat]!) then
            some (none)
          else
            some (some (L199_0.mk p.t0 p.t5 (IntKind.i64.wrap (p.t6 + 1))))
        else
          none
      else
        none
    else
      some (some (L199_0.mk p.t0 p.t5 (IntKind.i64.wrap (p.t6 + 1))))
  else
    some (none)
theorem q199_0 (p : L199_0) : execA Tryz.prog (F199) Tryz.f199.ntmps 300 (loopAt Tryz.f199 0) .no (Option L199_0) (pt199_0 p) (kOn rd199_0) = n199_0 p := by kernel_rfl
noncomputable def a199_0 : L199_0 → Option L199_0 := advG (n199_0)
abbrev E199 : Type := Bool
abbrev P199_e : Type := (Bool × Unit) × (Unit)
noncomputable def rb199_e : St → Option P199_e := stR 0 (slC 2 asB slN) rsN
noncomputable def pb199_e : P199_e → St := stP 0 (fun z => [(2, .b z.1)]) (fun z => [])
noncomputable def mk199_e (z : P199_e) : E199 := z.1.1
noncomputable def pt199_e (x : E199) : St := pb199_e ((x, ()), (()))
noncomputable def rd199_e : St → Option E199 := rdC 0 [] [2] (rdM mk199_e rb199_e)
theorem rb199_e_ok (n : Nat) : RdOk 0 n rb199_e pb199_e := stR_ok (.cons .b .nil) .nil
theorem rd199_e_ok (n : Nat) : RdOk 0 n rd199_e pt199_e := rdC_ok ((rb199_e_ok n).m mk199_e (pat' := pt199_e) fun _ => rfl)
noncomputable def an199 : An := (.two .no (.two (.two .no (.lp L199_0 rd199_0 pt199_0 a199_0 .no)) .no))
theorem fa199 : FnAn Tryz.prog (F199) 0 300 199 (an199) := fnAn_of (l := [(loopAt Tryz.f199 0, (.lp L199_0 rd199_0 pt199_0 a199_0 .no))]) Tryz.func199 (bodyOf_eq (by kernel_rfl)) (by kernel_rfl) fun p hp => by
  simp only [List.mem_cons, List.not_mem_nil, or_false] at hp
  rcases hp with rfl
  · exact ⟨rd199_0_ok _, advG_ok (q199_0)⟩
noncomputable def m199 (a0 : List Int) : Option E199 :=
  match a199_0 (L199_0.mk a0 (↑a0.length : Int) (0)) with
  | none =>
    none
  | some r1 =>
    bif decide (r1.t6 < r1.t5) then
      bif decide (0 < r1.t6) then
        if (0 : Int) ≤ r1.t6 ∧ r1.t6 < (↑r1.t0.length : Int) then
          if (0 : Int) ≤ IntKind.i64.wrap (r1.t6 - (1 : Int)) ∧ IntKind.i64.wrap (r1.t6 - (1 : Int)) < (↑r1.t0.length : Int) then
            bif decide (((r1.t0, r1.t5, r1.t6, ()), ()).fst.fst[((r1.t0, r1.t5, r1.t6, ()), ()).fst.snd.snd.fst.toNat]! ≤ ((r1.t0, r1.t5, r1.t6, ()), ()).fst.fst[(IntKind.i64.wrap (((r1.t0, r1.t5, r1.t6, ()), ()).fst.snd.snd.fst - 1)).toNat]!) then
              some (false)
            else
              none
          else
            none
        else
          none
      else
        none
    else
      some (true)
theorem c199 (a0 : List Int) : callR Tryz.prog (F199) 300 (an199) 199 [.sl 3 a0] [] 0 rd199_e = m199 a0 := by kernel_rfl
noncomputable def o199 (x : E199) : Out := match (match outOf Tryz.prog 199 (pt199_e x) with
    | some ds => some (Out.mk (resA ds) (keepR (pt199_e x).R 0 (resA ds)) (pt199_e x).nx)
    | none => none) with
  | some o => o
  | none => ⟨.tup [], [], 0⟩
theorem fn199 (a0 : List Int) (r : E199) (h : m199 a0 = some r) : fnOk Tryz.prog 199 ∧ FnY Tryz.prog 199 [.sl 3 a0] [] 0 (o199 r) :=
  fnY_of (p := r) F199_ok (fa199) rd199_e_ok (fun p => by kernel_rfl) (ltd_of (by kernel_rfl)) (rltd_of (by kernel_rfl)) ((c199 a0).trans h)
theorem fnok199 : fnOk Tryz.prog 199 := ⟨_, Tryz.func199, by kernel_rfl, by kernel_rfl⟩
noncomputable def e199 (F : Orc) : Orc := orL 199 false (pkC (asL 3) pkN) (fun g => m199 g.1 : ((List Int) × Unit) → Option E199) o199 F
theorem e199_ok {F : Orc} (h : OrcG Tryz.prog F) : OrcG Tryz.prog (e199 F) := orL_g (sc := scU) h scU_ok fnok199 (ca := fun g => [.sl 3 g.1]) ((.cons (.l 3) .nil) : PkN (pkC (asL 3) pkN) _) (fun b => by kernel_rfl) (fun b => by kernel_rfl) (fun g b hb => (fn199 g.1 b hb).2)
theorem e199_pure {F : Orc} {f : Nat} (h : PureF F f) : PureF (e199 F) f := orL_pure h (fun b => by kernel_rfl)
/-! ### 168: keyhole/flat.shaped -/
noncomputable def F168 : Orc := (e199 (e198 (e197 (e196 (e195 or0)))))
theorem F168_ok : OrcG Tryz.prog F168 := (e199_ok (e198_ok (e197_ok (e196_ok (e195_ok or0_g)))))
abbrev E168 : Type := Bool
abbrev P168_e : Type := (Bool × Unit) × (Unit)
noncomputable def rb168_e : St → Option P168_e := stR 0 (slC 6 asB slN) rsN
noncomputable def pb168_e : P168_e → St := stP 0 (fun z => [(6, .b z.1)]) (fun z => [])
noncomputable def mk168_e (z : P168_e) : E168 := z.1.1
noncomputable def pt168_e (x : E168) : St := pb168_e ((x, ()), (()))
noncomputable def rd168_e : St → Option E168 := rdC 0 [] [6] (rdM mk168_e rb168_e)
theorem rb168_e_ok (n : Nat) : RdOk 0 n rb168_e pb168_e := stR_ok (.cons .b .nil) .nil
theorem rd168_e_ok (n : Nat) : RdOk 0 n rd168_e pt168_e := rdC_ok ((rb168_e_ok n).m mk168_e (pat' := pt168_e) fun _ => rfl)
noncomputable def an168 : An := (.two .no (.two .no (.two (.two (.two (.rb [195, 196, 197, 198, 199] 10) (.two .no (.two (.rb [195, 196, 197, 198, 199] 10) (.two .no (.two (.rb [195, 196, 197, 198, 199] 10) (.two .no (.two (.rb [195, 196, 197, 198, 199] 10) (.two .no (.two (.rb [195, 196, 197, 198, 199] 10) (.two .no (.two (.rb [195, 196, 197, 198, 199] 10) (.two .no (.two (.rb [195, 196, 197, 198, 199] 10) (.two .no (.two (.rb [195, 196, 197, 198, 199] 10) (.two .no (.rb [195, 196, 197, 198, 199] 10))))))))))))))))) .no) (.two (.rb [195, 196, 197, 198, 199] 6) .no))))
theorem pu168  : ∀ f ∈ ([195, 196, 197, 198, 199] : List Nat), PureF (F168) f := fun f hf => by
  simp only [List.mem_cons, List.not_mem_nil, or_false] at hf
  rcases hf with rfl | rfl | rfl | rfl | rfl
  · exact (e199_pure (e198_pure (e197_pure (e196_pure (e195_pure or0_pure)))))
  · exact (e199_pure (e198_pure (e197_pure (e196_pure (e195_pure or0_pure)))))
  · exact (e199_pure (e198_pure (e197_pure (e196_pure (e195_pure or0_pure)))))
  · exact (e199_pure (e198_pure (e197_pure (e196_pure (e195_pure or0_pure)))))
  · exact (e199_pure (e198_pure (e197_pure (e196_pure (e195_pure or0_pure)))))
theorem fa168 : FnAn Tryz.prog (F168) 0 300 168 (an168) := fnAn_of (l := [(.skip, (.rb [195, 196, 197, 198, 199] 10)), (.skip, (.rb [195, 196, 197, 198, 199] 10)), (.skip, (.rb [195, 196, 197, 198, 199] 10)), (.skip, (.rb [195, 196, 197, 198, 199] 10)), (.skip, (.rb [195, 196, 197, 198, 199] 10)), (.skip, (.rb [195, 196, 197, 198, 199] 10)), (.skip, (.rb [195, 196, 197, 198, 199] 10)), (.skip, (.rb [195, 196, 197, 198, 199] 10)), (.skip, (.rb [195, 196, 197, 198, 199] 10)), (.skip, (.rb [195, 196, 197, 198, 199] 6))]) Tryz.func168 (bodyOf_eq (by kernel_rfl)) (by kernel_rfl) fun p hp => by
  simp only [List.mem_cons, List.not_mem_nil, or_false] at hp
  rcases hp with rfl | rfl | rfl | rfl | rfl | rfl | rfl | rfl | rfl | rfl
  · exact pu168
  · exact pu168
  · exact pu168
  · exact pu168
  · exact pu168
  · exact pu168
  · exact pu168
  · exact pu168
  · exact pu168
  · exact pu168
noncomputable def m168 (a0 : Flat) (a1 : GStep) (a2 : Bool) : Option E168 :=
  match bif decide (a1.fDo < 0) then
    some (true)
  else
    some (decide (6 < a1.fDo)) with
  | none =>
    none
  | some r1 =>
    bif r1 then
      some (false)
    else
      match bif bif m195 a1.fDo then false else true then
        some (bif decide (a1.fVar = 0) then false else true)
      else
        some (false) with
      | none =>
        none
      | some r2 =>
        bif r2 then
          some (false)
        else
          match bif bif m196 a1.fDo then false else true then
            some (bif decide (a1.fN = 0) then false else true)
          else
            some (false) with
          | none =>
            none
          | some r3 =>
            bif r3 then
              some (false)
            else
              match bif bif m197 a1.fDo then false else true then
                some (bif m198 (GTerm.mk a1.fTerm.fOp a1.fTerm.fN a1.fTerm.fKids) then false else true)
              else
                some (false) with
              | none =>
                none
              | some r4 =>
                bif r4 then
                  some (false)
                else
                  match bif bif decide (a1.fDo = 3) then false else true then
                    bif bif decide (a1.fDo = 4) then false else true then
                      some (decide (0 < (↑a1.fThen.length : Int)))
                    else
                      some (false)
                  else
                    some (false) with
                  | none =>
                    none
                  | some r5 =>
                    bif r5 then
                      some (false)
                    else
                      match bif bif decide (a1.fDo = 3) then false else true then
                        some (decide (0 < (↑a1.fElse.length : Int)))
                      else
                        some (false) with
                      | none =>
                        none
                      | some r6 =>
                        bif r6 then
                          some (false)
                        else
                          match bif bif decide (a1.fDo = 6) then false else true then
                            some (decide (0 < (↑a1.fBounds.length : Int)))
                          else
                            some (false) with
                          | none =>
                            none
                          | some r7 =>
                            bif r7 then
                              some (false)
                            else
                              match bif m195 a1.fDo then
                                bif decide (a1.fVar < 0) then
                                  some (true)
                                else
                                  bif decide ((↑a0.fVars.length : Int) ≤ a1.fVar) then
                                    some (true)
                                  else
                                    if (0 : Int) ≤ a1.fVar ∧ a1.fVar < (↑a0.fVars.length : Int) then
                                      some (bif decide (a0.fVars[a1.fVar.toNat]!.fKind = 0) then false else true)
                                    else
                                      none
                              else
                                some (false) with
                              | none =>
                                none
                              | some r8 =>
                                bif r8 then
                                  some (false)
                                else
                                  match bif decide (a1.fDo = 5) then
                                    bif decide (a1.fN < 0) then
                                      some (true)
                                    else
                                      some (decide ((↑a0.fHatches.length : Int) ≤ a1.fN))
                                  else
                                    some (false) with
                                  | none =>
                                    none
                                  | some r9 =>
                                    bif r9 then
                                      some (false)
                                    else
                                      match bif bif decide (a1.fDo = 6) then false else true then
                                        some (true)
                                      else
                                        bif a2 then
                                          bif decide (0 < (↑a1.fBounds.length : Int)) then
                                            bif decide ((↑a1.fBounds.length : Int) ≤ 32) then
                                              if (0 : Int) ≤ (0 : Int) ∧ (0 : Int) < (↑a1.fBounds.length : Int) then
                                                bif decide (0 ≤ a1.fBounds[Int.toNat 0]!) then
                                                  match m199 a1.fBounds with
                                                  | none =>
                                                    none
                                                  | some r10 =>
                                                    some (r10)
                                                else
                                                  some (false)
                                              else
                                                none
                                            else
                                              some (false)
                                          else
                                            some (false)
                                        else
                                          some (false) with
                                      | none =>
                                        none
                                      | some r11 =>
                                        some (r11)
theorem c168 (a0 : Flat) (a1 : GStep) (a2 : Bool) : callR Tryz.prog (F168) 300 (an168) 168 [.agg (uni.cells 26 a0), .agg (uni.cells 134 a1), .b a2] [] 0 rd168_e = m168 a0 a1 a2 := by kernel_rfl
noncomputable def o168 (x : E168) : Out := match (match outOf Tryz.prog 168 (pt168_e x) with
    | some ds => some (Out.mk (resA ds) (keepR (pt168_e x).R 0 (resA ds)) (pt168_e x).nx)
    | none => none) with
  | some o => o
  | none => ⟨.tup [], [], 0⟩
theorem fn168 (a0 : Flat) (a1 : GStep) (a2 : Bool) (r : E168) (h : m168 a0 a1 a2 = some r) : fnOk Tryz.prog 168 ∧ FnY Tryz.prog 168 [.agg (uni.cells 26 a0), .agg (uni.cells 134 a1), .b a2] [] 0 (o168 r) :=
  fnY_of (p := r) F168_ok (fa168) rd168_e_ok (fun p => by kernel_rfl) (ltd_of (by kernel_rfl)) (rltd_of (by kernel_rfl)) ((c168 a0 a1 a2).trans h)
theorem fnok168 : fnOk Tryz.prog 168 := ⟨_, Tryz.func168, by kernel_rfl, by kernel_rfl⟩
noncomputable def e168 (F : Orc) : Orc := orL 168 false (pkC (asGc 26) (pkC (asGc 134) (pkC asB pkN))) (fun g => m168 g.1 g.2.1 g.2.2.1 : (Flat × GStep × Bool × Unit) → Option E168) o168 F
theorem e168_ok {F : Orc} (h : OrcG Tryz.prog F) : OrcG Tryz.prog (e168 F) := orL_g (sc := scU) h scU_ok fnok168 (ca := fun g => [.agg (uni.cells 26 g.1), .agg (uni.cells 134 g.2.1), .b g.2.2.1]) ((.cons (.g 26) (.cons (.g 134) (.cons .b .nil))) : PkN (pkC (asGc 26) (pkC (asGc 134) (pkC asB pkN))) _) (fun b => by kernel_rfl) (fun b => by kernel_rfl) (fun g b hb => (fn168 g.1 g.2.1 g.2.2.1 b hb).2)
theorem e168_pure {F : Orc} {f : Nat} (h : PureF F f) : PureF (e168 F) f := orL_pure h (fun b => by kernel_rfl)
/-! ### 169: keyhole/flat.numbered -/
noncomputable def F169 : Orc := or0
theorem F169_ok : OrcG Tryz.prog F169 := or0_g
abbrev E169 : Type := Bool
abbrev P169_e : Type := (Bool × Unit) × (Unit)
noncomputable def rb169_e : St → Option P169_e := stR 0 (slC 2 asB slN) rsN
noncomputable def pb169_e : P169_e → St := stP 0 (fun z => [(2, .b z.1)]) (fun z => [])
noncomputable def mk169_e (z : P169_e) : E169 := z.1.1
noncomputable def pt169_e (x : E169) : St := pb169_e ((x, ()), (()))
noncomputable def rd169_e : St → Option E169 := rdC 0 [] [2] (rdM mk169_e rb169_e)
theorem rb169_e_ok (n : Nat) : RdOk 0 n rb169_e pb169_e := stR_ok (.cons .b .nil) .nil
theorem rd169_e_ok (n : Nat) : RdOk 0 n rd169_e pt169_e := rdC_ok ((rb169_e_ok n).m mk169_e (pat' := pt169_e) fun _ => rfl)
noncomputable def an169 : An := (.two .no (.two .no (.two .no (.two (.two (.rb [] 30) .no) (.two (.rb [] 2) .no)))))
theorem pu169  : ∀ f ∈ ([] : List Nat), PureF (F169) f := fun f hf => by
  cases hf
theorem fa169 : FnAn Tryz.prog (F169) 0 300 169 (an169) := fnAn_of (l := [(.skip, (.rb [] 30)), (.skip, (.rb [] 2))]) Tryz.func169 (bodyOf_eq (by kernel_rfl)) (by kernel_rfl) fun p hp => by
  simp only [List.mem_cons, List.not_mem_nil, or_false] at hp
  rcases hp with rfl | rfl
  · exact pu169
  · exact pu169
noncomputable def m169 (a0 : GStep) : Option E169 :=
  bif decide (a0.fDo = 2) then
    match bif decide (a0.fCost < 0) then
      some (true)
    else
      bif decide (67108864 < a0.fCost) then
        some (true)
      else
        bif decide (a0.fDo = 4) then
          bif decide (a0.fN < 0) then
            some (true)
          else
            some (decide (4096 < a0.fN))
        else
          some (false) with
    | none =>
      none
    | some r1 =>
      bif r1 then
        some (false)
      else
        match bif bif decide (a0.fDo = 6) then false else true then
          some (true)
        else
          if (0 : Int) ≤ IntKind.i64.wrap ((↑a0.fBounds.length : Int) - (1 : Int)) ∧ IntKind.i64.wrap ((↑a0.fBounds.length : Int) - (1 : Int)) < (↑a0.fBounds.length : Int) then
            some (decide (a0.fBounds[(IntKind.i64.wrap ((↑a0.fBounds.length : Int) - 1)).toNat]! ≤ 67108864))
          else
            none with
        | none =>
          none
        | some r2 =>
          some (r2)
  else
    match bif decide (a0.fCost < 0) then
      some (true)
    else
      bif decide (10000 < a0.fCost) then
        some (true)
      else
        bif decide (a0.fDo = 4) then
          bif decide (a0.fN < 0) then
            some (true)
          else
            some (decide (4096 < a0.fN))
        else
          some (false) with
    | none =>
      none
    | some r3 =>
      bif r3 then
        some (false)
      else
        match bif bif decide (a0.fDo = 6) then false else true then
          some (true)
        else
          if (0 : Int) ≤ IntKind.i64.wrap ((↑a0.fBounds.length : Int) - (1 : Int)) ∧ IntKind.i64.wrap ((↑a0.fBounds.length : Int) - (1 : Int)) < (↑a0.fBounds.length : Int) then
            some (decide (a0.fBounds[(IntKind.i64.wrap ((↑a0.fBounds.length : Int) - 1)).toNat]! ≤ 67108864))
          else
            none with
        | none =>
          none
        | some r4 =>
          some (r4)
theorem c169 (a0 : GStep) : callR Tryz.prog (F169) 300 (an169) 169 [.agg (uni.cells 134 a0)] [] 0 rd169_e = m169 a0 := by kernel_rfl
noncomputable def o169 (x : E169) : Out := match (match outOf Tryz.prog 169 (pt169_e x) with
    | some ds => some (Out.mk (resA ds) (keepR (pt169_e x).R 0 (resA ds)) (pt169_e x).nx)
    | none => none) with
  | some o => o
  | none => ⟨.tup [], [], 0⟩
theorem fn169 (a0 : GStep) (r : E169) (h : m169 a0 = some r) : fnOk Tryz.prog 169 ∧ FnY Tryz.prog 169 [.agg (uni.cells 134 a0)] [] 0 (o169 r) :=
  fnY_of (p := r) F169_ok (fa169) rd169_e_ok (fun p => by kernel_rfl) (ltd_of (by kernel_rfl)) (rltd_of (by kernel_rfl)) ((c169 a0).trans h)
theorem fnok169 : fnOk Tryz.prog 169 := ⟨_, Tryz.func169, by kernel_rfl, by kernel_rfl⟩
noncomputable def e169 (F : Orc) : Orc := orL 169 false (pkC (asGc 134) pkN) (fun g => m169 g.1 : (GStep × Unit) → Option E169) o169 F
theorem e169_ok {F : Orc} (h : OrcG Tryz.prog F) : OrcG Tryz.prog (e169 F) := orL_g (sc := scU) h scU_ok fnok169 (ca := fun g => [.agg (uni.cells 134 g.1)]) ((.cons (.g 134) .nil) : PkN (pkC (asGc 134) pkN) _) (fun b => by kernel_rfl) (fun b => by kernel_rfl) (fun g b hb => (fn169 g.1 b hb).2)
theorem e169_pure {F : Orc} {f : Nat} (h : PureF F f) : PureF (e169 F) f := orL_pure h (fun b => by kernel_rfl)
/-! ### 113: keyhole/flat.stepsCode -/
abbrev E113 : Type := Int
abbrev P113_e : Type := (Int × Unit) × (Unit)
noncomputable def rb113_e : St → Option P113_e := stR 0 (slC 6 (asI .i64) slN) rsN
noncomputable def pb113_e : P113_e → St := stP 0 (fun z => [(6, .n .i64 z.1)]) (fun z => [])
noncomputable def mk113_e (z : P113_e) : E113 := z.1.1
noncomputable def pt113_e (x : E113) : St := pb113_e ((x, ()), (()))
noncomputable def rd113_e : St → Option E113 := rdC 0 [] [6] (rdM mk113_e rb113_e)
theorem rb113_e_ok (n : Nat) : RdOk 0 n rb113_e pb113_e := stR_ok (.cons (.i .i64) .nil) .nil
theorem rd113_e_ok (n : Nat) : RdOk 0 n rd113_e pt113_e := rdC_ok ((rb113_e_ok n).m mk113_e (pat' := pt113_e) fun _ => rfl)
noncomputable def o113 (x : E113) : Out := match (match outOf Tryz.prog 113 (pt113_e x) with
    | some ds => some (Out.mk (resA ds) (keepR (pt113_e x).R 0 (resA ds)) (pt113_e x).nx)
    | none => none) with
  | some o => o
  | none => ⟨.tup [], [], 0⟩
theorem fnok113 : fnOk Tryz.prog 113 := ⟨_, Tryz.func113, by kernel_rfl, by kernel_rfl⟩
noncomputable def x113 (M113 : Flat → (List GStep) → Bool → Option E113) (F : Orc) : Orc := orL 113 false (pkC (asGc 26) (pkC (asL 134) (pkC asB pkN))) (fun g => M113 g.1 g.2.1 g.2.2.1 : (Flat × (List GStep) × Bool × Unit) → Option E113) o113 F
theorem x113_pure {M : Flat → (List GStep) → Bool → Option E113} {F : Orc} {f : Nat} (h : PureF F f) : PureF (x113 M F) f := orL_pure h (fun b => by kernel_rfl)
def H113 (M : Flat → (List GStep) → Bool → Option E113) : Prop := ∀ (a0 : Flat) (a1 : List GStep) (a2 : Bool) (r : E113), M a0 a1 a2 = some r → FnY Tryz.prog 113 [.agg (uni.cells 26 a0), .sl 134 a1, .b a2] [] 0 (o113 r)
theorem x113_ok {M : Flat → (List GStep) → Bool → Option E113} (hM : H113 M) {F : Orc} (h : OrcG Tryz.prog F) : OrcG Tryz.prog (x113 M F) := orL_g (sc := scU) h scU_ok fnok113 (ca := fun g => [.agg (uni.cells 26 g.1), .sl 134 g.2.1, .b g.2.2.1]) ((.cons (.g 26) (.cons (.l 134) (.cons .b .nil))) : PkN (pkC (asGc 26) (pkC (asL 134) (pkC asB pkN))) _) (fun b => by kernel_rfl) (fun b => by kernel_rfl) (fun g b hb => hM g.1 g.2.1 g.2.2.1 b hb)
noncomputable def F113 (M113 : Flat → (List GStep) → Bool → Option E113) : Orc := (e169 (e168 (e167 (x113 M113 or0))))
theorem F113_ok {M113} (h113 : H113 M113) : OrcG Tryz.prog (F113 M113) := (e169_ok (e168_ok (e167_ok (x113_ok h113 or0_g))))
structure L113_1 where
  t1 : List GStep
  t2 : Bool
  t13 : List GStep
  t14 : Int
  t15 : Int
  t47 : List (List GStep)
  t48 : Int
  t49 : Int
  b0 : Flat
abbrev P113_1 : Type := ((List GStep) × Bool × Unit × (List GStep) × Int × Int × Unit × Int × Int × Unit) × (Flat × (List (List GStep)) × Unit)
noncomputable def rb113_1 : St → Option P113_1 := stR 2 (slC 1 (asL 134) (slC 2 asB (slC 3 (asP 0 0) (slC 13 (asL 134) (slC 14 (asI .i64) (slC 15 (asI .i64) (slC 47 (asO 1) (slC 48 (asI .i64) (slC 49 (asI .i64) slN))))))))) (rsN2 0 26 (asCs 26) (rsR 1 24 rsN))
noncomputable def pb113_1 : P113_1 → St := stP 2 (fun z => [(1, .sl 134 z.1), (2, .b z.2.1), (3, .ptr 0 0), (13, .sl 134 z.2.2.2.1), (14, .n .i64 z.2.2.2.2.1), (15, .n .i64 z.2.2.2.2.2.1), (47, .own 1), (48, .n .i64 z.2.2.2.2.2.2.2.1), (49, .n .i64 z.2.2.2.2.2.2.2.2.1)]) (fun z => [(0, .box 26 (uni.cells 26 z.1)), (1, .row 24 z.2.1)])
noncomputable def mk113_1 (z : P113_1) : L113_1 := ⟨z.1.1, z.1.2.1, z.1.2.2.2.1, z.1.2.2.2.2.1, z.1.2.2.2.2.2.1, z.2.2.1, z.1.2.2.2.2.2.2.2.1, z.1.2.2.2.2.2.2.2.2.1, z.2.1⟩
noncomputable def pt113_1 (x : L113_1) : St := pb113_1 ((x.t1, x.t2, (), x.t13, x.t14, x.t15, (), x.t48, x.t49, ()), (x.b0, x.t47, ()))
noncomputable def rd113_1 : St → Option L113_1 := rdC 0 [] [1, 2, 3, 13, 14, 15, 47, 48, 49] (rdM mk113_1 rb113_1)
theorem rb113_1_ok (n : Nat) : RdOk 0 n rb113_1 pb113_1 := stR_ok (.cons (.l 134) (.cons .b (.cons (.p 0 0) (.cons (.l 134) (.cons (.i .i64) (.cons (.i .i64) (.cons (.o 1) (.cons (.i .i64) (.cons (.i .i64) .nil))))))))) (.boxN (PkN.parse 26) (.row .nil))
theorem rd113_1_ok (n : Nat) : RdOk 0 n rd113_1 pt113_1 := rdC_ok ((rb113_1_ok n).m mk113_1 (pat' := pt113_1) fun _ => rfl)
noncomputable def n113_1 (M113 : Flat → (List GStep) → Bool → Option E113) (p : L113_1) : Option (Option L113_1) :=
  bif decide (p.t49 < p.t48) then
    if (0 : Int) ≤ p.t49 ∧ p.t49 < (↑p.t47.length : Int) then
      if 24 = 24 ∧ p.t49.toNat < p.t47.length then
        match M113 p.b0 p.t47[p.t49.toNat]! false with
        | none =>
          none
        | some r8 =>
          bif bif decide (r8 = 0) then false else true then
            some (none)
          else
            some (some (L113_1.mk p.t1 p.t2 p.t13 p.t14 p.t15 p.t47 p.t48 (IntKind.i64.wrap (p.t49 + 1)) p.b0))
      else
        none
    else
      none
  else
    some (none)
theorem q113_1 (M113 : Flat → (List GStep) → Bool → Option E113) (p : L113_1) : execA Tryz.prog (F113 M113) Tryz.f113.ntmps 300 (loopAt Tryz.f113 1) .no (Option L113_1) (pt113_1 p) (kOn rd113_1) = n113_1 M113 p := by kernel_rfl
noncomputable def a113_1 (M113 : Flat → (List GStep) → Bool → Option E113) : L113_1 → Option L113_1 := advG (n113_1 M113)
structure L113_0 where
  t1 : List GStep
  t2 : Bool
  t13 : List GStep
  t14 : Int
  t15 : Int
  b0 : Flat
abbrev P113_0 : Type := ((List GStep) × Bool × Unit × (List GStep) × Int × Int × Unit) × (Flat × Unit)
noncomputable def rb113_0 : St → Option P113_0 := stR 1 (slC 1 (asL 134) (slC 2 asB (slC 3 (asP 0 0) (slC 13 (asL 134) (slC 14 (asI .i64) (slC 15 (asI .i64) slN)))))) (rsN2 0 26 (asCs 26) rsN)
noncomputable def pb113_0 : P113_0 → St := stP 1 (fun z => [(1, .sl 134 z.1), (2, .b z.2.1), (3, .ptr 0 0), (13, .sl 134 z.2.2.2.1), (14, .n .i64 z.2.2.2.2.1), (15, .n .i64 z.2.2.2.2.2.1)]) (fun z => [(0, .box 26 (uni.cells 26 z.1))])
noncomputable def mk113_0 (z : P113_0) : L113_0 := ⟨z.1.1, z.1.2.1, z.1.2.2.2.1, z.1.2.2.2.2.1, z.1.2.2.2.2.2.1, z.2.1⟩
noncomputable def pt113_0 (x : L113_0) : St := pb113_0 ((x.t1, x.t2, (), x.t13, x.t14, x.t15, ()), (x.b0, ()))
noncomputable def rd113_0 : St → Option L113_0 := rdC 0 [] [1, 2, 3, 13, 14, 15] (rdM mk113_0 rb113_0)
theorem rb113_0_ok (n : Nat) : RdOk 0 n rb113_0 pb113_0 := stR_ok (.cons (.l 134) (.cons .b (.cons (.p 0 0) (.cons (.l 134) (.cons (.i .i64) (.cons (.i .i64) .nil)))))) (.boxN (PkN.parse 26) .nil)
theorem rd113_0_ok (n : Nat) : RdOk 0 n rd113_0 pt113_0 := rdC_ok ((rb113_0_ok n).m mk113_0 (pat' := pt113_0) fun _ => rfl)
noncomputable def n113_0 (M113 : Flat → (List GStep) → Bool → Option E113) (p : L113_0) : Option (Option L113_0) :=
  bif decide (p.t15 < p.t14) then
    if (0 : Int) ≤ p.t15 ∧ p.t15 < (↑p.t13.length : Int) then
      match bif p.t2 then
        match m168 p.b0 (GStep.mk p.t13[p.t15.toNat]!.fDo p.t13[p.t15.toNat]!.fCost p.t13[p.t15.toNat]!.fVar p.t13[p.t15.toNat]!.fN (GTerm.mk p.t13[p.t15.toNat]!.fTerm.fOp p.t13[p.t15.toNat]!.fTerm.fN p.t13[p.t15.toNat]!.fTerm.fKids) p.t13[p.t15.toNat]!.fThen p.t13[p.t15.toNat]!.fElse p.t13[p.t15.toNat]!.fBounds) (decide (((p.t1, p.t2, (), p.t13, p.t14, p.t15, ()), p.b0, ()).fst.snd.snd.snd.snd.snd.fst = IntKind.i64.wrap ((↑((p.t1, p.t2, (), p.t13, p.t14, p.t15, ()), p.b0, ()).fst.fst.length : Int) - 1))) with
        | none =>
          none
        | some r1 =>
          some (bif r1 then false else true)
      else
        match m168 p.b0 (GStep.mk p.t13[p.t15.toNat]!.fDo p.t13[p.t15.toNat]!.fCost p.t13[p.t15.toNat]!.fVar p.t13[p.t15.toNat]!.fN (GTerm.mk p.t13[p.t15.toNat]!.fTerm.fOp p.t13[p.t15.toNat]!.fTerm.fN p.t13[p.t15.toNat]!.fTerm.fKids) p.t13[p.t15.toNat]!.fThen p.t13[p.t15.toNat]!.fElse p.t13[p.t15.toNat]!.fBounds) false with
        | none =>
          none
        | some r2 =>
          some (bif r2 then false else true) with
      | none =>
        none
      | some r3 =>
        bif r3 then
          some (none)
        else
          match m169 (GStep.mk p.t13[p.t15.toNat]!.fDo p.t13[p.t15.toNat]!.fCost p.t13[p.t15.toNat]!.fVar p.t13[p.t15.toNat]!.fN (GTerm.mk p.t13[p.t15.toNat]!.fTerm.fOp p.t13[p.t15.toNat]!.fTerm.fN p.t13[p.t15.toNat]!.fTerm.fKids) p.t13[p.t15.toNat]!.fThen p.t13[p.t15.toNat]!.fElse p.t13[p.t15.toNat]!.fBounds) with
          | none =>
            none
          | some r4 =>
            bif bif r4 then false else true then
              some (none)
            else
              match m167 p.b0.fVars (GTerm.mk p.t13[p.t15.toNat]!.fTerm.fOp p.t13[p.t15.toNat]!.fTerm.fN p.t13[p.t15.toNat]!.fTerm.fKids) false with
              | none =>
                none
              | some r5 =>
                bif bif decide (r5 = 0) then false else true then
                  some (none)
                else
                  match a113_1 M113 (L113_1.mk p.t1 p.t2 p.t13 p.t14 p.t15 [p.t13[p.t15.toNat]!.fThen, p.t13[p.t15.toNat]!.fElse] (↑[p.t13[p.t15.toNat]!.fThen, p.t13[p.t15.toNat]!.fElse].length : Int) (0) p.b0) with
                  | none =>
                    none
                  | some r6 =>
                    bif decide (r6.t49 < r6.t48) then
                      if (0 : Int) ≤ r6.t49 ∧ r6.t49 < (↑r6.t47.length : Int) then
                        if 24 = 24 ∧ r6.t49.toNat < r6.t47.length then
                          match M113 r6.b0 r6.t47[r6.t49.toNat]! false with
                          | none =>
                            none
                          | some r7 =>
                            bif bif decide (r7 = 0) then false else true then
                              some (none)
                            else
                              none
                        else
                          none
                      else
                        none
                    else
                      some (some (L113_0.mk r6.t1 r6.t2 r6.t13 r6.t14 (IntKind.i64.wrap (r6.t15 + 1)) r6.b0))
    else
      none
  else
    some (none)
theorem q113_0 (M113 : Flat → (List GStep) → Bool → Option E113) (p : L113_0) : execA Tryz.prog (F113 M113) Tryz.f113.ntmps 300 (loopAt Tryz.f113 0) (.two .no (.two .no (.two (.two .no (.two (.two (.rb [168] 31) .no) (.two .no (.two .no (.two .no (.lp L113_1 rd113_1 pt113_1 (a113_1 M113) .no)))))) .no))) (Option L113_0) (pt113_0 p) (kOn rd113_0) = n113_0 M113 p := by kernel_rfl
noncomputable def a113_0 (M113 : Flat → (List GStep) → Bool → Option E113) : L113_0 → Option L113_0 := advG (n113_0 M113)
noncomputable def an113 (M113 : Flat → (List GStep) → Bool → Option E113) : An := (.two .no (.two (.two .no (.lp L113_0 rd113_0 pt113_0 (a113_0 M113) (.two .no (.two .no (.two (.two .no (.two (.two (.rb [168] 31) .no) (.two .no (.two .no (.two .no (.lp L113_1 rd113_1 pt113_1 (a113_1 M113) .no)))))) .no))))) .no))
theorem pu113 {M113} : ∀ f ∈ ([168] : List Nat), PureF (F113 M113) f := fun f hf => by
  simp only [List.mem_cons, List.not_mem_nil, or_false] at hf
  rcases hf with rfl
  · exact (e169_pure (e168_pure (e167_pure (x113_pure or0_pure))))
theorem fa113 (M113 : Flat → (List GStep) → Bool → Option E113) : FnAn Tryz.prog (F113 M113) 0 300 113 (an113 M113) := fnAn_of (l := [(loopAt Tryz.f113 0, (.lp L113_0 rd113_0 pt113_0 (a113_0 M113) (.two .no (.two .no (.two (.two .no (.two (.two (.rb [168] 31) .no) (.two .no (.two .no (.two .no (.lp L113_1 rd113_1 pt113_1 (a113_1 M113) .no)))))) .no))))), (.skip, (.rb [168] 31)), (loopAt Tryz.f113 1, (.lp L113_1 rd113_1 pt113_1 (a113_1 M113) .no))]) Tryz.func113 (bodyOf_eq (by kernel_rfl)) (by kernel_rfl) fun p hp => by
  simp only [List.mem_cons, List.not_mem_nil, or_false] at hp
  rcases hp with rfl | rfl | rfl
  · exact ⟨rd113_0_ok _, advG_ok (q113_0 M113)⟩
  · exact pu113
  · exact ⟨rd113_1_ok _, advG_ok (q113_1 M113)⟩
noncomputable def s113 (M113 : Flat → (List GStep) → Bool → Option E113) (a0 : Flat) (a1 : List GStep) (a2 : Bool) : Option E113 :=
  match a113_0 M113 (L113_0.mk a1 a2 a1 (↑a1.length : Int) (0) a0) with
  | none =>
    none
  | some r9 =>
    bif decide (r9.t15 < r9.t14) then
      if (0 : Int) ≤ r9.t15 ∧ r9.t15 < (↑r9.t13.length : Int) then
        match bif r9.t2 then
          match m168 r9.b0 (GStep.mk r9.t13[r9.t15.toNat]!.fDo r9.t13[r9.t15.toNat]!.fCost r9.t13[r9.t15.toNat]!.fVar r9.t13[r9.t15.toNat]!.fN (GTerm.mk r9.t13[r9.t15.toNat]!.fTerm.fOp r9.t13[r9.t15.toNat]!.fTerm.fN r9.t13[r9.t15.toNat]!.fTerm.fKids) r9.t13[r9.t15.toNat]!.fThen r9.t13[r9.t15.toNat]!.fElse r9.t13[r9.t15.toNat]!.fBounds) (decide (((r9.t1, r9.t2, (), r9.t13, r9.t14, r9.t15, ()), r9.b0, ()).fst.snd.snd.snd.snd.snd.fst = IntKind.i64.wrap ((↑((r9.t1, r9.t2, (), r9.t13, r9.t14, r9.t15, ()), r9.b0, ()).fst.fst.length : Int) - 1))) with
          | none =>
            none
          | some r10 =>
            some (bif r10 then false else true)
        else
          match m168 r9.b0 (GStep.mk r9.t13[r9.t15.toNat]!.fDo r9.t13[r9.t15.toNat]!.fCost r9.t13[r9.t15.toNat]!.fVar r9.t13[r9.t15.toNat]!.fN (GTerm.mk r9.t13[r9.t15.toNat]!.fTerm.fOp r9.t13[r9.t15.toNat]!.fTerm.fN r9.t13[r9.t15.toNat]!.fTerm.fKids) r9.t13[r9.t15.toNat]!.fThen r9.t13[r9.t15.toNat]!.fElse r9.t13[r9.t15.toNat]!.fBounds) false with
          | none =>
            none
          | some r11 =>
            some (bif r11 then false else true) with
        | none =>
          none
        | some r12 =>
          bif r12 then
            some (1)
          else
            match m169 (GStep.mk r9.t13[r9.t15.toNat]!.fDo r9.t13[r9.t15.toNat]!.fCost r9.t13[r9.t15.toNat]!.fVar r9.t13[r9.t15.toNat]!.fN (GTerm.mk r9.t13[r9.t15.toNat]!.fTerm.fOp r9.t13[r9.t15.toNat]!.fTerm.fN r9.t13[r9.t15.toNat]!.fTerm.fKids) r9.t13[r9.t15.toNat]!.fThen r9.t13[r9.t15.toNat]!.fElse r9.t13[r9.t15.toNat]!.fBounds) with
            | none =>
              none
            | some r13 =>
              bif bif r13 then false else true then
                some (3)
              else
                match m167 r9.b0.fVars (GTerm.mk r9.t13[r9.t15.toNat]!.fTerm.fOp r9.t13[r9.t15.toNat]!.fTerm.fN r9.t13[r9.t15.toNat]!.fTerm.fKids) false with
                | none =>
                  none
                | some r14 =>
                  bif bif decide (r14 = 0) then false else true then
                    some (r14)
                  else
                    match a113_1 M113 (L113_1.mk r9.t1 r9.t2 r9.t13 r9.t14 r9.t15 [r9.t13[r9.t15.toNat]!.fThen, r9.t13[r9.t15.toNat]!.fElse] (↑[r9.t13[r9.t15.toNat]!.fThen, r9.t13[r9.t15.toNat]!.fElse].length : Int) (0) r9.b0) with
                    | none =>
                      none
                    | some r15 =>
                      bif decide (r15.t49 < r15.t48) then
                        if (0 : Int) ≤ r15.t49 ∧ r15.t49 < (↑r15.t47.length : Int) then
                          if 24 = 24 ∧ r15.t49.toNat < r15.t47.length then
                            match M113 r15.b0 r15.t47[r15.t49.toNat]! false with
                            | none =>
                              none
                            | some r16 =>
                              bif bif decide (r16 = 0) then false else true then
                                some (r16)
                              else
                                none
                          else
                            none
                        else
                          none
                      else
                        none
      else
        none
    else
      some (0)
theorem c113 (M113 : Flat → (List GStep) → Bool → Option E113) (a0 : Flat) (a1 : List GStep) (a2 : Bool) : callR Tryz.prog (F113 M113) 300 (an113 M113) 113 [.agg (uni.cells 26 a0), .sl 134 a1, .b a2] [] 0 rd113_e = s113 M113 a0 a1 a2 := by kernel_rfl
noncomputable def mm113 : Nat → (Flat → (List GStep) → Bool → Option E113)
  | 0 => (fun _ _ _ => none)
  | n + 1 => (s113 (mm113 n))
noncomputable def m113 (n : Nat) : Flat → (List GStep) → Bool → Option E113 := (mm113 n)
theorem mm113_ok : ∀ n, H113 (m113 n)
  | 0 => fun _ _ _ _ h => by cases h
  | n + 1 => by
    have ih := mm113_ok n
    have i113 := ih
    exact fun a0 a1 a2 r h => (fnY_of (p := r) (F113_ok i113) (fa113 (m113 n)) rd113_e_ok (fun p => by kernel_rfl) (ltd_of (by kernel_rfl)) (rltd_of (by kernel_rfl)) ((c113 (m113 n) a0 a1 a2).trans h)).2
noncomputable def r113 : Flat → (List GStep) → Bool → Option E113 := fun a0 a1 a2 => lim (fun n => m113 n a0 a1 a2)
theorem r113_ok : H113 r113 := fun a0 a1 a2 r h => by
  obtain ⟨n, hn⟩ := lim_some h
  exact (mm113_ok n) a0 a1 a2 r hn
noncomputable def e113 (F : Orc) : Orc := x113 r113 F
theorem e113_ok {F : Orc} (h : OrcG Tryz.prog F) : OrcG Tryz.prog (e113 F) := x113_ok r113_ok h
theorem e113_pure {F : Orc} {f : Nat} (h : PureF F f) : PureF (e113 F) f := x113_pure h
/-! ### 114: keyhole/flat.upper -/
abbrev E114 : Type := Most
abbrev P114_e : Type := (Unit × Unit) × (Most × Unit)
noncomputable def rb114_e : St → Option P114_e := stR 1 (slC 2 (asP 0 0) slN) (rsN2 0 158 (asCs 158) rsN)
noncomputable def pb114_e : P114_e → St := stP 1 (fun z => [(2, .ptr 0 0)]) (fun z => [(0, .box 158 (uni.cells 158 z.1))])
noncomputable def mk114_e (z : P114_e) : E114 := z.2.1
noncomputable def pt114_e (x : E114) : St := pb114_e (((), ()), (x, ()))
noncomputable def rd114_e : St → Option E114 := rdC 0 [] [2] (rdM mk114_e rb114_e)
theorem rb114_e_ok (n : Nat) : RdOk 0 n rb114_e pb114_e := stR_ok (.cons (.p 0 0) .nil) (.boxN (PkN.parse 158) .nil)
theorem rd114_e_ok (n : Nat) : RdOk 0 n rd114_e pt114_e := rdC_ok ((rb114_e_ok n).m mk114_e (pat' := pt114_e) fun _ => rfl)
noncomputable def o114 (x : E114) : Out := match (match outOf Tryz.prog 114 (pt114_e x) with
    | some ds => some (Out.mk (resA ds) (keepR (pt114_e x).R 0 (resA ds)) (pt114_e x).nx)
    | none => none) with
  | some o => o
  | none => ⟨.tup [], [], 0⟩
theorem fnok114 : fnOk Tryz.prog 114 := ⟨_, Tryz.func114, by kernel_rfl, by kernel_rfl⟩
noncomputable def x114 (M114 : (List GStep) → Option E114) (F : Orc) : Orc := orL 114 false (pkC (asL 134) pkN) (fun g => M114 g.1 : ((List GStep) × Unit) → Option E114) o114 F
theorem x114_pure {M : (List GStep) → Option E114} {F : Orc} {f : Nat} (h : PureF F f) : PureF (x114 M F) f := orL_pure h (fun b => by kernel_rfl)
def H114 (M : (List GStep) → Option E114) : Prop := ∀ (a0 : List GStep) (r : E114), M a0 = some r → FnY Tryz.prog 114 [.sl 134 a0] [] 0 (o114 r)
theorem x114_ok {M : (List GStep) → Option E114} (hM : H114 M) {F : Orc} (h : OrcG Tryz.prog F) : OrcG Tryz.prog (x114 M F) := orL_g (sc := scU) h scU_ok fnok114 (ca := fun g => [.sl 134 g.1]) ((.cons (.l 134) .nil) : PkN (pkC (asL 134) pkN) _) (fun b => by kernel_rfl) (fun b => by kernel_rfl) (fun g b hb => hM g.1 b hb)
noncomputable def F114 (M114 : (List GStep) → Option E114) : Orc := (x114 M114 or0)
theorem F114_ok {M114} (h114 : H114 M114) : OrcG Tryz.prog (F114 M114) := (x114_ok h114 or0_g)
structure L114_0 where
  t9 : List GStep
  t10 : Int
  t11 : Int
  b0 : Most
  b1 : Most
abbrev P114_0 : Type := (Unit × Unit × (List GStep) × Int × Int × Unit) × (Most × Most × Unit)
noncomputable def rb114_0 : St → Option P114_0 := stR 2 (slC 2 (asP 0 0) (slC 3 (asP 1 0) (slC 9 (asL 134) (slC 10 (asI .i64) (slC 11 (asI .i64) slN))))) (rsN2 0 158 (asCs 158) (rsN2 1 158 (asCs 158) rsN))
noncomputable def pb114_0 : P114_0 → St := stP 2 (fun z => [(2, .ptr 0 0), (3, .ptr 1 0), (9, .sl 134 z.2.2.1), (10, .n .i64 z.2.2.2.1), (11, .n .i64 z.2.2.2.2.1)]) (fun z => [(0, .box 158 (uni.cells 158 z.1)), (1, .box 158 (uni.cells 158 z.2.1))])
noncomputable def mk114_0 (z : P114_0) : L114_0 := ⟨z.1.2.2.1, z.1.2.2.2.1, z.1.2.2.2.2.1, z.2.1, z.2.2.1⟩
noncomputable def pt114_0 (x : L114_0) : St := pb114_0 (((), (), x.t9, x.t10, x.t11, ()), (x.b0, x.b1, ()))
noncomputable def rd114_0 : St → Option L114_0 := rdC 0 [] [2, 3, 9, 10, 11] (rdM mk114_0 rb114_0)
theorem rb114_0_ok (n : Nat) : RdOk 0 n rb114_0 pb114_0 := stR_ok (.cons (.p 0 0) (.cons (.p 1 0) (.cons (.l 134) (.cons (.i .i64) (.cons (.i .i64) .nil))))) (.boxN (PkN.parse 158) (.boxN (PkN.parse 158) .nil))
theorem rd114_0_ok (n : Nat) : RdOk 0 n rd114_0 pt114_0 := rdC_ok ((rb114_0_ok n).m mk114_0 (pat' := pt114_0) fun _ => rfl)
noncomputable def n114_0 (M114 : (List GStep) → Option E114) (p : L114_0) : Option (Option L114_0) :=
  bif decide (p.t11 < p.t10) then
    if (0 : Int) ≤ p.t11 ∧ p.t11 < (↑p.t9.length : Int) then
      match M114 p.t9[p.t11.toNat]!.fThen with
      | none =>
        none
      | some r1 =>
        match M114 p.t9[p.t11.toNat]!.fElse with
        | none =>
          none
        | some r2 =>
          bif decide (p.t9[p.t11.toNat]!.fDo = 1) then
            some (some (L114_0.mk p.t9 p.t10 (IntKind.i64.wrap (p.t11 + 1)) p.b0 (Most.mk (if 1099511627776 < IntKind.i64.wrap (p.b1.fSteps + 1) then 1099511627776 else IntKind.i64.wrap (p.b1.fSteps + 1)) (if 1099511627776 < IntKind.i64.wrap (p.b1.fOutputs + 1) then 1099511627776 else IntKind.i64.wrap (p.b1.fOutputs + 1)) (if 1099511627776 < IntKind.i64.wrap (p.b1.fTime + p.t9[p.t11.toNat]!.fCost) then 1099511627776 else IntKind.i64.wrap (p.b1.fTime + p.t9[p.t11.toNat]!.fCost)))))
          else
            bif decide (p.t9[p.t11.toNat]!.fDo = 3) then
              some (some (L114_0.mk p.t9 p.t10 (IntKind.i64.wrap (p.t11 + 1)) p.b0 (Most.mk (if 1099511627776 < IntKind.i64.wrap (p.b1.fSteps + IntKind.i64.wrap (1 + if r1.fSteps < r2.fSteps then r2.fSteps else r1.fSteps)) then 1099511627776 else IntKind.i64.wrap (p.b1.fSteps + IntKind.i64.wrap (1 + if r1.fSteps < r2.fSteps then r2.fSteps else r1.fSteps))) (if 1099511627776 < IntKind.i64.wrap (p.b1.fOutputs + if r1.fOutputs < r2.fOutputs then r2.fOutputs else r1.fOutputs) then 1099511627776 else IntKind.i64.wrap (p.b1.fOutputs + if r1.fOutputs < r2.fOutputs then r2.fOutputs else r1.fOutputs)) (if 1099511627776 < IntKind.i64.wrap (p.b1.fTime + IntKind.i64.wrap (p.t9[p.t11.toNat]!.fCost + if r1.fTime < r2.fTime then r2.fTime else r1.fTime)) then 1099511627776 else IntKind.i64.wrap (p.b1.fTime + IntKind.i64.wrap (p.t9[p.t11.toNat]!.fCost + if r1.fTime < r2.fTime then r2.fTime else r1.fTime))))))
            else
              bif decide (p.t9[p.t11.toNat]!.fDo = 4) then
                some (some (L114_0.mk p.t9 p.t10 (IntKind.i64.wrap (p.t11 + 1)) p.b0 (Most.mk (if 1099511627776 < IntKind.i64.wrap (p.b1.fSteps + IntKind.i64.wrap (1 + IntKind.i64.wrap (p.t9[p.t11.toNat]!.fN * IntKind.i64.wrap (1 + r1.fSteps)))) then 1099511627776 else IntKind.i64.wrap (p.b1.fSteps + IntKind.i64.wrap (1 + IntKind.i64.wrap (p.t9[p.t11.toNat]!.fN * IntKind.i64.wrap (1 + r1.fSteps))))) (if 1099511627776 < IntKind.i64.wrap (p.b1.fOutputs + IntKind.i64.wrap (p.t9[p.t11.toNat]!.fN * r1.fOutputs)) then 1099511627776 else IntKind.i64.wrap (p.b1.fOutputs + IntKind.i64.wrap (p.t9[p.t11.toNat]!.fN * r1.fOutputs))) (if 1099511627776 < IntKind.i64.wrap (p.b1.fTime + IntKind.i64.wrap (p.t9[p.t11.toNat]!.fN * IntKind.i64.wrap (p.t9[p.t11.toNat]!.fCost + r1.fTime))) then 1099511627776 else IntKind.i64.wrap (p.b1.fTime + IntKind.i64.wrap (p.t9[p.t11.toNat]!.fN * IntKind.i64.wrap (p.t9[p.t11.toNat]!.fCost + r1.fTime)))))))
              else
                some (some (L114_0.mk p.t9 p.t10 (IntKind.i64.wrap (p.t11 + 1)) p.b0 (Most.mk (if 1099511627776 < IntKind.i64.wrap (p.b1.fSteps + 1) then 1099511627776 else IntKind.i64.wrap (p.b1.fSteps + 1)) (if 1099511627776 < IntKind.i64.wrap (p.b1.fOutputs + 0) then 1099511627776 else IntKind.i64.wrap (p.b1.fOutputs + 0)) (if 1099511627776 < IntKind.i64.wrap (p.b1.fTime + p.t9[p.t11.toNat]!.fCost) then 1099511627776 else IntKind.i64.wrap (p.b1.fTime + p.t9[p.t11.toNat]!.fCost)))))
    else
      none
  else
    some (none)
theorem q114_0 (M114 : (List GStep) → Option E114) (p : L114_0) : execA Tryz.prog (F114 M114) Tryz.f114.ntmps 300 (loopAt Tryz.f114 0) .no (Option L114_0) (pt114_0 p) (kOn rd114_0) = n114_0 M114 p := by kernel_rfl
noncomputable def a114_0 (M114 : (List GStep) → Option E114) : L114_0 → Option L114_0 := advG (n114_0 M114)
noncomputable def an114 (M114 : (List GStep) → Option E114) : An := (.two .no (.two .no (.two (.two .no (.lp L114_0 rd114_0 pt114_0 (a114_0 M114) .no)) .no)))
theorem fa114 (M114 : (List GStep) → Option E114) : FnAn Tryz.prog (F114 M114) 0 300 114 (an114 M114) := fnAn_of (l := [(loopAt Tryz.f114 0, (.lp L114_0 rd114_0 pt114_0 (a114_0 M114) .no))]) Tryz.func114 (bodyOf_eq (by kernel_rfl)) (by kernel_rfl) fun p hp => by
  simp only [List.mem_cons, List.not_mem_nil, or_false] at hp
  rcases hp with rfl
  · exact ⟨rd114_0_ok _, advG_ok (q114_0 M114)⟩
noncomputable def s114 (M114 : (List GStep) → Option E114) (a0 : List GStep) : Option E114 :=
  match a114_0 M114 (L114_0.mk a0 (↑a0.length : Int) (0) (Most.mk (0) (0) (0)) (Most.mk (0) (0) (0))) with
  | none =>
    none
  | some r3 =>
    bif decide (r3.t11 < r3.t10) then
      if (0 : Int) ≤ r3.t11 ∧ r3.t11 < (↑r3.t9.length : Int) then
        match M114 r3.t9[r3.t11.toNat]!.fThen with
        | none =>
          none
        | some r4 =>
          match M114 r3.t9[r3.t11.toNat]!.fElse with
          | none =>
            none
          | some r5 =>
            bif decide (r3.t9[r3.t11.toNat]!.fDo = 1) then
              none
            else
              bif decide (r3.t9[r3.t11.toNat]!.fDo = 3) then
                none
              else
                bif decide (r3.t9[r3.t11.toNat]!.fDo = 4) then
                  none
                else
                  none
      else
        none
    else
      some (r3.b1)
theorem c114 (M114 : (List GStep) → Option E114) (a0 : List GStep) : callR Tryz.prog (F114 M114) 300 (an114 M114) 114 [.sl 134 a0] [] 0 rd114_e = s114 M114 a0 := by kernel_rfl
noncomputable def mm114 : Nat → ((List GStep) → Option E114)
  | 0 => (fun _ => none)
  | n + 1 => (s114 (mm114 n))
noncomputable def m114 (n : Nat) : (List GStep) → Option E114 := (mm114 n)
theorem mm114_ok : ∀ n, H114 (m114 n)
  | 0 => fun _ _ h => by cases h
  | n + 1 => by
    have ih := mm114_ok n
    have i114 := ih
    exact fun a0 r h => (fnY_of (p := r) (F114_ok i114) (fa114 (m114 n)) rd114_e_ok (fun p => by kernel_rfl) (ltd_of (by kernel_rfl)) (rltd_of (by kernel_rfl)) ((c114 (m114 n) a0).trans h)).2
noncomputable def r114 : (List GStep) → Option E114 := fun a0 => lim (fun n => m114 n a0)
theorem r114_ok : H114 r114 := fun a0 r h => by
  obtain ⟨n, hn⟩ := lim_some h
  exact (mm114_ok n) a0 r hn
noncomputable def e114 (F : Orc) : Orc := x114 r114 F
theorem e114_ok {F : Orc} (h : OrcG Tryz.prog F) : OrcG Tryz.prog (e114 F) := x114_ok r114_ok h
theorem e114_pure {F : Orc} {f : Nat} (h : PureF F f) : PureF (e114 F) f := x114_pure h
/-! ### 56: keyhole/flat.Check -/
noncomputable def F56 : Orc := (e114 (e113 (e112 (e111 (e110 (e109 (e108 or0)))))))
theorem F56_ok : OrcG Tryz.prog F56 := (e114_ok (e113_ok (e112_ok (e111_ok (e110_ok (e109_ok (e108_ok or0_g)))))))
structure L56_0 where
  t14 : List Hatch
  t15 : Int
  t16 : Int
  b0 : Flat
  b1 : Measure
abbrev P56_0 : Type := (Unit × Unit × (List Hatch) × Int × Int × Unit) × (Flat × Measure × Unit)
noncomputable def rb56_0 : St → Option P56_0 := stR 2 (slC 1 (asP 0 0) (slC 3 (asP 1 0) (slC 14 (asL 99) (slC 15 (asI .i64) (slC 16 (asI .i64) slN))))) (rsN2 0 26 (asCs 26) (rsN2 1 154 (asCs 154) rsN))
noncomputable def pb56_0 : P56_0 → St := stP 2 (fun z => [(1, .ptr 0 0), (3, .ptr 1 0), (14, .sl 99 z.2.2.1), (15, .n .i64 z.2.2.2.1), (16, .n .i64 z.2.2.2.2.1)]) (fun z => [(0, .box 26 (uni.cells 26 z.1)), (1, .box 154 (uni.cells 154 z.2.1))])
noncomputable def mk56_0 (z : P56_0) : L56_0 := ⟨z.1.2.2.1, z.1.2.2.2.1, z.1.2.2.2.2.1, z.2.1, z.2.2.1⟩
noncomputable def pt56_0 (x : L56_0) : St := pb56_0 (((), (), x.t14, x.t15, x.t16, ()), (x.b0, x.b1, ()))
noncomputable def rd56_0 : St → Option L56_0 := rdC 0 [] [1, 3, 14, 15, 16] (rdM mk56_0 rb56_0)
theorem rb56_0_ok (n : Nat) : RdOk 0 n rb56_0 pb56_0 := stR_ok (.cons (.p 0 0) (.cons (.p 1 0) (.cons (.l 99) (.cons (.i .i64) (.cons (.i .i64) .nil))))) (.boxN (PkN.parse 26) (.boxN (PkN.parse 154) .nil))
theorem rd56_0_ok (n : Nat) : RdOk 0 n rd56_0 pt56_0 := rdC_ok ((rb56_0_ok n).m mk56_0 (pat' := pt56_0) fun _ => rfl)
noncomputable def n56_0 (p : L56_0) : Option (Option L56_0) :=
  bif decide (p.t16 < p.t15) then
    if (0 : Int) ≤ p.t16 ∧ p.t16 < (↑p.t14.length : Int) then
      bif bif (m109 p.b1).fst then false else true then
        match r110 (GTerm.mk p.t14[p.t16.toNat]!.fTerm.fOp p.t14[p.t16.toNat]!.fTerm.fN p.t14[p.t16.toNat]!.fTerm.fKids) (1) (m109 p.b1).snd with
        | none =>
          none
        | some r1 =>
          some (some (L56_0.mk p.t14 p.t15 (IntKind.i64.wrap (p.t16 + 1)) p.b0 r1))
      else
        some (some (L56_0.mk p.t14 p.t15 (IntKind.i64.wrap (p.t16 + 1)) p.b0 (m109 p.b1).snd))
    else
      none
  else
    some (none)
theorem q56_0 (p : L56_0) : execA Tryz.prog (F56) Tryz.f56.ntmps 300 (loopAt Tryz.f56 0) .no (Option L56_0) (pt56_0 p) (kOn rd56_0) = n56_0 p := by kernel_rfl
noncomputable def a56_0 : L56_0 → Option L56_0 := advG (n56_0)
abbrev E56 : Type := Int
abbrev P56_e : Type := (Int × Unit) × (Unit)
noncomputable def rb56_e : St → Option P56_e := stR 0 (slC 2 (asI .i64) slN) rsN
noncomputable def pb56_e : P56_e → St := stP 0 (fun z => [(2, .n .i64 z.1)]) (fun z => [])
noncomputable def mk56_e (z : P56_e) : E56 := z.1.1
noncomputable def pt56_e (x : E56) : St := pb56_e ((x, ()), (()))
noncomputable def rd56_e : St → Option E56 := rdC 0 [] [2] (rdM mk56_e rb56_e)
theorem rb56_e_ok (n : Nat) : RdOk 0 n rb56_e pb56_e := stR_ok (.cons (.i .i64) .nil) .nil
theorem rd56_e_ok (n : Nat) : RdOk 0 n rd56_e pt56_e := rdC_ok ((rb56_e_ok n).m mk56_e (pat' := pt56_e) fun _ => rfl)
noncomputable def an56 : An := (.two .no (.two .no (.two .no (.two (.two .no (.lp L56_0 rd56_0 pt56_0 a56_0 .no)) (.two .no (.two .no (.two .no (.two .no (.two (.two .no (.two (.rb [] 72) .no)) .no)))))))))
theorem pu56  : ∀ f ∈ ([] : List Nat), PureF (F56) f := fun f hf => by
  cases hf
theorem fa56 : FnAn Tryz.prog (F56) 0 300 56 (an56) := fnAn_of (l := [(loopAt Tryz.f56 0, (.lp L56_0 rd56_0 pt56_0 a56_0 .no)), (.skip, (.rb [] 72))]) Tryz.func56 (bodyOf_eq (by kernel_rfl)) (by kernel_rfl) fun p hp => by
  simp only [List.mem_cons, List.not_mem_nil, or_false] at hp
  rcases hp with rfl | rfl
  · exact ⟨rd56_0_ok _, advG_ok (q56_0)⟩
  · exact pu56
noncomputable def m56 (a0 : Flat) : Option E56 :=
  match r108 a0.fBody (1) (Measure.mk (0) false) with
  | none =>
    none
  | some r2 =>
    match a56_0 (L56_0.mk a0.fHatches (↑a0.fHatches.length : Int) (0) a0 r2) with
    | none =>
      none
    | some r3 =>
      bif decide (r3.t16 < r3.t15) then
        if (0 : Int) ≤ r3.t16 ∧ r3.t16 < (↑r3.t14.length : Int) then
          bif bif (m109 r3.b1).fst then false else true then
            match r110 (GTerm.mk r3.t14[r3.t16.toNat]!.fTerm.fOp r3.t14[r3.t16.toNat]!.fTerm.fN r3.t14[r3.t16.toNat]!.fTerm.fKids) (1) (m109 r3.b1).snd with
            | none =>
              none
            | some r4 =>
              none
          else
            none
        else
          none
      else
        bif decide (64 < (↑r3.b0.fVars.length : Int)) then
          some (4)
        else
          bif decide (8 < (↑r3.b0.fHatches.length : Int)) then
            some (4)
          else
            bif (m109 r3.b1).fst then
              some (4)
            else
              match m111 r3.b0.fVars with
              | none =>
                none
              | some r5 =>
                bif bif decide (r5 = 0) then false else true then
                  some (r5)
                else
                  match m112 r3.b0 with
                  | none =>
                    none
                  | some r6 =>
                    bif bif decide (r6 = 0) then false else true then
                      some (r6)
                    else
                      match r113 r3.b0 r3.b0.fBody true with
                      | none =>
                        none
                      | some r7 =>
                        bif bif decide (r7 = 0) then false else true then
                          some (r7)
                        else
                          match r114 r3.b0.fBody with
                          | none =>
                            none
                          | some r8 =>
                            match bif decide (4096 < r8.fSteps) then
                              some (true)
                            else
                              bif decide (8 < r8.fOutputs) then
                                some (true)
                              else
                                some (decide (67108864 < r8.fTime)) with
                            | none =>
                              none
                            | some r9 =>
                              bif r9 then
                                some (4)
                              else
                                some (0)
theorem c56 (a0 : Flat) : callR Tryz.prog (F56) 300 (an56) 56 [.agg (uni.cells 26 a0)] [] 0 rd56_e = m56 a0 := by kernel_rfl
noncomputable def o56 (x : E56) : Out := match (match outOf Tryz.prog 56 (pt56_e x) with
    | some ds => some (Out.mk (resA ds) (keepR (pt56_e x).R 0 (resA ds)) (pt56_e x).nx)
    | none => none) with
  | some o => o
  | none => ⟨.tup [], [], 0⟩
theorem fn56 (a0 : Flat) (r : E56) (h : m56 a0 = some r) : fnOk Tryz.prog 56 ∧ FnY Tryz.prog 56 [.agg (uni.cells 26 a0)] [] 0 (o56 r) :=
  fnY_of (p := r) F56_ok (fa56) rd56_e_ok (fun p => by kernel_rfl) (ltd_of (by kernel_rfl)) (rltd_of (by kernel_rfl)) ((c56 a0).trans h)
theorem fnok56 : fnOk Tryz.prog 56 := ⟨_, Tryz.func56, by kernel_rfl, by kernel_rfl⟩
noncomputable def e56 (F : Orc) : Orc := orL 56 false (pkC (asGc 26) pkN) (fun g => m56 g.1 : (Flat × Unit) → Option E56) o56 F
theorem e56_ok {F : Orc} (h : OrcG Tryz.prog F) : OrcG Tryz.prog (e56 F) := orL_g (sc := scU) h scU_ok fnok56 (ca := fun g => [.agg (uni.cells 26 g.1)]) ((.cons (.g 26) .nil) : PkN (pkC (asGc 26) pkN) _) (fun b => by kernel_rfl) (fun b => by kernel_rfl) (fun g b hb => (fn56 g.1 b hb).2)
theorem e56_pure {F : Orc} {f : Nat} (h : PureF F f) : PureF (e56 F) f := orL_pure h (fun b => by kernel_rfl)
end Go.Proofs.YtaonipoflmbhgaaGreat
end
