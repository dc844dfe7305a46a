/- Merged: La5, Ab1, Ab2, Ab3, Ab4. -/
import Derived.Test.YtgdahkddhecloaaM3LedgerSurvives
import Derived.OrdersHeld
import Derived.WalkKit
import Derived.KernelRfl
import Derived.Maps.AppendAt
import Derived.WalkLawsBesides
import Derived.Laws.Tables
import Derived.Laws.PanicsMore
import Derived.Great.BuildSlice
import Derived.Laws.MakeOwn
section
set_option linter.unusedSectionVars false
set_option linter.unusedVariables false
set_option linter.unusedSimpArgs false
set_option maxRecDepth 100000
namespace Go.Proofs.Ytgdahkddhecloaa
open Go Go.Iv
/-! ### 29: keyhole/ledger.fields -/
noncomputable def F29 : Orc := or0
theorem F29_ok : OrcG Try.prog F29 := or0_g
abbrev E29 : Type := Unit × Record
abbrev P29_e : Type := (Unit × Unit) × (Record × ((Unit × Unit × Unit × Unit × Unit × Unit × Unit × Unit × Unit × Unit)) × Unit)
noncomputable def rb29_e : St → Option P29_e := stR 2 (slC 2 (asP 1 0) slN) (rsN2 0 23 (asCs 23) (rsN2 1 72 (pkC (asP 0 0) (pkC (asP 0 1) (pkC (asP 0 2) (pkC (asP 0 3) (pkC (asP 0 4) (pkC (asP 0 5) (pkC (asP 0 6) (pkC (asP 0 7) (pkC (asP 0 8) pkN))))))))) rsN))
noncomputable def pb29_e : P29_e → St := stP 2 (fun z => [(2, .ptr 1 0)]) (fun z => [(0, .box 23 (uni.cells 23 z.1)), (1, .box 72 [.ptr 0 0, .ptr 0 1, .ptr 0 2, .ptr 0 3, .ptr 0 4, .ptr 0 5, .ptr 0 6, .ptr 0 7, .ptr 0 8])])
noncomputable def mk29_e (z : P29_e) : E29 := ((), z.2.1)
noncomputable def pt29_e (x : E29) : St := pb29_e (((), ()), (x.2, ((), (), (), (), (), (), (), (), (), ()), ()))
noncomputable def rd29_e : St → Option E29 := rdC 1 [] [2] (rdM mk29_e rb29_e)
theorem rb29_e_ok (n : Nat) : RdOk 1 n rb29_e pb29_e := stR_ok (.cons (.p 1 0) .nil) (.boxN (PkN.parse 23) (.boxN (.cons (.p 0 0) (.cons (.p 0 1) (.cons (.p 0 2) (.cons (.p 0 3) (.cons (.p 0 4) (.cons (.p 0 5) (.cons (.p 0 6) (.cons (.p 0 7) (.cons (.p 0 8) .nil))))))))) .nil))
theorem rd29_e_ok (n : Nat) : RdOk 1 n rd29_e pt29_e := rdC_ok ((rb29_e_ok n).m mk29_e (pat' := pt29_e) fun _ => rfl)
noncomputable def an29 : An := .no
theorem fa29 : FnAn Try.prog (F29) 1 300 29 (an29) := fnAn_of (l := []) Try.func29 (bodyOf_eq (by kernel_rfl)) (by kernel_rfl) fun p hp => by
  cases hp
noncomputable def m29 (b0 : Record) : E29 :=
  ((), b0)
theorem c29 (b0 : Record) : callR Try.prog (F29) 300 (an29) 29 [.ptr 0 0] [(0, .box 23 (uni.cells 23 b0))] 1 rd29_e = some (m29 b0) := by kernel_rfl
noncomputable def o29 (x : E29) : Out := match (match outOf Try.prog 29 (pt29_e x) with
    | some ds => some (Out.mk (resA ds) (keepR (pt29_e x).R 1 (resA ds)) (pt29_e x).nx)
    | none => none) with
  | some o => o
  | none => ⟨.tup [], [], 0⟩
theorem fn29 (b0 : Record) (r : E29) (h : m29 b0 = r) : fnOk Try.prog 29 ∧ FnY Try.prog 29 [.ptr 0 0] [(0, .box 23 (uni.cells 23 b0))] 1 (o29 r) :=
  fnY_of (p := r) F29_ok (fa29) rd29_e_ok (fun p => by kernel_rfl) (ltd_of (by kernel_rfl)) (rltd_of (by kernel_rfl)) ((c29 b0).trans (congrArg some h))
theorem fnok29 : fnOk Try.prog 29 := ⟨_, Try.func29, by kernel_rfl, by kernel_rfl⟩
noncomputable def e29 (F : Orc) : Orc := orY 29 1 (qyR (pkC (asP 0 0) pkN) (rsN2 0 23 (asCs 23) rsN)) (fun g => some (m29 g.2.1) : ((Unit × Unit) × (Record × Unit)) → Option E29) o29 F
theorem e29_ok {F : Orc} (h : OrcG Try.prog F) : OrcG Try.prog (e29 F) := orY_g h fnok29 (qyR_ok (ca := fun g => [.ptr 0 0]) (cr := fun g => [(0, .box 23 (uni.cells 23 g.1))]) ((.cons (.p 0 0) .nil) : PkN (pkC (asP 0 0) pkN) _) ((.boxN (PkN.parse 23) .nil) : RsOk (rsN2 0 23 (asCs 23) rsN) _)) (fun b => by kernel_rfl) (fun g b hb => (fn29 g.2.1 b (Option.some.inj hb)).2)
theorem e29_skip {F : Orc} {f : Nat} (hne : Nat.beq f 29 = false) (h : PureF F f) : PureF (e29 F) f := orY_skip hne h
/-! ### 30: keyhole/ledger.field -/
noncomputable def F30 : Orc := or0
theorem F30_ok : OrcG Try.prog F30 := or0_g
abbrev E30 : Type := Bool
abbrev P30_e : Type := (Bool × Unit) × (Unit)
noncomputable def rb30_e : St → Option P30_e := stR 0 (slC 2 asB slN) rsN
noncomputable def pb30_e : P30_e → St := stP 0 (fun z => [(2, .b z.1)]) (fun z => [])
noncomputable def mk30_e (z : P30_e) : E30 := z.1.1
noncomputable def pt30_e (x : E30) : St := pb30_e ((x, ()), (()))
noncomputable def rd30_e : St → Option E30 := rdC 0 [] [2] (rdM mk30_e rb30_e)
theorem rb30_e_ok (n : Nat) : RdOk 0 n rb30_e pb30_e := stR_ok (.cons .b .nil) .nil
theorem rd30_e_ok (n : Nat) : RdOk 0 n rd30_e pt30_e := rdC_ok ((rb30_e_ok n).m mk30_e (pat' := pt30_e) fun _ => rfl)
noncomputable def an30 : An := (.two .no (.two (.rb [] 2) .no))
theorem pu30  : ∀ f ∈ ([] : List Nat), PureF (F30) f := fun f hf => by
  cases hf
theorem fa30 : FnAn Try.prog (F30) 0 300 30 (an30) := fnAn_of (l := [(.skip, (.rb [] 2))]) Try.func30 (bodyOf_eq (by kernel_rfl)) (by kernel_rfl) fun p hp => by
  simp only [List.mem_cons, List.not_mem_nil, or_false] at hp
  rcases hp with rfl
  · exact pu30
noncomputable def m30 (a0 : Int) : E30 :=
  let r1 : Bool := bif decide (0 ≤ a0) then
    decide (a0 ≤ 2147483647)
  else
    false
  r1
theorem c30 (a0 : Int) : callR Try.prog (F30) 300 (an30) 30 [.n .i64 a0] [] 0 rd30_e = some (m30 a0) := by
  refine Eq.trans (b := (
    match bif decide (0 ≤ a0) then
      some (decide (a0 ≤ 2147483647))
    else
      some (false) with
    | none =>
      none
    | some r1 =>
      some (r1) : Option E30)) (by kernel_rfl) ?_
  simp only [m30, cond_some, ite_some]
noncomputable def o30 (x : E30) : Out := match (match outOf Try.prog 30 (pt30_e x) with
    | some ds => some (Out.mk (resA ds) (keepR (pt30_e x).R 0 (resA ds)) (pt30_e x).nx)
    | none => none) with
  | some o => o
  | none => ⟨.tup [], [], 0⟩
theorem fn30 (a0 : Int) (r : E30) (h : m30 a0 = r) : fnOk Try.prog 30 ∧ FnY Try.prog 30 [.n .i64 a0] [] 0 (o30 r) :=
  fnY_of (p := r) F30_ok (fa30) rd30_e_ok (fun p => by kernel_rfl) (ltd_of (by kernel_rfl)) (rltd_of (by kernel_rfl)) ((c30 a0).trans (congrArg some h))
theorem fnok30 : fnOk Try.prog 30 := ⟨_, Try.func30, by kernel_rfl, by kernel_rfl⟩
noncomputable def e30 (F : Orc) : Orc := orL 30 false (pkC (asI .i64) pkN) (fun g => some (m30 g.1) : (Int × Unit) → Option E30) o30 F
theorem e30_ok {F : Orc} (h : OrcG Try.prog F) : OrcG Try.prog (e30 F) := orL_g (sc := scU) h scU_ok fnok30 (ca := fun g => [.n .i64 g.1]) ((.cons (.i .i64) .nil) : PkN (pkC (asI .i64) pkN) _) (fun b => by kernel_rfl) (fun b => by kernel_rfl) (fun g b hb => (fn30 g.1 b (Option.some.inj hb)).2)
theorem e30_pure {F : Orc} {f : Nat} (h : PureF F f) : PureF (e30 F) f := orL_pure h (fun b => by kernel_rfl)
/-! ### 31: keyhole/ledger.put -/
noncomputable def F31 : Orc := or0
theorem F31_ok : OrcG Try.prog F31 := or0_g
structure L31_1 where
  t0 : List Int
  t1 : Int
  t8 : Int
  t9 : Int
  t10 : List Int
  t11 : Int
  t12 : Int
abbrev P31_1 : Type := (Unit × Int × Int × Int × Unit × Int × Int × Unit) × ((List Int) × (List Int) × Unit)
noncomputable def rb31_1 : St → Option P31_1 := stR 3 (slC 0 (asO 2) (slC 1 (asI .i64) (slC 8 (asI .i64) (slC 9 (asI .i64) (slC 10 (asO 1) (slC 11 (asI .i64) (slC 12 (asI .i64) slN))))))) (rsR 1 3 (rsR 2 5 rsN))
noncomputable def pb31_1 : P31_1 → St := stP 3 (fun z => [(0, .own 2), (1, .n .i64 z.2.1), (8, .n .i64 z.2.2.1), (9, .n .i64 z.2.2.2.1), (10, .own 1), (11, .n .i64 z.2.2.2.2.2.1), (12, .n .i64 z.2.2.2.2.2.2.1)]) (fun z => [(1, .row 3 z.1), (2, .row 5 z.2.1)])
noncomputable def mk31_1 (z : P31_1) : L31_1 := ⟨z.2.2.1, z.1.2.1, z.1.2.2.1, z.1.2.2.2.1, z.2.1, z.1.2.2.2.2.2.1, z.1.2.2.2.2.2.2.1⟩
noncomputable def pt31_1 (x : L31_1) : St := pb31_1 (((), x.t1, x.t8, x.t9, (), x.t11, x.t12, ()), (x.t10, x.t0, ()))
noncomputable def rd31_1 : St → Option L31_1 := rdC 2 [] [0, 1, 8, 9, 10, 11, 12] (rdM mk31_1 rb31_1)
theorem rb31_1_ok (n : Nat) : RdOk 2 n rb31_1 pb31_1 := stR_ok (.cons (.o 2) (.cons (.i .i64) (.cons (.i .i64) (.cons (.i .i64) (.cons (.o 1) (.cons (.i .i64) (.cons (.i .i64) .nil))))))) (.row (.row .nil))
theorem rd31_1_ok (n : Nat) : RdOk 2 n rd31_1 pt31_1 := rdC_ok ((rb31_1_ok n).m mk31_1 (pat' := pt31_1) fun _ => rfl)
noncomputable def n31_1 (p : L31_1) : Option (Option L31_1) :=
  bif decide (0 ≤ p.t9) then
    if (0 : Int) ≤ IntKind.i64.wrap ((8 : Int) * p.t9) then
      if (p.t0 ++ [IntKind.u8.wrap (bShr IntKind.i64 p.t8 (IntKind.i64.wrap ((8 : Int) * p.t9)))]).length ≤ 1073741824 then
        some (some (L31_1.mk (p.t0 ++ [IntKind.u8.wrap (bShr IntKind.i64 p.t8 (IntKind.i64.wrap (8 * p.t9)))]) p.t1 p.t8 (IntKind.i64.wrap (p.t9 - 1)) p.t10 p.t11 p.t12))
      else
        none
    else
      none
  else
    some (none)
theorem q31_1 (p : L31_1) : execA Try.prog (F31) Try.f31.ntmps 300 (loopAt Try.f31 1) .no (Option L31_1) (pt31_1 p) (kOn rd31_1) = n31_1 p := by kernel_rfl
noncomputable def a31_1 : L31_1 → Option L31_1 := advG (n31_1)
structure L31_0 where
  t0 : List Int
  t1 : Int
  t10 : List Int
  t11 : Int
  t12 : Int
abbrev P31_0 : Type := (Unit × Int × Unit × Int × Int × Unit) × ((List Int) × (List Int) × Unit)
noncomputable def rb31_0 : St → Option P31_0 := stR 3 (slC 0 (asO 2) (slC 1 (asI .i64) (slC 10 (asO 1) (slC 11 (asI .i64) (slC 12 (asI .i64) slN))))) (rsR 1 3 (rsR 2 5 rsN))
noncomputable def pb31_0 : P31_0 → St := stP 3 (fun z => [(0, .own 2), (1, .n .i64 z.2.1), (10, .own 1), (11, .n .i64 z.2.2.2.1), (12, .n .i64 z.2.2.2.2.1)]) (fun z => [(1, .row 3 z.1), (2, .row 5 z.2.1)])
noncomputable def mk31_0 (z : P31_0) : L31_0 := ⟨z.2.2.1, z.1.2.1, z.2.1, z.1.2.2.2.1, z.1.2.2.2.2.1⟩
noncomputable def pt31_0 (x : L31_0) : St := pb31_0 (((), x.t1, (), x.t11, x.t12, ()), (x.t10, x.t0, ()))
noncomputable def rd31_0 : St → Option L31_0 := rdC 2 [0] [0, 1, 10, 11, 12] (rdM mk31_0 rb31_0)
theorem rb31_0_ok (n : Nat) : RdOk 2 n rb31_0 pb31_0 := stR_ok (.cons (.o 2) (.cons (.i .i64) (.cons (.o 1) (.cons (.i .i64) (.cons (.i .i64) .nil))))) (.row (.row .nil))
theorem rd31_0_ok (n : Nat) : RdOk 2 n rd31_0 pt31_0 := rdC_ok ((rb31_0_ok n).m mk31_0 (pat' := pt31_0) fun _ => rfl)
noncomputable def n31_0 (p : L31_0) : Option (Option L31_0) :=
  bif decide (p.t12 < p.t11) then
    if (0 : Int) ≤ p.t12 ∧ p.t12 < (↑p.t10.length : Int) then
      if 3 = 3 ∧ p.t12.toNat < p.t10.length then
        match a31_1 (L31_1.mk p.t0 p.t1 p.t10[p.t12.toNat]! (IntKind.i64.wrap (p.t1 - 1)) p.t10 p.t11 p.t12) with
        | none =>
          none
        | some r1 =>
          bif decide (0 ≤ r1.t9) then
            if (0 : Int) ≤ IntKind.i64.wrap ((8 : Int) * r1.t9) then
              if (r1.t0 ++ [IntKind.u8.wrap (bShr IntKind.i64 r1.t8 (IntKind.i64.wrap ((8 : Int) * r1.t9)))]).length ≤ 1073741824 then
                none
              else
                none
            else
              none
          else
            some (some (L31_0.mk r1.t0 r1.t1 r1.t10 r1.t11 (IntKind.i64.wrap (r1.t12 + 1))))
      else
        none
    else
      none
  else
    some (none)
theorem q31_0 (p : L31_0) : execA Try.prog (F31) Try.f31.ntmps 300 (loopAt Try.f31 0) (.two .no (.two .no (.two (.two .no (.two .no (.lp L31_1 rd31_1 pt31_1 a31_1 .no))) .no))) (Option L31_0) (pt31_0 p) (kOn rd31_0) = n31_0 p := by kernel_rfl
noncomputable def a31_0 : L31_0 → Option L31_0 := advG (n31_0)
abbrev E31 : Type := (List Int) × (List Int)
abbrev P31_e : Type := (Unit × Unit) × ((List Int) × (List Int) × Unit)
noncomputable def rb31_e : St → Option P31_e := stR 3 (slC 6 (asO 2) slN) (rsR 1 3 (rsR 2 5 rsN))
noncomputable def pb31_e : P31_e → St := stP 3 (fun z => [(6, .own 2)]) (fun z => [(1, .row 3 z.1), (2, .row 5 z.2.1)])
noncomputable def mk31_e (z : P31_e) : E31 := (z.2.2.1, z.2.1)
noncomputable def pt31_e (x : E31) : St := pb31_e (((), ()), (x.2, x.1, ()))
noncomputable def rd31_e : St → Option E31 := rdC 2 [] [6] (rdM mk31_e rb31_e)
theorem rb31_e_ok (n : Nat) : RdOk 2 n rb31_e pb31_e := stR_ok (.cons (.o 2) .nil) (.row (.row .nil))
theorem rd31_e_ok (n : Nat) : RdOk 2 n rd31_e pt31_e := rdC_ok ((rb31_e_ok n).m mk31_e (pat' := pt31_e) fun _ => rfl)
noncomputable def an31 : An := (.two .no (.two (.two .no (.lp L31_0 rd31_0 pt31_0 a31_0 (.two .no (.two .no (.two (.two .no (.two .no (.lp L31_1 rd31_1 pt31_1 a31_1 .no))) .no))))) .no))
theorem fa31 : FnAn Try.prog (F31) 2 300 31 (an31) := fnAn_of (l := [(loopAt Try.f31 0, (.lp L31_0 rd31_0 pt31_0 a31_0 (.two .no (.two .no (.two (.two .no (.two .no (.lp L31_1 rd31_1 pt31_1 a31_1 .no))) .no))))), (loopAt Try.f31 1, (.lp L31_1 rd31_1 pt31_1 a31_1 .no))]) Try.func31 (bodyOf_eq (by kernel_rfl)) (by kernel_rfl) fun p hp => by
  simp only [List.mem_cons, List.not_mem_nil, or_false] at hp
  rcases hp with rfl | rfl
  · exact ⟨rd31_0_ok _, advG_ok (q31_0)⟩
  · exact ⟨rd31_1_ok _, advG_ok (q31_1)⟩
noncomputable def m31 (a1 : Int) (b0 : List Int) (b1 : List Int) : Option E31 :=
  match a31_0 (L31_0.mk b0 a1 b1 (↑b1.length : Int) (0)) with
  | none =>
    none
  | some r2 =>
    bif decide (r2.t12 < r2.t11) then
      if (0 : Int) ≤ r2.t12 ∧ r2.t12 < (↑r2.t10.length : Int) then
        if 3 = 3 ∧ r2.t12.toNat < r2.t10.length then
          match a31_1 (L31_1.mk r2.t0 r2.t1 r2.t10[r2.t12.toNat]! (IntKind.i64.wrap (r2.t1 - 1)) r2.t10 r2.t11 r2.t12) with
          | none =>
            none
          | some r3 =>
            bif decide (0 ≤ r3.t9) then
              if (0 : Int) ≤ IntKind.i64.wrap ((8 : Int) * r3.t9) then
                if (r3.t0 ++ [IntKind.u8.wrap (bShr IntKind.i64 r3.t8 (IntKind.i64.wrap ((8 : Int) * r3.t9)))]).length ≤ 1073741824 then
                  none
                else
                  none
              else
                none
            else
              none
        else
          none
      else
        none
    else
      some ((r2.t0, r2.t10))
theorem c31 (a1 : Int) (b0 : List Int) (b1 : List Int) : callR Try.prog (F31) 300 (an31) 31 [.own 0, .n .i64 a1, .own 1] [(0, .row 5 b0), (1, .row 3 b1)] 2 rd31_e = m31 a1 b0 b1 := by kernel_rfl
noncomputable def o31 (x : E31) : Out := match (match outOf Try.prog 31 (pt31_e x) with
    | some ds => some (Out.mk (resA ds) (keepR (pt31_e x).R 2 (resA ds)) (pt31_e x).nx)
    | none => none) with
  | some o => o
  | none => ⟨.tup [], [], 0⟩
theorem fn31 (a1 : Int) (b0 : List Int) (b1 : List Int) (r : E31) (h : m31 a1 b0 b1 = some r) : fnOk Try.prog 31 ∧ FnY Try.prog 31 [.own 0, .n .i64 a1, .own 1] [(0, .row 5 b0), (1, .row 3 b1)] 2 (o31 r) :=
  fnY_of (p := r) F31_ok (fa31) rd31_e_ok (fun p => by kernel_rfl) (ltd_of (by kernel_rfl)) (rltd_of (by kernel_rfl)) ((c31 a1 b0 b1).trans h)
theorem fnok31 : fnOk Try.prog 31 := ⟨_, Try.func31, by kernel_rfl, by kernel_rfl⟩
noncomputable def e31 (F : Orc) : Orc := orY 31 2 (qyR (pkC (asO 0) (pkC (asI .i64) (pkC (asO 1) pkN))) (rsR 0 5 (rsR 1 3 rsN))) (fun g => m31 g.1.2.1 g.2.1 g.2.2.1 : ((Unit × Int × Unit × Unit) × ((List Int) × (List Int) × Unit)) → Option E31) o31 F
theorem e31_ok {F : Orc} (h : OrcG Try.prog F) : OrcG Try.prog (e31 F) := orY_g h fnok31 (qyR_ok (ca := fun g => [.own 0, .n .i64 g.2.1, .own 1]) (cr := fun g => [(0, .row 5 g.1), (1, .row 3 g.2.1)]) ((.cons (.o 0) (.cons (.i .i64) (.cons (.o 1) .nil))) : PkN (pkC (asO 0) (pkC (asI .i64) (pkC (asO 1) pkN))) _) ((.row (.row .nil)) : RsOk (rsR 0 5 (rsR 1 3 rsN)) _)) (fun b => by kernel_rfl) (fun g b hb => (fn31 g.1.2.1 g.2.1 g.2.2.1 b hb).2)
theorem e31_skip {F : Orc} {f : Nat} (hne : Nat.beq f 31 = false) (h : PureF F f) : PureF (e31 F) f := orY_skip hne h
/-! ### 31b: keyhole/ledger.put -/
noncomputable def F31b : Orc := or0
theorem F31b_ok : OrcG Try.prog F31b := or0_g
structure L31b_1 where
  t0 : List Int
  t1 : Int
  t8 : Int
  t9 : Int
  t10 : List Int
  t11 : Int
  t12 : Int
abbrev P31b_1 : Type := (Unit × Int × Int × Int × (List Int) × Int × Int × Unit) × ((List Int) × Unit)
noncomputable def rb31b_1 : St → Option P31b_1 := stR 2 (slC 0 (asO 1) (slC 1 (asI .i64) (slC 8 (asI .i64) (slC 9 (asI .i64) (slC 10 (asL 3) (slC 11 (asI .i64) (slC 12 (asI .i64) slN))))))) (rsR 1 5 rsN)
noncomputable def pb31b_1 : P31b_1 → St := stP 2 (fun z => [(0, .own 1), (1, .n .i64 z.2.1), (8, .n .i64 z.2.2.1), (9, .n .i64 z.2.2.2.1), (10, .sl 3 z.2.2.2.2.1), (11, .n .i64 z.2.2.2.2.2.1), (12, .n .i64 z.2.2.2.2.2.2.1)]) (fun z => [(1, .row 5 z.1)])
noncomputable def mk31b_1 (z : P31b_1) : L31b_1 := ⟨z.2.1, z.1.2.1, z.1.2.2.1, z.1.2.2.2.1, z.1.2.2.2.2.1, z.1.2.2.2.2.2.1, z.1.2.2.2.2.2.2.1⟩
noncomputable def pt31b_1 (x : L31b_1) : St := pb31b_1 (((), x.t1, x.t8, x.t9, x.t10, x.t11, x.t12, ()), (x.t0, ()))
noncomputable def rd31b_1 : St → Option L31b_1 := rdC 1 [] [0, 1, 8, 9, 10, 11, 12] (rdM mk31b_1 rb31b_1)
theorem rb31b_1_ok (n : Nat) : RdOk 1 n rb31b_1 pb31b_1 := stR_ok (.cons (.o 1) (.cons (.i .i64) (.cons (.i .i64) (.cons (.i .i64) (.cons (.l 3) (.cons (.i .i64) (.cons (.i .i64) .nil))))))) (.row .nil)
theorem rd31b_1_ok (n : Nat) : RdOk 1 n rd31b_1 pt31b_1 := rdC_ok ((rb31b_1_ok n).m mk31b_1 (pat' := pt31b_1) fun _ => rfl)
noncomputable def n31b_1 (p : L31b_1) : Option (Option L31b_1) :=
  bif decide (0 ≤ p.t9) then
    if (0 : Int) ≤ IntKind.i64.wrap ((8 : Int) * p.t9) then
      if (p.t0 ++ [IntKind.u8.wrap (bShr IntKind.i64 p.t8 (IntKind.i64.wrap ((8 : Int) * p.t9)))]).length ≤ 1073741824 then
        some (some (L31b_1.mk (p.t0 ++ [IntKind.u8.wrap (bShr IntKind.i64 p.t8 (IntKind.i64.wrap (8 * p.t9)))]) p.t1 p.t8 (IntKind.i64.wrap (p.t9 - 1)) p.t10 p.t11 p.t12))
      else
        none
    else
      none
  else
    some (none)
theorem q31b_1 (p : L31b_1) : execA Try.prog (F31b) Try.f31.ntmps 300 (loopAt Try.f31 1) .no (Option L31b_1) (pt31b_1 p) (kOn rd31b_1) = n31b_1 p := by kernel_rfl
noncomputable def a31b_1 : L31b_1 → Option L31b_1 := advG (n31b_1)
structure L31b_0 where
  t0 : List Int
  t1 : Int
  t10 : List Int
  t11 : Int
  t12 : Int
abbrev P31b_0 : Type := (Unit × Int × (List Int) × Int × Int × Unit) × ((List Int) × Unit)
noncomputable def rb31b_0 : St → Option P31b_0 := stR 2 (slC 0 (asO 1) (slC 1 (asI .i64) (slC 10 (asL 3) (slC 11 (asI .i64) (slC 12 (asI .i64) slN))))) (rsR 1 5 rsN)
noncomputable def pb31b_0 : P31b_0 → St := stP 2 (fun z => [(0, .own 1), (1, .n .i64 z.2.1), (10, .sl 3 z.2.2.1), (11, .n .i64 z.2.2.2.1), (12, .n .i64 z.2.2.2.2.1)]) (fun z => [(1, .row 5 z.1)])
noncomputable def mk31b_0 (z : P31b_0) : L31b_0 := ⟨z.2.1, z.1.2.1, z.1.2.2.1, z.1.2.2.2.1, z.1.2.2.2.2.1⟩
noncomputable def pt31b_0 (x : L31b_0) : St := pb31b_0 (((), x.t1, x.t10, x.t11, x.t12, ()), (x.t0, ()))
noncomputable def rd31b_0 : St → Option L31b_0 := rdC 1 [0] [0, 1, 10, 11, 12] (rdM mk31b_0 rb31b_0)
theorem rb31b_0_ok (n : Nat) : RdOk 1 n rb31b_0 pb31b_0 := stR_ok (.cons (.o 1) (.cons (.i .i64) (.cons (.l 3) (.cons (.i .i64) (.cons (.i .i64) .nil))))) (.row .nil)
theorem rd31b_0_ok (n : Nat) : RdOk 1 n rd31b_0 pt31b_0 := rdC_ok ((rb31b_0_ok n).m mk31b_0 (pat' := pt31b_0) fun _ => rfl)
noncomputable def n31b_0 (p : L31b_0) : Option (Option L31b_0) :=
  bif decide (p.t12 < p.t11) then
    if (0 : Int) ≤ p.t12 ∧ p.t12 < (↑p.t10.length : Int) then
      match a31b_1 (L31b_1.mk p.t0 p.t1 p.t10[p.t12.toNat]! (IntKind.i64.wrap (p.t1 - 1)) p.t10 p.t11 p.t12) with
      | none =>
        none
      | some r1 =>
        bif decide (0 ≤ r1.t9) then
          if (0 : Int) ≤ IntKind.i64.wrap ((8 : Int) * r1.t9) then
            if (r1.t0 ++ [IntKind.u8.wrap (bShr IntKind.i64 r1.t8 (IntKind.i64.wrap ((8 : Int) * r1.t9)))]).length ≤ 1073741824 then
              none
            else
              none
          else
            none
        else
          some (some (L31b_0.mk r1.t0 r1.t1 r1.t10 r1.t11 (IntKind.i64.wrap (r1.t12 + 1))))
    else
      none
  else
    some (none)
theorem q31b_0 (p : L31b_0) : execA Try.prog (F31b) Try.f31.ntmps 300 (loopAt Try.f31 0) (.two .no (.two .no (.two (.two .no (.two .no (.lp L31b_1 rd31b_1 pt31b_1 a31b_1 .no))) .no))) (Option L31b_0) (pt31b_0 p) (kOn rd31b_0) = n31b_0 p := by kernel_rfl
noncomputable def a31b_0 : L31b_0 → Option L31b_0 := advG (n31b_0)
abbrev E31b : Type := List Int
abbrev P31b_e : Type := (Unit × Unit) × ((List Int) × Unit)
noncomputable def rb31b_e : St → Option P31b_e := stR 2 (slC 6 (asO 1) slN) (rsR 1 5 rsN)
noncomputable def pb31b_e : P31b_e → St := stP 2 (fun z => [(6, .own 1)]) (fun z => [(1, .row 5 z.1)])
noncomputable def mk31b_e (z : P31b_e) : E31b := z.2.1
noncomputable def pt31b_e (x : E31b) : St := pb31b_e (((), ()), (x, ()))
noncomputable def rd31b_e : St → Option E31b := rdC 1 [] [6] (rdM mk31b_e rb31b_e)
theorem rb31b_e_ok (n : Nat) : RdOk 1 n rb31b_e pb31b_e := stR_ok (.cons (.o 1) .nil) (.row .nil)
theorem rd31b_e_ok (n : Nat) : RdOk 1 n rd31b_e pt31b_e := rdC_ok ((rb31b_e_ok n).m mk31b_e (pat' := pt31b_e) fun _ => rfl)
noncomputable def an31b : An := (.two .no (.two (.two .no (.lp L31b_0 rd31b_0 pt31b_0 a31b_0 (.two .no (.two .no (.two (.two .no (.two .no (.lp L31b_1 rd31b_1 pt31b_1 a31b_1 .no))) .no))))) .no))
theorem fa31b : FnAn Try.prog (F31b) 1 300 31 (an31b) := fnAn_of (l := [(loopAt Try.f31 0, (.lp L31b_0 rd31b_0 pt31b_0 a31b_0 (.two .no (.two .no (.two (.two .no (.two .no (.lp L31b_1 rd31b_1 pt31b_1 a31b_1 .no))) .no))))), (loopAt Try.f31 1, (.lp L31b_1 rd31b_1 pt31b_1 a31b_1 .no))]) Try.func31 (bodyOf_eq (by kernel_rfl)) (by kernel_rfl) fun p hp => by
  simp only [List.mem_cons, List.not_mem_nil, or_false] at hp
  rcases hp with rfl | rfl
  · exact ⟨rd31b_0_ok _, advG_ok (q31b_0)⟩
  · exact ⟨rd31b_1_ok _, advG_ok (q31b_1)⟩
noncomputable def m31b (a1 : Int) (a2 : List Int) (b0 : List Int) : Option E31b :=
  match a31b_0 (L31b_0.mk b0 a1 a2 (↑a2.length : Int) (0)) with
  | none =>
    none
  | some r2 =>
    bif decide (r2.t12 < r2.t11) then
      if (0 : Int) ≤ r2.t12 ∧ r2.t12 < (↑r2.t10.length : Int) then
        match a31b_1 (L31b_1.mk r2.t0 r2.t1 r2.t10[r2.t12.toNat]! (IntKind.i64.wrap (r2.t1 - 1)) r2.t10 r2.t11 r2.t12) with
        | none =>
          none
        | some r3 =>
          bif decide (0 ≤ r3.t9) then
            if (0 : Int) ≤ IntKind.i64.wrap ((8 : Int) * r3.t9) then
              if (r3.t0 ++ [IntKind.u8.wrap (bShr IntKind.i64 r3.t8 (IntKind.i64.wrap ((8 : Int) * r3.t9)))]).length ≤ 1073741824 then
                none
              else
                none
            else
              none
          else
            none
      else
        none
    else
      some (r2.t0)
theorem c31b (a1 : Int) (a2 : List Int) (b0 : List Int) : callR Try.prog (F31b) 300 (an31b) 31 [.own 0, .n .i64 a1, .sl 3 a2] [(0, .row 5 b0)] 1 rd31b_e = m31b a1 a2 b0 := by kernel_rfl
noncomputable def o31b (x : E31b) : Out := match (match outOf Try.prog 31 (pt31b_e x) with
    | some ds => some (Out.mk (resA ds) (keepR (pt31b_e x).R 1 (resA ds)) (pt31b_e x).nx)
    | none => none) with
  | some o => o
  | none => ⟨.tup [], [], 0⟩
theorem fn31b (a1 : Int) (a2 : List Int) (b0 : List Int) (r : E31b) (h : m31b a1 a2 b0 = some r) : fnOk Try.prog 31 ∧ FnY Try.prog 31 [.own 0, .n .i64 a1, .sl 3 a2] [(0, .row 5 b0)] 1 (o31b r) :=
  fnY_of (p := r) F31b_ok (fa31b) rd31b_e_ok (fun p => by kernel_rfl) (ltd_of (by kernel_rfl)) (rltd_of (by kernel_rfl)) ((c31b a1 a2 b0).trans h)
theorem fnok31b : fnOk Try.prog 31 := ⟨_, Try.func31, by kernel_rfl, by kernel_rfl⟩
noncomputable def e31b (F : Orc) : Orc := orY 31 1 (qyR (pkC (asO 0) (pkC (asI .i64) (pkC (asL 3) pkN))) (rsR 0 5 rsN)) (fun g => m31b g.1.2.1 g.1.2.2.1 g.2.1 : ((Unit × Int × (List Int) × Unit) × ((List Int) × Unit)) → Option E31b) o31b F
theorem e31b_ok {F : Orc} (h : OrcG Try.prog F) : OrcG Try.prog (e31b F) := orY_g h fnok31b (qyR_ok (ca := fun g => [.own 0, .n .i64 g.2.1, .sl 3 g.2.2.1]) (cr := fun g => [(0, .row 5 g.1)]) ((.cons (.o 0) (.cons (.i .i64) (.cons (.l 3) .nil))) : PkN (pkC (asO 0) (pkC (asI .i64) (pkC (asL 3) pkN))) _) ((.row .nil) : RsOk (rsR 0 5 rsN) _)) (fun b => by kernel_rfl) (fun g b hb => (fn31b g.1.2.1 g.1.2.2.1 g.2.1 b hb).2)
theorem e31b_skip {F : Orc} {f : Nat} (hne : Nat.beq f 31 = false) (h : PureF F f) : PureF (e31b F) f := orY_skip hne h
/-! ### 32: keyhole/ledger.padded -/
noncomputable def F32 : Orc := or0
theorem F32_ok : OrcG Try.prog F32 := or0_g
abbrev E32 : Type := List Int
abbrev P32_e : Type := (Unit × Unit) × ((List Int) × Unit)
noncomputable def rb32_e : St → Option P32_e := stR 2 (slC 2 (asO 1) slN) (rsR 1 5 rsN)
noncomputable def pb32_e : P32_e → St := stP 2 (fun z => [(2, .own 1)]) (fun z => [(1, .row 5 z.1)])
noncomputable def mk32_e (z : P32_e) : E32 := z.2.1
noncomputable def pt32_e (x : E32) : St := pb32_e (((), ()), (x, ()))
noncomputable def rd32_e : St → Option E32 := rdC 1 [] [2] (rdM mk32_e rb32_e)
theorem rb32_e_ok (n : Nat) : RdOk 1 n rb32_e pb32_e := stR_ok (.cons (.o 1) .nil) (.row .nil)
theorem rd32_e_ok (n : Nat) : RdOk 1 n rd32_e pt32_e := rdC_ok ((rb32_e_ok n).m mk32_e (pat' := pt32_e) fun _ => rfl)
noncomputable def an32 : An := .no
theorem fa32 : FnAn Try.prog (F32) 1 300 32 (an32) := fnAn_of (l := []) Try.func32 (bodyOf_eq (by kernel_rfl)) (by kernel_rfl) fun p hp => by
  cases hp
noncomputable def m32 (b0 : List Int) : Option E32 :=
  if (0 : Int) ≤ IntKind.i64.wrap ((96 : Int) - (↑b0.length : Int)) then
    if (b0 ++ List.replicate (IntKind.i64.wrap ((96 : Int) - (↑b0.length : Int))).toNat ((0 : Int))).length ≤ 1073741824 then
      some (b0 ++ List.replicate (IntKind.i64.wrap (96 - (↑b0.length : Int))).toNat (0))
    else
      none
  else
    none
theorem c32 (b0 : List Int) : callR Try.prog (F32) 300 (an32) 32 [.own 0] [(0, .row 5 b0)] 1 rd32_e = m32 b0 := by kernel_rfl
noncomputable def o32 (x : E32) : Out := match (match outOf Try.prog 32 (pt32_e x) with
    | some ds => some (Out.mk (resA ds) (keepR (pt32_e x).R 1 (resA ds)) (pt32_e x).nx)
    | none => none) with
  | some o => o
  | none => ⟨.tup [], [], 0⟩
theorem fn32 (b0 : List Int) (r : E32) (h : m32 b0 = some r) : fnOk Try.prog 32 ∧ FnY Try.prog 32 [.own 0] [(0, .row 5 b0)] 1 (o32 r) :=
  fnY_of (p := r) F32_ok (fa32) rd32_e_ok (fun p => by kernel_rfl) (ltd_of (by kernel_rfl)) (rltd_of (by kernel_rfl)) ((c32 b0).trans h)
theorem fnok32 : fnOk Try.prog 32 := ⟨_, Try.func32, by kernel_rfl, by kernel_rfl⟩
noncomputable def e32 (F : Orc) : Orc := orY 32 1 (qyR (pkC (asO 0) pkN) (rsR 0 5 rsN)) (fun g => m32 g.2.1 : ((Unit × Unit) × ((List Int) × Unit)) → Option E32) o32 F
theorem e32_ok {F : Orc} (h : OrcG Try.prog F) : OrcG Try.prog (e32 F) := orY_g h fnok32 (qyR_ok (ca := fun g => [.own 0]) (cr := fun g => [(0, .row 5 g.1)]) ((.cons (.o 0) .nil) : PkN (pkC (asO 0) pkN) _) ((.row .nil) : RsOk (rsR 0 5 rsN) _)) (fun b => by kernel_rfl) (fun g b hb => (fn32 g.2.1 b hb).2)
theorem e32_skip {F : Orc} {f : Nat} (hne : Nat.beq f 32 = false) (h : PureF F f) : PureF (e32 F) f := orY_skip hne h
/-! ### 8: keyhole/ledger.Encode -/
noncomputable def F8 : Orc := (e32 (e31 (e31b (e30 (e29 or0)))))
theorem F8_ok : OrcG Try.prog F8 := (e32_ok (e31_ok (e31b_ok (e30_ok (e29_ok or0_g)))))
abbrev E8 : Type := (List Int) × Int
abbrev P8_e : Type := (Unit × Int × Unit) × ((List Int) × Unit)
noncomputable def rb8_e : St → Option P8_e := stR 1 (slC 2 (asO 0) (slC 3 (asI .i64) slN)) (rsR 0 5 rsN)
noncomputable def pb8_e : P8_e → St := stP 1 (fun z => [(2, .own 0), (3, .n .i64 z.2.1)]) (fun z => [(0, .row 5 z.1)])
noncomputable def mk8_e (z : P8_e) : E8 := (z.2.1, z.1.2.1)
noncomputable def pt8_e (x : E8) : St := pb8_e (((), x.2, ()), (x.1, ()))
noncomputable def rd8_e : St → Option E8 := rdC 0 [] [2, 3] (rdF (ownS 2 [] 5) (rdC 0 [] [2, 3] (rdM mk8_e rb8_e)))
theorem rb8_e_ok (n : Nat) : RdOk 0 n rb8_e pb8_e := stR_ok (.cons (.o 0) (.cons (.i .i64) .nil)) (.row .nil)
theorem rd8_e_ok (n : Nat) : RdOk 0 n rd8_e pt8_e := rdC_ok (rdF_ok (.s 2 [] 5) (rdC_ok ((rb8_e_ok n).m mk8_e (pat' := pt8_e) fun _ => rfl)))
noncomputable def an8 : An := .no
theorem fa8 : FnAn Try.prog (F8) 0 300 8 (an8) := fnAn_of (l := []) Try.func8 (bodyOf_eq (by kernel_rfl)) (by kernel_rfl) fun p hp => by
  cases hp
noncomputable def m8 (a0 : Record) : Option E8 :=
  bif bif m30 (m29 a0).snd.fEpoch then false else true then
    some (([], 1))
  else
    match m31 (4) [1] [(m29 a0).snd.fEpoch] with
    | none =>
      none
    | some r1 =>
      bif bif m30 (m29 a0).snd.fSeq then false else true then
        some (([], 1))
      else
        match m31 (4) r1.fst [(m29 a0).snd.fSeq] with
        | none =>
          none
        | some r2 =>
          bif bif m30 (m29 a0).snd.fSecret then false else true then
            some (([], 1))
          else
            match m31 (4) r2.fst [(m29 a0).snd.fSecret] with
            | none =>
              none
            | some r3 =>
              bif bif m30 (m29 a0).snd.fClient then false else true then
                some (([], 1))
              else
                match m31 (4) r3.fst [(m29 a0).snd.fClient] with
                | none =>
                  none
                | some r4 =>
                  bif bif m30 (m29 a0).snd.fNumber then false else true then
                    some (([], 1))
                  else
                    match m31 (4) r4.fst [(m29 a0).snd.fNumber] with
                    | none =>
                      none
                    | some r5 =>
                      bif bif m30 (m29 a0).snd.fProgram then false else true then
                        some (([], 1))
                      else
                        match m31 (4) r5.fst [(m29 a0).snd.fProgram] with
                        | none =>
                          none
                        | some r6 =>
                          bif bif m30 (m29 a0).snd.fPublic then false else true then
                            some (([], 1))
                          else
                            match m31 (4) r6.fst [(m29 a0).snd.fPublic] with
                            | none =>
                              none
                            | some r7 =>
                              bif bif m30 (m29 a0).snd.fAnswer then false else true then
                                some (([], 1))
                              else
                                match m31 (4) r7.fst [(m29 a0).snd.fAnswer] with
                                | none =>
                                  none
                                | some r8 =>
                                  bif bif m30 (m29 a0).snd.fCharge then false else true then
                                    some (([], 1))
                                  else
                                    match m31 (4) r8.fst [(m29 a0).snd.fCharge] with
                                    | none =>
                                      none
                                    | some r9 =>
                                      match m32 r9.fst with
                                      | none =>
                                        none
                                      | some r10 =>
                                        some ((r10, 0))
theorem c8 (a0 : Record) : callR Try.prog (F8) 300 (an8) 8 [.agg (uni.cells 23 a0)] [] 0 rd8_e = m8 a0 := by kernel_rfl
noncomputable def o8 (x : E8) : Out := match (match outOf Try.prog 8 (pt8_e x) with
    | some ds => some (Out.mk (resA ds) (keepR (pt8_e x).R 0 (resA ds)) (pt8_e x).nx)
    | none => none) with
  | some o => o
  | none => ⟨.tup [], [], 0⟩
theorem fn8 (a0 : Record) (r : E8) (h : m8 a0 = some r) : fnOk Try.prog 8 ∧ FnY Try.prog 8 [.agg (uni.cells 23 a0)] [] 0 (o8 r) :=
  fnY_of (p := r) F8_ok (fa8) rd8_e_ok (fun p => by kernel_rfl) (ltd_of (by kernel_rfl)) (rltd_of (by kernel_rfl)) ((c8 a0).trans h)
theorem fnok8 : fnOk Try.prog 8 := ⟨_, Try.func8, by kernel_rfl, by kernel_rfl⟩
noncomputable def e8 (F : Orc) : Orc := orL 8 false (pkC (asGc 23) pkN) (fun g => m8 g.1 : (Record × Unit) → Option E8) o8 F
theorem e8_ok {F : Orc} (h : OrcG Try.prog F) : OrcG Try.prog (e8 F) := orL_g (sc := scU) h scU_ok fnok8 (ca := fun g => [.agg (uni.cells 23 g.1)]) ((.cons (.g 23) .nil) : PkN (pkC (asGc 23) pkN) _) (fun b => by kernel_rfl) (fun b => by kernel_rfl) (fun g b hb => (fn8 g.1 b hb).2)
theorem e8_skip {F : Orc} {f : Nat} (hne : Nat.beq f 8 = false) (h : PureF F f) : PureF (e8 F) f := orL_skip hne h
/-! ### 42: keyhole/ledger.CheckHead$1 -/
noncomputable def F42 : Orc := or0
theorem F42_ok : OrcG Try.prog F42 := or0_g
abbrev E42 : Type := Bool
abbrev P42_e : Type := (Bool × Unit) × (Unit)
noncomputable def rb42_e : St → Option P42_e := stR 0 (slC 2 asB slN) rsN
noncomputable def pb42_e : P42_e → St := stP 0 (fun z => [(2, .b z.1)]) (fun z => [])
noncomputable def mk42_e (z : P42_e) : E42 := z.1.1
noncomputable def pt42_e (x : E42) : St := pb42_e ((x, ()), (()))
noncomputable def rd42_e : St → Option E42 := rdC 0 [] [2] (rdM mk42_e rb42_e)
theorem rb42_e_ok (n : Nat) : RdOk 0 n rb42_e pb42_e := stR_ok (.cons .b .nil) .nil
theorem rd42_e_ok (n : Nat) : RdOk 0 n rd42_e pt42_e := rdC_ok ((rb42_e_ok n).m mk42_e (pat' := pt42_e) fun _ => rfl)
noncomputable def an42 : An := (.two .no (.two (.rb [] 2) .no))
theorem pu42  : ∀ f ∈ ([] : List Nat), PureF (F42) f := fun f hf => by
  cases hf
theorem fa42 : FnAn Try.prog (F42) 0 300 42 (an42) := fnAn_of (l := [(.skip, (.rb [] 2))]) Try.func42 (bodyOf_eq (by kernel_rfl)) (by kernel_rfl) fun p hp => by
  simp only [List.mem_cons, List.not_mem_nil, or_false] at hp
  rcases hp with rfl
  · exact pu42
noncomputable def m42 (a0 : Int) : E42 :=
  let r1 : Bool := bif decide (a0 < 1) then
    true
  else
    decide (1048576 < a0)
  r1
theorem c42 (a0 : Int) : callR Try.prog (F42) 300 (an42) 42 [.n .i64 a0] [] 0 rd42_e = some (m42 a0) := by
  refine Eq.trans (b := (
    match bif decide (a0 < 1) then
      some (true)
    else
      some (decide (1048576 < a0)) with
    | none =>
      none
    | some r1 =>
      some (r1) : Option E42)) (by kernel_rfl) ?_
  simp only [m42, cond_some, ite_some]
noncomputable def o42 (x : E42) : Out := match (match outOf Try.prog 42 (pt42_e x) with
    | some ds => some (Out.mk (resA ds) (keepR (pt42_e x).R 0 (resA ds)) (pt42_e x).nx)
    | none => none) with
  | some o => o
  | none => ⟨.tup [], [], 0⟩
theorem fn42 (a0 : Int) (r : E42) (h : m42 a0 = r) : fnOk Try.prog 42 ∧ FnY Try.prog 42 [.n .i64 a0] [] 0 (o42 r) :=
  fnY_of (p := r) F42_ok (fa42) rd42_e_ok (fun p => by kernel_rfl) (ltd_of (by kernel_rfl)) (rltd_of (by kernel_rfl)) ((c42 a0).trans (congrArg some h))
theorem fnok42 : fnOk Try.prog 42 := ⟨_, Try.func42, by kernel_rfl, by kernel_rfl⟩
noncomputable def e42 (F : Orc) : Orc := orL 42 false (pkC (asI .i64) pkN) (fun g => some (m42 g.1) : (Int × Unit) → Option E42) o42 F
theorem e42_ok {F : Orc} (h : OrcG Try.prog F) : OrcG Try.prog (e42 F) := orL_g (sc := scU) h scU_ok fnok42 (ca := fun g => [.n .i64 g.1]) ((.cons (.i .i64) .nil) : PkN (pkC (asI .i64) pkN) _) (fun b => by kernel_rfl) (fun b => by kernel_rfl) (fun g b hb => (fn42 g.1 b (Option.some.inj hb)).2)
theorem e42_pure {F : Orc} {f : Nat} (h : PureF F f) : PureF (e42 F) f := orL_pure h (fun b => by kernel_rfl)
/-! ### 52: slices.IndexFunc[[]int,int] -/
noncomputable def F52 : Orc := (e42 or0)
theorem F52_ok : OrcG Try.prog F52 := (e42_ok or0_g)
structure L52_0 where
  t0 : List Int
  t7 : Int
  t8 : Int
abbrev P52_0 : Type := ((List Int) × ((Unit)) × Int × Int × Unit) × (Unit)
noncomputable def rb52_0 : St → Option P52_0 := stR 0 (slC 0 (asL 3) (slC 1 (asFf 42 pkN) (slC 7 (asI .i64) (slC 8 (asI .i64) slN)))) rsN
noncomputable def pb52_0 : P52_0 → St := stP 0 (fun z => [(0, .sl 3 z.1), (1, .fn (.func 42) []), (7, .n .i64 z.2.2.1), (8, .n .i64 z.2.2.2.1)]) (fun z => [])
noncomputable def mk52_0 (z : P52_0) : L52_0 := ⟨z.1.1, z.1.2.2.1, z.1.2.2.2.1⟩
noncomputable def pt52_0 (x : L52_0) : St := pb52_0 ((x.t0, (()), x.t7, x.t8, ()), (()))
noncomputable def rd52_0 : St → Option L52_0 := rdC 0 [] [0, 1, 7, 8] (rdM mk52_0 rb52_0)
theorem rb52_0_ok (n : Nat) : RdOk 0 n rb52_0 pb52_0 := stR_ok (.cons (.l 3) (.cons (.ff 42 .nil) (.cons (.i .i64) (.cons (.i .i64) .nil)))) .nil
theorem rd52_0_ok (n : Nat) : RdOk 0 n rd52_0 pt52_0 := rdC_ok ((rb52_0_ok n).m mk52_0 (pat' := pt52_0) fun _ => rfl)
noncomputable def n52_0 (p : L52_0) : Option (Option L52_0) :=
  bif decide (p.t8 < p.t7) then
    if (0 : Int) ≤ p.t8 ∧ p.t8 < (↑p.t0.length : Int) then
      bif m42 p.t0[p.t8.toNat]! then
        some (none)
      else
        some (some (L52_0.mk p.t0 p.t7 (IntKind.i64.wrap (p.t8 + 1))))
    else
      none
  else
    some (none)
theorem q52_0 (p : L52_0) : execA Try.prog (F52) Try.f52.ntmps 300 (loopAt Try.f52 0) .no (Option L52_0) (pt52_0 p) (kOn rd52_0) = n52_0 p := by kernel_rfl
noncomputable def a52_0 : L52_0 → Option L52_0 := advG (n52_0)
abbrev E52 : Type := Int
abbrev P52_e : Type := (Int × Unit) × (Unit)
noncomputable def rb52_e : St → Option P52_e := stR 0 (slC 4 (asI .i64) slN) rsN
noncomputable def pb52_e : P52_e → St := stP 0 (fun z => [(4, .n .i64 z.1)]) (fun z => [])
noncomputable def mk52_e (z : P52_e) : E52 := z.1.1
noncomputable def pt52_e (x : E52) : St := pb52_e ((x, ()), (()))
noncomputable def rd52_e : St → Option E52 := rdC 0 [] [4] (rdM mk52_e rb52_e)
theorem rb52_e_ok (n : Nat) : RdOk 0 n rb52_e pb52_e := stR_ok (.cons (.i .i64) .nil) .nil
theorem rd52_e_ok (n : Nat) : RdOk 0 n rd52_e pt52_e := rdC_ok ((rb52_e_ok n).m mk52_e (pat' := pt52_e) fun _ => rfl)
noncomputable def an52 : An := (.two .no (.two (.two .no (.lp L52_0 rd52_0 pt52_0 a52_0 .no)) .no))
theorem fa52 : FnAn Try.prog (F52) 0 300 52 (an52) := fnAn_of (l := [(loopAt Try.f52 0, (.lp L52_0 rd52_0 pt52_0 a52_0 .no))]) Try.func52 (bodyOf_eq (by kernel_rfl)) (by kernel_rfl) fun p hp => by
  simp only [List.mem_cons, List.not_mem_nil, or_false] at hp
  rcases hp with rfl
  · exact ⟨rd52_0_ok _, advG_ok (q52_0)⟩
noncomputable def m52 (a0 : List Int) : Option E52 :=
  match a52_0 (L52_0.mk a0 (↑a0.length : Int) (0)) with
  | none =>
    none
  | some r1 =>
    bif decide (r1.t8 < r1.t7) then
      if (0 : Int) ≤ r1.t8 ∧ r1.t8 < (↑r1.t0.length : Int) then
        bif m42 r1.t0[r1.t8.toNat]! then
          some (r1.t8)
        else
          none
      else
        none
    else
      some (-1)
theorem c52 (a0 : List Int) : callR Try.prog (F52) 300 (an52) 52 [.sl 3 a0, .fn (.func 42) []] [] 0 rd52_e = m52 a0 := by kernel_rfl
noncomputable def o52 (x : E52) : Out := match (match outOf Try.prog 52 (pt52_e x) with
    | some ds => some (Out.mk (resA ds) (keepR (pt52_e x).R 0 (resA ds)) (pt52_e x).nx)
    | none => none) with
  | some o => o
  | none => ⟨.tup [], [], 0⟩
theorem fn52 (a0 : List Int) (r : E52) (h : m52 a0 = some r) : fnOk Try.prog 52 ∧ FnY Try.prog 52 [.sl 3 a0, .fn (.func 42) []] [] 0 (o52 r) :=
  fnY_of (p := r) F52_ok (fa52) rd52_e_ok (fun p => by kernel_rfl) (ltd_of (by kernel_rfl)) (rltd_of (by kernel_rfl)) ((c52 a0).trans h)
theorem fnok52 : fnOk Try.prog 52 := ⟨_, Try.func52, by kernel_rfl, by kernel_rfl⟩
noncomputable def e52 (F : Orc) : Orc := orL 52 true (pkC (asL 3) (pkC (asFf 42 pkN) pkN)) (fun g => m52 g.1 : ((List Int) × ((Unit)) × Unit) → Option E52) o52 F
theorem e52_ok {F : Orc} (h : OrcG Try.prog F) : OrcG Try.prog (e52 F) := orL_g (sc := scU) h scU_ok fnok52 (ca := fun g => [.sl 3 g.1, .fn (.func 42) []]) ((.cons (.l 3) (.cons (.ff 42 .nil) .nil)) : PkN (pkC (asL 3) (pkC (asFf 42 pkN) pkN)) _) (fun b => by kernel_rfl) (fun b => by kernel_rfl) (fun g b hb => (fn52 g.1 b hb).2)
theorem e52_pure {F : Orc} {f : Nat} (h : PureF F f) : PureF (e52 F) f := orL_pure h (fun b => by kernel_rfl)
/-! ### 35: keyhole/keyholelaw50.valid$1 -/
noncomputable def F35 : Orc := or0
theorem F35_ok : OrcG Try.prog F35 := or0_g
abbrev E35 : Type := Bool
abbrev P35_e : Type := (Bool × Unit) × (Unit)
noncomputable def rb35_e : St → Option P35_e := stR 0 (slC 2 asB slN) rsN
noncomputable def pb35_e : P35_e → St := stP 0 (fun z => [(2, .b z.1)]) (fun z => [])
noncomputable def mk35_e (z : P35_e) : E35 := z.1.1
noncomputable def pt35_e (x : E35) : St := pb35_e ((x, ()), (()))
noncomputable def rd35_e : St → Option E35 := rdC 0 [] [2] (rdM mk35_e rb35_e)
theorem rb35_e_ok (n : Nat) : RdOk 0 n rb35_e pb35_e := stR_ok (.cons .b .nil) .nil
theorem rd35_e_ok (n : Nat) : RdOk 0 n rd35_e pt35_e := rdC_ok ((rb35_e_ok n).m mk35_e (pat' := pt35_e) fun _ => rfl)
noncomputable def an35 : An := (.two .no (.two (.rb [] 2) .no))
theorem pu35  : ∀ f ∈ ([] : List Nat), PureF (F35) f := fun f hf => by
  cases hf
theorem fa35 : FnAn Try.prog (F35) 0 300 35 (an35) := fnAn_of (l := [(.skip, (.rb [] 2))]) Try.func35 (bodyOf_eq (by kernel_rfl)) (by kernel_rfl) fun p hp => by
  simp only [List.mem_cons, List.not_mem_nil, or_false] at hp
  rcases hp with rfl
  · exact pu35
noncomputable def m35 (a0 : Int) : E35 :=
  let r1 : Bool := bif decide (a0 < 0) then
    true
  else
    decide (2147483647 < a0)
  r1
theorem c35 (a0 : Int) : callR Try.prog (F35) 300 (an35) 35 [.n .i64 a0] [] 0 rd35_e = some (m35 a0) := by
  refine Eq.trans (b := (
    match bif decide (a0 < 0) then
      some (true)
    else
      some (decide (2147483647 < a0)) with
    | none =>
      none
    | some r1 =>
      some (r1) : Option E35)) (by kernel_rfl) ?_
  simp only [m35, cond_some, ite_some]
noncomputable def o35 (x : E35) : Out := match (match outOf Try.prog 35 (pt35_e x) with
    | some ds => some (Out.mk (resA ds) (keepR (pt35_e x).R 0 (resA ds)) (pt35_e x).nx)
    | none => none) with
  | some o => o
  | none => ⟨.tup [], [], 0⟩
theorem fn35 (a0 : Int) (r : E35) (h : m35 a0 = r) : fnOk Try.prog 35 ∧ FnY Try.prog 35 [.n .i64 a0] [] 0 (o35 r) :=
  fnY_of (p := r) F35_ok (fa35) rd35_e_ok (fun p => by kernel_rfl) (ltd_of (by kernel_rfl)) (rltd_of (by kernel_rfl)) ((c35 a0).trans (congrArg some h))
theorem fnok35 : fnOk Try.prog 35 := ⟨_, Try.func35, by kernel_rfl, by kernel_rfl⟩
noncomputable def e35 (F : Orc) : Orc := orL 35 false (pkC (asI .i64) pkN) (fun g => some (m35 g.1) : (Int × Unit) → Option E35) o35 F
theorem e35_ok {F : Orc} (h : OrcG Try.prog F) : OrcG Try.prog (e35 F) := orL_g (sc := scU) h scU_ok fnok35 (ca := fun g => [.n .i64 g.1]) ((.cons (.i .i64) .nil) : PkN (pkC (asI .i64) pkN) _) (fun b => by kernel_rfl) (fun b => by kernel_rfl) (fun g b hb => (fn35 g.1 b (Option.some.inj hb)).2)
theorem e35_pure {F : Orc} {f : Nat} (h : PureF F f) : PureF (e35 F) f := orL_pure h (fun b => by kernel_rfl)
/-! ### 52b: slices.IndexFunc[[]int,int] -/
noncomputable def F52b : Orc := (e35 or0)
theorem F52b_ok : OrcG Try.prog F52b := (e35_ok or0_g)
structure L52b_0 where
  t0 : List Int
  t7 : Int
  t8 : Int
abbrev P52b_0 : Type := ((List Int) × ((Unit)) × Int × Int × Unit) × (Unit)
noncomputable def rb52b_0 : St → Option P52b_0 := stR 0 (slC 0 (asL 3) (slC 1 (asFf 35 pkN) (slC 7 (asI .i64) (slC 8 (asI .i64) slN)))) rsN
noncomputable def pb52b_0 : P52b_0 → St := stP 0 (fun z => [(0, .sl 3 z.1), (1, .fn (.func 35) []), (7, .n .i64 z.2.2.1), (8, .n .i64 z.2.2.2.1)]) (fun z => [])
noncomputable def mk52b_0 (z : P52b_0) : L52b_0 := ⟨z.1.1, z.1.2.2.1, z.1.2.2.2.1⟩
noncomputable def pt52b_0 (x : L52b_0) : St := pb52b_0 ((x.t0, (()), x.t7, x.t8, ()), (()))
noncomputable def rd52b_0 : St → Option L52b_0 := rdC 0 [] [0, 1, 7, 8] (rdM mk52b_0 rb52b_0)
theorem rb52b_0_ok (n : Nat) : RdOk 0 n rb52b_0 pb52b_0 := stR_ok (.cons (.l 3) (.cons (.ff 35 .nil) (.cons (.i .i64) (.cons (.i .i64) .nil)))) .nil
theorem rd52b_0_ok (n : Nat) : RdOk 0 n rd52b_0 pt52b_0 := rdC_ok ((rb52b_0_ok n).m mk52b_0 (pat' := pt52b_0) fun _ => rfl)
noncomputable def n52b_0 (p : L52b_0) : Option (Option L52b_0) :=
  bif decide (p.t8 < p.t7) then
    if (0 : Int) ≤ p.t8 ∧ p.t8 < (↑p.t0.length : Int) then
      bif m35 p.t0[p.t8.toNat]! then
        some (none)
      else
        some (some (L52b_0.mk p.t0 p.t7 (IntKind.i64.wrap (p.t8 + 1))))
    else
      none
  else
    some (none)
theorem q52b_0 (p : L52b_0) : execA Try.prog (F52b) Try.f52.ntmps 300 (loopAt Try.f52 0) .no (Option L52b_0) (pt52b_0 p) (kOn rd52b_0) = n52b_0 p := by kernel_rfl
noncomputable def a52b_0 : L52b_0 → Option L52b_0 := advG (n52b_0)
abbrev E52b : Type := Int
abbrev P52b_e : Type := (Int × Unit) × (Unit)
noncomputable def rb52b_e : St → Option P52b_e := stR 0 (slC 4 (asI .i64) slN) rsN
noncomputable def pb52b_e : P52b_e → St := stP 0 (fun z => [(4, .n .i64 z.1)]) (fun z => [])
noncomputable def mk52b_e (z : P52b_e) : E52b := z.1.1
noncomputable def pt52b_e (x : E52b) : St := pb52b_e ((x, ()), (()))
noncomputable def rd52b_e : St → Option E52b := rdC 0 [] [4] (rdM mk52b_e rb52b_e)
theorem rb52b_e_ok (n : Nat) : RdOk 0 n rb52b_e pb52b_e := stR_ok (.cons (.i .i64) .nil) .nil
theorem rd52b_e_ok (n : Nat) : RdOk 0 n rd52b_e pt52b_e := rdC_ok ((rb52b_e_ok n).m mk52b_e (pat' := pt52b_e) fun _ => rfl)
noncomputable def an52b : An := (.two .no (.two (.two .no (.lp L52b_0 rd52b_0 pt52b_0 a52b_0 .no)) .no))
theorem fa52b : FnAn Try.prog (F52b) 0 300 52 (an52b) := fnAn_of (l := [(loopAt Try.f52 0, (.lp L52b_0 rd52b_0 pt52b_0 a52b_0 .no))]) Try.func52 (bodyOf_eq (by kernel_rfl)) (by kernel_rfl) fun p hp => by
  simp only [List.mem_cons, List.not_mem_nil, or_false] at hp
  rcases hp with rfl
  · exact ⟨rd52b_0_ok _, advG_ok (q52b_0)⟩
noncomputable def m52b (a0 : List Int) : Option E52b :=
  match a52b_0 (L52b_0.mk a0 (↑a0.length : Int) (0)) with
  | none =>
    none
  | some r1 =>
    bif decide (r1.t8 < r1.t7) then
      if (0 : Int) ≤ r1.t8 ∧ r1.t8 < (↑r1.t0.length : Int) then
        bif m35 r1.t0[r1.t8.toNat]! then
          some (r1.t8)
        else
          none
      else
        none
    else
      some (-1)
theorem c52b (a0 : List Int) : callR Try.prog (F52b) 300 (an52b) 52 [.sl 3 a0, .fn (.func 35) []] [] 0 rd52b_e = m52b a0 := by kernel_rfl
noncomputable def o52b (x : E52b) : Out := match (match outOf Try.prog 52 (pt52b_e x) with
    | some ds => some (Out.mk (resA ds) (keepR (pt52b_e x).R 0 (resA ds)) (pt52b_e x).nx)
    | none => none) with
  | some o => o
  | none => ⟨.tup [], [], 0⟩
theorem fn52b (a0 : List Int) (r : E52b) (h : m52b a0 = some r) : fnOk Try.prog 52 ∧ FnY Try.prog 52 [.sl 3 a0, .fn (.func 35) []] [] 0 (o52b r) :=
  fnY_of (p := r) F52b_ok (fa52b) rd52b_e_ok (fun p => by kernel_rfl) (ltd_of (by kernel_rfl)) (rltd_of (by kernel_rfl)) ((c52b a0).trans h)
theorem fnok52b : fnOk Try.prog 52 := ⟨_, Try.func52, by kernel_rfl, by kernel_rfl⟩
noncomputable def e52b (F : Orc) : Orc := orL 52 true (pkC (asL 3) (pkC (asFf 35 pkN) pkN)) (fun g => m52b g.1 : ((List Int) × ((Unit)) × Unit) → Option E52b) o52b F
theorem e52b_ok {F : Orc} (h : OrcG Try.prog F) : OrcG Try.prog (e52b F) := orL_g (sc := scU) h scU_ok fnok52b (ca := fun g => [.sl 3 g.1, .fn (.func 35) []]) ((.cons (.l 3) (.cons (.ff 35 .nil) .nil)) : PkN (pkC (asL 3) (pkC (asFf 35 pkN) pkN)) _) (fun b => by kernel_rfl) (fun b => by kernel_rfl) (fun g b hb => (fn52b g.1 b hb).2)
theorem e52b_pure {F : Orc} {f : Nat} (h : PureF F f) : PureF (e52b F) f := orL_pure h (fun b => by kernel_rfl)
/-! ### 41: keyhole/keyholelaw50.head$1 -/
noncomputable def F41 : Orc := or0
theorem F41_ok : OrcG Try.prog F41 := or0_g
abbrev E41 : Type := Bool
abbrev P41_e : Type := (Bool × Unit) × (Unit)
noncomputable def rb41_e : St → Option P41_e := stR 0 (slC 2 asB slN) rsN
noncomputable def pb41_e : P41_e → St := stP 0 (fun z => [(2, .b z.1)]) (fun z => [])
noncomputable def mk41_e (z : P41_e) : E41 := z.1.1
noncomputable def pt41_e (x : E41) : St := pb41_e ((x, ()), (()))
noncomputable def rd41_e : St → Option E41 := rdC 0 [] [2] (rdM mk41_e rb41_e)
theorem rb41_e_ok (n : Nat) : RdOk 0 n rb41_e pb41_e := stR_ok (.cons .b .nil) .nil
theorem rd41_e_ok (n : Nat) : RdOk 0 n rd41_e pt41_e := rdC_ok ((rb41_e_ok n).m mk41_e (pat' := pt41_e) fun _ => rfl)
noncomputable def an41 : An := (.two .no (.two (.rb [] 2) .no))
theorem pu41  : ∀ f ∈ ([] : List Nat), PureF (F41) f := fun f hf => by
  cases hf
theorem fa41 : FnAn Try.prog (F41) 0 300 41 (an41) := fnAn_of (l := [(.skip, (.rb [] 2))]) Try.func41 (bodyOf_eq (by kernel_rfl)) (by kernel_rfl) fun p hp => by
  simp only [List.mem_cons, List.not_mem_nil, or_false] at hp
  rcases hp with rfl
  · exact pu41
noncomputable def m41 (a0 : Int) : E41 :=
  let r1 : Bool := bif decide (a0 < 1) then
    true
  else
    decide (1048576 < a0)
  r1
theorem c41 (a0 : Int) : callR Try.prog (F41) 300 (an41) 41 [.n .i64 a0] [] 0 rd41_e = some (m41 a0) := by
  refine Eq.trans (b := (
    match bif decide (a0 < 1) then
      some (true)
    else
      some (decide (1048576 < a0)) with
    | none =>
      none
    | some r1 =>
      some (r1) : Option E41)) (by kernel_rfl) ?_
  simp only [m41, cond_some, ite_some]
noncomputable def o41 (x : E41) : Out := match (match outOf Try.prog 41 (pt41_e x) with
    | some ds => some (Out.mk (resA ds) (keepR (pt41_e x).R 0 (resA ds)) (pt41_e x).nx)
    | none => none) with
  | some o => o
  | none => ⟨.tup [], [], 0⟩
theorem fn41 (a0 : Int) (r : E41) (h : m41 a0 = r) : fnOk Try.prog 41 ∧ FnY Try.prog 41 [.n .i64 a0] [] 0 (o41 r) :=
  fnY_of (p := r) F41_ok (fa41) rd41_e_ok (fun p => by kernel_rfl) (ltd_of (by kernel_rfl)) (rltd_of (by kernel_rfl)) ((c41 a0).trans (congrArg some h))
theorem fnok41 : fnOk Try.prog 41 := ⟨_, Try.func41, by kernel_rfl, by kernel_rfl⟩
noncomputable def e41 (F : Orc) : Orc := orL 41 false (pkC (asI .i64) pkN) (fun g => some (m41 g.1) : (Int × Unit) → Option E41) o41 F
theorem e41_ok {F : Orc} (h : OrcG Try.prog F) : OrcG Try.prog (e41 F) := orL_g (sc := scU) h scU_ok fnok41 (ca := fun g => [.n .i64 g.1]) ((.cons (.i .i64) .nil) : PkN (pkC (asI .i64) pkN) _) (fun b => by kernel_rfl) (fun b => by kernel_rfl) (fun g b hb => (fn41 g.1 b (Option.some.inj hb)).2)
theorem e41_pure {F : Orc} {f : Nat} (h : PureF F f) : PureF (e41 F) f := orL_pure h (fun b => by kernel_rfl)
/-! ### 52c: slices.IndexFunc[[]int,int] -/
noncomputable def F52c : Orc := (e41 or0)
theorem F52c_ok : OrcG Try.prog F52c := (e41_ok or0_g)
structure L52c_0 where
  t0 : List Int
  t7 : Int
  t8 : Int
abbrev P52c_0 : Type := ((List Int) × ((Unit)) × Int × Int × Unit) × (Unit)
noncomputable def rb52c_0 : St → Option P52c_0 := stR 0 (slC 0 (asL 3) (slC 1 (asFf 41 pkN) (slC 7 (asI .i64) (slC 8 (asI .i64) slN)))) rsN
noncomputable def pb52c_0 : P52c_0 → St := stP 0 (fun z => [(0, .sl 3 z.1), (1, .fn (.func 41) []), (7, .n .i64 z.2.2.1), (8, .n .i64 z.2.2.2.1)]) (fun z => [])
noncomputable def mk52c_0 (z : P52c_0) : L52c_0 := ⟨z.1.1, z.1.2.2.1, z.1.2.2.2.1⟩
noncomputable def pt52c_0 (x : L52c_0) : St := pb52c_0 ((x.t0, (()), x.t7, x.t8, ()), (()))
noncomputable def rd52c_0 : St → Option L52c_0 := rdC 0 [] [0, 1, 7, 8] (rdM mk52c_0 rb52c_0)
theorem rb52c_0_ok (n : Nat) : RdOk 0 n rb52c_0 pb52c_0 := stR_ok (.cons (.l 3) (.cons (.ff 41 .nil) (.cons (.i .i64) (.cons (.i .i64) .nil)))) .nil
theorem rd52c_0_ok (n : Nat) : RdOk 0 n rd52c_0 pt52c_0 := rdC_ok ((rb52c_0_ok n).m mk52c_0 (pat' := pt52c_0) fun _ => rfl)
noncomputable def n52c_0 (p : L52c_0) : Option (Option L52c_0) :=
  bif decide (p.t8 < p.t7) then
    if (0 : Int) ≤ p.t8 ∧ p.t8 < (↑p.t0.length : Int) then
      bif m41 p.t0[p.t8.toNat]! then
        some (none)
      else
        some (some (L52c_0.mk p.t0 p.t7 (IntKind.i64.wrap (p.t8 + 1))))
    else
      none
  else
    some (none)
theorem q52c_0 (p : L52c_0) : execA Try.prog (F52c) Try.f52.ntmps 300 (loopAt Try.f52 0) .no (Option L52c_0) (pt52c_0 p) (kOn rd52c_0) = n52c_0 p := by kernel_rfl
noncomputable def a52c_0 : L52c_0 → Option L52c_0 := advG (n52c_0)
abbrev E52c : Type := Int
abbrev P52c_e : Type := (Int × Unit) × (Unit)
noncomputable def rb52c_e : St → Option P52c_e := stR 0 (slC 4 (asI .i64) slN) rsN
noncomputable def pb52c_e : P52c_e → St := stP 0 (fun z => [(4, .n .i64 z.1)]) (fun z => [])
noncomputable def mk52c_e (z : P52c_e) : E52c := z.1.1
noncomputable def pt52c_e (x : E52c) : St := pb52c_e ((x, ()), (()))
noncomputable def rd52c_e : St → Option E52c := rdC 0 [] [4] (rdM mk52c_e rb52c_e)
theorem rb52c_e_ok (n : Nat) : RdOk 0 n rb52c_e pb52c_e := stR_ok (.cons (.i .i64) .nil) .nil
theorem rd52c_e_ok (n : Nat) : RdOk 0 n rd52c_e pt52c_e := rdC_ok ((rb52c_e_ok n).m mk52c_e (pat' := pt52c_e) fun _ => rfl)
noncomputable def an52c : An := (.two .no (.two (.two .no (.lp L52c_0 rd52c_0 pt52c_0 a52c_0 .no)) .no))
theorem fa52c : FnAn Try.prog (F52c) 0 300 52 (an52c) := fnAn_of (l := [(loopAt Try.f52 0, (.lp L52c_0 rd52c_0 pt52c_0 a52c_0 .no))]) Try.func52 (bodyOf_eq (by kernel_rfl)) (by kernel_rfl) fun p hp => by
  simp only [List.mem_cons, List.not_mem_nil, or_false] at hp
  rcases hp with rfl
  · exact ⟨rd52c_0_ok _, advG_ok (q52c_0)⟩
noncomputable def m52c (a0 : List Int) : Option E52c :=
  match a52c_0 (L52c_0.mk a0 (↑a0.length : Int) (0)) with
  | none =>
    none
  | some r1 =>
    bif decide (r1.t8 < r1.t7) then
      if (0 : Int) ≤ r1.t8 ∧ r1.t8 < (↑r1.t0.length : Int) then
        bif m41 r1.t0[r1.t8.toNat]! then
          some (r1.t8)
        else
          none
      else
        none
    else
      some (-1)
theorem c52c (a0 : List Int) : callR Try.prog (F52c) 300 (an52c) 52 [.sl 3 a0, .fn (.func 41) []] [] 0 rd52c_e = m52c a0 := by kernel_rfl
noncomputable def o52c (x : E52c) : Out := match (match outOf Try.prog 52 (pt52c_e x) with
    | some ds => some (Out.mk (resA ds) (keepR (pt52c_e x).R 0 (resA ds)) (pt52c_e x).nx)
    | none => none) with
  | some o => o
  | none => ⟨.tup [], [], 0⟩
theorem fn52c (a0 : List Int) (r : E52c) (h : m52c a0 = some r) : fnOk Try.prog 52 ∧ FnY Try.prog 52 [.sl 3 a0, .fn (.func 41) []] [] 0 (o52c r) :=
  fnY_of (p := r) F52c_ok (fa52c) rd52c_e_ok (fun p => by kernel_rfl) (ltd_of (by kernel_rfl)) (rltd_of (by kernel_rfl)) ((c52c a0).trans h)
theorem fnok52c : fnOk Try.prog 52 := ⟨_, Try.func52, by kernel_rfl, by kernel_rfl⟩
noncomputable def e52c (F : Orc) : Orc := orL 52 true (pkC (asL 3) (pkC (asFf 41 pkN) pkN)) (fun g => m52c g.1 : ((List Int) × ((Unit)) × Unit) → Option E52c) o52c F
theorem e52c_ok {F : Orc} (h : OrcG Try.prog F) : OrcG Try.prog (e52c F) := orL_g (sc := scU) h scU_ok fnok52c (ca := fun g => [.sl 3 g.1, .fn (.func 41) []]) ((.cons (.l 3) (.cons (.ff 41 .nil) .nil)) : PkN (pkC (asL 3) (pkC (asFf 41 pkN) pkN)) _) (fun b => by kernel_rfl) (fun b => by kernel_rfl) (fun g b hb => (fn52c g.1 b hb).2)
theorem e52c_pure {F : Orc} {f : Nat} (h : PureF F f) : PureF (e52c F) f := orL_pure h (fun b => by kernel_rfl)
/-! ### 33: slices.ContainsFunc[[]int,int] -/
noncomputable def F33 : Orc := (e52 (e52c (e52b (e42 or0))))
theorem F33_ok : OrcG Try.prog F33 := (e52_ok (e52c_ok (e52b_ok (e42_ok or0_g))))
abbrev E33 : Type := Bool
abbrev P33_e : Type := (Bool × Unit) × (Unit)
noncomputable def rb33_e : St → Option P33_e := stR 0 (slC 4 asB slN) rsN
noncomputable def pb33_e : P33_e → St := stP 0 (fun z => [(4, .b z.1)]) (fun z => [])
noncomputable def mk33_e (z : P33_e) : E33 := z.1.1
noncomputable def pt33_e (x : E33) : St := pb33_e ((x, ()), (()))
noncomputable def rd33_e : St → Option E33 := rdC 0 [] [4] (rdM mk33_e rb33_e)
theorem rb33_e_ok (n : Nat) : RdOk 0 n rb33_e pb33_e := stR_ok (.cons .b .nil) .nil
theorem rd33_e_ok (n : Nat) : RdOk 0 n rd33_e pt33_e := rdC_ok ((rb33_e_ok n).m mk33_e (pat' := pt33_e) fun _ => rfl)
noncomputable def an33 : An := .no
theorem fa33 : FnAn Try.prog (F33) 0 300 33 (an33) := fnAn_of (l := []) Try.func33 (bodyOf_eq (by kernel_rfl)) (by kernel_rfl) fun p hp => by
  cases hp
noncomputable def m33 (a0 : List Int) : Option E33 :=
  match m52 a0 with
  | none =>
    none
  | some r1 =>
    some (decide (0 ≤ r1))
theorem c33 (a0 : List Int) : callR Try.prog (F33) 300 (an33) 33 [.sl 3 a0, .fn (.func 42) []] [] 0 rd33_e = m33 a0 := by kernel_rfl
noncomputable def o33 (x : E33) : Out := match (match outOf Try.prog 33 (pt33_e x) with
    | some ds => some (Out.mk (resA ds) (keepR (pt33_e x).R 0 (resA ds)) (pt33_e x).nx)
    | none => none) with
  | some o => o
  | none => ⟨.tup [], [], 0⟩
theorem fn33 (a0 : List Int) (r : E33) (h : m33 a0 = some r) : fnOk Try.prog 33 ∧ FnY Try.prog 33 [.sl 3 a0, .fn (.func 42) []] [] 0 (o33 r) :=
  fnY_of (p := r) F33_ok (fa33) rd33_e_ok (fun p => by kernel_rfl) (ltd_of (by kernel_rfl)) (rltd_of (by kernel_rfl)) ((c33 a0).trans h)
theorem fnok33 : fnOk Try.prog 33 := ⟨_, Try.func33, by kernel_rfl, by kernel_rfl⟩
noncomputable def e33 (F : Orc) : Orc := orL 33 true (pkC (asL 3) (pkC (asFf 42 pkN) pkN)) (fun g => m33 g.1 : ((List Int) × ((Unit)) × Unit) → Option E33) o33 F
theorem e33_ok {F : Orc} (h : OrcG Try.prog F) : OrcG Try.prog (e33 F) := orL_g (sc := scU) h scU_ok fnok33 (ca := fun g => [.sl 3 g.1, .fn (.func 42) []]) ((.cons (.l 3) (.cons (.ff 42 .nil) .nil)) : PkN (pkC (asL 3) (pkC (asFf 42 pkN) pkN)) _) (fun b => by kernel_rfl) (fun b => by kernel_rfl) (fun g b hb => (fn33 g.1 b hb).2)
theorem e33_pure {F : Orc} {f : Nat} (h : PureF F f) : PureF (e33 F) f := orL_pure h (fun b => by kernel_rfl)
/-! ### 33b: slices.ContainsFunc[[]int,int] -/
noncomputable def F33b : Orc := (e52 (e52c (e52b (e35 or0))))
theorem F33b_ok : OrcG Try.prog F33b := (e52_ok (e52c_ok (e52b_ok (e35_ok or0_g))))
abbrev E33b : Type := Bool
abbrev P33b_e : Type := (Bool × Unit) × (Unit)
noncomputable def rb33b_e : St → Option P33b_e := stR 0 (slC 4 asB slN) rsN
noncomputable def pb33b_e : P33b_e → St := stP 0 (fun z => [(4, .b z.1)]) (fun z => [])
noncomputable def mk33b_e (z : P33b_e) : E33b := z.1.1
noncomputable def pt33b_e (x : E33b) : St := pb33b_e ((x, ()), (()))
noncomputable def rd33b_e : St → Option E33b := rdC 0 [] [4] (rdM mk33b_e rb33b_e)
theorem rb33b_e_ok (n : Nat) : RdOk 0 n rb33b_e pb33b_e := stR_ok (.cons .b .nil) .nil
theorem rd33b_e_ok (n : Nat) : RdOk 0 n rd33b_e pt33b_e := rdC_ok ((rb33b_e_ok n).m mk33b_e (pat' := pt33b_e) fun _ => rfl)
noncomputable def an33b : An := .no
theorem fa33b : FnAn Try.prog (F33b) 0 300 33 (an33b) := fnAn_of (l := []) Try.func33 (bodyOf_eq (by kernel_rfl)) (by kernel_rfl) fun p hp => by
  cases hp
noncomputable def m33b (a0 : List Int) : Option E33b :=
  match m52b a0 with
  | none =>
    none
  | some r1 =>
    some (decide (0 ≤ r1))
theorem c33b (a0 : List Int) : callR Try.prog (F33b) 300 (an33b) 33 [.sl 3 a0, .fn (.func 35) []] [] 0 rd33b_e = m33b a0 := by kernel_rfl
noncomputable def o33b (x : E33b) : Out := match (match outOf Try.prog 33 (pt33b_e x) with
    | some ds => some (Out.mk (resA ds) (keepR (pt33b_e x).R 0 (resA ds)) (pt33b_e x).nx)
    | none => none) with
  | some o => o
  | none => ⟨.tup [], [], 0⟩
theorem fn33b (a0 : List Int) (r : E33b) (h : m33b a0 = some r) : fnOk Try.prog 33 ∧ FnY Try.prog 33 [.sl 3 a0, .fn (.func 35) []] [] 0 (o33b r) :=
  fnY_of (p := r) F33b_ok (fa33b) rd33b_e_ok (fun p => by kernel_rfl) (ltd_of (by kernel_rfl)) (rltd_of (by kernel_rfl)) ((c33b a0).trans h)
theorem fnok33b : fnOk Try.prog 33 := ⟨_, Try.func33, by kernel_rfl, by kernel_rfl⟩
noncomputable def e33b (F : Orc) : Orc := orL 33 true (pkC (asL 3) (pkC (asFf 35 pkN) pkN)) (fun g => m33b g.1 : ((List Int) × ((Unit)) × Unit) → Option E33b) o33b F
theorem e33b_ok {F : Orc} (h : OrcG Try.prog F) : OrcG Try.prog (e33b F) := orL_g (sc := scU) h scU_ok fnok33b (ca := fun g => [.sl 3 g.1, .fn (.func 35) []]) ((.cons (.l 3) (.cons (.ff 35 .nil) .nil)) : PkN (pkC (asL 3) (pkC (asFf 35 pkN) pkN)) _) (fun b => by kernel_rfl) (fun b => by kernel_rfl) (fun g b hb => (fn33b g.1 b hb).2)
theorem e33b_pure {F : Orc} {f : Nat} (h : PureF F f) : PureF (e33b F) f := orL_pure h (fun b => by kernel_rfl)
/-! ### 33c: slices.ContainsFunc[[]int,int] -/
noncomputable def F33c : Orc := (e52 (e52c (e52b (e41 or0))))
theorem F33c_ok : OrcG Try.prog F33c := (e52_ok (e52c_ok (e52b_ok (e41_ok or0_g))))
abbrev E33c : Type := Bool
abbrev P33c_e : Type := (Bool × Unit) × (Unit)
noncomputable def rb33c_e : St → Option P33c_e := stR 0 (slC 4 asB slN) rsN
noncomputable def pb33c_e : P33c_e → St := stP 0 (fun z => [(4, .b z.1)]) (fun z => [])
noncomputable def mk33c_e (z : P33c_e) : E33c := z.1.1
noncomputable def pt33c_e (x : E33c) : St := pb33c_e ((x, ()), (()))
noncomputable def rd33c_e : St → Option E33c := rdC 0 [] [4] (rdM mk33c_e rb33c_e)
theorem rb33c_e_ok (n : Nat) : RdOk 0 n rb33c_e pb33c_e := stR_ok (.cons .b .nil) .nil
theorem rd33c_e_ok (n : Nat) : RdOk 0 n rd33c_e pt33c_e := rdC_ok ((rb33c_e_ok n).m mk33c_e (pat' := pt33c_e) fun _ => rfl)
noncomputable def an33c : An := .no
theorem fa33c : FnAn Try.prog (F33c) 0 300 33 (an33c) := fnAn_of (l := []) Try.func33 (bodyOf_eq (by kernel_rfl)) (by kernel_rfl) fun p hp => by
  cases hp
noncomputable def m33c (a0 : List Int) : Option E33c :=
  match m52c a0 with
  | none =>
    none
  | some r1 =>
    some (decide (0 ≤ r1))
theorem c33c (a0 : List Int) : callR Try.prog (F33c) 300 (an33c) 33 [.sl 3 a0, .fn (.func 41) []] [] 0 rd33c_e = m33c a0 := by kernel_rfl
noncomputable def o33c (x : E33c) : Out := match (match outOf Try.prog 33 (pt33c_e x) with
    | some ds => some (Out.mk (resA ds) (keepR (pt33c_e x).R 0 (resA ds)) (pt33c_e x).nx)
    | none => none) with
  | some o => o
  | none => ⟨.tup [], [], 0⟩
theorem fn33c (a0 : List Int) (r : E33c) (h : m33c a0 = some r) : fnOk Try.prog 33 ∧ FnY Try.prog 33 [.sl 3 a0, .fn (.func 41) []] [] 0 (o33c r) :=
  fnY_of (p := r) F33c_ok (fa33c) rd33c_e_ok (fun p => by kernel_rfl) (ltd_of (by kernel_rfl)) (rltd_of (by kernel_rfl)) ((c33c a0).trans h)
theorem fnok33c : fnOk Try.prog 33 := ⟨_, Try.func33, by kernel_rfl, by kernel_rfl⟩
noncomputable def e33c (F : Orc) : Orc := orL 33 true (pkC (asL 3) (pkC (asFf 41 pkN) pkN)) (fun g => m33c g.1 : ((List Int) × ((Unit)) × Unit) → Option E33c) o33c F
theorem e33c_ok {F : Orc} (h : OrcG Try.prog F) : OrcG Try.prog (e33c F) := orL_g (sc := scU) h scU_ok fnok33c (ca := fun g => [.sl 3 g.1, .fn (.func 41) []]) ((.cons (.l 3) (.cons (.ff 41 .nil) .nil)) : PkN (pkC (asL 3) (pkC (asFf 41 pkN) pkN)) _) (fun b => by kernel_rfl) (fun b => by kernel_rfl) (fun g b hb => (fn33c g.1 b hb).2)
theorem e33c_pure {F : Orc} {f : Nat} (h : PureF F f) : PureF (e33c F) f := orL_pure h (fun b => by kernel_rfl)
/-! ### 34: keyhole/keyholelaw50.fields -/
noncomputable def F34 : Orc := or0
theorem F34_ok : OrcG Try.prog F34 := or0_g
abbrev E34 : Type := List Int
abbrev P34_e : Type := (Unit × Unit) × ((List Int) × Unit)
noncomputable def rb34_e : St → Option P34_e := stR 1 (slC 2 (asO 0) slN) (rsR 0 3 rsN)
noncomputable def pb34_e : P34_e → St := stP 1 (fun z => [(2, .own 0)]) (fun z => [(0, .row 3 z.1)])
noncomputable def mk34_e (z : P34_e) : E34 := z.2.1
noncomputable def pt34_e (x : E34) : St := pb34_e (((), ()), (x, ()))
noncomputable def rd34_e : St → Option E34 := rdC 0 [] [2] (rdM mk34_e rb34_e)
theorem rb34_e_ok (n : Nat) : RdOk 0 n rb34_e pb34_e := stR_ok (.cons (.o 0) .nil) (.row .nil)
theorem rd34_e_ok (n : Nat) : RdOk 0 n rd34_e pt34_e := rdC_ok ((rb34_e_ok n).m mk34_e (pat' := pt34_e) fun _ => rfl)
noncomputable def an34 : An := .no
theorem fa34 : FnAn Try.prog (F34) 0 300 34 (an34) := fnAn_of (l := []) Try.func34 (bodyOf_eq (by kernel_rfl)) (by kernel_rfl) fun p hp => by
  cases hp
noncomputable def m34 (a0 : Record) : E34 :=
  [a0.fEpoch, a0.fSeq, a0.fSecret, a0.fClient, a0.fNumber, a0.fProgram, a0.fPublic, a0.fAnswer, a0.fCharge]
theorem c34 (a0 : Record) : callR Try.prog (F34) 300 (an34) 34 [.agg (uni.cells 23 a0)] [] 0 rd34_e = some (m34 a0) := by kernel_rfl
noncomputable def o34 (x : E34) : Out := match (match outOf Try.prog 34 (pt34_e x) with
    | some ds => some (Out.mk (resA ds) (keepR (pt34_e x).R 0 (resA ds)) (pt34_e x).nx)
    | none => none) with
  | some o => o
  | none => ⟨.tup [], [], 0⟩
theorem fn34 (a0 : Record) (r : E34) (h : m34 a0 = r) : fnOk Try.prog 34 ∧ FnY Try.prog 34 [.agg (uni.cells 23 a0)] [] 0 (o34 r) :=
  fnY_of (p := r) F34_ok (fa34) rd34_e_ok (fun p => by kernel_rfl) (ltd_of (by kernel_rfl)) (rltd_of (by kernel_rfl)) ((c34 a0).trans (congrArg some h))
theorem fnok34 : fnOk Try.prog 34 := ⟨_, Try.func34, by kernel_rfl, by kernel_rfl⟩
noncomputable def e34 (F : Orc) : Orc := orL 34 false (pkC (asGc 23) pkN) (fun g => some (m34 g.1) : (Record × Unit) → Option E34) o34 F
theorem e34_ok {F : Orc} (h : OrcG Try.prog F) : OrcG Try.prog (e34 F) := orL_g (sc := scU) h scU_ok fnok34 (ca := fun g => [.agg (uni.cells 23 g.1)]) ((.cons (.g 23) .nil) : PkN (pkC (asGc 23) pkN) _) (fun b => by kernel_rfl) (fun b => by kernel_rfl) (fun g b hb => (fn34 g.1 b (Option.some.inj hb)).2)
theorem e34_skip {F : Orc} {f : Nat} (hne : Nat.beq f 34 = false) (h : PureF F f) : PureF (e34 F) f := orL_skip hne h
/-! ### 9: keyhole/keyholelaw50.valid -/
noncomputable def F9 : Orc := (e35 (e34 (e33 (e33c (e33b or0)))))
theorem F9_ok : OrcG Try.prog F9 := (e35_ok (e34_ok (e33_ok (e33c_ok (e33b_ok or0_g)))))
abbrev E9 : Type := Bool
abbrev P9_e : Type := (Bool × Unit) × (Unit)
noncomputable def rb9_e : St → Option P9_e := stR 0 (slC 2 asB slN) rsN
noncomputable def pb9_e : P9_e → St := stP 0 (fun z => [(2, .b z.1)]) (fun z => [])
noncomputable def mk9_e (z : P9_e) : E9 := z.1.1
noncomputable def pt9_e (x : E9) : St := pb9_e ((x, ()), (()))
noncomputable def rd9_e : St → Option E9 := rdC 0 [] [2] (rdM mk9_e rb9_e)
theorem rb9_e_ok (n : Nat) : RdOk 0 n rb9_e pb9_e := stR_ok (.cons .b .nil) .nil
theorem rd9_e_ok (n : Nat) : RdOk 0 n rd9_e pt9_e := rdC_ok ((rb9_e_ok n).m mk9_e (pat' := pt9_e) fun _ => rfl)
noncomputable def an9 : An := .no
theorem fa9 : FnAn Try.prog (F9) 0 300 9 (an9) := fnAn_of (l := []) Try.func9 (bodyOf_eq (by kernel_rfl)) (by kernel_rfl) fun p hp => by
  cases hp
noncomputable def m9 (a0 : Record) : Option E9 :=
  match m33b (m34 a0) with
  | none =>
    none
  | some r1 =>
    some (bif r1 then false else true)
theorem c9 (a0 : Record) : callR Try.prog (F9) 300 (an9) 9 [.agg (uni.cells 23 a0)] [] 0 rd9_e = m9 a0 := by kernel_rfl
noncomputable def o9 (x : E9) : Out := match (match outOf Try.prog 9 (pt9_e x) with
    | some ds => some (Out.mk (resA ds) (keepR (pt9_e x).R 0 (resA ds)) (pt9_e x).nx)
    | none => none) with
  | some o => o
  | none => ⟨.tup [], [], 0⟩
theorem fn9 (a0 : Record) (r : E9) (h : m9 a0 = some r) : fnOk Try.prog 9 ∧ FnY Try.prog 9 [.agg (uni.cells 23 a0)] [] 0 (o9 r) :=
  fnY_of (p := r) F9_ok (fa9) rd9_e_ok (fun p => by kernel_rfl) (ltd_of (by kernel_rfl)) (rltd_of (by kernel_rfl)) ((c9 a0).trans h)
theorem fnok9 : fnOk Try.prog 9 := ⟨_, Try.func9, by kernel_rfl, by kernel_rfl⟩
noncomputable def e9 (F : Orc) : Orc := orL 9 false (pkC (asGc 23) pkN) (fun g => m9 g.1 : (Record × Unit) → Option E9) o9 F
theorem e9_ok {F : Orc} (h : OrcG Try.prog F) : OrcG Try.prog (e9 F) := orL_g (sc := scU) h scU_ok fnok9 (ca := fun g => [.agg (uni.cells 23 g.1)]) ((.cons (.g 23) .nil) : PkN (pkC (asGc 23) pkN) _) (fun b => by kernel_rfl) (fun b => by kernel_rfl) (fun g b hb => (fn9 g.1 b hb).2)
theorem e9_pure {F : Orc} {f : Nat} (h : PureF F f) : PureF (e9 F) f := orL_pure h (fun b => by kernel_rfl)
/-! ### 36: keyhole/ledger.get -/
noncomputable def F36 : Orc := or0
theorem F36_ok : OrcG Try.prog F36 := or0_g
structure L36_0 where
  t3 : Int
  t6 : List Int
  t7 : Int
  t8 : Int
abbrev P36_0 : Type := (Int × (List Int) × Int × Int × Unit) × (Unit)
noncomputable def rb36_0 : St → Option P36_0 := stR 0 (slC 3 (asI .i64) (slC 6 (asL 5) (slC 7 (asI .i64) (slC 8 (asI .i64) slN)))) rsN
noncomputable def pb36_0 : P36_0 → St := stP 0 (fun z => [(3, .n .i64 z.1), (6, .sl 5 z.2.1), (7, .n .i64 z.2.2.1), (8, .n .i64 z.2.2.2.1)]) (fun z => [])
noncomputable def mk36_0 (z : P36_0) : L36_0 := ⟨z.1.1, z.1.2.1, z.1.2.2.1, z.1.2.2.2.1⟩
noncomputable def pt36_0 (x : L36_0) : St := pb36_0 ((x.t3, x.t6, x.t7, x.t8, ()), (()))
noncomputable def rd36_0 : St → Option L36_0 := rdC 0 [] [3, 6, 7, 8] (rdM mk36_0 rb36_0)
theorem rb36_0_ok (n : Nat) : RdOk 0 n rb36_0 pb36_0 := stR_ok (.cons (.i .i64) (.cons (.l 5) (.cons (.i .i64) (.cons (.i .i64) .nil)))) .nil
theorem rd36_0_ok (n : Nat) : RdOk 0 n rd36_0 pt36_0 := rdC_ok ((rb36_0_ok n).m mk36_0 (pat' := pt36_0) fun _ => rfl)
noncomputable def n36_0 (p : L36_0) : Option (Option L36_0) :=
  bif decide (p.t8 < p.t7) then
    if (0 : Int) ≤ p.t8 ∧ p.t8 < (↑p.t6.length : Int) then
      some (some (L36_0.mk (bOr IntKind.i64 (bShl IntKind.i64 p.t3 (8)) (IntKind.i64.wrap p.t6[p.t8.toNat]!)) p.t6 p.t7 (IntKind.i64.wrap (p.t8 + 1))))
    else
      none
  else
    some (none)
theorem q36_0 (p : L36_0) : execA Try.prog (F36) Try.f36.ntmps 300 (loopAt Try.f36 0) .no (Option L36_0) (pt36_0 p) (kOn rd36_0) = n36_0 p := by kernel_rfl
noncomputable def a36_0 : L36_0 → Option L36_0 := advG (n36_0)
abbrev E36 : Type := Int
abbrev P36_e : Type := (Int × Unit) × (Unit)
noncomputable def rb36_e : St → Option P36_e := stR 0 (slC 2 (asI .i64) slN) rsN
noncomputable def pb36_e : P36_e → St := stP 0 (fun z => [(2, .n .i64 z.1)]) (fun z => [])
noncomputable def mk36_e (z : P36_e) : E36 := z.1.1
noncomputable def pt36_e (x : E36) : St := pb36_e ((x, ()), (()))
noncomputable def rd36_e : St → Option E36 := rdC 0 [] [2] (rdM mk36_e rb36_e)
theorem rb36_e_ok (n : Nat) : RdOk 0 n rb36_e pb36_e := stR_ok (.cons (.i .i64) .nil) .nil
theorem rd36_e_ok (n : Nat) : RdOk 0 n rd36_e pt36_e := rdC_ok ((rb36_e_ok n).m mk36_e (pat' := pt36_e) fun _ => rfl)
noncomputable def an36 : An := (.two .no (.two .no (.two (.two .no (.lp L36_0 rd36_0 pt36_0 a36_0 .no)) .no)))
theorem fa36 : FnAn Try.prog (F36) 0 300 36 (an36) := fnAn_of (l := [(loopAt Try.f36 0, (.lp L36_0 rd36_0 pt36_0 a36_0 .no))]) Try.func36 (bodyOf_eq (by kernel_rfl)) (by kernel_rfl) fun p hp => by
  simp only [List.mem_cons, List.not_mem_nil, or_false] at hp
  rcases hp with rfl
  · exact ⟨rd36_0_ok _, advG_ok (q36_0)⟩
noncomputable def m36 (a0 : List Int) : Option E36 :=
  match a36_0 (L36_0.mk (0) a0 (↑a0.length : Int) (0)) with
  | none =>
    none
  | some r1 =>
    bif decide (r1.t8 < r1.t7) then
      if (0 : Int) ≤ r1.t8 ∧ r1.t8 < (↑r1.t6.length : Int) then
        none
      else
        none
    else
      some (r1.t3)
theorem c36 (a0 : List Int) : callR Try.prog (F36) 300 (an36) 36 [.sl 5 a0] [] 0 rd36_e = m36 a0 := by kernel_rfl
noncomputable def o36 (x : E36) : Out := match (match outOf Try.prog 36 (pt36_e x) with
    | some ds => some (Out.mk (resA ds) (keepR (pt36_e x).R 0 (resA ds)) (pt36_e x).nx)
    | none => none) with
  | some o => o
  | none => ⟨.tup [], [], 0⟩
theorem fn36 (a0 : List Int) (r : E36) (h : m36 a0 = some r) : fnOk Try.prog 36 ∧ FnY Try.prog 36 [.sl 5 a0] [] 0 (o36 r) :=
  fnY_of (p := r) F36_ok (fa36) rd36_e_ok (fun p => by kernel_rfl) (ltd_of (by kernel_rfl)) (rltd_of (by kernel_rfl)) ((c36 a0).trans h)
theorem fnok36 : fnOk Try.prog 36 := ⟨_, Try.func36, by kernel_rfl, by kernel_rfl⟩
noncomputable def e36 (F : Orc) : Orc := orL 36 false (pkC (asL 5) pkN) (fun g => m36 g.1 : ((List Int) × Unit) → Option E36) o36 F
theorem e36_ok {F : Orc} (h : OrcG Try.prog F) : OrcG Try.prog (e36 F) := orL_g (sc := scU) h scU_ok fnok36 (ca := fun g => [.sl 5 g.1]) ((.cons (.l 5) .nil) : PkN (pkC (asL 5) pkN) _) (fun b => by kernel_rfl) (fun b => by kernel_rfl) (fun g b hb => (fn36 g.1 b hb).2)
theorem e36_pure {F : Orc} {f : Nat} (h : PureF F f) : PureF (e36 F) f := orL_pure h (fun b => by kernel_rfl)
/-! ### 37: bytes.Equal -/
noncomputable def F37 : Orc := or0
theorem F37_ok : OrcG Try.prog F37 := or0_g
abbrev E37 : Type := Bool
abbrev P37_e : Type := (Bool × Unit) × (Unit)
noncomputable def rb37_e : St → Option P37_e := stR 0 (slC 4 asB slN) rsN
noncomputable def pb37_e : P37_e → St := stP 0 (fun z => [(4, .b z.1)]) (fun z => [])
noncomputable def mk37_e (z : P37_e) : E37 := z.1.1
noncomputable def pt37_e (x : E37) : St := pb37_e ((x, ()), (()))
noncomputable def rd37_e : St → Option E37 := rdC 0 [] [4] (rdM mk37_e rb37_e)
theorem rb37_e_ok (n : Nat) : RdOk 0 n rb37_e pb37_e := stR_ok (.cons .b .nil) .nil
theorem rd37_e_ok (n : Nat) : RdOk 0 n rd37_e pt37_e := rdC_ok ((rb37_e_ok n).m mk37_e (pat' := pt37_e) fun _ => rfl)
noncomputable def an37 : An := .no
theorem fa37 : FnAn Try.prog (F37) 0 300 37 (an37) := fnAn_of (l := []) Try.func37 (bodyOf_eq (by kernel_rfl)) (by kernel_rfl) fun p hp => by
  cases hp
noncomputable def m37 (a0 : List Int) (a1 : List Int) : E37 :=
  (ByteArray.mk (Array.mk (List.map (fun n => UInt8.ofNat n.toNat) a0))).toList == (ByteArray.mk (Array.mk (List.map (fun n => UInt8.ofNat n.toNat) a1))).toList
theorem c37 (a0 : List Int) (a1 : List Int) : callR Try.prog (F37) 300 (an37) 37 [.sl 5 a0, .sl 5 a1] [] 0 rd37_e = some (m37 a0 a1) := by kernel_rfl
noncomputable def o37 (x : E37) : Out := match (match outOf Try.prog 37 (pt37_e x) with
    | some ds => some (Out.mk (resA ds) (keepR (pt37_e x).R 0 (resA ds)) (pt37_e x).nx)
    | none => none) with
  | some o => o
  | none => ⟨.tup [], [], 0⟩
theorem fn37 (a0 : List Int) (a1 : List Int) (r : E37) (h : m37 a0 a1 = r) : fnOk Try.prog 37 ∧ FnY Try.prog 37 [.sl 5 a0, .sl 5 a1] [] 0 (o37 r) :=
  fnY_of (p := r) F37_ok (fa37) rd37_e_ok (fun p => by kernel_rfl) (ltd_of (by kernel_rfl)) (rltd_of (by kernel_rfl)) ((c37 a0 a1).trans (congrArg some h))
theorem fnok37 : fnOk Try.prog 37 := ⟨_, Try.func37, by kernel_rfl, by kernel_rfl⟩
noncomputable def e37 (F : Orc) : Orc := orL 37 false (pkC (asL 5) (pkC (asL 5) pkN)) (fun g => some (m37 g.1 g.2.1) : ((List Int) × (List Int) × Unit) → Option E37) o37 F
theorem e37_ok {F : Orc} (h : OrcG Try.prog F) : OrcG Try.prog (e37 F) := orL_g (sc := scU) h scU_ok fnok37 (ca := fun g => [.sl 5 g.1, .sl 5 g.2.1]) ((.cons (.l 5) (.cons (.l 5) .nil)) : PkN (pkC (asL 5) (pkC (asL 5) pkN)) _) (fun b => by kernel_rfl) (fun b => by kernel_rfl) (fun g b hb => (fn37 g.1 g.2.1 b (Option.some.inj hb)).2)
theorem e37_pure {F : Orc} {f : Nat} (h : PureF F f) : PureF (e37 F) f := orL_pure h (fun b => by kernel_rfl)
/-! ### 10: keyhole/ledger.Decode -/
noncomputable def F10 : Orc := (e37 (e36 (e29 (e8 or0))))
theorem F10_ok : OrcG Try.prog F10 := (e37_ok (e36_ok (e29_ok (e8_ok or0_g))))
abbrev E10 : Type := Record × Bool
abbrev P10_e : Type := (Unit × Bool × Unit) × (Record × Unit)
noncomputable def rb10_e : St → Option P10_e := stR 1 (slC 2 (asP 0 0) (slC 3 asB slN)) (rsN2 0 23 (asCs 23) rsN)
noncomputable def pb10_e : P10_e → St := stP 1 (fun z => [(2, .ptr 0 0), (3, .b z.2.1)]) (fun z => [(0, .box 23 (uni.cells 23 z.1))])
noncomputable def mk10_e (z : P10_e) : E10 := (z.2.1, z.1.2.1)
noncomputable def pt10_e (x : E10) : St := pb10_e (((), x.2, ()), (x.1, ()))
noncomputable def rd10_e : St → Option E10 := rdC 0 [] [2, 3] (rdM mk10_e rb10_e)
theorem rb10_e_ok (n : Nat) : RdOk 0 n rb10_e pb10_e := stR_ok (.cons (.p 0 0) (.cons .b .nil)) (.boxN (PkN.parse 23) .nil)
theorem rd10_e_ok (n : Nat) : RdOk 0 n rd10_e pt10_e := rdC_ok ((rb10_e_ok n).m mk10_e (pat' := pt10_e) fun _ => rfl)
noncomputable def an10 : An := (.two .no (.two .no (.two .no (.two .no (.two .no (.two (.two (.rb [37] 42) .no) .no))))))
theorem pu10  : ∀ f ∈ ([37] : List Nat), PureF (F10) f := fun f hf => by
  simp only [List.mem_cons, List.not_mem_nil, or_false] at hf
  rcases hf with rfl
  · exact (e37_pure (e36_pure (e29_skip (f := 37) rfl (e8_skip (f := 37) rfl or0_pure))))
theorem fa10 : FnAn Try.prog (F10) 0 300 10 (an10) := fnAn_of (l := [(.skip, (.rb [37] 42))]) Try.func10 (bodyOf_eq (by kernel_rfl)) (by kernel_rfl) fun p hp => by
  simp only [List.mem_cons, List.not_mem_nil, or_false] at hp
  rcases hp with rfl
  · exact pu10
noncomputable def m10 (a0 : List Int) : Option E10 :=
  bif bif decide ((↑a0.length : Int) = 96) then false else true then
    some ((Record.mk (0) (0) (0) (0) (0) (0) (0) (0) (0), false))
  else
    if (0 : Int) ≤ (1 : Int) ∧ (1 : Int) ≤ (5 : Int) ∧ (5 : Int) ≤ (↑a0.length : Int) then
      match m36 (List.drop 1 (List.take 5 a0)) with
      | none =>
        none
      | some r1 =>
        if (0 : Int) ≤ (5 : Int) ∧ (5 : Int) ≤ (9 : Int) ∧ (9 : Int) ≤ (↑a0.length : Int) then
          match m36 (List.drop 5 (List.take 9 a0)) with
          | none =>
            none
          | some r2 =>
            if (0 : Int) ≤ (9 : Int) ∧ (9 : Int) ≤ (13 : Int) ∧ (13 : Int) ≤ (↑a0.length : Int) then
              match m36 (List.drop 9 (List.take 13 a0)) with
              | none =>
                none
              | some r3 =>
                if (0 : Int) ≤ (13 : Int) ∧ (13 : Int) ≤ (17 : Int) ∧ (17 : Int) ≤ (↑a0.length : Int) then
                  match m36 (List.drop 13 (List.take 17 a0)) with
                  | none =>
                    none
                  | some r4 =>
                    if (0 : Int) ≤ (17 : Int) ∧ (17 : Int) ≤ (21 : Int) ∧ (21 : Int) ≤ (↑a0.length : Int) then
                      match m36 (List.drop 17 (List.take 21 a0)) with
                      | none =>
                        none
                      | some r5 =>
                        if (0 : Int) ≤ (21 : Int) ∧ (21 : Int) ≤ (25 : Int) ∧ (25 : Int) ≤ (↑a0.length : Int) then
                          match m36 (List.drop 21 (List.take 25 a0)) with
                          | none =>
                            none
                          | some r6 =>
                            if (0 : Int) ≤ (25 : Int) ∧ (25 : Int) ≤ (29 : Int) ∧ (29 : Int) ≤ (↑a0.length : Int) then
                              match m36 (List.drop 25 (List.take 29 a0)) with
                              | none =>
                                none
                              | some r7 =>
                                if (0 : Int) ≤ (29 : Int) ∧ (29 : Int) ≤ (33 : Int) ∧ (33 : Int) ≤ (↑a0.length : Int) then
                                  match m36 (List.drop 29 (List.take 33 a0)) with
                                  | none =>
                                    none
                                  | some r8 =>
                                    if (0 : Int) ≤ (33 : Int) ∧ (33 : Int) ≤ (37 : Int) ∧ (37 : Int) ≤ (↑a0.length : Int) then
                                      match m36 (List.drop 33 (List.take 37 a0)) with
                                      | none =>
                                        none
                                      | some r9 =>
                                        match m8 (Record.mk r1 r2 r3 r4 r5 r6 r7 r8 r9) with
                                        | none =>
                                          none
                                        | some r10 =>
                                          match bif bif decide (r10.snd = 0) then false else true then
                                            some (true)
                                          else
                                            some (bif m37 r10.fst a0 then false else true) with
                                          | none =>
                                            none
                                          | some r11 =>
                                            bif r11 then
                                              some ((Record.mk (0) (0) (0) (0) (0) (0) (0) (0) (0), false))
                                            else
                                              some ((Record.mk r1 r2 r3 r4 r5 r6 r7 r8 r9, true))
                                    else
                                      none
                                else
                                  none
                            else
                              none
                        else
                          none
                    else
                      none
                else
                  none
            else
              none
        else
          none
    else
      none
theorem c10 (a0 : List Int) : callR Try.prog (F10) 300 (an10) 10 [.sl 5 a0] [] 0 rd10_e = m10 a0 := by kernel_rfl
noncomputable def o10 (x : E10) : Out := match (match outOf Try.prog 10 (pt10_e x) with
    | some ds => some (Out.mk (resA ds) (keepR (pt10_e x).R 0 (resA ds)) (pt10_e x).nx)
    | none => none) with
  | some o => o
  | none => ⟨.tup [], [], 0⟩
theorem fn10 (a0 : List Int) (r : E10) (h : m10 a0 = some r) : fnOk Try.prog 10 ∧ FnY Try.prog 10 [.sl 5 a0] [] 0 (o10 r) :=
  fnY_of (p := r) F10_ok (fa10) rd10_e_ok (fun p => by kernel_rfl) (ltd_of (by kernel_rfl)) (rltd_of (by kernel_rfl)) ((c10 a0).trans h)
theorem fnok10 : fnOk Try.prog 10 := ⟨_, Try.func10, by kernel_rfl, by kernel_rfl⟩
noncomputable def e10 (F : Orc) : Orc := orL 10 false (pkC (asL 5) pkN) (fun g => m10 g.1 : ((List Int) × Unit) → Option E10) o10 F
theorem e10_ok {F : Orc} (h : OrcG Try.prog F) : OrcG Try.prog (e10 F) := orL_g (sc := scU) h scU_ok fnok10 (ca := fun g => [.sl 5 g.1]) ((.cons (.l 5) .nil) : PkN (pkC (asL 5) pkN) _) (fun b => by kernel_rfl) (fun b => by kernel_rfl) (fun g b hb => (fn10 g.1 b hb).2)
theorem e10_pure {F : Orc} {f : Nat} (h : PureF F f) : PureF (e10 F) f := orL_pure h (fun b => by kernel_rfl)
/-! ### 16: keyhole/ledger.CheckHead -/
noncomputable def F16 : Orc := (e42 (e33 (e33c (e33b or0))))
theorem F16_ok : OrcG Try.prog F16 := (e42_ok (e33_ok (e33c_ok (e33b_ok or0_g))))
abbrev E16 : Type := Int
abbrev P16_e : Type := (Int × Unit) × (Unit)
noncomputable def rb16_e : St → Option P16_e := stR 0 (slC 2 (asI .i64) slN) rsN
noncomputable def pb16_e : P16_e → St := stP 0 (fun z => [(2, .n .i64 z.1)]) (fun z => [])
noncomputable def mk16_e (z : P16_e) : E16 := z.1.1
noncomputable def pt16_e (x : E16) : St := pb16_e ((x, ()), (()))
noncomputable def rd16_e : St → Option E16 := rdC 0 [] [2] (rdM mk16_e rb16_e)
theorem rb16_e_ok (n : Nat) : RdOk 0 n rb16_e pb16_e := stR_ok (.cons (.i .i64) .nil) .nil
theorem rd16_e_ok (n : Nat) : RdOk 0 n rd16_e pt16_e := rdC_ok ((rb16_e_ok n).m mk16_e (pat' := pt16_e) fun _ => rfl)
noncomputable def an16 : An := (.two .no (.two (.two (.rb [] 22) .no) .no))
theorem pu16  : ∀ f ∈ ([] : List Nat), PureF (F16) f := fun f hf => by
  cases hf
theorem fa16 : FnAn Try.prog (F16) 0 300 16 (an16) := fnAn_of (l := [(.skip, (.rb [] 22))]) Try.func16 (bodyOf_eq (by kernel_rfl)) (by kernel_rfl) fun p hp => by
  simp only [List.mem_cons, List.not_mem_nil, or_false] at hp
  rcases hp with rfl
  · exact pu16
noncomputable def m16 (a0 : Head) : Option E16 :=
  match bif bif decide (a0.fMode = 0) then false else true then
    bif bif decide (a0.fMode = 1) then false else true then
      some (true)
    else
      bif decide ((↑a0.fBudgets.length : Int) < 1) then
        some (true)
      else
        some (decide (16 < (↑a0.fBudgets.length : Int)))
  else
    bif decide ((↑a0.fBudgets.length : Int) < 1) then
      some (true)
    else
      some (decide (16 < (↑a0.fBudgets.length : Int))) with
  | none =>
    none
  | some r1 =>
    bif r1 then
      some (1)
    else
      match m33 a0.fBudgets with
      | none =>
        none
      | some r2 =>
        bif r2 then
          some (1)
        else
          some (0)
theorem c16 (a0 : Head) : callR Try.prog (F16) 300 (an16) 16 [.agg (uni.cells 38 a0)] [] 0 rd16_e = m16 a0 := by kernel_rfl
noncomputable def o16 (x : E16) : Out := match (match outOf Try.prog 16 (pt16_e x) with
    | some ds => some (Out.mk (resA ds) (keepR (pt16_e x).R 0 (resA ds)) (pt16_e x).nx)
    | none => none) with
  | some o => o
  | none => ⟨.tup [], [], 0⟩
theorem fn16 (a0 : Head) (r : E16) (h : m16 a0 = some r) : fnOk Try.prog 16 ∧ FnY Try.prog 16 [.agg (uni.cells 38 a0)] [] 0 (o16 r) :=
  fnY_of (p := r) F16_ok (fa16) rd16_e_ok (fun p => by kernel_rfl) (ltd_of (by kernel_rfl)) (rltd_of (by kernel_rfl)) ((c16 a0).trans h)
theorem fnok16 : fnOk Try.prog 16 := ⟨_, Try.func16, by kernel_rfl, by kernel_rfl⟩
noncomputable def e16 (F : Orc) : Orc := orL 16 false (pkC (asGc 38) pkN) (fun g => m16 g.1 : (Head × Unit) → Option E16) o16 F
theorem e16_ok {F : Orc} (h : OrcG Try.prog F) : OrcG Try.prog (e16 F) := orL_g (sc := scU) h scU_ok fnok16 (ca := fun g => [.agg (uni.cells 38 g.1)]) ((.cons (.g 38) .nil) : PkN (pkC (asGc 38) pkN) _) (fun b => by kernel_rfl) (fun b => by kernel_rfl) (fun g b hb => (fn16 g.1 b hb).2)
theorem e16_pure {F : Orc} {f : Nat} (h : PureF F f) : PureF (e16 F) f := orL_pure h (fun b => by kernel_rfl)
/-! ### 15: keyhole/ledger.EncodeHead -/
noncomputable def F15 : Orc := (e32 (e31 (e31b (e30 (e16 or0)))))
theorem F15_ok : OrcG Try.prog F15 := (e32_ok (e31_ok (e31b_ok (e30_ok (e16_ok or0_g)))))
abbrev E15 : Type := (List Int) × Int
abbrev P15_e : Type := (Unit × Int × Unit) × ((List Int) × Unit)
noncomputable def rb15_e : St → Option P15_e := stR 1 (slC 4 (asO 0) (slC 5 (asI .i64) slN)) (rsR 0 5 rsN)
noncomputable def pb15_e : P15_e → St := stP 1 (fun z => [(4, .own 0), (5, .n .i64 z.2.1)]) (fun z => [(0, .row 5 z.1)])
noncomputable def mk15_e (z : P15_e) : E15 := (z.2.1, z.1.2.1)
noncomputable def pt15_e (x : E15) : St := pb15_e (((), x.2, ()), (x.1, ()))
noncomputable def rd15_e : St → Option E15 := rdC 0 [] [4, 5] (rdF (ownS 4 [] 5) (rdC 0 [] [4, 5] (rdM mk15_e rb15_e)))
theorem rb15_e_ok (n : Nat) : RdOk 0 n rb15_e pb15_e := stR_ok (.cons (.o 0) (.cons (.i .i64) .nil)) (.row .nil)
theorem rd15_e_ok (n : Nat) : RdOk 0 n rd15_e pt15_e := rdC_ok (rdF_ok (.s 4 [] 5) (rdC_ok ((rb15_e_ok n).m mk15_e (pat' := pt15_e) fun _ => rfl)))
noncomputable def an15 : An := (.two .no (.two (.two (.rb [16, 30] 14) .no) .no))
theorem pu15  : ∀ f ∈ ([16, 30] : List Nat), PureF (F15) f := fun f hf => by
  simp only [List.mem_cons, List.not_mem_nil, or_false] at hf
  rcases hf with rfl | rfl
  · exact (e32_skip (f := 16) rfl (e31_skip (f := 16) rfl (e31b_skip (f := 16) rfl (e30_pure (e16_pure or0_pure)))))
  · exact (e32_skip (f := 30) rfl (e31_skip (f := 30) rfl (e31b_skip (f := 30) rfl (e30_pure (e16_pure or0_pure)))))
theorem fa15 : FnAn Try.prog (F15) 0 300 15 (an15) := fnAn_of (l := [(.skip, (.rb [16, 30] 14))]) Try.func15 (bodyOf_eq (by kernel_rfl)) (by kernel_rfl) fun p hp => by
  simp only [List.mem_cons, List.not_mem_nil, or_false] at hp
  rcases hp with rfl
  · exact pu15
noncomputable def m15 (a0 : Head) (a1 : Int) : Option E15 :=
  match match m16 a0 with
  | none =>
    none
  | some r1 =>
    bif bif decide (r1 = 0) then false else true then
      some (true)
    else
      some (bif m30 a1 then false else true) with
  | none =>
    none
  | some r2 =>
    bif r2 then
      some (([], 1))
    else
      match m31 (4) [2] [a1] with
      | none =>
        none
      | some r3 =>
        if (r3.fst ++ [IntKind.u8.wrap a0.fMode, IntKind.u8.wrap (↑a0.fBudgets.length : Int)]).length ≤ 1073741824 then
          match m31b (3) a0.fBudgets (r3.fst ++ [IntKind.u8.wrap a0.fMode, IntKind.u8.wrap (↑a0.fBudgets.length : Int)]) with
          | none =>
            none
          | some r4 =>
            match m32 r4 with
            | none =>
              none
            | some r5 =>
              some ((r5, 0))
        else
          none
theorem c15 (a0 : Head) (a1 : Int) : callR Try.prog (F15) 300 (an15) 15 [.agg (uni.cells 38 a0), .n .i64 a1] [] 0 rd15_e = m15 a0 a1 := by kernel_rfl
noncomputable def o15 (x : E15) : Out := match (match outOf Try.prog 15 (pt15_e x) with
    | some ds => some (Out.mk (resA ds) (keepR (pt15_e x).R 0 (resA ds)) (pt15_e x).nx)
    | none => none) with
  | some o => o
  | none => ⟨.tup [], [], 0⟩
theorem fn15 (a0 : Head) (a1 : Int) (r : E15) (h : m15 a0 a1 = some r) : fnOk Try.prog 15 ∧ FnY Try.prog 15 [.agg (uni.cells 38 a0), .n .i64 a1] [] 0 (o15 r) :=
  fnY_of (p := r) F15_ok (fa15) rd15_e_ok (fun p => by kernel_rfl) (ltd_of (by kernel_rfl)) (rltd_of (by kernel_rfl)) ((c15 a0 a1).trans h)
theorem fnok15 : fnOk Try.prog 15 := ⟨_, Try.func15, by kernel_rfl, by kernel_rfl⟩
noncomputable def e15 (F : Orc) : Orc := orL 15 false (pkC (asGc 38) (pkC (asI .i64) pkN)) (fun g => m15 g.1 g.2.1 : (Head × Int × Unit) → Option E15) o15 F
theorem e15_ok {F : Orc} (h : OrcG Try.prog F) : OrcG Try.prog (e15 F) := orL_g (sc := scU) h scU_ok fnok15 (ca := fun g => [.agg (uni.cells 38 g.1), .n .i64 g.2.1]) ((.cons (.g 38) (.cons (.i .i64) .nil)) : PkN (pkC (asGc 38) (pkC (asI .i64) pkN)) _) (fun b => by kernel_rfl) (fun b => by kernel_rfl) (fun g b hb => (fn15 g.1 g.2.1 b hb).2)
theorem e15_skip {F : Orc} {f : Nat} (hne : Nat.beq f 15 = false) (h : PureF F f) : PureF (e15 F) f := orL_skip hne h
/-! ### 17: keyhole/ledger.DecodeHead -/
noncomputable def F17 : Orc := (e37 (e36 (e15 or0)))
theorem F17_ok : OrcG Try.prog F17 := (e37_ok (e36_ok (e15_ok or0_g)))
structure L17_0 where
  t0 : List Int
  t28 : Int
  t29 : Int
  b0 : Head
  b1 : Head
abbrev P17_0 : Type := ((List Int) × Unit × Unit × Int × Int × Unit) × (((Int × Unit × Unit)) × ((Int × Unit × Unit)) × (List Int) × Unit)
noncomputable def rb17_0 : St → Option P17_0 := stR 3 (slC 0 (asL 5) (slC 2 (asP 0 0) (slC 5 (asP 1 0) (slC 28 (asI .i64) (slC 29 (asI .i64) slN))))) (rsN2 0 38 (pkC (asI .i64) (pkC asNs pkN)) (rsN2 1 38 (pkC (asI .i64) (pkC (asO 2) pkN)) (rsR 2 3 rsN)))
noncomputable def pb17_0 : P17_0 → St := stP 3 (fun z => [(0, .sl 5 z.1), (2, .ptr 0 0), (5, .ptr 1 0), (28, .n .i64 z.2.2.2.1), (29, .n .i64 z.2.2.2.2.1)]) (fun z => [(0, .box 38 [.n .i64 z.1.1, .lit (.slice none 0 0)]), (1, .box 38 [.n .i64 z.2.1.1, .own 2]), (2, .row 3 z.2.2.1)])
noncomputable def mk17_0 (z : P17_0) : L17_0 := ⟨z.1.1, z.1.2.2.2.1, z.1.2.2.2.2.1, (Head.mk z.2.1.1 []), (Head.mk z.2.2.1.1 z.2.2.2.1)⟩
noncomputable def pt17_0 (x : L17_0) : St := pb17_0 ((x.t0, (), (), x.t28, x.t29, ()), ((x.b0.fMode, (), ()), (x.b1.fMode, (), ()), x.b1.fBudgets, ()))
noncomputable def rd17_0 : St → Option L17_0 := rdC 0 [] [0, 2, 5, 28, 29] (rdF (ownC 1 1 [] 3) (rdC 0 [] [0, 2, 5, 28, 29] (rdM mk17_0 rb17_0)))
theorem rb17_0_ok (n : Nat) : RdOk 0 n rb17_0 pb17_0 := stR_ok (.cons (.l 5) (.cons (.p 0 0) (.cons (.p 1 0) (.cons (.i .i64) (.cons (.i .i64) .nil))))) (.boxN (.cons (.i .i64) (.cons .ns .nil)) (.boxN (.cons (.i .i64) (.cons (.o 2) .nil)) (.row .nil)))
theorem rd17_0_ok (n : Nat) : RdOk 0 n rd17_0 pt17_0 := rdC_ok (rdF_ok (.c 1 1 [] 3) (rdC_ok ((rb17_0_ok n).m mk17_0 (pat' := pt17_0) fun _ => rfl)))
noncomputable def n17_0 (p : L17_0) : Option (Option L17_0) :=
  bif decide (p.t29 < p.t28) then
    if (0 : Int) ≤ IntKind.i64.wrap ((7 : Int) + IntKind.i64.wrap ((3 : Int) * p.t29)) ∧ IntKind.i64.wrap ((7 : Int) + IntKind.i64.wrap ((3 : Int) * p.t29)) ≤ IntKind.i64.wrap ((10 : Int) + IntKind.i64.wrap ((3 : Int) * p.t29)) ∧ IntKind.i64.wrap ((10 : Int) + IntKind.i64.wrap ((3 : Int) * p.t29)) ≤ (↑p.t0.length : Int) then
      match m36 (List.drop (IntKind.i64.wrap (7 + IntKind.i64.wrap (3 * p.t29))).toNat (List.take (IntKind.i64.wrap (10 + IntKind.i64.wrap (3 * p.t29))).toNat p.t0)) with
      | none =>
        none
      | some r1 =>
        if (p.b1.fBudgets ++ [r1]).length ≤ 1073741824 then
          some (some (L17_0.mk p.t0 p.t28 (IntKind.i64.wrap (p.t29 + 1)) (Head.mk p.b0.fMode []) (Head.mk p.b1.fMode (p.b1.fBudgets ++ [r1]))))
        else
          none
    else
      none
  else
    some (none)
theorem q17_0 (p : L17_0) : execA Try.prog (F17) Try.f17.ntmps 300 (loopAt Try.f17 0) .no (Option L17_0) (pt17_0 p) (kOn rd17_0) = n17_0 p := by kernel_rfl
noncomputable def a17_0 : L17_0 → Option L17_0 := advG (n17_0)
abbrev E17 : Type := Head × Int × Bool
abbrev P17_e : Type := (Unit × Int × Bool × Unit) × (Head × Unit)
noncomputable def rb17_e : St → Option P17_e := stR 1 (slC 2 (asP 0 0) (slC 3 (asI .i64) (slC 4 asB slN))) (rsN2 0 38 (asCs 38) rsN)
noncomputable def pb17_e : P17_e → St := stP 1 (fun z => [(2, .ptr 0 0), (3, .n .i64 z.2.1), (4, .b z.2.2.1)]) (fun z => [(0, .box 38 (uni.cells 38 z.1))])
noncomputable def mk17_e (z : P17_e) : E17 := (z.2.1, z.1.2.1, z.1.2.2.1)
noncomputable def pt17_e (x : E17) : St := pb17_e (((), x.2.1, x.2.2, ()), (x.1, ()))
noncomputable def rd17_e : St → Option E17 := rdC 0 [] [2, 3, 4] (rdM mk17_e rb17_e)
theorem rb17_e_ok (n : Nat) : RdOk 0 n rb17_e pb17_e := stR_ok (.cons (.p 0 0) (.cons (.i .i64) (.cons .b .nil))) (.boxN (PkN.parse 38) .nil)
theorem rd17_e_ok (n : Nat) : RdOk 0 n rd17_e pt17_e := rdC_ok ((rb17_e_ok n).m mk17_e (pat' := pt17_e) fun _ => rfl)
noncomputable def an17 : An := (.two .no (.two (.two (.rb [37] 18) .no) (.two .no (.two (.two .no (.lp L17_0 rd17_0 pt17_0 a17_0 .no)) (.two .no (.two .no (.two (.two (.rb [37] 63) .no) .no)))))))
theorem pu17  : ∀ f ∈ ([37] : List Nat), PureF (F17) f := fun f hf => by
  simp only [List.mem_cons, List.not_mem_nil, or_false] at hf
  rcases hf with rfl
  · exact (e37_pure (e36_pure (e15_skip (f := 37) rfl or0_pure)))
theorem fa17 : FnAn Try.prog (F17) 0 300 17 (an17) := fnAn_of (l := [(.skip, (.rb [37] 18)), (loopAt Try.f17 0, (.lp L17_0 rd17_0 pt17_0 a17_0 .no)), (.skip, (.rb [37] 63))]) Try.func17 (bodyOf_eq (by kernel_rfl)) (by kernel_rfl) fun p hp => by
  simp only [List.mem_cons, List.not_mem_nil, or_false] at hp
  rcases hp with rfl | rfl | rfl
  · exact pu17
  · exact ⟨rd17_0_ok _, advG_ok (q17_0)⟩
  · exact pu17
noncomputable def m17 (a0 : List Int) : Option E17 :=
  match bif bif decide ((↑a0.length : Int) = 96) then false else true then
    some (true)
  else
    if (0 : Int) ≤ (6 : Int) ∧ (6 : Int) < (↑a0.length : Int) then
      some (decide (16 < a0[Int.toNat 6]!))
    else
      none with
  | none =>
    none
  | some r2 =>
    bif r2 then
      some ((Head.mk (0) [], 0, false))
    else
      if (0 : Int) ≤ (5 : Int) ∧ (5 : Int) < (↑a0.length : Int) then
        if (0 : Int) ≤ (6 : Int) ∧ (6 : Int) < (↑a0.length : Int) then
          match a17_0 (L17_0.mk a0 (IntKind.i64.wrap a0[6]!) (0) (Head.mk (0) []) (Head.mk (IntKind.i64.wrap a0[5]!) [])) with
          | none =>
            none
          | some r3 =>
            bif decide (r3.t29 < r3.t28) then
              if (0 : Int) ≤ IntKind.i64.wrap ((7 : Int) + IntKind.i64.wrap ((3 : Int) * r3.t29)) ∧ IntKind.i64.wrap ((7 : Int) + IntKind.i64.wrap ((3 : Int) * r3.t29)) ≤ IntKind.i64.wrap ((10 : Int) + IntKind.i64.wrap ((3 : Int) * r3.t29)) ∧ IntKind.i64.wrap ((10 : Int) + IntKind.i64.wrap ((3 : Int) * r3.t29)) ≤ (↑r3.t0.length : Int) then
                match m36 (List.drop (IntKind.i64.wrap (7 + IntKind.i64.wrap (3 * r3.t29))).toNat (List.take (IntKind.i64.wrap (10 + IntKind.i64.wrap (3 * r3.t29))).toNat r3.t0)) with
                | none =>
                  none
                | some r4 =>
                  if (r3.b1.fBudgets ++ [r4]).length ≤ 1073741824 then
                    none
                  else
                    none
              else
                none
            else
              if (0 : Int) ≤ (1 : Int) ∧ (1 : Int) ≤ (5 : Int) ∧ (5 : Int) ≤ (↑r3.t0.length : Int) then
                match m36 (List.drop 1 (List.take 5 r3.t0)) with
                | none =>
                  none
                | some r5 =>
                  match m15 r3.b1 r5 with
                  | none =>
                    none
                  | some r6 =>
                    match bif bif decide (r6.snd = 0) then false else true then
                      some (true)
                    else
                      some (bif m37 r6.fst r3.t0 then false else true) with
                    | none =>
                      none
                    | some r7 =>
                      bif r7 then
                        some ((Head.mk (0) [], 0, false))
                      else
                        some ((r3.b1, r5, true))
              else
                none
        else
          none
      else
        none
theorem c17 (a0 : List Int) : callR Try.prog (F17) 300 (an17) 17 [.sl 5 a0] [] 0 rd17_e = m17 a0 := by kernel_rfl
noncomputable def o17 (x : E17) : Out := match (match outOf Try.prog 17 (pt17_e x) with
    | some ds => some (Out.mk (resA ds) (keepR (pt17_e x).R 0 (resA ds)) (pt17_e x).nx)
    | none => none) with
  | some o => o
  | none => ⟨.tup [], [], 0⟩
theorem fn17 (a0 : List Int) (r : E17) (h : m17 a0 = some r) : fnOk Try.prog 17 ∧ FnY Try.prog 17 [.sl 5 a0] [] 0 (o17 r) :=
  fnY_of (p := r) F17_ok (fa17) rd17_e_ok (fun p => by kernel_rfl) (ltd_of (by kernel_rfl)) (rltd_of (by kernel_rfl)) ((c17 a0).trans h)
theorem fnok17 : fnOk Try.prog 17 := ⟨_, Try.func17, by kernel_rfl, by kernel_rfl⟩
noncomputable def e17 (F : Orc) : Orc := orY 17 0 (qy0 (pkC (asL 5) pkN)) (fun g => m17 g.1 : ((List Int) × Unit) → Option E17) o17 F
theorem e17_ok {F : Orc} (h : OrcG Try.prog F) : OrcG Try.prog (e17 F) := orY_g h fnok17 (qy0_ok (ca := fun g => [.sl 5 g.1]) ((.cons (.l 5) .nil) : PkN (pkC (asL 5) pkN) _)) (fun b => by kernel_rfl) (fun g b hb => (fn17 g.1 b hb).2)
theorem e17_skip {F : Orc} {f : Nat} (hne : Nat.beq f 17 = false) (h : PureF F f) : PureF (e17 F) f := orY_skip hne h
/-! ### 43: slices.Equal[[]int,int] -/
noncomputable def F43 : Orc := or0
theorem F43_ok : OrcG Try.prog F43 := or0_g
structure L43_0 where
  t0 : List Int
  t1 : List Int
  t12 : Int
  t13 : Int
abbrev P43_0 : Type := ((List Int) × (List Int) × Int × Int × Unit) × (Unit)
noncomputable def rb43_0 : St → Option P43_0 := stR 0 (slC 0 (asL 3) (slC 1 (asL 3) (slC 12 (asI .i64) (slC 13 (asI .i64) slN)))) rsN
noncomputable def pb43_0 : P43_0 → St := stP 0 (fun z => [(0, .sl 3 z.1), (1, .sl 3 z.2.1), (12, .n .i64 z.2.2.1), (13, .n .i64 z.2.2.2.1)]) (fun z => [])
noncomputable def mk43_0 (z : P43_0) : L43_0 := ⟨z.1.1, z.1.2.1, z.1.2.2.1, z.1.2.2.2.1⟩
noncomputable def pt43_0 (x : L43_0) : St := pb43_0 ((x.t0, x.t1, x.t12, x.t13, ()), (()))
noncomputable def rd43_0 : St → Option L43_0 := rdC 0 [] [0, 1, 12, 13] (rdM mk43_0 rb43_0)
theorem rb43_0_ok (n : Nat) : RdOk 0 n rb43_0 pb43_0 := stR_ok (.cons (.l 3) (.cons (.l 3) (.cons (.i .i64) (.cons (.i .i64) .nil)))) .nil
theorem rd43_0_ok (n : Nat) : RdOk 0 n rd43_0 pt43_0 := rdC_ok ((rb43_0_ok n).m mk43_0 (pat' := pt43_0) fun _ => rfl)
noncomputable def n43_0 (p : L43_0) : Option (Option L43_0) :=
  bif decide (p.t13 < p.t12) then
    if (0 : Int) ≤ p.t13 ∧ p.t13 < (↑p.t0.length : Int) then
      if (0 : Int) ≤ p.t13 ∧ p.t13 < (↑p.t1.length : Int) then
        bif bif decide (((p.t0, p.t1, p.t12, p.t13, ()), ()).fst.fst[((p.t0, p.t1, p.t12, p.t13, ()), ()).fst.snd.snd.snd.fst.toNat]! = ((p.t0, p.t1, p.t12, p.t13, ()), ()).fst.snd.fst[((p.t0, p.t1, p.t12, p.t13, ()), ()).fst.snd.snd.snd.fst.toNat]!) then false else true then
          some (none)
        else
          some (some (L43_0.mk p.t0 p.t1 p.t12 (IntKind.i64.wrap (p.t13 + 1))))
      else
        none
    else
      none
  else
    some (none)
theorem q43_0 (p : L43_0) : execA Try.prog (F43) Try.f43.ntmps 300 (loopAt Try.f43 0) .no (Option L43_0) (pt43_0 p) (kOn rd43_0) = n43_0 p := by kernel_rfl
noncomputable def a43_0 : L43_0 → Option L43_0 := advG (n43_0)
abbrev E43 : Type := Bool
abbrev P43_e : Type := (Bool × Unit) × (Unit)
noncomputable def rb43_e : St → Option P43_e := stR 0 (slC 4 asB slN) rsN
noncomputable def pb43_e : P43_e → St := stP 0 (fun z => [(4, .b z.1)]) (fun z => [])
noncomputable def mk43_e (z : P43_e) : E43 := z.1.1
noncomputable def pt43_e (x : E43) : St := pb43_e ((x, ()), (()))
noncomputable def rd43_e : St → Option E43 := rdC 0 [] [4] (rdM mk43_e rb43_e)
theorem rb43_e_ok (n : Nat) : RdOk 0 n rb43_e pb43_e := stR_ok (.cons .b .nil) .nil
theorem rd43_e_ok (n : Nat) : RdOk 0 n rd43_e pt43_e := rdC_ok ((rb43_e_ok n).m mk43_e (pat' := pt43_e) fun _ => rfl)
noncomputable def an43 : An := (.two .no (.two .no (.two (.two .no (.lp L43_0 rd43_0 pt43_0 a43_0 .no)) .no)))
theorem fa43 : FnAn Try.prog (F43) 0 300 43 (an43) := fnAn_of (l := [(loopAt Try.f43 0, (.lp L43_0 rd43_0 pt43_0 a43_0 .no))]) Try.func43 (bodyOf_eq (by kernel_rfl)) (by kernel_rfl) fun p hp => by
  simp only [List.mem_cons, List.not_mem_nil, or_false] at hp
  rcases hp with rfl
  · exact ⟨rd43_0_ok _, advG_ok (q43_0)⟩
noncomputable def m43 (a0 : List Int) (a1 : List Int) : Option E43 :=
  bif bif decide ((↑a0.length : Int) = (↑a1.length : Int)) then false else true then
    some (false)
  else
    match a43_0 (L43_0.mk a0 a1 (↑a0.length : Int) (0)) with
    | none =>
      none
    | some r1 =>
      bif decide (r1.t13 < r1.t12) then
        if (0 : Int) ≤ r1.t13 ∧ r1.t13 < (↑r1.t0.length : Int) then
          if (0 : Int) ≤ r1.t13 ∧ r1.t13 < (↑r1.t1.length : Int) then
            bif bif decide (((r1.t0, r1.t1, r1.t12, r1.t13, ()), ()).fst.fst[((r1.t0, r1.t1, r1.t12, r1.t13, ()), ()).fst.snd.snd.snd.fst.toNat]! = ((r1.t0, r1.t1, r1.t12, r1.t13, ()), ()).fst.snd.fst[((r1.t0, r1.t1, r1.t12, r1.t13, ()), ()).fst.snd.snd.snd.fst.toNat]!) then false else true then
              some (false)
            else
              none
          else
            none
        else
          none
      else
        some (true)
theorem c43 (a0 : List Int) (a1 : List Int) : callR Try.prog (F43) 300 (an43) 43 [.sl 3 a0, .sl 3 a1] [] 0 rd43_e = m43 a0 a1 := by kernel_rfl
noncomputable def o43 (x : E43) : Out := match (match outOf Try.prog 43 (pt43_e x) with
    | some ds => some (Out.mk (resA ds) (keepR (pt43_e x).R 0 (resA ds)) (pt43_e x).nx)
    | none => none) with
  | some o => o
  | none => ⟨.tup [], [], 0⟩
theorem fn43 (a0 : List Int) (a1 : List Int) (r : E43) (h : m43 a0 a1 = some r) : fnOk Try.prog 43 ∧ FnY Try.prog 43 [.sl 3 a0, .sl 3 a1] [] 0 (o43 r) :=
  fnY_of (p := r) F43_ok (fa43) rd43_e_ok (fun p => by kernel_rfl) (ltd_of (by kernel_rfl)) (rltd_of (by kernel_rfl)) ((c43 a0 a1).trans h)
theorem fnok43 : fnOk Try.prog 43 := ⟨_, Try.func43, by kernel_rfl, by kernel_rfl⟩
noncomputable def e43 (F : Orc) : Orc := orL 43 false (pkC (asL 3) (pkC (asL 3) pkN)) (fun g => m43 g.1 g.2.1 : ((List Int) × (List Int) × Unit) → Option E43) o43 F
theorem e43_ok {F : Orc} (h : OrcG Try.prog F) : OrcG Try.prog (e43 F) := orL_g (sc := scU) h scU_ok fnok43 (ca := fun g => [.sl 3 g.1, .sl 3 g.2.1]) ((.cons (.l 3) (.cons (.l 3) .nil)) : PkN (pkC (asL 3) (pkC (asL 3) pkN)) _) (fun b => by kernel_rfl) (fun b => by kernel_rfl) (fun g b hb => (fn43 g.1 g.2.1 b hb).2)
theorem e43_pure {F : Orc} {f : Nat} (h : PureF F f) : PureF (e43 F) f := orL_pure h (fun b => by kernel_rfl)
end Go.Proofs.Ytgdahkddhecloaa
end
section
set_option linter.unusedSectionVars false
set_option linter.unusedVariables false
set_option linter.unusedSimpArgs false
namespace Go.Ab
open Go Go.RowKit

/-- What a slot or a cell holds: a plain value; a slice that reads as0 a list and is not written; a place at which cells lie that are not written; cell k of an own slice; an aggregate; a tuple; a function. -/
inductive AV : Type 1
  | lit (v : Value)
  | sl {α : Type} [Inhabited α] (sz : Nat) (c : α → List AV) (l : List α)
  | fp (cs : List AV)
  | rp (v : Value) (k : Nat)
  | agg (cs : List AV)
  | tup (vs : List AV)
  | fn (f : Fn) (caps : List AV)

/-- the block of a slice that has room -/
def rblk : Value → Option Nat
  | .slice (some a) _ (_ + 1) => some a.block
  | _ => none

/-- v is a slice of n elements of sz cells over a row of its own (of type T), at its head; its cells are us. -/
def RowIs (w : World) (v : Value) (T : TypeId) (sz n : Nat) (us : List Value) : Prop :=
  us.length = n * sz ∧ ((∃ p, v = .slice p 0 0 ∧ n = 0) ∨
    ∃ g cap cur, v = .slice (some ⟨g, 0, none⟩) n (cap + 1) ∧ w.heap[g]? = some (.cells cur T (0, 0)) ∧ n ≤ cap + 1 ∧ cap + 1 ≤ maxLen ∧ cur.size = (cap + 1) * sz ∧ cur.toList.take (n * sz) = us)

theorem RowIs.lt {w : World} {v : Value} {T : TypeId} {sz n : Nat} {us : List Value} (h : RowIs w v T sz n us) {b : Nat} (hb : rblk v = some b) : b < w.heap.size := by
  rcases h.2 with ⟨p, rfl, _⟩ | ⟨g, cap, cur, rfl, hg, _⟩
  · cases p <;> cases hb
  · cases hb
    exact (Array.getElem?_eq_some_iff.1 hg).1

theorem RowIs.kept {w w' : World} {v : Value} {T : TypeId} {sz n : Nat} {us : List Value} (h : RowIs w v T sz n us) (hb : ∀ b, rblk v = some b → w'.heap[b]? = w.heap[b]?) : RowIs w' v T sz n us := by
  refine ⟨h.1, ?_⟩
  rcases h.2 with h1 | ⟨g, cap, cur, rfl, q1, q2⟩
  · exact .inl h1
  · exact .inr ⟨g, cap, cur, rfl, (hb g rfl).trans q1, q2⟩

inductive Rel (A : Nat → Prop) (w : World) : AV → Value → Prop
  | lit (v : Value) : Rel A w (.lit v) v
  | sl {α : Type} [Inhabited α] (sz : Nat) (c : α → List AV) (l : List α) (p : Option Addr) (cap : Nat) (u : Nat → Nat → Value)
      (hl : l.length ≤ 9223372036854775807) (hcap : l.length ≤ cap) (hz : ∀ i, i < l.length → (c l[i]!).length = sz)
      (hc : ∀ i, i < l.length → ∃ b off, p = some ⟨b, off, none⟩ ∧ b < w.heap.size ∧ A b ∧ ∀ j, j < sz → w.cell? ⟨b, off + i * sz + j, none⟩ = some (u i j))
      (hr : ∀ i j a, i < l.length → (c l[i]!)[j]? = some a → Rel A w a (u i j)) : Rel A w (.sl sz c l) (.slice p l.length cap)
  | fp (cs : List AV) (b o : Nat) (us : List Value) (hb : b < w.heap.size) (hA : A b) (hl : us.length = cs.length)
      (hc : ∀ j v, us[j]? = some v → w.cell? ⟨b, o + j, none⟩ = some v) (hr : ∀ (j : Nat) a v, cs[j]? = some a → us[j]? = some v → Rel A w a v) : Rel A w (.fp cs) (.pointer (some ⟨b, o, none⟩))
  | rp (v : Value) (k g : Nat) (h : rblk v = some g) : Rel A w (.rp v k) (.pointer (some ⟨g, k, none⟩))
  | agg (cs : List AV) (us : List Value) (hl : us.length = cs.length) (hr : ∀ (j : Nat) a v, cs[j]? = some a → us[j]? = some v → Rel A w a v) : Rel A w (.agg cs) (.agg us.toArray)
  | tup (cs : List AV) (us : List Value) (hl : us.length = cs.length) (hr : ∀ (j : Nat) a v, cs[j]? = some a → us[j]? = some v → Rel A w a v) : Rel A w (.tup cs) (.tuple us.toArray)
  | fn (f : Fn) (cs : List AV) (us : List Value) (hl : us.length = cs.length) (hr : ∀ (j : Nat) a v, cs[j]? = some a → us[j]? = some v → Rel A w a v) : Rel A w (.fn f cs) (.func f #[] us.toArray)

theorem Rel.mono {A A' : Nat → Prop} {w w' : World} {a : AV} {v : Value} (h : Rel A w a v) (hk : ∀ b, b < w.heap.size → A b → A' b ∧ w'.heap[b]? = w.heap[b]?) : Rel A' w' a v := by
  have hsz : ∀ b, b < w.heap.size → A b → b < w'.heap.size := fun b hb hA => by
    have h1 := (hk b hb hA).2
    rw [Array.getElem?_eq_getElem hb] at h1
    exact (Array.getElem?_eq_some_iff.1 h1).1
  have hcell : ∀ b o, b < w.heap.size → A b → w'.cell? ⟨b, o, none⟩ = w.cell? ⟨b, o, none⟩ := fun b o hb hA => by
    simp [World.cell?, (hk b hb hA).2]
  induction h with
  | lit v => exact .lit v
  | sl sz c l p cap u hl hcap hz hc hr ih =>
    refine .sl sz c l p cap u hl hcap hz (fun i hi => ?_) ih
    obtain ⟨b, off, h1, h2, h3, h4⟩ := hc i hi
    exact ⟨b, off, h1, hsz b h2 h3, (hk b h2 h3).1, fun j hj => by rw [hcell b _ h2 h3]; exact h4 j hj⟩
  | fp cs b o us hb hA hl hc hr ih => exact .fp cs b o us (hsz b hb hA) (hk b hb hA).1 hl (fun j v hj => by rw [hcell b _ hb hA]; exact hc j v hj) ih
  | rp v k g h => exact .rp v k g h
  | agg cs us hl hr ih => exact .agg cs us hl ih
  | tup cs us hl hr ih => exact .tup cs us hl ih
  | fn f cs us hl hr ih => exact .fn f cs us hl ih

def RelL (A : Nat → Prop) (w : World) (as0 : List AV) (us : List Value) : Prop := us.length = as0.length ∧ ∀ (j : Nat) a v, as0[j]? = some a → us[j]? = some v → Rel A w a v

theorem RelL.mono {A A' : Nat → Prop} {w w' : World} {as0 : List AV} {us : List Value} (h : RelL A w as0 us) (hk : ∀ b, b < w.heap.size → A b → A' b ∧ w'.heap[b]? = w.heap[b]?) : RelL A' w' as0 us := ⟨h.1, fun j a v h1 h2 => (h.2 j a v h1 h2).mono hk⟩

theorem Rel.litEq {A : Nat → Prop} {w : World} {u v : Value} (h : Rel A w (.lit u) v) : v = u := by
  generalize ha : AV.lit u = a at h
  cases h with
  | lit v => cases ha; rfl
  | _ => cases ha

/-- Block b is a row of cells of type T that may be written. -/
def Blk (w : World) (b : Nat) (cs : Array Value) (T : TypeId) : Prop := w.heap[b]? = some (.cells cs T (0, 0))
theorem Blk.lt {w : World} {b : Nat} {cs : Array Value} {T : TypeId} (h : Blk w b cs T) : b < w.heap.size := (Array.getElem?_eq_some_iff.1 h).1
theorem Blk.cell {w : World} {b : Nat} {cs : Array Value} {T : TypeId} (h : Blk w b cs T) {i : Nat} {v : Value} (hv : cs[i]? = some v) : w.cell? ⟨b, i, none⟩ = some v := by
  unfold Blk at h
  simp [World.cell?, h, hv]

/-- What the function owns: a variable of several cells; a slice whose elements' cells are c x. -/
inductive Res : Type 1
  | box (b : Nat) (T : TypeId) (cs : List AV)
  | row {α : Type} [Inhabited α] (v : Value) (T : TypeId) (sz : Nat) (c : α → List AV) (l : List α)

def Res.blk : Res → Option Nat
  | .box b _ _ => some b
  | @Res.row _ _ v _ _ _ _ => rblk v

def Res.ok (A : Nat → Prop) (w : World) : Res → Prop
  | .box b T cs => ∃ us : List Value, Blk w b us.toArray T ∧ RelL A w cs us
  | @Res.row _ _ v T sz c l => ∃ us : List Value, RowIs w v T sz l.length us ∧ (∀ i, i < l.length → (c l[i]!).length = sz) ∧ ∀ i, i < l.length → RelL A w (c l[i]!) ((us.drop (i * sz)).take sz)

def blks (σ : List Res) : List Nat := σ.filterMap Res.blk
theorem mem_blks {σ : List Res} {b : Nat} : b ∈ blks σ ↔ ∃ r ∈ σ, r.blk = some b := by simp [blks]

theorem Res.ok.lt {A : Nat → Prop} {w : World} {r : Res} (h : r.ok A w) {b : Nat} (hb : r.blk = some b) : b < w.heap.size := by
  cases r with
  | box b' T cs => obtain ⟨us, h1, _⟩ := h; cases hb; exact h1.lt
  | row v T sz c l => obtain ⟨us, h1, _⟩ := h; exact h1.lt hb

theorem Res.ok.mono {A A' : Nat → Prop} {w w' : World} {r : Res} (h : r.ok A w) (hk : ∀ b, b < w.heap.size → A b → A' b ∧ w'.heap[b]? = w.heap[b]?) (hb : ∀ b, r.blk = some b → w'.heap[b]? = w.heap[b]?) : r.ok A' w' := by
  cases r with
  | box b T cs =>
    obtain ⟨us, h1, h2⟩ := h
    exact ⟨us, (hb b rfl).trans h1, h2.mono hk⟩
  | row v T sz c l =>
    obtain ⟨us, h1, h2, h3⟩ := h
    exact ⟨us, h1.kept hb, h2, fun i h4 => (h3 i h4).mono hk⟩

/-- Blocks outside X are as0 they were. -/
structure Kp (X : List Nat) (w w' : World) : Prop where
  os : w'.os = w.os
  tape : w'.tape = w.tape
  output : w'.output = w.output
  size : w.heap.size ≤ w'.heap.size
  block : ∀ k, k < w.heap.size → k ∉ X → w'.heap[k]? = w.heap[k]?

theorem Kp.refl (X : List Nat) (w : World) : Kp X w w := ⟨rfl, rfl, rfl, Nat.le_refl _, fun _ _ _ => rfl⟩
theorem Kp.trans {X Y : List Nat} {w w1 w2 : World} (h : Kp X w w1) (h' : Kp Y w1 w2) (hY : ∀ b, b ∈ Y → b < w.heap.size → b ∈ X) : Kp X w w2 :=
  ⟨h'.os.trans h.os, h'.tape.trans h.tape, h'.output.trans h.output, Nat.le_trans h.size h'.size, fun k hk hX =>
    (h'.block k (Nat.lt_of_lt_of_le hk h.size) (fun hy => hX (hY k hy hk))).trans (h.block k hk hX)⟩
theorem Kp.drew (w : World) : Kp [] w w.drew := ⟨rfl, rfl, rfl, Nat.le_refl _, fun _ _ _ => rfl⟩
theorem Kp.below {w w' : World} (h : Kp [] w w') : Below w.heap.size w w' := ⟨h.os, h.tape, h.output, h.size, fun k hk => h.block k hk (by simp)⟩
theorem Kp.ofBelow {w w' : World} (h : Below w.heap.size w w') : Kp [] w w' := ⟨h.os, h.tape, h.output, h.size, fun k hk _ => h.block k hk⟩

/-- Where the function began: its world, the blocks whose data it was given, the blocks that it was given to own. -/
structure Cx where
  w0 : World
  A0 : Nat → Prop
  O0 : List Nat

/-- The blocks in which data may lie that are not written. -/
def al (C : Cx) (σ : List Res) (b : Nat) : Prop := (C.A0 b ∨ b ∈ C.O0 ∨ C.w0.heap.size ≤ b) ∧ b ∉ blks σ

structure Good (C : Cx) (σ : List Res) (w : World) : Prop where
  kept : Kp C.O0 C.w0 w
  res : ∀ r ∈ σ, r.ok (al C σ) w
  dis : (blks σ).Nodup
  own : ∀ b ∈ blks σ, b ∈ C.O0 ∨ C.w0.heap.size ≤ b

/-- From one state of memory to the next; blocks outside X are as0 they were. -/
structure Tr (C : Cx) (X : List Nat) (σ : List Res) (w : World) (σ' : List Res) (w' : World) : Prop where
  good : Good C σ' w'
  kp : Kp X w w'
  al : ∀ b, b < w.heap.size → al C σ b → al C σ' b ∧ b ∉ X

theorem Tr.keep {C : Cx} {X : List Nat} {σ σ' : List Res} {w w' : World} (t : Tr C X σ w σ' w') : ∀ b, b < w.heap.size → Ab.al C σ b → Ab.al C σ' b ∧ w'.heap[b]? = w.heap[b]? :=
  fun b hb h => ⟨(t.al b hb h).1, t.kp.block b hb (t.al b hb h).2⟩

/-! ### Frames -/

abbrev Env := List (Nat × AV)

def Env.get : Env → Nat → Option AV
  | [], _ => none
  | (k, v) :: E, t => match Nat.beq k t with
    | true => some v
    | false => Env.get E t

def Env.ev (E : Env) : Operand → Option AV
  | .tmp t => Env.get E t
  | .const v => some (.lit v)
  | .global g => some (.lit (.pointer (some ⟨g, 0, none⟩)))
  | .func f => some (.fn (.func f) [])

theorem Env.get_hit (E : Env) (d : Nat) (v : AV) : Env.get ((d, v) :: E) d = some v := by
  have h : Nat.beq d d = true := Nat.beq_refl d
  simp only [Env.get, h]

theorem Env.get_miss (E : Env) {d t : Nat} (v : AV) (h : d ≠ t) : Env.get ((d, v) :: E) t = Env.get E t := by
  have h' : Nat.beq d t = false := by
    cases hb : Nat.beq d t with
    | false => rfl
    | true => exact absurd (Nat.eq_of_beq_eq_true hb) h
  simp only [Env.get, h']

/-- The slots hold what E says. -/
def Slots (A : Nat → Prop) (w : World) (E : Env) (tmps : Array Value) : Prop := ∀ t av, Env.get E t = some av → ∃ v, tmps[t]? = some v ∧ Rel A w av v

/-- The only calls deferred are marks of ranges over functions, whose rounds deferred none. -/
def Dq (C : Cx) (σ : List Res) (a : Act) (w : World) : Prop := ∃ Ds : List Nat, a.defers = Ds.map (fun D => { target := .collected D, args := #[] }) ∧ Ds.Nodup ∧
  ∀ D ∈ Ds, D < w.heap.size ∧ C.w0.heap.size ≤ D ∧ D ∉ blks σ ∧ w.heap[D]? = some (.deferred (some []))
theorem Dq.nil {C : Cx} {σ : List Res} {a : Act} {w : World} (h : a.defers = []) : Dq C σ a w := ⟨[], h, List.nodup_nil, fun _ h => by cases h⟩
theorem Dq.step {C : Cx} {σ σ' : List Res} {a : Act} {w w' : World} (h : Dq C σ a w) (hk : ∀ b, b < w.heap.size → al C σ b → al C σ' b ∧ w'.heap[b]? = w.heap[b]?) : Dq C σ' a w' := by
  obtain ⟨Ds, h1, h2, h3⟩ := h
  refine ⟨Ds, h1, h2, fun D hD => ?_⟩
  obtain ⟨q1, q2, q3, q4⟩ := h3 D hD
  obtain ⟨p1, p2⟩ := hk D q1 ⟨.inr (.inr q2), q3⟩
  have p3 := p2.trans q4
  exact ⟨(Array.getElem?_eq_some_iff.1 p3).1, q2, p1.2, p3⟩

structure Sim (C : Cx) (n : Nat) (E : Env) (σ : List Res) (a : Act) (w : World) : Prop where
  defers : Dq C σ a w
  size : a.tmps.size = n
  slots : Slots (al C σ) w E a.tmps
  good : Good C σ w

/-- what operands are -/
def Ops (A : Nat → Prop) (w : World) (E : Env) (ρ : Operand → Value) : Prop := ∀ x u, E.ev x = some u → Rel A w u (ρ x)

section
variable {C : Cx} {n : Nat} {E E' : Env} {σ σ' : List Res} {a : Act} {w w' : World} {x : Operand} {v : Value} {av : AV} {d : Nat} {A : Nat → Prop}

theorem Slots.ops (h : Slots A w E a.tmps) : Ops A w E a.eval := fun x u hx => by
  cases x with
  | tmp t =>
    obtain ⟨v, h1, h2⟩ := h t u hx
    simpa [Act.eval, h1] using h2
  | const u =>
    simp only [Env.ev, Option.some.injEq] at hx
    subst hx
    exact .lit _
  | global g =>
    simp only [Env.ev, Option.some.injEq] at hx
    subst hx
    exact .lit _
  | func f =>
    simp only [Env.ev, Option.some.injEq] at hx
    subst hx
    exact .fn _ [] [] rfl (fun j a v h => by cases h)

theorem Slots.put (h : Slots A w E a.tmps) (hd : d < a.tmps.size) (hv : Rel A w av v) : Slots A w ((d, av) :: E) (a.put (some d) v).tmps := fun t u ht => by
  by_cases hdt : d = t
  · subst hdt
    rw [Env.get_hit] at ht
    cases ht
    exact ⟨v, by simp [Act.put, hd], hv⟩
  · rw [Env.get_miss _ _ hdt] at ht
    obtain ⟨v', h1, h2⟩ := h t u ht
    exact ⟨v', by simp [Act.put, Array.getElem?_setIfInBounds_ne hdt, h1], h2⟩

theorem Slots.past (h : Slots A w E a.tmps) (hd : Env.get E d = none) (v : Value) : Slots A w E (a.put (some d) v).tmps := fun t u ht => by
  have hdt : d ≠ t := fun e => by rw [← e, hd] at ht; cases ht
  obtain ⟨v', h1, h2⟩ := h t u ht
  exact ⟨v', by simp [Act.put, Array.getElem?_setIfInBounds_ne hdt, h1], h2⟩

theorem Sim.put (h : Sim C n E σ a w) (hd : Nat.blt d n = true) (hv : Rel (al C σ) w av v) : Sim C n ((d, av) :: E) σ (a.put (some d) v) w :=
  ⟨h.defers, by simpa [Act.put] using h.size, h.slots.put (by rw [h.size]; simpa [Nat.blt_eq] using hd) hv, h.good⟩

theorem Sim.put_none (h : Sim C n E σ a w) (v : Value) : Sim C n E σ (a.put none v) w := h

theorem Sim.tr {X : List Nat} (h : Sim C n E σ a w) (t : Tr C X σ w σ' w') : Sim C n E σ' a w' :=
  ⟨h.defers.step t.keep, h.size, fun i u hi => let ⟨v, h1, h2⟩ := h.slots i u hi; ⟨v, h1, h2.mono t.keep⟩, t.good⟩

/-- Every entry of E is one of E'. -/
def Sub (E E' : Env) : Prop := ∀ t v, Env.get E t = some v → Env.get E' t = some v

theorem Sub.nil : Sub [] E := fun _ _ h => by cases h
theorem Sub.cons (h : Env.get E' d = some av) (hs : Sub E E') : Sub ((d, av) :: E) E' := fun t u ht => by
  by_cases hdt : d = t
  · subst hdt
    rw [Env.get_hit] at ht
    cases ht
    exact h
  · rw [Env.get_miss _ _ hdt] at ht
    exact hs t u ht
theorem Sub.refl : Sub E E := fun _ _ h => h
theorem Sub.trans {E1 E2 E3 : Env} (h : Sub E1 E2) (h' : Sub E2 E3) : Sub E1 E3 := fun t u ht => h' t u (h t u ht)

theorem Sim.sub (h : Sim C n E' σ a w) (hs : Sub E E') : Sim C n E σ a w := ⟨h.defers, h.size, fun t v ht => h.slots t v (hs t v ht), h.good⟩
end

/-! ### What operations do -/

/-- The resources hold, and no data lie in their blocks. -/
def Hd (A : Nat → Prop) (σ : List Res) (w : World) : Prop := (∀ r ∈ σ, r.ok A w) ∧ ∀ b ∈ blks σ, ¬ A b

theorem Good.hd {C : Cx} {σ : List Res} {w : World} (h : Good C σ w) : Hd (al C σ) σ w := ⟨h.res, fun _ hb hA => hA.2 hb⟩

section
variable (P : Program) (E : Env) (σ : List Res) (o : Oper)

/-- The operation yields av and leaves the world as0 it is, now and as0 long as0 nothing is written that it reads. -/
def Yp (av : AV) : Prop := ∀ (A : Nat → Prop) (w : World) (ρ : Operand → Value), Hd A σ w → Ops A w E ρ →
  ∃ v, Rel A w av v ∧ ∀ w' : World, (∀ b, b < w.heap.size → (A b ∨ b ∈ blks σ) → w'.heap[b]? = w.heap[b]?) → (execOp ρ o).run P w' = .ok (.value v) w'

/-- The operation yields something, and the state is one of N. -/
def Yv (C : Cx) (X : List Nat) (N : AV → List Res → Prop) : Prop := ∀ (w : World) (ρ : Operand → Value), Good C σ w → Ops (al C σ) w E ρ →
  ∃ v w' av σ', N av σ' ∧ Tr C X σ w σ' w' ∧ (execOp ρ o).run P w = .ok (.value v) w' ∧ Rel (al C σ') w' av v

/-- The operation yields nothing, and the resources are σ'. -/
def Yu (C : Cx) (X : List Nat) (σ' : List Res) : Prop := ∀ (w : World) (ρ : Operand → Value), Good C σ w → Ops (al C σ) w E ρ →
  ∃ w', Tr C X σ w σ' w' ∧ (execOp ρ o).run P w = .ok .skip w'

/-- The operation calls function f, whose results are of Φ. -/
def Yc (C : Cx) (X : List Nat) (N : AV → List Res → Prop) : Prop := ∀ (w : World) (ρ : Operand → Value), Good C σ w → Ops (al C σ) w E ρ →
  ∃ f args, (execOp ρ o).run P w = .ok (.enter f args) w ∧ Calls P f args w fun e w' => ∃ v av σ', e = .returned v ∧ N av σ' ∧ Tr C X σ w σ' w' ∧ Rel (al C σ') w' av v

/-- Is the operation wanted? -/
def Wants (ops : Array Oper) : Option Bool :=
  match o.guard with
  | none => some true
  | some (j, want) => match (ops[j]?).bind (·.dst) with
    | none => none
    | some t => match Env.get E t with
      | some (.lit (.bool b)) => some (b == want)
      | some (.lit (.tuple _)) => some false
      | _ => none
end

theorem Wants.spec {A : Nat → Prop} {w : World} {E : Env} {o : Oper} {ops : Array Oper} {tmps : Array Value} {b : Bool} (h : Slots A w E tmps) (hw : Wants E o ops = some b) : Region.wanted o (yielded ops tmps) = b := by
  unfold Wants at hw
  unfold Region.wanted
  cases hg : o.guard with
  | none => rw [hg] at hw; simpa using hw
  | some gw =>
    obtain ⟨j, want⟩ := gw
    rw [hg] at hw
    simp only at hw ⊢
    cases ht : (ops[j]?).bind (·.dst) with
    | none => rw [ht] at hw; cases hw
    | some t =>
      rw [ht] at hw
      simp only at hw
      cases he : Env.get E t with
      | none => rw [he] at hw; cases hw
      | some u =>
        obtain ⟨v, hv, hr⟩ := h t u he
        rw [he] at hw
        have hy : yielded ops tmps j = match v with | .bool b => some b | _ => none := by
          unfold yielded
          rw [ht]
          simp only [Option.bind_some, hv]
          cases v <;> rfl
        cases u with
        | lit u =>
          have hvu := hr.litEq
          subst hvu
          cases v <;> simp only at hw hy <;> first | (cases hw; done) | skip
          · rw [hy]; simpa using hw
          · rw [hy]; simp at hw; simp [← hw]
        | _ => cases hw

/-! ### Regions in the order of the text -/

def Q0 (C : Cx) (n : Nat) (K : Env → List Res → Prop) : Exit → Act → World → Prop := fun e a w => e = .normal ∧ ∃ E σ, Sim C n E σ a w ∧ K E σ
def Q1 (C : Cx) (n : Nat) (K : Env → List Res → Prop) (ds : List Deferred) : Exit → Act → World → Prop := fun e a w => e = .normal ∧ a.defers = ds ∧ ∃ E σ, Sim C n E σ a w ∧ K E σ

def RW (P : Program) (C : Cx) (n : Nat) (ops : Array Oper) (K : Env → List Res → Prop) (rest : List Oper) (E : Env) (σ : List Res) : Prop :=
  ∀ a w, Sim C n E σ a w → wpList P ops (Q1 C n K a.defers) rest a w

section
variable {P : Program} {C : Cx} {n : Nat} {ops : Array Oper} {K : Env → List Res → Prop} {rest : List Oper} {E E' : Env} {σ σ' : List Res} {o : Oper} {av : AV} {d : Nat} {X : List Nat} {N : AV → List Res → Prop}

theorem RW.nil (h : K E σ) : RW P C n ops K [] E σ := fun _ _ ha => ⟨rfl, rfl, E, σ, ha, h⟩

theorem RW.p (hg : Wants E o ops = some true) (hd : o.dst = some d) (hn : Nat.blt d n = true) (hr : Yp P E σ o av) (next : RW P C n ops K rest ((d, av) :: E) σ) : RW P C n ops K (o :: rest) E σ := by
  intro a w ha
  refine wpList_step fun K' hK => ?_
  rw [if_pos (Wants.spec ha.slots hg)]
  unfold Oper.wp
  obtain ⟨v, h1, h2⟩ := hr _ w a.eval ha.good.hd ha.slots.ops
  rw [h2 w (fun _ _ _ => rfl)]
  show K' (a.put o.dst v) w
  rw [hd]
  exact hK _ _ (next _ _ (ha.put hn h1))

theorem RW.v (hg : Wants E o ops = some true) (hd : o.dst = some d) (hn : Nat.blt d n = true) (hr : Yv P E σ o C X N) (next : ∀ av σ', N av σ' → RW P C n ops K rest ((d, av) :: E) σ') : RW P C n ops K (o :: rest) E σ := by
  intro a w ha
  refine wpList_step fun K' hK => ?_
  rw [if_pos (Wants.spec ha.slots hg)]
  unfold Oper.wp
  obtain ⟨v, w', av, σ', h1, h2, h3, h4⟩ := hr w a.eval ha.good ha.slots.ops
  rw [h3]
  show K' (a.put o.dst v) w'
  rw [hd]
  exact hK _ _ (next _ _ h1 _ _ ((ha.tr h2).put hn h4))

theorem RW.u (hg : Wants E o ops = some true) (hd : o.dst = none) (hr : Yu P E σ o C X σ') (next : RW P C n ops K rest E σ') : RW P C n ops K (o :: rest) E σ := by
  intro a w ha
  refine wpList_step fun K' hK => ?_
  rw [if_pos (Wants.spec ha.slots hg)]
  unfold Oper.wp
  obtain ⟨w', h2, h3⟩ := hr w a.eval ha.good ha.slots.ops
  rw [h3]
  show K' (a.put o.dst undef) w'
  rw [hd]
  exact hK _ _ (next _ _ (ha.tr h2))

theorem RW.skip (hg : Wants E o ops = some false) (hd : o.dst = some d) (hn : Nat.blt d n = true) (next : RW P C n ops K rest ((d, .lit undef) :: E) σ) : RW P C n ops K (o :: rest) E σ := by
  intro a w ha
  refine wpList_step fun K' hK => ?_
  rw [if_neg (by rw [Wants.spec ha.slots hg]; exact Bool.false_ne_true), hd]
  exact hK _ _ (next _ _ (ha.put hn (.lit _)))

theorem RW.skip' (hg : Wants E o ops = some false) (hd : o.dst = none) (next : RW P C n ops K rest E σ) : RW P C n ops K (o :: rest) E σ := by
  intro a w ha
  refine wpList_step fun K' hK => ?_
  rw [if_neg (by rw [Wants.spec ha.slots hg]; exact Bool.false_ne_true), hd]
  exact hK _ _ (next _ _ ha)

theorem RW.c (hg : Wants E o ops = some true) (hd : o.dst = some d) (hn : Nat.blt d n = true) (hr : Yc P E σ o C X N) (next : ∀ av σ', N av σ' → RW P C n ops K rest ((d, av) :: E) σ') : RW P C n ops K (o :: rest) E σ := by
  intro a w ha
  refine wpList_step fun K' hK => ?_
  rw [if_pos (Wants.spec ha.slots hg)]
  unfold Oper.wp
  obtain ⟨f, args, h1, h2⟩ := hr w a.eval ha.good ha.slots.ops
  rw [h1]
  refine Calls.mono h2 fun e w' he => ?_
  obtain ⟨v, av, σ', rfl, h3, h4, h5⟩ := he
  show K' (a.put o.dst v) w'
  rw [hd]
  exact hK _ _ (next _ _ h3 _ _ ((ha.tr h4).put hn h5))

theorem RW.c' (hg : Wants E o ops = some true) (hd : o.dst = none) (hr : Yc P E σ o C X N) (next : ∀ av σ', N av σ' → RW P C n ops K rest E σ') : RW P C n ops K (o :: rest) E σ := by
  intro a w ha
  refine wpList_step fun K' hK => ?_
  rw [if_pos (Wants.spec ha.slots hg)]
  unfold Oper.wp
  obtain ⟨f, args, h1, h2⟩ := hr w a.eval ha.good ha.slots.ops
  rw [h1]
  refine Calls.mono h2 fun e w' he => ?_
  obtain ⟨v, av, σ', rfl, h3, h4, h5⟩ := he
  show K' (a.put o.dst v) w'
  rw [hd]
  exact hK _ _ (next _ _ h3 _ _ (ha.tr h4))
end

/-! ### Regions that draw their order -/

/-- What stands at the beginning of a region: world w1, data in A1, resources σS that the region does not write. -/
structure Bs (X : List Nat) (A1 : Nat → Prop) (w1 : World) (σS : List Res) : Prop where
  hd : Hd A1 σS w1
  nA : ∀ b, A1 b → b ∉ X
  nS : ∀ b ∈ blks σS, b ∉ X

def S1 (X : List Nat) (w1 w : World) : Prop := w1.heap.size ≤ w.heap.size ∧ ∀ b, b < w1.heap.size → b ∉ X → w.heap[b]? = w1.heap[b]?

def RH (P : Program) (C : Cx) (n : Nat) (ops : Array Oper) (X : List Nat) (A1 : Nat → Prop) (w1 : World) (K : Env → List Res → Prop) (fuel : Nat) (listed : Array Bool) (Eb E : Env) (σ : List Res) : Prop :=
  ∀ a w, Sim C n E σ a w → Slots A1 w1 Eb a.tmps → S1 X w1 w → (∀ b, b < w1.heap.size → A1 b → al C σ b) → wpAnyH P .any ops (Q0 C n K) (S1 X w1) fuel listed a w

/-- Operation number i is carried out. -/
def RO (P : Program) (C : Cx) (n : Nat) (ops : Array Oper) (X : List Nat) (A1 : Nat → Prop) (w1 : World) (K : Env → List Res → Prop) (fuel : Nat) (listed : Array Bool) (i : Nat) (Eb E : Env) (σ : List Res) : Prop :=
  ∀ a w, Sim C n E σ a w → Slots A1 w1 Eb a.tmps → S1 X w1 w → (∀ b, b < w1.heap.size → A1 b → al C σ b) →
    wpOp P ops (Q0 C n K) i (fun a' w' => S1 X w1 w' ∧ wpAnyH P .any ops (Q0 C n K) (S1 X w1) fuel (listed.setIfInBounds i true) a' w') a w

section
variable {P : Program} {C : Cx} {n : Nat} {ops : Array Oper} {X X' : List Nat} {A1 : Nat → Prop} {w1 : World} {σS : List Res} {K : Env → List Res → Prop} {fuel : Nat} {listed : Array Bool} {i : Nat} {Eb E : Env} {σ σ' : List Res} {o : Oper} {av : AV} {d : Nat} {N : AV → List Res → Prop}

theorem RH.done (hr : Region.ready .any ops listed = []) (h : K E σ) : RH P C n ops X A1 w1 K fuel listed Eb E σ := fun _ _ ha _ _ _ => wpAnyH_done hr ⟨rfl, E, σ, ha, h⟩ _

theorem RH.take (i : Nat) (hi : ops[i]? = some o) (hf : (Region.noSelect ops && Region.free .any ops listed i && (Region.ready .any ops listed).contains i) = true)
    (hg : Wants E o ops = some true) (hd : o.dst = some d) (hn : Nat.blt d n = true) (hB : Bs X A1 w1 σS) (hy : Yp P Eb σS o av)
    (next : RH P C n ops X A1 w1 K fuel (listed.setIfInBounds i true) ((d, av) :: Eb) ((d, av) :: E) σ) : RH P C n ops X A1 w1 K (fuel + 1) listed Eb E σ := by
  intro a w ha hb hS hA
  simp only [Bool.and_eq_true] at hf
  obtain ⟨⟨h1, h2⟩, h3⟩ := hf
  obtain ⟨v, h4, h5⟩ := hy A1 w1 a.eval hB.hd hb.ops
  refine wpAnyH_take hi h1 h2 h3 (fun c a w h => by cases h.1) (.inl ⟨Wants.spec ha.slots hg, fun w' hw' => h5 w' (fun b hb hc => hw'.2 b hb (hc.elim (hB.nA b) (hB.nS b)))⟩) hS ?_
  rw [hd]
  have hlt : d < a.tmps.size := by rw [ha.size]; simpa [Nat.blt_eq] using hn
  exact next _ _ (ha.put hn (h4.mono fun b hb hc => ⟨hA b hb hc, hS.2 b hb (hB.nA b hc)⟩)) (hb.put hlt h4) hS hA

theorem RH.pass (i : Nat) (hi : ops[i]? = some o) (hf : (Region.noSelect ops && Region.free .any ops listed i && (Region.ready .any ops listed).contains i) = true)
    (hg : Wants E o ops = some false) (hd : o.dst = some d) (hn : Nat.blt d n = true)
    (next : RH P C n ops X A1 w1 K fuel (listed.setIfInBounds i true) ((d, .lit undef) :: Eb) ((d, .lit undef) :: E) σ) : RH P C n ops X A1 w1 K (fuel + 1) listed Eb E σ := by
  intro a w ha hb hS hA
  simp only [Bool.and_eq_true] at hf
  obtain ⟨⟨h1, h2⟩, h3⟩ := hf
  refine wpAnyH_take hi h1 h2 h3 (fun c a w h => by cases h.1) (.inr ⟨Wants.spec ha.slots hg, rfl⟩) hS ?_
  rw [hd]
  have hlt : d < a.tmps.size := by rw [ha.size]; simpa [Nat.blt_eq] using hn
  exact next _ _ (ha.put hn (.lit _)) (hb.put hlt (.lit _)) hS hA

theorem RH.one (i : Nat) (hr : Region.ready .any ops listed = [i]) (h : RO P C n ops X A1 w1 K fuel listed i Eb E σ) : RH P C n ops X A1 w1 K (fuel + 1) listed Eb E σ := fun a w ha hb hS hA =>
  wpAnyH_all hr (by simp) fun j hj => by
    rw [List.mem_singleton] at hj
    subst hj
    exact h a w ha hb hS hA

theorem RH.two (i j : Nat) (hr : Region.ready .any ops listed = [i, j]) (h : RO P C n ops X A1 w1 K fuel listed i Eb E σ) (h' : RO P C n ops X A1 w1 K fuel listed j Eb E σ) : RH P C n ops X A1 w1 K (fuel + 1) listed Eb E σ := fun a w ha hb hS hA =>
  wpAnyH_all hr (by simp) fun k hk => by
    rcases List.mem_cons.1 hk with rfl | hk
    · exact h a w ha hb hS hA
    · rw [List.mem_singleton] at hk
      subst hk
      exact h' a w ha hb hS hA

theorem RH.three (i j k : Nat) (hr : Region.ready .any ops listed = [i, j, k]) (h : RO P C n ops X A1 w1 K fuel listed i Eb E σ) (h' : RO P C n ops X A1 w1 K fuel listed j Eb E σ) (h'' : RO P C n ops X A1 w1 K fuel listed k Eb E σ) : RH P C n ops X A1 w1 K (fuel + 1) listed Eb E σ := fun a w ha hb hS hA =>
  wpAnyH_all hr (by simp) fun l hl => by
    rcases List.mem_cons.1 hl with rfl | hl
    · exact h a w ha hb hS hA
    · rcases List.mem_cons.1 hl with rfl | hl
      · exact h' a w ha hb hS hA
      · rw [List.mem_singleton] at hl
        subst hl
        exact h'' a w ha hb hS hA

theorem S1.step {w w' : World} (h : S1 X w1 w) (hk : Kp X' w w') (hX : ∀ b ∈ X', b ∈ X) : S1 X w1 w' :=
  ⟨Nat.le_trans h.1 hk.size, fun b hb hn => (hk.block b (Nat.lt_of_lt_of_le hb h.1) (fun hx => hn (hX b hx))).trans (h.2 b hb hn)⟩

theorem RO.p (hi : ops[i]? = some o) (hg : Wants E o ops = some true) (hd : o.dst = some d) (hn : Nat.blt d n = true) (he : Env.get Eb d = none) (hr : Yp P E σ o av)
    (next : RH P C n ops X A1 w1 K fuel (listed.setIfInBounds i true) Eb ((d, av) :: E) σ) : RO P C n ops X A1 w1 K fuel listed i Eb E σ := by
  intro a w ha hb hS hA
  unfold wpOp
  rw [hi]
  show if Region.wanted o (yielded ops a.tmps) = true then _ else _
  rw [if_pos (Wants.spec ha.slots hg)]
  refine .inl ?_
  unfold Oper.wp
  obtain ⟨v, h1, h2⟩ := hr _ w a.eval ha.good.hd ha.slots.ops
  rw [h2 w (fun _ _ _ => rfl)]
  show S1 X w1 w ∧ wpAnyH P .any ops (Q0 C n K) (S1 X w1) fuel (listed.setIfInBounds i true) (a.put o.dst v) w
  rw [hd]
  exact ⟨hS, next _ _ (ha.put hn h1) (hb.past he v) hS hA⟩

theorem RO.v (hi : ops[i]? = some o) (hg : Wants E o ops = some true) (hd : o.dst = some d) (hn : Nat.blt d n = true) (he : Env.get Eb d = none) (hr : Yv P E σ o C X' N) (hX : ∀ b ∈ X', b ∈ X)
    (next : ∀ av σ', N av σ' → RH P C n ops X A1 w1 K fuel (listed.setIfInBounds i true) Eb ((d, av) :: E) σ') : RO P C n ops X A1 w1 K fuel listed i Eb E σ := by
  intro a w ha hb hS hA
  unfold wpOp
  rw [hi]
  show if Region.wanted o (yielded ops a.tmps) = true then _ else _
  rw [if_pos (Wants.spec ha.slots hg)]
  refine .inl ?_
  unfold Oper.wp
  obtain ⟨v, w', av, σ', h1, h2, h3, h4⟩ := hr w a.eval ha.good ha.slots.ops
  rw [h3]
  show S1 X w1 w' ∧ wpAnyH P .any ops (Q0 C n K) (S1 X w1) fuel (listed.setIfInBounds i true) (a.put o.dst v) w'
  rw [hd]
  have hS' := hS.step h2.kp hX
  exact ⟨hS', next _ _ h1 _ _ ((ha.tr h2).put hn h4) (hb.past he v) hS' (fun b hb hc => (h2.al b (Nat.lt_of_lt_of_le hb hS.1) (hA b hb hc)).1)⟩

theorem RO.u (hi : ops[i]? = some o) (hg : Wants E o ops = some true) (hd : o.dst = none) (hr : Yu P E σ o C X' σ') (hX : ∀ b ∈ X', b ∈ X)
    (next : RH P C n ops X A1 w1 K fuel (listed.setIfInBounds i true) Eb E σ') : RO P C n ops X A1 w1 K fuel listed i Eb E σ := by
  intro a w ha hb hS hA
  unfold wpOp
  rw [hi]
  show if Region.wanted o (yielded ops a.tmps) = true then _ else _
  rw [if_pos (Wants.spec ha.slots hg)]
  refine .inl ?_
  unfold Oper.wp
  obtain ⟨w', h2, h3⟩ := hr w a.eval ha.good ha.slots.ops
  rw [h3]
  show S1 X w1 w' ∧ wpAnyH P .any ops (Q0 C n K) (S1 X w1) fuel (listed.setIfInBounds i true) (a.put o.dst undef) w'
  rw [hd]
  have hS' := hS.step h2.kp hX
  exact ⟨hS', next _ _ (ha.tr h2) hb hS' (fun b hb hc => (h2.al b (Nat.lt_of_lt_of_le hb hS.1) (hA b hb hc)).1)⟩

theorem RO.skip (hi : ops[i]? = some o) (hg : Wants E o ops = some false) (hd : o.dst = some d) (hn : Nat.blt d n = true) (he : Env.get Eb d = none)
    (next : RH P C n ops X A1 w1 K fuel (listed.setIfInBounds i true) Eb ((d, .lit undef) :: E) σ) : RO P C n ops X A1 w1 K fuel listed i Eb E σ := by
  intro a w ha hb hS hA
  unfold wpOp
  rw [hi]
  show if Region.wanted o (yielded ops a.tmps) = true then _ else _
  rw [if_neg (by rw [Wants.spec ha.slots hg]; exact Bool.false_ne_true), hd]
  exact ⟨hS, next _ _ (ha.put hn (.lit _)) (hb.past he _) hS hA⟩

theorem RO.skip' (hi : ops[i]? = some o) (hg : Wants E o ops = some false) (hd : o.dst = none)
    (next : RH P C n ops X A1 w1 K fuel (listed.setIfInBounds i true) Eb E σ) : RO P C n ops X A1 w1 K fuel listed i Eb E σ := by
  intro a w ha hb hS hA
  unfold wpOp
  rw [hi]
  show if Region.wanted o (yielded ops a.tmps) = true then _ else _
  rw [if_neg (by rw [Wants.spec ha.slots hg]; exact Bool.false_ne_true), hd]
  exact ⟨hS, next _ _ ha hb hS hA⟩

theorem RO.c (hi : ops[i]? = some o) (hg : Wants E o ops = some true) (hd : o.dst = some d) (hn : Nat.blt d n = true) (he : Env.get Eb d = none) (hr : Yc P E σ o C X' N) (hX : ∀ b ∈ X', b ∈ X)
    (next : ∀ av σ', N av σ' → RH P C n ops X A1 w1 K fuel (listed.setIfInBounds i true) Eb ((d, av) :: E) σ') : RO P C n ops X A1 w1 K fuel listed i Eb E σ := by
  intro a w ha hb hS hA
  unfold wpOp
  rw [hi]
  show if Region.wanted o (yielded ops a.tmps) = true then _ else _
  rw [if_pos (Wants.spec ha.slots hg)]
  refine .inl ?_
  unfold Oper.wp
  obtain ⟨f, args, h1, h2⟩ := hr w a.eval ha.good ha.slots.ops
  rw [h1]
  refine Calls.mono h2 fun e w' hr => ?_
  obtain ⟨v, av, σ', rfl, h3, h4, h5⟩ := hr
  show S1 X w1 w' ∧ wpAnyH P .any ops (Q0 C n K) (S1 X w1) fuel (listed.setIfInBounds i true) (a.put o.dst v) w'
  rw [hd]
  have hS' := hS.step h4.kp hX
  exact ⟨hS', next _ _ h3 _ _ ((ha.tr h4).put hn h5) (hb.past he v) hS' (fun b hb hc => (h4.al b (Nat.lt_of_lt_of_le hb hS.1) (hA b hb hc)).1)⟩

theorem RO.c' (hi : ops[i]? = some o) (hg : Wants E o ops = some true) (hd : o.dst = none) (hr : Yc P E σ o C X' N) (hX : ∀ b ∈ X', b ∈ X)
    (next : ∀ av σ', N av σ' → RH P C n ops X A1 w1 K fuel (listed.setIfInBounds i true) Eb E σ') : RO P C n ops X A1 w1 K fuel listed i Eb E σ := by
  intro a w ha hb hS hA
  unfold wpOp
  rw [hi]
  show if Region.wanted o (yielded ops a.tmps) = true then _ else _
  rw [if_pos (Wants.spec ha.slots hg)]
  refine .inl ?_
  unfold Oper.wp
  obtain ⟨f, args, h1, h2⟩ := hr w a.eval ha.good ha.slots.ops
  rw [h1]
  refine Calls.mono h2 fun e w' hr => ?_
  obtain ⟨v, av, σ', rfl, h3, h4, h5⟩ := hr
  show S1 X w1 w' ∧ wpAnyH P .any ops (Q0 C n K) (S1 X w1) fuel (listed.setIfInBounds i true) (a.put o.dst v) w'
  rw [hd]
  have hS' := hS.step h4.kp hX
  exact ⟨hS', next _ _ h3 _ _ (ha.tr h4) hb hS' (fun b hb hc => (h4.al b (Nat.lt_of_lt_of_le hb hS.1) (hA b hb hc)).1)⟩
end

/-! ### Code -/

def CW (P : Program) (C : Cx) (n : Nat) (c : Code) (Q : Exit → Env → List Res → Prop) (E : Env) (σ : List Res) : Prop :=
  ∀ a w, Sim C n E σ a w → c.wp P (fun e a' w' => ∃ E' σ', Sim C n E' σ' a' w' ∧ Q e E' σ') a w

def SeqQ (P : Program) (C : Cx) (n : Nat) (y : Code) (Q : Exit → Env → List Res → Prop) : Exit → Env → List Res → Prop
  | .normal, E, σ => CW P C n y Q E σ
  | e, E, σ => Q e E σ

def CutQ (K : Env → List Res → Prop) (Q : Exit → Env → List Res → Prop) : Exit → Env → List Res → Prop
  | .normal, E, σ => K E σ
  | e, E, σ => Q e E σ

def BlockQ (id : Nat) (Q : Exit → Env → List Res → Prop) : Exit → Env → List Res → Prop
  | .exit id', E, σ => match Nat.beq id' id with
    | true => Q .normal E σ
    | false => Q (.exit id') E σ
  | e, E, σ => Q e E σ

def LoopQ {α : Type 1} (R : α → Nat → Env → List Res → Prop) (k : Nat) (Q : Exit → Env → List Res → Prop) : Exit → Env → List Res → Prop
  | .normal, E, σ => ∃ x k', k' < k ∧ R x k' E σ
  | e, E, σ => Q e E σ

section
variable {P : Program} {C : Cx} {n : Nat} {c x y : Code} {Q Q' : Exit → Env → List Res → Prop} {E E' : Env} {σ σ' : List Res}

theorem CW.weak (h : CW P C n c Q E σ) (hs : Sub E E') : CW P C n c Q E' σ := fun a w ha => h a w (ha.sub hs)

theorem CW.mono (h : CW P C n c Q E σ) (hq : ∀ e E σ, Q e E σ → Q' e E σ) : CW P C n c Q' E σ := fun a w ha =>
  wp_mono (h a w ha) fun _ _ _ ⟨E', σ', h1, h2⟩ => ⟨E', σ', h1, hq _ _ _ h2⟩

theorem CW.seq (h : CW P C n x (SeqQ P C n y Q) E σ) : CW P C n (.seq x y) Q E σ := fun a w ha => by
  refine wp_seq (wp_mono (h a w ha) fun e a' w' ⟨E', σ', h1, h2⟩ => ?_)
  cases e with
  | normal => exact h2 a' w' h1
  | _ => exact ⟨E', σ', h1, h2⟩

/-- What stands behind is shown once, of all that K says. -/
theorem CW.cut (K : Env → List Res → Prop) (first : CW P C n c (CutQ K Q) E σ) (rest : ∀ E σ, K E σ → Q .normal E σ) : CW P C n c Q E σ :=
  CW.mono first fun e E σ h => by cases e <;> first | exact rest E σ h | exact h

theorem CW.block {id : Nat} (h : CW P C n c (BlockQ id Q) E σ) : CW P C n (.block id c) Q E σ := fun a w ha => by
  refine wp_block (wp_mono (h a w ha) fun e a' w' ⟨E', σ', h1, h2⟩ => ?_)
  cases e with
  | exit id' =>
    simp only [BlockQ] at h2
    simp only [Exit.inBlock]
    split
    · rename_i he
      subst he
      have hb : Nat.beq id' id' = true := Nat.beq_refl _
      simp only [hb] at h2
      exact ⟨E', σ', h1, h2⟩
    · rename_i he
      have hb : Nat.beq id' id = false := by
        cases hb : Nat.beq id' id with
        | false => rfl
        | true => exact absurd (Nat.eq_of_beq_eq_true hb) he
      simp only [hb] at h2
      exact ⟨E', σ', h1, h2⟩
  | _ => exact ⟨E', σ', h1, h2⟩

theorem CW.exit {id : Nat} (h : Q (.exit id) E σ) : CW P C n (.exit id) Q E σ := fun _ _ ha => wp_exit ⟨E, σ, ha, h⟩
theorem CW.ret (h : Q .ret E σ) : CW P C n .ret Q E σ := fun _ _ ha => wp_ret ⟨E, σ, ha, h⟩
theorem CW.skip (h : Q .normal E σ) : CW P C n .skip Q E σ := fun _ _ ha => wp_skip ⟨E, σ, ha, h⟩

theorem ev_bool {a : Act} {w : World} {cnd : Operand} {b : Bool} (ha : Sim C n E σ a w) (hc : E.ev cnd = some (.lit (.bool b))) : a.eval cnd = .bool b := by
  exact (ha.slots.ops _ _ hc).litEq

theorem CW.cond {cnd : Operand} {b : Bool} (hc : E.ev cnd = some (.lit (.bool b))) (ht : b = true → CW P C n x Q E σ) (hf : b = false → CW P C n y Q E σ) : CW P C n (.cond cnd x y) Q E σ := fun a w ha => by
  have he := ev_bool ha hc
  cases b with
  | true => exact wp_cond_true he (ht rfl a w ha)
  | false => exact wp_cond_false he (hf rfl a w ha)
theorem CW.condT {cnd : Operand} (hc : E.ev cnd = some (.lit (.bool true))) (ht : CW P C n x Q E σ) : CW P C n (.cond cnd x y) Q E σ := fun a w ha => wp_cond_true (ev_bool ha hc) (ht a w ha)
theorem CW.condF {cnd : Operand} (hc : E.ev cnd = some (.lit (.bool false))) (ht : CW P C n y Q E σ) : CW P C n (.cond cnd x y) Q E σ := fun a w ha => wp_cond_false (ev_bool ha hc) (ht a w ha)

/-- R x k E σ: the loop begins a round with k to go. -/
theorem CW.loop {α : Type 1} (R : α → Nat → Env → List Res → Prop) (x0 : α) (k0 : Nat) (h0 : R x0 k0 E σ)
    (h : ∀ x k E σ, R x k E σ → CW P C n c (LoopQ R k Q) E σ) : CW P C n (.loop c) Q E σ := fun a w ha => by
  intro b kk cs
  have key : ∀ k a w, (∃ x E σ, R x k E σ ∧ Sim C n E σ a w) →
      ∃ e a' w', (∃ E' σ', Sim C n E' σ' a' w' ∧ Q e E' σ') ∧ Arrives P (lone (b.at a (.code c :: .inLoop c :: kk)) cs w) b kk cs e a' w' := by
    intro k
    induction k using Nat.strongRecOn with
    | _ k ih =>
      intro a w ⟨x, E, σ, hR, hE⟩
      obtain ⟨e, a₁, w₁, ⟨E', σ', hE', hq⟩, harr⟩ := h x k E σ hR a w hE b (.inLoop c :: kk) cs
      cases e with
      | normal =>
        obtain ⟨x', k', hlt, hR'⟩ := hq
        obtain ⟨e₂, a₂, w₂, hq₂, harr₂⟩ := ih k' hlt a₁ w₁ ⟨x', E', σ', hR', hE'⟩
        exact ⟨e₂, a₂, w₂, hq₂, .of_steps (Steps.trans harr (.one step_inLoop)) harr₂⟩
      | exit id => exact ⟨_, a₁, w₁, ⟨E', σ', hE', hq⟩, .pass (x := .inLoop c) rfl (fun _ _ => .inl (by simp)) harr⟩
      | goto l => exact ⟨_, a₁, w₁, ⟨E', σ', hE', hq⟩, .pass (x := .inLoop c) rfl (fun _ _ => .inl (by simp)) harr⟩
      | ret => exact ⟨_, a₁, w₁, ⟨E', σ', hE', hq⟩, .pass (x := .inLoop c) rfl (fun _ _ => .inl (by simp)) harr⟩
      | panic ch => exact ⟨_, a₁, w₁, ⟨E', σ', hE', hq⟩, .pass (x := .inLoop c) rfl (fun _ _ => .inl (by simp)) harr⟩
      | outgrown => exact ⟨_, a₁, w₁, ⟨E', σ', hE', hq⟩, .pass (x := .inLoop c) rfl (fun _ _ => .inl (by simp)) harr⟩
  obtain ⟨e, a', w', hq, harr⟩ := key k0 a w ⟨x0, E, σ, h0, ha⟩
  exact ⟨e, a', w', hq, .of_steps (.one step_loop) harr⟩

theorem CW.region {id : Nat} {l : List Oper} (h : RW P C n l.toArray (fun E' σ' => Q .normal E' σ') l E σ) : CW P C n (.region id l.toArray false) Q E σ := fun a w ha => by
  refine wp_mono (wp_region_lit (h a w ha)) fun e a' w' ⟨he, _, E', σ', h1, h2⟩ => ?_
  subst he
  exact ⟨E', σ', h1, h2⟩

theorem Good.drew {w : World} (h : Good C σ w) : Good C σ w.drew :=
  ⟨h.kept.trans (Kp.drew w) (by simp), fun r hr => (h.res r hr).mono (fun b _ hA => ⟨hA, rfl⟩) (fun _ _ => rfl), h.dis, h.own⟩

theorem Sim.drew {a : Act} {w : World} (h : Sim C n E σ a w) : Sim C n E σ a w.drew :=
  ⟨h.defers, h.size, fun i u hi => let ⟨v, h1, h2⟩ := h.slots i u hi; ⟨v, h1, h2.mono fun _ _ hA => ⟨hA, rfl⟩⟩, h.good.drew⟩

/-- X: the blocks that the region writes; σS: resources whose blocks are none of those. -/
theorem CW.draw {id : Nat} {l : List Oper} (N : Nat) (hN : l.toArray.size = N) (X : List Nat) (σS : List Res) (hX : ∀ b ∈ X, b ∈ blks σ) (hS : ∀ r ∈ σS, r ∈ σ) (hd : (blks σ).Nodup → ∀ b ∈ blks σS, b ∉ X) (hm : P.follows .mixedOrders = true)
    (h : ∀ A1 w1, Bs X A1 w1 σS → RH P C n l.toArray X A1 w1 (fun E' σ' => Q .normal E' σ') N (Array.replicate N false) E E σ) : CW P C n (.region id l.toArray true) Q E σ := fun a w ha => by
  subst hN
  have hb : Bs X (al C σ) w.drew σS := ⟨⟨fun r hr => ha.drew.good.res r (hS r hr), fun b hb hA => hA.2 (by
      obtain ⟨r, h1, h2⟩ := mem_blks.1 hb
      exact mem_blks.2 ⟨r, hS r h1, h2⟩)⟩, fun b hA hx => hA.2 (hX b hx), hd ha.good.dis⟩
  refine wp_mono (wp_region_held (S := S1 X w.drew) hm (h _ _ hb a w.drew ha.drew ha.drew.slots ⟨Nat.le_refl _, fun _ _ _ => rfl⟩ (fun b _ h => h))) fun e a' w' ⟨he, E', σ', h1, h2⟩ => ?_
  subst he
  exact ⟨E', σ', h1, h2⟩

/-! ### What is known, said otherwise -/

theorem blks_sub {σ σ' : List Res} (h : ∀ r ∈ σ', r ∈ σ) : ∀ b ∈ blks σ', b ∈ blks σ := fun b hb => by
  obtain ⟨r, h1, h2⟩ := mem_blks.1 hb
  exact mem_blks.2 ⟨r, h r h1, h2⟩

theorem Sim.less {a : Act} {w : World} (h : Sim C n E σ a w) (hs : List.Sublist σ' σ) : Sim C n E σ' a w := by
  have hm : ∀ r ∈ σ', r ∈ σ := fun r hr => hs.subset hr
  have hal : ∀ b, al C σ b → al C σ' b := fun b hb => ⟨hb.1, fun hx => hb.2 (blks_sub hm b hx)⟩
  exact ⟨h.defers.step (fun b _ hA => ⟨hal b hA, rfl⟩), h.size, fun i u hi => let ⟨v, h1, h2⟩ := h.slots i u hi; ⟨v, h1, h2.mono fun b _ hA => ⟨hal b hA, rfl⟩⟩,
    ⟨h.good.kept, fun r hr => (h.good.res r (hm r hr)).mono (fun b _ hA => ⟨hal b hA, rfl⟩) (fun _ _ => rfl), h.good.dis.sublist (hs.filterMap _), fun b hb => h.good.own b (blks_sub hm b hb)⟩⟩

theorem Sim.perm {a : Act} {w : World} (h : Sim C n E σ a w) (hp : List.Perm σ σ') : Sim C n E σ' a w := by
  have hb : ∀ b, b ∈ blks σ' ↔ b ∈ blks σ := fun b => (hp.filterMap _).symm.mem_iff
  have hal : ∀ b, al C σ b → al C σ' b := fun b hA => ⟨hA.1, fun hx => hA.2 ((hb b).1 hx)⟩
  exact ⟨h.defers.step (fun b _ hA => ⟨hal b hA, rfl⟩), h.size, fun i u hi => let ⟨v, h1, h2⟩ := h.slots i u hi; ⟨v, h1, h2.mono fun b _ hA => ⟨hal b hA, rfl⟩⟩,
    ⟨h.good.kept, fun r hr => (h.good.res r (hp.mem_iff.2 hr)).mono (fun b _ hA => ⟨hal b hA, rfl⟩) (fun _ _ => rfl), (hp.filterMap _).nodup_iff.1 h.good.dis, fun b hx => h.good.own b ((hb b).1 hx)⟩⟩

theorem CW.less (hs : List.Sublist σ' σ) (h : CW P C n c Q E σ') : CW P C n c Q E σ := fun a w ha => h a w (ha.less hs)
theorem CW.perm (hs : List.Perm σ σ') (h : CW P C n c Q E σ') : CW P C n c Q E σ := fun a w ha => h a w (ha.perm hs)
end
end Go.Ab
end
section
set_option linter.unusedSectionVars false
set_option linter.unusedVariables false
set_option linter.unusedSimpArgs false
namespace Go.Ab
open Go Go.RowKit

/-- integers wrapped to 64 bits -/
def w64 (n : Int) : Int := IntKind.i64.wrap n
theorem w64_eq {n : Int} (h : -9223372036854775808 ≤ n ∧ n ≤ 9223372036854775807) : w64 n = n := IntWalk.i64_in n h
def bAnd (k : IntKind) (x y : Int) : Int := k.wrap ((BitVec.ofInt k.bits x &&& BitVec.ofInt k.bits y).toNat)
def bOr (k : IntKind) (x y : Int) : Int := k.wrap ((BitVec.ofInt k.bits x ||| BitVec.ofInt k.bits y).toNat)
def bXor (k : IntKind) (x y : Int) : Int := k.wrap ((BitVec.ofInt k.bits x ^^^ BitVec.ofInt k.bits y).toNat)
def bClr (k : IntKind) (x y : Int) : Int := k.wrap ((BitVec.ofInt k.bits x &&& ~~~ BitVec.ofInt k.bits y).toNat)
def bShl (k : IntKind) (x y : Int) : Int := k.wrap (x * 2 ^ (min y.toNat k.bits))
def bShr (k : IntKind) (x y : Int) : Int := x.fdiv (2 ^ (min y.toNat k.bits))

abbrev AV.i (n : Int) : AV := .lit (.int .i64 n)
abbrev AV.n (k : IntKind) (n : Int) : AV := .lit (.int k n)
abbrev AV.b (b : Bool) : AV := .lit (.bool b)
abbrev AV.s (s : ByteArray) : AV := .lit (.string s)

section
variable {A : Nat → Prop} {w : World} {as0 bs : List AV} {us vs : List Value} {a : AV} {v : Value}
theorem RelL.nil : RelL A w [] [] := ⟨rfl, fun j a v h => by cases h⟩
theorem RelL.cons (h : Rel A w a v) (hs : RelL A w as0 us) : RelL A w (a :: as0) (v :: us) := by
  refine ⟨by simp [hs.1], fun j x y h1 h2 => ?_⟩
  cases j with
  | zero => simp at h1 h2; subst h1 h2; exact h
  | succ j => exact hs.2 j x y (by simpa using h1) (by simpa using h2)
theorem RelL.head (h : RelL A w (a :: as0) us) : ∃ v us', us = v :: us' ∧ Rel A w a v ∧ RelL A w as0 us' := by
  match us, h with
  | [], h => exact absurd h.1 (by simp)
  | v :: us', h => exact ⟨v, us', rfl, h.2 0 a v rfl rfl, by simpa using h.1, fun j x y h1 h2 => h.2 (j + 1) x y (by simpa using h1) (by simpa using h2)⟩
theorem RelL.app (h : RelL A w as0 us) (h' : RelL A w bs vs) : RelL A w (as0 ++ bs) (us ++ vs) := by
  refine ⟨by simp [h.1, h'.1], fun j x y h1 h2 => ?_⟩
  rw [List.getElem?_append] at h1 h2
  rw [h.1] at h2
  split at h1
  · rw [if_pos (by assumption)] at h2; exact h.2 j x y h1 h2
  · rw [if_neg (by assumption)] at h2; exact h'.2 _ x y h1 h2
theorem RelL.take (n : Nat) (h : RelL A w as0 us) : RelL A w (as0.take n) (us.take n) := by
  refine ⟨by simp [h.1], fun j x y h1 h2 => ?_⟩
  rw [List.getElem?_take] at h1 h2
  split at h1
  · rw [if_pos (by assumption)] at h2; exact h.2 j x y h1 h2
  · cases h1
theorem RelL.drop (n : Nat) (h : RelL A w as0 us) : RelL A w (as0.drop n) (us.drop n) := by
  refine ⟨by simp [h.1], fun j x y h1 h2 => ?_⟩
  rw [List.getElem?_drop] at h1 h2
  exact h.2 _ x y h1 h2
theorem RelL.get (h : RelL A w as0 us) {j : Nat} (hj : as0[j]? = some a) : ∃ v, us[j]? = some v ∧ Rel A w a v := by
  have hlt : j < us.length := by rw [h.1]; exact (List.getElem?_eq_some_iff.1 hj).1
  exact ⟨us[j], List.getElem?_eq_getElem hlt, h.2 j a _ hj (List.getElem?_eq_getElem hlt)⟩
theorem RelL.set {j : Nat} (h : RelL A w as0 us) (hr : Rel A w a v) : RelL A w (as0.set j a) (us.set j v) := by
  refine ⟨by simp [h.1], fun i x y h1 h2 => ?_⟩
  rw [List.getElem?_set] at h1 h2
  split at h1
  · rename_i hji
    rw [if_pos hji] at h2
    split at h1
    · rw [if_pos (by rw [h.1]; assumption)] at h2
      cases h1; cases h2
      exact hr
    · cases h1
  · rw [if_neg (by assumption)] at h2
    exact h.2 i x y h1 h2
theorem RelL.lits (us : List Value) : RelL A w (us.map .lit) us := ⟨by simp, fun j a v h1 h2 => by
  rw [List.getElem?_map, h2] at h1
  cases h1
  exact .lit v⟩
theorem Rel.aggL {cs : List AV} (h : RelL A w cs us) : Rel A w (.agg cs) (.agg us.toArray) := .agg cs us h.1 h.2
theorem Rel.tupL {cs : List AV} (h : RelL A w cs us) : Rel A w (.tup cs) (.tuple us.toArray) := .tup cs us h.1 h.2
end

section
variable {A : Nat → Prop} {w : World} {v : Value} {cs : List AV}
theorem Rel.aggInv (h : Rel A w (.agg cs) v) : ∃ us : List Value, v = .agg us.toArray ∧ RelL A w cs us := by
  generalize ha : AV.agg cs = a at h
  cases h with
  | agg cs us hl hr => cases ha; exact ⟨us, rfl, hl, hr⟩
  | _ => cases ha
theorem Rel.tupInv (h : Rel A w (.tup cs) v) : ∃ us : List Value, v = .tuple us.toArray ∧ RelL A w cs us := by
  generalize ha : AV.tup cs = a at h
  cases h with
  | tup cs us hl hr => cases ha; exact ⟨us, rfl, hl, hr⟩
  | _ => cases ha
theorem Rel.fnInv {f : Fn} (h : Rel A w (.fn f cs) v) : ∃ us : List Value, v = .func f #[] us.toArray ∧ RelL A w cs us := by
  generalize ha : AV.fn f cs = a at h
  cases h with
  | fn f cs us hl hr => cases ha; exact ⟨us, rfl, hl, hr⟩
  | _ => cases ha
theorem Rel.fpInv (h : Rel A w (.fp cs) v) : ∃ b o us, v = .pointer (some ⟨b, o, none⟩) ∧ b < w.heap.size ∧ A b ∧ (∀ (j : Nat) u, us[j]? = some u → w.cell? ⟨b, o + j, none⟩ = some u) ∧ RelL A w cs us := by
  generalize ha : AV.fp cs = a at h
  cases h with
  | fp cs b o us hb hA hl hc hr => cases ha; exact ⟨b, o, us, rfl, hb, hA, hc, hl, hr⟩
  | _ => cases ha
theorem Rel.rpInv {u : Value} {k : Nat} (h : Rel A w (.rp u k) v) : ∃ g, rblk u = some g ∧ v = .pointer (some ⟨g, k, none⟩) := by
  generalize ha : AV.rp u k = a at h
  cases h with
  | rp u k g h => cases ha; exact ⟨g, h, rfl⟩
  | _ => cases ha
theorem Rel.slInv {α : Type} [Inhabited α] {sz : Nat} {c : α → List AV} {l : List α} (h : Rel A w (.sl sz c l) v) : ∃ p cap, ∃ u : Nat → Nat → Value, v = .slice p l.length cap ∧ l.length ≤ 9223372036854775807 ∧ l.length ≤ cap ∧ (∀ i, i < l.length → (c l[i]!).length = sz) ∧
    (∀ i, i < l.length → ∃ b off, p = some ⟨b, off, none⟩ ∧ b < w.heap.size ∧ A b ∧ ∀ j, j < sz → w.cell? ⟨b, off + i * sz + j, none⟩ = some (u i j)) ∧ ∀ i j a, i < l.length → (c l[i]!)[j]? = some a → Rel A w a (u i j) := by
  generalize ha : AV.sl sz c l = a at h
  cases h with
  | sl sz c l p cap u hl hcap hz hc hr =>
    cases ha
    exact ⟨p, cap, u, rfl, hl, hcap, hz, hc, hr⟩
  | _ => cases ha
/-- the cells of an element -/
theorem Rel.slAt {α : Type} [Inhabited α] {sz : Nat} {c : α → List AV} {l : List α} {p : Option Addr} {n cap : Nat} (h : Rel A w (.sl sz c l) (.slice p n cap)) {i : Nat} (hi : i < l.length) :
    ∃ b off us, p = some ⟨b, off, none⟩ ∧ b < w.heap.size ∧ A b ∧ us.length = sz ∧ (∀ (j : Nat) u, us[j]? = some u → w.cell? ⟨b, off + i * sz + j, none⟩ = some u) ∧ RelL A w (c l[i]!) us := by
  obtain ⟨p', cap', u, hv, _, _, h1, h2, h3⟩ := h.slInv
  cases hv
  obtain ⟨b, off, hp, hb, hA, hc⟩ := h2 i hi
  refine ⟨b, off, (List.range sz).map (u i), hp, hb, hA, by simp, fun j v hj => ?_, by rw [List.length_map, List.length_range, h1 i hi], fun j a v ha hv => ?_⟩
  · rw [List.getElem?_map] at hj
    by_cases hlt : j < sz
    · rw [List.getElem?_range hlt] at hj
      cases hj
      exact hc j hlt
    · rw [List.getElem?_eq_none (by simpa using hlt)] at hj
      cases hj
  · have hlt : j < sz := by rw [← h1 i hi]; exact (List.getElem?_eq_some_iff.1 ha).1
    rw [List.getElem?_map, List.getElem?_range hlt] at hv
    cases hv
    exact h3 i j a hi ha
end

theorem RowIs.len {w : World} {v : Value} {T : TypeId} {sz n : Nat} {us : List Value} (h : RowIs w v T sz n us) : ∃ p cap, v = .slice p n cap ∧ n ≤ cap := by
  rcases h.2 with ⟨p, rfl, rfl⟩ | ⟨g, cap, cur, rfl, hg, h1, _⟩
  · exact ⟨p, 0, rfl, Nat.le_refl _⟩
  · exact ⟨_, _, rfl, h1⟩
theorem RowIs.at {w : World} {v : Value} {T : TypeId} {sz n : Nat} {us : List Value} (h : RowIs w v T sz n us) (hn : 0 < n) : ∃ g cap cur, v = .slice (some ⟨g, 0, none⟩) n (cap + 1) ∧ rblk v = some g ∧ Blk w g cur T ∧ n ≤ cap + 1 ∧ cap + 1 ≤ maxLen ∧ cur.size = (cap + 1) * sz ∧ cur.toList.take (n * sz) = us := by
  rcases h.2 with ⟨p, rfl, rfl⟩ | ⟨g, cap, cur, rfl, hg, h1⟩
  · cases hn
  · exact ⟨g, cap, cur, rfl, rfl, hg, h1⟩
theorem RowIs.cells {w : World} {v : Value} {T : TypeId} {sz n : Nat} {us : List Value} (h : RowIs w v T sz n us) {g : Nat} (hg : rblk v = some g) : ∀ (j : Nat) u, us[j]? = some u → w.cell? ⟨g, j, none⟩ = some u := fun j u hj => by
  rcases h.2 with ⟨p, rfl, rfl⟩ | ⟨g', cap, cur, rfl, q1, _, _, _, q2⟩
  · cases p <;> cases hg
  · cases hg
    rw [← q2, List.getElem?_take] at hj
    split at hj
    · exact Blk.cell q1 (by simpa using hj)
    · cases hj

def Env.evl (E : Env) : List Operand → Option (List AV)
  | [] => some []
  | x :: xs => match E.ev x, Env.evl E xs with
    | some a, some as0 => some (a :: as0)
    | _, _ => none
theorem Env.evl_rel {A : Nat → Prop} {w : World} {E : Env} {ρ : Operand → Value} (h : Ops A w E ρ) : ∀ {xs : List Operand} {as0 : List AV}, E.evl xs = some as0 → RelL A w as0 (xs.map ρ)
  | [], as0, he => by cases he; exact RelL.nil
  | x :: xs, as0, he => by
    unfold Env.evl at he
    cases h1 : E.ev x with
    | none => rw [h1] at he; cases he
    | some a =>
      cases h2 : E.evl xs with
      | none => rw [h1, h2] at he; cases he
      | some as' =>
        rw [h1, h2] at he
        cases he
        exact RelL.cons (h x a h1) (Env.evl_rel h h2)

section
variable {P : Program} {E : Env} {σ : List Res} {o : Oper} {T T' e : TypeId} {x y z : Operand} {av bv : AV} {v u : Value} {m n : Int} {b : Bool} {k : IntKind}

theorem Yp.lits (h : ∀ ρ : Operand → Value, (∀ x u, E.ev x = some (.lit u) → ρ x = u) → ∀ w, (execOp ρ o).run P w = .ok (.value v) w) : Yp P E σ o (.lit v) := fun A w ρ _ hρ =>
  ⟨v, .lit v, fun w' _ => h ρ (fun x u hx => (hρ x _ hx).litEq) w'⟩

theorem Yp.eq (h : Yp P E σ o av) (he : av = bv) : Yp P E σ o bv := he ▸ h

theorem Yp.move (ho : o.op = .move x) (hx : E.ev x = some av) : Yp P E σ o av := fun A w ρ _ hρ =>
  ⟨ρ x, hρ _ _ hx, fun w' _ => by simp [execOp, ho]⟩
theorem Yp.assign (ho : o.op = .assign x) (hx : E.ev x = some av) : Yp P E σ o av := fun A w ρ _ hρ =>
  ⟨ρ x, hρ _ _ hx, fun w' _ => by simp [execOp, ho]⟩
theorem Yp.pickT (ho : o.op = .pick z x y) (hc : E.ev z = some (.b true)) (hx : E.ev x = some av) : Yp P E σ o av := fun A w ρ _ hρ =>
  ⟨ρ x, hρ _ _ hx, fun w' _ => by simp [execOp, ho, (hρ _ _ hc).litEq, asBool]⟩
theorem Yp.pickF (ho : o.op = .pick z x y) (hc : E.ev z = some (.b false)) (hx : E.ev y = some av) : Yp P E σ o av := fun A w ρ _ hρ =>
  ⟨ρ y, hρ _ _ hx, fun w' _ => by simp [execOp, ho, (hρ _ _ hc).litEq, asBool]⟩

theorem Yp.add (ho : o.op = .binOp .add T x y T') (hx : E.ev x = some (.n k m)) (hy : E.ev y = some (.n k n)) : Yp P E σ o (.n k (k.wrap (m + n))) := Yp.lits fun ρ hρ w => by
  simp [execOp, ho, hρ _ _ hx, hρ _ _ hy, eqGuard, binOp, Op.intArith]
theorem Yp.sub (ho : o.op = .binOp .sub T x y T') (hx : E.ev x = some (.n k m)) (hy : E.ev y = some (.n k n)) : Yp P E σ o (.n k (k.wrap (m - n))) := Yp.lits fun ρ hρ w => by
  simp [execOp, ho, hρ _ _ hx, hρ _ _ hy, eqGuard, binOp, Op.intArith]
theorem Yp.mul (ho : o.op = .binOp .mul T x y T') (hx : E.ev x = some (.n k m)) (hy : E.ev y = some (.n k n)) : Yp P E σ o (.n k (k.wrap (m * n))) := Yp.lits fun ρ hρ w => by
  simp [execOp, ho, hρ _ _ hx, hρ _ _ hy, eqGuard, binOp, Op.intArith]
theorem Yp.quo (ho : o.op = .binOp .quo T x y T') (hx : E.ev x = some (.n k m)) (hy : E.ev y = some (.n k n)) (h : n ≠ 0) : Yp P E σ o (.n k (k.wrap (m.tdiv n))) := Yp.lits fun ρ hρ w => by
  simp [execOp, ho, hρ _ _ hx, hρ _ _ hy, eqGuard, binOp, Op.intDiv, h]
theorem Yp.rem (ho : o.op = .binOp .rem T x y T') (hx : E.ev x = some (.n k m)) (hy : E.ev y = some (.n k n)) (h : n ≠ 0) : Yp P E σ o (.n k (m.tmod n)) := Yp.lits fun ρ hρ w => by
  simp [execOp, ho, hρ _ _ hx, hρ _ _ hy, eqGuard, binOp, Op.intDiv, h]
theorem Yp.and (ho : o.op = .binOp .and T x y T') (hx : E.ev x = some (.n k m)) (hy : E.ev y = some (.n k n)) : Yp P E σ o (.n k (bAnd k m n)) := Yp.lits fun ρ hρ w => by
  simp [execOp, ho, hρ _ _ hx, hρ _ _ hy, eqGuard, binOp, Op.intBits, bAnd]
theorem Yp.or (ho : o.op = .binOp .or T x y T') (hx : E.ev x = some (.n k m)) (hy : E.ev y = some (.n k n)) : Yp P E σ o (.n k (bOr k m n)) := Yp.lits fun ρ hρ w => by
  simp [execOp, ho, hρ _ _ hx, hρ _ _ hy, eqGuard, binOp, Op.intBits, bOr]
theorem Yp.xor (ho : o.op = .binOp .xor T x y T') (hx : E.ev x = some (.n k m)) (hy : E.ev y = some (.n k n)) : Yp P E σ o (.n k (bXor k m n)) := Yp.lits fun ρ hρ w => by
  simp [execOp, ho, hρ _ _ hx, hρ _ _ hy, eqGuard, binOp, Op.intBits, bXor]
theorem Yp.andNot (ho : o.op = .binOp .andNot T x y T') (hx : E.ev x = some (.n k m)) (hy : E.ev y = some (.n k n)) : Yp P E σ o (.n k (bClr k m n)) := Yp.lits fun ρ hρ w => by
  simp [execOp, ho, hρ _ _ hx, hρ _ _ hy, eqGuard, binOp, Op.intBits, bClr]
theorem Yp.shl {k' : IntKind} (ho : o.op = .binOp .shl T x y T') (hx : E.ev x = some (.n k m)) (hy : E.ev y = some (.n k' n)) (h : 0 ≤ n) : Yp P E σ o (.n k (bShl k m n)) := Yp.lits fun ρ hρ w => by
  have : ¬ n < 0 := by omega
  simp [execOp, ho, hρ _ _ hx, hρ _ _ hy, eqGuard, binOp, Op.shift, bShl, this]
theorem Yp.shr {k' : IntKind} (ho : o.op = .binOp .shr T x y T') (hx : E.ev x = some (.n k m)) (hy : E.ev y = some (.n k' n)) (h : 0 ≤ n) : Yp P E σ o (.n k (bShr k m n)) := Yp.lits fun ρ hρ w => by
  have : ¬ n < 0 := by omega
  simp [execOp, ho, hρ _ _ hx, hρ _ _ hy, eqGuard, binOp, Op.shift, bShr, this]
theorem Yp.lss (ho : o.op = .binOp .lss T x y T') (hx : E.ev x = some (.n k m)) (hy : E.ev y = some (.n k n)) : Yp P E σ o (.b (decide (m < n))) := Yp.lits fun ρ hρ w => by
  simp [execOp, ho, hρ _ _ hx, hρ _ _ hy, eqGuard, binOp, Op.intCmp]
theorem Yp.leq (ho : o.op = .binOp .leq T x y T') (hx : E.ev x = some (.n k m)) (hy : E.ev y = some (.n k n)) : Yp P E σ o (.b (decide (m ≤ n))) := Yp.lits fun ρ hρ w => by
  simp [execOp, ho, hρ _ _ hx, hρ _ _ hy, eqGuard, binOp, Op.intCmp]
theorem Yp.gtr (ho : o.op = .binOp .gtr T x y T') (hx : E.ev x = some (.n k m)) (hy : E.ev y = some (.n k n)) : Yp P E σ o (.b (decide (n < m))) := Yp.lits fun ρ hρ w => by
  simp [execOp, ho, hρ _ _ hx, hρ _ _ hy, eqGuard, binOp, Op.intCmp]
theorem Yp.geq (ho : o.op = .binOp .geq T x y T') (hx : E.ev x = some (.n k m)) (hy : E.ev y = some (.n k n)) : Yp P E σ o (.b (decide (n ≤ m))) := Yp.lits fun ρ hρ w => by
  simp [execOp, ho, hρ _ _ hx, hρ _ _ hy, eqGuard, binOp, Op.intCmp]
theorem Yp.eql (ho : o.op = .binOp .eql T x y T') (hx : E.ev x = some (.n k m)) (hy : E.ev y = some (.n k n)) : Yp P E σ o (.b (decide (m = n))) := Yp.lits fun ρ hρ w => by
  have : (m == n) = decide (m = n) := rfl
  simp [execOp, ho, hρ _ _ hx, hρ _ _ hy, eqGuard, binOp, Op.intCmp, this]
theorem Yp.neq (ho : o.op = .binOp .neq T x y T') (hx : E.ev x = some (.n k m)) (hy : E.ev y = some (.n k n)) : Yp P E σ o (.b (!decide (m = n))) := Yp.lits fun ρ hρ w => by
  have : (m != n) = !decide (m = n) := rfl
  simp [execOp, ho, hρ _ _ hx, hρ _ _ hy, eqGuard, binOp, Op.intCmp, this]
theorem Yp.not (ho : o.op = .unOp .not T x) (hx : E.ev x = some (.b b)) : Yp P E σ o (.b (!b)) := Yp.lits fun ρ hρ w => by
  simp [execOp, ho, hρ _ _ hx, Op.unary]
theorem Yp.neg (ho : o.op = .unOp .neg T x) (hx : E.ev x = some (.n k n)) : Yp P E σ o (.n k (k.wrap (0 - n))) := Yp.lits fun ρ hρ w => by
  simp [execOp, ho, hρ _ _ hx, Op.unary, Op.intArith]
theorem Yp.max (ho : o.op = .call { callee := .builtin .max, args := #[x, y], argTypes := #[T, T'] }) (hx : E.ev x = some (.n k m)) (hy : E.ev y = some (.n k n)) : Yp P E σ o (.n k (if m < n then n else m)) := Yp.lits fun ρ hρ w => by
  simp [execOp, ho, resolve, invoke, builtin, Builtin.max_, Builtin.max2, hρ _ _ hx, hρ _ _ hy]
theorem Yp.min (ho : o.op = .call { callee := .builtin .min, args := #[x, y], argTypes := #[T, T'] }) (hx : E.ev x = some (.n k m)) (hy : E.ev y = some (.n k n)) : Yp P E σ o (.n k (if n < m then n else m)) := Yp.lits fun ρ hρ w => by
  simp [execOp, ho, resolve, invoke, builtin, Builtin.min_, Builtin.min2, hρ _ _ hx, hρ _ _ hy]

theorem Yp.lenNil (ho : o.op = .call { callee := .builtin .len, args := #[x], argTypes := #[T] }) (hx : E.ev x = some (.lit (.slice none 0 0))) (hT : P.underlying T = some (.slice e)) : Yp P E σ o (.i 0) := Yp.lits fun ρ hρ w => by
  simp [execOp, ho, resolve, invoke, builtin, Builtin.len_, hρ _ _ hx, run_underlying hT, goInt]
theorem Yp.lenSl {α : Type} [Inhabited α] {sz : Nat} {c : α → List AV} {l : List α} (ho : o.op = .call { callee := .builtin .len, args := #[x], argTypes := #[T] }) (hx : E.ev x = some (.sl sz c l)) (hT : P.underlying T = some (.slice e)) : Yp P E σ o (.i (l.length : Int)) := fun A w ρ _ hρ => by
  obtain ⟨p, cap, u, hv, _⟩ := (hρ _ _ hx).slInv
  exact ⟨_, .lit _, fun w' _ => by simp [execOp, ho, resolve, invoke, builtin, Builtin.len_, hv, run_underlying hT, goInt]⟩
theorem Yp.lenRow {α : Type} [Inhabited α] {sz : Nat} {c : α → List AV} {l : List α} {t : TypeId} (i : Nat) (ho : o.op = .call { callee := .builtin .len, args := #[x], argTypes := #[T] }) (hx : E.ev x = some (.lit v)) (hσ : σ[i]? = some (.row v t sz c l)) (hT : P.underlying T = some (.slice e)) : Yp P E σ o (.i (l.length : Int)) := fun A w ρ hd hρ => by
  obtain ⟨us, h1, _⟩ := hd.1 _ (List.mem_of_getElem? hσ)
  obtain ⟨p, cap, hv, _⟩ := h1.len
  have hx' := (hρ _ _ hx).litEq
  exact ⟨_, .lit _, fun w' _ => by simp [execOp, ho, resolve, invoke, builtin, Builtin.len_, hx', hv, run_underlying hT, goInt]⟩
theorem Yp.lenStr {s : ByteArray} (ho : o.op = .call { callee := .builtin .len, args := #[x], argTypes := #[T] }) (hx : E.ev x = some (.s s)) (hT : P.underlying T = some .string) : Yp P E σ o (.i (s.size : Int)) := Yp.lits fun ρ hρ w => by
  simp [execOp, ho, resolve, invoke, builtin, Builtin.len_, hρ _ _ hx, goInt, run_underlying hT]

theorem Yp.func {fn : Fn} {fs cs : Array Operand} {as0 : List AV} (ho : o.op = .makeFunc fn fs cs) (h0 : fs = #[]) (hc : E.evl cs.toList = some as0) : Yp P E σ o (.fn fn as0) := fun A w ρ _ hρ => by
  have h := Env.evl_rel hρ hc
  exact ⟨_, .fn fn as0 _ h.1 h.2, fun w' _ => by
    have : cs.map ρ = (cs.toList.map ρ).toArray := by apply Array.ext'; simp
    simp [execOp, ho, Instr.makeFunc, h0, this]⟩
theorem Yp.extract {i : Nat} {cs : List AV} (ho : o.op = .extract x i) (hx : E.ev x = some (.tup cs)) (hv : cs[i]? = some av) : Yp P E σ o av := fun A w ρ _ hρ => by
  obtain ⟨us, h1, h2⟩ := (hρ _ _ hx).tupInv
  obtain ⟨v, h3, h4⟩ := h2.get hv
  exact ⟨v, h4, fun w' _ => by simp [execOp, ho, Instr.extract, h1, h3]⟩

theorem Yp.nilCheckP {a : Addr} (ho : o.op = .nilCheck x) (hx : E.ev x = some (.lit (.pointer (some a)))) : Yp P E σ o (.lit (.pointer (some a))) := Yp.lits fun ρ hρ w => by
  simp [execOp, ho, hρ _ _ hx]
theorem Yp.nilCheckF {cs : List AV} (ho : o.op = .nilCheck x) (hx : E.ev x = some (.fp cs)) : Yp P E σ o (.fp cs) := fun A w ρ _ hρ => by
  obtain ⟨b, of, us, h1, _⟩ := (hρ _ _ hx).fpInv
  exact ⟨ρ x, hρ _ _ hx, fun w' _ => by simp [execOp, ho, h1]⟩
theorem Yp.nilCheckR {k : Nat} (ho : o.op = .nilCheck x) (hx : E.ev x = some (.rp v k)) : Yp P E σ o (.rp v k) := fun A w ρ _ hρ => by
  obtain ⟨g, _, h1⟩ := (hρ _ _ hx).rpInv
  exact ⟨ρ x, hρ _ _ hx, fun w' _ => by simp [execOp, ho, h1]⟩

/-! ### addresses -/

theorem add0 (b of k : Nat) : (⟨b, of, none⟩ : Addr).add k = ⟨b, of + k, none⟩ := by unfold Addr.add; split <;> simp_all

theorem Yp.fieldP {fs : Array Field} {f : Field} {i b' of sz : Nat} (ho : o.op = .fieldAddr T x i) (hx : E.ev x = some (.lit (.pointer (some ⟨b', of, none⟩)))) (hT : P.underlying T = some (.struct fs)) (hf : fs[i]? = some f) (hs : (P.info? f.type).map (·.size) = some (sz + 1)) :
    Yp P E σ o (.lit (.pointer (some ⟨b', of + f.offset, none⟩))) := Yp.lits fun ρ hρ w => by
  obtain ⟨j, hj, hj'⟩ := Option.map_eq_some_iff.1 hs
  simp [execOp, ho, Instr.fieldAt, hρ _ _ hx, run_underlying hT, hf, Instr.sureAddr, fieldPlace, sizeOf, typeInfo, hj, hj', add0]
theorem Yp.fieldF {fs : Array Field} {f : Field} {i sz : Nat} {cs : List AV} (ho : o.op = .fieldAddr T x i) (hx : E.ev x = some (.fp cs)) (hT : P.underlying T = some (.struct fs)) (hf : fs[i]? = some f) (hs : (P.info? f.type).map (·.size) = some (sz + 1)) :
    Yp P E σ o (.fp (cs.drop f.offset)) := fun A w ρ _ hρ => by
  obtain ⟨j, hj, hj'⟩ := Option.map_eq_some_iff.1 hs
  obtain ⟨b, of, us, h1, hb, hA, hc, hr⟩ := (hρ _ _ hx).fpInv
  refine ⟨_, .fp _ b (of + f.offset) (us.drop f.offset) hb hA (hr.drop _).1 (fun j v hj => ?_) (hr.drop _).2, fun w' _ => by simp [execOp, ho, Instr.fieldAt, h1, run_underlying hT, hf, Instr.sureAddr, fieldPlace, sizeOf, typeInfo, hj, hj', add0]⟩
  rw [List.getElem?_drop] at hj
  rw [Nat.add_assoc]
  exact hc _ v hj
theorem Yp.fieldR {fs : Array Field} {f : Field} {i sz k : Nat} (ho : o.op = .fieldAddr T x i) (hx : E.ev x = some (.rp v k)) (hT : P.underlying T = some (.struct fs)) (hf : fs[i]? = some f) (hs : (P.info? f.type).map (·.size) = some (sz + 1)) :
    Yp P E σ o (.rp v (k + f.offset)) := fun A w ρ _ hρ => by
  obtain ⟨j, hj, hj'⟩ := Option.map_eq_some_iff.1 hs
  obtain ⟨g, h1, h2⟩ := (hρ _ _ hx).rpInv
  exact ⟨_, .rp v _ g h1, fun w' _ => by simp [execOp, ho, Instr.fieldAt, h2, run_underlying hT, hf, Instr.sureAddr, fieldPlace, sizeOf, typeInfo, hj, hj', add0]⟩

theorem Yp.indexSl {α : Type} [Inhabited α] {sz : Nat} {c : α → List AV} {l : List α} (ho : o.op = .indexAddr T x y) (hx : E.ev x = some (.sl sz c l)) (hy : E.ev y = some (.n k m)) (hT : P.underlying T = some (.slice e)) (hs : (P.info? e).map (·.size) = some sz)
    (hm : 0 ≤ m ∧ m < l.length) : Yp P E σ o (.fp (c l[m.toNat]!)) := fun A w ρ _ hρ => by
  obtain ⟨j, hj, hj'⟩ := Option.map_eq_some_iff.1 hs
  have hr := hρ _ _ hx
  obtain ⟨p, cap, _, hv, _⟩ := hr.slInv
  rw [hv] at hr
  obtain ⟨b, off, us, hp, hb, hA, hl, hc, hL⟩ := hr.slAt (i := m.toNat) (by omega)
  refine ⟨_, .fp _ b (off + m.toNat * sz) us hb hA hL.1 hc hL.2, fun w' _ => ?_⟩
  have hy' := (hρ _ _ hy).litEq
  simp [execOp, ho, Instr.indexAt, hv, hp, hy', run_underlying hT, sizeOf, typeInfo, hj, hj', add0, asIntOf, hm]
theorem Yp.indexRow {α : Type} [Inhabited α] {sz : Nat} {c : α → List AV} {l : List α} {t : TypeId} (i : Nat) (ho : o.op = .indexAddr T x y) (hx : E.ev x = some (.lit v)) (hσ : σ[i]? = some (.row v t sz c l)) (hy : E.ev y = some (.n k m)) (hT : P.underlying T = some (.slice e)) (hs : (P.info? e).map (·.size) = some sz)
    (hm : 0 ≤ m ∧ m < l.length) : Yp P E σ o (.rp v (m.toNat * sz)) := fun A w ρ hd hρ => by
  obtain ⟨j, hj, hj'⟩ := Option.map_eq_some_iff.1 hs
  obtain ⟨us, h1, _⟩ := hd.1 _ (List.mem_of_getElem? hσ)
  obtain ⟨g, cap, cur, hv, hg, _⟩ := h1.at (by omega)
  have hx' := (hρ _ _ hx).litEq
  have hy' := (hρ _ _ hy).litEq
  refine ⟨_, .rp v _ g hg, fun w' _ => ?_⟩
  simp [execOp, ho, Instr.indexAt, hx', hv, hy', run_underlying hT, sizeOf, typeInfo, hj, hj', add0, asIntOf, hm]
theorem Yp.indexP {b' of sz n' : Nat} (ho : o.op = .indexAddr T x y) (hx : E.ev x = some (.lit (.pointer (some ⟨b', of, none⟩)))) (hy : E.ev y = some (.n k m)) (hT : P.underlying T = some (.array n' e)) (hs : (P.info? e).map (·.size) = some sz)
    (hm : 0 ≤ m ∧ m < n') : Yp P E σ o (.lit (.pointer (some ⟨b', of + m.toNat * sz, none⟩))) := Yp.lits fun ρ hρ w => by
  obtain ⟨j, hj, hj'⟩ := Option.map_eq_some_iff.1 hs
  simp [execOp, ho, Instr.indexAt, hρ _ _ hx, hρ _ _ hy, run_underlying hT, sizeOf, typeInfo, hj, hj', add0, asIntOf, hm, Instr.sureAddr]
theorem Yp.indexR {k' sz n' : Nat} (ho : o.op = .indexAddr T x y) (hx : E.ev x = some (.rp v k')) (hy : E.ev y = some (.n k m)) (hT : P.underlying T = some (.array n' e)) (hs : (P.info? e).map (·.size) = some sz)
    (hm : 0 ≤ m ∧ m < n') : Yp P E σ o (.rp v (k' + m.toNat * sz)) := fun A w ρ _ hρ => by
  obtain ⟨j, hj, hj'⟩ := Option.map_eq_some_iff.1 hs
  obtain ⟨g, h1, h2⟩ := (hρ _ _ hx).rpInv
  have hy' := (hρ _ _ hy).litEq
  exact ⟨_, .rp v _ g h1, fun w' _ => by simp [execOp, ho, Instr.indexAt, h2, hy', run_underlying hT, sizeOf, typeInfo, hj, hj', add0, asIntOf, hm, Instr.sureAddr]⟩
theorem Yp.indexF {sz n' : Nat} {cs : List AV} (ho : o.op = .indexAddr T x y) (hx : E.ev x = some (.fp cs)) (hy : E.ev y = some (.n k m)) (hT : P.underlying T = some (.array n' e)) (hs : (P.info? e).map (·.size) = some sz)
    (hm : 0 ≤ m ∧ m < n') : Yp P E σ o (.fp (cs.drop (m.toNat * sz))) := fun A w ρ _ hρ => by
  obtain ⟨j, hj, hj'⟩ := Option.map_eq_some_iff.1 hs
  obtain ⟨b, of, us, h1, hb, hA, hc, hr⟩ := (hρ _ _ hx).fpInv
  have hy' := (hρ _ _ hy).litEq
  refine ⟨_, .fp _ b (of + m.toNat * sz) (us.drop (m.toNat * sz)) hb hA (hr.drop _).1 (fun j v hj => ?_) (hr.drop _).2, fun w' _ => by simp [execOp, ho, Instr.indexAt, h1, hy', run_underlying hT, sizeOf, typeInfo, hj, hj', add0, asIntOf, hm, Instr.sureAddr]⟩
  rw [List.getElem?_drop] at hj
  rw [Nat.add_assoc]
  exact hc _ v hj

/-! ### loads -/

/-- a type whose values lie in one cell -/
def isOne (P : Program) (T : TypeId) : Prop := ∃ d, P.underlying T = some d ∧ match d with | .struct _ | .array _ _ => False | _ => True

theorem run_isAgg_one (h : isOne P T) (w : World) : (isAgg T).run P w = .ok false w := by
  obtain ⟨d, hd, hm⟩ := h
  unfold isAgg
  cases d <;> first | exact hm.elim | simp [run_underlying hd]

theorem run_loadVar_one {w : World} {a : Addr} (h : isOne P T) (hc : w.cell? a = some v) : (loadVar T a).run P w = .ok v w := by
  unfold loadVar
  simp [run_isAgg_one h, load, Sem.run, hc]

/-- a type whose values lie in several cells -/
def isMany (P : Program) (T : TypeId) (k : Nat) : Prop := (∃ d, P.underlying T = some d ∧ match d with | .struct _ | .array _ _ => True | _ => False) ∧ (P.info? T).map (·.size) = some k

theorem run_isAgg_many {k : Nat} (h : isMany P T k) (w : World) : (isAgg T).run P w = .ok true w := by
  obtain ⟨⟨d, hd, hm⟩, _⟩ := h
  unfold isAgg
  cases d <;> first | exact hm.elim | simp [run_underlying hd]

theorem run_loadCellsFrom {w : World} (a : Addr) : ∀ (cs : List Value) (i : Nat) (acc : Array Value), (∀ j u, cs[j]? = some u → w.cell? (a.add (i + j)) = some u) → (loadCellsFrom a i cs.length acc).run P w = .ok (acc ++ cs.toArray) w
  | [], i, acc, _ => by simp [loadCellsFrom]
  | c :: cs, i, acc, h => by
    have h0 := h 0 c rfl
    rw [Nat.add_zero] at h0
    simp only [List.length_cons, loadCellsFrom]
    have ih := run_loadCellsFrom a cs (i + 1) (acc.push c) fun j u hj => by
      have := h (j + 1) u (by simpa using hj)
      rwa [show i + (j + 1) = i + 1 + j from by omega] at this
    simp [load, Sem.run, h0, ih]

theorem run_loadVar_many {w : World} {a : Addr} {cs : List Value} (h : isMany P T cs.length) (hc : ∀ j u, cs[j]? = some u → w.cell? (a.add j) = some u) : (loadVar T a).run P w = .ok (.agg cs.toArray) w := by
  obtain ⟨i, hi, hi'⟩ := Option.map_eq_some_iff.1 h.2
  have := run_loadCellsFrom (P := P) (w := w) a cs 0 #[] (by simpa using hc)
  unfold loadVar
  simp [run_isAgg_many h, sizeOf, typeInfo, hi, hi', loadCells, this]

theorem cell_same {w w' : World} {b o : Nat} (h : w'.heap[b]? = w.heap[b]?) : w'.cell? ⟨b, o, none⟩ = w.cell? ⟨b, o, none⟩ := by simp [World.cell?, h]

theorem Yp.loadF1 {cs : List AV} (ho : o.op = .load T x) (hx : E.ev x = some (.fp cs)) (hT : isOne P T) (ha : cs[0]? = some av) : Yp P E σ o av := fun A w ρ _ hρ => by
  obtain ⟨b, of, us, h1, hb, hA, hc, hr⟩ := (hρ _ _ hx).fpInv
  obtain ⟨v, h2, h3⟩ := hr.get ha
  refine ⟨v, h3, fun w' hw => ?_⟩
  have hcell : w'.cell? ⟨b, of, none⟩ = some v := by rw [cell_same (hw b hb (.inl hA))]; exact hc 0 v h2
  simp [execOp, ho, Instr.loadAt, h1, Instr.sureAddr, run_loadVar_one hT hcell]
theorem Yp.loadFN {cs : List AV} {n : Nat} (ho : o.op = .load T x) (hx : E.ev x = some (.fp cs)) (hT : isMany P T n) (hn : n ≤ cs.length) : Yp P E σ o (.agg (cs.take n)) := fun A w ρ _ hρ => by
  obtain ⟨b, of, us, h1, hb, hA, hc, hr⟩ := (hρ _ _ hx).fpInv
  refine ⟨_, Rel.aggL (hr.take n), fun w' hw => ?_⟩
  have hcell : ∀ j u, (us.take n)[j]? = some u → w'.cell? ((⟨b, of, none⟩ : Addr).add j) = some u := fun j u hj => by
    rw [add0, cell_same (hw b hb (.inl hA))]
    rw [List.getElem?_take] at hj
    split at hj
    · exact hc j u hj
    · cases hj
  have hl : (us.take n).length = n := by rw [List.length_take, hr.1]; omega
  simp [execOp, ho, Instr.loadAt, h1, Instr.sureAddr, run_loadVar_many (by rw [hl]; exact hT) hcell]

theorem Yp.loadB1 {b' of : Nat} {cs : List AV} {t : TypeId} (i : Nat) (ho : o.op = .load T x) (hx : E.ev x = some (.lit (.pointer (some ⟨b', of, none⟩)))) (hσ : σ[i]? = some (.box b' t cs)) (hT : isOne P T) (ha : cs[of]? = some av) : Yp P E σ o av := fun A w ρ hd hρ => by
  have hm := List.mem_of_getElem? hσ
  obtain ⟨us, h1, hr⟩ := hd.1 _ hm
  obtain ⟨v, h2, h3⟩ := RelL.get hr ha
  have hx' := (hρ _ _ hx).litEq
  refine ⟨v, h3, fun w' hw => ?_⟩
  have hcell : w'.cell? ⟨b', of, none⟩ = some v := by rw [cell_same (hw b' h1.lt (.inr (mem_blks.2 ⟨_, hm, rfl⟩)))]; exact h1.cell (by simpa using h2)
  simp [execOp, ho, Instr.loadAt, hx', Instr.sureAddr, run_loadVar_one hT hcell]
theorem Yp.loadBN {b' of n : Nat} {cs : List AV} {t : TypeId} (i : Nat) (ho : o.op = .load T x) (hx : E.ev x = some (.lit (.pointer (some ⟨b', of, none⟩)))) (hσ : σ[i]? = some (.box b' t cs)) (hT : isMany P T n) (hn : of + n ≤ cs.length) : Yp P E σ o (.agg ((cs.drop of).take n)) := fun A w ρ hd hρ => by
  have hm := List.mem_of_getElem? hσ
  obtain ⟨us, h1, hr⟩ := hd.1 _ hm
  have hx' := (hρ _ _ hx).litEq
  refine ⟨_, Rel.aggL ((RelL.drop of hr).take n), fun w' hw => ?_⟩
  have hcell : ∀ j u, ((us.drop of).take n)[j]? = some u → w'.cell? ((⟨b', of, none⟩ : Addr).add j) = some u := fun j u hj => by
    rw [add0, cell_same (hw b' h1.lt (.inr (mem_blks.2 ⟨_, hm, rfl⟩)))]
    rw [List.getElem?_take] at hj
    split at hj
    · rw [List.getElem?_drop] at hj
      exact h1.cell (by simpa using hj)
    · cases hj
  have hl : ((us.drop of).take n).length = n := by rw [List.length_take, List.length_drop, hr.1]; omega
  simp [execOp, ho, Instr.loadAt, hx', Instr.sureAddr, run_loadVar_many (by rw [hl]; exact hT) hcell]

theorem Yp.loadR1 {α : Type} [Inhabited α] {sz k of : Nat} {c : α → List AV} {l : List α} {t : TypeId} (i m : Nat) (ho : o.op = .load T x) (hx : E.ev x = some (.rp v k)) (hσ : σ[i]? = some (.row v t sz c l)) (hT : isOne P T) (hk : k = m * sz + of) (hm : m < l.length) (ha : (c l[m]!)[of]? = some av) : Yp P E σ o av := fun A w ρ hd hρ => by
  have hmem := List.mem_of_getElem? hσ
  obtain ⟨us, h1, h2, h3⟩ := hd.1 _ hmem
  obtain ⟨g, hg, hv⟩ := (hρ _ _ hx).rpInv
  obtain ⟨u, h4, h5⟩ := (h3 m hm).get ha
  refine ⟨u, h5, fun w' hw => ?_⟩
  rw [List.getElem?_take] at h4
  split at h4
  · rw [List.getElem?_drop] at h4
    have hcell : w'.cell? ⟨g, k, none⟩ = some u := by rw [cell_same (hw g (h1.lt hg) (.inr (mem_blks.2 ⟨_, hmem, hg⟩))), hk]; exact h1.cells hg _ u h4
    simp [execOp, ho, Instr.loadAt, hv, Instr.sureAddr, run_loadVar_one hT hcell]
  · cases h4
theorem Yp.loadRN {α : Type} [Inhabited α] {sz k of n : Nat} {c : α → List AV} {l : List α} {t : TypeId} (i m : Nat) (ho : o.op = .load T x) (hx : E.ev x = some (.rp v k)) (hσ : σ[i]? = some (.row v t sz c l)) (hT : isMany P T n) (hk : k = m * sz + of) (hm : m < l.length) (hn : of + n ≤ sz) : Yp P E σ o (.agg (((c l[m]!).drop of).take n)) := fun A w ρ hd hρ => by
  have hmem := List.mem_of_getElem? hσ
  obtain ⟨us, h1, h2, h3⟩ := hd.1 _ hmem
  obtain ⟨g, hg, hv⟩ := (hρ _ _ hx).rpInv
  have hL := h3 m hm
  refine ⟨_, Rel.aggL ((hL.drop of).take n), fun w' hw => ?_⟩
  have hcell : ∀ j u, ((((us.drop (m * sz)).take sz).drop of).take n)[j]? = some u → w'.cell? ((⟨g, k, none⟩ : Addr).add j) = some u := fun j u hj => by
    rw [add0, cell_same (hw g (h1.lt hg) (.inr (mem_blks.2 ⟨_, hmem, hg⟩))), hk]
    rw [List.getElem?_take] at hj
    split at hj
    · rw [List.getElem?_drop, List.getElem?_take] at hj
      split at hj
      · rw [List.getElem?_drop] at hj
        exact h1.cells hg _ u (by rw [Nat.add_assoc]; exact hj)
      · cases hj
    · cases hj
  have hl : ((((us.drop (m * sz)).take sz).drop of).take n).length = n := by rw [List.length_take, List.length_drop, hL.1, h2 m hm]; omega
  simp [execOp, ho, Instr.loadAt, hv, Instr.sureAddr, run_loadVar_many (by rw [hl]; exact hT) hcell]
end
end Go.Ab
end
section
set_option linter.unusedSectionVars false
set_option linter.unusedVariables false
set_option linter.unusedSimpArgs false
namespace Go.Ab
open Go Go.RowKit

theorem blks_cons (r : Res) (σ : List Res) : blks (r :: σ) = r.blk.toList ++ blks σ := by
  unfold blks
  rw [List.filterMap_cons]
  cases r.blk <;> simp
theorem blks_app (σ τ : List Res) : blks (σ ++ τ) = blks σ ++ blks τ := by simp [blks]

theorem tr_new {C : Cx} {σ : List Res} {w w' : World} {r : Res} (h : Good C σ w) (hk : Kp [] w w') (hr : r.blk = none ∨ r.blk = some w.heap.size) (hok : r.ok (al C (r :: σ)) w') : Tr C [] σ w (r :: σ) w' := by
  have hlt : ∀ b ∈ blks σ, b < w.heap.size := fun b hb => by
    obtain ⟨s, h1, h2⟩ := mem_blks.1 hb
    exact (h.res s h1).lt h2
  have hal : ∀ b, b < w.heap.size → al C σ b → al C (r :: σ) b := fun b hb hA => ⟨hA.1, fun hx => by
    rw [blks_cons] at hx
    rcases List.mem_append.1 hx with hx | hx
    · rcases hr with hr | hr <;> rw [hr] at hx <;> simp at hx
      omega
    · exact hA.2 hx⟩
  have hsame : ∀ b, b < w.heap.size → w'.heap[b]? = w.heap[b]? := fun b hb => hk.block b hb (by simp)
  refine ⟨⟨h.kept.trans hk (by simp), fun s hs => ?_, ?_, fun b hb => ?_⟩, hk, fun b hb hA => ⟨hal b hb hA, by simp⟩⟩
  · rcases List.mem_cons.1 hs with rfl | hs
    · exact hok
    · exact (h.res s hs).mono (fun b hb hA => ⟨hal b hb hA, hsame b hb⟩) (fun b hb => hsame b ((h.res s hs).lt hb))
  · rw [blks_cons]
    rcases hr with hr | hr
    · rw [hr]; simpa using h.dis
    · rw [hr]
      simp only [Option.toList_some, List.cons_append, List.nil_append, List.nodup_cons]
      exact ⟨fun hx => by have := hlt _ hx; omega, h.dis⟩
  · rw [blks_cons] at hb
    rcases List.mem_append.1 hb with hx | hx
    · rcases hr with hr | hr <;> rw [hr] at hx <;> simp at hx
      exact .inr (by rw [hx]; exact h.kept.size)
    · exact h.own b hx

theorem set_split {σ : List Res} {i : Nat} {r r' : Res} (h : σ[i]? = some r) : σ = σ.take i ++ r :: σ.drop (i + 1) ∧ σ.set i r' = σ.take i ++ r' :: σ.drop (i + 1) := by
  obtain ⟨hi, hr⟩ := List.getElem?_eq_some_iff.1 h
  refine ⟨?_, List.set_eq_take_append_cons_drop .. |>.trans (by rw [if_pos hi])⟩
  rw [← hr, ← List.drop_eq_getElem_cons hi, List.take_append_drop]

theorem blks_set {σ : List Res} {i : Nat} {r r' : Res} (h : σ[i]? = some r) (hb : r'.blk = r.blk) : blks (σ.set i r') = blks σ := by
  obtain ⟨q1, q2⟩ := set_split (r' := r') h
  have e : blks σ = blks (σ.take i ++ r :: σ.drop (i + 1)) := congrArg blks q1
  rw [q2, e]
  simp [blks_app, blks_cons, hb]

/-- Resource i is another one now: in the same block, in a new one, or in none. -/
theorem tr_upd {C : Cx} {σ : List Res} {w w' : World} {r r' : Res} {i : Nat} (h : Good C σ w) (hi : σ[i]? = some r) (hk : Kp r.blk.toList w w') (hr : r'.blk = r.blk ∨ r'.blk = some w.heap.size) (hok : r'.ok (al C (σ.set i r')) w') : Tr C r.blk.toList σ w (σ.set i r') w' := by
  obtain ⟨h1, h2⟩ := set_split (r' := r') hi
  generalize σ.take i = σ1 at h1 h2
  generalize σ.drop (i + 1) = σ2 at h1 h2
  rw [h2] at hok ⊢
  clear h2 hi
  subst h1
  have hlt : ∀ b ∈ blks (σ1 ++ r :: σ2), b < w.heap.size := fun b hb => by
    obtain ⟨s, h1, h2⟩ := mem_blks.1 hb
    exact (h.res s h1).lt h2
  have hb0 : blks (σ1 ++ r :: σ2) = blks σ1 ++ (r.blk.toList ++ blks σ2) := by rw [blks_app, blks_cons]
  have hb1 : blks (σ1 ++ r' :: σ2) = blks σ1 ++ (r'.blk.toList ++ blks σ2) := by rw [blks_app, blks_cons]
  have hmem : ∀ b, b ∈ blks (σ1 ++ r' :: σ2) → b ∈ blks (σ1 ++ r :: σ2) ∨ b = w.heap.size := fun b hb => by
    rw [hb1] at hb
    rw [hb0]
    simp only [List.mem_append] at hb ⊢
    rcases hb with hb | hb | hb
    · exact .inl (.inl hb)
    · rcases hr with hr | hr <;> rw [hr] at hb
      · exact .inl (.inr (.inl hb))
      · simp at hb; exact .inr hb
    · exact .inl (.inr (.inr hb))
  have hal : ∀ b, b < w.heap.size → al C (σ1 ++ r :: σ2) b → al C (σ1 ++ r' :: σ2) b := fun b hb hA => ⟨hA.1, fun hx => by
    rcases hmem b hx with h | h
    · exact hA.2 h
    · omega⟩
  have hnr : ∀ b, al C (σ1 ++ r :: σ2) b → b ∉ r.blk.toList := fun b hA hx => hA.2 (by rw [hb0]; simp [List.mem_append, hx])
  have hother : ∀ s, s ∈ σ1 ∨ s ∈ σ2 → ∀ b, s.blk = some b → b ∉ r.blk.toList := fun s hs b hb hx => by
    have hd := h.dis
    rw [hb0] at hd
    rcases hs with hs | hs
    · exact (List.nodup_append.1 hd).2.2 b (mem_blks.2 ⟨s, hs, hb⟩) b (List.mem_append_left _ hx) rfl
    · exact (List.nodup_append.1 (List.nodup_append.1 hd).2.1).2.2 b hx b (mem_blks.2 ⟨s, hs, hb⟩) rfl
  refine ⟨⟨h.kept.trans hk (fun b hb hlt0 => ?_), fun s hs => ?_, ?_, fun b hb => ?_⟩, hk, fun b hb hA => ⟨hal b hb hA, hnr b hA⟩⟩
  · have : b ∈ blks (σ1 ++ r :: σ2) := by rw [hb0]; simp [List.mem_append, hb]
    rcases h.own b this with h | h
    · exact h
    · omega
  · have hs' : s = r' ∨ s ∈ σ1 ∨ s ∈ σ2 := by
      simp only [List.mem_append, List.mem_cons] at hs
      rcases hs with h | h | h
      · exact .inr (.inl h)
      · exact .inl h
      · exact .inr (.inr h)
    rcases hs' with rfl | hs'
    · exact hok
    · have hm : s ∈ σ1 ++ r :: σ2 := by rcases hs' with h | h <;> simp [h]
      exact (h.res s hm).mono (fun b hb hA => ⟨hal b hb hA, hk.block b hb (hnr b hA)⟩) (fun b hb => hk.block b ((h.res s hm).lt hb) (hother s hs' b hb))
  · have hd := h.dis
    rcases hr with hr | hr
    · rw [hb1, hr, ← hb0]; exact hd
    · rw [hb1, hr]
      rw [hb0] at hd
      have hn1 : w.heap.size ∉ blks σ1 := fun hx => by have := hlt w.heap.size (by rw [hb0]; simp [List.mem_append, hx]); omega
      have hn2 : w.heap.size ∉ blks σ2 := fun hx => by have := hlt w.heap.size (by rw [hb0]; simp [List.mem_append, hx]); omega
      obtain ⟨d1, d2, d3⟩ := List.nodup_append.1 hd
      obtain ⟨d4, d5, d6⟩ := List.nodup_append.1 d2
      refine List.nodup_append.2 ⟨d1, ?_, fun a ha b hb hab => ?_⟩
      · simp only [Option.toList_some, List.cons_append, List.nil_append, List.nodup_cons]
        exact ⟨hn2, d5⟩
      · subst hab
        simp only [Option.toList_some, List.cons_append, List.nil_append, List.mem_cons] at hb
        rcases hb with rfl | hb
        · exact hn1 ha
        · exact d3 a ha a (List.mem_append_right _ hb) rfl
  · rcases hmem b hb with h1 | h1
    · exact h.own b h1
    · exact .inr (by rw [h1]; exact h.kept.size)

theorem al_new {C : Cx} {σ : List Res} {w : World} {r : Res} (h : r.blk = none ∨ r.blk = some w.heap.size) : ∀ b, b < w.heap.size → al C σ b → al C (r :: σ) b := fun b hb hA => ⟨hA.1, fun hx => by
  rw [blks_cons] at hx
  rcases List.mem_append.1 hx with hx | hx
  · rcases h with h | h <;> rw [h] at hx <;> simp at hx
    omega
  · exact hA.2 hx⟩

theorem kp_alloc (w : World) (x : Obj) : Kp [] w (w.alloc x) := ⟨rfl, rfl, rfl, by simp, fun k hk _ => heap_alloc_old w x hk⟩
theorem kp_alloc' (w : World) (x : Obj) : Kp [] w (w.drew.alloc x) := ⟨rfl, rfl, rfl, by simp, fun k hk _ => heap_alloc_old w.drew x hk⟩

theorem relL_new {C : Cx} {σ : List Res} {w w' : World} {r : Res} {as0 : List AV} {us : List Value} (hr : RelL (al C σ) w as0 us) (h : r.blk = none ∨ r.blk = some w.heap.size) (hk : Kp [] w w') : RelL (al C (r :: σ)) w' as0 us :=
  hr.mono fun b hb hA => ⟨al_new h b hb hA, hk.block b hb (by simp)⟩

/-- the cells of what an operand holds -/
def acells : AV → List AV
  | .agg cs => cs
  | a => [a]
def acell1 : AV → Bool
  | .lit v => v.oneCell'
  | .tup _ => false
  | .agg _ => false
  | _ => true
def aplain : AV → Bool
  | .agg cs => cs.all acell1
  | a => acell1 a

theorem oneCell_cells {v : Value} (h : v.oneCell' = true) : v.cells = #[v] := by cases v <;> first | rfl | cases h
theorem Rel.one {A : Nat → Prop} {w : World} {a : AV} {v : Value} (h : Rel A w a v) (h1 : acell1 a = true) : v.oneCell' = true := by
  cases h with
  | lit v => exact h1
  | agg => cases h1
  | tup => cases h1
  | _ => rfl
theorem RelL.one {A : Nat → Prop} {w : World} {as0 : List AV} {us : List Value} (h : RelL A w as0 us) (h1 : as0.all acell1 = true) : ∀ v ∈ us, v.oneCell' = true := fun v hv => by
  obtain ⟨j, hj, rfl⟩ := List.getElem_of_mem hv
  have hlt : j < as0.length := by rw [← h.1]; exact hj
  exact (h.2 j as0[j] us[j] (List.getElem?_eq_getElem hlt) (List.getElem?_eq_getElem hj)).one (List.all_eq_true.1 h1 _ (List.getElem_mem hlt))
theorem Rel.cells {A : Nat → Prop} {w : World} {a : AV} {v : Value} (h : Rel A w a v) (h1 : aplain a = true) : RelL A w (acells a) v.cells.toList ∧ ∀ u ∈ v.cells.toList, u.oneCell' = true := by
  by_cases ha : ∃ cs, a = .agg cs
  · obtain ⟨cs, rfl⟩ := ha
    obtain ⟨us, rfl, h2⟩ := h.aggInv
    exact ⟨by simpa [Value.cells, acells] using h2, by simpa [Value.cells] using h2.one h1⟩
  · have hc : acell1 a = true := by
      cases a <;> first | exact h1 | (exact absurd ⟨_, rfl⟩ ha)
    have hac : acells a = [a] := by
      cases a <;> first | rfl | (exact absurd ⟨_, rfl⟩ ha)
    have h2 := h.one hc
    rw [hac, oneCell_cells h2]
    refine ⟨⟨rfl, fun j x y hx hy => ?_⟩, fun u hu => by simp at hu; rw [hu]; exact h2⟩
    cases j with
    | zero => simp at hx hy; subst hx hy; exact h
    | succ j => simp at hx

/-- what can be stored -/
def Pw (σ : List Res) (a : AV) : Prop := ∀ (A : Nat → Prop) (w : World) (v : Value), Hd A σ w → Rel A w a v → RelL A w (acells a) v.cells.toList ∧ ∀ u ∈ v.cells.toList, u.oneCell' = true
def PwL (σ : List Res) (as0 : List AV) : Prop := ∀ (A : Nat → Prop) (w : World) (us : List Value), Hd A σ w → RelL A w as0 us → ∀ u ∈ us, u.oneCell' = true
theorem Pw.p {σ : List Res} {a : AV} (h : aplain a = true) : Pw σ a := fun _ _ _ _ hr => hr.cells h
theorem own_one {σ : List Res} {A : Nat → Prop} {w : World} {v : Value} {T : TypeId} {sz : Nat} {α : Type} [Inhabited α] {c : α → List AV} {l : List α} (i : Nat) (hσ : σ[i]? = some (.row v T sz c l)) (hd : Hd A σ w) : v.oneCell' = true := by
  obtain ⟨us, h1, _⟩ := hd.1 _ (List.mem_of_getElem? hσ)
  obtain ⟨p, cap, rfl, _⟩ := h1.len
  rfl
theorem Pw.own {σ : List Res} {v : Value} {T : TypeId} {sz : Nat} {α : Type} [Inhabited α] {c : α → List AV} {l : List α} (i : Nat) (hσ : σ[i]? = some (.row v T sz c l)) : Pw σ (.lit v) := fun A w u hd hr => by
  have h1 := own_one i hσ hd
  rw [hr.litEq, oneCell_cells h1]
  exact ⟨RelL.cons (.lit v) RelL.nil, fun x hx => by simp at hx; rw [hx]; exact h1⟩
theorem PwL.nil {σ : List Res} : PwL σ [] := fun A w us _ hr u hu => by
  have : us = [] := List.eq_nil_of_length_eq_zero (by simpa using hr.1)
  subst this; simp at hu
theorem PwL.p {σ : List Res} {a : AV} {as0 : List AV} (h : acell1 a = true) (hs : PwL σ as0) : PwL σ (a :: as0) := fun A w us hd hr u hu => by
  obtain ⟨v, us', rfl, h1, h2⟩ := hr.head
  rcases List.mem_cons.1 hu with rfl | hu
  · exact h1.one h
  · exact hs A w us' hd h2 u hu
theorem PwL.own {σ : List Res} {v : Value} {T : TypeId} {sz : Nat} {α : Type} [Inhabited α] {c : α → List AV} {l : List α} {as0 : List AV} (i : Nat) (hσ : σ[i]? = some (.row v T sz c l)) (hs : PwL σ as0) : PwL σ (.lit v :: as0) := fun A w us hd hr u hu => by
  obtain ⟨v', us', rfl, h1, h2⟩ := hr.head
  rcases List.mem_cons.1 hu with rfl | hu
  · rw [h1.litEq]; exact own_one i hσ hd
  · exact hs A w us' hd h2 u hu
theorem Pw.agg {σ : List Res} {as0 : List AV} (h : PwL σ as0) : Pw σ (.agg as0) := fun A w v hd hr => by
  obtain ⟨us, rfl, h2⟩ := hr.aggInv
  exact ⟨by simpa [Value.cells, acells] using h2, by simpa [Value.cells] using h A w us hd h2⟩

section
variable {P : Program} {E : Env} {σ : List Res} {o : Oper} {T T' e : TypeId} {x y z : Operand} {av bv : AV} {v u : Value} {m n : Int} {b : Bool} {k : IntKind} {C : Cx} {X : List Nat}

/-! ### new variables -/

theorem Yv.alloc {zs : List Value} (ho : o.op = .alloc T) (hz : (P.info? T).bind (fun i => i.zero.map (·.cells)) = some zs.toArray) : Yv P E σ o C [] (fun a σ' => ∃ b, a = .lit (.pointer (some ⟨b, 0, none⟩)) ∧ σ' = .box b T (zs.map .lit) :: σ) := fun w ρ hg _ => by
  obtain ⟨i, h1, h2⟩ := Option.bind_eq_some_iff.1 hz
  obtain ⟨zv, h3, h4⟩ := Option.map_eq_some_iff.1 h2
  refine ⟨_, w.alloc (.cells zs.toArray T), _, _, ⟨w.heap.size, rfl, rfl⟩, tr_new hg (kp_alloc w _) (.inr rfl) ⟨zs, heap_alloc_new w _, RelL.lits _⟩, ?_, .lit _⟩
  simp [execOp, ho, Instr.alloc, zeroValue, typeInfo, h1, h3, newVar, newRow, h4]

theorem Yv.box (ho : o.op = .box T x) (hx : E.ev x = some av) (h1 : Pw σ av) : Yv P E σ o C [] (fun a σ' => ∃ b, a = .lit (.pointer (some ⟨b, 0, none⟩)) ∧ σ' = .box b T (acells av) :: σ) := fun w ρ hg hρ => by
  have hr := (h1 _ _ _ hg.hd (hρ _ _ hx)).1
  refine ⟨_, w.alloc (.cells (ρ x).cells T), _, _, ⟨w.heap.size, rfl, rfl⟩, tr_new hg (kp_alloc w _) (.inr rfl) ⟨(ρ x).cells.toList, heap_alloc_new w _, relL_new hr (.inr rfl) (kp_alloc w _)⟩, ?_, .lit _⟩
  simp [execOp, ho, Instr.box, newVar, newRow]

/-! ### stores -/

theorem run_store {w : World} {g of : Nat} {cur : Array Value} {t : TypeId} {a : Value} {sz : Nat} (hs : (P.info? T).map (·.size) = some sz) (hb : Blk w g cur t) (hsz : a.cells.size = sz) (h1 : ∀ u ∈ a.cells.toList, u.oneCell' = true) (hlt : of + sz ≤ cur.size) :
    (Instr.storeAt T (.pointer (some ⟨g, of, none⟩)) a).run P w = .ok () (w.setRow g (cur.toList.take of ++ a.cells.toList ++ cur.toList.drop (of + sz)).toArray) := by
  obtain ⟨j, hj, hj'⟩ := Option.map_eq_some_iff.1 hs
  have := run_storeCells_at P g of t a.cells.toList 0 cur w hb (by rw [Array.length_toList, hsz]; omega) h1
  rw [Array.length_toList, hsz, Nat.add_zero] at this
  simp only [Instr.storeAt, Instr.sureAddr, storeVar, Sem.run_bind, sizeOf, typeInfo]
  simp [hj, hj', hsz, this]

theorem kp_setRow (w : World) (g : Nat) (cs : Array Value) : Kp [g] w (w.setRow g cs) := ⟨rfl, rfl, rfl, by simp, fun k _ hk => setRow_other w g k _ (fun e => hk (by simp [e]))⟩

theorem Yu.storeB {g of sz : Nat} {cs : List AV} {t : TypeId} (i : Nat) (ho : o.op = .store T x y) (hx : E.ev x = some (.lit (.pointer (some ⟨g, of, none⟩)))) (hy : E.ev y = some av) (hσ : σ[i]? = some (.box g t cs)) (hs : (P.info? T).map (·.size) = some sz) (hp : Pw σ av) (hsz : (acells av).length = sz) (hlt : of + sz ≤ cs.length) :
    Yu P E σ o C [g] (σ.set i (.box g t (cs.take of ++ acells av ++ cs.drop (of + sz)))) := fun w ρ hg hρ => by
  obtain ⟨us, h1, h2⟩ := hg.res _ (List.mem_of_getElem? hσ)
  obtain ⟨h3, h4⟩ := hp _ _ _ hg.hd (hρ _ _ hy)
  have hx' := (hρ _ _ hx).litEq
  have h5 : (ρ y).cells.size = sz := by rw [← Array.length_toList, h3.1, hsz]
  have hrun := run_store (P := P) (T := T) (of := of) (a := ρ y) hs h1 h5 h4 (by simp; rw [h2.1]; exact hlt)
  refine ⟨w.setRow g (us.take of ++ (ρ y).cells.toList ++ us.drop (of + sz)).toArray, tr_upd hg hσ (kp_setRow w g _) (.inl rfl) ⟨us.take of ++ (ρ y).cells.toList ++ us.drop (of + sz), ?_, ?_⟩, ?_⟩
  · have := setRow_heap w g us.toArray (us.take of ++ (ρ y).cells.toList ++ us.drop (of + sz)).toArray t (0, 0) h1
    exact this
  · have hal : ∀ b, b < w.heap.size → al C σ b → al C (σ.set i (.box g t (cs.take of ++ acells av ++ cs.drop (of + sz)))) b ∧ (w.setRow g (us.take of ++ (ρ y).cells.toList ++ us.drop (of + sz)).toArray).heap[b]? = w.heap[b]? := fun b hb hA => by
      have hbk := blks_set (r' := Res.box g t (cs.take of ++ acells av ++ cs.drop (of + sz))) hσ rfl
      refine ⟨⟨hA.1, by rw [hbk]; exact hA.2⟩, setRow_other w g b _ (fun e => hA.2 (mem_blks.2 ⟨_, List.mem_of_getElem? hσ, by rw [← e]; rfl⟩))⟩
    exact (((h2.take of).app h3).app (h2.drop (of + sz))).mono hal
  · simp [execOp, ho, hx', hrun]

theorem take_drop_app {α : Type} (a b c : List α) (i n : Nat) (hi : i + n ≤ a.length) : ((a ++ b ++ c).drop i).take n = (a.drop i).take n := by
  rw [List.append_assoc, List.drop_append_of_le_length (by omega), List.take_append_of_le_length (by rw [List.length_drop]; omega)]

theorem Yu.storeR {α : Type} [Inhabited α] {kk of sz n m : Nat} {c : α → List AV} {l : List α} {t : TypeId} (i : Nat) (q : α) (ho : o.op = .store T x y) (hx : E.ev x = some (.rp v kk)) (hy : E.ev y = some av) (hσ : σ[i]? = some (.row v t sz c l)) (hs : (P.info? T).map (·.size) = some n) (hp : aplain av = true) (hn : (acells av).length = n)
    (hk : kk = m * sz + of) (hm : m < l.length) (hlt : of + n ≤ sz) (hq : c q = (c l[m]!).take of ++ acells av ++ (c l[m]!).drop (of + n)) :
    Yu P E σ o C (Option.toList (rblk v)) (σ.set i (.row v t sz c (l.set m q))) := fun w ρ hg hρ => by
  obtain ⟨us, h1, h2, h3⟩ := hg.res _ (List.mem_of_getElem? hσ)
  obtain ⟨h4, h5⟩ := (hρ _ _ hy).cells hp
  obtain ⟨g, hgb, hv⟩ := (hρ _ _ hx).rpInv
  obtain ⟨g', cap, cur, hv', hgb', hB, q1, q2, q3, q4⟩ := h1.at (by omega)
  have hgg : g' = g := by rw [hgb'] at hgb; exact Option.some.inj hgb
  subst hgg
  have h6' : (ρ y).cells.toList.length = n := by rw [h4.1, hn]
  have h6 : (ρ y).cells.size = n := by rw [← Array.length_toList, h6']
  have hmz : m * sz + sz ≤ l.length * sz := by rw [← Nat.succ_mul]; exact Nat.mul_le_mul_right _ hm
  have hcz : l.length * sz ≤ (cap + 1) * sz := Nat.mul_le_mul_right _ q1
  have hul := h1.1
  have hrun := run_store (P := P) (T := T) (of := kk) (a := ρ y) hs hB h6 h5 (by rw [q3, hk]; omega)
  have hlen : us.length = l.length * sz := h1.1
  have hmz2 : ∀ j, j < l.length → j * sz + sz ≤ us.length := fun j hj => by rw [hlen, ← Nat.succ_mul]; exact Nat.mul_le_mul_right _ hj
  have hpart : ∀ b, al C (σ.set i (.row v t sz c (l.set m q))) b ↔ al C σ b := fun b => by
    have hbk := blks_set (r' := Res.row v t sz c (l.set m q)) hσ rfl
    unfold al
    rw [hbk]
  have hal : ∀ b, b < w.heap.size → al C σ b → al C (σ.set i (.row v t sz c (l.set m q))) b ∧ (w.setRow g' (cur.toList.take kk ++ (ρ y).cells.toList ++ cur.toList.drop (kk + n)).toArray).heap[b]? = w.heap[b]? := fun b hb hA =>
    ⟨(hpart b).2 hA, setRow_other w g' b _ (fun e => hA.2 (mem_blks.2 ⟨_, List.mem_of_getElem? hσ, by rw [e]; exact hgb⟩))⟩
  refine ⟨w.setRow g' (cur.toList.take kk ++ (ρ y).cells.toList ++ cur.toList.drop (kk + n)).toArray, tr_upd (r := .row v t sz c l) hg hσ (by show Kp (Option.toList (rblk v)) _ _; rw [hgb]; exact kp_setRow w g' _) (.inl rfl) ⟨us.take kk ++ (ρ y).cells.toList ++ us.drop (kk + n), ⟨?_, .inr ⟨g', cap, (cur.toList.take kk ++ (ρ y).cells.toList ++ cur.toList.drop (kk + n)).toArray, ?_, ?_, ?_, q2, ?_, ?_⟩⟩, ?_, ?_⟩, by simp [execOp, ho, hv, hrun]⟩
  · have := hmz2 m hm
    rw [List.length_append, List.length_append, List.length_take, List.length_drop, List.length_set, h6', hlen]
    omega
  · rw [List.length_set]; exact hv'
  · exact setRow_heap w g' cur _ t (0, 0) hB
  · rw [List.length_set]; exact q1
  · have := hmz2 m hm
    rw [List.size_toArray, List.length_append, List.length_append, List.length_take, List.length_drop, h6', Array.length_toList, q3]
    omega
  · have hk' : kk + n ≤ l.length * sz := by omega
    have hc2 : l.length * sz ≤ cur.toList.length := by rw [show cur.toList.length = cur.size from Array.length_toList, q3]; exact hcz
    rw [← q4, List.length_set]
    apply List.ext_getElem?
    intro j
    simp only [List.getElem?_take, List.getElem?_append, List.length_append, List.length_take, List.getElem?_drop, h6', Array.length_toList]
    have hcl : cur.size = (cap + 1) * sz := q3
    by_cases e1 : j < l.length * sz
    · rw [if_pos e1]
      by_cases e2 : j < kk
      · rw [if_pos (by omega), if_pos (by omega), if_pos (by omega), if_pos (by omega), if_pos (by omega), if_pos (by omega)]
        rw [if_pos (by omega)]
      · by_cases e3 : j < kk + n
        · rw [if_pos (by omega), if_neg (by omega), if_pos (by omega), if_neg (by omega)]
          congr 1
          omega
        · rw [if_neg (by omega), if_neg (by omega), if_pos (by omega)]
          congr 1
          omega
    · rw [if_neg e1]
      rw [if_neg (by omega), if_neg (by omega)]
  · intro j hj
    rw [List.length_set] at hj
    by_cases hjm : j = m
    · subst hjm
      rw [getElem!_pos _ j (by rw [List.length_set]; exact hj), List.getElem_set_self, hq]
      have := h2 j hj
      rw [List.length_append, List.length_append, List.length_take, List.length_drop, this, hn]
      omega
    · rw [getElem!_pos _ j (by rw [List.length_set]; exact hj), List.getElem_set_ne (Ne.symm hjm), ← getElem!_pos l j hj]
      exact h2 j hj
  · intro j hj
    rw [List.length_set] at hj
    have hb := hmz2 j hj
    have hbm := hmz2 m hm
    by_cases hjm : j = m
    · subst hjm
      rw [getElem!_pos _ j (by rw [List.length_set]; exact hj), List.getElem_set_self, hq]
      have hL := h3 j hj
      have hz := h2 j hj
      have hR := (((hL.take of).app h4).app (hL.drop (of + n))).mono hal
      have e : ((us.take kk ++ (ρ y).cells.toList ++ us.drop (kk + n)).drop (j * sz)).take sz = ((us.drop (j * sz)).take sz).take of ++ (ρ y).cells.toList ++ ((us.drop (j * sz)).take sz).drop (of + n) := by
        apply List.ext_getElem?
        intro a
        simp only [List.getElem?_take, List.getElem?_append, List.length_append, List.length_take, List.getElem?_drop, h6', List.length_drop]
        by_cases e1 : a < sz
        · rw [if_pos e1]
          by_cases e2 : a < of
          · rw [if_pos (by omega), if_pos (by omega), if_pos (by omega), if_pos (by omega), if_pos (by omega), if_pos (by omega)]
            rw [if_pos (by omega)]
          · by_cases e3 : a < of + n
            · rw [if_pos (by omega), if_neg (by omega), if_pos (by omega), if_neg (by omega)]
              congr 1
              omega
            · rw [if_neg (by omega), if_neg (by omega), if_pos (by omega)]
              congr 1
              omega
        · rw [if_neg e1, if_neg (by omega), if_neg (by omega)]
      rw [e]
      exact hR
    · rw [getElem!_pos _ j (by rw [List.length_set]; exact hj), List.getElem_set_ne (Ne.symm hjm), ← getElem!_pos l j hj]
      have e : ((us.take kk ++ (ρ y).cells.toList ++ us.drop (kk + n)).drop (j * sz)).take sz = (us.drop (j * sz)).take sz := by
        have hcase : j * sz + sz ≤ m * sz ∨ m * sz + sz ≤ j * sz := by
          rcases Nat.lt_or_gt_of_ne hjm with h | h
          · left; rw [← Nat.succ_mul]; exact Nat.mul_le_mul_right _ h
          · right; rw [← Nat.succ_mul]; exact Nat.mul_le_mul_right _ h
        apply List.ext_getElem?
        intro a
        simp only [List.getElem?_take, List.getElem?_append, List.length_append, List.length_take, List.getElem?_drop, h6', Array.length_toList]
        by_cases e1 : a < sz
        · rw [if_pos e1, if_pos e1]
          rcases hcase with hc | hc
          · rw [if_pos (by omega), if_pos (by omega), if_pos (by omega)]
          · rw [if_neg (by omega)]
            congr 1
            omega
        · rw [if_neg e1, if_neg e1]
      rw [e]
      exact (h3 j hj).mono hal
end
end Go.Ab
end
section
set_option linter.unusedSectionVars false
set_option linter.unusedVariables false
set_option linter.unusedSimpArgs false
namespace Go.Ab
open Go Go.RowKit

inductive F2 {α : Type 1} {β : Type} (R : α → β → Prop) : List α → List β → Prop
  | nil : F2 R [] []
  | cons {a : α} {b : β} {as0 : List α} {bs : List β} (h : R a b) (hs : F2 R as0 bs) : F2 R (a :: as0) (b :: bs)

/-! ### literals of structs and arrays -/

def afill (place : Nat → Option (Nat × Nat)) (cells : List AV) : List (Nat × AV) → Option (List AV)
  | [] => some cells
  | (i, a) :: rest =>
    match place i with
    | none => none
    | some (off, size) =>
      match Nat.beq (acells a).length size && Nat.ble (off + size) cells.length && aplain a with
      | true => afill place (cells.take off ++ acells a ++ cells.drop (off + size)) rest
      | false => none

theorem foldl_set (us : List Value) : ∀ (k off : Nat) (init : Array Value), off + k + us.length ≤ init.size →
    ((us.zipIdx k).foldl (fun cs (p : Value × Nat) => cs.setIfInBounds (off + p.2) p.1) init).toList = init.toList.take (off + k) ++ us ++ init.toList.drop (off + k + us.length) := by
  induction us with
  | nil => intro k off init h; simp
  | cons u us ih =>
    intro k off init h
    simp only [List.length_cons] at h
    rw [List.zipIdx_cons, List.foldl_cons, ih (k + 1) off _ (by simp; omega)]
    have h1 : off + k < init.toList.length := by simp; omega
    rw [Array.toList_setIfInBounds]
    have e1 : (init.toList.set (off + k) u).take (off + (k + 1)) = init.toList.take (off + k) ++ [u] := by
      rw [List.set_eq_take_append_cons_drop, if_pos h1]
      have e : off + (k + 1) = (init.toList.take (off + k)).length + 1 := by rw [List.length_take]; omega
      rw [e, List.take_length_add_append]
      simp
    have e2 : (init.toList.set (off + k) u).drop (off + (k + 1) + us.length) = init.toList.drop (off + k + (us.length + 1)) := by
      rw [List.drop_set_of_lt (by omega)]
      congr 1
      omega
    rw [e1, e2]
    simp

theorem fill_rel {A : Nat → Prop} {w : World} {place : Nat → Option (Nat × Nat)} : ∀ {ps : List (Nat × AV)} {qs : List (Nat × Value)} {cs cs' : List AV} {init : Array Value}, RelL A w cs init.toList →
    F2 (fun (p : Nat × AV) (q : Nat × Value) => p.1 = q.1 ∧ Rel A w p.2 q.2) ps qs → afill place cs ps = some cs' → ∃ us : Array Value, Instr.fill place init qs = some us ∧ RelL A w cs' us.toList
  | [], _, cs, cs', init, hi, hp, hf => by
    cases hp
    cases hf
    exact ⟨init, rfl, hi⟩
  | (i, a) :: ps, _, cs, cs', init, hi, hp, hf => by
    cases hp with
    | @cons _ q _ qs h1 h2 =>
      obtain ⟨j, v⟩ := q
      obtain ⟨h3, h4⟩ := h1
      simp only at h3 h4
      subst h3
      unfold afill at hf
      unfold Instr.fill
      cases hpl : place i with
      | none => rw [hpl] at hf; cases hf
      | some os =>
        obtain ⟨off, size⟩ := os
        rw [hpl] at hf
        simp only at hf ⊢
        split at hf
        · rename_i hc
          simp only [Bool.and_eq_true, Nat.ble_eq] at hc
          obtain ⟨⟨hc1, hc2⟩, hc3⟩ := hc
          have hc1 := Nat.eq_of_beq_eq_true hc1
          obtain ⟨h5, h6⟩ := h4.cells hc3
          have hvs : v.cells.size = size := by rw [← Array.length_toList, h5.1, hc1]
          have his : init.size = cs.length := by rw [← Array.length_toList, hi.1]
          rw [if_neg (by simp [hvs]; omega)]
          refine fill_rel (cs := cs.take off ++ acells a ++ cs.drop (off + size)) ?_ h2 hf
          have hvl : v.cells.toList.length = size := by rw [Array.length_toList, hvs]
          have e : (v.cells.zipIdx.foldl (fun cs (x : Value × Nat) => match x with | (c, j) => cs.setIfInBounds (off + j) c) init).toList = init.toList.take off ++ v.cells.toList ++ init.toList.drop (off + size) := by
            have := foldl_set v.cells.toList 0 off init (by rw [hvl]; omega)
            rw [hvl, Nat.add_zero] at this
            rw [← this, ← Array.foldl_toList, Array.toList_zipIdx]
          show RelL A w _ (v.cells.zipIdx.foldl _ init).toList
          rw [e]
          exact ((hi.take off).app h5).app (hi.drop (off + size))
        · cases hf

def Env.evp (E : Env) : List (Nat × Operand) → Option (List (Nat × AV))
  | [] => some []
  | (i, x) :: xs => match E.ev x, Env.evp E xs with
    | some a, some as0 => some ((i, a) :: as0)
    | _, _ => none
theorem Env.evp_rel {A : Nat → Prop} {w : World} {E : Env} {ρ : Operand → Value} (h : Ops A w E ρ) : ∀ {xs : List (Nat × Operand)} {as0 : List (Nat × AV)}, E.evp xs = some as0 →
    F2 (fun (p : Nat × AV) (q : Nat × Value) => p.1 = q.1 ∧ Rel A w p.2 q.2) as0 (xs.map fun p => (p.1, ρ p.2))
  | [], as0, he => by cases he; exact .nil
  | (i, x) :: xs, as0, he => by
    unfold Env.evp at he
    cases h1 : E.ev x with
    | none => rw [h1] at he; cases he
    | some a =>
      cases h2 : E.evp xs with
      | none => rw [h1, h2] at he; cases he
      | some as' =>
        rw [h1, h2] at he
        cases he
        exact .cons ⟨rfl, h x a h1⟩ (Env.evp_rel h h2)

/-- where the fields of a struct lie; where the elements of an array lie -/
def placesOf (P : Program) (T : TypeId) : Option (List (Nat × Nat)) := match P.underlying T with
  | some (.struct fields) => fields.toList.mapM fun f => (P.info? f.type).map fun i => (f.offset, i.size)
  | _ => none
def zerosOf (P : Program) (T : TypeId) : Option (List Value) := (P.info? T).bind fun i => i.zero.map (·.cells.toList)

section
variable {P : Program} {E : Env} {σ : List Res} {o : Oper} {T T' e : TypeId} {x y z : Operand} {av bv : AV} {v u : Value} {m n : Int} {b : Bool} {k : IntKind} {C : Cx} {X : List Nat}

theorem map_pair {ps : Array (Nat × Operand)} {ρ : Operand → Value} : (ps.map fun (i, x) => (i, ρ x)).toList = ps.toList.map fun p => (p.1, ρ p.2) := by
  rw [Array.toList_map]

theorem Yp.build {ps : Array (Nat × Operand)} {as0 : List (Nat × AV)} {places : List (Nat × Nat)} {zs : List Value} {cs : List AV} (ho : o.op = .build T ps) (hp : placesOf P T = some places) (hz : zerosOf P T = some zs) (he : E.evp ps.toList = some as0) (hf : afill (places.toArray[·]?) (zs.map .lit) as0 = some cs) : Yp P E σ o (.agg cs) := fun A w ρ _ hρ => by
  obtain ⟨it, hit, hz1⟩ := Option.bind_eq_some_iff.1 hz
  obtain ⟨zv, hz2, hz3⟩ := Option.map_eq_some_iff.1 hz1
  have hzr : RelL A w (zs.map .lit) zv.cells.toList := by rw [hz3]; exact RelL.lits _
  obtain ⟨us, h1, h2⟩ := fill_rel hzr (Env.evp_rel hρ he) hf
  refine ⟨.agg us, by simpa using Rel.aggL h2, fun w' _ => ?_⟩
  have hb : P.built T (ps.map fun (i, x) => (i, ρ x)).toList = some us := by
    unfold Program.built placesOf at *
    rw [hit]
    cases hu : P.underlying T with
    | none => rw [hu] at hp; cases hp
    | some d =>
      rw [hu] at hp
      cases d <;> simp only at hp <;> first | (cases hp; done) | skip
      rw [map_pair]
      simp only [hz2, hp]
      exact h1
  have := run_build (P := P) w' T _ us hb
  simp [execOp, ho, this]

theorem Yp.buildA {ps : Array (Nat × Operand)} {as0 : List (Nat × AV)} {sz n' : Nat} {zs : List Value} {cs : List AV} (ho : o.op = .build T ps) (hT : P.underlying T = some (.array n' e)) (hs : (P.info? e).map (·.size) = some sz) (hz : zerosOf P T = some zs) (he : E.evp ps.toList = some as0) (hf : afill (fun i => some (i * sz, sz)) (zs.map .lit) as0 = some cs) : Yp P E σ o (.agg cs) := fun A w ρ _ hρ => by
  obtain ⟨it, hit, hz1⟩ := Option.bind_eq_some_iff.1 hz
  obtain ⟨zv, hz2, hz3⟩ := Option.map_eq_some_iff.1 hz1
  obtain ⟨ie, hie, hse⟩ := Option.map_eq_some_iff.1 hs
  have hzr : RelL A w (zs.map .lit) zv.cells.toList := by rw [hz3]; exact RelL.lits _
  obtain ⟨us, h1, h2⟩ := fill_rel hzr (Env.evp_rel hρ he) hf
  refine ⟨.agg us, by simpa using Rel.aggL h2, fun w' _ => ?_⟩
  have hb : P.built T (ps.map fun (i, x) => (i, ρ x)).toList = some us := by
    unfold Program.built
    rw [hit, hT, map_pair]
    simp only [hz2, hie, hse]
    exact h1
  have := run_build (P := P) w' T _ us hb
  simp [execOp, ho, this]

/-! ### rows -/

/-- the cells of a list of elements, element by element -/
theorem flat_block {α : Type} [Inhabited α] {c : α → List AV} {sz : Nat} : ∀ (l : List α), (∀ i, i < l.length → (c l[i]!).length = sz) → (l.flatMap c).length = l.length * sz ∧ ∀ i, i < l.length → ((l.flatMap c).drop (i * sz)).take sz = c l[i]!
  | [], _ => ⟨by simp, fun i hi => by cases hi⟩
  | x :: l, h => by
    have h0 : (c x).length = sz := h 0 (by simp)
    obtain ⟨h1, h2⟩ := flat_block l fun i hi => by
      have := h (i + 1) (by simpa using hi)
      rwa [show (x :: l)[i + 1]! = l[i]! from by rw [getElem!_pos _ (i + 1) (by simpa using hi), getElem!_pos l i hi]; rfl] at this
    refine ⟨by rw [List.flatMap_cons, List.length_append, h0, h1, List.length_cons, Nat.succ_mul]; omega, fun i hi => ?_⟩
    rw [List.flatMap_cons]
    cases i with
    | zero => rw [Nat.zero_mul, List.drop_zero, ← h0, List.take_left']
              · rfl
              · rfl
    | succ i =>
      have hi' : i < l.length := by simpa using hi
      rw [show (x :: l)[i + 1]! = l[i]! from by rw [getElem!_pos _ (i + 1) (by simpa using hi'), getElem!_pos l i hi']; rfl, ← h2 i hi']
      rw [show (i + 1) * sz = (c x).length + i * sz from by rw [h0, Nat.succ_mul]; omega, ← List.drop_drop, List.drop_left']
      rfl

theorem row_ok {A : Nat → Prop} {w : World} {α : Type} [Inhabited α] {c : α → List AV} {sz : Nat} {l : List α} {us : List Value} {T : TypeId} (hr : RowIs w v T sz l.length us) (hz : ∀ i, i < l.length → (c l[i]!).length = sz) (h : RelL A w (l.flatMap c) us) : Res.ok A w (.row v T sz c l) :=
  ⟨us, hr, hz, fun i hi => by rw [← (flat_block l hz).2 i hi]; exact (h.drop _).take _⟩
theorem row_flat {A : Nat → Prop} {w : World} {α : Type} [Inhabited α] {c : α → List AV} {sz : Nat} {l : List α} {T : TypeId} (h : Res.ok A w (.row v T sz c l)) : ∃ us, RowIs w v T sz l.length us ∧ (∀ i, i < l.length → (c l[i]!).length = sz) ∧ RelL A w (l.flatMap c) us := by
  obtain ⟨us, h1, h2, h3⟩ := h
  refine ⟨us, h1, h2, ?_⟩
  obtain ⟨f1, f2⟩ := flat_block l h2
  refine ⟨by rw [f1, h1.1], fun j a u ha hu => ?_⟩
  have hj : j < l.length * sz := by rw [← f1]; exact (List.getElem?_eq_some_iff.1 ha).1
  have hsz : 0 < sz := by
    rcases Nat.eq_zero_or_pos sz with h | h
    · rw [h] at hj; omega
    · exact h
  have hi : j / sz < l.length := by rw [Nat.div_lt_iff_lt_mul hsz]; exact hj
  have hm : j % sz < sz := Nat.mod_lt _ hsz
  have he : j / sz * sz + j % sz = j := by rw [Nat.mul_comm]; exact Nat.div_add_mod j sz
  refine (h3 _ hi).2 (j % sz) a u ?_ ?_
  · rw [← f2 _ hi, List.getElem?_take, if_pos hm, List.getElem?_drop, he]; exact ha
  · rw [List.getElem?_take, if_pos hm, List.getElem?_drop, he]; exact hu

theorem get_append_left! {α : Type} [Inhabited α] (l l2 : List α) (i : Nat) (h : i < l.length) : (l ++ l2)[i]! = l[i]! := by
  rw [getElem!_pos _ i (by rw [List.length_append]; omega), List.getElem_append_left h, ← getElem!_pos l i h]
theorem get_append_right! {α : Type} [Inhabited α] (l l2 : List α) (i : Nat) (h : l.length ≤ i) (h2 : i < l.length + l2.length) : (l ++ l2)[i]! = l2[i - l.length]! := by
  rw [getElem!_pos _ i (by rw [List.length_append]; exact h2), List.getElem_append_right h, ← getElem!_pos l2 (i - l.length) (by omega)]
theorem unif_app {α : Type} [Inhabited α] {c : α → List AV} {sz : Nat} {l l2 : List α} (h : ∀ i, i < l.length → (c l[i]!).length = sz) (h2 : ∀ i, i < l2.length → (c l2[i]!).length = sz) : ∀ i, i < (l ++ l2).length → (c (l ++ l2)[i]!).length = sz := fun i hi => by
  rw [List.length_append] at hi
  by_cases hlt : i < l.length
  · rw [get_append_left! _ _ _ hlt]; exact h i hlt
  · rw [get_append_right! _ _ _ (by omega) hi]; exact h2 _ (by omega)

theorem zeros_flat {zs : List Value} {sz n : Nat} (hsz : zs.length = sz) (hpos : 0 < sz) : ((Array.range (n * sz)).map (zs.toArray[· % zs.toArray.size]!)).toList = (List.replicate n zs).flatten := by
  apply List.ext_getElem?
  intro j
  have hfl : (List.replicate n zs).flatten.length = n * sz := by simp [hsz]
  have hq : ∀ (q : Nat) (j : Nat), j < q * sz → (List.replicate q zs).flatten[j]? = zs[j % sz]? := by
    intro q
    induction q with
    | zero => intro j hj; simp at hj
    | succ q ih =>
      intro j hj
      rw [List.replicate_succ, List.flatten_cons, List.getElem?_append]
      split
      · rename_i h; rw [hsz] at h; rw [Nat.mod_eq_of_lt h]
      · rename_i h
        rw [hsz] at h
        rw [hsz, ih _ (by rw [Nat.succ_mul] at hj; omega), Nat.mod_eq_sub_mod (by omega : sz ≤ j)]
  by_cases hj : j < n * sz
  · rw [hq n j hj]
    have hmod : j % sz < sz := Nat.mod_lt _ hpos
    simp [hj, hsz, hmod]
  · rw [List.getElem?_eq_none (l := (List.replicate n zs).flatten) (by rw [hfl]; omega)]
    simp [hj]

theorem Yv.lit {len sz : Nat} {ps : Array (Nat × Operand)} {as0 : List (Nat × AV)} {zs : List Value} {cs : List AV} {α : Type} [Inhabited α] (c : α → List AV) (l : List α) (ho : o.op = .buildSlice T len ps) (hT : P.underlying T = some (.slice e)) (hs : (P.info? e).map (·.size) = some sz) (hz : zerosOf P e = some zs) (he : E.evp ps.toList = some as0)
    (hzl : zs.length = sz) (hf : afill (fun i => some (i * sz, sz)) ((List.replicate len zs).flatten.map .lit) as0 = some cs) (hl : l.length = len) (hc : l.flatMap c = cs) (hu : ∀ i, i < l.length → (c l[i]!).length = sz) (hpos : 0 < len * sz) (hsm : len * sz ≤ 2 ^ 24) :
    Yv P E σ o C [] (fun a σ' => ∃ v, a = .lit v ∧ σ' = .row v e sz c l :: σ) := fun w ρ hg hρ => by
  obtain ⟨it, hit, hz1⟩ := Option.bind_eq_some_iff.1 hz
  obtain ⟨zv, hz2, hz3⟩ := Option.map_eq_some_iff.1 hz1
  obtain ⟨ie, hie, hse⟩ := Option.map_eq_some_iff.1 hs
  have hee : it = ie := by rw [hit] at hie; exact Option.some.inj hie
  subst hee
  have hzc : zv.cells = zs.toArray := by rw [← hz3]
  obtain ⟨us, h1, h2⟩ := fill_rel (init := (List.replicate len zs).flatten.toArray) (RelL.lits _) (Env.evp_rel hρ he) hf
  have hrun := run_buildSlice (P := P) w T e len (ps.map fun (i, x) => (i, ρ x)) us it zv hT hit hz2 (by rw [hse]; omega) (by rw [hse]; omega) (by
    rw [hse, hzc, map_pair, ← h1]
    congr 1
    apply Array.ext'
    exact zeros_flat hzl (Nat.pos_of_mul_pos_left hpos))
  have hlp : 0 < len := Nat.pos_of_mul_pos_right hpos
  have hlen : us.toList.length = len * sz := by rw [h2.1, ← hc, (flat_block l hu).1, hl]
  refine ⟨_, w.alloc (.cells us e), _, _, ⟨.slice (some ⟨w.heap.size, 0, none⟩) len len, rfl, rfl⟩, ?_, by simp [execOp, ho, hrun], .lit _⟩
  obtain ⟨ln, rfl⟩ : ∃ ln, len = ln + 1 := ⟨len - 1, by omega⟩
  refine tr_new (r := .row (.slice (some ⟨w.heap.size, 0, none⟩) (ln + 1) (ln + 1)) e sz c l) hg (kp_alloc w _) (.inr rfl) (row_ok (us := us.toList) ?_ hu ?_)
  · rw [hl]
    refine ⟨hlen, .inr ⟨w.heap.size, ln, us, rfl, heap_alloc_new w _, Nat.le_refl _, ?_, by rw [← Array.length_toList, hlen], by rw [← hlen, List.take_length]⟩⟩
    have : ln + 1 ≤ (ln + 1) * sz := Nat.le_mul_of_pos_right _ (Nat.pos_of_mul_pos_left hpos)
    unfold maxLen
    omega
  · rw [hc]
    exact relL_new (r := .row (.slice (some ⟨w.heap.size, 0, none⟩) (ln + 1) (ln + 1)) e sz c l) h2 (.inr rfl) (kp_alloc w _)

theorem Yv.lit0 {s : Nat} {α : Type} [Inhabited α] (c : α → List AV) (sz : Nat) (ho : o.op = .buildSlice T 0 #[]) (hT : P.underlying T = some (.slice e)) (hs : (P.info? e).map (·.size) = some s) : Yv P E σ o C [] (fun a σ' => ∃ v, a = .lit v ∧ σ' = .row v e sz c ([] : List α) :: σ) := fun w ρ hg hρ => by
  obtain ⟨j, hj, hj'⟩ := Option.map_eq_some_iff.1 hs
  refine ⟨_, w.alloc (.cells #[] e), _, _, ⟨.slice (some ⟨w.heap.size, 0, none⟩) 0 0, rfl, rfl⟩, tr_new hg (kp_alloc w _) (.inl rfl) ⟨[], ⟨by simp, .inl ⟨_, rfl, rfl⟩⟩, fun i hi => by simp at hi, fun i hi => by simp at hi⟩, ?_, .lit _⟩
  simp [execOp, ho, Instr.buildSlice, run_underlying hT, sizeOf, typeInfo, hj, Instr.fill, newRow]
  rw [show Array.range 0 = #[] from rfl, Array.map_empty]

/-- make([]T, m, n) -/
theorem Yv.make {sz by' : Nat} {zs : List Value} {α : Type} [Inhabited α] (c : α → List AV) (d : α) (ho : o.op = .makeSlice T x y) (hx : E.ev x = some (.i m)) (hy : E.ev y = some (.i n)) (hT : P.underlying T = some (.slice e)) (hs : (P.info? e).map (fun i => (i.size, i.bytes)) = some (sz, by')) (hz : zerosOf P e = some zs) (hb : Nat.ble by' 4096 = true) (hsz : zs.length = sz) (hd : c d = zs.map .lit) (hpos : 0 < sz)
    (hm : 0 ≤ m ∧ m ≤ n ∧ n ≤ 1073741824) : Yv P E σ o C [] (fun a σ' => ∃ v, a = .lit v ∧ σ' = .row v e sz c (List.replicate m.toNat d) :: σ) := fun w ρ hg hρ => by
  obtain ⟨it, hit, hz1⟩ := Option.bind_eq_some_iff.1 hz
  obtain ⟨zv, hz2, hz3⟩ := Option.map_eq_some_iff.1 hz1
  obtain ⟨ie, hie, hse⟩ := Option.map_eq_some_iff.1 hs
  have hee : it = ie := by rw [hit] at hie; exact Option.some.inj hie
  subst hee
  simp only [Prod.mk.injEq] at hse
  obtain ⟨s1, s2⟩ := hse
  have hzc : zv.cells = zs.toArray := by rw [← hz3]
  have hby : by' ≤ 4096 := by simpa using hb
  obtain ⟨mm, rfl⟩ : ∃ mm : Nat, m = mm := ⟨m.toNat, by omega⟩
  obtain ⟨nn, rfl⟩ : ∃ nn : Nat, n = nn := ⟨n.toNat, by omega⟩
  have hbb : (it.bytes : Int) * (nn : Int) ≤ 281474976710656 := by
    have h1 : it.bytes * nn ≤ 4096 * 1073741824 := Nat.mul_le_mul (by omega) (by omega)
    have h' : ((it.bytes * nn : Nat) : Int) ≤ 281474976710656 := by omega
    rwa [Int.natCast_mul] at h'
  have hrun := run_make (P := P) w T e it zv hT hit hz2 .i64 .i64 mm nn (by omega) (by omega) hbb (by omega)
  rw [Int.toNat_natCast, Int.toNat_natCast] at hrun
  have hx' := (hρ _ _ hx).litEq
  have hy' := (hρ _ _ hy).litEq
  refine ⟨.slice (some ⟨w.heap.size, 0, none⟩) mm nn, w.alloc (.cells (madeCells zv.cells (nn * it.size)) e), _, _, ⟨.slice (some ⟨w.heap.size, 0, none⟩) mm nn, rfl, rfl⟩, ?_, ?_, .lit _⟩
  · rw [Int.toNat_natCast]
    have hcells : (madeCells zv.cells (nn * it.size)).toList = (List.replicate nn zs).flatten := by
      rw [hzc, s1]
      unfold madeCells
      apply List.ext_getElem?
      intro j
      have hfl : (List.replicate nn zs).flatten.length = nn * sz := by simp [hsz]
      have hq : ∀ (q : Nat) (j : Nat), j < q * sz → (List.replicate q zs).flatten[j]? = zs[j % sz]? := by
        intro q
        induction q with
        | zero => intro j hj; simp at hj
        | succ q ih =>
          intro j hj
          rw [List.replicate_succ, List.flatten_cons, List.getElem?_append]
          split
          · rename_i h; rw [hsz] at h; rw [Nat.mod_eq_of_lt h]
          · rename_i h
            rw [hsz] at h
            rw [hsz, ih _ (by rw [Nat.succ_mul] at hj; omega), Nat.mod_eq_sub_mod (by omega : sz ≤ j)]
      by_cases hj : j < nn * sz
      · rw [hq nn j hj]
        have hmod : j % sz < sz := Nat.mod_lt _ hpos
        simp [hj, hsz, hmod]
      · rw [List.getElem?_eq_none (l := (List.replicate nn zs).flatten) (by rw [hfl]; omega)]
        simp [hj]
    by_cases hn0 : nn = 0
    · have hm0 : mm = 0 := by omega
      subst hn0 hm0
      exact tr_new hg (kp_alloc w _) (.inl rfl) ⟨[], ⟨by simp, .inl ⟨_, rfl, rfl⟩⟩, fun i hi => by simp at hi, fun i hi => by simp at hi⟩
    · obtain ⟨nk, rfl⟩ : ∃ nk, nn = nk + 1 := ⟨nn - 1, by omega⟩
      have hu : ∀ i, i < (List.replicate mm d).length → (c (List.replicate mm d)[i]!).length = sz := fun i hi => by
        rw [getElem!_pos _ i hi, List.getElem_replicate, hd, List.length_map, hsz]
      have hfl : ∀ q, (List.replicate q zs).flatten.length = q * sz := fun q => by simp [hsz]
      have hfl2 : ∀ q : Nat, (List.replicate q d).flatMap c = ((List.replicate q zs).flatten).map .lit := fun q => by
        induction q with
        | zero => rfl
        | succ q ih => rw [List.replicate_succ, List.replicate_succ, List.flatMap_cons, List.flatten_cons, List.map_append, ih, hd]
      have htk : ∀ q q' : Nat, q ≤ q' → ((List.replicate q' zs).flatten).take (q * sz) = (List.replicate q zs).flatten := fun q q' h => by
        obtain ⟨r, rfl⟩ : ∃ r, q' = q + r := ⟨q' - q, by omega⟩
        rw [← List.replicate_append_replicate, List.flatten_append, ← hfl q]
        exact List.take_left
      refine tr_new (r := .row (.slice (some ⟨w.heap.size, 0, none⟩) mm (nk + 1)) e sz c (List.replicate mm d)) hg (kp_alloc w _) (.inr rfl) (row_ok (us := (List.replicate mm zs).flatten) ?_ hu ?_)
      · rw [List.length_replicate]
        refine ⟨hfl mm, .inr ⟨w.heap.size, nk, _, rfl, heap_alloc_new w _, by omega, by unfold maxLen; omega, ?_, by rw [hcells]; exact htk _ _ (by omega)⟩⟩
        rw [← Array.length_toList, hcells, hfl]
      · rw [hfl2]
        exact RelL.lits _
  · simp [execOp, ho, hx', hy', hrun]

/-! ### append -/

theorem run_append_row {w : World} {ty : TypeId} {i : TypeInfo} {zz : Value} {sz by' nn mm : Nat} {us news : List Value} {xs : Value} (ht : P.underlying T = some (.slice e)) (hi : P.info? e = some i) (hz : i.zero = some zz) (hs : i.size = sz) (hby : i.bytes = by') (hzs : zz.cells.size = sz)
    (hrow : RowIs w v e sz nn us) (hx : ∃ p c, xs = .slice p mm c ∧ (mm = 0 ∨ ∃ a, p = some a ∧ ∀ j u, news[j]? = some u → w.cell? (a.add j) = some u)) (hl : news.length = mm * sz) (h1 : ∀ u ∈ news, u.oneCell' = true) (h63 : nn + mm ≤ maxLen) (hb : (nn + mm) * by' ≤ 140737488355328) :
    ∃ v' w', (Builtin.append_ #[T, T] ty #[v, xs]).run P w = .ok v' w' ∧ RowIs w' v' e sz (nn + mm) (us ++ news) ∧ Kp (rblk v).toList w w' ∧ (rblk v' = rblk v ∨ rblk v' = some w.heap.size) := by
  subst hs hby
  obtain ⟨p, cx, rfl, hx⟩ := hx
  by_cases hm : mm = 0
  · subst hm
    have hn : news = [] := List.eq_nil_of_length_eq_zero (by simpa using hl)
    subst hn
    obtain ⟨q, cap, rfl, hcap⟩ := hrow.len
    have hf : ∀ w, (Builtin.firstCells i.size 0 (.slice p 0 cx)).run P w = .ok #[] w := fun w => by
      cases p <;> simp [Builtin.firstCells, loadCells, loadCellsFrom]
    have hrun : (Builtin.append_ #[T, T] ty #[.slice q nn cap, .slice p 0 cx]).run P w = .ok (.slice q nn cap) w := by
      cases q <;> simp [Builtin.append_, run_underlying ht, sizeOf, typeInfo, hi, Builtin.lenOf, hf, hcap, storeCells]
    exact ⟨_, w, hrun, by simpa using hrow, Kp.refl _ _, .inl rfl⟩
  · obtain ⟨a, rfl, hc⟩ := hx.resolve_left hm
    have grown : ∀ (olds : List Value) (old : Nat), olds.length = nn * i.size → old < nn + mm → us = olds →
        RowIs (w.drew.alloc (.cells (olds.toArray ++ news.toArray ++ Builtin.zeroCells zz.cells (grownCap w (nn + mm) old e - (nn + mm))) e)) (.slice (some ⟨w.heap.size, 0, none⟩) (nn + mm) (grownCap w (nn + mm) old e)) e i.size (nn + mm) (us ++ news) := by
      intro olds old hol hlt hus
      subst hus
      have hge := grownCap_ge w (nn + mm) old e
      have hcm := grownCap_le_maxLen w (nn + mm) old e h63
      obtain ⟨ck, hck⟩ : ∃ ck, grownCap w (nn + mm) old e = ck + 1 := ⟨grownCap w (nn + mm) old e - 1, by omega⟩
      refine ⟨by rw [List.length_append, hol, hl, Nat.add_mul], .inr ⟨w.heap.size, ck, _, by rw [hck], heap_alloc_new w.drew _, by omega, by omega, ?_, ?_⟩⟩
      · rw [← hck]
        simp only [Array.size_append, List.size_toArray, size_zeroCells, hzs, hol, hl, ← Nat.add_mul]
        congr 1
        omega
      · simp only [Array.toList_append, List.append_assoc]
        rw [← List.append_assoc, show (nn + mm) * i.size = (us ++ news).length from by rw [List.length_append, hol, hl, Nat.add_mul]]
        exact List.take_left
    rcases hrow.2 with ⟨q, rfl, rfl⟩ | ⟨g, cap, cur, rfl, hg, hnc, hcm, hcs, htake⟩
    · have hu : us = [] := List.eq_nil_of_length_eq_zero (by simpa using hrow.1)
      have hgr := grown [] 0 (by simp) (by omega) hu
      rw [Nat.zero_add] at hgr hb h63
      have hgc := grownCap_ge w mm 0 e
      have hrb : rblk (.slice (some ⟨w.heap.size, 0, none⟩) mm (grownCap w mm 0 e)) = some w.heap.size := by
        obtain ⟨ck, hck⟩ : ∃ ck, grownCap w mm 0 e = ck + 1 := ⟨grownCap w mm 0 e - 1, by omega⟩
        rw [hck]; rfl
      have h63' : (mm : Int) ≤ 9223372036854775807 := by unfold maxLen at h63; omega
      cases q with
      | none =>
        have hr := run_append_nil (P := P) w T ty e i zz ht hi hz a mm cx news hl hc (by omega) h63' (by omega)
        refine ⟨_, _, hr, ?_, kp_alloc' w _, .inr hrb⟩
        rw [Nat.zero_add]
        simpa using hgr
      | some b =>
        have hr := run_append_grow (P := P) w T ty e i zz ht hi hz b 0 0 [] (by simp) (fun j v hj => by cases hj) a mm cx news hl hc (by omega) (by simpa using h63') (growslice_fits (by omega) (by rw [Nat.zero_add]; exact hb))
        refine ⟨_, _, hr, ?_, kp_alloc' w _, .inr (by rw [Nat.zero_add]; exact hrb)⟩
        rw [Nat.zero_add]
        exact hgr
    · by_cases hroom : nn + mm ≤ cap + 1
      · have hfit : nn * i.size + news.length ≤ cur.size := by rw [hl, hcs, ← Nat.add_mul]; exact Nat.mul_le_mul_right _ hroom
        have hr := run_append_room (P := P) w T ty e i ht hi g nn (cap + 1) cur hg a mm cx news hl hc h1 hroom hfit
        refine ⟨_, _, hr, ⟨by rw [List.length_append, hrow.1, hl, Nat.add_mul], .inr ⟨g, cap, _, rfl, setRow_heap w g cur _ e _ hg, hroom, hcm, ?_, ?_⟩⟩, kp_setRow w g _, .inl rfl⟩
        · simp only [List.size_toArray, List.length_append, List.length_take, List.length_drop, Array.length_toList]
          omega
        · rw [htake, show (nn + mm) * i.size = (us ++ news).length from by rw [List.length_append, hrow.1, hl, Nat.add_mul]]
          exact List.take_left
      · have holds : ∀ j v, us[j]? = some v → w.cell? ((⟨g, 0, none⟩ : Addr).add j) = some v := fun j v hj => by
          rw [add0, Nat.zero_add]; exact hrow.cells rfl j v hj
        have h63' : ((nn + mm : Nat) : Int) ≤ 9223372036854775807 := by unfold maxLen at h63; omega
        have hr := run_append_grow (P := P) w T ty e i zz ht hi hz ⟨g, 0, none⟩ nn (cap + 1) us hrow.1 holds a mm cx news hl hc (by omega) h63' (growslice_fits (by omega) hb)
        have hgr := grown us (cap + 1) hrow.1 (by omega) rfl
        have hgc := grownCap_ge w (nn + mm) (cap + 1) e
        refine ⟨_, _, hr, hgr, ⟨rfl, rfl, rfl, by simp, fun k hk _ => heap_alloc_old w.drew _ hk⟩, .inr ?_⟩
        obtain ⟨ck, hck⟩ : ∃ ck, grownCap w (nn + mm) (cap + 1) e = ck + 1 := ⟨grownCap w (nn + mm) (cap + 1) e - 1, by omega⟩
        rw [hck]; rfl

/-- the elements of an operand, as0 append and copy take them -/
def Src {α : Type} [Inhabited α] (σ : List Res) (E : Env) (x : Operand) (e : TypeId) (sz : Nat) (c : α → List AV) (l : List α) : Prop :=
  (E.ev x = some (.lit (.slice none 0 0)) ∧ l = []) ∨ E.ev x = some (.sl sz c l) ∨ ∃ (i : Nat) (v : Value), E.ev x = some (.lit v) ∧ σ[i]? = some (.row v e sz c l)

theorem Src.spec {α : Type} [Inhabited α] {sz : Nat} {c : α → List AV} {l : List α} {A : Nat → Prop} {w : World} {ρ : Operand → Value} (h : Src σ E x e sz c l) (hd : Hd A σ w) (hρ : Ops A w E ρ) : ∃ p cap news, ρ x = .slice p l.length cap ∧ (l.length = 0 ∨ ∃ a, p = some a ∧ ∀ j u, news[j]? = some u → w.cell? (a.add j) = some u) ∧ news.length = l.length * sz ∧ (∀ i, i < l.length → (c l[i]!).length = sz) ∧ RelL A w (l.flatMap c) news ∧ l.length ≤ 9223372036854775807 := by
  rcases h with ⟨h, rfl⟩ | h | ⟨i, v, h, hσ⟩
  · exact ⟨none, 0, [], (hρ _ _ h).litEq, .inl rfl, by simp, fun i hi => by simp at hi, RelL.nil, by simp⟩
  · have hr := hρ _ _ h
    obtain ⟨p, cap, u, hv, hl, _, hz, hc, hcr⟩ := hr.slInv
    rw [hv] at hr
    let news : List Value := (List.range l.length).flatMap fun i => (List.range sz).map fun j => u i j
    have hnl : ∀ (q : List Nat), (q.flatMap fun i => (List.range sz).map fun j => u i j).length = q.length * sz := fun q => by
      induction q with
      | nil => simp
      | cons a q ih => rw [List.flatMap_cons, List.length_append, ih, List.length_map, List.length_range, List.length_cons, Nat.succ_mul]; omega
    have hnews : news.length = l.length * sz := by rw [hnl, List.length_range]
    have hget : ∀ n i j, i < n → j < sz → ((List.range n).flatMap fun i => (List.range sz).map fun j => u i j)[i * sz + j]? = some (u i j) := by
      intro n
      induction n with
      | zero => intro i j hi _; omega
      | succ n ih =>
        intro i j hi hj
        rw [List.range_succ, List.flatMap_append, List.getElem?_append, hnl, List.length_range]
        by_cases hin : i < n
        · have : i * sz + sz ≤ n * sz := by rw [← Nat.succ_mul]; exact Nat.mul_le_mul_right _ hin
          rw [if_pos (by omega)]
          exact ih i j hin hj
        · have : i = n := by omega
          subst this
          rw [if_neg (by omega)]
          simp [hj]
    refine ⟨p, cap, news, hv, ?_, hnews, hz, ?_, hl⟩
    · by_cases h0 : l.length = 0
      · exact .inl h0
      · obtain ⟨b, off, hp, hb, hA, hcc⟩ := hc 0 (by omega)
        refine .inr ⟨⟨b, off, none⟩, hp, fun j v hj => ?_⟩
        have hjl : j < l.length * sz := by rw [← hnews]; exact (List.getElem?_eq_some_iff.1 hj).1
        have hsz : 0 < sz := by
          rcases Nat.eq_zero_or_pos sz with h | h
          · rw [h] at hjl; omega
          · exact h
        have hi : j / sz < l.length := by rw [Nat.div_lt_iff_lt_mul hsz]; exact hjl
        have hm : j % sz < sz := Nat.mod_lt _ hsz
        have he : j / sz * sz + j % sz = j := by rw [Nat.mul_comm]; exact Nat.div_add_mod j sz
        have h2 := hget l.length (j / sz) (j % sz) hi hm
        rw [he] at h2
        have h3 : some v = some (u (j / sz) (j % sz)) := by rw [← hj, ← h2]
        cases h3
        obtain ⟨b', off', hp', _, _, hcc'⟩ := hc (j / sz) hi
        rw [hp] at hp'
        cases hp'
        have h4 := hcc' (j % sz) hm
        rw [add0, show off + j = off + j / sz * sz + j % sz from by omega]
        exact h4
    · obtain ⟨f1, f2⟩ := flat_block l hz
      refine ⟨by rw [f1, hnews], fun j a w' ha hw' => ?_⟩
      have hjl : j < l.length * sz := by rw [← hnews]; exact (List.getElem?_eq_some_iff.1 hw').1
      have hsz : 0 < sz := by
        rcases Nat.eq_zero_or_pos sz with h | h
        · rw [h] at hjl; omega
        · exact h
      have hi : j / sz < l.length := by rw [Nat.div_lt_iff_lt_mul hsz]; exact hjl
      have hm : j % sz < sz := Nat.mod_lt _ hsz
      have he : j / sz * sz + j % sz = j := by rw [Nat.mul_comm]; exact Nat.div_add_mod j sz
      have h2 := hget l.length (j / sz) (j % sz) hi hm
      rw [he] at h2
      have h3 : some w' = some (u (j / sz) (j % sz)) := by rw [← hw', ← h2]
      cases h3
      refine hcr (j / sz) (j % sz) a hi ?_
      rw [← f2 _ hi, List.getElem?_take, if_pos hm, List.getElem?_drop, he]
      exact ha
  · obtain ⟨us, h1, h2, h3⟩ := row_flat (hd.1 _ (List.mem_of_getElem? hσ))
    obtain ⟨p, cap, hv, _⟩ := h1.len
    have hx' := (hρ _ _ h).litEq
    have hlm : l.length ≤ 9223372036854775807 := by
      rcases h1.2 with ⟨_, _, h⟩ | ⟨_, _, _, _, _, q1, q2, _⟩
      · omega
      · unfold maxLen at q2; omega
    refine ⟨p, cap, us, by rw [hx', hv], ?_, h1.1, h2, h3, hlm⟩
    by_cases h0 : l.length = 0
    · exact .inl h0
    · obtain ⟨g, ck, cur, hv2, hgb, _⟩ := h1.at (by omega)
      rw [hv2] at hv
      cases hv
      refine .inr ⟨_, rfl, fun j u hj => ?_⟩
      rw [add0, Nat.zero_add]
      exact h1.cells hgb j u hj

/-- append(v, l2...) onto an own slice -/
theorem Yv.app {sz by' : Nat} {α : Type} [Inhabited α] {c : α → List AV} {l l2 : List α} {zs : List Value} (i : Nat) (ho : o.op = .call { callee := .builtin .append, args := #[x, y], argTypes := #[T, T] }) (hx : E.ev x = some (.lit v)) (hσ : σ[i]? = some (.row v e sz c l)) (hy : Src σ E y e sz c l2) (hT : P.underlying T = some (.slice e)) (hs : (P.info? e).map (fun i => (i.size, i.bytes)) = some (sz, by')) (hz : zerosOf P e = some zs) (hzl : zs.length = sz) (hb : Nat.ble by' 4096 = true)
    (h1 : ∀ x : α, (c x).all acell1 = true) (hlen : (l ++ l2).length ≤ 1073741824) : Yv P E σ o C (Option.toList (rblk v)) (fun a σ' => ∃ v', a = .lit v' ∧ σ' = σ.set i (.row v' e sz c (l ++ l2))) := fun w ρ hg hρ => by
  obtain ⟨it, hit, hz1⟩ := Option.bind_eq_some_iff.1 hz
  obtain ⟨zv, hz2, hz3⟩ := Option.map_eq_some_iff.1 hz1
  obtain ⟨ie, hie, hse⟩ := Option.map_eq_some_iff.1 hs
  have hee : it = ie := by rw [hit] at hie; exact Option.some.inj hie
  subst hee
  simp only [Prod.mk.injEq] at hse
  obtain ⟨s1, s2⟩ := hse
  have hby : by' ≤ 4096 := by simpa using hb
  obtain ⟨us, g1, g2, g3⟩ := row_flat (hg.res _ (List.mem_of_getElem? hσ))
  obtain ⟨p, cap, news, q1, q2, q3, q4, q5, q6⟩ := hy.spec hg.hd hρ
  have hx' := (hρ _ _ hx).litEq
  have hone : ∀ u ∈ news, u.oneCell' = true := q5.one (by
    rw [List.all_eq_true]
    intro a ha
    obtain ⟨x, _, hx⟩ := List.mem_flatMap.1 ha
    exact List.all_eq_true.1 (h1 x) a hx)
  rw [List.length_append] at hlen
  have hbytes : (l.length + l2.length) * by' ≤ 140737488355328 := by
    have : (l.length + l2.length) * by' ≤ 1073741824 * 4096 := Nat.mul_le_mul hlen hby
    omega
  obtain ⟨v', w', r1, r2, r3, r4⟩ := run_append_row (P := P) (T := T) (ty := o.type) (xs := ρ y) hT hit hz2 s1 s2 (by rw [← Array.length_toList, hz3, hzl]) g1 ⟨p, cap, q1, q2⟩ q3 hone (by unfold maxLen; omega) hbytes
  refine ⟨v', w', _, _, ⟨v', rfl, rfl⟩, tr_upd (r := .row v e sz c l) hg hσ r3 r4 (row_ok (by rw [List.length_append]; exact r2) (unif_app g2 q4) ?_), ?_, .lit _⟩
  · rw [List.flatMap_append]
    refine (g3.app q5).mono fun b hb hA => ⟨⟨hA.1, fun hx => ?_⟩, r3.block b hb (fun hx => hA.2 (mem_blks.2 ⟨_, List.mem_of_getElem? hσ, by simpa [Res.blk] using hx⟩))⟩
    obtain ⟨s, hs1, hs2⟩ := mem_blks.1 hx
    rcases List.mem_or_eq_of_mem_set hs1 with h | h
    · exact hA.2 (mem_blks.2 ⟨s, h, hs2⟩)
    · rw [h] at hs2
      rcases r4 with r4 | r4
      · exact hA.2 (mem_blks.2 ⟨_, List.mem_of_getElem? hσ, r4.symm.trans hs2⟩)
      · have : some w.heap.size = some b := r4.symm.trans hs2
        cases this
        omega
  · simp [execOp, ho, resolve, invoke, builtin, hx', r1]
end
end Go.Ab
end
