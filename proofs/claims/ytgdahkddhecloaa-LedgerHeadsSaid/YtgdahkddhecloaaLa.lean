/- Functions. -/
import Derived.Test.YtgdahkddhecloaaUs
set_option linter.unusedSectionVars false
set_option linter.unusedVariables false
set_option linter.unusedSimpArgs false
set_option maxRecDepth 100000
namespace Go.Proofs.Ytgdahkddhecloaa
open Go Go.Iv
/-! ### 29: keyhole/ledger.fields -/
noncomputable def F29 : Orc := or0
theorem F29_ok : OrcG Try.prog F29 := or0_g
abbrev E29 : Type := Unit × Record
abbrev P29_e : Type := (Unit × Unit) × (Record × ((Unit × Unit × Unit × Unit × Unit × Unit × Unit × Unit × Unit × Unit)) × Unit)
noncomputable def rb29_e : St → Option P29_e := stR 2 (slC 2 (asP 1 0) slN) (rsN2 0 23 (asCs 23) (rsN2 1 72 (pkC (asP 0 0) (pkC (asP 0 1) (pkC (asP 0 2) (pkC (asP 0 3) (pkC (asP 0 4) (pkC (asP 0 5) (pkC (asP 0 6) (pkC (asP 0 7) (pkC (asP 0 8) pkN))))))))) rsN))
noncomputable def pb29_e : P29_e → St := stP 2 (fun z => [(2, .ptr 1 0)]) (fun z => [(0, .box 23 (uni.cells 23 z.1)), (1, .box 72 [.ptr 0 0, .ptr 0 1, .ptr 0 2, .ptr 0 3, .ptr 0 4, .ptr 0 5, .ptr 0 6, .ptr 0 7, .ptr 0 8])])
noncomputable def mk29_e (z : P29_e) : E29 := ((), z.2.1)
noncomputable def pt29_e (x : E29) : St := pb29_e (((), ()), (x.2, ((), (), (), (), (), (), (), (), (), ()), ()))
noncomputable def rd29_e : St → Option E29 := rdC 1 [] [2] (rdM mk29_e rb29_e)
theorem rb29_e_ok (n : Nat) : RdOk 1 n rb29_e pb29_e := stR_ok (.cons (.p 1 0) .nil) (.boxN (PkN.parse 23) (.boxN (.cons (.p 0 0) (.cons (.p 0 1) (.cons (.p 0 2) (.cons (.p 0 3) (.cons (.p 0 4) (.cons (.p 0 5) (.cons (.p 0 6) (.cons (.p 0 7) (.cons (.p 0 8) .nil))))))))) .nil))
theorem rd29_e_ok (n : Nat) : RdOk 1 n rd29_e pt29_e := rdC_ok ((rb29_e_ok n).m mk29_e (pat' := pt29_e) fun _ => rfl)
noncomputable def an29 : An := .no
theorem fa29 : FnAn Try.prog (F29) 1 300 29 (an29) := fnAn_of (l := []) Try.func29 (bodyOf_eq (by kernel_rfl)) (by kernel_rfl) fun p hp => by
  cases hp
noncomputable def m29 (b0 : Record) : E29 :=
  ((), b0)
theorem c29 (b0 : Record) : callR Try.prog (F29) 300 (an29) 29 [.ptr 0 0] [(0, .box 23 (uni.cells 23 b0))] 1 rd29_e = some (m29 b0) := by kernel_rfl
noncomputable def o29 (x : E29) : Out := match (match outOf Try.prog 29 (pt29_e x) with
    | some ds => some (Out.mk (resA ds) (keepR (pt29_e x).R 1 (resA ds)) (pt29_e x).nx)
    | none => none) with
  | some o => o
  | none => ⟨.tup [], [], 0⟩
theorem fn29 (b0 : Record) (r : E29) (h : m29 b0 = r) : fnOk Try.prog 29 ∧ FnY Try.prog 29 [.ptr 0 0] [(0, .box 23 (uni.cells 23 b0))] 1 (o29 r) :=
  fnY_of (p := r) F29_ok (fa29) rd29_e_ok (fun p => by kernel_rfl) (ltd_of (by kernel_rfl)) (rltd_of (by kernel_rfl)) ((c29 b0).trans (congrArg some h))
theorem fnok29 : fnOk Try.prog 29 := ⟨_, Try.func29, by kernel_rfl, by kernel_rfl⟩
noncomputable def e29 (F : Orc) : Orc := orY 29 1 (qyR (pkC (asP 0 0) pkN) (rsN2 0 23 (asCs 23) rsN)) (fun g => some (m29 g.2.1) : ((Unit × Unit) × (Record × Unit)) → Option E29) o29 F
theorem e29_ok {F : Orc} (h : OrcG Try.prog F) : OrcG Try.prog (e29 F) := orY_g h fnok29 (qyR_ok (ca := fun g => [.ptr 0 0]) (cr := fun g => [(0, .box 23 (uni.cells 23 g.1))]) ((.cons (.p 0 0) .nil) : PkN (pkC (asP 0 0) pkN) _) ((.boxN (PkN.parse 23) .nil) : RsOk (rsN2 0 23 (asCs 23) rsN) _)) (fun b => by kernel_rfl) (fun g b hb => (fn29 g.2.1 b (Option.some.inj hb)).2)
theorem e29_skip {F : Orc} {f : Nat} (hne : Nat.beq f 29 = false) (h : PureF F f) : PureF (e29 F) f := orY_skip hne h
/-! ### 30: keyhole/ledger.field -/
noncomputable def F30 : Orc := or0
theorem F30_ok : OrcG Try.prog F30 := or0_g
abbrev E30 : Type := Bool
abbrev P30_e : Type := (Bool × Unit) × (Unit)
noncomputable def rb30_e : St → Option P30_e := stR 0 (slC 2 asB slN) rsN
noncomputable def pb30_e : P30_e → St := stP 0 (fun z => [(2, .b z.1)]) (fun z => [])
noncomputable def mk30_e (z : P30_e) : E30 := z.1.1
noncomputable def pt30_e (x : E30) : St := pb30_e ((x, ()), (()))
noncomputable def rd30_e : St → Option E30 := rdC 0 [] [2] (rdM mk30_e rb30_e)
theorem rb30_e_ok (n : Nat) : RdOk 0 n rb30_e pb30_e := stR_ok (.cons .b .nil) .nil
theorem rd30_e_ok (n : Nat) : RdOk 0 n rd30_e pt30_e := rdC_ok ((rb30_e_ok n).m mk30_e (pat' := pt30_e) fun _ => rfl)
noncomputable def an30 : An := (.two .no (.two (.rb [] 2) .no))
theorem pu30  : ∀ f ∈ ([] : List Nat), PureF (F30) f := fun f hf => by
  cases hf
theorem fa30 : FnAn Try.prog (F30) 0 300 30 (an30) := fnAn_of (l := [(.skip, (.rb [] 2))]) Try.func30 (bodyOf_eq (by kernel_rfl)) (by kernel_rfl) fun p hp => by
  simp only [List.mem_cons, List.not_mem_nil, or_false] at hp
  rcases hp with rfl
  · exact pu30
noncomputable def m30 (a0 : Int) : E30 :=
  let r1 : Bool := bif decide (0 ≤ a0) then
    decide (a0 ≤ 2147483647)
  else
    false
  r1
theorem c30 (a0 : Int) : callR Try.prog (F30) 300 (an30) 30 [.n .i64 a0] [] 0 rd30_e = some (m30 a0) := by
  refine Eq.trans (b := (
    match bif decide (0 ≤ a0) then
      some (decide (a0 ≤ 2147483647))
    else
      some (false) with
    | none =>
      none
    | some r1 =>
      some (r1) : Option E30)) (by kernel_rfl) ?_
  simp only [m30, cond_some, ite_some]
noncomputable def o30 (x : E30) : Out := match (match outOf Try.prog 30 (pt30_e x) with
    | some ds => some (Out.mk (resA ds) (keepR (pt30_e x).R 0 (resA ds)) (pt30_e x).nx)
    | none => none) with
  | some o => o
  | none => ⟨.tup [], [], 0⟩
theorem fn30 (a0 : Int) (r : E30) (h : m30 a0 = r) : fnOk Try.prog 30 ∧ FnY Try.prog 30 [.n .i64 a0] [] 0 (o30 r) :=
  fnY_of (p := r) F30_ok (fa30) rd30_e_ok (fun p => by kernel_rfl) (ltd_of (by kernel_rfl)) (rltd_of (by kernel_rfl)) ((c30 a0).trans (congrArg some h))
theorem fnok30 : fnOk Try.prog 30 := ⟨_, Try.func30, by kernel_rfl, by kernel_rfl⟩
noncomputable def e30 (F : Orc) : Orc := orL 30 false (pkC (asI .i64) pkN) (fun g => some (m30 g.1) : (Int × Unit) → Option E30) o30 F
theorem e30_ok {F : Orc} (h : OrcG Try.prog F) : OrcG Try.prog (e30 F) := orL_g (sc := scU) h scU_ok fnok30 (ca := fun g => [.n .i64 g.1]) ((.cons (.i .i64) .nil) : PkN (pkC (asI .i64) pkN) _) (fun b => by kernel_rfl) (fun b => by kernel_rfl) (fun g b hb => (fn30 g.1 b (Option.some.inj hb)).2)
theorem e30_pure {F : Orc} {f : Nat} (h : PureF F f) : PureF (e30 F) f := orL_pure h (fun b => by kernel_rfl)
/-! ### 31: keyhole/ledger.put -/
noncomputable def F31 : Orc := or0
theorem F31_ok : OrcG Try.prog F31 := or0_g
structure L31_1 where
  t0 : List Int
  t1 : Int
  t8 : Int
  t9 : Int
  t10 : List Int
  t11 : Int
  t12 : Int
abbrev P31_1 : Type := (Unit × Int × Int × Int × Unit × Int × Int × Unit) × ((List Int) × (List Int) × Unit)
noncomputable def rb31_1 : St → Option P31_1 := stR 3 (slC 0 (asO 2) (slC 1 (asI .i64) (slC 8 (asI .i64) (slC 9 (asI .i64) (slC 10 (asO 1) (slC 11 (asI .i64) (slC 12 (asI .i64) slN))))))) (rsR 1 3 (rsR 2 5 rsN))
noncomputable def pb31_1 : P31_1 → St := stP 3 (fun z => [(0, .own 2), (1, .n .i64 z.2.1), (8, .n .i64 z.2.2.1), (9, .n .i64 z.2.2.2.1), (10, .own 1), (11, .n .i64 z.2.2.2.2.2.1), (12, .n .i64 z.2.2.2.2.2.2.1)]) (fun z => [(1, .row 3 z.1), (2, .row 5 z.2.1)])
noncomputable def mk31_1 (z : P31_1) : L31_1 := ⟨z.2.2.1, z.1.2.1, z.1.2.2.1, z.1.2.2.2.1, z.2.1, z.1.2.2.2.2.2.1, z.1.2.2.2.2.2.2.1⟩
noncomputable def pt31_1 (x : L31_1) : St := pb31_1 (((), x.t1, x.t8, x.t9, (), x.t11, x.t12, ()), (x.t10, x.t0, ()))
noncomputable def rd31_1 : St → Option L31_1 := rdC 2 [] [0, 1, 8, 9, 10, 11, 12] (rdM mk31_1 rb31_1)
theorem rb31_1_ok (n : Nat) : RdOk 2 n rb31_1 pb31_1 := stR_ok (.cons (.o 2) (.cons (.i .i64) (.cons (.i .i64) (.cons (.i .i64) (.cons (.o 1) (.cons (.i .i64) (.cons (.i .i64) .nil))))))) (.row (.row .nil))
theorem rd31_1_ok (n : Nat) : RdOk 2 n rd31_1 pt31_1 := rdC_ok ((rb31_1_ok n).m mk31_1 (pat' := pt31_1) fun _ => rfl)
noncomputable def n31_1 (p : L31_1) : Option (Option L31_1) :=
  bif decide (0 ≤ p.t9) then
    if 0 ≤ IntKind.i64.wrap (8 * p.t9) then
      if (p.t0 ++ [IntKind.u8.wrap (bShr IntKind.i64 p.t8 (IntKind.i64.wrap (8 * p.t9)))]).length ≤ 1073741824 then
        some (some (L31_1.mk (p.t0 ++ [IntKind.u8.wrap (bShr IntKind.i64 p.t8 (IntKind.i64.wrap (8 * p.t9)))]) p.t1 p.t8 (IntKind.i64.wrap (p.t9 - 1)) p.t10 p.t11 p.t12))
      else
        none
    else
      none
  else
    some (none)
theorem q31_1 (p : L31_1) : execA Try.prog (F31) Try.f31.ntmps 300 (loopAt Try.f31 1) .no (Option L31_1) (pt31_1 p) (kOn rd31_1) = n31_1 p := by kernel_rfl
noncomputable def a31_1 : L31_1 → Option L31_1 := advG (n31_1)
structure L31_0 where
  t0 : List Int
  t1 : Int
  t10 : List Int
  t11 : Int
  t12 : Int
abbrev P31_0 : Type := (Unit × Int × Unit × Int × Int × Unit) × ((List Int) × (List Int) × Unit)
noncomputable def rb31_0 : St → Option P31_0 := stR 3 (slC 0 (asO 2) (slC 1 (asI .i64) (slC 10 (asO 1) (slC 11 (asI .i64) (slC 12 (asI .i64) slN))))) (rsR 1 3 (rsR 2 5 rsN))
noncomputable def pb31_0 : P31_0 → St := stP 3 (fun z => [(0, .own 2), (1, .n .i64 z.2.1), (10, .own 1), (11, .n .i64 z.2.2.2.1), (12, .n .i64 z.2.2.2.2.1)]) (fun z => [(1, .row 3 z.1), (2, .row 5 z.2.1)])
noncomputable def mk31_0 (z : P31_0) : L31_0 := ⟨z.2.2.1, z.1.2.1, z.2.1, z.1.2.2.2.1, z.1.2.2.2.2.1⟩
noncomputable def pt31_0 (x : L31_0) : St := pb31_0 (((), x.t1, (), x.t11, x.t12, ()), (x.t10, x.t0, ()))
noncomputable def rd31_0 : St → Option L31_0 := rdC 2 [0] [0, 1, 10, 11, 12] (rdM mk31_0 rb31_0)
theorem rb31_0_ok (n : Nat) : RdOk 2 n rb31_0 pb31_0 := stR_ok (.cons (.o 2) (.cons (.i .i64) (.cons (.o 1) (.cons (.i .i64) (.cons (.i .i64) .nil))))) (.row (.row .nil))
theorem rd31_0_ok (n : Nat) : RdOk 2 n rd31_0 pt31_0 := rdC_ok ((rb31_0_ok n).m mk31_0 (pat' := pt31_0) fun _ => rfl)
noncomputable def n31_0 (p : L31_0) : Option (Option L31_0) :=
  bif decide (p.t12 < p.t11) then
    if 0 ≤ p.t12 ∧ p.t12 < (↑p.t10.length : Int) then
      if 3 = 3 ∧ p.t12.toNat < p.t10.length then
        match a31_1 (L31_1.mk p.t0 p.t1 p.t10[p.t12.toNat]! (IntKind.i64.wrap (p.t1 - 1)) p.t10 p.t11 p.t12) with
        | none =>
          none
        | some r1 =>
          bif decide (0 ≤ r1.t9) then
            if 0 ≤ IntKind.i64.wrap (8 * r1.t9) then
              if (r1.t0 ++ [IntKind.u8.wrap (bShr IntKind.i64 r1.t8 (IntKind.i64.wrap (8 * r1.t9)))]).length ≤ 1073741824 then
                none
              else
                none
            else
              none
          else
            some (some (L31_0.mk r1.t0 r1.t1 r1.t10 r1.t11 (IntKind.i64.wrap (r1.t12 + 1))))
      else
        none
    else
      none
  else
    some (none)
theorem q31_0 (p : L31_0) : execA Try.prog (F31) Try.f31.ntmps 300 (loopAt Try.f31 0) (.two .no (.two .no (.two (.two .no (.two .no (.lp L31_1 rd31_1 pt31_1 a31_1 .no))) .no))) (Option L31_0) (pt31_0 p) (kOn rd31_0) = n31_0 p := by kernel_rfl
noncomputable def a31_0 : L31_0 → Option L31_0 := advG (n31_0)
abbrev E31 : Type := (List Int) × (List Int)
abbrev P31_e : Type := (Unit × Unit) × ((List Int) × (List Int) × Unit)
noncomputable def rb31_e : St → Option P31_e := stR 3 (slC 6 (asO 2) slN) (rsR 1 3 (rsR 2 5 rsN))
noncomputable def pb31_e : P31_e → St := stP 3 (fun z => [(6, .own 2)]) (fun z => [(1, .row 3 z.1), (2, .row 5 z.2.1)])
noncomputable def mk31_e (z : P31_e) : E31 := (z.2.2.1, z.2.1)
noncomputable def pt31_e (x : E31) : St := pb31_e (((), ()), (x.2, x.1, ()))
noncomputable def rd31_e : St → Option E31 := rdC 2 [] [6] (rdM mk31_e rb31_e)
theorem rb31_e_ok (n : Nat) : RdOk 2 n rb31_e pb31_e := stR_ok (.cons (.o 2) .nil) (.row (.row .nil))
theorem rd31_e_ok (n : Nat) : RdOk 2 n rd31_e pt31_e := rdC_ok ((rb31_e_ok n).m mk31_e (pat' := pt31_e) fun _ => rfl)
noncomputable def an31 : An := (.two .no (.two (.two .no (.lp L31_0 rd31_0 pt31_0 a31_0 (.two .no (.two .no (.two (.two .no (.two .no (.lp L31_1 rd31_1 pt31_1 a31_1 .no))) .no))))) .no))
theorem fa31 : FnAn Try.prog (F31) 2 300 31 (an31) := fnAn_of (l := [(loopAt Try.f31 0, (.lp L31_0 rd31_0 pt31_0 a31_0 (.two .no (.two .no (.two (.two .no (.two .no (.lp L31_1 rd31_1 pt31_1 a31_1 .no))) .no))))), (loopAt Try.f31 1, (.lp L31_1 rd31_1 pt31_1 a31_1 .no))]) Try.func31 (bodyOf_eq (by kernel_rfl)) (by kernel_rfl) fun p hp => by
  simp only [List.mem_cons, List.not_mem_nil, or_false] at hp
  rcases hp with rfl | rfl
  · exact ⟨rd31_0_ok _, advG_ok (q31_0)⟩
  · exact ⟨rd31_1_ok _, advG_ok (q31_1)⟩
noncomputable def m31 (a1 : Int) (b0 : List Int) (b1 : List Int) : Option E31 :=
  match a31_0 (L31_0.mk b0 a1 b1 (↑b1.length : Int) (0)) with
  | none =>
    none
  | some r2 =>
    bif decide (r2.t12 < r2.t11) then
      if 0 ≤ r2.t12 ∧ r2.t12 < (↑r2.t10.length : Int) then
        if 3 = 3 ∧ r2.t12.toNat < r2.t10.length then
          match a31_1 (L31_1.mk r2.t0 r2.t1 r2.t10[r2.t12.toNat]! (IntKind.i64.wrap (r2.t1 - 1)) r2.t10 r2.t11 r2.t12) with
          | none =>
            none
          | some r3 =>
            bif decide (0 ≤ r3.t9) then
              if 0 ≤ IntKind.i64.wrap (8 * r3.t9) then
                if (r3.t0 ++ [IntKind.u8.wrap (bShr IntKind.i64 r3.t8 (IntKind.i64.wrap (8 * r3.t9)))]).length ≤ 1073741824 then
                  none
                else
                  none
              else
                none
            else
              none
        else
          none
      else
        none
    else
      some ((r2.t0, r2.t10))
theorem c31 (a1 : Int) (b0 : List Int) (b1 : List Int) : callR Try.prog (F31) 300 (an31) 31 [.own 0, .n .i64 a1, .own 1] [(0, .row 5 b0), (1, .row 3 b1)] 2 rd31_e = m31 a1 b0 b1 := by kernel_rfl
noncomputable def o31 (x : E31) : Out := match (match outOf Try.prog 31 (pt31_e x) with
    | some ds => some (Out.mk (resA ds) (keepR (pt31_e x).R 2 (resA ds)) (pt31_e x).nx)
    | none => none) with
  | some o => o
  | none => ⟨.tup [], [], 0⟩
theorem fn31 (a1 : Int) (b0 : List Int) (b1 : List Int) (r : E31) (h : m31 a1 b0 b1 = some r) : fnOk Try.prog 31 ∧ FnY Try.prog 31 [.own 0, .n .i64 a1, .own 1] [(0, .row 5 b0), (1, .row 3 b1)] 2 (o31 r) :=
  fnY_of (p := r) F31_ok (fa31) rd31_e_ok (fun p => by kernel_rfl) (ltd_of (by kernel_rfl)) (rltd_of (by kernel_rfl)) ((c31 a1 b0 b1).trans h)
theorem fnok31 : fnOk Try.prog 31 := ⟨_, Try.func31, by kernel_rfl, by kernel_rfl⟩
noncomputable def e31 (F : Orc) : Orc := orY 31 2 (qyR (pkC (asO 0) (pkC (asI .i64) (pkC (asO 1) pkN))) (rsR 0 5 (rsR 1 3 rsN))) (fun g => m31 g.1.2.1 g.2.1 g.2.2.1 : ((Unit × Int × Unit × Unit) × ((List Int) × (List Int) × Unit)) → Option E31) o31 F
theorem e31_ok {F : Orc} (h : OrcG Try.prog F) : OrcG Try.prog (e31 F) := orY_g h fnok31 (qyR_ok (ca := fun g => [.own 0, .n .i64 g.2.1, .own 1]) (cr := fun g => [(0, .row 5 g.1), (1, .row 3 g.2.1)]) ((.cons (.o 0) (.cons (.i .i64) (.cons (.o 1) .nil))) : PkN (pkC (asO 0) (pkC (asI .i64) (pkC (asO 1) pkN))) _) ((.row (.row .nil)) : RsOk (rsR 0 5 (rsR 1 3 rsN)) _)) (fun b => by kernel_rfl) (fun g b hb => (fn31 g.1.2.1 g.2.1 g.2.2.1 b hb).2)
theorem e31_skip {F : Orc} {f : Nat} (hne : Nat.beq f 31 = false) (h : PureF F f) : PureF (e31 F) f := orY_skip hne h
/-! ### 31b: keyhole/ledger.put -/
noncomputable def F31b : Orc := or0
theorem F31b_ok : OrcG Try.prog F31b := or0_g
structure L31b_1 where
  t0 : List Int
  t1 : Int
  t8 : Int
  t9 : Int
  t10 : List Int
  t11 : Int
  t12 : Int
abbrev P31b_1 : Type := (Unit × Int × Int × Int × (List Int) × Int × Int × Unit) × ((List Int) × Unit)
noncomputable def rb31b_1 : St → Option P31b_1 := stR 2 (slC 0 (asO 1) (slC 1 (asI .i64) (slC 8 (asI .i64) (slC 9 (asI .i64) (slC 10 (asL 3) (slC 11 (asI .i64) (slC 12 (asI .i64) slN))))))) (rsR 1 5 rsN)
noncomputable def pb31b_1 : P31b_1 → St := stP 2 (fun z => [(0, .own 1), (1, .n .i64 z.2.1), (8, .n .i64 z.2.2.1), (9, .n .i64 z.2.2.2.1), (10, .sl 3 z.2.2.2.2.1), (11, .n .i64 z.2.2.2.2.2.1), (12, .n .i64 z.2.2.2.2.2.2.1)]) (fun z => [(1, .row 5 z.1)])
noncomputable def mk31b_1 (z : P31b_1) : L31b_1 := ⟨z.2.1, z.1.2.1, z.1.2.2.1, z.1.2.2.2.1, z.1.2.2.2.2.1, z.1.2.2.2.2.2.1, z.1.2.2.2.2.2.2.1⟩
noncomputable def pt31b_1 (x : L31b_1) : St := pb31b_1 (((), x.t1, x.t8, x.t9, x.t10, x.t11, x.t12, ()), (x.t0, ()))
noncomputable def rd31b_1 : St → Option L31b_1 := rdC 1 [] [0, 1, 8, 9, 10, 11, 12] (rdM mk31b_1 rb31b_1)
theorem rb31b_1_ok (n : Nat) : RdOk 1 n rb31b_1 pb31b_1 := stR_ok (.cons (.o 1) (.cons (.i .i64) (.cons (.i .i64) (.cons (.i .i64) (.cons (.l 3) (.cons (.i .i64) (.cons (.i .i64) .nil))))))) (.row .nil)
theorem rd31b_1_ok (n : Nat) : RdOk 1 n rd31b_1 pt31b_1 := rdC_ok ((rb31b_1_ok n).m mk31b_1 (pat' := pt31b_1) fun _ => rfl)
noncomputable def n31b_1 (p : L31b_1) : Option (Option L31b_1) :=
  bif decide (0 ≤ p.t9) then
    if 0 ≤ IntKind.i64.wrap (8 * p.t9) then
      if (p.t0 ++ [IntKind.u8.wrap (bShr IntKind.i64 p.t8 (IntKind.i64.wrap (8 * p.t9)))]).length ≤ 1073741824 then
        some (some (L31b_1.mk (p.t0 ++ [IntKind.u8.wrap (bShr IntKind.i64 p.t8 (IntKind.i64.wrap (8 * p.t9)))]) p.t1 p.t8 (IntKind.i64.wrap (p.t9 - 1)) p.t10 p.t11 p.t12))
      else
        none
    else
      none
  else
    some (none)
theorem q31b_1 (p : L31b_1) : execA Try.prog (F31b) Try.f31.ntmps 300 (loopAt Try.f31 1) .no (Option L31b_1) (pt31b_1 p) (kOn rd31b_1) = n31b_1 p := by kernel_rfl
noncomputable def a31b_1 : L31b_1 → Option L31b_1 := advG (n31b_1)
structure L31b_0 where
  t0 : List Int
  t1 : Int
  t10 : List Int
  t11 : Int
  t12 : Int
abbrev P31b_0 : Type := (Unit × Int × (List Int) × Int × Int × Unit) × ((List Int) × Unit)
noncomputable def rb31b_0 : St → Option P31b_0 := stR 2 (slC 0 (asO 1) (slC 1 (asI .i64) (slC 10 (asL 3) (slC 11 (asI .i64) (slC 12 (asI .i64) slN))))) (rsR 1 5 rsN)
noncomputable def pb31b_0 : P31b_0 → St := stP 2 (fun z => [(0, .own 1), (1, .n .i64 z.2.1), (10, .sl 3 z.2.2.1), (11, .n .i64 z.2.2.2.1), (12, .n .i64 z.2.2.2.2.1)]) (fun z => [(1, .row 5 z.1)])
noncomputable def mk31b_0 (z : P31b_0) : L31b_0 := ⟨z.2.1, z.1.2.1, z.1.2.2.1, z.1.2.2.2.1, z.1.2.2.2.2.1⟩
noncomputable def pt31b_0 (x : L31b_0) : St := pb31b_0 (((), x.t1, x.t10, x.t11, x.t12, ()), (x.t0, ()))
noncomputable def rd31b_0 : St → Option L31b_0 := rdC 1 [0] [0, 1, 10, 11, 12] (rdM mk31b_0 rb31b_0)
theorem rb31b_0_ok (n : Nat) : RdOk 1 n rb31b_0 pb31b_0 := stR_ok (.cons (.o 1) (.cons (.i .i64) (.cons (.l 3) (.cons (.i .i64) (.cons (.i .i64) .nil))))) (.row .nil)
theorem rd31b_0_ok (n : Nat) : RdOk 1 n rd31b_0 pt31b_0 := rdC_ok ((rb31b_0_ok n).m mk31b_0 (pat' := pt31b_0) fun _ => rfl)
noncomputable def n31b_0 (p : L31b_0) : Option (Option L31b_0) :=
  bif decide (p.t12 < p.t11) then
    if 0 ≤ p.t12 ∧ p.t12 < (↑p.t10.length : Int) then
      match a31b_1 (L31b_1.mk p.t0 p.t1 p.t10[p.t12.toNat]! (IntKind.i64.wrap (p.t1 - 1)) p.t10 p.t11 p.t12) with
      | none =>
        none
      | some r1 =>
        bif decide (0 ≤ r1.t9) then
          if 0 ≤ IntKind.i64.wrap (8 * r1.t9) then
            if (r1.t0 ++ [IntKind.u8.wrap (bShr IntKind.i64 r1.t8 (IntKind.i64.wrap (8 * r1.t9)))]).length ≤ 1073741824 then
              none
            else
              none
          else
            none
        else
          some (some (L31b_0.mk r1.t0 r1.t1 r1.t10 r1.t11 (IntKind.i64.wrap (r1.t12 + 1))))
    else
      none
  else
    some (none)
theorem q31b_0 (p : L31b_0) : execA Try.prog (F31b) Try.f31.ntmps 300 (loopAt Try.f31 0) (.two .no (.two .no (.two (.two .no (.two .no (.lp L31b_1 rd31b_1 pt31b_1 a31b_1 .no))) .no))) (Option L31b_0) (pt31b_0 p) (kOn rd31b_0) = n31b_0 p := by kernel_rfl
noncomputable def a31b_0 : L31b_0 → Option L31b_0 := advG (n31b_0)
abbrev E31b : Type := List Int
abbrev P31b_e : Type := (Unit × Unit) × ((List Int) × Unit)
noncomputable def rb31b_e : St → Option P31b_e := stR 2 (slC 6 (asO 1) slN) (rsR 1 5 rsN)
noncomputable def pb31b_e : P31b_e → St := stP 2 (fun z => [(6, .own 1)]) (fun z => [(1, .row 5 z.1)])
noncomputable def mk31b_e (z : P31b_e) : E31b := z.2.1
noncomputable def pt31b_e (x : E31b) : St := pb31b_e (((), ()), (x, ()))
noncomputable def rd31b_e : St → Option E31b := rdC 1 [] [6] (rdM mk31b_e rb31b_e)
theorem rb31b_e_ok (n : Nat) : RdOk 1 n rb31b_e pb31b_e := stR_ok (.cons (.o 1) .nil) (.row .nil)
theorem rd31b_e_ok (n : Nat) : RdOk 1 n rd31b_e pt31b_e := rdC_ok ((rb31b_e_ok n).m mk31b_e (pat' := pt31b_e) fun _ => rfl)
noncomputable def an31b : An := (.two .no (.two (.two .no (.lp L31b_0 rd31b_0 pt31b_0 a31b_0 (.two .no (.two .no (.two (.two .no (.two .no (.lp L31b_1 rd31b_1 pt31b_1 a31b_1 .no))) .no))))) .no))
theorem fa31b : FnAn Try.prog (F31b) 1 300 31 (an31b) := fnAn_of (l := [(loopAt Try.f31 0, (.lp L31b_0 rd31b_0 pt31b_0 a31b_0 (.two .no (.two .no (.two (.two .no (.two .no (.lp L31b_1 rd31b_1 pt31b_1 a31b_1 .no))) .no))))), (loopAt Try.f31 1, (.lp L31b_1 rd31b_1 pt31b_1 a31b_1 .no))]) Try.func31 (bodyOf_eq (by kernel_rfl)) (by kernel_rfl) fun p hp => by
  simp only [List.mem_cons, List.not_mem_nil, or_false] at hp
  rcases hp with rfl | rfl
  · exact ⟨rd31b_0_ok _, advG_ok (q31b_0)⟩
  · exact ⟨rd31b_1_ok _, advG_ok (q31b_1)⟩
noncomputable def m31b (a1 : Int) (a2 : List Int) (b0 : List Int) : Option E31b :=
  match a31b_0 (L31b_0.mk b0 a1 a2 (↑a2.length : Int) (0)) with
  | none =>
    none
  | some r2 =>
    bif decide (r2.t12 < r2.t11) then
      if 0 ≤ r2.t12 ∧ r2.t12 < (↑r2.t10.length : Int) then
        match a31b_1 (L31b_1.mk r2.t0 r2.t1 r2.t10[r2.t12.toNat]! (IntKind.i64.wrap (r2.t1 - 1)) r2.t10 r2.t11 r2.t12) with
        | none =>
          none
        | some r3 =>
          bif decide (0 ≤ r3.t9) then
            if 0 ≤ IntKind.i64.wrap (8 * r3.t9) then
              if (r3.t0 ++ [IntKind.u8.wrap (bShr IntKind.i64 r3.t8 (IntKind.i64.wrap (8 * r3.t9)))]).length ≤ 1073741824 then
                none
              else
                none
            else
              none
          else
            none
      else
        none
    else
      some (r2.t0)
theorem c31b (a1 : Int) (a2 : List Int) (b0 : List Int) : callR Try.prog (F31b) 300 (an31b) 31 [.own 0, .n .i64 a1, .sl 3 a2] [(0, .row 5 b0)] 1 rd31b_e = m31b a1 a2 b0 := by kernel_rfl
noncomputable def o31b (x : E31b) : Out := match (match outOf Try.prog 31 (pt31b_e x) with
    | some ds => some (Out.mk (resA ds) (keepR (pt31b_e x).R 1 (resA ds)) (pt31b_e x).nx)
    | none => none) with
  | some o => o
  | none => ⟨.tup [], [], 0⟩
theorem fn31b (a1 : Int) (a2 : List Int) (b0 : List Int) (r : E31b) (h : m31b a1 a2 b0 = some r) : fnOk Try.prog 31 ∧ FnY Try.prog 31 [.own 0, .n .i64 a1, .sl 3 a2] [(0, .row 5 b0)] 1 (o31b r) :=
  fnY_of (p := r) F31b_ok (fa31b) rd31b_e_ok (fun p => by kernel_rfl) (ltd_of (by kernel_rfl)) (rltd_of (by kernel_rfl)) ((c31b a1 a2 b0).trans h)
theorem fnok31b : fnOk Try.prog 31 := ⟨_, Try.func31, by kernel_rfl, by kernel_rfl⟩
noncomputable def e31b (F : Orc) : Orc := orY 31 1 (qyR (pkC (asO 0) (pkC (asI .i64) (pkC (asL 3) pkN))) (rsR 0 5 rsN)) (fun g => m31b g.1.2.1 g.1.2.2.1 g.2.1 : ((Unit × Int × (List Int) × Unit) × ((List Int) × Unit)) → Option E31b) o31b F
theorem e31b_ok {F : Orc} (h : OrcG Try.prog F) : OrcG Try.prog (e31b F) := orY_g h fnok31b (qyR_ok (ca := fun g => [.own 0, .n .i64 g.2.1, .sl 3 g.2.2.1]) (cr := fun g => [(0, .row 5 g.1)]) ((.cons (.o 0) (.cons (.i .i64) (.cons (.l 3) .nil))) : PkN (pkC (asO 0) (pkC (asI .i64) (pkC (asL 3) pkN))) _) ((.row .nil) : RsOk (rsR 0 5 rsN) _)) (fun b => by kernel_rfl) (fun g b hb => (fn31b g.1.2.1 g.1.2.2.1 g.2.1 b hb).2)
theorem e31b_skip {F : Orc} {f : Nat} (hne : Nat.beq f 31 = false) (h : PureF F f) : PureF (e31b F) f := orY_skip hne h
/-! ### 32: keyhole/ledger.padded -/
noncomputable def F32 : Orc := or0
theorem F32_ok : OrcG Try.prog F32 := or0_g
abbrev E32 : Type := List Int
abbrev P32_e : Type := (Unit × Unit) × ((List Int) × Unit)
noncomputable def rb32_e : St → Option P32_e := stR 2 (slC 2 (asO 1) slN) (rsR 1 5 rsN)
noncomputable def pb32_e : P32_e → St := stP 2 (fun z => [(2, .own 1)]) (fun z => [(1, .row 5 z.1)])
noncomputable def mk32_e (z : P32_e) : E32 := z.2.1
noncomputable def pt32_e (x : E32) : St := pb32_e (((), ()), (x, ()))
noncomputable def rd32_e : St → Option E32 := rdC 1 [] [2] (rdM mk32_e rb32_e)
theorem rb32_e_ok (n : Nat) : RdOk 1 n rb32_e pb32_e := stR_ok (.cons (.o 1) .nil) (.row .nil)
theorem rd32_e_ok (n : Nat) : RdOk 1 n rd32_e pt32_e := rdC_ok ((rb32_e_ok n).m mk32_e (pat' := pt32_e) fun _ => rfl)
noncomputable def an32 : An := .no
theorem fa32 : FnAn Try.prog (F32) 1 300 32 (an32) := fnAn_of (l := []) Try.func32 (bodyOf_eq (by kernel_rfl)) (by kernel_rfl) fun p hp => by
  cases hp
noncomputable def m32 (b0 : List Int) : Option E32 :=
  if 0 ≤ IntKind.i64.wrap (96 - (↑b0.length : Int)) then
    if (b0 ++ List.replicate (IntKind.i64.wrap (96 - (↑b0.length : Int))).toNat (0)).length ≤ 1073741824 then
      some (b0 ++ List.replicate (IntKind.i64.wrap (96 - (↑b0.length : Int))).toNat (0))
    else
      none
  else
    none
theorem c32 (b0 : List Int) : callR Try.prog (F32) 300 (an32) 32 [.own 0] [(0, .row 5 b0)] 1 rd32_e = m32 b0 := by kernel_rfl
noncomputable def o32 (x : E32) : Out := match (match outOf Try.prog 32 (pt32_e x) with
    | some ds => some (Out.mk (resA ds) (keepR (pt32_e x).R 1 (resA ds)) (pt32_e x).nx)
    | none => none) with
  | some o => o
  | none => ⟨.tup [], [], 0⟩
theorem fn32 (b0 : List Int) (r : E32) (h : m32 b0 = some r) : fnOk Try.prog 32 ∧ FnY Try.prog 32 [.own 0] [(0, .row 5 b0)] 1 (o32 r) :=
  fnY_of (p := r) F32_ok (fa32) rd32_e_ok (fun p => by kernel_rfl) (ltd_of (by kernel_rfl)) (rltd_of (by kernel_rfl)) ((c32 b0).trans h)
theorem fnok32 : fnOk Try.prog 32 := ⟨_, Try.func32, by kernel_rfl, by kernel_rfl⟩
noncomputable def e32 (F : Orc) : Orc := orY 32 1 (qyR (pkC (asO 0) pkN) (rsR 0 5 rsN)) (fun g => m32 g.2.1 : ((Unit × Unit) × ((List Int) × Unit)) → Option E32) o32 F
theorem e32_ok {F : Orc} (h : OrcG Try.prog F) : OrcG Try.prog (e32 F) := orY_g h fnok32 (qyR_ok (ca := fun g => [.own 0]) (cr := fun g => [(0, .row 5 g.1)]) ((.cons (.o 0) .nil) : PkN (pkC (asO 0) pkN) _) ((.row .nil) : RsOk (rsR 0 5 rsN) _)) (fun b => by kernel_rfl) (fun g b hb => (fn32 g.2.1 b hb).2)
theorem e32_skip {F : Orc} {f : Nat} (hne : Nat.beq f 32 = false) (h : PureF F f) : PureF (e32 F) f := orY_skip hne h
/-! ### 8: keyhole/ledger.Encode -/
noncomputable def F8 : Orc := (e32 (e31 (e31b (e30 (e29 or0)))))
theorem F8_ok : OrcG Try.prog F8 := (e32_ok (e31_ok (e31b_ok (e30_ok (e29_ok or0_g)))))
abbrev E8 : Type := (List Int) × Int
abbrev P8_e : Type := (Unit × Int × Unit) × ((List Int) × Unit)
noncomputable def rb8_e : St → Option P8_e := stR 1 (slC 2 (asO 0) (slC 3 (asI .i64) slN)) (rsR 0 5 rsN)
noncomputable def pb8_e : P8_e → St := stP 1 (fun z => [(2, .own 0), (3, .n .i64 z.2.1)]) (fun z => [(0, .row 5 z.1)])
noncomputable def mk8_e (z : P8_e) : E8 := (z.2.1, z.1.2.1)
noncomputable def pt8_e (x : E8) : St := pb8_e (((), x.2, ()), (x.1, ()))
noncomputable def rd8_e : St → Option E8 := rdC 0 [] [2, 3] (rdF (ownS 2 [] 5) (rdC 0 [] [2, 3] (rdM mk8_e rb8_e)))
theorem rb8_e_ok (n : Nat) : RdOk 0 n rb8_e pb8_e := stR_ok (.cons (.o 0) (.cons (.i .i64) .nil)) (.row .nil)
theorem rd8_e_ok (n : Nat) : RdOk 0 n rd8_e pt8_e := rdC_ok (rdF_ok (.s 2 [] 5) (rdC_ok ((rb8_e_ok n).m mk8_e (pat' := pt8_e) fun _ => rfl)))
noncomputable def an8 : An := .no
theorem fa8 : FnAn Try.prog (F8) 0 300 8 (an8) := fnAn_of (l := []) Try.func8 (bodyOf_eq (by kernel_rfl)) (by kernel_rfl) fun p hp => by
  cases hp
noncomputable def m8 (a0 : Record) : Option E8 :=
  bif bif m30 (m29 a0).snd.fEpoch then false else true then
    some (([], 1))
  else
    match m31 (4) [1] [(m29 a0).snd.fEpoch] with
    | none =>
      none
    | some r1 =>
      bif bif m30 (m29 a0).snd.fSeq then false else true then
        some (([], 1))
      else
        match m31 (4) r1.fst [(m29 a0).snd.fSeq] with
        | none =>
          none
        | some r2 =>
          bif bif m30 (m29 a0).snd.fSecret then false else true then
            some (([], 1))
          else
            match m31 (4) r2.fst [(m29 a0).snd.fSecret] with
            | none =>
              none
            | some r3 =>
              bif bif m30 (m29 a0).snd.fClient then false else true then
                some (([], 1))
              else
                match m31 (4) r3.fst [(m29 a0).snd.fClient] with
                | none =>
                  none
                | some r4 =>
                  bif bif m30 (m29 a0).snd.fNumber then false else true then
                    some (([], 1))
                  else
                    match m31 (4) r4.fst [(m29 a0).snd.fNumber] with
                    | none =>
                      none
                    | some r5 =>
                      bif bif m30 (m29 a0).snd.fProgram then false else true then
                        some (([], 1))
                      else
                        match m31 (4) r5.fst [(m29 a0).snd.fProgram] with
                        | none =>
                          none
                        | some r6 =>
                          bif bif m30 (m29 a0).snd.fPublic then false else true then
                            some (([], 1))
                          else
                            match m31 (4) r6.fst [(m29 a0).snd.fPublic] with
                            | none =>
                              none
                            | some r7 =>
                              bif bif m30 (m29 a0).snd.fAnswer then false else true then
                                some (([], 1))
                              else
                                match m31 (4) r7.fst [(m29 a0).snd.fAnswer] with
                                | none =>
                                  none
                                | some r8 =>
                                  bif bif m30 (m29 a0).snd.fCharge then false else true then
                                    some (([], 1))
                                  else
                                    match m31 (4) r8.fst [(m29 a0).snd.fCharge] with
                                    | none =>
                                      none
                                    | some r9 =>
                                      match m32 r9.fst with
                                      | none =>
                                        none
                                      | some r10 =>
                                        some ((r10, 0))
theorem c8 (a0 : Record) : callR Try.prog (F8) 300 (an8) 8 [.agg (uni.cells 23 a0)] [] 0 rd8_e = m8 a0 := by kernel_rfl
noncomputable def o8 (x : E8) : Out := match (match outOf Try.prog 8 (pt8_e x) with
    | some ds => some (Out.mk (resA ds) (keepR (pt8_e x).R 0 (resA ds)) (pt8_e x).nx)
    | none => none) with
  | some o => o
  | none => ⟨.tup [], [], 0⟩
theorem fn8 (a0 : Record) (r : E8) (h : m8 a0 = some r) : fnOk Try.prog 8 ∧ FnY Try.prog 8 [.agg (uni.cells 23 a0)] [] 0 (o8 r) :=
  fnY_of (p := r) F8_ok (fa8) rd8_e_ok (fun p => by kernel_rfl) (ltd_of (by kernel_rfl)) (rltd_of (by kernel_rfl)) ((c8 a0).trans h)
theorem fnok8 : fnOk Try.prog 8 := ⟨_, Try.func8, by kernel_rfl, by kernel_rfl⟩
noncomputable def e8 (F : Orc) : Orc := orL 8 false (pkC (asGc 23) pkN) (fun g => m8 g.1 : (Record × Unit) → Option E8) o8 F
theorem e8_ok {F : Orc} (h : OrcG Try.prog F) : OrcG Try.prog (e8 F) := orL_g (sc := scU) h scU_ok fnok8 (ca := fun g => [.agg (uni.cells 23 g.1)]) ((.cons (.g 23) .nil) : PkN (pkC (asGc 23) pkN) _) (fun b => by kernel_rfl) (fun b => by kernel_rfl) (fun g b hb => (fn8 g.1 b hb).2)
theorem e8_skip {F : Orc} {f : Nat} (hne : Nat.beq f 8 = false) (h : PureF F f) : PureF (e8 F) f := orL_skip hne h
/-! ### 42: keyhole/ledger.CheckHead$1 -/
noncomputable def F42 : Orc := or0
theorem F42_ok : OrcG Try.prog F42 := or0_g
abbrev E42 : Type := Bool
abbrev P42_e : Type := (Bool × Unit) × (Unit)
noncomputable def rb42_e : St → Option P42_e := stR 0 (slC 2 asB slN) rsN
noncomputable def pb42_e : P42_e → St := stP 0 (fun z => [(2, .b z.1)]) (fun z => [])
noncomputable def mk42_e (z : P42_e) : E42 := z.1.1
noncomputable def pt42_e (x : E42) : St := pb42_e ((x, ()), (()))
noncomputable def rd42_e : St → Option E42 := rdC 0 [] [2] (rdM mk42_e rb42_e)
theorem rb42_e_ok (n : Nat) : RdOk 0 n rb42_e pb42_e := stR_ok (.cons .b .nil) .nil
theorem rd42_e_ok (n : Nat) : RdOk 0 n rd42_e pt42_e := rdC_ok ((rb42_e_ok n).m mk42_e (pat' := pt42_e) fun _ => rfl)
noncomputable def an42 : An := (.two .no (.two (.rb [] 2) .no))
theorem pu42  : ∀ f ∈ ([] : List Nat), PureF (F42) f := fun f hf => by
  cases hf
theorem fa42 : FnAn Try.prog (F42) 0 300 42 (an42) := fnAn_of (l := [(.skip, (.rb [] 2))]) Try.func42 (bodyOf_eq (by kernel_rfl)) (by kernel_rfl) fun p hp => by
  simp only [List.mem_cons, List.not_mem_nil, or_false] at hp
  rcases hp with rfl
  · exact pu42
noncomputable def m42 (a0 : Int) : E42 :=
  let r1 : Bool := bif decide (a0 < 1) then
    true
  else
    decide (1048576 < a0)
  r1
theorem c42 (a0 : Int) : callR Try.prog (F42) 300 (an42) 42 [.n .i64 a0] [] 0 rd42_e = some (m42 a0) := by
  refine Eq.trans (b := (
    match bif decide (a0 < 1) then
      some (true)
    else
      some (decide (1048576 < a0)) with
    | none =>
      none
    | some r1 =>
      some (r1) : Option E42)) (by kernel_rfl) ?_
  simp only [m42, cond_some, ite_some]
noncomputable def o42 (x : E42) : Out := match (match outOf Try.prog 42 (pt42_e x) with
    | some ds => some (Out.mk (resA ds) (keepR (pt42_e x).R 0 (resA ds)) (pt42_e x).nx)
    | none => none) with
  | some o => o
  | none => ⟨.tup [], [], 0⟩
theorem fn42 (a0 : Int) (r : E42) (h : m42 a0 = r) : fnOk Try.prog 42 ∧ FnY Try.prog 42 [.n .i64 a0] [] 0 (o42 r) :=
  fnY_of (p := r) F42_ok (fa42) rd42_e_ok (fun p => by kernel_rfl) (ltd_of (by kernel_rfl)) (rltd_of (by kernel_rfl)) ((c42 a0).trans (congrArg some h))
theorem fnok42 : fnOk Try.prog 42 := ⟨_, Try.func42, by kernel_rfl, by kernel_rfl⟩
noncomputable def e42 (F : Orc) : Orc := orL 42 false (pkC (asI .i64) pkN) (fun g => some (m42 g.1) : (Int × Unit) → Option E42) o42 F
theorem e42_ok {F : Orc} (h : OrcG Try.prog F) : OrcG Try.prog (e42 F) := orL_g (sc := scU) h scU_ok fnok42 (ca := fun g => [.n .i64 g.1]) ((.cons (.i .i64) .nil) : PkN (pkC (asI .i64) pkN) _) (fun b => by kernel_rfl) (fun b => by kernel_rfl) (fun g b hb => (fn42 g.1 b (Option.some.inj hb)).2)
theorem e42_pure {F : Orc} {f : Nat} (h : PureF F f) : PureF (e42 F) f := orL_pure h (fun b => by kernel_rfl)
/-! ### 52: slices.IndexFunc[[]int,int] -/
noncomputable def F52 : Orc := (e42 or0)
theorem F52_ok : OrcG Try.prog F52 := (e42_ok or0_g)
structure L52_0 where
  t0 : List Int
  t7 : Int
  t8 : Int
abbrev P52_0 : Type := ((List Int) × ((Unit)) × Int × Int × Unit) × (Unit)
noncomputable def rb52_0 : St → Option P52_0 := stR 0 (slC 0 (asL 3) (slC 1 (asFf 42 pkN) (slC 7 (asI .i64) (slC 8 (asI .i64) slN)))) rsN
noncomputable def pb52_0 : P52_0 → St := stP 0 (fun z => [(0, .sl 3 z.1), (1, .fn (.func 42) []), (7, .n .i64 z.2.2.1), (8, .n .i64 z.2.2.2.1)]) (fun z => [])
noncomputable def mk52_0 (z : P52_0) : L52_0 := ⟨z.1.1, z.1.2.2.1, z.1.2.2.2.1⟩
noncomputable def pt52_0 (x : L52_0) : St := pb52_0 ((x.t0, (()), x.t7, x.t8, ()), (()))
noncomputable def rd52_0 : St → Option L52_0 := rdC 0 [] [0, 1, 7, 8] (rdM mk52_0 rb52_0)
theorem rb52_0_ok (n : Nat) : RdOk 0 n rb52_0 pb52_0 := stR_ok (.cons (.l 3) (.cons (.ff 42 .nil) (.cons (.i .i64) (.cons (.i .i64) .nil)))) .nil
theorem rd52_0_ok (n : Nat) : RdOk 0 n rd52_0 pt52_0 := rdC_ok ((rb52_0_ok n).m mk52_0 (pat' := pt52_0) fun _ => rfl)
noncomputable def n52_0 (p : L52_0) : Option (Option L52_0) :=
  bif decide (p.t8 < p.t7) then
    if 0 ≤ p.t8 ∧ p.t8 < (↑p.t0.length : Int) then
      bif m42 p.t0[p.t8.toNat]! then
        some (none)
      else
        some (some (L52_0.mk p.t0 p.t7 (IntKind.i64.wrap (p.t8 + 1))))
    else
      none
  else
    some (none)
theorem q52_0 (p : L52_0) : execA Try.prog (F52) Try.f52.ntmps 300 (loopAt Try.f52 0) .no (Option L52_0) (pt52_0 p) (kOn rd52_0) = n52_0 p := by kernel_rfl
noncomputable def a52_0 : L52_0 → Option L52_0 := advG (n52_0)
abbrev E52 : Type := Int
abbrev P52_e : Type := (Int × Unit) × (Unit)
noncomputable def rb52_e : St → Option P52_e := stR 0 (slC 4 (asI .i64) slN) rsN
noncomputable def pb52_e : P52_e → St := stP 0 (fun z => [(4, .n .i64 z.1)]) (fun z => [])
noncomputable def mk52_e (z : P52_e) : E52 := z.1.1
noncomputable def pt52_e (x : E52) : St := pb52_e ((x, ()), (()))
noncomputable def rd52_e : St → Option E52 := rdC 0 [] [4] (rdM mk52_e rb52_e)
theorem rb52_e_ok (n : Nat) : RdOk 0 n rb52_e pb52_e := stR_ok (.cons (.i .i64) .nil) .nil
theorem rd52_e_ok (n : Nat) : RdOk 0 n rd52_e pt52_e := rdC_ok ((rb52_e_ok n).m mk52_e (pat' := pt52_e) fun _ => rfl)
noncomputable def an52 : An := (.two .no (.two (.two .no (.lp L52_0 rd52_0 pt52_0 a52_0 .no)) .no))
theorem fa52 : FnAn Try.prog (F52) 0 300 52 (an52) := fnAn_of (l := [(loopAt Try.f52 0, (.lp L52_0 rd52_0 pt52_0 a52_0 .no))]) Try.func52 (bodyOf_eq (by kernel_rfl)) (by kernel_rfl) fun p hp => by
  simp only [List.mem_cons, List.not_mem_nil, or_false] at hp
  rcases hp with rfl
  · exact ⟨rd52_0_ok _, advG_ok (q52_0)⟩
noncomputable def m52 (a0 : List Int) : Option E52 :=
  match a52_0 (L52_0.mk a0 (↑a0.length : Int) (0)) with
  | none =>
    none
  | some r1 =>
    bif decide (r1.t8 < r1.t7) then
      if 0 ≤ r1.t8 ∧ r1.t8 < (↑r1.t0.length : Int) then
        bif m42 r1.t0[r1.t8.toNat]! then
          some (r1.t8)
        else
          none
      else
        none
    else
      some (-1)
theorem c52 (a0 : List Int) : callR Try.prog (F52) 300 (an52) 52 [.sl 3 a0, .fn (.func 42) []] [] 0 rd52_e = m52 a0 := by kernel_rfl
noncomputable def o52 (x : E52) : Out := match (match outOf Try.prog 52 (pt52_e x) with
    | some ds => some (Out.mk (resA ds) (keepR (pt52_e x).R 0 (resA ds)) (pt52_e x).nx)
    | none => none) with
  | some o => o
  | none => ⟨.tup [], [], 0⟩
theorem fn52 (a0 : List Int) (r : E52) (h : m52 a0 = some r) : fnOk Try.prog 52 ∧ FnY Try.prog 52 [.sl 3 a0, .fn (.func 42) []] [] 0 (o52 r) :=
  fnY_of (p := r) F52_ok (fa52) rd52_e_ok (fun p => by kernel_rfl) (ltd_of (by kernel_rfl)) (rltd_of (by kernel_rfl)) ((c52 a0).trans h)
theorem fnok52 : fnOk Try.prog 52 := ⟨_, Try.func52, by kernel_rfl, by kernel_rfl⟩
noncomputable def e52 (F : Orc) : Orc := orL 52 true (pkC (asL 3) (pkC (asFf 42 pkN) pkN)) (fun g => m52 g.1 : ((List Int) × ((Unit)) × Unit) → Option E52) o52 F
theorem e52_ok {F : Orc} (h : OrcG Try.prog F) : OrcG Try.prog (e52 F) := orL_g (sc := scU) h scU_ok fnok52 (ca := fun g => [.sl 3 g.1, .fn (.func 42) []]) ((.cons (.l 3) (.cons (.ff 42 .nil) .nil)) : PkN (pkC (asL 3) (pkC (asFf 42 pkN) pkN)) _) (fun b => by kernel_rfl) (fun b => by kernel_rfl) (fun g b hb => (fn52 g.1 b hb).2)
theorem e52_pure {F : Orc} {f : Nat} (h : PureF F f) : PureF (e52 F) f := orL_pure h (fun b => by kernel_rfl)
/-! ### 35: keyhole/keyholelaw50.valid$1 -/
noncomputable def F35 : Orc := or0
theorem F35_ok : OrcG Try.prog F35 := or0_g
abbrev E35 : Type := Bool
abbrev P35_e : Type := (Bool × Unit) × (Unit)
noncomputable def rb35_e : St → Option P35_e := stR 0 (slC 2 asB slN) rsN
noncomputable def pb35_e : P35_e → St := stP 0 (fun z => [(2, .b z.1)]) (fun z => [])
noncomputable def mk35_e (z : P35_e) : E35 := z.1.1
noncomputable def pt35_e (x : E35) : St := pb35_e ((x, ()), (()))
noncomputable def rd35_e : St → Option E35 := rdC 0 [] [2] (rdM mk35_e rb35_e)
theorem rb35_e_ok (n : Nat) : RdOk 0 n rb35_e pb35_e := stR_ok (.cons .b .nil) .nil
theorem rd35_e_ok (n : Nat) : RdOk 0 n rd35_e pt35_e := rdC_ok ((rb35_e_ok n).m mk35_e (pat' := pt35_e) fun _ => rfl)
noncomputable def an35 : An := (.two .no (.two (.rb [] 2) .no))
theorem pu35  : ∀ f ∈ ([] : List Nat), PureF (F35) f := fun f hf => by
  cases hf
theorem fa35 : FnAn Try.prog (F35) 0 300 35 (an35) := fnAn_of (l := [(.skip, (.rb [] 2))]) Try.func35 (bodyOf_eq (by kernel_rfl)) (by kernel_rfl) fun p hp => by
  simp only [List.mem_cons, List.not_mem_nil, or_false] at hp
  rcases hp with rfl
  · exact pu35
noncomputable def m35 (a0 : Int) : E35 :=
  let r1 : Bool := bif decide (a0 < 0) then
    true
  else
    decide (2147483647 < a0)
  r1
theorem c35 (a0 : Int) : callR Try.prog (F35) 300 (an35) 35 [.n .i64 a0] [] 0 rd35_e = some (m35 a0) := by
  refine Eq.trans (b := (
    match bif decide (a0 < 0) then
      some (true)
    else
      some (decide (2147483647 < a0)) with
    | none =>
      none
    | some r1 =>
      some (r1) : Option E35)) (by kernel_rfl) ?_
  simp only [m35, cond_some, ite_some]
noncomputable def o35 (x : E35) : Out := match (match outOf Try.prog 35 (pt35_e x) with
    | some ds => some (Out.mk (resA ds) (keepR (pt35_e x).R 0 (resA ds)) (pt35_e x).nx)
    | none => none) with
  | some o => o
  | none => ⟨.tup [], [], 0⟩
theorem fn35 (a0 : Int) (r : E35) (h : m35 a0 = r) : fnOk Try.prog 35 ∧ FnY Try.prog 35 [.n .i64 a0] [] 0 (o35 r) :=
  fnY_of (p := r) F35_ok (fa35) rd35_e_ok (fun p => by kernel_rfl) (ltd_of (by kernel_rfl)) (rltd_of (by kernel_rfl)) ((c35 a0).trans (congrArg some h))
theorem fnok35 : fnOk Try.prog 35 := ⟨_, Try.func35, by kernel_rfl, by kernel_rfl⟩
noncomputable def e35 (F : Orc) : Orc := orL 35 false (pkC (asI .i64) pkN) (fun g => some (m35 g.1) : (Int × Unit) → Option E35) o35 F
theorem e35_ok {F : Orc} (h : OrcG Try.prog F) : OrcG Try.prog (e35 F) := orL_g (sc := scU) h scU_ok fnok35 (ca := fun g => [.n .i64 g.1]) ((.cons (.i .i64) .nil) : PkN (pkC (asI .i64) pkN) _) (fun b => by kernel_rfl) (fun b => by kernel_rfl) (fun g b hb => (fn35 g.1 b (Option.some.inj hb)).2)
theorem e35_pure {F : Orc} {f : Nat} (h : PureF F f) : PureF (e35 F) f := orL_pure h (fun b => by kernel_rfl)
/-! ### 52b: slices.IndexFunc[[]int,int] -/
noncomputable def F52b : Orc := (e35 or0)
theorem F52b_ok : OrcG Try.prog F52b := (e35_ok or0_g)
structure L52b_0 where
  t0 : List Int
  t7 : Int
  t8 : Int
abbrev P52b_0 : Type := ((List Int) × ((Unit)) × Int × Int × Unit) × (Unit)
noncomputable def rb52b_0 : St → Option P52b_0 := stR 0 (slC 0 (asL 3) (slC 1 (asFf 35 pkN) (slC 7 (asI .i64) (slC 8 (asI .i64) slN)))) rsN
noncomputable def pb52b_0 : P52b_0 → St := stP 0 (fun z => [(0, .sl 3 z.1), (1, .fn (.func 35) []), (7, .n .i64 z.2.2.1), (8, .n .i64 z.2.2.2.1)]) (fun z => [])
noncomputable def mk52b_0 (z : P52b_0) : L52b_0 := ⟨z.1.1, z.1.2.2.1, z.1.2.2.2.1⟩
noncomputable def pt52b_0 (x : L52b_0) : St := pb52b_0 ((x.t0, (()), x.t7, x.t8, ()), (()))
noncomputable def rd52b_0 : St → Option L52b_0 := rdC 0 [] [0, 1, 7, 8] (rdM mk52b_0 rb52b_0)
theorem rb52b_0_ok (n : Nat) : RdOk 0 n rb52b_0 pb52b_0 := stR_ok (.cons (.l 3) (.cons (.ff 35 .nil) (.cons (.i .i64) (.cons (.i .i64) .nil)))) .nil
theorem rd52b_0_ok (n : Nat) : RdOk 0 n rd52b_0 pt52b_0 := rdC_ok ((rb52b_0_ok n).m mk52b_0 (pat' := pt52b_0) fun _ => rfl)
noncomputable def n52b_0 (p : L52b_0) : Option (Option L52b_0) :=
  bif decide (p.t8 < p.t7) then
    if 0 ≤ p.t8 ∧ p.t8 < (↑p.t0.length : Int) then
      bif m35 p.t0[p.t8.toNat]! then
        some (none)
      else
        some (some (L52b_0.mk p.t0 p.t7 (IntKind.i64.wrap (p.t8 + 1))))
    else
      none
  else
    some (none)
theorem q52b_0 (p : L52b_0) : execA Try.prog (F52b) Try.f52.ntmps 300 (loopAt Try.f52 0) .no (Option L52b_0) (pt52b_0 p) (kOn rd52b_0) = n52b_0 p := by kernel_rfl
noncomputable def a52b_0 : L52b_0 → Option L52b_0 := advG (n52b_0)
abbrev E52b : Type := Int
abbrev P52b_e : Type := (Int × Unit) × (Unit)
noncomputable def rb52b_e : St → Option P52b_e := stR 0 (slC 4 (asI .i64) slN) rsN
noncomputable def pb52b_e : P52b_e → St := stP 0 (fun z => [(4, .n .i64 z.1)]) (fun z => [])
noncomputable def mk52b_e (z : P52b_e) : E52b := z.1.1
noncomputable def pt52b_e (x : E52b) : St := pb52b_e ((x, ()), (()))
noncomputable def rd52b_e : St → Option E52b := rdC 0 [] [4] (rdM mk52b_e rb52b_e)
theorem rb52b_e_ok (n : Nat) : RdOk 0 n rb52b_e pb52b_e := stR_ok (.cons (.i .i64) .nil) .nil
theorem rd52b_e_ok (n : Nat) : RdOk 0 n rd52b_e pt52b_e := rdC_ok ((rb52b_e_ok n).m mk52b_e (pat' := pt52b_e) fun _ => rfl)
noncomputable def an52b : An := (.two .no (.two (.two .no (.lp L52b_0 rd52b_0 pt52b_0 a52b_0 .no)) .no))
theorem fa52b : FnAn Try.prog (F52b) 0 300 52 (an52b) := fnAn_of (l := [(loopAt Try.f52 0, (.lp L52b_0 rd52b_0 pt52b_0 a52b_0 .no))]) Try.func52 (bodyOf_eq (by kernel_rfl)) (by kernel_rfl) fun p hp => by
  simp only [List.mem_cons, List.not_mem_nil, or_false] at hp
  rcases hp with rfl
  · exact ⟨rd52b_0_ok _, advG_ok (q52b_0)⟩
noncomputable def m52b (a0 : List Int) : Option E52b :=
  match a52b_0 (L52b_0.mk a0 (↑a0.length : Int) (0)) with
  | none =>
    none
  | some r1 =>
    bif decide (r1.t8 < r1.t7) then
      if 0 ≤ r1.t8 ∧ r1.t8 < (↑r1.t0.length : Int) then
        bif m35 r1.t0[r1.t8.toNat]! then
          some (r1.t8)
        else
          none
      else
        none
    else
      some (-1)
theorem c52b (a0 : List Int) : callR Try.prog (F52b) 300 (an52b) 52 [.sl 3 a0, .fn (.func 35) []] [] 0 rd52b_e = m52b a0 := by kernel_rfl
noncomputable def o52b (x : E52b) : Out := match (match outOf Try.prog 52 (pt52b_e x) with
    | some ds => some (Out.mk (resA ds) (keepR (pt52b_e x).R 0 (resA ds)) (pt52b_e x).nx)
    | none => none) with
  | some o => o
  | none => ⟨.tup [], [], 0⟩
theorem fn52b (a0 : List Int) (r : E52b) (h : m52b a0 = some r) : fnOk Try.prog 52 ∧ FnY Try.prog 52 [.sl 3 a0, .fn (.func 35) []] [] 0 (o52b r) :=
  fnY_of (p := r) F52b_ok (fa52b) rd52b_e_ok (fun p => by kernel_rfl) (ltd_of (by kernel_rfl)) (rltd_of (by kernel_rfl)) ((c52b a0).trans h)
theorem fnok52b : fnOk Try.prog 52 := ⟨_, Try.func52, by kernel_rfl, by kernel_rfl⟩
noncomputable def e52b (F : Orc) : Orc := orL 52 true (pkC (asL 3) (pkC (asFf 35 pkN) pkN)) (fun g => m52b g.1 : ((List Int) × ((Unit)) × Unit) → Option E52b) o52b F
theorem e52b_ok {F : Orc} (h : OrcG Try.prog F) : OrcG Try.prog (e52b F) := orL_g (sc := scU) h scU_ok fnok52b (ca := fun g => [.sl 3 g.1, .fn (.func 35) []]) ((.cons (.l 3) (.cons (.ff 35 .nil) .nil)) : PkN (pkC (asL 3) (pkC (asFf 35 pkN) pkN)) _) (fun b => by kernel_rfl) (fun b => by kernel_rfl) (fun g b hb => (fn52b g.1 b hb).2)
theorem e52b_pure {F : Orc} {f : Nat} (h : PureF F f) : PureF (e52b F) f := orL_pure h (fun b => by kernel_rfl)
/-! ### 41: keyhole/keyholelaw50.head$1 -/
noncomputable def F41 : Orc := or0
theorem F41_ok : OrcG Try.prog F41 := or0_g
abbrev E41 : Type := Bool
abbrev P41_e : Type := (Bool × Unit) × (Unit)
noncomputable def rb41_e : St → Option P41_e := stR 0 (slC 2 asB slN) rsN
noncomputable def pb41_e : P41_e → St := stP 0 (fun z => [(2, .b z.1)]) (fun z => [])
noncomputable def mk41_e (z : P41_e) : E41 := z.1.1
noncomputable def pt41_e (x : E41) : St := pb41_e ((x, ()), (()))
noncomputable def rd41_e : St → Option E41 := rdC 0 [] [2] (rdM mk41_e rb41_e)
theorem rb41_e_ok (n : Nat) : RdOk 0 n rb41_e pb41_e := stR_ok (.cons .b .nil) .nil
theorem rd41_e_ok (n : Nat) : RdOk 0 n rd41_e pt41_e := rdC_ok ((rb41_e_ok n).m mk41_e (pat' := pt41_e) fun _ => rfl)
noncomputable def an41 : An := (.two .no (.two (.rb [] 2) .no))
theorem pu41  : ∀ f ∈ ([] : List Nat), PureF (F41) f := fun f hf => by
  cases hf
theorem fa41 : FnAn Try.prog (F41) 0 300 41 (an41) := fnAn_of (l := [(.skip, (.rb [] 2))]) Try.func41 (bodyOf_eq (by kernel_rfl)) (by kernel_rfl) fun p hp => by
  simp only [List.mem_cons, List.not_mem_nil, or_false] at hp
  rcases hp with rfl
  · exact pu41
noncomputable def m41 (a0 : Int) : E41 :=
  let r1 : Bool := bif decide (a0 < 1) then
    true
  else
    decide (1048576 < a0)
  r1
theorem c41 (a0 : Int) : callR Try.prog (F41) 300 (an41) 41 [.n .i64 a0] [] 0 rd41_e = some (m41 a0) := by
  refine Eq.trans (b := (
    match bif decide (a0 < 1) then
      some (true)
    else
      some (decide (1048576 < a0)) with
    | none =>
      none
    | some r1 =>
      some (r1) : Option E41)) (by kernel_rfl) ?_
  simp only [m41, cond_some, ite_some]
noncomputable def o41 (x : E41) : Out := match (match outOf Try.prog 41 (pt41_e x) with
    | some ds => some (Out.mk (resA ds) (keepR (pt41_e x).R 0 (resA ds)) (pt41_e x).nx)
    | none => none) with
  | some o => o
  | none => ⟨.tup [], [], 0⟩
theorem fn41 (a0 : Int) (r : E41) (h : m41 a0 = r) : fnOk Try.prog 41 ∧ FnY Try.prog 41 [.n .i64 a0] [] 0 (o41 r) :=
  fnY_of (p := r) F41_ok (fa41) rd41_e_ok (fun p => by kernel_rfl) (ltd_of (by kernel_rfl)) (rltd_of (by kernel_rfl)) ((c41 a0).trans (congrArg some h))
theorem fnok41 : fnOk Try.prog 41 := ⟨_, Try.func41, by kernel_rfl, by kernel_rfl⟩
noncomputable def e41 (F : Orc) : Orc := orL 41 false (pkC (asI .i64) pkN) (fun g => some (m41 g.1) : (Int × Unit) → Option E41) o41 F
theorem e41_ok {F : Orc} (h : OrcG Try.prog F) : OrcG Try.prog (e41 F) := orL_g (sc := scU) h scU_ok fnok41 (ca := fun g => [.n .i64 g.1]) ((.cons (.i .i64) .nil) : PkN (pkC (asI .i64) pkN) _) (fun b => by kernel_rfl) (fun b => by kernel_rfl) (fun g b hb => (fn41 g.1 b (Option.some.inj hb)).2)
theorem e41_pure {F : Orc} {f : Nat} (h : PureF F f) : PureF (e41 F) f := orL_pure h (fun b => by kernel_rfl)
/-! ### 52c: slices.IndexFunc[[]int,int] -/
noncomputable def F52c : Orc := (e41 or0)
theorem F52c_ok : OrcG Try.prog F52c := (e41_ok or0_g)
structure L52c_0 where
  t0 : List Int
  t7 : Int
  t8 : Int
abbrev P52c_0 : Type := ((List Int) × ((Unit)) × Int × Int × Unit) × (Unit)
noncomputable def rb52c_0 : St → Option P52c_0 := stR 0 (slC 0 (asL 3) (slC 1 (asFf 41 pkN) (slC 7 (asI .i64) (slC 8 (asI .i64) slN)))) rsN
noncomputable def pb52c_0 : P52c_0 → St := stP 0 (fun z => [(0, .sl 3 z.1), (1, .fn (.func 41) []), (7, .n .i64 z.2.2.1), (8, .n .i64 z.2.2.2.1)]) (fun z => [])
noncomputable def mk52c_0 (z : P52c_0) : L52c_0 := ⟨z.1.1, z.1.2.2.1, z.1.2.2.2.1⟩
noncomputable def pt52c_0 (x : L52c_0) : St := pb52c_0 ((x.t0, (()), x.t7, x.t8, ()), (()))
noncomputable def rd52c_0 : St → Option L52c_0 := rdC 0 [] [0, 1, 7, 8] (rdM mk52c_0 rb52c_0)
theorem rb52c_0_ok (n : Nat) : RdOk 0 n rb52c_0 pb52c_0 := stR_ok (.cons (.l 3) (.cons (.ff 41 .nil) (.cons (.i .i64) (.cons (.i .i64) .nil)))) .nil
theorem rd52c_0_ok (n : Nat) : RdOk 0 n rd52c_0 pt52c_0 := rdC_ok ((rb52c_0_ok n).m mk52c_0 (pat' := pt52c_0) fun _ => rfl)
noncomputable def n52c_0 (p : L52c_0) : Option (Option L52c_0) :=
  bif decide (p.t8 < p.t7) then
    if 0 ≤ p.t8 ∧ p.t8 < (↑p.t0.length : Int) then
      bif m41 p.t0[p.t8.toNat]! then
        some (none)
      else
        some (some (L52c_0.mk p.t0 p.t7 (IntKind.i64.wrap (p.t8 + 1))))
    else
      none
  else
    some (none)
theorem q52c_0 (p : L52c_0) : execA Try.prog (F52c) Try.f52.ntmps 300 (loopAt Try.f52 0) .no (Option L52c_0) (pt52c_0 p) (kOn rd52c_0) = n52c_0 p := by kernel_rfl
noncomputable def a52c_0 : L52c_0 → Option L52c_0 := advG (n52c_0)
abbrev E52c : Type := Int
abbrev P52c_e : Type := (Int × Unit) × (Unit)
noncomputable def rb52c_e : St → Option P52c_e := stR 0 (slC 4 (asI .i64) slN) rsN
noncomputable def pb52c_e : P52c_e → St := stP 0 (fun z => [(4, .n .i64 z.1)]) (fun z => [])
noncomputable def mk52c_e (z : P52c_e) : E52c := z.1.1
noncomputable def pt52c_e (x : E52c) : St := pb52c_e ((x, ()), (()))
noncomputable def rd52c_e : St → Option E52c := rdC 0 [] [4] (rdM mk52c_e rb52c_e)
theorem rb52c_e_ok (n : Nat) : RdOk 0 n rb52c_e pb52c_e := stR_ok (.cons (.i .i64) .nil) .nil
theorem rd52c_e_ok (n : Nat) : RdOk 0 n rd52c_e pt52c_e := rdC_ok ((rb52c_e_ok n).m mk52c_e (pat' := pt52c_e) fun _ => rfl)
noncomputable def an52c : An := (.two .no (.two (.two .no (.lp L52c_0 rd52c_0 pt52c_0 a52c_0 .no)) .no))
theorem fa52c : FnAn Try.prog (F52c) 0 300 52 (an52c) := fnAn_of (l := [(loopAt Try.f52 0, (.lp L52c_0 rd52c_0 pt52c_0 a52c_0 .no))]) Try.func52 (bodyOf_eq (by kernel_rfl)) (by kernel_rfl) fun p hp => by
  simp only [List.mem_cons, List.not_mem_nil, or_false] at hp
  rcases hp with rfl
  · exact ⟨rd52c_0_ok _, advG_ok (q52c_0)⟩
noncomputable def m52c (a0 : List Int) : Option E52c :=
  match a52c_0 (L52c_0.mk a0 (↑a0.length : Int) (0)) with
  | none =>
    none
  | some r1 =>
    bif decide (r1.t8 < r1.t7) then
      if 0 ≤ r1.t8 ∧ r1.t8 < (↑r1.t0.length : Int) then
        bif m41 r1.t0[r1.t8.toNat]! then
          some (r1.t8)
        else
          none
      else
        none
    else
      some (-1)
theorem c52c (a0 : List Int) : callR Try.prog (F52c) 300 (an52c) 52 [.sl 3 a0, .fn (.func 41) []] [] 0 rd52c_e = m52c a0 := by kernel_rfl
noncomputable def o52c (x : E52c) : Out := match (match outOf Try.prog 52 (pt52c_e x) with
    | some ds => some (Out.mk (resA ds) (keepR (pt52c_e x).R 0 (resA ds)) (pt52c_e x).nx)
    | none => none) with
  | some o => o
  | none => ⟨.tup [], [], 0⟩
theorem fn52c (a0 : List Int) (r : E52c) (h : m52c a0 = some r) : fnOk Try.prog 52 ∧ FnY Try.prog 52 [.sl 3 a0, .fn (.func 41) []] [] 0 (o52c r) :=
  fnY_of (p := r) F52c_ok (fa52c) rd52c_e_ok (fun p => by kernel_rfl) (ltd_of (by kernel_rfl)) (rltd_of (by kernel_rfl)) ((c52c a0).trans h)
theorem fnok52c : fnOk Try.prog 52 := ⟨_, Try.func52, by kernel_rfl, by kernel_rfl⟩
noncomputable def e52c (F : Orc) : Orc := orL 52 true (pkC (asL 3) (pkC (asFf 41 pkN) pkN)) (fun g => m52c g.1 : ((List Int) × ((Unit)) × Unit) → Option E52c) o52c F
theorem e52c_ok {F : Orc} (h : OrcG Try.prog F) : OrcG Try.prog (e52c F) := orL_g (sc := scU) h scU_ok fnok52c (ca := fun g => [.sl 3 g.1, .fn (.func 41) []]) ((.cons (.l 3) (.cons (.ff 41 .nil) .nil)) : PkN (pkC (asL 3) (pkC (asFf 41 pkN) pkN)) _) (fun b => by kernel_rfl) (fun b => by kernel_rfl) (fun g b hb => (fn52c g.1 b hb).2)
theorem e52c_pure {F : Orc} {f : Nat} (h : PureF F f) : PureF (e52c F) f := orL_pure h (fun b => by kernel_rfl)
/-! ### 33: slices.ContainsFunc[[]int,int] -/
noncomputable def F33 : Orc := (e52 (e52c (e52b (e42 or0))))
theorem F33_ok : OrcG Try.prog F33 := (e52_ok (e52c_ok (e52b_ok (e42_ok or0_g))))
abbrev E33 : Type := Bool
abbrev P33_e : Type := (Bool × Unit) × (Unit)
noncomputable def rb33_e : St → Option P33_e := stR 0 (slC 4 asB slN) rsN
noncomputable def pb33_e : P33_e → St := stP 0 (fun z => [(4, .b z.1)]) (fun z => [])
noncomputable def mk33_e (z : P33_e) : E33 := z.1.1
noncomputable def pt33_e (x : E33) : St := pb33_e ((x, ()), (()))
noncomputable def rd33_e : St → Option E33 := rdC 0 [] [4] (rdM mk33_e rb33_e)
theorem rb33_e_ok (n : Nat) : RdOk 0 n rb33_e pb33_e := stR_ok (.cons .b .nil) .nil
theorem rd33_e_ok (n : Nat) : RdOk 0 n rd33_e pt33_e := rdC_ok ((rb33_e_ok n).m mk33_e (pat' := pt33_e) fun _ => rfl)
noncomputable def an33 : An := .no
theorem fa33 : FnAn Try.prog (F33) 0 300 33 (an33) := fnAn_of (l := []) Try.func33 (bodyOf_eq (by kernel_rfl)) (by kernel_rfl) fun p hp => by
  cases hp
noncomputable def m33 (a0 : List Int) : Option E33 :=
  match m52 a0 with
  | none =>
    none
  | some r1 =>
    some (decide (0 ≤ r1))
theorem c33 (a0 : List Int) : callR Try.prog (F33) 300 (an33) 33 [.sl 3 a0, .fn (.func 42) []] [] 0 rd33_e = m33 a0 := by kernel_rfl
noncomputable def o33 (x : E33) : Out := match (match outOf Try.prog 33 (pt33_e x) with
    | some ds => some (Out.mk (resA ds) (keepR (pt33_e x).R 0 (resA ds)) (pt33_e x).nx)
    | none => none) with
  | some o => o
  | none => ⟨.tup [], [], 0⟩
theorem fn33 (a0 : List Int) (r : E33) (h : m33 a0 = some r) : fnOk Try.prog 33 ∧ FnY Try.prog 33 [.sl 3 a0, .fn (.func 42) []] [] 0 (o33 r) :=
  fnY_of (p := r) F33_ok (fa33) rd33_e_ok (fun p => by kernel_rfl) (ltd_of (by kernel_rfl)) (rltd_of (by kernel_rfl)) ((c33 a0).trans h)
theorem fnok33 : fnOk Try.prog 33 := ⟨_, Try.func33, by kernel_rfl, by kernel_rfl⟩
noncomputable def e33 (F : Orc) : Orc := orL 33 true (pkC (asL 3) (pkC (asFf 42 pkN) pkN)) (fun g => m33 g.1 : ((List Int) × ((Unit)) × Unit) → Option E33) o33 F
theorem e33_ok {F : Orc} (h : OrcG Try.prog F) : OrcG Try.prog (e33 F) := orL_g (sc := scU) h scU_ok fnok33 (ca := fun g => [.sl 3 g.1, .fn (.func 42) []]) ((.cons (.l 3) (.cons (.ff 42 .nil) .nil)) : PkN (pkC (asL 3) (pkC (asFf 42 pkN) pkN)) _) (fun b => by kernel_rfl) (fun b => by kernel_rfl) (fun g b hb => (fn33 g.1 b hb).2)
theorem e33_pure {F : Orc} {f : Nat} (h : PureF F f) : PureF (e33 F) f := orL_pure h (fun b => by kernel_rfl)
/-! ### 33b: slices.ContainsFunc[[]int,int] -/
noncomputable def F33b : Orc := (e52 (e52c (e52b (e35 or0))))
theorem F33b_ok : OrcG Try.prog F33b := (e52_ok (e52c_ok (e52b_ok (e35_ok or0_g))))
abbrev E33b : Type := Bool
abbrev P33b_e : Type := (Bool × Unit) × (Unit)
noncomputable def rb33b_e : St → Option P33b_e := stR 0 (slC 4 asB slN) rsN
noncomputable def pb33b_e : P33b_e → St := stP 0 (fun z => [(4, .b z.1)]) (fun z => [])
noncomputable def mk33b_e (z : P33b_e) : E33b := z.1.1
noncomputable def pt33b_e (x : E33b) : St := pb33b_e ((x, ()), (()))
noncomputable def rd33b_e : St → Option E33b := rdC 0 [] [4] (rdM mk33b_e rb33b_e)
theorem rb33b_e_ok (n : Nat) : RdOk 0 n rb33b_e pb33b_e := stR_ok (.cons .b .nil) .nil
theorem rd33b_e_ok (n : Nat) : RdOk 0 n rd33b_e pt33b_e := rdC_ok ((rb33b_e_ok n).m mk33b_e (pat' := pt33b_e) fun _ => rfl)
noncomputable def an33b : An := .no
theorem fa33b : FnAn Try.prog (F33b) 0 300 33 (an33b) := fnAn_of (l := []) Try.func33 (bodyOf_eq (by kernel_rfl)) (by kernel_rfl) fun p hp => by
  cases hp
noncomputable def m33b (a0 : List Int) : Option E33b :=
  match m52b a0 with
  | none =>
    none
  | some r1 =>
    some (decide (0 ≤ r1))
theorem c33b (a0 : List Int) : callR Try.prog (F33b) 300 (an33b) 33 [.sl 3 a0, .fn (.func 35) []] [] 0 rd33b_e = m33b a0 := by kernel_rfl
noncomputable def o33b (x : E33b) : Out := match (match outOf Try.prog 33 (pt33b_e x) with
    | some ds => some (Out.mk (resA ds) (keepR (pt33b_e x).R 0 (resA ds)) (pt33b_e x).nx)
    | none => none) with
  | some o => o
  | none => ⟨.tup [], [], 0⟩
theorem fn33b (a0 : List Int) (r : E33b) (h : m33b a0 = some r) : fnOk Try.prog 33 ∧ FnY Try.prog 33 [.sl 3 a0, .fn (.func 35) []] [] 0 (o33b r) :=
  fnY_of (p := r) F33b_ok (fa33b) rd33b_e_ok (fun p => by kernel_rfl) (ltd_of (by kernel_rfl)) (rltd_of (by kernel_rfl)) ((c33b a0).trans h)
theorem fnok33b : fnOk Try.prog 33 := ⟨_, Try.func33, by kernel_rfl, by kernel_rfl⟩
noncomputable def e33b (F : Orc) : Orc := orL 33 true (pkC (asL 3) (pkC (asFf 35 pkN) pkN)) (fun g => m33b g.1 : ((List Int) × ((Unit)) × Unit) → Option E33b) o33b F
theorem e33b_ok {F : Orc} (h : OrcG Try.prog F) : OrcG Try.prog (e33b F) := orL_g (sc := scU) h scU_ok fnok33b (ca := fun g => [.sl 3 g.1, .fn (.func 35) []]) ((.cons (.l 3) (.cons (.ff 35 .nil) .nil)) : PkN (pkC (asL 3) (pkC (asFf 35 pkN) pkN)) _) (fun b => by kernel_rfl) (fun b => by kernel_rfl) (fun g b hb => (fn33b g.1 b hb).2)
theorem e33b_pure {F : Orc} {f : Nat} (h : PureF F f) : PureF (e33b F) f := orL_pure h (fun b => by kernel_rfl)
/-! ### 33c: slices.ContainsFunc[[]int,int] -/
noncomputable def F33c : Orc := (e52 (e52c (e52b (e41 or0))))
theorem F33c_ok : OrcG Try.prog F33c := (e52_ok (e52c_ok (e52b_ok (e41_ok or0_g))))
abbrev E33c : Type := Bool
abbrev P33c_e : Type := (Bool × Unit) × (Unit)
noncomputable def rb33c_e : St → Option P33c_e := stR 0 (slC 4 asB slN) rsN
noncomputable def pb33c_e : P33c_e → St := stP 0 (fun z => [(4, .b z.1)]) (fun z => [])
noncomputable def mk33c_e (z : P33c_e) : E33c := z.1.1
noncomputable def pt33c_e (x : E33c) : St := pb33c_e ((x, ()), (()))
noncomputable def rd33c_e : St → Option E33c := rdC 0 [] [4] (rdM mk33c_e rb33c_e)
theorem rb33c_e_ok (n : Nat) : RdOk 0 n rb33c_e pb33c_e := stR_ok (.cons .b .nil) .nil
theorem rd33c_e_ok (n : Nat) : RdOk 0 n rd33c_e pt33c_e := rdC_ok ((rb33c_e_ok n).m mk33c_e (pat' := pt33c_e) fun _ => rfl)
noncomputable def an33c : An := .no
theorem fa33c : FnAn Try.prog (F33c) 0 300 33 (an33c) := fnAn_of (l := []) Try.func33 (bodyOf_eq (by kernel_rfl)) (by kernel_rfl) fun p hp => by
  cases hp
noncomputable def m33c (a0 : List Int) : Option E33c :=
  match m52c a0 with
  | none =>
    none
  | some r1 =>
    some (decide (0 ≤ r1))
theorem c33c (a0 : List Int) : callR Try.prog (F33c) 300 (an33c) 33 [.sl 3 a0, .fn (.func 41) []] [] 0 rd33c_e = m33c a0 := by kernel_rfl
noncomputable def o33c (x : E33c) : Out := match (match outOf Try.prog 33 (pt33c_e x) with
    | some ds => some (Out.mk (resA ds) (keepR (pt33c_e x).R 0 (resA ds)) (pt33c_e x).nx)
    | none => none) with
  | some o => o
  | none => ⟨.tup [], [], 0⟩
theorem fn33c (a0 : List Int) (r : E33c) (h : m33c a0 = some r) : fnOk Try.prog 33 ∧ FnY Try.prog 33 [.sl 3 a0, .fn (.func 41) []] [] 0 (o33c r) :=
  fnY_of (p := r) F33c_ok (fa33c) rd33c_e_ok (fun p => by kernel_rfl) (ltd_of (by kernel_rfl)) (rltd_of (by kernel_rfl)) ((c33c a0).trans h)
theorem fnok33c : fnOk Try.prog 33 := ⟨_, Try.func33, by kernel_rfl, by kernel_rfl⟩
noncomputable def e33c (F : Orc) : Orc := orL 33 true (pkC (asL 3) (pkC (asFf 41 pkN) pkN)) (fun g => m33c g.1 : ((List Int) × ((Unit)) × Unit) → Option E33c) o33c F
theorem e33c_ok {F : Orc} (h : OrcG Try.prog F) : OrcG Try.prog (e33c F) := orL_g (sc := scU) h scU_ok fnok33c (ca := fun g => [.sl 3 g.1, .fn (.func 41) []]) ((.cons (.l 3) (.cons (.ff 41 .nil) .nil)) : PkN (pkC (asL 3) (pkC (asFf 41 pkN) pkN)) _) (fun b => by kernel_rfl) (fun b => by kernel_rfl) (fun g b hb => (fn33c g.1 b hb).2)
theorem e33c_pure {F : Orc} {f : Nat} (h : PureF F f) : PureF (e33c F) f := orL_pure h (fun b => by kernel_rfl)
/-! ### 34: keyhole/keyholelaw50.fields -/
noncomputable def F34 : Orc := or0
theorem F34_ok : OrcG Try.prog F34 := or0_g
abbrev E34 : Type := List Int
abbrev P34_e : Type := (Unit × Unit) × ((List Int) × Unit)
noncomputable def rb34_e : St → Option P34_e := stR 1 (slC 2 (asO 0) slN) (rsR 0 3 rsN)
noncomputable def pb34_e : P34_e → St := stP 1 (fun z => [(2, .own 0)]) (fun z => [(0, .row 3 z.1)])
noncomputable def mk34_e (z : P34_e) : E34 := z.2.1
noncomputable def pt34_e (x : E34) : St := pb34_e (((), ()), (x, ()))
noncomputable def rd34_e : St → Option E34 := rdC 0 [] [2] (rdM mk34_e rb34_e)
theorem rb34_e_ok (n : Nat) : RdOk 0 n rb34_e pb34_e := stR_ok (.cons (.o 0) .nil) (.row .nil)
theorem rd34_e_ok (n : Nat) : RdOk 0 n rd34_e pt34_e := rdC_ok ((rb34_e_ok n).m mk34_e (pat' := pt34_e) fun _ => rfl)
noncomputable def an34 : An := .no
theorem fa34 : FnAn Try.prog (F34) 0 300 34 (an34) := fnAn_of (l := []) Try.func34 (bodyOf_eq (by kernel_rfl)) (by kernel_rfl) fun p hp => by
  cases hp
noncomputable def m34 (a0 : Record) : E34 :=
  [a0.fEpoch, a0.fSeq, a0.fSecret, a0.fClient, a0.fNumber, a0.fProgram, a0.fPublic, a0.fAnswer, a0.fCharge]
theorem c34 (a0 : Record) : callR Try.prog (F34) 300 (an34) 34 [.agg (uni.cells 23 a0)] [] 0 rd34_e = some (m34 a0) := by kernel_rfl
noncomputable def o34 (x : E34) : Out := match (match outOf Try.prog 34 (pt34_e x) with
    | some ds => some (Out.mk (resA ds) (keepR (pt34_e x).R 0 (resA ds)) (pt34_e x).nx)
    | none => none) with
  | some o => o
  | none => ⟨.tup [], [], 0⟩
theorem fn34 (a0 : Record) (r : E34) (h : m34 a0 = r) : fnOk Try.prog 34 ∧ FnY Try.prog 34 [.agg (uni.cells 23 a0)] [] 0 (o34 r) :=
  fnY_of (p := r) F34_ok (fa34) rd34_e_ok (fun p => by kernel_rfl) (ltd_of (by kernel_rfl)) (rltd_of (by kernel_rfl)) ((c34 a0).trans (congrArg some h))
theorem fnok34 : fnOk Try.prog 34 := ⟨_, Try.func34, by kernel_rfl, by kernel_rfl⟩
noncomputable def e34 (F : Orc) : Orc := orL 34 false (pkC (asGc 23) pkN) (fun g => some (m34 g.1) : (Record × Unit) → Option E34) o34 F
theorem e34_ok {F : Orc} (h : OrcG Try.prog F) : OrcG Try.prog (e34 F) := orL_g (sc := scU) h scU_ok fnok34 (ca := fun g => [.agg (uni.cells 23 g.1)]) ((.cons (.g 23) .nil) : PkN (pkC (asGc 23) pkN) _) (fun b => by kernel_rfl) (fun b => by kernel_rfl) (fun g b hb => (fn34 g.1 b (Option.some.inj hb)).2)
theorem e34_skip {F : Orc} {f : Nat} (hne : Nat.beq f 34 = false) (h : PureF F f) : PureF (e34 F) f := orL_skip hne h
/-! ### 9: keyhole/keyholelaw50.valid -/
noncomputable def F9 : Orc := (e35 (e34 (e33 (e33c (e33b or0)))))
theorem F9_ok : OrcG Try.prog F9 := (e35_ok (e34_ok (e33_ok (e33c_ok (e33b_ok or0_g)))))
abbrev E9 : Type := Bool
abbrev P9_e : Type := (Bool × Unit) × (Unit)
noncomputable def rb9_e : St → Option P9_e := stR 0 (slC 2 asB slN) rsN
noncomputable def pb9_e : P9_e → St := stP 0 (fun z => [(2, .b z.1)]) (fun z => [])
noncomputable def mk9_e (z : P9_e) : E9 := z.1.1
noncomputable def pt9_e (x : E9) : St := pb9_e ((x, ()), (()))
noncomputable def rd9_e : St → Option E9 := rdC 0 [] [2] (rdM mk9_e rb9_e)
theorem rb9_e_ok (n : Nat) : RdOk 0 n rb9_e pb9_e := stR_ok (.cons .b .nil) .nil
theorem rd9_e_ok (n : Nat) : RdOk 0 n rd9_e pt9_e := rdC_ok ((rb9_e_ok n).m mk9_e (pat' := pt9_e) fun _ => rfl)
noncomputable def an9 : An := .no
theorem fa9 : FnAn Try.prog (F9) 0 300 9 (an9) := fnAn_of (l := []) Try.func9 (bodyOf_eq (by kernel_rfl)) (by kernel_rfl) fun p hp => by
  cases hp
noncomputable def m9 (a0 : Record) : Option E9 :=
  match m33b (m34 a0) with
  | none =>
    none
  | some r1 =>
    some (bif r1 then false else true)
theorem c9 (a0 : Record) : callR Try.prog (F9) 300 (an9) 9 [.agg (uni.cells 23 a0)] [] 0 rd9_e = m9 a0 := by kernel_rfl
noncomputable def o9 (x : E9) : Out := match (match outOf Try.prog 9 (pt9_e x) with
    | some ds => some (Out.mk (resA ds) (keepR (pt9_e x).R 0 (resA ds)) (pt9_e x).nx)
    | none => none) with
  | some o => o
  | none => ⟨.tup [], [], 0⟩
theorem fn9 (a0 : Record) (r : E9) (h : m9 a0 = some r) : fnOk Try.prog 9 ∧ FnY Try.prog 9 [.agg (uni.cells 23 a0)] [] 0 (o9 r) :=
  fnY_of (p := r) F9_ok (fa9) rd9_e_ok (fun p => by kernel_rfl) (ltd_of (by kernel_rfl)) (rltd_of (by kernel_rfl)) ((c9 a0).trans h)
theorem fnok9 : fnOk Try.prog 9 := ⟨_, Try.func9, by kernel_rfl, by kernel_rfl⟩
noncomputable def e9 (F : Orc) : Orc := orL 9 false (pkC (asGc 23) pkN) (fun g => m9 g.1 : (Record × Unit) → Option E9) o9 F
theorem e9_ok {F : Orc} (h : OrcG Try.prog F) : OrcG Try.prog (e9 F) := orL_g (sc := scU) h scU_ok fnok9 (ca := fun g => [.agg (uni.cells 23 g.1)]) ((.cons (.g 23) .nil) : PkN (pkC (asGc 23) pkN) _) (fun b => by kernel_rfl) (fun b => by kernel_rfl) (fun g b hb => (fn9 g.1 b hb).2)
theorem e9_pure {F : Orc} {f : Nat} (h : PureF F f) : PureF (e9 F) f := orL_pure h (fun b => by kernel_rfl)
/-! ### 36: keyhole/ledger.get -/
noncomputable def F36 : Orc := or0
theorem F36_ok : OrcG Try.prog F36 := or0_g
structure L36_0 where
  t3 : Int
  t6 : List Int
  t7 : Int
  t8 : Int
abbrev P36_0 : Type := (Int × (List Int) × Int × Int × Unit) × (Unit)
noncomputable def rb36_0 : St → Option P36_0 := stR 0 (slC 3 (asI .i64) (slC 6 (asL 5) (slC 7 (asI .i64) (slC 8 (asI .i64) slN)))) rsN
noncomputable def pb36_0 : P36_0 → St := stP 0 (fun z => [(3, .n .i64 z.1), (6, .sl 5 z.2.1), (7, .n .i64 z.2.2.1), (8, .n .i64 z.2.2.2.1)]) (fun z => [])
noncomputable def mk36_0 (z : P36_0) : L36_0 := ⟨z.1.1, z.1.2.1, z.1.2.2.1, z.1.2.2.2.1⟩
noncomputable def pt36_0 (x : L36_0) : St := pb36_0 ((x.t3, x.t6, x.t7, x.t8, ()), (()))
noncomputable def rd36_0 : St → Option L36_0 := rdC 0 [] [3, 6, 7, 8] (rdM mk36_0 rb36_0)
theorem rb36_0_ok (n : Nat) : RdOk 0 n rb36_0 pb36_0 := stR_ok (.cons (.i .i64) (.cons (.l 5) (.cons (.i .i64) (.cons (.i .i64) .nil)))) .nil
theorem rd36_0_ok (n : Nat) : RdOk 0 n rd36_0 pt36_0 := rdC_ok ((rb36_0_ok n).m mk36_0 (pat' := pt36_0) fun _ => rfl)
noncomputable def n36_0 (p : L36_0) : Option (Option L36_0) :=
  bif decide (p.t8 < p.t7) then
    if 0 ≤ p.t8 ∧ p.t8 < (↑p.t6.length : Int) then
      some (some (L36_0.mk (bOr IntKind.i64 (bShl IntKind.i64 p.t3 (8)) (IntKind.i64.wrap p.t6[p.t8.toNat]!)) p.t6 p.t7 (IntKind.i64.wrap (p.t8 + 1))))
    else
      none
  else
    some (none)
theorem q36_0 (p : L36_0) : execA Try.prog (F36) Try.f36.ntmps 300 (loopAt Try.f36 0) .no (Option L36_0) (pt36_0 p) (kOn rd36_0) = n36_0 p := by kernel_rfl
noncomputable def a36_0 : L36_0 → Option L36_0 := advG (n36_0)
abbrev E36 : Type := Int
abbrev P36_e : Type := (Int × Unit) × (Unit)
noncomputable def rb36_e : St → Option P36_e := stR 0 (slC 2 (asI .i64) slN) rsN
noncomputable def pb36_e : P36_e → St := stP 0 (fun z => [(2, .n .i64 z.1)]) (fun z => [])
noncomputable def mk36_e (z : P36_e) : E36 := z.1.1
noncomputable def pt36_e (x : E36) : St := pb36_e ((x, ()), (()))
noncomputable def rd36_e : St → Option E36 := rdC 0 [] [2] (rdM mk36_e rb36_e)
theorem rb36_e_ok (n : Nat) : RdOk 0 n rb36_e pb36_e := stR_ok (.cons (.i .i64) .nil) .nil
theorem rd36_e_ok (n : Nat) : RdOk 0 n rd36_e pt36_e := rdC_ok ((rb36_e_ok n).m mk36_e (pat' := pt36_e) fun _ => rfl)
noncomputable def an36 : An := (.two .no (.two .no (.two (.two .no (.lp L36_0 rd36_0 pt36_0 a36_0 .no)) .no)))
theorem fa36 : FnAn Try.prog (F36) 0 300 36 (an36) := fnAn_of (l := [(loopAt Try.f36 0, (.lp L36_0 rd36_0 pt36_0 a36_0 .no))]) Try.func36 (bodyOf_eq (by kernel_rfl)) (by kernel_rfl) fun p hp => by
  simp only [List.mem_cons, List.not_mem_nil, or_false] at hp
  rcases hp with rfl
  · exact ⟨rd36_0_ok _, advG_ok (q36_0)⟩
noncomputable def m36 (a0 : List Int) : Option E36 :=
  match a36_0 (L36_0.mk (0) a0 (↑a0.length : Int) (0)) with
  | none =>
    none
  | some r1 =>
    bif decide (r1.t8 < r1.t7) then
      if 0 ≤ r1.t8 ∧ r1.t8 < (↑r1.t6.length : Int) then
        none
      else
        none
    else
      some (r1.t3)
theorem c36 (a0 : List Int) : callR Try.prog (F36) 300 (an36) 36 [.sl 5 a0] [] 0 rd36_e = m36 a0 := by kernel_rfl
noncomputable def o36 (x : E36) : Out := match (match outOf Try.prog 36 (pt36_e x) with
    | some ds => some (Out.mk (resA ds) (keepR (pt36_e x).R 0 (resA ds)) (pt36_e x).nx)
    | none => none) with
  | some o => o
  | none => ⟨.tup [], [], 0⟩
theorem fn36 (a0 : List Int) (r : E36) (h : m36 a0 = some r) : fnOk Try.prog 36 ∧ FnY Try.prog 36 [.sl 5 a0] [] 0 (o36 r) :=
  fnY_of (p := r) F36_ok (fa36) rd36_e_ok (fun p => by kernel_rfl) (ltd_of (by kernel_rfl)) (rltd_of (by kernel_rfl)) ((c36 a0).trans h)
theorem fnok36 : fnOk Try.prog 36 := ⟨_, Try.func36, by kernel_rfl, by kernel_rfl⟩
noncomputable def e36 (F : Orc) : Orc := orL 36 false (pkC (asL 5) pkN) (fun g => m36 g.1 : ((List Int) × Unit) → Option E36) o36 F
theorem e36_ok {F : Orc} (h : OrcG Try.prog F) : OrcG Try.prog (e36 F) := orL_g (sc := scU) h scU_ok fnok36 (ca := fun g => [.sl 5 g.1]) ((.cons (.l 5) .nil) : PkN (pkC (asL 5) pkN) _) (fun b => by kernel_rfl) (fun b => by kernel_rfl) (fun g b hb => (fn36 g.1 b hb).2)
theorem e36_pure {F : Orc} {f : Nat} (h : PureF F f) : PureF (e36 F) f := orL_pure h (fun b => by kernel_rfl)
/-! ### 37: bytes.Equal -/
noncomputable def F37 : Orc := or0
theorem F37_ok : OrcG Try.prog F37 := or0_g
abbrev E37 : Type := Bool
abbrev P37_e : Type := (Bool × Unit) × (Unit)
noncomputable def rb37_e : St → Option P37_e := stR 0 (slC 4 asB slN) rsN
noncomputable def pb37_e : P37_e → St := stP 0 (fun z => [(4, .b z.1)]) (fun z => [])
noncomputable def mk37_e (z : P37_e) : E37 := z.1.1
noncomputable def pt37_e (x : E37) : St := pb37_e ((x, ()), (()))
noncomputable def rd37_e : St → Option E37 := rdC 0 [] [4] (rdM mk37_e rb37_e)
theorem rb37_e_ok (n : Nat) : RdOk 0 n rb37_e pb37_e := stR_ok (.cons .b .nil) .nil
theorem rd37_e_ok (n : Nat) : RdOk 0 n rd37_e pt37_e := rdC_ok ((rb37_e_ok n).m mk37_e (pat' := pt37_e) fun _ => rfl)
noncomputable def an37 : An := .no
theorem fa37 : FnAn Try.prog (F37) 0 300 37 (an37) := fnAn_of (l := []) Try.func37 (bodyOf_eq (by kernel_rfl)) (by kernel_rfl) fun p hp => by
  cases hp
noncomputable def m37 (a0 : List Int) (a1 : List Int) : E37 :=
  (ByteArray.mk (Array.mk (List.map (fun n => UInt8.ofNat n.toNat) a0))).toList == (ByteArray.mk (Array.mk (List.map (fun n => UInt8.ofNat n.toNat) a1))).toList
theorem c37 (a0 : List Int) (a1 : List Int) : callR Try.prog (F37) 300 (an37) 37 [.sl 5 a0, .sl 5 a1] [] 0 rd37_e = some (m37 a0 a1) := by kernel_rfl
noncomputable def o37 (x : E37) : Out := match (match outOf Try.prog 37 (pt37_e x) with
    | some ds => some (Out.mk (resA ds) (keepR (pt37_e x).R 0 (resA ds)) (pt37_e x).nx)
    | none => none) with
  | some o => o
  | none => ⟨.tup [], [], 0⟩
theorem fn37 (a0 : List Int) (a1 : List Int) (r : E37) (h : m37 a0 a1 = r) : fnOk Try.prog 37 ∧ FnY Try.prog 37 [.sl 5 a0, .sl 5 a1] [] 0 (o37 r) :=
  fnY_of (p := r) F37_ok (fa37) rd37_e_ok (fun p => by kernel_rfl) (ltd_of (by kernel_rfl)) (rltd_of (by kernel_rfl)) ((c37 a0 a1).trans (congrArg some h))
theorem fnok37 : fnOk Try.prog 37 := ⟨_, Try.func37, by kernel_rfl, by kernel_rfl⟩
noncomputable def e37 (F : Orc) : Orc := orL 37 false (pkC (asL 5) (pkC (asL 5) pkN)) (fun g => some (m37 g.1 g.2.1) : ((List Int) × (List Int) × Unit) → Option E37) o37 F
theorem e37_ok {F : Orc} (h : OrcG Try.prog F) : OrcG Try.prog (e37 F) := orL_g (sc := scU) h scU_ok fnok37 (ca := fun g => [.sl 5 g.1, .sl 5 g.2.1]) ((.cons (.l 5) (.cons (.l 5) .nil)) : PkN (pkC (asL 5) (pkC (asL 5) pkN)) _) (fun b => by kernel_rfl) (fun b => by kernel_rfl) (fun g b hb => (fn37 g.1 g.2.1 b (Option.some.inj hb)).2)
theorem e37_pure {F : Orc} {f : Nat} (h : PureF F f) : PureF (e37 F) f := orL_pure h (fun b => by kernel_rfl)
/-! ### 10: keyhole/ledger.Decode -/
noncomputable def F10 : Orc := (e37 (e36 (e29 (e8 or0))))
theorem F10_ok : OrcG Try.prog F10 := (e37_ok (e36_ok (e29_ok (e8_ok or0_g))))
abbrev E10 : Type := Record × Bool
abbrev P10_e : Type := (Unit × Bool × Unit) × (Record × Unit)
noncomputable def rb10_e : St → Option P10_e := stR 1 (slC 2 (asP 0 0) (slC 3 asB slN)) (rsN2 0 23 (asCs 23) rsN)
noncomputable def pb10_e : P10_e → St := stP 1 (fun z => [(2, .ptr 0 0), (3, .b z.2.1)]) (fun z => [(0, .box 23 (uni.cells 23 z.1))])
noncomputable def mk10_e (z : P10_e) : E10 := (z.2.1, z.1.2.1)
noncomputable def pt10_e (x : E10) : St := pb10_e (((), x.2, ()), (x.1, ()))
noncomputable def rd10_e : St → Option E10 := rdC 0 [] [2, 3] (rdM mk10_e rb10_e)
theorem rb10_e_ok (n : Nat) : RdOk 0 n rb10_e pb10_e := stR_ok (.cons (.p 0 0) (.cons .b .nil)) (.boxN (PkN.parse 23) .nil)
theorem rd10_e_ok (n : Nat) : RdOk 0 n rd10_e pt10_e := rdC_ok ((rb10_e_ok n).m mk10_e (pat' := pt10_e) fun _ => rfl)
noncomputable def an10 : An := (.two .no (.two .no (.two .no (.two .no (.two .no (.two (.two (.rb [37] 42) .no) .no))))))
theorem pu10  : ∀ f ∈ ([37] : List Nat), PureF (F10) f := fun f hf => by
  simp only [List.mem_cons, List.not_mem_nil, or_false] at hf
  rcases hf with rfl
  · exact (e37_pure (e36_pure (e29_skip (f := 37) rfl (e8_skip (f := 37) rfl or0_pure))))
theorem fa10 : FnAn Try.prog (F10) 0 300 10 (an10) := fnAn_of (l := [(.skip, (.rb [37] 42))]) Try.func10 (bodyOf_eq (by kernel_rfl)) (by kernel_rfl) fun p hp => by
  simp only [List.mem_cons, List.not_mem_nil, or_false] at hp
  rcases hp with rfl
  · exact pu10
noncomputable def m10 (a0 : List Int) : Option E10 :=
  bif bif decide ((↑a0.length : Int) = 96) then false else true then
    some ((Record.mk (0) (0) (0) (0) (0) (0) (0) (0) (0), false))
  else
    if (0 : Int) ≤ (1 : Int) ∧ (1 : Int) ≤ (5 : Int) ∧ (5 : Int) ≤ (↑a0.length : Int) then
      match m36 (List.drop 1 (List.take 5 a0)) with
      | none =>
        none
      | some r1 =>
        if (0 : Int) ≤ (5 : Int) ∧ (5 : Int) ≤ (9 : Int) ∧ (9 : Int) ≤ (↑a0.length : Int) then
          match m36 (List.drop 5 (List.take 9 a0)) with
          | none =>
            none
          | some r2 =>
            if (0 : Int) ≤ (9 : Int) ∧ (9 : Int) ≤ (13 : Int) ∧ (13 : Int) ≤ (↑a0.length : Int) then
              match m36 (List.drop 9 (List.take 13 a0)) with
              | none =>
                none
              | some r3 =>
                if (0 : Int) ≤ (13 : Int) ∧ (13 : Int) ≤ (17 : Int) ∧ (17 : Int) ≤ (↑a0.length : Int) then
                  match m36 (List.drop 13 (List.take 17 a0)) with
                  | none =>
                    none
                  | some r4 =>
                    if (0 : Int) ≤ (17 : Int) ∧ (17 : Int) ≤ (21 : Int) ∧ (21 : Int) ≤ (↑a0.length : Int) then
                      match m36 (List.drop 17 (List.take 21 a0)) with
                      | none =>
                        none
                      | some r5 =>
                        if (0 : Int) ≤ (21 : Int) ∧ (21 : Int) ≤ (25 : Int) ∧ (25 : Int) ≤ (↑a0.length : Int) then
                          match m36 (List.drop 21 (List.take 25 a0)) with
                          | none =>
                            none
                          | some r6 =>
                            if (0 : Int) ≤ (25 : Int) ∧ (25 : Int) ≤ (29 : Int) ∧ (29 : Int) ≤ (↑a0.length : Int) then
                              match m36 (List.drop 25 (List.take 29 a0)) with
                              | none =>
                                none
                              | some r7 =>
                                if (0 : Int) ≤ (29 : Int) ∧ (29 : Int) ≤ (33 : Int) ∧ (33 : Int) ≤ (↑a0.length : Int) then
                                  match m36 (List.drop 29 (List.take 33 a0)) with
                                  | none =>
                                    none
                                  | some r8 =>
                                    if (0 : Int) ≤ (33 : Int) ∧ (33 : Int) ≤ (37 : Int) ∧ (37 : Int) ≤ (↑a0.length : Int) then
                                      match m36 (List.drop 33 (List.take 37 a0)) with
                                      | none =>
                                        none
                                      | some r9 =>
                                        match m8 (Record.mk r1 r2 r3 r4 r5 r6 r7 r8 r9) with
                                        | none =>
                                          none
                                        | some r10 =>
                                          match bif bif decide (r10.snd = 0) then false else true then
                                            some (true)
                                          else
                                            some (bif m37 r10.fst a0 then false else true) with
                                          | none =>
                                            none
                                          | some r11 =>
                                            bif r11 then
                                              some ((Record.mk (0) (0) (0) (0) (0) (0) (0) (0) (0), false))
                                            else
                                              some ((Record.mk r1 r2 r3 r4 r5 r6 r7 r8 r9, true))
                                    else
                                      none
                                else
                                  none
                            else
                              none
                        else
                          none
                    else
                      none
                else
                  none
            else
              none
        else
          none
    else
      none
theorem c10 (a0 : List Int) : callR Try.prog (F10) 300 (an10) 10 [.sl 5 a0] [] 0 rd10_e = m10 a0 := by kernel_rfl
noncomputable def o10 (x : E10) : Out := match (match outOf Try.prog 10 (pt10_e x) with
    | some ds => some (Out.mk (resA ds) (keepR (pt10_e x).R 0 (resA ds)) (pt10_e x).nx)
    | none => none) with
  | some o => o
  | none => ⟨.tup [], [], 0⟩
theorem fn10 (a0 : List Int) (r : E10) (h : m10 a0 = some r) : fnOk Try.prog 10 ∧ FnY Try.prog 10 [.sl 5 a0] [] 0 (o10 r) :=
  fnY_of (p := r) F10_ok (fa10) rd10_e_ok (fun p => by kernel_rfl) (ltd_of (by kernel_rfl)) (rltd_of (by kernel_rfl)) ((c10 a0).trans h)
theorem fnok10 : fnOk Try.prog 10 := ⟨_, Try.func10, by kernel_rfl, by kernel_rfl⟩
noncomputable def e10 (F : Orc) : Orc := orL 10 false (pkC (asL 5) pkN) (fun g => m10 g.1 : ((List Int) × Unit) → Option E10) o10 F
theorem e10_ok {F : Orc} (h : OrcG Try.prog F) : OrcG Try.prog (e10 F) := orL_g (sc := scU) h scU_ok fnok10 (ca := fun g => [.sl 5 g.1]) ((.cons (.l 5) .nil) : PkN (pkC (asL 5) pkN) _) (fun b => by kernel_rfl) (fun b => by kernel_rfl) (fun g b hb => (fn10 g.1 b hb).2)
theorem e10_pure {F : Orc} {f : Nat} (h : PureF F f) : PureF (e10 F) f := orL_pure h (fun b => by kernel_rfl)
/-! ### 11: slices.Equal[[]byte,byte] -/
noncomputable def F11 : Orc := or0
theorem F11_ok : OrcG Try.prog F11 := or0_g
structure L11_0 where
  t0 : List Int
  t1 : List Int
  t12 : Int
  t13 : Int
abbrev P11_0 : Type := ((List Int) × (List Int) × Int × Int × Unit) × (Unit)
noncomputable def rb11_0 : St → Option P11_0 := stR 0 (slC 0 (asL 5) (slC 1 (asL 5) (slC 12 (asI .i64) (slC 13 (asI .i64) slN)))) rsN
noncomputable def pb11_0 : P11_0 → St := stP 0 (fun z => [(0, .sl 5 z.1), (1, .sl 5 z.2.1), (12, .n .i64 z.2.2.1), (13, .n .i64 z.2.2.2.1)]) (fun z => [])
noncomputable def mk11_0 (z : P11_0) : L11_0 := ⟨z.1.1, z.1.2.1, z.1.2.2.1, z.1.2.2.2.1⟩
noncomputable def pt11_0 (x : L11_0) : St := pb11_0 ((x.t0, x.t1, x.t12, x.t13, ()), (()))
noncomputable def rd11_0 : St → Option L11_0 := rdC 0 [] [0, 1, 12, 13] (rdM mk11_0 rb11_0)
theorem rb11_0_ok (n : Nat) : RdOk 0 n rb11_0 pb11_0 := stR_ok (.cons (.l 5) (.cons (.l 5) (.cons (.i .i64) (.cons (.i .i64) .nil)))) .nil
theorem rd11_0_ok (n : Nat) : RdOk 0 n rd11_0 pt11_0 := rdC_ok ((rb11_0_ok n).m mk11_0 (pat' := pt11_0) fun _ => rfl)
noncomputable def n11_0 (p : L11_0) : Option (Option L11_0) :=
  bif decide (p.t13 < p.t12) then
    if 0 ≤ p.t13 ∧ p.t13 < (↑p.t0.length : Int) then
      if 0 ≤ p.t13 ∧ p.t13 < (↑p.t1.length : Int) then
        bif bif decide (((p.t0, p.t1, p.t12, p.t13, ()), ()).fst.fst[((p.t0, p.t1, p.t12, p.t13, ()), ()).fst.snd.snd.snd.fst.toNat]! = ((p.t0, p.t1, p.t12, p.t13, ()), ()).fst.snd.fst[((p.t0, p.t1, p.t12, p.t13, ()), ()).fst.snd.snd.snd.fst.toNat]!) then false else true then
          some (none)
        else
          some (some (L11_0.mk p.t0 p.t1 p.t12 (IntKind.i64.wrap (p.t13 + 1))))
      else
        none
    else
      none
  else
    some (none)
theorem q11_0 (p : L11_0) : execA Try.prog (F11) Try.f11.ntmps 300 (loopAt Try.f11 0) .no (Option L11_0) (pt11_0 p) (kOn rd11_0) = n11_0 p := by kernel_rfl
noncomputable def a11_0 : L11_0 → Option L11_0 := advG (n11_0)
abbrev E11 : Type := Bool
abbrev P11_e : Type := (Bool × Unit) × (Unit)
noncomputable def rb11_e : St → Option P11_e := stR 0 (slC 4 asB slN) rsN
noncomputable def pb11_e : P11_e → St := stP 0 (fun z => [(4, .b z.1)]) (fun z => [])
noncomputable def mk11_e (z : P11_e) : E11 := z.1.1
noncomputable def pt11_e (x : E11) : St := pb11_e ((x, ()), (()))
noncomputable def rd11_e : St → Option E11 := rdC 0 [] [4] (rdM mk11_e rb11_e)
theorem rb11_e_ok (n : Nat) : RdOk 0 n rb11_e pb11_e := stR_ok (.cons .b .nil) .nil
theorem rd11_e_ok (n : Nat) : RdOk 0 n rd11_e pt11_e := rdC_ok ((rb11_e_ok n).m mk11_e (pat' := pt11_e) fun _ => rfl)
noncomputable def an11 : An := (.two .no (.two .no (.two (.two .no (.lp L11_0 rd11_0 pt11_0 a11_0 .no)) .no)))
theorem fa11 : FnAn Try.prog (F11) 0 300 11 (an11) := fnAn_of (l := [(loopAt Try.f11 0, (.lp L11_0 rd11_0 pt11_0 a11_0 .no))]) Try.func11 (bodyOf_eq (by kernel_rfl)) (by kernel_rfl) fun p hp => by
  simp only [List.mem_cons, List.not_mem_nil, or_false] at hp
  rcases hp with rfl
  · exact ⟨rd11_0_ok _, advG_ok (q11_0)⟩
noncomputable def m11 (a0 : List Int) (a1 : List Int) : Option E11 :=
  bif bif decide ((↑a0.length : Int) = (↑a1.length : Int)) then false else true then
    some (false)
  else
    match a11_0 (L11_0.mk a0 a1 (↑a0.length : Int) (0)) with
    | none =>
      none
    | some r1 =>
      bif decide (r1.t13 < r1.t12) then
        if 0 ≤ r1.t13 ∧ r1.t13 < (↑r1.t0.length : Int) then
          if 0 ≤ r1.t13 ∧ r1.t13 < (↑r1.t1.length : Int) then
            bif bif decide (((r1.t0, r1.t1, r1.t12, r1.t13, ()), ()).fst.fst[((r1.t0, r1.t1, r1.t12, r1.t13, ()), ()).fst.snd.snd.snd.fst.toNat]! = ((r1.t0, r1.t1, r1.t12, r1.t13, ()), ()).fst.snd.fst[((r1.t0, r1.t1, r1.t12, r1.t13, ()), ()).fst.snd.snd.snd.fst.toNat]!) then false else true then
              some (false)
            else
              none
          else
            none
        else
          none
      else
        some (true)
theorem c11 (a0 : List Int) (a1 : List Int) : callR Try.prog (F11) 300 (an11) 11 [.sl 5 a0, .sl 5 a1] [] 0 rd11_e = m11 a0 a1 := by kernel_rfl
noncomputable def o11 (x : E11) : Out := match (match outOf Try.prog 11 (pt11_e x) with
    | some ds => some (Out.mk (resA ds) (keepR (pt11_e x).R 0 (resA ds)) (pt11_e x).nx)
    | none => none) with
  | some o => o
  | none => ⟨.tup [], [], 0⟩
theorem fn11 (a0 : List Int) (a1 : List Int) (r : E11) (h : m11 a0 a1 = some r) : fnOk Try.prog 11 ∧ FnY Try.prog 11 [.sl 5 a0, .sl 5 a1] [] 0 (o11 r) :=
  fnY_of (p := r) F11_ok (fa11) rd11_e_ok (fun p => by kernel_rfl) (ltd_of (by kernel_rfl)) (rltd_of (by kernel_rfl)) ((c11 a0 a1).trans h)
theorem fnok11 : fnOk Try.prog 11 := ⟨_, Try.func11, by kernel_rfl, by kernel_rfl⟩
noncomputable def e11 (F : Orc) : Orc := orL 11 false (pkC (asL 5) (pkC (asL 5) pkN)) (fun g => m11 g.1 g.2.1 : ((List Int) × (List Int) × Unit) → Option E11) o11 F
theorem e11_ok {F : Orc} (h : OrcG Try.prog F) : OrcG Try.prog (e11 F) := orL_g (sc := scU) h scU_ok fnok11 (ca := fun g => [.sl 5 g.1, .sl 5 g.2.1]) ((.cons (.l 5) (.cons (.l 5) .nil)) : PkN (pkC (asL 5) (pkC (asL 5) pkN)) _) (fun b => by kernel_rfl) (fun b => by kernel_rfl) (fun g b hb => (fn11 g.1 g.2.1 b hb).2)
theorem e11_pure {F : Orc} {f : Nat} (h : PureF F f) : PureF (e11 F) f := orL_pure h (fun b => by kernel_rfl)
/-! ### 38: keyhole/keyholelaw50.put -/
noncomputable def F38 : Orc := or0
theorem F38_ok : OrcG Try.prog F38 := or0_g
structure L38_0 where
  t0 : List Int
  t1 : Int
  t7 : Int
abbrev P38_0 : Type := (Unit × Int × Int × Unit) × ((List Int) × Unit)
noncomputable def rb38_0 : St → Option P38_0 := stR 2 (slC 0 (asO 1) (slC 1 (asI .i64) (slC 7 (asI .i64) slN))) (rsR 1 5 rsN)
noncomputable def pb38_0 : P38_0 → St := stP 2 (fun z => [(0, .own 1), (1, .n .i64 z.2.1), (7, .n .i64 z.2.2.1)]) (fun z => [(1, .row 5 z.1)])
noncomputable def mk38_0 (z : P38_0) : L38_0 := ⟨z.2.1, z.1.2.1, z.1.2.2.1⟩
noncomputable def pt38_0 (x : L38_0) : St := pb38_0 (((), x.t1, x.t7, ()), (x.t0, ()))
noncomputable def rd38_0 : St → Option L38_0 := rdC 1 [0] [0, 1, 7] (rdM mk38_0 rb38_0)
theorem rb38_0_ok (n : Nat) : RdOk 1 n rb38_0 pb38_0 := stR_ok (.cons (.o 1) (.cons (.i .i64) (.cons (.i .i64) .nil))) (.row .nil)
theorem rd38_0_ok (n : Nat) : RdOk 1 n rd38_0 pt38_0 := rdC_ok ((rb38_0_ok n).m mk38_0 (pat' := pt38_0) fun _ => rfl)
noncomputable def n38_0 (p : L38_0) : Option (Option L38_0) :=
  bif decide (0 ≤ p.t7) then
    if 0 ≤ IntKind.i64.wrap (8 * p.t7) then
      if (p.t0 ++ [IntKind.u8.wrap (bShr IntKind.i64 p.t1 (IntKind.i64.wrap (8 * p.t7)))]).length ≤ 1073741824 then
        some (some (L38_0.mk (p.t0 ++ [IntKind.u8.wrap (bShr IntKind.i64 p.t1 (IntKind.i64.wrap (8 * p.t7)))]) p.t1 (IntKind.i64.wrap (p.t7 - 1))))
      else
        none
    else
      none
  else
    some (none)
theorem q38_0 (p : L38_0) : execA Try.prog (F38) Try.f38.ntmps 300 (loopAt Try.f38 0) .no (Option L38_0) (pt38_0 p) (kOn rd38_0) = n38_0 p := by kernel_rfl
noncomputable def a38_0 : L38_0 → Option L38_0 := advG (n38_0)
abbrev E38 : Type := List Int
abbrev P38_e : Type := (Unit × Unit) × ((List Int) × Unit)
noncomputable def rb38_e : St → Option P38_e := stR 2 (slC 6 (asO 1) slN) (rsR 1 5 rsN)
noncomputable def pb38_e : P38_e → St := stP 2 (fun z => [(6, .own 1)]) (fun z => [(1, .row 5 z.1)])
noncomputable def mk38_e (z : P38_e) : E38 := z.2.1
noncomputable def pt38_e (x : E38) : St := pb38_e (((), ()), (x, ()))
noncomputable def rd38_e : St → Option E38 := rdC 1 [] [6] (rdM mk38_e rb38_e)
theorem rb38_e_ok (n : Nat) : RdOk 1 n rb38_e pb38_e := stR_ok (.cons (.o 1) .nil) (.row .nil)
theorem rd38_e_ok (n : Nat) : RdOk 1 n rd38_e pt38_e := rdC_ok ((rb38_e_ok n).m mk38_e (pat' := pt38_e) fun _ => rfl)
noncomputable def an38 : An := (.two .no (.two (.two .no (.lp L38_0 rd38_0 pt38_0 a38_0 .no)) .no))
theorem fa38 : FnAn Try.prog (F38) 1 300 38 (an38) := fnAn_of (l := [(loopAt Try.f38 0, (.lp L38_0 rd38_0 pt38_0 a38_0 .no))]) Try.func38 (bodyOf_eq (by kernel_rfl)) (by kernel_rfl) fun p hp => by
  simp only [List.mem_cons, List.not_mem_nil, or_false] at hp
  rcases hp with rfl
  · exact ⟨rd38_0_ok _, advG_ok (q38_0)⟩
noncomputable def m38 (a1 : Int) (a2 : Int) (b0 : List Int) : Option E38 :=
  match a38_0 (L38_0.mk b0 a1 (IntKind.i64.wrap (a2 - 1))) with
  | none =>
    none
  | some r1 =>
    bif decide (0 ≤ r1.t7) then
      if 0 ≤ IntKind.i64.wrap (8 * r1.t7) then
        if (r1.t0 ++ [IntKind.u8.wrap (bShr IntKind.i64 r1.t1 (IntKind.i64.wrap (8 * r1.t7)))]).length ≤ 1073741824 then
          none
        else
          none
      else
        none
    else
      some (r1.t0)
theorem c38 (a1 : Int) (a2 : Int) (b0 : List Int) : callR Try.prog (F38) 300 (an38) 38 [.own 0, .n .i64 a1, .n .i64 a2] [(0, .row 5 b0)] 1 rd38_e = m38 a1 a2 b0 := by kernel_rfl
noncomputable def o38 (x : E38) : Out := match (match outOf Try.prog 38 (pt38_e x) with
    | some ds => some (Out.mk (resA ds) (keepR (pt38_e x).R 1 (resA ds)) (pt38_e x).nx)
    | none => none) with
  | some o => o
  | none => ⟨.tup [], [], 0⟩
theorem fn38 (a1 : Int) (a2 : Int) (b0 : List Int) (r : E38) (h : m38 a1 a2 b0 = some r) : fnOk Try.prog 38 ∧ FnY Try.prog 38 [.own 0, .n .i64 a1, .n .i64 a2] [(0, .row 5 b0)] 1 (o38 r) :=
  fnY_of (p := r) F38_ok (fa38) rd38_e_ok (fun p => by kernel_rfl) (ltd_of (by kernel_rfl)) (rltd_of (by kernel_rfl)) ((c38 a1 a2 b0).trans h)
theorem fnok38 : fnOk Try.prog 38 := ⟨_, Try.func38, by kernel_rfl, by kernel_rfl⟩
noncomputable def e38 (F : Orc) : Orc := orY 38 1 (qyR (pkC (asO 0) (pkC (asI .i64) (pkC (asI .i64) pkN))) (rsR 0 5 rsN)) (fun g => m38 g.1.2.1 g.1.2.2.1 g.2.1 : ((Unit × Int × Int × Unit) × ((List Int) × Unit)) → Option E38) o38 F
theorem e38_ok {F : Orc} (h : OrcG Try.prog F) : OrcG Try.prog (e38 F) := orY_g h fnok38 (qyR_ok (ca := fun g => [.own 0, .n .i64 g.2.1, .n .i64 g.2.2.1]) (cr := fun g => [(0, .row 5 g.1)]) ((.cons (.o 0) (.cons (.i .i64) (.cons (.i .i64) .nil))) : PkN (pkC (asO 0) (pkC (asI .i64) (pkC (asI .i64) pkN))) _) ((.row .nil) : RsOk (rsR 0 5 rsN) _)) (fun b => by kernel_rfl) (fun g b hb => (fn38 g.1.2.1 g.1.2.2.1 g.2.1 b hb).2)
theorem e38_skip {F : Orc} {f : Nat} (hne : Nat.beq f 38 = false) (h : PureF F f) : PureF (e38 F) f := orY_skip hne h
/-! ### 39: keyhole/keyholelaw50.full -/
noncomputable def F39 : Orc := or0
theorem F39_ok : OrcG Try.prog F39 := or0_g
abbrev E39 : Type := List Int
abbrev P39_e : Type := (Unit × Unit) × ((List Int) × Unit)
noncomputable def rb39_e : St → Option P39_e := stR 2 (slC 2 (asO 1) slN) (rsR 1 5 rsN)
noncomputable def pb39_e : P39_e → St := stP 2 (fun z => [(2, .own 1)]) (fun z => [(1, .row 5 z.1)])
noncomputable def mk39_e (z : P39_e) : E39 := z.2.1
noncomputable def pt39_e (x : E39) : St := pb39_e (((), ()), (x, ()))
noncomputable def rd39_e : St → Option E39 := rdC 1 [] [2] (rdM mk39_e rb39_e)
theorem rb39_e_ok (n : Nat) : RdOk 1 n rb39_e pb39_e := stR_ok (.cons (.o 1) .nil) (.row .nil)
theorem rd39_e_ok (n : Nat) : RdOk 1 n rd39_e pt39_e := rdC_ok ((rb39_e_ok n).m mk39_e (pat' := pt39_e) fun _ => rfl)
noncomputable def an39 : An := .no
theorem fa39 : FnAn Try.prog (F39) 1 300 39 (an39) := fnAn_of (l := []) Try.func39 (bodyOf_eq (by kernel_rfl)) (by kernel_rfl) fun p hp => by
  cases hp
noncomputable def m39 (b0 : List Int) : Option E39 :=
  if 0 ≤ IntKind.i64.wrap (96 - (↑b0.length : Int)) then
    if (b0 ++ List.replicate (IntKind.i64.wrap (96 - (↑b0.length : Int))).toNat (0)).length ≤ 1073741824 then
      some (b0 ++ List.replicate (IntKind.i64.wrap (96 - (↑b0.length : Int))).toNat (0))
    else
      none
  else
    none
theorem c39 (b0 : List Int) : callR Try.prog (F39) 300 (an39) 39 [.own 0] [(0, .row 5 b0)] 1 rd39_e = m39 b0 := by kernel_rfl
noncomputable def o39 (x : E39) : Out := match (match outOf Try.prog 39 (pt39_e x) with
    | some ds => some (Out.mk (resA ds) (keepR (pt39_e x).R 1 (resA ds)) (pt39_e x).nx)
    | none => none) with
  | some o => o
  | none => ⟨.tup [], [], 0⟩
theorem fn39 (b0 : List Int) (r : E39) (h : m39 b0 = some r) : fnOk Try.prog 39 ∧ FnY Try.prog 39 [.own 0] [(0, .row 5 b0)] 1 (o39 r) :=
  fnY_of (p := r) F39_ok (fa39) rd39_e_ok (fun p => by kernel_rfl) (ltd_of (by kernel_rfl)) (rltd_of (by kernel_rfl)) ((c39 b0).trans h)
theorem fnok39 : fnOk Try.prog 39 := ⟨_, Try.func39, by kernel_rfl, by kernel_rfl⟩
noncomputable def e39 (F : Orc) : Orc := orY 39 1 (qyR (pkC (asO 0) pkN) (rsR 0 5 rsN)) (fun g => m39 g.2.1 : ((Unit × Unit) × ((List Int) × Unit)) → Option E39) o39 F
theorem e39_ok {F : Orc} (h : OrcG Try.prog F) : OrcG Try.prog (e39 F) := orY_g h fnok39 (qyR_ok (ca := fun g => [.own 0]) (cr := fun g => [(0, .row 5 g.1)]) ((.cons (.o 0) .nil) : PkN (pkC (asO 0) pkN) _) ((.row .nil) : RsOk (rsR 0 5 rsN) _)) (fun b => by kernel_rfl) (fun g b hb => (fn39 g.2.1 b hb).2)
theorem e39_skip {F : Orc} {f : Nat} (hne : Nat.beq f 39 = false) (h : PureF F f) : PureF (e39 F) f := orY_skip hne h
/-! ### 12: keyhole/keyholelaw50.encode -/
noncomputable def F12 : Orc := (e39 (e38 (e34 or0)))
theorem F12_ok : OrcG Try.prog F12 := (e39_ok (e38_ok (e34_ok or0_g)))
structure L12_0 where
  t3 : List Int
  t8 : List Int
  t9 : Int
  t10 : Int
abbrev P12_0 : Type := (Unit × Unit × Int × Int × Unit) × ((List Int) × (List Int) × Unit)
noncomputable def rb12_0 : St → Option P12_0 := stR 2 (slC 3 (asO 0) (slC 8 (asO 1) (slC 9 (asI .i64) (slC 10 (asI .i64) slN)))) (rsR 0 5 (rsR 1 3 rsN))
noncomputable def pb12_0 : P12_0 → St := stP 2 (fun z => [(3, .own 0), (8, .own 1), (9, .n .i64 z.2.2.1), (10, .n .i64 z.2.2.2.1)]) (fun z => [(0, .row 5 z.1), (1, .row 3 z.2.1)])
noncomputable def mk12_0 (z : P12_0) : L12_0 := ⟨z.2.1, z.2.2.1, z.1.2.2.1, z.1.2.2.2.1⟩
noncomputable def pt12_0 (x : L12_0) : St := pb12_0 (((), (), x.t9, x.t10, ()), (x.t3, x.t8, ()))
noncomputable def rd12_0 : St → Option L12_0 := rdC 0 [] [3, 8, 9, 10] (rdM mk12_0 rb12_0)
theorem rb12_0_ok (n : Nat) : RdOk 0 n rb12_0 pb12_0 := stR_ok (.cons (.o 0) (.cons (.o 1) (.cons (.i .i64) (.cons (.i .i64) .nil)))) (.row (.row .nil))
theorem rd12_0_ok (n : Nat) : RdOk 0 n rd12_0 pt12_0 := rdC_ok ((rb12_0_ok n).m mk12_0 (pat' := pt12_0) fun _ => rfl)
noncomputable def n12_0 (p : L12_0) : Option (Option L12_0) :=
  bif decide (p.t10 < p.t9) then
    if 0 ≤ p.t10 ∧ p.t10 < (↑p.t8.length : Int) then
      if 3 = 3 ∧ p.t10.toNat < p.t8.length then
        match m38 p.t8[p.t10.toNat]! (4) p.t3 with
        | none =>
          none
        | some r1 =>
          some (some (L12_0.mk r1 p.t8 p.t9 (IntKind.i64.wrap (p.t10 + 1))))
      else
        none
    else
      none
  else
    some (none)
theorem q12_0 (p : L12_0) : execA Try.prog (F12) Try.f12.ntmps 300 (loopAt Try.f12 0) .no (Option L12_0) (pt12_0 p) (kOn rd12_0) = n12_0 p := by kernel_rfl
noncomputable def a12_0 : L12_0 → Option L12_0 := advG (n12_0)
abbrev E12 : Type := List Int
abbrev P12_e : Type := (Unit × Unit) × ((List Int) × Unit)
noncomputable def rb12_e : St → Option P12_e := stR 1 (slC 2 (asO 0) slN) (rsR 0 5 rsN)
noncomputable def pb12_e : P12_e → St := stP 1 (fun z => [(2, .own 0)]) (fun z => [(0, .row 5 z.1)])
noncomputable def mk12_e (z : P12_e) : E12 := z.2.1
noncomputable def pt12_e (x : E12) : St := pb12_e (((), ()), (x, ()))
noncomputable def rd12_e : St → Option E12 := rdC 0 [] [2] (rdM mk12_e rb12_e)
theorem rb12_e_ok (n : Nat) : RdOk 0 n rb12_e pb12_e := stR_ok (.cons (.o 0) .nil) (.row .nil)
theorem rd12_e_ok (n : Nat) : RdOk 0 n rd12_e pt12_e := rdC_ok ((rb12_e_ok n).m mk12_e (pat' := pt12_e) fun _ => rfl)
noncomputable def an12 : An := (.two .no (.two .no (.two (.two .no (.lp L12_0 rd12_0 pt12_0 a12_0 .no)) .no)))
theorem fa12 : FnAn Try.prog (F12) 0 300 12 (an12) := fnAn_of (l := [(loopAt Try.f12 0, (.lp L12_0 rd12_0 pt12_0 a12_0 .no))]) Try.func12 (bodyOf_eq (by kernel_rfl)) (by kernel_rfl) fun p hp => by
  simp only [List.mem_cons, List.not_mem_nil, or_false] at hp
  rcases hp with rfl
  · exact ⟨rd12_0_ok _, advG_ok (q12_0)⟩
noncomputable def m12 (a0 : Record) : Option E12 :=
  match a12_0 (L12_0.mk [1] (m34 a0) (↑(List.length (m34 a0)) : Int) (0)) with
  | none =>
    none
  | some r2 =>
    bif decide (r2.t10 < r2.t9) then
      if 0 ≤ r2.t10 ∧ r2.t10 < (↑r2.t8.length : Int) then
        if 3 = 3 ∧ r2.t10.toNat < r2.t8.length then
          match m38 r2.t8[r2.t10.toNat]! (4) r2.t3 with
          | none =>
            none
          | some r3 =>
            none
        else
          none
      else
        none
    else
      match m39 r2.t3 with
      | none =>
        none
      | some r4 =>
        some (r4)
theorem c12 (a0 : Record) : callR Try.prog (F12) 300 (an12) 12 [.agg (uni.cells 23 a0)] [] 0 rd12_e = m12 a0 := by kernel_rfl
noncomputable def o12 (x : E12) : Out := match (match outOf Try.prog 12 (pt12_e x) with
    | some ds => some (Out.mk (resA ds) (keepR (pt12_e x).R 0 (resA ds)) (pt12_e x).nx)
    | none => none) with
  | some o => o
  | none => ⟨.tup [], [], 0⟩
theorem fn12 (a0 : Record) (r : E12) (h : m12 a0 = some r) : fnOk Try.prog 12 ∧ FnY Try.prog 12 [.agg (uni.cells 23 a0)] [] 0 (o12 r) :=
  fnY_of (p := r) F12_ok (fa12) rd12_e_ok (fun p => by kernel_rfl) (ltd_of (by kernel_rfl)) (rltd_of (by kernel_rfl)) ((c12 a0).trans h)
theorem fnok12 : fnOk Try.prog 12 := ⟨_, Try.func12, by kernel_rfl, by kernel_rfl⟩
noncomputable def e12 (F : Orc) : Orc := orL 12 false (pkC (asGc 23) pkN) (fun g => m12 g.1 : (Record × Unit) → Option E12) o12 F
theorem e12_ok {F : Orc} (h : OrcG Try.prog F) : OrcG Try.prog (e12 F) := orL_g (sc := scU) h scU_ok fnok12 (ca := fun g => [.agg (uni.cells 23 g.1)]) ((.cons (.g 23) .nil) : PkN (pkC (asGc 23) pkN) _) (fun b => by kernel_rfl) (fun b => by kernel_rfl) (fun g b hb => (fn12 g.1 b hb).2)
theorem e12_skip {F : Orc} {f : Nat} (hne : Nat.beq f 12 = false) (h : PureF F f) : PureF (e12 F) f := orL_skip hne h
/-! ### 40: keyhole/keyholelaw50.get -/
noncomputable def F40 : Orc := or0
theorem F40_ok : OrcG Try.prog F40 := or0_g
structure L40_0 where
  t3 : Int
  t6 : List Int
  t7 : Int
  t8 : Int
abbrev P40_0 : Type := (Int × (List Int) × Int × Int × Unit) × (Unit)
noncomputable def rb40_0 : St → Option P40_0 := stR 0 (slC 3 (asI .i64) (slC 6 (asL 5) (slC 7 (asI .i64) (slC 8 (asI .i64) slN)))) rsN
noncomputable def pb40_0 : P40_0 → St := stP 0 (fun z => [(3, .n .i64 z.1), (6, .sl 5 z.2.1), (7, .n .i64 z.2.2.1), (8, .n .i64 z.2.2.2.1)]) (fun z => [])
noncomputable def mk40_0 (z : P40_0) : L40_0 := ⟨z.1.1, z.1.2.1, z.1.2.2.1, z.1.2.2.2.1⟩
noncomputable def pt40_0 (x : L40_0) : St := pb40_0 ((x.t3, x.t6, x.t7, x.t8, ()), (()))
noncomputable def rd40_0 : St → Option L40_0 := rdC 0 [] [3, 6, 7, 8] (rdM mk40_0 rb40_0)
theorem rb40_0_ok (n : Nat) : RdOk 0 n rb40_0 pb40_0 := stR_ok (.cons (.i .i64) (.cons (.l 5) (.cons (.i .i64) (.cons (.i .i64) .nil)))) .nil
theorem rd40_0_ok (n : Nat) : RdOk 0 n rd40_0 pt40_0 := rdC_ok ((rb40_0_ok n).m mk40_0 (pat' := pt40_0) fun _ => rfl)
noncomputable def n40_0 (p : L40_0) : Option (Option L40_0) :=
  bif decide (p.t8 < p.t7) then
    if 0 ≤ p.t8 ∧ p.t8 < (↑p.t6.length : Int) then
      some (some (L40_0.mk (bOr IntKind.i64 (bShl IntKind.i64 p.t3 (8)) (IntKind.i64.wrap p.t6[p.t8.toNat]!)) p.t6 p.t7 (IntKind.i64.wrap (p.t8 + 1))))
    else
      none
  else
    some (none)
theorem q40_0 (p : L40_0) : execA Try.prog (F40) Try.f40.ntmps 300 (loopAt Try.f40 0) .no (Option L40_0) (pt40_0 p) (kOn rd40_0) = n40_0 p := by kernel_rfl
noncomputable def a40_0 : L40_0 → Option L40_0 := advG (n40_0)
abbrev E40 : Type := Int
abbrev P40_e : Type := (Int × Unit) × (Unit)
noncomputable def rb40_e : St → Option P40_e := stR 0 (slC 2 (asI .i64) slN) rsN
noncomputable def pb40_e : P40_e → St := stP 0 (fun z => [(2, .n .i64 z.1)]) (fun z => [])
noncomputable def mk40_e (z : P40_e) : E40 := z.1.1
noncomputable def pt40_e (x : E40) : St := pb40_e ((x, ()), (()))
noncomputable def rd40_e : St → Option E40 := rdC 0 [] [2] (rdM mk40_e rb40_e)
theorem rb40_e_ok (n : Nat) : RdOk 0 n rb40_e pb40_e := stR_ok (.cons (.i .i64) .nil) .nil
theorem rd40_e_ok (n : Nat) : RdOk 0 n rd40_e pt40_e := rdC_ok ((rb40_e_ok n).m mk40_e (pat' := pt40_e) fun _ => rfl)
noncomputable def an40 : An := (.two .no (.two .no (.two (.two .no (.lp L40_0 rd40_0 pt40_0 a40_0 .no)) .no)))
theorem fa40 : FnAn Try.prog (F40) 0 300 40 (an40) := fnAn_of (l := [(loopAt Try.f40 0, (.lp L40_0 rd40_0 pt40_0 a40_0 .no))]) Try.func40 (bodyOf_eq (by kernel_rfl)) (by kernel_rfl) fun p hp => by
  simp only [List.mem_cons, List.not_mem_nil, or_false] at hp
  rcases hp with rfl
  · exact ⟨rd40_0_ok _, advG_ok (q40_0)⟩
noncomputable def m40 (a0 : List Int) : Option E40 :=
  match a40_0 (L40_0.mk (0) a0 (↑a0.length : Int) (0)) with
  | none =>
    none
  | some r1 =>
    bif decide (r1.t8 < r1.t7) then
      if 0 ≤ r1.t8 ∧ r1.t8 < (↑r1.t6.length : Int) then
        none
      else
        none
    else
      some (r1.t3)
theorem c40 (a0 : List Int) : callR Try.prog (F40) 300 (an40) 40 [.sl 5 a0] [] 0 rd40_e = m40 a0 := by kernel_rfl
noncomputable def o40 (x : E40) : Out := match (match outOf Try.prog 40 (pt40_e x) with
    | some ds => some (Out.mk (resA ds) (keepR (pt40_e x).R 0 (resA ds)) (pt40_e x).nx)
    | none => none) with
  | some o => o
  | none => ⟨.tup [], [], 0⟩
theorem fn40 (a0 : List Int) (r : E40) (h : m40 a0 = some r) : fnOk Try.prog 40 ∧ FnY Try.prog 40 [.sl 5 a0] [] 0 (o40 r) :=
  fnY_of (p := r) F40_ok (fa40) rd40_e_ok (fun p => by kernel_rfl) (ltd_of (by kernel_rfl)) (rltd_of (by kernel_rfl)) ((c40 a0).trans h)
theorem fnok40 : fnOk Try.prog 40 := ⟨_, Try.func40, by kernel_rfl, by kernel_rfl⟩
noncomputable def e40 (F : Orc) : Orc := orL 40 false (pkC (asL 5) pkN) (fun g => m40 g.1 : ((List Int) × Unit) → Option E40) o40 F
theorem e40_ok {F : Orc} (h : OrcG Try.prog F) : OrcG Try.prog (e40 F) := orL_g (sc := scU) h scU_ok fnok40 (ca := fun g => [.sl 5 g.1]) ((.cons (.l 5) .nil) : PkN (pkC (asL 5) pkN) _) (fun b => by kernel_rfl) (fun b => by kernel_rfl) (fun g b hb => (fn40 g.1 b hb).2)
theorem e40_pure {F : Orc} {f : Nat} (h : PureF F f) : PureF (e40 F) f := orL_pure h (fun b => by kernel_rfl)
/-! ### 13: keyhole/keyholelaw50.decode -/
noncomputable def F13 : Orc := (e40 (e12 (e11 (e9 or0))))
theorem F13_ok : OrcG Try.prog F13 := (e40_ok (e12_ok (e11_ok (e9_ok or0_g))))
structure L13_0 where
  t0 : List Int
  t4 : List Int
  t5 : Int
  b0 : Record
abbrev P13_0 : Type := ((List Int) × Unit × Unit × Int × Unit) × (Record × (List Int) × Unit)
noncomputable def rb13_0 : St → Option P13_0 := stR 2 (slC 0 (asL 5) (slC 2 (asP 0 0) (slC 4 (asO 1) (slC 5 (asI .i64) slN)))) (rsN2 0 23 (asCs 23) (rsR 1 3 rsN))
noncomputable def pb13_0 : P13_0 → St := stP 2 (fun z => [(0, .sl 5 z.1), (2, .ptr 0 0), (4, .own 1), (5, .n .i64 z.2.2.2.1)]) (fun z => [(0, .box 23 (uni.cells 23 z.1)), (1, .row 3 z.2.1)])
noncomputable def mk13_0 (z : P13_0) : L13_0 := ⟨z.1.1, z.2.2.1, z.1.2.2.2.1, z.2.1⟩
noncomputable def pt13_0 (x : L13_0) : St := pb13_0 ((x.t0, (), (), x.t5, ()), (x.b0, x.t4, ()))
noncomputable def rd13_0 : St → Option L13_0 := rdC 0 [] [0, 2, 4, 5] (rdM mk13_0 rb13_0)
theorem rb13_0_ok (n : Nat) : RdOk 0 n rb13_0 pb13_0 := stR_ok (.cons (.l 5) (.cons (.p 0 0) (.cons (.o 1) (.cons (.i .i64) .nil)))) (.boxN (PkN.parse 23) (.row .nil))
theorem rd13_0_ok (n : Nat) : RdOk 0 n rd13_0 pt13_0 := rdC_ok ((rb13_0_ok n).m mk13_0 (pat' := pt13_0) fun _ => rfl)
noncomputable def n13_0 (p : L13_0) : Option (Option L13_0) :=
  bif decide (p.t5 < 9) then
    if (0 : Int) ≤ IntKind.i64.wrap ((1 : Int) + IntKind.i64.wrap ((4 : Int) * p.t5)) ∧ IntKind.i64.wrap ((1 : Int) + IntKind.i64.wrap ((4 : Int) * p.t5)) ≤ IntKind.i64.wrap ((5 : Int) + IntKind.i64.wrap ((4 : Int) * p.t5)) ∧ IntKind.i64.wrap ((5 : Int) + IntKind.i64.wrap ((4 : Int) * p.t5)) ≤ (↑p.t0.length : Int) then
      match m40 (List.drop (IntKind.i64.wrap (1 + IntKind.i64.wrap (4 * p.t5))).toNat (List.take (IntKind.i64.wrap (5 + IntKind.i64.wrap (4 * p.t5))).toNat p.t0)) with
      | none =>
        none
      | some r1 =>
        if (p.t4 ++ [r1]).length ≤ 1073741824 then
          some (some (L13_0.mk p.t0 (p.t4 ++ [r1]) (IntKind.i64.wrap (p.t5 + 1)) p.b0))
        else
          none
    else
      none
  else
    some (none)
theorem q13_0 (p : L13_0) : execA Try.prog (F13) Try.f13.ntmps 300 (loopAt Try.f13 0) .no (Option L13_0) (pt13_0 p) (kOn rd13_0) = n13_0 p := by kernel_rfl
noncomputable def a13_0 : L13_0 → Option L13_0 := advG (n13_0)
abbrev E13 : Type := Record × Bool
abbrev P13_e : Type := (Unit × Bool × Unit) × (Record × Unit)
noncomputable def rb13_e : St → Option P13_e := stR 1 (slC 2 (asP 0 0) (slC 3 asB slN)) (rsN2 0 23 (asCs 23) rsN)
noncomputable def pb13_e : P13_e → St := stP 1 (fun z => [(2, .ptr 0 0), (3, .b z.2.1)]) (fun z => [(0, .box 23 (uni.cells 23 z.1))])
noncomputable def mk13_e (z : P13_e) : E13 := (z.2.1, z.1.2.1)
noncomputable def pt13_e (x : E13) : St := pb13_e (((), x.2, ()), (x.1, ()))
noncomputable def rd13_e : St → Option E13 := rdC 0 [] [2, 3] (rdM mk13_e rb13_e)
theorem rb13_e_ok (n : Nat) : RdOk 0 n rb13_e pb13_e := stR_ok (.cons (.p 0 0) (.cons .b .nil)) (.boxN (PkN.parse 23) .nil)
theorem rd13_e_ok (n : Nat) : RdOk 0 n rd13_e pt13_e := rdC_ok ((rb13_e_ok n).m mk13_e (pat' := pt13_e) fun _ => rfl)
noncomputable def an13 : An := (.two .no (.two (.two (.rb [] 15) .no) (.two .no (.two (.two .no (.lp L13_0 rd13_0 pt13_0 a13_0 .no)) .no))))
theorem pu13  : ∀ f ∈ ([] : List Nat), PureF (F13) f := fun f hf => by
  cases hf
theorem fa13 : FnAn Try.prog (F13) 0 300 13 (an13) := fnAn_of (l := [(.skip, (.rb [] 15)), (loopAt Try.f13 0, (.lp L13_0 rd13_0 pt13_0 a13_0 .no))]) Try.func13 (bodyOf_eq (by kernel_rfl)) (by kernel_rfl) fun p hp => by
  simp only [List.mem_cons, List.not_mem_nil, or_false] at hp
  rcases hp with rfl | rfl
  · exact pu13
  · exact ⟨rd13_0_ok _, advG_ok (q13_0)⟩
noncomputable def m13 (a0 : List Int) : Option E13 :=
  match bif bif decide ((↑a0.length : Int) = 96) then false else true then
    some (true)
  else
    if (0 : Int) ≤ (0 : Int) ∧ (0 : Int) < (↑a0.length : Int) then
      some (bif decide (a0[Int.toNat 0]! = 1) then false else true)
    else
      none with
  | none =>
    none
  | some r2 =>
    bif r2 then
      some ((Record.mk (0) (0) (0) (0) (0) (0) (0) (0) (0), false))
    else
      match a13_0 (L13_0.mk a0 [] (0) (Record.mk (0) (0) (0) (0) (0) (0) (0) (0) (0))) with
      | none =>
        none
      | some r3 =>
        bif decide (r3.t5 < 9) then
          if (0 : Int) ≤ IntKind.i64.wrap ((1 : Int) + IntKind.i64.wrap ((4 : Int) * r3.t5)) ∧ IntKind.i64.wrap ((1 : Int) + IntKind.i64.wrap ((4 : Int) * r3.t5)) ≤ IntKind.i64.wrap ((5 : Int) + IntKind.i64.wrap ((4 : Int) * r3.t5)) ∧ IntKind.i64.wrap ((5 : Int) + IntKind.i64.wrap ((4 : Int) * r3.t5)) ≤ (↑r3.t0.length : Int) then
            match m40 (List.drop (IntKind.i64.wrap (1 + IntKind.i64.wrap (4 * r3.t5))).toNat (List.take (IntKind.i64.wrap (5 + IntKind.i64.wrap (4 * r3.t5))).toNat r3.t0)) with
            | none =>
              none
            | some r4 =>
              if (r3.t4 ++ [r4]).length ≤ 1073741824 then
                none
              else
                none
          else
            none
        else
          if (0 : Int) ≤ (0 : Int) ∧ (0 : Int) < (↑r3.t4.length : Int) then
            if 3 = 3 ∧ 0 < r3.t4.length then
              if (0 : Int) ≤ (1 : Int) ∧ (1 : Int) < (↑r3.t4.length : Int) then
                if 3 = 3 ∧ 1 < r3.t4.length then
                  if (0 : Int) ≤ (2 : Int) ∧ (2 : Int) < (↑r3.t4.length : Int) then
                    if 3 = 3 ∧ 2 < r3.t4.length then
                      if (0 : Int) ≤ (3 : Int) ∧ (3 : Int) < (↑r3.t4.length : Int) then
                        if 3 = 3 ∧ 3 < r3.t4.length then
                          if (0 : Int) ≤ (4 : Int) ∧ (4 : Int) < (↑r3.t4.length : Int) then
                            if 3 = 3 ∧ 4 < r3.t4.length then
                              if (0 : Int) ≤ (5 : Int) ∧ (5 : Int) < (↑r3.t4.length : Int) then
                                if 3 = 3 ∧ 5 < r3.t4.length then
                                  if (0 : Int) ≤ (6 : Int) ∧ (6 : Int) < (↑r3.t4.length : Int) then
                                    if 3 = 3 ∧ 6 < r3.t4.length then
                                      if (0 : Int) ≤ (7 : Int) ∧ (7 : Int) < (↑r3.t4.length : Int) then
                                        if 3 = 3 ∧ 7 < r3.t4.length then
                                          if (0 : Int) ≤ (8 : Int) ∧ (8 : Int) < (↑r3.t4.length : Int) then
                                            if 3 = 3 ∧ 8 < r3.t4.length then
                                              match m9 (Record.mk r3.t4[0]! r3.t4[1]! r3.t4[2]! r3.t4[3]! r3.t4[4]! r3.t4[5]! r3.t4[6]! r3.t4[7]! r3.t4[8]!) with
                                              | none =>
                                                none
                                              | some r5 =>
                                                bif bif r5 then false else true then
                                                  some ((Record.mk (0) (0) (0) (0) (0) (0) (0) (0) (0), false))
                                                else
                                                  match m12 (Record.mk r3.t4[0]! r3.t4[1]! r3.t4[2]! r3.t4[3]! r3.t4[4]! r3.t4[5]! r3.t4[6]! r3.t4[7]! r3.t4[8]!) with
                                                  | none =>
                                                    none
                                                  | some r6 =>
                                                    match m11 r6 r3.t0 with
                                                    | none =>
                                                      none
                                                    | some r7 =>
                                                      bif bif r7 then false else true then
                                                        some ((Record.mk (0) (0) (0) (0) (0) (0) (0) (0) (0), false))
                                                      else
                                                        some ((Record.mk r3.t4[0]! r3.t4[1]! r3.t4[2]! r3.t4[3]! r3.t4[4]! r3.t4[5]! r3.t4[6]! r3.t4[7]! r3.t4[8]!, true))
                                            else
                                              none
                                          else
                                            none
                                        else
                                          none
                                      else
                                        none
                                    else
                                      none
                                  else
                                    none
                                else
                                  none
                              else
                                none
                            else
                              none
                          else
                            none
                        else
                          none
                      else
                        none
                    else
                      none
                  else
                    none
                else
                  none
              else
                none
            else
              none
          else
            none
theorem c13 (a0 : List Int) : callR Try.prog (F13) 300 (an13) 13 [.sl 5 a0] [] 0 rd13_e = m13 a0 := by kernel_rfl
noncomputable def o13 (x : E13) : Out := match (match outOf Try.prog 13 (pt13_e x) with
    | some ds => some (Out.mk (resA ds) (keepR (pt13_e x).R 0 (resA ds)) (pt13_e x).nx)
    | none => none) with
  | some o => o
  | none => ⟨.tup [], [], 0⟩
theorem fn13 (a0 : List Int) (r : E13) (h : m13 a0 = some r) : fnOk Try.prog 13 ∧ FnY Try.prog 13 [.sl 5 a0] [] 0 (o13 r) :=
  fnY_of (p := r) F13_ok (fa13) rd13_e_ok (fun p => by kernel_rfl) (ltd_of (by kernel_rfl)) (rltd_of (by kernel_rfl)) ((c13 a0).trans h)
theorem fnok13 : fnOk Try.prog 13 := ⟨_, Try.func13, by kernel_rfl, by kernel_rfl⟩
noncomputable def e13 (F : Orc) : Orc := orL 13 false (pkC (asL 5) pkN) (fun g => m13 g.1 : ((List Int) × Unit) → Option E13) o13 F
theorem e13_ok {F : Orc} (h : OrcG Try.prog F) : OrcG Try.prog (e13 F) := orL_g (sc := scU) h scU_ok fnok13 (ca := fun g => [.sl 5 g.1]) ((.cons (.l 5) .nil) : PkN (pkC (asL 5) pkN) _) (fun b => by kernel_rfl) (fun b => by kernel_rfl) (fun g b hb => (fn13 g.1 b hb).2)
theorem e13_pure {F : Orc} {f : Nat} (h : PureF F f) : PureF (e13 F) f := orL_pure h (fun b => by kernel_rfl)
/-! ### 14: keyhole/keyholelaw50.head -/
noncomputable def F14 : Orc := (e41 (e33 (e33c (e33b or0))))
theorem F14_ok : OrcG Try.prog F14 := (e41_ok (e33_ok (e33c_ok (e33b_ok or0_g))))
abbrev E14 : Type := Bool
abbrev P14_e : Type := (Bool × Unit) × (Unit)
noncomputable def rb14_e : St → Option P14_e := stR 0 (slC 2 asB slN) rsN
noncomputable def pb14_e : P14_e → St := stP 0 (fun z => [(2, .b z.1)]) (fun z => [])
noncomputable def mk14_e (z : P14_e) : E14 := z.1.1
noncomputable def pt14_e (x : E14) : St := pb14_e ((x, ()), (()))
noncomputable def rd14_e : St → Option E14 := rdC 0 [] [2] (rdM mk14_e rb14_e)
theorem rb14_e_ok (n : Nat) : RdOk 0 n rb14_e pb14_e := stR_ok (.cons .b .nil) .nil
theorem rd14_e_ok (n : Nat) : RdOk 0 n rd14_e pt14_e := rdC_ok ((rb14_e_ok n).m mk14_e (pat' := pt14_e) fun _ => rfl)
noncomputable def an14 : An := (.two .no (.two (.rb [33] 2) .no))
theorem pu14  : ∀ f ∈ ([33] : List Nat), PureF (F14) f := fun f hf => by
  simp only [List.mem_cons, List.not_mem_nil, or_false] at hf
  rcases hf with rfl
  · exact (e41_pure (e33_pure (e33c_pure (e33b_pure or0_pure))))
theorem fa14 : FnAn Try.prog (F14) 0 300 14 (an14) := fnAn_of (l := [(.skip, (.rb [33] 2))]) Try.func14 (bodyOf_eq (by kernel_rfl)) (by kernel_rfl) fun p hp => by
  simp only [List.mem_cons, List.not_mem_nil, or_false] at hp
  rcases hp with rfl
  · exact pu14
noncomputable def m14 (a0 : Head) : Option E14 :=
  match bif decide (a0.fMode = 0) then
    bif decide (1 ≤ (↑a0.fBudgets.length : Int)) then
      bif decide ((↑a0.fBudgets.length : Int) ≤ 16) then
        match m33c a0.fBudgets with
        | none =>
          none
        | some r1 =>
          some (bif r1 then false else true)
      else
        some (false)
    else
      some (false)
  else
    bif decide (a0.fMode = 1) then
      bif decide (1 ≤ (↑a0.fBudgets.length : Int)) then
        bif decide ((↑a0.fBudgets.length : Int) ≤ 16) then
          match m33c a0.fBudgets with
          | none =>
            none
          | some r2 =>
            some (bif r2 then false else true)
        else
          some (false)
      else
        some (false)
    else
      some (false) with
  | none =>
    none
  | some r3 =>
    some (r3)
theorem c14 (a0 : Head) : callR Try.prog (F14) 300 (an14) 14 [.agg (uni.cells 38 a0)] [] 0 rd14_e = m14 a0 := by kernel_rfl
noncomputable def o14 (x : E14) : Out := match (match outOf Try.prog 14 (pt14_e x) with
    | some ds => some (Out.mk (resA ds) (keepR (pt14_e x).R 0 (resA ds)) (pt14_e x).nx)
    | none => none) with
  | some o => o
  | none => ⟨.tup [], [], 0⟩
theorem fn14 (a0 : Head) (r : E14) (h : m14 a0 = some r) : fnOk Try.prog 14 ∧ FnY Try.prog 14 [.agg (uni.cells 38 a0)] [] 0 (o14 r) :=
  fnY_of (p := r) F14_ok (fa14) rd14_e_ok (fun p => by kernel_rfl) (ltd_of (by kernel_rfl)) (rltd_of (by kernel_rfl)) ((c14 a0).trans h)
theorem fnok14 : fnOk Try.prog 14 := ⟨_, Try.func14, by kernel_rfl, by kernel_rfl⟩
noncomputable def e14 (F : Orc) : Orc := orL 14 false (pkC (asGc 38) pkN) (fun g => m14 g.1 : (Head × Unit) → Option E14) o14 F
theorem e14_ok {F : Orc} (h : OrcG Try.prog F) : OrcG Try.prog (e14 F) := orL_g (sc := scU) h scU_ok fnok14 (ca := fun g => [.agg (uni.cells 38 g.1)]) ((.cons (.g 38) .nil) : PkN (pkC (asGc 38) pkN) _) (fun b => by kernel_rfl) (fun b => by kernel_rfl) (fun g b hb => (fn14 g.1 b hb).2)
theorem e14_pure {F : Orc} {f : Nat} (h : PureF F f) : PureF (e14 F) f := orL_pure h (fun b => by kernel_rfl)
/-! ### 16: keyhole/ledger.CheckHead -/
noncomputable def F16 : Orc := (e42 (e33 (e33c (e33b or0))))
theorem F16_ok : OrcG Try.prog F16 := (e42_ok (e33_ok (e33c_ok (e33b_ok or0_g))))
abbrev E16 : Type := Int
abbrev P16_e : Type := (Int × Unit) × (Unit)
noncomputable def rb16_e : St → Option P16_e := stR 0 (slC 2 (asI .i64) slN) rsN
noncomputable def pb16_e : P16_e → St := stP 0 (fun z => [(2, .n .i64 z.1)]) (fun z => [])
noncomputable def mk16_e (z : P16_e) : E16 := z.1.1
noncomputable def pt16_e (x : E16) : St := pb16_e ((x, ()), (()))
noncomputable def rd16_e : St → Option E16 := rdC 0 [] [2] (rdM mk16_e rb16_e)
theorem rb16_e_ok (n : Nat) : RdOk 0 n rb16_e pb16_e := stR_ok (.cons (.i .i64) .nil) .nil
theorem rd16_e_ok (n : Nat) : RdOk 0 n rd16_e pt16_e := rdC_ok ((rb16_e_ok n).m mk16_e (pat' := pt16_e) fun _ => rfl)
noncomputable def an16 : An := (.two .no (.two (.two (.rb [] 22) .no) .no))
theorem pu16  : ∀ f ∈ ([] : List Nat), PureF (F16) f := fun f hf => by
  cases hf
theorem fa16 : FnAn Try.prog (F16) 0 300 16 (an16) := fnAn_of (l := [(.skip, (.rb [] 22))]) Try.func16 (bodyOf_eq (by kernel_rfl)) (by kernel_rfl) fun p hp => by
  simp only [List.mem_cons, List.not_mem_nil, or_false] at hp
  rcases hp with rfl
  · exact pu16
noncomputable def m16 (a0 : Head) : Option E16 :=
  match bif bif decide (a0.fMode = 0) then false else true then
    bif bif decide (a0.fMode = 1) then false else true then
      some (true)
    else
      bif decide ((↑a0.fBudgets.length : Int) < 1) then
        some (true)
      else
        some (decide (16 < (↑a0.fBudgets.length : Int)))
  else
    bif decide ((↑a0.fBudgets.length : Int) < 1) then
      some (true)
    else
      some (decide (16 < (↑a0.fBudgets.length : Int))) with
  | none =>
    none
  | some r1 =>
    bif r1 then
      some (1)
    else
      match m33 a0.fBudgets with
      | none =>
        none
      | some r2 =>
        bif r2 then
          some (1)
        else
          some (0)
theorem c16 (a0 : Head) : callR Try.prog (F16) 300 (an16) 16 [.agg (uni.cells 38 a0)] [] 0 rd16_e = m16 a0 := by kernel_rfl
noncomputable def o16 (x : E16) : Out := match (match outOf Try.prog 16 (pt16_e x) with
    | some ds => some (Out.mk (resA ds) (keepR (pt16_e x).R 0 (resA ds)) (pt16_e x).nx)
    | none => none) with
  | some o => o
  | none => ⟨.tup [], [], 0⟩
theorem fn16 (a0 : Head) (r : E16) (h : m16 a0 = some r) : fnOk Try.prog 16 ∧ FnY Try.prog 16 [.agg (uni.cells 38 a0)] [] 0 (o16 r) :=
  fnY_of (p := r) F16_ok (fa16) rd16_e_ok (fun p => by kernel_rfl) (ltd_of (by kernel_rfl)) (rltd_of (by kernel_rfl)) ((c16 a0).trans h)
theorem fnok16 : fnOk Try.prog 16 := ⟨_, Try.func16, by kernel_rfl, by kernel_rfl⟩
noncomputable def e16 (F : Orc) : Orc := orL 16 false (pkC (asGc 38) pkN) (fun g => m16 g.1 : (Head × Unit) → Option E16) o16 F
theorem e16_ok {F : Orc} (h : OrcG Try.prog F) : OrcG Try.prog (e16 F) := orL_g (sc := scU) h scU_ok fnok16 (ca := fun g => [.agg (uni.cells 38 g.1)]) ((.cons (.g 38) .nil) : PkN (pkC (asGc 38) pkN) _) (fun b => by kernel_rfl) (fun b => by kernel_rfl) (fun g b hb => (fn16 g.1 b hb).2)
theorem e16_pure {F : Orc} {f : Nat} (h : PureF F f) : PureF (e16 F) f := orL_pure h (fun b => by kernel_rfl)
/-! ### 15: keyhole/ledger.EncodeHead -/
noncomputable def F15 : Orc := (e32 (e31 (e31b (e30 (e16 or0)))))
theorem F15_ok : OrcG Try.prog F15 := (e32_ok (e31_ok (e31b_ok (e30_ok (e16_ok or0_g)))))
abbrev E15 : Type := (List Int) × Int
abbrev P15_e : Type := (Unit × Int × Unit) × ((List Int) × Unit)
noncomputable def rb15_e : St → Option P15_e := stR 1 (slC 4 (asO 0) (slC 5 (asI .i64) slN)) (rsR 0 5 rsN)
noncomputable def pb15_e : P15_e → St := stP 1 (fun z => [(4, .own 0), (5, .n .i64 z.2.1)]) (fun z => [(0, .row 5 z.1)])
noncomputable def mk15_e (z : P15_e) : E15 := (z.2.1, z.1.2.1)
noncomputable def pt15_e (x : E15) : St := pb15_e (((), x.2, ()), (x.1, ()))
noncomputable def rd15_e : St → Option E15 := rdC 0 [] [4, 5] (rdF (ownS 4 [] 5) (rdC 0 [] [4, 5] (rdM mk15_e rb15_e)))
theorem rb15_e_ok (n : Nat) : RdOk 0 n rb15_e pb15_e := stR_ok (.cons (.o 0) (.cons (.i .i64) .nil)) (.row .nil)
theorem rd15_e_ok (n : Nat) : RdOk 0 n rd15_e pt15_e := rdC_ok (rdF_ok (.s 4 [] 5) (rdC_ok ((rb15_e_ok n).m mk15_e (pat' := pt15_e) fun _ => rfl)))
noncomputable def an15 : An := (.two .no (.two (.two (.rb [16, 30] 14) .no) .no))
theorem pu15  : ∀ f ∈ ([16, 30] : List Nat), PureF (F15) f := fun f hf => by
  simp only [List.mem_cons, List.not_mem_nil, or_false] at hf
  rcases hf with rfl | rfl
  · exact (e32_skip (f := 16) rfl (e31_skip (f := 16) rfl (e31b_skip (f := 16) rfl (e30_pure (e16_pure or0_pure)))))
  · exact (e32_skip (f := 30) rfl (e31_skip (f := 30) rfl (e31b_skip (f := 30) rfl (e30_pure (e16_pure or0_pure)))))
theorem fa15 : FnAn Try.prog (F15) 0 300 15 (an15) := fnAn_of (l := [(.skip, (.rb [16, 30] 14))]) Try.func15 (bodyOf_eq (by kernel_rfl)) (by kernel_rfl) fun p hp => by
  simp only [List.mem_cons, List.not_mem_nil, or_false] at hp
  rcases hp with rfl
  · exact pu15
noncomputable def m15 (a0 : Head) (a1 : Int) : Option E15 :=
  match match m16 a0 with
  | none =>
    none
  | some r1 =>
    bif bif decide (r1 = 0) then false else true then
      some (true)
    else
      some (bif m30 a1 then false else true) with
  | none =>
    none
  | some r2 =>
    bif r2 then
      some (([], 1))
    else
      match m31 (4) [2] [a1] with
      | none =>
        none
      | some r3 =>
        if (r3.fst ++ [IntKind.u8.wrap a0.fMode, IntKind.u8.wrap (↑a0.fBudgets.length : Int)]).length ≤ 1073741824 then
          match m31b (3) a0.fBudgets (r3.fst ++ [IntKind.u8.wrap a0.fMode, IntKind.u8.wrap (↑a0.fBudgets.length : Int)]) with
          | none =>
            none
          | some r4 =>
            match m32 r4 with
            | none =>
              none
            | some r5 =>
              some ((r5, 0))
        else
          none
theorem c15 (a0 : Head) (a1 : Int) : callR Try.prog (F15) 300 (an15) 15 [.agg (uni.cells 38 a0), .n .i64 a1] [] 0 rd15_e = m15 a0 a1 := by kernel_rfl
noncomputable def o15 (x : E15) : Out := match (match outOf Try.prog 15 (pt15_e x) with
    | some ds => some (Out.mk (resA ds) (keepR (pt15_e x).R 0 (resA ds)) (pt15_e x).nx)
    | none => none) with
  | some o => o
  | none => ⟨.tup [], [], 0⟩
theorem fn15 (a0 : Head) (a1 : Int) (r : E15) (h : m15 a0 a1 = some r) : fnOk Try.prog 15 ∧ FnY Try.prog 15 [.agg (uni.cells 38 a0), .n .i64 a1] [] 0 (o15 r) :=
  fnY_of (p := r) F15_ok (fa15) rd15_e_ok (fun p => by kernel_rfl) (ltd_of (by kernel_rfl)) (rltd_of (by kernel_rfl)) ((c15 a0 a1).trans h)
theorem fnok15 : fnOk Try.prog 15 := ⟨_, Try.func15, by kernel_rfl, by kernel_rfl⟩
noncomputable def e15 (F : Orc) : Orc := orL 15 false (pkC (asGc 38) (pkC (asI .i64) pkN)) (fun g => m15 g.1 g.2.1 : (Head × Int × Unit) → Option E15) o15 F
theorem e15_ok {F : Orc} (h : OrcG Try.prog F) : OrcG Try.prog (e15 F) := orL_g (sc := scU) h scU_ok fnok15 (ca := fun g => [.agg (uni.cells 38 g.1), .n .i64 g.2.1]) ((.cons (.g 38) (.cons (.i .i64) .nil)) : PkN (pkC (asGc 38) (pkC (asI .i64) pkN)) _) (fun b => by kernel_rfl) (fun b => by kernel_rfl) (fun g b hb => (fn15 g.1 g.2.1 b hb).2)
theorem e15_skip {F : Orc} {f : Nat} (hne : Nat.beq f 15 = false) (h : PureF F f) : PureF (e15 F) f := orL_skip hne h
/-! ### 17: keyhole/ledger.DecodeHead -/
noncomputable def F17 : Orc := (e37 (e36 (e15 or0)))
theorem F17_ok : OrcG Try.prog F17 := (e37_ok (e36_ok (e15_ok or0_g)))
structure L17_0 where
  t0 : List Int
  t28 : Int
  t29 : Int
  b0 : Head
  b1 : Head
abbrev P17_0 : Type := ((List Int) × Unit × Unit × Int × Int × Unit) × (((Int × Unit × Unit)) × ((Int × Unit × Unit)) × (List Int) × Unit)
noncomputable def rb17_0 : St → Option P17_0 := stR 3 (slC 0 (asL 5) (slC 2 (asP 0 0) (slC 5 (asP 1 0) (slC 28 (asI .i64) (slC 29 (asI .i64) slN))))) (rsN2 0 38 (pkC (asI .i64) (pkC asNs pkN)) (rsN2 1 38 (pkC (asI .i64) (pkC (asO 2) pkN)) (rsR 2 3 rsN)))
noncomputable def pb17_0 : P17_0 → St := stP 3 (fun z => [(0, .sl 5 z.1), (2, .ptr 0 0), (5, .ptr 1 0), (28, .n .i64 z.2.2.2.1), (29, .n .i64 z.2.2.2.2.1)]) (fun z => [(0, .box 38 [.n .i64 z.1.1, .lit (.slice none 0 0)]), (1, .box 38 [.n .i64 z.2.1.1, .own 2]), (2, .row 3 z.2.2.1)])
noncomputable def mk17_0 (z : P17_0) : L17_0 := ⟨z.1.1, z.1.2.2.2.1, z.1.2.2.2.2.1, (Head.mk z.2.1.1 []), (Head.mk z.2.2.1.1 z.2.2.2.1)⟩
noncomputable def pt17_0 (x : L17_0) : St := pb17_0 ((x.t0, (), (), x.t28, x.t29, ()), ((x.b0.fMode, (), ()), (x.b1.fMode, (), ()), x.b1.fBudgets, ()))
noncomputable def rd17_0 : St → Option L17_0 := rdC 0 [] [0, 2, 5, 28, 29] (rdF (ownC 1 1 [] 3) (rdC 0 [] [0, 2, 5, 28, 29] (rdM mk17_0 rb17_0)))
theorem rb17_0_ok (n : Nat) : RdOk 0 n rb17_0 pb17_0 := stR_ok (.cons (.l 5) (.cons (.p 0 0) (.cons (.p 1 0) (.cons (.i .i64) (.cons (.i .i64) .nil))))) (.boxN (.cons (.i .i64) (.cons .ns .nil)) (.boxN (.cons (.i .i64) (.cons (.o 2) .nil)) (.row .nil)))
theorem rd17_0_ok (n : Nat) : RdOk 0 n rd17_0 pt17_0 := rdC_ok (rdF_ok (.c 1 1 [] 3) (rdC_ok ((rb17_0_ok n).m mk17_0 (pat' := pt17_0) fun _ => rfl)))
noncomputable def n17_0 (p : L17_0) : Option (Option L17_0) :=
  bif decide (p.t29 < p.t28) then
    if (0 : Int) ≤ IntKind.i64.wrap ((7 : Int) + IntKind.i64.wrap ((3 : Int) * p.t29)) ∧ IntKind.i64.wrap ((7 : Int) + IntKind.i64.wrap ((3 : Int) * p.t29)) ≤ IntKind.i64.wrap ((10 : Int) + IntKind.i64.wrap ((3 : Int) * p.t29)) ∧ IntKind.i64.wrap ((10 : Int) + IntKind.i64.wrap ((3 : Int) * p.t29)) ≤ (↑p.t0.length : Int) then
      match m36 (List.drop (IntKind.i64.wrap (7 + IntKind.i64.wrap (3 * p.t29))).toNat (List.take (IntKind.i64.wrap (10 + IntKind.i64.wrap (3 * p.t29))).toNat p.t0)) with
      | none =>
        none
      | some r1 =>
        if (p.b1.fBudgets ++ [r1]).length ≤ 1073741824 then
          some (some (L17_0.mk p.t0 p.t28 (IntKind.i64.wrap (p.t29 + 1)) (Head.mk p.b0.fMode []) (Head.mk p.b1.fMode (p.b1.fBudgets ++ [r1]))))
        else
          none
    else
      none
  else
    some (none)
theorem q17_0 (p : L17_0) : execA Try.prog (F17) Try.f17.ntmps 300 (loopAt Try.f17 0) .no (Option L17_0) (pt17_0 p) (kOn rd17_0) = n17_0 p := by kernel_rfl
noncomputable def a17_0 : L17_0 → Option L17_0 := advG (n17_0)
abbrev E17 : Type := Head × Int × Bool
abbrev P17_e : Type := (Unit × Int × Bool × Unit) × (((Int × Unit × Unit)) × (List Int) × Unit)
noncomputable def rb17_e : St → Option P17_e := stR 2 (slC 2 (asP 0 0) (slC 3 (asI .i64) (slC 4 asB slN))) (rsN2 0 38 (pkC (asI .i64) (pkC (asO 1) pkN)) (rsR 1 3 rsN))
noncomputable def pb17_e : P17_e → St := stP 2 (fun z => [(2, .ptr 0 0), (3, .n .i64 z.2.1), (4, .b z.2.2.1)]) (fun z => [(0, .box 38 [.n .i64 z.1.1, .own 1]), (1, .row 3 z.2.1)])
noncomputable def mk17_e (z : P17_e) : E17 := ((Head.mk z.2.1.1 z.2.2.1), z.1.2.1, z.1.2.2.1)
noncomputable def pt17_e (x : E17) : St := pb17_e (((), x.2.1, x.2.2, ()), ((x.1.fMode, (), ()), x.1.fBudgets, ()))
noncomputable def rd17_e : St → Option E17 := rdC 0 [] [2, 3, 4] (rdF (ownC 0 1 [] 3) (rdC 0 [] [2, 3, 4] (rdM mk17_e rb17_e)))
theorem rb17_e_ok (n : Nat) : RdOk 0 n rb17_e pb17_e := stR_ok (.cons (.p 0 0) (.cons (.i .i64) (.cons .b .nil))) (.boxN (.cons (.i .i64) (.cons (.o 1) .nil)) (.row .nil))
theorem rd17_e_ok (n : Nat) : RdOk 0 n rd17_e pt17_e := rdC_ok (rdF_ok (.c 0 1 [] 3) (rdC_ok ((rb17_e_ok n).m mk17_e (pat' := pt17_e) fun _ => rfl)))
noncomputable def an17 : An := (.two .no (.two (.two (.rb [37] 18) .no) (.two .no (.two (.two .no (.lp L17_0 rd17_0 pt17_0 a17_0 .no)) (.two .no (.two .no (.two (.two (.rb [37] 63) .no) .no)))))))
theorem pu17  : ∀ f ∈ ([37] : List Nat), PureF (F17) f := fun f hf => by
  simp only [List.mem_cons, List.not_mem_nil, or_false] at hf
  rcases hf with rfl
  · exact (e37_pure (e36_pure (e15_skip (f := 37) rfl or0_pure)))
theorem fa17 : FnAn Try.prog (F17) 0 300 17 (an17) := fnAn_of (l := [(.skip, (.rb [37] 18)), (loopAt Try.f17 0, (.lp L17_0 rd17_0 pt17_0 a17_0 .no)), (.skip, (.rb [37] 63))]) Try.func17 (bodyOf_eq (by kernel_rfl)) (by kernel_rfl) fun p hp => by
  simp only [List.mem_cons, List.not_mem_nil, or_false] at hp
  rcases hp with rfl | rfl | rfl
  · exact pu17
  · exact ⟨rd17_0_ok _, advG_ok (q17_0)⟩
  · exact pu17
noncomputable def m17 (a0 : List Int) : Option E17 :=
  match bif bif decide ((↑a0.length : Int) = 96) then false else true then
    some (true)
  else
    if (0 : Int) ≤ (6 : Int) ∧ (6 : Int) < (↑a0.length : Int) then
      some (decide (16 < a0[Int.toNat 6]!))
    else
      none with
  | none =>
    none
  | some r2 =>
    bif r2 then
      some ((Head.mk (0) [], 0, false))
    else
      if (0 : Int) ≤ (5 : Int) ∧ (5 : Int) < (↑a0.length : Int) then
        if (0 : Int) ≤ (6 : Int) ∧ (6 : Int) < (↑a0.length : Int) then
          match a17_0 (L17_0.mk a0 (IntKind.i64.wrap a0[6]!) (0) (Head.mk (0) []) (Head.mk (IntKind.i64.wrap a0[5]!) [])) with
          | none =>
            none
          | some r3 =>
            bif decide (r3.t29 < r3.t28) then
              if (0 : Int) ≤ IntKind.i64.wrap ((7 : Int) + IntKind.i64.wrap ((3 : Int) * r3.t29)) ∧ IntKind.i64.wrap ((7 : Int) + IntKind.i64.wrap ((3 : Int) * r3.t29)) ≤ IntKind.i64.wrap ((10 : Int) + IntKind.i64.wrap ((3 : Int) * r3.t29)) ∧ IntKind.i64.wrap ((10 : Int) + IntKind.i64.wrap ((3 : Int) * r3.t29)) ≤ (↑r3.t0.length : Int) then
                match m36 (List.drop (IntKind.i64.wrap (7 + IntKind.i64.wrap (3 * r3.t29))).toNat (List.take (IntKind.i64.wrap (10 + IntKind.i64.wrap (3 * r3.t29))).toNat r3.t0)) with
                | none =>
                  none
                | some r4 =>
                  if (r3.b1.fBudgets ++ [r4]).length ≤ 1073741824 then
                    none
                  else
                    none
              else
                none
            else
              if (0 : Int) ≤ (1 : Int) ∧ (1 : Int) ≤ (5 : Int) ∧ (5 : Int) ≤ (↑r3.t0.length : Int) then
                match m36 (List.drop 1 (List.take 5 r3.t0)) with
                | none =>
                  none
                | some r5 =>
                  match m15 r3.b1 r5 with
                  | none =>
                    none
                  | some r6 =>
                    match bif bif decide (r6.snd = 0) then false else true then
                      some (true)
                    else
                      some (bif m37 r6.fst r3.t0 then false else true) with
                    | none =>
                      none
                    | some r7 =>
                      bif r7 then
                        some ((Head.mk (0) [], 0, false))
                      else
                        some ((r3.b1, r5, true))
              else
                none
        else
          none
      else
        none
theorem c17 (a0 : List Int) : callR Try.prog (F17) 300 (an17) 17 [.sl 5 a0] [] 0 rd17_e = m17 a0 := by kernel_rfl
noncomputable def o17 (x : E17) : Out := match (match outOf Try.prog 17 (pt17_e x) with
    | some ds => some (Out.mk (resA ds) (keepR (pt17_e x).R 0 (resA ds)) (pt17_e x).nx)
    | none => none) with
  | some o => o
  | none => ⟨.tup [], [], 0⟩
theorem fn17 (a0 : List Int) (r : E17) (h : m17 a0 = some r) : fnOk Try.prog 17 ∧ FnY Try.prog 17 [.sl 5 a0] [] 0 (o17 r) :=
  fnY_of (p := r) F17_ok (fa17) rd17_e_ok (fun p => by kernel_rfl) (ltd_of (by kernel_rfl)) (rltd_of (by kernel_rfl)) ((c17 a0).trans h)
theorem fnok17 : fnOk Try.prog 17 := ⟨_, Try.func17, by kernel_rfl, by kernel_rfl⟩
noncomputable def e17 (F : Orc) : Orc := orL 17 false (pkC (asL 5) pkN) (fun g => m17 g.1 : ((List Int) × Unit) → Option E17) o17 F
theorem e17_ok {F : Orc} (h : OrcG Try.prog F) : OrcG Try.prog (e17 F) := orL_g (sc := scU) h scU_ok fnok17 (ca := fun g => [.sl 5 g.1]) ((.cons (.l 5) .nil) : PkN (pkC (asL 5) pkN) _) (fun b => by kernel_rfl) (fun b => by kernel_rfl) (fun g b hb => (fn17 g.1 b hb).2)
theorem e17_skip {F : Orc} {f : Nat} (hne : Nat.beq f 17 = false) (h : PureF F f) : PureF (e17 F) f := orL_skip hne h
/-! ### 18: keyhole/keyholelaw50.encodeHead -/
noncomputable def F18 : Orc := (e39 (e38 or0))
theorem F18_ok : OrcG Try.prog F18 := (e39_ok (e38_ok or0_g))
structure L18_0 where
  t5 : List Int
  t21 : List Int
  t22 : Int
  t23 : Int
abbrev P18_0 : Type := (Unit × (List Int) × Int × Int × Unit) × ((List Int) × Unit)
noncomputable def rb18_0 : St → Option P18_0 := stR 1 (slC 5 (asO 0) (slC 21 (asL 3) (slC 22 (asI .i64) (slC 23 (asI .i64) slN)))) (rsR 0 5 rsN)
noncomputable def pb18_0 : P18_0 → St := stP 1 (fun z => [(5, .own 0), (21, .sl 3 z.2.1), (22, .n .i64 z.2.2.1), (23, .n .i64 z.2.2.2.1)]) (fun z => [(0, .row 5 z.1)])
noncomputable def mk18_0 (z : P18_0) : L18_0 := ⟨z.2.1, z.1.2.1, z.1.2.2.1, z.1.2.2.2.1⟩
noncomputable def pt18_0 (x : L18_0) : St := pb18_0 (((), x.t21, x.t22, x.t23, ()), (x.t5, ()))
noncomputable def rd18_0 : St → Option L18_0 := rdC 0 [] [5, 21, 22, 23] (rdM mk18_0 rb18_0)
theorem rb18_0_ok (n : Nat) : RdOk 0 n rb18_0 pb18_0 := stR_ok (.cons (.o 0) (.cons (.l 3) (.cons (.i .i64) (.cons (.i .i64) .nil)))) (.row .nil)
theorem rd18_0_ok (n : Nat) : RdOk 0 n rd18_0 pt18_0 := rdC_ok ((rb18_0_ok n).m mk18_0 (pat' := pt18_0) fun _ => rfl)
noncomputable def n18_0 (p : L18_0) : Option (Option L18_0) :=
  bif decide (p.t23 < p.t22) then
    if 0 ≤ p.t23 ∧ p.t23 < (↑p.t21.length : Int) then
      match m38 p.t21[p.t23.toNat]! (3) p.t5 with
      | none =>
        none
      | some r1 =>
        some (some (L18_0.mk r1 p.t21 p.t22 (IntKind.i64.wrap (p.t23 + 1))))
    else
      none
  else
    some (none)
theorem q18_0 (p : L18_0) : execA Try.prog (F18) Try.f18.ntmps 300 (loopAt Try.f18 0) .no (Option L18_0) (pt18_0 p) (kOn rd18_0) = n18_0 p := by kernel_rfl
noncomputable def a18_0 : L18_0 → Option L18_0 := advG (n18_0)
abbrev E18 : Type := List Int
abbrev P18_e : Type := (Unit × Unit) × ((List Int) × Unit)
noncomputable def rb18_e : St → Option P18_e := stR 1 (slC 4 (asO 0) slN) (rsR 0 5 rsN)
noncomputable def pb18_e : P18_e → St := stP 1 (fun z => [(4, .own 0)]) (fun z => [(0, .row 5 z.1)])
noncomputable def mk18_e (z : P18_e) : E18 := z.2.1
noncomputable def pt18_e (x : E18) : St := pb18_e (((), ()), (x, ()))
noncomputable def rd18_e : St → Option E18 := rdC 0 [] [4] (rdM mk18_e rb18_e)
theorem rb18_e_ok (n : Nat) : RdOk 0 n rb18_e pb18_e := stR_ok (.cons (.o 0) .nil) (.row .nil)
theorem rd18_e_ok (n : Nat) : RdOk 0 n rd18_e pt18_e := rdC_ok ((rb18_e_ok n).m mk18_e (pat' := pt18_e) fun _ => rfl)
noncomputable def an18 : An := (.two .no (.two .no (.two (.two .no (.lp L18_0 rd18_0 pt18_0 a18_0 .no)) .no)))
theorem fa18 : FnAn Try.prog (F18) 0 300 18 (an18) := fnAn_of (l := [(loopAt Try.f18 0, (.lp L18_0 rd18_0 pt18_0 a18_0 .no))]) Try.func18 (bodyOf_eq (by kernel_rfl)) (by kernel_rfl) fun p hp => by
  simp only [List.mem_cons, List.not_mem_nil, or_false] at hp
  rcases hp with rfl
  · exact ⟨rd18_0_ok _, advG_ok (q18_0)⟩
noncomputable def m18 (a0 : Head) (a1 : Int) : Option E18 :=
  match m38 a1 (4) [2] with
  | none =>
    none
  | some r2 =>
    if (r2 ++ [IntKind.u8.wrap a0.fMode, IntKind.u8.wrap (↑a0.fBudgets.length : Int)]).length ≤ 1073741824 then
      match a18_0 (L18_0.mk (r2 ++ [IntKind.u8.wrap a0.fMode, IntKind.u8.wrap (↑a0.fBudgets.length : Int)]) a0.fBudgets (↑a0.fBudgets.length : Int) (0)) with
      | none =>
        none
      | some r3 =>
        bif decide (r3.t23 < r3.t22) then
          if 0 ≤ r3.t23 ∧ r3.t23 < (↑r3.t21.length : Int) then
            match m38 r3.t21[r3.t23.toNat]! (3) r3.t5 with
            | none =>
              none
            | some r4 =>
              none
          else
            none
        else
          match m39 r3.t5 with
          | none =>
            none
          | some r5 =>
            some (r5)
    else
      none
theorem c18 (a0 : Head) (a1 : Int) : callR Try.prog (F18) 300 (an18) 18 [.agg (uni.cells 38 a0), .n .i64 a1] [] 0 rd18_e = m18 a0 a1 := by kernel_rfl
noncomputable def o18 (x : E18) : Out := match (match outOf Try.prog 18 (pt18_e x) with
    | some ds => some (Out.mk (resA ds) (keepR (pt18_e x).R 0 (resA ds)) (pt18_e x).nx)
    | none => none) with
  | some o => o
  | none => ⟨.tup [], [], 0⟩
theorem fn18 (a0 : Head) (a1 : Int) (r : E18) (h : m18 a0 a1 = some r) : fnOk Try.prog 18 ∧ FnY Try.prog 18 [.agg (uni.cells 38 a0), .n .i64 a1] [] 0 (o18 r) :=
  fnY_of (p := r) F18_ok (fa18) rd18_e_ok (fun p => by kernel_rfl) (ltd_of (by kernel_rfl)) (rltd_of (by kernel_rfl)) ((c18 a0 a1).trans h)
theorem fnok18 : fnOk Try.prog 18 := ⟨_, Try.func18, by kernel_rfl, by kernel_rfl⟩
noncomputable def e18 (F : Orc) : Orc := orL 18 false (pkC (asGc 38) (pkC (asI .i64) pkN)) (fun g => m18 g.1 g.2.1 : (Head × Int × Unit) → Option E18) o18 F
theorem e18_ok {F : Orc} (h : OrcG Try.prog F) : OrcG Try.prog (e18 F) := orL_g (sc := scU) h scU_ok fnok18 (ca := fun g => [.agg (uni.cells 38 g.1), .n .i64 g.2.1]) ((.cons (.g 38) (.cons (.i .i64) .nil)) : PkN (pkC (asGc 38) (pkC (asI .i64) pkN)) _) (fun b => by kernel_rfl) (fun b => by kernel_rfl) (fun g b hb => (fn18 g.1 g.2.1 b hb).2)
theorem e18_skip {F : Orc} {f : Nat} (hne : Nat.beq f 18 = false) (h : PureF F f) : PureF (e18 F) f := orL_skip hne h
/-! ### 43: slices.Equal[[]int,int] -/
noncomputable def F43 : Orc := or0
theorem F43_ok : OrcG Try.prog F43 := or0_g
structure L43_0 where
  t0 : List Int
  t1 : List Int
  t12 : Int
  t13 : Int
abbrev P43_0 : Type := ((List Int) × (List Int) × Int × Int × Unit) × (Unit)
noncomputable def rb43_0 : St → Option P43_0 := stR 0 (slC 0 (asL 3) (slC 1 (asL 3) (slC 12 (asI .i64) (slC 13 (asI .i64) slN)))) rsN
noncomputable def pb43_0 : P43_0 → St := stP 0 (fun z => [(0, .sl 3 z.1), (1, .sl 3 z.2.1), (12, .n .i64 z.2.2.1), (13, .n .i64 z.2.2.2.1)]) (fun z => [])
noncomputable def mk43_0 (z : P43_0) : L43_0 := ⟨z.1.1, z.1.2.1, z.1.2.2.1, z.1.2.2.2.1⟩
noncomputable def pt43_0 (x : L43_0) : St := pb43_0 ((x.t0, x.t1, x.t12, x.t13, ()), (()))
noncomputable def rd43_0 : St → Option L43_0 := rdC 0 [] [0, 1, 12, 13] (rdM mk43_0 rb43_0)
theorem rb43_0_ok (n : Nat) : RdOk 0 n rb43_0 pb43_0 := stR_ok (.cons (.l 3) (.cons (.l 3) (.cons (.i .i64) (.cons (.i .i64) .nil)))) .nil
theorem rd43_0_ok (n : Nat) : RdOk 0 n rd43_0 pt43_0 := rdC_ok ((rb43_0_ok n).m mk43_0 (pat' := pt43_0) fun _ => rfl)
noncomputable def n43_0 (p : L43_0) : Option (Option L43_0) :=
  bif decide (p.t13 < p.t12) then
    if 0 ≤ p.t13 ∧ p.t13 < (↑p.t0.length : Int) then
      if 0 ≤ p.t13 ∧ p.t13 < (↑p.t1.length : Int) then
        bif bif decide (((p.t0, p.t1, p.t12, p.t13, ()), ()).fst.fst[((p.t0, p.t1, p.t12, p.t13, ()), ()).fst.snd.snd.snd.fst.toNat]! = ((p.t0, p.t1, p.t12, p.t13, ()), ()).fst.snd.fst[((p.t0, p.t1, p.t12, p.t13, ()), ()).fst.snd.snd.snd.fst.toNat]!) then false else true then
          some (none)
        else
          some (some (L43_0.mk p.t0 p.t1 p.t12 (IntKind.i64.wrap (p.t13 + 1))))
      else
        none
    else
      none
  else
    some (none)
theorem q43_0 (p : L43_0) : execA Try.prog (F43) Try.f43.ntmps 300 (loopAt Try.f43 0) .no (Option L43_0) (pt43_0 p) (kOn rd43_0) = n43_0 p := by kernel_rfl
noncomputable def a43_0 : L43_0 → Option L43_0 := advG (n43_0)
abbrev E43 : Type := Bool
abbrev P43_e : Type := (Bool × Unit) × (Unit)
noncomputable def rb43_e : St → Option P43_e := stR 0 (slC 4 asB slN) rsN
noncomputable def pb43_e : P43_e → St := stP 0 (fun z => [(4, .b z.1)]) (fun z => [])
noncomputable def mk43_e (z : P43_e) : E43 := z.1.1
noncomputable def pt43_e (x : E43) : St := pb43_e ((x, ()), (()))
noncomputable def rd43_e : St → Option E43 := rdC 0 [] [4] (rdM mk43_e rb43_e)
theorem rb43_e_ok (n : Nat) : RdOk 0 n rb43_e pb43_e := stR_ok (.cons .b .nil) .nil
theorem rd43_e_ok (n : Nat) : RdOk 0 n rd43_e pt43_e := rdC_ok ((rb43_e_ok n).m mk43_e (pat' := pt43_e) fun _ => rfl)
noncomputable def an43 : An := (.two .no (.two .no (.two (.two .no (.lp L43_0 rd43_0 pt43_0 a43_0 .no)) .no)))
theorem fa43 : FnAn Try.prog (F43) 0 300 43 (an43) := fnAn_of (l := [(loopAt Try.f43 0, (.lp L43_0 rd43_0 pt43_0 a43_0 .no))]) Try.func43 (bodyOf_eq (by kernel_rfl)) (by kernel_rfl) fun p hp => by
  simp only [List.mem_cons, List.not_mem_nil, or_false] at hp
  rcases hp with rfl
  · exact ⟨rd43_0_ok _, advG_ok (q43_0)⟩
noncomputable def m43 (a0 : List Int) (a1 : List Int) : Option E43 :=
  bif bif decide ((↑a0.length : Int) = (↑a1.length : Int)) then false else true then
    some (false)
  else
    match a43_0 (L43_0.mk a0 a1 (↑a0.length : Int) (0)) with
    | none =>
      none
    | some r1 =>
      bif decide (r1.t13 < r1.t12) then
        if 0 ≤ r1.t13 ∧ r1.t13 < (↑r1.t0.length : Int) then
          if 0 ≤ r1.t13 ∧ r1.t13 < (↑r1.t1.length : Int) then
            bif bif decide (((r1.t0, r1.t1, r1.t12, r1.t13, ()), ()).fst.fst[((r1.t0, r1.t1, r1.t12, r1.t13, ()), ()).fst.snd.snd.snd.fst.toNat]! = ((r1.t0, r1.t1, r1.t12, r1.t13, ()), ()).fst.snd.fst[((r1.t0, r1.t1, r1.t12, r1.t13, ()), ()).fst.snd.snd.snd.fst.toNat]!) then false else true then
              some (false)
            else
              none
          else
            none
        else
          none
      else
        some (true)
theorem c43 (a0 : List Int) (a1 : List Int) : callR Try.prog (F43) 300 (an43) 43 [.sl 3 a0, .sl 3 a1] [] 0 rd43_e = m43 a0 a1 := by kernel_rfl
noncomputable def o43 (x : E43) : Out := match (match outOf Try.prog 43 (pt43_e x) with
    | some ds => some (Out.mk (resA ds) (keepR (pt43_e x).R 0 (resA ds)) (pt43_e x).nx)
    | none => none) with
  | some o => o
  | none => ⟨.tup [], [], 0⟩
theorem fn43 (a0 : List Int) (a1 : List Int) (r : E43) (h : m43 a0 a1 = some r) : fnOk Try.prog 43 ∧ FnY Try.prog 43 [.sl 3 a0, .sl 3 a1] [] 0 (o43 r) :=
  fnY_of (p := r) F43_ok (fa43) rd43_e_ok (fun p => by kernel_rfl) (ltd_of (by kernel_rfl)) (rltd_of (by kernel_rfl)) ((c43 a0 a1).trans h)
theorem fnok43 : fnOk Try.prog 43 := ⟨_, Try.func43, by kernel_rfl, by kernel_rfl⟩
noncomputable def e43 (F : Orc) : Orc := orL 43 false (pkC (asL 3) (pkC (asL 3) pkN)) (fun g => m43 g.1 g.2.1 : ((List Int) × (List Int) × Unit) → Option E43) o43 F
theorem e43_ok {F : Orc} (h : OrcG Try.prog F) : OrcG Try.prog (e43 F) := orL_g (sc := scU) h scU_ok fnok43 (ca := fun g => [.sl 3 g.1, .sl 3 g.2.1]) ((.cons (.l 3) (.cons (.l 3) .nil)) : PkN (pkC (asL 3) (pkC (asL 3) pkN)) _) (fun b => by kernel_rfl) (fun b => by kernel_rfl) (fun g b hb => (fn43 g.1 g.2.1 b hb).2)
theorem e43_pure {F : Orc} {f : Nat} (h : PureF F f) : PureF (e43 F) f := orL_pure h (fun b => by kernel_rfl)
/-! ### 19: keyhole/keyholelaw50.same -/
noncomputable def F19 : Orc := (e43 or0)
theorem F19_ok : OrcG Try.prog F19 := (e43_ok or0_g)
abbrev E19 : Type := Bool
abbrev P19_e : Type := (Bool × Unit) × (Unit)
noncomputable def rb19_e : St → Option P19_e := stR 0 (slC 4 asB slN) rsN
noncomputable def pb19_e : P19_e → St := stP 0 (fun z => [(4, .b z.1)]) (fun z => [])
noncomputable def mk19_e (z : P19_e) : E19 := z.1.1
noncomputable def pt19_e (x : E19) : St := pb19_e ((x, ()), (()))
noncomputable def rd19_e : St → Option E19 := rdC 0 [] [4] (rdM mk19_e rb19_e)
theorem rb19_e_ok (n : Nat) : RdOk 0 n rb19_e pb19_e := stR_ok (.cons .b .nil) .nil
theorem rd19_e_ok (n : Nat) : RdOk 0 n rd19_e pt19_e := rdC_ok ((rb19_e_ok n).m mk19_e (pat' := pt19_e) fun _ => rfl)
noncomputable def an19 : An := (.two .no (.two (.rb [43] 4) .no))
theorem pu19  : ∀ f ∈ ([43] : List Nat), PureF (F19) f := fun f hf => by
  simp only [List.mem_cons, List.not_mem_nil, or_false] at hf
  rcases hf with rfl
  · exact (e43_pure or0_pure)
theorem fa19 : FnAn Try.prog (F19) 0 300 19 (an19) := fnAn_of (l := [(.skip, (.rb [43] 4))]) Try.func19 (bodyOf_eq (by kernel_rfl)) (by kernel_rfl) fun p hp => by
  simp only [List.mem_cons, List.not_mem_nil, or_false] at hp
  rcases hp with rfl
  · exact pu19
noncomputable def m19 (a0 : Head) (a1 : Head) : Option E19 :=
  match bif decide (a0.fMode = a1.fMode) then
    match m43 a0.fBudgets a1.fBudgets with
    | none =>
      none
    | some r1 =>
      some (r1)
  else
    some (false) with
  | none =>
    none
  | some r2 =>
    some (r2)
theorem c19 (a0 : Head) (a1 : Head) : callR Try.prog (F19) 300 (an19) 19 [.agg (uni.cells 38 a0), .agg (uni.cells 38 a1)] [] 0 rd19_e = m19 a0 a1 := by kernel_rfl
noncomputable def o19 (x : E19) : Out := match (match outOf Try.prog 19 (pt19_e x) with
    | some ds => some (Out.mk (resA ds) (keepR (pt19_e x).R 0 (resA ds)) (pt19_e x).nx)
    | none => none) with
  | some o => o
  | none => ⟨.tup [], [], 0⟩
theorem fn19 (a0 : Head) (a1 : Head) (r : E19) (h : m19 a0 a1 = some r) : fnOk Try.prog 19 ∧ FnY Try.prog 19 [.agg (uni.cells 38 a0), .agg (uni.cells 38 a1)] [] 0 (o19 r) :=
  fnY_of (p := r) F19_ok (fa19) rd19_e_ok (fun p => by kernel_rfl) (ltd_of (by kernel_rfl)) (rltd_of (by kernel_rfl)) ((c19 a0 a1).trans h)
theorem fnok19 : fnOk Try.prog 19 := ⟨_, Try.func19, by kernel_rfl, by kernel_rfl⟩
noncomputable def e19 (F : Orc) : Orc := orL 19 false (pkC (asGc 38) (pkC (asGc 38) pkN)) (fun g => m19 g.1 g.2.1 : (Head × Head × Unit) → Option E19) o19 F
theorem e19_ok {F : Orc} (h : OrcG Try.prog F) : OrcG Try.prog (e19 F) := orL_g (sc := scU) h scU_ok fnok19 (ca := fun g => [.agg (uni.cells 38 g.1), .agg (uni.cells 38 g.2.1)]) ((.cons (.g 38) (.cons (.g 38) .nil)) : PkN (pkC (asGc 38) (pkC (asGc 38) pkN)) _) (fun b => by kernel_rfl) (fun b => by kernel_rfl) (fun g b hb => (fn19 g.1 g.2.1 b hb).2)
theorem e19_pure {F : Orc} {f : Nat} (h : PureF F f) : PureF (e19 F) f := orL_pure h (fun b => by kernel_rfl)
/-! ### 20: keyhole/keyholelaw50.decodeHead -/
noncomputable def F20 : Orc := (e40 (e18 (e14 (e11 or0))))
theorem F20_ok : OrcG Try.prog F20 := (e40_ok (e18_ok (e14_ok (e11_ok or0_g))))
structure L20_0 where
  t0 : List Int
  t6 : Int
  b0 : Head
  b1 : Head
abbrev P20_0 : Type := ((List Int) × Unit × Unit × Int × Unit) × (((Int × Unit × Unit)) × ((Int × Unit × Unit)) × (List Int) × Unit)
noncomputable def rb20_0 : St → Option P20_0 := stR 3 (slC 0 (asL 5) (slC 2 (asP 0 0) (slC 5 (asP 1 0) (slC 6 (asI .i64) slN)))) (rsN2 0 38 (pkC (asI .i64) (pkC asNs pkN)) (rsN2 1 38 (pkC (asI .i64) (pkC (asO 2) pkN)) (rsR 2 3 rsN)))
noncomputable def pb20_0 : P20_0 → St := stP 3 (fun z => [(0, .sl 5 z.1), (2, .ptr 0 0), (5, .ptr 1 0), (6, .n .i64 z.2.2.2.1)]) (fun z => [(0, .box 38 [.n .i64 z.1.1, .lit (.slice none 0 0)]), (1, .box 38 [.n .i64 z.2.1.1, .own 2]), (2, .row 3 z.2.2.1)])
noncomputable def mk20_0 (z : P20_0) : L20_0 := ⟨z.1.1, z.1.2.2.2.1, (Head.mk z.2.1.1 []), (Head.mk z.2.2.1.1 z.2.2.2.1)⟩
noncomputable def pt20_0 (x : L20_0) : St := pb20_0 ((x.t0, (), (), x.t6, ()), ((x.b0.fMode, (), ()), (x.b1.fMode, (), ()), x.b1.fBudgets, ()))
noncomputable def rd20_0 : St → Option L20_0 := rdC 0 [] [0, 2, 5, 6] (rdF (ownC 1 1 [] 3) (rdC 0 [] [0, 2, 5, 6] (rdM mk20_0 rb20_0)))
theorem rb20_0_ok (n : Nat) : RdOk 0 n rb20_0 pb20_0 := stR_ok (.cons (.l 5) (.cons (.p 0 0) (.cons (.p 1 0) (.cons (.i .i64) .nil)))) (.boxN (.cons (.i .i64) (.cons .ns .nil)) (.boxN (.cons (.i .i64) (.cons (.o 2) .nil)) (.row .nil)))
theorem rd20_0_ok (n : Nat) : RdOk 0 n rd20_0 pt20_0 := rdC_ok (rdF_ok (.c 1 1 [] 3) (rdC_ok ((rb20_0_ok n).m mk20_0 (pat' := pt20_0) fun _ => rfl)))
noncomputable def n20_0 (p : L20_0) : Option (Option L20_0) :=
  if (0 : Int) ≤ (6 : Int) ∧ (6 : Int) < (↑p.t0.length : Int) then
    bif decide (p.t6 < IntKind.i64.wrap p.t0[6]!) then
      if (0 : Int) ≤ IntKind.i64.wrap ((7 : Int) + IntKind.i64.wrap ((3 : Int) * p.t6)) ∧ IntKind.i64.wrap ((7 : Int) + IntKind.i64.wrap ((3 : Int) * p.t6)) ≤ IntKind.i64.wrap ((10 : Int) + IntKind.i64.wrap ((3 : Int) * p.t6)) ∧ IntKind.i64.wrap ((10 : Int) + IntKind.i64.wrap ((3 : Int) * p.t6)) ≤ (↑p.t0.length : Int) then
        match m40 (List.drop (IntKind.i64.wrap (7 + IntKind.i64.wrap (3 * p.t6))).toNat (List.take (IntKind.i64.wrap (10 + IntKind.i64.wrap (3 * p.t6))).toNat p.t0)) with
        | none =>
          none
        | some r1 =>
          if (p.b1.fBudgets ++ [r1]).length ≤ 1073741824 then
            some (some (L20_0.mk p.t0 (IntKind.i64.wrap (p.t6 + 1)) (Head.mk p.b0.fMode []) (Head.mk p.b1.fMode (p.b1.fBudgets ++ [r1]))))
          else
            none
      else
        none
    else
      some (none)
  else
    none
theorem q20_0 (p : L20_0) : execA Try.prog (F20) Try.f20.ntmps 300 (loopAt Try.f20 0) .no (Option L20_0) (pt20_0 p) (kOn rd20_0) = n20_0 p := by kernel_rfl
noncomputable def a20_0 : L20_0 → Option L20_0 := advG (n20_0)
abbrev E20 : Type := Head × Int × Bool
abbrev P20_e : Type := (Unit × Int × Bool × Unit) × (((Int × Unit × Unit)) × (List Int) × Unit)
noncomputable def rb20_e : St → Option P20_e := stR 2 (slC 2 (asP 0 0) (slC 3 (asI .i64) (slC 4 asB slN))) (rsN2 0 38 (pkC (asI .i64) (pkC (asO 1) pkN)) (rsR 1 3 rsN))
noncomputable def pb20_e : P20_e → St := stP 2 (fun z => [(2, .ptr 0 0), (3, .n .i64 z.2.1), (4, .b z.2.2.1)]) (fun z => [(0, .box 38 [.n .i64 z.1.1, .own 1]), (1, .row 3 z.2.1)])
noncomputable def mk20_e (z : P20_e) : E20 := ((Head.mk z.2.1.1 z.2.2.1), z.1.2.1, z.1.2.2.1)
noncomputable def pt20_e (x : E20) : St := pb20_e (((), x.2.1, x.2.2, ()), ((x.1.fMode, (), ()), x.1.fBudgets, ()))
noncomputable def rd20_e : St → Option E20 := rdC 0 [] [2, 3, 4] (rdF (ownC 0 1 [] 3) (rdC 0 [] [2, 3, 4] (rdM mk20_e rb20_e)))
theorem rb20_e_ok (n : Nat) : RdOk 0 n rb20_e pb20_e := stR_ok (.cons (.p 0 0) (.cons (.i .i64) (.cons .b .nil))) (.boxN (.cons (.i .i64) (.cons (.o 1) .nil)) (.row .nil))
theorem rd20_e_ok (n : Nat) : RdOk 0 n rd20_e pt20_e := rdC_ok (rdF_ok (.c 0 1 [] 3) (rdC_ok ((rb20_e_ok n).m mk20_e (pat' := pt20_e) fun _ => rfl)))
noncomputable def an20 : An := (.two .no (.two (.two (.rb [] 28) .no) (.two .no (.two (.two .no (.lp L20_0 rd20_0 pt20_0 a20_0 .no)) .no))))
theorem pu20  : ∀ f ∈ ([] : List Nat), PureF (F20) f := fun f hf => by
  cases hf
theorem fa20 : FnAn Try.prog (F20) 0 300 20 (an20) := fnAn_of (l := [(.skip, (.rb [] 28)), (loopAt Try.f20 0, (.lp L20_0 rd20_0 pt20_0 a20_0 .no))]) Try.func20 (bodyOf_eq (by kernel_rfl)) (by kernel_rfl) fun p hp => by
  simp only [List.mem_cons, List.not_mem_nil, or_false] at hp
  rcases hp with rfl | rfl
  · exact pu20
  · exact ⟨rd20_0_ok _, advG_ok (q20_0)⟩
noncomputable def m20 (a0 : List Int) : Option E20 :=
  match bif bif decide ((↑a0.length : Int) = 96) then false else true then
    some (true)
  else
    if (0 : Int) ≤ (0 : Int) ∧ (0 : Int) < (↑a0.length : Int) then
      bif bif decide (a0[Int.toNat 0]! = 2) then false else true then
        some (true)
      else
        if (0 : Int) ≤ (6 : Int) ∧ (6 : Int) < (↑a0.length : Int) then
          bif decide (a0[Int.toNat 6]! < 1) then
            some (true)
          else
            if (0 : Int) ≤ (6 : Int) ∧ (6 : Int) < (↑a0.length : Int) then
              some (decide (16 < a0[Int.toNat 6]!))
            else
              none
        else
          none
    else
      none with
  | none =>
    none
  | some r2 =>
    bif r2 then
      some ((Head.mk (0) [], 0, false))
    else
      if (0 : Int) ≤ (5 : Int) ∧ (5 : Int) < (↑a0.length : Int) then
        match a20_0 (L20_0.mk a0 (0) (Head.mk (0) []) (Head.mk (IntKind.i64.wrap a0[5]!) [])) with
        | none =>
          none
        | some r3 =>
          if (0 : Int) ≤ (6 : Int) ∧ (6 : Int) < (↑r3.t0.length : Int) then
            bif decide (r3.t6 < IntKind.i64.wrap r3.t0[6]!) then
              if (0 : Int) ≤ IntKind.i64.wrap ((7 : Int) + IntKind.i64.wrap ((3 : Int) * r3.t6)) ∧ IntKind.i64.wrap ((7 : Int) + IntKind.i64.wrap ((3 : Int) * r3.t6)) ≤ IntKind.i64.wrap ((10 : Int) + IntKind.i64.wrap ((3 : Int) * r3.t6)) ∧ IntKind.i64.wrap ((10 : Int) + IntKind.i64.wrap ((3 : Int) * r3.t6)) ≤ (↑r3.t0.length : Int) then
                match m40 (List.drop (IntKind.i64.wrap (7 + IntKind.i64.wrap (3 * r3.t6))).toNat (List.take (IntKind.i64.wrap (10 + IntKind.i64.wrap (3 * r3.t6))).toNat r3.t0)) with
                | none =>
                  none
                | some r4 =>
                  if (r3.b1.fBudgets ++ [r4]).length ≤ 1073741824 then
                    none
                  else
                    none
              else
                none
            else
              if (0 : Int) ≤ (1 : Int) ∧ (1 : Int) ≤ (5 : Int) ∧ (5 : Int) ≤ (↑r3.t0.length : Int) then
                match m40 (List.drop 1 (List.take 5 r3.t0)) with
                | none =>
                  none
                | some r5 =>
                  match m14 r3.b1 with
                  | none =>
                    none
                  | some r6 =>
                    bif bif r6 then false else true then
                      some ((Head.mk (0) [], 0, false))
                    else
                      bif decide (2147483647 < r5) then
                        some ((Head.mk (0) [], 0, false))
                      else
                        match m18 r3.b1 r5 with
                        | none =>
                          none
                        | some r7 =>
                          match m11 r7 r3.t0 with
                          | none =>
                            none
                          | some r8 =>
                            bif bif r8 then false else true then
                              some ((Head.mk (0) [], 0, false))
                            else
                              some ((r3.b1, r5, true))
              else
                none
          else
            none
      else
        none
theorem c20 (a0 : List Int) : callR Try.prog (F20) 300 (an20) 20 [.sl 5 a0] [] 0 rd20_e = m20 a0 := by kernel_rfl
noncomputable def o20 (x : E20) : Out := match (match outOf Try.prog 20 (pt20_e x) with
    | some ds => some (Out.mk (resA ds) (keepR (pt20_e x).R 0 (resA ds)) (pt20_e x).nx)
    | none => none) with
  | some o => o
  | none => ⟨.tup [], [], 0⟩
theorem fn20 (a0 : List Int) (r : E20) (h : m20 a0 = some r) : fnOk Try.prog 20 ∧ FnY Try.prog 20 [.sl 5 a0] [] 0 (o20 r) :=
  fnY_of (p := r) F20_ok (fa20) rd20_e_ok (fun p => by kernel_rfl) (ltd_of (by kernel_rfl)) (rltd_of (by kernel_rfl)) ((c20 a0).trans h)
theorem fnok20 : fnOk Try.prog 20 := ⟨_, Try.func20, by kernel_rfl, by kernel_rfl⟩
noncomputable def e20 (F : Orc) : Orc := orL 20 false (pkC (asL 5) pkN) (fun g => m20 g.1 : ((List Int) × Unit) → Option E20) o20 F
theorem e20_ok {F : Orc} (h : OrcG Try.prog F) : OrcG Try.prog (e20 F) := orL_g (sc := scU) h scU_ok fnok20 (ca := fun g => [.sl 5 g.1]) ((.cons (.l 5) .nil) : PkN (pkC (asL 5) pkN) _) (fun b => by kernel_rfl) (fun b => by kernel_rfl) (fun g b hb => (fn20 g.1 b hb).2)
theorem e20_skip {F : Orc} {f : Nat} (hne : Nat.beq f 20 = false) (h : PureF F f) : PureF (e20 F) f := orL_skip hne h
end Go.Proofs.Ytgdahkddhecloaa
