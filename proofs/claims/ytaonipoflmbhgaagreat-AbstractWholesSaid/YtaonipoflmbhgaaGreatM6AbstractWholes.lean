/- Merged: Gd, Pv1, Pv3, Pv1b. -/
import Derived.Test.YtaonipoflmbhgaaGreatM3AbstractWholes
import Derived.Test.YtaonipoflmbhgaaGreatM4AbstractWholes
import Derived.Test.YtaonipoflmbhgaaGreatM5AbstractWholes
section
set_option linter.unusedSectionVars false
set_option linter.unusedVariables false
set_option linter.unusedSimpArgs false
set_option maxRecDepth 100000
namespace Go.Proofs.YtaonipoflmbhgaaGreat
open Go Go.Iv
/-! ### 117: keyhole/keyholeref17.TermNodes -/
abbrev E117 : Type := Int
abbrev P117_e : Type := (Int × Unit) × (Unit)
noncomputable def rb117_e : St → Option P117_e := stR 0 (slC 2 (asI .i64) slN) rsN
noncomputable def pb117_e : P117_e → St := stP 0 (fun z => [(2, .n .i64 z.1)]) (fun z => [])
noncomputable def mk117_e (z : P117_e) : E117 := z.1.1
noncomputable def pt117_e (x : E117) : St := pb117_e ((x, ()), (()))
noncomputable def rd117_e : St → Option E117 := rdC 0 [] [2] (rdM mk117_e rb117_e)
theorem rb117_e_ok (n : Nat) : RdOk 0 n rb117_e pb117_e := stR_ok (.cons (.i .i64) .nil) .nil
theorem rd117_e_ok (n : Nat) : RdOk 0 n rd117_e pt117_e := rdC_ok ((rb117_e_ok n).m mk117_e (pat' := pt117_e) fun _ => rfl)
noncomputable def o117 (x : E117) : Out := match (match outOf Tryz.prog 117 (pt117_e x) with
    | some ds => some (Out.mk (resA ds) (keepR (pt117_e x).R 0 (resA ds)) (pt117_e x).nx)
    | none => none) with
  | some o => o
  | none => ⟨.tup [], [], 0⟩
theorem fnok117 : fnOk Tryz.prog 117 := ⟨_, Tryz.func117, by kernel_rfl, by kernel_rfl⟩
noncomputable def x117 (M117 : GTerm → Option E117) (F : Orc) : Orc := orL 117 false (pkC (asGc 97) pkN) (fun g => M117 g.1 : (GTerm × Unit) → Option E117) o117 F
theorem x117_pure {M : GTerm → Option E117} {F : Orc} {f : Nat} (h : PureF F f) : PureF (x117 M F) f := orL_pure h (fun b => by kernel_rfl)
def H117 (M : GTerm → Option E117) : Prop := ∀ (a0 : GTerm) (r : E117), M a0 = some r → FnY Tryz.prog 117 [.agg (uni.cells 97 a0)] [] 0 (o117 r)
theorem x117_ok {M : GTerm → Option E117} (hM : H117 M) {F : Orc} (h : OrcG Tryz.prog F) : OrcG Tryz.prog (x117 M F) := orL_g (sc := scU) h scU_ok fnok117 (ca := fun g => [.agg (uni.cells 97 g.1)]) ((.cons (.g 97) .nil) : PkN (pkC (asGc 97) pkN) _) (fun b => by kernel_rfl) (fun b => by kernel_rfl) (fun g b hb => hM g.1 b hb)
noncomputable def F117 (M117 : GTerm → Option E117) : Orc := (x117 M117 or0)
theorem F117_ok {M117} (h117 : H117 M117) : OrcG Tryz.prog (F117 M117) := (x117_ok h117 or0_g)
structure L117_0 where
  t3 : Int
  t4 : Int
  b0 : GTerm
abbrev P117_0 : Type := (Unit × Int × Int × Unit) × (GTerm × Unit)
noncomputable def rb117_0 : St → Option P117_0 := stR 1 (slC 1 (asP 0 0) (slC 3 (asI .i64) (slC 4 (asI .i64) slN))) (rsN2 0 97 (asCs 97) rsN)
noncomputable def pb117_0 : P117_0 → St := stP 1 (fun z => [(1, .ptr 0 0), (3, .n .i64 z.2.1), (4, .n .i64 z.2.2.1)]) (fun z => [(0, .box 97 (uni.cells 97 z.1))])
noncomputable def mk117_0 (z : P117_0) : L117_0 := ⟨z.1.2.1, z.1.2.2.1, z.2.1⟩
noncomputable def pt117_0 (x : L117_0) : St := pb117_0 (((), x.t3, x.t4, ()), (x.b0, ()))
noncomputable def rd117_0 : St → Option L117_0 := rdC 0 [] [1, 3, 4] (rdM mk117_0 rb117_0)
theorem rb117_0_ok (n : Nat) : RdOk 0 n rb117_0 pb117_0 := stR_ok (.cons (.p 0 0) (.cons (.i .i64) (.cons (.i .i64) .nil))) (.boxN (PkN.parse 97) .nil)
theorem rd117_0_ok (n : Nat) : RdOk 0 n rd117_0 pt117_0 := rdC_ok ((rb117_0_ok n).m mk117_0 (pat' := pt117_0) fun _ => rfl)
noncomputable def n117_0 (M117 : GTerm → Option E117) (p : L117_0) : Option (Option L117_0) :=
  bif decide (p.t4 < (↑p.b0.fKids.length : Int)) then
    if (0 : Int) ≤ p.t4 ∧ p.t4 < (↑p.b0.fKids.length : Int) then
      match M117 (GTerm.mk p.b0.fKids[p.t4.toNat]!.fOp p.b0.fKids[p.t4.toNat]!.fN p.b0.fKids[p.t4.toNat]!.fKids) with
      | none =>
        none
      | some r1 =>
        some (some (L117_0.mk (IntKind.i64.wrap (p.t3 + r1)) (IntKind.i64.wrap (p.t4 + 1)) (GTerm.mk p.b0.fOp p.b0.fN p.b0.fKids)))
    else
      none
  else
    some (none)
theorem q117_0 (M117 : GTerm → Option E117) (p : L117_0) : execA Tryz.prog (F117 M117) Tryz.f117.ntmps 300 (loopAt Tryz.f117 0) .no (Option L117_0) (pt117_0 p) (kOn rd117_0) = n117_0 M117 p := by kernel_rfl
noncomputable def a117_0 (M117 : GTerm → Option E117) : L117_0 → Option L117_0 := advG (n117_0 M117)
noncomputable def an117 (M117 : GTerm → Option E117) : An := (.two .no (.two .no (.two (.two .no (.lp L117_0 rd117_0 pt117_0 (a117_0 M117) .no)) .no)))
theorem fa117 (M117 : GTerm → Option E117) : FnAn Tryz.prog (F117 M117) 0 300 117 (an117 M117) := fnAn_of (l := [(loopAt Tryz.f117 0, (.lp L117_0 rd117_0 pt117_0 (a117_0 M117) .no))]) Tryz.func117 (bodyOf_eq (by kernel_rfl)) (by kernel_rfl) fun p hp => by
  simp only [List.mem_cons, List.not_mem_nil, or_false] at hp
  rcases hp with rfl
  · exact ⟨rd117_0_ok _, advG_ok (q117_0 M117)⟩
noncomputable def s117 (M117 : GTerm → Option E117) (a0 : GTerm) : Option E117 :=
  match a117_0 M117 (L117_0.mk (1) (0) (GTerm.mk a0.fOp a0.fN a0.fKids)) with
  | none =>
    none
  | some r2 =>
    bif decide (r2.t4 < (↑r2.b0.fKids.length : Int)) then
      if (0 : Int) ≤ r2.t4 ∧ r2.t4 < (↑r2.b0.fKids.length : Int) then
        match M117 (GTerm.mk r2.b0.fKids[r2.t4.toNat]!.fOp r2.b0.fKids[r2.t4.toNat]!.fN r2.b0.fKids[r2.t4.toNat]!.fKids) with
        | none =>
          none
        | some r3 =>
          none
      else
        none
    else
      some (r2.t3)
theorem c117 (M117 : GTerm → Option E117) (a0 : GTerm) : callR Tryz.prog (F117 M117) 300 (an117 M117) 117 [.agg (uni.cells 97 a0)] [] 0 rd117_e = s117 M117 a0 := by kernel_rfl
noncomputable def mm117 : Nat → (GTerm → Option E117)
  | 0 => (fun _ => none)
  | n + 1 => (s117 (mm117 n))
noncomputable def m117 (n : Nat) : GTerm → Option E117 := (mm117 n)
theorem mm117_ok : ∀ n, H117 (m117 n)
  | 0 => fun _ _ h => by cases h
  | n + 1 => by
    have ih := mm117_ok n
    have i117 := ih
    exact fun a0 r h => (fnY_of (p := r) (F117_ok i117) (fa117 (m117 n)) rd117_e_ok (fun p => by kernel_rfl) (ltd_of (by kernel_rfl)) (rltd_of (by kernel_rfl)) ((c117 (m117 n) a0).trans h)).2
noncomputable def r117 : GTerm → Option E117 := fun a0 => lim (fun n => m117 n a0)
theorem r117_ok : H117 r117 := fun a0 r h => by
  obtain ⟨n, hn⟩ := lim_some h
  exact (mm117_ok n) a0 r hn
noncomputable def e117 (F : Orc) : Orc := x117 r117 F
theorem e117_ok {F : Orc} (h : OrcG Tryz.prog F) : OrcG Tryz.prog (e117 F) := x117_ok r117_ok h
theorem e117_pure {F : Orc} {f : Nat} (h : PureF F f) : PureF (e117 F) f := x117_pure h
/-! ### 116: keyhole/keyholeref17.Nodes -/
abbrev E116 : Type := Int
abbrev P116_e : Type := (Int × Unit) × (Unit)
noncomputable def rb116_e : St → Option P116_e := stR 0 (slC 2 (asI .i64) slN) rsN
noncomputable def pb116_e : P116_e → St := stP 0 (fun z => [(2, .n .i64 z.1)]) (fun z => [])
noncomputable def mk116_e (z : P116_e) : E116 := z.1.1
noncomputable def pt116_e (x : E116) : St := pb116_e ((x, ()), (()))
noncomputable def rd116_e : St → Option E116 := rdC 0 [] [2] (rdM mk116_e rb116_e)
theorem rb116_e_ok (n : Nat) : RdOk 0 n rb116_e pb116_e := stR_ok (.cons (.i .i64) .nil) .nil
theorem rd116_e_ok (n : Nat) : RdOk 0 n rd116_e pt116_e := rdC_ok ((rb116_e_ok n).m mk116_e (pat' := pt116_e) fun _ => rfl)
noncomputable def o116 (x : E116) : Out := match (match outOf Tryz.prog 116 (pt116_e x) with
    | some ds => some (Out.mk (resA ds) (keepR (pt116_e x).R 0 (resA ds)) (pt116_e x).nx)
    | none => none) with
  | some o => o
  | none => ⟨.tup [], [], 0⟩
theorem fnok116 : fnOk Tryz.prog 116 := ⟨_, Tryz.func116, by kernel_rfl, by kernel_rfl⟩
noncomputable def x116 (M116 : (List GStep) → Option E116) (F : Orc) : Orc := orL 116 false (pkC (asL 134) pkN) (fun g => M116 g.1 : ((List GStep) × Unit) → Option E116) o116 F
theorem x116_pure {M : (List GStep) → Option E116} {F : Orc} {f : Nat} (h : PureF F f) : PureF (x116 M F) f := orL_pure h (fun b => by kernel_rfl)
def H116 (M : (List GStep) → Option E116) : Prop := ∀ (a0 : List GStep) (r : E116), M a0 = some r → FnY Tryz.prog 116 [.sl 134 a0] [] 0 (o116 r)
theorem x116_ok {M : (List GStep) → Option E116} (hM : H116 M) {F : Orc} (h : OrcG Tryz.prog F) : OrcG Tryz.prog (x116 M F) := orL_g (sc := scU) h scU_ok fnok116 (ca := fun g => [.sl 134 g.1]) ((.cons (.l 134) .nil) : PkN (pkC (asL 134) pkN) _) (fun b => by kernel_rfl) (fun b => by kernel_rfl) (fun g b hb => hM g.1 b hb)
noncomputable def F116 (M116 : (List GStep) → Option E116) : Orc := (e117 (x116 M116 or0))
theorem F116_ok {M116} (h116 : H116 M116) : OrcG Tryz.prog (F116 M116) := (e117_ok (x116_ok h116 or0_g))
structure L116_0 where
  t0 : List GStep
  t3 : Int
  t4 : Int
abbrev P116_0 : Type := ((List GStep) × Int × Int × Unit) × (Unit)
noncomputable def rb116_0 : St → Option P116_0 := stR 0 (slC 0 (asL 134) (slC 3 (asI .i64) (slC 4 (asI .i64) slN))) rsN
noncomputable def pb116_0 : P116_0 → St := stP 0 (fun z => [(0, .sl 134 z.1), (3, .n .i64 z.2.1), (4, .n .i64 z.2.2.1)]) (fun z => [])
noncomputable def mk116_0 (z : P116_0) : L116_0 := ⟨z.1.1, z.1.2.1, z.1.2.2.1⟩
noncomputable def pt116_0 (x : L116_0) : St := pb116_0 ((x.t0, x.t3, x.t4, ()), (()))
noncomputable def rd116_0 : St → Option L116_0 := rdC 0 [] [0, 3, 4] (rdM mk116_0 rb116_0)
theorem rb116_0_ok (n : Nat) : RdOk 0 n rb116_0 pb116_0 := stR_ok (.cons (.l 134) (.cons (.i .i64) (.cons (.i .i64) .nil))) .nil
theorem rd116_0_ok (n : Nat) : RdOk 0 n rd116_0 pt116_0 := rdC_ok ((rb116_0_ok n).m mk116_0 (pat' := pt116_0) fun _ => rfl)
noncomputable def n116_0 (M116 : (List GStep) → Option E116) (p : L116_0) : Option (Option L116_0) :=
  bif decide (p.t4 < (↑p.t0.length : Int)) then
    if (0 : Int) ≤ p.t4 ∧ p.t4 < (↑p.t0.length : Int) then
      match r117 (GTerm.mk p.t0[p.t4.toNat]!.fTerm.fOp p.t0[p.t4.toNat]!.fTerm.fN p.t0[p.t4.toNat]!.fTerm.fKids) with
      | none =>
        none
      | some r1 =>
        if (0 : Int) ≤ p.t4 ∧ p.t4 < (↑p.t0.length : Int) then
          match M116 p.t0[p.t4.toNat]!.fThen with
          | none =>
            none
          | some r2 =>
            if (0 : Int) ≤ p.t4 ∧ p.t4 < (↑p.t0.length : Int) then
              match M116 p.t0[p.t4.toNat]!.fElse with
              | none =>
                none
              | some r3 =>
                some (some (L116_0.mk p.t0 (IntKind.i64.wrap (IntKind.i64.wrap (IntKind.i64.wrap (IntKind.i64.wrap (p.t3 + 1) + r1) + r2) + r3)) (IntKind.i64.wrap (p.t4 + 1))))
            else
              none
        else
          none
    else
      none
  else
    some (none)
theorem q116_0 (M116 : (List GStep) → Option E116) (p : L116_0) : execA Tryz.prog (F116 M116) Tryz.f116.ntmps 300 (loopAt Tryz.f116 0) .no (Option L116_0) (pt116_0 p) (kOn rd116_0) = n116_0 M116 p := by kernel_rfl
noncomputable def a116_0 (M116 : (List GStep) → Option E116) : L116_0 → Option L116_0 := advG (n116_0 M116)
noncomputable def an116 (M116 : (List GStep) → Option E116) : An := (.two .no (.two .no (.two (.two .no (.lp L116_0 rd116_0 pt116_0 (a116_0 M116) .no)) .no)))
theorem fa116 (M116 : (List GStep) → Option E116) : FnAn Tryz.prog (F116 M116) 0 300 116 (an116 M116) := fnAn_of (l := [(loopAt Tryz.f116 0, (.lp L116_0 rd116_0 pt116_0 (a116_0 M116) .no))]) Tryz.func116 (bodyOf_eq (by kernel_rfl)) (by kernel_rfl) fun p hp => by
  simp only [List.mem_cons, List.not_mem_nil, or_false] at hp
  rcases hp with rfl
  · exact ⟨rd116_0_ok _, advG_ok (q116_0 M116)⟩
noncomputable def s116 (M116 : (List GStep) → Option E116) (a0 : List GStep) : Option E116 :=
  match a116_0 M116 (L116_0.mk a0 (0) (0)) with
  | none =>
    none
  | some r4 =>
    bif decide (r4.t4 < (↑r4.t0.length : Int)) then
      if (0 : Int) ≤ r4.t4 ∧ r4.t4 < (↑r4.t0.length : Int) then
        match r117 (GTerm.mk r4.t0[r4.t4.toNat]!.fTerm.fOp r4.t0[r4.t4.toNat]!.fTerm.fN r4.t0[r4.t4.toNat]!.fTerm.fKids) with
        | none =>
          none
        | some r5 =>
          if (0 : Int) ≤ r4.t4 ∧ r4.t4 < (↑r4.t0.length : Int) then
            match M116 r4.t0[r4.t4.toNat]!.fThen with
            | none =>
              none
            | some r6 =>
              if (0 : Int) ≤ r4.t4 ∧ r4.t4 < (↑r4.t0.length : Int) then
                match M116 r4.t0[r4.t4.toNat]!.fElse with
                | none =>
                  none
                | some r7 =>
                  none
              else
                none
          else
            none
      else
        none
    else
      some (r4.t3)
theorem c116 (M116 : (List GStep) → Option E116) (a0 : List GStep) : callR Tryz.prog (F116 M116) 300 (an116 M116) 116 [.sl 134 a0] [] 0 rd116_e = s116 M116 a0 := by kernel_rfl
noncomputable def mm116 : Nat → ((List GStep) → Option E116)
  | 0 => (fun _ => none)
  | n + 1 => (s116 (mm116 n))
noncomputable def m116 (n : Nat) : (List GStep) → Option E116 := (mm116 n)
theorem mm116_ok : ∀ n, H116 (m116 n)
  | 0 => fun _ _ h => by cases h
  | n + 1 => by
    have ih := mm116_ok n
    have i116 := ih
    exact fun a0 r h => (fnY_of (p := r) (F116_ok i116) (fa116 (m116 n)) rd116_e_ok (fun p => by kernel_rfl) (ltd_of (by kernel_rfl)) (rltd_of (by kernel_rfl)) ((c116 (m116 n) a0).trans h)).2
noncomputable def r116 : (List GStep) → Option E116 := fun a0 => lim (fun n => m116 n a0)
theorem r116_ok : H116 r116 := fun a0 r h => by
  obtain ⟨n, hn⟩ := lim_some h
  exact (mm116_ok n) a0 r hn
noncomputable def e116 (F : Orc) : Orc := x116 r116 F
theorem e116_ok {F : Orc} (h : OrcG Tryz.prog F) : OrcG Tryz.prog (e116 F) := x116_ok r116_ok h
theorem e116_pure {F : Orc} {f : Nat} (h : PureF F f) : PureF (e116 F) f := x116_pure h
/-! ### 118: keyhole/keyholeref17.termDepth -/
abbrev E118 : Type := Int
abbrev P118_e : Type := (Int × Unit) × (Unit)
noncomputable def rb118_e : St → Option P118_e := stR 0 (slC 2 (asI .i64) slN) rsN
noncomputable def pb118_e : P118_e → St := stP 0 (fun z => [(2, .n .i64 z.1)]) (fun z => [])
noncomputable def mk118_e (z : P118_e) : E118 := z.1.1
noncomputable def pt118_e (x : E118) : St := pb118_e ((x, ()), (()))
noncomputable def rd118_e : St → Option E118 := rdC 0 [] [2] (rdM mk118_e rb118_e)
theorem rb118_e_ok (n : Nat) : RdOk 0 n rb118_e pb118_e := stR_ok (.cons (.i .i64) .nil) .nil
theorem rd118_e_ok (n : Nat) : RdOk 0 n rd118_e pt118_e := rdC_ok ((rb118_e_ok n).m mk118_e (pat' := pt118_e) fun _ => rfl)
noncomputable def o118 (x : E118) : Out := match (match outOf Tryz.prog 118 (pt118_e x) with
    | some ds => some (Out.mk (resA ds) (keepR (pt118_e x).R 0 (resA ds)) (pt118_e x).nx)
    | none => none) with
  | some o => o
  | none => ⟨.tup [], [], 0⟩
theorem fnok118 : fnOk Tryz.prog 118 := ⟨_, Tryz.func118, by kernel_rfl, by kernel_rfl⟩
noncomputable def x118 (M118 : GTerm → Option E118) (F : Orc) : Orc := orL 118 false (pkC (asGc 97) pkN) (fun g => M118 g.1 : (GTerm × Unit) → Option E118) o118 F
theorem x118_pure {M : GTerm → Option E118} {F : Orc} {f : Nat} (h : PureF F f) : PureF (x118 M F) f := orL_pure h (fun b => by kernel_rfl)
def H118 (M : GTerm → Option E118) : Prop := ∀ (a0 : GTerm) (r : E118), M a0 = some r → FnY Tryz.prog 118 [.agg (uni.cells 97 a0)] [] 0 (o118 r)
theorem x118_ok {M : GTerm → Option E118} (hM : H118 M) {F : Orc} (h : OrcG Tryz.prog F) : OrcG Tryz.prog (x118 M F) := orL_g (sc := scU) h scU_ok fnok118 (ca := fun g => [.agg (uni.cells 97 g.1)]) ((.cons (.g 97) .nil) : PkN (pkC (asGc 97) pkN) _) (fun b => by kernel_rfl) (fun b => by kernel_rfl) (fun g b hb => hM g.1 b hb)
noncomputable def F118 (M118 : GTerm → Option E118) : Orc := (x118 M118 or0)
theorem F118_ok {M118} (h118 : H118 M118) : OrcG Tryz.prog (F118 M118) := (x118_ok h118 or0_g)
structure L118_0 where
  t3 : Int
  t4 : Int
  b0 : GTerm
abbrev P118_0 : Type := (Unit × Int × Int × Unit) × (GTerm × Unit)
noncomputable def rb118_0 : St → Option P118_0 := stR 1 (slC 1 (asP 0 0) (slC 3 (asI .i64) (slC 4 (asI .i64) slN))) (rsN2 0 97 (asCs 97) rsN)
noncomputable def pb118_0 : P118_0 → St := stP 1 (fun z => [(1, .ptr 0 0), (3, .n .i64 z.2.1), (4, .n .i64 z.2.2.1)]) (fun z => [(0, .box 97 (uni.cells 97 z.1))])
noncomputable def mk118_0 (z : P118_0) : L118_0 := ⟨z.1.2.1, z.1.2.2.1, z.2.1⟩
noncomputable def pt118_0 (x : L118_0) : St := pb118_0 (((), x.t3, x.t4, ()), (x.b0, ()))
noncomputable def rd118_0 : St → Option L118_0 := rdC 0 [] [1, 3, 4] (rdM mk118_0 rb118_0)
theorem rb118_0_ok (n : Nat) : RdOk 0 n rb118_0 pb118_0 := stR_ok (.cons (.p 0 0) (.cons (.i .i64) (.cons (.i .i64) .nil))) (.boxN (PkN.parse 97) .nil)
theorem rd118_0_ok (n : Nat) : RdOk 0 n rd118_0 pt118_0 := rdC_ok ((rb118_0_ok n).m mk118_0 (pat' := pt118_0) fun _ => rfl)
noncomputable def n118_0 (M118 : GTerm → Option E118) (p : L118_0) : Option (Option L118_0) :=
  bif decide (p.t4 < (↑p.b0.fKids.length : Int)) then
    if (0 : Int) ≤ p.t4 ∧ p.t4 < (↑p.b0.fKids.length : Int) then
      match M118 (GTerm.mk p.b0.fKids[p.t4.toNat]!.fOp p.b0.fKids[p.t4.toNat]!.fN p.b0.fKids[p.t4.toNat]!.fKids) with
      | none =>
        none
      | some r1 =>
        bif decide (p.t3 < r1) then
          some (some (L118_0.mk r1 (IntKind.i64.wrap (p.t4 + 1)) (GTerm.mk p.b0.fOp p.b0.fN p.b0.fKids)))
        else
          some (some (L118_0.mk p.t3 (IntKind.i64.wrap (p.t4 + 1)) (GTerm.mk p.b0.fOp p.b0.fN p.b0.fKids)))
    else
      none
  else
    some (none)
theorem q118_0 (M118 : GTerm → Option E118) (p : L118_0) : execA Tryz.prog (F118 M118) Tryz.f118.ntmps 300 (loopAt Tryz.f118 0) .no (Option L118_0) (pt118_0 p) (kOn rd118_0) = n118_0 M118 p := by kernel_rfl
noncomputable def a118_0 (M118 : GTerm → Option E118) : L118_0 → Option L118_0 := advG (n118_0 M118)
noncomputable def an118 (M118 : GTerm → Option E118) : An := (.two .no (.two .no (.two (.two .no (.lp L118_0 rd118_0 pt118_0 (a118_0 M118) .no)) .no)))
theorem fa118 (M118 : GTerm → Option E118) : FnAn Tryz.prog (F118 M118) 0 300 118 (an118 M118) := fnAn_of (l := [(loopAt Tryz.f118 0, (.lp L118_0 rd118_0 pt118_0 (a118_0 M118) .no))]) Tryz.func118 (bodyOf_eq (by kernel_rfl)) (by kernel_rfl) fun p hp => by
  simp only [List.mem_cons, List.not_mem_nil, or_false] at hp
  rcases hp with rfl
  · exact ⟨rd118_0_ok _, advG_ok (q118_0 M118)⟩
noncomputable def s118 (M118 : GTerm → Option E118) (a0 : GTerm) : Option E118 :=
  match a118_0 M118 (L118_0.mk (0) (0) (GTerm.mk a0.fOp a0.fN a0.fKids)) with
  | none =>
    none
  | some r2 =>
    bif decide (r2.t4 < (↑r2.b0.fKids.length : Int)) then
      if (0 : Int) ≤ r2.t4 ∧ r2.t4 < (↑r2.b0.fKids.length : Int) then
        match M118 (GTerm.mk r2.b0.fKids[r2.t4.toNat]!.fOp r2.b0.fKids[r2.t4.toNat]!.fN r2.b0.fKids[r2.t4.toNat]!.fKids) with
        | none =>
          none
        | some r3 =>
          bif decide (r2.t3 < r3) then
            none
          else
            none
      else
        none
    else
      some (IntKind.i64.wrap (r2.t3 + 1))
theorem c118 (M118 : GTerm → Option E118) (a0 : GTerm) : callR Tryz.prog (F118 M118) 300 (an118 M118) 118 [.agg (uni.cells 97 a0)] [] 0 rd118_e = s118 M118 a0 := by kernel_rfl
noncomputable def mm118 : Nat → (GTerm → Option E118)
  | 0 => (fun _ => none)
  | n + 1 => (s118 (mm118 n))
noncomputable def m118 (n : Nat) : GTerm → Option E118 := (mm118 n)
theorem mm118_ok : ∀ n, H118 (m118 n)
  | 0 => fun _ _ h => by cases h
  | n + 1 => by
    have ih := mm118_ok n
    have i118 := ih
    exact fun a0 r h => (fnY_of (p := r) (F118_ok i118) (fa118 (m118 n)) rd118_e_ok (fun p => by kernel_rfl) (ltd_of (by kernel_rfl)) (rltd_of (by kernel_rfl)) ((c118 (m118 n) a0).trans h)).2
noncomputable def r118 : GTerm → Option E118 := fun a0 => lim (fun n => m118 n a0)
theorem r118_ok : H118 r118 := fun a0 r h => by
  obtain ⟨n, hn⟩ := lim_some h
  exact (mm118_ok n) a0 r hn
noncomputable def e118 (F : Orc) : Orc := x118 r118 F
theorem e118_ok {F : Orc} (h : OrcG Tryz.prog F) : OrcG Tryz.prog (e118 F) := x118_ok r118_ok h
theorem e118_pure {F : Orc} {f : Nat} (h : PureF F f) : PureF (e118 F) f := x118_pure h
/-! ### 119: keyhole/keyholeref17.stepDepth -/
abbrev E119 : Type := Int
abbrev P119_e : Type := (Int × Unit) × (Unit)
noncomputable def rb119_e : St → Option P119_e := stR 0 (slC 2 (asI .i64) slN) rsN
noncomputable def pb119_e : P119_e → St := stP 0 (fun z => [(2, .n .i64 z.1)]) (fun z => [])
noncomputable def mk119_e (z : P119_e) : E119 := z.1.1
noncomputable def pt119_e (x : E119) : St := pb119_e ((x, ()), (()))
noncomputable def rd119_e : St → Option E119 := rdC 0 [] [2] (rdM mk119_e rb119_e)
theorem rb119_e_ok (n : Nat) : RdOk 0 n rb119_e pb119_e := stR_ok (.cons (.i .i64) .nil) .nil
theorem rd119_e_ok (n : Nat) : RdOk 0 n rd119_e pt119_e := rdC_ok ((rb119_e_ok n).m mk119_e (pat' := pt119_e) fun _ => rfl)
noncomputable def o119 (x : E119) : Out := match (match outOf Tryz.prog 119 (pt119_e x) with
    | some ds => some (Out.mk (resA ds) (keepR (pt119_e x).R 0 (resA ds)) (pt119_e x).nx)
    | none => none) with
  | some o => o
  | none => ⟨.tup [], [], 0⟩
theorem fnok119 : fnOk Tryz.prog 119 := ⟨_, Tryz.func119, by kernel_rfl, by kernel_rfl⟩
noncomputable def x119 (M119 : (List GStep) → Option E119) (F : Orc) : Orc := orL 119 false (pkC (asL 134) pkN) (fun g => M119 g.1 : ((List GStep) × Unit) → Option E119) o119 F
theorem x119_pure {M : (List GStep) → Option E119} {F : Orc} {f : Nat} (h : PureF F f) : PureF (x119 M F) f := orL_pure h (fun b => by kernel_rfl)
def H119 (M : (List GStep) → Option E119) : Prop := ∀ (a0 : List GStep) (r : E119), M a0 = some r → FnY Tryz.prog 119 [.sl 134 a0] [] 0 (o119 r)
theorem x119_ok {M : (List GStep) → Option E119} (hM : H119 M) {F : Orc} (h : OrcG Tryz.prog F) : OrcG Tryz.prog (x119 M F) := orL_g (sc := scU) h scU_ok fnok119 (ca := fun g => [.sl 134 g.1]) ((.cons (.l 134) .nil) : PkN (pkC (asL 134) pkN) _) (fun b => by kernel_rfl) (fun b => by kernel_rfl) (fun g b hb => hM g.1 b hb)
noncomputable def F119 (M119 : (List GStep) → Option E119) : Orc := (x119 M119 or0)
theorem F119_ok {M119} (h119 : H119 M119) : OrcG Tryz.prog (F119 M119) := (x119_ok h119 or0_g)
structure L119_0 where
  t0 : List GStep
  t3 : Int
  t4 : Int
abbrev P119_0 : Type := ((List GStep) × Int × Int × Unit) × (Unit)
noncomputable def rb119_0 : St → Option P119_0 := stR 0 (slC 0 (asL 134) (slC 3 (asI .i64) (slC 4 (asI .i64) slN))) rsN
noncomputable def pb119_0 : P119_0 → St := stP 0 (fun z => [(0, .sl 134 z.1), (3, .n .i64 z.2.1), (4, .n .i64 z.2.2.1)]) (fun z => [])
noncomputable def mk119_0 (z : P119_0) : L119_0 := ⟨z.1.1, z.1.2.1, z.1.2.2.1⟩
noncomputable def pt119_0 (x : L119_0) : St := pb119_0 ((x.t0, x.t3, x.t4, ()), (()))
noncomputable def rd119_0 : St → Option L119_0 := rdC 0 [] [0, 3, 4] (rdM mk119_0 rb119_0)
theorem rb119_0_ok (n : Nat) : RdOk 0 n rb119_0 pb119_0 := stR_ok (.cons (.l 134) (.cons (.i .i64) (.cons (.i .i64) .nil))) .nil
theorem rd119_0_ok (n : Nat) : RdOk 0 n rd119_0 pt119_0 := rdC_ok ((rb119_0_ok n).m mk119_0 (pat' := pt119_0) fun _ => rfl)
noncomputable def n119_0 (M119 : (List GStep) → Option E119) (p : L119_0) : Option (Option L119_0) :=
  bif decide (p.t4 < (↑p.t0.length : Int)) then
    if (0 : Int) ≤ p.t4 ∧ p.t4 < (↑p.t0.length : Int) then
      match M119 p.t0[p.t4.toNat]!.fThen with
      | none =>
        none
      | some r1 =>
        if (0 : Int) ≤ p.t4 ∧ p.t4 < (↑p.t0.length : Int) then
          match M119 p.t0[p.t4.toNat]!.fElse with
          | none =>
            none
          | some r2 =>
            bif decide (p.t3 < IntKind.i64.wrap (r1 + 1)) then
              bif decide (IntKind.i64.wrap (r1 + 1) < IntKind.i64.wrap (r2 + 1)) then
                some (some (L119_0.mk p.t0 (IntKind.i64.wrap (r2 + 1)) (IntKind.i64.wrap (p.t4 + 1))))
              else
                some (some (L119_0.mk p.t0 (IntKind.i64.wrap (r1 + 1)) (IntKind.i64.wrap (p.t4 + 1))))
            else
              bif decide (p.t3 < IntKind.i64.wrap (r2 + 1)) then
                some (some (L119_0.mk p.t0 (IntKind.i64.wrap (r2 + 1)) (IntKind.i64.wrap (p.t4 + 1))))
              else
                some (some (L119_0.mk p.t0 p.t3 (IntKind.i64.wrap (p.t4 + 1))))
        else
          none
    else
      none
  else
    some (none)
theorem q119_0 (M119 : (List GStep) → Option E119) (p : L119_0) : execA Tryz.prog (F119 M119) Tryz.f119.ntmps 300 (loopAt Tryz.f119 0) .no (Option L119_0) (pt119_0 p) (kOn rd119_0) = n119_0 M119 p := by kernel_rfl
noncomputable def a119_0 (M119 : (List GStep) → Option E119) : L119_0 → Option L119_0 := advG (n119_0 M119)
noncomputable def an119 (M119 : (List GStep) → Option E119) : An := (.two .no (.two .no (.two (.two .no (.lp L119_0 rd119_0 pt119_0 (a119_0 M119) .no)) .no)))
theorem fa119 (M119 : (List GStep) → Option E119) : FnAn Tryz.prog (F119 M119) 0 300 119 (an119 M119) := fnAn_of (l := [(loopAt Tryz.f119 0, (.lp L119_0 rd119_0 pt119_0 (a119_0 M119) .no))]) Tryz.func119 (bodyOf_eq (by kernel_rfl)) (by kernel_rfl) fun p hp => by
  simp only [List.mem_cons, List.not_mem_nil, or_false] at hp
  rcases hp with rfl
  · exact ⟨rd119_0_ok _, advG_ok (q119_0 M119)⟩
noncomputable def s119 (M119 : (List GStep) → Option E119) (a0 : List GStep) : Option E119 :=
  match a119_0 M119 (L119_0.mk a0 (0) (0)) with
  | none =>
    none
  | some r3 =>
    bif decide (r3.t4 < (↑r3.t0.length : Int)) then
      if (0 : Int) ≤ r3.t4 ∧ r3.t4 < (↑r3.t0.length : Int) then
        match M119 r3.t0[r3.t4.toNat]!.fThen with
        | none =>
          none
        | some r4 =>
          if (0 : Int) ≤ r3.t4 ∧ r3.t4 < (↑r3.t0.length : Int) then
            match M119 r3.t0[r3.t4.toNat]!.fElse with
            | none =>
              none
            | some r5 =>
              bif decide (r3.t3 < IntKind.i64.wrap (r4 + 1)) then
                bif decide (IntKind.i64.wrap (r4 + 1) < IntKind.i64.wrap (r5 + 1)) then
                  none
                else
                  none
              else
                bif decide (r3.t3 < IntKind.i64.wrap (r5 + 1)) then
                  none
                else
                  none
          else
            none
      else
        none
    else
      some (r3.t3)
theorem c119 (M119 : (List GStep) → Option E119) (a0 : List GStep) : callR Tryz.prog (F119 M119) 300 (an119 M119) 119 [.sl 134 a0] [] 0 rd119_e = s119 M119 a0 := by kernel_rfl
noncomputable def mm119 : Nat → ((List GStep) → Option E119)
  | 0 => (fun _ => none)
  | n + 1 => (s119 (mm119 n))
noncomputable def m119 (n : Nat) : (List GStep) → Option E119 := (mm119 n)
theorem mm119_ok : ∀ n, H119 (m119 n)
  | 0 => fun _ _ h => by cases h
  | n + 1 => by
    have ih := mm119_ok n
    have i119 := ih
    exact fun a0 r h => (fnY_of (p := r) (F119_ok i119) (fa119 (m119 n)) rd119_e_ok (fun p => by kernel_rfl) (ltd_of (by kernel_rfl)) (rltd_of (by kernel_rfl)) ((c119 (m119 n) a0).trans h)).2
noncomputable def r119 : (List GStep) → Option E119 := fun a0 => lim (fun n => m119 n a0)
theorem r119_ok : H119 r119 := fun a0 r h => by
  obtain ⟨n, hn⟩ := lim_some h
  exact (mm119_ok n) a0 r hn
noncomputable def e119 (F : Orc) : Orc := x119 r119 F
theorem e119_ok {F : Orc} (h : OrcG Tryz.prog F) : OrcG Tryz.prog (e119 F) := x119_ok r119_ok h
theorem e119_pure {F : Orc} {f : Nat} (h : PureF F f) : PureF (e119 F) f := x119_pure h
/-! ### 120: keyhole/keyholeref17.termsDeep -/
abbrev E120 : Type := Bool
abbrev P120_e : Type := (Bool × Unit) × (Unit)
noncomputable def rb120_e : St → Option P120_e := stR 0 (slC 2 asB slN) rsN
noncomputable def pb120_e : P120_e → St := stP 0 (fun z => [(2, .b z.1)]) (fun z => [])
noncomputable def mk120_e (z : P120_e) : E120 := z.1.1
noncomputable def pt120_e (x : E120) : St := pb120_e ((x, ()), (()))
noncomputable def rd120_e : St → Option E120 := rdC 0 [] [2] (rdM mk120_e rb120_e)
theorem rb120_e_ok (n : Nat) : RdOk 0 n rb120_e pb120_e := stR_ok (.cons .b .nil) .nil
theorem rd120_e_ok (n : Nat) : RdOk 0 n rd120_e pt120_e := rdC_ok ((rb120_e_ok n).m mk120_e (pat' := pt120_e) fun _ => rfl)
noncomputable def o120 (x : E120) : Out := match (match outOf Tryz.prog 120 (pt120_e x) with
    | some ds => some (Out.mk (resA ds) (keepR (pt120_e x).R 0 (resA ds)) (pt120_e x).nx)
    | none => none) with
  | some o => o
  | none => ⟨.tup [], [], 0⟩
theorem fnok120 : fnOk Tryz.prog 120 := ⟨_, Tryz.func120, by kernel_rfl, by kernel_rfl⟩
noncomputable def x120 (M120 : (List GStep) → Option E120) (F : Orc) : Orc := orL 120 false (pkC (asL 134) pkN) (fun g => M120 g.1 : ((List GStep) × Unit) → Option E120) o120 F
theorem x120_pure {M : (List GStep) → Option E120} {F : Orc} {f : Nat} (h : PureF F f) : PureF (x120 M F) f := orL_pure h (fun b => by kernel_rfl)
def H120 (M : (List GStep) → Option E120) : Prop := ∀ (a0 : List GStep) (r : E120), M a0 = some r → FnY Tryz.prog 120 [.sl 134 a0] [] 0 (o120 r)
theorem x120_ok {M : (List GStep) → Option E120} (hM : H120 M) {F : Orc} (h : OrcG Tryz.prog F) : OrcG Tryz.prog (x120 M F) := orL_g (sc := scU) h scU_ok fnok120 (ca := fun g => [.sl 134 g.1]) ((.cons (.l 134) .nil) : PkN (pkC (asL 134) pkN) _) (fun b => by kernel_rfl) (fun b => by kernel_rfl) (fun g b hb => hM g.1 b hb)
noncomputable def F120 (M120 : (List GStep) → Option E120) : Orc := (x120 M120 (e118 or0))
theorem F120_ok {M120} (h120 : H120 M120) : OrcG Tryz.prog (F120 M120) := (x120_ok h120 (e118_ok or0_g))
structure L120_0 where
  t0 : List GStep
  t3 : Int
abbrev P120_0 : Type := ((List GStep) × Int × Unit) × (Unit)
noncomputable def rb120_0 : St → Option P120_0 := stR 0 (slC 0 (asL 134) (slC 3 (asI .i64) slN)) rsN
noncomputable def pb120_0 : P120_0 → St := stP 0 (fun z => [(0, .sl 134 z.1), (3, .n .i64 z.2.1)]) (fun z => [])
noncomputable def mk120_0 (z : P120_0) : L120_0 := ⟨z.1.1, z.1.2.1⟩
noncomputable def pt120_0 (x : L120_0) : St := pb120_0 ((x.t0, x.t3, ()), (()))
noncomputable def rd120_0 : St → Option L120_0 := rdC 0 [] [0, 3] (rdM mk120_0 rb120_0)
theorem rb120_0_ok (n : Nat) : RdOk 0 n rb120_0 pb120_0 := stR_ok (.cons (.l 134) (.cons (.i .i64) .nil)) .nil
theorem rd120_0_ok (n : Nat) : RdOk 0 n rd120_0 pt120_0 := rdC_ok ((rb120_0_ok n).m mk120_0 (pat' := pt120_0) fun _ => rfl)
noncomputable def n120_0 (M120 : (List GStep) → Option E120) (p : L120_0) : Option (Option L120_0) :=
  bif decide (p.t3 < (↑p.t0.length : Int)) then
    match if 0 ≤ p.t3 ∧ p.t3 < (↑p.t0.length : Int) then
      match r118 (GTerm.mk p.t0[p.t3.toNat]!.fTerm.fOp p.t0[p.t3.toNat]!.fTerm.fN p.t0[p.t3.toNat]!.fTerm.fKids) with
      | none =>
        none
      | some r1 =>
        bif decide (12 < r1) then
          some (true)
        else
          if (0 : Int) ≤ p.t3 ∧ p.t3 < (↑p.t0.length : Int) then
            match M120 p.t0[p.t3.toNat]!.fThen with
            | none =>
              none
            | some r2 =>
              bif r2 then
                some (true)
              else
                if (0 : Int) ≤ p.t3 ∧ p.t3 < (↑p.t0.length : Int) then
                  match M120 p.t0[p.t3.toNat]!.fElse with
                  | none =>
                    none
                  | some r3 =>
                    some (r3)
                else
                  none
          else
            none
    else
      none with
    | none =>
      none
    | some r4 =>
      bif r4 then
        some (none)
      else
        some (some (L120_0.mk p.t0 (IntKind.i64.wrap (p.t3 + 1))))
  else
    some (none)
theorem q120_0 (M120 : (List GStep) → Option E120) (p : L120_0) : execA Tryz.prog (F120 M120) Tryz.f120.ntmps 300 (loopAt Tryz.f120 0) (.two .no (.two (.two (.rb [118, 120] 32) .no) .no)) (Option L120_0) (pt120_0 p) (kOn rd120_0) = n120_0 M120 p := by kernel_rfl
noncomputable def a120_0 (M120 : (List GStep) → Option E120) : L120_0 → Option L120_0 := advG (n120_0 M120)
noncomputable def an120 (M120 : (List GStep) → Option E120) : An := (.two .no (.two (.two .no (.lp L120_0 rd120_0 pt120_0 (a120_0 M120) (.two .no (.two (.two (.rb [118, 120] 32) .no) .no)))) .no))
theorem pu120 {M120} : ∀ f ∈ ([118, 120] : List Nat), PureF (F120 M120) f := fun f hf => by
  simp only [List.mem_cons, List.not_mem_nil, or_false] at hf
  rcases hf with rfl | rfl
  · exact (x120_pure (e118_pure or0_pure))
  · exact (x120_pure (e118_pure or0_pure))
theorem fa120 (M120 : (List GStep) → Option E120) : FnAn Tryz.prog (F120 M120) 0 300 120 (an120 M120) := fnAn_of (l := [(loopAt Tryz.f120 0, (.lp L120_0 rd120_0 pt120_0 (a120_0 M120) (.two .no (.two (.two (.rb [118, 120] 32) .no) .no)))), (.skip, (.rb [118, 120] 32))]) Tryz.func120 (bodyOf_eq (by kernel_rfl)) (by kernel_rfl) fun p hp => by
  simp only [List.mem_cons, List.not_mem_nil, or_false] at hp
  rcases hp with rfl | rfl
  · exact ⟨rd120_0_ok _, advG_ok (q120_0 M120)⟩
  · exact pu120
noncomputable def s120 (M120 : (List GStep) → Option E120) (a0 : List GStep) : Option E120 :=
  match a120_0 M120 (L120_0.mk a0 (0)) with
  | none =>
    none
  | some r5 =>
    bif decide (r5.t3 < (↑r5.t0.length : Int)) then
      match if 0 ≤ r5.t3 ∧ r5.t3 < (↑r5.t0.length : Int) then
        match r118 (GTerm.mk r5.t0[r5.t3.toNat]!.fTerm.fOp r5.t0[r5.t3.toNat]!.fTerm.fN r5.t0[r5.t3.toNat]!.fTerm.fKids) with
        | none =>
          none
        | some r6 =>
          bif decide (12 < r6) then
            some (true)
          else
            if (0 : Int) ≤ r5.t3 ∧ r5.t3 < (↑r5.t0.length : Int) then
              match M120 r5.t0[r5.t3.toNat]!.fThen with
              | none =>
                none
              | some r7 =>
                bif r7 then
                  some (true)
                else
                  if (0 : Int) ≤ r5.t3 ∧ r5.t3 < (↑r5.t0.length : Int) then
                    match M120 r5.t0[r5.t3.toNat]!.fElse with
                    | none =>
                      none
                    | some r8 =>
                      some (r8)
                  else
                    none
            else
              none
      else
        none with
      | none =>
        none
      | some r9 =>
        bif r9 then
          some (true)
        else
          none
    else
      some (false)
theorem c120 (M120 : (List GStep) → Option E120) (a0 : List GStep) : callR Tryz.prog (F120 M120) 300 (an120 M120) 120 [.sl 134 a0] [] 0 rd120_e = s120 M120 a0 := by kernel_rfl
noncomputable def mm120 : Nat → ((List GStep) → Option E120)
  | 0 => (fun _ => none)
  | n + 1 => (s120 (mm120 n))
noncomputable def m120 (n : Nat) : (List GStep) → Option E120 := (mm120 n)
theorem mm120_ok : ∀ n, H120 (m120 n)
  | 0 => fun _ _ h => by cases h
  | n + 1 => by
    have ih := mm120_ok n
    have i120 := ih
    exact fun a0 r h => (fnY_of (p := r) (F120_ok i120) (fa120 (m120 n)) rd120_e_ok (fun p => by kernel_rfl) (ltd_of (by kernel_rfl)) (rltd_of (by kernel_rfl)) ((c120 (m120 n) a0).trans h)).2
noncomputable def r120 : (List GStep) → Option E120 := fun a0 => lim (fun n => m120 n a0)
theorem r120_ok : H120 r120 := fun a0 r h => by
  obtain ⟨n, hn⟩ := lim_some h
  exact (mm120_ok n) a0 r hn
noncomputable def e120 (F : Orc) : Orc := x120 r120 F
theorem e120_ok {F : Orc} (h : OrcG Tryz.prog F) : OrcG Tryz.prog (e120 F) := x120_ok r120_ok h
theorem e120_pure {F : Orc} {f : Nat} (h : PureF F f) : PureF (e120 F) f := x120_pure h
/-! ### 58: keyhole/keyholeref17.sizes -/
noncomputable def F58 : Orc := (e120 (e119 (e118 (e117 (e116 or0)))))
theorem F58_ok : OrcG Tryz.prog F58 := (e120_ok (e119_ok (e118_ok (e117_ok (e116_ok or0_g)))))
structure L58_0 where
  t3 : Int
  t4 : Int
  b0 : Flat
abbrev P58_0 : Type := (Unit × Int × Int × Unit) × (Flat × Unit)
noncomputable def rb58_0 : St → Option P58_0 := stR 1 (slC 1 (asP 0 0) (slC 3 (asI .i64) (slC 4 (asI .i64) slN))) (rsN2 0 26 (asCs 26) rsN)
noncomputable def pb58_0 : P58_0 → St := stP 1 (fun z => [(1, .ptr 0 0), (3, .n .i64 z.2.1), (4, .n .i64 z.2.2.1)]) (fun z => [(0, .box 26 (uni.cells 26 z.1))])
noncomputable def mk58_0 (z : P58_0) : L58_0 := ⟨z.1.2.1, z.1.2.2.1, z.2.1⟩
noncomputable def pt58_0 (x : L58_0) : St := pb58_0 (((), x.t3, x.t4, ()), (x.b0, ()))
noncomputable def rd58_0 : St → Option L58_0 := rdC 0 [] [1, 3, 4] (rdM mk58_0 rb58_0)
theorem rb58_0_ok (n : Nat) : RdOk 0 n rb58_0 pb58_0 := stR_ok (.cons (.p 0 0) (.cons (.i .i64) (.cons (.i .i64) .nil))) (.boxN (PkN.parse 26) .nil)
theorem rd58_0_ok (n : Nat) : RdOk 0 n rd58_0 pt58_0 := rdC_ok ((rb58_0_ok n).m mk58_0 (pat' := pt58_0) fun _ => rfl)
noncomputable def n58_0 (p : L58_0) : Option (Option L58_0) :=
  bif decide (p.t4 < (↑p.b0.fHatches.length : Int)) then
    if (0 : Int) ≤ p.t4 ∧ p.t4 < (↑p.b0.fHatches.length : Int) then
      match r117 (GTerm.mk p.b0.fHatches[p.t4.toNat]!.fTerm.fOp p.b0.fHatches[p.t4.toNat]!.fTerm.fN p.b0.fHatches[p.t4.toNat]!.fTerm.fKids) with
      | none =>
        none
      | some r1 =>
        if (0 : Int) ≤ p.t4 ∧ p.t4 < (↑p.b0.fHatches.length : Int) then
          match r118 (GTerm.mk p.b0.fHatches[p.t4.toNat]!.fTerm.fOp p.b0.fHatches[p.t4.toNat]!.fTerm.fN p.b0.fHatches[p.t4.toNat]!.fTerm.fKids) with
          | none =>
            none
          | some r2 =>
            bif decide (12 < r2) then
              some (none)
            else
              some (some (L58_0.mk (IntKind.i64.wrap (p.t3 + r1)) (IntKind.i64.wrap (p.t4 + 1)) p.b0))
        else
          none
    else
      none
  else
    some (none)
theorem q58_0 (p : L58_0) : execA Tryz.prog (F58) Tryz.f58.ntmps 300 (loopAt Tryz.f58 0) .no (Option L58_0) (pt58_0 p) (kOn rd58_0) = n58_0 p := by kernel_rfl
noncomputable def a58_0 : L58_0 → Option L58_0 := advG (n58_0)
abbrev E58 : Type := Bool
abbrev P58_e : Type := (Bool × Unit) × (Unit)
noncomputable def rb58_e : St → Option P58_e := stR 0 (slC 2 asB slN) rsN
noncomputable def pb58_e : P58_e → St := stP 0 (fun z => [(2, .b z.1)]) (fun z => [])
noncomputable def mk58_e (z : P58_e) : E58 := z.1.1
noncomputable def pt58_e (x : E58) : St := pb58_e ((x, ()), (()))
noncomputable def rd58_e : St → Option E58 := rdC 0 [] [2] (rdM mk58_e rb58_e)
theorem rb58_e_ok (n : Nat) : RdOk 0 n rb58_e pb58_e := stR_ok (.cons .b .nil) .nil
theorem rd58_e_ok (n : Nat) : RdOk 0 n rd58_e pt58_e := rdC_ok ((rb58_e_ok n).m mk58_e (pat' := pt58_e) fun _ => rfl)
noncomputable def an58 : An := (.two .no (.two (.two (.rb [119, 120] 14) .no) (.two .no (.two (.two .no (.lp L58_0 rd58_0 pt58_0 a58_0 .no)) (.two (.rb [119, 120] 2) .no)))))
theorem pu58  : ∀ f ∈ ([119, 120] : List Nat), PureF (F58) f := fun f hf => by
  simp only [List.mem_cons, List.not_mem_nil, or_false] at hf
  rcases hf with rfl | rfl
  · exact (e120_pure (e119_pure (e118_pure (e117_pure (e116_pure or0_pure)))))
  · exact (e120_pure (e119_pure (e118_pure (e117_pure (e116_pure or0_pure)))))
theorem fa58 : FnAn Tryz.prog (F58) 0 300 58 (an58) := fnAn_of (l := [(.skip, (.rb [119, 120] 14)), (loopAt Tryz.f58 0, (.lp L58_0 rd58_0 pt58_0 a58_0 .no)), (.skip, (.rb [119, 120] 2))]) Tryz.func58 (bodyOf_eq (by kernel_rfl)) (by kernel_rfl) fun p hp => by
  simp only [List.mem_cons, List.not_mem_nil, or_false] at hp
  rcases hp with rfl | rfl | rfl
  · exact pu58
  · exact ⟨rd58_0_ok _, advG_ok (q58_0)⟩
  · exact pu58
noncomputable def m58 (a0 : Flat) : Option E58 :=
  match bif decide (64 < (↑a0.fVars.length : Int)) then
    some (true)
  else
    some (decide (8 < (↑a0.fHatches.length : Int))) with
  | none =>
    none
  | some r3 =>
    bif r3 then
      some (false)
    else
      match r116 a0.fBody with
      | none =>
        none
      | some r4 =>
        match a58_0 (L58_0.mk r4 (0) a0) with
        | none =>
          none
        | some r5 =>
          bif decide (r5.t4 < (↑r5.b0.fHatches.length : Int)) then
            if (0 : Int) ≤ r5.t4 ∧ r5.t4 < (↑r5.b0.fHatches.length : Int) then
              match r117 (GTerm.mk r5.b0.fHatches[r5.t4.toNat]!.fTerm.fOp r5.b0.fHatches[r5.t4.toNat]!.fTerm.fN r5.b0.fHatches[r5.t4.toNat]!.fTerm.fKids) with
              | none =>
                none
              | some r6 =>
                if (0 : Int) ≤ r5.t4 ∧ r5.t4 < (↑r5.b0.fHatches.length : Int) then
                  match r118 (GTerm.mk r5.b0.fHatches[r5.t4.toNat]!.fTerm.fOp r5.b0.fHatches[r5.t4.toNat]!.fTerm.fN r5.b0.fHatches[r5.t4.toNat]!.fTerm.fKids) with
                  | none =>
                    none
                  | some r7 =>
                    bif decide (12 < r7) then
                      some (false)
                    else
                      none
                else
                  none
            else
              none
          else
            match bif decide (r5.t3 ≤ 1024) then
              match r119 r5.b0.fBody with
              | none =>
                none
              | some r8 =>
                bif decide (r8 ≤ 12) then
                  match r120 r5.b0.fBody with
                  | none =>
                    none
                  | some r9 =>
                    some (bif r9 then false else true)
                else
                  some (false)
            else
              some (false) with
            | none =>
              none
            | some r10 =>
              some (r10)
theorem c58 (a0 : Flat) : callR Tryz.prog (F58) 300 (an58) 58 [.agg (uni.cells 26 a0)] [] 0 rd58_e = m58 a0 := by kernel_rfl
noncomputable def o58 (x : E58) : Out := match (match outOf Tryz.prog 58 (pt58_e x) with
    | some ds => some (Out.mk (resA ds) (keepR (pt58_e x).R 0 (resA ds)) (pt58_e x).nx)
    | none => none) with
  | some o => o
  | none => ⟨.tup [], [], 0⟩
theorem fn58 (a0 : Flat) (r : E58) (h : m58 a0 = some r) : fnOk Tryz.prog 58 ∧ FnY Tryz.prog 58 [.agg (uni.cells 26 a0)] [] 0 (o58 r) :=
  fnY_of (p := r) F58_ok (fa58) rd58_e_ok (fun p => by kernel_rfl) (ltd_of (by kernel_rfl)) (rltd_of (by kernel_rfl)) ((c58 a0).trans h)
theorem fnok58 : fnOk Tryz.prog 58 := ⟨_, Tryz.func58, by kernel_rfl, by kernel_rfl⟩
noncomputable def e58 (F : Orc) : Orc := orL 58 false (pkC (asGc 26) pkN) (fun g => m58 g.1 : (Flat × Unit) → Option E58) o58 F
theorem e58_ok {F : Orc} (h : OrcG Tryz.prog F) : OrcG Tryz.prog (e58 F) := orL_g (sc := scU) h scU_ok fnok58 (ca := fun g => [.agg (uni.cells 26 g.1)]) ((.cons (.g 26) .nil) : PkN (pkC (asGc 26) pkN) _) (fun b => by kernel_rfl) (fun b => by kernel_rfl) (fun g b hb => (fn58 g.1 b hb).2)
theorem e58_pure {F : Orc} {f : Nat} (h : PureF F f) : PureF (e58 F) f := orL_pure h (fun b => by kernel_rfl)
/-! ### 60: keyhole/keyholeref17.isName -/
noncomputable def F60 : Orc := or0
theorem F60_ok : OrcG Tryz.prog F60 := or0_g
structure L60_0 where
  t0 : ByteArray
  t3 : Int
abbrev P60_0 : Type := (ByteArray × Int × Unit) × (Unit)
noncomputable def rb60_0 : St → Option P60_0 := stR 0 (slC 0 asS (slC 3 (asI .i64) slN)) rsN
noncomputable def pb60_0 : P60_0 → St := stP 0 (fun z => [(0, .s z.1), (3, .n .i64 z.2.1)]) (fun z => [])
noncomputable def mk60_0 (z : P60_0) : L60_0 := ⟨z.1.1, z.1.2.1⟩
noncomputable def pt60_0 (x : L60_0) : St := pb60_0 ((x.t0, x.t3, ()), (()))
noncomputable def rd60_0 : St → Option L60_0 := rdC 0 [] [0, 3] (rdM mk60_0 rb60_0)
theorem rb60_0_ok (n : Nat) : RdOk 0 n rb60_0 pb60_0 := stR_ok (.cons .s (.cons (.i .i64) .nil)) .nil
theorem rd60_0_ok (n : Nat) : RdOk 0 n rd60_0 pt60_0 := rdC_ok ((rb60_0_ok n).m mk60_0 (pat' := pt60_0) fun _ => rfl)
noncomputable def n60_0 (p : L60_0) : Option (Option L60_0) :=
  bif decide (p.t3 < (↑p.t0.size : Int)) then
    if (0 : Int) ≤ p.t3 ∧ p.t3 < (↑p.t0.size : Int) then
      match bif decide (97 ≤ byteAt p.t0 p.t3.toNat) then
        some (decide (byteAt p.t0 p.t3.toNat ≤ 122))
      else
        some (false) with
      | none =>
        none
      | some r1 =>
        match bif decide (48 ≤ byteAt p.t0 p.t3.toNat) then
          bif decide (byteAt p.t0 p.t3.toNat ≤ 57) then
            some (true)
          else
            bif decide (byteAt p.t0 p.t3.toNat = 46) then
              some (true)
            else
              some (decide (byteAt p.t0 p.t3.toNat = 95))
        else
          bif decide (byteAt p.t0 p.t3.toNat = 46) then
            some (true)
          else
            some (decide (byteAt p.t0 p.t3.toNat = 95)) with
        | none =>
          none
        | some r2 =>
          match bif bif r1 then false else true then
            bif decide (p.t3 = 0) then
              some (true)
            else
              some (bif r2 then false else true)
          else
            some (false) with
          | none =>
            none
          | some r3 =>
            bif r3 then
              some (none)
            else
              some (some (L60_0.mk p.t0 (IntKind.i64.wrap (p.t3 + 1))))
    else
      none
  else
    some (none)
theorem q60_0 (p : L60_0) : execA Tryz.prog (F60) Tryz.f60.ntmps 300 (loopAt Tryz.f60 0) (.two .no (.two (.two .no (.two (.rb [] 5) (.two (.rb [] 6) (.two (.rb [] 53) .no)))) .no)) (Option L60_0) (pt60_0 p) (kOn rd60_0) = n60_0 p := by kernel_rfl
noncomputable def a60_0 : L60_0 → Option L60_0 := advG (n60_0)
abbrev E60 : Type := Bool
abbrev P60_e : Type := (Bool × Unit) × (Unit)
noncomputable def rb60_e : St → Option P60_e := stR 0 (slC 2 asB slN) rsN
noncomputable def pb60_e : P60_e → St := stP 0 (fun z => [(2, .b z.1)]) (fun z => [])
noncomputable def mk60_e (z : P60_e) : E60 := z.1.1
noncomputable def pt60_e (x : E60) : St := pb60_e ((x, ()), (()))
noncomputable def rd60_e : St → Option E60 := rdC 0 [] [2] (rdM mk60_e rb60_e)
theorem rb60_e_ok (n : Nat) : RdOk 0 n rb60_e pb60_e := stR_ok (.cons .b .nil) .nil
theorem rd60_e_ok (n : Nat) : RdOk 0 n rd60_e pt60_e := rdC_ok ((rb60_e_ok n).m mk60_e (pat' := pt60_e) fun _ => rfl)
noncomputable def an60 : An := (.two .no (.two (.two (.rb [] 14) .no) (.two (.two .no (.lp L60_0 rd60_0 pt60_0 a60_0 (.two .no (.two (.two .no (.two (.rb [] 5) (.two (.rb [] 6) (.two (.rb [] 53) .no)))) .no)))) .no)))
theorem pu60  : ∀ f ∈ ([] : List Nat), PureF (F60) f := fun f hf => by
  cases hf
theorem fa60 : FnAn Tryz.prog (F60) 0 300 60 (an60) := fnAn_of (l := [(.skip, (.rb [] 14)), (loopAt Tryz.f60 0, (.lp L60_0 rd60_0 pt60_0 a60_0 (.two .no (.two (.two .no (.two (.rb [] 5) (.two (.rb [] 6) (.two (.rb [] 53) .no)))) .no)))), (.skip, (.rb [] 5)), (.skip, (.rb [] 6)), (.skip, (.rb [] 53))]) Tryz.func60 (bodyOf_eq (by kernel_rfl)) (by kernel_rfl) fun p hp => by
  simp only [List.mem_cons, List.not_mem_nil, or_false] at hp
  rcases hp with rfl | rfl | rfl | rfl | rfl
  · exact pu60
  · exact ⟨rd60_0_ok _, advG_ok (q60_0)⟩
  · exact pu60
  · exact pu60
  · exact pu60
noncomputable def m60 (a0 : ByteArray) : Option E60 :=
  match bif decide ((↑a0.size : Int) < 1) then
    some (true)
  else
    some (decide (40 < (↑a0.size : Int))) with
  | none =>
    none
  | some r4 =>
    bif r4 then
      some (false)
    else
      match a60_0 (L60_0.mk a0 (0)) with
      | none =>
        none
      | some r5 =>
        bif decide (r5.t3 < (↑r5.t0.size : Int)) then
          if (0 : Int) ≤ r5.t3 ∧ r5.t3 < (↑r5.t0.size : Int) then
            match bif decide (97 ≤ byteAt r5.t0 r5.t3.toNat) then
              some (decide (byteAt r5.t0 r5.t3.toNat ≤ 122))
            else
              some (false) with
            | none =>
              none
            | some r6 =>
              match bif decide (48 ≤ byteAt r5.t0 r5.t3.toNat) then
                bif decide (byteAt r5.t0 r5.t3.toNat ≤ 57) then
                  some (true)
                else
                  bif decide (byteAt r5.t0 r5.t3.toNat = 46) then
                    some (true)
                  else
                    some (decide (byteAt r5.t0 r5.t3.toNat = 95))
              else
                bif decide (byteAt r5.t0 r5.t3.toNat = 46) then
                  some (true)
                else
                  some (decide (byteAt r5.t0 r5.t3.toNat = 95)) with
              | none =>
                none
              | some r7 =>
                match bif bif r6 then false else true then
                  bif decide (r5.t3 = 0) then
                    some (true)
                  else
                    some (bif r7 then false else true)
                else
                  some (false) with
                | none =>
                  none
                | some r8 =>
                  bif r8 then
                    some (false)
                  else
                    none
          else
            none
        else
          some (true)
theorem c60 (a0 : ByteArray) : callR Tryz.prog (F60) 300 (an60) 60 [.s a0] [] 0 rd60_e = m60 a0 := by kernel_rfl
noncomputable def o60 (x : E60) : Out := match (match outOf Tryz.prog 60 (pt60_e x) with
    | some ds => some (Out.mk (resA ds) (keepR (pt60_e x).R 0 (resA ds)) (pt60_e x).nx)
    | none => none) with
  | some o => o
  | none => ⟨.tup [], [], 0⟩
theorem fn60 (a0 : ByteArray) (r : E60) (h : m60 a0 = some r) : fnOk Tryz.prog 60 ∧ FnY Tryz.prog 60 [.s a0] [] 0 (o60 r) :=
  fnY_of (p := r) F60_ok (fa60) rd60_e_ok (fun p => by kernel_rfl) (ltd_of (by kernel_rfl)) (rltd_of (by kernel_rfl)) ((c60 a0).trans h)
theorem fnok60 : fnOk Tryz.prog 60 := ⟨_, Tryz.func60, by kernel_rfl, by kernel_rfl⟩
noncomputable def e60 (F : Orc) : Orc := orL 60 false (pkC asS pkN) (fun g => m60 g.1 : (ByteArray × Unit) → Option E60) o60 F
theorem e60_ok {F : Orc} (h : OrcG Tryz.prog F) : OrcG Tryz.prog (e60 F) := orL_g (sc := scU) h scU_ok fnok60 (ca := fun g => [.s g.1]) ((.cons .s .nil) : PkN (pkC asS pkN) _) (fun b => by kernel_rfl) (fun b => by kernel_rfl) (fun g b hb => (fn60 g.1 b hb).2)
theorem e60_pure {F : Orc} {f : Nat} (h : PureF F f) : PureF (e60 F) f := orL_pure h (fun b => by kernel_rfl)
/-! ### 61: keyhole/keyholeref17.bounded -/
noncomputable def F61 : Orc := or0
theorem F61_ok : OrcG Tryz.prog F61 := or0_g
abbrev E61 : Type := Bool
abbrev P61_e : Type := (Bool × Unit) × (Unit)
noncomputable def rb61_e : St → Option P61_e := stR 0 (slC 4 asB slN) rsN
noncomputable def pb61_e : P61_e → St := stP 0 (fun z => [(4, .b z.1)]) (fun z => [])
noncomputable def mk61_e (z : P61_e) : E61 := z.1.1
noncomputable def pt61_e (x : E61) : St := pb61_e ((x, ()), (()))
noncomputable def rd61_e : St → Option E61 := rdC 0 [] [4] (rdM mk61_e rb61_e)
theorem rb61_e_ok (n : Nat) : RdOk 0 n rb61_e pb61_e := stR_ok (.cons .b .nil) .nil
theorem rd61_e_ok (n : Nat) : RdOk 0 n rd61_e pt61_e := rdC_ok ((rb61_e_ok n).m mk61_e (pat' := pt61_e) fun _ => rfl)
noncomputable def an61 : An := (.two .no (.two (.rb [] 4) .no))
theorem pu61  : ∀ f ∈ ([] : List Nat), PureF (F61) f := fun f hf => by
  cases hf
theorem fa61 : FnAn Tryz.prog (F61) 0 300 61 (an61) := fnAn_of (l := [(.skip, (.rb [] 4))]) Tryz.func61 (bodyOf_eq (by kernel_rfl)) (by kernel_rfl) fun p hp => by
  simp only [List.mem_cons, List.not_mem_nil, or_false] at hp
  rcases hp with rfl
  · exact pu61
noncomputable def m61 (a0 : Int) (a1 : Int) : E61 :=
  let r1 : Bool := bif decide (a0 ≤ a1) then
    bif decide (-1048576 ≤ a0) then
      decide (a1 ≤ 1048576)
    else
      false
  else
    false
  r1
theorem c61 (a0 : Int) (a1 : Int) : callR Tryz.prog (F61) 300 (an61) 61 [.n .i64 a0, .n .i64 a1] [] 0 rd61_e = some (m61 a0 a1) := by
  refine Eq.trans (b := (
    match bif decide (a0 ≤ a1) then
      bif decide (-1048576 ≤ a0) then
        some (decide (a1 ≤ 1048576))
      else
        some (false)
    else
      some (false) with
    | none =>
      none
    | some r1 =>
      some (r1) : Option E61)) (by kernel_rfl) ?_
  simp only [m61, cond_some, ite_some]
noncomputable def o61 (x : E61) : Out := match (match outOf Tryz.prog 61 (pt61_e x) with
    | some ds => some (Out.mk (resA ds) (keepR (pt61_e x).R 0 (resA ds)) (pt61_e x).nx)
    | none => none) with
  | some o => o
  | none => ⟨.tup [], [], 0⟩
theorem fn61 (a0 : Int) (a1 : Int) (r : E61) (h : m61 a0 a1 = r) : fnOk Tryz.prog 61 ∧ FnY Tryz.prog 61 [.n .i64 a0, .n .i64 a1] [] 0 (o61 r) :=
  fnY_of (p := r) F61_ok (fa61) rd61_e_ok (fun p => by kernel_rfl) (ltd_of (by kernel_rfl)) (rltd_of (by kernel_rfl)) ((c61 a0 a1).trans (congrArg some h))
theorem fnok61 : fnOk Tryz.prog 61 := ⟨_, Tryz.func61, by kernel_rfl, by kernel_rfl⟩
noncomputable def e61 (F : Orc) : Orc := orL 61 false (pkC (asI .i64) (pkC (asI .i64) pkN)) (fun g => some (m61 g.1 g.2.1) : (Int × Int × Unit) → Option E61) o61 F
theorem e61_ok {F : Orc} (h : OrcG Tryz.prog F) : OrcG Tryz.prog (e61 F) := orL_g (sc := scU) h scU_ok fnok61 (ca := fun g => [.n .i64 g.1, .n .i64 g.2.1]) ((.cons (.i .i64) (.cons (.i .i64) .nil)) : PkN (pkC (asI .i64) (pkC (asI .i64) pkN)) _) (fun b => by kernel_rfl) (fun b => by kernel_rfl) (fun g b hb => (fn61 g.1 g.2.1 b (Option.some.inj hb)).2)
theorem e61_pure {F : Orc} {f : Nat} (h : PureF F f) : PureF (e61 F) f := orL_pure h (fun b => by kernel_rfl)
/-! ### 121: keyhole/keyholeref17.Space -/
noncomputable def F121 : Orc := or0
theorem F121_ok : OrcG Tryz.prog F121 := or0_g
structure L121_0 where
  t0 : List GVar
  t1 : Int
  t5 : Int
  t6 : Int
abbrev P121_0 : Type := ((List GVar) × Int × Int × Int × Unit) × (Unit)
noncomputable def rb121_0 : St → Option P121_0 := stR 0 (slC 0 (asL 91) (slC 1 (asI .i64) (slC 5 (asI .i64) (slC 6 (asI .i64) slN)))) rsN
noncomputable def pb121_0 : P121_0 → St := stP 0 (fun z => [(0, .sl 91 z.1), (1, .n .i64 z.2.1), (5, .n .i64 z.2.2.1), (6, .n .i64 z.2.2.2.1)]) (fun z => [])
noncomputable def mk121_0 (z : P121_0) : L121_0 := ⟨z.1.1, z.1.2.1, z.1.2.2.1, z.1.2.2.2.1⟩
noncomputable def pt121_0 (x : L121_0) : St := pb121_0 ((x.t0, x.t1, x.t5, x.t6, ()), (()))
noncomputable def rd121_0 : St → Option L121_0 := rdC 0 [] [0, 1, 5, 6] (rdM mk121_0 rb121_0)
theorem rb121_0_ok (n : Nat) : RdOk 0 n rb121_0 pb121_0 := stR_ok (.cons (.l 91) (.cons (.i .i64) (.cons (.i .i64) (.cons (.i .i64) .nil)))) .nil
theorem rd121_0_ok (n : Nat) : RdOk 0 n rd121_0 pt121_0 := rdC_ok ((rb121_0_ok n).m mk121_0 (pat' := pt121_0) fun _ => rfl)
noncomputable def n121_0 (p : L121_0) : Option (Option L121_0) :=
  bif decide (p.t6 < (↑p.t0.length : Int)) then
    if (0 : Int) ≤ p.t6 ∧ p.t6 < (↑p.t0.length : Int) then
      bif bif decide (p.t0[p.t6.toNat]!.fKind = p.t1) then false else true then
        some (some (L121_0.mk p.t0 p.t1 p.t5 (IntKind.i64.wrap (p.t6 + 1))))
      else
        if (0 : Int) ≤ p.t6 ∧ p.t6 < (↑p.t0.length : Int) then
          if (0 : Int) ≤ p.t6 ∧ p.t6 < (↑p.t0.length : Int) then
            bif decide (4096 < IntKind.i64.wrap (p.t5 * IntKind.i64.wrap (IntKind.i64.wrap (p.t0[p.t6.toNat]!.fHigh - p.t0[p.t6.toNat]!.fLow) + 1))) then
              some (none)
            else
              some (some (L121_0.mk p.t0 p.t1 (IntKind.i64.wrap (p.t5 * IntKind.i64.wrap (IntKind.i64.wrap (p.t0[p.t6.toNat]!.fHigh - p.t0[p.t6.toNat]!.fLow) + 1))) (IntKind.i64.wrap (p.t6 + 1))))
          else
            none
        else
          none
    else
      none
  else
    some (none)
theorem q121_0 (p : L121_0) : execA Tryz.prog (F121) Tryz.f121.ntmps 300 (loopAt Tryz.f121 0) .no (Option L121_0) (pt121_0 p) (kOn rd121_0) = n121_0 p := by kernel_rfl
noncomputable def a121_0 : L121_0 → Option L121_0 := advG (n121_0)
abbrev E121 : Type := Int
abbrev P121_e : Type := (Int × Unit) × (Unit)
noncomputable def rb121_e : St → Option P121_e := stR 0 (slC 4 (asI .i64) slN) rsN
noncomputable def pb121_e : P121_e → St := stP 0 (fun z => [(4, .n .i64 z.1)]) (fun z => [])
noncomputable def mk121_e (z : P121_e) : E121 := z.1.1
noncomputable def pt121_e (x : E121) : St := pb121_e ((x, ()), (()))
noncomputable def rd121_e : St → Option E121 := rdC 0 [] [4] (rdM mk121_e rb121_e)
theorem rb121_e_ok (n : Nat) : RdOk 0 n rb121_e pb121_e := stR_ok (.cons (.i .i64) .nil) .nil
theorem rd121_e_ok (n : Nat) : RdOk 0 n rd121_e pt121_e := rdC_ok ((rb121_e_ok n).m mk121_e (pat' := pt121_e) fun _ => rfl)
noncomputable def an121 : An := (.two .no (.two .no (.two (.two .no (.lp L121_0 rd121_0 pt121_0 a121_0 .no)) .no)))
theorem fa121 : FnAn Tryz.prog (F121) 0 300 121 (an121) := fnAn_of (l := [(loopAt Tryz.f121 0, (.lp L121_0 rd121_0 pt121_0 a121_0 .no))]) Tryz.func121 (bodyOf_eq (by kernel_rfl)) (by kernel_rfl) fun p hp => by
  simp only [List.mem_cons, List.not_mem_nil, or_false] at hp
  rcases hp with rfl
  · exact ⟨rd121_0_ok _, advG_ok (q121_0)⟩
noncomputable def m121 (a0 : List GVar) (a1 : Int) : Option E121 :=
  match a121_0 (L121_0.mk a0 a1 (1) (0)) with
  | none =>
    none
  | some r1 =>
    bif decide (r1.t6 < (↑r1.t0.length : Int)) then
      if (0 : Int) ≤ r1.t6 ∧ r1.t6 < (↑r1.t0.length : Int) then
        bif bif decide (r1.t0[r1.t6.toNat]!.fKind = r1.t1) then false else true then
          none
        else
          if (0 : Int) ≤ r1.t6 ∧ r1.t6 < (↑r1.t0.length : Int) then
            if (0 : Int) ≤ r1.t6 ∧ r1.t6 < (↑r1.t0.length : Int) then
              bif decide (4096 < IntKind.i64.wrap (r1.t5 * IntKind.i64.wrap (IntKind.i64.wrap (r1.t0[r1.t6.toNat]!.fHigh - r1.t0[r1.t6.toNat]!.fLow) + 1))) then
                some (4097)
              else
                none
            else
              none
          else
            none
      else
        none
    else
      some (r1.t5)
theorem c121 (a0 : List GVar) (a1 : Int) : callR Tryz.prog (F121) 300 (an121) 121 [.sl 91 a0, .n .i64 a1] [] 0 rd121_e = m121 a0 a1 := by kernel_rfl
noncomputable def o121 (x : E121) : Out := match (match outOf Tryz.prog 121 (pt121_e x) with
    | some ds => some (Out.mk (resA ds) (keepR (pt121_e x).R 0 (resA ds)) (pt121_e x).nx)
    | none => none) with
  | some o => o
  | none => ⟨.tup [], [], 0⟩
theorem fn121 (a0 : List GVar) (a1 : Int) (r : E121) (h : m121 a0 a1 = some r) : fnOk Tryz.prog 121 ∧ FnY Tryz.prog 121 [.sl 91 a0, .n .i64 a1] [] 0 (o121 r) :=
  fnY_of (p := r) F121_ok (fa121) rd121_e_ok (fun p => by kernel_rfl) (ltd_of (by kernel_rfl)) (rltd_of (by kernel_rfl)) ((c121 a0 a1).trans h)
theorem fnok121 : fnOk Tryz.prog 121 := ⟨_, Tryz.func121, by kernel_rfl, by kernel_rfl⟩
noncomputable def e121 (F : Orc) : Orc := orL 121 false (pkC (asL 91) (pkC (asI .i64) pkN)) (fun g => m121 g.1 g.2.1 : ((List GVar) × Int × Unit) → Option E121) o121 F
theorem e121_ok {F : Orc} (h : OrcG Tryz.prog F) : OrcG Tryz.prog (e121 F) := orL_g (sc := scU) h scU_ok fnok121 (ca := fun g => [.sl 91 g.1, .n .i64 g.2.1]) ((.cons (.l 91) (.cons (.i .i64) .nil)) : PkN (pkC (asL 91) (pkC (asI .i64) pkN)) _) (fun b => by kernel_rfl) (fun b => by kernel_rfl) (fun g b hb => (fn121 g.1 g.2.1 b hb).2)
theorem e121_pure {F : Orc} {f : Nat} (h : PureF F f) : PureF (e121 F) f := orL_pure h (fun b => by kernel_rfl)
/-! ### 59: keyhole/keyholeref17.CheckVars -/
noncomputable def F59 : Orc := (e121 (e61 (e60 or0)))
theorem F59_ok : OrcG Tryz.prog F59 := (e121_ok (e61_ok (e60_ok or0_g)))
structure L59_1 where
  t0 : List GVar
  t3 : Int
  t5 : Int
  b0 : GVar
abbrev P59_1 : Type := ((List GVar) × Int × Unit × Int × Unit) × (GVar × Unit)
noncomputable def rb59_1 : St → Option P59_1 := stR 1 (slC 0 (asL 91) (slC 3 (asI .i64) (slC 4 (asP 0 0) (slC 5 (asI .i64) slN)))) (rsN2 0 91 (asCs 91) rsN)
noncomputable def pb59_1 : P59_1 → St := stP 1 (fun z => [(0, .sl 91 z.1), (3, .n .i64 z.2.1), (4, .ptr 0 0), (5, .n .i64 z.2.2.2.1)]) (fun z => [(0, .box 91 (uni.cells 91 z.1))])
noncomputable def mk59_1 (z : P59_1) : L59_1 := ⟨z.1.1, z.1.2.1, z.1.2.2.2.1, z.2.1⟩
noncomputable def pt59_1 (x : L59_1) : St := pb59_1 ((x.t0, x.t3, (), x.t5, ()), (x.b0, ()))
noncomputable def rd59_1 : St → Option L59_1 := rdC 0 [] [0, 3, 4, 5] (rdM mk59_1 rb59_1)
theorem rb59_1_ok (n : Nat) : RdOk 0 n rb59_1 pb59_1 := stR_ok (.cons (.l 91) (.cons (.i .i64) (.cons (.p 0 0) (.cons (.i .i64) .nil)))) (.boxN (PkN.parse 91) .nil)
theorem rd59_1_ok (n : Nat) : RdOk 0 n rd59_1 pt59_1 := rdC_ok ((rb59_1_ok n).m mk59_1 (pat' := pt59_1) fun _ => rfl)
noncomputable def n59_1 (p : L59_1) : Option (Option L59_1) :=
  bif decide (p.t5 < p.t3) then
    if (0 : Int) ≤ p.t5 ∧ p.t5 < (↑p.t0.length : Int) then
      bif p.t0[p.t5.toNat]!.fName.toList == p.b0.fName.toList then
        some (none)
      else
        some (some (L59_1.mk p.t0 p.t3 (IntKind.i64.wrap (p.t5 + 1)) p.b0))
    else
      none
  else
    some (none)
theorem q59_1 (p : L59_1) : execA Tryz.prog (F59) Tryz.f59.ntmps 300 (loopAt Tryz.f59 1) .no (Option L59_1) (pt59_1 p) (kOn rd59_1) = n59_1 p := by kernel_rfl
noncomputable def a59_1 : L59_1 → Option L59_1 := advG (n59_1)
structure L59_0 where
  t0 : List GVar
  t3 : Int
abbrev P59_0 : Type := ((List GVar) × Int × Unit) × (Unit)
noncomputable def rb59_0 : St → Option P59_0 := stR 0 (slC 0 (asL 91) (slC 3 (asI .i64) slN)) rsN
noncomputable def pb59_0 : P59_0 → St := stP 0 (fun z => [(0, .sl 91 z.1), (3, .n .i64 z.2.1)]) (fun z => [])
noncomputable def mk59_0 (z : P59_0) : L59_0 := ⟨z.1.1, z.1.2.1⟩
noncomputable def pt59_0 (x : L59_0) : St := pb59_0 ((x.t0, x.t3, ()), (()))
noncomputable def rd59_0 : St → Option L59_0 := rdC 0 [] [0, 3] (rdM mk59_0 rb59_0)
theorem rb59_0_ok (n : Nat) : RdOk 0 n rb59_0 pb59_0 := stR_ok (.cons (.l 91) (.cons (.i .i64) .nil)) .nil
theorem rd59_0_ok (n : Nat) : RdOk 0 n rd59_0 pt59_0 := rdC_ok ((rb59_0_ok n).m mk59_0 (pat' := pt59_0) fun _ => rfl)
noncomputable def n59_0 (p : L59_0) : Option (Option L59_0) :=
  bif decide (p.t3 < (↑p.t0.length : Int)) then
    if (0 : Int) ≤ p.t3 ∧ p.t3 < (↑p.t0.length : Int) then
      match m60 p.t0[p.t3.toNat]!.fName with
      | none =>
        none
      | some r1 =>
        bif bif r1 then false else true then
          some (none)
        else
          match a59_1 (L59_1.mk p.t0 p.t3 (0) p.t0[p.t3.toNat]!) with
          | none =>
            none
          | some r2 =>
            bif decide (r2.t5 < r2.t3) then
              if (0 : Int) ≤ r2.t5 ∧ r2.t5 < (↑r2.t0.length : Int) then
                bif r2.t0[r2.t5.toNat]!.fName.toList == r2.b0.fName.toList then
                  some (none)
                else
                  none
              else
                none
            else
              match bif bif decide (r2.b0.fKind = 0) then false else true then
                bif bif decide (r2.b0.fKind = 1) then false else true then
                  bif bif decide (r2.b0.fKind = 2) then false else true then
                    some (bif decide (r2.b0.fKind = 3) then false else true)
                  else
                    some (false)
                else
                  some (false)
              else
                some (false) with
              | none =>
                none
              | some r3 =>
                bif r3 then
                  some (none)
                else
                  bif bif m61 r2.b0.fLow r2.b0.fHigh then false else true then
                    some (none)
                  else
                    match bif decide (r2.b0.fKind = 0) then
                      bif decide (r2.b0.fInit < r2.b0.fLow) then
                        some (true)
                      else
                        bif decide (r2.b0.fHigh < r2.b0.fInit) then
                          some (true)
                        else
                          bif bif decide (r2.b0.fKind = 0) then false else true then
                            some (bif decide (r2.b0.fInit = 0) then false else true)
                          else
                            some (false)
                    else
                      bif bif decide (r2.b0.fKind = 0) then false else true then
                        some (bif decide (r2.b0.fInit = 0) then false else true)
                      else
                        some (false) with
                    | none =>
                      none
                    | some r4 =>
                      bif r4 then
                        some (none)
                      else
                        some (some (L59_0.mk r2.t0 (IntKind.i64.wrap (r2.t3 + 1))))
    else
      none
  else
    some (none)
theorem q59_0 (p : L59_0) : execA Tryz.prog (F59) Tryz.f59.ntmps 300 (loopAt Tryz.f59 0) (.two .no (.two (.two .no (.two .no (.two (.two .no (.lp L59_1 rd59_1 pt59_1 a59_1 .no)) (.two (.two (.rb [121] 50) .no) (.two .no (.two (.rb [121] 83) .no)))))) .no)) (Option L59_0) (pt59_0 p) (kOn rd59_0) = n59_0 p := by kernel_rfl
noncomputable def a59_0 : L59_0 → Option L59_0 := advG (n59_0)
abbrev E59 : Type := Int
abbrev P59_e : Type := (Int × Unit) × (Unit)
noncomputable def rb59_e : St → Option P59_e := stR 0 (slC 2 (asI .i64) slN) rsN
noncomputable def pb59_e : P59_e → St := stP 0 (fun z => [(2, .n .i64 z.1)]) (fun z => [])
noncomputable def mk59_e (z : P59_e) : E59 := z.1.1
noncomputable def pt59_e (x : E59) : St := pb59_e ((x, ()), (()))
noncomputable def rd59_e : St → Option E59 := rdC 0 [] [2] (rdM mk59_e rb59_e)
theorem rb59_e_ok (n : Nat) : RdOk 0 n rb59_e pb59_e := stR_ok (.cons (.i .i64) .nil) .nil
theorem rd59_e_ok (n : Nat) : RdOk 0 n rd59_e pt59_e := rdC_ok ((rb59_e_ok n).m mk59_e (pat' := pt59_e) fun _ => rfl)
noncomputable def an59 : An := (.two .no (.two (.two .no (.lp L59_0 rd59_0 pt59_0 a59_0 (.two .no (.two (.two .no (.two .no (.two (.two .no (.lp L59_1 rd59_1 pt59_1 a59_1 .no)) (.two (.two (.rb [121] 50) .no) (.two .no (.two (.rb [121] 83) .no)))))) .no)))) (.two (.two (.rb [121] 96) .no) .no)))
theorem pu59  : ∀ f ∈ ([121] : List Nat), PureF (F59) f := fun f hf => by
  simp only [List.mem_cons, List.not_mem_nil, or_false] at hf
  rcases hf with rfl
  · exact (e121_pure (e61_pure (e60_pure or0_pure)))
theorem fa59 : FnAn Tryz.prog (F59) 0 300 59 (an59) := fnAn_of (l := [(loopAt Tryz.f59 0, (.lp L59_0 rd59_0 pt59_0 a59_0 (.two .no (.two (.two .no (.two .no (.two (.two .no (.lp L59_1 rd59_1 pt59_1 a59_1 .no)) (.two (.two (.rb [121] 50) .no) (.two .no (.two (.rb [121] 83) .no)))))) .no)))), (loopAt Tryz.f59 1, (.lp L59_1 rd59_1 pt59_1 a59_1 .no)), (.skip, (.rb [121] 50)), (.skip, (.rb [121] 83)), (.skip, (.rb [121] 96))]) Tryz.func59 (bodyOf_eq (by kernel_rfl)) (by kernel_rfl) fun p hp => by
  simp only [List.mem_cons, List.not_mem_nil, or_false] at hp
  rcases hp with rfl | rfl | rfl | rfl | rfl
  · exact ⟨rd59_0_ok _, advG_ok (q59_0)⟩
  · exact ⟨rd59_1_ok _, advG_ok (q59_1)⟩
  · exact pu59
  · exact pu59
  · exact pu59
noncomputable def m59 (a0 : List GVar) : Option E59 :=
  match a59_0 (L59_0.mk a0 (0)) with
  | none =>
    none
  | some r5 =>
    bif decide (r5.t3 < (↑r5.t0.length : Int)) then
      if (0 : Int) ≤ r5.t3 ∧ r5.t3 < (↑r5.t0.length : Int) then
        match m60 r5.t0[r5.t3.toNat]!.fName with
        | none =>
          none
        | some r6 =>
          bif bif r6 then false else true then
            some (7)
          else
            match a59_1 (L59_1.mk r5.t0 r5.t3 (0) r5.t0[r5.t3.toNat]!) with
            | none =>
              none
            | some r7 =>
              bif decide (r7.t5 < r7.t3) then
                if (0 : Int) ≤ r7.t5 ∧ r7.t5 < (↑r7.t0.length : Int) then
                  bif r7.t0[r7.t5.toNat]!.fName.toList == r7.b0.fName.toList then
                    some (8)
                  else
                    none
                else
                  none
              else
                match bif bif decide (r7.b0.fKind = 0) then false else true then
                  bif bif decide (r7.b0.fKind = 1) then false else true then
                    bif bif decide (r7.b0.fKind = 2) then false else true then
                      some (bif decide (r7.b0.fKind = 3) then false else true)
                    else
                      some (false)
                  else
                    some (false)
                else
                  some (false) with
                | none =>
                  none
                | some r8 =>
                  bif r8 then
                    some (1)
                  else
                    bif bif m61 r7.b0.fLow r7.b0.fHigh then false else true then
                      some (3)
                    else
                      match bif decide (r7.b0.fKind = 0) then
                        bif decide (r7.b0.fInit < r7.b0.fLow) then
                          some (true)
                        else
                          bif decide (r7.b0.fHigh < r7.b0.fInit) then
                            some (true)
                          else
                            bif bif decide (r7.b0.fKind = 0) then false else true then
                              some (bif decide (r7.b0.fInit = 0) then false else true)
                            else
                              some (false)
                      else
                        bif bif decide (r7.b0.fKind = 0) then false else true then
                          some (bif decide (r7.b0.fInit = 0) then false else true)
                        else
                          some (false) with
                      | none =>
                        none
                      | some r9 =>
                        bif r9 then
                          some (3)
                        else
                          none
      else
        none
    else
      match match m121 r5.t0 (1) with
      | none =>
        none
      | some r10 =>
        bif decide (4096 < r10) then
          some (true)
        else
          match m121 r5.t0 (2) with
          | none =>
            none
          | some r11 =>
            bif decide (4096 < r11) then
              some (true)
            else
              match m121 r5.t0 (3) with
              | none =>
                none
              | some r12 =>
                some (decide (256 < r12)) with
      | none =>
        none
      | some r13 =>
        bif r13 then
          some (4)
        else
          some (0)
theorem c59 (a0 : List GVar) : callR Tryz.prog (F59) 300 (an59) 59 [.sl 91 a0] [] 0 rd59_e = m59 a0 := by kernel_rfl
noncomputable def o59 (x : E59) : Out := match (match outOf Tryz.prog 59 (pt59_e x) with
    | some ds => some (Out.mk (resA ds) (keepR (pt59_e x).R 0 (resA ds)) (pt59_e x).nx)
    | none => none) with
  | some o => o
  | none => ⟨.tup [], [], 0⟩
theorem fn59 (a0 : List GVar) (r : E59) (h : m59 a0 = some r) : fnOk Tryz.prog 59 ∧ FnY Tryz.prog 59 [.sl 91 a0] [] 0 (o59 r) :=
  fnY_of (p := r) F59_ok (fa59) rd59_e_ok (fun p => by kernel_rfl) (ltd_of (by kernel_rfl)) (rltd_of (by kernel_rfl)) ((c59 a0).trans h)
theorem fnok59 : fnOk Tryz.prog 59 := ⟨_, Tryz.func59, by kernel_rfl, by kernel_rfl⟩
noncomputable def e59 (F : Orc) : Orc := orL 59 false (pkC (asL 91) pkN) (fun g => m59 g.1 : ((List GVar) × Unit) → Option E59) o59 F
theorem e59_ok {F : Orc} (h : OrcG Tryz.prog F) : OrcG Tryz.prog (e59 F) := orL_g (sc := scU) h scU_ok fnok59 (ca := fun g => [.sl 91 g.1]) ((.cons (.l 91) .nil) : PkN (pkC (asL 91) pkN) _) (fun b => by kernel_rfl) (fun b => by kernel_rfl) (fun g b hb => (fn59 g.1 b hb).2)
theorem e59_pure {F : Orc} {f : Nat} (h : PureF F f) : PureF (e59 F) f := orL_pure h (fun b => by kernel_rfl)
/-! ### 170: keyhole/keyholeref17.kids -/
noncomputable def F170 : Orc := or0
theorem F170_ok : OrcG Tryz.prog F170 := or0_g
abbrev E170 : Type := Int
abbrev P170_e : Type := (Int × Unit) × (Unit)
noncomputable def rb170_e : St → Option P170_e := stR 0 (slC 2 (asI .i64) slN) rsN
noncomputable def pb170_e : P170_e → St := stP 0 (fun z => [(2, .n .i64 z.1)]) (fun z => [])
noncomputable def mk170_e (z : P170_e) : E170 := z.1.1
noncomputable def pt170_e (x : E170) : St := pb170_e ((x, ()), (()))
noncomputable def rd170_e : St → Option E170 := rdC 0 [] [2] (rdM mk170_e rb170_e)
theorem rb170_e_ok (n : Nat) : RdOk 0 n rb170_e pb170_e := stR_ok (.cons (.i .i64) .nil) .nil
theorem rd170_e_ok (n : Nat) : RdOk 0 n rd170_e pt170_e := rdC_ok ((rb170_e_ok n).m mk170_e (pat' := pt170_e) fun _ => rfl)
noncomputable def an170 : An := .no
theorem fa170 : FnAn Tryz.prog (F170) 0 300 170 (an170) := fnAn_of (l := []) Tryz.func170 (bodyOf_eq (by kernel_rfl)) (by kernel_rfl) fun p hp => by
  cases hp
noncomputable def m170 (a0 : Int) : E170 :=
  bif decide (a0 = 0) then
    0
  else
    bif decide (a0 = 24) then
      0
    else
      bif decide (a0 = 6) then
        1
      else
        bif decide (a0 = 7) then
          1
        else
          bif decide (a0 = 8) then
            2
          else
            bif decide (a0 = 9) then
              2
            else
              bif decide (a0 = 10) then
                2
              else
                bif decide (a0 = 11) then
                  2
                else
                  bif decide (a0 = 12) then
                    2
                  else
                    bif decide (a0 = 13) then
                      2
                    else
                      bif decide (a0 = 14) then
                        2
                      else
                        bif decide (a0 = 15) then
                          2
                        else
                          bif decide (a0 = 16) then
                            2
                          else
                            bif decide (a0 = 17) then
                              2
                            else
                              bif decide (a0 = 18) then
                                2
                              else
                                bif decide (a0 = 19) then
                                  2
                                else
                                  bif decide (a0 = 20) then
                                    2
                                  else
                                    bif decide (a0 = 21) then
                                      2
                                    else
                                      bif decide (a0 = 22) then
                                        2
                                      else
                                        bif decide (a0 = 23) then
                                          3
                                        else
                                          bif decide (a0 = 25) then
                                            -2
                                          else
                                            -1
theorem c170 (a0 : Int) : callR Tryz.prog (F170) 300 (an170) 170 [.n .i64 a0] [] 0 rd170_e = some (m170 a0) := by
  refine Eq.trans (b := (
    bif decide (a0 = 0) then
      some (0)
    else
      bif decide (a0 = 24) then
        some (0)
      else
        bif decide (a0 = 6) then
          some (1)
        else
          bif decide (a0 = 7) then
            some (1)
          else
            bif decide (a0 = 8) then
              some (2)
            else
              bif decide (a0 = 9) then
                some (2)
              else
                bif decide (a0 = 10) then
                  some (2)
                else
                  bif decide (a0 = 11) then
                    some (2)
                  else
                    bif decide (a0 = 12) then
                      some (2)
                    else
                      bif decide (a0 = 13) then
                        some (2)
                      else
                        bif decide (a0 = 14) then
                          some (2)
                        else
                          bif decide (a0 = 15) then
                            some (2)
                          else
                            bif decide (a0 = 16) then
                              some (2)
                            else
                              bif decide (a0 = 17) then
                                some (2)
                              else
                                bif decide (a0 = 18) then
                                  some (2)
                                else
                                  bif decide (a0 = 19) then
                                    some (2)
                                  else
                                    bif decide (a0 = 20) then
                                      some (2)
                                    else
                                      bif decide (a0 = 21) then
                                        some (2)
                                      else
                                        bif decide (a0 = 22) then
                                          some (2)
                                        else
                                          bif decide (a0 = 23) then
                                            some (3)
                                          else
                                            bif decide (a0 = 25) then
                                              some (-2)
                                            else
                                              some (-1) : Option E170)) (by kernel_rfl) ?_
  simp only [m170, cond_some, ite_some]
noncomputable def o170 (x : E170) : Out := match (match outOf Tryz.prog 170 (pt170_e x) with
    | some ds => some (Out.mk (resA ds) (keepR (pt170_e x).R 0 (resA ds)) (pt170_e x).nx)
    | none => none) with
  | some o => o
  | none => ⟨.tup [], [], 0⟩
theorem fn170 (a0 : Int) (r : E170) (h : m170 a0 = r) : fnOk Tryz.prog 170 ∧ FnY Tryz.prog 170 [.n .i64 a0] [] 0 (o170 r) :=
  fnY_of (p := r) F170_ok (fa170) rd170_e_ok (fun p => by kernel_rfl) (ltd_of (by kernel_rfl)) (rltd_of (by kernel_rfl)) ((c170 a0).trans (congrArg some h))
theorem fnok170 : fnOk Tryz.prog 170 := ⟨_, Tryz.func170, by kernel_rfl, by kernel_rfl⟩
noncomputable def e170 (F : Orc) : Orc := orL 170 false (pkC (asI .i64) pkN) (fun g => some (m170 g.1) : (Int × Unit) → Option E170) o170 F
theorem e170_ok {F : Orc} (h : OrcG Tryz.prog F) : OrcG Tryz.prog (e170 F) := orL_g (sc := scU) h scU_ok fnok170 (ca := fun g => [.n .i64 g.1]) ((.cons (.i .i64) .nil) : PkN (pkC (asI .i64) pkN) _) (fun b => by kernel_rfl) (fun b => by kernel_rfl) (fun g b hb => (fn170 g.1 b (Option.some.inj hb)).2)
theorem e170_pure {F : Orc} {f : Nat} (h : PureF F f) : PureF (e170 F) f := orL_pure h (fun b => by kernel_rfl)
/-! ### 122: keyhole/keyholeref17.formed -/
abbrev E122 : Type := Bool
abbrev P122_e : Type := (Bool × Unit) × (Unit)
noncomputable def rb122_e : St → Option P122_e := stR 0 (slC 6 asB slN) rsN
noncomputable def pb122_e : P122_e → St := stP 0 (fun z => [(6, .b z.1)]) (fun z => [])
noncomputable def mk122_e (z : P122_e) : E122 := z.1.1
noncomputable def pt122_e (x : E122) : St := pb122_e ((x, ()), (()))
noncomputable def rd122_e : St → Option E122 := rdC 0 [] [6] (rdM mk122_e rb122_e)
theorem rb122_e_ok (n : Nat) : RdOk 0 n rb122_e pb122_e := stR_ok (.cons .b .nil) .nil
theorem rd122_e_ok (n : Nat) : RdOk 0 n rd122_e pt122_e := rdC_ok ((rb122_e_ok n).m mk122_e (pat' := pt122_e) fun _ => rfl)
noncomputable def o122 (x : E122) : Out := match (match outOf Tryz.prog 122 (pt122_e x) with
    | some ds => some (Out.mk (resA ds) (keepR (pt122_e x).R 0 (resA ds)) (pt122_e x).nx)
    | none => none) with
  | some o => o
  | none => ⟨.tup [], [], 0⟩
theorem fnok122 : fnOk Tryz.prog 122 := ⟨_, Tryz.func122, by kernel_rfl, by kernel_rfl⟩
noncomputable def x122 (M122 : (List GVar) → GTerm → Bool → Option E122) (F : Orc) : Orc := orL 122 false (pkC (asL 91) (pkC (asGc 97) (pkC asB pkN))) (fun g => M122 g.1 g.2.1 g.2.2.1 : ((List GVar) × GTerm × Bool × Unit) → Option E122) o122 F
theorem x122_pure {M : (List GVar) → GTerm → Bool → Option E122} {F : Orc} {f : Nat} (h : PureF F f) : PureF (x122 M F) f := orL_pure h (fun b => by kernel_rfl)
def H122 (M : (List GVar) → GTerm → Bool → Option E122) : Prop := ∀ (a0 : List GVar) (a1 : GTerm) (a2 : Bool) (r : E122), M a0 a1 a2 = some r → FnY Tryz.prog 122 [.sl 91 a0, .agg (uni.cells 97 a1), .b a2] [] 0 (o122 r)
theorem x122_ok {M : (List GVar) → GTerm → Bool → Option E122} (hM : H122 M) {F : Orc} (h : OrcG Tryz.prog F) : OrcG Tryz.prog (x122 M F) := orL_g (sc := scU) h scU_ok fnok122 (ca := fun g => [.sl 91 g.1, .agg (uni.cells 97 g.2.1), .b g.2.2.1]) ((.cons (.l 91) (.cons (.g 97) (.cons .b .nil))) : PkN (pkC (asL 91) (pkC (asGc 97) (pkC asB pkN))) _) (fun b => by kernel_rfl) (fun b => by kernel_rfl) (fun g b hb => hM g.1 g.2.1 g.2.2.1 b hb)
noncomputable def F122 (M122 : (List GVar) → GTerm → Bool → Option E122) : Orc := (e170 (x122 M122 or0))
theorem F122_ok {M122} (h122 : H122 M122) : OrcG Tryz.prog (F122 M122) := (e170_ok (x122_ok h122 or0_g))
structure L122_0 where
  t0 : List GVar
  t2 : Bool
  t8 : Int
  b0 : GTerm
abbrev P122_0 : Type := ((List GVar) × Bool × Unit × Int × Unit) × (GTerm × Unit)
noncomputable def rb122_0 : St → Option P122_0 := stR 1 (slC 0 (asL 91) (slC 2 asB (slC 4 (asP 0 0) (slC 8 (asI .i64) slN)))) (rsN2 0 97 (asCs 97) rsN)
noncomputable def pb122_0 : P122_0 → St := stP 1 (fun z => [(0, .sl 91 z.1), (2, .b z.2.1), (4, .ptr 0 0), (8, .n .i64 z.2.2.2.1)]) (fun z => [(0, .box 97 (uni.cells 97 z.1))])
noncomputable def mk122_0 (z : P122_0) : L122_0 := ⟨z.1.1, z.1.2.1, z.1.2.2.2.1, z.2.1⟩
noncomputable def pt122_0 (x : L122_0) : St := pb122_0 ((x.t0, x.t2, (), x.t8, ()), (x.b0, ()))
noncomputable def rd122_0 : St → Option L122_0 := rdC 0 [] [0, 2, 4, 8] (rdM mk122_0 rb122_0)
theorem rb122_0_ok (n : Nat) : RdOk 0 n rb122_0 pb122_0 := stR_ok (.cons (.l 91) (.cons .b (.cons (.p 0 0) (.cons (.i .i64) .nil)))) (.boxN (PkN.parse 97) .nil)
theorem rd122_0_ok (n : Nat) : RdOk 0 n rd122_0 pt122_0 := rdC_ok ((rb122_0_ok n).m mk122_0 (pat' := pt122_0) fun _ => rfl)
noncomputable def n122_0 (M122 : (List GVar) → GTerm → Bool → Option E122) (p : L122_0) : Option (Option L122_0) :=
  bif decide (p.t8 < (↑p.b0.fKids.length : Int)) then
    if (0 : Int) ≤ p.t8 ∧ p.t8 < (↑p.b0.fKids.length : Int) then
      match M122 p.t0 (GTerm.mk p.b0.fKids[p.t8.toNat]!.fOp p.b0.fKids[p.t8.toNat]!.fN p.b0.fKids[p.t8.toNat]!.fKids) p.t2 with
      | none =>
        none
      | some r1 =>
        bif bif r1 then false else true then
          some (none)
        else
          some (some (L122_0.mk p.t0 p.t2 (IntKind.i64.wrap (p.t8 + 1)) (GTerm.mk p.b0.fOp p.b0.fN p.b0.fKids)))
    else
      none
  else
    some (none)
theorem q122_0 (M122 : (List GVar) → GTerm → Bool → Option E122) (p : L122_0) : execA Tryz.prog (F122 M122) Tryz.f122.ntmps 300 (loopAt Tryz.f122 0) .no (Option L122_0) (pt122_0 p) (kOn rd122_0) = n122_0 M122 p := by kernel_rfl
noncomputable def a122_0 (M122 : (List GVar) → GTerm → Bool → Option E122) : L122_0 → Option L122_0 := advG (n122_0 M122)
noncomputable def an122 (M122 : (List GVar) → GTerm → Bool → Option E122) : An := (.two .no (.two .no (.two (.two (.rb [] 40) .no) (.two (.two .no (.two (.two (.rb [] 65) .no) (.two (.rb [] 73) .no))) (.two (.two .no (.lp L122_0 rd122_0 pt122_0 (a122_0 M122) .no)) .no)))))
theorem pu122 {M122} : ∀ f ∈ ([] : List Nat), PureF (F122 M122) f := fun f hf => by
  cases hf
theorem fa122 (M122 : (List GVar) → GTerm → Bool → Option E122) : FnAn Tryz.prog (F122 M122) 0 300 122 (an122 M122) := fnAn_of (l := [(.skip, (.rb [] 40)), (.skip, (.rb [] 65)), (.skip, (.rb [] 73)), (loopAt Tryz.f122 0, (.lp L122_0 rd122_0 pt122_0 (a122_0 M122) .no))]) Tryz.func122 (bodyOf_eq (by kernel_rfl)) (by kernel_rfl) fun p hp => by
  simp only [List.mem_cons, List.not_mem_nil, or_false] at hp
  rcases hp with rfl | rfl | rfl | rfl
  · exact pu122
  · exact pu122
  · exact pu122
  · exact ⟨rd122_0_ok _, advG_ok (q122_0 M122)⟩
noncomputable def s122 (M122 : (List GVar) → GTerm → Bool → Option E122) (a0 : List GVar) (a1 : GTerm) (a2 : Bool) : Option E122 :=
  match bif decide (m170 a1.fOp = -1) then
    some (true)
  else
    bif decide (0 ≤ m170 a1.fOp) then
      bif bif decide ((↑a1.fKids.length : Int) = m170 a1.fOp) then false else true then
        some (true)
      else
        bif decide (m170 a1.fOp = -2) then
          bif decide ((↑a1.fKids.length : Int) < 2) then
            some (true)
          else
            some (decide (33 < (↑a1.fKids.length : Int)))
        else
          some (false)
    else
      bif decide (m170 a1.fOp = -2) then
        bif decide ((↑a1.fKids.length : Int) < 2) then
          some (true)
        else
          some (decide (33 < (↑a1.fKids.length : Int)))
      else
        some (false) with
  | none =>
    none
  | some r2 =>
    bif r2 then
      some (false)
    else
      bif decide (a1.fOp = 24) then
        match bif decide (a1.fN < 0) then
          some (true)
        else
          bif decide ((↑a0.length : Int) ≤ a1.fN) then
            some (true)
          else
            bif a2 then
              if (0 : Int) ≤ a1.fN ∧ a1.fN < (↑a0.length : Int) then
                some (decide (a0[a1.fN.toNat]!.fKind = 0))
              else
                none
            else
              some (false) with
        | none =>
          none
        | some r3 =>
          bif r3 then
            some (false)
          else
            match a122_0 M122 (L122_0.mk a0 a2 (0) (GTerm.mk a1.fOp a1.fN a1.fKids)) with
            | none =>
              none
            | some r4 =>
              bif decide (r4.t8 < (↑r4.b0.fKids.length : Int)) then
                if (0 : Int) ≤ r4.t8 ∧ r4.t8 < (↑r4.b0.fKids.length : Int) then
                  match M122 r4.t0 (GTerm.mk r4.b0.fKids[r4.t8.toNat]!.fOp r4.b0.fKids[r4.t8.toNat]!.fN r4.b0.fKids[r4.t8.toNat]!.fKids) r4.t2 with
                  | none =>
                    none
                  | some r5 =>
                    bif bif r5 then false else true then
                      some (false)
                    else
                      none
                else
                  none
              else
                some (true)
      else
        match bif bif decide (a1.fOp = 0) then false else true then
          some (bif decide (a1.fN = 0) then false else true)
        else
          some (false) with
        | none =>
          none
        | some r6 =>
          bif r6 then
            some (false)
          else
            match a122_0 M122 (L122_0.mk a0 a2 (0) (GTerm.mk a1.fOp a1.fN a1.fKids)) with
            | none =>
              none
            | some r7 =>
              bif decide (r7.t8 < (↑r7.b0.fKids.length : Int)) then
                if (0 : Int) ≤ r7.t8 ∧ r7.t8 < (↑r7.b0.fKids.length : Int) then
                  match M122 r7.t0 (GTerm.mk r7.b0.fKids[r7.t8.toNat]!.fOp r7.b0.fKids[r7.t8.toNat]!.fN r7.b0.fKids[r7.t8.toNat]!.fKids) r7.t2 with
                  | none =>
                    none
                  | some r8 =>
                    bif bif r8 then false else true then
                      some (false)
                    else
                      none
                else
                  none
              else
                some (true)
theorem c122 (M122 : (List GVar) → GTerm → Bool → Option E122) (a0 : List GVar) (a1 : GTerm) (a2 : Bool) : callR Tryz.prog (F122 M122) 300 (an122 M122) 122 [.sl 91 a0, .agg (uni.cells 97 a1), .b a2] [] 0 rd122_e = s122 M122 a0 a1 a2 := by kernel_rfl
noncomputable def mm122 : Nat → ((List GVar) → GTerm → Bool → Option E122)
  | 0 => (fun _ _ _ => none)
  | n + 1 => (s122 (mm122 n))
noncomputable def m122 (n : Nat) : (List GVar) → GTerm → Bool → Option E122 := (mm122 n)
theorem mm122_ok : ∀ n, H122 (m122 n)
  | 0 => fun _ _ _ _ h => by cases h
  | n + 1 => by
    have ih := mm122_ok n
    have i122 := ih
    exact fun a0 a1 a2 r h => (fnY_of (p := r) (F122_ok i122) (fa122 (m122 n)) rd122_e_ok (fun p => by kernel_rfl) (ltd_of (by kernel_rfl)) (rltd_of (by kernel_rfl)) ((c122 (m122 n) a0 a1 a2).trans h)).2
noncomputable def r122 : (List GVar) → GTerm → Bool → Option E122 := fun a0 a1 a2 => lim (fun n => m122 n a0 a1 a2)
theorem r122_ok : H122 r122 := fun a0 a1 a2 r h => by
  obtain ⟨n, hn⟩ := lim_some h
  exact (mm122_ok n) a0 a1 a2 r hn
noncomputable def e122 (F : Orc) : Orc := x122 r122 F
theorem e122_ok {F : Orc} (h : OrcG Tryz.prog F) : OrcG Tryz.prog (e122 F) := x122_ok r122_ok h
theorem e122_pure {F : Orc} {f : Nat} (h : PureF F f) : PureF (e122 F) f := x122_pure h
/-! ### 125: keyhole/keyholeref17.most -/
noncomputable def F125 : Orc := or0
theorem F125_ok : OrcG Tryz.prog F125 := or0_g
abbrev E125 : Type := Int
abbrev P125_e : Type := (Int × Unit) × (Unit)
noncomputable def rb125_e : St → Option P125_e := stR 0 (slC 4 (asI .i64) slN) rsN
noncomputable def pb125_e : P125_e → St := stP 0 (fun z => [(4, .n .i64 z.1)]) (fun z => [])
noncomputable def mk125_e (z : P125_e) : E125 := z.1.1
noncomputable def pt125_e (x : E125) : St := pb125_e ((x, ()), (()))
noncomputable def rd125_e : St → Option E125 := rdC 0 [] [4] (rdM mk125_e rb125_e)
theorem rb125_e_ok (n : Nat) : RdOk 0 n rb125_e pb125_e := stR_ok (.cons (.i .i64) .nil) .nil
theorem rd125_e_ok (n : Nat) : RdOk 0 n rd125_e pt125_e := rdC_ok ((rb125_e_ok n).m mk125_e (pat' := pt125_e) fun _ => rfl)
noncomputable def an125 : An := .no
theorem fa125 : FnAn Tryz.prog (F125) 0 300 125 (an125) := fnAn_of (l := []) Tryz.func125 (bodyOf_eq (by kernel_rfl)) (by kernel_rfl) fun p hp => by
  cases hp
noncomputable def m125 (a0 : Int) (a1 : Int) : E125 :=
  bif decide (a1 < a0) then
    a0
  else
    a1
theorem c125 (a0 : Int) (a1 : Int) : callR Tryz.prog (F125) 300 (an125) 125 [.n .i64 a0, .n .i64 a1] [] 0 rd125_e = some (m125 a0 a1) := by
  refine Eq.trans (b := (
    bif decide (a1 < a0) then
      some (a0)
    else
      some (a1) : Option E125)) (by kernel_rfl) ?_
  simp only [m125, cond_some, ite_some]
noncomputable def o125 (x : E125) : Out := match (match outOf Tryz.prog 125 (pt125_e x) with
    | some ds => some (Out.mk (resA ds) (keepR (pt125_e x).R 0 (resA ds)) (pt125_e x).nx)
    | none => none) with
  | some o => o
  | none => ⟨.tup [], [], 0⟩
theorem fn125 (a0 : Int) (a1 : Int) (r : E125) (h : m125 a0 a1 = r) : fnOk Tryz.prog 125 ∧ FnY Tryz.prog 125 [.n .i64 a0, .n .i64 a1] [] 0 (o125 r) :=
  fnY_of (p := r) F125_ok (fa125) rd125_e_ok (fun p => by kernel_rfl) (ltd_of (by kernel_rfl)) (rltd_of (by kernel_rfl)) ((c125 a0 a1).trans (congrArg some h))
theorem fnok125 : fnOk Tryz.prog 125 := ⟨_, Tryz.func125, by kernel_rfl, by kernel_rfl⟩
noncomputable def e125 (F : Orc) : Orc := orL 125 false (pkC (asI .i64) (pkC (asI .i64) pkN)) (fun g => some (m125 g.1 g.2.1) : (Int × Int × Unit) → Option E125) o125 F
theorem e125_ok {F : Orc} (h : OrcG Tryz.prog F) : OrcG Tryz.prog (e125 F) := orL_g (sc := scU) h scU_ok fnok125 (ca := fun g => [.n .i64 g.1, .n .i64 g.2.1]) ((.cons (.i .i64) (.cons (.i .i64) .nil)) : PkN (pkC (asI .i64) (pkC (asI .i64) pkN)) _) (fun b => by kernel_rfl) (fun b => by kernel_rfl) (fun g b hb => (fn125 g.1 g.2.1 b (Option.some.inj hb)).2)
theorem e125_pure {F : Orc} {f : Nat} (h : PureF F f) : PureF (e125 F) f := orL_pure h (fun b => by kernel_rfl)
/-! ### 126: keyhole/keyholeref17.least -/
noncomputable def F126 : Orc := or0
theorem F126_ok : OrcG Tryz.prog F126 := or0_g
abbrev E126 : Type := Int
abbrev P126_e : Type := (Int × Unit) × (Unit)
noncomputable def rb126_e : St → Option P126_e := stR 0 (slC 4 (asI .i64) slN) rsN
noncomputable def pb126_e : P126_e → St := stP 0 (fun z => [(4, .n .i64 z.1)]) (fun z => [])
noncomputable def mk126_e (z : P126_e) : E126 := z.1.1
noncomputable def pt126_e (x : E126) : St := pb126_e ((x, ()), (()))
noncomputable def rd126_e : St → Option E126 := rdC 0 [] [4] (rdM mk126_e rb126_e)
theorem rb126_e_ok (n : Nat) : RdOk 0 n rb126_e pb126_e := stR_ok (.cons (.i .i64) .nil) .nil
theorem rd126_e_ok (n : Nat) : RdOk 0 n rd126_e pt126_e := rdC_ok ((rb126_e_ok n).m mk126_e (pat' := pt126_e) fun _ => rfl)
noncomputable def an126 : An := .no
theorem fa126 : FnAn Tryz.prog (F126) 0 300 126 (an126) := fnAn_of (l := []) Tryz.func126 (bodyOf_eq (by kernel_rfl)) (by kernel_rfl) fun p hp => by
  cases hp
noncomputable def m126 (a0 : Int) (a1 : Int) : E126 :=
  bif decide (a0 < a1) then
    a0
  else
    a1
theorem c126 (a0 : Int) (a1 : Int) : callR Tryz.prog (F126) 300 (an126) 126 [.n .i64 a0, .n .i64 a1] [] 0 rd126_e = some (m126 a0 a1) := by
  refine Eq.trans (b := (
    bif decide (a0 < a1) then
      some (a0)
    else
      some (a1) : Option E126)) (by kernel_rfl) ?_
  simp only [m126, cond_some, ite_some]
noncomputable def o126 (x : E126) : Out := match (match outOf Tryz.prog 126 (pt126_e x) with
    | some ds => some (Out.mk (resA ds) (keepR (pt126_e x).R 0 (resA ds)) (pt126_e x).nx)
    | none => none) with
  | some o => o
  | none => ⟨.tup [], [], 0⟩
theorem fn126 (a0 : Int) (a1 : Int) (r : E126) (h : m126 a0 a1 = r) : fnOk Tryz.prog 126 ∧ FnY Tryz.prog 126 [.n .i64 a0, .n .i64 a1] [] 0 (o126 r) :=
  fnY_of (p := r) F126_ok (fa126) rd126_e_ok (fun p => by kernel_rfl) (ltd_of (by kernel_rfl)) (rltd_of (by kernel_rfl)) ((c126 a0 a1).trans (congrArg some h))
theorem fnok126 : fnOk Tryz.prog 126 := ⟨_, Tryz.func126, by kernel_rfl, by kernel_rfl⟩
noncomputable def e126 (F : Orc) : Orc := orL 126 false (pkC (asI .i64) (pkC (asI .i64) pkN)) (fun g => some (m126 g.1 g.2.1) : (Int × Int × Unit) → Option E126) o126 F
theorem e126_ok {F : Orc} (h : OrcG Tryz.prog F) : OrcG Tryz.prog (e126 F) := orL_g (sc := scU) h scU_ok fnok126 (ca := fun g => [.n .i64 g.1, .n .i64 g.2.1]) ((.cons (.i .i64) (.cons (.i .i64) .nil)) : PkN (pkC (asI .i64) (pkC (asI .i64) pkN)) _) (fun b => by kernel_rfl) (fun b => by kernel_rfl) (fun g b hb => (fn126 g.1 g.2.1 b (Option.some.inj hb)).2)
theorem e126_pure {F : Orc} {f : Nat} (h : PureF F f) : PureF (e126 F) f := orL_pure h (fun b => by kernel_rfl)
/-! ### 200: keyhole/keyholeref17.size -/
noncomputable def F200 : Orc := or0
theorem F200_ok : OrcG Tryz.prog F200 := or0_g
abbrev E200 : Type := Int
abbrev P200_e : Type := (Int × Unit) × (Unit)
noncomputable def rb200_e : St → Option P200_e := stR 0 (slC 2 (asI .i64) slN) rsN
noncomputable def pb200_e : P200_e → St := stP 0 (fun z => [(2, .n .i64 z.1)]) (fun z => [])
noncomputable def mk200_e (z : P200_e) : E200 := z.1.1
noncomputable def pt200_e (x : E200) : St := pb200_e ((x, ()), (()))
noncomputable def rd200_e : St → Option E200 := rdC 0 [] [2] (rdM mk200_e rb200_e)
theorem rb200_e_ok (n : Nat) : RdOk 0 n rb200_e pb200_e := stR_ok (.cons (.i .i64) .nil) .nil
theorem rd200_e_ok (n : Nat) : RdOk 0 n rd200_e pt200_e := rdC_ok ((rb200_e_ok n).m mk200_e (pat' := pt200_e) fun _ => rfl)
noncomputable def an200 : An := .no
theorem fa200 : FnAn Tryz.prog (F200) 0 300 200 (an200) := fnAn_of (l := []) Tryz.func200 (bodyOf_eq (by kernel_rfl)) (by kernel_rfl) fun p hp => by
  cases hp
noncomputable def m200 (a0 : Int) : E200 :=
  bif decide (a0 < 0) then
    IntKind.i64.wrap (0 - a0)
  else
    a0
theorem c200 (a0 : Int) : callR Tryz.prog (F200) 300 (an200) 200 [.n .i64 a0] [] 0 rd200_e = some (m200 a0) := by
  refine Eq.trans (b := (
    bif decide (a0 < 0) then
      some (IntKind.i64.wrap (0 - a0))
    else
      some (a0) : Option E200)) (by kernel_rfl) ?_
  simp only [m200, cond_some, ite_some]
noncomputable def o200 (x : E200) : Out := match (match outOf Tryz.prog 200 (pt200_e x) with
    | some ds => some (Out.mk (resA ds) (keepR (pt200_e x).R 0 (resA ds)) (pt200_e x).nx)
    | none => none) with
  | some o => o
  | none => ⟨.tup [], [], 0⟩
theorem fn200 (a0 : Int) (r : E200) (h : m200 a0 = r) : fnOk Tryz.prog 200 ∧ FnY Tryz.prog 200 [.n .i64 a0] [] 0 (o200 r) :=
  fnY_of (p := r) F200_ok (fa200) rd200_e_ok (fun p => by kernel_rfl) (ltd_of (by kernel_rfl)) (rltd_of (by kernel_rfl)) ((c200 a0).trans (congrArg some h))
theorem fnok200 : fnOk Tryz.prog 200 := ⟨_, Tryz.func200, by kernel_rfl, by kernel_rfl⟩
noncomputable def e200 (F : Orc) : Orc := orL 200 false (pkC (asI .i64) pkN) (fun g => some (m200 g.1) : (Int × Unit) → Option E200) o200 F
theorem e200_ok {F : Orc} (h : OrcG Tryz.prog F) : OrcG Tryz.prog (e200 F) := orL_g (sc := scU) h scU_ok fnok200 (ca := fun g => [.n .i64 g.1]) ((.cons (.i .i64) .nil) : PkN (pkC (asI .i64) pkN) _) (fun b => by kernel_rfl) (fun b => by kernel_rfl) (fun g b hb => (fn200 g.1 b (Option.some.inj hb)).2)
theorem e200_pure {F : Orc} {f : Nat} (h : PureF F f) : PureF (e200 F) f := orL_pure h (fun b => by kernel_rfl)
/-! ### 201: keyhole/keyholeref17.modSpan -/
noncomputable def F201 : Orc := (e126 (e125 or0))
theorem F201_ok : OrcG Tryz.prog F201 := (e126_ok (e125_ok or0_g))
abbrev E201 : Type := Int × Int
abbrev P201_e : Type := (Int × Int × Unit) × (Unit)
noncomputable def rb201_e : St → Option P201_e := stR 0 (slC 4 (asI .i64) (slC 5 (asI .i64) slN)) rsN
noncomputable def pb201_e : P201_e → St := stP 0 (fun z => [(4, .n .i64 z.1), (5, .n .i64 z.2.1)]) (fun z => [])
noncomputable def mk201_e (z : P201_e) : E201 := (z.1.1, z.1.2.1)
noncomputable def pt201_e (x : E201) : St := pb201_e ((x.1, x.2, ()), (()))
noncomputable def rd201_e : St → Option E201 := rdC 0 [] [4, 5] (rdM mk201_e rb201_e)
theorem rb201_e_ok (n : Nat) : RdOk 0 n rb201_e pb201_e := stR_ok (.cons (.i .i64) (.cons (.i .i64) .nil)) .nil
theorem rd201_e_ok (n : Nat) : RdOk 0 n rd201_e pt201_e := rdC_ok ((rb201_e_ok n).m mk201_e (pat' := pt201_e) fun _ => rfl)
noncomputable def an201 : An := .no
theorem fa201 : FnAn Tryz.prog (F201) 0 300 201 (an201) := fnAn_of (l := []) Tryz.func201 (bodyOf_eq (by kernel_rfl)) (by kernel_rfl) fun p hp => by
  cases hp
noncomputable def m201 (a0 : Int) (a1 : Int) : E201 :=
  bif decide (a0 < 0) then
    bif decide (0 < a1) then
      (m126 (0) (IntKind.i64.wrap (a0 + 1)), m125 (0) (IntKind.i64.wrap (a1 - 1)))
    else
      (m126 (0) (IntKind.i64.wrap (a0 + 1)), 0)
  else
    bif decide (0 < a1) then
      (0, m125 (0) (IntKind.i64.wrap (a1 - 1)))
    else
      (0, 0)
theorem c201 (a0 : Int) (a1 : Int) : callR Tryz.prog (F201) 300 (an201) 201 [.n .i64 a0, .n .i64 a1] [] 0 rd201_e = some (m201 a0 a1) := by
  refine Eq.trans (b := (
    bif decide (a0 < 0) then
      bif decide (0 < a1) then
        some ((m126 (0) (IntKind.i64.wrap (a0 + 1)), m125 (0) (IntKind.i64.wrap (a1 - 1))))
      else
        some ((m126 (0) (IntKind.i64.wrap (a0 + 1)), 0))
    else
      bif decide (0 < a1) then
        some ((0, m125 (0) (IntKind.i64.wrap (a1 - 1))))
      else
        some ((0, 0)) : Option E201)) (by kernel_rfl) ?_
  simp only [m201, cond_some, ite_some]
noncomputable def o201 (x : E201) : Out := match (match outOf Tryz.prog 201 (pt201_e x) with
    | some ds => some (Out.mk (resA ds) (keepR (pt201_e x).R 0 (resA ds)) (pt201_e x).nx)
    | none => none) with
  | some o => o
  | none => ⟨.tup [], [], 0⟩
theorem fn201 (a0 : Int) (a1 : Int) (r : E201) (h : m201 a0 a1 = r) : fnOk Tryz.prog 201 ∧ FnY Tryz.prog 201 [.n .i64 a0, .n .i64 a1] [] 0 (o201 r) :=
  fnY_of (p := r) F201_ok (fa201) rd201_e_ok (fun p => by kernel_rfl) (ltd_of (by kernel_rfl)) (rltd_of (by kernel_rfl)) ((c201 a0 a1).trans (congrArg some h))
theorem fnok201 : fnOk Tryz.prog 201 := ⟨_, Tryz.func201, by kernel_rfl, by kernel_rfl⟩
noncomputable def e201 (F : Orc) : Orc := orL 201 false (pkC (asI .i64) (pkC (asI .i64) pkN)) (fun g => some (m201 g.1 g.2.1) : (Int × Int × Unit) → Option E201) o201 F
theorem e201_ok {F : Orc} (h : OrcG Tryz.prog F) : OrcG Tryz.prog (e201 F) := orL_g (sc := scU) h scU_ok fnok201 (ca := fun g => [.n .i64 g.1, .n .i64 g.2.1]) ((.cons (.i .i64) (.cons (.i .i64) .nil)) : PkN (pkC (asI .i64) (pkC (asI .i64) pkN)) _) (fun b => by kernel_rfl) (fun b => by kernel_rfl) (fun g b hb => (fn201 g.1 g.2.1 b (Option.some.inj hb)).2)
theorem e201_pure {F : Orc} {f : Nat} (h : PureF F f) : PureF (e201 F) f := orL_pure h (fun b => by kernel_rfl)
/-! ### 171: keyhole/keyholeref17.span -/
noncomputable def F171 : Orc := (e201 (e200 (e126 (e125 or0))))
theorem F171_ok : OrcG Tryz.prog F171 := (e201_ok (e200_ok (e126_ok (e125_ok or0_g))))
structure L171_0 where
  t2 : List Int
  t3 : List Int
  t15 : Int
  t16 : Int
  t17 : Int
abbrev P171_0 : Type := ((List Int) × (List Int) × Int × Int × Int × Unit) × (Unit)
noncomputable def rb171_0 : St → Option P171_0 := stR 0 (slC 2 (asL 3) (slC 3 (asL 3) (slC 15 (asI .i64) (slC 16 (asI .i64) (slC 17 (asI .i64) slN))))) rsN
noncomputable def pb171_0 : P171_0 → St := stP 0 (fun z => [(2, .sl 3 z.1), (3, .sl 3 z.2.1), (15, .n .i64 z.2.2.1), (16, .n .i64 z.2.2.2.1), (17, .n .i64 z.2.2.2.2.1)]) (fun z => [])
noncomputable def mk171_0 (z : P171_0) : L171_0 := ⟨z.1.1, z.1.2.1, z.1.2.2.1, z.1.2.2.2.1, z.1.2.2.2.2.1⟩
noncomputable def pt171_0 (x : L171_0) : St := pb171_0 ((x.t2, x.t3, x.t15, x.t16, x.t17, ()), (()))
noncomputable def rd171_0 : St → Option L171_0 := rdC 0 [] [2, 3, 15, 16, 17] (rdM mk171_0 rb171_0)
theorem rb171_0_ok (n : Nat) : RdOk 0 n rb171_0 pb171_0 := stR_ok (.cons (.l 3) (.cons (.l 3) (.cons (.i .i64) (.cons (.i .i64) (.cons (.i .i64) .nil))))) .nil
theorem rd171_0_ok (n : Nat) : RdOk 0 n rd171_0 pt171_0 := rdC_ok ((rb171_0_ok n).m mk171_0 (pat' := pt171_0) fun _ => rfl)
noncomputable def n171_0 (p : L171_0) : Option (Option L171_0) :=
  bif decide (p.t17 < (↑p.t2.length : Int)) then
    if (0 : Int) ≤ p.t17 ∧ p.t17 < (↑p.t2.length : Int) then
      if (0 : Int) ≤ p.t17 ∧ p.t17 < (↑p.t3.length : Int) then
        some (some (L171_0.mk p.t2 p.t3 (m126 p.t15 p.t2[p.t17.toNat]!) (m125 p.t16 p.t3[p.t17.toNat]!) (IntKind.i64.wrap (p.t17 + 1))))
      else
        none
    else
      none
  else
    some (none)
theorem q171_0 (p : L171_0) : execA Tryz.prog (F171) Tryz.f171.ntmps 300 (loopAt Tryz.f171 0) .no (Option L171_0) (pt171_0 p) (kOn rd171_0) = n171_0 p := by kernel_rfl
noncomputable def a171_0 : L171_0 → Option L171_0 := advG (n171_0)
abbrev E171 : Type := Int × Int
abbrev P171_e : Type := (Int × Int × Unit) × (Unit)
noncomputable def rb171_e : St → Option P171_e := stR 0 (slC 8 (asI .i64) (slC 9 (asI .i64) slN)) rsN
noncomputable def pb171_e : P171_e → St := stP 0 (fun z => [(8, .n .i64 z.1), (9, .n .i64 z.2.1)]) (fun z => [])
noncomputable def mk171_e (z : P171_e) : E171 := (z.1.1, z.1.2.1)
noncomputable def pt171_e (x : E171) : St := pb171_e ((x.1, x.2, ()), (()))
noncomputable def rd171_e : St → Option E171 := rdC 0 [] [8, 9] (rdM mk171_e rb171_e)
theorem rb171_e_ok (n : Nat) : RdOk 0 n rb171_e pb171_e := stR_ok (.cons (.i .i64) (.cons (.i .i64) .nil)) .nil
theorem rd171_e_ok (n : Nat) : RdOk 0 n rd171_e pt171_e := rdC_ok ((rb171_e_ok n).m mk171_e (pat' := pt171_e) fun _ => rfl)
noncomputable def an171 : An := (.two .no (.two (.two .no (.two .no (.two (.two (.two (.rb [] 29) .no) .no) (.two .no (.two .no (.two .no (.two .no (.two .no (.two .no (.two .no (.two .no (.two .no (.two .no (.two .no (.two (.two .no (.two (.two (.rb [] 154) .no) .no)) (.two .no (.two .no (.two .no (.two .no (.two .no (.two .no (.two .no (.two (.two .no (.two (.two .no (.lp L171_0 rd171_0 pt171_0 a171_0 .no)) .no)) .no))))))))))))))))))))))) .no))
theorem pu171  : ∀ f ∈ ([] : List Nat), PureF (F171) f := fun f hf => by
  cases hf
theorem fa171 : FnAn Tryz.prog (F171) 0 300 171 (an171) := fnAn_of (l := [(.skip, (.rb [] 29)), (.skip, (.rb [] 154)), (loopAt Tryz.f171 0, (.lp L171_0 rd171_0 pt171_0 a171_0 .no))]) Tryz.func171 (bodyOf_eq (by kernel_rfl)) (by kernel_rfl) fun p hp => by
  simp only [List.mem_cons, List.not_mem_nil, or_false] at hp
  rcases hp with rfl | rfl | rfl
  · exact pu171
  · exact pu171
  · exact ⟨rd171_0_ok _, advG_ok (q171_0)⟩
noncomputable def m171 (a0 : List GVar) (a1 : GTerm) (a2 : List Int) (a3 : List Int) : Option E171 :=
  bif decide (a1.fOp = 0) then
    match bif decide (a1.fN < -1048576) then
      some (true)
    else
      some (decide (1048576 < a1.fN)) with
    | none =>
      none
    | some r1 =>
      bif r1 then
        some ((-1048577, 1048577))
      else
        some ((a1.fN, a1.fN))
  else
    bif decide (a1.fOp = 24) then
      if (0 : Int) ≤ a1.fN ∧ a1.fN < (↑a0.length : Int) then
        if (0 : Int) ≤ a1.fN ∧ a1.fN < (↑a0.length : Int) then
          some ((a0[a1.fN.toNat]!.fLow, a0[a1.fN.toNat]!.fHigh))
        else
          none
      else
        none
    else
      bif decide (a1.fOp = 6) then
        if (0 : Int) ≤ (0 : Int) ∧ (0 : Int) < (↑a3.length : Int) then
          if (0 : Int) ≤ (0 : Int) ∧ (0 : Int) < (↑a2.length : Int) then
            some ((IntKind.i64.wrap (0 - a3[0]!), IntKind.i64.wrap (0 - a2[0]!)))
          else
            none
        else
          none
      else
        bif decide (a1.fOp = 8) then
          if (0 : Int) ≤ (0 : Int) ∧ (0 : Int) < (↑a2.length : Int) then
            if (0 : Int) ≤ (1 : Int) ∧ (1 : Int) < (↑a2.length : Int) then
              if (0 : Int) ≤ (0 : Int) ∧ (0 : Int) < (↑a3.length : Int) then
                if (0 : Int) ≤ (1 : Int) ∧ (1 : Int) < (↑a3.length : Int) then
                  some ((IntKind.i64.wrap (a2[0]! + a2[1]!), IntKind.i64.wrap (a3[0]! + a3[1]!)))
                else
                  none
              else
                none
            else
              none
          else
            none
        else
          bif decide (a1.fOp = 9) then
            if (0 : Int) ≤ (0 : Int) ∧ (0 : Int) < (↑a2.length : Int) then
              if (0 : Int) ≤ (1 : Int) ∧ (1 : Int) < (↑a3.length : Int) then
                if (0 : Int) ≤ (0 : Int) ∧ (0 : Int) < (↑a3.length : Int) then
                  if (0 : Int) ≤ (1 : Int) ∧ (1 : Int) < (↑a2.length : Int) then
                    some ((IntKind.i64.wrap (a2[0]! - a3[1]!), IntKind.i64.wrap (a3[0]! - a2[1]!)))
                  else
                    none
                else
                  none
              else
                none
            else
              none
          else
            bif decide (a1.fOp = 10) then
              if (0 : Int) ≤ (0 : Int) ∧ (0 : Int) < (↑a2.length : Int) then
                if (0 : Int) ≤ (1 : Int) ∧ (1 : Int) < (↑a2.length : Int) then
                  if (0 : Int) ≤ (0 : Int) ∧ (0 : Int) < (↑a2.length : Int) then
                    if (0 : Int) ≤ (1 : Int) ∧ (1 : Int) < (↑a3.length : Int) then
                      if (0 : Int) ≤ (0 : Int) ∧ (0 : Int) < (↑a3.length : Int) then
                        if (0 : Int) ≤ (1 : Int) ∧ (1 : Int) < (↑a2.length : Int) then
                          if (0 : Int) ≤ (0 : Int) ∧ (0 : Int) < (↑a3.length : Int) then
                            if (0 : Int) ≤ (1 : Int) ∧ (1 : Int) < (↑a3.length : Int) then
                              some ((m126 (m126 (IntKind.i64.wrap (a2[0]! * a2[1]!)) (IntKind.i64.wrap (a2[0]! * a3[1]!))) (m126 (IntKind.i64.wrap (a3[0]! * a2[1]!)) (IntKind.i64.wrap (a3[0]! * a3[1]!))), m125 (m125 (IntKind.i64.wrap (a2[0]! * a2[1]!)) (IntKind.i64.wrap (a2[0]! * a3[1]!))) (m125 (IntKind.i64.wrap (a3[0]! * a2[1]!)) (IntKind.i64.wrap (a3[0]! * a3[1]!)))))
                            else
                              none
                          else
                            none
                        else
                          none
                      else
                        none
                    else
                      none
                  else
                    none
                else
                  none
              else
                none
            else
              bif decide (a1.fOp = 11) then
                if (0 : Int) ≤ (0 : Int) ∧ (0 : Int) < (↑a2.length : Int) then
                  if (0 : Int) ≤ (0 : Int) ∧ (0 : Int) < (↑a3.length : Int) then
                    match if (0 : Int) ≤ (0 : Int) ∧ (0 : Int) < (↑a2.length : Int) then
                      bif decide (0 ≤ a2[Int.toNat 0]!) then
                        if (0 : Int) ≤ (1 : Int) ∧ (1 : Int) < (↑a2.length : Int) then
                          some (decide (0 ≤ a2[Int.toNat 1]!))
                        else
                          none
                      else
                        some (false)
                    else
                      none with
                    | none =>
                      none
                    | some r2 =>
                      bif r2 then
                        some ((0, m125 (m200 a2[0]!) (m200 a3[0]!)))
                      else
                        some ((IntKind.i64.wrap (0 - m125 (m200 a2[0]!) (m200 a3[0]!)), m125 (m200 a2[0]!) (m200 a3[0]!)))
                  else
                    none
                else
                  none
              else
                bif decide (a1.fOp = 12) then
                  if (0 : Int) ≤ (1 : Int) ∧ (1 : Int) < (↑a2.length : Int) then
                    if (0 : Int) ≤ (1 : Int) ∧ (1 : Int) < (↑a3.length : Int) then
                      some (m201 a2[1]! a3[1]!)
                    else
                      none
                  else
                    none
                else
                  bif decide (a1.fOp = 21) then
                    if (0 : Int) ≤ (0 : Int) ∧ (0 : Int) < (↑a2.length : Int) then
                      if (0 : Int) ≤ (1 : Int) ∧ (1 : Int) < (↑a2.length : Int) then
                        if (0 : Int) ≤ (0 : Int) ∧ (0 : Int) < (↑a3.length : Int) then
                          if (0 : Int) ≤ (1 : Int) ∧ (1 : Int) < (↑a3.length : Int) then
                            some ((m126 a2[0]! a2[1]!, m126 a3[0]! a3[1]!))
                          else
                            none
                        else
                          none
                      else
                        none
                    else
                      none
                  else
                    bif decide (a1.fOp = 22) then
                      if (0 : Int) ≤ (0 : Int) ∧ (0 : Int) < (↑a2.length : Int) then
                        if (0 : Int) ≤ (1 : Int) ∧ (1 : Int) < (↑a2.length : Int) then
                          if (0 : Int) ≤ (0 : Int) ∧ (0 : Int) < (↑a3.length : Int) then
                            if (0 : Int) ≤ (1 : Int) ∧ (1 : Int) < (↑a3.length : Int) then
                              some ((m125 a2[0]! a2[1]!, m125 a3[0]! a3[1]!))
                            else
                              none
                          else
                            none
                        else
                          none
                      else
                        none
                    else
                      bif decide (a1.fOp = 23) then
                        if (0 : Int) ≤ (1 : Int) ∧ (1 : Int) < (↑a2.length : Int) then
                          if (0 : Int) ≤ (1 : Int) ∧ (1 : Int) < (↑a3.length : Int) then
                            match a171_0 (L171_0.mk a2 a3 a2[1]! a3[1]! (2)) with
                            | none =>
                              none
                            | some r3 =>
                              bif decide (r3.t17 < (↑r3.t2.length : Int)) then
                                if (0 : Int) ≤ r3.t17 ∧ r3.t17 < (↑r3.t2.length : Int) then
                                  if (0 : Int) ≤ r3.t17 ∧ r3.t17 < (↑r3.t3.length : Int) then
                                    none
                                  else
                                    none
                                else
                                  none
                              else
                                some ((r3.t15, r3.t16))
                          else
                            none
                        else
                          none
                      else
                        bif decide (a1.fOp = 25) then
                          if (0 : Int) ≤ (1 : Int) ∧ (1 : Int) < (↑a2.length : Int) then
                            if (0 : Int) ≤ (1 : Int) ∧ (1 : Int) < (↑a3.length : Int) then
                              match a171_0 (L171_0.mk a2 a3 a2[1]! a3[1]! (2)) with
                              | none =>
                                none
                              | some r4 =>
                                bif decide (r4.t17 < (↑r4.t2.length : Int)) then
                                  if (0 : Int) ≤ r4.t17 ∧ r4.t17 < (↑r4.t2.length : Int) then
                                    if (0 : Int) ≤ r4.t17 ∧ r4.t17 < (↑r4.t3.length : Int) then
                                      none
                                    else
                                      none
                                  else
                                    none
                                else
                                  some ((r4.t15, r4.t16))
                            else
                              none
                          else
                            none
                        else
                          some ((0, 1))
theorem c171 (a0 : List GVar) (a1 : GTerm) (a2 : List Int) (a3 : List Int) : callR Tryz.prog (F171) 300 (an171) 171 [.sl 91 a0, .agg (uni.cells 97 a1), .sl 3 a2, .sl 3 a3] [] 0 rd171_e = m171 a0 a1 a2 a3 := by kernel_rfl
noncomputable def o171 (x : E171) : Out := match (match outOf Tryz.prog 171 (pt171_e x) with
    | some ds => some (Out.mk (resA ds) (keepR (pt171_e x).R 0 (resA ds)) (pt171_e x).nx)
    | none => none) with
  | some o => o
  | none => ⟨.tup [], [], 0⟩
theorem fn171 (a0 : List GVar) (a1 : GTerm) (a2 : List Int) (a3 : List Int) (r : E171) (h : m171 a0 a1 a2 a3 = some r) : fnOk Tryz.prog 171 ∧ FnY Tryz.prog 171 [.sl 91 a0, .agg (uni.cells 97 a1), .sl 3 a2, .sl 3 a3] [] 0 (o171 r) :=
  fnY_of (p := r) F171_ok (fa171) rd171_e_ok (fun p => by kernel_rfl) (ltd_of (by kernel_rfl)) (rltd_of (by kernel_rfl)) ((c171 a0 a1 a2 a3).trans h)
theorem fnok171 : fnOk Tryz.prog 171 := ⟨_, Tryz.func171, by kernel_rfl, by kernel_rfl⟩
noncomputable def e171 (F : Orc) : Orc := orL 171 false (pkC (asL 91) (pkC (asGc 97) (pkC (asL 3) (pkC (asL 3) pkN)))) (fun g => m171 g.1 g.2.1 g.2.2.1 g.2.2.2.1 : ((List GVar) × GTerm × (List Int) × (List Int) × Unit) → Option E171) o171 F
theorem e171_ok {F : Orc} (h : OrcG Tryz.prog F) : OrcG Tryz.prog (e171 F) := orL_g (sc := scU) h scU_ok fnok171 (ca := fun g => [.sl 91 g.1, .agg (uni.cells 97 g.2.1), .sl 3 g.2.2.1, .sl 3 g.2.2.2.1]) ((.cons (.l 91) (.cons (.g 97) (.cons (.l 3) (.cons (.l 3) .nil)))) : PkN (pkC (asL 91) (pkC (asGc 97) (pkC (asL 3) (pkC (asL 3) pkN)))) _) (fun b => by kernel_rfl) (fun b => by kernel_rfl) (fun g b hb => (fn171 g.1 g.2.1 g.2.2.1 g.2.2.2.1 b hb).2)
theorem e171_pure {F : Orc} {f : Nat} (h : PureF F f) : PureF (e171 F) f := orL_pure h (fun b => by kernel_rfl)
/-! ### 123: keyhole/keyholeref17.Range -/
abbrev E123 : Type := Int × Int × Bool
abbrev P123_e : Type := (Int × Int × Bool × Unit) × (Unit)
noncomputable def rb123_e : St → Option P123_e := stR 0 (slC 4 (asI .i64) (slC 5 (asI .i64) (slC 6 asB slN))) rsN
noncomputable def pb123_e : P123_e → St := stP 0 (fun z => [(4, .n .i64 z.1), (5, .n .i64 z.2.1), (6, .b z.2.2.1)]) (fun z => [])
noncomputable def mk123_e (z : P123_e) : E123 := (z.1.1, z.1.2.1, z.1.2.2.1)
noncomputable def pt123_e (x : E123) : St := pb123_e ((x.1, x.2.1, x.2.2, ()), (()))
noncomputable def rd123_e : St → Option E123 := rdC 0 [] [4, 5, 6] (rdM mk123_e rb123_e)
theorem rb123_e_ok (n : Nat) : RdOk 0 n rb123_e pb123_e := stR_ok (.cons (.i .i64) (.cons (.i .i64) (.cons .b .nil))) .nil
theorem rd123_e_ok (n : Nat) : RdOk 0 n rd123_e pt123_e := rdC_ok ((rb123_e_ok n).m mk123_e (pat' := pt123_e) fun _ => rfl)
noncomputable def o123 (x : E123) : Out := match (match outOf Tryz.prog 123 (pt123_e x) with
    | some ds => some (Out.mk (resA ds) (keepR (pt123_e x).R 0 (resA ds)) (pt123_e x).nx)
    | none => none) with
  | some o => o
  | none => ⟨.tup [], [], 0⟩
theorem fnok123 : fnOk Tryz.prog 123 := ⟨_, Tryz.func123, by kernel_rfl, by kernel_rfl⟩
noncomputable def x123 (M123 : (List GVar) → GTerm → Option E123) (F : Orc) : Orc := orL 123 false (pkC (asL 91) (pkC (asGc 97) pkN)) (fun g => M123 g.1 g.2.1 : ((List GVar) × GTerm × Unit) → Option E123) o123 F
theorem x123_pure {M : (List GVar) → GTerm → Option E123} {F : Orc} {f : Nat} (h : PureF F f) : PureF (x123 M F) f := orL_pure h (fun b => by kernel_rfl)
def H123 (M : (List GVar) → GTerm → Option E123) : Prop := ∀ (a0 : List GVar) (a1 : GTerm) (r : E123), M a0 a1 = some r → FnY Tryz.prog 123 [.sl 91 a0, .agg (uni.cells 97 a1)] [] 0 (o123 r)
theorem x123_ok {M : (List GVar) → GTerm → Option E123} (hM : H123 M) {F : Orc} (h : OrcG Tryz.prog F) : OrcG Tryz.prog (x123 M F) := orL_g (sc := scU) h scU_ok fnok123 (ca := fun g => [.sl 91 g.1, .agg (uni.cells 97 g.2.1)]) ((.cons (.l 91) (.cons (.g 97) .nil)) : PkN (pkC (asL 91) (pkC (asGc 97) pkN)) _) (fun b => by kernel_rfl) (fun b => by kernel_rfl) (fun g b hb => hM g.1 g.2.1 b hb)
noncomputable def F123 (M123 : (List GVar) → GTerm → Option E123) : Orc := (e171 (x123 M123 or0))
theorem F123_ok {M123} (h123 : H123 M123) : OrcG Tryz.prog (F123 M123) := (e171_ok (x123_ok h123 or0_g))
structure L123_0 where
  t0 : List GVar
  t7 : List Int
  t8 : List Int
  t9 : Int
  b0 : GTerm
abbrev P123_0 : Type := ((List GVar) × Unit × Unit × Unit × Int × Unit) × (GTerm × (List Int) × (List Int) × Unit)
noncomputable def rb123_0 : St → Option P123_0 := stR 3 (slC 0 (asL 91) (slC 3 (asP 0 0) (slC 7 (asO 1) (slC 8 (asO 2) (slC 9 (asI .i64) slN))))) (rsN2 0 97 (asCs 97) (rsR 1 3 (rsR 2 3 rsN)))
noncomputable def pb123_0 : P123_0 → St := stP 3 (fun z => [(0, .sl 91 z.1), (3, .ptr 0 0), (7, .own 1), (8, .own 2), (9, .n .i64 z.2.2.2.2.1)]) (fun z => [(0, .box 97 (uni.cells 97 z.1)), (1, .row 3 z.2.1), (2, .row 3 z.2.2.1)])
noncomputable def mk123_0 (z : P123_0) : L123_0 := ⟨z.1.1, z.2.2.1, z.2.2.2.1, z.1.2.2.2.2.1, z.2.1⟩
noncomputable def pt123_0 (x : L123_0) : St := pb123_0 ((x.t0, (), (), (), x.t9, ()), (x.b0, x.t7, x.t8, ()))
noncomputable def rd123_0 : St → Option L123_0 := rdC 0 [] [0, 3, 7, 8, 9] (rdM mk123_0 rb123_0)
theorem rb123_0_ok (n : Nat) : RdOk 0 n rb123_0 pb123_0 := stR_ok (.cons (.l 91) (.cons (.p 0 0) (.cons (.o 1) (.cons (.o 2) (.cons (.i .i64) .nil))))) (.boxN (PkN.parse 97) (.row (.row .nil)))
theorem rd123_0_ok (n : Nat) : RdOk 0 n rd123_0 pt123_0 := rdC_ok ((rb123_0_ok n).m mk123_0 (pat' := pt123_0) fun _ => rfl)
noncomputable def n123_0 (M123 : (List GVar) → GTerm → Option E123) (p : L123_0) : Option (Option L123_0) :=
  bif decide (p.t9 < (↑p.b0.fKids.length : Int)) then
    if (0 : Int) ≤ p.t9 ∧ p.t9 < (↑p.b0.fKids.length : Int) then
      match M123 p.t0 (GTerm.mk p.b0.fKids[p.t9.toNat]!.fOp p.b0.fKids[p.t9.toNat]!.fN p.b0.fKids[p.t9.toNat]!.fKids) with
      | none =>
        none
      | some r1 =>
        bif bif r1.snd.snd then false else true then
          some (none)
        else
          if (p.t7 ++ [r1.fst]).length ≤ 1073741824 then
            if (p.t8 ++ [r1.snd.fst]).length ≤ 1073741824 then
              some (some (L123_0.mk p.t0 (p.t7 ++ [r1.fst]) (p.t8 ++ [r1.snd.fst]) (IntKind.i64.wrap (p.t9 + 1)) (GTerm.mk p.b0.fOp p.b0.fN p.b0.fKids)))
            else
              none
          else
            none
    else
      none
  else
    some (none)
theorem q123_0 (M123 : (List GVar) → GTerm → Option E123) (p : L123_0) : execA Tryz.prog (F123 M123) Tryz.f123.ntmps 300 (loopAt Tryz.f123 0) .no (Option L123_0) (pt123_0 p) (kOn rd123_0) = n123_0 M123 p := by kernel_rfl
noncomputable def a123_0 (M123 : (List GVar) → GTerm → Option E123) : L123_0 → Option L123_0 := advG (n123_0 M123)
noncomputable def an123 (M123 : (List GVar) → GTerm → Option E123) : An := (.two .no (.two .no (.two .no (.two (.two .no (.lp L123_0 rd123_0 pt123_0 (a123_0 M123) .no)) .no))))
theorem fa123 (M123 : (List GVar) → GTerm → Option E123) : FnAn Tryz.prog (F123 M123) 0 300 123 (an123 M123) := fnAn_of (l := [(loopAt Tryz.f123 0, (.lp L123_0 rd123_0 pt123_0 (a123_0 M123) .no))]) Tryz.func123 (bodyOf_eq (by kernel_rfl)) (by kernel_rfl) fun p hp => by
  simp only [List.mem_cons, List.not_mem_nil, or_false] at hp
  rcases hp with rfl
  · exact ⟨rd123_0_ok _, advG_ok (q123_0 M123)⟩
noncomputable def s123 (M123 : (List GVar) → GTerm → Option E123) (a0 : List GVar) (a1 : GTerm) : Option E123 :=
  match a123_0 M123 (L123_0.mk a0 [] [] (0) (GTerm.mk a1.fOp a1.fN a1.fKids)) with
  | none =>
    none
  | some r2 =>
    bif decide (r2.t9 < (↑r2.b0.fKids.length : Int)) then
      if (0 : Int) ≤ r2.t9 ∧ r2.t9 < (↑r2.b0.fKids.length : Int) then
        match M123 r2.t0 (GTerm.mk r2.b0.fKids[r2.t9.toNat]!.fOp r2.b0.fKids[r2.t9.toNat]!.fN r2.b0.fKids[r2.t9.toNat]!.fKids) with
        | none =>
          none
        | some r3 =>
          bif bif r3.snd.snd then false else true then
            some ((0, 0, false))
          else
            if (r2.t7 ++ [r3.fst]).length ≤ 1073741824 then
              if (r2.t8 ++ [r3.snd.fst]).length ≤ 1073741824 then
                none
              else
                none
            else
              none
      else
        none
    else
      match m171 r2.t0 (GTerm.mk r2.b0.fOp r2.b0.fN r2.b0.fKids) r2.t7 r2.t8 with
      | none =>
        none
      | some r4 =>
        bif decide (-1048576 ≤ r4.fst) then
          some ((r4.fst, r4.snd, decide (r4.snd ≤ 1048576)))
        else
          some ((r4.fst, r4.snd, false))
theorem c123 (M123 : (List GVar) → GTerm → Option E123) (a0 : List GVar) (a1 : GTerm) : callR Tryz.prog (F123 M123) 300 (an123 M123) 123 [.sl 91 a0, .agg (uni.cells 97 a1)] [] 0 rd123_e = s123 M123 a0 a1 := by kernel_rfl
noncomputable def mm123 : Nat → ((List GVar) → GTerm → Option E123)
  | 0 => (fun _ _ => none)
  | n + 1 => (s123 (mm123 n))
noncomputable def m123 (n : Nat) : (List GVar) → GTerm → Option E123 := (mm123 n)
theorem mm123_ok : ∀ n, H123 (m123 n)
  | 0 => fun _ _ _ h => by cases h
  | n + 1 => by
    have ih := mm123_ok n
    have i123 := ih
    exact fun a0 a1 r h => (fnY_of (p := r) (F123_ok i123) (fa123 (m123 n)) rd123_e_ok (fun p => by kernel_rfl) (ltd_of (by kernel_rfl)) (rltd_of (by kernel_rfl)) ((c123 (m123 n) a0 a1).trans h)).2
noncomputable def r123 : (List GVar) → GTerm → Option E123 := fun a0 a1 => lim (fun n => m123 n a0 a1)
theorem r123_ok : H123 r123 := fun a0 a1 r h => by
  obtain ⟨n, hn⟩ := lim_some h
  exact (mm123_ok n) a0 a1 r hn
noncomputable def e123 (F : Orc) : Orc := x123 r123 F
theorem e123_ok {F : Orc} (h : OrcG Tryz.prog F) : OrcG Tryz.prog (e123 F) := x123_ok r123_ok h
theorem e123_pure {F : Orc} {f : Nat} (h : PureF F f) : PureF (e123 F) f := x123_pure h
/-! ### 62: keyhole/keyholeref17.CheckTerm -/
noncomputable def F62 : Orc := (e123 (e122 or0))
theorem F62_ok : OrcG Tryz.prog F62 := (e123_ok (e122_ok or0_g))
abbrev E62 : Type := Int
abbrev P62_e : Type := (Int × Unit) × (Unit)
noncomputable def rb62_e : St → Option P62_e := stR 0 (slC 6 (asI .i64) slN) rsN
noncomputable def pb62_e : P62_e → St := stP 0 (fun z => [(6, .n .i64 z.1)]) (fun z => [])
noncomputable def mk62_e (z : P62_e) : E62 := z.1.1
noncomputable def pt62_e (x : E62) : St := pb62_e ((x, ()), (()))
noncomputable def rd62_e : St → Option E62 := rdC 0 [] [6] (rdM mk62_e rb62_e)
theorem rb62_e_ok (n : Nat) : RdOk 0 n rb62_e pb62_e := stR_ok (.cons (.i .i64) .nil) .nil
theorem rd62_e_ok (n : Nat) : RdOk 0 n rd62_e pt62_e := rdC_ok ((rb62_e_ok n).m mk62_e (pat' := pt62_e) fun _ => rfl)
noncomputable def an62 : An := .no
theorem fa62 : FnAn Tryz.prog (F62) 0 300 62 (an62) := fnAn_of (l := []) Tryz.func62 (bodyOf_eq (by kernel_rfl)) (by kernel_rfl) fun p hp => by
  cases hp
noncomputable def m62 (a0 : List GVar) (a1 : GTerm) (a2 : Bool) : Option E62 :=
  match r122 a0 (GTerm.mk a1.fOp a1.fN a1.fKids) a2 with
  | none =>
    none
  | some r1 =>
    bif bif r1 then false else true then
      some (1)
    else
      match r123 a0 (GTerm.mk a1.fOp a1.fN a1.fKids) with
      | none =>
        none
      | some r2 =>
        bif bif r2.snd.snd then false else true then
          some (3)
        else
          some (0)
theorem c62 (a0 : List GVar) (a1 : GTerm) (a2 : Bool) : callR Tryz.prog (F62) 300 (an62) 62 [.sl 91 a0, .agg (uni.cells 97 a1), .b a2] [] 0 rd62_e = m62 a0 a1 a2 := by kernel_rfl
noncomputable def o62 (x : E62) : Out := match (match outOf Tryz.prog 62 (pt62_e x) with
    | some ds => some (Out.mk (resA ds) (keepR (pt62_e x).R 0 (resA ds)) (pt62_e x).nx)
    | none => none) with
  | some o => o
  | none => ⟨.tup [], [], 0⟩
theorem fn62 (a0 : List GVar) (a1 : GTerm) (a2 : Bool) (r : E62) (h : m62 a0 a1 a2 = some r) : fnOk Tryz.prog 62 ∧ FnY Tryz.prog 62 [.sl 91 a0, .agg (uni.cells 97 a1), .b a2] [] 0 (o62 r) :=
  fnY_of (p := r) F62_ok (fa62) rd62_e_ok (fun p => by kernel_rfl) (ltd_of (by kernel_rfl)) (rltd_of (by kernel_rfl)) ((c62 a0 a1 a2).trans h)
theorem fnok62 : fnOk Tryz.prog 62 := ⟨_, Tryz.func62, by kernel_rfl, by kernel_rfl⟩
noncomputable def e62 (F : Orc) : Orc := orL 62 false (pkC (asL 91) (pkC (asGc 97) (pkC asB pkN))) (fun g => m62 g.1 g.2.1 g.2.2.1 : ((List GVar) × GTerm × Bool × Unit) → Option E62) o62 F
theorem e62_ok {F : Orc} (h : OrcG Tryz.prog F) : OrcG Tryz.prog (e62 F) := orL_g (sc := scU) h scU_ok fnok62 (ca := fun g => [.sl 91 g.1, .agg (uni.cells 97 g.2.1), .b g.2.2.1]) ((.cons (.l 91) (.cons (.g 97) (.cons .b .nil))) : PkN (pkC (asL 91) (pkC (asGc 97) (pkC asB pkN))) _) (fun b => by kernel_rfl) (fun b => by kernel_rfl) (fun g b hb => (fn62 g.1 g.2.1 g.2.2.1 b hb).2)
theorem e62_pure {F : Orc} {f : Nat} (h : PureF F f) : PureF (e62 F) f := orL_pure h (fun b => by kernel_rfl)
/-! ### 172: keyhole/keyholeref17.plain -/
noncomputable def F172 : Orc := or0
theorem F172_ok : OrcG Tryz.prog F172 := or0_g
abbrev E172 : Type := Bool
abbrev P172_e : Type := (Bool × Unit) × (Unit)
noncomputable def rb172_e : St → Option P172_e := stR 0 (slC 2 asB slN) rsN
noncomputable def pb172_e : P172_e → St := stP 0 (fun z => [(2, .b z.1)]) (fun z => [])
noncomputable def mk172_e (z : P172_e) : E172 := z.1.1
noncomputable def pt172_e (x : E172) : St := pb172_e ((x, ()), (()))
noncomputable def rd172_e : St → Option E172 := rdC 0 [] [2] (rdM mk172_e rb172_e)
theorem rb172_e_ok (n : Nat) : RdOk 0 n rb172_e pb172_e := stR_ok (.cons .b .nil) .nil
theorem rd172_e_ok (n : Nat) : RdOk 0 n rd172_e pt172_e := rdC_ok ((rb172_e_ok n).m mk172_e (pat' := pt172_e) fun _ => rfl)
noncomputable def an172 : An := (.two .no (.two (.rb [] 2) .no))
theorem pu172  : ∀ f ∈ ([] : List Nat), PureF (F172) f := fun f hf => by
  cases hf
theorem fa172 : FnAn Tryz.prog (F172) 0 300 172 (an172) := fnAn_of (l := [(.skip, (.rb [] 2))]) Tryz.func172 (bodyOf_eq (by kernel_rfl)) (by kernel_rfl) fun p hp => by
  simp only [List.mem_cons, List.not_mem_nil, or_false] at hp
  rcases hp with rfl
  · exact pu172
noncomputable def m172 (a0 : GTerm) : E172 :=
  let r1 : Bool := bif decide (a0.fOp = 0) then
    bif decide (a0.fN = 0) then
      decide ((↑a0.fKids.length : Int) = 0)
    else
      false
  else
    false
  r1
theorem c172 (a0 : GTerm) : callR Tryz.prog (F172) 300 (an172) 172 [.agg (uni.cells 97 a0)] [] 0 rd172_e = some (m172 a0) := by
  refine Eq.trans (b := (
    match bif decide (a0.fOp = 0) then
      bif decide (a0.fN = 0) then
        some (decide ((↑a0.fKids.length : Int) = 0))
      else
        some (false)
    else
      some (false) with
    | none =>
      none
    | some r1 =>
      some (r1) : Option E172)) (by kernel_rfl) ?_
  simp only [m172, cond_some, ite_some]
noncomputable def o172 (x : E172) : Out := match (match outOf Tryz.prog 172 (pt172_e x) with
    | some ds => some (Out.mk (resA ds) (keepR (pt172_e x).R 0 (resA ds)) (pt172_e x).nx)
    | none => none) with
  | some o => o
  | none => ⟨.tup [], [], 0⟩
theorem fn172 (a0 : GTerm) (r : E172) (h : m172 a0 = r) : fnOk Tryz.prog 172 ∧ FnY Tryz.prog 172 [.agg (uni.cells 97 a0)] [] 0 (o172 r) :=
  fnY_of (p := r) F172_ok (fa172) rd172_e_ok (fun p => by kernel_rfl) (ltd_of (by kernel_rfl)) (rltd_of (by kernel_rfl)) ((c172 a0).trans (congrArg some h))
theorem fnok172 : fnOk Tryz.prog 172 := ⟨_, Tryz.func172, by kernel_rfl, by kernel_rfl⟩
noncomputable def e172 (F : Orc) : Orc := orL 172 false (pkC (asGc 97) pkN) (fun g => some (m172 g.1) : (GTerm × Unit) → Option E172) o172 F
theorem e172_ok {F : Orc} (h : OrcG Tryz.prog F) : OrcG Tryz.prog (e172 F) := orL_g (sc := scU) h scU_ok fnok172 (ca := fun g => [.agg (uni.cells 97 g.1)]) ((.cons (.g 97) .nil) : PkN (pkC (asGc 97) pkN) _) (fun b => by kernel_rfl) (fun b => by kernel_rfl) (fun g b hb => (fn172 g.1 b (Option.some.inj hb)).2)
theorem e172_pure {F : Orc} {f : Nat} (h : PureF F f) : PureF (e172 F) f := orL_pure h (fun b => by kernel_rfl)
/-! ### 173: keyhole/keyholeref17.rising -/
noncomputable def F173 : Orc := or0
theorem F173_ok : OrcG Tryz.prog F173 := or0_g
structure L173_0 where
  t0 : List Int
  t3 : Int
abbrev P173_0 : Type := ((List Int) × Int × Unit) × (Unit)
noncomputable def rb173_0 : St → Option P173_0 := stR 0 (slC 0 (asL 3) (slC 3 (asI .i64) slN)) rsN
noncomputable def pb173_0 : P173_0 → St := stP 0 (fun z => [(0, .sl 3 z.1), (3, .n .i64 z.2.1)]) (fun z => [])
noncomputable def mk173_0 (z : P173_0) : L173_0 := ⟨z.1.1, z.1.2.1⟩
noncomputable def pt173_0 (x : L173_0) : St := pb173_0 ((x.t0, x.t3, ()), (()))
noncomputable def rd173_0 : St → Option L173_0 := rdC 0 [] [0, 3] (rdM mk173_0 rb173_0)
theorem rb173_0_ok (n : Nat) : RdOk 0 n rb173_0 pb173_0 := stR_ok (.cons (.l 3) (.cons (.i .i64) .nil)) .nil
theorem rd173_0_ok (n : Nat) : RdOk 0 n rd173_0 pt173_0 := rdC_ok ((rb173_0_ok n).m mk173_0 (pat' := pt173_0) fun _ => rfl)
noncomputable def n173_0 (p : L173_0) : Option (Option L173_0) :=
  bif decide (p.t3 < (↑p.t0.length : Int)) then
    if (0 : Int) ≤ p.t3 ∧ p.t3 < (↑p.t0.length : Int) then
      if (0 : Int) ≤ IntKind.i64.wrap (p.t3 - (1 : Int)) ∧ IntKind.i64.wrap (p.t3 - (1 : Int)) < (↑p.t0.length : Int) then
        bif decide (((p.t0, p.t3, ()), ()).fst.fst[((p.t0, p.t3, ()), ()).fst.snd.fst.toNat]! ≤ ((p.t0, p.t3, ()), ()).fst.fst[(IntKind.i64.wrap (((p.t0, p.t3, ()), ()).fst.snd.fst - 1)).toNat]!) then
          some (none)
        else
          some (some (L173_0.mk p.t0 (IntKind.i64.wrap (p.t3 + 1))))
      else
        none
    else
      none
  else
    some (none)
theorem q173_0 (p : L173_0) : execA Tryz.prog (F173) Tryz.f173.ntmps 300 (loopAt Tryz.f173 0) .no (Option L173_0) (pt173_0 p) (kOn rd173_0) = n173_0 p := by kernel_rfl
noncomputable def a173_0 : L173_0 → Option L173_0 := advG (n173_0)
abbrev E173 : Type := Bool
abbrev P173_e : Type := (Bool × Unit) × (Unit)
noncomputable def rb173_e : St → Option P173_e := stR 0 (slC 2 asB slN) rsN
noncomputable def pb173_e : P173_e → St := stP 0 (fun z => [(2, .b z.1)]) (fun z => [])
noncomputable def mk173_e (z : P173_e) : E173 := z.1.1
noncomputable def pt173_e (x : E173) : St := pb173_e ((x, ()), (()))
noncomputable def rd173_e : St → Option E173 := rdC 0 [] [2] (rdM mk173_e rb173_e)
theorem rb173_e_ok (n : Nat) : RdOk 0 n rb173_e pb173_e := stR_ok (.cons .b .nil) .nil
theorem rd173_e_ok (n : Nat) : RdOk 0 n rd173_e pt173_e := rdC_ok ((rb173_e_ok n).m mk173_e (pat' := pt173_e) fun _ => rfl)
noncomputable def an173 : An := (.two .no (.two (.two (.rb [] 17) .no) (.two (.two .no (.lp L173_0 rd173_0 pt173_0 a173_0 .no)) .no)))
theorem pu173  : ∀ f ∈ ([] : List Nat), PureF (F173) f := fun f hf => by
  cases hf
theorem fa173 : FnAn Tryz.prog (F173) 0 300 173 (an173) := fnAn_of (l := [(.skip, (.rb [] 17)), (loopAt Tryz.f173 0, (.lp L173_0 rd173_0 pt173_0 a173_0 .no))]) Tryz.func173 (bodyOf_eq (by kernel_rfl)) (by kernel_rfl) fun p hp => by
  simp only [List.mem_cons, List.not_mem_nil, or_false] at hp
  rcases hp with rfl | rfl
  · exact pu173
  · exact ⟨rd173_0_ok _, advG_ok (q173_0)⟩
noncomputable def m173 (a0 : List Int) : Option E173 :=
  match bif decide ((↑a0.length : Int) < 1) then
    some (true)
  else
    bif decide (32 < (↑a0.length : Int)) then
      some (true)
    else
      if (0 : Int) ≤ (0 : Int) ∧ (0 : Int) < (↑a0.length : Int) then
        some (decide (a0[Int.toNat 0]! < 0))
      else
        none with
  | none =>
    none
  | some r1 =>
    bif r1 then
      some (false)
    else
      match a173_0 (L173_0.mk a0 (1)) with
      | none =>
        none
      | some r2 =>
        bif decide (r2.t3 < (↑r2.t0.length : Int)) then
          if (0 : Int) ≤ r2.t3 ∧ r2.t3 < (↑r2.t0.length : Int) then
            if (0 : Int) ≤ IntKind.i64.wrap (r2.t3 - (1 : Int)) ∧ IntKind.i64.wrap (r2.t3 - (1 : Int)) < (↑r2.t0.length : Int) then
              bif decide (((r2.t0, r2.t3, ()), ()).fst.fst[((r2.t0, r2.t3, ()), ()).fst.snd.fst.toNat]! ≤ ((r2.t0, r2.t3, ()), ()).fst.fst[(IntKind.i64.wrap (((r2.t0, r2.t3, ()), ()).fst.snd.fst - 1)).toNat]!) then
                some (false)
              else
                none
            else
              none
          else
            none
        else
          some (true)
theorem c173 (a0 : List Int) : callR Tryz.prog (F173) 300 (an173) 173 [.sl 3 a0] [] 0 rd173_e = m173 a0 := by kernel_rfl
noncomputable def o173 (x : E173) : Out := match (match outOf Tryz.prog 173 (pt173_e x) with
    | some ds => some (Out.mk (resA ds) (keepR (pt173_e x).R 0 (resA ds)) (pt173_e x).nx)
    | none => none) with
  | some o => o
  | none => ⟨.tup [], [], 0⟩
theorem fn173 (a0 : List Int) (r : E173) (h : m173 a0 = some r) : fnOk Tryz.prog 173 ∧ FnY Tryz.prog 173 [.sl 3 a0] [] 0 (o173 r) :=
  fnY_of (p := r) F173_ok (fa173) rd173_e_ok (fun p => by kernel_rfl) (ltd_of (by kernel_rfl)) (rltd_of (by kernel_rfl)) ((c173 a0).trans h)
theorem fnok173 : fnOk Tryz.prog 173 := ⟨_, Tryz.func173, by kernel_rfl, by kernel_rfl⟩
noncomputable def e173 (F : Orc) : Orc := orL 173 false (pkC (asL 3) pkN) (fun g => m173 g.1 : ((List Int) × Unit) → Option E173) o173 F
theorem e173_ok {F : Orc} (h : OrcG Tryz.prog F) : OrcG Tryz.prog (e173 F) := orL_g (sc := scU) h scU_ok fnok173 (ca := fun g => [.sl 3 g.1]) ((.cons (.l 3) .nil) : PkN (pkC (asL 3) pkN) _) (fun b => by kernel_rfl) (fun b => by kernel_rfl) (fun g b hb => (fn173 g.1 b hb).2)
theorem e173_pure {F : Orc} {f : Nat} (h : PureF F f) : PureF (e173 F) f := orL_pure h (fun b => by kernel_rfl)
/-! ### 124: keyhole/keyholeref17.shaped -/
noncomputable def F124 : Orc := (e173 (e172 or0))
theorem F124_ok : OrcG Tryz.prog F124 := (e173_ok (e172_ok or0_g))
abbrev E124 : Type := Bool
abbrev P124_e : Type := (Bool × Unit) × (Unit)
noncomputable def rb124_e : St → Option P124_e := stR 0 (slC 6 asB slN) rsN
noncomputable def pb124_e : P124_e → St := stP 0 (fun z => [(6, .b z.1)]) (fun z => [])
noncomputable def mk124_e (z : P124_e) : E124 := z.1.1
noncomputable def pt124_e (x : E124) : St := pb124_e ((x, ()), (()))
noncomputable def rd124_e : St → Option E124 := rdC 0 [] [6] (rdM mk124_e rb124_e)
theorem rb124_e_ok (n : Nat) : RdOk 0 n rb124_e pb124_e := stR_ok (.cons .b .nil) .nil
theorem rd124_e_ok (n : Nat) : RdOk 0 n rd124_e pt124_e := rdC_ok ((rb124_e_ok n).m mk124_e (pat' := pt124_e) fun _ => rfl)
noncomputable def an124 : An := (.two .no (.two (.rb [172, 173] 7) (.two (.rb [172, 173] 8) (.two (.two .no (.two .no (.two (.two (.rb [172, 173] 6) .no) (.two .no (.two (.two (.rb [172, 173] 6) .no) (.two .no (.two (.two (.rb [172, 173] 6) .no) (.two .no (.two (.two (.rb [172, 173] 6) .no) (.two .no (.two (.two (.rb [172, 173] 6) .no) (.two .no (.two (.two (.rb [172, 173] 6) .no) (.two .no (.two (.two (.rb [172, 173] 6) .no) .no))))))))))))))) .no))))
theorem pu124  : ∀ f ∈ ([172, 173] : List Nat), PureF (F124) f := fun f hf => by
  simp only [List.mem_cons, List.not_mem_nil, or_false] at hf
  rcases hf with rfl | rfl
  · exact (e173_pure (e172_pure or0_pure))
  · exact (e173_pure (e172_pure or0_pure))
theorem fa124 : FnAn Tryz.prog (F124) 0 300 124 (an124) := fnAn_of (l := [(.skip, (.rb [172, 173] 7)), (.skip, (.rb [172, 173] 8)), (.skip, (.rb [172, 173] 6)), (.skip, (.rb [172, 173] 6)), (.skip, (.rb [172, 173] 6)), (.skip, (.rb [172, 173] 6)), (.skip, (.rb [172, 173] 6)), (.skip, (.rb [172, 173] 6)), (.skip, (.rb [172, 173] 6))]) Tryz.func124 (bodyOf_eq (by kernel_rfl)) (by kernel_rfl) fun p hp => by
  simp only [List.mem_cons, List.not_mem_nil, or_false] at hp
  rcases hp with rfl | rfl | rfl | rfl | rfl | rfl | rfl | rfl | rfl
  · exact pu124
  · exact pu124
  · exact pu124
  · exact pu124
  · exact pu124
  · exact pu124
  · exact pu124
  · exact pu124
  · exact pu124
noncomputable def m124 (a0 : Flat) (a1 : GStep) (a2 : Bool) : Option E124 :=
  match bif decide ((↑a1.fThen.length : Int) = 0) then
    some (decide ((↑a1.fElse.length : Int) = 0))
  else
    some (false) with
  | none =>
    none
  | some r1 =>
    match bif decide (0 ≤ a1.fVar) then
      bif decide (a1.fVar < (↑a0.fVars.length : Int)) then
        if (0 : Int) ≤ a1.fVar ∧ a1.fVar < (↑a0.fVars.length : Int) then
          some (decide (a0.fVars[a1.fVar.toNat]!.fKind = 0))
        else
          none
      else
        some (false)
    else
      some (false) with
    | none =>
      none
    | some r2 =>
      bif decide (a1.fDo = 0) then
        match bif r1 then
          bif r2 then
            bif decide (a1.fN = 0) then
              some (decide ((↑a1.fBounds.length : Int) = 0))
            else
              some (false)
          else
            some (false)
        else
          some (false) with
        | none =>
          none
        | some r3 =>
          some (r3)
      else
        bif decide (a1.fDo = 1) then
          match bif r1 then
            bif decide (a1.fVar = 0) then
              bif decide (a1.fN = 0) then
                some (decide ((↑a1.fBounds.length : Int) = 0))
              else
                some (false)
            else
              some (false)
          else
            some (false) with
          | none =>
            none
          | some r4 =>
            some (r4)
        else
          bif decide (a1.fDo = 2) then
            match bif r1 then
              bif decide (a1.fVar = 0) then
                bif decide (a1.fN = 0) then
                  bif decide ((↑a1.fBounds.length : Int) = 0) then
                    some (m172 (GTerm.mk a1.fTerm.fOp a1.fTerm.fN a1.fTerm.fKids))
                  else
                    some (false)
                else
                  some (false)
              else
                some (false)
            else
              some (false) with
            | none =>
              none
            | some r5 =>
              some (r5)
          else
            bif decide (a1.fDo = 3) then
              match bif decide (a1.fVar = 0) then
                bif decide (a1.fN = 0) then
                  some (decide ((↑a1.fBounds.length : Int) = 0))
                else
                  some (false)
              else
                some (false) with
              | none =>
                none
              | some r6 =>
                some (r6)
            else
              bif decide (a1.fDo = 4) then
                match bif decide (a1.fVar = 0) then
                  bif decide ((↑a1.fElse.length : Int) = 0) then
                    some (decide ((↑a1.fBounds.length : Int) = 0))
                  else
                    some (false)
                else
                  some (false) with
                | none =>
                  none
                | some r7 =>
                  some (r7)
              else
                bif decide (a1.fDo = 5) then
                  match bif r1 then
                    bif r2 then
                      bif decide (0 ≤ a1.fN) then
                        bif decide (a1.fN < (↑a0.fHatches.length : Int)) then
                          bif decide ((↑a1.fBounds.length : Int) = 0) then
                            some (m172 (GTerm.mk a1.fTerm.fOp a1.fTerm.fN a1.fTerm.fKids))
                          else
                            some (false)
                        else
                          some (false)
                      else
                        some (false)
                    else
                      some (false)
                  else
                    some (false) with
                  | none =>
                    none
                  | some r8 =>
                    some (r8)
                else
                  bif decide (a1.fDo = 6) then
                    match bif r1 then
                      bif a2 then
                        bif decide (a1.fVar = 0) then
                          bif decide (a1.fN = 0) then
                            bif m172 (GTerm.mk a1.fTerm.fOp a1.fTerm.fN a1.fTerm.fKids) then
                              match m173 a1.fBounds with
                              | none =>
                                none
                              | some r9 =>
                                some (r9)
                            else
                              some (false)
                          else
                            some (false)
                        else
                          some (false)
                      else
                        some (false)
                    else
                      some (false) with
                    | none =>
                      none
                    | some r10 =>
                      some (r10)
                  else
                    some (false)
theorem c124 (a0 : Flat) (a1 : GStep) (a2 : Bool) : callR Tryz.prog (F124) 300 (an124) 124 [.agg (uni.cells 26 a0), .agg (uni.cells 134 a1), .b a2] [] 0 rd124_e = m124 a0 a1 a2 := by kernel_rfl
noncomputable def o124 (x : E124) : Out := match (match outOf Tryz.prog 124 (pt124_e x) with
    | some ds => some (Out.mk (resA ds) (keepR (pt124_e x).R 0 (resA ds)) (pt124_e x).nx)
    | none => none) with
  | some o => o
  | none => ⟨.tup [], [], 0⟩
theorem fn124 (a0 : Flat) (a1 : GStep) (a2 : Bool) (r : E124) (h : m124 a0 a1 a2 = some r) : fnOk Tryz.prog 124 ∧ FnY Tryz.prog 124 [.agg (uni.cells 26 a0), .agg (uni.cells 134 a1), .b a2] [] 0 (o124 r) :=
  fnY_of (p := r) F124_ok (fa124) rd124_e_ok (fun p => by kernel_rfl) (ltd_of (by kernel_rfl)) (rltd_of (by kernel_rfl)) ((c124 a0 a1 a2).trans h)
theorem fnok124 : fnOk Tryz.prog 124 := ⟨_, Tryz.func124, by kernel_rfl, by kernel_rfl⟩
noncomputable def e124 (F : Orc) : Orc := orL 124 false (pkC (asGc 26) (pkC (asGc 134) (pkC asB pkN))) (fun g => m124 g.1 g.2.1 g.2.2.1 : (Flat × GStep × Bool × Unit) → Option E124) o124 F
theorem e124_ok {F : Orc} (h : OrcG Tryz.prog F) : OrcG Tryz.prog (e124 F) := orL_g (sc := scU) h scU_ok fnok124 (ca := fun g => [.agg (uni.cells 26 g.1), .agg (uni.cells 134 g.2.1), .b g.2.2.1]) ((.cons (.g 26) (.cons (.g 134) (.cons .b .nil))) : PkN (pkC (asGc 26) (pkC (asGc 134) (pkC asB pkN))) _) (fun b => by kernel_rfl) (fun b => by kernel_rfl) (fun g b hb => (fn124 g.1 g.2.1 g.2.2.1 b hb).2)
theorem e124_pure {F : Orc} {f : Nat} (h : PureF F f) : PureF (e124 F) f := orL_pure h (fun b => by kernel_rfl)
/-! ### 63: keyhole/keyholeref17.checkSteps -/
abbrev E63 : Type := Int
abbrev P63_e : Type := (Int × Unit) × (Unit)
noncomputable def rb63_e : St → Option P63_e := stR 0 (slC 6 (asI .i64) slN) rsN
noncomputable def pb63_e : P63_e → St := stP 0 (fun z => [(6, .n .i64 z.1)]) (fun z => [])
noncomputable def mk63_e (z : P63_e) : E63 := z.1.1
noncomputable def pt63_e (x : E63) : St := pb63_e ((x, ()), (()))
noncomputable def rd63_e : St → Option E63 := rdC 0 [] [6] (rdM mk63_e rb63_e)
theorem rb63_e_ok (n : Nat) : RdOk 0 n rb63_e pb63_e := stR_ok (.cons (.i .i64) .nil) .nil
theorem rd63_e_ok (n : Nat) : RdOk 0 n rd63_e pt63_e := rdC_ok ((rb63_e_ok n).m mk63_e (pat' := pt63_e) fun _ => rfl)
noncomputable def o63 (x : E63) : Out := match (match outOf Tryz.prog 63 (pt63_e x) with
    | some ds => some (Out.mk (resA ds) (keepR (pt63_e x).R 0 (resA ds)) (pt63_e x).nx)
    | none => none) with
  | some o => o
  | none => ⟨.tup [], [], 0⟩
theorem fnok63 : fnOk Tryz.prog 63 := ⟨_, Tryz.func63, by kernel_rfl, by kernel_rfl⟩
noncomputable def x63 (M63 : Flat → (List GStep) → Bool → Option E63) (F : Orc) : Orc := orL 63 false (pkC (asGc 26) (pkC (asL 134) (pkC asB pkN))) (fun g => M63 g.1 g.2.1 g.2.2.1 : (Flat × (List GStep) × Bool × Unit) → Option E63) o63 F
theorem x63_pure {M : Flat → (List GStep) → Bool → Option E63} {F : Orc} {f : Nat} (h : PureF F f) : PureF (x63 M F) f := orL_pure h (fun b => by kernel_rfl)
def H63 (M : Flat → (List GStep) → Bool → Option E63) : Prop := ∀ (a0 : Flat) (a1 : List GStep) (a2 : Bool) (r : E63), M a0 a1 a2 = some r → FnY Tryz.prog 63 [.agg (uni.cells 26 a0), .sl 134 a1, .b a2] [] 0 (o63 r)
theorem x63_ok {M : Flat → (List GStep) → Bool → Option E63} (hM : H63 M) {F : Orc} (h : OrcG Tryz.prog F) : OrcG Tryz.prog (x63 M F) := orL_g (sc := scU) h scU_ok fnok63 (ca := fun g => [.agg (uni.cells 26 g.1), .sl 134 g.2.1, .b g.2.2.1]) ((.cons (.g 26) (.cons (.l 134) (.cons .b .nil))) : PkN (pkC (asGc 26) (pkC (asL 134) (pkC asB pkN))) _) (fun b => by kernel_rfl) (fun b => by kernel_rfl) (fun g b hb => hM g.1 g.2.1 g.2.2.1 b hb)
noncomputable def F63 (M63 : Flat → (List GStep) → Bool → Option E63) : Orc := (e124 (x63 M63 (e62 or0)))
theorem F63_ok {M63} (h63 : H63 M63) : OrcG Tryz.prog (F63 M63) := (e124_ok (x63_ok h63 (e62_ok or0_g)))
structure L63_0 where
  t1 : List GStep
  t2 : Bool
  t7 : Int
  b0 : Flat
abbrev P63_0 : Type := ((List GStep) × Bool × Unit × Int × Unit) × (Flat × Unit)
noncomputable def rb63_0 : St → Option P63_0 := stR 1 (slC 1 (asL 134) (slC 2 asB (slC 3 (asP 0 0) (slC 7 (asI .i64) slN)))) (rsN2 0 26 (asCs 26) rsN)
noncomputable def pb63_0 : P63_0 → St := stP 1 (fun z => [(1, .sl 134 z.1), (2, .b z.2.1), (3, .ptr 0 0), (7, .n .i64 z.2.2.2.1)]) (fun z => [(0, .box 26 (uni.cells 26 z.1))])
noncomputable def mk63_0 (z : P63_0) : L63_0 := ⟨z.1.1, z.1.2.1, z.1.2.2.2.1, z.2.1⟩
noncomputable def pt63_0 (x : L63_0) : St := pb63_0 ((x.t1, x.t2, (), x.t7, ()), (x.b0, ()))
noncomputable def rd63_0 : St → Option L63_0 := rdC 0 [] [1, 2, 3, 7] (rdM mk63_0 rb63_0)
theorem rb63_0_ok (n : Nat) : RdOk 0 n rb63_0 pb63_0 := stR_ok (.cons (.l 134) (.cons .b (.cons (.p 0 0) (.cons (.i .i64) .nil)))) (.boxN (PkN.parse 26) .nil)
theorem rd63_0_ok (n : Nat) : RdOk 0 n rd63_0 pt63_0 := rdC_ok ((rb63_0_ok n).m mk63_0 (pat' := pt63_0) fun _ => rfl)
noncomputable def n63_0 (M63 : Flat → (List GStep) → Bool → Option E63) (p : L63_0) : Option (Option L63_0) :=
  bif decide (p.t7 < (↑p.t1.length : Int)) then
    if (0 : Int) ≤ p.t7 ∧ p.t7 < (↑p.t1.length : Int) then
      match bif p.t2 then
        match m124 p.b0 (GStep.mk p.t1[p.t7.toNat]!.fDo p.t1[p.t7.toNat]!.fCost p.t1[p.t7.toNat]!.fVar p.t1[p.t7.toNat]!.fN (GTerm.mk p.t1[p.t7.toNat]!.fTerm.fOp p.t1[p.t7.toNat]!.fTerm.fN p.t1[p.t7.toNat]!.fTerm.fKids) p.t1[p.t7.toNat]!.fThen p.t1[p.t7.toNat]!.fElse p.t1[p.t7.toNat]!.fBounds) (decide (((p.t1, p.t2, (), p.t7, ()), p.b0, ()).fst.snd.snd.snd.fst = IntKind.i64.wrap ((↑((p.t1, p.t2, (), p.t7, ()), p.b0, ()).fst.fst.length : Int) - 1))) with
        | none =>
          none
        | some r1 =>
          some (bif r1 then false else true)
      else
        match m124 p.b0 (GStep.mk p.t1[p.t7.toNat]!.fDo p.t1[p.t7.toNat]!.fCost p.t1[p.t7.toNat]!.fVar p.t1[p.t7.toNat]!.fN (GTerm.mk p.t1[p.t7.toNat]!.fTerm.fOp p.t1[p.t7.toNat]!.fTerm.fN p.t1[p.t7.toNat]!.fTerm.fKids) p.t1[p.t7.toNat]!.fThen p.t1[p.t7.toNat]!.fElse p.t1[p.t7.toNat]!.fBounds) false with
        | none =>
          none
        | some r2 =>
          some (bif r2 then false else true) with
      | none =>
        none
      | some r3 =>
        bif r3 then
          some (none)
        else
          bif decide (p.t1[p.t7.toNat]!.fDo = 2) then
            match bif decide (p.t1[p.t7.toNat]!.fCost < 0) then
              some (true)
            else
              bif decide (67108864 < p.t1[p.t7.toNat]!.fCost) then
                some (true)
              else
                bif decide (p.t1[p.t7.toNat]!.fN < 0) then
                  some (true)
                else
                  bif decide (p.t1[p.t7.toNat]!.fDo = 4) then
                    some (decide (4096 < p.t1[p.t7.toNat]!.fN))
                  else
                    some (false) with
            | none =>
              none
            | some r4 =>
              bif r4 then
                some (none)
              else
                match bif decide (0 < (↑p.t1[p.t7.toNat]!.fBounds.length : Int)) then
                  if (0 : Int) ≤ IntKind.i64.wrap ((↑p.t1[p.t7.toNat]!.fBounds.length : Int) - (1 : Int)) ∧ IntKind.i64.wrap ((↑p.t1[p.t7.toNat]!.fBounds.length : Int) - (1 : Int)) < (↑p.t1[p.t7.toNat]!.fBounds.length : Int) then
                    some (decide (67108864 < ((p.t1, p.t2, (), p.t7, ()), p.b0, ()).fst.fst[((p.t1, p.t2, (), p.t7, ()), p.b0, ()).fst.snd.snd.snd.fst.toNat]!.fBounds[(IntKind.i64.wrap ((↑((p.t1, p.t2, (), p.t7, ()), p.b0, ()).fst.fst[((p.t1, p.t2, (), p.t7, ()), p.b0, ()).fst.snd.snd.snd.fst.toNat]!.fBounds.length : Int) - 1)).toNat]!))
                  else
                    none
                else
                  some (false) with
                | none =>
                  none
                | some r5 =>
                  bif r5 then
                    some (none)
                  else
                    match m62 p.b0.fVars (GTerm.mk p.t1[p.t7.toNat]!.fTerm.fOp p.t1[p.t7.toNat]!.fTerm.fN p.t1[p.t7.toNat]!.fTerm.fKids) false with
                    | none =>
                      none
                    | some r6 =>
                      bif bif decide (r6 = 0) then false else true then
                        some (none)
                      else
                        match M63 p.b0 p.t1[p.t7.toNat]!.fThen false with
                        | none =>
                          none
                        | some r7 =>
                          bif bif decide (r7 = 0) then false else true then
                            some (none)
                          else
                            match M63 p.b0 p.t1[p.t7.toNat]!.fElse false with
                            | none =>
                              none
                            | some r8 =>
                              bif bif decide (r8 = 0) then false else true then
                                some (none)
                              else
                                some (some (L63_0.mk p.t1 p.t2 (IntKind.i64.wrap (p.t7 + 1)) p.b0))
          else
            match bif decide (p.t1[p.t7.toNat]!.fCost < 0) then
              some (true)
            else
              bif decide (10000 < p.t1[p.t7.toNat]!.fCost) then
                some (true)
              else
                bif decide (p.t1[p.t7.toNat]!.fN < 0) then
                  some (true)
                else
                  bif decide (p.t1[p.t7.toNat]!.fDo = 4) then
                    some (decide (4096 < p.t1[p.t7.toNat]!.fN))
                  else
                    some (false) with
            | none =>
              none
            | some r9 =>
              bif r9 then
                some (none)
              else
                match bif decide (0 < (↑p.t1[p.t7.toNat]!.fBounds.length : Int)) then
                  if (0 : Int) ≤ IntKind.i64.wrap ((↑p.t1[p.t7.toNat]!.fBounds.length : Int) - (1 : Int)) ∧ IntKind.i64.wrap ((↑p.t1[p.t7.toNat]!.fBounds.length : Int) - (1 : Int)) < (↑p.t1[p.t7.toNat]!.fBounds.length : Int) then
                    some (decide (67108864 < ((p.t1, p.t2, (), p.t7, ()), p.b0, ()).fst.fst[((p.t1, p.t2, (), p.t7, ()), p.b0, ()).fst.snd.snd.snd.fst.toNat]!.fBounds[(IntKind.i64.wrap ((↑((p.t1, p.t2, (), p.t7, ()), p.b0, ()).fst.fst[((p.t1, p.t2, (), p.t7, ()), p.b0, ()).fst.snd.snd.snd.fst.toNat]!.fBounds.length : Int) - 1)).toNat]!))
                  else
                    none
                else
                  some (false) with
                | none =>
                  none
                | some r10 =>
                  bif r10 then
                    some (none)
                  else
                    match m62 p.b0.fVars (GTerm.mk p.t1[p.t7.toNat]!.fTerm.fOp p.t1[p.t7.toNat]!.fTerm.fN p.t1[p.t7.toNat]!.fTerm.fKids) false with
                    | none =>
                      none
                    | some r11 =>
                      bif bif decide (r11 = 0) then false else true then
                        some (none)
                      else
                        match M63 p.b0 p.t1[p.t7.toNat]!.fThen false with
                        | none =>
                          none
                        | some r12 =>
                          bif bif decide (r12 = 0) then false else true then
                            some (none)
                          else
                            match M63 p.b0 p.t1[p.t7.toNat]!.fElse false with
                            | none =>
                              none
                            | some r13 =>
                              bif bif decide (r13 = 0) then false else true then
                                some (none)
                              else
                                some (some (L63_0.mk p.t1 p.t2 (IntKind.i64.wrap (p.t7 + 1)) p.b0))
    else
      none
  else
    some (none)
theorem q63_0 (M63 : Flat → (List GStep) → Bool → Option E63) (p : L63_0) : execA Tryz.prog (F63 M63) Tryz.f63.ntmps 300 (loopAt Tryz.f63 0) (.two .no (.two (.two .no (.two (.two (.rb [124] 32) .no) (.two .no (.two .no (.two (.two (.rb [124] 59) .no) (.two (.two (.rb [124] 74) .no) .no)))))) .no)) (Option L63_0) (pt63_0 p) (kOn rd63_0) = n63_0 M63 p := by kernel_rfl
noncomputable def a63_0 (M63 : Flat → (List GStep) → Bool → Option E63) : L63_0 → Option L63_0 := advG (n63_0 M63)
noncomputable def an63 (M63 : Flat → (List GStep) → Bool → Option E63) : An := (.two .no (.two (.two .no (.lp L63_0 rd63_0 pt63_0 (a63_0 M63) (.two .no (.two (.two .no (.two (.two (.rb [124] 32) .no) (.two .no (.two .no (.two (.two (.rb [124] 59) .no) (.two (.two (.rb [124] 74) .no) .no)))))) .no)))) .no))
theorem pu63 {M63} : ∀ f ∈ ([124] : List Nat), PureF (F63 M63) f := fun f hf => by
  simp only [List.mem_cons, List.not_mem_nil, or_false] at hf
  rcases hf with rfl
  · exact (e124_pure (x63_pure (e62_pure or0_pure)))
theorem fa63 (M63 : Flat → (List GStep) → Bool → Option E63) : FnAn Tryz.prog (F63 M63) 0 300 63 (an63 M63) := fnAn_of (l := [(loopAt Tryz.f63 0, (.lp L63_0 rd63_0 pt63_0 (a63_0 M63) (.two .no (.two (.two .no (.two (.two (.rb [124] 32) .no) (.two .no (.two .no (.two (.two (.rb [124] 59) .no) (.two (.two (.rb [124] 74) .no) .no)))))) .no)))), (.skip, (.rb [124] 32)), (.skip, (.rb [124] 59)), (.skip, (.rb [124] 74))]) Tryz.func63 (bodyOf_eq (by kernel_rfl)) (by kernel_rfl) fun p hp => by
  simp only [List.mem_cons, List.not_mem_nil, or_false] at hp
  rcases hp with rfl | rfl | rfl | rfl
  · exact ⟨rd63_0_ok _, advG_ok (q63_0 M63)⟩
  · exact pu63
  · exact pu63
  · exact pu63
noncomputable def s63 (M63 : Flat → (List GStep) → Bool → Option E63) (a0 : Flat) (a1 : List GStep) (a2 : Bool) : Option E63 :=
  match a63_0 M63 (L63_0.mk a1 a2 (0) a0) with
  | none =>
    none
  | some r14 =>
    bif decide (r14.t7 < (↑r14.t1.length : Int)) then
      if (0 : Int) ≤ r14.t7 ∧ r14.t7 < (↑r14.t1.length : Int) then
        match bif r14.t2 then
          match m124 r14.b0 (GStep.mk r14.t1[r14.t7.toNat]!.fDo r14.t1[r14.t7.toNat]!.fCost r14.t1[r14.t7.toNat]!.fVar r14.t1[r14.t7.toNat]!.fN (GTerm.mk r14.t1[r14.t7.toNat]!.fTerm.fOp r14.t1[r14.t7.toNat]!.fTerm.fN r14.t1[r14.t7.toNat]!.fTerm.fKids) r14.t1[r14.t7.toNat]!.fThen r14.t1[r14.t7.toNat]!.fElse r14.t1[r14.t7.toNat]!.fBounds) (decide (((r14.t1, r14.t2, (), r14.t7, ()), r14.b0, ()).fst.snd.snd.snd.fst = IntKind.i64.wrap ((↑((r14.t1, r14.t2, (), r14.t7, ()), r14.b0, ()).fst.fst.length : Int) - 1))) with
          | none =>
            none
          | some r15 =>
            some (bif r15 then false else true)
        else
          match m124 r14.b0 (GStep.mk r14.t1[r14.t7.toNat]!.fDo r14.t1[r14.t7.toNat]!.fCost r14.t1[r14.t7.toNat]!.fVar r14.t1[r14.t7.toNat]!.fN (GTerm.mk r14.t1[r14.t7.toNat]!.fTerm.fOp r14.t1[r14.t7.toNat]!.fTerm.fN r14.t1[r14.t7.toNat]!.fTerm.fKids) r14.t1[r14.t7.toNat]!.fThen r14.t1[r14.t7.toNat]!.fElse r14.t1[r14.t7.toNat]!.fBounds) false with
          | none =>
            none
          | some r16 =>
            some (bif r16 then false else true) with
        | none =>
          none
        | some r17 =>
          bif r17 then
            some (1)
          else
            bif decide (r14.t1[r14.t7.toNat]!.fDo = 2) then
              match bif decide (r14.t1[r14.t7.toNat]!.fCost < 0) then
                some (true)
              else
                bif decide (67108864 < r14.t1[r14.t7.toNat]!.fCost) then
                  some (true)
                else
                  bif decide (r14.t1[r14.t7.toNat]!.fN < 0) then
                    some (true)
                  else
                    bif decide (r14.t1[r14.t7.toNat]!.fDo = 4) then
                      some (decide (4096 < r14.t1[r14.t7.toNat]!.fN))
                    else
                      some (false) with
              | none =>
                none
              | some r18 =>
                bif r18 then
                  some (3)
                else
                  match bif decide (0 < (↑r14.t1[r14.t7.toNat]!.fBounds.length : Int)) then
                    if (0 : Int) ≤ IntKind.i64.wrap ((↑r14.t1[r14.t7.toNat]!.fBounds.length : Int) - (1 : Int)) ∧ IntKind.i64.wrap ((↑r14.t1[r14.t7.toNat]!.fBounds.length : Int) - (1 : Int)) < (↑r14.t1[r14.t7.toNat]!.fBounds.length : Int) then
                      some (decide (67108864 < ((r14.t1, r14.t2, (), r14.t7, ()), r14.b0, ()).fst.fst[((r14.t1, r14.t2, (), r14.t7, ()), r14.b0, ()).fst.snd.snd.snd.fst.toNat]!.fBounds[(IntKind.i64.wrap ((↑((r14.t1, r14.t2, (), r14.t7, ()), r14.b0, ()).fst.fst[((r14.t1, r14.t2, (), r14.t7, ()), r14.b0, ()).fst.snd.snd.snd.fst.toNat]!.fBounds.length : Int) - 1)).toNat]!))
                    else
                      none
                  else
                    some (false) with
                  | none =>
                    none
                  | some r19 =>
                    bif r19 then
                      some (3)
                    else
                      match m62 r14.b0.fVars (GTerm.mk r14.t1[r14.t7.toNat]!.fTerm.fOp r14.t1[r14.t7.toNat]!.fTerm.fN r14.t1[r14.t7.toNat]!.fTerm.fKids) false with
                      | none =>
                        none
                      | some r20 =>
                        bif bif decide (r20 = 0) then false else true then
                          some (r20)
                        else
                          match M63 r14.b0 r14.t1[r14.t7.toNat]!.fThen false with
                          | none =>
                            none
                          | some r21 =>
                            bif bif decide (r21 = 0) then false else true then
                              some (r21)
                            else
                              match M63 r14.b0 r14.t1[r14.t7.toNat]!.fElse false with
                              | none =>
                                none
                              | some r22 =>
                                bif bif decide (r22 = 0) then false else true then
                                  some (r22)
                                else
                                  none
            else
              match bif decide (r14.t1[r14.t7.toNat]!.fCost < 0) then
                some (true)
              else
                bif decide (10000 < r14.t1[r14.t7.toNat]!.fCost) then
                  some (true)
                else
                  bif decide (r14.t1[r14.t7.toNat]!.fN < 0) then
                    some (true)
                  else
                    bif decide (r14.t1[r14.t7.toNat]!.fDo = 4) then
                      some (decide (4096 < r14.t1[r14.t7.toNat]!.fN))
                    else
                      some (false) with
              | none =>
                none
              | some r23 =>
                bif r23 then
                  some (3)
                else
                  match bif decide (0 < (↑r14.t1[r14.t7.toNat]!.fBounds.length : Int)) then
                    if (0 : Int) ≤ IntKind.i64.wrap ((↑r14.t1[r14.t7.toNat]!.fBounds.length : Int) - (1 : Int)) ∧ IntKind.i64.wrap ((↑r14.t1[r14.t7.toNat]!.fBounds.length : Int) - (1 : Int)) < (↑r14.t1[r14.t7.toNat]!.fBounds.length : Int) then
                      some (decide (67108864 < ((r14.t1, r14.t2, (), r14.t7, ()), r14.b0, ()).fst.fst[((r14.t1, r14.t2, (), r14.t7, ()), r14.b0, ()).fst.snd.snd.snd.fst.toNat]!.fBounds[(IntKind.i64.wrap ((↑((r14.t1, r14.t2, (), r14.t7, ()), r14.b0, ()).fst.fst[((r14.t1, r14.t2, (), r14.t7, ()), r14.b0, ()).fst.snd.snd.snd.fst.toNat]!.fBounds.length : Int) - 1)).toNat]!))
                    else
                      none
                  else
                    some (false) with
                  | none =>
                    none
                  | some r24 =>
                    bif r24 then
                      some (3)
                    else
                      match m62 r14.b0.fVars (GTerm.mk r14.t1[r14.t7.toNat]!.fTerm.fOp r14.t1[r14.t7.toNat]!.fTerm.fN r14.t1[r14.t7.toNat]!.fTerm.fKids) false with
                      | none =>
                        none
                      | some r25 =>
                        bif bif decide (r25 = 0) then false else true then
                          some (r25)
                        else
                          match M63 r14.b0 r14.t1[r14.t7.toNat]!.fThen false with
                          | none =>
                            none
                          | some r26 =>
                            bif bif decide (r26 = 0) then false else true then
                              some (r26)
                            else
                              match M63 r14.b0 r14.t1[r14.t7.toNat]!.fElse false with
                              | none =>
                                none
                              | some r27 =>
                                bif bif decide (r27 = 0) then false else true then
                                  some (r27)
                                else
                                  none
      else
        none
    else
      some (0)
theorem c63 (M63 : Flat → (List GStep) → Bool → Option E63) (a0 : Flat) (a1 : List GStep) (a2 : Bool) : callR Tryz.prog (F63 M63) 300 (an63 M63) 63 [.agg (uni.cells 26 a0), .sl 134 a1, .b a2] [] 0 rd63_e = s63 M63 a0 a1 a2 := by kernel_rfl
noncomputable def mm63 : Nat → (Flat → (List GStep) → Bool → Option E63)
  | 0 => (fun _ _ _ => none)
  | n + 1 => (s63 (mm63 n))
noncomputable def m63 (n : Nat) : Flat → (List GStep) → Bool → Option E63 := (mm63 n)
theorem mm63_ok : ∀ n, H63 (m63 n)
  | 0 => fun _ _ _ _ h => by cases h
  | n + 1 => by
    have ih := mm63_ok n
    have i63 := ih
    exact fun a0 a1 a2 r h => (fnY_of (p := r) (F63_ok i63) (fa63 (m63 n)) rd63_e_ok (fun p => by kernel_rfl) (ltd_of (by kernel_rfl)) (rltd_of (by kernel_rfl)) ((c63 (m63 n) a0 a1 a2).trans h)).2
noncomputable def r63 : Flat → (List GStep) → Bool → Option E63 := fun a0 a1 a2 => lim (fun n => m63 n a0 a1 a2)
theorem r63_ok : H63 r63 := fun a0 a1 a2 r h => by
  obtain ⟨n, hn⟩ := lim_some h
  exact (mm63_ok n) a0 a1 a2 r hn
noncomputable def e63 (F : Orc) : Orc := x63 r63 F
theorem e63_ok {F : Orc} (h : OrcG Tryz.prog F) : OrcG Tryz.prog (e63 F) := x63_ok r63_ok h
theorem e63_pure {F : Orc} {f : Nat} (h : PureF F f) : PureF (e63 F) f := x63_pure h
/-! ### 64: keyhole/keyholeref17.Bounds -/
abbrev E64 : Type := Int × Int × Int
abbrev P64_e : Type := (Int × Int × Int × Unit) × (Unit)
noncomputable def rb64_e : St → Option P64_e := stR 0 (slC 2 (asI .i64) (slC 3 (asI .i64) (slC 4 (asI .i64) slN))) rsN
noncomputable def pb64_e : P64_e → St := stP 0 (fun z => [(2, .n .i64 z.1), (3, .n .i64 z.2.1), (4, .n .i64 z.2.2.1)]) (fun z => [])
noncomputable def mk64_e (z : P64_e) : E64 := (z.1.1, z.1.2.1, z.1.2.2.1)
noncomputable def pt64_e (x : E64) : St := pb64_e ((x.1, x.2.1, x.2.2, ()), (()))
noncomputable def rd64_e : St → Option E64 := rdC 0 [] [2, 3, 4] (rdM mk64_e rb64_e)
theorem rb64_e_ok (n : Nat) : RdOk 0 n rb64_e pb64_e := stR_ok (.cons (.i .i64) (.cons (.i .i64) (.cons (.i .i64) .nil))) .nil
theorem rd64_e_ok (n : Nat) : RdOk 0 n rd64_e pt64_e := rdC_ok ((rb64_e_ok n).m mk64_e (pat' := pt64_e) fun _ => rfl)
noncomputable def o64 (x : E64) : Out := match (match outOf Tryz.prog 64 (pt64_e x) with
    | some ds => some (Out.mk (resA ds) (keepR (pt64_e x).R 0 (resA ds)) (pt64_e x).nx)
    | none => none) with
  | some o => o
  | none => ⟨.tup [], [], 0⟩
theorem fnok64 : fnOk Tryz.prog 64 := ⟨_, Tryz.func64, by kernel_rfl, by kernel_rfl⟩
noncomputable def x64 (M64 : (List GStep) → Option E64) (F : Orc) : Orc := orL 64 false (pkC (asL 134) pkN) (fun g => M64 g.1 : ((List GStep) × Unit) → Option E64) o64 F
theorem x64_pure {M : (List GStep) → Option E64} {F : Orc} {f : Nat} (h : PureF F f) : PureF (x64 M F) f := orL_pure h (fun b => by kernel_rfl)
def H64 (M : (List GStep) → Option E64) : Prop := ∀ (a0 : List GStep) (r : E64), M a0 = some r → FnY Tryz.prog 64 [.sl 134 a0] [] 0 (o64 r)
theorem x64_ok {M : (List GStep) → Option E64} (hM : H64 M) {F : Orc} (h : OrcG Tryz.prog F) : OrcG Tryz.prog (x64 M F) := orL_g (sc := scU) h scU_ok fnok64 (ca := fun g => [.sl 134 g.1]) ((.cons (.l 134) .nil) : PkN (pkC (asL 134) pkN) _) (fun b => by kernel_rfl) (fun b => by kernel_rfl) (fun g b hb => hM g.1 b hb)
noncomputable def F64 (M64 : (List GStep) → Option E64) : Orc := (e126 (e125 (x64 M64 or0)))
theorem F64_ok {M64} (h64 : H64 M64) : OrcG Tryz.prog (F64 M64) := (e126_ok (e125_ok (x64_ok h64 or0_g)))
structure L64_0 where
  t0 : List GStep
  t5 : Int
  t6 : Int
  t7 : Int
  t8 : Int
abbrev P64_0 : Type := ((List GStep) × Int × Int × Int × Int × Unit) × (Unit)
noncomputable def rb64_0 : St → Option P64_0 := stR 0 (slC 0 (asL 134) (slC 5 (asI .i64) (slC 6 (asI .i64) (slC 7 (asI .i64) (slC 8 (asI .i64) slN))))) rsN
noncomputable def pb64_0 : P64_0 → St := stP 0 (fun z => [(0, .sl 134 z.1), (5, .n .i64 z.2.1), (6, .n .i64 z.2.2.1), (7, .n .i64 z.2.2.2.1), (8, .n .i64 z.2.2.2.2.1)]) (fun z => [])
noncomputable def mk64_0 (z : P64_0) : L64_0 := ⟨z.1.1, z.1.2.1, z.1.2.2.1, z.1.2.2.2.1, z.1.2.2.2.2.1⟩
noncomputable def pt64_0 (x : L64_0) : St := pb64_0 ((x.t0, x.t5, x.t6, x.t7, x.t8, ()), (()))
noncomputable def rd64_0 : St → Option L64_0 := rdC 0 [] [0, 5, 6, 7, 8] (rdM mk64_0 rb64_0)
theorem rb64_0_ok (n : Nat) : RdOk 0 n rb64_0 pb64_0 := stR_ok (.cons (.l 134) (.cons (.i .i64) (.cons (.i .i64) (.cons (.i .i64) (.cons (.i .i64) .nil))))) .nil
theorem rd64_0_ok (n : Nat) : RdOk 0 n rd64_0 pt64_0 := rdC_ok ((rb64_0_ok n).m mk64_0 (pat' := pt64_0) fun _ => rfl)
noncomputable def n64_0 (M64 : (List GStep) → Option E64) (p : L64_0) : Option (Option L64_0) :=
  bif decide (p.t8 < (↑p.t0.length : Int)) then
    if (0 : Int) ≤ p.t8 ∧ p.t8 < (↑p.t0.length : Int) then
      match M64 p.t0[p.t8.toNat]!.fThen with
      | none =>
        none
      | some r1 =>
        match M64 p.t0[p.t8.toNat]!.fElse with
        | none =>
          none
        | some r2 =>
          bif decide (p.t0[p.t8.toNat]!.fDo = 4) then
            bif decide (p.t0[p.t8.toNat]!.fDo = 1) then
              some (some (L64_0.mk p.t0 (m126 (IntKind.i64.wrap (p.t5 + IntKind.i64.wrap (1 + IntKind.i64.wrap (p.t0[p.t8.toNat]!.fN * IntKind.i64.wrap (1 + r1.fst))))) (4097)) (m126 (IntKind.i64.wrap (p.t6 + 1)) (9)) (m126 (IntKind.i64.wrap (p.t7 + IntKind.i64.wrap (p.t0[p.t8.toNat]!.fN * IntKind.i64.wrap (p.t0[p.t8.toNat]!.fCost + r1.snd.snd)))) (67108865)) (IntKind.i64.wrap (p.t8 + 1))))
            else
              some (some (L64_0.mk p.t0 (m126 (IntKind.i64.wrap (p.t5 + IntKind.i64.wrap (1 + IntKind.i64.wrap (p.t0[p.t8.toNat]!.fN * IntKind.i64.wrap (1 + r1.fst))))) (4097)) (m126 (IntKind.i64.wrap (p.t6 + IntKind.i64.wrap (p.t0[p.t8.toNat]!.fN * r1.snd.fst))) (9)) (m126 (IntKind.i64.wrap (p.t7 + IntKind.i64.wrap (p.t0[p.t8.toNat]!.fN * IntKind.i64.wrap (p.t0[p.t8.toNat]!.fCost + r1.snd.snd)))) (67108865)) (IntKind.i64.wrap (p.t8 + 1))))
          else
            bif decide (p.t0[p.t8.toNat]!.fDo = 1) then
              some (some (L64_0.mk p.t0 (m126 (IntKind.i64.wrap (p.t5 + IntKind.i64.wrap (1 + m125 r1.fst r2.fst))) (4097)) (m126 (IntKind.i64.wrap (p.t6 + 1)) (9)) (m126 (IntKind.i64.wrap (p.t7 + IntKind.i64.wrap (p.t0[p.t8.toNat]!.fCost + m125 r1.snd.snd r2.snd.snd))) (67108865)) (IntKind.i64.wrap (p.t8 + 1))))
            else
              some (some (L64_0.mk p.t0 (m126 (IntKind.i64.wrap (p.t5 + IntKind.i64.wrap (1 + m125 r1.fst r2.fst))) (4097)) (m126 (IntKind.i64.wrap (p.t6 + m125 r1.snd.fst r2.snd.fst)) (9)) (m126 (IntKind.i64.wrap (p.t7 + IntKind.i64.wrap (p.t0[p.t8.toNat]!.fCost + m125 r1.snd.snd r2.snd.snd))) (67108865)) (IntKind.i64.wrap (p.t8 + 1))))
    else
      none
  else
    some (none)
theorem q64_0 (M64 : (List GStep) → Option E64) (p : L64_0) : execA Tryz.prog (F64 M64) Tryz.f64.ntmps 300 (loopAt Tryz.f64 0) .no (Option L64_0) (pt64_0 p) (kOn rd64_0) = n64_0 M64 p := by kernel_rfl
noncomputable def a64_0 (M64 : (List GStep) → Option E64) : L64_0 → Option L64_0 := advG (n64_0 M64)
noncomputable def an64 (M64 : (List GStep) → Option E64) : An := (.two .no (.two .no (.two (.two .no (.lp L64_0 rd64_0 pt64_0 (a64_0 M64) .no)) .no)))
theorem fa64 (M64 : (List GStep) → Option E64) : FnAn Tryz.prog (F64 M64) 0 300 64 (an64 M64) := fnAn_of (l := [(loopAt Tryz.f64 0, (.lp L64_0 rd64_0 pt64_0 (a64_0 M64) .no))]) Tryz.func64 (bodyOf_eq (by kernel_rfl)) (by kernel_rfl) fun p hp => by
  simp only [List.mem_cons, List.not_mem_nil, or_false] at hp
  rcases hp with rfl
  · exact ⟨rd64_0_ok _, advG_ok (q64_0 M64)⟩
noncomputable def s64 (M64 : (List GStep) → Option E64) (a0 : List GStep) : Option E64 :=
  match a64_0 M64 (L64_0.mk a0 (0) (0) (0) (0)) with
  | none =>
    none
  | some r3 =>
    bif decide (r3.t8 < (↑r3.t0.length : Int)) then
      if (0 : Int) ≤ r3.t8 ∧ r3.t8 < (↑r3.t0.length : Int) then
        match M64 r3.t0[r3.t8.toNat]!.fThen with
        | none =>
          none
        | some r4 =>
          match M64 r3.t0[r3.t8.toNat]!.fElse with
          | none =>
            none
          | some r5 =>
            bif decide (r3.t0[r3.t8.toNat]!.fDo = 4) then
              bif decide (r3.t0[r3.t8.toNat]!.fDo = 1) then
                none
              else
                none
            else
              bif decide (r3.t0[r3.t8.toNat]!.fDo = 1) then
                none
              else
                none
      else
        none
    else
      some ((r3.t5, r3.t6, r3.t7))
theorem c64 (M64 : (List GStep) → Option E64) (a0 : List GStep) : callR Tryz.prog (F64 M64) 300 (an64 M64) 64 [.sl 134 a0] [] 0 rd64_e = s64 M64 a0 := by kernel_rfl
noncomputable def mm64 : Nat → ((List GStep) → Option E64)
  | 0 => (fun _ => none)
  | n + 1 => (s64 (mm64 n))
noncomputable def m64 (n : Nat) : (List GStep) → Option E64 := (mm64 n)
theorem mm64_ok : ∀ n, H64 (m64 n)
  | 0 => fun _ _ h => by cases h
  | n + 1 => by
    have ih := mm64_ok n
    have i64 := ih
    exact fun a0 r h => (fnY_of (p := r) (F64_ok i64) (fa64 (m64 n)) rd64_e_ok (fun p => by kernel_rfl) (ltd_of (by kernel_rfl)) (rltd_of (by kernel_rfl)) ((c64 (m64 n) a0).trans h)).2
noncomputable def r64 : (List GStep) → Option E64 := fun a0 => lim (fun n => m64 n a0)
theorem r64_ok : H64 r64 := fun a0 r h => by
  obtain ⟨n, hn⟩ := lim_some h
  exact (mm64_ok n) a0 r hn
noncomputable def e64 (F : Orc) : Orc := x64 r64 F
theorem e64_ok {F : Orc} (h : OrcG Tryz.prog F) : OrcG Tryz.prog (e64 F) := x64_ok r64_ok h
theorem e64_pure {F : Orc} {f : Nat} (h : PureF F f) : PureF (e64 F) f := x64_pure h
/-! ### 18: keyhole/keyholeref17.Check -/
noncomputable def F18 : Orc := (e64 (e63 (e62 (e61 (e60 (e59 (e58 or0)))))))
theorem F18_ok : OrcG Tryz.prog F18 := (e64_ok (e63_ok (e62_ok (e61_ok (e60_ok (e59_ok (e58_ok or0_g)))))))
structure L18_1 where
  t4 : Int
  t6 : Int
  b0 : Flat
  b1 : Hatch
abbrev P18_1 : Type := (Unit × Int × Unit × Int × Unit) × (Flat × Hatch × Unit)
noncomputable def rb18_1 : St → Option P18_1 := stR 2 (slC 1 (asP 0 0) (slC 4 (asI .i64) (slC 5 (asP 1 0) (slC 6 (asI .i64) slN)))) (rsN2 0 26 (asCs 26) (rsN2 1 99 (asCs 99) rsN))
noncomputable def pb18_1 : P18_1 → St := stP 2 (fun z => [(1, .ptr 0 0), (4, .n .i64 z.2.1), (5, .ptr 1 0), (6, .n .i64 z.2.2.2.1)]) (fun z => [(0, .box 26 (uni.cells 26 z.1)), (1, .box 99 (uni.cells 99 z.2.1))])
noncomputable def mk18_1 (z : P18_1) : L18_1 := ⟨z.1.2.1, z.1.2.2.2.1, z.2.1, z.2.2.1⟩
noncomputable def pt18_1 (x : L18_1) : St := pb18_1 (((), x.t4, (), x.t6, ()), (x.b0, x.b1, ()))
noncomputable def rd18_1 : St → Option L18_1 := rdC 0 [] [1, 4, 5, 6] (rdM mk18_1 rb18_1)
theorem rb18_1_ok (n : Nat) : RdOk 0 n rb18_1 pb18_1 := stR_ok (.cons (.p 0 0) (.cons (.i .i64) (.cons (.p 1 0) (.cons (.i .i64) .nil)))) (.boxN (PkN.parse 26) (.boxN (PkN.parse 99) .nil))
theorem rd18_1_ok (n : Nat) : RdOk 0 n rd18_1 pt18_1 := rdC_ok ((rb18_1_ok n).m mk18_1 (pat' := pt18_1) fun _ => rfl)
noncomputable def n18_1 (p : L18_1) : Option (Option L18_1) :=
  bif decide (p.t6 < p.t4) then
    if (0 : Int) ≤ p.t6 ∧ p.t6 < (↑p.b0.fHatches.length : Int) then
      bif p.b0.fHatches[p.t6.toNat]!.fName.toList == p.b1.fName.toList then
        some (none)
      else
        some (some (L18_1.mk p.t4 (IntKind.i64.wrap (p.t6 + 1)) p.b0 (Hatch.mk p.b1.fName p.b1.fLow p.b1.fHigh (GTerm.mk p.b1.fTerm.fOp p.b1.fTerm.fN p.b1.fTerm.fKids))))
    else
      none
  else
    some (none)
theorem q18_1 (p : L18_1) : execA Tryz.prog (F18) Tryz.f18.ntmps 300 (loopAt Tryz.f18 1) .no (Option L18_1) (pt18_1 p) (kOn rd18_1) = n18_1 p := by kernel_rfl
noncomputable def a18_1 : L18_1 → Option L18_1 := advG (n18_1)
structure L18_0 where
  t4 : Int
  b0 : Flat
abbrev P18_0 : Type := (Unit × Int × Unit) × (Flat × Unit)
noncomputable def rb18_0 : St → Option P18_0 := stR 1 (slC 1 (asP 0 0) (slC 4 (asI .i64) slN)) (rsN2 0 26 (asCs 26) rsN)
noncomputable def pb18_0 : P18_0 → St := stP 1 (fun z => [(1, .ptr 0 0), (4, .n .i64 z.2.1)]) (fun z => [(0, .box 26 (uni.cells 26 z.1))])
noncomputable def mk18_0 (z : P18_0) : L18_0 := ⟨z.1.2.1, z.2.1⟩
noncomputable def pt18_0 (x : L18_0) : St := pb18_0 (((), x.t4, ()), (x.b0, ()))
noncomputable def rd18_0 : St → Option L18_0 := rdC 0 [] [1, 4] (rdM mk18_0 rb18_0)
theorem rb18_0_ok (n : Nat) : RdOk 0 n rb18_0 pb18_0 := stR_ok (.cons (.p 0 0) (.cons (.i .i64) .nil)) (.boxN (PkN.parse 26) .nil)
theorem rd18_0_ok (n : Nat) : RdOk 0 n rd18_0 pt18_0 := rdC_ok ((rb18_0_ok n).m mk18_0 (pat' := pt18_0) fun _ => rfl)
noncomputable def n18_0 (p : L18_0) : Option (Option L18_0) :=
  bif decide (p.t4 < (↑p.b0.fHatches.length : Int)) then
    if (0 : Int) ≤ p.t4 ∧ p.t4 < (↑p.b0.fHatches.length : Int) then
      match m60 p.b0.fHatches[p.t4.toNat]!.fName with
      | none =>
        none
      | some r1 =>
        bif bif r1 then false else true then
          some (none)
        else
          match a18_1 (L18_1.mk p.t4 (0) p.b0 (Hatch.mk p.b0.fHatches[p.t4.toNat]!.fName p.b0.fHatches[p.t4.toNat]!.fLow p.b0.fHatches[p.t4.toNat]!.fHigh (GTerm.mk p.b0.fHatches[p.t4.toNat]!.fTerm.fOp p.b0.fHatches[p.t4.toNat]!.fTerm.fN p.b0.fHatches[p.t4.toNat]!.fTerm.fKids))) with
          | none =>
            none
          | some r2 =>
            bif decide (r2.t6 < r2.t4) then
              if (0 : Int) ≤ r2.t6 ∧ r2.t6 < (↑r2.b0.fHatches.length : Int) then
                bif r2.b0.fHatches[r2.t6.toNat]!.fName.toList == r2.b1.fName.toList then
                  some (none)
                else
                  none
              else
                none
            else
              bif bif m61 r2.b1.fLow r2.b1.fHigh then false else true then
                some (none)
              else
                match m62 r2.b0.fVars (GTerm.mk r2.b1.fTerm.fOp r2.b1.fTerm.fN r2.b1.fTerm.fKids) true with
                | none =>
                  none
                | some r3 =>
                  bif bif decide (r3 = 0) then false else true then
                    some (none)
                  else
                    some (some (L18_0.mk (IntKind.i64.wrap (r2.t4 + 1)) r2.b0))
    else
      none
  else
    some (none)
theorem q18_0 (p : L18_0) : execA Tryz.prog (F18) Tryz.f18.ntmps 300 (loopAt Tryz.f18 0) (.two .no (.two (.two .no (.two .no (.two (.two .no (.lp L18_1 rd18_1 pt18_1 a18_1 .no)) .no))) .no)) (Option L18_0) (pt18_0 p) (kOn rd18_0) = n18_0 p := by kernel_rfl
noncomputable def a18_0 : L18_0 → Option L18_0 := advG (n18_0)
abbrev E18 : Type := Int
abbrev P18_e : Type := (Int × Unit) × (Unit)
noncomputable def rb18_e : St → Option P18_e := stR 0 (slC 2 (asI .i64) slN) rsN
noncomputable def pb18_e : P18_e → St := stP 0 (fun z => [(2, .n .i64 z.1)]) (fun z => [])
noncomputable def mk18_e (z : P18_e) : E18 := z.1.1
noncomputable def pt18_e (x : E18) : St := pb18_e ((x, ()), (()))
noncomputable def rd18_e : St → Option E18 := rdC 0 [] [2] (rdM mk18_e rb18_e)
theorem rb18_e_ok (n : Nat) : RdOk 0 n rb18_e pb18_e := stR_ok (.cons (.i .i64) .nil) .nil
theorem rd18_e_ok (n : Nat) : RdOk 0 n rd18_e pt18_e := rdC_ok ((rb18_e_ok n).m mk18_e (pat' := pt18_e) fun _ => rfl)
noncomputable def an18 : An := (.two .no (.two .no (.two .no (.two .no (.two (.two .no (.lp L18_0 rd18_0 pt18_0 a18_0 (.two .no (.two (.two .no (.two .no (.two (.two .no (.lp L18_1 rd18_1 pt18_1 a18_1 .no)) .no))) .no)))) (.two .no (.two .no (.two .no (.two (.two (.rb [] 86) .no) .no)))))))))
theorem pu18  : ∀ f ∈ ([] : List Nat), PureF (F18) f := fun f hf => by
  cases hf
theorem fa18 : FnAn Tryz.prog (F18) 0 300 18 (an18) := fnAn_of (l := [(loopAt Tryz.f18 0, (.lp L18_0 rd18_0 pt18_0 a18_0 (.two .no (.two (.two .no (.two .no (.two (.two .no (.lp L18_1 rd18_1 pt18_1 a18_1 .no)) .no))) .no)))), (loopAt Tryz.f18 1, (.lp L18_1 rd18_1 pt18_1 a18_1 .no)), (.skip, (.rb [] 86))]) Tryz.func18 (bodyOf_eq (by kernel_rfl)) (by kernel_rfl) fun p hp => by
  simp only [List.mem_cons, List.not_mem_nil, or_false] at hp
  rcases hp with rfl | rfl | rfl
  · exact ⟨rd18_0_ok _, advG_ok (q18_0)⟩
  · exact ⟨rd18_1_ok _, advG_ok (q18_1)⟩
  · exact pu18
noncomputable def m18 (a0 : Flat) : Option E18 :=
  match m58 a0 with
  | none =>
    none
  | some r4 =>
    bif bif r4 then false else true then
      some (4)
    else
      match m59 a0.fVars with
      | none =>
        none
      | some r5 =>
        bif bif decide (r5 = 0) then false else true then
          some (r5)
        else
          match a18_0 (L18_0.mk (0) a0) with
          | none =>
            none
          | some r6 =>
            bif decide (r6.t4 < (↑r6.b0.fHatches.length : Int)) then
              if (0 : Int) ≤ r6.t4 ∧ r6.t4 < (↑r6.b0.fHatches.length : Int) then
                match m60 r6.b0.fHatches[r6.t4.toNat]!.fName with
                | none =>
                  none
                | some r7 =>
                  bif bif r7 then false else true then
                    some (7)
                  else
                    match a18_1 (L18_1.mk r6.t4 (0) r6.b0 (Hatch.mk r6.b0.fHatches[r6.t4.toNat]!.fName r6.b0.fHatches[r6.t4.toNat]!.fLow r6.b0.fHatches[r6.t4.toNat]!.fHigh (GTerm.mk r6.b0.fHatches[r6.t4.toNat]!.fTerm.fOp r6.b0.fHatches[r6.t4.toNat]!.fTerm.fN r6.b0.fHatches[r6.t4.toNat]!.fTerm.fKids))) with
                    | none =>
                      none
                    | some r8 =>
                      bif decide (r8.t6 < r8.t4) then
                        if (0 : Int) ≤ r8.t6 ∧ r8.t6 < (↑r8.b0.fHatches.length : Int) then
                          bif r8.b0.fHatches[r8.t6.toNat]!.fName.toList == r8.b1.fName.toList then
                            some (8)
                          else
                            none
                        else
                          none
                      else
                        bif bif m61 r8.b1.fLow r8.b1.fHigh then false else true then
                          some (3)
                        else
                          match m62 r8.b0.fVars (GTerm.mk r8.b1.fTerm.fOp r8.b1.fTerm.fN r8.b1.fTerm.fKids) true with
                          | none =>
                            none
                          | some r9 =>
                            bif bif decide (r9 = 0) then false else true then
                              some (r9)
                            else
                              none
              else
                none
            else
              match r63 r6.b0 r6.b0.fBody true with
              | none =>
                none
              | some r10 =>
                bif bif decide (r10 = 0) then false else true then
                  some (r10)
                else
                  match r64 r6.b0.fBody with
                  | none =>
                    none
                  | some r11 =>
                    match bif decide (4096 < r11.fst) then
                      some (true)
                    else
                      bif decide (8 < r11.snd.fst) then
                        some (true)
                      else
                        some (decide (67108864 < r11.snd.snd)) with
                    | none =>
                      none
                    | some r12 =>
                      bif r12 then
                        some (4)
                      else
                        some (0)
theorem c18 (a0 : Flat) : callR Tryz.prog (F18) 300 (an18) 18 [.agg (uni.cells 26 a0)] [] 0 rd18_e = m18 a0 := by kernel_rfl
noncomputable def o18 (x : E18) : Out := match (match outOf Tryz.prog 18 (pt18_e x) with
    | some ds => some (Out.mk (resA ds) (keepR (pt18_e x).R 0 (resA ds)) (pt18_e x).nx)
    | none => none) with
  | some o => o
  | none => ⟨.tup [], [], 0⟩
theorem fn18 (a0 : Flat) (r : E18) (h : m18 a0 = some r) : fnOk Tryz.prog 18 ∧ FnY Tryz.prog 18 [.agg (uni.cells 26 a0)] [] 0 (o18 r) :=
  fnY_of (p := r) F18_ok (fa18) rd18_e_ok (fun p => by kernel_rfl) (ltd_of (by kernel_rfl)) (rltd_of (by kernel_rfl)) ((c18 a0).trans h)
theorem fnok18 : fnOk Tryz.prog 18 := ⟨_, Tryz.func18, by kernel_rfl, by kernel_rfl⟩
noncomputable def e18 (F : Orc) : Orc := orL 18 false (pkC (asGc 26) pkN) (fun g => m18 g.1 : (Flat × Unit) → Option E18) o18 F
theorem e18_ok {F : Orc} (h : OrcG Tryz.prog F) : OrcG Tryz.prog (e18 F) := orL_g (sc := scU) h scU_ok fnok18 (ca := fun g => [.agg (uni.cells 26 g.1)]) ((.cons (.g 26) .nil) : PkN (pkC (asGc 26) pkN) _) (fun b => by kernel_rfl) (fun b => by kernel_rfl) (fun g b hb => (fn18 g.1 b hb).2)
theorem e18_pure {F : Orc} {f : Nat} (h : PureF F f) : PureF (e18 F) f := orL_pure h (fun b => by kernel_rfl)
end Go.Proofs.YtaonipoflmbhgaaGreat
end
section
set_option linter.unusedSectionVars false
set_option linter.unusedVariables false
set_option linter.unusedSimpArgs false
namespace Go.Proofs.YtaonipoflmbhgaaGreat
open Go Go.Iv

theorem baList (l : List UInt8) : (ByteArray.mk (Array.mk l)).toList = l := by
  have key : ∀ (k i : Nat) (acc : List UInt8), i + k = l.length → ByteArray.toList.loop (ByteArray.mk (Array.mk l)) i acc = acc.reverse ++ l.drop i := by
    intro k
    induction k with
    | zero =>
      intro i acc h
      rw [ByteArray.toList.loop]
      have hs : (ByteArray.mk (Array.mk l)).size = l.length := rfl
      rw [if_neg (by rw [hs]; omega)]
      rw [List.drop_of_length_le (by omega), List.append_nil]
    | succ k ih =>
      intro i acc h
      rw [ByteArray.toList.loop]
      have hs : (ByteArray.mk (Array.mk l)).size = l.length := rfl
      rw [if_pos (by rw [hs]; omega), ih (i + 1) _ (by omega)]
      have hi : i < l.length := by omega
      rw [List.drop_eq_getElem_cons hi]
      have : (ByteArray.mk (Array.mk l)).get! i = l[i] := by
        show (Array.mk l)[i]! = _
        rw [getElem!_pos (Array.mk l) i hi]
        rfl
      rw [this]
      simp
  have := key l.length 0 [] (by omega)
  simpa [ByteArray.toList] using this

theorem emptyS (s : ByteArray) : (s.toList == (ByteArray.mk (Array.mk [])).toList) = decide (s.size = 0) := by
  obtain ⟨⟨l⟩⟩ := s
  rw [baList, baList]
  have hs : (ByteArray.mk (Array.mk l)).size = l.length := rfl
  rw [hs]
  cases l with
  | nil => rfl
  | cons a l => simp
theorem range_get {n i : Nat} (h : i < n) : (List.range n)[i]! = i := by rw [getElem!_pos _ i (by simpa using h)]; simp
theorem m161_eq (s : ByteArray) : m161 s = some (nameB s) := by
  unfold m161
  rw [emptyS]
  by_cases h0 : s.size = 0
  · simp [h0, nameB]
  by_cases h1 : 40 < (s.size : Int)
  · have h1' : ¬ s.size ≤ 40 := by omega
    simp [h0, h1, h1', nameB]
  rw [decide_eq_false h0, decide_eq_false h1]
  dsimp only [cond_false]
  obtain ⟨i, e1, hc⟩ := loopB (rnd := n161_0) (List.range s.size) (fun i => ⟨s, (s.size : Int), (i : Int)⟩) (fun i j => okc j (byteAt s j)) (fun i hi => by
    rw [List.length_range] at hi
    have hw := w1L hi (by omega)
    rw [range_get hi]
    unfold n161_0 okc
    dsimp only
    simp only [Bool.cond_decide, Int.toNat_natCast]
    grind) (by unfold n161_0; simp)
  have e1' : a161_0 ⟨s, (s.size : Int), 0⟩ = some ⟨s, (s.size : Int), (i : Int)⟩ := e1
  rw [e1']
  have h2 : nameB s = (List.range s.size).all fun i => okc i (byteAt s i) := by
    unfold nameB
    rw [decide_eq_true (by omega), decide_eq_true (by omega)]
    simp
  rw [h2]
  dsimp only
  rcases hc with ⟨rfl, hc⟩ | ⟨hi, hc⟩
  · rw [all_of hc]
    simp
  · rw [not_all hi hc]
    rw [List.length_range] at hi
    rw [range_get hi] at hc
    unfold okc at hc
    simp only [Bool.cond_decide, Int.toNat_natCast]
    grind
theorem m60_eq (s : ByteArray) : m60 s = some (nameB s) := by
  unfold m60
  by_cases h0 : s.size < 1
  · have h0' : ¬ 1 ≤ s.size := by omega
    have h0'' : (s.size : Int) < 1 := by omega
    simp [h0'', h0', nameB]
  by_cases h1 : 40 < (s.size : Int)
  · have h1' : ¬ s.size ≤ 40 := by omega
    have h0'' : ¬ (s.size : Int) < 1 := by omega
    simp [h0'', h1, h1', nameB]
  rw [decide_eq_false (show ¬ (s.size : Int) < 1 by omega), decide_eq_false h1]
  dsimp only [cond_false]
  obtain ⟨i, e1, hc⟩ := loopB (rnd := n60_0) (List.range s.size) (fun i => ⟨s, (i : Int)⟩) (fun i j => okc j (byteAt s j)) (fun i hi => by
    rw [List.length_range] at hi
    have hw := w1L hi (by omega)
    rw [range_get hi]
    unfold n60_0 okc
    dsimp only
    simp only [Bool.cond_decide, Int.toNat_natCast]
    grind) (by unfold n60_0; simp)
  have e1' : a60_0 ⟨s, 0⟩ = some ⟨s, (i : Int)⟩ := e1
  rw [e1']
  have h2 : nameB s = (List.range s.size).all fun i => okc i (byteAt s i) := by
    unfold nameB
    rw [decide_eq_true (by omega), decide_eq_true (by omega)]
    simp
  rw [h2]
  dsimp only
  rcases hc with ⟨rfl, hc⟩ | ⟨hi, hc⟩
  · rw [all_of hc]
    simp
  · rw [not_all hi hc]
    rw [List.length_range] at hi
    rw [range_get hi] at hc
    unfold okc at hc
    simp only [Bool.cond_decide, Int.toNat_natCast]
    grind
theorem m163_eq (a b : Int) : m163 a b = boundB a b := by
  unfold m163 boundB
  simp only [Bool.cond_decide]
  grind
theorem m61_eq (a b : Int) : m61 a b = boundB a b := by
  unfold m61 boundB
  simp only [Bool.cond_decide]
  grind
/-- a variable of that name -/
theorem m162_eq (l : List GVar) (hl : l.length ≤ 1000000) (v : GVar) : m162 l v = some (l.any fun w => w.fName.toList == v.fName.toList) := by
  obtain ⟨i, e1, hc⟩ := loopB (rnd := n190_0) l (fun i => ⟨l, v.fName, v.fKind, v.fLow, v.fHigh, v.fInit, (l.length : Int), (i : Int)⟩) (fun _ w => !(w.fName.toList == v.fName.toList)) (fun i hi => by
    have hw := w1L hi hl
    unfold n190_0 m160
    dsimp only
    simp only [Bool.cond_decide, Int.toNat_natCast]
    grind) (by unfold n190_0; simp)
  have e1' : a190_0 ⟨l, v.fName, v.fKind, v.fLow, v.fHigh, v.fInit, (l.length : Int), 0⟩ = some ⟨l, v.fName, v.fKind, v.fLow, v.fHigh, v.fInit, (l.length : Int), (i : Int)⟩ := e1
  unfold m162 m190
  rw [e1']
  dsimp only
  rcases hc with ⟨rfl, hc⟩ | ⟨hi, hc⟩
  · rw [not_any fun j hj => by have := hc j hj; simpa using this]
    simp
  · have hc' : (l[i]!.fName.toList == v.fName.toList) = true := by simpa using hc
    rw [is_any hi hc']
    unfold m160
    simp only [Int.toNat_natCast, hc', cond_true]
    simp [hi]
/-- the loop of the reference that looks for a name -/
theorem a59_1_eq (l : List GVar) (hl : l.length ≤ 1000000) (n : Nat) (hn : n ≤ l.length) (v : GVar) :
    ∃ i : Nat, a59_1 ⟨l, n, 0, v⟩ = some ⟨l, n, (i : Int), v⟩ ∧ ((i = n ∧ ((l.take n).any fun w => w.fName.toList == v.fName.toList) = false) ∨ (i < n ∧ (l[i]!.fName.toList == v.fName.toList) = true ∧ ((l.take n).any fun w => w.fName.toList == v.fName.toList) = true)) := by
  have hlen : (l.take n).length = n := by rw [List.length_take]; omega
  have hget : ∀ i, i < n → (l.take n)[i]! = l[i]! := fun i hi => by
    rw [getElem!_pos _ i (by omega), getElem!_pos _ i (by omega), List.getElem_take]
  obtain ⟨i, e1, hc⟩ := loopB (rnd := n59_1) (l.take n) (fun i => ⟨l, (n : Int), (i : Int), v⟩) (fun _ w => !(w.fName.toList == v.fName.toList)) (fun i hi => by
    rw [hlen] at hi
    have hw := w1L hi (by omega)
    rw [hget i hi]
    unfold n59_1
    dsimp only
    simp only [Bool.cond_decide, Int.toNat_natCast]
    grind) (by rw [hlen]; unfold n59_1; simp)
  refine ⟨i, e1, ?_⟩
  rw [hlen] at hc
  rcases hc with ⟨rfl, hc⟩ | ⟨hi, hc⟩
  · exact .inl ⟨rfl, not_any fun j hj => by have := hc j (by omega); simpa using this⟩
  · have hc' : ((l.take n)[i]!.fName.toList == v.fName.toList) = true := by simpa using hc
    exact .inr ⟨hi, by rw [← hget i hi]; exact hc', is_any (by omega) hc'⟩
end Go.Proofs.YtaonipoflmbhgaaGreat
end
section
set_option linter.unusedSectionVars false
set_option linter.unusedVariables false
set_option linter.unusedSimpArgs false
namespace Go.Proofs.YtaonipoflmbhgaaGreat
open Go Go.Iv

theorem nTs_app (a b : List GTerm) : nTs (a ++ b) = nTs a + nTs b := by simp [nTs]
theorem nTs_take (l : List GTerm) (i : Nat) : nTs (l.take i) ≤ nTs l := by
  have := nTs_app (l.take i) (l.drop i)
  rw [List.take_append_drop] at this
  omega
theorem nTs_len (l : List GTerm) : l.length ≤ nTs l := by
  induction l with
  | nil => simp
  | cons a l ih => rw [nTs_cons]; have := nT_pos a; simp; omega
theorem nSs_app (a b : List GStep) : nSs (a ++ b) = nSs a + nSs b := by simp [nSs]
theorem nSs_take (l : List GStep) (i : Nat) : nSs (l.take i) ≤ nSs l := by
  have := nSs_app (l.take i) (l.drop i)
  rw [List.take_append_drop] at this
  omega
theorem nS_pos (s : GStep) : 0 < nS s := by rw [nS_eq]; omega
theorem nSs_len (l : List GStep) : l.length ≤ nSs l := by
  induction l with
  | nil => simp
  | cons a l ih => rw [nSs_cons]; have := nS_pos a; simp; omega
theorem nTs_step {l : List GTerm} {i : Nat} (hi : i < l.length) : nTs (l.take i) + nT l[i]! ≤ nTs l := by
  have := nTs_take l (i + 1)
  rw [take_succL hi, nTs_snoc] at this
  exact this
theorem nSs_step {l : List GStep} {i : Nat} (hi : i < l.length) : nSs (l.take i) + nS l[i]! ≤ nSs l := by
  have := nSs_take l (i + 1)
  rw [take_succL hi, nSs_snoc] at this
  exact this
theorem dTs_le (l : List GTerm) (h : ∀ k ∈ l, dT k ≤ nT k) : ∀ i, i ≤ l.length → dTs (l.take i) ≤ nTs (l.take i) := by
  intro i
  induction i with
  | zero => intro _; simp [dTs, nTs]
  | succ i ih =>
    intro hi
    have := ih (by omega)
    have h2 := h _ (get_memL (show i < l.length by omega))
    rw [take_succL (by omega), dTs_snoc, nTs_snoc]
    omega
theorem dT_le (t : GTerm) : dT t ≤ nT t := by
  have key : ∀ (n : Nat) (t : GTerm), SizeOf.sizeOf t < n → dT t ≤ nT t := by
    intro n
    induction n with
    | zero => intro t h; omega
    | succ n ih =>
      intro t h
      have := dTs_le t.fKids (fun k hk => ih k (by have := GTerm.kids_lt hk; omega)) t.fKids.length (Nat.le_refl _)
      rw [List.take_length] at this
      rw [dT_eq, nT_eq]
      omega
  exact key _ t (Nat.lt_succ_self _)
theorem dTs_take (l : List GTerm) (i : Nat) : dTs (l.take i) ≤ nTs l := by
  have h1 := nTs_take l i
  by_cases h : i ≤ l.length
  · have := dTs_le l (fun k _ => dT_le k) i h
    omega
  · have := dTs_le l (fun k _ => dT_le k) l.length (Nat.le_refl _)
    rw [List.take_length] at this
    rw [List.take_of_length_le (by omega)]
    omega
theorem dSs_le (l : List GStep) : dSs l ≤ nSs l := by
  have key : ∀ (n : Nat) (l : List GStep), SizeOf.sizeOf l < n → dSs l ≤ nSs l := by
    intro n
    induction n with
    | zero => intro t h; omega
    | succ n ih =>
      intro l h
      cases l with
      | nil => rw [dSs]; simp [nSs]
      | cons s l =>
        have q1 := ih s.fThen (by have := sizeOf_then (l := s :: l) (List.mem_cons_self ..); omega)
        have q2 := ih s.fElse (by have := sizeOf_then (l := s :: l) (List.mem_cons_self ..); omega)
        have q3 := ih l (by have := size_tail s l; omega)
        rw [dSs, nSs_cons, nS_eq]
        omega
  exact key _ l (Nat.lt_succ_self _)
/-! ### nodes and depths of terms -/
theorem s117_eq (M : GTerm → Option E117) (t : GTerm) (hM : ∀ k ∈ t.fKids, M k = some (nT k : Int)) (h : nT t ≤ 1000) : s117 M t = some (nT t : Int) := by
  have hN := nT_eq t
  have hL := nTs_len t.fKids
  obtain ⟨v, e1, hv⟩ := loopI (rnd := n117_0 M) t.fKids.length (fun i (b : Int) => ⟨b, (i : Int), t⟩) (fun i b => b = 1 + nTs (t.fKids.take i)) (fun i b hi hb => by
      have hs := nTs_step hi
      refine ⟨b + nT t.fKids[i]!, ?_, ?_⟩
      · have hk := hM _ (get_memL hi)
        have hw := w1L hi (by omega)
        have hw2 : IntKind.i64.wrap (b + nT t.fKids[i]!) = b + nT t.fKids[i]! := wrap_id (by omega) (by omega)
        unfold n117_0
        dsimp only
        simp only [Bool.cond_decide, Int.toNat_natCast, GTerm.eta, hk]
        grind
      · rw [take_succL hi, nTs_snoc]; omega) (fun b _ => by unfold n117_0; simp) (b := 1) (by simp [nTs])
  have e1' : a117_0 M ⟨1, 0, t⟩ = some ⟨v, (t.fKids.length : Int), t⟩ := e1
  unfold s117
  rw [GTerm.eta, e1', hN]
  rw [List.take_length] at hv
  simp [hv]
theorem m117_eq : ∀ (n : Nat) (t : GTerm), SizeOf.sizeOf t < n → nT t ≤ 1000 → m117 n t = some (nT t : Int)
  | 0, _, h, _ => by omega
  | n + 1, t, h, h2 => s117_eq (m117 n) t (fun k hk => m117_eq n k (by have := GTerm.kids_lt hk; omega) (by have := nTs_mem hk; have := nT_eq t; omega)) h2
theorem r117_eq (t : GTerm) (h : nT t ≤ 1000) : r117 t = some (nT t : Int) := lim_eq (SizeOf.sizeOf t + 1) fun n hn => m117_eq n t (by omega) h
theorem s118_eq (M : GTerm → Option E118) (t : GTerm) (hM : ∀ k ∈ t.fKids, M k = some (dT k)) (h : nT t ≤ 1000) : s118 M t = some (dT t) := by
  have hN := nT_eq t
  have hL := nTs_len t.fKids
  obtain ⟨v, e1, hv⟩ := loopI (rnd := n118_0 M) t.fKids.length (fun i (b : Int) => ⟨b, (i : Int), t⟩) (fun i b => b = dTs (t.fKids.take i)) (fun i b hi hb => by
      refine ⟨max b (dT t.fKids[i]!), ?_, ?_⟩
      · have hk := hM _ (get_memL hi)
        have hw := w1L hi (by omega)
        unfold n118_0
        dsimp only
        simp only [Bool.cond_decide, Int.toNat_natCast, GTerm.eta, hk]
        grind
      · rw [take_succL hi, dTs_snoc, hb]) (fun b _ => by unfold n118_0; simp) (b := 0) (by simp [dTs])
  have e1' : a118_0 M ⟨0, 0, t⟩ = some ⟨v, (t.fKids.length : Int), t⟩ := e1
  unfold s118
  rw [GTerm.eta, e1', dT_eq]
  have hd := dTs_take t.fKids t.fKids.length
  have hp := dTs_pos t.fKids
  rw [List.take_length] at hv hd
  subst hv
  have hw2 : IntKind.i64.wrap (dTs t.fKids + 1) = dTs t.fKids + 1 := wrap_id (by omega) (by omega)
  dsimp only
  rw [decide_eq_false (by omega)]
  show some (IntKind.i64.wrap (dTs t.fKids + 1)) = _
  rw [hw2]
  congr 1
  omega
theorem m118_eq : ∀ (n : Nat) (t : GTerm), SizeOf.sizeOf t < n → nT t ≤ 1000 → m118 n t = some (dT t)
  | 0, _, h, _ => by omega
  | n + 1, t, h, h2 => s118_eq (m118 n) t (fun k hk => m118_eq n k (by have := GTerm.kids_lt hk; omega) (by have := nTs_mem hk; have := nT_eq t; omega)) h2
theorem r118_eq (t : GTerm) (h : nT t ≤ 1000) : r118 t = some (dT t) := lim_eq (SizeOf.sizeOf t + 1) fun n hn => m118_eq n t (by omega) h
/-! ### nodes and depths of steps -/
theorem nSs_mem {s : GStep} {l : List GStep} (h : s ∈ l) : nS s ≤ nSs l := by
  induction l with
  | nil => cases h
  | cons a l ih =>
    rw [nSs_cons]
    rcases List.mem_cons.1 h with rfl | h
    · omega
    · have := ih h; omega
/-- steps and nodes of their terms -/
def nodS : List GStep → Int
  | [] => 0
  | s :: l => 1 + nT s.fTerm + nodS s.fThen + nodS s.fElse + nodS l
termination_by l => SizeOf.sizeOf l
decreasing_by
  · exact (sizeOf_then (List.mem_cons_self ..)).1
  · exact (sizeOf_then (List.mem_cons_self ..)).2
  · exact size_tail _ _
theorem nodS_le (l : List GStep) : 0 ≤ nodS l ∧ nodS l ≤ nSs l := by
  have key : ∀ (n : Nat) (l : List GStep), SizeOf.sizeOf l < n → 0 ≤ nodS l ∧ nodS l ≤ nSs l := by
    intro n
    induction n with
    | zero => intro t h; omega
    | succ n ih =>
      intro l h
      cases l with
      | nil => rw [nodS]; simp [nSs]
      | cons s l =>
        have q1 := ih s.fThen (by have := sizeOf_then (l := s :: l) (List.mem_cons_self ..); omega)
        have q2 := ih s.fElse (by have := sizeOf_then (l := s :: l) (List.mem_cons_self ..); omega)
        have q3 := ih l (by have := size_tail s l; omega)
        rw [nodS, nSs_cons, nS_eq]
        omega
  exact key _ l (Nat.lt_succ_self _)
theorem nodS_snoc (l : List GStep) (s : GStep) : nodS (l ++ [s]) = nodS l + (1 + nT s.fTerm + nodS s.fThen + nodS s.fElse) := by
  induction l with
  | nil => rw [List.nil_append, show nodS [] = 0 by rw [nodS], nodS, show nodS [] = 0 by rw [nodS]]; omega
  | cons a l ih => rw [List.cons_append, nodS, nodS, ih]; omega
theorem s116_eq (M : List GStep → Option E116) (l : List GStep) (hM : ∀ s ∈ l, M s.fThen = some (nodS s.fThen) ∧ M s.fElse = some (nodS s.fElse)) (h : nSs l ≤ 1000) : s116 M l = some (nodS l) := by
  have hL := nSs_len l
  obtain ⟨v, e1, hv⟩ := loopI (rnd := n116_0 M) l.length (fun i (b : Int) => ⟨l, b, (i : Int)⟩) (fun i b => b = nodS (l.take i)) (fun i b hi hb => by
      have hs := nSs_step hi
      have hE := nS_eq l[i]!
      obtain ⟨k1, k4⟩ := hM _ (get_memL hi)
      have k2 := nodS_le l[i]!.fThen
      have k3 := nodS_le l[i]!.fElse
      have k5 := nodS_le (l.take i)
      have hk := r117_eq l[i]!.fTerm (by omega)
      have hw := w1L hi (by omega)
      refine ⟨b + (1 + nT l[i]!.fTerm + nodS l[i]!.fThen + nodS l[i]!.fElse), ?_, ?_⟩
      · have w1 : IntKind.i64.wrap (b + 1) = b + 1 := wrap_id (by omega) (by omega)
        have w2 : IntKind.i64.wrap (b + 1 + nT l[i]!.fTerm) = b + 1 + nT l[i]!.fTerm := wrap_id (by omega) (by omega)
        have w3 : IntKind.i64.wrap (b + 1 + nT l[i]!.fTerm + nodS l[i]!.fThen) = b + 1 + nT l[i]!.fTerm + nodS l[i]!.fThen := wrap_id (by omega) (by omega)
        have w4 : IntKind.i64.wrap (b + 1 + nT l[i]!.fTerm + nodS l[i]!.fThen + nodS l[i]!.fElse) = b + (1 + nT l[i]!.fTerm + nodS l[i]!.fThen + nodS l[i]!.fElse) := by rw [wrap_id (by omega) (by omega)]; omega
        unfold n116_0
        dsimp only
        simp only [Bool.cond_decide, Int.toNat_natCast, GTerm.eta, hk, k1, k4, w1, w2, w3, w4, hw]
        grind
      · rw [take_succL hi, nodS_snoc]; omega) (fun b _ => by unfold n116_0; simp) (b := 0) (by simp [nodS])
  have e1' : a116_0 M ⟨l, 0, 0⟩ = some ⟨l, v, (l.length : Int)⟩ := e1
  unfold s116
  rw [e1']
  rw [List.take_length] at hv
  simp [hv]
theorem then_le {s : GStep} {l : List GStep} (h : s ∈ l) : nSs s.fThen ≤ nSs l ∧ nSs s.fElse ≤ nSs l := by
  have := nSs_mem h
  have := nS_eq s
  omega
theorem m116_eq : ∀ (n : Nat) (l : List GStep), SizeOf.sizeOf l < n → nSs l ≤ 1000 → m116 n l = some (nodS l)
  | 0, _, h, _ => by omega
  | n + 1, l, h, h2 => s116_eq (m116 n) l (fun s hs => ⟨m116_eq n _ (by have := sizeOf_then hs; omega) (by have := then_le hs; omega), m116_eq n _ (by have := sizeOf_then hs; omega) (by have := then_le hs; omega)⟩) h2
theorem r116_eq (l : List GStep) (h : nSs l ≤ 1000) : r116 l = some (nodS l) := lim_eq (SizeOf.sizeOf l + 1) fun n hn => m116_eq n l (by omega) h
theorem dSs_take (l : List GStep) (i : Nat) : dSs (l.take i) ≤ nSs l := by
  have := dSs_le (l.take i)
  have := nSs_take l i
  omega
theorem s119_eq (M : List GStep → Option E119) (l : List GStep) (hM : ∀ s ∈ l, M s.fThen = some (dSs s.fThen) ∧ M s.fElse = some (dSs s.fElse)) (h : nSs l ≤ 1000) : s119 M l = some (dSs l) := by
  have hL := nSs_len l
  obtain ⟨v, e1, hv⟩ := loopI (rnd := n119_0 M) l.length (fun i (b : Int) => ⟨l, b, (i : Int)⟩) (fun i b => b = dSs (l.take i)) (fun i b hi hb => by
      obtain ⟨k1, k4⟩ := hM _ (get_memL hi)
      have k2 := dSs_le l[i]!.fThen
      have k3 := dSs_le l[i]!.fElse
      have k5 := then_le (get_memL hi)
      have k6 := dSs_pos l[i]!.fThen
      have k7 := dSs_pos l[i]!.fElse
      have hw := w1L hi (by omega)
      refine ⟨max b (max (dSs l[i]!.fThen + 1) (dSs l[i]!.fElse + 1)), ?_, ?_⟩
      · have w1 : IntKind.i64.wrap (dSs l[i]!.fThen + 1) = dSs l[i]!.fThen + 1 := wrap_id (by omega) (by omega)
        have w2 : IntKind.i64.wrap (dSs l[i]!.fElse + 1) = dSs l[i]!.fElse + 1 := wrap_id (by omega) (by omega)
        unfold n119_0
        dsimp only
        simp only [Bool.cond_decide, Int.toNat_natCast, k1, k4, w1, w2, hw]
        grind
      · rw [take_succL hi, dSs_snoc]; omega) (fun b _ => by unfold n119_0; simp) (b := 0) (by simp [dSs])
  have e1' : a119_0 M ⟨l, 0, 0⟩ = some ⟨l, v, (l.length : Int)⟩ := e1
  unfold s119
  rw [e1']
  rw [List.take_length] at hv
  simp [hv]
theorem m119_eq : ∀ (n : Nat) (l : List GStep), SizeOf.sizeOf l < n → nSs l ≤ 1000 → m119 n l = some (dSs l)
  | 0, _, h, _ => by omega
  | n + 1, l, h, h2 => s119_eq (m119 n) l (fun s hs => ⟨m119_eq n _ (by have := sizeOf_then hs; omega) (by have := then_le hs; omega), m119_eq n _ (by have := sizeOf_then hs; omega) (by have := then_le hs; omega)⟩) h2
theorem r119_eq (l : List GStep) (h : nSs l ≤ 1000) : r119 l = some (dSs l) := lim_eq (SizeOf.sizeOf l + 1) fun n hn => m119_eq n l (by omega) h
def deep1 (s : GStep) : Bool := decide (12 < dT s.fTerm) || tDeep s.fThen || tDeep s.fElse
theorem tDeep_any (l : List GStep) : tDeep l = l.any deep1 := by
  induction l with
  | nil => rw [tDeep]; rfl
  | cons s l ih => rw [tDeep, ih, List.any_cons]; rfl
theorem s120_eq (M : List GStep → Option E120) (l : List GStep) (hM : ∀ s ∈ l, M s.fThen = some (tDeep s.fThen) ∧ M s.fElse = some (tDeep s.fElse)) (h : nSs l ≤ 1000) : s120 M l = some (tDeep l) := by
  have hL := nSs_len l
  have hT : ∀ i, i < l.length → r118 l[i]!.fTerm = some (dT l[i]!.fTerm) := fun i hi => r118_eq _ (by have := nSs_mem (get_memL hi); have := nS_eq l[i]!; omega)
  obtain ⟨i, e1, hc⟩ := loopB (rnd := n120_0 M) l (fun i => ⟨l, (i : Int)⟩) (fun _ s => !deep1 s) (fun i hi => by
      obtain ⟨k1, k4⟩ := hM _ (get_memL hi)
      have hk := hT i hi
      have hw := w1L hi (by omega)
      unfold n120_0 deep1
      dsimp only
      simp only [Bool.cond_decide, Int.toNat_natCast, GTerm.eta, hk, k1, k4, hw]
      cases tDeep l[i]!.fThen <;> cases tDeep l[i]!.fElse <;> grind) (by unfold n120_0; simp)
  have e1' : a120_0 M ⟨l, 0⟩ = some ⟨l, (i : Int)⟩ := e1
  unfold s120
  rw [e1', tDeep_any]
  dsimp only
  rcases hc with ⟨rfl, hc⟩ | ⟨hi, hc⟩
  · rw [not_any fun j hj => by have := hc j hj; simpa using this]
    simp
  · have hc' : deep1 l[i]! = true := by simpa using hc
    rw [is_any hi hc']
    obtain ⟨k1, k4⟩ := hM _ (get_memL hi)
    have hk := hT i hi
    unfold deep1 at hc'
    simp only [Bool.cond_decide, Int.toNat_natCast, GTerm.eta, hk, k1, k4]
    revert hc'
    cases tDeep l[i]!.fThen <;> cases tDeep l[i]!.fElse <;> grind
theorem m120_eq : ∀ (n : Nat) (l : List GStep), SizeOf.sizeOf l < n → nSs l ≤ 1000 → m120 n l = some (tDeep l)
  | 0, _, h, _ => by omega
  | n + 1, l, h, h2 => s120_eq (m120 n) l (fun s hs => ⟨m120_eq n _ (by have := sizeOf_then hs; omega) (by have := then_le hs; omega), m120_eq n _ (by have := sizeOf_then hs; omega) (by have := then_le hs; omega)⟩) h2
theorem r120_eq (l : List GStep) (h : nSs l ≤ 1000) : r120 l = some (tDeep l) := lim_eq (SizeOf.sizeOf l + 1) fun n hn => m120_eq n l (by omega) h
/-! ### the measure of flat -/
def overM (b : Measure) : Bool := b.fDeep || decide (1024 < b.fNodes)
theorem m109_eq (b : Measure) : m109 b = (overM b, b) := by
  unfold m109 overM
  cases b.fDeep <;> rfl
def incM (d : Int) (b : Measure) : Measure := ⟨b.fNodes + 1, b.fDeep || decide (12 < d)⟩
def msT (t : GTerm) (d : Int) (b : Measure) : Measure := if overM (incM d b) = true then incM d b else t.fKids.attach.foldl (fun b k => msT k.1 (d + 1) b) (incM d b)
termination_by SizeOf.sizeOf t
decreasing_by exact GTerm.kids_lt k.2
def msTs (l : List GTerm) (d : Int) (b : Measure) : Measure := l.foldl (fun b k => msT k d b) b
theorem msT_eq (t : GTerm) (d : Int) (b : Measure) : msT t d b = if overM (incM d b) = true then incM d b else msTs t.fKids (d + 1) (incM d b) := by
  rw [msT, msTs]
  rw [show t.fKids.attach.foldl (fun b k => msT k.1 (d + 1) b) (incM d b) = t.fKids.foldl (fun b k => msT k (d + 1) b) (incM d b) from List.foldl_attach (f := fun b k => msT k (d + 1) b)]
theorem msTs_snoc (l : List GTerm) (k : GTerm) (d : Int) (b : Measure) : msTs (l ++ [k]) d b = msT k d (msTs l d b) := by simp [msTs]
/-- what the measure of a term says -/
def MsP (d0 : Int) (n : Int) (b r : Measure) : Prop := r.fDeep = (b.fDeep || decide (12 < d0)) ∧ b.fNodes ≤ r.fNodes ∧ r.fNodes ≤ b.fNodes + n
theorem msT_ok (t : GTerm) (d : Int) (b : Measure) (h0 : 0 ≤ d) (h1 : 0 ≤ b.fNodes) (h2 : b.fNodes + nT t ≤ 1000) : MsP (d - 1 + dT t) (nT t) b (msT t d b) := by
  have key : ∀ (n : Nat) (t : GTerm) (d : Int) (b : Measure), SizeOf.sizeOf t < n → 0 ≤ d → 0 ≤ b.fNodes → b.fNodes + nT t ≤ 1000 → MsP (d - 1 + dT t) (nT t) b (msT t d b) := by
    intro n
    induction n with
    | zero => intro t d b h; omega
    | succ n ih =>
      intro t d b h h0 h1 h2
      have hN := nT_eq t
      have hD := dT_eq t
      have hd0 := dTs_pos t.fKids
      rw [msT_eq]
      by_cases ho : overM (incM d b) = true
      · rw [if_pos ho]
        unfold overM incM at ho
        unfold MsP incM
        grind
      · rw [if_neg ho]
        have hi : ∀ i, i ≤ t.fKids.length → MsP (d + dTs (t.fKids.take i)) (nTs (t.fKids.take i)) (incM d b) (msTs (t.fKids.take i) (d + 1) (incM d b)) := by
          intro i
          induction i with
          | zero =>
            intro _
            unfold overM incM at ho
            simp only [List.take_zero, msTs, List.foldl_nil, MsP, dTs, nTs, List.map_nil, incM]
            grind
          | succ i ihi =>
            intro hi
            have q := ihi (by omega)
            have hs := nTs_step (show i < t.fKids.length by omega)
            have hm : t.fKids[i]! ∈ t.fKids := get_memL (by omega)
            have hp : (incM d b).fNodes = b.fNodes + 1 := rfl
            have q2 := ih t.fKids[i]! (d + 1) (msTs (t.fKids.take i) (d + 1) (incM d b)) (by have := GTerm.kids_lt hm; omega) (by omega) (by have := q.2.1; omega) (by have := q.2.2; omega)
            rw [take_succL (by omega), msTs_snoc, dTs_snoc, nTs_snoc]
            unfold MsP at q q2 ⊢
            obtain ⟨a1, a2, a3⟩ := q
            obtain ⟨c1, c2, c3⟩ := q2
            refine ⟨?_, by omega, by omega⟩
            rw [c1, a1]
            rw [Bool.or_assoc]
            congr 1
            rw [← Bool.decide_or]
            apply decide_eq_decide.2
            omega
        have q := hi t.fKids.length (Nat.le_refl _)
        rw [List.take_length] at q
        unfold MsP at q ⊢
        obtain ⟨a1, a2, a3⟩ := q
        unfold overM at ho
        have hp : (incM d b).fNodes = b.fNodes + 1 := rfl
        have hp2 : (incM d b).fDeep = (b.fDeep || decide (12 < d)) := rfl
        refine ⟨?_, by omega, by omega⟩
        rw [a1, hD, hp2]
        rw [hp2] at ho
        grind
  exact key _ t d b (Nat.lt_succ_self _) h0 h1 h2
theorem s110_eq (M : GTerm → Int → Measure → Option E110) (t : GTerm) (hM : ∀ k ∈ t.fKids, ∀ (d : Int) (b : Measure), 0 ≤ d → d ≤ 13 → 0 ≤ b.fNodes → b.fNodes + nT k ≤ 1000 → M k d b = some (msT k d b)) (d : Int) (b : Measure) (h0 : 0 ≤ d) (hd : d ≤ 13) (h1 : 0 ≤ b.fNodes) (h2 : b.fNodes + nT t ≤ 1000) : s110 M t d b = some (msT t d b) := by
  have hN := nT_eq t
  have hL := nTs_len t.fKids
  have hw0 : IntKind.i64.wrap (b.fNodes + 1) = b.fNodes + 1 := wrap_id (by omega) (by omega)
  have hw1 : IntKind.i64.wrap (d + 1) = d + 1 := wrap_id (by omega) (by omega)
  have hinc : ∀ x, (⟨b.fNodes + 1, x⟩ : Measure) = incM d b ↔ x = (b.fDeep || decide (12 < d)) := fun x => by unfold incM; simp
  have key : overM (incM d b) = false → d ≤ 12 ∧ a110_0 M ⟨d, t.fKids, (t.fKids.length : Int), 0, incM d b⟩ = some ⟨d, t.fKids, (t.fKids.length : Int), (t.fKids.length : Int), msTs t.fKids (d + 1) (incM d b)⟩ := fun ho => by
    have hd2 : d ≤ 12 := by unfold overM incM at ho; grind
    refine ⟨hd2, ?_⟩
    obtain ⟨v, e1, hv, _⟩ := loopI (rnd := n110_0 M) t.fKids.length (fun i (x : Measure) => ⟨d, t.fKids, (t.fKids.length : Int), (i : Int), x⟩) (fun i x => x = msTs (t.fKids.take i) (d + 1) (incM d b) ∧ b.fNodes + 1 ≤ x.fNodes ∧ x.fNodes ≤ b.fNodes + 1 + nTs (t.fKids.take i)) (fun i x hi hx => by
        have hs := nTs_step hi
        have hk := hM _ (get_memL hi) (d + 1) x (by omega) (by omega) (by omega) (by omega)
        have hp := msT_ok t.fKids[i]! (d + 1) x (by omega) (by omega) (by omega)
        have hw := w1L hi (by omega)
        refine ⟨msT t.fKids[i]! (d + 1) x, ?_, ?_⟩
        · unfold n110_0
          dsimp only
          simp only [Bool.cond_decide, Int.toNat_natCast, GTerm.eta, hw1, hk, hw]
          grind
        · unfold MsP at hp
          rw [take_succL hi, msTs_snoc, ← hx.1, nTs_snoc]
          exact ⟨rfl, by omega, by omega⟩) (fun x _ => by unfold n110_0; simp) (b := incM d b) ⟨rfl, Int.le_refl _, by show b.fNodes + 1 ≤ _; simp [nTs]⟩
    rw [List.take_length] at hv
    rw [← hv]
    exact e1
  rw [msT_eq]
  unfold s110
  rw [hw0]
  have hm : ∀ x, x = (b.fDeep || decide (12 < d)) → m109 ⟨b.fNodes + 1, x⟩ = (overM (incM d b), incM d b) := fun x hx => by rw [m109_eq, (hinc x).2 hx]
  cases hb : b.fDeep with
  | true =>
    rw [hm true (by rw [hb]; rfl)] -- T
    have ho : overM (incM d b) = true := by unfold overM incM; simp [hb]
    simp [ho]
  | false =>
    rw [hm (decide (12 < d)) (by rw [hb]; rfl)]
    cases ho : overM (incM d b) with
    | true => simp
    | false =>
      obtain ⟨_, e⟩ := key ho
      rw [e]
      simp
theorem m110_eq : ∀ (n : Nat) (t : GTerm) (d : Int) (b : Measure), SizeOf.sizeOf t < n → 0 ≤ d → d ≤ 13 → 0 ≤ b.fNodes → b.fNodes + nT t ≤ 1000 → m110 n t d b = some (msT t d b)
  | 0, _, _, _, h, _, _, _, _ => by omega
  | n + 1, t, d, b, h, h0, hd, h1, h2 => s110_eq (m110 n) t (fun k hk d b a1 a2 a3 a4 => m110_eq n k d b (by have := GTerm.kids_lt hk; omega) a1 a2 a3 a4) d b h0 hd h1 h2
theorem r110_eq (t : GTerm) (d : Int) (b : Measure) (h0 : 0 ≤ d) (hd : d ≤ 13) (h1 : 0 ≤ b.fNodes) (h2 : b.fNodes + nT t ≤ 1000) : r110 t d b = some (msT t d b) := lim_eq (SizeOf.sizeOf t + 1) fun n hn => m110_eq n t d b (by omega) h0 hd h1 h2
def msS (d : Int) : List GStep → Measure → Measure
  | [], b => b
  | s :: l, b => if overM (incM d b) = true then incM d b else msS d l (msS (d + 1) s.fElse (msS (d + 1) s.fThen (msT s.fTerm 1 (incM d b))))
termination_by l => SizeOf.sizeOf l
decreasing_by
  · exact (sizeOf_then (List.mem_cons_self ..)).1
  · exact (sizeOf_then (List.mem_cons_self ..)).2
  · exact size_tail _ _
theorem msS_ok (d : Int) (l : List GStep) (b : Measure) (h0 : 0 ≤ d) (hd : d ≤ 13) (h1 : 0 ≤ b.fNodes) (h2 : b.fNodes + nSs l ≤ 1000) : (msS d l b).fDeep = (b.fDeep || (decide (12 < d - 1 + dSs l) || tDeep l)) ∧ b.fNodes ≤ (msS d l b).fNodes ∧ (msS d l b).fNodes ≤ b.fNodes + nSs l := by
  have key : ∀ (n : Nat) (d : Int) (l : List GStep) (b : Measure), SizeOf.sizeOf l < n → 0 ≤ d → d ≤ 13 → 0 ≤ b.fNodes → b.fNodes + nSs l ≤ 1000 → (msS d l b).fDeep = (b.fDeep || (decide (12 < d - 1 + dSs l) || tDeep l)) ∧ b.fNodes ≤ (msS d l b).fNodes ∧ (msS d l b).fNodes ≤ b.fNodes + nSs l := by
    intro n
    induction n with
    | zero => intro d l b h; omega
    | succ n ih =>
      intro d l b h h0 hd h1 h2
      cases l with
      | nil =>
        rw [msS, dSs, tDeep]
        refine ⟨?_, by omega, by simp [nSs]⟩
        rw [decide_eq_false (by omega)]
        simp
      | cons s l =>
        have hz := sizeOf_then (l := s :: l) (List.mem_cons_self ..)
        have hz2 := size_tail s l
        have hN := nS_eq s
        have hC := nSs_cons s l
        have p1 := dSs_pos s.fThen
        have p2 := dSs_pos s.fElse
        have p3 := dSs_pos l
        have p4 := dT_pos s.fTerm
        have hp : (incM d b).fNodes = b.fNodes + 1 := rfl
        have hp2 : (incM d b).fDeep = (b.fDeep || decide (12 < d)) := rfl
        rw [msS, dSs, tDeep]
        by_cases ho : overM (incM d b) = true
        · rw [if_pos ho]
          unfold overM incM at ho
          unfold incM
          dsimp only at ho ⊢
          refine ⟨?_, by omega, by omega⟩
          grind
        · rw [if_neg ho]
          unfold overM at ho
          rw [hp, hp2] at ho
          have hb : b.fDeep = false := by grind
          have hd2 : d ≤ 12 := by grind
          obtain ⟨a1, a2, a3⟩ := msT_ok s.fTerm 1 (incM d b) (by omega) (by omega) (by omega)
          obtain ⟨c1, c2, c3⟩ := ih (d + 1) s.fThen (msT s.fTerm 1 (incM d b)) (by omega) (by omega) (by omega) (by omega) (by omega)
          obtain ⟨g1, g2, g3⟩ := ih (d + 1) s.fElse _ (by omega) (by omega) (by omega) (Int.le_trans (by omega) c2) (by omega)
          obtain ⟨k1, k2, k3⟩ := ih d l _ (by omega) h0 hd (Int.le_trans (by omega) g2) (by omega)
          refine ⟨?_, by omega, by omega⟩
          rw [k1, g1, c1, a1, hp2, hb]
          rw [decide_eq_false (show ¬ 12 < d by omega)]
          have e1 : decide (12 < 1 - 1 + dT s.fTerm) = decide (12 < dT s.fTerm) := by congr 1; rw [show (1 : Int) - 1 + dT s.fTerm = dT s.fTerm by omega]
          rw [e1]
          have e2 : decide (12 < d - 1 + max (max (dSs s.fThen + 1) (dSs s.fElse + 1)) (dSs l)) = (decide (12 < d + 1 - 1 + dSs s.fThen) || (decide (12 < d + 1 - 1 + dSs s.fElse) || decide (12 < d - 1 + dSs l))) := by
            rw [← Bool.decide_or, ← Bool.decide_or]
            apply decide_eq_decide.2
            omega
          rw [e2]
          generalize decide (12 < dT s.fTerm) = x1
          generalize decide (12 < d + 1 - 1 + dSs s.fThen) = x2
          generalize decide (12 < d + 1 - 1 + dSs s.fElse) = x3
          generalize decide (12 < d - 1 + dSs l) = x4
          generalize tDeep s.fThen = x5
          generalize tDeep s.fElse = x6
          generalize tDeep l = x7
          revert x1 x2 x3 x4 x5 x6 x7
          decide
  exact key _ d l b (Nat.lt_succ_self _) h0 hd h1 h2
end Go.Proofs.YtaonipoflmbhgaaGreat
end
section
set_option linter.unusedSectionVars false
set_option linter.unusedVariables false
set_option linter.unusedSimpArgs false
namespace Go.Proofs.YtaonipoflmbhgaaGreat
open Go Go.Iv

theorem firstC_zero {α : Type} [Inhabited α] {c : Nat → α → Int} : ∀ (l : List α) (i : Nat), firstC c l i = 0 → ∀ j, j < l.length → c (i + j) l[j]! = 0
  | [], i, _, j, hj => by simp at hj
  | x :: xs, i, h, j, hj => by
    unfold firstC at h
    split at h
    · rename_i hx
      cases j with
      | zero => exact hx
      | succ j =>
        have := firstC_zero xs (i + 1) h j (by simpa using hj)
        rw [show i + 1 + j = i + (j + 1) by omega] at this
        simpa using this
    · rename_i hx; exact absurd h hx
/-- every variable's range is in order and within the limit -/
def VarsOk (vars : List GVar) : Prop := ∀ v ∈ vars, -1048576 ≤ v.fLow ∧ v.fLow ≤ v.fHigh ∧ v.fHigh ≤ 1048576
theorem varC_zero {vars : List GVar} {i : Nat} {v : GVar} (h : varC vars i v = 0) : -1048576 ≤ v.fLow ∧ v.fLow ≤ v.fHigh ∧ v.fHigh ≤ 1048576 := by
  unfold varC boundB at h
  grind
theorem varsOk_of {vars : List GVar} (h : firstC (varC vars) vars 0 = 0) : VarsOk vars := fun v hv => by
  obtain ⟨i, hi, e⟩ := List.getElem_of_mem hv
  have := firstC_zero _ _ h i hi
  rw [getElem!_pos vars i hi, e] at this
  exact varC_zero this
/-! ### spaces -/
theorem spc_filter (kind : Int) : ∀ (l : List GVar) (i : Nat) (n : Int), goE (fun _ (n : Int) (v : GVar) => if 4096 < n * (v.fHigh - v.fLow + 1) then (.inr () : Int ⊕ Unit) else .inl (n * (v.fHigh - v.fLow + 1))) (fun _ => (none : Option Int)) some (l.filter fun v => decide (v.fKind = kind)) i n = spc kind l n
  | [], i, n => rfl
  | v :: vs, i, n => by
    unfold spc
    by_cases hv : v.fKind = kind
    · rw [List.filter_cons_of_pos (by simpa using hv), if_pos hv]
      by_cases h : 4096 < n * (v.fHigh - v.fLow + 1)
      · rw [if_pos h, goE_inr (r := ()) (by rw [if_pos h])]
      · rw [if_neg h, goE_inl (by rw [if_neg h])]
        exact spc_filter kind vs (i + 1) _
    · rw [List.filter_cons_of_neg (by simpa using hv), if_neg hv]
      exact spc_filter kind vs i n
theorem spc_skip (kind : Int) : ∀ (l : List GVar) (i : Nat) (n : Int), goE (fun _ (n : Int) (v : GVar) => if v.fKind = kind then (if 4096 < n * (v.fHigh - v.fLow + 1) then (.inr () : Int ⊕ Unit) else .inl (n * (v.fHigh - v.fLow + 1))) else .inl n) (fun _ => (none : Option Int)) some l i n = spc kind l n
  | [], i, n => rfl
  | v :: vs, i, n => by
    unfold spc
    by_cases hv : v.fKind = kind
    · rw [if_pos hv]
      by_cases h : 4096 < n * (v.fHigh - v.fLow + 1)
      · rw [if_pos h, goE_inr (r := ()) (by rw [if_pos hv, if_pos h])]
      · rw [if_neg h, goE_inl (b' := n * (v.fHigh - v.fLow + 1)) (by rw [if_pos hv, if_neg h])]
        exact spc_skip kind vs (i + 1) _
    · rw [if_neg hv, goE_inl (b' := n) (by rw [if_neg hv])]
      exact spc_skip kind vs (i + 1) n
theorem size_bd {v : GVar} (h : -1048576 ≤ v.fLow ∧ v.fLow ≤ v.fHigh ∧ v.fHigh ≤ 1048576) {n : Int} (h1 : 1 ≤ n) (h2 : n ≤ 4096) :
    1 ≤ n * (v.fHigh - v.fLow + 1) ∧ IntKind.i64.wrap (v.fHigh - v.fLow) = v.fHigh - v.fLow ∧ IntKind.i64.wrap (v.fHigh - v.fLow + 1) = v.fHigh - v.fLow + 1 ∧ IntKind.i64.wrap (n * (v.fHigh - v.fLow + 1)) = n * (v.fHigh - v.fLow + 1) := by
  have e1 : 0 ≤ (n - 1) * (v.fHigh - v.fLow + 1) := Int.mul_nonneg (by omega) (by omega)
  have e2 : n * (v.fHigh - v.fLow + 1) ≤ 4096 * (v.fHigh - v.fLow + 1) := Int.mul_le_mul_of_nonneg_right h2 (by omega)
  have e3 : (n - 1) * (v.fHigh - v.fLow + 1) = n * (v.fHigh - v.fLow + 1) - (v.fHigh - v.fLow + 1) := by rw [Int.sub_mul, Int.one_mul]
  exact ⟨by omega, wrap_id (by omega) (by omega), wrap_id (by omega) (by omega), wrap_id (by omega) (by omega)⟩
theorem a191_0_eq (vars : List GVar) (hv : VarsOk vars) (hl : vars.length ≤ 1000000) (kind : Int) : a191_0 ⟨kind, [], vars, (vars.length : Int), 0⟩ = some ⟨kind, vars.filter (fun v => decide (v.fKind = kind)), vars, (vars.length : Int), (vars.length : Int)⟩ := by
  obtain ⟨v, e1, hV⟩ := loopI (rnd := n191_0) vars.length (fun i (b : List GVar) => ⟨kind, b, vars, (vars.length : Int), (i : Int)⟩) (fun i b => b = (vars.take i).filter fun v => decide (v.fKind = kind)) (fun i b hi hb => by
    have hw := w1L hi hl
    have hv := hv _ (get_memL hi)
    have hb2 : b.length ≤ i := by rw [hb]; exact Nat.le_trans (List.length_filter_le _ _) (by rw [List.length_take]; omega)
    rw [take_succL hi, List.filter_append, ← hb]
    by_cases hk : vars[i]!.fKind = kind
    · refine ⟨b ++ [vars[i]!], ?_, ?_⟩
      · have hl2 : (b ++ [vars[i]!]).length ≤ 1073741824 := by simp; omega
        unfold n191_0
        dsimp only
        simp only [Bool.cond_decide, Int.toNat_natCast]
        grind
      · revert hk
        generalize vars[i]! = x
        intro hk
        simp [hk]
    · refine ⟨b, ?_, ?_⟩
      · unfold n191_0
        dsimp only
        simp only [Bool.cond_decide, Int.toNat_natCast]
        grind
      · revert hk
        generalize vars[i]! = x
        intro hk
        simp [hk]) (fun b _ => by unfold n191_0; simp) (b := []) rfl
  rw [List.take_length] at hV
  rw [← hV]
  exact e1
theorem a191_1_eq (F : List GVar) (hv : VarsOk F) (hl : F.length ≤ 1000000) :
    ∃ (i : Nat) (n : Int), a191_1 ⟨F, 1, F, (F.length : Int), 0⟩ = some ⟨F, n, F, (F.length : Int), (i : Int)⟩ ∧ ((i = F.length ∧ goE (fun _ (n : Int) (v : GVar) => if 4096 < n * (v.fHigh - v.fLow + 1) then (.inr () : Int ⊕ Unit) else .inl (n * (v.fHigh - v.fLow + 1))) (fun _ => (none : Option Int)) some F 0 1 = some n) ∨
      (i < F.length ∧ 4096 < IntKind.i64.wrap (n * m217 F[i]!) ∧ goE (fun _ (n : Int) (v : GVar) => if 4096 < n * (v.fHigh - v.fLow + 1) then (.inr () : Int ⊕ Unit) else .inl (n * (v.fHigh - v.fLow + 1))) (fun _ => (none : Option Int)) some F 0 1 = none)) := by
  have hm : ∀ (i : Nat) (n : Int), i < F.length → 1 ≤ n → n ≤ 4096 → IntKind.i64.wrap (n * m217 F[i]!) = n * (F[i]!.fHigh - F[i]!.fLow + 1) := fun i n hi h1 h2 => by
    obtain ⟨a, b, c, d⟩ := size_bd (hv _ (get_memL hi)) h1 h2
    unfold m217
    rw [b, c, d]
  obtain ⟨i, n, e1, hI, hc⟩ := loopV (rnd := n191_1) F (fun i (n : Int) => ⟨F, n, F, (F.length : Int), (i : Int)⟩) (fun _ (n : Int) (v : GVar) => if 4096 < n * (v.fHigh - v.fLow + 1) then (.inr () : Int ⊕ Unit) else .inl (n * (v.fHigh - v.fLow + 1))) (fun _ => (none : Option Int)) some (fun i n => 1 ≤ n ∧ n ≤ 4096) (fun i n hi hI => by
    have hw := w1L hi hl
    have h1 := hm i n hi hI.1 hI.2
    have h2 := (size_bd (hv _ (get_memL hi)) hI.1 hI.2).1
    unfold n191_1
    dsimp only
    simp only [Bool.cond_decide, Int.toNat_natCast, h1]
    grind) (fun b _ => by unfold n191_1; simp) (b := 1) ⟨by omega, by omega⟩
  refine ⟨i, n, e1, ?_⟩
  rcases hc with ⟨h1, h2⟩ | ⟨h1, r, h2, h3⟩
  · exact .inl ⟨h1, h2⟩
  · refine .inr ⟨h1, ?_, h3⟩
    rw [hm i n h1 hI.1 hI.2]
    by_cases h : 4096 < n * (F[i]!.fHigh - F[i]!.fLow + 1)
    · exact h
    · rw [if_neg h] at h2
      cases h2
theorem m164_eq (vars : List GVar) (hv : VarsOk vars) (hl : vars.length ≤ 1000000) (kind : Int) (hk : kind = 1 ∨ kind = 2 ∨ kind = 3) : m164 vars kind = some (match spc kind vars 1 with | some n => (n, 0) | none => (0, 4)) := by
  have e0 := a191_0_eq vars hv hl kind
  obtain ⟨i, n, e1, hc⟩ := a191_1_eq (vars.filter fun v => decide (v.fKind = kind)) (fun v h => hv v (List.mem_filter.1 h).1) (Nat.le_trans (List.length_filter_le _ _) hl)
  rw [spc_filter] at hc
  unfold m164 m191
  rcases hk with rfl | rfl | rfl
  all_goals
    simp only [Bool.cond_decide, e0, e1, Int.reduceEq, if_true, if_false, reduceIte]
    rcases hc with ⟨rfl, hc⟩ | ⟨hi, h2, hc⟩
    · simp [hc]
    · simp only [Int.toNat_natCast, h2, if_true, hc]
      simp [hi]
theorem m121_eq (vars : List GVar) (hv : VarsOk vars) (hl : vars.length ≤ 1000000) (kind : Int) : m121 vars kind = some (match spc kind vars 1 with | some n => n | none => 4097) := by
  have hm : ∀ (i : Nat) (n : Int), i < vars.length → 1 ≤ n → n ≤ 4096 → IntKind.i64.wrap (n * IntKind.i64.wrap (IntKind.i64.wrap (vars[i]!.fHigh - vars[i]!.fLow) + 1)) = n * (vars[i]!.fHigh - vars[i]!.fLow + 1) := fun i n hi h1 h2 => by
    obtain ⟨a, b, c, d⟩ := size_bd (hv _ (get_memL hi)) h1 h2
    rw [b, c, d]
  obtain ⟨i, n, e1, hI, hc⟩ := loopV (rnd := n121_0) vars (fun i (n : Int) => ⟨vars, kind, n, (i : Int)⟩) (fun _ (n : Int) (v : GVar) => if v.fKind = kind then (if 4096 < n * (v.fHigh - v.fLow + 1) then (.inr () : Int ⊕ Unit) else .inl (n * (v.fHigh - v.fLow + 1))) else .inl n) (fun _ => (none : Option Int)) some (fun i n => 1 ≤ n ∧ n ≤ 4096) (fun i n hi hI => by
    have hw := w1L hi hl
    have h1 := hm i n hi hI.1 hI.2
    have h2 := (size_bd (hv _ (get_memL hi)) hI.1 hI.2).1
    unfold n121_0
    dsimp only
    simp only [Bool.cond_decide, Int.toNat_natCast, h1]
    grind) (fun b _ => by unfold n121_0; simp) (b := 1) ⟨by omega, by omega⟩
  rw [spc_skip] at hc
  have e1' : a121_0 ⟨vars, kind, 1, 0⟩ = some ⟨vars, kind, n, (i : Int)⟩ := e1
  unfold m121
  rw [e1']
  dsimp only
  rcases hc with ⟨rfl, hc⟩ | ⟨hi, r, h2, hc⟩
  · simp [hc]
  · have h1 := hm i n hi hI.1 hI.2
    simp only [Bool.cond_decide, Int.toNat_natCast, h1, hc]
    grind
theorem spc_bd (kind : Int) : ∀ (l : List GVar) (n m : Int), n ≤ 4096 → spc kind l n = some m → m ≤ 4096
  | [], n, m, h, e => by unfold spc at e; cases e; exact h
  | v :: vs, n, m, h, e => by
    unfold spc at e
    split at e
    · split at e
      · cases e
      · exact spc_bd kind vs _ m (by omega) e
    · exact spc_bd kind vs n m h e
/-! ### the variables -/
theorem round111 (vars : List GVar) (hl : vars.length ≤ 1000000) (i : Nat) (hi : i < vars.length) : (varC vars i vars[i]! = 0 → n111_0 ⟨vars, vars, (vars.length : Int), (i : Int)⟩ = some (some ⟨vars, vars, (vars.length : Int), ((i + 1 : Nat) : Int)⟩)) ∧ (varC vars i vars[i]! ≠ 0 → n111_0 ⟨vars, vars, (vars.length : Int), (i : Int)⟩ = some none) := by
  have hw := w1L hi hl
  have h1 := m161_eq vars[i]!.fName
  have h2 := m162_eq (vars.take i) (by rw [List.length_take]; omega) vars[i]!
  unfold n111_0 varC
  dsimp only
  simp only [Bool.cond_decide, Int.toNat_natCast, m163_eq, h1, h2]
  generalize nameB vars[i]!.fName = B
  generalize ((vars.take i).any fun w => w.fName.toList == vars[i]!.fName.toList) = A
  generalize boundB vars[i]!.fLow vars[i]!.fHigh = C
  cases A <;> cases B <;> cases C <;> simp only [cond_true, cond_false] <;> grind
theorem m111_eq (vars : List GVar) (hl : vars.length ≤ 1000000) : m111 vars = some (varsC vars) := by
  obtain ⟨i, e1, hc⟩ := loopC (rnd := n111_0) vars (fun i => ⟨vars, vars, (vars.length : Int), (i : Int)⟩) (varC vars) (fun i hi => round111 vars hl i hi) (by unfold n111_0; simp)
  have e1' : a111_0 ⟨vars, vars, (vars.length : Int), 0⟩ = some ⟨vars, vars, (vars.length : Int), (i : Int)⟩ := e1
  unfold m111 varsC
  rw [e1']
  dsimp only
  rcases hc with ⟨rfl, hc⟩ | ⟨hi, h0, hc⟩
  · have hv := varsOk_of hc
    rw [decide_eq_false (by omega), cond_false, if_neg (by rw [hc]; simp)]
    have hr : ∀ k : Nat, k < 3 → IntKind.i64.wrap ((k : Int) + 1) = ((k + 1 : Nat) : Int) := fun k hk => w1L hk (by decide)
    have k1 := m164_eq vars hv hl 1 (.inl rfl)
    have k2 := m164_eq vars hv hl 2 (.inr (.inl rfl))
    have k3 := m164_eq vars hv hl 3 (.inr (.inr rfl))
    have r1 : n111_1 ⟨vars, [1, 2, 3], 3, 0⟩ = match spc 1 vars 1 with | some _ => some (some ⟨vars, [1, 2, 3], 3, 1⟩) | none => some none := by
      unfold n111_1
      simp [k1]
      cases spc 1 vars 1 with
      | none => simp
      | some n => simp; exact hr 0 (by decide)
    have r2 : n111_1 ⟨vars, [1, 2, 3], 3, 1⟩ = match spc 2 vars 1 with | some _ => some (some ⟨vars, [1, 2, 3], 3, 2⟩) | none => some none := by
      unfold n111_1
      simp [k2]
      cases spc 2 vars 1 with
      | none => simp
      | some n => simp; exact hr 1 (by decide)
    have r3 : n111_1 ⟨vars, [1, 2, 3], 3, 2⟩ = match spc 3 vars 1 with | some n => if 256 < n then some none else some (some ⟨vars, [1, 2, 3], 3, 3⟩) | none => some none := by
      unfold n111_1
      simp [k3]
      cases spc 3 vars 1 with
      | none => simp
      | some n =>
        by_cases h : 256 < n
        · simp [h]
        · simp [h]; exact hr 2 (by decide)
    unfold spaceB
    cases s1 : spc 1 vars 1 with
    | none =>
      rw [s1] at r1 k1
      have e : a111_1 ⟨vars, [1, 2, 3], 3, 0⟩ = some ⟨vars, [1, 2, 3], 3, 0⟩ := advG_stop fun r => by rw [r1]; simp
      rw [show ((↑(3 : Int) : Int)) = 3 from rfl, e]
      simp [k1]
    | some n1 =>
      rw [s1] at r1 k1
      cases s2 : spc 2 vars 1 with
      | none =>
        rw [s2] at r2 k2
        have e : a111_1 ⟨vars, [1, 2, 3], 3, 0⟩ = some ⟨vars, [1, 2, 3], 3, 1⟩ := (advG_step r1).trans (advG_stop fun r => by rw [r2]; simp)
        rw [show ((↑(3 : Int) : Int)) = 3 from rfl, e]
        simp [k2]
      | some n2 =>
        rw [s2] at r2 k2
        cases s3 : spc 3 vars 1 with
        | none =>
          rw [s3] at r3 k3
          have e : a111_1 ⟨vars, [1, 2, 3], 3, 0⟩ = some ⟨vars, [1, 2, 3], 3, 2⟩ := (advG_step r1).trans ((advG_step r2).trans (advG_stop fun r => by rw [r3]; simp))
          rw [show ((↑(3 : Int) : Int)) = 3 from rfl, e]
          simp [k3]
        | some n3 =>
          rw [s3] at r3 k3
          dsimp only at r3
          by_cases h : 256 < n3
          · rw [if_pos h] at r3
            have e : a111_1 ⟨vars, [1, 2, 3], 3, 0⟩ = some ⟨vars, [1, 2, 3], 3, 2⟩ := (advG_step r1).trans ((advG_step r2).trans (advG_stop fun r => by rw [r3]; simp))
            rw [show ((↑(3 : Int) : Int)) = 3 from rfl, e]
            simp [k3, h]
          · rw [if_neg h] at r3
            have e : a111_1 ⟨vars, [1, 2, 3], 3, 0⟩ = some ⟨vars, [1, 2, 3], 3, 3⟩ := (advG_step r1).trans ((advG_step r2).trans ((advG_step r3).trans (advG_stop fun r => by unfold n111_1; simp)))
            rw [show ((↑(3 : Int) : Int)) = 3 from rfl, e]
            simp [h]
  · have h1 := m161_eq vars[i]!.fName
    have h2 := m162_eq (vars.take i) (by rw [List.length_take]; omega) vars[i]!
    rw [hc, if_pos h0]
    rw [decide_eq_true (by omega), cond_true, if_pos ⟨by omega, by omega⟩]
    revert h0
    unfold varC
    simp only [Bool.cond_decide, Int.toNat_natCast, m163_eq, h1, h2]
    generalize nameB vars[i]!.fName = B
    generalize ((vars.take i).any fun w => w.fName.toList == vars[i]!.fName.toList) = A
    generalize boundB vars[i]!.fLow vars[i]!.fHigh = C
    intro h0
    cases A <;> cases B <;> cases C <;> simp only [cond_true, cond_false] at h0 ⊢ <;> grind
theorem round59 (vars : List GVar) (hl : vars.length ≤ 1000000) (i : Nat) (hi : i < vars.length) : (varC vars i vars[i]! = 0 → n59_0 ⟨vars, (i : Int)⟩ = some (some ⟨vars, ((i + 1 : Nat) : Int)⟩)) ∧ (varC vars i vars[i]! ≠ 0 → n59_0 ⟨vars, (i : Int)⟩ = some none) := by
  have hw := w1L hi hl
  have h1 := m60_eq vars[i]!.fName
  obtain ⟨j, h2, h3⟩ := a59_1_eq vars hl i (by omega) vars[i]!
  unfold n59_0 varC
  dsimp only
  simp only [Bool.cond_decide, Int.toNat_natCast, m61_eq, h1, h2]
  generalize nameB vars[i]!.fName = B
  generalize ((vars.take i).any fun w => w.fName.toList == vars[i]!.fName.toList) = A at h3
  generalize boundB vars[i]!.fLow vars[i]!.fHigh = C
  rcases h3 with ⟨rfl, rfl⟩ | ⟨hj, h4, rfl⟩
  · cases B <;> cases C <;> simp only [cond_true, cond_false] <;> grind
  · simp only [h4]
    cases B <;> cases C <;> simp only [cond_true, cond_false] <;> grind
theorem m59_eq (vars : List GVar) (hl : vars.length ≤ 1000000) : m59 vars = some (varsC vars) := by
  obtain ⟨i, e1, hc⟩ := loopC (rnd := n59_0) vars (fun i => ⟨vars, (i : Int)⟩) (varC vars) (fun i hi => round59 vars hl i hi) (by unfold n59_0; simp)
  have e1' : a59_0 ⟨vars, 0⟩ = some ⟨vars, (i : Int)⟩ := e1
  unfold m59 varsC
  rw [e1']
  dsimp only
  rcases hc with ⟨rfl, hc⟩ | ⟨hi, h0, hc⟩
  · have hv := varsOk_of hc
    rw [decide_eq_false (by omega), cond_false, if_neg (by rw [hc]; simp)]
    rw [m121_eq vars hv hl 1, m121_eq vars hv hl 2, m121_eq vars hv hl 3]
    have b1 := spc_bd 1 vars 1
    have b2 := spc_bd 2 vars 1
    unfold spaceB
    revert b1 b2
    cases spc 1 vars 1 <;> cases spc 2 vars 1 <;> cases spc 3 vars 1 <;> intro b1 b2 <;> simp only [Bool.cond_decide, Option.isSome_none, Option.isSome_some, Bool.and_true, Bool.and_false, Bool.true_and, Bool.false_and] <;> (try have c1 := b1 _ (by omega) rfl) <;> (try have c2 := b2 _ (by omega) rfl) <;> grind
  · have h1 := m60_eq vars[i]!.fName
    obtain ⟨j, h2, h3⟩ := a59_1_eq vars hl i (by omega) vars[i]!
    rw [hc, if_pos h0]
    rw [decide_eq_true (by omega), cond_true, if_pos ⟨by omega, by omega⟩]
    revert h0
    unfold varC
    simp only [Bool.cond_decide, Int.toNat_natCast, m61_eq, h1, h2]
    generalize nameB vars[i]!.fName = B
    generalize ((vars.take i).any fun w => w.fName.toList == vars[i]!.fName.toList) = A at h3
    generalize boundB vars[i]!.fLow vars[i]!.fHigh = C
    intro h0
    rcases h3 with ⟨rfl, rfl⟩ | ⟨hj, h4, rfl⟩
    · cases B <;> cases C <;> simp only [cond_true, cond_false] at h0 ⊢ <;> grind
    · simp only [h4]
      cases B <;> cases C <;> simp only [cond_true, cond_false] at h0 ⊢ <;> grind
end Go.Proofs.YtaonipoflmbhgaaGreat
end
