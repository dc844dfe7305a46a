/- Merged: By, Lad, Lbd, Pl, Pl2, Bz, Iy1, Opb, Ca. -/
import Derived.Test.YtfipaakafcjjhaaM6DiskWhole
import Derived.Test.YtfipaakafcjjhaaM3DiskWhole
import Derived.Deep.Slices
import Derived.Lib.SmallJoins
section
set_option linter.unusedSectionVars false
set_option linter.unusedVariables false
set_option linter.unusedSimpArgs false
set_option maxRecDepth 100000
namespace Go.Proofs.Ytfipaakafcjjhaa
open Go Go.Iv
/-! ### 6: keyhole/keyholelaw49.DiskWhole -/
noncomputable def F6 : Orc := (e25 (e24 (e23 (e22 (e19 (e17 (e15 (e14 (e12 (e11 or0))))))))))
theorem F6_ok : OrcG Try.prog F6 := (e25_okv gv25 (e24_okv gv24 (e23_okv gv23 (e22_okv gv22 (e19_okv gv19 (e17_okv gv17 (e15_okv gv15 (e14_okv gv14 (e12_okv gv12 (e11_okv gv11 or0_g))))))))))
structure L6_4 where
  t4 : List Int
  t5 : List Int
  t6 : List (Nat → Bool)
  t38 : List GOp
  t39 : Int
  t40 : Int
  t191 : Int
  t192 : Int
  b0 : Disk
abbrev P6_4 : Type := (Unit × Unit × Unit × Unit × (List GOp) × Int × Int × Int × Int × Unit) × (Disk × (List Int) × (List Int) × (List (Nat → Bool)) × Unit)
noncomputable def rb6_4 : St → Option P6_4 := stR 4 (slC 3 (asP 0 0) (slC 4 (asO 1) (slC 5 (asO 2) (slC 6 (asO 3) (slC 38 (asL 46) (slC 39 (asI .i64) (slC 40 (asI .i64) (slC 191 (asI .i64) (slC 192 (asI .i64) slN))))))))) (rsN2 0 26 (asCs 26) (rsR 1 5 (rsR 2 5 (rsR 3 43 rsN))))
noncomputable def pb6_4 : P6_4 → St := stP 4 (fun z => [(3, .ptr 0 0), (4, .own 1), (5, .own 2), (6, .own 3), (38, .sl 46 z.2.2.2.2.1), (39, .n .i64 z.2.2.2.2.2.1), (40, .n .i64 z.2.2.2.2.2.2.1), (191, .n .i64 z.2.2.2.2.2.2.2.1), (192, .n .i64 z.2.2.2.2.2.2.2.2.1)]) (fun z => [(0, .box 26 (uni.cells 26 z.1)), (1, .row 5 z.2.1), (2, .row 5 z.2.2.1), (3, .row 43 z.2.2.2.1)])
noncomputable def mk6_4 (z : P6_4) : L6_4 := ⟨z.2.2.1, z.2.2.2.1, z.2.2.2.2.1, z.1.2.2.2.2.1, z.1.2.2.2.2.2.1, z.1.2.2.2.2.2.2.1, z.1.2.2.2.2.2.2.2.1, z.1.2.2.2.2.2.2.2.2.1, z.2.1⟩
noncomputable def pt6_4 (x : L6_4) : St := pb6_4 (((), (), (), (), x.t38, x.t39, x.t40, x.t191, x.t192, ()), (x.b0, x.t4, x.t5, x.t6, ()))
noncomputable def rd6_4 : St → Option L6_4 := rdC 0 [] [3, 4, 5, 6, 38, 39, 40, 191, 192] (rdM mk6_4 rb6_4)
theorem rb6_4_ok (n : Nat) : RdOk 0 n rb6_4 pb6_4 := stR_ok (.cons (.p 0 0) (.cons (.o 1) (.cons (.o 2) (.cons (.o 3) (.cons (.l 46) (.cons (.i .i64) (.cons (.i .i64) (.cons (.i .i64) (.cons (.i .i64) .nil))))))))) (.boxN (PkN.parse 26) (.row (.row (.row .nil))))
theorem rd6_4_ok (n : Nat) : RdOk 0 n rd6_4 pt6_4 := rdC_ok ((rb6_4_ok n).m mk6_4 (pat' := pt6_4) fun _ => rfl)
noncomputable def n6_4 (p : L6_4) : Option (Option L6_4) :=
  bif decide (p.t192 < p.t191) then
    match m17 p.b0 p.t192 with
    | none =>
      none
    | some r61 =>
      bif p.b0.fDown then
        bif bif decide (r61.snd = 17) then false else true then
          some (none)
        else
          some (some (L6_4.mk p.t4 p.t5 p.t6 p.t38 p.t39 p.t40 p.t191 (IntKind.i64.wrap (p.t192 + 1)) p.b0))
      else
        bif bif decide (r61.snd = 0) then false else true then
          some (none)
        else
          if (0 : Int) ≤ p.t192 ∧ p.t192 < (↑p.t5.length : Int) then
            if 5 = 5 ∧ p.t192.toNat < p.t5.length then
              match m15 p.t5[p.t192.toNat]! with
              | none =>
                none
              | some r62 =>
                match m14 r61.fst r62 with
                | none =>
                  none
                | some r63 =>
                  bif bif r63 then false else true then
                    some (none)
                  else
                    some (some (L6_4.mk p.t4 p.t5 p.t6 p.t38 p.t39 p.t40 p.t191 (IntKind.i64.wrap (p.t192 + 1)) p.b0))
            else
              none
          else
            none
  else
    some (none)
theorem q6_4 (p : L6_4) : execA Try.prog (F6) Try.f6.ntmps 300 (loopAt Try.f6 4) .no (Option L6_4) (pt6_4 p) (kOn rd6_4) = n6_4 p := by kernel_rfl
noncomputable def a6_4 : L6_4 → Option L6_4 := advG (n6_4)
structure L6_3 where
  t4 : List Int
  t5 : List Int
  t6 : List (Nat → Bool)
  t38 : List GOp
  t39 : Int
  t40 : Int
  t126 : Int
  t127 : Int
  b0 : Disk
abbrev P6_3 : Type := (Unit × Unit × Unit × Unit × (List GOp) × Int × Int × Int × Int × Unit) × (Disk × (List Int) × (List Int) × (List (Nat → Bool)) × Unit)
noncomputable def rb6_3 : St → Option P6_3 := stR 4 (slC 3 (asP 0 0) (slC 4 (asO 1) (slC 5 (asO 2) (slC 6 (asO 3) (slC 38 (asL 46) (slC 39 (asI .i64) (slC 40 (asI .i64) (slC 126 (asI .i64) (slC 127 (asI .i64) slN))))))))) (rsN2 0 26 (asCs 26) (rsR 1 5 (rsR 2 5 (rsR 3 43 rsN))))
noncomputable def pb6_3 : P6_3 → St := stP 4 (fun z => [(3, .ptr 0 0), (4, .own 1), (5, .own 2), (6, .own 3), (38, .sl 46 z.2.2.2.2.1), (39, .n .i64 z.2.2.2.2.2.1), (40, .n .i64 z.2.2.2.2.2.2.1), (126, .n .i64 z.2.2.2.2.2.2.2.1), (127, .n .i64 z.2.2.2.2.2.2.2.2.1)]) (fun z => [(0, .box 26 (uni.cells 26 z.1)), (1, .row 5 z.2.1), (2, .row 5 z.2.2.1), (3, .row 43 z.2.2.2.1)])
noncomputable def mk6_3 (z : P6_3) : L6_3 := ⟨z.2.2.1, z.2.2.2.1, z.2.2.2.2.1, z.1.2.2.2.2.1, z.1.2.2.2.2.2.1, z.1.2.2.2.2.2.2.1, z.1.2.2.2.2.2.2.2.1, z.1.2.2.2.2.2.2.2.2.1, z.2.1⟩
noncomputable def pt6_3 (x : L6_3) : St := pb6_3 (((), (), (), (), x.t38, x.t39, x.t40, x.t126, x.t127, ()), (x.b0, x.t4, x.t5, x.t6, ()))
noncomputable def rd6_3 : St → Option L6_3 := rdC 0 [] [3, 4, 5, 6, 38, 39, 40, 126, 127] (rdM mk6_3 rb6_3)
theorem rb6_3_ok (n : Nat) : RdOk 0 n rb6_3 pb6_3 := stR_ok (.cons (.p 0 0) (.cons (.o 1) (.cons (.o 2) (.cons (.o 3) (.cons (.l 46) (.cons (.i .i64) (.cons (.i .i64) (.cons (.i .i64) (.cons (.i .i64) .nil))))))))) (.boxN (PkN.parse 26) (.row (.row (.row .nil))))
theorem rd6_3_ok (n : Nat) : RdOk 0 n rd6_3 pt6_3 := rdC_ok ((rb6_3_ok n).m mk6_3 (pat' := pt6_3) fun _ => rfl)
noncomputable def n6_3 (p : L6_3) : Option (Option L6_3) :=
  bif decide (p.t127 < p.t126) then
    match m17 p.b0 p.t127 with
    | none =>
      none
    | some r58 =>
      bif bif decide (r58.snd = 0) then false else true then
        some (none)
      else
        bif bif decide ((↑r58.fst.length : Int) = 96) then false else true then
          some (none)
        else
          if (0 : Int) ≤ (0 : Int) ∧ (0 : Int) < (↑r58.fst.length : Int) then
            match m15 r58.fst[0]! with
            | none =>
              none
            | some r59 =>
              match m14 r58.fst r59 with
              | none =>
                none
              | some r60 =>
                bif bif r60 then false else true then
                  some (none)
                else
                  if (0 : Int) ≤ (0 : Int) ∧ (0 : Int) < (↑r58.fst.length : Int) then
                    if (0 : Int) ≤ p.t127 ∧ p.t127 < (↑p.t6.length : Int) then
                      if (0 : Int) ≤ (((), (), ()), (r58.fst, ()), (r58.snd, ()), ()).snd.fst.fst[Int.toNat 0]! ∧ (((), (), ()), (r58.fst, ()), (r58.snd, ()), ()).snd.fst.fst[Int.toNat 0]! < (256 : Int) then
                        if 43 = 43 ∧ p.t127.toNat < p.t6.length ∧ 0 + Int.toNat r58.fst[0]! * 1 < 256 then
                          bif bif getA p.t6[p.t127.toNat]! (0 + Int.toNat r58.fst[0]! * 1) then false else true then
                            some (none)
                          else
                            if (0 : Int) ≤ (0 : Int) ∧ (0 : Int) < (↑r58.fst.length : Int) then
                              if (0 : Int) ≤ (0 : Int) ∧ (0 : Int) < (↑r58.fst.length : Int) then
                                if (0 : Int) ≤ p.t127 ∧ p.t127 < (↑p.t5.length : Int) then
                                  if 5 = 5 ∧ p.t127.toNat < p.t5.length then
                                    if (0 : Int) ≤ p.t127 ∧ p.t127 < (↑p.t4.length : Int) then
                                      if 5 = 5 ∧ p.t127.toNat < p.t4.length then
                                        if (0 : Int) ≤ p.t127 ∧ p.t127 < (↑p.t6.length : Int) then
                                          if 43 = 43 ∧ p.t127.toNat < p.t6.length then
                                            if (0 : Int) ≤ (0 : Int) ∧ (0 : Int) < (↑r58.fst.length : Int) then
                                              if (0 : Int) ≤ p.t127 ∧ p.t127 < (↑(p.t6.set p.t127.toNat fun x => false).length : Int) then
                                                if (0 : Int) ≤ (((), (), ()), (r58.fst, ()), (r58.snd, ()), ()).snd.fst.fst[Int.toNat 0]! ∧ (((), (), ()), (r58.fst, ()), (r58.snd, ()), ()).snd.fst.fst[Int.toNat 0]! < (256 : Int) then
                                                  if 43 = 43 ∧ p.t127.toNat < (p.t6.set p.t127.toNat fun x => false).length ∧ 0 + Int.toNat r58.fst[0]! * 1 < 256 then
                                                    some (some (L6_3.mk (p.t4.set p.t127.toNat r58.fst[0]!) (p.t5.set p.t127.toNat r58.fst[0]!) ((p.t6.set p.t127.toNat fun x => false).set p.t127.toNat (setA (p.t6.set p.t127.toNat fun x => false)[p.t127.toNat]! (0 + Int.toNat r58.fst[0]! * 1) true)) p.t38 p.t39 p.t40 p.t126 (IntKind.i64.wrap (p.t127 + 1)) p.b0))
                                                  else
                                                    none
                                                else
                                                  none
                                              else
                                                none
                                            else
                                              none
                                          else
                                            none
                                        else
                                          none
                                      else
                                        none
                                    else
                                      none
                                  else
                                    none
                                else
                                  none
                              else
                                none
                            else
                              none
                        else
                          none
                      else
                        none
                    else
                      none
                  else
                    none
          else
            none
  else
    some (none)
theorem q6_3 (p : L6_3) : execA Try.prog (F6) Try.f6.ntmps 300 (loopAt Try.f6 3) .no (Option L6_3) (pt6_3 p) (kOn rd6_3) = n6_3 p := by kernel_rfl
noncomputable def a6_3 : L6_3 → Option L6_3 := advG (n6_3)
structure L6_2 where
  t4 : List Int
  t5 : List Int
  t6 : List (Nat → Bool)
  t38 : List GOp
  t39 : Int
  t40 : Int
  t89 : Int
  t90 : Int
  b0 : Disk
abbrev P6_2 : Type := (Unit × Unit × Unit × Unit × (List GOp) × Int × Int × Int × Int × Unit) × (Disk × (List Int) × (List Int) × (List (Nat → Bool)) × Unit)
noncomputable def rb6_2 : St → Option P6_2 := stR 4 (slC 3 (asP 0 0) (slC 4 (asO 1) (slC 5 (asO 2) (slC 6 (asO 3) (slC 38 (asL 46) (slC 39 (asI .i64) (slC 40 (asI .i64) (slC 89 (asI .i64) (slC 90 (asI .i64) slN))))))))) (rsN2 0 26 (asCs 26) (rsR 1 5 (rsR 2 5 (rsR 3 43 rsN))))
noncomputable def pb6_2 : P6_2 → St := stP 4 (fun z => [(3, .ptr 0 0), (4, .own 1), (5, .own 2), (6, .own 3), (38, .sl 46 z.2.2.2.2.1), (39, .n .i64 z.2.2.2.2.2.1), (40, .n .i64 z.2.2.2.2.2.2.1), (89, .n .i64 z.2.2.2.2.2.2.2.1), (90, .n .i64 z.2.2.2.2.2.2.2.2.1)]) (fun z => [(0, .box 26 (uni.cells 26 z.1)), (1, .row 5 z.2.1), (2, .row 5 z.2.2.1), (3, .row 43 z.2.2.2.1)])
noncomputable def mk6_2 (z : P6_2) : L6_2 := ⟨z.2.2.1, z.2.2.2.1, z.2.2.2.2.1, z.1.2.2.2.2.1, z.1.2.2.2.2.2.1, z.1.2.2.2.2.2.2.1, z.1.2.2.2.2.2.2.2.1, z.1.2.2.2.2.2.2.2.2.1, z.2.1⟩
noncomputable def pt6_2 (x : L6_2) : St := pb6_2 (((), (), (), (), x.t38, x.t39, x.t40, x.t89, x.t90, ()), (x.b0, x.t4, x.t5, x.t6, ()))
noncomputable def rd6_2 : St → Option L6_2 := rdC 0 [] [3, 4, 5, 6, 38, 39, 40, 89, 90] (rdM mk6_2 rb6_2)
theorem rb6_2_ok (n : Nat) : RdOk 0 n rb6_2 pb6_2 := stR_ok (.cons (.p 0 0) (.cons (.o 1) (.cons (.o 2) (.cons (.o 3) (.cons (.l 46) (.cons (.i .i64) (.cons (.i .i64) (.cons (.i .i64) (.cons (.i .i64) .nil))))))))) (.boxN (PkN.parse 26) (.row (.row (.row .nil))))
theorem rd6_2_ok (n : Nat) : RdOk 0 n rd6_2 pt6_2 := rdC_ok ((rb6_2_ok n).m mk6_2 (pat' := pt6_2) fun _ => rfl)
noncomputable def n6_2 (p : L6_2) : Option (Option L6_2) :=
  bif decide (p.t90 < p.t89) then
    if (0 : Int) ≤ p.t90 ∧ p.t90 < (↑p.t6.length : Int) then
      if 43 = 43 ∧ p.t90.toNat < p.t6.length then
        if (0 : Int) ≤ p.t90 ∧ p.t90 < (↑p.t4.length : Int) then
          if 5 = 5 ∧ p.t90.toNat < p.t4.length then
            if (0 : Int) ≤ p.t90 ∧ p.t90 < (↑(p.t6.set p.t90.toNat fun x => false).length : Int) then
              if (0 : Int) ≤ (((), (), (), (), p.t38, p.t39, p.t40, p.t89, p.t90, ()), p.b0, p.t4, p.t5, p.t6, ()).snd.snd.fst[(((), (), (), (), p.t38, p.t39, p.t40, p.t89, p.t90, ()), p.b0, p.t4, p.t5, p.t6, ()).fst.snd.snd.snd.snd.snd.snd.snd.snd.fst.toNat]! ∧ (((), (), (), (), p.t38, p.t39, p.t40, p.t89, p.t90, ()), p.b0, p.t4, p.t5, p.t6, ()).snd.snd.fst[(((), (), (), (), p.t38, p.t39, p.t40, p.t89, p.t90, ()), p.b0, p.t4, p.t5, p.t6, ()).fst.snd.snd.snd.snd.snd.snd.snd.snd.fst.toNat]! < (256 : Int) then
                if 43 = 43 ∧ p.t90.toNat < (p.t6.set p.t90.toNat fun x => false).length ∧ 0 + Int.toNat p.t4[p.t90.toNat]! * 1 < 256 then
                  some (some (L6_2.mk p.t4 p.t5 ((p.t6.set p.t90.toNat fun x => false).set p.t90.toNat (setA (p.t6.set p.t90.toNat fun x => false)[p.t90.toNat]! (0 + Int.toNat p.t4[p.t90.toNat]! * 1) true)) p.t38 p.t39 p.t40 p.t89 (IntKind.i64.wrap (p.t90 + 1)) p.b0))
                else
                  none
              else
                none
            else
              none
          else
            none
        else
          none
      else
        none
    else
      none
  else
    some (none)
theorem q6_2 (p : L6_2) : execA Try.prog (F6) Try.f6.ntmps 300 (loopAt Try.f6 2) .no (Option L6_2) (pt6_2 p) (kOn rd6_2) = n6_2 p := by kernel_rfl
noncomputable def a6_2 : L6_2 → Option L6_2 := advG (n6_2)
structure L6_1 where
  t4 : List Int
  t5 : List Int
  t6 : List (Nat → Bool)
  t38 : List GOp
  t39 : Int
  t40 : Int
  b0 : Disk
abbrev P6_1 : Type := (Unit × Unit × Unit × Unit × (List GOp) × Int × Int × Unit) × (Disk × (List Int) × (List Int) × (List (Nat → Bool)) × Unit)
noncomputable def rb6_1 : St → Option P6_1 := stR 4 (slC 3 (asP 0 0) (slC 4 (asO 1) (slC 5 (asO 2) (slC 6 (asO 3) (slC 38 (asL 46) (slC 39 (asI .i64) (slC 40 (asI .i64) slN))))))) (rsN2 0 26 (asCs 26) (rsR 1 5 (rsR 2 5 (rsR 3 43 rsN))))
noncomputable def pb6_1 : P6_1 → St := stP 4 (fun z => [(3, .ptr 0 0), (4, .own 1), (5, .own 2), (6, .own 3), (38, .sl 46 z.2.2.2.2.1), (39, .n .i64 z.2.2.2.2.2.1), (40, .n .i64 z.2.2.2.2.2.2.1)]) (fun z => [(0, .box 26 (uni.cells 26 z.1)), (1, .row 5 z.2.1), (2, .row 5 z.2.2.1), (3, .row 43 z.2.2.2.1)])
noncomputable def mk6_1 (z : P6_1) : L6_1 := ⟨z.2.2.1, z.2.2.2.1, z.2.2.2.2.1, z.1.2.2.2.2.1, z.1.2.2.2.2.2.1, z.1.2.2.2.2.2.2.1, z.2.1⟩
noncomputable def pt6_1 (x : L6_1) : St := pb6_1 (((), (), (), (), x.t38, x.t39, x.t40, ()), (x.b0, x.t4, x.t5, x.t6, ()))
noncomputable def rd6_1 : St → Option L6_1 := rdC 0 [] [3, 4, 5, 6, 38, 39, 40] (rdM mk6_1 rb6_1)
theorem rb6_1_ok (n : Nat) : RdOk 0 n rb6_1 pb6_1 := stR_ok (.cons (.p 0 0) (.cons (.o 1) (.cons (.o 2) (.cons (.o 3) (.cons (.l 46) (.cons (.i .i64) (.cons (.i .i64) .nil))))))) (.boxN (PkN.parse 26) (.row (.row (.row .nil))))
theorem rd6_1_ok (n : Nat) : RdOk 0 n rd6_1 pt6_1 := rdC_ok ((rb6_1_ok n).m mk6_1 (pat' := pt6_1) fun _ => rfl)
noncomputable def n6_1 (p : L6_1) : Option (Option L6_1) :=
  bif decide (p.t40 < p.t39) then
    if (0 : Int) ≤ p.t40 ∧ p.t40 < (↑p.t38.length : Int) then
      bif decide (p.t38[p.t40.toNat]!.fKind.tmod (5) = 0) then
        match m15 p.t38[p.t40.toNat]!.fFill with
        | none =>
          none
        | some r1 =>
          match m19 p.b0 ((IntKind.i64.wrap p.t38[p.t40.toNat]!.fAt).tmod (8)) r1 with
          | none =>
            none
          | some r2 =>
            bif decide (r2.snd = 0) then
              if (0 : Int) ≤ (IntKind.i64.wrap p.t38[p.t40.toNat]!.fAt).tmod ((8 : Int)) ∧ (IntKind.i64.wrap p.t38[p.t40.toNat]!.fAt).tmod ((8 : Int)) < (↑p.t5.length : Int) then
                if 5 = 5 ∧ ((IntKind.i64.wrap p.t38[p.t40.toNat]!.fAt).tmod ((8 : Int))).toNat < p.t5.length then
                  if (0 : Int) ≤ (IntKind.i64.wrap p.t38[p.t40.toNat]!.fAt).tmod ((8 : Int)) ∧ (IntKind.i64.wrap p.t38[p.t40.toNat]!.fAt).tmod ((8 : Int)) < (↑p.t6.length : Int) then
                    if (0 : Int) ≤ p.t38[p.t40.toNat]!.fFill ∧ p.t38[p.t40.toNat]!.fFill < (256 : Int) then
                      if 43 = 43 ∧ ((IntKind.i64.wrap p.t38[p.t40.toNat]!.fAt).tmod ((8 : Int))).toNat < p.t6.length ∧ 0 + p.t38[p.t40.toNat]!.fFill.toNat * 1 < 256 then
                        match m25 r2.fst with
                        | none =>
                          none
                        | some r3 =>
                          bif bif r3 then false else true then
                            some (none)
                          else
                            match a6_4 (L6_4.mk p.t4 (p.t5.set ((IntKind.i64.wrap p.t38[p.t40.toNat]!.fAt).tmod (8)).toNat p.t38[p.t40.toNat]!.fFill) (p.t6.set ((IntKind.i64.wrap p.t38[p.t40.toNat]!.fAt).tmod (8)).toNat (setA p.t6[((IntKind.i64.wrap p.t38[p.t40.toNat]!.fAt).tmod (8)).toNat]! (0 + p.t38[p.t40.toNat]!.fFill.toNat * 1) true)) p.t38 p.t39 p.t40 (↑(p.t5.set ((IntKind.i64.wrap p.t38[p.t40.toNat]!.fAt).tmod (8)).toNat p.t38[p.t40.toNat]!.fFill).length : Int) (0) r2.fst) with
                            | none =>
                              none
                            | some r4 =>
                              bif decide (r4.t192 < r4.t191) then
                                match m17 r4.b0 r4.t192 with
                                | none =>
                                  none
                                | some r5 =>
                                  bif r4.b0.fDown then
                                    bif bif decide (r5.snd = 17) then false else true then
                                      some (none)
                                    else
                                      none
                                  else
                                    bif bif decide (r5.snd = 0) then false else true then
                                      some (none)
                                    else
                                      if (0 : Int) ≤ r4.t192 ∧ r4.t192 < (↑r4.t5.length : Int) then
                                        if 5 = 5 ∧ r4.t192.toNat < r4.t5.length then
                                          match m15 r4.t5[r4.t192.toNat]! with
                                          | none =>
                                            none
                                          | some r6 =>
                                            match m14 r5.fst r6 with
                                            | none =>
                                              none
                                            | some r7 =>
                                              bif bif r7 then false else true then
                                                some (none)
                                              else
                                                none
                                        else
                                          none
                                      else
                                        none
                              else
                                some (some (L6_1.mk r4.t4 r4.t5 r4.t6 r4.t38 r4.t39 (IntKind.i64.wrap (r4.t40 + 1)) r4.b0))
                      else
                        none
                    else
                      none
                  else
                    none
                else
                  none
              else
                none
            else
              match m25 r2.fst with
              | none =>
                none
              | some r8 =>
                bif bif r8 then false else true then
                  some (none)
                else
                  match a6_4 (L6_4.mk p.t4 p.t5 p.t6 p.t38 p.t39 p.t40 (↑p.t5.length : Int) (0) r2.fst) with
                  | none =>
                    none
                  | some r9 =>
                    bif decide (r9.t192 < r9.t191) then
                      match m17 r9.b0 r9.t192 with
                      | none =>
                        none
                      | some r10 =>
                        bif r9.b0.fDown then
                          bif bif decide (r10.snd = 17) then false else true then
                            some (none)
                          else
                            none
                        else
                          bif bif decide (r10.snd = 0) then false else true then
                            some (none)
                          else
                            if (0 : Int) ≤ r9.t192 ∧ r9.t192 < (↑r9.t5.length : Int) then
                              if 5 = 5 ∧ r9.t192.toNat < r9.t5.length then
                                match m15 r9.t5[r9.t192.toNat]! with
                                | none =>
                                  none
                                | some r11 =>
                                  match m14 r10.fst r11 with
                                  | none =>
                                    none
                                  | some r12 =>
                                    bif bif r12 then false else true then
                                      some (none)
                                    else
                                      none
                              else
                                none
                            else
                              none
                    else
                      some (some (L6_1.mk r9.t4 r9.t5 r9.t6 r9.t38 r9.t39 (IntKind.i64.wrap (r9.t40 + 1)) r9.b0))
      else
        bif decide (p.t38[p.t40.toNat]!.fKind.tmod (5) = 1) then
          match m15 p.t38[p.t40.toNat]!.fFill with
          | none =>
            none
          | some r13 =>
            match m19 p.b0 ((IntKind.i64.wrap p.t38[p.t40.toNat]!.fAt).tmod (8)) r13 with
            | none =>
              none
            | some r14 =>
              bif decide (r14.snd = 0) then
                if (0 : Int) ≤ (IntKind.i64.wrap p.t38[p.t40.toNat]!.fAt).tmod ((8 : Int)) ∧ (IntKind.i64.wrap p.t38[p.t40.toNat]!.fAt).tmod ((8 : Int)) < (↑p.t5.length : Int) then
                  if 5 = 5 ∧ ((IntKind.i64.wrap p.t38[p.t40.toNat]!.fAt).tmod ((8 : Int))).toNat < p.t5.length then
                    if (0 : Int) ≤ (IntKind.i64.wrap p.t38[p.t40.toNat]!.fAt).tmod ((8 : Int)) ∧ (IntKind.i64.wrap p.t38[p.t40.toNat]!.fAt).tmod ((8 : Int)) < (↑p.t6.length : Int) then
                      if (0 : Int) ≤ p.t38[p.t40.toNat]!.fFill ∧ p.t38[p.t40.toNat]!.fFill < (256 : Int) then
                        if 43 = 43 ∧ ((IntKind.i64.wrap p.t38[p.t40.toNat]!.fAt).tmod ((8 : Int))).toNat < p.t6.length ∧ 0 + p.t38[p.t40.toNat]!.fFill.toNat * 1 < 256 then
                          match m25 r14.fst with
                          | none =>
                            none
                          | some r15 =>
                            bif bif r15 then false else true then
                              some (none)
                            else
                              match a6_4 (L6_4.mk p.t4 (p.t5.set ((IntKind.i64.wrap p.t38[p.t40.toNat]!.fAt).tmod (8)).toNat p.t38[p.t40.toNat]!.fFill) (p.t6.set ((IntKind.i64.wrap p.t38[p.t40.toNat]!.fAt).tmod (8)).toNat (setA p.t6[((IntKind.i64.wrap p.t38[p.t40.toNat]!.fAt).tmod (8)).toNat]! (0 + p.t38[p.t40.toNat]!.fFill.toNat * 1) true)) p.t38 p.t39 p.t40 (↑(p.t5.set ((IntKind.i64.wrap p.t38[p.t40.toNat]!.fAt).tmod (8)).toNat p.t38[p.t40.toNat]!.fFill).length : Int) (0) r14.fst) with
                              | none =>
                                none
                              | some r16 =>
                                bif decide (r16.t192 < r16.t191) then
                                  match m17 r16.b0 r16.t192 with
                                  | none =>
                                    none
                                  | some r17 =>
                                    bif r16.b0.fDown then
                                      bif bif decide (r17.snd = 17) then false else true then
                                        some (none)
                                      else
                                        none
                                    else
                                      bif bif decide (r17.snd = 0) then false else true then
                                        some (none)
                                      else
                                        if (0 : Int) ≤ r16.t192 ∧ r16.t192 < (↑r16.t5.length : Int) then
                                          if 5 = 5 ∧ r16.t192.toNat < r16.t5.length then
                                            match m15 r16.t5[r16.t192.toNat]! with
                                            | none =>
                                              none
                                            | some r18 =>
                                              match m14 r17.fst r18 with
                                              | none =>
                                                none
                                              | some r19 =>
                                                bif bif r19 then false else true then
                                                  some (none)
                                                else
                                                  none
                                          else
                                            none
                                        else
                                          none
                                else
                                  some (some (L6_1.mk r16.t4 r16.t5 r16.t6 r16.t38 r16.t39 (IntKind.i64.wrap (r16.t40 + 1)) r16.b0))
                        else
                          none
                      else
                        none
                    else
                      none
                  else
                    none
                else
                  none
              else
                match m25 r14.fst with
                | none =>
                  none
                | some r20 =>
                  bif bif r20 then false else true then
                    some (none)
                  else
                    match a6_4 (L6_4.mk p.t4 p.t5 p.t6 p.t38 p.t39 p.t40 (↑p.t5.length : Int) (0) r14.fst) with
                    | none =>
                      none
                    | some r21 =>
                      bif decide (r21.t192 < r21.t191) then
                        match m17 r21.b0 r21.t192 with
                        | none =>
                          none
                        | some r22 =>
                          bif r21.b0.fDown then
                            bif bif decide (r22.snd = 17) then false else true then
                              some (none)
                            else
                              none
                          else
                            bif bif decide (r22.snd = 0) then false else true then
                              some (none)
                            else
                              if (0 : Int) ≤ r21.t192 ∧ r21.t192 < (↑r21.t5.length : Int) then
                                if 5 = 5 ∧ r21.t192.toNat < r21.t5.length then
                                  match m15 r21.t5[r21.t192.toNat]! with
                                  | none =>
                                    none
                                  | some r23 =>
                                    match m14 r22.fst r23 with
                                    | none =>
                                      none
                                    | some r24 =>
                                      bif bif r24 then false else true then
                                        some (none)
                                      else
                                        none
                                else
                                  none
                              else
                                none
                      else
                        some (some (L6_1.mk r21.t4 r21.t5 r21.t6 r21.t38 r21.t39 (IntKind.i64.wrap (r21.t40 + 1)) r21.b0))
        else
          bif decide (p.t38[p.t40.toNat]!.fKind.tmod (5) = 2) then
            match m22 p.b0 with
            | none =>
              none
            | some r25 =>
              bif decide (r25.snd = 0) then
                if 0 < p.t4.length ∧ p.t5.length = p.t4.length then
                  match a6_2 (L6_2.mk p.t5 p.t5 p.t6 p.t38 p.t39 p.t40 (↑p.t6.length : Int) (0) r25.fst) with
                  | none =>
                    none
                  | some r26 =>
                    bif decide (r26.t90 < r26.t89) then
                      if (0 : Int) ≤ r26.t90 ∧ r26.t90 < (↑r26.t6.length : Int) then
                        if 43 = 43 ∧ r26.t90.toNat < r26.t6.length then
                          if (0 : Int) ≤ r26.t90 ∧ r26.t90 < (↑r26.t4.length : Int) then
                            if 5 = 5 ∧ r26.t90.toNat < r26.t4.length then
                              if (0 : Int) ≤ r26.t90 ∧ r26.t90 < (↑(r26.t6.set r26.t90.toNat fun x => false).length : Int) then
                                if (0 : Int) ≤ (((), (), (), (), r26.t38, r26.t39, r26.t40, r26.t89, r26.t90, ()), r26.b0, r26.t4, r26.t5, r26.t6, ()).snd.snd.fst[(((), (), (), (), r26.t38, r26.t39, r26.t40, r26.t89, r26.t90, ()), r26.b0, r26.t4, r26.t5, r26.t6, ()).fst.snd.snd.snd.snd.snd.snd.snd.snd.fst.toNat]! ∧ (((), (), (), (), r26.t38, r26.t39, r26.t40, r26.t89, r26.t90, ()), r26.b0, r26.t4, r26.t5, r26.t6, ()).snd.snd.fst[(((), (), (), (), r26.t38, r26.t39, r26.t40, r26.t89, r26.t90, ()), r26.b0, r26.t4, r26.t5, r26.t6, ()).fst.snd.snd.snd.snd.snd.snd.snd.snd.fst.toNat]! < (256 : Int) then
                                  if 43 = 43 ∧ r26.t90.toNat < (r26.t6.set r26.t90.toNat fun x => false).length ∧ 0 + Int.toNat r26.t4[r26.t90.toNat]! * 1 < 256 then
                                    none
                                  else
                                    none
                                else
                                  none
                              else
                                none
                            else
                              none
                          else
                            none
                        else
                          none
                      else
                        none
                    else
                      match m25 r26.b0 with
                      | none =>
                        none
                      | some r27 =>
                        bif bif r27 then false else true then
                          some (none)
                        else
                          match a6_4 (L6_4.mk r26.t4 r26.t5 r26.t6 r26.t38 r26.t39 r26.t40 (↑r26.t5.length : Int) (0) r26.b0) with
                          | none =>
                            none
                          | some r28 =>
                            bif decide (r28.t192 < r28.t191) then
                              match m17 r28.b0 r28.t192 with
                              | none =>
                                none
                              | some r29 =>
                                bif r28.b0.fDown then
                                  bif bif decide (r29.snd = 17) then false else true then
                                    some (none)
                                  else
                                    none
                                else
                                  bif bif decide (r29.snd = 0) then false else true then
                                    some (none)
                                  else
                                    if (0 : Int) ≤ r28.t192 ∧ r28.t192 < (↑r28.t5.length : Int) then
                                      if 5 = 5 ∧ r28.t192.toNat < r28.t5.length then
                                        match m15 r28.t5[r28.t192.toNat]! with
                                        | none =>
                                          none
                                        | some r30 =>
                                          match m14 r29.fst r30 with
                                          | none =>
                                            none
                                          | some r31 =>
                                            bif bif r31 then false else true then
                                              some (none)
                                            else
                                              none
                                      else
                                        none
                                    else
                                      none
                            else
                              some (some (L6_1.mk r28.t4 r28.t5 r28.t6 r28.t38 r28.t39 (IntKind.i64.wrap (r28.t40 + 1)) r28.b0))
                else
                  none
              else
                match m25 r25.fst with
                | none =>
                  none
                | some r32 =>
                  bif bif r32 then false else true then
                    some (none)
                  else
                    match a6_4 (L6_4.mk p.t4 p.t5 p.t6 p.t38 p.t39 p.t40 (↑p.t5.length : Int) (0) r25.fst) with
                    | none =>
                      none
                    | some r33 =>
                      bif decide (r33.t192 < r33.t191) then
                        match m17 r33.b0 r33.t192 with
                        | none =>
                          none
                        | some r34 =>
                          bif r33.b0.fDown then
                            bif bif decide (r34.snd = 17) then false else true then
                              some (none)
                            else
                              none
                          else
                            bif bif decide (r34.snd = 0) then false else true then
                              some (none)
                            else
                              if (0 : Int) ≤ r33.t192 ∧ r33.t192 < (↑r33.t5.length : Int) then
                                if 5 = 5 ∧ r33.t192.toNat < r33.t5.length then
                                  match m15 r33.t5[r33.t192.toNat]! with
                                  | none =>
                                    none
                                  | some r35 =>
                                    match m14 r34.fst r35 with
                                    | none =>
                                      none
                                    | some r36 =>
                                      bif bif r36 then false else true then
                                        some (none)
                                      else
                                        none
                                else
                                  none
                              else
                                none
                      else
                        some (some (L6_1.mk r33.t4 r33.t5 r33.t6 r33.t38 r33.t39 (IntKind.i64.wrap (r33.t40 + 1)) r33.b0))
          else
            bif decide (p.t38[p.t40.toNat]!.fKind.tmod (5) = 3) then
              match m23 p.b0 (IntKind.i64.wrap p.t38[p.t40.toNat]!.fLeft) with
              | none =>
                none
              | some r37 =>
                match m25 r37.fst with
                | none =>
                  none
                | some r38 =>
                  bif bif r38 then false else true then
                    some (none)
                  else
                    match a6_4 (L6_4.mk p.t4 p.t5 p.t6 p.t38 p.t39 p.t40 (↑p.t5.length : Int) (0) r37.fst) with
                    | none =>
                      none
                    | some r39 =>
                      bif decide (r39.t192 < r39.t191) then
                        match m17 r39.b0 r39.t192 with
                        | none =>
                          none
                        | some r40 =>
                          bif r39.b0.fDown then
                            bif bif decide (r40.snd = 17) then false else true then
                              some (none)
                            else
                              none
                          else
                            bif bif decide (r40.snd = 0) then false else true then
                              some (none)
                            else
                              if (0 : Int) ≤ r39.t192 ∧ r39.t192 < (↑r39.t5.length : Int) then
                                if 5 = 5 ∧ r39.t192.toNat < r39.t5.length then
                                  match m15 r39.t5[r39.t192.toNat]! with
                                  | none =>
                                    none
                                  | some r41 =>
                                    match m14 r40.fst r41 with
                                    | none =>
                                      none
                                    | some r42 =>
                                      bif bif r42 then false else true then
                                        some (none)
                                      else
                                        none
                                else
                                  none
                              else
                                none
                      else
                        some (some (L6_1.mk r39.t4 r39.t5 r39.t6 r39.t38 r39.t39 (IntKind.i64.wrap (r39.t40 + 1)) r39.b0))
            else
              bif decide (p.t38[p.t40.toNat]!.fKind.tmod (5) = 4) then
                match m24 p.b0 p.t38[p.t40.toNat]!.fKeep with
                | none =>
                  none
                | some r43 =>
                  match a6_3 (L6_3.mk p.t4 p.t5 p.t6 p.t38 p.t39 p.t40 (↑p.t5.length : Int) (0) r43.fst) with
                  | none =>
                    none
                  | some r44 =>
                    bif decide (r44.t127 < r44.t126) then
                      match m17 r44.b0 r44.t127 with
                      | none =>
                        none
                      | some r45 =>
                        bif bif decide (r45.snd = 0) then false else true then
                          some (none)
                        else
                          bif bif decide ((↑r45.fst.length : Int) = 96) then false else true then
                            some (none)
                          else
                            if (0 : Int) ≤ (0 : Int) ∧ (0 : Int) < (↑r45.fst.length : Int) then
                              match m15 r45.fst[0]! with
                              | none =>
                                none
                              | some r46 =>
                                match m14 r45.fst r46 with
                                | none =>
                                  none
                                | some r47 =>
                                  bif bif r47 then false else true then
                                    some (none)
                                  else
                                    if (0 : Int) ≤ (0 : Int) ∧ (0 : Int) < (↑r45.fst.length : Int) then
                                      if (0 : Int) ≤ r44.t127 ∧ r44.t127 < (↑r44.t6.length : Int) then
                                        if (0 : Int) ≤ (((), (), ()), (r45.fst, ()), (r45.snd, ()), ()).snd.fst.fst[Int.toNat 0]! ∧ (((), (), ()), (r45.fst, ()), (r45.snd, ()), ()).snd.fst.fst[Int.toNat 0]! < (256 : Int) then
                                          if 43 = 43 ∧ r44.t127.toNat < r44.t6.length ∧ 0 + Int.toNat r45.fst[0]! * 1 < 256 then
                                            bif bif getA r44.t6[r44.t127.toNat]! (0 + Int.toNat r45.fst[0]! * 1) then false else true then
                                              some (none)
                                            else
                                              if (0 : Int) ≤ (0 : Int) ∧ (0 : Int) < (↑r45.fst.length : Int) then
                                                if (0 : Int) ≤ (0 : Int) ∧ (0 : Int) < (↑r45.fst.length : Int) then
                                                  if (0 : Int) ≤ r44.t127 ∧ r44.t127 < (↑r44.t5.length : Int) then
                                                    if 5 = 5 ∧ r44.t127.toNat < r44.t5.length then
                                                      if (0 : Int) ≤ r44.t127 ∧ r44.t127 < (↑r44.t4.length : Int) then
                                                        if 5 = 5 ∧ r44.t127.toNat < r44.t4.length then
                                                          if (0 : Int) ≤ r44.t127 ∧ r44.t127 < (↑r44.t6.length : Int) then
                                                            if 43 = 43 ∧ r44.t127.toNat < r44.t6.length then
                                                              if (0 : Int) ≤ (0 : Int) ∧ (0 : Int) < (↑r45.fst.length : Int) then
                                                                if (0 : Int) ≤ r44.t127 ∧ r44.t127 < (↑(r44.t6.set r44.t127.toNat fun x => false).length : Int) then
                                                                  if (0 : Int) ≤ (((), (), ()), (r45.fst, ()), (r45.snd, ()), ()).snd.fst.fst[Int.toNat 0]! ∧ (((), (), ()), (r45.fst, ()), (r45.snd, ()), ()).snd.fst.fst[Int.toNat 0]! < (256 : Int) then
                                                                    if 43 = 43 ∧ r44.t127.toNat < (r44.t6.set r44.t127.toNat fun x => false).length ∧ 0 + Int.toNat r45.fst[0]! * 1 < 256 then
                                                                      none
                                                                    else
                                                                      none
                                                                  else
                                                                    none
                                                                else
                                                                  none
                                                              else
                                                                none
                                                            else
                                                              none
                                                          else
                                                            none
                                                        else
                                                          none
                                                      else
                                                        none
                                                    else
                                                      none
                                                  else
                                                    none
                                                else
                                                  none
                                              else
                                                none
                                          else
                                            none
                                        else
                                          none
                                      else
                                        none
                                    else
                                      none
                            else
                              none
                    else
                      match m25 r44.b0 with
                      | none =>
                        none
                      | some r48 =>
                        bif bif r48 then false else true then
                          some (none)
                        else
                          match a6_4 (L6_4.mk r44.t4 r44.t5 r44.t6 r44.t38 r44.t39 r44.t40 (↑r44.t5.length : Int) (0) r44.b0) with
                          | none =>
                            none
                          | some r49 =>
                            bif decide (r49.t192 < r49.t191) then
                              match m17 r49.b0 r49.t192 with
                              | none =>
                                none
                              | some r50 =>
                                bif r49.b0.fDown then
                                  bif bif decide (r50.snd = 17) then false else true then
                                    some (none)
                                  else
                                    none
                                else
                                  bif bif decide (r50.snd = 0) then false else true then
                                    some (none)
                                  else
                                    if (0 : Int) ≤ r49.t192 ∧ r49.t192 < (↑r49.t5.length : Int) then
                                      if 5 = 5 ∧ r49.t192.toNat < r49.t5.length then
                                        match m15 r49.t5[r49.t192.toNat]! with
                                        | none =>
                                          none
                                        | some r51 =>
                                          match m14 r50.fst r51 with
                                          | none =>
                                            none
                                          | some r52 =>
                                            bif bif r52 then false else true then
                                              some (none)
                                            else
                                              none
                                      else
                                        none
                                    else
                                      none
                            else
                              some (some (L6_1.mk r49.t4 r49.t5 r49.t6 r49.t38 r49.t39 (IntKind.i64.wrap (r49.t40 + 1)) r49.b0))
              else
                match m25 p.b0 with
                | none =>
                  none
                | some r53 =>
                  bif bif r53 then false else true then
                    some (none)
                  else
                    match a6_4 (L6_4.mk p.t4 p.t5 p.t6 p.t38 p.t39 p.t40 (↑p.t5.length : Int) (0) p.b0) with
                    | none =>
                      none
                    | some r54 =>
                      bif decide (r54.t192 < r54.t191) then
                        match m17 r54.b0 r54.t192 with
                        | none =>
                          none
                        | some r55 =>
                          bif r54.b0.fDown then
                            bif bif decide (r55.snd = 17) then false else true then
                              some (none)
                            else
                              none
                          else
                            bif bif decide (r55.snd = 0) then false else true then
                              some (none)
                            else
                              if (0 : Int) ≤ r54.t192 ∧ r54.t192 < (↑r54.t5.length : Int) then
                                if 5 = 5 ∧ r54.t192.toNat < r54.t5.length then
                                  match m15 r54.t5[r54.t192.toNat]! with
                                  | none =>
                                    none
                                  | some r56 =>
                                    match m14 r55.fst r56 with
                                    | none =>
                                      none
                                    | some r57 =>
                                      bif bif r57 then false else true then
                                        some (none)
                                      else
                                        none
                                else
                                  none
                              else
                                none
                      else
                        some (some (L6_1.mk r54.t4 r54.t5 r54.t6 r54.t38 r54.t39 (IntKind.i64.wrap (r54.t40 + 1)) r54.b0))
    else
      none
  else
    some (none)
theorem q6_1 (p : L6_1) : execA Try.prog (F6) Try.f6.ntmps 300 (loopAt Try.f6 1) (.two .no (.two .no (.two (.two .no (.two .no (.two .no (.two (.two .no (.two .no (.two .no (.two .no (.two (.two .no (.two .no (.two (.two .no (.two .no (.lp L6_2 rd6_2 pt6_2 a6_2 .no))) .no))) (.two .no (.two .no (.two .no (.two (.two .no (.two .no (.lp L6_3 rd6_3 pt6_3 a6_3 .no))) .no))))))))) (.two .no (.two .no (.lp L6_4 rd6_4 pt6_4 a6_4 .no))))))) .no))) (Option L6_1) (pt6_1 p) (kOn rd6_1) = n6_1 p := by kernel_rfl
noncomputable def a6_1 : L6_1 → Option L6_1 := advG (n6_1)
structure L6_0 where
  t0 : List GOp
  t4 : List Int
  t5 : List Int
  t6 : List (Nat → Bool)
  t29 : Int
  t30 : Int
  b0 : Disk
abbrev P6_0 : Type := ((List GOp) × Unit × Unit × Unit × Unit × Int × Int × Unit) × (Disk × (List Int) × (List Int) × (List (Nat → Bool)) × Unit)
noncomputable def rb6_0 : St → Option P6_0 := stR 4 (slC 0 (asL 46) (slC 3 (asP 0 0) (slC 4 (asO 1) (slC 5 (asO 2) (slC 6 (asO 3) (slC 29 (asI .i64) (slC 30 (asI .i64) slN))))))) (rsN2 0 26 (asCs 26) (rsR 1 5 (rsR 2 5 (rsR 3 43 rsN))))
noncomputable def pb6_0 : P6_0 → St := stP 4 (fun z => [(0, .sl 46 z.1), (3, .ptr 0 0), (4, .own 1), (5, .own 2), (6, .own 3), (29, .n .i64 z.2.2.2.2.2.1), (30, .n .i64 z.2.2.2.2.2.2.1)]) (fun z => [(0, .box 26 (uni.cells 26 z.1)), (1, .row 5 z.2.1), (2, .row 5 z.2.2.1), (3, .row 43 z.2.2.2.1)])
noncomputable def mk6_0 (z : P6_0) : L6_0 := ⟨z.1.1, z.2.2.1, z.2.2.2.1, z.2.2.2.2.1, z.1.2.2.2.2.2.1, z.1.2.2.2.2.2.2.1, z.2.1⟩
noncomputable def pt6_0 (x : L6_0) : St := pb6_0 ((x.t0, (), (), (), (), x.t29, x.t30, ()), (x.b0, x.t4, x.t5, x.t6, ()))
noncomputable def rd6_0 : St → Option L6_0 := rdC 0 [] [0, 3, 4, 5, 6, 29, 30] (rdM mk6_0 rb6_0)
theorem rb6_0_ok (n : Nat) : RdOk 0 n rb6_0 pb6_0 := stR_ok (.cons (.l 46) (.cons (.p 0 0) (.cons (.o 1) (.cons (.o 2) (.cons (.o 3) (.cons (.i .i64) (.cons (.i .i64) .nil))))))) (.boxN (PkN.parse 26) (.row (.row (.row .nil))))
theorem rd6_0_ok (n : Nat) : RdOk 0 n rd6_0 pt6_0 := rdC_ok ((rb6_0_ok n).m mk6_0 (pat' := pt6_0) fun _ => rfl)
noncomputable def n6_0 (p : L6_0) : Option (Option L6_0) :=
  bif decide (p.t30 < p.t29) then
    if (0 : Int) ≤ p.t30 ∧ p.t30 < (↑p.t6.length : Int) then
      if 43 = 43 ∧ p.t30.toNat < p.t6.length ∧ 0 < 256 then
        some (some (L6_0.mk p.t0 p.t4 p.t5 (p.t6.set p.t30.toNat (setA p.t6[p.t30.toNat]! 0 true)) p.t29 (IntKind.i64.wrap (p.t30 + 1)) p.b0))
      else
        none
    else
      none
  else
    some (none)
theorem q6_0 (p : L6_0) : execA Try.prog (F6) Try.f6.ntmps 300 (loopAt Try.f6 0) .no (Option L6_0) (pt6_0 p) (kOn rd6_0) = n6_0 p := by kernel_rfl
noncomputable def a6_0 : L6_0 → Option L6_0 := advG (n6_0)
abbrev E6 : Type := Bool
abbrev P6_e : Type := (Bool × Unit) × (Unit)
noncomputable def rb6_e : St → Option P6_e := stR 0 (slC 2 asB slN) rsN
noncomputable def pb6_e : P6_e → St := stP 0 (fun z => [(2, .b z.1)]) (fun z => [])
noncomputable def mk6_e (z : P6_e) : E6 := z.1.1
noncomputable def pt6_e (x : E6) : St := pb6_e ((x, ()), (()))
noncomputable def rd6_e : St → Option E6 := rdC 0 [] [2] (rdM mk6_e rb6_e)
theorem rb6_e_ok (n : Nat) : RdOk 0 n rb6_e pb6_e := stR_ok (.cons .b .nil) .nil
theorem rd6_e_ok (n : Nat) : RdOk 0 n rd6_e pt6_e := rdC_ok ((rb6_e_ok n).m mk6_e (pat' := pt6_e) fun _ => rfl)
noncomputable def an6 : An := (.two .no (.two .no (.two .no (.two .no (.two .no (.two .no (.two .no (.two (.two .no (.lp L6_0 rd6_0 pt6_0 a6_0 .no)) (.two (.two .no (.lp L6_1 rd6_1 pt6_1 a6_1 (.two .no (.two .no (.two (.two .no (.two .no (.two .no (.two (.two .no (.two .no (.two .no (.two .no (.two (.two .no (.two .no (.two (.two .no (.two .no (.lp L6_2 rd6_2 pt6_2 a6_2 .no))) .no))) (.two .no (.two .no (.two .no (.two (.two .no (.two .no (.lp L6_3 rd6_3 pt6_3 a6_3 .no))) .no))))))))) (.two .no (.two .no (.lp L6_4 rd6_4 pt6_4 a6_4 .no))))))) .no))))) .no)))))))))
theorem fa6 : FnAn Try.prog (F6) 0 300 6 (an6) := fnAn_of (l := [(loopAt Try.f6 0, (.lp L6_0 rd6_0 pt6_0 a6_0 .no)), (loopAt Try.f6 1, (.lp L6_1 rd6_1 pt6_1 a6_1 (.two .no (.two .no (.two (.two .no (.two .no (.two .no (.two (.two .no (.two .no (.two .no (.two .no (.two (.two .no (.two .no (.two (.two .no (.two .no (.lp L6_2 rd6_2 pt6_2 a6_2 .no))) .no))) (.two .no (.two .no (.two .no (.two (.two .no (.two .no (.lp L6_3 rd6_3 pt6_3 a6_3 .no))) .no))))))))) (.two .no (.two .no (.lp L6_4 rd6_4 pt6_4 a6_4 .no))))))) .no))))), (loopAt Try.f6 2, (.lp L6_2 rd6_2 pt6_2 a6_2 .no)), (loopAt Try.f6 3, (.lp L6_3 rd6_3 pt6_3 a6_3 .no)), (loopAt Try.f6 4, (.lp L6_4 rd6_4 pt6_4 a6_4 .no))]) Try.func6 (bodyOf_eq (by kernel_rfl)) (by kernel_rfl) fun p hp => by
  simp only [List.mem_cons, List.not_mem_nil, or_false] at hp
  rcases hp with rfl | rfl | rfl | rfl | rfl
  · exact ⟨rd6_0_ok _, advG_ok (q6_0)⟩
  · exact ⟨rd6_1_ok _, advG_ok (q6_1)⟩
  · exact ⟨rd6_2_ok _, advG_ok (q6_2)⟩
  · exact ⟨rd6_3_ok _, advG_ok (q6_3)⟩
  · exact ⟨rd6_4_ok _, advG_ok (q6_4)⟩
noncomputable def m6 (a0 : List GOp) : Option E6 :=
  bif bif m11 then false else true then
    some (false)
  else
    bif decide (60 < (↑a0.length : Int)) then
      some (true)
    else
      match m12 (8) with
      | none =>
        none
      | some r64 =>
        match a6_0 (L6_0.mk a0 (List.replicate 8 (0)) (List.replicate 8 (0)) (List.replicate 8 fun x => false) (↑8 : Int) (0) r64) with
        | none =>
          none
        | some r65 =>
          bif decide (r65.t30 < r65.t29) then
            if (0 : Int) ≤ r65.t30 ∧ r65.t30 < (↑r65.t6.length : Int) then
              if 43 = 43 ∧ r65.t30.toNat < r65.t6.length ∧ 0 < 256 then
                none
              else
                none
            else
              none
          else
            match a6_1 (L6_1.mk r65.t4 r65.t5 r65.t6 r65.t0 (↑r65.t0.length : Int) (0) r65.b0) with
            | none =>
              none
            | some r66 =>
              bif decide (r66.t40 < r66.t39) then
                if (0 : Int) ≤ r66.t40 ∧ r66.t40 < (↑r66.t38.length : Int) then
                  bif decide (r66.t38[r66.t40.toNat]!.fKind.tmod (5) = 0) then
                    match m15 r66.t38[r66.t40.toNat]!.fFill with
                    | none =>
                      none
                    | some r67 =>
                      match m19 r66.b0 ((IntKind.i64.wrap r66.t38[r66.t40.toNat]!.fAt).tmod (8)) r67 with
                      | none =>
                        none
                      | some r68 =>
                        bif decide (r68.snd = 0) then
                          if (0 : Int) ≤ (IntKind.i64.wrap r66.t38[r66.t40.toNat]!.fAt).tmod ((8 : Int)) ∧ (IntKind.i64.wrap r66.t38[r66.t40.toNat]!.fAt).tmod ((8 : Int)) < (↑r66.t5.length : Int) then
                            if 5 = 5 ∧ ((IntKind.i64.wrap r66.t38[r66.t40.toNat]!.fAt).tmod ((8 : Int))).toNat < r66.t5.length then
                              if (0 : Int) ≤ (IntKind.i64.wrap r66.t38[r66.t40.toNat]!.fAt).tmod ((8 : Int)) ∧ (IntKind.i64.wrap r66.t38[r66.t40.toNat]!.fAt).tmod ((8 : Int)) < (↑r66.t6.length : Int) then
                                if (0 : Int) ≤ r66.t38[r66.t40.toNat]!.fFill ∧ r66.t38[r66.t40.toNat]!.fFill < (256 : Int) then
                                  if 43 = 43 ∧ ((IntKind.i64.wrap r66.t38[r66.t40.toNat]!.fAt).tmod ((8 : Int))).toNat < r66.t6.length ∧ 0 + r66.t38[r66.t40.toNat]!.fFill.toNat * 1 < 256 then
                                    match m25 r68.fst with
                                    | none =>
                                      none
                                    | some r69 =>
                                      bif bif r69 then false else true then
                                        some (false)
                                      else
                                        match a6_4 (L6_4.mk r66.t4 (r66.t5.set ((IntKind.i64.wrap r66.t38[r66.t40.toNat]!.fAt).tmod (8)).toNat r66.t38[r66.t40.toNat]!.fFill) (r66.t6.set ((IntKind.i64.wrap r66.t38[r66.t40.toNat]!.fAt).tmod (8)).toNat (setA r66.t6[((IntKind.i64.wrap r66.t38[r66.t40.toNat]!.fAt).tmod (8)).toNat]! (0 + r66.t38[r66.t40.toNat]!.fFill.toNat * 1) true)) r66.t38 r66.t39 r66.t40 (↑(r66.t5.set ((IntKind.i64.wrap r66.t38[r66.t40.toNat]!.fAt).tmod (8)).toNat r66.t38[r66.t40.toNat]!.fFill).length : Int) (0) r68.fst) with
                                        | none =>
                                          none
                                        | some r70 =>
                                          bif decide (r70.t192 < r70.t191) then
                                            match m17 r70.b0 r70.t192 with
                                            | none =>
                                              none
                                            | some r71 =>
                                              bif r70.b0.fDown then
                                                bif bif decide (r71.snd = 17) then false else true then
                                                  some (false)
                                                else
                                                  none
                                              else
                                                bif bif decide (r71.snd = 0) then false else true then
                                                  some (false)
                                                else
                                                  if (0 : Int) ≤ r70.t192 ∧ r70.t192 < (↑r70.t5.length : Int) then
                                                    if 5 = 5 ∧ r70.t192.toNat < r70.t5.length then
                                                      match m15 r70.t5[r70.t192.toNat]! with
                                                      | none =>
                                                        none
                                                      | some r72 =>
                                                        match m14 r71.fst r72 with
                                                        | none =>
                                                          none
                                                        | some r73 =>
                                                          bif bif r73 then false else true then
                                                            some (false)
                                                          else
                                                            none
                                                    else
                                                      none
                                                  else
                                                    none
                                          else
                                            none
                                  else
                                    none
                                else
                                  none
                              else
                                none
                            else
                              none
                          else
                            none
                        else
                          match m25 r68.fst with
                          | none =>
                            none
                          | some r74 =>
                            bif bif r74 then false else true then
                              some (false)
                            else
                              match a6_4 (L6_4.mk r66.t4 r66.t5 r66.t6 r66.t38 r66.t39 r66.t40 (↑r66.t5.length : Int) (0) r68.fst) with
                              | none =>
                                none
                              | some r75 =>
                                bif decide (r75.t192 < r75.t191) then
                                  match m17 r75.b0 r75.t192 with
                                  | none =>
                                    none
                                  | some r76 =>
                                    bif r75.b0.fDown then
                                      bif bif decide (r76.snd = 17) then false else true then
                                        some (false)
                                      else
                                        none
                                    else
                                      bif bif decide (r76.snd = 0) then false else true then
                                        some (false)
                                      else
                                        if (0 : Int) ≤ r75.t192 ∧ r75.t192 < (↑r75.t5.length : Int) then
                                          if 5 = 5 ∧ r75.t192.toNat < r75.t5.length then
                                            match m15 r75.t5[r75.t192.toNat]! with
                                            | none =>
                                              none
                                            | some r77 =>
                                              match m14 r76.fst r77 with
                                              | none =>
                                                none
                                              | some r78 =>
                                                bif bif r78 then false else true then
                                                  some (false)
                                                else
                                                  none
                                          else
                                            none
                                        else
                                          none
                                else
                                  none
                  else
                    bif decide (r66.t38[r66.t40.toNat]!.fKind.tmod (5) = 1) then
                      match m15 r66.t38[r66.t40.toNat]!.fFill with
                      | none =>
                        none
                      | some r79 =>
                        match m19 r66.b0 ((IntKind.i64.wrap r66.t38[r66.t40.toNat]!.fAt).tmod (8)) r79 with
                        | none =>
                          none
                        | some r80 =>
                          bif decide (r80.snd = 0) then
                            if (0 : Int) ≤ (IntKind.i64.wrap r66.t38[r66.t40.toNat]!.fAt).tmod ((8 : Int)) ∧ (IntKind.i64.wrap r66.t38[r66.t40.toNat]!.fAt).tmod ((8 : Int)) < (↑r66.t5.length : Int) then
                              if 5 = 5 ∧ ((IntKind.i64.wrap r66.t38[r66.t40.toNat]!.fAt).tmod ((8 : Int))).toNat < r66.t5.length then
                                if (0 : Int) ≤ (IntKind.i64.wrap r66.t38[r66.t40.toNat]!.fAt).tmod ((8 : Int)) ∧ (IntKind.i64.wrap r66.t38[r66.t40.toNat]!.fAt).tmod ((8 : Int)) < (↑r66.t6.length : Int) then
                                  if (0 : Int) ≤ r66.t38[r66.t40.toNat]!.fFill ∧ r66.t38[r66.t40.toNat]!.fFill < (256 : Int) then
                                    if 43 = 43 ∧ ((IntKind.i64.wrap r66.t38[r66.t40.toNat]!.fAt).tmod ((8 : Int))).toNat < r66.t6.length ∧ 0 + r66.t38[r66.t40.toNat]!.fFill.toNat * 1 < 256 then
                                      match m25 r80.fst with
                                      | none =>
                                        none
                                      | some r81 =>
                                        bif bif r81 then false else true then
                                          some (false)
                                        else
                                          match a6_4 (L6_4.mk r66.t4 (r66.t5.set ((IntKind.i64.wrap r66.t38[r66.t40.toNat]!.fAt).tmod (8)).toNat r66.t38[r66.t40.toNat]!.fFill) (r66.t6.set ((IntKind.i64.wrap r66.t38[r66.t40.toNat]!.fAt).tmod (8)).toNat (setA r66.t6[((IntKind.i64.wrap r66.t38[r66.t40.toNat]!.fAt).tmod (8)).toNat]! (0 + r66.t38[r66.t40.toNat]!.fFill.toNat * 1) true)) r66.t38 r66.t39 r66.t40 (↑(r66.t5.set ((IntKind.i64.wrap r66.t38[r66.t40.toNat]!.fAt).tmod (8)).toNat r66.t38[r66.t40.toNat]!.fFill).length : Int) (0) r80.fst) with
                                          | none =>
                                            none
                                          | some r82 =>
                                            bif decide (r82.t192 < r82.t191) then
                                              match m17 r82.b0 r82.t192 with
                                              | none =>
                                                none
                                              | some r83 =>
                                                bif r82.b0.fDown then
                                                  bif bif decide (r83.snd = 17) then false else true then
                                                    some (false)
                                                  else
                                                    none
                                                else
                                                  bif bif decide (r83.snd = 0) then false else true then
                                                    some (false)
                                                  else
                                                    if (0 : Int) ≤ r82.t192 ∧ r82.t192 < (↑r82.t5.length : Int) then
                                                      if 5 = 5 ∧ r82.t192.toNat < r82.t5.length then
                                                        match m15 r82.t5[r82.t192.toNat]! with
                                                        | none =>
                                                          none
                                                        | some r84 =>
                                                          match m14 r83.fst r84 with
                                                          | none =>
                                                            none
                                                          | some r85 =>
                                                            bif bif r85 then false else true then
                                                              some (false)
                                                            else
                                                              none
                                                      else
                                                        none
                                                    else
                                                      none
                                            else
                                              none
                                    else
                                      none
                                  else
                                    none
                                else
                                  none
                              else
                                none
                            else
                              none
                          else
                            match m25 r80.fst with
                            | none =>
                              none
                            | some r86 =>
                              bif bif r86 then false else true then
                                some (false)
                              else
                                match a6_4 (L6_4.mk r66.t4 r66.t5 r66.t6 r66.t38 r66.t39 r66.t40 (↑r66.t5.length : Int) (0) r80.fst) with
                                | none =>
                                  none
                                | some r87 =>
                                  bif decide (r87.t192 < r87.t191) then
                                    match m17 r87.b0 r87.t192 with
                                    | none =>
                                      none
                                    | some r88 =>
                                      bif r87.b0.fDown then
                                        bif bif decide (r88.snd = 17) then false else true then
                                          some (false)
                                        else
                                          none
                                      else
                                        bif bif decide (r88.snd = 0) then false else true then
                                          some (false)
                                        else
                                          if (0 : Int) ≤ r87.t192 ∧ r87.t192 < (↑r87.t5.length : Int) then
                                            if 5 = 5 ∧ r87.t192.toNat < r87.t5.length then
                                              match m15 r87.t5[r87.t192.toNat]! with
                                              | none =>
                                                none
                                              | some r89 =>
                                                match m14 r88.fst r89 with
                                                | none =>
                                                  none
                                                | some r90 =>
                                                  bif bif r90 then false else true then
                                                    some (false)
                                                  else
                                                    none
                                            else
                                              none
                                          else
                                            none
                                  else
                                    none
                    else
                      bif decide (r66.t38[r66.t40.toNat]!.fKind.tmod (5) = 2) then
                        match m22 r66.b0 with
                        | none =>
                          none
                        | some r91 =>
                          bif decide (r91.snd = 0) then
                            if 0 < r66.t4.length ∧ r66.t5.length = r66.t4.length then
                              match a6_2 (L6_2.mk r66.t5 r66.t5 r66.t6 r66.t38 r66.t39 r66.t40 (↑r66.t6.length : Int) (0) r91.fst) with
                              | none =>
                                none
                              | some r92 =>
                                bif decide (r92.t90 < r92.t89) then
                                  if (0 : Int) ≤ r92.t90 ∧ r92.t90 < (↑r92.t6.length : Int) then
                                    if 43 = 43 ∧ r92.t90.toNat < r92.t6.length then
                                      if (0 : Int) ≤ r92.t90 ∧ r92.t90 < (↑r92.t4.length : Int) then
                                        if 5 = 5 ∧ r92.t90.toNat < r92.t4.length then
                                          if (0 : Int) ≤ r92.t90 ∧ r92.t90 < (↑(r92.t6.set r92.t90.toNat fun x => false).length : Int) then
                                            if (0 : Int) ≤ (((), (), (), (), r92.t38, r92.t39, r92.t40, r92.t89, r92.t90, ()), r92.b0, r92.t4, r92.t5, r92.t6, ()).snd.snd.fst[(((), (), (), (), r92.t38, r92.t39, r92.t40, r92.t89, r92.t90, ()), r92.b0, r92.t4, r92.t5, r92.t6, ()).fst.snd.snd.snd.snd.snd.snd.snd.snd.fst.toNat]! ∧ (((), (), (), (), r92.t38, r92.t39, r92.t40, r92.t89, r92.t90, ()), r92.b0, r92.t4, r92.t5, r92.t6, ()).snd.snd.fst[(((), (), (), (), r92.t38, r92.t39, r92.t40, r92.t89, r92.t90, ()), r92.b0, r92.t4, r92.t5, r92.t6, ()).fst.snd.snd.snd.snd.snd.snd.snd.snd.fst.toNat]! < (256 : Int) then
                                              if 43 = 43 ∧ r92.t90.toNat < (r92.t6.set r92.t90.toNat fun x => false).length ∧ 0 + Int.toNat r92.t4[r92.t90.toNat]! * 1 < 256 then
                                                none
                                              else
                                                none
                                            else
                                              none
                                          else
                                            none
                                        else
                                          none
                                      else
                                        none
                                    else
                                      none
                                  else
                                    none
                                else
                                  match m25 r92.b0 with
                                  | none =>
                                    none
                                  | some r93 =>
                                    bif bif r93 then false else true then
                                      some (false)
                                    else
                                      match a6_4 (L6_4.mk r92.t4 r92.t5 r92.t6 r92.t38 r92.t39 r92.t40 (↑r92.t5.length : Int) (0) r92.b0) with
                                      | none =>
                                        none
                                      | some r94 =>
                                        bif decide (r94.t192 < r94.t191) then
                                          match m17 r94.b0 r94.t192 with
                                          | none =>
                                            none
                                          | some r95 =>
                                            bif r94.b0.fDown then
                                              bif bif decide (r95.snd = 17) then false else true then
                                                some (false)
                                              else
                                                none
                                            else
                                              bif bif decide (r95.snd = 0) then false else true then
                                                some (false)
                                              else
                                                if (0 : Int) ≤ r94.t192 ∧ r94.t192 < (↑r94.t5.length : Int) then
                                                  if 5 = 5 ∧ r94.t192.toNat < r94.t5.length then
                                                    match m15 r94.t5[r94.t192.toNat]! with
                                                    | none =>
                                                      none
                                                    | some r96 =>
                                                      match m14 r95.fst r96 with
                                                      | none =>
                                                        none
                                                      | some r97 =>
                                                        bif bif r97 then false else true then
                                                          some (false)
                                                        else
                                                          none
                                                  else
                                                    none
                                                else
                                                  none
                                        else
                                          none
                            else
                              none
                          else
                            match m25 r91.fst with
                            | none =>
                              none
                            | some r98 =>
                              bif bif r98 then false else true then
                                some (false)
                              else
                                match a6_4 (L6_4.mk r66.t4 r66.t5 r66.t6 r66.t38 r66.t39 r66.t40 (↑r66.t5.length : Int) (0) r91.fst) with
                                | none =>
                                  none
                                | some r99 =>
                                  bif decide (r99.t192 < r99.t191) then
                                    match m17 r99.b0 r99.t192 with
                                    | none =>
                                      none
                                    | some r100 =>
                                      bif r99.b0.fDown then
                                        bif bif decide (r100.snd = 17) then false else true then
                                          some (false)
                                        else
                                          none
                                      else
                                        bif bif decide (r100.snd = 0) then false else true then
                                          some (false)
                                        else
                                          if (0 : Int) ≤ r99.t192 ∧ r99.t192 < (↑r99.t5.length : Int) then
                                            if 5 = 5 ∧ r99.t192.toNat < r99.t5.length then
                                              match m15 r99.t5[r99.t192.toNat]! with
                                              | none =>
                                                none
                                              | some r101 =>
                                                match m14 r100.fst r101 with
                                                | none =>
                                                  none
                                                | some r102 =>
                                                  bif bif r102 then false else true then
                                                    some (false)
                                                  else
                                                    none
                                            else
                                              none
                                          else
                                            none
                                  else
                                    none
                      else
                        bif decide (r66.t38[r66.t40.toNat]!.fKind.tmod (5) = 3) then
                          match m23 r66.b0 (IntKind.i64.wrap r66.t38[r66.t40.toNat]!.fLeft) with
                          | none =>
                            none
                          | some r103 =>
                            match m25 r103.fst with
                            | none =>
                              none
                            | some r104 =>
                              bif bif r104 then false else true then
                                some (false)
                              else
                                match a6_4 (L6_4.mk r66.t4 r66.t5 r66.t6 r66.t38 r66.t39 r66.t40 (↑r66.t5.length : Int) (0) r103.fst) with
                                | none =>
                                  none
                                | some r105 =>
                                  bif decide (r105.t192 < r105.t191) then
                                    match m17 r105.b0 r105.t192 with
                                    | none =>
                                      none
                                    | some r106 =>
                                      bif r105.b0.fDown then
                                        bif bif decide (r106.snd = 17) then false else true then
                                          some (false)
                                        else
                                          none
                                      else
                                        bif bif decide (r106.snd = 0) then false else true then
                                          some (false)
                                        else
                                          if (0 : Int) ≤ r105.t192 ∧ r105.t192 < (↑r105.t5.length : Int) then
                                            if 5 = 5 ∧ r105.t192.toNat < r105.t5.length then
                                              match m15 r105.t5[r105.t192.toNat]! with
                                              | none =>
                                                none
                                              | some r107 =>
                                                match m14 r106.fst r107 with
                                                | none =>
                                                  none
                                                | some r108 =>
                                                  bif bif r108 then false else true then
                                                    some (false)
                                                  else
                                                    none
                                            else
                                              none
                                          else
                                            none
                                  else
                                    none
                        else
                          bif decide (r66.t38[r66.t40.toNat]!.fKind.tmod (5) = 4) then
                            match m24 r66.b0 r66.t38[r66.t40.toNat]!.fKeep with
                            | none =>
                              none
                            | some r109 =>
                              match a6_3 (L6_3.mk r66.t4 r66.t5 r66.t6 r66.t38 r66.t39 r66.t40 (↑r66.t5.length : Int) (0) r109.fst) with
                              | none =>
                                none
                              | some r110 =>
                                bif decide (r110.t127 < r110.t126) then
                                  match m17 r110.b0 r110.t127 with
                                  | none =>
                                    none
                                  | some r111 =>
                                    bif bif decide (r111.snd = 0) then false else true then
                                      some (false)
                                    else
                                      bif bif decide ((↑r111.fst.length : Int) = 96) then false else true then
                                        some (false)
                                      else
                                        if (0 : Int) ≤ (0 : Int) ∧ (0 : Int) < (↑r111.fst.length : Int) then
                                          match m15 r111.fst[0]! with
                                          | none =>
                                            none
                                          | some r112 =>
                                            match m14 r111.fst r112 with
                                            | none =>
                                              none
                                            | some r113 =>
                                              bif bif r113 then false else true then
                                                some (false)
                                              else
                                                if (0 : Int) ≤ (0 : Int) ∧ (0 : Int) < (↑r111.fst.length : Int) then
                                                  if (0 : Int) ≤ r110.t127 ∧ r110.t127 < (↑r110.t6.length : Int) then
                                                    if (0 : Int) ≤ (((), (), ()), (r111.fst, ()), (r111.snd, ()), ()).snd.fst.fst[Int.toNat 0]! ∧ (((), (), ()), (r111.fst, ()), (r111.snd, ()), ()).snd.fst.fst[Int.toNat 0]! < (256 : Int) then
                                                      if 43 = 43 ∧ r110.t127.toNat < r110.t6.length ∧ 0 + Int.toNat r111.fst[0]! * 1 < 256 then
                                                        bif bif getA r110.t6[r110.t127.toNat]! (0 + Int.toNat r111.fst[0]! * 1) then false else true then
                                                          some (false)
                                                        else
                                                          if (0 : Int) ≤ (0 : Int) ∧ (0 : Int) < (↑r111.fst.length : Int) then
                                                            if (0 : Int) ≤ (0 : Int) ∧ (0 : Int) < (↑r111.fst.length : Int) then
                                                              if (0 : Int) ≤ r110.t127 ∧ r110.t127 < (↑r110.t5.length : Int) then
                                                                if 5 = 5 ∧ r110.t127.toNat < r110.t5.length then
                                                                  if (0 : Int) ≤ r110.t127 ∧ r110.t127 < (↑r110.t4.length : Int) then
                                                                    if 5 = 5 ∧ r110.t127.toNat < r110.t4.length then
                                                                      if (0 : Int) ≤ r110.t127 ∧ r110.t127 < (↑r110.t6.length : Int) then
                                                                        if 43 = 43 ∧ r110.t127.toNat < r110.t6.length then
                                                                          if (0 : Int) ≤ (0 : Int) ∧ (0 : Int) < (↑r111.fst.length : Int) then
                                                                            if (0 : Int) ≤ r110.t127 ∧ r110.t127 < (↑(r110.t6.set r110.t127.toNat fun x => false).length : Int) then
                                                                              if (0 : Int) ≤ (((), (), ()), (r111.fst, ()), (r111.snd, ()), ()).snd.fst.fst[Int.toNat 0]! ∧ (((), (), ()), (r111.fst, ()), (r111.snd, ()), ()).snd.fst.fst[Int.toNat 0]! < (256 : Int) then
                                                                                if 43 = 43 ∧ r110.t127.toNat < (r110.t6.set r110.t127.toNat fun x => false).length ∧ 0 + Int.toNat r111.fst[0]! * 1 < 256 then
                                                                                  none
                                                                                else
                                                                                  none
                                                                              else
                                                                                none
                                                                            else
                                                                              none
                                                                          else
                                                                            none
                                                                        else
                                                                          none
                                                                      else
                                                                        none
                                                                    else
                                                                      none
                                                                  else
                                                                    none
                                                                else
                                                                  none
                                                              else
                                                                none
                                                            else
                                                              none
                                                          else
                                                            none
                                                      else
                                                        none
                                                    else
                                                      none
                                                  else
                                                    none
                                                else
                                                  none
                                        else
                                          none
                                else
                                  match m25 r110.b0 with
                                  | none =>
                                    none
                                  | some r114 =>
                                    bif bif r114 then false else true then
                                      some (false)
                                    else
                                      match a6_4 (L6_4.mk r110.t4 r110.t5 r110.t6 r110.t38 r110.t39 r110.t40 (↑r110.t5.length : Int) (0) r110.b0) with
                                      | none =>
                                        none
                                      | some r115 =>
                                        bif decide (r115.t192 < r115.t191) then
                                          match m17 r115.b0 r115.t192 with
                                          | none =>
                                            none
                                          | some r116 =>
                                            bif r115.b0.fDown then
                                              bif bif decide (r116.snd = 17) then false else true then
                                                some (false)
                                              else
                                                none
                                            else
                                              bif bif decide (r116.snd = 0) then false else true then
                                                some (false)
                                              else
                                                if (0 : Int) ≤ r115.t192 ∧ r115.t192 < (↑r115.t5.length : Int) then
                                                  if 5 = 5 ∧ r115.t192.toNat < r115.t5.length then
                                                    match m15 r115.t5[r115.t192.toNat]! with
                                                    | none =>
                                                      none
                                                    | some r117 =>
                                                      match m14 r116.fst r117 with
                                                      | none =>
                                                        none
                                                      | some r118 =>
                                                        bif bif r118 then false else true then
                                                          some (false)
                                                        else
                                                          none
                                                  else
                                                    none
                                                else
                                                  none
                                        else
                                          none
                          else
                            match m25 r66.b0 with
                            | none =>
                              none
                            | some r119 =>
                              bif bif r119 then false else true then
                                some (false)
                              else
                                match a6_4 (L6_4.mk r66.t4 r66.t5 r66.t6 r66.t38 r66.t39 r66.t40 (↑r66.t5.length : Int) (0) r66.b0) with
                                | none =>
                                  none
                                | some r120 =>
                                  bif decide (r120.t192 < r120.t191) then
                                    match m17 r120.b0 r120.t192 with
                                    | none =>
                                      none
                                    | some r121 =>
                                      bif r120.b0.fDown then
                                        bif bif decide (r121.snd = 17) then false else true then
                                          some (false)
                                        else
                                          none
                                      else
                                        bif bif decide (r121.snd = 0) then false else true then
                                          some (false)
                                        else
                                          if (0 : Int) ≤ r120.t192 ∧ r120.t192 < (↑r120.t5.length : Int) then
                                            if 5 = 5 ∧ r120.t192.toNat < r120.t5.length then
                                              match m15 r120.t5[r120.t192.toNat]! with
                                              | none =>
                                                none
                                              | some r122 =>
                                                match m14 r121.fst r122 with
                                                | none =>
                                                  none
                                                | some r123 =>
                                                  bif bif r123 then false else true then
                                                    some (false)
                                                  else
                                                    none
                                            else
                                              none
                                          else
                                            none
                                  else
                                    none
                else
                  none
              else
                some (true)
theorem c6 (a0 : List GOp) : callR Try.prog (F6) 300 (an6) 6 [.sl 46 a0] [] 0 rd6_e = m6 a0 := by kernel_rfl
noncomputable def o6 (x : E6) : Out := match (match outOf Try.prog 6 (pt6_e x) with
    | some ds => some (Out.mk (resA ds) (keepR (pt6_e x).R 0 (resA ds)) (pt6_e x).nx)
    | none => none) with
  | some o => o
  | none => ⟨.tup [], [], 0⟩
theorem fn6 (a0 : List GOp) (r : E6) (h : m6 a0 = some r) : fnOk Try.prog 6 ∧ FnY Try.prog 6 [.sl 46 a0] [] 0 (o6 r) :=
  fnY_of (p := r) F6_ok (fa6) rd6_e_ok (fun p => by kernel_rfl) (ltd_of (by kernel_rfl)) (rltd_of (by kernel_rfl)) ((c6 a0).trans h)
theorem fnok6 : fnOk Try.prog 6 := ⟨_, Try.func6, by kernel_rfl, by kernel_rfl⟩
noncomputable def e6 (F : Orc) : Orc := orL 6 false (pkC (asL 46) pkN) (fun g => m6 g.1 : ((List GOp) × Unit) → Option E6) o6 F
theorem e6_ok {F : Orc} (h : OrcG Try.prog F) : OrcG Try.prog (e6 F) := orL_g (sc := scU) h scU_ok fnok6 (ca := fun g => [.sl 46 g.1]) ((.cons (.l 46) .nil) : PkN (pkC (asL 46) pkN) _) (fun b => by kernel_rfl) (fun b => by kernel_rfl) (fun g b hb => (fn6 g.1 b hb).2)
theorem e6_pure {F : Orc} {f : Nat} (h : PureF F f) : PureF (e6 F) f := orL_pure h (fun b => by kernel_rfl)
end Go.Proofs.Ytfipaakafcjjhaa
end
section
set_option linter.unusedSectionVars false
set_option linter.unusedVariables false
set_option linter.unusedSimpArgs false
namespace Go.Proofs.YtfipaakafcjjhaaD
open Go Go.RowKit Go.Ab Go.Proofs

theorem w64_succ {i len : Nat} (hl : len ≤ 9223372036854775807) (h : i < len) : w64 ((i : Int) + 1) = ((i + 1 : Nat) : Int) := by
  rw [w64_eq (by omega)]; omega

theorem srch {γ : Type} (len : Nat) (hl : len ≤ 9223372036854775807) (bad : Nat → Bool) (g : Int → γ) (F : Nat → Int → Option (Sum Unit γ))
    (h : ∀ k (i : Nat), i ≤ len → F (k + 1) (i : Int) = if i < len then (if bad i = true then some (.inr (g i)) else F k (w64 ((i : Int) + 1))) else some (.inl ())) :
    ((∀ i, i < len → bad i = false) ∧ F (len + 1) 0 = some (.inl ())) ∨ (∃ i, i < len ∧ bad i = true ∧ F (len + 1) 0 = some (.inr (g i))) := by
  have key : ∀ (k i : Nat), i ≤ len → len - i < k → (∀ j, j < i → bad j = false) →
      ((∀ i, i < len → bad i = false) ∧ F k i = some (.inl ())) ∨ (∃ i', i' < len ∧ bad i' = true ∧ F k i = some (.inr (g i'))) := by
    intro k
    induction k with
    | zero => intro i _ hk; omega
    | succ k ih =>
      intro i hi hk hb
      rw [h k i hi]
      by_cases hlt : i < len
      · rw [if_pos hlt]
        by_cases hx : bad i = true
        · rw [if_pos hx]
          exact .inr ⟨i, hlt, hx, rfl⟩
        · rw [if_neg hx, w64_succ hl hlt]
          refine ih (i + 1) hlt (by omega) fun j hj => ?_
          by_cases hji : j = i
          · subst hji; simpa using hx
          · exact hb j (by omega)
      · rw [if_neg hlt]
        exact .inl ⟨fun j hj => hb j (by omega), rfl⟩
  exact key (len + 1) 0 (Nat.zero_le _) (by omega) (fun j hj => by omega)

theorem foldl {β : Type} (len : Nat) (hl : len ≤ 9223372036854775807) (step : Nat → β → Option β) (F : Nat → β → Int → Option β) (b : β)
    (h : ∀ k b (i : Nat), i ≤ len → F (k + 1) b (i : Int) = if i < len then (step i b).bind (fun b' => F k b' (w64 ((i : Int) + 1))) else some b) (Inv : Nat → β → Prop) (h0 : Inv 0 b)
    (hs : ∀ i b, i < len → Inv i b → ∃ b', step i b = some b' ∧ Inv (i + 1) b') : ∃ b', F (len + 1) b 0 = some b' ∧ Inv len b' := by
  have key : ∀ (k i : Nat) b, i ≤ len → len - i < k → Inv i b → ∃ b', F k b i = some b' ∧ Inv len b' := by
    intro k
    induction k with
    | zero => intro i b _ hk; omega
    | succ k ih =>
      intro i b hi hk hb
      rw [h k b i hi]
      by_cases hlt : i < len
      · rw [if_pos hlt]
        obtain ⟨b', h1, h2⟩ := hs i b hlt hb
        rw [h1, Option.bind_some, w64_succ hl hlt]
        exact ih (i + 1) b' hlt (by omega) h2
      · rw [if_neg hlt]
        obtain rfl : i = len := by omega
        exact ⟨b, rfl, hb⟩
  exact key (len + 1) 0 b (Nat.zero_le _) (by omega) h0

theorem notT {b : Bool} (h : (!b) = true) : b = false := by cases b <;> simp_all
theorem notF {b : Bool} (h : (!b) = false) : b = true := by cases b <;> simp_all
abbrev big : Nat := 9223372036854775807

def V (d : Disk) : Bool := decide (1 ≤ d.fDurable.length) && decide (d.fDurable.length ≤ 4096) && decide (d.fPending.length ≤ 8192) && d.fDurable.all (fun b => decide (b.length = 96)) && d.fPending.all (fun w => decide (0 ≤ w.fAt) && decide (w.fAt < (d.fDurable.length : Int)) && decide (w.fData.length = 96))

theorem all_of {α : Type} [Inhabited α] (l : List α) (p : α → Bool) (h : ∀ i, i < l.length → p l[i]! = true) : l.all p = true := by
  rw [List.all_eq_true]
  intro x hx
  obtain ⟨i, hi, rfl⟩ := List.getElem_of_mem hx
  have := h i hi
  rwa [getElem!_pos l i hi] at this
theorem all_not {α : Type} [Inhabited α] (l : List α) (p : α → Bool) {i : Nat} (hi : i < l.length) (h : p l[i]! = false) : l.all p = false := by
  rw [List.all_eq_false]
  exact ⟨l[i], List.getElem_mem _, by rw [getElem!_pos l i hi] at h; simp [h]⟩
theorem all_get {α : Type} [Inhabited α] {l : List α} {p : α → Bool} (h : l.all p = true) {i : Nat} (hi : i < l.length) : p l[i]! = true := by
  rw [getElem!_pos l i hi]
  exact List.all_eq_true.1 h _ (List.getElem_mem _)

theorem m33_eq (l : List (List Int)) (hl : l.length ≤ big) : m33 l = some (!l.all (fun b => decide (b.length = 96))) := by
  have h := srch l.length hl (fun i => !decide (l[i]!.length = 96)) (fun n => n) (m48_l1 l) (fun k i hi => by
    rw [m48_l1]
    by_cases hlt : i < l.length
    · simp [hlt, m34, m32]
      by_cases hx : l[i].length = 96 <;> simp [hx] <;> omega
    · simp [hlt])
  unfold m33 m48
  rw [Int.toNat_natCast]
  rcases h with ⟨h1, h2⟩ | ⟨i, hi, h1, h2⟩
  · rw [h2, all_of l _ (fun i hi => notF (h1 i hi))]
    rfl
  · rw [h2, all_not l _ hi (by simpa using h1)]
    simp

theorem m36_eq (w : Write) (n : Int) : m36 w n = some (!(decide (0 ≤ w.fAt) && decide (w.fAt < n) && decide (w.fData.length = 96))) := by
  unfold m36 m32
  by_cases h1 : w.fAt < 0
  · simp [h1] <;> omega
  · by_cases h2 : n ≤ w.fAt
    · simp [h1, h2] <;> omega
    · by_cases h3 : w.fData.length = 96
      · simp [h1, h2, h3] <;> omega
      · simp [h1, h2, h3] <;> omega

theorem m35_eq (l : List Write) (n : Int) (hl : l.length ≤ big) : m35 l n = some (!l.all (fun w => decide (0 ≤ w.fAt) && decide (w.fAt < n) && decide (w.fData.length = 96))) := by
  have h := srch l.length hl (fun i => !(decide (0 ≤ l[i]!.fAt) && decide (l[i]!.fAt < n) && decide (l[i]!.fData.length = 96))) (fun n => n) (m49_l1 l n) (fun k i hi => by
    rw [m49_l1]
    by_cases hlt : i < l.length
    · rw [if_pos (by simpa using hlt), if_pos (by omega), m36_eq, Option.bind_some, if_pos hlt, Int.toNat_natCast]
    · simp [hlt])
  unfold m35 m49
  rw [Int.toNat_natCast]
  rcases h with ⟨h1, h2⟩ | ⟨i, hi, h1, h2⟩
  · rw [h2, all_of l _ (fun i hi => notF (h1 i hi))]
    rfl
  · rw [h2, all_not l _ hi (notT h1)]
    simp

theorem m13_eq (d : Disk) (h1 : d.fDurable.length ≤ big) (h2 : d.fPending.length ≤ big) : m13 d = some (V d) := by
  unfold m13 V
  rw [m33_eq _ h1, m35_eq _ _ h2]
  by_cases q1 : d.fDurable.length = 0
  · simp [q1]
  · by_cases q2 : d.fDurable.length ≤ 4096
    · by_cases q3 : d.fPending.length ≤ 8192
      · have e1 : ¬ ((d.fDurable.length : Int) < 1) := by omega
        have e2 : ¬ ((4096 : Int) < (d.fDurable.length : Int)) := by omega
        have e3 : ¬ ((8192 : Int) < (d.fPending.length : Int)) := by omega
        have e4 : 1 ≤ d.fDurable.length := by omega
        simp only [decide_eq_true_eq, e1, e2, e3, if_false, Option.bind_some, decide_false, Bool.false_eq_true, q2, q3, e4, decide_true, Bool.true_and]
        cases d.fDurable.all (fun b => decide (b.length = 96)) <;> simp
      · have e3 : (8192 : Int) < (d.fPending.length : Int) := by omega
        have e1 : ¬ ((d.fDurable.length : Int) < 1) := by omega
        have e2 : ¬ ((4096 : Int) < (d.fDurable.length : Int)) := by omega
        simp [q3, e1, e2, e3]
    · have e2 : (4096 : Int) < (d.fDurable.length : Int) := by omega
      have e1 : ¬ ((d.fDurable.length : Int) < 1) := by omega
      simp [q2, e1, e2]

theorem m25_eq (d : Disk) (h1 : d.fDurable.length ≤ big) (h2 : d.fPending.length ≤ big) : m25 d = some (V d) := by
  have s1 := srch d.fDurable.length h1 (fun i => !decide (d.fDurable[i]!.length = 96)) (fun _ => false) (m25_l1 d) (fun k i hi => by
    rw [m25_l1]
    by_cases hlt : i < d.fDurable.length
    · rw [if_pos (by simpa using hlt), if_pos (by omega), if_pos hlt, Int.toNat_natCast]
      by_cases hx : d.fDurable[i]!.length = 96
      · have hx' : (d.fDurable[i]!.length : Int) = 96 := by omega
        rw [if_neg (by rw [decide_eq_true hx']; decide), if_neg (by rw [decide_eq_true hx]; decide)]
      · have hx' : ¬ ((d.fDurable[i]!.length : Int) = 96) := by omega
        rw [if_pos (by rw [decide_eq_false hx']; rfl), if_pos (by rw [decide_eq_false hx]; rfl)]
    · simp [hlt])
  have s2 := srch d.fPending.length h2 (fun i => !(decide (0 ≤ d.fPending[i]!.fAt) && decide (d.fPending[i]!.fAt < (d.fDurable.length : Int)) && decide (d.fPending[i]!.fData.length = 96))) (fun _ => false) (m25_l2 d) (fun k i hi => by
    rw [m25_l2]
    by_cases hlt : i < d.fPending.length
    · rw [if_pos (by simpa using hlt), if_pos (by omega), if_pos hlt, Int.toNat_natCast]
      have := m36_eq d.fPending[i]! (d.fDurable.length : Int)
      unfold m36 m32 at this
      simp only [Option.bind_some] at this
      have e : (Option.bind (if (decide (d.fPending[i]!.fAt < 0)) = true then some true else if (decide ((d.fDurable.length : Int) ≤ d.fPending[i]!.fAt)) = true then some true else some (!decide ((d.fPending[i]!.fData.length : Int) = 96))) fun c1 => some c1) = some (!(decide (0 ≤ d.fPending[i]!.fAt) && decide (d.fPending[i]!.fAt < (d.fDurable.length : Int)) && decide (d.fPending[i]!.fData.length = 96))) := this
      rw [Option.bind_fun_some] at e
      rw [e, Option.bind_some]
    · simp [hlt])
  unfold m25 V
  rw [Int.toNat_natCast, Int.toNat_natCast]
  by_cases q1 : d.fDurable.length = 0
  · simp [q1]
  · by_cases q2 : d.fDurable.length ≤ 4096
    · by_cases q3 : d.fPending.length ≤ 8192
      · have e1 : ¬ ((d.fDurable.length : Int) < 1) := by omega
        have e2 : ¬ ((4096 : Int) < (d.fDurable.length : Int)) := by omega
        have e3 : ¬ ((8192 : Int) < (d.fPending.length : Int)) := by omega
        have e4 : 1 ≤ d.fDurable.length := by omega
        simp only [decide_eq_true_eq, e1, e2, e3, if_false, Option.bind_some, decide_false, Bool.false_eq_true, q2, q3, e4, decide_true, Bool.true_and]
        rcases s1 with ⟨a1, a2⟩ | ⟨i, hi, a1, a2⟩
        · rw [a2, all_of d.fDurable _ (fun i hi => by simpa using a1 i hi)]
          rcases s2 with ⟨b1, b2⟩ | ⟨j, hj, b1, b2⟩
          · rw [b2, all_of d.fPending _ (fun i hi => notF (b1 i hi))]
            rfl
          · rw [b2, all_not d.fPending _ hj (notT b1)]
            rfl
        · rw [a2, all_not d.fDurable _ hi (by simpa using a1)]
          rfl
      · have e3 : (8192 : Int) < (d.fPending.length : Int) := by omega
        have e1 : ¬ ((d.fDurable.length : Int) < 1) := by omega
        have e2 : ¬ ((4096 : Int) < (d.fDurable.length : Int)) := by omega
        simp [q3, e1, e2, e3]
    · have e2 : (4096 : Int) < (d.fDurable.length : Int) := by omega
      have e1 : ¬ ((d.fDurable.length : Int) < 1) := by omega
      simp [q2, e1, e2]

theorem m15_eq (n : Int) : m15 n = some (List.replicate 96 n) := rfl
theorem m14_self (l : List Int) : m14 l l = some true := by simp [m14]

theorem m12_eq (n : Int) : m12 n = some ⟨List.replicate (if (4096 : Int) < (if n < 1 then 1 else n) then 4096 else (if n < 1 then 1 else n)).toNat (List.replicate 96 0), [], -1, false⟩ := by
  obtain ⟨N, hN, hb⟩ : ∃ N : Nat, (if (4096 : Int) < (if n < 1 then 1 else n) then 4096 else (if n < 1 then 1 else n)) = (N : Int) ∧ N ≤ 4096 := by
    refine ⟨(if (4096 : Int) < (if n < 1 then 1 else n) then 4096 else (if n < 1 then 1 else n)).toNat, ?_, ?_⟩
    · split <;> split <;> omega
    · split <;> split <;> omega
  obtain ⟨b, h1, h2⟩ := foldl N (by omega) (fun i b => if (b ++ [List.replicate 96 (0 : Int)]).length ≤ 1073741824 then some (b ++ [List.replicate 96 (0 : Int)]) else none) (m12_l1 n) [] (fun k b i hi => by
    rw [m12_l1, hN]
    by_cases hlt : i < N
    · rw [if_pos (by simpa using hlt), if_pos hlt]
      show Option.bind (if (b ++ [List.replicate 96 (0 : Int)]).length ≤ 1073741824 then some () else none) (fun _ => m12_l1 n k (b ++ [List.replicate 96 (0 : Int)]) (w64 (i + 1))) = _
      by_cases hx : (b ++ [List.replicate 96 (0 : Int)]).length ≤ 1073741824
      · rw [if_pos hx, if_pos hx]; rfl
      · rw [if_neg hx, if_neg hx]; rfl
    · rw [if_neg (by simpa using hlt), if_neg hlt])
    (fun i b => b = List.replicate i (List.replicate 96 0)) rfl (fun i b hi hb => by
      subst hb
      refine ⟨_, if_pos (by simp; omega), ?_⟩
      rw [← List.replicate_succ'])
  unfold m12
  rw [hN, Int.toNat_natCast, h1]
  simp [h2]

theorem m39_eq {l : List Int} (h : l.length ≤ 1073741824) : m39 l = some l := by simp [m39, h]
/-- a disk whose copy is within bounds -/
structure Small (d : Disk) : Prop where
  du : d.fDurable.length ≤ 1073741824
  pe : d.fPending.length ≤ 1073741824
  db : ∀ i, i < d.fDurable.length → d.fDurable[i]!.length ≤ 1073741824
  pb : ∀ i, i < d.fPending.length → d.fPending[i]!.fData.length ≤ 1073741824

theorem take_get {α : Type} [Inhabited α] (l : List α) {i : Nat} (h : i < l.length) : l.take (i + 1) = l.take i ++ [l[i]!] := by
  rw [List.take_add_one, List.getElem?_eq_getElem h, getElem!_pos l i h]
  rfl

theorem small_of_V {d : Disk} (h : V d = true) : Small d := by
  unfold V at h
  simp only [Bool.and_eq_true, decide_eq_true_eq] at h
  obtain ⟨⟨⟨⟨h1, h2⟩, h3⟩, h4⟩, h5⟩ := h
  refine ⟨by omega, by omega, fun i hi => ?_, fun i hi => ?_⟩
  · have := all_get h4 hi
    simp only [decide_eq_true_eq] at this
    omega
  · have := all_get h5 hi
    simp only [Bool.and_eq_true, decide_eq_true_eq] at this
    omega

theorem copy_loop {α : Type} [Inhabited α] (l : List α) (hl : l.length ≤ 1073741824) (F : Nat → List α → Int → Option (List α)) (clone : α → Option α) (hc : ∀ i, i < l.length → clone l[i]! = some l[i]!)
    (h : ∀ k b (i : Nat), i ≤ l.length → F (k + 1) b (i : Int) = if i < l.length then ((clone l[i]!).bind fun x => if (b ++ [x]).length ≤ 1073741824 then some (b ++ [x]) else none).bind (fun b' => F k b' (w64 ((i : Int) + 1))) else some b) : F (l.length + 1) [] 0 = some l := by
  obtain ⟨b, h1, h2⟩ := foldl l.length (by omega) (fun i b => (clone l[i]!).bind fun x => if (b ++ [x]).length ≤ 1073741824 then some (b ++ [x]) else none) F [] h (fun i b => b = l.take i) rfl (fun i b hi hb => by
    subst hb
    refine ⟨l.take (i + 1), ?_, rfl⟩
    rw [hc i hi, Option.bind_some, take_get l hi, if_pos]
    rw [List.length_append, List.length_take]
    simp
    omega)
  rw [h1, h2, List.take_of_length_le (Nat.le_refl _)]

theorem m40_eq {d : Disk} (h : Small d) : m40 d = some d := by
  unfold m40
  rw [Int.toNat_natCast, Int.toNat_natCast]
  rw [copy_loop d.fDurable h.du (m40_l1 d) m39 (fun i hi => m39_eq (h.db i hi)) (fun k b i hi => by
    rw [m40_l1]
    by_cases hlt : i < d.fDurable.length
    · rw [if_pos (by simpa using hlt), if_pos (by omega), if_pos hlt, Int.toNat_natCast]
    · rw [if_neg (by simpa using hlt), if_neg hlt])]
  rw [copy_loop d.fPending h.pe (m40_l2 d) (fun w => (m39 w.fData).bind fun x => some ⟨w.fAt, x⟩) (fun i hi => by rw [m39_eq (h.pb i hi)]; rfl) (fun k b i hi => by
    rw [m40_l2]
    by_cases hlt : i < d.fPending.length
    · rw [if_pos (by simpa using hlt), if_pos (by omega), if_pos hlt, Int.toNat_natCast]
      cases m39 d.fPending[i]!.fData <;> rfl
    · rw [if_neg (by simpa using hlt), if_neg hlt])]
  rfl

theorem m40_1_eq {d : Disk} (h : Small d) : m40_1 d = some d := by
  unfold m40_1
  rw [Int.toNat_natCast, Int.toNat_natCast]
  rw [copy_loop d.fDurable h.du (m40_1_l1 d) m39 (fun i hi => m39_eq (h.db i hi)) (fun k b i hi => by
    rw [m40_1_l1]
    by_cases hlt : i < d.fDurable.length
    · rw [if_pos (by simpa using hlt), if_pos (by omega), if_pos hlt, Int.toNat_natCast]
    · rw [if_neg (by simpa using hlt), if_neg hlt])]
  rw [copy_loop d.fPending h.pe (m40_1_l2 d) (fun w => (m39 w.fData).bind fun x => some ⟨w.fAt, x⟩) (fun i hi => by rw [m39_eq (h.pb i hi)]; rfl) (fun k b i hi => by
    rw [m40_1_l2]
    by_cases hlt : i < d.fPending.length
    · rw [if_pos (by simpa using hlt), if_pos (by omega), if_pos hlt, Int.toNat_natCast]
      cases m39 d.fPending[i]!.fData <;> rfl
    · rw [if_neg (by simpa using hlt), if_neg hlt])]
  rfl

end Go.Proofs.YtfipaakafcjjhaaD
end
section
set_option linter.unusedSectionVars false
set_option linter.unusedVariables false
set_option linter.unusedSimpArgs false
namespace Go.Proofs.YtfipaakafcjjhaaD
open Go Go.RowKit Go.Ab Go.Proofs

def repv (v : Int) : List Int := List.replicate 96 v
/-- the disk with these values, these pending writes -/
def mkD (ds : List Int) (ps : List (Int × Int)) (l : Int) (dn : Bool) : Disk := ⟨ds.map repv, ps.map (fun p => ⟨p.1, repv p.2⟩), l, dn⟩
structure Ok (ds : List Int) (ps : List (Int × Int)) : Prop where
  len : ds.length = 8
  few : ps.length ≤ 1000
  at8 : ∀ p ∈ ps, 0 ≤ p.1 ∧ p.1 < 8
theorem repv_len (v : Int) : (repv v).length = 96 := by simp [repv]
theorem V_mk {ds : List Int} {ps : List (Int × Int)} (h : Ok ds ps) (l : Int) (dn : Bool) : V (mkD ds ps l dn) = true := by
  have h1 := h.len
  have h2 := h.few
  unfold V mkD
  simp only [List.length_map, Bool.and_eq_true, decide_eq_true_eq, List.all_eq_true]
  refine ⟨⟨⟨⟨by omega, by omega⟩, by omega⟩, fun b hb => ?_⟩, fun w hw => ?_⟩
  · obtain ⟨v, _, rfl⟩ := List.mem_map.1 hb
    exact repv_len v
  · obtain ⟨p, hp, rfl⟩ := List.mem_map.1 hw
    have := h.at8 p hp
    exact ⟨⟨this.1, by show p.1 < _; omega⟩, repv_len _⟩
theorem m13_mk {ds : List Int} {ps : List (Int × Int)} (h : Ok ds ps) (l : Int) (dn : Bool) : m13 (mkD ds ps l dn) = some true := by
  have h1 := h.len
  have h2 := h.few
  rw [m13_eq _ (by simp [mkD, big]; omega) (by simp [mkD, big]; omega), V_mk h]
theorem m25_mk {ds : List Int} {ps : List (Int × Int)} (h : Ok ds ps) (l : Int) (dn : Bool) : m25 (mkD ds ps l dn) = some true := by
  have h1 := h.len
  have h2 := h.few
  rw [m25_eq _ (by simp [mkD, big]; omega) (by simp [mkD, big]; omega), V_mk h]
theorem m39_rep (v : Int) : m39 (repv v) = some (repv v) := m39_eq (by rw [repv_len]; omega)
theorem m40_mk {ds : List Int} {ps : List (Int × Int)} (h : Ok ds ps) (l : Int) (dn : Bool) : m40 (mkD ds ps l dn) = some (mkD ds ps l dn) := m40_eq (small_of_V (V_mk h l dn))
theorem m40_1_mk {ds : List Int} {ps : List (Int × Int)} (h : Ok ds ps) (l : Int) (dn : Bool) : m40_1 (mkD ds ps l dn) = some (mkD ds ps l dn) := m40_1_eq (small_of_V (V_mk h l dn))
/-- what is left after an operation -/
def dec (l : Int) : Int := if 0 < l then l - 1 else l
theorem m41_mk (ds : List Int) (ps : List (Int × Int)) (l : Int) (hl : l ≤ 1000) (dn : Bool) : m41_1 (mkD ds ps l dn) = some (if l = 0 then (false, mkD ds ps 0 true) else (true, mkD ds ps (dec l) dn)) := by
  unfold m41_1 mkD dec
  dsimp only
  by_cases h0 : l = 0
  · subst h0; simp
  · by_cases h1 : 0 < l
    · simp [h0, h1, w64_eq (show -9223372036854775808 ≤ l - 1 ∧ l - 1 ≤ 9223372036854775807 by omega)]
    · simp [h0, h1]
theorem m19_mk {ds : List Int} {ps : List (Int × Int)} (h : Ok ds ps) (l : Int) (hl : l ≤ 1000) (dn : Bool) (i v : Int) (hi : 0 ≤ i ∧ i < 8) : m19 (mkD ds ps l dn) i (repv v) = some (if dn = true then (mkD ds ps l dn, 17) else if l = 0 then (mkD ds ps 0 true, 17) else (mkD ds (ps ++ [(i, v)]) (dec l) false, 0)) := by
  have h1 := h.len
  have h2 := h.few
  have e1 : (mkD ds ps l dn).fDurable.length = 8 := by simp [mkD, h1]
  have e2 : (mkD ds ps l dn).fPending.length = ps.length := by simp [mkD]
  have e3 : (mkD ds ps l dn).fDown = dn := rfl
  unfold m19
  rw [m13_mk h, m40_1_mk h]
  simp only [Option.bind_some, m41_mk ds ps l hl dn, m39_rep, repv_len, e1, e2, e3]
  have hp : (ps.length : Int) ≠ 8192 := by omega
  cases dn with
  | true => simp [show ¬ i < 0 by omega, show ¬ (8 : Int) ≤ i by omega]
  | false =>
    by_cases h0 : l = 0
    · subst h0
      simp [show ¬ i < 0 by omega, show ¬ (8 : Int) ≤ i by omega, hp]
      rfl
    · simp [show ¬ i < 0 by omega, show ¬ (8 : Int) ≤ i by omega, hp, h0, e2, show ps.length + 1 ≤ 1073741824 by omega]
      simp [mkD]
/-- the values after writes -/
def app (ps : List (Int × Int)) (ds : List Int) : List Int := ps.foldl (fun ds p => ds.set p.1.toNat p.2) ds
theorem app_len (ps : List (Int × Int)) (ds : List Int) : (app ps ds).length = ds.length := by
  induction ps generalizing ds with
  | nil => rfl
  | cons p ps ih => show (app ps (ds.set p.1.toNat p.2)).length = _; rw [ih]; simp
theorem app_snoc (ps : List (Int × Int)) (p : Int × Int) (ds : List Int) : app (ps ++ [p]) ds = (app ps ds).set p.1.toNat p.2 := by simp [app]
theorem get_pend {ps : List (Int × Int)} {i : Nat} (hi : i < ps.length) : (ps.map fun p => (⟨p.1, repv p.2⟩ : Write))[i]! = ⟨ps[i]!.1, repv ps[i]!.2⟩ := by
  rw [getElem!_pos _ i (by simpa using hi), getElem!_pos ps i hi, List.getElem_map]
theorem m45_mk (ds : List Int) (ps : List Write) (l : Int) (dn : Bool) (p : Int × Int) (h : ds.length = 8) (hp : 0 ≤ p.1 ∧ p.1 < 8) : m45_1 ⟨ds.map repv, ps, l, dn⟩ ⟨p.1, repv p.2⟩ = some ⟨(ds.set p.1.toNat p.2).map repv, ps, l, dn⟩ := by
  unfold m45_1
  rw [if_pos ⟨hp.1, by simp [h]; omega⟩]
  simp [List.map_set]
theorem m22_l1_mk (ps : List (Int × Int)) (hf : ps.length ≤ 1000) (h8 : ∀ p ∈ ps, 0 ≤ p.1 ∧ p.1 < 8) (x : Disk) (hx : x.fPending = ps.map (fun p => ⟨p.1, repv p.2⟩)) (n : Int) (c : Bool) : ∀ (qs : List (Int × Int)) (i : Nat) (ds : List Int) (k : Nat), ps.drop i = qs → i ≤ ps.length → ds.length = 8 → qs.length < k → m22_l1 x n c k (ds.map repv) (i : Int) = some ((app qs ds).map repv)
  | _, _, _, 0, _, _, _, hk => by omega
  | [], i, ds, k + 1, hq, hi, _, _ => by
    have : i = ps.length := by have := congrArg List.length hq; simp at this; omega
    unfold m22_l1
    rw [hx]
    simp [this, app]
  | q :: qs, i, ds, k + 1, hq, hi, hd, hk => by
    have hil : i < ps.length := by have := congrArg List.length hq; simp at this; omega
    have hg : ps[i]! = q := by
      have := congrArg List.head? hq
      rw [List.head?_drop, List.getElem?_eq_getElem hil] at this
      rw [getElem!_pos ps i hil]
      simpa using this
    have hq' : ps.drop (i + 1) = qs := by
      have := congrArg List.tail hq
      rw [List.tail_drop] at this
      simpa using this
    have hm : q ∈ ps := by rw [← hg, getElem!_pos ps i hil]; exact List.getElem_mem hil
    unfold m22_l1
    rw [hx, if_pos (by simp; omega), if_pos ⟨by omega, by simp; omega⟩, Int.toNat_natCast, get_pend hil, hg, m45_mk ds _ n c q hd (h8 q hm), w64_succ (len := ps.length) (by omega) hil]
    exact m22_l1_mk ps hf h8 x hx n c qs (i + 1) _ k hq' hil (by simp [hd]) (by simp at hk; omega)
theorem m22_mk {ds : List Int} {ps : List (Int × Int)} (h : Ok ds ps) (l : Int) (hl : l ≤ 1000) (dn : Bool) : m22 (mkD ds ps l dn) = some (if dn = true then (mkD ds ps l dn, 17) else if l = 0 then (mkD ds ps 0 true, 17) else (mkD (app ps ds) [] (dec l) false, 0)) := by
  have e3 : (mkD ds ps l dn).fDown = dn := rfl
  have e4 : (mkD ds ps l dn).fLeft = l := rfl
  have e2 : (mkD ds ps l dn).fPending.length = ps.length := by simp [mkD]
  unfold m22
  rw [m13_mk h, m40_1_mk h]
  simp only [Option.bind_some, m41_mk ds ps l hl dn, e3, e4]
  cases dn with
  | true => simp; rfl
  | false =>
    by_cases h0 : l = 0
    · subst h0
      simp
      rfl
    · have hloop := m22_l1_mk ps h.few h.at8 (mkD ds ps l false) rfl (dec l) false ps 0 ds (ps.length + 1) rfl (by omega) h.len (by omega)
      have e5 : (mkD ds ps (dec l) false).fLeft = dec l := rfl
      have e6 : (mkD ds ps (dec l) false).fDown = false := rfl
      have e7 : (mkD ds ps l false).fDurable = ds.map repv := rfl
      simp [h0, e2, e5, e6, e7]
      rw [show (0 : Int) = ((0 : Nat) : Int) from rfl, hloop]
      simp [mkD]
theorem m23_mk {ds : List Int} {ps : List (Int × Int)} (h : Ok ds ps) (l : Int) (dn : Bool) (n : Int) (hn : 0 ≤ n) : m23 (mkD ds ps l dn) n = some (if dn = true then (mkD ds ps l dn, 17) else (mkD ds ps n false, 0)) := by
  have e3 : (mkD ds ps l dn).fDown = dn := rfl
  unfold m23
  rw [m13_mk h, m40_mk h, e3]
  cases dn with
  | true => simp
  | false =>
    simp [show ¬ n < -1 by omega]
    rfl
theorem m24_l1_mk (ps : List (Int × Int)) (hf : ps.length ≤ 1000) (h8 : ∀ p ∈ ps, 0 ≤ p.1 ∧ p.1 < 8) (x : Disk) (hx : x.fPending = ps.map (fun p => ⟨p.1, repv p.2⟩)) (keep : List Bool) : ∀ (qs : List (Int × Int)) (i : Nat) (ds : List Int) (k : Nat), ps.drop i = qs → i ≤ ps.length → ds.length = 8 → qs.length < k →
    ∃ ds' : List Int, m24_l1 keep x k (ds.map repv) (i : Int) = some (ds'.map repv) ∧ ds'.length = 8 ∧ ∀ j : Nat, j < 8 → ds'[j]! = ds[j]! ∨ ∃ p ∈ ps, p.1 = (j : Int) ∧ ds'[j]! = p.2
  | _, _, _, 0, _, _, _, hk => by omega
  | [], i, ds, k + 1, hq, hi, hd, _ => by
    have : i = ps.length := by have := congrArg List.length hq; simp at this; omega
    refine ⟨ds, ?_, hd, fun j _ => .inl rfl⟩
    unfold m24_l1
    rw [hx]
    simp [this]
  | q :: qs, i, ds, k + 1, hq, hi, hd, hk => by
    have hil : i < ps.length := by have := congrArg List.length hq; simp at this; omega
    have hg : ps[i]! = q := by
      have := congrArg List.head? hq
      rw [List.head?_drop, List.getElem?_eq_getElem hil] at this
      rw [getElem!_pos ps i hil]
      simpa using this
    have hq' : ps.drop (i + 1) = qs := by
      have := congrArg List.tail hq
      rw [List.tail_drop] at this
      simpa using this
    have hm : q ∈ ps := by rw [← hg, getElem!_pos ps i hil]; exact List.getElem_mem hil
    have h8q := h8 q hm
    have hstep : ∃ b : Bool, m24_l1 keep x (k + 1) (ds.map repv) (i : Int) = m24_l1 keep x k ((if b = true then ds.set q.1.toNat q.2 else ds).map repv) ((i + 1 : Nat) : Int) := by
      have e45 := m45_mk ds x.fPending x.fLeft x.fDown q hd h8q
      have hlen : x.fPending.length = ps.length := by rw [hx]; simp
      have hget : x.fPending[Int.toNat (i : Int)]! = ⟨q.1, repv q.2⟩ := by rw [hx, Int.toNat_natCast, get_pend hil, hg]
      have hw := w64_succ (len := ps.length) (by omega) hil
      by_cases hkp : (i : Int) < (keep.length : Int)
      · refine ⟨keep[i]!, ?_⟩
        rw [m24_l1]
        rw [hlen, if_pos (by simp; omega), if_pos ⟨by omega, by omega⟩, if_pos (by simpa using hkp), if_pos ⟨by omega, hkp⟩, hget, hw, Int.toNat_natCast]
        cases keep[i]! with
        | true => simp only [Option.bind_some, if_true, e45]
        | false => simp
      · refine ⟨false, ?_⟩
        rw [m24_l1]
        rw [hlen, if_pos (by simp; omega), if_pos ⟨by omega, by omega⟩, if_neg (by simpa using hkp), hw]
        simp
    obtain ⟨b, hb⟩ := hstep
    obtain ⟨ds', r1, r2, r3⟩ := m24_l1_mk ps hf h8 x hx keep qs (i + 1) (if b = true then ds.set q.1.toNat q.2 else ds) k hq' hil (by split <;> simp [hd]) (by simp at hk; omega)
    refine ⟨ds', hb.trans r1, r2, fun j hj => ?_⟩
    rcases r3 j hj with h1 | h1
    · cases b with
      | false => exact .inl (by simpa using h1)
      | true =>
        rw [if_pos rfl] at h1
        by_cases hjq : q.1.toNat = j
        · refine .inr ⟨q, hm, by omega, ?_⟩
          rw [h1, getElem!_pos _ j (by rw [List.length_set]; omega), List.getElem_set, if_pos hjq]
        · refine .inl ?_
          rw [h1, getElem!_pos _ j (by rw [List.length_set]; omega), List.getElem_set, if_neg hjq, getElem!_pos ds j (by omega)]
    · exact .inr h1
theorem m24_mk {ds : List Int} {ps : List (Int × Int)} (h : Ok ds ps) (l : Int) (dn : Bool) (keep : List Bool) : ∃ ds' : List Int, m24 (mkD ds ps l dn) keep = some (mkD ds' [] (-1) false, 0) ∧ ds'.length = 8 ∧ ∀ j : Nat, j < 8 → ds'[j]! = ds[j]! ∨ ∃ p ∈ ps, p.1 = (j : Int) ∧ ds'[j]! = p.2 := by
  have e2 : (mkD ds ps l dn).fPending.length = ps.length := by simp [mkD]
  obtain ⟨ds', r1, r2, r3⟩ := m24_l1_mk ps h.few h.at8 (mkD ds ps l dn) rfl keep ps 0 ds (ps.length + 1) rfl (by omega) h.len (by omega)
  refine ⟨ds', ?_, r2, r3⟩
  have e7 : (mkD ds ps l dn).fDurable = ds.map repv := rfl
  unfold m24
  rw [m13_mk h, m40_1_mk h]
  simp [e2, e7]
  rw [show (0 : Int) = ((0 : Nat) : Int) from rfl, r1]
  simp [mkD]
/-! ### reading -/
theorem app_get (ps : List (Int × Int)) (ds : List Int) (i : Nat) (hi : i < ds.length) (h0 : ∀ p ∈ ps, 0 ≤ p.1) : (app ps ds)[i]! = match ps.reverse.find? (fun p => decide (p.1 = (i : Int))) with | some p => p.2 | none => ds[i]! := by
  have key : ∀ (n : Nat) (ps : List (Int × Int)), ps.length = n → (∀ p ∈ ps, 0 ≤ p.1) → (app ps ds)[i]! = match ps.reverse.find? (fun p => decide (p.1 = (i : Int))) with | some p => p.2 | none => ds[i]! := by
    intro n
    induction n with
    | zero => intro ps h _; rw [List.length_eq_zero_iff.1 h]; rfl
    | succ n ih =>
      intro ps h h0
      obtain ⟨qs, q, rfl⟩ : ∃ qs q, ps = qs ++ [q] := by
        refine ⟨ps.dropLast, ps.getLast (by intro h2; rw [h2] at h; simp at h), ?_⟩
        exact (List.dropLast_concat_getLast _).symm
      have hq := h0 q (by simp)
      rw [app_snoc, List.reverse_append]
      show _ = match (q :: qs.reverse).find? _ with | some p => p.2 | none => ds[i]!
      rw [List.find?_cons]
      have hl : i < (app qs ds).length := by rw [app_len]; exact hi
      by_cases hqi : q.1 = (i : Int)
      · rw [decide_eq_true hqi, getElem!_pos _ i (by rw [List.length_set]; exact hl), List.getElem_set, if_pos (by omega)]
      · rw [decide_eq_false hqi, getElem!_pos _ i (by rw [List.length_set]; exact hl), List.getElem_set, if_neg (by omega), ← getElem!_pos (app qs ds) i hl]
        exact ih qs (by simp at h; omega) fun p hp => h0 p (by simp [hp])
  exact key _ ps rfl h0
theorem m17_mk {ds : List Int} {ps : List (Int × Int)} (h : Ok ds ps) (l : Int) (dn : Bool) (i : Nat) (hi : i < 8) : m17 (mkD ds ps l dn) (i : Int) = some (if dn = true then ([], 17) else (repv (app ps ds)[i]!, 0)) := by
  have h1 := h.len
  have e3 : (mkD ds ps l dn).fDown = dn := rfl
  have e1 : (mkD ds ps l dn).fDurable.length = 8 := by simp [mkD, h1]
  unfold m17
  rw [m13_mk h, e3, e1]
  cases dn with
  | true => simp [show ¬ (i : Int) < 0 by omega, show ¬ (8 : Int) ≤ (i : Int) by omega]
  | false =>
    have hall : (mkD ds ps l false).fPending.all (fun w => (m39 w.fData).isSome) = true := List.all_eq_true.2 fun w hw => by
      obtain ⟨p, _, rfl⟩ := List.mem_map.1 hw
      simp [m39_rep]
    have hfind : (mkD ds ps l false).fPending.reverse.find? (fun w => decide (w.fAt = (i : Int))) = (ps.reverse.find? (fun p => decide (p.1 = (i : Int)))).map fun p => (⟨p.1, repv p.2⟩ : Write) := by
      show (ps.map _).reverse.find? _ = _
      rw [← List.map_reverse, List.find?_map]
      rfl
    have hdu : (mkD ds ps l false).fDurable[i]! = repv ds[i]! := by
      show (ds.map repv)[i]! = _
      rw [getElem!_pos _ i (by simp; omega), getElem!_pos ds i (by omega), List.getElem_map]
    rw [hall, hfind, app_get ps ds i (by omega) fun p hp => (h.at8 p hp).1]
    cases ps.reverse.find? (fun p => decide (p.1 = (i : Int))) with
    | none => simp [show ¬ (i : Int) < 0 by omega, show ¬ (8 : Int) ≤ (i : Int) by omega, hdu, m39_rep]
    | some p => simp [show ¬ (i : Int) < 0 by omega, show ¬ (8 : Int) ≤ (i : Int) by omega, m39_rep]
theorem m12_mk : m12 8 = some (mkD (List.replicate 8 0) [] (-1) false) := by
  rw [m12_eq]
  rfl
end Go.Proofs.YtfipaakafcjjhaaD
end
section
set_option linter.unusedSectionVars false
set_option linter.unusedVariables false
set_option linter.unusedSimpArgs false
namespace Go.Iv
open Go
variable [U : Uni] [L : UniL]
theorem wrap_id {n : Int} (h1 : -9223372036854775808 ≤ n) (h2 : n < 9223372036854775808) : IntKind.i64.wrap n = n := by
  simp [IntKind.wrap, IntKind.bits, IntKind.signed]
  omega
theorem cond_true' {α : Type} (x y : α) : (bif true then x else y) = x := rfl
/-- A loop over a counter: at i it stands at f i; it goes on while g does not hold. -/
theorem advG_count {γ : Type} {rnd : γ → Option (Option γ)} (f : Nat → γ) (n : Nat) (h1 : ∀ i, i < n → rnd (f i) = some (some (f (i + 1))) ∨ ∀ r, rnd (f i) ≠ some (some r)) (h2 : ∀ r, rnd (f n) ≠ some (some r)) : ∀ k i, i + k = n →
    ∃ j, i ≤ j ∧ j ≤ n ∧ advG rnd (f i) = some (f j) ∧ (∀ m, i ≤ m → m < j → rnd (f m) = some (some (f (m + 1)))) ∧ ∀ r, rnd (f j) ≠ some (some r)
  | 0, i, hi => by
    have : i = n := by omega
    subst this
    exact ⟨i, Nat.le_refl _, Nat.le_refl _, advG_stop h2, fun m h3 h4 => by omega, h2⟩
  | k + 1, i, hi => by
    rcases h1 i (by omega) with h | h
    · obtain ⟨j, q1, q2, q3, q4, q5⟩ := advG_count f n h1 h2 k (i + 1) (by omega)
      refine ⟨j, by omega, q2, by rw [advG_step h]; exact q3, fun m h3 h4 => ?_, q5⟩
      by_cases hm : m = i
      · subst hm; exact h
      · exact q4 m (by omega) h4
    · exact ⟨i, Nat.le_refl _, by omega, advG_stop h, fun m h3 h4 => by omega, h⟩
/-- A loop that runs through. -/
theorem advG_all {γ : Type} {rnd : γ → Option (Option γ)} (f : Nat → γ) (n : Nat) (h1 : ∀ i, i < n → rnd (f i) = some (some (f (i + 1)))) (h2 : ∀ r, rnd (f n) ≠ some (some r)) : advG rnd (f 0) = some (f n) := by
  have key : ∀ k i, i + k = n → advG rnd (f i) = some (f n) := by
    intro k
    induction k with
    | zero => intro i hi; have : i = n := by omega
              subst this; exact advG_stop h2
    | succ k ih => intro i hi; rw [advG_step (h1 i (by omega))]; exact ih (i + 1) (by omega)
  exact key n 0 (by omega)
/-- What a loop over a list comes to. -/
def runL {α β : Type} (step : β → α → Option β) : List α → β → β
  | [], b => b
  | x :: xs, b => match step b x with
    | some b' => runL step xs b'
    | none => b
/-- What comes of it: ret where it is left, fin at the end. -/
def foldE {α β ρ : Type} (step : β → α → Option β) (ret : β → α → ρ) (fin : β → ρ) : List α → β → ρ
  | [], b => fin b
  | x :: xs, b => match step b x with
    | some b' => foldE step ret fin xs b'
    | none => ret b x
/-- A loop over a list: it stands at mk i b, b what was made of the first i. -/
theorem advG_list {γ α β ρ : Type} {rnd : γ → Option (Option γ)} (l : List α) (mk : Nat → β → γ) (step : β → α → Option β) (ret : β → α → ρ) (fin : β → ρ) (I : Nat → β → Prop)
    (h1 : ∀ i b (hi : i < l.length), I i b → ∀ b', step b l[i] = some b' → rnd (mk i b) = some (some (mk (i + 1) b')) ∧ I (i + 1) b')
    (h2 : ∀ i b (hi : i < l.length), I i b → step b l[i] = none → ∀ r, rnd (mk i b) ≠ some (some r)) (h3 : ∀ b, I l.length b → ∀ r, rnd (mk l.length b) ≠ some (some r)) {b : β} (hb : I 0 b) :
    ∃ i v, i ≤ l.length ∧ advG rnd (mk 0 b) = some (mk i v) ∧ I i v ∧ ((i = l.length ∧ foldE step ret fin l b = fin v) ∨ ∃ hi : i < l.length, step v l[i] = none ∧ foldE step ret fin l b = ret v l[i]) := by
  have key : ∀ (xs : List α) (i : Nat) (b : β), l.drop i = xs → i ≤ l.length → I i b → ∃ j v, j ≤ l.length ∧ advG rnd (mk i b) = some (mk j v) ∧ I j v ∧ ((j = l.length ∧ foldE step ret fin xs b = fin v) ∨ ∃ hi : j < l.length, step v l[j] = none ∧ foldE step ret fin xs b = ret v l[j]) := by
    intro xs
    induction xs with
    | nil =>
      intro i b hd hi hb
      have : i = l.length := by have := congrArg List.length hd; simp at this; omega
      subst this
      exact ⟨_, b, Nat.le_refl _, advG_stop (h3 b hb), hb, .inl ⟨rfl, rfl⟩⟩
    | cons x xs ih =>
      intro i b hd hi hb
      have hil : i < l.length := by have := congrArg List.length hd; simp at this; omega
      have hx : l[i] = x := by
        have := congrArg List.head? hd
        rw [List.head?_drop, List.getElem?_eq_getElem hil] at this
        simpa using this
      have hd' : l.drop (i + 1) = xs := by
        have := congrArg List.tail hd
        rw [List.tail_drop] at this
        simpa using this
      cases hs : step b x with
      | some b' =>
        obtain ⟨q1, q2⟩ := h1 i b hil hb b' (by rw [hx]; exact hs)
        obtain ⟨j, v, e1, e2, e3, e4⟩ := ih (i + 1) b' hd' hil q2
        have er : foldE step ret fin (x :: xs) b = foldE step ret fin xs b' := by simp only [foldE, hs]
        exact ⟨j, v, e1, by rw [advG_step q1]; exact e2, e3, by rw [er]; exact e4⟩
      | none =>
        have er : foldE step ret fin (x :: xs) b = ret b x := by simp only [foldE, hs]
        exact ⟨i, b, hi, advG_stop (h2 i b hil hb (by rw [hx]; exact hs)), hb, .inr ⟨hil, by rw [hx]; exact hs, by rw [er, hx]⟩⟩
  exact key l 0 b rfl (Nat.zero_le _) hb
end Go.Iv
end
section
set_option linter.unusedSectionVars false
set_option linter.unusedVariables false
set_option linter.unusedSimpArgs false
namespace Go.Iv
open Go
variable [U : Uni] [L : UniL]
/-- A loop over a list from index i: each step goes on with a state, or leaves with r. -/
def goE {α β ρ τ : Type} (step : Nat → β → α → β ⊕ ρ) (out : ρ → τ) (fin : β → τ) : List α → Nat → β → τ
  | [], _, b => fin b
  | x :: xs, i, b => match step i b x with
    | .inl b' => goE step out fin xs (i + 1) b'
    | .inr r => out r
theorem goE_inl {α β ρ τ : Type} {step : Nat → β → α → β ⊕ ρ} {out : ρ → τ} {fin : β → τ} {x : α} {xs : List α} {i : Nat} {b b' : β} (h : step i b x = .inl b') : goE step out fin (x :: xs) i b = goE step out fin xs (i + 1) b' := by
  simp only [goE, h]
theorem goE_inr {α β ρ τ : Type} {step : Nat → β → α → β ⊕ ρ} {out : ρ → τ} {fin : β → τ} {x : α} {xs : List α} {i : Nat} {b : β} {r : ρ} (h : step i b x = .inr r) : goE step out fin (x :: xs) i b = out r := by
  simp only [goE, h]
/-- A loop over a list: it stands at mk i b, b what was made of the first i. -/
theorem loopV {γ α β ρ τ : Type} [Inhabited α] {rnd : γ → Option (Option γ)} (l : List α) (mk : Nat → β → γ) (step : Nat → β → α → β ⊕ ρ) (out : ρ → τ) (fin : β → τ) (I : Nat → β → Prop)
    (h1 : ∀ i b, i < l.length → I i b → (∀ b', step i b l[i]! = .inl b' → rnd (mk i b) = some (some (mk (i + 1) b')) ∧ I (i + 1) b') ∧ ∀ r, step i b l[i]! = .inr r → rnd (mk i b) = some none)
    (h2 : ∀ b, I l.length b → rnd (mk l.length b) = some none) {b : β} (hb : I 0 b) :
    ∃ i v, advG rnd (mk 0 b) = some (mk i v) ∧ I i v ∧ ((i = l.length ∧ goE step out fin l 0 b = fin v) ∨ (i < l.length ∧ ∃ r, step i v l[i]! = .inr r ∧ goE step out fin l 0 b = out r)) := by
  have key : ∀ (xs : List α) (i : Nat) (b : β), l.drop i = xs → i ≤ l.length → I i b → ∃ j v, advG rnd (mk i b) = some (mk j v) ∧ I j v ∧ ((j = l.length ∧ goE step out fin xs i b = fin v) ∨ (j < l.length ∧ ∃ r, step j v l[j]! = .inr r ∧ goE step out fin xs i b = out r)) := by
    intro xs
    induction xs with
    | nil =>
      intro i b hd hi hb
      have : i = l.length := by have := congrArg List.length hd; simp at this; omega
      subst this
      exact ⟨_, b, advG_stop (fun r => by rw [h2 b hb]; simp), hb, .inl ⟨rfl, rfl⟩⟩
    | cons x xs ih =>
      intro i b hd hi hb
      have hil : i < l.length := by have := congrArg List.length hd; simp at this; omega
      have hx : l[i]! = x := by
        have := congrArg List.head? hd
        rw [List.head?_drop, List.getElem?_eq_getElem hil] at this
        rw [getElem!_pos l i hil]
        simpa using this
      have hd' : l.drop (i + 1) = xs := by
        have := congrArg List.tail hd
        rw [List.tail_drop] at this
        simpa using this
      obtain ⟨p1, p2⟩ := h1 i b hil hb
      cases hs : step i b x with
      | inl b' =>
        obtain ⟨q1, q2⟩ := p1 b' (by rw [hx]; exact hs)
        obtain ⟨j, v, e2, e3, e4⟩ := ih (i + 1) b' hd' hil q2
        rw [goE_inl hs]
        exact ⟨j, v, by rw [advG_step q1]; exact e2, e3, e4⟩
      | inr r =>
        rw [goE_inr hs]
        exact ⟨i, b, advG_stop (fun r' => by rw [p2 r (by rw [hx]; exact hs)]; simp), hb, .inr ⟨hil, r, by rw [hx]; exact hs, rfl⟩⟩
  exact key l 0 b rfl (Nat.zero_le _) hb
/-- A search: all elements pass. -/
theorem goE_all {α : Type} (p : Nat → α → Bool) : ∀ (l : List α) (i : Nat), goE (fun i (_ : Unit) x => if p i x then .inl () else .inr ()) (fun _ => some false) (fun _ => some true) l i () = some ((l.zipIdx i).all fun x => p x.2 x.1)
  | [], i => by simp [goE]
  | x :: xs, i => by
    by_cases h : p i x
    · rw [goE_inl (b' := ()) (by rw [if_pos h]), goE_all p xs (i + 1)]; simp [h]
    · rw [goE_inr (r := ()) (by rw [if_neg h])]; simp [h]
theorem get_memL {α : Type} [Inhabited α] {l : List α} {i : Nat} (h : i < l.length) : l[i]! ∈ l := by rw [getElem!_pos l i h]; exact List.getElem_mem h
theorem w1L {i n : Nat} (h : i < n) (hn : n ≤ 1000000) : IntKind.i64.wrap ((i : Int) + 1) = ((i + 1 : Nat) : Int) := by rw [wrap_id (by omega) (by omega)]; omega
/-- A loop with an invariant: it runs through, or it is left. -/
theorem loopJ {γ β : Type} {rnd : γ → Option (Option γ)} (n : Nat) (mk : Nat → β → γ) (I S : Nat → β → Prop)
    (h1 : ∀ i b, i < n → I i b → (∃ b', rnd (mk i b) = some (some (mk (i + 1) b')) ∧ I (i + 1) b') ∨ (rnd (mk i b) = some none ∧ S i b))
    (h2 : ∀ b, I n b → rnd (mk n b) = some none) {b : β} (hb : I 0 b) :
    ∃ i v, advG rnd (mk 0 b) = some (mk i v) ∧ I i v ∧ (i = n ∨ (i < n ∧ S i v)) := by
  have key : ∀ (k i : Nat) (b : β), i + k = n → I i b → ∃ j v, advG rnd (mk i b) = some (mk j v) ∧ I j v ∧ (j = n ∨ (j < n ∧ S j v)) := by
    intro k
    induction k with
    | zero =>
      intro i b hi hb
      have : i = n := by omega
      subst this
      exact ⟨_, b, advG_stop (fun r => by rw [h2 b hb]; simp), hb, .inl rfl⟩
    | succ k ih =>
      intro i b hi hb
      rcases h1 i b (by omega) hb with ⟨b', q1, q2⟩ | ⟨q1, q2⟩
      · rw [advG_step q1]
        exact ih (i + 1) b' (by omega) q2
      · exact ⟨i, b, advG_stop (fun r => by rw [q1]; simp), hb, .inr ⟨by omega, q2⟩⟩
  exact key n 0 b (by omega) hb
/-- A loop with an invariant that runs through. -/
theorem loopI {γ β : Type} {rnd : γ → Option (Option γ)} (n : Nat) (mk : Nat → β → γ) (I : Nat → β → Prop)
    (h1 : ∀ i b, i < n → I i b → ∃ b', rnd (mk i b) = some (some (mk (i + 1) b')) ∧ I (i + 1) b')
    (h2 : ∀ b, I n b → rnd (mk n b) = some none) {b : β} (hb : I 0 b) : ∃ v, advG rnd (mk 0 b) = some (mk n v) ∧ I n v := by
  obtain ⟨i, v, e, hi, h⟩ := loopJ n mk I (fun _ _ => False) (fun i b hi hb => .inl (h1 i b hi hb)) h2 hb
  rcases h with rfl | ⟨_, h⟩
  · exact ⟨v, e, hi⟩
  · exact h.elim
/-- The first code that is not 0. -/
def firstC {α : Type} (c : Nat → α → Int) : List α → Nat → Int
  | [], _ => 0
  | x :: xs, i => if c i x = 0 then firstC c xs (i + 1) else c i x
/-- A loop that looks for the first code. -/
theorem loopC {γ α : Type} [Inhabited α] {rnd : γ → Option (Option γ)} (l : List α) (mk : Nat → γ) (c : Nat → α → Int)
    (h1 : ∀ i, i < l.length → (c i l[i]! = 0 → rnd (mk i) = some (some (mk (i + 1)))) ∧ (c i l[i]! ≠ 0 → rnd (mk i) = some none))
    (h2 : rnd (mk l.length) = some none) :
    ∃ i, advG rnd (mk 0) = some (mk i) ∧ ((i = l.length ∧ firstC c l 0 = 0) ∨ (i < l.length ∧ c i l[i]! ≠ 0 ∧ firstC c l 0 = c i l[i]!)) := by
  have key : ∀ (xs : List α) (i : Nat), l.drop i = xs → i ≤ l.length → ∃ j, advG rnd (mk i) = some (mk j) ∧ ((j = l.length ∧ firstC c xs i = 0) ∨ (j < l.length ∧ c j l[j]! ≠ 0 ∧ firstC c xs i = c j l[j]!)) := by
    intro xs
    induction xs with
    | nil =>
      intro i hd hi
      have : i = l.length := by have := congrArg List.length hd; simp at this; omega
      subst this
      exact ⟨_, advG_stop (fun r => by rw [h2]; simp), .inl ⟨rfl, rfl⟩⟩
    | cons x xs ih =>
      intro i hd hi
      have hil : i < l.length := by have := congrArg List.length hd; simp at this; omega
      have hx : l[i]! = x := by
        have := congrArg List.head? hd
        rw [List.head?_drop, List.getElem?_eq_getElem hil] at this
        rw [getElem!_pos l i hil]
        simpa using this
      have hd' : l.drop (i + 1) = xs := by
        have := congrArg List.tail hd
        rw [List.tail_drop] at this
        simpa using this
      obtain ⟨p1, p2⟩ := h1 i hil
      unfold firstC
      rw [hx] at p1 p2
      by_cases hc : c i x = 0
      · rw [if_pos hc, advG_step (p1 hc)]
        exact ih (i + 1) hd' hil
      · rw [if_neg hc]
        exact ⟨i, advG_stop (fun r => by rw [p2 hc]; simp), .inr ⟨hil, by rw [hx]; exact hc, by rw [hx]⟩⟩
  exact key l 0 rfl (Nat.zero_le _)
/-- A loop that looks whether all elements pass. -/
theorem loopB {γ α : Type} [Inhabited α] {rnd : γ → Option (Option γ)} (l : List α) (mk : Nat → γ) (c : Nat → α → Bool)
    (h1 : ∀ i, i < l.length → (c i l[i]! = true → rnd (mk i) = some (some (mk (i + 1)))) ∧ (c i l[i]! = false → rnd (mk i) = some none))
    (h2 : rnd (mk l.length) = some none) :
    ∃ i, advG rnd (mk 0) = some (mk i) ∧ ((i = l.length ∧ ∀ j, j < l.length → c j l[j]! = true) ∨ (i < l.length ∧ c i l[i]! = false)) := by
  obtain ⟨i, v, e, hI, h⟩ := loopJ (β := Unit) (rnd := rnd) l.length (fun i _ => mk i) (fun i _ => ∀ j, j < i → c j l[j]! = true) (fun i _ => c i l[i]! = false) (fun i b hi hI => by
      obtain ⟨p1, p2⟩ := h1 i hi
      cases hc : c i l[i]! with
      | true => exact .inl ⟨(), p1 hc, fun j hj => by
          rcases Nat.lt_succ_iff_lt_or_eq.1 hj with h | h
          · exact hI j h
          · subst h; exact hc⟩
      | false => exact .inr ⟨p2 hc, rfl⟩) (fun b _ => h2) (b := ()) (fun j hj => absurd hj (by omega))
  refine ⟨i, e, ?_⟩
  rcases h with h | h
  · subst h; exact .inl ⟨rfl, hI⟩
  · exact .inr h
theorem all_of {α : Type} [Inhabited α] {l : List α} {p : α → Bool} (h : ∀ j, j < l.length → p l[j]! = true) : l.all p = true := by
  rw [List.all_eq_true]
  intro x hx
  obtain ⟨i, hi, e⟩ := List.getElem_of_mem hx
  have := h i hi
  rw [getElem!_pos l i hi, e] at this
  exact this
theorem not_all {α : Type} [Inhabited α] {l : List α} {p : α → Bool} {i : Nat} (hi : i < l.length) (h : p l[i]! = false) : l.all p = false := by
  cases ha : l.all p with
  | false => rfl
  | true =>
    rw [List.all_eq_true] at ha
    rw [ha _ (get_memL hi)] at h
    exact absurd h (by decide)
theorem not_any {α : Type} [Inhabited α] {l : List α} {p : α → Bool} (h : ∀ j, j < l.length → p l[j]! = false) : l.any p = false := by
  cases ha : l.any p with
  | false => rfl
  | true =>
    obtain ⟨x, hx, e⟩ := List.any_eq_true.1 ha
    obtain ⟨i, hi, e2⟩ := List.getElem_of_mem hx
    have := h i hi
    rw [getElem!_pos l i hi, e2, e] at this
    exact absurd this (by decide)
theorem is_any {α : Type} [Inhabited α] {l : List α} {p : α → Bool} {i : Nat} (hi : i < l.length) (h : p l[i]! = true) : l.any p = true :=
  List.any_eq_true.2 ⟨_, get_memL hi, h⟩
theorem take_succL {α : Type} [Inhabited α] {l : List α} {i : Nat} (h : i < l.length) : l.take (i + 1) = l.take i ++ [l[i]!] := by
  rw [getElem!_pos l i h]
  exact (List.take_append_getElem h).symm
end Go.Iv
end
section
set_option linter.unusedSectionVars false
set_option linter.unusedVariables false
set_option linter.unusedSimpArgs false
namespace Go.Proofs.Ytfipaakafcjjhaa
open Go Go.Iv
open YtfipaakafcjjhaaD (mkD repv Ok app dec app_len app_snoc repv_len)

abbrev fD (ds : List Int) (ps : List (Int × Int)) (l : Int) (dn : Bool) : Disk := frD (mkD ds ps l dn)
section
variable {ds : List Int} {ps : List (Int × Int)}
theorem q25 (h : Ok ds ps) (l : Int) (dn : Bool) : m25 (fD ds ps l dn) = some true := by unfold m25; rw [toD_frD]; exact YtfipaakafcjjhaaD.m25_mk h l dn
theorem q17 (h : Ok ds ps) (l : Int) (dn : Bool) (i : Nat) (hi : i < 8) : m17 (fD ds ps l dn) (i : Int) = some (if dn = true then ([], 17) else (repv (app ps ds)[i]!, 0)) := by unfold m17; rw [toD_frD]; exact YtfipaakafcjjhaaD.m17_mk h l dn i hi
theorem q15 (v : Int) : m15 v = some (repv v) := rfl
theorem q14 (l : List Int) : m14 l l = some true := YtfipaakafcjjhaaD.m14_self l
theorem q19 (h : Ok ds ps) (l : Int) (hl : l ≤ 1000) (dn : Bool) (i v : Int) (hi : 0 ≤ i ∧ i < 8) : m19 (fD ds ps l dn) i (repv v) = some (if dn = true then (fD ds ps l dn, 17) else if l = 0 then (fD ds ps 0 true, 17) else (fD ds (ps ++ [(i, v)]) (dec l) false, 0)) := by
  unfold m19
  rw [toD_frD, YtfipaakafcjjhaaD.m19_mk h l hl dn i v hi]
  cases dn with
  | true => rfl
  | false => by_cases h0 : l = 0 <;> simp [h0]
theorem q22 (h : Ok ds ps) (l : Int) (hl : l ≤ 1000) (dn : Bool) : m22 (fD ds ps l dn) = some (if dn = true then (fD ds ps l dn, 17) else if l = 0 then (fD ds ps 0 true, 17) else (fD (app ps ds) [] (dec l) false, 0)) := by
  unfold m22
  rw [toD_frD, YtfipaakafcjjhaaD.m22_mk h l hl dn]
  cases dn with
  | true => rfl
  | false => by_cases h0 : l = 0 <;> simp [h0]
theorem q23 (h : Ok ds ps) (l : Int) (dn : Bool) (n : Int) (hn : 0 ≤ n) : m23 (fD ds ps l dn) n = some (if dn = true then (fD ds ps l dn, 17) else (fD ds ps n false, 0)) := by
  unfold m23
  rw [toD_frD, YtfipaakafcjjhaaD.m23_mk h l dn n hn]
  cases dn <;> rfl
theorem q24 (h : Ok ds ps) (l : Int) (dn : Bool) (keep : List Bool) : ∃ ds' : List Int, m24 (fD ds ps l dn) keep = some (fD ds' [] (-1) false, 0) ∧ ds'.length = 8 ∧ ∀ j : Nat, j < 8 → ds'[j]! = ds[j]! ∨ ∃ p ∈ ps, p.1 = (j : Int) ∧ ds'[j]! = p.2 := by
  obtain ⟨ds', r1, r2, r3⟩ := YtfipaakafcjjhaaD.m24_mk h l dn keep
  refine ⟨ds', ?_, r2, r3⟩
  unfold m24
  rw [toD_frD, r1]
  rfl
end
theorem repv0 (v : Int) : (repv v)[0]! = v := rfl
theorem fD_down (ds : List Int) (ps : List (Int × Int)) (l : Int) (dn : Bool) : (fD ds ps l dn).fDown = dn := rfl
theorem getA_set (x : Nat → Bool) (i : Nat) : getA (setA x i true) i = true := by unfold getA setA; rw [if_pos rfl]
theorem getA_set' (x : Nat → Bool) (i j : Nat) (h : getA x j = true) : getA (setA x i true) j = true := by
  unfold getA setA at *
  split
  · rfl
  · exact h
theorem set_get {α : Type} [Inhabited α] (l : List α) (i j : Nat) (x : α) (hj : j < l.length) : (l.set i x)[j]! = if i = j then x else l[j]! := by
  rw [getElem!_pos _ j (by rw [List.length_set]; exact hj), List.getElem_set, getElem!_pos l j hj]
/-- the loop over the sectors at the end of a round -/
theorem a6_4_eq {ds : List Int} {ps : List (Int × Int)} (h : Ok ds ps) (l : Int) (dn : Bool) (t4 : List Int) (t6 : List (Nat → Bool)) (S : List GOp) (n k N : Int) (hN : N = 8) : a6_4 ⟨t4, app ps ds, t6, S, n, k, N, 0, fD ds ps l dn⟩ = some ⟨t4, app ps ds, t6, S, n, k, 8, 8, fD ds ps l dn⟩ := by
  subst hN
  have hlen : (app ps ds).length = 8 := by rw [app_len, h.len]
  obtain ⟨v, e1, _⟩ := loopI (β := Unit) (rnd := n6_4) 8 (fun i _ => ⟨t4, app ps ds, t6, S, n, k, 8, (i : Int), fD ds ps l dn⟩) (fun _ _ => True) (fun i b hi _ => by
    refine ⟨(), ?_, trivial⟩
    have hw := w1L hi (by omega)
    have hi1 : (i : Int) < 8 := by omega
    have hi2 : (i : Int) < ((8 : Nat) : Int) := by omega
    have hi0 : (0 : Int) ≤ (i : Int) := by omega
    unfold n6_4
    dsimp only
    rw [q17 h l dn i hi]
    cases dn with
    | true => simp [hi1, fD_down, hw]
    | false =>
      simp only [Int.toNat_natCast, hi1, hi2, hi0, hi, hlen, fD_down, q15, q14, decide_true, cond_true, cond_false, and_self, if_true, if_false, hw, Bool.false_eq_true]) (fun b _ => by unfold n6_4; simp) (b := ()) trivial
  exact e1
/-- what the law knows of the sectors -/
def May (t6 : List (Nat → Bool)) (ds : List Int) : Prop := t6.length = 8 ∧ ∀ j : Nat, j < 8 → getA t6[j]! ds[j]!.toNat = true
def Byt8 (ds : List Int) : Prop := ds.length = 8 ∧ ∀ j : Nat, j < 8 → 0 ≤ ds[j]! ∧ ds[j]! < 256
theorem ext8 {a b : List Int} (ha : a.length = 8) (hb : b.length = 8) (h : ∀ j : Nat, j < 8 → a[j]! = b[j]!) : a = b := by
  apply List.ext_getElem (by omega)
  intro j h1 h2
  have := h j (by omega)
  rw [getElem!_pos a j h1, getElem!_pos b j h2] at this
  exact this
/-- the loop behind a crash -/
theorem a6_3_eq {ds : List Int} (hb : Byt8 ds) (l : Int) (t4 t5 : List Int) (h4 : t4.length = 8) (h5 : t5.length = 8) (t6 : List (Nat → Bool)) (hm : May t6 ds) (S : List GOp) (n k N : Int) (hN : N = 8) :
    ∃ t6', a6_3 ⟨t4, t5, t6, S, n, k, N, 0, fD ds [] l false⟩ = some ⟨ds, ds, t6', S, n, k, 8, 8, fD ds [] l false⟩ ∧ May t6' ds := by
  subst hN
  have hok : Ok ds [] := ⟨hb.1, by simp, fun p hp => (by cases hp)⟩
  obtain ⟨v, e1, i1, i2, i3, i4⟩ := loopI (rnd := n6_3) 8 (fun i (b : List Int × List Int × List (Nat → Bool)) => ⟨b.1, b.2.1, b.2.2, S, n, k, 8, (i : Int), fD ds [] l false⟩) (fun i b => b.1.length = 8 ∧ b.2.1.length = 8 ∧ (∀ j : Nat, j < i → b.1[j]! = ds[j]! ∧ b.2.1[j]! = ds[j]!) ∧ May b.2.2 ds) (fun i b hi hI => by
    obtain ⟨b1, b2, b3⟩ := b
    obtain ⟨i1, i2, i3, i4, i5⟩ := hI
    dsimp only at i1 i2 i3 i4 i5
    have hw := w1L hi (by omega)
    have hi1 : (i : Int) < 8 := by omega
    have hi2 : (i : Int) < ((8 : Nat) : Int) := by omega
    have hi0 : (0 : Int) ≤ (i : Int) := by omega
    have hv := hb.2 i hi
    have hv2 : 0 + ds[i]!.toNat * 1 < 256 := by omega
    have hg := i5 i hi
    have hg2 : getA b3[i]! (0 + ds[i]!.toNat * 1) = true := by rw [Nat.zero_add, Nat.mul_one]; exact hg
    have h96 : (0 : Int) < ((96 : Nat) : Int) := by omega
    have h96b : ((96 : Nat) : Int) = 96 := rfl
    have h96c : (0 : Int) < 96 := by omega
    have hz : Int.toNat 0 = 0 := rfl
    refine ⟨(b1.set i ds[i]!, b2.set i ds[i]!, (b3.set i fun _ => false).set i (setA (b3.set i fun _ => false)[i]! (0 + ds[i]!.toNat * 1) true)), ?_, ?_, ?_, ?_, ?_, ?_⟩
    · unfold n6_3
      dsimp only
      rw [q17 hok l false i hi]
      simp only [app, List.foldl_nil, hz, Int.toNat_natCast, hi1, hi2, hi0, hi, i1, i2, i4, List.length_set, repv_len, repv0, q15, q14, h96, h96b, h96c, hv, hv2, hg2, decide_true, cond_true, cond_false, and_self, if_true, if_false, hw, Bool.false_eq_true, Int.le_refl]
    · show (b1.set i ds[i]!).length = 8
      rw [List.length_set]; exact i1
    · show (b2.set i ds[i]!).length = 8
      rw [List.length_set]; exact i2
    · intro j hj
      show (b1.set i ds[i]!)[j]! = _ ∧ (b2.set i ds[i]!)[j]! = _
      rw [set_get _ _ _ _ (by omega), set_get _ _ _ _ (by omega)]
      by_cases hij : i = j
      · subst hij; simp
      · rw [if_neg hij, if_neg hij]
        exact i3 j (by omega)
    · show ((b3.set i _).set i _).length = 8
      rw [List.length_set, List.length_set]; exact i4
    · intro j hj
      show getA ((b3.set i _).set i _)[j]! _ = true
      rw [set_get _ _ _ _ (by rw [List.length_set]; omega), Nat.zero_add, Nat.mul_one]
      by_cases hij : i = j
      · subst hij
        rw [if_pos rfl]
        exact getA_set _ _
      · rw [if_neg hij, set_get _ _ _ _ (by omega), if_neg hij]
        exact i5 j hj) (fun b _ => by unfold n6_3; simp) (b := (t4, t5, t6)) ⟨h4, h5, fun j hj => absurd hj (by omega), hm⟩
  obtain ⟨v1, v2, v3⟩ := v
  dsimp only at e1 i1 i2 i3 i4
  have q1 := ext8 i1 hb.1 fun j hj => (i3 j hj).1
  have q2 := ext8 i2 hb.1 fun j hj => (i3 j hj).2
  subst q1
  rw [q2] at e1
  exact ⟨v3, e1, i4⟩
/-- the loop behind a sync -/
theorem a6_2_eq {L : List Int} (hb : Byt8 L) (t6 : List (Nat → Bool)) (h6 : t6.length = 8) (S : List GOp) (n k N : Int) (hN : N = 8) (d : Disk) :
    ∃ t6', a6_2 ⟨L, L, t6, S, n, k, N, 0, d⟩ = some ⟨L, L, t6', S, n, k, 8, 8, d⟩ ∧ May t6' L := by
  subst hN
  obtain ⟨v, e1, i1, i2⟩ := loopI (rnd := n6_2) 8 (fun i (b : List (Nat → Bool)) => ⟨L, L, b, S, n, k, 8, (i : Int), d⟩) (fun i b => b.length = 8 ∧ ∀ j : Nat, j < i → getA b[j]! L[j]!.toNat = true) (fun i b3 hi hI => by
    obtain ⟨i4, i5⟩ := hI
    have hL := hb.1
    have hw := w1L hi (by omega)
    have hi1 : (i : Int) < 8 := by omega
    have hi2 : (i : Int) < ((8 : Nat) : Int) := by omega
    have hi0 : (0 : Int) ≤ (i : Int) := by omega
    have hv := hb.2 i hi
    have hv2 : 0 + L[i]!.toNat * 1 < 256 := by omega
    refine ⟨(b3.set i fun _ => false).set i (setA (b3.set i fun _ => false)[i]! (0 + L[i]!.toNat * 1) true), ?_, ?_, ?_⟩
    · unfold n6_2
      dsimp only
      simp only [Int.toNat_natCast, hi1, hi2, hi0, hi, i4, hL, List.length_set, hv, hv2, decide_true, cond_true, cond_false, and_self, if_true, hw]
    · rw [List.length_set, List.length_set]; exact i4
    · intro j hj
      rw [set_get _ _ _ _ (by rw [List.length_set]; omega), Nat.zero_add, Nat.mul_one]
      by_cases hij : i = j
      · subst hij
        rw [if_pos rfl]
        exact getA_set _ _
      · rw [if_neg hij, set_get _ _ _ _ (by omega), if_neg hij]
        exact i5 j (by omega)) (fun b _ => by unfold n6_2; simp) (b := t6) ⟨h6, fun j hj => absurd hj (by omega)⟩
  exact ⟨v, e1, i1, i2⟩
/-- the loop that makes may -/
theorem a6_0_eq (S : List GOp) (d : Disk) : ∃ t6, a6_0 ⟨S, List.replicate 8 0, List.replicate 8 0, List.replicate 8 fun _ => false, 8, 0, d⟩ = some ⟨S, List.replicate 8 0, List.replicate 8 0, t6, 8, 8, d⟩ ∧ May t6 (List.replicate 8 0) := by
  obtain ⟨v, e1, i1, i2⟩ := loopI (rnd := n6_0) 8 (fun i (b : List (Nat → Bool)) => ⟨S, List.replicate 8 0, List.replicate 8 0, b, 8, (i : Int), d⟩) (fun i b => b.length = 8 ∧ ∀ j : Nat, j < i → getA b[j]! 0 = true) (fun i b3 hi hI => by
    obtain ⟨i4, i5⟩ := hI
    have hw := w1L hi (by omega)
    have hi1 : (i : Int) < 8 := by omega
    have hi2 : (i : Int) < ((8 : Nat) : Int) := by omega
    have hi0 : (0 : Int) ≤ (i : Int) := by omega
    refine ⟨b3.set i (setA b3[i]! 0 true), ?_, ?_, ?_⟩
    · unfold n6_0
      dsimp only
      simp only [Int.toNat_natCast, hi1, hi2, hi0, hi, i4, decide_true, cond_true, cond_false, and_self, if_true, hw]
      simp
    · rw [List.length_set]; exact i4
    · intro j hj
      rw [set_get _ _ _ _ (by omega)]
      by_cases hij : i = j
      · subst hij
        rw [if_pos rfl]
        exact getA_set _ _
      · rw [if_neg hij]
        exact i5 j (by omega)) (fun b _ => by unfold n6_0; simp) (b := List.replicate 8 fun _ => false) ⟨by simp, fun j hj => absurd hj (by omega)⟩
  refine ⟨v, e1, i1, fun j hj => ?_⟩
  have : (List.replicate 8 (0 : Int))[j]! = 0 := by rw [getElem!_pos _ j (by rw [List.length_replicate]; exact hj), List.getElem_replicate]
  rw [this]
  exact i2 j hj
/-- what an operation may be -/
def OpOk (o : GOp) : Prop := (0 ≤ o.fKind ∧ o.fKind < 256) ∧ (0 ≤ o.fAt ∧ o.fAt < 256) ∧ (0 ≤ o.fFill ∧ o.fFill < 256) ∧ (0 ≤ o.fLeft ∧ o.fLeft < 256)
/-- where a round stands -/
def Inv6 (k : Nat) (b : List Int × List Int × List (Nat → Bool) × Disk) : Prop := ∃ (ds : List Int) (ps : List (Int × Int)) (l : Int) (dn : Bool), Ok ds ps ∧ ps.length ≤ k ∧ l ≤ 1000 ∧ Byt8 ds ∧ (∀ p ∈ ps, 0 ≤ p.2 ∧ p.2 < 256) ∧ b.1.length = 8 ∧ b.2.1 = app ps ds ∧ May b.2.2.1 ds ∧ (∀ p ∈ ps, getA b.2.2.1[p.1.toNat]! p.2.toNat = true) ∧ b.2.2.2 = fD ds ps l dn
theorem byt_app {ds : List Int} {ps : List (Int × Int)} (h : Byt8 ds) (hp : ∀ p ∈ ps, 0 ≤ p.2 ∧ p.2 < 256) : Byt8 (app ps ds) := by
  induction ps generalizing ds with
  | nil => exact h
  | cons p ps ih =>
    refine ih (ds := ds.set p.1.toNat p.2) ⟨by rw [List.length_set]; exact h.1, fun j hj => ?_⟩ fun q hq => hp q (List.mem_cons_of_mem _ hq)
    rw [set_get _ _ _ _ (by rw [h.1]; exact hj)]
    split
    · exact hp p (List.mem_cons_self ..)
    · exact h.2 j hj
theorem dec_le {l : Int} (h : l ≤ 1000) : dec l ≤ 1000 := by unfold dec; split <;> omega
theorem round6 (S : List GOp) (hS : S.length ≤ 60) (hops : ∀ o ∈ S, OpOk o) (k : Nat) (b : List Int × List Int × List (Nat → Bool) × Disk) (hk : k < S.length) (hI : Inv6 k b) :
    ∃ b', n6_1 ⟨b.1, b.2.1, b.2.2.1, S, (S.length : Int), (k : Int), b.2.2.2⟩ = some (some ⟨b'.1, b'.2.1, b'.2.2.1, S, (S.length : Int), ((k + 1 : Nat) : Int), b'.2.2.2⟩) ∧ Inv6 (k + 1) b' := by
  obtain ⟨t4, t5, t6, d⟩ := b
  obtain ⟨ds, ps, l, dn, hok, hpk, hl, hbd, hbp, h4, h5, hm, hmp, hd⟩ := hI
  dsimp only at h4 h5 hm hmp hd
  subst h5
  subst hd
  obtain ⟨⟨o1, o2⟩, ⟨o3, o4⟩, ⟨o5, o6⟩, ⟨o7, o8⟩⟩ := hops _ (get_memL hk)
  have hw := w1L hk (by omega)
  have hk1 : (k : Int) < (S.length : Int) := by omega
  have hk0 : (0 : Int) ≤ (k : Int) := by omega
  have hlen : (app ps ds).length = 8 := by rw [app_len, hok.len]
  have hw8 : IntKind.i64.wrap S[k]!.fAt = S[k]!.fAt := wrap_id (by omega) (by omega)
  have hwl : IntKind.i64.wrap S[k]!.fLeft = S[k]!.fLeft := wrap_id (by omega) (by omega)
  obtain ⟨a, ha, ha8⟩ : ∃ a : Nat, S[k]!.fAt.tmod 8 = (a : Int) ∧ a < 8 := by
    rw [Int.tmod_eq_emod_of_nonneg o3]
    exact ⟨(S[k]!.fAt % 8).toNat, by omega, by omega⟩
  have hkind : S[k]!.fKind.tmod 5 = 0 ∨ S[k]!.fKind.tmod 5 = 1 ∨ S[k]!.fKind.tmod 5 = 2 ∨ S[k]!.fKind.tmod 5 = 3 ∨ S[k]!.fKind.tmod 5 = 4 := by
    rw [Int.tmod_eq_emod_of_nonneg o1]
    omega
  -- the state stays but for the power
  have hstay : ∀ (l' : Int) (dn' : Bool), l' ≤ 1000 → Inv6 (k + 1) (t4, app ps ds, t6, fD ds ps l' dn') := fun l' dn' hl' => ⟨ds, ps, l', dn', hok, by omega, hl', hbd, hbp, h4, rfl, hm, hmp, rfl⟩
  have e4 : ∀ (l' : Int) (dn' : Bool), a6_4 ⟨t4, app ps ds, t6, S, (S.length : Int), (k : Int), 8, 0, fD ds ps l' dn'⟩ = some ⟨t4, app ps ds, t6, S, (S.length : Int), (k : Int), 8, 8, fD ds ps l' dn'⟩ := fun l' dn' => a6_4_eq hok l' dn' t4 t6 S _ _ 8 rfl
  have h88 : ((8 : Nat) : Int) = 8 := rfl
  have hlt : ¬ (8 : Int) < 8 := by omega
  -- a write
  have hwr : (∃ (l' : Int) (dn' : Bool) (c : Int), l' ≤ 1000 ∧ c ≠ 0 ∧ m19 (fD ds ps l dn) (a : Int) (repv S[k]!.fFill) = some (fD ds ps l' dn', c)) ∨ (m19 (fD ds ps l dn) (a : Int) (repv S[k]!.fFill) = some (fD ds (ps ++ [((a : Int), S[k]!.fFill)]) (dec l) false, 0)) := by
    rw [q19 hok l hl dn _ _ ⟨by omega, by omega⟩]
    cases dn with
    | true => exact .inl ⟨l, true, 17, hl, by omega, rfl⟩
    | false =>
      by_cases h0 : l = 0
      · exact .inl ⟨0, true, 17, by omega, by omega, by simp [h0]⟩
      · exact .inr (by simp [h0])
  have hok2 : Ok ds (ps ++ [((a : Int), S[k]!.fFill)]) := ⟨hok.len, by simp; omega, fun p hp => by
    rcases List.mem_append.1 hp with hp | hp
    · exact hok.at8 p hp
    · rw [List.mem_singleton] at hp; subst hp; exact ⟨by omega, by show (a : Int) < 8; omega⟩⟩
  have hv2 : 0 + S[k]!.fFill.toNat * 1 < 256 := by omega
  have ha0 : (0 : Int) ≤ (a : Int) := by omega
  have ha1 : (a : Int) < 8 := by omega
  have hsn : (app ps ds).set a S[k]!.fFill = app (ps ++ [((a : Int), S[k]!.fFill)]) ds := by rw [app_snoc]; rfl
  have e4w : a6_4 ⟨t4, app (ps ++ [((a : Int), S[k]!.fFill)]) ds, t6.set a (setA t6[a]! (0 + S[k]!.fFill.toNat * 1) true), S, (S.length : Int), (k : Int), 8, 0, fD ds (ps ++ [((a : Int), S[k]!.fFill)]) (dec l) false⟩ = some ⟨t4, app (ps ++ [((a : Int), S[k]!.fFill)]) ds, t6.set a (setA t6[a]! (0 + S[k]!.fFill.toNat * 1) true), S, (S.length : Int), (k : Int), 8, 8, fD ds (ps ++ [((a : Int), S[k]!.fFill)]) (dec l) false⟩ := a6_4_eq hok2 _ _ t4 _ S _ _ 8 rfl
  have hlen2 : (app (ps ++ [((a : Int), S[k]!.fFill)]) ds).length = 8 := by rw [app_len, hok.len]
  have hinvw : Inv6 (k + 1) (t4, app (ps ++ [((a : Int), S[k]!.fFill)]) ds, t6.set a (setA t6[a]! (0 + S[k]!.fFill.toNat * 1) true), fD ds (ps ++ [((a : Int), S[k]!.fFill)]) (dec l) false) := by
    refine ⟨ds, ps ++ [((a : Int), S[k]!.fFill)], dec l, false, hok2, by simp; omega, dec_le hl, hbd, fun p hp => ?_, h4, rfl, ⟨?_, fun j hj => ?_⟩, fun p hp => ?_, rfl⟩
    · rcases List.mem_append.1 hp with hp | hp
      · exact hbp p hp
      · rw [List.mem_singleton] at hp; subst hp; exact ⟨o5, o6⟩
    · show (t6.set _ _).length = 8
      rw [List.length_set]; exact hm.1
    · show getA (t6.set _ _)[j]! _ = true
      rw [set_get _ _ _ _ (by rw [hm.1]; exact hj)]
      split
      · rename_i haj; subst haj; exact getA_set' _ _ _ (hm.2 a ha8)
      · exact hm.2 j hj
    · show getA (t6.set _ _)[p.1.toNat]! _ = true
      have hp8 := hok2.at8 p hp
      rw [set_get _ _ _ _ (by rw [hm.1]; omega), Nat.zero_add, Nat.mul_one]
      rcases List.mem_append.1 hp with hp | hp
      · split
        · rename_i haj
          have := hmp p hp
          rw [← haj] at this
          exact getA_set' _ _ _ this
        · exact hmp p hp
      · rw [List.mem_singleton] at hp; subst hp
        rw [if_pos (show a = Int.toNat (a : Int) by omega)]
        exact getA_set _ _
  unfold n6_1
  dsimp only
  simp only [Int.toNat_natCast, hk1, hk0, decide_true, cond_true, and_self, if_true, hw8, hwl, ha, q15, hw]
  rcases hkind with e | e | e | e | e
  · rcases hwr with ⟨l', dn', c, hl', hc, r⟩ | r
    · refine ⟨(t4, app ps ds, t6, fD ds ps l' dn'), ?_, hstay l' dn' hl'⟩
      simp only [e, r, hc, q25 hok, hlen, h88, e4, hlt, decide_true, decide_false, cond_true, cond_false, hw]
    · refine ⟨_, ?_, hinvw⟩
      simp only [e, r, q25 hok2, hlen, hm.1, h88, ha0, ha1, ha8, o5, o6, hv2, hsn, hlen2, e4w, hlt, decide_true, decide_false, cond_true, cond_false, and_self, if_true, hw, List.length_set]
  · rcases hwr with ⟨l', dn', c, hl', hc, r⟩ | r
    · refine ⟨(t4, app ps ds, t6, fD ds ps l' dn'), ?_, hstay l' dn' hl'⟩
      simp only [e, r, hc, q25 hok, hlen, h88, e4, hlt, decide_true, decide_false, cond_true, cond_false, hw, Int.reduceEq]
    · refine ⟨_, ?_, hinvw⟩
      simp only [e, r, q25 hok2, hlen, hm.1, h88, ha0, ha1, ha8, o5, o6, hv2, hsn, hlen2, e4w, hlt, decide_true, decide_false, cond_true, cond_false, and_self, if_true, hw, List.length_set, Int.reduceEq]
  · -- sync
    have hs : (∃ (l' : Int) (dn' : Bool) (c : Int), l' ≤ 1000 ∧ c ≠ 0 ∧ m22 (fD ds ps l dn) = some (fD ds ps l' dn', c)) ∨ m22 (fD ds ps l dn) = some (fD (app ps ds) [] (dec l) false, 0) := by
      rw [q22 hok l hl dn]
      cases dn with
      | true => exact .inl ⟨l, true, 17, hl, by omega, rfl⟩
      | false =>
        by_cases h0 : l = 0
        · exact .inl ⟨0, true, 17, by omega, by omega, by simp [h0]⟩
        · exact .inr (by simp [h0])
    rcases hs with ⟨l', dn', c, hl', hc, r⟩ | r
    · refine ⟨(t4, app ps ds, t6, fD ds ps l' dn'), ?_, hstay l' dn' hl'⟩
      simp only [e, r, hc, q25 hok, hlen, h88, e4, hlt, decide_true, decide_false, cond_true, cond_false, hw, Int.reduceEq]
    · have hba := byt_app hbd hbp
      obtain ⟨t6', r2, hm'⟩ := a6_2_eq hba t6 hm.1 S (S.length : Int) (k : Int) 8 rfl (fD (app ps ds) [] (dec l) false)
      have hok3 : Ok (app ps ds) [] := ⟨hlen, by simp, fun p hp => (by cases hp)⟩
      have e43 := a6_4_eq hok3 (dec l) false (app ps ds) t6' S (S.length : Int) (k : Int) 8 rfl
      have e43 : a6_4 ⟨app ps ds, app ps ds, t6', S, (S.length : Int), (k : Int), 8, 0, fD (app ps ds) [] (dec l) false⟩ = some ⟨app ps ds, app ps ds, t6', S, (S.length : Int), (k : Int), 8, 8, fD (app ps ds) [] (dec l) false⟩ := e43
      refine ⟨(app ps ds, app ps ds, t6', fD (app ps ds) [] (dec l) false), ?_, ⟨app ps ds, [], dec l, false, hok3, by simp, dec_le hl, hba, fun p hp => (by cases hp), hlen, rfl, hm', fun p hp => (by cases hp), rfl⟩⟩
      have h08 : 0 < 8 ∧ 8 = 8 := by omega
      simp only [e, r, h4, hlen, hm.1, h88, h08, r2, q25 hok3, e43, hlt, decide_true, decide_false, cond_true, cond_false, and_self, if_true, hw, Int.reduceEq]
  · -- arm
    have hs : ∃ (l' : Int) (dn' : Bool) (c : Int), l' ≤ 1000 ∧ m23 (fD ds ps l dn) S[k]!.fLeft = some (fD ds ps l' dn', c) := by
      rw [q23 hok l dn _ o7]
      cases dn with
      | true => exact ⟨l, true, 17, hl, rfl⟩
      | false => exact ⟨S[k]!.fLeft, false, 0, by omega, rfl⟩
    obtain ⟨l', dn', c, hl', r⟩ := hs
    refine ⟨(t4, app ps ds, t6, fD ds ps l' dn'), ?_, hstay l' dn' hl'⟩
    simp only [e, r, q25 hok, hlen, h88, e4, hlt, decide_true, decide_false, cond_true, cond_false, hw, Int.reduceEq]
  · -- crash
    obtain ⟨ds', r, r2, r3⟩ := q24 hok l dn S[k]!.fKeep
    have hb' : Byt8 ds' := ⟨r2, fun j hj => by
      rcases r3 j hj with h | ⟨p, hp, _, h⟩
      · rw [h]; exact hbd.2 j hj
      · rw [h]; exact hbp p hp⟩
    have hm2 : May t6 ds' := ⟨hm.1, fun j hj => by
      rcases r3 j hj with h | ⟨p, hp, hpj, h⟩
      · rw [h]; exact hm.2 j hj
      · have := hmp p hp
        rw [hpj, Int.toNat_natCast] at this
        rw [h]; exact this⟩
    obtain ⟨t6', r4, hm'⟩ := a6_3_eq hb' (-1) t4 (app ps ds) h4 hlen t6 hm2 S (S.length : Int) (k : Int) 8 rfl
    have hok3 : Ok ds' [] := ⟨r2, by simp, fun p hp => (by cases hp)⟩
    have e43 : a6_4 ⟨ds', ds', t6', S, (S.length : Int), (k : Int), 8, 0, fD ds' [] (-1) false⟩ = some ⟨ds', ds', t6', S, (S.length : Int), (k : Int), 8, 8, fD ds' [] (-1) false⟩ := a6_4_eq hok3 (-1) false ds' t6' S (S.length : Int) (k : Int) 8 rfl
    refine ⟨(ds', ds', t6', fD ds' [] (-1) false), ?_, ⟨ds', [], -1, false, hok3, by simp, by omega, hb', fun p hp => (by cases hp), r2, rfl, hm', fun p hp => (by cases hp), rfl⟩⟩
    simp only [e, r, hlen, h88, r4, q25 hok3, r2, e43, hlt, decide_true, decide_false, cond_true, cond_false, hw, Int.reduceEq]
theorem law6 (S : List GOp) (hops : ∀ o ∈ S, OpOk o) : m6 S = some true := by
  unfold m6
  dsimp only [m11, cond_true, cond_false]
  by_cases h60 : 60 < (S.length : Int)
  · simp [h60]
  rw [decide_eq_false h60]
  dsimp only [cond_false]
  have e12 : m12 8 = some (fD (List.replicate 8 0) [] (-1) false) := by
    unfold m12
    rw [YtfipaakafcjjhaaD.m12_mk]
    rfl
  obtain ⟨t6, e0, hm⟩ := a6_0_eq S (fD (List.replicate 8 0) [] (-1) false)
  rw [e12]
  dsimp only
  rw [show ((↑(8 : Int) : Int)) = 8 from rfl, e0]
  dsimp only
  rw [decide_eq_false (show ¬ (8 : Int) < 8 by omega)]
  dsimp only [cond_false]
  have hok : Ok (List.replicate 8 0) [] := ⟨by simp, by simp, fun p hp => (by cases hp)⟩
  obtain ⟨v, e1, hI⟩ := loopI (rnd := n6_1) S.length (fun k (b : List Int × List Int × List (Nat → Bool) × Disk) => ⟨b.1, b.2.1, b.2.2.1, S, (S.length : Int), (k : Int), b.2.2.2⟩) Inv6 (fun k b hk hI => round6 S (by omega) hops k b hk hI) (fun b _ => by unfold n6_1; simp) (b := (List.replicate 8 0, List.replicate 8 0, t6, fD (List.replicate 8 0) [] (-1) false)) ⟨List.replicate 8 0, [], -1, false, hok, by simp, by omega, ⟨by simp, fun j hj => by rw [getElem!_pos _ j (by rw [List.length_replicate]; exact hj), List.getElem_replicate]; omega⟩, fun p hp => (by cases hp), by simp, rfl, hm, fun p hp => (by cases hp), rfl⟩
  have e1' : a6_1 ⟨List.replicate 8 0, List.replicate 8 0, t6, S, (S.length : Int), 0, fD (List.replicate 8 0) [] (-1) false⟩ = some ⟨v.1, v.2.1, v.2.2.1, S, (S.length : Int), (S.length : Int), v.2.2.2⟩ := e1
  rw [e1']
  dsimp only
  rw [decide_eq_false (show ¬ (S.length : Int) < (S.length : Int) by omega)]
  rfl
end Go.Proofs.Ytfipaakafcjjhaa
end
section
set_option linter.unusedSectionVars false
set_option linter.unusedVariables false
set_option linter.unusedSimpArgs false
namespace Go.Iv
variable [U : Uni]
open Go Go.RowKit Go.Deep Go.ChangeShapes Go.WideShapes Go.Joins
theorem fn_law {P : Program} {f : FuncId} {args : List AV} (h : Iv.Fn P f args [] (fun a s => a = .b true ∧ s = [])) {A : Nat → Prop} {w : World} {vs : List Value} (hr : RelL A w args vs) :
    Calls P f vs.toArray w fun e w' => ∃ v, e = .returned v ∧ v = .bool true ∧ Below w.heap.size w w' :=
  (h w A vs hr ⟨fun r hr => by simp at hr, fun b hb => by simp [blks] at hb⟩ (by simp [blks])).mono fun e w' ⟨v, av, σ', h1, ⟨h2, h3⟩, h4, h5⟩ => by
    subst h2
    exact ⟨v, h1, h5.litEq, h4.kp.below⟩

abbrev anyB : Nat → Prop := fun _ => True

/-- Data of Go type t read as0 values of α, whose cells are c. -/
def Opn {α : Type} {H : Type} (enc : TypeId × Value → H) (P : Program) (w : World) (t : TypeId) (c : α → List AV) (ok : α → Prop) : Prop :=
  ∀ (base : Nat) (fuel : Nat) (cs : List Value) (x : DataW H × List MemPlace), DataW.trod enc P w base (fun _ => true) true fuel t cs = some x → ∃ a, ok a ∧ RelL anyB w (c a) cs

section
variable {α : Type} {H : Type} {enc : TypeId × Value → H} {P : Program} {w : World} {t e : TypeId}

theorem Opn.int {k : IntKind} (ht : P.underlying t = some (.int k)) : Opn enc P w t (cN k) (fun n => (Lit.int k n).wf = true) := fun base fuel cs x h => by
  obtain ⟨n, rfl, _, hw⟩ := DataW.trod_int ht h
  exact ⟨n, hw, RelL.cons (.lit _) RelL.nil⟩
theorem Opn.bool (ht : P.underlying t = some .bool) : Opn enc P w t cB (fun _ => True) := fun base fuel cs x h => by
  obtain ⟨b, rfl, _⟩ := DataW.trod_bool ht h
  exact ⟨b, trivial, RelL.cons (.lit _) RelL.nil⟩
theorem Opn.slice {ok : U.Dat e → Prop} {sz : Nat} (ht : P.underlying t = some (.slice e)) (hc : P.cellsOf e = sz + 1) (hs : U.sz e = sz + 1) (he : Opn enc P w e (U.cells e) ok) :
    Opn enc P w t (fun l : List (U.Dat e) => [.sl e l]) (fun l => l.length ≤ 9223372036854775807 ∧ ∀ a ∈ l, ok a) := fun base fuel cs x h => by
  rcases open_slice ht h with ⟨rfl, _⟩ | ⟨a, len, cp, m, n, D, Pl, hcs, hb, hl, hm, hmm, _, hx⟩
  · refine ⟨[], ⟨by simp, by simp⟩, RelL.cons ?_ RelL.nil⟩
    exact .sl e ([] : List (U.Dat e)) none 0 (fun _ _ => default) (by simp) (by simp) (fun i hi => by simp at hi) (fun i hi => by simp at hi) (fun i j a hi => by simp at hi)
  · subst hcs
    have hmm : m = cp := by rw [hmm]; rfl
    rw [hc] at hx
    have hmx : cp ≤ 9223372036854775807 := by unfold maxLen at hm; omega
    obtain ⟨CS, hCS⟩ := choose_lt (α := List Value × U.Dat e) (p := fun i y => w.cells? base (a.add (i * (sz + 1))) (sz + 1) = some y.1 ∧ ok y.2 ∧ RelL anyB w (U.cells e y.2) y.1) (n := len) (fun i hi => by
      obtain ⟨cs', h1, h2⟩ := hx i (by omega)
      obtain ⟨y, h3, h4⟩ := he _ _ _ _ h2
      exact ⟨(cs', y), h1, h3, h4⟩)
    obtain ⟨l, hld⟩ : ∃ l : List (U.Dat e), l = (List.range len).map fun i => (CS i).2 := ⟨_, rfl⟩
    have hln : l.length = len := by rw [hld]; simp
    have hget : ∀ i, i < len → l[i]! = (CS i).2 := fun i hi => by
      rw [getElem!_pos l i (by omega)]; simp [hld]
    refine ⟨l, ⟨by omega, fun y hy => ?_⟩, RelL.cons ?_ RelL.nil⟩
    · rw [hld, List.mem_map] at hy
      obtain ⟨i, hi, rfl⟩ := hy
      exact (hCS i (by simpa using hi)).2.1
    · rw [← hln]
      refine .sl e l (some a) cp (fun i j => (CS i).1[j]!) (by omega) (by omega) (fun i hi => ?_) (fun i hi => ?_) (fun i j av hi hj => ?_)
      · rw [hln] at hi
        obtain ⟨h1, _, h3⟩ := hCS i hi
        obtain ⟨_, h5, _⟩ := World.cells?_some h1
        rw [hget i hi, ← h3.1, h5, hs]
      · rw [hln] at hi
        obtain ⟨h1, _, h3⟩ := hCS i hi
        obtain ⟨_, h5, h6⟩ := World.cells?_some h1
        have hj : ∀ j, j < sz + 1 → w.cell? ((a.add (i * (sz + 1))).add j) = some (CS i).1[j]! := fun j hj => by
          rw [h6 j hj, getElem!_pos _ j (by omega), List.getElem?_eq_getElem (by omega)]
        obtain ⟨b, off, spot⟩ := a
        have hs : spot = none := by
          obtain ⟨g1, _, _⟩ := hCS 0 (by omega)
          obtain ⟨_, g5, g6⟩ := World.cells?_some g1
          have := World.cell?_spot (v := (CS 0).1[0]!) (w := w) (a := ((⟨b, off, spot⟩ : Addr).add (0 * (sz + 1))).add 0) (by rw [g6 0 (by omega), getElem!_pos _ 0 (by omega), List.getElem?_eq_getElem (by omega)])
          simpa [Addr.add] using this
        subst hs
        have hj' : ∀ j, j < sz + 1 → w.cell? ⟨b, off + i * (sz + 1) + j, none⟩ = some (CS i).1[j]! := fun j hlt => by
          have := hj j hlt
          have ap : ∀ o i : Nat, (⟨b, o, none⟩ : Addr).add i = ⟨b, o + i, none⟩ := fun o i => by
            unfold Addr.add
            split
            · rename_i h0; simp only [h0, Nat.add_zero]
            · rfl
          rw [ap, ap] at this
          exact this
        exact ⟨b, off, rfl, World.block_lt_of_cell? w _ (hj' 0 (by omega)), trivial, by rw [hs]; exact hj'⟩
      · rw [hln] at hi
        rw [hget i hi] at hj
        obtain ⟨h1, _, h3⟩ := hCS i hi
        obtain ⟨v, q1, q2⟩ := h3.get hj
        show Rel anyB w av (CS i).1[j]!
        obtain ⟨q3, q4⟩ := List.getElem?_eq_some_iff.1 q1
        rw [getElem!_pos _ j q3, q4]
        exact q2
/-- an argument that is one cell -/
theorem Opn.one {c : α → AV} {ok : α → Prop} {v : Value} {d : DataW H} {p : List MemPlace} (he : Opn enc P w t (fun a => [c a]) ok) (hv : v.cells = #[v]) (h : DataW.Trod enc P w 0 (fun _ => true) true t v d p) : ∃ a, ok a ∧ Rel anyB w (c a) v := by
  obtain ⟨fuel, hf⟩ := h
  rw [hv] at hf
  obtain ⟨a, h1, h2⟩ := he _ _ _ _ hf
  exact ⟨a, h1, h2.2 0 _ _ rfl rfl⟩
/-- an argument that is a struct -/
theorem Opn.agg {c : α → List AV} {ok : α → Prop} {v : Value} {cs : Array Value} {d : DataW H} {p : List MemPlace} (he : Opn enc P w t c ok) (hv : v = .agg cs) (h : DataW.Trod enc P w 0 (fun _ => true) true t v d p) : ∃ a, ok a ∧ Rel anyB w (.agg (c a)) v := by
  obtain ⟨fuel, hf⟩ := h
  subst hv
  obtain ⟨l⟩ := cs
  obtain ⟨a, h1, h2⟩ := he _ _ _ _ hf
  exact ⟨a, h1, Rel.aggL h2⟩
end
theorem FnY.law [L : UniL] {P : Program} {f : FuncId} {args : List AV} {x : Out} (h : FnY P f args [] 0 x) (hx : x = ⟨.b true, [], 0⟩) (ha : args.all (cloB 2) = true) : Iv.Fn P f args [] (fun a s => a = .b true ∧ s = []) := by
  subst hx
  have h1 := h ⟨fun _ => undef, fun _ => 0⟩
  have : args.map (AVq.sub ⟨fun _ => undef, fun _ => 0⟩) = args.map id := List.map_congr_left fun c hcm => cloB_sub 2 (List.all_eq_true.1 ha c hcm)
  rw [this, List.map_id] at h1
  exact h1.mono fun a s ⟨ρ', _, e1, e2⟩ => ⟨by rw [e1]; exact cloB_sub 2 rfl, List.Perm.eq_nil e2⟩
end Go.Iv
end
section
set_option linter.unusedSectionVars false
set_option linter.unusedVariables false
set_option linter.unusedSimpArgs false
set_option maxRecDepth 100000
namespace Go.Proofs.Ytfipaakafcjjhaa
open Go Go.Iv Go.RowKit Go.Deep Go.ChangeShapes Go.WideShapes Go.Joins
theorem relSplit [U : Uni] {A : Nat → Prop} {w : World} {xs bs : List AV} {us : List Value} {n : Nat} (h : RelL A w xs (us.take n)) (h' : RelL A w bs (us.drop n)) : RelL A w (xs ++ bs) us := by
  have := h.app h'
  rwa [List.take_append_drop] at this
section
variable {H : Type} {enc : TypeId × Value → H} {w : World}
def ok5 (n : Int) : Prop := (Lit.int .u8 n).wf = true
theorem og5 : Opn enc Try.prog w 5 (cN .u8) ok5 := Opn.int Try.underlying5
def ok4 (_ : Bool) : Prop := True
theorem og4 : Opn enc Try.prog w 4 cB ok4 := Opn.bool Try.underlying4
def ok44 (l : List Bool) : Prop := l.length ≤ 9223372036854775807 ∧ ∀ a ∈ l, ok4 a
theorem og44 : Opn enc Try.prog w 44 (fun l : List (uni.Dat 4) => [.sl 4 l]) ok44 := Opn.slice (e := 4) (sz := 0) Try.underlying44 (by kernel_rfl) rfl og4
def ok46 (x : GOp) : Prop := ok5 x.fKind ∧ ok5 x.fAt ∧ ok5 x.fFill ∧ ok5 x.fLeft ∧ ok44 x.fKeep ∧ True
theorem og46 : Opn enc Try.prog w 46 (uni.cells 46) ok46 := fun base fuel cs x h => by
  obtain ⟨xs, n, _, rfl, hl, hlen, hf⟩ := DataW.trod_struct Try.underlying46 h
  rw [show Try.prog.cellsOf 46 = 5 from by kernel_rfl] at hl
  have hlen : xs.length = 5 := hlen
  have f0 : DataW.trod enc Try.prog w base (fun _ => true) true n 5 ((cs.drop 0).take (Try.prog.cellsOf 5)) = xs[0]? := hf 0 _ rfl
  rw [show Try.prog.cellsOf 5 = 1 from by kernel_rfl, List.getElem?_eq_getElem (show 0 < xs.length by omega)] at f0
  obtain ⟨a0, k0, r0⟩ := og5 _ _ _ _ f0
  have f1 : DataW.trod enc Try.prog w base (fun _ => true) true n 5 ((cs.drop 1).take (Try.prog.cellsOf 5)) = xs[1]? := hf 1 _ rfl
  rw [show Try.prog.cellsOf 5 = 1 from by kernel_rfl, List.getElem?_eq_getElem (show 1 < xs.length by omega)] at f1
  obtain ⟨a1, k1, r1⟩ := og5 _ _ _ _ f1
  have f2 : DataW.trod enc Try.prog w base (fun _ => true) true n 5 ((cs.drop 2).take (Try.prog.cellsOf 5)) = xs[2]? := hf 2 _ rfl
  rw [show Try.prog.cellsOf 5 = 1 from by kernel_rfl, List.getElem?_eq_getElem (show 2 < xs.length by omega)] at f2
  obtain ⟨a2, k2, r2⟩ := og5 _ _ _ _ f2
  have f3 : DataW.trod enc Try.prog w base (fun _ => true) true n 5 ((cs.drop 3).take (Try.prog.cellsOf 5)) = xs[3]? := hf 3 _ rfl
  rw [show Try.prog.cellsOf 5 = 1 from by kernel_rfl, List.getElem?_eq_getElem (show 3 < xs.length by omega)] at f3
  obtain ⟨a3, k3, r3⟩ := og5 _ _ _ _ f3
  have f4 : DataW.trod enc Try.prog w base (fun _ => true) true n 44 ((cs.drop 4).take (Try.prog.cellsOf 44)) = xs[4]? := hf 4 _ rfl
  rw [show Try.prog.cellsOf 44 = 1 from by kernel_rfl, List.getElem?_eq_getElem (show 4 < xs.length by omega)] at f4
  obtain ⟨a4, k4, r4⟩ := og44 _ _ _ _ f4
  have e : RelL anyB w [] (cs.drop 5) := by rw [List.drop_of_length_le (by omega)]; exact RelL.nil
  have s4 := relSplit (us := cs.drop 4) r4 (by rw [List.drop_drop]; exact e)
  have s3 := relSplit (us := cs.drop 3) r3 (by rw [List.drop_drop]; exact s4)
  have s2 := relSplit (us := cs.drop 2) r2 (by rw [List.drop_drop]; exact s3)
  have s1 := relSplit (us := cs.drop 1) r1 (by rw [List.drop_drop]; exact s2)
  have s0 := relSplit (us := cs.drop 0) r0 (by rw [List.drop_drop]; exact s1)
  exact ⟨⟨a0, a1, a2, a3, a4⟩, ⟨k0, k1, k2, k3, k4, trivial⟩, s0⟩
def ok41 (l : List GOp) : Prop := l.length ≤ 9223372036854775807 ∧ ∀ a ∈ l, ok46 a
theorem og41 : Opn enc Try.prog w 41 (fun l : List (uni.Dat 46) => [.sl 46 l]) ok41 := Opn.slice (e := 46) (sz := 4) Try.underlying41 (by kernel_rfl) rfl og46
end
end Go.Proofs.Ytfipaakafcjjhaa
end
section
set_option linter.unusedSectionVars false
set_option linter.unusedVariables false
set_option linter.unusedSimpArgs false
namespace Go.Proofs.Ytfipaakafcjjhaa
open Go Go.Iv
theorem u8_le {n : Int} (h : ok5 n) : 0 ≤ n ∧ n < 256 := by
  unfold ok5 at h
  simp only [Lit.wf, Bool.and_eq_true, decide_eq_true_eq] at h
  have e1 : IntKind.u8.min = 0 := rfl
  have e2 : IntKind.u8.max = 255 := rfl
  omega
theorem o6_eq : o6 true = ⟨.b true, [], 0⟩ := by kernel_rfl
theorem claw6 (l : List GOp) (h : ok41 l) : Iv.Fn Try.prog 6 [.sl 46 l] [] (fun a s => a = .b true ∧ s = []) :=
  (fn6 l true (law6 l fun o ho => ⟨u8_le (h.2 o ho).1, u8_le (h.2 o ho).2.1, u8_le (h.2 o ho).2.2.1, u8_le (h.2 o ho).2.2.2.1⟩)).2.law o6_eq (by kernel_rfl)
end Go.Proofs.Ytfipaakafcjjhaa
end
