/- The laws' functions. -/
import Derived.Test.YtgdahkddhecloaaLa
import Derived.Test.YtgdahkddhecloaaRd
set_option linter.unusedSectionVars false
set_option linter.unusedVariables false
set_option linter.unusedSimpArgs false
set_option maxRecDepth 100000
namespace Go.Proofs.Ytgdahkddhecloaa
open Go Go.Iv
/-! ### 7: keyhole/keyholelaw50.known -/
abbrev E7 : Type := Bool
abbrev P7_e : Type := (Bool × Unit) × (Unit)
noncomputable def rb7_e : St → Option P7_e := stR 0 (slC 0 asB slN) rsN
noncomputable def pb7_e : P7_e → St := stP 0 (fun z => [(0, .b z.1)]) (fun z => [])
noncomputable def mk7_e (z : P7_e) : E7 := z.1.1
noncomputable def pt7_e (x : E7) : St := pb7_e ((x, ()), (()))
noncomputable def rd7_e : St → Option E7 := rdC 0 [] [0] (rdM mk7_e rb7_e)
theorem rb7_e_ok (n : Nat) : RdOk 0 n rb7_e pb7_e := stR_ok (.cons .b .nil) .nil
theorem rd7_e_ok (n : Nat) : RdOk 0 n rd7_e pt7_e := rdC_ok ((rb7_e_ok n).m mk7_e (pat' := pt7_e) fun _ => rfl)
noncomputable def o7 (x : E7) : Out := match (match outOf Try.prog 7 (pt7_e x) with
    | some ds => some (Out.mk (resA ds) (keepR (pt7_e x).R 0 (resA ds)) (pt7_e x).nx)
    | none => none) with
  | some o => o
  | none => ⟨.tup [], [], 0⟩
theorem fnok7 : fnOk Try.prog 7 := ⟨_, Try.func7, by kernel_rfl, by kernel_rfl⟩
def m7 : E7 := true
def Gv7 : Prop := FnY Try.prog 7 [] [] 0 (o7 m7)
noncomputable def e7 (F : Orc) : Orc := orL 7 false pkN (fun g => some m7 : (Unit) → Option E7) o7 F
theorem e7_okv (hv : Gv7) {F : Orc} (h : OrcG Try.prog F) : OrcG Try.prog (e7 F) := orL_g (sc := scU) h scU_ok fnok7 (ca := fun g => []) (.nil : PkN pkN _) (fun b => by kernel_rfl) (fun b => by kernel_rfl) (fun g b hb => by cases hb; exact hv)
theorem e7_pure {F : Orc} {f : Nat} (h : PureF F f) : PureF (e7 F) f := orL_pure h (fun b => by kernel_rfl)

theorem o7_eq : o7 m7 = ⟨.b true, [], 0⟩ := by kernel_rfl
theorem gv7 : Gv7 := by
  unfold Gv7
  rw [o7_eq]
  exact fy7
/-! ### 3: keyhole/keyholelaw50.LedgerRecords -/
noncomputable def F3 : Orc := (e13 (e13 (e13 (e12 (e11 (e10 (e10 (e10 (e9 (e8 (e7 or0)))))))))))
theorem F3_ok : OrcG Try.prog F3 := (e13_ok (e13_ok (e13_ok (e12_ok (e11_ok (e10_ok (e10_ok (e10_ok (e9_ok (e8_ok (e7_okv gv7 or0_g)))))))))))
abbrev E3 : Type := Bool
abbrev P3_e : Type := (Bool × Unit) × (Unit)
noncomputable def rb3_e : St → Option P3_e := stR 0 (slC 4 asB slN) rsN
noncomputable def pb3_e : P3_e → St := stP 0 (fun z => [(4, .b z.1)]) (fun z => [])
noncomputable def mk3_e (z : P3_e) : E3 := z.1.1
noncomputable def pt3_e (x : E3) : St := pb3_e ((x, ()), (()))
noncomputable def rd3_e : St → Option E3 := rdC 0 [] [4] (rdM mk3_e rb3_e)
theorem rb3_e_ok (n : Nat) : RdOk 0 n rb3_e pb3_e := stR_ok (.cons .b .nil) .nil
theorem rd3_e_ok (n : Nat) : RdOk 0 n rd3_e pt3_e := rdC_ok ((rb3_e_ok n).m mk3_e (pat' := pt3_e) fun _ => rfl)
noncomputable def an3 : An := (.two .no (.two .no (.two .no (.two .no (.two (.two .no (.two (.two (.rb [] 32) .no) .no)) (.two .no (.two .no (.two (.rb [] 4) .no))))))))
theorem pu3  : ∀ f ∈ ([] : List Nat), PureF (F3) f := fun f hf => by
  cases hf
theorem fa3 : FnAn Try.prog (F3) 0 300 3 (an3) := fnAn_of (l := [(.skip, (.rb [] 32)), (.skip, (.rb [] 4))]) Try.func3 (bodyOf_eq (by kernel_rfl)) (by kernel_rfl) fun p hp => by
  simp only [List.mem_cons, List.not_mem_nil, or_false] at hp
  rcases hp with rfl | rfl
  · exact pu3
  · exact pu3
noncomputable def m3 (a0 : Record) (a1 : List Int) : Option E3 :=
  bif bif m7 then false else true then
    some (false)
  else
    bif decide (300 < (↑a1.length : Int)) then
      some (true)
    else
      match m8 a0 with
      | none =>
        none
      | some r1 =>
        match m9 a0 with
        | none =>
          none
        | some r2 =>
          bif bif r2 then false else true then
            match bif bif decide (r1.snd = 1) then false else true then
              some (true)
            else
              some (bif decide ((↑r1.fst.length : Int) = 0) then false else true) with
            | none =>
              none
            | some r3 =>
              bif r3 then
                some (false)
              else
                match m10 a1 with
                | none =>
                  none
                | some r4 =>
                  match m13 a1 with
                  | none =>
                    none
                  | some r5 =>
                    match bif r4.snd == r5.snd then
                      some (bif decide (r4.fst.fEpoch = r5.fst.fEpoch) then bif decide (r4.fst.fSeq = r5.fst.fSeq) then bif decide (r4.fst.fSecret = r5.fst.fSecret) then bif decide (r4.fst.fClient = r5.fst.fClient) then bif decide (r4.fst.fNumber = r5.fst.fNumber) then bif decide (r4.fst.fProgram = r5.fst.fProgram) then bif decide (r4.fst.fPublic = r5.fst.fPublic) then bif decide (r4.fst.fAnswer = r5.fst.fAnswer) then bif decide (r4.fst.fCharge = r5.fst.fCharge) then true else false else false else false else false else false else false else false else false else false)
                    else
                      some (false) with
                    | none =>
                      none
                    | some r6 =>
                      some (r6)
          else
            match m10 r1.fst with
            | none =>
              none
            | some r7 =>
              bif bif decide (r1.snd = 0) then false else true then
                some (false)
              else
                match m12 a0 with
                | none =>
                  none
                | some r8 =>
                  match m11 r1.fst r8 with
                  | none =>
                    none
                  | some r9 =>
                    bif bif r9 then false else true then
                      some (false)
                    else
                      bif bif r7.snd then false else true then
                        some (false)
                      else
                        bif bif bif decide (r7.fst.fEpoch = a0.fEpoch) then bif decide (r7.fst.fSeq = a0.fSeq) then bif decide (r7.fst.fSecret = a0.fSecret) then bif decide (r7.fst.fClient = a0.fClient) then bif decide (r7.fst.fNumber = a0.fNumber) then bif decide (r7.fst.fProgram = a0.fProgram) then bif decide (r7.fst.fPublic = a0.fPublic) then bif decide (r7.fst.fAnswer = a0.fAnswer) then bif decide (r7.fst.fCharge = a0.fCharge) then true else false else false else false else false else false else false else false else false else false then false else true then
                          some (false)
                        else
                          match m10 a1 with
                          | none =>
                            none
                          | some r10 =>
                            match m13 a1 with
                            | none =>
                              none
                            | some r11 =>
                              match bif r10.snd == r11.snd then
                                some (bif decide (r10.fst.fEpoch = r11.fst.fEpoch) then bif decide (r10.fst.fSeq = r11.fst.fSeq) then bif decide (r10.fst.fSecret = r11.fst.fSecret) then bif decide (r10.fst.fClient = r11.fst.fClient) then bif decide (r10.fst.fNumber = r11.fst.fNumber) then bif decide (r10.fst.fProgram = r11.fst.fProgram) then bif decide (r10.fst.fPublic = r11.fst.fPublic) then bif decide (r10.fst.fAnswer = r11.fst.fAnswer) then bif decide (r10.fst.fCharge = r11.fst.fCharge) then true else false else false else false else false else false else false else false else false else false)
                              else
                                some (false) with
                              | none =>
                                none
                              | some r12 =>
                                some (r12)
theorem c3 (a0 : Record) (a1 : List Int) : callR Try.prog (F3) 300 (an3) 3 [.agg (uni.cells 23 a0), .sl 5 a1] [] 0 rd3_e = m3 a0 a1 := by kernel_rfl
noncomputable def o3 (x : E3) : Out := match (match outOf Try.prog 3 (pt3_e x) with
    | some ds => some (Out.mk (resA ds) (keepR (pt3_e x).R 0 (resA ds)) (pt3_e x).nx)
    | none => none) with
  | some o => o
  | none => ⟨.tup [], [], 0⟩
theorem fn3 (a0 : Record) (a1 : List Int) (r : E3) (h : m3 a0 a1 = some r) : fnOk Try.prog 3 ∧ FnY Try.prog 3 [.agg (uni.cells 23 a0), .sl 5 a1] [] 0 (o3 r) :=
  fnY_of (p := r) F3_ok (fa3) rd3_e_ok (fun p => by kernel_rfl) (ltd_of (by kernel_rfl)) (rltd_of (by kernel_rfl)) ((c3 a0 a1).trans h)
theorem fnok3 : fnOk Try.prog 3 := ⟨_, Try.func3, by kernel_rfl, by kernel_rfl⟩
noncomputable def e3 (F : Orc) : Orc := orL 3 false (pkC (asGc 23) (pkC (asL 5) pkN)) (fun g => m3 g.1 g.2.1 : (Record × (List Int) × Unit) → Option E3) o3 F
theorem e3_ok {F : Orc} (h : OrcG Try.prog F) : OrcG Try.prog (e3 F) := orL_g (sc := scU) h scU_ok fnok3 (ca := fun g => [.agg (uni.cells 23 g.1), .sl 5 g.2.1]) ((.cons (.g 23) (.cons (.l 5) .nil)) : PkN (pkC (asGc 23) (pkC (asL 5) pkN)) _) (fun b => by kernel_rfl) (fun b => by kernel_rfl) (fun g b hb => (fn3 g.1 g.2.1 b hb).2)
theorem e3_pure {F : Orc} {f : Nat} (h : PureF F f) : PureF (e3 F) f := orL_pure h (fun b => by kernel_rfl)
/-! ### 4: keyhole/keyholelaw50.LedgerHeads -/
noncomputable def F4 : Orc := (e20 (e19 (e18 (e17 (e16 (e15 (e14 (e11 (e7 or0)))))))))
theorem F4_ok : OrcG Try.prog F4 := (e20_ok (e19_ok (e18_ok (e17_ok (e16_ok (e15_ok (e14_ok (e11_ok (e7_okv gv7 or0_g)))))))))
abbrev E4 : Type := Bool
abbrev P4_e : Type := (Bool × Unit) × (Unit)
noncomputable def rb4_e : St → Option P4_e := stR 0 (slC 6 asB slN) rsN
noncomputable def pb4_e : P4_e → St := stP 0 (fun z => [(6, .b z.1)]) (fun z => [])
noncomputable def mk4_e (z : P4_e) : E4 := z.1.1
noncomputable def pt4_e (x : E4) : St := pb4_e ((x, ()), (()))
noncomputable def rd4_e : St → Option E4 := rdC 0 [] [6] (rdM mk4_e rb4_e)
theorem rb4_e_ok (n : Nat) : RdOk 0 n rb4_e pb4_e := stR_ok (.cons .b .nil) .nil
theorem rd4_e_ok (n : Nat) : RdOk 0 n rd4_e pt4_e := rdC_ok ((rb4_e_ok n).m mk4_e (pat' := pt4_e) fun _ => rfl)
noncomputable def an4 : An := (.two .no (.two .no (.two (.two (.rb [19] 29) .no) (.two .no (.two .no (.two .no (.two .no (.two (.two (.rb [19] 51) (.two (.two (.rb [19] 58) .no) .no)) (.two .no (.two .no (.two (.rb [19] 6) .no)))))))))))
theorem pu4  : ∀ f ∈ ([19] : List Nat), PureF (F4) f := fun f hf => by
  simp only [List.mem_cons, List.not_mem_nil, or_false] at hf
  rcases hf with rfl
  · exact (e20_skip (f := 19) rfl (e19_pure (e18_skip (f := 19) rfl (e17_skip (f := 19) rfl (e16_pure (e15_skip (f := 19) rfl (e14_pure (e11_pure (e7_pure or0_pure)))))))))
theorem fa4 : FnAn Try.prog (F4) 0 300 4 (an4) := fnAn_of (l := [(.skip, (.rb [19] 29)), (.skip, (.rb [19] 51)), (.skip, (.rb [19] 58)), (.skip, (.rb [19] 6))]) Try.func4 (bodyOf_eq (by kernel_rfl)) (by kernel_rfl) fun p hp => by
  simp only [List.mem_cons, List.not_mem_nil, or_false] at hp
  rcases hp with rfl | rfl | rfl | rfl
  · exact pu4
  · exact pu4
  · exact pu4
  · exact pu4
noncomputable def m4 (a0 : Head) (a1 : Int) (a2 : List Int) : Option E4 :=
  bif bif m7 then false else true then
    some (false)
  else
    match bif decide (300 < (↑a2.length : Int)) then
      some (true)
    else
      some (decide (40 < (↑a0.fBudgets.length : Int))) with
    | none =>
      none
    | some r1 =>
      bif r1 then
        some (true)
      else
        match m14 a0 with
        | none =>
          none
        | some r2 =>
          bif r2 then
            match m15 a0 a1 with
            | none =>
              none
            | some r3 =>
              match m16 a0 with
              | none =>
                none
              | some r4 =>
                bif bif decide (r4 = 0) then false else true then
                  some (false)
                else
                  match bif decide (a1 < 0) then
                    some (true)
                  else
                    some (decide (2147483647 < a1)) with
                  | none =>
                    none
                  | some r5 =>
                    bif r5 then
                      match bif bif decide (r3.snd = 1) then false else true then
                        some (true)
                      else
                        some (bif decide ((↑r3.fst.length : Int) = 0) then false else true) with
                      | none =>
                        none
                      | some r6 =>
                        bif r6 then
                          some (false)
                        else
                          match m17 a2 with
                          | none =>
                            none
                          | some r7 =>
                            match m20 a2 with
                            | none =>
                              none
                            | some r8 =>
                              match bif r7.snd.snd == r8.snd.snd then
                                bif decide (r7.snd.fst = r8.snd.fst) then
                                  match m19 r7.fst r8.fst with
                                  | none =>
                                    none
                                  | some r9 =>
                                    some (r9)
                                else
                                  some (false)
                              else
                                some (false) with
                              | none =>
                                none
                              | some r10 =>
                                some (r10)
                    else
                      match m17 r3.fst with
                      | none =>
                        none
                      | some r11 =>
                        bif bif decide (r3.snd = 0) then false else true then
                          some (false)
                        else
                          match m18 a0 a1 with
                          | none =>
                            none
                          | some r12 =>
                            match m11 r3.fst r12 with
                            | none =>
                              none
                            | some r13 =>
                              bif bif r13 then false else true then
                                some (false)
                              else
                                bif bif r11.snd.snd then false else true then
                                  some (false)
                                else
                                  bif bif decide (r11.snd.fst = a1) then false else true then
                                    some (false)
                                  else
                                    match m19 r11.fst a0 with
                                    | none =>
                                      none
                                    | some r14 =>
                                      bif bif r14 then false else true then
                                        some (false)
                                      else
                                        match m17 a2 with
                                        | none =>
                                          none
                                        | some r15 =>
                                          match m20 a2 with
                                          | none =>
                                            none
                                          | some r16 =>
                                            match bif r15.snd.snd == r16.snd.snd then
                                              bif decide (r15.snd.fst = r16.snd.fst) then
                                                match m19 r15.fst r16.fst with
                                                | none =>
                                                  none
                                                | some r17 =>
                                                  some (r17)
                                              else
                                                some (false)
                                            else
                                              some (false) with
                                            | none =>
                                              none
                                            | some r18 =>
                                              some (r18)
          else
            match m15 a0 a1 with
            | none =>
              none
            | some r19 =>
              match m16 a0 with
              | none =>
                none
              | some r20 =>
                bif bif decide (r20 = 1) then false else true then
                  some (false)
                else
                  match bif bif decide (r19.snd = 1) then false else true then
                    some (true)
                  else
                    some (bif decide ((↑r19.fst.length : Int) = 0) then false else true) with
                  | none =>
                    none
                  | some r21 =>
                    bif r21 then
                      some (false)
                    else
                      match m17 a2 with
                      | none =>
                        none
                      | some r22 =>
                        match m20 a2 with
                        | none =>
                          none
                        | some r23 =>
                          match bif r22.snd.snd == r23.snd.snd then
                            bif decide (r22.snd.fst = r23.snd.fst) then
                              match m19 r22.fst r23.fst with
                              | none =>
                                none
                              | some r24 =>
                                some (r24)
                            else
                              some (false)
                          else
                            some (false) with
                          | none =>
                            none
                          | some r25 =>
                            some (r25)
theorem c4 (a0 : Head) (a1 : Int) (a2 : List Int) : callR Try.prog (F4) 300 (an4) 4 [.agg (uni.cells 38 a0), .n .i64 a1, .sl 5 a2] [] 0 rd4_e = m4 a0 a1 a2 := by kernel_rfl
noncomputable def o4 (x : E4) : Out := match (match outOf Try.prog 4 (pt4_e x) with
    | some ds => some (Out.mk (resA ds) (keepR (pt4_e x).R 0 (resA ds)) (pt4_e x).nx)
    | none => none) with
  | some o => o
  | none => ⟨.tup [], [], 0⟩
theorem fn4 (a0 : Head) (a1 : Int) (a2 : List Int) (r : E4) (h : m4 a0 a1 a2 = some r) : fnOk Try.prog 4 ∧ FnY Try.prog 4 [.agg (uni.cells 38 a0), .n .i64 a1, .sl 5 a2] [] 0 (o4 r) :=
  fnY_of (p := r) F4_ok (fa4) rd4_e_ok (fun p => by kernel_rfl) (ltd_of (by kernel_rfl)) (rltd_of (by kernel_rfl)) ((c4 a0 a1 a2).trans h)
theorem fnok4 : fnOk Try.prog 4 := ⟨_, Try.func4, by kernel_rfl, by kernel_rfl⟩
noncomputable def e4 (F : Orc) : Orc := orL 4 false (pkC (asGc 38) (pkC (asI .i64) (pkC (asL 5) pkN))) (fun g => m4 g.1 g.2.1 g.2.2.1 : (Head × Int × (List Int) × Unit) → Option E4) o4 F
theorem e4_ok {F : Orc} (h : OrcG Try.prog F) : OrcG Try.prog (e4 F) := orL_g (sc := scU) h scU_ok fnok4 (ca := fun g => [.agg (uni.cells 38 g.1), .n .i64 g.2.1, .sl 5 g.2.2.1]) ((.cons (.g 38) (.cons (.i .i64) (.cons (.l 5) .nil))) : PkN (pkC (asGc 38) (pkC (asI .i64) (pkC (asL 5) pkN))) _) (fun b => by kernel_rfl) (fun b => by kernel_rfl) (fun g b hb => (fn4 g.1 g.2.1 g.2.2.1 b hb).2)
theorem e4_pure {F : Orc} {f : Nat} (h : PureF F f) : PureF (e4 F) f := orL_pure h (fun b => by kernel_rfl)

end Go.Proofs.Ytgdahkddhecloaa
