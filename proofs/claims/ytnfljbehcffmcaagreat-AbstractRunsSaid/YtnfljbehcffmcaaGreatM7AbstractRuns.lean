/- Merged: Hw, Nf1, Nf2, Nf3, Nf4, Hk, Hu, Nf5, Iy1, Iy2, Opd, Qd. -/
import Derived.Test.YtnfljbehcffmcaaGreatM6AbstractRuns
import Derived.Test.YtnfljbehcffmcaaGreatM3AbstractRuns
import Derived.Test.YtnfljbehcffmcaaGreatM2AbstractRuns
import Derived.Test.YtnfljbehcffmcaaGreatM5AbstractRuns
import Derived.Test.YtnfljbehcffmcaaGreatM4AbstractRuns
import Derived.Deep.Slices
import Derived.Lib.SmallJoins
set_option linter.unusedSectionVars false
set_option linter.unusedVariables false
set_option linter.unusedSimpArgs false
noncomputable section
set_option maxRecDepth 100000
namespace Go.Proofs.YtnfljbehcffmcaaGreat
open Go Go.Iv
open Go.IntKind (i64)
def F21:aI:=(e84 (e78 (e43 cL)))
structure xb where
 t2:List aD
 t95:List aN
 (t96 t97:Int)
def SG:Td 0 xb:= .c [] [2,95,96,97] (.r 0 1 (ec 2 (ql 34) (ec 95 (qo 0) (ec 96 (qi .i64) (ec 97 (qi .i64) en)))) (sr 0 131 sn) (fun z=>⟨z.1.1,z.2.1,z.1.2.2.1,z.1.2.2.2.1⟩) (fun x=>((x.t2,(),x.t96,x.t97,()),(x.t95,()))) fun _=>rfl)
def FG(p:xb):Option (Option xb):=
 bif decide (p.t97<p.t96)then if(0:Int)<=p.t97/\p.t97<(↑p.t95.length:Int)then if 131=131/\p.t97.toNat<p.t95.length then match if(0:Int)<=p.t97/\p.t97<(↑p.t2.length:Int)then match OL p.t2[p.t97.toNat]! with|none=>none|some r4=>bif bif r4 then false else true then some (true)else if(0:Int)<=p.t97/\p.t97<(↑p.t2.length:Int)then match qa p.t2[p.t97.toNat]! with|none=>none|some r5=>some (decide (r5=0))else none else none with|none=>none|some r6=>bif r6 then some (none)else if(0:Int)<=p.t97/\p.t97<(↑p.t2.length:Int)then bif decide (p.t2[p.t97.toNat]!.aa<p.t95[p.t97.toNat]!.aa)then some (none)else if(0:Int)<=p.t97/\p.t97<(↑p.t2.length:Int)then bif decide (p.t95[p.t97.toNat]!.af<p.t2[p.t97.toNat]!.af)then some (none)else some (some (xb.mk p.t2 p.t95 p.t96 (i64.wrap (p.t97+1))))else none else none else none else none else some (none)
def aaQ:An:=(.two .no (.two .no (.two (.two .no (.two (.two (.rb [43,84] 115) .no) .no)) .no)))
def Ll:xb->Option xb:=bt (FG)
structure xQ where
 t2:List aD
 (t9 t64:List aN)
 (t65 t66:Int)
 b0:View
def PG:Td 0 xQ:= .c [] [2,4,9,64,65,66] (.r 0 3 (ec 2 (ql 34) (ec 4 (qp 0 0) (ec 9 (qo 1) (ec 64 (qo 2) (ec 65 (qi .i64) (ec 66 (qi .i64) en)))))) (sb 0 29 (lg 29) (sr 1 131 (sr 2 131 sn))) (fun z=>⟨z.1.1,z.2.2.1,z.2.2.2.1,z.1.2.2.2.2.1,z.1.2.2.2.2.2.1,z.2.1⟩) (fun x=>((x.t2,(),(),(),x.t65,x.t66,()),(x.b0,x.t9,x.t64,()))) fun _=>rfl)
def EC(p:xQ):Option (Option xQ):=
 bif decide (p.t66<p.t65)then if(0:Int)<=p.t66/\p.t66<(↑p.t64.length:Int)then if 131=131/\p.t66.toNat<p.t64.length then if(0:Int)<=p.t66/\p.t66<(↑p.b0.aR.length:Int)then bif decide (((p.t2,(),(),(),p.t65,p.t66,()),p.b0,p.t9,p.t64,()).snd.fst.aR[((p.t2,(),(),(),p.t65,p.t66,()),p.b0,p.t9,p.t64,()).fst.snd.snd.snd.snd.snd.fst.toNat]! <((p.t2,(),(),(),p.t65,p.t66,()),p.b0,p.t9,p.t64,()).snd.snd.snd.fst[((p.t2,(),(),(),p.t65,p.t66,()),p.b0,p.t9,p.t64,()).fst.snd.snd.snd.snd.snd.fst.toNat]!.aa)then some (none)else if(0:Int)<=p.t66/\p.t66<(↑p.b0.aR.length:Int)then bif decide (((p.t2,(),(),(),p.t65,p.t66,()),p.b0,p.t9,p.t64,()).snd.snd.snd.fst[((p.t2,(),(),(),p.t65,p.t66,()),p.b0,p.t9,p.t64,()).fst.snd.snd.snd.snd.snd.fst.toNat]!.af<((p.t2,(),(),(),p.t65,p.t66,()),p.b0,p.t9,p.t64,()).snd.fst.aR[((p.t2,(),(),(),p.t65,p.t66,()),p.b0,p.t9,p.t64,()).fst.snd.snd.snd.snd.snd.fst.toNat]!)then some (none)else some (some (xQ.mk p.t2 p.t9 p.t64 p.t65 (i64.wrap (p.t66+1)) p.b0))else none else none else none else none else some (none)
def MO:xQ->Option xQ:=bt (EC)
structure qh where
 t2:List aD
 (t8 t9:List aN)
 t11:Int
 t23:List Int
 (t24 t25:Int)
 t30:List aN
 (t31 t32:Int)
 b0:Flat
 b1:View
def Tz:Td 0 qh:= .c [] [2,3,4,8,9,11,23,24,25,30,31,32] (.r 0 5 (ec 2 (ql 34) (ec 3 (qp 0 0) (ec 4 (qp 1 0) (ec 8 (qo 2) (ec 9 (qo 3) (ec 11 (qi .i64) (ec 23 (qo 4) (ec 24 (qi .i64) (ec 25 (qi .i64) (ec 30 (ql 131) (ec 31 (qi .i64) (ec 32 (qi .i64) en)))))))))))) (sb 0 26 (lg 26) (sb 1 29 (lg 29) (sr 2 131 (sr 3 131 (sr 4 129 sn))))) (fun z=>⟨z.1.1,z.2.2.2.1,z.2.2.2.2.1,z.1.2.2.2.2.2.1,z.2.2.2.2.2.1,z.1.2.2.2.2.2.2.2.1,z.1.2.2.2.2.2.2.2.2.1,z.1.2.2.2.2.2.2.2.2.2.1,z.1.2.2.2.2.2.2.2.2.2.2.1,z.1.2.2.2.2.2.2.2.2.2.2.2.1,z.2.1,z.2.2.1⟩) (fun x=>((x.t2,(),(),(),(),x.t11,(),x.t24,x.t25,x.t30,x.t31,x.t32,()),(x.b0,x.b1,x.t8,x.t9,x.t23,()))) fun _=>rfl)
def MT(p:qh):Option (Option qh):=
 bif decide (p.t32<p.t31)then if(0:Int)<=p.t32/\p.t32<(↑p.t30.length:Int)then match bif decide (p.t30[p.t32.toNat]!.bf=p.t11)then some (decide (p.t11=2))else some (false)with|none=>none|some r3=>bif r3 then if(p.t8++[p.t30[p.t32.toNat]!]).length<=1073741824 then some (some (qh.mk p.t2 (p.t8++[p.t30[p.t32.toNat]!]) p.t9 p.t11 p.t23 p.t24 p.t25 p.t30 p.t31 (i64.wrap (p.t32+1)) p.b0 p.b1))else none else bif decide (p.t30[p.t32.toNat]!.bf=p.t11)then if(p.t9++[p.t30[p.t32.toNat]!]).length<=1073741824 then some (some (qh.mk p.t2 p.t8 (p.t9++[p.t30[p.t32.toNat]!]) p.t11 p.t23 p.t24 p.t25 p.t30 p.t31 (i64.wrap (p.t32+1)) p.b0 p.b1))else none else some (some (qh.mk p.t2 p.t8 p.t9 p.t11 p.t23 p.t24 p.t25 p.t30 p.t31 (i64.wrap (p.t32+1)) p.b0 p.b1))else none else some (none)
def abY:An:=(.two .no (.two .no (.two (.two .no (.two (.rb [43,84] 43) .no)) .no)))
def Fo:qh->Option qh:=bt (MT)
structure xy where
 t2:List aD
 (t8 t9:List aN)
 t23:List Int
 (t24 t25:Int)
 b0:Flat
 b1:View
def Tx:Td 0 xy:= .c [] [2,3,4,8,9,23,24,25] (.t (cl.s 8 [] 131) (.t (cl.s 9 [] 131) (.c [] [2,3,4,8,9,23,24,25] (.r 0 5 (ec 2 (ql 34) (ec 3 (qp 0 0) (ec 4 (qp 1 0) (ec 8 (qo 2) (ec 9 (qo 3) (ec 23 (qo 4) (ec 24 (qi .i64) (ec 25 (qi .i64) en)))))))) (sb 0 26 (lg 26) (sb 1 29 (lg 29) (sr 2 131 (sr 3 131 (sr 4 129 sn))))) (fun z=>⟨z.1.1,z.2.2.2.1,z.2.2.2.2.1,z.2.2.2.2.2.1,z.1.2.2.2.2.2.2.1,z.1.2.2.2.2.2.2.2.1,z.2.1,z.2.2.1⟩) (fun x=>((x.t2,(),(),(),(),(),x.t24,x.t25,()),(x.b0,x.b1,x.t8,x.t9,x.t23,()))) fun _=>rfl))))
def F4(p:xy):Option (Option xy):=
 bif decide (p.t25<p.t24)then if(0:Int)<=p.t25/\p.t25<(↑p.t23.length:Int)then if 129=129/\p.t25.toNat<p.t23.length then match Fo (qh.mk p.t2 p.t8 p.t9 p.t23[p.t25.toNat]! p.t23 p.t24 p.t25 p.b0.ah (↑p.b0.ah.length:Int) (0) p.b0 p.b1)with|none=>none|some r1=>bif decide (r1.t32<r1.t31)then if(0:Int)<=r1.t32/\r1.t32<(↑r1.t30.length:Int)then match bif decide (r1.t30[r1.t32.toNat]!.bf=r1.t11)then some (decide (r1.t11=2))else some (false)with|none=>none|some r2=>bif r2 then if(r1.t8++[r1.t30[r1.t32.toNat]!]).length<=1073741824 then none else none else bif decide (r1.t30[r1.t32.toNat]!.bf=r1.t11)then if(r1.t9++[r1.t30[r1.t32.toNat]!]).length<=1073741824 then none else none else none else none else some (some (xy.mk r1.t2 r1.t8 r1.t9 r1.t23 r1.t24 (i64.wrap (r1.t25+1)) r1.b0 r1.b1))else none else none else some (none)
def aaW:An:=(.two .no (.two .no (.two (.two .no (.two .no (Tz.lp Fo abY))) .no)))
def GH:xy->Option xy:=bt (F4)
abbrev E21:Type:=Int
def d21:Td 0 E21:= .c [] [6] (.r 0 0 (ec 6 (qi .i64) en) sn (fun z=>z.1.1) (fun x=>((x,()),(()))) fun _=>rfl)
theorem akF:∀f∈([43,84]:List Nat),aV (F21) f:=(ax (gj (jC (jz aY))) (ax (gj (jC (jz aY))) aC))
def m21(a0:Flat)(a1:View)(a2:List aD):Option E21:=
 match m78 a0 with|none=>none|some r7=>bif bif decide (r7=0)then false else true then some (r7)else match GH (xy.mk a2 [] [] [1,3,2] (↑3:Int) (0) a0 a1)with|none=>none|some r8=>bif decide (r8.t25<r8.t24)then if(0:Int)<=r8.t25/\r8.t25<(↑r8.t23.length:Int)then if 129=129/\r8.t25.toNat<r8.t23.length then match Fo (qh.mk r8.t2 r8.t8 r8.t9 r8.t23[r8.t25.toNat]! r8.t23 r8.t24 r8.t25 r8.b0.ah (↑r8.b0.ah.length:Int) (0) r8.b0 r8.b1)with|none=>none|some r9=>bif decide (r9.t32<r9.t31)then if(0:Int)<=r9.t32/\r9.t32<(↑r9.t30.length:Int)then match bif decide (r9.t30[r9.t32.toNat]!.bf=r9.t11)then some (decide (r9.t11=2))else some (false)with|none=>none|some r10=>bif r10 then if(r9.t8++[r9.t30[r9.t32.toNat]!]).length<=1073741824 then none else none else bif decide (r9.t30[r9.t32.toNat]!.bf=r9.t11)then if(r9.t9++[r9.t30[r9.t32.toNat]!]).length<=1073741824 then none else none else none else none else none else none else none else bif bif decide ((↑r8.b1.aR.length:Int)=(↑r8.t8.length:Int))then false else true then some (1)else match MO (xQ.mk r8.t2 r8.t9 r8.t8 (↑r8.t8.length:Int) (0) r8.b1)with|none=>none|some r11=>bif decide (r11.t66<r11.t65)then if(0:Int)<=r11.t66/\r11.t66<(↑r11.t64.length:Int)then if 131=131/\r11.t66.toNat<r11.t64.length then if(0:Int)<=r11.t66/\r11.t66<(↑r11.b0.aR.length:Int)then bif decide (((r11.t2,(),(),(),r11.t65,r11.t66,()),r11.b0,r11.t9,r11.t64,()).snd.fst.aR[((r11.t2,(),(),(),r11.t65,r11.t66,()),r11.b0,r11.t9,r11.t64,()).fst.snd.snd.snd.snd.snd.fst.toNat]! <((r11.t2,(),(),(),r11.t65,r11.t66,()),r11.b0,r11.t9,r11.t64,()).snd.snd.snd.fst[((r11.t2,(),(),(),r11.t65,r11.t66,()),r11.b0,r11.t9,r11.t64,()).fst.snd.snd.snd.snd.snd.fst.toNat]!.aa)then some (3)else if(0:Int)<=r11.t66/\r11.t66<(↑r11.b0.aR.length:Int)then bif decide (((r11.t2,(),(),(),r11.t65,r11.t66,()),r11.b0,r11.t9,r11.t64,()).snd.snd.snd.fst[((r11.t2,(),(),(),r11.t65,r11.t66,()),r11.b0,r11.t9,r11.t64,()).fst.snd.snd.snd.snd.snd.fst.toNat]!.af<((r11.t2,(),(),(),r11.t65,r11.t66,()),r11.b0,r11.t9,r11.t64,()).snd.fst.aR[((r11.t2,(),(),(),r11.t65,r11.t66,()),r11.b0,r11.t9,r11.t64,()).fst.snd.snd.snd.snd.snd.fst.toNat]!)then some (3)else none else none else none else none else none else bif bif decide ((↑r11.t2.length:Int)=(↑r11.t9.length:Int))then false else true then some (2)else match Ll (xb.mk r11.t2 r11.t9 (↑r11.t9.length:Int) (0))with|none=>none|some r12=>bif decide (r12.t97<r12.t96)then if(0:Int)<=r12.t97/\r12.t97<(↑r12.t95.length:Int)then if 131=131/\r12.t97.toNat<r12.t95.length then match if(0:Int)<=r12.t97/\r12.t97<(↑r12.t2.length:Int)then match OL r12.t2[r12.t97.toNat]! with|none=>none|some r13=>bif bif r13 then false else true then some (true)else if(0:Int)<=r12.t97/\r12.t97<(↑r12.t2.length:Int)then match qa r12.t2[r12.t97.toNat]! with|none=>none|some r14=>some (decide (r14=0))else none else none with|none=>none|some r15=>bif r15 then some (1)else if(0:Int)<=r12.t97/\r12.t97<(↑r12.t2.length:Int)then bif decide (r12.t2[r12.t97.toNat]!.aa<r12.t95[r12.t97.toNat]!.aa)then some (3)else if(0:Int)<=r12.t97/\r12.t97<(↑r12.t2.length:Int)then bif decide (r12.t95[r12.t97.toNat]!.af<r12.t2[r12.t97.toNat]!.af)then some (3)else none else none else none else none else none else some (0)
def e21:aI->aI:=eL Tryz.prog 21 false (lc (qg 26) (lc (qg 29) (lc (ql 34) ln))) d21 (fun g=>m21 g.1 g.2.1 g.2.2.1)
theorem Sc:EO e21:=fun h=>kL (F:=F21) (an:=(.two .no (.two .no (.two .no (.two (.two .no (Tx.lp GH aaW)) (.two .no (.two (.two .no (PG.lp MO .no)) (.two .no (.two (.two .no (SG.lp Ll aaQ)) .no))))))))) (l:=[(aS Tryz.f21 0,(Tx.lp GH aaW)),(aS Tryz.f21 1,(Tz.lp Fo abY)),(.skip,(.rb [43,84] 43)),(aS Tryz.f21 2,(PG.lp MO .no)),(aS Tryz.f21 3,(SG.lp Ll aaQ)),(.skip,(.rb [43,84] 115))]) Tryz.func21 (qH (Hx (mD aK))) (ax (aO Tx) (ax (aO Tz) (ax akF (ax (aO PG) (ax (aO SG) (ax akF aC)))))) h
theorem Gz:EP e21:=fun h=>kP h
structure qx where
 t2:List aD
 (t11 t12 t13:Int)
 t33:List aN
 (t34 t35:Int)
 b0:View
 (b1 b2:aA)
def RP:Td 0 qx:= .c [] [2,4,6,7,11,12,13,33,34,35] (.t (cl.c 2 0 [] 34) (.c [] [2,4,6,7,11,12,13,33,34,35] (.r 0 4 (ec 2 (ql 34) (ec 4 (qp 0 0) (ec 6 (qp 1 0) (ec 7 (qp 2 0) (ec 11 (qi .i64) (ec 12 (qi .i64) (ec 13 (qi .i64) (ec 33 (ql 131) (ec 34 (qi .i64) (ec 35 (qi .i64) en)))))))))) (sb 0 29 (lg 29) (sb 1 147 (lc qn (lc (qi .i64) (lc (qi .i64) (lc (qi .i64) (lc qn (lc (qi .i64) (lc (qi .i64) (lc (qi .i64) ln)))))))) (sb 2 147 (lc (qo 3) (lc (qi .i64) (lc (qi .i64) (lc (qi .i64) (lc qn (lc (qi .i64) (lc (qi .i64) (lc (qi .i64) ln)))))))) (sr 3 34 sn)))) (fun z=>⟨z.1.1,z.1.2.2.2.2.1,z.1.2.2.2.2.2.1,z.1.2.2.2.2.2.2.1,z.1.2.2.2.2.2.2.2.1,z.1.2.2.2.2.2.2.2.2.1,z.1.2.2.2.2.2.2.2.2.2.1,z.2.1,(aA.mk [] (aD.mk z.2.2.1.2.1 z.2.2.1.2.2.1 z.2.2.1.2.2.2.1) [] (aD.mk z.2.2.1.2.2.2.2.2.1 z.2.2.1.2.2.2.2.2.2.1 z.2.2.1.2.2.2.2.2.2.2.1)),(aA.mk z.2.2.2.2.1 (aD.mk z.2.2.2.1.2.1 z.2.2.2.1.2.2.1 z.2.2.2.1.2.2.2.1) [] (aD.mk z.2.2.2.1.2.2.2.2.2.1 z.2.2.2.1.2.2.2.2.2.2.1 z.2.2.2.1.2.2.2.2.2.2.2.1))⟩) (fun x=>((x.t2,(),(),(),x.t11,x.t12,x.t13,x.t33,x.t34,x.t35,()),(x.b0,((),x.b1.ay.aa,x.b1.ay.af,x.b1.ay.ag,(),x.b1.aB.aa,x.b1.aB.af,x.b1.aB.ag,()),((),x.b2.ay.aa,x.b2.ay.af,x.b2.ay.ag,(),x.b2.aB.aa,x.b2.aB.af,x.b2.aB.ag,()),x.b2.ah,()))) fun _=>rfl)))
def Mp(p:qx):Option (Option qx):=
 bif decide (p.t35<p.t34)then if(0:Int)<=p.t35/\p.t35<(↑p.t33.length:Int)then bif decide (p.t33[p.t35.toNat]!.bf=1)then if(0:Int)<=p.t11/\p.t11<(↑p.t2.length:Int)then if(p.b2.ah++[p.t2[p.t11.toNat]!]).length<=1073741824 then some (some (qx.mk p.t2 (i64.wrap (p.t11+1)) p.t12 p.t13 p.t33 p.t34 (i64.wrap (p.t35+1)) p.b0 (aA.mk [] p.b1.ay [] p.b1.aB) (aA.mk (p.b2.ah++[p.t2[p.t11.toNat]!]) p.b2.ay [] p.b2.aB)))else none else none else bif decide (p.t33[p.t35.toNat]!.bf=3)then if(0:Int)<=p.t12/\p.t12<(↑p.t2.length:Int)then if(p.b2.ah++[p.t2[p.t12.toNat]!]).length<=1073741824 then some (some (qx.mk p.t2 p.t11 (i64.wrap (p.t12+1)) p.t13 p.t33 p.t34 (i64.wrap (p.t35+1)) p.b0 (aA.mk [] p.b1.ay [] p.b1.aB) (aA.mk (p.b2.ah++[p.t2[p.t12.toNat]!]) p.b2.ay [] p.b2.aB)))else none else none else bif decide (p.t33[p.t35.toNat]!.bf=2)then if(0:Int)<=p.t13/\p.t13<(↑p.b0.aR.length:Int)then if(p.b2.ah++[Qb p.b0.aR[p.t13.toNat]!]).length<=1073741824 then some (some (qx.mk p.t2 p.t11 p.t12 (i64.wrap (p.t13+1)) p.t33 p.t34 (i64.wrap (p.t35+1)) p.b0 (aA.mk [] p.b1.ay [] p.b1.aB) (aA.mk (p.b2.ah++[Qb p.b0.aR[p.t13.toNat]!]) p.b2.ay [] p.b2.aB)))else none else none else if(p.b2.ah++[Qb p.t33[p.t35.toNat]!.cW]).length<=1073741824 then some (some (qx.mk p.t2 p.t11 p.t12 p.t13 p.t33 p.t34 (i64.wrap (p.t35+1)) p.b0 (aA.mk [] p.b1.ay [] p.b1.aB) (aA.mk (p.b2.ah++[Qb p.t33[p.t35.toNat]!.cW]) p.b2.ay [] p.b2.aB)))else none else none else some (none)
def KN:qx->Option qx:=bt (Mp)
structure vm where
 t2:List aD
 t8:Int
 t19:List aN
 (t20 t21:Int)
 b0:Flat
 b1:View
 (b2 b3:aA)
def SB:Td 0 vm:= .c [] [2,3,4,6,7,8,19,20,21] (.r 0 4 (ec 2 (ql 34) (ec 3 (qp 0 0) (ec 4 (qp 1 0) (ec 6 (qp 2 0) (ec 7 (qp 3 0) (ec 8 (qi .i64) (ec 19 (ql 131) (ec 20 (qi .i64) (ec 21 (qi .i64) en))))))))) (sb 0 26 (lg 26) (sb 1 29 (lg 29) (sb 2 147 (lc qn (lc (qi .i64) (lc (qi .i64) (lc (qi .i64) (lc qn (lc (qi .i64) (lc (qi .i64) (lc (qi .i64) ln)))))))) (sb 3 147 (lc qn (lc (qi .i64) (lc (qi .i64) (lc (qi .i64) (lc qn (lc (qi .i64) (lc (qi .i64) (lc (qi .i64) ln)))))))) sn)))) (fun z=>⟨z.1.1,z.1.2.2.2.2.2.1,z.1.2.2.2.2.2.2.1,z.1.2.2.2.2.2.2.2.1,z.1.2.2.2.2.2.2.2.2.1,z.2.1,z.2.2.1,(aA.mk [] (aD.mk z.2.2.2.1.2.1 z.2.2.2.1.2.2.1 z.2.2.2.1.2.2.2.1) [] (aD.mk z.2.2.2.1.2.2.2.2.2.1 z.2.2.2.1.2.2.2.2.2.2.1 z.2.2.2.1.2.2.2.2.2.2.2.1)),(aA.mk [] (aD.mk z.2.2.2.2.1.2.1 z.2.2.2.2.1.2.2.1 z.2.2.2.2.1.2.2.2.1) [] (aD.mk z.2.2.2.2.1.2.2.2.2.2.1 z.2.2.2.2.1.2.2.2.2.2.2.1 z.2.2.2.2.1.2.2.2.2.2.2.2.1))⟩) (fun x=>((x.t2,(),(),(),(),x.t8,x.t19,x.t20,x.t21,()),(x.b0,x.b1,((),x.b2.ay.aa,x.b2.ay.af,x.b2.ay.ag,(),x.b2.aB.aa,x.b2.aB.af,x.b2.aB.ag,()),((),x.b3.ay.aa,x.b3.ay.af,x.b3.ay.ag,(),x.b3.aB.aa,x.b3.aB.af,x.b3.aB.ag,()),()))) fun _=>rfl)
def L4(p:vm):Option (Option vm):=
 bif decide (p.t21<p.t20)then if(0:Int)<=p.t21/\p.t21<(↑p.t19.length:Int)then bif decide (p.t19[p.t21.toNat]!.bf=1)then some (some (vm.mk p.t2 (i64.wrap (p.t8+1)) p.t19 p.t20 (i64.wrap (p.t21+1)) p.b0 p.b1 (aA.mk [] p.b2.ay [] p.b2.aB) (aA.mk [] p.b3.ay [] p.b3.aB)))else some (some (vm.mk p.t2 p.t8 p.t19 p.t20 (i64.wrap (p.t21+1)) p.b0 p.b1 (aA.mk [] p.b2.ay [] p.b2.aB) (aA.mk [] p.b3.ay [] p.b3.aB)))else none else some (none)
def LG:vm->Option vm:=bt (L4)
abbrev E85:Type:=aA
def d85:Td 0 E85:= .c [] [6] (.r 0 2 (ec 6 (qp 0 0) en) (sb 0 147 (lc (qo 1) (lc (qi .i64) (lc (qi .i64) (lc (qi .i64) (lc qn (lc (qi .i64) (lc (qi .i64) (lc (qi .i64) ln)))))))) (sr 1 34 sn)) (fun z=>(aA.mk z.2.2.1 (aD.mk z.2.1.2.1 z.2.1.2.2.1 z.2.1.2.2.2.1) [] (aD.mk z.2.1.2.2.2.2.2.1 z.2.1.2.2.2.2.2.2.1 z.2.1.2.2.2.2.2.2.2.1))) (fun x=>(((),()),(((),x.ay.aa,x.ay.af,x.ay.ag,(),x.aB.aa,x.aB.af,x.aB.ag,()),x.ah,()))) fun _=>rfl)
def m85(a0:Flat)(a1:View)(a2:List aD):Option E85:=
 match LG (vm.mk a2 (0) a0.ah (↑a0.ah.length:Int) (0) a0 a1 (aA.mk [] (aD.mk (0) (0) (0)) [] (aD.mk (0) (0) (0))) (aA.mk [] (aD.mk (0) (0) (0)) [] (aD.mk (0) (0) (0))))with|none=>none|some r1=>bif decide (r1.t21<r1.t20)then if(0:Int)<=r1.t21/\r1.t21<(↑r1.t19.length:Int)then bif decide (r1.t19[r1.t21.toNat]!.bf=1)then none else none else none else match KN (qx.mk r1.t2 (0) r1.t8 (0) r1.b0.ah (↑r1.b0.ah.length:Int) (0) r1.b1 (aA.mk [] r1.b2.ay [] r1.b2.aB) (aA.mk [] r1.b3.ay [] r1.b3.aB))with|none=>none|some r2=>bif decide (r2.t35<r2.t34)then if(0:Int)<=r2.t35/\r2.t35<(↑r2.t33.length:Int)then bif decide (r2.t33[r2.t35.toNat]!.bf=1)then if(0:Int)<=r2.t11/\r2.t11<(↑r2.t2.length:Int)then if(r2.b2.ah++[r2.t2[r2.t11.toNat]!]).length<=1073741824 then none else none else none else bif decide (r2.t33[r2.t35.toNat]!.bf=3)then if(0:Int)<=r2.t12/\r2.t12<(↑r2.t2.length:Int)then if(r2.b2.ah++[r2.t2[r2.t12.toNat]!]).length<=1073741824 then none else none else none else bif decide (r2.t33[r2.t35.toNat]!.bf=2)then if(0:Int)<=r2.t13/\r2.t13<(↑r2.b0.aR.length:Int)then if(r2.b2.ah++[Qb r2.b0.aR[r2.t13.toNat]!]).length<=1073741824 then none else none else none else if(r2.b2.ah++[Qb r2.t33[r2.t35.toNat]!.cW]).length<=1073741824 then none else none else none else some (aA.mk r2.b2.ah r2.b2.ay [] r2.b2.aB)
def e85:aI->aI:=eL Tryz.prog 85 false (lc (qg 26) (lc (qg 29) (lc (ql 34) ln))) d85 (fun g=>m85 g.1 g.2.1 g.2.2.1)
theorem afT:EO e85:=fun h=>kL (an:=(.two .no (.two .no (.two .no (.two (.two .no (SB.lp LG .no)) (.two .no (.two (.two .no (RP.lp KN .no)) .no))))))) (l:=[(aS Tryz.f85 0,(SB.lp LG .no)),(aS Tryz.f85 1,(RP.lp KN .no))]) Tryz.func85 (DY aK) (ax (aO SB) (ax (aO RP) aC)) h
def F23:aI:=(e88 (e87 (e86 (e85 (e36 cL)))))
theorem ado:aZ Tryz.prog F23:=(ac9 (Io (Ic (afT (DY aK)))))
structure y4 where
 t8:List aD
 t18:List cy
 (t19 t20:Int)
 b0:Flat
 b1:View
 b2:Abstract
 b3:aA
def P8:Td 0 y4:= .c [] [3,4,6,7,8,18,19,20] (.t (cl.s 8 [] 34) (.c [] [3,4,6,7,8,18,19,20] (.r 0 6 (ec 3 (qp 0 0) (ec 4 (qp 1 0) (ec 6 (qp 2 0) (ec 7 (qp 3 0) (ec 8 (qo 4) (ec 18 (ql 139) (ec 19 (qi .i64) (ec 20 (qi .i64) en)))))))) (sb 0 26 (lg 26) (sb 1 29 (lg 29) (sb 2 36 (lc (qi .i64) (lc (qi .i64) (lc (qi .i64) (lc qn (lc (qi .i64) (lc (qi .i64) (lc (qi .i64) (lc qn ln)))))))) (sb 3 147 (lc (qo 5) (lc (qi .i64) (lc (qi .i64) (lc (qi .i64) (lc qn (lc (qi .i64) (lc (qi .i64) (lc (qi .i64) ln)))))))) (sr 4 34 (sr 5 34 sn)))))) (fun z=>⟨z.2.2.2.2.2.1,z.1.2.2.2.2.2.1,z.1.2.2.2.2.2.2.1,z.1.2.2.2.2.2.2.2.1,z.2.1,z.2.2.1,(Abstract.mk (aD.mk z.2.2.2.1.1 z.2.2.2.1.2.1 z.2.2.2.1.2.2.1) [] (aD.mk z.2.2.2.1.2.2.2.2.1 z.2.2.2.1.2.2.2.2.2.1 z.2.2.2.1.2.2.2.2.2.2.1) []),(aA.mk z.2.2.2.2.2.2.1 (aD.mk z.2.2.2.2.1.2.1 z.2.2.2.2.1.2.2.1 z.2.2.2.2.1.2.2.2.1) [] (aD.mk z.2.2.2.2.1.2.2.2.2.2.1 z.2.2.2.2.1.2.2.2.2.2.2.1 z.2.2.2.2.1.2.2.2.2.2.2.2.1))⟩) (fun x=>(((),(),(),(),(),x.t18,x.t19,x.t20,()),(x.b0,x.b1,(x.b2.ay.aa,x.b2.ay.af,x.b2.ay.ag,(),x.b2.aB.aa,x.b2.aB.af,x.b2.aB.ag,(),()),((),x.b3.ay.aa,x.b3.ay.af,x.b3.ay.ag,(),x.b3.aB.aa,x.b3.aB.af,x.b3.aB.ag,()),x.t8,x.b3.ah,()))) fun _=>rfl)))
def MD(p:y4):Option (Option y4):=
 bif decide (p.t20<p.t19)then if(0:Int)<=p.t20/\p.t20<(↑p.t18.length:Int)then match GZ (aA.mk p.b3.ah p.b3.ay [] p.b3.aB) (aq.mk p.t18[p.t20.toNat]!.au.aW p.t18[p.t20.toNat]!.au.fN p.t18[p.t20.toNat]!.au.aj)with|none=>none|some r1=>match TB r1 p.t18[p.t20.toNat]!.aa p.t18[p.t20.toNat]!.af with|none=>none|some r2=>if(p.t8++[r2.fst]).length<=1073741824 then some (some (y4.mk (p.t8++[r2.fst]) p.t18 p.t19 (i64.wrap (p.t20+1)) p.b0 p.b1 (Abstract.mk p.b2.ay [] p.b2.aB []) (aA.mk p.b3.ah p.b3.ay [] p.b3.aB)))else none else none else some (none)
def GS:y4->Option y4:=bt (MD)
abbrev E23:Type:=Abstract
def d23:Td 0 E23:= .c [] [6] (.r 0 1 (ec 6 (qp 0 0) en) (sb 0 36 (lg 36) sn) (fun z=>z.2.1) (fun x=>(((),()),(x,()))) fun _=>rfl)
def A23:=(lc (qg 26) (lc (qg 29) (lc (ql 34) ln)))
def alo:An:=(.two .no (.two .no (.two .no (.two (.two .no (P8.lp GS .no)) .no))))
theorem apB:eC Tryz.prog (F23) 0 300 23 (alo):=bT (l:=[(aS Tryz.f23 0,(P8.lp GS .no))]) Tryz.func23 (bA (by kernel_rfl)) (by kernel_rfl) (ax (aO P8) aC)
def m23(a0:Flat)(a1:View)(a2:List aD):Option E23:=
 match m85 a0 a1 a2 with|none=>none|some r3=>match GS (y4.mk [] a0.ai (↑a0.ai.length:Int) (0) a0 a1 (Abstract.mk (aD.mk (0) (0) (0)) [] (aD.mk (0) (0) (0)) []) (aA.mk r3.ah r3.ay [] r3.aB))with|none=>none|some r4=>bif decide (r4.t20<r4.t19)then if(0:Int)<=r4.t20/\r4.t20<(↑r4.t18.length:Int)then match GZ (aA.mk r4.b3.ah r4.b3.ay [] r4.b3.aB) (aq.mk r4.t18[r4.t20.toNat]!.au.aW r4.t18[r4.t20.toNat]!.au.fN r4.t18[r4.t20.toNat]!.au.aj)with|none=>none|some r5=>match TB r5 r4.t18[r4.t20.toNat]!.aa r4.t18[r4.t20.toNat]!.af with|none=>none|some r6=>if(r4.t8++[r6.fst]).length<=1073741824 then none else none else none else match r88 r4.b0 r4.t8 r4.b0.bw (aA.mk r4.b3.ah r4.b3.ay [] r4.b3.aB)with|none=>none|some r7=>bif bif r4.b1.rR then false else true then some (Abstract.mk r7.ay r7.az (Qb (0)) r7.ah)else some (Abstract.mk r7.ay r7.az r7.aB r7.ah)
theorem c23(a0:Flat)(a1:View)(a2:List aD):bK Tryz.prog (F23) 300 (alo) 23 (A23.c (a0,a1,a2,())) [] 0 d23.rd=m23 a0 a1 a2:=by kernel_rfl
def e23:aI->aI:=eZ Tryz.prog 23 A23 d23 (fun g=>m23 g.1 g.2.1 g.2.2.1)
theorem HM{F:aI}(h:aZ Tryz.prog F):aZ Tryz.prog (e23 F):=nC (dx ado apB (fun _=>by kernel_rfl) (fun _=>by kernel_rfl) fun g=>c23 g.1 g.2.1 g.2.2.1) ⟨_,Tryz.func23,by kernel_rfl,by kernel_rfl⟩ (fun _=>by kernel_rfl) h
theorem PD{F:aI}{f:Nat}(hne:Nat.beq f 23=false)(h:aV F f):aV (e23 F) f:=FC hne h
def F37:aI:=(e43 (e23 cL))
structure zx where
 t10:Bool
 t32:List aD
 (t33 t34:Int)
 (b0 b1:bh)
def R3:Td 0 zx:= .c [] [6,9,10,32,33,34] (.t (cl.c 1 0 [] 3) (.c [] [6,9,10,32,33,34] (.r 0 3 (ec 6 (qp 0 0) (ec 9 (qp 1 0) (ec 10 qb (ec 32 (ql 34) (ec 33 (qi .i64) (ec 34 (qi .i64) en)))))) (sb 0 47 (lc qn (lc (qi .i64) ln)) (sb 1 47 (lc (qo 2) (lc (qi .i64) ln)) (sr 2 3 sn))) (fun z=>⟨z.1.2.2.1,z.1.2.2.2.1,z.1.2.2.2.2.1,z.1.2.2.2.2.2.1,(bh.mk [] z.2.1.2.1),(bh.mk z.2.2.2.1 z.2.2.1.2.1)⟩) (fun x=>(((),(),x.t10,x.t32,x.t33,x.t34,()),(((),x.b0.aB,()),((),x.b1.aB,()),x.b1.bF,()))) fun _=>rfl)))
def ajn(p:zx):Option (Option zx):=
 bif decide (p.t34<p.t33)then if(0:Int)<=p.t34/\p.t34<(↑p.t32.length:Int)then match bif p.t10 then match qa p.t32[p.t34.toNat]! with|none=>none|some r1=>some (decide (r1=1))else some (false)with|none=>none|some r2=>if(p.b1.bF++[p.t32[p.t34.toNat]!.aa]).length<=1073741824 then some (some (zx.mk r2 p.t32 p.t33 (i64.wrap (p.t34+1)) (bh.mk [] p.b0.aB) (bh.mk (p.b1.bF++[p.t32[p.t34.toNat]!.aa]) p.b1.aB)))else none else none else some (none)
def abT:An:=(.two .no (.two .no (.two (.two .no (.two (.rb [43] 10) .no)) .no)))
def Pp:zx->Option zx:=bt (ajn)
abbrev E37:Type:=bh×Bool
def d37:Td 0 E37:= .c [] [6,7] (.t (cl.c 0 0 [] 3) (.c [] [6,7] (.r 0 2 (ec 6 (qp 0 0) (ec 7 qb en)) (sb 0 47 (lc (qo 1) (lc (qi .i64) ln)) (sr 1 3 sn)) (fun z=>((bh.mk z.2.2.1 z.2.1.2.1),z.1.2.1)) (fun x=>(((),x.2,()),(((),x.1.aB,()),x.1.bF,()))) fun _=>rfl)))
theorem akm:∀f∈([43]:List Nat),aV (F37) f:=(ax (jz (PD (f:=43) rfl aY)) aC)
def m37(a0:Flat)(a1:View)(a2:List aD):Option E37:=
 match m23 a0 a1 a2 with|none=>none|some r3=>match match qa r3.ay with|none=>none|some r4=>bif decide (r4=1)then match qa r3.aB with|none=>none|some r5=>some (decide (r5=1))else some (false)with|none=>none|some r6=>match Pp (zx.mk r6 r3.az (↑r3.az.length:Int) (0) (bh.mk [] (0)) (bh.mk [] r3.aB.aa))with|none=>none|some r7=>bif decide (r7.t34<r7.t33)then if(0:Int)<=r7.t34/\r7.t34<(↑r7.t32.length:Int)then match bif r7.t10 then match qa r7.t32[r7.t34.toNat]! with|none=>none|some r8=>some (decide (r8=1))else some (false)with|none=>none|some r9=>if(r7.b1.bF++[r7.t32[r7.t34.toNat]!.aa]).length<=1073741824 then none else none else none else bif bif r7.t10 then false else true then some ((bh.mk [] (0),false))else some ((r7.b1,true))
def e37:aI->aI:=eL Tryz.prog 37 false (lc (qg 26) (lc (qg 29) (lc (ql 34) ln))) d37 (fun g=>m37 g.1 g.2.1 g.2.2.1)
theorem afN:EO e37:=fun h=>kL (F:=F37) (an:=(.two .no (.two .no (.two .no (.two (.rb [43] 10) (.two (.two .no (R3.lp Pp abT)) .no)))))) (l:=[(.skip,(.rb [43] 10)),(aS Tryz.f37 0,(R3.lp Pp abT)),(.skip,(.rb [43] 10))]) Tryz.func37 (mD (HM aK)) (ax akm (ax (aO R3) (ax akm aC))) h
theorem Gu{F:aI}{f:Nat}(hne:Nat.beq f 37=false)(h:aV F f):aV (e37 F) f:=Fp hne h
structure rF where
 t3:Int
 t6:List aD
 (t7 t8:Int)
def Hf:Td 0 rF:= .c [] [3,6,7,8] (.r 0 0 (ec 3 (qi .i64) (ec 6 (ql 34) (ec 7 (qi .i64) (ec 8 (qi .i64) en)))) sn (fun z=>⟨z.1.1,z.1.2.1,z.1.2.2.1,z.1.2.2.2.1⟩) (fun x=>((x.t3,x.t6,x.t7,x.t8,()),(()))) fun _=>rfl)
def aej(p:rF):Option (Option rF):=
 bif decide (p.t8<p.t7)then if(0:Int)<=p.t8/\p.t8<(↑p.t6.length:Int)then match qa p.t6[p.t8.toNat]! with|none=>none|some r1=>some (some (rF.mk (i64.wrap (p.t3*r1)) p.t6 p.t7 (i64.wrap (p.t8+1))))else none else some (none)
def Ji:rF->Option rF:=bt (aej)
abbrev ang:Type:=Int
def d100:Td 0 ang:= .c [] [2] (.r 0 0 (ec 2 (qi .i64) en) sn (fun z=>z.1.1) (fun x=>((x,()),(()))) fun _=>rfl)
def amC(a0:List aD):Option ang:=
 match Ji (rF.mk (1) a0 (↑a0.length:Int) (0))with|none=>none|some r2=>bif decide (r2.t8<r2.t7)then if(0:Int)<=r2.t8/\r2.t8<(↑r2.t6.length:Int)then match qa r2.t6[r2.t8.toNat]! with|none=>none|some r3=>none else none else some (r2.t3)
def aqh:aI->aI:=eL Tryz.prog 100 false (lc (ql 34) ln) d100 (fun g=>amC g.1)
theorem Xc:EO aqh:=fun h=>kL (an:=(.two .no (.two .no (.two (.two .no (Hf.lp Ji .no)) .no)))) (l:=[(aS Tryz.f100 0,(Hf.lp Ji .no))]) Tryz.func100 (mD aK) (ax (aO Hf) aC) h
structure qe where
 (t8 t9 t10 t11:Int)
 b0:Abstract
def Sr:Td 0 qe:= .c [] [7,8,9,10,11] (.r 0 1 (ec 7 (qp 0 0) (ec 8 (qi .i64) (ec 9 (qi .i64) (ec 10 (qi .i64) (ec 11 (qi .i64) en))))) (sb 0 36 (lg 36) sn) (fun z=>⟨z.1.2.1,z.1.2.2.1,z.1.2.2.2.1,z.1.2.2.2.2.1,z.2.1⟩) (fun x=>(((),x.t8,x.t9,x.t10,x.t11,()),(x.b0,()))) fun _=>rfl)
def ajW(p:qe):Option (Option qe):=
 bif decide (p.t11<=(↑p.b0.az.length:Int))then match m32 p.b0.ay p.t11 with|none=>none|some r1=>bif r1 then bif decide (p.t11<(↑p.b0.az.length:Int))then if(0:Int)<=p.t11/\p.t11<(↑p.b0.az.length:Int)then match qa p.b0.az[p.t11.toNat]! with|none=>none|some r2=>some (some (qe.mk p.t8 (if p.t8<i64.wrap (p.t9+p.t10)then p.t8 else i64.wrap (p.t9+p.t10)) (if p.t8<i64.wrap (p.t10*if p.t8<r2 then p.t8 else r2)then p.t8 else i64.wrap (p.t10*if p.t8<r2 then p.t8 else r2)) (i64.wrap (p.t11+1)) p.b0))else none else some (some (qe.mk p.t8 (if p.t8<i64.wrap (p.t9+p.t10)then p.t8 else i64.wrap (p.t9+p.t10)) p.t10 (i64.wrap (p.t11+1)) p.b0))else bif decide (p.t11<(↑p.b0.az.length:Int))then if(0:Int)<=p.t11/\p.t11<(↑p.b0.az.length:Int)then match qa p.b0.az[p.t11.toNat]! with|none=>none|some r3=>some (some (qe.mk p.t8 p.t9 (if p.t8<i64.wrap (p.t10*if p.t8<r3 then p.t8 else r3)then p.t8 else i64.wrap (p.t10*if p.t8<r3 then p.t8 else r3)) (i64.wrap (p.t11+1)) p.b0))else none else some (some (qe.mk p.t8 p.t9 p.t10 (i64.wrap (p.t11+1)) p.b0))else some (none)
def Qy:qe->Option qe:=bt (ajW)
abbrev E38:Type:=Int
def d38:Td 0 E38:= .c [] [6] (.r 0 0 (ec 6 (qi .i64) en) sn (fun z=>z.1.1) (fun x=>((x,()),(()))) fun _=>rfl)
def m38(a0:Flat)(a1:View)(a2:List aD):Option E38:=
 match m23 a0 a1 a2 with|none=>none|some r4=>match amC a2 with|none=>none|some r5=>match qa r4.aB with|none=>none|some r6=>match Qy (qe.mk (if 1099511627776<r5 then 1099511627776 else r5) (0) (if(if 1099511627776<r5 then 1099511627776 else r5)<r6 then if 1099511627776<r5 then 1099511627776 else r5 else r6) (0) r4)with|none=>none|some r7=>bif decide (r7.t11<=(↑r7.b0.az.length:Int))then match m32 r7.b0.ay r7.t11 with|none=>none|some r8=>bif r8 then bif decide (r7.t11<(↑r7.b0.az.length:Int))then if(0:Int)<=r7.t11/\r7.t11<(↑r7.b0.az.length:Int)then match qa r7.b0.az[r7.t11.toNat]! with|none=>none|some r9=>none else none else none else bif decide (r7.t11<(↑r7.b0.az.length:Int))then if(0:Int)<=r7.t11/\r7.t11<(↑r7.b0.az.length:Int)then match qa r7.b0.az[r7.t11.toNat]! with|none=>none|some r10=>none else none else none else some (r7.t9)
def e38:aI->aI:=eL Tryz.prog 38 false (lc (qg 26) (lc (qg 29) (lc (ql 34) ln))) d38 (fun g=>m38 g.1 g.2.1 g.2.2.1)
theorem afv:EO e38:=fun h=>kL (an:=(.two .no (.two .no (.two .no (.two .no (.two .no (.two (.two .no (Sr.lp Qy .no)) .no))))))) (l:=[(aS Tryz.f38 0,(Sr.lp Qy .no))]) Tryz.func38 (Xc (mD (yu (HM aK)))) (ax (aO Sr) aC) h
theorem FO:EP e38:=fun h=>kP h
end Go.Proofs.YtnfljbehcffmcaaGreat
end
noncomputable section
namespace Go.Proofs.YtnfljbehcffmcaaGreat
open Go Go.Iv
open Go.IntKind (i64)
def SV(a:aD):Int:=open Classical in if NV a then cA a else 0
theorem KU(a:aD):DX a=some (SV a):=by
 unfold SV
 by_cases h:NV a
 ·rw[if_pos h,ae9 h]
 ·rw[if_neg h,XU h]
theorem Lj(a:aD):qa a=some (SV a):=by
 unfold SV
 by_cases h:NV a
 ·rw[if_pos h,eR h]
 ·rw[if_neg h,Zo h]
def jc(pub:List Int)(i:Nat)(x:aN):Int:=bif decide (pub[i]! <x.aa)then 3 else bif decide (x.af<pub[i]!)then 3 else 0
def mX(box:List aD)(i:Nat)(x:aN):Int:=bif bif M4 box[i]! then false else true then 1 else bif decide (@Eq Int (SV box[i]!) 0)then 1 else bif decide (box[i]!.aa<x.aa)then 3 else bif decide (x.af<box[i]!.af)then 3 else 0
def gh(vars:List aN):List aN:=vars.filter (kd 1)++vars.filter (kd 3)
def zK(f:Flat)(v:View)(box:List aD):Int:=
 if xq f≠0 then xq f else if v.aR.length≠(f.ah.filter (kd 2)).length then 1 else if bW (jc v.aR) (f.ah.filter (kd 2)) 0≠0 then bW (jc v.aR) (f.ah.filter (kd 2)) 0
 else if box.length≠(gh f.ah).length then 2 else bW (mX box) (gh f.ah) 0
theorem vb{vars:List aN}{i:Nat}(h:i<vars.length)(k:Int):(vars.take (i+1)).filter (kd k)=(vars.take i).filter (kd k)++(if vars[i]!.bf=k then[vars[i]!]else[]):=by
 rw[bE h,List.filter_append]
 by_cases hk:vars[i]!.bf=k
 ·rw[if_pos hk];simp only[List.filter_cons,List.filter_nil,kd,hk,decide_true,if_true]
 ·rw[if_neg hk];simp only[List.filter_cons,List.filter_nil,kd,hk,decide_false,Bool.false_eq_true,if_false]
theorem yE{vars:List aN}(k:Int)(i:Nat):((vars.take i).filter (kd k)).length<=i:=iH vars k i
theorem Qf(f:Flat)(hl:f.ah.length<=1000000)(v:View)(box:List aD):KG ⟨box,[],f.ah,(f.ah.length:Int),0,f,v⟩=some ⟨box,f.ah.filter (kd 2),f.ah,(f.ah.length:Int),(f.ah.length:Int),f,v⟩:=by
 obtain⟨b,e1,hI⟩:=cK (rnd:=K6) f.ah.length (fun i (b:List aN)=>⟨box,b,f.ah,(f.ah.length:Int),(i:Int),f,v⟩) (fun i b=>b=(f.ah.take i).filter (kd 2)) (fun i b hi hb=>by
  have hw:=fh hi hl
  have i1:(i:Int)<(f.ah.length:Int):=by omega
  have i2:(0:Int)<=(i:Int):=by omega
  have hlen:b.length<=i:=by rw[hb];exact yE 2 i
  have hl2:∀x:aN,(b++[x]).length<=1073741824:=fun x=>by simp;omega
  refine⟨_,?_,rfl⟩
  rw[vb hi,<-hb]
  unfold K6
  by_cases hk:f.ah[i]!.bf=2
  ·simp only[Int.toNat_natCast,i1,i2,hk,hl2,hw,decide_true,cond_true,and_self,if_true]
  ·simp only[Int.toNat_natCast,i1,i2,hk,hw,decide_true,decide_false,cond_true,cond_false,and_self,if_true,if_false,List.append_nil]) (fun b _=>by unfold K6;simp) (b:=[]) (by simp)
 rw[List.take_length]at hI
 rw[<-hI]
 exact e1
theorem Fe(f:Flat)(hl:f.ah.length<=1000000)(v:View)(box:List aD)(t8 acc:List aN)(ha:acc.length<=1000000)(k:Int)(ks:List Int)(n j:Int):
  AT ⟨box,t8,acc,k,ks,n,j,f.ah,(f.ah.length:Int),0,f,v⟩=some ⟨box,t8,acc++f.ah.filter (kd k),k,ks,n,j,f.ah,(f.ah.length:Int),(f.ah.length:Int),f,v⟩:=by
 obtain⟨b,e1,hI⟩:=cK (rnd:=KL) f.ah.length (fun i (b:List aN)=>⟨box,t8,acc++b,k,ks,n,j,f.ah,(f.ah.length:Int),(i:Int),f,v⟩) (fun i b=>b=(f.ah.take i).filter (kd k)) (fun i b hi hb=>by
  have hw:=fh hi hl
  have i1:(i:Int)<(f.ah.length:Int):=by omega
  have i2:(0:Int)<=(i:Int):=by omega
  have hlen:b.length<=i:=by rw[hb];exact yE k i
  have hl2:∀x:aN,(acc++(b++[x])).length<=1073741824:=fun x=>by simp;omega
  refine⟨_,?_,rfl⟩
  rw[vb hi,<-hb]
  unfold KL
  by_cases hk:f.ah[i]!.bf=k
  ·simp only[Int.toNat_natCast,i1,i2,hk,hl2,hw,decide_true,cond_true,and_self,if_true,List.append_assoc]
  ·simp only[Int.toNat_natCast,i1,i2,hk,hw,decide_true,decide_false,cond_true,cond_false,and_self,if_true,if_false,List.append_nil]) (fun b _=>by unfold KL;simp) (b:=[]) (by simp)
 rw[List.take_length]at hI
 have e1':AT ⟨box,t8,acc,k,ks,n,j,f.ah,(f.ah.length:Int),0,f,v⟩=some ⟨box,t8,acc++b,k,ks,n,j,f.ah,(f.ah.length:Int),(f.ah.length:Int),f,v⟩:=by
  have:=e1
  rw[List.append_nil]at this
  exact this
 rw[<-hI]
 exact e1'
theorem Sg(f:Flat)(hl:f.ah.length<=1000)(v:View)(box:List aD)(t8:List aN):
  Gg ⟨box,t8,[],[1,3],2,0,f,v⟩=some ⟨box,t8,gh f.ah,[1,3],2,2,f,v⟩:=by
 have h1:(f.ah.filter (kd 1)).length<=1000:=Nat.le_trans (List.length_filter_le _ _) hl
 have e1:=Fe f (by omega) v box t8 [] (by simp) 1 [1,3] 2 0
 have e2:=Fe f (by omega) v box t8 (f.ah.filter (kd 1)) (by omega) 3 [1,3] 2 1
 rw[List.nil_append]at e1
 have w1:i64.wrap ((0:Int)+1)=1:=by decide
 have w2:i64.wrap ((1:Int)+1)=2:=by decide
 unfold Gg gh
 rw[bD (p':=⟨box,t8,f.ah.filter (kd 1),[1,3],2,1,f,v⟩)]
 ·rw[bD (p':=⟨box,t8,f.ah.filter (kd 1)++f.ah.filter (kd 3),[1,3],2,2,f,v⟩)]
  ·exact bU (fun r=>by unfold Kz;simp)
  ·unfold Kz
   dsimp only
   rw[decide_eq_true (by decide),cond_true,if_pos (by decide),if_pos (by decide)]
   rw[show ([1,3]:List Int)[Int.toNat 1]! =3 from rfl,e2]
   dsimp only
   rw[eF,cond_false,w2]
 ·unfold Kz
  dsimp only
  rw[decide_eq_true (by decide),cond_true,if_pos (by decide),if_pos (by decide)]
  rw[show ([1,3]:List Int)[Int.toNat 0]! =1 from rfl,e1]
  dsimp only
  rw[eF,cond_false,w1]
theorem YE(L:List aN)(hl:L.length<=1000000)(v:View)(hv:v.aR.length=L.length)(box:List aD)(t9:List aN):
  ∃i,LI ⟨box,t9,L,(L.length:Int),0,v⟩=some ⟨box,t9,L,(L.length:Int),(i:Nat),v⟩/\((i=L.length/\bW (jc v.aR) L 0=0)\/(i<L.length/\jc v.aR i L[i]!≠0/\bW (jc v.aR) L 0=jc v.aR i L[i]!)):=
 qy (rnd:=EB) L (fun i=>⟨box,t9,L,(L.length:Int),(i:Nat),v⟩) (jc v.aR) (fun i hi=>by
  have hw:=fh hi hl
  have i1:(i:Int)<(L.length:Int):=by omega
  have i2:(0:Int)<=(i:Int):=by omega
  have i3:(i:Int)<(v.aR.length:Int):=by omega
  have key:EB ⟨box,t9,L,(L.length:Int),(i:Nat),v⟩=if jc v.aR i L[i]! =0 then some (some ⟨box,t9,L,(L.length:Int),((i+1:Nat):Int),v⟩)else some none:=by
   unfold EB jc
   simp only[Int.toNat_natCast,i1,i2,i3,hi,hw,decide_true,cond_true,and_self,if_true]
   cases decide (v.aR[i]! <L[i]!.aa)<;>cases decide (L[i]!.af<v.aR[i]!)<;>simp
  exact⟨fun h=>by rw[key,if_pos h],fun h=>by rw[key,if_neg h]⟩) (by unfold EB;simp)
theorem Vj(L:List aN)(hl:L.length<=1000000)(box:List aD)(hv:box.length=L.length):
  ∃i,MA ⟨box,L,(L.length:Int),0⟩=some ⟨box,L,(L.length:Int),(i:Nat)⟩/\((i=L.length/\bW (mX box) L 0=0)\/(i<L.length/\mX box i L[i]!≠0/\bW (mX box) L 0=mX box i L[i]!)):=
 qy (rnd:=FX) L (fun i=>⟨box,L,(L.length:Int),(i:Nat)⟩) (mX box) (fun i hi=>by
  have hw:=fh hi hl
  have i1:(i:Int)<(L.length:Int):=by omega
  have i2:(0:Int)<=(i:Int):=by omega
  have i3:(i:Int)<(box.length:Int):=by omega
  have key:FX ⟨box,L,(L.length:Int),(i:Nat)⟩=if mX box i L[i]! =0 then some (some ⟨box,L,(L.length:Int),((i+1:Nat):Int)⟩)else some none:=by
   unfold FX mX
   simp only[Int.toNat_natCast,i1,i2,i3,hi,hw,decide_true,cond_true,and_self,if_true,di,KU]
   cases M4 box[i]! <;>cases decide (@Eq Int (SV box[i]!) 0)<;>cases decide (box[i]!.aa<L[i]!.aa)<;>cases decide (L[i]!.af<box[i]!.af)<;>simp
  exact⟨fun h=>by rw[key,if_pos h],fun h=>by rw[key,if_neg h]⟩) (by unfold FX;simp)
theorem aiB{f:Flat}(h:dS f.bw+iA (f.ai.map (·.au))<=900)(hh:f.ai.length<=1000)(hl:f.ah.length<=1000)(v:View)(box:List aD):m79 f v box=some (zK f v box):=by
 have l2:(f.ah.filter (kd 2)).length<=1000:=Nat.le_trans (List.length_filter_le _ _) hl
 have l3:(gh f.ah).length<=2000:=by
  have a1:(f.ah.filter (kd 1)).length<=1000:=Nat.le_trans (List.length_filter_le _ _) hl
  have a3:(f.ah.filter (kd 3)).length<=1000:=Nat.le_trans (List.length_filter_le _ _) hl
  unfold gh
  rw[List.length_append];omega
 unfold m79 zK
 rw[UN f h (by omega) (by omega)]
 dsimp only
 by_cases hc:xq f=0
 case neg=>rw[decide_eq_false hc,if_pos hc];rfl
 rw[decide_eq_true hc,if_neg (by simpa using hc)]
 simp only[cond_true,cond_false]
 rw[Qf f (by omega)]
 dsimp only
 rw[eF,cond_false]
 rw[Sg f hl]
 dsimp only
 rw[eF,cond_false]
 by_cases hp:v.aR.length=(f.ah.filter (kd 2)).length
 case neg=>rw[eF,if_pos hp];rfl
 rw[pU,if_neg (by simpa using hp)]
 simp only[cond_true,cond_false]
 obtain⟨i,e3,k3⟩:=YE (f.ah.filter (kd 2)) (by omega) v hp box (gh f.ah)
 rw[e3]
 dsimp only
 rcases k3 with ⟨rfl,k3⟩|⟨i1,i2,i3⟩
 case inr=>
  rw[if_pos (show bW (jc v.aR) (f.ah.filter (kd 2)) 0≠0 by rw[i3];exact i2),i3]
  have j1:(i:Int)<((f.ah.filter (kd 2)).length:Int):=by omega
  have j2:(0:Int)<=(i:Int):=by omega
  have j3:(i:Int)<(v.aR.length:Int):=by omega
  simp only[Int.toNat_natCast,j1,j2,j3,i1,decide_true,cond_true,and_self,if_true]
  revert i2
  unfold jc
  cases decide (v.aR[i]! <(f.ah.filter (kd 2))[i]!.aa)<;>cases decide ((f.ah.filter (kd 2))[i]!.af<v.aR[i]!)<;>simp
 rw[eF,cond_false,if_neg (show ¬bW (jc v.aR) (f.ah.filter (kd 2)) 0≠0 by rw[k3];simp)]
 by_cases hb:box.length=(gh f.ah).length
 case neg=>rw[eF,if_pos hb];rfl
 rw[pU,if_neg (by simpa using hb)]
 simp only[cond_true,cond_false]
 obtain⟨i,e4,k4⟩:=Vj (gh f.ah) (by omega) box hb
 rw[e4]
 dsimp only
 rcases k4 with ⟨rfl,k4⟩|⟨i1,i2,i3⟩
 ·rw[eF,cond_false,k4]
 ·rw[i3]
  have j1:(i:Int)<((gh f.ah).length:Int):=by omega
  have j2:(0:Int)<=(i:Int):=by omega
  have j3:(i:Int)<(box.length:Int):=by omega
  simp only[Int.toNat_natCast,j1,j2,j3,i1,decide_true,cond_true,and_self,if_true,di,KU]
  revert i2
  unfold mX
  cases M4 box[i]! <;>cases decide (@Eq Int (SV box[i]!) 0)<;>cases decide (box[i]!.aa<(gh f.ah)[i]!.aa)<;>cases decide ((gh f.ah)[i]!.af<box[i]!.af)<;>simp
theorem yp(f:Flat)(hl:f.ah.length<=1000000)(v:View)(box:List aD)(t8 t9:List aN)(h8:t8.length<=1000000)(h9:t9.length<=1000000)(k:Int)(ks:List Int)(n j:Int):
  Fo ⟨box,t8,t9,k,ks,n,j,f.ah,(f.ah.length:Int),0,f,v⟩=some ⟨box,if k=2 then t8++f.ah.filter (kd k)else t8,if k=2 then t9 else t9++f.ah.filter (kd k),k,ks,n,j,f.ah,(f.ah.length:Int),(f.ah.length:Int),f,v⟩:=by
 obtain⟨b,e1,hI⟩:=cK (rnd:=MT) f.ah.length (fun i (b:List aN)=>⟨box,if k=2 then t8++b else t8,if k=2 then t9 else t9++b,k,ks,n,j,f.ah,(f.ah.length:Int),(i:Int),f,v⟩) (fun i b=>b=(f.ah.take i).filter (kd k)) (fun i b hi hb=>by
  have hw:=fh hi hl
  have i1:(i:Int)<(f.ah.length:Int):=by omega
  have i2:(0:Int)<=(i:Int):=by omega
  have hlen:b.length<=i:=by rw[hb];exact yE k i
  have hl2:∀x:aN,(t8++(b++[x])).length<=1073741824:=fun x=>by simp;omega
  have hl3:∀x:aN,(t9++(b++[x])).length<=1073741824:=fun x=>by simp;omega
  refine⟨_,?_,rfl⟩
  rw[vb hi,<-hb]
  unfold MT
  by_cases hk:f.ah[i]!.bf=k
  ·by_cases h2:k=2
   ·simp only[Int.toNat_natCast,i1,i2,hk,h2,hl2,hw,decide_true,cond_true,and_self,if_true,List.append_assoc]
   ·simp only[Int.toNat_natCast,i1,i2,hk,h2,hl3,hw,decide_true,decide_false,cond_true,cond_false,and_self,if_true,if_false,List.append_assoc]
  ·simp only[Int.toNat_natCast,i1,i2,hk,hw,decide_true,decide_false,cond_true,cond_false,and_self,if_true,if_false,List.append_nil]) (fun b _=>by unfold MT;simp) (b:=[]) (by simp)
 rw[List.take_length]at hI
 rw[<-hI]
 have e1':=e1
 rw[List.append_nil,List.append_nil,ite_self,ite_self]at e1'
 exact e1'
theorem Pv(f:Flat)(hl:f.ah.length<=1000)(v:View)(box:List aD):
  GH ⟨box,[],[],[1,3,2],3,0,f,v⟩=some ⟨box,f.ah.filter (kd 2),gh f.ah,[1,3,2],3,3,f,v⟩:=by
 have h1:(f.ah.filter (kd 1)).length<=1000:=Nat.le_trans (List.length_filter_le _ _) hl
 have h3:(f.ah.filter (kd 3)).length<=1000:=Nat.le_trans (List.length_filter_le _ _) hl
 have e1:=yp f (by omega) v box [] [] (by simp) (by simp) 1 [1,3,2] 3 0
 have e2:=yp f (by omega) v box [] (f.ah.filter (kd 1)) (by simp) (by omega) 3 [1,3,2] 3 1
 have e3:=yp f (by omega) v box [] (gh f.ah) (by simp) (by unfold gh;rw[List.length_append];omega) 2 [1,3,2] 3 2
 simp only[List.nil_append,Int.reduceEq,if_false,if_true]at e1 e2 e3
 have w1:i64.wrap ((0:Int)+1)=1:=by decide
 have w2:i64.wrap ((1:Int)+1)=2:=by decide
 have w3:i64.wrap ((2:Int)+1)=3:=by decide
 unfold GH
 rw[bD (p':=⟨box,[],f.ah.filter (kd 1),[1,3,2],3,1,f,v⟩)]
 ·rw[bD (p':=⟨box,[],gh f.ah,[1,3,2],3,2,f,v⟩)]
  ·rw[bD (p':=⟨box,f.ah.filter (kd 2),gh f.ah,[1,3,2],3,3,f,v⟩)]
   ·exact bU (fun r=>by unfold F4;simp)
   ·unfold F4
    dsimp only
    rw[decide_eq_true (by decide),cond_true,if_pos (by decide),if_pos (by decide)]
    rw[show ([1,3,2]:List Int)[Int.toNat 2]! =2 from rfl,e3]
    dsimp only
    rw[eF,cond_false,w3]
  ·unfold F4
   dsimp only
   rw[decide_eq_true (by decide),cond_true,if_pos (by decide),if_pos (by decide)]
   rw[show ([1,3,2]:List Int)[Int.toNat 1]! =3 from rfl,e2]
   dsimp only
   rw[eF,cond_false,w2]
   rfl
 ·unfold F4
  dsimp only
  rw[decide_eq_true (by decide),cond_true,if_pos (by decide),if_pos (by decide)]
  rw[show ([1,3,2]:List Int)[Int.toNat 0]! =1 from rfl,e1]
  dsimp only
  rw[eF,cond_false,w1]
theorem YQ(L:List aN)(hl:L.length<=1000000)(v:View)(hv:v.aR.length=L.length)(box:List aD)(t9:List aN):
  ∃i,MO ⟨box,t9,L,(L.length:Int),0,v⟩=some ⟨box,t9,L,(L.length:Int),(i:Nat),v⟩/\((i=L.length/\bW (jc v.aR) L 0=0)\/(i<L.length/\jc v.aR i L[i]!≠0/\bW (jc v.aR) L 0=jc v.aR i L[i]!)):=
 qy (rnd:=EC) L (fun i=>⟨box,t9,L,(L.length:Int),(i:Nat),v⟩) (jc v.aR) (fun i hi=>by
  have hw:=fh hi hl
  have i1:(i:Int)<(L.length:Int):=by omega
  have i2:(0:Int)<=(i:Int):=by omega
  have i3:(i:Int)<(v.aR.length:Int):=by omega
  have key:EC ⟨box,t9,L,(L.length:Int),(i:Nat),v⟩=if jc v.aR i L[i]! =0 then some (some ⟨box,t9,L,(L.length:Int),((i+1:Nat):Int),v⟩)else some none:=by
   unfold EC jc
   simp only[Int.toNat_natCast,i1,i2,i3,hi,hw,decide_true,cond_true,and_self,if_true]
   cases decide (v.aR[i]! <L[i]!.aa)<;>cases decide (L[i]!.af<v.aR[i]!)<;>simp
  exact⟨fun h=>by rw[key,if_pos h],fun h=>by rw[key,if_neg h]⟩) (by unfold EC;simp)
theorem XP(L:List aN)(hl:L.length<=1000000)(box:List aD)(hv:box.length=L.length):
  ∃i,Ll ⟨box,L,(L.length:Int),0⟩=some ⟨box,L,(L.length:Int),(i:Nat)⟩/\((i=L.length/\bW (mX box) L 0=0)\/(i<L.length/\mX box i L[i]!≠0/\bW (mX box) L 0=mX box i L[i]!)):=
 qy (rnd:=FG) L (fun i=>⟨box,L,(L.length:Int),(i:Nat)⟩) (mX box) (fun i hi=>by
  have hw:=fh hi hl
  have i1:(i:Int)<(L.length:Int):=by omega
  have i2:(0:Int)<=(i:Int):=by omega
  have i3:(i:Int)<(box.length:Int):=by omega
  have key:FG ⟨box,L,(L.length:Int),(i:Nat)⟩=if mX box i L[i]! =0 then some (some ⟨box,L,(L.length:Int),((i+1:Nat):Int)⟩)else some none:=by
   unfold FG mX
   simp only[Int.toNat_natCast,i1,i2,i3,hi,hw,decide_true,cond_true,and_self,if_true,dW,Lj]
   cases M4 box[i]! <;>cases decide (@Eq Int (SV box[i]!) 0)<;>cases decide (box[i]!.aa<L[i]!.aa)<;>cases decide (L[i]!.af<box[i]!.af)<;>simp
  exact⟨fun h=>by rw[key,if_pos h],fun h=>by rw[key,if_neg h]⟩) (by unfold FG;simp)
theorem alF{f:Flat}(h:dS f.bw+iA (f.ai.map (·.au))<=900)(hh:f.ai.length<=1000)(hl:f.ah.length<=1000)(v:View)(box:List aD):m21 f v box=some (zK f v box):=by
 have l2:(f.ah.filter (kd 2)).length<=1000:=Nat.le_trans (List.length_filter_le _ _) hl
 have l3:(gh f.ah).length<=2000:=by
  have a1:(f.ah.filter (kd 1)).length<=1000:=Nat.le_trans (List.length_filter_le _ _) hl
  have a3:(f.ah.filter (kd 3)).length<=1000:=Nat.le_trans (List.length_filter_le _ _) hl
  unfold gh
  rw[List.length_append];omega
 unfold m21 zK
 rw[HR f h (by omega) (by omega)]
 dsimp only
 by_cases hc:xq f=0
 case neg=>rw[decide_eq_false hc,if_pos hc];rfl
 rw[decide_eq_true hc,if_neg (by simpa using hc)]
 simp only[cond_true,cond_false]
 rw[Pv f hl v box]
 dsimp only
 rw[eF,cond_false]
 by_cases hp:v.aR.length=(f.ah.filter (kd 2)).length
 case neg=>rw[eF,if_pos hp];rfl
 rw[pU,if_neg (by simpa using hp)]
 simp only[cond_true,cond_false]
 obtain⟨i,e3,k3⟩:=YQ (f.ah.filter (kd 2)) (by omega) v hp box (gh f.ah)
 rw[e3]
 dsimp only
 rcases k3 with ⟨rfl,k3⟩|⟨i1,i2,i3⟩
 case inr=>
  rw[if_pos (show bW (jc v.aR) (f.ah.filter (kd 2)) 0≠0 by rw[i3];exact i2),i3]
  have j1:(i:Int)<((f.ah.filter (kd 2)).length:Int):=by omega
  have j2:(0:Int)<=(i:Int):=by omega
  have j3:(i:Int)<(v.aR.length:Int):=by omega
  simp only[Int.toNat_natCast,j1,j2,j3,i1,decide_true,cond_true,and_self,if_true]
  revert i2
  unfold jc
  cases decide (v.aR[i]! <(f.ah.filter (kd 2))[i]!.aa)<;>cases decide ((f.ah.filter (kd 2))[i]!.af<v.aR[i]!)<;>simp
 rw[eF,cond_false,if_neg (show ¬bW (jc v.aR) (f.ah.filter (kd 2)) 0≠0 by rw[k3];simp)]
 by_cases hb:box.length=(gh f.ah).length
 case neg=>rw[eF,if_pos hb];rfl
 rw[pU,if_neg (by simpa using hb)]
 simp only[cond_true,cond_false]
 obtain⟨i,e4,k4⟩:=XP (gh f.ah) (by omega) box hb
 rw[e4]
 dsimp only
 rcases k4 with ⟨rfl,k4⟩|⟨i1,i2,i3⟩
 ·rw[eF,cond_false,k4]
 ·rw[i3]
  have j1:(i:Int)<((gh f.ah).length:Int):=by omega
  have j2:(0:Int)<=(i:Int):=by omega
  have j3:(i:Int)<(box.length:Int):=by omega
  simp only[Int.toNat_natCast,j1,j2,j3,i1,decide_true,cond_true,and_self,if_true,dW,Lj]
  revert i2
  unfold mX
  cases M4 box[i]! <;>cases decide (@Eq Int (SV box[i]!) 0)<;>cases decide (box[i]!.aa<(gh f.ah)[i]!.aa)<;>cases decide ((gh f.ah)[i]!.af<box[i]!.af)<;>simp
structure Fits (f:Flat) (v:View) (box:List aD):Prop where
 c:xq f=0
 pub:v.aR.length=(f.ah.filter (kd 2)).length
 aqG:∀j,j<v.aR.length->(f.ah.filter (kd 2))[j]!.aa<=v.aR[j]!/\v.aR[j]!<=(f.ah.filter (kd 2))[j]!.af
 bl:box.length=(gh f.ah).length
 bx:∀j,j<box.length->NN box[j]!/\(gh f.ah)[j]!.aa<=box[j]!.aa/\box[j]!.af<=(gh f.ah)[j]!.af
theorem MU{f:Flat}{v:View}{box:List aD}(h:zK f v box=0):Fits f v box:=by
 unfold zK at h
 by_cases hc:xq f=0
 case neg=>rw[if_pos hc]at h;exact absurd h hc
 rw[if_neg (by simpa using hc)]at h
 by_cases hp:v.aR.length=(f.ah.filter (kd 2)).length
 case neg=>rw[if_pos hp]at h;cases h
 rw[if_neg (by simpa using hp)]at h
 by_cases hf:bW (jc v.aR) (f.ah.filter (kd 2)) 0=0
 case neg=>rw[if_pos hf]at h;exact absurd h hf
 rw[if_neg (by simpa using hf)]at h
 by_cases hb:box.length=(gh f.ah).length
 case neg=>rw[if_pos hb]at h;cases h
 rw[if_neg (by simpa using hb)]at h
 refine⟨hc,hp,fun j hj=> ?_,hb,fun j hj=> ?_⟩
 ·have k:=lz hf j (by omega)
  rw[Nat.zero_add]at k
  unfold jc at k
  by_cases c1:v.aR[j]! <(f.ah.filter (kd 2))[j]!.aa
  ·rw[decide_eq_true c1]at k;cases k
  by_cases c2:(f.ah.filter (kd 2))[j]!.af<v.aR[j]!
  ·rw[decide_eq_false c1,decide_eq_true c2]at k;cases k
  omega
 ·have k:=lz h j (by omega)
  rw[Nat.zero_add]at k
  unfold mX at k
  by_cases c0:NV box[j]!
  case neg=>rw[sx c0]at k;cases k
  rw[cR c0]at k
  by_cases c3:SV box[j]! =0
  ·rw[decide_eq_true c3]at k;cases k
  by_cases c1:box[j]!.aa<(gh f.ah)[j]!.aa
  ·rw[decide_eq_false c3,decide_eq_true c1]at k;cases k
  by_cases c2:(gh f.ah)[j]!.af<box[j]!.af
  ·rw[decide_eq_false c3,decide_eq_false c1,decide_eq_true c2]at k;cases k
  refine⟨c0.nn fun e=>c3 ?_,by omega,by omega⟩
  rw[e]
  unfold SV
  rw[if_pos (.inl rfl)]
  unfold cA
  rw[if_pos rfl]
theorem Sa{f:Flat}(h:xq f=0){i:Nat}(hi:i<f.ah.length):(0<=f.ah[i]!.bf/\f.ah[i]!.bf<=3)/\(f.ah[i]!.bf=0->f.ah[i]!.aa<=f.ah[i]!.cW/\f.ah[i]!.cW<=f.ah[i]!.af):=by
 unfold xq at h
 by_cases h1:qS f=false
 ·rw[if_pos h1]at h;exact absurd h (by decide)
 rw[if_neg h1]at h
 by_cases hvc:j9 f.ah=0
 case neg=>rw[if_pos hvc]at h;exact absurd h hvc
 unfold j9 at hvc
 by_cases h0:bW (lD f.ah) f.ah 0=0
 case neg=>rw[if_pos h0]at hvc;exact absurd hvc h0
 have k:=lz h0 i hi
 unfold lD at k
 split at k
 ·cases k
 split at k
 ·cases k
 split at k
 ·cases k
 split at k
 ·cases k
 rename_i q _
 refine⟨by omega,fun e=> ?_⟩
 rw[if_pos e]at k
 split at k
 ·cases k
 ·omega
def cX(f:Flat)(v:View)(box:List aD)(i:Nat):aD:=
 if f.ah[i]!.bf=1 then box[bV f.ah 1 i]! else if f.ah[i]!.bf=2 then cV v.aR[bV f.ah 2 i]! else if f.ah[i]!.bf=3 then box[bV f.ah 1 f.ah.length+bV f.ah 3 i]! else cV f.ah[i]!.cW
def dJ(f:Flat)(v:View)(box:List aD):ak:=⟨ji f.ah.length (cX f v box),cV 0,[],cV 0⟩
theorem AZ(vars:List aN):(gh vars).length=bV vars 1 vars.length+bV vars 3 vars.length:=by
 unfold gh
 rw[List.length_append,lf,lf]
theorem CB{vars:List aN}{k:Int}{i:Nat}(hi:i<vars.length)(hk:vars[i]!.bf=k):bV vars k i<bV vars k vars.length:=by
 have c:=eX hi k
 have m:=iu (vars:=vars) (k:=k) (show i+1<=vars.length by omega) (Nat.le_refl _)
 rw[if_pos hk]at c
 omega
theorem ud{f:Flat}{v:View}{box:List aD}(h:Fits f v box):de f.ah.length 0 (dJ f v box):=by
 have hv:=yP h.c
 have hb:=h.bl
 rw[AZ]at hb
 have hp:=h.pub
 rw[<-lf]at hp
 refine⟨fl ..,fun i hi=> ?_,ke ⟨by decide,by decide⟩,Nat.le_refl _,fun i hi=>absurd hi (by simp[dJ]),ke ⟨by decide,by decide⟩⟩
 show NN (ji _ _)[i]!
 rw[l5 hi]
 unfold cX
 by_cases k1:f.ah[i]!.bf=1
 ·rw[if_pos k1]
  have:=CB hi k1
  exact(h.bx _ (by omega)).1
 rw[if_neg k1]
 by_cases k2:f.ah[i]!.bf=2
 ·rw[if_pos k2]
  have hl:=CB hi k2
  have hj:=h.aqG _ (show bV f.ah 2 i<v.aR.length by omega)
  have hm:=aU (l:=f.ah.filter (kd 2)) (i:=bV f.ah 2 i) (by rw[<-lf];omega)
  have:=hv _ ((List.mem_filter.1 hm).1)
  exact ke (by unfold bN;omega)
 rw[if_neg k2]
 by_cases k3:f.ah[i]!.bf=3
 ·rw[if_pos k3]
  have:=CB hi k3
  exact(h.bx _ (by omega)).1
 rw[if_neg k3]
 obtain⟨q1,q2⟩:=Sa h.c hi
 have q2:=q2 (by omega)
 have:=hv _ (aU hi)
 exact ke (by unfold bN;omega)
abbrev A0:Abstract:=⟨⟨0,0,0⟩,[],⟨0,0,0⟩,[]⟩
theorem Yw{f:Flat}(hl:f.ah.length<=1000)(box:List aD)(v:View)(g:ak):LS ⟨box,0,0,0,f.ah,(f.ah.length:Int),0,f,v,A0,⟨[],g.ay,[],g.aB⟩⟩=
  some ⟨box,0,0,(bV f.ah 1 f.ah.length:Int),f.ah,(f.ah.length:Int),(f.ah.length:Int),f,v,A0,⟨[],g.ay,[],g.aB⟩⟩:=by
 obtain⟨b,e1,_⟩:=cK (rnd:=KW) f.ah.length (fun i (_:Unit)=>⟨box,0,0,(bV f.ah 1 i:Int),f.ah,(f.ah.length:Int),(i:Int),f,v,A0,⟨[],g.ay,[],g.aB⟩⟩) (fun _ _=>True) (fun i b hi _=>by
  have hw:=fh hi (by omega)
  have i1:(i:Int)<(f.ah.length:Int):=by omega
  have i2:(0:Int)<=(i:Int):=by omega
  have c1:=eX hi 1
  have l1:=iH f.ah 1 i
  have w1:i64.wrap ((bV f.ah 1 i:Int)+1)=((bV f.ah 1 i+1:Nat):Int):=by rw[aF];omega
  refine⟨(),?_,trivial⟩
  unfold KW
  rw[c1]
  by_cases hk:f.ah[i]!.bf=1
  ·simp only[Int.toNat_natCast,i1,i2,hk,hw,w1,decide_true,cond_true,and_self,if_true]
  ·simp only[Int.toNat_natCast,i1,i2,hk,hw,decide_true,decide_false,cond_true,cond_false,and_self,if_true,if_false,Nat.add_zero]) (fun b _=>by unfold KW;simp) (b:=()) trivial
 exact e1
theorem Ym{f:Flat}{v:View}{box:List aD}(h:Fits f v box)(hlv:f.ah.length<=1000)(g:ak):KH ⟨box,0,0,(bV f.ah 1 f.ah.length:Int),f.ah,(f.ah.length:Int),0,f,v,A0,⟨[],g.ay,[],g.aB⟩⟩=
  some ⟨box,(bV f.ah 1 f.ah.length:Int),(bV f.ah 2 f.ah.length:Int),((bV f.ah 1 f.ah.length+bV f.ah 3 f.ah.length:Nat):Int),f.ah,(f.ah.length:Int),(f.ah.length:Int),f,v,A0,⟨ji f.ah.length (cX f v box),g.ay,[],g.aB⟩⟩:=by
 have hbx:=h.bl
 rw[AZ]at hbx
 have hp:=h.pub
 rw[<-lf]at hp
 obtain⟨b,e1,_⟩:=cK (rnd:=Mr) f.ah.length (fun i (_:Unit)=>⟨box,(bV f.ah 1 i:Int),(bV f.ah 2 i:Int),((bV f.ah 1 f.ah.length+bV f.ah 3 i:Nat):Int),f.ah,(f.ah.length:Int),(i:Int),f,v,A0,⟨ji i (cX f v box),g.ay,[],g.aB⟩⟩) (fun i _=>True) (fun i b hi _=>by
  have hw:=fh hi (by omega)
  have i1:(i:Int)<(f.ah.length:Int):=by omega
  have i2:(0:Int)<=(i:Int):=by omega
  have c1:=eX hi 1
  have c2:=eX hi 2
  have c3:=eX hi 3
  have m1:=iu (vars:=f.ah) (k:=1) (show i+1<=f.ah.length by omega) (Nat.le_refl _)
  have m2:=iu (vars:=f.ah) (k:=2) (show i+1<=f.ah.length by omega) (Nat.le_refl _)
  have m3:=iu (vars:=f.ah) (k:=3) (show i+1<=f.ah.length by omega) (Nat.le_refl _)
  have l1:=iH f.ah 1 f.ah.length
  have l2:=iH f.ah 2 f.ah.length
  have l3:=iH f.ah 3 f.ah.length
  have hl2:∀x:aD,(ji i (cX f v box)++[x]).length<=1073741824:=fun x=>by rw[List.length_append,fl,List.length_singleton];omega
  refine⟨(),?_,trivial⟩
  rw[ot]
  unfold Mr
  dsimp only
  rw[c1,c2,c3]
  by_cases k1:f.ah[i]!.bf=1
  ·have ev:cX f v box i=box[bV f.ah 1 i]! :=by unfold cX;rw[if_pos k1]
   rw[k1]at c1 c2 c3 ⊢
   simp only[Int.reduceEq,if_true,if_false,Nat.add_zero]at c1 c2 c3 ⊢
   have w1:i64.wrap ((bV f.ah 1 i:Int)+1)=((bV f.ah 1 i+1:Nat):Int):=by rw[aF];omega
   have j1:(bV f.ah 1 i:Int)<(box.length:Int):=by omega
   have j2:(0:Int)<=(bV f.ah 1 i:Int):=by omega
   simp only[Int.toNat_natCast,i1,i2,j1,j2,decide_true,cond_true,and_self,if_true,k1,hl2,hw,w1,ev]
  by_cases k2:f.ah[i]!.bf=2
  ·have ev:cX f v box i=cV v.aR[bV f.ah 2 i]! :=by unfold cX;rw[if_neg k1,if_pos k2]
   rw[k2]at c1 c2 c3 ⊢
   simp only[Int.reduceEq,if_true,if_false,Nat.add_zero]at c1 c2 c3 ⊢
   have w1:i64.wrap ((bV f.ah 2 i:Int)+1)=((bV f.ah 2 i+1:Nat):Int):=by rw[aF];omega
   have j1:(bV f.ah 2 i:Int)<(v.aR.length:Int):=by omega
   have j2:(0:Int)<=(bV f.ah 2 i:Int):=by omega
   simp only[Int.toNat_natCast,i1,i2,j1,j2,k2,Int.reduceEq,decide_true,decide_false,cond_true,cond_false,and_self,if_true,hl2,hw,w1,pe,ev]
  by_cases k3:f.ah[i]!.bf=3
  ·have ev:cX f v box i=box[bV f.ah 1 f.ah.length+bV f.ah 3 i]! :=by unfold cX;rw[if_neg k1,if_neg k2,if_pos k3]
   rw[k3]at c1 c2 c3 ⊢
   simp only[Int.reduceEq,if_true,if_false,Nat.add_zero]at c1 c2 c3 ⊢
   have w1:i64.wrap (((bV f.ah 1 f.ah.length+bV f.ah 3 i:Nat):Int)+1)=((bV f.ah 1 f.ah.length+(bV f.ah 3 i+1):Nat):Int):=by rw[aF];omega
   have j1:((bV f.ah 1 f.ah.length+bV f.ah 3 i:Nat):Int)<(box.length:Int):=by omega
   have j2:(0:Int)<=((bV f.ah 1 f.ah.length+bV f.ah 3 i:Nat):Int):=by omega
   simp only[Int.toNat_natCast,i1,i2,j1,j2,k3,Int.reduceEq,decide_true,decide_false,cond_true,cond_false,and_self,if_true,hl2,hw,w1,ev]
  ·have ev:cX f v box i=cV f.ah[i]!.cW:=by unfold cX;rw[if_neg k1,if_neg k2,if_neg k3]
   rw[if_neg k1,if_neg k2,if_neg k3]
   simp only[Int.toNat_natCast,i1,i2,k1,k2,k3,decide_true,decide_false,cond_true,cond_false,and_self,if_true,hl2,hw,pe,ev,Nat.add_zero]) (fun b _=>by unfold Mr;simp) (b:=()) trivial
 exact e1
def N5(f:Flat)(s:ak)(h:cy):aD:=gC (bR s.ah h.au) h.aa h.af
def p8(f:Flat)(s:ak):List aD:=f.ai.map (N5 f s)
theorem Yb{f:Flat}(hf:Ev f){s:ak}{m:Nat}(hs:de f.ah.length m s){i:Nat}(hi:i<f.ai.length):NN (N5 f s f.ai[i]!):=by
 obtain⟨_,_,_,k,_⟩:=fS (gq hs f.ai[i]!.au (hf.hat i hi).2) f.ai[i]!.aa f.ai[i]!.af
 exact k
theorem Dc{f:Flat}(hf:Ev f){s:ak}{m:Nat}(hs:de f.ah.length m s):∀i,i<(p8 f s).length->NN (p8 f s)[i]! :=fun i hi=>by
 have hi:i<f.ai.length:=by simpa [p8]using hi
 unfold p8
 rw[getElem!_pos _ i (by simpa using hi),List.getElem_map,<-getElem!_pos f.ai i hi]
 exact Yb hf hs hi
theorem TT{f:Flat}(hf:Ev f)(hlh:f.ai.length<=1000)(v:View){s:ak}(hs:de f.ah.length 0 s):Ek ⟨f.ai,(f.ai.length:Int),0,f,v,A0,s,⟨f,[]⟩⟩=
  some ⟨f.ai,(f.ai.length:Int),(f.ai.length:Int),f,v,A0,s,⟨f,p8 f s⟩⟩:=by
 have hsl:s.az=[]:=List.eq_nil_of_length_eq_zero (Nat.le_zero.1 hs.sl)
 have es:(⟨s.ah,s.ay,[],s.aB⟩:ak)=s:=by rw[<-hsl]
 obtain⟨b,e1,_⟩:=cK (rnd:=LD) f.ai.length (fun i (_:Unit)=>⟨f.ai,(f.ai.length:Int),(i:Int),f,v,A0,s,⟨f,(f.ai.take i).map (N5 f s)⟩⟩) (fun i _=>True) (fun i b hi _=>by
  have hw:=fh hi (by omega)
  have i1:(i:Int)<(f.ai.length:Int):=by omega
  have i2:(0:Int)<=(i:Int):=by omega
  obtain⟨q1,q2⟩:=hf.hat i hi
  have ev:=ED hs q2
  obtain⟨c,hcl,_,_,_⟩:=fS (gq hs f.ai[i]!.au q2) f.ai[i]!.aa f.ai[i]!.af
  have hl2:∀x:aD,((f.ai.take i).map (N5 f s)++[x]).length<=1073741824:=fun x=>by simp;omega
  refine⟨(),?_,trivial⟩
  rw[bE hi,List.map_append]
  unfold LD
  simp only[Int.toNat_natCast,i1,i2,decide_true,cond_true,and_self,if_true,aq.eta,es,ev,hcl,hl2,hw,List.map_cons,List.map_nil]
  rfl) (fun b _=>by unfold LD;simp) (b:=()) trivial
 rw[List.take_length]at e1
 exact e1
def Ed(f:Flat)(v:View)(box:List aD):ak:=fq f (p8 f (dJ f v box)) f.bw (dJ f v box)
def fG(f:Flat)(v:View)(box:List aD):Abstract:=
 ⟨(Ed f v box).ay,(Ed f v box).az,if v.rR=true then(Ed f v box).aB else cV 0,(Ed f v box).ah⟩
theorem ako{f:Flat}{v:View}{box:List aD}(h:dS f.bw+iA (f.ai.map (·.au))<=900)(hh:f.ai.length<=1000)(hl:f.ah.length<=1000):m20 f v box=some (if zK f v box=0 then(fG f v box,0)else(A0,zK f v box)):=by
 unfold m20
 rw[aiB h hh hl]
 dsimp only
 by_cases hc:zK f v box=0
 case neg=>rw[decide_eq_false hc,if_neg hc];rfl
 have hfit:=MU hc
 have hf:=HB hfit.c
 have h0:=ud hfit
 have e0:=Yw hl box v ⟨[],cV 0,[],cV 0⟩
 have e1:=Ym hfit hl ⟨[],cV 0,[],cV 0⟩
 have e2:=TT hf hh v h0
 have ho:dg f.bw<=8:=by have:=hf.o;unfold dg;omega
 have e3:r83 ⟨f,p8 f (dJ f v box)⟩ f.bw (dJ f v box)=some (Ed f v box):=
  ajQ (r:=⟨f,p8 f (dJ f v box)⟩) (top:=true) (by show f.ah.length<=_;omega) (by simp[p8]) (Dc hf h0) (by omega) hf.steps h0 (by omega)
 rw[decide_eq_true hc,if_pos hc]
 simp only[cond_true,cond_false,pe]
 dsimp only[A0]at e0 e1 e2
 rw[e0]
 dsimp only
 rw[eF,cond_false,e1]
 dsimp only
 rw[eF,cond_false]
 have e2':Ek ⟨f.ai,(f.ai.length:Int),0,f,v,⟨⟨0,0,0⟩,[],⟨0,0,0⟩,[]⟩,⟨ji f.ah.length (cX f v box),cV 0,[],cV 0⟩,⟨f,[]⟩⟩=_:=e2
 rw[e2']
 dsimp only
 rw[eF,cond_false]
 have e3':r83 ⟨f,p8 f (dJ f v box)⟩ f.bw ⟨(dJ f v box).ah,(dJ f v box).ay,[],(dJ f v box).aB⟩=_:=e3
 rw[e3']
 dsimp only
 unfold fG
 cases v.rR<;>rfl
abbrev Z3:aA:=⟨[],⟨0,0,0⟩,[],⟨0,0,0⟩⟩
theorem T4{f:Flat}(hl:f.ah.length<=1000)(box:List aD)(v:View):LG ⟨box,0,f.ah,(f.ah.length:Int),0,f,v,Z3,Z3⟩=
  some ⟨box,(bV f.ah 1 f.ah.length:Int),f.ah,(f.ah.length:Int),(f.ah.length:Int),f,v,Z3,Z3⟩:=by
 obtain⟨b,e1,_⟩:=cK (rnd:=L4) f.ah.length (fun i (_:Unit)=>⟨box,(bV f.ah 1 i:Int),f.ah,(f.ah.length:Int),(i:Int),f,v,Z3,Z3⟩) (fun _ _=>True) (fun i b hi _=>by
  have hw:=fh hi (by omega)
  have i1:(i:Int)<(f.ah.length:Int):=by omega
  have i2:(0:Int)<=(i:Int):=by omega
  have c1:=eX hi 1
  have l1:=iH f.ah 1 i
  have w1:i64.wrap ((bV f.ah 1 i:Int)+1)=((bV f.ah 1 i+1:Nat):Int):=by rw[aF];omega
  refine⟨(),?_,trivial⟩
  unfold L4
  rw[c1]
  by_cases hk:f.ah[i]!.bf=1
  ·simp only[Int.toNat_natCast,i1,i2,hk,hw,w1,decide_true,cond_true,and_self,if_true]
  ·simp only[Int.toNat_natCast,i1,i2,hk,hw,decide_true,decide_false,cond_true,cond_false,and_self,if_true,if_false,Nat.add_zero]) (fun b _=>by unfold L4;simp) (b:=()) trivial
 exact e1
theorem Z4{f:Flat}{v:View}{box:List aD}(h:Fits f v box)(hlv:f.ah.length<=1000):KN ⟨box,0,(bV f.ah 1 f.ah.length:Int),0,f.ah,(f.ah.length:Int),0,v,Z3,Z3⟩=
  some ⟨box,(bV f.ah 1 f.ah.length:Int),((bV f.ah 1 f.ah.length+bV f.ah 3 f.ah.length:Nat):Int),(bV f.ah 2 f.ah.length:Int),f.ah,(f.ah.length:Int),(f.ah.length:Int),v,Z3,⟨ji f.ah.length (cX f v box),⟨0,0,0⟩,[],⟨0,0,0⟩⟩⟩:=by
 have hbx:=h.bl
 rw[AZ]at hbx
 have hp:=h.pub
 rw[<-lf]at hp
 obtain⟨b,e1,_⟩:=cK (rnd:=Mp) f.ah.length (fun i (_:Unit)=>⟨box,(bV f.ah 1 i:Int),((bV f.ah 1 f.ah.length+bV f.ah 3 i:Nat):Int),(bV f.ah 2 i:Int),f.ah,(f.ah.length:Int),(i:Int),v,Z3,⟨ji i (cX f v box),⟨0,0,0⟩,[],⟨0,0,0⟩⟩⟩) (fun i _=>True) (fun i b hi _=>by
  have hw:=fh hi (by omega)
  have i1:(i:Int)<(f.ah.length:Int):=by omega
  have i2:(0:Int)<=(i:Int):=by omega
  have c1:=eX hi 1
  have c2:=eX hi 2
  have c3:=eX hi 3
  have m1:=iu (vars:=f.ah) (k:=1) (show i+1<=f.ah.length by omega) (Nat.le_refl _)
  have m2:=iu (vars:=f.ah) (k:=2) (show i+1<=f.ah.length by omega) (Nat.le_refl _)
  have m3:=iu (vars:=f.ah) (k:=3) (show i+1<=f.ah.length by omega) (Nat.le_refl _)
  have l1:=iH f.ah 1 f.ah.length
  have l2:=iH f.ah 2 f.ah.length
  have l3:=iH f.ah 3 f.ah.length
  have hl2:∀x:aD,(ji i (cX f v box)++[x]).length<=1073741824:=fun x=>by rw[List.length_append,fl,List.length_singleton];omega
  refine⟨(),?_,trivial⟩
  rw[ot]
  unfold Mp
  dsimp only
  rw[c1,c2,c3]
  by_cases k1:f.ah[i]!.bf=1
  ·have ev:cX f v box i=box[bV f.ah 1 i]! :=by unfold cX;rw[if_pos k1]
   rw[k1]at c1 c2 c3 ⊢
   simp only[Int.reduceEq,if_true,if_false,Nat.add_zero]at c1 c2 c3 ⊢
   have w1:i64.wrap ((bV f.ah 1 i:Int)+1)=((bV f.ah 1 i+1:Nat):Int):=by rw[aF];omega
   have j1:(bV f.ah 1 i:Int)<(box.length:Int):=by omega
   have j2:(0:Int)<=(bV f.ah 1 i:Int):=by omega
   simp only[Int.toNat_natCast,i1,i2,j1,j2,decide_true,cond_true,and_self,if_true,k1,hl2,hw,w1,ev]
  by_cases k2:f.ah[i]!.bf=2
  ·have ev:cX f v box i=cV v.aR[bV f.ah 2 i]! :=by unfold cX;rw[if_neg k1,if_pos k2]
   rw[k2]at c1 c2 c3 ⊢
   simp only[Int.reduceEq,if_true,if_false,Nat.add_zero]at c1 c2 c3 ⊢
   have w1:i64.wrap ((bV f.ah 2 i:Int)+1)=((bV f.ah 2 i+1:Nat):Int):=by rw[aF];omega
   have j1:(bV f.ah 2 i:Int)<(v.aR.length:Int):=by omega
   have j2:(0:Int)<=(bV f.ah 2 i:Int):=by omega
   simp only[Int.toNat_natCast,i1,i2,j1,j2,k2,Int.reduceEq,decide_true,decide_false,cond_true,cond_false,and_self,if_true,hl2,hw,w1,wA,ev]
  by_cases k3:f.ah[i]!.bf=3
  ·have ev:cX f v box i=box[bV f.ah 1 f.ah.length+bV f.ah 3 i]! :=by unfold cX;rw[if_neg k1,if_neg k2,if_pos k3]
   rw[k3]at c1 c2 c3 ⊢
   simp only[Int.reduceEq,if_true,if_false,Nat.add_zero]at c1 c2 c3 ⊢
   have w1:i64.wrap (((bV f.ah 1 f.ah.length+bV f.ah 3 i:Nat):Int)+1)=((bV f.ah 1 f.ah.length+(bV f.ah 3 i+1):Nat):Int):=by rw[aF];omega
   have j1:((bV f.ah 1 f.ah.length+bV f.ah 3 i:Nat):Int)<(box.length:Int):=by omega
   have j2:(0:Int)<=((bV f.ah 1 f.ah.length+bV f.ah 3 i:Nat):Int):=by omega
   simp only[Int.toNat_natCast,i1,i2,j1,j2,k3,Int.reduceEq,decide_true,decide_false,cond_true,cond_false,and_self,if_true,hl2,hw,w1,ev]
  ·have ev:cX f v box i=cV f.ah[i]!.cW:=by unfold cX;rw[if_neg k1,if_neg k2,if_neg k3]
   rw[if_neg k1,if_neg k2,if_neg k3]
   simp only[Int.toNat_natCast,i1,i2,k1,k2,k3,decide_true,decide_false,cond_true,cond_false,and_self,if_true,hl2,hw,wA,ev,Nat.add_zero]) (fun b _=>by unfold Mp;simp) (b:=()) trivial
 exact e1
theorem aiX{f:Flat}{v:View}{box:List aD}(h:Fits f v box)(hlv:f.ah.length<=1000):m85 f v box=some (tr (dJ f v box)):=by
 have e0:=T4 hlv box v
 have e1:=Z4 h hlv
 unfold m85
 dsimp only[Z3]at e0 e1
 rw[e0]
 dsimp only
 rw[eF,cond_false,e1]
 dsimp only
 rw[eF,cond_false]
 rfl
theorem UQ{f:Flat}(hf:Ev f)(hlh:f.ai.length<=1000)(v:View){s:ak}(hs:de f.ah.length 0 s):GS ⟨[],f.ai,(f.ai.length:Int),0,f,v,A0,tr s⟩=
  some ⟨p8 f s,f.ai,(f.ai.length:Int),(f.ai.length:Int),f,v,A0,tr s⟩:=by
 have hsl:s.az=[]:=List.eq_nil_of_length_eq_zero (Nat.le_zero.1 hs.sl)
 have es:(⟨(tr s).ah,(tr s).ay,[],(tr s).aB⟩:aA)=tr s:=by unfold tr;rw[<-hsl]
 obtain⟨b,e1,_⟩:=cK (rnd:=MD) f.ai.length (fun i (_:Unit)=>⟨(f.ai.take i).map (N5 f s),f.ai,(f.ai.length:Int),(i:Int),f,v,A0,tr s⟩) (fun i _=>True) (fun i b hi _=>by
  have hw:=fh hi (by omega)
  have i1:(i:Int)<(f.ai.length:Int):=by omega
  have i2:(0:Int)<=(i:Int):=by omega
  obtain⟨q1,q2⟩:=hf.hat i hi
  have ev:=LB hs f.ai[i]!.au q2
  obtain⟨c,_,hcl,_,_⟩:=fS (gq hs f.ai[i]!.au q2) f.ai[i]!.aa f.ai[i]!.af
  have hl2:∀x:aD,((f.ai.take i).map (N5 f s)++[x]).length<=1073741824:=fun x=>by simp;omega
  refine⟨(),?_,trivial⟩
  rw[bE hi,List.map_append]
  unfold MD
  simp only[Int.toNat_natCast,i1,i2,decide_true,cond_true,and_self,if_true,aq.eta,es,ev,hcl,hl2,hw,List.map_cons,List.map_nil]
  rfl) (fun b _=>by unfold MD;simp) (b:=()) trivial
 rw[List.take_length]at e1
 exact e1
theorem alQ{f:Flat}{v:View}{box:List aD}(h:dS f.bw+iA (f.ai.map (·.au))<=900)(hh:f.ai.length<=1000)(hl:f.ah.length<=1000)(hfit:Fits f v box):m23 f v box=some (fG f v box):=by
 have hf:=HB hfit.c
 have h0:=ud hfit
 have e2:=UQ hf hh v h0
 have ho:dg f.bw<=8:=by have:=hf.o;unfold dg;omega
 have e3:r88 f (p8 f (dJ f v box)) f.bw (tr (dJ f v box))=some (tr (Ed f v box)):=
  amP (top:=true) (by omega) (by simp[p8]) (Dc hf h0) (by omega) hf.steps h0 (by omega)
 unfold m23
 rw[aiX hfit hl]
 dsimp only
 have e2':GS ⟨[],f.ai,(f.ai.length:Int),0,f,v,⟨⟨0,0,0⟩,[],⟨0,0,0⟩,[]⟩,⟨(tr (dJ f v box)).ah,(tr (dJ f v box)).ay,[],(tr (dJ f v box)).aB⟩⟩=_:=e2
 rw[e2']
 dsimp only
 rw[eF,cond_false]
 have e3':r88 f (p8 f (dJ f v box)) f.bw ⟨(tr (dJ f v box)).ah,(tr (dJ f v box)).ay,[],(tr (dJ f v box)).aB⟩=_:=e3
 rw[e3']
 dsimp only
 unfold fG
 cases v.rR<;>rfl
end Go.Proofs.YtnfljbehcffmcaaGreat
end
noncomputable section
set_option maxRecDepth 100000
namespace Go.Proofs.YtnfljbehcffmcaaGreat
open Go Go.Iv
abbrev E18:Type:=Bool
def d18:Td 0 E18:= .c [] [0] (.r 0 0 (ec 0 qb en) sn (fun z=>z.1.1) (fun x=>((x,()),(()))) fun _=>rfl)
def A18:=ln
def m18:E18:=true
def alp:Prop:=HL Tryz.prog 18 A18 d18 (fun _=>some m18)
def e18:aI->aI:=eL Tryz.prog 18 false A18 d18 (fun _=>some m18)
theorem MX(hv:alp){F:aI}(h:aZ Tryz.prog F):aZ Tryz.prog (e18 F):=fW (sc:=wQ) dL hv ⟨_,Tryz.func18,by kernel_rfl,by kernel_rfl⟩ (fun _=>by kernel_rfl) (fun _=>by kernel_rfl) h
theorem Fg:EP e18:=fun h=>kP h
theorem t18:yD Tryz.prog cL (fun _=>false) 300 60 Bool 18 [] [] 0 (Ve NZ)=some true:=by kernel_rfl
theorem M6{P:Program}{f:FuncId}{xs:List AV}{d:AV}(h:Iv.Fn P f xs [] (fun a s=>a=d/\s=[]))(ha:∀ρ:Gh,xs.map (bL.sub ρ)=xs)(hd:∀ρ:Gh,d.sub ρ=d):Mj P f xs [] 0 ⟨d,[],0⟩:=fun ρ=>by
 rw[ha ρ]
 exact h.mono fun a s ⟨h1,h2⟩=>⟨ρ,fun _ _=>⟨rfl,rfl⟩,by rw[h1];exact(hd ρ).symm,by rw[h2];exact List.Perm.refl _⟩
theorem acK:iP Tryz.prog 18 0 (d18.pat m18)=⟨.b true,[],0⟩:=by kernel_rfl
theorem aky:alp:=fun g b hb=>by
 cases hb
 rw[acK]
 exact M6 (aeE (Ec (P:=Tryz.prog) (aK (P:=Tryz.prog)).ok (aK (P:=Tryz.prog)).nat 300 60) P0.b rfl (fun d hd=>by cases hd) t18).2 (fun _=>rfl) (fun ρ=>iL 2 (by kernel_rfl))
end Go.Proofs.YtnfljbehcffmcaaGreat
end
noncomputable section
set_option maxRecDepth 100000
namespace Go.Proofs.YtnfljbehcffmcaaGreat
open Go Go.Iv
open Go.IntKind (i64)
def F19:aI:=(e78 (e53 (e24 cL)))
abbrev E19:Type:=Bool
def d19:Td 0 E19:= .c [] [6] (.r 0 0 (ec 6 qb en) sn (fun z=>z.1.1) (fun x=>((x,()),(()))) fun _=>rfl)
theorem apQ:∀f∈([24,53,78]:List Nat),aV (F19) f:=(ax (jC (oH (yQ aY))) (ax (jC (oH (yQ aY))) (ax (jC (oH (yQ aY))) aC)))
def m19(a0:Flat)(a1:View)(a2:List aD):Option E19:=
 match bif decide ((↑a1.aR.length:Int)<=20)then bif decide ((↑a2.length:Int)<=20)then match m53 a0 (70) (300)with|none=>none|some r1=>bif r1 then match m78 a0 with|none=>none|some r2=>bif bif decide (r2=0)then false else true then some (true)else match m24 a0 (4096) (4096) (256)with|none=>none|some r3=>some (r3)else some (false)else some (false)else some (false)with|none=>none|some r4=>some (r4)
def e19:aI->aI:=eL Tryz.prog 19 false (lc (qg 26) (lc (qg 29) (lc (ql 34) ln))) d19 (fun g=>m19 g.1 g.2.1 g.2.2.1)
theorem O2:EO e19:=fun h=>kL (F:=F19) (an:=(.two .no (.two (.rb [24,53,78] 6) .no))) (l:=[(.skip,(.rb [24,53,78] 6))]) Tryz.func19 (Hx (Tk (ag9 aK))) (ax apQ aC) h
theorem Fc:EP e19:=fun h=>kP h
structure xp where
 (t0 t1:List aD)
 (t12 t13:Int)
def SO:Td 0 xp:= .c [] [0,1,12,13] (.r 0 0 (ec 0 (ql 34) (ec 1 (ql 34) (ec 12 (qi .i64) (ec 13 (qi .i64) en)))) sn (fun z=>⟨z.1.1,z.1.2.1,z.1.2.2.1,z.1.2.2.2.1⟩) (fun x=>((x.t0,x.t1,x.t12,x.t13,()),(()))) fun _=>rfl)
def Ld(p:xp):Option (Option xp):=
 bif decide (p.t13<p.t12)then if(0:Int)<=p.t13/\p.t13<(↑p.t0.length:Int)then if(0:Int)<=p.t13/\p.t13<(↑p.t1.length:Int)then bif bif bif decide (p.t0[p.t13.toNat]!.aa=p.t1[p.t13.toNat]!.aa)then bif decide (p.t0[p.t13.toNat]!.af=p.t1[p.t13.toNat]!.af)then bif decide (p.t0[p.t13.toNat]!.ag=p.t1[p.t13.toNat]!.ag)then true else false else false else false then false else true then some (none)else some (some (xp.mk p.t0 p.t1 p.t12 (i64.wrap (p.t13+1))))else none else none else some (none)
def LU:xp->Option xp:=bt (Ld)
abbrev E64:Type:=Bool
def d64:Td 0 E64:= .c [] [4] (.r 0 0 (ec 4 qb en) sn (fun z=>z.1.1) (fun x=>((x,()),(()))) fun _=>rfl)
def m64(a0:List aD)(a1:List aD):Option E64:=
 bif bif decide ((↑a0.length:Int)=(↑a1.length:Int))then false else true then some (false)else match LU (xp.mk a0 a1 (↑a0.length:Int) (0))with|none=>none|some r1=>bif decide (r1.t13<r1.t12)then if(0:Int)<=r1.t13/\r1.t13<(↑r1.t0.length:Int)then if(0:Int)<=r1.t13/\r1.t13<(↑r1.t1.length:Int)then bif bif bif decide (r1.t0[r1.t13.toNat]!.aa=r1.t1[r1.t13.toNat]!.aa)then bif decide (r1.t0[r1.t13.toNat]!.af=r1.t1[r1.t13.toNat]!.af)then bif decide (r1.t0[r1.t13.toNat]!.ag=r1.t1[r1.t13.toNat]!.ag)then true else false else false else false then false else true then some (false)else none else none else none else some (true)
def e64:aI->aI:=eL Tryz.prog 64 false (lc (ql 34) (lc (ql 34) ln)) d64 (fun g=>m64 g.1 g.2.1)
theorem adI:EO e64:=fun h=>kL (an:=(.two .no (.two .no (.two (.two .no (SO.lp LU .no)) .no)))) (l:=[(aS Tryz.f64 0,(SO.lp LU .no))]) Tryz.func64 aK (ax (aO SO) aC) h
theorem Sh:EP e64:=fun h=>kP h
def F22:aI:=(e64 cL)
abbrev E22:Type:=Bool
def d22:Td 0 E22:= .c [] [4] (.r 0 0 (ec 4 qb en) sn (fun z=>z.1.1) (fun x=>((x,()),(()))) fun _=>rfl)
theorem apL:∀f∈([64]:List Nat),aV (F22) f:=(ax (Sh aY) aC)
def m22(a0:Abstract)(a1:Abstract):Option E22:=
 match bif bif decide (a0.ay.aa=a1.ay.aa)then bif decide (a0.ay.af=a1.ay.af)then bif decide (a0.ay.ag=a1.ay.ag)then true else false else false else false then bif bif decide (a0.aB.aa=a1.aB.aa)then bif decide (a0.aB.af=a1.aB.af)then bif decide (a0.aB.ag=a1.aB.ag)then true else false else false else false then match m64 a0.az a1.az with|none=>none|some r1=>bif r1 then match m64 a0.uJ a1.uJ with|none=>none|some r2=>some (r2)else some (false)else some (false)else some (false)with|none=>none|some r3=>some (r3)
def e22:aI->aI:=eL Tryz.prog 22 false (lc (qg 36) (lc (qg 36) ln)) d22 (fun g=>m22 g.1 g.2.1)
theorem acY:EO e22:=fun h=>kL (F:=F22) (an:=(.two .no (.two (.rb [64] 4) .no))) (l:=[(.skip,(.rb [64] 4))]) Tryz.func22 (adI aK) (ax apL aC) h
def F3:aI:=(e23 (e22 (e21 (e20 (e19 (e18 cL))))))
theorem ahN:aZ Tryz.prog F3:=(HM (acY (Sc (HX (O2 (MX aky aK))))))
abbrev E3:Type:=Bool
def d3:Td 0 E3:= .c [] [6] (.r 0 0 (ec 6 qb en) sn (fun z=>z.1.1) (fun x=>((x,()),(()))) fun _=>rfl)
def A3:=(lc (qg 26) (lc (qg 29) (lc (ql 34) ln)))
def an3:An:= .no
theorem fa3:eC Tryz.prog (F3) 0 300 3 (an3):=bT (l:=[]) Tryz.func3 (bA (by kernel_rfl)) (by kernel_rfl) aC
def m3(a0:Flat)(a1:View)(a2:List aD):Option E3:=
 bif bif m18 then false else true then some (false)else match m19 a0 a1 a2 with|none=>none|some r1=>bif bif r1 then false else true then some (true)else match m20 a0 a1 a2 with|none=>none|some r2=>match m21 a0 a1 a2 with|none=>none|some r3=>bif bif decide (r3=0)then false else true then bif decide (r2.snd=r3)then match m22 r2.fst (Abstract.mk (aD.mk (0) (0) (0)) [] (aD.mk (0) (0) (0)) [])with|none=>none|some r4=>some (r4)else some (false)else bif decide (r2.snd=0)then match m23 a0 a1 a2 with|none=>none|some r5=>match m22 r2.fst r5 with|none=>none|some r6=>some (r6)else some (false)
theorem c3(a0:Flat)(a1:View)(a2:List aD):bK Tryz.prog (F3) 300 (an3) 3 (A3.c (a0,a1,a2,())) [] 0 d3.rd=m3 a0 a1 a2:=by kernel_rfl
theorem h3:HL Tryz.prog 3 A3 d3 (fun g=>m3 g.1 g.2.1 g.2.2.1):=(dx ahN fa3 (fun _=>by kernel_rfl) (fun _=>by kernel_rfl) fun g=>c3 g.1 g.2.1 g.2.2.1)
def e3:aI->aI:=eL Tryz.prog 3 false A3 d3 (fun g=>m3 g.1 g.2.1 g.2.2.1)
def F6:aI:=(e38 (e37 (e31 (e26 (e25 (e21 (e19 (e18 cL))))))))
theorem alA:aZ Tryz.prog F6:=(afv (afN (agi (agt (afy (Sc (O2 (MX aky aK))))))))
abbrev E6:Type:=Bool
def d6:Td 0 E6:= .c [] [6] (.r 0 0 (ec 6 qb en) sn (fun z=>z.1.1) (fun x=>((x,()),(()))) fun _=>rfl)
def A6:=(lc (qg 26) (lc (qg 29) (lc (ql 34) ln)))
def an6:An:=(.two .no (.two .no (.two .no (.two .no (.two .no (.two .no (.two .no (.two (.rb [31,38] 6) .no))))))))
theorem pu6:∀f∈([31,38]:List Nat),aV (F6) f:=(ax (FO (Gu (f:=31) rfl (El (FU (f:=31) rfl (Ei (Gz (Fc (Fg aY)))))))) (ax (FO (Gu (f:=38) rfl (El (FU (f:=38) rfl (Ei (Gz (Fc (Fg aY)))))))) aC))
theorem fa6:eC Tryz.prog (F6) 0 300 6 (an6):=bT (l:=[(.skip,(.rb [31,38] 6))]) Tryz.func6 (bA (by kernel_rfl)) (by kernel_rfl) (ax pu6 aC)
def m6(a0:Flat)(a1:View)(a2:List aD):Option E6:=
 bif bif m18 then false else true then some (false)else match m19 a0 a1 a2 with|none=>none|some r1=>bif bif r1 then false else true then some (true)else match m26 a0 a1 a2 with|none=>none|some r2=>match m25 a0 a1 a2 with|none=>none|some r3=>match m21 a0 a1 a2 with|none=>none|some r4=>bif bif decide (r4=0)then false else true then bif decide (r2.snd.snd=r4)then bif decide (r3.snd=r4)then bif bif r2.snd.fst then false else true then bif decide (r3.fst=0)then match m31 r2.fst (bh.mk [] (0))with|none=>none|some r5=>some (r5)else some (false)else some (false)else some (false)else some (false)else match m37 a0 a1 a2 with|none=>none|some r6=>match bif decide (r2.snd.snd=0)then bif decide (r3.snd=0)then bif r2.snd.fst==r6.snd then match m31 r2.fst r6.fst with|none=>none|some r7=>bif r7 then match m38 a0 a1 a2 with|none=>none|some r8=>bif decide (r3.fst=r8)then some (decide (((r3.fst,r3.snd,()),()).fst.fst=1)==r2.snd.fst)else some (false)else some (false)else some (false)else some (false)else some (false)with|none=>none|some r9=>some (r9)
theorem c6(a0:Flat)(a1:View)(a2:List aD):bK Tryz.prog (F6) 300 (an6) 6 (A6.c (a0,a1,a2,())) [] 0 d6.rd=m6 a0 a1 a2:=by kernel_rfl
theorem h6:HL Tryz.prog 6 A6 d6 (fun g=>m6 g.1 g.2.1 g.2.2.1):=(dx alA fa6 (fun _=>by kernel_rfl) (fun _=>by kernel_rfl) fun g=>c6 g.1 g.2.1 g.2.2.1)
def e6:aI->aI:=eL Tryz.prog 6 false A6 d6 (fun g=>m6 g.1 g.2.1 g.2.2.1)
end Go.Proofs.YtnfljbehcffmcaaGreat
end
noncomputable section
namespace Go.Proofs.YtnfljbehcffmcaaGreat
open Go Go.Iv
theorem Ef(l:List aD)(hl:l.length<=1000000):m64 l l=some true:=by
 obtain⟨b,e1,hI⟩:=cK (rnd:=Ld) l.length (fun i (_:Unit)=>⟨l,l,(l.length:Int),(i:Int)⟩) (fun i b=>True) (fun i b hi hb=>by
  have hw:=fh hi (by omega)
  have i1:(i:Int)<(l.length:Int):=by omega
  have i2:(0:Int)<=(i:Int):=by omega
  refine⟨(),?_,trivial⟩
  unfold Ld
  simp only[Int.toNat_natCast,i1,i2,decide_true,cond_true,cond_false,and_self,if_true,hw]) (fun b _=>by unfold Ld;simp) (b:=()) trivial
 have e1':LU ⟨l,l,(l.length:Int),0⟩=some ⟨l,l,(l.length:Int),(l.length:Int)⟩:=e1
 unfold m64
 simp only[decide_true,cond_true,cond_false,e1',Int.lt_irrefl,decide_false]
theorem EJ(a:Abstract)(h1:a.az.length<=1000000)(h2:a.uJ.length<=1000000):m22 a a=some true:=by
 unfold m22
 simp only[decide_true,cond_true,Ef _ h1,Ef _ h2]
theorem KT{f:Flat}(h:NF f 70 300=true):dS f.bw+iA (f.ai.map (·.au))<=300/\f.ai.length<=70/\f.ah.length<=70:=by
 unfold NF at h
 rw[decide_eq_true_eq]at h
 omega
theorem ane(f:Flat)(v:View)(box:List aD):∃r,m19 f v box=some r/\(r=true->NF f 70 300=true/\box.length<=20/\(xq f=0->NF f 10 80=true)):=by
 unfold m19
 by_cases h1:(v.aR.length:Int)<=20
 case neg=>rw[decide_eq_false h1];exact⟨false,rfl,fun h=>by cases h⟩
 by_cases h2:(box.length:Int)<=20
 case neg=>rw[decide_eq_true h1,decide_eq_false h2];exact⟨false,rfl,fun h=>by cases h⟩
 rw[decide_eq_true h1,decide_eq_true h2,PR f 70 300 (by decide) (by decide) (by decide) (by decide)]
 cases hf:NF f 70 300 with
 |false=>exact⟨false,rfl,fun h=>by cases h⟩
 |true=>
  obtain⟨q1,q2,q3⟩:=KT hf
  rw[HR f (by omega) (by omega) (by omega)]
  by_cases hc:xq f=0
  ·obtain⟨r,e,hr⟩:=afF f 4096 4096 256
   rw[e]
   simp only[hc,decide_true,cond_true,cond_false]
   exact⟨r,rfl,fun h=>⟨trivial,by omega,fun _=>(hr h).1⟩⟩
  ·simp only[hc,decide_false,cond_true,cond_false]
   exact⟨true,rfl,fun _=>⟨trivial,by omega,fun k=>by first|exact absurd k hc|exact k.elim⟩⟩
theorem PI{f:Flat}{v:View}{box:List aD}(h:Fits f v box):(fG f v box).az.length<=8/\(fG f v box).uJ.length=f.ah.length:=by
 have hf:=HB h.c
 have h0:=ud h
 have ho:dg f.bw<=8:=by have:=hf.o;unfold dg;omega
 have k:=gu (hv:=p8 f (dJ f v box)) (by simp[p8]) (Dc hf h0) _ f.bw true (Nat.lt_succ_self _) hf.steps _ _ h0
 have:=k.sl
 exact⟨by show (Ed f v box).az.length<=8;unfold Ed;omega,k.len⟩
theorem aqY(f:Flat)(v:View)(box:List aD):m3 f v box=some true:=by
 obtain⟨r,e,hr⟩:=ane f v box
 unfold m3
 rw[e]
 cases r with
 |false=>rfl
 |true=>
  obtain⟨hf,_,_⟩:=hr rfl
  obtain⟨q1,q2,q3⟩:=KT hf
  rw[ako (by omega) (by omega) (by omega),alF (by omega) (by omega) (by omega)]
  by_cases hc:zK f v box=0
  ·have hfit:=MU hc
   obtain⟨l1,l2⟩:=PI hfit
   rw[if_pos hc,hc,alQ (by omega) (by omega) (by omega) hfit]
   simp only[m18,decide_true,cond_true,cond_false,EJ _ (show (fG f v box).az.length<=1000000 by omega) (show (fG f v box).uJ.length<=1000000 by omega)]
  ·rw[if_neg hc]
   have e22:m22 A0 (Abstract.mk (aD.mk (0) (0) (0)) [] (aD.mk (0) (0) (0)) [])=some true:=EJ A0 (by decide) (by decide)
   simp only[m18,hc,decide_true,decide_false,cond_true,cond_false]
   rw[e22]
end Go.Proofs.YtnfljbehcffmcaaGreat
end
noncomputable section
namespace Go.Iv
variable [U:qz]
open Go Go.RowKit Go.Deep Go.ChangeShapes Go.WideShapes Go.Joins
theorem adz{P:Program}{f:FuncId}{args:List AV}(h:Iv.Fn P f args [] (fun a s=>a= .b true/\s=[])){A:Nat->Prop}{w:World}{vs:List Value}(hr:bk A w args vs):
  Calls P f vs.toArray w fun e w'=>∃v,e= .returned v/\v= .bool true/\Below w.heap.size w w':=
 (h w A vs hr ⟨fun r hr=>by simp at hr,fun b hb=>by simp[bg]at hb⟩ (by simp[bg])).mono fun e w' ⟨v,av,σ',h1,⟨h2,h3⟩,h4,h5⟩=>by
  subst h2
  exact⟨v,h1,h5.cc,h4.kp.below⟩
abbrev pT:Nat->Prop:=fun _=>True
def iN{α:Type}{H:Type}(enc:TypeId×Value->H)(P:Program)(w:World)(t:TypeId)(c:α->List AV)(ok:α->Prop):Prop:=
 ∀(base:Nat) (fuel:Nat) (cs:List Value) (x:DataW H×List MemPlace),DataW.trod enc P w base (fun _=>true) true fuel t cs=some x->∃a,ok a/\bk pT w (c a) cs
section
variable {α:Type} {H:Type} {enc:TypeId×Value->H} {P:Program} {w:World} {t e:TypeId}
theorem iN.int{k:IntKind}(ht:P.underlying t=some (.int k)):iN enc P w t (cN k) (fun n=>(Lit.int k n).wf=true):=fun base fuel cs x h=>by
 obtain⟨n,rfl,_,hw⟩:=DataW.trod_int ht h
 exact⟨n,hw,bk.cons (.lit _) bk.nil⟩
theorem iN.bool(ht:P.underlying t=some .bool):iN enc P w t cB (fun _=>True):=fun base fuel cs x h=>by
 obtain⟨b,rfl,_⟩:=DataW.trod_bool ht h
 exact⟨b,trivial,bk.cons (.lit _) bk.nil⟩
theorem iN.slice{ok:U.cE e->Prop}{sz:Nat}(ht:P.underlying t=some (.slice e))(hc:P.cellsOf e=sz+1)(hs:U.sz e=sz+1)(he:iN enc P w e (U.cells e) ok):
  iN enc P w t (fun l:List (U.cE e)=>[.sl e l]) (fun l=>l.length<=9223372036854775807/\∀a∈l,ok a):=fun base fuel cs x h=>by
 rcases open_slice ht h with ⟨rfl,_⟩|⟨a,len,cp,m,n,D,Pl,hcs,hb,hl,hm,hmm,_,hx⟩
 ·refine⟨[],⟨by simp,by simp⟩,bk.cons ?_ bk.nil⟩
  exact .sl e ([]:List (U.cE e)) none 0 (fun _ _=>default) (by simp) (by simp) (fun i hi=>by simp at hi) (fun i hi=>by simp at hi) (fun i j a hi=>by simp at hi)
 ·subst hcs
  have hmm:m=cp:=by rw[hmm];rfl
  rw[hc]at hx
  have hmx:cp<=9223372036854775807:=by unfold maxLen at hm;omega
  obtain⟨CS,hCS⟩:=choose_lt (α:=List Value×U.cE e) (p:=fun i y=>w.cells? base (a.add (i*(sz+1))) (sz+1)=some y.1/\ok y.2/\bk pT w (U.cells e y.2) y.1) (n:=len) (fun i hi=>by
   obtain⟨cs',h1,h2⟩:=hx i (by omega)
   obtain⟨y,h3,h4⟩:=he _ _ _ _ h2
   exact⟨(cs',y),h1,h3,h4⟩)
  obtain⟨l,hld⟩:∃l:List (U.cE e),l=(List.range len).map fun i=>(CS i).2:=⟨_,rfl⟩
  have hln:l.length=len:=by rw[hld];simp
  have hget:∀i,i<len->l[i]! =(CS i).2:=fun i hi=>by
   rw[getElem!_pos l i (by omega)];simp[hld]
  refine⟨l,⟨by omega,fun y hy=> ?_⟩,bk.cons ?_ bk.nil⟩
  ·rw[hld,List.mem_map]at hy
   obtain⟨i,hi,rfl⟩:=hy
   exact(hCS i (by simpa using hi)).2.1
  ·rw[<-hln]
   refine .sl e l (some a) cp (fun i j=>(CS i).1[j]!) (by omega) (by omega) (fun i hi=> ?_) (fun i hi=> ?_) (fun i j av hi hj=> ?_)
   ·rw[hln]at hi
    obtain⟨h1,_,h3⟩:=hCS i hi
    obtain⟨_,h5,_⟩:=World.cells?_some h1
    rw[hget i hi,<-h3.1,h5,hs]
   ·rw[hln]at hi
    obtain⟨h1,_,h3⟩:=hCS i hi
    obtain⟨_,h5,h6⟩:=World.cells?_some h1
    have hj:∀j,j<sz+1->w.cell? ((a.add (i*(sz+1))).add j)=some (CS i).1[j]! :=fun j hj=>by
     rw[h6 j hj,getElem!_pos _ j (by omega),List.getElem?_eq_getElem (by omega)]
    obtain⟨b,off,spot⟩:=a
    have hs:spot=none:=by
     obtain⟨g1,_,_⟩:=hCS 0 (by omega)
     obtain⟨_,g5,g6⟩:=World.cells?_some g1
     have:=World.cell?_spot (v:=(CS 0).1[0]!) (w:=w) (a:=((⟨b,off,spot⟩:Addr).add (0*(sz+1))).add 0) (by rw[g6 0 (by omega),getElem!_pos _ 0 (by omega),List.getElem?_eq_getElem (by omega)])
     simpa [Addr.add]using this
    subst hs
    have hj':∀j,j<sz+1->w.cell? ⟨b,off+i*(sz+1)+j,none⟩=some (CS i).1[j]! :=fun j hlt=>by
     have:=hj j hlt
     have ap:∀o i:Nat,(⟨b,o,none⟩:Addr).add i=⟨b,o+i,none⟩:=fun o i=>by
      unfold Addr.add
      split
      ·rename_i h0;simp only[h0,Nat.add_zero]
      ·rfl
     rw[ap,ap]at this
     exact this
    exact⟨b,off,rfl,World.block_lt_of_cell? w _ (hj' 0 (by omega)),trivial,by rw[hs];exact hj'⟩
   ·rw[hln]at hi
    rw[hget i hi]at hj
    obtain⟨h1,_,h3⟩:=hCS i hi
    obtain⟨v,q1,q2⟩:=h3.get hj
    show Rel pT w av (CS i).1[j]!
    obtain⟨q3,q4⟩:=List.getElem?_eq_some_iff.1 q1
    rw[getElem!_pos _ j q3,q4]
    exact q2
theorem iN.one{c:α->AV}{ok:α->Prop}{v:Value}{d:DataW H}{p:List MemPlace}(he:iN enc P w t (fun a=>[c a]) ok)(hv:v.cells=#[v])(h:DataW.Trod enc P w 0 (fun _=>true) true t v d p):∃a,ok a/\Rel pT w (c a) v:=by
 obtain⟨fuel,hf⟩:=h
 rw[hv]at hf
 obtain⟨a,h1,h2⟩:=he _ _ _ _ hf
 exact⟨a,h1,h2.2 0 _ _ rfl rfl⟩
theorem iN.agg{c:α->List AV}{ok:α->Prop}{v:Value}{cs:Array Value}{d:DataW H}{p:List MemPlace}(he:iN enc P w t c ok)(hv:v= .agg cs)(h:DataW.Trod enc P w 0 (fun _=>true) true t v d p):∃a,ok a/\Rel pT w (.agg (c a)) v:=by
 obtain⟨fuel,hf⟩:=h
 subst hv
 obtain⟨l⟩:=cs
 obtain⟨a,h1,h2⟩:=he _ _ _ _ hf
 exact⟨a,h1,Rel.mY h2⟩
end
theorem Mj.law[L:lY]{P:Program}{f:FuncId}{args:List AV}{x:Out}(h:Mj P f args [] 0 x)(hx:x=⟨.b true,[],0⟩)(ha:args.all (zH 2)=true):Iv.Fn P f args [] (fun a s=>a= .b true/\s=[]):=by
 subst hx
 have h1:=h ⟨fun _=>undef,fun _=>0⟩
 have:args.map (bL.sub ⟨fun _=>undef,fun _=>0⟩)=args.map id:=List.map_congr_left fun c hcm=>iL 2 (List.all_eq_true.1 ha c hcm)
 rw[this,List.map_id]at h1
 exact h1.mono fun a s ⟨ρ',_,e1,e2⟩=>⟨by rw[e1];exact iL 2 rfl,List.Perm.eq_nil e2⟩
theorem bY{A:Nat->Prop}{w:World}{xs bs:List AV}{us:List Value}{n:Nat}(h:bk A w xs (us.take n))(h':bk A w bs (us.drop n)):bk A w (xs++bs) us:=by
 have:=h.app h'
 rwa [List.take_append_drop]at this
def Bd(B:Nat){α:Type}{H:Type}(enc:TypeId×Value->H)(P:Program)(w:World)(t:TypeId)(c:α->List AV)(ok:α->Prop):Prop:=
 ∀(base:Nat) (fuel:Nat),fuel<B->∀(cs:List Value) (x:DataW H×List MemPlace),DataW.trod enc P w base (fun _=>true) true fuel t cs=some x->∃a,ok a/\bk pT w (c a) cs
section
variable {α:Type} {H:Type} {enc:TypeId×Value->H} {P:Program} {w:World} {t e:TypeId}
theorem iN.ofB{c:α->List AV}{ok:α->Prop}(h:∀B,Bd B enc P w t c ok):iN enc P w t c ok:=fun base fuel cs x hx=>h (fuel+1) base fuel (Nat.lt_succ_self _) cs x hx
theorem iN.str(ht:P.underlying t=some .string):iN enc P w t (fun s=>[.s s]) (fun _=>True):=fun base fuel cs x h=>by
 obtain⟨b,rfl,_⟩:=DataW.trod_string ht h
 exact⟨b,trivial,bk.cons (.lit _) bk.nil⟩
theorem iN.any{c:α->List AV}{ok:α->Prop}(h:iN enc P w t c ok):iN enc P w t c (fun _=>True):=fun base fuel cs x hx=>by
 obtain⟨a,_,r⟩:=h base fuel cs x hx
 exact⟨a,trivial,r⟩
theorem Bd.slice{B:Nat}{ok:U.cE e->Prop}{sz:Nat}(ht:P.underlying t=some (.slice e))(hc:P.cellsOf e=sz+1)(hs:U.sz e=sz+1)(he:Bd B enc P w e (U.cells e) ok):
  Bd B enc P w t (fun l:List (U.cE e)=>[.sl e l]) (fun l=>l.length<=9223372036854775807/\∀a∈l,ok a):=fun base fuel hB cs x h=>by
 rcases DataW.trod_slice ht h with ⟨rfl,_⟩|⟨a,len,cp,elems,rest,n,hfu,hcs,_,hb,hl,hm,hlen,hx,_,_⟩
 ·refine⟨[],⟨by simp,by simp⟩,bk.cons ?_ bk.nil⟩
  exact .sl e ([]:List (U.cE e)) none 0 (fun _ _=>default) (by simp) (by simp) (fun i hi=>by simp at hi) (fun i hi=>by simp at hi) (fun i j a hi=>by simp at hi)
 ·subst hcs
  rw[hc]at hx
  have hmx:cp<=9223372036854775807:=by unfold maxLen at hm;omega
  obtain⟨CS,hCS⟩:=choose_lt (α:=List Value×U.cE e) (p:=fun i y=>w.cells? base (a.add (i*(sz+1))) (sz+1)=some y.1/\ok y.2/\bk pT w (U.cells e y.2) y.1) (n:=len) (fun i hi=>by
   have hk:=hx i hi
   rw[List.getElem?_eq_getElem (show i<elems.length by omega)]at hk
   obtain⟨cs',h1,h2⟩:=Option.bind_eq_some_iff.1 hk
   obtain⟨y,h3,h4⟩:=he _ n (by omega) _ _ h2
   exact⟨(cs',y),h1,h3,h4⟩)
  obtain⟨l,hld⟩:∃l:List (U.cE e),l=(List.range len).map fun i=>(CS i).2:=⟨_,rfl⟩
  have hln:l.length=len:=by rw[hld];simp
  have hget:∀i,i<len->l[i]! =(CS i).2:=fun i hi=>by
   rw[getElem!_pos l i (by omega)];simp[hld]
  refine⟨l,⟨by omega,fun y hy=> ?_⟩,bk.cons ?_ bk.nil⟩
  ·rw[hld,List.mem_map]at hy
   obtain⟨i,hi,rfl⟩:=hy
   exact(hCS i (by simpa using hi)).2.1
  ·rw[<-hln]
   refine .sl e l (some a) cp (fun i j=>(CS i).1[j]!) (by omega) (by omega) (fun i hi=> ?_) (fun i hi=> ?_) (fun i j av hi hj=> ?_)
   ·rw[hln]at hi
    obtain⟨h1,_,h3⟩:=hCS i hi
    obtain⟨_,h5,_⟩:=World.cells?_some h1
    rw[hget i hi,<-h3.1,h5,hs]
   ·rw[hln]at hi
    obtain⟨h1,_,h3⟩:=hCS i hi
    obtain⟨_,h5,h6⟩:=World.cells?_some h1
    have hj:∀j,j<sz+1->w.cell? ((a.add (i*(sz+1))).add j)=some (CS i).1[j]! :=fun j hj=>by
     rw[h6 j hj,getElem!_pos _ j (by omega),List.getElem?_eq_getElem (by omega)]
    obtain⟨b,off,spot⟩:=a
    have hs:spot=none:=by
     obtain⟨g1,_,_⟩:=hCS 0 (by omega)
     obtain⟨_,g5,g6⟩:=World.cells?_some g1
     have:=World.cell?_spot (v:=(CS 0).1[0]!) (w:=w) (a:=((⟨b,off,spot⟩:Addr).add (0*(sz+1))).add 0) (by rw[g6 0 (by omega),getElem!_pos _ 0 (by omega),List.getElem?_eq_getElem (by omega)])
     simpa [Addr.add]using this
    subst hs
    have hj':∀j,j<sz+1->w.cell? ⟨b,off+i*(sz+1)+j,none⟩=some (CS i).1[j]! :=fun j hlt=>by
     have:=hj j hlt
     have ap:∀o i:Nat,(⟨b,o,none⟩:Addr).add i=⟨b,o+i,none⟩:=fun o i=>by
      unfold Addr.add
      split
      ·rename_i h0;simp only[h0,Nat.add_zero]
      ·rfl
     rw[ap,ap]at this
     exact this
    exact⟨b,off,rfl,World.block_lt_of_cell? w _ (hj' 0 (by omega)),trivial,by rw[hs];exact hj'⟩
   ·rw[hln]at hi
    rw[hget i hi]at hj
    obtain⟨h1,_,h3⟩:=hCS i hi
    obtain⟨v,q1,q2⟩:=h3.get hj
    show Rel pT w av (CS i).1[j]!
    obtain⟨q3,q4⟩:=List.getElem?_eq_some_iff.1 q1
    rw[getElem!_pos _ j q3,q4]
    exact q2
end
end Go.Iv
end
noncomputable section
set_option maxRecDepth 100000
namespace Go.Proofs.YtnfljbehcffmcaaGreat
open Go Go.Iv Go.RowKit Go.Deep Go.ChangeShapes Go.WideShapes Go.Joins
section
variable {H:Type} {enc:TypeId×Value->H} {w:World}
theorem og9:iN enc Tryz.prog w 9 (fun s=>[.s s]) (fun _=>True):=iN.str Tryz.underlying9
theorem amZ:iN enc Tryz.prog w 129 (cN .i64) (fun _=>True):=(iN.int Tryz.underlying129).any
theorem NB:iN enc Tryz.prog w 3 (cN .i64) (fun _=>True):=(iN.int Tryz.underlying3).any
theorem akV:iN enc Tryz.prog w 131 (uni.cells 131) (fun _=>True):=fun base fuel cs x h=>by
 obtain⟨xs,n,hfu,rfl,hl,hlen,hf⟩:=DataW.trod_struct Tryz.underlying131 h
 rw[show Tryz.prog.cellsOf 131=5 from by kernel_rfl]at hl
 have hlen:xs.length=5:=hlen
 have f0:DataW.trod enc Tryz.prog w base (fun _=>true) true n 9 ((cs.drop 0).take (Tryz.prog.cellsOf 9))=xs[0]? :=hf 0 _ rfl
 rw[show Tryz.prog.cellsOf 9=1 from by kernel_rfl,List.getElem?_eq_getElem (show 0<xs.length by omega)]at f0
 obtain⟨a0,_,r0⟩:=og9 _ _ _ _ f0
 have f1:DataW.trod enc Tryz.prog w base (fun _=>true) true n 129 ((cs.drop 1).take (Tryz.prog.cellsOf 129))=xs[1]? :=hf 1 _ rfl
 rw[show Tryz.prog.cellsOf 129=1 from by kernel_rfl,List.getElem?_eq_getElem (show 1<xs.length by omega)]at f1
 obtain⟨a1,_,r1⟩:=amZ _ _ _ _ f1
 have f2:DataW.trod enc Tryz.prog w base (fun _=>true) true n 3 ((cs.drop 2).take (Tryz.prog.cellsOf 3))=xs[2]? :=hf 2 _ rfl
 rw[show Tryz.prog.cellsOf 3=1 from by kernel_rfl,List.getElem?_eq_getElem (show 2<xs.length by omega)]at f2
 obtain⟨a2,_,r2⟩:=NB _ _ _ _ f2
 have f3:DataW.trod enc Tryz.prog w base (fun _=>true) true n 3 ((cs.drop 3).take (Tryz.prog.cellsOf 3))=xs[3]? :=hf 3 _ rfl
 rw[show Tryz.prog.cellsOf 3=1 from by kernel_rfl,List.getElem?_eq_getElem (show 3<xs.length by omega)]at f3
 obtain⟨a3,_,r3⟩:=NB _ _ _ _ f3
 have f4:DataW.trod enc Tryz.prog w base (fun _=>true) true n 3 ((cs.drop 4).take (Tryz.prog.cellsOf 3))=xs[4]? :=hf 4 _ rfl
 rw[show Tryz.prog.cellsOf 3=1 from by kernel_rfl,List.getElem?_eq_getElem (show 4<xs.length by omega)]at f4
 obtain⟨a4,_,r4⟩:=NB _ _ _ _ f4
 have e:bk pT w [] (cs.drop 5):=by rw[List.drop_of_length_le (by omega)];exact bk.nil
 have s4:=bY (us:=cs.drop 4) r4 (by rw[List.drop_drop];exact e)
 have s3:=bY (us:=cs.drop 3) r3 (by rw[List.drop_drop];exact s4)
 have s2:=bY (us:=cs.drop 2) r2 (by rw[List.drop_drop];exact s3)
 have s1:=bY (us:=cs.drop 1) r1 (by rw[List.drop_drop];exact s2)
 have s0:=bY (us:=cs.drop 0) r0 (by rw[List.drop_drop];exact s1)
 exact⟨(⟨a0,a1,a2,a3,a4⟩:aN),trivial,s0⟩
theorem aoS:iN enc Tryz.prog w 22 (fun l:List (uni.cE 131)=>[.sl 131 l]) (fun l=>l.length<=9223372036854775807/\∀a∈l,True):=iN.slice (e:=131) (sz:=4) Tryz.underlying22 (by kernel_rfl) rfl akV
theorem ajS:iN enc Tryz.prog w 134 (cN .i64) (fun _=>True):=(iN.int Tryz.underlying134).any
theorem Pg:∀B,Bd B enc Tryz.prog w 137 (uni.cells 137) (fun _=>True)
 |0=>fun base fuel hB=>absurd hB (Nat.not_lt_zero _)
 |B+1=>fun base fuel hB cs x h=>by
  have ih:=Pg B
  obtain⟨xs,n,hfu,rfl,hl,hlen,hf⟩:=DataW.trod_struct Tryz.underlying137 h
  rw[show Tryz.prog.cellsOf 137=3 from by kernel_rfl]at hl
  have hlen:xs.length=3:=hlen
  have f0:DataW.trod enc Tryz.prog w base (fun _=>true) true n 134 ((cs.drop 0).take (Tryz.prog.cellsOf 134))=xs[0]? :=hf 0 _ rfl
  rw[show Tryz.prog.cellsOf 134=1 from by kernel_rfl,List.getElem?_eq_getElem (show 0<xs.length by omega)]at f0
  obtain⟨a0,_,r0⟩:=ajS _ _ _ _ f0
  have f1:DataW.trod enc Tryz.prog w base (fun _=>true) true n 3 ((cs.drop 1).take (Tryz.prog.cellsOf 3))=xs[1]? :=hf 1 _ rfl
  rw[show Tryz.prog.cellsOf 3=1 from by kernel_rfl,List.getElem?_eq_getElem (show 1<xs.length by omega)]at f1
  obtain⟨a1,_,r1⟩:=NB _ _ _ _ f1
  have f2:DataW.trod enc Tryz.prog w base (fun _=>true) true n 135 ((cs.drop 2).take (Tryz.prog.cellsOf 135))=xs[2]? :=hf 2 _ rfl
  rw[show Tryz.prog.cellsOf 135=1 from by kernel_rfl,List.getElem?_eq_getElem (show 2<xs.length by omega)]at f2
  obtain⟨a2,_,r2⟩:=Bd.slice (t:=135) (e:=137) (sz:=2) Tryz.underlying135 (by kernel_rfl) rfl ih base n (by omega) _ _ f2
  have e:bk pT w [] (cs.drop 3):=by rw[List.drop_of_length_le (by omega)];exact bk.nil
  have s2:=bY (us:=cs.drop 2) r2 (by rw[List.drop_drop];exact e)
  have s1:=bY (us:=cs.drop 1) r1 (by rw[List.drop_drop];exact s2)
  have s0:=bY (us:=cs.drop 0) r0 (by rw[List.drop_drop];exact s1)
  exact⟨(⟨a0,a1,a2⟩:aq),trivial,s0⟩
theorem aaP:iN enc Tryz.prog w 137 (uni.cells 137) (fun _=>True):=iN.ofB Pg
theorem ajH:iN enc Tryz.prog w 139 (uni.cells 139) (fun _=>True):=fun base fuel cs x h=>by
 obtain⟨xs,n,hfu,rfl,hl,hlen,hf⟩:=DataW.trod_struct Tryz.underlying139 h
 rw[show Tryz.prog.cellsOf 139=6 from by kernel_rfl]at hl
 have hlen:xs.length=4:=hlen
 have f0:DataW.trod enc Tryz.prog w base (fun _=>true) true n 9 ((cs.drop 0).take (Tryz.prog.cellsOf 9))=xs[0]? :=hf 0 _ rfl
 rw[show Tryz.prog.cellsOf 9=1 from by kernel_rfl,List.getElem?_eq_getElem (show 0<xs.length by omega)]at f0
 obtain⟨a0,_,r0⟩:=og9 _ _ _ _ f0
 have f1:DataW.trod enc Tryz.prog w base (fun _=>true) true n 3 ((cs.drop 1).take (Tryz.prog.cellsOf 3))=xs[1]? :=hf 1 _ rfl
 rw[show Tryz.prog.cellsOf 3=1 from by kernel_rfl,List.getElem?_eq_getElem (show 1<xs.length by omega)]at f1
 obtain⟨a1,_,r1⟩:=NB _ _ _ _ f1
 have f2:DataW.trod enc Tryz.prog w base (fun _=>true) true n 3 ((cs.drop 2).take (Tryz.prog.cellsOf 3))=xs[2]? :=hf 2 _ rfl
 rw[show Tryz.prog.cellsOf 3=1 from by kernel_rfl,List.getElem?_eq_getElem (show 2<xs.length by omega)]at f2
 obtain⟨a2,_,r2⟩:=NB _ _ _ _ f2
 have f3:DataW.trod enc Tryz.prog w base (fun _=>true) true n 137 ((cs.drop 3).take (Tryz.prog.cellsOf 137))=xs[3]? :=hf 3 _ rfl
 rw[show Tryz.prog.cellsOf 137=3 from by kernel_rfl,List.getElem?_eq_getElem (show 3<xs.length by omega)]at f3
 obtain⟨a3,_,r3⟩:=aaP _ _ _ _ f3
 have e:bk pT w [] (cs.drop 6):=by rw[List.drop_of_length_le (by omega)];exact bk.nil
 have s3:=bY (us:=cs.drop 3) r3 (by rw[List.drop_drop];exact e)
 have s2:=bY (us:=cs.drop 2) r2 (by rw[List.drop_drop];exact s3)
 have s1:=bY (us:=cs.drop 1) r1 (by rw[List.drop_drop];exact s2)
 have s0:=bY (us:=cs.drop 0) r0 (by rw[List.drop_drop];exact s1)
 exact⟨(⟨a0,a1,a2,a3⟩:cy),trivial,s0⟩
theorem aq0:iN enc Tryz.prog w 23 (fun l:List (uni.cE 139)=>[.sl 139 l]) (fun l=>l.length<=9223372036854775807/\∀a∈l,True):=iN.slice (e:=139) (sz:=5) Tryz.underlying23 (by kernel_rfl) rfl ajH
theorem aiP:iN enc Tryz.prog w 164 (cN .i64) (fun _=>True):=(iN.int Tryz.underlying164).any
theorem alJ:iN enc Tryz.prog w 27 (fun l:List (uni.cE 3)=>[.sl 3 l]) (fun l=>l.length<=9223372036854775807/\∀a∈l,True):=iN.slice (e:=3) (sz:=0) Tryz.underlying27 (by kernel_rfl) rfl NB
theorem Qn:∀B,Bd B enc Tryz.prog w 166 (uni.cells 166) (fun _=>True)
 |0=>fun base fuel hB=>absurd hB (Nat.not_lt_zero _)
 |B+1=>fun base fuel hB cs x h=>by
  have ih:=Qn B
  obtain⟨xs,n,hfu,rfl,hl,hlen,hf⟩:=DataW.trod_struct Tryz.underlying166 h
  rw[show Tryz.prog.cellsOf 166=10 from by kernel_rfl]at hl
  have hlen:xs.length=8:=hlen
  have f0:DataW.trod enc Tryz.prog w base (fun _=>true) true n 164 ((cs.drop 0).take (Tryz.prog.cellsOf 164))=xs[0]? :=hf 0 _ rfl
  rw[show Tryz.prog.cellsOf 164=1 from by kernel_rfl,List.getElem?_eq_getElem (show 0<xs.length by omega)]at f0
  obtain⟨a0,_,r0⟩:=aiP _ _ _ _ f0
  have f1:DataW.trod enc Tryz.prog w base (fun _=>true) true n 3 ((cs.drop 1).take (Tryz.prog.cellsOf 3))=xs[1]? :=hf 1 _ rfl
  rw[show Tryz.prog.cellsOf 3=1 from by kernel_rfl,List.getElem?_eq_getElem (show 1<xs.length by omega)]at f1
  obtain⟨a1,_,r1⟩:=NB _ _ _ _ f1
  have f2:DataW.trod enc Tryz.prog w base (fun _=>true) true n 3 ((cs.drop 2).take (Tryz.prog.cellsOf 3))=xs[2]? :=hf 2 _ rfl
  rw[show Tryz.prog.cellsOf 3=1 from by kernel_rfl,List.getElem?_eq_getElem (show 2<xs.length by omega)]at f2
  obtain⟨a2,_,r2⟩:=NB _ _ _ _ f2
  have f3:DataW.trod enc Tryz.prog w base (fun _=>true) true n 3 ((cs.drop 3).take (Tryz.prog.cellsOf 3))=xs[3]? :=hf 3 _ rfl
  rw[show Tryz.prog.cellsOf 3=1 from by kernel_rfl,List.getElem?_eq_getElem (show 3<xs.length by omega)]at f3
  obtain⟨a3,_,r3⟩:=NB _ _ _ _ f3
  have f4:DataW.trod enc Tryz.prog w base (fun _=>true) true n 137 ((cs.drop 4).take (Tryz.prog.cellsOf 137))=xs[4]? :=hf 4 _ rfl
  rw[show Tryz.prog.cellsOf 137=3 from by kernel_rfl,List.getElem?_eq_getElem (show 4<xs.length by omega)]at f4
  obtain⟨a4,_,r4⟩:=aaP _ _ _ _ f4
  have f5:DataW.trod enc Tryz.prog w base (fun _=>true) true n 24 ((cs.drop 7).take (Tryz.prog.cellsOf 24))=xs[5]? :=hf 5 _ rfl
  rw[show Tryz.prog.cellsOf 24=1 from by kernel_rfl,List.getElem?_eq_getElem (show 5<xs.length by omega)]at f5
  obtain⟨a5,_,r5⟩:=Bd.slice (t:=24) (e:=166) (sz:=9) Tryz.underlying24 (by kernel_rfl) rfl ih base n (by omega) _ _ f5
  have f6:DataW.trod enc Tryz.prog w base (fun _=>true) true n 24 ((cs.drop 8).take (Tryz.prog.cellsOf 24))=xs[6]? :=hf 6 _ rfl
  rw[show Tryz.prog.cellsOf 24=1 from by kernel_rfl,List.getElem?_eq_getElem (show 6<xs.length by omega)]at f6
  obtain⟨a6,_,r6⟩:=Bd.slice (t:=24) (e:=166) (sz:=9) Tryz.underlying24 (by kernel_rfl) rfl ih base n (by omega) _ _ f6
  have f7:DataW.trod enc Tryz.prog w base (fun _=>true) true n 27 ((cs.drop 9).take (Tryz.prog.cellsOf 27))=xs[7]? :=hf 7 _ rfl
  rw[show Tryz.prog.cellsOf 27=1 from by kernel_rfl,List.getElem?_eq_getElem (show 7<xs.length by omega)]at f7
  obtain⟨a7,_,r7⟩:=alJ _ _ _ _ f7
  have e:bk pT w [] (cs.drop 10):=by rw[List.drop_of_length_le (by omega)];exact bk.nil
  have s7:=bY (us:=cs.drop 9) r7 (by rw[List.drop_drop];exact e)
  have s6:=bY (us:=cs.drop 8) r6 (by rw[List.drop_drop];exact s7)
  have s5:=bY (us:=cs.drop 7) r5 (by rw[List.drop_drop];exact s6)
  have s4:=bY (us:=cs.drop 4) r4 (by rw[List.drop_drop];exact s5)
  have s3:=bY (us:=cs.drop 3) r3 (by rw[List.drop_drop];exact s4)
  have s2:=bY (us:=cs.drop 2) r2 (by rw[List.drop_drop];exact s3)
  have s1:=bY (us:=cs.drop 1) r1 (by rw[List.drop_drop];exact s2)
  have s0:=bY (us:=cs.drop 0) r0 (by rw[List.drop_drop];exact s1)
  exact⟨(⟨a0,a1,a2,a3,a4,a5,a6,a7⟩:GStep),trivial,s0⟩
theorem aiR:iN enc Tryz.prog w 166 (uni.cells 166) (fun _=>True):=iN.ofB Qn
theorem aoc:iN enc Tryz.prog w 24 (fun l:List (uni.cE 166)=>[.sl 166 l]) (fun l=>l.length<=9223372036854775807/\∀a∈l,True):=iN.slice (e:=166) (sz:=9) Tryz.underlying24 (by kernel_rfl) rfl aiR
theorem aqL:iN enc Tryz.prog w 26 (uni.cells 26) (fun _=>True):=fun base fuel cs x h=>by
 obtain⟨xs,n,hfu,rfl,hl,hlen,hf⟩:=DataW.trod_struct Tryz.underlying26 h
 rw[show Tryz.prog.cellsOf 26=3 from by kernel_rfl]at hl
 have hlen:xs.length=3:=hlen
 have f0:DataW.trod enc Tryz.prog w base (fun _=>true) true n 22 ((cs.drop 0).take (Tryz.prog.cellsOf 22))=xs[0]? :=hf 0 _ rfl
 rw[show Tryz.prog.cellsOf 22=1 from by kernel_rfl,List.getElem?_eq_getElem (show 0<xs.length by omega)]at f0
 obtain⟨a0,_,r0⟩:=aoS _ _ _ _ f0
 have f1:DataW.trod enc Tryz.prog w base (fun _=>true) true n 23 ((cs.drop 1).take (Tryz.prog.cellsOf 23))=xs[1]? :=hf 1 _ rfl
 rw[show Tryz.prog.cellsOf 23=1 from by kernel_rfl,List.getElem?_eq_getElem (show 1<xs.length by omega)]at f1
 obtain⟨a1,_,r1⟩:=aq0 _ _ _ _ f1
 have f2:DataW.trod enc Tryz.prog w base (fun _=>true) true n 24 ((cs.drop 2).take (Tryz.prog.cellsOf 24))=xs[2]? :=hf 2 _ rfl
 rw[show Tryz.prog.cellsOf 24=1 from by kernel_rfl,List.getElem?_eq_getElem (show 2<xs.length by omega)]at f2
 obtain⟨a2,_,r2⟩:=aoc _ _ _ _ f2
 have e:bk pT w [] (cs.drop 3):=by rw[List.drop_of_length_le (by omega)];exact bk.nil
 have s2:=bY (us:=cs.drop 2) r2 (by rw[List.drop_drop];exact e)
 have s1:=bY (us:=cs.drop 1) r1 (by rw[List.drop_drop];exact s2)
 have s0:=bY (us:=cs.drop 0) r0 (by rw[List.drop_drop];exact s1)
 exact⟨(⟨a0,a1,a2⟩:Flat),trivial,s0⟩
theorem og4:iN enc Tryz.prog w 4 cB (fun _=>True):=iN.bool Tryz.underlying4
theorem aqz:iN enc Tryz.prog w 29 (uni.cells 29) (fun _=>True):=fun base fuel cs x h=>by
 obtain⟨xs,n,hfu,rfl,hl,hlen,hf⟩:=DataW.trod_struct Tryz.underlying29 h
 rw[show Tryz.prog.cellsOf 29=2 from by kernel_rfl]at hl
 have hlen:xs.length=2:=hlen
 have f0:DataW.trod enc Tryz.prog w base (fun _=>true) true n 27 ((cs.drop 0).take (Tryz.prog.cellsOf 27))=xs[0]? :=hf 0 _ rfl
 rw[show Tryz.prog.cellsOf 27=1 from by kernel_rfl,List.getElem?_eq_getElem (show 0<xs.length by omega)]at f0
 obtain⟨a0,_,r0⟩:=alJ _ _ _ _ f0
 have f1:DataW.trod enc Tryz.prog w base (fun _=>true) true n 4 ((cs.drop 1).take (Tryz.prog.cellsOf 4))=xs[1]? :=hf 1 _ rfl
 rw[show Tryz.prog.cellsOf 4=1 from by kernel_rfl,List.getElem?_eq_getElem (show 1<xs.length by omega)]at f1
 obtain⟨a1,_,r1⟩:=og4 _ _ _ _ f1
 have e:bk pT w [] (cs.drop 2):=by rw[List.drop_of_length_le (by omega)];exact bk.nil
 have s1:=bY (us:=cs.drop 1) r1 (by rw[List.drop_drop];exact e)
 have s0:=bY (us:=cs.drop 0) r0 (by rw[List.drop_drop];exact s1)
 exact⟨(⟨a0,a1⟩:View),trivial,s0⟩
theorem apJ:iN enc Tryz.prog w 34 (uni.cells 34) (fun _=>True):=fun base fuel cs x h=>by
 obtain⟨xs,n,hfu,rfl,hl,hlen,hf⟩:=DataW.trod_struct Tryz.underlying34 h
 rw[show Tryz.prog.cellsOf 34=3 from by kernel_rfl]at hl
 have hlen:xs.length=3:=hlen
 have f0:DataW.trod enc Tryz.prog w base (fun _=>true) true n 3 ((cs.drop 0).take (Tryz.prog.cellsOf 3))=xs[0]? :=hf 0 _ rfl
 rw[show Tryz.prog.cellsOf 3=1 from by kernel_rfl,List.getElem?_eq_getElem (show 0<xs.length by omega)]at f0
 obtain⟨a0,_,r0⟩:=NB _ _ _ _ f0
 have f1:DataW.trod enc Tryz.prog w base (fun _=>true) true n 3 ((cs.drop 1).take (Tryz.prog.cellsOf 3))=xs[1]? :=hf 1 _ rfl
 rw[show Tryz.prog.cellsOf 3=1 from by kernel_rfl,List.getElem?_eq_getElem (show 1<xs.length by omega)]at f1
 obtain⟨a1,_,r1⟩:=NB _ _ _ _ f1
 have f2:DataW.trod enc Tryz.prog w base (fun _=>true) true n 3 ((cs.drop 2).take (Tryz.prog.cellsOf 3))=xs[2]? :=hf 2 _ rfl
 rw[show Tryz.prog.cellsOf 3=1 from by kernel_rfl,List.getElem?_eq_getElem (show 2<xs.length by omega)]at f2
 obtain⟨a2,_,r2⟩:=NB _ _ _ _ f2
 have e:bk pT w [] (cs.drop 3):=by rw[List.drop_of_length_le (by omega)];exact bk.nil
 have s2:=bY (us:=cs.drop 2) r2 (by rw[List.drop_drop];exact e)
 have s1:=bY (us:=cs.drop 1) r1 (by rw[List.drop_drop];exact s2)
 have s0:=bY (us:=cs.drop 0) r0 (by rw[List.drop_drop];exact s1)
 exact⟨(⟨a0,a1,a2⟩:aD),trivial,s0⟩
theorem aqZ:iN enc Tryz.prog w 30 (fun l:List (uni.cE 34)=>[.sl 34 l]) (fun l=>l.length<=9223372036854775807/\∀a∈l,True):=iN.slice (e:=34) (sz:=2) Tryz.underlying30 (by kernel_rfl) rfl apJ
end
end Go.Proofs.YtnfljbehcffmcaaGreat
end
noncomputable section
namespace Go.Proofs.YtnfljbehcffmcaaGreat
open Go Go.Iv
theorem aju:iP Tryz.prog 3 0 (d3.pat true)=⟨.b true,[],0⟩:=by kernel_rfl
theorem al7(f:Flat)(v:View)(box:List aD):Iv.Fn Tryz.prog 3 [.agg (uni.cells 26 f), .agg (uni.cells 29 v), .sl 34 box] [] (fun a s=>a= .b true/\s=[]):=(h3 (f,v,box,()) true (aqY f v box)).law aju (by kernel_rfl)
end Go.Proofs.YtnfljbehcffmcaaGreat
end
