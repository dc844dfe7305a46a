/- Merged: Hw, Nf1, Nf2, Nf3, Nf4, Hk, Hu, Nf5, Nf6, Nf7, Nf8, Nf9, Iy1, Iy2, Opd, Qe. -/
import Derived.Test.YtnfljbehcffmcaaGreatM6AbstractBounds
import Derived.Test.YtnfljbehcffmcaaGreatM3AbstractBounds
import Derived.Test.YtnfljbehcffmcaaGreatM2AbstractBounds
import Derived.Test.YtnfljbehcffmcaaGreatM5AbstractBounds
import Derived.Test.YtnfljbehcffmcaaGreatM4AbstractBounds
import Derived.Deep.Slices
import Derived.Lib.SmallJoins
open Int renaming toNat_natCast → za, le_refl → zk, mul_nonneg → zo, mul_le_mul_of_nonneg_right → zF, mul_assoc → zI, ediv_nonneg → zL, one_mul → zN, ediv_le_self → z7, toNat → yI, mul_le_mul → yN, dvd_zero → yV, le_trans → xA, mul_le_mul_of_nonneg_left → xS, lt_irrefl → xV
open Nat renaming beq → zb, lt_succ_self → zn, le_refl → zx, le_trans → zy, add_mul → zZ, add_zero → yb, zero_add → yu, not_lt_zero → yw, one_mul → y8
open Bool renaming and_eq_true → ze, false_eq_true → yD, true_and → xF, true_eq_false → wg, true → wE, false → wD
open Option renaming bind_eq_some_iff → zi, some → O, none → wC
open List renaming mem_cons_self → zg, length_append → zh, getElem?_eq_getElem → zl, all_eq_true → zm, mem_cons → zu, length_map → zA, mem_cons_of_mem → zC, mem_singleton → zD, take_length → zG, mem_map → zH, range → zJ, drop_drop → zK, mem_append → zP, map_congr_left → zQ, getElem?_eq_some_iff → zS, map_cons → zV, mem_filter → zW, map_append → zY, nil_append → z8, append_nil → yd, length_singleton → yj, getElem_map → yx, length_set → yB, map_nil → yG, length_filter_le → yJ, filter_cons → yK, eq_nil_of_length_eq_zero → yR, append_assoc → yS, cons_append → xe, take_append_drop → xg, drop_of_length_le → xk, filter_append → xy, filter_nil → xG, mem_of_mem_drop → xN, getElem_drop → xZ, mem_of_mem_take → wk, mem_iff_getElem → wB
open Decidable renaming decide → wF
open Go.Proofs.Tryz renaming prog → wG
open Go.Proofs.Tryz
set_option linter.unusedSectionVars false
set_option linter.unusedVariables false
set_option linter.unusedSimpArgs false
noncomputable section
set_option maxRecDepth 100000
namespace Go.Proofs.YtnfljbehcffmcaaGreat
open Go Go.Iv
open Go.IntKind (i64)
def F21:aI:=(e84 (e78 (e43 cQ)))
structure BM where
 t2:List aD
 t95:List aN
 (t96 t97:Int)
def Vn:Td 0 BM:= .c [] [2,95,96,97] (.r 0 1 (ec 2 (ql 34) (ec 95 (qo 0) (ec 96 (qi .i64) (ec 97 (qi .i64) en)))) (sr 0 131 sn) (fun z=>⟨z.1.1,z.2.1,z.1.2.2.1,z.1.2.2.2.1⟩) (fun x=>((x.t2,(),x.t96,x.t97,()),(x.t95,()))) fun _=>rfl)
def Jt(p:BM):Option (Option BM):=
 bif wF (p.t97<p.t96)then if(0:Int)<=p.t97/\p.t97<(↑p.t95.length:Int)then if 131=131/\p.t97.toNat<p.t95.length then match if(0:Int)<=p.t97/\p.t97<(↑p.t2.length:Int)then match Tb p.t2[p.t97.toNat]! with|wC=>wC|O r4=>bif bif r4 then wD else wE then O (wE)else if(0:Int)<=p.t97/\p.t97<(↑p.t2.length:Int)then match qB p.t2[p.t97.toNat]! with|wC=>wC|O r5=>O (wF (r5=0))else wC else wC with|wC=>wC|O r6=>bif r6 then O (wC)else if(0:Int)<=p.t97/\p.t97<(↑p.t2.length:Int)then bif wF (p.t2[p.t97.toNat]!.aa<p.t95[p.t97.toNat]!.aa)then O (wC)else if(0:Int)<=p.t97/\p.t97<(↑p.t2.length:Int)then bif wF (p.t95[p.t97.toNat]!.af<p.t2[p.t97.toNat]!.af)then O (wC)else O (O (BM.mk p.t2 p.t95 p.t96 (i64.wrap (p.t97+1))))else wC else wC else wC else wC else O (wC)
def ae7:An:=(.two .no (.two .no (.two (.two .no (.two (.two (.rb [43,84] 115) .no) .no)) .no)))
def N3:BM->Option BM:=bw (Jt)
structure BS where
 t2:List aD
 (t9 t64:List aN)
 (t65 t66:Int)
 b0:View
def VQ:Td 0 BS:= .c [] [2,4,9,64,65,66] (.r 0 3 (ec 2 (ql 34) (ec 4 (qp 0 0) (ec 9 (qo 1) (ec 64 (qo 2) (ec 65 (qi .i64) (ec 66 (qi .i64) en)))))) (sb 0 29 (lg 29) (sr 1 131 (sr 2 131 sn))) (fun z=>⟨z.1.1,z.2.2.1,z.2.2.2.1,z.1.2.2.2.2.1,z.1.2.2.2.2.2.1,z.2.1⟩) (fun x=>((x.t2,(),(),(),x.t65,x.t66,()),(x.b0,x.t9,x.t64,()))) fun _=>rfl)
def Ii(p:BS):Option (Option BS):=
 bif wF (p.t66<p.t65)then if(0:Int)<=p.t66/\p.t66<(↑p.t64.length:Int)then if 131=131/\p.t66.toNat<p.t64.length then if(0:Int)<=p.t66/\p.t66<(↑p.b0.aS.length:Int)then bif wF (((p.t2,(),(),(),p.t65,p.t66,()),p.b0,p.t9,p.t64,()).snd.fst.aS[((p.t2,(),(),(),p.t65,p.t66,()),p.b0,p.t9,p.t64,()).fst.snd.snd.snd.snd.snd.fst.toNat]! <((p.t2,(),(),(),p.t65,p.t66,()),p.b0,p.t9,p.t64,()).snd.snd.snd.fst[((p.t2,(),(),(),p.t65,p.t66,()),p.b0,p.t9,p.t64,()).fst.snd.snd.snd.snd.snd.fst.toNat]!.aa)then O (wC)else if(0:Int)<=p.t66/\p.t66<(↑p.b0.aS.length:Int)then bif wF (((p.t2,(),(),(),p.t65,p.t66,()),p.b0,p.t9,p.t64,()).snd.snd.snd.fst[((p.t2,(),(),(),p.t65,p.t66,()),p.b0,p.t9,p.t64,()).fst.snd.snd.snd.snd.snd.fst.toNat]!.af<((p.t2,(),(),(),p.t65,p.t66,()),p.b0,p.t9,p.t64,()).snd.fst.aS[((p.t2,(),(),(),p.t65,p.t66,()),p.b0,p.t9,p.t64,()).fst.snd.snd.snd.snd.snd.fst.toNat]!)then O (wC)else O (O (BS.mk p.t2 p.t9 p.t64 p.t65 (i64.wrap (p.t66+1)) p.b0))else wC else wC else wC else wC else O (wC)
def QB:BS->Option BS:=bw (Ii)
structure qP where
 t2:List aD
 (t8 t9:List aN)
 t11:Int
 t23:List Int
 (t24 t25:Int)
 t30:List aN
 (t31 t32:Int)
 b0:Flat
 b1:View
def Vc:Td 0 qP:= .c [] [2,3,4,8,9,11,23,24,25,30,31,32] (.r 0 5 (ec 2 (ql 34) (ec 3 (qp 0 0) (ec 4 (qp 1 0) (ec 8 (qo 2) (ec 9 (qo 3) (ec 11 (qi .i64) (ec 23 (qo 4) (ec 24 (qi .i64) (ec 25 (qi .i64) (ec 30 (ql 131) (ec 31 (qi .i64) (ec 32 (qi .i64) en)))))))))))) (sb 0 26 (lg 26) (sb 1 29 (lg 29) (sr 2 131 (sr 3 131 (sr 4 129 sn))))) (fun z=>⟨z.1.1,z.2.2.2.1,z.2.2.2.2.1,z.1.2.2.2.2.2.1,z.2.2.2.2.2.1,z.1.2.2.2.2.2.2.2.1,z.1.2.2.2.2.2.2.2.2.1,z.1.2.2.2.2.2.2.2.2.2.1,z.1.2.2.2.2.2.2.2.2.2.2.1,z.1.2.2.2.2.2.2.2.2.2.2.2.1,z.2.1,z.2.2.1⟩) (fun x=>((x.t2,(),(),(),(),x.t11,(),x.t24,x.t25,x.t30,x.t31,x.t32,()),(x.b0,x.b1,x.t8,x.t9,x.t23,()))) fun _=>rfl)
def Qs(p:qP):Option (Option qP):=
 bif wF (p.t32<p.t31)then if(0:Int)<=p.t32/\p.t32<(↑p.t30.length:Int)then match bif wF (p.t30[p.t32.toNat]!.aY=p.t11)then O (wF (p.t11=2))else O (wD)with|wC=>wC|O r3=>bif r3 then if(p.t8++[p.t30[p.t32.toNat]!]).length<=1073741824 then O (O (qP.mk p.t2 (p.t8++[p.t30[p.t32.toNat]!]) p.t9 p.t11 p.t23 p.t24 p.t25 p.t30 p.t31 (i64.wrap (p.t32+1)) p.b0 p.b1))else wC else bif wF (p.t30[p.t32.toNat]!.aY=p.t11)then if(p.t9++[p.t30[p.t32.toNat]!]).length<=1073741824 then O (O (qP.mk p.t2 p.t8 (p.t9++[p.t30[p.t32.toNat]!]) p.t11 p.t23 p.t24 p.t25 p.t30 p.t31 (i64.wrap (p.t32+1)) p.b0 p.b1))else wC else O (O (qP.mk p.t2 p.t8 p.t9 p.t11 p.t23 p.t24 p.t25 p.t30 p.t31 (i64.wrap (p.t32+1)) p.b0 p.b1))else wC else O (wC)
def af5:An:=(.two .no (.two .no (.two (.two .no (.two (.rb [43,84] 43) .no)) .no)))
def Jc:qP->Option qP:=bw (Qs)
structure Bz where
 t2:List aD
 (t8 t9:List aN)
 t23:List Int
 (t24 t25:Int)
 b0:Flat
 b1:View
def UU:Td 0 Bz:= .c [] [2,3,4,8,9,23,24,25] (.t (cq.s 8 [] 131) (.t (cq.s 9 [] 131) (.c [] [2,3,4,8,9,23,24,25] (.r 0 5 (ec 2 (ql 34) (ec 3 (qp 0 0) (ec 4 (qp 1 0) (ec 8 (qo 2) (ec 9 (qo 3) (ec 23 (qo 4) (ec 24 (qi .i64) (ec 25 (qi .i64) en)))))))) (sb 0 26 (lg 26) (sb 1 29 (lg 29) (sr 2 131 (sr 3 131 (sr 4 129 sn))))) (fun z=>⟨z.1.1,z.2.2.2.1,z.2.2.2.2.1,z.2.2.2.2.2.1,z.1.2.2.2.2.2.2.1,z.1.2.2.2.2.2.2.2.1,z.2.1,z.2.2.1⟩) (fun x=>((x.t2,(),(),(),(),(),x.t24,x.t25,()),(x.b0,x.b1,x.t8,x.t9,x.t23,()))) fun _=>rfl))))
def Ki(p:Bz):Option (Option Bz):=
 bif wF (p.t25<p.t24)then if(0:Int)<=p.t25/\p.t25<(↑p.t23.length:Int)then if 129=129/\p.t25.toNat<p.t23.length then match Jc (qP.mk p.t2 p.t8 p.t9 p.t23[p.t25.toNat]! p.t23 p.t24 p.t25 p.b0.ag (↑p.b0.ag.length:Int) (0) p.b0 p.b1)with|wC=>wC|O r1=>bif wF (r1.t32<r1.t31)then if(0:Int)<=r1.t32/\r1.t32<(↑r1.t30.length:Int)then match bif wF (r1.t30[r1.t32.toNat]!.aY=r1.t11)then O (wF (r1.t11=2))else O (wD)with|wC=>wC|O r2=>bif r2 then if(r1.t8++[r1.t30[r1.t32.toNat]!]).length<=1073741824 then wC else wC else bif wF (r1.t30[r1.t32.toNat]!.aY=r1.t11)then if(r1.t9++[r1.t30[r1.t32.toNat]!]).length<=1073741824 then wC else wC else wC else wC else O (O (Bz.mk r1.t2 r1.t8 r1.t9 r1.t23 r1.t24 (i64.wrap (r1.t25+1)) r1.b0 r1.b1))else wC else wC else O (wC)
def aeJ:An:=(.two .no (.two .no (.two (.two .no (.two .no (Vc.lp Jc af5))) .no)))
def Kx:Bz->Option Bz:=bw (Ki)
abbrev E21:Type:=Int
def d21:Td 0 E21:= .c [] [6] (.r 0 0 (ec 6 (qi .i64) en) sn (fun z=>z.1.1) (fun x=>((x,()),(()))) fun _=>rfl)
theorem amr:∀f∈([43,84]:List Nat),aV (F21) f:=(az (gD (jY (j4 aZ))) (az (gD (jY (j4 aZ))) aC))
def m21(a0:Flat)(a1:View)(a2:List aD):Option E21:=
 match m78 a0 with|wC=>wC|O r7=>bif bif wF (r7=0)then wD else wE then O (r7)else match Kx (Bz.mk a2 [] [] [1,3,2] (↑3:Int) (0) a0 a1)with|wC=>wC|O r8=>bif wF (r8.t25<r8.t24)then if(0:Int)<=r8.t25/\r8.t25<(↑r8.t23.length:Int)then if 129=129/\r8.t25.toNat<r8.t23.length then match Jc (qP.mk r8.t2 r8.t8 r8.t9 r8.t23[r8.t25.toNat]! r8.t23 r8.t24 r8.t25 r8.b0.ag (↑r8.b0.ag.length:Int) (0) r8.b0 r8.b1)with|wC=>wC|O r9=>bif wF (r9.t32<r9.t31)then if(0:Int)<=r9.t32/\r9.t32<(↑r9.t30.length:Int)then match bif wF (r9.t30[r9.t32.toNat]!.aY=r9.t11)then O (wF (r9.t11=2))else O (wD)with|wC=>wC|O r10=>bif r10 then if(r9.t8++[r9.t30[r9.t32.toNat]!]).length<=1073741824 then wC else wC else bif wF (r9.t30[r9.t32.toNat]!.aY=r9.t11)then if(r9.t9++[r9.t30[r9.t32.toNat]!]).length<=1073741824 then wC else wC else wC else wC else wC else wC else wC else bif bif wF ((↑r8.b1.aS.length:Int)=(↑r8.t8.length:Int))then wD else wE then O (1)else match QB (BS.mk r8.t2 r8.t9 r8.t8 (↑r8.t8.length:Int) (0) r8.b1)with|wC=>wC|O r11=>bif wF (r11.t66<r11.t65)then if(0:Int)<=r11.t66/\r11.t66<(↑r11.t64.length:Int)then if 131=131/\r11.t66.toNat<r11.t64.length then if(0:Int)<=r11.t66/\r11.t66<(↑r11.b0.aS.length:Int)then bif wF (((r11.t2,(),(),(),r11.t65,r11.t66,()),r11.b0,r11.t9,r11.t64,()).snd.fst.aS[((r11.t2,(),(),(),r11.t65,r11.t66,()),r11.b0,r11.t9,r11.t64,()).fst.snd.snd.snd.snd.snd.fst.toNat]! <((r11.t2,(),(),(),r11.t65,r11.t66,()),r11.b0,r11.t9,r11.t64,()).snd.snd.snd.fst[((r11.t2,(),(),(),r11.t65,r11.t66,()),r11.b0,r11.t9,r11.t64,()).fst.snd.snd.snd.snd.snd.fst.toNat]!.aa)then O (3)else if(0:Int)<=r11.t66/\r11.t66<(↑r11.b0.aS.length:Int)then bif wF (((r11.t2,(),(),(),r11.t65,r11.t66,()),r11.b0,r11.t9,r11.t64,()).snd.snd.snd.fst[((r11.t2,(),(),(),r11.t65,r11.t66,()),r11.b0,r11.t9,r11.t64,()).fst.snd.snd.snd.snd.snd.fst.toNat]!.af<((r11.t2,(),(),(),r11.t65,r11.t66,()),r11.b0,r11.t9,r11.t64,()).snd.fst.aS[((r11.t2,(),(),(),r11.t65,r11.t66,()),r11.b0,r11.t9,r11.t64,()).fst.snd.snd.snd.snd.snd.fst.toNat]!)then O (3)else wC else wC else wC else wC else wC else bif bif wF ((↑r11.t2.length:Int)=(↑r11.t9.length:Int))then wD else wE then O (2)else match N3 (BM.mk r11.t2 r11.t9 (↑r11.t9.length:Int) (0))with|wC=>wC|O r12=>bif wF (r12.t97<r12.t96)then if(0:Int)<=r12.t97/\r12.t97<(↑r12.t95.length:Int)then if 131=131/\r12.t97.toNat<r12.t95.length then match if(0:Int)<=r12.t97/\r12.t97<(↑r12.t2.length:Int)then match Tb r12.t2[r12.t97.toNat]! with|wC=>wC|O r13=>bif bif r13 then wD else wE then O (wE)else if(0:Int)<=r12.t97/\r12.t97<(↑r12.t2.length:Int)then match qB r12.t2[r12.t97.toNat]! with|wC=>wC|O r14=>O (wF (r14=0))else wC else wC with|wC=>wC|O r15=>bif r15 then O (1)else if(0:Int)<=r12.t97/\r12.t97<(↑r12.t2.length:Int)then bif wF (r12.t2[r12.t97.toNat]!.aa<r12.t95[r12.t97.toNat]!.aa)then O (3)else if(0:Int)<=r12.t97/\r12.t97<(↑r12.t2.length:Int)then bif wF (r12.t95[r12.t97.toNat]!.af<r12.t2[r12.t97.toNat]!.af)then O (3)else wC else wC else wC else wC else wC else O (0)
def e21:aI->aI:=eL wG 21 wD (lc (qg 26) (lc (qg 29) (lc (ql 34) ln))) d21 (fun g=>m21 g.1 g.2.1 g.2.2.1)
theorem Va:EO e21:=fun h=>kL (F:=F21) (an:=(.two .no (.two .no (.two .no (.two (.two .no (UU.lp Kx aeJ)) (.two .no (.two (.two .no (VQ.lp QB .no)) (.two .no (.two (.two .no (Vn.lp N3 ae7)) .no))))))))) (l:=[(aU f21 0,(UU.lp Kx aeJ)),(aU f21 1,(Vc.lp Jc af5)),(.skip,(.rb [43,84] 43)),(aU f21 2,(VQ.lp QB .no)),(aU f21 3,(Vn.lp N3 ae7)),(.skip,(.rb [43,84] 115))]) func21 (rq (MR (ng aK))) (az (aO UU) (az (aO Vc) (az amr (az (aO VQ) (az (aO Vn) (az amr aC)))))) h
theorem Ij:EP e21:=fun h=>kP h
structure qS where
 t2:List aD
 (t11 t12 t13:Int)
 t33:List aN
 (t34 t35:Int)
 b0:View
 (b1 b2:aB)
def Wc:Td 0 qS:= .c [] [2,4,6,7,11,12,13,33,34,35] (.t (cq.c 2 0 [] 34) (.c [] [2,4,6,7,11,12,13,33,34,35] (.r 0 4 (ec 2 (ql 34) (ec 4 (qp 0 0) (ec 6 (qp 1 0) (ec 7 (qp 2 0) (ec 11 (qi .i64) (ec 12 (qi .i64) (ec 13 (qi .i64) (ec 33 (ql 131) (ec 34 (qi .i64) (ec 35 (qi .i64) en)))))))))) (sb 0 29 (lg 29) (sb 1 147 (lc qn (lc (qi .i64) (lc (qi .i64) (lc (qi .i64) (lc qn (lc (qi .i64) (lc (qi .i64) (lc (qi .i64) ln)))))))) (sb 2 147 (lc (qo 3) (lc (qi .i64) (lc (qi .i64) (lc (qi .i64) (lc qn (lc (qi .i64) (lc (qi .i64) (lc (qi .i64) ln)))))))) (sr 3 34 sn)))) (fun z=>⟨z.1.1,z.1.2.2.2.2.1,z.1.2.2.2.2.2.1,z.1.2.2.2.2.2.2.1,z.1.2.2.2.2.2.2.2.1,z.1.2.2.2.2.2.2.2.2.1,z.1.2.2.2.2.2.2.2.2.2.1,z.2.1,(aB.mk [] (aD.mk z.2.2.1.2.1 z.2.2.1.2.2.1 z.2.2.1.2.2.2.1) [] (aD.mk z.2.2.1.2.2.2.2.2.1 z.2.2.1.2.2.2.2.2.2.1 z.2.2.1.2.2.2.2.2.2.2.1)),(aB.mk z.2.2.2.2.1 (aD.mk z.2.2.2.1.2.1 z.2.2.2.1.2.2.1 z.2.2.2.1.2.2.2.1) [] (aD.mk z.2.2.2.1.2.2.2.2.2.1 z.2.2.2.1.2.2.2.2.2.2.1 z.2.2.2.1.2.2.2.2.2.2.2.1))⟩) (fun x=>((x.t2,(),(),(),x.t11,x.t12,x.t13,x.t33,x.t34,x.t35,()),(x.b0,((),x.b1.au.aa,x.b1.au.af,x.b1.au.ah,(),x.b1.aA.aa,x.b1.aA.af,x.b1.aA.ah,()),((),x.b2.au.aa,x.b2.au.af,x.b2.au.ah,(),x.b2.aA.aa,x.b2.aA.af,x.b2.aA.ah,()),x.b2.ag,()))) fun _=>rfl)))
def PB(p:qS):Option (Option qS):=
 bif wF (p.t35<p.t34)then if(0:Int)<=p.t35/\p.t35<(↑p.t33.length:Int)then bif wF (p.t33[p.t35.toNat]!.aY=1)then if(0:Int)<=p.t11/\p.t11<(↑p.t2.length:Int)then if(p.b2.ag++[p.t2[p.t11.toNat]!]).length<=1073741824 then O (O (qS.mk p.t2 (i64.wrap (p.t11+1)) p.t12 p.t13 p.t33 p.t34 (i64.wrap (p.t35+1)) p.b0 (aB.mk [] p.b1.au [] p.b1.aA) (aB.mk (p.b2.ag++[p.t2[p.t11.toNat]!]) p.b2.au [] p.b2.aA)))else wC else wC else bif wF (p.t33[p.t35.toNat]!.aY=3)then if(0:Int)<=p.t12/\p.t12<(↑p.t2.length:Int)then if(p.b2.ag++[p.t2[p.t12.toNat]!]).length<=1073741824 then O (O (qS.mk p.t2 p.t11 (i64.wrap (p.t12+1)) p.t13 p.t33 p.t34 (i64.wrap (p.t35+1)) p.b0 (aB.mk [] p.b1.au [] p.b1.aA) (aB.mk (p.b2.ag++[p.t2[p.t12.toNat]!]) p.b2.au [] p.b2.aA)))else wC else wC else bif wF (p.t33[p.t35.toNat]!.aY=2)then if(0:Int)<=p.t13/\p.t13<(↑p.b0.aS.length:Int)then if(p.b2.ag++[Tw p.b0.aS[p.t13.toNat]!]).length<=1073741824 then O (O (qS.mk p.t2 p.t11 p.t12 (i64.wrap (p.t13+1)) p.t33 p.t34 (i64.wrap (p.t35+1)) p.b0 (aB.mk [] p.b1.au [] p.b1.aA) (aB.mk (p.b2.ag++[Tw p.b0.aS[p.t13.toNat]!]) p.b2.au [] p.b2.aA)))else wC else wC else if(p.b2.ag++[Tw p.t33[p.t35.toNat]!.dc]).length<=1073741824 then O (O (qS.mk p.t2 p.t11 p.t12 p.t13 p.t33 p.t34 (i64.wrap (p.t35+1)) p.b0 (aB.mk [] p.b1.au [] p.b1.aA) (aB.mk (p.b2.ag++[Tw p.t33[p.t35.toNat]!.dc]) p.b2.au [] p.b2.aA)))else wC else wC else O (wC)
def N8:qS->Option qS:=bw (PB)
structure wX where
 t2:List aD
 t8:Int
 t19:List aN
 (t20 t21:Int)
 b0:Flat
 b1:View
 (b2 b3:aB)
def Uh:Td 0 wX:= .c [] [2,3,4,6,7,8,19,20,21] (.r 0 4 (ec 2 (ql 34) (ec 3 (qp 0 0) (ec 4 (qp 1 0) (ec 6 (qp 2 0) (ec 7 (qp 3 0) (ec 8 (qi .i64) (ec 19 (ql 131) (ec 20 (qi .i64) (ec 21 (qi .i64) en))))))))) (sb 0 26 (lg 26) (sb 1 29 (lg 29) (sb 2 147 (lc qn (lc (qi .i64) (lc (qi .i64) (lc (qi .i64) (lc qn (lc (qi .i64) (lc (qi .i64) (lc (qi .i64) ln)))))))) (sb 3 147 (lc qn (lc (qi .i64) (lc (qi .i64) (lc (qi .i64) (lc qn (lc (qi .i64) (lc (qi .i64) (lc (qi .i64) ln)))))))) sn)))) (fun z=>⟨z.1.1,z.1.2.2.2.2.2.1,z.1.2.2.2.2.2.2.1,z.1.2.2.2.2.2.2.2.1,z.1.2.2.2.2.2.2.2.2.1,z.2.1,z.2.2.1,(aB.mk [] (aD.mk z.2.2.2.1.2.1 z.2.2.2.1.2.2.1 z.2.2.2.1.2.2.2.1) [] (aD.mk z.2.2.2.1.2.2.2.2.2.1 z.2.2.2.1.2.2.2.2.2.2.1 z.2.2.2.1.2.2.2.2.2.2.2.1)),(aB.mk [] (aD.mk z.2.2.2.2.1.2.1 z.2.2.2.2.1.2.2.1 z.2.2.2.2.1.2.2.2.1) [] (aD.mk z.2.2.2.2.1.2.2.2.2.2.1 z.2.2.2.2.1.2.2.2.2.2.2.1 z.2.2.2.2.1.2.2.2.2.2.2.2.1))⟩) (fun x=>((x.t2,(),(),(),(),x.t8,x.t19,x.t20,x.t21,()),(x.b0,x.b1,((),x.b2.au.aa,x.b2.au.af,x.b2.au.ah,(),x.b2.aA.aa,x.b2.aA.af,x.b2.aA.ah,()),((),x.b3.au.aa,x.b3.au.af,x.b3.au.ah,(),x.b3.aA.aa,x.b3.aA.af,x.b3.aA.ah,()),()))) fun _=>rfl)
def OD(p:wX):Option (Option wX):=
 bif wF (p.t21<p.t20)then if(0:Int)<=p.t21/\p.t21<(↑p.t19.length:Int)then bif wF (p.t19[p.t21.toNat]!.aY=1)then O (O (wX.mk p.t2 (i64.wrap (p.t8+1)) p.t19 p.t20 (i64.wrap (p.t21+1)) p.b0 p.b1 (aB.mk [] p.b2.au [] p.b2.aA) (aB.mk [] p.b3.au [] p.b3.aA)))else O (O (wX.mk p.t2 p.t8 p.t19 p.t20 (i64.wrap (p.t21+1)) p.b0 p.b1 (aB.mk [] p.b2.au [] p.b2.aA) (aB.mk [] p.b3.au [] p.b3.aA)))else wC else O (wC)
def OJ:wX->Option wX:=bw (OD)
abbrev E85:Type:=aB
def d85:Td 0 E85:= .c [] [6] (.r 0 2 (ec 6 (qp 0 0) en) (sb 0 147 (lc (qo 1) (lc (qi .i64) (lc (qi .i64) (lc (qi .i64) (lc qn (lc (qi .i64) (lc (qi .i64) (lc (qi .i64) ln)))))))) (sr 1 34 sn)) (fun z=>(aB.mk z.2.2.1 (aD.mk z.2.1.2.1 z.2.1.2.2.1 z.2.1.2.2.2.1) [] (aD.mk z.2.1.2.2.2.2.2.1 z.2.1.2.2.2.2.2.2.1 z.2.1.2.2.2.2.2.2.2.1))) (fun x=>(((),()),(((),x.au.aa,x.au.af,x.au.ah,(),x.aA.aa,x.aA.af,x.aA.ah,()),x.ag,()))) fun _=>rfl)
def m85(a0:Flat)(a1:View)(a2:List aD):Option E85:=
 match OJ (wX.mk a2 (0) a0.ag (↑a0.ag.length:Int) (0) a0 a1 (aB.mk [] (aD.mk (0) (0) (0)) [] (aD.mk (0) (0) (0))) (aB.mk [] (aD.mk (0) (0) (0)) [] (aD.mk (0) (0) (0))))with|wC=>wC|O r1=>bif wF (r1.t21<r1.t20)then if(0:Int)<=r1.t21/\r1.t21<(↑r1.t19.length:Int)then bif wF (r1.t19[r1.t21.toNat]!.aY=1)then wC else wC else wC else match N8 (qS.mk r1.t2 (0) r1.t8 (0) r1.b0.ag (↑r1.b0.ag.length:Int) (0) r1.b1 (aB.mk [] r1.b2.au [] r1.b2.aA) (aB.mk [] r1.b3.au [] r1.b3.aA))with|wC=>wC|O r2=>bif wF (r2.t35<r2.t34)then if(0:Int)<=r2.t35/\r2.t35<(↑r2.t33.length:Int)then bif wF (r2.t33[r2.t35.toNat]!.aY=1)then if(0:Int)<=r2.t11/\r2.t11<(↑r2.t2.length:Int)then if(r2.b2.ag++[r2.t2[r2.t11.toNat]!]).length<=1073741824 then wC else wC else wC else bif wF (r2.t33[r2.t35.toNat]!.aY=3)then if(0:Int)<=r2.t12/\r2.t12<(↑r2.t2.length:Int)then if(r2.b2.ag++[r2.t2[r2.t12.toNat]!]).length<=1073741824 then wC else wC else wC else bif wF (r2.t33[r2.t35.toNat]!.aY=2)then if(0:Int)<=r2.t13/\r2.t13<(↑r2.b0.aS.length:Int)then if(r2.b2.ag++[Tw r2.b0.aS[r2.t13.toNat]!]).length<=1073741824 then wC else wC else wC else if(r2.b2.ag++[Tw r2.t33[r2.t35.toNat]!.dc]).length<=1073741824 then wC else wC else wC else O (aB.mk r2.b2.ag r2.b2.au [] r2.b2.aA)
def e85:aI->aI:=eL wG 85 wD (lc (qg 26) (lc (qg 29) (lc (ql 34) ln))) d85 (fun g=>m85 g.1 g.2.1 g.2.2.1)
theorem ahv:EO e85:=fun h=>kL (an:=(.two .no (.two .no (.two .no (.two (.two .no (Uh.lp OJ .no)) (.two .no (.two (.two .no (Wc.lp N8 .no)) .no))))))) (l:=[(aU f85 0,(Uh.lp OJ .no)),(aU f85 1,(Wc.lp N8 .no))]) func85 (F8 aK) (az (aO Uh) (az (aO Wc) aC)) h
def F23:aI:=(e88 (e87 (e86 (e85 (e36 cQ)))))
theorem aj0:bf wG F23:=(aiZ (Mm (L5 (ahv (F8 aK)))))
structure Cb where
 t8:List aD
 t18:List cA
 (t19 t20:Int)
 b0:Flat
 b1:View
 b2:Abstract
 b3:aB
def UT:Td 0 Cb:= .c [] [3,4,6,7,8,18,19,20] (.t (cq.s 8 [] 34) (.c [] [3,4,6,7,8,18,19,20] (.r 0 6 (ec 3 (qp 0 0) (ec 4 (qp 1 0) (ec 6 (qp 2 0) (ec 7 (qp 3 0) (ec 8 (qo 4) (ec 18 (ql 139) (ec 19 (qi .i64) (ec 20 (qi .i64) en)))))))) (sb 0 26 (lg 26) (sb 1 29 (lg 29) (sb 2 36 (lc (qi .i64) (lc (qi .i64) (lc (qi .i64) (lc qn (lc (qi .i64) (lc (qi .i64) (lc (qi .i64) (lc qn ln)))))))) (sb 3 147 (lc (qo 5) (lc (qi .i64) (lc (qi .i64) (lc (qi .i64) (lc qn (lc (qi .i64) (lc (qi .i64) (lc (qi .i64) ln)))))))) (sr 4 34 (sr 5 34 sn)))))) (fun z=>⟨z.2.2.2.2.2.1,z.1.2.2.2.2.2.1,z.1.2.2.2.2.2.2.1,z.1.2.2.2.2.2.2.2.1,z.2.1,z.2.2.1,(Abstract.mk (aD.mk z.2.2.2.1.1 z.2.2.2.1.2.1 z.2.2.2.1.2.2.1) [] (aD.mk z.2.2.2.1.2.2.2.2.1 z.2.2.2.1.2.2.2.2.2.1 z.2.2.2.1.2.2.2.2.2.2.1) []),(aB.mk z.2.2.2.2.2.2.1 (aD.mk z.2.2.2.2.1.2.1 z.2.2.2.2.1.2.2.1 z.2.2.2.2.1.2.2.2.1) [] (aD.mk z.2.2.2.2.1.2.2.2.2.2.1 z.2.2.2.2.1.2.2.2.2.2.2.1 z.2.2.2.2.1.2.2.2.2.2.2.2.1))⟩) (fun x=>(((),(),(),(),(),x.t18,x.t19,x.t20,()),(x.b0,x.b1,(x.b2.au.aa,x.b2.au.af,x.b2.au.ah,(),x.b2.aA.aa,x.b2.aA.af,x.b2.aA.ah,(),()),((),x.b3.au.aa,x.b3.au.af,x.b3.au.ah,(),x.b3.aA.aa,x.b3.aA.af,x.b3.aA.ah,()),x.t8,x.b3.ag,()))) fun _=>rfl)))
def O5(p:Cb):Option (Option Cb):=
 bif wF (p.t20<p.t19)then if(0:Int)<=p.t20/\p.t20<(↑p.t18.length:Int)then match KS (aB.mk p.b3.ag p.b3.au [] p.b3.aA) (aq.mk p.t18[p.t20.toNat]!.ay.aW p.t18[p.t20.toNat]!.ay.fN p.t18[p.t20.toNat]!.ay.ak)with|wC=>wC|O r1=>match Xx r1 p.t18[p.t20.toNat]!.aa p.t18[p.t20.toNat]!.af with|wC=>wC|O r2=>if(p.t8++[r2.fst]).length<=1073741824 then O (O (Cb.mk (p.t8++[r2.fst]) p.t18 p.t19 (i64.wrap (p.t20+1)) p.b0 p.b1 (Abstract.mk p.b2.au [] p.b2.aA []) (aB.mk p.b3.ag p.b3.au [] p.b3.aA)))else wC else wC else O (wC)
def Im:Cb->Option Cb:=bw (O5)
abbrev E23:Type:=Abstract
def d23:Td 0 E23:= .c [] [6] (.r 0 1 (ec 6 (qp 0 0) en) (sb 0 36 (lg 36) sn) (fun z=>z.2.1) (fun x=>(((),()),(x,()))) fun _=>rfl)
def A23:=(lc (qg 26) (lc (qg 29) (lc (ql 34) ln)))
def apG:An:=(.two .no (.two .no (.two .no (.two (.two .no (UT.lp Im .no)) .no))))
theorem auY:eW wG (F23) 0 300 23 (apG):=bV (l:=[(aU f23 0,(UT.lp Im .no))]) func23 (bB (by kernel_rfl)) (by kernel_rfl) (az (aO UT) aC)
def YI(a0:Flat)(a1:View)(a2:List aD):Option E23:=
 match m85 a0 a1 a2 with|wC=>wC|O r3=>match Im (Cb.mk [] a0.ai (↑a0.ai.length:Int) (0) a0 a1 (Abstract.mk (aD.mk (0) (0) (0)) [] (aD.mk (0) (0) (0)) []) (aB.mk r3.ag r3.au [] r3.aA))with|wC=>wC|O r4=>bif wF (r4.t20<r4.t19)then if(0:Int)<=r4.t20/\r4.t20<(↑r4.t18.length:Int)then match KS (aB.mk r4.b3.ag r4.b3.au [] r4.b3.aA) (aq.mk r4.t18[r4.t20.toNat]!.ay.aW r4.t18[r4.t20.toNat]!.ay.fN r4.t18[r4.t20.toNat]!.ay.ak)with|wC=>wC|O r5=>match Xx r5 r4.t18[r4.t20.toNat]!.aa r4.t18[r4.t20.toNat]!.af with|wC=>wC|O r6=>if(r4.t8++[r6.fst]).length<=1073741824 then wC else wC else wC else match r88 r4.b0 r4.t8 r4.b0.bk (aB.mk r4.b3.ag r4.b3.au [] r4.b3.aA)with|wC=>wC|O r7=>bif bif r4.b1.nj then wD else wE then O (Abstract.mk r7.au r7.ax (Tw (0)) r7.ag)else O (Abstract.mk r7.au r7.ax r7.aA r7.ag)
theorem c23(a0:Flat)(a1:View)(a2:List aD):bN wG (F23) 300 (apG) 23 (A23.c (a0,a1,a2,())) [] 0 d23.rd=YI a0 a1 a2:=by kernel_rfl
def e23:aI->aI:=eZ wG 23 A23 d23 (fun g=>YI g.1 g.2.1 g.2.2.1)
theorem M9{F:aI}(h:bf wG F):bf wG (e23 F):=oT (dH aj0 auY (fun _=>by kernel_rfl) (fun _=>by kernel_rfl) fun g=>c23 g.1 g.2.1 g.2.2.1) ⟨_,func23,by kernel_rfl,by kernel_rfl⟩ (fun _=>by kernel_rfl) h
theorem W6{F:aI}{f:Nat}(hne:zb f 23=wD)(h:aV F f):aV (e23 F) f:=IE hne h
def F37:aI:=(e43 (e23 cQ))
structure Bm where
 t10:Bool
 t32:List aD
 (t33 t34:Int)
 (b0 b1:bg)
def VO:Td 0 Bm:= .c [] [6,9,10,32,33,34] (.t (cq.c 1 0 [] 3) (.c [] [6,9,10,32,33,34] (.r 0 3 (ec 6 (qp 0 0) (ec 9 (qp 1 0) (ec 10 qb (ec 32 (ql 34) (ec 33 (qi .i64) (ec 34 (qi .i64) en)))))) (sb 0 47 (lc qn (lc (qi .i64) ln)) (sb 1 47 (lc (qo 2) (lc (qi .i64) ln)) (sr 2 3 sn))) (fun z=>⟨z.1.2.2.1,z.1.2.2.2.1,z.1.2.2.2.2.1,z.1.2.2.2.2.2.1,(bg.mk [] z.2.1.2.1),(bg.mk z.2.2.2.1 z.2.2.1.2.1)⟩) (fun x=>(((),(),x.t10,x.t32,x.t33,x.t34,()),(((),x.b0.aA,()),((),x.b1.aA,()),x.b1.bG,()))) fun _=>rfl)))
def P5(p:Bm):Option (Option Bm):=
 bif wF (p.t34<p.t33)then if(0:Int)<=p.t34/\p.t34<(↑p.t32.length:Int)then match bif p.t10 then match qB p.t32[p.t34.toNat]! with|wC=>wC|O r1=>O (wF (r1=1))else O (wD)with|wC=>wC|O r2=>if(p.b1.bG++[p.t32[p.t34.toNat]!.aa]).length<=1073741824 then O (O (Bm.mk r2 p.t32 p.t33 (i64.wrap (p.t34+1)) (bg.mk [] p.b0.aA) (bg.mk (p.b1.bG++[p.t32[p.t34.toNat]!.aa]) p.b1.aA)))else wC else wC else O (wC)
def ae3:An:=(.two .no (.two .no (.two (.two .no (.two (.rb [43] 10) .no)) .no)))
def OZ:Bm->Option Bm:=bw (P5)
abbrev E37:Type:=bg×Bool
def d37:Td 0 E37:= .c [] [6,7] (.t (cq.c 0 0 [] 3) (.c [] [6,7] (.r 0 2 (ec 6 (qp 0 0) (ec 7 qb en)) (sb 0 47 (lc (qo 1) (lc (qi .i64) ln)) (sr 1 3 sn)) (fun z=>((bg.mk z.2.2.1 z.2.1.2.1),z.1.2.1)) (fun x=>(((),x.2,()),(((),x.1.aA,()),x.1.bG,()))) fun _=>rfl)))
theorem anb:∀f∈([43]:List Nat),aV (F37) f:=(az (j4 (W6 (f:=43) rfl aZ)) aC)
def m37(a0:Flat)(a1:View)(a2:List aD):Option E37:=
 match YI a0 a1 a2 with|wC=>wC|O r3=>match match qB r3.au with|wC=>wC|O r4=>bif wF (r4=1)then match qB r3.aA with|wC=>wC|O r5=>O (wF (r5=1))else O (wD)with|wC=>wC|O r6=>match OZ (Bm.mk r6 r3.ax (↑r3.ax.length:Int) (0) (bg.mk [] (0)) (bg.mk [] r3.aA.aa))with|wC=>wC|O r7=>bif wF (r7.t34<r7.t33)then if(0:Int)<=r7.t34/\r7.t34<(↑r7.t32.length:Int)then match bif r7.t10 then match qB r7.t32[r7.t34.toNat]! with|wC=>wC|O r8=>O (wF (r8=1))else O (wD)with|wC=>wC|O r9=>if(r7.b1.bG++[r7.t32[r7.t34.toNat]!.aa]).length<=1073741824 then wC else wC else wC else bif bif r7.t10 then wD else wE then O ((bg.mk [] (0),wD))else O ((r7.b1,wE))
def e37:aI->aI:=eL wG 37 wD (lc (qg 26) (lc (qg 29) (lc (ql 34) ln))) d37 (fun g=>m37 g.1 g.2.1 g.2.2.1)
theorem agX:EO e37:=fun h=>kL (F:=F37) (an:=(.two .no (.two .no (.two .no (.two (.rb [43] 10) (.two (.two .no (VO.lp OZ ae3)) .no)))))) (l:=[(.skip,(.rb [43] 10)),(aU f37 0,(VO.lp OZ ae3)),(.skip,(.rb [43] 10))]) func37 (ng (M9 aK)) (az anb (az (aO VO) (az anb aC))) h
theorem KI{F:aI}{f:Nat}(hne:zb f 37=wD)(h:aV F f):aV (e37 F) f:=JH hne h
structure sL where
 t3:Int
 t6:List aD
 (t7 t8:Int)
def Lg:Td 0 sL:= .c [] [3,6,7,8] (.r 0 0 (ec 3 (qi .i64) (ec 6 (ql 34) (ec 7 (qi .i64) (ec 8 (qi .i64) en)))) sn (fun z=>⟨z.1.1,z.1.2.1,z.1.2.2.1,z.1.2.2.2.1⟩) (fun x=>((x.t3,x.t6,x.t7,x.t8,()),(()))) fun _=>rfl)
def Ff(p:sL):Option (Option sL):=
 bif wF (p.t8<p.t7)then if(0:Int)<=p.t8/\p.t8<(↑p.t6.length:Int)then match qB p.t6[p.t8.toNat]! with|wC=>wC|O r1=>O (O (sL.mk (i64.wrap (p.t3*r1)) p.t6 p.t7 (i64.wrap (p.t8+1))))else wC else O (wC)
def Hv:sL->Option sL:=bw (Ff)
abbrev ap8:Type:=Int
def d100:Td 0 ap8:= .c [] [2] (.r 0 0 (ec 2 (qi .i64) en) sn (fun z=>z.1.1) (fun x=>((x,()),(()))) fun _=>rfl)
def YD(a0:List aD):Option ap8:=
 match Hv (sL.mk (1) a0 (↑a0.length:Int) (0))with|wC=>wC|O r2=>bif wF (r2.t8<r2.t7)then if(0:Int)<=r2.t8/\r2.t8<(↑r2.t6.length:Int)then match qB r2.t6[r2.t8.toNat]! with|wC=>wC|O r3=>wC else wC else O (r2.t3)
def as2:aI->aI:=eL wG 100 wD (lc (ql 34) ln) d100 (fun g=>YD g.1)
theorem Zh:EO as2:=fun h=>kL (an:=(.two .no (.two .no (.two (.two .no (Lg.lp Hv .no)) .no)))) (l:=[(aU f100 0,(Lg.lp Hv .no))]) func100 (ng aK) (az (aO Lg) aC) h
structure qY where
 (t8 t9 t10 t11:Int)
 b0:Abstract
def Wi:Td 0 qY:= .c [] [7,8,9,10,11] (.r 0 1 (ec 7 (qp 0 0) (ec 8 (qi .i64) (ec 9 (qi .i64) (ec 10 (qi .i64) (ec 11 (qi .i64) en))))) (sb 0 36 (lg 36) sn) (fun z=>⟨z.1.2.1,z.1.2.2.1,z.1.2.2.2.1,z.1.2.2.2.2.1,z.2.1⟩) (fun x=>(((),x.t8,x.t9,x.t10,x.t11,()),(x.b0,()))) fun _=>rfl)
def Qp(p:qY):Option (Option qY):=
 bif wF (p.t11<=(↑p.b0.ax.length:Int))then match m32 p.b0.au p.t11 with|wC=>wC|O r1=>bif r1 then bif wF (p.t11<(↑p.b0.ax.length:Int))then if(0:Int)<=p.t11/\p.t11<(↑p.b0.ax.length:Int)then match qB p.b0.ax[p.t11.toNat]! with|wC=>wC|O r2=>O (O (qY.mk p.t8 (if p.t8<i64.wrap (p.t9+p.t10)then p.t8 else i64.wrap (p.t9+p.t10)) (if p.t8<i64.wrap (p.t10*if p.t8<r2 then p.t8 else r2)then p.t8 else i64.wrap (p.t10*if p.t8<r2 then p.t8 else r2)) (i64.wrap (p.t11+1)) p.b0))else wC else O (O (qY.mk p.t8 (if p.t8<i64.wrap (p.t9+p.t10)then p.t8 else i64.wrap (p.t9+p.t10)) p.t10 (i64.wrap (p.t11+1)) p.b0))else bif wF (p.t11<(↑p.b0.ax.length:Int))then if(0:Int)<=p.t11/\p.t11<(↑p.b0.ax.length:Int)then match qB p.b0.ax[p.t11.toNat]! with|wC=>wC|O r3=>O (O (qY.mk p.t8 p.t9 (if p.t8<i64.wrap (p.t10*if p.t8<r3 then p.t8 else r3)then p.t8 else i64.wrap (p.t10*if p.t8<r3 then p.t8 else r3)) (i64.wrap (p.t11+1)) p.b0))else wC else O (O (qY.mk p.t8 p.t9 p.t10 (i64.wrap (p.t11+1)) p.b0))else O (wC)
def OS:qY->Option qY:=bw (Qp)
abbrev E38:Type:=Int
def d38:Td 0 E38:= .c [] [6] (.r 0 0 (ec 6 (qi .i64) en) sn (fun z=>z.1.1) (fun x=>((x,()),(()))) fun _=>rfl)
def m38(a0:Flat)(a1:View)(a2:List aD):Option E38:=
 match YI a0 a1 a2 with|wC=>wC|O r4=>match YD a2 with|wC=>wC|O r5=>match qB r4.aA with|wC=>wC|O r6=>match OS (qY.mk (if 1099511627776<r5 then 1099511627776 else r5) (0) (if(if 1099511627776<r5 then 1099511627776 else r5)<r6 then if 1099511627776<r5 then 1099511627776 else r5 else r6) (0) r4)with|wC=>wC|O r7=>bif wF (r7.t11<=(↑r7.b0.ax.length:Int))then match m32 r7.b0.au r7.t11 with|wC=>wC|O r8=>bif r8 then bif wF (r7.t11<(↑r7.b0.ax.length:Int))then if(0:Int)<=r7.t11/\r7.t11<(↑r7.b0.ax.length:Int)then match qB r7.b0.ax[r7.t11.toNat]! with|wC=>wC|O r9=>wC else wC else wC else bif wF (r7.t11<(↑r7.b0.ax.length:Int))then if(0:Int)<=r7.t11/\r7.t11<(↑r7.b0.ax.length:Int)then match qB r7.b0.ax[r7.t11.toNat]! with|wC=>wC|O r10=>wC else wC else wC else O (r7.t9)
def e38:aI->aI:=eL wG 38 wD (lc (qg 26) (lc (qg 29) (lc (ql 34) ln))) d38 (fun g=>m38 g.1 g.2.1 g.2.2.1)
theorem aiO:EO e38:=fun h=>kL (an:=(.two .no (.two .no (.two .no (.two .no (.two .no (.two (.two .no (Wi.lp OS .no)) .no))))))) (l:=[(aU f38 0,(Wi.lp OS .no))]) func38 (Zh (ng (Bt (M9 aK)))) (az (aO Wi) aC) h
theorem KH:EP e38:=fun h=>kP h
end Go.Proofs.YtnfljbehcffmcaaGreat
end
noncomputable section
namespace Go.Proofs.YtnfljbehcffmcaaGreat
open Go Go.Iv
open Go.IntKind (i64)
def T9(a:aD):Int:=open Classical in if NV a then bC a else 0
theorem QZ(a:aD):GY a=O (T9 a):=by
 unfold T9
 by_cases h:NV a
 ·rw[if_pos h,o8 h]
 ·rw[if_neg h,acC h]
theorem PL(a:aD):qB a=O (T9 a):=by
 unfold T9
 by_cases h:NV a
 ·rw[if_pos h,de h]
 ·rw[if_neg h,Yw h]
def jH(pub:List Int)(i:Nat)(x:aN):Int:=bif wF (pub[i]! <x.aa)then 3 else bif wF (x.af<pub[i]!)then 3 else 0
def nK(box:List aD)(i:Nat)(x:aN):Int:=bif bif RL box[i]! then wD else wE then 1 else bif wF (@Eq Int (T9 box[i]!) 0)then 1 else bif wF (box[i]!.aa<x.aa)then 3 else bif wF (x.af<box[i]!.af)then 3 else 0
def fQ(vars:List aN):List aN:=vars.filter (kd 1)++vars.filter (kd 3)
def Ak(f:Flat)(v:View)(box:List aD):Int:=
 if wW f≠0 then wW f else if v.aS.length≠(f.ag.filter (kd 2)).length then 1 else if bY (jH v.aS) (f.ag.filter (kd 2)) 0≠0 then bY (jH v.aS) (f.ag.filter (kd 2)) 0
 else if box.length≠(fQ f.ag).length then 2 else bY (nK box) (fQ f.ag) 0
theorem vN{vars:List aN}{i:Nat}(h:i<vars.length)(k:Int):(vars.take (i+1)).filter (kd k)=(vars.take i).filter (kd k)++(if vars[i]!.aY=k then[vars[i]!]else[]):=by
 rw[bA h,xy]
 by_cases hk:vars[i]!.aY=k
 ·rw[if_pos hk];simp only[yK,xG,kd,hk,decide_true,if_true]
 ·rw[if_neg hk];simp only[yK,xG,kd,hk,decide_false,yD,if_false]
theorem Cp{vars:List aN}(k:Int)(i:Nat):((vars.take i).filter (kd k)).length<=i:=iV vars k i
theorem TH(f:Flat)(hl:f.ag.length<=1000000)(v:View)(box:List aD):Oe ⟨box,[],f.ag,(f.ag.length:Int),0,f,v⟩=O ⟨box,f.ag.filter (kd 2),f.ag,(f.ag.length:Int),(f.ag.length:Int),f,v⟩:=by
 obtain⟨b,e1,hI⟩:=cz (rnd:=Pb) f.ag.length (fun i (b:List aN)=>⟨box,b,f.ag,(f.ag.length:Int),(i:Int),f,v⟩) (fun i b=>b=(f.ag.take i).filter (kd 2)) (fun i b hi hb=>by
  have hw:=fq hi hl
  have i1:(i:Int)<(f.ag.length:Int):=by omega
  have i2:(0:Int)<=(i:Int):=by omega
  have hlen:b.length<=i:=by rw[hb];exact Cp 2 i
  have hl2:∀x:aN,(b++[x]).length<=1073741824:=fun x=>by simp;omega
  refine⟨_,?_,rfl⟩
  rw[vN hi,<-hb]
  unfold Pb
  by_cases hk:f.ag[i]!.aY=2
  ·simp only[za,i1,i2,hk,hl2,hw,decide_true,cond_true,and_self,if_true]
  ·simp only[za,i1,i2,hk,hw,decide_true,decide_false,cond_true,cond_false,and_self,if_true,if_false,yd]) (fun b _=>by unfold Pb;simp) (b:=[]) (by simp)
 rw[zG]at hI
 rw[<-hI]
 exact e1
theorem Jo(f:Flat)(hl:f.ag.length<=1000000)(v:View)(box:List aD)(t8 acc:List aN)(ha:acc.length<=1000000)(k:Int)(ks:List Int)(n j:Int):
  EG ⟨box,t8,acc,k,ks,n,j,f.ag,(f.ag.length:Int),0,f,v⟩=O ⟨box,t8,acc++f.ag.filter (kd k),k,ks,n,j,f.ag,(f.ag.length:Int),(f.ag.length:Int),f,v⟩:=by
 obtain⟨b,e1,hI⟩:=cz (rnd:=Pq) f.ag.length (fun i (b:List aN)=>⟨box,t8,acc++b,k,ks,n,j,f.ag,(f.ag.length:Int),(i:Int),f,v⟩) (fun i b=>b=(f.ag.take i).filter (kd k)) (fun i b hi hb=>by
  have hw:=fq hi hl
  have i1:(i:Int)<(f.ag.length:Int):=by omega
  have i2:(0:Int)<=(i:Int):=by omega
  have hlen:b.length<=i:=by rw[hb];exact Cp k i
  have hl2:∀x:aN,(acc++(b++[x])).length<=1073741824:=fun x=>by simp;omega
  refine⟨_,?_,rfl⟩
  rw[vN hi,<-hb]
  unfold Pq
  by_cases hk:f.ag[i]!.aY=k
  ·simp only[za,i1,i2,hk,hl2,hw,decide_true,cond_true,and_self,if_true,yS]
  ·simp only[za,i1,i2,hk,hw,decide_true,decide_false,cond_true,cond_false,and_self,if_true,if_false,yd]) (fun b _=>by unfold Pq;simp) (b:=[]) (by simp)
 rw[zG]at hI
 have e1':EG ⟨box,t8,acc,k,ks,n,j,f.ag,(f.ag.length:Int),0,f,v⟩=O ⟨box,t8,acc++b,k,ks,n,j,f.ag,(f.ag.length:Int),(f.ag.length:Int),f,v⟩:=by
  have:=e1
  rw[yd]at this
  exact this
 rw[<-hI]
 exact e1'
theorem TF(f:Flat)(hl:f.ag.length<=1000)(v:View)(box:List aD)(t8:List aN):
  IF ⟨box,t8,[],[1,3],2,0,f,v⟩=O ⟨box,t8,fQ f.ag,[1,3],2,2,f,v⟩:=by
 have h1:(f.ag.filter (kd 1)).length<=1000:=zy (yJ _ _) hl
 have e1:=Jo f (by omega) v box t8 [] (by simp) 1 [1,3] 2 0
 have e2:=Jo f (by omega) v box t8 (f.ag.filter (kd 1)) (by omega) 3 [1,3] 2 1
 rw[z8]at e1
 have w1:i64.wrap ((0:Int)+1)=1:=by decide
 have w2:i64.wrap ((1:Int)+1)=2:=by decide
 unfold IF fQ
 rw[bF (p':=⟨box,t8,f.ag.filter (kd 1),[1,3],2,1,f,v⟩)]
 ·rw[bF (p':=⟨box,t8,f.ag.filter (kd 1)++f.ag.filter (kd 3),[1,3],2,2,f,v⟩)]
  ·exact bW (fun r=>by unfold O1;simp)
  ·unfold O1
   dsimp only
   rw[decide_eq_true (by decide),cond_true,if_pos (by decide),if_pos (by decide)]
   rw[show ([1,3]:List Int)[yI 1]! =3 from rfl,e2]
   dsimp only
   rw[dZ,cond_false,w2]
 ·unfold O1
  dsimp only
  rw[decide_eq_true (by decide),cond_true,if_pos (by decide),if_pos (by decide)]
  rw[show ([1,3]:List Int)[yI 0]! =1 from rfl,e1]
  dsimp only
  rw[dZ,cond_false,w1]
theorem ac6(L:List aN)(hl:L.length<=1000000)(v:View)(hv:v.aS.length=L.length)(box:List aD)(t9:List aN):
  ∃i,Qo ⟨box,t9,L,(L.length:Int),0,v⟩=O ⟨box,t9,L,(L.length:Int),(i:Nat),v⟩/\((i=L.length/\bY (jH v.aS) L 0=0)\/(i<L.length/\jH v.aS i L[i]!≠0/\bY (jH v.aS) L 0=jH v.aS i L[i]!)):=
 qZ (rnd:=Ie) L (fun i=>⟨box,t9,L,(L.length:Int),(i:Nat),v⟩) (jH v.aS) (fun i hi=>by
  have hw:=fq hi hl
  have i1:(i:Int)<(L.length:Int):=by omega
  have i2:(0:Int)<=(i:Int):=by omega
  have i3:(i:Int)<(v.aS.length:Int):=by omega
  have key:Ie ⟨box,t9,L,(L.length:Int),(i:Nat),v⟩=if jH v.aS i L[i]! =0 then O (O ⟨box,t9,L,(L.length:Int),((i+1:Nat):Int),v⟩)else O wC:=by
   unfold Ie jH
   simp only[za,i1,i2,i3,hi,hw,decide_true,cond_true,and_self,if_true]
   cases wF (v.aS[i]! <L[i]!.aa)<;>cases wF (L[i]!.af<v.aS[i]!)<;>simp
  exact⟨fun h=>by rw[key,if_pos h],fun h=>by rw[key,if_neg h]⟩) (by unfold Ie;simp)
theorem aaX(L:List aN)(hl:L.length<=1000000)(box:List aD)(hv:box.length=L.length):
  ∃i,Pz ⟨box,L,(L.length:Int),0⟩=O ⟨box,L,(L.length:Int),(i:Nat)⟩/\((i=L.length/\bY (nK box) L 0=0)\/(i<L.length/\nK box i L[i]!≠0/\bY (nK box) L 0=nK box i L[i]!)):=
 qZ (rnd:=Ic) L (fun i=>⟨box,L,(L.length:Int),(i:Nat)⟩) (nK box) (fun i hi=>by
  have hw:=fq hi hl
  have i1:(i:Int)<(L.length:Int):=by omega
  have i2:(0:Int)<=(i:Int):=by omega
  have i3:(i:Int)<(box.length:Int):=by omega
  have key:Ic ⟨box,L,(L.length:Int),(i:Nat)⟩=if nK box i L[i]! =0 then O (O ⟨box,L,(L.length:Int),((i+1:Nat):Int)⟩)else O wC:=by
   unfold Ic nK
   simp only[za,i1,i2,i3,hi,hw,decide_true,cond_true,and_self,if_true,dD,QZ]
   cases RL box[i]! <;>cases wF (@Eq Int (T9 box[i]!) 0)<;>cases wF (box[i]!.aa<L[i]!.aa)<;>cases wF (L[i]!.af<box[i]!.af)<;>simp
  exact⟨fun h=>by rw[key,if_pos h],fun h=>by rw[key,if_neg h]⟩) (by unfold Ic;simp)
theorem anx{f:Flat}(h:ew f.bk+iM (f.ai.map (·.ay))<=900)(hh:f.ai.length<=1000)(hl:f.ag.length<=1000)(v:View)(box:List aD):m79 f v box=O (Ak f v box):=by
 have l2:(f.ag.filter (kd 2)).length<=1000:=zy (yJ _ _) hl
 have l3:(fQ f.ag).length<=2000:=by
  have a1:(f.ag.filter (kd 1)).length<=1000:=zy (yJ _ _) hl
  have a3:(f.ag.filter (kd 3)).length<=1000:=zy (yJ _ _) hl
  unfold fQ
  rw[zh];omega
 unfold m79 Ak
 rw[XW f h (by omega) (by omega)]
 dsimp only
 by_cases hc:wW f=0
 case neg=>rw[decide_eq_false hc,if_pos hc];rfl
 rw[decide_eq_true hc,if_neg (by simpa using hc)]
 simp only[cond_true,cond_false]
 rw[TH f (by omega)]
 dsimp only
 rw[dZ,cond_false]
 rw[TF f hl]
 dsimp only
 rw[dZ,cond_false]
 by_cases hp:v.aS.length=(f.ag.filter (kd 2)).length
 case neg=>rw[dZ,if_pos hp];rfl
 rw[qz,if_neg (by simpa using hp)]
 simp only[cond_true,cond_false]
 obtain⟨i,e3,k3⟩:=ac6 (f.ag.filter (kd 2)) (by omega) v hp box (fQ f.ag)
 rw[e3]
 dsimp only
 rcases k3 with ⟨rfl,k3⟩|⟨i1,i2,i3⟩
 case inr=>
  rw[if_pos (show bY (jH v.aS) (f.ag.filter (kd 2)) 0≠0 by rw[i3];exact i2),i3]
  have j1:(i:Int)<((f.ag.filter (kd 2)).length:Int):=by omega
  have j2:(0:Int)<=(i:Int):=by omega
  have j3:(i:Int)<(v.aS.length:Int):=by omega
  simp only[za,j1,j2,j3,i1,decide_true,cond_true,and_self,if_true]
  revert i2
  unfold jH
  cases wF (v.aS[i]! <(f.ag.filter (kd 2))[i]!.aa)<;>cases wF ((f.ag.filter (kd 2))[i]!.af<v.aS[i]!)<;>simp
 rw[dZ,cond_false,if_neg (show ¬bY (jH v.aS) (f.ag.filter (kd 2)) 0≠0 by rw[k3];simp)]
 by_cases hb:box.length=(fQ f.ag).length
 case neg=>rw[dZ,if_pos hb];rfl
 rw[qz,if_neg (by simpa using hb)]
 simp only[cond_true,cond_false]
 obtain⟨i,e4,k4⟩:=aaX (fQ f.ag) (by omega) box hb
 rw[e4]
 dsimp only
 rcases k4 with ⟨rfl,k4⟩|⟨i1,i2,i3⟩
 ·rw[dZ,cond_false,k4]
 ·rw[i3]
  have j1:(i:Int)<((fQ f.ag).length:Int):=by omega
  have j2:(0:Int)<=(i:Int):=by omega
  have j3:(i:Int)<(box.length:Int):=by omega
  simp only[za,j1,j2,j3,i1,decide_true,cond_true,and_self,if_true,dD,QZ]
  revert i2
  unfold nK
  cases RL box[i]! <;>cases wF (@Eq Int (T9 box[i]!) 0)<;>cases wF (box[i]!.aa<(fQ f.ag)[i]!.aa)<;>cases wF ((fQ f.ag)[i]!.af<box[i]!.af)<;>simp
theorem A5(f:Flat)(hl:f.ag.length<=1000000)(v:View)(box:List aD)(t8 t9:List aN)(h8:t8.length<=1000000)(h9:t9.length<=1000000)(k:Int)(ks:List Int)(n j:Int):
  Jc ⟨box,t8,t9,k,ks,n,j,f.ag,(f.ag.length:Int),0,f,v⟩=O ⟨box,if k=2 then t8++f.ag.filter (kd k)else t8,if k=2 then t9 else t9++f.ag.filter (kd k),k,ks,n,j,f.ag,(f.ag.length:Int),(f.ag.length:Int),f,v⟩:=by
 obtain⟨b,e1,hI⟩:=cz (rnd:=Qs) f.ag.length (fun i (b:List aN)=>⟨box,if k=2 then t8++b else t8,if k=2 then t9 else t9++b,k,ks,n,j,f.ag,(f.ag.length:Int),(i:Int),f,v⟩) (fun i b=>b=(f.ag.take i).filter (kd k)) (fun i b hi hb=>by
  have hw:=fq hi hl
  have i1:(i:Int)<(f.ag.length:Int):=by omega
  have i2:(0:Int)<=(i:Int):=by omega
  have hlen:b.length<=i:=by rw[hb];exact Cp k i
  have hl2:∀x:aN,(t8++(b++[x])).length<=1073741824:=fun x=>by simp;omega
  have hl3:∀x:aN,(t9++(b++[x])).length<=1073741824:=fun x=>by simp;omega
  refine⟨_,?_,rfl⟩
  rw[vN hi,<-hb]
  unfold Qs
  by_cases hk:f.ag[i]!.aY=k
  ·by_cases h2:k=2
   ·simp only[za,i1,i2,hk,h2,hl2,hw,decide_true,cond_true,and_self,if_true,yS]
   ·simp only[za,i1,i2,hk,h2,hl3,hw,decide_true,decide_false,cond_true,cond_false,and_self,if_true,if_false,yS]
  ·simp only[za,i1,i2,hk,hw,decide_true,decide_false,cond_true,cond_false,and_self,if_true,if_false,yd]) (fun b _=>by unfold Qs;simp) (b:=[]) (by simp)
 rw[zG]at hI
 rw[<-hI]
 have e1':=e1
 rw[yd,yd,ite_self,ite_self]at e1'
 exact e1'
theorem Wr(f:Flat)(hl:f.ag.length<=1000)(v:View)(box:List aD):
  Kx ⟨box,[],[],[1,3,2],3,0,f,v⟩=O ⟨box,f.ag.filter (kd 2),fQ f.ag,[1,3,2],3,3,f,v⟩:=by
 have h1:(f.ag.filter (kd 1)).length<=1000:=zy (yJ _ _) hl
 have h3:(f.ag.filter (kd 3)).length<=1000:=zy (yJ _ _) hl
 have e1:=A5 f (by omega) v box [] [] (by simp) (by simp) 1 [1,3,2] 3 0
 have e2:=A5 f (by omega) v box [] (f.ag.filter (kd 1)) (by simp) (by omega) 3 [1,3,2] 3 1
 have e3:=A5 f (by omega) v box [] (fQ f.ag) (by simp) (by unfold fQ;rw[zh];omega) 2 [1,3,2] 3 2
 simp only[z8,Int.reduceEq,if_false,if_true]at e1 e2 e3
 have w1:i64.wrap ((0:Int)+1)=1:=by decide
 have w2:i64.wrap ((1:Int)+1)=2:=by decide
 have w3:i64.wrap ((2:Int)+1)=3:=by decide
 unfold Kx
 rw[bF (p':=⟨box,[],f.ag.filter (kd 1),[1,3,2],3,1,f,v⟩)]
 ·rw[bF (p':=⟨box,[],fQ f.ag,[1,3,2],3,2,f,v⟩)]
  ·rw[bF (p':=⟨box,f.ag.filter (kd 2),fQ f.ag,[1,3,2],3,3,f,v⟩)]
   ·exact bW (fun r=>by unfold Ki;simp)
   ·unfold Ki
    dsimp only
    rw[decide_eq_true (by decide),cond_true,if_pos (by decide),if_pos (by decide)]
    rw[show ([1,3,2]:List Int)[yI 2]! =2 from rfl,e3]
    dsimp only
    rw[dZ,cond_false,w3]
  ·unfold Ki
   dsimp only
   rw[decide_eq_true (by decide),cond_true,if_pos (by decide),if_pos (by decide)]
   rw[show ([1,3,2]:List Int)[yI 1]! =3 from rfl,e2]
   dsimp only
   rw[dZ,cond_false,w2]
   rfl
 ·unfold Ki
  dsimp only
  rw[decide_eq_true (by decide),cond_true,if_pos (by decide),if_pos (by decide)]
  rw[show ([1,3,2]:List Int)[yI 0]! =1 from rfl,e1]
  dsimp only
  rw[dZ,cond_false,w1]
theorem ab4(L:List aN)(hl:L.length<=1000000)(v:View)(hv:v.aS.length=L.length)(box:List aD)(t9:List aN):
  ∃i,QB ⟨box,t9,L,(L.length:Int),0,v⟩=O ⟨box,t9,L,(L.length:Int),(i:Nat),v⟩/\((i=L.length/\bY (jH v.aS) L 0=0)\/(i<L.length/\jH v.aS i L[i]!≠0/\bY (jH v.aS) L 0=jH v.aS i L[i]!)):=
 qZ (rnd:=Ii) L (fun i=>⟨box,t9,L,(L.length:Int),(i:Nat),v⟩) (jH v.aS) (fun i hi=>by
  have hw:=fq hi hl
  have i1:(i:Int)<(L.length:Int):=by omega
  have i2:(0:Int)<=(i:Int):=by omega
  have i3:(i:Int)<(v.aS.length:Int):=by omega
  have key:Ii ⟨box,t9,L,(L.length:Int),(i:Nat),v⟩=if jH v.aS i L[i]! =0 then O (O ⟨box,t9,L,(L.length:Int),((i+1:Nat):Int),v⟩)else O wC:=by
   unfold Ii jH
   simp only[za,i1,i2,i3,hi,hw,decide_true,cond_true,and_self,if_true]
   cases wF (v.aS[i]! <L[i]!.aa)<;>cases wF (L[i]!.af<v.aS[i]!)<;>simp
  exact⟨fun h=>by rw[key,if_pos h],fun h=>by rw[key,if_neg h]⟩) (by unfold Ii;simp)
theorem YY(L:List aN)(hl:L.length<=1000000)(box:List aD)(hv:box.length=L.length):
  ∃i,N3 ⟨box,L,(L.length:Int),0⟩=O ⟨box,L,(L.length:Int),(i:Nat)⟩/\((i=L.length/\bY (nK box) L 0=0)\/(i<L.length/\nK box i L[i]!≠0/\bY (nK box) L 0=nK box i L[i]!)):=
 qZ (rnd:=Jt) L (fun i=>⟨box,L,(L.length:Int),(i:Nat)⟩) (nK box) (fun i hi=>by
  have hw:=fq hi hl
  have i1:(i:Int)<(L.length:Int):=by omega
  have i2:(0:Int)<=(i:Int):=by omega
  have i3:(i:Int)<(box.length:Int):=by omega
  have key:Jt ⟨box,L,(L.length:Int),(i:Nat)⟩=if nK box i L[i]! =0 then O (O ⟨box,L,(L.length:Int),((i+1:Nat):Int)⟩)else O wC:=by
   unfold Jt nK
   simp only[za,i1,i2,i3,hi,hw,decide_true,cond_true,and_self,if_true,dU,PL]
   cases RL box[i]! <;>cases wF (@Eq Int (T9 box[i]!) 0)<;>cases wF (box[i]!.aa<L[i]!.aa)<;>cases wF (L[i]!.af<box[i]!.af)<;>simp
  exact⟨fun h=>by rw[key,if_pos h],fun h=>by rw[key,if_neg h]⟩) (by unfold Jt;simp)
theorem apA{f:Flat}(h:ew f.bk+iM (f.ai.map (·.ay))<=900)(hh:f.ai.length<=1000)(hl:f.ag.length<=1000)(v:View)(box:List aD):m21 f v box=O (Ak f v box):=by
 have l2:(f.ag.filter (kd 2)).length<=1000:=zy (yJ _ _) hl
 have l3:(fQ f.ag).length<=2000:=by
  have a1:(f.ag.filter (kd 1)).length<=1000:=zy (yJ _ _) hl
  have a3:(f.ag.filter (kd 3)).length<=1000:=zy (yJ _ _) hl
  unfold fQ
  rw[zh];omega
 unfold m21 Ak
 rw[NL f h (by omega) (by omega)]
 dsimp only
 by_cases hc:wW f=0
 case neg=>rw[decide_eq_false hc,if_pos hc];rfl
 rw[decide_eq_true hc,if_neg (by simpa using hc)]
 simp only[cond_true,cond_false]
 rw[Wr f hl v box]
 dsimp only
 rw[dZ,cond_false]
 by_cases hp:v.aS.length=(f.ag.filter (kd 2)).length
 case neg=>rw[dZ,if_pos hp];rfl
 rw[qz,if_neg (by simpa using hp)]
 simp only[cond_true,cond_false]
 obtain⟨i,e3,k3⟩:=ab4 (f.ag.filter (kd 2)) (by omega) v hp box (fQ f.ag)
 rw[e3]
 dsimp only
 rcases k3 with ⟨rfl,k3⟩|⟨i1,i2,i3⟩
 case inr=>
  rw[if_pos (show bY (jH v.aS) (f.ag.filter (kd 2)) 0≠0 by rw[i3];exact i2),i3]
  have j1:(i:Int)<((f.ag.filter (kd 2)).length:Int):=by omega
  have j2:(0:Int)<=(i:Int):=by omega
  have j3:(i:Int)<(v.aS.length:Int):=by omega
  simp only[za,j1,j2,j3,i1,decide_true,cond_true,and_self,if_true]
  revert i2
  unfold jH
  cases wF (v.aS[i]! <(f.ag.filter (kd 2))[i]!.aa)<;>cases wF ((f.ag.filter (kd 2))[i]!.af<v.aS[i]!)<;>simp
 rw[dZ,cond_false,if_neg (show ¬bY (jH v.aS) (f.ag.filter (kd 2)) 0≠0 by rw[k3];simp)]
 by_cases hb:box.length=(fQ f.ag).length
 case neg=>rw[dZ,if_pos hb];rfl
 rw[qz,if_neg (by simpa using hb)]
 simp only[cond_true,cond_false]
 obtain⟨i,e4,k4⟩:=YY (fQ f.ag) (by omega) box hb
 rw[e4]
 dsimp only
 rcases k4 with ⟨rfl,k4⟩|⟨i1,i2,i3⟩
 ·rw[dZ,cond_false,k4]
 ·rw[i3]
  have j1:(i:Int)<((fQ f.ag).length:Int):=by omega
  have j2:(0:Int)<=(i:Int):=by omega
  have j3:(i:Int)<(box.length:Int):=by omega
  simp only[za,j1,j2,j3,i1,decide_true,cond_true,and_self,if_true,dU,PL]
  revert i2
  unfold nK
  cases RL box[i]! <;>cases wF (@Eq Int (T9 box[i]!) 0)<;>cases wF (box[i]!.aa<(fQ f.ag)[i]!.aa)<;>cases wF ((fQ f.ag)[i]!.af<box[i]!.af)<;>simp
structure Fits (f:Flat) (v:View) (box:List aD):Prop where
 c:wW f=0
 pub:v.aS.length=(f.ag.filter (kd 2)).length
 asg:∀j,j<v.aS.length->(f.ag.filter (kd 2))[j]!.aa<=v.aS[j]!/\v.aS[j]!<=(f.ag.filter (kd 2))[j]!.af
 bl:box.length=(fQ f.ag).length
 bx:∀j,j<box.length->NN box[j]!/\(fQ f.ag)[j]!.aa<=box[j]!.aa/\box[j]!.af<=(fQ f.ag)[j]!.af
theorem Rb{f:Flat}{v:View}{box:List aD}(h:Ak f v box=0):Fits f v box:=by
 unfold Ak at h
 by_cases hc:wW f=0
 case neg=>rw[if_pos hc]at h;exact absurd h hc
 rw[if_neg (by simpa using hc)]at h
 by_cases hp:v.aS.length=(f.ag.filter (kd 2)).length
 case neg=>rw[if_pos hp]at h;cases h
 rw[if_neg (by simpa using hp)]at h
 by_cases hf:bY (jH v.aS) (f.ag.filter (kd 2)) 0=0
 case neg=>rw[if_pos hf]at h;exact absurd h hf
 rw[if_neg (by simpa using hf)]at h
 by_cases hb:box.length=(fQ f.ag).length
 case neg=>rw[if_pos hb]at h;cases h
 rw[if_neg (by simpa using hb)]at h
 refine⟨hc,hp,fun j hj=> ?_,hb,fun j hj=> ?_⟩
 ·have k:=lT hf j (by omega)
  rw[yu]at k
  unfold jH at k
  by_cases c1:v.aS[j]! <(f.ag.filter (kd 2))[j]!.aa
  ·rw[decide_eq_true c1]at k;cases k
  by_cases c2:(f.ag.filter (kd 2))[j]!.af<v.aS[j]!
  ·rw[decide_eq_false c1,decide_eq_true c2]at k;cases k
  omega
 ·have k:=lT h j (by omega)
  rw[yu]at k
  unfold nK at k
  by_cases c0:NV box[j]!
  case neg=>rw[tW c0]at k;cases k
  rw[cU c0]at k
  by_cases c3:T9 box[j]! =0
  ·rw[decide_eq_true c3]at k;cases k
  by_cases c1:box[j]!.aa<(fQ f.ag)[j]!.aa
  ·rw[decide_eq_false c3,decide_eq_true c1]at k;cases k
  by_cases c2:(fQ f.ag)[j]!.af<box[j]!.af
  ·rw[decide_eq_false c3,decide_eq_false c1,decide_eq_true c2]at k;cases k
  refine⟨c0.nn fun e=>c3 ?_,by omega,by omega⟩
  rw[e]
  unfold T9
  rw[if_pos (.inl rfl)]
  unfold bC
  rw[if_pos rfl]
theorem Ug{f:Flat}(h:wW f=0){i:Nat}(hi:i<f.ag.length):(0<=f.ag[i]!.aY/\f.ag[i]!.aY<=3)/\(f.ag[i]!.aY=0->f.ag[i]!.aa<=f.ag[i]!.dc/\f.ag[i]!.dc<=f.ag[i]!.af):=by
 unfold wW at h
 by_cases h1:pK f=wD
 ·rw[if_pos h1]at h;exact absurd h (by decide)
 rw[if_neg h1]at h
 by_cases hvc:jv f.ag=0
 case neg=>rw[if_pos hvc]at h;exact absurd h hvc
 unfold jv at hvc
 by_cases h0:bY (kU f.ag) f.ag 0=0
 case neg=>rw[if_pos h0]at hvc;exact absurd hvc h0
 have k:=lT h0 i hi
 unfold kU at k
 split at k
 ·cases k
 split at k
 ·cases k
 split at k
 ·cases k
 split at k
 ·cases k
 rename_i q _
 refine⟨by omega,fun e=> ?_⟩
 rw[if_pos e]at k
 split at k
 ·cases k
 ·omega
def cZ(f:Flat)(v:View)(box:List aD)(i:Nat):aD:=
 if f.ag[i]!.aY=1 then box[bX f.ag 1 i]! else if f.ag[i]!.aY=2 then cR v.aS[bX f.ag 2 i]! else if f.ag[i]!.aY=3 then box[bX f.ag 1 f.ag.length+bX f.ag 3 i]! else cR f.ag[i]!.dc
def dz(f:Flat)(v:View)(box:List aD):aj:=⟨iD f.ag.length (cZ f v box),cR 0,[],cR 0⟩
theorem AM(vars:List aN):(fQ vars).length=bX vars 1 vars.length+bX vars 3 vars.length:=by
 unfold fQ
 rw[zh,l9,l9]
theorem ud{vars:List aN}{k:Int}{i:Nat}(hi:i<vars.length)(hk:vars[i]!.aY=k):bX vars k i<bX vars k vars.length:=by
 have c:=fD hi k
 have m:=iN (vars:=vars) (k:=k) (show i+1<=vars.length by omega) (zx _)
 rw[if_pos hk]at c
 omega
theorem lY{f:Flat}{v:View}{box:List aD}(h:Fits f v box):cI f.ag.length 0 (dz f v box):=by
 have hv:=ua h.c
 have hb:=h.bl
 rw[AM]at hb
 have hp:=h.pub
 rw[<-l9]at hp
 refine⟨dF ..,fun i hi=> ?_,iw ⟨by decide,by decide⟩,zx _,fun i hi=>absurd hi (by simp[dz]),iw ⟨by decide,by decide⟩⟩
 show NN (iD _ _)[i]!
 rw[jJ hi]
 unfold cZ
 by_cases k1:f.ag[i]!.aY=1
 ·rw[if_pos k1]
  have:=ud hi k1
  exact(h.bx _ (by omega)).1
 rw[if_neg k1]
 by_cases k2:f.ag[i]!.aY=2
 ·rw[if_pos k2]
  have hl:=ud hi k2
  have hj:=h.asg _ (show bX f.ag 2 i<v.aS.length by omega)
  have hm:=aR (l:=f.ag.filter (kd 2)) (i:=bX f.ag 2 i) (by rw[<-l9];omega)
  have:=hv _ ((zW.1 hm).1)
  exact iw (by unfold bO;omega)
 rw[if_neg k2]
 by_cases k3:f.ag[i]!.aY=3
 ·rw[if_pos k3]
  have:=ud hi k3
  exact(h.bx _ (by omega)).1
 rw[if_neg k3]
 obtain⟨q1,q2⟩:=Ug h.c hi
 have q2:=q2 (by omega)
 have:=hv _ (aR hi)
 exact iw (by unfold bO;omega)
abbrev A0:Abstract:=⟨⟨0,0,0⟩,[],⟨0,0,0⟩,[]⟩
theorem XI{f:Flat}(hl:f.ag.length<=1000)(box:List aD)(v:View)(g:aj):PF ⟨box,0,0,0,f.ag,(f.ag.length:Int),0,f,v,A0,⟨[],g.au,[],g.aA⟩⟩=
  O ⟨box,0,0,(bX f.ag 1 f.ag.length:Int),f.ag,(f.ag.length:Int),(f.ag.length:Int),f,v,A0,⟨[],g.au,[],g.aA⟩⟩:=by
 obtain⟨b,e1,_⟩:=cz (rnd:=OY) f.ag.length (fun i (_:Unit)=>⟨box,0,0,(bX f.ag 1 i:Int),f.ag,(f.ag.length:Int),(i:Int),f,v,A0,⟨[],g.au,[],g.aA⟩⟩) (fun _ _=>True) (fun i b hi _=>by
  have hw:=fq hi (by omega)
  have i1:(i:Int)<(f.ag.length:Int):=by omega
  have i2:(0:Int)<=(i:Int):=by omega
  have c1:=fD hi 1
  have l1:=iV f.ag 1 i
  have w1:i64.wrap ((bX f.ag 1 i:Int)+1)=((bX f.ag 1 i+1:Nat):Int):=by rw[aF];omega
  refine⟨(),?_,trivial⟩
  unfold OY
  rw[c1]
  by_cases hk:f.ag[i]!.aY=1
  ·simp only[za,i1,i2,hk,hw,w1,decide_true,cond_true,and_self,if_true]
  ·simp only[za,i1,i2,hk,hw,decide_true,decide_false,cond_true,cond_false,and_self,if_true,if_false,yb]) (fun b _=>by unfold OY;simp) (b:=()) trivial
 exact e1
theorem ab8{f:Flat}{v:View}{box:List aD}(h:Fits f v box)(hlv:f.ag.length<=1000)(g:aj):Qj ⟨box,0,0,(bX f.ag 1 f.ag.length:Int),f.ag,(f.ag.length:Int),0,f,v,A0,⟨[],g.au,[],g.aA⟩⟩=
  O ⟨box,(bX f.ag 1 f.ag.length:Int),(bX f.ag 2 f.ag.length:Int),((bX f.ag 1 f.ag.length+bX f.ag 3 f.ag.length:Nat):Int),f.ag,(f.ag.length:Int),(f.ag.length:Int),f,v,A0,⟨iD f.ag.length (cZ f v box),g.au,[],g.aA⟩⟩:=by
 have hbx:=h.bl
 rw[AM]at hbx
 have hp:=h.pub
 rw[<-l9]at hp
 obtain⟨b,e1,_⟩:=cz (rnd:=QM) f.ag.length (fun i (_:Unit)=>⟨box,(bX f.ag 1 i:Int),(bX f.ag 2 i:Int),((bX f.ag 1 f.ag.length+bX f.ag 3 i:Nat):Int),f.ag,(f.ag.length:Int),(i:Int),f,v,A0,⟨iD i (cZ f v box),g.au,[],g.aA⟩⟩) (fun i _=>True) (fun i b hi _=>by
  have hw:=fq hi (by omega)
  have i1:(i:Int)<(f.ag.length:Int):=by omega
  have i2:(0:Int)<=(i:Int):=by omega
  have c1:=fD hi 1
  have c2:=fD hi 2
  have c3:=fD hi 3
  have m1:=iN (vars:=f.ag) (k:=1) (show i+1<=f.ag.length by omega) (zx _)
  have m2:=iN (vars:=f.ag) (k:=2) (show i+1<=f.ag.length by omega) (zx _)
  have m3:=iN (vars:=f.ag) (k:=3) (show i+1<=f.ag.length by omega) (zx _)
  have l1:=iV f.ag 1 f.ag.length
  have l2:=iV f.ag 2 f.ag.length
  have l3:=iV f.ag 3 f.ag.length
  have hl2:∀x:aD,(iD i (cZ f v box)++[x]).length<=1073741824:=fun x=>by rw[zh,dF,yj];omega
  refine⟨(),?_,trivial⟩
  rw[oc]
  unfold QM
  dsimp only
  rw[c1,c2,c3]
  by_cases k1:f.ag[i]!.aY=1
  ·have ev:cZ f v box i=box[bX f.ag 1 i]! :=by unfold cZ;rw[if_pos k1]
   rw[k1]at c1 c2 c3 ⊢
   simp only[Int.reduceEq,if_true,if_false,yb]at c1 c2 c3 ⊢
   have w1:i64.wrap ((bX f.ag 1 i:Int)+1)=((bX f.ag 1 i+1:Nat):Int):=by rw[aF];omega
   have j1:(bX f.ag 1 i:Int)<(box.length:Int):=by omega
   have j2:(0:Int)<=(bX f.ag 1 i:Int):=by omega
   simp only[za,i1,i2,j1,j2,decide_true,cond_true,and_self,if_true,k1,hl2,hw,w1,ev]
  by_cases k2:f.ag[i]!.aY=2
  ·have ev:cZ f v box i=cR v.aS[bX f.ag 2 i]! :=by unfold cZ;rw[if_neg k1,if_pos k2]
   rw[k2]at c1 c2 c3 ⊢
   simp only[Int.reduceEq,if_true,if_false,yb]at c1 c2 c3 ⊢
   have w1:i64.wrap ((bX f.ag 2 i:Int)+1)=((bX f.ag 2 i+1:Nat):Int):=by rw[aF];omega
   have j1:(bX f.ag 2 i:Int)<(v.aS.length:Int):=by omega
   have j2:(0:Int)<=(bX f.ag 2 i:Int):=by omega
   simp only[za,i1,i2,j1,j2,k2,Int.reduceEq,decide_true,decide_false,cond_true,cond_false,and_self,if_true,hl2,hw,w1,p8,ev]
  by_cases k3:f.ag[i]!.aY=3
  ·have ev:cZ f v box i=box[bX f.ag 1 f.ag.length+bX f.ag 3 i]! :=by unfold cZ;rw[if_neg k1,if_neg k2,if_pos k3]
   rw[k3]at c1 c2 c3 ⊢
   simp only[Int.reduceEq,if_true,if_false,yb]at c1 c2 c3 ⊢
   have w1:i64.wrap (((bX f.ag 1 f.ag.length+bX f.ag 3 i:Nat):Int)+1)=((bX f.ag 1 f.ag.length+(bX f.ag 3 i+1):Nat):Int):=by rw[aF];omega
   have j1:((bX f.ag 1 f.ag.length+bX f.ag 3 i:Nat):Int)<(box.length:Int):=by omega
   have j2:(0:Int)<=((bX f.ag 1 f.ag.length+bX f.ag 3 i:Nat):Int):=by omega
   simp only[za,i1,i2,j1,j2,k3,Int.reduceEq,decide_true,decide_false,cond_true,cond_false,and_self,if_true,hl2,hw,w1,ev]
  ·have ev:cZ f v box i=cR f.ag[i]!.dc:=by unfold cZ;rw[if_neg k1,if_neg k2,if_neg k3]
   rw[if_neg k1,if_neg k2,if_neg k3]
   simp only[za,i1,i2,k1,k2,k3,decide_true,decide_false,cond_true,cond_false,and_self,if_true,hl2,hw,p8,ev,yb]) (fun b _=>by unfold QM;simp) (b:=()) trivial
 exact e1
def SN(f:Flat)(s:aj)(h:cA):aD:=fo (bS s.ag h.ay) h.aa h.af
def lI(f:Flat)(s:aj):List aD:=f.ai.map (SN f s)
theorem abv{f:Flat}(hf:JQ f){s:aj}{m:Nat}(hs:cI f.ag.length m s){i:Nat}(hi:i<f.ai.length):NN (SN f s f.ai[i]!):=by
 obtain⟨_,_,_,k,_⟩:=fE (fu hs f.ai[i]!.ay (hf.hat i hi).2) f.ai[i]!.aa f.ai[i]!.af
 exact k
theorem tS{f:Flat}(hf:JQ f){s:aj}{m:Nat}(hs:cI f.ag.length m s):∀i,i<(lI f s).length->NN (lI f s)[i]! :=fun i hi=>by
 have hi:i<f.ai.length:=by simpa [lI]using hi
 unfold lI
 rw[getElem!_pos _ i (by simpa using hi),yx,<-getElem!_pos f.ai i hi]
 exact abv hf hs hi
theorem Za{f:Flat}(hf:JQ f)(hlh:f.ai.length<=1000)(v:View){s:aj}(hs:cI f.ag.length 0 s):J5 ⟨f.ai,(f.ai.length:Int),0,f,v,A0,s,⟨f,[]⟩⟩=
  O ⟨f.ai,(f.ai.length:Int),(f.ai.length:Int),f,v,A0,s,⟨f,lI f s⟩⟩:=by
 have hsl:s.ax=[]:=yR (Nat.le_zero.1 hs.sl)
 have es:(⟨s.ag,s.au,[],s.aA⟩:aj)=s:=by rw[<-hsl]
 obtain⟨b,e1,_⟩:=cz (rnd:=Qn) f.ai.length (fun i (_:Unit)=>⟨f.ai,(f.ai.length:Int),(i:Int),f,v,A0,s,⟨f,(f.ai.take i).map (SN f s)⟩⟩) (fun i _=>True) (fun i b hi _=>by
  have hw:=fq hi (by omega)
  have i1:(i:Int)<(f.ai.length:Int):=by omega
  have i2:(0:Int)<=(i:Int):=by omega
  obtain⟨q1,q2⟩:=hf.hat i hi
  have ev:=Ib hs q2
  obtain⟨c,hcl,_,_,_⟩:=fE (fu hs f.ai[i]!.ay q2) f.ai[i]!.aa f.ai[i]!.af
  have hl2:∀x:aD,((f.ai.take i).map (SN f s)++[x]).length<=1073741824:=fun x=>by simp;omega
  refine⟨(),?_,trivial⟩
  rw[bA hi,zY]
  unfold Qn
  simp only[za,i1,i2,decide_true,cond_true,and_self,if_true,aq.eta,es,ev,hcl,hl2,hw,zV,yG]
  rfl) (fun b _=>by unfold Qn;simp) (b:=()) trivial
 rw[zG]at e1
 exact e1
def BJ(f:Flat)(v:View)(box:List aD):aj:=fy f (lI f (dz f v box)) f.bk (dz f v box)
def fH(f:Flat)(v:View)(box:List aD):Abstract:=
 ⟨(BJ f v box).au,(BJ f v box).ax,if v.nj=wE then(BJ f v box).aA else cR 0,(BJ f v box).ag⟩
theorem ap9{f:Flat}{v:View}{box:List aD}(h:ew f.bk+iM (f.ai.map (·.ay))<=900)(hh:f.ai.length<=1000)(hl:f.ag.length<=1000):m20 f v box=O (if Ak f v box=0 then(fH f v box,0)else(A0,Ak f v box)):=by
 unfold m20
 rw[anx h hh hl]
 dsimp only
 by_cases hc:Ak f v box=0
 case neg=>rw[decide_eq_false hc,if_neg hc];rfl
 have hfit:=Rb hc
 have hf:=BP hfit.c
 have h0:=lY hfit
 have e0:=XI hl box v ⟨[],cR 0,[],cR 0⟩
 have e1:=ab8 hfit hl ⟨[],cR 0,[],cR 0⟩
 have e2:=Za hf hh v h0
 have ho:cl f.bk<=8:=by have:=hf.o;unfold cl;omega
 have e3:r83 ⟨f,lI f (dz f v box)⟩ f.bk (dz f v box)=O (BJ f v box):=
  anz (r:=⟨f,lI f (dz f v box)⟩) (top:=wE) (by show f.ag.length<=_;omega) (by simp[lI]) (tS hf h0) (by omega) hf.steps h0 (by omega)
 rw[decide_eq_true hc,if_pos hc]
 simp only[cond_true,cond_false,p8]
 dsimp only[A0]at e0 e1 e2
 rw[e0]
 dsimp only
 rw[dZ,cond_false,e1]
 dsimp only
 rw[dZ,cond_false]
 have e2':J5 ⟨f.ai,(f.ai.length:Int),0,f,v,⟨⟨0,0,0⟩,[],⟨0,0,0⟩,[]⟩,⟨iD f.ag.length (cZ f v box),cR 0,[],cR 0⟩,⟨f,[]⟩⟩=_:=e2
 rw[e2']
 dsimp only
 rw[dZ,cond_false]
 have e3':r83 ⟨f,lI f (dz f v box)⟩ f.bk ⟨(dz f v box).ag,(dz f v box).au,[],(dz f v box).aA⟩=_:=e3
 rw[e3']
 dsimp only
 unfold fH
 cases v.nj<;>rfl
abbrev Z3:aB:=⟨[],⟨0,0,0⟩,[],⟨0,0,0⟩⟩
theorem acf{f:Flat}(hl:f.ag.length<=1000)(box:List aD)(v:View):OJ ⟨box,0,f.ag,(f.ag.length:Int),0,f,v,Z3,Z3⟩=
  O ⟨box,(bX f.ag 1 f.ag.length:Int),f.ag,(f.ag.length:Int),(f.ag.length:Int),f,v,Z3,Z3⟩:=by
 obtain⟨b,e1,_⟩:=cz (rnd:=OD) f.ag.length (fun i (_:Unit)=>⟨box,(bX f.ag 1 i:Int),f.ag,(f.ag.length:Int),(i:Int),f,v,Z3,Z3⟩) (fun _ _=>True) (fun i b hi _=>by
  have hw:=fq hi (by omega)
  have i1:(i:Int)<(f.ag.length:Int):=by omega
  have i2:(0:Int)<=(i:Int):=by omega
  have c1:=fD hi 1
  have l1:=iV f.ag 1 i
  have w1:i64.wrap ((bX f.ag 1 i:Int)+1)=((bX f.ag 1 i+1:Nat):Int):=by rw[aF];omega
  refine⟨(),?_,trivial⟩
  unfold OD
  rw[c1]
  by_cases hk:f.ag[i]!.aY=1
  ·simp only[za,i1,i2,hk,hw,w1,decide_true,cond_true,and_self,if_true]
  ·simp only[za,i1,i2,hk,hw,decide_true,decide_false,cond_true,cond_false,and_self,if_true,if_false,yb]) (fun b _=>by unfold OD;simp) (b:=()) trivial
 exact e1
theorem abt{f:Flat}{v:View}{box:List aD}(h:Fits f v box)(hlv:f.ag.length<=1000):N8 ⟨box,0,(bX f.ag 1 f.ag.length:Int),0,f.ag,(f.ag.length:Int),0,v,Z3,Z3⟩=
  O ⟨box,(bX f.ag 1 f.ag.length:Int),((bX f.ag 1 f.ag.length+bX f.ag 3 f.ag.length:Nat):Int),(bX f.ag 2 f.ag.length:Int),f.ag,(f.ag.length:Int),(f.ag.length:Int),v,Z3,⟨iD f.ag.length (cZ f v box),⟨0,0,0⟩,[],⟨0,0,0⟩⟩⟩:=by
 have hbx:=h.bl
 rw[AM]at hbx
 have hp:=h.pub
 rw[<-l9]at hp
 obtain⟨b,e1,_⟩:=cz (rnd:=PB) f.ag.length (fun i (_:Unit)=>⟨box,(bX f.ag 1 i:Int),((bX f.ag 1 f.ag.length+bX f.ag 3 i:Nat):Int),(bX f.ag 2 i:Int),f.ag,(f.ag.length:Int),(i:Int),v,Z3,⟨iD i (cZ f v box),⟨0,0,0⟩,[],⟨0,0,0⟩⟩⟩) (fun i _=>True) (fun i b hi _=>by
  have hw:=fq hi (by omega)
  have i1:(i:Int)<(f.ag.length:Int):=by omega
  have i2:(0:Int)<=(i:Int):=by omega
  have c1:=fD hi 1
  have c2:=fD hi 2
  have c3:=fD hi 3
  have m1:=iN (vars:=f.ag) (k:=1) (show i+1<=f.ag.length by omega) (zx _)
  have m2:=iN (vars:=f.ag) (k:=2) (show i+1<=f.ag.length by omega) (zx _)
  have m3:=iN (vars:=f.ag) (k:=3) (show i+1<=f.ag.length by omega) (zx _)
  have l1:=iV f.ag 1 f.ag.length
  have l2:=iV f.ag 2 f.ag.length
  have l3:=iV f.ag 3 f.ag.length
  have hl2:∀x:aD,(iD i (cZ f v box)++[x]).length<=1073741824:=fun x=>by rw[zh,dF,yj];omega
  refine⟨(),?_,trivial⟩
  rw[oc]
  unfold PB
  dsimp only
  rw[c1,c2,c3]
  by_cases k1:f.ag[i]!.aY=1
  ·have ev:cZ f v box i=box[bX f.ag 1 i]! :=by unfold cZ;rw[if_pos k1]
   rw[k1]at c1 c2 c3 ⊢
   simp only[Int.reduceEq,if_true,if_false,yb]at c1 c2 c3 ⊢
   have w1:i64.wrap ((bX f.ag 1 i:Int)+1)=((bX f.ag 1 i+1:Nat):Int):=by rw[aF];omega
   have j1:(bX f.ag 1 i:Int)<(box.length:Int):=by omega
   have j2:(0:Int)<=(bX f.ag 1 i:Int):=by omega
   simp only[za,i1,i2,j1,j2,decide_true,cond_true,and_self,if_true,k1,hl2,hw,w1,ev]
  by_cases k2:f.ag[i]!.aY=2
  ·have ev:cZ f v box i=cR v.aS[bX f.ag 2 i]! :=by unfold cZ;rw[if_neg k1,if_pos k2]
   rw[k2]at c1 c2 c3 ⊢
   simp only[Int.reduceEq,if_true,if_false,yb]at c1 c2 c3 ⊢
   have w1:i64.wrap ((bX f.ag 2 i:Int)+1)=((bX f.ag 2 i+1:Nat):Int):=by rw[aF];omega
   have j1:(bX f.ag 2 i:Int)<(v.aS.length:Int):=by omega
   have j2:(0:Int)<=(bX f.ag 2 i:Int):=by omega
   simp only[za,i1,i2,j1,j2,k2,Int.reduceEq,decide_true,decide_false,cond_true,cond_false,and_self,if_true,hl2,hw,w1,AW,ev]
  by_cases k3:f.ag[i]!.aY=3
  ·have ev:cZ f v box i=box[bX f.ag 1 f.ag.length+bX f.ag 3 i]! :=by unfold cZ;rw[if_neg k1,if_neg k2,if_pos k3]
   rw[k3]at c1 c2 c3 ⊢
   simp only[Int.reduceEq,if_true,if_false,yb]at c1 c2 c3 ⊢
   have w1:i64.wrap (((bX f.ag 1 f.ag.length+bX f.ag 3 i:Nat):Int)+1)=((bX f.ag 1 f.ag.length+(bX f.ag 3 i+1):Nat):Int):=by rw[aF];omega
   have j1:((bX f.ag 1 f.ag.length+bX f.ag 3 i:Nat):Int)<(box.length:Int):=by omega
   have j2:(0:Int)<=((bX f.ag 1 f.ag.length+bX f.ag 3 i:Nat):Int):=by omega
   simp only[za,i1,i2,j1,j2,k3,Int.reduceEq,decide_true,decide_false,cond_true,cond_false,and_self,if_true,hl2,hw,w1,ev]
  ·have ev:cZ f v box i=cR f.ag[i]!.dc:=by unfold cZ;rw[if_neg k1,if_neg k2,if_neg k3]
   rw[if_neg k1,if_neg k2,if_neg k3]
   simp only[za,i1,i2,k1,k2,k3,decide_true,decide_false,cond_true,cond_false,and_self,if_true,hl2,hw,AW,ev,yb]) (fun b _=>by unfold PB;simp) (b:=()) trivial
 exact e1
theorem al6{f:Flat}{v:View}{box:List aD}(h:Fits f v box)(hlv:f.ag.length<=1000):m85 f v box=O (tr (dz f v box)):=by
 have e0:=acf hlv box v
 have e1:=abt h hlv
 unfold m85
 dsimp only[Z3]at e0 e1
 rw[e0]
 dsimp only
 rw[dZ,cond_false,e1]
 dsimp only
 rw[dZ,cond_false]
 rfl
theorem ad7{f:Flat}(hf:JQ f)(hlh:f.ai.length<=1000)(v:View){s:aj}(hs:cI f.ag.length 0 s):Im ⟨[],f.ai,(f.ai.length:Int),0,f,v,A0,tr s⟩=
  O ⟨lI f s,f.ai,(f.ai.length:Int),(f.ai.length:Int),f,v,A0,tr s⟩:=by
 have hsl:s.ax=[]:=yR (Nat.le_zero.1 hs.sl)
 have es:(⟨(tr s).ag,(tr s).au,[],(tr s).aA⟩:aB)=tr s:=by unfold tr;rw[<-hsl]
 obtain⟨b,e1,_⟩:=cz (rnd:=O5) f.ai.length (fun i (_:Unit)=>⟨(f.ai.take i).map (SN f s),f.ai,(f.ai.length:Int),(i:Int),f,v,A0,tr s⟩) (fun i _=>True) (fun i b hi _=>by
  have hw:=fq hi (by omega)
  have i1:(i:Int)<(f.ai.length:Int):=by omega
  have i2:(0:Int)<=(i:Int):=by omega
  obtain⟨q1,q2⟩:=hf.hat i hi
  have ev:=Oa hs f.ai[i]!.ay q2
  obtain⟨c,_,hcl,_,_⟩:=fE (fu hs f.ai[i]!.ay q2) f.ai[i]!.aa f.ai[i]!.af
  have hl2:∀x:aD,((f.ai.take i).map (SN f s)++[x]).length<=1073741824:=fun x=>by simp;omega
  refine⟨(),?_,trivial⟩
  rw[bA hi,zY]
  unfold O5
  simp only[za,i1,i2,decide_true,cond_true,and_self,if_true,aq.eta,es,ev,hcl,hl2,hw,zV,yG]
  rfl) (fun b _=>by unfold O5;simp) (b:=()) trivial
 rw[zG]at e1
 exact e1
theorem aow{f:Flat}{v:View}{box:List aD}(h:ew f.bk+iM (f.ai.map (·.ay))<=900)(hh:f.ai.length<=1000)(hl:f.ag.length<=1000)(hfit:Fits f v box):YI f v box=O (fH f v box):=by
 have hf:=BP hfit.c
 have h0:=lY hfit
 have e2:=ad7 hf hh v h0
 have ho:cl f.bk<=8:=by have:=hf.o;unfold cl;omega
 have e3:r88 f (lI f (dz f v box)) f.bk (tr (dz f v box))=O (tr (BJ f v box)):=
  amy (top:=wE) (by omega) (by simp[lI]) (tS hf h0) (by omega) hf.steps h0 (by omega)
 unfold YI
 rw[al6 hfit hl]
 dsimp only
 have e2':Im ⟨[],f.ai,(f.ai.length:Int),0,f,v,⟨⟨0,0,0⟩,[],⟨0,0,0⟩,[]⟩,⟨(tr (dz f v box)).ag,(tr (dz f v box)).au,[],(tr (dz f v box)).aA⟩⟩=_:=e2
 rw[e2']
 dsimp only
 rw[dZ,cond_false]
 have e3':r88 f (lI f (dz f v box)) f.bk ⟨(tr (dz f v box)).ag,(tr (dz f v box)).au,[],(tr (dz f v box)).aA⟩=_:=e3
 rw[e3']
 dsimp only
 unfold fH
 cases v.nj<;>rfl
end Go.Proofs.YtnfljbehcffmcaaGreat
end
noncomputable section
set_option maxRecDepth 100000
namespace Go.Proofs.YtnfljbehcffmcaaGreat
open Go Go.Iv
abbrev E18:Type:=Bool
def d18:Td 0 E18:= .c [] [0] (.r 0 0 (ec 0 qb en) sn (fun z=>z.1.1) (fun x=>((x,()),(()))) fun _=>rfl)
def A18:=ln
def m18:E18:=wE
def anL:Prop:=HL wG 18 A18 d18 (fun _=>O m18)
def e18:aI->aI:=eL wG 18 wD A18 d18 (fun _=>O m18)
theorem N2(hv:anL){F:aI}(h:bf wG F):bf wG (e18 F):=gx (sc:=Ay) dS hv ⟨_,func18,by kernel_rfl,by kernel_rfl⟩ (fun _=>by kernel_rfl) (fun _=>by kernel_rfl) h
theorem IC:EP e18:=fun h=>kP h
theorem t18:BO wG cQ (fun _=>wD) 300 60 Bool 18 [] [] 0 (X9 RO)=O wE:=by kernel_rfl
theorem SR{P:Program}{f:FuncId}{xs:List AV}{d:AV}(h:Iv.Fn P f xs [] (fun a s=>a=d/\s=[]))(ha:∀ρ:Gh,xs.map (bP.sub ρ)=xs)(hd:∀ρ:Gh,d.sub ρ=d):PA P f xs [] 0 ⟨d,[],0⟩:=fun ρ=>by
 rw[ha ρ]
 exact h.mono fun a s ⟨h1,h2⟩=>⟨ρ,fun _ _=>⟨rfl,rfl⟩,by rw[h1];exact(hd ρ).symm,by rw[h2];exact List.Perm.refl _⟩
theorem ai1:jh wG 18 0 (d18.pat m18)=⟨.b wE,[],0⟩:=by kernel_rfl
theorem aqB:anL:=fun g b hb=>by
 cases hb
 rw[ai1]
 exact SR (aic (KC (P:=wG) (aK (P:=wG)).ok (aK (P:=wG)).nat 300 60) P0.b rfl (fun d hd=>by cases hd) t18).2 (fun _=>rfl) (fun ρ=>jc 2 (by kernel_rfl))
end Go.Proofs.YtnfljbehcffmcaaGreat
end
noncomputable section
set_option maxRecDepth 100000
namespace Go.Proofs.YtnfljbehcffmcaaGreat
open Go Go.Iv
open Go.IntKind (i64)
def F19:aI:=(e78 (e53 (e24 cQ)))
abbrev E19:Type:=Bool
def d19:Td 0 E19:= .c [] [6] (.r 0 0 (ec 6 qb en) sn (fun z=>z.1.1) (fun x=>((x,()),(()))) fun _=>rfl)
theorem auD:∀f∈([24,53,78]:List Nat),aV (F19) f:=(az (jY (pG (CM aZ))) (az (jY (pG (CM aZ))) (az (jY (pG (CM aZ))) aC)))
def m19(a0:Flat)(a1:View)(a2:List aD):Option E19:=
 match bif wF ((↑a1.aS.length:Int)<=20)then bif wF ((↑a2.length:Int)<=20)then match m53 a0 (70) (300)with|wC=>wC|O r1=>bif r1 then match m78 a0 with|wC=>wC|O r2=>bif bif wF (r2=0)then wD else wE then O (wE)else match m24 a0 (4096) (4096) (256)with|wC=>wC|O r3=>O (r3)else O (wD)else O (wD)else O (wD)with|wC=>wC|O r4=>O (r4)
def e19:aI->aI:=eL wG 19 wD (lc (qg 26) (lc (qg 29) (lc (ql 34) ln))) d19 (fun g=>m19 g.1 g.2.1 g.2.2.1)
theorem T1:EO e19:=fun h=>kL (F:=F19) (an:=(.two .no (.two (.rb [24,53,78] 6) .no))) (l:=[(.skip,(.rb [24,53,78] 6))]) func19 (MR (Wu (ahZ aK))) (az auD aC) h
theorem Ik:EP e19:=fun h=>kP h
structure CX where
 (t0 t1:List aD)
 (t12 t13:Int)
def Vs:Td 0 CX:= .c [] [0,1,12,13] (.r 0 0 (ec 0 (ql 34) (ec 1 (ql 34) (ec 12 (qi .i64) (ec 13 (qi .i64) en)))) sn (fun z=>⟨z.1.1,z.1.2.1,z.1.2.2.1,z.1.2.2.2.1⟩) (fun x=>((x.t0,x.t1,x.t12,x.t13,()),(()))) fun _=>rfl)
def aps(p:CX):Option (Option CX):=
 bif wF (p.t13<p.t12)then if(0:Int)<=p.t13/\p.t13<(↑p.t0.length:Int)then if(0:Int)<=p.t13/\p.t13<(↑p.t1.length:Int)then bif bif bif wF (p.t0[p.t13.toNat]!.aa=p.t1[p.t13.toNat]!.aa)then bif wF (p.t0[p.t13.toNat]!.af=p.t1[p.t13.toNat]!.af)then bif wF (p.t0[p.t13.toNat]!.ah=p.t1[p.t13.toNat]!.ah)then wE else wD else wD else wD then wD else wE then O (wC)else O (O (CX.mk p.t0 p.t1 p.t12 (i64.wrap (p.t13+1))))else wC else wC else O (wC)
def WW:CX->Option CX:=bw (aps)
abbrev E64:Type:=Bool
def d64:Td 0 E64:= .c [] [4] (.r 0 0 (ec 4 qb en) sn (fun z=>z.1.1) (fun x=>((x,()),(()))) fun _=>rfl)
def m64(a0:List aD)(a1:List aD):Option E64:=
 bif bif wF ((↑a0.length:Int)=(↑a1.length:Int))then wD else wE then O (wD)else match WW (CX.mk a0 a1 (↑a0.length:Int) (0))with|wC=>wC|O r1=>bif wF (r1.t13<r1.t12)then if(0:Int)<=r1.t13/\r1.t13<(↑r1.t0.length:Int)then if(0:Int)<=r1.t13/\r1.t13<(↑r1.t1.length:Int)then bif bif bif wF (r1.t0[r1.t13.toNat]!.aa=r1.t1[r1.t13.toNat]!.aa)then bif wF (r1.t0[r1.t13.toNat]!.af=r1.t1[r1.t13.toNat]!.af)then bif wF (r1.t0[r1.t13.toNat]!.ah=r1.t1[r1.t13.toNat]!.ah)then wE else wD else wD else wD then wD else wE then O (wD)else wC else wC else wC else O (wE)
def e64:aI->aI:=eL wG 64 wD (lc (ql 34) (lc (ql 34) ln)) d64 (fun g=>m64 g.1 g.2.1)
theorem ajr:EO e64:=fun h=>kL (an:=(.two .no (.two .no (.two (.two .no (Vs.lp WW .no)) .no)))) (l:=[(aU f64 0,(Vs.lp WW .no))]) func64 aK (az (aO Vs) aC) h
theorem Uw:EP e64:=fun h=>kP h
def F22:aI:=(e64 cQ)
abbrev E22:Type:=Bool
def d22:Td 0 E22:= .c [] [4] (.r 0 0 (ec 4 qb en) sn (fun z=>z.1.1) (fun x=>((x,()),(()))) fun _=>rfl)
theorem asT:∀f∈([64]:List Nat),aV (F22) f:=(az (Uw aZ) aC)
def m22(a0:Abstract)(a1:Abstract):Option E22:=
 match bif bif wF (a0.au.aa=a1.au.aa)then bif wF (a0.au.af=a1.au.af)then bif wF (a0.au.ah=a1.au.ah)then wE else wD else wD else wD then bif bif wF (a0.aA.aa=a1.aA.aa)then bif wF (a0.aA.af=a1.aA.af)then bif wF (a0.aA.ah=a1.aA.ah)then wE else wD else wD else wD then match m64 a0.ax a1.ax with|wC=>wC|O r1=>bif r1 then match m64 a0.NX a1.NX with|wC=>wC|O r2=>O (r2)else O (wD)else O (wD)else O (wD)with|wC=>wC|O r3=>O (r3)
def e22:aI->aI:=eL wG 22 wD (lc (qg 36) (lc (qg 36) ln)) d22 (fun g=>m22 g.1 g.2.1)
theorem ah0:EO e22:=fun h=>kL (F:=F22) (an:=(.two .no (.two (.rb [64] 4) .no))) (l:=[(.skip,(.rb [64] 4))]) func22 (ajr aK) (az asT aC) h
def F3:aI:=(e23 (e22 (e21 (Xf (e19 (e18 cQ))))))
theorem aqq:bf wG F3:=(M9 (ah0 (Va (MZ (T1 (N2 aqB aK))))))
abbrev E3:Type:=Bool
def d3:Td 0 E3:= .c [] [6] (.r 0 0 (ec 6 qb en) sn (fun z=>z.1.1) (fun x=>((x,()),(()))) fun _=>rfl)
def A3:=(lc (qg 26) (lc (qg 29) (lc (ql 34) ln)))
def an3:An:= .no
theorem fa3:eW wG (F3) 0 300 3 (an3):=bV (l:=[]) func3 (bB (by kernel_rfl)) (by kernel_rfl) aC
def m3(a0:Flat)(a1:View)(a2:List aD):Option E3:=
 bif bif m18 then wD else wE then O (wD)else match m19 a0 a1 a2 with|wC=>wC|O r1=>bif bif r1 then wD else wE then O (wE)else match m20 a0 a1 a2 with|wC=>wC|O r2=>match m21 a0 a1 a2 with|wC=>wC|O r3=>bif bif wF (r3=0)then wD else wE then bif wF (r2.snd=r3)then match m22 r2.fst (Abstract.mk (aD.mk (0) (0) (0)) [] (aD.mk (0) (0) (0)) [])with|wC=>wC|O r4=>O (r4)else O (wD)else bif wF (r2.snd=0)then match YI a0 a1 a2 with|wC=>wC|O r5=>match m22 r2.fst r5 with|wC=>wC|O r6=>O (r6)else O (wD)
theorem c3(a0:Flat)(a1:View)(a2:List aD):bN wG (F3) 300 (an3) 3 (A3.c (a0,a1,a2,())) [] 0 d3.rd=m3 a0 a1 a2:=by kernel_rfl
theorem h3:HL wG 3 A3 d3 (fun g=>m3 g.1 g.2.1 g.2.2.1):=(dH aqq fa3 (fun _=>by kernel_rfl) (fun _=>by kernel_rfl) fun g=>c3 g.1 g.2.1 g.2.2.1)
def e3:aI->aI:=eL wG 3 wD A3 d3 (fun g=>m3 g.1 g.2.1 g.2.2.1)
def F6:aI:=(e38 (e37 (e31 (e26 (e25 (e21 (e19 (e18 cQ))))))))
theorem apn:bf wG F6:=(aiO (agX (akH (ahm (aih (Va (T1 (N2 aqB aK))))))))
abbrev E6:Type:=Bool
def d6:Td 0 E6:= .c [] [6] (.r 0 0 (ec 6 qb en) sn (fun z=>z.1.1) (fun x=>((x,()),(()))) fun _=>rfl)
def A6:=(lc (qg 26) (lc (qg 29) (lc (ql 34) ln)))
def an6:An:=(.two .no (.two .no (.two .no (.two .no (.two .no (.two .no (.two .no (.two (.rb [31,38] 6) .no))))))))
theorem pu6:∀f∈([31,38]:List Nat),aV (F6) f:=(az (KH (KI (f:=31) rfl (I0 (Ig (f:=31) rfl (JJ (Ij (Ik (IC aZ)))))))) (az (KH (KI (f:=38) rfl (I0 (Ig (f:=38) rfl (JJ (Ij (Ik (IC aZ)))))))) aC))
theorem fa6:eW wG (F6) 0 300 6 (an6):=bV (l:=[(.skip,(.rb [31,38] 6))]) func6 (bB (by kernel_rfl)) (by kernel_rfl) (az pu6 aC)
def m6(a0:Flat)(a1:View)(a2:List aD):Option E6:=
 bif bif m18 then wD else wE then O (wD)else match m19 a0 a1 a2 with|wC=>wC|O r1=>bif bif r1 then wD else wE then O (wE)else match m26 a0 a1 a2 with|wC=>wC|O r2=>match m25 a0 a1 a2 with|wC=>wC|O r3=>match m21 a0 a1 a2 with|wC=>wC|O r4=>bif bif wF (r4=0)then wD else wE then bif wF (r2.snd.snd=r4)then bif wF (r3.snd=r4)then bif bif r2.snd.fst then wD else wE then bif wF (r3.fst=0)then match m31 r2.fst (bg.mk [] (0))with|wC=>wC|O r5=>O (r5)else O (wD)else O (wD)else O (wD)else O (wD)else match m37 a0 a1 a2 with|wC=>wC|O r6=>match bif wF (r2.snd.snd=0)then bif wF (r3.snd=0)then bif r2.snd.fst==r6.snd then match m31 r2.fst r6.fst with|wC=>wC|O r7=>bif r7 then match m38 a0 a1 a2 with|wC=>wC|O r8=>bif wF (r3.fst=r8)then O (wF (((r3.fst,r3.snd,()),()).fst.fst=1)==r2.snd.fst)else O (wD)else O (wD)else O (wD)else O (wD)else O (wD)with|wC=>wC|O r9=>O (r9)
theorem c6(a0:Flat)(a1:View)(a2:List aD):bN wG (F6) 300 (an6) 6 (A6.c (a0,a1,a2,())) [] 0 d6.rd=m6 a0 a1 a2:=by kernel_rfl
theorem h6:HL wG 6 A6 d6 (fun g=>m6 g.1 g.2.1 g.2.2.1):=(dH apn fa6 (fun _=>by kernel_rfl) (fun _=>by kernel_rfl) fun g=>c6 g.1 g.2.1 g.2.2.1)
def e6:aI->aI:=eL wG 6 wD A6 d6 (fun g=>m6 g.1 g.2.1 g.2.2.1)
end Go.Proofs.YtnfljbehcffmcaaGreat
end
noncomputable section
namespace Go.Proofs.YtnfljbehcffmcaaGreat
open Go Go.Iv
theorem QG{f:Flat}(h:R3 f 70 300=wE):ew f.bk+iM (f.ai.map (·.ay))<=300/\f.ai.length<=70/\f.ag.length<=70:=by
 unfold R3 at h
 rw[decide_eq_true_eq]at h
 omega
theorem ars(f:Flat)(v:View)(box:List aD):∃r,m19 f v box=O r/\(r=wE->R3 f 70 300=wE/\box.length<=20/\(wW f=0->R3 f 10 80=wE)):=by
 unfold m19
 by_cases h1:(v.aS.length:Int)<=20
 case neg=>rw[decide_eq_false h1];exact⟨false,rfl,fun h=>by cases h⟩
 by_cases h2:(box.length:Int)<=20
 case neg=>rw[decide_eq_true h1,decide_eq_false h2];exact⟨false,rfl,fun h=>by cases h⟩
 rw[decide_eq_true h1,decide_eq_true h2,Ul f 70 300 (by decide) (by decide) (by decide) (by decide)]
 cases hf:R3 f 70 300 with
 |false=>exact⟨false,rfl,fun h=>by cases h⟩
 |true=>
  obtain⟨q1,q2,q3⟩:=QG hf
  rw[NL f (by omega) (by omega) (by omega)]
  by_cases hc:wW f=0
  ·obtain⟨r,e,hr⟩:=aix f 4096 4096 256
   rw[e]
   simp only[hc,decide_true,cond_true,cond_false]
   exact⟨r,rfl,fun h=>⟨trivial,by omega,fun _=>(hr h).1⟩⟩
  ·simp only[hc,decide_false,cond_true,cond_false]
   exact⟨wE,rfl,fun _=>⟨trivial,by omega,fun k=>by first|exact absurd k hc|exact k.elim⟩⟩
theorem JA{a:aD}(h:NN a):bC a<=a.af-a.aa+1:=by
 rw[uk h]
 have:=h.le
 split
 ·omega
 ·have:=z7 a.ah (show 0<=a.af-a.aa by omega)
  omega
theorem tR{a:aD}(h:NN a):1<=bC a/\bC a<=2199023255553:=by
 have h1:=size_pos h
 have h2:=JA h
 obtain⟨a1,a2⟩:=h.pT
 obtain⟨a3,a4⟩:=h.wQ
 exact⟨h1,by omega⟩
theorem Js{a b:Int}(h1:1<=a)(h2:a<=2199023255553)(h3:1<=b)(h4:b<=2199023255553):m93 a b=O (min (a*b) 1099511627776):=by
 have hd:(1099511627776:Int).tdiv b=1099511627776/b:=Int.tdiv_eq_ediv_of_nonneg (by omega)
 have q0:0<=(1099511627776:Int)/b:=zL (by omega) (by omega)
 have q1:(1099511627776:Int)/b<=1099511627776:=z7 _ (by omega)
 have iff:(1099511627776:Int)/b<a↔1099511627776<a*b:=Int.ediv_lt_iff_lt_mul (by omega)
 have p0:0<=a*b:=zo (by omega) (by omega)
 unfold m93
 rw[decide_eq_true (show 0<b by omega),cond_true,if_pos (show ¬@Eq Int b 0 by omega),hd,aF]
 dsimp only
 by_cases c:1099511627776<a*b
 ·rw[decide_eq_true (iff.mpr c),cond_true,show min (a*b) 1099511627776=1099511627776 by omega]
 ·rw[decide_eq_false (fun k=>c (iff.mp k)),cond_false,aF,show min (a*b) 1099511627776=a*b by omega]
def dB:List aD->Int
 |[]=>1
 |x::l=>bC x*dB l
def jz:List aN->Int
 |[]=>1
 |x::l=>(x.af-x.aa+1)*jz l
theorem um:∀(a b:List aD),dB (a++b)=dB a*dB b
 |[],b=>by rw[z8,dB,zN]
 |x::a,b=>by rw[xe,dB,dB,um a b,zI]
theorem Ee:∀(a b:List aN),jz (a++b)=jz a*jz b
 |[],b=>by rw[z8,jz,zN]
 |x::a,b=>by rw[xe,jz,jz,Ee a b,zI]
theorem iZ:∀{l:List aD},(∀x∈l,NN x)->1<=dB l
 |[],_=>by rw[dB];decide
 |x::l,h=>by
  rw[dB]
  have h1:=size_pos (h x (zg ..))
  have h2:=iZ (fun y hy=>h y (zC _ hy))
  have:=yN h1 h2 (by omega) (by omega)
  omega
theorem Ji:∀{l:List aD},(∀x∈l,NN x)->dB l=1->∀x∈l,bC x=1
 |[],_,_,_,h=>by cases h
 |y::l,h,e,x,hx=>by
  rw[dB]at e
  have h1:=size_pos (h y (zg ..))
  have h2:=iZ (fun z hz=>h z (zC _ hz))
  have k1:=xS h2 (show 0<=bC y by omega)
  have k2:=zF h1 (show 0<=dB l by omega)
  rcases zu.1 hx with rfl|hx
  ·omega
  ·exact Ji (fun z hz=>h z (zC _ hz)) (by omega) x hx
theorem vU{l:List aD}(h:∀x∈l,NN x)(i:Nat):1<=dB (l.take i)/\dB (l.take i)<=dB l:=by
 have h1:=iZ (l:=l.take i) (fun x hx=>h x (wk hx))
 have h2:=iZ (l:=l.drop i) (fun x hx=>h x (xN hx))
 have e:dB l=dB (l.take i)*dB (l.drop i):=by rw[<-um,xg]
 have:=xS h2 (show 0<=dB (l.take i)by omega)
 exact⟨h1,by rw[e];omega⟩
theorem ON:∀{l:List aD} {L:List aN},l.length=L.length->(∀j,j<l.length->NN l[j]!/\L[j]!.aa<=l[j]!.aa/\l[j]!.af<=L[j]!.af)->dB l<=jz L
 |[],[],_,_=>zk _
 |[],y::L,h,_=>by simp at h
 |x::l,[],h,_=>by simp at h
 |x::l,y::L,h,k=>by
  rw[dB,jz]
  have hN:∀z∈l,NN z:=fun z hz=>by
   obtain⟨i,hi,e⟩:=wB.1 hz
   have:=(k (i+1) (by simp;omega)).1
   rw[show (x::l)[i+1]! =l[i]! from rfl,getElem!_pos l i hi,e]at this
   exact this
  obtain⟨k1,k2,k3⟩:=k 0 (by simp)
  have k1:NN x:=k1
  have k2:y.aa<=x.aa:=k2
  have k3:x.af<=y.af:=k3
  have h1:=size_pos k1
  have h2:=JA k1
  have h3:=ON (l:=l) (L:=L) (by simpa using h) (fun j hj=>k (j+1) (by simp;omega))
  have h4:=iZ hN
  exact yN (by omega) h3 (by omega) (by omega)
theorem tv(kind:Int):∀(l:List aN) (n m:Int),sN kind l n=O m->m=n*jz (l.filter (kd kind))
 |[],n,m,e=>by unfold sN at e;cases e;rw[xG,jz,Int.mul_one]
 |v::vs,n,m,e=>by
  unfold sN at e
  by_cases hk:v.aY=kind
  ·rw[if_pos hk]at e
   split at e
   ·cases e
   ·have:=tv kind vs _ m e
    rw[this,yK,if_pos (by simp[kd,hk]),jz,zI]
  ·rw[if_neg hk]at e
   rw[tv kind vs n m e,yK,if_neg (by simp[kd,hk])]
theorem vZ:∀{l:List aN},(∀v∈l,v.aa<=v.af)->1<=jz l
 |[],_=>by rw[jz];decide
 |x::l,h=>by
  rw[jz]
  have h1:=h x (zg ..)
  have h2:=vZ (fun y hy=>h y (zC _ hy))
  have:=yN (show 1<=x.af-x.aa+1 by omega) h2 (by omega) (by omega)
  omega
theorem RM{f:Flat}(h:wW f=0):uT f.ag=wE:=by
 unfold wW at h
 by_cases h1:pK f=wD
 ·rw[if_pos h1]at h;exact absurd h (by decide)
 rw[if_neg h1]at h
 by_cases hvc:jv f.ag=0
 case neg=>rw[if_pos hvc]at h;exact absurd h hvc
 unfold jv at hvc
 by_cases h0:bY (kU f.ag) f.ag 0=0
 case neg=>rw[if_pos h0]at hvc;exact absurd hvc h0
 rw[if_neg (by simpa using h0)]at hvc
 cases hs:uT f.ag with
 |true=>rfl
 |false=>rw[hs]at hvc;simp at hvc
theorem acR{f:Flat}(h:wW f=0):jz (fQ f.ag)<=1048576:=by
 have hv:=ua h
 have hs:=RM h
 unfold uT at hs
 simp only[ze]at hs
 obtain⟨⟨h1,_⟩,h3⟩:=hs
 obtain⟨a,e1⟩:=Option.isSome_iff_exists.1 h1
 cases e3:sN 3 f.ag 1 with
 |none=>rw[e3]at h3;cases h3
 |some b=>
  rw[e3]at h3
  have h3:b<=256:=by simpa using h3
  have ha:=BH 1 f.ag 1 a (by decide) e1
  have p1:=tv 1 f.ag 1 a e1
  have p3:=tv 3 f.ag 1 b e3
  rw[zN]at p1 p3
  have q1:=vZ (l:=f.ag.filter (kd 1)) (fun v hv'=>(hv v (zW.1 hv').1).2.1)
  have q3:=vZ (l:=f.ag.filter (kd 3)) (fun v hv'=>(hv v (zW.1 hv').1).2.1)
  unfold fQ
  rw[Ee,<-p1,<-p3]
  rw[<-p1]at q1
  rw[<-p3]at q3
  have:=yN ha h3 (by omega) (by omega)
  omega
theorem Fits.nn{f:Flat}{v:View}{box:List aD}(h:Fits f v box):∀x∈box,NN x:=fun x hx=>by
 obtain⟨i,hi,e⟩:=wB.1 hx
 have:=(h.bx i hi).1
 rw[getElem!_pos box i hi,e]at this
 exact this
theorem Fits.vol{f:Flat}{v:View}{box:List aD}(h:Fits f v box):1<=dB box/\dB box<=1048576:=⟨iZ h.nn,xA (ON h.bl h.bx) (acR h.c)⟩
theorem adU{box:List aD}(h:∀x∈box,NN x)(hl:box.length<=1000000)(hv:dB box<=1048576):YD box=O (dB box):=by
 obtain⟨b,e1,_⟩:=cz (rnd:=Ff) box.length (fun i (_:Unit)=>⟨dB (box.take i),box,(box.length:Int),(i:Int)⟩) (fun i _=>True) (fun i b hi _=>by
  have hw:=fq hi hl
  have i1:(i:Int)<(box.length:Int):=by omega
  have i2:(0:Int)<=(i:Int):=by omega
  obtain⟨t1,t2⟩:=vU h (i+1)
  have e:dB (box.take (i+1))=dB (box.take i)*bC box[i]! :=by
   rw[bA hi,um,dB,dB,Int.mul_one]
  refine⟨(),?_,trivial⟩
  rw[e]at t1 t2 ⊢
  unfold Ff
  simp only[za,i1,i2,decide_true,cond_true,and_self,if_true,de (.inr (h _ (aR hi))),hw]
  rw[aF]) (fun b _=>by unfold Ff;simp) (b:=()) trivial
 rw[zG]at e1
 have e1':Hv ⟨1,box,(box.length:Int),0⟩=O ⟨dB box,box,(box.length:Int),(box.length:Int)⟩:=e1
 unfold YD
 rw[e1']
 dsimp only
 rw[dZ,cond_false]
def fY(l:List aD):Bool:=l.all fun x=>wF (bC x=1)
def Xy(r:Abstract):Bool:=(wF (bC r.au=1)&&wF (bC r.aA=1))&&fY r.ax
def SW(r:Abstract):bg:=⟨r.ax.map (·.aa),r.aA.aa⟩
structure L2 (r:Abstract):Prop where
 count:NN r.au
 time:NN r.aA
 sl:r.ax.length<=8
 slots:∀i,i<r.ax.length->NN r.ax[i]!
theorem Aa{l:List aD}{i:Nat}(h:i<l.length):fY (l.take (i+1))=(fY (l.take i)&&wF (bC l[i]! =1)):=by
 unfold fY
 rw[bA h,List.all_append]
 simp
theorem adE{r:Abstract}(h:L2 r)(b:Bool)(t:Int):PD ⟨b,r.ax,(r.ax.length:Int),0,⟨[],0⟩,⟨[],t⟩⟩=O ⟨b&&fY r.ax,r.ax,(r.ax.length:Int),(r.ax.length:Int),⟨[],0⟩,⟨r.ax.map (·.aa),t⟩⟩:=by
 have hs:=h.sl
 obtain⟨_,e1,_⟩:=cz (rnd:=Qw) r.ax.length (fun i (_:Unit)=>⟨b&&fY (r.ax.take i),r.ax,(r.ax.length:Int),(i:Int),⟨[],0⟩,⟨(r.ax.take i).map (·.aa),t⟩⟩) (fun i _=>True) (fun i _ hi _=>by
  have hw:=fq hi (by omega)
  have i1:(i:Int)<(r.ax.length:Int):=by omega
  have i2:(0:Int)<=(i:Int):=by omega
  have hl2:∀x:Int,((r.ax.take i).map (·.aa)++[x]).length<=1073741824:=fun x=>by simp;omega
  refine⟨(),?_,trivial⟩
  rw[Aa hi,bA hi,zY]
  unfold Qw
  cases hb:(b&&fY (r.ax.take i))with
  |false=>
   rw[<-Bool.and_assoc,hb]
   simp only[za,i1,i2,hl2,decide_true,cond_true,cond_false,and_self,if_true,hw,Bool.false_and,zV,yG]
  |true=>
   rw[<-Bool.and_assoc,hb]
   simp only[za,i1,i2,hl2,decide_true,cond_true,and_self,if_true,o8 (.inr (h.slots i hi)),hw,xF,zV,yG]) (fun b _=>by unfold Qw;simp) (b:=()) trivial
 rw[zG]at e1
 have:(b&&fY (r.ax.take 0))=b:=by simp[fY]
 rw[this]at e1
 exact e1
theorem ZQ{r:Abstract}(h:L2 r)(b:Bool)(t:Int):OZ ⟨b,r.ax,(r.ax.length:Int),0,⟨[],0⟩,⟨[],t⟩⟩=O ⟨b&&fY r.ax,r.ax,(r.ax.length:Int),(r.ax.length:Int),⟨[],0⟩,⟨r.ax.map (·.aa),t⟩⟩:=by
 have hs:=h.sl
 obtain⟨_,e1,_⟩:=cz (rnd:=P5) r.ax.length (fun i (_:Unit)=>⟨b&&fY (r.ax.take i),r.ax,(r.ax.length:Int),(i:Int),⟨[],0⟩,⟨(r.ax.take i).map (·.aa),t⟩⟩) (fun i _=>True) (fun i _ hi _=>by
  have hw:=fq hi (by omega)
  have i1:(i:Int)<(r.ax.length:Int):=by omega
  have i2:(0:Int)<=(i:Int):=by omega
  have hl2:∀x:Int,((r.ax.take i).map (·.aa)++[x]).length<=1073741824:=fun x=>by simp;omega
  refine⟨(),?_,trivial⟩
  rw[Aa hi,bA hi,zY]
  unfold P5
  cases hb:(b&&fY (r.ax.take i))with
  |false=>
   rw[<-Bool.and_assoc,hb]
   simp only[za,i1,i2,hl2,decide_true,cond_true,cond_false,and_self,if_true,hw,Bool.false_and,zV,yG]
  |true=>
   rw[<-Bool.and_assoc,hb]
   simp only[za,i1,i2,hl2,decide_true,cond_true,and_self,if_true,de (.inr (h.slots i hi)),hw,xF,zV,yG]) (fun b _=>by unfold P5;simp) (b:=()) trivial
 rw[zG]at e1
 have:(b&&fY (r.ax.take 0))=b:=by simp[fY]
 rw[this]at e1
 exact e1
theorem apQ{f:Flat}{v:View}{box:List aD}{r:Abstract}(e:m20 f v box=O (r,0))(h:L2 r):m26 f v box=O (if Xy r=wE then(SW r,wE,0)else(⟨[],0⟩,wD,0)):=by
 unfold m26
 rw[e]
 simp only[decide_true,cond_true,cond_false,o8 (.inr h.count),o8 (.inr h.time)]
 have ef:(bif wF (@Eq Int (bC r.au) 1)then some (wF (@Eq Int (bC r.aA) 1))else some false)=some (wF (bC r.au=1)&&wF (bC r.aA=1)):=by cases wF (bC r.au=1)<;>rfl
 rw[ef]
 dsimp only
 rw[adE h]
 dsimp only
 rw[dZ,cond_false]
 unfold Xy SW
 cases (wF (bC r.au=1)&&wF (bC r.aA=1))&&fY r.ax<;>rfl
theorem ap5{f:Flat}{v:View}{box:List aD}{r:Abstract}(e:YI f v box=O r)(h:L2 r):m37 f v box=O (if Xy r=wE then(SW r,wE)else(⟨[],0⟩,wD)):=by
 unfold m37
 rw[e]
 simp only[de (.inr h.count),de (.inr h.time)]
 have ef:(bif wF (@Eq Int (bC r.au) 1)then some (wF (@Eq Int (bC r.aA) 1))else some false)=some (wF (bC r.au=1)&&wF (bC r.aA=1)):=by cases wF (bC r.au=1)<;>rfl
 rw[ef]
 dsimp only
 rw[ZQ h]
 dsimp only
 rw[dZ,cond_false]
 unfold Xy SW
 cases (wF (bC r.au=1)&&wF (bC r.aA=1))&&fY r.ax<;>rfl
end Go.Proofs.YtnfljbehcffmcaaGreat
end
noncomputable section
namespace Go.Proofs.YtnfljbehcffmcaaGreat
open Go Go.Iv
open Go.IntKind (i64)
def iF(r:Abstract)(M:Int):Nat->Int×Int
 |0=>(0,min (bC r.aA) M)
 |k+1=>(if bQ r.au (k:Nat)=wE then min ((iF r M k).1+(iF r M k).2) M else(iF r M k).1,if k<r.ax.length then min ((iF r M k).2*bC r.ax[k]!) M else(iF r M k).2)
theorem vI{r:Abstract}(h:L2 r){M:Int}(hM:1<=M):∀k,0<=(iF r M k).1/\(iF r M k).1<=M/\1<=(iF r M k).2/\(iF r M k).2<=M
 |0=>by
  have:=size_pos h.time
  simp only[iF]
  omega
 |k+1=>by
  obtain⟨h1,h2,h3,h4⟩:=vI h hM k
  simp only[iF]
  refine⟨?_,?_,?_,?_⟩
  ·split<;>omega
  ·split<;>omega
  ·split
   ·rename_i c
    have:=size_pos (h.slots k c)
    have:=yN h3 this (by omega) (by omega)
    omega
   ·omega
  ·split<;>omega
theorem Xd{P s V:Int}(hs:1<=s)(hP:1<=P)(hV:1<=V):min (P*min s V) V=min (P*s) V:=by
 by_cases c:s<=V
 ·rw[show min s V=s by omega]
 ·rw[show min s V=V by omega]
  have k1:=zF hP (show 0<=V by omega)
  have k2:=zF hP (show 0<=s by omega)
  omega
def Az(r:Abstract):Nat->Int×Int
 |0=>(0,bC r.aA)
 |k+1=>(if bQ r.au (k:Nat)=wE then min ((Az r k).1+(Az r k).2) 1099511627776 else(Az r k).1,if k<r.ax.length then min ((Az r k).2*bC r.ax[k]!) 1099511627776 else(Az r k).2)
theorem Ng{r:Abstract}(h:L2 r):∀k,0<=(Az r k).1/\(Az r k).1<=1099511627776/\1<=(Az r k).2/\(Az r k).2<=2199023255553
 |0=>by
  have:=tR h.time
  simp only[Az]
  omega
 |k+1=>by
  obtain⟨h1,h2,h3,h4⟩:=Ng h k
  simp only[Az]
  refine⟨?_,?_,?_,?_⟩
  ·split<;>omega
  ·split<;>omega
  ·split
   ·rename_i c
    have:=size_pos (h.slots k c)
    have:=yN h3 this (by omega) (by omega)
    omega
   ·omega
  ·split<;>omega
theorem QI{r:Abstract}(h:L2 r){V:Int}(hV:1<=V)(hM:V<=1099511627776):∀k,(iF r V k).1=min (Az r k).1 V/\(iF r V k).2=min (Az r k).2 V
 |0=>by
  refine⟨?_,rfl⟩
  show (0:Int)=min 0 V
  omega
 |k+1=>by
  obtain⟨h1,h2⟩:=QI h hV hM k
  obtain⟨b1,b2,b3,b4⟩:=Ng h k
  simp only[iF,Az]
  refine⟨?_,?_⟩
  ·split
   ·rw[h1,h2];omega
   ·exact h1
  ·split
   ·rename_i c
    have hs:=size_pos (h.slots k c)
    rw[h2]
    generalize (Az r k).2=P at*
    generalize bC r.ax[k]! =s at*
    by_cases c2:P<=V
    ·rw[show min P V=P by omega];omega
    ·rw[show min P V=V by omega]
     have k1:=xS hs (show 0<=V by omega)
     have k2:=xS hs (show 0<=P by omega)
     omega
   ·exact h2
theorem rj(a b:Int):(if b<a then b else a)=min a b:=by split<;>omega
theorem adY{r:Abstract}(h:L2 r)(box:List aD):Py ⟨box,0,bC r.aA,((r.ax.length+1:Nat):Int),0,r⟩=O ⟨box,(Az r (r.ax.length+1)).1,(Az r (r.ax.length+1)).2,((r.ax.length+1:Nat):Int),((r.ax.length+1:Nat):Int),r⟩:=by
 have hs:=h.sl
 obtain⟨_,e1,_⟩:=cz (rnd:=Q5) (r.ax.length+1) (fun i (_:Unit)=>⟨box,(Az r i).1,(Az r i).2,((r.ax.length+1:Nat):Int),(i:Int),r⟩) (fun i _=>True) (fun i _ hi _=>by
  have hw:i64.wrap ((i:Int)+1)=((i+1:Nat):Int):=by rw[aF];omega
  have i1:(i:Int)<((r.ax.length+1:Nat):Int):=by omega
  have i2:(0:Int)<=(i:Int):=by omega
  obtain⟨b1,b2,b3,b4⟩:=Ng h i
  have ws:i64.wrap ((Az r i).1+(Az r i).2)=(Az r i).1+(Az r i).2:=aF
  refine⟨(),?_,trivial⟩
  unfold Q5
  simp only[Az]
  by_cases c:i<r.ax.length
  ·have c1:(i:Int)<(r.ax.length:Int):=by omega
   have hz:=tR (h.slots i c)
   have et:=Js b3 b4 hz.1 hz.2
   cases hc:bQ r.au (i:Nat)with
   |true=>simp only[za,i1,i2,c,c1,decide_true,cond_true,and_self,if_true,oU (.inr h.count),hc,o8 (.inr (h.slots i c)),et,ws,rj,hw]
   |false=>simp only[za,i1,i2,c,c1,decide_true,cond_true,cond_false,and_self,if_true,oU (.inr h.count),hc,o8 (.inr (h.slots i c)),et,hw,yD,if_false]
  ·have c1:¬(i:Int)<(r.ax.length:Int):=by omega
   cases hc:bQ r.au (i:Nat)with
   |true=>simp only[i1,c,c1,decide_true,decide_false,cond_true,cond_false,if_true,if_false,oU (.inr h.count),hc,ws,rj,hw]
   |false=>simp only[i1,c,c1,decide_true,decide_false,cond_true,cond_false,if_false,oU (.inr h.count),hc,hw,yD]) (fun b _=>by unfold Q5;simp) (b:=()) trivial
 exact e1
theorem aef{box:List aD}(h:∀x∈box,NN x)(hl:box.length<=1000000)(hv:dB box<=1048576)(s:Int):Ob ⟨s,1,box,(box.length:Int),0⟩=O ⟨s,dB box,box,(box.length:Int),(box.length:Int)⟩:=by
 obtain⟨_,e1,_⟩:=cz (rnd:=Od) box.length (fun i (_:Unit)=>⟨s,dB (box.take i),box,(box.length:Int),(i:Int)⟩) (fun i _=>True) (fun i b hi _=>by
  have hw:=fq hi hl
  have i1:(i:Int)<(box.length:Int):=by omega
  have i2:(0:Int)<=(i:Int):=by omega
  obtain⟨t1,t2⟩:=vU h (i+1)
  obtain⟨u1,u2⟩:=vU h i
  have hz:=tR (h _ (aR hi))
  have e:dB (box.take (i+1))=dB (box.take i)*bC box[i]! :=by
   rw[bA hi,um,dB,dB,Int.mul_one]
  have et:=Js (a:=dB (box.take i)) (by omega) (by omega) hz.1 hz.2
  rw[show min (dB (box.take i)*bC box[i]!) 1099511627776=dB (box.take i)*bC box[i]! by rw[<-e];omega]at et
  refine⟨(),?_,trivial⟩
  rw[e]
  unfold Od
  simp only[za,i1,i2,decide_true,cond_true,and_self,if_true,o8 (.inr (h _ (aR hi))),et,hw]) (fun b _=>by unfold Od;simp) (b:=()) trivial
 rw[zG]at e1
 exact e1
def Jy(r:Abstract)(V:Int):Int:=(iF r V (r.ax.length+1)).1
theorem aom{f:Flat}{v:View}{box:List aD}{r:Abstract}(e:m20 f v box=O (r,0))(h:L2 r)(hb:∀x∈box,NN x)(hl:box.length<=1000000)(hv:dB box<=1048576):m25 f v box=O (Jy r (dB box),0):=by
 have hs:=h.sl
 have hp:=iZ hb
 have wl:i64.wrap ((r.ax.length:Int)+1)=((r.ax.length+1:Nat):Int):=by rw[aF];omega
 unfold m25
 rw[e]
 simp only[decide_true,cond_true,cond_false,o8 (.inr h.time),wl]
 rw[adY h box]
 dsimp only
 rw[dZ,cond_false,aef hb hl hv]
 dsimp only
 rw[dZ,cond_false]
 unfold Jy
 rw[(QI h hp (by omega) _).1,rj]
theorem Yl{r:Abstract}(h:L2 r){V:Int}(hV:1<=V)(hV2:V<=1048576):OS ⟨V,0,min (bC r.aA) V,0,r⟩=O ⟨V,(iF r V (r.ax.length+1)).1,(iF r V (r.ax.length+1)).2,((r.ax.length+1:Nat):Int),r⟩:=by
 have hs:=h.sl
 obtain⟨_,e1,_⟩:=cz (rnd:=Qp) (r.ax.length+1) (fun i (_:Unit)=>⟨V,(iF r V i).1,(iF r V i).2,(i:Int),r⟩) (fun i _=>True) (fun i _ hi _=>by
  have hw:i64.wrap ((i:Int)+1)=((i+1:Nat):Int):=by rw[aF];omega
  have i1:(i:Int)<=(r.ax.length:Int):=by omega
  have i2:(0:Int)<=(i:Int):=by omega
  obtain⟨b1,b2,b3,b4⟩:=vI h hV i
  have ws:i64.wrap ((iF r V i).1+(iF r V i).2)=(iF r V i).1+(iF r V i).2:=aF
  refine⟨(),?_,trivial⟩
  unfold Qp
  simp only[iF]
  by_cases c:i<r.ax.length
  ·have c1:(i:Int)<(r.ax.length:Int):=by omega
   have hz:=tR (h.slots i c)
   have p1:(iF r V i).2*min (bC r.ax[i]!) V<=V*V:=yN b4 (by omega) (by omega) (by omega)
   have p2:V*V<=1048576*1048576:=yN hV2 hV2 (by omega) (by omega)
   have p3:0<=(iF r V i).2*min (bC r.ax[i]!) V:=zo (by omega) (by omega)
   have wp:i64.wrap ((iF r V i).2*min (bC r.ax[i]!) V)=(iF r V i).2*min (bC r.ax[i]!) V:=aF
   have em:=Xd hz.1 b3 hV
   cases hc:bQ r.au (i:Nat)with
   |true=>simp only[za,i1,i2,c,c1,decide_true,cond_true,and_self,if_true,iQ (.inr h.count),hc,de (.inr (h.slots i c)),ws,rj,wp,em,hw]
   |false=>simp only[za,i1,i2,c,c1,decide_true,cond_true,cond_false,and_self,if_true,iQ (.inr h.count),hc,de (.inr (h.slots i c)),rj,wp,em,hw,yD,if_false]
  ·have c1:¬(i:Int)<(r.ax.length:Int):=by omega
   cases hc:bQ r.au (i:Nat)with
   |true=>simp only[i1,c,c1,decide_true,decide_false,cond_true,cond_false,if_true,if_false,iQ (.inr h.count),hc,ws,rj,hw]
   |false=>simp only[i1,c,c1,decide_true,decide_false,cond_true,cond_false,if_false,iQ (.inr h.count),hc,hw,yD]) (fun b _=>by
    unfold Qp
    dsimp only
    rw[dZ]
    rfl) (b:=()) trivial
 exact e1
theorem aog{f:Flat}{v:View}{box:List aD}{r:Abstract}(e:YI f v box=O r)(h:L2 r)(hb:∀x∈box,NN x)(hl:box.length<=1000000)(hv:dB box<=1048576):m38 f v box=O (Jy r (dB box)):=by
 have hp:=iZ hb
 unfold m38
 rw[e]
 dsimp only
 rw[adU hb hl hv]
 dsimp only
 rw[de (.inr h.time)]
 dsimp only
 rw[if_neg (show ¬1099511627776<dB box by omega),rj,Yl h hp hv]
 dsimp only
 rw[dZ,cond_false]
 rfl
end Go.Proofs.YtnfljbehcffmcaaGreat
end
noncomputable section
namespace Go.Proofs.YtnfljbehcffmcaaGreat
open Go Go.Iv
structure CI (s:aj):Prop where
 lo:0<=s.au.aa
 hi:s.au.af=s.ax.length
theorem SX{a:aD}(h:NN a)(hu:a.af<=1000000000):(jb 8 a (cR 1)).aa=a.aa+1/\(jb 8 a (cR 1)).af=a.af+1:=by
 have hb:NN (cR 1):=iw ⟨by decide,by decide⟩
 have hl:=h.lo
 rcases gP (op:=8) (.inl rfl) h hb (fun Q k=>C5 h hb k) (fun k=>(mb h hb).mpr ⟨dO k (.inl rfl) (.inl rfl),dO k (.inr (.inr rfl)) (.inr (.inr rfl))⟩)with ⟨_,e,_⟩|⟨hn,_⟩
 ·unfold jb
  rw[e]
  exact⟨rfl,rfl⟩
 ·refine absurd (fun y ⟨x,z,⟨x1,x2,_⟩,⟨z1,z2,_⟩,e⟩=> ?_) hn
  have z1:(1:Int)<=z:=z1
  have z2:z<=1:=z2
  have e:y=x+z:=e
  unfold bO
  omega
theorem uu{s:aj}(h:CI s)(c:Int):CI (ek s c):=⟨h.lo,h.hi⟩
theorem Qy{f:Flat}{s:aj}(h:CI s)(v:Int)(x:aD):CI (Hj f s v x):=⟨h.lo,h.hi⟩
theorem ZX{n m:Nat}{s:aj}(k:cI n m s)(h:CI s)(hm:m<=1000000)(x:aD):CI (DH s x):=by
 have hs:=k.sl
 have hh:=h.hi
 have hl:=h.lo
 obtain⟨e1,e2⟩:=SX k.count (by omega)
 refine⟨?_,?_⟩
 ·show 0<=(jb 8 s.au (cR 1)).aa
  omega
 ·show (jb 8 s.au (cR 1)).af=((iD _ _++[x]:List aD).length:Int)
  rw[e2,zh,dF,yj]
  omega
theorem JO{n m:Nat}{s t:aj}(k:cI n m s)(k':cI n m t)(h:CI s)(h':CI t):CI (iE s t):=by
 have h1:=h.lo
 have h2:=h.hi
 have h3:=h'.lo
 have h4:=h'.hi
 refine⟨?_,?_⟩
 ·show 0<=(bJ s.au t.au).aa
  rw[dX k.count k'.count]
  show 0<=min s.au.aa t.au.aa
  omega
 ·show (bJ s.au t.au).af=((iD _ _:List aD).length:Int)
  rw[dX k.count k'.count,dF]
  show max s.au.af t.au.af=_
  omega
theorem Io{n m:Nat}:∀(l:List aj) (x:aj),cI n m x->CI x->(∀q∈l,cI n m q/\CI q)->CI (l.foldl iE x)
 |[],x,_,hx,_=>hx
 |y::l,x,kx,hx,hl=>by
  obtain⟨ky,hy⟩:=hl y (zg ..)
  exact Io l (iE x y) (ux kx ky) (JO kx ky hx hy) (fun q hq=>hl q (zC _ hq))
theorem Sf{n m:Nat}{l:List aj}(h0:l≠[])(h:∀q∈l,cI n m q/\CI q):CI (jW l):=by
 cases l with
 |nil=>exact absurd rfl h0
 |cons x l=>
  obtain⟨kx,hx⟩:=h x (zg ..)
  exact Io l x kx hx (fun q hq=>h q (zC _ hq))
theorem Qk{vars:List aN}{a:aj->aj}{t:aq}{c:Int}{o:Nat}(hc:bO c)(ha:∀s m,cI vars.length m s->cI vars.length (m+o) (a s)):∀(N:Nat) (s:aj) (m:Nat),cI vars.length m s->CI s->m+N*o<=1000000->
  (∀s m,cI vars.length m s->CI s->m+o<=1000000->CI (a s))->∀q∈gN a t c N s,CI q
 |0,s,m,_,h,_,_=>by
  rw[gN]
  intro q hq
  rw[zD.1 hq]
  exact h
 |n+1,s,m,k,h,hm,hb=>by
  rw[gN]
  rw[zZ,y8]at hm
  have k1:=gL k hc
  intro q hq
  rcases zP.1 hq with hq|hq
  ·split at hq
   ·rw[zD.1 hq];exact uu h c
   ·cases hq
  ·split at hq
   ·exact Qk hc ha n _ (m+o) (ha _ _ k1) (hb _ _ k1 (uu h c) (by omega)) (by omega) hb q hq
   ·cases hq
theorem Kv{f:Flat}{hv:List aD}{a b:aj->aj}{last:Bool}{x:GStep}(hx:Rk f last x)
  (p1:0<=(dw x.aG).2.1) (p2:0<=(dw x.aJ).2.1)
  (ha:∀s m,cI f.ag.length m s->cI f.ag.length (m+cl x.aG) (a s)) (hb:∀s m,cI f.ag.length m s->cI f.ag.length (m+cl x.aJ) (b s))
  (ca:∀s m,cI f.ag.length m s->CI s->m+cl x.aG<=1000000->CI (a s)) (cb:∀s m,cI f.ag.length m s->CI s->m+cl x.aJ<=1000000->CI (b s))
  {s:aj} {m:Nat} (k:cI f.ag.length m s) (h:CI s) (hm:m+(uO x).1.toNat<=1000000):CI (nv f hv a b x s):=by
 have hc:=jV hx
 have k1:=gL k hc
 have h1:=uu h x.aL
 revert hm
 unfold nv uO
 by_cases a4:x.bH=4
 ·simp only[a4,Int.reduceEq,if_true,if_false]
  intro hm
  have hn:=hx.n4 a4
  have e:(x.fN*(dw x.aG).2.1).toNat=x.fN.toNat*cl x.aG:=by rw[cl,Int.toNat_mul hn.1 p1]
  rw[e]at hm
  obtain⟨i1,i2⟩:=sR hc hx.term ha x.fN.toNat s m k
  exact Sf i2 (fun q hq=>⟨i1 q hq,Qk hc ha x.fN.toNat s m k h hm ca q hq⟩)
 by_cases a0:x.bH=0
 ·simp only[a0,Int.reduceEq,if_true,if_false]
  exact fun _=>Qy h1 _ _
 by_cases a1:x.bH=1
 ·simp only[a1,Int.reduceEq,if_true,if_false]
  exact fun hm=>ZX k1 h1 (by omega) _
 by_cases a5:x.bH=5
 ·simp only[a5,Int.reduceEq,if_true,if_false]
  exact fun _=>Qy h1 _ _
 by_cases a3:x.bH=3
 ·simp only[a3,Int.reduceEq,if_true,if_false]
  intro hm
  have hm1:m+cl x.aG<=1000000:=by unfold cl;omega
  have hm2:m+cl x.aJ<=1000000:=by unfold cl;omega
  unfold Xt
  split
  ·exact ca _ _ k1 h1 hm1
  split
  ·exact cb _ _ k1 h1 hm2
  ·exact JO ((ha _ _ k1).weak (show m+cl x.aG<=m+max (cl x.aG) (cl x.aJ)by omega)) ((hb _ _ k1).weak (show m+cl x.aJ<=m+max (cl x.aG) (cl x.aJ)by omega)) (ca _ _ k1 h1 hm1) (cb _ _ k1 h1 hm2)
 by_cases a6:x.bH=6
 ·simp only[a6,Int.reduceEq,if_true,if_false]
  exact fun _=>⟨h.lo,h.hi⟩
 ·simp only[a0,a1,a3,a4,a5,a6,if_false]
  exact fun _=>h1
theorem qc{f:Flat}{hv:List aD}(hh:hv.length=f.ai.length)(hvn:∀i,i<hv.length->NN hv[i]!):∀(n:Nat) (l:List GStep) (top:Bool),SizeOf.sizeOf l<n->bI f top l=0->∀(s:aj) (m:Nat),cI f.ag.length m s->CI s->m+cl l<=1000000->CI (fy f hv l s)
 |0,_,_,h,_,_,_,_,_,_=>by omega
 |n+1,[],_,_,_,s,m,_,h,_=>by rw[oS];exact h
 |n+1,x::l,top,hn,hc,s,m,k,h,hm=>by
  obtain⟨h1,h2,h3,h4⟩:=fe hc
  have ho:=kK h1
  have hsz:=aQ (zg (a:=x) (l:=l))
  have ht:=cP x l
  have p1:=(eF f n x.aG wD (by omega) h2).1
  have p2:=(eF f n x.aJ wD (by omega) h3).1
  rw[lF hc]at hm
  rw[lV]
  have aT:=eE hh hvn n x.aG wD (by omega) h2
  have aE:=eE hh hvn n x.aJ wD (by omega) h3
  have i1:=pN hh hvn ho p1 p2 aT aE k
  have i2:=Kv (hv:=hv) ho p1 p2 aT aE (qc hh hvn n x.aG wD (by omega) h2) (qc hh hvn n x.aJ wD (by omega) h3) k h (by omega)
  exact qc hh hvn n l top (by omega) h4 _ _ i1 i2 (by omega)
def pZ(a:aD):Prop:=a.aa=a.af
theorem ct.sg{P:Int->Prop}{c:aD}(h:ct P c)(k:∀x y,P x->P y->x=y):pZ c:=k _ _ h.lo h.hi
theorem iJ{a:aD}(s:pZ a){x:Int}(h:bz a x):x=a.aa:=by
 have h1:=h.1
 have h2:=h.2.1
 unfold pZ at s
 omega
theorem FM{a:aD}(h:NN a)(s:pZ a):cnt a=1:=by
 have:=(dJ h).mpr s
 have e:=eG h
 omega
theorem E9(op:Int){a b:aD}(ha:NN a)(hb:NN b)(sa:pZ a)(sb:pZ b):pZ (jb op a b):=by
 unfold jb
 by_cases ho:binop op
 ·rw[kA ho ha hb (by rw[FM ha sa,FM hb sb];decide)]
  rcases tg ho ha hb (by rw[FM ha sa,FM hb sb];decide)with ⟨_,c,e,h2⟩|⟨_,e⟩
  ·rw[e]
   refine h2.sg fun x y hx hy=> ?_
   obtain⟨p,q,hp,hq,rfl⟩:=hx
   obtain⟨p',q',hp',hq',rfl⟩:=hy
   rw[iJ sa hp,iJ sa hp',iJ sb hq,iJ sb hq']
  ·rw[e];exact(rfl:(0:Int)=0)
 ·have e:lB op a b=O (aD.mk 0 0 0,1):=by
   unfold lB
   rw[dU,dU,cU (.inr ha),cU (.inr hb),show Dk op=uK op from rfl,iy,decide_eq_false ho]
   rfl
  rw[e]
  exact(rfl:(0:Int)=0)
theorem sW{a:aD}(h:NN a)(s:pZ a):(bQ a 0=wE/\bM a=wD)\/(bQ a 0=wD/\bM a=wE):=by
 have hz:=zero_or h
 cases h0:bQ a 0 with
 |false=>rw[h0,Bool.or_false]at hz;exact .inr ⟨rfl,hz⟩
 |true=>
  refine .inl ⟨rfl,?_⟩
  have e0:=iJ s (fO.mp h0)
  cases ho:bM a with
  |false=>rfl
  |true=>
   obtain⟨x,hx,hne⟩:=(iS (.inr h)).mp ho
   exact absurd ((iJ s hx).trans e0.symm) hne
theorem DM(op:Int){a:aD}(h:NN a)(s:pZ a):pZ (lf op a).1:=by
 unfold lf
 split
 ·exact(rfl:(0:Int)=0)
 rw[if_neg h.ne]
 split
 ·rcases sW h s with ⟨e1,e2⟩|⟨e1,e2⟩<;>rw[e1,e2]
  ·exact(rfl:(1:Int)=1)
  ·exact(rfl:(0:Int)=0)
 ·unfold pZ at s
  show-a.af= -a.aa
  omega
theorem vP{a:aD}(h:NN a)(s:pZ a)(lo hi:Int):pZ (fo a lo hi):=by
 rcases Ba (.inr h) lo hi with ⟨c,_,e2,hr,v,_⟩|⟨_,e2,_⟩
 ·obtain⟨_,_,e3,k,_⟩:=fE h lo hi
  have e4:fo a lo hi=c:=by rw[e2]at e3;cases e3;rfl
  rw[e4]at k ⊢
  rcases hr with ⟨e,_⟩|hr
  ·exact absurd e k.ne
  ·refine hr.sg fun x y hx hy=> ?_
   obtain⟨p,hp,rfl⟩:=hx
   obtain⟨q,hq,rfl⟩:=hy
   rw[iJ s hp,iJ s hq]
 ·unfold fo
  rw[e2]
  exact(rfl:(0:Int)=0)
theorem Lc{a:aD}(h:NN a)(s:pZ a){l:List Int}(hr:eB l=wE)(hn:l.length<=1000000)(hl:∀b∈l,bO b):pZ (mT a l):=by
 obtain⟨_,_,k,hr⟩:=mV h hr hn hl
 rcases hr with ⟨e,_⟩|hr
 ·exact absurd e k.ne
 ·refine hr.sg fun x y hx hy=> ?_
  obtain⟨p,hp,rfl⟩:=hx
  obtain⟨q,hq,rfl⟩:=hy
  rw[iJ s hp,iJ s hq]
theorem OW{H:aD}(s:pZ H){ks:List aD}{j:Nat}(hj:bQ H (j:Nat)=wE):∀n,nM H ks n=if j<n then ks[j]! else bU
 |0=>by rw[nM,nH]
 |n+1=>by
  have e0:=iJ s (fO.mp hj)
  rw[nM,OW s hj n]
  by_cases c:bQ H (n:Nat)=wE
  ·have e1:=iJ s (fO.mp c)
   have:j=n:=by omega
   subst this
   rw[if_pos c,nH,gG,fK]
  ·rw[if_neg c]
   have:j≠n:=fun e=>c (e▸hj)
   by_cases h:j<n
   ·rw[if_pos h,fK]
   ·rw[if_neg h,nH]
structure SG (s:aj):Prop where
 vars:∀i,i<s.ag.length->pZ s.ag[i]!
 count:pZ s.au
 slots:∀i,i<s.ax.length->pZ s.ax[i]!
 time:pZ s.aA
theorem Oj{vars:List aN}{inp:Bool}{m:Nat}{st:aj}(hst:cI vars.length m st)(hs:SG st):∀(n:Nat) (t:aq),SizeOf.sizeOf t<n->cC vars inp t=wE->(fA vars t).isSome=wE->pZ (bS st.ag t)
 |0,_,h,_,_=>by omega
 |n+1,t,hsz,hf,hr=>by
  obtain⟨⟨g1,g2,g3⟩,h24⟩:=EN hf
  have K:∀i,i<t.ak.length->NN (bS st.ag t.ak[i]!)/\pZ (bS st.ag t.ak[i]!):=fun i hi=>by
   have hk:=aR hi
   have:=aq.dh hk
   exact⟨(BN hst n _ (by omega) (ke hf hk) (oq hr _ hk)).2,Oj hst hs n _ (by omega) (ke hf hk) (oq hr _ hk)⟩
  rw[FL]
  unfold JM
  simp only[zA]
  rcases Bh t.aW g1 with ⟨h,e⟩|⟨h,e⟩|⟨h,e⟩|⟨h,e⟩|⟨h,e⟩<;>rw[e]at g2 g3<;>dsimp only at g2 g3
  ·rcases h with h|h
   ·rw[if_pos h];exact(rfl:t.fN=t.fN)
   ·obtain⟨q1,q2⟩:=h24 h
    have hl:=hst.len
    rw[nH,if_pos h]
    exact hs.vars _ (by omega)
  ·obtain⟨k1,k2⟩:=K 0 (by omega)
   have m0:=mapA (vars:=st.ag) (show 0<t.ak.length by omega)
   rw[m0]
   rcases h with h|h
   ·simp only[h,Int.reduceEq,if_true,if_false]
    exact DM _ k1 k2
   ·simp only[h,Int.reduceEq,if_true,if_false]
    exact DM _ k1 k2
  ·obtain⟨k1,k2⟩:=K 0 (by omega)
   obtain⟨l1,l2⟩:=K 1 (by omega)
   rw[nH,nH,nH,nH,nH,nH,mapA (show 0<t.ak.length by omega),mapA (show 1<t.ak.length by omega)]
   exact E9 _ k1 l1 k2 l2
  ·obtain⟨k1,k2⟩:=K 0 (by omega)
   obtain⟨l1,l2⟩:=K 1 (by omega)
   obtain⟨p1,p2⟩:=K 2 (by omega)
   rw[mapA (show 0<t.ak.length by omega),mapA (show 1<t.ak.length by omega),mapA (show 2<t.ak.length by omega)]
   simp only[h,Int.reduceEq,if_true,if_false]
   rcases sW k1 k2 with ⟨e1,e2⟩|⟨e1,e2⟩
   ·simp only[e1,e2,wg,if_true,if_false];exact p2
   ·simp only[e1,if_true];exact l2
  ·obtain⟨k1,k2⟩:=K 0 (by omega)
   rw[mapA (show 0<t.ak.length by omega)]
   obtain⟨j,hj1,hj2⟩:=DY k1 (n:=t.ak.length-1) (by omega) (by omega)
   rw[show (((t.ak.length-1:Nat):Int)-1)=(t.ak.length:Int)-(2:Int)by omega]at hj2
   simp only[h,Int.reduceEq,if_true,if_false]
   rw[OW (vP k1 k2 _ _) hj2,if_pos (by simp;omega),getElem!_pos _ j (by simp;omega),xZ,yx]
   have:=(K (1+j) (by omega)).2
   rw[getElem!_pos t.ak (1+j) (by omega)]at this
   exact this
theorem BX{vars:List aN}{inp:Bool}{m:Nat}{st:aj}(hst:cI vars.length m st)(hs:SG st){t:aq}(hc:di vars inp t=0):pZ (bS st.ag t):=Oj hst hs _ t (zn _) (kJ hc).1 (kJ hc).2
theorem PE{n m:Nat}{s:aj}(k:cI n m s)(h:SG s){c:Int}(hc:bO c):SG (ek s c):=⟨h.vars,h.count,h.slots,E9 8 k.time (iw hc) h.time rfl⟩
theorem QS{f:Flat}{s:aj}(h:SG s)(v:Int){x:aD}(hn:NN x)(hx:pZ x):SG (Hj f s v x):=by
 refine⟨fun i hi=> ?_,h.count,h.slots,h.time⟩
 have hi:i<(s.ag.set v.toNat (fo x f.ag[v.toNat]!.aa f.ag[v.toNat]!.af)).length:=hi
 rw[yB]at hi
 show pZ (s.ag.set _ _)[i]!
 rw[getElem!_pos _ i (by rw[yB];omega),List.getElem_set]
 split
 ·exact vP hn hx _ _
 ·have:=h.vars i hi
  rw[getElem!_pos _ i hi]at this
  exact this
theorem aaj{n m:Nat}{s:aj}(k:cI n m s)(h:SG s)(ci:CI s)(hm:m<=1000000){x:aD}(hx:pZ x):SG (DH s x):=by
 have hlen:(DH s x).ax.length=s.ax.length+1:=by simp[DH,dF]
 refine⟨h.vars,E9 8 k.count (iw ⟨by decide,by decide⟩) h.count rfl,fun i hi=> ?_,h.time⟩
 rw[hlen]at hi
 have hlt:=dF s.ax.length (fun k=>if bQ s.au k=wE then bJ s.ax[k]! x else s.ax[k]!)
 show pZ (iD s.ax.length (fun k=>if bQ s.au k=wE then bJ s.ax[k]! x else s.ax[k]!)++[x])[i]!
 by_cases c:i<s.ax.length
 ·have hg:=jJ (g:=(fun k=>if bQ s.au k=wE then bJ s.ax[k]! x else s.ax[k]!)) c
  generalize iD s.ax.length (fun k=>if bQ s.au k=wE then bJ s.ax[k]! x else s.ax[k]!)=T at*
  rw[getElem!_pos _ i (by rw[zh];omega),List.getElem_append_left (by omega),<-getElem!_pos T i (by omega),hg]
  have hno:¬bQ s.au (i:Nat)=wE:=fun e=>by
   have e1:=iJ h.count (fO.mp e)
   have e2:=h.count
   have e3:=ci.hi
   unfold pZ at e2
   omega
  rw[if_neg hno]
  exact h.slots i c
 ·generalize iD s.ax.length (fun k=>if bQ s.au k=wE then bJ s.ax[k]! x else s.ax[k]!)=T at*
  rw[getElem!_pos _ i (by rw[zh,yj];omega),List.getElem_append_right (by omega)]
  simpa using hx
theorem Qm{vars:List aN}{a:aj->aj}{t:aq}{c:Int}{o:Nat}(hc:bO c)(ht:di vars wD t=0)(ha:∀s m,cI vars.length m s->cI vars.length (m+o) (a s))
  (hb:∀s m,cI vars.length m s->CI s->m+o<=1000000->CI (a s)) (hg:∀s m,cI vars.length m s->CI s->SG s->m+o<=1000000->SG (a s)):∀(N:Nat) (s:aj) (m:Nat),cI vars.length m s->CI s->SG s->m+N*o<=1000000->
  ∃q,gN a t c N s=[q]/\SG q
 |0,s,m,_,_,h,_=>⟨s,by rw[gN],h⟩
 |n+1,s,m,k,ci,h,hm=>by
  rw[zZ,y8]at hm
  have k1:=gL k hc
  have c1:=uu ci c
  have s1:=PE k h hc
  rw[gN]
  rcases sW (fu k t ht) (BX k h ht)with ⟨e1,e2⟩|⟨e1,e2⟩
  ·exact⟨_,by rw[e1,e2,if_pos rfl,if_neg (by decide),yd],s1⟩
  ·obtain⟨q,e,hq⟩:=Qm hc ht ha hb hg n (a (ek s c)) (m+o) (ha _ _ k1) (hb _ _ k1 c1 (by omega)) (hg _ _ k1 c1 s1 (by omega)) (by omega)
   exact⟨q,by rw[e1,e2,if_neg (by decide),if_pos rfl,z8,e],hq⟩
theorem W7{f:Flat}{hv:List aD}(hh:hv.length=f.ai.length)(hvn:∀i,i<hv.length->NN hv[i]!)(hvs:∀i,i<hv.length->pZ hv[i]!){a b:aj->aj}{last:Bool}{x:GStep}(hx:Rk f last x)
  (p1:0<=(dw x.aG).2.1) (p2:0<=(dw x.aJ).2.1)
  (ha:∀s m,cI f.ag.length m s->cI f.ag.length (m+cl x.aG) (a s)) (hb:∀s m,cI f.ag.length m s->cI f.ag.length (m+cl x.aJ) (b s))
  (ca:∀s m,cI f.ag.length m s->CI s->m+cl x.aG<=1000000->CI (a s))
  (ga:∀s m,cI f.ag.length m s->CI s->SG s->m+cl x.aG<=1000000->SG (a s)) (gb:∀s m,cI f.ag.length m s->CI s->SG s->m+cl x.aJ<=1000000->SG (b s))
  {s:aj} {m:Nat} (k:cI f.ag.length m s) (ci:CI s) (h:SG s) (hm:m+(uO x).1.toNat<=1000000):SG (nv f hv a b x s):=by
 have hc:=jV hx
 have k1:=gL k hc
 have c1:=uu ci x.aL
 have s1:=PE k h hc
 have vn:=fu k x.ay hx.term
 have vs:=BX k h hx.term
 revert hm
 unfold nv uO
 by_cases a4:x.bH=4
 ·simp only[a4,Int.reduceEq,if_true,if_false]
  intro hm
  have hn:=hx.n4 a4
  have e:(x.fN*(dw x.aG).2.1).toNat=x.fN.toNat*cl x.aG:=by rw[cl,Int.toNat_mul hn.1 p1]
  rw[e]at hm
  obtain⟨q,eq,hq⟩:=Qm hc hx.term ha ca ga x.fN.toNat s m k ci h hm
  rw[eq]
  exact hq
 by_cases a0:x.bH=0
 ·simp only[a0,Int.reduceEq,if_true,if_false]
  exact fun _=>QS s1 _ vn vs
 by_cases a1:x.bH=1
 ·simp only[a1,Int.reduceEq,if_true,if_false]
  exact fun hm=>aaj k1 s1 c1 (by omega) vs
 by_cases a5:x.bH=5
 ·simp only[a5,Int.reduceEq,if_true,if_false]
  obtain⟨n1,n2⟩:=hx.n5 a5
  exact fun _=>QS s1 _ (hvn _ (by omega)) (hvs _ (by omega))
 by_cases a3:x.bH=3
 ·simp only[a3,Int.reduceEq,if_true,if_false]
  intro hm
  have hm1:m+cl x.aG<=1000000:=by unfold cl;omega
  have hm2:m+cl x.aJ<=1000000:=by unfold cl;omega
  unfold Xt
  rcases sW vn vs with ⟨e1,e2⟩|⟨e1,e2⟩
  ·rw[e1,e2,if_neg (by decide),if_pos rfl];exact gb _ _ k1 c1 s1 hm2
  ·rw[e1,if_pos rfl];exact ga _ _ k1 c1 s1 hm1
 by_cases a6:x.bH=6
 ·simp only[a6,Int.reduceEq,if_true,if_false]
  obtain⟨_,q2,q3,q4,q5⟩:=hx.OI a6
  exact fun _=>⟨h.vars,h.count,h.slots,Lc (a:=jb 8 s.aA (cR x.aL)) k1.time s1.time q4 (by omega) (AR q2 q3 q4 q5)⟩
 ·simp only[a0,a1,a3,a4,a5,a6,if_false]
  exact fun _=>s1
theorem Am{f:Flat}{hv:List aD}(hh:hv.length=f.ai.length)(hvn:∀i,i<hv.length->NN hv[i]!)(hvs:∀i,i<hv.length->pZ hv[i]!):∀(n:Nat) (l:List GStep) (top:Bool),SizeOf.sizeOf l<n->bI f top l=0->∀(s:aj) (m:Nat),cI f.ag.length m s->CI s->SG s->m+cl l<=1000000->SG (fy f hv l s)
 |0,_,_,h,_,_,_,_,_,_,_=>by omega
 |n+1,[],_,_,_,s,m,_,_,h,_=>by rw[oS];exact h
 |n+1,x::l,top,hn,hc,s,m,k,ci,h,hm=>by
  obtain⟨h1,h2,h3,h4⟩:=fe hc
  have ho:=kK h1
  have hsz:=aQ (zg (a:=x) (l:=l))
  have ht:=cP x l
  have p1:=(eF f n x.aG wD (by omega) h2).1
  have p2:=(eF f n x.aJ wD (by omega) h3).1
  rw[lF hc]at hm
  rw[lV]
  have aT:=eE hh hvn n x.aG wD (by omega) h2
  have aE:=eE hh hvn n x.aJ wD (by omega) h3
  have cT:=qc hh hvn n x.aG wD (by omega) h2
  have cE:=qc hh hvn n x.aJ wD (by omega) h3
  have i1:=pN hh hvn ho p1 p2 aT aE k
  have i2:=Kv (hv:=hv) ho p1 p2 aT aE cT cE k ci (by omega)
  have i3:=W7 hh hvn hvs ho p1 p2 aT aE cT (Am hh hvn hvs n x.aG wD (by omega) h2) (Am hh hvn hvs n x.aJ wD (by omega) h3) k ci h (by omega)
  exact Am hh hvn hvs n l top (by omega) h4 _ _ i1 i2 i3 (by omega)
theorem V3(l:List Int)(hl:l.length<=1000):m98 l l=O wE:=by
 obtain⟨b,e1,hI⟩:=cz (rnd:=PT) l.length (fun i (_:Unit)=>⟨l,l,(i:Int)⟩) (fun i b=>True) (fun i b hi hb=>by
  have hw:=fq hi (by omega)
  have i1:(i:Int)<(l.length:Int):=by omega
  have i2:(0:Int)<=(i:Int):=by omega
  refine⟨(),?_,trivial⟩
  unfold PT
  simp only[za,i1,i2,decide_true,cond_true,cond_false,and_self,if_true,hw]) (fun b _=>by unfold PT;simp) (b:=()) trivial
 have e1':Og ⟨l,l,0⟩=O ⟨l,l,(l.length:Int)⟩:=e1
 unfold m98
 simp only[decide_true,cond_true,cond_false,e1',xV,decide_false]
theorem CG(o:bg)(h:o.bG.length<=1000):m31 o o=O wE:=by
 unfold m31
 simp only[decide_true,cond_true,V3 _ h]
theorem Uj{r:Abstract}(h:L2 r){V:Int}(hV:1<=V)(k:Nat):(iF r V k).1<=(iF r V (k+1)).1/\(iF r V k).2<=(iF r V (k+1)).2:=by
 obtain⟨b1,b2,b3,b4⟩:=vI h hV k
 simp only[iF]
 refine⟨?_,?_⟩
 ·split<;>omega
 ·split
  ·rename_i c
   have hs:=size_pos (h.slots k c)
   have:=xS hs (show 0<=(iF r V k).2 by omega)
   omega
  ·omega
theorem Nh{r:Abstract}(h:L2 r){V:Int}(hV:1<=V){k:Nat}:∀{j:Nat},k<=j->(iF r V k).1<=(iF r V j).1/\(iF r V k).2<=(iF r V j).2
 |0,hj=>by
  have:k=0:=by omega
  subst this;exact⟨zk _,zk _⟩
 |j+1,hj=>by
  by_cases e:k=j+1
  ·subst e;exact⟨zk _,zk _⟩
  ·obtain⟨h1,h2⟩:=Nh h hV (k:=k) (j:=j) (by omega)
   obtain⟨h3,h4⟩:=Uj h hV j
   omega
theorem Gv{r:Abstract}:Xy r=wE↔bC r.au=1/\bC r.aA=1/\∀i,i<r.ax.length->bC r.ax[i]! =1:=by
 unfold Xy fY
 simp only[ze,decide_eq_true_eq,zm]
 constructor
 ·rintro⟨⟨h1,h2⟩,h3⟩
  exact⟨h1,h2,fun i hi=>h3 _ (aR hi)⟩
 ·rintro⟨h1,h2,h3⟩
  refine⟨⟨h1,h2⟩,fun x hx=> ?_⟩
  obtain⟨i,hi,e⟩:=wB.1 hx
  have:=h3 i hi
  rw[getElem!_pos r.ax i hi,e]at this
  exact this
theorem aez{r:Abstract}(h:L2 r)(c0:0<=r.au.aa)(c1:r.au.af=r.ax.length){V:Int}(hV:1<=V)(h1:V=1->Xy r=wE):Jy r V=1↔Xy r=wE:=by
 have hmem:bQ r.au (r.ax.length:Nat)=wE:=jt ⟨by rw[<-c1];exact h.count.le,by omega,by rw[<-c1];exact h.count.dvd⟩
 have eS:Jy r V=min ((iF r V r.ax.length).1+(iF r V r.ax.length).2) V:=by
  unfold Jy
  simp only[iF,hmem,if_true]
 constructor
 ·intro e
  by_cases hV1:V=1
  ·exact h1 hV1
  obtain⟨b1,b2,b3,b4⟩:=vI h hV r.ax.length
  have s0:(iF r V r.ax.length).1=0:=by omega
  have p1:(iF r V r.ax.length).2=1:=by omega
  have P:∀k,k<=r.ax.length->(iF r V k).2=1:=fun k hk=>by
   have:=(Nh h hV hk).2
   have:=(vI h hV k).2.2.1
   omega
  have S:∀k,k<=r.ax.length->(iF r V k).1=0:=fun k hk=>by
   have:=(Nh h hV hk).1
   have:=(vI h hV k).1
   omega
  refine Gv.mpr ⟨?_,?_,fun k hk=> ?_⟩
  ·refine(dJ h.count).mpr ?_
   have hle:=h.count.le
   by_cases c:r.au.aa=r.au.af
   ·exact c
   ·exfalso
    have hk:r.au.aa.toNat<r.ax.length:=by omega
    have hn:bQ r.au (r.au.aa.toNat:Nat)=wE:=by
     rw[show ((r.au.aa.toNat:Nat):Int)=r.au.aa by omega]
     exact jt ⟨zk _,hle,by rw[Int.sub_self];exact yV _⟩
    have q1:=S (r.au.aa.toNat+1) (by omega)
    have q2:=S r.au.aa.toNat (by omega)
    have q3:=P r.au.aa.toNat (by omega)
    simp only[iF,hn,if_true]at q1
    omega
  ·have:=P 0 (by omega)
   have hs:=size_pos h.time
   simp only[iF]at this
   omega
  ·have q1:=P (k+1) (by omega)
   have q2:=P k (by omega)
   have hs:=size_pos (h.slots k hk)
   simp only[iF,hk,if_true]at q1
   rw[q2,zN]at q1
   omega
 ·intro hs
  obtain⟨s1,s2,s3⟩:=Gv.mp hs
  have hc:=(dJ h.count).mp s1
  have key:∀k,k<=r.ax.length->(iF r V k).1=0/\(iF r V k).2=1:=fun k=>by
   induction k with
   |zero=>
    intro _
    refine⟨rfl,?_⟩
    simp only[iF,s2]
    omega
   |succ k ih=>
    intro hk
    obtain⟨i1,i2⟩:=ih (by omega)
    have hno:¬bQ r.au (k:Nat)=wE:=fun e=>by
     have:=(fO.mp e).1
     omega
    have hkl:k<r.ax.length:=by omega
    refine⟨?_,?_⟩
    ·simp only[iF,hno,i1]
     rfl
    ·simp only[iF,hkl,if_true,i2,s3 k hkl]
     omega
  obtain⟨k1,k2⟩:=key _ (zx _)
  rw[eS,k1,k2]
  omega
theorem KD(f:Flat)(v:View)(box:List aD):CI (dz f v box):=⟨zk _,rfl⟩
theorem ait{f:Flat}{v:View}{box:List aD}(h:Fits f v box):CI (BJ f v box):=by
 have hf:=BP h.c
 have h0:=lY h
 have ho:cl f.bk<=8:=by have:=hf.o;unfold cl;omega
 exact qc (by simp[lI]) (tS hf h0) _ f.bk wE (zn _) hf.steps _ _ h0 (KD f v box) (by omega)
theorem W3{f:Flat}{v:View}{box:List aD}(h:Fits f v box):cI f.ag.length 8 (BJ f v box):=by
 have hf:=BP h.c
 have h0:=lY h
 have ho:cl f.bk<=8:=by have:=hf.o;unfold cl;omega
 exact(eE (hv:=lI f (dz f v box)) (by simp[lI]) (tS hf h0) _ f.bk wE (zn _) hf.steps _ _ h0).weak (by omega)
theorem P8{f:Flat}{v:View}{box:List aD}(h:Fits f v box):L2 (fH f v box):=by
 have k:=W3 h
 refine⟨k.count,?_,k.sl,k.slots⟩
 show NN (if v.nj=wE then(BJ f v box).aA else cR 0)
 split
 ·exact k.time
 ·exact iw ⟨by decide,by decide⟩
theorem Us{f:Flat}{v:View}{box:List aD}(h:Fits f v box)(hb:∀x∈box,pZ x):SG (dz f v box):=by
 have hbl:=h.bl
 rw[AM]at hbl
 refine⟨fun i hi=> ?_,rfl,fun i hi=>absurd hi (by simp[dz]),rfl⟩
 have hi:i<(iD f.ag.length (cZ f v box)).length:=hi
 rw[dF]at hi
 show pZ (iD _ _)[i]!
 rw[jJ hi]
 unfold cZ
 by_cases k1:f.ag[i]!.aY=1
 ·rw[if_pos k1]
  have:=ud hi k1
  exact hb _ (aR (by omega))
 rw[if_neg k1]
 by_cases k2:f.ag[i]!.aY=2
 ·rw[if_pos k2];exact(rfl:v.aS[bX f.ag 2 i]! =v.aS[bX f.ag 2 i]!)
 rw[if_neg k2]
 by_cases k3:f.ag[i]!.aY=3
 ·rw[if_pos k3]
  have:=ud hi k3
  exact hb _ (aR (by omega))
 rw[if_neg k3]
 exact(rfl:f.ag[i]!.dc=f.ag[i]!.dc)
theorem aj2{f:Flat}{v:View}{box:List aD}(h:Fits f v box)(hb:∀x∈box,pZ x):SG (BJ f v box):=by
 have hf:=BP h.c
 have h0:=lY h
 have hs:=Us h hb
 have ho:cl f.bk<=8:=by have:=hf.o;unfold cl;omega
 refine Am (by simp[lI]) (tS hf h0) (fun i hi=> ?_) _ f.bk wE (zn _) hf.steps _ _ h0 (KD f v box) hs (by omega)
 have hi:i<f.ai.length:=by simpa [lI]using hi
 unfold lI
 rw[getElem!_pos _ i (by simpa using hi),yx,<-getElem!_pos f.ai i hi]
 exact vP (fu h0 _ (hf.hat i hi).2) (BX h0 hs (hf.hat i hi).2) _ _
theorem acn{f:Flat}{v:View}{box:List aD}(h:Fits f v box)(hv:dB box=1):Xy (fH f v box)=wE:=by
 have k:=W3 h
 have s:=aj2 h (fun x hx=>(dJ (h.nn x hx)).mp (Ji h.nn hv x hx))
 have r:=P8 h
 have hl:=k.sl
 refine Gv.mpr ⟨(dJ r.count).mpr s.count,(dJ r.time).mpr ?_,fun i hi=>(dJ (r.slots i hi)).mpr (s.slots i hi)⟩
 show pZ (if v.nj=wE then(BJ f v box).aA else cR 0)
 split
 ·exact s.time
 ·exact(rfl:(0:Int)=0)
theorem aud(f:Flat)(v:View)(box:List aD):m6 f v box=O wE:=by
 obtain⟨r,e,hr⟩:=ars f v box
 unfold m6
 rw[e]
 cases r with
 |false=>rfl
 |true=>
  obtain⟨hf,hbx,_⟩:=hr rfl
  obtain⟨q1,q2,q3⟩:=QG hf
  have Xf:=ap9 (f:=f) (v:=v) (box:=box) (by omega) (by omega) (by omega)
  have e21:=apA (f:=f) (by omega) (by omega) (by omega) v box
  by_cases hc:Ak f v box=0
  ·rw[if_pos hc]at Xf
   rw[hc]at e21
   have hfit:=Rb hc
   have hR:=P8 hfit
   have hC:=ait hfit
   obtain⟨hv1,hv2⟩:=hfit.vol
   have e23:=aow (f:=f) (v:=v) (box:=box) (by omega) (by omega) (by omega) hfit
   have e26:=apQ Xf hR
   have e25:=aom Xf hR hfit.nn (by omega) hv2
   have e37:=ap5 e23 hR
   have e38:=aog e23 hR hfit.nn (by omega) hv2
   have hone:=aez hR hC.lo hC.hi hv1 (acn hfit)
   rw[e26,e25,e21,e37,e38]
   have hl:=hR.sl
   have o1:=CG (SW (fH f v box)) (by simp[SW];omega)
   have o2:=CG ⟨[],0⟩ (by decide)
   cases hs:Xy (fH f v box)with
   |true=>
    have hb:Jy (fH f v box) (dB box)=1:=hone.mpr hs
    simp only[m18,if_true,decide_true,cond_true,cond_false,o1,beq_self_eq_true,hb]
   |false=>
    have hb:¬Jy (fH f v box) (dB box)=1:=fun e=>by rw[hone.mp e]at hs;cases hs
    simp only[m18,yD,if_false,decide_true,decide_false,cond_true,cond_false,o2,beq_self_eq_true,hb]
  ·rw[if_neg hc]at Xf
   have e26:m26 f v box=O (⟨[],0⟩,wD,Ak f v box):=by
    unfold m26
    rw[Xf]
    simp only[hc,decide_false,cond_true,cond_false]
   have e25:m25 f v box=O (0,Ak f v box):=by
    unfold m25
    rw[Xf]
    simp only[hc,decide_false,cond_true,cond_false]
   have o2:=CG ⟨[],0⟩ (by decide)
   rw[e26,e25,e21]
   simp only[m18,hc,decide_true,decide_false,cond_true,cond_false,o2]
end Go.Proofs.YtnfljbehcffmcaaGreat
end
noncomputable section
namespace Go.Iv
variable [U:qT]
open Go Go.RowKit Go.Deep Go.ChangeShapes Go.WideShapes Go.Joins
theorem ahf{P:Program}{f:FuncId}{args:List AV}(h:Iv.Fn P f args [] (fun a s=>a= .b wE/\s=[])){A:Nat->Prop}{w:World}{vs:List Value}(hr:bq A w args vs):
  Calls P f vs.toArray w fun e w'=>∃v,e= .returned v/\v= .bool wE/\Below w.heap.size w w':=
 (h w A vs hr ⟨fun r hr=>by simp at hr,fun b hb=>by simp[bh]at hb⟩ (by simp[bh])).mono fun e w' ⟨v,av,σ',h1,⟨h2,h3⟩,h4,h5⟩=>by
  subst h2
  exact⟨v,h1,h5.cg,h4.kp.below⟩
abbrev qD:Nat->Prop:=fun _=>True
def jg{α:Type}{H:Type}(enc:TypeId×Value->H)(P:Program)(w:World)(t:TypeId)(c:α->List AV)(ok:α->Prop):Prop:=
 ∀(base:Nat) (fuel:Nat) (cs:List Value) (x:DataW H×List MemPlace),DataW.trod enc P w base (fun _=>wE) wE fuel t cs=O x->∃a,ok a/\bq qD w (c a) cs
section
variable {α:Type} {H:Type} {enc:TypeId×Value->H} {P:Program} {w:World} {t e:TypeId}
theorem jg.int{k:IntKind}(ht:P.underlying t=O (.int k)):jg enc P w t (cN k) (fun n=>(Lit.int k n).wf=wE):=fun base fuel cs x h=>by
 obtain⟨n,rfl,_,hw⟩:=DataW.trod_int ht h
 exact⟨n,hw,bq.cons (.lit _) bq.nil⟩
theorem jg.bool(ht:P.underlying t=O .bool):jg enc P w t cB (fun _=>True):=fun base fuel cs x h=>by
 obtain⟨b,rfl,_⟩:=DataW.trod_bool ht h
 exact⟨b,trivial,bq.cons (.lit _) bq.nil⟩
theorem jg.slice{ok:U.cH e->Prop}{sz:Nat}(ht:P.underlying t=O (.slice e))(hc:P.cellsOf e=sz+1)(hs:U.sz e=sz+1)(he:jg enc P w e (U.cells e) ok):
  jg enc P w t (fun l:List (U.cH e)=>[.sl e l]) (fun l=>l.length<=9223372036854775807/\∀a∈l,ok a):=fun base fuel cs x h=>by
 rcases open_slice ht h with ⟨rfl,_⟩|⟨a,len,cp,m,n,D,Pl,hcs,hb,hl,hm,hmm,_,hx⟩
 ·refine⟨[],⟨by simp,by simp⟩,bq.cons ?_ bq.nil⟩
  exact .sl e ([]:List (U.cH e)) wC 0 (fun _ _=>default) (by simp) (by simp) (fun i hi=>by simp at hi) (fun i hi=>by simp at hi) (fun i j a hi=>by simp at hi)
 ·subst hcs
  have hmm:m=cp:=by rw[hmm];rfl
  rw[hc]at hx
  have hmx:cp<=9223372036854775807:=by unfold maxLen at hm;omega
  obtain⟨CS,hCS⟩:=choose_lt (α:=List Value×U.cH e) (p:=fun i y=>w.cells? base (a.add (i*(sz+1))) (sz+1)=O y.1/\ok y.2/\bq qD w (U.cells e y.2) y.1) (n:=len) (fun i hi=>by
   obtain⟨cs',h1,h2⟩:=hx i (by omega)
   obtain⟨y,h3,h4⟩:=he _ _ _ _ h2
   exact⟨(cs',y),h1,h3,h4⟩)
  obtain⟨l,hld⟩:∃l:List (U.cH e),l=(zJ len).map fun i=>(CS i).2:=⟨_,rfl⟩
  have hln:l.length=len:=by rw[hld];simp
  have hget:∀i,i<len->l[i]! =(CS i).2:=fun i hi=>by
   rw[getElem!_pos l i (by omega)];simp[hld]
  refine⟨l,⟨by omega,fun y hy=> ?_⟩,bq.cons ?_ bq.nil⟩
  ·rw[hld,zH]at hy
   obtain⟨i,hi,rfl⟩:=hy
   exact(hCS i (by simpa using hi)).2.1
  ·rw[<-hln]
   refine .sl e l (O a) cp (fun i j=>(CS i).1[j]!) (by omega) (by omega) (fun i hi=> ?_) (fun i hi=> ?_) (fun i j av hi hj=> ?_)
   ·rw[hln]at hi
    obtain⟨h1,_,h3⟩:=hCS i hi
    obtain⟨_,h5,_⟩:=World.cells?_some h1
    rw[hget i hi,<-h3.1,h5,hs]
   ·rw[hln]at hi
    obtain⟨h1,_,h3⟩:=hCS i hi
    obtain⟨_,h5,h6⟩:=World.cells?_some h1
    have hj:∀j,j<sz+1->w.cell? ((a.add (i*(sz+1))).add j)=O (CS i).1[j]! :=fun j hj=>by
     rw[h6 j hj,getElem!_pos _ j (by omega),zl (by omega)]
    obtain⟨b,off,spot⟩:=a
    have hs:spot=wC:=by
     obtain⟨g1,_,_⟩:=hCS 0 (by omega)
     obtain⟨_,g5,g6⟩:=World.cells?_some g1
     have:=World.cell?_spot (v:=(CS 0).1[0]!) (w:=w) (a:=((⟨b,off,spot⟩:Addr).add (0*(sz+1))).add 0) (by rw[g6 0 (by omega),getElem!_pos _ 0 (by omega),zl (by omega)])
     simpa [Addr.add]using this
    subst hs
    have hj':∀j,j<sz+1->w.cell? ⟨b,off+i*(sz+1)+j,wC⟩=O (CS i).1[j]! :=fun j hlt=>by
     have:=hj j hlt
     have ap:∀o i:Nat,(⟨b,o,wC⟩:Addr).add i=⟨b,o+i,wC⟩:=fun o i=>by
      unfold Addr.add
      split
      ·rename_i h0;simp only[h0,yb]
      ·rfl
     rw[ap,ap]at this
     exact this
    exact⟨b,off,rfl,World.block_lt_of_cell? w _ (hj' 0 (by omega)),trivial,by rw[hs];exact hj'⟩
   ·rw[hln]at hi
    rw[hget i hi]at hj
    obtain⟨h1,_,h3⟩:=hCS i hi
    obtain⟨v,q1,q2⟩:=h3.get hj
    show Rel qD w av (CS i).1[j]!
    obtain⟨q3,q4⟩:=zS.1 q1
    rw[getElem!_pos _ j q3,q4]
    exact q2
theorem jg.one{c:α->AV}{ok:α->Prop}{v:Value}{d:DataW H}{p:List MemPlace}(he:jg enc P w t (fun a=>[c a]) ok)(hv:v.cells=#[v])(h:DataW.Trod enc P w 0 (fun _=>wE) wE t v d p):∃a,ok a/\Rel qD w (c a) v:=by
 obtain⟨fuel,hf⟩:=h
 rw[hv]at hf
 obtain⟨a,h1,h2⟩:=he _ _ _ _ hf
 exact⟨a,h1,h2.2 0 _ _ rfl rfl⟩
theorem jg.agg{c:α->List AV}{ok:α->Prop}{v:Value}{cs:Array Value}{d:DataW H}{p:List MemPlace}(he:jg enc P w t c ok)(hv:v= .agg cs)(h:DataW.Trod enc P w 0 (fun _=>wE) wE t v d p):∃a,ok a/\Rel qD w (.agg (c a)) v:=by
 obtain⟨fuel,hf⟩:=h
 subst hv
 obtain⟨l⟩:=cs
 obtain⟨a,h1,h2⟩:=he _ _ _ _ hf
 exact⟨a,h1,Rel.nO h2⟩
end
theorem PA.law[L:mQ]{P:Program}{f:FuncId}{args:List AV}{x:Out}(h:PA P f args [] 0 x)(hx:x=⟨.b wE,[],0⟩)(ha:args.all (DA 2)=wE):Iv.Fn P f args [] (fun a s=>a= .b wE/\s=[]):=by
 subst hx
 have h1:=h ⟨fun _=>undef,fun _=>0⟩
 have:args.map (bP.sub ⟨fun _=>undef,fun _=>0⟩)=args.map id:=zQ fun c hcm=>jc 2 (zm.1 ha c hcm)
 rw[this,List.map_id]at h1
 exact h1.mono fun a s ⟨ρ',_,e1,e2⟩=>⟨by rw[e1];exact jc 2 rfl,List.Perm.eq_nil e2⟩
theorem b9{A:Nat->Prop}{w:World}{xs bs:List AV}{us:List Value}{n:Nat}(h:bq A w xs (us.take n))(h':bq A w bs (us.drop n)):bq A w (xs++bs) us:=by
 have:=h.app h'
 rwa [xg]at this
def E4(B:Nat){α:Type}{H:Type}(enc:TypeId×Value->H)(P:Program)(w:World)(t:TypeId)(c:α->List AV)(ok:α->Prop):Prop:=
 ∀(base:Nat) (fuel:Nat),fuel<B->∀(cs:List Value) (x:DataW H×List MemPlace),DataW.trod enc P w base (fun _=>wE) wE fuel t cs=O x->∃a,ok a/\bq qD w (c a) cs
section
variable {α:Type} {H:Type} {enc:TypeId×Value->H} {P:Program} {w:World} {t e:TypeId}
theorem jg.ofB{c:α->List AV}{ok:α->Prop}(h:∀B,E4 B enc P w t c ok):jg enc P w t c ok:=fun base fuel cs x hx=>h (fuel+1) base fuel (zn _) cs x hx
theorem jg.str(ht:P.underlying t=O .string):jg enc P w t (fun s=>[.s s]) (fun _=>True):=fun base fuel cs x h=>by
 obtain⟨b,rfl,_⟩:=DataW.trod_string ht h
 exact⟨b,trivial,bq.cons (.lit _) bq.nil⟩
theorem jg.any{c:α->List AV}{ok:α->Prop}(h:jg enc P w t c ok):jg enc P w t c (fun _=>True):=fun base fuel cs x hx=>by
 obtain⟨a,_,r⟩:=h base fuel cs x hx
 exact⟨a,trivial,r⟩
theorem E4.slice{B:Nat}{ok:U.cH e->Prop}{sz:Nat}(ht:P.underlying t=O (.slice e))(hc:P.cellsOf e=sz+1)(hs:U.sz e=sz+1)(he:E4 B enc P w e (U.cells e) ok):
  E4 B enc P w t (fun l:List (U.cH e)=>[.sl e l]) (fun l=>l.length<=9223372036854775807/\∀a∈l,ok a):=fun base fuel hB cs x h=>by
 rcases DataW.trod_slice ht h with ⟨rfl,_⟩|⟨a,len,cp,elems,rest,n,hfu,hcs,_,hb,hl,hm,hlen,hx,_,_⟩
 ·refine⟨[],⟨by simp,by simp⟩,bq.cons ?_ bq.nil⟩
  exact .sl e ([]:List (U.cH e)) wC 0 (fun _ _=>default) (by simp) (by simp) (fun i hi=>by simp at hi) (fun i hi=>by simp at hi) (fun i j a hi=>by simp at hi)
 ·subst hcs
  rw[hc]at hx
  have hmx:cp<=9223372036854775807:=by unfold maxLen at hm;omega
  obtain⟨CS,hCS⟩:=choose_lt (α:=List Value×U.cH e) (p:=fun i y=>w.cells? base (a.add (i*(sz+1))) (sz+1)=O y.1/\ok y.2/\bq qD w (U.cells e y.2) y.1) (n:=len) (fun i hi=>by
   have hk:=hx i hi
   rw[zl (show i<elems.length by omega)]at hk
   obtain⟨cs',h1,h2⟩:=zi.1 hk
   obtain⟨y,h3,h4⟩:=he _ n (by omega) _ _ h2
   exact⟨(cs',y),h1,h3,h4⟩)
  obtain⟨l,hld⟩:∃l:List (U.cH e),l=(zJ len).map fun i=>(CS i).2:=⟨_,rfl⟩
  have hln:l.length=len:=by rw[hld];simp
  have hget:∀i,i<len->l[i]! =(CS i).2:=fun i hi=>by
   rw[getElem!_pos l i (by omega)];simp[hld]
  refine⟨l,⟨by omega,fun y hy=> ?_⟩,bq.cons ?_ bq.nil⟩
  ·rw[hld,zH]at hy
   obtain⟨i,hi,rfl⟩:=hy
   exact(hCS i (by simpa using hi)).2.1
  ·rw[<-hln]
   refine .sl e l (O a) cp (fun i j=>(CS i).1[j]!) (by omega) (by omega) (fun i hi=> ?_) (fun i hi=> ?_) (fun i j av hi hj=> ?_)
   ·rw[hln]at hi
    obtain⟨h1,_,h3⟩:=hCS i hi
    obtain⟨_,h5,_⟩:=World.cells?_some h1
    rw[hget i hi,<-h3.1,h5,hs]
   ·rw[hln]at hi
    obtain⟨h1,_,h3⟩:=hCS i hi
    obtain⟨_,h5,h6⟩:=World.cells?_some h1
    have hj:∀j,j<sz+1->w.cell? ((a.add (i*(sz+1))).add j)=O (CS i).1[j]! :=fun j hj=>by
     rw[h6 j hj,getElem!_pos _ j (by omega),zl (by omega)]
    obtain⟨b,off,spot⟩:=a
    have hs:spot=wC:=by
     obtain⟨g1,_,_⟩:=hCS 0 (by omega)
     obtain⟨_,g5,g6⟩:=World.cells?_some g1
     have:=World.cell?_spot (v:=(CS 0).1[0]!) (w:=w) (a:=((⟨b,off,spot⟩:Addr).add (0*(sz+1))).add 0) (by rw[g6 0 (by omega),getElem!_pos _ 0 (by omega),zl (by omega)])
     simpa [Addr.add]using this
    subst hs
    have hj':∀j,j<sz+1->w.cell? ⟨b,off+i*(sz+1)+j,wC⟩=O (CS i).1[j]! :=fun j hlt=>by
     have:=hj j hlt
     have ap:∀o i:Nat,(⟨b,o,wC⟩:Addr).add i=⟨b,o+i,wC⟩:=fun o i=>by
      unfold Addr.add
      split
      ·rename_i h0;simp only[h0,yb]
      ·rfl
     rw[ap,ap]at this
     exact this
    exact⟨b,off,rfl,World.block_lt_of_cell? w _ (hj' 0 (by omega)),trivial,by rw[hs];exact hj'⟩
   ·rw[hln]at hi
    rw[hget i hi]at hj
    obtain⟨h1,_,h3⟩:=hCS i hi
    obtain⟨v,q1,q2⟩:=h3.get hj
    show Rel qD w av (CS i).1[j]!
    obtain⟨q3,q4⟩:=zS.1 q1
    rw[getElem!_pos _ j q3,q4]
    exact q2
end
end Go.Iv
end
noncomputable section
set_option maxRecDepth 100000
namespace Go.Proofs.YtnfljbehcffmcaaGreat
open Go Go.Iv Go.RowKit Go.Deep Go.ChangeShapes Go.WideShapes Go.Joins
section
variable {H:Type} {enc:TypeId×Value->H} {w:World}
theorem og9:jg enc wG w 9 (fun s=>[.s s]) (fun _=>True):=jg.str underlying9
theorem amq:jg enc wG w 129 (cN .i64) (fun _=>True):=(jg.int underlying129).any
theorem RZ:jg enc wG w 3 (cN .i64) (fun _=>True):=(jg.int underlying3).any
theorem alK:jg enc wG w 131 (uni.cells 131) (fun _=>True):=fun base fuel cs x h=>by
 obtain⟨xs,n,hfu,rfl,hl,hlen,hf⟩:=DataW.trod_struct underlying131 h
 rw[show wG.cellsOf 131=5 from by kernel_rfl]at hl
 have hlen:xs.length=5:=hlen
 have f0:DataW.trod enc wG w base (fun _=>wE) wE n 9 ((cs.drop 0).take (wG.cellsOf 9))=xs[0]? :=hf 0 _ rfl
 rw[show wG.cellsOf 9=1 from by kernel_rfl,zl (show 0<xs.length by omega)]at f0
 obtain⟨a0,_,r0⟩:=og9 _ _ _ _ f0
 have f1:DataW.trod enc wG w base (fun _=>wE) wE n 129 ((cs.drop 1).take (wG.cellsOf 129))=xs[1]? :=hf 1 _ rfl
 rw[show wG.cellsOf 129=1 from by kernel_rfl,zl (show 1<xs.length by omega)]at f1
 obtain⟨a1,_,r1⟩:=amq _ _ _ _ f1
 have f2:DataW.trod enc wG w base (fun _=>wE) wE n 3 ((cs.drop 2).take (wG.cellsOf 3))=xs[2]? :=hf 2 _ rfl
 rw[show wG.cellsOf 3=1 from by kernel_rfl,zl (show 2<xs.length by omega)]at f2
 obtain⟨a2,_,r2⟩:=RZ _ _ _ _ f2
 have f3:DataW.trod enc wG w base (fun _=>wE) wE n 3 ((cs.drop 3).take (wG.cellsOf 3))=xs[3]? :=hf 3 _ rfl
 rw[show wG.cellsOf 3=1 from by kernel_rfl,zl (show 3<xs.length by omega)]at f3
 obtain⟨a3,_,r3⟩:=RZ _ _ _ _ f3
 have f4:DataW.trod enc wG w base (fun _=>wE) wE n 3 ((cs.drop 4).take (wG.cellsOf 3))=xs[4]? :=hf 4 _ rfl
 rw[show wG.cellsOf 3=1 from by kernel_rfl,zl (show 4<xs.length by omega)]at f4
 obtain⟨a4,_,r4⟩:=RZ _ _ _ _ f4
 have e:bq qD w [] (cs.drop 5):=by rw[xk (by omega)];exact bq.nil
 have s4:=b9 (us:=cs.drop 4) r4 (by rw[zK];exact e)
 have s3:=b9 (us:=cs.drop 3) r3 (by rw[zK];exact s4)
 have s2:=b9 (us:=cs.drop 2) r2 (by rw[zK];exact s3)
 have s1:=b9 (us:=cs.drop 1) r1 (by rw[zK];exact s2)
 have s0:=b9 (us:=cs.drop 0) r0 (by rw[zK];exact s1)
 exact⟨(⟨a0,a1,a2,a3,a4⟩:aN),trivial,s0⟩
theorem aut:jg enc wG w 22 (fun l:List (uni.cH 131)=>[.sl 131 l]) (fun l=>l.length<=9223372036854775807/\∀a∈l,True):=jg.slice (e:=131) (sz:=4) underlying22 (by kernel_rfl) rfl alK
theorem aq4:jg enc wG w 134 (cN .i64) (fun _=>True):=(jg.int underlying134).any
theorem TK:∀B,E4 B enc wG w 137 (uni.cells 137) (fun _=>True)
 |0=>fun base fuel hB=>absurd hB (yw _)
 |B+1=>fun base fuel hB cs x h=>by
  have ih:=TK B
  obtain⟨xs,n,hfu,rfl,hl,hlen,hf⟩:=DataW.trod_struct underlying137 h
  rw[show wG.cellsOf 137=3 from by kernel_rfl]at hl
  have hlen:xs.length=3:=hlen
  have f0:DataW.trod enc wG w base (fun _=>wE) wE n 134 ((cs.drop 0).take (wG.cellsOf 134))=xs[0]? :=hf 0 _ rfl
  rw[show wG.cellsOf 134=1 from by kernel_rfl,zl (show 0<xs.length by omega)]at f0
  obtain⟨a0,_,r0⟩:=aq4 _ _ _ _ f0
  have f1:DataW.trod enc wG w base (fun _=>wE) wE n 3 ((cs.drop 1).take (wG.cellsOf 3))=xs[1]? :=hf 1 _ rfl
  rw[show wG.cellsOf 3=1 from by kernel_rfl,zl (show 1<xs.length by omega)]at f1
  obtain⟨a1,_,r1⟩:=RZ _ _ _ _ f1
  have f2:DataW.trod enc wG w base (fun _=>wE) wE n 135 ((cs.drop 2).take (wG.cellsOf 135))=xs[2]? :=hf 2 _ rfl
  rw[show wG.cellsOf 135=1 from by kernel_rfl,zl (show 2<xs.length by omega)]at f2
  obtain⟨a2,_,r2⟩:=E4.slice (t:=135) (e:=137) (sz:=2) underlying135 (by kernel_rfl) rfl ih base n (by omega) _ _ f2
  have e:bq qD w [] (cs.drop 3):=by rw[xk (by omega)];exact bq.nil
  have s2:=b9 (us:=cs.drop 2) r2 (by rw[zK];exact e)
  have s1:=b9 (us:=cs.drop 1) r1 (by rw[zK];exact s2)
  have s0:=b9 (us:=cs.drop 0) r0 (by rw[zK];exact s1)
  exact⟨(⟨a0,a1,a2⟩:aq),trivial,s0⟩
theorem agI:jg enc wG w 137 (uni.cells 137) (fun _=>True):=jg.ofB TK
theorem aq8:jg enc wG w 139 (uni.cells 139) (fun _=>True):=fun base fuel cs x h=>by
 obtain⟨xs,n,hfu,rfl,hl,hlen,hf⟩:=DataW.trod_struct underlying139 h
 rw[show wG.cellsOf 139=6 from by kernel_rfl]at hl
 have hlen:xs.length=4:=hlen
 have f0:DataW.trod enc wG w base (fun _=>wE) wE n 9 ((cs.drop 0).take (wG.cellsOf 9))=xs[0]? :=hf 0 _ rfl
 rw[show wG.cellsOf 9=1 from by kernel_rfl,zl (show 0<xs.length by omega)]at f0
 obtain⟨a0,_,r0⟩:=og9 _ _ _ _ f0
 have f1:DataW.trod enc wG w base (fun _=>wE) wE n 3 ((cs.drop 1).take (wG.cellsOf 3))=xs[1]? :=hf 1 _ rfl
 rw[show wG.cellsOf 3=1 from by kernel_rfl,zl (show 1<xs.length by omega)]at f1
 obtain⟨a1,_,r1⟩:=RZ _ _ _ _ f1
 have f2:DataW.trod enc wG w base (fun _=>wE) wE n 3 ((cs.drop 2).take (wG.cellsOf 3))=xs[2]? :=hf 2 _ rfl
 rw[show wG.cellsOf 3=1 from by kernel_rfl,zl (show 2<xs.length by omega)]at f2
 obtain⟨a2,_,r2⟩:=RZ _ _ _ _ f2
 have f3:DataW.trod enc wG w base (fun _=>wE) wE n 137 ((cs.drop 3).take (wG.cellsOf 137))=xs[3]? :=hf 3 _ rfl
 rw[show wG.cellsOf 137=3 from by kernel_rfl,zl (show 3<xs.length by omega)]at f3
 obtain⟨a3,_,r3⟩:=agI _ _ _ _ f3
 have e:bq qD w [] (cs.drop 6):=by rw[xk (by omega)];exact bq.nil
 have s3:=b9 (us:=cs.drop 3) r3 (by rw[zK];exact e)
 have s2:=b9 (us:=cs.drop 2) r2 (by rw[zK];exact s3)
 have s1:=b9 (us:=cs.drop 1) r1 (by rw[zK];exact s2)
 have s0:=b9 (us:=cs.drop 0) r0 (by rw[zK];exact s1)
 exact⟨(⟨a0,a1,a2,a3⟩:cA),trivial,s0⟩
theorem atV:jg enc wG w 23 (fun l:List (uni.cH 139)=>[.sl 139 l]) (fun l=>l.length<=9223372036854775807/\∀a∈l,True):=jg.slice (e:=139) (sz:=5) underlying23 (by kernel_rfl) rfl aq8
theorem aoo:jg enc wG w 164 (cN .i64) (fun _=>True):=(jg.int underlying164).any
theorem anq:jg enc wG w 27 (fun l:List (uni.cH 3)=>[.sl 3 l]) (fun l=>l.length<=9223372036854775807/\∀a∈l,True):=jg.slice (e:=3) (sz:=0) underlying27 (by kernel_rfl) rfl RZ
theorem Vm:∀B,E4 B enc wG w 166 (uni.cells 166) (fun _=>True)
 |0=>fun base fuel hB=>absurd hB (yw _)
 |B+1=>fun base fuel hB cs x h=>by
  have ih:=Vm B
  obtain⟨xs,n,hfu,rfl,hl,hlen,hf⟩:=DataW.trod_struct underlying166 h
  rw[show wG.cellsOf 166=10 from by kernel_rfl]at hl
  have hlen:xs.length=8:=hlen
  have f0:DataW.trod enc wG w base (fun _=>wE) wE n 164 ((cs.drop 0).take (wG.cellsOf 164))=xs[0]? :=hf 0 _ rfl
  rw[show wG.cellsOf 164=1 from by kernel_rfl,zl (show 0<xs.length by omega)]at f0
  obtain⟨a0,_,r0⟩:=aoo _ _ _ _ f0
  have f1:DataW.trod enc wG w base (fun _=>wE) wE n 3 ((cs.drop 1).take (wG.cellsOf 3))=xs[1]? :=hf 1 _ rfl
  rw[show wG.cellsOf 3=1 from by kernel_rfl,zl (show 1<xs.length by omega)]at f1
  obtain⟨a1,_,r1⟩:=RZ _ _ _ _ f1
  have f2:DataW.trod enc wG w base (fun _=>wE) wE n 3 ((cs.drop 2).take (wG.cellsOf 3))=xs[2]? :=hf 2 _ rfl
  rw[show wG.cellsOf 3=1 from by kernel_rfl,zl (show 2<xs.length by omega)]at f2
  obtain⟨a2,_,r2⟩:=RZ _ _ _ _ f2
  have f3:DataW.trod enc wG w base (fun _=>wE) wE n 3 ((cs.drop 3).take (wG.cellsOf 3))=xs[3]? :=hf 3 _ rfl
  rw[show wG.cellsOf 3=1 from by kernel_rfl,zl (show 3<xs.length by omega)]at f3
  obtain⟨a3,_,r3⟩:=RZ _ _ _ _ f3
  have f4:DataW.trod enc wG w base (fun _=>wE) wE n 137 ((cs.drop 4).take (wG.cellsOf 137))=xs[4]? :=hf 4 _ rfl
  rw[show wG.cellsOf 137=3 from by kernel_rfl,zl (show 4<xs.length by omega)]at f4
  obtain⟨a4,_,r4⟩:=agI _ _ _ _ f4
  have f5:DataW.trod enc wG w base (fun _=>wE) wE n 24 ((cs.drop 7).take (wG.cellsOf 24))=xs[5]? :=hf 5 _ rfl
  rw[show wG.cellsOf 24=1 from by kernel_rfl,zl (show 5<xs.length by omega)]at f5
  obtain⟨a5,_,r5⟩:=E4.slice (t:=24) (e:=166) (sz:=9) underlying24 (by kernel_rfl) rfl ih base n (by omega) _ _ f5
  have f6:DataW.trod enc wG w base (fun _=>wE) wE n 24 ((cs.drop 8).take (wG.cellsOf 24))=xs[6]? :=hf 6 _ rfl
  rw[show wG.cellsOf 24=1 from by kernel_rfl,zl (show 6<xs.length by omega)]at f6
  obtain⟨a6,_,r6⟩:=E4.slice (t:=24) (e:=166) (sz:=9) underlying24 (by kernel_rfl) rfl ih base n (by omega) _ _ f6
  have f7:DataW.trod enc wG w base (fun _=>wE) wE n 27 ((cs.drop 9).take (wG.cellsOf 27))=xs[7]? :=hf 7 _ rfl
  rw[show wG.cellsOf 27=1 from by kernel_rfl,zl (show 7<xs.length by omega)]at f7
  obtain⟨a7,_,r7⟩:=anq _ _ _ _ f7
  have e:bq qD w [] (cs.drop 10):=by rw[xk (by omega)];exact bq.nil
  have s7:=b9 (us:=cs.drop 9) r7 (by rw[zK];exact e)
  have s6:=b9 (us:=cs.drop 8) r6 (by rw[zK];exact s7)
  have s5:=b9 (us:=cs.drop 7) r5 (by rw[zK];exact s6)
  have s4:=b9 (us:=cs.drop 4) r4 (by rw[zK];exact s5)
  have s3:=b9 (us:=cs.drop 3) r3 (by rw[zK];exact s4)
  have s2:=b9 (us:=cs.drop 2) r2 (by rw[zK];exact s3)
  have s1:=b9 (us:=cs.drop 1) r1 (by rw[zK];exact s2)
  have s0:=b9 (us:=cs.drop 0) r0 (by rw[zK];exact s1)
  exact⟨(⟨a0,a1,a2,a3,a4,a5,a6,a7⟩:GStep),trivial,s0⟩
theorem amO:jg enc wG w 166 (uni.cells 166) (fun _=>True):=jg.ofB Vm
theorem auf:jg enc wG w 24 (fun l:List (uni.cH 166)=>[.sl 166 l]) (fun l=>l.length<=9223372036854775807/\∀a∈l,True):=jg.slice (e:=166) (sz:=9) underlying24 (by kernel_rfl) rfl amO
theorem atj:jg enc wG w 26 (uni.cells 26) (fun _=>True):=fun base fuel cs x h=>by
 obtain⟨xs,n,hfu,rfl,hl,hlen,hf⟩:=DataW.trod_struct underlying26 h
 rw[show wG.cellsOf 26=3 from by kernel_rfl]at hl
 have hlen:xs.length=3:=hlen
 have f0:DataW.trod enc wG w base (fun _=>wE) wE n 22 ((cs.drop 0).take (wG.cellsOf 22))=xs[0]? :=hf 0 _ rfl
 rw[show wG.cellsOf 22=1 from by kernel_rfl,zl (show 0<xs.length by omega)]at f0
 obtain⟨a0,_,r0⟩:=aut _ _ _ _ f0
 have f1:DataW.trod enc wG w base (fun _=>wE) wE n 23 ((cs.drop 1).take (wG.cellsOf 23))=xs[1]? :=hf 1 _ rfl
 rw[show wG.cellsOf 23=1 from by kernel_rfl,zl (show 1<xs.length by omega)]at f1
 obtain⟨a1,_,r1⟩:=atV _ _ _ _ f1
 have f2:DataW.trod enc wG w base (fun _=>wE) wE n 24 ((cs.drop 2).take (wG.cellsOf 24))=xs[2]? :=hf 2 _ rfl
 rw[show wG.cellsOf 24=1 from by kernel_rfl,zl (show 2<xs.length by omega)]at f2
 obtain⟨a2,_,r2⟩:=auf _ _ _ _ f2
 have e:bq qD w [] (cs.drop 3):=by rw[xk (by omega)];exact bq.nil
 have s2:=b9 (us:=cs.drop 2) r2 (by rw[zK];exact e)
 have s1:=b9 (us:=cs.drop 1) r1 (by rw[zK];exact s2)
 have s0:=b9 (us:=cs.drop 0) r0 (by rw[zK];exact s1)
 exact⟨(⟨a0,a1,a2⟩:Flat),trivial,s0⟩
theorem og4:jg enc wG w 4 cB (fun _=>True):=jg.bool underlying4
theorem avf:jg enc wG w 29 (uni.cells 29) (fun _=>True):=fun base fuel cs x h=>by
 obtain⟨xs,n,hfu,rfl,hl,hlen,hf⟩:=DataW.trod_struct underlying29 h
 rw[show wG.cellsOf 29=2 from by kernel_rfl]at hl
 have hlen:xs.length=2:=hlen
 have f0:DataW.trod enc wG w base (fun _=>wE) wE n 27 ((cs.drop 0).take (wG.cellsOf 27))=xs[0]? :=hf 0 _ rfl
 rw[show wG.cellsOf 27=1 from by kernel_rfl,zl (show 0<xs.length by omega)]at f0
 obtain⟨a0,_,r0⟩:=anq _ _ _ _ f0
 have f1:DataW.trod enc wG w base (fun _=>wE) wE n 4 ((cs.drop 1).take (wG.cellsOf 4))=xs[1]? :=hf 1 _ rfl
 rw[show wG.cellsOf 4=1 from by kernel_rfl,zl (show 1<xs.length by omega)]at f1
 obtain⟨a1,_,r1⟩:=og4 _ _ _ _ f1
 have e:bq qD w [] (cs.drop 2):=by rw[xk (by omega)];exact bq.nil
 have s1:=b9 (us:=cs.drop 1) r1 (by rw[zK];exact e)
 have s0:=b9 (us:=cs.drop 0) r0 (by rw[zK];exact s1)
 exact⟨(⟨a0,a1⟩:View),trivial,s0⟩
theorem auA:jg enc wG w 34 (uni.cells 34) (fun _=>True):=fun base fuel cs x h=>by
 obtain⟨xs,n,hfu,rfl,hl,hlen,hf⟩:=DataW.trod_struct underlying34 h
 rw[show wG.cellsOf 34=3 from by kernel_rfl]at hl
 have hlen:xs.length=3:=hlen
 have f0:DataW.trod enc wG w base (fun _=>wE) wE n 3 ((cs.drop 0).take (wG.cellsOf 3))=xs[0]? :=hf 0 _ rfl
 rw[show wG.cellsOf 3=1 from by kernel_rfl,zl (show 0<xs.length by omega)]at f0
 obtain⟨a0,_,r0⟩:=RZ _ _ _ _ f0
 have f1:DataW.trod enc wG w base (fun _=>wE) wE n 3 ((cs.drop 1).take (wG.cellsOf 3))=xs[1]? :=hf 1 _ rfl
 rw[show wG.cellsOf 3=1 from by kernel_rfl,zl (show 1<xs.length by omega)]at f1
 obtain⟨a1,_,r1⟩:=RZ _ _ _ _ f1
 have f2:DataW.trod enc wG w base (fun _=>wE) wE n 3 ((cs.drop 2).take (wG.cellsOf 3))=xs[2]? :=hf 2 _ rfl
 rw[show wG.cellsOf 3=1 from by kernel_rfl,zl (show 2<xs.length by omega)]at f2
 obtain⟨a2,_,r2⟩:=RZ _ _ _ _ f2
 have e:bq qD w [] (cs.drop 3):=by rw[xk (by omega)];exact bq.nil
 have s2:=b9 (us:=cs.drop 2) r2 (by rw[zK];exact e)
 have s1:=b9 (us:=cs.drop 1) r1 (by rw[zK];exact s2)
 have s0:=b9 (us:=cs.drop 0) r0 (by rw[zK];exact s1)
 exact⟨(⟨a0,a1,a2⟩:aD),trivial,s0⟩
theorem asE:jg enc wG w 30 (fun l:List (uni.cH 34)=>[.sl 34 l]) (fun l=>l.length<=9223372036854775807/\∀a∈l,True):=jg.slice (e:=34) (sz:=2) underlying30 (by kernel_rfl) rfl auA
end
end Go.Proofs.YtnfljbehcffmcaaGreat
end
noncomputable section
namespace Go.Proofs.YtnfljbehcffmcaaGreat
open Go Go.Iv
theorem amv:jh wG 6 0 (d6.pat wE)=⟨.b wE,[],0⟩:=by kernel_rfl
theorem aqc(f:Flat)(v:View)(box:List aD):Iv.Fn wG 6 [.agg (uni.cells 26 f), .agg (uni.cells 29 v), .sl 34 box] [] (fun a s=>a= .b wE/\s=[]):=(h6 (f,v,box,()) wE (aud f v box)).law amv (by kernel_rfl)
end Go.Proofs.YtnfljbehcffmcaaGreat
end
