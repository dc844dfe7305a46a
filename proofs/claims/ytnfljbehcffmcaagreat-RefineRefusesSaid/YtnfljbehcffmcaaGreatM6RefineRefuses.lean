/- Merged: Hz, Hw, Nf1, Nf2, Nf3, Nf4, Hk, Hu, Nf5, Nf6, Nf7, Nf8, Nf9, Hp1, Pw1, Hk45, Ix5, H10, Nk1, Rc, Sk, Sf, Sc, St, Ix6, Hra. -/
import Derived.Test.YtnfljbehcffmcaaGreatM5RefineRefuses
import Derived.Test.YtnfljbehcffmcaaGreatM2RefineRefuses
import Derived.Test.YtnfljbehcffmcaaGreatM4RefineRefuses
import Derived.Test.YtnfljbehcffmcaaGreatM3RefineRefuses
import Derived.Shelf.SlSortCmp.WholeK
import Derived.Shelf.SlSortCmp.NoneTotal
import Derived.Shelf.SlSortCmp.KitK
import Derived.Sort.WalkB12
import Derived.Deep.LoopGhost
import Derived.Lib.SliceRun
open Int renaming toNat_natCast → ze, le_refl → zq, toNat → zC, mul_nonneg → zF, mul_assoc → zP, ediv_nonneg → zQ, one_mul → z6, ediv_le_self → ye, lt_irrefl → yo, mul_le_mul → xA, le_trans → xU, mul_le_mul_of_nonneg_left → wV
open Nat renaming beq → zf, le_refl → zo, lt_succ_self → zJ, le_trans → zK, add_mul → yb, zero_add → yl, add_zero → yq, mul_le_mul_right → yK, mod_lt → yP, zero_le → yZ, add_assoc → xG, sub_self → xS, eq_zero_or_pos → wE, add_sub_cancel → wK
open SizeOf renaming sizeOf → zg
open Bool renaming and_eq_true → zi, false_eq_true → yu, true_and → wB, true → O, false → G
open Option renaming map_eq_some_iff → zj, some → zA, some → V, none → S
open List renaming replicate → zk, length_append → zl, mem_cons_self → zm, getElem?_eq_getElem → zu, length_map → zx, mem_singleton → zy, mem_cons → zB, take_length → zD, length_take → zH, mem_map → zL, range → zM, mem_cons_of_mem → zO, length → zS, mem_append → zV, mem_filter → zZ, map_append → z8, map_cons → yc, length_drop → yj, length_filter_le → yp, nil_append → yw, append_nil → yC, length_nil → yG, length_singleton → yM, append_assoc → yQ, map_nil → yR, filter_cons → yS, getElem_map → yW, length_cons → yX, filter_append → y6, length_eq_zero_iff → xe, filterMap_cons → xk, cons_append → xo, drop_eq_getElem_cons → xu, take_append_drop → xw, eq_nil_of_length_eq_zero → xy, filter_nil → xZ, getElem?_eq_none → x9, getElem_take → we, mem_of_mem_drop → wh, ext_getElem → wC, getElem_drop → wH, getElem?_append_right → wJ, getElem?_take_of_lt → wO, getElem?_append_left → wS
open Array renaming length_toList → yg, getElem?_eq_some_iff → xE, getElem?_eq_getElem → xK, getElem?_toList → wY, getElem?_modify → wZ
open Decidable renaming decide → J
open Go.Proofs.Tryz renaming prog → w9
open Go.Proofs.Tryz
set_option linter.unusedSectionVars false
set_option linter.unusedVariables false
set_option linter.unusedSimpArgs false
set_option linter.defProp false
noncomputable section
set_option maxRecDepth 100000
namespace Go.Proofs.YtnfljbehcffmcaaGreat
open Go Go.Iv
open Go.IntKind (i64 u64)
def F79:bf:=(Md (aiN (e91 de)))
structure MR where
 t2:List aH
 t100:List aX
 (t101 t102:Int)
def YC:Td 0 MR:= .c [] [2,100,101,102] (.r 0 1 (ec 2 (ql 34) (ec 100 (qo 0) (ec 101 aM (ec 102 aM en)))) (sr 0 131 sn) (λz=>⟨z.1.1,z.2.1,z.1.t.1,z.1.t.2.1⟩) (λx=>((x.t2,(),x.t101,x.t102,()),(x.t100,()))))
def L4(p:MR):af (af MR):=
 bif J (p.t102<p.t101)then if 0<=p.t102/\p.t102<p.t100.length then if 131=131/\p.t102.toNat<p.t100.length then match if 0<=p.t102/\p.t102<p.t2.length then match tv p.t2[p.t102.toNat]! with|S=>S|V r2=>bif bif r2 then G else O then V O else if 0<=p.t102/\p.t102<p.t2.length then match Kh p.t2[p.t102.toNat]! with|S=>S|V r3=>V (J (r3=0))else S else S with|S=>S|V r4=>bif r4 then V (S)else if 0<=p.t102/\p.t102<p.t2.length then bif J (p.t2[p.t102.toNat]!.ag<p.t100[p.t102.toNat]!.ag)then V (S)else if 0<=p.t102/\p.t102<p.t2.length then bif J (p.t100[p.t102.toNat]!.ah<p.t2[p.t102.toNat]!.ah)then V (S)else V (V (MR.mk p.t2 p.t100 p.t101 (i64.wrap (p.t102+1))))else S else S else S else S else V (S)
def amB:An:=(noTwo (noTwo (.two (noTwo (.two (.two (.rb [91,144] 120) .no) .no)) .no)))
def SH:=bK (L4)
structure Nw where
 t2:List aH
 (t9 t69:List aX)
 (t70 t71:Int)
 b0:bY
def Xj:Td 0 Nw:= .c [] [2,4,9,69,70,71] (.r 0 3 (ec 2 (ql 34) (ec 4 (qp 0 0) (ec 9 (qo 1) (ec 69 (qo 2) (ec 70 aM (ec 71 aM en)))))) (sb 0 29 (lg 29) (sr 1 131 (sr 2 131 sn))) (λz=>⟨z.1.1,z.t.1,z.t.2.1,z.1.q.1,z.1.q.2.1,z.2.1⟩) (λx=>((x.t2,(),(),(),x.t70,x.t71,()),(x.b0,x.t9,x.t69,()))))
def LY(p:Nw):af (af Nw):=
 bif J (p.t71<p.t70)then if 0<=p.t71/\p.t71<p.t69.length then if 131=131/\p.t71.toNat<p.t69.length then if 0<=p.t71/\p.t71<p.b0.aU.length then bif J (((p.t2,(),(),(),p.t70,p.t71,()),p.b0,p.t9,p.t69,()).snd.fst.aU[((p.t2,(),(),(),p.t70,p.t71,()),p.b0,p.t9,p.t69,()).fst.snd.snd.snd.snd.snd.fst.toNat]! <((p.t2,(),(),(),p.t70,p.t71,()),p.b0,p.t9,p.t69,()).snd.snd.snd.fst[((p.t2,(),(),(),p.t70,p.t71,()),p.b0,p.t9,p.t69,()).fst.snd.snd.snd.snd.snd.fst.toNat]!.ag)then V (S)else if 0<=p.t71/\p.t71<p.b0.aU.length then bif J (((p.t2,(),(),(),p.t70,p.t71,()),p.b0,p.t9,p.t69,()).snd.snd.snd.fst[((p.t2,(),(),(),p.t70,p.t71,()),p.b0,p.t9,p.t69,()).fst.snd.snd.snd.snd.snd.fst.toNat]!.ah<((p.t2,(),(),(),p.t70,p.t71,()),p.b0,p.t9,p.t69,()).snd.fst.aU[((p.t2,(),(),(),p.t70,p.t71,()),p.b0,p.t9,p.t69,()).fst.snd.snd.snd.snd.snd.fst.toNat]!)then V (S)else V (V (Nw.mk p.t2 p.t9 p.t69 p.t70 (i64.wrap (p.t71+1)) p.b0))else S else S else S else S else V (S)
def Uv:=bK (LY)
structure Dh where
 t2:List aH
 (t8 t9:List aX)
 t13:Int
 t40:List Int
 (t41 t42:Int)
 t47:List aX
 (t48 t49:Int)
 b0:aN
 b1:bY
def YY:Td 0 Dh:= .c [] [2,3,4,8,9,13,40,41,42,47,48,49] (.r 0 5 (ec 2 (ql 34) (ec 3 (qp 0 0) (ec 4 (qp 1 0) (ec 8 (qo 2) (ec 9 (qo 3) (ec 13 aM (ec 40 (qo 4) (ec 41 aM (ec 42 aM (ec 47 (ql 131) (ec 48 aM (ec 49 aM en)))))))))))) (sb 0 26 (lg 26) (sb 1 29 (lg 29) (sr 2 131 (sr 3 131 (sr 4 129 sn))))) (λz=>⟨z.1.1,z.t.2.1,z.q.1,z.1.q.2.1,z.q.2.1,z.1.q.t.2.1,z.1.q.q.1,z.1.q.q.2.1,z.1.q.q.t.1,z.1.q.q.t.2.1,z.2.1,z.t.1⟩) (λx=>((x.t2,(),(),(),(),x.t13,(),x.t41,x.t42,x.t47,x.t48,x.t49,()),(x.b0,x.b1,x.t8,x.t9,x.t40,()))))
def RX(p:Dh):af (af Dh):=
 bif J (p.t49<p.t48)then if 0<=p.t49/\p.t49<p.t47.length then bif J (p.t47[p.t49.toNat]!.bz=p.t13)then if(p.t9++[p.t47[p.t49.toNat]!]).length<=1073741824 then V (V (Dh.mk p.t2 p.t8 (p.t9++[p.t47[p.t49.toNat]!]) p.t13 p.t40 p.t41 p.t42 p.t47 p.t48 (i64.wrap (p.t49+1)) p.b0 p.b1))else S else V (V (Dh.mk p.t2 p.t8 p.t9 p.t13 p.t40 p.t41 p.t42 p.t47 p.t48 (i64.wrap (p.t49+1)) p.b0 p.b1))else S else V (S)
def Gi:=bK (RX)
structure KW where
 t2:List aH
 (t8 t9:List aX)
 t40:List Int
 (t41 t42:Int)
 b0:aN
 b1:bY
def YP:Td 0 KW:= .c [] [2,3,4,8,9,40,41,42] (.t (cC.s 9 [] 131) (.c [] [2,3,4,8,9,40,41,42] (.r 0 5 (ec 2 (ql 34) (ec 3 (qp 0 0) (ec 4 (qp 1 0) (ec 8 (qo 2) (ec 9 (qo 3) (ec 40 (qo 4) (ec 41 aM (ec 42 aM en)))))))) (sb 0 26 (lg 26) (sb 1 29 (lg 29) (sr 2 131 (sr 3 131 (sr 4 129 sn))))) (λz=>⟨z.1.1,z.t.2.1,z.q.1,z.q.2.1,z.1.q.t.1,z.1.q.t.2.1,z.2.1,z.t.1⟩) (λx=>((x.t2,(),(),(),(),(),x.t41,x.t42,()),(x.b0,x.b1,x.t8,x.t9,x.t40,()))))))
def Rn(p:KW):af (af KW):=
 bif J (p.t42<p.t41)then if 0<=p.t42/\p.t42<p.t40.length then if 129=129/\p.t42.toNat<p.t40.length then match Gi (Dh.mk p.t2 p.t8 p.t9 p.t40[p.t42.toNat]! p.t40 p.t41 p.t42 p.b0.aj p.b0.aj.length 0 p.b0 p.b1)with|S=>S|V r1=>bif J (r1.t49<r1.t48)then if 0<=r1.t49/\r1.t49<r1.t47.length then bif J (r1.t47[r1.t49.toNat]!.bz=r1.t13)then if(r1.t9++[r1.t47[r1.t49.toNat]!]).length<=1073741824 then S else S else S else S else V (V (KW.mk r1.t2 r1.t8 r1.t9 r1.t40 r1.t41 (i64.wrap (r1.t42+1)) r1.b0 r1.b1))else S else S else V (S)
def al0:An:=(noTwo (noTwo (.two (noTwo (noTwo (YY.lp Gi .no))) .no)))
def Mj:=bK (Rn)
structure Gj where
 t2:List aH
 (t8 t26:List aX)
 (t27 t28:Int)
 b0:aN
 b1:bY
def ZW:Td 0 Gj:= .c [] [2,3,4,8,9,26,27,28] (.t (cC.s 8 [] 131) (.c [] [2,3,4,8,9,26,27,28] (.r 0 3 (ec 2 (ql 34) (ec 3 (qp 0 0) (ec 4 (qp 1 0) (ec 8 (qo 2) (ec 9 qn (ec 26 (ql 131) (ec 27 aM (ec 28 aM en)))))))) (sb 0 26 (lg 26) (sb 1 29 (lg 29) (sr 2 131 sn))) (λz=>⟨z.1.1,z.t.2.1,z.1.q.2.1,z.1.q.t.1,z.1.q.t.2.1,z.2.1,z.t.1⟩) (λx=>((x.t2,(),(),(),(),x.t26,x.t27,x.t28,()),(x.b0,x.b1,x.t8,()))))))
def Sm(p:Gj):af (af Gj):=
 bif J (p.t28<p.t27)then if 0<=p.t28/\p.t28<p.t26.length then bif J (p.t26[p.t28.toNat]!.bz=2)then if(p.t8++[p.t26[p.t28.toNat]!]).length<=1073741824 then V (V (Gj.mk p.t2 (p.t8++[p.t26[p.t28.toNat]!]) p.t26 p.t27 (i64.wrap (p.t28+1)) p.b0 p.b1))else S else V (V (Gj.mk p.t2 p.t8 p.t26 p.t27 (i64.wrap (p.t28+1)) p.b0 p.b1))else S else V (S)
def Ut:=bK (Sm)
abbrev E79:=Int
def d79:Td 0 E79:= .c [] [6] (.r 0 0 (ec 6 aM en) sn (λz=>z.1.1) (λx=>((x,()),(()))))
def aCa:∀f∈([91,144]:aa Nat),bw (F79) f:=(aA (fZ (GK (Ej bS))) (aA (fZ (GK (Ej bS))) aF))
def m79(a0:aN)(a1:bY)(a2:aa aH):af E79:=
 match Zb a0 with|S=>S|V r5=>bif bif J (r5=0)then G else O then V (r5)else match Ut (Gj.mk a2 [] a0.aj a0.aj.length 0 a0 a1)with|S=>S|V r6=>bif J (r6.t28<r6.t27)then if 0<=r6.t28/\r6.t28<r6.t26.length then bif J (r6.t26[r6.t28.toNat]!.bz=2)then if(r6.t8++[r6.t26[r6.t28.toNat]!]).length<=1073741824 then S else S else S else S else match Mj (KW.mk r6.t2 r6.t8 [] [1,3] (2:Int) 0 r6.b0 r6.b1)with|S=>S|V r7=>bif J (r7.t42<r7.t41)then if 0<=r7.t42/\r7.t42<r7.t40.length then if 129=129/\r7.t42.toNat<r7.t40.length then match Gi (Dh.mk r7.t2 r7.t8 r7.t9 r7.t40[r7.t42.toNat]! r7.t40 r7.t41 r7.t42 r7.b0.aj r7.b0.aj.length 0 r7.b0 r7.b1)with|S=>S|V r8=>bif J (r8.t49<r8.t48)then if 0<=r8.t49/\r8.t49<r8.t47.length then bif J (r8.t47[r8.t49.toNat]!.bz=r8.t13)then if(r8.t9++[r8.t47[r8.t49.toNat]!]).length<=1073741824 then S else S else S else S else S else S else S else bif bif J ((r7.b1.aU.length:Int)=(r7.t8.length:Int))then G else O then V 1 else match Uv (Nw.mk r7.t2 r7.t9 r7.t8 r7.t8.length 0 r7.b1)with|S=>S|V r9=>bif J (r9.t71<r9.t70)then if 0<=r9.t71/\r9.t71<r9.t69.length then if 131=131/\r9.t71.toNat<r9.t69.length then if 0<=r9.t71/\r9.t71<r9.b0.aU.length then bif J (((r9.t2,(),(),(),r9.t70,r9.t71,()),r9.b0,r9.t9,r9.t69,()).snd.fst.aU[((r9.t2,(),(),(),r9.t70,r9.t71,()),r9.b0,r9.t9,r9.t69,()).fst.snd.snd.snd.snd.snd.fst.toNat]! <((r9.t2,(),(),(),r9.t70,r9.t71,()),r9.b0,r9.t9,r9.t69,()).snd.snd.snd.fst[((r9.t2,(),(),(),r9.t70,r9.t71,()),r9.b0,r9.t9,r9.t69,()).fst.snd.snd.snd.snd.snd.fst.toNat]!.ag)then V 3 else if 0<=r9.t71/\r9.t71<r9.b0.aU.length then bif J (((r9.t2,(),(),(),r9.t70,r9.t71,()),r9.b0,r9.t9,r9.t69,()).snd.snd.snd.fst[((r9.t2,(),(),(),r9.t70,r9.t71,()),r9.b0,r9.t9,r9.t69,()).fst.snd.snd.snd.snd.snd.fst.toNat]!.ah<((r9.t2,(),(),(),r9.t70,r9.t71,()),r9.b0,r9.t9,r9.t69,()).snd.fst.aU[((r9.t2,(),(),(),r9.t70,r9.t71,()),r9.b0,r9.t9,r9.t69,()).fst.snd.snd.snd.snd.snd.fst.toNat]!)then V 3 else S else S else S else S else S else bif bif J ((r9.t2.length:Int)=(r9.t9.length:Int))then G else O then V 2 else match SH (MR.mk r9.t2 r9.t9 r9.t9.length 0)with|S=>S|V r10=>bif J (r10.t102<r10.t101)then if 0<=r10.t102/\r10.t102<r10.t100.length then if 131=131/\r10.t102.toNat<r10.t100.length then match if 0<=r10.t102/\r10.t102<r10.t2.length then match tv r10.t2[r10.t102.toNat]! with|S=>S|V r11=>bif bif r11 then G else O then V O else if 0<=r10.t102/\r10.t102<r10.t2.length then match Kh r10.t2[r10.t102.toNat]! with|S=>S|V r12=>V (J (r12=0))else S else S with|S=>S|V r13=>bif r13 then V 1 else if 0<=r10.t102/\r10.t102<r10.t2.length then bif J (r10.t2[r10.t102.toNat]!.ag<r10.t100[r10.t102.toNat]!.ag)then V 3 else if 0<=r10.t102/\r10.t102<r10.t2.length then bif J (r10.t100[r10.t102.toNat]!.ah<r10.t2[r10.t102.toNat]!.ah)then V 3 else S else S else S else S else S else V 0
def e79:=eL w9 79 G (lc (qg 26) (lc (qg 29) (lc (ql 34) ln))) d79 (λg=>m79 g.1 g.2.1 g.t.1)
def aqe:EO e79:=λh=>kL (F:=F79) (an:=(noTwo (noTwo (noTwo (.two (noTwo (ZW.lp Ut .no)) (.two (noTwo (YP.lp Mj al0)) (noTwo (.two (noTwo (Xj.lp Uv .no)) (noTwo (.two (noTwo (YC.lp SH amB)) .no)))))))))) (l:=[(bg f79 0,(ZW.lp Ut .no)),(bg f79 1,(YP.lp Mj al0)),(bg f79 2,(YY.lp Gi .no)),(bg f79 3,(Xj.lp Uv .no)),(bg f79 4,(YC.lp SH amB)),(.skip,(.rb [91,144] 120))]) func79 (kG (Us (Oc aP))) (aA (aO ZW) (aA (aO YP) (aA (aO YY) (aA (aO Xj) (aA (aO YC) (aA aCa aF)))))) h
def F20:bf:=(e83 (e82 (e81 (e80 (e79 de)))))
def aqN:aQ w9 F20:=(an6 (IN (QF (Iz (aqe aP)))))
structure L5 where
 t108:List dx
 (t109 t110:Int)
 b0:aN
 b1:bY
 b2:bN
 b3:ax
 b4:Runner
def aaH:Td 0 L5:= .c [] [3,4,6,9,17,108,109,110] (.t (cC.c 4 3 [] 34) (.c [] [3,4,6,9,17,108,109,110] (.r 0 7 (ec 3 (qp 0 0) (ec 4 (qp 1 0) (ec 6 (qp 2 0) (ec 9 (qp 3 0) (ec 17 (qp 4 0) (ec 108 (ql 139) (ec 109 aM (ec 110 aM en)))))))) (sb 0 26 (lg 26) (sb 1 29 (lg 29) (sb 2 36 (bk (bk (bk (lc qn (bk (bk (bk (lc qn ln)))))))) (sb 3 128 (lc (qo 5) (bk (bk (bk (lc qn (bk (bk (bk ln)))))))) (sb 4 133 (lc (ql 131) (lc (ql 139) (lc (ql 166) (lc (qo 6) ln)))) (sr 5 34 (sr 6 34 sn))))))) (λz=>⟨z.1.q.2.1,z.1.q.t.1,z.1.q.t.2.1,z.2.1,z.t.1,(bN.mk (aH.mk z.t.2.1.1 z.t.2.1.2.1 z.t.2.1.t.1) [] (aH.mk z.t.2.1.q.1 z.t.2.1.q.2.1 z.t.2.1.q.t.1) []),(ax.mk z.q.t.1 (aH.mk z.q.1.2.1 z.q.1.t.1 z.q.1.t.2.1) [] (aH.mk z.q.1.q.2.1 z.q.1.q.t.1 z.q.1.q.t.2.1)),(Runner.mk (aN.mk z.q.2.1.1 z.q.2.1.2.1 z.q.2.1.t.1) z.q.t.2.1)⟩) (λx=>(((),(),(),(),(),x.t108,x.t109,x.t110,()),(x.b0,x.b1,(x.b2.aB.ag,x.b2.aB.ah,x.b2.aB.ai,(),x.b2.aI.ag,x.b2.aI.ah,x.b2.aI.ai,(),()),((),x.b3.aB.ag,x.b3.aB.ah,x.b3.aB.ai,(),x.b3.aI.ag,x.b3.aI.ah,x.b3.aI.ai,()),(x.b4.fF.aj,x.b4.fF.ak,x.b4.fF.bH,(),()),x.b3.aj,x.b4.ak,()))))))
def Uk(p:L5):af (af L5):=
 bif J (p.t110<p.t109)then if 0<=p.t110/\p.t110<p.t108.length then match Pr (ax.mk p.b3.aj p.b3.aB [] p.b3.aI) (au.mk p.t108[p.t110.toNat]!.az.bC p.t108[p.t110.toNat]!.az.fN p.t108[p.t110.toNat]!.az.aq)with|S=>S|V r1=>match m81 r1 p.t108[p.t110.toNat]!.ag p.t108[p.t110.toNat]!.ah with|S=>S|V r2=>if(p.b4.ak++[r2.fst]).length<=1073741824 then V (V (L5.mk p.t108 p.t109 (i64.wrap (p.t110+1)) p.b0 p.b1 (bN.mk p.b2.aB [] p.b2.aI []) (ax.mk p.b3.aj p.b3.aB [] p.b3.aI) (Runner.mk p.b4.fF (p.b4.ak++[r2.fst]))))else S else S else V (S)
def LV:=bK (Uk)
structure Bc where
 t2:List aH
 (t10 t11 t12:Int)
 t47:List aX
 (t48 t49:Int)
 b0:aN
 b1:bY
 b2:bN
 b3:ax
def Yg:Td 0 Bc:= .c [] [2,3,4,6,9,10,11,12,47,48,49] (.t (cC.c 3 0 [] 34) (.c [] [2,3,4,6,9,10,11,12,47,48,49] (.r 0 5 (ec 2 (ql 34) (ec 3 (qp 0 0) (ec 4 (qp 1 0) (ec 6 (qp 2 0) (ec 9 (qp 3 0) (ec 10 aM (ec 11 aM (ec 12 aM (ec 47 (ql 131) (ec 48 aM (ec 49 aM en))))))))))) (sb 0 26 (lg 26) (sb 1 29 (lg 29) (sb 2 36 (bk (bk (bk (lc qn (bk (bk (bk (lc qn ln)))))))) (sb 3 128 (lc (qo 4) (bk (bk (bk (lc qn (bk (bk (bk ln)))))))) (sr 4 34 sn))))) (λz=>⟨z.1.1,z.1.q.2.1,z.1.q.t.1,z.1.q.t.2.1,z.1.q.q.1,z.1.q.q.2.1,z.1.q.q.t.1,z.2.1,z.t.1,(bN.mk (aH.mk z.t.2.1.1 z.t.2.1.2.1 z.t.2.1.t.1) [] (aH.mk z.t.2.1.q.1 z.t.2.1.q.2.1 z.t.2.1.q.t.1) []),(ax.mk z.q.2.1 (aH.mk z.q.1.2.1 z.q.1.t.1 z.q.1.t.2.1) [] (aH.mk z.q.1.q.2.1 z.q.1.q.t.1 z.q.1.q.t.2.1))⟩) (λx=>((x.t2,(),(),(),(),x.t10,x.t11,x.t12,x.t47,x.t48,x.t49,()),(x.b0,x.b1,(x.b2.aB.ag,x.b2.aB.ah,x.b2.aB.ai,(),x.b2.aI.ag,x.b2.aI.ah,x.b2.aI.ai,(),()),((),x.b3.aB.ag,x.b3.aB.ah,x.b3.aB.ai,(),x.b3.aI.ag,x.b3.aI.ah,x.b3.aI.ai,()),x.b3.aj,()))))))
def Ud(p:Bc):af (af Bc):=
 bif J (p.t49<p.t48)then if 0<=p.t49/\p.t49<p.t47.length then bif J (p.t47[p.t49.toNat]!.bz=1)then if 0<=p.t10/\p.t10<p.t2.length then if(p.b3.aj++[p.t2[p.t10.toNat]!]).length<=1073741824 then V (V (Bc.mk p.t2 (i64.wrap (p.t10+1)) p.t11 p.t12 p.t47 p.t48 (i64.wrap (p.t49+1)) p.b0 p.b1 (bN.mk p.b2.aB [] p.b2.aI []) (ax.mk (p.b3.aj++[p.t2[p.t10.toNat]!]) p.b3.aB [] p.b3.aI)))else S else S else bif J (p.t47[p.t49.toNat]!.bz=2)then if 0<=p.t11/\p.t11<p.b1.aU.length then if(p.b3.aj++[TZ p.b1.aU[p.t11.toNat]!]).length<=1073741824 then V (V (Bc.mk p.t2 p.t10 (i64.wrap (p.t11+1)) p.t12 p.t47 p.t48 (i64.wrap (p.t49+1)) p.b0 p.b1 (bN.mk p.b2.aB [] p.b2.aI []) (ax.mk (p.b3.aj++[TZ p.b1.aU[p.t11.toNat]!]) p.b3.aB [] p.b3.aI)))else S else S else bif J (p.t47[p.t49.toNat]!.bz=3)then if 0<=p.t12/\p.t12<p.t2.length then if(p.b3.aj++[p.t2[p.t12.toNat]!]).length<=1073741824 then V (V (Bc.mk p.t2 p.t10 p.t11 (i64.wrap (p.t12+1)) p.t47 p.t48 (i64.wrap (p.t49+1)) p.b0 p.b1 (bN.mk p.b2.aB [] p.b2.aI []) (ax.mk (p.b3.aj++[p.t2[p.t12.toNat]!]) p.b3.aB [] p.b3.aI)))else S else S else if(p.b3.aj++[TZ p.t47[p.t49.toNat]!.eE]).length<=1073741824 then V (V (Bc.mk p.t2 p.t10 p.t11 p.t12 p.t47 p.t48 (i64.wrap (p.t49+1)) p.b0 p.b1 (bN.mk p.b2.aB [] p.b2.aI []) (ax.mk (p.b3.aj++[TZ p.t47[p.t49.toNat]!.eE]) p.b3.aB [] p.b3.aI)))else S else S else V (S)
def Ub:=bK (Ud)
structure GN where
 t2:List aH
 (t10 t11 t12:Int)
 t34:List aX
 (t35 t36:Int)
 b0:aN
 b1:bY
 b2:bN
 b3:ax
def aa7:Td 0 GN:= .c [] [2,3,4,6,9,10,11,12,34,35,36] (.r 0 4 (ec 2 (ql 34) (ec 3 (qp 0 0) (ec 4 (qp 1 0) (ec 6 (qp 2 0) (ec 9 (qp 3 0) (ec 10 aM (ec 11 aM (ec 12 aM (ec 34 (ql 131) (ec 35 aM (ec 36 aM en))))))))))) (sb 0 26 (lg 26) (sb 1 29 (lg 29) (sb 2 36 (bk (bk (bk (lc qn (bk (bk (bk (lc qn ln)))))))) (sb 3 128 (lc qn (bk (bk (bk (lc qn (bk (bk (bk ln)))))))) sn)))) (λz=>⟨z.1.1,z.1.q.2.1,z.1.q.t.1,z.1.q.t.2.1,z.1.q.q.1,z.1.q.q.2.1,z.1.q.q.t.1,z.2.1,z.t.1,(bN.mk (aH.mk z.t.2.1.1 z.t.2.1.2.1 z.t.2.1.t.1) [] (aH.mk z.t.2.1.q.1 z.t.2.1.q.2.1 z.t.2.1.q.t.1) []),(ax.mk [] (aH.mk z.q.1.2.1 z.q.1.t.1 z.q.1.t.2.1) [] (aH.mk z.q.1.q.2.1 z.q.1.q.t.1 z.q.1.q.t.2.1))⟩) (λx=>((x.t2,(),(),(),(),x.t10,x.t11,x.t12,x.t34,x.t35,x.t36,()),(x.b0,x.b1,(x.b2.aB.ag,x.b2.aB.ah,x.b2.aB.ai,(),x.b2.aI.ag,x.b2.aI.ah,x.b2.aI.ai,(),()),((),x.b3.aB.ag,x.b3.aB.ah,x.b3.aB.ai,(),x.b3.aI.ag,x.b3.aI.ah,x.b3.aI.ai,()),()))))
def Tf(p:GN):af (af GN):=
 bif J (p.t36<p.t35)then if 0<=p.t36/\p.t36<p.t34.length then bif J (p.t34[p.t36.toNat]!.bz=1)then V (V (GN.mk p.t2 p.t10 p.t11 (i64.wrap (p.t12+1)) p.t34 p.t35 (i64.wrap (p.t36+1)) p.b0 p.b1 (bN.mk p.b2.aB [] p.b2.aI []) (ax.mk [] p.b3.aB [] p.b3.aI)))else V (V (GN.mk p.t2 p.t10 p.t11 p.t12 p.t34 p.t35 (i64.wrap (p.t36+1)) p.b0 p.b1 (bN.mk p.b2.aB [] p.b2.aI []) (ax.mk [] p.b3.aB [] p.b3.aI)))else S else V (S)
def RK:=bK (Tf)
abbrev E20:=bN×Int
def d20:Td 0 E20:= .c [] [6,7] (.r 0 1 (ec 6 (qp 0 0) (ec 7 aM en)) (sb 0 36 (lg 36) sn) (λz=>(z.2.1,z.1.2.1)) (λx=>(((),x.2,()),(x.1,()))))
def A20:=(lc (qg 26) (lc (qg 29) (lc (ql 34) ln)))
def avY:An:=(noTwo (noTwo (noTwo (noTwo (.two (noTwo (aa7.lp RK .no)) (.two (noTwo (Yg.lp Ub .no)) (noTwo (.two (noTwo (aaH.lp LV .no)) .no))))))))
def aCq:cU w9 (F20) 0 300 20 (avY):=bB (l:=[(bg f20 0,(aa7.lp RK .no)),(bg f20 1,(Yg.lp Ub .no)),(bg f20 2,(aaH.lp LV .no))]) func20 (aV (by kernel_rfl)) (by kernel_rfl) (aA (aO aa7) (aA (aO Yg) (aA (aO aaH) aF)))
def m20(a0:aN)(a1:bY)(a2:aa aH):af E20:=
 match m79 a0 a1 a2 with|S=>S|V r3=>bif bif J (r3=0)then G else O then V ((bN.mk (aH.mk 0 0 0) [] (aH.mk 0 0 0) [],r3))else match RK (GN.mk a2 0 0 0 a0.aj a0.aj.length 0 a0 a1 (bN.mk (aH.mk 0 0 0) [] (aH.mk 0 0 0) []) (ax.mk [] (TZ 0) [] (TZ 0)))with|S=>S|V r4=>bif J (r4.t36<r4.t35)then if 0<=r4.t36/\r4.t36<r4.t34.length then bif J (r4.t34[r4.t36.toNat]!.bz=1)then S else S else S else match Ub (Bc.mk r4.t2 r4.t10 r4.t11 r4.t12 r4.b0.aj r4.b0.aj.length 0 r4.b0 r4.b1 (bN.mk r4.b2.aB [] r4.b2.aI []) (ax.mk [] r4.b3.aB [] r4.b3.aI))with|S=>S|V r5=>bif J (r5.t49<r5.t48)then if 0<=r5.t49/\r5.t49<r5.t47.length then bif J (r5.t47[r5.t49.toNat]!.bz=1)then if 0<=r5.t10/\r5.t10<r5.t2.length then if(r5.b3.aj++[r5.t2[r5.t10.toNat]!]).length<=1073741824 then S else S else S else bif J (r5.t47[r5.t49.toNat]!.bz=2)then if 0<=r5.t11/\r5.t11<r5.b1.aU.length then if(r5.b3.aj++[TZ r5.b1.aU[r5.t11.toNat]!]).length<=1073741824 then S else S else S else bif J (r5.t47[r5.t49.toNat]!.bz=3)then if 0<=r5.t12/\r5.t12<r5.t2.length then if(r5.b3.aj++[r5.t2[r5.t12.toNat]!]).length<=1073741824 then S else S else S else if(r5.b3.aj++[TZ r5.t47[r5.t49.toNat]!.eE]).length<=1073741824 then S else S else S else match LV (L5.mk r5.b0.ak r5.b0.ak.length 0 r5.b0 r5.b1 (bN.mk r5.b2.aB [] r5.b2.aI []) (ax.mk r5.b3.aj r5.b3.aB [] r5.b3.aI) (Runner.mk r5.b0 []))with|S=>S|V r6=>bif J (r6.t110<r6.t109)then if 0<=r6.t110/\r6.t110<r6.t108.length then match Pr (ax.mk r6.b3.aj r6.b3.aB [] r6.b3.aI) (au.mk r6.t108[r6.t110.toNat]!.az.bC r6.t108[r6.t110.toNat]!.az.fN r6.t108[r6.t110.toNat]!.az.aq)with|S=>S|V r7=>match m81 r7 r6.t108[r6.t110.toNat]!.ag r6.t108[r6.t110.toNat]!.ah with|S=>S|V r8=>if(r6.b4.ak++[r8.fst]).length<=1073741824 then S else S else S else match r83 r6.b4 r6.b0.bH (ax.mk r6.b3.aj r6.b3.aB [] r6.b3.aI)with|S=>S|V r9=>bif bif r6.b1.eM then G else O then V ((bN.mk r9.aB r9.aC (TZ 0) r9.aj,0))else V (bN.mk r9.aB r9.aC r9.aI r9.aj,0)
def c20(a0:aN)(a1:bY)(a2:aa aH):bM w9 (F20) 300 (avY) 20 (A20.c (a0,a1,a2,())) [] 0 d20.rd=m20 a0 a1 a2:=by kernel_rfl
def e20:bf->bf:=eZ w9 20 A20 d20 (λg=>m20 g.1 g.2.1 g.t.1)
def abn{F:bf}(h:aQ w9 F):aQ w9 (e20 F):=qF (cH aqN aCq (λ_=>by kernel_rfl) (λ_=>by kernel_rfl) λg=>c20 g.1 g.2.1 g.t.1) ⟨_,func20,by kernel_rfl,by kernel_rfl⟩ (λ_=>by kernel_rfl) h
def XA{F:bf}{f:Nat}(hne:zf f 20=G)(h:bw F f):bw (e20 F) f:=tT hne h
def F93:bf:=de
abbrev E93:=Int
def d93:Td 0 E93:= .c [] [4] (.r 0 0 (ec 4 aM en) sn (λz=>z.1.1) (λx=>((x,()),(()))))
def aBE:∀f∈([]:aa Nat),bw (F93) f:=aF
def m93(a0:Int)(a1:Int):af E93:=
 match bif J (0<a1)then if¬a1=0then V (J (i64.wrap ((1099511627776:Int).tdiv a1)<a0))else S else V G with|S=>S|V r1=>bif r1 then V 1099511627776 else V (i64.wrap (a0*a1))
def e93:=eL w9 93 G (bk (bk ln)) d93 (λg=>m93 g.1 g.2.1)
def aos:EO e93:=λh=>kL (F:=F93) (an:=(noTwo (.two (.two (.rb [] 12) .no) .no))) (l:=[(.skip,(.rb [] 12))]) func93 aP (aA aBE aF) h
structure NB where
 (t10 t13:Int)
 t58:List aH
 (t59 t60:Int)
def abu:Td 0 NB:= .c [] [10,13,58,59,60] (.r 0 0 (ec 10 aM (ec 13 aM (ec 58 (ql 34) (ec 59 aM (ec 60 aM en))))) sn (λz=>⟨z.1.1,z.1.2.1,z.1.t.1,z.1.t.2.1,z.1.q.1⟩) (λx=>((x.t10,x.t13,x.t58,x.t59,x.t60,()),(()))))
def Sj(p:NB):af (af NB):=
 bif J (p.t60<p.t59)then if 0<=p.t60/\p.t60<p.t58.length then match Kh p.t58[p.t60.toNat]! with|S=>S|V r6=>match m93 p.t13 r6 with|S=>S|V r7=>V (V (NB.mk p.t10 r7 p.t58 p.t59 (i64.wrap (p.t60+1))))else S else V (S)
def Sc:=bK (Sj)
structure Br where
 t2:List aH
 (t10 t11 t32 t33:Int)
 b0:bN
def X9:Td 0 Br:= .c [] [2,8,10,11,32,33] (.r 0 1 (ec 2 (ql 34) (ec 8 (qp 0 0) (ec 10 aM (ec 11 aM (ec 32 aM (ec 33 aM en)))))) (sb 0 36 (lg 36) sn) (λz=>⟨z.1.1,z.1.t.1,z.1.t.2.1,z.1.q.1,z.1.q.2.1,z.2.1⟩) (λx=>((x.t2,(),x.t10,x.t11,x.t32,x.t33,()),(x.b0,()))))
def SX(p:Br):af (af Br):=
 bif J (p.t33<p.t32)then match m92 p.b0.aB p.t33 with|S=>S|V r1=>bif r1 then bif J (p.t33<p.b0.aC.length)then if 0<=p.t33/\p.t33<p.b0.aC.length then match Kh p.b0.aC[p.t33.toNat]! with|S=>S|V r2=>match m93 p.t11 r2 with|S=>S|V r3=>V (V (Br.mk p.t2 (if 1099511627776<i64.wrap (p.t10+p.t11)then 1099511627776 else i64.wrap (p.t10+p.t11)) r3 p.t32 (i64.wrap (p.t33+1)) p.b0))else S else V (V (Br.mk p.t2 (if 1099511627776<i64.wrap (p.t10+p.t11)then 1099511627776 else i64.wrap (p.t10+p.t11)) p.t11 p.t32 (i64.wrap (p.t33+1)) p.b0))else bif J (p.t33<p.b0.aC.length)then if 0<=p.t33/\p.t33<p.b0.aC.length then match Kh p.b0.aC[p.t33.toNat]! with|S=>S|V r4=>match m93 p.t11 r4 with|S=>S|V r5=>V (V (Br.mk p.t2 p.t10 r5 p.t32 (i64.wrap (p.t33+1)) p.b0))else S else V (V (Br.mk p.t2 p.t10 p.t11 p.t32 (i64.wrap (p.t33+1)) p.b0))else V (S)
def TG:=bK (SX)
abbrev E25:=Int×Int
def d25:Td 0 E25:= .c [] [6,7] (.r 0 0 (ec 6 aM (ec 7 aM en)) sn (λz=>(z.1.1,z.1.2.1)) (λx=>((x.1,x.2,()),(()))))
def A25:=(lc (qg 26) (lc (qg 29) (lc (ql 34) ln)))
def QT(a0:aN)(a1:bY)(a2:aa aH):af E25:=
 match m20 a0 a1 a2 with|S=>S|V r8=>bif bif J (r8.snd=0)then G else O then V (0,r8.snd)else match Kh r8.fst.aI with|S=>S|V r9=>match TG (Br.mk a2 0 r9 (i64.wrap ((r8.fst.aC.length:Int)+1)) 0 r8.fst)with|S=>S|V r10=>bif J (r10.t33<r10.t32)then match m92 r10.b0.aB r10.t33 with|S=>S|V r11=>bif r11 then bif J (r10.t33<r10.b0.aC.length)then if 0<=r10.t33/\r10.t33<r10.b0.aC.length then match Kh r10.b0.aC[r10.t33.toNat]! with|S=>S|V r12=>match m93 r10.t11 r12 with|S=>S|V r13=>S else S else S else bif J (r10.t33<r10.b0.aC.length)then if 0<=r10.t33/\r10.t33<r10.b0.aC.length then match Kh r10.b0.aC[r10.t33.toNat]! with|S=>S|V r14=>match m93 r10.t11 r14 with|S=>S|V r15=>S else S else S else match Sc (NB.mk r10.t10 1 r10.t2 r10.t2.length 0)with|S=>S|V r16=>bif J (r16.t60<r16.t59)then if 0<=r16.t60/\r16.t60<r16.t58.length then match Kh r16.t58[r16.t60.toNat]! with|S=>S|V r17=>match m93 r16.t13 r17 with|S=>S|V r18=>S else S else V (if r16.t13<r16.t10 then r16.t13 else r16.t10,0)
def e25:=eL w9 25 G A25 d25 (λg=>QT g.1 g.2.1 g.t.1)
def mB:EO e25:=λh=>kL (an:=(noTwo (noTwo (noTwo (noTwo (.two (noTwo (X9.lp TG .no)) (noTwo (.two (noTwo (abu.lp Sc .no)) .no)))))))) (l:=[(bg f25 0,(X9.lp TG .no)),(bg f25 1,(abu.lp Sc .no))]) func25 (aos (Ot (Oc (abn aP)))) (aA (aO X9) (aA (aO abu) aF)) h
def F26:bf:=(e91 (e20 de))
structure Ny where
 t12:Bool
 t41:List aH
 (t42 t43:Int)
 (b0 b1:aD)
def Zj:Td 0 Ny:= .c [] [6,11,12,41,42,43] (.t (cC.c 1 0 [] 3) (.c [] [6,11,12,41,42,43] (.r 0 3 (ec 6 (qp 0 0) (ec 11 (qp 1 0) (ec 12 qb (ec 41 (ql 34) (ec 42 aM (ec 43 aM en)))))) (sb 0 47 (lc qn (bk ln)) (sb 1 47 (lc (qo 2) (bk ln)) (sr 2 3 sn))) (λz=>⟨z.1.t.1,z.1.t.2.1,z.1.q.1,z.1.q.2.1,(aD.mk [] z.2.1.2.1),(aD.mk z.t.2.1 z.t.1.2.1)⟩) (λx=>(((),(),x.t12,x.t41,x.t42,x.t43,()),(((),x.b0.aI,()),((),x.b1.aI,()),x.b1.aW,()))))))
def Tx(p:Ny):af (af Ny):=
 bif J (p.t43<p.t42)then if 0<=p.t43/\p.t43<p.t41.length then match bif p.t12 then match Kh p.t41[p.t43.toNat]! with|S=>S|V r1=>V (J (r1=1))else V G with|S=>S|V r2=>if(p.b1.aW++[p.t41[p.t43.toNat]!.ag]).length<=1073741824 then V (V (Ny.mk r2 p.t41 p.t42 (i64.wrap (p.t43+1)) (aD.mk [] p.b0.aI) (aD.mk (p.b1.aW++[p.t41[p.t43.toNat]!.ag]) p.b1.aI)))else S else S else V (S)
def ak2:An:=(noTwo (noTwo (.two (noTwo (.two (.rb [91] 12) .no)) .no)))
def R3:=bK (Tx)
abbrev E26:=aD×Bool×Int
def d26:Td 0 E26:= .c [] [6,7,8] (.t (cC.c 0 0 [] 3) (.c [] [6,7,8] (.r 0 2 (ec 6 (qp 0 0) (ec 7 qb (ec 8 aM en))) (sb 0 47 (lc (qo 1) (bk ln)) (sr 1 3 sn)) (λz=>((aD.mk z.t.1 z.2.1.2.1),z.1.2.1,z.1.t.1)) (λx=>(((),x.2.1,x.t,()),(((),x.1.aI,()),x.1.aW,()))))))
def A26:=(lc (qg 26) (lc (qg 29) (lc (ql 34) ln)))
def aup:∀f∈([91]:aa Nat),bw (F26) f:=(aA (Ej (XA (f:=91) rfl bS)) aF)
def US(a0:aN)(a1:bY)(a2:aa aH):af E26:=
 match m20 a0 a1 a2 with|S=>S|V r3=>bif bif J (r3.snd=0)then G else O then V ((aD.mk [] (0),G,r3.snd))else match match Kh r3.fst.aB with|S=>S|V r4=>bif J (r4=1)then match Kh r3.fst.aI with|S=>S|V r5=>V (J (r5=1))else V G with|S=>S|V r6=>match R3 (Ny.mk r6 r3.fst.aC r3.fst.aC.length 0 (aD.mk [] (0)) (aD.mk [] r3.fst.aI.ag))with|S=>S|V r7=>bif J (r7.t43<r7.t42)then if 0<=r7.t43/\r7.t43<r7.t41.length then match bif r7.t12 then match Kh r7.t41[r7.t43.toNat]! with|S=>S|V r8=>V (J (r8=1))else V G with|S=>S|V r9=>if(r7.b1.aW++[r7.t41[r7.t43.toNat]!.ag]).length<=1073741824 then S else S else S else bif bif r7.t12 then G else O then V ((aD.mk [] (0),G,0))else V (r7.b1,O,0)
def e26:=eL w9 26 G A26 d26 (λg=>US g.1 g.2.1 g.t.1)
def mD:EO e26:=λh=>kL (F:=F26) (an:=(noTwo (noTwo (noTwo (noTwo (.two (.rb [91] 12) (.two (noTwo (Zj.lp R3 ak2)) .no))))))) (l:=[(.skip,(.rb [91] 12)),(bg f26 0,(Zj.lp R3 ak2)),(.skip,(.rb [91] 12))]) func26 (Oc (abn aP)) (aA aup (aA (aO Zj) (aA aup aF))) h
def F21:bf:=(e84 (e78 (e43 de)))
structure LB where
 t2:List aH
 t95:List aX
 (t96 t97:Int)
def Yt:Td 0 LB:= .c [] [2,95,96,97] (.r 0 1 (ec 2 (ql 34) (ec 95 (qo 0) (ec 96 aM (ec 97 aM en)))) (sr 0 131 sn) (λz=>⟨z.1.1,z.2.1,z.1.t.1,z.1.t.2.1⟩) (λx=>((x.t2,(),x.t96,x.t97,()),(x.t95,()))))
def Lx(p:LB):af (af LB):=
 bif J (p.t97<p.t96)then if 0<=p.t97/\p.t97<p.t95.length then if 131=131/\p.t97.toNat<p.t95.length then match if 0<=p.t97/\p.t97<p.t2.length then match Wr p.t2[p.t97.toNat]! with|S=>S|V r4=>bif bif r4 then G else O then V O else if 0<=p.t97/\p.t97<p.t2.length then match FF p.t2[p.t97.toNat]! with|S=>S|V r5=>V (J (r5=0))else S else S with|S=>S|V r6=>bif r6 then V (S)else if 0<=p.t97/\p.t97<p.t2.length then bif J (p.t2[p.t97.toNat]!.ag<p.t95[p.t97.toNat]!.ag)then V (S)else if 0<=p.t97/\p.t97<p.t2.length then bif J (p.t95[p.t97.toNat]!.ah<p.t2[p.t97.toNat]!.ah)then V (S)else V (V (LB.mk p.t2 p.t95 p.t96 (i64.wrap (p.t97+1))))else S else S else S else S else V (S)
def aj8:An:=(noTwo (noTwo (.two (noTwo (.two (.two (.rb [43,84] 115) .no) .no)) .no)))
def SF:=bK (Lx)
structure Na where
 t2:List aH
 (t9 t64:List aX)
 (t65 t66:Int)
 b0:bY
def ZF:Td 0 Na:= .c [] [2,4,9,64,65,66] (.r 0 3 (ec 2 (ql 34) (ec 4 (qp 0 0) (ec 9 (qo 1) (ec 64 (qo 2) (ec 65 aM (ec 66 aM en)))))) (sb 0 29 (lg 29) (sr 1 131 (sr 2 131 sn))) (λz=>⟨z.1.1,z.t.1,z.t.2.1,z.1.q.1,z.1.q.2.1,z.2.1⟩) (λx=>((x.t2,(),(),(),x.t65,x.t66,()),(x.b0,x.t9,x.t64,()))))
def No(p:Na):af (af Na):=
 bif J (p.t66<p.t65)then if 0<=p.t66/\p.t66<p.t64.length then if 131=131/\p.t66.toNat<p.t64.length then if 0<=p.t66/\p.t66<p.b0.aU.length then bif J (((p.t2,(),(),(),p.t65,p.t66,()),p.b0,p.t9,p.t64,()).snd.fst.aU[((p.t2,(),(),(),p.t65,p.t66,()),p.b0,p.t9,p.t64,()).fst.snd.snd.snd.snd.snd.fst.toNat]! <((p.t2,(),(),(),p.t65,p.t66,()),p.b0,p.t9,p.t64,()).snd.snd.snd.fst[((p.t2,(),(),(),p.t65,p.t66,()),p.b0,p.t9,p.t64,()).fst.snd.snd.snd.snd.snd.fst.toNat]!.ag)then V (S)else if 0<=p.t66/\p.t66<p.b0.aU.length then bif J (((p.t2,(),(),(),p.t65,p.t66,()),p.b0,p.t9,p.t64,()).snd.snd.snd.fst[((p.t2,(),(),(),p.t65,p.t66,()),p.b0,p.t9,p.t64,()).fst.snd.snd.snd.snd.snd.fst.toNat]!.ah<((p.t2,(),(),(),p.t65,p.t66,()),p.b0,p.t9,p.t64,()).snd.fst.aU[((p.t2,(),(),(),p.t65,p.t66,()),p.b0,p.t9,p.t64,()).fst.snd.snd.snd.snd.snd.fst.toNat]!)then V (S)else V (V (Na.mk p.t2 p.t9 p.t64 p.t65 (i64.wrap (p.t66+1)) p.b0))else S else S else S else S else V (S)
def R5:=bK (No)
structure Bo where
 t2:List aH
 (t8 t9:List aX)
 t11:Int
 t23:List Int
 (t24 t25:Int)
 t30:List aX
 (t31 t32:Int)
 b0:aN
 b1:bY
def YZ:Td 0 Bo:= .c [] [2,3,4,8,9,11,23,24,25,30,31,32] (.r 0 5 (ec 2 (ql 34) (ec 3 (qp 0 0) (ec 4 (qp 1 0) (ec 8 (qo 2) (ec 9 (qo 3) (ec 11 aM (ec 23 (qo 4) (ec 24 aM (ec 25 aM (ec 30 (ql 131) (ec 31 aM (ec 32 aM en)))))))))))) (sb 0 26 (lg 26) (sb 1 29 (lg 29) (sr 2 131 (sr 3 131 (sr 4 129 sn))))) (λz=>⟨z.1.1,z.t.2.1,z.q.1,z.1.q.2.1,z.q.2.1,z.1.q.t.2.1,z.1.q.q.1,z.1.q.q.2.1,z.1.q.q.t.1,z.1.q.q.t.2.1,z.2.1,z.t.1⟩) (λx=>((x.t2,(),(),(),(),x.t11,(),x.t24,x.t25,x.t30,x.t31,x.t32,()),(x.b0,x.b1,x.t8,x.t9,x.t23,()))))
def Sb(p:Bo):af (af Bo):=
 bif J (p.t32<p.t31)then if 0<=p.t32/\p.t32<p.t30.length then match bif J (p.t30[p.t32.toNat]!.bz=p.t11)then V (J (p.t11=2))else V G with|S=>S|V r3=>bif r3 then if(p.t8++[p.t30[p.t32.toNat]!]).length<=1073741824 then V (V (Bo.mk p.t2 (p.t8++[p.t30[p.t32.toNat]!]) p.t9 p.t11 p.t23 p.t24 p.t25 p.t30 p.t31 (i64.wrap (p.t32+1)) p.b0 p.b1))else S else bif J (p.t30[p.t32.toNat]!.bz=p.t11)then if(p.t9++[p.t30[p.t32.toNat]!]).length<=1073741824 then V (V (Bo.mk p.t2 p.t8 (p.t9++[p.t30[p.t32.toNat]!]) p.t11 p.t23 p.t24 p.t25 p.t30 p.t31 (i64.wrap (p.t32+1)) p.b0 p.b1))else S else V (V (Bo.mk p.t2 p.t8 p.t9 p.t11 p.t23 p.t24 p.t25 p.t30 p.t31 (i64.wrap (p.t32+1)) p.b0 p.b1))else S else V (S)
def ajU:An:=(noTwo (noTwo (.two (noTwo (.two (.rb [43,84] 43) .no)) .no)))
def LL:=bK (Sb)
structure KG where
 t2:List aH
 (t8 t9:List aX)
 t23:List Int
 (t24 t25:Int)
 b0:aN
 b1:bY
def aaJ:Td 0 KG:= .c [] [2,3,4,8,9,23,24,25] (.t (cC.s 8 [] 131) (.t (cC.s 9 [] 131) (.c [] [2,3,4,8,9,23,24,25] (.r 0 5 (ec 2 (ql 34) (ec 3 (qp 0 0) (ec 4 (qp 1 0) (ec 8 (qo 2) (ec 9 (qo 3) (ec 23 (qo 4) (ec 24 aM (ec 25 aM en)))))))) (sb 0 26 (lg 26) (sb 1 29 (lg 29) (sr 2 131 (sr 3 131 (sr 4 129 sn))))) (λz=>⟨z.1.1,z.t.2.1,z.q.1,z.q.2.1,z.1.q.t.1,z.1.q.t.2.1,z.2.1,z.t.1⟩) (λx=>((x.t2,(),(),(),(),(),x.t24,x.t25,()),(x.b0,x.b1,x.t8,x.t9,x.t23,())))))))
def KO(p:KG):af (af KG):=
 bif J (p.t25<p.t24)then if 0<=p.t25/\p.t25<p.t23.length then if 129=129/\p.t25.toNat<p.t23.length then match LL (Bo.mk p.t2 p.t8 p.t9 p.t23[p.t25.toNat]! p.t23 p.t24 p.t25 p.b0.aj p.b0.aj.length 0 p.b0 p.b1)with|S=>S|V r1=>bif J (r1.t32<r1.t31)then if 0<=r1.t32/\r1.t32<r1.t30.length then match bif J (r1.t30[r1.t32.toNat]!.bz=r1.t11)then V (J (r1.t11=2))else V G with|S=>S|V r2=>bif r2 then if(r1.t8++[r1.t30[r1.t32.toNat]!]).length<=1073741824 then S else S else bif J (r1.t30[r1.t32.toNat]!.bz=r1.t11)then if(r1.t9++[r1.t30[r1.t32.toNat]!]).length<=1073741824 then S else S else S else S else V (V (KG.mk r1.t2 r1.t8 r1.t9 r1.t23 r1.t24 (i64.wrap (r1.t25+1)) r1.b0 r1.b1))else S else S else V (S)
def alI:An:=(noTwo (noTwo (.two (noTwo (noTwo (YZ.lp LL ajU))) .no)))
def LZ:=bK (KO)
abbrev E21:=Int
def d21:Td 0 E21:= .c [] [6] (.r 0 0 (ec 6 aM en) sn (λz=>z.1.1) (λx=>((x,()),(()))))
def avD:∀f∈([43,84]:aa Nat),bw (F21) f:=(aA (uI (uJ (K8 bS))) (aA (uI (uJ (K8 bS))) aF))
def m21(a0:aN)(a1:bY)(a2:aa aH):af E21:=
 match m78 a0 with|S=>S|V r7=>bif bif J (r7=0)then G else O then V (r7)else match LZ (KG.mk a2 [] [] [1,3,2] (3:Int) 0 a0 a1)with|S=>S|V r8=>bif J (r8.t25<r8.t24)then if 0<=r8.t25/\r8.t25<r8.t23.length then if 129=129/\r8.t25.toNat<r8.t23.length then match LL (Bo.mk r8.t2 r8.t8 r8.t9 r8.t23[r8.t25.toNat]! r8.t23 r8.t24 r8.t25 r8.b0.aj r8.b0.aj.length 0 r8.b0 r8.b1)with|S=>S|V r9=>bif J (r9.t32<r9.t31)then if 0<=r9.t32/\r9.t32<r9.t30.length then match bif J (r9.t30[r9.t32.toNat]!.bz=r9.t11)then V (J (r9.t11=2))else V G with|S=>S|V r10=>bif r10 then if(r9.t8++[r9.t30[r9.t32.toNat]!]).length<=1073741824 then S else S else bif J (r9.t30[r9.t32.toNat]!.bz=r9.t11)then if(r9.t9++[r9.t30[r9.t32.toNat]!]).length<=1073741824 then S else S else S else S else S else S else S else bif bif J ((r8.b1.aU.length:Int)=(r8.t8.length:Int))then G else O then V 1 else match R5 (Na.mk r8.t2 r8.t9 r8.t8 r8.t8.length 0 r8.b1)with|S=>S|V r11=>bif J (r11.t66<r11.t65)then if 0<=r11.t66/\r11.t66<r11.t64.length then if 131=131/\r11.t66.toNat<r11.t64.length then if 0<=r11.t66/\r11.t66<r11.b0.aU.length then bif J (((r11.t2,(),(),(),r11.t65,r11.t66,()),r11.b0,r11.t9,r11.t64,()).snd.fst.aU[((r11.t2,(),(),(),r11.t65,r11.t66,()),r11.b0,r11.t9,r11.t64,()).fst.snd.snd.snd.snd.snd.fst.toNat]! <((r11.t2,(),(),(),r11.t65,r11.t66,()),r11.b0,r11.t9,r11.t64,()).snd.snd.snd.fst[((r11.t2,(),(),(),r11.t65,r11.t66,()),r11.b0,r11.t9,r11.t64,()).fst.snd.snd.snd.snd.snd.fst.toNat]!.ag)then V 3 else if 0<=r11.t66/\r11.t66<r11.b0.aU.length then bif J (((r11.t2,(),(),(),r11.t65,r11.t66,()),r11.b0,r11.t9,r11.t64,()).snd.snd.snd.fst[((r11.t2,(),(),(),r11.t65,r11.t66,()),r11.b0,r11.t9,r11.t64,()).fst.snd.snd.snd.snd.snd.fst.toNat]!.ah<((r11.t2,(),(),(),r11.t65,r11.t66,()),r11.b0,r11.t9,r11.t64,()).snd.fst.aU[((r11.t2,(),(),(),r11.t65,r11.t66,()),r11.b0,r11.t9,r11.t64,()).fst.snd.snd.snd.snd.snd.fst.toNat]!)then V 3 else S else S else S else S else S else bif bif J ((r11.t2.length:Int)=(r11.t9.length:Int))then G else O then V 2 else match SF (LB.mk r11.t2 r11.t9 r11.t9.length 0)with|S=>S|V r12=>bif J (r12.t97<r12.t96)then if 0<=r12.t97/\r12.t97<r12.t95.length then if 131=131/\r12.t97.toNat<r12.t95.length then match if 0<=r12.t97/\r12.t97<r12.t2.length then match Wr r12.t2[r12.t97.toNat]! with|S=>S|V r13=>bif bif r13 then G else O then V O else if 0<=r12.t97/\r12.t97<r12.t2.length then match FF r12.t2[r12.t97.toNat]! with|S=>S|V r14=>V (J (r14=0))else S else S with|S=>S|V r15=>bif r15 then V 1 else if 0<=r12.t97/\r12.t97<r12.t2.length then bif J (r12.t2[r12.t97.toNat]!.ag<r12.t95[r12.t97.toNat]!.ag)then V 3 else if 0<=r12.t97/\r12.t97<r12.t2.length then bif J (r12.t95[r12.t97.toNat]!.ah<r12.t2[r12.t97.toNat]!.ah)then V 3 else S else S else S else S else S else V 0
def e21:=eL w9 21 G (lc (qg 26) (lc (qg 29) (lc (ql 34) ln))) d21 (λg=>m21 g.1 g.2.1 g.t.1)
def aoN:EO e21:=λh=>kL (F:=F21) (an:=(noTwo (noTwo (noTwo (.two (noTwo (aaJ.lp LZ alI)) (noTwo (.two (noTwo (ZF.lp R5 .no)) (noTwo (.two (noTwo (Yt.lp SF aj8)) .no))))))))) (l:=[(bg f21 0,(aaJ.lp LZ alI)),(bg f21 1,(YZ.lp LL ajU)),(.skip,(.rb [43,84] 43)),(bg f21 2,(ZF.lp R5 .no)),(bg f21 3,(Yt.lp SF aj8)),(.skip,(.rb [43,84] 115))]) func21 (aa8 (aaa (aoX aP))) (aA (aO aaJ) (aA (aO YZ) (aA avD (aA (aO ZF) (aA (aO Yt) (aA avD aF)))))) h
structure Dz where
 t2:List aH
 (t11 t12 t13:Int)
 t33:List aX
 (t34 t35:Int)
 b0:bY
 (b1 b2:aK)
def av6(p:Dz):af (af Dz):=
 bif J (p.t35<p.t34)then if 0<=p.t35/\p.t35<p.t33.length then bif J (p.t33[p.t35.toNat]!.bz=1)then if 0<=p.t11/\p.t11<p.t2.length then if(p.b2.aj++[p.t2[p.t11.toNat]!]).length<=1073741824 then V (V (Dz.mk p.t2 (i64.wrap (p.t11+1)) p.t12 p.t13 p.t33 p.t34 (i64.wrap (p.t35+1)) p.b0 (aK.mk [] p.b1.aB [] p.b1.aI) (aK.mk (p.b2.aj++[p.t2[p.t11.toNat]!]) p.b2.aB [] p.b2.aI)))else S else S else bif J (p.t33[p.t35.toNat]!.bz=3)then if 0<=p.t12/\p.t12<p.t2.length then if(p.b2.aj++[p.t2[p.t12.toNat]!]).length<=1073741824 then V (V (Dz.mk p.t2 p.t11 (i64.wrap (p.t12+1)) p.t13 p.t33 p.t34 (i64.wrap (p.t35+1)) p.b0 (aK.mk [] p.b1.aB [] p.b1.aI) (aK.mk (p.b2.aj++[p.t2[p.t12.toNat]!]) p.b2.aB [] p.b2.aI)))else S else S else bif J (p.t33[p.t35.toNat]!.bz=2)then if 0<=p.t13/\p.t13<p.b0.aU.length then if(p.b2.aj++[m36 p.b0.aU[p.t13.toNat]!]).length<=1073741824 then V (V (Dz.mk p.t2 p.t11 p.t12 (i64.wrap (p.t13+1)) p.t33 p.t34 (i64.wrap (p.t35+1)) p.b0 (aK.mk [] p.b1.aB [] p.b1.aI) (aK.mk (p.b2.aj++[m36 p.b0.aU[p.t13.toNat]!]) p.b2.aB [] p.b2.aI)))else S else S else if(p.b2.aj++[m36 p.t33[p.t35.toNat]!.eE]).length<=1073741824 then V (V (Dz.mk p.t2 p.t11 p.t12 p.t13 p.t33 p.t34 (i64.wrap (p.t35+1)) p.b0 (aK.mk [] p.b1.aB [] p.b1.aI) (aK.mk (p.b2.aj++[m36 p.t33[p.t35.toNat]!.eE]) p.b2.aB [] p.b2.aI)))else S else S else V (S)
def ayo:=bK (av6)
structure Mi where
 t2:List aH
 t8:Int
 t19:List aX
 (t20 t21:Int)
 b0:aN
 b1:bY
 (b2 b3:aK)
def as5(p:Mi):af (af Mi):=
 bif J (p.t21<p.t20)then if 0<=p.t21/\p.t21<p.t19.length then bif J (p.t19[p.t21.toNat]!.bz=1)then V (V (Mi.mk p.t2 (i64.wrap (p.t8+1)) p.t19 p.t20 (i64.wrap (p.t21+1)) p.b0 p.b1 (aK.mk [] p.b2.aB [] p.b2.aI) (aK.mk [] p.b3.aB [] p.b3.aI)))else V (V (Mi.mk p.t2 p.t8 p.t19 p.t20 (i64.wrap (p.t21+1)) p.b0 p.b1 (aK.mk [] p.b2.aB [] p.b2.aI) (aK.mk [] p.b3.aB [] p.b3.aI)))else S else V (S)
def ayP:=bK (as5)
abbrev E85:=aK
def m85(a0:aN)(a1:bY)(a2:aa aH):af E85:=
 match ayP (Mi.mk a2 0 a0.aj a0.aj.length 0 a0 a1 (aK.mk [] (aH.mk 0 0 0) [] (aH.mk 0 0 0)) (aK.mk [] (aH.mk 0 0 0) [] (aH.mk 0 0 0)))with|S=>S|V r1=>bif J (r1.t21<r1.t20)then if 0<=r1.t21/\r1.t21<r1.t19.length then bif J (r1.t19[r1.t21.toNat]!.bz=1)then S else S else S else match ayo (Dz.mk r1.t2 0 r1.t8 0 r1.b0.aj r1.b0.aj.length 0 r1.b1 (aK.mk [] r1.b2.aB [] r1.b2.aI) (aK.mk [] r1.b3.aB [] r1.b3.aI))with|S=>S|V r2=>bif J (r2.t35<r2.t34)then if 0<=r2.t35/\r2.t35<r2.t33.length then bif J (r2.t33[r2.t35.toNat]!.bz=1)then if 0<=r2.t11/\r2.t11<r2.t2.length then if(r2.b2.aj++[r2.t2[r2.t11.toNat]!]).length<=1073741824 then S else S else S else bif J (r2.t33[r2.t35.toNat]!.bz=3)then if 0<=r2.t12/\r2.t12<r2.t2.length then if(r2.b2.aj++[r2.t2[r2.t12.toNat]!]).length<=1073741824 then S else S else S else bif J (r2.t33[r2.t35.toNat]!.bz=2)then if 0<=r2.t13/\r2.t13<r2.b0.aU.length then if(r2.b2.aj++[m36 r2.b0.aU[r2.t13.toNat]!]).length<=1073741824 then S else S else S else if(r2.b2.aj++[m36 r2.t33[r2.t35.toNat]!.eE]).length<=1073741824 then S else S else S else V (aK.mk r2.b2.aj r2.b2.aB [] r2.b2.aI)
structure RJ where
 t8:List aH
 t18:List dx
 (t19 t20:Int)
 b0:aN
 b1:bY
 b2:bN
 b3:aK
def ayK(p:RJ):af (af RJ):=
 bif J (p.t20<p.t19)then if 0<=p.t20/\p.t20<p.t18.length then match r87 (aK.mk p.b3.aj p.b3.aB [] p.b3.aI) (au.mk p.t18[p.t20.toNat]!.az.bC p.t18[p.t20.toNat]!.az.fN p.t18[p.t20.toNat]!.az.aq)with|S=>S|V r1=>match m86 r1 p.t18[p.t20.toNat]!.ag p.t18[p.t20.toNat]!.ah with|S=>S|V r2=>if(p.t8++[r2.fst]).length<=1073741824 then V (V (RJ.mk (p.t8++[r2.fst]) p.t18 p.t19 (i64.wrap (p.t20+1)) p.b0 p.b1 (bN.mk p.b2.aB [] p.b2.aI []) (aK.mk p.b3.aj p.b3.aB [] p.b3.aI)))else S else S else V (S)
def aw4:=bK (ayK)
abbrev E23:=bN
def m23(a0:aN)(a1:bY)(a2:aa aH):af E23:=
 match m85 a0 a1 a2 with|S=>S|V r3=>match aw4 (RJ.mk [] a0.ak a0.ak.length 0 a0 a1 (bN.mk (aH.mk 0 0 0) [] (aH.mk 0 0 0) []) (aK.mk r3.aj r3.aB [] r3.aI))with|S=>S|V r4=>bif J (r4.t20<r4.t19)then if 0<=r4.t20/\r4.t20<r4.t18.length then match r87 (aK.mk r4.b3.aj r4.b3.aB [] r4.b3.aI) (au.mk r4.t18[r4.t20.toNat]!.az.bC r4.t18[r4.t20.toNat]!.az.fN r4.t18[r4.t20.toNat]!.az.aq)with|S=>S|V r5=>match m86 r5 r4.t18[r4.t20.toNat]!.ag r4.t18[r4.t20.toNat]!.ah with|S=>S|V r6=>if(r4.t8++[r6.fst]).length<=1073741824 then S else S else S else match r88 r4.b0 r4.t8 r4.b0.bH (aK.mk r4.b3.aj r4.b3.aB [] r4.b3.aI)with|S=>S|V r7=>bif bif r4.b1.eM then G else O then V (bN.mk r7.aB r7.aC (m36 0) r7.aj)else V (bN.mk r7.aB r7.aC r7.aI r7.aj)
structure aFM where
 t10:Bool
 t32:List aH
 (t33 t34:Int)
 (b0 b1:aD)
structure aCX where
 t3:Int
 t6:List aH
 (t7 t8:Int)
structure aFx where
 (t8 t9 t10 t11:Int)
 b0:bN
def We(a:aH):Int:=open Classical in if NV a then ct a else 0
def TB(a:aH):Kh a=V (We a):=by
 unfold We;by_cases h:NV a
 ·rw[bG h,qa h]
 ·rw[bP h,ajF h]
def Tc(a:aH):FF a=V (We a):=by
 unfold We;by_cases h:NV a
 ·rw[bG h,gj h]
 ·rw[bP h,abV h]
def jg(pub:aa Int)(i:Nat)(x:aX):Int:=bif J (pub[i]! <x.ag)then 3 else bif J (x.ah<pub[i]!)then 3 else 0
def nw(box:aa aH)(i:Nat)(x:aX):Int:=bif bif Vs box[i]! then G else O then 1 else bif J (@Eq Int (We box[i]!) 0)then 1 else bif J (box[i]!.ag<x.ag)then 3 else bif J (x.ah<box[i]!.ah)then 3 else 0
def dZ(vars:aa aX):aa aX:=vars.filter (kd 1)++vars.filter (kd 3)
def uc(f:aN)(v:bY)(box:aa aH):Int:=
 if oD f≠0 then oD f else if v.aU.length≠(f.aj.filter (kd 2)).length then 1 else if cq (jg v.aU) (f.aj.filter (kd 2)) 0≠0 then cq (jg v.aU) (f.aj.filter (kd 2)) 0
 else if box.length≠(dZ f.aj).length then 2 else cq (nw box) (dZ f.aj) 0
def vv{vars:aa aX}{i:Nat}(h:i<vars.length)(k:Int):(vars.take (i+1)).filter (kd k)=(vars.take i).filter (kd k)++(if vars[i]!.bz=k then[vars[i]!]else[]):=by
 rw[bI h,y6];by_cases hk:vars[i]!.bz=k
 ·rw[bG hk];simp only[yS,xZ,kd,hk,cR,cF]
 ·rw[bP hk];simp only[yS,xZ,kd,hk,eR,yu,gA]
def DW{vars:aa aX}(k:Int)(i:Nat):((vars.take i).filter (kd k)).length<=i:=qW vars k i
def aar(f:aN)(hl:f.aj.length<=1000000)(v:bY)(box:aa aH):Ut ⟨box,[],f.aj,(f.aj.length:Int),0,f,v⟩=V ⟨box,f.aj.filter (kd 2),f.aj,(f.aj.length:Int),(f.aj.length:Int),f,v⟩:=by
 obtain⟨b,e1,hI⟩:=cZ (rnd:=Sm) f.aj.length (λi (b:aa aX)=>⟨box,b,f.aj,(f.aj.length:Int),(i:Int),f,v⟩) (λi b=>b=(f.aj.take i).filter (kd 2)) (λi b hi hb=>by
  have hw:=fG hi hl;have i1:(i:Int)<(f.aj.length:Int):=by omega
  have i2:(0:Int)<=(i:Int):=by omega
  have hlen:b.length<=i:=by rw[hb];exact DW 2 i
  have hl2:∀x:aX,(b++[x]).length<=1073741824:=λx=>by simp;omega
  refine⟨_,?_,rfl⟩;rw[vv hi,<-hb];unfold Sm;by_cases hk:f.aj[i]!.bz=2
  ·simp only[ze,i1,i2,hk,hl2,hw,cR,bD,dA,cF]
  ·simp only[ze,i1,i2,hk,hw,cR,eR,bD,bA,dA,cF,gA,yC]) (λb _=>by unfold Sm;simp) (b:=[]) (by simp)
 rw[zD]at hI;rw[<-hI];exact e1
def MK(f:aN)(hl:f.aj.length<=1000000)(v:bY)(box:aa aH)(t8 acc:aa aX)(ha:acc.length<=1000000)(k:Int)(ks:aa Int)(n j:Int):
  Gi ⟨box,t8,acc,k,ks,n,j,f.aj,(f.aj.length:Int),0,f,v⟩=V ⟨box,t8,acc++f.aj.filter (kd k),k,ks,n,j,f.aj,(f.aj.length:Int),(f.aj.length:Int),f,v⟩:=by
 obtain⟨b,e1,hI⟩:=cZ (rnd:=RX) f.aj.length (λi (b:aa aX)=>⟨box,t8,acc++b,k,ks,n,j,f.aj,(f.aj.length:Int),(i:Int),f,v⟩) (λi b=>b=(f.aj.take i).filter (kd k)) (λi b hi hb=>by
  have hw:=fG hi hl;have i1:(i:Int)<(f.aj.length:Int):=by omega
  have i2:(0:Int)<=(i:Int):=by omega
  have hlen:b.length<=i:=by rw[hb];exact DW k i
  have hl2:∀x:aX,(acc++(b++[x])).length<=1073741824:=λx=>by simp;omega
  refine⟨_,?_,rfl⟩;rw[vv hi,<-hb];unfold RX;by_cases hk:f.aj[i]!.bz=k
  ·simp only[ze,i1,i2,hk,hl2,hw,cR,bD,dA,cF,yQ]
  ·simp only[ze,i1,i2,hk,hw,cR,eR,bD,bA,dA,cF,gA,yC]) (λb _=>by unfold RX;simp) (b:=[]) (by simp)
 rw[zD]at hI;have e1':Gi ⟨box,t8,acc,k,ks,n,j,f.aj,(f.aj.length:Int),0,f,v⟩=V ⟨box,t8,acc++b,k,ks,n,j,f.aj,(f.aj.length:Int),(f.aj.length:Int),f,v⟩:=by
  have:=e1;rw[yC]at this;exact this
 rw[<-hI];exact e1'
def W4(f:aN)(hl:f.aj.length<=1000)(v:bY)(box:aa aH)(t8:aa aX):
  Mj ⟨box,t8,[],[1,3],2,0,f,v⟩=V ⟨box,t8,dZ f.aj,[1,3],2,2,f,v⟩:=by
 have h1:(f.aj.filter (kd 1)).length<=1000:=zK (yp _ _) hl;have e1:=MK f (by omega) v box t8 [] (by simp) 1 [1,3] 2 0;have e2:=MK f (by omega) v box t8 (f.aj.filter (kd 1)) (by omega) 3 [1,3] 2 1;rw[yw]at e1;have w1:i64.wrap ((0:Int)+1)=1:=by decide
 have w2:i64.wrap ((1:Int)+1)=2:=by decide
 unfold Mj dZ;rw[bQ (p':=⟨box,t8,f.aj.filter (kd 1),[1,3],2,1,f,v⟩)]
 ·rw[bQ (p':=⟨box,t8,f.aj.filter (kd 1)++f.aj.filter (kd 3),[1,3],2,2,f,v⟩)]
  ·exact cu (λr=>by unfold Rn;simp)
  ·unfold Rn;dsimp only;rw[bW (by decide),bD,bG (by decide),bG (by decide)];rw[show ([1,3]:aa Int)[zC 1]! =3 from rfl,e2];dsimp only;rw[gd,bA,w2]
 ·unfold Rn;dsimp only;rw[bW (by decide),bD,bG (by decide),bG (by decide)];rw[show ([1,3]:aa Int)[zC 0]! =1 from rfl,e1];dsimp only;rw[gd,bA,w1]
def aif(L:aa aX)(hl:L.length<=1000000)(v:bY)(hv:v.aU.length=L.length)(box:aa aH)(t9:aa aX):
  ∃i,Uv ⟨box,t9,L,(L.length:Int),0,v⟩=V ⟨box,t9,L,(L.length:Int),(i:Nat),v⟩/\((i=L.length/\cq (jg v.aU) L 0=0)\/(i<L.length/\jg v.aU i L[i]!≠0/\cq (jg v.aU) L 0=jg v.aU i L[i]!)):=
 rX (rnd:=LY) L (λi=>⟨box,t9,L,(L.length:Int),(i:Nat),v⟩) (jg v.aU) (λi hi=>by
  have hw:=fG hi hl;have i1:(i:Int)<(L.length:Int):=by omega
  have i2:(0:Int)<=(i:Int):=by omega
  have i3:(i:Int)<(v.aU.length:Int):=by omega
  have key:LY ⟨box,t9,L,(L.length:Int),(i:Nat),v⟩=if jg v.aU i L[i]! =0 then V (V ⟨box,t9,L,(L.length:Int),((i+1:Nat):Int),v⟩)else V S:=by
   unfold LY jg;simp only[ze,i1,i2,i3,hi,hw,cR,bD,dA,cF];cases J (v.aU[i]! <L[i]!.ag)<;>cases J (L[i]!.ah<v.aU[i]!)<;>simp
  exact⟨λh=>by rw[key,bG h],λh=>by rw[key,bP h]⟩) (by unfold LY;simp)
def ahW(L:aa aX)(hl:L.length<=1000000)(box:aa aH)(hv:box.length=L.length):
  ∃i,SH ⟨box,L,(L.length:Int),0⟩=V ⟨box,L,(L.length:Int),(i:Nat)⟩/\((i=L.length/\cq (nw box) L 0=0)\/(i<L.length/\nw box i L[i]!≠0/\cq (nw box) L 0=nw box i L[i]!)):=
 rX (rnd:=L4) L (λi=>⟨box,L,(L.length:Int),(i:Nat)⟩) (nw box) (λi hi=>by
  have hw:=fG hi hl;have i1:(i:Int)<(L.length:Int):=by omega
  have i2:(0:Int)<=(i:Int):=by omega
  have i3:(i:Int)<(box.length:Int):=by omega
  have key:L4 ⟨box,L,(L.length:Int),(i:Nat)⟩=if nw box i L[i]! =0 then V (V ⟨box,L,(L.length:Int),((i+1:Nat):Int)⟩)else V S:=by
   unfold L4 nw;simp only[ze,i1,i2,i3,hi,hw,cR,bD,dA,cF,eH,TB];cases Vs box[i]! <;>cases J (@Eq Int (We box[i]!) 0)<;>cases J (box[i]!.ag<L[i]!.ag)<;>cases J (L[i]!.ah<box[i]!.ah)<;>simp
  exact⟨λh=>by rw[key,bG h],λh=>by rw[key,bP h]⟩) (by unfold L4;simp)
def azC{f:aN}(h:fI f.bH+jr (f.ak.map (·.az))<=900)(hh:f.ak.length<=1000)(hl:f.aj.length<=1000)(v:bY)(box:aa aH):m79 f v box=V (uc f v box):=by
 have l2:(f.aj.filter (kd 2)).length<=1000:=zK (yp _ _) hl;have l3:(dZ f.aj).length<=2000:=by
  have a1:(f.aj.filter (kd 1)).length<=1000:=zK (yp _ _) hl;have a3:(f.aj.filter (kd 3)).length<=1000:=zK (yp _ _) hl;unfold dZ;rw[zl];omega
 unfold m79 uc;rw[TC f h (by omega) (by omega)];dsimp only;by_cases hc:oD f=0
 case neg=>rw[bX hc,bG hc];rfl
 rw[bW hc,bP (by simpa using hc)];simp only[bD,bA];rw[aar f (by omega)];dsimp only;rw[gd,bA];rw[W4 f hl];dsimp only;rw[gd,bA];by_cases hp:v.aU.length=(f.aj.filter (kd 2)).length
 case neg=>rw[gd,bG hp];rfl
 rw[nj,bP (by simpa using hp)];simp only[bD,bA];obtain⟨i,e3,k3⟩:=aif (f.aj.filter (kd 2)) (by omega) v hp box (dZ f.aj);rw[e3];dsimp only;rcases k3 with ⟨rfl,k3⟩|⟨i1,i2,i3⟩
 case inr=>
  rw[bG (show cq (jg v.aU) (f.aj.filter (kd 2)) 0≠0 by rw[i3];exact i2),i3];have j1:(i:Int)<((f.aj.filter (kd 2)).length:Int):=by omega
  have j2:(0:Int)<=(i:Int):=by omega
  have j3:(i:Int)<(v.aU.length:Int):=by omega
  simp only[ze,j1,j2,j3,i1,cR,bD,dA,cF];revert i2;unfold jg;cases J (v.aU[i]! <(f.aj.filter (kd 2))[i]!.ag)<;>cases J ((f.aj.filter (kd 2))[i]!.ah<v.aU[i]!)<;>simp
 rw[gd,bA,bP (show ¬cq (jg v.aU) (f.aj.filter (kd 2)) 0≠0 by rw[k3];simp)];by_cases hb:box.length=(dZ f.aj).length
 case neg=>rw[gd,bG hb];rfl
 rw[nj,bP (by simpa using hb)];simp only[bD,bA];obtain⟨i,e4,k4⟩:=ahW (dZ f.aj) (by omega) box hb;rw[e4];dsimp only;rcases k4 with ⟨rfl,k4⟩|⟨i1,i2,i3⟩
 ·rw[gd,bA,k4]
 ·rw[i3];have j1:(i:Int)<((dZ f.aj).length:Int):=by omega
  have j2:(0:Int)<=(i:Int):=by omega
  have j3:(i:Int)<(box.length:Int):=by omega
  simp only[ze,j1,j2,j3,i1,cR,bD,dA,cF,eH,TB];revert i2;unfold nw;cases Vs box[i]! <;>cases J (@Eq Int (We box[i]!) 0)<;>cases J (box[i]!.ag<(dZ f.aj)[i]!.ag)<;>cases J ((dZ f.aj)[i]!.ah<box[i]!.ah)<;>simp
def ED(f:aN)(hl:f.aj.length<=1000000)(v:bY)(box:aa aH)(t8 t9:aa aX)(h8:t8.length<=1000000)(h9:t9.length<=1000000)(k:Int)(ks:aa Int)(n j:Int):
  LL ⟨box,t8,t9,k,ks,n,j,f.aj,(f.aj.length:Int),0,f,v⟩=V ⟨box,if k=2 then t8++f.aj.filter (kd k)else t8,if k=2 then t9 else t9++f.aj.filter (kd k),k,ks,n,j,f.aj,(f.aj.length:Int),(f.aj.length:Int),f,v⟩:=by
 obtain⟨b,e1,hI⟩:=cZ (rnd:=Sb) f.aj.length (λi (b:aa aX)=>⟨box,if k=2 then t8++b else t8,if k=2 then t9 else t9++b,k,ks,n,j,f.aj,(f.aj.length:Int),(i:Int),f,v⟩) (λi b=>b=(f.aj.take i).filter (kd k)) (λi b hi hb=>by
  have hw:=fG hi hl;have i1:(i:Int)<(f.aj.length:Int):=by omega
  have i2:(0:Int)<=(i:Int):=by omega
  have hlen:b.length<=i:=by rw[hb];exact DW k i
  have hl2:∀x:aX,(t8++(b++[x])).length<=1073741824:=λx=>by simp;omega
  have hl3:∀x:aX,(t9++(b++[x])).length<=1073741824:=λx=>by simp;omega
  refine⟨_,?_,rfl⟩;rw[vv hi,<-hb];unfold Sb;by_cases hk:f.aj[i]!.bz=k
  ·by_cases h2:k=2
   ·simp only[ze,i1,i2,hk,h2,hl2,hw,cR,bD,dA,cF,yQ]
   ·simp only[ze,i1,i2,hk,h2,hl3,hw,cR,eR,bD,bA,dA,cF,gA,yQ]
  ·simp only[ze,i1,i2,hk,hw,cR,eR,bD,bA,dA,cF,gA,yC]) (λb _=>by unfold Sb;simp) (b:=[]) (by simp)
 rw[zD]at hI;rw[<-hI];have e1':=e1;rw[yC,yC,ite_self,ite_self]at e1';exact e1'
def aaQ(f:aN)(hl:f.aj.length<=1000)(v:bY)(box:aa aH):
  LZ ⟨box,[],[],[1,3,2],3,0,f,v⟩=V ⟨box,f.aj.filter (kd 2),dZ f.aj,[1,3,2],3,3,f,v⟩:=by
 have h1:(f.aj.filter (kd 1)).length<=1000:=zK (yp _ _) hl;have h3:(f.aj.filter (kd 3)).length<=1000:=zK (yp _ _) hl;have e1:=ED f (by omega) v box [] [] (by simp) (by simp) 1 [1,3,2] 3 0;have e2:=ED f (by omega) v box [] (f.aj.filter (kd 1)) (by simp) (by omega) 3 [1,3,2] 3 1;have e3:=ED f (by omega) v box [] (dZ f.aj) (by simp) (by unfold dZ;rw[zl];omega) 2 [1,3,2] 3 2;simp only[yw,Int.reduceEq,gA,cF]at e1 e2 e3;have w1:i64.wrap ((0:Int)+1)=1:=by decide
 have w2:i64.wrap ((1:Int)+1)=2:=by decide
 have w3:i64.wrap ((2:Int)+1)=3:=by decide
 unfold LZ;rw[bQ (p':=⟨box,[],f.aj.filter (kd 1),[1,3,2],3,1,f,v⟩)]
 ·rw[bQ (p':=⟨box,[],dZ f.aj,[1,3,2],3,2,f,v⟩)]
  ·rw[bQ (p':=⟨box,f.aj.filter (kd 2),dZ f.aj,[1,3,2],3,3,f,v⟩)]
   ·exact cu (λr=>by unfold KO;simp)
   ·unfold KO;dsimp only;rw[bW (by decide),bD,bG (by decide),bG (by decide)];rw[show ([1,3,2]:aa Int)[zC 2]! =2 from rfl,e3];dsimp only;rw[gd,bA,w3]
  ·unfold KO;dsimp only;rw[bW (by decide),bD,bG (by decide),bG (by decide)];rw[show ([1,3,2]:aa Int)[zC 1]! =3 from rfl,e2];dsimp only;rw[gd,bA,w2];rfl
 ·unfold KO;dsimp only;rw[bW (by decide),bD,bG (by decide),bG (by decide)];rw[show ([1,3,2]:aa Int)[zC 0]! =1 from rfl,e1];dsimp only;rw[gd,bA,w1]
def ahV(L:aa aX)(hl:L.length<=1000000)(v:bY)(hv:v.aU.length=L.length)(box:aa aH)(t9:aa aX):
  ∃i,R5 ⟨box,t9,L,(L.length:Int),0,v⟩=V ⟨box,t9,L,(L.length:Int),(i:Nat),v⟩/\((i=L.length/\cq (jg v.aU) L 0=0)\/(i<L.length/\jg v.aU i L[i]!≠0/\cq (jg v.aU) L 0=jg v.aU i L[i]!)):=
 rX (rnd:=No) L (λi=>⟨box,t9,L,(L.length:Int),(i:Nat),v⟩) (jg v.aU) (λi hi=>by
  have hw:=fG hi hl;have i1:(i:Int)<(L.length:Int):=by omega
  have i2:(0:Int)<=(i:Int):=by omega
  have i3:(i:Int)<(v.aU.length:Int):=by omega
  have key:No ⟨box,t9,L,(L.length:Int),(i:Nat),v⟩=if jg v.aU i L[i]! =0 then V (V ⟨box,t9,L,(L.length:Int),((i+1:Nat):Int),v⟩)else V S:=by
   unfold No jg;simp only[ze,i1,i2,i3,hi,hw,cR,bD,dA,cF];cases J (v.aU[i]! <L[i]!.ag)<;>cases J (L[i]!.ah<v.aU[i]!)<;>simp
  exact⟨λh=>by rw[key,bG h],λh=>by rw[key,bP h]⟩) (by unfold No;simp)
def acv(L:aa aX)(hl:L.length<=1000000)(box:aa aH)(hv:box.length=L.length):
  ∃i,SF ⟨box,L,(L.length:Int),0⟩=V ⟨box,L,(L.length:Int),(i:Nat)⟩/\((i=L.length/\cq (nw box) L 0=0)\/(i<L.length/\nw box i L[i]!≠0/\cq (nw box) L 0=nw box i L[i]!)):=
 rX (rnd:=Lx) L (λi=>⟨box,L,(L.length:Int),(i:Nat)⟩) (nw box) (λi hi=>by
  have hw:=fG hi hl;have i1:(i:Int)<(L.length:Int):=by omega
  have i2:(0:Int)<=(i:Int):=by omega
  have i3:(i:Int)<(box.length:Int):=by omega
  have key:Lx ⟨box,L,(L.length:Int),(i:Nat)⟩=if nw box i L[i]! =0 then V (V ⟨box,L,(L.length:Int),((i+1:Nat):Int)⟩)else V S:=by
   unfold Lx nw;simp only[ze,i1,i2,i3,hi,hw,cR,bD,dA,cF,gp,Tc];cases Vs box[i]! <;>cases J (@Eq Int (We box[i]!) 0)<;>cases J (box[i]!.ag<L[i]!.ag)<;>cases J (L[i]!.ah<box[i]!.ah)<;>simp
  exact⟨λh=>by rw[key,bG h],λh=>by rw[key,bP h]⟩) (by unfold Lx;simp)
def axF{f:aN}(h:fI f.bH+jr (f.ak.map (·.az))<=900)(hh:f.ak.length<=1000)(hl:f.aj.length<=1000)(v:bY)(box:aa aH):m21 f v box=V (uc f v box):=by
 have l2:(f.aj.filter (kd 2)).length<=1000:=zK (yp _ _) hl;have l3:(dZ f.aj).length<=2000:=by
  have a1:(f.aj.filter (kd 1)).length<=1000:=zK (yp _ _) hl;have a3:(f.aj.filter (kd 3)).length<=1000:=zK (yp _ _) hl;unfold dZ;rw[zl];omega
 unfold m21 uc;rw[XJ f h (by omega) (by omega)];dsimp only;by_cases hc:oD f=0
 case neg=>rw[bX hc,bG hc];rfl
 rw[bW hc,bP (by simpa using hc)];simp only[bD,bA];rw[aaQ f hl v box];dsimp only;rw[gd,bA];by_cases hp:v.aU.length=(f.aj.filter (kd 2)).length
 case neg=>rw[gd,bG hp];rfl
 rw[nj,bP (by simpa using hp)];simp only[bD,bA];obtain⟨i,e3,k3⟩:=ahV (f.aj.filter (kd 2)) (by omega) v hp box (dZ f.aj);rw[e3];dsimp only;rcases k3 with ⟨rfl,k3⟩|⟨i1,i2,i3⟩
 case inr=>
  rw[bG (show cq (jg v.aU) (f.aj.filter (kd 2)) 0≠0 by rw[i3];exact i2),i3];have j1:(i:Int)<((f.aj.filter (kd 2)).length:Int):=by omega
  have j2:(0:Int)<=(i:Int):=by omega
  have j3:(i:Int)<(v.aU.length:Int):=by omega
  simp only[ze,j1,j2,j3,i1,cR,bD,dA,cF];revert i2;unfold jg;cases J (v.aU[i]! <(f.aj.filter (kd 2))[i]!.ag)<;>cases J ((f.aj.filter (kd 2))[i]!.ah<v.aU[i]!)<;>simp
 rw[gd,bA,bP (show ¬cq (jg v.aU) (f.aj.filter (kd 2)) 0≠0 by rw[k3];simp)];by_cases hb:box.length=(dZ f.aj).length
 case neg=>rw[gd,bG hb];rfl
 rw[nj,bP (by simpa using hb)];simp only[bD,bA];obtain⟨i,e4,k4⟩:=acv (dZ f.aj) (by omega) box hb;rw[e4];dsimp only;rcases k4 with ⟨rfl,k4⟩|⟨i1,i2,i3⟩
 ·rw[gd,bA,k4]
 ·rw[i3];have j1:(i:Int)<((dZ f.aj).length:Int):=by omega
  have j2:(0:Int)<=(i:Int):=by omega
  have j3:(i:Int)<(box.length:Int):=by omega
  simp only[ze,j1,j2,j3,i1,cR,bD,dA,cF,gp,Tc];revert i2;unfold nw;cases Vs box[i]! <;>cases J (@Eq Int (We box[i]!) 0)<;>cases J (box[i]!.ag<(dZ f.aj)[i]!.ag)<;>cases J ((dZ f.aj)[i]!.ah<box[i]!.ah)<;>simp
structure Fits (f:aN) (v:bY) (box:List aH):Prop where
 c:oD f=0
 pub:v.aU.length=(f.aj.filter (kd 2)).length
 aBs:∀j,j<v.aU.length->(f.aj.filter (kd 2))[j]!.ag<=v.aU[j]!/\v.aU[j]!<=(f.aj.filter (kd 2))[j]!.ah
 bl:box.length=(dZ f.aj).length
 bx:∀j,j<box.length->NN box[j]!/\(dZ f.aj)[j]!.ag<=box[j]!.ag/\box[j]!.ah<=(dZ f.aj)[j]!.ah
def Co{f:aN}{v:bY}{box:aa aH}(h:uc f v box=0):Fits f v box:=by
 unfold uc at h;by_cases hc:oD f=0
 case neg=>rw[bG hc]at h;exact dF h hc
 rw[bP (by simpa using hc)]at h;by_cases hp:v.aU.length=(f.aj.filter (kd 2)).length
 case neg=>rw[bG hp]at h;cases h
 rw[bP (by simpa using hp)]at h;by_cases hf:cq (jg v.aU) (f.aj.filter (kd 2)) 0=0
 case neg=>rw[bG hf]at h;exact dF h hf
 rw[bP (by simpa using hf)]at h;by_cases hb:box.length=(dZ f.aj).length
 case neg=>rw[bG hb]at h;cases h
 rw[bP (by simpa using hb)]at h;refine⟨hc,hp,λj hj=> ?_,hb,λj hj=> ?_⟩
 ·have k:=mG hf j (by omega);rw[yl]at k;unfold jg at k;by_cases c1:v.aU[j]! <(f.aj.filter (kd 2))[j]!.ag
  ·rw[bW c1]at k;cases k
  by_cases c2:(f.aj.filter (kd 2))[j]!.ah<v.aU[j]!
  ·rw[bX c1,bW c2]at k;cases k
  omega
 ·have k:=mG h j (by omega);rw[yl]at k;unfold nw at k;by_cases c0:NV box[j]!
  case neg=>rw[tS c0]at k;cases k
  rw[dY c0]at k;by_cases c3:We box[j]! =0
  ·rw[bW c3]at k;cases k
  by_cases c1:box[j]!.ag<(dZ f.aj)[j]!.ag
  ·rw[bX c3,bW c1]at k;cases k
  by_cases c2:(dZ f.aj)[j]!.ah<box[j]!.ah
  ·rw[bX c3,bX c1,bW c2]at k;cases k
  refine⟨c0.nn λe=>c3 ?_,by omega,by omega⟩;rw[e];unfold We;rw[bG (.inl rfl)];unfold ct;rw[bG rfl]
def ZO{f:aN}(h:oD f=0){i:Nat}(hi:i<f.aj.length):(0<=f.aj[i]!.bz/\f.aj[i]!.bz<=3)/\(f.aj[i]!.bz=0->f.aj[i]!.ag<=f.aj[i]!.eE/\f.aj[i]!.eE<=f.aj[i]!.ah):=by
 unfold oD at h;by_cases h1:qz f=G
 ·rw[bG h1]at h;exact dF h (by decide)
 rw[bP h1]at h;by_cases hvc:jq f.aj=0
 case neg=>rw[bG hvc]at h;exact dF h hvc
 unfold jq at hvc;by_cases h0:cq (k8 f.aj) f.aj 0=0
 case neg=>rw[bG h0]at hvc;exact dF hvc h0
 have k:=mG h0 i hi;unfold k8 at k;split at k
 ·cases k
 split at k
 ·cases k
 split at k
 ·cases k
 split at k
 ·cases k
 rename_i q _;refine⟨by omega,λe=> ?_⟩;rw[bG e]at k;split at k
 ·cases k
 ·omega
def je(f:aN)(v:bY)(box:aa aH)(i:Nat):aH:=
 if f.aj[i]!.bz=1 then box[dW f.aj 1 i]! else if f.aj[i]!.bz=2 then fJ v.aU[dW f.aj 2 i]! else if f.aj[i]!.bz=3 then box[dW f.aj 1 f.aj.length+dW f.aj 3 i]! else fJ f.aj[i]!.eE
def jJ(f:aN)(v:bY)(box:aa aH):ax:=⟨ni f.aj.length (je f v box),fJ 0,[],fJ 0⟩
def SR(vars:aa aX):(dZ vars).length=dW vars 1 vars.length+dW vars 3 vars.length:=by
 unfold dZ;rw[zl,pY,pY]
def J5{vars:aa aX}{k:Int}{i:Nat}(hi:i<vars.length)(hk:vars[i]!.bz=k):dW vars k i<dW vars k vars.length:=by
 have c:=kK hi k;have m:=rA (vars:=vars) (k:=k) (show i+1<=vars.length by omega) (zo _);rw[bG hk]at c;omega
def A5{f:aN}{v:bY}{box:aa aH}(h:Fits f v box):gE f.aj.length 0 (jJ f v box):=by
 have hv:=kZ h.c;have hb:=h.bl;rw[SR]at hb;have hp:=h.pub;rw[<-pY]at hp;refine⟨iW ..,λi hi=> ?_,mE ⟨by decide,by decide⟩,zo _,λi hi=>dF hi (by simp[jJ]),mE ⟨by decide,by decide⟩⟩;show NN (ni _ _)[i]!;rw[nI hi];unfold je;by_cases k1:f.aj[i]!.bz=1
 ·rw[bG k1];have:=J5 hi k1;exact(h.bx _ (by omega)).1
 rw[bP k1];by_cases k2:f.aj[i]!.bz=2
 ·rw[bG k2];have hl:=J5 hi k2;have hj:=h.aBs _ (show dW f.aj 2 i<v.aU.length by omega);have hm:=bh (l:=f.aj.filter (kd 2)) (i:=dW f.aj 2 i) (by rw[<-pY];omega);have:=hv _ ((zZ.1 hm).1);exact mE (by unfold cz;omega)
 rw[bP k2];by_cases k3:f.aj[i]!.bz=3
 ·rw[bG k3];have:=J5 hi k3;exact(h.bx _ (by omega)).1
 rw[bP k3];obtain⟨q1,q2⟩:=ZO h.c hi;have q2:=q2 (by omega);have:=hv _ (bh hi);exact mE (by unfold cz;omega)
abbrev A0:bN:=⟨⟨0,0,0⟩,[],⟨0,0,0⟩,[]⟩
def ago{f:aN}(hl:f.aj.length<=1000)(box:aa aH)(v:bY)(g:ax):RK ⟨box,0,0,0,f.aj,(f.aj.length:Int),0,f,v,A0,⟨[],g.aB,[],g.aI⟩⟩=
  V ⟨box,0,0,(dW f.aj 1 f.aj.length:Int),f.aj,(f.aj.length:Int),(f.aj.length:Int),f,v,A0,⟨[],g.aB,[],g.aI⟩⟩:=by
 obtain⟨b,e1,_⟩:=cZ (rnd:=Tf) f.aj.length (λi (_:Unit)=>⟨box,0,0,(dW f.aj 1 i:Int),f.aj,(f.aj.length:Int),(i:Int),f,v,A0,⟨[],g.aB,[],g.aI⟩⟩) (λ_ _=>True) (λi b hi _=>by
  have hw:=fG hi (by omega);have i1:(i:Int)<(f.aj.length:Int):=by omega
  have i2:(0:Int)<=(i:Int):=by omega
  have c1:=kK hi 1;have l1:=qW f.aj 1 i;have w1:i64.wrap ((dW f.aj 1 i:Int)+1)=((dW f.aj 1 i+1:Nat):Int):=by rw[aG];omega
  refine⟨(),?_,trivial⟩;unfold Tf;rw[c1];by_cases hk:f.aj[i]!.bz=1
  ·simp only[ze,i1,i2,hk,hw,w1,cR,bD,dA,cF]
  ·simp only[ze,i1,i2,hk,hw,cR,eR,bD,bA,dA,cF,gA,yq]) (λb _=>by unfold Tf;simp) (b:=()) trivial
 exact e1
def afa{f:aN}{v:bY}{box:aa aH}(h:Fits f v box)(hlv:f.aj.length<=1000)(g:ax):Ub ⟨box,0,0,(dW f.aj 1 f.aj.length:Int),f.aj,(f.aj.length:Int),0,f,v,A0,⟨[],g.aB,[],g.aI⟩⟩=
  V ⟨box,(dW f.aj 1 f.aj.length:Int),(dW f.aj 2 f.aj.length:Int),((dW f.aj 1 f.aj.length+dW f.aj 3 f.aj.length:Nat):Int),f.aj,(f.aj.length:Int),(f.aj.length:Int),f,v,A0,⟨ni f.aj.length (je f v box),g.aB,[],g.aI⟩⟩:=by
 have hbx:=h.bl;rw[SR]at hbx;have hp:=h.pub;rw[<-pY]at hp;obtain⟨b,e1,_⟩:=cZ (rnd:=Ud) f.aj.length (λi (_:Unit)=>⟨box,(dW f.aj 1 i:Int),(dW f.aj 2 i:Int),((dW f.aj 1 f.aj.length+dW f.aj 3 i:Nat):Int),f.aj,(f.aj.length:Int),(i:Int),f,v,A0,⟨ni i (je f v box),g.aB,[],g.aI⟩⟩) (λi _=>True) (λi b hi _=>by
  have hw:=fG hi (by omega);have i1:(i:Int)<(f.aj.length:Int):=by omega
  have i2:(0:Int)<=(i:Int):=by omega
  have c1:=kK hi 1;have c2:=kK hi 2;have c3:=kK hi 3;have m1:=rA (vars:=f.aj) (k:=1) (show i+1<=f.aj.length by omega) (zo _);have m2:=rA (vars:=f.aj) (k:=2) (show i+1<=f.aj.length by omega) (zo _);have m3:=rA (vars:=f.aj) (k:=3) (show i+1<=f.aj.length by omega) (zo _);have l1:=qW f.aj 1 f.aj.length;have l2:=qW f.aj 2 f.aj.length;have l3:=qW f.aj 3 f.aj.length;have hl2:∀x:aH,(ni i (je f v box)++[x]).length<=1073741824:=λx=>by rw[zl,iW,yM];omega
  refine⟨(),?_,trivial⟩;rw[MG];unfold Ud;dsimp only;rw[c1,c2,c3];by_cases k1:f.aj[i]!.bz=1
  ·have ev:je f v box i=box[dW f.aj 1 i]! :=by unfold je;rw[bG k1]
   rw[k1]at c1 c2 c3 ⊢;simp only[Int.reduceEq,cF,gA,yq]at c1 c2 c3 ⊢;have w1:i64.wrap ((dW f.aj 1 i:Int)+1)=((dW f.aj 1 i+1:Nat):Int):=by rw[aG];omega
   have j1:(dW f.aj 1 i:Int)<(box.length:Int):=by omega
   have j2:(0:Int)<=(dW f.aj 1 i:Int):=by omega
   simp only[ze,i1,i2,j1,j2,cR,bD,dA,cF,k1,hl2,hw,w1,ev]
  by_cases k2:f.aj[i]!.bz=2
  ·have ev:je f v box i=fJ v.aU[dW f.aj 2 i]! :=by unfold je;rw[bP k1,bG k2]
   rw[k2]at c1 c2 c3 ⊢;simp only[Int.reduceEq,cF,gA,yq]at c1 c2 c3 ⊢;have w1:i64.wrap ((dW f.aj 2 i:Int)+1)=((dW f.aj 2 i+1:Nat):Int):=by rw[aG];omega
   have j1:(dW f.aj 2 i:Int)<(v.aU.length:Int):=by omega
   have j2:(0:Int)<=(dW f.aj 2 i:Int):=by omega
   simp only[ze,i1,i2,j1,j2,k2,Int.reduceEq,cR,eR,bD,bA,dA,cF,hl2,hw,w1,qY,ev]
  by_cases k3:f.aj[i]!.bz=3
  ·have ev:je f v box i=box[dW f.aj 1 f.aj.length+dW f.aj 3 i]! :=by unfold je;rw[bP k1,bP k2,bG k3]
   rw[k3]at c1 c2 c3 ⊢;simp only[Int.reduceEq,cF,gA,yq]at c1 c2 c3 ⊢;have w1:i64.wrap (((dW f.aj 1 f.aj.length+dW f.aj 3 i:Nat):Int)+1)=((dW f.aj 1 f.aj.length+(dW f.aj 3 i+1):Nat):Int):=by rw[aG];omega
   have j1:((dW f.aj 1 f.aj.length+dW f.aj 3 i:Nat):Int)<(box.length:Int):=by omega
   have j2:(0:Int)<=((dW f.aj 1 f.aj.length+dW f.aj 3 i:Nat):Int):=by omega
   simp only[ze,i1,i2,j1,j2,k3,Int.reduceEq,cR,eR,bD,bA,dA,cF,hl2,hw,w1,ev]
  ·have ev:je f v box i=fJ f.aj[i]!.eE:=by unfold je;rw[bP k1,bP k2,bP k3]
   rw[bP k1,bP k2,bP k3];simp only[ze,i1,i2,k1,k2,k3,cR,eR,bD,bA,dA,cF,hl2,hw,qY,ev,yq]) (λb _=>by unfold Ud;simp) (b:=()) trivial
 exact e1
def acZ(f:aN)(s:ax)(h:dx):aH:=iT (dO s.aj h.az) h.ag h.ah
def uz(f:aN)(s:ax):aa aH:=f.ak.map (acZ f s)
def af6{f:aN}(hf:Tt f){s:ax}{m:Nat}(hs:gE f.aj.length m s){i:Nat}(hi:i<f.ak.length):NN (acZ f s f.ak[i]!):=by
 obtain⟨_,_,_,k,_⟩:=kN (lW hs f.ak[i]!.az (hf.hat i hi).2) f.ak[i]!.ag f.ak[i]!.ah;exact k
def Iy{f:aN}(hf:Tt f){s:ax}{m:Nat}(hs:gE f.aj.length m s):∀i,i<(uz f s).length->NN (uz f s)[i]! :=λi hi=>by
 have hi:i<f.ak.length:=by simpa [uz]using hi
 unfold uz;rw[getElem!_pos _ i (by simpa using hi),yW,<-getElem!_pos f.ak i hi];exact af6 hf hs hi
def ahj{f:aN}(hf:Tt f)(hlh:f.ak.length<=1000)(v:bY){s:ax}(hs:gE f.aj.length 0 s):LV ⟨f.ak,(f.ak.length:Int),0,f,v,A0,s,⟨f,[]⟩⟩=
  V ⟨f.ak,(f.ak.length:Int),(f.ak.length:Int),f,v,A0,s,⟨f,uz f s⟩⟩:=by
 have hsl:s.aC=[]:=xy (Nat.le_zero.1 hs.sl);have es:(⟨s.aj,s.aB,[],s.aI⟩:ax)=s:=by rw[<-hsl]
 obtain⟨b,e1,_⟩:=cZ (rnd:=Uk) f.ak.length (λi (_:Unit)=>⟨f.ak,(f.ak.length:Int),(i:Int),f,v,A0,s,⟨f,(f.ak.take i).map (acZ f s)⟩⟩) (λi _=>True) (λi b hi _=>by
  have hw:=fG hi (by omega);have i1:(i:Int)<(f.ak.length:Int):=by omega
  have i2:(0:Int)<=(i:Int):=by omega
  obtain⟨q1,q2⟩:=hf.hat i hi;have ev:=MF hs q2;obtain⟨c,hcl,_,_,_⟩:=kN (lW hs f.ak[i]!.az q2) f.ak[i]!.ag f.ak[i]!.ah;have hl2:∀x:aH,((f.ak.take i).map (acZ f s)++[x]).length<=1073741824:=λx=>by simp;omega
  refine⟨(),?_,trivial⟩;rw[bI hi,z8];unfold Uk;simp only[ze,i1,i2,cR,bD,dA,cF,au.eta,es,ev,hcl,hl2,hw,yc,yR];rfl) (λb _=>by unfold Uk;simp) (b:=()) trivial
 rw[zD]at e1;exact e1
def Ih(f:aN)(v:bY)(box:aa aH):ax:=j5 f (uz f (jJ f v box)) f.bH (jJ f v box)
def gM(f:aN)(v:bY)(box:aa aH):bN:=
 ⟨(Ih f v box).aB,(Ih f v box).aC,if v.eM=O then(Ih f v box).aI else fJ 0,(Ih f v box).aj⟩
def akZ{f:aN}{v:bY}{box:aa aH}(h:fI f.bH+jr (f.ak.map (·.az))<=900)(hh:f.ak.length<=1000)(hl:f.aj.length<=1000):m20 f v box=V (if uc f v box=0 then(gM f v box,0)else(A0,uc f v box)):=by
 unfold m20;rw[azC h hh hl];dsimp only;by_cases hc:uc f v box=0
 case neg=>rw[bX hc,bP hc];rfl
 have hfit:=Co hc;have hf:=Od hfit.c;have h0:=A5 hfit;have e0:=ago hl box v ⟨[],fJ 0,[],fJ 0⟩;have e1:=afa hfit hl ⟨[],fJ 0,[],fJ 0⟩;have e2:=ahj hf hh v h0;have ho:iR f.bH<=8:=by have:=hf.o;unfold iR;omega
 have e3:r83 ⟨f,uz f (jJ f v box)⟩ f.bH (jJ f v box)=V (Ih f v box):=
  ayi (r:=⟨f,uz f (jJ f v box)⟩) (top:=O) (by show f.aj.length<=_;omega) (by simp[uz]) (Iy hf h0) (by omega) hf.steps h0 (by omega)
 rw[bW hc,bG hc];simp only[bD,bA,qY];dsimp only[A0]at e0 e1 e2;rw[e0];dsimp only;rw[gd,bA,e1];dsimp only;rw[gd,bA];have e2':LV ⟨f.ak,(f.ak.length:Int),0,f,v,⟨⟨0,0,0⟩,[],⟨0,0,0⟩,[]⟩,⟨ni f.aj.length (je f v box),fJ 0,[],fJ 0⟩,⟨f,[]⟩⟩=_:=e2;rw[e2'];dsimp only;rw[gd,bA];have e3':r83 ⟨f,uz f (jJ f v box)⟩ f.bH ⟨(jJ f v box).aj,(jJ f v box).aB,[],(jJ f v box).aI⟩=_:=e3;rw[e3'];dsimp only;unfold gM;cases v.eM<;>rfl
abbrev E18:=Bool
def d18:Td 0 E18:= .c [] [0] (.r 0 0 (ec 0 qb en) sn (λz=>z.1.1) (λx=>((x,()),(()))))
def m18:E18:=O
def e18:=eL w9 18 G ln d18 (λ_=>V m18)
def t18:oA w9 de (λ_=>G) 300 60 Bool 18 [] [] 0 (PA P7)=V O:=by kernel_rfl
abbrev E19:=Bool
def m19(a0:aN)(a1:bY)(a2:aa aH):af E19:=
 match bif J ((a1.aU.length:Int)<=20)then bif J ((a2.length:Int)<=20)then match m53 a0 70 300with|S=>S|V r1=>bif r1 then match m78 a0 with|S=>S|V r2=>bif bif J (r2=0)then G else O then V O else match m24 a0 4096 4096 256with|S=>S|V r3=>V (r3)else V G else V G else V G with|S=>S|V r4=>V (r4)
structure Uo where
 (t0 t1:List aH)
 (t12 t13:Int)
def awA(p:Uo):af (af Uo):=
 bif J (p.t13<p.t12)then if 0<=p.t13/\p.t13<p.t0.length then if 0<=p.t13/\p.t13<p.t1.length then bif bif bif J (p.t0[p.t13.toNat]!.ag=p.t1[p.t13.toNat]!.ag)then bif J (p.t0[p.t13.toNat]!.ah=p.t1[p.t13.toNat]!.ah)then bif J (p.t0[p.t13.toNat]!.ai=p.t1[p.t13.toNat]!.ai)then O else G else G else G then G else O then V (S)else V (V (Uo.mk p.t0 p.t1 p.t12 (i64.wrap (p.t13+1))))else S else S else V (S)
def aus:=bK (awA)
abbrev E64:=Bool
def m64(a0:aa aH)(a1:aa aH):af E64:=
 bif bif J ((a0.length:Int)=(a1.length:Int))then G else O then V G else match aus (Uo.mk a0 a1 a0.length 0)with|S=>S|V r1=>bif J (r1.t13<r1.t12)then if 0<=r1.t13/\r1.t13<r1.t0.length then if 0<=r1.t13/\r1.t13<r1.t1.length then bif bif bif J (r1.t0[r1.t13.toNat]!.ag=r1.t1[r1.t13.toNat]!.ag)then bif J (r1.t0[r1.t13.toNat]!.ah=r1.t1[r1.t13.toNat]!.ah)then bif J (r1.t0[r1.t13.toNat]!.ai=r1.t1[r1.t13.toNat]!.ai)then O else G else G else G then G else O then V G else S else S else S else V O
abbrev E22:=Bool
def m22(a0:bN)(a1:bN):af E22:=
 match bif bif J (a0.aB.ag=a1.aB.ag)then bif J (a0.aB.ah=a1.aB.ah)then bif J (a0.aB.ai=a1.aB.ai)then O else G else G else G then bif bif J (a0.aI.ag=a1.aI.ag)then bif J (a0.aI.ah=a1.aI.ah)then bif J (a0.aI.ai=a1.aI.ai)then O else G else G else G then match m64 a0.aC a1.aC with|S=>S|V r1=>bif r1 then match m64 a0.Ie a1.Ie with|S=>S|V r2=>V (r2)else V (G)else V (G)else V (G)with|S=>S|V r3=>V (r3)
abbrev E3:=Bool
def d3:Td 0 E3:= .c [] [6] (.r 0 0 (ec 6 qb en) sn (λz=>z.1.1) (λx=>((x,()),(()))))
def A3:=(lc (qg 26) (lc (qg 29) (lc (ql 34) ln)))
def m3(a0:aN)(a1:bY)(a2:aa aH):af E3:=
 bif bif m18 then G else O then V (G)else match m19 a0 a1 a2 with|S=>S|V r1=>bif bif r1 then G else O then V (O)else match m20 a0 a1 a2 with|S=>S|V r2=>match m21 a0 a1 a2 with|S=>S|V r3=>bif bif J (r3=0)then G else O then bif J (r2.snd=r3)then match m22 r2.fst (bN.mk (aH.mk (0) (0) (0)) [] (aH.mk (0) (0) (0)) [])with|S=>S|V r4=>V (r4)else V (G)else bif J (r2.snd=0)then match m23 a0 a1 a2 with|S=>S|V r5=>match m22 r2.fst r5 with|S=>S|V r6=>V (r6)else V (G)
abbrev E6:=Bool
def d6:Td 0 E6:= .c [] [6] (.r 0 0 (ec 6 qb en) sn (λz=>z.1.1) (λx=>((x,()),(()))))
def ZC{f:aN}{v:bY}{box:aa aH}(h:Fits f v box):(gM f v box).aC.length<=8/\(gM f v box).Ie.length=f.aj.length:=by
 have hf:=Od h.c;have h0:=A5 h;have ho:iR f.bH<=8:=by have:=hf.o;unfold iR;omega
 have k:=jL (hv:=uz f (jJ f v box)) (by simp[uz]) (Iy hf h0) _ f.bH O (zJ _) hf.steps _ _ h0;have:=k.sl;exact⟨by show (Ih f v box).aC.length<=8;unfold Ih;omega,k.len⟩
def LK{a:aH}(h:NN a):ct a<=a.ah-a.ag+1:=by
 rw[uR h];have:=h.le;split
 ·omega
 ·have:=ye a.ai (show 0<=a.ah-a.ag by omega);omega
def D4{a:aH}(h:NN a):1<=ct a/\ct a<=2199023255553:=by
 have h1:=size_pos h;have h2:=LK h;obtain⟨a1,a2⟩:=h.ri;obtain⟨a3,a4⟩:=h.Bl;exact⟨h1,by omega⟩
def KU{a b:Int}(h1:1<=a)(h2:a<=2199023255553)(h3:1<=b)(h4:b<=2199023255553):m93 a b=V (min (a*b) 1099511627776):=by
 have hd:(1099511627776:Int).tdiv b=1099511627776/b:=Int.tdiv_eq_ediv_of_nonneg (by omega);have q0:0<=(1099511627776:Int)/b:=zQ (by omega) (by omega);have q1:(1099511627776:Int)/b<=1099511627776:=ye _ (by omega);have iff:(1099511627776:Int)/b<a↔1099511627776<a*b:=Int.ediv_lt_iff_lt_mul (by omega);have p0:0<=a*b:=zF (by omega) (by omega);unfold m93;rw[bW (show 0<b by omega),bD,bG (show ¬@Eq Int b 0 by omega),hd,aG];dsimp only;by_cases c:1099511627776<a*b
 ·rw[bW (iff.mpr c),bD,show min (a*b) 1099511627776=1099511627776 by omega]
 ·rw[bX (λk=>c (iff.mp k)),bA,aG,show min (a*b) 1099511627776=a*b by omega]
def ij:aa aH->Int
 |[]=>1
 |x::l=>ct x*ij l
def kr:aa aX->Int
 |[]=>1
 |x::l=>(x.ah-x.ag+1)*kr l
def Cz:∀(a b:aa aH),ij (a++b)=ij a*ij b
 |[],b=>by rw[yw,ij,z6]
 |x::a,b=>by rw[xo,ij,ij,Cz a b,zP]
def GV:∀(a b:aa aX),kr (a++b)=kr a*kr b
 |[],b=>by rw[yw,kr,z6]
 |x::a,b=>by rw[xo,kr,kr,GV a b,zP]
def mX:∀{l:aa aH},(∀x∈l,NN x)->1<=ij l
 |[],_=>by rw[ij];decide
 |x::l,h=>by
  rw[ij];have h1:=size_pos (h x (zm ..));have h2:=mX (λy hy=>h y (zO _ hy));have:=xA h1 h2 (by omega) (by omega);omega
def G3{l:aa aH}(h:∀x∈l,NN x)(i:Nat):1<=ij (l.take i)/\ij (l.take i)<=ij l:=by
 have h1:=mX (l:=l.take i) (λx hx=>h x (List.mem_of_mem_take hx));have h2:=mX (l:=l.drop i) (λx hx=>h x (wh hx));have e:ij l=ij (l.take i)*ij (l.drop i):=by rw[<-Cz,xw]
 have:=wV h2 (show 0<=ij (l.take i)by omega);exact⟨h1,by rw[e];omega⟩
def RH:∀{l:aa aH} {L:aa aX},l.length=L.length->(∀j,j<l.length->NN l[j]!/\L[j]!.ag<=l[j]!.ag/\l[j]!.ah<=L[j]!.ah)->ij l<=kr L
 |[],[],_,_=>zq _
 |[],y::L,h,_=>by simp at h
 |x::l,[],h,_=>by simp at h
 |x::l,y::L,h,k=>by
  rw[ij,kr];have hN:∀z∈l,NN z:=λz hz=>by
   obtain⟨i,hi,e⟩:=List.mem_iff_getElem.1 hz;have:=(k (i+1) (by simp;omega)).1;rw[show (x::l)[i+1]! =l[i]! from rfl,getElem!_pos l i hi,e]at this;exact this
  obtain⟨k1,k2,k3⟩:=k 0 (by simp);have k1:NN x:=k1;have k2:y.ag<=x.ag:=k2;have k3:x.ah<=y.ah:=k3;have h1:=size_pos k1;have h2:=LK k1;have h3:=RH (l:=l) (L:=L) (by simpa using h) (λj hj=>k (j+1) (by simp;omega));have h4:=mX hN;exact xA (by omega) h3 (by omega) (by omega)
def uE(kind:Int):∀(l:aa aX) (n m:Int),tG kind l n=V m->m=n*kr (l.filter (kd kind))
 |[],n,m,e=>by unfold tG at e;cases e;rw[xZ,kr,Int.mul_one]
 |v::vs,n,m,e=>by
  unfold tG at e;by_cases hk:v.bz=kind
  ·rw[bG hk]at e;split at e
   ·cases e
   ·have:=uE kind vs _ m e;rw[this,yS,bG (by simp[kd,hk]),kr,zP]
  ·rw[bP hk]at e;rw[uE kind vs n m e,yS,bP (by simp[kd,hk])]
def vJ:∀{l:aa aX},(∀v∈l,v.ag<=v.ah)->1<=kr l
 |[],_=>by rw[kr];decide
 |x::l,h=>by
  rw[kr];have h1:=h x (zm ..);have h2:=vJ (λy hy=>h y (zO _ hy));have:=xA (show 1<=x.ah-x.ag+1 by omega) h2 (by omega) (by omega);omega
def Vo{f:aN}(h:oD f=0):Aa f.aj=O:=by
 unfold oD at h;by_cases h1:qz f=G
 ·rw[bG h1]at h;exact dF h (by decide)
 rw[bP h1]at h;by_cases hvc:jq f.aj=0
 case neg=>rw[bG hvc]at h;exact dF h hvc
 unfold jq at hvc;by_cases h0:cq (k8 f.aj) f.aj 0=0
 case neg=>rw[bG h0]at hvc;exact dF hvc h0
 rw[bP (by simpa using h0)]at hvc;cases hs:Aa f.aj with
 |true=>rfl
 |false=>rw[hs]at hvc;simp at hvc
def ac8{f:aN}(h:oD f=0):kr (dZ f.aj)<=1048576:=by
 have hv:=kZ h;have hs:=Vo h;unfold Aa at hs;simp only[zi]at hs;obtain⟨⟨h1,_⟩,h3⟩:=hs;obtain⟨a,e1⟩:=Option.isSome_iff_exists.1 h1;cases e3:tG 3 f.aj 1 with
 |none=>rw[e3]at h3;cases h3
 |some b=>
  rw[e3]at h3;have h3:b<=256:=by simpa using h3
  have ha:=C9 1 f.aj 1 a (by decide) e1;have p1:=uE 1 f.aj 1 a e1;have p3:=uE 3 f.aj 1 b e3;rw[z6]at p1 p3;have q1:=vJ (l:=f.aj.filter (kd 1)) (λv hv'=>(hv v (zZ.1 hv').1).2.1);have q3:=vJ (l:=f.aj.filter (kd 3)) (λv hv'=>(hv v (zZ.1 hv').1).2.1);unfold dZ;rw[GV,<-p1,<-p3];rw[<-p1]at q1;rw[<-p3]at q3;have:=xA ha h3 (by omega) (by omega);omega
def Fits.nn{f:aN}{v:bY}{box:aa aH}(h:Fits f v box):∀x∈box,NN x:=λx hx=>by
 obtain⟨i,hi,e⟩:=List.mem_iff_getElem.1 hx;have:=(h.bx i hi).1;rw[getElem!_pos box i hi,e]at this;exact this
def Fits.vol{f:aN}{v:bY}{box:aa aH}(h:Fits f v box):1<=ij box/\ij box<=1048576:=⟨mX h.nn,xU (RH h.bl h.bx) (ac8 h.c)⟩
def l6(l:aa aH):Bool:=l.all λx=>J (ct x=1)
def sgB(r:bN):Bool:=(J (ct r.aB=1)&&J (ct r.aI=1))&&l6 r.aC
def ag0(r:bN):aD:=⟨r.aC.map (·.ag),r.aI.ag⟩
structure ROk (r:bN):Prop where
 count:NN r.aB
 time:NN r.aI
 sl:r.aC.length<=8
 slots:∀i,i<r.aC.length->NN r.aC[i]!
def Lp{l:aa aH}{i:Nat}(h:i<l.length):l6 (l.take (i+1))=(l6 (l.take i)&&J (ct l[i]! =1)):=by
 unfold l6;rw[bI h,List.all_append];simp
def ahq{r:bN}(h:ROk r)(b:Bool)(t:Int):R3 ⟨b,r.aC,(r.aC.length:Int),0,⟨[],0⟩,⟨[],t⟩⟩=V ⟨b&&l6 r.aC,r.aC,(r.aC.length:Int),(r.aC.length:Int),⟨[],0⟩,⟨r.aC.map (·.ag),t⟩⟩:=by
 have hs:=h.sl;obtain⟨_,e1,_⟩:=cZ (rnd:=Tx) r.aC.length (λi (_:Unit)=>⟨b&&l6 (r.aC.take i),r.aC,(r.aC.length:Int),(i:Int),⟨[],0⟩,⟨(r.aC.take i).map (·.ag),t⟩⟩) (λi _=>True) (λi _ hi _=>by
  have hw:=fG hi (by omega);have i1:(i:Int)<(r.aC.length:Int):=by omega
  have i2:(0:Int)<=(i:Int):=by omega
  have hl2:∀x:Int,((r.aC.take i).map (·.ag)++[x]).length<=1073741824:=λx=>by simp;omega
  refine⟨(),?_,trivial⟩;rw[Lp hi,bI hi,z8];unfold Tx;cases hb:(b&&l6 (r.aC.take i))with
  |false=>
   rw[<-Bool.and_assoc,hb];simp only[ze,i1,i2,hl2,cR,bD,bA,dA,cF,hw,Bool.false_and,yc,yR]
  |true=>
   rw[<-Bool.and_assoc,hb];simp only[ze,i1,i2,hl2,cR,bD,dA,cF,qa (.inr (h.slots i hi)),hw,wB,yc,yR]) (λb _=>by unfold Tx;simp) (b:=()) trivial
 rw[zD]at e1;have:(b&&l6 (r.aC.take 0))=b:=by simp[l6]
 rw[this]at e1;exact e1
def aw6{f:aN}{v:bY}{box:aa aH}{r:bN}(e:m20 f v box=V (r,0))(h:ROk r):US f v box=V (if sgB r=O then(ag0 r,O,0)else(⟨[],0⟩,G,0)):=by
 unfold US;rw[e];simp only[cR,bD,bA,qa (.inr h.count),qa (.inr h.time)];have ef:(bif J (@Eq Int (ct r.aB) 1)then some (J (@Eq Int (ct r.aI) 1))else some false)=some (J (ct r.aB=1)&&J (ct r.aI=1)):=by cases J (ct r.aB=1)<;>rfl
 rw[ef];dsimp only;rw[ahq h];dsimp only;rw[gd,bA];unfold sgB ag0;cases (J (ct r.aB=1)&&J (ct r.aI=1))&&l6 r.aC<;>rfl
def Wp(r:bN)(M:Int):Nat->Int×Int
 |0=>(0,min (ct r.aI) M)
 |k+1=>(if cV r.aB (k:Nat)=O then min ((Wp r M k).1+(Wp r M k).2) M else(Wp r M k).1,if k<r.aC.length then min ((Wp r M k).2*ct r.aC[k]!) M else(Wp r M k).2)
def BW(r:bN):Nat->Int×Int
 |0=>(0,ct r.aI)
 |k+1=>(if cV r.aB (k:Nat)=O then min ((BW r k).1+(BW r k).2) 1099511627776 else(BW r k).1,if k<r.aC.length then min ((BW r k).2*ct r.aC[k]!) 1099511627776 else(BW r k).2)
def OQ{r:bN}(h:ROk r):∀k,0<=(BW r k).1/\(BW r k).1<=1099511627776/\1<=(BW r k).2/\(BW r k).2<=2199023255553
 |0=>by
  have:=D4 h.time;simp only[BW];omega
 |k+1=>by
  obtain⟨h1,h2,h3,h4⟩:=OQ h k;simp only[BW];refine⟨?_,?_,?_,?_⟩
  ·split<;>omega
  ·split<;>omega
  ·split
   ·rename_i c;have:=size_pos (h.slots k c);have:=xA h3 this (by omega) (by omega);omega
   ·omega
  ·split<;>omega
def SZ{r:bN}(h:ROk r){zc:Int}(hV:1<=zc)(hM:zc<=1099511627776):∀k,(Wp r zc k).1=min (BW r k).1 zc/\(Wp r zc k).2=min (BW r k).2 zc
 |0=>by
  refine⟨?_,rfl⟩;show (0:Int)=min 0 zc;omega
 |k+1=>by
  obtain⟨h1,h2⟩:=SZ h hV hM k;obtain⟨b1,b2,b3,b4⟩:=OQ h k;simp only[Wp,BW];refine⟨?_,?_⟩
  ·split
   ·rw[h1,h2];omega
   ·exact h1
  ·split
   ·rename_i c;have hs:=size_pos (h.slots k c);rw[h2];generalize (BW r k).2=P at*;generalize ct r.aC[k]! =s at*;by_cases c2:P<=zc
    ·rw[show min P zc=P by omega];omega
    ·rw[show min P zc=zc by omega];have k1:=wV hs (show 0<=zc by omega);have k2:=wV hs (show 0<=P by omega);omega
   ·exact h2
def Oi(a b:Int):(if b<a then b else a)=min a b:=by split<;>omega
def aft{r:bN}(h:ROk r)(box:aa aH):TG ⟨box,0,ct r.aI,((r.aC.length+1:Nat):Int),0,r⟩=V ⟨box,(BW r (r.aC.length+1)).1,(BW r (r.aC.length+1)).2,((r.aC.length+1:Nat):Int),((r.aC.length+1:Nat):Int),r⟩:=by
 have hs:=h.sl;obtain⟨_,e1,_⟩:=cZ (rnd:=SX) (r.aC.length+1) (λi (_:Unit)=>⟨box,(BW r i).1,(BW r i).2,((r.aC.length+1:Nat):Int),(i:Int),r⟩) (λi _=>True) (λi _ hi _=>by
  have hw:i64.wrap ((i:Int)+1)=((i+1:Nat):Int):=by rw[aG];omega
  have i1:(i:Int)<((r.aC.length+1:Nat):Int):=by omega
  have i2:(0:Int)<=(i:Int):=by omega
  obtain⟨b1,b2,b3,b4⟩:=OQ h i;have ws:i64.wrap ((BW r i).1+(BW r i).2)=(BW r i).1+(BW r i).2:=aG;refine⟨(),?_,trivial⟩;unfold SX;simp only[BW];by_cases c:i<r.aC.length
  ·have c1:(i:Int)<(r.aC.length:Int):=by omega
   have hz:=D4 (h.slots i c);have et:=KU b3 b4 hz.1 hz.2;cases hc:cV r.aB (i:Nat)with
   |true=>simp only[ze,i1,i2,c,c1,cR,bD,dA,cF,pU (.inr h.count),hc,qa (.inr (h.slots i c)),et,ws,Oi,hw]
   |false=>simp only[ze,i1,i2,c,c1,cR,bD,bA,dA,cF,pU (.inr h.count),hc,qa (.inr (h.slots i c)),et,hw,yu,gA]
  ·have c1:¬(i:Int)<(r.aC.length:Int):=by omega
   cases hc:cV r.aB (i:Nat)with
   |true=>simp only[i1,c,c1,cR,eR,bD,bA,cF,gA,pU (.inr h.count),hc,ws,Oi,hw]
   |false=>simp only[i1,c,c1,cR,eR,bD,bA,gA,pU (.inr h.count),hc,hw,yu]) (λb _=>by unfold SX;simp) (b:=()) trivial
 exact e1
def afT{box:aa aH}(h:∀x∈box,NN x)(hl:box.length<=1000000)(hv:ij box<=1048576)(s:Int):Sc ⟨s,1,box,(box.length:Int),0⟩=V ⟨s,ij box,box,(box.length:Int),(box.length:Int)⟩:=by
 obtain⟨_,e1,_⟩:=cZ (rnd:=Sj) box.length (λi (_:Unit)=>⟨s,ij (box.take i),box,(box.length:Int),(i:Int)⟩) (λi _=>True) (λi b hi _=>by
  have hw:=fG hi hl;have i1:(i:Int)<(box.length:Int):=by omega
  have i2:(0:Int)<=(i:Int):=by omega
  obtain⟨t1,t2⟩:=G3 h (i+1);obtain⟨u1,u2⟩:=G3 h i;have hz:=D4 (h _ (bh hi));have e:ij (box.take (i+1))=ij (box.take i)*ct box[i]! :=by
   rw[bI hi,Cz,ij,ij,Int.mul_one]
  have et:=KU (a:=ij (box.take i)) (by omega) (by omega) hz.1 hz.2;rw[show min (ij (box.take i)*ct box[i]!) 1099511627776=ij (box.take i)*ct box[i]! by rw[<-e];omega]at et;refine⟨(),?_,trivial⟩;rw[e];unfold Sj;simp only[ze,i1,i2,cR,bD,dA,cF,qa (.inr (h _ (bh hi))),et,hw]) (λb _=>by unfold Sj;simp) (b:=()) trivial
 rw[zD]at e1;exact e1
def aqG(r:bN)(zc:Int):Int:=(Wp r zc (r.aC.length+1)).1
def avG{f:aN}{v:bY}{box:aa aH}{r:bN}(e:m20 f v box=V (r,0))(h:ROk r)(hb:∀x∈box,NN x)(hl:box.length<=1000000)(hv:ij box<=1048576):QT f v box=V (aqG r (ij box),0):=by
 have hs:=h.sl;have hp:=mX hb;have wl:i64.wrap ((r.aC.length:Int)+1)=((r.aC.length+1:Nat):Int):=by rw[aG];omega
 unfold QT;rw[e];simp only[cR,bD,bA,qa (.inr h.time),wl];rw[aft h box];dsimp only;rw[gd,bA,afT hb hl hv];dsimp only;rw[gd,bA];unfold aqG;rw[(SZ h hp (by omega) _).1,Oi]
structure CI (s:ax):Prop where
 lo:0<=s.aB.ag
 hi:s.aB.ah=s.aC.length
def sg1(a:aH):Prop:=a.ag=a.ah
structure SG (s:ax):Prop where
 vars:∀i,i<s.aj.length->sg1 s.aj[i]!
 count:sg1 s.aB
 slots:∀i,i<s.aC.length->sg1 s.aC[i]!
 time:sg1 s.aI
def aqE{f:aN}{v:bY}{box:aa aH}(h:Fits f v box):gE f.aj.length 8 (Ih f v box):=by
 have hf:=Od h.c;have h0:=A5 h;have ho:iR f.bH<=8:=by have:=hf.o;unfold iR;omega
 exact(jL (hv:=uz f (jJ f v box)) (by simp[uz]) (Iy hf h0) _ f.bH O (zJ _) hf.steps _ _ h0).weak (by omega)
def TE{f:aN}{v:bY}{box:aa aH}(h:Fits f v box):ROk (gM f v box):=by
 have k:=aqE h;refine⟨k.count,?_,k.sl,k.slots⟩;show NN (if v.eM=O then(Ih f v box).aI else fJ 0);split
 ·exact k.time
 ·exact mE ⟨by decide,by decide⟩
def aqk:bf:=de
def acs:aQ w9 aqk:=aP
abbrev anu:=Bool
def d326:Td 0 anu:= .c [] [2] (.r 0 0 (ec 2 qb en) sn (λz=>z.1.1) (λx=>((x,()),(()))))
def aua:=(bk ln)
def ali:An:= .no
def atJ:cU w9 (aqk) 0 300 326 (ali):=bB (l:=[]) func326 (aV (by kernel_rfl)) (by kernel_rfl) aF
def FW(a0:Int):anu:=
 bif J (a0=a0)then G else O
def aBe(a0:Int):bM w9 (aqk) 300 (ali) 326 (aua.c (a0,())) [] 0 d326.rd=V (FW a0):=by
 refine Eq.trans (b:=(
  V (bif J (a0=a0)then G else O):af anu)) (by kernel_rfl) ?_
 simp only[FW,cM,dg]
def axL:=eL w9 326 G aua d326 (λg=>V (FW g.1))
def ah2{F:bf}(h:aQ w9 F):aQ w9 (axL F):=cT (sc:=jM) cv (cH acs atJ (λ_=>by kernel_rfl) (λ_=>by kernel_rfl) λg=>aBe g.1) ⟨_,func326,by kernel_rfl,by kernel_rfl⟩ (λ_=>by kernel_rfl) (λ_=>by kernel_rfl) h
def aov:bf:=(axL de)
def afl:aQ w9 aov:=(ah2 aP)
abbrev apy:=Int
def d288:Td 0 apy:= .c [] [4] (.r 0 0 (ec 4 aM en) sn (λz=>z.1.1) (λx=>((x,()),(()))))
def av1:=(bk (bk ln))
def ake:An:= .no
def asC:cU w9 (aov) 0 300 288 (ake):=bB (l:=[]) func288 (aV (by kernel_rfl)) (by kernel_rfl) aF
def FM(a0:Int)(a1:Int):apy:=
 bif FW a0 then bif FW a1 then 0 else-1 else bif FW a1 then 1 else bif J (a0<a1)then-1 else bif J (a1<a0)then 1 else 0
def aAO(a0:Int)(a1:Int):bM w9 (aov) 300 (ake) 288 (av1.c (a0,a1,())) [] 0 d288.rd=V (FM a0 a1):=by
 refine Eq.trans (b:=(
  bif FW a0 then bif FW a1 then V (0)else V (-1)else bif FW a1 then V (1)else bif J (a0<a1)then V (-1)else bif J (a1<a0)then V (1)else V (0):af apy)) (by kernel_rfl) ?_
 simp only[FM,cM,dg]
def aw9:=eL w9 288 G av1 d288 (λg=>V (FM g.1 g.2.1))
def ae0{F:bf}(h:aQ w9 F):aQ w9 (aw9 F):=cT (sc:=jM) cv (cH afl asC (λ_=>by kernel_rfl) (λ_=>by kernel_rfl) λg=>aAO g.1 g.2.1) ⟨_,func288,by kernel_rfl,by kernel_rfl⟩ (λ_=>by kernel_rfl) (λ_=>by kernel_rfl) h
def afF:bf:=(aw9 de)
def ahI:aQ w9 afF:=(ae0 aP)
structure tw where
 (t0 t1 t9:List Int)
 (t10 t11:Int)
def EN:Td 0 tw:= .c [] [0,1,9,10,11] (.r 0 0 (ec 0 (ql 3) (ec 1 (ql 3) (ec 9 (ql 3) (ec 10 aM (ec 11 aM en))))) sn (λz=>⟨z.1.1,z.1.2.1,z.1.t.1,z.1.t.2.1,z.1.q.1⟩) (λx=>((x.t0,x.t1,x.t9,x.t10,x.t11,()),(()))))
def sw(p:tw):af (af tw):=
 bif J (p.t11<p.t10)then if 0<=p.t11/\p.t11<p.t9.length then bif J (p.t1.length<=p.t11)then V (S)else if 0<=p.t11/\p.t11<p.t1.length then bif bif J (FM p.t9[p.t11.toNat]! p.t1[p.t11.toNat]! =0)then G else O then V (S)else V (V (tw.mk p.t0 p.t1 p.t9 p.t10 (i64.wrap (p.t11+1))))else S else S else V (S)
def aoa(p:tw):ep w9 (afF) f251.ntmps 300 (bg f251 0) .no (af tw) (EN.pat p) (Bd EN.rd)=sw p:=by kernel_rfl
def Jc:=bK (sw)
abbrev ayQ:=Int
def d251:Td 0 ayQ:= .c [] [4] (.r 0 0 (ec 4 aM en) sn (λz=>z.1.1) (λx=>((x,()),(()))))
def axu:=(lc (ql 3) (lc (ql 3) ln))
def al1:An:=(noTwo (.two (noTwo (EN.lp Jc .no)) .no))
def avt:cU w9 (afF) 0 300 251 (al1):=bB (l:=[(bg f251 0,(EN.lp Jc .no))]) func251 (aV (by kernel_rfl)) (by kernel_rfl) (aA ⟨EN.ok _,dR (aoa)⟩ aF)
def abC(a0:aa Int)(a1:aa Int):af ayQ:=
 match Jc (tw.mk a0 a1 a0 a0.length 0)with|S=>S|V r1=>bif J (r1.t11<r1.t10)then if 0<=r1.t11/\r1.t11<r1.t9.length then bif J (r1.t1.length<=r1.t11)then V 1 else if 0<=r1.t11/\r1.t11<r1.t1.length then bif bif J (FM r1.t9[r1.t11.toNat]! r1.t1[r1.t11.toNat]! =0)then G else O then V (FM r1.t9[r1.t11.toNat]! r1.t1[r1.t11.toNat]!)else S else S else S else bif J ((r1.t0.length:Int)<(r1.t1.length:Int))then V (-1)else V 0
def aAY(a0:aa Int)(a1:aa Int):bM w9 (afF) 300 (al1) 251 (axu.c (a0,a1,())) [] 0 d251.rd=abC a0 a1:=by kernel_rfl
def avm:=eL w9 251 G axu d251 (λg=>abC g.1 g.2.1)
def ab6{F:bf}(h:aQ w9 F):aQ w9 (avm F):=cT (sc:=jM) cv (cH ahI avt (λ_=>by kernel_rfl) (λ_=>by kernel_rfl) λg=>aAY g.1 g.2.1) ⟨_,func251,by kernel_rfl,by kernel_rfl⟩ (λ_=>by kernel_rfl) (λ_=>by kernel_rfl) h
def aqI:bf:=(avm de)
def acH:aQ w9 aqI:=(ab6 aP)
abbrev avJ:=Int
def d188:Td 0 avJ:= .c [] [4] (.r 0 0 (ec 4 aM en) sn (λz=>z.1.1) (λx=>((x,()),(()))))
def aun:=(lc (qg 47) (lc (qg 47) ln))
def aj2:An:= .no
def asR:cU w9 (aqI) 0 300 188 (aj2):=bB (l:=[]) func188 (aV (by kernel_rfl)) (by kernel_rfl) aF
def FV(a0:aD)(a1:aD):af avJ:=
 match abC a0.aW a1.aW with|S=>S|V r1=>bif bif J (r1=0)then G else O then V (r1)else bif J (a0.aI<a1.aI)then V (-1)else bif J (a1.aI<a0.aI)then V (1)else V (0)
def aCA(a0:aD)(a1:aD):bM w9 (aqI) 300 (aj2) 188 (aun.c (a0,a1,())) [] 0 d188.rd=FV a0 a1:=by kernel_rfl
def vO:=eL w9 188 G aun d188 (λg=>FV g.1 g.2.1)
def qI{F:bf}(h:aQ w9 F):aQ w9 (vO F):=cT (sc:=jM) cv (cH acH asR (λ_=>by kernel_rfl) (λ_=>by kernel_rfl) λg=>aCA g.1 g.2.1) ⟨_,func188,by kernel_rfl,by kernel_rfl⟩ (λ_=>by kernel_rfl) (λ_=>by kernel_rfl) h
structure aDe where
 t5:Int
 (b0 b1:aD)
def ahk:bf:=(Ph (UB de))
def ajg:aQ w9 ahk:=(rE (uG aP))
abbrev auP:=aH×Int
def d214:Td 0 auP:= .c [] [6,7] (.r 0 1 (ec 6 (qp 0 0) (ec 7 aM en)) (sb 0 34 (lg 34) sn) (λz=>(z.2.1,z.1.2.1)) (λx=>(((),x.2,()),(x.1,()))))
def ave:=(bk (bk (bk ln)))
def akA:An:=(noTwo (.two (.two (.rb [145] 19) .no) .no))
def azc:∀f∈([145]:aa Nat),bw (ahk) f:=(aA (jE (jF bS)) aF)
def ayJ:cU w9 (ahk) 0 300 214 (akA):=bB (l:=[(.skip,(.rb [145] 19))]) func214 (aV (by kernel_rfl)) (by kernel_rfl) (aA azc aF)
def adh(a0:Int)(a1:Int)(a2:Int):af auP:=
 match bif bif iS a0 then G else O then V (O)else bif bif iS a1 then G else O then V (O)else V (J (a2<1))with|S=>S|V r1=>bif r1 then V ((aH.mk (0) (0) (0),3))else match lS a0 a1 a2 with|S=>S|V r2=>V ((r2,0))
def aEd(a0:Int)(a1:Int)(a2:Int):bM w9 (ahk) 300 (akA) 214 (ave.c (a0,a1,a2,())) [] 0 d214.rd=adh a0 a1 a2:=by kernel_rfl
def axM:=eL w9 214 G ave d214 (λg=>adh g.1 g.2.1 g.t.1)
def ags{F:bf}(h:aQ w9 F):aQ w9 (axM F):=cT (sc:=jM) cv (cH ajg ayJ (λ_=>by kernel_rfl) (λ_=>by kernel_rfl) λg=>aEd g.1 g.2.1 g.t.1) ⟨_,func214,by kernel_rfl,by kernel_rfl⟩ (λ_=>by kernel_rfl) (λ_=>by kernel_rfl) h
def anP:bf:=(axM de)
def aeb:aQ w9 anP:=(ags aP)
abbrev aze:=aH×Int
def d137:Td 0 aze:= .c [] [4,5] (.r 0 1 (ec 4 (qp 0 0) (ec 5 aM en)) (sb 0 34 (lg 34) sn) (λz=>(z.2.1,z.1.2.1)) (λx=>(((),x.2,()),(x.1,()))))
def avO:=(bk (bk ln))
def alE:An:= .no
def atU:cU w9 (anP) 0 300 137 (alE):=bB (l:=[]) func137 (aV (by kernel_rfl)) (by kernel_rfl) aF
def OP(a0:Int)(a1:Int):af aze:=
 match adh a0 a1 (1)with|S=>S|V r1=>V (r1)
def aBv(a0:Int)(a1:Int):bM w9 (anP) 300 (alE) 137 (avO.c (a0,a1,())) [] 0 d137.rd=OP a0 a1:=by kernel_rfl
def awa:=eL w9 137 G avO d137 (λg=>OP g.1 g.2.1)
def ac2{F:bf}(h:aQ w9 F):aQ w9 (awa F):=cT (sc:=jM) cv (cH aeb atU (λ_=>by kernel_rfl) (λ_=>by kernel_rfl) λg=>aBv g.1 g.2.1) ⟨_,func137,by kernel_rfl,by kernel_rfl⟩ (λ_=>by kernel_rfl) (λ_=>by kernel_rfl) h
def F76:bf:=(awa (aiN de))
def ar8:aQ w9 F76:=(ac2 (Us aP))
structure tX where
 t5:List aH
 t7:Int
 t17:List Int
 (t18 t19:Int)
 t24:List aX
 (t25 t26:Int)
 b0:aN
def Mb:Td 0 tX:= .c [] [1,5,7,17,18,19,24,25,26] (.r 0 3 (ec 1 (qp 0 0) (ec 5 (qo 1) (ec 7 aM (ec 17 (qo 2) (ec 18 aM (ec 19 aM (ec 24 (ql 131) (ec 25 aM (ec 26 aM en))))))))) (sb 0 26 (lg 26) (sr 1 34 (sr 2 129 sn))) (λz=>⟨z.t.1,z.1.t.1,z.t.2.1,z.1.q.1,z.1.q.2.1,z.1.q.t.1,z.1.q.t.2.1,z.1.q.q.1,z.2.1⟩) (λx=>(((),(),x.t7,(),x.t18,x.t19,x.t24,x.t25,x.t26,()),(x.b0,x.t5,x.t17,()))))
def Gk(p:tX):af (af tX):=
 bif J (p.t26<p.t25)then if 0<=p.t26/\p.t26<p.t24.length then bif J (p.t24[p.t26.toNat]!.bz=p.t7)then match OP p.t24[p.t26.toNat]!.ag p.t24[p.t26.toNat]!.ah with|S=>S|V r3=>if(p.t5++[r3.fst]).length<=1073741824 then V (V (tX.mk (p.t5++[r3.fst]) p.t7 p.t17 p.t18 p.t19 p.t24 p.t25 (i64.wrap (p.t26+1)) p.b0))else S else V (V (tX.mk p.t5 p.t7 p.t17 p.t18 p.t19 p.t24 p.t25 (i64.wrap (p.t26+1)) p.b0))else S else V (S)
def av5(p:tX):ep w9 (F76) f76.ntmps 300 (bg f76 1) .no (af tX) (Mb.pat p) (Bd Mb.rd)=Gk p:=by kernel_rfl
def LP:=bK (Gk)
structure Ez where
 t5:List aH
 t17:List Int
 (t18 t19:Int)
 b0:aN
def LH:Td 0 Ez:= .c [] [1,5,17,18,19] (.t (cC.s 5 [] 34) (.c [] [1,5,17,18,19] (.r 0 3 (ec 1 (qp 0 0) (ec 5 (qo 1) (ec 17 (qo 2) (ec 18 aM (ec 19 aM en))))) (sb 0 26 (lg 26) (sr 1 34 (sr 2 129 sn))) (λz=>⟨z.t.1,z.t.2.1,z.1.t.2.1,z.1.q.1,z.2.1⟩) (λx=>(((),(),(),x.t18,x.t19,()),(x.b0,x.t5,x.t17,()))))))
def D5(p:Ez):af (af Ez):=
 bif J (p.t19<p.t18)then if 0<=p.t19/\p.t19<p.t17.length then if 129=129/\p.t19.toNat<p.t17.length then match LP (tX.mk p.t5 p.t17[p.t19.toNat]! p.t17 p.t18 p.t19 p.b0.aj p.b0.aj.length 0 p.b0)with|S=>S|V r1=>bif J (r1.t26<r1.t25)then if 0<=r1.t26/\r1.t26<r1.t24.length then bif J (r1.t24[r1.t26.toNat]!.bz=r1.t7)then match OP r1.t24[r1.t26.toNat]!.ag r1.t24[r1.t26.toNat]!.ah with|S=>S|V r2=>if(r1.t5++[r2.fst]).length<=1073741824 then S else S else S else S else V (V (Ez.mk r1.t5 r1.t17 r1.t18 (i64.wrap (r1.t19+1)) r1.b0))else S else S else V (S)
def aae:An:=(noTwo (noTwo (.two (noTwo (noTwo (Mb.lp LP .no))) .no)))
def avq(p:Ez):ep w9 (F76) f76.ntmps 300 (bg f76 0) aae (af Ez) (LH.pat p) (Bd LH.rd)=D5 p:=by kernel_rfl
def Mg:=bK (D5)
abbrev E76:=(aa aH)×Int
def d76:Td 0 E76:= .c [] [2,3] (.t (cC.s 2 [] 34) (.c [] [2,3] (.r 0 1 (ec 2 (qo 0) (ec 3 aM en)) (sr 0 34 sn) (λz=>(z.2.1,z.1.2.1)) (λx=>(((),x.2,()),(x.1,()))))))
def A76:=(lc (qg 26) ln)
def ayI:An:=(noTwo (noTwo (noTwo (.two (noTwo (LH.lp Mg aae)) .no))))
def aBr:cU w9 (F76) 0 300 76 (ayI):=bB (l:=[(bg f76 0,(LH.lp Mg aae)),(bg f76 1,(Mb.lp LP .no))]) func76 (aV (by kernel_rfl)) (by kernel_rfl) (aA ⟨LH.ok _,dR (avq)⟩ (aA ⟨Mb.ok _,dR (av5)⟩ aF))
def m76(a0:aN):af E76:=
 match Zb a0 with|S=>S|V r4=>bif bif J (r4=0)then G else O then V ([],r4)else match Mg (Ez.mk [] [1,3] (2:Int) 0 a0)with|S=>S|V r5=>bif J (r5.t19<r5.t18)then if 0<=r5.t19/\r5.t19<r5.t17.length then if 129=129/\r5.t19.toNat<r5.t17.length then match LP (tX.mk r5.t5 r5.t17[r5.t19.toNat]! r5.t17 r5.t18 r5.t19 r5.b0.aj r5.b0.aj.length 0 r5.b0)with|S=>S|V r6=>bif J (r6.t26<r6.t25)then if 0<=r6.t26/\r6.t26<r6.t24.length then bif J (r6.t24[r6.t26.toNat]!.bz=r6.t7)then match OP r6.t24[r6.t26.toNat]!.ag r6.t24[r6.t26.toNat]!.ah with|S=>S|V r7=>if(r6.t5++[r7.fst]).length<=1073741824 then S else S else S else S else S else S else S else V (r5.t5,0)
def c76(a0:aN):bM w9 (F76) 300 (ayI) 76 (A76.c (a0,())) [] 0 d76.rd=m76 a0:=by kernel_rfl
def e76:=eL w9 76 G A76 d76 (λg=>m76 g.1)
def AM{F:bf}(h:aQ w9 F):aQ w9 (e76 F):=cT (sc:=jM) cv (cH ar8 aBr (λ_=>by kernel_rfl) (λ_=>by kernel_rfl) λg=>c76 g.1) ⟨_,func76,by kernel_rfl,by kernel_rfl⟩ (λ_=>by kernel_rfl) (λ_=>by kernel_rfl) h
def F39:bf:=(ayw de)
def anh:aQ w9 F39:=(ae3 aP)
structure vi where
 t3:List aH
 t5:Int
 t10:List Int
 (t11 t12:Int)
 t17:List aX
 (t18 t19:Int)
 b0:aN
def KK:Td 0 vi:= .c [] [1,3,5,10,11,12,17,18,19] (.r 0 3 (ec 1 (qp 0 0) (ec 3 (qo 1) (ec 5 aM (ec 10 (qo 2) (ec 11 aM (ec 12 aM (ec 17 (ql 131) (ec 18 aM (ec 19 aM en))))))))) (sb 0 26 (lg 26) (sr 1 34 (sr 2 129 sn))) (λz=>⟨z.t.1,z.1.t.1,z.t.2.1,z.1.q.1,z.1.q.2.1,z.1.q.t.1,z.1.q.t.2.1,z.1.q.q.1,z.2.1⟩) (λx=>(((),(),x.t5,(),x.t11,x.t12,x.t17,x.t18,x.t19,()),(x.b0,x.t3,x.t10,()))))
def GH(p:vi):af (af vi):=
 bif J (p.t19<p.t18)then if 0<=p.t19/\p.t19<p.t17.length then bif J (p.t17[p.t19.toNat]!.bz=p.t5)then match iX p.t17[p.t19.toNat]!.ag p.t17[p.t19.toNat]!.ah 1with|S=>S|V r3=>if(p.t3++[r3.fst]).length<=1073741824 then V (V (vi.mk (p.t3++[r3.fst]) p.t5 p.t10 p.t11 p.t12 p.t17 p.t18 (i64.wrap (p.t19+1)) p.b0))else S else V (V (vi.mk p.t3 p.t5 p.t10 p.t11 p.t12 p.t17 p.t18 (i64.wrap (p.t19+1)) p.b0))else S else V (S)
def azt(p:vi):ep w9 (F39) f39.ntmps 300 (bg f39 1) .no (af vi) (KK.pat p) (Bd KK.rd)=GH p:=by kernel_rfl
def K4:=bK (GH)
structure CU where
 t3:List aH
 t10:List Int
 (t11 t12:Int)
 b0:aN
def Mh:Td 0 CU:= .c [] [1,3,10,11,12] (.t (cC.s 3 [] 34) (.c [] [1,3,10,11,12] (.r 0 3 (ec 1 (qp 0 0) (ec 3 (qo 1) (ec 10 (qo 2) (ec 11 aM (ec 12 aM en))))) (sb 0 26 (lg 26) (sr 1 34 (sr 2 129 sn))) (λz=>⟨z.t.1,z.t.2.1,z.1.t.2.1,z.1.q.1,z.2.1⟩) (λx=>(((),(),(),x.t11,x.t12,()),(x.b0,x.t3,x.t10,()))))))
def DK(p:CU):af (af CU):=
 bif J (p.t12<p.t11)then if 0<=p.t12/\p.t12<p.t10.length then if 129=129/\p.t12.toNat<p.t10.length then match K4 (vi.mk p.t3 p.t10[p.t12.toNat]! p.t10 p.t11 p.t12 p.b0.aj p.b0.aj.length 0 p.b0)with|S=>S|V r1=>bif J (r1.t19<r1.t18)then if 0<=r1.t19/\r1.t19<r1.t17.length then bif J (r1.t17[r1.t19.toNat]!.bz=r1.t5)then match iX r1.t17[r1.t19.toNat]!.ag r1.t17[r1.t19.toNat]!.ah 1with|S=>S|V r2=>if(r1.t3++[r2.fst]).length<=1073741824 then S else S else S else S else V (V (CU.mk r1.t3 r1.t10 r1.t11 (i64.wrap (r1.t12+1)) r1.b0))else S else S else V (S)
def WU:An:=(noTwo (noTwo (.two (noTwo (noTwo (KK.lp K4 .no))) .no)))
def awi(p:CU):ep w9 (F39) f39.ntmps 300 (bg f39 0) WU (af CU) (Mh.pat p) (Bd Mh.rd)=DK p:=by kernel_rfl
def MV:=bK (DK)
abbrev E39:=aa aH
def d39:Td 0 E39:= .c [] [2] (.r 0 1 (ec 2 (qo 0) en) (sr 0 34 sn) (λz=>z.2.1) (λx=>(((),()),(x,()))))
def A39:=(lc (qg 26) ln)
def au9:An:=(noTwo (noTwo (.two (noTwo (Mh.lp MV WU)) .no)))
def aDH:cU w9 (F39) 0 300 39 (au9):=bB (l:=[(bg f39 0,(Mh.lp MV WU)),(bg f39 1,(KK.lp K4 .no))]) func39 (aV (by kernel_rfl)) (by kernel_rfl) (aA ⟨Mh.ok _,dR (awi)⟩ (aA ⟨KK.ok _,dR (azt)⟩ aF))
def m39(a0:aN):af E39:=
 match MV (CU.mk [] [1,3] (2:Int) 0 a0)with|S=>S|V r4=>bif J (r4.t12<r4.t11)then if 0<=r4.t12/\r4.t12<r4.t10.length then if 129=129/\r4.t12.toNat<r4.t10.length then match K4 (vi.mk r4.t3 r4.t10[r4.t12.toNat]! r4.t10 r4.t11 r4.t12 r4.b0.aj r4.b0.aj.length 0 r4.b0)with|S=>S|V r5=>bif J (r5.t19<r5.t18)then if 0<=r5.t19/\r5.t19<r5.t17.length then bif J (r5.t17[r5.t19.toNat]!.bz=r5.t5)then match iX r5.t17[r5.t19.toNat]!.ag r5.t17[r5.t19.toNat]!.ah 1with|S=>S|V r6=>if(r5.t3++[r6.fst]).length<=1073741824 then S else S else S else S else S else S else S else V (r4.t3)
def c39(a0:aN):bM w9 (F39) 300 (au9) 39 (A39.c (a0,())) [] 0 d39.rd=m39 a0:=by kernel_rfl
def e39:=eL w9 39 G A39 d39 (λg=>m39 g.1)
def aoH{F:bf}(h:aQ w9 F):aQ w9 (e39 F):=cT (sc:=jM) cv (cH anh aDH (λ_=>by kernel_rfl) (λ_=>by kernel_rfl) λg=>c39 g.1) ⟨_,func39,by kernel_rfl,by kernel_rfl⟩ (λ_=>by kernel_rfl) (λ_=>by kernel_rfl) h
def Bw(v:aX):aH:=if v.ag=v.ah then⟨v.ag,v.ag,0⟩else⟨v.ag,v.ah,1⟩
def Y4{a b:Int}(h: -1048576<=a/\a<=b/\b<=1048576):i64.wrap (a+i64.wrap (i64.wrap ((i64.wrap (b-a)).tdiv 1)*1))=b:=by
 have w1:i64.wrap (b-a)=b-a:=aG;rw[w1,Int.tdiv_one,w1,Int.mul_one,w1,aG];omega
def adB{v:aX}(h: -1048576<=v.ag/\v.ag<=v.ah/\v.ah<=1048576):OP v.ag v.ah=V (Bw v,0):=by
 unfold OP adh lS iS gL Bw;rw[Y4 h];have d1:J (-1099511627776<=v.ag)=O:=nj;have d2:J (v.ag<=1099511627776)=O:=nj;have d3:J (-1099511627776<=v.ah)=O:=nj;have d4:J (v.ah<=1099511627776)=O:=nj;have d5:J (v.ah<v.ag)=G:=gd;by_cases he:v.ag=v.ah
 ·simp[d1,d2,d3,d4,d5,he]
 ·simp[d1,d2,d3,d4,d5,he]
def am3{v:aX}(h: -1048576<=v.ag/\v.ag<=v.ah/\v.ah<=1048576):iX v.ag v.ah 1=V (Bw v,0):=by
 unfold iX nO Bw;rw[Y4 h];have d1:J (-1099511627776<=v.ag)=O:=nj;have d2:J (v.ag<=1099511627776)=O:=nj;have d3:J (-1099511627776<=v.ah)=O:=nj;have d4:J (v.ah<=1099511627776)=O:=nj;have d5:J (v.ah<v.ag)=G:=gd;by_cases he:v.ag=v.ah
 ·simp[d1,d2,d3,d4,d5,he]
 ·simp[d1,d2,d3,d4,d5,he]
def j9(kind:Int)(l:aa aX):aa aH:=(l.filter λv=>J (v.bz=kind)).map Bw
def Gf(kind:Int)(l:aa aX)(v:aX):j9 kind (l++[v])=if v.bz=kind then j9 kind l++[Bw v]else j9 kind l:=by
 unfold j9;rw[y6,z8];by_cases h:v.bz=kind<;>simp[h]
def tK(kind:Int)(l:aa aX):(j9 kind l).length<=l.length:=by
 unfold j9;rw[zx];exact yp _ _
def Ml(f:aN)(hv:dc f.aj)(hl:f.aj.length<=1000000)(acc:aa aH)(ha:acc.length<=1000000)(kind:Int)(ks:aa Int)(n i:Int):LP ⟨acc,kind,ks,n,i,f.aj,(f.aj.length:Int),0,f⟩=V ⟨acc++j9 kind f.aj,kind,ks,n,i,f.aj,(f.aj.length:Int),(f.aj.length:Int),f⟩:=by
 obtain⟨v,e1,hV⟩:=cZ (rnd:=Gk) f.aj.length (λj (b:aa aH)=>⟨b,kind,ks,n,i,f.aj,(f.aj.length:Int),(j:Int),f⟩) (λj b=>b=acc++j9 kind (f.aj.take j)) (λj b hj hb=>by
  have hw:=fG hj hl;have hm:=adB (hv _ (bh hj));have hlen:=tK kind (f.aj.take j);rw[zH]at hlen;have hi1:(j:Int)<(f.aj.length:Int):=by omega
  have hi0:(0:Int)<=(j:Int):=by omega
  rw[bI hj,Gf];by_cases hk:f.aj[j]!.bz=kind
  ·refine⟨acc++(j9 kind (f.aj.take j)++[Bw f.aj[j]!]),?_,by rw[bG hk]⟩;subst hb;have hl2:((acc++j9 kind (f.aj.take j))++[Bw f.aj[j]!]).length<=1073741824:=by
    rw[zl,zl,yM];omega
   unfold Gk;dsimp only;simp only[ze,hi1,hi0,cR,bD,dA,cF,hk,hm,hl2,hw];rw[yQ]
  ·refine⟨b,?_,by rw[bP hk];exact hb⟩;unfold Gk;dsimp only;simp only[ze,hi1,hi0,cR,bD,bA,dA,cF,hk,eR,hw]) (λb _=>by unfold Gk;simp) (b:=acc) (by simp[j9])
 rw[zD]at hV;rw[<-hV];exact e1
def M5(f:aN)(hv:dc f.aj)(hl:f.aj.length<=1000000)(acc:aa aH)(ha:acc.length<=1000000)(kind:Int)(ks:aa Int)(n i:Int):K4 ⟨acc,kind,ks,n,i,f.aj,(f.aj.length:Int),0,f⟩=V ⟨acc++j9 kind f.aj,kind,ks,n,i,f.aj,(f.aj.length:Int),(f.aj.length:Int),f⟩:=by
 obtain⟨v,e1,hV⟩:=cZ (rnd:=GH) f.aj.length (λj (b:aa aH)=>⟨b,kind,ks,n,i,f.aj,(f.aj.length:Int),(j:Int),f⟩) (λj b=>b=acc++j9 kind (f.aj.take j)) (λj b hj hb=>by
  have hw:=fG hj hl;have hm:=am3 (hv _ (bh hj));have hlen:=tK kind (f.aj.take j);rw[zH]at hlen;have hi1:(j:Int)<(f.aj.length:Int):=by omega
  have hi0:(0:Int)<=(j:Int):=by omega
  rw[bI hj,Gf];by_cases hk:f.aj[j]!.bz=kind
  ·refine⟨acc++(j9 kind (f.aj.take j)++[Bw f.aj[j]!]),?_,by rw[bG hk]⟩;subst hb;have hl2:((acc++j9 kind (f.aj.take j))++[Bw f.aj[j]!]).length<=1073741824:=by
    rw[zl,zl,yM];omega
   unfold GH;dsimp only;simp only[ze,hi1,hi0,cR,bD,dA,cF,hk,hm,hl2,hw];rw[yQ]
  ·refine⟨b,?_,by rw[bP hk];exact hb⟩;unfold GH;dsimp only;simp only[ze,hi1,hi0,cR,bD,bA,dA,cF,hk,eR,hw]) (λb _=>by unfold GH;simp) (b:=acc) (by simp[j9])
 rw[zD]at hV;rw[<-hV];exact e1
def nU(f:aN):aa aH:=j9 1 f.aj++j9 3 f.aj
def ZQ(f:aN)(hv:dc f.aj)(hl:f.aj.length<=1000):Mg ⟨[],[1,3],2,0,f⟩=V ⟨nU f,[1,3],2,2,f⟩:=by
 have b1:=tK 1 f.aj;have e1:=Ml f hv (by omega) [] (by simp) 1 [1,3] 2 0;have e2:=Ml f hv (by omega) (j9 1 f.aj) (by omega) 3 [1,3] 2 1;have w0:i64.wrap 1=1:=rfl;have w1:i64.wrap 2=2:=rfl;have r1:D5 ⟨[],[1,3],2,0,f⟩=V (V ⟨j9 1 f.aj,[1,3],2,1,f⟩):=by
  unfold D5;simp[e1,w0]
 have r2:D5 ⟨j9 1 f.aj,[1,3],2,1,f⟩=V (V ⟨nU f,[1,3],2,2,f⟩):=by
  unfold D5;simp[e2,w1,nU]
 unfold Mg;rw[bQ r1,bQ r2];exact cu λr=>by unfold D5;simp
def WQ(f:aN)(hv:dc f.aj)(hl:f.aj.length<=1000):MV ⟨[],[1,3],2,0,f⟩=V ⟨nU f,[1,3],2,2,f⟩:=by
 have b1:=tK 1 f.aj;have e1:=M5 f hv (by omega) [] (by simp) 1 [1,3] 2 0;have e2:=M5 f hv (by omega) (j9 1 f.aj) (by omega) 3 [1,3] 2 1;have w0:i64.wrap 1=1:=rfl;have w1:i64.wrap 2=2:=rfl;have r1:DK ⟨[],[1,3],2,0,f⟩=V (V ⟨j9 1 f.aj,[1,3],2,1,f⟩):=by
  unfold DK;simp[e1,w0]
 have r2:DK ⟨j9 1 f.aj,[1,3],2,1,f⟩=V (V ⟨nU f,[1,3],2,2,f⟩):=by
  unfold DK;simp[e2,w1,nU]
 unfold MV;rw[bQ r1,bQ r2];exact cu λr=>by unfold DK;simp
def am0(f:aN)(h:fI f.bH+jr (f.ak.map (·.az))<=900)(hh:f.ak.length<=1000000)(hvl:f.aj.length<=1000):m76 f=V (if oD f=0 then(nU f,0)else([],oD f)):=by
 unfold m76;rw[TC f h hh (by omega)];dsimp only;by_cases hc:oD f=0
 ·rw[bG hc,bW hc];have hv:=kZ hc;rw[show ((↑(2:Int):Int))=2 from rfl,ZQ f hv hvl];simp
 ·rw[bP hc,bX hc];rfl
def aob(f:aN)(hv:dc f.aj)(hvl:f.aj.length<=1000):m39 f=V (nU f):=by
 unfold m39;rw[show ((↑(2:Int):Int))=2 from rfl,WQ f hv hvl];simp
def aby:bf:=oA w9 (Ws (e40 de)) (λf=>zf f 35||zf f 40) 300 60
def Tu:aQ w9 aby:=⟨mZ (oc (sK aP)).ok (oc (sK aP)).nat 300 60,kM (oc (sK (aP (P:=w9)))).nat 300 60⟩
def f45:aN:=⟨[⟨⟨#[120]⟩,1,0,3,0⟩],[],[⟨1,1,0,0,⟨15,0,[⟨24,0,[]⟩,⟨0,2,[]⟩]⟩,[],[],[]⟩]⟩
def v45:bY:=⟨[],G⟩
def afp:aN->Bool
 |⟨[a],[],[⟨d,c,v,n,⟨o,m,[⟨o1,n1,[]⟩,⟨o2,n2,[]⟩]⟩,[],[],[]⟩]⟩=>J (a=⟨⟨#[120]⟩,1,0,3,0⟩)&&J ([d,c,v,n,o,m,o1,n1,o2,n2]=[1,1,0,0,15,0,24,0,0,2])
 |_=>G
def aiF{f:aN}(h:afp f=O):f=f45:=by
 unfold afp at h;split at h
 ·simp only[zi,decide_eq_true_eq,List.cons.injEq,and_true]at h;obtain⟨rfl,rfl,rfl,rfl,rfl,rfl,rfl,rfl,rfl,rfl,rfl⟩:=h;rfl
 ·cases h
def VS{β:Type}(T:aa (aa aH×β))(g:aN×bY×aa aH×Unit):af β:=bif afp g.1&&J (g.2.1=v45)then(T.find? λp=>J (p.1=g.2.2.1)).map (·.2)else S
def RR{β:Type}{T:aa (aa aH×β)}{g:aN×bY×aa aH×Unit}{b:β}(h:VS T g=V b):∃x,(x,b)∈T/\g=(f45,v45,x,()):=by
 obtain⟨f,v,x,_⟩:=g;unfold VS at h;cases k:afp f&&J (v=v45)with
 |false=>simp only[k]at h;cases h
 |true=>
  simp only[k,bD]at h;rw[zi,decide_eq_true_eq]at k;obtain⟨p,h1,rfl⟩:=zj.1 h;have h2:=List.find?_some h1;rw[decide_eq_true_eq]at h2;exact⟨x,h2▸List.mem_of_find?_eq_some h1,by rw[aiF k.1,k.2]⟩
def t25:aa (aa aH×Int×Int):=[([⟨0,3,1⟩],2,0),([⟨0,1,1⟩],1,0),([⟨2,3,1⟩],1,0)]
def t26:aa (aa aH×aD×Bool×Int):=[([⟨0,3,1⟩],⟨[],0⟩,G,0),([⟨0,1,1⟩],⟨[1],0⟩,O,0),([⟨2,3,1⟩],⟨[0],0⟩,O,0)]
def au4:cU w9 aby 0 300 25 .no:=bB (l:=[]) func25 (aV (by kernel_rfl)) (by kernel_rfl) aF
def awL:cU w9 aby 0 300 26 .no:=bB (l:=[]) func26 (aV (by kernel_rfl)) (by kernel_rfl) aF
def k25:(t25.map λp=>bM w9 aby 300 .no 25 (A25.c (f45,v45,p.1,())) [] 0 d25.rd)=t25.map λp=>V p.2:=by kernel_rfl
def k26:(t26.map λp=>bM w9 aby 300 .no 26 (A26.c (f45,v45,p.1,())) [] 0 d26.rd)=t26.map λp=>V p.2:=by kernel_rfl
def aDB:HL w9 25 A25 d25 (VS t25):=λg b hb=>by
 obtain⟨x,h1,rfl⟩:=RR hb;exact(jC (out:=λp=>gN w9 25 0 (d25.pat p)) (p:=b) Tu au4 d25.ok (λp=>by kernel_rfl) (iw (by kernel_rfl)) (gX (by kernel_rfl)) (List.map_inj_left.1 k25 _ h1)).2
def aDJ:HL w9 26 A26 d26 (VS t26):=λg b hb=>by
 obtain⟨x,h1,rfl⟩:=RR hb;exact(jC (out:=λp=>gN w9 26 0 (d26.pat p)) (p:=b) Tu awL d26.ok (λp=>by kernel_rfl) (iw (by kernel_rfl)) (gX (by kernel_rfl)) (List.map_inj_left.1 k26 _ h1)).2
def x25:bf->bf:=eL w9 25 G A25 d25 (VS t25)
def x26:bf->bf:=eL w9 26 G A26 d26 (VS t26)
def aoC{F:bf}(h:aQ w9 F):aQ w9 (x25 F):=cT (sc:=jM) cv aDB ⟨_,func25,by kernel_rfl,by kernel_rfl⟩ (λ_=>by kernel_rfl) (λ_=>by kernel_rfl) h
def apz{F:bf}(h:aQ w9 F):aQ w9 (x26 F):=cT (sc:=jM) cv aDJ ⟨_,func26,by kernel_rfl,by kernel_rfl⟩ (λ_=>by kernel_rfl) (λ_=>by kernel_rfl) h
def F45:bf:=x25 (x26 (Ws (e40 de)))
def Zo:aQ w9 F45:=aoC (apz (oc (sK aP)))
abbrev E45:=Bool
def d45:Td 0 E45:= .c [] [0] (.r 0 0 (ec 0 qb en) sn (λz=>z.1.1) (λx=>((x,()),(()))))
def A45:=ln
def m45:E45:=O
def asH:Prop:=HL w9 45 A45 d45 (λ_=>V m45)
def e45:=eL w9 45 G A45 d45 (λ_=>V m45)
def ajQ(hv:asH){F:bf}(h:aQ w9 F):aQ w9 (e45 F):=cT (sc:=jM) cv hv ⟨_,func45,by kernel_rfl,by kernel_rfl⟩ (λ_=>by kernel_rfl) (λ_=>by kernel_rfl) h
def aav{F:bf}{f:Nat}(h:bw F f):bw (e45 F) f:=eS h (λ_=>by kernel_rfl)
def t45:oA w9 F45 (λf=>zf f 25||zf f 26||zf f 35||zf f 40) 300 60 Bool 45 [] [] 0 (PA P7)=V O:=by kernel_rfl
def Po{P:Program}{f:FuncId}{xs:aa AV}{d:AV}(h:Iv.Fn P f xs [] (λa s=>a=d/\s=[]))(ha:∀ρ:Gh,xs.map (bZ.sub ρ)=xs)(hd:∀ρ:Gh,d.sub ρ=d):Lu P f xs [] 0 ⟨d,[],0⟩:=λρ=>by
 rw[ha ρ];exact h.mono λa s ⟨h1,h2⟩=>⟨ρ,λ_ _=>⟨rfl,rfl⟩,by rw[h1];exact(hd ρ).symm,by rw[h2];exact List.Perm.refl _⟩
def ar1:gN w9 45 0 (d45.pat m45)=⟨.b O,[],0⟩:=by kernel_rfl
def aCJ:asH:=λg b hb=>by
 cases hb;rw[ar1];exact Po (On (mZ (P:=w9) Zo.ok Zo.nat 300 60) P0.b rfl (λd hd=>by cases hd) t45).2 (λ_=>rfl) (λρ=>jY 2 (by kernel_rfl))
end Go.Proofs.YtnfljbehcffmcaaGreat
end
noncomputable section
namespace Go.Iv
variable [U:ru] [L:l7]
open Go Go.RowKit
end Go.Iv
end
noncomputable section
set_option maxRecDepth 100000
namespace Go.Proofs.YtnfljbehcffmcaaGreat
open Go Go.Iv
open Go.IntKind (i64 u64)
def aqX:bf:=(e21 de)
def ad8:aQ w9 aqX:=(aoN aP)
abbrev atg:=Int
def d119:Td 0 atg:= .c [] [6] (.r 0 0 (ec 6 aM en) sn (λz=>z.1.1) (λx=>((x,()),(()))))
def avI:=(lc (qg 26) (lc (qg 29) (lc (ql 34) ln)))
def amt:An:= .no
def axK:cU w9 (aqX) 0 300 119 (amt):=bB (l:=[]) func119 (aV (by kernel_rfl)) (by kernel_rfl) aF
def aeS(a0:aN)(a1:bY)(a2:aa aH):af atg:=
 match m21 a0 a1 a2 with|S=>S|V r1=>V (r1)
def aBL(a0:aN)(a1:bY)(a2:aa aH):bM w9 (aqX) 300 (amt) 119 (avI.c (a0,a1,a2,())) [] 0 d119.rd=aeS a0 a1 a2:=by kernel_rfl
def ayX:=eL w9 119 G avI d119 (λg=>aeS g.1 g.2.1 g.t.1)
def ajf{F:bf}(h:aQ w9 F):aQ w9 (ayX F):=cT (sc:=jM) cv (cH ad8 axK (λ_=>by kernel_rfl) (λ_=>by kernel_rfl) λg=>aBL g.1 g.2.1 g.t.1) ⟨_,func119,by kernel_rfl,by kernel_rfl⟩ (λ_=>by kernel_rfl) (λ_=>by kernel_rfl) h
def F55:bf:=(ayX de)
def aoK:aQ w9 F55:=(ajf aP)
abbrev E55:=Int
def d55:Td 0 E55:= .c [] [4] (.r 0 0 (ec 4 aM en) sn (λz=>z.1.1) (λx=>((x,()),(()))))
def A55:=(lc (qg 26) (lc (qg 29) ln))
def awp:An:=(noTwo (.two (noTwo (.two (.rb [] 14) .no)) .no))
def aCS:∀f∈([]:aa Nat),bw (F55) f:=aF
def aBC:cU w9 (F55) 0 300 55 (awp):=bB (l:=[(.skip,(.rb [] 14))]) func55 (aV (by kernel_rfl)) (by kernel_rfl) (aA aCS aF)
def m55(a0:aN)(a1:bY):af E55:=
 match aeS a0 a1 []with|S=>S|V r1=>match bif bif J (r1=0)then G else O then V (bif J (r1=2)then G else O)else V (G)with|S=>S|V r2=>bif r2 then V (r1)else V (0)
def c55(a0:aN)(a1:bY):bM w9 (F55) 300 (awp) 55 (A55.c (a0,a1,())) [] 0 d55.rd=m55 a0 a1:=by kernel_rfl
def e55:=eL w9 55 G A55 d55 (λg=>m55 g.1 g.2.1)
def arX{F:bf}(h:aQ w9 F):aQ w9 (e55 F):=cT (sc:=jM) cv (cH aoK aBC (λ_=>by kernel_rfl) (λ_=>by kernel_rfl) λg=>c55 g.1 g.2.1) ⟨_,func55,by kernel_rfl,by kernel_rfl⟩ (λ_=>by kernel_rfl) (λ_=>by kernel_rfl) h
def Fz{F:bf}{f:Nat}(h:bw F f):bw (e55 F) f:=eS h (λ_=>by kernel_rfl)
def qM{α:Type}{c:Nat->α->Int}{k:Int}(hk:k≠0)(h:∀i x,c i x≠k):∀(l:aa α) (i:Nat),cq c l i≠k
 |[],_=>by unfold cq;omega
 |x::l,i=>by
  unfold cq;have:=qM hk h l (i+1);have:=h i x;split<;>assumption
def NP(vars:aa aX)(inp:Bool)(t:au):eV vars inp t≠2:=by unfold eV;grind
def vk(f:aN):∀(top:Bool) (l:aa ay),cg f top l≠2
 |_,[]=>by rw[cg];decide
 |top,s::l=>by
  rw[cg];have h1:=vk f G s.aL;have h2:=vk f G s.aR;have h3:=vk f top l;have h0:nh f (top&&l.isEmpty) s≠2:=by
   have:=NP f.aj G s.az;unfold nh;grind
  grind
termination_by _ l=>zg l
decreasing_by
 all_goals first|exact(bt (zm ..)).1|exact(bt (zm ..)).2|exact dV _ _
def ap2(f:aN):oD f≠2:=by
 have h1:jq f.aj≠2:=by
  have:=qM (c:=k8 f.aj) (k:=2) (by decide) (λi x=>by unfold k8;grind) f.aj 0;unfold jq;grind
 have h2:=qM (c:=kg f) (k:=2) (by decide) (λi x=>by have:=NP f.aj O x.az;unfold kg;grind) f.ak 0;have h3:=vk f O f.bH;unfold oD;grind
def cdA(f:aN)(v:bY):Int:=if oD f≠0 then oD f else if v.aU.length≠(f.aj.filter (kd 2)).length then 1 else cq (jg v.aU) (f.aj.filter (kd 2)) 0
def aot(f:aN)(v:bY):cdA f v≠2:=by
 have:=ap2 f;have:=qM (c:=jg v.aU) (k:=2) (by decide) (λi x=>by
  unfold jg;cases J (v.aU[i]! <x.ag)<;>cases J (x.ah<v.aU[i]!)<;>decide) (f.aj.filter (kd 2)) 0
 unfold cdA;grind
def aim(f:aN)(v:bY):uc f v []=cdA f v\/(cdA f v=0/\uc f v []=2):=by
 unfold uc cdA;by_cases h1:oD f=0
 case neg=>simp[h1]
 by_cases h2:v.aU.length=(f.aj.filter (kd 2)).length
 case neg=>simp[h1,h2]
 by_cases h3:cq (jg v.aU) (f.aj.filter (kd 2)) 0=0
 case neg=>simp[h1,h2,h3]
 by_cases h4:(dZ f.aj).length=0
 ·have h5:=xe.1 h4;simp[h1,h2,h3,h5,cq]
 ·have h5:¬(0:Nat)=(dZ f.aj).length:=λh=>h4 h.symm;simp[h1,h2,h3,h5]
def avw{f:aN}(h:fI f.bH+jr (f.ak.map (·.az))<=900)(hh:f.ak.length<=1000)(hl:f.aj.length<=1000)(v:bY):m55 f v=V (cdA f v):=by
 unfold m55 aeS;rw[axF h hh hl];have:=aot f v;rcases aim f v with k|⟨k1,k2⟩
 ·rw[k];by_cases c0:cdA f v=0<;>simp[c0,this]
 ·rw[k1,k2];rfl
def F7{α:Type}[Inhabited α]{c:Nat->α->Int}:∀(l:aa α) (i:Nat),(∀j,j<l.length->c (i+j) l[j]! =0)->cq c l i=0
 |[],_,_=>rfl
 |x::l,i,h=>by
  unfold cq;have h0:=h 0 (by simp);rw[yq]at h0;rw[bG (show c i x=0 from h0)];refine F7 l (i+1) λj hj=> ?_;have:=h (j+1) (by simpa using hj);rw[show i+1+j=i+(j+1)by omega];simpa using this
def abv(f:aN):nU f=(dZ f.aj).map Bw:=by
 unfold nU j9 dZ;rw[z8];rfl
def Pc{f:aN}(hc:oD f=0){j:Nat}(hj:j<(dZ f.aj).length): -1048576<=(dZ f.aj)[j]!.ag/\(dZ f.aj)[j]!.ag<=(dZ f.aj)[j]!.ah/\(dZ f.aj)[j]!.ah<=1048576:=by
 refine kZ hc _ ?_;have:=bh hj;unfold dZ at this;rcases zV.1 this with k|k<;>exact(zZ.1 k).1
def Zi{l:aa Int}(h:l.length<=1000):Ug l=V l:=by unfold Ug;rw[ig]
def jj:aa Int->aa Int->Int
 |[],[]=>0
 |[],_::_=> -1
 |_::_,[]=>1
 |x::a,y::b=>if x<y then-1 else if y<x then 1 else jj a b
def qd:∀a b,jj b a= -jj a b
 |[],[]=>rfl
 |[],_::_=>rfl
 |_::_,[]=>rfl
 |x::a,y::b=>by
  have:=qd a b;unfold jj;split<;>split<;>(try split)<;>omega
def BX:∀a b c,jj a b<=0->jj b c<=0->jj a c<=0
 |[],[],_,_,h=>h
 |[],_::_,[],_,h=>by unfold jj at h;omega
 |[],_::_,_::_,_,_=>by unfold jj;omega
 |_::_,[],_,h,_=>by unfold jj at h;omega
 |_::_,_::_,[],_,h=>by unfold jj at h;omega
 |x::a,y::b,z::c,h,k=>by
  have:=BX a b c;simp only[jj]at h k ⊢;split at h<;>split at k<;>split<;>(try split)<;>(try split at h)<;>(try split at k)<;>omega
def qK:∀a b,jj a b=0->a=b
 |[],[],_=>rfl
 |[],_::_,h=>by unfold jj at h;omega
 |_::_,[],h=>by unfold jj at h;omega
 |x::a,y::b,h=>by
  unfold jj at h;split at h
  ·omega
  ·split at h
   ·omega
   ·rw[qK a b h,show x=y by omega]
def Hj:∀a,jj a a=0
 |[]=>rfl
 |x::a=>by unfold jj;rw[Hj a];simp
def fq(x y:aD):Int:=if jj x.aW y.aW≠0 then jj x.aW y.aW else if x.aI<y.aI then-1 else if y.aI<x.aI then 1 else 0
def eF(a b:aD):fq b a= -fq a b:=by
 have:=qd a.aW b.aW;unfold fq;grind
def oo(a b c:aD)(h:fq a b<=0)(k:fq b c<=0):fq a c<=0:=by
 have h1:=BX a.aW b.aW c.aW;have h2:=qK a.aW b.aW;have h3:=qK b.aW c.aW;have h4:=qd a.aW c.aW;have h5:=BX c.aW a.aW b.aW;have h6:=BX b.aW c.aW a.aW;have h7:=qd b.aW c.aW;have h8:=qd a.aW b.aW;unfold fq at*;by_cases e1:jj a.aW b.aW=0
 ·have:=h2 e1;rw[bP (by omega)]at h;rw[this];by_cases e2:jj b.aW c.aW=0
  ·rw[bP (by omega)]at k;rw[bP (by omega)];split at h<;>split at k<;>split<;>(try split at h)<;>(try split at k)<;>(try split)<;>omega
  ·rw[bG e2]at k;rw[bG e2];exact k
 ·rw[bG e1]at h;by_cases e2:jj b.aW c.aW=0
  ·rw[<-h3 e2,bG e1];exact h
  ·rw[bG e2]at k;have h9:=h1 h k;have:jj a.aW c.aW≠0:=λe=>by
    have:=h5 (by omega) h;omega
   rw[bG this];exact h9
def GP{a b:aD}(h:fq a b=0):a=b:=by
 unfold fq at h;split at h
 ·exact dF h ‹_›
 ·have e:=qK a.aW b.aW (by omega);split at h
  ·omega
  ·split at h
   ·omega
   ·obtain⟨a1,a2⟩:=a;obtain⟨b1,b2⟩:=b;simp only at*;rw[e,show a2=b2 by omega]
def Gz(a:aD):fq a a=0:=by unfold fq;simp[Hj]
def aiS(x y:Int):FM x y=if x<y then-1 else if y<x then 1 else 0:=by
 unfold FM FW;simp only[cR,bD,bA];by_cases h:x<y
 ·simp[h]
 ·by_cases k:y<x<;>simp[h,k]
def wI{i n:Nat}(h:i<n)(hn:n<=9223372036854775807):i64.wrap ((i:Int)+1)=((i+1:Nat):Int):=by rw[aG (by omega) (by omega)];omega
def aeI(a b:aa Int)(ha:a.length<=9223372036854775807):abC a b=V (jj a b):=by
 obtain⟨step,hs⟩:∃step:Nat->Unit->Int->Unit ⊕ Int,step=λi _ x=>if b.length<=i then .inr 1 else if FM x b[i]!≠0 then .inr (FM x b[i]!)else .inl ():=⟨_,rfl⟩
 obtain⟨fin,hf⟩:∃fin:Unit->af Int,fin=λ_=>V (if a.length<b.length then-1 else 0):=⟨_,rfl⟩;obtain⟨i,v,e1,-,hI⟩:=Sl (rnd:=sw) a (λi (_:Unit)=>⟨a,b,a,(a.length:Int),(i:Int)⟩) step V fin (λ_ _=>True) (λi v hi _=>by
  have hw:=wI hi ha;have i1:(i:Int)<(a.length:Int):=by omega
  have i2:(0:Int)<=(i:Int):=by omega
  rw[hs];refine⟨λb' h=>⟨?_,trivial⟩,λr h=> ?_⟩<;>dsimp only at h
  ·split at h
   ·cases h
   ·split at h
    ·cases h
    ·rename_i g1 g2;have g3:¬(b.length:Int)<=(i:Int):=by omega
     have g4:(i:Int)<(b.length:Int):=by omega
     unfold sw;simp only[ze,i1,i2,g3,g4,cR,eR,bD,bA,dA,cF,hw,Decidable.not_not.1 g2]
  ·split at h
   ·rename_i g1;have g3:(b.length:Int)<=(i:Int):=by omega
    unfold sw;simp only[ze,i1,i2,g3,cR,bD,dA,cF]
   ·split at h
    ·rename_i g1 g2;have g3:¬(b.length:Int)<=(i:Int):=by omega
     have g4:(i:Int)<(b.length:Int):=by omega
     unfold sw;simp only[ze,i1,i2,g3,g4,cR,eR,bD,bA,dA,cF,g2]
    ·cases h) (λv _=>by unfold sw;simp) (b:=()) trivial
 have e1':Jc ⟨a,b,a,(a.length:Int),0⟩=V ⟨a,b,a,(a.length:Int),(i:Int)⟩:=e1;have key:∀(l:aa Int) (k:Nat),k<=b.length->a.length=k+l.length->Ll step V fin l k ()=V (jj l (b.drop k)):=by
  intro l;induction l with
  |nil=>
   intro k hk hl;simp only[Ll,hf];simp only[yG,yq]at hl;by_cases h:k=b.length
   ·rw[h,List.drop_length,bP (by omega)];rfl
   ·rw[xu (by omega),bG (by omega)];rfl
  |cons x l ih=>
   intro k hk hl;simp only[yX]at hl;by_cases h:k=b.length
   ·rw[ny (r:=1) (by rw[hs];simp[h]),h,List.drop_length];rfl
   ·have hk':k<b.length:=by omega
    rw[xu hk'];have e:=aiS x b[k]!;have eb:b[k]! =b[k]:=getElem!_pos b k hk';rw[eb]at e;unfold jj;by_cases h1:x<b[k]
    ·rw[ny (r:= -1) (by rw[hs];simp[show ¬b.length<=k by omega,e,eb,h1]),bG h1]
    ·by_cases h2:b[k]<x
     ·rw[ny (r:=1) (by rw[hs];simp[show ¬b.length<=k by omega,e,eb,h1,h2]),bP h1,bG h2]
     ·rw[rz (b':=()) (by rw[hs];simp[show ¬b.length<=k by omega,e,eb,h1,h2]),bP h1,bP h2];exact ih (k+1) (by omega) (by omega)
 have hk:=key a 0 (by omega) (by omega);rw[List.drop_zero]at hk;rw[<-hk];unfold abC;simp only[e1'];rcases hI with ⟨rfl,hg⟩|⟨hi,r,hr,hg⟩
 ·rw[hg,hf];simp only[yo,eR,bA];by_cases h:a.length<b.length
  ·rw[bG h,bW (by omega:(a.length:Int)<(b.length:Int))];rfl
  ·rw[bP h,bX (by omega:¬(a.length:Int)<(b.length:Int))];rfl
 ·rw[hg];have i1:(i:Int)<(a.length:Int):=by omega
  have i2:(0:Int)<=(i:Int):=by omega
  rw[hs]at hr;simp only at hr;split at hr
  ·rename_i g1;have g3:(b.length:Int)<=(i:Int):=by omega
   simp only[ze,i1,i2,g3,cR,bD,dA,cF];cases hr;rfl
  ·split at hr
   ·rename_i g1 g2;have g3:¬(b.length:Int)<=(i:Int):=by omega
    have g4:(i:Int)<(b.length:Int):=by omega
    simp only[ze,i1,i2,g3,g4,cR,eR,bD,bA,dA,cF,g2];cases hr;rfl
   ·cases hr
def vm(a b:aD)(ha:a.aW.length<=9223372036854775807):FV a b=V (fq a b):=by
 unfold FV fq;rw[aeI _ _ ha];dsimp only;by_cases h:jj a.aW b.aW=0
 ·by_cases h1:a.aI<b.aI
  ·simp[h,h1]
  ·by_cases h2:b.aI<a.aI<;>simp[h,h1,h2]
 ·simp[h]
def vz:aD->aa aD->aa aD
 |_,[]=>[]
 |p,y::l=>if fq y p=0 then vz y l else y::vz y l
def EH:aa aD->aa aD
 |[]=>[]
 |x::l=>x::vz x l
end Go.Proofs.YtnfljbehcffmcaaGreat
end
noncomputable section
namespace Go.Proofs.YtnfljbehcffmcaaGreat
open Go Go.Iv Go.Sort Go.Proofs
abbrev Ob(A:Nat->Prop)(w:World):={p:aD×aa Value//p.2.length=2/\bL A w (uni.cells 47 p.1) p.2}
section
variable {A:Nat->Prop} {w:World}
def akF{o:aD}{us:aa Value}(h:us.length=2/\bL A w (uni.cells 47 o) us):∃u v,us=[u,v]/\Rel A w (.sl 3 o.aW) u/\v= .int .i64 o.aI:=by
 obtain⟨h1,h2⟩:=h
 match us,h1 with
 |[u,v],_=>exact⟨u,v,rfl,h2.2 0 _ _ rfl rfl,(h2.2 1 (.lit (.int .i64 o.aI)) v rfl rfl).cK⟩
def XX{o:aD}{u:Value}(h:Rel A w (.sl 3 o.aW) u):bL A w (uni.cells 47 o) [u, .int .i64 o.aI]:=
 ⟨rfl,λj a v h1 h2=>by
  match j with
  |0=>cases h1;cases h2;exact h
  |1=>cases h1;cases h2;exact .lit _
  |j+2=>cases h1⟩
def avl:Rel A w (.sl 3 ([]:aa Int)) (.slice none 0 0):=Rel.sl (U:=uni) 3 [] none 0 (λ_ _=> .int .i64 0) (yZ _) (zo _) (λi hi=>by cases hi) (λi hi=>by cases hi) (λi j a hi=>by cases hi)
instance:Inhabited (Ob A w):=⟨⟨(⟨[],0⟩,[.slice S 0 0, .int .i64 0]),rfl,XX avl⟩⟩
def oG(x:Ob A w):aa Value:=x.1.2
def uT(x:Ob A w):(oG x).length=2:=x.2.1
def SM(x:Ob A w):∀v∈oG x,v.oneCell'=O:=λv hv=>by
 obtain⟨u,t,h1,h2,h3⟩:=akF x.2;unfold oG at hv;rw[h1]at hv;rcases zB.1 hv with rfl|hv
 ·cases h2;rfl
 ·rw[zy.1 hv,h3];rfl
def amn(x:Ob A w):x.1.1.aW.length<=9223372036854775807:=by
 obtain⟨u,t,h1,h2,h3⟩:=akF x.2;generalize x.1.1.aW=l at h2;cases h2 with
 |sl t l p cap u hl hcap hz hc hr=>exact hl
def Vc{α:Type}[Inhabited α](enc:α->aa Value)(d:Array α){us:aa Value}(h1:us.length=d.size*2)(h:∀i,i<d.size->enc d[i]! =(us.drop (i*2)).take 2):flatK enc 2 d=us.toArray:=by
 refine ext_get! (by simp[h1]) λt ht=> ?_;have ht:t<d.size*2:=by simpa using ht
 rw[get_flatK _ _ _ _ ht,h _ (by omega)];have e:(us.toArray:Array Value)[t]! =us[t]! :=by simp
 rw[e,getElem!_pos us t (by omega),getElem!_pos _ _ (by simp;omega),we,wH]
 congr 1
 omega
def Ho{α:Type}[Inhabited α]{enc:α->aa Value}{d:Array α}{W:World}{g:Nat}{cur:Array Value}{T:TypeId}{us:aa Value}(hb:W.heap[g]? =V (.cells cur T (0,0)))(hf:flatK enc 2 d=us.toArray)(hc:cur.toList.take us.length=us):HoldsK enc 2 W g 0 d:=by
 unfold HoldsK;rw[hf];intro j hj;have hj':j<us.length:=by simpa using hj
 refine⟨?_,by simp[World.frozen?,hb]⟩;have h1:(cur.toList.take us.length)[j]? =us[j]? :=by rw[hc]
 rw[wO hj']at h1;simp only[World.cell?,hb,yl];simp only[Option.isSome_none,yu,gA];rw[<-wY,h1];simp[hj']
def sO{α:Type}[Inhabited α]{enc:α->aa Value}{W:World}{g m:Nat}{dk:Array α}{os:Array Obj}{cur:Array Value}{T:TypeId}(hb:W.heap[g]? =V (.cells cur T (0,0))):
  (sortWorldK enc 2 W g 0 m dk os).heap[g]? =V (.cells (putCells id 0 (flatK enc 2 dk) cur) T (0,0)):=by
 have hg:g<W.heap.size:=(xE.1 hb).1;unfold sortWorldK putRowK;rw[heap_grow_old _ _ (by simpa using hg)];simp[putRow,mapBlock,Sort.ahead,wZ,hb,onCells]
def oV{α:Type}[Inhabited α]{enc:α->aa Value}{W:World}{g m:Nat}{dk:Array α}{os:Array Obj}{b:Nat}(hb:b<W.heap.size)(hne:b≠g):
  (sortWorldK enc 2 W g 0 m dk os).heap[b]? =W.heap[b]? :=by
 unfold sortWorldK putRowK;rw[heap_grow_old _ _ (by simpa using hb)];simp[putRow,mapBlock,Sort.ahead,wZ,Ne.symm hne]
def Oq{α:Type}[Inhabited α]{enc:α->aa Value}{W:World}{g m:Nat}{dk:Array α}{os:Array Obj}:W.heap.size<=(sortWorldK enc 2 W g 0 m dk os).heap.size:=size_sortWorldK_c enc 2 W g 0 m dk os
def Mx{α:Type}[Inhabited α]{enc:α->aa Value}{W:World}{g m:Nat}{dk:Array α}{os:Array Obj}:Kp [g] W (sortWorldK enc 2 W g 0 m dk os):=
 ⟨rfl,rfl,rfl,Nat.le_add_right _ _,Oq,λk hk hn=>oV hk (by simpa using hn)⟩
def KZ{F cur:Array Value}(h:F.size<=cur.size):(putCells id 0 F cur).toList.take F.size=F.toList:=by
 apply List.ext_getElem?;intro j;by_cases hj:j<F.size
 ·rw[wO hj,wY];simp[putCells,hj,show j<cur.size by omega]
 ·rw[List.getElem?_take_eq_none (by omega),x9 (by simp;omega)]
def adG{W W':World}(h:Kp [] W W'):∃q os,W'=grow (W.drewN q) os:=by
 refine⟨W'.drawn-W.drawn,W'.heap.extract W.heap.size W'.heap.size,?_⟩;have e1:=h.os;have e2:=h.tape;have e3:=h.output;have e4:=h.drawn
 have e5:W'.heap=W.heap++W'.heap.extract W.heap.size W'.heap.size:=by
  apply Array.ext_getElem?;intro k;rw[Array.getElem?_append];have hs:=h.size;split
  ·exact h.block k (by assumption) (by simp)
  ·rename_i hk;rw[Array.getElem?_extract];by_cases h2:k<W'.heap.size
   ·rw[bG (by omega),show W.heap.size+(k-W.heap.size)=k by omega]
   ·rw[bP (by omega),Array.getElem?_eq_none (by omega)]
 obtain⟨hp,tp,dr,os,ot⟩:=W;obtain⟨hp',tp',dr',os',ot'⟩:=W';simp only at e1 e2 e3 e4;simp only[grow,World.drewN,World.mk.injEq];exact⟨e5,e2,by omega,e1,e3⟩
def art:bf:=(vO de)
def aey:aQ w9 art:=(qI aP)
abbrev azy:=Bool
def d252:Td 0 azy:= .c [] [4] (.r 0 0 (ec 4 qb en) sn (λz=>z.1.1) (λx=>((x,()),(()))))
def azB:=(lc (qg 47) (lc (qg 47) ln))
def akB:An:= .no
def av7:cU w9 (art) 0 300 252 (akB):=bB (l:=[]) func252 (aV (by kernel_rfl)) (by kernel_rfl) aF
def adS(a0:aD)(a1:aD):af azy:=
 match FV a0 a1 with|S=>S|V r1=>V (J (r1=0))
def aC3(a0:aD)(a1:aD):bM w9 (art) 300 (akB) 252 (azB.c (a0,a1,())) [] 0 d252.rd=adS a0 a1:=by kernel_rfl
def ap1:=eL w9 252 G azB d252 (λg=>adS g.1 g.2.1)
def aeg{F:bf}(h:aQ w9 F):aQ w9 (ap1 F):=cT (sc:=jM) cv (cH aey av7 (λ_=>by kernel_rfl) (λ_=>by kernel_rfl) λg=>aC3 g.1 g.2.1) ⟨_,func252,by kernel_rfl,by kernel_rfl⟩ (λ_=>by kernel_rfl) (λ_=>by kernel_rfl) h
def avx(a b:aD)(h:a.aW.length<=9223372036854775807):Iv.Fn w9 188 [.agg (uni.cells 47 a), .agg (uni.cells 47 b)] [] (λx s=>x= .n .i64 (fq a b)/\s=[]):=
 (On (F:=vO de) (qI aP).ok (P0.i .i64) rfl (iw (by kernel_rfl)) ((show vO de Int 188 [.agg (uni.cells 47 a), .agg (uni.cells 47 b)] [] 0 (PA (iq .i64))=(match FV a b with|S=>S|V r=>V r)from by kernel_rfl).trans (by rw[vm a b h]))).2
def azN(a b:aD)(h:a.aW.length<=9223372036854775807):Iv.Fn w9 252 [.agg (uni.cells 47 a), .agg (uni.cells 47 b)] [] (λx s=>x= .b (J (fq a b=0))/\s=[]):=
 (On (F:=ap1 de) (aeg aP).ok P0.b rfl (iw (by kernel_rfl)) ((show ap1 de Bool 252 [.agg (uni.cells 47 a), .agg (uni.cells 47 b)] [] 0 (PA P7)=(match adS a b with|S=>S|V r=>V r)from by kernel_rfl).trans (by unfold adS;rw[vm a b h]))).2
def R4{f:Nat}{x y:Ob A w}{r:Value}(hf:Iv.Fn w9 f [.agg (uni.cells 47 x.1.1), .agg (uni.cells 47 y.1.1)] [] (λa s=>a= .lit r/\s=[])){W:World}(hW:∀b,b<w.heap.size->A b->W.heap[b]? =w.heap[b]?):
  Calls w9 f #[.agg (oG x).toArray, .agg (oG y).toArray] W λe w'=>e= .returned r/\∃q os',w'=grow (W.drewN q) os':=by
 have hr:∀z:Ob A w,bL A W (uni.cells 47 z.1.1) (oG z):=λz=>z.2.2.mono λb hb hA=>⟨hA,hW b hb hA⟩;refine(hf W A [.agg (oG x).toArray, .agg (oG y).toArray] ⟨rfl,λj a v h1 h2=> ?_⟩ ⟨λr hr=>(by cases hr),λb hb=>(by cases hb)⟩ List.nodup_nil).mono λe w' ⟨v,av,σ',he,⟨h1,h2⟩,ht,hv⟩=> ?_
 ·match j with
  |0=>cases h1;cases h2;exact .agg _ _ (hr x).1 (hr x).2
  |1=>cases h1;cases h2;exact .agg _ _ (hr y).1 (hr y).2
  |j+2=>cases h1
 ·rw[h1]at hv;exact⟨by rw[he,hv.cK],adG ht.kp⟩
def BP:SWO (ltOf fq) where
 irrefl x:=by unfold ltOf;rw[Gz];rfl
 trans x y z h1 h2:=by
  unfold ltOf at*;simp only[decide_eq_true_eq]at*;have a:=eF x y;have b:=eF y z;have c:=eF x z
  have:=oo z x y;by_cases h:fq x z<0
  ·exact h
  ·have:=this (by omega) (by omega);omega
 ntrans x y z h1 h2:=by
  unfold ltOf at*;simp only[decide_eq_false_iff_not]at*;have a:=eF x y;have b:=eF y z;have c:=eF x z
  have:=oo z y x (by omega) (by omega);omega
def ady(x y:aD)(h1:ltOf fq x y=G)(h2:ltOf fq y x=G):x=y:=by
 unfold ltOf at*;simp only[decide_eq_false_iff_not]at*;have a:=eF x y;exact GP (by omega)
def FB(l:aa aD):aa aD:=l.mergeSort λx y=> !ltOf fq y x
def obC(x y:Ob A w):Int:=fq x.1.1 y.1.1
def acn:SWO (ltOf (obC (A:=A) (w:=w))):=⟨λx=>BP.irrefl x.1.1,λx y z=>BP.trans x.1.1 y.1.1 z.1.1,λx y z=>BP.ntrans x.1.1 y.1.1 z.1.1⟩
end
def aj4{A:Nat->Prop}{w:World}{l:aa aD}{us:aa Value}(h1:us.length=l.length*2)(h3:∀i,i<l.length->bL A w (uni.cells 47 l[i]!) ((us.drop (i*2)).take 2)):
  ∃d:Array (Ob A w),d.size=l.length/\(d.toList.map λx=>x.1.1)=l/\flatK oG 2 d=us.toArray:=by
 have hx:∀i:Fin l.length,((us.drop (i.1*2)).take 2).length=2/\bL A w (uni.cells 47 l[i]) ((us.drop (i.1*2)).take 2):=λi=>by
  have hi:=i.2;refine⟨by rw[zH,yj];omega,?_⟩;have:=h3 i.1 hi
  rwa [getElem!_pos l i.1 hi]at this
 refine⟨Array.ofFn λi:Fin l.length=>(⟨(l[i],(us.drop (i.1*2)).take 2),hx i⟩:Ob A w),by simp,?_,Vc _ _ (by simpa using h1) λi hi=> ?_⟩
 ·apply wC (by simp);intro i q1 q2;simp
 ·have hi':i<l.length:=by simpa using hi
  rw[getElem!_pos _ i hi];simp[oG]
def YD{A:Nat->Prop}{w:World}(d:Array (Ob A w))(l:aa aD)(h:(d.toList.map λx=>x.1.1)=l):(flatK oG 2 d).toList.length=l.length*2/\∀i,i<l.length->bL A w (uni.cells 47 l[i]!) (((flatK oG 2 d).toList.drop (i*2)).take 2):=by
 have hs:d.size=l.length:=by rw[<-h];simp
 refine⟨by simp[hs],λi hi=> ?_⟩;have e:(((flatK oG 2 d).toList.drop (i*2)).take 2)=oG d[i]! :=by
  apply wC
  ·rw[uT,zH,yj];simp[hs];omega
  ·intro j q1 q2;rw[uT]at q2;rw[we,wH,Array.getElem_toList];have:=get_flatK oG 2 d (i*2+j) (by omega);rw[getElem!_pos _ _ (by simp;omega)]at this;rw[this,show (i*2+j)/2=i by omega,show (i*2+j)%2=j by omega,getElem!_pos _ j (by rw[uT];exact q2)]
 rw[e];have e2:l[i]! =d[i]!.1.1:=by
  subst h;rw[getElem!_pos _ i hi,getElem!_pos d i (by omega)];simp
 rw[e2];exact d[i]!.2.2
end Go.Proofs.YtnfljbehcffmcaaGreat
end
noncomputable section
set_option maxRecDepth 100000
namespace Go.Proofs.YtnfljbehcffmcaaGreat
open Go Go.Iv Go.Sort Go.Proofs
abbrev auC:=aa aD
def d200:Td 1 auC:= .c [] [] (.r 1 1 en (sr 0 47 sn) (λz=>z.2.1) (λx=>((()),(x,()))))
def avT:=(lc (qo 0) (lc (qf 188 ln) ln))
def atW:=(sr 0 47 sn)
def UD(b0:aa aD):af auC:=if b0.length<=1073741824 then V (FB b0)else S
def al9:Prop:=HY w9 200 1 avT atW d200 (λg=>UD g.2.1)
def auR:bf->bf:=eY w9 200 1 avT atW d200 (λg=>UD g.2.1)
def Xq(hv:al9){F:bf}(h:aQ w9 F):aQ w9 (auR F):=oz hv ⟨_,func200,by kernel_rfl,by kernel_rfl⟩ (λ_=>by kernel_rfl) h
def N1:Go.Shelf.Ren:=⟨λ|6=>200|15=>257|14=>256|28=>300|29=>301|20=>292|21=>293|22=>294|23=>295|24=>296|25=>297|26=>298|27=>299|46=>332|47=>333|48=>334|49=>335|50=>336|57=>348|n=>n,λ|22=>50|24=>47|25=>195|39=>240|53=>322|55=>324|46=>316|45=>315|50=>193|66=>344|70=>348|76=>356|77=>297|n=>n,λ|n=>n⟩
def W5:Go.Proofs.SlLaysF0.n6 w9 N1 where
 mixed:=by kernel_rfl
 f6:=⟨f200.name,by kernel_rfl,func200.trans (congrArg V (by kernel_rfl))⟩
 f14:=⟨f256.name,by kernel_rfl,func256.trans (congrArg V (by kernel_rfl))⟩
 f15:=func257.trans (congrArg V (by kernel_rfl))
 f20:=⟨f292.name,by kernel_rfl,func292.trans (congrArg V (by kernel_rfl))⟩
 f21:=⟨f293.name,by kernel_rfl,func293.trans (congrArg V (by kernel_rfl))⟩
 f22:=⟨f294.name,by kernel_rfl,func294.trans (congrArg V (by kernel_rfl))⟩
 f23:=⟨f295.name,by kernel_rfl,func295.trans (congrArg V (by kernel_rfl))⟩
 f24:=⟨f296.name,by kernel_rfl,func296.trans (congrArg V (by kernel_rfl))⟩
 f25:=⟨f297.name,by kernel_rfl,func297.trans (congrArg V (by kernel_rfl))⟩
 f26:=⟨f298.name,by kernel_rfl,func298.trans (congrArg V (by kernel_rfl))⟩
 f27:=⟨f299.name,by kernel_rfl,func299.trans (congrArg V (by kernel_rfl))⟩
 f28:=func300.trans (congrArg V (by kernel_rfl))
 f29:=func301.trans (congrArg V (by kernel_rfl))
 f46:=⟨f332.name,by kernel_rfl,func332.trans (congrArg V (by kernel_rfl))⟩
 f47:=func333.trans (congrArg V (by kernel_rfl))
 f48:=func334.trans (congrArg V (by kernel_rfl))
 f49:=⟨f335.name,by kernel_rfl,func335.trans (congrArg V (by kernel_rfl))⟩
 f50:=⟨f336.name,by kernel_rfl,func336.trans (congrArg V (by kernel_rfl))⟩
 f57:=⟨f348.name,by kernel_rfl,func348.trans (congrArg V (by kernel_rfl))⟩
 t0:=underlying0
 a0:=Tryz.isAgg0
 z0:=Tryz.sizeOf0
 v0:=Tryz.zeroValue0
 t3:=underlying3
 a3:=Tryz.isAgg3
 z3:=Tryz.sizeOf3
 v3:=Tryz.zeroValue3
 t4:=underlying4
 a4:=Tryz.isAgg4
 z4:=Tryz.sizeOf4
 v4:=Tryz.zeroValue4
 t5:=underlying5
 a5:=Tryz.isAgg5
 z5:=Tryz.sizeOf5
 v5:=Tryz.zeroValue5
 t9:=underlying9
 a9:=Tryz.isAgg9
 z9:=Tryz.sizeOf9
 v9:=Tryz.zeroValue9
 t22:=underlying50
 a22:=Tryz.isAgg50
 z22:=Tryz.sizeOf50
 v22:=Tryz.zeroValue50
 t25:=underlying195
 a25:=Tryz.isAgg195
 z25:=Tryz.sizeOf195
 v25:=Tryz.zeroValue195
 t39:=underlying240
 a39:=Tryz.isAgg240
 z39:=Tryz.sizeOf240
 v39:=Tryz.zeroValue240
 t45:=underlying315
 a45:=Tryz.isAgg315
 z45:=Tryz.sizeOf315
 v45:=Tryz.zeroValue315
 t46:=underlying316
 a46:=Tryz.isAgg316
 z46:=Tryz.sizeOf316
 v46:=Tryz.zeroValue316
 t50:=underlying193
 a50:=Tryz.isAgg193
 z50:=Tryz.sizeOf193
 v50:=Tryz.zeroValue193
 t53:=underlying322
 a53:=Tryz.isAgg322
 z53:=Tryz.sizeOf322
 v53:=Tryz.zeroValue322
 t55:=underlying324
 a55:=Tryz.isAgg324
 z55:=Tryz.sizeOf324
 v55:=Tryz.zeroValue324
 t66:=underlying344
 a66:=Tryz.isAgg344
 z66:=Tryz.sizeOf344
 v66:=Tryz.zeroValue344
 t70:=underlying348
 a70:=Tryz.isAgg348
 z70:=Tryz.sizeOf348
 v70:=Tryz.zeroValue348
 t76:=underlying356
 a76:=Tryz.isAgg356
 z76:=Tryz.sizeOf356
 v76:=Tryz.zeroValue356
 t77:=underlying297
 a77:=Tryz.isAgg297
 z77:=Tryz.sizeOf297
 v77:=Tryz.zeroValue297
def V1{A:Nat->Prop}{w:World}{d d':Array (Ob A w)}(hp:PermIn 0 d.size d d')(hs:SortedIn (ltOf obC) 0 d.size d'):(d'.toList.map λx=>x.1.1)=FB (d.toList.map λx=>x.1.1):=by
 obtain⟨h1,_,h3⟩:=hp;have e1:d'.extract 0 d.size=d':=by rw[<-h1];exact Array.extract_size
 rw[e1,Array.extract_size]at h3;have hz:∀c:Array (Ob A w),(c.map λx=>x.1.1).toList=c.toList.map λx=>x.1.1:=λc=>by simp
 have:=sorted_unique_holds BP ady (d.map λx=>x.1.1) (d'.map λx=>x.1.1) ⟨by simp[h1],λi hi=> ?_,?_⟩ (λi j hi hij hj=> ?_)
 ·rw[hz,hz]at this;exact this
 ·have:d.size<=i:=by rcases hi with h|h;omega;simpa using h
  rw[getElem!_neg _ i (by simp;omega),getElem!_neg _ i (by simp;omega)]
 ·have a1:(d'.map λx=>x.1.1).extract 0 (d.map λx=>x.1.1).size=(d'.map λx=>x.1.1):=by
   rw[show (d.map λx=>x.1.1).size=(d'.map λx=>x.1.1).size by simp[h1]];exact Array.extract_size
  rw[a1,Array.extract_size,hz,hz];exact h3.map _
 ·have hj':j<d.size:=by simpa using hj
  have:=hs i j hi hij hj';rw[getElem!_pos _ i (by omega),getElem!_pos _ j (by omega)]at this;rw[getElem!_pos _ i (by simp;omega),getElem!_pos _ j (by simp;omega)];simp only[Array.getElem_map];exact this
def anY(l b:aa aD)(hb:UD l=V b):Lu w9 200 [.own 0, .fn (.func 188) []] [(0, .row 47 l)] 1 (gN w9 200 1 (d200.pat b)):=by
 unfold UD at hb;split at hb
 case isFalse=>cases hb
 rename_i hlen;have hbl:b=FB l:=(zA.inj hb).symm;have hln:b.length=l.length:=by rw[hbl];unfold FB;rw[List.length_mergeSort]
 intro ρ;have ho:gN w9 200 1 (d200.pat b)=⟨.iL [],[(0, .row 47 b)],1⟩:=by kernel_rfl
 show Go.Iv.Fn w9 200 [(bZ.own 0).sub ρ,(bZ.fn (.func 188) []).sub ρ] (aZ.res ρ [(0, .row 47 l)]) _;rw[ho,dL,show (bZ.fn (dw:=uni.dw) (.func 188) []).sub ρ= .fn (.func 188) []by simp[bZ.sub]];intro w A vs hr hd hn;obtain⟨hr1,hr2⟩:=hr;obtain⟨v,v2,rfl⟩:∃v v2,vs=[v,v2]:=by
  match vs,hr1 with
  |[v,v2],_=>exact⟨v,v2,rfl⟩
 have hv:v=ρ.v 0:=(hr2 0 _ v rfl rfl).cK;have hv2:v2= .func (.func 188) #[] #[]:=by
  have:=hr2 1 (.fn (.func 188) []) v2 rfl rfl;cases this with
  |fn f cs us hl hrr=>rw[xe.1 hl]
 subst hv hv2;generalize hv:ρ.v 0=v at*;have hok:=hd.1 (.row v 47 l) (by show _∈[cE.row (ρ.v 0) 47 l];rw[hv];exact zy.2 rfl);obtain⟨us,h1,h2,h3⟩:=hok;have hσ:aZ.res ρ [(0, .row 47 l)]=[cE.row v 47 l]:=by show [cE.row (ρ.v 0) 47 l]=_;rw[hv]
 rw[hσ]at hd hn ⊢;have fin:∀w':World,(∃us',gI w' v 47 2 b.length us'/\∀i,i<b.length->bL A w (uni.cells 47 b[i]!) ((us'.drop (i*2)).take 2))->Kp (bF [cE.row v 47 l]) w w'->∃v_1 av σ',Ending.returned (Value.tuple #[])=Ending.returned v_1/\
   (∃ρ',oP 1 ρ ρ'/\av=(bZ.iL (dw:=uni.dw) []).sub ρ'/\List.Perm σ' (aZ.res ρ' [(0, .row 47 b)]))/\Tr ⟨w,A,bF [cE.row v 47 l]⟩ (bF [cE.row v 47 l]) [cE.row v 47 l] w σ' w'/\Rel (al ⟨w,A,bF [cE.row v 47 l]⟩ σ') w' av v_1:=λw' ⟨us',hrow,hrel⟩ hk=>by
  have hbk:bF [cE.row v 47 b]=bF [cE.row v 47 l]:=rfl;have hal:∀x,al ⟨w,A,bF [cE.row v 47 l]⟩ [cE.row v 47 l] x->al ⟨w,A,bF [cE.row v 47 l]⟩ [cE.row v 47 b] x:=λx h=>h;refine⟨_, .iL [],[cE.row v 47 b],rfl,⟨ρ,λi _=>⟨rfl,rfl⟩,by simp only[bZ.sub,yR],by show List.Perm _ [cE.row (ρ.v 0) 47 b];rw[hv]⟩,⟨⟨hk,?_,?_,?_⟩,hk,λx _ h=>⟨hal x h,h.2⟩⟩,Rel.iL [] [] rfl (λj a v q=>by cases q)⟩
  ·intro r hr;rw[zy.1 hr];refine⟨us',hrow,λi _=>rfl,λi hi=>(hrel i hi).mono λx hx hA=> ?_⟩;have hnb:x∉bF [cE.row v 47 l]:=λh=>hd.2 x h hA;exact⟨⟨.inl hA,hnb⟩,hk.block x hx hnb⟩
  ·rw[hbk];exact hn
  ·intro x hx;exact .inl hx
 obtain⟨h1l,hcase⟩:=h1;rcases hcase with ⟨p,hvp,hl0⟩|⟨gb,cap,cur,hvp,hg,q1,q2,q3,q4⟩
 ·have hl:l=[]:=xe.1 hl0;have hbn:b=[]:=by rw[hbl,hl];unfold FB;rw[List.mergeSort_nil]
  subst hvp;refine(Go.Proofs.AnyF.slices_SortFunc_none {W5 with} p 0 (.func (.func 188) #[] #[]) w).mono λe w' he=> ?_;obtain⟨rfl,rfl⟩:=he;refine fin w' ⟨[],?_,λi hi=>by rw[hbn]at hi;cases hi⟩ (Kp.refl _ _);rw[hbn];exact⟨rfl, .inl ⟨p,rfl,rfl⟩⟩
 ·subst hvp;have hgs:gb<w.heap.size:=(xE.1 hg).1;have hAg:¬A gb:=hd.2 gb (bU.2 ⟨_,zy.2 rfl,rfl⟩);have q4:cur.toList.take (l.length*2)=us:=q4;have q3:cur.size=(cap+1)*2:=q3;have h1l:us.length=l.length*2:=h1l;have q1':l.length<=cap+1:=q1;have hsz:l.length<=9223372036854775807:=by have:maxLen=9223372036854775807:=rfl;omega
  obtain⟨d,d1,d2,d3⟩:=aj4 h1l h3;have hH:HoldsK oG 2 w gb 0 d:=Ho hg d3 (by rw[h1l];exact q4);have hcmp:CmpLays w9 188 #[] oG 2 obC gb 0 d.size w:=λm os dk hdk x y=>by
   refine R4 (avx x.1.1 y.1.1 (amn x)) (λc hc hA=>oV hc λe=>hAg (e▸hA))
  have hs:=Go.Proofs.AnyQ.slices_SortFunc W5 2 Tryz.isAgg47 Tryz.sizeOf47 oG uT SM obC acn 188 #[] gb 0 (cap+1) d w (enters_of func188 (by kernel_rfl) rfl) hcmp hH hgs (by rw[d1];omega);rw[d1]at hs;refine hs.mono λe w' he=> ?_;obtain⟨rfl,d',n,os,hp,hs,rfl⟩:=he;rw[<-d1]at hp hs;have hbd:(d'.toList.map λx=>x.1.1)=b:=by rw[V1 hp hs,d2,hbl]
  obtain⟨r1,r2⟩:=YD d' b hbd;have hF:(flatK oG 2 d').size=l.length*2:=by rw[<-yg,r1,hln]
  refine fin _ ⟨(flatK oG 2 d').toList,⟨r1, .inr ⟨gb,cap,_,by rw[hln];rfl,sO hg,by rw[hln];exact q1,q2,by simp[putCells,q3],?_⟩⟩,r2⟩ ?_
  ·have:=KZ (F:=flatK oG 2 d') (cur:=cur) (by rw[hF,q3];omega)
   rwa [<-yg,r1]at this
  ·exact Mx
def ayc:al9:=λg b hb=>anY g.2.1 b hb
end Go.Proofs.YtnfljbehcffmcaaGreat
end
noncomputable section
set_option maxRecDepth 100000
namespace Go.Proofs.YtnfljbehcffmcaaGreat
open Go Go.Iv Go.Sort Go.Proofs Go.Shelf Go.RowKit Go.Lib
section
variable {α:Type} [Inhabited α] (r:α->α->Bool)
def Km(d:Array α)(j:Nat):Bool:=J (j=0)|| !r d[j]! d[j-1]!
def FN(d:Array α)(m:Nat):aa α:=((zM m).filter (Km r d)).map (d[·]!)
variable {r}
def kW(d:Array α)(m:Nat):FN r d (m+1)=FN r d m++(if Km r d m then[d[m]!]else[]):=by
 unfold FN;rw[List.range_succ,y6,z8]
 congr 1
 by_cases h:Km r d m<;>simp[h]
def JY(d:Array α)(m:Nat)(h:∀j,j<m->Km r d j=O):FN r d m=(zM m).map (d[·]!):=by
 unfold FN;rw[List.filter_eq_self.2 (λj hj=>h j (List.mem_range.1 hj))]
def QZ(d:Array α):(zM d.size).map (d[·]!)=d.toList:=by
 apply wC
 ·simp
 ·intro i h1 h2;have hi:i<d.size:=by simpa using h2
  simp[getElem!_pos,hi]
structure By (r:α->α->Bool) (d:Array α) (m k:Nat) (dk:Array α):Prop where
 size:dk.size=d.size
 len:(FN r d m).length=k
 lt:k<m
 low:∀j,j<k->(FN r d m)[j]? =V dk[j]!
 high:∀j,k<=j->dk[j]! =d[j]!
def By.start{d:Array α}{k0:Nat}(hall:∀j,j<k0->Km r d j=O)(hdup:Km r d k0=G):By r d (k0+1) k0 d where
 size:=rfl
 len:=by rw[kW,hdup,JY d k0 hall];simp
 lt:=zJ _
 low:=λj hj=>by rw[kW,hdup,JY d k0 hall];simp[hj]
 high:=λ_ _=>rfl
def By.keep{d dk:Array α}{m k:Nat}(h:By r d m k dk)(hm:m<d.size)(hk:Km r d m=O):By r d (m+1) (k+1) (dk.setIfInBounds k d[m]!) where
 size:=by simp[h.size]
 len:=by rw[kW,hk];simp[h.len]
 lt:=by have:=h.lt;omega
 low:=λj hj=>by
  rw[kW,hk,bG rfl];by_cases e:j=k
  ·subst e;rw[wJ (by rw[h.len];exact zo _),h.len,xS,getElem!_set_same dk j _ (by have:=h.lt;have:=h.size;omega)];rfl
  ·rw[wS (by rw[h.len];omega),h.low j (by omega),getElem!_set_other dk k j _ e]
 high:=λj hj=>by rw[getElem!_set_other dk k j _ (by omega),h.high j (by omega)]
def By.skip{d dk:Array α}{m k:Nat}(h:By r d m k dk)(hk:Km r d m=G):By r d (m+1) k dk where
 size:=h.size
 len:=by rw[kW,hk];simpa using h.len
 lt:=by have:=h.lt;omega
 low:=λj hj=>by rw[kW,hk];simpa using h.low j hj
 high:=h.high
end
section
variable {P:Program} {α:Type} [Inhabited α] {enc:α->aa Value} {k:Nat} {w0 W:World} {blk off:Nat} {dk:Array α}
def M0(hk:∀x,(enc x).length=k)(d:Array α)(i:Nat)(hi:i<d.size)(x:α):setMany (flatK enc k d) (i*k) (enc x)=flatK enc k (d.setIfInBounds i x):=by
 refine ext_get! (by simp) λt ht=> ?_;have ht':t<d.size*k:=by simpa using ht
 have k0:0<k:=by
  rcases wE k with h|h
  ·subst h;simp at ht'
  ·exact h
 rw[get_setMany _ _ _ t (by simpa using ht'),get_flatK _ _ _ t ht',get_flatK _ _ _ t (by simpa using ht'),hk];by_cases a:t/k=i
 ·rw[bG ((blk_iff k i t k0).2 a),a,getElem!_set_same d i x hi,Nat.mod_eq_sub_div_mul,a]
 ·rw[bP (λh=>a ((blk_iff k i t k0).1 h)),getElem!_set_other d i _ x a]
def Qb(h:SWK enc k w0 blk off dk W)(hk:∀x,(enc x).length=k)(hb:blk<w0.heap.size)(i:Nat)(hi:i<dk.size)(x:α):SWK enc k w0 blk off (dk.setIfInBounds i x) (W.setCells blk (off+i*k) (enc x)):=by
 obtain⟨n,os,rfl⟩:=h;refine⟨n,os,?_⟩;unfold sortWorldK;rw[setCells_grow os blk _ _ _ (by show blk<(putRowK enc k _ blk off dk).heap.size;rw[size_putRowK];exact hb)]
 congr 1
 unfold putRowK;have:=yK k (show i+1<=dk.size from hi);rw[yb,Nat.one_mul]at this;rw[setCells_putRow _ _ _ _ _ _ (by rw[hk,size_flatK];exact this),M0 hk dk i hi x]
def ajk(h:SWK enc k w0 blk off dk W){d0:Array α}(R:RowK enc k w0 blk off d0)(hs:dk.size=d0.size)(P:Program)(i:Nat)(hi:i<dk.size)(x:α):
  Sem.run P (storeCells ⟨blk,off+i*k,S⟩ (enc x) 0) W= .ok () (W.setCells blk (off+i*k) (enc x)):=
 stores_of_holds P (h.holds R.hblk R.hH hs) (i*k) _ (by rw[R.hk,size_flatK];exact rowK_bnd dk k i hi) (R.h1 _)
end
set_option maxHeartbeats 8000000 in
set_option maxRecDepth 1000000 in
def Y7{P:Program}{α:Type}[Inhabited α](FG:P.funcs[201]? =V f201)(mixed:P.follows .mixedOrders=O)
  (t3:P.underlying 3=V (.int .i64)) (a3:∀w,(isAgg 3).run P w= .ok G w) (z3:∀w,(Go.sizeOf 3).run P w= .ok 1 w) (v3:∀w,(zeroValue 3).run P w= .ok (.int .i64 0) w)
  (t4:P.underlying 4=V .bool) (a4:∀w,(isAgg 4).run P w= .ok G w) (z4:∀w,(Go.sizeOf 4).run P w= .ok 1 w) (v4:∀w,(zeroValue 4).run P w= .ok (.bool G) w)
  (t50:P.underlying 50=V (.slice 47)) (a50:∀w,(isAgg 50).run P w= .ok G w) (z50:∀w,(Go.sizeOf 50).run P w= .ok 1 w) (v50:∀w,(zeroValue 50).run P w= .ok (.slice S 0 0) w)
  (k:Nat) (aE:∀w,(isAgg 47).run P w= .ok O w) (zE:∀w,(Go.sizeOf 47).run P w= .ok k w)
  (enc:α->aa Value) (r:α->α->Bool) (g:Nat) (cb:Array Value) (blk off cap:Nat) (d:Array α) (w:World)
  (eg:∀args w,(callFunc g args).run P w= .ok (.enter g args) w)
  (hcmp:∀(dk:Array α) (W:World),dk.size=d.size->SWK enc k w blk off dk W->∀x y:α,Calls P g (#[.agg (enc x).toArray, .agg (enc y).toArray]++cb) W λe w'=>e= .returned (.bool (r x y))/\∃q os',w'=grow (W.drewN q) os')
  (R:RowK enc k w blk off d) (hsz:d.size<4611686018427387904) (hcap:d.size<=cap)
  (zs:Nat->aa Value) (hclr:∀(W:World) (dk:Array α) (kk:Nat),SWK enc k w blk off dk W->dk.size=d.size->kk<d.size->∀ty,(Builtin.clear_ #[50] ty #[.slice (V ⟨blk,off+kk*k,S⟩) (d.size-kk) (cap-kk)]).run P W= .ok (.tuple #[]) (W.setCells blk (off+kk*k) (zs kk))):
  Calls P 201 #[.slice (V ⟨blk,off,S⟩) d.size cap, .func (.func g) #[] cb] w λe w'=>
   e= .returned (.slice (V ⟨blk,off,S⟩) (FN r d d.size).length cap)/\∃(dk:Array α) (W:World),SWK enc k w blk off dk W/\dk.size=d.size/\(∀j,j<(FN r d d.size).length->(FN r d d.size)[j]? =V dk[j]!)/\
    (w'=W\/w'=W.setCells blk (off+(FN r d d.size).length*k) (zs (FN r d d.size).length)):=by
 have S00:SWK enc k w blk off d w:=SWK.start R.hH;have HC:Aside _:=hcmp;have HCL:Aside _:=hclr;have S0:Aside (SWK enc k w blk off d w):=S00;have same:∀W,SWK enc k w blk off d W->(∀j,j<d.size->Km r d j=O)->(FN r d d.size).length=d.size/\∃(dk:Array α) (W':World),SWK enc k w blk off dk W'/\dk.size=d.size/\(∀j,j<(FN r d d.size).length->(FN r d d.size)[j]? =V dk[j]!)/\(W=W'\/W=W'.setCells blk (off+(FN r d d.size).length*k) (zs (FN r d d.size).length)):=λW hS hall=>by
  have e:FN r d d.size=d.toList:=by rw[JY d _ hall,QZ]
  refine⟨by rw[e];simp,d,W,hS,rfl,λj hj=> ?_, .inl rfl⟩;rw[e]at hj ⊢;have hj':j<d.size:=by simpa using hj
  rw[zu hj,getElem!_pos d j hj'];simp
 have HS:Aside _:=same;have kp1:∀j,j<1->Km r d j=O:=λj hj=>by
  have:j=0:=by omega
  subst this;rfl
 clear same S00 hcmp hclr;by_cases h2:d.size<2
 ·have K1:Aside (∀j,j<1->Km r d j=O):=kp1;clear kp1
  go_enter FG,Tryz.ntmps201
  go_wp2
  go_ret
  obtain⟨e1,e2⟩:=HS.out w S0.out (λj hj=>K1.out j (by omega));exact⟨by rw[e1];rfl,e2⟩
 ·have K1:Aside (∀j,j<1->Km r d j=O):=kp1;clear kp1
  go_enter FG,Tryz.ntmps201
  go_wp2
  go_loopg [5] d.size (λg1 s5 wr=>∃(k1:Nat),s5= .int .i64 k1/\1<=k1/\k1<=d.size/\d.size-k1<=g1/\Aside (SWK enc k w blk off d wr)/\Aside (∀j,j<k1->Km r d j=O))
  case atStart=>exact⟨1,rfl,zo _,by omega,by omega,S0,K1⟩
  case round=>
   obtain⟨k1,rfl,hk1,hk2,hg,S1,A1⟩:=hrel;by_cases hlt:k1<d.size
   ·obtain⟨kp,rfl⟩:∃kp,k1=kp+1:=⟨k1-1,by omega⟩;obtain⟨xj,hxj⟩:∃x,d[kp+1]! =x:=⟨_,rfl⟩;obtain⟨xp,hxp⟩:∃x,d[kp]! =x:=⟨_,rfl⟩;have hwp:IntKind.i64.wrap (kp:Int)=(kp:Int):=by rw[IntKind.wrap_i64];omega
    have jz:(kp:Int)+1<(d.size:Int):=by omega
    have jz1:(kp:Int)<(d.size:Int):=by omega
    have p0:(0:Int)<=(kp:Int)+1:=by omega
    have e0:((kp:Int)+1).toNat=kp+1:=by omega
    have lj:∀n' os',Sem.run P (loadCellsFrom ⟨blk,off+(kp+1)*k,S⟩ 0 k #[]) (grow (wr.drewN n') os')= .ok (enc xj).toArray (grow (wr.drewN n') os'):=λn' os'=>by
     rw[<-hxj];exact S1.out.ld R rfl P (kp+1) hlt n' os'
    have lp:∀n' os',Sem.run P (loadCellsFrom ⟨blk,off+kp*k,S⟩ 0 k #[]) (grow (wr.drewN n') os')= .ok (enc xp).toArray (grow (wr.drewN n') os'):=λn' os'=>by
     rw[<-hxp];exact S1.out.ld R rfl P kp (by omega) n' os'
    have hcg:∀n' os',Calls P g (#[.agg (enc xj).toArray, .agg (enc xp).toArray]++cb) (grow (wr.drewN n') os') λe w'=>e= .returned (.bool (r xj xp))/\∃q os'',w'=grow ((grow (wr.drewN n') os').drewN q) os'':=λn' os'=>HC.out d _ rfl (S1.out.grown n' os') xj xp;cases hr:r xj xp with
    |true=>
     rw[hr]at hcg
     go_wp2_with fail
     go_quiet_grown (first|(go_at_fn g;refine Calls.grown_of (hcg _ _)))
     have S2:Aside (SWK enc k w blk off d (grow (wr.drewN nq) osq)):=S1.out.grown nq osq;have I0:Aside (By r d (kp+1+1) (kp+1) d):=By.start A1.out (by unfold Km;rw[wK,hxj,hxp,hr];simp);clear lj lp hcg;generalize grow (wr.drewN nq) osq=wq at S2 ⊢
     go_wp2
     go_loopg [5,7] d.size (λg2 s5 s7 wr=>∃(kk k2:Nat) (dk:Array α),s5= .int .i64 kk/\s7= .int .i64 k2/\1<=k2/\kp+1+k2<=d.size/\d.size-(kp+1+k2)<=g2/\Aside (SWK enc k w blk off dk wr)/\Aside (By r d (kp+1+k2) kk dk))
     case atStart=>exact⟨kp+1,1,d,rfl,rfl,zo _,by omega,by omega,S2,I0⟩
     case round=>
      obtain⟨kk,k2,dk,rfl,rfl,hk21,hle,hg2,S3,I3⟩:=hrel;have hds:=I3.out.size;have hkk:=I3.out.lt;by_cases hlt2:kp+1+k2<d.size
      ·obtain⟨kq,rfl⟩:∃kq,k2=kq+1:=⟨k2-1,by omega⟩;obtain⟨xm,hxm⟩:∃x,d[kp+1+(kq+1)]! =x:=⟨_,rfl⟩;obtain⟨xq,hxq⟩:∃x,d[kp+1+kq]! =x:=⟨_,rfl⟩;have hm:dk[kp+1+(kq+1)]! =xm:=by rw[I3.out.high _ (by omega),hxm]
       have hq:dk[kp+1+kq]! =xq:=by rw[I3.out.high _ (by omega),hxq]
       have hwq:IntKind.i64.wrap (kq:Int)=(kq:Int):=by rw[IntKind.wrap_i64];omega
       have q0:(0:Int)<=(kq:Int)+1:=by omega
       have f0:((kq:Int)+1).toNat=kq+1:=by omega
       have lm:∀n' os',Sem.run P (loadCellsFrom ⟨blk,off+(kp+1)*k+(kq+1)*k,S⟩ 0 k #[]) (grow (wr.drewN n') os')= .ok (enc xm).toArray (grow (wr.drewN n') os'):=λn' os'=>by
        have:=S3.out.ld R hds P (kp+1+(kq+1)) (by omega) n' os';rw[hm,yb (kp+1) (kq+1),<-xG]at this;exact this
       have lq:∀n' os',Sem.run P (loadCellsFrom ⟨blk,off+(kp+1)*k+kq*k,S⟩ 0 k #[]) (grow (wr.drewN n') os')= .ok (enc xq).toArray (grow (wr.drewN n') os'):=λn' os'=>by
        have:=S3.out.ld R hds P (kp+1+kq) (by omega) n' os';rw[hq,yb (kp+1) kq,<-xG]at this;exact this
       have hcg:∀n' os',Calls P g (#[.agg (enc xm).toArray, .agg (enc xq).toArray]++cb) (grow (wr.drewN n') os') λe w'=>e= .returned (.bool (r xm xq))/\∃q os'',w'=grow ((grow (wr.drewN n') os').drewN q) os'':=λn' os'=>HC.out dk _ hds (S3.out.grown n' os') xm xq;have jl:(kq:Int)+1<((d.size-(kp+1):Nat):Int):=by omega
       have jl1:(kq:Int)<((d.size-(kp+1):Nat):Int):=by omega
       cases hr2:r xm xq with
       |true=>
        rw[hr2]at hcg
        go_wp2_with fail
        go_quiet_grown (first|(go_at_fn g;refine Calls.grown_of (hcg _ _)))
        go_wp2
        go_roundg (d.size-(kp+1+(kq+1+1)))
        case measure=>omega
        case rel=>exact⟨kk,kq+1+1,dk,rfl,by go_num,by omega,by omega,zo _,S3.out.grown nq osq,I3.out.skip (by unfold Km;rw[show kp+1+(kq+1)-1=kp+1+kq by omega,hxm,hxq,hr2];simp)⟩
       |false=>
        rw[hr2]at hcg
        go_wp2_with fail
        go_quiet_grown (first|(go_at_fn g;refine Calls.grown_of (hcg _ _)))
        have lm3:=lm nq osq;have S4:Aside (SWK enc k w blk off dk (grow (wr.drewN nq) osq)):=S3.out.grown nq osq;have st:=ajk S4.out R hds P kk (by omega) xm;have S5:Aside (SWK enc k w blk off (dk.setIfInBounds kk xm) ((grow (wr.drewN nq) osq).setCells blk (off+kk*k) (enc xm))):=Qb S4.out R.hk R.hblk kk (by omega) xm;have hlm:(enc xm).length=k:=R.hk xm;have I4:Aside (By r d (kp+1+(kq+1)+1) (kk+1) (dk.setIfInBounds kk xm)):=by
         have:=I3.out.keep hlt2 (by unfold Km;rw[show kp+1+(kq+1)-1=kp+1+kq by omega,hxm,hxq,hr2];simp)
         rwa [hxm]at this
        have kz:(kk:Int)<(d.size:Int):=by omega
        have kz0:(0:Int)<=(kk:Int):=by omega
        clear lm lq hcg;generalize grow (wr.drewN nq) osq=wq3 at lm3 S4 st S5 ⊢;generalize enc xm=cm at lm3 st S5 hlm
        go_wp2
        go_roundg (d.size-(kp+1+(kq+1+1)))
        case measure=>omega
        case rel=>exact⟨kk+1,kq+1+1,dk.setIfInBounds kk xm,by go_num,by go_num,by omega,by omega,zo _,S5,I4⟩
      ·have hend:kp+1+k2=d.size:=by omega
       have hcl:=λty=>HCL.out wr dk kk S3.out hds (by omega) ty;have kz:(kk:Int)<=(d.size:Int):=by omega
       have kz1:(kk:Int)<=(cap:Int):=by omega
       go_wp2
       go_ret
       have hI:=I3.out;rw[hend]at hI;exact⟨by rw[hI.len];rfl,dk,wr,S3.out,hds,λj hj=>hI.low j (by rw[<-hI.len];exact hj), .inr (by rw[hI.len])⟩
    |false=>
     rw[hr]at hcg
     go_wp2_with fail
     go_quiet_grown (first|(go_at_fn g;refine Calls.grown_of (hcg _ _)))
     go_wp2
     go_roundg (d.size-(kp+1+1))
     case measure=>omega
     case rel=>
      refine⟨kp+1+1,by go_num,by omega,by omega,zo _,S1.out.grown nq osq,λj hj=> ?_⟩;by_cases e:j=kp+1
      ·subst e;unfold Km;rw[wK,hxj,hxp,hr];simp
      ·exact A1.out j (by omega)
   ·have:k1=d.size:=by omega
    subst this
    go_wp2
    go_ret
    obtain⟨e1,e2⟩:=HS.out _ S1.out A1.out;exact⟨by rw[e1];rfl,e2⟩
set_option maxHeartbeats 1000000 in
def J9(FG:w9.funcs[201]? =V f201)(p:af Addr)(cap:Nat)(fv:Value)(w:World):
  Calls w9 201 #[.slice p 0 cap,fv] w λe w'=>e= .returned (.slice p 0 cap)/\w'=w:=by
 go_enter FG,Tryz.ntmps201
 go_wp2
 go_ret
 exact⟨rfl,rfl⟩
end Go.Proofs.YtnfljbehcffmcaaGreat
end
noncomputable section
set_option maxRecDepth 100000
namespace Go.Proofs.YtnfljbehcffmcaaGreat
open Go Go.Iv Go.Sort Go.Proofs
abbrev ayd:=aa aD
def d201:Td 1 ayd:= .c [] [4] (.r 1 2 (ec 4 (qo 1) en) (sr 1 47 sn) (λz=>z.2.1) (λx=>(((),()),(x,()))))
def au5:=(lc (qo 0) (lc (qf 252 ln) ln))
def auv:=(sr 0 47 sn)
def VI(b0:aa aD):af ayd:=if b0.length<=1073741824 then V (EH b0)else S
def aj0:Prop:=HY w9 201 1 au5 auv d201 (λg=>VI g.2.1)
def atj:bf->bf:=eY w9 201 1 au5 auv d201 (λg=>VI g.2.1)
def Ya(hv:aj0){F:bf}(h:aQ w9 F):aQ w9 (atj F):=oz hv ⟨_,func201,by kernel_rfl,by kernel_rfl⟩ (λ_=>by kernel_rfl) h
def si{g:Nat}{T:TypeId}:∀(vs:aa Value) (o:Nat) (W:World) (cur:Array Value),W.heap[g]? =V (.cells cur T (0,0))->(W.setCells g o vs).heap[g]? =V (.cells (setMany cur o vs) T (0,0))
 |[],_,_,_,h=>h
 |v::vs,o,W,cur,h=>by
  rw[World.setCells,setMany];refine si vs (o+1) _ _ ?_;rw[setCell_eq];simp[mapBlock,wZ,h,onCells]
def Be{g:Nat}:∀(vs:aa Value) (o:Nat) (W:World),Kp [g] W (W.setCells g o vs)
 |[],_,W=>Kp.refl _ W
 |v::vs,o,W=>by
  rw[World.setCells];refine Kp.trans (w1:=W.setCell ⟨g,o,S⟩ v) (X:=[g]) (Y:=[g]) ?_ (Be vs (o+1) _) (λb hb _=>hb);rw[setCell_eq];refine⟨rfl,rfl,rfl,zo _,by simp[mapBlock],λk hk hX=> ?_⟩;have:g≠k:=λe=>hX (by simp[e]);simp[mapBlock,wZ,this]
def GR(x:aD):∀(l:aa aD) (p:aD),vz p (l++[x])=vz p l++if fq x (l.getLastD p)=0 then[]else[x]
 |[],p=>by
  by_cases h:fq x p=0<;>simp[vz,h]
 |y::l,p=>by
  simp only[xo,vz];rw[GR x l y];have e:(y::l).getLastD p=l.getLastD y:=by cases l<;>rfl
  rw[e];split<;>simp
section
variable {A:Nat->Prop} {w:World}
def eqO(x y:Ob A w):Bool:=J (fq x.1.1 y.1.1=0)
def RC(d:Array (Ob A w)):∀m,m<=d.size->(FN eqO d m).map (λx=>x.1.1)=EH ((d.toList.map λx=>x.1.1).take m)
 |0,_=>by simp[FN,EH]
 |m+1,hm=>by
  have ih:=RC d m (by omega);have hl:m<(d.toList.map λx=>x.1.1).length:=by simp;omega
  have eg:∀j,j<d.size->(d.toList.map λx=>x.1.1)[j]! =d[j]!.1.1:=λj hj=>by
   rw[getElem!_pos _ j (by simpa using hj),getElem!_pos d j hj];simp
  rw[kW,z8,ih,bI hl,eg m (by omega)];by_cases h0:m=0
  ·subst h0;simp[Km,EH,vz]
  ·obtain⟨n,rfl⟩:∃n,m=n+1:=⟨m-1,by omega⟩;have hl2:n<(d.toList.map λx=>x.1.1).length:=by simp;omega
   have e2:(d.toList.map λx=>x.1.1).take (n+1)=(d.toList.map λx=>x.1.1).take n++[d[n]!.1.1]:=by rw[bI hl2,eg n (by omega)]
   obtain⟨q,hq⟩:∃q,q=(d.toList.map λx=>x.1.1).take (n+1):=⟨_,rfl⟩;rw[<-hq];cases q with
   |nil=>rw[e2]at hq;simp at hq
   |cons a q=>
    show _=a::vz a (q++[d[n+1]!.1.1]);rw[GR];have:q.getLastD a=d[n]!.1.1:=by
     have h1:=congrArg List.getLast? hq;rw[e2,List.getLast?_append,List.getLast?_singleton,Option.some_or,List.getLast?_cons]at h1;rw[List.getLastD_eq_getLast?];exact zA.inj h1
    rw[this];unfold Km eqO;rw[wK];by_cases hc:fq d[n+1]!.1.1 d[n]!.1.1=0<;>simp[hc,EH]
end
def TY:∀(l:aa aD) (p:aD),(vz p l).length<=l.length
 |[],_=>zo _
 |y::l,p=>by
  have:=TY l y;unfold vz;split<;>simp<;>omega
def agy(l:aa aD):(EH l).length<=l.length:=by
 cases l with
 |nil=>exact zo _
 |cons x l=>have:=TY l x;simp[EH];omega
def abP{W:World}{gb n kk:Nat}{F:Array Value}(h:W.heap[gb]? =V (.cells F 47 (0,0)))(hs:n*2<=F.size)(hk:kk<n){c:Nat}{ty:TypeId}:
  (Builtin.clear_ #[50] ty #[.slice (V ⟨gb,0+kk*2,S⟩) (n-kk) c]).run w9 W= .ok (.tuple #[]) (W.setCells gb (0+kk*2) (Builtin.zeroCells #[.slice S 0 0, .int .i64 0] (n-kk)).toList):=by
 have hl:(Builtin.zeroCells #[.slice S 0 0, .int .i64 0] (n-kk)).toList.length=(n-kk)*2:=by simp[Builtin.zeroCells]
 have hst:=run_storeCells_cells (P:=w9) gb (0+kk*2) (Builtin.zeroCells #[.slice S 0 0, .int .i64 0] (n-kk)).toList 0 W (λj hj=>by
   rw[hl]at hj;simp only[World.cell?,h,Option.isSome_none,yu,gA];rw[xK (by omega)];rfl) (λj hj=>by simp[World.frozen?,h]) (λv hv=>by
   simp only[Builtin.zeroCells,Array.toList_map,zL]at hv;obtain⟨i,_,rfl⟩:=hv;have:i%(#[.slice S 0 0, .int .i64 0]:Array Value).size<2:=yP _ (by decide);generalize i%(#[.slice S 0 0, .int .i64 0]:Array Value).size=q at this
   match q,this with
   |0,_=>rfl
   |1,_=>rfl)
 simp only[yq]at hst;obtain⟨m,hm⟩:∃m,n-kk=m+1:=⟨n-kk-1,by omega⟩;rw[hm]at hst ⊢;rw[yl]at hst ⊢;simp[Builtin.clear_,run_underlying underlying50,Tryz.zeroValue47,Value.cells,hst]
def amV(l b:aa aD)(hb:VI l=V b):Lu w9 201 [.own 0, .fn (.func 252) []] [(0, .row 47 l)] 1 (gN w9 201 1 (d201.pat b)):=by
 unfold VI at hb;split at hb
 case isFalse=>cases hb
 rename_i hlen;have hbl:b=EH l:=(zA.inj hb).symm;intro ρ;have ho:gN w9 201 1 (d201.pat b)=⟨.own 1,[(1, .row 47 b)],2⟩:=by kernel_rfl
 show Go.Iv.Fn w9 201 [(bZ.own 0).sub ρ,(bZ.fn (.func 252) []).sub ρ] (aZ.res ρ [(0, .row 47 l)]) _;rw[ho,dL,show (bZ.fn (dw:=uni.dw) (.func 252) []).sub ρ= .fn (.func 252) []by simp[bZ.sub]];intro w A vs hr hd hn;obtain⟨hr1,hr2⟩:=hr;obtain⟨v,v2,rfl⟩:∃v v2,vs=[v,v2]:=by
  match vs,hr1 with
  |[v,v2],_=>exact⟨v,v2,rfl⟩
 have hv:v=ρ.v 0:=(hr2 0 _ v rfl rfl).cK;have hv2:v2= .func (.func 252) #[] #[]:=by
  have:=hr2 1 (.fn (.func 252) []) v2 rfl rfl;cases this with
  |fn f cs us hl hrr=>rw[xe.1 hl]
 subst hv hv2;generalize hv:ρ.v 0=v at*;have hok:=hd.1 (.row v 47 l) (by show _∈[cE.row (ρ.v 0) 47 l];rw[hv];exact zy.2 rfl);obtain⟨us,h1,h2,h3⟩:=hok;have hσ:aZ.res ρ [(0, .row 47 l)]=[cE.row v 47 l]:=by show [cE.row (ρ.v 0) 47 l]=_;rw[hv]
 rw[hσ]at hd hn ⊢;have fin:∀(w':World) (u:Value),gG u=gG v->(∃us',gI w' u 47 2 b.length us'/\∀i,i<b.length->bL A w (uni.cells 47 b[i]!) ((us'.drop (i*2)).take 2))->Kp (bF [cE.row v 47 l]) w w'->∃v_1 av σ',Ending.returned u=Ending.returned v_1/\
   (∃ρ',oP 1 ρ ρ'/\av=(bZ.own (dw:=uni.dw) 1).sub ρ'/\List.Perm σ' (aZ.res ρ' [(1, .row 47 b)]))/\Tr ⟨w,A,bF [cE.row v 47 l]⟩ (bF [cE.row v 47 l]) [cE.row v 47 l] w σ' w'/\Rel (al ⟨w,A,bF [cE.row v 47 l]⟩ σ') w' av v_1:=λw' u hu ⟨us',hrow,hrel⟩ hk=>by
  have hbk:bF [cE.row u 47 b]=bF [cE.row v 47 l]:=by simp only[bF,xk,cE.blk,hu]
  have hal:∀x,al ⟨w,A,bF [cE.row v 47 l]⟩ [cE.row v 47 l] x->al ⟨w,A,bF [cE.row v 47 l]⟩ [cE.row u 47 b] x:=λx h=>⟨h.1,by rw[hbk];exact h.2⟩;refine⟨u, .lit u,[cE.row u 47 b],rfl,⟨⟨λi=>if i=1 then u else ρ.v i,ρ.b⟩,λi hi=>⟨by show _=if i=1 then u else ρ.v i;rw[bP (by omega)],rfl⟩,by rw[dL];rfl,List.Perm.refl _⟩,⟨⟨hk,?_,?_,?_⟩,hk,λx _ h=>⟨hal x h,h.2⟩⟩, .lit u⟩
  ·intro r hr;rw[zy.1 hr];refine⟨us',hrow,λi _=>rfl,λi hi=>(hrel i hi).mono λx hx hA=> ?_⟩;have hnb:x∉bF [cE.row v 47 l]:=λh=>hd.2 x h hA;exact⟨⟨.inl hA,by rw[hbk];exact hnb⟩,hk.block x hx hnb⟩
  ·rw[hbk];exact hn
  ·intro x hx;rw[hbk]at hx;exact .inl hx
 obtain⟨h1l,hcase⟩:=h1;rcases hcase with ⟨p,hvp,hl0⟩|⟨gb,cap,cur,hvp,hg,q1,q2,q3,q4⟩
 ·have hl:l=[]:=xe.1 hl0;have hbn:b=[]:=by rw[hbl,hl];rfl
  subst hvp;refine(J9 func201 p 0 (.func (.func 252) #[] #[]) w).mono λe w' he=> ?_;obtain⟨rfl,rfl⟩:=he;refine fin w' _ rfl ⟨[],?_,λi hi=>by rw[hbn]at hi;cases hi⟩ (Kp.refl _ _);rw[hbn];exact⟨rfl, .inl ⟨p,rfl,rfl⟩⟩
 ·subst hvp;have hgs:gb<w.heap.size:=(xE.1 hg).1;have hAg:¬A gb:=hd.2 gb (bU.2 ⟨_,zy.2 rfl,rfl⟩);have q4:cur.toList.take (l.length*2)=us:=q4;have q3:cur.size=(cap+1)*2:=q3;have h1l:us.length=l.length*2:=h1l;have q1':l.length<=cap+1:=q1;obtain⟨d,d1,d2,d3⟩:=aj4 h1l h3;have hH:HoldsK oG 2 w gb 0 d:=Ho hg d3 (by rw[h1l];exact q4);have hcmp:∀(dk:Array (Ob A w)) (W:World),dk.size=d.size->SWK oG 2 w gb 0 dk W->∀x y:Ob A w,Calls w9 252 (#[.agg (oG x).toArray, .agg (oG y).toArray]++#[]) W λe w'=>e= .returned (.bool (eqO x y))/\∃q os',w'=grow (W.drewN q) os':=λdk W hdk ⟨n,os,hW⟩ x y=>by
   subst hW;exact R4 (azN x.1.1 y.1.1 (amn x)) (λc hc hA=>oV hc λe=>hAg (e▸hA))
  have hs:=Y7 (P:=w9) func201 (by kernel_rfl) underlying3 Tryz.isAgg3 Tryz.sizeOf3 Tryz.zeroValue3 underlying4 Tryz.isAgg4 Tryz.sizeOf4 Tryz.zeroValue4 underlying50 Tryz.isAgg50 Tryz.sizeOf50 Tryz.zeroValue50
   2 Tryz.isAgg47 Tryz.sizeOf47 oG eqO 252 #[] gb 0 (cap+1) d w (enters_of func252 (by kernel_rfl) rfl) hcmp ⟨uT,SM,hH,hgs⟩ (by rw[d1];omega) (by rw[d1];exact q1')
   (λkk=>(Builtin.zeroCells #[.slice S 0 0, .int .i64 0] (d.size-kk)).toList) (λW dk kk hS hdk hkk ty=>by
    obtain⟨n,os,rfl⟩:=hS;exact abP (sO hg) (by simp[putCells,q3];omega) hkk)
  rw[d1]at hs;refine hs.mono λe w' he=> ?_;obtain⟨rfl,dk,W,⟨n,os,hW⟩,hdk,hlow,hfin⟩:=he;rw[<-d1]at hlow hfin ⊢;obtain⟨L,hL⟩:∃L,L=FN eqO d d.size:=⟨_,rfl⟩;rw[<-hL]at hlow hfin ⊢;have hLb:L.map (λx=>x.1.1)=b:=by
   rw[hL,RC d d.size (zo _),d2,d1,zD,hbl]
  have hLlen:L.length=b.length:=by rw[<-hLb,zx]
  have hbll:b.length<=l.length:=by rw[hbl];exact agy l
  have hWg:W.heap[gb]? =V (.cells (putCells id 0 (flatK oG 2 dk) cur) 47 (0,0)):=by rw[hW];exact sO hg
  have hkW:Kp [gb] w W:=by rw[hW];exact Mx
  have hFs:(flatK oG 2 dk).size=l.length*2:=by rw[size_flatK,hdk]
  obtain⟨F,hF1,hF2,hF3,hF4⟩:∃F:Array Value,w'.heap[gb]? =V (.cells F 47 (0,0))/\F.size=(cap+1)*2/\F.toList.take (b.length*2)=(flatK oG 2 dk).toList.take (b.length*2)/\Kp [gb] w w':=by
   have ht:=KZ (F:=flatK oG 2 dk) (cur:=cur) (by rw[hFs,q3];omega);have ht2:(putCells id 0 (flatK oG 2 dk) cur).toList.take (b.length*2)=(flatK oG 2 dk).toList.take (b.length*2):=by
    rw[<-ht,List.take_take,Nat.min_eq_left (by rw[hFs];omega)]
   rcases hfin with rfl|rfl
   ·exact⟨_,hWg,by simp[putCells,q3],ht2,hkW⟩
   ·refine⟨_,si _ _ _ _ hWg,by simp[putCells,q3],?_,Kp.trans hkW (Be _ _ _) λx hx _=>hx⟩;rw[<-ht2];apply List.ext_getElem?;intro j;by_cases hj:j<b.length*2
    ·rw[wO hj,wO hj,wY,wY];have hjs:j<(putCells id 0 (flatK oG 2 dk) cur).size:=by simp[putCells,q3];omega
     have:=get_setMany ((Builtin.zeroCells #[.slice S 0 0, .int .i64 0] (d.size-L.length)).toList) (0+L.length*2) _ j hjs;rw[bP (by omega),getElem!_pos _ j (by simpa using hjs),getElem!_pos _ j hjs]at this;rw[xK (by simpa using hjs),xK hjs,this]
    ·rw[List.getElem?_take_eq_none (by omega),List.getElem?_take_eq_none (by omega)]
  have hdl:flatK oG 2 L.toArray=((flatK oG 2 dk).toList.take (b.length*2)).toArray:=by
   refine ext_get! (by simp[hLlen,hFs];omega) λt ht=> ?_;have ht:t<L.length*2:=by simpa using ht
   rw[get_flatK _ _ _ t (by simpa using ht)];have e1:(L.toArray)[t/2]! =dk[t/2]! :=by
    have:=hlow (t/2) (by omega);rw[getElem!_pos _ (t/2) (by simp;omega)];rw[zu (by omega)]at this;simpa using zA.inj this
   have e2:(((flatK oG 2 dk).toList.take (b.length*2)).toArray)[t]! =(flatK oG 2 dk)[t]! :=by
    rw[getElem!_pos _ t (by simp[hFs];omega),getElem!_pos _ t (by rw[hFs];omega)];simp
   rw[e1,e2,get_flatK _ _ _ t (by rw[hdk];omega)]
  obtain⟨r1,r2⟩:=YD L.toArray b (by simpa using hLb);rw[hdl]at r1 r2;refine fin w' _ rfl ⟨(flatK oG 2 dk).toList.take (b.length*2),⟨by simpa using r1, .inr ⟨gb,cap,F,by rw[hLlen],hF1,by omega,q2,hF2,hF3⟩⟩,λi hi=>by simpa using r2 i hi⟩ hF4
def at7:aj0:=λg b hb=>amV g.2.1 b hb
end Go.Proofs.YtnfljbehcffmcaaGreat
end
noncomputable section
namespace Go.Iv
variable [U:ru] [L:l7]
open Go Go.RowKit
def cnY(n0:Nat)(args:aa AV)(Rp:aZ)(ns:aa Nat):Bool:=zf Rp.length n0&&args.all (kA (λi=>dB i ns) 4)&&Rp.all (λq=>match q.2 with
 | .box _ cs=>cs.all (kA (λi=>dB i ns) 4)
 | .row _ _=>O)
def Ux{γ β α:Type}(t:γ->af β)(K:β->af α)(F za:af α)(o:af γ):af α:=match o with
 |some g=>match t g with
  |some b=>K b
  |none=>za
 |none=>F
def onT{α:Type}(c:Bool)(x y:af α):af α:=match c with
 |true=>x
 |false=>y
def Ag{α γ β:Type}(q:aa AV->aZ->af γ)(t:γ->af β)(out:β->Out)(n0:Nat)(args:aa AV)(nx:Nat)(k:AV->aZ->Nat->af α)(F za:af α)(Rp Rr:aZ)(ns:aa Nat):af α:=
 onT (cnY n0 args Rp ns) (Ux t (λb=>k (kX (kR ns n0 nx) 4 (out b).d) ((out b).R.map (λq=>(kR ns n0 nx q.1,FT (kR ns n0 nx) q.2))++Rr) (nx+((out b).c-n0))) F za (q (args.map (kX (lE ns) 4)) (Rp.map λq=>(lE ns q.1,FT (lE ns) q.2)))) F
def WC{α γ β:Type}(q:aa AV->aZ->af γ)(t:γ->af β)(out:β->Out)(n0:Nat)(args:aa AV)(nx:Nat)(k:AV->aZ->Nat->af α)(F:af α)(Rp Rr:aZ)(ns:aa Nat):Ns q t out n0 args nx k F Rp Rr ns=Ag q t out n0 args nx k F S Rp Rr ns:=rfl
def aht{γ β α:Type}(t:γ->af β)(K:β->af α)(F:af α)(o:af γ):Ux t K F F o=Ux t K F S o\/Ux t K F F o=F:=by
 unfold Ux;cases o with
 |none=>exact .inr rfl
 |some g=>
  cases h:t g with
  |none=>exact .inr (by simp only[h])
  |some b=>exact .inl (by simp only[h])
def VE{α γ β:Type}(q:aa AV->aZ->af γ)(t:γ->af β)(out:β->Out)(n0:Nat)(args:aa AV)(nx:Nat)(k:AV->aZ->Nat->af α)(F:af α)(Rp Rr:aZ)(ns:aa Nat):
  Ag q t out n0 args nx k F F Rp Rr ns=Ns q t out n0 args nx k F Rp Rr ns\/Ag q t out n0 args nx k F F Rp Rr ns=F:=by
 rw[WC];unfold Ag;cases cnY n0 args Rp ns with
 |false=>exact .inr rfl
 |true=>exact aht ..
def Om{γ β:Type}(f0 n0:Nat)(q:aa AV->aZ->af γ)(t:γ->af β)(out:β->Out)(F:bf):bf:=λ_ f args R nx k=>match zf f f0 with
 |true=>Ag q t out n0 args nx k (F _ f args R nx k) (F _ f args R nx k) (jT (reach R 3 (args.flatMap (j6 4))) R).1 (jT (reach R 3 (args.flatMap (j6 4))) R).2 ((jT (reach R 3 (args.flatMap (j6 4))) R).1.map λq=>q.1)
 |false=>F _ f args R nx k
def aeQ{γ β α:Type}(f0 n0:Nat)(q:aa AV->aZ->af γ)(t:γ->af β)(out:β->Out)(F:bf)(f:FuncId)(args:aa AV)(R:aZ)(nx:Nat)(k:AV->aZ->Nat->af α):
  Om f0 n0 q t out F α f args R nx k=Zu f0 n0 q t out F α f args R nx k\/Om f0 n0 q t out F α f args R nx k=F α f args R nx k:=by
 unfold Om Zu;cases zf f f0 with
 |true=>exact VE ..
 |false=>exact .inr rfl
def aaC{γ δ:Type}{f0 n0:Nat}{q:aa AV->aZ->af γ}{t:γ->af δ}{out:δ->Out}{F:bf}(hN:dU F):dU (Om f0 n0 q t out F):=λα β f args R nx k D=>by
 have hF:=hN α β f args R nx k D;unfold Om Ag onT Ux;cases zf f f0 with
 |false=>exact hF
 |true=>
  cases cnY n0 args (jT (reach R 3 (args.flatMap (j6 4))) R).1 ((jT (reach R 3 (args.flatMap (j6 4))) R).1.map λq=>q.1)with
  |false=>exact hF
  |true=>
   simp only;split
   ·split
    ·rfl
    ·exact hF
   ·exact hF
def aoZ{P:Program}{F:bf}{γ β:Type}{f0 n0:Nat}{q:aa AV->aZ->af γ}{ca:γ->aa AV}{cr:γ->aZ}{t:γ->af β}{out:β->Out}(hF:aQ P F)(hf:s8 P f0)(hq:QY q ca cr)(hm:∀b,(out b).okB n0=O)
  (h:∀g b,t g=V b->Lu P f0 (ca g) (cr g) n0 (out b)):aQ P (Om f0 n0 q t out F):=⟨λα f args R nx k r hr hargs hR=>by
 rcases aeQ f0 n0 q t out F f args R nx k with e|e
 ·exact abk hF.ok hf hq hm h α f args R nx k r (e▸hr) hargs hR
 ·exact hF.ok α f args R nx k r (e▸hr) hargs hR,aaC hF.nat⟩
def eZf{γ β:Type}(P:Program)(f:Nat)(a:Rl γ)(d:Td 0 β)(t:γ->af β)(F:bf):bf:=Om f 0 (qy0 a.q) t (λx=>gN P f 0 (d.pat x)) F
def QE{γ β:Type}{P:Program}{f:Nat}{F:bf}{a:Rl γ}{d:Td 0 β}{t:γ->af β}(h:HL P f a d t)(hf:s8 P f)(h3:∀b,(gN P f 0 (d.pat b)).okB 0=O)(hF:aQ P F):aQ P (eZf P f a d t F):=
 aoZ hF hf (aad a.ok) h3 h
end Go.Iv
end
noncomputable section
set_option maxRecDepth 100000
namespace Go.Proofs.YtnfljbehcffmcaaGreat
open Go Go.Iv
open Go.IntKind (i64 u64)
def aqZ:bf:=(e39 de)
def aer:aQ w9 aqZ:=(aoH aP)
abbrev axt:=aa aH
def d127:Td 0 axt:= .c [] [2] (.r 0 1 (ec 2 (qo 0) en) (sr 0 34 sn) (λz=>z.2.1) (λx=>(((),()),(x,()))))
def asK:=(lc (qg 26) ln)
def akg:An:= .no
def at8:cU w9 (aqZ) 0 300 127 (akg):=bB (l:=[]) func127 (aV (by kernel_rfl)) (by kernel_rfl) aF
def adk(a0:aN):af axt:=
 match m39 a0 with|S=>S|V r1=>V (r1)
def aA8(a0:aN):bM w9 (aqZ) 300 (akg) 127 (asK.c (a0,())) [] 0 d127.rd=adk a0:=by kernel_rfl
def axc:=eL w9 127 G asK d127 (λg=>adk g.1)
def afU{F:bf}(h:aQ w9 F):aQ w9 (axc F):=cT (sc:=jM) cv (cH aer at8 (λ_=>by kernel_rfl) (λ_=>by kernel_rfl) λg=>aA8 g.1) ⟨_,func127,by kernel_rfl,by kernel_rfl⟩ (λ_=>by kernel_rfl) (λ_=>by kernel_rfl) h
def F77:bf:=de
def arO:aQ w9 F77:=aP
structure D3 where
 (t0 t1:List Int)
 (t12 t13:Int)
def Nj:Td 0 D3:= .c [] [0,1,12,13] (.r 0 0 (ec 0 (ql 3) (ec 1 (ql 3) (ec 12 aM (ec 13 aM en)))) sn (λz=>⟨z.1.1,z.1.2.1,z.1.t.1,z.1.t.2.1⟩) (λx=>((x.t0,x.t1,x.t12,x.t13,()),(()))))
def Ld(p:D3):af (af D3):=
 bif J (p.t13<p.t12)then if 0<=p.t13/\p.t13<p.t0.length then if 0<=p.t13/\p.t13<p.t1.length then bif bif J (p.t0[p.t13.toNat]! =p.t1[p.t13.toNat]!)then G else O then V (S)else V (V (D3.mk p.t0 p.t1 p.t12 (i64.wrap (p.t13+1))))else S else S else V (S)
def avN(p:D3):ep w9 (F77) f77.ntmps 300 (bg f77 0) .no (af D3) (Nj.pat p) (Bd Nj.rd)=Ld p:=by kernel_rfl
def SS:=bK (Ld)
abbrev E77:=Bool
def d77:Td 0 E77:= .c [] [4] (.r 0 0 (ec 4 qb en) sn (λz=>z.1.1) (λx=>((x,()),(()))))
def A77:=(lc (ql 3) (lc (ql 3) ln))
def awZ:An:=(noTwo (noTwo (.two (noTwo (Nj.lp SS .no)) .no)))
def aB6:cU w9 (F77) 0 300 77 (awZ):=bB (l:=[(bg f77 0,(Nj.lp SS .no))]) func77 (aV (by kernel_rfl)) (by kernel_rfl) (aA ⟨Nj.ok _,dR (avN)⟩ aF)
def m77(a0:aa Int)(a1:aa Int):af E77:=
 bif bif J ((a0.length:Int)=(a1.length:Int))then G else O then V G else match SS (D3.mk a0 a1 a0.length 0)with|S=>S|V r1=>bif J (r1.t13<r1.t12)then if 0<=r1.t13/\r1.t13<r1.t0.length then if 0<=r1.t13/\r1.t13<r1.t1.length then bif bif J (r1.t0[r1.t13.toNat]! =r1.t1[r1.t13.toNat]!)then G else O then V G else S else S else S else V O
def c77(a0:aa Int)(a1:aa Int):bM w9 (F77) 300 (awZ) 77 (A77.c (a0,a1,())) [] 0 d77.rd=m77 a0 a1:=by kernel_rfl
def e77:=eL w9 77 G A77 d77 (λg=>m77 g.1 g.2.1)
def ap7{F:bf}(h:aQ w9 F):aQ w9 (e77 F):=cT (sc:=jM) cv (cH arO aB6 (λ_=>by kernel_rfl) (λ_=>by kernel_rfl) λg=>c77 g.1 g.2.1) ⟨_,func77,by kernel_rfl,by kernel_rfl⟩ (λ_=>by kernel_rfl) (λ_=>by kernel_rfl) h
def aba{F:bf}{f:Nat}(h:bw F f):bw (e77 F) f:=eS h (λ_=>by kernel_rfl)
def am5:bf:=de
def ajL:aQ w9 am5:=aP
abbrev auz:=Int
def d108:Td 0 auz:= .c [] [2] (.r 0 0 (ec 2 aM en) sn (λz=>z.1.1) (λx=>((x,()),(()))))
def auq:=(lc (qg 34) ln)
def alv:An:= .no
def auS:cU w9 (am5) 0 300 108 (alv):=bB (l:=[]) func108 (aV (by kernel_rfl)) (by kernel_rfl) aF
def Hr(a0:aH):auz:=
 i64.wrap (i64.wrap (a0.ah-a0.ag)+1)
def aDI(a0:aH):bM w9 (am5) 300 (alv) 108 (auq.c (a0,())) [] 0 d108.rd=V (Hr a0):=by kernel_rfl
def MA:=eL w9 108 G auq d108 (λg=>V (Hr g.1))
def T9{F:bf}(h:aQ w9 F):aQ w9 (MA F):=cT (sc:=jM) cv (cH ajL auS (λ_=>by kernel_rfl) (λ_=>by kernel_rfl) λg=>aDI g.1) ⟨_,func108,by kernel_rfl,by kernel_rfl⟩ (λ_=>by kernel_rfl) (λ_=>by kernel_rfl) h
def aom:bf:=(MA de)
def ah7:aQ w9 aom:=(T9 aP)
abbrev ath:=Bool
def d107:Td 0 ath:= .c [] [2] (.r 0 0 (ec 2 qb en) sn (λz=>z.1.1) (λx=>((x,()),(()))))
def axZ:=(lc (qg 34) ln)
def alX:An:= .no
def awR:cU w9 (aom) 0 300 107 (alX):=bB (l:=[]) func107 (aV (by kernel_rfl)) (by kernel_rfl) aF
def Oo(a0:aH):ath:=
 J (1<Hr a0)
def aBh(a0:aH):bM w9 (aom) 300 (alX) 107 (axZ.c (a0,())) [] 0 d107.rd=V (Oo a0):=by kernel_rfl
def ael:=eL w9 107 G axZ d107 (λg=>V (Oo g.1))
def Ic{F:bf}(h:aQ w9 F):aQ w9 (ael F):=cT (sc:=jM) cv (cH ah7 awR (λ_=>by kernel_rfl) (λ_=>by kernel_rfl) λg=>aBh g.1) ⟨_,func107,by kernel_rfl,by kernel_rfl⟩ (λ_=>by kernel_rfl) (λ_=>by kernel_rfl) h
def age:bf:=(ael de)
def ahb:aQ w9 age:=(Ic aP)
structure s9 where
 t0:List aH
 (t7 t8:Int)
def Db:Td 0 s9:= .c [] [0,1,7,8] (.r 0 0 (ec 0 (ql 34) (ec 1 (qf 107 ln) (ec 7 aM (ec 8 aM en)))) sn (λz=>⟨z.1.1,z.1.t.1,z.1.t.2.1⟩) (λx=>((x.t0,(()),x.t7,x.t8,()),(()))))
def AW(p:s9):af (af s9):=
 bif J (p.t8<p.t7)then if 0<=p.t8/\p.t8<p.t0.length then bif Oo p.t0[p.t8.toNat]! then V (S)else V (V (s9.mk p.t0 p.t7 (i64.wrap (p.t8+1))))else S else V (S)
def anU(p:s9):ep w9 (age) f190.ntmps 300 (bg f190 0) .no (af s9) (Db.pat p) (Bd Db.rd)=AW p:=by kernel_rfl
def JZ:=bK (AW)
abbrev atN:=Int
def d190:Td 0 atN:= .c [] [4] (.r 0 0 (ec 4 aM en) sn (λz=>z.1.1) (λx=>((x,()),(()))))
def ay7:=(lc (ql 34) (lc (qf 107 ln) ln))
def alH:An:=(noTwo (.two (noTwo (Db.lp JZ .no)) .no))
def awK:cU w9 (age) 0 300 190 (alH):=bB (l:=[(bg f190 0,(Db.lp JZ .no))]) func190 (aV (by kernel_rfl)) (by kernel_rfl) (aA ⟨Db.ok _,dR (anU)⟩ aF)
def aeT(a0:aa aH):af atN:=
 match JZ (s9.mk a0 a0.length 0)with|S=>S|V r1=>bif J (r1.t8<r1.t7)then if 0<=r1.t8/\r1.t8<r1.t0.length then bif Oo r1.t0[r1.t8.toNat]! then V (r1.t8)else S else S else V (-1)
def aCO(a0:aa aH):bM w9 (age) 300 (alH) 190 (ay7.c (a0,(()),())) [] 0 d190.rd=aeT a0:=by kernel_rfl
def aw3:=eL w9 190 G ay7 d190 (λg=>aeT g.1)
def aee{F:bf}(h:aQ w9 F):aQ w9 (aw3 F):=cT (sc:=jM) cv (cH ahb awK (λ_=>by kernel_rfl) (λ_=>by kernel_rfl) λg=>aCO g.1) ⟨_,func190,by kernel_rfl,by kernel_rfl⟩ (λ_=>by kernel_rfl) (λ_=>by kernel_rfl) h
def anl:bf:=(aw3 (ael de))
def adZ:aQ w9 anl:=(aee (Ic aP))
abbrev ays:=Bool
def d106:Td 0 ays:= .c [] [4] (.r 0 0 (ec 4 qb en) sn (λz=>z.1.1) (λx=>((x,()),(()))))
def avC:=(lc (ql 34) (lc (qf 107 ln) ln))
def ajW:An:= .no
def avg:cU w9 (anl) 0 300 106 (ajW):=bB (l:=[]) func106 (aV (by kernel_rfl)) (by kernel_rfl) aF
def abh(a0:aa aH):af ays:=
 match aeT a0 with|S=>S|V r1=>V (J (0<=r1))
def aDo(a0:aa aH):bM w9 (anl) 300 (ajW) 106 (avC.c (a0,(()),())) [] 0 d106.rd=abh a0:=by kernel_rfl
def Wa:=eL w9 106 G avC d106 (λg=>abh g.1)
def af1{F:bf}(h:aQ w9 F):aQ w9 (Wa F):=cT (sc:=jM) cv (cH adZ avg (λ_=>by kernel_rfl) (λ_=>by kernel_rfl) λg=>aDo g.1) ⟨_,func106,by kernel_rfl,by kernel_rfl⟩ (λ_=>by kernel_rfl) (λ_=>by kernel_rfl) h
def apU:bf:=(vO de)
def acr:aQ w9 apU:=(qI aP)
abbrev awY:=Bool
def d187:Td 0 awY:= .c [] [4] (.r 0 0 (ec 4 qb en) sn (λz=>z.1.1) (λx=>((x,()),(()))))
def ayM:=(lc (qg 47) (lc (qg 47) ln))
def alp:An:= .no
def axq:cU w9 (apU) 0 300 187 (alp):=bB (l:=[]) func187 (aV (by kernel_rfl)) (by kernel_rfl) aF
def Vh(a0:aD)(a1:aD):af awY:=
 match FV a0 a1 with|S=>S|V r1=>V (J (r1=0))
def aEf(a0:aD)(a1:aD):bM w9 (apU) 300 (alp) 187 (ayM.c (a0,a1,())) [] 0 d187.rd=Vh a0 a1:=by kernel_rfl
def Ze:=eL w9 187 G ayM d187 (λg=>Vh g.1 g.2.1)
def BU{F:bf}(h:aQ w9 F):aQ w9 (Ze F):=cT (sc:=jM) cv (cH acr axq (λ_=>by kernel_rfl) (λ_=>by kernel_rfl) λg=>aEf g.1 g.2.1) ⟨_,func187,by kernel_rfl,by kernel_rfl⟩ (λ_=>by kernel_rfl) (λ_=>by kernel_rfl) h
def afM:bf:=(e77 de)
def aiw:aQ w9 afM:=(ap7 aP)
abbrev auu:=Bool
def d189:Td 0 auu:= .c [] [4] (.r 0 0 (ec 4 qb en) sn (λz=>z.1.1) (λx=>((x,()),(()))))
def avR:=(lc (qg 117) (lc (qg 117) ln))
def aj1:An:=(noTwo (.two (.rb [77] 4) .no))
def axv:∀f∈([77]:aa Nat),bw (afM) f:=(aA (aba bS) aF)
def awb:cU w9 (afM) 0 300 189 (aj1):=bB (l:=[(.skip,(.rb [77] 4))]) func189 (aV (by kernel_rfl)) (by kernel_rfl) (aA axv aF)
def VG(a0:Cell)(a1:Cell):af auu:=
 match bif J (a0.cA=a1.cA)then bif J (a0.jo=a1.jo)then bif J (a0.gB=a1.gB)then match m77 a0.aq a1.aq with|S=>S|V r1=>bif r1 then match m77 a0.dI a1.dI with|S=>S|V r2=>V (r2)else V (G)else V (G)else V (G)else V (G)with|S=>S|V r3=>V (r3)
def aBF(a0:Cell)(a1:Cell):bM w9 (afM) 300 (aj1) 189 (avR.c (a0,a1,())) [] 0 d189.rd=VG a0 a1:=by kernel_rfl
def ap0:=eL w9 189 G avR d189 (λg=>VG g.1 g.2.1)
def BK{F:bf}(h:aQ w9 F):aQ w9 (ap0 F):=cT (sc:=jM) cv (cH aiw awb (λ_=>by kernel_rfl) (λ_=>by kernel_rfl) λg=>aBF g.1 g.2.1) ⟨_,func189,by kernel_rfl,by kernel_rfl⟩ (λ_=>by kernel_rfl) (λ_=>by kernel_rfl) h
def adK:bf:=(ap0 de)
def afd:aQ w9 adK:=(BK aP)
structure tA where
 (t1 t15:List Cell)
 (t16 t17:Int)
def DJ:Td 0 tA:= .c [] [1,2,15,16,17] (.r 0 0 (ec 1 (ql 117) (ec 2 (qf 189 ln) (ec 15 (ql 117) (ec 16 aM (ec 17 aM en))))) sn (λz=>⟨z.1.1,z.1.t.1,z.1.t.2.1,z.1.q.1⟩) (λx=>((x.t1,(()),x.t15,x.t16,x.t17,()),(()))))
def FC(p:tA):af (af tA):=
 bif J (p.t17<p.t16)then if 0<=p.t17/\p.t17<p.t15.length then if 0<=p.t17/\p.t17<p.t1.length then match VG p.t15[p.t17.toNat]! p.t1[p.t17.toNat]! with|S=>S|V r1=>bif bif r1 then G else O then V (S)else V (V (tA.mk p.t1 p.t15 p.t16 (i64.wrap (p.t17+1))))else S else S else V (S)
def anq(p:tA):ep w9 (adK) f120.ntmps 300 (bg f120 0) .no (af tA) (DJ.pat p) (Bd DJ.rd)=FC p:=by kernel_rfl
def Kn:=bK (FC)
abbrev axb:=Bool
def d120:Td 0 axb:= .c [] [6] (.r 0 0 (ec 6 qb en) sn (λz=>z.1.1) (λx=>((x,()),(()))))
def azU:=(lc (ql 117) (lc (ql 117) (lc (qf 189 ln) ln)))
def akD:An:=(noTwo (noTwo (.two (noTwo (DJ.lp Kn .no)) .no)))
def auL:cU w9 (adK) 0 300 120 (akD):=bB (l:=[(bg f120 0,(DJ.lp Kn .no))]) func120 (aV (by kernel_rfl)) (by kernel_rfl) (aA ⟨DJ.ok _,dR (anq)⟩ aF)
def UR(a0:aa Cell)(a1:aa Cell):af axb:=
 bif bif J ((a0.length:Int)=(a1.length:Int))then G else O then V G else match Kn (tA.mk a1 a0 a0.length 0)with|S=>S|V r2=>bif J (r2.t17<r2.t16)then if 0<=r2.t17/\r2.t17<r2.t15.length then if 0<=r2.t17/\r2.t17<r2.t1.length then match VG r2.t15[r2.t17.toNat]! r2.t1[r2.t17.toNat]! with|S=>S|V r3=>bif bif r3 then G else O then V G else S else S else S else V O
def aD7(a0:aa Cell)(a1:aa Cell):bM w9 (adK) 300 (akD) 120 (azU.c (a0,a1,(()),())) [] 0 d120.rd=UR a0 a1:=by kernel_rfl
def aet:=eL w9 120 G azU d120 (λg=>UR g.1 g.2.1)
def JH{F:bf}(h:aQ w9 F):aQ w9 (aet F):=cT (sc:=jM) cv (cH afd auL (λ_=>by kernel_rfl) (λ_=>by kernel_rfl) λg=>aD7 g.1 g.2.1) ⟨_,func120,by kernel_rfl,by kernel_rfl⟩ (λ_=>by kernel_rfl) (λ_=>by kernel_rfl) h
def F71:bf:=(Ze de)
def ao7:aQ w9 F71:=(BU aP)
structure EU where
 (t1 t15:List aD)
 (t16 t17:Int)
def LC:Td 0 EU:= .c [] [1,2,15,16,17] (.r 0 0 (ec 1 (ql 47) (ec 2 (qf 187 ln) (ec 15 (ql 47) (ec 16 aM (ec 17 aM en))))) sn (λz=>⟨z.1.1,z.1.t.1,z.1.t.2.1,z.1.q.1⟩) (λx=>((x.t1,(()),x.t15,x.t16,x.t17,()),(()))))
def Ma(p:EU):af (af EU):=
 bif J (p.t17<p.t16)then if 0<=p.t17/\p.t17<p.t15.length then if 0<=p.t17/\p.t17<p.t1.length then match Vh p.t15[p.t17.toNat]! p.t1[p.t17.toNat]! with|S=>S|V r1=>bif bif r1 then G else O then V (S)else V (V (EU.mk p.t1 p.t15 p.t16 (i64.wrap (p.t17+1))))else S else S else V (S)
def awV(p:EU):ep w9 (F71) f71.ntmps 300 (bg f71 0) .no (af EU) (LC.pat p) (Bd LC.rd)=Ma p:=by kernel_rfl
def TK:=bK (Ma)
abbrev E71:=Bool
def d71:Td 0 E71:= .c [] [6] (.r 0 0 (ec 6 qb en) sn (λz=>z.1.1) (λx=>((x,()),(()))))
def A71:=(lc (ql 47) (lc (ql 47) (lc (qf 187 ln) ln)))
def ay8:An:=(noTwo (noTwo (.two (noTwo (LC.lp TK .no)) .no)))
def aCV:cU w9 (F71) 0 300 71 (ay8):=bB (l:=[(bg f71 0,(LC.lp TK .no))]) func71 (aV (by kernel_rfl)) (by kernel_rfl) (aA ⟨LC.ok _,dR (awV)⟩ aF)
def m71(a0:aa aD)(a1:aa aD):af E71:=
 bif bif J ((a0.length:Int)=(a1.length:Int))then G else O then V G else match TK (EU.mk a1 a0 a0.length 0)with|S=>S|V r2=>bif J (r2.t17<r2.t16)then if 0<=r2.t17/\r2.t17<r2.t15.length then if 0<=r2.t17/\r2.t17<r2.t1.length then match Vh r2.t15[r2.t17.toNat]! r2.t1[r2.t17.toNat]! with|S=>S|V r3=>bif bif r3 then G else O then V G else S else S else S else V O
def c71(a0:aa aD)(a1:aa aD):bM w9 (F71) 300 (ay8) 71 (A71.c (a0,a1,(()),())) [] 0 d71.rd=m71 a0 a1:=by kernel_rfl
def e71:=eL w9 71 G A71 d71 (λg=>m71 g.1 g.2.1)
def OI{F:bf}(h:aQ w9 F):aQ w9 (e71 F):=cT (sc:=jM) cv (cH ao7 aCV (λ_=>by kernel_rfl) (λ_=>by kernel_rfl) λg=>c71 g.1 g.2.1) ⟨_,func71,by kernel_rfl,by kernel_rfl⟩ (λ_=>by kernel_rfl) (λ_=>by kernel_rfl) h
def anV:bf:=de
def ajq:aQ w9 anV:=aP
abbrev amW:=aH
def d250:Td 0 amW:= .c [] [4] (.r 0 1 (ec 4 (qp 0 0) en) (sb 0 34 (lg 34) sn) (λz=>z.2.1) (λx=>(((),()),(x,()))))
def atf:=(bk (bk ln))
def alU:An:= .no
def as1:cU w9 (anV) 0 300 250 (alU):=bB (l:=[]) func250 (aV (by kernel_rfl)) (by kernel_rfl) aF
def O8(a0:Int)(a1:Int):amW:=
 bif J (a0=a1)then aH.mk a0 a1 (0)else aH.mk a0 a1 (1)
def aDt(a0:Int)(a1:Int):bM w9 (anV) 300 (alU) 250 (atf.c (a0,a1,())) [] 0 d250.rd=V (O8 a0 a1):=by
 refine Eq.trans (b:=(
  bif J (a0=a1)then V (aH.mk a0 a1 (0))else V (aH.mk a0 a1 (1)):af amW)) (by kernel_rfl) ?_
 simp only[O8,cM,dg]
def aw5:=eL w9 250 G atf d250 (λg=>V (O8 g.1 g.2.1))
def afY{F:bf}(h:aQ w9 F):aQ w9 (aw5 F):=cT (sc:=jM) cv (cH ajq as1 (λ_=>by kernel_rfl) (λ_=>by kernel_rfl) λg=>aDt g.1 g.2.1) ⟨_,func250,by kernel_rfl,by kernel_rfl⟩ (λ_=>by kernel_rfl) (λ_=>by kernel_rfl) h
def anK:bf:=(aw5 (e40 de))
def aeF:aQ w9 anK:=(afY (sK aP))
abbrev azm:=(aa aH)×(aa aH)
def d186:Td 0 azm:= .c [] [6,7] (.r 0 2 (ec 6 (qo 0) (ec 7 (qo 1) en)) (sr 0 34 (sr 1 34 sn)) (λz=>(z.2.1,z.t.1)) (λx=>(((),(),()),(x.1,x.2,()))))
def at6:=(lc (ql 34) (bk (bk ln)))
def akN:An:= .no
def auo:cU w9 (anK) 0 300 186 (akN):=bB (l:=[]) func186 (aV (by kernel_rfl)) (by kernel_rfl) aF
def OR(a0:aa aH)(a1:Int)(a2:Int):af azm:=
 match Wc a0 with|S=>S|V r1=>match Wc a0 with|S=>S|V r2=>if 0<=a1/\a1<a0.length then if 0<=a1/\a1<(↑(zS r1):Int)then if 34=34/\a1.toNat<zS r1 then if 0<=a1/\a1<a0.length then if 0<=a1/\a1<(↑(zS r2):Int)then if 34=34/\a1.toNat<zS r2 then V ((List.set r1 a1.toNat (O8 a0[a1.toNat]!.ag a2),List.set r2 a1.toNat (O8 (i64.wrap (a2+1)) a0[a1.toNat]!.ah)))else S else S else S else S else S else S
def aC1(a0:aa aH)(a1:Int)(a2:Int):bM w9 (anK) 300 (akN) 186 (at6.c (a0,a1,a2,())) [] 0 d186.rd=OR a0 a1 a2:=by kernel_rfl
def O4:=eL w9 186 G at6 d186 (λg=>OR g.1 g.2.1 g.t.1)
def BZ{F:bf}(h:aQ w9 F):aQ w9 (O4 F):=cT (sc:=jM) cv (cH aeF auo (λ_=>by kernel_rfl) (λ_=>by kernel_rfl) λg=>aC1 g.1 g.2.1 g.t.1) ⟨_,func186,by kernel_rfl,by kernel_rfl⟩ (λ_=>by kernel_rfl) (λ_=>by kernel_rfl) h
def apk:bf:=(e26 (e25 de))
def ab1:aQ w9 apk:=(mD (mB aP))
abbrev aui:=Tree
def d185:Td 2 aui:= .c [] [] (.r 2 3 en (sb 0 172 (lc (ql 131) (lc (ql 139) (lc (ql 166) (lc (ql 3) (lc qb (lc (qo 2) ln)))))) (sr 2 174 sn)) (λz=>(Tree.mk (aN.mk z.2.1.1 z.2.1.2.1 z.2.1.t.1) (bY.mk z.2.1.t.2.1 z.2.1.q.1) z.t.1)) (λx=>((()),((x.fF.aj,x.fF.ak,x.fF.bH,x.fV.aU,x.fV.eM,(),()),x.aS,()))))
def avo:=(lc (qp 0 0) (lc (ql 34) ln))
def axW:=(sb 0 172 (lc (ql 131) (lc (ql 139) (lc (ql 166) (lc (ql 3) (lc qb (lc (qo 1) ln)))))) (sr 1 174 sn))
def ak6:An:= .no
def au8:cU w9 (apk) 2 300 185 (ak6):=bB (l:=[]) func185 (aV (by kernel_rfl)) (by kernel_rfl) aF
def UJ(a1:aa aH)(b0:Tree):af aui:=
 match QT b0.fF b0.fV a1 with|S=>S|V r1=>match US b0.fF b0.fV a1 with|S=>S|V r2=>if(b0.aS++[dX.mk a1 ((0:Int)) ((0:Int)) [] r1.fst r2.snd.fst r2.fst]).length<=1073741824 then V (Tree.mk b0.fF b0.fV (b0.aS++[dX.mk a1 0 0 [] r1.fst r2.snd.fst r2.fst]))else S
def aEp(a1:aa aH)(b0:Tree):bM w9 (apk) 300 (ak6) 185 (avo.c ((),a1,())) (axW.d ((b0.fF.aj,b0.fF.ak,b0.fF.bH,b0.fV.aU,b0.fV.eM,(),()),b0.aS,())) 2 d185.rd=UJ a1 b0:=by kernel_rfl
def awy:bf->bf:=eY w9 185 2 avo axW d185 (λg=>UJ g.1.2.1 ((Tree.mk (aN.mk g.2.1.1 g.2.1.2.1 g.2.1.t.1) (bY.mk g.2.1.t.2.1 g.2.1.q.1) g.t.1)))
def ahv{F:bf}(h:aQ w9 F):aQ w9 (awy F):=oz (tO ab1 au8 (λ_=>by kernel_rfl) (λ_=>by kernel_rfl) (λ_=>by kernel_rfl) λg=>aEp g.1.2.1 ((Tree.mk (aN.mk g.2.1.1 g.2.1.2.1 g.2.1.t.1) (bY.mk g.2.1.t.2.1 g.2.1.q.1) g.t.1))) ⟨_,func185,by kernel_rfl,by kernel_rfl⟩ (λ_=>by kernel_rfl) h
def aqp:bf:=(O4 (awy de))
def aed:aQ w9 aqp:=(BZ (ahv aP))
abbrev auG:=Tree
def d191:Td 2 auG:= .c [] [] (.r 2 3 en (sb 0 172 (lc (ql 131) (lc (ql 139) (lc (ql 166) (lc (ql 3) (lc qb (lc (qo 2) ln)))))) (sr 2 174 sn)) (λz=>(Tree.mk (aN.mk z.2.1.1 z.2.1.2.1 z.2.1.t.1) (bY.mk z.2.1.t.2.1 z.2.1.q.1) z.t.1)) (λx=>((()),((x.fF.aj,x.fF.ak,x.fF.bH,x.fV.aU,x.fV.eM,(),()),x.aS,()))))
def awO:=(lc (qp 0 0) (bk (bk (bk ln))))
def atX:=(sb 0 172 (lc (ql 131) (lc (ql 139) (lc (ql 166) (lc (ql 3) (lc qb (lc (qo 1) ln)))))) (sr 1 174 sn))
def alf:An:= .no
def atl:cU w9 (aqp) 2 300 191 (alf):=bB (l:=[]) func191 (aV (by kernel_rfl)) (by kernel_rfl) aF
def lz(x0:Tree)(x1:Int)(x2:Int):=
 x0.aS.set x1.toNat (dX.mk x0.aS[x1.toNat]!.bR x2 x0.aS[x1.toNat]!.jo x0.aS[x1.toNat]!.aq x0.aS[x1.toNat]!.gB x0.aS[x1.toNat]!.ei x0.aS[x1.toNat]!.dI)
def lD(x0:Tree)(x1:Int)(x2:Int)(x3:Int):=
 (lz x0 x1 x2).set x1.toNat (dX.mk (lz x0 x1 x2)[x1.toNat]!.bR (lz x0 x1 x2)[x1.toNat]!.cA x3 (lz x0 x1 x2)[x1.toNat]!.aq (lz x0 x1 x2)[x1.toNat]!.gB (lz x0 x1 x2)[x1.toNat]!.ei (lz x0 x1 x2)[x1.toNat]!.dI)
def Xt(a1:Int)(a2:Int)(a3:Int)(b0:Tree):af auG:=
 if 0<=a1/\a1<b0.aS.length then if 174=174/\a1.toNat<b0.aS.length then match OR b0.aS[a1.toNat]!.bR a2 a3 with|S=>S|V r1=>if 0<=a1/\a1<b0.aS.length then if 174=174/\a1.toNat<b0.aS.length then if 0<=a1/\a1<(↑(lz b0 a1 a2).length:Int)then if 174=174/\a1.toNat<(lz b0 a1 a2).length then if 0<=a1/\a1<(↑(lD b0 a1 a2 a3).length:Int)then if 174=174/\a1.toNat<(lD b0 a1 a2 a3).length then match UJ r1.fst (Tree.mk b0.fF b0.fV ((lD b0 a1 a2 a3).set a1.toNat (dX.mk (lD b0 a1 a2 a3)[a1.toNat]!.bR (lD b0 a1 a2 a3)[a1.toNat]!.cA (lD b0 a1 a2 a3)[a1.toNat]!.jo [(b0.aS.length:Int),i64.wrap ((b0.aS.length:Int)+1)] (lD b0 a1 a2 a3)[a1.toNat]!.gB (lD b0 a1 a2 a3)[a1.toNat]!.ei (lD b0 a1 a2 a3)[a1.toNat]!.dI)))with|S=>S|V r2=>match UJ r1.snd r2 with|S=>S|V r3=>V (r3)else S else S else S else S else S else S else S else S
def aC4(a1:Int)(a2:Int)(a3:Int)(b0:Tree):bM w9 (aqp) 300 (alf) 191 (awO.c ((),a1,a2,a3,())) (atX.d ((b0.fF.aj,b0.fF.ak,b0.fF.bH,b0.fV.aU,b0.fV.eM,(),()),b0.aS,())) 2 d191.rd=Xt a1 a2 a3 b0:=by kernel_rfl
def adR:bf->bf:=eY w9 191 2 awO atX d191 (λg=>Xt g.1.2.1 g.1.t.1 g.1.t.2.1 ((Tree.mk (aN.mk g.2.1.1 g.2.1.2.1 g.2.1.t.1) (bY.mk g.2.1.t.2.1 g.2.1.q.1) g.t.1)))
def aej{F:bf}(h:aQ w9 F):aQ w9 (adR F):=oz (tO aed atl (λ_=>by kernel_rfl) (λ_=>by kernel_rfl) (λ_=>by kernel_rfl) λg=>aC4 g.1.2.1 g.1.t.1 g.1.t.2.1 ((Tree.mk (aN.mk g.2.1.1 g.2.1.2.1 g.2.1.t.1) (bY.mk g.2.1.t.2.1 g.2.1.q.1) g.t.1))) ⟨_,func191,by kernel_rfl,by kernel_rfl⟩ (λ_=>by kernel_rfl) h
def Uc:bf:=(adR (MA de))
def aaP:aQ w9 Uc:=(aej (T9 aP))
structure lV where
 t1:Int
 t5:List aH
 t6:Int
 t24:List aH
 (t25 t26:Int)
 b0:Tree
def ur:Td 2 lV:= .c [] [0,1,5,6,24,25,26] (.r 2 2 (ec 0 (qp 0 0) (ec 1 aM (ec 5 (ql 34) (ec 6 aM (ec 24 (ql 34) (ec 25 aM (ec 26 aM en))))))) (sb 0 172 (lc (ql 131) (lc (ql 139) (lc (ql 166) (lc (ql 3) (lc qb (lc (qo 1) ln)))))) (sr 1 174 sn)) (λz=>⟨z.1.2.1,z.1.t.1,z.1.t.2.1,z.1.q.1,z.1.q.2.1,z.1.q.t.1,(Tree.mk (aN.mk z.2.1.1 z.2.1.2.1 z.2.1.t.1) (bY.mk z.2.1.t.2.1 z.2.1.q.1) z.t.1)⟩) (λx=>(((),x.t1,x.t5,x.t6,x.t24,x.t25,x.t26,()),((x.b0.fF.aj,x.b0.fF.ak,x.b0.fF.bH,x.b0.fV.aU,x.b0.fV.eM,(),()),x.b0.aS,()))))
def qL(p:lV):af (af lV):=
 bif J (p.t26<p.t25)then if 0<=p.t26/\p.t26<p.t24.length then if 0<=p.t6/\p.t6<p.t5.length then bif J (Hr p.t5[p.t6.toNat]! <Hr p.t24[p.t26.toNat]!)then V (V (lV.mk p.t1 p.t5 p.t26 p.t24 p.t25 (i64.wrap (p.t26+1)) p.b0))else V (V (lV.mk p.t1 p.t5 p.t6 p.t24 p.t25 (i64.wrap (p.t26+1)) p.b0))else S else S else V (S)
def acR(p:lV):ep w9 (Uc) f109.ntmps 300 (bg f109 0) .no (af lV) (ur.pat p) (Bd ur.rd)=qL p:=by kernel_rfl
def Cf:=bK (qL)
abbrev ak7:=Int×Tree
def ak3:Td 2 ak7:= .c [] [4] (.r 2 3 (ec 4 aM en) (sb 0 172 (lc (ql 131) (lc (ql 139) (lc (ql 166) (lc (ql 3) (lc qb (lc (qo 2) ln)))))) (sr 2 174 sn)) (λz=>(z.1.1,(Tree.mk (aN.mk z.2.1.1 z.2.1.2.1 z.2.1.t.1) (bY.mk z.2.1.t.2.1 z.2.1.q.1) z.t.1))) (λx=>((x.1,()),((x.2.fF.aj,x.2.fF.ak,x.2.fF.bH,x.2.fV.aU,x.2.fV.eM,(),()),x.2.aS,()))))
def akj:=(lc (qp 0 0) (bk ln))
def alP:=(sb 0 172 (lc (ql 131) (lc (ql 139) (lc (ql 166) (lc (ql 3) (lc qb (lc (qo 1) ln)))))) (sr 1 174 sn))
def YI:An:=(noTwo (noTwo (noTwo (noTwo (.two (noTwo (ur.lp Cf .no)) .no)))))
def apb:cU w9 (Uc) 2 300 109 (YI):=bB (l:=[(bg f109 0,(ur.lp Cf .no))]) func109 (aV (by kernel_rfl)) (by kernel_rfl) (aA ⟨ur.ok _,dR (acR)⟩ aF)
def LR(a1:Int)(b0:Tree):af ak7:=
 bif J (8192<i64.wrap ((b0.aS.length:Int)+2))then S else if 0<=a1/\a1<b0.aS.length then if 174=174/\a1.toNat<b0.aS.length then match Cf (lV.mk a1 b0.aS[a1.toNat]!.bR 0 b0.aS[a1.toNat]!.bR (↑b0.aS[a1.toNat]!.bR.length:Int) 0 b0)with|S=>S|V r1=>bif J (r1.t26<r1.t25)then if 0<=r1.t26/\r1.t26<r1.t24.length then if 0<=r1.t6/\r1.t6<r1.t5.length then bif J (Hr r1.t5[r1.t6.toNat]! <Hr r1.t24[r1.t26.toNat]!)then S else S else S else S else if 0<=r1.t6/\r1.t6<r1.t5.length then if 0<=r1.t6/\r1.t6<r1.t5.length then match Xt r1.t1 r1.t6 (cL IntKind.i64 (i64.wrap (r1.t5[r1.t6.toNat]!.ag+r1.t5[r1.t6.toNat]!.ah)) 1) r1.b0 with|S=>S|V r2=>V (0,r2)else S else S else S else S
def avL(a1:Int)(b0:Tree):bM w9 (Uc) 300 (YI) 109 (akj.c ((),a1,())) (alP.d ((b0.fF.aj,b0.fF.ak,b0.fF.bH,b0.fV.aU,b0.fV.eM,(),()),b0.aS,())) 2 ak3.rd=LR a1 b0:=by kernel_rfl
def akl:bf->bf:=eY w9 109 2 akj alP ak3 (λg=>LR g.1.2.1 ((Tree.mk (aN.mk g.2.1.1 g.2.1.2.1 g.2.1.t.1) (bY.mk g.2.1.t.2.1 g.2.1.q.1) g.t.1)))
def Yo{F:bf}(h:aQ w9 F):aQ w9 (akl F):=oz (tO aaP apb (λ_=>by kernel_rfl) (λ_=>by kernel_rfl) (λ_=>by kernel_rfl) λg=>avL g.1.2.1 ((Tree.mk (aN.mk g.2.1.1 g.2.1.2.1 g.2.1.t.1) (bY.mk g.2.1.t.2.1 g.2.1.q.1) g.t.1))) ⟨_,func109,by kernel_rfl,by kernel_rfl⟩ (λ_=>by kernel_rfl) h
def ahE:bf:=(vO de)
def acT:aQ w9 ahE:=(qI aP)
structure pM where
 t0:List aD
 (t8 t9 t10:Int)
 b0:aD
def Dr:Td 0 pM:= .c [] [0,2,4,8,9,10] (.r 0 1 (ec 0 (ql 47) (ec 2 (qf 188 ln) (ec 4 (qp 0 0) (ec 8 aM (ec 9 aM (ec 10 aM en)))))) (sb 0 47 (lg 47) sn) (λz=>⟨z.1.1,z.1.t.2.1,z.1.q.1,z.1.q.2.1,z.2.1⟩) (λx=>((x.t0,(()),(),x.t8,x.t9,x.t10,()),(x.b0,()))))
def pV(p:pM):af (af pM):=
 bif J (p.t9<p.t10)then if 0<=i64.wrap (cL IntKind.u64 (IntKind.u64.wrap (i64.wrap (p.t9+p.t10))) ((1:Int)))/\i64.wrap (cL IntKind.u64 (IntKind.u64.wrap (i64.wrap (p.t9+p.t10))) ((1:Int)))<p.t0.length then match FV p.t0[(i64.wrap (cL IntKind.u64 (IntKind.u64.wrap (i64.wrap (p.t9+p.t10))) 1)).toNat]! p.b0 with|S=>S|V r1=>bif J (r1<0)then V (V (pM.mk p.t0 p.t8 (i64.wrap (i64.wrap (cL IntKind.u64 (IntKind.u64.wrap (i64.wrap (p.t9+p.t10))) 1)+1)) p.t10 p.b0))else V (V (pM.mk p.t0 p.t8 p.t9 (i64.wrap (cL IntKind.u64 (IntKind.u64.wrap (i64.wrap (p.t9+p.t10))) 1)) p.b0))else S else V (S)
def arL(p:pM):ep w9 (ahE) f123.ntmps 300 (bg f123 0) .no (af pM) (Dr.pat p) (Bd Dr.rd)=pV p:=by kernel_rfl
def tu:=bK (pV)
abbrev avW:=Int×Bool
def d123:Td 0 avW:= .c [] [6,7] (.r 0 0 (ec 6 aM (ec 7 qb en)) sn (λz=>(z.1.1,z.1.2.1)) (λx=>((x.1,x.2,()),(()))))
def ayz:=(lc (ql 47) (lc (qg 47) (lc (qf 188 ln) ln)))
def akc:An:=(noTwo (noTwo (noTwo (.two (Dr.lp tu .no) .no))))
def atO:cU w9 (ahE) 0 300 123 (akc):=bB (l:=[(bg f123 0,(Dr.lp tu .no))]) func123 (aV (by kernel_rfl)) (by kernel_rfl) (aA ⟨Dr.ok _,dR (arL)⟩ aF)
def Vu(a0:aa aD)(a1:aD):af avW:=
 match tu (pM.mk a0 a0.length 0 a0.length a1)with|S=>S|V r2=>bif J (r2.t9<r2.t10)then if 0<=i64.wrap (cL IntKind.u64 (IntKind.u64.wrap (i64.wrap (r2.t9+r2.t10))) ((1:Int)))/\i64.wrap (cL IntKind.u64 (IntKind.u64.wrap (i64.wrap (r2.t9+r2.t10))) ((1:Int)))<r2.t0.length then match FV r2.t0[(i64.wrap (cL IntKind.u64 (IntKind.u64.wrap (i64.wrap (r2.t9+r2.t10))) 1)).toNat]! r2.b0 with|S=>S|V r3=>bif J (r3<0)then S else S else S else bif J (r2.t9<r2.t8)then if 0<=r2.t9/\r2.t9<r2.t0.length then match FV r2.t0[r2.t9.toNat]! r2.b0 with|S=>S|V r4=>V ((r2.t9,J (r4=0)))else S else V (r2.t9,G)
def aAP(a0:aa aD)(a1:aD):bM w9 (ahE) 300 (akc) 123 (ayz.c (a0,a1,(()),())) [] 0 d123.rd=Vu a0 a1:=by kernel_rfl
def af4:=eL w9 123 G ayz d123 (λg=>Vu g.1 g.2.1)
def afC{F:bf}(h:aQ w9 F):aQ w9 (af4 F):=cT (sc:=jM) cv (cH acT atO (λ_=>by kernel_rfl) (λ_=>by kernel_rfl) λg=>aAP g.1 g.2.1) ⟨_,func123,by kernel_rfl,by kernel_rfl⟩ (λ_=>by kernel_rfl) (λ_=>by kernel_rfl) h
def aiW:bf:=(atj (auR (vO de)))
def afq:aQ w9 aiW:=(Ya at7 (Xq ayc (qI aP)))
structure qk where
 t3:List aD
 t9:List dX
 (t10 t11:Int)
 b0:Tree
def CA:Td 2 qk:= .c [] [3,9,10,11] (.t (cC.s 3 [] 47) (.c [] [3,9,10,11] (.r 2 3 (ec 3 (qo 2) (ec 9 (qo 1) (ec 10 aM (ec 11 aM en)))) (sb 0 172 (lc (ql 131) (lc (ql 139) (lc (ql 166) (lc (ql 3) (lc qb (lc (qo 1) ln)))))) (sr 1 174 (sr 2 47 sn))) (λz=>⟨z.t.2.1,z.t.1,z.1.t.1,z.1.t.2.1,(Tree.mk (aN.mk z.2.1.1 z.2.1.2.1 z.2.1.t.1) (bY.mk z.2.1.t.2.1 z.2.1.q.1) z.t.1)⟩) (λx=>(((),(),x.t10,x.t11,()),((x.b0.fF.aj,x.b0.fF.ak,x.b0.fF.bH,x.b0.fV.aU,x.b0.fV.eM,(),()),x.b0.aS,x.t3,()))))))
def DU(p:qk):af (af qk):=
 bif J (p.t11<p.t10)then if 0<=p.t11/\p.t11<p.b0.aS.length then if 174=174/\p.t11.toNat<p.b0.aS.length then bif p.b0.aS[p.t11.toNat]!.ei then if(p.t3++[p.b0.aS[p.t11.toNat]!.dI]).length<=1073741824 then V (V (qk.mk (p.t3++[p.b0.aS[p.t11.toNat]!.dI]) p.b0.aS p.t10 (i64.wrap (p.t11+1)) p.b0))else S else V (V (qk.mk p.t3 p.b0.aS p.t10 (i64.wrap (p.t11+1)) p.b0))else S else S else V (S)
def arM(p:qk):ep w9 (aiW) f192.ntmps 300 (bg f192 0) .no (af qk) (CA.pat p) (Bd CA.rd)=DU p:=by kernel_rfl
def Hu:=bK (DU)
abbrev ayO:=(aa aD)×Tree
def d192:Td 2 ayO:= .c [] [2] (.r 2 3 (ec 2 (qo 2) en) (sb 0 172 (lc (ql 131) (lc (ql 139) (lc (ql 166) (lc (ql 3) (lc qb (lc (qo 1) ln)))))) (sr 1 174 (sr 2 47 sn))) (λz=>(z.t.2.1,(Tree.mk (aN.mk z.2.1.1 z.2.1.2.1 z.2.1.t.1) (bY.mk z.2.1.t.2.1 z.2.1.q.1) z.t.1))) (λx=>(((),()),((x.2.fF.aj,x.2.fF.ak,x.2.fF.bH,x.2.fV.aU,x.2.fV.eM,(),()),x.2.aS,x.1,()))))
def ayk:=(lc (qp 0 0) ln)
def awD:=(sb 0 172 (lc (ql 131) (lc (ql 139) (lc (ql 166) (lc (ql 3) (lc qb (lc (qo 1) ln)))))) (sr 1 174 sn))
def ak9:An:=(noTwo (noTwo (.two (noTwo (CA.lp Hu .no)) .no)))
def av9:cU w9 (aiW) 2 300 192 (ak9):=bB (l:=[(bg f192 0,(CA.lp Hu .no))]) func192 (aV (by kernel_rfl)) (by kernel_rfl) (aA ⟨CA.ok _,dR (arM)⟩ aF)
def Zf(b0:Tree):af ayO:=
 match Hu (qk.mk [] b0.aS b0.aS.length 0 b0)with|S=>S|V r1=>bif J (r1.t11<r1.t10)then if 0<=r1.t11/\r1.t11<r1.b0.aS.length then if 174=174/\r1.t11.toNat<r1.b0.aS.length then bif r1.b0.aS[r1.t11.toNat]!.ei then if(r1.t3++[r1.b0.aS[r1.t11.toNat]!.dI]).length<=1073741824 then S else S else S else S else S else match UD r1.t3 with|S=>S|V r2=>match VI r2 with|S=>S|V r3=>V (r3,r1.b0)
def aBm(b0:Tree):bM w9 (aiW) 300 (ak9) 192 (ayk.c ((),())) (awD.d ((b0.fF.aj,b0.fF.ak,b0.fF.bH,b0.fV.aU,b0.fV.eM,(),()),b0.aS,())) 2 d192.rd=Zf b0:=by kernel_rfl
def aaX:bf->bf:=eY w9 192 2 ayk awD d192 (λg=>Zf ((Tree.mk (aN.mk g.2.1.1 g.2.1.2.1 g.2.1.t.1) (bY.mk g.2.1.t.2.1 g.2.1.q.1) g.t.1)))
def agP{F:bf}(h:aQ w9 F):aQ w9 (aaX F):=oz (tO afq av9 (λ_=>by kernel_rfl) (λ_=>by kernel_rfl) (λ_=>by kernel_rfl) λg=>aBm ((Tree.mk (aN.mk g.2.1.1 g.2.1.2.1 g.2.1.t.1) (bY.mk g.2.1.t.2.1 g.2.1.q.1) g.t.1))) ⟨_,func192,by kernel_rfl,by kernel_rfl⟩ (λ_=>by kernel_rfl) h
def Z2:bf:=(aaX (vO (af4 (Ws de))))
def aiP:aQ w9 Z2:=(agP (qI (afC (oc aP))))
structure pe where
 t4:List aD
 t35:List dX
 (t36 t37:Int)
 b0:Tree
 (b2 b3:bJ)
def CH:Td 2 pe:= .c [] [2,3,4,35,36,37] (.t (cC.c 3 1 [] 117) (.c [] [2,3,4,35,36,37] (.r 2 7 (ec 2 (qp 2 0) (ec 3 (qp 3 0) (ec 4 (qo 4) (ec 35 (qo 1) (ec 36 aM (ec 37 aM en)))))) (sb 0 172 (lc (ql 131) (lc (ql 139) (lc (ql 166) (lc (ql 3) (lc qb (lc (qo 1) ln)))))) (sr 1 174 (sb 2 84 (lc qn (lc qn ln)) (sb 3 84 (lc (qo 5) (lc (qo 6) ln)) (sr 4 47 (sr 5 47 (sr 6 117 sn))))))) (λz=>⟨z.q.2.1,z.t.1,z.1.q.1,z.1.q.2.1,(Tree.mk (aN.mk z.2.1.1 z.2.1.2.1 z.2.1.t.1) (bY.mk z.2.1.t.2.1 z.2.1.q.1) z.t.1),(bJ.mk [] []),(bJ.mk z.q.t.1 z.q.t.2.1)⟩) (λx=>(((),(),(),(),x.t36,x.t37,()),((x.b0.fF.aj,x.b0.fF.ak,x.b0.fF.bH,x.b0.fV.aU,x.b0.fV.eM,(),()),x.b0.aS,((),(),()),((),(),()),x.t4,x.b3.dI,x.b3.aS,()))))))
def Da(p:pe):af (af pe):=
 bif J (p.t37<p.t36)then if 0<=p.t37/\p.t37<p.b0.aS.length then if 174=174/\p.t37.toNat<p.b0.aS.length then match Ug p.b0.aS[p.t37.toNat]!.aq with|S=>S|V r2=>bif p.b0.aS[p.t37.toNat]!.ei then match Vu p.t4 p.b0.aS[p.t37.toNat]!.dI with|S=>S|V r3=>if(p.b3.aS++[Cell.mk p.b0.aS[p.t37.toNat]!.cA p.b0.aS[p.t37.toNat]!.jo r2 [r3.fst] p.b0.aS[p.t37.toNat]!.gB]).length<=1073741824 then V (V (pe.mk p.t4 p.b0.aS p.t36 (i64.wrap (p.t37+1)) p.b0 (bJ.mk [] []) (bJ.mk p.b3.dI (p.b3.aS++[Cell.mk p.b0.aS[p.t37.toNat]!.cA p.b0.aS[p.t37.toNat]!.jo r2 [r3.fst] p.b0.aS[p.t37.toNat]!.gB]))))else S else if(p.b3.aS++[Cell.mk p.b0.aS[p.t37.toNat]!.cA p.b0.aS[p.t37.toNat]!.jo r2 [] p.b0.aS[p.t37.toNat]!.gB]).length<=1073741824 then V (V (pe.mk p.t4 p.b0.aS p.t36 (i64.wrap (p.t37+1)) p.b0 (bJ.mk [] []) (bJ.mk p.b3.dI (p.b3.aS++[Cell.mk p.b0.aS[p.t37.toNat]!.cA p.b0.aS[p.t37.toNat]!.jo r2 [] p.b0.aS[p.t37.toNat]!.gB]))))else S else S else S else V (S)
def ao1(p:pe):ep w9 (Z2) f110.ntmps 300 (bg f110 1) .no (af pe) (CH.pat p) (Bd CH.rd)=Da p:=by kernel_rfl
def Ja:=bK (Da)
structure sv where
 (t4 t14:List aD)
 (t15 t16:Int)
 b0:Tree
 (b2 b3:bJ)
def Dd:Td 2 sv:= .c [] [0,2,3,4,14,15,16] (.t (cC.c 3 0 [] 47) (.c [] [0,2,3,4,14,15,16] (.r 2 6 (ec 0 (qp 0 0) (ec 2 (qp 2 0) (ec 3 (qp 3 0) (ec 4 (qo 4) (ec 14 (qo 4) (ec 15 aM (ec 16 aM en))))))) (sb 0 172 (lc (ql 131) (lc (ql 139) (lc (ql 166) (lc (ql 3) (lc qb (lc (qo 1) ln)))))) (sr 1 174 (sb 2 84 (lc qn (lc qn ln)) (sb 3 84 (lc (qo 5) (lc qn ln)) (sr 4 47 (sr 5 47 sn)))))) (λz=>⟨z.q.2.1,z.q.2.1,z.1.q.2.1,z.1.q.t.1,(Tree.mk (aN.mk z.2.1.1 z.2.1.2.1 z.2.1.t.1) (bY.mk z.2.1.t.2.1 z.2.1.q.1) z.t.1),(bJ.mk [] []),(bJ.mk z.q.t.1 [])⟩) (λx=>(((),(),(),(),(),x.t15,x.t16,()),((x.b0.fF.aj,x.b0.fF.ak,x.b0.fF.bH,x.b0.fV.aU,x.b0.fV.eM,(),()),x.b0.aS,((),(),()),((),(),()),x.t14,x.b3.dI,()))))))
def EI(p:sv):af (af sv):=
 bif J (p.t16<p.t15)then if 0<=p.t16/\p.t16<p.t14.length then if 47=47/\p.t16.toNat<p.t14.length then match Ug p.t14[p.t16.toNat]!.aW with|S=>S|V r1=>if(p.b3.dI++[aD.mk r1 p.t14[p.t16.toNat]!.aI]).length<=1073741824 then V (V (sv.mk p.t14 p.t14 p.t15 (i64.wrap (p.t16+1)) p.b0 (bJ.mk [] []) (bJ.mk (p.b3.dI++[aD.mk r1 p.t14[p.t16.toNat]!.aI]) [])))else S else S else S else V (S)
def an2(p:sv):ep w9 (Z2) f110.ntmps 300 (bg f110 0) .no (af sv) (Dd.pat p) (Bd Dd.rd)=EI p:=by kernel_rfl
def IW:=bK (EI)
abbrev awg:=bJ×Tree
def d110:Td 2 awg:= .c [] [2] (.r 2 5 (ec 2 (qp 2 0) en) (sb 0 172 (lc (ql 131) (lc (ql 139) (lc (ql 166) (lc (ql 3) (lc qb (lc (qo 1) ln)))))) (sr 1 174 (sb 2 84 (lc (qo 3) (lc (qo 4) ln)) (sr 3 47 (sr 4 117 sn))))) (λz=>((bJ.mk z.q.1 z.q.2.1),(Tree.mk (aN.mk z.2.1.1 z.2.1.2.1 z.2.1.t.1) (bY.mk z.2.1.t.2.1 z.2.1.q.1) z.t.1))) (λx=>(((),()),((x.2.fF.aj,x.2.fF.ak,x.2.fF.bH,x.2.fV.aU,x.2.fV.eM,(),()),x.2.aS,((),(),()),x.1.dI,x.1.aS,()))))
def ayg:=(lc (qp 0 0) ln)
def awc:=(sb 0 172 (lc (ql 131) (lc (ql 139) (lc (ql 166) (lc (ql 3) (lc qb (lc (qo 1) ln)))))) (sr 1 174 sn))
def akP:An:=(noTwo (noTwo (noTwo (.two (noTwo (Dd.lp IW .no)) (.two (noTwo (CH.lp Ja .no)) .no)))))
def axT:cU w9 (Z2) 2 300 110 (akP):=bB (l:=[(bg f110 0,(Dd.lp IW .no)),(bg f110 1,(CH.lp Ja .no))]) func110 (aV (by kernel_rfl)) (by kernel_rfl) (aA ⟨Dd.ok _,dR (an2)⟩ (aA ⟨CH.ok _,dR (ao1)⟩ aF))
def Q9(b0:Tree):af awg:=
 match Zf b0 with|S=>S|V r4=>match IW (sv.mk r4.fst r4.fst r4.fst.length 0 r4.snd (bJ.mk [] []) (bJ.mk [] []))with|S=>S|V r5=>bif J (r5.t16<r5.t15)then if 0<=r5.t16/\r5.t16<r5.t14.length then if 47=47/\r5.t16.toNat<r5.t14.length then match Ug r5.t14[r5.t16.toNat]!.aW with|S=>S|V r6=>if(r5.b3.dI++[aD.mk r6 r5.t14[r5.t16.toNat]!.aI]).length<=1073741824 then S else S else S else S else match Ja (pe.mk r5.t14 r5.b0.aS r5.b0.aS.length 0 r5.b0 (bJ.mk [] []) (bJ.mk r5.b3.dI []))with|S=>S|V r7=>bif J (r7.t37<r7.t36)then if 0<=r7.t37/\r7.t37<r7.b0.aS.length then if 174=174/\r7.t37.toNat<r7.b0.aS.length then match Ug r7.b0.aS[r7.t37.toNat]!.aq with|S=>S|V r8=>bif r7.b0.aS[r7.t37.toNat]!.ei then match Vu r7.t4 r7.b0.aS[r7.t37.toNat]!.dI with|S=>S|V r9=>if(r7.b3.aS++[Cell.mk r7.b0.aS[r7.t37.toNat]!.cA r7.b0.aS[r7.t37.toNat]!.jo r8 [r9.fst] r7.b0.aS[r7.t37.toNat]!.gB]).length<=1073741824 then S else S else if(r7.b3.aS++[Cell.mk r7.b0.aS[r7.t37.toNat]!.cA r7.b0.aS[r7.t37.toNat]!.jo r8 [] r7.b0.aS[r7.t37.toNat]!.gB]).length<=1073741824 then S else S else S else S else V (r7.b3,r7.b0)
def aBQ(b0:Tree):bM w9 (Z2) 300 (akP) 110 (ayg.c ((),())) (awc.d ((b0.fF.aj,b0.fF.ak,b0.fF.bH,b0.fV.aU,b0.fV.eM,(),()),b0.aS,())) 2 d110.rd=Q9 b0:=by kernel_rfl
def Bt:bf->bf:=eY w9 110 2 ayg awc d110 (λg=>Q9 ((Tree.mk (aN.mk g.2.1.1 g.2.1.2.1 g.2.1.t.1) (bY.mk g.2.1.t.2.1 g.2.1.q.1) g.t.1)))
def uY{F:bf}(h:aQ w9 F):aQ w9 (Bt F):=oz (tO aiP axT (λ_=>by kernel_rfl) (λ_=>by kernel_rfl) (λ_=>by kernel_rfl) λg=>aBQ ((Tree.mk (aN.mk g.2.1.1 g.2.1.2.1 g.2.1.t.1) (bY.mk g.2.1.t.2.1 g.2.1.q.1) g.t.1))) ⟨_,func110,by kernel_rfl,by kernel_rfl⟩ (λ_=>by kernel_rfl) h
def OF:bf:=de
def ac9:aQ w9 OF:=aP
structure tC where
 t73:List Int
 (t74 t75:Int)
def D8:Td 0 tC:= .c [] [73,74,75] (.r 0 1 (ec 73 (qo 0) (ec 74 aM (ec 75 aM en))) (sr 0 3 sn) (λz=>⟨z.2.1,z.1.2.1,z.1.t.1⟩) (λx=>(((),x.t74,x.t75,()),(x.t73,()))))
def Fb(p:tC):af (af tC):=
 bif J (p.t75<p.t74)then if 0<=p.t75/\p.t75<p.t73.length then if 3=3/\p.t75.toNat<p.t73.length then match bif bif(match J (p.t73[p.t75.toNat]! =1)with|O=>G|G=>O)==J (p.t75=0)then G else O then V O else V (J (1<p.t73[p.t75.toNat]!))with|S=>S|V r5=>bif r5 then V (S)else V (V (tC.mk p.t73 p.t74 (i64.wrap (p.t75+1))))else S else S else V (S)
def QU:An:=(noTwo (noTwo (.two (noTwo (.two (.rb [] 88) .no)) .no)))
def arH(p:tC):ep w9 (OF) f184.ntmps 300 (bg f184 2) QU (af tC) (D8.pat p) (Bd D8.rd)=Fb p:=by kernel_rfl
def H6:=bK (Fb)
structure pS where
 t0:List Cell
 t3:List Int
 t4:Int
 t16:List Cell
 (t17 t18:Int)
 t50:List Int
 (t51 t52:Int)
def Du:Td 0 pS:= .c [] [0,3,4,16,17,18,50,51,52] (.r 0 1 (ec 0 (ql 117) (ec 3 (qo 0) (ec 4 aM (ec 16 (ql 117) (ec 17 aM (ec 18 aM (ec 50 (ql 3) (ec 51 aM (ec 52 aM en))))))))) (sr 0 3 sn) (λz=>⟨z.1.1,z.2.1,z.1.t.1,z.1.t.2.1,z.1.q.1,z.1.q.2.1,z.1.q.t.1,z.1.q.t.2.1,z.1.q.q.1⟩) (λx=>((x.t0,(),x.t4,x.t16,x.t17,x.t18,x.t50,x.t51,x.t52,()),(x.t3,()))))
def Dm(p:pS):af (af pS):=
 bif J (p.t52<p.t51)then if 0<=p.t52/\p.t52<p.t50.length then match bif J (p.t50[p.t52.toNat]!<=p.t4)then V O else V (J (p.t0.length<=p.t50[p.t52.toNat]!))with|S=>S|V r4=>bif r4 then V (S)else if 0<=p.t50[p.t52.toNat]!/\p.t50[p.t52.toNat]! <(p.t3.length:Int)then if 3=3/\zC p.t50[p.t52.toNat]! <p.t3.length then if 0<=p.t50[p.t52.toNat]!/\p.t50[p.t52.toNat]! <(p.t3.length:Int)then if 3=3/\zC p.t50[p.t52.toNat]! <p.t3.length then V (V (pS.mk p.t0 (p.t3.set (zC p.t50[p.t52.toNat]!) (i64.wrap (p.t3[zC p.t50[p.t52.toNat]!]! +1))) p.t4 p.t16 p.t17 p.t18 p.t50 p.t51 (i64.wrap (p.t52+1))))else S else S else S else S else S else V (S)
def Qn:An:=(noTwo (noTwo (.two (noTwo (.two (.two (.rb [] 64) .no) .no)) .no)))
def ar6(p:pS):ep w9 (OF) f184.ntmps 300 (bg f184 1) Qn (af pS) (Du.pat p) (Bd Du.rd)=Dm p:=by kernel_rfl
def ER:=bK (Dm)
structure sP where
 t0:List Cell
 t3:List Int
 t16:List Cell
 (t17 t18:Int)
def Dc:Td 0 sP:= .c [] [0,3,16,17,18] (.r 0 1 (ec 0 (ql 117) (ec 3 (qo 0) (ec 16 (ql 117) (ec 17 aM (ec 18 aM en))))) (sr 0 3 sn) (λz=>⟨z.1.1,z.2.1,z.1.t.1,z.1.t.2.1,z.1.q.1⟩) (λx=>((x.t0,(),x.t16,x.t17,x.t18,()),(x.t3,()))))
def DP(p:sP):af (af sP):=
 bif J (p.t18<p.t17)then if 0<=p.t18/\p.t18<p.t16.length then match bif bif J ((↑p.t16[p.t18.toNat]!.aq.length:Int)=0)then G else O then bif bif J ((↑p.t16[p.t18.toNat]!.aq.length:Int)=2)then G else O then V O else bif J ((↑p.t16[p.t18.toNat]!.aq.length:Int)=0)then bif bif J (p.t16[p.t18.toNat]!.cA=0)then G else O then V O else V (bif J (p.t16[p.t18.toNat]!.jo=0)then G else O)else V G else bif J ((↑p.t16[p.t18.toNat]!.aq.length:Int)=0)then bif bif J (p.t16[p.t18.toNat]!.cA=0)then G else O then V O else V (bif J (p.t16[p.t18.toNat]!.jo=0)then G else O)else V G with|S=>S|V r1=>bif r1 then V (S)else match ER (pS.mk p.t0 p.t3 p.t18 p.t16 p.t17 p.t18 p.t16[p.t18.toNat]!.aq (↑p.t16[p.t18.toNat]!.aq.length:Int) 0)with|S=>S|V r2=>bif J (r2.t52<r2.t51)then if 0<=r2.t52/\r2.t52<r2.t50.length then match bif J (r2.t50[r2.t52.toNat]!<=r2.t4)then V O else V (J (r2.t0.length<=r2.t50[r2.t52.toNat]!))with|S=>S|V r3=>bif r3 then V (S)else if 0<=r2.t50[r2.t52.toNat]!/\r2.t50[r2.t52.toNat]! <(r2.t3.length:Int)then if 3=3/\zC r2.t50[r2.t52.toNat]! <r2.t3.length then if 0<=r2.t50[r2.t52.toNat]!/\r2.t50[r2.t52.toNat]! <(r2.t3.length:Int)then if 3=3/\zC r2.t50[r2.t52.toNat]! <r2.t3.length then S else S else S else S else S else S else V (V (sP.mk r2.t0 r2.t3 r2.t16 r2.t17 (i64.wrap (r2.t18+1))))else S else V (S)
def Oj:An:=(noTwo (noTwo (.two (noTwo (.two (.two (.rb [] 48) .no) (noTwo (Du.lp ER Qn)))) .no)))
def arn(p:sP):ep w9 (OF) f184.ntmps 300 (bg f184 0) Oj (af sP) (Dc.pat p) (Bd Dc.rd)=DP p:=by kernel_rfl
def IS:=bK (DP)
abbrev awv:=Bool
def d184:Td 0 awv:= .c [] [2] (.r 0 0 (ec 2 qb en) sn (λz=>z.1.1) (λx=>((x,()),(()))))
def ax8:=(lc (ql 117) ln)
def amk:An:=(noTwo (noTwo (noTwo (.two (noTwo (Dc.lp IS Oj)) (.two (noTwo (D8.lp H6 QU)) .no)))))
def aai:∀f∈([]:aa Nat),bw (OF) f:=aF
def ayL:cU w9 (OF) 0 300 184 (amk):=bB (l:=[(bg f184 0,(Dc.lp IS Oj)),(.skip,(.rb [] 48)),(bg f184 1,(Du.lp ER Qn)),(.skip,(.rb [] 64)),(bg f184 2,(D8.lp H6 QU)),(.skip,(.rb [] 88))]) func184 (aV (by kernel_rfl)) (by kernel_rfl) (aA ⟨Dc.ok _,dR (arn)⟩ (aA aai (aA ⟨Du.ok _,dR (ar6)⟩ (aA aai (aA ⟨D8.ok _,dR (arH)⟩ (aA aai aF))))))
def Vm(a0:aa Cell):af awv:=
 bif J ((a0.length:Int)=0)then V G else if(0:Int)<=a0.length/\(a0.length:Int)<=(a0.length:Int)/\(a0.length:Int)<=(1073741824:Int)then match IS (sP.mk a0 (zk a0.length 0) a0 a0.length 0)with|S=>S|V r6=>bif J (r6.t18<r6.t17)then if 0<=r6.t18/\r6.t18<r6.t16.length then match bif bif J ((↑r6.t16[r6.t18.toNat]!.aq.length:Int)=0)then G else O then bif bif J ((↑r6.t16[r6.t18.toNat]!.aq.length:Int)=2)then G else O then V O else bif J ((↑r6.t16[r6.t18.toNat]!.aq.length:Int)=0)then bif bif J (r6.t16[r6.t18.toNat]!.cA=0)then G else O then V O else V (bif J (r6.t16[r6.t18.toNat]!.jo=0)then G else O)else V G else bif J ((↑r6.t16[r6.t18.toNat]!.aq.length:Int)=0)then bif bif J (r6.t16[r6.t18.toNat]!.cA=0)then G else O then V O else V (bif J (r6.t16[r6.t18.toNat]!.jo=0)then G else O)else V G with|S=>S|V r7=>bif r7 then V G else match ER (pS.mk r6.t0 r6.t3 r6.t18 r6.t16 r6.t17 r6.t18 r6.t16[r6.t18.toNat]!.aq (↑r6.t16[r6.t18.toNat]!.aq.length:Int) 0)with|S=>S|V r8=>bif J (r8.t52<r8.t51)then if 0<=r8.t52/\r8.t52<r8.t50.length then match bif J (r8.t50[r8.t52.toNat]!<=r8.t4)then V O else V (J (r8.t0.length<=r8.t50[r8.t52.toNat]!))with|S=>S|V r9=>bif r9 then V G else if 0<=r8.t50[r8.t52.toNat]!/\r8.t50[r8.t52.toNat]! <(r8.t3.length:Int)then if 3=3/\zC r8.t50[r8.t52.toNat]! <r8.t3.length then if 0<=r8.t50[r8.t52.toNat]!/\r8.t50[r8.t52.toNat]! <(r8.t3.length:Int)then if 3=3/\zC r8.t50[r8.t52.toNat]! <r8.t3.length then S else S else S else S else S else S else S else S else match H6 (tC.mk r6.t3 r6.t3.length 0)with|S=>S|V r10=>bif J (r10.t75<r10.t74)then if 0<=r10.t75/\r10.t75<r10.t73.length then if 3=3/\r10.t75.toNat<r10.t73.length then match bif bif(match J (r10.t73[r10.t75.toNat]! =1)with|O=>G|G=>O)==J (r10.t75=0)then G else O then V O else V (J (1<r10.t73[r10.t75.toNat]!))with|S=>S|V r11=>bif r11 then V G else S else S else S else V O else S
def aDn(a0:aa Cell):bM w9 (OF) 300 (amk) 184 (ax8.c (a0,())) [] 0 d184.rd=Vm a0:=by kernel_rfl
def WD:=eL w9 184 G ax8 d184 (λg=>Vm g.1)
def Il{F:bf}(h:aQ w9 F):aQ w9 (WD F):=cT (sc:=jM) cv (cH ac9 ayL (λ_=>by kernel_rfl) (λ_=>by kernel_rfl) λg=>aDn g.1) ⟨_,func184,by kernel_rfl,by kernel_rfl⟩ (λ_=>by kernel_rfl) (λ_=>by kernel_rfl) h
def abl:bf:=(oA w9 (e76 (e26 (e25 de))) (λf=>zf f 25||zf f 26||zf f 76) 300 10)
def aa1:aQ w9 abl:=⟨mZ (aQ.ok (AM (mD (mB aP)))) (aQ.nat (P:=w9) (AM (mD (mB aP)))) 300 10,kM (aQ.nat (P:=w9) (AM (mD (mB aP)))) 300 10⟩
abbrev ajT:=Unit×Int
def aj3:Td 0 ajT:= .c [] [4,5] (.r 0 0 (ec 4 qv (ec 5 aM en)) sn (λz=>((),z.1.2.1)) (λx=>(((),x.2,()),(()))))
def al7:=(lc (qg 26) (lc (qg 29) ln))
def WR:An:= .no
def aqs:cU w9 (abl) 0 300 118 (WR):=bB (l:=[]) func118 (aV (by kernel_rfl)) (by kernel_rfl) aF
def Ue(a0:aN)(a1:bY):af ajT:=
 match m76 a0 with|S=>S|V r1=>bif bif J (r1.snd=0)then G else O then V (((),r1.snd))else match QT a0 a1 r1.fst with|S=>S|V r2=>bif bif J (r2.snd=0)then G else O then V (((),r2.snd))else match QT a0 a1 r1.fst with|S=>S|V r3=>match US a0 a1 r1.fst with|S=>S|V r4=>S
def axx(a0:aN)(a1:bY):bM w9 (abl) 300 (WR) 118 (al7.c (a0,a1,())) [] 0 aj3.rd=Ue a0 a1:=by kernel_rfl
def Yb:bf->bf:=eZf w9 118 al7 aj3 (λg=>Ue g.1 g.2.1)
def va{F:bf}(h:aQ w9 F):aQ w9 (Yb F):=QE (cH aa1 aqs (λ_=>by kernel_rfl) (λ_=>by kernel_rfl) λg=>axx g.1 g.2.1) ⟨_,func118,by kernel_rfl,by kernel_rfl⟩ (λ_=>by kernel_rfl) h
def aaM:bf:=(oA w9 (e76 (e26 (e25 de))) (λf=>zf f 25||zf f 26||zf f 76) 300 10)
def ZL:aQ w9 aaM:=⟨mZ (aQ.ok (AM (mD (mB aP)))) (aQ.nat (P:=w9) (AM (mD (mB aP)))) 300 10,kM (aQ.nat (P:=w9) (AM (mD (mB aP)))) 300 10⟩
abbrev amE:=Tree×Int
def alQ:Td 0 amE:= .c [] [4,5] (.r 0 2 (ec 4 (qp 0 0) (ec 5 aM en)) (sb 0 172 (lc (ql 131) (lc (ql 139) (lc (ql 166) (lc (ql 3) (lc qb (lc (qo 1) ln)))))) (sr 1 174 sn)) (λz=>((Tree.mk (aN.mk z.2.1.1 z.2.1.2.1 z.2.1.t.1) (bY.mk z.2.1.t.2.1 z.2.1.q.1) z.t.1),z.1.2.1)) (λx=>(((),x.2,()),((x.1.fF.aj,x.1.fF.ak,x.1.fF.bH,x.1.fV.aU,x.1.fV.eM,(),()),x.1.aS,()))))
def aku:=(lc (qg 26) (lc (qg 29) ln))
def aaF:An:= .no
def an9:cU w9 (aaM) 0 300 118 (aaF):=bB (l:=[]) func118 (aV (by kernel_rfl)) (by kernel_rfl) aF
def Gw(a0:aN)(a1:bY):af amE:=
 match m76 a0 with|S=>S|V r1=>bif bif J (r1.snd=0)then G else O then S else match QT a0 a1 r1.fst with|S=>S|V r2=>bif bif J (r2.snd=0)then G else O then S else match QT a0 a1 r1.fst with|S=>S|V r3=>match US a0 a1 r1.fst with|S=>S|V r4=>V ((Tree.mk a0 a1 [dX.mk r1.fst (0) (0) [] r3.fst r4.snd.fst r4.fst],0))
def atG(a0:aN)(a1:bY):bM w9 (aaM) 300 (aaF) 118 (aku.c (a0,a1,())) [] 0 alQ.rd=Gw a0 a1:=by kernel_rfl
def ZY:bf->bf:=eZf w9 118 aku alQ (λg=>Gw g.1 g.2.1)
def vh{F:bf}(h:aQ w9 F):aQ w9 (ZY F):=QE (cH ZL an9 (λ_=>by kernel_rfl) (λ_=>by kernel_rfl) λg=>atG g.1 g.2.1) ⟨_,func118,by kernel_rfl,by kernel_rfl⟩ (λ_=>by kernel_rfl) h
def TT:bf:=(oA w9 (ap0 (Ze (O4 (WD (aet (ZY (Yb (Bt (e71 (Ws (e26 (e25 de)))))))))))) (λf=>zf f 25||zf f 26||zf f 35||zf f 71||zf f 110||zf f 118||zf f 120||zf f 184||zf f 186||zf f 187||zf f 189) 300 10)
def ZN:aQ w9 TT:=⟨mZ (aQ.ok (BK (BU (BZ (Il (JH (vh (va (uY (OI (oc (mD (mB aP))))))))))))) (aQ.nat (P:=w9) (BK (BU (BZ (Il (JH (vh (va (uY (OI (oc (mD (mB aP))))))))))))) 300 10,kM (aQ.nat (P:=w9) (BK (BU (BZ (Il (JH (vh (va (uY (OI (oc (mD (mB aP))))))))))))) 300 10⟩
structure iU where
 t10:List (List aH)
 t55:List Cell
 (t56 t57:Int)
 b0:bJ
 b2:Tree
def ug:Td 0 iU:= .c [] [5,10,11,55,56,57] (.t (cC.c 2 5 [] 174) (.c [] [5,10,11,55,56,57] (.r 0 4 (ec 5 (qp 0 0) (ec 10 (qo 1) (ec 11 (qp 2 0) (ec 55 (ql 117) (ec 56 aM (ec 57 aM en)))))) (sb 0 84 (lg 84) (sr 1 30 (sb 2 172 (lc (ql 131) (lc (ql 139) (lc (ql 166) (lc (ql 3) (lc qb (lc (qo 3) ln)))))) (sr 3 174 sn)))) (λz=>⟨z.t.1,z.1.t.2.1,z.1.q.1,z.1.q.2.1,z.2.1,(Tree.mk (aN.mk z.t.2.1.1 z.t.2.1.2.1 z.t.2.1.t.1) (bY.mk z.t.2.1.t.2.1 z.t.2.1.q.1) z.q.1)⟩) (λx=>(((),(),(),x.t55,x.t56,x.t57,()),(x.b0,x.t10,(x.b2.fF.aj,x.b2.fF.ak,x.b2.fF.bH,x.b2.fV.aU,x.b2.fV.eM,(),()),x.b2.aS,()))))))
def fM(x0:iU)(x1:E25)(x2:E26):=
 x0.b2.aS++[dX.mk x0.t10[x0.t57.toNat]! (0) (0) [] x1.fst x2.snd.fst x2.fst]
def gZ(x0:iU)(x1:E25)(x2:E26):=
 (fM x0 x1 x2).set x0.t57.toNat (dX.mk (fM x0 x1 x2)[x0.t57.toNat]!.bR x0.t55[x0.t57.toNat]!.cA (fM x0 x1 x2)[x0.t57.toNat]!.jo (fM x0 x1 x2)[x0.t57.toNat]!.aq (fM x0 x1 x2)[x0.t57.toNat]!.gB (fM x0 x1 x2)[x0.t57.toNat]!.ei (fM x0 x1 x2)[x0.t57.toNat]!.dI)
def gY(x0:iU)(x1:E25)(x2:E26):=
 (gZ x0 x1 x2).set x0.t57.toNat (dX.mk (gZ x0 x1 x2)[x0.t57.toNat]!.bR (gZ x0 x1 x2)[x0.t57.toNat]!.cA x0.t55[x0.t57.toNat]!.jo (gZ x0 x1 x2)[x0.t57.toNat]!.aq (gZ x0 x1 x2)[x0.t57.toNat]!.gB (gZ x0 x1 x2)[x0.t57.toNat]!.ei (gZ x0 x1 x2)[x0.t57.toNat]!.dI)
def rC(p:iU):af (af iU):=
 bif J (p.t57<p.t56)then if 0<=p.t57/\p.t57<p.t55.length then if 0<=p.t57/\p.t57<p.t10.length then if 30=30/\p.t57.toNat<p.t10.length then match QT p.b2.fF p.b2.fV p.t10[p.t57.toNat]! with|S=>S|V r1=>match US p.b2.fF p.b2.fV p.t10[p.t57.toNat]! with|S=>S|V r2=>if(fM p r1 r2).length<=1073741824 then bif J ((↑p.t55[p.t57.toNat]!.aq.length:Int)=0)then V (V (iU.mk p.t10 p.t55 p.t56 (i64.wrap (p.t57+1)) p.b0 (Tree.mk p.b2.fF p.b2.fV (fM p r1 r2))))else if 0<=p.t57/\p.t57<p.t10.length then if 30=30/\p.t57.toNat<p.t10.length then bif J (p.t55[p.t57.toNat]!.cA<0)then V (S)else bif J ((↑(zS p.t10[p.t57.toNat]!):Int)<=p.t55[p.t57.toNat]!.cA)then V (S)else if 0<=p.t55[p.t57.toNat]!.cA/\p.t55[p.t57.toNat]!.cA<(↑(zS p.t10[p.t57.toNat]!):Int)then bif J (p.t55[p.t57.toNat]!.jo<p.t10[p.t57.toNat]![p.t55[p.t57.toNat]!.cA.toNat]!.ag)then V (S)else if 0<=p.t55[p.t57.toNat]!.cA/\p.t55[p.t57.toNat]!.cA<(↑(zS p.t10[p.t57.toNat]!):Int)then bif J (p.t10[p.t57.toNat]![p.t55[p.t57.toNat]!.cA.toNat]!.ah<=p.t55[p.t57.toNat]!.jo)then V (S)else if(0:Int)<=(0:Int)/\(0:Int)<(↑p.t55[p.t57.toNat]!.aq.length:Int)then if(0:Int)<=(1:Int)/\(1:Int)<(↑p.t55[p.t57.toNat]!.aq.length:Int)then match OR p.t10[p.t57.toNat]! p.t55[p.t57.toNat]!.cA p.t55[p.t57.toNat]!.jo with|S=>S|V r3=>if 0<=p.t55[p.t57.toNat]!.aq[zC 0]!/\p.t55[p.t57.toNat]!.aq[zC 0]! <(p.t10.length:Int)then if 30=30/\zC p.t55[p.t57.toNat]!.aq[0]! <p.t10.length then if 0<=p.t55[p.t57.toNat]!.aq[zC 1]!/\p.t55[p.t57.toNat]!.aq[zC 1]! <(↑(p.t10.set (zC p.t55[p.t57.toNat]!.aq[0]!) r3.fst).length:Int)then if 30=30/\zC p.t55[p.t57.toNat]!.aq[1]! <(p.t10.set (zC p.t55[p.t57.toNat]!.aq[0]!) r3.fst).length then match Ug p.t55[p.t57.toNat]!.aq with|S=>S|V r4=>if 0<=p.t57/\p.t57<(↑(fM p r1 r2).length:Int)then if 174=174/\p.t57.toNat<(fM p r1 r2).length then if 0<=p.t57/\p.t57<(↑(gZ p r1 r2).length:Int)then if 174=174/\p.t57.toNat<(gZ p r1 r2).length then if 0<=p.t57/\p.t57<(↑(gY p r1 r2).length:Int)then if 174=174/\p.t57.toNat<(gY p r1 r2).length then V (V (iU.mk ((p.t10.set (zC p.t55[p.t57.toNat]!.aq[0]!) r3.fst).set (zC p.t55[p.t57.toNat]!.aq[1]!) r3.snd) p.t55 p.t56 (i64.wrap (p.t57+1)) p.b0 (Tree.mk p.b2.fF p.b2.fV ((gY p r1 r2).set p.t57.toNat (dX.mk (gY p r1 r2)[p.t57.toNat]!.bR (gY p r1 r2)[p.t57.toNat]!.cA (gY p r1 r2)[p.t57.toNat]!.jo r4 (gY p r1 r2)[p.t57.toNat]!.gB (gY p r1 r2)[p.t57.toNat]!.ei (gY p r1 r2)[p.t57.toNat]!.dI)))))else S else S else S else S else S else S else S else S else S else S else S else S else S else S else S else S else S else S else S else S else V (S)
def ab4(p:iU):ep w9 (TT) f105.ntmps 300 (bg f105 0) .no (af iU) (ug.pat p) (Bd ug.rd)=rC p:=by kernel_rfl
def Cj:=bK (rC)
abbrev alw:=Tree×Int
def akX:Td 0 alw:= .c [] [6,7] (.r 0 2 (ec 6 (qp 0 0) (ec 7 aM en)) (sb 0 172 (lc (ql 131) (lc (ql 139) (lc (ql 166) (lc (ql 3) (lc qb (lc (qo 1) ln)))))) (sr 1 174 sn)) (λz=>((Tree.mk (aN.mk z.2.1.1 z.2.1.2.1 z.2.1.t.1) (bY.mk z.2.1.t.2.1 z.2.1.q.1) z.t.1),z.1.2.1)) (λx=>(((),x.2,()),((x.1.fF.aj,x.1.fF.ak,x.1.fF.bH,x.1.fV.aU,x.1.fV.eM,(),()),x.1.aS,()))))
def alg:=(lc (qg 26) (lc (qg 29) (lc (qg 84) ln)))
def XO:An:=(noTwo (noTwo (noTwo (noTwo (noTwo (noTwo (.two (noTwo (ug.lp Cj .no)) .no)))))))
def ao3:cU w9 (TT) 0 300 105 (XO):=bB (l:=[(bg f105 0,(ug.lp Cj .no))]) func105 (aV (by kernel_rfl)) (by kernel_rfl) (aA ⟨ug.ok _,dR (ab4)⟩ aF)
def Ms(a0:aN)(a1:bY)(a2:bJ):af alw:=
 match Gw a0 a1 with|S=>(match Ue a0 a1 with|S=>S|V r15=>bif bif J (r15.snd=0)then G else O then S else bif J (8192<(a2.aS.length:Int))then S else match Vm a2.aS with|S=>S|V r16=>bif bif r16 then G else O then S else if(0:Int)<=a2.aS.length/\(a2.aS.length:Int)<=(a2.aS.length:Int)/\(a2.aS.length:Int)<=(1073741824:Int)then S else S)|V r5=>bif bif J (r5.snd=0)then G else O then S else bif J (8192<(a2.aS.length:Int))then S else match Vm a2.aS with|S=>S|V r6=>bif bif r6 then G else O then S else if(0:Int)<=a2.aS.length/\(a2.aS.length:Int)<=(a2.aS.length:Int)/\(a2.aS.length:Int)<=(1073741824:Int)then if(0:Int)<=(0:Int)/\(0:Int)<r5.fst.aS.length then if 174=174/\0<r5.fst.aS.length then if(0:Int)<=(0:Int)/\(0:Int)<(↑(zk a2.aS.length ([]:aa aH)).length:Int)then if 30=30/\0<(zk a2.aS.length ([]:aa aH)).length then match Cj (iU.mk ((zk a2.aS.length ([]:aa aH)).set 0 r5.fst.aS[0]!.bR) a2.aS a2.aS.length 0 a2 (Tree.mk a0 a1 []))with|S=>S|V r7=>bif J (r7.t57<r7.t56)then if 0<=r7.t57/\r7.t57<r7.t55.length then if 0<=r7.t57/\r7.t57<r7.t10.length then if 30=30/\r7.t57.toNat<r7.t10.length then match QT r7.b2.fF r7.b2.fV r7.t10[r7.t57.toNat]! with|S=>S|V r8=>match US r7.b2.fF r7.b2.fV r7.t10[r7.t57.toNat]! with|S=>S|V r9=>if(fM r7 r8 r9).length<=1073741824 then bif J ((↑r7.t55[r7.t57.toNat]!.aq.length:Int)=0)then S else if 0<=r7.t57/\r7.t57<r7.t10.length then if 30=30/\r7.t57.toNat<r7.t10.length then bif J (r7.t55[r7.t57.toNat]!.cA<0)then S else bif J ((↑(zS r7.t10[r7.t57.toNat]!):Int)<=r7.t55[r7.t57.toNat]!.cA)then S else if 0<=r7.t55[r7.t57.toNat]!.cA/\r7.t55[r7.t57.toNat]!.cA<(↑(zS r7.t10[r7.t57.toNat]!):Int)then bif J (r7.t55[r7.t57.toNat]!.jo<r7.t10[r7.t57.toNat]![r7.t55[r7.t57.toNat]!.cA.toNat]!.ag)then S else if 0<=r7.t55[r7.t57.toNat]!.cA/\r7.t55[r7.t57.toNat]!.cA<(↑(zS r7.t10[r7.t57.toNat]!):Int)then bif J (r7.t10[r7.t57.toNat]![r7.t55[r7.t57.toNat]!.cA.toNat]!.ah<=r7.t55[r7.t57.toNat]!.jo)then S else if(0:Int)<=(0:Int)/\(0:Int)<(↑r7.t55[r7.t57.toNat]!.aq.length:Int)then if(0:Int)<=(1:Int)/\(1:Int)<(↑r7.t55[r7.t57.toNat]!.aq.length:Int)then match OR r7.t10[r7.t57.toNat]! r7.t55[r7.t57.toNat]!.cA r7.t55[r7.t57.toNat]!.jo with|S=>S|V r10=>if 0<=r7.t55[r7.t57.toNat]!.aq[zC 0]!/\r7.t55[r7.t57.toNat]!.aq[zC 0]! <(r7.t10.length:Int)then if 30=30/\zC r7.t55[r7.t57.toNat]!.aq[0]! <r7.t10.length then if 0<=r7.t55[r7.t57.toNat]!.aq[zC 1]!/\r7.t55[r7.t57.toNat]!.aq[zC 1]! <(↑(r7.t10.set (zC r7.t55[r7.t57.toNat]!.aq[0]!) r10.fst).length:Int)then if 30=30/\zC r7.t55[r7.t57.toNat]!.aq[1]! <(r7.t10.set (zC r7.t55[r7.t57.toNat]!.aq[0]!) r10.fst).length then match Ug r7.t55[r7.t57.toNat]!.aq with|S=>S|V r11=>if 0<=r7.t57/\r7.t57<(↑(fM r7 r8 r9).length:Int)then if 174=174/\r7.t57.toNat<(fM r7 r8 r9).length then if 0<=r7.t57/\r7.t57<(↑(gZ r7 r8 r9).length:Int)then if 174=174/\r7.t57.toNat<(gZ r7 r8 r9).length then if 0<=r7.t57/\r7.t57<(↑(gY r7 r8 r9).length:Int)then if 174=174/\r7.t57.toNat<(gY r7 r8 r9).length then S else S else S else S else S else S else S else S else S else S else S else S else S else S else S else S else S else S else S else S else S else match Q9 r7.b2 with|S=>S|V r12=>match UR r7.b0.aS r12.fst.aS with|S=>S|V r13=>bif bif r13 then G else O then S else match m71 r7.b0.dI r12.fst.dI with|S=>S|V r14=>bif bif r14 then G else O then S else V (r12.snd,0)else S else S else S else S else S
def axn(a0:aN)(a1:bY)(a2:bJ):bM w9 (TT) 300 (XO) 105 (alg.c (a0,a1,a2,())) [] 0 akX.rd=Ms a0 a1 a2:=by kernel_rfl
def akJ:bf->bf:=eZf w9 105 alg akX (λg=>Ms g.1 g.2.1 g.t.1)
def XM{F:bf}(h:aQ w9 F):aQ w9 (akJ F):=QE (cH ZN ao3 (λ_=>by kernel_rfl) (λ_=>by kernel_rfl) λg=>axn g.1 g.2.1 g.t.1) ⟨_,func105,by kernel_rfl,by kernel_rfl⟩ (λ_=>by kernel_rfl) h
def F48:bf:=(Bt (akl (ael (Wa (akJ de)))))
def apB:aQ w9 F48:=(uY (Yo (Ic (af1 (XM aP)))))
abbrev E48:=bJ×Int
def d48:Td 0 E48:= .c [] [8,9] (.t (cC.c 0 0 [] 47) (.t (cC.c 0 1 [] 117) (.c [] [8,9] (.r 0 3 (ec 8 (qp 0 0) (ec 9 aM en)) (sb 0 84 (lc (qo 1) (lc (qo 2) ln)) (sr 1 47 (sr 2 117 sn))) (λz=>((bJ.mk z.t.1 z.t.2.1),z.1.2.1)) (λx=>(((),x.2,()),(((),(),()),x.1.dI,x.1.aS,())))))))
def A48:=(lc (qg 26) (lc (qg 29) (lc (qg 84) (bk ln))))
def ayu:An:=(noTwo (noTwo (noTwo (.two (.two (.rb [] 46) .no) .no))))
def aBB:∀f∈([]:aa Nat),bw (F48) f:=aF
def aCb:cU w9 (F48) 0 300 48 (ayu):=bB (l:=[(.skip,(.rb [] 46))]) func48 (aV (by kernel_rfl)) (by kernel_rfl) (aA aBB aF)
def Wo(a0:aN)(a1:bY)(a2:bJ)(a3:Int):af E48:=
 match Ms a0 a1 a2 with|S=>S|V r1=>bif bif J (r1.snd=0)then G else O then V (bJ.mk [] [],r1.snd)else match bif J (a3<0)then V O else bif J (r1.fst.aS.length<=a3)then V O else if 0<=a3/\a3<r1.fst.aS.length then if 174=174/\a3.toNat<r1.fst.aS.length then V (J (0<(↑r1.fst.aS[a3.toNat]!.aq.length:Int)))else S else S with|S=>S|V r2=>bif r2 then V (bJ.mk [] [],3)else if 0<=a3/\a3<r1.fst.aS.length then if 174=174/\a3.toNat<r1.fst.aS.length then match abh r1.fst.aS[a3.toNat]!.bR with|S=>S|V r3=>bif bif r3 then G else O then V (bJ.mk [] [],11)else match LR a3 r1.fst with|S=>S|V r4=>bif bif J (r4.fst=0)then G else O then V (bJ.mk [] [],r4.fst)else match Q9 r4.snd with|S=>S|V r5=>V (r5.fst,0)else S else S
def c48(a0:aN)(a1:bY)(a2:bJ)(a3:Int):bM w9 (F48) 300 (ayu) 48 (A48.c (a0,a1,a2,a3,())) [] 0 d48.rd=Wo a0 a1 a2 a3:=by kernel_rfl
def QB:bf->bf:=eZ w9 48 A48 d48 (λg=>Wo g.1 g.2.1 g.t.1 g.t.2.1)
def YB{F:bf}(h:aQ w9 F):aQ w9 (QB F):=qF (cH apB aCb (λ_=>by kernel_rfl) (λ_=>by kernel_rfl) λg=>c48 g.1 g.2.1 g.t.1 g.t.2.1) ⟨_,func48,by kernel_rfl,by kernel_rfl⟩ (λ_=>by kernel_rfl) h
def ZE{F:bf}{f:Nat}(hne:zf f 48=G)(h:bw F f):bw (QB F) f:=tT hne h
def F54:bf:=(ZY (Yb (Bt de)))
def aro:aQ w9 F54:=(vh (va (uY aP)))
abbrev E54:=bJ×Int
def d54:Td 0 E54:= .c [] [4,5] (.t (cC.c 0 0 [] 47) (.t (cC.c 0 1 [] 117) (.c [] [4,5] (.r 0 3 (ec 4 (qp 0 0) (ec 5 aM en)) (sb 0 84 (lc (qo 1) (lc (qo 2) ln)) (sr 1 47 (sr 2 117 sn))) (λz=>((bJ.mk z.t.1 z.t.2.1),z.1.2.1)) (λx=>(((),x.2,()),(((),(),()),x.1.dI,x.1.aS,())))))))
def A54:=(lc (qg 26) (lc (qg 29) ln))
def ax2:An:= .no
def aDq:cU w9 (F54) 0 300 54 (ax2):=bB (l:=[]) func54 (aV (by kernel_rfl)) (by kernel_rfl) aF
def m54(a0:aN)(a1:bY):af E54:=
 match Gw a0 a1 with|S=>(match Ue a0 a1 with|S=>S|V r3=>bif bif J (r3.snd=0)then G else O then V ((bJ.mk [] [],r3.snd))else S)|V r1=>bif bif J (r1.snd=0)then G else O then V ((bJ.mk [] [],r1.snd))else match Q9 r1.fst with|S=>S|V r2=>V ((r2.fst,0))
def c54(a0:aN)(a1:bY):bM w9 (F54) 300 (ax2) 54 (A54.c (a0,a1,())) [] 0 d54.rd=m54 a0 a1:=by kernel_rfl
def e54:bf->bf:=eZ w9 54 A54 d54 (λg=>m54 g.1 g.2.1)
def anC{F:bf}(h:aQ w9 F):aQ w9 (e54 F):=qF (cH aro aDq (λ_=>by kernel_rfl) (λ_=>by kernel_rfl) λg=>c54 g.1 g.2.1) ⟨_,func54,by kernel_rfl,by kernel_rfl⟩ (λ_=>by kernel_rfl) h
def F58:bf:=(axc de)
def arK:aQ w9 F58:=(afU aP)
abbrev E58:=aa Part
def d58:Td 0 E58:= .c [] [2] (.r 0 1 (ec 2 (qo 0) en) (sr 0 90 sn) (λz=>z.2.1) (λx=>(((),()),(x,()))))
def A58:=(lc (qg 26) ln)
def awB:An:= .no
def aDT:cU w9 (F58) 0 300 58 (awB):=bB (l:=[]) func58 (aV (by kernel_rfl)) (by kernel_rfl) aF
def m58(a0:aN):af E58:=
 match adk a0 with|S=>S|V r1=>V ([Part.mk (0) (0) [] r1])
def c58(a0:aN):bM w9 (F58) 300 (awB) 58 (A58.c (a0,())) [] 0 d58.rd=m58 a0:=by kernel_rfl
def e58:bf->bf:=eZ w9 58 A58 d58 (λg=>m58 g.1)
def aoz{F:bf}(h:aQ w9 F):aQ w9 (e58 F):=qF (cH arK aDT (λ_=>by kernel_rfl) (λ_=>by kernel_rfl) λg=>c58 g.1) ⟨_,func58,by kernel_rfl,by kernel_rfl⟩ (λ_=>by kernel_rfl) h
def ans:bf:=de
def adD:aQ w9 ans:=aP
abbrev apY:=aH
def d194:Td 0 apY:= .c [] [4] (.r 0 1 (ec 4 (qp 0 0) en) (sb 0 34 (lg 34) sn) (λz=>z.2.1) (λx=>(((),()),(x,()))))
def awS:=(bk (bk ln))
def akO:An:= .no
def av4:cU w9 (ans) 0 300 194 (akO):=bB (l:=[]) func194 (aV (by kernel_rfl)) (by kernel_rfl) aF
def N4(a0:Int)(a1:Int):apY:=
 bif J (a0=a1)then aH.mk a0 a1 (0)else aH.mk a0 a1 (1)
def aB5(a0:Int)(a1:Int):bM w9 (ans) 300 (akO) 194 (awS.c (a0,a1,())) [] 0 d194.rd=V (N4 a0 a1):=by
 refine Eq.trans (b:=(
  bif J (a0=a1)then V (aH.mk a0 a1 (0))else V (aH.mk a0 a1 (1)):af apY)) (by kernel_rfl) ?_
 simp only[N4,cM,dg]
def auj:=eL w9 194 G awS d194 (λg=>V (N4 g.1 g.2.1))
def ad7{F:bf}(h:aQ w9 F):aQ w9 (auj F):=cT (sc:=jM) cv (cH adD av4 (λ_=>by kernel_rfl) (λ_=>by kernel_rfl) λg=>aB5 g.1 g.2.1) ⟨_,func194,by kernel_rfl,by kernel_rfl⟩ (λ_=>by kernel_rfl) (λ_=>by kernel_rfl) h
def anO:bf:=(auj (e40 de))
def abT:aQ w9 anO:=(ad7 (sK aP))
abbrev axr:=(aa aH)×(aa aH)
def d112:Td 0 axr:= .c [] [6,7] (.r 0 2 (ec 6 (qo 0) (ec 7 (qo 1) en)) (sr 0 34 (sr 1 34 sn)) (λz=>(z.2.1,z.t.1)) (λx=>(((),(),()),(x.1,x.2,()))))
def axo:=(lc (ql 34) (bk (bk ln)))
def akI:An:= .no
def awX:cU w9 (anO) 0 300 112 (akI):=bB (l:=[]) func112 (aV (by kernel_rfl)) (by kernel_rfl) aF
def ZI(a0:aa aH)(a1:Int)(a2:Int):af axr:=
 match Wc a0 with|S=>S|V r1=>match Wc a0 with|S=>S|V r2=>if 0<=a1/\a1<a0.length then if 0<=a1/\a1<(↑(zS r1):Int)then if 34=34/\a1.toNat<zS r1 then if 0<=a1/\a1<a0.length then if 0<=a1/\a1<(↑(zS r2):Int)then if 34=34/\a1.toNat<zS r2 then V ((List.set r1 a1.toNat (N4 a0[a1.toNat]!.ag a2),List.set r2 a1.toNat (N4 (i64.wrap (a2+1)) a0[a1.toNat]!.ah)))else S else S else S else S else S else S
def aAX(a0:aa aH)(a1:Int)(a2:Int):bM w9 (anO) 300 (akI) 112 (axo.c (a0,a1,a2,())) [] 0 d112.rd=ZI a0 a1 a2:=by kernel_rfl
def agE:=eL w9 112 G axo d112 (λg=>ZI g.1 g.2.1 g.t.1)
def agr{F:bf}(h:aQ w9 F):aQ w9 (agE F):=cT (sc:=jM) cv (cH abT awX (λ_=>by kernel_rfl) (λ_=>by kernel_rfl) λg=>aAX g.1 g.2.1 g.t.1) ⟨_,func112,by kernel_rfl,by kernel_rfl⟩ (λ_=>by kernel_rfl) (λ_=>by kernel_rfl) h
def af9:bf:=(afk de)
def ahc:aQ w9 af9:=(ab8 aP)
structure o8 where
 t0:List aH
 t2:Int
 t7:List aH
 (t8 t9:Int)
def CQ:Td 0 o8:= .c [] [0,2,7,8,9] (.r 0 0 (ec 0 (ql 34) (ec 2 aM (ec 7 (ql 34) (ec 8 aM (ec 9 aM en))))) sn (λz=>⟨z.1.1,z.1.2.1,z.1.t.1,z.1.t.2.1,z.1.q.1⟩) (λx=>((x.t0,x.t2,x.t7,x.t8,x.t9,()),(()))))
def AX(p:o8):af (af o8):=
 bif J (p.t9<p.t8)then if 0<=p.t9/\p.t9<p.t7.length then if 0<=p.t2/\p.t2<p.t0.length then if 0<=p.t2/\p.t2<p.t0.length then bif J (i64.wrap (p.t0[p.t2.toNat]!.ah-p.t0[p.t2.toNat]!.ag)<i64.wrap (p.t7[p.t9.toNat]!.ah-p.t7[p.t9.toNat]!.ag))then V (V (o8.mk p.t0 p.t9 p.t7 p.t8 (i64.wrap (p.t9+1))))else V (V (o8.mk p.t0 p.t2 p.t7 p.t8 (i64.wrap (p.t9+1))))else S else S else S else V (S)
def aoV(p:o8):ep w9 (af9) f111.ntmps 300 (bg f111 0) .no (af o8) (CQ.pat p) (Bd CQ.rd)=AX p:=by kernel_rfl
def HN:=bK (AX)
abbrev avu:=Int×Int×Bool
def d111:Td 0 avu:= .c [] [2,3,4] (.r 0 0 (ec 2 aM (ec 3 aM (ec 4 qb en))) sn (λz=>(z.1.1,z.1.2.1,z.1.t.1)) (λx=>((x.1,x.2.1,x.t,()),(()))))
def asD:=(lc (ql 34) ln)
def akK:An:=(noTwo (.two (noTwo (CQ.lp HN .no)) .no))
def azh:cU w9 (af9) 0 300 111 (akK):=bB (l:=[(bg f111 0,(CQ.lp HN .no))]) func111 (aV (by kernel_rfl)) (by kernel_rfl) (aA ⟨CQ.ok _,dR (aoV)⟩ aF)
def Zx(a0:aa aH):af avu:=
 match HN (o8.mk a0 0 a0 a0.length 0)with|S=>S|V r1=>bif J (r1.t9<r1.t8)then if 0<=r1.t9/\r1.t9<r1.t7.length then if 0<=r1.t2/\r1.t2<r1.t0.length then if 0<=r1.t2/\r1.t2<r1.t0.length then bif J (i64.wrap (r1.t0[r1.t2.toNat]!.ah-r1.t0[r1.t2.toNat]!.ag)<i64.wrap (r1.t7[r1.t9.toNat]!.ah-r1.t7[r1.t9.toNat]!.ag))then S else S else S else S else S else bif J ((r1.t0.length:Int)=0)then V (0,0,G)else if 0<=r1.t2/\r1.t2<r1.t0.length then if 0<=r1.t2/\r1.t2<r1.t0.length then bif J (r1.t0[r1.t2.toNat]!.ah=r1.t0[r1.t2.toNat]!.ag)then V (0,0,G)else if 0<=r1.t2/\r1.t2<r1.t0.length then if 0<=r1.t2/\r1.t2<r1.t0.length then match ac3 (i64.wrap (r1.t0[r1.t2.toNat]!.ag+r1.t0[r1.t2.toNat]!.ah)) 2with|S=>S|V r2=>V (r1.t2,r2,O)else S else S else S else S
def aDi(a0:aa aH):bM w9 (af9) 300 (akK) 111 (asD.c (a0,())) [] 0 d111.rd=Zx a0:=by kernel_rfl
def Oz:=eL w9 111 G asD d111 (λg=>Zx g.1)
def ahA{F:bf}(h:aQ w9 F):aQ w9 (Oz F):=cT (sc:=jM) cv (cH ahc azh (λ_=>by kernel_rfl) (λ_=>by kernel_rfl) λg=>aDi g.1) ⟨_,func111,by kernel_rfl,by kernel_rfl⟩ (λ_=>by kernel_rfl) (λ_=>by kernel_rfl) h
abbrev axD:=aa Part
def d113:Td 0 axD:= .c [] [2] (.t (cC.s 2 [] 90) (.c [] [2] (.r 0 1 (ec 2 (qo 0) en) (sr 0 90 sn) (λz=>z.2.1) (λx=>(((),()),(x,()))))))
def axP:=(lc (ql 90) ln)
def VW(a0:aa Part):af axD:=if a0.length<=1073741824 then V a0 else S
def Ww:cU w9 de 0 300 113 .no:=bB (l:=[]) func113 (aV (by kernel_rfl)) (by kernel_rfl) aF
def aw0(x:Part)(xs:aa Part):bM w9 de 300 .no 113 [.sl 90 (x::xs)] [] 0 d113.rd=if([]++(x::xs)).length<=1073741824 then V ([]++(x::xs))else S:=by kernel_rfl
def asx(c:Nat):bM w9 de 300 .no 113 [.lit (.slice S 0 c)] [] 0 d113.rd=V []:=by kernel_rfl
def ayx(a:Addr)(c:Nat):bM w9 de 300 .no 113 [.lit (.slice (V a) 0 c)] [] 0 d113.rd=V []:=by kernel_rfl
def aEj:HL w9 113 axP d113 (λg=>VW g.1):=λg r h=>by
 obtain⟨a0,_⟩:=g;have h:VW a0=V r:=h;cases a0 with
 |cons x xs=>exact(jC (out:=λp=>gN w9 113 0 (d113.pat p)) (p:=r) aP Ww d113.ok (λp=>by kernel_rfl) (iw (by kernel_rfl)) (gX (by kernel_rfl)) ((aw0 x xs).trans (by rw[yw];exact h))).2
 |nil=>
  cases h;exact JL (λc=>(jC (out:=λp=>gN w9 113 0 (d113.pat p)) (p:=[]) aP Ww d113.ok (λp=>by kernel_rfl) (iw (by kernel_rfl)) (gX (by kernel_rfl)) (asx c)).2) (λa c=>(jC (out:=λp=>gN w9 113 0 (d113.pat p)) (p:=[]) aP Ww d113.ok (λp=>by kernel_rfl) (iw (by kernel_rfl)) (gX (by kernel_rfl)) (ayx a c)).2)
def aeC:bf->bf:=eZ w9 113 axP d113 (λg=>VW g.1)
def acu{F:bf}(h:aQ w9 F):aQ w9 (aeC F):=qF aEj ⟨_,func113,by kernel_rfl,by kernel_rfl⟩ (λ_=>by kernel_rfl) h
def F49:bf:=(aeC (agE (Oz de)))
def aq3:aQ w9 F49:=(acu (agr (ahA aP)))
abbrev E49:=(aa Part)×Bool
def d49:Td 0 E49:= .c [] [4,5] (.t (cC.fs 4 []) (.c [] [4,5] (.r 0 0 (ec 4 (ql 90) (ec 5 qb en)) sn (λz=>(z.1.1,z.1.2.1)) (λx=>((x.1,x.2,()),(()))))))
def A49:=(lc (ql 90) (bk ln))
def at2:An:= .no
def aAW:cU w9 (F49) 0 300 49 (at2):=bB (l:=[]) func49 (aV (by kernel_rfl)) (by kernel_rfl) aF
def m49(a0:aa Part)(a1:Int):af E49:=
 if 0<=a1/\a1<a0.length then match Zx a0[a1.toNat]!.bR with|S=>S|V r1=>bif bif r1.snd.snd then G else O then V (a0,G)else if 0<=a1/\a1<a0.length then match ZI a0[a1.toNat]!.bR r1.fst r1.snd.fst with|S=>S|V r2=>match VW a0 with|S=>S|V r3=>if(r3++[Part.mk ((0:Int)) ((0:Int)) [] r2.fst,Part.mk ((0:Int)) ((0:Int)) [] r2.snd]).length<=1073741824 then if 0<=a1/\a1<a0.length then if 0<=a1/\a1<(↑(r3++[Part.mk ((0:Int)) ((0:Int)) [] r2.fst,Part.mk ((0:Int)) ((0:Int)) [] r2.snd]).length:Int)then if 90=90/\a1.toNat<(r3++[Part.mk ((0:Int)) ((0:Int)) [] r2.fst,Part.mk ((0:Int)) ((0:Int)) [] r2.snd]).length then V (((r3++[Part.mk 0 0 [] r2.fst,Part.mk 0 0 [] r2.snd]).set a1.toNat (Part.mk r1.fst r1.snd.fst [(a0.length:Int),i64.wrap ((a0.length:Int)+1)] a0[a1.toNat]!.bR),O))else S else S else S else S else S else S
def c49(a0:aa Part)(a1:Int):bM w9 (F49) 300 (at2) 49 (A49.c (a0,a1,())) [] 0 d49.rd=m49 a0 a1:=by kernel_rfl
def Kl:bf->bf:=eZ w9 49 A49 d49 (λg=>m49 g.1 g.2.1)
def aaU{F:bf}(h:aQ w9 F):aQ w9 (Kl F):=qF (cH aq3 aAW (λ_=>by kernel_rfl) (λ_=>by kernel_rfl) λg=>c49 g.1 g.2.1) ⟨_,func49,by kernel_rfl,by kernel_rfl⟩ (λ_=>by kernel_rfl) h
def Xa{F:bf}{f:Nat}(hne:zf f 49=G)(h:bw F f):bw (Kl F) f:=tT hne h
def aac:bf:=de
def ahJ:aQ w9 aac:=aP
structure oQ where
 t3:Int
 t7:List aX
 (t8 t9:Int)
def Dl:Td 0 oQ:= .c [] [3,7,8,9] (.r 0 0 (ec 3 aM (ec 7 (ql 131) (ec 8 aM (ec 9 aM en)))) sn (λz=>⟨z.1.1,z.1.2.1,z.1.t.1,z.1.t.2.1⟩) (λx=>((x.t3,x.t7,x.t8,x.t9,()),(()))))
def DM(p:oQ):af (af oQ):=
 bif J (p.t9<p.t8)then if 0<=p.t9/\p.t9<p.t7.length then match bif J (p.t7[p.t9.toNat]!.bz=1)then V O else V (J (p.t7[p.t9.toNat]!.bz=3))with|S=>S|V r1=>bif r1 then V (V (oQ.mk (i64.wrap (p.t3*i64.wrap (i64.wrap (p.t7[p.t9.toNat]!.ah-p.t7[p.t9.toNat]!.ag)+1))) p.t7 p.t8 (i64.wrap (p.t9+1))))else V (V (oQ.mk p.t3 p.t7 p.t8 (i64.wrap (p.t9+1))))else S else V (S)
def OL:An:=(noTwo (noTwo (.two (noTwo (.two (.rb [] 20) .no)) .no)))
def aoF(p:oQ):ep w9 (aac) f104.ntmps 300 (bg f104 0) OL (af oQ) (Dl.pat p) (Bd Dl.rd)=DM p:=by kernel_rfl
def Je:=bK (DM)
abbrev aza:=Int
def d104:Td 0 aza:= .c [] [2] (.r 0 0 (ec 2 aM en) sn (λz=>z.1.1) (λx=>((x,()),(()))))
def azu:=(lc (qg 26) ln)
def alm:An:=(noTwo (noTwo (.two (noTwo (Dl.lp Je OL)) .no)))
def atC:∀f∈([]:aa Nat),bw (aac) f:=aF
def auX:cU w9 (aac) 0 300 104 (alm):=bB (l:=[(bg f104 0,(Dl.lp Je OL)),(.skip,(.rb [] 20))]) func104 (aV (by kernel_rfl)) (by kernel_rfl) (aA ⟨Dl.ok _,dR (aoF)⟩ (aA atC aF))
def aaD(a0:aN):af aza:=
 match Je (oQ.mk 1 a0.aj a0.aj.length 0)with|S=>S|V r2=>bif J (r2.t9<r2.t8)then if 0<=r2.t9/\r2.t9<r2.t7.length then match bif J (r2.t7[r2.t9.toNat]!.bz=1)then V O else V (J (r2.t7[r2.t9.toNat]!.bz=3))with|S=>S|V r3=>bif r3 then S else S else S else V (r2.t3)
def aCp(a0:aN):bM w9 (aac) 300 (alm) 104 (azu.c (a0,())) [] 0 d104.rd=aaD a0:=by kernel_rfl
def ZU:=eL w9 104 G azu d104 (λg=>aaD g.1)
def adp{F:bf}(h:aQ w9 F):aQ w9 (ZU F):=cT (sc:=jM) cv (cH ahJ auX (λ_=>by kernel_rfl) (λ_=>by kernel_rfl) λg=>aCp g.1) ⟨_,func104,by kernel_rfl,by kernel_rfl⟩ (λ_=>by kernel_rfl) (λ_=>by kernel_rfl) h
def AB{F:bf}{f:Nat}(h:bw F f):bw (ZU F) f:=eS h (λ_=>by kernel_rfl)
def F46:bf:=(ZU (e55 (e24 de)))
def arz:aQ w9 F46:=(adp (arX (apF aP)))
abbrev E46:=Bool
def d46:Td 0 E46:= .c [] [4] (.r 0 0 (ec 4 qb en) sn (λz=>z.1.1) (λx=>((x,()),(()))))
def A46:=(lc (qg 26) (lc (qg 29) ln))
def axa:An:=(noTwo (.two (.rb [24,55,104] 4) .no))
def aDc:∀f∈([24,55,104]:aa Nat),bw (F46) f:=(aA (AB (Fz (EZ bS))) (aA (AB (Fz (EZ bS))) (aA (AB (Fz (EZ bS))) aF)))
def aBN:cU w9 (F46) 0 300 46 (axa):=bB (l:=[(.skip,(.rb [24,55,104] 4))]) func46 (aV (by kernel_rfl)) (by kernel_rfl) (aA aDc aF)
def m46(a0:aN)(a1:bY):af E46:=
 match match m24 a0 (16) (4096) (4)with|S=>S|V r1=>bif r1 then match m55 a0 a1 with|S=>S|V r2=>bif J (r2=0)then match aaD a0 with|S=>S|V r3=>V (J (r3<=16))else V (G)else V (G)with|S=>S|V r4=>V (r4)
def c46(a0:aN)(a1:bY):bM w9 (F46) 300 (axa) 46 (A46.c (a0,a1,())) [] 0 d46.rd=m46 a0 a1:=by kernel_rfl
def e46:=eL w9 46 G A46 d46 (λg=>m46 g.1 g.2.1)
def ank{F:bf}(h:aQ w9 F):aQ w9 (e46 F):=cT (sc:=jM) cv (cH arz aBN (λ_=>by kernel_rfl) (λ_=>by kernel_rfl) λg=>c46 g.1 g.2.1) ⟨_,func46,by kernel_rfl,by kernel_rfl⟩ (λ_=>by kernel_rfl) (λ_=>by kernel_rfl) h
def aaW{F:bf}{f:Nat}(h:bw F f):bw (e46 F) f:=eS h (λ_=>by kernel_rfl)
def F47:bf:=(e58 (e54 (Kl (QB de))))
def apS:aQ w9 F47:=(aoz (anC (aaU (YB aP))))
structure Bh where
 t9:List Part
 t31:List Int
 (t32 t33:Int)
 b0:aN
 b1:bY
 (b2 b3:bJ)
def Lw:Td 0 Bh:= .c [] [3,4,7,9,10,31,32,33] (.t (cC.fs 9 []) (.c [] [3,4,7,9,10,31,32,33] (.r 0 6 (ec 3 (qp 0 0) (ec 4 (qp 1 0) (ec 7 (qp 2 0) (ec 9 (ql 90) (ec 10 (qp 3 0) (ec 31 (ql 5) (ec 32 aM (ec 33 aM en)))))))) (sb 0 26 (lg 26) (sb 1 29 (lg 29) (sb 2 84 (lc qn (lc qn ln)) (sb 3 84 (lc (qo 4) (lc (qo 5) ln)) (sr 4 47 (sr 5 117 sn)))))) (λz=>⟨z.1.t.2.1,z.1.q.2.1,z.1.q.t.1,z.1.q.t.2.1,z.2.1,z.t.1,(bJ.mk [] []),(bJ.mk z.q.2.1 z.q.t.1)⟩) (λx=>(((),(),(),x.t9,(),x.t31,x.t32,x.t33,()),(x.b0,x.b1,((),(),()),((),(),()),x.b3.dI,x.b3.aS,()))))))
def MD(p:Bh):af (af Bh):=
 bif J (p.t33<p.t32)then if 0<=p.t33/\p.t33<p.t31.length then if¬(p.t9.length:Int)=(0:Int)then match m49 p.t9 ((i64.wrap p.t31[p.t33.toNat]!).tmod p.t9.length)with|S=>S|V r1=>match if(0:Int)<=(i64.wrap p.t31[p.t33.toNat]!).tmod p.t9.length/\(i64.wrap p.t31[p.t33.toNat]!).tmod (p.t9.length:Int)<(p.t9.length:Int)then bif J (0<(↑p.t9[((i64.wrap p.t31[p.t33.toNat]!).tmod p.t9.length).toNat]!.aq.length:Int))then V O else V (bif r1.snd then G else O)else S with|S=>S|V r2=>bif r2 then V (V (Bh.mk p.t9 p.t31 p.t32 (i64.wrap (p.t33+1)) p.b0 p.b1 (bJ.mk [] []) p.b3))else match Wo p.b0 p.b1 p.b3 ((i64.wrap p.t31[p.t33.toNat]!).tmod p.t9.length)with|S=>S|V r3=>bif bif J (r3.snd=0)then G else O then V (S)else V (V (Bh.mk r1.fst p.t31 p.t32 (i64.wrap (p.t33+1)) p.b0 p.b1 (bJ.mk [] []) r3.fst))else S else S else V (S)
def YT:An:=(noTwo (noTwo (.two (noTwo (noTwo (noTwo (.two (.two (.rb [] 58) .no) .no)))) .no)))
def axz(p:Bh):ep w9 (F47) f47.ntmps 300 (bg f47 0) YT (af Bh) (Lw.pat p) (Bd Lw.rd)=MD p:=by kernel_rfl
def Ui:=bK (MD)
abbrev E47:=(aa Part)×bJ×Bool
def d47:Td 0 E47:= .c [] [6,7,8] (.t (cC.fs 6 []) (.t (cC.fc 1 0 []) (.t (cC.fc 1 1 []) (.t (cC.fc 0 0 []) (.t (cC.fc 0 1 []) (.c [] [6,7,8] (.r 0 1 (ec 6 (ql 90) (ec 7 (qp 0 0) (ec 8 qb en))) (sb 0 84 (lg 84) sn) (λz=>(z.1.1,z.2.1,z.1.t.1)) (λx=>((x.1,(),x.t,()),(x.2.1,()))))))))))
def A47:=(lc (qg 26) (lc (qg 29) (lc (ql 5) ln)))
def axk:An:=(noTwo (noTwo (noTwo (noTwo (.two (noTwo (Lw.lp Ui YT)) .no)))))
def aCK:∀f∈([]:aa Nat),bw (F47) f:=aF
def aEi:cU w9 (F47) 0 300 47 (axk):=bB (l:=[(bg f47 0,(Lw.lp Ui YT)),(.skip,(.rb [] 58))]) func47 (aV (by kernel_rfl)) (by kernel_rfl) (aA ⟨Lw.ok _,dR (axz)⟩ (aA aCK aF))
def m47(a0:aN)(a1:bY)(a2:aa Int):af E47:=
 match m58 a0 with|S=>S|V r4=>match m54 a0 a1 with|S=>S|V r5=>bif bif J (r5.snd=0)then G else O then V (r4,r5.fst,G)else match Ui (Bh.mk r4 a2 a2.length 0 a0 a1 (bJ.mk [] []) r5.fst)with|S=>S|V r6=>bif J (r6.t33<r6.t32)then if 0<=r6.t33/\r6.t33<r6.t31.length then if¬(r6.t9.length:Int)=(0:Int)then match m49 r6.t9 ((i64.wrap r6.t31[r6.t33.toNat]!).tmod r6.t9.length)with|S=>S|V r7=>match if(0:Int)<=(i64.wrap r6.t31[r6.t33.toNat]!).tmod r6.t9.length/\(i64.wrap r6.t31[r6.t33.toNat]!).tmod (r6.t9.length:Int)<(r6.t9.length:Int)then bif J (0<(↑r6.t9[((i64.wrap r6.t31[r6.t33.toNat]!).tmod r6.t9.length).toNat]!.aq.length:Int))then V O else V (bif r7.snd then G else O)else S with|S=>S|V r8=>bif r8 then S else match Wo r6.b0 r6.b1 r6.b3 ((i64.wrap r6.t31[r6.t33.toNat]!).tmod r6.t9.length)with|S=>S|V r9=>bif bif J (r9.snd=0)then G else O then V (r6.t9,r6.b3,G)else S else S else S else V (r6.t9,r6.b3,O)
def c47(a0:aN)(a1:bY)(a2:aa Int):bM w9 (F47) 300 (axk) 47 (A47.c (a0,a1,a2,())) [] 0 d47.rd=m47 a0 a1 a2:=by kernel_rfl
def e47:bf->bf:=eZ w9 47 A47 d47 (λg=>m47 g.1 g.2.1 g.t.1)
def arA{F:bf}(h:aQ w9 F):aQ w9 (e47 F):=qF (cH apS aEi (λ_=>by kernel_rfl) (λ_=>by kernel_rfl) λg=>c47 g.1 g.2.1 g.t.1) ⟨_,func47,by kernel_rfl,by kernel_rfl⟩ (λ_=>by kernel_rfl) h
def Y0{F:bf}{f:Nat}(hne:zf f 47=G)(h:bw F f):bw (e47 F) f:=tT hne h
def F8:bf:=(Kl (QB (e47 (e46 (e45 de)))))
def aul:aQ w9 F8:=(aaU (YB (arA (ank (ajQ aCJ aP)))))
structure IF where
 t7:List Part
 t10:Int
 b0:aN
 b1:bY
 b2:bJ
def Y9:Td 0 IF:= .c [] [3,4,7,8,10] (.r 0 3 (ec 3 (qp 0 0) (ec 4 (qp 1 0) (ec 7 (ql 90) (ec 8 (qp 2 0) (ec 10 aM en))))) (sb 0 26 (lg 26) (sb 1 29 (lg 29) (sb 2 84 (lg 84) sn))) (λz=>⟨z.1.t.1,z.1.q.1,z.2.1,z.t.1,z.t.2.1⟩) (λx=>(((),(),x.t7,(),x.t10,()),(x.b0,x.b1,x.b2,()))))
def aaR(p:IF):af (af IF):=
 bif J (p.t10<=p.t7.length)then match Wo p.b0 p.b1 p.b2 p.t10 with|S=>S|V r1=>match bif J (0<=p.t10)then bif J (p.t10<p.t7.length)then if 0<=p.t10/\p.t10<p.t7.length then V (J ((↑p.t7[p.t10.toNat]!.aq.length:Int)=0))else S else V G else V G with|S=>S|V r2=>bif r2 then match m49 p.t7 p.t10 with|S=>S|V r3=>bif bif r3.snd then G else O then match bif bif J (r1.snd=11)then G else O then V O else bif bif J (r1.snd=0)then G else O then V (J (0<(r1.fst.aS.length:Int)))else V G with|S=>S|V r4=>bif r4 then V (S)else V (V (IF.mk p.t7 (i64.wrap (p.t10+1)) p.b0 p.b1 p.b2))else match bif bif J (r1.snd=0)then G else O then V O else bif bif J (r1.snd=0)then G else O then V (J (0<(r1.fst.aS.length:Int)))else V G with|S=>S|V r5=>bif r5 then V (S)else V (V (IF.mk p.t7 (i64.wrap (p.t10+1)) p.b0 p.b1 p.b2))else match bif bif J (r1.snd=3)then G else O then V O else bif bif J (r1.snd=0)then G else O then V (J (0<(r1.fst.aS.length:Int)))else V G with|S=>S|V r6=>bif r6 then V (S)else V (V (IF.mk p.t7 (i64.wrap (p.t10+1)) p.b0 p.b1 p.b2))else V (S)
def aoc:An:=(noTwo (.two (noTwo (noTwo (.two (.two (.rb [46] 67) .no) (.two (.rb [46] 88) .no)))) .no))
def aBJ(p:IF):ep w9 (F8) f8.ntmps 300 (bg f8 0) aoc (af IF) (Y9.pat p) (Bd Y9.rd)=aaR p:=by kernel_rfl
def afS:=bK (aaR)
abbrev E8:=Bool
def d8:Td 0 E8:= .c [] [6] (.r 0 0 (ec 6 qb en) sn (λz=>z.1.1) (λx=>((x,()),(()))))
def A8:=(lc (qg 26) (lc (qg 29) (lc (ql 5) ln)))
def an8:An:=(noTwo (noTwo (.two (.two (.rb [46] 26) .no) (noTwo (noTwo (.two (noTwo (Y9.lp afS aoc)) .no))))))
def pu8:∀f∈([46]:aa Nat),bw (F8) f:=(aA (Xa (f:=46) rfl (ZE (f:=46) rfl (Y0 (f:=46) rfl (aaW (aav bS))))) aF)
def fa8:cU w9 (F8) 0 300 8 (an8):=bB (l:=[(.skip,(.rb [46] 26)),(bg f8 0,(Y9.lp afS aoc)),(.skip,(.rb [46] 67)),(.skip,(.rb [46] 88))]) func8 (aV (by kernel_rfl)) (by kernel_rfl) (aA pu8 (aA ⟨Y9.ok _,dR (aBJ)⟩ (aA pu8 (aA pu8 aF))))
def m8(a0:aN)(a1:bY)(a2:aa Int):af E8:=
 bif bif m45 then G else O then V G else match match m46 a0 a1 with|S=>S|V r7=>bif bif r7 then G else O then V O else V (J (20<(a2.length:Int)))with|S=>S|V r8=>bif r8 then V O else match m47 a0 a1 a2 with|S=>S|V r9=>bif bif r9.snd.snd then G else O then V G else match afS (IF.mk r9.fst (-1) a0 a1 r9.snd.fst)with|S=>S|V r10=>bif J (r10.t10<=r10.t7.length)then match Wo r10.b0 r10.b1 r10.b2 r10.t10 with|S=>S|V r11=>match bif J (0<=r10.t10)then bif J (r10.t10<r10.t7.length)then if 0<=r10.t10/\r10.t10<r10.t7.length then V (J ((↑r10.t7[r10.t10.toNat]!.aq.length:Int)=0))else S else V G else V G with|S=>S|V r12=>bif r12 then match m49 r10.t7 r10.t10 with|S=>S|V r13=>bif bif r13.snd then G else O then match bif bif J (r11.snd=11)then G else O then V O else bif bif J (r11.snd=0)then G else O then V (J (0<(r11.fst.aS.length:Int)))else V G with|S=>S|V r14=>bif r14 then V G else S else match bif bif J (r11.snd=0)then G else O then V O else bif bif J (r11.snd=0)then G else O then V (J (0<(r11.fst.aS.length:Int)))else V G with|S=>S|V r15=>bif r15 then V G else S else match bif bif J (r11.snd=3)then G else O then V O else bif bif J (r11.snd=0)then G else O then V (J (0<(r11.fst.aS.length:Int)))else V G with|S=>S|V r16=>bif r16 then V G else S else V O
def c8(a0:aN)(a1:bY)(a2:aa Int):bM w9 (F8) 300 (an8) 8 (A8.c (a0,a1,a2,())) [] 0 d8.rd=m8 a0 a1 a2:=by kernel_rfl
def h8:HL w9 8 A8 d8 (λg=>m8 g.1 g.2.1 g.2.2.1):=(cH aul fa8 (λ_=>by kernel_rfl) (λ_=>by kernel_rfl) λg=>c8 g.1 g.2.1 g.2.2.1)
end Go.Proofs.YtnfljbehcffmcaaGreat
end
