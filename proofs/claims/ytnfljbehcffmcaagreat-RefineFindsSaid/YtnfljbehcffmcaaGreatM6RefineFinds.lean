/- Merged: Hz, Hw, Nf1, Nf2, Nf3, Nf4, Hk, Hu, Nf5, Nf6, Nf7, Nf8, Nf9, Hp1, Pw1, Hk45, Ix5, H10, Nk1, Rc, Sk, Sf, Sc, St, Ix6, Hra. -/
import Derived.Test.YtnfljbehcffmcaaGreatM5RefineFinds
import Derived.Test.YtnfljbehcffmcaaGreatM2RefineFinds
import Derived.Test.YtnfljbehcffmcaaGreatM4RefineFinds
import Derived.Test.YtnfljbehcffmcaaGreatM3RefineFinds
import Derived.Shelf.SlSortCmp.WholeK
import Derived.Shelf.SlSortCmp.NoneTotal
import Derived.Shelf.SlSortCmp.KitK
import Derived.Sort.WalkB12
import Derived.Deep.LoopGhost
import Derived.Lib.SliceRun
open Int renaming toNat_natCast → ze, le_refl → zm, toNat → zC, mul_nonneg → zF, mul_assoc → zQ, ediv_nonneg → zR, one_mul → z6, lt_irrefl → ya, ediv_le_self → yg, mul_le_mul → xA, le_trans → xU, mul_le_mul_of_nonneg_left → wV
open Nat renaming beq → zf, le_refl → zn, lt_succ_self → zJ, le_trans → zK, add_mul → yd, zero_add → yp, add_zero → yt, mul_le_mul_right → yL, mod_lt → yQ, zero_le → yT, add_assoc → xG, sub_self → xS, eq_zero_or_pos → wD, add_sub_cancel → wJ
open SizeOf renaming sizeOf → zg
open Bool renaming and_eq_true → zi, false_eq_true → yA, true_and → wA, true → O, false → S
open List renaming length_append → zj, replicate → zl, mem_cons_self → zo, getElem?_eq_getElem → zu, length_map → zx, mem_singleton → zy, take_length → zB, mem_cons → zD, length_take → zH, mem_map → zL, range → zM, mem_cons_of_mem → zO, length → zP, mem_append → zW, mem_filter → zZ, map_append → z8, map_cons → ye, length_filter_le → yh, length_drop → ym, nil_append → yw, append_nil → yy, length_nil → yB, length_singleton → yH, length_cons → yN, append_assoc → yR, map_nil → yS, filter_cons → yU, getElem_map → yY, filterMap_cons → y6, filter_append → y7, length_eq_zero_iff → xg, cons_append → xo, drop_eq_getElem_cons → xu, take_append_drop → xw, eq_nil_of_length_eq_zero → xy, filter_nil → xZ, getElem?_eq_none → x9, getElem_take → we, mem_of_mem_drop → wg, ext_getElem → wB, getElem_drop → wG, getElem?_append_right → wH, getElem?_take_of_lt → wN, getElem?_append_left → wS
open Option renaming map_eq_some_iff → zk, some → zA, some → V, none → G
open Array renaming length_toList → yj, getElem?_eq_some_iff → xE, getElem?_eq_getElem → xK, getElem?_toList → wY, getElem?_modify → wZ
open Decidable renaming decide → J
open Go.Proofs.Tryz renaming prog → w9
open Go.Proofs.Tryz
set_option linter.unusedSectionVars false
set_option linter.unusedVariables false
set_option linter.unusedSimpArgs false
set_option linter.defProp false
noncomputable section
set_option maxRecDepth 100000
namespace Go.Proofs.YtnfljbehcffmcaaGreat
open Go Go.Iv
open Go.IntKind (i64 u64)
def F79:aZ:=(Oi (agO (e91 cZ)))
structure Lc where
 t2:List aH
 t100:List aX
 (t101 t102:Int)
def Zt:Td 0 Lc:= .c [] [2,100,101,102] (.r 0 1 (ec 2 (ql 34) (ec 100 (qo 0) (ec 101 aL (ec 102 aL en)))) (sr 0 131 sn) (λz=>⟨z.1.1,z.2.1,z.1.t.1,z.1.t.2.1⟩) (λx=>((x.t2,(),x.t101,x.t102,()),(x.t100,()))))
def L7(p:Lc):af (af Lc):=
 bif J (p.t102<p.t101)then if 0<=p.t102/\p.t102<p.t100.length then if 131=131/\p.t102.toNat<p.t100.length then match if 0<=p.t102/\p.t102<p.t2.length then match tq p.t2[p.t102.toNat]! with|G=>G|V r2=>bif bif r2 then S else O then V O else if 0<=p.t102/\p.t102<p.t2.length then match Jl p.t2[p.t102.toNat]! with|G=>G|V r3=>V (J (r3=0))else G else G with|G=>G|V r4=>bif r4 then V (G)else if 0<=p.t102/\p.t102<p.t2.length then bif J (p.t2[p.t102.toNat]!.ag<p.t100[p.t102.toNat]!.ag)then V (G)else if 0<=p.t102/\p.t102<p.t2.length then bif J (p.t100[p.t102.toNat]!.ah<p.t2[p.t102.toNat]!.ah)then V (G)else V (V (Lc.mk p.t2 p.t100 p.t101 (i64.wrap (p.t102+1))))else G else G else G else G else V (G)
def anF:An:=(noTwo (noTwo (.two (noTwo (.two (.two (.rb [91,144] 120) .no) .no)) .no)))
def T2:=bJ (L7)
structure OA where
 t2:List aH
 (t9 t69:List aX)
 (t70 t71:Int)
 b0:bV
def aaW:Td 0 OA:= .c [] [2,4,9,69,70,71] (.r 0 3 (ec 2 (ql 34) (ec 4 (qp 0 0) (ec 9 (qo 1) (ec 69 (qo 2) (ec 70 aL (ec 71 aL en)))))) (sb 0 29 (lg 29) (sr 1 131 (sr 2 131 sn))) (λz=>⟨z.1.1,z.t.1,z.t.2.1,z.1.q.1,z.1.q.2.1,z.2.1⟩) (λx=>((x.t2,(),(),(),x.t70,x.t71,()),(x.b0,x.t9,x.t69,()))))
def Nj(p:OA):af (af OA):=
 bif J (p.t71<p.t70)then if 0<=p.t71/\p.t71<p.t69.length then if 131=131/\p.t71.toNat<p.t69.length then if 0<=p.t71/\p.t71<p.b0.aU.length then bif J (((p.t2,(),(),(),p.t70,p.t71,()),p.b0,p.t9,p.t69,()).snd.fst.aU[((p.t2,(),(),(),p.t70,p.t71,()),p.b0,p.t9,p.t69,()).fst.snd.snd.snd.snd.snd.fst.toNat]! <((p.t2,(),(),(),p.t70,p.t71,()),p.b0,p.t9,p.t69,()).snd.snd.snd.fst[((p.t2,(),(),(),p.t70,p.t71,()),p.b0,p.t9,p.t69,()).fst.snd.snd.snd.snd.snd.fst.toNat]!.ag)then V (G)else if 0<=p.t71/\p.t71<p.b0.aU.length then bif J (((p.t2,(),(),(),p.t70,p.t71,()),p.b0,p.t9,p.t69,()).snd.snd.snd.fst[((p.t2,(),(),(),p.t70,p.t71,()),p.b0,p.t9,p.t69,()).fst.snd.snd.snd.snd.snd.fst.toNat]!.ah<((p.t2,(),(),(),p.t70,p.t71,()),p.b0,p.t9,p.t69,()).snd.fst.aU[((p.t2,(),(),(),p.t70,p.t71,()),p.b0,p.t9,p.t69,()).fst.snd.snd.snd.snd.snd.fst.toNat]!)then V (G)else V (V (OA.mk p.t2 p.t9 p.t69 p.t70 (i64.wrap (p.t71+1)) p.b0))else G else G else G else G else V (G)
def T5:=bJ (Nj)
structure DN where
 t2:List aH
 (t8 t9:List aX)
 t13:Int
 t40:List Int
 (t41 t42:Int)
 t47:List aX
 (t48 t49:Int)
 b0:aN
 b1:bV
def Y8:Td 0 DN:= .c [] [2,3,4,8,9,13,40,41,42,47,48,49] (.r 0 5 (ec 2 (ql 34) (ec 3 (qp 0 0) (ec 4 (qp 1 0) (ec 8 (qo 2) (ec 9 (qo 3) (ec 13 aL (ec 40 (qo 4) (ec 41 aL (ec 42 aL (ec 47 (ql 131) (ec 48 aL (ec 49 aL en)))))))))))) (sb 0 26 (lg 26) (sb 1 29 (lg 29) (sr 2 131 (sr 3 131 (sr 4 129 sn))))) (λz=>⟨z.1.1,z.t.2.1,z.q.1,z.1.q.2.1,z.q.2.1,z.1.q.t.2.1,z.1.q.q.1,z.1.q.q.2.1,z.1.q.q.t.1,z.1.q.q.t.2.1,z.2.1,z.t.1⟩) (λx=>((x.t2,(),(),(),(),x.t13,(),x.t41,x.t42,x.t47,x.t48,x.t49,()),(x.b0,x.b1,x.t8,x.t9,x.t40,()))))
def S7(p:DN):af (af DN):=
 bif J (p.t49<p.t48)then if 0<=p.t49/\p.t49<p.t47.length then bif J (p.t47[p.t49.toNat]!.bz=p.t13)then if(p.t9++[p.t47[p.t49.toNat]!]).length<=1073741824 then V (V (DN.mk p.t2 p.t8 (p.t9++[p.t47[p.t49.toNat]!]) p.t13 p.t40 p.t41 p.t42 p.t47 p.t48 (i64.wrap (p.t49+1)) p.b0 p.b1))else G else V (V (DN.mk p.t2 p.t8 p.t9 p.t13 p.t40 p.t41 p.t42 p.t47 p.t48 (i64.wrap (p.t49+1)) p.b0 p.b1))else G else V (G)
def HU:=bJ (S7)
structure Lj where
 t2:List aH
 (t8 t9:List aX)
 t40:List Int
 (t41 t42:Int)
 b0:aN
 b1:bV
def abC:Td 0 Lj:= .c [] [2,3,4,8,9,40,41,42] (.t (cA.s 9 [] 131) (.c [] [2,3,4,8,9,40,41,42] (.r 0 5 (ec 2 (ql 34) (ec 3 (qp 0 0) (ec 4 (qp 1 0) (ec 8 (qo 2) (ec 9 (qo 3) (ec 40 (qo 4) (ec 41 aL (ec 42 aL en)))))))) (sb 0 26 (lg 26) (sb 1 29 (lg 29) (sr 2 131 (sr 3 131 (sr 4 129 sn))))) (λz=>⟨z.1.1,z.t.2.1,z.q.1,z.q.2.1,z.1.q.t.1,z.1.q.t.2.1,z.2.1,z.t.1⟩) (λx=>((x.t2,(),(),(),(),(),x.t41,x.t42,()),(x.b0,x.b1,x.t8,x.t9,x.t40,()))))))
def Uo(p:Lj):af (af Lj):=
 bif J (p.t42<p.t41)then if 0<=p.t42/\p.t42<p.t40.length then if 129=129/\p.t42.toNat<p.t40.length then match HU (DN.mk p.t2 p.t8 p.t9 p.t40[p.t42.toNat]! p.t40 p.t41 p.t42 p.b0.ai p.b0.ai.length 0 p.b0 p.b1)with|G=>G|V r1=>bif J (r1.t49<r1.t48)then if 0<=r1.t49/\r1.t49<r1.t47.length then bif J (r1.t47[r1.t49.toNat]!.bz=r1.t13)then if(r1.t9++[r1.t47[r1.t49.toNat]!]).length<=1073741824 then G else G else G else G else V (V (Lj.mk r1.t2 r1.t8 r1.t9 r1.t40 r1.t41 (i64.wrap (r1.t42+1)) r1.b0 r1.b1))else G else G else V (G)
def akV:An:=(noTwo (noTwo (.two (noTwo (noTwo (Y8.lp HU .no))) .no)))
def MH:=bJ (Uo)
structure GY where
 t2:List aH
 (t8 t26:List aX)
 (t27 t28:Int)
 b0:aN
 b1:bV
def X7:Td 0 GY:= .c [] [2,3,4,8,9,26,27,28] (.t (cA.s 8 [] 131) (.c [] [2,3,4,8,9,26,27,28] (.r 0 3 (ec 2 (ql 34) (ec 3 (qp 0 0) (ec 4 (qp 1 0) (ec 8 (qo 2) (ec 9 qn (ec 26 (ql 131) (ec 27 aL (ec 28 aL en)))))))) (sb 0 26 (lg 26) (sb 1 29 (lg 29) (sr 2 131 sn))) (λz=>⟨z.1.1,z.t.2.1,z.1.q.2.1,z.1.q.t.1,z.1.q.t.2.1,z.2.1,z.t.1⟩) (λx=>((x.t2,(),(),(),(),x.t26,x.t27,x.t28,()),(x.b0,x.b1,x.t8,()))))))
def Tk(p:GY):af (af GY):=
 bif J (p.t28<p.t27)then if 0<=p.t28/\p.t28<p.t26.length then bif J (p.t26[p.t28.toNat]!.bz=2)then if(p.t8++[p.t26[p.t28.toNat]!]).length<=1073741824 then V (V (GY.mk p.t2 (p.t8++[p.t26[p.t28.toNat]!]) p.t26 p.t27 (i64.wrap (p.t28+1)) p.b0 p.b1))else G else V (V (GY.mk p.t2 p.t8 p.t26 p.t27 (i64.wrap (p.t28+1)) p.b0 p.b1))else G else V (G)
def Tg:=bJ (Tk)
abbrev E79:=Int
def d79:Td 0 E79:= .c [] [6] (.r 0 0 (ec 6 aL en) sn (λz=>z.1.1) (λx=>((x,()),(()))))
def aFS:∀f∈([91,144]:aa Nat),bw (F79) f:=(az (fT (GK (FQ bS))) (az (fT (GK (FQ bS))) aF))
def m79(a0:aN)(a1:bV)(a2:aa aH):af E79:=
 match Xr a0 with|G=>G|V r5=>bif bif J (r5=0)then S else O then V (r5)else match Tg (GY.mk a2 [] a0.ai a0.ai.length 0 a0 a1)with|G=>G|V r6=>bif J (r6.t28<r6.t27)then if 0<=r6.t28/\r6.t28<r6.t26.length then bif J (r6.t26[r6.t28.toNat]!.bz=2)then if(r6.t8++[r6.t26[r6.t28.toNat]!]).length<=1073741824 then G else G else G else G else match MH (Lj.mk r6.t2 r6.t8 [] [1,3] (2:Int) 0 r6.b0 r6.b1)with|G=>G|V r7=>bif J (r7.t42<r7.t41)then if 0<=r7.t42/\r7.t42<r7.t40.length then if 129=129/\r7.t42.toNat<r7.t40.length then match HU (DN.mk r7.t2 r7.t8 r7.t9 r7.t40[r7.t42.toNat]! r7.t40 r7.t41 r7.t42 r7.b0.ai r7.b0.ai.length 0 r7.b0 r7.b1)with|G=>G|V r8=>bif J (r8.t49<r8.t48)then if 0<=r8.t49/\r8.t49<r8.t47.length then bif J (r8.t47[r8.t49.toNat]!.bz=r8.t13)then if(r8.t9++[r8.t47[r8.t49.toNat]!]).length<=1073741824 then G else G else G else G else G else G else G else bif bif J ((r7.b1.aU.length:Int)=(r7.t8.length:Int))then S else O then V 1 else match T5 (OA.mk r7.t2 r7.t9 r7.t8 r7.t8.length 0 r7.b1)with|G=>G|V r9=>bif J (r9.t71<r9.t70)then if 0<=r9.t71/\r9.t71<r9.t69.length then if 131=131/\r9.t71.toNat<r9.t69.length then if 0<=r9.t71/\r9.t71<r9.b0.aU.length then bif J (((r9.t2,(),(),(),r9.t70,r9.t71,()),r9.b0,r9.t9,r9.t69,()).snd.fst.aU[((r9.t2,(),(),(),r9.t70,r9.t71,()),r9.b0,r9.t9,r9.t69,()).fst.snd.snd.snd.snd.snd.fst.toNat]! <((r9.t2,(),(),(),r9.t70,r9.t71,()),r9.b0,r9.t9,r9.t69,()).snd.snd.snd.fst[((r9.t2,(),(),(),r9.t70,r9.t71,()),r9.b0,r9.t9,r9.t69,()).fst.snd.snd.snd.snd.snd.fst.toNat]!.ag)then V 3 else if 0<=r9.t71/\r9.t71<r9.b0.aU.length then bif J (((r9.t2,(),(),(),r9.t70,r9.t71,()),r9.b0,r9.t9,r9.t69,()).snd.snd.snd.fst[((r9.t2,(),(),(),r9.t70,r9.t71,()),r9.b0,r9.t9,r9.t69,()).fst.snd.snd.snd.snd.snd.fst.toNat]!.ah<((r9.t2,(),(),(),r9.t70,r9.t71,()),r9.b0,r9.t9,r9.t69,()).snd.fst.aU[((r9.t2,(),(),(),r9.t70,r9.t71,()),r9.b0,r9.t9,r9.t69,()).fst.snd.snd.snd.snd.snd.fst.toNat]!)then V 3 else G else G else G else G else G else bif bif J ((r9.t2.length:Int)=(r9.t9.length:Int))then S else O then V 2 else match T2 (Lc.mk r9.t2 r9.t9 r9.t9.length 0)with|G=>G|V r10=>bif J (r10.t102<r10.t101)then if 0<=r10.t102/\r10.t102<r10.t100.length then if 131=131/\r10.t102.toNat<r10.t100.length then match if 0<=r10.t102/\r10.t102<r10.t2.length then match tq r10.t2[r10.t102.toNat]! with|G=>G|V r11=>bif bif r11 then S else O then V O else if 0<=r10.t102/\r10.t102<r10.t2.length then match Jl r10.t2[r10.t102.toNat]! with|G=>G|V r12=>V (J (r12=0))else G else G with|G=>G|V r13=>bif r13 then V 1 else if 0<=r10.t102/\r10.t102<r10.t2.length then bif J (r10.t2[r10.t102.toNat]!.ag<r10.t100[r10.t102.toNat]!.ag)then V 3 else if 0<=r10.t102/\r10.t102<r10.t2.length then bif J (r10.t100[r10.t102.toNat]!.ah<r10.t2[r10.t102.toNat]!.ah)then V 3 else G else G else G else G else G else V 0
def e79:=eL w9 79 S (lc (qg 26) (lc (qg 29) (lc (ql 34) ln))) d79 (λg=>m79 g.1 g.2.1 g.t.1)
def apO:EO e79:=λh=>kL (F:=F79) (an:=(noTwo (noTwo (noTwo (.two (noTwo (X7.lp Tg .no)) (.two (noTwo (abC.lp MH akV)) (noTwo (.two (noTwo (aaW.lp T5 .no)) (noTwo (.two (noTwo (Zt.lp T2 anF)) .no)))))))))) (l:=[(aW f79 0,(X7.lp Tg .no)),(aW f79 1,(abC.lp MH akV)),(aW f79 2,(Y8.lp HU .no)),(aW f79 3,(aaW.lp T5 .no)),(aW f79 4,(Zt.lp T2 anF)),(.skip,(.rb [91,144] 120))]) func79 (kJ (Va (Qm aR))) (az (aO X7) (az (aO abC) (az (aO Y8) (az (aO aaW) (az (aO Zt) (az aFS aF)))))) h
def F20:aZ:=(e83 (e82 (e81 (e80 (e79 cZ)))))
def ash:aQ w9 F20:=(ar5 (Ka (OU (K5 (apO aR)))))
structure MT where
 t108:List dB
 (t109 t110:Int)
 b0:aN
 b1:bV
 b2:bQ
 b3:ax
 b4:Runner
def Y6:Td 0 MT:= .c [] [3,4,6,9,17,108,109,110] (.t (cA.c 4 3 [] 34) (.c [] [3,4,6,9,17,108,109,110] (.r 0 7 (ec 3 (qp 0 0) (ec 4 (qp 1 0) (ec 6 (qp 2 0) (ec 9 (qp 3 0) (ec 17 (qp 4 0) (ec 108 (ql 139) (ec 109 aL (ec 110 aL en)))))))) (sb 0 26 (lg 26) (sb 1 29 (lg 29) (sb 2 36 (bk (bk (bk (lc qn (bk (bk (bk (lc qn ln)))))))) (sb 3 128 (lc (qo 5) (bk (bk (bk (lc qn (bk (bk (bk ln)))))))) (sb 4 133 (lc (ql 131) (lc (ql 139) (lc (ql 166) (lc (qo 6) ln)))) (sr 5 34 (sr 6 34 sn))))))) (λz=>⟨z.1.q.2.1,z.1.q.t.1,z.1.q.t.2.1,z.2.1,z.t.1,(bQ.mk (aH.mk z.t.2.1.1 z.t.2.1.2.1 z.t.2.1.t.1) [] (aH.mk z.t.2.1.q.1 z.t.2.1.q.2.1 z.t.2.1.q.t.1) []),(ax.mk z.q.t.1 (aH.mk z.q.1.2.1 z.q.1.t.1 z.q.1.t.2.1) [] (aH.mk z.q.1.q.2.1 z.q.1.q.t.1 z.q.1.q.t.2.1)),(Runner.mk (aN.mk z.q.2.1.1 z.q.2.1.2.1 z.q.2.1.t.1) z.q.t.2.1)⟩) (λx=>(((),(),(),(),(),x.t108,x.t109,x.t110,()),(x.b0,x.b1,(x.b2.aB.ag,x.b2.aB.ah,x.b2.aB.aj,(),x.b2.aI.ag,x.b2.aI.ah,x.b2.aI.aj,(),()),((),x.b3.aB.ag,x.b3.aB.ah,x.b3.aB.aj,(),x.b3.aI.ag,x.b3.aI.ah,x.b3.aI.aj,()),(x.b4.fF.ai,x.b4.fF.ak,x.b4.fF.bI,(),()),x.b3.ai,x.b4.ak,()))))))
def UI(p:MT):af (af MT):=
 bif J (p.t110<p.t109)then if 0<=p.t110/\p.t110<p.t108.length then match Qv (ax.mk p.b3.ai p.b3.aB [] p.b3.aI) (au.mk p.t108[p.t110.toNat]!.aA.bF p.t108[p.t110.toNat]!.aA.fN p.t108[p.t110.toNat]!.aA.aq)with|G=>G|V r1=>match m81 r1 p.t108[p.t110.toNat]!.ag p.t108[p.t110.toNat]!.ah with|G=>G|V r2=>if(p.b4.ak++[r2.fst]).length<=1073741824 then V (V (MT.mk p.t108 p.t109 (i64.wrap (p.t110+1)) p.b0 p.b1 (bQ.mk p.b2.aB [] p.b2.aI []) (ax.mk p.b3.ai p.b3.aB [] p.b3.aI) (Runner.mk p.b4.fF (p.b4.ak++[r2.fst]))))else G else G else V (G)
def Ol:=bJ (UI)
structure Bp where
 t2:List aH
 (t10 t11 t12:Int)
 t47:List aX
 (t48 t49:Int)
 b0:aN
 b1:bV
 b2:bQ
 b3:ax
def aaq:Td 0 Bp:= .c [] [2,3,4,6,9,10,11,12,47,48,49] (.t (cA.c 3 0 [] 34) (.c [] [2,3,4,6,9,10,11,12,47,48,49] (.r 0 5 (ec 2 (ql 34) (ec 3 (qp 0 0) (ec 4 (qp 1 0) (ec 6 (qp 2 0) (ec 9 (qp 3 0) (ec 10 aL (ec 11 aL (ec 12 aL (ec 47 (ql 131) (ec 48 aL (ec 49 aL en))))))))))) (sb 0 26 (lg 26) (sb 1 29 (lg 29) (sb 2 36 (bk (bk (bk (lc qn (bk (bk (bk (lc qn ln)))))))) (sb 3 128 (lc (qo 4) (bk (bk (bk (lc qn (bk (bk (bk ln)))))))) (sr 4 34 sn))))) (λz=>⟨z.1.1,z.1.q.2.1,z.1.q.t.1,z.1.q.t.2.1,z.1.q.q.1,z.1.q.q.2.1,z.1.q.q.t.1,z.2.1,z.t.1,(bQ.mk (aH.mk z.t.2.1.1 z.t.2.1.2.1 z.t.2.1.t.1) [] (aH.mk z.t.2.1.q.1 z.t.2.1.q.2.1 z.t.2.1.q.t.1) []),(ax.mk z.q.2.1 (aH.mk z.q.1.2.1 z.q.1.t.1 z.q.1.t.2.1) [] (aH.mk z.q.1.q.2.1 z.q.1.q.t.1 z.q.1.q.t.2.1))⟩) (λx=>((x.t2,(),(),(),(),x.t10,x.t11,x.t12,x.t47,x.t48,x.t49,()),(x.b0,x.b1,(x.b2.aB.ag,x.b2.aB.ah,x.b2.aB.aj,(),x.b2.aI.ag,x.b2.aI.ah,x.b2.aI.aj,(),()),((),x.b3.aB.ag,x.b3.aB.ah,x.b3.aB.aj,(),x.b3.aI.ag,x.b3.aI.ah,x.b3.aI.aj,()),x.b3.ai,()))))))
def SU(p:Bp):af (af Bp):=
 bif J (p.t49<p.t48)then if 0<=p.t49/\p.t49<p.t47.length then bif J (p.t47[p.t49.toNat]!.bz=1)then if 0<=p.t10/\p.t10<p.t2.length then if(p.b3.ai++[p.t2[p.t10.toNat]!]).length<=1073741824 then V (V (Bp.mk p.t2 (i64.wrap (p.t10+1)) p.t11 p.t12 p.t47 p.t48 (i64.wrap (p.t49+1)) p.b0 p.b1 (bQ.mk p.b2.aB [] p.b2.aI []) (ax.mk (p.b3.ai++[p.t2[p.t10.toNat]!]) p.b3.aB [] p.b3.aI)))else G else G else bif J (p.t47[p.t49.toNat]!.bz=2)then if 0<=p.t11/\p.t11<p.b1.aU.length then if(p.b3.ai++[Un p.b1.aU[p.t11.toNat]!]).length<=1073741824 then V (V (Bp.mk p.t2 p.t10 (i64.wrap (p.t11+1)) p.t12 p.t47 p.t48 (i64.wrap (p.t49+1)) p.b0 p.b1 (bQ.mk p.b2.aB [] p.b2.aI []) (ax.mk (p.b3.ai++[Un p.b1.aU[p.t11.toNat]!]) p.b3.aB [] p.b3.aI)))else G else G else bif J (p.t47[p.t49.toNat]!.bz=3)then if 0<=p.t12/\p.t12<p.t2.length then if(p.b3.ai++[p.t2[p.t12.toNat]!]).length<=1073741824 then V (V (Bp.mk p.t2 p.t10 p.t11 (i64.wrap (p.t12+1)) p.t47 p.t48 (i64.wrap (p.t49+1)) p.b0 p.b1 (bQ.mk p.b2.aB [] p.b2.aI []) (ax.mk (p.b3.ai++[p.t2[p.t12.toNat]!]) p.b3.aB [] p.b3.aI)))else G else G else if(p.b3.ai++[Un p.t47[p.t49.toNat]!.eO]).length<=1073741824 then V (V (Bp.mk p.t2 p.t10 p.t11 p.t12 p.t47 p.t48 (i64.wrap (p.t49+1)) p.b0 p.b1 (bQ.mk p.b2.aB [] p.b2.aI []) (ax.mk (p.b3.ai++[Un p.t47[p.t49.toNat]!.eO]) p.b3.aB [] p.b3.aI)))else G else G else V (G)
def Uq:=bJ (SU)
structure HH where
 t2:List aH
 (t10 t11 t12:Int)
 t34:List aX
 (t35 t36:Int)
 b0:aN
 b1:bV
 b2:bQ
 b3:ax
def YI:Td 0 HH:= .c [] [2,3,4,6,9,10,11,12,34,35,36] (.r 0 4 (ec 2 (ql 34) (ec 3 (qp 0 0) (ec 4 (qp 1 0) (ec 6 (qp 2 0) (ec 9 (qp 3 0) (ec 10 aL (ec 11 aL (ec 12 aL (ec 34 (ql 131) (ec 35 aL (ec 36 aL en))))))))))) (sb 0 26 (lg 26) (sb 1 29 (lg 29) (sb 2 36 (bk (bk (bk (lc qn (bk (bk (bk (lc qn ln)))))))) (sb 3 128 (lc qn (bk (bk (bk (lc qn (bk (bk (bk ln)))))))) sn)))) (λz=>⟨z.1.1,z.1.q.2.1,z.1.q.t.1,z.1.q.t.2.1,z.1.q.q.1,z.1.q.q.2.1,z.1.q.q.t.1,z.2.1,z.t.1,(bQ.mk (aH.mk z.t.2.1.1 z.t.2.1.2.1 z.t.2.1.t.1) [] (aH.mk z.t.2.1.q.1 z.t.2.1.q.2.1 z.t.2.1.q.t.1) []),(ax.mk [] (aH.mk z.q.1.2.1 z.q.1.t.1 z.q.1.t.2.1) [] (aH.mk z.q.1.q.2.1 z.q.1.q.t.1 z.q.1.q.t.2.1))⟩) (λx=>((x.t2,(),(),(),(),x.t10,x.t11,x.t12,x.t34,x.t35,x.t36,()),(x.b0,x.b1,(x.b2.aB.ag,x.b2.aB.ah,x.b2.aB.aj,(),x.b2.aI.ag,x.b2.aI.ah,x.b2.aI.aj,(),()),((),x.b3.aB.ag,x.b3.aB.ah,x.b3.aB.aj,(),x.b3.aI.ag,x.b3.aI.ah,x.b3.aI.aj,()),()))))
def Vb(p:HH):af (af HH):=
 bif J (p.t36<p.t35)then if 0<=p.t36/\p.t36<p.t34.length then bif J (p.t34[p.t36.toNat]!.bz=1)then V (V (HH.mk p.t2 p.t10 p.t11 (i64.wrap (p.t12+1)) p.t34 p.t35 (i64.wrap (p.t36+1)) p.b0 p.b1 (bQ.mk p.b2.aB [] p.b2.aI []) (ax.mk [] p.b3.aB [] p.b3.aI)))else V (V (HH.mk p.t2 p.t10 p.t11 p.t12 p.t34 p.t35 (i64.wrap (p.t36+1)) p.b0 p.b1 (bQ.mk p.b2.aB [] p.b2.aI []) (ax.mk [] p.b3.aB [] p.b3.aI)))else G else V (G)
def T4:=bJ (Vb)
abbrev E20:=bQ×Int
def d20:Td 0 E20:= .c [] [6,7] (.r 0 1 (ec 6 (qp 0 0) (ec 7 aL en)) (sb 0 36 (lg 36) sn) (λz=>(z.2.1,z.1.2.1)) (λx=>(((),x.2,()),(x.1,()))))
def A20:=(lc (qg 26) (lc (qg 29) (lc (ql 34) ln)))
def awP:An:=(noTwo (noTwo (noTwo (noTwo (.two (noTwo (YI.lp T4 .no)) (.two (noTwo (aaq.lp Uq .no)) (noTwo (.two (noTwo (Y6.lp Ol .no)) .no))))))))
def aDY:cR w9 (F20) 0 300 20 (awP):=bA (l:=[(aW f20 0,(YI.lp T4 .no)),(aW f20 1,(aaq.lp Uq .no)),(aW f20 2,(Y6.lp Ol .no))]) func20 (aV (by kernel_rfl)) (by kernel_rfl) (az (aO YI) (az (aO aaq) (az (aO Y6) aF)))
def m20(a0:aN)(a1:bV)(a2:aa aH):af E20:=
 match m79 a0 a1 a2 with|G=>G|V r3=>bif bif J (r3=0)then S else O then V ((bQ.mk (aH.mk 0 0 0) [] (aH.mk 0 0 0) [],r3))else match T4 (HH.mk a2 0 0 0 a0.ai a0.ai.length 0 a0 a1 (bQ.mk (aH.mk 0 0 0) [] (aH.mk 0 0 0) []) (ax.mk [] (Un 0) [] (Un 0)))with|G=>G|V r4=>bif J (r4.t36<r4.t35)then if 0<=r4.t36/\r4.t36<r4.t34.length then bif J (r4.t34[r4.t36.toNat]!.bz=1)then G else G else G else match Uq (Bp.mk r4.t2 r4.t10 r4.t11 r4.t12 r4.b0.ai r4.b0.ai.length 0 r4.b0 r4.b1 (bQ.mk r4.b2.aB [] r4.b2.aI []) (ax.mk [] r4.b3.aB [] r4.b3.aI))with|G=>G|V r5=>bif J (r5.t49<r5.t48)then if 0<=r5.t49/\r5.t49<r5.t47.length then bif J (r5.t47[r5.t49.toNat]!.bz=1)then if 0<=r5.t10/\r5.t10<r5.t2.length then if(r5.b3.ai++[r5.t2[r5.t10.toNat]!]).length<=1073741824 then G else G else G else bif J (r5.t47[r5.t49.toNat]!.bz=2)then if 0<=r5.t11/\r5.t11<r5.b1.aU.length then if(r5.b3.ai++[Un r5.b1.aU[r5.t11.toNat]!]).length<=1073741824 then G else G else G else bif J (r5.t47[r5.t49.toNat]!.bz=3)then if 0<=r5.t12/\r5.t12<r5.t2.length then if(r5.b3.ai++[r5.t2[r5.t12.toNat]!]).length<=1073741824 then G else G else G else if(r5.b3.ai++[Un r5.t47[r5.t49.toNat]!.eO]).length<=1073741824 then G else G else G else match Ol (MT.mk r5.b0.ak r5.b0.ak.length 0 r5.b0 r5.b1 (bQ.mk r5.b2.aB [] r5.b2.aI []) (ax.mk r5.b3.ai r5.b3.aB [] r5.b3.aI) (Runner.mk r5.b0 []))with|G=>G|V r6=>bif J (r6.t110<r6.t109)then if 0<=r6.t110/\r6.t110<r6.t108.length then match Qv (ax.mk r6.b3.ai r6.b3.aB [] r6.b3.aI) (au.mk r6.t108[r6.t110.toNat]!.aA.bF r6.t108[r6.t110.toNat]!.aA.fN r6.t108[r6.t110.toNat]!.aA.aq)with|G=>G|V r7=>match m81 r7 r6.t108[r6.t110.toNat]!.ag r6.t108[r6.t110.toNat]!.ah with|G=>G|V r8=>if(r6.b4.ak++[r8.fst]).length<=1073741824 then G else G else G else match r83 r6.b4 r6.b0.bI (ax.mk r6.b3.ai r6.b3.aB [] r6.b3.aI)with|G=>G|V r9=>bif bif r6.b1.eH then S else O then V ((bQ.mk r9.aB r9.aC (Un 0) r9.ai,0))else V (bQ.mk r9.aB r9.aC r9.aI r9.ai,0)
def c20(a0:aN)(a1:bV)(a2:aa aH):bL w9 (F20) 300 (awP) 20 (A20.c (a0,a1,a2,())) [] 0 d20.rd=m20 a0 a1 a2:=by kernel_rfl
def e20:aZ->aZ:=eZ w9 20 A20 d20 (λg=>m20 g.1 g.2.1 g.t.1)
def Y1{F:aZ}(h:aQ w9 F):aQ w9 (e20 F):=oK (cF ash aDY (λ_=>by kernel_rfl) (λ_=>by kernel_rfl) λg=>c20 g.1 g.2.1 g.t.1) ⟨_,func20,by kernel_rfl,by kernel_rfl⟩ (λ_=>by kernel_rfl) h
def YL{F:aZ}{f:Nat}(hne:zf f 20=S)(h:bw F f):bw (e20 F) f:=MW hne h
def F93:aZ:=cZ
abbrev E93:=Int
def d93:Td 0 E93:= .c [] [4] (.r 0 0 (ec 4 aL en) sn (λz=>z.1.1) (λx=>((x,()),(()))))
def aFV:∀f∈([]:aa Nat),bw (F93) f:=aF
def m93(a0:Int)(a1:Int):af E93:=
 match bif J (0<a1)then if¬a1=0then V (J (i64.wrap ((1099511627776:Int).tdiv a1)<a0))else G else V S with|G=>G|V r1=>bif r1 then V 1099511627776 else V (i64.wrap (a0*a1))
def e93:=eL w9 93 S (bk (bk ln)) d93 (λg=>m93 g.1 g.2.1)
def asX:EO e93:=λh=>kL (F:=F93) (an:=(noTwo (.two (.two (.rb [] 12) .no) .no))) (l:=[(.skip,(.rb [] 12))]) func93 aR (az aFV aF) h
structure NK where
 (t10 t13:Int)
 t58:List aH
 (t59 t60:Int)
def aaY:Td 0 NK:= .c [] [10,13,58,59,60] (.r 0 0 (ec 10 aL (ec 13 aL (ec 58 (ql 34) (ec 59 aL (ec 60 aL en))))) sn (λz=>⟨z.1.1,z.1.2.1,z.1.t.1,z.1.t.2.1,z.1.q.1⟩) (λx=>((x.t10,x.t13,x.t58,x.t59,x.t60,()),(()))))
def TL(p:NK):af (af NK):=
 bif J (p.t60<p.t59)then if 0<=p.t60/\p.t60<p.t58.length then match Jl p.t58[p.t60.toNat]! with|G=>G|V r6=>match m93 p.t13 r6 with|G=>G|V r7=>V (V (NK.mk p.t10 r7 p.t58 p.t59 (i64.wrap (p.t60+1))))else G else V (G)
def TA:=bJ (TL)
structure BF where
 t2:List aH
 (t10 t11 t32 t33:Int)
 b0:bQ
def Zx:Td 0 BF:= .c [] [2,8,10,11,32,33] (.r 0 1 (ec 2 (ql 34) (ec 8 (qp 0 0) (ec 10 aL (ec 11 aL (ec 32 aL (ec 33 aL en)))))) (sb 0 36 (lg 36) sn) (λz=>⟨z.1.1,z.1.t.1,z.1.t.2.1,z.1.q.1,z.1.q.2.1,z.2.1⟩) (λx=>((x.t2,(),x.t10,x.t11,x.t32,x.t33,()),(x.b0,()))))
def SR(p:BF):af (af BF):=
 bif J (p.t33<p.t32)then match m92 p.b0.aB p.t33 with|G=>G|V r1=>bif r1 then bif J (p.t33<p.b0.aC.length)then if 0<=p.t33/\p.t33<p.b0.aC.length then match Jl p.b0.aC[p.t33.toNat]! with|G=>G|V r2=>match m93 p.t11 r2 with|G=>G|V r3=>V (V (BF.mk p.t2 (if 1099511627776<i64.wrap (p.t10+p.t11)then 1099511627776 else i64.wrap (p.t10+p.t11)) r3 p.t32 (i64.wrap (p.t33+1)) p.b0))else G else V (V (BF.mk p.t2 (if 1099511627776<i64.wrap (p.t10+p.t11)then 1099511627776 else i64.wrap (p.t10+p.t11)) p.t11 p.t32 (i64.wrap (p.t33+1)) p.b0))else bif J (p.t33<p.b0.aC.length)then if 0<=p.t33/\p.t33<p.b0.aC.length then match Jl p.b0.aC[p.t33.toNat]! with|G=>G|V r4=>match m93 p.t11 r4 with|G=>G|V r5=>V (V (BF.mk p.t2 p.t10 r5 p.t32 (i64.wrap (p.t33+1)) p.b0))else G else V (V (BF.mk p.t2 p.t10 p.t11 p.t32 (i64.wrap (p.t33+1)) p.b0))else V (G)
def Tq:=bJ (SR)
abbrev E25:=Int×Int
def d25:Td 0 E25:= .c [] [6,7] (.r 0 0 (ec 6 aL (ec 7 aL en)) sn (λz=>(z.1.1,z.1.2.1)) (λx=>((x.1,x.2,()),(()))))
def A25:=(lc (qg 26) (lc (qg 29) (lc (ql 34) ln)))
def Qr(a0:aN)(a1:bV)(a2:aa aH):af E25:=
 match m20 a0 a1 a2 with|G=>G|V r8=>bif bif J (r8.snd=0)then S else O then V (0,r8.snd)else match Jl r8.fst.aI with|G=>G|V r9=>match Tq (BF.mk a2 0 r9 (i64.wrap ((r8.fst.aC.length:Int)+1)) 0 r8.fst)with|G=>G|V r10=>bif J (r10.t33<r10.t32)then match m92 r10.b0.aB r10.t33 with|G=>G|V r11=>bif r11 then bif J (r10.t33<r10.b0.aC.length)then if 0<=r10.t33/\r10.t33<r10.b0.aC.length then match Jl r10.b0.aC[r10.t33.toNat]! with|G=>G|V r12=>match m93 r10.t11 r12 with|G=>G|V r13=>G else G else G else bif J (r10.t33<r10.b0.aC.length)then if 0<=r10.t33/\r10.t33<r10.b0.aC.length then match Jl r10.b0.aC[r10.t33.toNat]! with|G=>G|V r14=>match m93 r10.t11 r14 with|G=>G|V r15=>G else G else G else match TA (NK.mk r10.t10 1 r10.t2 r10.t2.length 0)with|G=>G|V r16=>bif J (r16.t60<r16.t59)then if 0<=r16.t60/\r16.t60<r16.t58.length then match Jl r16.t58[r16.t60.toNat]! with|G=>G|V r17=>match m93 r16.t13 r17 with|G=>G|V r18=>G else G else V (if r16.t13<r16.t10 then r16.t13 else r16.t10,0)
def e25:=eL w9 25 S A25 d25 (λg=>Qr g.1 g.2.1 g.t.1)
def mz:EO e25:=λh=>kL (an:=(noTwo (noTwo (noTwo (noTwo (.two (noTwo (Zx.lp Tq .no)) (noTwo (.two (noTwo (aaY.lp TA .no)) .no)))))))) (l:=[(aW f25 0,(Zx.lp Tq .no)),(aW f25 1,(aaY.lp TA .no))]) func25 (asX (Qo (Qm (Y1 aR)))) (az (aO Zx) (az (aO aaY) aF)) h
def F26:aZ:=(e91 (e20 cZ))
structure Lr where
 t12:Bool
 t41:List aH
 (t42 t43:Int)
 (b0 b1:aD)
def abn:Td 0 Lr:= .c [] [6,11,12,41,42,43] (.t (cA.c 1 0 [] 3) (.c [] [6,11,12,41,42,43] (.r 0 3 (ec 6 (qp 0 0) (ec 11 (qp 1 0) (ec 12 qb (ec 41 (ql 34) (ec 42 aL (ec 43 aL en)))))) (sb 0 47 (lc qn (bk ln)) (sb 1 47 (lc (qo 2) (bk ln)) (sr 2 3 sn))) (λz=>⟨z.1.t.1,z.1.t.2.1,z.1.q.1,z.1.q.2.1,(aD.mk [] z.2.1.2.1),(aD.mk z.t.2.1 z.t.1.2.1)⟩) (λx=>(((),(),x.t12,x.t41,x.t42,x.t43,()),(((),x.b0.aI,()),((),x.b1.aI,()),x.b1.aY,()))))))
def U9(p:Lr):af (af Lr):=
 bif J (p.t43<p.t42)then if 0<=p.t43/\p.t43<p.t41.length then match bif p.t12 then match Jl p.t41[p.t43.toNat]! with|G=>G|V r1=>V (J (r1=1))else V S with|G=>G|V r2=>if(p.b1.aY++[p.t41[p.t43.toNat]!.ag]).length<=1073741824 then V (V (Lr.mk r2 p.t41 p.t42 (i64.wrap (p.t43+1)) (aD.mk [] p.b0.aI) (aD.mk (p.b1.aY++[p.t41[p.t43.toNat]!.ag]) p.b1.aI)))else G else G else V (G)
def alT:An:=(noTwo (noTwo (.two (noTwo (.two (.rb [91] 12) .no)) .no)))
def UT:=bJ (U9)
abbrev E26:=aD×Bool×Int
def d26:Td 0 E26:= .c [] [6,7,8] (.t (cA.c 0 0 [] 3) (.c [] [6,7,8] (.r 0 2 (ec 6 (qp 0 0) (ec 7 qb (ec 8 aL en))) (sb 0 47 (lc (qo 1) (bk ln)) (sr 1 3 sn)) (λz=>((aD.mk z.t.1 z.2.1.2.1),z.1.2.1,z.1.t.1)) (λx=>(((),x.2.1,x.t,()),(((),x.1.aI,()),x.1.aY,()))))))
def A26:=(lc (qg 26) (lc (qg 29) (lc (ql 34) ln)))
def axF:∀f∈([91]:aa Nat),bw (F26) f:=(az (FQ (YL (f:=91) rfl bS)) aF)
def Wb(a0:aN)(a1:bV)(a2:aa aH):af E26:=
 match m20 a0 a1 a2 with|G=>G|V r3=>bif bif J (r3.snd=0)then S else O then V ((aD.mk [] (0),S,r3.snd))else match match Jl r3.fst.aB with|G=>G|V r4=>bif J (r4=1)then match Jl r3.fst.aI with|G=>G|V r5=>V (J (r5=1))else V S with|G=>G|V r6=>match UT (Lr.mk r6 r3.fst.aC r3.fst.aC.length 0 (aD.mk [] (0)) (aD.mk [] r3.fst.aI.ag))with|G=>G|V r7=>bif J (r7.t43<r7.t42)then if 0<=r7.t43/\r7.t43<r7.t41.length then match bif r7.t12 then match Jl r7.t41[r7.t43.toNat]! with|G=>G|V r8=>V (J (r8=1))else V S with|G=>G|V r9=>if(r7.b1.aY++[r7.t41[r7.t43.toNat]!.ag]).length<=1073741824 then G else G else G else bif bif r7.t12 then S else O then V ((aD.mk [] (0),S,0))else V (r7.b1,O,0)
def e26:=eL w9 26 S A26 d26 (λg=>Wb g.1 g.2.1 g.t.1)
def mc:EO e26:=λh=>kL (F:=F26) (an:=(noTwo (noTwo (noTwo (noTwo (.two (.rb [91] 12) (.two (noTwo (abn.lp UT alT)) .no))))))) (l:=[(.skip,(.rb [91] 12)),(aW f26 0,(abn.lp UT alT)),(.skip,(.rb [91] 12))]) func26 (Qm (Y1 aR)) (az axF (az (aO abn) (az axF aF))) h
def F21:aZ:=(e84 (e78 (e43 cZ)))
structure L5 where
 t2:List aH
 t95:List aX
 (t96 t97:Int)
def acf:Td 0 L5:= .c [] [2,95,96,97] (.r 0 1 (ec 2 (ql 34) (ec 95 (qo 0) (ec 96 aL (ec 97 aL en)))) (sr 0 131 sn) (λz=>⟨z.1.1,z.2.1,z.1.t.1,z.1.t.2.1⟩) (λx=>((x.t2,(),x.t96,x.t97,()),(x.t95,()))))
def Lm(p:L5):af (af L5):=
 bif J (p.t97<p.t96)then if 0<=p.t97/\p.t97<p.t95.length then if 131=131/\p.t97.toNat<p.t95.length then match if 0<=p.t97/\p.t97<p.t2.length then match Xg p.t2[p.t97.toNat]! with|G=>G|V r4=>bif bif r4 then S else O then V O else if 0<=p.t97/\p.t97<p.t2.length then match Gb p.t2[p.t97.toNat]! with|G=>G|V r5=>V (J (r5=0))else G else G with|G=>G|V r6=>bif r6 then V (G)else if 0<=p.t97/\p.t97<p.t2.length then bif J (p.t2[p.t97.toNat]!.ag<p.t95[p.t97.toNat]!.ag)then V (G)else if 0<=p.t97/\p.t97<p.t2.length then bif J (p.t95[p.t97.toNat]!.ah<p.t2[p.t97.toNat]!.ah)then V (G)else V (V (L5.mk p.t2 p.t95 p.t96 (i64.wrap (p.t97+1))))else G else G else G else G else V (G)
def anG:An:=(noTwo (noTwo (.two (noTwo (.two (.two (.rb [43,84] 115) .no) .no)) .no)))
def Ud:=bJ (Lm)
structure LM where
 t2:List aH
 (t9 t64:List aX)
 (t65 t66:Int)
 b0:bV
def aay:Td 0 LM:= .c [] [2,4,9,64,65,66] (.r 0 3 (ec 2 (ql 34) (ec 4 (qp 0 0) (ec 9 (qo 1) (ec 64 (qo 2) (ec 65 aL (ec 66 aL en)))))) (sb 0 29 (lg 29) (sr 1 131 (sr 2 131 sn))) (λz=>⟨z.1.1,z.t.1,z.t.2.1,z.1.q.1,z.1.q.2.1,z.2.1⟩) (λx=>((x.t2,(),(),(),x.t65,x.t66,()),(x.b0,x.t9,x.t64,()))))
def LO(p:LM):af (af LM):=
 bif J (p.t66<p.t65)then if 0<=p.t66/\p.t66<p.t64.length then if 131=131/\p.t66.toNat<p.t64.length then if 0<=p.t66/\p.t66<p.b0.aU.length then bif J (((p.t2,(),(),(),p.t65,p.t66,()),p.b0,p.t9,p.t64,()).snd.fst.aU[((p.t2,(),(),(),p.t65,p.t66,()),p.b0,p.t9,p.t64,()).fst.snd.snd.snd.snd.snd.fst.toNat]! <((p.t2,(),(),(),p.t65,p.t66,()),p.b0,p.t9,p.t64,()).snd.snd.snd.fst[((p.t2,(),(),(),p.t65,p.t66,()),p.b0,p.t9,p.t64,()).fst.snd.snd.snd.snd.snd.fst.toNat]!.ag)then V (G)else if 0<=p.t66/\p.t66<p.b0.aU.length then bif J (((p.t2,(),(),(),p.t65,p.t66,()),p.b0,p.t9,p.t64,()).snd.snd.snd.fst[((p.t2,(),(),(),p.t65,p.t66,()),p.b0,p.t9,p.t64,()).fst.snd.snd.snd.snd.snd.fst.toNat]!.ah<((p.t2,(),(),(),p.t65,p.t66,()),p.b0,p.t9,p.t64,()).snd.fst.aU[((p.t2,(),(),(),p.t65,p.t66,()),p.b0,p.t9,p.t64,()).fst.snd.snd.snd.snd.snd.fst.toNat]!)then V (G)else V (V (LM.mk p.t2 p.t9 p.t64 p.t65 (i64.wrap (p.t66+1)) p.b0))else G else G else G else G else V (G)
def SA:=bJ (LO)
structure Bq where
 t2:List aH
 (t8 t9:List aX)
 t11:Int
 t23:List Int
 (t24 t25:Int)
 t30:List aX
 (t31 t32:Int)
 b0:aN
 b1:bV
def ach:Td 0 Bq:= .c [] [2,3,4,8,9,11,23,24,25,30,31,32] (.r 0 5 (ec 2 (ql 34) (ec 3 (qp 0 0) (ec 4 (qp 1 0) (ec 8 (qo 2) (ec 9 (qo 3) (ec 11 aL (ec 23 (qo 4) (ec 24 aL (ec 25 aL (ec 30 (ql 131) (ec 31 aL (ec 32 aL en)))))))))))) (sb 0 26 (lg 26) (sb 1 29 (lg 29) (sr 2 131 (sr 3 131 (sr 4 129 sn))))) (λz=>⟨z.1.1,z.t.2.1,z.q.1,z.1.q.2.1,z.q.2.1,z.1.q.t.2.1,z.1.q.q.1,z.1.q.q.2.1,z.1.q.q.t.1,z.1.q.q.t.2.1,z.2.1,z.t.1⟩) (λx=>((x.t2,(),(),(),(),x.t11,(),x.t24,x.t25,x.t30,x.t31,x.t32,()),(x.b0,x.b1,x.t8,x.t9,x.t23,()))))
def UZ(p:Bq):af (af Bq):=
 bif J (p.t32<p.t31)then if 0<=p.t32/\p.t32<p.t30.length then match bif J (p.t30[p.t32.toNat]!.bz=p.t11)then V (J (p.t11=2))else V S with|G=>G|V r3=>bif r3 then if(p.t8++[p.t30[p.t32.toNat]!]).length<=1073741824 then V (V (Bq.mk p.t2 (p.t8++[p.t30[p.t32.toNat]!]) p.t9 p.t11 p.t23 p.t24 p.t25 p.t30 p.t31 (i64.wrap (p.t32+1)) p.b0 p.b1))else G else bif J (p.t30[p.t32.toNat]!.bz=p.t11)then if(p.t9++[p.t30[p.t32.toNat]!]).length<=1073741824 then V (V (Bq.mk p.t2 p.t8 (p.t9++[p.t30[p.t32.toNat]!]) p.t11 p.t23 p.t24 p.t25 p.t30 p.t31 (i64.wrap (p.t32+1)) p.b0 p.b1))else G else V (V (Bq.mk p.t2 p.t8 p.t9 p.t11 p.t23 p.t24 p.t25 p.t30 p.t31 (i64.wrap (p.t32+1)) p.b0 p.b1))else G else V (G)
def amv:An:=(noTwo (noTwo (.two (noTwo (.two (.rb [43,84] 43) .no)) .no)))
def NF:=bJ (UZ)
structure MM where
 t2:List aH
 (t8 t9:List aX)
 t23:List Int
 (t24 t25:Int)
 b0:aN
 b1:bV
def abk:Td 0 MM:= .c [] [2,3,4,8,9,23,24,25] (.t (cA.s 8 [] 131) (.t (cA.s 9 [] 131) (.c [] [2,3,4,8,9,23,24,25] (.r 0 5 (ec 2 (ql 34) (ec 3 (qp 0 0) (ec 4 (qp 1 0) (ec 8 (qo 2) (ec 9 (qo 3) (ec 23 (qo 4) (ec 24 aL (ec 25 aL en)))))))) (sb 0 26 (lg 26) (sb 1 29 (lg 29) (sr 2 131 (sr 3 131 (sr 4 129 sn))))) (λz=>⟨z.1.1,z.t.2.1,z.q.1,z.q.2.1,z.1.q.t.1,z.1.q.t.2.1,z.2.1,z.t.1⟩) (λx=>((x.t2,(),(),(),(),(),x.t24,x.t25,()),(x.b0,x.b1,x.t8,x.t9,x.t23,())))))))
def MD(p:MM):af (af MM):=
 bif J (p.t25<p.t24)then if 0<=p.t25/\p.t25<p.t23.length then if 129=129/\p.t25.toNat<p.t23.length then match NF (Bq.mk p.t2 p.t8 p.t9 p.t23[p.t25.toNat]! p.t23 p.t24 p.t25 p.b0.ai p.b0.ai.length 0 p.b0 p.b1)with|G=>G|V r1=>bif J (r1.t32<r1.t31)then if 0<=r1.t32/\r1.t32<r1.t30.length then match bif J (r1.t30[r1.t32.toNat]!.bz=r1.t11)then V (J (r1.t11=2))else V S with|G=>G|V r2=>bif r2 then if(r1.t8++[r1.t30[r1.t32.toNat]!]).length<=1073741824 then G else G else bif J (r1.t30[r1.t32.toNat]!.bz=r1.t11)then if(r1.t9++[r1.t30[r1.t32.toNat]!]).length<=1073741824 then G else G else G else G else V (V (MM.mk r1.t2 r1.t8 r1.t9 r1.t23 r1.t24 (i64.wrap (r1.t25+1)) r1.b0 r1.b1))else G else G else V (G)
def akY:An:=(noTwo (noTwo (.two (noTwo (noTwo (ach.lp NF amv))) .no)))
def Og:=bJ (MD)
abbrev E21:=Int
def d21:Td 0 E21:= .c [] [6] (.r 0 0 (ec 6 aL en) sn (λz=>z.1.1) (λx=>((x,()),(()))))
def aAU:∀f∈([43,84]:aa Nat),bw (F21) f:=(az (uN (uh (Lw bS))) (az (uN (uh (Lw bS))) aF))
def m21(a0:aN)(a1:bV)(a2:aa aH):af E21:=
 match m78 a0 with|G=>G|V r7=>bif bif J (r7=0)then S else O then V (r7)else match Og (MM.mk a2 [] [] [1,3,2] (3:Int) 0 a0 a1)with|G=>G|V r8=>bif J (r8.t25<r8.t24)then if 0<=r8.t25/\r8.t25<r8.t23.length then if 129=129/\r8.t25.toNat<r8.t23.length then match NF (Bq.mk r8.t2 r8.t8 r8.t9 r8.t23[r8.t25.toNat]! r8.t23 r8.t24 r8.t25 r8.b0.ai r8.b0.ai.length 0 r8.b0 r8.b1)with|G=>G|V r9=>bif J (r9.t32<r9.t31)then if 0<=r9.t32/\r9.t32<r9.t30.length then match bif J (r9.t30[r9.t32.toNat]!.bz=r9.t11)then V (J (r9.t11=2))else V S with|G=>G|V r10=>bif r10 then if(r9.t8++[r9.t30[r9.t32.toNat]!]).length<=1073741824 then G else G else bif J (r9.t30[r9.t32.toNat]!.bz=r9.t11)then if(r9.t9++[r9.t30[r9.t32.toNat]!]).length<=1073741824 then G else G else G else G else G else G else G else bif bif J ((r8.b1.aU.length:Int)=(r8.t8.length:Int))then S else O then V 1 else match SA (LM.mk r8.t2 r8.t9 r8.t8 r8.t8.length 0 r8.b1)with|G=>G|V r11=>bif J (r11.t66<r11.t65)then if 0<=r11.t66/\r11.t66<r11.t64.length then if 131=131/\r11.t66.toNat<r11.t64.length then if 0<=r11.t66/\r11.t66<r11.b0.aU.length then bif J (((r11.t2,(),(),(),r11.t65,r11.t66,()),r11.b0,r11.t9,r11.t64,()).snd.fst.aU[((r11.t2,(),(),(),r11.t65,r11.t66,()),r11.b0,r11.t9,r11.t64,()).fst.snd.snd.snd.snd.snd.fst.toNat]! <((r11.t2,(),(),(),r11.t65,r11.t66,()),r11.b0,r11.t9,r11.t64,()).snd.snd.snd.fst[((r11.t2,(),(),(),r11.t65,r11.t66,()),r11.b0,r11.t9,r11.t64,()).fst.snd.snd.snd.snd.snd.fst.toNat]!.ag)then V 3 else if 0<=r11.t66/\r11.t66<r11.b0.aU.length then bif J (((r11.t2,(),(),(),r11.t65,r11.t66,()),r11.b0,r11.t9,r11.t64,()).snd.snd.snd.fst[((r11.t2,(),(),(),r11.t65,r11.t66,()),r11.b0,r11.t9,r11.t64,()).fst.snd.snd.snd.snd.snd.fst.toNat]!.ah<((r11.t2,(),(),(),r11.t65,r11.t66,()),r11.b0,r11.t9,r11.t64,()).snd.fst.aU[((r11.t2,(),(),(),r11.t65,r11.t66,()),r11.b0,r11.t9,r11.t64,()).fst.snd.snd.snd.snd.snd.fst.toNat]!)then V 3 else G else G else G else G else G else bif bif J ((r11.t2.length:Int)=(r11.t9.length:Int))then S else O then V 2 else match Ud (L5.mk r11.t2 r11.t9 r11.t9.length 0)with|G=>G|V r12=>bif J (r12.t97<r12.t96)then if 0<=r12.t97/\r12.t97<r12.t95.length then if 131=131/\r12.t97.toNat<r12.t95.length then match if 0<=r12.t97/\r12.t97<r12.t2.length then match Xg r12.t2[r12.t97.toNat]! with|G=>G|V r13=>bif bif r13 then S else O then V O else if 0<=r12.t97/\r12.t97<r12.t2.length then match Gb r12.t2[r12.t97.toNat]! with|G=>G|V r14=>V (J (r14=0))else G else G with|G=>G|V r15=>bif r15 then V 1 else if 0<=r12.t97/\r12.t97<r12.t2.length then bif J (r12.t2[r12.t97.toNat]!.ag<r12.t95[r12.t97.toNat]!.ag)then V 3 else if 0<=r12.t97/\r12.t97<r12.t2.length then bif J (r12.t95[r12.t97.toNat]!.ah<r12.t2[r12.t97.toNat]!.ah)then V 3 else G else G else G else G else G else V 0
def e21:=eL w9 21 S (lc (qg 26) (lc (qg 29) (lc (ql 34) ln))) d21 (λg=>m21 g.1 g.2.1 g.t.1)
def aoq:EO e21:=λh=>kL (F:=F21) (an:=(noTwo (noTwo (noTwo (.two (noTwo (abk.lp Og akY)) (noTwo (.two (noTwo (aay.lp SA .no)) (noTwo (.two (noTwo (acf.lp Ud anG)) .no))))))))) (l:=[(aW f21 0,(abk.lp Og akY)),(aW f21 1,(ach.lp NF amv)),(.skip,(.rb [43,84] 43)),(aW f21 2,(aay.lp SA .no)),(aW f21 3,(acf.lp Ud anG)),(.skip,(.rb [43,84] 115))]) func21 (abO (Y0 (aom aR))) (az (aO abk) (az (aO ach) (az aAU (az (aO aay) (az (aO acf) (az aAU aF)))))) h
structure Di where
 t2:List aH
 (t11 t12 t13:Int)
 t33:List aX
 (t34 t35:Int)
 b0:bV
 (b1 b2:aK)
def ayw(p:Di):af (af Di):=
 bif J (p.t35<p.t34)then if 0<=p.t35/\p.t35<p.t33.length then bif J (p.t33[p.t35.toNat]!.bz=1)then if 0<=p.t11/\p.t11<p.t2.length then if(p.b2.ai++[p.t2[p.t11.toNat]!]).length<=1073741824 then V (V (Di.mk p.t2 (i64.wrap (p.t11+1)) p.t12 p.t13 p.t33 p.t34 (i64.wrap (p.t35+1)) p.b0 (aK.mk [] p.b1.aB [] p.b1.aI) (aK.mk (p.b2.ai++[p.t2[p.t11.toNat]!]) p.b2.aB [] p.b2.aI)))else G else G else bif J (p.t33[p.t35.toNat]!.bz=3)then if 0<=p.t12/\p.t12<p.t2.length then if(p.b2.ai++[p.t2[p.t12.toNat]!]).length<=1073741824 then V (V (Di.mk p.t2 p.t11 (i64.wrap (p.t12+1)) p.t13 p.t33 p.t34 (i64.wrap (p.t35+1)) p.b0 (aK.mk [] p.b1.aB [] p.b1.aI) (aK.mk (p.b2.ai++[p.t2[p.t12.toNat]!]) p.b2.aB [] p.b2.aI)))else G else G else bif J (p.t33[p.t35.toNat]!.bz=2)then if 0<=p.t13/\p.t13<p.b0.aU.length then if(p.b2.ai++[m36 p.b0.aU[p.t13.toNat]!]).length<=1073741824 then V (V (Di.mk p.t2 p.t11 p.t12 (i64.wrap (p.t13+1)) p.t33 p.t34 (i64.wrap (p.t35+1)) p.b0 (aK.mk [] p.b1.aB [] p.b1.aI) (aK.mk (p.b2.ai++[m36 p.b0.aU[p.t13.toNat]!]) p.b2.aB [] p.b2.aI)))else G else G else if(p.b2.ai++[m36 p.t33[p.t35.toNat]!.eO]).length<=1073741824 then V (V (Di.mk p.t2 p.t11 p.t12 p.t13 p.t33 p.t34 (i64.wrap (p.t35+1)) p.b0 (aK.mk [] p.b1.aB [] p.b1.aI) (aK.mk (p.b2.ai++[m36 p.t33[p.t35.toNat]!.eO]) p.b2.aB [] p.b2.aI)))else G else G else V (G)
def ayR:=bJ (ayw)
structure Ot where
 t2:List aH
 t8:Int
 t19:List aX
 (t20 t21:Int)
 b0:aN
 b1:bV
 (b2 b3:aK)
def azO(p:Ot):af (af Ot):=
 bif J (p.t21<p.t20)then if 0<=p.t21/\p.t21<p.t19.length then bif J (p.t19[p.t21.toNat]!.bz=1)then V (V (Ot.mk p.t2 (i64.wrap (p.t8+1)) p.t19 p.t20 (i64.wrap (p.t21+1)) p.b0 p.b1 (aK.mk [] p.b2.aB [] p.b2.aI) (aK.mk [] p.b3.aB [] p.b3.aI)))else V (V (Ot.mk p.t2 p.t8 p.t19 p.t20 (i64.wrap (p.t21+1)) p.b0 p.b1 (aK.mk [] p.b2.aB [] p.b2.aI) (aK.mk [] p.b3.aB [] p.b3.aI)))else G else V (G)
def ax4:=bJ (azO)
abbrev E85:=aK
def m85(a0:aN)(a1:bV)(a2:aa aH):af E85:=
 match ax4 (Ot.mk a2 0 a0.ai a0.ai.length 0 a0 a1 (aK.mk [] (aH.mk 0 0 0) [] (aH.mk 0 0 0)) (aK.mk [] (aH.mk 0 0 0) [] (aH.mk 0 0 0)))with|G=>G|V r1=>bif J (r1.t21<r1.t20)then if 0<=r1.t21/\r1.t21<r1.t19.length then bif J (r1.t19[r1.t21.toNat]!.bz=1)then G else G else G else match ayR (Di.mk r1.t2 0 r1.t8 0 r1.b0.ai r1.b0.ai.length 0 r1.b1 (aK.mk [] r1.b2.aB [] r1.b2.aI) (aK.mk [] r1.b3.aB [] r1.b3.aI))with|G=>G|V r2=>bif J (r2.t35<r2.t34)then if 0<=r2.t35/\r2.t35<r2.t33.length then bif J (r2.t33[r2.t35.toNat]!.bz=1)then if 0<=r2.t11/\r2.t11<r2.t2.length then if(r2.b2.ai++[r2.t2[r2.t11.toNat]!]).length<=1073741824 then G else G else G else bif J (r2.t33[r2.t35.toNat]!.bz=3)then if 0<=r2.t12/\r2.t12<r2.t2.length then if(r2.b2.ai++[r2.t2[r2.t12.toNat]!]).length<=1073741824 then G else G else G else bif J (r2.t33[r2.t35.toNat]!.bz=2)then if 0<=r2.t13/\r2.t13<r2.b0.aU.length then if(r2.b2.ai++[m36 r2.b0.aU[r2.t13.toNat]!]).length<=1073741824 then G else G else G else if(r2.b2.ai++[m36 r2.t33[r2.t35.toNat]!.eO]).length<=1073741824 then G else G else G else V (aK.mk r2.b2.ai r2.b2.aB [] r2.b2.aI)
structure TY where
 t8:List aH
 t18:List dB
 (t19 t20:Int)
 b0:aN
 b1:bV
 b2:bQ
 b3:aK
def avi(p:TY):af (af TY):=
 bif J (p.t20<p.t19)then if 0<=p.t20/\p.t20<p.t18.length then match r87 (aK.mk p.b3.ai p.b3.aB [] p.b3.aI) (au.mk p.t18[p.t20.toNat]!.aA.bF p.t18[p.t20.toNat]!.aA.fN p.t18[p.t20.toNat]!.aA.aq)with|G=>G|V r1=>match m86 r1 p.t18[p.t20.toNat]!.ag p.t18[p.t20.toNat]!.ah with|G=>G|V r2=>if(p.t8++[r2.fst]).length<=1073741824 then V (V (TY.mk (p.t8++[r2.fst]) p.t18 p.t19 (i64.wrap (p.t20+1)) p.b0 p.b1 (bQ.mk p.b2.aB [] p.b2.aI []) (aK.mk p.b3.ai p.b3.aB [] p.b3.aI)))else G else G else V (G)
def aue:=bJ (avi)
abbrev E23:=bQ
def d23:Td 0 E23:= .c [] [6] (.r 0 1 (ec 6 (qp 0 0) en) (sb 0 36 (lg 36) sn) (λz=>z.2.1) (λx=>(((),()),(x,()))))
def m23(a0:aN)(a1:bV)(a2:aa aH):af E23:=
 match m85 a0 a1 a2 with|G=>G|V r3=>match aue (TY.mk [] a0.ak a0.ak.length 0 a0 a1 (bQ.mk (aH.mk 0 0 0) [] (aH.mk 0 0 0) []) (aK.mk r3.ai r3.aB [] r3.aI))with|G=>G|V r4=>bif J (r4.t20<r4.t19)then if 0<=r4.t20/\r4.t20<r4.t18.length then match r87 (aK.mk r4.b3.ai r4.b3.aB [] r4.b3.aI) (au.mk r4.t18[r4.t20.toNat]!.aA.bF r4.t18[r4.t20.toNat]!.aA.fN r4.t18[r4.t20.toNat]!.aA.aq)with|G=>G|V r5=>match m86 r5 r4.t18[r4.t20.toNat]!.ag r4.t18[r4.t20.toNat]!.ah with|G=>G|V r6=>if(r4.t8++[r6.fst]).length<=1073741824 then G else G else G else match r88 r4.b0 r4.t8 r4.b0.bI (aK.mk r4.b3.ai r4.b3.aB [] r4.b3.aI)with|G=>G|V r7=>bif bif r4.b1.eH then S else O then V (bQ.mk r7.aB r7.aC (m36 0) r7.ai)else V (bQ.mk r7.aB r7.aC r7.aI r7.ai)
def e23:aZ->aZ:=eZ w9 23 (lc (qg 26) (lc (qg 29) (lc (ql 34) ln))) d23 (λg=>m23 g.1 g.2.1 g.t.1)
structure aHB where
 t10:Bool
 t32:List aH
 (t33 t34:Int)
 (b0 b1:aD)
structure aCu where
 t3:Int
 t6:List aH
 (t7 t8:Int)
structure aGU where
 (t8 t9 t10 t11:Int)
 b0:bQ
def V2(a:aH):Int:=open Classical in if NV a then cw a else 0
def UX(a:aH):Jl a=V (V2 a):=by
 unfold V2;by_cases h:NV a
 ·rw[bE h,qA h]
 ·rw[bO h,afV h]
def SV(a:aH):Gb a=V (V2 a):=by
 unfold V2;by_cases h:NV a
 ·rw[bE h,gv h]
 ·rw[bO h,ahj h]
def jq(pub:aa Int)(i:Nat)(x:aX):Int:=bif J (pub[i]! <x.ag)then 3 else bif J (x.ah<pub[i]!)then 3 else 0
def nP(box:aa aH)(i:Nat)(x:aX):Int:=bif bif WV box[i]! then S else O then 1 else bif J (@Eq Int (V2 box[i]!) 0)then 1 else bif J (box[i]!.ag<x.ag)then 3 else bif J (x.ah<box[i]!.ah)then 3 else 0
def dM(vars:aa aX):aa aX:=vars.filter (kd 1)++vars.filter (kd 3)
def tZ(f:aN)(v:bV)(box:aa aH):Int:=
 if oI f≠0 then oI f else if v.aU.length≠(f.ai.filter (kd 2)).length then 1 else if cu (jq v.aU) (f.ai.filter (kd 2)) 0≠0 then cu (jq v.aU) (f.ai.filter (kd 2)) 0
 else if box.length≠(dM f.ai).length then 2 else cu (nP box) (dM f.ai) 0
def ni{vars:aa aX}{i:Nat}(h:i<vars.length)(k:Int):(vars.take (i+1)).filter (kd k)=(vars.take i).filter (kd k)++(if vars[i]!.bz=k then[vars[i]!]else[]):=by
 rw[bK h,y7];by_cases hk:vars[i]!.bz=k
 ·rw[bE hk];simp only[yU,xZ,kd,hk,cI,cB]
 ·rw[bO hk];simp only[yU,xZ,kd,hk,ep,yA,gG]
def C3{vars:aa aX}(k:Int)(i:Nat):((vars.take i).filter (kd k)).length<=i:=rD vars k i
def abg(f:aN)(hl:f.ai.length<=1000000)(v:bV)(box:aa aH):Tg ⟨box,[],f.ai,(f.ai.length:Int),0,f,v⟩=V ⟨box,f.ai.filter (kd 2),f.ai,(f.ai.length:Int),(f.ai.length:Int),f,v⟩:=by
 obtain⟨b,e1,hI⟩:=dc (rnd:=Tk) f.ai.length (λi (b:aa aX)=>⟨box,b,f.ai,(f.ai.length:Int),(i:Int),f,v⟩) (λi b=>b=(f.ai.take i).filter (kd 2)) (λi b hi hb=>by
  have hw:=fu hi hl;have i1:(i:Int)<(f.ai.length:Int):=by omega
  have i2:(0:Int)<=(i:Int):=by omega
  have hlen:b.length<=i:=by rw[hb];exact C3 2 i
  have hl2:∀x:aX,(b++[x]).length<=1073741824:=λx=>by simp;omega
  refine⟨_,?_,rfl⟩;rw[ni hi,<-hb];unfold Tk;by_cases hk:f.ai[i]!.bz=2
  ·simp only[ze,i1,i2,hk,hl2,hw,cI,bC,cT,cB]
  ·simp only[ze,i1,i2,hk,hw,cI,ep,bC,bB,cT,cB,gG,yy]) (λb _=>by unfold Tk;simp) (b:=[]) (by simp)
 rw[zB]at hI;rw[<-hI];exact e1
def Lt(f:aN)(hl:f.ai.length<=1000000)(v:bV)(box:aa aH)(t8 acc:aa aX)(ha:acc.length<=1000000)(k:Int)(ks:aa Int)(n j:Int):
  HU ⟨box,t8,acc,k,ks,n,j,f.ai,(f.ai.length:Int),0,f,v⟩=V ⟨box,t8,acc++f.ai.filter (kd k),k,ks,n,j,f.ai,(f.ai.length:Int),(f.ai.length:Int),f,v⟩:=by
 obtain⟨b,e1,hI⟩:=dc (rnd:=S7) f.ai.length (λi (b:aa aX)=>⟨box,t8,acc++b,k,ks,n,j,f.ai,(f.ai.length:Int),(i:Int),f,v⟩) (λi b=>b=(f.ai.take i).filter (kd k)) (λi b hi hb=>by
  have hw:=fu hi hl;have i1:(i:Int)<(f.ai.length:Int):=by omega
  have i2:(0:Int)<=(i:Int):=by omega
  have hlen:b.length<=i:=by rw[hb];exact C3 k i
  have hl2:∀x:aX,(acc++(b++[x])).length<=1073741824:=λx=>by simp;omega
  refine⟨_,?_,rfl⟩;rw[ni hi,<-hb];unfold S7;by_cases hk:f.ai[i]!.bz=k
  ·simp only[ze,i1,i2,hk,hl2,hw,cI,bC,cT,cB,yR]
  ·simp only[ze,i1,i2,hk,hw,cI,ep,bC,bB,cT,cB,gG,yy]) (λb _=>by unfold S7;simp) (b:=[]) (by simp)
 rw[zB]at hI;have e1':HU ⟨box,t8,acc,k,ks,n,j,f.ai,(f.ai.length:Int),0,f,v⟩=V ⟨box,t8,acc++b,k,ks,n,j,f.ai,(f.ai.length:Int),(f.ai.length:Int),f,v⟩:=by
  have:=e1;rw[yy]at this;exact this
 rw[<-hI];exact e1'
def XF(f:aN)(hl:f.ai.length<=1000)(v:bV)(box:aa aH)(t8:aa aX):
  MH ⟨box,t8,[],[1,3],2,0,f,v⟩=V ⟨box,t8,dM f.ai,[1,3],2,2,f,v⟩:=by
 have h1:(f.ai.filter (kd 1)).length<=1000:=zK (yh _ _) hl;have e1:=Lt f (by omega) v box t8 [] (by simp) 1 [1,3] 2 0;have e2:=Lt f (by omega) v box t8 (f.ai.filter (kd 1)) (by omega) 3 [1,3] 2 1;rw[yw]at e1;have w1:i64.wrap ((0:Int)+1)=1:=by decide
 have w2:i64.wrap ((1:Int)+1)=2:=by decide
 unfold MH dM;rw[bM (p':=⟨box,t8,f.ai.filter (kd 1),[1,3],2,1,f,v⟩)]
 ·rw[bM (p':=⟨box,t8,f.ai.filter (kd 1)++f.ai.filter (kd 3),[1,3],2,2,f,v⟩)]
  ·exact b9 (λr=>by unfold Uo;simp)
  ·unfold Uo;dsimp only;rw[bY (by decide),bC,bE (by decide),bE (by decide)];rw[show ([1,3]:aa Int)[zC 1]! =3 from rfl,e2];dsimp only;rw[gh,bB,w2]
 ·unfold Uo;dsimp only;rw[bY (by decide),bC,bE (by decide),bE (by decide)];rw[show ([1,3]:aa Int)[zC 0]! =1 from rfl,e1];dsimp only;rw[gh,bB,w1]
def adV(L:aa aX)(hl:L.length<=1000000)(v:bV)(hv:v.aU.length=L.length)(box:aa aH)(t9:aa aX):
  ∃i,T5 ⟨box,t9,L,(L.length:Int),0,v⟩=V ⟨box,t9,L,(L.length:Int),(i:Nat),v⟩/\((i=L.length/\cu (jq v.aU) L 0=0)\/(i<L.length/\jq v.aU i L[i]!≠0/\cu (jq v.aU) L 0=jq v.aU i L[i]!)):=
 sw (rnd:=Nj) L (λi=>⟨box,t9,L,(L.length:Int),(i:Nat),v⟩) (jq v.aU) (λi hi=>by
  have hw:=fu hi hl;have i1:(i:Int)<(L.length:Int):=by omega
  have i2:(0:Int)<=(i:Int):=by omega
  have i3:(i:Int)<(v.aU.length:Int):=by omega
  have key:Nj ⟨box,t9,L,(L.length:Int),(i:Nat),v⟩=if jq v.aU i L[i]! =0 then V (V ⟨box,t9,L,(L.length:Int),((i+1:Nat):Int),v⟩)else V G:=by
   unfold Nj jq;simp only[ze,i1,i2,i3,hi,hw,cI,bC,cT,cB];cases J (v.aU[i]! <L[i]!.ag)<;>cases J (L[i]!.ah<v.aU[i]!)<;>simp
  exact⟨λh=>by rw[key,bE h],λh=>by rw[key,bO h]⟩) (by unfold Nj;simp)
def aee(L:aa aX)(hl:L.length<=1000000)(box:aa aH)(hv:box.length=L.length):
  ∃i,T2 ⟨box,L,(L.length:Int),0⟩=V ⟨box,L,(L.length:Int),(i:Nat)⟩/\((i=L.length/\cu (nP box) L 0=0)\/(i<L.length/\nP box i L[i]!≠0/\cu (nP box) L 0=nP box i L[i]!)):=
 sw (rnd:=L7) L (λi=>⟨box,L,(L.length:Int),(i:Nat)⟩) (nP box) (λi hi=>by
  have hw:=fu hi hl;have i1:(i:Int)<(L.length:Int):=by omega
  have i2:(0:Int)<=(i:Int):=by omega
  have i3:(i:Int)<(box.length:Int):=by omega
  have key:L7 ⟨box,L,(L.length:Int),(i:Nat)⟩=if nP box i L[i]! =0 then V (V ⟨box,L,(L.length:Int),((i+1:Nat):Int)⟩)else V G:=by
   unfold L7 nP;simp only[ze,i1,i2,i3,hi,hw,cI,bC,cT,cB,eS,UX];cases WV box[i]! <;>cases J (@Eq Int (V2 box[i]!) 0)<;>cases J (box[i]!.ag<L[i]!.ag)<;>cases J (L[i]!.ah<box[i]!.ah)<;>simp
  exact⟨λh=>by rw[key,bE h],λh=>by rw[key,bO h]⟩) (by unfold L7;simp)
def ay0{f:aN}(h:fO f.bI+jA (f.ak.map (·.aA))<=900)(hh:f.ak.length<=1000)(hl:f.ai.length<=1000)(v:bV)(box:aa aH):m79 f v box=V (tZ f v box):=by
 have l2:(f.ai.filter (kd 2)).length<=1000:=zK (yh _ _) hl;have l3:(dM f.ai).length<=2000:=by
  have a1:(f.ai.filter (kd 1)).length<=1000:=zK (yh _ _) hl;have a3:(f.ai.filter (kd 3)).length<=1000:=zK (yh _ _) hl;unfold dM;rw[zj];omega
 unfold m79 tZ;rw[Ua f h (by omega) (by omega)];dsimp only;by_cases hc:oI f=0
 case neg=>rw[bX hc,bE hc];rfl
 rw[bY hc,bO (by simpa using hc)];simp only[bC,bB];rw[abg f (by omega)];dsimp only;rw[gh,bB];rw[XF f hl];dsimp only;rw[gh,bB];by_cases hp:v.aU.length=(f.ai.filter (kd 2)).length
 case neg=>rw[gh,bE hp];rfl
 rw[nH,bO (by simpa using hp)];simp only[bC,bB];obtain⟨i,e3,k3⟩:=adV (f.ai.filter (kd 2)) (by omega) v hp box (dM f.ai);rw[e3];dsimp only;rcases k3 with ⟨rfl,k3⟩|⟨i1,i2,i3⟩
 case inr=>
  rw[bE (show cu (jq v.aU) (f.ai.filter (kd 2)) 0≠0 by rw[i3];exact i2),i3];have j1:(i:Int)<((f.ai.filter (kd 2)).length:Int):=by omega
  have j2:(0:Int)<=(i:Int):=by omega
  have j3:(i:Int)<(v.aU.length:Int):=by omega
  simp only[ze,j1,j2,j3,i1,cI,bC,cT,cB];revert i2;unfold jq;cases J (v.aU[i]! <(f.ai.filter (kd 2))[i]!.ag)<;>cases J ((f.ai.filter (kd 2))[i]!.ah<v.aU[i]!)<;>simp
 rw[gh,bB,bO (show ¬cu (jq v.aU) (f.ai.filter (kd 2)) 0≠0 by rw[k3];simp)];by_cases hb:box.length=(dM f.ai).length
 case neg=>rw[gh,bE hb];rfl
 rw[nH,bO (by simpa using hb)];simp only[bC,bB];obtain⟨i,e4,k4⟩:=aee (dM f.ai) (by omega) box hb;rw[e4];dsimp only;rcases k4 with ⟨rfl,k4⟩|⟨i1,i2,i3⟩
 ·rw[gh,bB,k4]
 ·rw[i3];have j1:(i:Int)<((dM f.ai).length:Int):=by omega
  have j2:(0:Int)<=(i:Int):=by omega
  have j3:(i:Int)<(box.length:Int):=by omega
  simp only[ze,j1,j2,j3,i1,cI,bC,cT,cB,eS,UX];revert i2;unfold nP;cases WV box[i]! <;>cases J (@Eq Int (V2 box[i]!) 0)<;>cases J (box[i]!.ag<(dM f.ai)[i]!.ag)<;>cases J ((dM f.ai)[i]!.ah<box[i]!.ah)<;>simp
def D6(f:aN)(hl:f.ai.length<=1000000)(v:bV)(box:aa aH)(t8 t9:aa aX)(h8:t8.length<=1000000)(h9:t9.length<=1000000)(k:Int)(ks:aa Int)(n j:Int):
  NF ⟨box,t8,t9,k,ks,n,j,f.ai,(f.ai.length:Int),0,f,v⟩=V ⟨box,if k=2 then t8++f.ai.filter (kd k)else t8,if k=2 then t9 else t9++f.ai.filter (kd k),k,ks,n,j,f.ai,(f.ai.length:Int),(f.ai.length:Int),f,v⟩:=by
 obtain⟨b,e1,hI⟩:=dc (rnd:=UZ) f.ai.length (λi (b:aa aX)=>⟨box,if k=2 then t8++b else t8,if k=2 then t9 else t9++b,k,ks,n,j,f.ai,(f.ai.length:Int),(i:Int),f,v⟩) (λi b=>b=(f.ai.take i).filter (kd k)) (λi b hi hb=>by
  have hw:=fu hi hl;have i1:(i:Int)<(f.ai.length:Int):=by omega
  have i2:(0:Int)<=(i:Int):=by omega
  have hlen:b.length<=i:=by rw[hb];exact C3 k i
  have hl2:∀x:aX,(t8++(b++[x])).length<=1073741824:=λx=>by simp;omega
  have hl3:∀x:aX,(t9++(b++[x])).length<=1073741824:=λx=>by simp;omega
  refine⟨_,?_,rfl⟩;rw[ni hi,<-hb];unfold UZ;by_cases hk:f.ai[i]!.bz=k
  ·by_cases h2:k=2
   ·simp only[ze,i1,i2,hk,h2,hl2,hw,cI,bC,cT,cB,yR]
   ·simp only[ze,i1,i2,hk,h2,hl3,hw,cI,ep,bC,bB,cT,cB,gG,yR]
  ·simp only[ze,i1,i2,hk,hw,cI,ep,bC,bB,cT,cB,gG,yy]) (λb _=>by unfold UZ;simp) (b:=[]) (by simp)
 rw[zB]at hI;rw[<-hI];have e1':=e1;rw[yy,yy,ite_self,ite_self]at e1';exact e1'
def Xp(f:aN)(hl:f.ai.length<=1000)(v:bV)(box:aa aH):
  Og ⟨box,[],[],[1,3,2],3,0,f,v⟩=V ⟨box,f.ai.filter (kd 2),dM f.ai,[1,3,2],3,3,f,v⟩:=by
 have h1:(f.ai.filter (kd 1)).length<=1000:=zK (yh _ _) hl;have h3:(f.ai.filter (kd 3)).length<=1000:=zK (yh _ _) hl;have e1:=D6 f (by omega) v box [] [] (by simp) (by simp) 1 [1,3,2] 3 0;have e2:=D6 f (by omega) v box [] (f.ai.filter (kd 1)) (by simp) (by omega) 3 [1,3,2] 3 1;have e3:=D6 f (by omega) v box [] (dM f.ai) (by simp) (by unfold dM;rw[zj];omega) 2 [1,3,2] 3 2;simp only[yw,Int.reduceEq,gG,cB]at e1 e2 e3;have w1:i64.wrap ((0:Int)+1)=1:=by decide
 have w2:i64.wrap ((1:Int)+1)=2:=by decide
 have w3:i64.wrap ((2:Int)+1)=3:=by decide
 unfold Og;rw[bM (p':=⟨box,[],f.ai.filter (kd 1),[1,3,2],3,1,f,v⟩)]
 ·rw[bM (p':=⟨box,[],dM f.ai,[1,3,2],3,2,f,v⟩)]
  ·rw[bM (p':=⟨box,f.ai.filter (kd 2),dM f.ai,[1,3,2],3,3,f,v⟩)]
   ·exact b9 (λr=>by unfold MD;simp)
   ·unfold MD;dsimp only;rw[bY (by decide),bC,bE (by decide),bE (by decide)];rw[show ([1,3,2]:aa Int)[zC 2]! =2 from rfl,e3];dsimp only;rw[gh,bB,w3]
  ·unfold MD;dsimp only;rw[bY (by decide),bC,bE (by decide),bE (by decide)];rw[show ([1,3,2]:aa Int)[zC 1]! =3 from rfl,e2];dsimp only;rw[gh,bB,w2];rfl
 ·unfold MD;dsimp only;rw[bY (by decide),bC,bE (by decide),bE (by decide)];rw[show ([1,3,2]:aa Int)[zC 0]! =1 from rfl,e1];dsimp only;rw[gh,bB,w1]
def adn(L:aa aX)(hl:L.length<=1000000)(v:bV)(hv:v.aU.length=L.length)(box:aa aH)(t9:aa aX):
  ∃i,SA ⟨box,t9,L,(L.length:Int),0,v⟩=V ⟨box,t9,L,(L.length:Int),(i:Nat),v⟩/\((i=L.length/\cu (jq v.aU) L 0=0)\/(i<L.length/\jq v.aU i L[i]!≠0/\cu (jq v.aU) L 0=jq v.aU i L[i]!)):=
 sw (rnd:=LO) L (λi=>⟨box,t9,L,(L.length:Int),(i:Nat),v⟩) (jq v.aU) (λi hi=>by
  have hw:=fu hi hl;have i1:(i:Int)<(L.length:Int):=by omega
  have i2:(0:Int)<=(i:Int):=by omega
  have i3:(i:Int)<(v.aU.length:Int):=by omega
  have key:LO ⟨box,t9,L,(L.length:Int),(i:Nat),v⟩=if jq v.aU i L[i]! =0 then V (V ⟨box,t9,L,(L.length:Int),((i+1:Nat):Int),v⟩)else V G:=by
   unfold LO jq;simp only[ze,i1,i2,i3,hi,hw,cI,bC,cT,cB];cases J (v.aU[i]! <L[i]!.ag)<;>cases J (L[i]!.ah<v.aU[i]!)<;>simp
  exact⟨λh=>by rw[key,bE h],λh=>by rw[key,bO h]⟩) (by unfold LO;simp)
def aep(L:aa aX)(hl:L.length<=1000000)(box:aa aH)(hv:box.length=L.length):
  ∃i,Ud ⟨box,L,(L.length:Int),0⟩=V ⟨box,L,(L.length:Int),(i:Nat)⟩/\((i=L.length/\cu (nP box) L 0=0)\/(i<L.length/\nP box i L[i]!≠0/\cu (nP box) L 0=nP box i L[i]!)):=
 sw (rnd:=Lm) L (λi=>⟨box,L,(L.length:Int),(i:Nat)⟩) (nP box) (λi hi=>by
  have hw:=fu hi hl;have i1:(i:Int)<(L.length:Int):=by omega
  have i2:(0:Int)<=(i:Int):=by omega
  have i3:(i:Int)<(box.length:Int):=by omega
  have key:Lm ⟨box,L,(L.length:Int),(i:Nat)⟩=if nP box i L[i]! =0 then V (V ⟨box,L,(L.length:Int),((i+1:Nat):Int)⟩)else V G:=by
   unfold Lm nP;simp only[ze,i1,i2,i3,hi,hw,cI,bC,cT,cB,gq,SV];cases WV box[i]! <;>cases J (@Eq Int (V2 box[i]!) 0)<;>cases J (box[i]!.ag<L[i]!.ag)<;>cases J (L[i]!.ah<box[i]!.ah)<;>simp
  exact⟨λh=>by rw[key,bE h],λh=>by rw[key,bO h]⟩) (by unfold Lm;simp)
def aAr{f:aN}(h:fO f.bI+jA (f.ak.map (·.aA))<=900)(hh:f.ak.length<=1000)(hl:f.ai.length<=1000)(v:bV)(box:aa aH):m21 f v box=V (tZ f v box):=by
 have l2:(f.ai.filter (kd 2)).length<=1000:=zK (yh _ _) hl;have l3:(dM f.ai).length<=2000:=by
  have a1:(f.ai.filter (kd 1)).length<=1000:=zK (yh _ _) hl;have a3:(f.ai.filter (kd 3)).length<=1000:=zK (yh _ _) hl;unfold dM;rw[zj];omega
 unfold m21 tZ;rw[Yz f h (by omega) (by omega)];dsimp only;by_cases hc:oI f=0
 case neg=>rw[bX hc,bE hc];rfl
 rw[bY hc,bO (by simpa using hc)];simp only[bC,bB];rw[Xp f hl v box];dsimp only;rw[gh,bB];by_cases hp:v.aU.length=(f.ai.filter (kd 2)).length
 case neg=>rw[gh,bE hp];rfl
 rw[nH,bO (by simpa using hp)];simp only[bC,bB];obtain⟨i,e3,k3⟩:=adn (f.ai.filter (kd 2)) (by omega) v hp box (dM f.ai);rw[e3];dsimp only;rcases k3 with ⟨rfl,k3⟩|⟨i1,i2,i3⟩
 case inr=>
  rw[bE (show cu (jq v.aU) (f.ai.filter (kd 2)) 0≠0 by rw[i3];exact i2),i3];have j1:(i:Int)<((f.ai.filter (kd 2)).length:Int):=by omega
  have j2:(0:Int)<=(i:Int):=by omega
  have j3:(i:Int)<(v.aU.length:Int):=by omega
  simp only[ze,j1,j2,j3,i1,cI,bC,cT,cB];revert i2;unfold jq;cases J (v.aU[i]! <(f.ai.filter (kd 2))[i]!.ag)<;>cases J ((f.ai.filter (kd 2))[i]!.ah<v.aU[i]!)<;>simp
 rw[gh,bB,bO (show ¬cu (jq v.aU) (f.ai.filter (kd 2)) 0≠0 by rw[k3];simp)];by_cases hb:box.length=(dM f.ai).length
 case neg=>rw[gh,bE hb];rfl
 rw[nH,bO (by simpa using hb)];simp only[bC,bB];obtain⟨i,e4,k4⟩:=aep (dM f.ai) (by omega) box hb;rw[e4];dsimp only;rcases k4 with ⟨rfl,k4⟩|⟨i1,i2,i3⟩
 ·rw[gh,bB,k4]
 ·rw[i3];have j1:(i:Int)<((dM f.ai).length:Int):=by omega
  have j2:(0:Int)<=(i:Int):=by omega
  have j3:(i:Int)<(box.length:Int):=by omega
  simp only[ze,j1,j2,j3,i1,cI,bC,cT,cB,gq,SV];revert i2;unfold nP;cases WV box[i]! <;>cases J (@Eq Int (V2 box[i]!) 0)<;>cases J (box[i]!.ag<(dM f.ai)[i]!.ag)<;>cases J ((dM f.ai)[i]!.ah<box[i]!.ah)<;>simp
structure Fits (f:aN) (v:bV) (box:List aH):Prop where
 c:oI f=0
 pub:v.aU.length=(f.ai.filter (kd 2)).length
 aFx:∀j,j<v.aU.length->(f.ai.filter (kd 2))[j]!.ag<=v.aU[j]!/\v.aU[j]!<=(f.ai.filter (kd 2))[j]!.ah
 bl:box.length=(dM f.ai).length
 bx:∀j,j<box.length->NN box[j]!/\(dM f.ai)[j]!.ag<=box[j]!.ag/\box[j]!.ah<=(dM f.ai)[j]!.ah
def Cv{f:aN}{v:bV}{box:aa aH}(h:tZ f v box=0):Fits f v box:=by
 unfold tZ at h;by_cases hc:oI f=0
 case neg=>rw[bE hc]at h;exact dD h hc
 rw[bO (by simpa using hc)]at h;by_cases hp:v.aU.length=(f.ai.filter (kd 2)).length
 case neg=>rw[bE hp]at h;cases h
 rw[bO (by simpa using hp)]at h;by_cases hf:cu (jq v.aU) (f.ai.filter (kd 2)) 0=0
 case neg=>rw[bE hf]at h;exact dD h hf
 rw[bO (by simpa using hf)]at h;by_cases hb:box.length=(dM f.ai).length
 case neg=>rw[bE hb]at h;cases h
 rw[bO (by simpa using hb)]at h;refine⟨hc,hp,λj hj=> ?_,hb,λj hj=> ?_⟩
 ·have k:=ng hf j (by omega);rw[yp]at k;unfold jq at k;by_cases c1:v.aU[j]! <(f.ai.filter (kd 2))[j]!.ag
  ·rw[bY c1]at k;cases k
  by_cases c2:(f.ai.filter (kd 2))[j]!.ah<v.aU[j]!
  ·rw[bX c1,bY c2]at k;cases k
  omega
 ·have k:=ng h j (by omega);rw[yp]at k;unfold nP at k;by_cases c0:NV box[j]!
  case neg=>rw[uR c0]at k;cases k
  rw[ew c0]at k;by_cases c3:V2 box[j]! =0
  ·rw[bY c3]at k;cases k
  by_cases c1:box[j]!.ag<(dM f.ai)[j]!.ag
  ·rw[bX c3,bY c1]at k;cases k
  by_cases c2:(dM f.ai)[j]!.ah<box[j]!.ah
  ·rw[bX c3,bX c1,bY c2]at k;cases k
  refine⟨c0.nn λe=>c3 ?_,by omega,by omega⟩;rw[e];unfold V2;rw[bE (.inl rfl)];unfold cw;rw[bE rfl]
def abD{f:aN}(h:oI f=0){i:Nat}(hi:i<f.ai.length):(0<=f.ai[i]!.bz/\f.ai[i]!.bz<=3)/\(f.ai[i]!.bz=0->f.ai[i]!.ag<=f.ai[i]!.eO/\f.ai[i]!.eO<=f.ai[i]!.ah):=by
 unfold oI at h;by_cases h1:qx f=S
 ·rw[bE h1]at h;exact dD h (by decide)
 rw[bO h1]at h;by_cases hvc:jy f.ai=0
 case neg=>rw[bE hvc]at h;exact dD h hvc
 unfold jy at hvc;by_cases h0:cu (lQ f.ai) f.ai 0=0
 case neg=>rw[bE h0]at hvc;exact dD hvc h0
 have k:=ng h0 i hi;unfold lQ at k;split at k
 ·cases k
 split at k
 ·cases k
 split at k
 ·cases k
 split at k
 ·cases k
 rename_i q _;refine⟨by omega,λe=> ?_⟩;rw[bE e]at k;split at k
 ·cases k
 ·omega
def jd(f:aN)(v:bV)(box:aa aH)(i:Nat):aH:=
 if f.ai[i]!.bz=1 then box[dZ f.ai 1 i]! else if f.ai[i]!.bz=2 then fK v.aU[dZ f.ai 2 i]! else if f.ai[i]!.bz=3 then box[dZ f.ai 1 f.ai.length+dZ f.ai 3 i]! else fK f.ai[i]!.eO
def jI(f:aN)(v:bV)(box:aa aH):ax:=⟨nD f.ai.length (jd f v box),fK 0,[],fK 0⟩
def SZ(vars:aa aX):(dM vars).length=dZ vars 1 vars.length+dZ vars 3 vars.length:=by
 unfold dM;rw[zj,o4,o4]
def J6{vars:aa aX}{k:Int}{i:Nat}(hi:i<vars.length)(hk:vars[i]!.bz=k):dZ vars k i<dZ vars k vars.length:=by
 have c:=kT hi k;have m:=rI (vars:=vars) (k:=k) (show i+1<=vars.length by omega) (zn _);rw[bE hk]at c;omega
def AT{f:aN}{v:bV}{box:aa aH}(h:Fits f v box):gE f.ai.length 0 (jI f v box):=by
 have hv:=lC h.c;have hb:=h.bl;rw[SZ]at hb;have hp:=h.pub;rw[<-o4]at hp;refine⟨ji ..,λi hi=> ?_,mC ⟨by decide,by decide⟩,zn _,λi hi=>dD hi (by simp[jI]),mC ⟨by decide,by decide⟩⟩;show NN (nD _ _)[i]!;rw[nU hi];unfold jd;by_cases k1:f.ai[i]!.bz=1
 ·rw[bE k1];have:=J6 hi k1;exact(h.bx _ (by omega)).1
 rw[bO k1];by_cases k2:f.ai[i]!.bz=2
 ·rw[bE k2];have hl:=J6 hi k2;have hj:=h.aFx _ (show dZ f.ai 2 i<v.aU.length by omega);have hm:=bh (l:=f.ai.filter (kd 2)) (i:=dZ f.ai 2 i) (by rw[<-o4];omega);have:=hv _ ((zZ.1 hm).1);exact mC (by unfold cC;omega)
 rw[bO k2];by_cases k3:f.ai[i]!.bz=3
 ·rw[bE k3];have:=J6 hi k3;exact(h.bx _ (by omega)).1
 rw[bO k3];obtain⟨q1,q2⟩:=abD h.c hi;have q2:=q2 (by omega);have:=hv _ (bh hi);exact mC (by unfold cC;omega)
abbrev A0:bQ:=⟨⟨0,0,0⟩,[],⟨0,0,0⟩,[]⟩
def agy{f:aN}(hl:f.ai.length<=1000)(box:aa aH)(v:bV)(g:ax):T4 ⟨box,0,0,0,f.ai,(f.ai.length:Int),0,f,v,A0,⟨[],g.aB,[],g.aI⟩⟩=
  V ⟨box,0,0,(dZ f.ai 1 f.ai.length:Int),f.ai,(f.ai.length:Int),(f.ai.length:Int),f,v,A0,⟨[],g.aB,[],g.aI⟩⟩:=by
 obtain⟨b,e1,_⟩:=dc (rnd:=Vb) f.ai.length (λi (_:Unit)=>⟨box,0,0,(dZ f.ai 1 i:Int),f.ai,(f.ai.length:Int),(i:Int),f,v,A0,⟨[],g.aB,[],g.aI⟩⟩) (λ_ _=>True) (λi b hi _=>by
  have hw:=fu hi (by omega);have i1:(i:Int)<(f.ai.length:Int):=by omega
  have i2:(0:Int)<=(i:Int):=by omega
  have c1:=kT hi 1;have l1:=rD f.ai 1 i;have w1:i64.wrap ((dZ f.ai 1 i:Int)+1)=((dZ f.ai 1 i+1:Nat):Int):=by rw[aG];omega
  refine⟨(),?_,trivial⟩;unfold Vb;rw[c1];by_cases hk:f.ai[i]!.bz=1
  ·simp only[ze,i1,i2,hk,hw,w1,cI,bC,cT,cB]
  ·simp only[ze,i1,i2,hk,hw,cI,ep,bC,bB,cT,cB,gG,yt]) (λb _=>by unfold Vb;simp) (b:=()) trivial
 exact e1
def aij{f:aN}{v:bV}{box:aa aH}(h:Fits f v box)(hlv:f.ai.length<=1000)(g:ax):Uq ⟨box,0,0,(dZ f.ai 1 f.ai.length:Int),f.ai,(f.ai.length:Int),0,f,v,A0,⟨[],g.aB,[],g.aI⟩⟩=
  V ⟨box,(dZ f.ai 1 f.ai.length:Int),(dZ f.ai 2 f.ai.length:Int),((dZ f.ai 1 f.ai.length+dZ f.ai 3 f.ai.length:Nat):Int),f.ai,(f.ai.length:Int),(f.ai.length:Int),f,v,A0,⟨nD f.ai.length (jd f v box),g.aB,[],g.aI⟩⟩:=by
 have hbx:=h.bl;rw[SZ]at hbx;have hp:=h.pub;rw[<-o4]at hp;obtain⟨b,e1,_⟩:=dc (rnd:=SU) f.ai.length (λi (_:Unit)=>⟨box,(dZ f.ai 1 i:Int),(dZ f.ai 2 i:Int),((dZ f.ai 1 f.ai.length+dZ f.ai 3 i:Nat):Int),f.ai,(f.ai.length:Int),(i:Int),f,v,A0,⟨nD i (jd f v box),g.aB,[],g.aI⟩⟩) (λi _=>True) (λi b hi _=>by
  have hw:=fu hi (by omega);have i1:(i:Int)<(f.ai.length:Int):=by omega
  have i2:(0:Int)<=(i:Int):=by omega
  have c1:=kT hi 1;have c2:=kT hi 2;have c3:=kT hi 3;have m1:=rI (vars:=f.ai) (k:=1) (show i+1<=f.ai.length by omega) (zn _);have m2:=rI (vars:=f.ai) (k:=2) (show i+1<=f.ai.length by omega) (zn _);have m3:=rI (vars:=f.ai) (k:=3) (show i+1<=f.ai.length by omega) (zn _);have l1:=rD f.ai 1 f.ai.length;have l2:=rD f.ai 2 f.ai.length;have l3:=rD f.ai 3 f.ai.length;have hl2:∀x:aH,(nD i (jd f v box)++[x]).length<=1073741824:=λx=>by rw[zj,ji,yH];omega
  refine⟨(),?_,trivial⟩;rw[MJ];unfold SU;dsimp only;rw[c1,c2,c3];by_cases k1:f.ai[i]!.bz=1
  ·have ev:jd f v box i=box[dZ f.ai 1 i]! :=by unfold jd;rw[bE k1]
   rw[k1]at c1 c2 c3 ⊢;simp only[Int.reduceEq,cB,gG,yt]at c1 c2 c3 ⊢;have w1:i64.wrap ((dZ f.ai 1 i:Int)+1)=((dZ f.ai 1 i+1:Nat):Int):=by rw[aG];omega
   have j1:(dZ f.ai 1 i:Int)<(box.length:Int):=by omega
   have j2:(0:Int)<=(dZ f.ai 1 i:Int):=by omega
   simp only[ze,i1,i2,j1,j2,cI,bC,cT,cB,k1,hl2,hw,w1,ev]
  by_cases k2:f.ai[i]!.bz=2
  ·have ev:jd f v box i=fK v.aU[dZ f.ai 2 i]! :=by unfold jd;rw[bO k1,bE k2]
   rw[k2]at c1 c2 c3 ⊢;simp only[Int.reduceEq,cB,gG,yt]at c1 c2 c3 ⊢;have w1:i64.wrap ((dZ f.ai 2 i:Int)+1)=((dZ f.ai 2 i+1:Nat):Int):=by rw[aG];omega
   have j1:(dZ f.ai 2 i:Int)<(v.aU.length:Int):=by omega
   have j2:(0:Int)<=(dZ f.ai 2 i:Int):=by omega
   simp only[ze,i1,i2,j1,j2,k2,Int.reduceEq,cI,ep,bC,bB,cT,cB,hl2,hw,w1,rj,ev]
  by_cases k3:f.ai[i]!.bz=3
  ·have ev:jd f v box i=box[dZ f.ai 1 f.ai.length+dZ f.ai 3 i]! :=by unfold jd;rw[bO k1,bO k2,bE k3]
   rw[k3]at c1 c2 c3 ⊢;simp only[Int.reduceEq,cB,gG,yt]at c1 c2 c3 ⊢;have w1:i64.wrap (((dZ f.ai 1 f.ai.length+dZ f.ai 3 i:Nat):Int)+1)=((dZ f.ai 1 f.ai.length+(dZ f.ai 3 i+1):Nat):Int):=by rw[aG];omega
   have j1:((dZ f.ai 1 f.ai.length+dZ f.ai 3 i:Nat):Int)<(box.length:Int):=by omega
   have j2:(0:Int)<=((dZ f.ai 1 f.ai.length+dZ f.ai 3 i:Nat):Int):=by omega
   simp only[ze,i1,i2,j1,j2,k3,Int.reduceEq,cI,ep,bC,bB,cT,cB,hl2,hw,w1,ev]
  ·have ev:jd f v box i=fK f.ai[i]!.eO:=by unfold jd;rw[bO k1,bO k2,bO k3]
   rw[bO k1,bO k2,bO k3];simp only[ze,i1,i2,k1,k2,k3,cI,ep,bC,bB,cT,cB,hl2,hw,rj,ev,yt]) (λb _=>by unfold SU;simp) (b:=()) trivial
 exact e1
def afu(f:aN)(s:ax)(h:dB):aH:=jh (dS s.ai h.aA) h.ag h.ah
def vp(f:aN)(s:ax):aa aH:=f.ak.map (afu f s)
def ai0{f:aN}(hf:U3 f){s:ax}{m:Nat}(hs:gE f.ai.length m s){i:Nat}(hi:i<f.ak.length):NN (afu f s f.ak[i]!):=by
 obtain⟨_,_,_,k,_⟩:=kU (l6 hs f.ak[i]!.aA (hf.hat i hi).2) f.ak[i]!.ag f.ak[i]!.ah;exact k
def I8{f:aN}(hf:U3 f){s:ax}{m:Nat}(hs:gE f.ai.length m s):∀i,i<(vp f s).length->NN (vp f s)[i]! :=λi hi=>by
 have hi:i<f.ak.length:=by simpa [vp]using hi
 unfold vp;rw[getElem!_pos _ i (by simpa using hi),yY,<-getElem!_pos f.ak i hi];exact ai0 hf hs hi
def agD{f:aN}(hf:U3 f)(hlh:f.ak.length<=1000)(v:bV){s:ax}(hs:gE f.ai.length 0 s):Ol ⟨f.ak,(f.ak.length:Int),0,f,v,A0,s,⟨f,[]⟩⟩=
  V ⟨f.ak,(f.ak.length:Int),(f.ak.length:Int),f,v,A0,s,⟨f,vp f s⟩⟩:=by
 have hsl:s.aC=[]:=xy (Nat.le_zero.1 hs.sl);have es:(⟨s.ai,s.aB,[],s.aI⟩:ax)=s:=by rw[<-hsl]
 obtain⟨b,e1,_⟩:=dc (rnd:=UI) f.ak.length (λi (_:Unit)=>⟨f.ak,(f.ak.length:Int),(i:Int),f,v,A0,s,⟨f,(f.ak.take i).map (afu f s)⟩⟩) (λi _=>True) (λi b hi _=>by
  have hw:=fu hi (by omega);have i1:(i:Int)<(f.ak.length:Int):=by omega
  have i2:(0:Int)<=(i:Int):=by omega
  obtain⟨q1,q2⟩:=hf.hat i hi;have ev:=Oy hs q2;obtain⟨c,hcl,_,_,_⟩:=kU (l6 hs f.ak[i]!.aA q2) f.ak[i]!.ag f.ak[i]!.ah;have hl2:∀x:aH,((f.ak.take i).map (afu f s)++[x]).length<=1073741824:=λx=>by simp;omega
  refine⟨(),?_,trivial⟩;rw[bK hi,z8];unfold UI;simp only[ze,i1,i2,cI,bC,cT,cB,au.eta,es,ev,hcl,hl2,hw,ye,yS];rfl) (λb _=>by unfold UI;simp) (b:=()) trivial
 rw[zB]at e1;exact e1
def Kq(f:aN)(v:bV)(box:aa aH):ax:=kg f (vp f (jI f v box)) f.bI (jI f v box)
def gL(f:aN)(v:bV)(box:aa aH):bQ:=
 ⟨(Kq f v box).aB,(Kq f v box).aC,if v.eH=O then(Kq f v box).aI else fK 0,(Kq f v box).ai⟩
def alD{f:aN}{v:bV}{box:aa aH}(h:fO f.bI+jA (f.ak.map (·.aA))<=900)(hh:f.ak.length<=1000)(hl:f.ai.length<=1000):m20 f v box=V (if tZ f v box=0 then(gL f v box,0)else(A0,tZ f v box)):=by
 unfold m20;rw[ay0 h hh hl];dsimp only;by_cases hc:tZ f v box=0
 case neg=>rw[bX hc,bO hc];rfl
 have hfit:=Cv hc;have hf:=Q0 hfit.c;have h0:=AT hfit;have e0:=agy hl box v ⟨[],fK 0,[],fK 0⟩;have e1:=aij hfit hl ⟨[],fK 0,[],fK 0⟩;have e2:=agD hf hh v h0;have ho:iW f.bI<=8:=by have:=hf.o;unfold iW;omega
 have e3:r83 ⟨f,vp f (jI f v box)⟩ f.bI (jI f v box)=V (Kq f v box):=
  awQ (r:=⟨f,vp f (jI f v box)⟩) (top:=O) (by show f.ai.length<=_;omega) (by simp[vp]) (I8 hf h0) (by omega) hf.steps h0 (by omega)
 rw[bY hc,bE hc];simp only[bC,bB,rj];dsimp only[A0]at e0 e1 e2;rw[e0];dsimp only;rw[gh,bB,e1];dsimp only;rw[gh,bB];have e2':Ol ⟨f.ak,(f.ak.length:Int),0,f,v,⟨⟨0,0,0⟩,[],⟨0,0,0⟩,[]⟩,⟨nD f.ai.length (jd f v box),fK 0,[],fK 0⟩,⟨f,[]⟩⟩=_:=e2;rw[e2'];dsimp only;rw[gh,bB];have e3':r83 ⟨f,vp f (jI f v box)⟩ f.bI ⟨(jI f v box).ai,(jI f v box).aB,[],(jI f v box).aI⟩=_:=e3;rw[e3'];dsimp only;unfold gL;cases v.eH<;>rfl
abbrev E18:=Bool
def d18:Td 0 E18:= .c [] [0] (.r 0 0 (ec 0 qb en) sn (λz=>z.1.1) (λx=>((x,()),(()))))
def m18:E18:=O
def e18:=eL w9 18 S ln d18 (λ_=>V m18)
def t18:oM w9 cZ (λ_=>S) 300 60 Bool 18 [] [] 0 (Py PM)=V O:=by kernel_rfl
abbrev E19:=Bool
def d19:Td 0 E19:= .c [] [6] (.r 0 0 (ec 6 qb en) sn (λz=>z.1.1) (λx=>((x,()),(()))))
def m19(a0:aN)(a1:bV)(a2:aa aH):af E19:=
 match bif J ((a1.aU.length:Int)<=20)then bif J ((a2.length:Int)<=20)then match m53 a0 70 300with|G=>G|V r1=>bif r1 then match m78 a0 with|G=>G|V r2=>bif bif J (r2=0)then S else O then V O else match m24 a0 4096 4096 256with|G=>G|V r3=>V (r3)else V S else V S else V S with|G=>G|V r4=>V (r4)
def e19:=eL w9 19 S (lc (qg 26) (lc (qg 29) (lc (ql 34) ln))) d19 (λg=>m19 g.1 g.2.1 g.t.1)
structure Tt where
 (t0 t1:List aH)
 (t12 t13:Int)
def avY(p:Tt):af (af Tt):=
 bif J (p.t13<p.t12)then if 0<=p.t13/\p.t13<p.t0.length then if 0<=p.t13/\p.t13<p.t1.length then bif bif bif J (p.t0[p.t13.toNat]!.ag=p.t1[p.t13.toNat]!.ag)then bif J (p.t0[p.t13.toNat]!.ah=p.t1[p.t13.toNat]!.ah)then bif J (p.t0[p.t13.toNat]!.aj=p.t1[p.t13.toNat]!.aj)then O else S else S else S then S else O then V (G)else V (V (Tt.mk p.t0 p.t1 p.t12 (i64.wrap (p.t13+1))))else G else G else V (G)
def aAT:=bJ (avY)
abbrev E64:=Bool
def m64(a0:aa aH)(a1:aa aH):af E64:=
 bif bif J ((a0.length:Int)=(a1.length:Int))then S else O then V S else match aAT (Tt.mk a0 a1 a0.length 0)with|G=>G|V r1=>bif J (r1.t13<r1.t12)then if 0<=r1.t13/\r1.t13<r1.t0.length then if 0<=r1.t13/\r1.t13<r1.t1.length then bif bif bif J (r1.t0[r1.t13.toNat]!.ag=r1.t1[r1.t13.toNat]!.ag)then bif J (r1.t0[r1.t13.toNat]!.ah=r1.t1[r1.t13.toNat]!.ah)then bif J (r1.t0[r1.t13.toNat]!.aj=r1.t1[r1.t13.toNat]!.aj)then O else S else S else S then S else O then V S else G else G else G else V O
abbrev E22:=Bool
def d22:Td 0 E22:= .c [] [4] (.r 0 0 (ec 4 qb en) sn (λz=>z.1.1) (λx=>((x,()),(()))))
def m22(a0:bQ)(a1:bQ):af E22:=
 match bif bif J (a0.aB.ag=a1.aB.ag)then bif J (a0.aB.ah=a1.aB.ah)then bif J (a0.aB.aj=a1.aB.aj)then O else S else S else S then bif bif J (a0.aI.ag=a1.aI.ag)then bif J (a0.aI.ah=a1.aI.ah)then bif J (a0.aI.aj=a1.aI.aj)then O else S else S else S then match m64 a0.aC a1.aC with|G=>G|V r1=>bif r1 then match m64 a0.IJ a1.IJ with|G=>G|V r2=>V (r2)else V (S)else V (S)else V (S)with|G=>G|V r3=>V (r3)
def e22:=eL w9 22 S (lc (qg 36) (lc (qg 36) ln)) d22 (λg=>m22 g.1 g.2.1)
def F3:aZ:=(e23 (e22 (e21 (e20 (e19 (e18 cZ))))))
abbrev E3:=Bool
def d3:Td 0 E3:= .c [] [6] (.r 0 0 (ec 6 qb en) sn (λz=>z.1.1) (λx=>((x,()),(()))))
def A3:=(lc (qg 26) (lc (qg 29) (lc (ql 34) ln)))
def m3(a0:aN)(a1:bV)(a2:aa aH):af E3:=
 bif bif m18 then S else O then V (S)else match m19 a0 a1 a2 with|G=>G|V r1=>bif bif r1 then S else O then V (O)else match m20 a0 a1 a2 with|G=>G|V r2=>match m21 a0 a1 a2 with|G=>G|V r3=>bif bif J (r3=0)then S else O then bif J (r2.snd=r3)then match m22 r2.fst (bQ.mk (aH.mk (0) (0) (0)) [] (aH.mk (0) (0) (0)) [])with|G=>G|V r4=>V (r4)else V (S)else bif J (r2.snd=0)then match m23 a0 a1 a2 with|G=>G|V r5=>match m22 r2.fst r5 with|G=>G|V r6=>V (r6)else V (S)
abbrev E6:=Bool
def d6:Td 0 E6:= .c [] [6] (.r 0 0 (ec 6 qb en) sn (λz=>z.1.1) (λx=>((x,()),(()))))
def XC{f:aN}{v:bV}{box:aa aH}(h:Fits f v box):(gL f v box).aC.length<=8/\(gL f v box).IJ.length=f.ai.length:=by
 have hf:=Q0 h.c;have h0:=AT h;have ho:iW f.bI<=8:=by have:=hf.o;unfold iW;omega
 have k:=jP (hv:=vp f (jI f v box)) (by simp[vp]) (I8 hf h0) _ f.bI O (zJ _) hf.steps _ _ h0;have:=k.sl;exact⟨by show (Kq f v box).aC.length<=8;unfold Kq;omega,k.len⟩
def Ny{a:aH}(h:NN a):cw a<=a.ah-a.ag+1:=by
 rw[tW h];have:=h.le;split
 ·omega
 ·have:=yg a.aj (show 0<=a.ah-a.ag by omega);omega
def C4{a:aH}(h:NN a):1<=cw a/\cw a<=2199023255553:=by
 have h1:=size_pos h;have h2:=Ny h;obtain⟨a1,a2⟩:=h.rB;obtain⟨a3,a4⟩:=h.BC;exact⟨h1,by omega⟩
def Nr{a b:Int}(h1:1<=a)(h2:a<=2199023255553)(h3:1<=b)(h4:b<=2199023255553):m93 a b=V (min (a*b) 1099511627776):=by
 have hd:(1099511627776:Int).tdiv b=1099511627776/b:=Int.tdiv_eq_ediv_of_nonneg (by omega);have q0:0<=(1099511627776:Int)/b:=zR (by omega) (by omega);have q1:(1099511627776:Int)/b<=1099511627776:=yg _ (by omega);have iff:(1099511627776:Int)/b<a↔1099511627776<a*b:=Int.ediv_lt_iff_lt_mul (by omega);have p0:0<=a*b:=zF (by omega) (by omega);unfold m93;rw[bY (show 0<b by omega),bC,bE (show ¬@Eq Int b 0 by omega),hd,aG];dsimp only;by_cases c:1099511627776<a*b
 ·rw[bY (iff.mpr c),bC,show min (a*b) 1099511627776=1099511627776 by omega]
 ·rw[bX (λk=>c (iff.mp k)),bB,aG,show min (a*b) 1099511627776=a*b by omega]
def hU:aa aH->Int
 |[]=>1
 |x::l=>cw x*hU l
def kA:aa aX->Int
 |[]=>1
 |x::l=>(x.ah-x.ag+1)*kA l
def C6:∀(a b:aa aH),hU (a++b)=hU a*hU b
 |[],b=>by rw[yw,hU,z6]
 |x::a,b=>by rw[xo,hU,hU,C6 a b,zQ]
def Ht:∀(a b:aa aX),kA (a++b)=kA a*kA b
 |[],b=>by rw[yw,kA,z6]
 |x::a,b=>by rw[xo,kA,kA,Ht a b,zQ]
def mR:∀{l:aa aH},(∀x∈l,NN x)->1<=hU l
 |[],_=>by rw[hU];decide
 |x::l,h=>by
  rw[hU];have h1:=size_pos (h x (zo ..));have h2:=mR (λy hy=>h y (zO _ hy));have:=xA h1 h2 (by omega) (by omega);omega
def G1{l:aa aH}(h:∀x∈l,NN x)(i:Nat):1<=hU (l.take i)/\hU (l.take i)<=hU l:=by
 have h1:=mR (l:=l.take i) (λx hx=>h x (List.mem_of_mem_take hx));have h2:=mR (l:=l.drop i) (λx hx=>h x (wg hx));have e:hU l=hU (l.take i)*hU (l.drop i):=by rw[<-C6,xw]
 have:=wV h2 (show 0<=hU (l.take i)by omega);exact⟨h1,by rw[e];omega⟩
def Vh:∀{l:aa aH} {L:aa aX},l.length=L.length->(∀j,j<l.length->NN l[j]!/\L[j]!.ag<=l[j]!.ag/\l[j]!.ah<=L[j]!.ah)->hU l<=kA L
 |[],[],_,_=>zm _
 |[],y::L,h,_=>by simp at h
 |x::l,[],h,_=>by simp at h
 |x::l,y::L,h,k=>by
  rw[hU,kA];have hN:∀z∈l,NN z:=λz hz=>by
   obtain⟨i,hi,e⟩:=List.mem_iff_getElem.1 hz;have:=(k (i+1) (by simp;omega)).1;rw[show (x::l)[i+1]! =l[i]! from rfl,getElem!_pos l i hi,e]at this;exact this
  obtain⟨k1,k2,k3⟩:=k 0 (by simp);have k1:NN x:=k1;have k2:y.ag<=x.ag:=k2;have k3:x.ah<=y.ah:=k3;have h1:=size_pos k1;have h2:=Ny k1;have h3:=Vh (l:=l) (L:=L) (by simpa using h) (λj hj=>k (j+1) (by simp;omega));have h4:=mR hN;exact xA (by omega) h3 (by omega) (by omega)
def uk(kind:Int):∀(l:aa aX) (n m:Int),tU kind l n=V m->m=n*kA (l.filter (kd kind))
 |[],n,m,e=>by unfold tU at e;cases e;rw[xZ,kA,Int.mul_one]
 |v::vs,n,m,e=>by
  unfold tU at e;by_cases hk:v.bz=kind
  ·rw[bE hk]at e;split at e
   ·cases e
   ·have:=uk kind vs _ m e;rw[this,yU,bE (by simp[kd,hk]),kA,zQ]
  ·rw[bO hk]at e;rw[uk kind vs n m e,yU,bO (by simp[kd,hk])]
def AM:∀{l:aa aX},(∀v∈l,v.ag<=v.ah)->1<=kA l
 |[],_=>by rw[kA];decide
 |x::l,h=>by
  rw[kA];have h1:=h x (zo ..);have h2:=AM (λy hy=>h y (zO _ hy));have:=xA (show 1<=x.ah-x.ag+1 by omega) h2 (by omega) (by omega);omega
def WZ{f:aN}(h:oI f=0):Ac f.ai=O:=by
 unfold oI at h;by_cases h1:qx f=S
 ·rw[bE h1]at h;exact dD h (by decide)
 rw[bO h1]at h;by_cases hvc:jy f.ai=0
 case neg=>rw[bE hvc]at h;exact dD h hvc
 unfold jy at hvc;by_cases h0:cu (lQ f.ai) f.ai 0=0
 case neg=>rw[bE h0]at hvc;exact dD hvc h0
 rw[bO (by simpa using h0)]at hvc;cases hs:Ac f.ai with
 |true=>rfl
 |false=>rw[hs]at hvc;simp at hvc
def aiR{f:aN}(h:oI f=0):kA (dM f.ai)<=1048576:=by
 have hv:=lC h;have hs:=WZ h;unfold Ac at hs;simp only[zi]at hs;obtain⟨⟨h1,_⟩,h3⟩:=hs;obtain⟨a,e1⟩:=Option.isSome_iff_exists.1 h1;cases e3:tU 3 f.ai 1 with
 |none=>rw[e3]at h3;cases h3
 |some b=>
  rw[e3]at h3;have h3:b<=256:=by simpa using h3
  have ha:=CK 1 f.ai 1 a (by decide) e1;have p1:=uk 1 f.ai 1 a e1;have p3:=uk 3 f.ai 1 b e3;rw[z6]at p1 p3;have q1:=AM (l:=f.ai.filter (kd 1)) (λv hv'=>(hv v (zZ.1 hv').1).2.1);have q3:=AM (l:=f.ai.filter (kd 3)) (λv hv'=>(hv v (zZ.1 hv').1).2.1);unfold dM;rw[Ht,<-p1,<-p3];rw[<-p1]at q1;rw[<-p3]at q3;have:=xA ha h3 (by omega) (by omega);omega
def Fits.nn{f:aN}{v:bV}{box:aa aH}(h:Fits f v box):∀x∈box,NN x:=λx hx=>by
 obtain⟨i,hi,e⟩:=List.mem_iff_getElem.1 hx;have:=(h.bx i hi).1;rw[getElem!_pos box i hi,e]at this;exact this
def Fits.vol{f:aN}{v:bV}{box:aa aH}(h:Fits f v box):1<=hU box/\hU box<=1048576:=⟨mR h.nn,xU (Vh h.bl h.bx) (aiR h.c)⟩
def mg(l:aa aH):Bool:=l.all λx=>J (cw x=1)
def sgB(r:bQ):Bool:=(J (cw r.aB=1)&&J (cw r.aI=1))&&mg r.aC
def ae3(r:bQ):aD:=⟨r.aC.map (·.ag),r.aI.ag⟩
structure ROk (r:bQ):Prop where
 count:NN r.aB
 time:NN r.aI
 sl:r.aC.length<=8
 slots:∀i,i<r.aC.length->NN r.aC[i]!
def Mf{l:aa aH}{i:Nat}(h:i<l.length):mg (l.take (i+1))=(mg (l.take i)&&J (cw l[i]! =1)):=by
 unfold mg;rw[bK h,List.all_append];simp
def aft{r:bQ}(h:ROk r)(b:Bool)(t:Int):UT ⟨b,r.aC,(r.aC.length:Int),0,⟨[],0⟩,⟨[],t⟩⟩=V ⟨b&&mg r.aC,r.aC,(r.aC.length:Int),(r.aC.length:Int),⟨[],0⟩,⟨r.aC.map (·.ag),t⟩⟩:=by
 have hs:=h.sl;obtain⟨_,e1,_⟩:=dc (rnd:=U9) r.aC.length (λi (_:Unit)=>⟨b&&mg (r.aC.take i),r.aC,(r.aC.length:Int),(i:Int),⟨[],0⟩,⟨(r.aC.take i).map (·.ag),t⟩⟩) (λi _=>True) (λi _ hi _=>by
  have hw:=fu hi (by omega);have i1:(i:Int)<(r.aC.length:Int):=by omega
  have i2:(0:Int)<=(i:Int):=by omega
  have hl2:∀x:Int,((r.aC.take i).map (·.ag)++[x]).length<=1073741824:=λx=>by simp;omega
  refine⟨(),?_,trivial⟩;rw[Mf hi,bK hi,z8];unfold U9;cases hb:(b&&mg (r.aC.take i))with
  |false=>
   rw[<-Bool.and_assoc,hb];simp only[ze,i1,i2,hl2,cI,bC,bB,cT,cB,hw,Bool.false_and,ye,yS]
  |true=>
   rw[<-Bool.and_assoc,hb];simp only[ze,i1,i2,hl2,cI,bC,cT,cB,qA (.inr (h.slots i hi)),hw,wA,ye,yS]) (λb _=>by unfold U9;simp) (b:=()) trivial
 rw[zB]at e1;have:(b&&mg (r.aC.take 0))=b:=by simp[mg]
 rw[this]at e1;exact e1
def avg{f:aN}{v:bV}{box:aa aH}{r:bQ}(e:m20 f v box=V (r,0))(h:ROk r):Wb f v box=V (if sgB r=O then(ae3 r,O,0)else(⟨[],0⟩,S,0)):=by
 unfold Wb;rw[e];simp only[cI,bC,bB,qA (.inr h.count),qA (.inr h.time)];have ef:(bif J (@Eq Int (cw r.aB) 1)then some (J (@Eq Int (cw r.aI) 1))else some false)=some (J (cw r.aB=1)&&J (cw r.aI=1)):=by cases J (cw r.aB=1)<;>rfl
 rw[ef];dsimp only;rw[aft h];dsimp only;rw[gh,bB];unfold sgB ae3;cases (J (cw r.aB=1)&&J (cw r.aI=1))&&mg r.aC<;>rfl
def Xh(r:bQ)(M:Int):Nat->Int×Int
 |0=>(0,min (cw r.aI) M)
 |k+1=>(if de r.aB (k:Nat)=O then min ((Xh r M k).1+(Xh r M k).2) M else(Xh r M k).1,if k<r.aC.length then min ((Xh r M k).2*cw r.aC[k]!) M else(Xh r M k).2)
def Cs(r:bQ):Nat->Int×Int
 |0=>(0,cw r.aI)
 |k+1=>(if de r.aB (k:Nat)=O then min ((Cs r k).1+(Cs r k).2) 1099511627776 else(Cs r k).1,if k<r.aC.length then min ((Cs r k).2*cw r.aC[k]!) 1099511627776 else(Cs r k).2)
def PX{r:bQ}(h:ROk r):∀k,0<=(Cs r k).1/\(Cs r k).1<=1099511627776/\1<=(Cs r k).2/\(Cs r k).2<=2199023255553
 |0=>by
  have:=C4 h.time;simp only[Cs];omega
 |k+1=>by
  obtain⟨h1,h2,h3,h4⟩:=PX h k;simp only[Cs];refine⟨?_,?_,?_,?_⟩
  ·split<;>omega
  ·split<;>omega
  ·split
   ·rename_i c;have:=size_pos (h.slots k c);have:=xA h3 this (by omega) (by omega);omega
   ·omega
  ·split<;>omega
def U6{r:bQ}(h:ROk r){zc:Int}(hV:1<=zc)(hM:zc<=1099511627776):∀k,(Xh r zc k).1=min (Cs r k).1 zc/\(Xh r zc k).2=min (Cs r k).2 zc
 |0=>by
  refine⟨?_,rfl⟩;show (0:Int)=min 0 zc;omega
 |k+1=>by
  obtain⟨h1,h2⟩:=U6 h hV hM k;obtain⟨b1,b2,b3,b4⟩:=PX h k;simp only[Xh,Cs];refine⟨?_,?_⟩
  ·split
   ·rw[h1,h2];omega
   ·exact h1
  ·split
   ·rename_i c;have hs:=size_pos (h.slots k c);rw[h2];generalize (Cs r k).2=P at*;generalize cw r.aC[k]! =s at*;by_cases c2:P<=zc
    ·rw[show min P zc=P by omega];omega
    ·rw[show min P zc=zc by omega];have k1:=wV hs (show 0<=zc by omega);have k2:=wV hs (show 0<=P by omega);omega
   ·exact h2
def RA(a b:Int):(if b<a then b else a)=min a b:=by split<;>omega
def agC{r:bQ}(h:ROk r)(box:aa aH):Tq ⟨box,0,cw r.aI,((r.aC.length+1:Nat):Int),0,r⟩=V ⟨box,(Cs r (r.aC.length+1)).1,(Cs r (r.aC.length+1)).2,((r.aC.length+1:Nat):Int),((r.aC.length+1:Nat):Int),r⟩:=by
 have hs:=h.sl;obtain⟨_,e1,_⟩:=dc (rnd:=SR) (r.aC.length+1) (λi (_:Unit)=>⟨box,(Cs r i).1,(Cs r i).2,((r.aC.length+1:Nat):Int),(i:Int),r⟩) (λi _=>True) (λi _ hi _=>by
  have hw:i64.wrap ((i:Int)+1)=((i+1:Nat):Int):=by rw[aG];omega
  have i1:(i:Int)<((r.aC.length+1:Nat):Int):=by omega
  have i2:(0:Int)<=(i:Int):=by omega
  obtain⟨b1,b2,b3,b4⟩:=PX h i;have ws:i64.wrap ((Cs r i).1+(Cs r i).2)=(Cs r i).1+(Cs r i).2:=aG;refine⟨(),?_,trivial⟩;unfold SR;simp only[Cs];by_cases c:i<r.aC.length
  ·have c1:(i:Int)<(r.aC.length:Int):=by omega
   have hz:=C4 (h.slots i c);have et:=Nr b3 b4 hz.1 hz.2;cases hc:de r.aB (i:Nat)with
   |true=>simp only[ze,i1,i2,c,c1,cI,bC,cT,cB,o6 (.inr h.count),hc,qA (.inr (h.slots i c)),et,ws,RA,hw]
   |false=>simp only[ze,i1,i2,c,c1,cI,bC,bB,cT,cB,o6 (.inr h.count),hc,qA (.inr (h.slots i c)),et,hw,yA,gG]
  ·have c1:¬(i:Int)<(r.aC.length:Int):=by omega
   cases hc:de r.aB (i:Nat)with
   |true=>simp only[i1,c,c1,cI,ep,bC,bB,cB,gG,o6 (.inr h.count),hc,ws,RA,hw]
   |false=>simp only[i1,c,c1,cI,ep,bC,bB,gG,o6 (.inr h.count),hc,hw,yA]) (λb _=>by unfold SR;simp) (b:=()) trivial
 exact e1
def aff{box:aa aH}(h:∀x∈box,NN x)(hl:box.length<=1000000)(hv:hU box<=1048576)(s:Int):TA ⟨s,1,box,(box.length:Int),0⟩=V ⟨s,hU box,box,(box.length:Int),(box.length:Int)⟩:=by
 obtain⟨_,e1,_⟩:=dc (rnd:=TL) box.length (λi (_:Unit)=>⟨s,hU (box.take i),box,(box.length:Int),(i:Int)⟩) (λi _=>True) (λi b hi _=>by
  have hw:=fu hi hl;have i1:(i:Int)<(box.length:Int):=by omega
  have i2:(0:Int)<=(i:Int):=by omega
  obtain⟨t1,t2⟩:=G1 h (i+1);obtain⟨u1,u2⟩:=G1 h i;have hz:=C4 (h _ (bh hi));have e:hU (box.take (i+1))=hU (box.take i)*cw box[i]! :=by
   rw[bK hi,C6,hU,hU,Int.mul_one]
  have et:=Nr (a:=hU (box.take i)) (by omega) (by omega) hz.1 hz.2;rw[show min (hU (box.take i)*cw box[i]!) 1099511627776=hU (box.take i)*cw box[i]! by rw[<-e];omega]at et;refine⟨(),?_,trivial⟩;rw[e];unfold TL;simp only[ze,i1,i2,cI,bC,cT,cB,qA (.inr (h _ (bh hi))),et,hw]) (λb _=>by unfold TL;simp) (b:=()) trivial
 rw[zB]at e1;exact e1
def asc(r:bQ)(zc:Int):Int:=(Xh r zc (r.aC.length+1)).1
def aAf{f:aN}{v:bV}{box:aa aH}{r:bQ}(e:m20 f v box=V (r,0))(h:ROk r)(hb:∀x∈box,NN x)(hl:box.length<=1000000)(hv:hU box<=1048576):Qr f v box=V (asc r (hU box),0):=by
 have hs:=h.sl;have hp:=mR hb;have wl:i64.wrap ((r.aC.length:Int)+1)=((r.aC.length+1:Nat):Int):=by rw[aG];omega
 unfold Qr;rw[e];simp only[cI,bC,bB,qA (.inr h.time),wl];rw[agC h box];dsimp only;rw[gh,bB,aff hb hl hv];dsimp only;rw[gh,bB];unfold asc;rw[(U6 h hp (by omega) _).1,RA]
structure CI (s:ax):Prop where
 lo:0<=s.aB.ag
 hi:s.aB.ah=s.aC.length
def sg1(a:aH):Prop:=a.ag=a.ah
structure SG (s:ax):Prop where
 vars:∀i,i<s.ai.length->sg1 s.ai[i]!
 count:sg1 s.aB
 slots:∀i,i<s.aC.length->sg1 s.aC[i]!
 time:sg1 s.aI
def apt{f:aN}{v:bV}{box:aa aH}(h:Fits f v box):gE f.ai.length 8 (Kq f v box):=by
 have hf:=Q0 h.c;have h0:=AT h;have ho:iW f.bI<=8:=by have:=hf.o;unfold iW;omega
 exact(jP (hv:=vp f (jI f v box)) (by simp[vp]) (I8 hf h0) _ f.bI O (zJ _) hf.steps _ _ h0).weak (by omega)
def Tp{f:aN}{v:bV}{box:aa aH}(h:Fits f v box):ROk (gL f v box):=by
 have k:=apt h;refine⟨k.count,?_,k.sl,k.slots⟩;show NN (if v.eH=O then(Kq f v box).aI else fK 0);split
 ·exact k.time
 ·exact mC ⟨by decide,by decide⟩
def aox:aZ:=cZ
def akN:aQ w9 aox:=aR
abbrev ar2:=Bool
def d326:Td 0 ar2:= .c [] [2] (.r 0 0 (ec 2 qb en) sn (λz=>z.1.1) (λx=>((x,()),(()))))
def auh:=(bk ln)
def akQ:An:= .no
def aBe:cR w9 (aox) 0 300 326 (akQ):=bA (l:=[]) func326 (aV (by kernel_rfl)) (by kernel_rfl) aF
def Gp(a0:Int):ar2:=
 bif J (a0=a0)then S else O
def aC9(a0:Int):bL w9 (aox) 300 (akQ) 326 (auh.c (a0,())) [] 0 d326.rd=V (Gp a0):=by
 refine Eq.trans (b:=(
  V (bif J (a0=a0)then S else O):af ar2)) (by kernel_rfl) ?_
 simp only[Gp,cM,di]
def avA:=eL w9 326 S auh d326 (λg=>V (Gp g.1))
def af9{F:aZ}(h:aQ w9 F):aQ w9 (avA F):=cO (sc:=jr) cg (cF akN aBe (λ_=>by kernel_rfl) (λ_=>by kernel_rfl) λg=>aC9 g.1) ⟨_,func326,by kernel_rfl,by kernel_rfl⟩ (λ_=>by kernel_rfl) (λ_=>by kernel_rfl) h
def apK:aZ:=(avA cZ)
def ajO:aQ w9 apK:=(af9 aR)
abbrev asM:=Int
def d288:Td 0 asM:= .c [] [4] (.r 0 0 (ec 4 aL en) sn (λz=>z.1.1) (λx=>((x,()),(()))))
def aym:=(bk (bk ln))
def amd:An:= .no
def ayK:cR w9 (apK) 0 300 288 (amd):=bA (l:=[]) func288 (aV (by kernel_rfl)) (by kernel_rfl) aF
def GA(a0:Int)(a1:Int):asM:=
 bif Gp a0 then bif Gp a1 then 0 else-1 else bif Gp a1 then 1 else bif J (a0<a1)then-1 else bif J (a1<a0)then 1 else 0
def aCM(a0:Int)(a1:Int):bL w9 (apK) 300 (amd) 288 (aym.c (a0,a1,())) [] 0 d288.rd=V (GA a0 a1):=by
 refine Eq.trans (b:=(
  bif Gp a0 then bif Gp a1 then V (0)else V (-1)else bif Gp a1 then V (1)else bif J (a0<a1)then V (-1)else bif J (a1<a0)then V (1)else V (0):af asM)) (by kernel_rfl) ?_
 simp only[GA,cM,di]
def auF:=eL w9 288 S aym d288 (λg=>V (GA g.1 g.2.1))
def ad4{F:aZ}(h:aQ w9 F):aQ w9 (auF F):=cO (sc:=jr) cg (cF ajO ayK (λ_=>by kernel_rfl) (λ_=>by kernel_rfl) λg=>aCM g.1 g.2.1) ⟨_,func288,by kernel_rfl,by kernel_rfl⟩ (λ_=>by kernel_rfl) (λ_=>by kernel_rfl) h
def ajP:aZ:=(auF cZ)
def ai9:aQ w9 ajP:=(ad4 aR)
structure sO where
 (t0 t1 t9:List Int)
 (t10 t11:Int)
def Ee:Td 0 sO:= .c [] [0,1,9,10,11] (.r 0 0 (ec 0 (ql 3) (ec 1 (ql 3) (ec 9 (ql 3) (ec 10 aL (ec 11 aL en))))) sn (λz=>⟨z.1.1,z.1.2.1,z.1.t.1,z.1.t.2.1,z.1.q.1⟩) (λx=>((x.t0,x.t1,x.t9,x.t10,x.t11,()),(()))))
def sN(p:sO):af (af sO):=
 bif J (p.t11<p.t10)then if 0<=p.t11/\p.t11<p.t9.length then bif J (p.t1.length<=p.t11)then V (G)else if 0<=p.t11/\p.t11<p.t1.length then bif bif J (GA p.t9[p.t11.toNat]! p.t1[p.t11.toNat]! =0)then S else O then V (G)else V (V (sO.mk p.t0 p.t1 p.t9 p.t10 (i64.wrap (p.t11+1))))else G else G else V (G)
def arZ(p:sO):dQ w9 (ajP) f251.ntmps 300 (aW f251 0) .no (af sO) (Ee.pat p) (rT Ee.rd)=sN p:=by kernel_rfl
def Jr:=bJ (sN)
abbrev aAE:=Int
def d251:Td 0 aAE:= .c [] [4] (.r 0 0 (ec 4 aL en) sn (λz=>z.1.1) (λx=>((x,()),(()))))
def ayM:=(lc (ql 3) (lc (ql 3) ln))
def amW:An:=(noTwo (.two (noTwo (Ee.lp Jr .no)) .no))
def aAh:cR w9 (ajP) 0 300 251 (amW):=bA (l:=[(aW f251 0,(Ee.lp Jr .no))]) func251 (aV (by kernel_rfl)) (by kernel_rfl) (az ⟨Ee.ok _,dh (arZ)⟩ aF)
def aat(a0:aa Int)(a1:aa Int):af aAE:=
 match Jr (sO.mk a0 a1 a0 a0.length 0)with|G=>G|V r1=>bif J (r1.t11<r1.t10)then if 0<=r1.t11/\r1.t11<r1.t9.length then bif J (r1.t1.length<=r1.t11)then V 1 else if 0<=r1.t11/\r1.t11<r1.t1.length then bif bif J (GA r1.t9[r1.t11.toNat]! r1.t1[r1.t11.toNat]! =0)then S else O then V (GA r1.t9[r1.t11.toNat]! r1.t1[r1.t11.toNat]!)else G else G else G else bif J ((r1.t0.length:Int)<(r1.t1.length:Int))then V (-1)else V 0
def aFJ(a0:aa Int)(a1:aa Int):bL w9 (ajP) 300 (amW) 251 (ayM.c (a0,a1,())) [] 0 d251.rd=aat a0 a1:=by kernel_rfl
def avN:=eL w9 251 S ayM d251 (λg=>aat g.1 g.2.1)
def ahg{F:aZ}(h:aQ w9 F):aQ w9 (avN F):=cO (sc:=jr) cg (cF ai9 aAh (λ_=>by kernel_rfl) (λ_=>by kernel_rfl) λg=>aFJ g.1 g.2.1) ⟨_,func251,by kernel_rfl,by kernel_rfl⟩ (λ_=>by kernel_rfl) (λ_=>by kernel_rfl) h
def aot:aZ:=(avN cZ)
def ajQ:aQ w9 aot:=(ahg aR)
abbrev awT:=Int
def d188:Td 0 awT:= .c [] [4] (.r 0 0 (ec 4 aL en) sn (λz=>z.1.1) (λx=>((x,()),(()))))
def axr:=(lc (qg 47) (lc (qg 47) ln))
def amt:An:= .no
def azP:cR w9 (aot) 0 300 188 (amt):=bA (l:=[]) func188 (aV (by kernel_rfl)) (by kernel_rfl) aF
def Gy(a0:aD)(a1:aD):af awT:=
 match aat a0.aY a1.aY with|G=>G|V r1=>bif bif J (r1=0)then S else O then V (r1)else bif J (a0.aI<a1.aI)then V (-1)else bif J (a1.aI<a0.aI)then V (1)else V (0)
def aCI(a0:aD)(a1:aD):bL w9 (aot) 300 (amt) 188 (axr.c (a0,a1,())) [] 0 d188.rd=Gy a0 a1:=by kernel_rfl
def Bk:=eL w9 188 S axr d188 (λg=>Gy g.1 g.2.1)
def rJ{F:aZ}(h:aQ w9 F):aQ w9 (Bk F):=cO (sc:=jr) cg (cF ajQ azP (λ_=>by kernel_rfl) (λ_=>by kernel_rfl) λg=>aCI g.1 g.2.1) ⟨_,func188,by kernel_rfl,by kernel_rfl⟩ (λ_=>by kernel_rfl) (λ_=>by kernel_rfl) h
structure aFX where
 t5:Int
 (b0 b1:aD)
def aeM:aZ:=(Rw (VM cZ))
def akw:aQ w9 aeM:=(rF (uQ aR))
abbrev aut:=aH×Int
def d214:Td 0 aut:= .c [] [6,7] (.r 0 1 (ec 6 (qp 0 0) (ec 7 aL en)) (sb 0 34 (lg 34) sn) (λz=>(z.2.1,z.1.2.1)) (λx=>(((),x.2,()),(x.1,()))))
def atV:=(bk (bk (bk ln)))
def anx:An:=(noTwo (.two (.two (.rb [145] 19) .no) .no))
def avS:∀f∈([145]:aa Nat),bw (aeM) f:=(az (jF (jN bS)) aF)
def axa:cR w9 (aeM) 0 300 214 (anx):=bA (l:=[(.skip,(.rb [145] 19))]) func214 (aV (by kernel_rfl)) (by kernel_rfl) (az avS aF)
def aid(a0:Int)(a1:Int)(a2:Int):af aut:=
 match bif bif iU a0 then S else O then V (O)else bif bif iU a1 then S else O then V (O)else V (J (a2<1))with|G=>G|V r1=>bif r1 then V ((aH.mk (0) (0) (0),3))else match lV a0 a1 a2 with|G=>G|V r2=>V ((r2,0))
def aDN(a0:Int)(a1:Int)(a2:Int):bL w9 (aeM) 300 (anx) 214 (atV.c (a0,a1,a2,())) [] 0 d214.rd=aid a0 a1 a2:=by kernel_rfl
def avu:=eL w9 214 S atV d214 (λg=>aid g.1 g.2.1 g.t.1)
def ai1{F:aZ}(h:aQ w9 F):aQ w9 (avu F):=cO (sc:=jr) cg (cF akw axa (λ_=>by kernel_rfl) (λ_=>by kernel_rfl) λg=>aDN g.1 g.2.1 g.t.1) ⟨_,func214,by kernel_rfl,by kernel_rfl⟩ (λ_=>by kernel_rfl) (λ_=>by kernel_rfl) h
def aq1:aZ:=(avu cZ)
def ah9:aQ w9 aq1:=(ai1 aR)
abbrev auY:=aH×Int
def d137:Td 0 auY:= .c [] [4,5] (.r 0 1 (ec 4 (qp 0 0) (ec 5 aL en)) (sb 0 34 (lg 34) sn) (λz=>(z.2.1,z.1.2.1)) (λx=>(((),x.2,()),(x.1,()))))
def az0:=(bk (bk ln))
def alY:An:= .no
def aA9:cR w9 (aq1) 0 300 137 (alY):=bA (l:=[]) func137 (aV (by kernel_rfl)) (by kernel_rfl) aF
def RJ(a0:Int)(a1:Int):af auY:=
 match aid a0 a1 (1)with|G=>G|V r1=>V (r1)
def aCx(a0:Int)(a1:Int):bL w9 (aq1) 300 (alY) 137 (az0.c (a0,a1,())) [] 0 d137.rd=RJ a0 a1:=by kernel_rfl
def av5:=eL w9 137 S az0 d137 (λg=>RJ g.1 g.2.1)
def afz{F:aZ}(h:aQ w9 F):aQ w9 (av5 F):=cO (sc:=jr) cg (cF ah9 aA9 (λ_=>by kernel_rfl) (λ_=>by kernel_rfl) λg=>aCx g.1 g.2.1) ⟨_,func137,by kernel_rfl,by kernel_rfl⟩ (λ_=>by kernel_rfl) (λ_=>by kernel_rfl) h
def F76:aZ:=(av5 (agO cZ))
def arB:aQ w9 F76:=(afz (Va aR))
structure vh where
 t5:List aH
 t7:Int
 t17:List Int
 (t18 t19:Int)
 t24:List aX
 (t25 t26:Int)
 b0:aN
def Lk:Td 0 vh:= .c [] [1,5,7,17,18,19,24,25,26] (.r 0 3 (ec 1 (qp 0 0) (ec 5 (qo 1) (ec 7 aL (ec 17 (qo 2) (ec 18 aL (ec 19 aL (ec 24 (ql 131) (ec 25 aL (ec 26 aL en))))))))) (sb 0 26 (lg 26) (sr 1 34 (sr 2 129 sn))) (λz=>⟨z.t.1,z.1.t.1,z.t.2.1,z.1.q.1,z.1.q.2.1,z.1.q.t.1,z.1.q.t.2.1,z.1.q.q.1,z.2.1⟩) (λx=>(((),(),x.t7,(),x.t18,x.t19,x.t24,x.t25,x.t26,()),(x.b0,x.t5,x.t17,()))))
def GP(p:vh):af (af vh):=
 bif J (p.t26<p.t25)then if 0<=p.t26/\p.t26<p.t24.length then bif J (p.t24[p.t26.toNat]!.bz=p.t7)then match RJ p.t24[p.t26.toNat]!.ag p.t24[p.t26.toNat]!.ah with|G=>G|V r3=>if(p.t5++[r3.fst]).length<=1073741824 then V (V (vh.mk (p.t5++[r3.fst]) p.t7 p.t17 p.t18 p.t19 p.t24 p.t25 (i64.wrap (p.t26+1)) p.b0))else G else V (V (vh.mk p.t5 p.t7 p.t17 p.t18 p.t19 p.t24 p.t25 (i64.wrap (p.t26+1)) p.b0))else G else V (G)
def awI(p:vh):dQ w9 (F76) f76.ntmps 300 (aW f76 1) .no (af vh) (Lk.pat p) (rT Lk.rd)=GP p:=by kernel_rfl
def NR:=bJ (GP)
structure Ea where
 t5:List aH
 t17:List Int
 (t18 t19:Int)
 b0:aN
def Oa:Td 0 Ea:= .c [] [1,5,17,18,19] (.t (cA.s 5 [] 34) (.c [] [1,5,17,18,19] (.r 0 3 (ec 1 (qp 0 0) (ec 5 (qo 1) (ec 17 (qo 2) (ec 18 aL (ec 19 aL en))))) (sb 0 26 (lg 26) (sr 1 34 (sr 2 129 sn))) (λz=>⟨z.t.1,z.t.2.1,z.1.t.2.1,z.1.q.1,z.2.1⟩) (λx=>(((),(),(),x.t18,x.t19,()),(x.b0,x.t5,x.t17,()))))))
def D3(p:Ea):af (af Ea):=
 bif J (p.t19<p.t18)then if 0<=p.t19/\p.t19<p.t17.length then if 129=129/\p.t19.toNat<p.t17.length then match NR (vh.mk p.t5 p.t17[p.t19.toNat]! p.t17 p.t18 p.t19 p.b0.ai p.b0.ai.length 0 p.b0)with|G=>G|V r1=>bif J (r1.t26<r1.t25)then if 0<=r1.t26/\r1.t26<r1.t24.length then bif J (r1.t24[r1.t26.toNat]!.bz=r1.t7)then match RJ r1.t24[r1.t26.toNat]!.ag r1.t24[r1.t26.toNat]!.ah with|G=>G|V r2=>if(r1.t5++[r2.fst]).length<=1073741824 then G else G else G else G else V (V (Ea.mk r1.t5 r1.t17 r1.t18 (i64.wrap (r1.t19+1)) r1.b0))else G else G else V (G)
def aaC:An:=(noTwo (noTwo (.two (noTwo (noTwo (Lk.lp NR .no))) .no)))
def axv(p:Ea):dQ w9 (F76) f76.ntmps 300 (aW f76 0) aaC (af Ea) (Oa.pat p) (rT Oa.rd)=D3 p:=by kernel_rfl
def Mc:=bJ (D3)
abbrev E76:=(aa aH)×Int
def d76:Td 0 E76:= .c [] [2,3] (.t (cA.s 2 [] 34) (.c [] [2,3] (.r 0 1 (ec 2 (qo 0) (ec 3 aL en)) (sr 0 34 sn) (λz=>(z.2.1,z.1.2.1)) (λx=>(((),x.2,()),(x.1,()))))))
def A76:=(lc (qg 26) ln)
def azy:An:=(noTwo (noTwo (noTwo (.two (noTwo (Oa.lp Mc aaC)) .no))))
def aF5:cR w9 (F76) 0 300 76 (azy):=bA (l:=[(aW f76 0,(Oa.lp Mc aaC)),(aW f76 1,(Lk.lp NR .no))]) func76 (aV (by kernel_rfl)) (by kernel_rfl) (az ⟨Oa.ok _,dh (axv)⟩ (az ⟨Lk.ok _,dh (awI)⟩ aF))
def m76(a0:aN):af E76:=
 match Xr a0 with|G=>G|V r4=>bif bif J (r4=0)then S else O then V ([],r4)else match Mc (Ea.mk [] [1,3] (2:Int) 0 a0)with|G=>G|V r5=>bif J (r5.t19<r5.t18)then if 0<=r5.t19/\r5.t19<r5.t17.length then if 129=129/\r5.t19.toNat<r5.t17.length then match NR (vh.mk r5.t5 r5.t17[r5.t19.toNat]! r5.t17 r5.t18 r5.t19 r5.b0.ai r5.b0.ai.length 0 r5.b0)with|G=>G|V r6=>bif J (r6.t26<r6.t25)then if 0<=r6.t26/\r6.t26<r6.t24.length then bif J (r6.t24[r6.t26.toNat]!.bz=r6.t7)then match RJ r6.t24[r6.t26.toNat]!.ag r6.t24[r6.t26.toNat]!.ah with|G=>G|V r7=>if(r6.t5++[r7.fst]).length<=1073741824 then G else G else G else G else G else G else G else V (r5.t5,0)
def c76(a0:aN):bL w9 (F76) 300 (azy) 76 (A76.c (a0,())) [] 0 d76.rd=m76 a0:=by kernel_rfl
def e76:=eL w9 76 S A76 d76 (λg=>m76 g.1)
def AF{F:aZ}(h:aQ w9 F):aQ w9 (e76 F):=cO (sc:=jr) cg (cF arB aF5 (λ_=>by kernel_rfl) (λ_=>by kernel_rfl) λg=>c76 g.1) ⟨_,func76,by kernel_rfl,by kernel_rfl⟩ (λ_=>by kernel_rfl) (λ_=>by kernel_rfl) h
def F39:aZ:=(ayX cZ)
def apc:aQ w9 F39:=(ah1 aR)
structure uD where
 t3:List aH
 t5:Int
 t10:List Int
 (t11 t12:Int)
 t17:List aX
 (t18 t19:Int)
 b0:aN
def Mr:Td 0 uD:= .c [] [1,3,5,10,11,12,17,18,19] (.r 0 3 (ec 1 (qp 0 0) (ec 3 (qo 1) (ec 5 aL (ec 10 (qo 2) (ec 11 aL (ec 12 aL (ec 17 (ql 131) (ec 18 aL (ec 19 aL en))))))))) (sb 0 26 (lg 26) (sr 1 34 (sr 2 129 sn))) (λz=>⟨z.t.1,z.1.t.1,z.t.2.1,z.1.q.1,z.1.q.2.1,z.1.q.t.1,z.1.q.t.2.1,z.1.q.q.1,z.2.1⟩) (λx=>(((),(),x.t5,(),x.t11,x.t12,x.t17,x.t18,x.t19,()),(x.b0,x.t3,x.t10,()))))
def GJ(p:uD):af (af uD):=
 bif J (p.t19<p.t18)then if 0<=p.t19/\p.t19<p.t17.length then bif J (p.t17[p.t19.toNat]!.bz=p.t5)then match iX p.t17[p.t19.toNat]!.ag p.t17[p.t19.toNat]!.ah 1with|G=>G|V r3=>if(p.t3++[r3.fst]).length<=1073741824 then V (V (uD.mk (p.t3++[r3.fst]) p.t5 p.t10 p.t11 p.t12 p.t17 p.t18 (i64.wrap (p.t19+1)) p.b0))else G else V (V (uD.mk p.t3 p.t5 p.t10 p.t11 p.t12 p.t17 p.t18 (i64.wrap (p.t19+1)) p.b0))else G else V (G)
def axR(p:uD):dQ w9 (F39) f39.ntmps 300 (aW f39 1) .no (af uD) (Mr.pat p) (rT Mr.rd)=GJ p:=by kernel_rfl
def NI:=bJ (GJ)
structure Fl where
 t3:List aH
 t10:List Int
 (t11 t12:Int)
 b0:aN
def Ma:Td 0 Fl:= .c [] [1,3,10,11,12] (.t (cA.s 3 [] 34) (.c [] [1,3,10,11,12] (.r 0 3 (ec 1 (qp 0 0) (ec 3 (qo 1) (ec 10 (qo 2) (ec 11 aL (ec 12 aL en))))) (sb 0 26 (lg 26) (sr 1 34 (sr 2 129 sn))) (λz=>⟨z.t.1,z.t.2.1,z.1.t.2.1,z.1.q.1,z.2.1⟩) (λx=>(((),(),(),x.t11,x.t12,()),(x.b0,x.t3,x.t10,()))))))
def Ew(p:Fl):af (af Fl):=
 bif J (p.t12<p.t11)then if 0<=p.t12/\p.t12<p.t10.length then if 129=129/\p.t12.toNat<p.t10.length then match NI (uD.mk p.t3 p.t10[p.t12.toNat]! p.t10 p.t11 p.t12 p.b0.ai p.b0.ai.length 0 p.b0)with|G=>G|V r1=>bif J (r1.t19<r1.t18)then if 0<=r1.t19/\r1.t19<r1.t17.length then bif J (r1.t17[r1.t19.toNat]!.bz=r1.t5)then match iX r1.t17[r1.t19.toNat]!.ag r1.t17[r1.t19.toNat]!.ah 1with|G=>G|V r2=>if(r1.t3++[r2.fst]).length<=1073741824 then G else G else G else G else V (V (Fl.mk r1.t3 r1.t10 r1.t11 (i64.wrap (r1.t12+1)) r1.b0))else G else G else V (G)
def aar:An:=(noTwo (noTwo (.two (noTwo (noTwo (Mr.lp NI .no))) .no)))
def auD(p:Fl):dQ w9 (F39) f39.ntmps 300 (aW f39 0) aar (af Fl) (Ma.pat p) (rT Ma.rd)=Ew p:=by kernel_rfl
def NW:=bJ (Ew)
abbrev E39:=aa aH
def d39:Td 0 E39:= .c [] [2] (.r 0 1 (ec 2 (qo 0) en) (sr 0 34 sn) (λz=>z.2.1) (λx=>(((),()),(x,()))))
def A39:=(lc (qg 26) ln)
def axM:An:=(noTwo (noTwo (.two (noTwo (Ma.lp NW aar)) .no)))
def aFf:cR w9 (F39) 0 300 39 (axM):=bA (l:=[(aW f39 0,(Ma.lp NW aar)),(aW f39 1,(Mr.lp NI .no))]) func39 (aV (by kernel_rfl)) (by kernel_rfl) (az ⟨Ma.ok _,dh (auD)⟩ (az ⟨Mr.ok _,dh (axR)⟩ aF))
def m39(a0:aN):af E39:=
 match NW (Fl.mk [] [1,3] (2:Int) 0 a0)with|G=>G|V r4=>bif J (r4.t12<r4.t11)then if 0<=r4.t12/\r4.t12<r4.t10.length then if 129=129/\r4.t12.toNat<r4.t10.length then match NI (uD.mk r4.t3 r4.t10[r4.t12.toNat]! r4.t10 r4.t11 r4.t12 r4.b0.ai r4.b0.ai.length 0 r4.b0)with|G=>G|V r5=>bif J (r5.t19<r5.t18)then if 0<=r5.t19/\r5.t19<r5.t17.length then bif J (r5.t17[r5.t19.toNat]!.bz=r5.t5)then match iX r5.t17[r5.t19.toNat]!.ag r5.t17[r5.t19.toNat]!.ah 1with|G=>G|V r6=>if(r5.t3++[r6.fst]).length<=1073741824 then G else G else G else G else G else G else G else V (r4.t3)
def c39(a0:aN):bL w9 (F39) 300 (axM) 39 (A39.c (a0,())) [] 0 d39.rd=m39 a0:=by kernel_rfl
def e39:=eL w9 39 S A39 d39 (λg=>m39 g.1)
def ar7{F:aZ}(h:aQ w9 F):aQ w9 (e39 F):=cO (sc:=jr) cg (cF apc aFf (λ_=>by kernel_rfl) (λ_=>by kernel_rfl) λg=>c39 g.1) ⟨_,func39,by kernel_rfl,by kernel_rfl⟩ (λ_=>by kernel_rfl) (λ_=>by kernel_rfl) h
def rZ(v:aX):aH:=if v.ag=v.ah then⟨v.ag,v.ag,0⟩else⟨v.ag,v.ah,1⟩
def ZA{a b:Int}(h: -1048576<=a/\a<=b/\b<=1048576):i64.wrap (a+i64.wrap (i64.wrap ((i64.wrap (b-a)).tdiv 1)*1))=b:=by
 have w1:i64.wrap (b-a)=b-a:=aG;rw[w1,Int.tdiv_one,w1,Int.mul_one,w1,aG];omega
def ajy{v:aX}(h: -1048576<=v.ag/\v.ag<=v.ah/\v.ah<=1048576):RJ v.ag v.ah=V (rZ v,0):=by
 unfold RJ aid lV iU gO rZ;rw[ZA h];have d1:J (-1099511627776<=v.ag)=O:=nH;have d2:J (v.ag<=1099511627776)=O:=nH;have d3:J (-1099511627776<=v.ah)=O:=nH;have d4:J (v.ah<=1099511627776)=O:=nH;have d5:J (v.ah<v.ag)=S:=gh;by_cases he:v.ag=v.ah
 ·simp[d1,d2,d3,d4,d5,he]
 ·simp[d1,d2,d3,d4,d5,he]
def ass{v:aX}(h: -1048576<=v.ag/\v.ag<=v.ah/\v.ah<=1048576):iX v.ag v.ah 1=V (rZ v,0):=by
 unfold iX n9 rZ;rw[ZA h];have d1:J (-1099511627776<=v.ag)=O:=nH;have d2:J (v.ag<=1099511627776)=O:=nH;have d3:J (-1099511627776<=v.ah)=O:=nH;have d4:J (v.ah<=1099511627776)=O:=nH;have d5:J (v.ah<v.ag)=S:=gh;by_cases he:v.ag=v.ah
 ·simp[d1,d2,d3,d4,d5,he]
 ·simp[d1,d2,d3,d4,d5,he]
def j7(kind:Int)(l:aa aX):aa aH:=(l.filter λv=>J (v.bz=kind)).map rZ
def HR(kind:Int)(l:aa aX)(v:aX):j7 kind (l++[v])=if v.bz=kind then j7 kind l++[rZ v]else j7 kind l:=by
 unfold j7;rw[y7,z8];by_cases h:v.bz=kind<;>simp[h]
def uo(kind:Int)(l:aa aX):(j7 kind l).length<=l.length:=by
 unfold j7;rw[zx];exact yh _ _
def Mj(f:aN)(hv:dg f.ai)(hl:f.ai.length<=1000000)(acc:aa aH)(ha:acc.length<=1000000)(kind:Int)(ks:aa Int)(n i:Int):NR ⟨acc,kind,ks,n,i,f.ai,(f.ai.length:Int),0,f⟩=V ⟨acc++j7 kind f.ai,kind,ks,n,i,f.ai,(f.ai.length:Int),(f.ai.length:Int),f⟩:=by
 obtain⟨v,e1,hV⟩:=dc (rnd:=GP) f.ai.length (λj (b:aa aH)=>⟨b,kind,ks,n,i,f.ai,(f.ai.length:Int),(j:Int),f⟩) (λj b=>b=acc++j7 kind (f.ai.take j)) (λj b hj hb=>by
  have hw:=fu hj hl;have hm:=ajy (hv _ (bh hj));have hlen:=uo kind (f.ai.take j);rw[zH]at hlen;have hi1:(j:Int)<(f.ai.length:Int):=by omega
  have hi0:(0:Int)<=(j:Int):=by omega
  rw[bK hj,HR];by_cases hk:f.ai[j]!.bz=kind
  ·refine⟨acc++(j7 kind (f.ai.take j)++[rZ f.ai[j]!]),?_,by rw[bE hk]⟩;subst hb;have hl2:((acc++j7 kind (f.ai.take j))++[rZ f.ai[j]!]).length<=1073741824:=by
    rw[zj,zj,yH];omega
   unfold GP;dsimp only;simp only[ze,hi1,hi0,cI,bC,cT,cB,hk,hm,hl2,hw];rw[yR]
  ·refine⟨b,?_,by rw[bO hk];exact hb⟩;unfold GP;dsimp only;simp only[ze,hi1,hi0,cI,bC,bB,cT,cB,hk,ep,hw]) (λb _=>by unfold GP;simp) (b:=acc) (by simp[j7])
 rw[zB]at hV;rw[<-hV];exact e1
def L6(f:aN)(hv:dg f.ai)(hl:f.ai.length<=1000000)(acc:aa aH)(ha:acc.length<=1000000)(kind:Int)(ks:aa Int)(n i:Int):NI ⟨acc,kind,ks,n,i,f.ai,(f.ai.length:Int),0,f⟩=V ⟨acc++j7 kind f.ai,kind,ks,n,i,f.ai,(f.ai.length:Int),(f.ai.length:Int),f⟩:=by
 obtain⟨v,e1,hV⟩:=dc (rnd:=GJ) f.ai.length (λj (b:aa aH)=>⟨b,kind,ks,n,i,f.ai,(f.ai.length:Int),(j:Int),f⟩) (λj b=>b=acc++j7 kind (f.ai.take j)) (λj b hj hb=>by
  have hw:=fu hj hl;have hm:=ass (hv _ (bh hj));have hlen:=uo kind (f.ai.take j);rw[zH]at hlen;have hi1:(j:Int)<(f.ai.length:Int):=by omega
  have hi0:(0:Int)<=(j:Int):=by omega
  rw[bK hj,HR];by_cases hk:f.ai[j]!.bz=kind
  ·refine⟨acc++(j7 kind (f.ai.take j)++[rZ f.ai[j]!]),?_,by rw[bE hk]⟩;subst hb;have hl2:((acc++j7 kind (f.ai.take j))++[rZ f.ai[j]!]).length<=1073741824:=by
    rw[zj,zj,yH];omega
   unfold GJ;dsimp only;simp only[ze,hi1,hi0,cI,bC,cT,cB,hk,hm,hl2,hw];rw[yR]
  ·refine⟨b,?_,by rw[bO hk];exact hb⟩;unfold GJ;dsimp only;simp only[ze,hi1,hi0,cI,bC,bB,cT,cB,hk,ep,hw]) (λb _=>by unfold GJ;simp) (b:=acc) (by simp[j7])
 rw[zB]at hV;rw[<-hV];exact e1
def kX(f:aN):aa aH:=j7 1 f.ai++j7 3 f.ai
def Z8(f:aN)(hv:dg f.ai)(hl:f.ai.length<=1000):Mc ⟨[],[1,3],2,0,f⟩=V ⟨kX f,[1,3],2,2,f⟩:=by
 have b1:=uo 1 f.ai;have e1:=Mj f hv (by omega) [] (by simp) 1 [1,3] 2 0;have e2:=Mj f hv (by omega) (j7 1 f.ai) (by omega) 3 [1,3] 2 1;have w0:i64.wrap 1=1:=rfl;have w1:i64.wrap 2=2:=rfl;have r1:D3 ⟨[],[1,3],2,0,f⟩=V (V ⟨j7 1 f.ai,[1,3],2,1,f⟩):=by
  unfold D3;simp[e1,w0]
 have r2:D3 ⟨j7 1 f.ai,[1,3],2,1,f⟩=V (V ⟨kX f,[1,3],2,2,f⟩):=by
  unfold D3;simp[e2,w1,kX]
 unfold Mc;rw[bM r1,bM r2];exact b9 λr=>by unfold D3;simp
def Zv(f:aN)(hv:dg f.ai)(hl:f.ai.length<=1000):NW ⟨[],[1,3],2,0,f⟩=V ⟨kX f,[1,3],2,2,f⟩:=by
 have b1:=uo 1 f.ai;have e1:=L6 f hv (by omega) [] (by simp) 1 [1,3] 2 0;have e2:=L6 f hv (by omega) (j7 1 f.ai) (by omega) 3 [1,3] 2 1;have w0:i64.wrap 1=1:=rfl;have w1:i64.wrap 2=2:=rfl;have r1:Ew ⟨[],[1,3],2,0,f⟩=V (V ⟨j7 1 f.ai,[1,3],2,1,f⟩):=by
  unfold Ew;simp[e1,w0]
 have r2:Ew ⟨j7 1 f.ai,[1,3],2,1,f⟩=V (V ⟨kX f,[1,3],2,2,f⟩):=by
  unfold Ew;simp[e2,w1,kX]
 unfold NW;rw[bM r1,bM r2];exact b9 λr=>by unfold Ew;simp
def arn(f:aN)(h:fO f.bI+jA (f.ak.map (·.aA))<=900)(hh:f.ak.length<=1000000)(hvl:f.ai.length<=1000):m76 f=V (if oI f=0 then(kX f,0)else([],oI f)):=by
 unfold m76;rw[Ua f h hh (by omega)];dsimp only;by_cases hc:oI f=0
 ·rw[bE hc,bY hc];have hv:=lC hc;rw[show ((↑(2:Int):Int))=2 from rfl,Z8 f hv hvl];simp
 ·rw[bO hc,bX hc];rfl
def arV(f:aN)(hv:dg f.ai)(hvl:f.ai.length<=1000):m39 f=V (kX f):=by
 unfold m39;rw[show ((↑(2:Int):Int))=2 from rfl,Zv f hv hvl];simp
def ZR:aZ:=oM w9 (JR (e40 cZ)) (λf=>zf f 35||zf f 40) 300 60
def Tw:aQ w9 ZR:=⟨mL (mb (sP aR)).ok (mb (sP aR)).nat 300 60,kO (mb (sP (aR (P:=w9)))).nat 300 60⟩
def f45:aN:=⟨[⟨⟨#[120]⟩,1,0,3,0⟩],[],[⟨1,1,0,0,⟨15,0,[⟨24,0,[]⟩,⟨0,2,[]⟩]⟩,[],[],[]⟩]⟩
def v45:bV:=⟨[],S⟩
def ads:aN->Bool
 |⟨[a],[],[⟨d,c,v,n,⟨o,m,[⟨o1,n1,[]⟩,⟨o2,n2,[]⟩]⟩,[],[],[]⟩]⟩=>J (a=⟨⟨#[120]⟩,1,0,3,0⟩)&&J ([d,c,v,n,o,m,o1,n1,o2,n2]=[1,1,0,0,15,0,24,0,0,2])
 |_=>S
def ajv{f:aN}(h:ads f=O):f=f45:=by
 unfold ads at h;split at h
 ·simp only[zi,decide_eq_true_eq,List.cons.injEq,and_true]at h;obtain⟨rfl,rfl,rfl,rfl,rfl,rfl,rfl,rfl,rfl,rfl,rfl⟩:=h;rfl
 ·cases h
def W7{β:Type}(T:aa (aa aH×β))(g:aN×bV×aa aH×Unit):af β:=bif ads g.1&&J (g.2.1=v45)then(T.find? λp=>J (p.1=g.2.2.1)).map (·.2)else G
def SP{β:Type}{T:aa (aa aH×β)}{g:aN×bV×aa aH×Unit}{b:β}(h:W7 T g=V b):∃x,(x,b)∈T/\g=(f45,v45,x,()):=by
 obtain⟨f,v,x,_⟩:=g;unfold W7 at h;cases k:ads f&&J (v=v45)with
 |false=>simp only[k]at h;cases h
 |true=>
  simp only[k,bC]at h;rw[zi,decide_eq_true_eq]at k;obtain⟨p,h1,rfl⟩:=zk.1 h;have h2:=List.find?_some h1;rw[decide_eq_true_eq]at h2;exact⟨x,h2▸List.mem_of_find?_eq_some h1,by rw[ajv k.1,k.2]⟩
def t25:aa (aa aH×Int×Int):=[([⟨0,3,1⟩],2,0),([⟨0,1,1⟩],1,0),([⟨2,3,1⟩],1,0)]
def t26:aa (aa aH×aD×Bool×Int):=[([⟨0,3,1⟩],⟨[],0⟩,S,0),([⟨0,1,1⟩],⟨[1],0⟩,O,0),([⟨2,3,1⟩],⟨[0],0⟩,O,0)]
def at2:cR w9 ZR 0 300 25 .no:=bA (l:=[]) func25 (aV (by kernel_rfl)) (by kernel_rfl) aF
def ax5:cR w9 ZR 0 300 26 .no:=bA (l:=[]) func26 (aV (by kernel_rfl)) (by kernel_rfl) aF
def k25:(t25.map λp=>bL w9 ZR 300 .no 25 (A25.c (f45,v45,p.1,())) [] 0 d25.rd)=t25.map λp=>V p.2:=by kernel_rfl
def k26:(t26.map λp=>bL w9 ZR 300 .no 26 (A26.c (f45,v45,p.1,())) [] 0 d26.rd)=t26.map λp=>V p.2:=by kernel_rfl
def aFl:HL w9 25 A25 d25 (W7 t25):=λg b hb=>by
 obtain⟨x,h1,rfl⟩:=SP hb;exact(jK (out:=λp=>gC w9 25 0 (d25.pat p)) (p:=b) Tw at2 d25.ok (λp=>by kernel_rfl) (iB (by kernel_rfl)) (ig (by kernel_rfl)) (List.map_inj_left.1 k25 _ h1)).2
def aCL:HL w9 26 A26 d26 (W7 t26):=λg b hb=>by
 obtain⟨x,h1,rfl⟩:=SP hb;exact(jK (out:=λp=>gC w9 26 0 (d26.pat p)) (p:=b) Tw ax5 d26.ok (λp=>by kernel_rfl) (iB (by kernel_rfl)) (ig (by kernel_rfl)) (List.map_inj_left.1 k26 _ h1)).2
def x25:aZ->aZ:=eL w9 25 S A25 d25 (W7 t25)
def x26:aZ->aZ:=eL w9 26 S A26 d26 (W7 t26)
def anV{F:aZ}(h:aQ w9 F):aQ w9 (x25 F):=cO (sc:=jr) cg aFl ⟨_,func25,by kernel_rfl,by kernel_rfl⟩ (λ_=>by kernel_rfl) (λ_=>by kernel_rfl) h
def atf{F:aZ}(h:aQ w9 F):aQ w9 (x26 F):=cO (sc:=jr) cg aCL ⟨_,func26,by kernel_rfl,by kernel_rfl⟩ (λ_=>by kernel_rfl) (λ_=>by kernel_rfl) h
def F45:aZ:=x25 (x26 (JR (e40 cZ)))
def abb:aQ w9 F45:=anV (atf (mb (sP aR)))
abbrev E45:=Bool
def d45:Td 0 E45:= .c [] [0] (.r 0 0 (ec 0 qb en) sn (λz=>z.1.1) (λx=>((x,()),(()))))
def A45:=ln
def Xe:E45:=O
def awW:Prop:=HL w9 45 A45 d45 (λ_=>V Xe)
def e45:=eL w9 45 S A45 d45 (λ_=>V Xe)
def akm(hv:awW){F:aZ}(h:aQ w9 F):aQ w9 (e45 F):=cO (sc:=jr) cg hv ⟨_,func45,by kernel_rfl,by kernel_rfl⟩ (λ_=>by kernel_rfl) (λ_=>by kernel_rfl) h
def Oo{F:aZ}{f:Nat}(h:bw F f):bw (e45 F) f:=eC h (λ_=>by kernel_rfl)
def t45:oM w9 F45 (λf=>zf f 25||zf f 26||zf f 35||zf f 40) 300 60 Bool 45 [] [] 0 (Py PM)=V O:=by kernel_rfl
def O9{P:Program}{f:FuncId}{xs:aa AV}{d:AV}(h:Iv.Fn P f xs [] (λa s=>a=d/\s=[]))(ha:∀ρ:Gh,xs.map (cc.sub ρ)=xs)(hd:∀ρ:Gh,d.sub ρ=d):K7 P f xs [] 0 ⟨d,[],0⟩:=λρ=>by
 rw[ha ρ];exact h.mono λa s ⟨h1,h2⟩=>⟨ρ,λ_ _=>⟨rfl,rfl⟩,by rw[h1];exact(hd ρ).symm,by rw[h2];exact List.Perm.refl _⟩
def apo:gC w9 45 0 (d45.pat Xe)=⟨.b O,[],0⟩:=by kernel_rfl
def aC2:awW:=λg b hb=>by
 cases hb;rw[apo];exact O9 (Pq (mL (P:=w9) abb.ok abb.nat 300 60) P0.b rfl (λd hd=>by cases hd) t45).2 (λ_=>rfl) (λρ=>jZ 2 (by kernel_rfl))
end Go.Proofs.YtnfljbehcffmcaaGreat
end
noncomputable section
namespace Go.Iv
variable [U:qO] [L:mI]
open Go Go.RowKit
end Go.Iv
end
noncomputable section
set_option maxRecDepth 100000
namespace Go.Proofs.YtnfljbehcffmcaaGreat
open Go Go.Iv
open Go.IntKind (i64 u64)
def aoW:aZ:=(e21 cZ)
def aiw:aQ w9 aoW:=(aoq aR)
abbrev axZ:=Int
def d119:Td 0 axZ:= .c [] [6] (.r 0 0 (ec 6 aL en) sn (λz=>z.1.1) (λx=>((x,()),(()))))
def awS:=(lc (qg 26) (lc (qg 29) (lc (ql 34) ln)))
def alA:An:= .no
def aud:cR w9 (aoW) 0 300 119 (alA):=bA (l:=[]) func119 (aV (by kernel_rfl)) (by kernel_rfl) aF
def ac1(a0:aN)(a1:bV)(a2:aa aH):af axZ:=
 match m21 a0 a1 a2 with|G=>G|V r1=>V (r1)
def aDn(a0:aN)(a1:bV)(a2:aa aH):bL w9 (aoW) 300 (alA) 119 (awS.c (a0,a1,a2,())) [] 0 d119.rd=ac1 a0 a1 a2:=by kernel_rfl
def awl:=eL w9 119 S awS d119 (λg=>ac1 g.1 g.2.1 g.t.1)
def adg{F:aZ}(h:aQ w9 F):aQ w9 (awl F):=cO (sc:=jr) cg (cF aiw aud (λ_=>by kernel_rfl) (λ_=>by kernel_rfl) λg=>aDn g.1 g.2.1 g.t.1) ⟨_,func119,by kernel_rfl,by kernel_rfl⟩ (λ_=>by kernel_rfl) (λ_=>by kernel_rfl) h
def F55:aZ:=(awl cZ)
def apZ:aQ w9 F55:=(adg aR)
abbrev E55:=Int
def d55:Td 0 E55:= .c [] [4] (.r 0 0 (ec 4 aL en) sn (λz=>z.1.1) (λx=>((x,()),(()))))
def A55:=(lc (qg 26) (lc (qg 29) ln))
def ay5:An:=(noTwo (.two (noTwo (.two (.rb [] 14) .no)) .no))
def aFE:∀f∈([]:aa Nat),bw (F55) f:=aF
def aFr:cR w9 (F55) 0 300 55 (ay5):=bA (l:=[(.skip,(.rb [] 14))]) func55 (aV (by kernel_rfl)) (by kernel_rfl) (az aFE aF)
def m55(a0:aN)(a1:bV):af E55:=
 match ac1 a0 a1 []with|G=>G|V r1=>match bif bif J (r1=0)then S else O then V (bif J (r1=2)then S else O)else V (S)with|G=>G|V r2=>bif r2 then V (r1)else V (0)
def c55(a0:aN)(a1:bV):bL w9 (F55) 300 (ay5) 55 (A55.c (a0,a1,())) [] 0 d55.rd=m55 a0 a1:=by kernel_rfl
def e55:=eL w9 55 S A55 d55 (λg=>m55 g.1 g.2.1)
def asY{F:aZ}(h:aQ w9 F):aQ w9 (e55 F):=cO (sc:=jr) cg (cF apZ aFr (λ_=>by kernel_rfl) (λ_=>by kernel_rfl) λg=>c55 g.1 g.2.1) ⟨_,func55,by kernel_rfl,by kernel_rfl⟩ (λ_=>by kernel_rfl) (λ_=>by kernel_rfl) h
def F4{F:aZ}{f:Nat}(h:bw F f):bw (e55 F) f:=eC h (λ_=>by kernel_rfl)
def qQ{α:Type}{c:Nat->α->Int}{k:Int}(hk:k≠0)(h:∀i x,c i x≠k):∀(l:aa α) (i:Nat),cu c l i≠k
 |[],_=>by unfold cu;omega
 |x::l,i=>by
  unfold cu;have:=qQ hk h l (i+1);have:=h i x;split<;>assumption
def Mz(vars:aa aX)(inp:Bool)(t:au):eW vars inp t≠2:=by unfold eW;grind
def u9(f:aN):∀(top:Bool) (l:aa ay),ct f top l≠2
 |_,[]=>by rw[ct];decide
 |top,s::l=>by
  rw[ct];have h1:=u9 f S s.aM;have h2:=u9 f S s.aS;have h3:=u9 f top l;have h0:mW f (top&&l.isEmpty) s≠2:=by
   have:=Mz f.ai S s.aA;unfold mW;grind
  grind
termination_by _ l=>zg l
decreasing_by
 all_goals first|exact(bt (zo ..)).1|exact(bt (zo ..)).2|exact dY _ _
def ato(f:aN):oI f≠2:=by
 have h1:jy f.ai≠2:=by
  have:=qQ (c:=lQ f.ai) (k:=2) (by decide) (λi x=>by unfold lQ;grind) f.ai 0;unfold jy;grind
 have h2:=qQ (c:=kf f) (k:=2) (by decide) (λi x=>by have:=Mz f.ai O x.aA;unfold kf;grind) f.ak 0;have h3:=u9 f O f.bI;unfold oI;grind
def cdA(f:aN)(v:bV):Int:=if oI f≠0 then oI f else if v.aU.length≠(f.ai.filter (kd 2)).length then 1 else cu (jq v.aU) (f.ai.filter (kd 2)) 0
def aq5(f:aN)(v:bV):cdA f v≠2:=by
 have:=ato f;have:=qQ (c:=jq v.aU) (k:=2) (by decide) (λi x=>by
  unfold jq;cases J (v.aU[i]! <x.ag)<;>cases J (x.ah<v.aU[i]!)<;>decide) (f.ai.filter (kd 2)) 0
 unfold cdA;grind
def akC(f:aN)(v:bV):tZ f v []=cdA f v\/(cdA f v=0/\tZ f v []=2):=by
 unfold tZ cdA;by_cases h1:oI f=0
 case neg=>simp[h1]
 by_cases h2:v.aU.length=(f.ai.filter (kd 2)).length
 case neg=>simp[h1,h2]
 by_cases h3:cu (jq v.aU) (f.ai.filter (kd 2)) 0=0
 case neg=>simp[h1,h2,h3]
 by_cases h4:(dM f.ai).length=0
 ·have h5:=xg.1 h4;simp[h1,h2,h3,h5,cu]
 ·have h5:¬(0:Nat)=(dM f.ai).length:=λh=>h4 h.symm;simp[h1,h2,h3,h5]
def ayl{f:aN}(h:fO f.bI+jA (f.ak.map (·.aA))<=900)(hh:f.ak.length<=1000)(hl:f.ai.length<=1000)(v:bV):m55 f v=V (cdA f v):=by
 unfold m55 ac1;rw[aAr h hh hl];have:=aq5 f v;rcases akC f v with k|⟨k1,k2⟩
 ·rw[k];by_cases c0:cdA f v=0<;>simp[c0,this]
 ·rw[k1,k2];rfl
def Hp{α:Type}[Inhabited α]{c:Nat->α->Int}:∀(l:aa α) (i:Nat),(∀j,j<l.length->c (i+j) l[j]! =0)->cu c l i=0
 |[],_,_=>rfl
 |x::l,i,h=>by
  unfold cu;have h0:=h 0 (by simp);rw[yt]at h0;rw[bE (show c i x=0 from h0)];refine Hp l (i+1) λj hj=> ?_;have:=h (j+1) (by simpa using hj);rw[show i+1+j=i+(j+1)by omega];simpa using this
def aiI{v:aX}(h: -1048576<=v.ag/\v.ag<=v.ah/\v.ah<=1048576):NN (rZ v)/\(rZ v).ag=v.ag/\(rZ v).ah=v.ah:=by
 unfold rZ;by_cases e:v.ag=v.ah
 ·rw[bE e];exact⟨⟨by show _<=v.ag;omega,by show v.ag<=_;omega,zm _, .inl ⟨rfl,rfl⟩⟩,rfl,e⟩
 ·rw[bO e];exact⟨⟨by show _<=v.ag;omega,by show v.ah<=_;omega,by show v.ag<=v.ah;omega, .inr ⟨by show v.ag<v.ah;omega,by show (1:Int)<=1;omega,by show (v.ah-v.ag)%1=0;omega⟩⟩,rfl,rfl⟩
def uS(f:aN):kX f=(dM f.ai).map rZ:=by
 unfold kX j7 dM;rw[z8];rfl
def Jc{f:aN}(hc:oI f=0){j:Nat}(hj:j<(dM f.ai).length): -1048576<=(dM f.ai)[j]!.ag/\(dM f.ai)[j]!.ag<=(dM f.ai)[j]!.ah/\(dM f.ai)[j]!.ah<=1048576:=by
 refine lC hc _ ?_;have:=bh hj;unfold dM at this;rcases zW.1 this with k|k<;>exact(zZ.1 k).1
def Tf{l:aa Int}(h:l.length<=1000):Qq l=V l:=by unfold Qq;rw[gY]
def jv:aa Int->aa Int->Int
 |[],[]=>0
 |[],_::_=> -1
 |_::_,[]=>1
 |x::a,y::b=>if x<y then-1 else if y<x then 1 else jv a b
def pq:∀a b,jv b a= -jv a b
 |[],[]=>rfl
 |[],_::_=>rfl
 |_::_,[]=>rfl
 |x::a,y::b=>by
  have:=pq a b;unfold jv;split<;>split<;>(try split)<;>omega
def Ci:∀a b c,jv a b<=0->jv b c<=0->jv a c<=0
 |[],[],_,_,h=>h
 |[],_::_,[],_,h=>by unfold jv at h;omega
 |[],_::_,_::_,_,_=>by unfold jv;omega
 |_::_,[],_,h,_=>by unfold jv at h;omega
 |_::_,_::_,[],_,h=>by unfold jv at h;omega
 |x::a,y::b,z::c,h,k=>by
  have:=Ci a b c;simp only[jv]at h k ⊢;split at h<;>split at k<;>split<;>(try split)<;>(try split at h)<;>(try split at k)<;>omega
def rK:∀a b,jv a b=0->a=b
 |[],[],_=>rfl
 |[],_::_,h=>by unfold jv at h;omega
 |_::_,[],h=>by unfold jv at h;omega
 |x::a,y::b,h=>by
  unfold jv at h;split at h
  ·omega
  ·split at h
   ·omega
   ·rw[rK a b h,show x=y by omega]
def G5:∀a,jv a a=0
 |[]=>rfl
 |x::a=>by unfold jv;rw[G5 a];simp
def fB(x y:aD):Int:=if jv x.aY y.aY≠0 then jv x.aY y.aY else if x.aI<y.aI then-1 else if y.aI<x.aI then 1 else 0
def eN(a b:aD):fB b a= -fB a b:=by
 have:=pq a.aY b.aY;unfold fB;grind
def nZ(a b c:aD)(h:fB a b<=0)(k:fB b c<=0):fB a c<=0:=by
 have h1:=Ci a.aY b.aY c.aY;have h2:=rK a.aY b.aY;have h3:=rK b.aY c.aY;have h4:=pq a.aY c.aY;have h5:=Ci c.aY a.aY b.aY;have h6:=Ci b.aY c.aY a.aY;have h7:=pq b.aY c.aY;have h8:=pq a.aY b.aY;unfold fB at*;by_cases e1:jv a.aY b.aY=0
 ·have:=h2 e1;rw[bO (by omega)]at h;rw[this];by_cases e2:jv b.aY c.aY=0
  ·rw[bO (by omega)]at k;rw[bO (by omega)];split at h<;>split at k<;>split<;>(try split at h)<;>(try split at k)<;>(try split)<;>omega
  ·rw[bE e2]at k;rw[bE e2];exact k
 ·rw[bE e1]at h;by_cases e2:jv b.aY c.aY=0
  ·rw[<-h3 e2,bE e1];exact h
  ·rw[bE e2]at k;have h9:=h1 h k;have:jv a.aY c.aY≠0:=λe=>by
    have:=h5 (by omega) h;omega
   rw[bE this];exact h9
def G3{a b:aD}(h:fB a b=0):a=b:=by
 unfold fB at h;split at h
 ·exact dD h ‹_›
 ·have e:=rK a.aY b.aY (by omega);split at h
  ·omega
  ·split at h
   ·omega
   ·obtain⟨a1,a2⟩:=a;obtain⟨b1,b2⟩:=b;simp only at*;rw[e,show a2=b2 by omega]
def Hx(a:aD):fB a a=0:=by unfold fB;simp[G5]
def ajY(x y:Int):GA x y=if x<y then-1 else if y<x then 1 else 0:=by
 unfold GA Gp;simp only[cI,bC,bB];by_cases h:x<y
 ·simp[h]
 ·by_cases k:y<x<;>simp[h,k]
def wI{i n:Nat}(h:i<n)(hn:n<=9223372036854775807):i64.wrap ((i:Int)+1)=((i+1:Nat):Int):=by rw[aG (by omega) (by omega)];omega
def ae1(a b:aa Int)(ha:a.length<=9223372036854775807):aat a b=V (jv a b):=by
 obtain⟨step,hs⟩:∃step:Nat->Unit->Int->Unit ⊕ Int,step=λi _ x=>if b.length<=i then .inr 1 else if GA x b[i]!≠0 then .inr (GA x b[i]!)else .inl ():=⟨_,rfl⟩
 obtain⟨fin,hf⟩:∃fin:Unit->af Int,fin=λ_=>V (if a.length<b.length then-1 else 0):=⟨_,rfl⟩;obtain⟨i,v,e1,-,hI⟩:=TE (rnd:=sN) a (λi (_:Unit)=>⟨a,b,a,(a.length:Int),(i:Int)⟩) step V fin (λ_ _=>True) (λi v hi _=>by
  have hw:=wI hi ha;have i1:(i:Int)<(a.length:Int):=by omega
  have i2:(0:Int)<=(i:Int):=by omega
  rw[hs];refine⟨λb' h=>⟨?_,trivial⟩,λr h=> ?_⟩<;>dsimp only at h
  ·split at h
   ·cases h
   ·split at h
    ·cases h
    ·rename_i g1 g2;have g3:¬(b.length:Int)<=(i:Int):=by omega
     have g4:(i:Int)<(b.length:Int):=by omega
     unfold sN;simp only[ze,i1,i2,g3,g4,cI,ep,bC,bB,cT,cB,hw,Decidable.not_not.1 g2]
  ·split at h
   ·rename_i g1;have g3:(b.length:Int)<=(i:Int):=by omega
    unfold sN;simp only[ze,i1,i2,g3,cI,bC,cT,cB]
   ·split at h
    ·rename_i g1 g2;have g3:¬(b.length:Int)<=(i:Int):=by omega
     have g4:(i:Int)<(b.length:Int):=by omega
     unfold sN;simp only[ze,i1,i2,g3,g4,cI,ep,bC,bB,cT,cB,g2]
    ·cases h) (λv _=>by unfold sN;simp) (b:=()) trivial
 have e1':Jr ⟨a,b,a,(a.length:Int),0⟩=V ⟨a,b,a,(a.length:Int),(i:Int)⟩:=e1;have key:∀(l:aa Int) (k:Nat),k<=b.length->a.length=k+l.length->M1 step V fin l k ()=V (jv l (b.drop k)):=by
  intro l;induction l with
  |nil=>
   intro k hk hl;simp only[M1,hf];simp only[yB,yt]at hl;by_cases h:k=b.length
   ·rw[h,List.drop_length,bO (by omega)];rfl
   ·rw[xu (by omega),bE (by omega)];rfl
  |cons x l ih=>
   intro k hk hl;simp only[yN]at hl;by_cases h:k=b.length
   ·rw[nM (r:=1) (by rw[hs];simp[h]),h,List.drop_length];rfl
   ·have hk':k<b.length:=by omega
    rw[xu hk'];have e:=ajY x b[k]!;have eb:b[k]! =b[k]:=getElem!_pos b k hk';rw[eb]at e;unfold jv;by_cases h1:x<b[k]
    ·rw[nM (r:= -1) (by rw[hs];simp[show ¬b.length<=k by omega,e,eb,h1]),bE h1]
    ·by_cases h2:b[k]<x
     ·rw[nM (r:=1) (by rw[hs];simp[show ¬b.length<=k by omega,e,eb,h1,h2]),bO h1,bE h2]
     ·rw[rC (b':=()) (by rw[hs];simp[show ¬b.length<=k by omega,e,eb,h1,h2]),bO h1,bO h2];exact ih (k+1) (by omega) (by omega)
 have hk:=key a 0 (by omega) (by omega);rw[List.drop_zero]at hk;rw[<-hk];unfold aat
 simp only[e1'];rcases hI with ⟨rfl,hg⟩|⟨hi,r,hr,hg⟩
 ·rw[hg,hf];simp only[ya,ep,bB];by_cases h:a.length<b.length
  ·rw[bE h,bY (by omega:(a.length:Int)<(b.length:Int))];rfl
  ·rw[bO h,bX (by omega:¬(a.length:Int)<(b.length:Int))];rfl
 ·rw[hg];have i1:(i:Int)<(a.length:Int):=by omega
  have i2:(0:Int)<=(i:Int):=by omega
  rw[hs]at hr;simp only at hr;split at hr
  ·rename_i g1;have g3:(b.length:Int)<=(i:Int):=by omega
   simp only[ze,i1,i2,g3,cI,bC,cT,cB];cases hr;rfl
  ·split at hr
   ·rename_i g1 g2;have g3:¬(b.length:Int)<=(i:Int):=by omega
    have g4:(i:Int)<(b.length:Int):=by omega
    simp only[ze,i1,i2,g3,g4,cI,ep,bC,bB,cT,cB,g2];cases hr;rfl
   ·cases hr
def uv(a b:aD)(ha:a.aY.length<=9223372036854775807):Gy a b=V (fB a b):=by
 unfold Gy fB;rw[ae1 _ _ ha];dsimp only;by_cases h:jv a.aY b.aY=0
 ·by_cases h1:a.aI<b.aI
  ·simp[h,h1]
  ·by_cases h2:b.aI<a.aI<;>simp[h,h1,h2]
 ·simp[h]
def AY:aD->aa aD->aa aD
 |_,[]=>[]
 |p,y::l=>if fB y p=0 then AY y l else y::AY y l
def Dh:aa aD->aa aD
 |[]=>[]
 |x::l=>x::AY x l
end Go.Proofs.YtnfljbehcffmcaaGreat
end
noncomputable section
namespace Go.Proofs.YtnfljbehcffmcaaGreat
open Go Go.Iv Go.Sort Go.Proofs
abbrev Ob(A:Nat->Prop)(w:World):={p:aD×aa Value//p.2.length=2/\bN A w (uni.cells 47 p.1) p.2}
section
variable {A:Nat->Prop} {w:World}
def alF{o:aD}{us:aa Value}(h:us.length=2/\bN A w (uni.cells 47 o) us):∃u v,us=[u,v]/\Rel A w (.sl 3 o.aY) u/\v= .int .i64 o.aI:=by
 obtain⟨h1,h2⟩:=h
 match us,h1 with
 |[u,v],_=>exact⟨u,v,rfl,h2.2 0 _ _ rfl rfl,(h2.2 1 (.lit (.int .i64 o.aI)) v rfl rfl).cH⟩
def Yg{o:aD}{u:Value}(h:Rel A w (.sl 3 o.aY) u):bN A w (uni.cells 47 o) [u, .int .i64 o.aI]:=
 ⟨rfl,λj a v h1 h2=>by
  match j with
  |0=>cases h1;cases h2;exact h
  |1=>cases h1;cases h2;exact .lit _
  |j+2=>cases h1⟩
def au0:Rel A w (.sl 3 ([]:aa Int)) (.slice none 0 0):=Rel.sl (U:=uni) 3 [] none 0 (λ_ _=> .int .i64 0) (yT _) (zn _) (λi hi=>by cases hi) (λi hi=>by cases hi) (λi j a hi=>by cases hi)
instance:Inhabited (Ob A w):=⟨⟨(⟨[],0⟩,[.slice G 0 0, .int .i64 0]),rfl,Yg au0⟩⟩
def oL(x:Ob A w):aa Value:=x.1.2
def uH(x:Ob A w):(oL x).length=2:=x.2.1
def UG(x:Ob A w):∀v∈oL x,v.oneCell'=O:=λv hv=>by
 obtain⟨u,t,h1,h2,h3⟩:=alF x.2;unfold oL at hv;rw[h1]at hv;rcases zD.1 hv with rfl|hv
 ·cases h2;rfl
 ·rw[zy.1 hv,h3];rfl
def am8(x:Ob A w):x.1.1.aY.length<=9223372036854775807:=by
 obtain⟨u,t,h1,h2,h3⟩:=alF x.2;generalize x.1.1.aY=l at h2;cases h2 with
 |sl t l p cap u hl hcap hz hc hr=>exact hl
def Wa{α:Type}[Inhabited α](enc:α->aa Value)(d:Array α){us:aa Value}(h1:us.length=d.size*2)(h:∀i,i<d.size->enc d[i]! =(us.drop (i*2)).take 2):flatK enc 2 d=us.toArray:=by
 refine ext_get! (by simp[h1]) λt ht=> ?_;have ht:t<d.size*2:=by simpa using ht
 rw[get_flatK _ _ _ _ ht,h _ (by omega)];have e:(us.toArray:Array Value)[t]! =us[t]! :=by simp
 rw[e,getElem!_pos us t (by omega),getElem!_pos _ _ (by simp;omega),we,wG]
 congr 1
 omega
def GN{α:Type}[Inhabited α]{enc:α->aa Value}{d:Array α}{W:World}{g:Nat}{cur:Array Value}{T:TypeId}{us:aa Value}(hb:W.heap[g]? =V (.cells cur T (0,0)))(hf:flatK enc 2 d=us.toArray)(hc:cur.toList.take us.length=us):HoldsK enc 2 W g 0 d:=by
 unfold HoldsK;rw[hf];intro j hj;have hj':j<us.length:=by simpa using hj
 refine⟨?_,by simp[World.frozen?,hb]⟩;have h1:(cur.toList.take us.length)[j]? =us[j]? :=by rw[hc]
 rw[wN hj']at h1;simp only[World.cell?,hb,yp];simp only[Option.isSome_none,yA,gG];rw[<-wY,h1];simp[hj']
def tA{α:Type}[Inhabited α]{enc:α->aa Value}{W:World}{g m:Nat}{dk:Array α}{os:Array Obj}{cur:Array Value}{T:TypeId}(hb:W.heap[g]? =V (.cells cur T (0,0))):
  (sortWorldK enc 2 W g 0 m dk os).heap[g]? =V (.cells (putCells id 0 (flatK enc 2 dk) cur) T (0,0)):=by
 have hg:g<W.heap.size:=(xE.1 hb).1;unfold sortWorldK putRowK;rw[heap_grow_old _ _ (by simpa using hg)];simp[putRow,mapBlock,Sort.ahead,wZ,hb,onCells]
def pL{α:Type}[Inhabited α]{enc:α->aa Value}{W:World}{g m:Nat}{dk:Array α}{os:Array Obj}{b:Nat}(hb:b<W.heap.size)(hne:b≠g):
  (sortWorldK enc 2 W g 0 m dk os).heap[b]? =W.heap[b]? :=by
 unfold sortWorldK putRowK;rw[heap_grow_old _ _ (by simpa using hb)];simp[putRow,mapBlock,Sort.ahead,wZ,Ne.symm hne]
def P3{α:Type}[Inhabited α]{enc:α->aa Value}{W:World}{g m:Nat}{dk:Array α}{os:Array Obj}:W.heap.size<=(sortWorldK enc 2 W g 0 m dk os).heap.size:=size_sortWorldK_c enc 2 W g 0 m dk os
def Lf{α:Type}[Inhabited α]{enc:α->aa Value}{W:World}{g m:Nat}{dk:Array α}{os:Array Obj}:Kp [g] W (sortWorldK enc 2 W g 0 m dk os):=
 ⟨rfl,rfl,rfl,Nat.le_add_right _ _,P3,λk hk hn=>pL hk (by simpa using hn)⟩
def MZ{F cur:Array Value}(h:F.size<=cur.size):(putCells id 0 F cur).toList.take F.size=F.toList:=by
 apply List.ext_getElem?;intro j;by_cases hj:j<F.size
 ·rw[wN hj,wY];simp[putCells,hj,show j<cur.size by omega]
 ·rw[List.getElem?_take_eq_none (by omega),x9 (by simp;omega)]
def ait{W W':World}(h:Kp [] W W'):∃q os,W'=grow (W.drewN q) os:=by
 refine⟨W'.drawn-W.drawn,W'.heap.extract W.heap.size W'.heap.size,?_⟩;have e1:=h.os;have e2:=h.tape;have e3:=h.output;have e4:=h.drawn
 have e5:W'.heap=W.heap++W'.heap.extract W.heap.size W'.heap.size:=by
  apply Array.ext_getElem?;intro k;rw[Array.getElem?_append];have hs:=h.size;split
  ·exact h.block k (by assumption) (by simp)
  ·rename_i hk;rw[Array.getElem?_extract];by_cases h2:k<W'.heap.size
   ·rw[bE (by omega),show W.heap.size+(k-W.heap.size)=k by omega]
   ·rw[bO (by omega),Array.getElem?_eq_none (by omega)]
 obtain⟨hp,tp,dr,os,ot⟩:=W;obtain⟨hp',tp',dr',os',ot'⟩:=W';simp only at e1 e2 e3 e4;simp only[grow,World.drewN,World.mk.injEq];exact⟨e5,e2,by omega,e1,e3⟩
def anR:aZ:=(Bk cZ)
def afw:aQ w9 anR:=(rJ aR)
abbrev atU:=Bool
def d252:Td 0 atU:= .c [] [4] (.r 0 0 (ec 4 qb en) sn (λz=>z.1.1) (λx=>((x,()),(()))))
def aBh:=(lc (qg 47) (lc (qg 47) ln))
def amU:An:= .no
def azT:cR w9 (anR) 0 300 252 (amU):=bA (l:=[]) func252 (aV (by kernel_rfl)) (by kernel_rfl) aF
def aeK(a0:aD)(a1:aD):af atU:=
 match Gy a0 a1 with|G=>G|V r1=>V (J (r1=0))
def aE6(a0:aD)(a1:aD):bL w9 (anR) 300 (amU) 252 (aBh.c (a0,a1,())) [] 0 d252.rd=aeK a0 a1:=by kernel_rfl
def arc:=eL w9 252 S aBh d252 (λg=>aeK g.1 g.2.1)
def akh{F:aZ}(h:aQ w9 F):aQ w9 (arc F):=cO (sc:=jr) cg (cF afw azT (λ_=>by kernel_rfl) (λ_=>by kernel_rfl) λg=>aE6 g.1 g.2.1) ⟨_,func252,by kernel_rfl,by kernel_rfl⟩ (λ_=>by kernel_rfl) (λ_=>by kernel_rfl) h
def awh(a b:aD)(h:a.aY.length<=9223372036854775807):Iv.Fn w9 188 [.agg (uni.cells 47 a), .agg (uni.cells 47 b)] [] (λx s=>x= .n .i64 (fB a b)/\s=[]):=
 (Pq (F:=Bk cZ) (rJ aR).ok (P0.i .i64) rfl (iB (by kernel_rfl)) ((show Bk cZ Int 188 [.agg (uni.cells 47 a), .agg (uni.cells 47 b)] [] 0 (Py (iw .i64))=(match Gy a b with|G=>G|V r=>V r)from by kernel_rfl).trans (by rw[uv a b h]))).2
def ayE(a b:aD)(h:a.aY.length<=9223372036854775807):Iv.Fn w9 252 [.agg (uni.cells 47 a), .agg (uni.cells 47 b)] [] (λx s=>x= .b (J (fB a b=0))/\s=[]):=
 (Pq (F:=arc cZ) (akh aR).ok P0.b rfl (iB (by kernel_rfl)) ((show arc cZ Bool 252 [.agg (uni.cells 47 a), .agg (uni.cells 47 b)] [] 0 (Py PM)=(match aeK a b with|G=>G|V r=>V r)from by kernel_rfl).trans (by unfold aeK;rw[uv a b h]))).2
def TD{f:Nat}{x y:Ob A w}{r:Value}(hf:Iv.Fn w9 f [.agg (uni.cells 47 x.1.1), .agg (uni.cells 47 y.1.1)] [] (λa s=>a= .lit r/\s=[])){W:World}(hW:∀b,b<w.heap.size->A b->W.heap[b]? =w.heap[b]?):
  Calls w9 f #[.agg (oL x).toArray, .agg (oL y).toArray] W λe w'=>e= .returned r/\∃q os',w'=grow (W.drewN q) os':=by
 have hr:∀z:Ob A w,bN A W (uni.cells 47 z.1.1) (oL z):=λz=>z.2.2.mono λb hb hA=>⟨hA,hW b hb hA⟩;refine(hf W A [.agg (oL x).toArray, .agg (oL y).toArray] ⟨rfl,λj a v h1 h2=> ?_⟩ ⟨λr hr=>(by cases hr),λb hb=>(by cases hb)⟩ List.nodup_nil).mono λe w' ⟨v,av,σ',he,⟨h1,h2⟩,ht,hv⟩=> ?_
 ·match j with
  |0=>cases h1;cases h2;exact .agg _ _ (hr x).1 (hr x).2
  |1=>cases h1;cases h2;exact .agg _ _ (hr y).1 (hr y).2
  |j+2=>cases h1
 ·rw[h1]at hv;exact⟨by rw[he,hv.cH],ait ht.kp⟩
def BX:SWO (ltOf fB) where
 irrefl x:=by unfold ltOf;rw[Hx];rfl
 trans x y z h1 h2:=by
  unfold ltOf at*;simp only[decide_eq_true_eq]at*;have a:=eN x y;have b:=eN y z;have c:=eN x z
  have:=nZ z x y;by_cases h:fB x z<0
  ·exact h
  ·have:=this (by omega) (by omega);omega
 ntrans x y z h1 h2:=by
  unfold ltOf at*;simp only[decide_eq_false_iff_not]at*;have a:=eN x y;have b:=eN y z;have c:=eN x z
  have:=nZ z y x (by omega) (by omega);omega
def ai7(x y:aD)(h1:ltOf fB x y=S)(h2:ltOf fB y x=S):x=y:=by
 unfold ltOf at*;simp only[decide_eq_false_iff_not]at*;have a:=eN x y;exact G3 (by omega)
def Fx(l:aa aD):aa aD:=l.mergeSort λx y=> !ltOf fB y x
def obC(x y:Ob A w):Int:=fB x.1.1 y.1.1
def adG:SWO (ltOf (obC (A:=A) (w:=w))):=⟨λx=>BX.irrefl x.1.1,λx y z=>BX.trans x.1.1 y.1.1 z.1.1,λx y z=>BX.ntrans x.1.1 y.1.1 z.1.1⟩
end
def ak1{A:Nat->Prop}{w:World}{l:aa aD}{us:aa Value}(h1:us.length=l.length*2)(h3:∀i,i<l.length->bN A w (uni.cells 47 l[i]!) ((us.drop (i*2)).take 2)):
  ∃d:Array (Ob A w),d.size=l.length/\(d.toList.map λx=>x.1.1)=l/\flatK oL 2 d=us.toArray:=by
 have hx:∀i:Fin l.length,((us.drop (i.1*2)).take 2).length=2/\bN A w (uni.cells 47 l[i]) ((us.drop (i.1*2)).take 2):=λi=>by
  have hi:=i.2;refine⟨by rw[zH,ym];omega,?_⟩;have:=h3 i.1 hi
  rwa [getElem!_pos l i.1 hi]at this
 refine⟨Array.ofFn λi:Fin l.length=>(⟨(l[i],(us.drop (i.1*2)).take 2),hx i⟩:Ob A w),by simp,?_,Wa _ _ (by simpa using h1) λi hi=> ?_⟩
 ·apply wB (by simp);intro i q1 q2;simp
 ·have hi':i<l.length:=by simpa using hi
  rw[getElem!_pos _ i hi];simp[oL]
def Ze{A:Nat->Prop}{w:World}(d:Array (Ob A w))(l:aa aD)(h:(d.toList.map λx=>x.1.1)=l):(flatK oL 2 d).toList.length=l.length*2/\∀i,i<l.length->bN A w (uni.cells 47 l[i]!) (((flatK oL 2 d).toList.drop (i*2)).take 2):=by
 have hs:d.size=l.length:=by rw[<-h];simp
 refine⟨by simp[hs],λi hi=> ?_⟩;have e:(((flatK oL 2 d).toList.drop (i*2)).take 2)=oL d[i]! :=by
  apply wB
  ·rw[uH,zH,ym];simp[hs];omega
  ·intro j q1 q2;rw[uH]at q2;rw[we,wG,Array.getElem_toList];have:=get_flatK oL 2 d (i*2+j) (by omega);rw[getElem!_pos _ _ (by simp;omega)]at this;rw[this,show (i*2+j)/2=i by omega,show (i*2+j)%2=j by omega,getElem!_pos _ j (by rw[uH];exact q2)]
 rw[e];have e2:l[i]! =d[i]!.1.1:=by
  subst h;rw[getElem!_pos _ i hi,getElem!_pos d i (by omega)];simp
 rw[e2];exact d[i]!.2.2
end Go.Proofs.YtnfljbehcffmcaaGreat
end
noncomputable section
set_option maxRecDepth 100000
namespace Go.Proofs.YtnfljbehcffmcaaGreat
open Go Go.Iv Go.Sort Go.Proofs
abbrev avC:=aa aD
def d200:Td 1 avC:= .c [] [] (.r 1 1 en (sr 0 47 sn) (λz=>z.2.1) (λx=>((()),(x,()))))
def au2:=(lc (qo 0) (lc (qf 188 ln) ln))
def awx:=(sr 0 47 sn)
def W0(b0:aa aD):af avC:=if b0.length<=1073741824 then V (Fx b0)else G
def ame:Prop:=HY w9 200 1 au2 awx d200 (λg=>W0 g.2.1)
def aAp:aZ->aZ:=eY w9 200 1 au2 awx d200 (λg=>W0 g.2.1)
def aah(hv:ame){F:aZ}(h:aQ w9 F):aQ w9 (aAp F):=mS hv ⟨_,func200,by kernel_rfl,by kernel_rfl⟩ (λ_=>by kernel_rfl) h
def RZ:Go.Shelf.Ren:=⟨λ|6=>200|15=>257|14=>256|28=>300|29=>301|20=>292|21=>293|22=>294|23=>295|24=>296|25=>297|26=>298|27=>299|46=>332|47=>333|48=>334|49=>335|50=>336|57=>348|n=>n,λ|22=>50|24=>47|25=>195|39=>240|53=>322|55=>324|46=>316|45=>315|50=>193|66=>344|70=>348|76=>356|77=>297|n=>n,λ|n=>n⟩
def ZB:Go.Proofs.SlLaysF0.n6 w9 RZ where
 mixed:=by kernel_rfl
 f6:=⟨f200.name,by kernel_rfl,func200.trans (congrArg V (by kernel_rfl))⟩
 f14:=⟨f256.name,by kernel_rfl,func256.trans (congrArg V (by kernel_rfl))⟩
 f15:=func257.trans (congrArg V (by kernel_rfl))
 f20:=⟨f292.name,by kernel_rfl,func292.trans (congrArg V (by kernel_rfl))⟩
 f21:=⟨f293.name,by kernel_rfl,func293.trans (congrArg V (by kernel_rfl))⟩
 f22:=⟨f294.name,by kernel_rfl,func294.trans (congrArg V (by kernel_rfl))⟩
 f23:=⟨f295.name,by kernel_rfl,func295.trans (congrArg V (by kernel_rfl))⟩
 f24:=⟨f296.name,by kernel_rfl,func296.trans (congrArg V (by kernel_rfl))⟩
 f25:=⟨f297.name,by kernel_rfl,func297.trans (congrArg V (by kernel_rfl))⟩
 f26:=⟨f298.name,by kernel_rfl,func298.trans (congrArg V (by kernel_rfl))⟩
 f27:=⟨f299.name,by kernel_rfl,func299.trans (congrArg V (by kernel_rfl))⟩
 f28:=func300.trans (congrArg V (by kernel_rfl))
 f29:=func301.trans (congrArg V (by kernel_rfl))
 f46:=⟨f332.name,by kernel_rfl,func332.trans (congrArg V (by kernel_rfl))⟩
 f47:=func333.trans (congrArg V (by kernel_rfl))
 f48:=func334.trans (congrArg V (by kernel_rfl))
 f49:=⟨f335.name,by kernel_rfl,func335.trans (congrArg V (by kernel_rfl))⟩
 f50:=⟨f336.name,by kernel_rfl,func336.trans (congrArg V (by kernel_rfl))⟩
 f57:=⟨f348.name,by kernel_rfl,func348.trans (congrArg V (by kernel_rfl))⟩
 t0:=underlying0
 a0:=Tryz.isAgg0
 z0:=Tryz.sizeOf0
 v0:=Tryz.zeroValue0
 t3:=underlying3
 a3:=Tryz.isAgg3
 z3:=Tryz.sizeOf3
 v3:=Tryz.zeroValue3
 t4:=underlying4
 a4:=Tryz.isAgg4
 z4:=Tryz.sizeOf4
 v4:=Tryz.zeroValue4
 t5:=underlying5
 a5:=Tryz.isAgg5
 z5:=Tryz.sizeOf5
 v5:=Tryz.zeroValue5
 t9:=underlying9
 a9:=Tryz.isAgg9
 z9:=Tryz.sizeOf9
 v9:=Tryz.zeroValue9
 t22:=underlying50
 a22:=Tryz.isAgg50
 z22:=Tryz.sizeOf50
 v22:=Tryz.zeroValue50
 t25:=underlying195
 a25:=Tryz.isAgg195
 z25:=Tryz.sizeOf195
 v25:=Tryz.zeroValue195
 t39:=underlying240
 a39:=Tryz.isAgg240
 z39:=Tryz.sizeOf240
 v39:=Tryz.zeroValue240
 t45:=underlying315
 a45:=Tryz.isAgg315
 z45:=Tryz.sizeOf315
 v45:=Tryz.zeroValue315
 t46:=underlying316
 a46:=Tryz.isAgg316
 z46:=Tryz.sizeOf316
 v46:=Tryz.zeroValue316
 t50:=underlying193
 a50:=Tryz.isAgg193
 z50:=Tryz.sizeOf193
 v50:=Tryz.zeroValue193
 t53:=underlying322
 a53:=Tryz.isAgg322
 z53:=Tryz.sizeOf322
 v53:=Tryz.zeroValue322
 t55:=underlying324
 a55:=Tryz.isAgg324
 z55:=Tryz.sizeOf324
 v55:=Tryz.zeroValue324
 t66:=underlying344
 a66:=Tryz.isAgg344
 z66:=Tryz.sizeOf344
 v66:=Tryz.zeroValue344
 t70:=underlying348
 a70:=Tryz.isAgg348
 z70:=Tryz.sizeOf348
 v70:=Tryz.zeroValue348
 t76:=underlying356
 a76:=Tryz.isAgg356
 z76:=Tryz.sizeOf356
 v76:=Tryz.zeroValue356
 t77:=underlying297
 a77:=Tryz.isAgg297
 z77:=Tryz.sizeOf297
 v77:=Tryz.zeroValue297
def Ws{A:Nat->Prop}{w:World}{d d':Array (Ob A w)}(hp:PermIn 0 d.size d d')(hs:SortedIn (ltOf obC) 0 d.size d'):(d'.toList.map λx=>x.1.1)=Fx (d.toList.map λx=>x.1.1):=by
 obtain⟨h1,_,h3⟩:=hp;have e1:d'.extract 0 d.size=d':=by rw[<-h1];exact Array.extract_size
 rw[e1,Array.extract_size]at h3;have hz:∀c:Array (Ob A w),(c.map λx=>x.1.1).toList=c.toList.map λx=>x.1.1:=λc=>by simp
 have:=sorted_unique_holds BX ai7 (d.map λx=>x.1.1) (d'.map λx=>x.1.1) ⟨by simp[h1],λi hi=> ?_,?_⟩ (λi j hi hij hj=> ?_)
 ·rw[hz,hz]at this;exact this
 ·have:d.size<=i:=by rcases hi with h|h;omega;simpa using h
  rw[getElem!_neg _ i (by simp;omega),getElem!_neg _ i (by simp;omega)]
 ·have a1:(d'.map λx=>x.1.1).extract 0 (d.map λx=>x.1.1).size=(d'.map λx=>x.1.1):=by
   rw[show (d.map λx=>x.1.1).size=(d'.map λx=>x.1.1).size by simp[h1]];exact Array.extract_size
  rw[a1,Array.extract_size,hz,hz];exact h3.map _
 ·have hj':j<d.size:=by simpa using hj
  have:=hs i j hi hij hj';rw[getElem!_pos _ i (by omega),getElem!_pos _ j (by omega)]at this;rw[getElem!_pos _ i (by simp;omega),getElem!_pos _ j (by simp;omega)];simp only[Array.getElem_map];exact this
def aoz(l b:aa aD)(hb:W0 l=V b):K7 w9 200 [.own 0, .fn (.func 188) []] [(0, .row 47 l)] 1 (gC w9 200 1 (d200.pat b)):=by
 unfold W0 at hb;split at hb
 case isFalse=>cases hb
 rename_i hlen;have hbl:b=Fx l:=(zA.inj hb).symm;have hln:b.length=l.length:=by rw[hbl];unfold Fx;rw[List.length_mergeSort]
 intro ρ;have ho:gC w9 200 1 (d200.pat b)=⟨.iR [],[(0, .row 47 b)],1⟩:=by kernel_rfl
 show Go.Iv.Fn w9 200 [(cc.own 0).sub ρ,(cc.fn (.func 188) []).sub ρ] (bg.res ρ [(0, .row 47 l)]) _;rw[ho,dO,show (cc.fn (dz:=uni.dz) (.func 188) []).sub ρ= .fn (.func 188) []by simp[cc.sub]];intro w A vs hr hd hn;obtain⟨hr1,hr2⟩:=hr;obtain⟨v,v2,rfl⟩:∃v v2,vs=[v,v2]:=by
  match vs,hr1 with
  |[v,v2],_=>exact⟨v,v2,rfl⟩
 have hv:v=ρ.v 0:=(hr2 0 _ v rfl rfl).cH;have hv2:v2= .func (.func 188) #[] #[]:=by
  have:=hr2 1 (.fn (.func 188) []) v2 rfl rfl;cases this with
  |fn f cs us hl hrr=>rw[xg.1 hl]
 subst hv hv2;generalize hv:ρ.v 0=v at*;have hok:=hd.1 (.row v 47 l) (by show _∈[cE.row (ρ.v 0) 47 l];rw[hv];exact zy.2 rfl);obtain⟨us,h1,h2,h3⟩:=hok;have hσ:bg.res ρ [(0, .row 47 l)]=[cE.row v 47 l]:=by show [cE.row (ρ.v 0) 47 l]=_;rw[hv]
 rw[hσ]at hd hn ⊢;have fin:∀w':World,(∃us',gD w' v 47 2 b.length us'/\∀i,i<b.length->bN A w (uni.cells 47 b[i]!) ((us'.drop (i*2)).take 2))->Kp (bD [cE.row v 47 l]) w w'->∃v_1 av σ',Ending.returned (Value.tuple #[])=Ending.returned v_1/\
   (∃ρ',oS 1 ρ ρ'/\av=(cc.iR (dz:=uni.dz) []).sub ρ'/\List.Perm σ' (bg.res ρ' [(0, .row 47 b)]))/\Tr ⟨w,A,bD [cE.row v 47 l]⟩ (bD [cE.row v 47 l]) [cE.row v 47 l] w σ' w'/\Rel (al ⟨w,A,bD [cE.row v 47 l]⟩ σ') w' av v_1:=λw' ⟨us',hrow,hrel⟩ hk=>by
  have hbk:bD [cE.row v 47 b]=bD [cE.row v 47 l]:=rfl;have hal:∀x,al ⟨w,A,bD [cE.row v 47 l]⟩ [cE.row v 47 l] x->al ⟨w,A,bD [cE.row v 47 l]⟩ [cE.row v 47 b] x:=λx h=>h;refine⟨_, .iR [],[cE.row v 47 b],rfl,⟨ρ,λi _=>⟨rfl,rfl⟩,by simp only[cc.sub,yS],by show List.Perm _ [cE.row (ρ.v 0) 47 b];rw[hv]⟩,⟨⟨hk,?_,?_,?_⟩,hk,λx _ h=>⟨hal x h,h.2⟩⟩,Rel.iR [] [] rfl (λj a v q=>by cases q)⟩
  ·intro r hr;rw[zy.1 hr];refine⟨us',hrow,λi _=>rfl,λi hi=>(hrel i hi).mono λx hx hA=> ?_⟩;have hnb:x∉bD [cE.row v 47 l]:=λh=>hd.2 x h hA;exact⟨⟨.inl hA,hnb⟩,hk.block x hx hnb⟩
  ·rw[hbk];exact hn
  ·intro x hx;exact .inl hx
 obtain⟨h1l,hcase⟩:=h1;rcases hcase with ⟨p,hvp,hl0⟩|⟨gb,cap,cur,hvp,hg,q1,q2,q3,q4⟩
 ·have hl:l=[]:=xg.1 hl0;have hbn:b=[]:=by rw[hbl,hl];unfold Fx;rw[List.mergeSort_nil]
  subst hvp;refine(Go.Proofs.AnyF.slices_SortFunc_none {ZB with} p 0 (.func (.func 188) #[] #[]) w).mono λe w' he=> ?_;obtain⟨rfl,rfl⟩:=he;refine fin w' ⟨[],?_,λi hi=>by rw[hbn]at hi;cases hi⟩ (Kp.refl _ _);rw[hbn];exact⟨rfl, .inl ⟨p,rfl,rfl⟩⟩
 ·subst hvp;have hgs:gb<w.heap.size:=(xE.1 hg).1;have hAg:¬A gb:=hd.2 gb (bT.2 ⟨_,zy.2 rfl,rfl⟩);have q4:cur.toList.take (l.length*2)=us:=q4;have q3:cur.size=(cap+1)*2:=q3;have h1l:us.length=l.length*2:=h1l;have q1':l.length<=cap+1:=q1;have hsz:l.length<=9223372036854775807:=by have:maxLen=9223372036854775807:=rfl;omega
  obtain⟨d,d1,d2,d3⟩:=ak1 h1l h3;have hH:HoldsK oL 2 w gb 0 d:=GN hg d3 (by rw[h1l];exact q4);have hcmp:CmpLays w9 188 #[] oL 2 obC gb 0 d.size w:=λm os dk hdk x y=>by
   refine TD (awh x.1.1 y.1.1 (am8 x)) (λc hc hA=>pL hc λe=>hAg (e▸hA))
  have hs:=Go.Proofs.AnyQ.slices_SortFunc ZB 2 Tryz.isAgg47 Tryz.sizeOf47 oL uH UG obC adG 188 #[] gb 0 (cap+1) d w (enters_of func188 (by kernel_rfl) rfl) hcmp hH hgs (by rw[d1];omega);rw[d1]at hs;refine hs.mono λe w' he=> ?_;obtain⟨rfl,d',n,os,hp,hs,rfl⟩:=he;rw[<-d1]at hp hs;have hbd:(d'.toList.map λx=>x.1.1)=b:=by rw[Ws hp hs,d2,hbl]
  obtain⟨r1,r2⟩:=Ze d' b hbd;have hF:(flatK oL 2 d').size=l.length*2:=by rw[<-yj,r1,hln]
  refine fin _ ⟨(flatK oL 2 d').toList,⟨r1, .inr ⟨gb,cap,_,by rw[hln];rfl,tA hg,by rw[hln];exact q1,q2,by simp[putCells,q3],?_⟩⟩,r2⟩ ?_
  ·have:=MZ (F:=flatK oL 2 d') (cur:=cur) (by rw[hF,q3];omega)
   rwa [<-yj,r1]at this
  ·exact Lf
def aA4:ame:=λg b hb=>aoz g.2.1 b hb
end Go.Proofs.YtnfljbehcffmcaaGreat
end
noncomputable section
set_option maxRecDepth 100000
namespace Go.Proofs.YtnfljbehcffmcaaGreat
open Go Go.Iv Go.Sort Go.Proofs Go.Shelf Go.RowKit Go.Lib
section
variable {α:Type} [Inhabited α] (r:α->α->Bool)
def Jq(d:Array α)(j:Nat):Bool:=J (j=0)|| !r d[j]! d[j-1]!
def Gi(d:Array α)(m:Nat):aa α:=((zM m).filter (Jq r d)).map (d[·]!)
variable {r}
def lR(d:Array α)(m:Nat):Gi r d (m+1)=Gi r d m++(if Jq r d m then[d[m]!]else[]):=by
 unfold Gi;rw[List.range_succ,y7,z8]
 congr 1
 by_cases h:Jq r d m<;>simp[h]
def J3(d:Array α)(m:Nat)(h:∀j,j<m->Jq r d j=O):Gi r d m=(zM m).map (d[·]!):=by
 unfold Gi;rw[List.filter_eq_self.2 (λj hj=>h j (List.mem_range.1 hj))]
def Pd(d:Array α):(zM d.size).map (d[·]!)=d.toList:=by
 apply wB
 ·simp
 ·intro i h1 h2;have hi:i<d.size:=by simpa using h2
  simp[getElem!_pos,hi]
structure BJ (r:α->α->Bool) (d:Array α) (m k:Nat) (dk:Array α):Prop where
 size:dk.size=d.size
 len:(Gi r d m).length=k
 lt:k<m
 low:∀j,j<k->(Gi r d m)[j]? =V dk[j]!
 high:∀j,k<=j->dk[j]! =d[j]!
def BJ.start{d:Array α}{k0:Nat}(hall:∀j,j<k0->Jq r d j=O)(hdup:Jq r d k0=S):BJ r d (k0+1) k0 d where
 size:=rfl
 len:=by rw[lR,hdup,J3 d k0 hall];simp
 lt:=zJ _
 low:=λj hj=>by rw[lR,hdup,J3 d k0 hall];simp[hj]
 high:=λ_ _=>rfl
def BJ.keep{d dk:Array α}{m k:Nat}(h:BJ r d m k dk)(hm:m<d.size)(hk:Jq r d m=O):BJ r d (m+1) (k+1) (dk.setIfInBounds k d[m]!) where
 size:=by simp[h.size]
 len:=by rw[lR,hk];simp[h.len]
 lt:=by have:=h.lt;omega
 low:=λj hj=>by
  rw[lR,hk,bE rfl];by_cases e:j=k
  ·subst e;rw[wH (by rw[h.len];exact zn _),h.len,xS,getElem!_set_same dk j _ (by have:=h.lt;have:=h.size;omega)];rfl
  ·rw[wS (by rw[h.len];omega),h.low j (by omega),getElem!_set_other dk k j _ e]
 high:=λj hj=>by rw[getElem!_set_other dk k j _ (by omega),h.high j (by omega)]
def BJ.skip{d dk:Array α}{m k:Nat}(h:BJ r d m k dk)(hk:Jq r d m=S):BJ r d (m+1) k dk where
 size:=h.size
 len:=by rw[lR,hk];simpa using h.len
 lt:=by have:=h.lt;omega
 low:=λj hj=>by rw[lR,hk];simpa using h.low j hj
 high:=h.high
end
section
variable {P:Program} {α:Type} [Inhabited α] {enc:α->aa Value} {k:Nat} {w0 W:World} {blk off:Nat} {dk:Array α}
def Mx(hk:∀x,(enc x).length=k)(d:Array α)(i:Nat)(hi:i<d.size)(x:α):setMany (flatK enc k d) (i*k) (enc x)=flatK enc k (d.setIfInBounds i x):=by
 refine ext_get! (by simp) λt ht=> ?_;have ht':t<d.size*k:=by simpa using ht
 have k0:0<k:=by
  rcases wD k with h|h
  ·subst h;simp at ht'
  ·exact h
 rw[get_setMany _ _ _ t (by simpa using ht'),get_flatK _ _ _ t ht',get_flatK _ _ _ t (by simpa using ht'),hk];by_cases a:t/k=i
 ·rw[bE ((blk_iff k i t k0).2 a),a,getElem!_set_same d i x hi,Nat.mod_eq_sub_div_mul,a]
 ·rw[bO (λh=>a ((blk_iff k i t k0).1 h)),getElem!_set_other d i _ x a]
def Ra(h:SWK enc k w0 blk off dk W)(hk:∀x,(enc x).length=k)(hb:blk<w0.heap.size)(i:Nat)(hi:i<dk.size)(x:α):SWK enc k w0 blk off (dk.setIfInBounds i x) (W.setCells blk (off+i*k) (enc x)):=by
 obtain⟨n,os,rfl⟩:=h;refine⟨n,os,?_⟩;unfold sortWorldK;rw[setCells_grow os blk _ _ _ (by show blk<(putRowK enc k _ blk off dk).heap.size;rw[size_putRowK];exact hb)]
 congr 1
 unfold putRowK;have:=yL k (show i+1<=dk.size from hi);rw[yd,Nat.one_mul]at this;rw[setCells_putRow _ _ _ _ _ _ (by rw[hk,size_flatK];exact this),Mx hk dk i hi x]
def ai5(h:SWK enc k w0 blk off dk W){d0:Array α}(R:RowK enc k w0 blk off d0)(hs:dk.size=d0.size)(P:Program)(i:Nat)(hi:i<dk.size)(x:α):
  Sem.run P (storeCells ⟨blk,off+i*k,G⟩ (enc x) 0) W= .ok () (W.setCells blk (off+i*k) (enc x)):=
 stores_of_holds P (h.holds R.hblk R.hH hs) (i*k) _ (by rw[R.hk,size_flatK];exact rowK_bnd dk k i hi) (R.h1 _)
end
set_option maxHeartbeats 8000000 in
set_option maxRecDepth 1000000 in
def ZQ{P:Program}{α:Type}[Inhabited α](FG:P.funcs[201]? =V f201)(mixed:P.follows .mixedOrders=O)
  (t3:P.underlying 3=V (.int .i64)) (a3:∀w,(isAgg 3).run P w= .ok S w) (z3:∀w,(Go.sizeOf 3).run P w= .ok 1 w) (v3:∀w,(zeroValue 3).run P w= .ok (.int .i64 0) w)
  (t4:P.underlying 4=V .bool) (a4:∀w,(isAgg 4).run P w= .ok S w) (z4:∀w,(Go.sizeOf 4).run P w= .ok 1 w) (v4:∀w,(zeroValue 4).run P w= .ok (.bool S) w)
  (t50:P.underlying 50=V (.slice 47)) (a50:∀w,(isAgg 50).run P w= .ok S w) (z50:∀w,(Go.sizeOf 50).run P w= .ok 1 w) (v50:∀w,(zeroValue 50).run P w= .ok (.slice G 0 0) w)
  (k:Nat) (aE:∀w,(isAgg 47).run P w= .ok O w) (zE:∀w,(Go.sizeOf 47).run P w= .ok k w)
  (enc:α->aa Value) (r:α->α->Bool) (g:Nat) (cb:Array Value) (blk off cap:Nat) (d:Array α) (w:World)
  (eg:∀args w,(callFunc g args).run P w= .ok (.enter g args) w)
  (hcmp:∀(dk:Array α) (W:World),dk.size=d.size->SWK enc k w blk off dk W->∀x y:α,Calls P g (#[.agg (enc x).toArray, .agg (enc y).toArray]++cb) W λe w'=>e= .returned (.bool (r x y))/\∃q os',w'=grow (W.drewN q) os')
  (R:RowK enc k w blk off d) (hsz:d.size<4611686018427387904) (hcap:d.size<=cap)
  (zs:Nat->aa Value) (hclr:∀(W:World) (dk:Array α) (kk:Nat),SWK enc k w blk off dk W->dk.size=d.size->kk<d.size->∀ty,(Builtin.clear_ #[50] ty #[.slice (V ⟨blk,off+kk*k,G⟩) (d.size-kk) (cap-kk)]).run P W= .ok (.tuple #[]) (W.setCells blk (off+kk*k) (zs kk))):
  Calls P 201 #[.slice (V ⟨blk,off,G⟩) d.size cap, .func (.func g) #[] cb] w λe w'=>
   e= .returned (.slice (V ⟨blk,off,G⟩) (Gi r d d.size).length cap)/\∃(dk:Array α) (W:World),SWK enc k w blk off dk W/\dk.size=d.size/\(∀j,j<(Gi r d d.size).length->(Gi r d d.size)[j]? =V dk[j]!)/\
    (w'=W\/w'=W.setCells blk (off+(Gi r d d.size).length*k) (zs (Gi r d d.size).length)):=by
 have S00:SWK enc k w blk off d w:=SWK.start R.hH;have HC:Aside _:=hcmp;have HCL:Aside _:=hclr;have S0:Aside (SWK enc k w blk off d w):=S00;have same:∀W,SWK enc k w blk off d W->(∀j,j<d.size->Jq r d j=O)->(Gi r d d.size).length=d.size/\∃(dk:Array α) (W':World),SWK enc k w blk off dk W'/\dk.size=d.size/\(∀j,j<(Gi r d d.size).length->(Gi r d d.size)[j]? =V dk[j]!)/\(W=W'\/W=W'.setCells blk (off+(Gi r d d.size).length*k) (zs (Gi r d d.size).length)):=λW hS hall=>by
  have e:Gi r d d.size=d.toList:=by rw[J3 d _ hall,Pd]
  refine⟨by rw[e];simp,d,W,hS,rfl,λj hj=> ?_, .inl rfl⟩;rw[e]at hj ⊢;have hj':j<d.size:=by simpa using hj
  rw[zu hj,getElem!_pos d j hj'];simp
 have HS:Aside _:=same;have kp1:∀j,j<1->Jq r d j=O:=λj hj=>by
  have:j=0:=by omega
  subst this;rfl
 clear same S00 hcmp hclr;by_cases h2:d.size<2
 ·have K1:Aside (∀j,j<1->Jq r d j=O):=kp1;clear kp1
  go_enter FG,Tryz.ntmps201
  go_wp2
  go_ret
  obtain⟨e1,e2⟩:=HS.out w S0.out (λj hj=>K1.out j (by omega));exact⟨by rw[e1];rfl,e2⟩
 ·have K1:Aside (∀j,j<1->Jq r d j=O):=kp1;clear kp1
  go_enter FG,Tryz.ntmps201
  go_wp2
  go_loopg [5] d.size (λg1 s5 wr=>∃(k1:Nat),s5= .int .i64 k1/\1<=k1/\k1<=d.size/\d.size-k1<=g1/\Aside (SWK enc k w blk off d wr)/\Aside (∀j,j<k1->Jq r d j=O))
  case atStart=>exact⟨1,rfl,zn _,by omega,by omega,S0,K1⟩
  case round=>
   obtain⟨k1,rfl,hk1,hk2,hg,S1,A1⟩:=hrel;by_cases hlt:k1<d.size
   ·obtain⟨kp,rfl⟩:∃kp,k1=kp+1:=⟨k1-1,by omega⟩;obtain⟨xj,hxj⟩:∃x,d[kp+1]! =x:=⟨_,rfl⟩;obtain⟨xp,hxp⟩:∃x,d[kp]! =x:=⟨_,rfl⟩;have hwp:IntKind.i64.wrap (kp:Int)=(kp:Int):=by rw[IntKind.wrap_i64];omega
    have jz:(kp:Int)+1<(d.size:Int):=by omega
    have jz1:(kp:Int)<(d.size:Int):=by omega
    have p0:(0:Int)<=(kp:Int)+1:=by omega
    have e0:((kp:Int)+1).toNat=kp+1:=by omega
    have lj:∀n' os',Sem.run P (loadCellsFrom ⟨blk,off+(kp+1)*k,G⟩ 0 k #[]) (grow (wr.drewN n') os')= .ok (enc xj).toArray (grow (wr.drewN n') os'):=λn' os'=>by
     rw[<-hxj];exact S1.out.ld R rfl P (kp+1) hlt n' os'
    have lp:∀n' os',Sem.run P (loadCellsFrom ⟨blk,off+kp*k,G⟩ 0 k #[]) (grow (wr.drewN n') os')= .ok (enc xp).toArray (grow (wr.drewN n') os'):=λn' os'=>by
     rw[<-hxp];exact S1.out.ld R rfl P kp (by omega) n' os'
    have hcg:∀n' os',Calls P g (#[.agg (enc xj).toArray, .agg (enc xp).toArray]++cb) (grow (wr.drewN n') os') λe w'=>e= .returned (.bool (r xj xp))/\∃q os'',w'=grow ((grow (wr.drewN n') os').drewN q) os'':=λn' os'=>HC.out d _ rfl (S1.out.grown n' os') xj xp;cases hr:r xj xp with
    |true=>
     rw[hr]at hcg
     go_wp2_with fail
     go_quiet_grown (first|(go_at_fn g;refine Calls.grown_of (hcg _ _)))
     have S2:Aside (SWK enc k w blk off d (grow (wr.drewN nq) osq)):=S1.out.grown nq osq;have I0:Aside (BJ r d (kp+1+1) (kp+1) d):=BJ.start A1.out (by unfold Jq;rw[wJ,hxj,hxp,hr];simp);clear lj lp hcg;generalize grow (wr.drewN nq) osq=wq at S2 ⊢
     go_wp2
     go_loopg [5,7] d.size (λg2 s5 s7 wr=>∃(kk k2:Nat) (dk:Array α),s5= .int .i64 kk/\s7= .int .i64 k2/\1<=k2/\kp+1+k2<=d.size/\d.size-(kp+1+k2)<=g2/\Aside (SWK enc k w blk off dk wr)/\Aside (BJ r d (kp+1+k2) kk dk))
     case atStart=>exact⟨kp+1,1,d,rfl,rfl,zn _,by omega,by omega,S2,I0⟩
     case round=>
      obtain⟨kk,k2,dk,rfl,rfl,hk21,hle,hg2,S3,I3⟩:=hrel;have hds:=I3.out.size;have hkk:=I3.out.lt;by_cases hlt2:kp+1+k2<d.size
      ·obtain⟨kq,rfl⟩:∃kq,k2=kq+1:=⟨k2-1,by omega⟩;obtain⟨xm,hxm⟩:∃x,d[kp+1+(kq+1)]! =x:=⟨_,rfl⟩;obtain⟨xq,hxq⟩:∃x,d[kp+1+kq]! =x:=⟨_,rfl⟩;have hm:dk[kp+1+(kq+1)]! =xm:=by rw[I3.out.high _ (by omega),hxm]
       have hq:dk[kp+1+kq]! =xq:=by rw[I3.out.high _ (by omega),hxq]
       have hwq:IntKind.i64.wrap (kq:Int)=(kq:Int):=by rw[IntKind.wrap_i64];omega
       have q0:(0:Int)<=(kq:Int)+1:=by omega
       have f0:((kq:Int)+1).toNat=kq+1:=by omega
       have lm:∀n' os',Sem.run P (loadCellsFrom ⟨blk,off+(kp+1)*k+(kq+1)*k,G⟩ 0 k #[]) (grow (wr.drewN n') os')= .ok (enc xm).toArray (grow (wr.drewN n') os'):=λn' os'=>by
        have:=S3.out.ld R hds P (kp+1+(kq+1)) (by omega) n' os';rw[hm,yd (kp+1) (kq+1),<-xG]at this;exact this
       have lq:∀n' os',Sem.run P (loadCellsFrom ⟨blk,off+(kp+1)*k+kq*k,G⟩ 0 k #[]) (grow (wr.drewN n') os')= .ok (enc xq).toArray (grow (wr.drewN n') os'):=λn' os'=>by
        have:=S3.out.ld R hds P (kp+1+kq) (by omega) n' os';rw[hq,yd (kp+1) kq,<-xG]at this;exact this
       have hcg:∀n' os',Calls P g (#[.agg (enc xm).toArray, .agg (enc xq).toArray]++cb) (grow (wr.drewN n') os') λe w'=>e= .returned (.bool (r xm xq))/\∃q os'',w'=grow ((grow (wr.drewN n') os').drewN q) os'':=λn' os'=>HC.out dk _ hds (S3.out.grown n' os') xm xq;have jl:(kq:Int)+1<((d.size-(kp+1):Nat):Int):=by omega
       have jl1:(kq:Int)<((d.size-(kp+1):Nat):Int):=by omega
       cases hr2:r xm xq with
       |true=>
        rw[hr2]at hcg
        go_wp2_with fail
        go_quiet_grown (first|(go_at_fn g;refine Calls.grown_of (hcg _ _)))
        go_wp2
        go_roundg (d.size-(kp+1+(kq+1+1)))
        case measure=>omega
        case rel=>exact⟨kk,kq+1+1,dk,rfl,by go_num,by omega,by omega,zn _,S3.out.grown nq osq,I3.out.skip (by unfold Jq;rw[show kp+1+(kq+1)-1=kp+1+kq by omega,hxm,hxq,hr2];simp)⟩
       |false=>
        rw[hr2]at hcg
        go_wp2_with fail
        go_quiet_grown (first|(go_at_fn g;refine Calls.grown_of (hcg _ _)))
        have lm3:=lm nq osq;have S4:Aside (SWK enc k w blk off dk (grow (wr.drewN nq) osq)):=S3.out.grown nq osq;have st:=ai5 S4.out R hds P kk (by omega) xm;have S5:Aside (SWK enc k w blk off (dk.setIfInBounds kk xm) ((grow (wr.drewN nq) osq).setCells blk (off+kk*k) (enc xm))):=Ra S4.out R.hk R.hblk kk (by omega) xm;have hlm:(enc xm).length=k:=R.hk xm;have I4:Aside (BJ r d (kp+1+(kq+1)+1) (kk+1) (dk.setIfInBounds kk xm)):=by
         have:=I3.out.keep hlt2 (by unfold Jq;rw[show kp+1+(kq+1)-1=kp+1+kq by omega,hxm,hxq,hr2];simp)
         rwa [hxm]at this
        have kz:(kk:Int)<(d.size:Int):=by omega
        have kz0:(0:Int)<=(kk:Int):=by omega
        clear lm lq hcg;generalize grow (wr.drewN nq) osq=wq3 at lm3 S4 st S5 ⊢;generalize enc xm=cm at lm3 st S5 hlm
        go_wp2
        go_roundg (d.size-(kp+1+(kq+1+1)))
        case measure=>omega
        case rel=>exact⟨kk+1,kq+1+1,dk.setIfInBounds kk xm,by go_num,by go_num,by omega,by omega,zn _,S5,I4⟩
      ·have hend:kp+1+k2=d.size:=by omega
       have hcl:=λty=>HCL.out wr dk kk S3.out hds (by omega) ty;have kz:(kk:Int)<=(d.size:Int):=by omega
       have kz1:(kk:Int)<=(cap:Int):=by omega
       go_wp2
       go_ret
       have hI:=I3.out;rw[hend]at hI;exact⟨by rw[hI.len];rfl,dk,wr,S3.out,hds,λj hj=>hI.low j (by rw[<-hI.len];exact hj), .inr (by rw[hI.len])⟩
    |false=>
     rw[hr]at hcg
     go_wp2_with fail
     go_quiet_grown (first|(go_at_fn g;refine Calls.grown_of (hcg _ _)))
     go_wp2
     go_roundg (d.size-(kp+1+1))
     case measure=>omega
     case rel=>
      refine⟨kp+1+1,by go_num,by omega,by omega,zn _,S1.out.grown nq osq,λj hj=> ?_⟩;by_cases e:j=kp+1
      ·subst e;unfold Jq;rw[wJ,hxj,hxp,hr];simp
      ·exact A1.out j (by omega)
   ·have:k1=d.size:=by omega
    subst this
    go_wp2
    go_ret
    obtain⟨e1,e2⟩:=HS.out _ S1.out A1.out;exact⟨by rw[e1];rfl,e2⟩
set_option maxHeartbeats 1000000 in
def JZ(FG:w9.funcs[201]? =V f201)(p:af Addr)(cap:Nat)(fv:Value)(w:World):
  Calls w9 201 #[.slice p 0 cap,fv] w λe w'=>e= .returned (.slice p 0 cap)/\w'=w:=by
 go_enter FG,Tryz.ntmps201
 go_wp2
 go_ret
 exact⟨rfl,rfl⟩
end Go.Proofs.YtnfljbehcffmcaaGreat
end
noncomputable section
set_option maxRecDepth 100000
namespace Go.Proofs.YtnfljbehcffmcaaGreat
open Go Go.Iv Go.Sort Go.Proofs
abbrev awA:=aa aD
def d201:Td 1 awA:= .c [] [4] (.r 1 2 (ec 4 (qo 1) en) (sr 1 47 sn) (λz=>z.2.1) (λx=>(((),()),(x,()))))
def aAw:=(lc (qo 0) (lc (qf 252 ln) ln))
def aug:=(sr 0 47 sn)
def VZ(b0:aa aD):af awA:=if b0.length<=1073741824 then V (Dh b0)else G
def anv:Prop:=HY w9 201 1 aAw aug d201 (λg=>VZ g.2.1)
def axk:aZ->aZ:=eY w9 201 1 aAw aug d201 (λg=>VZ g.2.1)
def ab9(hv:anv){F:aZ}(h:aQ w9 F):aQ w9 (axk F):=mS hv ⟨_,func201,by kernel_rfl,by kernel_rfl⟩ (λ_=>by kernel_rfl) h
def sB{g:Nat}{T:TypeId}:∀(vs:aa Value) (o:Nat) (W:World) (cur:Array Value),W.heap[g]? =V (.cells cur T (0,0))->(W.setCells g o vs).heap[g]? =V (.cells (setMany cur o vs) T (0,0))
 |[],_,_,_,h=>h
 |v::vs,o,W,cur,h=>by
  rw[World.setCells,setMany];refine sB vs (o+1) _ _ ?_;rw[setCell_eq];simp[mapBlock,wZ,h,onCells]
def BD{g:Nat}:∀(vs:aa Value) (o:Nat) (W:World),Kp [g] W (W.setCells g o vs)
 |[],_,W=>Kp.refl _ W
 |v::vs,o,W=>by
  rw[World.setCells];refine Kp.trans (w1:=W.setCell ⟨g,o,G⟩ v) (X:=[g]) (Y:=[g]) ?_ (BD vs (o+1) _) (λb hb _=>hb);rw[setCell_eq];refine⟨rfl,rfl,rfl,zn _,by simp[mapBlock],λk hk hX=> ?_⟩;have:g≠k:=λe=>hX (by simp[e]);simp[mapBlock,wZ,this]
def HQ(x:aD):∀(l:aa aD) (p:aD),AY p (l++[x])=AY p l++if fB x (l.getLastD p)=0 then[]else[x]
 |[],p=>by
  by_cases h:fB x p=0<;>simp[AY,h]
 |y::l,p=>by
  simp only[xo,AY];rw[HQ x l y];have e:(y::l).getLastD p=l.getLastD y:=by cases l<;>rfl
  rw[e];split<;>simp
section
variable {A:Nat->Prop} {w:World}
def eqO(x y:Ob A w):Bool:=J (fB x.1.1 y.1.1=0)
def Ur(d:Array (Ob A w)):∀m,m<=d.size->(Gi eqO d m).map (λx=>x.1.1)=Dh ((d.toList.map λx=>x.1.1).take m)
 |0,_=>by simp[Gi,Dh]
 |m+1,hm=>by
  have ih:=Ur d m (by omega);have hl:m<(d.toList.map λx=>x.1.1).length:=by simp;omega
  have eg:∀j,j<d.size->(d.toList.map λx=>x.1.1)[j]! =d[j]!.1.1:=λj hj=>by
   rw[getElem!_pos _ j (by simpa using hj),getElem!_pos d j hj];simp
  rw[lR,z8,ih,bK hl,eg m (by omega)];by_cases h0:m=0
  ·subst h0;simp[Jq,Dh,AY]
  ·obtain⟨n,rfl⟩:∃n,m=n+1:=⟨m-1,by omega⟩;have hl2:n<(d.toList.map λx=>x.1.1).length:=by simp;omega
   have e2:(d.toList.map λx=>x.1.1).take (n+1)=(d.toList.map λx=>x.1.1).take n++[d[n]!.1.1]:=by rw[bK hl2,eg n (by omega)]
   obtain⟨q,hq⟩:∃q,q=(d.toList.map λx=>x.1.1).take (n+1):=⟨_,rfl⟩;rw[<-hq];cases q with
   |nil=>rw[e2]at hq;simp at hq
   |cons a q=>
    show _=a::AY a (q++[d[n+1]!.1.1]);rw[HQ];have:q.getLastD a=d[n]!.1.1:=by
     have h1:=congrArg List.getLast? hq;rw[e2,List.getLast?_append,List.getLast?_singleton,Option.some_or,List.getLast?_cons]at h1;rw[List.getLastD_eq_getLast?];exact zA.inj h1
    rw[this];unfold Jq eqO;rw[wJ];by_cases hc:fB d[n+1]!.1.1 d[n]!.1.1=0<;>simp[hc,Dh]
end
def TR:∀(l:aa aD) (p:aD),(AY p l).length<=l.length
 |[],_=>zn _
 |y::l,p=>by
  have:=TR l y;unfold AY;split<;>simp<;>omega
def air(l:aa aD):(Dh l).length<=l.length:=by
 cases l with
 |nil=>exact zn _
 |cons x l=>have:=TR l x;simp[Dh];omega
def ae2{W:World}{gb n kk:Nat}{F:Array Value}(h:W.heap[gb]? =V (.cells F 47 (0,0)))(hs:n*2<=F.size)(hk:kk<n){c:Nat}{ty:TypeId}:
  (Builtin.clear_ #[50] ty #[.slice (V ⟨gb,0+kk*2,G⟩) (n-kk) c]).run w9 W= .ok (.tuple #[]) (W.setCells gb (0+kk*2) (Builtin.zeroCells #[.slice G 0 0, .int .i64 0] (n-kk)).toList):=by
 have hl:(Builtin.zeroCells #[.slice G 0 0, .int .i64 0] (n-kk)).toList.length=(n-kk)*2:=by simp[Builtin.zeroCells]
 have hst:=run_storeCells_cells (P:=w9) gb (0+kk*2) (Builtin.zeroCells #[.slice G 0 0, .int .i64 0] (n-kk)).toList 0 W (λj hj=>by
   rw[hl]at hj;simp only[World.cell?,h,Option.isSome_none,yA,gG];rw[xK (by omega)];rfl) (λj hj=>by simp[World.frozen?,h]) (λv hv=>by
   simp only[Builtin.zeroCells,Array.toList_map,zL]at hv;obtain⟨i,_,rfl⟩:=hv;have:i%(#[.slice G 0 0, .int .i64 0]:Array Value).size<2:=yQ _ (by decide);generalize i%(#[.slice G 0 0, .int .i64 0]:Array Value).size=q at this
   match q,this with
   |0,_=>rfl
   |1,_=>rfl)
 simp only[yt]at hst;obtain⟨m,hm⟩:∃m,n-kk=m+1:=⟨n-kk-1,by omega⟩;rw[hm]at hst ⊢;rw[yp]at hst ⊢;simp[Builtin.clear_,run_underlying underlying50,Tryz.zeroValue47,Value.cells,hst]
def anM(l b:aa aD)(hb:VZ l=V b):K7 w9 201 [.own 0, .fn (.func 252) []] [(0, .row 47 l)] 1 (gC w9 201 1 (d201.pat b)):=by
 unfold VZ at hb;split at hb
 case isFalse=>cases hb
 rename_i hlen;have hbl:b=Dh l:=(zA.inj hb).symm;intro ρ;have ho:gC w9 201 1 (d201.pat b)=⟨.own 1,[(1, .row 47 b)],2⟩:=by kernel_rfl
 show Go.Iv.Fn w9 201 [(cc.own 0).sub ρ,(cc.fn (.func 252) []).sub ρ] (bg.res ρ [(0, .row 47 l)]) _;rw[ho,dO,show (cc.fn (dz:=uni.dz) (.func 252) []).sub ρ= .fn (.func 252) []by simp[cc.sub]];intro w A vs hr hd hn;obtain⟨hr1,hr2⟩:=hr;obtain⟨v,v2,rfl⟩:∃v v2,vs=[v,v2]:=by
  match vs,hr1 with
  |[v,v2],_=>exact⟨v,v2,rfl⟩
 have hv:v=ρ.v 0:=(hr2 0 _ v rfl rfl).cH;have hv2:v2= .func (.func 252) #[] #[]:=by
  have:=hr2 1 (.fn (.func 252) []) v2 rfl rfl;cases this with
  |fn f cs us hl hrr=>rw[xg.1 hl]
 subst hv hv2;generalize hv:ρ.v 0=v at*;have hok:=hd.1 (.row v 47 l) (by show _∈[cE.row (ρ.v 0) 47 l];rw[hv];exact zy.2 rfl);obtain⟨us,h1,h2,h3⟩:=hok;have hσ:bg.res ρ [(0, .row 47 l)]=[cE.row v 47 l]:=by show [cE.row (ρ.v 0) 47 l]=_;rw[hv]
 rw[hσ]at hd hn ⊢;have fin:∀(w':World) (u:Value),gB u=gB v->(∃us',gD w' u 47 2 b.length us'/\∀i,i<b.length->bN A w (uni.cells 47 b[i]!) ((us'.drop (i*2)).take 2))->Kp (bD [cE.row v 47 l]) w w'->∃v_1 av σ',Ending.returned u=Ending.returned v_1/\
   (∃ρ',oS 1 ρ ρ'/\av=(cc.own (dz:=uni.dz) 1).sub ρ'/\List.Perm σ' (bg.res ρ' [(1, .row 47 b)]))/\Tr ⟨w,A,bD [cE.row v 47 l]⟩ (bD [cE.row v 47 l]) [cE.row v 47 l] w σ' w'/\Rel (al ⟨w,A,bD [cE.row v 47 l]⟩ σ') w' av v_1:=λw' u hu ⟨us',hrow,hrel⟩ hk=>by
  have hbk:bD [cE.row u 47 b]=bD [cE.row v 47 l]:=by simp only[bD,y6,cE.blk,hu]
  have hal:∀x,al ⟨w,A,bD [cE.row v 47 l]⟩ [cE.row v 47 l] x->al ⟨w,A,bD [cE.row v 47 l]⟩ [cE.row u 47 b] x:=λx h=>⟨h.1,by rw[hbk];exact h.2⟩;refine⟨u, .lit u,[cE.row u 47 b],rfl,⟨⟨λi=>if i=1 then u else ρ.v i,ρ.b⟩,λi hi=>⟨by show _=if i=1 then u else ρ.v i;rw[bO (by omega)],rfl⟩,by rw[dO];rfl,List.Perm.refl _⟩,⟨⟨hk,?_,?_,?_⟩,hk,λx _ h=>⟨hal x h,h.2⟩⟩, .lit u⟩
  ·intro r hr;rw[zy.1 hr];refine⟨us',hrow,λi _=>rfl,λi hi=>(hrel i hi).mono λx hx hA=> ?_⟩;have hnb:x∉bD [cE.row v 47 l]:=λh=>hd.2 x h hA;exact⟨⟨.inl hA,by rw[hbk];exact hnb⟩,hk.block x hx hnb⟩
  ·rw[hbk];exact hn
  ·intro x hx;rw[hbk]at hx;exact .inl hx
 obtain⟨h1l,hcase⟩:=h1;rcases hcase with ⟨p,hvp,hl0⟩|⟨gb,cap,cur,hvp,hg,q1,q2,q3,q4⟩
 ·have hl:l=[]:=xg.1 hl0;have hbn:b=[]:=by rw[hbl,hl];rfl
  subst hvp;refine(JZ func201 p 0 (.func (.func 252) #[] #[]) w).mono λe w' he=> ?_;obtain⟨rfl,rfl⟩:=he;refine fin w' _ rfl ⟨[],?_,λi hi=>by rw[hbn]at hi;cases hi⟩ (Kp.refl _ _);rw[hbn];exact⟨rfl, .inl ⟨p,rfl,rfl⟩⟩
 ·subst hvp;have hgs:gb<w.heap.size:=(xE.1 hg).1;have hAg:¬A gb:=hd.2 gb (bT.2 ⟨_,zy.2 rfl,rfl⟩);have q4:cur.toList.take (l.length*2)=us:=q4;have q3:cur.size=(cap+1)*2:=q3;have h1l:us.length=l.length*2:=h1l;have q1':l.length<=cap+1:=q1;obtain⟨d,d1,d2,d3⟩:=ak1 h1l h3;have hH:HoldsK oL 2 w gb 0 d:=GN hg d3 (by rw[h1l];exact q4);have hcmp:∀(dk:Array (Ob A w)) (W:World),dk.size=d.size->SWK oL 2 w gb 0 dk W->∀x y:Ob A w,Calls w9 252 (#[.agg (oL x).toArray, .agg (oL y).toArray]++#[]) W λe w'=>e= .returned (.bool (eqO x y))/\∃q os',w'=grow (W.drewN q) os':=λdk W hdk ⟨n,os,hW⟩ x y=>by
   subst hW;exact TD (ayE x.1.1 y.1.1 (am8 x)) (λc hc hA=>pL hc λe=>hAg (e▸hA))
  have hs:=ZQ (P:=w9) func201 (by kernel_rfl) underlying3 Tryz.isAgg3 Tryz.sizeOf3 Tryz.zeroValue3 underlying4 Tryz.isAgg4 Tryz.sizeOf4 Tryz.zeroValue4 underlying50 Tryz.isAgg50 Tryz.sizeOf50 Tryz.zeroValue50
   2 Tryz.isAgg47 Tryz.sizeOf47 oL eqO 252 #[] gb 0 (cap+1) d w (enters_of func252 (by kernel_rfl) rfl) hcmp ⟨uH,UG,hH,hgs⟩ (by rw[d1];omega) (by rw[d1];exact q1')
   (λkk=>(Builtin.zeroCells #[.slice G 0 0, .int .i64 0] (d.size-kk)).toList) (λW dk kk hS hdk hkk ty=>by
    obtain⟨n,os,rfl⟩:=hS;exact ae2 (tA hg) (by simp[putCells,q3];omega) hkk)
  rw[d1]at hs;refine hs.mono λe w' he=> ?_;obtain⟨rfl,dk,W,⟨n,os,hW⟩,hdk,hlow,hfin⟩:=he;rw[<-d1]at hlow hfin ⊢;obtain⟨L,hL⟩:∃L,L=Gi eqO d d.size:=⟨_,rfl⟩;rw[<-hL]at hlow hfin ⊢;have hLb:L.map (λx=>x.1.1)=b:=by
   rw[hL,Ur d d.size (zn _),d2,d1,zB,hbl]
  have hLlen:L.length=b.length:=by rw[<-hLb,zx]
  have hbll:b.length<=l.length:=by rw[hbl];exact air l
  have hWg:W.heap[gb]? =V (.cells (putCells id 0 (flatK oL 2 dk) cur) 47 (0,0)):=by rw[hW];exact tA hg
  have hkW:Kp [gb] w W:=by rw[hW];exact Lf
  have hFs:(flatK oL 2 dk).size=l.length*2:=by rw[size_flatK,hdk]
  obtain⟨F,hF1,hF2,hF3,hF4⟩:∃F:Array Value,w'.heap[gb]? =V (.cells F 47 (0,0))/\F.size=(cap+1)*2/\F.toList.take (b.length*2)=(flatK oL 2 dk).toList.take (b.length*2)/\Kp [gb] w w':=by
   have ht:=MZ (F:=flatK oL 2 dk) (cur:=cur) (by rw[hFs,q3];omega);have ht2:(putCells id 0 (flatK oL 2 dk) cur).toList.take (b.length*2)=(flatK oL 2 dk).toList.take (b.length*2):=by
    rw[<-ht,List.take_take,Nat.min_eq_left (by rw[hFs];omega)]
   rcases hfin with rfl|rfl
   ·exact⟨_,hWg,by simp[putCells,q3],ht2,hkW⟩
   ·refine⟨_,sB _ _ _ _ hWg,by simp[putCells,q3],?_,Kp.trans hkW (BD _ _ _) λx hx _=>hx⟩;rw[<-ht2];apply List.ext_getElem?;intro j;by_cases hj:j<b.length*2
    ·rw[wN hj,wN hj,wY,wY];have hjs:j<(putCells id 0 (flatK oL 2 dk) cur).size:=by simp[putCells,q3];omega
     have:=get_setMany ((Builtin.zeroCells #[.slice G 0 0, .int .i64 0] (d.size-L.length)).toList) (0+L.length*2) _ j hjs;rw[bO (by omega),getElem!_pos _ j (by simpa using hjs),getElem!_pos _ j hjs]at this;rw[xK (by simpa using hjs),xK hjs,this]
    ·rw[List.getElem?_take_eq_none (by omega),List.getElem?_take_eq_none (by omega)]
  have hdl:flatK oL 2 L.toArray=((flatK oL 2 dk).toList.take (b.length*2)).toArray:=by
   refine ext_get! (by simp[hLlen,hFs];omega) λt ht=> ?_;have ht:t<L.length*2:=by simpa using ht
   rw[get_flatK _ _ _ t (by simpa using ht)];have e1:(L.toArray)[t/2]! =dk[t/2]! :=by
    have:=hlow (t/2) (by omega);rw[getElem!_pos _ (t/2) (by simp;omega)];rw[zu (by omega)]at this;simpa using zA.inj this
   have e2:(((flatK oL 2 dk).toList.take (b.length*2)).toArray)[t]! =(flatK oL 2 dk)[t]! :=by
    rw[getElem!_pos _ t (by simp[hFs];omega),getElem!_pos _ t (by rw[hFs];omega)];simp
   rw[e1,e2,get_flatK _ _ _ t (by rw[hdk];omega)]
  obtain⟨r1,r2⟩:=Ze L.toArray b (by simpa using hLb);rw[hdl]at r1 r2;refine fin w' _ rfl ⟨(flatK oL 2 dk).toList.take (b.length*2),⟨by simpa using r1, .inr ⟨gb,cap,F,by rw[hLlen],hF1,by omega,q2,hF2,hF3⟩⟩,λi hi=>by simpa using r2 i hi⟩ hF4
def ayQ:anv:=λg b hb=>anM g.2.1 b hb
end Go.Proofs.YtnfljbehcffmcaaGreat
end
noncomputable section
namespace Go.Iv
variable [U:qO] [L:mI]
open Go Go.RowKit
def cnY(n0:Nat)(args:aa AV)(Rp:bg)(ns:aa Nat):Bool:=zf Rp.length n0&&args.all (kC (λi=>dH i ns) 4)&&Rp.all (λq=>match q.2 with
 | .box _ cs=>cs.all (kC (λi=>dH i ns) 4)
 | .row _ _=>O)
def W2{γ β α:Type}(t:γ->af β)(K:β->af α)(F zb:af α)(o:af γ):af α:=match o with
 |some g=>match t g with
  |some b=>K b
  |none=>zb
 |none=>F
def onT{α:Type}(c:Bool)(x y:af α):af α:=match c with
 |true=>x
 |false=>y
def AG{α γ β:Type}(q:aa AV->bg->af γ)(t:γ->af β)(out:β->Out)(n0:Nat)(args:aa AV)(nx:Nat)(k:AV->bg->Nat->af α)(F zb:af α)(Rp Rr:bg)(ns:aa Nat):af α:=
 onT (cnY n0 args Rp ns) (W2 t (λb=>k (lD (k9 ns n0 nx) 4 (out b).d) ((out b).R.map (λq=>(k9 ns n0 nx q.1,Gn (k9 ns n0 nx) q.2))++Rr) (nx+((out b).c-n0))) F zb (q (args.map (lD (lM ns) 4)) (Rp.map λq=>(lM ns q.1,Gn (lM ns) q.2)))) F
def YD{α γ β:Type}(q:aa AV->bg->af γ)(t:γ->af β)(out:β->Out)(n0:Nat)(args:aa AV)(nx:Nat)(k:AV->bg->Nat->af α)(F:af α)(Rp Rr:bg)(ns:aa Nat):Li q t out n0 args nx k F Rp Rr ns=AG q t out n0 args nx k F G Rp Rr ns:=rfl
def afU{γ β α:Type}(t:γ->af β)(K:β->af α)(F:af α)(o:af γ):W2 t K F F o=W2 t K F G o\/W2 t K F F o=F:=by
 unfold W2;cases o with
 |none=>exact .inr rfl
 |some g=>
  cases h:t g with
  |none=>exact .inr (by simp only[h])
  |some b=>exact .inl (by simp only[h])
def Wd{α γ β:Type}(q:aa AV->bg->af γ)(t:γ->af β)(out:β->Out)(n0:Nat)(args:aa AV)(nx:Nat)(k:AV->bg->Nat->af α)(F:af α)(Rp Rr:bg)(ns:aa Nat):
  AG q t out n0 args nx k F F Rp Rr ns=Li q t out n0 args nx k F Rp Rr ns\/AG q t out n0 args nx k F F Rp Rr ns=F:=by
 rw[YD];unfold AG;cases cnY n0 args Rp ns with
 |false=>exact .inr rfl
 |true=>exact afU ..
def Rf{γ β:Type}(f0 n0:Nat)(q:aa AV->bg->af γ)(t:γ->af β)(out:β->Out)(F:aZ):aZ:=λ_ f args R nx k=>match zf f f0 with
 |true=>AG q t out n0 args nx k (F _ f args R nx k) (F _ f args R nx k) (jY (reach R 3 (args.flatMap (ki 4))) R).1 (jY (reach R 3 (args.flatMap (ki 4))) R).2 ((jY (reach R 3 (args.flatMap (ki 4))) R).1.map λq=>q.1)
 |false=>F _ f args R nx k
def ahc{γ β α:Type}(f0 n0:Nat)(q:aa AV->bg->af γ)(t:γ->af β)(out:β->Out)(F:aZ)(f:FuncId)(args:aa AV)(R:bg)(nx:Nat)(k:AV->bg->Nat->af α):
  Rf f0 n0 q t out F α f args R nx k=ZP f0 n0 q t out F α f args R nx k\/Rf f0 n0 q t out F α f args R nx k=F α f args R nx k:=by
 unfold Rf ZP;cases zf f f0 with
 |true=>exact Wd ..
 |false=>exact .inr rfl
def abw{γ δ:Type}{f0 n0:Nat}{q:aa AV->bg->af γ}{t:γ->af δ}{out:δ->Out}{F:aZ}(hN:dX F):dX (Rf f0 n0 q t out F):=λα β f args R nx k D=>by
 have hF:=hN α β f args R nx k D;unfold Rf AG onT W2;cases zf f f0 with
 |false=>exact hF
 |true=>
  cases cnY n0 args (jY (reach R 3 (args.flatMap (ki 4))) R).1 ((jY (reach R 3 (args.flatMap (ki 4))) R).1.map λq=>q.1)with
  |false=>exact hF
  |true=>
   simp only;split
   ·split
    ·rfl
    ·exact hF
   ·exact hF
def aqY{P:Program}{F:aZ}{γ β:Type}{f0 n0:Nat}{q:aa AV->bg->af γ}{ca:γ->aa AV}{cr:γ->bg}{t:γ->af β}{out:β->Out}(hF:aQ P F)(hf:th P f0)(hq:QY q ca cr)(hm:∀b,(out b).okB n0=O)
  (h:∀g b,t g=V b->K7 P f0 (ca g) (cr g) n0 (out b)):aQ P (Rf f0 n0 q t out F):=⟨λα f args R nx k r hr hargs hR=>by
 rcases ahc f0 n0 q t out F f args R nx k with e|e
 ·exact Yd hF.ok hf hq hm h α f args R nx k r (e▸hr) hargs hR
 ·exact hF.ok α f args R nx k r (e▸hr) hargs hR,abw hF.nat⟩
def eZf{γ β:Type}(P:Program)(f:Nat)(a:Rl γ)(d:Td 0 β)(t:γ->af β)(F:aZ):aZ:=Rf f 0 (qy0 a.q) t (λx=>gC P f 0 (d.pat x)) F
def Pa{γ β:Type}{P:Program}{f:Nat}{F:aZ}{a:Rl γ}{d:Td 0 β}{t:γ->af β}(h:HL P f a d t)(hf:th P f)(h3:∀b,(gC P f 0 (d.pat b)).okB 0=O)(hF:aQ P F):aQ P (eZf P f a d t F):=
 aqY hF hf (aa5 a.ok) h3 h
end Go.Iv
end
noncomputable section
set_option maxRecDepth 100000
namespace Go.Proofs.YtnfljbehcffmcaaGreat
open Go Go.Iv
open Go.IntKind (i64 u64)
def ate:aZ:=(e39 cZ)
def agz:aQ w9 ate:=(ar7 aR)
abbrev azu:=aa aH
def d127:Td 0 azu:= .c [] [2] (.r 0 1 (ec 2 (qo 0) en) (sr 0 34 sn) (λz=>z.2.1) (λx=>(((),()),(x,()))))
def aAa:=(lc (qg 26) ln)
def alZ:An:= .no
def azE:cR w9 (ate) 0 300 127 (alZ):=bA (l:=[]) func127 (aV (by kernel_rfl)) (by kernel_rfl) aF
def akJ(a0:aN):af azu:=
 match m39 a0 with|G=>G|V r1=>V (r1)
def aDZ(a0:aN):bL w9 (ate) 300 (alZ) 127 (aAa.c (a0,())) [] 0 d127.rd=akJ a0:=by kernel_rfl
def axz:=eL w9 127 S aAa d127 (λg=>akJ g.1)
def aht{F:aZ}(h:aQ w9 F):aQ w9 (axz F):=cO (sc:=jr) cg (cF agz azE (λ_=>by kernel_rfl) (λ_=>by kernel_rfl) λg=>aDZ g.1) ⟨_,func127,by kernel_rfl,by kernel_rfl⟩ (λ_=>by kernel_rfl) (λ_=>by kernel_rfl) h
def F77:aZ:=cZ
def aqp:aQ w9 F77:=aR
structure CO where
 (t0 t1:List Int)
 (t12 t13:Int)
def Ni:Td 0 CO:= .c [] [0,1,12,13] (.r 0 0 (ec 0 (ql 3) (ec 1 (ql 3) (ec 12 aL (ec 13 aL en)))) sn (λz=>⟨z.1.1,z.1.2.1,z.1.t.1,z.1.t.2.1⟩) (λx=>((x.t0,x.t1,x.t12,x.t13,()),(()))))
def NG(p:CO):af (af CO):=
 bif J (p.t13<p.t12)then if 0<=p.t13/\p.t13<p.t0.length then if 0<=p.t13/\p.t13<p.t1.length then bif bif J (p.t0[p.t13.toNat]! =p.t1[p.t13.toNat]!)then S else O then V (G)else V (V (CO.mk p.t0 p.t1 p.t12 (i64.wrap (p.t13+1))))else G else G else V (G)
def aBw(p:CO):dQ w9 (F77) f77.ntmps 300 (aW f77 0) .no (af CO) (Ni.pat p) (rT Ni.rd)=NG p:=by kernel_rfl
def Uz:=bJ (NG)
abbrev E77:=Bool
def d77:Td 0 E77:= .c [] [4] (.r 0 0 (ec 4 qb en) sn (λz=>z.1.1) (λx=>((x,()),(()))))
def A77:=(lc (ql 3) (lc (ql 3) ln))
def azz:An:=(noTwo (noTwo (.two (noTwo (Ni.lp Uz .no)) .no)))
def aEz:cR w9 (F77) 0 300 77 (azz):=bA (l:=[(aW f77 0,(Ni.lp Uz .no))]) func77 (aV (by kernel_rfl)) (by kernel_rfl) (az ⟨Ni.ok _,dh (aBw)⟩ aF)
def m77(a0:aa Int)(a1:aa Int):af E77:=
 bif bif J ((a0.length:Int)=(a1.length:Int))then S else O then V S else match Uz (CO.mk a0 a1 a0.length 0)with|G=>G|V r1=>bif J (r1.t13<r1.t12)then if 0<=r1.t13/\r1.t13<r1.t0.length then if 0<=r1.t13/\r1.t13<r1.t1.length then bif bif J (r1.t0[r1.t13.toNat]! =r1.t1[r1.t13.toNat]!)then S else O then V S else G else G else G else V O
def c77(a0:aa Int)(a1:aa Int):bL w9 (F77) 300 (azz) 77 (A77.c (a0,a1,())) [] 0 d77.rd=m77 a0 a1:=by kernel_rfl
def e77:=eL w9 77 S A77 d77 (λg=>m77 g.1 g.2.1)
def apE{F:aZ}(h:aQ w9 F):aQ w9 (e77 F):=cO (sc:=jr) cg (cF aqp aEz (λ_=>by kernel_rfl) (λ_=>by kernel_rfl) λg=>c77 g.1 g.2.1) ⟨_,func77,by kernel_rfl,by kernel_rfl⟩ (λ_=>by kernel_rfl) (λ_=>by kernel_rfl) h
def Yh{F:aZ}{f:Nat}(h:bw F f):bw (e77 F) f:=eC h (λ_=>by kernel_rfl)
def asv:aZ:=cZ
def acX:aQ w9 asv:=aR
abbrev avo:=Int
def d108:Td 0 avo:= .c [] [2] (.r 0 0 (ec 2 aL en) sn (λz=>z.1.1) (λx=>((x,()),(()))))
def aAH:=(lc (qg 34) ln)
def anb:An:= .no
def ayN:cR w9 (asv) 0 300 108 (anb):=bA (l:=[]) func108 (aV (by kernel_rfl)) (by kernel_rfl) aF
def JJ(a0:aH):avo:=
 i64.wrap (i64.wrap (a0.ah-a0.ag)+1)
def aEn(a0:aH):bL w9 (asv) 300 (anb) 108 (aAH.c (a0,())) [] 0 d108.rd=V (JJ a0):=by kernel_rfl
def Mb:=eL w9 108 S aAH d108 (λg=>V (JJ g.1))
def Ul{F:aZ}(h:aQ w9 F):aQ w9 (Mb F):=cO (sc:=jr) cg (cF acX ayN (λ_=>by kernel_rfl) (λ_=>by kernel_rfl) λg=>aEn g.1) ⟨_,func108,by kernel_rfl,by kernel_rfl⟩ (λ_=>by kernel_rfl) (λ_=>by kernel_rfl) h
def as6:aZ:=(Mb cZ)
def ajN:aQ w9 as6:=(Ul aR)
abbrev aAM:=Bool
def d107:Td 0 aAM:= .c [] [2] (.r 0 0 (ec 2 qb en) sn (λz=>z.1.1) (λx=>((x,()),(()))))
def az2:=(lc (qg 34) ln)
def aml:An:= .no
def axc:cR w9 (as6) 0 300 107 (aml):=bA (l:=[]) func107 (aV (by kernel_rfl)) (by kernel_rfl) aF
def QU(a0:aH):aAM:=
 J (1<JJ a0)
def aDD(a0:aH):bL w9 (as6) 300 (aml) 107 (az2.c (a0,())) [] 0 d107.rd=V (QU a0):=by kernel_rfl
def ahN:=eL w9 107 S az2 d107 (λg=>V (QU g.1))
def KR{F:aZ}(h:aQ w9 F):aQ w9 (ahN F):=cO (sc:=jr) cg (cF ajN axc (λ_=>by kernel_rfl) (λ_=>by kernel_rfl) λg=>aDD g.1) ⟨_,func107,by kernel_rfl,by kernel_rfl⟩ (λ_=>by kernel_rfl) (λ_=>by kernel_rfl) h
def ah5:aZ:=(ahN cZ)
def aga:aQ w9 ah5:=(KR aR)
structure tK where
 t0:List aH
 (t7 t8:Int)
def F5:Td 0 tK:= .c [] [0,1,7,8] (.r 0 0 (ec 0 (ql 34) (ec 1 (qf 107 ln) (ec 7 aL (ec 8 aL en)))) sn (λz=>⟨z.1.1,z.1.t.1,z.1.t.2.1⟩) (λx=>((x.t0,(()),x.t7,x.t8,()),(()))))
def Bl(p:tK):af (af tK):=
 bif J (p.t8<p.t7)then if 0<=p.t8/\p.t8<p.t0.length then bif QU p.t0[p.t8.toNat]! then V (G)else V (V (tK.mk p.t0 p.t7 (i64.wrap (p.t8+1))))else G else V (G)
def aqk(p:tK):dQ w9 (ah5) f190.ntmps 300 (aW f190 0) .no (af tK) (F5.pat p) (rT F5.rd)=Bl p:=by kernel_rfl
def Jf:=bJ (Bl)
abbrev azJ:=Int
def d190:Td 0 azJ:= .c [] [4] (.r 0 0 (ec 4 aL en) sn (λz=>z.1.1) (λx=>((x,()),(()))))
def aus:=(lc (ql 34) (lc (qf 107 ln) ln))
def anp:An:=(noTwo (.two (noTwo (F5.lp Jf .no)) .no))
def aAP:cR w9 (ah5) 0 300 190 (anp):=bA (l:=[(aW f190 0,(F5.lp Jf .no))]) func190 (aV (by kernel_rfl)) (by kernel_rfl) (az ⟨F5.ok _,dh (aqk)⟩ aF)
def akI(a0:aa aH):af azJ:=
 match Jf (tK.mk a0 a0.length 0)with|G=>G|V r1=>bif J (r1.t8<r1.t7)then if 0<=r1.t8/\r1.t8<r1.t0.length then bif QU r1.t0[r1.t8.toNat]! then V (r1.t8)else G else G else V (-1)
def aDu(a0:aa aH):bL w9 (ah5) 300 (anp) 190 (aus.c (a0,(()),())) [] 0 d190.rd=akI a0:=by kernel_rfl
def axj:=eL w9 190 S aus d190 (λg=>akI g.1)
def aeW{F:aZ}(h:aQ w9 F):aQ w9 (axj F):=cO (sc:=jr) cg (cF aga aAP (λ_=>by kernel_rfl) (λ_=>by kernel_rfl) λg=>aDu g.1) ⟨_,func190,by kernel_rfl,by kernel_rfl⟩ (λ_=>by kernel_rfl) (λ_=>by kernel_rfl) h
def ar1:aZ:=(axj (ahN cZ))
def adP:aQ w9 ar1:=(aeW (KR aR))
abbrev axl:=Bool
def d106:Td 0 axl:= .c [] [4] (.r 0 0 (ec 4 qb en) sn (λz=>z.1.1) (λx=>((x,()),(()))))
def awe:=(lc (ql 34) (lc (qf 107 ln) ln))
def alN:An:= .no
def avy:cR w9 (ar1) 0 300 106 (alN):=bA (l:=[]) func106 (aV (by kernel_rfl)) (by kernel_rfl) aF
def aaz(a0:aa aH):af axl:=
 match akI a0 with|G=>G|V r1=>V (J (0<=r1))
def aE7(a0:aa aH):bL w9 (ar1) 300 (alN) 106 (awe.c (a0,(()),())) [] 0 d106.rd=aaz a0:=by kernel_rfl
def afG:=eL w9 106 S awe d106 (λg=>aaz g.1)
def af2{F:aZ}(h:aQ w9 F):aQ w9 (afG F):=cO (sc:=jr) cg (cF adP avy (λ_=>by kernel_rfl) (λ_=>by kernel_rfl) λg=>aE7 g.1) ⟨_,func106,by kernel_rfl,by kernel_rfl⟩ (λ_=>by kernel_rfl) (λ_=>by kernel_rfl) h
def anO:aZ:=(Bk cZ)
def acS:aQ w9 anO:=(rJ aR)
abbrev ayq:=Bool
def d187:Td 0 ayq:= .c [] [4] (.r 0 0 (ec 4 qb en) sn (λz=>z.1.1) (λx=>((x,()),(()))))
def auf:=(lc (qg 47) (lc (qg 47) ln))
def aln:An:= .no
def atZ:cR w9 (anO) 0 300 187 (aln):=bA (l:=[]) func187 (aV (by kernel_rfl)) (by kernel_rfl) aF
def Wc(a0:aD)(a1:aD):af ayq:=
 match Gy a0 a1 with|G=>G|V r1=>V (J (r1=0))
def aD6(a0:aD)(a1:aD):bL w9 (anO) 300 (aln) 187 (auf.c (a0,a1,())) [] 0 d187.rd=Wc a0 a1:=by kernel_rfl
def ab5:=eL w9 187 S auf d187 (λg=>Wc g.1 g.2.1)
def BV{F:aZ}(h:aQ w9 F):aQ w9 (ab5 F):=cO (sc:=jr) cg (cF acS atZ (λ_=>by kernel_rfl) (λ_=>by kernel_rfl) λg=>aD6 g.1 g.2.1) ⟨_,func187,by kernel_rfl,by kernel_rfl⟩ (λ_=>by kernel_rfl) (λ_=>by kernel_rfl) h
def adK:aZ:=(e77 cZ)
def aeS:aQ w9 adK:=(apE aR)
abbrev ayB:=Bool
def d189:Td 0 ayB:= .c [] [4] (.r 0 0 (ec 4 qb en) sn (λz=>z.1.1) (λx=>((x,()),(()))))
def au8:=(lc (qg 117) (lc (qg 117) ln))
def anq:An:=(noTwo (.two (.rb [77] 4) .no))
def axC:∀f∈([77]:aa Nat),bw (adK) f:=(az (Yh bS) aF)
def aBz:cR w9 (adK) 0 300 189 (anq):=bA (l:=[(.skip,(.rb [77] 4))]) func189 (aV (by kernel_rfl)) (by kernel_rfl) (az axC aF)
def V9(a0:Cell)(a1:Cell):af ayB:=
 match bif J (a0.bZ=a1.bZ)then bif J (a0.iV=a1.iV)then bif J (a0.gF=a1.gF)then match m77 a0.aq a1.aq with|G=>G|V r1=>bif r1 then match m77 a0.dL a1.dL with|G=>G|V r2=>V (r2)else V (S)else V (S)else V (S)else V (S)with|G=>G|V r3=>V (r3)
def aE4(a0:Cell)(a1:Cell):bL w9 (adK) 300 (anq) 189 (au8.c (a0,a1,())) [] 0 d189.rd=V9 a0 a1:=by kernel_rfl
def asK:=eL w9 189 S au8 d189 (λg=>V9 g.1 g.2.1)
def Cf{F:aZ}(h:aQ w9 F):aQ w9 (asK F):=cO (sc:=jr) cg (cF aeS aBz (λ_=>by kernel_rfl) (λ_=>by kernel_rfl) λg=>aE4 g.1 g.2.1) ⟨_,func189,by kernel_rfl,by kernel_rfl⟩ (λ_=>by kernel_rfl) (λ_=>by kernel_rfl) h
def aex:aZ:=(asK cZ)
def ahY:aQ w9 aex:=(Cf aR)
structure sE where
 (t1 t15:List Cell)
 (t16 t17:Int)
def CU:Td 0 sE:= .c [] [1,2,15,16,17] (.r 0 0 (ec 1 (ql 117) (ec 2 (qf 189 ln) (ec 15 (ql 117) (ec 16 aL (ec 17 aL en))))) sn (λz=>⟨z.1.1,z.1.t.1,z.1.t.2.1,z.1.q.1⟩) (λx=>((x.t1,(()),x.t15,x.t16,x.t17,()),(()))))
def Fm(p:sE):af (af sE):=
 bif J (p.t17<p.t16)then if 0<=p.t17/\p.t17<p.t15.length then if 0<=p.t17/\p.t17<p.t1.length then match V9 p.t15[p.t17.toNat]! p.t1[p.t17.toNat]! with|G=>G|V r1=>bif bif r1 then S else O then V (G)else V (V (sE.mk p.t1 p.t15 p.t16 (i64.wrap (p.t17+1))))else G else G else V (G)
def an1(p:sE):dQ w9 (aex) f120.ntmps 300 (aW f120 0) .no (af sE) (CU.pat p) (rT CU.rd)=Fm p:=by kernel_rfl
def IF:=bJ (Fm)
abbrev at7:=Bool
def d120:Td 0 at7:= .c [] [6] (.r 0 0 (ec 6 qb en) sn (λz=>z.1.1) (λx=>((x,()),(()))))
def axI:=(lc (ql 117) (lc (ql 117) (lc (qf 189 ln) ln)))
def amF:An:=(noTwo (noTwo (.two (noTwo (CU.lp IF .no)) .no)))
def aAQ:cR w9 (aex) 0 300 120 (amF):=bA (l:=[(aW f120 0,(CU.lp IF .no))]) func120 (aV (by kernel_rfl)) (by kernel_rfl) (az ⟨CU.ok _,dh (an1)⟩ aF)
def Vu(a0:aa Cell)(a1:aa Cell):af at7:=
 bif bif J ((a0.length:Int)=(a1.length:Int))then S else O then V S else match IF (sE.mk a1 a0 a0.length 0)with|G=>G|V r2=>bif J (r2.t17<r2.t16)then if 0<=r2.t17/\r2.t17<r2.t15.length then if 0<=r2.t17/\r2.t17<r2.t1.length then match V9 r2.t15[r2.t17.toNat]! r2.t1[r2.t17.toNat]! with|G=>G|V r3=>bif bif r3 then S else O then V S else G else G else G else V O
def aEf(a0:aa Cell)(a1:aa Cell):bL w9 (aex) 300 (amF) 120 (axI.c (a0,a1,(()),())) [] 0 d120.rd=Vu a0 a1:=by kernel_rfl
def afY:=eL w9 120 S axI d120 (λg=>Vu g.1 g.2.1)
def Ke{F:aZ}(h:aQ w9 F):aQ w9 (afY F):=cO (sc:=jr) cg (cF ahY aAQ (λ_=>by kernel_rfl) (λ_=>by kernel_rfl) λg=>aEf g.1 g.2.1) ⟨_,func120,by kernel_rfl,by kernel_rfl⟩ (λ_=>by kernel_rfl) (λ_=>by kernel_rfl) h
def F71:aZ:=(ab5 cZ)
def as3:aQ w9 F71:=(BV aR)
structure D8 where
 (t1 t15:List aD)
 (t16 t17:Int)
def NC:Td 0 D8:= .c [] [1,2,15,16,17] (.r 0 0 (ec 1 (ql 47) (ec 2 (qf 187 ln) (ec 15 (ql 47) (ec 16 aL (ec 17 aL en))))) sn (λz=>⟨z.1.1,z.1.t.1,z.1.t.2.1,z.1.q.1⟩) (λx=>((x.t1,(()),x.t15,x.t16,x.t17,()),(()))))
def Oh(p:D8):af (af D8):=
 bif J (p.t17<p.t16)then if 0<=p.t17/\p.t17<p.t15.length then if 0<=p.t17/\p.t17<p.t1.length then match Wc p.t15[p.t17.toNat]! p.t1[p.t17.toNat]! with|G=>G|V r1=>bif bif r1 then S else O then V (G)else V (V (D8.mk p.t1 p.t15 p.t16 (i64.wrap (p.t17+1))))else G else G else V (G)
def aAl(p:D8):dQ w9 (F71) f71.ntmps 300 (aW f71 0) .no (af D8) (NC.pat p) (rT NC.rd)=Oh p:=by kernel_rfl
def UM:=bJ (Oh)
abbrev E71:=Bool
def d71:Td 0 E71:= .c [] [6] (.r 0 0 (ec 6 qb en) sn (λz=>z.1.1) (λx=>((x,()),(()))))
def A71:=(lc (ql 47) (lc (ql 47) (lc (qf 187 ln) ln)))
def ayy:An:=(noTwo (noTwo (.two (noTwo (NC.lp UM .no)) .no)))
def aDz:cR w9 (F71) 0 300 71 (ayy):=bA (l:=[(aW f71 0,(NC.lp UM .no))]) func71 (aV (by kernel_rfl)) (by kernel_rfl) (az ⟨NC.ok _,dh (aAl)⟩ aF)
def m71(a0:aa aD)(a1:aa aD):af E71:=
 bif bif J ((a0.length:Int)=(a1.length:Int))then S else O then V S else match UM (D8.mk a1 a0 a0.length 0)with|G=>G|V r2=>bif J (r2.t17<r2.t16)then if 0<=r2.t17/\r2.t17<r2.t15.length then if 0<=r2.t17/\r2.t17<r2.t1.length then match Wc r2.t15[r2.t17.toNat]! r2.t1[r2.t17.toNat]! with|G=>G|V r3=>bif bif r3 then S else O then V S else G else G else G else V O
def c71(a0:aa aD)(a1:aa aD):bL w9 (F71) 300 (ayy) 71 (A71.c (a0,a1,(()),())) [] 0 d71.rd=m71 a0 a1:=by kernel_rfl
def e71:=eL w9 71 S A71 d71 (λg=>m71 g.1 g.2.1)
def Qc{F:aZ}(h:aQ w9 F):aQ w9 (e71 F):=cO (sc:=jr) cg (cF as3 aDz (λ_=>by kernel_rfl) (λ_=>by kernel_rfl) λg=>c71 g.1 g.2.1) ⟨_,func71,by kernel_rfl,by kernel_rfl⟩ (λ_=>by kernel_rfl) (λ_=>by kernel_rfl) h
def apm:aZ:=cZ
def aiO:aQ w9 apm:=aR
abbrev apF:=aH
def d250:Td 0 apF:= .c [] [4] (.r 0 1 (ec 4 (qp 0 0) en) (sb 0 34 (lg 34) sn) (λz=>z.2.1) (λx=>(((),()),(x,()))))
def aA5:=(bk (bk ln))
def alv:An:= .no
def awF:cR w9 (apm) 0 300 250 (alv):=bA (l:=[]) func250 (aV (by kernel_rfl)) (by kernel_rfl) aF
def RG(a0:Int)(a1:Int):apF:=
 bif J (a0=a1)then aH.mk a0 a1 (0)else aH.mk a0 a1 (1)
def aC4(a0:Int)(a1:Int):bL w9 (apm) 300 (alv) 250 (aA5.c (a0,a1,())) [] 0 d250.rd=V (RG a0 a1):=by
 refine Eq.trans (b:=(
  bif J (a0=a1)then V (aH.mk a0 a1 (0))else V (aH.mk a0 a1 (1)):af apF)) (by kernel_rfl) ?_
 simp only[RG,cM,di]
def awH:=eL w9 250 S aA5 d250 (λg=>V (RG g.1 g.2.1))
def ag8{F:aZ}(h:aQ w9 F):aQ w9 (awH F):=cO (sc:=jr) cg (cF aiO awF (λ_=>by kernel_rfl) (λ_=>by kernel_rfl) λg=>aC4 g.1 g.2.1) ⟨_,func250,by kernel_rfl,by kernel_rfl⟩ (λ_=>by kernel_rfl) (λ_=>by kernel_rfl) h
def ast:aZ:=(awH (e40 cZ))
def agi:aQ w9 ast:=(ag8 (sP aR))
abbrev aBg:=(aa aH)×(aa aH)
def d186:Td 0 aBg:= .c [] [6,7] (.r 0 2 (ec 6 (qo 0) (ec 7 (qo 1) en)) (sr 0 34 (sr 1 34 sn)) (λz=>(z.2.1,z.t.1)) (λx=>(((),(),()),(x.1,x.2,()))))
def ax0:=(lc (ql 34) (bk (bk ln)))
def ams:An:= .no
def auG:cR w9 (ast) 0 300 186 (ams):=bA (l:=[]) func186 (aV (by kernel_rfl)) (by kernel_rfl) aF
def Pm(a0:aa aH)(a1:Int)(a2:Int):af aBg:=
 match Vy a0 with|G=>G|V r1=>match Vy a0 with|G=>G|V r2=>if 0<=a1/\a1<a0.length then if 0<=a1/\a1<(↑(zP r1):Int)then if 34=34/\a1.toNat<zP r1 then if 0<=a1/\a1<a0.length then if 0<=a1/\a1<(↑(zP r2):Int)then if 34=34/\a1.toNat<zP r2 then V ((List.set r1 a1.toNat (RG a0[a1.toNat]!.ag a2),List.set r2 a1.toNat (RG (i64.wrap (a2+1)) a0[a1.toNat]!.ah)))else G else G else G else G else G else G
def aE8(a0:aa aH)(a1:Int)(a2:Int):bL w9 (ast) 300 (ams) 186 (ax0.c (a0,a1,a2,())) [] 0 d186.rd=Pm a0 a1 a2:=by kernel_rfl
def Qt:=eL w9 186 S ax0 d186 (λg=>Pm g.1 g.2.1 g.t.1)
def Cu{F:aZ}(h:aQ w9 F):aQ w9 (Qt F):=cO (sc:=jr) cg (cF agi auG (λ_=>by kernel_rfl) (λ_=>by kernel_rfl) λg=>aE8 g.1 g.2.1 g.t.1) ⟨_,func186,by kernel_rfl,by kernel_rfl⟩ (λ_=>by kernel_rfl) (λ_=>by kernel_rfl) h
def aq0:aZ:=(e26 (e25 cZ))
def ah6:aQ w9 aq0:=(mc (mz aR))
abbrev aAg:=Tree
def d185:Td 2 aAg:= .c [] [] (.r 2 3 en (sb 0 172 (lc (ql 131) (lc (ql 139) (lc (ql 166) (lc (ql 3) (lc qb (lc (qo 2) ln)))))) (sr 2 174 sn)) (λz=>(Tree.mk (aN.mk z.2.1.1 z.2.1.2.1 z.2.1.t.1) (bV.mk z.2.1.t.2.1 z.2.1.q.1) z.t.1)) (λx=>((()),((x.fF.ai,x.fF.ak,x.fF.bI,x.fV.aU,x.fV.eH,(),()),x.aP,()))))
def aA0:=(lc (qp 0 0) (lc (ql 34) ln))
def aA2:=(sb 0 172 (lc (ql 131) (lc (ql 139) (lc (ql 166) (lc (ql 3) (lc qb (lc (qo 1) ln)))))) (sr 1 174 sn))
def amM:An:= .no
def azD:cR w9 (aq0) 2 300 185 (amM):=bA (l:=[]) func185 (aV (by kernel_rfl)) (by kernel_rfl) aF
def WT(a1:aa aH)(b0:Tree):af aAg:=
 match Qr b0.fF b0.fV a1 with|G=>G|V r1=>match Wb b0.fF b0.fV a1 with|G=>G|V r2=>if(b0.aP++[eo.mk a1 ((0:Int)) ((0:Int)) [] r1.fst r2.snd.fst r2.fst]).length<=1073741824 then V (Tree.mk b0.fF b0.fV (b0.aP++[eo.mk a1 0 0 [] r1.fst r2.snd.fst r2.fst]))else G
def aEy(a1:aa aH)(b0:Tree):bL w9 (aq0) 300 (amM) 185 (aA0.c ((),a1,())) (aA2.d ((b0.fF.ai,b0.fF.ak,b0.fF.bI,b0.fV.aU,b0.fV.eH,(),()),b0.aP,())) 2 d185.rd=WT a1 b0:=by kernel_rfl
def ax7:aZ->aZ:=eY w9 185 2 aA0 aA2 d185 (λg=>WT g.1.2.1 ((Tree.mk (aN.mk g.2.1.1 g.2.1.2.1 g.2.1.t.1) (bV.mk g.2.1.t.2.1 g.2.1.q.1) g.t.1)))
def ae9{F:aZ}(h:aQ w9 F):aQ w9 (ax7 F):=mS (sx ah6 azD (λ_=>by kernel_rfl) (λ_=>by kernel_rfl) (λ_=>by kernel_rfl) λg=>aEy g.1.2.1 ((Tree.mk (aN.mk g.2.1.1 g.2.1.2.1 g.2.1.t.1) (bV.mk g.2.1.t.2.1 g.2.1.q.1) g.t.1))) ⟨_,func185,by kernel_rfl,by kernel_rfl⟩ (λ_=>by kernel_rfl) h
def aq7:aZ:=(Qt (ax7 cZ))
def ajo:aQ w9 aq7:=(Cu (ae9 aR))
abbrev axE:=Tree
def d191:Td 2 axE:= .c [] [] (.r 2 3 en (sb 0 172 (lc (ql 131) (lc (ql 139) (lc (ql 166) (lc (ql 3) (lc qb (lc (qo 2) ln)))))) (sr 2 174 sn)) (λz=>(Tree.mk (aN.mk z.2.1.1 z.2.1.2.1 z.2.1.t.1) (bV.mk z.2.1.t.2.1 z.2.1.q.1) z.t.1)) (λx=>((()),((x.fF.ai,x.fF.ak,x.fF.bI,x.fV.aU,x.fV.eH,(),()),x.aP,()))))
def awa:=(lc (qp 0 0) (bk (bk (bk ln))))
def azZ:=(sb 0 172 (lc (ql 131) (lc (ql 139) (lc (ql 166) (lc (ql 3) (lc qb (lc (qo 1) ln)))))) (sr 1 174 sn))
def ale:An:= .no
def azQ:cR w9 (aq7) 2 300 191 (ale):=bA (l:=[]) func191 (aV (by kernel_rfl)) (by kernel_rfl) aF
def k8(x0:Tree)(x1:Int)(x2:Int):=
 x0.aP.set x1.toNat (eo.mk x0.aP[x1.toNat]!.bP x2 x0.aP[x1.toNat]!.iV x0.aP[x1.toNat]!.aq x0.aP[x1.toNat]!.gF x0.aP[x1.toNat]!.eE x0.aP[x1.toNat]!.dL)
def lT(x0:Tree)(x1:Int)(x2:Int)(x3:Int):=
 (k8 x0 x1 x2).set x1.toNat (eo.mk (k8 x0 x1 x2)[x1.toNat]!.bP (k8 x0 x1 x2)[x1.toNat]!.bZ x3 (k8 x0 x1 x2)[x1.toNat]!.aq (k8 x0 x1 x2)[x1.toNat]!.gF (k8 x0 x1 x2)[x1.toNat]!.eE (k8 x0 x1 x2)[x1.toNat]!.dL)
def Xx(a1:Int)(a2:Int)(a3:Int)(b0:Tree):af axE:=
 if 0<=a1/\a1<b0.aP.length then if 174=174/\a1.toNat<b0.aP.length then match Pm b0.aP[a1.toNat]!.bP a2 a3 with|G=>G|V r1=>if 0<=a1/\a1<b0.aP.length then if 174=174/\a1.toNat<b0.aP.length then if 0<=a1/\a1<(↑(k8 b0 a1 a2).length:Int)then if 174=174/\a1.toNat<(k8 b0 a1 a2).length then if 0<=a1/\a1<(↑(lT b0 a1 a2 a3).length:Int)then if 174=174/\a1.toNat<(lT b0 a1 a2 a3).length then match WT r1.fst (Tree.mk b0.fF b0.fV ((lT b0 a1 a2 a3).set a1.toNat (eo.mk (lT b0 a1 a2 a3)[a1.toNat]!.bP (lT b0 a1 a2 a3)[a1.toNat]!.bZ (lT b0 a1 a2 a3)[a1.toNat]!.iV [(b0.aP.length:Int),i64.wrap ((b0.aP.length:Int)+1)] (lT b0 a1 a2 a3)[a1.toNat]!.gF (lT b0 a1 a2 a3)[a1.toNat]!.eE (lT b0 a1 a2 a3)[a1.toNat]!.dL)))with|G=>G|V r2=>match WT r1.snd r2 with|G=>G|V r3=>V (r3)else G else G else G else G else G else G else G else G
def aFo(a1:Int)(a2:Int)(a3:Int)(b0:Tree):bL w9 (aq7) 300 (ale) 191 (awa.c ((),a1,a2,a3,())) (azZ.d ((b0.fF.ai,b0.fF.ak,b0.fF.bI,b0.fV.aU,b0.fV.eH,(),()),b0.aP,())) 2 d191.rd=Xx a1 a2 a3 b0:=by kernel_rfl
def ahb:aZ->aZ:=eY w9 191 2 awa azZ d191 (λg=>Xx g.1.2.1 g.1.t.1 g.1.t.2.1 ((Tree.mk (aN.mk g.2.1.1 g.2.1.2.1 g.2.1.t.1) (bV.mk g.2.1.t.2.1 g.2.1.q.1) g.t.1)))
def adT{F:aZ}(h:aQ w9 F):aQ w9 (ahb F):=mS (sx ajo azQ (λ_=>by kernel_rfl) (λ_=>by kernel_rfl) (λ_=>by kernel_rfl) λg=>aFo g.1.2.1 g.1.t.1 g.1.t.2.1 ((Tree.mk (aN.mk g.2.1.1 g.2.1.2.1 g.2.1.t.1) (bV.mk g.2.1.t.2.1 g.2.1.q.1) g.t.1))) ⟨_,func191,by kernel_rfl,by kernel_rfl⟩ (λ_=>by kernel_rfl) h
def SJ:aZ:=(ahb (Mb cZ))
def XU:aQ w9 SJ:=(adT (Ul aR))
structure lY where
 t1:Int
 t5:List aH
 t6:Int
 t24:List aH
 (t25 t26:Int)
 b0:Tree
def uC:Td 2 lY:= .c [] [0,1,5,6,24,25,26] (.r 2 2 (ec 0 (qp 0 0) (ec 1 aL (ec 5 (ql 34) (ec 6 aL (ec 24 (ql 34) (ec 25 aL (ec 26 aL en))))))) (sb 0 172 (lc (ql 131) (lc (ql 139) (lc (ql 166) (lc (ql 3) (lc qb (lc (qo 1) ln)))))) (sr 1 174 sn)) (λz=>⟨z.1.2.1,z.1.t.1,z.1.t.2.1,z.1.q.1,z.1.q.2.1,z.1.q.t.1,(Tree.mk (aN.mk z.2.1.1 z.2.1.2.1 z.2.1.t.1) (bV.mk z.2.1.t.2.1 z.2.1.q.1) z.t.1)⟩) (λx=>(((),x.t1,x.t5,x.t6,x.t24,x.t25,x.t26,()),((x.b0.fF.ai,x.b0.fF.ak,x.b0.fF.bI,x.b0.fV.aU,x.b0.fV.eH,(),()),x.b0.aP,()))))
def rH(p:lY):af (af lY):=
 bif J (p.t26<p.t25)then if 0<=p.t26/\p.t26<p.t24.length then if 0<=p.t6/\p.t6<p.t5.length then bif J (JJ p.t5[p.t6.toNat]! <JJ p.t24[p.t26.toNat]!)then V (V (lY.mk p.t1 p.t5 p.t26 p.t24 p.t25 (i64.wrap (p.t26+1)) p.b0))else V (V (lY.mk p.t1 p.t5 p.t6 p.t24 p.t25 (i64.wrap (p.t26+1)) p.b0))else G else G else V (G)
def afc(p:lY):dQ w9 (SJ) f109.ntmps 300 (aW f109 0) .no (af lY) (uC.pat p) (rT uC.rd)=rH p:=by kernel_rfl
def B4:=bJ (rH)
abbrev amk:=Int×Tree
def al6:Td 2 amk:= .c [] [4] (.r 2 3 (ec 4 aL en) (sb 0 172 (lc (ql 131) (lc (ql 139) (lc (ql 166) (lc (ql 3) (lc qb (lc (qo 2) ln)))))) (sr 2 174 sn)) (λz=>(z.1.1,(Tree.mk (aN.mk z.2.1.1 z.2.1.2.1 z.2.1.t.1) (bV.mk z.2.1.t.2.1 z.2.1.q.1) z.t.1))) (λx=>((x.1,()),((x.2.fF.ai,x.2.fF.ak,x.2.fF.bI,x.2.fV.aU,x.2.fV.eH,(),()),x.2.aP,()))))
def alE:=(lc (qp 0 0) (bk ln))
def am2:=(sb 0 172 (lc (ql 131) (lc (ql 139) (lc (ql 166) (lc (ql 3) (lc qb (lc (qo 1) ln)))))) (sr 1 174 sn))
def aaO:An:=(noTwo (noTwo (noTwo (noTwo (.two (noTwo (uC.lp B4 .no)) .no)))))
def asR:cR w9 (SJ) 2 300 109 (aaO):=bA (l:=[(aW f109 0,(uC.lp B4 .no))]) func109 (aV (by kernel_rfl)) (by kernel_rfl) (az ⟨uC.ok _,dh (afc)⟩ aF)
def Mp(a1:Int)(b0:Tree):af amk:=
 bif J (8192<i64.wrap ((b0.aP.length:Int)+2))then G else if 0<=a1/\a1<b0.aP.length then if 174=174/\a1.toNat<b0.aP.length then match B4 (lY.mk a1 b0.aP[a1.toNat]!.bP 0 b0.aP[a1.toNat]!.bP (↑b0.aP[a1.toNat]!.bP.length:Int) 0 b0)with|G=>G|V r1=>bif J (r1.t26<r1.t25)then if 0<=r1.t26/\r1.t26<r1.t24.length then if 0<=r1.t6/\r1.t6<r1.t5.length then bif J (JJ r1.t5[r1.t6.toNat]! <JJ r1.t24[r1.t26.toNat]!)then G else G else G else G else if 0<=r1.t6/\r1.t6<r1.t5.length then if 0<=r1.t6/\r1.t6<r1.t5.length then match Xx r1.t1 r1.t6 (cL IntKind.i64 (i64.wrap (r1.t5[r1.t6.toNat]!.ag+r1.t5[r1.t6.toNat]!.ah)) 1) r1.b0 with|G=>G|V r2=>V (0,r2)else G else G else G else G
def awN(a1:Int)(b0:Tree):bL w9 (SJ) 300 (aaO) 109 (alE.c ((),a1,())) (am2.d ((b0.fF.ai,b0.fF.ak,b0.fF.bI,b0.fV.aU,b0.fV.eH,(),()),b0.aP,())) 2 al6.rd=Mp a1 b0:=by kernel_rfl
def al8:aZ->aZ:=eY w9 109 2 alE am2 al6 (λg=>Mp g.1.2.1 ((Tree.mk (aN.mk g.2.1.1 g.2.1.2.1 g.2.1.t.1) (bV.mk g.2.1.t.2.1 g.2.1.q.1) g.t.1)))
def ZX{F:aZ}(h:aQ w9 F):aQ w9 (al8 F):=mS (sx XU asR (λ_=>by kernel_rfl) (λ_=>by kernel_rfl) (λ_=>by kernel_rfl) λg=>awN g.1.2.1 ((Tree.mk (aN.mk g.2.1.1 g.2.1.2.1 g.2.1.t.1) (bV.mk g.2.1.t.2.1 g.2.1.q.1) g.t.1))) ⟨_,func109,by kernel_rfl,by kernel_rfl⟩ (λ_=>by kernel_rfl) h
def afP:aZ:=(Bk cZ)
def aez:aQ w9 afP:=(rJ aR)
structure pn where
 t0:List aD
 (t8 t9 t10:Int)
 b0:aD
def FV:Td 0 pn:= .c [] [0,2,4,8,9,10] (.r 0 1 (ec 0 (ql 47) (ec 2 (qf 188 ln) (ec 4 (qp 0 0) (ec 8 aL (ec 9 aL (ec 10 aL en)))))) (sb 0 47 (lg 47) sn) (λz=>⟨z.1.1,z.1.t.2.1,z.1.q.1,z.1.q.2.1,z.2.1⟩) (λx=>((x.t0,(()),(),x.t8,x.t9,x.t10,()),(x.b0,()))))
def qa(p:pn):af (af pn):=
 bif J (p.t9<p.t10)then if 0<=i64.wrap (cL IntKind.u64 (IntKind.u64.wrap (i64.wrap (p.t9+p.t10))) ((1:Int)))/\i64.wrap (cL IntKind.u64 (IntKind.u64.wrap (i64.wrap (p.t9+p.t10))) ((1:Int)))<p.t0.length then match Gy p.t0[(i64.wrap (cL IntKind.u64 (IntKind.u64.wrap (i64.wrap (p.t9+p.t10))) 1)).toNat]! p.b0 with|G=>G|V r1=>bif J (r1<0)then V (V (pn.mk p.t0 p.t8 (i64.wrap (i64.wrap (cL IntKind.u64 (IntKind.u64.wrap (i64.wrap (p.t9+p.t10))) 1)+1)) p.t10 p.b0))else V (V (pn.mk p.t0 p.t8 p.t9 (i64.wrap (cL IntKind.u64 (IntKind.u64.wrap (i64.wrap (p.t9+p.t10))) 1)) p.b0))else G else V (G)
def aps(p:pn):dQ w9 (afP) f123.ntmps 300 (aW f123 0) .no (af pn) (FV.pat p) (rT FV.rd)=qa p:=by kernel_rfl
def tg:=bJ (qa)
abbrev avl:=Int×Bool
def d123:Td 0 avl:= .c [] [6,7] (.r 0 0 (ec 6 aL (ec 7 qb en)) sn (λz=>(z.1.1,z.1.2.1)) (λx=>((x.1,x.2,()),(()))))
def ayt:=(lc (ql 47) (lc (qg 47) (lc (qf 188 ln) ln)))
def akZ:An:=(noTwo (noTwo (noTwo (.two (FV.lp tg .no) .no))))
def atX:cR w9 (afP) 0 300 123 (akZ):=bA (l:=[(aW f123 0,(FV.lp tg .no))]) func123 (aV (by kernel_rfl)) (by kernel_rfl) (az ⟨FV.ok _,dh (aps)⟩ aF)
def Wy(a0:aa aD)(a1:aD):af avl:=
 match tg (pn.mk a0 a0.length 0 a0.length a1)with|G=>G|V r2=>bif J (r2.t9<r2.t10)then if 0<=i64.wrap (cL IntKind.u64 (IntKind.u64.wrap (i64.wrap (r2.t9+r2.t10))) ((1:Int)))/\i64.wrap (cL IntKind.u64 (IntKind.u64.wrap (i64.wrap (r2.t9+r2.t10))) ((1:Int)))<r2.t0.length then match Gy r2.t0[(i64.wrap (cL IntKind.u64 (IntKind.u64.wrap (i64.wrap (r2.t9+r2.t10))) 1)).toNat]! r2.b0 with|G=>G|V r3=>bif J (r3<0)then G else G else G else bif J (r2.t9<r2.t8)then if 0<=r2.t9/\r2.t9<r2.t0.length then match Gy r2.t0[r2.t9.toNat]! r2.b0 with|G=>G|V r4=>V ((r2.t9,J (r4=0)))else G else V (r2.t9,S)
def aFq(a0:aa aD)(a1:aD):bL w9 (afP) 300 (akZ) 123 (ayt.c (a0,a1,(()),())) [] 0 d123.rd=Wy a0 a1:=by kernel_rfl
def afR:=eL w9 123 S ayt d123 (λg=>Wy g.1 g.2.1)
def ahQ{F:aZ}(h:aQ w9 F):aQ w9 (afR F):=cO (sc:=jr) cg (cF aez atX (λ_=>by kernel_rfl) (λ_=>by kernel_rfl) λg=>aFq g.1 g.2.1) ⟨_,func123,by kernel_rfl,by kernel_rfl⟩ (λ_=>by kernel_rfl) (λ_=>by kernel_rfl) h
def ag2:aZ:=(axk (aAp (Bk cZ)))
def ad6:aQ w9 ag2:=(ab9 ayQ (aah aA4 (rJ aR)))
structure qe where
 t3:List aD
 t9:List eo
 (t10 t11:Int)
 b0:Tree
def EF:Td 2 qe:= .c [] [3,9,10,11] (.t (cA.s 3 [] 47) (.c [] [3,9,10,11] (.r 2 3 (ec 3 (qo 2) (ec 9 (qo 1) (ec 10 aL (ec 11 aL en)))) (sb 0 172 (lc (ql 131) (lc (ql 139) (lc (ql 166) (lc (ql 3) (lc qb (lc (qo 1) ln)))))) (sr 1 174 (sr 2 47 sn))) (λz=>⟨z.t.2.1,z.t.1,z.1.t.1,z.1.t.2.1,(Tree.mk (aN.mk z.2.1.1 z.2.1.2.1 z.2.1.t.1) (bV.mk z.2.1.t.2.1 z.2.1.q.1) z.t.1)⟩) (λx=>(((),(),x.t10,x.t11,()),((x.b0.fF.ai,x.b0.fF.ak,x.b0.fF.bI,x.b0.fV.aU,x.b0.fV.eH,(),()),x.b0.aP,x.t3,()))))))
def EC(p:qe):af (af qe):=
 bif J (p.t11<p.t10)then if 0<=p.t11/\p.t11<p.b0.aP.length then if 174=174/\p.t11.toNat<p.b0.aP.length then bif p.b0.aP[p.t11.toNat]!.eE then if(p.t3++[p.b0.aP[p.t11.toNat]!.dL]).length<=1073741824 then V (V (qe.mk (p.t3++[p.b0.aP[p.t11.toNat]!.dL]) p.b0.aP p.t10 (i64.wrap (p.t11+1)) p.b0))else G else V (V (qe.mk p.t3 p.b0.aP p.t10 (i64.wrap (p.t11+1)) p.b0))else G else G else V (G)
def asz(p:qe):dQ w9 (ag2) f192.ntmps 300 (aW f192 0) .no (af qe) (EF.pat p) (rT EF.rd)=EC p:=by kernel_rfl
def JC:=bJ (EC)
abbrev axG:=(aa aD)×Tree
def d192:Td 2 axG:= .c [] [2] (.r 2 3 (ec 2 (qo 2) en) (sb 0 172 (lc (ql 131) (lc (ql 139) (lc (ql 166) (lc (ql 3) (lc qb (lc (qo 1) ln)))))) (sr 1 174 (sr 2 47 sn))) (λz=>(z.t.2.1,(Tree.mk (aN.mk z.2.1.1 z.2.1.2.1 z.2.1.t.1) (bV.mk z.2.1.t.2.1 z.2.1.q.1) z.t.1))) (λx=>(((),()),((x.2.fF.ai,x.2.fF.ak,x.2.fF.bI,x.2.fV.aU,x.2.fV.eH,(),()),x.2.aP,x.1,()))))
def aw6:=(lc (qp 0 0) ln)
def axV:=(sb 0 172 (lc (ql 131) (lc (ql 139) (lc (ql 166) (lc (ql 3) (lc qb (lc (qo 1) ln)))))) (sr 1 174 sn))
def alO:An:=(noTwo (noTwo (.two (noTwo (EF.lp JC .no)) .no)))
def awp:cR w9 (ag2) 2 300 192 (alO):=bA (l:=[(aW f192 0,(EF.lp JC .no))]) func192 (aV (by kernel_rfl)) (by kernel_rfl) (az ⟨EF.ok _,dh (asz)⟩ aF)
def Yf(b0:Tree):af axG:=
 match JC (qe.mk [] b0.aP b0.aP.length 0 b0)with|G=>G|V r1=>bif J (r1.t11<r1.t10)then if 0<=r1.t11/\r1.t11<r1.b0.aP.length then if 174=174/\r1.t11.toNat<r1.b0.aP.length then bif r1.b0.aP[r1.t11.toNat]!.eE then if(r1.t3++[r1.b0.aP[r1.t11.toNat]!.dL]).length<=1073741824 then G else G else G else G else G else match W0 r1.t3 with|G=>G|V r2=>match VZ r2 with|G=>G|V r3=>V (r3,r1.b0)
def aDg(b0:Tree):bL w9 (ag2) 300 (alO) 192 (aw6.c ((),())) (axV.d ((b0.fF.ai,b0.fF.ak,b0.fF.bI,b0.fV.aU,b0.fV.eH,(),()),b0.aP,())) 2 d192.rd=Yf b0:=by kernel_rfl
def abz:aZ->aZ:=eY w9 192 2 aw6 axV d192 (λg=>Yf ((Tree.mk (aN.mk g.2.1.1 g.2.1.2.1 g.2.1.t.1) (bV.mk g.2.1.t.2.1 g.2.1.q.1) g.t.1)))
def adb{F:aZ}(h:aQ w9 F):aQ w9 (abz F):=mS (sx ad6 awp (λ_=>by kernel_rfl) (λ_=>by kernel_rfl) (λ_=>by kernel_rfl) λg=>aDg ((Tree.mk (aN.mk g.2.1.1 g.2.1.2.1 g.2.1.t.1) (bV.mk g.2.1.t.2.1 g.2.1.q.1) g.t.1))) ⟨_,func192,by kernel_rfl,by kernel_rfl⟩ (λ_=>by kernel_rfl) h
def aaV:aZ:=(abz (Bk (afR (JR cZ))))
def ahs:aQ w9 aaV:=(adb (rJ (ahQ (mb aR))))
structure qu where
 t4:List aD
 t35:List eo
 (t36 t37:Int)
 b0:Tree
 (b2 b3:bH)
def CT:Td 2 qu:= .c [] [2,3,4,35,36,37] (.t (cA.c 3 1 [] 117) (.c [] [2,3,4,35,36,37] (.r 2 7 (ec 2 (qp 2 0) (ec 3 (qp 3 0) (ec 4 (qo 4) (ec 35 (qo 1) (ec 36 aL (ec 37 aL en)))))) (sb 0 172 (lc (ql 131) (lc (ql 139) (lc (ql 166) (lc (ql 3) (lc qb (lc (qo 1) ln)))))) (sr 1 174 (sb 2 84 (lc qn (lc qn ln)) (sb 3 84 (lc (qo 5) (lc (qo 6) ln)) (sr 4 47 (sr 5 47 (sr 6 117 sn))))))) (λz=>⟨z.q.2.1,z.t.1,z.1.q.1,z.1.q.2.1,(Tree.mk (aN.mk z.2.1.1 z.2.1.2.1 z.2.1.t.1) (bV.mk z.2.1.t.2.1 z.2.1.q.1) z.t.1),(bH.mk [] []),(bH.mk z.q.t.1 z.q.t.2.1)⟩) (λx=>(((),(),(),(),x.t36,x.t37,()),((x.b0.fF.ai,x.b0.fF.ak,x.b0.fF.bI,x.b0.fV.aU,x.b0.fV.eH,(),()),x.b0.aP,((),(),()),((),(),()),x.t4,x.b3.dL,x.b3.aP,()))))))
def F8(p:qu):af (af qu):=
 bif J (p.t37<p.t36)then if 0<=p.t37/\p.t37<p.b0.aP.length then if 174=174/\p.t37.toNat<p.b0.aP.length then match Qq p.b0.aP[p.t37.toNat]!.aq with|G=>G|V r2=>bif p.b0.aP[p.t37.toNat]!.eE then match Wy p.t4 p.b0.aP[p.t37.toNat]!.dL with|G=>G|V r3=>if(p.b3.aP++[Cell.mk p.b0.aP[p.t37.toNat]!.bZ p.b0.aP[p.t37.toNat]!.iV r2 [r3.fst] p.b0.aP[p.t37.toNat]!.gF]).length<=1073741824 then V (V (qu.mk p.t4 p.b0.aP p.t36 (i64.wrap (p.t37+1)) p.b0 (bH.mk [] []) (bH.mk p.b3.dL (p.b3.aP++[Cell.mk p.b0.aP[p.t37.toNat]!.bZ p.b0.aP[p.t37.toNat]!.iV r2 [r3.fst] p.b0.aP[p.t37.toNat]!.gF]))))else G else if(p.b3.aP++[Cell.mk p.b0.aP[p.t37.toNat]!.bZ p.b0.aP[p.t37.toNat]!.iV r2 [] p.b0.aP[p.t37.toNat]!.gF]).length<=1073741824 then V (V (qu.mk p.t4 p.b0.aP p.t36 (i64.wrap (p.t37+1)) p.b0 (bH.mk [] []) (bH.mk p.b3.dL (p.b3.aP++[Cell.mk p.b0.aP[p.t37.toNat]!.bZ p.b0.aP[p.t37.toNat]!.iV r2 [] p.b0.aP[p.t37.toNat]!.gF]))))else G else G else G else V (G)
def arF(p:qu):dQ w9 (aaV) f110.ntmps 300 (aW f110 1) .no (af qu) (CT.pat p) (rT CT.rd)=F8 p:=by kernel_rfl
def KX:=bJ (F8)
structure tE where
 (t4 t14:List aD)
 (t15 t16:Int)
 b0:Tree
 (b2 b3:bH)
def Fv:Td 2 tE:= .c [] [0,2,3,4,14,15,16] (.t (cA.c 3 0 [] 47) (.c [] [0,2,3,4,14,15,16] (.r 2 6 (ec 0 (qp 0 0) (ec 2 (qp 2 0) (ec 3 (qp 3 0) (ec 4 (qo 4) (ec 14 (qo 4) (ec 15 aL (ec 16 aL en))))))) (sb 0 172 (lc (ql 131) (lc (ql 139) (lc (ql 166) (lc (ql 3) (lc qb (lc (qo 1) ln)))))) (sr 1 174 (sb 2 84 (lc qn (lc qn ln)) (sb 3 84 (lc (qo 5) (lc qn ln)) (sr 4 47 (sr 5 47 sn)))))) (λz=>⟨z.q.2.1,z.q.2.1,z.1.q.2.1,z.1.q.t.1,(Tree.mk (aN.mk z.2.1.1 z.2.1.2.1 z.2.1.t.1) (bV.mk z.2.1.t.2.1 z.2.1.q.1) z.t.1),(bH.mk [] []),(bH.mk z.q.t.1 [])⟩) (λx=>(((),(),(),(),(),x.t15,x.t16,()),((x.b0.fF.ai,x.b0.fF.ak,x.b0.fF.bI,x.b0.fV.aU,x.b0.fV.eH,(),()),x.b0.aP,((),(),()),((),(),()),x.t14,x.b3.dL,()))))))
def Em(p:tE):af (af tE):=
 bif J (p.t16<p.t15)then if 0<=p.t16/\p.t16<p.t14.length then if 47=47/\p.t16.toNat<p.t14.length then match Qq p.t14[p.t16.toNat]!.aY with|G=>G|V r1=>if(p.b3.dL++[aD.mk r1 p.t14[p.t16.toNat]!.aI]).length<=1073741824 then V (V (tE.mk p.t14 p.t14 p.t15 (i64.wrap (p.t16+1)) p.b0 (bH.mk [] []) (bH.mk (p.b3.dL++[aD.mk r1 p.t14[p.t16.toNat]!.aI]) [])))else G else G else G else V (G)
def arP(p:tE):dQ w9 (aaV) f110.ntmps 300 (aW f110 0) .no (af tE) (Fv.pat p) (rT Fv.rd)=Em p:=by kernel_rfl
def KE:=bJ (Em)
abbrev ax3:=bH×Tree
def d110:Td 2 ax3:= .c [] [2] (.r 2 5 (ec 2 (qp 2 0) en) (sb 0 172 (lc (ql 131) (lc (ql 139) (lc (ql 166) (lc (ql 3) (lc qb (lc (qo 1) ln)))))) (sr 1 174 (sb 2 84 (lc (qo 3) (lc (qo 4) ln)) (sr 3 47 (sr 4 117 sn))))) (λz=>((bH.mk z.q.1 z.q.2.1),(Tree.mk (aN.mk z.2.1.1 z.2.1.2.1 z.2.1.t.1) (bV.mk z.2.1.t.2.1 z.2.1.q.1) z.t.1))) (λx=>(((),()),((x.2.fF.ai,x.2.fF.ak,x.2.fF.bI,x.2.fV.aU,x.2.fV.eH,(),()),x.2.aP,((),(),()),x.1.dL,x.1.aP,()))))
def aub:=(lc (qp 0 0) ln)
def azX:=(sb 0 172 (lc (ql 131) (lc (ql 139) (lc (ql 166) (lc (ql 3) (lc qb (lc (qo 1) ln)))))) (sr 1 174 sn))
def alf:An:=(noTwo (noTwo (noTwo (.two (noTwo (Fv.lp KE .no)) (.two (noTwo (CT.lp KX .no)) .no)))))
def at4:cR w9 (aaV) 2 300 110 (alf):=bA (l:=[(aW f110 0,(Fv.lp KE .no)),(aW f110 1,(CT.lp KX .no))]) func110 (aV (by kernel_rfl)) (by kernel_rfl) (az ⟨Fv.ok _,dh (arP)⟩ (az ⟨CT.ok _,dh (arF)⟩ aF))
def Po(b0:Tree):af ax3:=
 match Yf b0 with|G=>G|V r4=>match KE (tE.mk r4.fst r4.fst r4.fst.length 0 r4.snd (bH.mk [] []) (bH.mk [] []))with|G=>G|V r5=>bif J (r5.t16<r5.t15)then if 0<=r5.t16/\r5.t16<r5.t14.length then if 47=47/\r5.t16.toNat<r5.t14.length then match Qq r5.t14[r5.t16.toNat]!.aY with|G=>G|V r6=>if(r5.b3.dL++[aD.mk r6 r5.t14[r5.t16.toNat]!.aI]).length<=1073741824 then G else G else G else G else match KX (qu.mk r5.t14 r5.b0.aP r5.b0.aP.length 0 r5.b0 (bH.mk [] []) (bH.mk r5.b3.dL []))with|G=>G|V r7=>bif J (r7.t37<r7.t36)then if 0<=r7.t37/\r7.t37<r7.b0.aP.length then if 174=174/\r7.t37.toNat<r7.b0.aP.length then match Qq r7.b0.aP[r7.t37.toNat]!.aq with|G=>G|V r8=>bif r7.b0.aP[r7.t37.toNat]!.eE then match Wy r7.t4 r7.b0.aP[r7.t37.toNat]!.dL with|G=>G|V r9=>if(r7.b3.aP++[Cell.mk r7.b0.aP[r7.t37.toNat]!.bZ r7.b0.aP[r7.t37.toNat]!.iV r8 [r9.fst] r7.b0.aP[r7.t37.toNat]!.gF]).length<=1073741824 then G else G else if(r7.b3.aP++[Cell.mk r7.b0.aP[r7.t37.toNat]!.bZ r7.b0.aP[r7.t37.toNat]!.iV r8 [] r7.b0.aP[r7.t37.toNat]!.gF]).length<=1073741824 then G else G else G else G else V (r7.b3,r7.b0)
def aFu(b0:Tree):bL w9 (aaV) 300 (alf) 110 (aub.c ((),())) (azX.d ((b0.fF.ai,b0.fF.ak,b0.fF.bI,b0.fV.aU,b0.fV.eH,(),()),b0.aP,())) 2 d110.rd=Po b0:=by kernel_rfl
def BH:aZ->aZ:=eY w9 110 2 aub azX d110 (λg=>Po ((Tree.mk (aN.mk g.2.1.1 g.2.1.2.1 g.2.1.t.1) (bV.mk g.2.1.t.2.1 g.2.1.q.1) g.t.1)))
def tY{F:aZ}(h:aQ w9 F):aQ w9 (BH F):=mS (sx ahs at4 (λ_=>by kernel_rfl) (λ_=>by kernel_rfl) (λ_=>by kernel_rfl) λg=>aFu ((Tree.mk (aN.mk g.2.1.1 g.2.1.2.1 g.2.1.t.1) (bV.mk g.2.1.t.2.1 g.2.1.q.1) g.t.1))) ⟨_,func110,by kernel_rfl,by kernel_rfl⟩ (λ_=>by kernel_rfl) h
def Qj:aZ:=cZ
def aeH:aQ w9 Qj:=aR
structure tO where
 t73:List Int
 (t74 t75:Int)
def FK:Td 0 tO:= .c [] [73,74,75] (.r 0 1 (ec 73 (qo 0) (ec 74 aL (ec 75 aL en))) (sr 0 3 sn) (λz=>⟨z.2.1,z.1.2.1,z.1.t.1⟩) (λx=>(((),x.t74,x.t75,()),(x.t73,()))))
def EV(p:tO):af (af tO):=
 bif J (p.t75<p.t74)then if 0<=p.t75/\p.t75<p.t73.length then if 3=3/\p.t75.toNat<p.t73.length then match bif bif(match J (p.t73[p.t75.toNat]! =1)with|O=>S|S=>O)==J (p.t75=0)then S else O then V O else V (J (1<p.t73[p.t75.toNat]!))with|G=>G|V r5=>bif r5 then V (G)else V (V (tO.mk p.t73 p.t74 (i64.wrap (p.t75+1))))else G else G else V (G)
def Pv:An:=(noTwo (noTwo (.two (noTwo (.two (.rb [] 88) .no)) .no)))
def aqm(p:tO):dQ w9 (Qj) f184.ntmps 300 (aW f184 2) Pv (af tO) (FK.pat p) (rT FK.rd)=EV p:=by kernel_rfl
def KS:=bJ (EV)
structure pg where
 t0:List Cell
 t3:List Int
 t4:Int
 t16:List Cell
 (t17 t18:Int)
 t50:List Int
 (t51 t52:Int)
def EG:Td 0 pg:= .c [] [0,3,4,16,17,18,50,51,52] (.r 0 1 (ec 0 (ql 117) (ec 3 (qo 0) (ec 4 aL (ec 16 (ql 117) (ec 17 aL (ec 18 aL (ec 50 (ql 3) (ec 51 aL (ec 52 aL en))))))))) (sr 0 3 sn) (λz=>⟨z.1.1,z.2.1,z.1.t.1,z.1.t.2.1,z.1.q.1,z.1.q.2.1,z.1.q.t.1,z.1.q.t.2.1,z.1.q.q.1⟩) (λx=>((x.t0,(),x.t4,x.t16,x.t17,x.t18,x.t50,x.t51,x.t52,()),(x.t3,()))))
def Fb(p:pg):af (af pg):=
 bif J (p.t52<p.t51)then if 0<=p.t52/\p.t52<p.t50.length then match bif J (p.t50[p.t52.toNat]!<=p.t4)then V O else V (J (p.t0.length<=p.t50[p.t52.toNat]!))with|G=>G|V r4=>bif r4 then V (G)else if 0<=p.t50[p.t52.toNat]!/\p.t50[p.t52.toNat]! <(p.t3.length:Int)then if 3=3/\zC p.t50[p.t52.toNat]! <p.t3.length then if 0<=p.t50[p.t52.toNat]!/\p.t50[p.t52.toNat]! <(p.t3.length:Int)then if 3=3/\zC p.t50[p.t52.toNat]! <p.t3.length then V (V (pg.mk p.t0 (p.t3.set (zC p.t50[p.t52.toNat]!) (i64.wrap (p.t3[zC p.t50[p.t52.toNat]!]! +1))) p.t4 p.t16 p.t17 p.t18 p.t50 p.t51 (i64.wrap (p.t52+1))))else G else G else G else G else G else V (G)
def O3:An:=(noTwo (noTwo (.two (noTwo (.two (.two (.rb [] 64) .no) .no)) .no)))
def apB(p:pg):dQ w9 (Qj) f184.ntmps 300 (aW f184 1) O3 (af pg) (EG.pat p) (rT EG.rd)=Fb p:=by kernel_rfl
def Et:=bJ (Fb)
structure tM where
 t0:List Cell
 t3:List Int
 t16:List Cell
 (t17 t18:Int)
def DF:Td 0 tM:= .c [] [0,3,16,17,18] (.r 0 1 (ec 0 (ql 117) (ec 3 (qo 0) (ec 16 (ql 117) (ec 17 aL (ec 18 aL en))))) (sr 0 3 sn) (λz=>⟨z.1.1,z.2.1,z.1.t.1,z.1.t.2.1,z.1.q.1⟩) (λx=>((x.t0,(),x.t16,x.t17,x.t18,()),(x.t3,()))))
def FX(p:tM):af (af tM):=
 bif J (p.t18<p.t17)then if 0<=p.t18/\p.t18<p.t16.length then match bif bif J ((↑p.t16[p.t18.toNat]!.aq.length:Int)=0)then S else O then bif bif J ((↑p.t16[p.t18.toNat]!.aq.length:Int)=2)then S else O then V O else bif J ((↑p.t16[p.t18.toNat]!.aq.length:Int)=0)then bif bif J (p.t16[p.t18.toNat]!.bZ=0)then S else O then V O else V (bif J (p.t16[p.t18.toNat]!.iV=0)then S else O)else V S else bif J ((↑p.t16[p.t18.toNat]!.aq.length:Int)=0)then bif bif J (p.t16[p.t18.toNat]!.bZ=0)then S else O then V O else V (bif J (p.t16[p.t18.toNat]!.iV=0)then S else O)else V S with|G=>G|V r1=>bif r1 then V (G)else match Et (pg.mk p.t0 p.t3 p.t18 p.t16 p.t17 p.t18 p.t16[p.t18.toNat]!.aq (↑p.t16[p.t18.toNat]!.aq.length:Int) 0)with|G=>G|V r2=>bif J (r2.t52<r2.t51)then if 0<=r2.t52/\r2.t52<r2.t50.length then match bif J (r2.t50[r2.t52.toNat]!<=r2.t4)then V O else V (J (r2.t0.length<=r2.t50[r2.t52.toNat]!))with|G=>G|V r3=>bif r3 then V (G)else if 0<=r2.t50[r2.t52.toNat]!/\r2.t50[r2.t52.toNat]! <(r2.t3.length:Int)then if 3=3/\zC r2.t50[r2.t52.toNat]! <r2.t3.length then if 0<=r2.t50[r2.t52.toNat]!/\r2.t50[r2.t52.toNat]! <(r2.t3.length:Int)then if 3=3/\zC r2.t50[r2.t52.toNat]! <r2.t3.length then G else G else G else G else G else G else V (V (tM.mk r2.t0 r2.t3 r2.t16 r2.t17 (i64.wrap (r2.t18+1))))else G else V (G)
def Qy:An:=(noTwo (noTwo (.two (noTwo (.two (.two (.rb [] 48) .no) (noTwo (EG.lp Et O3)))) .no)))
def aqA(p:tM):dQ w9 (Qj) f184.ntmps 300 (aW f184 0) Qy (af tM) (DF.pat p) (rT DF.rd)=FX p:=by kernel_rfl
def IW:=bJ (FX)
abbrev az7:=Bool
def d184:Td 0 az7:= .c [] [2] (.r 0 0 (ec 2 qb en) sn (λz=>z.1.1) (λx=>((x,()),(()))))
def aw2:=(lc (ql 117) ln)
def alH:An:=(noTwo (noTwo (noTwo (.two (noTwo (DF.lp IW Qy)) (.two (noTwo (FK.lp KS Pv)) .no)))))
def abR:∀f∈([]:aa Nat),bw (Qj) f:=aF
def av9:cR w9 (Qj) 0 300 184 (alH):=bA (l:=[(aW f184 0,(DF.lp IW Qy)),(.skip,(.rb [] 48)),(aW f184 1,(EG.lp Et O3)),(.skip,(.rb [] 64)),(aW f184 2,(FK.lp KS Pv)),(.skip,(.rb [] 88))]) func184 (aV (by kernel_rfl)) (by kernel_rfl) (az ⟨DF.ok _,dh (aqA)⟩ (az abR (az ⟨EG.ok _,dh (apB)⟩ (az abR (az ⟨FK.ok _,dh (aqm)⟩ (az abR aF))))))
def Wo(a0:aa Cell):af az7:=
 bif J ((a0.length:Int)=0)then V S else if(0:Int)<=a0.length/\(a0.length:Int)<=(a0.length:Int)/\(a0.length:Int)<=(1073741824:Int)then match IW (tM.mk a0 (zl a0.length 0) a0 a0.length 0)with|G=>G|V r6=>bif J (r6.t18<r6.t17)then if 0<=r6.t18/\r6.t18<r6.t16.length then match bif bif J ((↑r6.t16[r6.t18.toNat]!.aq.length:Int)=0)then S else O then bif bif J ((↑r6.t16[r6.t18.toNat]!.aq.length:Int)=2)then S else O then V O else bif J ((↑r6.t16[r6.t18.toNat]!.aq.length:Int)=0)then bif bif J (r6.t16[r6.t18.toNat]!.bZ=0)then S else O then V O else V (bif J (r6.t16[r6.t18.toNat]!.iV=0)then S else O)else V S else bif J ((↑r6.t16[r6.t18.toNat]!.aq.length:Int)=0)then bif bif J (r6.t16[r6.t18.toNat]!.bZ=0)then S else O then V O else V (bif J (r6.t16[r6.t18.toNat]!.iV=0)then S else O)else V S with|G=>G|V r7=>bif r7 then V S else match Et (pg.mk r6.t0 r6.t3 r6.t18 r6.t16 r6.t17 r6.t18 r6.t16[r6.t18.toNat]!.aq (↑r6.t16[r6.t18.toNat]!.aq.length:Int) 0)with|G=>G|V r8=>bif J (r8.t52<r8.t51)then if 0<=r8.t52/\r8.t52<r8.t50.length then match bif J (r8.t50[r8.t52.toNat]!<=r8.t4)then V O else V (J (r8.t0.length<=r8.t50[r8.t52.toNat]!))with|G=>G|V r9=>bif r9 then V S else if 0<=r8.t50[r8.t52.toNat]!/\r8.t50[r8.t52.toNat]! <(r8.t3.length:Int)then if 3=3/\zC r8.t50[r8.t52.toNat]! <r8.t3.length then if 0<=r8.t50[r8.t52.toNat]!/\r8.t50[r8.t52.toNat]! <(r8.t3.length:Int)then if 3=3/\zC r8.t50[r8.t52.toNat]! <r8.t3.length then G else G else G else G else G else G else G else G else match KS (tO.mk r6.t3 r6.t3.length 0)with|G=>G|V r10=>bif J (r10.t75<r10.t74)then if 0<=r10.t75/\r10.t75<r10.t73.length then if 3=3/\r10.t75.toNat<r10.t73.length then match bif bif(match J (r10.t73[r10.t75.toNat]! =1)with|O=>S|S=>O)==J (r10.t75=0)then S else O then V O else V (J (1<r10.t73[r10.t75.toNat]!))with|G=>G|V r11=>bif r11 then V S else G else G else G else V O else G
def aEj(a0:aa Cell):bL w9 (Qj) 300 (alH) 184 (aw2.c (a0,())) [] 0 d184.rd=Wo a0:=by kernel_rfl
def Zy:=eL w9 184 S aw2 d184 (λg=>Wo g.1)
def J4{F:aZ}(h:aQ w9 F):aQ w9 (Zy F):=cO (sc:=jr) cg (cF aeH av9 (λ_=>by kernel_rfl) (λ_=>by kernel_rfl) λg=>aEj g.1) ⟨_,func184,by kernel_rfl,by kernel_rfl⟩ (λ_=>by kernel_rfl) (λ_=>by kernel_rfl) h
def Zd:aZ:=(oM w9 (e76 (e26 (e25 cZ))) (λf=>zf f 25||zf f 26||zf f 76) 300 10)
def Z5:aQ w9 Zd:=⟨mL (aQ.ok (AF (mc (mz aR)))) (aQ.nat (P:=w9) (AF (mc (mz aR)))) 300 10,kO (aQ.nat (P:=w9) (AF (mc (mz aR)))) 300 10⟩
abbrev alW:=Unit×Int
def akO:Td 0 alW:= .c [] [4,5] (.r 0 0 (ec 4 qv (ec 5 aL en)) sn (λz=>((),z.1.2.1)) (λx=>(((),x.2,()),(()))))
def anj:=(lc (qg 26) (lc (qg 29) ln))
def aaL:An:= .no
def aow:cR w9 (Zd) 0 300 118 (aaL):=bA (l:=[]) func118 (aV (by kernel_rfl)) (by kernel_rfl) aF
def Uk(a0:aN)(a1:bV):af alW:=
 match m76 a0 with|G=>G|V r1=>bif bif J (r1.snd=0)then S else O then V (((),r1.snd))else match Qr a0 a1 r1.fst with|G=>G|V r2=>bif bif J (r2.snd=0)then S else O then V (((),r2.snd))else match Qr a0 a1 r1.fst with|G=>G|V r3=>match Wb a0 a1 r1.fst with|G=>G|V r4=>G
def azo(a0:aN)(a1:bV):bL w9 (Zd) 300 (aaL) 118 (anj.c (a0,a1,())) [] 0 akO.rd=Uk a0 a1:=by kernel_rfl
def abL:aZ->aZ:=eZf w9 118 anj akO (λg=>Uk g.1 g.2.1)
def ud{F:aZ}(h:aQ w9 F):aQ w9 (abL F):=Pa (cF Z5 aow (λ_=>by kernel_rfl) (λ_=>by kernel_rfl) λg=>azo g.1 g.2.1) ⟨_,func118,by kernel_rfl,by kernel_rfl⟩ (λ_=>by kernel_rfl) h
def Xk:aZ:=(oM w9 (e76 (e26 (e25 cZ))) (λf=>zf f 25||zf f 26||zf f 76) 300 10)
def abV:aQ w9 Xk:=⟨mL (aQ.ok (AF (mc (mz aR)))) (aQ.nat (P:=w9) (AF (mc (mz aR)))) 300 10,kO (aQ.nat (P:=w9) (AF (mc (mz aR)))) 300 10⟩
abbrev ak8:=Tree×Int
def anw:Td 0 ak8:= .c [] [4,5] (.r 0 2 (ec 4 (qp 0 0) (ec 5 aL en)) (sb 0 172 (lc (ql 131) (lc (ql 139) (lc (ql 166) (lc (ql 3) (lc qb (lc (qo 1) ln)))))) (sr 1 174 sn)) (λz=>((Tree.mk (aN.mk z.2.1.1 z.2.1.2.1 z.2.1.t.1) (bV.mk z.2.1.t.2.1 z.2.1.q.1) z.t.1),z.1.2.1)) (λx=>(((),x.2,()),((x.1.fF.ai,x.1.fF.ak,x.1.fF.bI,x.1.fV.aU,x.1.fV.eH,(),()),x.1.aP,()))))
def anB:=(lc (qg 26) (lc (qg 29) ln))
def abW:An:= .no
def aoe:cR w9 (Xk) 0 300 118 (abW):=bA (l:=[]) func118 (aV (by kernel_rfl)) (by kernel_rfl) aF
def HG(a0:aN)(a1:bV):af ak8:=
 match m76 a0 with|G=>G|V r1=>bif bif J (r1.snd=0)then S else O then G else match Qr a0 a1 r1.fst with|G=>G|V r2=>bif bif J (r2.snd=0)then S else O then G else match Qr a0 a1 r1.fst with|G=>G|V r3=>match Wb a0 a1 r1.fst with|G=>G|V r4=>V ((Tree.mk a0 a1 [eo.mk r1.fst (0) (0) [] r3.fst r4.snd.fst r4.fst],0))
def aAq(a0:aN)(a1:bV):bL w9 (Xk) 300 (abW) 118 (anB.c (a0,a1,())) [] 0 anw.rd=HG a0 a1:=by kernel_rfl
def ZS:aZ->aZ:=eZf w9 118 anB anw (λg=>HG g.1 g.2.1)
def vm{F:aZ}(h:aQ w9 F):aQ w9 (ZS F):=Pa (cF abV aoe (λ_=>by kernel_rfl) (λ_=>by kernel_rfl) λg=>aAq g.1 g.2.1) ⟨_,func118,by kernel_rfl,by kernel_rfl⟩ (λ_=>by kernel_rfl) h
def TS:aZ:=(oM w9 (asK (ab5 (Qt (Zy (afY (ZS (abL (BH (e71 (JR (e26 (e25 cZ)))))))))))) (λf=>zf f 25||zf f 26||zf f 35||zf f 71||zf f 110||zf f 118||zf f 120||zf f 184||zf f 186||zf f 187||zf f 189) 300 10)
def aaI:aQ w9 TS:=⟨mL (aQ.ok (Cf (BV (Cu (J4 (Ke (vm (ud (tY (Qc (mb (mc (mz aR))))))))))))) (aQ.nat (P:=w9) (Cf (BV (Cu (J4 (Ke (vm (ud (tY (Qc (mb (mc (mz aR))))))))))))) 300 10,kO (aQ.nat (P:=w9) (Cf (BV (Cu (J4 (Ke (vm (ud (tY (Qc (mb (mc (mz aR))))))))))))) 300 10⟩
structure je where
 t10:List (List aH)
 t55:List Cell
 (t56 t57:Int)
 b0:bH
 b2:Tree
def uy:Td 0 je:= .c [] [5,10,11,55,56,57] (.t (cA.c 2 5 [] 174) (.c [] [5,10,11,55,56,57] (.r 0 4 (ec 5 (qp 0 0) (ec 10 (qo 1) (ec 11 (qp 2 0) (ec 55 (ql 117) (ec 56 aL (ec 57 aL en)))))) (sb 0 84 (lg 84) (sr 1 30 (sb 2 172 (lc (ql 131) (lc (ql 139) (lc (ql 166) (lc (ql 3) (lc qb (lc (qo 3) ln)))))) (sr 3 174 sn)))) (λz=>⟨z.t.1,z.1.t.2.1,z.1.q.1,z.1.q.2.1,z.2.1,(Tree.mk (aN.mk z.t.2.1.1 z.t.2.1.2.1 z.t.2.1.t.1) (bV.mk z.t.2.1.t.2.1 z.t.2.1.q.1) z.q.1)⟩) (λx=>(((),(),(),x.t55,x.t56,x.t57,()),(x.b0,x.t10,(x.b2.fF.ai,x.b2.fF.ak,x.b2.fF.bI,x.b2.fV.aU,x.b2.fV.eH,(),()),x.b2.aP,()))))))
def fP(x0:je)(x1:E25)(x2:E26):=
 x0.b2.aP++[eo.mk x0.t10[x0.t57.toNat]! (0) (0) [] x1.fst x2.snd.fst x2.fst]
def iq(x0:je)(x1:E25)(x2:E26):=
 (fP x0 x1 x2).set x0.t57.toNat (eo.mk (fP x0 x1 x2)[x0.t57.toNat]!.bP x0.t55[x0.t57.toNat]!.bZ (fP x0 x1 x2)[x0.t57.toNat]!.iV (fP x0 x1 x2)[x0.t57.toNat]!.aq (fP x0 x1 x2)[x0.t57.toNat]!.gF (fP x0 x1 x2)[x0.t57.toNat]!.eE (fP x0 x1 x2)[x0.t57.toNat]!.dL)
def ic(x0:je)(x1:E25)(x2:E26):=
 (iq x0 x1 x2).set x0.t57.toNat (eo.mk (iq x0 x1 x2)[x0.t57.toNat]!.bP (iq x0 x1 x2)[x0.t57.toNat]!.bZ x0.t55[x0.t57.toNat]!.iV (iq x0 x1 x2)[x0.t57.toNat]!.aq (iq x0 x1 x2)[x0.t57.toNat]!.gF (iq x0 x1 x2)[x0.t57.toNat]!.eE (iq x0 x1 x2)[x0.t57.toNat]!.dL)
def qP(p:je):af (af je):=
 bif J (p.t57<p.t56)then if 0<=p.t57/\p.t57<p.t55.length then if 0<=p.t57/\p.t57<p.t10.length then if 30=30/\p.t57.toNat<p.t10.length then match Qr p.b2.fF p.b2.fV p.t10[p.t57.toNat]! with|G=>G|V r1=>match Wb p.b2.fF p.b2.fV p.t10[p.t57.toNat]! with|G=>G|V r2=>if(fP p r1 r2).length<=1073741824 then bif J ((↑p.t55[p.t57.toNat]!.aq.length:Int)=0)then V (V (je.mk p.t10 p.t55 p.t56 (i64.wrap (p.t57+1)) p.b0 (Tree.mk p.b2.fF p.b2.fV (fP p r1 r2))))else if 0<=p.t57/\p.t57<p.t10.length then if 30=30/\p.t57.toNat<p.t10.length then bif J (p.t55[p.t57.toNat]!.bZ<0)then V (G)else bif J ((↑(zP p.t10[p.t57.toNat]!):Int)<=p.t55[p.t57.toNat]!.bZ)then V (G)else if 0<=p.t55[p.t57.toNat]!.bZ/\p.t55[p.t57.toNat]!.bZ<(↑(zP p.t10[p.t57.toNat]!):Int)then bif J (p.t55[p.t57.toNat]!.iV<p.t10[p.t57.toNat]![p.t55[p.t57.toNat]!.bZ.toNat]!.ag)then V (G)else if 0<=p.t55[p.t57.toNat]!.bZ/\p.t55[p.t57.toNat]!.bZ<(↑(zP p.t10[p.t57.toNat]!):Int)then bif J (p.t10[p.t57.toNat]![p.t55[p.t57.toNat]!.bZ.toNat]!.ah<=p.t55[p.t57.toNat]!.iV)then V (G)else if(0:Int)<=(0:Int)/\(0:Int)<(↑p.t55[p.t57.toNat]!.aq.length:Int)then if(0:Int)<=(1:Int)/\(1:Int)<(↑p.t55[p.t57.toNat]!.aq.length:Int)then match Pm p.t10[p.t57.toNat]! p.t55[p.t57.toNat]!.bZ p.t55[p.t57.toNat]!.iV with|G=>G|V r3=>if 0<=p.t55[p.t57.toNat]!.aq[zC 0]!/\p.t55[p.t57.toNat]!.aq[zC 0]! <(p.t10.length:Int)then if 30=30/\zC p.t55[p.t57.toNat]!.aq[0]! <p.t10.length then if 0<=p.t55[p.t57.toNat]!.aq[zC 1]!/\p.t55[p.t57.toNat]!.aq[zC 1]! <(↑(p.t10.set (zC p.t55[p.t57.toNat]!.aq[0]!) r3.fst).length:Int)then if 30=30/\zC p.t55[p.t57.toNat]!.aq[1]! <(p.t10.set (zC p.t55[p.t57.toNat]!.aq[0]!) r3.fst).length then match Qq p.t55[p.t57.toNat]!.aq with|G=>G|V r4=>if 0<=p.t57/\p.t57<(↑(fP p r1 r2).length:Int)then if 174=174/\p.t57.toNat<(fP p r1 r2).length then if 0<=p.t57/\p.t57<(↑(iq p r1 r2).length:Int)then if 174=174/\p.t57.toNat<(iq p r1 r2).length then if 0<=p.t57/\p.t57<(↑(ic p r1 r2).length:Int)then if 174=174/\p.t57.toNat<(ic p r1 r2).length then V (V (je.mk ((p.t10.set (zC p.t55[p.t57.toNat]!.aq[0]!) r3.fst).set (zC p.t55[p.t57.toNat]!.aq[1]!) r3.snd) p.t55 p.t56 (i64.wrap (p.t57+1)) p.b0 (Tree.mk p.b2.fF p.b2.fV ((ic p r1 r2).set p.t57.toNat (eo.mk (ic p r1 r2)[p.t57.toNat]!.bP (ic p r1 r2)[p.t57.toNat]!.bZ (ic p r1 r2)[p.t57.toNat]!.iV r4 (ic p r1 r2)[p.t57.toNat]!.gF (ic p r1 r2)[p.t57.toNat]!.eE (ic p r1 r2)[p.t57.toNat]!.dL)))))else G else G else G else G else G else G else G else G else G else G else G else G else G else G else G else G else G else G else G else G else V (G)
def ahH(p:je):dQ w9 (TS) f105.ntmps 300 (aW f105 0) .no (af je) (uy.pat p) (rT uy.rd)=qP p:=by kernel_rfl
def B9:=bJ (qP)
abbrev am1:=Tree×Int
def am4:Td 0 am1:= .c [] [6,7] (.r 0 2 (ec 6 (qp 0 0) (ec 7 aL en)) (sb 0 172 (lc (ql 131) (lc (ql 139) (lc (ql 166) (lc (ql 3) (lc qb (lc (qo 1) ln)))))) (sr 1 174 sn)) (λz=>((Tree.mk (aN.mk z.2.1.1 z.2.1.2.1 z.2.1.t.1) (bV.mk z.2.1.t.2.1 z.2.1.q.1) z.t.1),z.1.2.1)) (λx=>(((),x.2,()),((x.1.fF.ai,x.1.fF.ak,x.1.fF.bI,x.1.fV.aU,x.1.fV.eH,(),()),x.1.aP,()))))
def amX:=(lc (qg 26) (lc (qg 29) (lc (qg 84) ln)))
def aa1:An:=(noTwo (noTwo (noTwo (noTwo (noTwo (noTwo (.two (noTwo (uy.lp B9 .no)) .no)))))))
def arz:cR w9 (TS) 0 300 105 (aa1):=bA (l:=[(aW f105 0,(uy.lp B9 .no))]) func105 (aV (by kernel_rfl)) (by kernel_rfl) (az ⟨uy.ok _,dh (ahH)⟩ aF)
def Hf(a0:aN)(a1:bV)(a2:bH):af am1:=
 match HG a0 a1 with|G=>(match Uk a0 a1 with|G=>G|V r15=>bif bif J (r15.snd=0)then S else O then G else bif J (8192<(a2.aP.length:Int))then G else match Wo a2.aP with|G=>G|V r16=>bif bif r16 then S else O then G else if(0:Int)<=a2.aP.length/\(a2.aP.length:Int)<=(a2.aP.length:Int)/\(a2.aP.length:Int)<=(1073741824:Int)then G else G)|V r5=>bif bif J (r5.snd=0)then S else O then G else bif J (8192<(a2.aP.length:Int))then G else match Wo a2.aP with|G=>G|V r6=>bif bif r6 then S else O then G else if(0:Int)<=a2.aP.length/\(a2.aP.length:Int)<=(a2.aP.length:Int)/\(a2.aP.length:Int)<=(1073741824:Int)then if(0:Int)<=(0:Int)/\(0:Int)<r5.fst.aP.length then if 174=174/\0<r5.fst.aP.length then if(0:Int)<=(0:Int)/\(0:Int)<(↑(zl a2.aP.length ([]:aa aH)).length:Int)then if 30=30/\0<(zl a2.aP.length ([]:aa aH)).length then match B9 (je.mk ((zl a2.aP.length ([]:aa aH)).set 0 r5.fst.aP[0]!.bP) a2.aP a2.aP.length 0 a2 (Tree.mk a0 a1 []))with|G=>G|V r7=>bif J (r7.t57<r7.t56)then if 0<=r7.t57/\r7.t57<r7.t55.length then if 0<=r7.t57/\r7.t57<r7.t10.length then if 30=30/\r7.t57.toNat<r7.t10.length then match Qr r7.b2.fF r7.b2.fV r7.t10[r7.t57.toNat]! with|G=>G|V r8=>match Wb r7.b2.fF r7.b2.fV r7.t10[r7.t57.toNat]! with|G=>G|V r9=>if(fP r7 r8 r9).length<=1073741824 then bif J ((↑r7.t55[r7.t57.toNat]!.aq.length:Int)=0)then G else if 0<=r7.t57/\r7.t57<r7.t10.length then if 30=30/\r7.t57.toNat<r7.t10.length then bif J (r7.t55[r7.t57.toNat]!.bZ<0)then G else bif J ((↑(zP r7.t10[r7.t57.toNat]!):Int)<=r7.t55[r7.t57.toNat]!.bZ)then G else if 0<=r7.t55[r7.t57.toNat]!.bZ/\r7.t55[r7.t57.toNat]!.bZ<(↑(zP r7.t10[r7.t57.toNat]!):Int)then bif J (r7.t55[r7.t57.toNat]!.iV<r7.t10[r7.t57.toNat]![r7.t55[r7.t57.toNat]!.bZ.toNat]!.ag)then G else if 0<=r7.t55[r7.t57.toNat]!.bZ/\r7.t55[r7.t57.toNat]!.bZ<(↑(zP r7.t10[r7.t57.toNat]!):Int)then bif J (r7.t10[r7.t57.toNat]![r7.t55[r7.t57.toNat]!.bZ.toNat]!.ah<=r7.t55[r7.t57.toNat]!.iV)then G else if(0:Int)<=(0:Int)/\(0:Int)<(↑r7.t55[r7.t57.toNat]!.aq.length:Int)then if(0:Int)<=(1:Int)/\(1:Int)<(↑r7.t55[r7.t57.toNat]!.aq.length:Int)then match Pm r7.t10[r7.t57.toNat]! r7.t55[r7.t57.toNat]!.bZ r7.t55[r7.t57.toNat]!.iV with|G=>G|V r10=>if 0<=r7.t55[r7.t57.toNat]!.aq[zC 0]!/\r7.t55[r7.t57.toNat]!.aq[zC 0]! <(r7.t10.length:Int)then if 30=30/\zC r7.t55[r7.t57.toNat]!.aq[0]! <r7.t10.length then if 0<=r7.t55[r7.t57.toNat]!.aq[zC 1]!/\r7.t55[r7.t57.toNat]!.aq[zC 1]! <(↑(r7.t10.set (zC r7.t55[r7.t57.toNat]!.aq[0]!) r10.fst).length:Int)then if 30=30/\zC r7.t55[r7.t57.toNat]!.aq[1]! <(r7.t10.set (zC r7.t55[r7.t57.toNat]!.aq[0]!) r10.fst).length then match Qq r7.t55[r7.t57.toNat]!.aq with|G=>G|V r11=>if 0<=r7.t57/\r7.t57<(↑(fP r7 r8 r9).length:Int)then if 174=174/\r7.t57.toNat<(fP r7 r8 r9).length then if 0<=r7.t57/\r7.t57<(↑(iq r7 r8 r9).length:Int)then if 174=174/\r7.t57.toNat<(iq r7 r8 r9).length then if 0<=r7.t57/\r7.t57<(↑(ic r7 r8 r9).length:Int)then if 174=174/\r7.t57.toNat<(ic r7 r8 r9).length then G else G else G else G else G else G else G else G else G else G else G else G else G else G else G else G else G else G else G else G else G else match Po r7.b2 with|G=>G|V r12=>match Vu r7.b0.aP r12.fst.aP with|G=>G|V r13=>bif bif r13 then S else O then G else match m71 r7.b0.dL r12.fst.dL with|G=>G|V r14=>bif bif r14 then S else O then G else V (r12.snd,0)else G else G else G else G else G
def avr(a0:aN)(a1:bV)(a2:bH):bL w9 (TS) 300 (aa1) 105 (amX.c (a0,a1,a2,())) [] 0 am4.rd=Hf a0 a1 a2:=by kernel_rfl
def Y7:aZ->aZ:=eZf w9 105 amX am4 (λg=>Hf g.1 g.2.1 g.t.1)
def NQ{F:aZ}(h:aQ w9 F):aQ w9 (Y7 F):=Pa (cF aaI arz (λ_=>by kernel_rfl) (λ_=>by kernel_rfl) λg=>avr g.1 g.2.1 g.t.1) ⟨_,func105,by kernel_rfl,by kernel_rfl⟩ (λ_=>by kernel_rfl) h
def F48:aZ:=(BH (al8 (ahN (afG (Y7 cZ)))))
def apI:aQ w9 F48:=(tY (ZX (KR (af2 (NQ aR)))))
abbrev E48:=bH×Int
def d48:Td 0 E48:= .c [] [8,9] (.t (cA.c 0 0 [] 47) (.t (cA.c 0 1 [] 117) (.c [] [8,9] (.r 0 3 (ec 8 (qp 0 0) (ec 9 aL en)) (sb 0 84 (lc (qo 1) (lc (qo 2) ln)) (sr 1 47 (sr 2 117 sn))) (λz=>((bH.mk z.t.1 z.t.2.1),z.1.2.1)) (λx=>(((),x.2,()),(((),(),()),x.1.dL,x.1.aP,())))))))
def A48:=(lc (qg 26) (lc (qg 29) (lc (qg 84) (bk ln))))
def aAs:An:=(noTwo (noTwo (noTwo (.two (.two (.rb [] 46) .no) .no))))
def aF4:∀f∈([]:aa Nat),bw (F48) f:=aF
def aEE:cR w9 (F48) 0 300 48 (aAs):=bA (l:=[(.skip,(.rb [] 46))]) func48 (aV (by kernel_rfl)) (by kernel_rfl) (az aF4 aF)
def m48(a0:aN)(a1:bV)(a2:bH)(a3:Int):af E48:=
 match Hf a0 a1 a2 with|G=>G|V r1=>bif bif J (r1.snd=0)then S else O then V (bH.mk [] [],r1.snd)else match bif J (a3<0)then V O else bif J (r1.fst.aP.length<=a3)then V O else if 0<=a3/\a3<r1.fst.aP.length then if 174=174/\a3.toNat<r1.fst.aP.length then V (J (0<(↑r1.fst.aP[a3.toNat]!.aq.length:Int)))else G else G with|G=>G|V r2=>bif r2 then V (bH.mk [] [],3)else if 0<=a3/\a3<r1.fst.aP.length then if 174=174/\a3.toNat<r1.fst.aP.length then match aaz r1.fst.aP[a3.toNat]!.bP with|G=>G|V r3=>bif bif r3 then S else O then V (bH.mk [] [],11)else match Mp a3 r1.fst with|G=>G|V r4=>bif bif J (r4.fst=0)then S else O then V (bH.mk [] [],r4.fst)else match Po r4.snd with|G=>G|V r5=>V (r5.fst,0)else G else G
def c48(a0:aN)(a1:bV)(a2:bH)(a3:Int):bL w9 (F48) 300 (aAs) 48 (A48.c (a0,a1,a2,a3,())) [] 0 d48.rd=m48 a0 a1 a2 a3:=by kernel_rfl
def e48:aZ->aZ:=eZ w9 48 A48 d48 (λg=>m48 g.1 g.2.1 g.t.1 g.t.2.1)
def aoV{F:aZ}(h:aQ w9 F):aQ w9 (e48 F):=oK (cF apI aEE (λ_=>by kernel_rfl) (λ_=>by kernel_rfl) λg=>c48 g.1 g.2.1 g.t.1 g.t.2.1) ⟨_,func48,by kernel_rfl,by kernel_rfl⟩ (λ_=>by kernel_rfl) h
def F54:aZ:=(ZS (abL (BH cZ)))
def aoN:aQ w9 F54:=(vm (ud (tY aR)))
abbrev E54:=bH×Int
def d54:Td 0 E54:= .c [] [4,5] (.t (cA.c 0 0 [] 47) (.t (cA.c 0 1 [] 117) (.c [] [4,5] (.r 0 3 (ec 4 (qp 0 0) (ec 5 aL en)) (sb 0 84 (lc (qo 1) (lc (qo 2) ln)) (sr 1 47 (sr 2 117 sn))) (λz=>((bH.mk z.t.1 z.t.2.1),z.1.2.1)) (λx=>(((),x.2,()),(((),(),()),x.1.dL,x.1.aP,())))))))
def A54:=(lc (qg 26) (lc (qg 29) ln))
def ave:An:= .no
def aCO:cR w9 (F54) 0 300 54 (ave):=bA (l:=[]) func54 (aV (by kernel_rfl)) (by kernel_rfl) aF
def m54(a0:aN)(a1:bV):af E54:=
 match HG a0 a1 with|G=>(match Uk a0 a1 with|G=>G|V r3=>bif bif J (r3.snd=0)then S else O then V ((bH.mk [] [],r3.snd))else G)|V r1=>bif bif J (r1.snd=0)then S else O then V ((bH.mk [] [],r1.snd))else match Po r1.fst with|G=>G|V r2=>V ((r2.fst,0))
def c54(a0:aN)(a1:bV):bL w9 (F54) 300 (ave) 54 (A54.c (a0,a1,())) [] 0 d54.rd=m54 a0 a1:=by kernel_rfl
def e54:aZ->aZ:=eZ w9 54 A54 d54 (λg=>m54 g.1 g.2.1)
def api{F:aZ}(h:aQ w9 F):aQ w9 (e54 F):=oK (cF aoN aCO (λ_=>by kernel_rfl) (λ_=>by kernel_rfl) λg=>c54 g.1 g.2.1) ⟨_,func54,by kernel_rfl,by kernel_rfl⟩ (λ_=>by kernel_rfl) h
def F58:aZ:=(axz cZ)
def ata:aQ w9 F58:=(aht aR)
abbrev E58:=aa Part
def d58:Td 0 E58:= .c [] [2] (.r 0 1 (ec 2 (qo 0) en) (sr 0 90 sn) (λz=>z.2.1) (λx=>(((),()),(x,()))))
def A58:=(lc (qg 26) ln)
def avz:An:= .no
def aCh:cR w9 (F58) 0 300 58 (avz):=bA (l:=[]) func58 (aV (by kernel_rfl)) (by kernel_rfl) aF
def m58(a0:aN):af E58:=
 match akJ a0 with|G=>G|V r1=>V ([Part.mk (0) (0) [] r1])
def c58(a0:aN):bL w9 (F58) 300 (avz) 58 (A58.c (a0,())) [] 0 d58.rd=m58 a0:=by kernel_rfl
def e58:aZ->aZ:=eZ w9 58 A58 d58 (λg=>m58 g.1)
def arY{F:aZ}(h:aQ w9 F):aQ w9 (e58 F):=oK (cF ata aCh (λ_=>by kernel_rfl) (λ_=>by kernel_rfl) λg=>c58 g.1) ⟨_,func58,by kernel_rfl,by kernel_rfl⟩ (λ_=>by kernel_rfl) h
def apN:aZ:=cZ
def acV:aQ w9 apN:=aR
abbrev asr:=aH
def d194:Td 0 asr:= .c [] [4] (.r 0 1 (ec 4 (qp 0 0) en) (sb 0 34 (lg 34) sn) (λz=>z.2.1) (λx=>(((),()),(x,()))))
def ayV:=(bk (bk ln))
def amo:An:= .no
def axN:cR w9 (apN) 0 300 194 (amo):=bA (l:=[]) func194 (aV (by kernel_rfl)) (by kernel_rfl) aF
def Pf(a0:Int)(a1:Int):asr:=
 bif J (a0=a1)then aH.mk a0 a1 (0)else aH.mk a0 a1 (1)
def aEQ(a0:Int)(a1:Int):bL w9 (apN) 300 (amo) 194 (ayV.c (a0,a1,())) [] 0 d194.rd=V (Pf a0 a1):=by
 refine Eq.trans (b:=(
  bif J (a0=a1)then V (aH.mk a0 a1 (0))else V (aH.mk a0 a1 (1)):af asr)) (by kernel_rfl) ?_
 simp only[Pf,cM,di]
def avB:=eL w9 194 S ayV d194 (λg=>V (Pf g.1 g.2.1))
def afM{F:aZ}(h:aQ w9 F):aQ w9 (avB F):=cO (sc:=jr) cg (cF acV axN (λ_=>by kernel_rfl) (λ_=>by kernel_rfl) λg=>aEQ g.1 g.2.1) ⟨_,func194,by kernel_rfl,by kernel_rfl⟩ (λ_=>by kernel_rfl) (λ_=>by kernel_rfl) h
def ap4:aZ:=(avB (e40 cZ))
def ahJ:aQ w9 ap4:=(afM (sP aR))
abbrev ayr:=(aa aH)×(aa aH)
def d112:Td 0 ayr:= .c [] [6,7] (.r 0 2 (ec 6 (qo 0) (ec 7 (qo 1) en)) (sr 0 34 (sr 1 34 sn)) (λz=>(z.2.1,z.t.1)) (λx=>(((),(),()),(x.1,x.2,()))))
def azn:=(lc (ql 34) (bk (bk ln)))
def akP:An:= .no
def avE:cR w9 (ap4) 0 300 112 (akP):=bA (l:=[]) func112 (aV (by kernel_rfl)) (by kernel_rfl) aF
def Zn(a0:aa aH)(a1:Int)(a2:Int):af ayr:=
 match Vy a0 with|G=>G|V r1=>match Vy a0 with|G=>G|V r2=>if 0<=a1/\a1<a0.length then if 0<=a1/\a1<(↑(zP r1):Int)then if 34=34/\a1.toNat<zP r1 then if 0<=a1/\a1<a0.length then if 0<=a1/\a1<(↑(zP r2):Int)then if 34=34/\a1.toNat<zP r2 then V ((List.set r1 a1.toNat (Pf a0[a1.toNat]!.ag a2),List.set r2 a1.toNat (Pf (i64.wrap (a2+1)) a0[a1.toNat]!.ah)))else G else G else G else G else G else G
def aEw(a0:aa aH)(a1:Int)(a2:Int):bL w9 (ap4) 300 (akP) 112 (azn.c (a0,a1,a2,())) [] 0 d112.rd=Zn a0 a1 a2:=by kernel_rfl
def afN:=eL w9 112 S azn d112 (λg=>Zn g.1 g.2.1 g.t.1)
def ahB{F:aZ}(h:aQ w9 F):aQ w9 (afN F):=cO (sc:=jr) cg (cF ahJ avE (λ_=>by kernel_rfl) (λ_=>by kernel_rfl) λg=>aEw g.1 g.2.1 g.t.1) ⟨_,func112,by kernel_rfl,by kernel_rfl⟩ (λ_=>by kernel_rfl) (λ_=>by kernel_rfl) h
def acH:aZ:=(aja cZ)
def acZ:aQ w9 acH:=(aec aR)
structure pG where
 t0:List aH
 t2:Int
 t7:List aH
 (t8 t9:Int)
def E7:Td 0 pG:= .c [] [0,2,7,8,9] (.r 0 0 (ec 0 (ql 34) (ec 2 aL (ec 7 (ql 34) (ec 8 aL (ec 9 aL en))))) sn (λz=>⟨z.1.1,z.1.2.1,z.1.t.1,z.1.t.2.1,z.1.q.1⟩) (λx=>((x.t0,x.t2,x.t7,x.t8,x.t9,()),(()))))
def Av(p:pG):af (af pG):=
 bif J (p.t9<p.t8)then if 0<=p.t9/\p.t9<p.t7.length then if 0<=p.t2/\p.t2<p.t0.length then if 0<=p.t2/\p.t2<p.t0.length then bif J (i64.wrap (p.t0[p.t2.toNat]!.ah-p.t0[p.t2.toNat]!.ag)<i64.wrap (p.t7[p.t9.toNat]!.ah-p.t7[p.t9.toNat]!.ag))then V (V (pG.mk p.t0 p.t9 p.t7 p.t8 (i64.wrap (p.t9+1))))else V (V (pG.mk p.t0 p.t2 p.t7 p.t8 (i64.wrap (p.t9+1))))else G else G else G else V (G)
def asl(p:pG):dQ w9 (acH) f111.ntmps 300 (aW f111 0) .no (af pG) (E7.pat p) (rT E7.rd)=Av p:=by kernel_rfl
def Ia:=bJ (Av)
abbrev ax6:=Int×Int×Bool
def d111:Td 0 ax6:= .c [] [2,3,4] (.r 0 0 (ec 2 aL (ec 3 aL (ec 4 qb en))) sn (λz=>(z.1.1,z.1.2.1,z.1.t.1)) (λx=>((x.1,x.2.1,x.t,()),(()))))
def ayg:=(lc (ql 34) ln)
def amV:An:=(noTwo (.two (noTwo (E7.lp Ia .no)) .no))
def auT:cR w9 (acH) 0 300 111 (amV):=bA (l:=[(aW f111 0,(E7.lp Ia .no))]) func111 (aV (by kernel_rfl)) (by kernel_rfl) (az ⟨E7.ok _,dh (asl)⟩ aF)
def Ym(a0:aa aH):af ax6:=
 match Ia (pG.mk a0 0 a0 a0.length 0)with|G=>G|V r1=>bif J (r1.t9<r1.t8)then if 0<=r1.t9/\r1.t9<r1.t7.length then if 0<=r1.t2/\r1.t2<r1.t0.length then if 0<=r1.t2/\r1.t2<r1.t0.length then bif J (i64.wrap (r1.t0[r1.t2.toNat]!.ah-r1.t0[r1.t2.toNat]!.ag)<i64.wrap (r1.t7[r1.t9.toNat]!.ah-r1.t7[r1.t9.toNat]!.ag))then G else G else G else G else G else bif J ((r1.t0.length:Int)=0)then V (0,0,S)else if 0<=r1.t2/\r1.t2<r1.t0.length then if 0<=r1.t2/\r1.t2<r1.t0.length then bif J (r1.t0[r1.t2.toNat]!.ah=r1.t0[r1.t2.toNat]!.ag)then V (0,0,S)else if 0<=r1.t2/\r1.t2<r1.t0.length then if 0<=r1.t2/\r1.t2<r1.t0.length then match aeC (i64.wrap (r1.t0[r1.t2.toNat]!.ag+r1.t0[r1.t2.toNat]!.ah)) 2with|G=>G|V r2=>V (r1.t2,r2,O)else G else G else G else G
def aFc(a0:aa aH):bL w9 (acH) 300 (amV) 111 (ayg.c (a0,())) [] 0 d111.rd=Ym a0:=by kernel_rfl
def Ru:=eL w9 111 S ayg d111 (λg=>Ym g.1)
def aks{F:aZ}(h:aQ w9 F):aQ w9 (Ru F):=cO (sc:=jr) cg (cF acZ auT (λ_=>by kernel_rfl) (λ_=>by kernel_rfl) λg=>aFc g.1) ⟨_,func111,by kernel_rfl,by kernel_rfl⟩ (λ_=>by kernel_rfl) (λ_=>by kernel_rfl) h
abbrev aAR:=aa Part
def d113:Td 0 aAR:= .c [] [2] (.t (cA.s 2 [] 90) (.c [] [2] (.r 0 1 (ec 2 (qo 0) en) (sr 0 90 sn) (λz=>z.2.1) (λx=>(((),()),(x,()))))))
def ayu:=(lc (ql 90) ln)
def Vo(a0:aa Part):af aAR:=if a0.length<=1073741824 then V a0 else G
def YG:cR w9 cZ 0 300 113 .no:=bA (l:=[]) func113 (aV (by kernel_rfl)) (by kernel_rfl) aF
def aA8(x:Part)(xs:aa Part):bL w9 cZ 300 .no 113 [.sl 90 (x::xs)] [] 0 d113.rd=if([]++(x::xs)).length<=1073741824 then V ([]++(x::xs))else G:=by kernel_rfl
def aAJ(c:Nat):bL w9 cZ 300 .no 113 [.lit (.slice G 0 c)] [] 0 d113.rd=V []:=by kernel_rfl
def aBd(a:Addr)(c:Nat):bL w9 cZ 300 .no 113 [.lit (.slice (V a) 0 c)] [] 0 d113.rd=V []:=by kernel_rfl
def aFF:HL w9 113 ayu d113 (λg=>Vo g.1):=λg r h=>by
 obtain⟨a0,_⟩:=g;have h:Vo a0=V r:=h;cases a0 with
 |cons x xs=>exact(jK (out:=λp=>gC w9 113 0 (d113.pat p)) (p:=r) aR YG d113.ok (λp=>by kernel_rfl) (iB (by kernel_rfl)) (ig (by kernel_rfl)) ((aA8 x xs).trans (by rw[yw];exact h))).2
 |nil=>
  cases h;exact Js (λc=>(jK (out:=λp=>gC w9 113 0 (d113.pat p)) (p:=[]) aR YG d113.ok (λp=>by kernel_rfl) (iB (by kernel_rfl)) (ig (by kernel_rfl)) (aAJ c)).2) (λa c=>(jK (out:=λp=>gC w9 113 0 (d113.pat p)) (p:=[]) aR YG d113.ok (λp=>by kernel_rfl) (iB (by kernel_rfl)) (ig (by kernel_rfl)) (aBd a c)).2)
def akM:aZ->aZ:=eZ w9 113 ayu d113 (λg=>Vo g.1)
def afQ{F:aZ}(h:aQ w9 F):aQ w9 (akM F):=oK aFF ⟨_,func113,by kernel_rfl,by kernel_rfl⟩ (λ_=>by kernel_rfl) h
def F49:aZ:=(akM (afN (Ru cZ)))
def as7:aQ w9 F49:=(afQ (ahB (aks aR)))
abbrev E49:=(aa Part)×Bool
def d49:Td 0 E49:= .c [] [4,5] (.t (cA.fs 4 []) (.c [] [4,5] (.r 0 0 (ec 4 (ql 90) (ec 5 qb en)) sn (λz=>(z.1.1,z.1.2.1)) (λx=>((x.1,x.2,()),(()))))))
def A49:=(lc (ql 90) (bk ln))
def auq:An:= .no
def aFW:cR w9 (F49) 0 300 49 (auq):=bA (l:=[]) func49 (aV (by kernel_rfl)) (by kernel_rfl) aF
def m49(a0:aa Part)(a1:Int):af E49:=
 if 0<=a1/\a1<a0.length then match Ym a0[a1.toNat]!.bP with|G=>G|V r1=>bif bif r1.snd.snd then S else O then V (a0,S)else if 0<=a1/\a1<a0.length then match Zn a0[a1.toNat]!.bP r1.fst r1.snd.fst with|G=>G|V r2=>match Vo a0 with|G=>G|V r3=>if(r3++[Part.mk ((0:Int)) ((0:Int)) [] r2.fst,Part.mk ((0:Int)) ((0:Int)) [] r2.snd]).length<=1073741824 then if 0<=a1/\a1<a0.length then if 0<=a1/\a1<(↑(r3++[Part.mk ((0:Int)) ((0:Int)) [] r2.fst,Part.mk ((0:Int)) ((0:Int)) [] r2.snd]).length:Int)then if 90=90/\a1.toNat<(r3++[Part.mk ((0:Int)) ((0:Int)) [] r2.fst,Part.mk ((0:Int)) ((0:Int)) [] r2.snd]).length then V (((r3++[Part.mk 0 0 [] r2.fst,Part.mk 0 0 [] r2.snd]).set a1.toNat (Part.mk r1.fst r1.snd.fst [(a0.length:Int),i64.wrap ((a0.length:Int)+1)] a0[a1.toNat]!.bP),O))else G else G else G else G else G else G
def c49(a0:aa Part)(a1:Int):bL w9 (F49) 300 (auq) 49 (A49.c (a0,a1,())) [] 0 d49.rd=m49 a0 a1:=by kernel_rfl
def e49:aZ->aZ:=eZ w9 49 A49 d49 (λg=>m49 g.1 g.2.1)
def aqN{F:aZ}(h:aQ w9 F):aQ w9 (e49 F):=oK (cF as7 aFW (λ_=>by kernel_rfl) (λ_=>by kernel_rfl) λg=>c49 g.1 g.2.1) ⟨_,func49,by kernel_rfl,by kernel_rfl⟩ (λ_=>by kernel_rfl) h
def abG:aZ:=cZ
def afZ:aQ w9 abG:=aR
structure qm where
 t3:Int
 t7:List aX
 (t8 t9:Int)
def Fz:Td 0 qm:= .c [] [3,7,8,9] (.r 0 0 (ec 3 aL (ec 7 (ql 131) (ec 8 aL (ec 9 aL en)))) sn (λz=>⟨z.1.1,z.1.2.1,z.1.t.1,z.1.t.2.1⟩) (λx=>((x.t3,x.t7,x.t8,x.t9,()),(()))))
def Dk(p:qm):af (af qm):=
 bif J (p.t9<p.t8)then if 0<=p.t9/\p.t9<p.t7.length then match bif J (p.t7[p.t9.toNat]!.bz=1)then V O else V (J (p.t7[p.t9.toNat]!.bz=3))with|G=>G|V r1=>bif r1 then V (V (qm.mk (i64.wrap (p.t3*i64.wrap (i64.wrap (p.t7[p.t9.toNat]!.ah-p.t7[p.t9.toNat]!.ag)+1))) p.t7 p.t8 (i64.wrap (p.t9+1))))else V (V (qm.mk p.t3 p.t7 p.t8 (i64.wrap (p.t9+1))))else G else V (G)
def RC:An:=(noTwo (noTwo (.two (noTwo (.two (.rb [] 20) .no)) .no)))
def ar0(p:qm):dQ w9 (abG) f104.ntmps 300 (aW f104 0) RC (af qm) (Fz.pat p) (rT Fz.rd)=Dk p:=by kernel_rfl
def Kn:=bJ (Dk)
abbrev avT:=Int
def d104:Td 0 avT:= .c [] [2] (.r 0 0 (ec 2 aL en) sn (λz=>z.1.1) (λx=>((x,()),(()))))
def avj:=(lc (qg 26) ln)
def amf:An:=(noTwo (noTwo (.two (noTwo (Fz.lp Kn RC)) .no)))
def ayH:∀f∈([]:aa Nat),bw (abG) f:=aF
def azY:cR w9 (abG) 0 300 104 (amf):=bA (l:=[(aW f104 0,(Fz.lp Kn RC)),(.skip,(.rb [] 20))]) func104 (aV (by kernel_rfl)) (by kernel_rfl) (az ⟨Fz.ok _,dh (ar0)⟩ (az ayH aF))
def aa6(a0:aN):af avT:=
 match Kn (qm.mk 1 a0.ai a0.ai.length 0)with|G=>G|V r2=>bif J (r2.t9<r2.t8)then if 0<=r2.t9/\r2.t9<r2.t7.length then match bif J (r2.t7[r2.t9.toNat]!.bz=1)then V O else V (J (r2.t7[r2.t9.toNat]!.bz=3))with|G=>G|V r3=>bif r3 then G else G else G else V (r2.t3)
def aCN(a0:aN):bL w9 (abG) 300 (amf) 104 (avj.c (a0,())) [] 0 d104.rd=aa6 a0:=by kernel_rfl
def Yy:=eL w9 104 S avj d104 (λg=>aa6 g.1)
def aiE{F:aZ}(h:aQ w9 F):aQ w9 (Yy F):=cO (sc:=jr) cg (cF afZ azY (λ_=>by kernel_rfl) (λ_=>by kernel_rfl) λg=>aCN g.1) ⟨_,func104,by kernel_rfl,by kernel_rfl⟩ (λ_=>by kernel_rfl) (λ_=>by kernel_rfl) h
def AR{F:aZ}{f:Nat}(h:bw F f):bw (Yy F) f:=eC h (λ_=>by kernel_rfl)
def F46:aZ:=(Yy (e55 (e24 cZ)))
def anU:aQ w9 F46:=(aiE (asY (ary aR)))
abbrev E46:=Bool
def d46:Td 0 E46:= .c [] [4] (.r 0 0 (ec 4 qb en) sn (λz=>z.1.1) (λx=>((x,()),(()))))
def A46:=(lc (qg 26) (lc (qg 29) ln))
def awR:An:=(noTwo (.two (.rb [24,55,104] 4) .no))
def aF6:∀f∈([24,55,104]:aa Nat),bw (F46) f:=(az (AR (F4 (Fi bS))) (az (AR (F4 (Fi bS))) (az (AR (F4 (Fi bS))) aF)))
def aDO:cR w9 (F46) 0 300 46 (awR):=bA (l:=[(.skip,(.rb [24,55,104] 4))]) func46 (aV (by kernel_rfl)) (by kernel_rfl) (az aF6 aF)
def m46(a0:aN)(a1:bV):af E46:=
 match match m24 a0 (16) (4096) (4)with|G=>G|V r1=>bif r1 then match m55 a0 a1 with|G=>G|V r2=>bif J (r2=0)then match aa6 a0 with|G=>G|V r3=>V (J (r3<=16))else V (S)else V (S)with|G=>G|V r4=>V (r4)
def c46(a0:aN)(a1:bV):bL w9 (F46) 300 (awR) 46 (A46.c (a0,a1,())) [] 0 d46.rd=m46 a0 a1:=by kernel_rfl
def Xf:=eL w9 46 S A46 d46 (λg=>m46 g.1 g.2.1)
def ap5{F:aZ}(h:aQ w9 F):aQ w9 (Xf F):=cO (sc:=jr) cg (cF anU aDO (λ_=>by kernel_rfl) (λ_=>by kernel_rfl) λg=>c46 g.1 g.2.1) ⟨_,func46,by kernel_rfl,by kernel_rfl⟩ (λ_=>by kernel_rfl) (λ_=>by kernel_rfl) h
def MY{F:aZ}{f:Nat}(h:bw F f):bw (Xf F) f:=eC h (λ_=>by kernel_rfl)
def F47:aZ:=(e58 (e54 (e49 (e48 cZ))))
def aon:aQ w9 F47:=(arY (api (aqN (aoV aR))))
structure BE where
 t9:List Part
 t31:List Int
 (t32 t33:Int)
 b0:aN
 b1:bV
 (b2 b3:bH)
def Ls:Td 0 BE:= .c [] [3,4,7,9,10,31,32,33] (.t (cA.fs 9 []) (.c [] [3,4,7,9,10,31,32,33] (.r 0 6 (ec 3 (qp 0 0) (ec 4 (qp 1 0) (ec 7 (qp 2 0) (ec 9 (ql 90) (ec 10 (qp 3 0) (ec 31 (ql 5) (ec 32 aL (ec 33 aL en)))))))) (sb 0 26 (lg 26) (sb 1 29 (lg 29) (sb 2 84 (lc qn (lc qn ln)) (sb 3 84 (lc (qo 4) (lc (qo 5) ln)) (sr 4 47 (sr 5 117 sn)))))) (λz=>⟨z.1.t.2.1,z.1.q.2.1,z.1.q.t.1,z.1.q.t.2.1,z.2.1,z.t.1,(bH.mk [] []),(bH.mk z.q.2.1 z.q.t.1)⟩) (λx=>(((),(),(),x.t9,(),x.t31,x.t32,x.t33,()),(x.b0,x.b1,((),(),()),((),(),()),x.b3.dL,x.b3.aP,()))))))
def OD(p:BE):af (af BE):=
 bif J (p.t33<p.t32)then if 0<=p.t33/\p.t33<p.t31.length then if¬(p.t9.length:Int)=(0:Int)then match m49 p.t9 ((i64.wrap p.t31[p.t33.toNat]!).tmod p.t9.length)with|G=>G|V r1=>match if(0:Int)<=(i64.wrap p.t31[p.t33.toNat]!).tmod p.t9.length/\(i64.wrap p.t31[p.t33.toNat]!).tmod (p.t9.length:Int)<(p.t9.length:Int)then bif J (0<(↑p.t9[((i64.wrap p.t31[p.t33.toNat]!).tmod p.t9.length).toNat]!.aq.length:Int))then V O else V (bif r1.snd then S else O)else G with|G=>G|V r2=>bif r2 then V (V (BE.mk p.t9 p.t31 p.t32 (i64.wrap (p.t33+1)) p.b0 p.b1 (bH.mk [] []) p.b3))else match m48 p.b0 p.b1 p.b3 ((i64.wrap p.t31[p.t33.toNat]!).tmod p.t9.length)with|G=>G|V r3=>bif bif J (r3.snd=0)then S else O then V (G)else V (V (BE.mk r1.fst p.t31 p.t32 (i64.wrap (p.t33+1)) p.b0 p.b1 (bH.mk [] []) r3.fst))else G else G else V (G)
def abH:An:=(noTwo (noTwo (.two (noTwo (noTwo (noTwo (.two (.two (.rb [] 58) .no) .no)))) .no)))
def awU(p:BE):dQ w9 (F47) f47.ntmps 300 (aW f47 0) abH (af BE) (Ls.pat p) (rT Ls.rd)=OD p:=by kernel_rfl
def U0:=bJ (OD)
abbrev E47:=(aa Part)×bH×Bool
def d47:Td 0 E47:= .c [] [6,7,8] (.t (cA.fs 6 []) (.t (cA.fc 1 0 []) (.t (cA.fc 1 1 []) (.t (cA.fc 0 0 []) (.t (cA.fc 0 1 []) (.c [] [6,7,8] (.r 0 1 (ec 6 (ql 90) (ec 7 (qp 0 0) (ec 8 qb en))) (sb 0 84 (lg 84) sn) (λz=>(z.1.1,z.2.1,z.1.t.1)) (λx=>((x.1,(),x.t,()),(x.2.1,()))))))))))
def A47:=(lc (qg 26) (lc (qg 29) (lc (ql 5) ln)))
def azB:An:=(noTwo (noTwo (noTwo (noTwo (.two (noTwo (Ls.lp U0 abH)) .no)))))
def aCJ:∀f∈([]:aa Nat),bw (F47) f:=aF
def aF0:cR w9 (F47) 0 300 47 (azB):=bA (l:=[(aW f47 0,(Ls.lp U0 abH)),(.skip,(.rb [] 58))]) func47 (aV (by kernel_rfl)) (by kernel_rfl) (az ⟨Ls.ok _,dh (awU)⟩ (az aCJ aF))
def m47(a0:aN)(a1:bV)(a2:aa Int):af E47:=
 match m58 a0 with|G=>G|V r4=>match m54 a0 a1 with|G=>G|V r5=>bif bif J (r5.snd=0)then S else O then V (r4,r5.fst,S)else match U0 (BE.mk r4 a2 a2.length 0 a0 a1 (bH.mk [] []) r5.fst)with|G=>G|V r6=>bif J (r6.t33<r6.t32)then if 0<=r6.t33/\r6.t33<r6.t31.length then if¬(r6.t9.length:Int)=(0:Int)then match m49 r6.t9 ((i64.wrap r6.t31[r6.t33.toNat]!).tmod r6.t9.length)with|G=>G|V r7=>match if(0:Int)<=(i64.wrap r6.t31[r6.t33.toNat]!).tmod r6.t9.length/\(i64.wrap r6.t31[r6.t33.toNat]!).tmod (r6.t9.length:Int)<(r6.t9.length:Int)then bif J (0<(↑r6.t9[((i64.wrap r6.t31[r6.t33.toNat]!).tmod r6.t9.length).toNat]!.aq.length:Int))then V O else V (bif r7.snd then S else O)else G with|G=>G|V r8=>bif r8 then G else match m48 r6.b0 r6.b1 r6.b3 ((i64.wrap r6.t31[r6.t33.toNat]!).tmod r6.t9.length)with|G=>G|V r9=>bif bif J (r9.snd=0)then S else O then V (r6.t9,r6.b3,S)else G else G else G else V (r6.t9,r6.b3,O)
def c47(a0:aN)(a1:bV)(a2:aa Int):bL w9 (F47) 300 (azB) 47 (A47.c (a0,a1,a2,())) [] 0 d47.rd=m47 a0 a1 a2:=by kernel_rfl
def e47:aZ->aZ:=eZ w9 47 A47 d47 (λg=>m47 g.1 g.2.1 g.t.1)
def arR{F:aZ}(h:aQ w9 F):aQ w9 (e47 F):=oK (cF aon aF0 (λ_=>by kernel_rfl) (λ_=>by kernel_rfl) λg=>c47 g.1 g.2.1 g.t.1) ⟨_,func47,by kernel_rfl,by kernel_rfl⟩ (λ_=>by kernel_rfl) h
def LD{F:aZ}{f:Nat}(hne:zf f 47=S)(h:bw F f):bw (e47 F) f:=MW hne h
structure aHX where
 t7:List Part
 t10:Int
 b0:aN
 b1:bV
 b2:bH
end Go.Proofs.YtnfljbehcffmcaaGreat
end
