/- Merged: Hz, Hw, Nf1, Nf2, Nf3, Nf4, Hk, Hu, Nf5, Nf6, Nf7, Nf8, Nf9, Hp1, Pw1, Hk45, H10, Nk1, Rc, Sk, Sf, Sc, St, Hra, Nr1, Nr2, Nr3, Nr4, Nr5, Nr6. -/
import Derived.Test.YtnfljbehcffmcaaGreatM1RefineChecks
import Derived.Test.YtnfljbehcffmcaaGreatM5RefineChecks
import Derived.Test.YtnfljbehcffmcaaGreatM2RefineChecks
import Derived.Test.YtnfljbehcffmcaaGreatM4RefineChecks
import Derived.Test.YtnfljbehcffmcaaGreatM3RefineChecks
import Derived.Shelf.SlSortCmp.WholeK
import Derived.Shelf.SlSortCmp.NoneTotal
import Derived.Shelf.SlSortCmp.KitK
import Derived.Sort.WalkB12
import Derived.Deep.LoopGhost
import Derived.Lib.SliceRun
open Nat renaming beq -> zc, le_refl -> zl, lt_succ_self -> zC, le_trans -> zG, add_mul -> zW, add_zero -> yg, mul_le_mul_right -> yh, zero_add -> yj, add_assoc -> yH, one_mul -> yL, zero_le -> yU, mod_lt -> xe, sub_self -> xT, eq_zero_or_pos -> wA, add_sub_cancel -> wM
open SizeOf renaming sizeOf -> ze
open List renaming replicate -> zf, length_append -> zh, mem_cons_self -> zk, getElem?_eq_getElem -> zm, mem_singleton -> zo, mem_cons -> zx, take_length -> zy, length_map -> zB, length_take -> zD, range -> zH, length_set -> zI, mem_cons_of_mem -> zL, mem_map -> zM, map_append -> zO, mem_append -> zP, length_drop -> zV, length -> zY, mem_filter -> z8, map_cons -> yf, length_singleton -> ym, length_filter_le -> yq, append_nil -> yu, length_cons -> yw, length_nil -> yA, nil_append -> yB, getElem_map -> yM, drop_eq_getElem_cons -> yQ, append_assoc -> yS, map_nil -> yT, filter_cons -> yV, getElem_of_mem -> xd, eq_nil_of_length_eq_zero -> xg, filter_append -> xh, length_eq_zero_iff -> xu, ext_getElem -> xw, cons_append -> xz, take_append_drop -> xA, mem_of_mem_drop -> xD, filterMap_cons -> xE, drop_zero -> xI, getElem_take -> xK, flatMap_append -> xR, getElem_drop -> xS, filter_nil -> xY, count_append -> xZ, getElem?_take_of_lt -> wu, count_eq_zero -> wz, getElem_append_right -> wC, getElem?_eq_none -> wE, range_succ -> wG, mem_of_mem_take -> wJ, any_eq_true -> wN, drop_length -> wP, filter_eq_self -> wV, getElem?_append_right -> wX, getElem?_append_left -> wY, filter_cons_of_pos -> vh, filter_cons_of_neg -> vi
open Int renaming toNat_natCast -> zg, le_refl -> zj, toNat -> zq, mul_nonneg -> zJ, mul_le_mul_of_nonneg_right -> zN, ediv_nonneg -> zS, mul_assoc -> yb, one_mul -> yc, ediv_le_self -> yl, lt_irrefl -> yx, mul_le_mul -> yY, le_trans -> xV, mul_le_mul_of_nonneg_left -> va
open Bool renaming and_eq_true -> zi, false_eq_true -> yy, or_eq_true -> yC, true -> J, false -> O
open Option renaming map_eq_some_iff -> zn, some -> zF, isSome_none -> vk, some -> V, none -> G
open Array renaming length_toList -> yo, getElem?_eq_some_iff -> y8, getElem?_eq_getElem -> y9, getElem?_toList -> wQ, getElem?_modify -> vm
open Decidable renaming decide -> vn
open Go.Proofs.Tryz renaming prog -> vp
open Go.Proofs.Tryz
set_option linter.unusedSectionVars false
set_option linter.unusedVariables false
set_option linter.unusedSimpArgs false
set_option linter.defProp false
noncomputable section
set_option maxRecDepth 100000
namespace Go.Proofs.YtnfljbehcffmcaaGreat
open Go Go.Iv
open Go.IntKind (i64 u64)
def F79:bu:=(QX (atn (e91 dA)))
structure HR where
 t2:List aK
 t100:List bh
 (t101 t102:Int)
def ace:Td 0 HR:= .c [] [2,100,101,102] (.r 0 1 (ec 2 (ql 34) (ec 100 (qo 0) (ec 101 aP (ec 102 aP en)))) (sr 0 131 sn) (λz=>⟨z.1.1,z.2.1,z.1.t.1,z.1.t.2.1⟩) (λx=>((x.t2,(),x.t101,x.t102,()),(x.t100,()))))
def NZ{α:Type}(p:HR)(go:HR->aa α)(e1 e2 e3:aa α):aa α:=
 bif vn (p.t102<p.t101)then if 0<=p.t102/\p.t102<zY p.t100 then if 131=131/\zq p.t102<zY p.t100 then match (if 0<=p.t102/\p.t102<zY p.t2 then match AE p.t2[zq p.t102]! with|G=>G|V r2=>bif bif r2 then O else J then V J else if 0<=p.t102/\p.t102<zY p.t2 then match XN p.t2[zq p.t102]! with|G=>G|V r3=>V (vn (r3=0))else G else G)with|G=>G|V r4=>bif r4 then e1 else if 0<=p.t102/\p.t102<zY p.t2 then bif vn (p.t2[zq p.t102]!.ah<p.t100[zq p.t102]!.ah)then e2 else if 0<=p.t102/\p.t102<zY p.t2 then bif vn (p.t100[zq p.t102]!.ag<p.t2[zq p.t102]!.ag)then e2 else go (HR.mk p.t2 p.t100 p.t101 (ak (p.t102+1)))else G else G else G else G else e3
def OB(p:HR):aa (aa HR):=
 NZ p (λs=>V (V s)) (V G) (V G) (V G)
def aoS:An:=(noTwo (noTwo (.two (noTwo (.two (.two (.rb [91,144] 120) .no) .no)) .no)))
def V8:=bI (OB)
structure GM where
 t2:List aK
 (t9 t69:List bh)
 (t70 t71:Int)
 b0:bU
def abB:Td 0 GM:= .c [] [2,4,9,69,70,71] (.r 0 3 (ec 2 (ql 34) (ec 4 (qp 0 0) (ec 9 (qo 1) (ec 69 (qo 2) (ec 70 aP (ec 71 aP en)))))) (sb 0 29 (lg 29) (sr 1 131 (sr 2 131 sn))) (λz=>⟨z.1.1,z.t.1,z.t.2.1,z.1.q.1,z.1.q.2.1,z.2.1⟩) (λx=>((x.t2,(),(),(),x.t70,x.t71,()),(x.b0,x.t9,x.t69,()))))
def OU{α:Type}(p:GM)(go:GM->aa α)(e1 e2:aa α):aa α:=
 bif vn (p.t71<p.t70)then if 0<=p.t71/\p.t71<zY p.t69 then if 131=131/\zq p.t71<zY p.t69 then if 0<=p.t71/\p.t71<zY p.b0.bz then bif vn (((p.t2,(),(),(),p.t70,p.t71,()),p.b0,p.t9,p.t69,()).snd.fst.bz[((p.t2,(),(),(),p.t70,p.t71,()),p.b0,p.t9,p.t69,()).fst.snd.snd.snd.snd.snd.fst.toNat]! <((p.t2,(),(),(),p.t70,p.t71,()),p.b0,p.t9,p.t69,()).snd.snd.snd.fst[((p.t2,(),(),(),p.t70,p.t71,()),p.b0,p.t9,p.t69,()).fst.snd.snd.snd.snd.snd.fst.toNat]!.ah)then e1 else if 0<=p.t71/\p.t71<zY p.b0.bz then bif vn (((p.t2,(),(),(),p.t70,p.t71,()),p.b0,p.t9,p.t69,()).snd.snd.snd.fst[((p.t2,(),(),(),p.t70,p.t71,()),p.b0,p.t9,p.t69,()).fst.snd.snd.snd.snd.snd.fst.toNat]!.ag<((p.t2,(),(),(),p.t70,p.t71,()),p.b0,p.t9,p.t69,()).snd.fst.bz[((p.t2,(),(),(),p.t70,p.t71,()),p.b0,p.t9,p.t69,()).fst.snd.snd.snd.snd.snd.fst.toNat]!)then e1 else go (GM.mk p.t2 p.t9 p.t69 p.t70 (ak (p.t71+1)) p.b0)else G else G else G else G else e2
def On(p:GM):aa (aa GM):=
 OU p (λs=>V (V s)) (V G) (V G)
def V7:=bI (On)
structure DS where
 t2:List aK
 (t8 t9:List bh)
 t13:Int
 t40:List Int
 (t41 t42:Int)
 t47:List bh
 (t48 t49:Int)
 b0:aS
 b1:bU
def adB:Td 0 DS:= .c [] [2,3,4,8,9,13,40,41,42,47,48,49] (.r 0 5 (ec 2 (ql 34) (ec 3 (qp 0 0) (ec 4 (qp 1 0) (ec 8 (qo 2) (ec 9 (qo 3) (ec 13 aP (ec 40 (qo 4) (ec 41 aP (ec 42 aP (ec 47 (ql 131) (ec 48 aP (ec 49 aP en)))))))))))) (sb 0 26 (lg 26) (sb 1 29 (lg 29) (sr 2 131 (sr 3 131 (sr 4 129 sn))))) (λz=>⟨z.1.1,z.t.2.1,z.q.1,z.1.q.2.1,z.q.2.1,z.1.q.t.2.1,z.1.q.q.1,z.1.q.q.2.1,z.1.q.q.t.1,z.1.q.q.t.2.1,z.2.1,z.t.1⟩) (λx=>((x.t2,(),(),(),(),x.t13,(),x.t41,x.t42,x.t47,x.t48,x.t49,()),(x.b0,x.b1,x.t8,x.t9,x.t40,()))))
def DE{α:Type}(p:DS)(go:DS->aa α)(e1:aa α):aa α:=
 bif vn (p.t49<p.t48)then if 0<=p.t49/\p.t49<zY p.t47 then bif vn (p.t47[zq p.t49]!.bS=p.t13)then if(p.t9++[p.t47[zq p.t49]!]).length<=1073741824 then go (DS.mk p.t2 p.t8 (p.t9++[p.t47[zq p.t49]!]) p.t13 p.t40 p.t41 p.t42 p.t47 p.t48 (ak (p.t49+1)) p.b0 p.b1)else G else go (DS.mk p.t2 p.t8 p.t9 p.t13 p.t40 p.t41 p.t42 p.t47 p.t48 (ak (p.t49+1)) p.b0 p.b1)else G else e1
def VO(p:DS):aa (aa DS):=
 DE p (λs=>V (V s)) (V G)
def Ow:=bI (VO)
structure Ip where
 t2:List aK
 (t8 t9:List bh)
 t40:List Int
 (t41 t42:Int)
 b0:aS
 b1:bU
def aaY:Td 0 Ip:= .c [] [2,3,4,8,9,40,41,42] (.t (b6.s 9 [] 131) (.c [] [2,3,4,8,9,40,41,42] (.r 0 5 (ec 2 (ql 34) (ec 3 (qp 0 0) (ec 4 (qp 1 0) (ec 8 (qo 2) (ec 9 (qo 3) (ec 40 (qo 4) (ec 41 aP (ec 42 aP en)))))))) (sb 0 26 (lg 26) (sb 1 29 (lg 29) (sr 2 131 (sr 3 131 (sr 4 129 sn))))) (λz=>⟨z.1.1,z.t.2.1,z.q.1,z.q.2.1,z.1.q.t.1,z.1.q.t.2.1,z.2.1,z.t.1⟩) (λx=>((x.t2,(),(),(),(),(),x.t41,x.t42,()),(x.b0,x.b1,x.t8,x.t9,x.t40,()))))))
def JY{α:Type}(p:Ip)(go:Ip->aa α)(e1:aa α):aa α:=
 bif vn (p.t42<p.t41)then if 0<=p.t42/\p.t42<zY p.t40 then if 129=129/\zq p.t42<zY p.t40 then match Ow (DS.mk p.t2 p.t8 p.t9 p.t40[zq p.t42]! p.t40 p.t41 p.t42 p.b0.ai (zY p.b0.ai) 0 p.b0 p.b1)with|G=>G|V r1=>DE r1 (λ_=>G) (go (Ip.mk r1.t2 r1.t8 r1.t9 r1.t40 r1.t41 (ak (r1.t42+1)) r1.b0 r1.b1))else G else G else e1
def WK(p:Ip):aa (aa Ip):=
 JY p (λs=>V (V s)) (V G)
def apJ:An:=(noTwo (noTwo (.two (noTwo (noTwo (adB.lp Ow .no))) .no)))
def PU:=bI (WK)
structure Du where
 t2:List aK
 (t8 t26:List bh)
 (t27 t28:Int)
 b0:aS
 b1:bU
def ac1:Td 0 Du:= .c [] [2,3,4,8,9,26,27,28] (.t (b6.s 8 [] 131) (.c [] [2,3,4,8,9,26,27,28] (.r 0 3 (ec 2 (ql 34) (ec 3 (qp 0 0) (ec 4 (qp 1 0) (ec 8 (qo 2) (ec 9 qn (ec 26 (ql 131) (ec 27 aP (ec 28 aP en)))))))) (sb 0 26 (lg 26) (sb 1 29 (lg 29) (sr 2 131 sn))) (λz=>⟨z.1.1,z.t.2.1,z.1.q.2.1,z.1.q.t.1,z.1.q.t.2.1,z.2.1,z.t.1⟩) (λx=>((x.t2,(),(),(),(),x.t26,x.t27,x.t28,()),(x.b0,x.b1,x.t8,()))))))
def Pz{α:Type}(p:Du)(go:Du->aa α)(e1:aa α):aa α:=
 bif vn (p.t28<p.t27)then if 0<=p.t28/\p.t28<zY p.t26 then bif vn (p.t26[zq p.t28]!.bS=2)then if(p.t8++[p.t26[zq p.t28]!]).length<=1073741824 then go (Du.mk p.t2 (p.t8++[p.t26[zq p.t28]!]) p.t26 p.t27 (ak (p.t28+1)) p.b0 p.b1)else G else go (Du.mk p.t2 p.t8 p.t26 p.t27 (ak (p.t28+1)) p.b0 p.b1)else G else e1
def Wx(p:Du):aa (aa Du):=
 Pz p (λs=>V (V s)) (V G)
def X4:=bI (Wx)
abbrev E79:=Int
def d79:Td 0 E79:= .c [] [6] (.r 0 0 (ec 6 aP en) sn (λz=>z.1.1) (λx=>((x,()),(()))))
def aEU:∀f∈([91,144]:af Nat),bA (F79) f:=(aA (fZ (Jj (Fj bG))) (aA (fZ (Jj (Fj bG))) aH))
def m79(a0:aS)(a1:bU)(a2:af aK):aa E79:=
 match ab7 a0 with|G=>G|V r5=>bif bif vn (r5=0)then O else J then V (r5)else match X4 (Du.mk a2 [] a0.ai (zY a0.ai) 0 a0 a1)with|G=>G|V r6=>Pz r6 (λ_=>G) (match PU (Ip.mk r6.t2 r6.t8 [] [1,3] (2:Int) 0 r6.b0 r6.b1)with|G=>G|V r7=>JY r7 (λ_=>G) (bif bif vn ((zY r7.b1.bz:Int)=(zY r7.t8:Int))then O else J then V 1 else match V7 (GM.mk r7.t2 r7.t9 r7.t8 (zY r7.t8) 0 r7.b1)with|G=>G|V r9=>OU r9 (λ_=>G) (V 3) (bif bif vn ((zY r9.t2:Int)=(zY r9.t9:Int))then O else J then V 2 else match V8 (HR.mk r9.t2 r9.t9 (zY r9.t9) 0)with|G=>G|V r10=>NZ r10 (λ_=>G) (V 1) (V 3) (V 0))))
def e79:=eL vp 79 O (lc (qg 26) (lc (qg 29) (lc (ql 34) ln))) d79 (λg=>m79 g.1 g.2.1 g.t.1)
def atF:EO e79:=λh=>kL (F:=F79) (an:=(noTwo (noTwo (noTwo (.two (noTwo (ac1.lp X4 .no)) (.two (noTwo (aaY.lp PU apJ)) (noTwo (.two (noTwo (abB.lp V7 .no)) (noTwo (.two (noTwo (ace.lp V8 aoS)) .no)))))))))) (l:=[(bk f79 0,(ac1.lp X4 .no)),(bk f79 1,(aaY.lp PU apJ)),(bk f79 2,(adB.lp Ow .no)),(bk f79 3,(abB.lp V7 .no)),(bk f79 4,(ace.lp V8 aoS)),(.skip,(.rb [91,144] 120))]) func79 (lH (V5 (UQ aV))) (aA (aO ac1) (aA (aO aaY) (aA (aO adB) (aA (aO abB) (aA (aO ace) (aA aEU aH)))))) h
structure Ir where
 t108:List dN
 (t109 t110:Int)
 b0:aS
 b1:bU
 b2:bK
 b3:ay
 b4:Runner
def afP:Td 0 Ir:= .c [] [3,4,6,9,17,108,109,110] (.t (b6.c 4 3 [] 34) (.c [] [3,4,6,9,17,108,109,110] (.r 0 7 (ec 3 (qp 0 0) (ec 4 (qp 1 0) (ec 6 (qp 2 0) (ec 9 (qp 3 0) (ec 17 (qp 4 0) (ec 108 (ql 139) (ec 109 aP (ec 110 aP en)))))))) (sb 0 26 (lg 26) (sb 1 29 (lg 29) (sb 2 36 (aU (aU (aU (lc qn (aU (aU (aU (lc qn ln)))))))) (sb 3 128 (lc (qo 5) (aU (aU (aU (lc qn (aU (aU (aU ln)))))))) (sb 4 133 (lc (ql 131) (lc (ql 139) (lc (ql 166) (lc (qo 6) ln)))) (sr 5 34 (sr 6 34 sn))))))) (λz=>⟨z.1.q.2.1,z.1.q.t.1,z.1.q.t.2.1,z.2.1,z.t.1,(bK.mk (aK.mk z.t.2.1.1 z.t.2.1.2.1 z.t.2.1.t.1) [] (aK.mk z.t.2.1.q.1 z.t.2.1.q.2.1 z.t.2.1.q.t.1) []),(ay.mk z.q.t.1 (aK.mk z.q.1.2.1 z.q.1.t.1 z.q.1.t.2.1) [] (aK.mk z.q.1.q.2.1 z.q.1.q.t.1 z.q.1.q.t.2.1)),(Runner.mk (aS.mk z.q.2.1.1 z.q.2.1.2.1 z.q.2.1.t.1) z.q.t.2.1)⟩) (λx=>(((),(),(),(),(),x.t108,x.t109,x.t110,()),(x.b0,x.b1,(x.b2.aD.ah,x.b2.aD.ag,x.b2.aD.aj,(),x.b2.aI.ah,x.b2.aI.ag,x.b2.aI.aj,(),()),((),x.b3.aD.ah,x.b3.aD.ag,x.b3.aD.aj,(),x.b3.aI.ah,x.b3.aI.ag,x.b3.aI.aj,()),(x.b4.fF.ai,x.b4.fF.ax,x.b4.fF.bM,(),()),x.b3.ai,x.b4.ax,()))))))
def Qb{α:Type}(p:Ir)(go:Ir->aa α)(e1:aa α):aa α:=
 bif vn (p.t110<p.t109)then if 0<=p.t110/\p.t110<zY p.t108 then match WV (ay.mk p.b3.ai p.b3.aD [] p.b3.aI) (az.mk p.t108[zq p.t110]!.aF.bF p.t108[zq p.t110]!.aF.fN p.t108[zq p.t110]!.aF.aq)with|G=>G|V r1=>match m81 r1 p.t108[zq p.t110]!.ah p.t108[zq p.t110]!.ag with|G=>G|V r2=>if(p.b4.ax++[r2.fst]).length<=1073741824 then go (Ir.mk p.t108 p.t109 (ak (p.t110+1)) p.b0 p.b1 (bK.mk p.b2.aD [] p.b2.aI []) (ay.mk p.b3.ai p.b3.aD [] p.b3.aI) (Runner.mk p.b4.fF (p.b4.ax++[r2.fst])))else G else G else e1
def YM(p:Ir):aa (aa Ir):=
 Qb p (λs=>V (V s)) (V G)
def PM:=bI (YM)
structure uh where
 t2:List aK
 (t10 t11 t12:Int)
 t47:List bh
 (t48 t49:Int)
 b0:aS
 b1:bU
 b2:bK
 b3:ay
def abF:Td 0 uh:= .c [] [2,3,4,6,9,10,11,12,47,48,49] (.t (b6.c 3 0 [] 34) (.c [] [2,3,4,6,9,10,11,12,47,48,49] (.r 0 5 (ec 2 (ql 34) (ec 3 (qp 0 0) (ec 4 (qp 1 0) (ec 6 (qp 2 0) (ec 9 (qp 3 0) (ec 10 aP (ec 11 aP (ec 12 aP (ec 47 (ql 131) (ec 48 aP (ec 49 aP en))))))))))) (sb 0 26 (lg 26) (sb 1 29 (lg 29) (sb 2 36 (aU (aU (aU (lc qn (aU (aU (aU (lc qn ln)))))))) (sb 3 128 (lc (qo 4) (aU (aU (aU (lc qn (aU (aU (aU ln)))))))) (sr 4 34 sn))))) (λz=>⟨z.1.1,z.1.q.2.1,z.1.q.t.1,z.1.q.t.2.1,z.1.q.q.1,z.1.q.q.2.1,z.1.q.q.t.1,z.2.1,z.t.1,(bK.mk (aK.mk z.t.2.1.1 z.t.2.1.2.1 z.t.2.1.t.1) [] (aK.mk z.t.2.1.q.1 z.t.2.1.q.2.1 z.t.2.1.q.t.1) []),(ay.mk z.q.2.1 (aK.mk z.q.1.2.1 z.q.1.t.1 z.q.1.t.2.1) [] (aK.mk z.q.1.q.2.1 z.q.1.q.t.1 z.q.1.q.t.2.1))⟩) (λx=>((x.t2,(),(),(),(),x.t10,x.t11,x.t12,x.t47,x.t48,x.t49,()),(x.b0,x.b1,(x.b2.aD.ah,x.b2.aD.ag,x.b2.aD.aj,(),x.b2.aI.ah,x.b2.aI.ag,x.b2.aI.aj,(),()),((),x.b3.aD.ah,x.b3.aD.ag,x.b3.aD.aj,(),x.b3.aI.ah,x.b3.aI.ag,x.b3.aI.aj,()),x.b3.ai,()))))))
def Rh{α:Type}(p:uh)(go:uh->aa α)(e1:aa α):aa α:=
 bif vn (p.t49<p.t48)then if 0<=p.t49/\p.t49<zY p.t47 then bif vn (p.t47[zq p.t49]!.bS=1)then if 0<=p.t10/\p.t10<zY p.t2 then if(p.b3.ai++[p.t2[zq p.t10]!]).length<=1073741824 then go (uh.mk p.t2 (ak (p.t10+1)) p.t11 p.t12 p.t47 p.t48 (ak (p.t49+1)) p.b0 p.b1 (bK.mk p.b2.aD [] p.b2.aI []) (ay.mk (p.b3.ai++[p.t2[zq p.t10]!]) p.b3.aD [] p.b3.aI))else G else G else bif vn (p.t47[zq p.t49]!.bS=2)then if 0<=p.t11/\p.t11<zY p.b1.bz then if(p.b3.ai++[m80 p.b1.bz[zq p.t11]!]).length<=1073741824 then go (uh.mk p.t2 p.t10 (ak (p.t11+1)) p.t12 p.t47 p.t48 (ak (p.t49+1)) p.b0 p.b1 (bK.mk p.b2.aD [] p.b2.aI []) (ay.mk (p.b3.ai++[m80 p.b1.bz[zq p.t11]!]) p.b3.aD [] p.b3.aI))else G else G else bif vn (p.t47[zq p.t49]!.bS=3)then if 0<=p.t12/\p.t12<zY p.t2 then if(p.b3.ai++[p.t2[zq p.t12]!]).length<=1073741824 then go (uh.mk p.t2 p.t10 p.t11 (ak (p.t12+1)) p.t47 p.t48 (ak (p.t49+1)) p.b0 p.b1 (bK.mk p.b2.aD [] p.b2.aI []) (ay.mk (p.b3.ai++[p.t2[zq p.t12]!]) p.b3.aD [] p.b3.aI))else G else G else if(p.b3.ai++[m80 p.t47[zq p.t49]!.gD]).length<=1073741824 then go (uh.mk p.t2 p.t10 p.t11 p.t12 p.t47 p.t48 (ak (p.t49+1)) p.b0 p.b1 (bK.mk p.b2.aD [] p.b2.aI []) (ay.mk (p.b3.ai++[m80 p.t47[zq p.t49]!.gD]) p.b3.aD [] p.b3.aI))else G else G else e1
def VL(p:uh):aa (aa uh):=
 Rh p (λs=>V (V s)) (V G)
def XF:=bI (VL)
structure DA where
 t2:List aK
 (t10 t11 t12:Int)
 t34:List bh
 (t35 t36:Int)
 b0:aS
 b1:bU
 b2:bK
 b3:ay
def aeI:Td 0 DA:= .c [] [2,3,4,6,9,10,11,12,34,35,36] (.r 0 4 (ec 2 (ql 34) (ec 3 (qp 0 0) (ec 4 (qp 1 0) (ec 6 (qp 2 0) (ec 9 (qp 3 0) (ec 10 aP (ec 11 aP (ec 12 aP (ec 34 (ql 131) (ec 35 aP (ec 36 aP en))))))))))) (sb 0 26 (lg 26) (sb 1 29 (lg 29) (sb 2 36 (aU (aU (aU (lc qn (aU (aU (aU (lc qn ln)))))))) (sb 3 128 (lc qn (aU (aU (aU (lc qn (aU (aU (aU ln)))))))) sn)))) (λz=>⟨z.1.1,z.1.q.2.1,z.1.q.t.1,z.1.q.t.2.1,z.1.q.q.1,z.1.q.q.2.1,z.1.q.q.t.1,z.2.1,z.t.1,(bK.mk (aK.mk z.t.2.1.1 z.t.2.1.2.1 z.t.2.1.t.1) [] (aK.mk z.t.2.1.q.1 z.t.2.1.q.2.1 z.t.2.1.q.t.1) []),(ay.mk [] (aK.mk z.q.1.2.1 z.q.1.t.1 z.q.1.t.2.1) [] (aK.mk z.q.1.q.2.1 z.q.1.q.t.1 z.q.1.q.t.2.1))⟩) (λx=>((x.t2,(),(),(),(),x.t10,x.t11,x.t12,x.t34,x.t35,x.t36,()),(x.b0,x.b1,(x.b2.aD.ah,x.b2.aD.ag,x.b2.aD.aj,(),x.b2.aI.ah,x.b2.aI.ag,x.b2.aI.aj,(),()),((),x.b3.aD.ah,x.b3.aD.ag,x.b3.aD.aj,(),x.b3.aI.ah,x.b3.aI.ag,x.b3.aI.aj,()),()))))
def OT{α:Type}(p:DA)(go:DA->aa α)(e1:aa α):aa α:=
 bif vn (p.t36<p.t35)then if 0<=p.t36/\p.t36<zY p.t34 then bif vn (p.t34[zq p.t36]!.bS=1)then go (DA.mk p.t2 p.t10 p.t11 (ak (p.t12+1)) p.t34 p.t35 (ak (p.t36+1)) p.b0 p.b1 (bK.mk p.b2.aD [] p.b2.aI []) (ay.mk [] p.b3.aD [] p.b3.aI))else go (DA.mk p.t2 p.t10 p.t11 p.t12 p.t34 p.t35 (ak (p.t36+1)) p.b0 p.b1 (bK.mk p.b2.aD [] p.b2.aI []) (ay.mk [] p.b3.aD [] p.b3.aI))else G else e1
def XJ(p:DA):aa (aa DA):=
 OT p (λs=>V (V s)) (V G)
def Wu:=bI (XJ)
abbrev E20:=bK×Int
def d20:Td 0 E20:= .c [] [6,7] (.r 0 1 (ec 6 (qp 0 0) (ec 7 aP en)) (sb 0 36 (lg 36) sn) (λz=>(z.2.1,z.1.2.1)) (λx=>(((),x.2,()),(x.1,()))))
def m20(a0:aS)(a1:bU)(a2:af aK):aa E20:=
 match m79 a0 a1 a2 with|G=>G|V r3=>bif bif vn (r3=0)then O else J then V ((bK.mk (aK.mk 0 0 0) [] (aK.mk 0 0 0) [],r3))else match Wu (DA.mk a2 0 0 0 a0.ai (zY a0.ai) 0 a0 a1 (bK.mk (aK.mk 0 0 0) [] (aK.mk 0 0 0) []) (ay.mk [] (m80 0) [] (m80 0)))with|G=>G|V r4=>OT r4 (λ_=>G) (match XF (uh.mk r4.t2 r4.t10 r4.t11 r4.t12 r4.b0.ai (zY r4.b0.ai) 0 r4.b0 r4.b1 (bK.mk r4.b2.aD [] r4.b2.aI []) (ay.mk [] r4.b3.aD [] r4.b3.aI))with|G=>G|V r5=>Rh r5 (λ_=>G) (match PM (Ir.mk r5.b0.ax (zY r5.b0.ax) 0 r5.b0 r5.b1 (bK.mk r5.b2.aD [] r5.b2.aI []) (ay.mk r5.b3.ai r5.b3.aD [] r5.b3.aI) (Runner.mk r5.b0 []))with|G=>G|V r6=>Qb r6 (λ_=>G) (match r83 r6.b4 r6.b0.bM (ay.mk r6.b3.ai r6.b3.aD [] r6.b3.aI)with|G=>G|V r9=>bif bif r6.b1.iM then O else J then V ((bK.mk r9.aD r9.aG (m80 0) r9.ai,0))else V (bK.mk r9.aD r9.aG r9.aI r9.ai,0))))
def e20:bu->bu:=eZ vp 20 (lc (qg 26) (lc (qg 29) (lc (ql 34) ln))) d20 (λg=>m20 g.1 g.2.1 g.t.1)
def abP:EO e20:=λh=>kZ (an:=(noTwo (noTwo (noTwo (noTwo (.two (noTwo (aeI.lp Wu .no)) (.two (noTwo (abF.lp XF .no)) (noTwo (.two (noTwo (afP.lp PM .no)) .no))))))))) (l:=[(bk f20 0,(aeI.lp Wu .no)),(bk f20 1,(abF.lp XF .no)),(bk f20 2,(afP.lp PM .no))]) func20 (avH (L0 (UY (MV (atF aV))))) (aA (aO aeI) (aA (aO abF) (aA (aO afP) aH))) h
def afS{F:bu}{f:Nat}(hne:zc f 20=O)(h:bA F f):bA (e20 F) f:=AR hne h
def F93:bu:=dA
abbrev E93:=Int
def d93:Td 0 E93:= .c [] [4] (.r 0 0 (ec 4 aP en) sn (λz=>z.1.1) (λx=>((x,()),(()))))
def aE3:∀f∈([]:af Nat),bA (F93) f:=aH
def m93(a0:Int)(a1:Int):aa E93:=
 match bif vn (0<a1)then if¬a1=0then V (vn (ak ((1099511627776:Int).tdiv a1)<a0))else G else V O with|G=>G|V r1=>bif r1 then V 1099511627776 else V (ak (a0*a1))
def e93:=eL vp 93 O (aU (aU ln)) d93 (λg=>m93 g.1 g.2.1)
def auw:EO e93:=λh=>kL (F:=F93) (an:=(noTwo (.two (.two (.rb [] 12) .no) .no))) (l:=[(.skip,(.rb [] 12))]) func93 aV (aA aE3 aH) h
structure Ih where
 (t10 t13:Int)
 t58:List aK
 (t59 t60:Int)
def abV:Td 0 Ih:= .c [] [10,13,58,59,60] (.r 0 0 (ec 10 aP (ec 13 aP (ec 58 (ql 34) (ec 59 aP (ec 60 aP en))))) sn (λz=>⟨z.1.1,z.1.2.1,z.1.t.1,z.1.t.2.1,z.1.q.1⟩) (λx=>((x.t10,x.t13,x.t58,x.t59,x.t60,()),(()))))
def PT{α:Type}(p:Ih)(go:Ih->aa α)(e1:aa α):aa α:=
 bif vn (p.t60<p.t59)then if 0<=p.t60/\p.t60<zY p.t58 then match XN p.t58[zq p.t60]! with|G=>G|V r6=>match m93 p.t13 r6 with|G=>G|V r7=>go (Ih.mk p.t10 r7 p.t58 p.t59 (ak (p.t60+1)))else G else e1
def YR(p:Ih):aa (aa Ih):=
 PT p (λs=>V (V s)) (V G)
def VC:=bI (YR)
structure uj where
 t2:List aK
 (t10 t11 t32 t33:Int)
 b0:bK
def aeQ:Td 0 uj:= .c [] [2,8,10,11,32,33] (.r 0 1 (ec 2 (ql 34) (ec 8 (qp 0 0) (ec 10 aP (ec 11 aP (ec 32 aP (ec 33 aP en)))))) (sb 0 36 (lg 36) sn) (λz=>⟨z.1.1,z.1.t.1,z.1.t.2.1,z.1.q.1,z.1.q.2.1,z.2.1⟩) (λx=>((x.t2,(),x.t10,x.t11,x.t32,x.t33,()),(x.b0,()))))
def P5{α:Type}(p:uj)(go:uj->aa α)(e1:aa α):aa α:=
 bif vn (p.t33<p.t32)then match m92 p.b0.aD p.t33 with|G=>G|V r1=>bif r1 then bif vn (p.t33<zY p.b0.aG)then if 0<=p.t33/\p.t33<zY p.b0.aG then match XN p.b0.aG[zq p.t33]! with|G=>G|V r2=>match m93 p.t11 r2 with|G=>G|V r3=>go (uj.mk p.t2 (if 1099511627776<ak (p.t10+p.t11)then 1099511627776 else ak (p.t10+p.t11)) r3 p.t32 (ak (p.t33+1)) p.b0)else G else go (uj.mk p.t2 (if 1099511627776<ak (p.t10+p.t11)then 1099511627776 else ak (p.t10+p.t11)) p.t11 p.t32 (ak (p.t33+1)) p.b0)else bif vn (p.t33<zY p.b0.aG)then if 0<=p.t33/\p.t33<zY p.b0.aG then match XN p.b0.aG[zq p.t33]! with|G=>G|V r4=>match m93 p.t11 r4 with|G=>G|V r5=>go (uj.mk p.t2 p.t10 r5 p.t32 (ak (p.t33+1)) p.b0)else G else go (uj.mk p.t2 p.t10 p.t11 p.t32 (ak (p.t33+1)) p.b0)else e1
def XV(p:uj):aa (aa uj):=
 P5 p (λs=>V (V s)) (V G)
def VH:=bI (XV)
abbrev E25:=Int×Int
def d25:Td 0 E25:= .c [] [6,7] (.r 0 0 (ec 6 aP (ec 7 aP en)) sn (λz=>(z.1.1,z.1.2.1)) (λx=>((x.1,x.2,()),(()))))
def A25:=(lc (qg 26) (lc (qg 29) (lc (ql 34) ln)))
def T6(a0:aS)(a1:bU)(a2:af aK):aa E25:=
 match m20 a0 a1 a2 with|G=>G|V r8=>bif bif vn (r8.snd=0)then O else J then V (0,r8.snd)else match XN r8.fst.aI with|G=>G|V r9=>match VH (uj.mk a2 0 r9 (ak ((zY r8.fst.aG:Int)+1)) 0 r8.fst)with|G=>G|V r10=>P5 r10 (λ_=>G) (match VC (Ih.mk r10.t10 1 r10.t2 (zY r10.t2) 0)with|G=>G|V r16=>PT r16 (λ_=>G) (V (if r16.t13<r16.t10 then r16.t13 else r16.t10,0)))
def XZ:=eL vp 25 O A25 d25 (λg=>T6 g.1 g.2.1 g.t.1)
def Tj:EO XZ:=λh=>kL (an:=(noTwo (noTwo (noTwo (noTwo (.two (noTwo (aeQ.lp VH .no)) (noTwo (.two (noTwo (abV.lp VC .no)) .no)))))))) (l:=[(bk f25 0,(aeQ.lp VH .no)),(bk f25 1,(abV.lp VC .no))]) func25 (auw (Ty (UQ (abP aV)))) (aA (aO aeQ) (aA (aO abV) aH)) h
def F26:bu:=(e91 (e20 dA))
structure Gg where
 t12:Bool
 t41:List aK
 (t42 t43:Int)
 (b0 b1:aC)
def afL:Td 0 Gg:= .c [] [6,11,12,41,42,43] (.t (b6.c 1 0 [] 3) (.c [] [6,11,12,41,42,43] (.r 0 3 (ec 6 (qp 0 0) (ec 11 (qp 1 0) (ec 12 qb (ec 41 (ql 34) (ec 42 aP (ec 43 aP en)))))) (sb 0 47 (lc qn (aU ln)) (sb 1 47 (lc (qo 2) (aU ln)) (sr 2 3 sn))) (λz=>⟨z.1.t.1,z.1.t.2.1,z.1.q.1,z.1.q.2.1,(aC.mk [] z.2.1.2.1),(aC.mk z.t.2.1 z.t.1.2.1)⟩) (λx=>(((),(),x.t12,x.t41,x.t42,x.t43,()),(((),x.b0.aI,()),((),x.b1.aI,()),x.b1.aM,()))))))
def O4{α:Type}(p:Gg)(go:Gg->aa α)(e1:aa α):aa α:=
 bif vn (p.t43<p.t42)then if 0<=p.t43/\p.t43<zY p.t41 then match (bif p.t12 then match XN p.t41[zq p.t43]! with|G=>G|V r1=>V (vn (r1=1))else V O)with|G=>G|V r2=>if(p.b1.aM++[p.t41[zq p.t43]!.ah]).length<=1073741824 then go (Gg.mk r2 p.t41 p.t42 (ak (p.t43+1)) (aC.mk [] p.b0.aI) (aC.mk (p.b1.aM++[p.t41[zq p.t43]!.ah]) p.b1.aI))else G else G else e1
def Xm(p:Gg):aa (aa Gg):=
 O4 p (λs=>V (V s)) (V G)
def aqj:An:=(noTwo (noTwo (.two (noTwo (.two (.rb [91] 12) .no)) .no)))
def Yk:=bI (Xm)
abbrev E26:=aC×Bool×Int
def d26:Td 0 E26:= .c [] [6,7,8] (.t (b6.c 0 0 [] 3) (.c [] [6,7,8] (.r 0 2 (ec 6 (qp 0 0) (ec 7 qb (ec 8 aP en))) (sb 0 47 (lc (qo 1) (aU ln)) (sr 1 3 sn)) (λz=>((aC.mk z.t.1 z.2.1.2.1),z.1.2.1,z.1.t.1)) (λx=>(((),x.2.1,x.t,()),(((),x.1.aI,()),x.1.aM,()))))))
def A26:=(lc (qg 26) (lc (qg 29) (lc (ql 34) ln)))
def aCW:∀f∈([91]:af Nat),bA (F26) f:=(aA (Fj (afS (f:=91) rfl bG)) aH)
def m26(a0:aS)(a1:bU)(a2:af aK):aa E26:=
 match m20 a0 a1 a2 with|G=>G|V r3=>bif bif vn (r3.snd=0)then O else J then V ((aC.mk [] (0),O,r3.snd))else match (match XN r3.fst.aD with|G=>G|V r4=>bif vn (r4=1)then match XN r3.fst.aI with|G=>G|V r5=>V (vn (r5=1))else V O)with|G=>G|V r6=>match Yk (Gg.mk r6 r3.fst.aG (zY r3.fst.aG) 0 (aC.mk [] (0)) (aC.mk [] r3.fst.aI.ah))with|G=>G|V r7=>O4 r7 (λ_=>G) (bif bif r7.t12 then O else J then V ((aC.mk [] (0),O,0))else V (r7.b1,J,0))
def Yb:=eL vp 26 O A26 d26 (λg=>m26 g.1 g.2.1 g.t.1)
def UF:EO Yb:=λh=>kL (F:=F26) (an:=(noTwo (noTwo (noTwo (noTwo (.two (.rb [91] 12) (.two (noTwo (afL.lp Yk aqj)) .no))))))) (l:=[(.skip,(.rb [91] 12)),(bk f26 0,(afL.lp Yk aqj)),(.skip,(.rb [91] 12))]) func26 (UQ (abP aV)) (aA aCW (aA (aO afL) (aA aCW aH))) h
def F21:bu:=(e84 (e78 (e43 dA)))
structure HN where
 t2:List aK
 t95:List bh
 (t96 t97:Int)
def ab4:Td 0 HN:= .c [] [2,95,96,97] (.r 0 1 (ec 2 (ql 34) (ec 95 (qo 0) (ec 96 aP (ec 97 aP en)))) (sr 0 131 sn) (λz=>⟨z.1.1,z.2.1,z.1.t.1,z.1.t.2.1⟩) (λx=>((x.t2,(),x.t96,x.t97,()),(x.t95,()))))
def N9{α:Type}(p:HN)(go:HN->aa α)(e1 e2 e3:aa α):aa α:=
 bif vn (p.t97<p.t96)then if 0<=p.t97/\p.t97<zY p.t95 then if 131=131/\zq p.t97<zY p.t95 then match (if 0<=p.t97/\p.t97<zY p.t2 then match m84 p.t2[zq p.t97]! with|G=>G|V r4=>bif bif r4 then O else J then V J else if 0<=p.t97/\p.t97<zY p.t2 then match DZ p.t2[zq p.t97]! with|G=>G|V r5=>V (vn (r5=0))else G else G)with|G=>G|V r6=>bif r6 then e1 else if 0<=p.t97/\p.t97<zY p.t2 then bif vn (p.t2[zq p.t97]!.ah<p.t95[zq p.t97]!.ah)then e2 else if 0<=p.t97/\p.t97<zY p.t2 then bif vn (p.t95[zq p.t97]!.ag<p.t2[zq p.t97]!.ag)then e2 else go (HN.mk p.t2 p.t95 p.t96 (ak (p.t97+1)))else G else G else G else G else e3
def N5(p:HN):aa (aa HN):=
 N9 p (λs=>V (V s)) (V G) (V G) (V G)
def aqT:An:=(noTwo (noTwo (.two (noTwo (.two (.two (.rb [43,84] 115) .no) .no)) .no)))
def Wa:=bI (N5)
structure FK where
 t2:List aK
 (t9 t64:List bh)
 (t65 t66:Int)
 b0:bU
def abE:Td 0 FK:= .c [] [2,4,9,64,65,66] (.r 0 3 (ec 2 (ql 34) (ec 4 (qp 0 0) (ec 9 (qo 1) (ec 64 (qo 2) (ec 65 aP (ec 66 aP en)))))) (sb 0 29 (lg 29) (sr 1 131 (sr 2 131 sn))) (λz=>⟨z.1.1,z.t.1,z.t.2.1,z.1.q.1,z.1.q.2.1,z.2.1⟩) (λx=>((x.t2,(),(),(),x.t65,x.t66,()),(x.b0,x.t9,x.t64,()))))
def P7{α:Type}(p:FK)(go:FK->aa α)(e1 e2:aa α):aa α:=
 bif vn (p.t66<p.t65)then if 0<=p.t66/\p.t66<zY p.t64 then if 131=131/\zq p.t66<zY p.t64 then if 0<=p.t66/\p.t66<zY p.b0.bz then bif vn (((p.t2,(),(),(),p.t65,p.t66,()),p.b0,p.t9,p.t64,()).snd.fst.bz[((p.t2,(),(),(),p.t65,p.t66,()),p.b0,p.t9,p.t64,()).fst.snd.snd.snd.snd.snd.fst.toNat]! <((p.t2,(),(),(),p.t65,p.t66,()),p.b0,p.t9,p.t64,()).snd.snd.snd.fst[((p.t2,(),(),(),p.t65,p.t66,()),p.b0,p.t9,p.t64,()).fst.snd.snd.snd.snd.snd.fst.toNat]!.ah)then e1 else if 0<=p.t66/\p.t66<zY p.b0.bz then bif vn (((p.t2,(),(),(),p.t65,p.t66,()),p.b0,p.t9,p.t64,()).snd.snd.snd.fst[((p.t2,(),(),(),p.t65,p.t66,()),p.b0,p.t9,p.t64,()).fst.snd.snd.snd.snd.snd.fst.toNat]!.ag<((p.t2,(),(),(),p.t65,p.t66,()),p.b0,p.t9,p.t64,()).snd.fst.bz[((p.t2,(),(),(),p.t65,p.t66,()),p.b0,p.t9,p.t64,()).fst.snd.snd.snd.snd.snd.fst.toNat]!)then e1 else go (FK.mk p.t2 p.t9 p.t64 p.t65 (ak (p.t66+1)) p.b0)else G else G else G else G else e2
def QF(p:FK):aa (aa FK):=
 P7 p (λs=>V (V s)) (V G) (V G)
def YP:=bI (QF)
structure BA where
 t2:List aK
 (t8 t9:List bh)
 t11:Int
 t23:List Int
 (t24 t25:Int)
 t30:List bh
 (t31 t32:Int)
 b0:aS
 b1:bU
def abf:Td 0 BA:= .c [] [2,3,4,8,9,11,23,24,25,30,31,32] (.r 0 5 (ec 2 (ql 34) (ec 3 (qp 0 0) (ec 4 (qp 1 0) (ec 8 (qo 2) (ec 9 (qo 3) (ec 11 aP (ec 23 (qo 4) (ec 24 aP (ec 25 aP (ec 30 (ql 131) (ec 31 aP (ec 32 aP en)))))))))))) (sb 0 26 (lg 26) (sb 1 29 (lg 29) (sr 2 131 (sr 3 131 (sr 4 129 sn))))) (λz=>⟨z.1.1,z.t.2.1,z.q.1,z.1.q.2.1,z.q.2.1,z.1.q.t.2.1,z.1.q.q.1,z.1.q.q.2.1,z.1.q.q.t.1,z.1.q.q.t.2.1,z.2.1,z.t.1⟩) (λx=>((x.t2,(),(),(),(),x.t11,(),x.t24,x.t25,x.t30,x.t31,x.t32,()),(x.b0,x.b1,x.t8,x.t9,x.t23,()))))
def AL{α:Type}(p:BA)(go:BA->aa α)(e1:aa α):aa α:=
 bif vn (p.t32<p.t31)then if 0<=p.t32/\p.t32<zY p.t30 then match (bif vn (p.t30[zq p.t32]!.bS=p.t11)then V (vn (p.t11=2))else V O)with|G=>G|V r3=>bif r3 then if(p.t8++[p.t30[zq p.t32]!]).length<=1073741824 then go (BA.mk p.t2 (p.t8++[p.t30[zq p.t32]!]) p.t9 p.t11 p.t23 p.t24 p.t25 p.t30 p.t31 (ak (p.t32+1)) p.b0 p.b1)else G else bif vn (p.t30[zq p.t32]!.bS=p.t11)then if(p.t9++[p.t30[zq p.t32]!]).length<=1073741824 then go (BA.mk p.t2 p.t8 (p.t9++[p.t30[zq p.t32]!]) p.t11 p.t23 p.t24 p.t25 p.t30 p.t31 (ak (p.t32+1)) p.b0 p.b1)else G else go (BA.mk p.t2 p.t8 p.t9 p.t11 p.t23 p.t24 p.t25 p.t30 p.t31 (ak (p.t32+1)) p.b0 p.b1)else G else e1
def X0(p:BA):aa (aa BA):=
 AL p (λs=>V (V s)) (V G)
def apo:An:=(noTwo (noTwo (.two (noTwo (.two (.rb [43,84] 43) .no)) .no)))
def YW:=bI (X0)
structure IB where
 t2:List aK
 (t8 t9:List bh)
 t23:List Int
 (t24 t25:Int)
 b0:aS
 b1:bU
def acS:Td 0 IB:= .c [] [2,3,4,8,9,23,24,25] (.t (b6.s 8 [] 131) (.t (b6.s 9 [] 131) (.c [] [2,3,4,8,9,23,24,25] (.r 0 5 (ec 2 (ql 34) (ec 3 (qp 0 0) (ec 4 (qp 1 0) (ec 8 (qo 2) (ec 9 (qo 3) (ec 23 (qo 4) (ec 24 aP (ec 25 aP en)))))))) (sb 0 26 (lg 26) (sb 1 29 (lg 29) (sr 2 131 (sr 3 131 (sr 4 129 sn))))) (λz=>⟨z.1.1,z.t.2.1,z.q.1,z.q.2.1,z.1.q.t.1,z.1.q.t.2.1,z.2.1,z.t.1⟩) (λx=>((x.t2,(),(),(),(),(),x.t24,x.t25,()),(x.b0,x.b1,x.t8,x.t9,x.t23,())))))))
def GA{α:Type}(p:IB)(go:IB->aa α)(e1:aa α):aa α:=
 bif vn (p.t25<p.t24)then if 0<=p.t25/\p.t25<zY p.t23 then if 129=129/\zq p.t25<zY p.t23 then match YW (BA.mk p.t2 p.t8 p.t9 p.t23[zq p.t25]! p.t23 p.t24 p.t25 p.b0.ai (zY p.b0.ai) 0 p.b0 p.b1)with|G=>G|V r1=>AL r1 (λ_=>G) (go (IB.mk r1.t2 r1.t8 r1.t9 r1.t23 r1.t24 (ak (r1.t25+1)) r1.b0 r1.b1))else G else G else e1
def OJ(p:IB):aa (aa IB):=
 GA p (λs=>V (V s)) (V G)
def aqQ:An:=(noTwo (noTwo (.two (noTwo (noTwo (abf.lp YW apo))) .no)))
def Oc:=bI (OJ)
abbrev E21:=Int
def d21:Td 0 E21:= .c [] [6] (.r 0 0 (ec 6 aP en) sn (λz=>z.1.1) (λx=>((x,()),(()))))
def aCS:∀f∈([43,84]:af Nat),bA (F21) f:=(aA (iR (Bp (mR bG))) (aA (iR (Bp (mR bG))) aH))
def m21(a0:aS)(a1:bU)(a2:af aK):aa E21:=
 match m78 a0 with|G=>G|V r7=>bif bif vn (r7=0)then O else J then V (r7)else match Oc (IB.mk a2 [] [] [1,3,2] (3:Int) 0 a0 a1)with|G=>G|V r8=>GA r8 (λ_=>G) (bif bif vn ((zY r8.b1.bz:Int)=(zY r8.t8:Int))then O else J then V 1 else match YP (FK.mk r8.t2 r8.t9 r8.t8 (zY r8.t8) 0 r8.b1)with|G=>G|V r11=>P7 r11 (λ_=>G) (V 3) (bif bif vn ((zY r11.t2:Int)=(zY r11.t9:Int))then O else J then V 2 else match Wa (HN.mk r11.t2 r11.t9 (zY r11.t9) 0)with|G=>G|V r12=>N9 r12 (λ_=>G) (V 1) (V 3) (V 0)))
def e21:=eL vp 21 O (lc (qg 26) (lc (qg 29) (lc (ql 34) ln))) d21 (λg=>m21 g.1 g.2.1 g.t.1)
def asC:EO e21:=λh=>kL (F:=F21) (an:=(noTwo (noTwo (noTwo (.two (noTwo (acS.lp Oc aqQ)) (noTwo (.two (noTwo (abE.lp YP .no)) (noTwo (.two (noTwo (ab4.lp Wa aqT)) .no))))))))) (l:=[(bk f21 0,(acS.lp Oc aqQ)),(bk f21 1,(abf.lp YW apo)),(.skip,(.rb [43,84] 43)),(bk f21 2,(abE.lp YP .no)),(bk f21 3,(ab4.lp Wa aqT)),(.skip,(.rb [43,84] 115))]) func21 (u9 (ael (pU aV))) (aA (aO acS) (aA (aO abf) (aA aCS (aA (aO abE) (aA (aO ab4) (aA aCS aH)))))) h
structure uk where
 t2:List aK
 (t11 t12 t13:Int)
 t33:List bh
 (t34 t35:Int)
 b0:bU
 (b1 b2:aJ)
def afM:Td 0 uk:= .c [] [2,4,6,7,11,12,13,33,34,35] (.t (b6.c 2 0 [] 34) (.c [] [2,4,6,7,11,12,13,33,34,35] (.r 0 4 (ec 2 (ql 34) (ec 4 (qp 0 0) (ec 6 (qp 1 0) (ec 7 (qp 2 0) (ec 11 aP (ec 12 aP (ec 13 aP (ec 33 (ql 131) (ec 34 aP (ec 35 aP en)))))))))) (sb 0 29 (lg 29) (sb 1 147 (lc qn (aU (aU (aU (lc qn (aU (aU (aU ln)))))))) (sb 2 147 (lc (qo 3) (aU (aU (aU (lc qn (aU (aU (aU ln)))))))) (sr 3 34 sn)))) (λz=>⟨z.1.1,z.1.q.1,z.1.q.2.1,z.1.q.t.1,z.1.q.t.2.1,z.1.q.q.1,z.1.q.q.2.1,z.2.1,(aJ.mk [] (aK.mk z.t.1.2.1 z.t.1.t.1 z.t.1.t.2.1) [] (aK.mk z.t.1.q.2.1 z.t.1.q.t.1 z.t.1.q.t.2.1)),(aJ.mk z.q.1 (aK.mk z.t.2.1.2.1 z.t.2.1.t.1 z.t.2.1.t.2.1) [] (aK.mk z.t.2.1.q.2.1 z.t.2.1.q.t.1 z.t.2.1.q.t.2.1))⟩) (λx=>((x.t2,(),(),(),x.t11,x.t12,x.t13,x.t33,x.t34,x.t35,()),(x.b0,((),x.b1.aD.ah,x.b1.aD.ag,x.b1.aD.aj,(),x.b1.aI.ah,x.b1.aI.ag,x.b1.aI.aj,()),((),x.b2.aD.ah,x.b2.aD.ag,x.b2.aD.aj,(),x.b2.aI.ah,x.b2.aI.ag,x.b2.aI.aj,()),x.b2.ai,()))))))
def PK{α:Type}(p:uk)(go:uk->aa α)(e1:aa α):aa α:=
 bif vn (p.t35<p.t34)then if 0<=p.t35/\p.t35<zY p.t33 then bif vn (p.t33[zq p.t35]!.bS=1)then if 0<=p.t11/\p.t11<zY p.t2 then if(p.b2.ai++[p.t2[zq p.t11]!]).length<=1073741824 then go (uk.mk p.t2 (ak (p.t11+1)) p.t12 p.t13 p.t33 p.t34 (ak (p.t35+1)) p.b0 (aJ.mk [] p.b1.aD [] p.b1.aI) (aJ.mk (p.b2.ai++[p.t2[zq p.t11]!]) p.b2.aD [] p.b2.aI))else G else G else bif vn (p.t33[zq p.t35]!.bS=3)then if 0<=p.t12/\p.t12<zY p.t2 then if(p.b2.ai++[p.t2[zq p.t12]!]).length<=1073741824 then go (uk.mk p.t2 p.t11 (ak (p.t12+1)) p.t13 p.t33 p.t34 (ak (p.t35+1)) p.b0 (aJ.mk [] p.b1.aD [] p.b1.aI) (aJ.mk (p.b2.ai++[p.t2[zq p.t12]!]) p.b2.aD [] p.b2.aI))else G else G else bif vn (p.t33[zq p.t35]!.bS=2)then if 0<=p.t13/\p.t13<zY p.b0.bz then if(p.b2.ai++[m36 p.b0.bz[zq p.t13]!]).length<=1073741824 then go (uk.mk p.t2 p.t11 p.t12 (ak (p.t13+1)) p.t33 p.t34 (ak (p.t35+1)) p.b0 (aJ.mk [] p.b1.aD [] p.b1.aI) (aJ.mk (p.b2.ai++[m36 p.b0.bz[zq p.t13]!]) p.b2.aD [] p.b2.aI))else G else G else if(p.b2.ai++[m36 p.t33[zq p.t35]!.gD]).length<=1073741824 then go (uk.mk p.t2 p.t11 p.t12 p.t13 p.t33 p.t34 (ak (p.t35+1)) p.b0 (aJ.mk [] p.b1.aD [] p.b1.aI) (aJ.mk (p.b2.ai++[m36 p.t33[zq p.t35]!.gD]) p.b2.aD [] p.b2.aI))else G else G else e1
def Yt(p:uk):aa (aa uk):=
 PK p (λs=>V (V s)) (V G)
def YN:=bI (Yt)
structure Dr where
 t2:List aK
 t8:Int
 t19:List bh
 (t20 t21:Int)
 b0:aS
 b1:bU
 (b2 b3:aJ)
def adl:Td 0 Dr:= .c [] [2,3,4,6,7,8,19,20,21] (.r 0 4 (ec 2 (ql 34) (ec 3 (qp 0 0) (ec 4 (qp 1 0) (ec 6 (qp 2 0) (ec 7 (qp 3 0) (ec 8 aP (ec 19 (ql 131) (ec 20 aP (ec 21 aP en))))))))) (sb 0 26 (lg 26) (sb 1 29 (lg 29) (sb 2 147 (lc qn (aU (aU (aU (lc qn (aU (aU (aU ln)))))))) (sb 3 147 (lc qn (aU (aU (aU (lc qn (aU (aU (aU ln)))))))) sn)))) (λz=>⟨z.1.1,z.1.q.2.1,z.1.q.t.1,z.1.q.t.2.1,z.1.q.q.1,z.2.1,z.t.1,(aJ.mk [] (aK.mk z.t.2.1.2.1 z.t.2.1.t.1 z.t.2.1.t.2.1) [] (aK.mk z.t.2.1.q.2.1 z.t.2.1.q.t.1 z.t.2.1.q.t.2.1)),(aJ.mk [] (aK.mk z.q.1.2.1 z.q.1.t.1 z.q.1.t.2.1) [] (aK.mk z.q.1.q.2.1 z.q.1.q.t.1 z.q.1.q.t.2.1))⟩) (λx=>((x.t2,(),(),(),(),x.t8,x.t19,x.t20,x.t21,()),(x.b0,x.b1,((),x.b2.aD.ah,x.b2.aD.ag,x.b2.aD.aj,(),x.b2.aI.ah,x.b2.aI.ag,x.b2.aI.aj,()),((),x.b3.aD.ah,x.b3.aD.ag,x.b3.aD.aj,(),x.b3.aI.ah,x.b3.aI.ag,x.b3.aI.aj,()),()))))
def PJ{α:Type}(p:Dr)(go:Dr->aa α)(e1:aa α):aa α:=
 bif vn (p.t21<p.t20)then if 0<=p.t21/\p.t21<zY p.t19 then bif vn (p.t19[zq p.t21]!.bS=1)then go (Dr.mk p.t2 (ak (p.t8+1)) p.t19 p.t20 (ak (p.t21+1)) p.b0 p.b1 (aJ.mk [] p.b2.aD [] p.b2.aI) (aJ.mk [] p.b3.aD [] p.b3.aI))else go (Dr.mk p.t2 p.t8 p.t19 p.t20 (ak (p.t21+1)) p.b0 p.b1 (aJ.mk [] p.b2.aD [] p.b2.aI) (aJ.mk [] p.b3.aD [] p.b3.aI))else G else e1
def Xb(p:Dr):aa (aa Dr):=
 PJ p (λs=>V (V s)) (V G)
def VD:=bI (Xb)
abbrev E85:=aJ
def d85:Td 0 E85:= .c [] [6] (.r 0 2 (ec 6 (qp 0 0) en) (sb 0 147 (lc (qo 1) (aU (aU (aU (lc qn (aU (aU (aU ln)))))))) (sr 1 34 sn)) (λz=>(aJ.mk z.t.1 (aK.mk z.2.1.2.1 z.2.1.t.1 z.2.1.t.2.1) [] (aK.mk z.2.1.q.2.1 z.2.1.q.t.1 z.2.1.q.t.2.1))) (λx=>(((),()),(((),x.aD.ah,x.aD.ag,x.aD.aj,(),x.aI.ah,x.aI.ag,x.aI.aj,()),x.ai,()))))
def m85(a0:aS)(a1:bU)(a2:af aK):aa E85:=
 match VD (Dr.mk a2 0 a0.ai (zY a0.ai) 0 a0 a1 (aJ.mk [] (aK.mk 0 0 0) [] (aK.mk 0 0 0)) (aJ.mk [] (aK.mk 0 0 0) [] (aK.mk 0 0 0)))with|G=>G|V r1=>PJ r1 (λ_=>G) (match YN (uk.mk r1.t2 0 r1.t8 0 r1.b0.ai (zY r1.b0.ai) 0 r1.b1 (aJ.mk [] r1.b2.aD [] r1.b2.aI) (aJ.mk [] r1.b3.aD [] r1.b3.aI))with|G=>G|V r2=>PK r2 (λ_=>G) (V (aJ.mk r2.b2.ai r2.b2.aD [] r2.b2.aI)))
def e85:=eL vp 85 O (lc (qg 26) (lc (qg 29) (lc (ql 34) ln))) d85 (λg=>m85 g.1 g.2.1 g.t.1)
def auc:EO e85:=λh=>kL (an:=(noTwo (noTwo (noTwo (.two (noTwo (adl.lp VD .no)) (noTwo (.two (noTwo (afM.lp YN .no)) .no))))))) (l:=[(bk f85 0,(adl.lp VD .no)),(bk f85 1,(afM.lp YN .no))]) func85 (LP aV) (aA (aO adl) (aA (aO afM) aH)) h
structure Gc where
 t8:List aK
 t18:List dN
 (t19 t20:Int)
 b0:aS
 b1:bU
 b2:bK
 b3:aJ
def af4:Td 0 Gc:= .c [] [3,4,6,7,8,18,19,20] (.t (b6.s 8 [] 34) (.c [] [3,4,6,7,8,18,19,20] (.r 0 6 (ec 3 (qp 0 0) (ec 4 (qp 1 0) (ec 6 (qp 2 0) (ec 7 (qp 3 0) (ec 8 (qo 4) (ec 18 (ql 139) (ec 19 aP (ec 20 aP en)))))))) (sb 0 26 (lg 26) (sb 1 29 (lg 29) (sb 2 36 (aU (aU (aU (lc qn (aU (aU (aU (lc qn ln)))))))) (sb 3 147 (lc (qo 5) (aU (aU (aU (lc qn (aU (aU (aU ln)))))))) (sr 4 34 (sr 5 34 sn)))))) (λz=>⟨z.q.2.1,z.1.q.2.1,z.1.q.t.1,z.1.q.t.2.1,z.2.1,z.t.1,(bK.mk (aK.mk z.t.2.1.1 z.t.2.1.2.1 z.t.2.1.t.1) [] (aK.mk z.t.2.1.q.1 z.t.2.1.q.2.1 z.t.2.1.q.t.1) []),(aJ.mk z.q.t.1 (aK.mk z.q.1.2.1 z.q.1.t.1 z.q.1.t.2.1) [] (aK.mk z.q.1.q.2.1 z.q.1.q.t.1 z.q.1.q.t.2.1))⟩) (λx=>(((),(),(),(),(),x.t18,x.t19,x.t20,()),(x.b0,x.b1,(x.b2.aD.ah,x.b2.aD.ag,x.b2.aD.aj,(),x.b2.aI.ah,x.b2.aI.ag,x.b2.aI.aj,(),()),((),x.b3.aD.ah,x.b3.aD.ag,x.b3.aD.aj,(),x.b3.aI.ah,x.b3.aI.ag,x.b3.aI.aj,()),x.t8,x.b3.ai,()))))))
def QB{α:Type}(p:Gc)(go:Gc->aa α)(e1:aa α):aa α:=
 bif vn (p.t20<p.t19)then if 0<=p.t20/\p.t20<zY p.t18 then match RJ (aJ.mk p.b3.ai p.b3.aD [] p.b3.aI) (az.mk p.t18[zq p.t20]!.aF.bF p.t18[zq p.t20]!.aF.fN p.t18[zq p.t20]!.aF.aq)with|G=>G|V r1=>match m86 r1 p.t18[zq p.t20]!.ah p.t18[zq p.t20]!.ag with|G=>G|V r2=>if(p.t8++[r2.fst]).length<=1073741824 then go (Gc.mk (p.t8++[r2.fst]) p.t18 p.t19 (ak (p.t20+1)) p.b0 p.b1 (bK.mk p.b2.aD [] p.b2.aI []) (aJ.mk p.b3.ai p.b3.aD [] p.b3.aI))else G else G else e1
def Wj(p:Gc):aa (aa Gc):=
 QB p (λs=>V (V s)) (V G)
def OC:=bI (Wj)
abbrev E23:=bK
def d23:Td 0 E23:= .c [] [6] (.r 0 1 (ec 6 (qp 0 0) en) (sb 0 36 (lg 36) sn) (λz=>z.2.1) (λx=>(((),()),(x,()))))
def m23(a0:aS)(a1:bU)(a2:af aK):aa E23:=
 match m85 a0 a1 a2 with|G=>G|V r3=>match OC (Gc.mk [] a0.ax (zY a0.ax) 0 a0 a1 (bK.mk (aK.mk 0 0 0) [] (aK.mk 0 0 0) []) (aJ.mk r3.ai r3.aD [] r3.aI))with|G=>G|V r4=>QB r4 (λ_=>G) (match r88 r4.b0 r4.t8 r4.b0.bM (aJ.mk r4.b3.ai r4.b3.aD [] r4.b3.aI)with|G=>G|V r7=>bif bif r4.b1.iM then O else J then V (bK.mk r7.aD r7.aG (m36 0) r7.ai)else V (bK.mk r7.aD r7.aG r7.aI r7.ai))
def e23:bu->bu:=eZ vp 23 (lc (qg 26) (lc (qg 29) (lc (ql 34) ln))) d23 (λg=>m23 g.1 g.2.1 g.t.1)
def acy:EO e23:=λh=>kZ (an:=(noTwo (noTwo (noTwo (.two (noTwo (af4.lp OC .no)) .no))))) (l:=[(bk f23 0,(af4.lp OC .no))]) func23 (asJ (Uw (TU (auc (LP aV))))) (aA (aO af4) aH) h
def abe{F:bu}{f:Nat}(hne:zc f 23=O)(h:bA F f):bA (e23 F) f:=AR hne h
def F37:bu:=(e43 (e23 dA))
structure Gl where
 t10:Bool
 t32:List aK
 (t33 t34:Int)
 (b0 b1:aC)
def acB:Td 0 Gl:= .c [] [6,9,10,32,33,34] (.t (b6.c 1 0 [] 3) (.c [] [6,9,10,32,33,34] (.r 0 3 (ec 6 (qp 0 0) (ec 9 (qp 1 0) (ec 10 qb (ec 32 (ql 34) (ec 33 aP (ec 34 aP en)))))) (sb 0 47 (lc qn (aU ln)) (sb 1 47 (lc (qo 2) (aU ln)) (sr 2 3 sn))) (λz=>⟨z.1.t.1,z.1.t.2.1,z.1.q.1,z.1.q.2.1,(aC.mk [] z.2.1.2.1),(aC.mk z.t.2.1 z.t.1.2.1)⟩) (λx=>(((),(),x.t10,x.t32,x.t33,x.t34,()),(((),x.b0.aI,()),((),x.b1.aI,()),x.b1.aM,()))))))
def Qz{α:Type}(p:Gl)(go:Gl->aa α)(e1:aa α):aa α:=
 bif vn (p.t34<p.t33)then if 0<=p.t34/\p.t34<zY p.t32 then match (bif p.t10 then match DZ p.t32[zq p.t34]! with|G=>G|V r1=>V (vn (r1=1))else V O)with|G=>G|V r2=>if(p.b1.aM++[p.t32[zq p.t34]!.ah]).length<=1073741824 then go (Gl.mk r2 p.t32 p.t33 (ak (p.t34+1)) (aC.mk [] p.b0.aI) (aC.mk (p.b1.aM++[p.t32[zq p.t34]!.ah]) p.b1.aI))else G else G else e1
def Wr(p:Gl):aa (aa Gl):=
 Qz p (λs=>V (V s)) (V G)
def aoG:An:=(noTwo (noTwo (.two (noTwo (.two (.rb [43] 10) .no)) .no)))
def X5:=bI (Wr)
abbrev E37:=aC×Bool
def d37:Td 0 E37:= .c [] [6,7] (.t (b6.c 0 0 [] 3) (.c [] [6,7] (.r 0 2 (ec 6 (qp 0 0) (ec 7 qb en)) (sb 0 47 (lc (qo 1) (aU ln)) (sr 1 3 sn)) (λz=>((aC.mk z.t.1 z.2.1.2.1),z.1.2.1)) (λx=>(((),x.2,()),(((),x.1.aI,()),x.1.aM,()))))))
def axl:∀f∈([43]:af Nat),bA (F37) f:=(aA (mR (abe (f:=43) rfl bG)) aH)
def m37(a0:aS)(a1:bU)(a2:af aK):aa E37:=
 match m23 a0 a1 a2 with|G=>G|V r3=>match (match DZ r3.aD with|G=>G|V r4=>bif vn (r4=1)then match DZ r3.aI with|G=>G|V r5=>V (vn (r5=1))else V O)with|G=>G|V r6=>match X5 (Gl.mk r6 r3.aG (zY r3.aG) 0 (aC.mk [] (0)) (aC.mk [] r3.aI.ah))with|G=>G|V r7=>Qz r7 (λ_=>G) (bif bif r7.t10 then O else J then V ((aC.mk [] (0),O))else V (r7.b1,J))
def e37:=eL vp 37 O (lc (qg 26) (lc (qg 29) (lc (ql 34) ln))) d37 (λg=>m37 g.1 g.2.1 g.t.1)
def avM:EO e37:=λh=>kL (F:=F37) (an:=(noTwo (noTwo (noTwo (.two (.rb [43] 10) (.two (noTwo (acB.lp X5 aoG)) .no)))))) (l:=[(.skip,(.rb [43] 10)),(bk f37 0,(acB.lp X5 aoG)),(.skip,(.rb [43] 10))]) func37 (pU (acy aV)) (aA axl (aA (aO acB) (aA axl aH))) h
structure vR where
 t3:Int
 t6:List aK
 (t7 t8:Int)
def U7:Td 0 vR:= .c [] [3,6,7,8] (.r 0 0 (ec 3 aP (ec 6 (ql 34) (ec 7 aP (ec 8 aP en)))) sn (λz=>⟨z.1.1,z.1.2.1,z.1.t.1,z.1.t.2.1⟩) (λx=>((x.t3,x.t6,x.t7,x.t8,()),(()))))
def Ho{α:Type}(p:vR)(go:vR->aa α)(e1:aa α):aa α:=
 bif vn (p.t8<p.t7)then if 0<=p.t8/\p.t8<zY p.t6 then match DZ p.t6[zq p.t8]! with|G=>G|V r1=>go (vR.mk (ak (p.t3*r1)) p.t6 p.t7 (ak (p.t8+1)))else G else e1
def LU(p:vR):aa (aa vR):=
 Ho p (λs=>V (V s)) (V G)
def MD:=bI (LU)
abbrev aDI:=Int
def d100:Td 0 aDI:= .c [] [2] (.r 0 0 (ec 2 aP en) sn (λz=>z.1.1) (λx=>((x,()),(()))))
def aij(a0:af aK):aa aDI:=
 match MD (vR.mk 1 a0 (zY a0) 0)with|G=>G|V r2=>Ho r2 (λ_=>G) (V (r2.t3))
def aFg:=eL vp 100 O (lc (ql 34) ln) d100 (λg=>aij g.1)
def al8:EO aFg:=λh=>kL (an:=(noTwo (noTwo (.two (noTwo (U7.lp MD .no)) .no)))) (l:=[(bk f100 0,(U7.lp MD .no))]) func100 (pU aV) (aA (aO U7) aH) h
structure uf where
 (t8 t9 t10 t11:Int)
 b0:bK
def adQ:Td 0 uf:= .c [] [7,8,9,10,11] (.r 0 1 (ec 7 (qp 0 0) (ec 8 aP (ec 9 aP (ec 10 aP (ec 11 aP en))))) (sb 0 36 (lg 36) sn) (λz=>⟨z.1.2.1,z.1.t.1,z.1.t.2.1,z.1.q.1,z.2.1⟩) (λx=>(((),x.t8,x.t9,x.t10,x.t11,()),(x.b0,()))))
def Rx{α:Type}(p:uf)(go:uf->aa α)(e1:aa α):aa α:=
 bif vn (p.t11<=zY p.b0.aG)then match m32 p.b0.aD p.t11 with|G=>G|V r1=>bif r1 then bif vn (p.t11<zY p.b0.aG)then if 0<=p.t11/\p.t11<zY p.b0.aG then match DZ p.b0.aG[zq p.t11]! with|G=>G|V r2=>go (uf.mk p.t8 (if p.t8<ak (p.t9+p.t10)then p.t8 else ak (p.t9+p.t10)) (if p.t8<ak (p.t10*if p.t8<r2 then p.t8 else r2)then p.t8 else ak (p.t10*if p.t8<r2 then p.t8 else r2)) (ak (p.t11+1)) p.b0)else G else go (uf.mk p.t8 (if p.t8<ak (p.t9+p.t10)then p.t8 else ak (p.t9+p.t10)) p.t10 (ak (p.t11+1)) p.b0)else bif vn (p.t11<zY p.b0.aG)then if 0<=p.t11/\p.t11<zY p.b0.aG then match DZ p.b0.aG[zq p.t11]! with|G=>G|V r3=>go (uf.mk p.t8 p.t9 (if p.t8<ak (p.t10*if p.t8<r3 then p.t8 else r3)then p.t8 else ak (p.t10*if p.t8<r3 then p.t8 else r3)) (ak (p.t11+1)) p.b0)else G else go (uf.mk p.t8 p.t9 p.t10 (ak (p.t11+1)) p.b0)else e1
def WU(p:uf):aa (aa uf):=
 Rx p (λs=>V (V s)) (V G)
def VQ:=bI (WU)
abbrev E38:=Int
def d38:Td 0 E38:= .c [] [6] (.r 0 0 (ec 6 aP en) sn (λz=>z.1.1) (λx=>((x,()),(()))))
def m38(a0:aS)(a1:bU)(a2:af aK):aa E38:=
 match m23 a0 a1 a2 with|G=>G|V r4=>match aij a2 with|G=>G|V r5=>match DZ r4.aI with|G=>G|V r6=>match VQ (uf.mk (if 1099511627776<r5 then 1099511627776 else r5) (0) (if(if 1099511627776<r5 then 1099511627776 else r5)<r6 then if 1099511627776<r5 then 1099511627776 else r5 else r6) (0) r4)with|G=>G|V r7=>Rx r7 (λ_=>G) (V (r7.t9))
def e38:=eL vp 38 O (lc (qg 26) (lc (qg 29) (lc (ql 34) ln))) d38 (λg=>m38 g.1 g.2.1 g.t.1)
def aq9:EO e38:=λh=>kL (an:=(noTwo (noTwo (noTwo (noTwo (noTwo (.two (noTwo (adQ.lp VQ .no)) .no))))))) (l:=[(bk f38 0,(adQ.lp VQ .no))]) func38 (al8 (pU (Iy (acy aV)))) (aA (aO adQ) aH) h
def ZJ(a:aK):Int:=open Classical in if NV a then bY a else 0
def VM(a:aK):XN a=V (ZJ a):=by
 unfold ZJ;by_cases h:NV a
 ·rw[bC h,qC h]
 ·rw[bL h,anB h]
def VX(a:aK):DZ a=V (ZJ a):=by
 unfold ZJ;by_cases h:NV a
 ·rw[bC h,ew h]
 ·rw[bL h,aht h]
def jI(pub:af Int)(i:Nat)(x:bh):Int:=bif vn (pub[i]! <x.ah)then 3 else bif vn (x.ag<pub[i]!)then 3 else 0
def o8(box:af aK)(i:Nat)(x:bh):Int:=bif bif Y4 box[i]! then O else J then 1 else bif vn (@Eq Int (ZJ box[i]!) 0)then 1 else bif vn (box[i]!.ah<x.ah)then 3 else bif vn (x.ag<box[i]!.ag)then 3 else 0
def eo(vars:af bh):af bh:=vars.filter (kd 1)++vars.filter (kd 3)
def BM(f:aS)(v:bU)(box:af aK):Int:=
 if rH f≠0 then rH f else if zY v.bz≠(f.ai.filter (kd 2)).length then 1 else if cu (jI v.bz) (f.ai.filter (kd 2)) 0≠0 then cu (jI v.bz) (f.ai.filter (kd 2)) 0
 else if zY box≠(eo f.ai).length then 2 else cu (o8 box) (eo f.ai) 0
def BU{vars:af bh}{i:Nat}(h:i<zY vars)(k:Int):(vars.take (i+1)).filter (kd k)=(vars.take i).filter (kd k)++(if vars[i]!.bS=k then[vars[i]!]else[]):=by
 rw[bD h,xh];by_cases hk:vars[i]!.bS=k
 ·rw[bC hk];simp only[yV,xY,kd,hk,Dw,cW]
 ·rw[bL hk];simp only[yV,xY,kd,hk,D0,yy,IQ]
def G7{vars:af bh}(k:Int)(i:Nat):zY ((vars.take i).filter (kd k))<=i:=kG vars k i
def abX(f:aS)(hl:zY f.ai<=1000000)(v:bU)(box:af aK):X4 ⟨box,[],f.ai,(zY f.ai:Int),0,f,v⟩=V ⟨box,f.ai.filter (kd 2),f.ai,(zY f.ai:Int),(zY f.ai:Int),f,v⟩:=by
 obtain⟨b,e1,hI⟩:=cS (rnd:=Wx) (zY f.ai) (λi (b:af bh)=>⟨box,b,f.ai,(zY f.ai:Int),(i:Int),f,v⟩) (λi b=>b=(f.ai.take i).filter (kd 2)) (λi b hi hb=>by
  obtain⟨i1,i2,hw⟩:=w3 hi hl;have hlen:zY b<=i:=by rw[hb];exact G7 2 i
  have hl2:∀x:bh,zY (b++[x])<=1073741824:=λx=>by simp;omega
  refine⟨_,?_,rfl⟩;rw[BU hi,<-hb];unfold Wx Pz;by_cases hk:f.ai[i]!.bS=2
  ·simp only[cG,i1,i2,hk,hl2,hw,cK,cW]
  ·simp only[cG,cD,gK,i1,i2,hk,hw,yu]) (λb _=>by unfold Wx Pz;simp) (b:=[]) (by simp)
 rw[zy]at hI;rw[<-hI];exact e1
def Po(f:aS)(hl:zY f.ai<=1000000)(v:bU)(box:af aK)(t8 acc:af bh)(ha:zY acc<=1000000)(k:Int)(ks:af Int)(n j:Int):
  Ow ⟨box,t8,acc,k,ks,n,j,f.ai,(zY f.ai:Int),0,f,v⟩=V ⟨box,t8,acc++f.ai.filter (kd k),k,ks,n,j,f.ai,(zY f.ai:Int),(zY f.ai:Int),f,v⟩:=by
 obtain⟨b,e1,hI⟩:=cS (rnd:=VO) (zY f.ai) (λi (b:af bh)=>⟨box,t8,acc++b,k,ks,n,j,f.ai,(zY f.ai:Int),(i:Int),f,v⟩) (λi b=>b=(f.ai.take i).filter (kd k)) (λi b hi hb=>by
  obtain⟨i1,i2,hw⟩:=w3 hi hl;have hlen:zY b<=i:=by rw[hb];exact G7 k i
  have hl2:∀x:bh,zY (acc++(b++[x]))<=1073741824:=λx=>by simp;omega
  refine⟨_,?_,rfl⟩;rw[BU hi,<-hb];unfold VO DE;by_cases hk:f.ai[i]!.bS=k
  ·simp only[cG,i1,i2,hk,hl2,hw,cK,cW,yS]
  ·simp only[cG,cD,gK,i1,i2,hk,hw,yu]) (λb _=>by unfold VO DE;simp) (b:=[]) (by simp)
 have e1':Ow ⟨box,t8,acc,k,ks,n,j,f.ai,(zY f.ai:Int),0,f,v⟩=V ⟨box,t8,acc++b,k,ks,n,j,f.ai,(zY f.ai:Int),(zY f.ai:Int),f,v⟩:=by
  have:=e1;rw[yu]at this;exact this
 simp_all
def afI(f:aS)(hl:zY f.ai<=1000)(v:bU)(box:af aK)(t8:af bh):
  PU ⟨box,t8,[],[1,3],2,0,f,v⟩=V ⟨box,t8,eo f.ai,[1,3],2,2,f,v⟩:=by
 have h1:zY (f.ai.filter (kd 1))<=1000:=zG (yq _ _) hl;have e1:=Po f au v box t8 [] (by simp) 1 [1,3] 2 0;have e2:=Po f au v box t8 (f.ai.filter (kd 1)) au 3 [1,3] 2 1;rw[yB]at e1;have w1:ak ((0:Int)+1)=1:=by decide
 have w2:ak ((1:Int)+1)=2:=by decide
 unfold PU eo;rw[bP (p':=⟨box,t8,f.ai.filter (kd 1),[1,3],2,1,f,v⟩)]
 ·rw[bP (p':=⟨box,t8,f.ai.filter (kd 1)++f.ai.filter (kd 3),[1,3],2,2,f,v⟩)]
  ·exact cq (λr=>by unfold WK JY DE;simp)
  ·unfold WK JY DE;dsimp only;rw[bX (by decide),cK,bC (by decide),bC (by decide)];rw[show ([1,3]:af Int)[zq 1]! =3 from rfl,e2];dsimp only;rw[fE,ct,w2]
 ·unfold WK JY DE;dsimp only;rw[bX (by decide),cK,bC (by decide),bC (by decide)];rw[show ([1,3]:af Int)[zq 0]! =1 from rfl,e1];dsimp only;rw[fE,ct,w1]
def amg(L:af bh)(hl:zY L<=1000000)(v:bU)(hv:zY v.bz=zY L)(box:af aK)(t9:af bh):
  ∃i,V7 ⟨box,t9,L,(zY L:Int),0,v⟩=V ⟨box,t9,L,(zY L:Int),(i:Nat),v⟩/\((i=zY L/\cu (jI v.bz) L 0=0)\/(i<zY L/\jI v.bz i L[i]!≠0/\cu (jI v.bz) L 0=jI v.bz i L[i]!)):=
 ud (rnd:=On) L (λi=>⟨box,t9,L,(zY L:Int),(i:Nat),v⟩) (jI v.bz) (λi hi=>by
  obtain⟨i1,i2,hw⟩:=w3 hi hl;have i3:(i:Int)<(zY v.bz:Int):=au;have key:On ⟨box,t9,L,(zY L:Int),(i:Nat),v⟩=if jI v.bz i L[i]! =0 then V (V ⟨box,t9,L,(zY L:Int),((i+1:Nat):Int),v⟩)else V G:=by
   unfold On OU jI;simp only[zg,i1,i3,hi,hw];cases vn (v.bz[i]! <L[i]!.ah)<;>cases vn (L[i]!.ag<v.bz[i]!)<;>simp
  exact⟨λh=>by rw[key,bC h],λh=>by rw[key,bL h]⟩) (by unfold On OU;simp)
def anN(L:af bh)(hl:zY L<=1000000)(box:af aK)(hv:zY box=zY L):
  ∃i,V8 ⟨box,L,(zY L:Int),0⟩=V ⟨box,L,(zY L:Int),(i:Nat)⟩/\((i=zY L/\cu (o8 box) L 0=0)\/(i<zY L/\o8 box i L[i]!≠0/\cu (o8 box) L 0=o8 box i L[i]!)):=
 ud (rnd:=OB) L (λi=>⟨box,L,(zY L:Int),(i:Nat)⟩) (o8 box) (λi hi=>by
  obtain⟨i1,i2,hw⟩:=w3 hi hl;have i3:(i:Int)<(zY box:Int):=au;have key:OB ⟨box,L,(zY L:Int),(i:Nat)⟩=if o8 box i L[i]! =0 then V (V ⟨box,L,(zY L:Int),((i+1:Nat):Int)⟩)else V G:=by
   unfold OB NZ o8;simp only[zg,i1,i3,hi,hw,eV,VM];cases Y4 box[i]! <;>cases vn (@Eq Int (ZJ box[i]!) 0)<;>cases vn (box[i]!.ah<L[i]!.ah)<;>cases vn (L[i]!.ag<box[i]!.ag)<;>simp
  exact⟨λh=>by rw[key,bC h],λh=>by rw[key,bL h]⟩) (by unfold OB NZ;simp)
def aCT{f:aS}(h:fK f.bM+kS (f.ax.map (·.aF))<=900)(hh:zY f.ax<=1000)(hl:zY f.ai<=1000)(v:bU)(box:af aK):m79 f v box=V (BM f v box):=by
 have l2:zY (f.ai.filter (kd 2))<=1000:=zG (yq _ _) hl;have l3:zY (eo f.ai)<=2000:=by
  have a1:zY (f.ai.filter (kd 1))<=1000:=zG (yq _ _) hl;have a3:zY (f.ai.filter (kd 3))<=1000:=zG (yq _ _) hl;unfold eo;rw[zh];omega
 unfold m79 Pz JY OU NZ DE BM;rw[Wy f h au au];dsimp only;by_cases hc:rH f=0
 case neg=>rw[bW hc,bC hc];rfl
 rw[bX hc,bL (by simpa using hc)];rw[abX f au];dsimp only;rw[fE,ct];rw[afI f hl];dsimp only;rw[fE,ct];by_cases hp:zY v.bz=zY (f.ai.filter (kd 2))
 case neg=>rw[fE,bC hp];rfl
 rw[oR,bL (by simpa using hp)];obtain⟨i,e3,k3⟩:=amg (f.ai.filter (kd 2)) au v hp box (eo f.ai);rw[e3];dsimp only;rcases k3 with ⟨rfl,k3⟩|⟨i1,i2,i3⟩
 case inr=>
  rw[bC (show cu (jI v.bz) (f.ai.filter (kd 2)) 0≠0 by rw[i3];exact i2),i3];have j1:(i:Int)<(zY (f.ai.filter (kd 2)):Int):=au;have j2:(0:Int)<=(i:Int):=au;have j3:(i:Int)<(zY v.bz:Int):=au;simp only[zg,j1,j3,i1];revert i2;unfold jI;cases vn (v.bz[i]! <(f.ai.filter (kd 2))[i]!.ah)<;>cases vn ((f.ai.filter (kd 2))[i]!.ag<v.bz[i]!)<;>simp
 rw[fE,ct,bL (show ¬cu (jI v.bz) (f.ai.filter (kd 2)) 0≠0 by rw[k3];simp)];by_cases hb:zY box=zY (eo f.ai)
 case neg=>rw[fE,bC hb];rfl
 rw[oR,bL (by simpa using hb)];simp only[cD];obtain⟨i,e4,k4⟩:=anN (eo f.ai) au box hb;rw[e4];dsimp only;rcases k4 with ⟨rfl,k4⟩|⟨i1,i2,i3⟩
 ·rw[fE,ct,k4]
 ·rw[i3];have j1:(i:Int)<(zY (eo f.ai):Int):=au;have j2:(0:Int)<=(i:Int):=au;have j3:(i:Int)<(zY box:Int):=au;simp only[zg,j1,j3,i1,eV,VM];revert i2;unfold o8;cases Y4 box[i]! <;>cases vn (@Eq Int (ZJ box[i]!) 0)<;>cases vn (box[i]!.ah<(eo f.ai)[i]!.ah)<;>cases vn ((eo f.ai)[i]!.ag<box[i]!.ag)<;>simp
def E7(f:aS)(hl:zY f.ai<=1000000)(v:bU)(box:af aK)(t8 t9:af bh)(h8:zY t8<=1000000)(h9:zY t9<=1000000)(k:Int)(ks:af Int)(n j:Int):
  YW ⟨box,t8,t9,k,ks,n,j,f.ai,(zY f.ai:Int),0,f,v⟩=V ⟨box,if k=2 then t8++f.ai.filter (kd k)else t8,if k=2 then t9 else t9++f.ai.filter (kd k),k,ks,n,j,f.ai,(zY f.ai:Int),(zY f.ai:Int),f,v⟩:=by
 obtain⟨b,e1,hI⟩:=cS (rnd:=X0) (zY f.ai) (λi (b:af bh)=>⟨box,if k=2 then t8++b else t8,if k=2 then t9 else t9++b,k,ks,n,j,f.ai,(zY f.ai:Int),(i:Int),f,v⟩) (λi b=>b=(f.ai.take i).filter (kd k)) (λi b hi hb=>by
  obtain⟨i1,i2,hw⟩:=w3 hi hl;have hlen:zY b<=i:=by rw[hb];exact G7 k i
  have hl2:∀x:bh,zY (t8++(b++[x]))<=1073741824:=λx=>by simp;omega
  have hl3:∀x:bh,zY (t9++(b++[x]))<=1073741824:=λx=>by simp;omega
  refine⟨_,?_,rfl⟩;rw[BU hi,<-hb];unfold X0 AL;by_cases hk:f.ai[i]!.bS=k
  ·by_cases h2:k=2
   ·simp only[cG,i1,i2,hk,h2,hl2,hw,cK,cW,yS]
   ·simp only[cG,cD,gK,i1,i2,hk,h2,hl3,hw,yS]
  ·simp only[cG,cD,gK,i1,i2,hk,hw,yu]) (λb _=>by unfold X0 AL;simp) (b:=[]) (by simp)
 rw[zy]at hI;rw[<-hI];have e1':=e1;rw[yu,yu,ite_self,ite_self]at e1';exact e1'
def aes(f:aS)(hl:zY f.ai<=1000)(v:bU)(box:af aK):
  Oc ⟨box,[],[],[1,3,2],3,0,f,v⟩=V ⟨box,f.ai.filter (kd 2),eo f.ai,[1,3,2],3,3,f,v⟩:=by
 have h1:zY (f.ai.filter (kd 1))<=1000:=zG (yq _ _) hl;have h3:zY (f.ai.filter (kd 3))<=1000:=zG (yq _ _) hl;have e1:=E7 f au v box [] [] (by simp) (by simp) 1 [1,3,2] 3 0;have e2:=E7 f au v box [] (f.ai.filter (kd 1)) (by simp) au 3 [1,3,2] 3 1;have e3:=E7 f au v box [] (eo f.ai) (by simp) (by unfold eo;rw[zh];omega) 2 [1,3,2] 3 2;simp only[gK,yB,Int.reduceEq]at e1 e2 e3;have w1:ak ((0:Int)+1)=1:=by decide
 have w2:ak ((1:Int)+1)=2:=by decide
 have w3:ak ((2:Int)+1)=3:=by decide
 unfold Oc;rw[bP (p':=⟨box,[],f.ai.filter (kd 1),[1,3,2],3,1,f,v⟩)]
 ·rw[bP (p':=⟨box,[],eo f.ai,[1,3,2],3,2,f,v⟩)]
  ·rw[bP (p':=⟨box,f.ai.filter (kd 2),eo f.ai,[1,3,2],3,3,f,v⟩)]
   ·exact cq (λr=>by unfold OJ GA AL;simp)
   ·unfold OJ GA AL;dsimp only;rw[bX (by decide),cK,bC (by decide),bC (by decide)];rw[show ([1,3,2]:af Int)[zq 2]! =2 from rfl,e3];dsimp only;rw[fE,ct,w3]
  ·unfold OJ GA AL;dsimp only;rw[bX (by decide),cK,bC (by decide),bC (by decide)];rw[show ([1,3,2]:af Int)[zq 1]! =3 from rfl,e2];dsimp only;rw[fE,ct,w2];rfl
 ·unfold OJ GA AL;dsimp only;rw[bX (by decide),cK,bC (by decide),bC (by decide)];rw[show ([1,3,2]:af Int)[zq 0]! =1 from rfl,e1];dsimp only;rw[fE,ct,w1]
def akN(L:af bh)(hl:zY L<=1000000)(v:bU)(hv:zY v.bz=zY L)(box:af aK)(t9:af bh):
  ∃i,YP ⟨box,t9,L,(zY L:Int),0,v⟩=V ⟨box,t9,L,(zY L:Int),(i:Nat),v⟩/\((i=zY L/\cu (jI v.bz) L 0=0)\/(i<zY L/\jI v.bz i L[i]!≠0/\cu (jI v.bz) L 0=jI v.bz i L[i]!)):=
 ud (rnd:=QF) L (λi=>⟨box,t9,L,(zY L:Int),(i:Nat),v⟩) (jI v.bz) (λi hi=>by
  obtain⟨i1,i2,hw⟩:=w3 hi hl;have i3:(i:Int)<(zY v.bz:Int):=au;have key:QF ⟨box,t9,L,(zY L:Int),(i:Nat),v⟩=if jI v.bz i L[i]! =0 then V (V ⟨box,t9,L,(zY L:Int),((i+1:Nat):Int),v⟩)else V G:=by
   unfold QF P7 jI;simp only[zg,i1,i3,hi,hw];cases vn (v.bz[i]! <L[i]!.ah)<;>cases vn (L[i]!.ag<v.bz[i]!)<;>simp
  exact⟨λh=>by rw[key,bC h],λh=>by rw[key,bL h]⟩) (by unfold QF P7;simp)
def ahT(L:af bh)(hl:zY L<=1000000)(box:af aK)(hv:zY box=zY L):
  ∃i,Wa ⟨box,L,(zY L:Int),0⟩=V ⟨box,L,(zY L:Int),(i:Nat)⟩/\((i=zY L/\cu (o8 box) L 0=0)\/(i<zY L/\o8 box i L[i]!≠0/\cu (o8 box) L 0=o8 box i L[i]!)):=
 ud (rnd:=N5) L (λi=>⟨box,L,(zY L:Int),(i:Nat)⟩) (o8 box) (λi hi=>by
  obtain⟨i1,i2,hw⟩:=w3 hi hl;have i3:(i:Int)<(zY box:Int):=au;have key:N5 ⟨box,L,(zY L:Int),(i:Nat)⟩=if o8 box i L[i]! =0 then V (V ⟨box,L,(zY L:Int),((i+1:Nat):Int)⟩)else V G:=by
   unfold N5 N9 o8;simp only[zg,i1,i3,hi,hw,gp,VX];cases Y4 box[i]! <;>cases vn (@Eq Int (ZJ box[i]!) 0)<;>cases vn (box[i]!.ah<L[i]!.ah)<;>cases vn (L[i]!.ag<box[i]!.ag)<;>simp
  exact⟨λh=>by rw[key,bC h],λh=>by rw[key,bL h]⟩) (by unfold N5 N9;simp)
def awQ{f:aS}(h:fK f.bM+kS (f.ax.map (·.aF))<=900)(hh:zY f.ax<=1000)(hl:zY f.ai<=1000)(v:bU)(box:af aK):m21 f v box=V (BM f v box):=by
 have l2:zY (f.ai.filter (kd 2))<=1000:=zG (yq _ _) hl;have l3:zY (eo f.ai)<=2000:=by
  have a1:zY (f.ai.filter (kd 1))<=1000:=zG (yq _ _) hl;have a3:zY (f.ai.filter (kd 3))<=1000:=zG (yq _ _) hl;unfold eo;rw[zh];omega
 unfold m21 GA P7 N9 AL BM;rw[af5 f h au au];dsimp only;by_cases hc:rH f=0
 case neg=>rw[bW hc,bC hc];rfl
 rw[bX hc,bL (by simpa using hc)];rw[aes f hl v box];dsimp only;rw[fE,ct];by_cases hp:zY v.bz=zY (f.ai.filter (kd 2))
 case neg=>rw[fE,bC hp];rfl
 rw[oR,bL (by simpa using hp)];obtain⟨i,e3,k3⟩:=akN (f.ai.filter (kd 2)) au v hp box (eo f.ai);rw[e3];dsimp only;rcases k3 with ⟨rfl,k3⟩|⟨i1,i2,i3⟩
 case inr=>
  rw[bC (show cu (jI v.bz) (f.ai.filter (kd 2)) 0≠0 by rw[i3];exact i2),i3];have j1:(i:Int)<(zY (f.ai.filter (kd 2)):Int):=au;have j2:(0:Int)<=(i:Int):=au;have j3:(i:Int)<(zY v.bz:Int):=au;simp only[zg,j1,j3,i1];revert i2;unfold jI;cases vn (v.bz[i]! <(f.ai.filter (kd 2))[i]!.ah)<;>cases vn ((f.ai.filter (kd 2))[i]!.ag<v.bz[i]!)<;>simp
 rw[fE,ct,bL (show ¬cu (jI v.bz) (f.ai.filter (kd 2)) 0≠0 by rw[k3];simp)];by_cases hb:zY box=zY (eo f.ai)
 case neg=>rw[fE,bC hb];rfl
 rw[oR,bL (by simpa using hb)];simp only[cD];obtain⟨i,e4,k4⟩:=ahT (eo f.ai) au box hb;rw[e4];dsimp only;rcases k4 with ⟨rfl,k4⟩|⟨i1,i2,i3⟩
 ·rw[fE,ct,k4]
 ·rw[i3];have j1:(i:Int)<(zY (eo f.ai):Int):=au;have j2:(0:Int)<=(i:Int):=au;have j3:(i:Int)<(zY box:Int):=au;simp only[zg,j1,j3,i1,gp,VX];revert i2;unfold o8;cases Y4 box[i]! <;>cases vn (@Eq Int (ZJ box[i]!) 0)<;>cases vn (box[i]!.ah<(eo f.ai)[i]!.ah)<;>cases vn ((eo f.ai)[i]!.ag<box[i]!.ag)<;>simp
structure Fits (f:aS) (v:bU) (box:List aK):Prop where
 c:rH f=0
 pub:zY v.bz=zY (f.ai.filter (kd 2))
 aGj:∀j,j<zY v.bz->(f.ai.filter (kd 2))[j]!.ah<=v.bz[j]!/\v.bz[j]!<=(f.ai.filter (kd 2))[j]!.ag
 bl:zY box=zY (eo f.ai)
 bx:∀j,j<zY box->NN box[j]!/\(eo f.ai)[j]!.ah<=box[j]!.ah/\box[j]!.ag<=(eo f.ai)[j]!.ag
def As{f:aS}{v:bU}{box:af aK}(h:BM f v box=0):Fits f v box:=by
 unfold BM at h;by_cases hc:rH f=0
 case neg=>rw[bC hc]at h;exact dU h hc
 rw[bL (by simpa using hc)]at h;by_cases hp:zY v.bz=zY (f.ai.filter (kd 2))
 case neg=>rw[bC hp]at h;cases h
 rw[bL (by simpa using hp)]at h;by_cases hf:cu (jI v.bz) (f.ai.filter (kd 2)) 0=0
 case neg=>rw[bC hf]at h;exact dU h hf
 rw[bL (by simpa using hf)]at h;by_cases hb:zY box=zY (eo f.ai)
 case neg=>rw[bC hb]at h;cases h
 rw[bL (by simpa using hb)]at h;refine⟨hc,hp,λj hj=> ?_,hb,λj hj=> ?_⟩
 ·have k:=oG hf j au;rw[yj]at k;unfold jI at k;by_cases c1:v.bz[j]! <(f.ai.filter (kd 2))[j]!.ah
  ·rw[bX c1]at k;cases k
  by_cases c2:(f.ai.filter (kd 2))[j]!.ag<v.bz[j]!
  ·rw[bW c1,bX c2]at k;cases k
  omega
 ·have k:=oG h j au;rw[yj]at k;unfold o8 at k;by_cases c0:NV box[j]!
  case neg=>rw[Am c0]at k;cases k
  rw[dZ c0]at k;by_cases c3:ZJ box[j]! =0
  ·rw[bX c3]at k;cases k
  by_cases c1:box[j]!.ah<(eo f.ai)[j]!.ah
  ·rw[bW c3,bX c1]at k;cases k
  by_cases c2:(eo f.ai)[j]!.ag<box[j]!.ag
  ·rw[bW c3,bW c1,bX c2]at k;cases k
  refine⟨c0.nn λe=>c3 ?_,au,au⟩;rw[e];unfold ZJ;rw[bC (.inl rfl)];rfl
def af9{f:aS}(h:rH f=0){i:Nat}(hi:i<zY f.ai):(0<=f.ai[i]!.bS/\f.ai[i]!.bS<=3)/\(f.ai[i]!.bS=0->f.ai[i]!.ah<=f.ai[i]!.gD/\f.ai[i]!.gD<=f.ai[i]!.ag):=by
 unfold rH at h;by_cases h1:qU f=O
 ·rw[bC h1]at h;exact dU h (by decide)
 rw[bL h1]at h;by_cases hvc:jP f.ai=0
 case neg=>rw[bC hvc]at h;exact dU h hvc
 unfold jP at hvc;by_cases h0:cu (nX f.ai) f.ai 0=0
 case neg=>rw[bC h0]at hvc;exact dU hvc h0
 have k:=oG h0 i hi;unfold nX at k;omega
def eF(f:aS)(v:bU)(box:af aK)(i:Nat):aK:=
 if f.ai[i]!.bS=1 then box[cQ f.ai 1 i]! else if f.ai[i]!.bS=2 then eE v.bz[cQ f.ai 2 i]! else if f.ai[i]!.bS=3 then box[cQ f.ai 1 f.ai.length+cQ f.ai 3 i]! else eE f.ai[i]!.gD
def e9(f:aS)(v:bU)(box:af aK):ay:=⟨tab (zY f.ai) (eF f v box),eE 0,[],eE 0⟩
def LL(vars:af bh):zY (eo vars)=cQ vars 1 vars.length+cQ vars 3 vars.length:=by
 unfold eo;rw[zh,oC,oC]
def LX{vars:af bh}{k:Int}{i:Nat}(hi:i<zY vars)(hk:vars[i]!.bS=k):cQ vars k i<cQ vars k vars.length:=by
 have c:=gN hi k;have m:=j5 (vars:=vars) (k:=k) (show i+1<=zY vars by omega) (zl _);rw[bC hk]at c;omega
def tj{f:aS}{v:bU}{box:af aK}(h:Fits f v box):eR (zY f.ai) 0 (e9 f v box):=by
 have hv:=kQ h.c;have hb:=h.bl;rw[LL]at hb;have hp:=h.pub;rw[<-oC]at hp;refine⟨gW ..,λi hi=> ?_,mg ⟨by decide,by decide⟩,zl _,λi hi=>dU hi (by simp[e9]),mg ⟨by decide,by decide⟩⟩;show NN (tab _ _)[i]!;rw[pH hi];unfold eF;by_cases k1:f.ai[i]!.bS=1
 ·rw[bC k1];have:=LX hi k1;exact(h.bx _ au).1
 rw[bL k1];by_cases k2:f.ai[i]!.bS=2
 ·rw[bC k2];have hl:=LX hi k2;have hj:=h.aGj _ (show cQ f.ai 2 i<zY v.bz by omega);have hm:=bf (l:=f.ai.filter (kd 2)) (i:=cQ f.ai 2 i) (by rw[<-oC];omega);have:=hv _ ((z8.1 hm).1);exact mg (by unfold cA;omega)
 rw[bL k2];by_cases k3:f.ai[i]!.bS=3
 ·rw[bC k3];have:=LX hi k3;exact(h.bx _ au).1
 rw[bL k3];obtain⟨q1,q2⟩:=af9 h.c hi;have:=hv _ (bf hi);exact mg (by unfold cA;omega)
abbrev A0:bK:=⟨⟨0,0,0⟩,[],⟨0,0,0⟩,[]⟩
def am7{f:aS}(hl:zY f.ai<=1000)(box:af aK)(v:bU)(g:ay):Wu ⟨box,0,0,0,f.ai,(zY f.ai:Int),0,f,v,A0,⟨[],g.aD,[],g.aI⟩⟩=
  V ⟨box,0,0,(cQ f.ai 1 f.ai.length:Int),f.ai,(zY f.ai:Int),(zY f.ai:Int),f,v,A0,⟨[],g.aD,[],g.aI⟩⟩:=by
 obtain⟨b,e1,_⟩:=cS (rnd:=XJ) (zY f.ai) (λi (_:Unit)=>⟨box,0,0,(cQ f.ai 1 i:Int),f.ai,(zY f.ai:Int),(i:Int),f,v,A0,⟨[],g.aD,[],g.aI⟩⟩) (λ_ _=>True) (λi b hi _=>by
  obtain⟨i1,i2,hw⟩:=w3 hi au;have c1:=gN hi 1;have l1:=kG f.ai 1 i;have w1:ak ((cQ f.ai 1 i:Int)+1)=((cQ f.ai 1 i+1:Nat):Int):=by rw[aL];omega
  refine⟨(),?_,trivial⟩;unfold XJ OT;rw[c1];by_cases hk:f.ai[i]!.bS=1
  ·simp only[cG,i1,i2,hk,hw,w1,cK,cW]
  ·simp only[cG,cD,gK,i1,i2,hk,hw,yg]) (λb _=>by unfold XJ OT;simp) (b:=()) trivial
 exact e1
def aiu{f:aS}{v:bU}{box:af aK}(h:Fits f v box)(hlv:zY f.ai<=1000)(g:ay):XF ⟨box,0,0,(cQ f.ai 1 f.ai.length:Int),f.ai,(zY f.ai:Int),0,f,v,A0,⟨[],g.aD,[],g.aI⟩⟩=
  V ⟨box,(cQ f.ai 1 f.ai.length:Int),(cQ f.ai 2 f.ai.length:Int),((cQ f.ai 1 f.ai.length+cQ f.ai 3 f.ai.length:Nat):Int),f.ai,(zY f.ai:Int),(zY f.ai:Int),f,v,A0,⟨tab (zY f.ai) (eF f v box),g.aD,[],g.aI⟩⟩:=by
 have hbx:=h.bl;rw[LL]at hbx;have hp:=h.pub;rw[<-oC]at hp;obtain⟨b,e1,_⟩:=cS (rnd:=VL) (zY f.ai) (λi (_:Unit)=>⟨box,(cQ f.ai 1 i:Int),(cQ f.ai 2 i:Int),((cQ f.ai 1 f.ai.length+cQ f.ai 3 i:Nat):Int),f.ai,(zY f.ai:Int),(i:Int),f,v,A0,⟨tab i (eF f v box),g.aD,[],g.aI⟩⟩) (λi _=>True) (λi b hi _=>by
  obtain⟨i1,i2,hw⟩:=w3 hi au;have c1:=gN hi 1;have c2:=gN hi 2;have c3:=gN hi 3;have m1:=j5 (vars:=f.ai) (k:=1) (show i+1<=zY f.ai by omega) (zl _);have m2:=j5 (vars:=f.ai) (k:=2) (show i+1<=zY f.ai by omega) (zl _);have m3:=j5 (vars:=f.ai) (k:=3) (show i+1<=zY f.ai by omega) (zl _);have l1:=kG f.ai 1 (zY f.ai);have l2:=kG f.ai 2 (zY f.ai);have l3:=kG f.ai 3 (zY f.ai);have hl2:∀x:aK,zY (tab i (eF f v box)++[x])<=1073741824:=λx=>by rw[zh,gW,ym];omega
  refine⟨(),?_,trivial⟩;rw[qO];unfold VL Rh;rw[c1,c2,c3];by_cases k1:f.ai[i]!.bS=1
  ·have ev:eF f v box i=box[cQ f.ai 1 i]! :=by unfold eF;rw[bC k1]
   rw[k1]at c1 c2 c3 ⊢;simp only[gK,Int.reduceEq,yg]at c1 c2 c3 ⊢;have w1:ak ((cQ f.ai 1 i:Int)+1)=((cQ f.ai 1 i+1:Nat):Int):=by rw[aL];omega
   have j1:(cQ f.ai 1 i:Int)<(zY box:Int):=au;have j2:(0:Int)<=(cQ f.ai 1 i:Int):=au;simp only[cG,i1,i2,j1,j2,cK,cW,k1,hl2,hw,w1,ev]
  by_cases k2:f.ai[i]!.bS=2
  ·have ev:eF f v box i=eE v.bz[cQ f.ai 2 i]! :=by unfold eF;rw[bL k1,bC k2]
   rw[k2]at c1 c2 c3 ⊢;simp only[gK,Int.reduceEq,yg]at c1 c2 c3 ⊢;have w1:ak ((cQ f.ai 2 i:Int)+1)=((cQ f.ai 2 i+1:Nat):Int):=by rw[aL];omega
   have j1:(cQ f.ai 2 i:Int)<(zY v.bz:Int):=au;have j2:(0:Int)<=(cQ f.ai 2 i:Int):=au;simp only[cG,cD,i1,i2,j1,j2,k2,Int.reduceEq,cW,hl2,hw,w1,sV,ev]
  by_cases k3:f.ai[i]!.bS=3
  ·have ev:eF f v box i=box[cQ f.ai 1 f.ai.length+cQ f.ai 3 i]! :=by unfold eF;rw[bL k1,bL k2,bC k3]
   rw[k3]at c1 c2 c3 ⊢;simp only[gK,Int.reduceEq,yg]at c1 c2 c3 ⊢;have w1:ak (((cQ f.ai 1 f.ai.length+cQ f.ai 3 i:Nat):Int)+1)=((cQ f.ai 1 f.ai.length+(cQ f.ai 3 i+1):Nat):Int):=by rw[aL];omega
   have j1:((cQ f.ai 1 f.ai.length+cQ f.ai 3 i:Nat):Int)<(zY box:Int):=au;have j2:(0:Int)<=((cQ f.ai 1 f.ai.length+cQ f.ai 3 i:Nat):Int):=au;simp only[cG,cD,i1,i2,j1,j2,k3,Int.reduceEq,cW,hl2,hw,w1,ev]
  ·have ev:eF f v box i=eE f.ai[i]!.gD:=by unfold eF;rw[bL k1,bL k2,bL k3]
   rw[bL k1,bL k2,bL k3];simp only[cG,cD,i1,i2,k1,k2,k3,cW,hl2,hw,sV,ev,yg]) (λb _=>by unfold VL Rh;simp) (b:=()) trivial
 exact e1
def Zt(f:aS)(s:ay)(h:dN):aK:=iZ (cI s.ai h.aF) h.ah h.ag
def qj(f:aS)(s:ay):af aK:=f.ax.map (Zt f s)
def aju{f:aS}(hf:Oy f){s:ay}{m:Nat}(hs:eR (zY f.ai) m s){i:Nat}(hi:i<zY f.ax):NN (Zt f s f.ax[i]!):=by
 obtain⟨_,_,_,k,_⟩:=iB (iW hs f.ax[i]!.aF (hf.hat i hi).2) f.ax[i]!.ah f.ax[i]!.ag;exact k
def Ej{f:aS}(hf:Oy f){s:ay}{m:Nat}(hs:eR (zY f.ai) m s):∀i,i<zY (qj f s)->NN (qj f s)[i]! :=λi hi=>by
 have hi:i<zY f.ax:=by simpa [qj]using hi
 unfold qj;rw[getElem!_pos _ i (by simpa using hi),yM,<-getElem!_pos f.ax i hi];exact aju hf hs hi
def ai5{f:aS}(hf:Oy f)(hlh:zY f.ax<=1000)(v:bU){s:ay}(hs:eR (zY f.ai) 0 s):PM ⟨f.ax,(zY f.ax:Int),0,f,v,A0,s,⟨f,[]⟩⟩=
  V ⟨f.ax,(zY f.ax:Int),(zY f.ax:Int),f,v,A0,s,⟨f,qj f s⟩⟩:=by
 have hsl:s.aG=[]:=xg (Nat.le_zero.1 hs.sl);have es:(⟨s.ai,s.aD,[],s.aI⟩:ay)=s:=by rw[<-hsl]
 obtain⟨b,e1,_⟩:=cS (rnd:=YM) (zY f.ax) (λi (_:Unit)=>⟨f.ax,(zY f.ax:Int),(i:Int),f,v,A0,s,⟨f,(f.ax.take i).map (Zt f s)⟩⟩) (λi _=>True) (λi b hi _=>by
  obtain⟨i1,i2,hw⟩:=w3 hi au;obtain⟨q1,q2⟩:=hf.hat i hi;have ev:=QA hs q2;obtain⟨c,hcl,_,_,_⟩:=iB (iW hs f.ax[i]!.aF q2) f.ax[i]!.ah f.ax[i]!.ag;have hl2:∀x:aK,zY ((f.ax.take i).map (Zt f s)++[x])<=1073741824:=λx=>by simp;omega
  refine⟨(),?_,trivial⟩;rw[bD hi,zO];unfold YM Qb;simp only[zg,i1,az.eta,es,ev,hcl,hl2,hw];rfl) (λb _=>by unfold YM Qb;simp) (b:=()) trivial
 rw[zy]at e1;exact e1
def IW(f:aS)(v:bU)(box:af aK):ay:=gZ f (qj f (e9 f v box)) f.bM (e9 f v box)
def fA(f:aS)(v:bU)(box:af aK):bK:=
 ⟨(IW f v box).aD,(IW f v box).aG,if v.iM=J then(IW f v box).aI else eE 0,(IW f v box).ai⟩
def aqX{f:aS}{v:bU}{box:af aK}(h:fK f.bM+kS (f.ax.map (·.aF))<=900)(hh:zY f.ax<=1000)(hl:zY f.ai<=1000):m20 f v box=V (if BM f v box=0 then(fA f v box,0)else(A0,BM f v box)):=by
 unfold m20 OT Rh Qb;rw[aCT h hh hl];dsimp only;by_cases hc:BM f v box=0
 case neg=>rw[bW hc,bL hc];rfl
 have hfit:=As hc;have hf:=Nl hfit.c;have h0:=tj hfit;have e0:=am7 hl box v ⟨[],eE 0,[],eE 0⟩;have e1:=aiu hfit hl ⟨[],eE 0,[],eE 0⟩;have e2:=ai5 hf hh v h0;have ho:eH f.bM<=8:=by have:=hf.o;unfold eH;omega
 have e3:r83 ⟨f,qj f (e9 f v box)⟩ f.bM (e9 f v box)=V (IW f v box):=
  aAJ (r:=⟨f,qj f (e9 f v box)⟩) (top:=J) (by show zY f.ai<=_;omega) (by simp[qj]) (Ej hf h0) au hf.steps h0 au
 rw[bX hc,bC hc];simp only[ct,sV];rw[e0];dsimp only;rw[fE,ct,e1];dsimp only;rw[fE,ct];have e2':PM ⟨f.ax,(zY f.ax:Int),0,f,v,⟨⟨0,0,0⟩,[],⟨0,0,0⟩,[]⟩,⟨tab (zY f.ai) (eF f v box),eE 0,[],eE 0⟩,⟨f,[]⟩⟩=_:=e2;rw[e2'];dsimp only;rw[fE,ct];have e3':r83 ⟨f,qj f (e9 f v box)⟩ f.bM ⟨(e9 f v box).ai,(e9 f v box).aD,[],(e9 f v box).aI⟩=_:=e3;rw[e3'];unfold fA;cases v.iM<;>rfl
abbrev Z3:aJ:=⟨[],⟨0,0,0⟩,[],⟨0,0,0⟩⟩
def akf{f:aS}(hl:zY f.ai<=1000)(box:af aK)(v:bU):VD ⟨box,0,f.ai,(zY f.ai:Int),0,f,v,Z3,Z3⟩=
  V ⟨box,(cQ f.ai 1 f.ai.length:Int),f.ai,(zY f.ai:Int),(zY f.ai:Int),f,v,Z3,Z3⟩:=by
 obtain⟨b,e1,_⟩:=cS (rnd:=Xb) (zY f.ai) (λi (_:Unit)=>⟨box,(cQ f.ai 1 i:Int),f.ai,(zY f.ai:Int),(i:Int),f,v,Z3,Z3⟩) (λ_ _=>True) (λi b hi _=>by
  obtain⟨i1,i2,hw⟩:=w3 hi au;have c1:=gN hi 1;have l1:=kG f.ai 1 i;have w1:ak ((cQ f.ai 1 i:Int)+1)=((cQ f.ai 1 i+1:Nat):Int):=by rw[aL];omega
  refine⟨(),?_,trivial⟩;unfold Xb PJ;rw[c1];by_cases hk:f.ai[i]!.bS=1
  ·simp only[cG,i1,i2,hk,hw,w1,cK,cW]
  ·simp only[cG,cD,gK,i1,i2,hk,hw,yg]) (λb _=>by unfold Xb PJ;simp) (b:=()) trivial
 exact e1
def ah2{f:aS}{v:bU}{box:af aK}(h:Fits f v box)(hlv:zY f.ai<=1000):YN ⟨box,0,(cQ f.ai 1 f.ai.length:Int),0,f.ai,(zY f.ai:Int),0,v,Z3,Z3⟩=
  V ⟨box,(cQ f.ai 1 f.ai.length:Int),((cQ f.ai 1 f.ai.length+cQ f.ai 3 f.ai.length:Nat):Int),(cQ f.ai 2 f.ai.length:Int),f.ai,(zY f.ai:Int),(zY f.ai:Int),v,Z3,⟨tab (zY f.ai) (eF f v box),⟨0,0,0⟩,[],⟨0,0,0⟩⟩⟩:=by
 have hbx:=h.bl;rw[LL]at hbx;have hp:=h.pub;rw[<-oC]at hp;obtain⟨b,e1,_⟩:=cS (rnd:=Yt) (zY f.ai) (λi (_:Unit)=>⟨box,(cQ f.ai 1 i:Int),((cQ f.ai 1 f.ai.length+cQ f.ai 3 i:Nat):Int),(cQ f.ai 2 i:Int),f.ai,(zY f.ai:Int),(i:Int),v,Z3,⟨tab i (eF f v box),⟨0,0,0⟩,[],⟨0,0,0⟩⟩⟩) (λi _=>True) (λi b hi _=>by
  obtain⟨i1,i2,hw⟩:=w3 hi au;have c1:=gN hi 1;have c2:=gN hi 2;have c3:=gN hi 3;have m1:=j5 (vars:=f.ai) (k:=1) (show i+1<=zY f.ai by omega) (zl _);have m2:=j5 (vars:=f.ai) (k:=2) (show i+1<=zY f.ai by omega) (zl _);have m3:=j5 (vars:=f.ai) (k:=3) (show i+1<=zY f.ai by omega) (zl _);have l1:=kG f.ai 1 (zY f.ai);have l2:=kG f.ai 2 (zY f.ai);have l3:=kG f.ai 3 (zY f.ai);have hl2:∀x:aK,zY (tab i (eF f v box)++[x])<=1073741824:=λx=>by rw[zh,gW,ym];omega
  refine⟨(),?_,trivial⟩;rw[qO];unfold Yt PK;dsimp only;rw[c1,c2,c3];by_cases k1:f.ai[i]!.bS=1
  ·have ev:eF f v box i=box[cQ f.ai 1 i]! :=by unfold eF;rw[bC k1]
   rw[k1]at c1 c2 c3 ⊢;simp only[gK,Int.reduceEq,yg]at c1 c2 c3 ⊢;have w1:ak ((cQ f.ai 1 i:Int)+1)=((cQ f.ai 1 i+1:Nat):Int):=by rw[aL];omega
   have j1:(cQ f.ai 1 i:Int)<(zY box:Int):=au;have j2:(0:Int)<=(cQ f.ai 1 i:Int):=au;simp only[cG,i1,i2,j1,j2,cK,cW,k1,hl2,hw,w1,ev]
  by_cases k2:f.ai[i]!.bS=2
  ·have ev:eF f v box i=eE v.bz[cQ f.ai 2 i]! :=by unfold eF;rw[bL k1,bC k2]
   rw[k2]at c1 c2 c3 ⊢;simp only[gK,Int.reduceEq,yg]at c1 c2 c3 ⊢;have w1:ak ((cQ f.ai 2 i:Int)+1)=((cQ f.ai 2 i+1:Nat):Int):=by rw[aL];omega
   have j1:(cQ f.ai 2 i:Int)<(zY v.bz:Int):=au;have j2:(0:Int)<=(cQ f.ai 2 i:Int):=au;simp only[cG,cD,i1,i2,j1,j2,k2,Int.reduceEq,cW,hl2,hw,w1,EC,ev]
  by_cases k3:f.ai[i]!.bS=3
  ·have ev:eF f v box i=box[cQ f.ai 1 f.ai.length+cQ f.ai 3 i]! :=by unfold eF;rw[bL k1,bL k2,bC k3]
   rw[k3]at c1 c2 c3 ⊢;simp only[gK,Int.reduceEq,yg]at c1 c2 c3 ⊢;have w1:ak (((cQ f.ai 1 f.ai.length+cQ f.ai 3 i:Nat):Int)+1)=((cQ f.ai 1 f.ai.length+(cQ f.ai 3 i+1):Nat):Int):=by rw[aL];omega
   have j1:((cQ f.ai 1 f.ai.length+cQ f.ai 3 i:Nat):Int)<(zY box:Int):=au;have j2:(0:Int)<=((cQ f.ai 1 f.ai.length+cQ f.ai 3 i:Nat):Int):=au;simp only[cG,cD,i1,i2,j1,j2,k3,Int.reduceEq,cW,hl2,hw,w1,ev]
  ·have ev:eF f v box i=eE f.ai[i]!.gD:=by unfold eF;rw[bL k1,bL k2,bL k3]
   rw[bL k1,bL k2,bL k3];simp only[cG,cD,i1,i2,k1,k2,k3,cW,hl2,hw,EC,ev,yg]) (λb _=>by unfold Yt PK;simp) (b:=()) trivial
 exact e1
def aze{f:aS}{v:bU}{box:af aK}(h:Fits f v box)(hlv:zY f.ai<=1000):m85 f v box=V (tr (e9 f v box)):=by
 have e0:=akf hlv box v;have e1:=ah2 h hlv;unfold m85 PJ PK;dsimp only[Z3]at e0 e1;rw[e0];dsimp only;rw[fE,ct,e1];dsimp only;rw[fE,ct];rfl
def aof{f:aS}(hf:Oy f)(hlh:zY f.ax<=1000)(v:bU){s:ay}(hs:eR (zY f.ai) 0 s):OC ⟨[],f.ax,(zY f.ax:Int),0,f,v,A0,tr s⟩=
  V ⟨qj f s,f.ax,(zY f.ax:Int),(zY f.ax:Int),f,v,A0,tr s⟩:=by
 have hsl:s.aG=[]:=xg (Nat.le_zero.1 hs.sl);have es:(⟨(tr s).ai,(tr s).aD,[],(tr s).aI⟩:aJ)=tr s:=by unfold tr;rw[<-hsl]
 obtain⟨b,e1,_⟩:=cS (rnd:=Wj) (zY f.ax) (λi (_:Unit)=>⟨(f.ax.take i).map (Zt f s),f.ax,(zY f.ax:Int),(i:Int),f,v,A0,tr s⟩) (λi _=>True) (λi b hi _=>by
  obtain⟨i1,i2,hw⟩:=w3 hi au;obtain⟨q1,q2⟩:=hf.hat i hi;have ev:=XP hs f.ax[i]!.aF q2;obtain⟨c,_,hcl,_,_⟩:=iB (iW hs f.ax[i]!.aF q2) f.ax[i]!.ah f.ax[i]!.ag;have hl2:∀x:aK,zY ((f.ax.take i).map (Zt f s)++[x])<=1073741824:=λx=>by simp;omega
  refine⟨(),?_,trivial⟩;rw[bD hi,zO];unfold Wj QB;simp only[cG,i1,i2,cK,cW,az.eta,es,ev,hcl,hl2,hw,yf,yT];rfl) (λb _=>by unfold Wj QB;simp) (b:=()) trivial
 rw[zy]at e1;exact e1
def aDg{f:aS}{v:bU}{box:af aK}(h:fK f.bM+kS (f.ax.map (·.aF))<=900)(hh:zY f.ax<=1000)(hl:zY f.ai<=1000)(hfit:Fits f v box):m23 f v box=V (fA f v box):=by
 have hf:=Nl hfit.c;have h0:=tj hfit;have e2:=aof hf hh v h0;have ho:eH f.bM<=8:=by have:=hf.o;unfold eH;omega
 have e3:r88 f (qj f (e9 f v box)) f.bM (tr (e9 f v box))=V (tr (IW f v box)):=
  aAm (top:=J) au (by simp[qj]) (Ej hf h0) au hf.steps h0 au
 unfold m23 QB;rw[aze hfit hl];dsimp only;have e2':OC ⟨[],f.ax,(zY f.ax:Int),0,f,v,⟨⟨0,0,0⟩,[],⟨0,0,0⟩,[]⟩,⟨(tr (e9 f v box)).ai,(tr (e9 f v box)).aD,[],(tr (e9 f v box)).aI⟩⟩=_:=e2;rw[e2'];dsimp only;rw[fE,ct];have e3':r88 f (qj f (e9 f v box)) f.bM ⟨(tr (e9 f v box)).ai,(tr (e9 f v box)).aD,[],(tr (e9 f v box)).aI⟩=_:=e3;rw[e3'];dsimp only;unfold fA;cases v.iM<;>rfl
abbrev E18:=Bool
def d18:Td 0 E18:= .c [] [0] (.r 0 0 (ec 0 qb en) sn (λz=>z.1.1) (λx=>((x,()),(()))))
def m18:E18:=J
def e18:=eL vp 18 O ln d18 (λ_=>V m18)
def t18:rz vp dA (λ_=>O) 300 60 Bool 18 [] [] 0 (U2 UM)=V J:=aY
abbrev E19:=Bool
def m19(a0:aS)(a1:bU)(a2:af aK):aa E19:=
 match bif vn ((zY a1.bz:Int)<=20)then bif vn ((zY a2:Int)<=20)then match m53 a0 70 300with|G=>G|V r1=>bif r1 then match m78 a0 with|G=>G|V r2=>bif bif vn (r2=0)then O else J then V J else match m24 a0 4096 4096 256with|G=>G|V r3=>V (r3)else V O else V O else V O with|G=>G|V r4=>V (r4)
structure I9 where
 (t0 t1:List aK)
 (t12 t13:Int)
def aoj{α:Type}(p:I9)(go:I9->aa α)(e1 e2:aa α):aa α:=
 bif vn (p.t13<p.t12)then if 0<=p.t13/\p.t13<zY p.t0 then if 0<=p.t13/\p.t13<zY p.t1 then bif bif bif vn (p.t0[zq p.t13]!.ah=p.t1[zq p.t13]!.ah)then bif vn (p.t0[zq p.t13]!.ag=p.t1[zq p.t13]!.ag)then bif vn (p.t0[zq p.t13]!.aj=p.t1[zq p.t13]!.aj)then J else O else O else O then O else J then e1 else go (I9.mk p.t0 p.t1 p.t12 (ak (p.t13+1)))else G else G else e2
def azM(p:I9):aa (aa I9):=
 aoj p (λs=>V (V s)) (V G) (V G)
def ayu:=bI (azM)
abbrev E64:=Bool
def m64(a0:af aK)(a1:af aK):aa E64:=
 bif bif vn ((zY a0:Int)=(zY a1:Int))then O else J then V O else match ayu (I9.mk a0 a1 (zY a0) 0)with|G=>G|V r1=>aoj r1 (λ_=>G) (V O) (V J)
abbrev E22:=Bool
def m22(a0:bK)(a1:bK):aa E22:=
 match bif bif vn (a0.aD.ah=a1.aD.ah)then bif vn (a0.aD.ag=a1.aD.ag)then bif vn (a0.aD.aj=a1.aD.aj)then J else O else O else O then bif bif vn (a0.aI.ah=a1.aI.ah)then bif vn (a0.aI.ag=a1.aI.ag)then bif vn (a0.aI.aj=a1.aI.aj)then J else O else O else O then match m64 a0.aG a1.aG with|G=>G|V r1=>bif r1 then match m64 a0.Kw a1.Kw with|G=>G|V r2=>V (r2)else V (O)else V (O)else V (O)with|G=>G|V r3=>V (r3)
abbrev E3:=Bool
def d3:Td 0 E3:= .c [] [6] (.r 0 0 (ec 6 qb en) sn (λz=>z.1.1) (λx=>((x,()),(()))))
def A3:=(lc (qg 26) (lc (qg 29) (lc (ql 34) ln)))
def m3(a0:aS)(a1:bU)(a2:af aK):aa E3:=
 bif bif m18 then O else J then V (O)else match m19 a0 a1 a2 with|G=>G|V r1=>bif bif r1 then O else J then V (J)else match m20 a0 a1 a2 with|G=>G|V r2=>match m21 a0 a1 a2 with|G=>G|V r3=>bif bif vn (r3=0)then O else J then bif vn (r2.snd=r3)then match m22 r2.fst (bK.mk (aK.mk (0) (0) (0)) [] (aK.mk (0) (0) (0)) [])with|G=>G|V r4=>V (r4)else V (O)else bif vn (r2.snd=0)then match m23 a0 a1 a2 with|G=>G|V r5=>match m22 r2.fst r5 with|G=>G|V r6=>V (r6)else V (O)
abbrev E6:=Bool
def d6:Td 0 E6:= .c [] [6] (.r 0 0 (ec 6 qb en) sn (λz=>z.1.1) (λx=>((x,()),(()))))
def aex{f:aS}{v:bU}{box:af aK}(h:Fits f v box):zY (fA f v box).aG<=8/\zY (fA f v box).Kw=zY f.ai:=by
 have hf:=Nl h.c;have h0:=tj h;have ho:eH f.bM<=8:=by have:=hf.o;unfold eH;omega
 have k:=iG (hv:=qj f (e9 f v box)) (by simp[qj]) (Ej hf h0) _ f.bM J (zC _) hf.steps _ _ h0;have:=k.sl;exact⟨by show zY (IW f v box).aG<=8;unfold IW;omega,k.len⟩
def Qe{a:aK}(h:NN a):bY a<=a.ag-a.ah+1:=by
 rw[BE h];have:=h.le;split
 ·omega
 ·have:=yl a.aj (show 0<=a.ag-a.ah by omega);omega
def Bl{a:aK}(h:NN a):1<=bY a/\bY a<=2199023255553:=by
 have h1:=size_pos h;have h2:=Qe h;obtain⟨a1,a2⟩:=h.ux;obtain⟨a3,a4⟩:=h.DL;omega
def Ol{a b:Int}(h1:1<=a)(h2:a<=2199023255553)(h3:1<=b)(h4:b<=2199023255553):m93 a b=V (min (a*b) 1099511627776):=by
 have hd:(1099511627776:Int).tdiv b=1099511627776/b:=Int.tdiv_eq_ediv_of_nonneg au;have q0:0<=(1099511627776:Int)/b:=zS au au;have q1:(1099511627776:Int)/b<=1099511627776:=yl _ au;have iff:(1099511627776:Int)/b<a↔1099511627776<a*b:=Int.ediv_lt_iff_lt_mul au;have p0:0<=a*b:=zJ au au;unfold m93;rw[bX (show 0<b by omega),cK,bC (show ¬@Eq Int b 0 by omega),hd,aL];dsimp only;by_cases c:1099511627776<a*b
 ·rw[bX (iff.mpr c),cK,show min (a*b) 1099511627776=1099511627776 by omega]
 ·rw[bW (λk=>c (iff.mp k)),ct,aL,show min (a*b) 1099511627776=a*b by omega]
def fH:af aK->Int
 |[]=>1
 |x::l=>bY x*fH l
def mS:af bh->Int
 |[]=>1
 |x::l=>(x.ag-x.ah+1)*mS l
def BC:∀(a b:af aK),fH (a++b)=fH a*fH b
 |[],b=>by rw[yB,fH,yc]
 |x::a,b=>by rw[xz,fH,fH,BC a b,yb]
def JL:∀(a b:af bh),mS (a++b)=mS a*mS b
 |[],b=>by rw[yB,mS,yc]
 |x::a,b=>by rw[xz,mS,mS,JL a b,yb]
def mH:∀{l:af aK},(∀x∈l,NN x)->1<=fH l
 |[],_=>by rw[fH];decide
 |x::l,h=>by
  rw[fH];have h1:=size_pos (h x (zk ..));have h2:=mH (λy hy=>h y (zL _ hy));have:=yY h1 h2 au au;omega
def Cs{l:af aK}(h:∀x∈l,NN x)(i:Nat):1<=fH (l.take i)/\fH (l.take i)<=fH l:=by
 have h1:=mH (l:=l.take i) (λx hx=>h x (wJ hx));have h2:=mH (l:=l.drop i) (λx hx=>h x (xD hx));have e:fH l=fH (l.take i)*fH (l.drop i):=by rw[<-BC,xA]
 have:=va h2 (show 0<=fH (l.take i)by omega);omega
def WE:∀{l:af aK} {L:af bh},zY l=zY L->(∀j,j<zY l->NN l[j]!/\L[j]!.ah<=l[j]!.ah/\l[j]!.ag<=L[j]!.ag)->fH l<=mS L
 |[],[],_,_=>zj _
 |[],y::L,h,_=>by simp at h
 |x::l,[],h,_=>by simp at h
 |x::l,y::L,h,k=>by
  have hN:∀z∈l,NN z:=λz hz=>by
   obtain⟨i,hi,e⟩:=List.mem_iff_getElem.1 hz;have:=(k (i+1) (by simp;omega)).1;rw[show (x::l)[i+1]! =l[i]! from rfl,getElem!_pos l i hi,e]at this;omega
  obtain⟨k1,k2,k3⟩:=k 0 (by simp);have k1:NN x:=k1;have k2:y.ah<=x.ah:=k2;have k3:x.ag<=y.ag:=k3;have h1:=size_pos k1;have h2:=Qe k1;have h3:=WE (l:=l) (L:=L) (by simpa using h) (λj hj=>k (j+1) (by simp;omega));have h4:=mH hN;exact yY au h3 au au
def AP(kind:Int):∀(l:af bh) (n m:Int),Ah kind l n=V m->m=n*mS (l.filter (kd kind))
 |[],n,m,e=>by unfold Ah at e;cases e;rw[xY,mS,Int.mul_one]
 |v::vs,n,m,e=>by
  unfold Ah at e;by_cases hk:v.bS=kind
  ·rw[bC hk]at e;split at e
   ·cases e
   ·have:=AP kind vs _ m e;rw[this,yV,bC (by simp[kd,hk]),mS,yb]
  ·rw[bL hk]at e;rw[AP kind vs n m e,yV,bL (by simp[kd,hk])]
def JW:∀{l:af bh},(∀v∈l,v.ah<=v.ag)->1<=mS l
 |[],_=>by rw[mS];decide
 |x::l,h=>by
  rw[mS];have h1:=h x (zk ..);have h2:=JW (λy hy=>h y (zL _ hy));have:=yY (show 1<=x.ag-x.ah+1 by omega) h2 au au;omega
def aaD{f:aS}(h:rH f=0):Iz f.ai=J:=by
 unfold rH at h;by_cases h1:qU f=O
 ·simp_all
 rw[bL h1]at h;by_cases hvc:jP f.ai=0
 case neg=>rw[bC hvc]at h;exact dU h hvc
 unfold jP at hvc;by_cases h0:cu (nX f.ai) f.ai 0=0
 case neg=>rw[bC h0]at hvc;exact dU hvc h0
 simp_all
def amb{f:aS}(h:rH f=0):mS (eo f.ai)<=1048576:=by
 have hv:=kQ h;have hs:=aaD h;unfold Iz at hs;simp only[zi]at hs;obtain⟨⟨h1,_⟩,h3⟩:=hs;obtain⟨a,e1⟩:=Option.isSome_iff_exists.1 h1;cases e3:Ah 3 f.ai 1 with
 |none=>rw[e3]at h3;cases h3
 |some b=>
  rw[e3]at h3;have h3:b<=256:=by simpa using h3
  have ha:=G6 1 f.ai 1 a (by decide) e1;have p1:=AP 1 f.ai 1 a e1;have p3:=AP 3 f.ai 1 b e3;rw[yc]at p1 p3;have q3:=JW (l:=f.ai.filter (kd 3)) (λv hv'=>(hv v (z8.1 hv').1).2.1);unfold eo;rw[JL,<-p1,<-p3];have:=yY ha h3 au au;omega
def Fits.nn{f:aS}{v:bU}{box:af aK}(h:Fits f v box):∀x∈box,NN x:=λx hx=>by
 obtain⟨i,hi,e⟩:=List.mem_iff_getElem.1 hx;have:=(h.bx i hi).1;simp_all
def Fits.vol{f:aS}{v:bU}{box:af aK}(h:Fits f v box):1<=fH box/\fH box<=1048576:=⟨mH h.nn,xV (WE h.bl h.bx) (amb h.c)⟩
def ann{box:af aK}(h:∀x∈box,NN x)(hl:zY box<=1000000)(hv:fH box<=1048576):aij box=V (fH box):=by
 obtain⟨b,e1,_⟩:=cS (rnd:=LU) (zY box) (λi (_:Unit)=>⟨fH (box.take i),box,(zY box:Int),(i:Int)⟩) (λi _=>True) (λi b hi _=>by
  obtain⟨i1,i2,hw⟩:=w3 hi hl;obtain⟨t1,t2⟩:=Cs h (i+1);have e:fH (box.take (i+1))=fH (box.take i)*bY box[i]! :=by
   rw[bD hi,BC,fH,fH,Int.mul_one]
  refine⟨(),?_,trivial⟩;rw[e]at t1 t2 ⊢;unfold LU Ho;simp only[cG,i1,i2,cK,cW,ew (.inr (h _ (bf hi))),hw];rw[aL]) (λb _=>by unfold LU Ho;simp) (b:=()) trivial
 rw[zy]at e1;have e1':MD ⟨1,box,(zY box:Int),0⟩=V ⟨fH box,box,(zY box:Int),(zY box:Int)⟩:=e1;unfold aij Ho;rw[e1'];simp
def iL(l:af aK):Bool:=l.all λx=>vn (bY x=1)
def sgB(r:bK):Bool:=(vn (bY r.aD=1)&&vn (bY r.aI=1))&&iL r.aG
def Z4(r:bK):aC:=⟨r.aG.map (·.ah),r.aI.ah⟩
structure ROk (r:bK):Prop where
 count:NN r.aD
 time:NN r.aI
 sl:zY r.aG<=8
 slots:∀i,i<zY r.aG->NN r.aG[i]!
def DH{l:af aK}{i:Nat}(h:i<zY l):iL (l.take (i+1))=(iL (l.take i)&&vn (bY l[i]! =1)):=by
 unfold iL;rw[bD h,List.all_append];simp
def al7{r:bK}(h:ROk r)(b:Bool)(t:Int):Yk ⟨b,r.aG,(zY r.aG:Int),0,⟨[],0⟩,⟨[],t⟩⟩=V ⟨b&&iL r.aG,r.aG,(zY r.aG:Int),(zY r.aG:Int),⟨[],0⟩,⟨r.aG.map (·.ah),t⟩⟩:=by
 have hs:=h.sl;obtain⟨_,e1,_⟩:=cS (rnd:=Xm) (zY r.aG) (λi (_:Unit)=>⟨b&&iL (r.aG.take i),r.aG,(zY r.aG:Int),(i:Int),⟨[],0⟩,⟨(r.aG.take i).map (·.ah),t⟩⟩) (λi _=>True) (λi _ hi _=>by
  obtain⟨i1,i2,hw⟩:=w3 hi au;have hl2:∀x:Int,zY ((r.aG.take i).map (·.ah)++[x])<=1073741824:=λx=>by simp;omega
  refine⟨(),?_,trivial⟩;rw[DH hi,bD hi,zO];unfold Xm O4;cases hb:(b&&iL (r.aG.take i))with
  |false=>
   rw[<-Bool.and_assoc,hb];simp only[cG,cD,i1,i2,hl2,cW,hw,Bool.false_and,yf,yT]
  |true=>
   rw[<-Bool.and_assoc,hb];simp only[cG,i1,i2,hl2,cK,cW,qC (.inr (h.slots i hi)),hw,Bool.true_and,yf,yT]) (λb _=>by unfold Xm O4;simp) (b:=()) trivial
 rw[zy]at e1;have:(b&&iL (r.aG.take 0))=b:=by simp[iL]
 rw[this]at e1;exact e1
def ajM{r:bK}(h:ROk r)(b:Bool)(t:Int):X5 ⟨b,r.aG,(zY r.aG:Int),0,⟨[],0⟩,⟨[],t⟩⟩=V ⟨b&&iL r.aG,r.aG,(zY r.aG:Int),(zY r.aG:Int),⟨[],0⟩,⟨r.aG.map (·.ah),t⟩⟩:=by
 have hs:=h.sl;obtain⟨_,e1,_⟩:=cS (rnd:=Wr) (zY r.aG) (λi (_:Unit)=>⟨b&&iL (r.aG.take i),r.aG,(zY r.aG:Int),(i:Int),⟨[],0⟩,⟨(r.aG.take i).map (·.ah),t⟩⟩) (λi _=>True) (λi _ hi _=>by
  obtain⟨i1,i2,hw⟩:=w3 hi au;have hl2:∀x:Int,zY ((r.aG.take i).map (·.ah)++[x])<=1073741824:=λx=>by simp;omega
  refine⟨(),?_,trivial⟩;rw[DH hi,bD hi,zO];unfold Wr Qz;cases hb:(b&&iL (r.aG.take i))with
  |false=>
   rw[<-Bool.and_assoc,hb];simp only[cG,cD,i1,i2,hl2,cW,hw,Bool.false_and,yf,yT]
  |true=>
   rw[<-Bool.and_assoc,hb];simp only[cG,i1,i2,hl2,cK,cW,ew (.inr (h.slots i hi)),hw,Bool.true_and,yf,yT]) (λb _=>by unfold Wr Qz;simp) (b:=()) trivial
 rw[zy]at e1;have:(b&&iL (r.aG.take 0))=b:=by simp[iL]
 rw[this]at e1;exact e1
def aDu{f:aS}{v:bU}{box:af aK}{r:bK}(e:m20 f v box=V (r,0))(h:ROk r):m26 f v box=V (if sgB r=J then(Z4 r,J,0)else(⟨[],0⟩,O,0)):=by
 unfold m26 O4;rw[e];simp only[Dw,qC (.inr h.count),qC (.inr h.time)];have ef:(bif vn (@Eq Int (bY r.aD) 1)then some (vn (@Eq Int (bY r.aI) 1))else some false)=some (vn (bY r.aD=1)&&vn (bY r.aI=1)):=by cases vn (bY r.aD=1)<;>rfl
 rw[ef];dsimp only;rw[al7 h];dsimp only;rw[fE,ct];unfold sgB Z4;cases (vn (bY r.aD=1)&&vn (bY r.aI=1))&&iL r.aG<;>rfl
def ayf{f:aS}{v:bU}{box:af aK}{r:bK}(e:m23 f v box=V r)(h:ROk r):m37 f v box=V (if sgB r=J then(Z4 r,J)else(⟨[],0⟩,O)):=by
 unfold m37 Qz;rw[e];simp only[ew (.inr h.count),ew (.inr h.time)];have ef:(bif vn (@Eq Int (bY r.aD) 1)then some (vn (@Eq Int (bY r.aI) 1))else some false)=some (vn (bY r.aD=1)&&vn (bY r.aI=1)):=by cases vn (bY r.aD=1)<;>rfl
 rw[ef];dsimp only;rw[ajM h];dsimp only;rw[fE,ct];unfold sgB Z4;cases (vn (bY r.aD=1)&&vn (bY r.aI=1))&&iL r.aG<;>rfl
def uC(r:bK)(M:Int):Nat->Int×Int
 |0=>(0,min (bY r.aI) M)
 |k+1=>(if cR r.aD (k:Nat)=J then min ((uC r M k).1+(uC r M k).2) M else(uC r M k).1,if k<zY r.aG then min ((uC r M k).2*bY r.aG[k]!) M else(uC r M k).2)
def aeY{r:bK}(h:ROk r){M:Int}(hM:1<=M):∀k,0<=(uC r M k).1/\(uC r M k).1<=M/\1<=(uC r M k).2/\(uC r M k).2<=M
 |0=>by
  have:=size_pos h.time;simp only[uC];omega
 |k+1=>by
  obtain⟨h1,h2,h3,h4⟩:=aeY h hM k;simp only[uC];refine⟨?_,?_,?_,?_⟩
  ·omega
  ·omega
  ·split
   ·rename_i c;have:=size_pos (h.slots k c);have:=yY h3 this au au;omega
   ·omega
  ·omega
def afR{P s zb:Int}(hs:1<=s)(hP:1<=P)(hV:1<=zb):min (P*min s zb) zb=min (P*s) zb:=by
 by_cases c:s<=zb
 ·grind
 ·rw[show min s zb=zb by omega];have k1:=zN hP (show 0<=zb by omega);have k2:=zN hP (show 0<=s by omega);omega
def Ek(r:bK):Nat->Int×Int
 |0=>(0,bY r.aI)
 |k+1=>(if cR r.aD (k:Nat)=J then min ((Ek r k).1+(Ek r k).2) 1099511627776 else(Ek r k).1,if k<zY r.aG then min ((Ek r k).2*bY r.aG[k]!) 1099511627776 else(Ek r k).2)
def Ua{r:bK}(h:ROk r):∀k,0<=(Ek r k).1/\(Ek r k).1<=1099511627776/\1<=(Ek r k).2/\(Ek r k).2<=2199023255553
 |0=>by
  have:=Bl h.time;simp only[Ek];omega
 |k+1=>by
  obtain⟨h1,h2,h3,h4⟩:=Ua h k;simp only[Ek];refine⟨?_,?_,?_,?_⟩
  ·omega
  ·omega
  ·split
   ·rename_i c;have:=size_pos (h.slots k c);have:=yY h3 this au au;omega
   ·omega
  ·omega
def Xo{r:bK}(h:ROk r){zb:Int}(hV:1<=zb)(hM:zb<=1099511627776):∀k,(uC r zb k).1=min (Ek r k).1 zb/\(uC r zb k).2=min (Ek r k).2 zb
 |0=>by
  refine⟨?_,rfl⟩;show (0:Int)=min 0 zb;omega
 |k+1=>by
  obtain⟨h1,h2⟩:=Xo h hV hM k;obtain⟨b1,b2,b3,b4⟩:=Ua h k;simp only[uC,Ek];refine⟨?_,?_⟩
  ·split
   ·omega
   ·exact h1
  ·split
   ·rename_i c;have hs:=size_pos (h.slots k c);rw[h2];generalize (Ek r k).2=P at*;by_cases c2:P<=zb
    ·rw[show min P zb=P by omega];omega
    ·rw[show min P zb=zb by omega];have k1:=va hs (show 0<=zb by omega);have k2:=va hs (show 0<=P by omega);omega
   ·exact h2
def vI(a b:Int):(if b<a then b else a)=min a b:=by split<;>omega
def ahp{r:bK}(h:ROk r)(box:af aK):VH ⟨box,0,bY r.aI,((zY r.aG+1:Nat):Int),0,r⟩=V ⟨box,(Ek r (zY r.aG+1)).1,(Ek r (zY r.aG+1)).2,((zY r.aG+1:Nat):Int),((zY r.aG+1:Nat):Int),r⟩:=by
 have hs:=h.sl;obtain⟨_,e1,_⟩:=cS (rnd:=XV) (zY r.aG+1) (λi (_:Unit)=>⟨box,(Ek r i).1,(Ek r i).2,((zY r.aG+1:Nat):Int),(i:Int),r⟩) (λi _=>True) (λi _ hi _=>by
  have hw:ak ((i:Int)+1)=((i+1:Nat):Int):=by rw[aL];omega
  have i1:(i:Int)<((zY r.aG+1:Nat):Int):=au;have i2:(0:Int)<=(i:Int):=au;obtain⟨b1,b2,b3,b4⟩:=Ua h i;have ws:ak ((Ek r i).1+(Ek r i).2)=(Ek r i).1+(Ek r i).2:=aL;refine⟨(),?_,trivial⟩;unfold XV P5;simp only[Ek];by_cases c:i<zY r.aG
  ·have c1:(i:Int)<(zY r.aG:Int):=au;have hz:=Bl (h.slots i c);have et:=Ol b3 b4 hz.1 hz.2;cases hc:cR r.aD (i:Nat)with
   |true=>simp only[cG,i1,i2,c,c1,cK,cW,sw (.inr h.count),hc,qC (.inr (h.slots i c)),et,ws,vI,hw]
   |false=>simp only[cG,cD,gK,i1,i2,c,c1,sw (.inr h.count),hc,qC (.inr (h.slots i c)),et,hw,yy]
  ·have c1:¬(i:Int)<(zY r.aG:Int):=au;cases hc:cR r.aD (i:Nat)with
   |true=>simp only[cG,cD,gK,i1,c,c1,sw (.inr h.count),hc,ws,vI,hw]
   |false=>simp only[cG,cD,i1,c,c1,IQ,sw (.inr h.count),hc,hw,yy]) (λb _=>by unfold XV P5;simp) (b:=()) trivial
 exact e1
def aih{box:af aK}(h:∀x∈box,NN x)(hl:zY box<=1000000)(hv:fH box<=1048576)(s:Int):VC ⟨s,1,box,(zY box:Int),0⟩=V ⟨s,fH box,box,(zY box:Int),(zY box:Int)⟩:=by
 obtain⟨_,e1,_⟩:=cS (rnd:=YR) (zY box) (λi (_:Unit)=>⟨s,fH (box.take i),box,(zY box:Int),(i:Int)⟩) (λi _=>True) (λi b hi _=>by
  obtain⟨i1,i2,hw⟩:=w3 hi hl;obtain⟨t1,t2⟩:=Cs h (i+1);obtain⟨u1,u2⟩:=Cs h i;have hz:=Bl (h _ (bf hi));have e:fH (box.take (i+1))=fH (box.take i)*bY box[i]! :=by
   rw[bD hi,BC,fH,fH,Int.mul_one]
  have et:=Ol (a:=fH (box.take i)) au au hz.1 hz.2;rw[show min (fH (box.take i)*bY box[i]!) 1099511627776=fH (box.take i)*bY box[i]! by rw[<-e];omega]at et;refine⟨(),?_,trivial⟩;rw[e];unfold YR PT;simp only[cG,i1,i2,cK,cW,qC (.inr (h _ (bf hi))),et,hw]) (λb _=>by unfold YR PT;simp) (b:=()) trivial
 rw[zy]at e1;exact e1
def ahM(r:bK)(zb:Int):Int:=(uC r zb (zY r.aG+1)).1
def azq{f:aS}{v:bU}{box:af aK}{r:bK}(e:m20 f v box=V (r,0))(h:ROk r)(hb:∀x∈box,NN x)(hl:zY box<=1000000)(hv:fH box<=1048576):T6 f v box=V (ahM r (fH box),0):=by
 have hs:=h.sl;have hp:=mH hb;have wl:ak ((zY r.aG:Int)+1)=((zY r.aG+1:Nat):Int):=by rw[aL];omega
 unfold T6 P5 PT;rw[e];simp only[cD,Dw,qC (.inr h.time),wl];rw[ahp h box];dsimp only;rw[fE,ct,aih hb hl hv];dsimp only;rw[fE,ct];unfold ahM;rw[(Xo h hp au _).1,vI]
def ahU{r:bK}(h:ROk r){zb:Int}(hV:1<=zb)(hV2:zb<=1048576):VQ ⟨zb,0,min (bY r.aI) zb,0,r⟩=V ⟨zb,(uC r zb (zY r.aG+1)).1,(uC r zb (zY r.aG+1)).2,((zY r.aG+1:Nat):Int),r⟩:=by
 have hs:=h.sl;obtain⟨_,e1,_⟩:=cS (rnd:=WU) (zY r.aG+1) (λi (_:Unit)=>⟨zb,(uC r zb i).1,(uC r zb i).2,(i:Int),r⟩) (λi _=>True) (λi _ hi _=>by
  have hw:ak ((i:Int)+1)=((i+1:Nat):Int):=by rw[aL];omega
  have i1:(i:Int)<=(zY r.aG:Int):=au;have i2:(0:Int)<=(i:Int):=au;obtain⟨b1,b2,b3,b4⟩:=aeY h hV i;have ws:ak ((uC r zb i).1+(uC r zb i).2)=(uC r zb i).1+(uC r zb i).2:=aL;refine⟨(),?_,trivial⟩;unfold WU Rx;simp only[uC];by_cases c:i<zY r.aG
  ·have c1:(i:Int)<(zY r.aG:Int):=au;have hz:=Bl (h.slots i c);have p1:(uC r zb i).2*min (bY r.aG[i]!) zb<=zb*zb:=yY b4 au au au;have p2:zb*zb<=1048576*1048576:=yY hV2 hV2 au au;have p3:0<=(uC r zb i).2*min (bY r.aG[i]!) zb:=zJ au au;have wp:ak ((uC r zb i).2*min (bY r.aG[i]!) zb)=(uC r zb i).2*min (bY r.aG[i]!) zb:=aL;have em:=afR hz.1 b3 hV;cases hc:cR r.aD (i:Nat)with
   |true=>simp only[cG,i1,i2,c,c1,cK,cW,j9 (.inr h.count),hc,ew (.inr (h.slots i c)),ws,vI,wp,em,hw]
   |false=>simp only[cG,cD,gK,i1,i2,c,c1,j9 (.inr h.count),hc,ew (.inr (h.slots i c)),vI,wp,em,hw,yy]
  ·have c1:¬(i:Int)<(zY r.aG:Int):=au;cases hc:cR r.aD (i:Nat)with
   |true=>simp only[cG,cD,gK,i1,c,c1,j9 (.inr h.count),hc,ws,vI,hw]
   |false=>simp only[cG,cD,i1,c,c1,IQ,j9 (.inr h.count),hc,hw,yy]) (λb _=>by
    unfold WU Rx;dsimp only;rw[fE];rfl) (b:=()) trivial
 exact e1
def aA5{f:aS}{v:bU}{box:af aK}{r:bK}(e:m23 f v box=V r)(h:ROk r)(hb:∀x∈box,NN x)(hl:zY box<=1000000)(hv:fH box<=1048576):m38 f v box=V (ahM r (fH box)):=by
 have hp:=mH hb;unfold m38 Rx;rw[e];dsimp only;rw[ann hb hl hv];rw[ew (.inr h.time)];dsimp only;rw[bL (show ¬1099511627776<fH box by omega),vI,ahU h hp hv];dsimp only;rw[fE,ct];rfl
structure CI (s:ay):Prop where
 lo:0<=s.aD.ah
 hi:s.aD.ag=zY s.aG
def sg1(a:aK):Prop:=a.ah=a.ag
structure SG (s:ay):Prop where
 vars:∀i,i<zY s.ai->sg1 s.ai[i]!
 count:sg1 s.aD
 slots:∀i,i<zY s.aG->sg1 s.aG[i]!
 time:sg1 s.aI
def aub{f:aS}{v:bU}{box:af aK}(h:Fits f v box):eR (zY f.ai) 8 (IW f v box):=by
 have hf:=Nl h.c;have h0:=tj h;have ho:eH f.bM<=8:=by have:=hf.o;unfold eH;omega
 exact(iG (hv:=qj f (e9 f v box)) (by simp[qj]) (Ej hf h0) _ f.bM J (zC _) hf.steps _ _ h0).weak au
def EI{f:aS}{v:bU}{box:af aK}(h:Fits f v box):ROk (fA f v box):=by
 have k:=aub h;refine⟨k.count,?_,k.sl,k.slots⟩;show NN (if v.iM=J then(IW f v box).aI else eE 0);split
 ·exact k.time
 ·exact mg ⟨by decide,by decide⟩
def aHt:bu:=dA
abbrev ash:=Bool
def d326:Td 0 ash:= .c [] [2] (.r 0 0 (ec 2 qb en) sn (λz=>z.1.1) (λx=>((x,()),(()))))
def axw:=(aU ln)
def apP:An:= .no
def IM(a0:Int):ash:=
 bif vn (a0=a0)then O else J
def aF4(a0:Int):bZ vp (aHt) 300 (apP) 326 (axw.c (a0,())) [] 0 d326.rd=V (IM a0):=by
 refine Eq.trans (b:=(
  V (bif vn (a0=a0)then O else J):aa ash)) aY ?_
 simp only[IM,cn,cO]
def az6:=eL vp 326 O axw d326 (λg=>V (IM g.1))
def ak1:EO az6:=λh=>kL (an:=apP) func326 aV aH h (c:=λg=>aF4 g.1)
def aGZ:bu:=(az6 dA)
abbrev av4:=Int
def d288:Td 0 av4:= .c [] [4] (.r 0 0 (ec 4 aP en) sn (λz=>z.1.1) (λx=>((x,()),(()))))
def axF:=(aU (aU ln))
def apC:An:= .no
def Mr(a0:Int)(a1:Int):av4:=
 bif IM a0 then bif IM a1 then 0 else-1 else bif IM a1 then 1 else bif vn (a0<a1)then-1 else bif vn (a1<a0)then 1 else 0
def aGg(a0:Int)(a1:Int):bZ vp (aGZ) 300 (apC) 288 (axF.c (a0,a1,())) [] 0 d288.rd=V (Mr a0 a1):=by
 refine Eq.trans (b:=(
  bif IM a0 then bif IM a1 then V (0)else V (-1)else bif IM a1 then V (1)else bif vn (a0<a1)then V (-1)else bif vn (a1<a0)then V (1)else V (0):aa av4)) aY ?_
 simp only[Mr,cn,cO]
def aGy:=eL vp 288 O axF d288 (λg=>V (Mr g.1 g.2.1))
def agD:EO aGy:=λh=>kL (an:=apC) func288 (ak1 aV) aH h (c:=λg=>aGg g.1 g.2.1)
structure uU where
 (t0 t1 t9:List Int)
 (t10 t11:Int)
def SM:Td 0 uU:= .c [] [0,1,9,10,11] (.r 0 0 (ec 0 (ql 3) (ec 1 (ql 3) (ec 9 (ql 3) (ec 10 aP (ec 11 aP en))))) sn (λz=>⟨z.1.1,z.1.2.1,z.1.t.1,z.1.t.2.1,z.1.q.1⟩) (λx=>((x.t0,x.t1,x.t9,x.t10,x.t11,()),(()))))
def vZ{α:Type}(p:uU)(go:uU->aa α)(e1 e2 e3:aa α):aa α:=
 bif vn (p.t11<p.t10)then if 0<=p.t11/\p.t11<zY p.t9 then bif vn (zY p.t1<=p.t11)then e1 else if 0<=p.t11/\p.t11<zY p.t1 then bif bif vn (Mr p.t9[zq p.t11]! p.t1[zq p.t11]! =0)then O else J then e2 else go (uU.mk p.t0 p.t1 p.t9 p.t10 (ak (p.t11+1)))else G else G else e3
def CO(p:uU):aa (aa uU):=
 vZ p (λs=>V (V s)) (V G) (V G) (V G)
def K9:=bI (CO)
abbrev ax3:=Int
def d251:Td 0 ax3:= .c [] [4] (.r 0 0 (ec 4 aP en) sn (λz=>z.1.1) (λx=>((x,()),(()))))
def amC(a0:af Int)(a1:af Int):aa ax3:=
 match K9 (uU.mk a0 a1 a0 (zY a0) 0)with|G=>G|V r1=>vZ r1 (λ_=>G) (V 1) (V (Mr r1.t9[zq r1.t11]! r1.t1[zq r1.t11]!)) (bif vn ((zY r1.t0:Int)<(zY r1.t1:Int))then V (-1)else V 0)
def aEq:=eL vp 251 O (lc (ql 3) (lc (ql 3) ln)) d251 (λg=>amC g.1 g.2.1)
def ag3:EO aEq:=λh=>kL (an:=(noTwo (.two (noTwo (SM.lp K9 .no)) .no))) (l:=[(bk f251 0,(SM.lp K9 .no))]) func251 (agD aV) (aA (aO SM) aH) h
abbrev aB4:=Int
def d188:Td 0 aB4:= .c [] [4] (.r 0 0 (ec 4 aP en) sn (λz=>z.1.1) (λx=>((x,()),(()))))
def Ls(a0:aC)(a1:aC):aa aB4:=
 match amC a0.aM a1.aM with|G=>G|V r1=>bif bif vn (r1=0)then O else J then V (r1)else bif vn (a0.aI<a1.aI)then V (-1)else bif vn (a1.aI<a0.aI)then V (1)else V (0)
def L3:=eL vp 188 O (lc (qg 47) (lc (qg 47) ln)) d188 (λg=>Ls g.1 g.2.1)
def tH:EO L3:=λh=>kL (an:= .no) func188 (ag3 aV) aH h
def aGm:bu:=(aDc dA)
abbrev au2:=Int
def d196:Td 0 au2:= .c [] [4] (.r 0 0 (ec 4 aP en) sn (λz=>z.1.1) (λx=>((x,()),(()))))
def axc:=(aU (aU ln))
def apM:An:= .no
def QE(a0:Int)(a1:Int):au2:=
 bif vn (a0<a1)then-1 else Zr (vn (a1<a0))
def aFa(a0:Int)(a1:Int):bZ vp (aGm) 300 (apM) 196 (axc.c (a0,a1,())) [] 0 d196.rd=V (QE a0 a1):=by
 refine Eq.trans (b:=(
  bif vn (a0<a1)then V (-1)else V (Zr (vn (a1<a0))):aa au2)) aY ?_
 simp only[QE,cn,cO]
def aAU:=eL vp 196 O axc d196 (λg=>V (QE g.1 g.2.1))
def ahr:EO aAU:=λh=>kL (an:=apM) func196 (alo aV) aH h (c:=λg=>aFa g.1 g.2.1)
def axj:bu:=(aAU dA)
structure vq where
 t5:Int
 (b0 b1:aC)
def TQ:Td 0 vq:= .c [] [2,3,5] (.r 0 2 (ec 2 (qp 0 0) (ec 3 (qp 1 0) (ec 5 aP en))) (sb 0 47 (lg 47) (sb 1 47 (lg 47) sn)) (λz=>⟨z.1.t.1,z.2.1,z.t.1⟩) (λx=>(((),(),x.t5,()),(x.b0,x.b1,()))))
def Dc{α:Type}(p:vq)(go:vq->aa α)(e1 e2:aa α):aa α:=
 match (bif vn (p.t5<zY p.b0.aM)then V (vn (p.t5<zY p.b1.aM))else V O)with|G=>G|V r1=>bif r1 then if 0<=p.t5/\p.t5<zY p.b0.aM then if 0<=p.t5/\p.t5<zY p.b1.aM then bif bif vn ((((),(),p.t5,()),p.b0,p.b1,()).snd.fst.aM[(((),(),p.t5,()),p.b0,p.b1,()).fst.snd.snd.fst.toNat]! =(((),(),p.t5,()),p.b0,p.b1,()).snd.snd.fst.aM[(((),(),p.t5,()),p.b0,p.b1,()).fst.snd.snd.fst.toNat]!)then O else J then if 0<=p.t5/\p.t5<zY p.b0.aM then if 0<=p.t5/\p.t5<zY p.b1.aM then e1 else G else G else go (vq.mk (ak (p.t5+1)) p.b0 p.b1)else G else G else e2
def Fq(p:vq):aa (aa vq):=
 Dc p (λs=>V (V s)) (V G) (V G)
def abZ:An:=(.two (.two (.rb [] 17) .no) .no)
def M9:=bI (Fq)
abbrev aBw:=Int
def d124:Td 0 aBw:= .c [] [4] (.r 0 0 (ec 4 aP en) sn (λz=>z.1.1) (λx=>((x,()),(()))))
def aAR:∀f∈([]:af Nat),bA (axj) f:=aH
def acF(a0:aC)(a1:aC):aa aBw:=
 match M9 (vq.mk 0 a0 a1)with|G=>G|V r2=>Dc r2 (λ_=>G) (V (QE r2.b0.aM[zq r2.t5]! r2.b1.aM[zq r2.t5]!)) (bif bif vn ((zY r2.b0.aM:Int)=(zY r2.b1.aM:Int))then O else J then V (QE (zY r2.b0.aM) (zY r2.b1.aM:Int))else V (QE r2.b0.aI r2.b1.aI))
def aGf:=eL vp 124 O (lc (qg 47) (lc (qg 47) ln)) d124 (λg=>acF g.1 g.2.1)
def XY:EO aGf:=λh=>kL (F:=axj) (an:=(noTwo (.two (noTwo (TQ.lp M9 abZ)) .no))) (l:=[(bk f124 0,(TQ.lp M9 abZ)),(.skip,(.rb [] 17))]) func124 (ahr aV) (aA (aO TQ) (aA aAR aH)) h
def aBQ:bu:=(Uz (ZG dA))
abbrev ay6:=aK×Int
def d214:Td 0 ay6:= .c [] [6,7] (.r 0 1 (ec 6 (qp 0 0) (ec 7 aP en)) (sb 0 34 (lg 34) sn) (λz=>(z.2.1,z.1.2.1)) (λx=>(((),x.2,()),(x.1,()))))
def axz:∀f∈([145]:af Nat),bA (aBQ) f:=(aA (jX (j8 bG)) aH)
def auO(a0:Int)(a1:Int)(a2:Int):aa ay6:=
 match bif bif jA a0 then O else J then V (J)else bif bif jA a1 then O else J then V (J)else V (vn (a2<1))with|G=>G|V r1=>bif r1 then V ((aK.mk (0) (0) (0),3))else match oc a0 a1 a2 with|G=>G|V r2=>V ((r2,0))
def aEM:=eL vp 214 O (aU (aU (aU ln))) d214 (λg=>auO g.1 g.2.1 g.t.1)
def ahE:EO aEM:=λh=>kL (F:=aBQ) (an:=(noTwo (.two (.two (.rb [145] 19) .no) .no))) (l:=[(.skip,(.rb [145] 19))]) func214 (sR (Bj aV)) (aA axz aH) h
abbrev aA8:=aK×Int
def d137:Td 0 aA8:= .c [] [4,5] (.r 0 1 (ec 4 (qp 0 0) (ec 5 aP en)) (sb 0 34 (lg 34) sn) (λz=>(z.2.1,z.1.2.1)) (λx=>(((),x.2,()),(x.1,()))))
def anU(a0:Int)(a1:Int):aa aA8:=
 match auO a0 a1 (1)with|G=>G|V r1=>V (r1)
def aGv:=eL vp 137 O (aU (aU ln)) d137 (λg=>anU g.1 g.2.1)
def aj8:EO aGv:=λh=>kL (an:= .no) func137 (ahE aV) aH h
structure DO where
 t5:List aK
 t7:Int
 t17:List Int
 (t18 t19:Int)
 t24:List bh
 (t25 t26:Int)
 b0:aS
def aem:Td 0 DO:= .c [] [1,5,7,17,18,19,24,25,26] (.r 0 3 (ec 1 (qp 0 0) (ec 5 (qo 1) (ec 7 aP (ec 17 (qo 2) (ec 18 aP (ec 19 aP (ec 24 (ql 131) (ec 25 aP (ec 26 aP en))))))))) (sb 0 26 (lg 26) (sr 1 34 (sr 2 129 sn))) (λz=>⟨z.t.1,z.1.t.1,z.t.2.1,z.1.q.1,z.1.q.2.1,z.1.q.t.1,z.1.q.t.2.1,z.1.q.q.1,z.2.1⟩) (λx=>(((),(),x.t7,(),x.t18,x.t19,x.t24,x.t25,x.t26,()),(x.b0,x.t5,x.t17,()))))
def BB{α:Type}(p:DO)(go:DO->aa α)(e1:aa α):aa α:=
 bif vn (p.t26<p.t25)then if 0<=p.t26/\p.t26<zY p.t24 then bif vn (p.t24[zq p.t26]!.bS=p.t7)then match anU p.t24[zq p.t26]!.ah p.t24[zq p.t26]!.ag with|G=>G|V r3=>if(p.t5++[r3.fst]).length<=1073741824 then go (DO.mk (p.t5++[r3.fst]) p.t7 p.t17 p.t18 p.t19 p.t24 p.t25 (ak (p.t26+1)) p.b0)else G else go (DO.mk p.t5 p.t7 p.t17 p.t18 p.t19 p.t24 p.t25 (ak (p.t26+1)) p.b0)else G else e1
def Qa(p:DO):aa (aa DO):=
 BB p (λs=>V (V s)) (V G)
def XC:=bI (Qa)
structure FO where
 t5:List aK
 t17:List Int
 (t18 t19:Int)
 b0:aS
def adL:Td 0 FO:= .c [] [1,5,17,18,19] (.t (b6.s 5 [] 34) (.c [] [1,5,17,18,19] (.r 0 3 (ec 1 (qp 0 0) (ec 5 (qo 1) (ec 17 (qo 2) (ec 18 aP (ec 19 aP en))))) (sb 0 26 (lg 26) (sr 1 34 (sr 2 129 sn))) (λz=>⟨z.t.1,z.t.2.1,z.1.t.2.1,z.1.q.1,z.2.1⟩) (λx=>(((),(),(),x.t18,x.t19,()),(x.b0,x.t5,x.t17,()))))))
def Kn{α:Type}(p:FO)(go:FO->aa α)(e1:aa α):aa α:=
 bif vn (p.t19<p.t18)then if 0<=p.t19/\p.t19<zY p.t17 then if 129=129/\zq p.t19<zY p.t17 then match XC (DO.mk p.t5 p.t17[zq p.t19]! p.t17 p.t18 p.t19 p.b0.ai (zY p.b0.ai) 0 p.b0)with|G=>G|V r1=>BB r1 (λ_=>G) (go (FO.mk r1.t5 r1.t17 r1.t18 (ak (r1.t19+1)) r1.b0))else G else G else e1
def Jd(p:FO):aa (aa FO):=
 Kn p (λs=>V (V s)) (V G)
def aqM:An:=(noTwo (noTwo (.two (noTwo (noTwo (aem.lp XC .no))) .no)))
def OG:=bI (Jd)
abbrev E76:=(af aK)×Int
def d76:Td 0 E76:= .c [] [2,3] (.t (b6.s 2 [] 34) (.c [] [2,3] (.r 0 1 (ec 2 (qo 0) (ec 3 aP en)) (sr 0 34 sn) (λz=>(z.2.1,z.1.2.1)) (λx=>(((),x.2,()),(x.1,()))))))
def m76(a0:aS):aa E76:=
 match ab7 a0 with|G=>G|V r4=>bif bif vn (r4=0)then O else J then V ([],r4)else match OG (FO.mk [] [1,3] (2:Int) 0 a0)with|G=>G|V r5=>Kn r5 (λ_=>G) (V (r5.t5,0))
def e76:=eL vp 76 O (lc (qg 26) ln) d76 (λg=>m76 g.1)
def aeA:EO e76:=λh=>kL (an:=(noTwo (noTwo (noTwo (.two (noTwo (adL.lp OG aqM)) .no))))) (l:=[(bk f76 0,(adL.lp OG aqM)),(bk f76 1,(aem.lp XC .no))]) func76 (aj8 (V5 aV)) (aA (aO adL) (aA (aO aem) aH)) h
structure Dy where
 t3:List aK
 t5:Int
 t10:List Int
 (t11 t12:Int)
 t17:List bh
 (t18 t19:Int)
 b0:aS
def ac8:Td 0 Dy:= .c [] [1,3,5,10,11,12,17,18,19] (.r 0 3 (ec 1 (qp 0 0) (ec 3 (qo 1) (ec 5 aP (ec 10 (qo 2) (ec 11 aP (ec 12 aP (ec 17 (ql 131) (ec 18 aP (ec 19 aP en))))))))) (sb 0 26 (lg 26) (sr 1 34 (sr 2 129 sn))) (λz=>⟨z.t.1,z.1.t.1,z.t.2.1,z.1.q.1,z.1.q.2.1,z.1.q.t.1,z.1.q.t.2.1,z.1.q.q.1,z.2.1⟩) (λx=>(((),(),x.t5,(),x.t11,x.t12,x.t17,x.t18,x.t19,()),(x.b0,x.t3,x.t10,()))))
def AX{α:Type}(p:Dy)(go:Dy->aa α)(e1:aa α):aa α:=
 bif vn (p.t19<p.t18)then if 0<=p.t19/\p.t19<zY p.t17 then bif vn (p.t17[zq p.t19]!.bS=p.t5)then match j4 p.t17[zq p.t19]!.ah p.t17[zq p.t19]!.ag 1with|G=>G|V r3=>if(p.t3++[r3.fst]).length<=1073741824 then go (Dy.mk (p.t3++[r3.fst]) p.t5 p.t10 p.t11 p.t12 p.t17 p.t18 (ak (p.t19+1)) p.b0)else G else go (Dy.mk p.t3 p.t5 p.t10 p.t11 p.t12 p.t17 p.t18 (ak (p.t19+1)) p.b0)else G else e1
def Rj(p:Dy):aa (aa Dy):=
 AX p (λs=>V (V s)) (V G)
def WM:=bI (Rj)
structure Gs where
 t3:List aK
 t10:List Int
 (t11 t12:Int)
 b0:aS
def abq:Td 0 Gs:= .c [] [1,3,10,11,12] (.t (b6.s 3 [] 34) (.c [] [1,3,10,11,12] (.r 0 3 (ec 1 (qp 0 0) (ec 3 (qo 1) (ec 10 (qo 2) (ec 11 aP (ec 12 aP en))))) (sb 0 26 (lg 26) (sr 1 34 (sr 2 129 sn))) (λz=>⟨z.t.1,z.t.2.1,z.1.t.2.1,z.1.q.1,z.2.1⟩) (λx=>(((),(),(),x.t11,x.t12,()),(x.b0,x.t3,x.t10,()))))))
def JX{α:Type}(p:Gs)(go:Gs->aa α)(e1:aa α):aa α:=
 bif vn (p.t12<p.t11)then if 0<=p.t12/\p.t12<zY p.t10 then if 129=129/\zq p.t12<zY p.t10 then match WM (Dy.mk p.t3 p.t10[zq p.t12]! p.t10 p.t11 p.t12 p.b0.ai (zY p.b0.ai) 0 p.b0)with|G=>G|V r1=>AX r1 (λ_=>G) (go (Gs.mk r1.t3 r1.t10 r1.t11 (ak (r1.t12+1)) r1.b0))else G else G else e1
def JM(p:Gs):aa (aa Gs):=
 JX p (λs=>V (V s)) (V G)
def aqa:An:=(noTwo (noTwo (.two (noTwo (noTwo (ac8.lp WM .no))) .no)))
def O1:=bI (JM)
abbrev E39:=af aK
def d39:Td 0 E39:= .c [] [2] (.r 0 1 (ec 2 (qo 0) en) (sr 0 34 sn) (λz=>z.2.1) (λx=>(((),()),(x,()))))
def m39(a0:aS):aa E39:=
 match O1 (Gs.mk [] [1,3] (2:Int) 0 a0)with|G=>G|V r4=>JX r4 (λ_=>G) (V (r4.t3))
def e39:=eL vp 39 O (lc (qg 26) ln) d39 (λg=>m39 g.1)
def asH:EO e39:=λh=>kL (an:=(noTwo (noTwo (.two (noTwo (abq.lp O1 aqa)) .no)))) (l:=[(bk f39 0,(abq.lp O1 aqa)),(bk f39 1,(ac8.lp WM .no))]) func39 (Eg aV) (aA (aO abq) (aA (aO ac8) aH)) h
def D7(v:bh):aK:=if v.ah=v.ag then⟨v.ah,v.ah,0⟩else⟨v.ah,v.ag,1⟩
def acR{a b:Int}(h: -1048576<=a/\a<=b/\b<=1048576):ak (a+ak (ak ((ak (b-a)).tdiv 1)*1))=b:=by
 have w1:ak (b-a)=b-a:=aL;rw[w1,Int.tdiv_one,w1,Int.mul_one,w1,aL];omega
def amt{v:bh}(h: -1048576<=v.ah/\v.ah<=v.ag/\v.ag<=1048576):anU v.ah v.ag=V (D7 v,0):=by
 unfold anU auO oc jA jc D7;rw[acR h];have d1:vn (-1099511627776<=v.ah)=J:=oR;have d2:vn (v.ah<=1099511627776)=J:=oR;have d3:vn (-1099511627776<=v.ag)=J:=oR;have d4:vn (v.ag<=1099511627776)=J:=oR;have d5:vn (v.ag<v.ah)=O:=fE;by_cases he:v.ah=v.ag
 ·simp[d1,d2,d3,d4,d5,he]
 ·simp[d1,d2,d3,d4,d5,he]
def arx{v:bh}(h: -1048576<=v.ah/\v.ah<=v.ag/\v.ag<=1048576):j4 v.ah v.ag 1=V (D7 v,0):=by
 unfold j4 sA D7;rw[acR h];have d1:vn (-1099511627776<=v.ah)=J:=oR;have d2:vn (v.ah<=1099511627776)=J:=oR;have d3:vn (-1099511627776<=v.ag)=J:=oR;have d4:vn (v.ag<=1099511627776)=J:=oR;have d5:vn (v.ag<v.ah)=O:=fE;by_cases he:v.ah=v.ag
 ·simp[d1,d2,d3,d4,d5,he]
 ·simp[d1,d2,d3,d4,d5,he]
def kU(kind:Int)(l:af bh):af aK:=(l.filter λv=>vn (v.bS=kind)).map D7
def Jr(kind:Int)(l:af bh)(v:bh):kU kind (l++[v])=if v.bS=kind then kU kind l++[D7 v]else kU kind l:=by
 unfold kU;rw[xh,zO];by_cases h:v.bS=kind<;>simp[h]
def AD(kind:Int)(l:af bh):zY (kU kind l)<=zY l:=by
 unfold kU;rw[zB];exact yq _ _
def Og(f:aS)(hv:cZ f.ai)(hl:zY f.ai<=1000000)(acc:af aK)(ha:zY acc<=1000000)(kind:Int)(ks:af Int)(n i:Int):XC ⟨acc,kind,ks,n,i,f.ai,(zY f.ai:Int),0,f⟩=V ⟨acc++kU kind f.ai,kind,ks,n,i,f.ai,(zY f.ai:Int),(zY f.ai:Int),f⟩:=by
 obtain⟨v,e1,hV⟩:=cS (rnd:=Qa) (zY f.ai) (λj (b:af aK)=>⟨b,kind,ks,n,i,f.ai,(zY f.ai:Int),(j:Int),f⟩) (λj b=>b=acc++kU kind (f.ai.take j)) (λj b hj hb=>by
  have hw:=jQ hj hl;have hm:=amt (hv _ (bf hj));have hlen:=AD kind (f.ai.take j);rw[zD]at hlen;have hi1:(j:Int)<(zY f.ai:Int):=au;have hi0:(0:Int)<=(j:Int):=au;rw[bD hj,Jr];by_cases hk:f.ai[j]!.bS=kind
  ·refine⟨acc++(kU kind (f.ai.take j)++[D7 f.ai[j]!]),?_,by rw[bC hk]⟩;subst hb;have hl2:zY ((acc++kU kind (f.ai.take j))++[D7 f.ai[j]!])<=1073741824:=by
    rw[zh,zh,ym];omega
   unfold Qa BB;dsimp only;simp only[cG,hi1,hi0,cK,cW,hk,hm,hl2,hw];rw[yS]
  ·refine⟨b,?_,by rw[bL hk];exact hb⟩;unfold Qa BB;dsimp only;simp only[cG,cD,hi1,hi0,cW,hk,hw]) (λb _=>by unfold Qa BB;simp) (b:=acc) (by simp[kU])
 rw[zy]at hV;rw[<-hV];exact e1
def NW(f:aS)(hv:cZ f.ai)(hl:zY f.ai<=1000000)(acc:af aK)(ha:zY acc<=1000000)(kind:Int)(ks:af Int)(n i:Int):WM ⟨acc,kind,ks,n,i,f.ai,(zY f.ai:Int),0,f⟩=V ⟨acc++kU kind f.ai,kind,ks,n,i,f.ai,(zY f.ai:Int),(zY f.ai:Int),f⟩:=by
 obtain⟨v,e1,hV⟩:=cS (rnd:=Rj) (zY f.ai) (λj (b:af aK)=>⟨b,kind,ks,n,i,f.ai,(zY f.ai:Int),(j:Int),f⟩) (λj b=>b=acc++kU kind (f.ai.take j)) (λj b hj hb=>by
  have hw:=jQ hj hl;have hm:=arx (hv _ (bf hj));have hlen:=AD kind (f.ai.take j);rw[zD]at hlen;have hi1:(j:Int)<(zY f.ai:Int):=au;have hi0:(0:Int)<=(j:Int):=au;rw[bD hj,Jr];by_cases hk:f.ai[j]!.bS=kind
  ·refine⟨acc++(kU kind (f.ai.take j)++[D7 f.ai[j]!]),?_,by rw[bC hk]⟩;subst hb;have hl2:zY ((acc++kU kind (f.ai.take j))++[D7 f.ai[j]!])<=1073741824:=by
    rw[zh,zh,ym];omega
   unfold Rj AX;dsimp only;simp only[cG,hi1,hi0,cK,cW,hk,hm,hl2,hw];rw[yS]
  ·refine⟨b,?_,by rw[bL hk];exact hb⟩;unfold Rj AX;dsimp only;simp only[cG,cD,hi1,hi0,cW,hk,hw]) (λb _=>by unfold Rj AX;simp) (b:=acc) (by simp[kU])
 rw[zy]at hV;rw[<-hV];exact e1
def mX(f:aS):af aK:=kU 1 f.ai++kU 3 f.ai
def adz(f:aS)(hv:cZ f.ai)(hl:zY f.ai<=1000):OG ⟨[],[1,3],2,0,f⟩=V ⟨mX f,[1,3],2,2,f⟩:=by
 have b1:=AD 1 f.ai;have e1:=Og f hv au [] (by simp) 1 [1,3] 2 0;have e2:=Og f hv au (kU 1 f.ai) au 3 [1,3] 2 1;have w0:ak 1=1:=rfl;have w1:ak 2=2:=rfl;have r1:Jd ⟨[],[1,3],2,0,f⟩=V (V ⟨kU 1 f.ai,[1,3],2,1,f⟩):=by
  unfold Jd Kn BB;simp[e1,w0]
 have r2:Jd ⟨kU 1 f.ai,[1,3],2,1,f⟩=V (V ⟨mX f,[1,3],2,2,f⟩):=by
  unfold Jd Kn BB;simp[e2,w1,mX]
 unfold OG;rw[bP r1,bP r2];exact cq λr=>by unfold Jd Kn BB;simp
def abp(f:aS)(hv:cZ f.ai)(hl:zY f.ai<=1000):O1 ⟨[],[1,3],2,0,f⟩=V ⟨mX f,[1,3],2,2,f⟩:=by
 have b1:=AD 1 f.ai;have e1:=NW f hv au [] (by simp) 1 [1,3] 2 0;have e2:=NW f hv au (kU 1 f.ai) au 3 [1,3] 2 1;have w0:ak 1=1:=rfl;have w1:ak 2=2:=rfl;have r1:JM ⟨[],[1,3],2,0,f⟩=V (V ⟨kU 1 f.ai,[1,3],2,1,f⟩):=by
  unfold JM JX AX;simp[e1,w0]
 have r2:JM ⟨kU 1 f.ai,[1,3],2,1,f⟩=V (V ⟨mX f,[1,3],2,2,f⟩):=by
  unfold JM JX AX;simp[e2,w1,mX]
 unfold O1;rw[bP r1,bP r2];exact cq λr=>by unfold JM JX AX;simp
def ark(f:aS)(h:fK f.bM+kS (f.ax.map (·.aF))<=900)(hh:zY f.ax<=1000000)(hvl:zY f.ai<=1000):m76 f=V (if rH f=0 then(mX f,0)else([],rH f)):=by
 unfold m76 Kn BB;rw[Wy f h hh au];dsimp only;by_cases hc:rH f=0
 ·rw[bC hc,bX hc];have hv:=kQ hc;rw[show ((↑(2:Int):Int))=2 from rfl,adz f hv hvl];simp
 ·rw[bL hc,bW hc];rfl
def afl(f:aS)(hv:cZ f.ai)(hvl:zY f.ai<=1000):m39 f=V (mX f):=by
 unfold m39 JX AX;rw[show ((↑(2:Int):Int))=2 from rfl,abp f hv hvl];simp
def aeH:bu:=rz vp (e35 (e40 dA)) (λf=>zc f 35||zc f 40) 300 60
def YG:bE vp aeH:=⟨AF (u6 (u5 aV)).ok (u6 (u5 aV)).nat 300 60,sN (u6 (u5 (aV (P:=vp)))).nat 300 60⟩
def f45:aS:=⟨[⟨⟨#[120]⟩,1,0,3,0⟩],[],[⟨1,1,0,0,⟨15,0,[⟨24,0,[]⟩,⟨0,2,[]⟩]⟩,[],[],[]⟩]⟩
def v45:bU:=⟨[],O⟩
def aif:aS->Bool
 |⟨[a],[],[⟨d,c,v,n,⟨o,m,[⟨o1,n1,[]⟩,⟨o2,n2,[]⟩]⟩,[],[],[]⟩]⟩=>vn (a=⟨⟨#[120]⟩,1,0,3,0⟩)&&vn ([d,c,v,n,o,m,o1,n1,o2,n2]=[1,1,0,0,15,0,24,0,0,2])
 |_=>O
def aj0{f:aS}(h:aif f=J):f=f45:=by
 unfold aif at h;split at h
 ·simp only[zi,decide_eq_true_eq,List.cons.injEq,and_true]at h;obtain⟨rfl,rfl,rfl,rfl,rfl,rfl,rfl,rfl,rfl,rfl,rfl⟩:=h;rfl
 ·cases h
def ZL{β:Type}(T:af (af aK×β))(g:aS×bU×af aK×Unit):aa β:=bif aif g.1&&vn (g.2.1=v45)then(T.find? λp=>vn (p.1=g.2.2.1)).map (·.2)else G
def W4{β:Type}{T:af (af aK×β)}{g:aS×bU×af aK×Unit}{b:β}(h:ZL T g=V b):∃x,(x,b)∈T/\g=(f45,v45,x,()):=by
 obtain⟨f,v,x,_⟩:=g;unfold ZL at h;cases k:aif f&&vn (v=v45)with
 |false=>simp only[k]at h;cases h
 |true=>
  simp only[k,cK]at h;rw[zi,decide_eq_true_eq]at k;obtain⟨p,h1,rfl⟩:=zn.1 h;have h2:=List.find?_some h1;rw[decide_eq_true_eq]at h2;exact⟨x,h2▸List.mem_of_find?_eq_some h1,by rw[aj0 k.1,k.2]⟩
def t25:af (af aK×Int×Int):=[([⟨0,3,1⟩],2,0),([⟨0,1,1⟩],1,0),([⟨2,3,1⟩],1,0)]
def t26:af (af aK×aC×Bool×Int):=[([⟨0,3,1⟩],⟨[],0⟩,O,0),([⟨0,1,1⟩],⟨[1],0⟩,J,0),([⟨2,3,1⟩],⟨[0],0⟩,J,0)]
def aDC:gv vp aeH 0 300 25 .no:=cH (l:=[]) func25 (bT aY) aY aH
def aC6:gv vp aeH 0 300 26 .no:=cH (l:=[]) func26 (bT aY) aY aH
def k25:(t25.map λp=>bZ vp aeH 300 .no 25 (A25.c (f45,v45,p.1,())) [] 0 d25.rd)=t25.map λp=>V p.2:=aY
def k26:(t26.map λp=>bZ vp aeH 300 .no 26 (A26.c (f45,v45,p.1,())) [] 0 d26.rd)=t26.map λp=>V p.2:=aY
def aHy:HL vp 25 A25 d25 (ZL t25):=λg b hb=>by
 obtain⟨x,h1,rfl⟩:=W4 hb;exact(nK (out:=λp=>gd vp 25 0 (d25.pat p)) (p:=b) YG aDC d25.ok (λp=>aY) (jT aY) (kg aY) (List.map_inj_left.1 k25 _ h1)).2
def aE7:HL vp 26 A26 d26 (ZL t26):=λg b hb=>by
 obtain⟨x,h1,rfl⟩:=W4 hb;exact(nK (out:=λp=>gd vp 26 0 (d26.pat p)) (p:=b) YG aC6 d26.ok (λp=>aY) (jT aY) (kg aY) (List.map_inj_left.1 k26 _ h1)).2
def x25:bu->bu:=eL vp 25 O A25 d25 (ZL t25)
def x26:bu->bu:=eL vp 26 O A26 d26 (ZL t26)
def arB{F:bu}(h:bE vp F):bE vp (x25 F):=gj (sc:=A9) ei aHy ⟨_,func25,aY,aY⟩ (λ_=>aY) (λ_=>aY) h
def arp{F:bu}(h:bE vp F):bE vp (x26 F):=gj (sc:=A9) ei aE7 ⟨_,func26,aY,aY⟩ (λ_=>aY) (λ_=>aY) h
def F45:bu:=x25 (x26 (e35 (e40 dA)))
def adE:bE vp F45:=arB (arp (u6 (u5 aV)))
abbrev E45:=Bool
def d45:Td 0 E45:= .c [] [0] (.r 0 0 (ec 0 qb en) sn (λz=>z.1.1) (λx=>((x,()),(()))))
def A45:=ln
def m45:E45:=J
def aC8:Prop:=HL vp 45 A45 d45 (λ_=>V m45)
def e45:=eL vp 45 O A45 d45 (λ_=>V m45)
def ag9(hv:aC8){F:bu}(h:bE vp F):bE vp (e45 F):=gj (sc:=A9) ei hv ⟨_,func45,aY,aY⟩ (λ_=>aY) (λ_=>aY) h
def adX:EP e45:=λh=>kP h
def t45:rz vp F45 (λf=>zc f 25||zc f 26||zc f 35||zc f 40) 300 60 Bool 45 [] [] 0 (U2 UM)=V J:=aY
def UO{P:Program}{f:FuncId}{xs:af AV}{d:AV}(h:Iv.Fn P f xs [] (λa s=>a=d/\s=[]))(ha:∀ρ:Gh,xs.map (b7.sub ρ)=xs)(hd:∀ρ:Gh,d.sub ρ=d):NR P f xs [] 0 ⟨d,[],0⟩:=λρ=>by
 rw[ha ρ];exact h.mono λa s ⟨h1,h2⟩=>⟨ρ,λ_ _=>⟨rfl,rfl⟩,by rw[h1];exact(hd ρ).symm,by rw[h2];exact List.Perm.refl _⟩
def auM:gd vp 45 0 (d45.pat m45)=⟨.b J,[],0⟩:=aY
def aHi:aC8:=λg b hb=>by
 cases hb;rw[auM];exact UO (UD (AF (P:=vp) adE.ok adE.nat 300 60) P0.b rfl (λd hd=>by cases hd) t45).2 (λ_=>rfl) (λρ=>kN 2 aY)
def aue:bu:=(e21 dA)
def ag6:bE vp aue:=(asC aV)
abbrev axB:=Int
def d119:Td 0 axB:= .c [] [6] (.r 0 0 (ec 6 aP en) sn (λz=>z.1.1) (λx=>((x,()),(()))))
def ayc:=(lc (qg 26) (lc (qg 29) (lc (ql 34) ln)))
def aqI:An:= .no
def axL:gv vp (aue) 0 300 119 (aqI):=cH (l:=[]) func119 (bT aY) aY aH
def amy(a0:aS)(a1:bU)(a2:af aK):aa axB:=
 match m21 a0 a1 a2 with|G=>G|V r1=>V (r1)
def aFw(a0:aS)(a1:bU)(a2:af aK):bZ vp (aue) 300 (aqI) 119 (ayc.c (a0,a1,a2,())) [] 0 d119.rd=amy a0 a1 a2:=aY
def aBt:=eL vp 119 O ayc d119 (λg=>amy g.1 g.2.1 g.t.1)
def ah8{F:bu}(h:bE vp F):bE vp (aBt F):=gj (sc:=A9) ei (fe ag6 axL (λ_=>aY) (λ_=>aY) λg=>aFw g.1 g.2.1 g.t.1) ⟨_,func119,aY,aY⟩ (λ_=>aY) (λ_=>aY) h
def F55:bu:=(aBt dA)
def arb:bE vp F55:=(ah8 aV)
abbrev E55:=Int
def d55:Td 0 E55:= .c [] [4] (.r 0 0 (ec 4 aP en) sn (λz=>z.1.1) (λx=>((x,()),(()))))
def A55:=(lc (qg 26) (lc (qg 29) ln))
def ayX:An:=(noTwo (.two (noTwo (.two (.rb [] 14) .no)) .no))
def aGB:∀f∈([]:af Nat),bA (F55) f:=aH
def aE9:gv vp (F55) 0 300 55 (ayX):=cH (l:=[(.skip,(.rb [] 14))]) func55 (bT aY) aY (aA aGB aH)
def m55(a0:aS)(a1:bU):aa E55:=
 match amy a0 a1 []with|G=>G|V r1=>match bif bif vn (r1=0)then O else J then V (bif vn (r1=2)then O else J)else V (O)with|G=>G|V r2=>bif r2 then V (r1)else V (0)
def c55(a0:aS)(a1:bU):bZ vp (F55) 300 (ayX) 55 (A55.c (a0,a1,())) [] 0 d55.rd=m55 a0 a1:=aY
def e55:=eL vp 55 O A55 d55 (λg=>m55 g.1 g.2.1)
def ate{F:bu}(h:bE vp F):bE vp (e55 F):=gj (sc:=A9) ei (fe arb aE9 (λ_=>aY) (λ_=>aY) λg=>c55 g.1 g.2.1) ⟨_,func55,aY,aY⟩ (λ_=>aY) (λ_=>aY) h
def F5{F:bu}{f:Nat}(h:bA F f):bA (e55 F) f:=gH h (λ_=>aY)
def tg{α:Type}{c:Nat->α->Int}{k:Int}(hk:k≠0)(h:∀i x,c i x≠k):∀(l:af α) (i:Nat),cu c l i≠k
 |[],_=>by unfold cu;omega
 |x::l,i=>by
  unfold cu;have:=tg hk h l (i+1);have:=h i x;split<;>assumption
def Rw(vars:af bh)(inp:Bool)(t:az):fu vars inp t≠2:=by unfold fu;grind
def Bx(f:aS):∀(top:Bool) (l:af aB),b8 f top l≠2
 |_,[]=>by rw[b8];decide
 |top,s::l=>by
  rw[b8];have h1:=Bx f O s.aQ;have h2:=Bx f O s.aX;have h3:=Bx f top l;have h0:pg f (top&&l.isEmpty) s≠2:=by
   have:=Rw f.ai O s.aF;unfold pg;grind
  grind
termination_by _ l=>ze l
decreasing_by
 all_goals first|exact(bw (zk ..)).1|exact(bw (zk ..)).2|exact dY _ _
def auk(f:aS):rH f≠2:=by
 have h1:jP f.ai≠2:=by
  have:=tg (c:=nX f.ai) (k:=2) (by decide) (λi x=>by unfold nX;grind) f.ai 0;unfold jP;grind
 have h2:=tg (c:=lu f) (k:=2) (by decide) (λi x=>by have:=Rw f.ai J x.aF;unfold lu;grind) f.ax 0;have h3:=Bx f J f.bM;unfold rH;grind
def cdA(f:aS)(v:bU):Int:=if rH f≠0 then rH f else if zY v.bz≠(f.ai.filter (kd 2)).length then 1 else cu (jI v.bz) (f.ai.filter (kd 2)) 0
def avn(f:aS)(v:bU):cdA f v≠2:=by
 have:=auk f;have:=tg (c:=jI v.bz) (k:=2) (by decide) (λi x=>by
  unfold jI;cases vn (v.bz[i]! <x.ah)<;>cases vn (x.ag<v.bz[i]!)<;>decide) (f.ai.filter (kd 2)) 0
 unfold cdA;grind
def ahd(f:aS)(v:bU):BM f v []=cdA f v\/(cdA f v=0/\BM f v []=2):=by
 unfold BM cdA;by_cases h1:rH f=0
 case neg=>simp[h1]
 by_cases h2:zY v.bz=zY (f.ai.filter (kd 2))
 case neg=>simp[h1,h2]
 by_cases h3:cu (jI v.bz) (f.ai.filter (kd 2)) 0=0
 case neg=>simp[h1,h2,h3]
 by_cases h4:zY (eo f.ai)=0
 ·have h5:=xu.1 h4;simp[h1,h2,h3,h5,cu]
 ·have h5:¬(0:Nat)=zY (eo f.ai):=λh=>h4 h.symm;simp[h1,h2,h3,h5]
def aBY{f:aS}(h:fK f.bM+kS (f.ax.map (·.aF))<=900)(hh:zY f.ax<=1000)(hl:zY f.ai<=1000)(v:bU):m55 f v=V (cdA f v):=by
 unfold m55 amy;rw[awQ h hh hl];have:=avn f v;rcases ahd f v with k|⟨k1,k2⟩
 ·rw[k];by_cases c0:cdA f v=0<;>simp[c0,this]
 ·rw[k1,k2];rfl
def Ju{α:Type}[Inhabited α]{c:Nat->α->Int}:∀(l:af α) (i:Nat),(∀j,j<zY l->c (i+j) l[j]! =0)->cu c l i=0
 |[],_,_=>rfl
 |x::l,i,h=>by
  unfold cu;have h0:=h 0 (by simp);rw[yg]at h0;rw[bC (show c i x=0 from h0)];refine Ju l (i+1) λj hj=> ?_;have:=h (j+1) (by simpa using hj);rw[show i+1+j=i+(j+1)by omega];simpa using this
def aeF(f:aS):mX f=(eo f.ai).map D7:=by
 unfold mX kU eo;rw[zO];rfl
def Uk{f:aS}(hc:rH f=0){j:Nat}(hj:j<zY (eo f.ai)): -1048576<=(eo f.ai)[j]!.ah/\(eo f.ai)[j]!.ah<=(eo f.ai)[j]!.ag/\(eo f.ai)[j]!.ag<=1048576:=by
 refine kQ hc _ ?_;have:=bf hj;unfold eo at this;rcases zP.1 this with k|k<;>exact(z8.1 k).1
def aew{l:af Int}(h:zY l<=1000):m35 l=V l:=by unfold m35;rw[gM]
def iE:af Int->af Int->Int
 |[],[]=>0
 |[],_::_=> -1
 |_::_,[]=>1
 |x::a,y::b=>if x<y then-1 else if y<x then 1 else iE a b
def rQ:∀a b,iE b a= -iE a b
 |[],[]=>rfl
 |[],_::_=>rfl
 |_::_,[]=>rfl
 |x::a,y::b=>by
  have:=rQ a b;unfold iE;split<;>split<;>(try split)<;>omega
def ES:∀a b c,iE a b<=0->iE b c<=0->iE a c<=0
 |[],[],_,_,h=>h
 |[],_::_,[],_,h=>by unfold iE at h;omega
 |[],_::_,_::_,_,_=>by unfold iE;omega
 |_::_,[],_,h,_=>by unfold iE at h;omega
 |_::_,_::_,[],_,h=>by unfold iE at h;omega
 |x::a,y::b,z::c,h,k=>by
  have:=ES a b c;simp only[iE]at h k ⊢;split at h<;>split at k<;>split<;>(try split)<;>(try split at h)<;>(try split at k)<;>omega
def sQ:∀a b,iE a b=0->a=b
 |[],[],_=>rfl
 |[],_::_,h=>by unfold iE at h;omega
 |_::_,[],h=>by unfold iE at h;omega
 |x::a,y::b,h=>by
  unfold iE at h;split at h
  ·omega
  ·split at h
   ·omega
   ·rw[sQ a b h,show x=y by omega]
def JO:∀a,iE a a=0
 |[]=>rfl
 |x::a=>by unfold iE;rw[JO a];simp
def dJ(x y:aC):Int:=if iE x.aM y.aM≠0 then iE x.aM y.aM else if x.aI<y.aI then-1 else if y.aI<x.aI then 1 else 0
def dQ(a b:aC):dJ b a= -dJ a b:=by
 have:=rQ a.aM b.aM;unfold dJ;grind
def ni(a b c:aC)(h:dJ a b<=0)(k:dJ b c<=0):dJ a c<=0:=by
 have h1:=ES a.aM b.aM c.aM;have h2:=sQ a.aM b.aM;have h3:=sQ b.aM c.aM;have h4:=rQ a.aM c.aM;have h5:=ES c.aM a.aM b.aM;have h6:=ES b.aM c.aM a.aM;have h7:=rQ b.aM c.aM;have h8:=rQ a.aM b.aM;unfold dJ at*;by_cases e1:iE a.aM b.aM=0
 ·have:=h2 e1;rw[bL au]at h;rw[this];by_cases e2:iE b.aM c.aM=0
  ·rw[bL au]at k;rw[bL au];split at h<;>split at k<;>split<;>(try split at h)<;>(try split at k)<;>(try split)<;>omega
  ·rw[bC e2]at k;rw[bC e2];exact k
 ·rw[bC e1]at h;by_cases e2:iE b.aM c.aM=0
  ·rw[<-h3 e2,bC e1];exact h
  ·rw[bC e2]at k;have h9:=h1 h k;have:iE a.aM c.aM≠0:=λe=>by
    have:=h5 au h;omega
   rw[bC this];exact h9
def oq{a b:aC}(h:dJ a b=0):a=b:=by
 unfold dJ at h;split at h
 ·exact dU h ‹_›
 ·have e:=sQ a.aM b.aM au;split at h
  ·omega
  ·split at h
   ·omega
   ·obtain⟨a1,a2⟩:=a;obtain⟨b1,b2⟩:=b;simp only at*;rw[e,show a2=b2 by omega]
def s9(a:aC):dJ a a=0:=by unfold dJ;simp[JO]
def agz(x y:Int):Mr x y=if x<y then-1 else if y<x then 1 else 0:=by
 unfold Mr IM;simp only[cD,Dw];by_cases h:x<y
 ·simp[h]
 ·by_cases k:y<x<;>simp[h,k]
def wI{i n:Nat}(h:i<n)(hn:n<=9223372036854775807):ak ((i:Int)+1)=((i+1:Nat):Int):=by rw[aL au au];omega
def aeZ(a b:af Int)(ha:zY a<=9223372036854775807\/b.length<=9223372036854775807):amC a b=V (iE a b):=by
 obtain⟨step,hs⟩:∃step:Nat->Unit->Int->Unit ⊕ Int,step=λi _ x=>if zY b<=i then .inr 1 else if Mr x b[i]!≠0 then .inr (Mr x b[i]!)else .inl ():=⟨_,rfl⟩
 obtain⟨fin,hf⟩:∃fin:Unit->aa Int,fin=λ_=>V (if zY a<zY b then-1 else 0):=⟨_,rfl⟩;obtain⟨i,v,e1,-,hI⟩:=YJ (rnd:=CO) a (λi (_:Unit)=>⟨a,b,a,(zY a:Int),(i:Int)⟩) step V fin (λ_ _=>True) (λi v hi _=>by
  have i1:(i:Int)<(zY a:Int):=au;have i2:(0:Int)<=(i:Int):=au;rw[hs];refine⟨λb' h=>⟨?_,trivial⟩,λr h=> ?_⟩<;>dsimp only at h
  ·split at h
   ·cases h
   ·split at h
    ·cases h
    ·rename_i g1 g2;have g3:¬(zY b:Int)<=(i:Int):=au;have g4:(i:Int)<(zY b:Int):=au;have hw:ak ((i:Int)+1)=((i+1:Nat):Int):=by rw[aL au au];omega
     unfold CO vZ;simp only[cG,cD,i1,i2,g3,g4,cW,hw,Decidable.not_not.1 g2]
  ·split at h
   ·rename_i g1;have g3:(zY b:Int)<=(i:Int):=au;unfold CO vZ;simp only[cG,i1,i2,g3,cK,cW]
   ·split at h
    ·rename_i g1 g2;have g3:¬(zY b:Int)<=(i:Int):=au;have g4:(i:Int)<(zY b:Int):=au;unfold CO vZ;simp only[cG,cD,i1,i2,g3,g4,cW,g2]
    ·cases h) (λv _=>by unfold CO vZ;simp) (b:=()) trivial
 have e1':K9 ⟨a,b,a,(zY a:Int),0⟩=V ⟨a,b,a,(zY a:Int),(i:Int)⟩:=e1;have key:∀(l:af Int) (k:Nat),k<=zY b->zY a=k+zY l->Qg step V fin l k ()=V (iE l (b.drop k)):=by
  intro l;induction l with
  |nil=>
   intro k hk hl;simp only[Qg,hf];simp only[yA,yg]at hl;by_cases h:k=zY b
   ·rw[h,wP,bL au];rfl
   ·rw[yQ au,bC au];rfl
  |cons x l ih=>
   intro k hk hl;simp only[yw]at hl;by_cases h:k=zY b
   ·rw[pV (r:=1) (by rw[hs];simp[h]),h,wP];rfl
   ·have hk':k<zY b:=au;rw[yQ hk'];have e:=agz x b[k]!;have eb:b[k]! =b[k]:=getElem!_pos b k hk';rw[eb]at e;unfold iE;by_cases h1:x<b[k]
    ·rw[pV (r:= -1) (by rw[hs];simp[show ¬b.length<=k by omega,e,eb,h1]),bC h1]
    ·by_cases h2:b[k]<x
     ·rw[pV (r:=1) (by rw[hs];simp[show ¬b.length<=k by omega,e,eb,h1,h2]),bL h1,bC h2]
     ·rw[tK (b':=()) (by rw[hs];simp[show ¬b.length<=k by omega,e,eb,h1,h2]),bL h1,bL h2];exact ih (k+1) au au
 have hk:=key a 0 au au;rw[xI]at hk;rw[<-hk];unfold amC vZ;simp only[e1'];rcases hI with ⟨rfl,hg⟩|⟨hi,r,hr,hg⟩
 ·rw[hg,hf];simp only[yx,D0,ct];by_cases h:zY a<zY b
  ·rw[bC h,bX (by omega:(zY a:Int)<(zY b:Int))];rfl
  ·rw[bL h,bW (by omega:¬(zY a:Int)<(zY b:Int))];rfl
 ·rw[hg];have i1:(i:Int)<(zY a:Int):=au;have i2:(0:Int)<=(i:Int):=au;rw[hs]at hr;simp only at hr;split at hr
  ·rename_i g1;have g3:(zY b:Int)<=(i:Int):=au;simp only[cG,i1,i2,g3,cK,cW];cases hr;rfl
  ·split at hr
   ·rename_i g1 g2;have g3:¬(zY b:Int)<=(i:Int):=au;have g4:(i:Int)<(zY b:Int):=au;simp only[cG,cD,i1,i2,g3,g4,cW,g2];cases hr;rfl
   ·cases hr
def QV(a b:aC)(ha:zY a.aM<=9223372036854775807\/b.aM.length<=9223372036854775807):Ls a b=V (dJ a b):=by
 unfold Ls dJ;rw[aeZ _ _ ha];dsimp only;by_cases h:iE a.aM b.aM=0
 ·by_cases h1:a.aI<b.aI
  ·simp[h,h1]
  ·by_cases h2:b.aI<a.aI<;>simp[h,h1,h2]
 ·simp[h]
def MG(a b:aC)(ha:zY a.aM<=9223372036854775807):Ls a b=V (dJ a b):=QV a b (.inl ha)
def p7:aC->af aC->af aC
 |_,[]=>[]
 |p,y::l=>if dJ y p=0 then p7 y l else y::p7 y l
def Aw:af aC->af aC
 |[]=>[]
 |x::l=>x::p7 x l
end Go.Proofs.YtnfljbehcffmcaaGreat
end
noncomputable section
namespace Go.Proofs.YtnfljbehcffmcaaGreat
open Go Go.Iv Go.Sort Go.Proofs
abbrev Ob(A:Nat->Prop)(w:World):={p:aC×af Value//p.2.length=2/\bN A w (uni.cells 47 p.1) p.2}
section
variable {A:Nat->Prop} {w:World}
def apg{o:aC}{us:af Value}(h:zY us=2/\bN A w (uni.cells 47 o) us):∃u v,us=[u,v]/\Rel A w (.sl 3 o.aM) u/\v= .int .i64 o.aI:=by
 obtain⟨h1,h2⟩:=h
 match us,h1 with
 |[u,v],_=>exact⟨u,v,rfl,h2.2 0 _ _ rfl rfl,(h2.2 1 (.lit (.int .i64 o.aI)) v rfl rfl).cL⟩
def afK{o:aC}{u:Value}(h:Rel A w (.sl 3 o.aM) u):bN A w (uni.cells 47 o) [u, .int .i64 o.aI]:=
 ⟨rfl,λj a v h1 h2=>by
  match j with
  |0=>cases h1;cases h2;exact h
  |1=>cases h1;cases h2;exact .lit _
  |j+2=>cases h1⟩
def aBs:Rel A w (.sl 3 ([]:af Int)) (.slice none 0 0):=Rel.sl (U:=uni) 3 [] none 0 (λ_ _=> .int .i64 0) (yU _) (zl _) (λi hi=>by cases hi) (λi hi=>by cases hi) (λi j a hi=>by cases hi)
instance:Inhabited (Ob A w):=⟨⟨(⟨[],0⟩,[.slice G 0 0, .int .i64 0]),rfl,afK aBs⟩⟩
def oB(x:Ob A w):af Value:=x.1.2
def kF(x:Ob A w):zY (oB x)=2:=x.2.1
def Er(x:Ob A w):∀v∈oB x,v.oneCell'=J:=λv hv=>by
 obtain⟨u,t,h1,h2,h3⟩:=apg x.2;unfold oB at hv;rw[h1]at hv;rcases zx.1 hv with rfl|hv
 ·cases h2;rfl
 ·rw[zo.1 hv,h3];rfl
def apH(x:Ob A w):zY x.1.1.aM<=9223372036854775807:=by
 obtain⟨u,t,h1,h2,h3⟩:=apg x.2;generalize x.1.1.aM=l at h2;cases h2 with
 |sl t l p cap u hl hcap hz hc hr=>exact hl
def Ki{α:Type}[Inhabited α](enc:α->af Value)(d:Array α){us:af Value}(h1:zY us=d.size*2)(h:∀i,i<d.size->enc d[i]! =(us.drop (i*2)).take 2):flatK enc 2 d=us.toArray:=by
 refine ext_get! (by simp[h1]) λt ht=> ?_;have ht:t<d.size*2:=by simpa using ht
 rw[get_flatK _ _ _ _ ht,h _ au];have e:(us.toArray:Array Value)[t]! =us[t]! :=by simp
 rw[e,getElem!_pos us t au,getElem!_pos _ _ (by simp;omega),xK,xS]
 congr 1
 omega
def J4{α:Type}[Inhabited α]{enc:α->af Value}{d:Array α}{W:World}{g:Nat}{cur:Array Value}{T:TypeId}{us:af Value}(hb:W.heap[g]? =V (.cells cur T (0,0)))(hf:flatK enc 2 d=us.toArray)(hc:cur.toList.take us.length=us):HoldsK enc 2 W g 0 d:=by
 unfold HoldsK;rw[hf];intro j hj;have hj':j<zY us:=by simpa using hj
 refine⟨?_,by simp[World.frozen?,hb]⟩;have h1:(cur.toList.take (zY us))[j]? =us[j]? :=by rw[hc]
 rw[wu hj']at h1;simp only[World.cell?,hb,yj];simp only[vk,yy,IQ];rw[<-wQ,h1];simp[hj']
def uR{α:Type}[Inhabited α]{enc:α->af Value}{W:World}{g m:Nat}{dk:Array α}{os:Array Obj}{cur:Array Value}{T:TypeId}(hb:W.heap[g]? =V (.cells cur T (0,0))):
  (sortWorldK enc 2 W g 0 m dk os).heap[g]? =V (.cells (putCells id 0 (flatK enc 2 dk) cur) T (0,0)):=by
 have hg:g<W.heap.size:=(y8.1 hb).1;unfold sortWorldK putRowK;rw[heap_grow_old _ _ (by simpa using hg)];simp[putRow,mapBlock,Sort.ahead,vm,hb,onCells]
def rq{α:Type}[Inhabited α]{enc:α->af Value}{W:World}{g m:Nat}{dk:Array α}{os:Array Obj}{b:Nat}(hb:b<W.heap.size)(hne:b≠g):
  (sortWorldK enc 2 W g 0 m dk os).heap[b]? =W.heap[b]? :=by
 unfold sortWorldK putRowK;rw[heap_grow_old _ _ (by simpa using hb)];simp[putRow,mapBlock,Sort.ahead,vm,Ne.symm hne]
def Uq{α:Type}[Inhabited α]{enc:α->af Value}{W:World}{g m:Nat}{dk:Array α}{os:Array Obj}:W.heap.size<=(sortWorldK enc 2 W g 0 m dk os).heap.size:=size_sortWorldK_c enc 2 W g 0 m dk os
def Qp{α:Type}[Inhabited α]{enc:α->af Value}{W:World}{g m:Nat}{dk:Array α}{os:Array Obj}:Kp [g] W (sortWorldK enc 2 W g 0 m dk os):=
 ⟨rfl,rfl,rfl,Nat.le_add_right _ _,Uq,λk hk hn=>rq hk (by simpa using hn)⟩
def Q9{F cur:Array Value}(h:F.size<=cur.size):(putCells id 0 F cur).toList.take F.size=F.toList:=by
 apply List.ext_getElem?;intro j;by_cases hj:j<F.size
 ·rw[wu hj,wQ];simp[putCells,hj,show j<cur.size by omega]
 ·rw[List.getElem?_take_eq_none au,wE (by simp;omega)]
def ahS{W W':World}(h:Kp [] W W'):∃q os,W'=grow (W.drewN q) os:=by
 refine⟨W'.drawn-W.drawn,W'.heap.extract W.heap.size W'.heap.size,?_⟩;have e1:=h.os;have e2:=h.tape;have e3:=h.output;have e4:=h.drawn
 have e5:W'.heap=W.heap++W'.heap.extract W.heap.size W'.heap.size:=by
  apply Array.ext_getElem?;intro k;rw[Array.getElem?_append];have hs:=h.size;split
  ·exact h.block k (by assumption) (by simp)
  ·rename_i hk;rw[Array.getElem?_extract];by_cases h2:k<W'.heap.size
   ·rw[bC au,show W.heap.size+(k-W.heap.size)=k by omega]
   ·rw[bL au,Array.getElem?_eq_none au]
 obtain⟨hp,tp,dr,os,ot⟩:=W;obtain⟨hp',tp',dr',os',ot'⟩:=W';simp only at e1 e2 e3 e4;simp only[grow,World.drewN,World.mk.injEq];exact⟨e5,e2,au,e1,e3⟩
def arT:bu:=(L3 dA)
def ahO:bE vp arT:=(tH aV)
abbrev aAO:=Bool
def d252:Td 0 aAO:= .c [] [4] (.r 0 0 (ec 4 qb en) sn (λz=>z.1.1) (λx=>((x,()),(()))))
def ayL:=(lc (qg 47) (lc (qg 47) ln))
def ao1:An:= .no
def aBL:gv vp (arT) 0 300 252 (ao1):=cH (l:=[]) func252 (bT aY) aY aH
def ag8(a0:aC)(a1:aC):aa aAO:=
 match Ls a0 a1 with|G=>G|V r1=>V (vn (r1=0))
def aFM(a0:aC)(a1:aC):bZ vp (arT) 300 (ao1) 252 (ayL.c (a0,a1,())) [] 0 d252.rd=ag8 a0 a1:=aY
def arS:=eL vp 252 O ayL d252 (λg=>ag8 g.1 g.2.1)
def ahK{F:bu}(h:bE vp F):bE vp (arS F):=gj (sc:=A9) ei (fe ahO aBL (λ_=>aY) (λ_=>aY) λg=>aFM g.1 g.2.1) ⟨_,func252,aY,aY⟩ (λ_=>aY) (λ_=>aY) h
def azT(a b:aC)(h:zY a.aM<=9223372036854775807):Iv.Fn vp 188 [.agg (uni.cells 47 a), .agg (uni.cells 47 b)] [] (λx s=>x= .n .i64 (dJ a b)/\s=[]):=
 (UD (F:=L3 dA) (tH aV).ok (P0.i .i64) rfl (jT aY) ((show L3 dA Int 188 [.agg (uni.cells 47 a), .agg (uni.cells 47 b)] [] 0 (U2 (iI .i64))=(match Ls a b with|G=>G|V r=>V r)from aY).trans (by rw[MG a b h]))).2
def aBm(a b:aC)(h:zY a.aM<=9223372036854775807):Iv.Fn vp 252 [.agg (uni.cells 47 a), .agg (uni.cells 47 b)] [] (λx s=>x= .b (vn (dJ a b=0))/\s=[]):=
 (UD (F:=arS dA) (ahK aV).ok P0.b rfl (jT aY) ((show arS dA Bool 252 [.agg (uni.cells 47 a), .agg (uni.cells 47 b)] [] 0 (U2 UM)=(match ag8 a b with|G=>G|V r=>V r)from aY).trans (by unfold ag8;rw[MG a b h]))).2
def Wc{f:Nat}{x y:Ob A w}{r:Value}(hf:Iv.Fn vp f [.agg (uni.cells 47 x.1.1), .agg (uni.cells 47 y.1.1)] [] (λa s=>a= .lit r/\s=[])){W:World}(hW:∀b,b<w.heap.size->A b->W.heap[b]? =w.heap[b]?):
  Calls vp f #[.agg (oB x).toArray, .agg (oB y).toArray] W λe w'=>e= .returned r/\∃q os',w'=grow (W.drewN q) os':=by
 have hr:∀z:Ob A w,bN A W (uni.cells 47 z.1.1) (oB z):=λz=>z.2.2.mono λb hb hA=>⟨hA,hW b hb hA⟩;refine(hf W A [.agg (oB x).toArray, .agg (oB y).toArray] ⟨rfl,λj a v h1 h2=> ?_⟩ ⟨λr hr=>(by cases hr),λb hb=>(by cases hb)⟩ List.nodup_nil).mono λe w' ⟨v,av,σ',he,⟨h1,h2⟩,ht,hv⟩=> ?_
 ·match j with
  |0=>cases h1;cases h2;exact .agg _ _ (hr x).1 (hr x).2
  |1=>cases h1;cases h2;exact .agg _ _ (hr y).1 (hr y).2
  |j+2=>cases h1
 ·rw[h1]at hv;exact⟨by rw[he,hv.cL],ahS ht.kp⟩
def Eo:SWO (ltOf dJ) where
 irrefl x:=by unfold ltOf;rw[s9];rfl
 trans x y z h1 h2:=by
  unfold ltOf at*;simp only[decide_eq_true_eq]at*;have a:=dQ x y;have b:=dQ y z;have c:=dQ x z
  have:=ni z x y;by_cases h:dJ x z<0
  ·exact h
  ·have:=this au au;omega
 ntrans x y z h1 h2:=by
  unfold ltOf at*;simp only[decide_eq_false_iff_not]at*;have a:=dQ x y;have b:=dQ y z;have c:=dQ x z
  have:=ni z y x au au;omega
def ajQ(x y:aC)(h1:ltOf dJ x y=O)(h2:ltOf dJ y x=O):x=y:=by
 unfold ltOf at*;simp only[decide_eq_false_iff_not]at*;have a:=dQ x y;exact oq au
def FJ(l:af aC):af aC:=l.mergeSort λx y=> !ltOf dJ y x
def obC(x y:Ob A w):Int:=dJ x.1.1 y.1.1
def aog:SWO (ltOf (obC (A:=A) (w:=w))):=⟨λx=>Eo.irrefl x.1.1,λx y z=>Eo.trans x.1.1 y.1.1 z.1.1,λx y z=>Eo.ntrans x.1.1 y.1.1 z.1.1⟩
end
def YO{A:Nat->Prop}{w:World}{l:af aC}{us:af Value}(h1:zY us=zY l*2)(h3:∀i,i<zY l->bN A w (uni.cells 47 l[i]!) ((us.drop (i*2)).take 2)):
  ∃d:Array (Ob A w),d.size=zY l/\(d.toList.map λx=>x.1.1)=l/\flatK oB 2 d=us.toArray:=by
 have hx:∀i:Fin (zY l),zY ((us.drop (i.1*2)).take 2)=2/\bN A w (uni.cells 47 l[i]) ((us.drop (i.1*2)).take 2):=λi=>by
  have hi:=i.2;refine⟨by rw[zD,zV];omega,?_⟩;have:=h3 i.1 hi
  rwa [getElem!_pos l i.1 hi]at this
 refine⟨Array.ofFn λi:Fin l.length=>(⟨(l[i],(us.drop (i.1*2)).take 2),hx i⟩:Ob A w),by simp,?_,Ki _ _ (by simpa using h1) λi hi=> ?_⟩
 ·apply xw (by simp);intro i q1 q2;simp
 ·have hi':i<zY l:=by simpa using hi
  rw[getElem!_pos _ i hi];simp[oB]
def T4{A:Nat->Prop}{w:World}(d:Array (Ob A w))(l:af aC)(h:(d.toList.map λx=>x.1.1)=l):zY (flatK oB 2 d).toList=zY l*2/\∀i,i<zY l->bN A w (uni.cells 47 l[i]!) (((flatK oB 2 d).toList.drop (i*2)).take 2):=by
 have hs:d.size=zY l:=by rw[<-h];simp
 refine⟨by simp[hs],λi hi=> ?_⟩;have e:(((flatK oB 2 d).toList.drop (i*2)).take 2)=oB d[i]! :=by
  apply xw
  ·rw[kF,zD,zV];simp[hs];omega
  ·intro j q1 q2;rw[kF]at q2;rw[xK,xS,Array.getElem_toList];have:=get_flatK oB 2 d (i*2+j) au;rw[getElem!_pos _ _ (by simp;omega)]at this;rw[this,show (i*2+j)/2=i by omega,show (i*2+j)%2=j by omega,getElem!_pos _ j (by rw[kF];exact q2)]
 rw[e];have e2:l[i]! =d[i]!.1.1:=by
  subst h;rw[getElem!_pos _ i hi,getElem!_pos d i au];simp
 rw[e2];exact d[i]!.2.2
end Go.Proofs.YtnfljbehcffmcaaGreat
end
noncomputable section
set_option maxRecDepth 100000
namespace Go.Proofs.YtnfljbehcffmcaaGreat
open Go Go.Iv Go.Sort Go.Proofs
abbrev axt:=af aC
def d200:Td 1 axt:= .c [] [] (.r 1 1 en (sr 0 47 sn) (λz=>z.2.1) (λx=>((()),(x,()))))
def azf:=(lc (qo 0) (lc (qf 188 ln) ln))
def aAh:=(sr 0 47 sn)
def ZY(b0:af aC):aa axt:=if zY b0<=1073741824 then V (FJ b0)else G
def aqy:Prop:=HY vp 200 1 azf aAh d200 (λg=>ZY g.2.1)
def aHe:bu->bu:=eY vp 200 1 azf aAh d200 (λg=>ZY g.2.1)
def acj(hv:aqy){F:bu}(h:bE vp F):bE vp (aHe F):=DB hv ⟨_,func200,aY,aY⟩ (λ_=>aY) h
def TH:Go.Shelf.Ren:=⟨λ|6=>200|15=>257|14=>256|28=>300|29=>301|20=>292|21=>293|22=>294|23=>295|24=>296|25=>297|26=>298|27=>299|46=>332|47=>333|48=>334|49=>335|50=>336|57=>348|n=>n,λ|22=>50|24=>47|25=>195|39=>240|53=>322|55=>324|46=>316|45=>315|50=>193|66=>344|70=>348|76=>356|77=>297|n=>n,λ|n=>n⟩
def adY:Go.Proofs.SlLaysF0.n6 vp TH where
 mixed:=aY
 f6:=⟨f200.name,aY,func200.trans (congrArg V aY)⟩
 f14:=⟨f256.name,aY,func256.trans (congrArg V aY)⟩
 f15:=func257.trans (congrArg V aY)
 f20:=⟨f292.name,aY,func292.trans (congrArg V aY)⟩
 f21:=⟨f293.name,aY,func293.trans (congrArg V aY)⟩
 f22:=⟨f294.name,aY,func294.trans (congrArg V aY)⟩
 f23:=⟨f295.name,aY,func295.trans (congrArg V aY)⟩
 f24:=⟨f296.name,aY,func296.trans (congrArg V aY)⟩
 f25:=⟨f297.name,aY,func297.trans (congrArg V aY)⟩
 f26:=⟨f298.name,aY,func298.trans (congrArg V aY)⟩
 f27:=⟨f299.name,aY,func299.trans (congrArg V aY)⟩
 f28:=func300.trans (congrArg V aY)
 f29:=func301.trans (congrArg V aY)
 f46:=⟨f332.name,aY,func332.trans (congrArg V aY)⟩
 f47:=func333.trans (congrArg V aY)
 f48:=func334.trans (congrArg V aY)
 f49:=⟨f335.name,aY,func335.trans (congrArg V aY)⟩
 f50:=⟨f336.name,aY,func336.trans (congrArg V aY)⟩
 f57:=⟨f348.name,aY,func348.trans (congrArg V aY)⟩
 t0:=underlying0
 a0:=Tryz.isAgg0
 z0:=Tryz.sizeOf0
 v0:=Tryz.zeroValue0
 t3:=underlying3
 a3:=Tryz.isAgg3
 z3:=Tryz.sizeOf3
 v3:=Tryz.zeroValue3
 t4:=underlying4
 a4:=Tryz.isAgg4
 z4:=Tryz.sizeOf4
 v4:=Tryz.zeroValue4
 t5:=underlying5
 a5:=Tryz.isAgg5
 z5:=Tryz.sizeOf5
 v5:=Tryz.zeroValue5
 t9:=underlying9
 a9:=Tryz.isAgg9
 z9:=Tryz.sizeOf9
 v9:=Tryz.zeroValue9
 t22:=underlying50
 a22:=Tryz.isAgg50
 z22:=Tryz.sizeOf50
 v22:=Tryz.zeroValue50
 t25:=underlying195
 a25:=Tryz.isAgg195
 z25:=Tryz.sizeOf195
 v25:=Tryz.zeroValue195
 t39:=underlying240
 a39:=Tryz.isAgg240
 z39:=Tryz.sizeOf240
 v39:=Tryz.zeroValue240
 t45:=underlying315
 a45:=Tryz.isAgg315
 z45:=Tryz.sizeOf315
 v45:=Tryz.zeroValue315
 t46:=underlying316
 a46:=Tryz.isAgg316
 z46:=Tryz.sizeOf316
 v46:=Tryz.zeroValue316
 t50:=underlying193
 a50:=Tryz.isAgg193
 z50:=Tryz.sizeOf193
 v50:=Tryz.zeroValue193
 t53:=underlying322
 a53:=Tryz.isAgg322
 z53:=Tryz.sizeOf322
 v53:=Tryz.zeroValue322
 t55:=underlying324
 a55:=Tryz.isAgg324
 z55:=Tryz.sizeOf324
 v55:=Tryz.zeroValue324
 t66:=underlying344
 a66:=Tryz.isAgg344
 z66:=Tryz.sizeOf344
 v66:=Tryz.zeroValue344
 t70:=underlying348
 a70:=Tryz.isAgg348
 z70:=Tryz.sizeOf348
 v70:=Tryz.zeroValue348
 t76:=underlying356
 a76:=Tryz.isAgg356
 z76:=Tryz.sizeOf356
 v76:=Tryz.zeroValue356
 t77:=underlying297
 a77:=Tryz.isAgg297
 z77:=Tryz.sizeOf297
 v77:=Tryz.zeroValue297
def Zy{A:Nat->Prop}{w:World}{d d':Array (Ob A w)}(hp:PermIn 0 d.size d d')(hs:SortedIn (ltOf obC) 0 d.size d'):(d'.toList.map λx=>x.1.1)=FJ (d.toList.map λx=>x.1.1):=by
 obtain⟨h1,_,h3⟩:=hp;have e1:d'.extract 0 d.size=d':=by rw[<-h1];exact Array.extract_size
 rw[e1,Array.extract_size]at h3;have hz:∀c:Array (Ob A w),(c.map λx=>x.1.1).toList=c.toList.map λx=>x.1.1:=λc=>by simp
 have:=sorted_unique_holds Eo ajQ (d.map λx=>x.1.1) (d'.map λx=>x.1.1) ⟨by simp[h1],λi hi=> ?_,?_⟩ (λi j hi hij hj=> ?_)
 ·rw[hz,hz]at this;exact this
 ·have:d.size<=i:=by rcases hi with h|h;omega;simpa using h
  rw[getElem!_neg _ i (by simp;omega),getElem!_neg _ i (by simp;omega)]
 ·have a1:(d'.map λx=>x.1.1).extract 0 (d.map λx=>x.1.1).size=(d'.map λx=>x.1.1):=by
   rw[show (d.map λx=>x.1.1).size=(d'.map λx=>x.1.1).size by simp[h1]];exact Array.extract_size
  rw[a1,Array.extract_size,hz,hz];exact h3.map _
 ·have hj':j<d.size:=by simpa using hj
  have:=hs i j hi hij hj';rw[getElem!_pos _ i au,getElem!_pos _ j au]at this;rw[getElem!_pos _ i (by simp;omega),getElem!_pos _ j (by simp;omega)];simp only[Array.getElem_map];exact this
def asc(l b:af aC)(hb:ZY l=V b):NR vp 200 [.own 0, .fn (.func 188) []] [(0, .row 47 l)] 1 (gd vp 200 1 (d200.pat b)):=by
 unfold ZY at hb;split at hb
 case isFalse=>cases hb
 rename_i hlen;have hbl:b=FJ l:=(zF.inj hb).symm;have hln:zY b=zY l:=by rw[hbl];unfold FJ;rw[List.length_mergeSort]
 intro ρ;have ho:gd vp 200 1 (d200.pat b)=⟨.jm [],[(0, .row 47 b)],1⟩:=aY;show Go.Iv.Fn vp 200 [(b7.own 0).sub ρ,(b7.fn (.func 188) []).sub ρ] (bt.res ρ [(0, .row 47 l)]) _;rw[ho,dx,show (b7.fn (de:=uni.de) (.func 188) []).sub ρ= .fn (.func 188) []by simp[b7.sub]];intro w A vs hr hd hn;obtain⟨hr1,hr2⟩:=hr;obtain⟨v,v2,rfl⟩:∃v v2,vs=[v,v2]:=by
  match vs,hr1 with
  |[v,v2],_=>exact⟨v,v2,rfl⟩
 have hv:v=ρ.v 0:=(hr2 0 _ v rfl rfl).cL;have hv2:v2= .func (.func 188) #[] #[]:=by
  have:=hr2 1 (.fn (.func 188) []) v2 rfl rfl;cases this with
  |fn f cs us hl hrr=>rw[xu.1 hl]
 subst hv hv2;generalize hv:ρ.v 0=v at*;have hok:=hd.1 (.row v 47 l) (by show _∈[cc.row (ρ.v 0) 47 l];rw[hv];exact zo.2 rfl);obtain⟨us,h1,h2,h3⟩:=hok;have hσ:bt.res ρ [(0, .row 47 l)]=[cc.row v 47 l]:=by show [cc.row (ρ.v 0) 47 l]=_;rw[hv]
 rw[hσ]at hd hn ⊢;have fin:∀w':World,(∃us',gi w' v 47 2 (zY b) us'/\∀i,i<zY b->bN A w (uni.cells 47 b[i]!) ((us'.drop (i*2)).take 2))->Kp (bB [cc.row v 47 l]) w w'->∃v_1 av σ',Ending.returned (Value.tuple #[])=Ending.returned v_1/\
   (∃ρ',qu 1 ρ ρ'/\av=(b7.jm (de:=uni.de) []).sub ρ'/\List.Perm σ' (bt.res ρ' [(0, .row 47 b)]))/\Tr ⟨w,A,bB [cc.row v 47 l]⟩ (bB [cc.row v 47 l]) [cc.row v 47 l] w σ' w'/\Rel (al ⟨w,A,bB [cc.row v 47 l]⟩ σ') w' av v_1:=λw' ⟨us',hrow,hrel⟩ hk=>by
  have hbk:bB [cc.row v 47 b]=bB [cc.row v 47 l]:=rfl;have hal:∀x,al ⟨w,A,bB [cc.row v 47 l]⟩ [cc.row v 47 l] x->al ⟨w,A,bB [cc.row v 47 l]⟩ [cc.row v 47 b] x:=λx h=>h;refine⟨_, .jm [],[cc.row v 47 b],rfl,⟨ρ,λi _=>⟨rfl,rfl⟩,by simp only[b7.sub,yT],by show List.Perm _ [cc.row (ρ.v 0) 47 b];rw[hv]⟩,⟨⟨hk,?_,?_,?_⟩,hk,λx _ h=>⟨hal x h,h.2⟩⟩,Rel.jm [] [] rfl (λj a v q=>by cases q)⟩
  ·intro r hr;rw[zo.1 hr];refine⟨us',hrow,λi _=>rfl,λi hi=>(hrel i hi).mono λx hx hA=> ?_⟩;have hnb:x∉bB [cc.row v 47 l]:=λh=>hd.2 x h hA;exact⟨⟨.inl hA,hnb⟩,hk.block x hx hnb⟩
  ·rw[hbk];exact hn
  ·intro x hx;exact .inl hx
 obtain⟨h1l,hcase⟩:=h1;rcases hcase with ⟨p,hvp,hl0⟩|⟨gb,cap,cur,hvp,hg,q1,q2,q3,q4⟩
 ·have hl:l=[]:=xu.1 hl0;have hbn:b=[]:=by rw[hbl,hl];unfold FJ;rw[List.mergeSort_nil]
  subst hvp;refine(Go.Proofs.AnyF.slices_SortFunc_none {adY with} p 0 (.func (.func 188) #[] #[]) w).mono λe w' he=> ?_;obtain⟨rfl,rfl⟩:=he;refine fin w' ⟨[],?_,λi hi=>by rw[hbn]at hi;cases hi⟩ (Kp.refl _ _);rw[hbn];exact⟨rfl, .inl ⟨p,rfl,rfl⟩⟩
 ·subst hvp;have hgs:gb<w.heap.size:=(y8.1 hg).1;have hAg:¬A gb:=hd.2 gb (bQ.2 ⟨_,zo.2 rfl,rfl⟩);have q4:cur.toList.take (zY l*2)=us:=q4;have q3:cur.size=(cap+1)*2:=q3;have h1l:zY us=zY l*2:=h1l;have q1':zY l<=cap+1:=q1;have hsz:zY l<=9223372036854775807:=by have:maxLen=9223372036854775807:=rfl;omega
  obtain⟨d,d1,d2,d3⟩:=YO h1l h3;have hH:HoldsK oB 2 w gb 0 d:=J4 hg d3 (by rw[h1l];exact q4);have hcmp:CmpLays vp 188 #[] oB 2 obC gb 0 d.size w:=λm os dk hdk x y=>by
   refine Wc (azT x.1.1 y.1.1 (apH x)) (λc hc hA=>rq hc λe=>hAg (e▸hA))
  have hs:=Go.Proofs.AnyQ.slices_SortFunc adY 2 Tryz.isAgg47 Tryz.sizeOf47 oB kF Er obC aog 188 #[] gb 0 (cap+1) d w (enters_of func188 aY rfl) hcmp hH hgs (by rw[d1];omega);rw[d1]at hs;refine hs.mono λe w' he=> ?_;obtain⟨rfl,d',n,os,hp,hs,rfl⟩:=he;rw[<-d1]at hp hs;have hbd:(d'.toList.map λx=>x.1.1)=b:=by rw[Zy hp hs,d2,hbl]
  obtain⟨r1,r2⟩:=T4 d' b hbd;have hF:(flatK oB 2 d').size=zY l*2:=by rw[<-yo,r1,hln]
  refine fin _ ⟨(flatK oB 2 d').toList,⟨r1, .inr ⟨gb,cap,_,by rw[hln];rfl,uR hg,by rw[hln];exact q1,q2,by simp[putCells,q3],?_⟩⟩,r2⟩ ?_
  ·have:=Q9 (F:=flatK oB 2 d') (cur:=cur) (by rw[hF,q3];omega)
   rwa [<-yo,r1]at this
  ·exact Qp
def azN:aqy:=λg b hb=>asc g.2.1 b hb
end Go.Proofs.YtnfljbehcffmcaaGreat
end
noncomputable section
set_option maxRecDepth 100000
namespace Go.Proofs.YtnfljbehcffmcaaGreat
open Go Go.Iv Go.Sort Go.Proofs Go.Shelf Go.RowKit Go.Lib
section
variable {α:Type} [Inhabited α] (r:α->α->Bool)
def NU(d:Array α)(j:Nat):Bool:=vn (j=0)|| !r d[j]! d[j-1]!
def IX(d:Array α)(m:Nat):af α:=((zH m).filter (NU r d)).map (d[·]!)
variable {r}
def l6(d:Array α)(m:Nat):IX r d (m+1)=IX r d m++(if NU r d m then[d[m]!]else[]):=by
 unfold IX;rw[wG,xh,zO];grind
def Ng(d:Array α)(m:Nat)(h:∀j,j<m->NU r d j=J):IX r d m=(zH m).map (d[·]!):=by
 unfold IX;rw[wV.2 (λj hj=>h j (List.mem_range.1 hj))]
def Tf(d:Array α):(zH d.size).map (d[·]!)=d.toList:=by
 apply xw
 ·simp
 ·intro i h1 h2;have hi:i<d.size:=by simpa using h2
  simp[hi]
structure DY (r:α->α->Bool) (d:Array α) (m k:Nat) (dk:Array α):Prop where
 size:dk.size=d.size
 len:zY (IX r d m)=k
 lt:k<m
 low:∀j,j<k->(IX r d m)[j]? =V dk[j]!
 high:∀j,k<=j->dk[j]! =d[j]!
def DY.start{d:Array α}{k0:Nat}(hall:∀j,j<k0->NU r d j=J)(hdup:NU r d k0=O):DY r d (k0+1) k0 d where
 size:=rfl
 len:=by rw[l6,hdup,Ng d k0 hall];simp
 lt:=zC _
 low:=λj hj=>by rw[l6,hdup,Ng d k0 hall];simp[hj]
 high:=λ_ _=>rfl
def DY.keep{d dk:Array α}{m k:Nat}(h:DY r d m k dk)(hm:m<d.size)(hk:NU r d m=J):DY r d (m+1) (k+1) (dk.setIfInBounds k d[m]!) where
 size:=by simp[h.size]
 len:=by rw[l6,hk];simp[h.len]
 lt:=by have:=h.lt;omega
 low:=λj hj=>by
  rw[l6,hk,bC rfl];by_cases e:j=k
  ·subst e;rw[wX (by rw[h.len];exact zl _),h.len,xT,getElem!_set_same dk j _ (by have:=h.lt;have:=h.size;omega)];rfl
  ·rw[wY (by rw[h.len];omega),h.low j au,getElem!_set_other dk k j _ e]
 high:=λj hj=>by rw[getElem!_set_other dk k j _ au,h.high j au]
def DY.skip{d dk:Array α}{m k:Nat}(h:DY r d m k dk)(hk:NU r d m=O):DY r d (m+1) k dk where
 size:=h.size
 len:=by rw[l6,hk];simpa using h.len
 lt:=by have:=h.lt;omega
 low:=λj hj=>by rw[l6,hk];simpa using h.low j hj
 high:=h.high
end
section
variable {P:Program} {α:Type} [Inhabited α] {enc:α->af Value} {k:Nat} {w0 W:World} {blk off:Nat} {dk:Array α}
def Oa(hk:∀x,zY (enc x)=k)(d:Array α)(i:Nat)(hi:i<d.size)(x:α):setMany (flatK enc k d) (i*k) (enc x)=flatK enc k (d.setIfInBounds i x):=by
 refine ext_get! (by simp) λt ht=> ?_;have ht':t<d.size*k:=by simpa using ht
 have k0:0<k:=by
  rcases wA k with h|h
  ·simp_all
  ·exact h
 rw[get_setMany _ _ _ t (by simpa using ht'),get_flatK _ _ _ t ht',get_flatK _ _ _ t (by simpa using ht'),hk];by_cases a:t/k=i
 ·rw[bC ((blk_iff k i t k0).2 a),a,getElem!_set_same d i x hi,Nat.mod_eq_sub_div_mul,a]
 ·rw[bL (λh=>a ((blk_iff k i t k0).1 h)),getElem!_set_other d i _ x a]
def Uc(h:SWK enc k w0 blk off dk W)(hk:∀x,zY (enc x)=k)(hb:blk<w0.heap.size)(i:Nat)(hi:i<dk.size)(x:α):SWK enc k w0 blk off (dk.setIfInBounds i x) (W.setCells blk (off+i*k) (enc x)):=by
 obtain⟨n,os,rfl⟩:=h;refine⟨n,os,?_⟩;unfold sortWorldK;rw[setCells_grow os blk _ _ _ (by show blk<(putRowK enc k _ blk off dk).heap.size;rw[size_putRowK];exact hb)];unfold putRowK;have:=yh k (show i+1<=dk.size from hi);rw[zW,yL]at this;rw[setCells_putRow _ _ _ _ _ _ (by rw[hk,size_flatK];exact this),Oa hk dk i hi x]
def amo(h:SWK enc k w0 blk off dk W){d0:Array α}(R:RowK enc k w0 blk off d0)(hs:dk.size=d0.size)(P:Program)(i:Nat)(hi:i<dk.size)(x:α):
  Sem.run P (storeCells ⟨blk,off+i*k,G⟩ (enc x) 0) W= .ok () (W.setCells blk (off+i*k) (enc x)):=
 stores_of_holds P (h.holds R.hblk R.hH hs) (i*k) _ (by rw[R.hk,size_flatK];exact rowK_bnd dk k i hi) (R.h1 _)
end
set_option maxHeartbeats 8000000 in
set_option maxRecDepth 1000000 in
def aek{P:Program}{α:Type}[Inhabited α](FG:P.funcs[201]? =V f201)(mixed:P.follows .mixedOrders=J)
  (t3:P.underlying 3=V (.int .i64)) (a3:∀w,(isAgg 3).run P w= .ok O w) (z3:∀w,(Go.sizeOf 3).run P w= .ok 1 w) (v3:∀w,(zeroValue 3).run P w= .ok (.int .i64 0) w)
  (t4:P.underlying 4=V .bool) (a4:∀w,(isAgg 4).run P w= .ok O w) (z4:∀w,(Go.sizeOf 4).run P w= .ok 1 w) (v4:∀w,(zeroValue 4).run P w= .ok (.bool O) w)
  (t50:P.underlying 50=V (.slice 47)) (a50:∀w,(isAgg 50).run P w= .ok O w) (z50:∀w,(Go.sizeOf 50).run P w= .ok 1 w) (v50:∀w,(zeroValue 50).run P w= .ok (.slice G 0 0) w)
  (k:Nat) (aE:∀w,(isAgg 47).run P w= .ok J w) (zE:∀w,(Go.sizeOf 47).run P w= .ok k w)
  (enc:α->af Value) (r:α->α->Bool) (g:Nat) (cb:Array Value) (blk off cap:Nat) (d:Array α) (w:World)
  (eg:∀args w,(callFunc g args).run P w= .ok (.enter g args) w)
  (hcmp:∀(dk:Array α) (W:World),dk.size=d.size->SWK enc k w blk off dk W->∀x y:α,Calls P g (#[.agg (enc x).toArray, .agg (enc y).toArray]++cb) W λe w'=>e= .returned (.bool (r x y))/\∃q os',w'=grow (W.drewN q) os')
  (R:RowK enc k w blk off d) (hsz:d.size<4611686018427387904) (hcap:d.size<=cap)
  (zs:Nat->af Value) (hclr:∀(W:World) (dk:Array α) (kk:Nat),SWK enc k w blk off dk W->dk.size=d.size->kk<d.size->∀ty,(Builtin.clear_ #[50] ty #[.slice (V ⟨blk,off+kk*k,G⟩) (d.size-kk) (cap-kk)]).run P W= .ok (.tuple #[]) (W.setCells blk (off+kk*k) (zs kk))):
  Calls P 201 #[.slice (V ⟨blk,off,G⟩) d.size cap, .func (.func g) #[] cb] w λe w'=>
   e= .returned (.slice (V ⟨blk,off,G⟩) (IX r d d.size).length cap)/\∃(dk:Array α) (W:World),SWK enc k w blk off dk W/\dk.size=d.size/\(∀j,j<zY (IX r d d.size)->(IX r d d.size)[j]? =V dk[j]!)/\
    (w'=W\/w'=W.setCells blk (off+zY (IX r d d.size)*k) (zs (IX r d d.size).length)):=by
 have S00:SWK enc k w blk off d w:=SWK.start R.hH;have HC:Aside _:=hcmp;have HCL:Aside _:=hclr;have S0:Aside (SWK enc k w blk off d w):=S00;have same:∀W,SWK enc k w blk off d W->(∀j,j<d.size->NU r d j=J)->zY (IX r d d.size)=d.size/\∃(dk:Array α) (W':World),SWK enc k w blk off dk W'/\dk.size=d.size/\(∀j,j<zY (IX r d d.size)->(IX r d d.size)[j]? =V dk[j]!)/\(W=W'\/W=W'.setCells blk (off+zY (IX r d d.size)*k) (zs (IX r d d.size).length)):=λW hS hall=>by
  have e:IX r d d.size=d.toList:=by rw[Ng d _ hall,Tf]
  refine⟨by rw[e];simp,d,W,hS,rfl,λj hj=> ?_, .inl rfl⟩;rw[e]at hj ⊢;have hj':j<d.size:=by simpa using hj
  rw[zm hj,getElem!_pos d j hj'];simp
 have HS:Aside _:=same;have kp1:∀j,j<1->NU r d j=J:=λj hj=>by
  have:j=0:=au;subst this;rfl
 clear same S00 hcmp hclr;by_cases h2:d.size<2
 ·have K1:Aside (∀j,j<1->NU r d j=J):=kp1;clear kp1
  go_enter FG,Tryz.ntmps201
  go_wp2
  go_ret
  obtain⟨e1,e2⟩:=HS.out w S0.out (λj hj=>K1.out j au);exact⟨by rw[e1];rfl,e2⟩
 ·have K1:Aside (∀j,j<1->NU r d j=J):=kp1;clear kp1
  go_enter FG,Tryz.ntmps201
  go_wp2
  go_loopg [5] d.size (λg1 s5 wr=>∃(k1:Nat),s5= .int .i64 k1/\1<=k1/\k1<=d.size/\d.size-k1<=g1/\Aside (SWK enc k w blk off d wr)/\Aside (∀j,j<k1->NU r d j=J))
  case atStart=>exact⟨1,rfl,zl _,au,au,S0,K1⟩
  case round=>
   obtain⟨k1,rfl,hk1,hk2,hg,S1,A1⟩:=hrel;by_cases hlt:k1<d.size
   ·obtain⟨kp,rfl⟩:∃kp,k1=kp+1:=⟨k1-1,au⟩;obtain⟨xj,hxj⟩:∃x,d[kp+1]! =x:=⟨_,rfl⟩;obtain⟨xp,hxp⟩:∃x,d[kp]! =x:=⟨_,rfl⟩;have hwp:IntKind.i64.wrap (kp:Int)=(kp:Int):=by rw[IntKind.wrap_i64];omega
    have jz:(kp:Int)+1<(d.size:Int):=au;have jz1:(kp:Int)<(d.size:Int):=au;have p0:(0:Int)<=(kp:Int)+1:=au;have e0:((kp:Int)+1).toNat=kp+1:=au;have lj:∀n' os',Sem.run P (loadCellsFrom ⟨blk,off+(kp+1)*k,G⟩ 0 k #[]) (grow (wr.drewN n') os')= .ok (enc xj).toArray (grow (wr.drewN n') os'):=λn' os'=>by
     rw[<-hxj];exact S1.out.ld R rfl P (kp+1) hlt n' os'
    have lp:∀n' os',Sem.run P (loadCellsFrom ⟨blk,off+kp*k,G⟩ 0 k #[]) (grow (wr.drewN n') os')= .ok (enc xp).toArray (grow (wr.drewN n') os'):=λn' os'=>by
     rw[<-hxp];exact S1.out.ld R rfl P kp au n' os'
    have hcg:∀n' os',Calls P g (#[.agg (enc xj).toArray, .agg (enc xp).toArray]++cb) (grow (wr.drewN n') os') λe w'=>e= .returned (.bool (r xj xp))/\∃q os'',w'=grow ((grow (wr.drewN n') os').drewN q) os'':=λn' os'=>HC.out d _ rfl (S1.out.grown n' os') xj xp;cases hr:r xj xp with
    |true=>
     rw[hr]at hcg
     go_wp2_with fail
     go_quiet_grown (first|(go_at_fn g;refine Calls.grown_of (hcg _ _)))
     have S2:Aside (SWK enc k w blk off d (grow (wr.drewN nq) osq)):=S1.out.grown nq osq;have I0:Aside (DY r d (kp+1+1) (kp+1) d):=DY.start A1.out (by unfold NU;rw[wM,hxj,hxp,hr];simp);clear lj lp hcg;generalize grow (wr.drewN nq) osq=wq at S2 ⊢
     go_wp2
     go_loopg [5,7] d.size (λg2 s5 s7 wr=>∃(kk k2:Nat) (dk:Array α),s5= .int .i64 kk/\s7= .int .i64 k2/\1<=k2/\kp+1+k2<=d.size/\d.size-(kp+1+k2)<=g2/\Aside (SWK enc k w blk off dk wr)/\Aside (DY r d (kp+1+k2) kk dk))
     case atStart=>exact⟨kp+1,1,d,rfl,rfl,zl _,au,au,S2,I0⟩
     case round=>
      obtain⟨kk,k2,dk,rfl,rfl,hk21,hle,hg2,S3,I3⟩:=hrel;have hds:=I3.out.size;have hkk:=I3.out.lt;by_cases hlt2:kp+1+k2<d.size
      ·obtain⟨kq,rfl⟩:∃kq,k2=kq+1:=⟨k2-1,au⟩;obtain⟨xm,hxm⟩:∃x,d[kp+1+(kq+1)]! =x:=⟨_,rfl⟩;obtain⟨xq,hxq⟩:∃x,d[kp+1+kq]! =x:=⟨_,rfl⟩;have hm:dk[kp+1+(kq+1)]! =xm:=by rw[I3.out.high _ au,hxm]
       have hq:dk[kp+1+kq]! =xq:=by rw[I3.out.high _ au,hxq]
       have hwq:IntKind.i64.wrap (kq:Int)=(kq:Int):=by rw[IntKind.wrap_i64];omega
       have q0:(0:Int)<=(kq:Int)+1:=au;have f0:((kq:Int)+1).toNat=kq+1:=au;have lm:∀n' os',Sem.run P (loadCellsFrom ⟨blk,off+(kp+1)*k+(kq+1)*k,G⟩ 0 k #[]) (grow (wr.drewN n') os')= .ok (enc xm).toArray (grow (wr.drewN n') os'):=λn' os'=>by
        have:=S3.out.ld R hds P (kp+1+(kq+1)) au n' os';rw[hm,zW (kp+1) (kq+1),<-yH]at this;exact this
       have lq:∀n' os',Sem.run P (loadCellsFrom ⟨blk,off+(kp+1)*k+kq*k,G⟩ 0 k #[]) (grow (wr.drewN n') os')= .ok (enc xq).toArray (grow (wr.drewN n') os'):=λn' os'=>by
        have:=S3.out.ld R hds P (kp+1+kq) au n' os';rw[hq,zW (kp+1) kq,<-yH]at this;exact this
       have hcg:∀n' os',Calls P g (#[.agg (enc xm).toArray, .agg (enc xq).toArray]++cb) (grow (wr.drewN n') os') λe w'=>e= .returned (.bool (r xm xq))/\∃q os'',w'=grow ((grow (wr.drewN n') os').drewN q) os'':=λn' os'=>HC.out dk _ hds (S3.out.grown n' os') xm xq;have jl:(kq:Int)+1<((d.size-(kp+1):Nat):Int):=au;have jl1:(kq:Int)<((d.size-(kp+1):Nat):Int):=au;cases hr2:r xm xq with
       |true=>
        rw[hr2]at hcg
        go_wp2_with fail
        go_quiet_grown (first|(go_at_fn g;refine Calls.grown_of (hcg _ _)))
        go_wp2
        go_roundg (d.size-(kp+1+(kq+1+1)))
        case measure=>omega
        case rel=>exact⟨kk,kq+1+1,dk,rfl,by go_num,au,au,zl _,S3.out.grown nq osq,I3.out.skip (by unfold NU;rw[show kp+1+(kq+1)-1=kp+1+kq by omega,hxm,hxq,hr2];simp)⟩
       |false=>
        rw[hr2]at hcg
        go_wp2_with fail
        go_quiet_grown (first|(go_at_fn g;refine Calls.grown_of (hcg _ _)))
        have lm3:=lm nq osq;have S4:Aside (SWK enc k w blk off dk (grow (wr.drewN nq) osq)):=S3.out.grown nq osq;have st:=amo S4.out R hds P kk au xm;have S5:Aside (SWK enc k w blk off (dk.setIfInBounds kk xm) ((grow (wr.drewN nq) osq).setCells blk (off+kk*k) (enc xm))):=Uc S4.out R.hk R.hblk kk au xm;have hlm:zY (enc xm)=k:=R.hk xm;have I4:Aside (DY r d (kp+1+(kq+1)+1) (kk+1) (dk.setIfInBounds kk xm)):=by
         have:=I3.out.keep hlt2 (by unfold NU;rw[show kp+1+(kq+1)-1=kp+1+kq by omega,hxm,hxq,hr2];simp)
         rwa [hxm]at this
        have kz:(kk:Int)<(d.size:Int):=au;have kz0:(0:Int)<=(kk:Int):=au;clear lm lq hcg;generalize grow (wr.drewN nq) osq=wq3 at lm3 S4 st S5 ⊢;generalize enc xm=cm at lm3 st S5 hlm
        go_wp2
        go_roundg (d.size-(kp+1+(kq+1+1)))
        case measure=>omega
        case rel=>exact⟨kk+1,kq+1+1,dk.setIfInBounds kk xm,by go_num,by go_num,au,au,zl _,S5,I4⟩
      ·have hend:kp+1+k2=d.size:=au;have hcl:=λty=>HCL.out wr dk kk S3.out hds au ty;have kz:(kk:Int)<=(d.size:Int):=au;have kz1:(kk:Int)<=(cap:Int):=au
       go_wp2
       go_ret
       have hI:=I3.out;rw[hend]at hI;exact⟨by rw[hI.len];rfl,dk,wr,S3.out,hds,λj hj=>hI.low j (by rw[<-hI.len];exact hj), .inr (by rw[hI.len])⟩
    |false=>
     rw[hr]at hcg
     go_wp2_with fail
     go_quiet_grown (first|(go_at_fn g;refine Calls.grown_of (hcg _ _)))
     go_wp2
     go_roundg (d.size-(kp+1+1))
     case measure=>omega
     case rel=>
      refine⟨kp+1+1,by go_num,au,au,zl _,S1.out.grown nq osq,λj hj=> ?_⟩;by_cases e:j=kp+1
      ·subst e;unfold NU;rw[wM,hxj,hxp,hr];simp
      ·exact A1.out j au
   ·have:k1=d.size:=au;subst this
    go_wp2
    go_ret
    obtain⟨e1,e2⟩:=HS.out _ S1.out A1.out;exact⟨by rw[e1];rfl,e2⟩
set_option maxHeartbeats 1000000 in
def Ns(FG:vp.funcs[201]? =V f201)(p:aa Addr)(cap:Nat)(fv:Value)(w:World):
  Calls vp 201 #[.slice p 0 cap,fv] w λe w'=>e= .returned (.slice p 0 cap)/\w'=w:=by
 go_enter FG,Tryz.ntmps201
 go_wp2
 go_ret
 simp
end Go.Proofs.YtnfljbehcffmcaaGreat
end
noncomputable section
set_option maxRecDepth 100000
namespace Go.Proofs.YtnfljbehcffmcaaGreat
open Go Go.Iv Go.Sort Go.Proofs
abbrev azI:=af aC
def d201:Td 1 azI:= .c [] [4] (.r 1 2 (ec 4 (qo 1) en) (sr 1 47 sn) (λz=>z.2.1) (λx=>(((),()),(x,()))))
def aBW:=(lc (qo 0) (lc (qf 252 ln) ln))
def aDe:=(sr 0 47 sn)
def ZI(b0:af aC):aa azI:=if zY b0<=1073741824 then V (Aw b0)else G
def aqp:Prop:=HY vp 201 1 aBW aDe d201 (λg=>ZI g.2.1)
def aGQ:bu->bu:=eY vp 201 1 aBW aDe d201 (λg=>ZI g.2.1)
def acL(hv:aqp){F:bu}(h:bE vp F):bE vp (aGQ F):=DB hv ⟨_,func201,aY,aY⟩ (λ_=>aY) h
def gL{g:Nat}{T:TypeId}:∀(vs:af Value) (o:Nat) (W:World) (cur:Array Value),W.heap[g]? =V (.cells cur T (0,0))->(W.setCells g o vs).heap[g]? =V (.cells (setMany cur o vs) T (0,0))
 |[],_,_,_,h=>h
 |v::vs,o,W,cur,h=>by
  rw[World.setCells,setMany];refine gL vs (o+1) _ _ ?_;rw[setCell_eq];simp[mapBlock,vm,h,onCells]
def ji{g:Nat}:∀(vs:af Value) (o:Nat) (W:World),Kp [g] W (W.setCells g o vs)
 |[],_,W=>Kp.refl _ W
 |v::vs,o,W=>by
  rw[World.setCells];refine Kp.trans (w1:=W.setCell ⟨g,o,G⟩ v) (X:=[g]) (Y:=[g]) ?_ (ji vs (o+1) _) (λb hb _=>hb);rw[setCell_eq];refine⟨rfl,rfl,rfl,zl _,by simp[mapBlock],λk hk hX=> ?_⟩;have:g≠k:=λe=>hX (by simp[e]);simp[mapBlock,vm,this]
def Kk(x:aC):∀(l:af aC) (p:aC),p7 p (l++[x])=p7 p l++if dJ x (l.getLastD p)=0 then[]else[x]
 |[],p=>by
  by_cases h:dJ x p=0<;>simp[p7,h]
 |y::l,p=>by
  simp only[xz,p7];rw[Kk x l y];have e:(y::l).getLastD p=l.getLastD y:=by cases l<;>rfl
  rw[e];split<;>simp
section
variable {A:Nat->Prop} {w:World}
def eqO(x y:Ob A w):Bool:=vn (dJ x.1.1 y.1.1=0)
def XW(d:Array (Ob A w)):∀m,m<=d.size->(IX eqO d m).map (λx=>x.1.1)=Aw ((d.toList.map λx=>x.1.1).take m)
 |0,_=>by simp[IX,Aw]
 |m+1,hm=>by
  have ih:=XW d m au;have hl:m<zY (d.toList.map λx=>x.1.1):=by simp;omega
  have eg:∀j,j<d.size->(d.toList.map λx=>x.1.1)[j]! =d[j]!.1.1:=λj hj=>by
   rw[getElem!_pos _ j (by simpa using hj),getElem!_pos d j hj];simp
  rw[l6,zO,ih,bD hl,eg m au];by_cases h0:m=0
  ·subst h0;simp[NU,Aw,p7]
  ·obtain⟨n,rfl⟩:∃n,m=n+1:=⟨m-1,au⟩;have hl2:n<zY (d.toList.map λx=>x.1.1):=by simp;omega
   have e2:(d.toList.map λx=>x.1.1).take (n+1)=(d.toList.map λx=>x.1.1).take n++[d[n]!.1.1]:=by rw[bD hl2,eg n au]
   obtain⟨q,hq⟩:∃q,q=(d.toList.map λx=>x.1.1).take (n+1):=⟨_,rfl⟩;rw[<-hq];cases q with
   |nil=>rw[e2]at hq;simp at hq
   |cons a q=>
    show _=a::p7 a (q++[d[n+1]!.1.1]);rw[Kk];have:q.getLastD a=d[n]!.1.1:=by
     have h1:=congrArg List.getLast? hq;rw[e2,List.getLast?_append,List.getLast?_singleton,Option.some_or,List.getLast?_cons]at h1;rw[List.getLastD_eq_getLast?];exact zF.inj h1
    rw[this];unfold NU eqO;rw[wM];by_cases hc:dJ d[n+1]!.1.1 d[n]!.1.1=0<;>simp[hc,Aw]
end
def Wg:∀(l:af aC) (p:aC),zY (p7 p l)<=zY l
 |[],_=>zl _
 |y::l,p=>by
  have:=Wg l y;unfold p7;split<;>simp<;>omega
def aky(l:af aC):zY (Aw l)<=zY l:=by
 cases l with
 |nil=>exact zl _
 |cons x l=>have:=Wg l x;simp[Aw];omega
def anj{W:World}{gb n kk:Nat}{F:Array Value}(h:W.heap[gb]? =V (.cells F 47 (0,0)))(hs:n*2<=F.size)(hk:kk<n){c:Nat}{ty:TypeId}:
  (Builtin.clear_ #[50] ty #[.slice (V ⟨gb,0+kk*2,G⟩) (n-kk) c]).run vp W= .ok (.tuple #[]) (W.setCells gb (0+kk*2) (Builtin.zeroCells #[.slice G 0 0, .int .i64 0] (n-kk)).toList):=by
 have hl:zY (Builtin.zeroCells #[.slice G 0 0, .int .i64 0] (n-kk)).toList=(n-kk)*2:=by simp[Builtin.zeroCells]
 have hst:=run_storeCells_cells (P:=vp) gb (0+kk*2) (Builtin.zeroCells #[.slice G 0 0, .int .i64 0] (n-kk)).toList 0 W (λj hj=>by
   rw[hl]at hj;simp only[World.cell?,h,vk,yy,IQ];rw[y9 au];rfl) (λj hj=>by simp[World.frozen?,h]) (λv hv=>by
   simp only[Builtin.zeroCells,Array.toList_map,zM]at hv;obtain⟨i,_,rfl⟩:=hv;have:i%(#[.slice G 0 0, .int .i64 0]:Array Value).size<2:=xe _ (by decide);generalize i%(#[.slice G 0 0, .int .i64 0]:Array Value).size=q at this
   match q,this with
   |0,_=>rfl
   |1,_=>rfl)
 simp only[yg]at hst;obtain⟨m,hm⟩:∃m,n-kk=m+1:=⟨n-kk-1,au⟩;rw[hm]at hst ⊢;rw[yj]at hst ⊢;simp[Builtin.clear_,run_underlying underlying50,Tryz.zeroValue47,Value.cells,hst]
def ars(l b:af aC)(hb:ZI l=V b):NR vp 201 [.own 0, .fn (.func 252) []] [(0, .row 47 l)] 1 (gd vp 201 1 (d201.pat b)):=by
 unfold ZI at hb;split at hb
 case isFalse=>cases hb
 rename_i hlen;have hbl:b=Aw l:=(zF.inj hb).symm;intro ρ;have ho:gd vp 201 1 (d201.pat b)=⟨.own 1,[(1, .row 47 b)],2⟩:=aY;show Go.Iv.Fn vp 201 [(b7.own 0).sub ρ,(b7.fn (.func 252) []).sub ρ] (bt.res ρ [(0, .row 47 l)]) _;rw[ho,dx,show (b7.fn (de:=uni.de) (.func 252) []).sub ρ= .fn (.func 252) []by simp[b7.sub]];intro w A vs hr hd hn;obtain⟨hr1,hr2⟩:=hr;obtain⟨v,v2,rfl⟩:∃v v2,vs=[v,v2]:=by
  match vs,hr1 with
  |[v,v2],_=>exact⟨v,v2,rfl⟩
 have hv:v=ρ.v 0:=(hr2 0 _ v rfl rfl).cL;have hv2:v2= .func (.func 252) #[] #[]:=by
  have:=hr2 1 (.fn (.func 252) []) v2 rfl rfl;cases this with
  |fn f cs us hl hrr=>rw[xu.1 hl]
 subst hv hv2;generalize hv:ρ.v 0=v at*;have hok:=hd.1 (.row v 47 l) (by show _∈[cc.row (ρ.v 0) 47 l];rw[hv];exact zo.2 rfl);obtain⟨us,h1,h2,h3⟩:=hok;have hσ:bt.res ρ [(0, .row 47 l)]=[cc.row v 47 l]:=by show [cc.row (ρ.v 0) 47 l]=_;rw[hv]
 rw[hσ]at hd hn ⊢;have fin:∀(w':World) (u:Value),gE u=gE v->(∃us',gi w' u 47 2 (zY b) us'/\∀i,i<zY b->bN A w (uni.cells 47 b[i]!) ((us'.drop (i*2)).take 2))->Kp (bB [cc.row v 47 l]) w w'->∃v_1 av σ',Ending.returned u=Ending.returned v_1/\
   (∃ρ',qu 1 ρ ρ'/\av=(b7.own (de:=uni.de) 1).sub ρ'/\List.Perm σ' (bt.res ρ' [(1, .row 47 b)]))/\Tr ⟨w,A,bB [cc.row v 47 l]⟩ (bB [cc.row v 47 l]) [cc.row v 47 l] w σ' w'/\Rel (al ⟨w,A,bB [cc.row v 47 l]⟩ σ') w' av v_1:=λw' u hu ⟨us',hrow,hrel⟩ hk=>by
  have hbk:bB [cc.row u 47 b]=bB [cc.row v 47 l]:=by simp only[bB,xE,cc.blk,hu]
  have hal:∀x,al ⟨w,A,bB [cc.row v 47 l]⟩ [cc.row v 47 l] x->al ⟨w,A,bB [cc.row v 47 l]⟩ [cc.row u 47 b] x:=λx h=>⟨h.1,by rw[hbk];exact h.2⟩;refine⟨u, .lit u,[cc.row u 47 b],rfl,⟨⟨λi=>if i=1 then u else ρ.v i,ρ.b⟩,λi hi=>⟨by show _=if i=1 then u else ρ.v i;rw[bL au],rfl⟩,by rw[dx];rfl,List.Perm.refl _⟩,⟨⟨hk,?_,?_,?_⟩,hk,λx _ h=>⟨hal x h,h.2⟩⟩, .lit u⟩
  ·intro r hr;rw[zo.1 hr];refine⟨us',hrow,λi _=>rfl,λi hi=>(hrel i hi).mono λx hx hA=> ?_⟩;have hnb:x∉bB [cc.row v 47 l]:=λh=>hd.2 x h hA;exact⟨⟨.inl hA,by rw[hbk];exact hnb⟩,hk.block x hx hnb⟩
  ·rw[hbk];exact hn
  ·intro x hx;rw[hbk]at hx;exact .inl hx
 obtain⟨h1l,hcase⟩:=h1;rcases hcase with ⟨p,hvp,hl0⟩|⟨gb,cap,cur,hvp,hg,q1,q2,q3,q4⟩
 ·have hl:l=[]:=xu.1 hl0;have hbn:b=[]:=by rw[hbl,hl];rfl
  subst hvp;refine(Ns func201 p 0 (.func (.func 252) #[] #[]) w).mono λe w' he=> ?_;obtain⟨rfl,rfl⟩:=he;refine fin w' _ rfl ⟨[],?_,λi hi=>by rw[hbn]at hi;cases hi⟩ (Kp.refl _ _);rw[hbn];exact⟨rfl, .inl ⟨p,rfl,rfl⟩⟩
 ·subst hvp;have hgs:gb<w.heap.size:=(y8.1 hg).1;have hAg:¬A gb:=hd.2 gb (bQ.2 ⟨_,zo.2 rfl,rfl⟩);have q4:cur.toList.take (zY l*2)=us:=q4;have q3:cur.size=(cap+1)*2:=q3;have h1l:zY us=zY l*2:=h1l;have q1':zY l<=cap+1:=q1;obtain⟨d,d1,d2,d3⟩:=YO h1l h3;have hH:HoldsK oB 2 w gb 0 d:=J4 hg d3 (by rw[h1l];exact q4);have hcmp:∀(dk:Array (Ob A w)) (W:World),dk.size=d.size->SWK oB 2 w gb 0 dk W->∀x y:Ob A w,Calls vp 252 (#[.agg (oB x).toArray, .agg (oB y).toArray]++#[]) W λe w'=>e= .returned (.bool (eqO x y))/\∃q os',w'=grow (W.drewN q) os':=λdk W hdk ⟨n,os,hW⟩ x y=>by
   subst hW;exact Wc (aBm x.1.1 y.1.1 (apH x)) (λc hc hA=>rq hc λe=>hAg (e▸hA))
  have hs:=aek (P:=vp) func201 aY underlying3 Tryz.isAgg3 Tryz.sizeOf3 Tryz.zeroValue3 underlying4 Tryz.isAgg4 Tryz.sizeOf4 Tryz.zeroValue4 underlying50 Tryz.isAgg50 Tryz.sizeOf50 Tryz.zeroValue50
   2 Tryz.isAgg47 Tryz.sizeOf47 oB eqO 252 #[] gb 0 (cap+1) d w (enters_of func252 aY rfl) hcmp ⟨kF,Er,hH,hgs⟩ (by rw[d1];omega) (by rw[d1];exact q1')
   (λkk=>(Builtin.zeroCells #[.slice G 0 0, .int .i64 0] (d.size-kk)).toList) (λW dk kk hS hdk hkk ty=>by
    obtain⟨n,os,rfl⟩:=hS;exact anj (uR hg) (by simp[putCells,q3];omega) hkk)
  rw[d1]at hs;refine hs.mono λe w' he=> ?_;obtain⟨rfl,dk,W,⟨n,os,hW⟩,hdk,hlow,hfin⟩:=he;rw[<-d1]at hlow hfin ⊢;obtain⟨L,hL⟩:∃L,L=IX eqO d d.size:=⟨_,rfl⟩;rw[<-hL]at hlow hfin ⊢;have hLb:L.map (λx=>x.1.1)=b:=by
   rw[hL,XW d d.size (zl _),d2,d1,zy,hbl]
  have hLlen:zY L=zY b:=by rw[<-hLb,zB]
  have hbll:zY b<=zY l:=by rw[hbl];exact aky l
  have hWg:W.heap[gb]? =V (.cells (putCells id 0 (flatK oB 2 dk) cur) 47 (0,0)):=by rw[hW];exact uR hg
  have hkW:Kp [gb] w W:=by rw[hW];exact Qp
  have hFs:(flatK oB 2 dk).size=zY l*2:=by rw[size_flatK,hdk]
  obtain⟨F,hF1,hF2,hF3,hF4⟩:∃F:Array Value,w'.heap[gb]? =V (.cells F 47 (0,0))/\F.size=(cap+1)*2/\F.toList.take (zY b*2)=(flatK oB 2 dk).toList.take (zY b*2)/\Kp [gb] w w':=by
   have ht:=Q9 (F:=flatK oB 2 dk) (cur:=cur) (by rw[hFs,q3];omega);have ht2:(putCells id 0 (flatK oB 2 dk) cur).toList.take (zY b*2)=(flatK oB 2 dk).toList.take (zY b*2):=by
    rw[<-ht,List.take_take,Nat.min_eq_left (by rw[hFs];omega)]
   rcases hfin with rfl|rfl
   ·exact⟨_,hWg,by simp[putCells,q3],ht2,hkW⟩
   ·refine⟨_,gL _ _ _ _ hWg,by simp[putCells,q3],?_,Kp.trans hkW (ji _ _ _) λx hx _=>hx⟩;rw[<-ht2];apply List.ext_getElem?;intro j;by_cases hj:j<zY b*2
    ·rw[wu hj,wu hj,wQ,wQ];have hjs:j<(putCells id 0 (flatK oB 2 dk) cur).size:=by simp[putCells,q3];omega
     have:=get_setMany ((Builtin.zeroCells #[.slice G 0 0, .int .i64 0] (d.size-L.length)).toList) (0+zY L*2) _ j hjs;rw[bL au,getElem!_pos _ j (by simpa using hjs),getElem!_pos _ j hjs]at this;rw[y9 (by simpa using hjs),y9 hjs,this]
    ·rw[List.getElem?_take_eq_none au,List.getElem?_take_eq_none au]
  have hdl:flatK oB 2 L.toArray=((flatK oB 2 dk).toList.take (zY b*2)).toArray:=by
   refine ext_get! (by simp[hLlen,hFs];omega) λt ht=> ?_;have ht:t<zY L*2:=by simpa using ht
   rw[get_flatK _ _ _ t (by simpa using ht)];have e1:(L.toArray)[t/2]! =dk[t/2]! :=by
    have:=hlow (t/2) au;rw[getElem!_pos _ (t/2) (by simp;omega)];rw[zm au]at this;simpa using zF.inj this
   have e2:(((flatK oB 2 dk).toList.take (zY b*2)).toArray)[t]! =(flatK oB 2 dk)[t]! :=by
    rw[getElem!_pos _ t (by simp[hFs];omega),getElem!_pos _ t (by rw[hFs];omega)];simp
   rw[e1,e2,get_flatK _ _ _ t (by rw[hdk];omega)]
  obtain⟨r1,r2⟩:=T4 L.toArray b (by simpa using hLb);rw[hdl]at r1 r2;refine fin w' _ rfl ⟨(flatK oB 2 dk).toList.take (zY b*2),⟨by simpa using r1, .inr ⟨gb,cap,F,by rw[hLlen],hF1,au,q2,hF2,hF3⟩⟩,λi hi=>by simpa using r2 i hi⟩ hF4
def aBV:aqp:=λg b hb=>ars g.2.1 b hb
end Go.Proofs.YtnfljbehcffmcaaGreat
end
noncomputable section
set_option maxRecDepth 100000
namespace Go.Proofs.YtnfljbehcffmcaaGreat
open Go Go.Iv
open Go.IntKind (i64 u64)
abbrev aCu:=af aK
def d127:Td 0 aCu:= .c [] [2] (.r 0 1 (ec 2 (qo 0) en) (sr 0 34 sn) (λz=>z.2.1) (λx=>(((),()),(x,()))))
def SC(a0:aS):aa aCu:=
 match m39 a0 with|G=>G|V r1=>V (r1)
def tP:=eL vp 127 O (lc (qg 26) ln) d127 (λg=>SC g.1)
def ag2:EO tP:=λh=>kL (an:= .no) func127 (asH aV) aH h
structure G5 where
 (t0 t1:List Int)
 (t12 t13:Int)
def afN:Td 0 G5:= .c [] [0,1,12,13] (.r 0 0 (ec 0 (ql 3) (ec 1 (ql 3) (ec 12 aP (ec 13 aP en)))) sn (λz=>⟨z.1.1,z.1.2.1,z.1.t.1,z.1.t.2.1⟩) (λx=>((x.t0,x.t1,x.t12,x.t13,()),(()))))
def Jl{α:Type}(p:G5)(go:G5->aa α)(e1 e2:aa α):aa α:=
 bif vn (p.t13<p.t12)then if 0<=p.t13/\p.t13<zY p.t0 then if 0<=p.t13/\p.t13<zY p.t1 then bif bif vn (p.t0[zq p.t13]! =p.t1[zq p.t13]!)then O else J then e1 else go (G5.mk p.t0 p.t1 p.t12 (ak (p.t13+1)))else G else G else e2
def NX(p:G5):aa (aa G5):=
 Jl p (λs=>V (V s)) (V G) (V G)
def VA:=bI (NX)
abbrev E77:=Bool
def d77:Td 0 E77:= .c [] [4] (.r 0 0 (ec 4 qb en) sn (λz=>z.1.1) (λx=>((x,()),(()))))
def m77(a0:af Int)(a1:af Int):aa E77:=
 bif bif vn ((zY a0:Int)=(zY a1:Int))then O else J then V O else match VA (G5.mk a0 a1 (zY a0) 0)with|G=>G|V r1=>Jl r1 (λ_=>G) (V O) (V J)
def e77:=eL vp 77 O (lc (ql 3) (lc (ql 3) ln)) d77 (λg=>m77 g.1 g.2.1)
def acn:EO e77:=λh=>kL (an:=(noTwo (noTwo (.two (noTwo (afN.lp VA .no)) .no)))) (l:=[(bk f77 0,(afN.lp VA .no))]) func77 aV (aA (aO afN) aH) h
def Pp:EP e77:=λh=>kP h
abbrev aGI:=Int
def asx(a0:aK):aGI:=
 ak (ak (a0.ag-a0.ah)+1)
abbrev aHE:=Bool
def aED(a0:aK):aHE:=
 vn (1<asx a0)
structure C1 where
 t0:List aK
 (t7 t8:Int)
def afp{α:Type}(p:C1)(go:C1->aa α)(e1 e2:aa α):aa α:=
 bif vn (p.t8<p.t7)then if 0<=p.t8/\p.t8<zY p.t0 then bif aED p.t0[zq p.t8]! then e1 else go (C1.mk p.t0 p.t7 (ak (p.t8+1)))else G else e2
def auZ(p:C1):aa (aa C1):=
 afp p (λs=>V (V s)) (V G) (V G)
def arY:=bI (auZ)
abbrev aEK:=Int
def aEN(a0:af aK):aa aEK:=
 match arY (C1.mk a0 (zY a0) 0)with|G=>G|V r1=>afp r1 (λ_=>G) (V (r1.t8)) (V (-1))
abbrev aIg:=Bool
def aE6(a0:af aK):aa aIg:=
 match aEN a0 with|G=>G|V r1=>V (vn (0<=r1))
abbrev aBX:=Bool
def d187:Td 0 aBX:= .c [] [4] (.r 0 0 (ec 4 qb en) sn (λz=>z.1.1) (λx=>((x,()),(()))))
def ZM(a0:aC)(a1:aC):aa aBX:=
 match Ls a0 a1 with|G=>G|V r1=>V (vn (r1=0))
def ayU:=eL vp 187 O (lc (qg 47) (lc (qg 47) ln)) d187 (λg=>ZM g.1 g.2.1)
def W9:EO ayU:=λh=>kL (an:= .no) func187 (tH aV) aH h
def aBi:bu:=(e77 dA)
abbrev ayJ:=Bool
def d189:Td 0 ayJ:= .c [] [4] (.r 0 0 (ec 4 qb en) sn (λz=>z.1.1) (λx=>((x,()),(()))))
def aDp:∀f∈([77]:af Nat),bA (aBi) f:=(aA (Pp bG) aH)
def aay(a0:Cell)(a1:Cell):aa ayJ:=
 match bif vn (a0.aZ=a1.aZ)then bif vn (a0.eG=a1.eG)then bif vn (a0.gm=a1.gm)then match m77 a0.aq a1.aq with|G=>G|V r1=>bif r1 then match m77 a0.cz a1.cz with|G=>G|V r2=>V (r2)else V (O)else V (O)else V (O)else V (O)with|G=>G|V r3=>V (r3)
def aBN:=eL vp 189 O (lc (qg 117) (lc (qg 117) ln)) d189 (λg=>aay g.1 g.2.1)
def XH:EO aBN:=λh=>kL (F:=aBi) (an:=(noTwo (.two (.rb [77] 4) .no))) (l:=[(.skip,(.rb [77] 4))]) func189 (acn aV) (aA aDp aH) h
structure LE (α β:Type) where
 t1:List β
 t15:List α
 (t16 t17:Int)
def dE(ta tb k:Nat):Td 0 (LE (uni.de ta) (uni.de tb)):= .c [] [1,2,15,16,17] (.r 0 0 (ec 1 (ql tb) (ec 2 (qf k ln) (ec 15 (ql ta) (ec 16 aP (ec 17 aP en))))) sn (λz=>⟨z.1.1,z.1.2.2.1,z.1.2.2.2.1,z.1.2.2.2.2.1⟩) (λx=>((x.t1,(()),x.t15,x.t16,x.t17,()),(()))) λ_=>rfl)
def nE{α β:Type}[Inhabited α][Inhabited β](q:α->β->aa Bool)(p:LE α β):aa (aa (LE α β)):=
 bif vn (p.t17<p.t16)then if(0:Int)<=p.t17/\p.t17<(zY p.t15:Int)then if(0:Int)<=p.t17/\p.t17<(zY p.t1:Int)then match q p.t15[zq p.t17]! p.t1[zq p.t17]! with|G=>G|V r1=>bif bif r1 then O else J then V (G)else V (V (LE.mk p.t1 p.t15 p.t16 (ak (p.t17+1))))else G else G else V (G)
def mE{α β:Type}[Inhabited α][Inhabited β](q:α->β->aa Bool)(a0:af α)(a1:af β):aa Bool:=
 bif bif vn ((zY a0:Int)=(zY a1:Int))then O else J then V (O)else match bI (nE q) (LE.mk a1 a0 (zY a0:Int) (0))with|G=>G|V r2=>bif vn (r2.t17<r2.t16)then if(0:Int)<=r2.t17/\r2.t17<(zY r2.t15:Int)then if(0:Int)<=r2.t17/\r2.t17<(zY r2.t1:Int)then match q r2.t15[zq r2.t17]! r2.t1[zq r2.t17]! with|G=>G|V r3=>bif bif r3 then O else J then V (O)else G else G else G else V (J)
def dEq:Td 0 Bool:= .c [] [6] (.r 0 0 (ec 6 qb en) sn (λz=>z.1.1) (λx=>((x,()),(()))) λ_=>rfl)
def Tc:Td 0 (LE Cell Cell):=dE 117 117 189
def ath(p:(LE Cell Cell)):aa (aa (LE Cell Cell)):=nE aay p
def abK:=bI (ath)
abbrev aBT:=Bool
def d120:Td 0 aBT:=dEq
def al4(a0:af Cell)(a1:af Cell):aa aBT:=mE aay a0 a1
def ZP:=eL vp 120 O (lc (ql 117) (lc (ql 117) (lc (qf 189 ln) ln))) d120 (λg=>al4 g.1 g.2.1)
def Wt:EO ZP:=λh=>kL (an:=(noTwo (noTwo (.two (noTwo (Tc.lp abK .no)) .no)))) (l:=[(bk f120 0,(Tc.lp abK .no))]) func120 (XH aV) (aA (aO Tc) aH) h
def J5:EP ZP:=λh=>kP h
def abO:Td 0 (LE aC aC):=dE 47 47 187
def aBy(p:(LE aC aC)):aa (aa (LE aC aC)):=nE ZM p
def aox:=bI (aBy)
abbrev E71:=Bool
def d71:Td 0 E71:=dEq
def m71(a0:af aC)(a1:af aC):aa E71:=mE ZM a0 a1
def e71:=eL vp 71 O (lc (ql 47) (lc (ql 47) (lc (qf 187 ln) ln))) d71 (λg=>m71 g.1 g.2.1)
def acJ:EO e71:=λh=>kL (an:=(noTwo (noTwo (.two (noTwo (abO.lp aox .no)) .no)))) (l:=[(bk f71 0,(abO.lp aox .no))]) func71 (W9 aV) (aA (aO abO) aH) h
def Pn:EP e71:=λh=>kP h
def aGp:bu:=dA
abbrev atp:=aK
def d250:Td 0 atp:= .c [] [4] (.r 0 1 (ec 4 (qp 0 0) en) (sb 0 34 (lg 34) sn) (λz=>z.2.1) (λx=>(((),()),(x,()))))
def axG:=(aU (aU ln))
def aph:An:= .no
def SN(a0:Int)(a1:Int):atp:=
 bif vn (a0=a1)then aK.mk a0 a1 (0)else aK.mk a0 a1 (1)
def aH1(a0:Int)(a1:Int):bZ vp (aGp) 300 (aph) 250 (axG.c (a0,a1,())) [] 0 d250.rd=V (SN a0 a1):=by
 refine Eq.trans (b:=(
  bif vn (a0=a1)then V (aK.mk a0 a1 (0))else V (aK.mk a0 a1 (1)):aa atp)) aY ?_
 simp only[SN,cn,cO]
def aHj:=eL vp 250 O axG d250 (λg=>V (SN g.1 g.2.1))
def akP:EO aHj:=λh=>kL (an:=aph) func250 aV aH h (c:=λg=>aH1 g.1 g.2.1)
abbrev axY:=(af aK)×(af aK)
def d186:Td 0 axY:= .c [] [6,7] (.r 0 2 (ec 6 (qo 0) (ec 7 (qo 1) en)) (sr 0 34 (sr 1 34 sn)) (λz=>(z.2.1,z.t.1)) (λx=>(((),(),()),(x.1,x.2,()))))
def aaI(a0:af aK)(a1:Int)(a2:Int):aa axY:=
 match Xr a0 with|G=>G|V r1=>match Xr a0 with|G=>G|V r2=>if 0<=a1/\a1<zY a0 then if 0<=a1/\a1<(↑(zY r1):Int)then if 34=34/\a1.toNat<zY r1 then if 0<=a1/\a1<zY a0 then if 0<=a1/\a1<(↑(zY r2):Int)then if 34=34/\a1.toNat<zY r2 then V ((List.set r1 a1.toNat (SN a0[a1.toNat]!.ah a2),List.set r2 a1.toNat (SN (ak (a2+1)) a0[a1.toNat]!.ag)))else G else G else G else G else G else G
def ahH:=eL vp 186 O (lc (ql 34) (aU (aU ln))) d186 (λg=>aaI g.1 g.2.1 g.t.1)
def al5:EO ahH:=λh=>kL (an:= .no) func186 (akP (u5 aV)) aH h
abbrev aGU:=Tree
def aBu(a1:af aK)(b0:Tree):aa aGU:=
 match T6 b0.fF b0.fV a1 with|G=>G|V r1=>match m26 b0.fF b0.fV a1 with|G=>G|V r2=>if(b0.aN++[dW.mk a1 ((0:Int)) ((0:Int)) [] r1.fst r2.snd.fst r2.fst]).length<=1073741824 then V (Tree.mk b0.fF b0.fV (b0.aN++[dW.mk a1 0 0 [] r1.fst r2.snd.fst r2.fst]))else G
abbrev aEG:=Tree
def pT(x0:Tree)(x1:Int)(x2:Int):=
 x0.aN.set x1.toNat (dW.mk x0.aN[x1.toNat]!.dh x2 x0.aN[x1.toNat]!.eG x0.aN[x1.toNat]!.aq x0.aN[x1.toNat]!.gm x0.aN[x1.toNat]!.ep x0.aN[x1.toNat]!.cz)
def o9(x0:Tree)(x1:Int)(x2:Int)(x3:Int):=
 (pT x0 x1 x2).set x1.toNat (dW.mk (pT x0 x1 x2)[x1.toNat]!.dh (pT x0 x1 x2)[x1.toNat]!.aZ x3 (pT x0 x1 x2)[x1.toNat]!.aq (pT x0 x1 x2)[x1.toNat]!.gm (pT x0 x1 x2)[x1.toNat]!.ep (pT x0 x1 x2)[x1.toNat]!.cz)
def aEF(a1:Int)(a2:Int)(a3:Int)(b0:Tree):aa aEG:=
 if 0<=a1/\a1<zY b0.aN then if 174=174/\a1.toNat<zY b0.aN then match aaI b0.aN[a1.toNat]!.dh a2 a3 with|G=>G|V r1=>if 0<=a1/\a1<zY b0.aN then if 174=174/\a1.toNat<zY b0.aN then if 0<=a1/\a1<(↑(pT b0 a1 a2).length:Int)then if 174=174/\a1.toNat<zY (pT b0 a1 a2) then if 0<=a1/\a1<(↑(o9 b0 a1 a2 a3).length:Int)then if 174=174/\a1.toNat<zY (o9 b0 a1 a2 a3) then match aBu r1.fst (Tree.mk b0.fF b0.fV ((o9 b0 a1 a2 a3).set a1.toNat (dW.mk (o9 b0 a1 a2 a3)[a1.toNat]!.dh (o9 b0 a1 a2 a3)[a1.toNat]!.aZ (o9 b0 a1 a2 a3)[a1.toNat]!.eG [(zY b0.aN:Int),ak ((zY b0.aN:Int)+1)] (o9 b0 a1 a2 a3)[a1.toNat]!.gm (o9 b0 a1 a2 a3)[a1.toNat]!.ep (o9 b0 a1 a2 a3)[a1.toNat]!.cz)))with|G=>G|V r2=>match aBu r1.snd r2 with|G=>G|V r3=>V (r3)else G else G else G else G else G else G else G else G
structure pX where
 t1:Int
 t5:List aK
 t6:Int
 t24:List aK
 (t25 t26:Int)
 b0:Tree
def Vy{α:Type}(p:pX)(go:pX->aa α)(e1:aa α):aa α:=
 bif vn (p.t26<p.t25)then if 0<=p.t26/\p.t26<zY p.t24 then if 0<=p.t6/\p.t6<zY p.t5 then bif vn (asx p.t5[zq p.t6]! <asx p.t24[zq p.t26]!)then go (pX.mk p.t1 p.t5 p.t26 p.t24 p.t25 (ak (p.t26+1)) p.b0)else go (pX.mk p.t1 p.t5 p.t6 p.t24 p.t25 (ak (p.t26+1)) p.b0)else G else G else e1
def ams(p:pX):aa (aa pX):=
 Vy p (λs=>V (V s)) (V G)
def am0:=bI (ams)
abbrev aBH:=Int×Tree
def axJ(a1:Int)(b0:Tree):aa aBH:=
 bif vn (8192<ak ((zY b0.aN:Int)+2))then G else if 0<=a1/\a1<zY b0.aN then if 174=174/\a1.toNat<zY b0.aN then match am0 (pX.mk a1 b0.aN[a1.toNat]!.dh 0 b0.aN[a1.toNat]!.dh (↑b0.aN[a1.toNat]!.dh.length:Int) 0 b0)with|G=>G|V r1=>Vy r1 (λ_=>G) (if 0<=r1.t6/\r1.t6<zY r1.t5 then if 0<=r1.t6/\r1.t6<zY r1.t5 then match aEF r1.t1 r1.t6 (cT IntKind.i64 (ak (r1.t5[zq r1.t6]!.ah+r1.t5[zq r1.t6]!.ag)) 1) r1.b0 with|G=>G|V r2=>V (0,r2)else G else G)else G else G
structure kT where
 t0:List aC
 (t8 t9 t10:Int)
 b0:aC
def dB(k:Nat):Td 0 kT:= .c [] [0,2,4,8,9,10] (.r 0 1 (ec 0 (ql 47) (ec 2 (qf k ln) (ec 4 (qp 0 0) (ec 8 aP (ec 9 aP (ec 10 aP en)))))) (sb 0 47 (lg 47) sn) (λz=>⟨z.1.1,z.1.2.2.2.1,z.1.2.2.2.2.1,z.1.2.2.2.2.2.1,z.2.1⟩) (λx=>((x.t0,(()),(),x.t8,x.t9,x.t10,()),(x.b0,()))) λ_=>rfl)
def nB(q:aC->aC->aa Int)(p:kT):aa (aa kT):=
 bif vn (p.t9<p.t10)then if(0:Int)<=ak (cT u64 (bJ (ak (p.t9+p.t10))) ((1:Int)))/\ak (cT u64 (bJ (ak (p.t9+p.t10))) ((1:Int)))<(zY p.t0:Int)then match q p.t0[(ak (cT u64 (bJ (ak (p.t9+p.t10))) (1))).toNat]! p.b0 with|G=>G|V r1=>bif vn (r1<0)then V (V (kT.mk p.t0 p.t8 (ak (ak (cT u64 (bJ (ak (p.t9+p.t10))) (1))+1)) p.t10 p.b0))else V (V (kT.mk p.t0 p.t8 p.t9 (ak (cT u64 (bJ (ak (p.t9+p.t10))) (1))) p.b0))else G else V (G)
def mB(q:aC->aC->aa Int)(a0:af aC)(a1:aC):aa (Int×Bool):=
 match bI (nB q) (kT.mk a0 (zY a0:Int) (0) (zY a0:Int) a1)with|G=>G|V r2=>bif vn (r2.t9<r2.t10)then if(0:Int)<=ak (cT u64 (bJ (ak (r2.t9+r2.t10))) ((1:Int)))/\ak (cT u64 (bJ (ak (r2.t9+r2.t10))) ((1:Int)))<(zY r2.t0:Int)then match q r2.t0[(ak (cT u64 (bJ (ak (r2.t9+r2.t10))) (1))).toNat]! r2.b0 with|G=>G|V r3=>bif vn (r3<0)then G else G else G else bif vn (r2.t9<r2.t8)then if(0:Int)<=r2.t9/\r2.t9<(zY r2.t0:Int)then match q r2.t0[zq r2.t9]! r2.b0 with|G=>G|V r4=>V ((r2.t9,vn (r4=0)))else G else V ((r2.t9,O))
def dBs:Td 0 (Int×Bool):= .c [] [6,7] (.r 0 0 (ec 6 aP (ec 7 qb en)) sn (λz=>(z.1.1,z.1.2.1)) (λx=>((x.1,x.2,()),(()))) λ_=>rfl)
def SI:Td 0 kT:=dB 188
def auQ(p:kT):aa (aa kT):=nB Ls p
def afD:=bI (auQ)
abbrev aCQ:=Int×Bool
def d123:Td 0 aCQ:=dBs
def avI(a0:af aC)(a1:aC):aa aCQ:=mB Ls a0 a1
def PY:=eL vp 123 O (lc (ql 47) (lc (qg 47) (lc (qf 188 ln) ln))) d123 (λg=>avI g.1 g.2.1)
def akp:EO PY:=λh=>kL (an:=(noTwo (noTwo (noTwo (.two (SI.lp afD .no) .no))))) (l:=[(bk f123 0,(SI.lp afD .no))]) func123 (tH aV) (aA (aO SI) aH) h
structure qT where
 t3:List aC
 t9:List dW
 (t10 t11:Int)
 b0:Tree
def Vk:Td 2 qT:= .c [] [3,9,10,11] (.t (b6.s 3 [] 47) (.c [] [3,9,10,11] (.r 2 3 (ec 3 (qo 2) (ec 9 (qo 1) (ec 10 aP (ec 11 aP en)))) (sb 0 172 (lc (ql 131) (lc (ql 139) (lc (ql 166) (lc (ql 3) (lc qb (lc (qo 1) ln)))))) (sr 1 174 (sr 2 47 sn))) (λz=>⟨z.t.2.1,z.t.1,z.1.t.1,z.1.t.2.1,(Tree.mk (aS.mk z.2.1.1 z.2.1.2.1 z.2.1.t.1) (bU.mk z.2.1.t.2.1 z.2.1.q.1) z.t.1)⟩) (λx=>(((),(),x.t10,x.t11,()),((x.b0.fF.ai,x.b0.fF.ax,x.b0.fF.bM,x.b0.fV.bz,x.b0.fV.iM,(),()),x.b0.aN,x.t3,()))))))
def Fi{α:Type}(p:qT)(go:qT->aa α)(e1:aa α):aa α:=
 bif vn (p.t11<p.t10)then if 0<=p.t11/\p.t11<zY p.b0.aN then if 174=174/\zq p.t11<zY p.b0.aN then bif p.b0.aN[zq p.t11]!.ep then if(p.t3++[p.b0.aN[zq p.t11]!.cz]).length<=1073741824 then go (qT.mk (p.t3++[p.b0.aN[zq p.t11]!.cz]) p.b0.aN p.t10 (ak (p.t11+1)) p.b0)else G else go (qT.mk p.t3 p.b0.aN p.t10 (ak (p.t11+1)) p.b0)else G else G else e1
def MU(p:qT):aa (aa qT):=
 Fi p (λs=>V (V s)) (V G)
def Mi:=bI (MU)
abbrev axE:=(af aC)×Tree
def d192:Td 2 axE:= .c [] [2] (.r 2 3 (ec 2 (qo 2) en) (sb 0 172 (lc (ql 131) (lc (ql 139) (lc (ql 166) (lc (ql 3) (lc qb (lc (qo 1) ln)))))) (sr 1 174 (sr 2 47 sn))) (λz=>(z.t.2.1,(Tree.mk (aS.mk z.2.1.1 z.2.1.2.1 z.2.1.t.1) (bU.mk z.2.1.t.2.1 z.2.1.q.1) z.t.1))) (λx=>(((),()),((x.2.fF.ai,x.2.fF.ax,x.2.fF.bM,x.2.fV.bz,x.2.fV.iM,(),()),x.2.aN,x.1,()))))
def aGz:=(sb 0 172 (lc (ql 131) (lc (ql 139) (lc (ql 166) (lc (ql 3) (lc qb (lc (qo 1) ln)))))) (sr 1 174 sn))
def ahz(b0:Tree):aa axE:=
 match Mi (qT.mk [] b0.aN (zY b0.aN) 0 b0)with|G=>G|V r1=>Fi r1 (λ_=>G) (match ZY r1.t3 with|G=>G|V r2=>match ZI r2 with|G=>G|V r3=>V (r3,r1.b0))
def avo:bu->bu:=eY vp 192 2 (lc (qp 0 0) ln) aGz d192 (λg=>ahz ((Tree.mk (aS.mk g.2.1.1 g.2.1.2.1 g.2.1.t.1) (bU.mk g.2.1.t.2.1 g.2.1.q.1) g.t.1)))
def akQ:EO avo:=λh=>kY (an:=(noTwo (noTwo (.two (noTwo (Vk.lp Mi .no)) .no)))) (l:=[(bk f192 0,(Vk.lp Mi .no))]) func192 (acL aBV (acj azN (tH aV))) (aA (aO Vk) aH) h
structure rU where
 t4:List aC
 t35:List dW
 (t36 t37:Int)
 b0:Tree
 (b2 b3:aW)
def TG:Td 2 rU:= .c [] [2,3,4,35,36,37] (.t (b6.c 3 1 [] 117) (.c [] [2,3,4,35,36,37] (.r 2 7 (ec 2 (qp 2 0) (ec 3 (qp 3 0) (ec 4 (qo 4) (ec 35 (qo 1) (ec 36 aP (ec 37 aP en)))))) (sb 0 172 (lc (ql 131) (lc (ql 139) (lc (ql 166) (lc (ql 3) (lc qb (lc (qo 1) ln)))))) (sr 1 174 (sb 2 84 (lc qn (lc qn ln)) (sb 3 84 (lc (qo 5) (lc (qo 6) ln)) (sr 4 47 (sr 5 47 (sr 6 117 sn))))))) (λz=>⟨z.q.2.1,z.t.1,z.1.q.1,z.1.q.2.1,(Tree.mk (aS.mk z.2.1.1 z.2.1.2.1 z.2.1.t.1) (bU.mk z.2.1.t.2.1 z.2.1.q.1) z.t.1),(aW.mk [] []),(aW.mk z.q.t.1 z.q.t.2.1)⟩) (λx=>(((),(),(),(),x.t36,x.t37,()),((x.b0.fF.ai,x.b0.fF.ax,x.b0.fF.bM,x.b0.fV.bz,x.b0.fV.iM,(),()),x.b0.aN,((),(),()),((),(),()),x.t4,x.b3.cz,x.b3.aN,()))))))
def FL{α:Type}(p:rU)(go:rU->aa α)(e1:aa α):aa α:=
 bif vn (p.t37<p.t36)then if 0<=p.t37/\p.t37<zY p.b0.aN then if 174=174/\zq p.t37<zY p.b0.aN then match m35 p.b0.aN[zq p.t37]!.aq with|G=>G|V r2=>bif p.b0.aN[zq p.t37]!.ep then match avI p.t4 p.b0.aN[zq p.t37]!.cz with|G=>G|V r3=>if(p.b3.aN++[Cell.mk p.b0.aN[zq p.t37]!.aZ p.b0.aN[zq p.t37]!.eG r2 [r3.fst] p.b0.aN[zq p.t37]!.gm]).length<=1073741824 then go (rU.mk p.t4 p.b0.aN p.t36 (ak (p.t37+1)) p.b0 (aW.mk [] []) (aW.mk p.b3.cz (p.b3.aN++[Cell.mk p.b0.aN[zq p.t37]!.aZ p.b0.aN[zq p.t37]!.eG r2 [r3.fst] p.b0.aN[zq p.t37]!.gm])))else G else if(p.b3.aN++[Cell.mk p.b0.aN[zq p.t37]!.aZ p.b0.aN[zq p.t37]!.eG r2 [] p.b0.aN[zq p.t37]!.gm]).length<=1073741824 then go (rU.mk p.t4 p.b0.aN p.t36 (ak (p.t37+1)) p.b0 (aW.mk [] []) (aW.mk p.b3.cz (p.b3.aN++[Cell.mk p.b0.aN[zq p.t37]!.aZ p.b0.aN[zq p.t37]!.eG r2 [] p.b0.aN[zq p.t37]!.gm])))else G else G else G else e1
def LA(p:rU):aa (aa rU):=
 FL p (λs=>V (V s)) (V G)
def Kx:=bI (LA)
structure uS where
 (t4 t14:List aC)
 (t15 t16:Int)
 b0:Tree
 (b2 b3:aW)
def Vh:Td 2 uS:= .c [] [0,2,3,4,14,15,16] (.t (b6.c 3 0 [] 47) (.c [] [0,2,3,4,14,15,16] (.r 2 6 (ec 0 (qp 0 0) (ec 2 (qp 2 0) (ec 3 (qp 3 0) (ec 4 (qo 4) (ec 14 (qo 4) (ec 15 aP (ec 16 aP en))))))) (sb 0 172 (lc (ql 131) (lc (ql 139) (lc (ql 166) (lc (ql 3) (lc qb (lc (qo 1) ln)))))) (sr 1 174 (sb 2 84 (lc qn (lc qn ln)) (sb 3 84 (lc (qo 5) (lc qn ln)) (sr 4 47 (sr 5 47 sn)))))) (λz=>⟨z.q.2.1,z.q.2.1,z.1.q.2.1,z.1.q.t.1,(Tree.mk (aS.mk z.2.1.1 z.2.1.2.1 z.2.1.t.1) (bU.mk z.2.1.t.2.1 z.2.1.q.1) z.t.1),(aW.mk [] []),(aW.mk z.q.t.1 [])⟩) (λx=>(((),(),(),(),(),x.t15,x.t16,()),((x.b0.fF.ai,x.b0.fF.ax,x.b0.fF.bM,x.b0.fV.bz,x.b0.fV.iM,(),()),x.b0.aN,((),(),()),((),(),()),x.t14,x.b3.cz,()))))))
def Fs{α:Type}(p:uS)(go:uS->aa α)(e1:aa α):aa α:=
 bif vn (p.t16<p.t15)then if 0<=p.t16/\p.t16<zY p.t14 then if 47=47/\zq p.t16<zY p.t14 then match m35 p.t14[zq p.t16]!.aM with|G=>G|V r1=>if(p.b3.cz++[aC.mk r1 p.t14[zq p.t16]!.aI]).length<=1073741824 then go (uS.mk p.t14 p.t14 p.t15 (ak (p.t16+1)) p.b0 (aW.mk [] []) (aW.mk (p.b3.cz++[aC.mk r1 p.t14[zq p.t16]!.aI]) []))else G else G else G else e1
def Mq(p:uS):aa (aa uS):=
 Fs p (λs=>V (V s)) (V G)
def NI:=bI (Mq)
abbrev aBp:=aW×Tree
def d110:Td 2 aBp:= .c [] [2] (.r 2 5 (ec 2 (qp 2 0) en) (sb 0 172 (lc (ql 131) (lc (ql 139) (lc (ql 166) (lc (ql 3) (lc qb (lc (qo 1) ln)))))) (sr 1 174 (sb 2 84 (lc (qo 3) (lc (qo 4) ln)) (sr 3 47 (sr 4 117 sn))))) (λz=>((aW.mk z.q.1 z.q.2.1),(Tree.mk (aS.mk z.2.1.1 z.2.1.2.1 z.2.1.t.1) (bU.mk z.2.1.t.2.1 z.2.1.q.1) z.t.1))) (λx=>(((),()),((x.2.fF.ai,x.2.fF.ax,x.2.fF.bM,x.2.fV.bz,x.2.fV.iM,(),()),x.2.aN,((),(),()),x.1.cz,x.1.aN,()))))
def aHa:=(sb 0 172 (lc (ql 131) (lc (ql 139) (lc (ql 166) (lc (ql 3) (lc qb (lc (qo 1) ln)))))) (sr 1 174 sn))
def UW(b0:Tree):aa aBp:=
 match ahz b0 with|G=>G|V r4=>match NI (uS.mk r4.fst r4.fst (zY r4.fst) 0 r4.snd (aW.mk [] []) (aW.mk [] []))with|G=>G|V r5=>Fs r5 (λ_=>G) (match Kx (rU.mk r5.t14 r5.b0.aN (zY r5.b0.aN) 0 r5.b0 (aW.mk [] []) (aW.mk r5.b3.cz []))with|G=>G|V r7=>FL r7 (λ_=>G) (V (r7.b3,r7.b0)))
def acD:bu->bu:=eY vp 110 2 (lc (qp 0 0) ln) aHa d110 (λg=>UW ((Tree.mk (aS.mk g.2.1.1 g.2.1.2.1 g.2.1.t.1) (bU.mk g.2.1.t.2.1 g.2.1.q.1) g.t.1)))
def ajJ:EO acD:=λh=>kY (an:=(noTwo (noTwo (noTwo (.two (noTwo (Vh.lp NI .no)) (.two (noTwo (TG.lp Kx .no)) .no)))))) (l:=[(bk f110 0,(Vh.lp NI .no)),(bk f110 1,(TG.lp Kx .no))]) func110 (akQ (tH (akp (u6 aV)))) (aA (aO Vh) (aA (aO TG) aH)) h
def awZ:bu:=dA
structure ru where
 t73:List Int
 (t74 t75:Int)
def RY:Td 0 ru:= .c [] [73,74,75] (.r 0 1 (ec 73 (qo 0) (ec 74 aP (ec 75 aP en))) (sr 0 3 sn) (λz=>⟨z.2.1,z.1.2.1,z.1.t.1⟩) (λx=>(((),x.t74,x.t75,()),(x.t73,()))))
def mD{α:Type}(p:ru)(go:ru->aa α)(e1 e2:aa α):aa α:=
 bif vn (p.t75<p.t74)then if 0<=p.t75/\p.t75<zY p.t73 then if 3=3/\zq p.t75<zY p.t73 then match (bif bif(match vn (p.t73[zq p.t75]! =1)with|J=>O|O=>J)==vn (p.t75=0)then O else J then V J else V (vn (1<p.t73[zq p.t75]!)))with|G=>G|V r5=>bif r5 then e1 else go (ru.mk p.t73 p.t74 (ak (p.t75+1)))else G else G else e2
def qX(p:ru):aa (aa ru):=
 mD p (λs=>V (V s)) (V G) (V G)
def acN:An:=(noTwo (noTwo (.two (noTwo (.two (.rb [] 88) .no)) .no)))
def E5:=bI (qX)
structure v7 where
 t0:List Cell
 t3:List Int
 t4:Int
 t16:List Cell
 (t17 t18:Int)
 t50:List Int
 (t51 t52:Int)
def Tx:Td 0 v7:= .c [] [0,3,4,16,17,18,50,51,52] (.r 0 1 (ec 0 (ql 117) (ec 3 (qo 0) (ec 4 aP (ec 16 (ql 117) (ec 17 aP (ec 18 aP (ec 50 (ql 3) (ec 51 aP (ec 52 aP en))))))))) (sr 0 3 sn) (λz=>⟨z.1.1,z.2.1,z.1.t.1,z.1.t.2.1,z.1.q.1,z.1.q.2.1,z.1.q.t.1,z.1.q.t.2.1,z.1.q.q.1⟩) (λx=>((x.t0,(),x.t4,x.t16,x.t17,x.t18,x.t50,x.t51,x.t52,()),(x.t3,()))))
def gO{α:Type}(p:v7)(go:v7->aa α)(e1 e2:aa α):aa α:=
 bif vn (p.t52<p.t51)then if 0<=p.t52/\p.t52<zY p.t50 then match (bif vn (p.t50[zq p.t52]!<=p.t4)then V J else V (vn (zY p.t0<=p.t50[zq p.t52]!)))with|G=>G|V r4=>bif r4 then e1 else if 0<=p.t50[zq p.t52]!/\p.t50[zq p.t52]! <(zY p.t3:Int)then if 3=3/\zq p.t50[zq p.t52]! <zY p.t3 then if 0<=p.t50[zq p.t52]!/\p.t50[zq p.t52]! <(zY p.t3:Int)then if 3=3/\zq p.t50[zq p.t52]! <zY p.t3 then go (v7.mk p.t0 (p.t3.set (zq p.t50[zq p.t52]!) (ak (p.t3[zq p.t50[zq p.t52]!]! +1))) p.t4 p.t16 p.t17 p.t18 p.t50 p.t51 (ak (p.t52+1)))else G else G else G else G else G else e2
def o4(p:v7):aa (aa v7):=
 gO p (λs=>V (V s)) (V G) (V G)
def af7:An:=(noTwo (noTwo (.two (noTwo (.two (.two (.rb [] 64) .no) .no)) .no)))
def HZ:=bI (o4)
structure vP where
 t0:List Cell
 t3:List Int
 t16:List Cell
 (t17 t18:Int)
def Ud:Td 0 vP:= .c [] [0,3,16,17,18] (.r 0 1 (ec 0 (ql 117) (ec 3 (qo 0) (ec 16 (ql 117) (ec 17 aP (ec 18 aP en))))) (sr 0 3 sn) (λz=>⟨z.1.1,z.2.1,z.1.t.1,z.1.t.2.1,z.1.q.1⟩) (λx=>((x.t0,(),x.t16,x.t17,x.t18,()),(x.t3,()))))
def lz{α:Type}(p:vP)(go:vP->aa α)(e1 e2:aa α):aa α:=
 bif vn (p.t18<p.t17)then if 0<=p.t18/\p.t18<zY p.t16 then match (bif bif vn ((↑p.t16[zq p.t18]!.aq.length:Int)=0)then O else J then bif bif vn ((↑p.t16[zq p.t18]!.aq.length:Int)=2)then O else J then V J else bif vn ((↑p.t16[zq p.t18]!.aq.length:Int)=0)then bif bif vn (p.t16[zq p.t18]!.aZ=0)then O else J then V J else V (bif vn (p.t16[zq p.t18]!.eG=0)then O else J)else V O else bif vn ((↑p.t16[zq p.t18]!.aq.length:Int)=0)then bif bif vn (p.t16[zq p.t18]!.aZ=0)then O else J then V J else V (bif vn (p.t16[zq p.t18]!.eG=0)then O else J)else V O)with|G=>G|V r1=>bif r1 then e1 else match HZ (v7.mk p.t0 p.t3 p.t18 p.t16 p.t17 p.t18 p.t16[zq p.t18]!.aq (↑p.t16[zq p.t18]!.aq.length:Int) 0)with|G=>G|V r2=>gO r2 (λ_=>G) e1 (go (vP.mk r2.t0 r2.t3 r2.t16 r2.t17 (ak (r2.t18+1))))else G else e2
def qH(p:vP):aa (aa vP):=
 lz p (λs=>V (V s)) (V G) (V G)
def acE:An:=(noTwo (noTwo (.two (noTwo (.two (.two (.rb [] 48) .no) (noTwo (Tx.lp HZ af7)))) .no)))
def FZ:=bI (qH)
abbrev axT:=Bool
def d184:Td 0 axT:= .c [] [2] (.r 0 0 (ec 2 qb en) sn (λz=>z.1.1) (λx=>((x,()),(()))))
def abu:∀f∈([]:af Nat),bA (awZ) f:=aH
def Ef(a0:af Cell):aa axT:=
 bif vn ((zY a0:Int)=0)then V O else if(0:Int)<=zY a0/\(zY a0:Int)<=(zY a0:Int)/\(zY a0:Int)<=(1073741824:Int)then match FZ (vP.mk a0 (zf (zY a0) 0) a0 (zY a0) 0)with|G=>G|V r6=>lz r6 (λ_=>G) (V O) (match E5 (ru.mk r6.t3 (zY r6.t3) 0)with|G=>G|V r10=>mD r10 (λ_=>G) (V O) (V J))else G
def IL:=eL vp 184 O (lc (ql 117) ln) d184 (λg=>Ef g.1)
def agB:EO IL:=λh=>kL (F:=awZ) (an:=(noTwo (noTwo (noTwo (.two (noTwo (Ud.lp FZ acE)) (.two (noTwo (RY.lp E5 acN)) .no)))))) (l:=[(bk f184 0,(Ud.lp FZ acE)),(.skip,(.rb [] 48)),(bk f184 1,(Tx.lp HZ af7)),(.skip,(.rb [] 64)),(bk f184 2,(RY.lp E5 acN)),(.skip,(.rb [] 88))]) func184 aV (aA (aO Ud) (aA abu (aA (aO Tx) (aA abu (aA (aO RY) (aA abu aH)))))) h
abbrev aot:=Unit×Int
def awU:Td 0 aot:= .c [] [4,5] (.r 0 0 (ec 4 qv (ec 5 aP en)) sn (λz=>((),z.1.2.1)) (λx=>(((),x.2,()),(()))))
def YS(a0:aS)(a1:bU):aa aot:=
 match m76 a0 with|G=>G|V r1=>bif bif vn (r1.snd=0)then O else J then V (((),r1.snd))else match T6 a0 a1 r1.fst with|G=>G|V r2=>bif bif vn (r2.snd=0)then O else J then V (((),r2.snd))else match T6 a0 a1 r1.fst with|G=>G|V r3=>match m26 a0 a1 r1.fst with|G=>G|V r4=>G
def aq0:bu->bu:=eZf vp 118 (lc (qg 26) (lc (qg 29) ln)) awU (λg=>YS g.1 g.2.1)
def ac0:EO aq0:=λh=>kZf (an:= .no) func118 (KE (p:=(λf=>zc f 25||zc f 26||zc f 76)) (aeA (UF (Tj aV)))) aH h
abbrev aoI:=Tree×Int
def ax2:Td 0 aoI:= .c [] [4,5] (.r 0 2 (ec 4 (qp 0 0) (ec 5 aP en)) (sb 0 172 (lc (ql 131) (lc (ql 139) (lc (ql 166) (lc (ql 3) (lc qb (lc (qo 1) ln)))))) (sr 1 174 sn)) (λz=>((Tree.mk (aS.mk z.2.1.1 z.2.1.2.1 z.2.1.t.1) (bU.mk z.2.1.t.2.1 z.2.1.q.1) z.t.1),z.1.2.1)) (λx=>(((),x.2,()),((x.1.fF.ai,x.1.fF.ax,x.1.fF.bM,x.1.fV.bz,x.1.fV.iM,(),()),x.1.aN,()))))
def Kq(a0:aS)(a1:bU):aa aoI:=
 match m76 a0 with|G=>G|V r1=>bif bif vn (r1.snd=0)then O else J then G else match T6 a0 a1 r1.fst with|G=>G|V r2=>bif bif vn (r2.snd=0)then O else J then G else match T6 a0 a1 r1.fst with|G=>G|V r3=>match m26 a0 a1 r1.fst with|G=>G|V r4=>V ((Tree.mk a0 a1 [dW.mk r1.fst (0) (0) [] r3.fst r4.snd.fst r4.fst],0))
def aq3:bu->bu:=eZf vp 118 (lc (qg 26) (lc (qg 29) ln)) ax2 (λg=>Kq g.1 g.2.1)
def acO:EO aq3:=λh=>kZf (an:= .no) func118 (KE (p:=(λf=>zc f 25||zc f 26||zc f 76)) (aeA (UF (Tj aV)))) aH h
def Xc:bu:=(rz vp (aBN (ayU (ahH (IL (ZP (aq3 (aq0 (acD (e71 (e35 (Yb (XZ dA)))))))))))) (λf=>zc f 25||zc f 26||zc f 35||zc f 71||zc f 110||zc f 118||zc f 120||zc f 184||zc f 186||zc f 187||zc f 189) 300 10)
structure gX where
 t10:List (List aK)
 t55:List Cell
 (t56 t57:Int)
 b0:aW
 b2:Tree
def nr:Td 0 gX:= .c [] [5,10,11,55,56,57] (.t (b6.c 2 5 [] 174) (.c [] [5,10,11,55,56,57] (.r 0 4 (ec 5 (qp 0 0) (ec 10 (qo 1) (ec 11 (qp 2 0) (ec 55 (ql 117) (ec 56 aP (ec 57 aP en)))))) (sb 0 84 (lg 84) (sr 1 30 (sb 2 172 (lc (ql 131) (lc (ql 139) (lc (ql 166) (lc (ql 3) (lc qb (lc (qo 3) ln)))))) (sr 3 174 sn)))) (λz=>⟨z.t.1,z.1.t.2.1,z.1.q.1,z.1.q.2.1,z.2.1,(Tree.mk (aS.mk z.t.2.1.1 z.t.2.1.2.1 z.t.2.1.t.1) (bU.mk z.t.2.1.t.2.1 z.t.2.1.q.1) z.q.1)⟩) (λx=>(((),(),(),x.t55,x.t56,x.t57,()),(x.b0,x.t10,(x.b2.fF.ai,x.b2.fF.ax,x.b2.fF.bM,x.b2.fV.bz,x.b2.fV.iM,(),()),x.b2.aN,()))))))
def fS(x0:gX)(x1:E25)(x2:E26):=
 x0.b2.aN++[dW.mk x0.t10[zq x0.t57]! (0) (0) [] x1.fst x2.snd.fst x2.fst]
def iF(x0:gX)(x1:E25)(x2:E26):=
 (fS x0 x1 x2).set x0.t57.toNat (dW.mk (fS x0 x1 x2)[zq x0.t57]!.dh x0.t55[zq x0.t57]!.aZ (fS x0 x1 x2)[zq x0.t57]!.eG (fS x0 x1 x2)[zq x0.t57]!.aq (fS x0 x1 x2)[zq x0.t57]!.gm (fS x0 x1 x2)[zq x0.t57]!.ep (fS x0 x1 x2)[zq x0.t57]!.cz)
def iA(x0:gX)(x1:E25)(x2:E26):=
 (iF x0 x1 x2).set x0.t57.toNat (dW.mk (iF x0 x1 x2)[zq x0.t57]!.dh (iF x0 x1 x2)[zq x0.t57]!.aZ x0.t55[zq x0.t57]!.eG (iF x0 x1 x2)[zq x0.t57]!.aq (iF x0 x1 x2)[zq x0.t57]!.gm (iF x0 x1 x2)[zq x0.t57]!.ep (iF x0 x1 x2)[zq x0.t57]!.cz)
def lN{α:Type}(p:gX)(go:gX->aa α)(e1 e2:aa α):aa α:=
 bif vn (p.t57<p.t56)then if 0<=p.t57/\p.t57<zY p.t55 then if 0<=p.t57/\p.t57<zY p.t10 then if 30=30/\zq p.t57<zY p.t10 then match T6 p.b2.fF p.b2.fV p.t10[zq p.t57]! with|G=>G|V r1=>match m26 p.b2.fF p.b2.fV p.t10[zq p.t57]! with|G=>G|V r2=>if(fS p r1 r2).length<=1073741824 then bif vn ((↑p.t55[zq p.t57]!.aq.length:Int)=0)then go (gX.mk p.t10 p.t55 p.t56 (ak (p.t57+1)) p.b0 (Tree.mk p.b2.fF p.b2.fV (fS p r1 r2)))else if 0<=p.t57/\p.t57<zY p.t10 then if 30=30/\zq p.t57<zY p.t10 then bif vn (p.t55[zq p.t57]!.aZ<0)then e1 else bif vn ((↑(zY p.t10[zq p.t57]!):Int)<=p.t55[zq p.t57]!.aZ)then e1 else if 0<=p.t55[zq p.t57]!.aZ/\p.t55[zq p.t57]!.aZ<(↑(zY p.t10[zq p.t57]!):Int)then bif vn (p.t55[zq p.t57]!.eG<p.t10[zq p.t57]![p.t55[zq p.t57]!.aZ.toNat]!.ah)then e1 else if 0<=p.t55[zq p.t57]!.aZ/\p.t55[zq p.t57]!.aZ<(↑(zY p.t10[zq p.t57]!):Int)then bif vn (p.t10[zq p.t57]![p.t55[zq p.t57]!.aZ.toNat]!.ag<=p.t55[zq p.t57]!.eG)then e1 else if(0:Int)<=(0:Int)/\(0:Int)<(↑p.t55[zq p.t57]!.aq.length:Int)then if(0:Int)<=(1:Int)/\(1:Int)<(↑p.t55[zq p.t57]!.aq.length:Int)then match aaI p.t10[zq p.t57]! p.t55[zq p.t57]!.aZ p.t55[zq p.t57]!.eG with|G=>G|V r3=>if 0<=p.t55[zq p.t57]!.aq[zq 0]!/\p.t55[zq p.t57]!.aq[zq 0]! <(zY p.t10:Int)then if 30=30/\zq p.t55[zq p.t57]!.aq[0]! <zY p.t10 then if 0<=p.t55[zq p.t57]!.aq[zq 1]!/\p.t55[zq p.t57]!.aq[zq 1]! <(↑(p.t10.set (zq p.t55[zq p.t57]!.aq[0]!) r3.fst).length:Int)then if 30=30/\zq p.t55[zq p.t57]!.aq[1]! <zY (p.t10.set (zq p.t55[zq p.t57]!.aq[0]!) r3.fst) then match m35 p.t55[zq p.t57]!.aq with|G=>G|V r4=>if 0<=p.t57/\p.t57<(↑(fS p r1 r2).length:Int)then if 174=174/\zq p.t57<zY (fS p r1 r2) then if 0<=p.t57/\p.t57<(↑(iF p r1 r2).length:Int)then if 174=174/\zq p.t57<zY (iF p r1 r2) then if 0<=p.t57/\p.t57<(↑(iA p r1 r2).length:Int)then if 174=174/\zq p.t57<zY (iA p r1 r2) then go (gX.mk ((p.t10.set (zq p.t55[zq p.t57]!.aq[0]!) r3.fst).set (zq p.t55[zq p.t57]!.aq[1]!) r3.snd) p.t55 p.t56 (ak (p.t57+1)) p.b0 (Tree.mk p.b2.fF p.b2.fV ((iA p r1 r2).set p.t57.toNat (dW.mk (iA p r1 r2)[zq p.t57]!.dh (iA p r1 r2)[zq p.t57]!.aZ (iA p r1 r2)[zq p.t57]!.eG r4 (iA p r1 r2)[zq p.t57]!.gm (iA p r1 r2)[zq p.t57]!.ep (iA p r1 r2)[zq p.t57]!.cz))))else G else G else G else G else G else G else G else G else G else G else G else G else G else G else G else G else G else G else G else G else e2
def pI(p:gX):aa (aa gX):=
 lN p (λs=>V (V s)) (V G) (V G)
def XM(p:gX):oO vp (Xc) f105.ntmps 300 (bk f105 0) .no (aa gX) (nr.pat p) (kOn nr.rd)=pI p:=aY
def oZ:=bI (pI)
abbrev ap8:=Tree×Int
def ayE:Td 0 ap8:= .c [] [6,7] (.r 0 2 (ec 6 (qp 0 0) (ec 7 aP en)) (sb 0 172 (lc (ql 131) (lc (ql 139) (lc (ql 166) (lc (ql 3) (lc qb (lc (qo 1) ln)))))) (sr 1 174 sn)) (λz=>((Tree.mk (aS.mk z.2.1.1 z.2.1.2.1 z.2.1.t.1) (bU.mk z.2.1.t.2.1 z.2.1.q.1) z.t.1),z.1.2.1)) (λx=>(((),x.2,()),((x.1.fF.ai,x.1.fF.ax,x.1.fF.bM,x.1.fV.bz,x.1.fV.iM,(),()),x.1.aN,()))))
def Hr(a0:aS)(a1:bU)(a2:aW):aa ap8:=
 match Kq a0 a1 with|G=>(match YS a0 a1 with|G=>G|V r15=>bif bif vn (r15.snd=0)then O else J then G else bif vn (8192<(zY a2.aN:Int))then G else match Ef a2.aN with|G=>G|V r16=>bif bif r16 then O else J then G else if(0:Int)<=zY a2.aN/\(zY a2.aN:Int)<=(zY a2.aN:Int)/\(zY a2.aN:Int)<=(1073741824:Int)then G else G)|V r5=>bif bif vn (r5.snd=0)then O else J then G else bif vn (8192<(zY a2.aN:Int))then G else match Ef a2.aN with|G=>G|V r6=>bif bif r6 then O else J then G else if(0:Int)<=zY a2.aN/\(zY a2.aN:Int)<=(zY a2.aN:Int)/\(zY a2.aN:Int)<=(1073741824:Int)then if(0:Int)<=(0:Int)/\(0:Int)<zY r5.fst.aN then if 174=174/\0<zY r5.fst.aN then if(0:Int)<=(0:Int)/\(0:Int)<(↑(zf (zY a2.aN) ([]:af aK)).length:Int)then if 30=30/\0<zY (zf (zY a2.aN) ([]:af aK)) then match oZ (gX.mk ((zf (zY a2.aN) ([]:af aK)).set 0 r5.fst.aN[0]!.dh) a2.aN (zY a2.aN) 0 a2 (Tree.mk a0 a1 []))with|G=>G|V r7=>lN r7 (λ_=>G) G (match UW r7.b2 with|G=>G|V r12=>match al4 r7.b0.aN r12.fst.aN with|G=>G|V r13=>bif bif r13 then O else J then G else match m71 r7.b0.cz r12.fst.cz with|G=>G|V r14=>bif bif r14 then O else J then G else V (r12.snd,0))else G else G else G else G else G
def azb:bu->bu:=eZf vp 105 (lc (qg 26) (lc (qg 29) (lc (qg 84) ln))) ayE (λg=>Hr g.1 g.2.1 g.t.1)
def acs:EO azb:=λh=>kZf (F:=Xc) (an:=(noTwo (noTwo (noTwo (noTwo (noTwo (noTwo (.two (noTwo (nr.lp oZ .no)) .no)))))))) (l:=[(bk f105 0,(nr.lp oZ .no))]) func105 (KE (p:=(λf=>zc f 25||zc f 26||zc f 35||zc f 71||zc f 110||zc f 118||zc f 120||zc f 184||zc f 186||zc f 187||zc f 189)) (XH (W9 (al5 (agB (Wt (acO (ac0 (ajJ (acJ (u6 (UF (Tj aV))))))))))))) (aA ⟨nr.ok _,K3 (XM)⟩ aH) h
abbrev E48:=aW×Int
def m48(a0:aS)(a1:bU)(a2:aW)(a3:Int):aa E48:=
 match Hr a0 a1 a2 with|G=>G|V r1=>bif bif vn (r1.snd=0)then O else J then V (aW.mk [] [],r1.snd)else match bif vn (a3<0)then V J else bif vn (zY r1.fst.aN<=a3)then V J else if 0<=a3/\a3<zY r1.fst.aN then if 174=174/\a3.toNat<zY r1.fst.aN then V (vn (0<(↑r1.fst.aN[a3.toNat]!.aq.length:Int)))else G else G with|G=>G|V r2=>bif r2 then V (aW.mk [] [],3)else if 0<=a3/\a3<zY r1.fst.aN then if 174=174/\a3.toNat<zY r1.fst.aN then match aE6 r1.fst.aN[a3.toNat]!.dh with|G=>G|V r3=>bif bif r3 then O else J then V (aW.mk [] [],11)else match axJ a3 r1.fst with|G=>G|V r4=>bif bif vn (r4.fst=0)then O else J then V (aW.mk [] [],r4.fst)else match UW r4.snd with|G=>G|V r5=>V (r5.fst,0)else G else G
abbrev E54:=aW×Int
def m54(a0:aS)(a1:bU):aa E54:=
 match Kq a0 a1 with|G=>(match YS a0 a1 with|G=>G|V r3=>bif bif vn (r3.snd=0)then O else J then V ((aW.mk [] [],r3.snd))else G)|V r1=>bif bif vn (r1.snd=0)then O else J then V ((aW.mk [] [],r1.snd))else match UW r1.fst with|G=>G|V r2=>V ((r2.fst,0))
abbrev E58:=af Part
def m58(a0:aS):aa E58:=
 match SC a0 with|G=>G|V r1=>V ([Part.mk (0) (0) [] r1])
def aFG:bu:=dA
abbrev arF:=aK
def d194:Td 0 arF:= .c [] [4] (.r 0 1 (ec 4 (qp 0 0) en) (sb 0 34 (lg 34) sn) (λz=>z.2.1) (λx=>(((),()),(x,()))))
def aCw:=(aU (aU ln))
def aoJ:An:= .no
def RX(a0:Int)(a1:Int):arF:=
 bif vn (a0=a1)then aK.mk a0 a1 (0)else aK.mk a0 a1 (1)
def aFh(a0:Int)(a1:Int):bZ vp (aFG) 300 (aoJ) 194 (aCw.c (a0,a1,())) [] 0 d194.rd=V (RX a0 a1):=by
 refine Eq.trans (b:=(
  bif vn (a0=a1)then V (aK.mk a0 a1 (0))else V (aK.mk a0 a1 (1)):aa arF)) aY ?_
 simp only[RX,cn,cO]
def aH8:=eL vp 194 O aCw d194 (λg=>V (RX g.1 g.2.1))
def an3:EO aH8:=λh=>kL (an:=aoJ) func194 aV aH h (c:=λg=>aFh g.1 g.2.1)
abbrev asV:=(af aK)×(af aK)
def d112:Td 0 asV:= .c [] [6,7] (.r 0 2 (ec 6 (qo 0) (ec 7 (qo 1) en)) (sr 0 34 (sr 1 34 sn)) (λz=>(z.2.1,z.t.1)) (λx=>(((),(),()),(x.1,x.2,()))))
def adh(a0:af aK)(a1:Int)(a2:Int):aa asV:=
 match Xr a0 with|G=>G|V r1=>match Xr a0 with|G=>G|V r2=>if 0<=a1/\a1<zY a0 then if 0<=a1/\a1<(↑(zY r1):Int)then if 34=34/\a1.toNat<zY r1 then if 0<=a1/\a1<zY a0 then if 0<=a1/\a1<(↑(zY r2):Int)then if 34=34/\a1.toNat<zY r2 then V ((List.set r1 a1.toNat (RX a0[a1.toNat]!.ah a2),List.set r2 a1.toNat (RX (ak (a2+1)) a0[a1.toNat]!.ag)))else G else G else G else G else G else G
def aib:=eL vp 112 O (lc (ql 34) (aU (aU ln))) d112 (λg=>adh g.1 g.2.1 g.t.1)
def ah3:EO aib:=λh=>kL (an:= .no) func112 (an3 (u5 aV)) aH h
structure uF where
 t0:List aK
 t2:Int
 t7:List aK
 (t8 t9:Int)
def afw{α:Type}(p:uF)(go:uF->aa α)(e1:aa α):aa α:=
 bif vn (p.t9<p.t8)then if 0<=p.t9/\p.t9<zY p.t7 then if 0<=p.t2/\p.t2<zY p.t0 then if 0<=p.t2/\p.t2<zY p.t0 then bif vn (ak (p.t0[zq p.t2]!.ag-p.t0[zq p.t2]!.ah)<ak (p.t7[zq p.t9]!.ag-p.t7[zq p.t9]!.ah))then go (uF.mk p.t0 p.t9 p.t7 p.t8 (ak (p.t9+1)))else go (uF.mk p.t0 p.t2 p.t7 p.t8 (ak (p.t9+1)))else G else G else G else e1
def asv(p:uF):aa (aa uF):=
 afw p (λs=>V (V s)) (V G)
def av7:=bI (asv)
abbrev aFJ:=Int×Int×Bool
def aIb(a0:af aK):aa aFJ:=
 match av7 (uF.mk a0 0 a0 (zY a0) 0)with|G=>G|V r1=>afw r1 (λ_=>G) (bif vn ((zY r1.t0:Int)=0)then V (0,0,O)else if 0<=r1.t2/\r1.t2<zY r1.t0 then if 0<=r1.t2/\r1.t2<zY r1.t0 then bif vn (r1.t0[zq r1.t2]!.ag=r1.t0[zq r1.t2]!.ah)then V (0,0,O)else if 0<=r1.t2/\r1.t2<zY r1.t0 then if 0<=r1.t2/\r1.t2<zY r1.t0 then match aFD (ak (r1.t0[zq r1.t2]!.ah+r1.t0[zq r1.t2]!.ag)) 2with|G=>G|V r2=>V (r1.t2,r2,J)else G else G else G else G)
abbrev aF7:=af Part
def aIa(a0:af Part):aa aF7:=if zY a0<=1073741824 then V a0 else G
abbrev E49:=(af Part)×Bool
def m49(a0:af Part)(a1:Int):aa E49:=
 if 0<=a1/\a1<zY a0 then match aIb a0[a1.toNat]!.dh with|G=>G|V r1=>bif bif r1.snd.snd then O else J then V (a0,O)else if 0<=a1/\a1<zY a0 then match adh a0[a1.toNat]!.dh r1.fst r1.snd.fst with|G=>G|V r2=>match aIa a0 with|G=>G|V r3=>if(r3++[Part.mk ((0:Int)) ((0:Int)) [] r2.fst,Part.mk ((0:Int)) ((0:Int)) [] r2.snd]).length<=1073741824 then if 0<=a1/\a1<zY a0 then if 0<=a1/\a1<(↑(r3++[Part.mk ((0:Int)) ((0:Int)) [] r2.fst,Part.mk ((0:Int)) ((0:Int)) [] r2.snd]).length:Int)then if 90=90/\a1.toNat<zY (r3++[Part.mk ((0:Int)) ((0:Int)) [] r2.fst,Part.mk ((0:Int)) ((0:Int)) [] r2.snd]) then V (((r3++[Part.mk 0 0 [] r2.fst,Part.mk 0 0 [] r2.snd]).set a1.toNat (Part.mk r1.fst r1.snd.fst [(zY a0:Int),ak ((zY a0:Int)+1)] a0[a1.toNat]!.dh),J))else G else G else G else G else G else G
def ayj:bu:=dA
structure rB where
 t3:Int
 t7:List bh
 (t8 t9:Int)
def RL:Td 0 rB:= .c [] [3,7,8,9] (.r 0 0 (ec 3 aP (ec 7 (ql 131) (ec 8 aP (ec 9 aP en)))) sn (λz=>⟨z.1.1,z.1.2.1,z.1.t.1,z.1.t.2.1⟩) (λx=>((x.t3,x.t7,x.t8,x.t9,()),(()))))
def GP{α:Type}(p:rB)(go:rB->aa α)(e1:aa α):aa α:=
 bif vn (p.t9<p.t8)then if 0<=p.t9/\p.t9<zY p.t7 then match (bif vn (p.t7[zq p.t9]!.bS=1)then V J else V (vn (p.t7[zq p.t9]!.bS=3)))with|G=>G|V r1=>bif r1 then go (rB.mk (ak (p.t3*ak (ak (p.t7[zq p.t9]!.ag-p.t7[zq p.t9]!.ah)+1))) p.t7 p.t8 (ak (p.t9+1)))else go (rB.mk p.t3 p.t7 p.t8 (ak (p.t9+1)))else G else e1
def KR(p:rB):aa (aa rB):=
 GP p (λs=>V (V s)) (V G)
def afB:An:=(noTwo (noTwo (.two (noTwo (.two (.rb [] 20) .no)) .no)))
def Lk:=bI (KR)
abbrev azo:=Int
def d104:Td 0 azo:= .c [] [2] (.r 0 0 (ec 2 aP en) sn (λz=>z.1.1) (λx=>((x,()),(()))))
def ay1:∀f∈([]:af Nat),bA (ayj) f:=aH
def ahf(a0:aS):aa azo:=
 match Lk (rB.mk 1 a0.ai (zY a0.ai) 0)with|G=>G|V r2=>GP r2 (λ_=>G) (V (r2.t3))
def af6:=eL vp 104 O (lc (qg 26) ln) d104 (λg=>ahf g.1)
def akb:EO af6:=λh=>kL (F:=ayj) (an:=(noTwo (noTwo (.two (noTwo (RL.lp Lk afB)) .no)))) (l:=[(bk f104 0,(RL.lp Lk afB)),(.skip,(.rb [] 20))]) func104 aV (aA (aO RL) (aA ay1 aH)) h
def CD:EP af6:=λh=>kP h
def F46:bu:=(af6 (e55 (e24 dA)))
abbrev E46:=Bool
def d46:Td 0 E46:= .c [] [4] (.r 0 0 (ec 4 qb en) sn (λz=>z.1.1) (λx=>((x,()),(()))))
def aFz:∀f∈([24,55,104]:af Nat),bA (F46) f:=(aA (CD (F5 (HV bG))) (aA (CD (F5 (HV bG))) (aA (CD (F5 (HV bG))) aH)))
def m46(a0:aS)(a1:bU):aa E46:=
 match match m24 a0 (16) (4096) (4)with|G=>G|V r1=>bif r1 then match m55 a0 a1 with|G=>G|V r2=>bif vn (r2=0)then match ahf a0 with|G=>G|V r3=>V (vn (r3<=16))else V (O)else V (O)with|G=>G|V r4=>V (r4)
def e46:=eL vp 46 O (lc (qg 26) (lc (qg 29) ln)) d46 (λg=>m46 g.1 g.2.1)
def aq8:EO e46:=λh=>kL (F:=F46) (an:=(noTwo (.two (.rb [24,55,104] 4) .no))) (l:=[(.skip,(.rb [24,55,104] 4))]) func46 (akb (ate (ase aV))) (aA aFz aH) h
def abR:EP e46:=λh=>kP h
structure Ig where
 t9:List Part
 t31:List Int
 (t32 t33:Int)
 b0:aS
 b1:bU
 (b2 b3:aW)
def apu{α:Type}(p:Ig)(go:Ig->aa α)(e1 e2:aa α):aa α:=
 bif vn (p.t33<p.t32)then if 0<=p.t33/\p.t33<zY p.t31 then if¬(zY p.t9:Int)=(0:Int)then match m49 p.t9 ((ak p.t31[zq p.t33]!).tmod (zY p.t9))with|G=>G|V r1=>match (if(0:Int)<=(ak p.t31[zq p.t33]!).tmod p.t9.length/\(ak p.t31[zq p.t33]!).tmod (zY p.t9:Int)<(zY p.t9:Int)then bif vn (0<(↑p.t9[((ak p.t31[zq p.t33]!).tmod (zY p.t9)).toNat]!.aq.length:Int))then V J else V (bif r1.snd then O else J)else G)with|G=>G|V r2=>bif r2 then go (Ig.mk p.t9 p.t31 p.t32 (ak (p.t33+1)) p.b0 p.b1 (aW.mk [] []) p.b3)else match m48 p.b0 p.b1 p.b3 ((ak p.t31[zq p.t33]!).tmod (zY p.t9))with|G=>G|V r3=>bif bif vn (r3.snd=0)then O else J then e1 else go (Ig.mk r1.fst p.t31 p.t32 (ak (p.t33+1)) p.b0 p.b1 (aW.mk [] []) r3.fst)else G else G else e2
def ayF(p:Ig):aa (aa Ig):=
 apu p (λs=>V (V s)) (V G) (V G)
def aA1:=bI (ayF)
abbrev E47:=(af Part)×aW×Bool
def d47:Td 0 E47:= .c [] [6,7,8] (.t (b6.fs 6 []) (.t (b6.fc 1 0 []) (.t (b6.fc 1 1 []) (.t (b6.fc 0 0 []) (.t (b6.fc 0 1 []) (.c [] [6,7,8] (.r 0 1 (ec 6 (ql 90) (ec 7 (qp 0 0) (ec 8 qb en))) (sb 0 84 (lg 84) sn) (λz=>(z.1.1,z.2.1,z.1.t.1)) (λx=>((x.1,(),x.t,()),(x.2.1,()))))))))))
def m47(a0:aS)(a1:bU)(a2:af Int):aa E47:=
 match m58 a0 with|G=>G|V r4=>match m54 a0 a1 with|G=>G|V r5=>bif bif vn (r5.snd=0)then O else J then V (r4,r5.fst,O)else match aA1 (Ig.mk r4 a2 (zY a2) 0 a0 a1 (aW.mk [] []) r5.fst)with|G=>G|V r6=>apu r6 (λ_=>G) (V (r6.t9,r6.b3,O)) (V (r6.t9,r6.b3,J))
def e47:bu->bu:=eZ vp 47 (lc (qg 26) (lc (qg 29) (lc (ql 5) ln))) d47 (λg=>m47 g.1 g.2.1 g.t.1)
structure aKe where
 t7:List Part
 t10:Int
 b0:aS
 b1:bU
 b2:aW
def iv(a b:Int):aK:=if a=b then⟨a,b,0⟩else⟨a,b,1⟩
def RZ(a b:Int):(iv a b).ah=a:=by unfold iv;split<;>rfl
def KG(a b:Int):(iv a b).ag=b:=by unfold iv;split<;>rfl
def ajV(a b:Int):SN a b=iv a b:=by unfold SN iv;by_cases h:a=b<;>simp[h]
def ayZ{a b:Int}(h1: -1048576<=a)(h2:a<=b)(h3:b<=1048576):NN (iv a b):=by
 unfold iv;by_cases e:a=b
 ·rw[bC e];exact⟨by show _<=a;omega,by show b<=_;omega,by show a<=b;omega, .inl ⟨e,rfl⟩⟩
 ·rw[bL e];exact⟨by show _<=a;omega,by show b<=_;omega,by show a<=b;omega, .inr ⟨by show a<b;omega,by show (1:Int)<=1;omega,by show (b-a)%1=0;omega⟩⟩
structure mY (f:aS) (b:List aK):Prop where
 len:zY b=zY (eo f.ai)
 el:∀j,j<zY b->∃x y,b[j]! =iv x y/\x<=y/\(eo f.ai)[j]!.ah<=x/\y<=(eo f.ai)[j]!.ag
structure Cx (f:aS) (v:bU):Prop where
 hN:fK f.bM+kS (f.ax.map (·.aF))<=900
 hh:zY f.ax<=1000
 hl:zY f.ai<=1000
 hc:rH f=0
 hq:cdA f v=0
def dF{α:Type}[Inhabited α](l:af α)(i j:Nat)(x:α)(hj:j<zY l):(l.set i x)[j]! =if i=j then x else l[j]! :=by
 rw[getElem!_pos _ j (by simpa using hj),getElem!_pos l j hj,List.getElem_set]
def agk{α:Type}[Inhabited α](l m:af α)(j:Nat)(h:j<zY m):(l++m)[zY l+j]! =m[j]! :=by
 rw[getElem!_pos _ _ (by simp;omega),getElem!_pos m j h,wC au];simp
def gV{α β:Type}[Inhabited α][Inhabited β](g:α->β)(l:af α)(j:Nat)(h:j<zY l):(l.map g)[j]! =g l[j]! :=by
 rw[getElem!_pos _ j (by simpa using h),getElem!_pos l j h,yM]
def Za(b:af aK)(i:Nat)(at_:Int):af aK:=b.set i (iv b[i]!.ah at_)
def bHi(b:af aK)(i:Nat)(at_:Int):af aK:=b.set i (iv (at_+1) b[i]!.ag)
section
variable {f:aS} {v:bU}
def Eh(h:Cx f v):zY (eo f.ai)<=2000:=by
 unfold eo;rw[zh];have:=yq (kd 1) f.ai;have:=yq (kd 3) f.ai;have:=h.hl;omega
def mY.bd{b:af aK}(h:mY f b)(c:rH f=0){j:Nat}(hj:j<zY b): -1048576<=b[j]!.ah/\b[j]!.ah<=b[j]!.ag/\b[j]!.ag<=1048576:=by
 obtain⟨x,y,e,h1,h2,h3⟩:=h.el j hj;obtain⟨k1,k2,k3⟩:=Uk c (j:=j) (by rw[<-h.len];exact hj);rw[e,RZ,KG];omega
def Kv(h:Cx f v):mY f (mX f):=by
 rw[aeF];refine⟨by simp,λj hj=> ?_⟩;have hj':j<zY (eo f.ai):=by simpa using hj
 obtain⟨k1,k2,k3⟩:=Uk h.hc hj';refine⟨(eo f.ai)[j]!.ah,(eo f.ai)[j]!.ag,?_,k2,zj _,zj _⟩;rw[gV _ _ _ hj'];unfold D7 iv;by_cases e:(eo f.ai)[j]!.ah=(eo f.ai)[j]!.ag
 ·rw[bC e,bC e,<-e]
 ·rw[bL e,bL e]
def aeg{b:af aK}(h:mY f b){i:Nat}(hi:i<zY b){x y:Int}(h1:x<=y)(h2:b[i]!.ah<=x)(h3:y<=b[i]!.ag):mY f (b.set i (iv x y)):=by
 refine⟨by rw[zI];exact h.len,λj hj=> ?_⟩;rw[zI]at hj;rw[dF _ _ _ _ hj];by_cases e:i=j
 ·subst e;obtain⟨x',y',e',k1,k2,k3⟩:=h.el i hj;rw[e',RZ]at h2;rw[e',KG]at h3;exact⟨x,y,by rw[bC rfl],h1,au,au⟩
 ·rw[bL e];exact h.el j hj
def aoL{b:af aK}(h:mY f b){i:Nat}(hi:i<zY b){a:Int}(h1:b[i]!.ah<=a)(h2:a<b[i]!.ag):mY f (Za b i a):=aeg h hi h1 (zj _) au
def apv{b:af aK}(h:mY f b){i:Nat}(hi:i<zY b){a:Int}(h1:b[i]!.ah<=a)(h2:a<b[i]!.ag):mY f (bHi b i a):=aeg h hi au au (zj _)
def mY.ask{b:af aK}(h:mY f b)(c:Cx f v):BM f v b=0:=by
 have hq:=c.hq;have hc:=c.hc;unfold cdA at hq;unfold BM;by_cases h2:zY v.bz=zY (f.ai.filter (kd 2))
 case neg=>rw[bL (by simpa using hc),bC h2]at hq;cases hq
 by_cases h3:cu (jI v.bz) (f.ai.filter (kd 2)) 0=0
 case neg=>rw[bL (by simpa using hc),bL (by simpa using h2)]at hq;exact dU hq h3
 rw[bL (by simpa using hc),bL (by simpa using h2),bL (by simpa using h3),bL (by simpa using h.len)];refine Ju _ _ λj hj=> ?_;rw[yj];have hj':j<zY b:=by rw[h.len];exact hj
 obtain⟨x,y,e,h1,h2,h3⟩:=h.el j hj';obtain⟨k1,k2,k3⟩:=Uk hc hj;have hn:NN b[j]! :=by rw[e];exact ayZ au h1 au
 have el:b[j]!.ah=x:=by rw[e,RZ]
 have eh:b[j]!.ag=y:=by rw[e,KG]
 unfold o8;rw[dZ (.inr hn)];simp only[cD];have hs:ZJ b[j]! =bY b[j]! :=by unfold ZJ;rw[bC (.inr hn)]
 have hp:=size_pos hn;rw[hs,fE,fE,fE];rfl
def bdX(f:aS)(v:bU)(b:af aK):Int:=ahM (fA f v b) (fH b)
def Q8(f:aS)(v:bU)(b:af aK):Bool:=sgB (fA f v b)
def BO(f:aS)(v:bU)(b:af aK):aC:=if Q8 f v b=J then Z4 (fA f v b)else⟨[],0⟩
def mY.T6{b:af aK}(h:mY f b)(c:Cx f v):T6 f v b=V (bdX f v b,0):=by
 have ha:=h.ask c;have e20:=aqX (v:=v) (box:=b) c.hN c.hh c.hl;rw[bC ha]at e20;have hfit:=As ha;have hbl:zY b<=1000000:=by have:=Eh c;rw[h.len];omega
 exact azq e20 (EI hfit) hfit.nn hbl hfit.vol.2
def mY.m26{b:af aK}(h:mY f b)(c:Cx f v):m26 f v b=V (BO f v b,Q8 f v b,0):=by
 have ha:=h.ask c;have e20:=aqX (v:=v) (box:=b) c.hN c.hh c.hl;rw[bC ha]at e20;have hfit:=As ha;have:=aDu e20 (EI hfit);rw[this];unfold BO Q8;cases sgB (fA f v b)<;>rfl
def mY.obl{b:af aK}(h:mY f b)(c:Cx f v):zY (BO f v b).aM<=8:=by
 unfold BO;split
 ·unfold Z4;rw[zB];exact(aex (As (h.ask c))).1
 ·exact yU _
def cellOf(f:aS)(v:bU)(p:Part):dW:=⟨p.dh,p.aZ,p.eG,p.aq,bdX f v p.dh,Q8 f v p.dh,BO f v p.dh⟩
def aqC{l:af aK}(h:zY l<=1000000):Xr l=V l:=by unfold Xr;rw[gM]
def ahl{b:af aK}(h:zY b<=1000000){i:Nat}(hi:i<zY b){a:Int}(h1: -1048576<=a)(h2:a<=1048576):aaI b (i:Int) a=V (Za b i a,bHi b i a):=by
 have hw:ak (a+1)=a+1:=aL;have i1:(i:Int)<(zY b:Int):=au;have i2:(0:Int)<=(i:Int):=au;unfold aaI;simp only[cG,aqC h,i1,i2,cW,hi,ajV,hw];rfl
end
def nY(l:af Part):af Int:=l.flatMap (·.aq)
structure WF (f:aS) (l:List Part):Prop where
 ne:0<zY l
 root:l[0]!.dh=mX f
 box:∀i,i<zY l->mY f l[i]!.dh
 IP:∀i,i<zY l->(l[i]!.aq=[]/\l[i]!.aZ=0/\l[i]!.eG=0)\/
  ∃a b j:Nat,l[i]!.aq=[(a:Int),(b:Int)]/\i<a/\a<zY l/\i<b/\b<zY l/\a≠b/\l[i]!.aZ=(j:Int)/\j<zY l[i]!.dh/\l[i]!.dh[j]!.ah<=l[i]!.eG/\l[i]!.eG<l[i]!.dh[j]!.ag/\
   l[a]!.dh=Za l[i]!.dh j l[i]!.eG/\l[b]!.dh=bHi l[i]!.dh j l[i]!.eG
 cnt:∀k:Nat,k<zY l->(nY l).count (k:Int)=if k=0 then 0 else 1
def Kg(c:af Cell)(i:Int)(n:Int)(t16:af Cell)(t17 t18:Int)(ks:af Int)(P:af Int)(hl:zY ks<=1000000)(hk:∀x∈ks,∃a:Nat,x=(a:Int)/\i<(a:Int)/\a<zY c)(hP:zY P=zY c)(hb:∀k,k<zY P->0<=P[k]!/\P[k]!<=1000000):
  ∃Q,HZ ⟨c,P,i,t16,t17,t18,ks,(zY ks:Int),0⟩=V ⟨c,Q,i,t16,t17,t18,ks,(zY ks:Int),(zY ks:Int)⟩/\zY Q=zY P/\∀k,k<zY P->Q[k]! =P[k]! +((ks.count (k:Int):Nat):Int):=by
 obtain⟨Q,e,h1,h2⟩:=cS (rnd:=o4) (zY ks) (λj (Q:af Int)=>⟨c,Q,i,t16,t17,t18,ks,(zY ks:Int),(j:Int)⟩) (λj Q=>zY Q=zY P/\∀k,k<zY P->Q[k]! =P[k]! +(((ks.take j).count (k:Int):Nat):Int)) (λj Q hj ⟨h1,h2⟩=>by
  have hw:=jQ hj hl;have i1:(j:Int)<(zY ks:Int):=au;have i2:(0:Int)<=(j:Int):=au;obtain⟨a,ea,a1,a2⟩:=hk ks[j]! (bf hj);have a3:¬(a:Int)<=i:=au;have a4:¬(zY c:Int)<=(a:Int):=au;have a5:(a:Int)<(zY Q:Int):=au;have a6:(0:Int)<=(a:Int):=au;have a7:a<zY Q:=au;have hq:=h2 a au;have hbb:=hb a au;have hcl:(ks.take j).count (a:Int)<=1000000:=by
   have:=List.count_le_length (a:=(a:Int)) (l:=ks.take j);rw[zD]at this;omega
  have hw2:ak (Q[a]! +1)=Q[a]! +1:=aL;refine⟨Q.set a (Q[a]! +1),?_,by rw[zI];exact h1,λk hk=> ?_⟩
  ·unfold o4 gO;simp only[cG,cD,i1,i2,cW,ea,a3,a4,a5,a6,a7,hw,hw2]
  ·rw[dF _ _ _ _ au,bD hj,xZ,ea];by_cases e:a=k
   ·subst e;rw[bC rfl,hq];simp;omega
   ·rw[bL e,h2 k hk];have:([(a:Int)]).count (k:Int)=0:=wz.2 (by simp;omega);rw[this];simp) (λQ _=>by unfold o4 gO;simp) (b:=P) ⟨rfl,λk _=>by simp⟩
 rw[zy]at h2;exact⟨Q,e,h1,h2⟩
structure aoy (l:List Part) (c:List Cell):Prop where
 len:zY c=zY l
 el:∀i,i<zY l->c[i]!.aZ=l[i]!.aZ/\c[i]!.eG=l[i]!.eG/\c[i]!.aq=l[i]!.aq
def Dx{l:af Part}{i:Nat}(h:i<zY l):nY (l.take (i+1))=nY (l.take i)++l[i]!.aq:=by
 unfold nY;rw[bD h,xR];simp
def WF.H7{f:aS}{l:af Part}(h:WF f l){i:Nat}(hi:i<zY l):zY l[i]!.aq<=2:=by
 rcases h.IP i hi with ⟨h1,_⟩|⟨a,b,j,h1,_⟩<;>rw[h1]<;>simp
def WF.X8{f:aS}{l:af Part}(h:WF f l):∀i,i<=zY l->zY (nY (l.take i))<=2*i
 |0,_=>by simp[nY]
 |i+1,hi=>by
  have:=h.X8 i au;have:=h.H7 (i:=i) au;rw[Dx au,zh];omega
def amd{f:aS}{l:af Part}(h:WF f l)(hl:zY l<=100000){c:af Cell}(hc:aoy l c):Ef c=V J:=by
 have hn:zY c=zY l:=hc.len;have h0:=h.ne;obtain⟨P,e,hP,hPk⟩:=cS (rnd:=qH) (zY c) (λi (P:af Int)=>⟨c,P,c,(zY c:Int),(i:Int)⟩) (λi P=>zY P=zY c/\∀k,k<zY c->P[k]! =(((nY (l.take i)).count (k:Int):Nat):Int)) (λi P hi ⟨p1,p2⟩=>by
  obtain⟨i1,i2,hw⟩:=w3 hi au;have hil:i<zY l:=au;obtain⟨c1,c2,c3⟩:=hc.el i hil;have hkl:=h.H7 hil;have hall:∀x∈c[i]!.aq,∃a:Nat,x=(a:Int)/\(i:Int)<(a:Int)/\a<zY c:=λx hx=>by
   rw[c3]at hx;rcases h.IP i hil with ⟨q1,_⟩|⟨a,b,j,q1,q2,q3,q4,q5,_⟩
   ·rw[q1]at hx;cases hx
   ·rw[q1]at hx;rcases zx.1 hx with rfl|hx
    ·exact⟨a,rfl,au,au⟩
    ·rw[zo.1 hx];exact⟨b,rfl,au,au⟩
  obtain⟨Q,e1,e2,e3⟩:=Kg c (i:Int) 0 c (zY c:Int) (i:Int) c[i]!.aq P (by rw[c3];omega) hall p1 (λk hk=>by
   rw[p2 k au];have:=h.X8 i au;have:=List.count_le_length (a:=(k:Int)) (l:=nY (l.take i));omega)
  refine⟨Q,?_,au,λk hk=> ?_⟩
  ·unfold qH lz gO;rcases h.IP i hil with ⟨q1,q2,q3⟩|⟨a,b,j,q1,_⟩
   ·have z:c[i]!.aq=[]:=by rw[c3,q1]
    have z1:c[i]!.aZ=0:=by rw[c1,q2]
    have z2:c[i]!.eG=0:=by rw[c2,q3]
    rw[z]at e1;simp only[yA]at e1;simp only[zg,i1,z,z1,z2,yA,e1,hw];simp
   ·have z:c[i]!.aq=[(a:Int),(b:Int)]:=by rw[c3,q1]
    rw[z]at e1;simp only[yw,yA]at e1;simp only[zg,i1,z,yw,yA,e1,hw];simp
  ·rw[e3 k au,p2 k hk,Dx hil,xZ,c3];simp) (λP _=>by unfold qH lz gO;simp) (b:=zf (zY c) 0) ⟨by simp,λk hk=>by
    rw[getElem!_pos _ k (by simpa using hk)];simp[nY]⟩
 have e':FZ ⟨c,zf (zY c) 0,c,(zY c:Int),0⟩=V ⟨c,P,c,(zY c:Int),(zY c:Int)⟩:=e;rw[hn,zy]at hPk;have hfin:∀k,k<zY l->P[k]! =if k=0 then 0 else 1:=λk hk=>by
  rw[hPk k hk,h.cnt k hk];split<;>rfl
 obtain⟨-,e2,-⟩:=cS (rnd:=qX) (zY P) (λi (_:Unit)=>⟨P,(zY P:Int),(i:Int)⟩) (λ_ _=>True) (λi b hi _=>by
  obtain⟨i1,i2,hw⟩:=w3 hi au;have hp:=hfin i au;refine⟨(),?_,trivial⟩;unfold qX mD;by_cases e:i=0
  ·subst e;simp only[zg,i1,hi,hp];rfl
  ·rw[bL e]at hp;have:¬(i:Int)=0:=au;simp only[zg,i1,hi,hp,hw,this];simp) (λb _=>by unfold qX mD;simp) (b:=()) trivial
 have e2':E5 ⟨P,(zY P:Int),0⟩=V ⟨P,(zY P:Int),(zY P:Int)⟩:=e2;have n0:¬(zY c:Int)=0:=au;have n1:(0:Int)<=(zY c:Int)/\(zY c:Int)<=(zY c:Int)/\(zY c:Int)<=1073741824:=au;unfold Ef lz mD gO;simp only[cG,n0,ct,bC n1,e',yx,e2']
def F3(l:af aC):Prop:=l.Pairwise λx y=>dJ x y<=0
def tM(l:af aC):(FJ l).Perm l:=List.mergeSort_perm _ _
def Ov(l:af aC):F3 (FJ l):=by
 have:=List.pairwise_mergeSort (le:=λx y=> !Go.Proofs.ltOf dJ y x) (λa b c h1 h2=>by
  simp only[Go.Proofs.ltOf,Bool.not_eq_true',decide_eq_false_iff_not]at*;have n1:=dQ a b;have n2:=dQ b c;have n3:=dQ a c
  have:=ni a b c au au;omega) (λa b=>by
  simp only[Go.Proofs.ltOf,yC,Bool.not_eq_true',decide_eq_false_iff_not];have:=dQ a b;omega) l
 refine this.imp λ{a b} h=> ?_;simp only[Go.Proofs.ltOf,Bool.not_eq_true',decide_eq_false_iff_not]at h;have:=dQ a b;omega
def Ia:∀(l:af aC) (p:aC),(p7 p l).Sublist l
 |[],_=> .slnil
 |y::l,p=>by
  unfold p7;split
  ·exact(Ia l y).cons y
  ·exact(Ia l y).cons_cons y
def IC(l:af aC):(Aw l).Sublist l:=by
 cases l with
 |nil=>exact .slnil
 |cons x l=>exact(Ia l x).cons_cons x
def abj{l:af aC}(h:F3 l):F3 (Aw l):=List.Pairwise.sublist (IC l) h
def ny(c:af dW):af aC:=(c.filter (·.ep)).map (·.cz)
def lQ(c:af dW):af aC:=Aw (FJ (ny c))
def Fw(c:af dW):F3 (lQ c):=abj (Ov _)
def Rk(c:af dW):zY (lQ c)<=zY c:=by
 have h1:=(IC (FJ (ny c))).length_le;rw[(tM _).length_eq]at h1;have h2:=yq (λx:dW=>x.ep) c;unfold lQ;unfold ny at*;rw[zB]at h1;omega
def Oh{c:af dW}{o:aC}(h:o∈lQ c):∃x∈c,x.ep=J/\x.cz=o:=by
 have:=(tM _).mem_iff.1 ((IC _).subset h);obtain⟨x,h1,h2⟩:=zM.1 this;obtain⟨h3,h4⟩:=z8.1 h1;exact⟨x,h3,h4,h2⟩
def Ji{c:af dW}{i:Nat}(h:i<zY c):ny (c.take (i+1))=if c[i]!.ep then ny (c.take i)++[c[i]!.cz]else ny (c.take i):=by
 unfold ny;rw[bD h,xh,zO];cases e:c[i]!.ep
 ·rw[vi (by rw[e];decide)];simp
 ·rw[vh e];rfl
def ajd(f:aS)(v:bU){c:af dW}(hl:zY c<=1000000):ahz ⟨f,v,c⟩=V (lQ c,⟨f,v,c⟩):=by
 obtain⟨L,e,hL⟩:=cS (rnd:=MU) (zY c) (λi (L:af aC)=>⟨L,c,(zY c:Int),(i:Int),⟨f,v,c⟩⟩) (λi L=>L=ny (c.take i)) (λi L hi hb=>by
  obtain⟨i1,i2,hw⟩:=w3 hi hl;refine⟨ny (c.take (i+1)),?_,rfl⟩;subst hb;have hlen:zY (ny (c.take i))<=1000000:=by
   unfold ny;rw[zB];have:=yq (λx:dW=>x.ep) (c.take i);rw[zD]at this;omega
  have hl2:zY (ny (c.take i)++[c[i]!.cz])<=1073741824:=by rw[zh,ym];omega
  rw[Ji hi];unfold MU Fi;cases es:c[i]!.ep with
  |true=>simp only[cG,i1,i2,hi,cK,cW,es,hl2,hw]
  |false=>simp only[cG,cD,gK,i1,i2,hi,es,hw,yy]) (λL _=>by unfold MU Fi;simp) (b:=[]) (by simp[ny])
 rw[zy]at hL;subst hL;have e':Mi ⟨[],c,(zY c:Int),0,⟨f,v,c⟩⟩=V ⟨ny c,c,(zY c:Int),(zY c:Int),⟨f,v,c⟩⟩:=e;have hlen:zY (ny c)<=1000000:=by
  unfold ny;rw[zB];have:=yq (λx:dW=>x.ep) c;omega
 have h2:zY (FJ (ny c))<=1073741824:=by rw[(tM _).length_eq];omega
 unfold ahz Fi;simp only[e',yx,ZY,ZI,bC (show zY (ny c)<=1073741824 by omega),bC h2];rfl
def uK{α:Type}[Inhabited α](p:α->Bool):∀(l:af α) (k:Nat),k<=zY l->(∀j,j<zY l->p l[j]! =vn (j<k))->zY (l.filter p)=k
 |[],k,hk,_=>by simp at hk ⊢;omega
 |x::l,0,_,h=>by
  have h0:=h 0 (by simp);have:p x=O:=by simpa using h0
  rw[vi (by simp[this])];exact uK p l 0 (yU _) λj hj=>by
   have:=h (j+1) (by simpa using hj)
   assumption
 |x::l,k+1,hk,h=>by
  have h0:=h 0 (by simp);have:p x=J:=by simpa using h0
  rw[vh this,yw,uK p l k (by simpa using hk) λj hj=>by
   have:=h (j+1) (by simpa using hj);simpa using this]
def kV(l:af aC)(o:aC):Nat:=zY (l.filter λx=>vn (dJ x o<0))
def IK(l:af aC)(o:aC):Bool:=l.any λx=>vn (dJ x o=0)
def K8{l:af aC}(h:F3 l){i j:Nat}(hij:i<j)(hj:j<zY l):dJ l[i]! l[j]!<=0:=by
 rw[getElem!_pos l i au,getElem!_pos l j hj];exact List.pairwise_iff_getElem.1 h i j au hj hij
def ahN{l:af aC}(o:aC){k:Nat}(hk:k<=zY l)(h1:∀j,j<k->dJ l[j]! o<0)(h2:∀j,k<=j->j<zY l->0<=dJ l[j]! o):kV l o=k:=
 uK _ l k hk λj hj=>by
  by_cases e:j<k
  ·rw[bX e];exact bX (h1 j e)
  ·rw[bW e];have:=h2 j au hj;exact fE
def ajO{l:af aC}(hs:F3 l)(o:aC){k:Nat}(hk:k<=zY l)(h1:∀j,j<k->dJ l[j]! o<0)(h2:∀j,k<=j->j<zY l->0<=dJ l[j]! o):IK l o=vn (k<zY l/\dJ l[k]! o=0):=by
 unfold IK;by_cases e:k<zY l/\dJ l[k]! o=0
 ·rw[bX e,wN];exact⟨l[k]!,bf e.1,bX e.2⟩
 ·rw[bW e,List.any_eq_false];intro x hx;obtain⟨j,hj,rfl⟩:=xd hx;rw[decide_eq_true_eq];intro he;rw[<-getElem!_pos l j hj]at he;by_cases jk:j<k
  ·have:=h1 j jk;omega
  ·by_cases jk2:j=k
   ·exact e ⟨jk2▸hj,jk2▸he⟩
   ·have a1:=K8 hs (show k<j by omega) hj;have a2:=h2 k (zl _) au;have a3:=ni l[k]! l[j]! o a1 au;omega
def aH7{x:Int}(h1:0<=x)(h2:x<9223372036854775808):cT u64 (bJ x) 1=x/2:=by
 have:bJ x=x:=by simp[ak,bJ,IntKind.wrap,IntKind.bits];omega
 rw[this];unfold cT;have e:(2:Int)^(min (1:Int).toNat u64.bits)=2:=by decide
 rw[e,Int.fdiv_eq_ediv_of_nonneg _ au]
def aqH{q:aC->aC->aa Int}{l:af aC}(hs:F3 l)(hl:zY l<=1000000)(o:aC)(ho:∀x∈l,q x o=V (dJ x o)):mB q l o=V ((kV l o:Int),IK l o):=by
 have key:∀(d lo_ hi_:Nat),hi_-lo_<=d->lo_<=hi_->hi_<=zY l->(∀j,j<lo_->dJ l[j]! o<0)->(∀j,hi_<=j->j<zY l->0<=dJ l[j]! o)->
   ∃k:Nat,bI (nB q) ⟨l,(zY l:Int),(lo_:Int),(hi_:Int),o⟩=V ⟨l,(zY l:Int),(k:Int),(k:Int),o⟩/\k<=zY l/\(∀j,j<k->dJ l[j]! o<0)/\∀j,k<=j->j<zY l->0<=dJ l[j]! o:=by
  intro d;induction d with
  |zero=>
   intro a b h1 h2 h3 h4 h5;have:a=b:=au;subst this;exact⟨a,cq λr=>by unfold nB;simp,h3,h4,h5⟩
  |succ d ih=>
   intro a b h1 h2 h3 h4 h5;by_cases hab:a=b
   ·subst hab;exact⟨a,cq λr=>by unfold nB;simp,h3,h4,h5⟩
   ·have hlt:(a:Int)<(b:Int):=au;have w1:ak ((a:Int)+(b:Int))=(a:Int)+(b:Int):=aL;have s1:=aH7 (x:=(a:Int)+(b:Int)) au au;obtain⟨m,hm⟩:∃m:Nat,((a:Int)+(b:Int))/2=(m:Int):=⟨((a+b)/2:Nat),au⟩;have w2:ak (m:Int)=(m:Int):=aL;have w3:ak ((m:Int)+1)=((m+1:Nat):Int):=jQ (n:=1000000) au au;have i1:(m:Int)<(zY l:Int):=au;have i2:(0:Int)<=(m:Int):=au;have L3:=ho l[m]! (bf au);by_cases hc:dJ l[m]! o<0
    ·have r:nB q ⟨l,(zY l:Int),(a:Int),(b:Int),o⟩=V (V ⟨l,(zY l:Int),((m+1:Nat):Int),(b:Int),o⟩):=by
      unfold nB;simp only[cG,hlt,cK,w1,s1,hm,w2,w3,i1,i2,cW,L3,hc]
     obtain⟨k,q1,q2⟩:=ih (m+1) b au au h3 (λj hj=>by
      by_cases e:j=m
      ·rw[e];exact hc
      ·have:=K8 hs (show j<m by omega) au;have n1:=dQ l[j]! o;have n2:=dQ l[m]! o
       have:=ni o l[j]! l[m]!;by_cases z:dJ l[j]! o<0
       ·exact z
       ·have:=this au (by assumption);omega) h5
     exact⟨k,by rw[bP r];exact q1,q2⟩
    ·have r:nB q ⟨l,(zY l:Int),(a:Int),(b:Int),o⟩=V (V ⟨l,(zY l:Int),(a:Int),(m:Int),o⟩):=by
      unfold nB;simp only[cG,cD,hlt,w1,s1,hm,w2,i1,i2,cW,L3,hc]
     obtain⟨k,q1,q2⟩:=ih a m au au au h4 (λj hj1 hj2=>by
      by_cases e:j=m
      ·rw[e];omega
      ·have:=K8 hs (show m<j by omega) hj2;have n1:=dQ l[j]! o;have n2:=dQ l[m]! o
       by_cases z:dJ l[j]! o<0
       ·have:=ni l[m]! l[j]! o (by assumption) au;have:=ni o l[m]! l[j]! au (by assumption);omega
       ·omega)
     exact⟨k,by rw[bP r];exact q1,q2⟩
 obtain⟨k,e,h1,h2,h3⟩:=key (zY l) 0 (zY l) au au (zl _) (λj hj=>au) (λj h1 h2=>au);have e':bI (nB q) ⟨l,(zY l:Int),0,(zY l:Int),o⟩=V ⟨l,(zY l:Int),(k:Int),(k:Int),o⟩:=e;rw[ahN o h1 h2 h3,ajO hs o h1 h2 h3];unfold mB;simp only[e',yx,D0,ct];by_cases hk:k<zY l
 ·have i1:(k:Int)<(zY l:Int):=au;have i2:(0:Int)<=(k:Int):=au;have L3:=ho l[k]! (bf hk);simp only[cG,i1,i2,cK,cW,L3,hk,true_and]
 ·have i1:¬(k:Int)<(zY l:Int):=au;simp only[i1,D0,ct,hk,false_and]
def aii{l:af aC}(hs:F3 l)(hl:zY l<=1000000)(o:aC)(ho:∀x∈l,zY x.aM<=9223372036854775807):avI l o=V ((kV l o:Int),IK l o):=aqH hs hl o λx hx=>MG x o (ho x hx)
def uo(L:af aC)(c:dW):Cell:=⟨c.aZ,c.eG,c.aq,if c.ep then[(kV L c.cz:Int)]else[],c.gm⟩
def v8(c:af dW):aW:=⟨lQ c,c.map (uo (lQ c))⟩
structure Csz (c:List dW):Prop where
 len:zY c<=100000
 IP:∀i,i<zY c->zY c[i]!.aq<=1000
 obs:∀i,i<zY c->zY c[i]!.cz.aM<=1000
def Csz.mem{c:af dW}(h:Csz c){o:aC}(ho:o∈lQ c):zY o.aM<=1000:=by
 obtain⟨x,h1,_,rfl⟩:=Oh ho;obtain⟨i,hi,rfl⟩:=xd h1;rw[<-getElem!_pos c i hi];exact h.obs i hi
def agx(f:aS)(v:bU){c:af dW}(h:Csz c):UW ⟨f,v,c⟩=V (v8 c,⟨f,v,c⟩):=by
 have hcl:=h.len;have hll:=Rk c;have avo:=ajd f v (c:=c) au;obtain⟨L,hL⟩:∃L,L=lQ c:=⟨_,rfl⟩;have hLl:zY L<=zY c:=by rw[hL];exact hll
 obtain⟨b,e1,hb⟩:=cS (rnd:=Mq) (zY L) (λi (b:af aC)=>⟨L,L,(zY L:Int),(i:Int),⟨f,v,c⟩,⟨[],[]⟩,⟨b,[]⟩⟩) (λi b=>b=L.take i) (λi b hi hb=>by
  obtain⟨i1,i2,hw⟩:=w3 hi au;have e35:=aew (l:=L[i]!.aM) (h.mem (hL▸bf hi));have hl2:zY (b++[L[i]!])<=1073741824:=by rw[hb,zh,zD,ym];omega
  refine⟨b++[L[i]!],?_,by rw[hb,bD hi]⟩;unfold Mq Fs;simp only[cG,i1,i2,hi,cK,cW,e35,hl2,hw]) (λb _=>by unfold Mq Fs;simp) (b:=[]) (by simp)
 rw[zy]at hb;subst hb;have e1':NI ⟨b,b,(zY b:Int),0,⟨f,v,c⟩,⟨[],[]⟩,⟨[],[]⟩⟩=V ⟨b,b,(zY b:Int),(zY b:Int),⟨f,v,c⟩,⟨[],[]⟩,⟨b,[]⟩⟩:=e1;obtain⟨C,e2,hC⟩:=cS (rnd:=LA) (zY c) (λi (C:af Cell)=>⟨b,c,(zY c:Int),(i:Int),⟨f,v,c⟩,⟨[],[]⟩,⟨b,C⟩⟩) (λi C=>C=(c.take i).map (uo b)) (λi C hi hC=>by
  obtain⟨i1,i2,hw⟩:=w3 hi au;have e35:=aew (l:=c[i]!.aq) (h.IP i hi);have PY:=aii (l:=b) (by rw[hL];exact Fw c) au c[i]!.cz (λx hx=>by have:=h.mem (hL▸hx);omega);have hl2:∀x:Cell,zY (C++[x])<=1073741824:=λx=>by rw[hC,zh,zB,zD,ym];omega
  refine⟨C++[uo b c[i]!],?_,by rw[hC,bD hi,zO];rfl⟩;unfold LA FL;cases es:c[i]!.ep with
  |true=>simp only[cG,i1,i2,hi,cK,cW,e35,es,PY,hl2,hw,uo]
  |false=>simp only[cG,cD,gK,i1,i2,hi,e35,es,hl2,hw,uo,yy]) (λC _=>by unfold LA FL;simp) (b:=[]) (by simp)
 rw[zy]at hC;subst hC;have e2':Kx ⟨b,c,(zY c:Int),0,⟨f,v,c⟩,⟨[],[]⟩,⟨b,[]⟩⟩=V ⟨b,c,(zY c:Int),(zY c:Int),⟨f,v,c⟩,⟨[],[]⟩,⟨b,c.map (uo b)⟩⟩:=e2;unfold UW Fs FL;simp only[avo,e1',e2',yx,D0,ct,v8,<-hL]
section
variable {f:aS} {v:bU}
def Jc(c:Cx f v){l:af Part}(h:WF f l)(hl:zY l<=100000):Csz (l.map (cellOf f v)):=by
 refine⟨by simpa using hl,λi hi=> ?_,λi hi=> ?_⟩
 ·have hi':i<zY l:=by simpa using hi
  rw[gV _ _ _ hi'];have:=h.H7 hi';show zY l[i]!.aq<=1000;omega
 ·have hi':i<zY l:=by simpa using hi
  rw[gV _ _ _ hi'];have:=(h.box i hi').obl c;show zY (BO f v l[i]!.dh).aM<=1000;omega
def QS(c:Cx f v):Kq f v=V (⟨f,v,[cellOf f v ⟨0,0,[],mX f⟩]⟩,0):=by
 have e76:=ark f c.hN (by have:=c.hh;omega) c.hl;rw[bC c.hc]at e76;have hb:=Kv c;unfold Kq;simp only[e76,hb.T6 c,hb.m26 c];rfl
def abc{α β:Type}[Inhabited α][Inhabited β]{q:α->β->aa Bool}{a:af α}{b:af β}(hl:zY a<=9223372036854775807)(h:zY a=zY b->∀i,i<zY a->∃r,q a[i]! b[i]! =V r):∃r,mE q a b=V r/\(r=J↔a.length=zY b/\∀i,i<zY a->q a[i]! b[i]! =V J):=by
 by_cases he:zY a=zY b
 ·have hd:vn ((zY a:Int)=(zY b:Int))=J:=oR;obtain⟨i,-,e,hI,hS⟩:=jj (rnd:=nE q) (zY a) (λi (_:Unit)=>⟨b,a,(zY a:Int),(i:Int)⟩) (λi _=>∀j,j<i->q a[j]! b[j]! =V J) (λi _=>q a[i]! b[i]! =V O) (λi _ hi hI=>by
   have hw:=wI hi hl;have i1:(i:Int)<(zY a:Int):=au;have i2:(0:Int)<=(i:Int):=au;have i3:(i:Int)<(zY b:Int):=au;obtain⟨r,hr⟩:=h he i hi;cases r with
   |true=>
    refine .inl ⟨(),?_,λj hj=> ?_⟩
    ·unfold nE;simp only[cG,cD,i1,i2,i3,cW,hr,hw]
    ·by_cases e:j=i
     ·rw[e];exact hr
     ·exact hI j au
   |false=>
    refine .inr ⟨?_,hr⟩;unfold nE;simp only[cG,cD,i1,i2,i3,cW,hr]) (λ_ _=>by unfold nE;simp) (b:=()) λj hj=>au
  have e':bI (nE q) ⟨b,a,(zY a:Int),0⟩=V ⟨b,a,(zY a:Int),(i:Int)⟩:=e;unfold mE;rcases hS with hn|⟨hi,hS⟩
  ·refine⟨J,?_,λ_=>⟨he,hn▸hI⟩,λ_=>rfl⟩;rw[hn]at e';simp only[cD,hd,e',yx,D0]
  ·refine⟨false,?_,⟨(λh=>by cases h),λhh=> ?_⟩⟩
   ·have i1:(i:Int)<(zY a:Int):=au;have i2:(0:Int)<=(i:Int):=au;have i3:(i:Int)<(zY b:Int):=au;simp only[cG,cD,hd,e',i1,i2,i3,cW,hS]
   ·have:=hh.2 i hi;rw[hS]at this;cases this
 ·have he':¬(zY a:Int)=(zY b:Int):=au;refine⟨false,?_,⟨(λh=>by cases h),λhh=>dU hh.1 he⟩⟩;unfold mE;simp only[cD,he',D0]
end
section
variable {f:aS} {v:bU}
def ak6(a b:Int):RX a b=iv a b:=by unfold RX iv;by_cases h:a=b<;>simp[h]
def ahy{b:af aK}(h:zY b<=1000000){i:Nat}(hi:i<zY b){a:Int}(h1: -1048576<=a)(h2:a<=1048576):adh b (i:Int) a=V (Za b i a,bHi b i a):=by
 have hw:ak (a+1)=a+1:=aL;have i1:(i:Int)<(zY b:Int):=au;have i2:(0:Int)<=(i:Int):=au;unfold adh;simp only[cG,aqC h,i1,i2,cW,hi,ak6,hw];rfl
end
section
variable {f:aS} {v:bU}
def afo(f:aS)(h:zY f.ai<=1000):∃n,ahf f=V n:=by
 obtain⟨n,e,-⟩:=cS (rnd:=KR) (zY f.ai) (λi (n:Int)=>⟨n,f.ai,(zY f.ai:Int),(i:Int)⟩) (λ_ _=>True) (λi n hi _=>by
  obtain⟨i1,i2,hw⟩:=w3 hi au;unfold KR GP;by_cases h1:f.ai[i]!.bS=1
  ·refine⟨ak (n*ak (ak (f.ai[i]!.ag-f.ai[i]!.ah)+1)),?_,trivial⟩;simp only[cG,i1,i2,cK,cW,h1,hw]
  ·by_cases h3:f.ai[i]!.bS=3
   ·refine⟨ak (n*ak (ak (f.ai[i]!.ag-f.ai[i]!.ah)+1)),?_,trivial⟩;have h31:¬(3:Int)=1:=by decide
    simp only[cG,cD,i1,i2,cW,h3,h31,hw]
   ·refine⟨n,?_,trivial⟩;simp only[cG,cD,i1,i2,cW,h1,h3,hw]) (λn _=>by unfold KR GP;simp) (b:=1) trivial
 have e':Lk ⟨1,f.ai,(zY f.ai:Int),0⟩=V ⟨n,f.ai,(zY f.ai:Int),(zY f.ai:Int)⟩:=e;unfold ahf GP;simp only[e',yx,D0,ct];exact⟨n,rfl⟩
def atZ(f:aS)(v:bU):∃r,m46 f v=V r/\(r=J->Cx f v):=by
 obtain⟨r,e24,h24⟩:=arV f 16 4096 4;unfold m46;cases r with
 |false=>exact⟨false,by simp only[e24,ct],λh=>by cases h⟩
 |true=>
  obtain⟨hf,hc⟩:=h24 rfl;unfold few at hf;rw[decide_eq_true_iff]at hf;obtain⟨f1,f2,f3⟩:=hf;have e55:=aBY (f:=f) au au au v;obtain⟨n,af6⟩:=afo f au;by_cases hq:cdA f v=0
  ·refine⟨vn (n<=16),by simp only[e24,cK,e55,hq,Dw,af6],λ_=>⟨au,au,au,hc,hq⟩⟩
  ·exact⟨false,by simp only[cD,e24,e55,hq,D0],λh=>by cases h⟩
end
end Go.Proofs.YtnfljbehcffmcaaGreat
end
