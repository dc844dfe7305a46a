/- Merged: Hz, Hw, Nf1, Nf2, Nf3, Nf4, Hk, Hu, Nf5, Nf6, Nf7, Nf8, Nf9, Hp1, Pw1, Hk45, H10, Nk1, Rc, Sk, Sf, Sc, St, Hra, Nr1, Nr2, Nr3, Nr4, Nr5, Nr6. -/
import Derived.Test.YtnfljbehcffmcaaGreatM1RefineChecks
import Derived.Test.YtnfljbehcffmcaaGreatM5RefineChecks
import Derived.Test.YtnfljbehcffmcaaGreatM2RefineChecks
import Derived.Test.YtnfljbehcffmcaaGreatM4RefineChecks
import Derived.Test.YtnfljbehcffmcaaGreatM3RefineChecks
import Derived.Shelf.SlSortCmp.WholeK
import Derived.Shelf.SlSortCmp.NoneTotal
import Derived.Shelf.SlSortCmp.KitK
import Derived.Sort.WalkB12
import Derived.Deep.LoopGhost
import Derived.Lib.SliceRun
open Nat renaming beq -> zc, le_refl -> zl, lt_succ_self -> zC, le_trans -> zG, add_mul -> zW, add_zero -> yg, mul_le_mul_right -> yh, zero_add -> yj, add_assoc -> yH, one_mul -> yL, zero_le -> yU, mod_lt -> xe, sub_self -> xT, eq_zero_or_pos -> wA, add_sub_cancel -> wM
open SizeOf renaming sizeOf -> ze
open List renaming replicate -> zf, length_append -> zh, mem_cons_self -> zk, getElem?_eq_getElem -> zm, mem_singleton -> zo, mem_cons -> zx, take_length -> zy, length_map -> zB, length_take -> zD, range -> zH, length_set -> zI, mem_cons_of_mem -> zL, mem_map -> zM, map_append -> zO, mem_append -> zP, length_drop -> zV, length -> zY, mem_filter -> z8, map_cons -> yf, length_singleton -> ym, length_filter_le -> yq, append_nil -> yu, length_cons -> yw, length_nil -> yA, nil_append -> yB, getElem_map -> yM, drop_eq_getElem_cons -> yQ, append_assoc -> yS, map_nil -> yT, filter_cons -> yV, getElem_of_mem -> xd, eq_nil_of_length_eq_zero -> xg, filter_append -> xh, length_eq_zero_iff -> xu, ext_getElem -> xw, cons_append -> xz, take_append_drop -> xA, mem_of_mem_drop -> xD, filterMap_cons -> xE, drop_zero -> xI, getElem_take -> xK, flatMap_append -> xR, getElem_drop -> xS, filter_nil -> xY, count_append -> xZ, getElem?_take_of_lt -> wu, count_eq_zero -> wz, getElem_append_right -> wC, getElem?_eq_none -> wE, range_succ -> wG, mem_of_mem_take -> wJ, any_eq_true -> wN, drop_length -> wP, filter_eq_self -> wV, getElem?_append_right -> wX, getElem?_append_left -> wY, filter_cons_of_pos -> vh, filter_cons_of_neg -> vi
open Int renaming toNat_natCast -> zg, le_refl -> zj, toNat -> zq, mul_nonneg -> zJ, mul_le_mul_of_nonneg_right -> zN, ediv_nonneg -> zS, mul_assoc -> yb, one_mul -> yc, ediv_le_self -> yl, lt_irrefl -> yx, mul_le_mul -> yY, le_trans -> xV, mul_le_mul_of_nonneg_left -> va
open Bool renaming and_eq_true -> zi, false_eq_true -> yy, or_eq_true -> yC, true -> J, false -> O
open Option renaming map_eq_some_iff -> zn, some -> zF, isSome_none -> vk, some -> V, none -> G
open Array renaming length_toList -> yo, getElem?_eq_some_iff -> y8, getElem?_eq_getElem -> y9, getElem?_toList -> wQ, getElem?_modify -> vm
open Decidable renaming decide -> vn
open Go.Proofs.Tryz renaming prog -> vp
open Go.Proofs.Tryz
set_option linter.unusedSectionVars false
set_option linter.unusedVariables false
set_option linter.unusedSimpArgs false
set_option linter.defProp false
noncomputable section
set_option maxRecDepth 100000
namespace Go.Proofs.YtnfljbehcffmcaaGreat
open Go Go.Iv
open Go.IntKind (i64 u64)
def F79:bu:=(Oz (atO (e91 dA)))
structure FC where
 t2:List aK
 t100:List bh
 (t101 t102:Int)
def abl:Td 0 FC:= .c [] [2,100,101,102] (.r 0 1 (ec 2 (ql 34) (ec 100 (qo 0) (ec 101 aP (ec 102 aP en)))) (sr 0 131 sn) (λz=>⟨z.1.1,z.2.1,z.1.t.1,z.1.t.2.1⟩) (λx=>((x.t2,(),x.t101,x.t102,()),(x.t100,()))))
def Oq{α:Type}(p:FC)(go:FC->aa α)(e1 e2 e3:aa α):aa α:=
 bif vn (p.t102<p.t101)then if 0<=p.t102/\p.t102<zY p.t100 then if 131=131/\zq p.t102<zY p.t100 then match (if 0<=p.t102/\p.t102<zY p.t2 then match Bb p.t2[zq p.t102]! with|G=>G|V r2=>bif bif r2 then O else J then V J else if 0<=p.t102/\p.t102<zY p.t2 then match YH p.t2[zq p.t102]! with|G=>G|V r3=>V (vn (r3=0))else G else G)with|G=>G|V r4=>bif r4 then e1 else if 0<=p.t102/\p.t102<zY p.t2 then bif vn (p.t2[zq p.t102]!.ah<p.t100[zq p.t102]!.ah)then e2 else if 0<=p.t102/\p.t102<zY p.t2 then bif vn (p.t100[zq p.t102]!.ag<p.t2[zq p.t102]!.ag)then e2 else go (FC.mk p.t2 p.t100 p.t101 (ak (p.t102+1)))else G else G else G else G else e3
def Rz(p:FC):aa (aa FC):=
 Oq p (λs=>V (V s)) (V G) (V G) (V G)
def apa:An:=(noTwo (noTwo (.two (noTwo (.two (.two (.rb [91,144] 120) .no) .no)) .no)))
def YZ:=bI (Rz)
structure GX where
 t2:List aK
 (t9 t69:List bh)
 (t70 t71:Int)
 b0:bU
def agk:Td 0 GX:= .c [] [2,4,9,69,70,71] (.r 0 3 (ec 2 (ql 34) (ec 4 (qp 0 0) (ec 9 (qo 1) (ec 69 (qo 2) (ec 70 aP (ec 71 aP en)))))) (sb 0 29 (lg 29) (sr 1 131 (sr 2 131 sn))) (λz=>⟨z.1.1,z.t.1,z.t.2.1,z.1.q.1,z.1.q.2.1,z.2.1⟩) (λx=>((x.t2,(),(),(),x.t70,x.t71,()),(x.b0,x.t9,x.t69,()))))
def Qe{α:Type}(p:GX)(go:GX->aa α)(e1 e2:aa α):aa α:=
 bif vn (p.t71<p.t70)then if 0<=p.t71/\p.t71<zY p.t69 then if 131=131/\zq p.t71<zY p.t69 then if 0<=p.t71/\p.t71<zY p.b0.bz then bif vn (((p.t2,(),(),(),p.t70,p.t71,()),p.b0,p.t9,p.t69,()).snd.fst.bz[((p.t2,(),(),(),p.t70,p.t71,()),p.b0,p.t9,p.t69,()).fst.snd.snd.snd.snd.snd.fst.toNat]! <((p.t2,(),(),(),p.t70,p.t71,()),p.b0,p.t9,p.t69,()).snd.snd.snd.fst[((p.t2,(),(),(),p.t70,p.t71,()),p.b0,p.t9,p.t69,()).fst.snd.snd.snd.snd.snd.fst.toNat]!.ah)then e1 else if 0<=p.t71/\p.t71<zY p.b0.bz then bif vn (((p.t2,(),(),(),p.t70,p.t71,()),p.b0,p.t9,p.t69,()).snd.snd.snd.fst[((p.t2,(),(),(),p.t70,p.t71,()),p.b0,p.t9,p.t69,()).fst.snd.snd.snd.snd.snd.fst.toNat]!.ag<((p.t2,(),(),(),p.t70,p.t71,()),p.b0,p.t9,p.t69,()).snd.fst.bz[((p.t2,(),(),(),p.t70,p.t71,()),p.b0,p.t9,p.t69,()).fst.snd.snd.snd.snd.snd.fst.toNat]!)then e1 else go (GX.mk p.t2 p.t9 p.t69 p.t70 (ak (p.t71+1)) p.b0)else G else G else G else G else e2
def RM(p:GX):aa (aa GX):=
 Qe p (λs=>V (V s)) (V G) (V G)
def XP:=bI (RM)
structure DL where
 t2:List aK
 (t8 t9:List bh)
 t13:Int
 t40:List Int
 (t41 t42:Int)
 t47:List bh
 (t48 t49:Int)
 b0:aS
 b1:bU
def acf:Td 0 DL:= .c [] [2,3,4,8,9,13,40,41,42,47,48,49] (.r 0 5 (ec 2 (ql 34) (ec 3 (qp 0 0) (ec 4 (qp 1 0) (ec 8 (qo 2) (ec 9 (qo 3) (ec 13 aP (ec 40 (qo 4) (ec 41 aP (ec 42 aP (ec 47 (ql 131) (ec 48 aP (ec 49 aP en)))))))))))) (sb 0 26 (lg 26) (sb 1 29 (lg 29) (sr 2 131 (sr 3 131 (sr 4 129 sn))))) (λz=>⟨z.1.1,z.t.2.1,z.q.1,z.1.q.2.1,z.q.2.1,z.1.q.t.2.1,z.1.q.q.1,z.1.q.q.2.1,z.1.q.q.t.1,z.1.q.q.t.2.1,z.2.1,z.t.1⟩) (λx=>((x.t2,(),(),(),(),x.t13,(),x.t41,x.t42,x.t47,x.t48,x.t49,()),(x.b0,x.b1,x.t8,x.t9,x.t40,()))))
def DK{α:Type}(p:DL)(go:DL->aa α)(e1:aa α):aa α:=
 bif vn (p.t49<p.t48)then if 0<=p.t49/\p.t49<zY p.t47 then bif vn (p.t47[zq p.t49]!.bS=p.t13)then if(p.t9++[p.t47[zq p.t49]!]).length<=1073741824 then go (DL.mk p.t2 p.t8 (p.t9++[p.t47[zq p.t49]!]) p.t13 p.t40 p.t41 p.t42 p.t47 p.t48 (ak (p.t49+1)) p.b0 p.b1)else G else go (DL.mk p.t2 p.t8 p.t9 p.t13 p.t40 p.t41 p.t42 p.t47 p.t48 (ak (p.t49+1)) p.b0 p.b1)else G else e1
def VR(p:DL):aa (aa DL):=
 DK p (λs=>V (V s)) (V G)
def PK:=bI (VR)
structure HJ where
 t2:List aK
 (t8 t9:List bh)
 t40:List Int
 (t41 t42:Int)
 b0:aS
 b1:bU
def afA:Td 0 HJ:= .c [] [2,3,4,8,9,40,41,42] (.t (b6.s 9 [] 131) (.c [] [2,3,4,8,9,40,41,42] (.r 0 5 (ec 2 (ql 34) (ec 3 (qp 0 0) (ec 4 (qp 1 0) (ec 8 (qo 2) (ec 9 (qo 3) (ec 40 (qo 4) (ec 41 aP (ec 42 aP en)))))))) (sb 0 26 (lg 26) (sb 1 29 (lg 29) (sr 2 131 (sr 3 131 (sr 4 129 sn))))) (λz=>⟨z.1.1,z.t.2.1,z.q.1,z.q.2.1,z.1.q.t.1,z.1.q.t.2.1,z.2.1,z.t.1⟩) (λx=>((x.t2,(),(),(),(),(),x.t41,x.t42,()),(x.b0,x.b1,x.t8,x.t9,x.t40,()))))))
def Ka{α:Type}(p:HJ)(go:HJ->aa α)(e1:aa α):aa α:=
 bif vn (p.t42<p.t41)then if 0<=p.t42/\p.t42<zY p.t40 then if 129=129/\zq p.t42<zY p.t40 then match PK (DL.mk p.t2 p.t8 p.t9 p.t40[zq p.t42]! p.t40 p.t41 p.t42 p.b0.ai (zY p.b0.ai) 0 p.b0 p.b1)with|G=>G|V r1=>DK r1 (λ_=>G) (go (HJ.mk r1.t2 r1.t8 r1.t9 r1.t40 r1.t41 (ak (r1.t42+1)) r1.b0 r1.b1))else G else G else e1
def VG(p:HJ):aa (aa HJ):=
 Ka p (λs=>V (V s)) (V G)
def ao5:An:=(noTwo (noTwo (.two (noTwo (noTwo (acf.lp PK .no))) .no)))
def Rn:=bI (VG)
structure DJ where
 t2:List aK
 (t8 t26:List bh)
 (t27 t28:Int)
 b0:aS
 b1:bU
def abx:Td 0 DJ:= .c [] [2,3,4,8,9,26,27,28] (.t (b6.s 8 [] 131) (.c [] [2,3,4,8,9,26,27,28] (.r 0 3 (ec 2 (ql 34) (ec 3 (qp 0 0) (ec 4 (qp 1 0) (ec 8 (qo 2) (ec 9 qn (ec 26 (ql 131) (ec 27 aP (ec 28 aP en)))))))) (sb 0 26 (lg 26) (sb 1 29 (lg 29) (sr 2 131 sn))) (λz=>⟨z.1.1,z.t.2.1,z.1.q.2.1,z.1.q.t.1,z.1.q.t.2.1,z.2.1,z.t.1⟩) (λx=>((x.t2,(),(),(),(),x.t26,x.t27,x.t28,()),(x.b0,x.b1,x.t8,()))))))
def Pq{α:Type}(p:DJ)(go:DJ->aa α)(e1:aa α):aa α:=
 bif vn (p.t28<p.t27)then if 0<=p.t28/\p.t28<zY p.t26 then bif vn (p.t26[zq p.t28]!.bS=2)then if(p.t8++[p.t26[zq p.t28]!]).length<=1073741824 then go (DJ.mk p.t2 (p.t8++[p.t26[zq p.t28]!]) p.t26 p.t27 (ak (p.t28+1)) p.b0 p.b1)else G else go (DJ.mk p.t2 p.t8 p.t26 p.t27 (ak (p.t28+1)) p.b0 p.b1)else G else e1
def YK(p:DJ):aa (aa DJ):=
 Pq p (λs=>V (V s)) (V G)
def W7:=bI (YK)
abbrev E79:=Int
def d79:Td 0 E79:= .c [] [6] (.r 0 0 (ec 6 aP en) sn (λz=>z.1.1) (λx=>((x,()),(()))))
def aHv:∀f∈([91,144]:af Nat),bA (F79) f:=(aA (gj (Jy (H9 bG))) (aA (gj (Jy (H9 bG))) aH))
def m79(a0:aS)(a1:bU)(a2:af aK):aa E79:=
 match aea a0 with|G=>G|V r5=>bif bif vn (r5=0)then O else J then V (r5)else match W7 (DJ.mk a2 [] a0.ai (zY a0.ai) 0 a0 a1)with|G=>G|V r6=>Pq r6 (λ_=>G) (match Rn (HJ.mk r6.t2 r6.t8 [] [1,3] (2:Int) 0 r6.b0 r6.b1)with|G=>G|V r7=>Ka r7 (λ_=>G) (bif bif vn ((zY r7.b1.bz:Int)=(zY r7.t8:Int))then O else J then V 1 else match XP (GX.mk r7.t2 r7.t9 r7.t8 (zY r7.t8) 0 r7.b1)with|G=>G|V r9=>Qe r9 (λ_=>G) (V 3) (bif bif vn ((zY r9.t2:Int)=(zY r9.t9:Int))then O else J then V 2 else match YZ (FC.mk r9.t2 r9.t9 (zY r9.t9) 0)with|G=>G|V r10=>Oq r10 (λ_=>G) (V 1) (V 3) (V 0))))
def e79:=eL vp 79 O (lc (qg 26) (lc (qg 29) (lc (ql 34) ln))) d79 (λg=>m79 g.1 g.2.1 g.t.1)
def arJ:EO e79:=λh=>kL (F:=F79) (an:=(noTwo (noTwo (noTwo (.two (noTwo (abx.lp W7 .no)) (.two (noTwo (afA.lp Rn ao5)) (noTwo (.two (noTwo (agk.lp XP .no)) (noTwo (.two (noTwo (abl.lp YZ apa)) .no)))))))))) (l:=[(bk f79 0,(abx.lp W7 .no)),(bk f79 1,(afA.lp Rn ao5)),(bk f79 2,(acf.lp PK .no)),(bk f79 3,(agk.lp XP .no)),(bk f79 4,(abl.lp YZ apa)),(.skip,(.rb [91,144] 120))]) func79 (lN (WS (Uj aV))) (aA (aO abx) (aA (aO afA) (aA (aO acf) (aA (aO agk) (aA (aO abl) (aA aHv aH)))))) h
structure FY where
 t108:List dN
 (t109 t110:Int)
 b0:aS
 b1:bU
 b2:bK
 b3:ay
 b4:Runner
def ace:Td 0 FY:= .c [] [3,4,6,9,17,108,109,110] (.t (b6.c 4 3 [] 34) (.c [] [3,4,6,9,17,108,109,110] (.r 0 7 (ec 3 (qp 0 0) (ec 4 (qp 1 0) (ec 6 (qp 2 0) (ec 9 (qp 3 0) (ec 17 (qp 4 0) (ec 108 (ql 139) (ec 109 aP (ec 110 aP en)))))))) (sb 0 26 (lg 26) (sb 1 29 (lg 29) (sb 2 36 (aU (aU (aU (lc qn (aU (aU (aU (lc qn ln)))))))) (sb 3 128 (lc (qo 5) (aU (aU (aU (lc qn (aU (aU (aU ln)))))))) (sb 4 133 (lc (ql 131) (lc (ql 139) (lc (ql 166) (lc (qo 6) ln)))) (sr 5 34 (sr 6 34 sn))))))) (λz=>⟨z.1.q.2.1,z.1.q.t.1,z.1.q.t.2.1,z.2.1,z.t.1,(bK.mk (aK.mk z.t.2.1.1 z.t.2.1.2.1 z.t.2.1.t.1) [] (aK.mk z.t.2.1.q.1 z.t.2.1.q.2.1 z.t.2.1.q.t.1) []),(ay.mk z.q.t.1 (aK.mk z.q.1.2.1 z.q.1.t.1 z.q.1.t.2.1) [] (aK.mk z.q.1.q.2.1 z.q.1.q.t.1 z.q.1.q.t.2.1)),(Runner.mk (aS.mk z.q.2.1.1 z.q.2.1.2.1 z.q.2.1.t.1) z.q.t.2.1)⟩) (λx=>(((),(),(),(),(),x.t108,x.t109,x.t110,()),(x.b0,x.b1,(x.b2.aD.ah,x.b2.aD.ag,x.b2.aD.aj,(),x.b2.aI.ah,x.b2.aI.ag,x.b2.aI.aj,(),()),((),x.b3.aD.ah,x.b3.aD.ag,x.b3.aD.aj,(),x.b3.aI.ah,x.b3.aI.ag,x.b3.aI.aj,()),(x.b4.fF.ai,x.b4.fF.ax,x.b4.fF.bM,(),()),x.b3.ai,x.b4.ax,()))))))
def O5{α:Type}(p:FY)(go:FY->aa α)(e1:aa α):aa α:=
 bif vn (p.t110<p.t109)then if 0<=p.t110/\p.t110<zY p.t108 then match Wp (ay.mk p.b3.ai p.b3.aD [] p.b3.aI) (az.mk p.t108[zq p.t110]!.aF.bF p.t108[zq p.t110]!.aF.fN p.t108[zq p.t110]!.aF.aq)with|G=>G|V r1=>match m81 r1 p.t108[zq p.t110]!.ah p.t108[zq p.t110]!.ag with|G=>G|V r2=>if(p.b4.ax++[r2.fst]).length<=1073741824 then go (FY.mk p.t108 p.t109 (ak (p.t110+1)) p.b0 p.b1 (bK.mk p.b2.aD [] p.b2.aI []) (ay.mk p.b3.ai p.b3.aD [] p.b3.aI) (Runner.mk p.b4.fF (p.b4.ax++[r2.fst])))else G else G else e1
def VX(p:FY):aa (aa FY):=
 O5 p (λs=>V (V s)) (V G)
def QE:=bI (VX)
structure uz where
 t2:List aK
 (t10 t11 t12:Int)
 t47:List bh
 (t48 t49:Int)
 b0:aS
 b1:bU
 b2:bK
 b3:ay
def aen:Td 0 uz:= .c [] [2,3,4,6,9,10,11,12,47,48,49] (.t (b6.c 3 0 [] 34) (.c [] [2,3,4,6,9,10,11,12,47,48,49] (.r 0 5 (ec 2 (ql 34) (ec 3 (qp 0 0) (ec 4 (qp 1 0) (ec 6 (qp 2 0) (ec 9 (qp 3 0) (ec 10 aP (ec 11 aP (ec 12 aP (ec 47 (ql 131) (ec 48 aP (ec 49 aP en))))))))))) (sb 0 26 (lg 26) (sb 1 29 (lg 29) (sb 2 36 (aU (aU (aU (lc qn (aU (aU (aU (lc qn ln)))))))) (sb 3 128 (lc (qo 4) (aU (aU (aU (lc qn (aU (aU (aU ln)))))))) (sr 4 34 sn))))) (λz=>⟨z.1.1,z.1.q.2.1,z.1.q.t.1,z.1.q.t.2.1,z.1.q.q.1,z.1.q.q.2.1,z.1.q.q.t.1,z.2.1,z.t.1,(bK.mk (aK.mk z.t.2.1.1 z.t.2.1.2.1 z.t.2.1.t.1) [] (aK.mk z.t.2.1.q.1 z.t.2.1.q.2.1 z.t.2.1.q.t.1) []),(ay.mk z.q.2.1 (aK.mk z.q.1.2.1 z.q.1.t.1 z.q.1.t.2.1) [] (aK.mk z.q.1.q.2.1 z.q.1.q.t.1 z.q.1.q.t.2.1))⟩) (λx=>((x.t2,(),(),(),(),x.t10,x.t11,x.t12,x.t47,x.t48,x.t49,()),(x.b0,x.b1,(x.b2.aD.ah,x.b2.aD.ag,x.b2.aD.aj,(),x.b2.aI.ah,x.b2.aI.ag,x.b2.aI.aj,(),()),((),x.b3.aD.ah,x.b3.aD.ag,x.b3.aD.aj,(),x.b3.aI.ah,x.b3.aI.ag,x.b3.aI.aj,()),x.b3.ai,()))))))
def Q0{α:Type}(p:uz)(go:uz->aa α)(e1:aa α):aa α:=
 bif vn (p.t49<p.t48)then if 0<=p.t49/\p.t49<zY p.t47 then bif vn (p.t47[zq p.t49]!.bS=1)then if 0<=p.t10/\p.t10<zY p.t2 then if(p.b3.ai++[p.t2[zq p.t10]!]).length<=1073741824 then go (uz.mk p.t2 (ak (p.t10+1)) p.t11 p.t12 p.t47 p.t48 (ak (p.t49+1)) p.b0 p.b1 (bK.mk p.b2.aD [] p.b2.aI []) (ay.mk (p.b3.ai++[p.t2[zq p.t10]!]) p.b3.aD [] p.b3.aI))else G else G else bif vn (p.t47[zq p.t49]!.bS=2)then if 0<=p.t11/\p.t11<zY p.b1.bz then if(p.b3.ai++[m80 p.b1.bz[zq p.t11]!]).length<=1073741824 then go (uz.mk p.t2 p.t10 (ak (p.t11+1)) p.t12 p.t47 p.t48 (ak (p.t49+1)) p.b0 p.b1 (bK.mk p.b2.aD [] p.b2.aI []) (ay.mk (p.b3.ai++[m80 p.b1.bz[zq p.t11]!]) p.b3.aD [] p.b3.aI))else G else G else bif vn (p.t47[zq p.t49]!.bS=3)then if 0<=p.t12/\p.t12<zY p.t2 then if(p.b3.ai++[p.t2[zq p.t12]!]).length<=1073741824 then go (uz.mk p.t2 p.t10 p.t11 (ak (p.t12+1)) p.t47 p.t48 (ak (p.t49+1)) p.b0 p.b1 (bK.mk p.b2.aD [] p.b2.aI []) (ay.mk (p.b3.ai++[p.t2[zq p.t12]!]) p.b3.aD [] p.b3.aI))else G else G else if(p.b3.ai++[m80 p.t47[zq p.t49]!.gJ]).length<=1073741824 then go (uz.mk p.t2 p.t10 p.t11 p.t12 p.t47 p.t48 (ak (p.t49+1)) p.b0 p.b1 (bK.mk p.b2.aD [] p.b2.aI []) (ay.mk (p.b3.ai++[m80 p.t47[zq p.t49]!.gJ]) p.b3.aD [] p.b3.aI))else G else G else e1
def VM(p:uz):aa (aa uz):=
 Q0 p (λs=>V (V s)) (V G)
def Ww:=bI (VM)
structure DY where
 t2:List aK
 (t10 t11 t12:Int)
 t34:List bh
 (t35 t36:Int)
 b0:aS
 b1:bU
 b2:bK
 b3:ay
def aey:Td 0 DY:= .c [] [2,3,4,6,9,10,11,12,34,35,36] (.r 0 4 (ec 2 (ql 34) (ec 3 (qp 0 0) (ec 4 (qp 1 0) (ec 6 (qp 2 0) (ec 9 (qp 3 0) (ec 10 aP (ec 11 aP (ec 12 aP (ec 34 (ql 131) (ec 35 aP (ec 36 aP en))))))))))) (sb 0 26 (lg 26) (sb 1 29 (lg 29) (sb 2 36 (aU (aU (aU (lc qn (aU (aU (aU (lc qn ln)))))))) (sb 3 128 (lc qn (aU (aU (aU (lc qn (aU (aU (aU ln)))))))) sn)))) (λz=>⟨z.1.1,z.1.q.2.1,z.1.q.t.1,z.1.q.t.2.1,z.1.q.q.1,z.1.q.q.2.1,z.1.q.q.t.1,z.2.1,z.t.1,(bK.mk (aK.mk z.t.2.1.1 z.t.2.1.2.1 z.t.2.1.t.1) [] (aK.mk z.t.2.1.q.1 z.t.2.1.q.2.1 z.t.2.1.q.t.1) []),(ay.mk [] (aK.mk z.q.1.2.1 z.q.1.t.1 z.q.1.t.2.1) [] (aK.mk z.q.1.q.2.1 z.q.1.q.t.1 z.q.1.q.t.2.1))⟩) (λx=>((x.t2,(),(),(),(),x.t10,x.t11,x.t12,x.t34,x.t35,x.t36,()),(x.b0,x.b1,(x.b2.aD.ah,x.b2.aD.ag,x.b2.aD.aj,(),x.b2.aI.ah,x.b2.aI.ag,x.b2.aI.aj,(),()),((),x.b3.aD.ah,x.b3.aD.ag,x.b3.aD.aj,(),x.b3.aI.ah,x.b3.aI.ag,x.b3.aI.aj,()),()))))
def QU{α:Type}(p:DY)(go:DY->aa α)(e1:aa α):aa α:=
 bif vn (p.t36<p.t35)then if 0<=p.t36/\p.t36<zY p.t34 then bif vn (p.t34[zq p.t36]!.bS=1)then go (DY.mk p.t2 p.t10 p.t11 (ak (p.t12+1)) p.t34 p.t35 (ak (p.t36+1)) p.b0 p.b1 (bK.mk p.b2.aD [] p.b2.aI []) (ay.mk [] p.b3.aD [] p.b3.aI))else go (DY.mk p.t2 p.t10 p.t11 p.t12 p.t34 p.t35 (ak (p.t36+1)) p.b0 p.b1 (bK.mk p.b2.aD [] p.b2.aI []) (ay.mk [] p.b3.aD [] p.b3.aI))else G else e1
def WO(p:DY):aa (aa DY):=
 QU p (λs=>V (V s)) (V G)
def V6:=bI (WO)
abbrev E20:=bK×Int
def d20:Td 0 E20:= .c [] [6,7] (.r 0 1 (ec 6 (qp 0 0) (ec 7 aP en)) (sb 0 36 (lg 36) sn) (λz=>(z.2.1,z.1.2.1)) (λx=>(((),x.2,()),(x.1,()))))
def m20(a0:aS)(a1:bU)(a2:af aK):aa E20:=
 match m79 a0 a1 a2 with|G=>G|V r3=>bif bif vn (r3=0)then O else J then V ((bK.mk (aK.mk 0 0 0) [] (aK.mk 0 0 0) [],r3))else match V6 (DY.mk a2 0 0 0 a0.ai (zY a0.ai) 0 a0 a1 (bK.mk (aK.mk 0 0 0) [] (aK.mk 0 0 0) []) (ay.mk [] (m80 0) [] (m80 0)))with|G=>G|V r4=>QU r4 (λ_=>G) (match Ww (uz.mk r4.t2 r4.t10 r4.t11 r4.t12 r4.b0.ai (zY r4.b0.ai) 0 r4.b0 r4.b1 (bK.mk r4.b2.aD [] r4.b2.aI []) (ay.mk [] r4.b3.aD [] r4.b3.aI))with|G=>G|V r5=>Q0 r5 (λ_=>G) (match QE (FY.mk r5.b0.ax (zY r5.b0.ax) 0 r5.b0 r5.b1 (bK.mk r5.b2.aD [] r5.b2.aI []) (ay.mk r5.b3.ai r5.b3.aD [] r5.b3.aI) (Runner.mk r5.b0 []))with|G=>G|V r6=>O5 r6 (λ_=>G) (match r83 r6.b4 r6.b0.bM (ay.mk r6.b3.ai r6.b3.aD [] r6.b3.aI)with|G=>G|V r9=>bif bif r6.b1.iJ then O else J then V ((bK.mk r9.aD r9.aG (m80 0) r9.ai,0))else V (bK.mk r9.aD r9.aG r9.aI r9.ai,0))))
def e20:bu->bu:=eZ vp 20 (lc (qg 26) (lc (qg 29) (lc (ql 34) ln))) d20 (λg=>m20 g.1 g.2.1 g.t.1)
def acj:EO e20:=λh=>kZ (an:=(noTwo (noTwo (noTwo (noTwo (.two (noTwo (aey.lp V6 .no)) (.two (noTwo (aen.lp Ww .no)) (noTwo (.two (noTwo (ace.lp QE .no)) .no))))))))) (l:=[(bk f20 0,(aey.lp V6 .no)),(bk f20 1,(aen.lp Ww .no)),(bk f20 2,(ace.lp QE .no))]) func20 (aum (KS (Ut (MJ (arJ aV))))) (aA (aO aey) (aA (aO aen) (aA (aO ace) aH))) h
def adR{F:bu}{f:Nat}(hne:zc f 20=O)(h:bA F f):bA (e20 F) f:=AM hne h
def F93:bu:=dA
abbrev E93:=Int
def d93:Td 0 E93:= .c [] [4] (.r 0 0 (ec 4 aP en) sn (λz=>z.1.1) (λx=>((x,()),(()))))
def aG1:∀f∈([]:af Nat),bA (F93) f:=aH
def m93(a0:Int)(a1:Int):aa E93:=
 match bif vn (0<a1)then if¬a1=0then V (vn (ak ((1099511627776:Int).tdiv a1)<a0))else G else V O with|G=>G|V r1=>bif r1 then V 1099511627776 else V (ak (a0*a1))
def e93:=eL vp 93 O (aU (aU ln)) d93 (λg=>m93 g.1 g.2.1)
def avA:EO e93:=λh=>kL (F:=F93) (an:=(noTwo (.two (.two (.rb [] 12) .no) .no))) (l:=[(.skip,(.rb [] 12))]) func93 aV (aA aG1 aH) h
structure HM where
 (t10 t13:Int)
 t58:List aK
 (t59 t60:Int)
def agi:Td 0 HM:= .c [] [10,13,58,59,60] (.r 0 0 (ec 10 aP (ec 13 aP (ec 58 (ql 34) (ec 59 aP (ec 60 aP en))))) sn (λz=>⟨z.1.1,z.1.2.1,z.1.t.1,z.1.t.2.1,z.1.q.1⟩) (λx=>((x.t10,x.t13,x.t58,x.t59,x.t60,()),(()))))
def QO{α:Type}(p:HM)(go:HM->aa α)(e1:aa α):aa α:=
 bif vn (p.t60<p.t59)then if 0<=p.t60/\p.t60<zY p.t58 then match YH p.t58[zq p.t60]! with|G=>G|V r6=>match m93 p.t13 r6 with|G=>G|V r7=>go (HM.mk p.t10 r7 p.t58 p.t59 (ak (p.t60+1)))else G else e1
def XS(p:HM):aa (aa HM):=
 QO p (λs=>V (V s)) (V G)
def Yh:=bI (XS)
structure uv where
 t2:List aK
 (t10 t11 t32 t33:Int)
 b0:bK
def aeD:Td 0 uv:= .c [] [2,8,10,11,32,33] (.r 0 1 (ec 2 (ql 34) (ec 8 (qp 0 0) (ec 10 aP (ec 11 aP (ec 32 aP (ec 33 aP en)))))) (sb 0 36 (lg 36) sn) (λz=>⟨z.1.1,z.1.t.1,z.1.t.2.1,z.1.q.1,z.1.q.2.1,z.2.1⟩) (λx=>((x.t2,(),x.t10,x.t11,x.t32,x.t33,()),(x.b0,()))))
def OP{α:Type}(p:uv)(go:uv->aa α)(e1:aa α):aa α:=
 bif vn (p.t33<p.t32)then match m92 p.b0.aD p.t33 with|G=>G|V r1=>bif r1 then bif vn (p.t33<zY p.b0.aG)then if 0<=p.t33/\p.t33<zY p.b0.aG then match YH p.b0.aG[zq p.t33]! with|G=>G|V r2=>match m93 p.t11 r2 with|G=>G|V r3=>go (uv.mk p.t2 (if 1099511627776<ak (p.t10+p.t11)then 1099511627776 else ak (p.t10+p.t11)) r3 p.t32 (ak (p.t33+1)) p.b0)else G else go (uv.mk p.t2 (if 1099511627776<ak (p.t10+p.t11)then 1099511627776 else ak (p.t10+p.t11)) p.t11 p.t32 (ak (p.t33+1)) p.b0)else bif vn (p.t33<zY p.b0.aG)then if 0<=p.t33/\p.t33<zY p.b0.aG then match YH p.b0.aG[zq p.t33]! with|G=>G|V r4=>match m93 p.t11 r4 with|G=>G|V r5=>go (uv.mk p.t2 p.t10 r5 p.t32 (ak (p.t33+1)) p.b0)else G else go (uv.mk p.t2 p.t10 p.t11 p.t32 (ak (p.t33+1)) p.b0)else e1
def VA(p:uv):aa (aa uv):=
 OP p (λs=>V (V s)) (V G)
def WV:=bI (VA)
abbrev E25:=Int×Int
def d25:Td 0 E25:= .c [] [6,7] (.r 0 0 (ec 6 aP (ec 7 aP en)) sn (λz=>(z.1.1,z.1.2.1)) (λx=>((x.1,x.2,()),(()))))
def A25:=(lc (qg 26) (lc (qg 29) (lc (ql 34) ln)))
def UJ(a0:aS)(a1:bU)(a2:af aK):aa E25:=
 match m20 a0 a1 a2 with|G=>G|V r8=>bif bif vn (r8.snd=0)then O else J then V (0,r8.snd)else match YH r8.fst.aI with|G=>G|V r9=>match WV (uv.mk a2 0 r9 (ak ((zY r8.fst.aG:Int)+1)) 0 r8.fst)with|G=>G|V r10=>OP r10 (λ_=>G) (match Yh (HM.mk r10.t10 1 r10.t2 (zY r10.t2) 0)with|G=>G|V r16=>QO r16 (λ_=>G) (V (if r16.t13<r16.t10 then r16.t13 else r16.t10,0)))
def YA:=eL vp 25 O A25 d25 (λg=>UJ g.1 g.2.1 g.t.1)
def C0:EO YA:=λh=>kL (an:=(noTwo (noTwo (noTwo (noTwo (.two (noTwo (aeD.lp WV .no)) (noTwo (.two (noTwo (agi.lp Yh .no)) .no)))))))) (l:=[(bk f25 0,(aeD.lp WV .no)),(bk f25 1,(agi.lp Yh .no))]) func25 (avA (UX (Uj (acj aV)))) (aA (aO aeD) (aA (aO agi) aH)) h
def F26:bu:=(e91 (e20 dA))
structure Ih where
 t12:Bool
 t41:List aK
 (t42 t43:Int)
 (b0 b1:aC)
def adI:Td 0 Ih:= .c [] [6,11,12,41,42,43] (.t (b6.c 1 0 [] 3) (.c [] [6,11,12,41,42,43] (.r 0 3 (ec 6 (qp 0 0) (ec 11 (qp 1 0) (ec 12 qb (ec 41 (ql 34) (ec 42 aP (ec 43 aP en)))))) (sb 0 47 (lc qn (aU ln)) (sb 1 47 (lc (qo 2) (aU ln)) (sr 2 3 sn))) (λz=>⟨z.1.t.1,z.1.t.2.1,z.1.q.1,z.1.q.2.1,(aC.mk [] z.2.1.2.1),(aC.mk z.t.2.1 z.t.1.2.1)⟩) (λx=>(((),(),x.t12,x.t41,x.t42,x.t43,()),(((),x.b0.aI,()),((),x.b1.aI,()),x.b1.aM,()))))))
def Rm{α:Type}(p:Ih)(go:Ih->aa α)(e1:aa α):aa α:=
 bif vn (p.t43<p.t42)then if 0<=p.t43/\p.t43<zY p.t41 then match (bif p.t12 then match YH p.t41[zq p.t43]! with|G=>G|V r1=>V (vn (r1=1))else V O)with|G=>G|V r2=>if(p.b1.aM++[p.t41[zq p.t43]!.ah]).length<=1073741824 then go (Ih.mk r2 p.t41 p.t42 (ak (p.t43+1)) (aC.mk [] p.b0.aI) (aC.mk (p.b1.aM++[p.t41[zq p.t43]!.ah]) p.b1.aI))else G else G else e1
def V9(p:Ih):aa (aa Ih):=
 Rm p (λs=>V (V s)) (V G)
def aqd:An:=(noTwo (noTwo (.two (noTwo (.two (.rb [91] 12) .no)) .no)))
def Xg:=bI (V9)
abbrev E26:=aC×Bool×Int
def d26:Td 0 E26:= .c [] [6,7,8] (.t (b6.c 0 0 [] 3) (.c [] [6,7,8] (.r 0 2 (ec 6 (qp 0 0) (ec 7 qb (ec 8 aP en))) (sb 0 47 (lc (qo 1) (aU ln)) (sr 1 3 sn)) (λz=>((aC.mk z.t.1 z.2.1.2.1),z.1.2.1,z.1.t.1)) (λx=>(((),x.2.1,x.t,()),(((),x.1.aI,()),x.1.aM,()))))))
def A26:=(lc (qg 26) (lc (qg 29) (lc (ql 34) ln)))
def aCo:∀f∈([91]:af Nat),bA (F26) f:=(aA (H9 (adR (f:=91) rfl bG)) aH)
def Z9(a0:aS)(a1:bU)(a2:af aK):aa E26:=
 match m20 a0 a1 a2 with|G=>G|V r3=>bif bif vn (r3.snd=0)then O else J then V ((aC.mk [] (0),O,r3.snd))else match (match YH r3.fst.aD with|G=>G|V r4=>bif vn (r4=1)then match YH r3.fst.aI with|G=>G|V r5=>V (vn (r5=1))else V O)with|G=>G|V r6=>match Xg (Ih.mk r6 r3.fst.aG (zY r3.fst.aG) 0 (aC.mk [] (0)) (aC.mk [] r3.fst.aI.ah))with|G=>G|V r7=>Rm r7 (λ_=>G) (bif bif r7.t12 then O else J then V ((aC.mk [] (0),O,0))else V (r7.b1,J,0))
def YU:=eL vp 26 O A26 d26 (λg=>Z9 g.1 g.2.1 g.t.1)
def Di:EO YU:=λh=>kL (F:=F26) (an:=(noTwo (noTwo (noTwo (noTwo (.two (.rb [91] 12) (.two (noTwo (adI.lp Xg aqd)) .no))))))) (l:=[(.skip,(.rb [91] 12)),(bk f26 0,(adI.lp Xg aqd)),(.skip,(.rb [91] 12))]) func26 (Uj (acj aV)) (aA aCo (aA (aO adI) (aA aCo aH))) h
def F21:bu:=(e84 (e78 (e43 dA)))
structure GL where
 t2:List aK
 t95:List bh
 (t96 t97:Int)
def afk:Td 0 GL:= .c [] [2,95,96,97] (.r 0 1 (ec 2 (ql 34) (ec 95 (qo 0) (ec 96 aP (ec 97 aP en)))) (sr 0 131 sn) (λz=>⟨z.1.1,z.2.1,z.1.t.1,z.1.t.2.1⟩) (λx=>((x.t2,(),x.t96,x.t97,()),(x.t95,()))))
def Rb{α:Type}(p:GL)(go:GL->aa α)(e1 e2 e3:aa α):aa α:=
 bif vn (p.t97<p.t96)then if 0<=p.t97/\p.t97<zY p.t95 then if 131=131/\zq p.t97<zY p.t95 then match (if 0<=p.t97/\p.t97<zY p.t2 then match m84 p.t2[zq p.t97]! with|G=>G|V r4=>bif bif r4 then O else J then V J else if 0<=p.t97/\p.t97<zY p.t2 then match Eh p.t2[zq p.t97]! with|G=>G|V r5=>V (vn (r5=0))else G else G)with|G=>G|V r6=>bif r6 then e1 else if 0<=p.t97/\p.t97<zY p.t2 then bif vn (p.t2[zq p.t97]!.ah<p.t95[zq p.t97]!.ah)then e2 else if 0<=p.t97/\p.t97<zY p.t2 then bif vn (p.t95[zq p.t97]!.ag<p.t2[zq p.t97]!.ag)then e2 else go (GL.mk p.t2 p.t95 p.t96 (ak (p.t97+1)))else G else G else G else G else e3
def N8(p:GL):aa (aa GL):=
 Rb p (λs=>V (V s)) (V G) (V G) (V G)
def apA:An:=(noTwo (noTwo (.two (noTwo (.two (.two (.rb [43,84] 115) .no) .no)) .no)))
def XB:=bI (N8)
structure Iw where
 t2:List aK
 (t9 t64:List bh)
 (t65 t66:Int)
 b0:bU
def adk:Td 0 Iw:= .c [] [2,4,9,64,65,66] (.r 0 3 (ec 2 (ql 34) (ec 4 (qp 0 0) (ec 9 (qo 1) (ec 64 (qo 2) (ec 65 aP (ec 66 aP en)))))) (sb 0 29 (lg 29) (sr 1 131 (sr 2 131 sn))) (λz=>⟨z.1.1,z.t.1,z.t.2.1,z.1.q.1,z.1.q.2.1,z.2.1⟩) (λx=>((x.t2,(),(),(),x.t65,x.t66,()),(x.b0,x.t9,x.t64,()))))
def Rt{α:Type}(p:Iw)(go:Iw->aa α)(e1 e2:aa α):aa α:=
 bif vn (p.t66<p.t65)then if 0<=p.t66/\p.t66<zY p.t64 then if 131=131/\zq p.t66<zY p.t64 then if 0<=p.t66/\p.t66<zY p.b0.bz then bif vn (((p.t2,(),(),(),p.t65,p.t66,()),p.b0,p.t9,p.t64,()).snd.fst.bz[((p.t2,(),(),(),p.t65,p.t66,()),p.b0,p.t9,p.t64,()).fst.snd.snd.snd.snd.snd.fst.toNat]! <((p.t2,(),(),(),p.t65,p.t66,()),p.b0,p.t9,p.t64,()).snd.snd.snd.fst[((p.t2,(),(),(),p.t65,p.t66,()),p.b0,p.t9,p.t64,()).fst.snd.snd.snd.snd.snd.fst.toNat]!.ah)then e1 else if 0<=p.t66/\p.t66<zY p.b0.bz then bif vn (((p.t2,(),(),(),p.t65,p.t66,()),p.b0,p.t9,p.t64,()).snd.snd.snd.fst[((p.t2,(),(),(),p.t65,p.t66,()),p.b0,p.t9,p.t64,()).fst.snd.snd.snd.snd.snd.fst.toNat]!.ag<((p.t2,(),(),(),p.t65,p.t66,()),p.b0,p.t9,p.t64,()).snd.fst.bz[((p.t2,(),(),(),p.t65,p.t66,()),p.b0,p.t9,p.t64,()).fst.snd.snd.snd.snd.snd.fst.toNat]!)then e1 else go (Iw.mk p.t2 p.t9 p.t64 p.t65 (ak (p.t66+1)) p.b0)else G else G else G else G else e2
def O1(p:Iw):aa (aa Iw):=
 Rt p (λs=>V (V s)) (V G) (V G)
def WW:=bI (O1)
structure Bk where
 t2:List aK
 (t8 t9:List bh)
 t11:Int
 t23:List Int
 (t24 t25:Int)
 t30:List bh
 (t31 t32:Int)
 b0:aS
 b1:bU
def acN:Td 0 Bk:= .c [] [2,3,4,8,9,11,23,24,25,30,31,32] (.r 0 5 (ec 2 (ql 34) (ec 3 (qp 0 0) (ec 4 (qp 1 0) (ec 8 (qo 2) (ec 9 (qo 3) (ec 11 aP (ec 23 (qo 4) (ec 24 aP (ec 25 aP (ec 30 (ql 131) (ec 31 aP (ec 32 aP en)))))))))))) (sb 0 26 (lg 26) (sb 1 29 (lg 29) (sr 2 131 (sr 3 131 (sr 4 129 sn))))) (λz=>⟨z.1.1,z.t.2.1,z.q.1,z.1.q.2.1,z.q.2.1,z.1.q.t.2.1,z.1.q.q.1,z.1.q.q.2.1,z.1.q.q.t.1,z.1.q.q.t.2.1,z.2.1,z.t.1⟩) (λx=>((x.t2,(),(),(),(),x.t11,(),x.t24,x.t25,x.t30,x.t31,x.t32,()),(x.b0,x.b1,x.t8,x.t9,x.t23,()))))
def AH{α:Type}(p:Bk)(go:Bk->aa α)(e1:aa α):aa α:=
 bif vn (p.t32<p.t31)then if 0<=p.t32/\p.t32<zY p.t30 then match (bif vn (p.t30[zq p.t32]!.bS=p.t11)then V (vn (p.t11=2))else V O)with|G=>G|V r3=>bif r3 then if(p.t8++[p.t30[zq p.t32]!]).length<=1073741824 then go (Bk.mk p.t2 (p.t8++[p.t30[zq p.t32]!]) p.t9 p.t11 p.t23 p.t24 p.t25 p.t30 p.t31 (ak (p.t32+1)) p.b0 p.b1)else G else bif vn (p.t30[zq p.t32]!.bS=p.t11)then if(p.t9++[p.t30[zq p.t32]!]).length<=1073741824 then go (Bk.mk p.t2 p.t8 (p.t9++[p.t30[zq p.t32]!]) p.t11 p.t23 p.t24 p.t25 p.t30 p.t31 (ak (p.t32+1)) p.b0 p.b1)else G else go (Bk.mk p.t2 p.t8 p.t9 p.t11 p.t23 p.t24 p.t25 p.t30 p.t31 (ak (p.t32+1)) p.b0 p.b1)else G else e1
def Wq(p:Bk):aa (aa Bk):=
 AH p (λs=>V (V s)) (V G)
def aos:An:=(noTwo (noTwo (.two (noTwo (.two (.rb [43,84] 43) .no)) .no)))
def VC:=bI (Wq)
structure GA where
 t2:List aK
 (t8 t9:List bh)
 t23:List Int
 (t24 t25:Int)
 b0:aS
 b1:bU
def aew:Td 0 GA:= .c [] [2,3,4,8,9,23,24,25] (.t (b6.s 8 [] 131) (.t (b6.s 9 [] 131) (.c [] [2,3,4,8,9,23,24,25] (.r 0 5 (ec 2 (ql 34) (ec 3 (qp 0 0) (ec 4 (qp 1 0) (ec 8 (qo 2) (ec 9 (qo 3) (ec 23 (qo 4) (ec 24 aP (ec 25 aP en)))))))) (sb 0 26 (lg 26) (sb 1 29 (lg 29) (sr 2 131 (sr 3 131 (sr 4 129 sn))))) (λz=>⟨z.1.1,z.t.2.1,z.q.1,z.q.2.1,z.1.q.t.1,z.1.q.t.2.1,z.2.1,z.t.1⟩) (λx=>((x.t2,(),(),(),(),(),x.t24,x.t25,()),(x.b0,x.b1,x.t8,x.t9,x.t23,())))))))
def HF{α:Type}(p:GA)(go:GA->aa α)(e1:aa α):aa α:=
 bif vn (p.t25<p.t24)then if 0<=p.t25/\p.t25<zY p.t23 then if 129=129/\zq p.t25<zY p.t23 then match VC (Bk.mk p.t2 p.t8 p.t9 p.t23[zq p.t25]! p.t23 p.t24 p.t25 p.b0.ai (zY p.b0.ai) 0 p.b0 p.b1)with|G=>G|V r1=>AH r1 (λ_=>G) (go (GA.mk r1.t2 r1.t8 r1.t9 r1.t23 r1.t24 (ak (r1.t25+1)) r1.b0 r1.b1))else G else G else e1
def ON(p:GA):aa (aa GA):=
 HF p (λs=>V (V s)) (V G)
def apT:An:=(noTwo (noTwo (.two (noTwo (noTwo (acN.lp VC aos))) .no)))
def P5:=bI (ON)
abbrev E21:=Int
def d21:Td 0 E21:= .c [] [6] (.r 0 0 (ec 6 aP en) sn (λz=>z.1.1) (λx=>((x,()),(()))))
def aw3:∀f∈([43,84]:af Nat),bA (F21) f:=(aA (iS (AX (mJ bG))) (aA (iS (AX (mJ bG))) aH))
def m21(a0:aS)(a1:bU)(a2:af aK):aa E21:=
 match m78 a0 with|G=>G|V r7=>bif bif vn (r7=0)then O else J then V (r7)else match P5 (GA.mk a2 [] [] [1,3,2] (3:Int) 0 a0 a1)with|G=>G|V r8=>HF r8 (λ_=>G) (bif bif vn ((zY r8.b1.bz:Int)=(zY r8.t8:Int))then O else J then V 1 else match WW (Iw.mk r8.t2 r8.t9 r8.t8 (zY r8.t8) 0 r8.b1)with|G=>G|V r11=>Rt r11 (λ_=>G) (V 3) (bif bif vn ((zY r11.t2:Int)=(zY r11.t9:Int))then O else J then V 2 else match XB (GL.mk r11.t2 r11.t9 (zY r11.t9) 0)with|G=>G|V r12=>Rb r12 (λ_=>G) (V 1) (V 3) (V 0)))
def e21:=eL vp 21 O (lc (qg 26) (lc (qg 29) (lc (ql 34) ln))) d21 (λg=>m21 g.1 g.2.1 g.t.1)
def avp:EO e21:=λh=>kL (F:=F21) (an:=(noTwo (noTwo (noTwo (.two (noTwo (aew.lp P5 apT)) (noTwo (.two (noTwo (adk.lp WW .no)) (noTwo (.two (noTwo (afk.lp XB apA)) .no))))))))) (l:=[(bk f21 0,(aew.lp P5 apT)),(bk f21 1,(acN.lp VC aos)),(.skip,(.rb [43,84] 43)),(bk f21 2,(adk.lp WW .no)),(bk f21 3,(afk.lp XB apA)),(.skip,(.rb [43,84] 115))]) func21 (Ae (aeb (pP aV))) (aA (aO aew) (aA (aO acN) (aA aw3 (aA (aO adk) (aA (aO afk) (aA aw3 aH)))))) h
structure uq where
 t2:List aK
 (t11 t12 t13:Int)
 t33:List bh
 (t34 t35:Int)
 b0:bU
 (b1 b2:aJ)
def acm:Td 0 uq:= .c [] [2,4,6,7,11,12,13,33,34,35] (.t (b6.c 2 0 [] 34) (.c [] [2,4,6,7,11,12,13,33,34,35] (.r 0 4 (ec 2 (ql 34) (ec 4 (qp 0 0) (ec 6 (qp 1 0) (ec 7 (qp 2 0) (ec 11 aP (ec 12 aP (ec 13 aP (ec 33 (ql 131) (ec 34 aP (ec 35 aP en)))))))))) (sb 0 29 (lg 29) (sb 1 147 (lc qn (aU (aU (aU (lc qn (aU (aU (aU ln)))))))) (sb 2 147 (lc (qo 3) (aU (aU (aU (lc qn (aU (aU (aU ln)))))))) (sr 3 34 sn)))) (λz=>⟨z.1.1,z.1.q.1,z.1.q.2.1,z.1.q.t.1,z.1.q.t.2.1,z.1.q.q.1,z.1.q.q.2.1,z.2.1,(aJ.mk [] (aK.mk z.t.1.2.1 z.t.1.t.1 z.t.1.t.2.1) [] (aK.mk z.t.1.q.2.1 z.t.1.q.t.1 z.t.1.q.t.2.1)),(aJ.mk z.q.1 (aK.mk z.t.2.1.2.1 z.t.2.1.t.1 z.t.2.1.t.2.1) [] (aK.mk z.t.2.1.q.2.1 z.t.2.1.q.t.1 z.t.2.1.q.t.2.1))⟩) (λx=>((x.t2,(),(),(),x.t11,x.t12,x.t13,x.t33,x.t34,x.t35,()),(x.b0,((),x.b1.aD.ah,x.b1.aD.ag,x.b1.aD.aj,(),x.b1.aI.ah,x.b1.aI.ag,x.b1.aI.aj,()),((),x.b2.aD.ah,x.b2.aD.ag,x.b2.aD.aj,(),x.b2.aI.ah,x.b2.aI.ag,x.b2.aI.aj,()),x.b2.ai,()))))))
def Rg{α:Type}(p:uq)(go:uq->aa α)(e1:aa α):aa α:=
 bif vn (p.t35<p.t34)then if 0<=p.t35/\p.t35<zY p.t33 then bif vn (p.t33[zq p.t35]!.bS=1)then if 0<=p.t11/\p.t11<zY p.t2 then if(p.b2.ai++[p.t2[zq p.t11]!]).length<=1073741824 then go (uq.mk p.t2 (ak (p.t11+1)) p.t12 p.t13 p.t33 p.t34 (ak (p.t35+1)) p.b0 (aJ.mk [] p.b1.aD [] p.b1.aI) (aJ.mk (p.b2.ai++[p.t2[zq p.t11]!]) p.b2.aD [] p.b2.aI))else G else G else bif vn (p.t33[zq p.t35]!.bS=3)then if 0<=p.t12/\p.t12<zY p.t2 then if(p.b2.ai++[p.t2[zq p.t12]!]).length<=1073741824 then go (uq.mk p.t2 p.t11 (ak (p.t12+1)) p.t13 p.t33 p.t34 (ak (p.t35+1)) p.b0 (aJ.mk [] p.b1.aD [] p.b1.aI) (aJ.mk (p.b2.ai++[p.t2[zq p.t12]!]) p.b2.aD [] p.b2.aI))else G else G else bif vn (p.t33[zq p.t35]!.bS=2)then if 0<=p.t13/\p.t13<zY p.b0.bz then if(p.b2.ai++[m36 p.b0.bz[zq p.t13]!]).length<=1073741824 then go (uq.mk p.t2 p.t11 p.t12 (ak (p.t13+1)) p.t33 p.t34 (ak (p.t35+1)) p.b0 (aJ.mk [] p.b1.aD [] p.b1.aI) (aJ.mk (p.b2.ai++[m36 p.b0.bz[zq p.t13]!]) p.b2.aD [] p.b2.aI))else G else G else if(p.b2.ai++[m36 p.t33[zq p.t35]!.gJ]).length<=1073741824 then go (uq.mk p.t2 p.t11 p.t12 p.t13 p.t33 p.t34 (ak (p.t35+1)) p.b0 (aJ.mk [] p.b1.aD [] p.b1.aI) (aJ.mk (p.b2.ai++[m36 p.t33[zq p.t35]!.gJ]) p.b2.aD [] p.b2.aI))else G else G else e1
def Yr(p:uq):aa (aa uq):=
 Rg p (λs=>V (V s)) (V G)
def V7:=bI (Yr)
structure DU where
 t2:List aK
 t8:Int
 t19:List bh
 (t20 t21:Int)
 b0:aS
 b1:bU
 (b2 b3:aJ)
def adU:Td 0 DU:= .c [] [2,3,4,6,7,8,19,20,21] (.r 0 4 (ec 2 (ql 34) (ec 3 (qp 0 0) (ec 4 (qp 1 0) (ec 6 (qp 2 0) (ec 7 (qp 3 0) (ec 8 aP (ec 19 (ql 131) (ec 20 aP (ec 21 aP en))))))))) (sb 0 26 (lg 26) (sb 1 29 (lg 29) (sb 2 147 (lc qn (aU (aU (aU (lc qn (aU (aU (aU ln)))))))) (sb 3 147 (lc qn (aU (aU (aU (lc qn (aU (aU (aU ln)))))))) sn)))) (λz=>⟨z.1.1,z.1.q.2.1,z.1.q.t.1,z.1.q.t.2.1,z.1.q.q.1,z.2.1,z.t.1,(aJ.mk [] (aK.mk z.t.2.1.2.1 z.t.2.1.t.1 z.t.2.1.t.2.1) [] (aK.mk z.t.2.1.q.2.1 z.t.2.1.q.t.1 z.t.2.1.q.t.2.1)),(aJ.mk [] (aK.mk z.q.1.2.1 z.q.1.t.1 z.q.1.t.2.1) [] (aK.mk z.q.1.q.2.1 z.q.1.q.t.1 z.q.1.q.t.2.1))⟩) (λx=>((x.t2,(),(),(),(),x.t8,x.t19,x.t20,x.t21,()),(x.b0,x.b1,((),x.b2.aD.ah,x.b2.aD.ag,x.b2.aD.aj,(),x.b2.aI.ah,x.b2.aI.ag,x.b2.aI.aj,()),((),x.b3.aD.ah,x.b3.aD.ag,x.b3.aD.aj,(),x.b3.aI.ah,x.b3.aI.ag,x.b3.aI.aj,()),()))))
def PF{α:Type}(p:DU)(go:DU->aa α)(e1:aa α):aa α:=
 bif vn (p.t21<p.t20)then if 0<=p.t21/\p.t21<zY p.t19 then bif vn (p.t19[zq p.t21]!.bS=1)then go (DU.mk p.t2 (ak (p.t8+1)) p.t19 p.t20 (ak (p.t21+1)) p.b0 p.b1 (aJ.mk [] p.b2.aD [] p.b2.aI) (aJ.mk [] p.b3.aD [] p.b3.aI))else go (DU.mk p.t2 p.t8 p.t19 p.t20 (ak (p.t21+1)) p.b0 p.b1 (aJ.mk [] p.b2.aD [] p.b2.aI) (aJ.mk [] p.b3.aD [] p.b3.aI))else G else e1
def YV(p:DU):aa (aa DU):=
 PF p (λs=>V (V s)) (V G)
def Xj:=bI (YV)
abbrev E85:=aJ
def d85:Td 0 E85:= .c [] [6] (.r 0 2 (ec 6 (qp 0 0) en) (sb 0 147 (lc (qo 1) (aU (aU (aU (lc qn (aU (aU (aU ln)))))))) (sr 1 34 sn)) (λz=>(aJ.mk z.t.1 (aK.mk z.2.1.2.1 z.2.1.t.1 z.2.1.t.2.1) [] (aK.mk z.2.1.q.2.1 z.2.1.q.t.1 z.2.1.q.t.2.1))) (λx=>(((),()),(((),x.aD.ah,x.aD.ag,x.aD.aj,(),x.aI.ah,x.aI.ag,x.aI.aj,()),x.ai,()))))
def m85(a0:aS)(a1:bU)(a2:af aK):aa E85:=
 match Xj (DU.mk a2 0 a0.ai (zY a0.ai) 0 a0 a1 (aJ.mk [] (aK.mk 0 0 0) [] (aK.mk 0 0 0)) (aJ.mk [] (aK.mk 0 0 0) [] (aK.mk 0 0 0)))with|G=>G|V r1=>PF r1 (λ_=>G) (match V7 (uq.mk r1.t2 0 r1.t8 0 r1.b0.ai (zY r1.b0.ai) 0 r1.b1 (aJ.mk [] r1.b2.aD [] r1.b2.aI) (aJ.mk [] r1.b3.aD [] r1.b3.aI))with|G=>G|V r2=>Rg r2 (λ_=>G) (V (aJ.mk r2.b2.ai r2.b2.aD [] r2.b2.aI)))
def e85:=eL vp 85 O (lc (qg 26) (lc (qg 29) (lc (ql 34) ln))) d85 (λg=>m85 g.1 g.2.1 g.t.1)
def avG:EO e85:=λh=>kL (an:=(noTwo (noTwo (noTwo (.two (noTwo (adU.lp Xj .no)) (noTwo (.two (noTwo (acm.lp V7 .no)) .no))))))) (l:=[(bk f85 0,(adU.lp Xj .no)),(bk f85 1,(acm.lp V7 .no))]) func85 (Lm aV) (aA (aO adU) (aA (aO acm) aH)) h
structure F7 where
 t8:List aK
 t18:List dN
 (t19 t20:Int)
 b0:aS
 b1:bU
 b2:bK
 b3:aJ
def aec:Td 0 F7:= .c [] [3,4,6,7,8,18,19,20] (.t (b6.s 8 [] 34) (.c [] [3,4,6,7,8,18,19,20] (.r 0 6 (ec 3 (qp 0 0) (ec 4 (qp 1 0) (ec 6 (qp 2 0) (ec 7 (qp 3 0) (ec 8 (qo 4) (ec 18 (ql 139) (ec 19 aP (ec 20 aP en)))))))) (sb 0 26 (lg 26) (sb 1 29 (lg 29) (sb 2 36 (aU (aU (aU (lc qn (aU (aU (aU (lc qn ln)))))))) (sb 3 147 (lc (qo 5) (aU (aU (aU (lc qn (aU (aU (aU ln)))))))) (sr 4 34 (sr 5 34 sn)))))) (λz=>⟨z.q.2.1,z.1.q.2.1,z.1.q.t.1,z.1.q.t.2.1,z.2.1,z.t.1,(bK.mk (aK.mk z.t.2.1.1 z.t.2.1.2.1 z.t.2.1.t.1) [] (aK.mk z.t.2.1.q.1 z.t.2.1.q.2.1 z.t.2.1.q.t.1) []),(aJ.mk z.q.t.1 (aK.mk z.q.1.2.1 z.q.1.t.1 z.q.1.t.2.1) [] (aK.mk z.q.1.q.2.1 z.q.1.q.t.1 z.q.1.q.t.2.1))⟩) (λx=>(((),(),(),(),(),x.t18,x.t19,x.t20,()),(x.b0,x.b1,(x.b2.aD.ah,x.b2.aD.ag,x.b2.aD.aj,(),x.b2.aI.ah,x.b2.aI.ag,x.b2.aI.aj,(),()),((),x.b3.aD.ah,x.b3.aD.ag,x.b3.aD.aj,(),x.b3.aI.ah,x.b3.aI.ag,x.b3.aI.aj,()),x.t8,x.b3.ai,()))))))
def Oc{α:Type}(p:F7)(go:F7->aa α)(e1:aa α):aa α:=
 bif vn (p.t20<p.t19)then if 0<=p.t20/\p.t20<zY p.t18 then match Ue (aJ.mk p.b3.ai p.b3.aD [] p.b3.aI) (az.mk p.t18[zq p.t20]!.aF.bF p.t18[zq p.t20]!.aF.fN p.t18[zq p.t20]!.aF.aq)with|G=>G|V r1=>match m86 r1 p.t18[zq p.t20]!.ah p.t18[zq p.t20]!.ag with|G=>G|V r2=>if(p.t8++[r2.fst]).length<=1073741824 then go (F7.mk (p.t8++[r2.fst]) p.t18 p.t19 (ak (p.t20+1)) p.b0 p.b1 (bK.mk p.b2.aD [] p.b2.aI []) (aJ.mk p.b3.ai p.b3.aD [] p.b3.aI))else G else G else e1
def VL(p:F7):aa (aa F7):=
 Oc p (λs=>V (V s)) (V G)
def QT:=bI (VL)
abbrev E23:=bK
def d23:Td 0 E23:= .c [] [6] (.r 0 1 (ec 6 (qp 0 0) en) (sb 0 36 (lg 36) sn) (λz=>z.2.1) (λx=>(((),()),(x,()))))
def m23(a0:aS)(a1:bU)(a2:af aK):aa E23:=
 match m85 a0 a1 a2 with|G=>G|V r3=>match QT (F7.mk [] a0.ax (zY a0.ax) 0 a0 a1 (bK.mk (aK.mk 0 0 0) [] (aK.mk 0 0 0) []) (aJ.mk r3.ai r3.aD [] r3.aI))with|G=>G|V r4=>Oc r4 (λ_=>G) (match r88 r4.b0 r4.t8 r4.b0.bM (aJ.mk r4.b3.ai r4.b3.aD [] r4.b3.aI)with|G=>G|V r7=>bif bif r4.b1.iJ then O else J then V (bK.mk r7.aD r7.aG (m36 0) r7.ai)else V (bK.mk r7.aD r7.aG r7.aI r7.ai))
def e23:bu->bu:=eZ vp 23 (lc (qg 26) (lc (qg 29) (lc (ql 34) ln))) d23 (λg=>m23 g.1 g.2.1 g.t.1)
def acY:EO e23:=λh=>kZ (an:=(noTwo (noTwo (noTwo (.two (noTwo (aec.lp QT .no)) .no))))) (l:=[(bk f23 0,(aec.lp QT .no))]) func23 (atz (Tq (SL (avG (Lm aV))))) (aA (aO aec) aH) h
def adW{F:bu}{f:Nat}(hne:zc f 23=O)(h:bA F f):bA (e23 F) f:=AM hne h
def F37:bu:=(e43 (e23 dA))
structure GH where
 t10:Bool
 t32:List aK
 (t33 t34:Int)
 (b0 b1:aC)
def ac5:Td 0 GH:= .c [] [6,9,10,32,33,34] (.t (b6.c 1 0 [] 3) (.c [] [6,9,10,32,33,34] (.r 0 3 (ec 6 (qp 0 0) (ec 9 (qp 1 0) (ec 10 qb (ec 32 (ql 34) (ec 33 aP (ec 34 aP en)))))) (sb 0 47 (lc qn (aU ln)) (sb 1 47 (lc (qo 2) (aU ln)) (sr 2 3 sn))) (λz=>⟨z.1.t.1,z.1.t.2.1,z.1.q.1,z.1.q.2.1,(aC.mk [] z.2.1.2.1),(aC.mk z.t.2.1 z.t.1.2.1)⟩) (λx=>(((),(),x.t10,x.t32,x.t33,x.t34,()),(((),x.b0.aI,()),((),x.b1.aI,()),x.b1.aM,()))))))
def OF{α:Type}(p:GH)(go:GH->aa α)(e1:aa α):aa α:=
 bif vn (p.t34<p.t33)then if 0<=p.t34/\p.t34<zY p.t32 then match (bif p.t10 then match Eh p.t32[zq p.t34]! with|G=>G|V r1=>V (vn (r1=1))else V O)with|G=>G|V r2=>if(p.b1.aM++[p.t32[zq p.t34]!.ah]).length<=1073741824 then go (GH.mk r2 p.t32 p.t33 (ak (p.t34+1)) (aC.mk [] p.b0.aI) (aC.mk (p.b1.aM++[p.t32[zq p.t34]!.ah]) p.b1.aI))else G else G else e1
def YO(p:GH):aa (aa GH):=
 OF p (λs=>V (V s)) (V G)
def aqN:An:=(noTwo (noTwo (.two (noTwo (.two (.rb [43] 10) .no)) .no)))
def Xk:=bI (YO)
abbrev E37:=aC×Bool
def d37:Td 0 E37:= .c [] [6,7] (.t (b6.c 0 0 [] 3) (.c [] [6,7] (.r 0 2 (ec 6 (qp 0 0) (ec 7 qb en)) (sb 0 47 (lc (qo 1) (aU ln)) (sr 1 3 sn)) (λz=>((aC.mk z.t.1 z.2.1.2.1),z.1.2.1)) (λx=>(((),x.2,()),(((),x.1.aI,()),x.1.aM,()))))))
def ay0:∀f∈([43]:af Nat),bA (F37) f:=(aA (mJ (adW (f:=43) rfl bG)) aH)
def m37(a0:aS)(a1:bU)(a2:af aK):aa E37:=
 match m23 a0 a1 a2 with|G=>G|V r3=>match (match Eh r3.aD with|G=>G|V r4=>bif vn (r4=1)then match Eh r3.aI with|G=>G|V r5=>V (vn (r5=1))else V O)with|G=>G|V r6=>match Xk (GH.mk r6 r3.aG (zY r3.aG) 0 (aC.mk [] (0)) (aC.mk [] r3.aI.ah))with|G=>G|V r7=>OF r7 (λ_=>G) (bif bif r7.t10 then O else J then V ((aC.mk [] (0),O))else V (r7.b1,J))
def e37:=eL vp 37 O (lc (qg 26) (lc (qg 29) (lc (ql 34) ln))) d37 (λg=>m37 g.1 g.2.1 g.t.1)
def asN:EO e37:=λh=>kL (F:=F37) (an:=(noTwo (noTwo (noTwo (.two (.rb [43] 10) (.two (noTwo (ac5.lp Xk aqN)) .no)))))) (l:=[(.skip,(.rb [43] 10)),(bk f37 0,(ac5.lp Xk aqN)),(.skip,(.rb [43] 10))]) func37 (pP (acY aV)) (aA ay0 (aA (aO ac5) (aA ay0 aH))) h
structure uK where
 t3:Int
 t6:List aK
 (t7 t8:Int)
def U4:Td 0 uK:= .c [] [3,6,7,8] (.r 0 0 (ec 3 aP (ec 6 (ql 34) (ec 7 aP (ec 8 aP en)))) sn (λz=>⟨z.1.1,z.1.2.1,z.1.t.1,z.1.t.2.1⟩) (λx=>((x.t3,x.t6,x.t7,x.t8,()),(()))))
def IF{α:Type}(p:uK)(go:uK->aa α)(e1:aa α):aa α:=
 bif vn (p.t8<p.t7)then if 0<=p.t8/\p.t8<zY p.t6 then match Eh p.t6[zq p.t8]! with|G=>G|V r1=>go (uK.mk (ak (p.t3*r1)) p.t6 p.t7 (ak (p.t8+1)))else G else e1
def L9(p:uK):aa (aa uK):=
 IF p (λs=>V (V s)) (V G)
def L6:=bI (L9)
abbrev aBz:=Int
def d100:Td 0 aBz:= .c [] [2] (.r 0 0 (ec 2 aP en) sn (λz=>z.1.1) (λx=>((x,()),(()))))
def amd(a0:af aK):aa aBz:=
 match L6 (uK.mk 1 a0 (zY a0) 0)with|G=>G|V r2=>IF r2 (λ_=>G) (V (r2.t3))
def aHR:=eL vp 100 O (lc (ql 34) ln) d100 (λg=>amd g.1)
def anD:EO aHR:=λh=>kL (an:=(noTwo (noTwo (.two (noTwo (U4.lp L6 .no)) .no)))) (l:=[(bk f100 0,(U4.lp L6 .no))]) func100 (pP aV) (aA (aO U4) aH) h
structure uk where
 (t8 t9 t10 t11:Int)
 b0:bK
def afE:Td 0 uk:= .c [] [7,8,9,10,11] (.r 0 1 (ec 7 (qp 0 0) (ec 8 aP (ec 9 aP (ec 10 aP (ec 11 aP en))))) (sb 0 36 (lg 36) sn) (λz=>⟨z.1.2.1,z.1.t.1,z.1.t.2.1,z.1.q.1,z.2.1⟩) (λx=>(((),x.t8,x.t9,x.t10,x.t11,()),(x.b0,()))))
def RP{α:Type}(p:uk)(go:uk->aa α)(e1:aa α):aa α:=
 bif vn (p.t11<=zY p.b0.aG)then match m32 p.b0.aD p.t11 with|G=>G|V r1=>bif r1 then bif vn (p.t11<zY p.b0.aG)then if 0<=p.t11/\p.t11<zY p.b0.aG then match Eh p.b0.aG[zq p.t11]! with|G=>G|V r2=>go (uk.mk p.t8 (if p.t8<ak (p.t9+p.t10)then p.t8 else ak (p.t9+p.t10)) (if p.t8<ak (p.t10*if p.t8<r2 then p.t8 else r2)then p.t8 else ak (p.t10*if p.t8<r2 then p.t8 else r2)) (ak (p.t11+1)) p.b0)else G else go (uk.mk p.t8 (if p.t8<ak (p.t9+p.t10)then p.t8 else ak (p.t9+p.t10)) p.t10 (ak (p.t11+1)) p.b0)else bif vn (p.t11<zY p.b0.aG)then if 0<=p.t11/\p.t11<zY p.b0.aG then match Eh p.b0.aG[zq p.t11]! with|G=>G|V r3=>go (uk.mk p.t8 p.t9 (if p.t8<ak (p.t10*if p.t8<r3 then p.t8 else r3)then p.t8 else ak (p.t10*if p.t8<r3 then p.t8 else r3)) (ak (p.t11+1)) p.b0)else G else go (uk.mk p.t8 p.t9 p.t10 (ak (p.t11+1)) p.b0)else e1
def YL(p:uk):aa (aa uk):=
 RP p (λs=>V (V s)) (V G)
def V4:=bI (YL)
abbrev E38:=Int
def d38:Td 0 E38:= .c [] [6] (.r 0 0 (ec 6 aP en) sn (λz=>z.1.1) (λx=>((x,()),(()))))
def m38(a0:aS)(a1:bU)(a2:af aK):aa E38:=
 match m23 a0 a1 a2 with|G=>G|V r4=>match amd a2 with|G=>G|V r5=>match Eh r4.aI with|G=>G|V r6=>match V4 (uk.mk (if 1099511627776<r5 then 1099511627776 else r5) (0) (if(if 1099511627776<r5 then 1099511627776 else r5)<r6 then if 1099511627776<r5 then 1099511627776 else r5 else r6) (0) r4)with|G=>G|V r7=>RP r7 (λ_=>G) (V (r7.t9))
def e38:=eL vp 38 O (lc (qg 26) (lc (qg 29) (lc (ql 34) ln))) d38 (λg=>m38 g.1 g.2.1 g.t.1)
def avZ:EO e38:=λh=>kL (an:=(noTwo (noTwo (noTwo (noTwo (noTwo (.two (noTwo (afE.lp V4 .no)) .no))))))) (l:=[(bk f38 0,(afE.lp V4 .no))]) func38 (anD (pP (FO (acY aV)))) (aA (aO afE) aH) h
def Zf(a:aK):Int:=open Classical in if NV a then bY a else 0
def X9(a:aK):YH a=V (Zf a):=by
 unfold Zf;by_cases h:NV a
 ·rw[bB h,si h]
 ·rw[bL h,amO h]
def XW(a:aK):Eh a=V (Zf a):=by
 unfold Zf;by_cases h:NV a
 ·rw[bB h,eE h]
 ·rw[bL h,alk h]
def jI(pub:af Int)(i:Nat)(x:bh):Int:=bif vn (pub[i]! <x.ah)then 3 else bif vn (x.ag<pub[i]!)then 3 else 0
def o8(box:af aK)(i:Nat)(x:bh):Int:=bif bif Z2 box[i]! then O else J then 1 else bif vn (@Eq Int (Zf box[i]!) 0)then 1 else bif vn (box[i]!.ah<x.ah)then 3 else bif vn (x.ag<box[i]!.ag)then 3 else 0
def ei(vars:af bh):af bh:=vars.filter (kd 1)++vars.filter (kd 3)
def Bn(f:aS)(v:bU)(box:af aK):Int:=
 if qT f≠0 then qT f else if zY v.bz≠(f.ai.filter (kd 2)).length then 1 else if cu (jI v.bz) (f.ai.filter (kd 2)) 0≠0 then cu (jI v.bz) (f.ai.filter (kd 2)) 0
 else if zY box≠(ei f.ai).length then 2 else cu (o8 box) (ei f.ai) 0
def Dm{vars:af bh}{i:Nat}(h:i<zY vars)(k:Int):(vars.take (i+1)).filter (kd k)=(vars.take i).filter (kd k)++(if vars[i]!.bS=k then[vars[i]!]else[]):=by
 rw[bE h,xh];by_cases hk:vars[i]!.bS=k
 ·rw[bB hk];simp only[yV,xY,kd,hk,DB,cW]
 ·rw[bL hk];simp only[yV,xY,kd,hk,Ej,yy,IY]
def Gc{vars:af bh}(k:Int)(i:Nat):zY ((vars.take i).filter (kd k))<=i:=kf vars k i
def aa5(f:aS)(hl:zY f.ai<=1000000)(v:bU)(box:af aK):W7 ⟨box,[],f.ai,(zY f.ai:Int),0,f,v⟩=V ⟨box,f.ai.filter (kd 2),f.ai,(zY f.ai:Int),(zY f.ai:Int),f,v⟩:=by
 obtain⟨b,e1,hI⟩:=cS (rnd:=YK) (zY f.ai) (λi (b:af bh)=>⟨box,b,f.ai,(zY f.ai:Int),(i:Int),f,v⟩) (λi b=>b=(f.ai.take i).filter (kd 2)) (λi b hi hb=>by
  obtain⟨i1,i2,hw⟩:=w3 hi hl;have hlen:zY b<=i:=by rw[hb];exact Gc 2 i
  have hl2:∀x:bh,zY (b++[x])<=1073741824:=λx=>by simp;omega
  refine⟨_,?_,rfl⟩;rw[Dm hi,<-hb];unfold YK Pq;by_cases hk:f.ai[i]!.bS=2
  ·simp only[cG,i1,i2,hk,hl2,hw,cK,cW]
  ·simp only[cG,cD,gK,i1,i2,hk,hw,yu]) (λb _=>by unfold YK Pq;simp) (b:=[]) (by simp)
 rw[zy]at hI;rw[<-hI];exact e1
def RL(f:aS)(hl:zY f.ai<=1000000)(v:bU)(box:af aK)(t8 acc:af bh)(ha:zY acc<=1000000)(k:Int)(ks:af Int)(n j:Int):
  PK ⟨box,t8,acc,k,ks,n,j,f.ai,(zY f.ai:Int),0,f,v⟩=V ⟨box,t8,acc++f.ai.filter (kd k),k,ks,n,j,f.ai,(zY f.ai:Int),(zY f.ai:Int),f,v⟩:=by
 obtain⟨b,e1,hI⟩:=cS (rnd:=VR) (zY f.ai) (λi (b:af bh)=>⟨box,t8,acc++b,k,ks,n,j,f.ai,(zY f.ai:Int),(i:Int),f,v⟩) (λi b=>b=(f.ai.take i).filter (kd k)) (λi b hi hb=>by
  obtain⟨i1,i2,hw⟩:=w3 hi hl;have hlen:zY b<=i:=by rw[hb];exact Gc k i
  have hl2:∀x:bh,zY (acc++(b++[x]))<=1073741824:=λx=>by simp;omega
  refine⟨_,?_,rfl⟩;rw[Dm hi,<-hb];unfold VR DK;by_cases hk:f.ai[i]!.bS=k
  ·simp only[cG,i1,i2,hk,hl2,hw,cK,cW,yS]
  ·simp only[cG,cD,gK,i1,i2,hk,hw,yu]) (λb _=>by unfold VR DK;simp) (b:=[]) (by simp)
 have e1':PK ⟨box,t8,acc,k,ks,n,j,f.ai,(zY f.ai:Int),0,f,v⟩=V ⟨box,t8,acc++b,k,ks,n,j,f.ai,(zY f.ai:Int),(zY f.ai:Int),f,v⟩:=by
  have:=e1;rw[yu]at this;exact this
 simp_all
def acC(f:aS)(hl:zY f.ai<=1000)(v:bU)(box:af aK)(t8:af bh):
  Rn ⟨box,t8,[],[1,3],2,0,f,v⟩=V ⟨box,t8,ei f.ai,[1,3],2,2,f,v⟩:=by
 have h1:zY (f.ai.filter (kd 1))<=1000:=zG (yq _ _) hl;have e1:=RL f au v box t8 [] (by simp) 1 [1,3] 2 0;have e2:=RL f au v box t8 (f.ai.filter (kd 1)) au 3 [1,3] 2 1;rw[yB]at e1;have w1:ak ((0:Int)+1)=1:=by decide
 have w2:ak ((1:Int)+1)=2:=by decide
 unfold Rn ei;rw[bP (p':=⟨box,t8,f.ai.filter (kd 1),[1,3],2,1,f,v⟩)]
 ·rw[bP (p':=⟨box,t8,f.ai.filter (kd 1)++f.ai.filter (kd 3),[1,3],2,2,f,v⟩)]
  ·exact cn (λr=>by unfold VG Ka DK;simp)
  ·unfold VG Ka DK;dsimp only;rw[bX (by decide),cK,bB (by decide),bB (by decide)];rw[show ([1,3]:af Int)[zq 1]! =3 from rfl,e2];dsimp only;rw[fD,ct,w2]
 ·unfold VG Ka DK;dsimp only;rw[bX (by decide),cK,bB (by decide),bB (by decide)];rw[show ([1,3]:af Int)[zq 0]! =1 from rfl,e1];dsimp only;rw[fD,ct,w1]
def ak1(L:af bh)(hl:zY L<=1000000)(v:bU)(hv:zY v.bz=zY L)(box:af aK)(t9:af bh):
  ∃i,XP ⟨box,t9,L,(zY L:Int),0,v⟩=V ⟨box,t9,L,(zY L:Int),(i:Nat),v⟩/\((i=zY L/\cu (jI v.bz) L 0=0)\/(i<zY L/\jI v.bz i L[i]!≠0/\cu (jI v.bz) L 0=jI v.bz i L[i]!)):=
 ux (rnd:=RM) L (λi=>⟨box,t9,L,(zY L:Int),(i:Nat),v⟩) (jI v.bz) (λi hi=>by
  obtain⟨i1,i2,hw⟩:=w3 hi hl;have i3:(i:Int)<(zY v.bz:Int):=au;have key:RM ⟨box,t9,L,(zY L:Int),(i:Nat),v⟩=if jI v.bz i L[i]! =0 then V (V ⟨box,t9,L,(zY L:Int),((i+1:Nat):Int),v⟩)else V G:=by
   unfold RM Qe jI;simp only[zg,i1,i3,hi,hw];cases vn (v.bz[i]! <L[i]!.ah)<;>cases vn (L[i]!.ag<v.bz[i]!)<;>simp
  exact⟨λh=>by rw[key,bB h],λh=>by rw[key,bL h]⟩) (by unfold RM Qe;simp)
def an9(L:af bh)(hl:zY L<=1000000)(box:af aK)(hv:zY box=zY L):
  ∃i,YZ ⟨box,L,(zY L:Int),0⟩=V ⟨box,L,(zY L:Int),(i:Nat)⟩/\((i=zY L/\cu (o8 box) L 0=0)\/(i<zY L/\o8 box i L[i]!≠0/\cu (o8 box) L 0=o8 box i L[i]!)):=
 ux (rnd:=Rz) L (λi=>⟨box,L,(zY L:Int),(i:Nat)⟩) (o8 box) (λi hi=>by
  obtain⟨i1,i2,hw⟩:=w3 hi hl;have i3:(i:Int)<(zY box:Int):=au;have key:Rz ⟨box,L,(zY L:Int),(i:Nat)⟩=if o8 box i L[i]! =0 then V (V ⟨box,L,(zY L:Int),((i+1:Nat):Int)⟩)else V G:=by
   unfold Rz Oq o8;simp only[zg,i1,i3,hi,hw,eV,X9];cases Z2 box[i]! <;>cases vn (@Eq Int (Zf box[i]!) 0)<;>cases vn (box[i]!.ah<L[i]!.ah)<;>cases vn (L[i]!.ag<box[i]!.ag)<;>simp
  exact⟨λh=>by rw[key,bB h],λh=>by rw[key,bL h]⟩) (by unfold Rz Oq;simp)
def azm{f:aS}(h:fK f.bM+kS (f.ax.map (·.aF))<=900)(hh:zY f.ax<=1000)(hl:zY f.ai<=1000)(v:bU)(box:af aK):m79 f v box=V (Bn f v box):=by
 have l2:zY (f.ai.filter (kd 2))<=1000:=zG (yq _ _) hl;have l3:zY (ei f.ai)<=2000:=by
  have a1:zY (f.ai.filter (kd 1))<=1000:=zG (yq _ _) hl;have a3:zY (f.ai.filter (kd 3))<=1000:=zG (yq _ _) hl;unfold ei;rw[zh];omega
 unfold m79 Pq Ka Qe Oq DK Bn;rw[W6 f h au au];dsimp only;by_cases hc:qT f=0
 case neg=>rw[bW hc,bB hc];rfl
 rw[bX hc,bL (by simpa using hc)];rw[aa5 f au];dsimp only;rw[fD,ct];rw[acC f hl];dsimp only;rw[fD,ct];by_cases hp:zY v.bz=zY (f.ai.filter (kd 2))
 case neg=>rw[fD,bB hp];rfl
 rw[oV,bL (by simpa using hp)];obtain⟨i,e3,k3⟩:=ak1 (f.ai.filter (kd 2)) au v hp box (ei f.ai);rw[e3];dsimp only;rcases k3 with ⟨rfl,k3⟩|⟨i1,i2,i3⟩
 case inr=>
  rw[bB (show cu (jI v.bz) (f.ai.filter (kd 2)) 0≠0 by rw[i3];exact i2),i3];have j1:(i:Int)<(zY (f.ai.filter (kd 2)):Int):=au;have j2:(0:Int)<=(i:Int):=au;have j3:(i:Int)<(zY v.bz:Int):=au;simp only[zg,j1,j3,i1];revert i2;unfold jI;cases vn (v.bz[i]! <(f.ai.filter (kd 2))[i]!.ah)<;>cases vn ((f.ai.filter (kd 2))[i]!.ag<v.bz[i]!)<;>simp
 rw[fD,ct,bL (show ¬cu (jI v.bz) (f.ai.filter (kd 2)) 0≠0 by rw[k3];simp)];by_cases hb:zY box=zY (ei f.ai)
 case neg=>rw[fD,bB hb];rfl
 rw[oV,bL (by simpa using hb)];simp only[cD];obtain⟨i,e4,k4⟩:=an9 (ei f.ai) au box hb;rw[e4];dsimp only;rcases k4 with ⟨rfl,k4⟩|⟨i1,i2,i3⟩
 ·rw[fD,ct,k4]
 ·rw[i3];have j1:(i:Int)<(zY (ei f.ai):Int):=au;have j2:(0:Int)<=(i:Int):=au;have j3:(i:Int)<(zY box:Int):=au;simp only[zg,j1,j3,i1,eV,X9];revert i2;unfold o8;cases Z2 box[i]! <;>cases vn (@Eq Int (Zf box[i]!) 0)<;>cases vn (box[i]!.ah<(ei f.ai)[i]!.ah)<;>cases vn ((ei f.ai)[i]!.ag<box[i]!.ag)<;>simp
def FR(f:aS)(hl:zY f.ai<=1000000)(v:bU)(box:af aK)(t8 t9:af bh)(h8:zY t8<=1000000)(h9:zY t9<=1000000)(k:Int)(ks:af Int)(n j:Int):
  VC ⟨box,t8,t9,k,ks,n,j,f.ai,(zY f.ai:Int),0,f,v⟩=V ⟨box,if k=2 then t8++f.ai.filter (kd k)else t8,if k=2 then t9 else t9++f.ai.filter (kd k),k,ks,n,j,f.ai,(zY f.ai:Int),(zY f.ai:Int),f,v⟩:=by
 obtain⟨b,e1,hI⟩:=cS (rnd:=Wq) (zY f.ai) (λi (b:af bh)=>⟨box,if k=2 then t8++b else t8,if k=2 then t9 else t9++b,k,ks,n,j,f.ai,(zY f.ai:Int),(i:Int),f,v⟩) (λi b=>b=(f.ai.take i).filter (kd k)) (λi b hi hb=>by
  obtain⟨i1,i2,hw⟩:=w3 hi hl;have hlen:zY b<=i:=by rw[hb];exact Gc k i
  have hl2:∀x:bh,zY (t8++(b++[x]))<=1073741824:=λx=>by simp;omega
  have hl3:∀x:bh,zY (t9++(b++[x]))<=1073741824:=λx=>by simp;omega
  refine⟨_,?_,rfl⟩;rw[Dm hi,<-hb];unfold Wq AH;by_cases hk:f.ai[i]!.bS=k
  ·by_cases h2:k=2
   ·simp only[cG,i1,i2,hk,h2,hl2,hw,cK,cW,yS]
   ·simp only[cG,cD,gK,i1,i2,hk,h2,hl3,hw,yS]
  ·simp only[cG,cD,gK,i1,i2,hk,hw,yu]) (λb _=>by unfold Wq AH;simp) (b:=[]) (by simp)
 rw[zy]at hI;rw[<-hI];have e1':=e1;rw[yu,yu,ite_self,ite_self]at e1';exact e1'
def afW(f:aS)(hl:zY f.ai<=1000)(v:bU)(box:af aK):
  P5 ⟨box,[],[],[1,3,2],3,0,f,v⟩=V ⟨box,f.ai.filter (kd 2),ei f.ai,[1,3,2],3,3,f,v⟩:=by
 have h1:zY (f.ai.filter (kd 1))<=1000:=zG (yq _ _) hl;have h3:zY (f.ai.filter (kd 3))<=1000:=zG (yq _ _) hl;have e1:=FR f au v box [] [] (by simp) (by simp) 1 [1,3,2] 3 0;have e2:=FR f au v box [] (f.ai.filter (kd 1)) (by simp) au 3 [1,3,2] 3 1;have e3:=FR f au v box [] (ei f.ai) (by simp) (by unfold ei;rw[zh];omega) 2 [1,3,2] 3 2;simp only[gK,yB,Int.reduceEq]at e1 e2 e3;have w1:ak ((0:Int)+1)=1:=by decide
 have w2:ak ((1:Int)+1)=2:=by decide
 have w3:ak ((2:Int)+1)=3:=by decide
 unfold P5;rw[bP (p':=⟨box,[],f.ai.filter (kd 1),[1,3,2],3,1,f,v⟩)]
 ·rw[bP (p':=⟨box,[],ei f.ai,[1,3,2],3,2,f,v⟩)]
  ·rw[bP (p':=⟨box,f.ai.filter (kd 2),ei f.ai,[1,3,2],3,3,f,v⟩)]
   ·exact cn (λr=>by unfold ON HF AH;simp)
   ·unfold ON HF AH;dsimp only;rw[bX (by decide),cK,bB (by decide),bB (by decide)];rw[show ([1,3,2]:af Int)[zq 2]! =2 from rfl,e3];dsimp only;rw[fD,ct,w3]
  ·unfold ON HF AH;dsimp only;rw[bX (by decide),cK,bB (by decide),bB (by decide)];rw[show ([1,3,2]:af Int)[zq 1]! =3 from rfl,e2];dsimp only;rw[fD,ct,w2];rfl
 ·unfold ON HF AH;dsimp only;rw[bX (by decide),cK,bB (by decide),bB (by decide)];rw[show ([1,3,2]:af Int)[zq 0]! =1 from rfl,e1];dsimp only;rw[fD,ct,w1]
def ahv(L:af bh)(hl:zY L<=1000000)(v:bU)(hv:zY v.bz=zY L)(box:af aK)(t9:af bh):
  ∃i,WW ⟨box,t9,L,(zY L:Int),0,v⟩=V ⟨box,t9,L,(zY L:Int),(i:Nat),v⟩/\((i=zY L/\cu (jI v.bz) L 0=0)\/(i<zY L/\jI v.bz i L[i]!≠0/\cu (jI v.bz) L 0=jI v.bz i L[i]!)):=
 ux (rnd:=O1) L (λi=>⟨box,t9,L,(zY L:Int),(i:Nat),v⟩) (jI v.bz) (λi hi=>by
  obtain⟨i1,i2,hw⟩:=w3 hi hl;have i3:(i:Int)<(zY v.bz:Int):=au;have key:O1 ⟨box,t9,L,(zY L:Int),(i:Nat),v⟩=if jI v.bz i L[i]! =0 then V (V ⟨box,t9,L,(zY L:Int),((i+1:Nat):Int),v⟩)else V G:=by
   unfold O1 Rt jI;simp only[zg,i1,i3,hi,hw];cases vn (v.bz[i]! <L[i]!.ah)<;>cases vn (L[i]!.ag<v.bz[i]!)<;>simp
  exact⟨λh=>by rw[key,bB h],λh=>by rw[key,bL h]⟩) (by unfold O1 Rt;simp)
def am6(L:af bh)(hl:zY L<=1000000)(box:af aK)(hv:zY box=zY L):
  ∃i,XB ⟨box,L,(zY L:Int),0⟩=V ⟨box,L,(zY L:Int),(i:Nat)⟩/\((i=zY L/\cu (o8 box) L 0=0)\/(i<zY L/\o8 box i L[i]!≠0/\cu (o8 box) L 0=o8 box i L[i]!)):=
 ux (rnd:=N8) L (λi=>⟨box,L,(zY L:Int),(i:Nat)⟩) (o8 box) (λi hi=>by
  obtain⟨i1,i2,hw⟩:=w3 hi hl;have i3:(i:Int)<(zY box:Int):=au;have key:N8 ⟨box,L,(zY L:Int),(i:Nat)⟩=if o8 box i L[i]! =0 then V (V ⟨box,L,(zY L:Int),((i+1:Nat):Int)⟩)else V G:=by
   unfold N8 Rb o8;simp only[zg,i1,i3,hi,hw,fW,XW];cases Z2 box[i]! <;>cases vn (@Eq Int (Zf box[i]!) 0)<;>cases vn (box[i]!.ah<L[i]!.ah)<;>cases vn (L[i]!.ag<box[i]!.ag)<;>simp
  exact⟨λh=>by rw[key,bB h],λh=>by rw[key,bL h]⟩) (by unfold N8 Rb;simp)
def azN{f:aS}(h:fK f.bM+kS (f.ax.map (·.aF))<=900)(hh:zY f.ax<=1000)(hl:zY f.ai<=1000)(v:bU)(box:af aK):m21 f v box=V (Bn f v box):=by
 have l2:zY (f.ai.filter (kd 2))<=1000:=zG (yq _ _) hl;have l3:zY (ei f.ai)<=2000:=by
  have a1:zY (f.ai.filter (kd 1))<=1000:=zG (yq _ _) hl;have a3:zY (f.ai.filter (kd 3))<=1000:=zG (yq _ _) hl;unfold ei;rw[zh];omega
 unfold m21 HF Rt Rb AH Bn;rw[afv f h au au];dsimp only;by_cases hc:qT f=0
 case neg=>rw[bW hc,bB hc];rfl
 rw[bX hc,bL (by simpa using hc)];rw[afW f hl v box];dsimp only;rw[fD,ct];by_cases hp:zY v.bz=zY (f.ai.filter (kd 2))
 case neg=>rw[fD,bB hp];rfl
 rw[oV,bL (by simpa using hp)];obtain⟨i,e3,k3⟩:=ahv (f.ai.filter (kd 2)) au v hp box (ei f.ai);rw[e3];dsimp only;rcases k3 with ⟨rfl,k3⟩|⟨i1,i2,i3⟩
 case inr=>
  rw[bB (show cu (jI v.bz) (f.ai.filter (kd 2)) 0≠0 by rw[i3];exact i2),i3];have j1:(i:Int)<(zY (f.ai.filter (kd 2)):Int):=au;have j2:(0:Int)<=(i:Int):=au;have j3:(i:Int)<(zY v.bz:Int):=au;simp only[zg,j1,j3,i1];revert i2;unfold jI;cases vn (v.bz[i]! <(f.ai.filter (kd 2))[i]!.ah)<;>cases vn ((f.ai.filter (kd 2))[i]!.ag<v.bz[i]!)<;>simp
 rw[fD,ct,bL (show ¬cu (jI v.bz) (f.ai.filter (kd 2)) 0≠0 by rw[k3];simp)];by_cases hb:zY box=zY (ei f.ai)
 case neg=>rw[fD,bB hb];rfl
 rw[oV,bL (by simpa using hb)];simp only[cD];obtain⟨i,e4,k4⟩:=am6 (ei f.ai) au box hb;rw[e4];dsimp only;rcases k4 with ⟨rfl,k4⟩|⟨i1,i2,i3⟩
 ·rw[fD,ct,k4]
 ·rw[i3];have j1:(i:Int)<(zY (ei f.ai):Int):=au;have j2:(0:Int)<=(i:Int):=au;have j3:(i:Int)<(zY box:Int):=au;simp only[zg,j1,j3,i1,fW,XW];revert i2;unfold o8;cases Z2 box[i]! <;>cases vn (@Eq Int (Zf box[i]!) 0)<;>cases vn (box[i]!.ah<(ei f.ai)[i]!.ah)<;>cases vn ((ei f.ai)[i]!.ag<box[i]!.ag)<;>simp
structure Fits (f:aS) (v:bU) (box:List aK):Prop where
 c:qT f=0
 pub:zY v.bz=zY (f.ai.filter (kd 2))
 aGo:∀j,j<zY v.bz->(f.ai.filter (kd 2))[j]!.ah<=v.bz[j]!/\v.bz[j]!<=(f.ai.filter (kd 2))[j]!.ag
 bl:zY box=zY (ei f.ai)
 bx:∀j,j<zY box->NN box[j]!/\(ei f.ai)[j]!.ah<=box[j]!.ah/\box[j]!.ag<=(ei f.ai)[j]!.ag
def BK{f:aS}{v:bU}{box:af aK}(h:Bn f v box=0):Fits f v box:=by
 unfold Bn at h;by_cases hc:qT f=0
 case neg=>rw[bB hc]at h;exact dS h hc
 rw[bL (by simpa using hc)]at h;by_cases hp:zY v.bz=zY (f.ai.filter (kd 2))
 case neg=>rw[bB hp]at h;cases h
 rw[bL (by simpa using hp)]at h;by_cases hf:cu (jI v.bz) (f.ai.filter (kd 2)) 0=0
 case neg=>rw[bB hf]at h;exact dS h hf
 rw[bL (by simpa using hf)]at h;by_cases hb:zY box=zY (ei f.ai)
 case neg=>rw[bB hb]at h;cases h
 rw[bL (by simpa using hb)]at h;refine⟨hc,hp,λj hj=> ?_,hb,λj hj=> ?_⟩
 ·have k:=oI hf j au;rw[yj]at k;unfold jI at k;by_cases c1:v.bz[j]! <(f.ai.filter (kd 2))[j]!.ah
  ·rw[bX c1]at k;cases k
  by_cases c2:(f.ai.filter (kd 2))[j]!.ag<v.bz[j]!
  ·rw[bW c1,bX c2]at k;cases k
  omega
 ·have k:=oI h j au;rw[yj]at k;unfold o8 at k;by_cases c0:NV box[j]!
  case neg=>rw[AB c0]at k;cases k
  rw[dZ c0]at k;by_cases c3:Zf box[j]! =0
  ·rw[bX c3]at k;cases k
  by_cases c1:box[j]!.ah<(ei f.ai)[j]!.ah
  ·rw[bW c3,bX c1]at k;cases k
  by_cases c2:(ei f.ai)[j]!.ag<box[j]!.ag
  ·rw[bW c3,bW c1,bX c2]at k;cases k
  refine⟨c0.nn λe=>c3 ?_,au,au⟩;rw[e];unfold Zf;rw[bB (.inl rfl)];rfl
def abq{f:aS}(h:qT f=0){i:Nat}(hi:i<zY f.ai):(0<=f.ai[i]!.bS/\f.ai[i]!.bS<=3)/\(f.ai[i]!.bS=0->f.ai[i]!.ah<=f.ai[i]!.gJ/\f.ai[i]!.gJ<=f.ai[i]!.ag):=by
 unfold qT at h;by_cases h1:rA f=O
 ·rw[bB h1]at h;exact dS h (by decide)
 rw[bL h1]at h;by_cases hvc:jQ f.ai=0
 case neg=>rw[bB hvc]at h;exact dS h hvc
 unfold jQ at hvc;by_cases h0:cu (nC f.ai) f.ai 0=0
 case neg=>rw[bB h0]at hvc;exact dS hvc h0
 have k:=oI h0 i hi;unfold nC at k;omega
def eH(f:aS)(v:bU)(box:af aK)(i:Nat):aK:=
 if f.ai[i]!.bS=1 then box[cQ f.ai 1 i]! else if f.ai[i]!.bS=2 then eC v.bz[cQ f.ai 2 i]! else if f.ai[i]!.bS=3 then box[cQ f.ai 1 f.ai.length+cQ f.ai 3 i]! else eC f.ai[i]!.gJ
def e9(f:aS)(v:bU)(box:af aK):ay:=⟨tab (zY f.ai) (eH f v box),eC 0,[],eC 0⟩
def NF(vars:af bh):zY (ei vars)=cQ vars 1 vars.length+cQ vars 3 vars.length:=by
 unfold ei;rw[zh,oM,oM]
def Nc{vars:af bh}{k:Int}{i:Nat}(hi:i<zY vars)(hk:vars[i]!.bS=k):cQ vars k i<cQ vars k vars.length:=by
 have c:=gN hi k;have m:=jZ (vars:=vars) (k:=k) (show i+1<=zY vars by omega) (zl _);rw[bB hk]at c;omega
def th{f:aS}{v:bU}{box:af aK}(h:Fits f v box):eO (zY f.ai) 0 (e9 f v box):=by
 have hv:=kK h.c;have hb:=h.bl;rw[NF]at hb;have hp:=h.pub;rw[<-oM]at hp;refine⟨gU ..,λi hi=> ?_,me ⟨by decide,by decide⟩,zl _,λi hi=>dS hi (by simp[e9]),me ⟨by decide,by decide⟩⟩;show NN (tab _ _)[i]!;rw[o5 hi];unfold eH;by_cases k1:f.ai[i]!.bS=1
 ·rw[bB k1];have:=Nc hi k1;exact(h.bx _ au).1
 rw[bL k1];by_cases k2:f.ai[i]!.bS=2
 ·rw[bB k2];have hl:=Nc hi k2;have hj:=h.aGo _ (show cQ f.ai 2 i<zY v.bz by omega);have hm:=bf (l:=f.ai.filter (kd 2)) (i:=cQ f.ai 2 i) (by rw[<-oM];omega);have:=hv _ ((z8.1 hm).1);exact me (by unfold cC;omega)
 rw[bL k2];by_cases k3:f.ai[i]!.bS=3
 ·rw[bB k3];have:=Nc hi k3;exact(h.bx _ au).1
 rw[bL k3];obtain⟨q1,q2⟩:=abq h.c hi;have:=hv _ (bf hi);exact me (by unfold cC;omega)
abbrev A0:bK:=⟨⟨0,0,0⟩,[],⟨0,0,0⟩,[]⟩
def ala{f:aS}(hl:zY f.ai<=1000)(box:af aK)(v:bU)(g:ay):V6 ⟨box,0,0,0,f.ai,(zY f.ai:Int),0,f,v,A0,⟨[],g.aD,[],g.aI⟩⟩=
  V ⟨box,0,0,(cQ f.ai 1 f.ai.length:Int),f.ai,(zY f.ai:Int),(zY f.ai:Int),f,v,A0,⟨[],g.aD,[],g.aI⟩⟩:=by
 obtain⟨b,e1,_⟩:=cS (rnd:=WO) (zY f.ai) (λi (_:Unit)=>⟨box,0,0,(cQ f.ai 1 i:Int),f.ai,(zY f.ai:Int),(i:Int),f,v,A0,⟨[],g.aD,[],g.aI⟩⟩) (λ_ _=>True) (λi b hi _=>by
  obtain⟨i1,i2,hw⟩:=w3 hi au;have c1:=gN hi 1;have l1:=kf f.ai 1 i;have w1:ak ((cQ f.ai 1 i:Int)+1)=((cQ f.ai 1 i+1:Nat):Int):=by rw[aL];omega
  refine⟨(),?_,trivial⟩;unfold WO QU;rw[c1];by_cases hk:f.ai[i]!.bS=1
  ·simp only[cG,i1,i2,hk,hw,w1,cK,cW]
  ·simp only[cG,cD,gK,i1,i2,hk,hw,yg]) (λb _=>by unfold WO QU;simp) (b:=()) trivial
 exact e1
def am7{f:aS}{v:bU}{box:af aK}(h:Fits f v box)(hlv:zY f.ai<=1000)(g:ay):Ww ⟨box,0,0,(cQ f.ai 1 f.ai.length:Int),f.ai,(zY f.ai:Int),0,f,v,A0,⟨[],g.aD,[],g.aI⟩⟩=
  V ⟨box,(cQ f.ai 1 f.ai.length:Int),(cQ f.ai 2 f.ai.length:Int),((cQ f.ai 1 f.ai.length+cQ f.ai 3 f.ai.length:Nat):Int),f.ai,(zY f.ai:Int),(zY f.ai:Int),f,v,A0,⟨tab (zY f.ai) (eH f v box),g.aD,[],g.aI⟩⟩:=by
 have hbx:=h.bl;rw[NF]at hbx;have hp:=h.pub;rw[<-oM]at hp;obtain⟨b,e1,_⟩:=cS (rnd:=VM) (zY f.ai) (λi (_:Unit)=>⟨box,(cQ f.ai 1 i:Int),(cQ f.ai 2 i:Int),((cQ f.ai 1 f.ai.length+cQ f.ai 3 i:Nat):Int),f.ai,(zY f.ai:Int),(i:Int),f,v,A0,⟨tab i (eH f v box),g.aD,[],g.aI⟩⟩) (λi _=>True) (λi b hi _=>by
  obtain⟨i1,i2,hw⟩:=w3 hi au;have c1:=gN hi 1;have c2:=gN hi 2;have c3:=gN hi 3;have m1:=jZ (vars:=f.ai) (k:=1) (show i+1<=zY f.ai by omega) (zl _);have m2:=jZ (vars:=f.ai) (k:=2) (show i+1<=zY f.ai by omega) (zl _);have m3:=jZ (vars:=f.ai) (k:=3) (show i+1<=zY f.ai by omega) (zl _);have l1:=kf f.ai 1 (zY f.ai);have l2:=kf f.ai 2 (zY f.ai);have l3:=kf f.ai 3 (zY f.ai);have hl2:∀x:aK,zY (tab i (eH f v box)++[x])<=1073741824:=λx=>by rw[zh,gU,ym];omega
  refine⟨(),?_,trivial⟩;rw[qQ];unfold VM Q0;rw[c1,c2,c3];by_cases k1:f.ai[i]!.bS=1
  ·have ev:eH f v box i=box[cQ f.ai 1 i]! :=by unfold eH;rw[bB k1]
   rw[k1]at c1 c2 c3 ⊢;simp only[gK,Int.reduceEq,yg]at c1 c2 c3 ⊢;have w1:ak ((cQ f.ai 1 i:Int)+1)=((cQ f.ai 1 i+1:Nat):Int):=by rw[aL];omega
   have j1:(cQ f.ai 1 i:Int)<(zY box:Int):=au;have j2:(0:Int)<=(cQ f.ai 1 i:Int):=au;simp only[cG,i1,i2,j1,j2,cK,cW,k1,hl2,hw,w1,ev]
  by_cases k2:f.ai[i]!.bS=2
  ·have ev:eH f v box i=eC v.bz[cQ f.ai 2 i]! :=by unfold eH;rw[bL k1,bB k2]
   rw[k2]at c1 c2 c3 ⊢;simp only[gK,Int.reduceEq,yg]at c1 c2 c3 ⊢;have w1:ak ((cQ f.ai 2 i:Int)+1)=((cQ f.ai 2 i+1:Nat):Int):=by rw[aL];omega
   have j1:(cQ f.ai 2 i:Int)<(zY v.bz:Int):=au;have j2:(0:Int)<=(cQ f.ai 2 i:Int):=au;simp only[cG,cD,i1,i2,j1,j2,k2,Int.reduceEq,cW,hl2,hw,w1,sY,ev]
  by_cases k3:f.ai[i]!.bS=3
  ·have ev:eH f v box i=box[cQ f.ai 1 f.ai.length+cQ f.ai 3 i]! :=by unfold eH;rw[bL k1,bL k2,bB k3]
   rw[k3]at c1 c2 c3 ⊢;simp only[gK,Int.reduceEq,yg]at c1 c2 c3 ⊢;have w1:ak (((cQ f.ai 1 f.ai.length+cQ f.ai 3 i:Nat):Int)+1)=((cQ f.ai 1 f.ai.length+(cQ f.ai 3 i+1):Nat):Int):=by rw[aL];omega
   have j1:((cQ f.ai 1 f.ai.length+cQ f.ai 3 i:Nat):Int)<(zY box:Int):=au;have j2:(0:Int)<=((cQ f.ai 1 f.ai.length+cQ f.ai 3 i:Nat):Int):=au;simp only[cG,cD,i1,i2,j1,j2,k3,Int.reduceEq,cW,hl2,hw,w1,ev]
  ·have ev:eH f v box i=eC f.ai[i]!.gJ:=by unfold eH;rw[bL k1,bL k2,bL k3]
   rw[bL k1,bL k2,bL k3];simp only[cG,cD,i1,i2,k1,k2,k3,cW,hl2,hw,sY,ev,yg]) (λb _=>by unfold VM Q0;simp) (b:=()) trivial
 exact e1
def aaJ(f:aS)(s:ay)(h:dN):aK:=jb (cI s.ai h.aF) h.ah h.ag
def qz(f:aS)(s:ay):af aK:=f.ax.map (aaJ f s)
def aoa{f:aS}(hf:Ru f){s:ay}{m:Nat}(hs:eO (zY f.ai) m s){i:Nat}(hi:i<zY f.ax):NN (aaJ f s f.ax[i]!):=by
 obtain⟨_,_,_,k,_⟩:=iz (iT hs f.ax[i]!.aF (hf.hat i hi).2) f.ax[i]!.ah f.ax[i]!.ag;exact k
def Es{f:aS}(hf:Ru f){s:ay}{m:Nat}(hs:eO (zY f.ai) m s):∀i,i<zY (qz f s)->NN (qz f s)[i]! :=λi hi=>by
 have hi:i<zY f.ax:=by simpa [qz]using hi
 unfold qz;rw[getElem!_pos _ i (by simpa using hi),yM,<-getElem!_pos f.ax i hi];exact aoa hf hs hi
def agL{f:aS}(hf:Ru f)(hlh:zY f.ax<=1000)(v:bU){s:ay}(hs:eO (zY f.ai) 0 s):QE ⟨f.ax,(zY f.ax:Int),0,f,v,A0,s,⟨f,[]⟩⟩=
  V ⟨f.ax,(zY f.ax:Int),(zY f.ax:Int),f,v,A0,s,⟨f,qz f s⟩⟩:=by
 have hsl:s.aG=[]:=xg (Nat.le_zero.1 hs.sl);have es:(⟨s.ai,s.aD,[],s.aI⟩:ay)=s:=by rw[<-hsl]
 obtain⟨b,e1,_⟩:=cS (rnd:=VX) (zY f.ax) (λi (_:Unit)=>⟨f.ax,(zY f.ax:Int),(i:Int),f,v,A0,s,⟨f,(f.ax.take i).map (aaJ f s)⟩⟩) (λi _=>True) (λi b hi _=>by
  obtain⟨i1,i2,hw⟩:=w3 hi au;obtain⟨q1,q2⟩:=hf.hat i hi;have ev:=Pf hs q2;obtain⟨c,hcl,_,_,_⟩:=iz (iT hs f.ax[i]!.aF q2) f.ax[i]!.ah f.ax[i]!.ag;have hl2:∀x:aK,zY ((f.ax.take i).map (aaJ f s)++[x])<=1073741824:=λx=>by simp;omega
  refine⟨(),?_,trivial⟩;rw[bE hi,zO];unfold VX O5;simp only[zg,i1,az.eta,es,ev,hcl,hl2,hw];rfl) (λb _=>by unfold VX O5;simp) (b:=()) trivial
 rw[zy]at e1;exact e1
def I5(f:aS)(v:bU)(box:af aK):ay:=gY f (qz f (e9 f v box)) f.bM (e9 f v box)
def fA(f:aS)(v:bU)(box:af aK):bK:=
 ⟨(I5 f v box).aD,(I5 f v box).aG,if v.iJ=J then(I5 f v box).aI else eC 0,(I5 f v box).ai⟩
def aqU{f:aS}{v:bU}{box:af aK}(h:fK f.bM+kS (f.ax.map (·.aF))<=900)(hh:zY f.ax<=1000)(hl:zY f.ai<=1000):m20 f v box=V (if Bn f v box=0 then(fA f v box,0)else(A0,Bn f v box)):=by
 unfold m20 QU Q0 O5;rw[azm h hh hl];dsimp only;by_cases hc:Bn f v box=0
 case neg=>rw[bW hc,bL hc];rfl
 have hfit:=BK hc;have hf:=L3 hfit.c;have h0:=th hfit;have e0:=ala hl box v ⟨[],eC 0,[],eC 0⟩;have e1:=am7 hfit hl ⟨[],eC 0,[],eC 0⟩;have e2:=agL hf hh v h0;have ho:eF f.bM<=8:=by have:=hf.o;unfold eF;omega
 have e3:r83 ⟨f,qz f (e9 f v box)⟩ f.bM (e9 f v box)=V (I5 f v box):=
  aBP (r:=⟨f,qz f (e9 f v box)⟩) (top:=J) (by show zY f.ai<=_;omega) (by simp[qz]) (Es hf h0) au hf.steps h0 au
 rw[bX hc,bB hc];simp only[ct,sY];rw[e0];dsimp only;rw[fD,ct,e1];dsimp only;rw[fD,ct];have e2':QE ⟨f.ax,(zY f.ax:Int),0,f,v,⟨⟨0,0,0⟩,[],⟨0,0,0⟩,[]⟩,⟨tab (zY f.ai) (eH f v box),eC 0,[],eC 0⟩,⟨f,[]⟩⟩=_:=e2;rw[e2'];dsimp only;rw[fD,ct];have e3':r83 ⟨f,qz f (e9 f v box)⟩ f.bM ⟨(e9 f v box).ai,(e9 f v box).aD,[],(e9 f v box).aI⟩=_:=e3;rw[e3'];unfold fA;cases v.iJ<;>rfl
abbrev Z3:aJ:=⟨[],⟨0,0,0⟩,[],⟨0,0,0⟩⟩
def aiO{f:aS}(hl:zY f.ai<=1000)(box:af aK)(v:bU):Xj ⟨box,0,f.ai,(zY f.ai:Int),0,f,v,Z3,Z3⟩=
  V ⟨box,(cQ f.ai 1 f.ai.length:Int),f.ai,(zY f.ai:Int),(zY f.ai:Int),f,v,Z3,Z3⟩:=by
 obtain⟨b,e1,_⟩:=cS (rnd:=YV) (zY f.ai) (λi (_:Unit)=>⟨box,(cQ f.ai 1 i:Int),f.ai,(zY f.ai:Int),(i:Int),f,v,Z3,Z3⟩) (λ_ _=>True) (λi b hi _=>by
  obtain⟨i1,i2,hw⟩:=w3 hi au;have c1:=gN hi 1;have l1:=kf f.ai 1 i;have w1:ak ((cQ f.ai 1 i:Int)+1)=((cQ f.ai 1 i+1:Nat):Int):=by rw[aL];omega
  refine⟨(),?_,trivial⟩;unfold YV PF;rw[c1];by_cases hk:f.ai[i]!.bS=1
  ·simp only[cG,i1,i2,hk,hw,w1,cK,cW]
  ·simp only[cG,cD,gK,i1,i2,hk,hw,yg]) (λb _=>by unfold YV PF;simp) (b:=()) trivial
 exact e1
def aka{f:aS}{v:bU}{box:af aK}(h:Fits f v box)(hlv:zY f.ai<=1000):V7 ⟨box,0,(cQ f.ai 1 f.ai.length:Int),0,f.ai,(zY f.ai:Int),0,v,Z3,Z3⟩=
  V ⟨box,(cQ f.ai 1 f.ai.length:Int),((cQ f.ai 1 f.ai.length+cQ f.ai 3 f.ai.length:Nat):Int),(cQ f.ai 2 f.ai.length:Int),f.ai,(zY f.ai:Int),(zY f.ai:Int),v,Z3,⟨tab (zY f.ai) (eH f v box),⟨0,0,0⟩,[],⟨0,0,0⟩⟩⟩:=by
 have hbx:=h.bl;rw[NF]at hbx;have hp:=h.pub;rw[<-oM]at hp;obtain⟨b,e1,_⟩:=cS (rnd:=Yr) (zY f.ai) (λi (_:Unit)=>⟨box,(cQ f.ai 1 i:Int),((cQ f.ai 1 f.ai.length+cQ f.ai 3 i:Nat):Int),(cQ f.ai 2 i:Int),f.ai,(zY f.ai:Int),(i:Int),v,Z3,⟨tab i (eH f v box),⟨0,0,0⟩,[],⟨0,0,0⟩⟩⟩) (λi _=>True) (λi b hi _=>by
  obtain⟨i1,i2,hw⟩:=w3 hi au;have c1:=gN hi 1;have c2:=gN hi 2;have c3:=gN hi 3;have m1:=jZ (vars:=f.ai) (k:=1) (show i+1<=zY f.ai by omega) (zl _);have m2:=jZ (vars:=f.ai) (k:=2) (show i+1<=zY f.ai by omega) (zl _);have m3:=jZ (vars:=f.ai) (k:=3) (show i+1<=zY f.ai by omega) (zl _);have l1:=kf f.ai 1 (zY f.ai);have l2:=kf f.ai 2 (zY f.ai);have l3:=kf f.ai 3 (zY f.ai);have hl2:∀x:aK,zY (tab i (eH f v box)++[x])<=1073741824:=λx=>by rw[zh,gU,ym];omega
  refine⟨(),?_,trivial⟩;rw[qQ];unfold Yr Rg;dsimp only;rw[c1,c2,c3];by_cases k1:f.ai[i]!.bS=1
  ·have ev:eH f v box i=box[cQ f.ai 1 i]! :=by unfold eH;rw[bB k1]
   rw[k1]at c1 c2 c3 ⊢;simp only[gK,Int.reduceEq,yg]at c1 c2 c3 ⊢;have w1:ak ((cQ f.ai 1 i:Int)+1)=((cQ f.ai 1 i+1:Nat):Int):=by rw[aL];omega
   have j1:(cQ f.ai 1 i:Int)<(zY box:Int):=au;have j2:(0:Int)<=(cQ f.ai 1 i:Int):=au;simp only[cG,i1,i2,j1,j2,cK,cW,k1,hl2,hw,w1,ev]
  by_cases k2:f.ai[i]!.bS=2
  ·have ev:eH f v box i=eC v.bz[cQ f.ai 2 i]! :=by unfold eH;rw[bL k1,bB k2]
   rw[k2]at c1 c2 c3 ⊢;simp only[gK,Int.reduceEq,yg]at c1 c2 c3 ⊢;have w1:ak ((cQ f.ai 2 i:Int)+1)=((cQ f.ai 2 i+1:Nat):Int):=by rw[aL];omega
   have j1:(cQ f.ai 2 i:Int)<(zY v.bz:Int):=au;have j2:(0:Int)<=(cQ f.ai 2 i:Int):=au;simp only[cG,cD,i1,i2,j1,j2,k2,Int.reduceEq,cW,hl2,hw,w1,Ff,ev]
  by_cases k3:f.ai[i]!.bS=3
  ·have ev:eH f v box i=box[cQ f.ai 1 f.ai.length+cQ f.ai 3 i]! :=by unfold eH;rw[bL k1,bL k2,bB k3]
   rw[k3]at c1 c2 c3 ⊢;simp only[gK,Int.reduceEq,yg]at c1 c2 c3 ⊢;have w1:ak (((cQ f.ai 1 f.ai.length+cQ f.ai 3 i:Nat):Int)+1)=((cQ f.ai 1 f.ai.length+(cQ f.ai 3 i+1):Nat):Int):=by rw[aL];omega
   have j1:((cQ f.ai 1 f.ai.length+cQ f.ai 3 i:Nat):Int)<(zY box:Int):=au;have j2:(0:Int)<=((cQ f.ai 1 f.ai.length+cQ f.ai 3 i:Nat):Int):=au;simp only[cG,cD,i1,i2,j1,j2,k3,Int.reduceEq,cW,hl2,hw,w1,ev]
  ·have ev:eH f v box i=eC f.ai[i]!.gJ:=by unfold eH;rw[bL k1,bL k2,bL k3]
   rw[bL k1,bL k2,bL k3];simp only[cG,cD,i1,i2,k1,k2,k3,cW,hl2,hw,Ff,ev,yg]) (λb _=>by unfold Yr Rg;simp) (b:=()) trivial
 exact e1
def aAW{f:aS}{v:bU}{box:af aK}(h:Fits f v box)(hlv:zY f.ai<=1000):m85 f v box=V (tr (e9 f v box)):=by
 have e0:=aiO hlv box v;have e1:=aka h hlv;unfold m85 PF Rg;dsimp only[Z3]at e0 e1;rw[e0];dsimp only;rw[fD,ct,e1];dsimp only;rw[fD,ct];rfl
def anw{f:aS}(hf:Ru f)(hlh:zY f.ax<=1000)(v:bU){s:ay}(hs:eO (zY f.ai) 0 s):QT ⟨[],f.ax,(zY f.ax:Int),0,f,v,A0,tr s⟩=
  V ⟨qz f s,f.ax,(zY f.ax:Int),(zY f.ax:Int),f,v,A0,tr s⟩:=by
 have hsl:s.aG=[]:=xg (Nat.le_zero.1 hs.sl);have es:(⟨(tr s).ai,(tr s).aD,[],(tr s).aI⟩:aJ)=tr s:=by unfold tr;rw[<-hsl]
 obtain⟨b,e1,_⟩:=cS (rnd:=VL) (zY f.ax) (λi (_:Unit)=>⟨(f.ax.take i).map (aaJ f s),f.ax,(zY f.ax:Int),(i:Int),f,v,A0,tr s⟩) (λi _=>True) (λi b hi _=>by
  obtain⟨i1,i2,hw⟩:=w3 hi au;obtain⟨q1,q2⟩:=hf.hat i hi;have ev:=Wo hs f.ax[i]!.aF q2;obtain⟨c,_,hcl,_,_⟩:=iz (iT hs f.ax[i]!.aF q2) f.ax[i]!.ah f.ax[i]!.ag;have hl2:∀x:aK,zY ((f.ax.take i).map (aaJ f s)++[x])<=1073741824:=λx=>by simp;omega
  refine⟨(),?_,trivial⟩;rw[bE hi,zO];unfold VL Oc;simp only[cG,i1,i2,cK,cW,az.eta,es,ev,hcl,hl2,hw,yf,yT];rfl) (λb _=>by unfold VL Oc;simp) (b:=()) trivial
 rw[zy]at e1;exact e1
def ax7{f:aS}{v:bU}{box:af aK}(h:fK f.bM+kS (f.ax.map (·.aF))<=900)(hh:zY f.ax<=1000)(hl:zY f.ai<=1000)(hfit:Fits f v box):m23 f v box=V (fA f v box):=by
 have hf:=L3 hfit.c;have h0:=th hfit;have e2:=anw hf hh v h0;have ho:eF f.bM<=8:=by have:=hf.o;unfold eF;omega
 have e3:r88 f (qz f (e9 f v box)) f.bM (tr (e9 f v box))=V (tr (I5 f v box)):=
  aw6 (top:=J) au (by simp[qz]) (Es hf h0) au hf.steps h0 au
 unfold m23 Oc;rw[aAW hfit hl];dsimp only;have e2':QT ⟨[],f.ax,(zY f.ax:Int),0,f,v,⟨⟨0,0,0⟩,[],⟨0,0,0⟩,[]⟩,⟨(tr (e9 f v box)).ai,(tr (e9 f v box)).aD,[],(tr (e9 f v box)).aI⟩⟩=_:=e2;rw[e2'];dsimp only;rw[fD,ct];have e3':r88 f (qz f (e9 f v box)) f.bM ⟨(tr (e9 f v box)).ai,(tr (e9 f v box)).aD,[],(tr (e9 f v box)).aI⟩=_:=e3;rw[e3'];dsimp only;unfold fA;cases v.iJ<;>rfl
abbrev E18:=Bool
def d18:Td 0 E18:= .c [] [0] (.r 0 0 (ec 0 qb en) sn (λz=>z.1.1) (λx=>((x,()),(()))))
def m18:E18:=J
def e18:=eL vp 18 O ln d18 (λ_=>V m18)
def t18:rC vp dA (λ_=>O) 300 60 Bool 18 [] [] 0 (UA Sq)=V J:=aY
abbrev E19:=Bool
def m19(a0:aS)(a1:bU)(a2:af aK):aa E19:=
 match bif vn ((zY a1.bz:Int)<=20)then bif vn ((zY a2:Int)<=20)then match m53 a0 70 300with|G=>G|V r1=>bif r1 then match m78 a0 with|G=>G|V r2=>bif bif vn (r2=0)then O else J then V J else match m24 a0 4096 4096 256with|G=>G|V r3=>V (r3)else V O else V O else V O with|G=>G|V r4=>V (r4)
structure Km where
 (t0 t1:List aK)
 (t12 t13:Int)
def aoC{α:Type}(p:Km)(go:Km->aa α)(e1 e2:aa α):aa α:=
 bif vn (p.t13<p.t12)then if 0<=p.t13/\p.t13<zY p.t0 then if 0<=p.t13/\p.t13<zY p.t1 then bif bif bif vn (p.t0[zq p.t13]!.ah=p.t1[zq p.t13]!.ah)then bif vn (p.t0[zq p.t13]!.ag=p.t1[zq p.t13]!.ag)then bif vn (p.t0[zq p.t13]!.aj=p.t1[zq p.t13]!.aj)then J else O else O else O then O else J then e1 else go (Km.mk p.t0 p.t1 p.t12 (ak (p.t13+1)))else G else G else e2
def awT(p:Km):aa (aa Km):=
 aoC p (λs=>V (V s)) (V G) (V G)
def aBJ:=bI (awT)
abbrev E64:=Bool
def m64(a0:af aK)(a1:af aK):aa E64:=
 bif bif vn ((zY a0:Int)=(zY a1:Int))then O else J then V O else match aBJ (Km.mk a0 a1 (zY a0) 0)with|G=>G|V r1=>aoC r1 (λ_=>G) (V O) (V J)
abbrev E22:=Bool
def m22(a0:bK)(a1:bK):aa E22:=
 match bif bif vn (a0.aD.ah=a1.aD.ah)then bif vn (a0.aD.ag=a1.aD.ag)then bif vn (a0.aD.aj=a1.aD.aj)then J else O else O else O then bif bif vn (a0.aI.ah=a1.aI.ah)then bif vn (a0.aI.ag=a1.aI.ag)then bif vn (a0.aI.aj=a1.aI.aj)then J else O else O else O then match m64 a0.aG a1.aG with|G=>G|V r1=>bif r1 then match m64 a0.LA a1.LA with|G=>G|V r2=>V (r2)else V (O)else V (O)else V (O)with|G=>G|V r3=>V (r3)
abbrev E3:=Bool
def d3:Td 0 E3:= .c [] [6] (.r 0 0 (ec 6 qb en) sn (λz=>z.1.1) (λx=>((x,()),(()))))
def A3:=(lc (qg 26) (lc (qg 29) (lc (ql 34) ln)))
def m3(a0:aS)(a1:bU)(a2:af aK):aa E3:=
 bif bif m18 then O else J then V (O)else match m19 a0 a1 a2 with|G=>G|V r1=>bif bif r1 then O else J then V (J)else match m20 a0 a1 a2 with|G=>G|V r2=>match m21 a0 a1 a2 with|G=>G|V r3=>bif bif vn (r3=0)then O else J then bif vn (r2.snd=r3)then match m22 r2.fst (bK.mk (aK.mk (0) (0) (0)) [] (aK.mk (0) (0) (0)) [])with|G=>G|V r4=>V (r4)else V (O)else bif vn (r2.snd=0)then match m23 a0 a1 a2 with|G=>G|V r5=>match m22 r2.fst r5 with|G=>G|V r6=>V (r6)else V (O)
abbrev E6:=Bool
def d6:Td 0 E6:= .c [] [6] (.r 0 0 (ec 6 qb en) sn (λz=>z.1.1) (λx=>((x,()),(()))))
def af2{f:aS}{v:bU}{box:af aK}(h:Fits f v box):zY (fA f v box).aG<=8/\zY (fA f v box).LA=zY f.ai:=by
 have hf:=L3 h.c;have h0:=th h;have ho:eF f.bM<=8:=by have:=hf.o;unfold eF;omega
 have k:=iE (hv:=qz f (e9 f v box)) (by simp[qz]) (Es hf h0) _ f.bM J (zC _) hf.steps _ _ h0;have:=k.sl;exact⟨by show zY (I5 f v box).aG<=8;unfold I5;omega,k.len⟩
def QB{a:aK}(h:NN a):bY a<=a.ag-a.ah+1:=by
 rw[BF h];have:=h.le;split
 ·omega
 ·have:=yl a.aj (show 0<=a.ag-a.ah by omega);omega
def AU{a:aK}(h:NN a):1<=bY a/\bY a<=2199023255553:=by
 have h1:=size_pos h;have h2:=QB h;obtain⟨a1,a2⟩:=h.um;obtain⟨a3,a4⟩:=h.DO;omega
def Om{a b:Int}(h1:1<=a)(h2:a<=2199023255553)(h3:1<=b)(h4:b<=2199023255553):m93 a b=V (min (a*b) 1099511627776):=by
 have hd:(1099511627776:Int).tdiv b=1099511627776/b:=Int.tdiv_eq_ediv_of_nonneg au;have q0:0<=(1099511627776:Int)/b:=zS au au;have q1:(1099511627776:Int)/b<=1099511627776:=yl _ au;have iff:(1099511627776:Int)/b<a↔1099511627776<a*b:=Int.ediv_lt_iff_lt_mul au;have p0:0<=a*b:=zJ au au;unfold m93;rw[bX (show 0<b by omega),cK,bB (show ¬@Eq Int b 0 by omega),hd,aL];dsimp only;by_cases c:1099511627776<a*b
 ·rw[bX (iff.mpr c),cK,show min (a*b) 1099511627776=1099511627776 by omega]
 ·rw[bW (λk=>c (iff.mp k)),ct,aL,show min (a*b) 1099511627776=a*b by omega]
def fI:af aK->Int
 |[]=>1
 |x::l=>bY x*fI l
def l7:af bh->Int
 |[]=>1
 |x::l=>(x.ag-x.ah+1)*l7 l
def AK:∀(a b:af aK),fI (a++b)=fI a*fI b
 |[],b=>by rw[yB,fI,yc]
 |x::a,b=>by rw[xz,fI,fI,AK a b,yb]
def JS:∀(a b:af bh),l7 (a++b)=l7 a*l7 b
 |[],b=>by rw[yB,l7,yc]
 |x::a,b=>by rw[xz,l7,l7,JS a b,yb]
def mz:∀{l:af aK},(∀x∈l,NN x)->1<=fI l
 |[],_=>by rw[fI];decide
 |x::l,h=>by
  rw[fI];have h1:=size_pos (h x (zk ..));have h2:=mz (λy hy=>h y (zL _ hy));have:=yY h1 h2 au au;omega
def Dh{l:af aK}(h:∀x∈l,NN x)(i:Nat):1<=fI (l.take i)/\fI (l.take i)<=fI l:=by
 have h1:=mz (l:=l.take i) (λx hx=>h x (wJ hx));have h2:=mz (l:=l.drop i) (λx hx=>h x (xD hx));have e:fI l=fI (l.take i)*fI (l.drop i):=by rw[<-AK,xA]
 have:=va h2 (show 0<=fI (l.take i)by omega);omega
def W8:∀{l:af aK} {L:af bh},zY l=zY L->(∀j,j<zY l->NN l[j]!/\L[j]!.ah<=l[j]!.ah/\l[j]!.ag<=L[j]!.ag)->fI l<=l7 L
 |[],[],_,_=>zj _
 |[],y::L,h,_=>by simp at h
 |x::l,[],h,_=>by simp at h
 |x::l,y::L,h,k=>by
  have hN:∀z∈l,NN z:=λz hz=>by
   obtain⟨i,hi,e⟩:=List.mem_iff_getElem.1 hz;have:=(k (i+1) (by simp;omega)).1;rw[show (x::l)[i+1]! =l[i]! from rfl,getElem!_pos l i hi,e]at this;omega
  obtain⟨k1,k2,k3⟩:=k 0 (by simp);have k1:NN x:=k1;have k2:y.ah<=x.ah:=k2;have k3:x.ag<=y.ag:=k3;have h1:=size_pos k1;have h2:=QB k1;have h3:=W8 (l:=l) (L:=L) (by simpa using h) (λj hj=>k (j+1) (by simp;omega));have h4:=mz hN;exact yY au h3 au au
def Br(kind:Int):∀(l:af bh) (n m:Int),Ai kind l n=V m->m=n*l7 (l.filter (kd kind))
 |[],n,m,e=>by unfold Ai at e;cases e;rw[xY,l7,Int.mul_one]
 |v::vs,n,m,e=>by
  unfold Ai at e;by_cases hk:v.bS=kind
  ·rw[bB hk]at e;split at e
   ·cases e
   ·have:=Br kind vs _ m e;rw[this,yV,bB (by simp[kd,hk]),l7,yb]
  ·rw[bL hk]at e;rw[Br kind vs n m e,yV,bL (by simp[kd,hk])]
def JD:∀{l:af bh},(∀v∈l,v.ah<=v.ag)->1<=l7 l
 |[],_=>by rw[l7];decide
 |x::l,h=>by
  rw[l7];have h1:=h x (zk ..);have h2:=JD (λy hy=>h y (zL _ hy));have:=yY (show 1<=x.ag-x.ah+1 by omega) h2 au au;omega
def aaC{f:aS}(h:qT f=0):IJ f.ai=J:=by
 unfold qT at h;by_cases h1:rA f=O
 ·simp_all
 rw[bL h1]at h;by_cases hvc:jQ f.ai=0
 case neg=>rw[bB hvc]at h;exact dS h hvc
 unfold jQ at hvc;by_cases h0:cu (nC f.ai) f.ai 0=0
 case neg=>rw[bB h0]at hvc;exact dS hvc h0
 simp_all
def agS{f:aS}(h:qT f=0):l7 (ei f.ai)<=1048576:=by
 have hv:=kK h;have hs:=aaC h;unfold IJ at hs;simp only[zi]at hs;obtain⟨⟨h1,_⟩,h3⟩:=hs;obtain⟨a,e1⟩:=Option.isSome_iff_exists.1 h1;cases e3:Ai 3 f.ai 1 with
 |none=>rw[e3]at h3;cases h3
 |some b=>
  rw[e3]at h3;have h3:b<=256:=by simpa using h3
  have ha:=HW 1 f.ai 1 a (by decide) e1;have p1:=Br 1 f.ai 1 a e1;have p3:=Br 3 f.ai 1 b e3;rw[yc]at p1 p3;have q3:=JD (l:=f.ai.filter (kd 3)) (λv hv'=>(hv v (z8.1 hv').1).2.1);unfold ei;rw[JS,<-p1,<-p3];have:=yY ha h3 au au;omega
def Fits.nn{f:aS}{v:bU}{box:af aK}(h:Fits f v box):∀x∈box,NN x:=λx hx=>by
 obtain⟨i,hi,e⟩:=List.mem_iff_getElem.1 hx;have:=(h.bx i hi).1;simp_all
def Fits.vol{f:aS}{v:bU}{box:af aK}(h:Fits f v box):1<=fI box/\fI box<=1048576:=⟨mz h.nn,xV (W8 h.bl h.bx) (agS h.c)⟩
def aku{box:af aK}(h:∀x∈box,NN x)(hl:zY box<=1000000)(hv:fI box<=1048576):amd box=V (fI box):=by
 obtain⟨b,e1,_⟩:=cS (rnd:=L9) (zY box) (λi (_:Unit)=>⟨fI (box.take i),box,(zY box:Int),(i:Int)⟩) (λi _=>True) (λi b hi _=>by
  obtain⟨i1,i2,hw⟩:=w3 hi hl;obtain⟨t1,t2⟩:=Dh h (i+1);have e:fI (box.take (i+1))=fI (box.take i)*bY box[i]! :=by
   rw[bE hi,AK,fI,fI,Int.mul_one]
  refine⟨(),?_,trivial⟩;rw[e]at t1 t2 ⊢;unfold L9 IF;simp only[cG,i1,i2,cK,cW,eE (.inr (h _ (bf hi))),hw];rw[aL]) (λb _=>by unfold L9 IF;simp) (b:=()) trivial
 rw[zy]at e1;have e1':L6 ⟨1,box,(zY box:Int),0⟩=V ⟨fI box,box,(zY box:Int),(zY box:Int)⟩:=e1;unfold amd IF;rw[e1'];simp
def iL(l:af aK):Bool:=l.all λx=>vn (bY x=1)
def sgB(r:bK):Bool:=(vn (bY r.aD=1)&&vn (bY r.aI=1))&&iL r.aG
def aaM(r:bK):aC:=⟨r.aG.map (·.ah),r.aI.ah⟩
structure ROk (r:bK):Prop where
 count:NN r.aD
 time:NN r.aI
 sl:zY r.aG<=8
 slots:∀i,i<zY r.aG->NN r.aG[i]!
def DH{l:af aK}{i:Nat}(h:i<zY l):iL (l.take (i+1))=(iL (l.take i)&&vn (bY l[i]! =1)):=by
 unfold iL;rw[bE h,List.all_append];simp
def ahZ{r:bK}(h:ROk r)(b:Bool)(t:Int):Xg ⟨b,r.aG,(zY r.aG:Int),0,⟨[],0⟩,⟨[],t⟩⟩=V ⟨b&&iL r.aG,r.aG,(zY r.aG:Int),(zY r.aG:Int),⟨[],0⟩,⟨r.aG.map (·.ah),t⟩⟩:=by
 have hs:=h.sl;obtain⟨_,e1,_⟩:=cS (rnd:=V9) (zY r.aG) (λi (_:Unit)=>⟨b&&iL (r.aG.take i),r.aG,(zY r.aG:Int),(i:Int),⟨[],0⟩,⟨(r.aG.take i).map (·.ah),t⟩⟩) (λi _=>True) (λi _ hi _=>by
  obtain⟨i1,i2,hw⟩:=w3 hi au;have hl2:∀x:Int,zY ((r.aG.take i).map (·.ah)++[x])<=1073741824:=λx=>by simp;omega
  refine⟨(),?_,trivial⟩;rw[DH hi,bE hi,zO];unfold V9 Rm;cases hb:(b&&iL (r.aG.take i))with
  |false=>
   rw[<-Bool.and_assoc,hb];simp only[cG,cD,i1,i2,hl2,cW,hw,Bool.false_and,yf,yT]
  |true=>
   rw[<-Bool.and_assoc,hb];simp only[cG,i1,i2,hl2,cK,cW,si (.inr (h.slots i hi)),hw,Bool.true_and,yf,yT]) (λb _=>by unfold V9 Rm;simp) (b:=()) trivial
 rw[zy]at e1;have:(b&&iL (r.aG.take 0))=b:=by simp[iL]
 rw[this]at e1;exact e1
def akW{r:bK}(h:ROk r)(b:Bool)(t:Int):Xk ⟨b,r.aG,(zY r.aG:Int),0,⟨[],0⟩,⟨[],t⟩⟩=V ⟨b&&iL r.aG,r.aG,(zY r.aG:Int),(zY r.aG:Int),⟨[],0⟩,⟨r.aG.map (·.ah),t⟩⟩:=by
 have hs:=h.sl;obtain⟨_,e1,_⟩:=cS (rnd:=YO) (zY r.aG) (λi (_:Unit)=>⟨b&&iL (r.aG.take i),r.aG,(zY r.aG:Int),(i:Int),⟨[],0⟩,⟨(r.aG.take i).map (·.ah),t⟩⟩) (λi _=>True) (λi _ hi _=>by
  obtain⟨i1,i2,hw⟩:=w3 hi au;have hl2:∀x:Int,zY ((r.aG.take i).map (·.ah)++[x])<=1073741824:=λx=>by simp;omega
  refine⟨(),?_,trivial⟩;rw[DH hi,bE hi,zO];unfold YO OF;cases hb:(b&&iL (r.aG.take i))with
  |false=>
   rw[<-Bool.and_assoc,hb];simp only[cG,cD,i1,i2,hl2,cW,hw,Bool.false_and,yf,yT]
  |true=>
   rw[<-Bool.and_assoc,hb];simp only[cG,i1,i2,hl2,cK,cW,eE (.inr (h.slots i hi)),hw,Bool.true_and,yf,yT]) (λb _=>by unfold YO OF;simp) (b:=()) trivial
 rw[zy]at e1;have:(b&&iL (r.aG.take 0))=b:=by simp[iL]
 rw[this]at e1;exact e1
def axd{f:aS}{v:bU}{box:af aK}{r:bK}(e:m20 f v box=V (r,0))(h:ROk r):Z9 f v box=V (if sgB r=J then(aaM r,J,0)else(⟨[],0⟩,O,0)):=by
 unfold Z9 Rm;rw[e];simp only[DB,si (.inr h.count),si (.inr h.time)];have ef:(bif vn (@Eq Int (bY r.aD) 1)then some (vn (@Eq Int (bY r.aI) 1))else some false)=some (vn (bY r.aD=1)&&vn (bY r.aI=1)):=by cases vn (bY r.aD=1)<;>rfl
 rw[ef];dsimp only;rw[ahZ h];dsimp only;rw[fD,ct];unfold sgB aaM;cases (vn (bY r.aD=1)&&vn (bY r.aI=1))&&iL r.aG<;>rfl
def azo{f:aS}{v:bU}{box:af aK}{r:bK}(e:m23 f v box=V r)(h:ROk r):m37 f v box=V (if sgB r=J then(aaM r,J)else(⟨[],0⟩,O)):=by
 unfold m37 OF;rw[e];simp only[eE (.inr h.count),eE (.inr h.time)];have ef:(bif vn (@Eq Int (bY r.aD) 1)then some (vn (@Eq Int (bY r.aI) 1))else some false)=some (vn (bY r.aD=1)&&vn (bY r.aI=1)):=by cases vn (bY r.aD=1)<;>rfl
 rw[ef];dsimp only;rw[akW h];dsimp only;rw[fD,ct];unfold sgB aaM;cases (vn (bY r.aD=1)&&vn (bY r.aI=1))&&iL r.aG<;>rfl
def vF(r:bK)(M:Int):Nat->Int×Int
 |0=>(0,min (bY r.aI) M)
 |k+1=>(if cR r.aD (k:Nat)=J then min ((vF r M k).1+(vF r M k).2) M else(vF r M k).1,if k<zY r.aG then min ((vF r M k).2*bY r.aG[k]!) M else(vF r M k).2)
def abf{r:bK}(h:ROk r){M:Int}(hM:1<=M):∀k,0<=(vF r M k).1/\(vF r M k).1<=M/\1<=(vF r M k).2/\(vF r M k).2<=M
 |0=>by
  have:=size_pos h.time;simp only[vF];omega
 |k+1=>by
  obtain⟨h1,h2,h3,h4⟩:=abf h hM k;simp only[vF];refine⟨?_,?_,?_,?_⟩
  ·omega
  ·omega
  ·split
   ·rename_i c;have:=size_pos (h.slots k c);have:=yY h3 this au au;omega
   ·omega
  ·omega
def af1{P s zb:Int}(hs:1<=s)(hP:1<=P)(hV:1<=zb):min (P*min s zb) zb=min (P*s) zb:=by
 by_cases c:s<=zb
 ·grind
 ·rw[show min s zb=zb by omega];have k1:=zN hP (show 0<=zb by omega);have k2:=zN hP (show 0<=s by omega);omega
def EX(r:bK):Nat->Int×Int
 |0=>(0,bY r.aI)
 |k+1=>(if cR r.aD (k:Nat)=J then min ((EX r k).1+(EX r k).2) 1099511627776 else(EX r k).1,if k<zY r.aG then min ((EX r k).2*bY r.aG[k]!) 1099511627776 else(EX r k).2)
def R6{r:bK}(h:ROk r):∀k,0<=(EX r k).1/\(EX r k).1<=1099511627776/\1<=(EX r k).2/\(EX r k).2<=2199023255553
 |0=>by
  have:=AU h.time;simp only[EX];omega
 |k+1=>by
  obtain⟨h1,h2,h3,h4⟩:=R6 h k;simp only[EX];refine⟨?_,?_,?_,?_⟩
  ·omega
  ·omega
  ·split
   ·rename_i c;have:=size_pos (h.slots k c);have:=yY h3 this au au;omega
   ·omega
  ·omega
def X4{r:bK}(h:ROk r){zb:Int}(hV:1<=zb)(hM:zb<=1099511627776):∀k,(vF r zb k).1=min (EX r k).1 zb/\(vF r zb k).2=min (EX r k).2 zb
 |0=>by
  refine⟨?_,rfl⟩;show (0:Int)=min 0 zb;omega
 |k+1=>by
  obtain⟨h1,h2⟩:=X4 h hV hM k;obtain⟨b1,b2,b3,b4⟩:=R6 h k;simp only[vF,EX];refine⟨?_,?_⟩
  ·split
   ·omega
   ·exact h1
  ·split
   ·rename_i c;have hs:=size_pos (h.slots k c);rw[h2];generalize (EX r k).2=P at*;by_cases c2:P<=zb
    ·rw[show min P zb=P by omega];omega
    ·rw[show min P zb=zb by omega];have k1:=va hs (show 0<=zb by omega);have k2:=va hs (show 0<=P by omega);omega
   ·exact h2
def vO(a b:Int):(if b<a then b else a)=min a b:=by split<;>omega
def aik{r:bK}(h:ROk r)(box:af aK):WV ⟨box,0,bY r.aI,((zY r.aG+1:Nat):Int),0,r⟩=V ⟨box,(EX r (zY r.aG+1)).1,(EX r (zY r.aG+1)).2,((zY r.aG+1:Nat):Int),((zY r.aG+1:Nat):Int),r⟩:=by
 have hs:=h.sl;obtain⟨_,e1,_⟩:=cS (rnd:=VA) (zY r.aG+1) (λi (_:Unit)=>⟨box,(EX r i).1,(EX r i).2,((zY r.aG+1:Nat):Int),(i:Int),r⟩) (λi _=>True) (λi _ hi _=>by
  have hw:ak ((i:Int)+1)=((i+1:Nat):Int):=by rw[aL];omega
  have i1:(i:Int)<((zY r.aG+1:Nat):Int):=au;have i2:(0:Int)<=(i:Int):=au;obtain⟨b1,b2,b3,b4⟩:=R6 h i;have ws:ak ((EX r i).1+(EX r i).2)=(EX r i).1+(EX r i).2:=aL;refine⟨(),?_,trivial⟩;unfold VA OP;simp only[EX];by_cases c:i<zY r.aG
  ·have c1:(i:Int)<(zY r.aG:Int):=au;have hz:=AU (h.slots i c);have et:=Om b3 b4 hz.1 hz.2;cases hc:cR r.aD (i:Nat)with
   |true=>simp only[cG,i1,i2,c,c1,cK,cW,qM (.inr h.count),hc,si (.inr (h.slots i c)),et,ws,vO,hw]
   |false=>simp only[cG,cD,gK,i1,i2,c,c1,qM (.inr h.count),hc,si (.inr (h.slots i c)),et,hw,yy]
  ·have c1:¬(i:Int)<(zY r.aG:Int):=au;cases hc:cR r.aD (i:Nat)with
   |true=>simp only[cG,cD,gK,i1,c,c1,qM (.inr h.count),hc,ws,vO,hw]
   |false=>simp only[cG,cD,i1,c,c1,IY,qM (.inr h.count),hc,hw,yy]) (λb _=>by unfold VA OP;simp) (b:=()) trivial
 exact e1
def ani{box:af aK}(h:∀x∈box,NN x)(hl:zY box<=1000000)(hv:fI box<=1048576)(s:Int):Yh ⟨s,1,box,(zY box:Int),0⟩=V ⟨s,fI box,box,(zY box:Int),(zY box:Int)⟩:=by
 obtain⟨_,e1,_⟩:=cS (rnd:=XS) (zY box) (λi (_:Unit)=>⟨s,fI (box.take i),box,(zY box:Int),(i:Int)⟩) (λi _=>True) (λi b hi _=>by
  obtain⟨i1,i2,hw⟩:=w3 hi hl;obtain⟨t1,t2⟩:=Dh h (i+1);obtain⟨u1,u2⟩:=Dh h i;have hz:=AU (h _ (bf hi));have e:fI (box.take (i+1))=fI (box.take i)*bY box[i]! :=by
   rw[bE hi,AK,fI,fI,Int.mul_one]
  have et:=Om (a:=fI (box.take i)) au au hz.1 hz.2;rw[show min (fI (box.take i)*bY box[i]!) 1099511627776=fI (box.take i)*bY box[i]! by rw[<-e];omega]at et;refine⟨(),?_,trivial⟩;rw[e];unfold XS QO;simp only[cG,i1,i2,cK,cW,si (.inr (h _ (bf hi))),et,hw]) (λb _=>by unfold XS QO;simp) (b:=()) trivial
 rw[zy]at e1;exact e1
def aiI(r:bK)(zb:Int):Int:=(vF r zb (zY r.aG+1)).1
def aCJ{f:aS}{v:bU}{box:af aK}{r:bK}(e:m20 f v box=V (r,0))(h:ROk r)(hb:∀x∈box,NN x)(hl:zY box<=1000000)(hv:fI box<=1048576):UJ f v box=V (aiI r (fI box),0):=by
 have hs:=h.sl;have hp:=mz hb;have wl:ak ((zY r.aG:Int)+1)=((zY r.aG+1:Nat):Int):=by rw[aL];omega
 unfold UJ OP QO;rw[e];simp only[cD,DB,si (.inr h.time),wl];rw[aik h box];dsimp only;rw[fD,ct,ani hb hl hv];dsimp only;rw[fD,ct];unfold aiI;rw[(X4 h hp au _).1,vO]
def ajg{r:bK}(h:ROk r){zb:Int}(hV:1<=zb)(hV2:zb<=1048576):V4 ⟨zb,0,min (bY r.aI) zb,0,r⟩=V ⟨zb,(vF r zb (zY r.aG+1)).1,(vF r zb (zY r.aG+1)).2,((zY r.aG+1:Nat):Int),r⟩:=by
 have hs:=h.sl;obtain⟨_,e1,_⟩:=cS (rnd:=YL) (zY r.aG+1) (λi (_:Unit)=>⟨zb,(vF r zb i).1,(vF r zb i).2,(i:Int),r⟩) (λi _=>True) (λi _ hi _=>by
  have hw:ak ((i:Int)+1)=((i+1:Nat):Int):=by rw[aL];omega
  have i1:(i:Int)<=(zY r.aG:Int):=au;have i2:(0:Int)<=(i:Int):=au;obtain⟨b1,b2,b3,b4⟩:=abf h hV i;have ws:ak ((vF r zb i).1+(vF r zb i).2)=(vF r zb i).1+(vF r zb i).2:=aL;refine⟨(),?_,trivial⟩;unfold YL RP;simp only[vF];by_cases c:i<zY r.aG
  ·have c1:(i:Int)<(zY r.aG:Int):=au;have hz:=AU (h.slots i c);have p1:(vF r zb i).2*min (bY r.aG[i]!) zb<=zb*zb:=yY b4 au au au;have p2:zb*zb<=1048576*1048576:=yY hV2 hV2 au au;have p3:0<=(vF r zb i).2*min (bY r.aG[i]!) zb:=zJ au au;have wp:ak ((vF r zb i).2*min (bY r.aG[i]!) zb)=(vF r zb i).2*min (bY r.aG[i]!) zb:=aL;have em:=af1 hz.1 b3 hV;cases hc:cR r.aD (i:Nat)with
   |true=>simp only[cG,i1,i2,c,c1,cK,cW,jV (.inr h.count),hc,eE (.inr (h.slots i c)),ws,vO,wp,em,hw]
   |false=>simp only[cG,cD,gK,i1,i2,c,c1,jV (.inr h.count),hc,eE (.inr (h.slots i c)),vO,wp,em,hw,yy]
  ·have c1:¬(i:Int)<(zY r.aG:Int):=au;cases hc:cR r.aD (i:Nat)with
   |true=>simp only[cG,cD,gK,i1,c,c1,jV (.inr h.count),hc,ws,vO,hw]
   |false=>simp only[cG,cD,i1,c,c1,IY,jV (.inr h.count),hc,hw,yy]) (λb _=>by
    unfold YL RP;dsimp only;rw[fD];rfl) (b:=()) trivial
 exact e1
def ayF{f:aS}{v:bU}{box:af aK}{r:bK}(e:m23 f v box=V r)(h:ROk r)(hb:∀x∈box,NN x)(hl:zY box<=1000000)(hv:fI box<=1048576):m38 f v box=V (aiI r (fI box)):=by
 have hp:=mz hb;unfold m38 RP;rw[e];dsimp only;rw[aku hb hl hv];rw[eE (.inr h.time)];dsimp only;rw[bL (show ¬1099511627776<fI box by omega),vO,ajg h hp hv];dsimp only;rw[fD,ct];rfl
structure CI (s:ay):Prop where
 lo:0<=s.aD.ah
 hi:s.aD.ag=zY s.aG
def sg1(a:aK):Prop:=a.ah=a.ag
structure SG (s:ay):Prop where
 vars:∀i,i<zY s.ai->sg1 s.ai[i]!
 count:sg1 s.aD
 slots:∀i,i<zY s.aG->sg1 s.aG[i]!
 time:sg1 s.aI
def atk{f:aS}{v:bU}{box:af aK}(h:Fits f v box):eO (zY f.ai) 8 (I5 f v box):=by
 have hf:=L3 h.c;have h0:=th h;have ho:eF f.bM<=8:=by have:=hf.o;unfold eF;omega
 exact(iE (hv:=qz f (e9 f v box)) (by simp[qz]) (Es hf h0) _ f.bM J (zC _) hf.steps _ _ h0).weak au
def Fa{f:aS}{v:bU}{box:af aK}(h:Fits f v box):ROk (fA f v box):=by
 have k:=atk h;refine⟨k.count,?_,k.sl,k.slots⟩;show NN (if v.iJ=J then(I5 f v box).aI else eC 0);split
 ·exact k.time
 ·exact me ⟨by decide,by decide⟩
def aHE:bu:=dA
abbrev arQ:=Bool
def d326:Td 0 arQ:= .c [] [2] (.r 0 0 (ec 2 qb en) sn (λz=>z.1.1) (λx=>((x,()),(()))))
def aAj:=(aU ln)
def aqH:An:= .no
def I6(a0:Int):arQ:=
 bif vn (a0=a0)then O else J
def aEu(a0:Int):bZ vp (aHE) 300 (aqH) 326 (aAj.c (a0,())) [] 0 d326.rd=V (I6 a0):=by
 refine Eq.trans (b:=(
  V (bif vn (a0=a0)then O else J):aa arQ)) aY ?_
 simp only[I6,cq,cO]
def aCD:=eL vp 326 O aAj d326 (λg=>V (I6 g.1))
def aij:EO aCD:=λh=>kL (an:=aqH) func326 aV aH h (c:=λg=>aEu g.1)
def aFs:bu:=(aCD dA)
abbrev awq:=Int
def d288:Td 0 awq:= .c [] [4] (.r 0 0 (ec 4 aP en) sn (λz=>z.1.1) (λx=>((x,()),(()))))
def aBr:=(aU (aU ln))
def aqO:An:= .no
def Np(a0:Int)(a1:Int):awq:=
 bif I6 a0 then bif I6 a1 then 0 else-1 else bif I6 a1 then 1 else bif vn (a0<a1)then-1 else bif vn (a1<a0)then 1 else 0
def aIb(a0:Int)(a1:Int):bZ vp (aFs) 300 (aqO) 288 (aBr.c (a0,a1,())) [] 0 d288.rd=V (Np a0 a1):=by
 refine Eq.trans (b:=(
  bif I6 a0 then bif I6 a1 then V (0)else V (-1)else bif I6 a1 then V (1)else bif vn (a0<a1)then V (-1)else bif vn (a1<a0)then V (1)else V (0):aa awq)) aY ?_
 simp only[Np,cq,cO]
def aFy:=eL vp 288 O aBr d288 (λg=>V (Np g.1 g.2.1))
def amP:EO aFy:=λh=>kL (an:=aqO) func288 (aij aV) aH h (c:=λg=>aIb g.1 g.2.1)
structure u6 where
 (t0 t1 t9:List Int)
 (t10 t11:Int)
def UH:Td 0 u6:= .c [] [0,1,9,10,11] (.r 0 0 (ec 0 (ql 3) (ec 1 (ql 3) (ec 9 (ql 3) (ec 10 aP (ec 11 aP en))))) sn (λz=>⟨z.1.1,z.1.2.1,z.1.t.1,z.1.t.2.1,z.1.q.1⟩) (λx=>((x.t0,x.t1,x.t9,x.t10,x.t11,()),(()))))
def uJ{α:Type}(p:u6)(go:u6->aa α)(e1 e2 e3:aa α):aa α:=
 bif vn (p.t11<p.t10)then if 0<=p.t11/\p.t11<zY p.t9 then bif vn (zY p.t1<=p.t11)then e1 else if 0<=p.t11/\p.t11<zY p.t1 then bif bif vn (Np p.t9[zq p.t11]! p.t1[zq p.t11]! =0)then O else J then e2 else go (u6.mk p.t0 p.t1 p.t9 p.t10 (ak (p.t11+1)))else G else G else e3
def CK(p:u6):aa (aa u6):=
 uJ p (λs=>V (V s)) (V G) (V G) (V G)
def Mm:=bI (CK)
abbrev ax9:=Int
def d251:Td 0 ax9:= .c [] [4] (.r 0 0 (ec 4 aP en) sn (λz=>z.1.1) (λx=>((x,()),(()))))
def ajk(a0:af Int)(a1:af Int):aa ax9:=
 match Mm (u6.mk a0 a1 a0 (zY a0) 0)with|G=>G|V r1=>uJ r1 (λ_=>G) (V 1) (V (Np r1.t9[zq r1.t11]! r1.t1[zq r1.t11]!)) (bif vn ((zY r1.t0:Int)<(zY r1.t1:Int))then V (-1)else V 0)
def aE5:=eL vp 251 O (lc (ql 3) (lc (ql 3) ln)) d251 (λg=>ajk g.1 g.2.1)
def anR:EO aE5:=λh=>kL (an:=(noTwo (.two (noTwo (UH.lp Mm .no)) .no))) (l:=[(bk f251 0,(UH.lp Mm .no))]) func251 (amP aV) (aA (aO UH) aH) h
abbrev aAV:=Int
def d188:Td 0 aAV:= .c [] [4] (.r 0 0 (ec 4 aP en) sn (λz=>z.1.1) (λx=>((x,()),(()))))
def N3(a0:aC)(a1:aC):aa aAV:=
 match ajk a0.aM a1.aM with|G=>G|V r1=>bif bif vn (r1=0)then O else J then V (r1)else bif vn (a0.aI<a1.aI)then V (-1)else bif vn (a1.aI<a0.aI)then V (1)else V (0)
def Lw:=eL vp 188 O (lc (qg 47) (lc (qg 47) ln)) d188 (λg=>N3 g.1 g.2.1)
def s9:EO Lw:=λh=>kL (an:= .no) func188 (anR aV) aH h
def aHn:bu:=(aBO dA)
abbrev auT:=Int
def d196:Td 0 auT:= .c [] [4] (.r 0 0 (ec 4 aP en) sn (λz=>z.1.1) (λx=>((x,()),(()))))
def axR:=(aU (aU ln))
def aqe:An:= .no
def Pz(a0:Int)(a1:Int):auT:=
 bif vn (a0<a1)then-1 else aaU (vn (a1<a0))
def aGs(a0:Int)(a1:Int):bZ vp (aHn) 300 (aqe) 196 (axR.c (a0,a1,())) [] 0 d196.rd=V (Pz a0 a1):=by
 refine Eq.trans (b:=(
  bif vn (a0<a1)then V (-1)else V (aaU (vn (a1<a0))):aa auT)) aY ?_
 simp only[Pz,cq,cO]
def aCP:=eL vp 196 O axR d196 (λg=>V (Pz g.1 g.2.1))
def ajn:EO aCP:=λh=>kL (an:=aqe) func196 (ajm aV) aH h (c:=λg=>aGs g.1 g.2.1)
def aDt:bu:=(aCP dA)
structure u5 where
 t5:Int
 (b0 b1:aC)
def Vl:Td 0 u5:= .c [] [2,3,5] (.r 0 2 (ec 2 (qp 0 0) (ec 3 (qp 1 0) (ec 5 aP en))) (sb 0 47 (lg 47) (sb 1 47 (lg 47) sn)) (λz=>⟨z.1.t.1,z.2.1,z.t.1⟩) (λx=>(((),(),x.t5,()),(x.b0,x.b1,()))))
def CZ{α:Type}(p:u5)(go:u5->aa α)(e1 e2:aa α):aa α:=
 match (bif vn (p.t5<zY p.b0.aM)then V (vn (p.t5<zY p.b1.aM))else V O)with|G=>G|V r1=>bif r1 then if 0<=p.t5/\p.t5<zY p.b0.aM then if 0<=p.t5/\p.t5<zY p.b1.aM then bif bif vn ((((),(),p.t5,()),p.b0,p.b1,()).snd.fst.aM[(((),(),p.t5,()),p.b0,p.b1,()).fst.snd.snd.fst.toNat]! =(((),(),p.t5,()),p.b0,p.b1,()).snd.snd.fst.aM[(((),(),p.t5,()),p.b0,p.b1,()).fst.snd.snd.fst.toNat]!)then O else J then if 0<=p.t5/\p.t5<zY p.b0.aM then if 0<=p.t5/\p.t5<zY p.b1.aM then e1 else G else G else go (u5.mk (ak (p.t5+1)) p.b0 p.b1)else G else G else e2
def HG(p:u5):aa (aa u5):=
 CZ p (λs=>V (V s)) (V G) (V G)
def agh:An:=(.two (.two (.rb [] 17) .no) .no)
def K2:=bI (HG)
abbrev axf:=Int
def d124:Td 0 axf:= .c [] [4] (.r 0 0 (ec 4 aP en) sn (λz=>z.1.1) (λx=>((x,()),(()))))
def aBF:∀f∈([]:af Nat),bA (aDt) f:=aH
def agl(a0:aC)(a1:aC):aa axf:=
 match K2 (u5.mk 0 a0 a1)with|G=>G|V r2=>CZ r2 (λ_=>G) (V (Pz r2.b0.aM[zq r2.t5]! r2.b1.aM[zq r2.t5]!)) (bif bif vn ((zY r2.b0.aM:Int)=(zY r2.b1.aM:Int))then O else J then V (Pz (zY r2.b0.aM) (zY r2.b1.aM:Int))else V (Pz r2.b0.aI r2.b1.aI))
def aFn:=eL vp 124 O (lc (qg 47) (lc (qg 47) ln)) d124 (λg=>agl g.1 g.2.1)
def Xt:EO aFn:=λh=>kL (F:=aDt) (an:=(noTwo (.two (noTwo (Vl.lp K2 agh)) .no))) (l:=[(bk f124 0,(Vl.lp K2 agh)),(.skip,(.rb [] 17))]) func124 (ajn aV) (aA (aO Vl) (aA aBF aH)) h
def aDi:bu:=(Ta (ZC dA))
abbrev axp:=aK×Int
def d214:Td 0 axp:= .c [] [6,7] (.r 0 1 (ec 6 (qp 0 0) (ec 7 aP en)) (sb 0 34 (lg 34) sn) (λz=>(z.2.1,z.1.2.1)) (λx=>(((),x.2,()),(x.1,()))))
def awS:∀f∈([145]:af Nat),bA (aDi) f:=(aA (j5 (jX bG)) aH)
def arf(a0:Int)(a1:Int)(a2:Int):aa axp:=
 match bif bif jy a0 then O else J then V (J)else bif bif jy a1 then O else J then V (J)else V (vn (a2<1))with|G=>G|V r1=>bif r1 then V ((aK.mk (0) (0) (0),3))else match oA a0 a1 a2 with|G=>G|V r2=>V ((r2,0))
def aGJ:=eL vp 214 O (aU (aU (aU ln))) d214 (λg=>arf g.1 g.2.1 g.t.1)
def amI:EO aGJ:=λh=>kL (F:=aDi) (an:=(noTwo (.two (.two (.rb [145] 19) .no) .no))) (l:=[(.skip,(.rb [145] 19))]) func214 (tu (BR aV)) (aA awS aH) h
abbrev axL:=aK×Int
def d137:Td 0 axL:= .c [] [4,5] (.r 0 1 (ec 4 (qp 0 0) (ec 5 aP en)) (sb 0 34 (lg 34) sn) (λz=>(z.2.1,z.1.2.1)) (λx=>(((),x.2,()),(x.1,()))))
def ak9(a0:Int)(a1:Int):aa axL:=
 match arf a0 a1 (1)with|G=>G|V r1=>V (r1)
def aFt:=eL vp 137 O (aU (aU ln)) d137 (λg=>ak9 g.1 g.2.1)
def ah1:EO aFt:=λh=>kL (an:= .no) func137 (amI aV) aH h
structure DG where
 t5:List aK
 t7:Int
 t17:List Int
 (t18 t19:Int)
 t24:List bh
 (t25 t26:Int)
 b0:aS
def af4:Td 0 DG:= .c [] [1,5,7,17,18,19,24,25,26] (.r 0 3 (ec 1 (qp 0 0) (ec 5 (qo 1) (ec 7 aP (ec 17 (qo 2) (ec 18 aP (ec 19 aP (ec 24 (ql 131) (ec 25 aP (ec 26 aP en))))))))) (sb 0 26 (lg 26) (sr 1 34 (sr 2 129 sn))) (λz=>⟨z.t.1,z.1.t.1,z.t.2.1,z.1.q.1,z.1.q.2.1,z.1.q.t.1,z.1.q.t.2.1,z.1.q.q.1,z.2.1⟩) (λx=>(((),(),x.t7,(),x.t18,x.t19,x.t24,x.t25,x.t26,()),(x.b0,x.t5,x.t17,()))))
def AF{α:Type}(p:DG)(go:DG->aa α)(e1:aa α):aa α:=
 bif vn (p.t26<p.t25)then if 0<=p.t26/\p.t26<zY p.t24 then bif vn (p.t24[zq p.t26]!.bS=p.t7)then match ak9 p.t24[zq p.t26]!.ah p.t24[zq p.t26]!.ag with|G=>G|V r3=>if(p.t5++[r3.fst]).length<=1073741824 then go (DG.mk (p.t5++[r3.fst]) p.t7 p.t17 p.t18 p.t19 p.t24 p.t25 (ak (p.t26+1)) p.b0)else G else go (DG.mk p.t5 p.t7 p.t17 p.t18 p.t19 p.t24 p.t25 (ak (p.t26+1)) p.b0)else G else e1
def Qq(p:DG):aa (aa DG):=
 AF p (λs=>V (V s)) (V G)
def Xb:=bI (Qq)
structure HP where
 t5:List aK
 t17:List Int
 (t18 t19:Int)
 b0:aS
def ac9:Td 0 HP:= .c [] [1,5,17,18,19] (.t (b6.s 5 [] 34) (.c [] [1,5,17,18,19] (.r 0 3 (ec 1 (qp 0 0) (ec 5 (qo 1) (ec 17 (qo 2) (ec 18 aP (ec 19 aP en))))) (sb 0 26 (lg 26) (sr 1 34 (sr 2 129 sn))) (λz=>⟨z.t.1,z.t.2.1,z.1.t.2.1,z.1.q.1,z.2.1⟩) (λx=>(((),(),(),x.t18,x.t19,()),(x.b0,x.t5,x.t17,()))))))
def Jq{α:Type}(p:HP)(go:HP->aa α)(e1:aa α):aa α:=
 bif vn (p.t19<p.t18)then if 0<=p.t19/\p.t19<zY p.t17 then if 129=129/\zq p.t19<zY p.t17 then match Xb (DG.mk p.t5 p.t17[zq p.t19]! p.t17 p.t18 p.t19 p.b0.ai (zY p.b0.ai) 0 p.b0)with|G=>G|V r1=>AF r1 (λ_=>G) (go (HP.mk r1.t5 r1.t17 r1.t18 (ak (r1.t19+1)) r1.b0))else G else G else e1
def J4(p:HP):aa (aa HP):=
 Jq p (λs=>V (V s)) (V G)
def ap8:An:=(noTwo (noTwo (.two (noTwo (noTwo (af4.lp Xb .no))) .no)))
def PL:=bI (J4)
abbrev E76:=(af aK)×Int
def d76:Td 0 E76:= .c [] [2,3] (.t (b6.s 2 [] 34) (.c [] [2,3] (.r 0 1 (ec 2 (qo 0) (ec 3 aP en)) (sr 0 34 sn) (λz=>(z.2.1,z.1.2.1)) (λx=>(((),x.2,()),(x.1,()))))))
def m76(a0:aS):aa E76:=
 match aea a0 with|G=>G|V r4=>bif bif vn (r4=0)then O else J then V ([],r4)else match PL (HP.mk [] [1,3] (2:Int) 0 a0)with|G=>G|V r5=>Jq r5 (λ_=>G) (V (r5.t5,0))
def e76:=eL vp 76 O (lc (qg 26) ln) d76 (λg=>m76 g.1)
def adS:EO e76:=λh=>kL (an:=(noTwo (noTwo (noTwo (.two (noTwo (ac9.lp PL ap8)) .no))))) (l:=[(bk f76 0,(ac9.lp PL ap8)),(bk f76 1,(af4.lp Xb .no))]) func76 (ah1 (WS aV)) (aA (aO ac9) (aA (aO af4) aH)) h
structure DC where
 t3:List aK
 t5:Int
 t10:List Int
 (t11 t12:Int)
 t17:List bh
 (t18 t19:Int)
 b0:aS
def acJ:Td 0 DC:= .c [] [1,3,5,10,11,12,17,18,19] (.r 0 3 (ec 1 (qp 0 0) (ec 3 (qo 1) (ec 5 aP (ec 10 (qo 2) (ec 11 aP (ec 12 aP (ec 17 (ql 131) (ec 18 aP (ec 19 aP en))))))))) (sb 0 26 (lg 26) (sr 1 34 (sr 2 129 sn))) (λz=>⟨z.t.1,z.1.t.1,z.t.2.1,z.1.q.1,z.1.q.2.1,z.1.q.t.1,z.1.q.t.2.1,z.1.q.q.1,z.2.1⟩) (λx=>(((),(),x.t5,(),x.t11,x.t12,x.t17,x.t18,x.t19,()),(x.b0,x.t3,x.t10,()))))
def AR{α:Type}(p:DC)(go:DC->aa α)(e1:aa α):aa α:=
 bif vn (p.t19<p.t18)then if 0<=p.t19/\p.t19<zY p.t17 then bif vn (p.t17[zq p.t19]!.bS=p.t5)then match j4 p.t17[zq p.t19]!.ah p.t17[zq p.t19]!.ag 1with|G=>G|V r3=>if(p.t3++[r3.fst]).length<=1073741824 then go (DC.mk (p.t3++[r3.fst]) p.t5 p.t10 p.t11 p.t12 p.t17 p.t18 (ak (p.t19+1)) p.b0)else G else go (DC.mk p.t3 p.t5 p.t10 p.t11 p.t12 p.t17 p.t18 (ak (p.t19+1)) p.b0)else G else e1
def QG(p:DC):aa (aa DC):=
 AR p (λs=>V (V s)) (V G)
def Xl:=bI (QG)
structure FB where
 t3:List aK
 t10:List Int
 (t11 t12:Int)
 b0:aS
def adf:Td 0 FB:= .c [] [1,3,10,11,12] (.t (b6.s 3 [] 34) (.c [] [1,3,10,11,12] (.r 0 3 (ec 1 (qp 0 0) (ec 3 (qo 1) (ec 10 (qo 2) (ec 11 aP (ec 12 aP en))))) (sb 0 26 (lg 26) (sr 1 34 (sr 2 129 sn))) (λz=>⟨z.t.1,z.t.2.1,z.1.t.2.1,z.1.q.1,z.2.1⟩) (λx=>(((),(),(),x.t11,x.t12,()),(x.b0,x.t3,x.t10,()))))))
def JX{α:Type}(p:FB)(go:FB->aa α)(e1:aa α):aa α:=
 bif vn (p.t12<p.t11)then if 0<=p.t12/\p.t12<zY p.t10 then if 129=129/\zq p.t12<zY p.t10 then match Xl (DC.mk p.t3 p.t10[zq p.t12]! p.t10 p.t11 p.t12 p.b0.ai (zY p.b0.ai) 0 p.b0)with|G=>G|V r1=>AR r1 (λ_=>G) (go (FB.mk r1.t3 r1.t10 r1.t11 (ak (r1.t12+1)) r1.b0))else G else G else e1
def Jl(p:FB):aa (aa FB):=
 JX p (λs=>V (V s)) (V G)
def aot:An:=(noTwo (noTwo (.two (noTwo (noTwo (acJ.lp Xl .no))) .no)))
def OE:=bI (Jl)
abbrev E39:=af aK
def d39:Td 0 E39:= .c [] [2] (.r 0 1 (ec 2 (qo 0) en) (sr 0 34 sn) (λz=>z.2.1) (λx=>(((),()),(x,()))))
def m39(a0:aS):aa E39:=
 match OE (FB.mk [] [1,3] (2:Int) 0 a0)with|G=>G|V r4=>JX r4 (λ_=>G) (V (r4.t3))
def e39:=eL vp 39 O (lc (qg 26) ln) d39 (λg=>m39 g.1)
def atS:EO e39:=λh=>kL (an:=(noTwo (noTwo (.two (noTwo (adf.lp OE aot)) .no)))) (l:=[(bk f39 0,(adf.lp OE aot)),(bk f39 1,(acJ.lp Xl .no))]) func39 (EN aV) (aA (aO adf) (aA (aO acJ) aH)) h
def D8(v:bh):aK:=if v.ah=v.ag then⟨v.ah,v.ah,0⟩else⟨v.ah,v.ag,1⟩
def afU{a b:Int}(h: -1048576<=a/\a<=b/\b<=1048576):ak (a+ak (ak ((ak (b-a)).tdiv 1)*1))=b:=by
 have w1:ak (b-a)=b-a:=aL;rw[w1,Int.tdiv_one,w1,Int.mul_one,w1,aL];omega
def ahY{v:bh}(h: -1048576<=v.ah/\v.ah<=v.ag/\v.ag<=1048576):ak9 v.ah v.ag=V (D8 v,0):=by
 unfold ak9 arf oA jy iY D8;rw[afU h];have d1:vn (-1099511627776<=v.ah)=J:=oV;have d2:vn (v.ah<=1099511627776)=J:=oV;have d3:vn (-1099511627776<=v.ag)=J:=oV;have d4:vn (v.ag<=1099511627776)=J:=oV;have d5:vn (v.ag<v.ah)=O:=fD;by_cases he:v.ah=v.ag
 ·simp[d1,d2,d3,d4,d5,he]
 ·simp[d1,d2,d3,d4,d5,he]
def arZ{v:bh}(h: -1048576<=v.ah/\v.ah<=v.ag/\v.ag<=1048576):j4 v.ah v.ag 1=V (D8 v,0):=by
 unfold j4 sF D8;rw[afU h];have d1:vn (-1099511627776<=v.ah)=J:=oV;have d2:vn (v.ah<=1099511627776)=J:=oV;have d3:vn (-1099511627776<=v.ag)=J:=oV;have d4:vn (v.ag<=1099511627776)=J:=oV;have d5:vn (v.ag<v.ah)=O:=fD;by_cases he:v.ah=v.ag
 ·simp[d1,d2,d3,d4,d5,he]
 ·simp[d1,d2,d3,d4,d5,he]
def k9(kind:Int)(l:af bh):af aK:=(l.filter λv=>vn (v.bS=kind)).map D8
def Js(kind:Int)(l:af bh)(v:bh):k9 kind (l++[v])=if v.bS=kind then k9 kind l++[D8 v]else k9 kind l:=by
 unfold k9;rw[xh,zO];by_cases h:v.bS=kind<;>simp[h]
def BL(kind:Int)(l:af bh):zY (k9 kind l)<=zY l:=by
 unfold k9;rw[zB];exact yq _ _
def OO(f:aS)(hv:cZ f.ai)(hl:zY f.ai<=1000000)(acc:af aK)(ha:zY acc<=1000000)(kind:Int)(ks:af Int)(n i:Int):Xb ⟨acc,kind,ks,n,i,f.ai,(zY f.ai:Int),0,f⟩=V ⟨acc++k9 kind f.ai,kind,ks,n,i,f.ai,(zY f.ai:Int),(zY f.ai:Int),f⟩:=by
 obtain⟨v,e1,hV⟩:=cS (rnd:=Qq) (zY f.ai) (λj (b:af aK)=>⟨b,kind,ks,n,i,f.ai,(zY f.ai:Int),(j:Int),f⟩) (λj b=>b=acc++k9 kind (f.ai.take j)) (λj b hj hb=>by
  have hw:=jR hj hl;have hm:=ahY (hv _ (bf hj));have hlen:=BL kind (f.ai.take j);rw[zD]at hlen;have hi1:(j:Int)<(zY f.ai:Int):=au;have hi0:(0:Int)<=(j:Int):=au;rw[bE hj,Js];by_cases hk:f.ai[j]!.bS=kind
  ·refine⟨acc++(k9 kind (f.ai.take j)++[D8 f.ai[j]!]),?_,by rw[bB hk]⟩;subst hb;have hl2:zY ((acc++k9 kind (f.ai.take j))++[D8 f.ai[j]!])<=1073741824:=by
    rw[zh,zh,ym];omega
   unfold Qq AF;dsimp only;simp only[cG,hi1,hi0,cK,cW,hk,hm,hl2,hw];rw[yS]
  ·refine⟨b,?_,by rw[bL hk];exact hb⟩;unfold Qq AF;dsimp only;simp only[cG,cD,hi1,hi0,cW,hk,hw]) (λb _=>by unfold Qq AF;simp) (b:=acc) (by simp[k9])
 rw[zy]at hV;rw[<-hV];exact e1
def OM(f:aS)(hv:cZ f.ai)(hl:zY f.ai<=1000000)(acc:af aK)(ha:zY acc<=1000000)(kind:Int)(ks:af Int)(n i:Int):Xl ⟨acc,kind,ks,n,i,f.ai,(zY f.ai:Int),0,f⟩=V ⟨acc++k9 kind f.ai,kind,ks,n,i,f.ai,(zY f.ai:Int),(zY f.ai:Int),f⟩:=by
 obtain⟨v,e1,hV⟩:=cS (rnd:=QG) (zY f.ai) (λj (b:af aK)=>⟨b,kind,ks,n,i,f.ai,(zY f.ai:Int),(j:Int),f⟩) (λj b=>b=acc++k9 kind (f.ai.take j)) (λj b hj hb=>by
  have hw:=jR hj hl;have hm:=arZ (hv _ (bf hj));have hlen:=BL kind (f.ai.take j);rw[zD]at hlen;have hi1:(j:Int)<(zY f.ai:Int):=au;have hi0:(0:Int)<=(j:Int):=au;rw[bE hj,Js];by_cases hk:f.ai[j]!.bS=kind
  ·refine⟨acc++(k9 kind (f.ai.take j)++[D8 f.ai[j]!]),?_,by rw[bB hk]⟩;subst hb;have hl2:zY ((acc++k9 kind (f.ai.take j))++[D8 f.ai[j]!])<=1073741824:=by
    rw[zh,zh,ym];omega
   unfold QG AR;dsimp only;simp only[cG,hi1,hi0,cK,cW,hk,hm,hl2,hw];rw[yS]
  ·refine⟨b,?_,by rw[bL hk];exact hb⟩;unfold QG AR;dsimp only;simp only[cG,cD,hi1,hi0,cW,hk,hw]) (λb _=>by unfold QG AR;simp) (b:=acc) (by simp[k9])
 rw[zy]at hV;rw[<-hV];exact e1
def mX(f:aS):af aK:=k9 1 f.ai++k9 3 f.ai
def adP(f:aS)(hv:cZ f.ai)(hl:zY f.ai<=1000):PL ⟨[],[1,3],2,0,f⟩=V ⟨mX f,[1,3],2,2,f⟩:=by
 have b1:=BL 1 f.ai;have e1:=OO f hv au [] (by simp) 1 [1,3] 2 0;have e2:=OO f hv au (k9 1 f.ai) au 3 [1,3] 2 1;have w0:ak 1=1:=rfl;have w1:ak 2=2:=rfl;have r1:J4 ⟨[],[1,3],2,0,f⟩=V (V ⟨k9 1 f.ai,[1,3],2,1,f⟩):=by
  unfold J4 Jq AF;simp[e1,w0]
 have r2:J4 ⟨k9 1 f.ai,[1,3],2,1,f⟩=V (V ⟨mX f,[1,3],2,2,f⟩):=by
  unfold J4 Jq AF;simp[e2,w1,mX]
 unfold PL;rw[bP r1,bP r2];exact cn λr=>by unfold J4 Jq AF;simp
def abE(f:aS)(hv:cZ f.ai)(hl:zY f.ai<=1000):OE ⟨[],[1,3],2,0,f⟩=V ⟨mX f,[1,3],2,2,f⟩:=by
 have b1:=BL 1 f.ai;have e1:=OM f hv au [] (by simp) 1 [1,3] 2 0;have e2:=OM f hv au (k9 1 f.ai) au 3 [1,3] 2 1;have w0:ak 1=1:=rfl;have w1:ak 2=2:=rfl;have r1:Jl ⟨[],[1,3],2,0,f⟩=V (V ⟨k9 1 f.ai,[1,3],2,1,f⟩):=by
  unfold Jl JX AR;simp[e1,w0]
 have r2:Jl ⟨k9 1 f.ai,[1,3],2,1,f⟩=V (V ⟨mX f,[1,3],2,2,f⟩):=by
  unfold Jl JX AR;simp[e2,w1,mX]
 unfold OE;rw[bP r1,bP r2];exact cn λr=>by unfold Jl JX AR;simp
def arL(f:aS)(h:fK f.bM+kS (f.ax.map (·.aF))<=900)(hh:zY f.ax<=1000000)(hvl:zY f.ai<=1000):m76 f=V (if qT f=0 then(mX f,0)else([],qT f)):=by
 unfold m76 Jq AF;rw[W6 f h hh au];dsimp only;by_cases hc:qT f=0
 ·rw[bB hc,bX hc];have hv:=kK hc;rw[show ((↑(2:Int):Int))=2 from rfl,adP f hv hvl];simp
 ·rw[bL hc,bW hc];rfl
def aa8(f:aS)(hv:cZ f.ai)(hvl:zY f.ai<=1000):m39 f=V (mX f):=by
 unfold m39 JX AR;rw[show ((↑(2:Int):Int))=2 from rfl,abE f hv hvl];simp
def adD:bu:=rC vp (e35 (e40 dA)) (λf=>zc f 35||zc f 40) 300 60
def Yy:bD vp adD:=⟨qX (nY (uW aV)).ok (nY (uW aV)).nat 300 60,oh (nY (uW (aV (P:=vp)))).nat 300 60⟩
def f45:aS:=⟨[⟨⟨#[120]⟩,1,0,3,0⟩],[],[⟨1,1,0,0,⟨15,0,[⟨24,0,[]⟩,⟨0,2,[]⟩]⟩,[],[],[]⟩]⟩
def v45:bU:=⟨[],O⟩
def ai9:aS->Bool
 |⟨[a],[],[⟨d,c,v,n,⟨o,m,[⟨o1,n1,[]⟩,⟨o2,n2,[]⟩]⟩,[],[],[]⟩]⟩=>vn (a=⟨⟨#[120]⟩,1,0,3,0⟩)&&vn ([d,c,v,n,o,m,o1,n1,o2,n2]=[1,1,0,0,15,0,24,0,0,2])
 |_=>O
def ajd{f:aS}(h:ai9 f=J):f=f45:=by
 unfold ai9 at h;split at h
 ·simp only[zi,decide_eq_true_eq,List.cons.injEq,and_true]at h;obtain⟨rfl,rfl,rfl,rfl,rfl,rfl,rfl,rfl,rfl,rfl,rfl⟩:=h;rfl
 ·cases h
def Y6{β:Type}(T:af (af aK×β))(g:aS×bU×af aK×Unit):aa β:=bif ai9 g.1&&vn (g.2.1=v45)then(T.find? λp=>vn (p.1=g.2.2.1)).map (·.2)else G
def XJ{β:Type}{T:af (af aK×β)}{g:aS×bU×af aK×Unit}{b:β}(h:Y6 T g=V b):∃x,(x,b)∈T/\g=(f45,v45,x,()):=by
 obtain⟨f,v,x,_⟩:=g;unfold Y6 at h;cases k:ai9 f&&vn (v=v45)with
 |false=>simp only[k]at h;cases h
 |true=>
  simp only[k,cK]at h;rw[zi,decide_eq_true_eq]at k;obtain⟨p,h1,rfl⟩:=zn.1 h;have h2:=List.find?_some h1;rw[decide_eq_true_eq]at h2;exact⟨x,h2▸List.mem_of_find?_eq_some h1,by rw[ajd k.1,k.2]⟩
def t25:af (af aK×Int×Int):=[([⟨0,3,1⟩],2,0),([⟨0,1,1⟩],1,0),([⟨2,3,1⟩],1,0)]
def t26:af (af aK×aC×Bool×Int):=[([⟨0,3,1⟩],⟨[],0⟩,O,0),([⟨0,1,1⟩],⟨[1],0⟩,J,0),([⟨2,3,1⟩],⟨[0],0⟩,J,0)]
def aAB:gu vp adD 0 300 25 .no:=cH (l:=[]) func25 (bT aY) aY aH
def aBT:gu vp adD 0 300 26 .no:=cH (l:=[]) func26 (bT aY) aY aH
def k25:(t25.map λp=>bZ vp adD 300 .no 25 (A25.c (f45,v45,p.1,())) [] 0 d25.rd)=t25.map λp=>V p.2:=aY
def k26:(t26.map λp=>bZ vp adD 300 .no 26 (A26.c (f45,v45,p.1,())) [] 0 d26.rd)=t26.map λp=>V p.2:=aY
def aE7:HL vp 25 A25 d25 (Y6 t25):=λg b hb=>by
 obtain⟨x,h1,rfl⟩:=XJ hb;exact(nP (out:=λp=>fZ vp 25 0 (d25.pat p)) (p:=b) Yy aAB d25.ok (λp=>aY) (jY aY) (ki aY) (List.map_inj_left.1 k25 _ h1)).2
def aHp:HL vp 26 A26 d26 (Y6 t26):=λg b hb=>by
 obtain⟨x,h1,rfl⟩:=XJ hb;exact(nP (out:=λp=>fZ vp 26 0 (d26.pat p)) (p:=b) Yy aBT d26.ok (λp=>aY) (jY aY) (ki aY) (List.map_inj_left.1 k26 _ h1)).2
def x25:bu->bu:=eL vp 25 O A25 d25 (Y6 t25)
def x26:bu->bu:=eL vp 26 O A26 d26 (Y6 t26)
def at2{F:bu}(h:bD vp F):bD vp (x25 F):=gm (sc:=Bf) eo aE7 ⟨_,func25,aY,aY⟩ (λ_=>aY) (λ_=>aY) h
def atY{F:bu}(h:bD vp F):bD vp (x26 F):=gm (sc:=Bf) eo aHp ⟨_,func26,aY,aY⟩ (λ_=>aY) (λ_=>aY) h
def F45:bu:=x25 (x26 (e35 (e40 dA)))
def aeU:bD vp F45:=at2 (atY (nY (uW aV)))
abbrev E45:=Bool
def d45:Td 0 E45:= .c [] [0] (.r 0 0 (ec 0 qb en) sn (λz=>z.1.1) (λx=>((x,()),(()))))
def A45:=ln
def m45:E45:=J
def awZ:Prop:=HL vp 45 A45 d45 (λ_=>V m45)
def e45:=eL vp 45 O A45 d45 (λ_=>V m45)
def ahR(hv:awZ){F:bu}(h:bD vp F):bD vp (e45 F):=gm (sc:=Bf) eo hv ⟨_,func45,aY,aY⟩ (λ_=>aY) (λ_=>aY) h
def adX:EP e45:=λh=>kP h
def t45:rC vp F45 (λf=>zc f 25||zc f 26||zc f 35||zc f 40) 300 60 Bool 45 [] [] 0 (UA Sq)=V J:=aY
def Uu{P:Program}{f:FuncId}{xs:af AV}{d:AV}(h:Iv.Fn P f xs [] (λa s=>a=d/\s=[]))(ha:∀ρ:Gh,xs.map (b7.sub ρ)=xs)(hd:∀ρ:Gh,d.sub ρ=d):N4 P f xs [] 0 ⟨d,[],0⟩:=λρ=>by
 rw[ha ρ];exact h.mono λa s ⟨h1,h2⟩=>⟨ρ,λ_ _=>⟨rfl,rfl⟩,by rw[h1];exact(hd ρ).symm,by rw[h2];exact List.Perm.refl _⟩
def avu:fZ vp 45 0 (d45.pat m45)=⟨.b J,[],0⟩:=aY
def aE4:awZ:=λg b hb=>by
 cases hb;rw[avu];exact Uu (Sz (qX (P:=vp) aeU.ok aeU.nat 300 60) P0.b rfl (λd hd=>by cases hd) t45).2 (λ_=>rfl) (λρ=>kO 2 aY)
def auh:bu:=(e21 dA)
def ahI:bD vp auh:=(avp aV)
abbrev aBB:=Int
def d119:Td 0 aBB:= .c [] [6] (.r 0 0 (ec 6 aP en) sn (λz=>z.1.1) (λx=>((x,()),(()))))
def az8:=(lc (qg 26) (lc (qg 29) (lc (ql 34) ln)))
def apz:An:= .no
def axV:gu vp (auh) 0 300 119 (apz):=cH (l:=[]) func119 (bT aY) aY aH
def aiu(a0:aS)(a1:bU)(a2:af aK):aa aBB:=
 match m21 a0 a1 a2 with|G=>G|V r1=>V (r1)
def aGw(a0:aS)(a1:bU)(a2:af aK):bZ vp (auh) 300 (apz) 119 (az8.c (a0,a1,a2,())) [] 0 d119.rd=aiu a0 a1 a2:=aY
def aC1:=eL vp 119 O az8 d119 (λg=>aiu g.1 g.2.1 g.t.1)
def agD{F:bu}(h:bD vp F):bD vp (aC1 F):=gm (sc:=Bf) eo (fe ahI axV (λ_=>aY) (λ_=>aY) λg=>aGw g.1 g.2.1 g.t.1) ⟨_,func119,aY,aY⟩ (λ_=>aY) (λ_=>aY) h
def F55:bu:=(aC1 dA)
def atq:bD vp F55:=(agD aV)
abbrev E55:=Int
def d55:Td 0 E55:= .c [] [4] (.r 0 0 (ec 4 aP en) sn (λz=>z.1.1) (λx=>((x,()),(()))))
def A55:=(lc (qg 26) (lc (qg 29) ln))
def axT:An:=(noTwo (.two (noTwo (.two (.rb [] 14) .no)) .no))
def aH9:∀f∈([]:af Nat),bA (F55) f:=aH
def aGa:gu vp (F55) 0 300 55 (axT):=cH (l:=[(.skip,(.rb [] 14))]) func55 (bT aY) aY (aA aH9 aH)
def m55(a0:aS)(a1:bU):aa E55:=
 match aiu a0 a1 []with|G=>G|V r1=>match bif bif vn (r1=0)then O else J then V (bif vn (r1=2)then O else J)else V (O)with|G=>G|V r2=>bif r2 then V (r1)else V (0)
def c55(a0:aS)(a1:bU):bZ vp (F55) 300 (axT) 55 (A55.c (a0,a1,())) [] 0 d55.rd=m55 a0 a1:=aY
def e55:=eL vp 55 O A55 d55 (λg=>m55 g.1 g.2.1)
def auk{F:bu}(h:bD vp F):bD vp (e55 F):=gm (sc:=Bf) eo (fe atq aGa (λ_=>aY) (λ_=>aY) λg=>c55 g.1 g.2.1) ⟨_,func55,aY,aY⟩ (λ_=>aY) (λ_=>aY) h
def FN{F:bu}{f:Nat}(h:bA F f):bA (e55 F) f:=gF h (λ_=>aY)
def tH{α:Type}{c:Nat->α->Int}{k:Int}(hk:k≠0)(h:∀i x,c i x≠k):∀(l:af α) (i:Nat),cu c l i≠k
 |[],_=>by unfold cu;omega
 |x::l,i=>by
  unfold cu;have:=tH hk h l (i+1);have:=h i x;split<;>assumption
def Qb(vars:af bh)(inp:Bool)(t:az):fq vars inp t≠2:=by unfold fq;grind
def AS(f:aS):∀(top:Bool) (l:af aB),b8 f top l≠2
 |_,[]=>by rw[b8];decide
 |top,s::l=>by
  rw[b8];have h1:=AS f O s.aQ;have h2:=AS f O s.aX;have h3:=AS f top l;have h0:pz f (top&&l.isEmpty) s≠2:=by
   have:=Qb f.ai O s.aF;unfold pz;grind
  grind
termination_by _ l=>ze l
decreasing_by
 all_goals first|exact(bw (zk ..)).1|exact(bw (zk ..)).2|exact dY _ _
def ar7(f:aS):qT f≠2:=by
 have h1:jQ f.ai≠2:=by
  have:=tH (c:=nC f.ai) (k:=2) (by decide) (λi x=>by unfold nC;grind) f.ai 0;unfold jQ;grind
 have h2:=tH (c:=kU f) (k:=2) (by decide) (λi x=>by have:=Qb f.ai J x.aF;unfold kU;grind) f.ax 0;have h3:=AS f J f.bM;unfold qT;grind
def cdA(f:aS)(v:bU):Int:=if qT f≠0 then qT f else if zY v.bz≠(f.ai.filter (kd 2)).length then 1 else cu (jI v.bz) (f.ai.filter (kd 2)) 0
def are(f:aS)(v:bU):cdA f v≠2:=by
 have:=ar7 f;have:=tH (c:=jI v.bz) (k:=2) (by decide) (λi x=>by
  unfold jI;cases vn (v.bz[i]! <x.ah)<;>cases vn (x.ag<v.bz[i]!)<;>decide) (f.ai.filter (kd 2)) 0
 unfold cdA;grind
def alb(f:aS)(v:bU):Bn f v []=cdA f v\/(cdA f v=0/\Bn f v []=2):=by
 unfold Bn cdA;by_cases h1:qT f=0
 case neg=>simp[h1]
 by_cases h2:zY v.bz=zY (f.ai.filter (kd 2))
 case neg=>simp[h1,h2]
 by_cases h3:cu (jI v.bz) (f.ai.filter (kd 2)) 0=0
 case neg=>simp[h1,h2,h3]
 by_cases h4:zY (ei f.ai)=0
 ·have h5:=xu.1 h4;simp[h1,h2,h3,h5,cu]
 ·have h5:¬(0:Nat)=zY (ei f.ai):=λh=>h4 h.symm;simp[h1,h2,h3,h5]
def ayg{f:aS}(h:fK f.bM+kS (f.ax.map (·.aF))<=900)(hh:zY f.ax<=1000)(hl:zY f.ai<=1000)(v:bU):m55 f v=V (cdA f v):=by
 unfold m55 aiu;rw[azN h hh hl];have:=are f v;rcases alb f v with k|⟨k1,k2⟩
 ·rw[k];by_cases c0:cdA f v=0<;>simp[c0,this]
 ·rw[k1,k2];rfl
def JF{α:Type}[Inhabited α]{c:Nat->α->Int}:∀(l:af α) (i:Nat),(∀j,j<zY l->c (i+j) l[j]! =0)->cu c l i=0
 |[],_,_=>rfl
 |x::l,i,h=>by
  unfold cu;have h0:=h 0 (by simp);rw[yg]at h0;rw[bB (show c i x=0 from h0)];refine JF l (i+1) λj hj=> ?_;have:=h (j+1) (by simpa using hj);rw[show i+1+j=i+(j+1)by omega];simpa using this
def ab9(f:aS):mX f=(ei f.ai).map D8:=by
 unfold mX k9 ei;rw[zO];rfl
def Ul{f:aS}(hc:qT f=0){j:Nat}(hj:j<zY (ei f.ai)): -1048576<=(ei f.ai)[j]!.ah/\(ei f.ai)[j]!.ah<=(ei f.ai)[j]!.ag/\(ei f.ai)[j]!.ag<=1048576:=by
 refine kK hc _ ?_;have:=bf hj;unfold ei at this;rcases zP.1 this with k|k<;>exact(z8.1 k).1
def afz{l:af Int}(h:zY l<=1000):m35 l=V l:=by unfold m35;rw[gM]
def iD:af Int->af Int->Int
 |[],[]=>0
 |[],_::_=> -1
 |_::_,[]=>1
 |x::a,y::b=>if x<y then-1 else if y<x then 1 else iD a b
def rW:∀a b,iD b a= -iD a b
 |[],[]=>rfl
 |[],_::_=>rfl
 |_::_,[]=>rfl
 |x::a,y::b=>by
  have:=rW a b;unfold iD;split<;>split<;>(try split)<;>omega
def Fe:∀a b c,iD a b<=0->iD b c<=0->iD a c<=0
 |[],[],_,_,h=>h
 |[],_::_,[],_,h=>by unfold iD at h;omega
 |[],_::_,_::_,_,_=>by unfold iD;omega
 |_::_,[],_,h,_=>by unfold iD at h;omega
 |_::_,_::_,[],_,h=>by unfold iD at h;omega
 |x::a,y::b,z::c,h,k=>by
  have:=Fe a b c;simp only[iD]at h k ⊢;split at h<;>split at k<;>split<;>(try split)<;>(try split at h)<;>(try split at k)<;>omega
def tg:∀a b,iD a b=0->a=b
 |[],[],_=>rfl
 |[],_::_,h=>by unfold iD at h;omega
 |_::_,[],h=>by unfold iD at h;omega
 |x::a,y::b,h=>by
  unfold iD at h;split at h
  ·omega
  ·split at h
   ·omega
   ·rw[tg a b h,show x=y by omega]
def Ku:∀a,iD a a=0
 |[]=>rfl
 |x::a=>by unfold iD;rw[Ku a];simp
def dM(x y:aC):Int:=if iD x.aM y.aM≠0 then iD x.aM y.aM else if x.aI<y.aI then-1 else if y.aI<x.aI then 1 else 0
def dP(a b:aC):dM b a= -dM a b:=by
 have:=rW a.aM b.aM;unfold dM;grind
def ng(a b c:aC)(h:dM a b<=0)(k:dM b c<=0):dM a c<=0:=by
 have h1:=Fe a.aM b.aM c.aM;have h2:=tg a.aM b.aM;have h3:=tg b.aM c.aM;have h4:=rW a.aM c.aM;have h5:=Fe c.aM a.aM b.aM;have h6:=Fe b.aM c.aM a.aM;have h7:=rW b.aM c.aM;have h8:=rW a.aM b.aM;unfold dM at*;by_cases e1:iD a.aM b.aM=0
 ·have:=h2 e1;rw[bL au]at h;rw[this];by_cases e2:iD b.aM c.aM=0
  ·rw[bL au]at k;rw[bL au];split at h<;>split at k<;>split<;>(try split at h)<;>(try split at k)<;>(try split)<;>omega
  ·rw[bB e2]at k;rw[bB e2];exact k
 ·rw[bB e1]at h;by_cases e2:iD b.aM c.aM=0
  ·rw[<-h3 e2,bB e1];exact h
  ·rw[bB e2]at k;have h9:=h1 h k;have:iD a.aM c.aM≠0:=λe=>by
    have:=h5 au h;omega
   rw[bB this];exact h9
def oz{a b:aC}(h:dM a b=0):a=b:=by
 unfold dM at h;split at h
 ·exact dS h ‹_›
 ·have e:=tg a.aM b.aM au;split at h
  ·omega
  ·split at h
   ·omega
   ·obtain⟨a1,a2⟩:=a;obtain⟨b1,b2⟩:=b;simp only at*;rw[e,show a2=b2 by omega]
def sX(a:aC):dM a a=0:=by unfold dM;simp[Ku]
def anT(x y:Int):Np x y=if x<y then-1 else if y<x then 1 else 0:=by
 unfold Np I6;simp only[cD,DB];by_cases h:x<y
 ·simp[h]
 ·by_cases k:y<x<;>simp[h,k]
def wI{i n:Nat}(h:i<n)(hn:n<=9223372036854775807):ak ((i:Int)+1)=((i+1:Nat):Int):=by rw[aL au au];omega
def aeP(a b:af Int)(ha:zY a<=9223372036854775807\/b.length<=9223372036854775807):ajk a b=V (iD a b):=by
 obtain⟨step,hs⟩:∃step:Nat->Unit->Int->Unit ⊕ Int,step=λi _ x=>if zY b<=i then .inr 1 else if Np x b[i]!≠0 then .inr (Np x b[i]!)else .inl ():=⟨_,rfl⟩
 obtain⟨fin,hf⟩:∃fin:Unit->aa Int,fin=λ_=>V (if zY a<zY b then-1 else 0):=⟨_,rfl⟩;obtain⟨i,v,e1,-,hI⟩:=XF (rnd:=CK) a (λi (_:Unit)=>⟨a,b,a,(zY a:Int),(i:Int)⟩) step V fin (λ_ _=>True) (λi v hi _=>by
  have i1:(i:Int)<(zY a:Int):=au;have i2:(0:Int)<=(i:Int):=au;rw[hs];refine⟨λb' h=>⟨?_,trivial⟩,λr h=> ?_⟩<;>dsimp only at h
  ·split at h
   ·cases h
   ·split at h
    ·cases h
    ·rename_i g1 g2;have g3:¬(zY b:Int)<=(i:Int):=au;have g4:(i:Int)<(zY b:Int):=au;have hw:ak ((i:Int)+1)=((i+1:Nat):Int):=by rw[aL au au];omega
     unfold CK uJ;simp only[cG,cD,i1,i2,g3,g4,cW,hw,Decidable.not_not.1 g2]
  ·split at h
   ·rename_i g1;have g3:(zY b:Int)<=(i:Int):=au;unfold CK uJ;simp only[cG,i1,i2,g3,cK,cW]
   ·split at h
    ·rename_i g1 g2;have g3:¬(zY b:Int)<=(i:Int):=au;have g4:(i:Int)<(zY b:Int):=au;unfold CK uJ;simp only[cG,cD,i1,i2,g3,g4,cW,g2]
    ·cases h) (λv _=>by unfold CK uJ;simp) (b:=()) trivial
 have e1':Mm ⟨a,b,a,(zY a:Int),0⟩=V ⟨a,b,a,(zY a:Int),(i:Int)⟩:=e1;have key:∀(l:af Int) (k:Nat),k<=zY b->zY a=k+zY l->OQ step V fin l k ()=V (iD l (b.drop k)):=by
  intro l;induction l with
  |nil=>
   intro k hk hl;simp only[OQ,hf];simp only[yA,yg]at hl;by_cases h:k=zY b
   ·rw[h,wP,bL au];rfl
   ·rw[yQ au,bB au];rfl
  |cons x l ih=>
   intro k hk hl;simp only[yw]at hl;by_cases h:k=zY b
   ·rw[pU (r:=1) (by rw[hs];simp[h]),h,wP];rfl
   ·have hk':k<zY b:=au;rw[yQ hk'];have e:=anT x b[k]!;have eb:b[k]! =b[k]:=getElem!_pos b k hk';rw[eb]at e;unfold iD;by_cases h1:x<b[k]
    ·rw[pU (r:= -1) (by rw[hs];simp[show ¬b.length<=k by omega,e,eb,h1]),bB h1]
    ·by_cases h2:b[k]<x
     ·rw[pU (r:=1) (by rw[hs];simp[show ¬b.length<=k by omega,e,eb,h1,h2]),bL h1,bB h2]
     ·rw[tM (b':=()) (by rw[hs];simp[show ¬b.length<=k by omega,e,eb,h1,h2]),bL h1,bL h2];exact ih (k+1) au au
 have hk:=key a 0 au au;rw[xI]at hk;rw[<-hk];unfold ajk uJ;simp only[e1'];rcases hI with ⟨rfl,hg⟩|⟨hi,r,hr,hg⟩
 ·rw[hg,hf];simp only[yx,Ej,ct];by_cases h:zY a<zY b
  ·rw[bB h,bX (by omega:(zY a:Int)<(zY b:Int))];rfl
  ·rw[bL h,bW (by omega:¬(zY a:Int)<(zY b:Int))];rfl
 ·rw[hg];have i1:(i:Int)<(zY a:Int):=au;have i2:(0:Int)<=(i:Int):=au;rw[hs]at hr;simp only at hr;split at hr
  ·rename_i g1;have g3:(zY b:Int)<=(i:Int):=au;simp only[cG,i1,i2,g3,cK,cW];cases hr;rfl
  ·split at hr
   ·rename_i g1 g2;have g3:¬(zY b:Int)<=(i:Int):=au;have g4:(i:Int)<(zY b:Int):=au;simp only[cG,cD,i1,i2,g3,g4,cW,g2];cases hr;rfl
   ·cases hr
def Qi(a b:aC)(ha:zY a.aM<=9223372036854775807\/b.aM.length<=9223372036854775807):N3 a b=V (dM a b):=by
 unfold N3 dM;rw[aeP _ _ ha];dsimp only;by_cases h:iD a.aM b.aM=0
 ·by_cases h1:a.aI<b.aI
  ·simp[h,h1]
  ·by_cases h2:b.aI<a.aI<;>simp[h,h1,h2]
 ·simp[h]
def MP(a b:aC)(ha:zY a.aM<=9223372036854775807):N3 a b=V (dM a b):=Qi a b (.inl ha)
def pZ:aC->af aC->af aC
 |_,[]=>[]
 |p,y::l=>if dM y p=0 then pZ y l else y::pZ y l
def Bd:af aC->af aC
 |[]=>[]
 |x::l=>x::pZ x l
end Go.Proofs.YtnfljbehcffmcaaGreat
end
noncomputable section
namespace Go.Proofs.YtnfljbehcffmcaaGreat
open Go Go.Iv Go.Sort Go.Proofs
abbrev Ob(A:Nat->Prop)(w:World):={p:aC×af Value//p.2.length=2/\bN A w (uni.cells 47 p.1) p.2}
section
variable {A:Nat->Prop} {w:World}
def aqJ{o:aC}{us:af Value}(h:zY us=2/\bN A w (uni.cells 47 o) us):∃u v,us=[u,v]/\Rel A w (.sl 3 o.aM) u/\v= .int .i64 o.aI:=by
 obtain⟨h1,h2⟩:=h
 match us,h1 with
 |[u,v],_=>exact⟨u,v,rfl,h2.2 0 _ _ rfl rfl,(h2.2 1 (.lit (.int .i64 o.aI)) v rfl rfl).cL⟩
def abL{o:aC}{u:Value}(h:Rel A w (.sl 3 o.aM) u):bN A w (uni.cells 47 o) [u, .int .i64 o.aI]:=
 ⟨rfl,λj a v h1 h2=>by
  match j with
  |0=>cases h1;cases h2;exact h
  |1=>cases h1;cases h2;exact .lit _
  |j+2=>cases h1⟩
def aCp:Rel A w (.sl 3 ([]:af Int)) (.slice none 0 0):=Rel.sl (U:=uni) 3 [] none 0 (λ_ _=> .int .i64 0) (yU _) (zl _) (λi hi=>by cases hi) (λi hi=>by cases hi) (λi j a hi=>by cases hi)
instance:Inhabited (Ob A w):=⟨⟨(⟨[],0⟩,[.slice G 0 0, .int .i64 0]),rfl,abL aCp⟩⟩
def oL(x:Ob A w):af Value:=x.1.2
def ku(x:Ob A w):zY (oL x)=2:=x.2.1
def Ep(x:Ob A w):∀v∈oL x,v.oneCell'=J:=λv hv=>by
 obtain⟨u,t,h1,h2,h3⟩:=aqJ x.2;unfold oL at hv;rw[h1]at hv;rcases zx.1 hv with rfl|hv
 ·cases h2;rfl
 ·rw[zo.1 hv,h3];rfl
def aqw(x:Ob A w):zY x.1.1.aM<=9223372036854775807:=by
 obtain⟨u,t,h1,h2,h3⟩:=aqJ x.2;generalize x.1.1.aM=l at h2;cases h2 with
 |sl t l p cap u hl hcap hz hc hr=>exact hl
def JC{α:Type}[Inhabited α](enc:α->af Value)(d:Array α){us:af Value}(h1:zY us=d.size*2)(h:∀i,i<d.size->enc d[i]! =(us.drop (i*2)).take 2):flatK enc 2 d=us.toArray:=by
 refine ext_get! (by simp[h1]) λt ht=> ?_;have ht:t<d.size*2:=by simpa using ht
 rw[get_flatK _ _ _ _ ht,h _ au];have e:(us.toArray:Array Value)[t]! =us[t]! :=by simp
 rw[e,getElem!_pos us t au,getElem!_pos _ _ (by simp;omega),xK,xS]
 congr 1
 omega
def JJ{α:Type}[Inhabited α]{enc:α->af Value}{d:Array α}{W:World}{g:Nat}{cur:Array Value}{T:TypeId}{us:af Value}(hb:W.heap[g]? =V (.cells cur T (0,0)))(hf:flatK enc 2 d=us.toArray)(hc:cur.toList.take us.length=us):HoldsK enc 2 W g 0 d:=by
 unfold HoldsK;rw[hf];intro j hj;have hj':j<zY us:=by simpa using hj
 refine⟨?_,by simp[World.frozen?,hb]⟩;have h1:(cur.toList.take (zY us))[j]? =us[j]? :=by rw[hc]
 rw[wu hj']at h1;simp only[World.cell?,hb,yj];simp only[vk,yy,IY];rw[<-wQ,h1];simp[hj']
def uY{α:Type}[Inhabited α]{enc:α->af Value}{W:World}{g m:Nat}{dk:Array α}{os:Array Obj}{cur:Array Value}{T:TypeId}(hb:W.heap[g]? =V (.cells cur T (0,0))):
  (sortWorldK enc 2 W g 0 m dk os).heap[g]? =V (.cells (putCells id 0 (flatK enc 2 dk) cur) T (0,0)):=by
 have hg:g<W.heap.size:=(y8.1 hb).1;unfold sortWorldK putRowK;rw[heap_grow_old _ _ (by simpa using hg)];simp[putRow,mapBlock,Sort.ahead,vm,hb,onCells]
def sB{α:Type}[Inhabited α]{enc:α->af Value}{W:World}{g m:Nat}{dk:Array α}{os:Array Obj}{b:Nat}(hb:b<W.heap.size)(hne:b≠g):
  (sortWorldK enc 2 W g 0 m dk os).heap[b]? =W.heap[b]? :=by
 unfold sortWorldK putRowK;rw[heap_grow_old _ _ (by simpa using hb)];simp[putRow,mapBlock,Sort.ahead,vm,Ne.symm hne]
def Vs{α:Type}[Inhabited α]{enc:α->af Value}{W:World}{g m:Nat}{dk:Array α}{os:Array Obj}:W.heap.size<=(sortWorldK enc 2 W g 0 m dk os).heap.size:=size_sortWorldK_c enc 2 W g 0 m dk os
def QJ{α:Type}[Inhabited α]{enc:α->af Value}{W:World}{g m:Nat}{dk:Array α}{os:Array Obj}:Kp [g] W (sortWorldK enc 2 W g 0 m dk os):=
 ⟨rfl,rfl,rfl,Nat.le_add_right _ _,Vs,λk hk hn=>sB hk (by simpa using hn)⟩
def P7{F cur:Array Value}(h:F.size<=cur.size):(putCells id 0 F cur).toList.take F.size=F.toList:=by
 apply List.ext_getElem?;intro j;by_cases hj:j<F.size
 ·rw[wu hj,wQ];simp[putCells,hj,show j<cur.size by omega]
 ·rw[List.getElem?_take_eq_none au,wE (by simp;omega)]
def ajh{W W':World}(h:Kp [] W W'):∃q os,W'=grow (W.drewN q) os:=by
 refine⟨W'.drawn-W.drawn,W'.heap.extract W.heap.size W'.heap.size,?_⟩;have e1:=h.os;have e2:=h.tape;have e3:=h.output;have e4:=h.drawn
 have e5:W'.heap=W.heap++W'.heap.extract W.heap.size W'.heap.size:=by
  apply Array.ext_getElem?;intro k;rw[Array.getElem?_append];have hs:=h.size;split
  ·exact h.block k (by assumption) (by simp)
  ·rename_i hk;rw[Array.getElem?_extract];by_cases h2:k<W'.heap.size
   ·rw[bB au,show W.heap.size+(k-W.heap.size)=k by omega]
   ·rw[bL au,Array.getElem?_eq_none au]
 obtain⟨hp,tp,dr,os,ot⟩:=W;obtain⟨hp',tp',dr',os',ot'⟩:=W';simp only at e1 e2 e3 e4;simp only[grow,World.drewN,World.mk.injEq];exact⟨e5,e2,au,e1,e3⟩
def auO:bu:=(Lw dA)
def alx:bD vp auO:=(s9 aV)
abbrev azc:=Bool
def d252:Td 0 azc:= .c [] [4] (.r 0 0 (ec 4 qb en) sn (λz=>z.1.1) (λx=>((x,()),(()))))
def ayC:=(lc (qg 47) (lc (qg 47) ln))
def aoJ:An:= .no
def aDo:gu vp (auO) 0 300 252 (aoJ):=cH (l:=[]) func252 (bT aY) aY aH
def agP(a0:aC)(a1:aC):aa azc:=
 match N3 a0 a1 with|G=>G|V r1=>V (vn (r1=0))
def aF1(a0:aC)(a1:aC):bZ vp (auO) 300 (aoJ) 252 (ayC.c (a0,a1,())) [] 0 d252.rd=agP a0 a1:=aY
def auU:=eL vp 252 O ayC d252 (λg=>agP g.1 g.2.1)
def an4{F:bu}(h:bD vp F):bD vp (auU F):=gm (sc:=Bf) eo (fe alx aDo (λ_=>aY) (λ_=>aY) λg=>aF1 g.1 g.2.1) ⟨_,func252,aY,aY⟩ (λ_=>aY) (λ_=>aY) h
def azH(a b:aC)(h:zY a.aM<=9223372036854775807):Iv.Fn vp 188 [.agg (uni.cells 47 a), .agg (uni.cells 47 b)] [] (λx s=>x= .n .i64 (dM a b)/\s=[]):=
 (Sz (F:=Lw dA) (s9 aV).ok (P0.i .i64) rfl (jY aY) ((show Lw dA Int 188 [.agg (uni.cells 47 a), .agg (uni.cells 47 b)] [] 0 (UA (iI .i64))=(match N3 a b with|G=>G|V r=>V r)from aY).trans (by rw[MP a b h]))).2
def aC4(a b:aC)(h:zY a.aM<=9223372036854775807):Iv.Fn vp 252 [.agg (uni.cells 47 a), .agg (uni.cells 47 b)] [] (λx s=>x= .b (vn (dM a b=0))/\s=[]):=
 (Sz (F:=auU dA) (an4 aV).ok P0.b rfl (jY aY) ((show auU dA Bool 252 [.agg (uni.cells 47 a), .agg (uni.cells 47 b)] [] 0 (UA Sq)=(match agP a b with|G=>G|V r=>V r)from aY).trans (by unfold agP;rw[MP a b h]))).2
def Yj{f:Nat}{x y:Ob A w}{r:Value}(hf:Iv.Fn vp f [.agg (uni.cells 47 x.1.1), .agg (uni.cells 47 y.1.1)] [] (λa s=>a= .lit r/\s=[])){W:World}(hW:∀b,b<w.heap.size->A b->W.heap[b]? =w.heap[b]?):
  Calls vp f #[.agg (oL x).toArray, .agg (oL y).toArray] W λe w'=>e= .returned r/\∃q os',w'=grow (W.drewN q) os':=by
 have hr:∀z:Ob A w,bN A W (uni.cells 47 z.1.1) (oL z):=λz=>z.2.2.mono λb hb hA=>⟨hA,hW b hb hA⟩;refine(hf W A [.agg (oL x).toArray, .agg (oL y).toArray] ⟨rfl,λj a v h1 h2=> ?_⟩ ⟨λr hr=>(by cases hr),λb hb=>(by cases hb)⟩ List.nodup_nil).mono λe w' ⟨v,av,σ',he,⟨h1,h2⟩,ht,hv⟩=> ?_
 ·match j with
  |0=>cases h1;cases h2;exact .agg _ _ (hr x).1 (hr x).2
  |1=>cases h1;cases h2;exact .agg _ _ (hr y).1 (hr y).2
  |j+2=>cases h1
 ·rw[h1]at hv;exact⟨by rw[he,hv.cL],ajh ht.kp⟩
def EV:SWO (ltOf dM) where
 irrefl x:=by unfold ltOf;rw[sX];rfl
 trans x y z h1 h2:=by
  unfold ltOf at*;simp only[decide_eq_true_eq]at*;have a:=dP x y;have b:=dP y z;have c:=dP x z
  have:=ng z x y;by_cases h:dM x z<0
  ·exact h
  ·have:=this au au;omega
 ntrans x y z h1 h2:=by
  unfold ltOf at*;simp only[decide_eq_false_iff_not]at*;have a:=dP x y;have b:=dP y z;have c:=dP x z
  have:=ng z y x au au;omega
def aiH(x y:aC)(h1:ltOf dM x y=O)(h2:ltOf dM y x=O):x=y:=by
 unfold ltOf at*;simp only[decide_eq_false_iff_not]at*;have a:=dP x y;exact oz au
def GJ(l:af aC):af aC:=l.mergeSort λx y=> !ltOf dM y x
def obC(x y:Ob A w):Int:=dM x.1.1 y.1.1
def alK:SWO (ltOf (obC (A:=A) (w:=w))):=⟨λx=>EV.irrefl x.1.1,λx y z=>EV.trans x.1.1 y.1.1 z.1.1,λx y z=>EV.ntrans x.1.1 y.1.1 z.1.1⟩
end
def Wz{A:Nat->Prop}{w:World}{l:af aC}{us:af Value}(h1:zY us=zY l*2)(h3:∀i,i<zY l->bN A w (uni.cells 47 l[i]!) ((us.drop (i*2)).take 2)):
  ∃d:Array (Ob A w),d.size=zY l/\(d.toList.map λx=>x.1.1)=l/\flatK oL 2 d=us.toArray:=by
 have hx:∀i:Fin (zY l),zY ((us.drop (i.1*2)).take 2)=2/\bN A w (uni.cells 47 l[i]) ((us.drop (i.1*2)).take 2):=λi=>by
  have hi:=i.2;refine⟨by rw[zD,zV];omega,?_⟩;have:=h3 i.1 hi
  rwa [getElem!_pos l i.1 hi]at this
 refine⟨Array.ofFn λi:Fin l.length=>(⟨(l[i],(us.drop (i.1*2)).take 2),hx i⟩:Ob A w),by simp,?_,JC _ _ (by simpa using h1) λi hi=> ?_⟩
 ·apply xw (by simp);intro i q1 q2;simp
 ·have hi':i<zY l:=by simpa using hi
  rw[getElem!_pos _ i hi];simp[oL]
def Vv{A:Nat->Prop}{w:World}(d:Array (Ob A w))(l:af aC)(h:(d.toList.map λx=>x.1.1)=l):zY (flatK oL 2 d).toList=zY l*2/\∀i,i<zY l->bN A w (uni.cells 47 l[i]!) (((flatK oL 2 d).toList.drop (i*2)).take 2):=by
 have hs:d.size=zY l:=by rw[<-h];simp
 refine⟨by simp[hs],λi hi=> ?_⟩;have e:(((flatK oL 2 d).toList.drop (i*2)).take 2)=oL d[i]! :=by
  apply xw
  ·rw[ku,zD,zV];simp[hs];omega
  ·intro j q1 q2;rw[ku]at q2;rw[xK,xS,Array.getElem_toList];have:=get_flatK oL 2 d (i*2+j) au;rw[getElem!_pos _ _ (by simp;omega)]at this;rw[this,show (i*2+j)/2=i by omega,show (i*2+j)%2=j by omega,getElem!_pos _ j (by rw[ku];exact q2)]
 rw[e];have e2:l[i]! =d[i]!.1.1:=by
  subst h;rw[getElem!_pos _ i hi,getElem!_pos d i au];simp
 rw[e2];exact d[i]!.2.2
end Go.Proofs.YtnfljbehcffmcaaGreat
end
noncomputable section
set_option maxRecDepth 100000
namespace Go.Proofs.YtnfljbehcffmcaaGreat
open Go Go.Iv Go.Sort Go.Proofs
abbrev aBA:=af aC
def d200:Td 1 aBA:= .c [] [] (.r 1 1 en (sr 0 47 sn) (λz=>z.2.1) (λx=>((()),(x,()))))
def awX:=(lc (qo 0) (lc (qf 188 ln) ln))
def awR:=(sr 0 47 sn)
def aac(b0:af aC):aa aBA:=if zY b0<=1073741824 then V (GJ b0)else G
def aqj:Prop:=HY vp 200 1 awX awR d200 (λg=>aac g.2.1)
def aH2:bu->bu:=eY vp 200 1 awX awR d200 (λg=>aac g.2.1)
def ab2(hv:aqj){F:bu}(h:bD vp F):bD vp (aH2 F):=Dy hv ⟨_,func200,aY,aY⟩ (λ_=>aY) h
def SA:Go.Shelf.Ren:=⟨λ|6=>200|15=>257|14=>256|28=>300|29=>301|20=>292|21=>293|22=>294|23=>295|24=>296|25=>297|26=>298|27=>299|46=>332|47=>333|48=>334|49=>335|50=>336|57=>348|n=>n,λ|22=>50|24=>47|25=>195|39=>240|53=>322|55=>324|46=>316|45=>315|50=>193|66=>344|70=>348|76=>356|77=>297|n=>n,λ|n=>n⟩
def afC:Go.Proofs.SlLaysF0.n6 vp SA where
 mixed:=aY
 f6:=⟨f200.name,aY,func200.trans (congrArg V aY)⟩
 f14:=⟨f256.name,aY,func256.trans (congrArg V aY)⟩
 f15:=func257.trans (congrArg V aY)
 f20:=⟨f292.name,aY,func292.trans (congrArg V aY)⟩
 f21:=⟨f293.name,aY,func293.trans (congrArg V aY)⟩
 f22:=⟨f294.name,aY,func294.trans (congrArg V aY)⟩
 f23:=⟨f295.name,aY,func295.trans (congrArg V aY)⟩
 f24:=⟨f296.name,aY,func296.trans (congrArg V aY)⟩
 f25:=⟨f297.name,aY,func297.trans (congrArg V aY)⟩
 f26:=⟨f298.name,aY,func298.trans (congrArg V aY)⟩
 f27:=⟨f299.name,aY,func299.trans (congrArg V aY)⟩
 f28:=func300.trans (congrArg V aY)
 f29:=func301.trans (congrArg V aY)
 f46:=⟨f332.name,aY,func332.trans (congrArg V aY)⟩
 f47:=func333.trans (congrArg V aY)
 f48:=func334.trans (congrArg V aY)
 f49:=⟨f335.name,aY,func335.trans (congrArg V aY)⟩
 f50:=⟨f336.name,aY,func336.trans (congrArg V aY)⟩
 f57:=⟨f348.name,aY,func348.trans (congrArg V aY)⟩
 t0:=underlying0
 a0:=Tryz.isAgg0
 z0:=Tryz.sizeOf0
 v0:=Tryz.zeroValue0
 t3:=underlying3
 a3:=Tryz.isAgg3
 z3:=Tryz.sizeOf3
 v3:=Tryz.zeroValue3
 t4:=underlying4
 a4:=Tryz.isAgg4
 z4:=Tryz.sizeOf4
 v4:=Tryz.zeroValue4
 t5:=underlying5
 a5:=Tryz.isAgg5
 z5:=Tryz.sizeOf5
 v5:=Tryz.zeroValue5
 t9:=underlying9
 a9:=Tryz.isAgg9
 z9:=Tryz.sizeOf9
 v9:=Tryz.zeroValue9
 t22:=underlying50
 a22:=Tryz.isAgg50
 z22:=Tryz.sizeOf50
 v22:=Tryz.zeroValue50
 t25:=underlying195
 a25:=Tryz.isAgg195
 z25:=Tryz.sizeOf195
 v25:=Tryz.zeroValue195
 t39:=underlying240
 a39:=Tryz.isAgg240
 z39:=Tryz.sizeOf240
 v39:=Tryz.zeroValue240
 t45:=underlying315
 a45:=Tryz.isAgg315
 z45:=Tryz.sizeOf315
 v45:=Tryz.zeroValue315
 t46:=underlying316
 a46:=Tryz.isAgg316
 z46:=Tryz.sizeOf316
 v46:=Tryz.zeroValue316
 t50:=underlying193
 a50:=Tryz.isAgg193
 z50:=Tryz.sizeOf193
 v50:=Tryz.zeroValue193
 t53:=underlying322
 a53:=Tryz.isAgg322
 z53:=Tryz.sizeOf322
 v53:=Tryz.zeroValue322
 t55:=underlying324
 a55:=Tryz.isAgg324
 z55:=Tryz.sizeOf324
 v55:=Tryz.zeroValue324
 t66:=underlying344
 a66:=Tryz.isAgg344
 z66:=Tryz.sizeOf344
 v66:=Tryz.zeroValue344
 t70:=underlying348
 a70:=Tryz.isAgg348
 z70:=Tryz.sizeOf348
 v70:=Tryz.zeroValue348
 t76:=underlying356
 a76:=Tryz.isAgg356
 z76:=Tryz.sizeOf356
 v76:=Tryz.zeroValue356
 t77:=underlying297
 a77:=Tryz.isAgg297
 z77:=Tryz.sizeOf297
 v77:=Tryz.zeroValue297
def Y9{A:Nat->Prop}{w:World}{d d':Array (Ob A w)}(hp:PermIn 0 d.size d d')(hs:SortedIn (ltOf obC) 0 d.size d'):(d'.toList.map λx=>x.1.1)=GJ (d.toList.map λx=>x.1.1):=by
 obtain⟨h1,_,h3⟩:=hp;have e1:d'.extract 0 d.size=d':=by rw[<-h1];exact Array.extract_size
 rw[e1,Array.extract_size]at h3;have hz:∀c:Array (Ob A w),(c.map λx=>x.1.1).toList=c.toList.map λx=>x.1.1:=λc=>by simp
 have:=sorted_unique_holds EV aiH (d.map λx=>x.1.1) (d'.map λx=>x.1.1) ⟨by simp[h1],λi hi=> ?_,?_⟩ (λi j hi hij hj=> ?_)
 ·rw[hz,hz]at this;exact this
 ·have:d.size<=i:=by rcases hi with h|h;omega;simpa using h
  rw[getElem!_neg _ i (by simp;omega),getElem!_neg _ i (by simp;omega)]
 ·have a1:(d'.map λx=>x.1.1).extract 0 (d.map λx=>x.1.1).size=(d'.map λx=>x.1.1):=by
   rw[show (d.map λx=>x.1.1).size=(d'.map λx=>x.1.1).size by simp[h1]];exact Array.extract_size
  rw[a1,Array.extract_size,hz,hz];exact h3.map _
 ·have hj':j<d.size:=by simpa using hj
  have:=hs i j hi hij hj';rw[getElem!_pos _ i au,getElem!_pos _ j au]at this;rw[getElem!_pos _ i (by simp;omega),getElem!_pos _ j (by simp;omega)];simp only[Array.getElem_map];exact this
def ara(l b:af aC)(hb:aac l=V b):N4 vp 200 [.own 0, .fn (.func 188) []] [(0, .row 47 l)] 1 (fZ vp 200 1 (d200.pat b)):=by
 unfold aac at hb;split at hb
 case isFalse=>cases hb
 rename_i hlen;have hbl:b=GJ l:=(zF.inj hb).symm;have hln:zY b=zY l:=by rw[hbl];unfold GJ;rw[List.length_mergeSort]
 intro ρ;have ho:fZ vp 200 1 (d200.pat b)=⟨.jo [],[(0, .row 47 b)],1⟩:=aY;show Go.Iv.Fn vp 200 [(b7.own 0).sub ρ,(b7.fn (.func 188) []).sub ρ] (bt.res ρ [(0, .row 47 l)]) _;rw[ho,dx,show (b7.fn (de:=uni.de) (.func 188) []).sub ρ= .fn (.func 188) []by simp[b7.sub]];intro w A vs hr hd hn;obtain⟨hr1,hr2⟩:=hr;obtain⟨v,v2,rfl⟩:∃v v2,vs=[v,v2]:=by
  match vs,hr1 with
  |[v,v2],_=>exact⟨v,v2,rfl⟩
 have hv:v=ρ.v 0:=(hr2 0 _ v rfl rfl).cL;have hv2:v2= .func (.func 188) #[] #[]:=by
  have:=hr2 1 (.fn (.func 188) []) v2 rfl rfl;cases this with
  |fn f cs us hl hrr=>rw[xu.1 hl]
 subst hv hv2;generalize hv:ρ.v 0=v at*;have hok:=hd.1 (.row v 47 l) (by show _∈[cc.row (ρ.v 0) 47 l];rw[hv];exact zo.2 rfl);obtain⟨us,h1,h2,h3⟩:=hok;have hσ:bt.res ρ [(0, .row 47 l)]=[cc.row v 47 l]:=by show [cc.row (ρ.v 0) 47 l]=_;rw[hv]
 rw[hσ]at hd hn ⊢;have fin:∀w':World,(∃us',gh w' v 47 2 (zY b) us'/\∀i,i<zY b->bN A w (uni.cells 47 b[i]!) ((us'.drop (i*2)).take 2))->Kp (bC [cc.row v 47 l]) w w'->∃v_1 av σ',Ending.returned (Value.tuple #[])=Ending.returned v_1/\
   (∃ρ',qC 1 ρ ρ'/\av=(b7.jo (de:=uni.de) []).sub ρ'/\List.Perm σ' (bt.res ρ' [(0, .row 47 b)]))/\Tr ⟨w,A,bC [cc.row v 47 l]⟩ (bC [cc.row v 47 l]) [cc.row v 47 l] w σ' w'/\Rel (al ⟨w,A,bC [cc.row v 47 l]⟩ σ') w' av v_1:=λw' ⟨us',hrow,hrel⟩ hk=>by
  have hbk:bC [cc.row v 47 b]=bC [cc.row v 47 l]:=rfl;have hal:∀x,al ⟨w,A,bC [cc.row v 47 l]⟩ [cc.row v 47 l] x->al ⟨w,A,bC [cc.row v 47 l]⟩ [cc.row v 47 b] x:=λx h=>h;refine⟨_, .jo [],[cc.row v 47 b],rfl,⟨ρ,λi _=>⟨rfl,rfl⟩,by simp only[b7.sub,yT],by show List.Perm _ [cc.row (ρ.v 0) 47 b];rw[hv]⟩,⟨⟨hk,?_,?_,?_⟩,hk,λx _ h=>⟨hal x h,h.2⟩⟩,Rel.jo [] [] rfl (λj a v q=>by cases q)⟩
  ·intro r hr;rw[zo.1 hr];refine⟨us',hrow,λi _=>rfl,λi hi=>(hrel i hi).mono λx hx hA=> ?_⟩;have hnb:x∉bC [cc.row v 47 l]:=λh=>hd.2 x h hA;exact⟨⟨.inl hA,hnb⟩,hk.block x hx hnb⟩
  ·rw[hbk];exact hn
  ·intro x hx;exact .inl hx
 obtain⟨h1l,hcase⟩:=h1;rcases hcase with ⟨p,hvp,hl0⟩|⟨gb,cap,cur,hvp,hg,q1,q2,q3,q4⟩
 ·have hl:l=[]:=xu.1 hl0;have hbn:b=[]:=by rw[hbl,hl];unfold GJ;rw[List.mergeSort_nil]
  subst hvp;refine(Go.Proofs.AnyF.slices_SortFunc_none {afC with} p 0 (.func (.func 188) #[] #[]) w).mono λe w' he=> ?_;obtain⟨rfl,rfl⟩:=he;refine fin w' ⟨[],?_,λi hi=>by rw[hbn]at hi;cases hi⟩ (Kp.refl _ _);rw[hbn];exact⟨rfl, .inl ⟨p,rfl,rfl⟩⟩
 ·subst hvp;have hgs:gb<w.heap.size:=(y8.1 hg).1;have hAg:¬A gb:=hd.2 gb (bQ.2 ⟨_,zo.2 rfl,rfl⟩);have q4:cur.toList.take (zY l*2)=us:=q4;have q3:cur.size=(cap+1)*2:=q3;have h1l:zY us=zY l*2:=h1l;have q1':zY l<=cap+1:=q1;have hsz:zY l<=9223372036854775807:=by have:maxLen=9223372036854775807:=rfl;omega
  obtain⟨d,d1,d2,d3⟩:=Wz h1l h3;have hH:HoldsK oL 2 w gb 0 d:=JJ hg d3 (by rw[h1l];exact q4);have hcmp:CmpLays vp 188 #[] oL 2 obC gb 0 d.size w:=λm os dk hdk x y=>by
   refine Yj (azH x.1.1 y.1.1 (aqw x)) (λc hc hA=>sB hc λe=>hAg (e▸hA))
  have hs:=Go.Proofs.AnyQ.slices_SortFunc afC 2 Tryz.isAgg47 Tryz.sizeOf47 oL ku Ep obC alK 188 #[] gb 0 (cap+1) d w (enters_of func188 aY rfl) hcmp hH hgs (by rw[d1];omega);rw[d1]at hs;refine hs.mono λe w' he=> ?_;obtain⟨rfl,d',n,os,hp,hs,rfl⟩:=he;rw[<-d1]at hp hs;have hbd:(d'.toList.map λx=>x.1.1)=b:=by rw[Y9 hp hs,d2,hbl]
  obtain⟨r1,r2⟩:=Vv d' b hbd;have hF:(flatK oL 2 d').size=zY l*2:=by rw[<-yo,r1,hln]
  refine fin _ ⟨(flatK oL 2 d').toList,⟨r1, .inr ⟨gb,cap,_,by rw[hln];rfl,uY hg,by rw[hln];exact q1,q2,by simp[putCells,q3],?_⟩⟩,r2⟩ ?_
  ·have:=P7 (F:=flatK oL 2 d') (cur:=cur) (by rw[hF,q3];omega)
   rwa [<-yo,r1]at this
  ·exact QJ
def azf:aqj:=λg b hb=>ara g.2.1 b hb
end Go.Proofs.YtnfljbehcffmcaaGreat
end
noncomputable section
set_option maxRecDepth 100000
namespace Go.Proofs.YtnfljbehcffmcaaGreat
open Go Go.Iv Go.Sort Go.Proofs Go.Shelf Go.RowKit Go.Lib
section
variable {α:Type} [Inhabited α] (r:α->α->Bool)
def N7(d:Array α)(j:Nat):Bool:=vn (j=0)|| !r d[j]! d[j-1]!
def I8(d:Array α)(m:Nat):af α:=((zH m).filter (N7 r d)).map (d[·]!)
variable {r}
def mF(d:Array α)(m:Nat):I8 r d (m+1)=I8 r d m++(if N7 r d m then[d[m]!]else[]):=by
 unfold I8;rw[wG,xh,zO];grind
def Ml(d:Array α)(m:Nat)(h:∀j,j<m->N7 r d j=J):I8 r d m=(zH m).map (d[·]!):=by
 unfold I8;rw[wV.2 (λj hj=>h j (List.mem_range.1 hj))]
def Sa(d:Array α):(zH d.size).map (d[·]!)=d.toList:=by
 apply xw
 ·simp
 ·intro i h1 h2;have hi:i<d.size:=by simpa using h2
  simp[hi]
structure Ea (r:α->α->Bool) (d:Array α) (m k:Nat) (dk:Array α):Prop where
 size:dk.size=d.size
 len:zY (I8 r d m)=k
 lt:k<m
 low:∀j,j<k->(I8 r d m)[j]? =V dk[j]!
 high:∀j,k<=j->dk[j]! =d[j]!
def Ea.start{d:Array α}{k0:Nat}(hall:∀j,j<k0->N7 r d j=J)(hdup:N7 r d k0=O):Ea r d (k0+1) k0 d where
 size:=rfl
 len:=by rw[mF,hdup,Ml d k0 hall];simp
 lt:=zC _
 low:=λj hj=>by rw[mF,hdup,Ml d k0 hall];simp[hj]
 high:=λ_ _=>rfl
def Ea.keep{d dk:Array α}{m k:Nat}(h:Ea r d m k dk)(hm:m<d.size)(hk:N7 r d m=J):Ea r d (m+1) (k+1) (dk.setIfInBounds k d[m]!) where
 size:=by simp[h.size]
 len:=by rw[mF,hk];simp[h.len]
 lt:=by have:=h.lt;omega
 low:=λj hj=>by
  rw[mF,hk,bB rfl];by_cases e:j=k
  ·subst e;rw[wX (by rw[h.len];exact zl _),h.len,xT,getElem!_set_same dk j _ (by have:=h.lt;have:=h.size;omega)];rfl
  ·rw[wY (by rw[h.len];omega),h.low j au,getElem!_set_other dk k j _ e]
 high:=λj hj=>by rw[getElem!_set_other dk k j _ au,h.high j au]
def Ea.skip{d dk:Array α}{m k:Nat}(h:Ea r d m k dk)(hk:N7 r d m=O):Ea r d (m+1) k dk where
 size:=h.size
 len:=by rw[mF,hk];simpa using h.len
 lt:=by have:=h.lt;omega
 low:=λj hj=>by rw[mF,hk];simpa using h.low j hj
 high:=h.high
end
section
variable {P:Program} {α:Type} [Inhabited α] {enc:α->af Value} {k:Nat} {w0 W:World} {blk off:Nat} {dk:Array α}
def PC(hk:∀x,zY (enc x)=k)(d:Array α)(i:Nat)(hi:i<d.size)(x:α):setMany (flatK enc k d) (i*k) (enc x)=flatK enc k (d.setIfInBounds i x):=by
 refine ext_get! (by simp) λt ht=> ?_;have ht':t<d.size*k:=by simpa using ht
 have k0:0<k:=by
  rcases wA k with h|h
  ·simp_all
  ·exact h
 rw[get_setMany _ _ _ t (by simpa using ht'),get_flatK _ _ _ t ht',get_flatK _ _ _ t (by simpa using ht'),hk];by_cases a:t/k=i
 ·rw[bB ((blk_iff k i t k0).2 a),a,getElem!_set_same d i x hi,Nat.mod_eq_sub_div_mul,a]
 ·rw[bL (λh=>a ((blk_iff k i t k0).1 h)),getElem!_set_other d i _ x a]
def UU(h:SWK enc k w0 blk off dk W)(hk:∀x,zY (enc x)=k)(hb:blk<w0.heap.size)(i:Nat)(hi:i<dk.size)(x:α):SWK enc k w0 blk off (dk.setIfInBounds i x) (W.setCells blk (off+i*k) (enc x)):=by
 obtain⟨n,os,rfl⟩:=h;refine⟨n,os,?_⟩;unfold sortWorldK;rw[setCells_grow os blk _ _ _ (by show blk<(putRowK enc k _ blk off dk).heap.size;rw[size_putRowK];exact hb)];unfold putRowK;have:=yh k (show i+1<=dk.size from hi);rw[zW,yL]at this;rw[setCells_putRow _ _ _ _ _ _ (by rw[hk,size_flatK];exact this),PC hk dk i hi x]
def amc(h:SWK enc k w0 blk off dk W){d0:Array α}(R:RowK enc k w0 blk off d0)(hs:dk.size=d0.size)(P:Program)(i:Nat)(hi:i<dk.size)(x:α):
  Sem.run P (storeCells ⟨blk,off+i*k,G⟩ (enc x) 0) W= .ok () (W.setCells blk (off+i*k) (enc x)):=
 stores_of_holds P (h.holds R.hblk R.hH hs) (i*k) _ (by rw[R.hk,size_flatK];exact rowK_bnd dk k i hi) (R.h1 _)
end
set_option maxHeartbeats 8000000 in
set_option maxRecDepth 1000000 in
def acF{P:Program}{α:Type}[Inhabited α](FG:P.funcs[201]? =V f201)(mixed:P.follows .mixedOrders=J)
  (t3:P.underlying 3=V (.int .i64)) (a3:∀w,(isAgg 3).run P w= .ok O w) (z3:∀w,(Go.sizeOf 3).run P w= .ok 1 w) (v3:∀w,(zeroValue 3).run P w= .ok (.int .i64 0) w)
  (t4:P.underlying 4=V .bool) (a4:∀w,(isAgg 4).run P w= .ok O w) (z4:∀w,(Go.sizeOf 4).run P w= .ok 1 w) (v4:∀w,(zeroValue 4).run P w= .ok (.bool O) w)
  (t50:P.underlying 50=V (.slice 47)) (a50:∀w,(isAgg 50).run P w= .ok O w) (z50:∀w,(Go.sizeOf 50).run P w= .ok 1 w) (v50:∀w,(zeroValue 50).run P w= .ok (.slice G 0 0) w)
  (k:Nat) (aE:∀w,(isAgg 47).run P w= .ok J w) (zE:∀w,(Go.sizeOf 47).run P w= .ok k w)
  (enc:α->af Value) (r:α->α->Bool) (g:Nat) (cb:Array Value) (blk off cap:Nat) (d:Array α) (w:World)
  (eg:∀args w,(callFunc g args).run P w= .ok (.enter g args) w)
  (hcmp:∀(dk:Array α) (W:World),dk.size=d.size->SWK enc k w blk off dk W->∀x y:α,Calls P g (#[.agg (enc x).toArray, .agg (enc y).toArray]++cb) W λe w'=>e= .returned (.bool (r x y))/\∃q os',w'=grow (W.drewN q) os')
  (R:RowK enc k w blk off d) (hsz:d.size<4611686018427387904) (hcap:d.size<=cap)
  (zs:Nat->af Value) (hclr:∀(W:World) (dk:Array α) (kk:Nat),SWK enc k w blk off dk W->dk.size=d.size->kk<d.size->∀ty,(Builtin.clear_ #[50] ty #[.slice (V ⟨blk,off+kk*k,G⟩) (d.size-kk) (cap-kk)]).run P W= .ok (.tuple #[]) (W.setCells blk (off+kk*k) (zs kk))):
  Calls P 201 #[.slice (V ⟨blk,off,G⟩) d.size cap, .func (.func g) #[] cb] w λe w'=>
   e= .returned (.slice (V ⟨blk,off,G⟩) (I8 r d d.size).length cap)/\∃(dk:Array α) (W:World),SWK enc k w blk off dk W/\dk.size=d.size/\(∀j,j<zY (I8 r d d.size)->(I8 r d d.size)[j]? =V dk[j]!)/\
    (w'=W\/w'=W.setCells blk (off+zY (I8 r d d.size)*k) (zs (I8 r d d.size).length)):=by
 have S00:SWK enc k w blk off d w:=SWK.start R.hH;have HC:Aside _:=hcmp;have HCL:Aside _:=hclr;have S0:Aside (SWK enc k w blk off d w):=S00;have same:∀W,SWK enc k w blk off d W->(∀j,j<d.size->N7 r d j=J)->zY (I8 r d d.size)=d.size/\∃(dk:Array α) (W':World),SWK enc k w blk off dk W'/\dk.size=d.size/\(∀j,j<zY (I8 r d d.size)->(I8 r d d.size)[j]? =V dk[j]!)/\(W=W'\/W=W'.setCells blk (off+zY (I8 r d d.size)*k) (zs (I8 r d d.size).length)):=λW hS hall=>by
  have e:I8 r d d.size=d.toList:=by rw[Ml d _ hall,Sa]
  refine⟨by rw[e];simp,d,W,hS,rfl,λj hj=> ?_, .inl rfl⟩;rw[e]at hj ⊢;have hj':j<d.size:=by simpa using hj
  rw[zm hj,getElem!_pos d j hj'];simp
 have HS:Aside _:=same;have kp1:∀j,j<1->N7 r d j=J:=λj hj=>by
  have:j=0:=au;subst this;rfl
 clear same S00 hcmp hclr;by_cases h2:d.size<2
 ·have K1:Aside (∀j,j<1->N7 r d j=J):=kp1;clear kp1
  go_enter FG,Tryz.ntmps201
  go_wp2
  go_ret
  obtain⟨e1,e2⟩:=HS.out w S0.out (λj hj=>K1.out j au);exact⟨by rw[e1];rfl,e2⟩
 ·have K1:Aside (∀j,j<1->N7 r d j=J):=kp1;clear kp1
  go_enter FG,Tryz.ntmps201
  go_wp2
  go_loopg [5] d.size (λg1 s5 wr=>∃(k1:Nat),s5= .int .i64 k1/\1<=k1/\k1<=d.size/\d.size-k1<=g1/\Aside (SWK enc k w blk off d wr)/\Aside (∀j,j<k1->N7 r d j=J))
  case atStart=>exact⟨1,rfl,zl _,au,au,S0,K1⟩
  case round=>
   obtain⟨k1,rfl,hk1,hk2,hg,S1,A1⟩:=hrel;by_cases hlt:k1<d.size
   ·obtain⟨kp,rfl⟩:∃kp,k1=kp+1:=⟨k1-1,au⟩;obtain⟨xj,hxj⟩:∃x,d[kp+1]! =x:=⟨_,rfl⟩;obtain⟨xp,hxp⟩:∃x,d[kp]! =x:=⟨_,rfl⟩;have hwp:IntKind.i64.wrap (kp:Int)=(kp:Int):=by rw[IntKind.wrap_i64];omega
    have jz:(kp:Int)+1<(d.size:Int):=au;have jz1:(kp:Int)<(d.size:Int):=au;have p0:(0:Int)<=(kp:Int)+1:=au;have e0:((kp:Int)+1).toNat=kp+1:=au;have lj:∀n' os',Sem.run P (loadCellsFrom ⟨blk,off+(kp+1)*k,G⟩ 0 k #[]) (grow (wr.drewN n') os')= .ok (enc xj).toArray (grow (wr.drewN n') os'):=λn' os'=>by
     rw[<-hxj];exact S1.out.ld R rfl P (kp+1) hlt n' os'
    have lp:∀n' os',Sem.run P (loadCellsFrom ⟨blk,off+kp*k,G⟩ 0 k #[]) (grow (wr.drewN n') os')= .ok (enc xp).toArray (grow (wr.drewN n') os'):=λn' os'=>by
     rw[<-hxp];exact S1.out.ld R rfl P kp au n' os'
    have hcg:∀n' os',Calls P g (#[.agg (enc xj).toArray, .agg (enc xp).toArray]++cb) (grow (wr.drewN n') os') λe w'=>e= .returned (.bool (r xj xp))/\∃q os'',w'=grow ((grow (wr.drewN n') os').drewN q) os'':=λn' os'=>HC.out d _ rfl (S1.out.grown n' os') xj xp;cases hr:r xj xp with
    |true=>
     rw[hr]at hcg
     go_wp2_with fail
     go_quiet_grown (first|(go_at_fn g;refine Calls.grown_of (hcg _ _)))
     have S2:Aside (SWK enc k w blk off d (grow (wr.drewN nq) osq)):=S1.out.grown nq osq;have I0:Aside (Ea r d (kp+1+1) (kp+1) d):=Ea.start A1.out (by unfold N7;rw[wM,hxj,hxp,hr];simp);clear lj lp hcg;generalize grow (wr.drewN nq) osq=wq at S2 ⊢
     go_wp2
     go_loopg [5,7] d.size (λg2 s5 s7 wr=>∃(kk k2:Nat) (dk:Array α),s5= .int .i64 kk/\s7= .int .i64 k2/\1<=k2/\kp+1+k2<=d.size/\d.size-(kp+1+k2)<=g2/\Aside (SWK enc k w blk off dk wr)/\Aside (Ea r d (kp+1+k2) kk dk))
     case atStart=>exact⟨kp+1,1,d,rfl,rfl,zl _,au,au,S2,I0⟩
     case round=>
      obtain⟨kk,k2,dk,rfl,rfl,hk21,hle,hg2,S3,I3⟩:=hrel;have hds:=I3.out.size;have hkk:=I3.out.lt;by_cases hlt2:kp+1+k2<d.size
      ·obtain⟨kq,rfl⟩:∃kq,k2=kq+1:=⟨k2-1,au⟩;obtain⟨xm,hxm⟩:∃x,d[kp+1+(kq+1)]! =x:=⟨_,rfl⟩;obtain⟨xq,hxq⟩:∃x,d[kp+1+kq]! =x:=⟨_,rfl⟩;have hm:dk[kp+1+(kq+1)]! =xm:=by rw[I3.out.high _ au,hxm]
       have hq:dk[kp+1+kq]! =xq:=by rw[I3.out.high _ au,hxq]
       have hwq:IntKind.i64.wrap (kq:Int)=(kq:Int):=by rw[IntKind.wrap_i64];omega
       have q0:(0:Int)<=(kq:Int)+1:=au;have f0:((kq:Int)+1).toNat=kq+1:=au;have lm:∀n' os',Sem.run P (loadCellsFrom ⟨blk,off+(kp+1)*k+(kq+1)*k,G⟩ 0 k #[]) (grow (wr.drewN n') os')= .ok (enc xm).toArray (grow (wr.drewN n') os'):=λn' os'=>by
        have:=S3.out.ld R hds P (kp+1+(kq+1)) au n' os';rw[hm,zW (kp+1) (kq+1),<-yH]at this;exact this
       have lq:∀n' os',Sem.run P (loadCellsFrom ⟨blk,off+(kp+1)*k+kq*k,G⟩ 0 k #[]) (grow (wr.drewN n') os')= .ok (enc xq).toArray (grow (wr.drewN n') os'):=λn' os'=>by
        have:=S3.out.ld R hds P (kp+1+kq) au n' os';rw[hq,zW (kp+1) kq,<-yH]at this;exact this
       have hcg:∀n' os',Calls P g (#[.agg (enc xm).toArray, .agg (enc xq).toArray]++cb) (grow (wr.drewN n') os') λe w'=>e= .returned (.bool (r xm xq))/\∃q os'',w'=grow ((grow (wr.drewN n') os').drewN q) os'':=λn' os'=>HC.out dk _ hds (S3.out.grown n' os') xm xq;have jl:(kq:Int)+1<((d.size-(kp+1):Nat):Int):=au;have jl1:(kq:Int)<((d.size-(kp+1):Nat):Int):=au;cases hr2:r xm xq with
       |true=>
        rw[hr2]at hcg
        go_wp2_with fail
        go_quiet_grown (first|(go_at_fn g;refine Calls.grown_of (hcg _ _)))
        go_wp2
        go_roundg (d.size-(kp+1+(kq+1+1)))
        case measure=>omega
        case rel=>exact⟨kk,kq+1+1,dk,rfl,by go_num,au,au,zl _,S3.out.grown nq osq,I3.out.skip (by unfold N7;rw[show kp+1+(kq+1)-1=kp+1+kq by omega,hxm,hxq,hr2];simp)⟩
       |false=>
        rw[hr2]at hcg
        go_wp2_with fail
        go_quiet_grown (first|(go_at_fn g;refine Calls.grown_of (hcg _ _)))
        have lm3:=lm nq osq;have S4:Aside (SWK enc k w blk off dk (grow (wr.drewN nq) osq)):=S3.out.grown nq osq;have st:=amc S4.out R hds P kk au xm;have S5:Aside (SWK enc k w blk off (dk.setIfInBounds kk xm) ((grow (wr.drewN nq) osq).setCells blk (off+kk*k) (enc xm))):=UU S4.out R.hk R.hblk kk au xm;have hlm:zY (enc xm)=k:=R.hk xm;have I4:Aside (Ea r d (kp+1+(kq+1)+1) (kk+1) (dk.setIfInBounds kk xm)):=by
         have:=I3.out.keep hlt2 (by unfold N7;rw[show kp+1+(kq+1)-1=kp+1+kq by omega,hxm,hxq,hr2];simp)
         rwa [hxm]at this
        have kz:(kk:Int)<(d.size:Int):=au;have kz0:(0:Int)<=(kk:Int):=au;clear lm lq hcg;generalize grow (wr.drewN nq) osq=wq3 at lm3 S4 st S5 ⊢;generalize enc xm=cm at lm3 st S5 hlm
        go_wp2
        go_roundg (d.size-(kp+1+(kq+1+1)))
        case measure=>omega
        case rel=>exact⟨kk+1,kq+1+1,dk.setIfInBounds kk xm,by go_num,by go_num,au,au,zl _,S5,I4⟩
      ·have hend:kp+1+k2=d.size:=au;have hcl:=λty=>HCL.out wr dk kk S3.out hds au ty;have kz:(kk:Int)<=(d.size:Int):=au;have kz1:(kk:Int)<=(cap:Int):=au
       go_wp2
       go_ret
       have hI:=I3.out;rw[hend]at hI;exact⟨by rw[hI.len];rfl,dk,wr,S3.out,hds,λj hj=>hI.low j (by rw[<-hI.len];exact hj), .inr (by rw[hI.len])⟩
    |false=>
     rw[hr]at hcg
     go_wp2_with fail
     go_quiet_grown (first|(go_at_fn g;refine Calls.grown_of (hcg _ _)))
     go_wp2
     go_roundg (d.size-(kp+1+1))
     case measure=>omega
     case rel=>
      refine⟨kp+1+1,by go_num,au,au,zl _,S1.out.grown nq osq,λj hj=> ?_⟩;by_cases e:j=kp+1
      ·subst e;unfold N7;rw[wM,hxj,hxp,hr];simp
      ·exact A1.out j au
   ·have:k1=d.size:=au;subst this
    go_wp2
    go_ret
    obtain⟨e1,e2⟩:=HS.out _ S1.out A1.out;exact⟨by rw[e1];rfl,e2⟩
set_option maxHeartbeats 1000000 in
def KG(FG:vp.funcs[201]? =V f201)(p:aa Addr)(cap:Nat)(fv:Value)(w:World):
  Calls vp 201 #[.slice p 0 cap,fv] w λe w'=>e= .returned (.slice p 0 cap)/\w'=w:=by
 go_enter FG,Tryz.ntmps201
 go_wp2
 go_ret
 simp
end Go.Proofs.YtnfljbehcffmcaaGreat
end
noncomputable section
set_option maxRecDepth 100000
namespace Go.Proofs.YtnfljbehcffmcaaGreat
open Go Go.Iv Go.Sort Go.Proofs
abbrev aBf:=af aC
def d201:Td 1 aBf:= .c [] [4] (.r 1 2 (ec 4 (qo 1) en) (sr 1 47 sn) (λz=>z.2.1) (λx=>(((),()),(x,()))))
def azi:=(lc (qo 0) (lc (qf 252 ln) ln))
def aze:=(sr 0 47 sn)
def Zt(b0:af aC):aa aBf:=if zY b0<=1073741824 then V (Bd b0)else G
def ao8:Prop:=HY vp 201 1 azi aze d201 (λg=>Zt g.2.1)
def aEr:bu->bu:=eY vp 201 1 azi aze d201 (λg=>Zt g.2.1)
def ac2(hv:ao8){F:bu}(h:bD vp F):bD vp (aEr F):=Dy hv ⟨_,func201,aY,aY⟩ (λ_=>aY) h
def gL{g:Nat}{T:TypeId}:∀(vs:af Value) (o:Nat) (W:World) (cur:Array Value),W.heap[g]? =V (.cells cur T (0,0))->(W.setCells g o vs).heap[g]? =V (.cells (setMany cur o vs) T (0,0))
 |[],_,_,_,h=>h
 |v::vs,o,W,cur,h=>by
  rw[World.setCells,setMany];refine gL vs (o+1) _ _ ?_;rw[setCell_eq];simp[mapBlock,vm,h,onCells]
def jg{g:Nat}:∀(vs:af Value) (o:Nat) (W:World),Kp [g] W (W.setCells g o vs)
 |[],_,W=>Kp.refl _ W
 |v::vs,o,W=>by
  rw[World.setCells];refine Kp.trans (w1:=W.setCell ⟨g,o,G⟩ v) (X:=[g]) (Y:=[g]) ?_ (jg vs (o+1) _) (λb hb _=>hb);rw[setCell_eq];refine⟨rfl,rfl,rfl,zl _,by simp[mapBlock],λk hk hX=> ?_⟩;have:g≠k:=λe=>hX (by simp[e]);simp[mapBlock,vm,this]
def JB(x:aC):∀(l:af aC) (p:aC),pZ p (l++[x])=pZ p l++if dM x (l.getLastD p)=0 then[]else[x]
 |[],p=>by
  by_cases h:dM x p=0<;>simp[pZ,h]
 |y::l,p=>by
  simp only[xz,pZ];rw[JB x l y];have e:(y::l).getLastD p=l.getLastD y:=by cases l<;>rfl
  rw[e];split<;>simp
section
variable {A:Nat->Prop} {w:World}
def eqO(x y:Ob A w):Bool:=vn (dM x.1.1 y.1.1=0)
def Xw(d:Array (Ob A w)):∀m,m<=d.size->(I8 eqO d m).map (λx=>x.1.1)=Bd ((d.toList.map λx=>x.1.1).take m)
 |0,_=>by simp[I8,Bd]
 |m+1,hm=>by
  have ih:=Xw d m au;have hl:m<zY (d.toList.map λx=>x.1.1):=by simp;omega
  have eg:∀j,j<d.size->(d.toList.map λx=>x.1.1)[j]! =d[j]!.1.1:=λj hj=>by
   rw[getElem!_pos _ j (by simpa using hj),getElem!_pos d j hj];simp
  rw[mF,zO,ih,bE hl,eg m au];by_cases h0:m=0
  ·subst h0;simp[N7,Bd,pZ]
  ·obtain⟨n,rfl⟩:∃n,m=n+1:=⟨m-1,au⟩;have hl2:n<zY (d.toList.map λx=>x.1.1):=by simp;omega
   have e2:(d.toList.map λx=>x.1.1).take (n+1)=(d.toList.map λx=>x.1.1).take n++[d[n]!.1.1]:=by rw[bE hl2,eg n au]
   obtain⟨q,hq⟩:∃q,q=(d.toList.map λx=>x.1.1).take (n+1):=⟨_,rfl⟩;rw[<-hq];cases q with
   |nil=>rw[e2]at hq;simp at hq
   |cons a q=>
    show _=a::pZ a (q++[d[n+1]!.1.1]);rw[JB];have:q.getLastD a=d[n]!.1.1:=by
     have h1:=congrArg List.getLast? hq;rw[e2,List.getLast?_append,List.getLast?_singleton,Option.some_or,List.getLast?_cons]at h1;rw[List.getLastD_eq_getLast?];exact zF.inj h1
    rw[this];unfold N7 eqO;rw[wM];by_cases hc:dM d[n+1]!.1.1 d[n]!.1.1=0<;>simp[hc,Bd]
end
def Yg:∀(l:af aC) (p:aC),zY (pZ p l)<=zY l
 |[],_=>zl _
 |y::l,p=>by
  have:=Yg l y;unfold pZ;split<;>simp<;>omega
def akD(l:af aC):zY (Bd l)<=zY l:=by
 cases l with
 |nil=>exact zl _
 |cons x l=>have:=Yg l x;simp[Bd];omega
def ag2{W:World}{gb n kk:Nat}{F:Array Value}(h:W.heap[gb]? =V (.cells F 47 (0,0)))(hs:n*2<=F.size)(hk:kk<n){c:Nat}{ty:TypeId}:
  (Builtin.clear_ #[50] ty #[.slice (V ⟨gb,0+kk*2,G⟩) (n-kk) c]).run vp W= .ok (.tuple #[]) (W.setCells gb (0+kk*2) (Builtin.zeroCells #[.slice G 0 0, .int .i64 0] (n-kk)).toList):=by
 have hl:zY (Builtin.zeroCells #[.slice G 0 0, .int .i64 0] (n-kk)).toList=(n-kk)*2:=by simp[Builtin.zeroCells]
 have hst:=run_storeCells_cells (P:=vp) gb (0+kk*2) (Builtin.zeroCells #[.slice G 0 0, .int .i64 0] (n-kk)).toList 0 W (λj hj=>by
   rw[hl]at hj;simp only[World.cell?,h,vk,yy,IY];rw[y9 au];rfl) (λj hj=>by simp[World.frozen?,h]) (λv hv=>by
   simp only[Builtin.zeroCells,Array.toList_map,zM]at hv;obtain⟨i,_,rfl⟩:=hv;have:i%(#[.slice G 0 0, .int .i64 0]:Array Value).size<2:=xe _ (by decide);generalize i%(#[.slice G 0 0, .int .i64 0]:Array Value).size=q at this
   match q,this with
   |0,_=>rfl
   |1,_=>rfl)
 simp only[yg]at hst;obtain⟨m,hm⟩:∃m,n-kk=m+1:=⟨n-kk-1,au⟩;rw[hm]at hst ⊢;rw[yj]at hst ⊢;simp[Builtin.clear_,run_underlying underlying50,Tryz.zeroValue47,Value.cells,hst]
def asA(l b:af aC)(hb:Zt l=V b):N4 vp 201 [.own 0, .fn (.func 252) []] [(0, .row 47 l)] 1 (fZ vp 201 1 (d201.pat b)):=by
 unfold Zt at hb;split at hb
 case isFalse=>cases hb
 rename_i hlen;have hbl:b=Bd l:=(zF.inj hb).symm;intro ρ;have ho:fZ vp 201 1 (d201.pat b)=⟨.own 1,[(1, .row 47 b)],2⟩:=aY;show Go.Iv.Fn vp 201 [(b7.own 0).sub ρ,(b7.fn (.func 252) []).sub ρ] (bt.res ρ [(0, .row 47 l)]) _;rw[ho,dx,show (b7.fn (de:=uni.de) (.func 252) []).sub ρ= .fn (.func 252) []by simp[b7.sub]];intro w A vs hr hd hn;obtain⟨hr1,hr2⟩:=hr;obtain⟨v,v2,rfl⟩:∃v v2,vs=[v,v2]:=by
  match vs,hr1 with
  |[v,v2],_=>exact⟨v,v2,rfl⟩
 have hv:v=ρ.v 0:=(hr2 0 _ v rfl rfl).cL;have hv2:v2= .func (.func 252) #[] #[]:=by
  have:=hr2 1 (.fn (.func 252) []) v2 rfl rfl;cases this with
  |fn f cs us hl hrr=>rw[xu.1 hl]
 subst hv hv2;generalize hv:ρ.v 0=v at*;have hok:=hd.1 (.row v 47 l) (by show _∈[cc.row (ρ.v 0) 47 l];rw[hv];exact zo.2 rfl);obtain⟨us,h1,h2,h3⟩:=hok;have hσ:bt.res ρ [(0, .row 47 l)]=[cc.row v 47 l]:=by show [cc.row (ρ.v 0) 47 l]=_;rw[hv]
 rw[hσ]at hd hn ⊢;have fin:∀(w':World) (u:Value),gD u=gD v->(∃us',gh w' u 47 2 (zY b) us'/\∀i,i<zY b->bN A w (uni.cells 47 b[i]!) ((us'.drop (i*2)).take 2))->Kp (bC [cc.row v 47 l]) w w'->∃v_1 av σ',Ending.returned u=Ending.returned v_1/\
   (∃ρ',qC 1 ρ ρ'/\av=(b7.own (de:=uni.de) 1).sub ρ'/\List.Perm σ' (bt.res ρ' [(1, .row 47 b)]))/\Tr ⟨w,A,bC [cc.row v 47 l]⟩ (bC [cc.row v 47 l]) [cc.row v 47 l] w σ' w'/\Rel (al ⟨w,A,bC [cc.row v 47 l]⟩ σ') w' av v_1:=λw' u hu ⟨us',hrow,hrel⟩ hk=>by
  have hbk:bC [cc.row u 47 b]=bC [cc.row v 47 l]:=by simp only[bC,xE,cc.blk,hu]
  have hal:∀x,al ⟨w,A,bC [cc.row v 47 l]⟩ [cc.row v 47 l] x->al ⟨w,A,bC [cc.row v 47 l]⟩ [cc.row u 47 b] x:=λx h=>⟨h.1,by rw[hbk];exact h.2⟩;refine⟨u, .lit u,[cc.row u 47 b],rfl,⟨⟨λi=>if i=1 then u else ρ.v i,ρ.b⟩,λi hi=>⟨by show _=if i=1 then u else ρ.v i;rw[bL au],rfl⟩,by rw[dx];rfl,List.Perm.refl _⟩,⟨⟨hk,?_,?_,?_⟩,hk,λx _ h=>⟨hal x h,h.2⟩⟩, .lit u⟩
  ·intro r hr;rw[zo.1 hr];refine⟨us',hrow,λi _=>rfl,λi hi=>(hrel i hi).mono λx hx hA=> ?_⟩;have hnb:x∉bC [cc.row v 47 l]:=λh=>hd.2 x h hA;exact⟨⟨.inl hA,by rw[hbk];exact hnb⟩,hk.block x hx hnb⟩
  ·rw[hbk];exact hn
  ·intro x hx;rw[hbk]at hx;exact .inl hx
 obtain⟨h1l,hcase⟩:=h1;rcases hcase with ⟨p,hvp,hl0⟩|⟨gb,cap,cur,hvp,hg,q1,q2,q3,q4⟩
 ·have hl:l=[]:=xu.1 hl0;have hbn:b=[]:=by rw[hbl,hl];rfl
  subst hvp;refine(KG func201 p 0 (.func (.func 252) #[] #[]) w).mono λe w' he=> ?_;obtain⟨rfl,rfl⟩:=he;refine fin w' _ rfl ⟨[],?_,λi hi=>by rw[hbn]at hi;cases hi⟩ (Kp.refl _ _);rw[hbn];exact⟨rfl, .inl ⟨p,rfl,rfl⟩⟩
 ·subst hvp;have hgs:gb<w.heap.size:=(y8.1 hg).1;have hAg:¬A gb:=hd.2 gb (bQ.2 ⟨_,zo.2 rfl,rfl⟩);have q4:cur.toList.take (zY l*2)=us:=q4;have q3:cur.size=(cap+1)*2:=q3;have h1l:zY us=zY l*2:=h1l;have q1':zY l<=cap+1:=q1;obtain⟨d,d1,d2,d3⟩:=Wz h1l h3;have hH:HoldsK oL 2 w gb 0 d:=JJ hg d3 (by rw[h1l];exact q4);have hcmp:∀(dk:Array (Ob A w)) (W:World),dk.size=d.size->SWK oL 2 w gb 0 dk W->∀x y:Ob A w,Calls vp 252 (#[.agg (oL x).toArray, .agg (oL y).toArray]++#[]) W λe w'=>e= .returned (.bool (eqO x y))/\∃q os',w'=grow (W.drewN q) os':=λdk W hdk ⟨n,os,hW⟩ x y=>by
   subst hW;exact Yj (aC4 x.1.1 y.1.1 (aqw x)) (λc hc hA=>sB hc λe=>hAg (e▸hA))
  have hs:=acF (P:=vp) func201 aY underlying3 Tryz.isAgg3 Tryz.sizeOf3 Tryz.zeroValue3 underlying4 Tryz.isAgg4 Tryz.sizeOf4 Tryz.zeroValue4 underlying50 Tryz.isAgg50 Tryz.sizeOf50 Tryz.zeroValue50
   2 Tryz.isAgg47 Tryz.sizeOf47 oL eqO 252 #[] gb 0 (cap+1) d w (enters_of func252 aY rfl) hcmp ⟨ku,Ep,hH,hgs⟩ (by rw[d1];omega) (by rw[d1];exact q1')
   (λkk=>(Builtin.zeroCells #[.slice G 0 0, .int .i64 0] (d.size-kk)).toList) (λW dk kk hS hdk hkk ty=>by
    obtain⟨n,os,rfl⟩:=hS;exact ag2 (uY hg) (by simp[putCells,q3];omega) hkk)
  rw[d1]at hs;refine hs.mono λe w' he=> ?_;obtain⟨rfl,dk,W,⟨n,os,hW⟩,hdk,hlow,hfin⟩:=he;rw[<-d1]at hlow hfin ⊢;obtain⟨L,hL⟩:∃L,L=I8 eqO d d.size:=⟨_,rfl⟩;rw[<-hL]at hlow hfin ⊢;have hLb:L.map (λx=>x.1.1)=b:=by
   rw[hL,Xw d d.size (zl _),d2,d1,zy,hbl]
  have hLlen:zY L=zY b:=by rw[<-hLb,zB]
  have hbll:zY b<=zY l:=by rw[hbl];exact akD l
  have hWg:W.heap[gb]? =V (.cells (putCells id 0 (flatK oL 2 dk) cur) 47 (0,0)):=by rw[hW];exact uY hg
  have hkW:Kp [gb] w W:=by rw[hW];exact QJ
  have hFs:(flatK oL 2 dk).size=zY l*2:=by rw[size_flatK,hdk]
  obtain⟨F,hF1,hF2,hF3,hF4⟩:∃F:Array Value,w'.heap[gb]? =V (.cells F 47 (0,0))/\F.size=(cap+1)*2/\F.toList.take (zY b*2)=(flatK oL 2 dk).toList.take (zY b*2)/\Kp [gb] w w':=by
   have ht:=P7 (F:=flatK oL 2 dk) (cur:=cur) (by rw[hFs,q3];omega);have ht2:(putCells id 0 (flatK oL 2 dk) cur).toList.take (zY b*2)=(flatK oL 2 dk).toList.take (zY b*2):=by
    rw[<-ht,List.take_take,Nat.min_eq_left (by rw[hFs];omega)]
   rcases hfin with rfl|rfl
   ·exact⟨_,hWg,by simp[putCells,q3],ht2,hkW⟩
   ·refine⟨_,gL _ _ _ _ hWg,by simp[putCells,q3],?_,Kp.trans hkW (jg _ _ _) λx hx _=>hx⟩;rw[<-ht2];apply List.ext_getElem?;intro j;by_cases hj:j<zY b*2
    ·rw[wu hj,wu hj,wQ,wQ];have hjs:j<(putCells id 0 (flatK oL 2 dk) cur).size:=by simp[putCells,q3];omega
     have:=get_setMany ((Builtin.zeroCells #[.slice G 0 0, .int .i64 0] (d.size-L.length)).toList) (0+zY L*2) _ j hjs;rw[bL au,getElem!_pos _ j (by simpa using hjs),getElem!_pos _ j hjs]at this;rw[y9 (by simpa using hjs),y9 hjs,this]
    ·rw[List.getElem?_take_eq_none au,List.getElem?_take_eq_none au]
  have hdl:flatK oL 2 L.toArray=((flatK oL 2 dk).toList.take (zY b*2)).toArray:=by
   refine ext_get! (by simp[hLlen,hFs];omega) λt ht=> ?_;have ht:t<zY L*2:=by simpa using ht
   rw[get_flatK _ _ _ t (by simpa using ht)];have e1:(L.toArray)[t/2]! =dk[t/2]! :=by
    have:=hlow (t/2) au;rw[getElem!_pos _ (t/2) (by simp;omega)];rw[zm au]at this;simpa using zF.inj this
   have e2:(((flatK oL 2 dk).toList.take (zY b*2)).toArray)[t]! =(flatK oL 2 dk)[t]! :=by
    rw[getElem!_pos _ t (by simp[hFs];omega),getElem!_pos _ t (by rw[hFs];omega)];simp
   rw[e1,e2,get_flatK _ _ _ t (by rw[hdk];omega)]
  obtain⟨r1,r2⟩:=Vv L.toArray b (by simpa using hLb);rw[hdl]at r1 r2;refine fin w' _ rfl ⟨(flatK oL 2 dk).toList.take (zY b*2),⟨by simpa using r1, .inr ⟨gb,cap,F,by rw[hLlen],hF1,au,q2,hF2,hF3⟩⟩,λi hi=>by simpa using r2 i hi⟩ hF4
def axJ:ao8:=λg b hb=>asA g.2.1 b hb
end Go.Proofs.YtnfljbehcffmcaaGreat
end
noncomputable section
set_option maxRecDepth 100000
namespace Go.Proofs.YtnfljbehcffmcaaGreat
open Go Go.Iv
open Go.IntKind (i64 u64)
abbrev axG:=af aK
def d127:Td 0 axG:= .c [] [2] (.r 0 1 (ec 2 (qo 0) en) (sr 0 34 sn) (λz=>z.2.1) (λx=>(((),()),(x,()))))
def Tk(a0:aS):aa axG:=
 match m39 a0 with|G=>G|V r1=>V (r1)
def ue:=eL vp 127 O (lc (qg 26) ln) d127 (λg=>Tk g.1)
def amz:EO ue:=λh=>kL (an:= .no) func127 (atS aV) aH h
structure Fp where
 (t0 t1:List Int)
 (t12 t13:Int)
def ad7:Td 0 Fp:= .c [] [0,1,12,13] (.r 0 0 (ec 0 (ql 3) (ec 1 (ql 3) (ec 12 aP (ec 13 aP en)))) sn (λz=>⟨z.1.1,z.1.2.1,z.1.t.1,z.1.t.2.1⟩) (λx=>((x.t0,x.t1,x.t12,x.t13,()),(()))))
def JU{α:Type}(p:Fp)(go:Fp->aa α)(e1 e2:aa α):aa α:=
 bif vn (p.t13<p.t12)then if 0<=p.t13/\p.t13<zY p.t0 then if 0<=p.t13/\p.t13<zY p.t1 then bif bif vn (p.t0[zq p.t13]! =p.t1[zq p.t13]!)then O else J then e1 else go (Fp.mk p.t0 p.t1 p.t12 (ak (p.t13+1)))else G else G else e2
def PE(p:Fp):aa (aa Fp):=
 JU p (λs=>V (V s)) (V G) (V G)
def XO:=bI (PE)
abbrev E77:=Bool
def d77:Td 0 E77:= .c [] [4] (.r 0 0 (ec 4 qb en) sn (λz=>z.1.1) (λx=>((x,()),(()))))
def m77(a0:af Int)(a1:af Int):aa E77:=
 bif bif vn ((zY a0:Int)=(zY a1:Int))then O else J then V O else match XO (Fp.mk a0 a1 (zY a0) 0)with|G=>G|V r1=>JU r1 (λ_=>G) (V O) (V J)
def e77:=eL vp 77 O (lc (ql 3) (lc (ql 3) ln)) d77 (λg=>m77 g.1 g.2.1)
def abe:EO e77:=λh=>kL (an:=(noTwo (noTwo (.two (noTwo (ad7.lp XO .no)) .no)))) (l:=[(bk f77 0,(ad7.lp XO .no))]) func77 aV (aA (aO ad7) aH) h
def QW:EP e77:=λh=>kP h
abbrev aHy:=Int
def atu(a0:aK):aHy:=
 ak (ak (a0.ag-a0.ah)+1)
abbrev aEM:=Bool
def aIk(a0:aK):aEM:=
 vn (1<atu a0)
structure B5 where
 t0:List aK
 (t7 t8:Int)
def af3{α:Type}(p:B5)(go:B5->aa α)(e1 e2:aa α):aa α:=
 bif vn (p.t8<p.t7)then if 0<=p.t8/\p.t8<zY p.t0 then bif aIk p.t0[zq p.t8]! then e1 else go (B5.mk p.t0 p.t7 (ak (p.t8+1)))else G else e2
def aua(p:B5):aa (aa B5):=
 af3 p (λs=>V (V s)) (V G) (V G)
def av6:=bI (aua)
abbrev aGq:=Int
def aF4(a0:af aK):aa aGq:=
 match av6 (B5.mk a0 (zY a0) 0)with|G=>G|V r1=>af3 r1 (λ_=>G) (V (r1.t8)) (V (-1))
abbrev aGe:=Bool
def aE8(a0:af aK):aa aGe:=
 match aF4 a0 with|G=>G|V r1=>V (vn (0<=r1))
abbrev aCa:=Bool
def d187:Td 0 aCa:= .c [] [4] (.r 0 0 (ec 4 qb en) sn (λz=>z.1.1) (λx=>((x,()),(()))))
def Zu(a0:aC)(a1:aC):aa aCa:=
 match N3 a0 a1 with|G=>G|V r1=>V (vn (r1=0))
def azu:=eL vp 187 O (lc (qg 47) (lc (qg 47) ln)) d187 (λg=>Zu g.1 g.2.1)
def Bw:EO azu:=λh=>kL (an:= .no) func187 (s9 aV) aH h
def azJ:bu:=(e77 dA)
abbrev aDr:=Bool
def d189:Td 0 aDr:= .c [] [4] (.r 0 0 (ec 4 qb en) sn (λz=>z.1.1) (λx=>((x,()),(()))))
def aAN:∀f∈([77]:af Nat),bA (azJ) f:=(aA (QW bG) aH)
def Zs(a0:Cell)(a1:Cell):aa aDr:=
 match bif vn (a0.aZ=a1.aZ)then bif vn (a0.eN=a1.eN)then bif vn (a0.fU=a1.fU)then match m77 a0.aq a1.aq with|G=>G|V r1=>bif r1 then match m77 a0.cv a1.cv with|G=>G|V r2=>V (r2)else V (O)else V (O)else V (O)else V (O)with|G=>G|V r3=>V (r3)
def azx:=eL vp 189 O (lc (qg 117) (lc (qg 117) ln)) d189 (λg=>Zs g.1 g.2.1)
def Bm:EO azx:=λh=>kL (F:=azJ) (an:=(noTwo (.two (.rb [77] 4) .no))) (l:=[(.skip,(.rb [77] 4))]) func189 (abe aV) (aA aAN aH) h
structure LE (α β:Type) where
 t1:List β
 t15:List α
 (t16 t17:Int)
def dE(ta tb k:Nat):Td 0 (LE (uni.de ta) (uni.de tb)):= .c [] [1,2,15,16,17] (.r 0 0 (ec 1 (ql tb) (ec 2 (qf k ln) (ec 15 (ql ta) (ec 16 aP (ec 17 aP en))))) sn (λz=>⟨z.1.1,z.1.2.2.1,z.1.2.2.2.1,z.1.2.2.2.2.1⟩) (λx=>((x.t1,(()),x.t15,x.t16,x.t17,()),(()))) λ_=>rfl)
def nE{α β:Type}[Inhabited α][Inhabited β](q:α->β->aa Bool)(p:LE α β):aa (aa (LE α β)):=
 bif vn (p.t17<p.t16)then if(0:Int)<=p.t17/\p.t17<(zY p.t15:Int)then if(0:Int)<=p.t17/\p.t17<(zY p.t1:Int)then match q p.t15[zq p.t17]! p.t1[zq p.t17]! with|G=>G|V r1=>bif bif r1 then O else J then V (G)else V (V (LE.mk p.t1 p.t15 p.t16 (ak (p.t17+1))))else G else G else V (G)
def mE{α β:Type}[Inhabited α][Inhabited β](q:α->β->aa Bool)(a0:af α)(a1:af β):aa Bool:=
 bif bif vn ((zY a0:Int)=(zY a1:Int))then O else J then V (O)else match bI (nE q) (LE.mk a1 a0 (zY a0:Int) (0))with|G=>G|V r2=>bif vn (r2.t17<r2.t16)then if(0:Int)<=r2.t17/\r2.t17<(zY r2.t15:Int)then if(0:Int)<=r2.t17/\r2.t17<(zY r2.t1:Int)then match q r2.t15[zq r2.t17]! r2.t1[zq r2.t17]! with|G=>G|V r3=>bif bif r3 then O else J then V (O)else G else G else G else V (J)
def dEq:Td 0 Bool:= .c [] [6] (.r 0 0 (ec 6 qb en) sn (λz=>z.1.1) (λx=>((x,()),(()))) λ_=>rfl)
def U8:Td 0 (LE Cell Cell):=dE 117 117 189
def auv(p:(LE Cell Cell)):aa (aa (LE Cell Cell)):=nE Zs p
def abH:=bI (auv)
abbrev azY:=Bool
def d120:Td 0 azY:=dEq
def amA(a0:af Cell)(a1:af Cell):aa azY:=mE Zs a0 a1
def aau:=eL vp 120 O (lc (ql 117) (lc (ql 117) (lc (qf 189 ln) ln))) d120 (λg=>amA g.1 g.2.1)
def AJ:EO aau:=λh=>kL (an:=(noTwo (noTwo (.two (noTwo (U8.lp abH .no)) .no)))) (l:=[(bk f120 0,(U8.lp abH .no))]) func120 (Bm aV) (aA (aO U8) aH) h
def Jo:EP aau:=λh=>kP h
def af7:Td 0 (LE aC aC):=dE 47 47 187
def azW(p:(LE aC aC)):aa (aa (LE aC aC)):=nE Zu p
def apy:=bI (azW)
abbrev E71:=Bool
def d71:Td 0 E71:=dEq
def m71(a0:af aC)(a1:af aC):aa E71:=mE Zu a0 a1
def e71:=eL vp 71 O (lc (ql 47) (lc (ql 47) (lc (qf 187 ln) ln))) d71 (λg=>m71 g.1 g.2.1)
def FT:EO e71:=λh=>kL (an:=(noTwo (noTwo (.two (noTwo (af7.lp apy .no)) .no)))) (l:=[(bk f71 0,(af7.lp apy .no))]) func71 (Bw aV) (aA (aO af7) aH) h
def Ot:EP e71:=λh=>kP h
def aHV:bu:=dA
abbrev at8:=aK
def d250:Td 0 at8:= .c [] [4] (.r 0 1 (ec 4 (qp 0 0) en) (sb 0 34 (lg 34) sn) (λz=>z.2.1) (λx=>(((),()),(x,()))))
def aBG:=(aU (aU ln))
def aoX:An:= .no
def R8(a0:Int)(a1:Int):at8:=
 bif vn (a0=a1)then aK.mk a0 a1 (0)else aK.mk a0 a1 (1)
def aFS(a0:Int)(a1:Int):bZ vp (aHV) 300 (aoX) 250 (aBG.c (a0,a1,())) [] 0 d250.rd=V (R8 a0 a1):=by
 refine Eq.trans (b:=(
  bif vn (a0=a1)then V (aK.mk a0 a1 (0))else V (aK.mk a0 a1 (1)):aa at8)) aY ?_
 simp only[R8,cq,cO]
def aEU:=eL vp 250 O aBG d250 (λg=>V (R8 g.1 g.2.1))
def akh:EO aEU:=λh=>kL (an:=aoX) func250 aV aH h (c:=λg=>aFS g.1 g.2.1)
abbrev azM:=(af aK)×(af aK)
def d186:Td 0 azM:= .c [] [6,7] (.r 0 2 (ec 6 (qo 0) (ec 7 (qo 1) en)) (sr 0 34 (sr 1 34 sn)) (λz=>(z.2.1,z.t.1)) (λx=>(((),(),()),(x.1,x.2,()))))
def ZO(a0:af aK)(a1:Int)(a2:Int):aa azM:=
 match XD a0 with|G=>G|V r1=>match XD a0 with|G=>G|V r2=>if 0<=a1/\a1<zY a0 then if 0<=a1/\a1<(↑(zY r1):Int)then if 34=34/\a1.toNat<zY r1 then if 0<=a1/\a1<zY a0 then if 0<=a1/\a1<(↑(zY r2):Int)then if 34=34/\a1.toNat<zY r2 then V ((List.set r1 a1.toNat (R8 a0[a1.toNat]!.ah a2),List.set r2 a1.toNat (R8 (ak (a2+1)) a0[a1.toNat]!.ag)))else G else G else G else G else G else G
def agH:=eL vp 186 O (lc (ql 34) (aU (aU ln))) d186 (λg=>ZO g.1 g.2.1 g.t.1)
def EZ:EO agH:=λh=>kL (an:= .no) func186 (akh (uW aV)) aH h
abbrev aFu:=Tree
def aDq(a1:af aK)(b0:Tree):aa aFu:=
 match UJ b0.fF b0.fV a1 with|G=>G|V r1=>match Z9 b0.fF b0.fV a1 with|G=>G|V r2=>if(b0.aN++[dW.mk a1 ((0:Int)) ((0:Int)) [] r1.fst r2.snd.fst r2.fst]).length<=1073741824 then V (Tree.mk b0.fF b0.fV (b0.aN++[dW.mk a1 0 0 [] r1.fst r2.snd.fst r2.fst]))else G
abbrev aFD:=Tree
def p6(x0:Tree)(x1:Int)(x2:Int):=
 x0.aN.set x1.toNat (dW.mk x0.aN[x1.toNat]!.dw x2 x0.aN[x1.toNat]!.eN x0.aN[x1.toNat]!.aq x0.aN[x1.toNat]!.fU x0.aN[x1.toNat]!.ep x0.aN[x1.toNat]!.cv)
def o9(x0:Tree)(x1:Int)(x2:Int)(x3:Int):=
 (p6 x0 x1 x2).set x1.toNat (dW.mk (p6 x0 x1 x2)[x1.toNat]!.dw (p6 x0 x1 x2)[x1.toNat]!.aZ x3 (p6 x0 x1 x2)[x1.toNat]!.aq (p6 x0 x1 x2)[x1.toNat]!.fU (p6 x0 x1 x2)[x1.toNat]!.ep (p6 x0 x1 x2)[x1.toNat]!.cv)
def aGW(a1:Int)(a2:Int)(a3:Int)(b0:Tree):aa aFD:=
 if 0<=a1/\a1<zY b0.aN then if 174=174/\a1.toNat<zY b0.aN then match ZO b0.aN[a1.toNat]!.dw a2 a3 with|G=>G|V r1=>if 0<=a1/\a1<zY b0.aN then if 174=174/\a1.toNat<zY b0.aN then if 0<=a1/\a1<(↑(p6 b0 a1 a2).length:Int)then if 174=174/\a1.toNat<zY (p6 b0 a1 a2) then if 0<=a1/\a1<(↑(o9 b0 a1 a2 a3).length:Int)then if 174=174/\a1.toNat<zY (o9 b0 a1 a2 a3) then match aDq r1.fst (Tree.mk b0.fF b0.fV ((o9 b0 a1 a2 a3).set a1.toNat (dW.mk (o9 b0 a1 a2 a3)[a1.toNat]!.dw (o9 b0 a1 a2 a3)[a1.toNat]!.aZ (o9 b0 a1 a2 a3)[a1.toNat]!.eN [(zY b0.aN:Int),ak ((zY b0.aN:Int)+1)] (o9 b0 a1 a2 a3)[a1.toNat]!.fU (o9 b0 a1 a2 a3)[a1.toNat]!.ep (o9 b0 a1 a2 a3)[a1.toNat]!.cv)))with|G=>G|V r2=>match aDq r1.snd r2 with|G=>G|V r3=>V (r3)else G else G else G else G else G else G else G else G
structure pQ where
 t1:Int
 t5:List aK
 t6:Int
 t24:List aK
 (t25 t26:Int)
 b0:Tree
def YD{α:Type}(p:pQ)(go:pQ->aa α)(e1:aa α):aa α:=
 bif vn (p.t26<p.t25)then if 0<=p.t26/\p.t26<zY p.t24 then if 0<=p.t6/\p.t6<zY p.t5 then bif vn (atu p.t5[zq p.t6]! <atu p.t24[zq p.t26]!)then go (pQ.mk p.t1 p.t5 p.t26 p.t24 p.t25 (ak (p.t26+1)) p.b0)else go (pQ.mk p.t1 p.t5 p.t6 p.t24 p.t25 (ak (p.t26+1)) p.b0)else G else G else e1
def anq(p:pQ):aa (aa pQ):=
 YD p (λs=>V (V s)) (V G)
def akp:=bI (anq)
abbrev aDe:=Int×Tree
def azl(a1:Int)(b0:Tree):aa aDe:=
 bif vn (8192<ak ((zY b0.aN:Int)+2))then G else if 0<=a1/\a1<zY b0.aN then if 174=174/\a1.toNat<zY b0.aN then match akp (pQ.mk a1 b0.aN[a1.toNat]!.dw 0 b0.aN[a1.toNat]!.dw (↑b0.aN[a1.toNat]!.dw.length:Int) 0 b0)with|G=>G|V r1=>YD r1 (λ_=>G) (if 0<=r1.t6/\r1.t6<zY r1.t5 then if 0<=r1.t6/\r1.t6<zY r1.t5 then match aGW r1.t1 r1.t6 (cT IntKind.i64 (ak (r1.t5[zq r1.t6]!.ah+r1.t5[zq r1.t6]!.ag)) 1) r1.b0 with|G=>G|V r2=>V (0,r2)else G else G)else G else G
structure lB where
 t0:List aC
 (t8 t9 t10:Int)
 b0:aC
def dB(k:Nat):Td 0 lB:= .c [] [0,2,4,8,9,10] (.r 0 1 (ec 0 (ql 47) (ec 2 (qf k ln) (ec 4 (qp 0 0) (ec 8 aP (ec 9 aP (ec 10 aP en)))))) (sb 0 47 (lg 47) sn) (λz=>⟨z.1.1,z.1.2.2.2.1,z.1.2.2.2.2.1,z.1.2.2.2.2.2.1,z.2.1⟩) (λx=>((x.t0,(()),(),x.t8,x.t9,x.t10,()),(x.b0,()))) λ_=>rfl)
def nB(q:aC->aC->aa Int)(p:lB):aa (aa lB):=
 bif vn (p.t9<p.t10)then if(0:Int)<=ak (cT u64 (bJ (ak (p.t9+p.t10))) ((1:Int)))/\ak (cT u64 (bJ (ak (p.t9+p.t10))) ((1:Int)))<(zY p.t0:Int)then match q p.t0[(ak (cT u64 (bJ (ak (p.t9+p.t10))) (1))).toNat]! p.b0 with|G=>G|V r1=>bif vn (r1<0)then V (V (lB.mk p.t0 p.t8 (ak (ak (cT u64 (bJ (ak (p.t9+p.t10))) (1))+1)) p.t10 p.b0))else V (V (lB.mk p.t0 p.t8 p.t9 (ak (cT u64 (bJ (ak (p.t9+p.t10))) (1))) p.b0))else G else V (G)
def mB(q:aC->aC->aa Int)(a0:af aC)(a1:aC):aa (Int×Bool):=
 match bI (nB q) (lB.mk a0 (zY a0:Int) (0) (zY a0:Int) a1)with|G=>G|V r2=>bif vn (r2.t9<r2.t10)then if(0:Int)<=ak (cT u64 (bJ (ak (r2.t9+r2.t10))) ((1:Int)))/\ak (cT u64 (bJ (ak (r2.t9+r2.t10))) ((1:Int)))<(zY r2.t0:Int)then match q r2.t0[(ak (cT u64 (bJ (ak (r2.t9+r2.t10))) (1))).toNat]! r2.b0 with|G=>G|V r3=>bif vn (r3<0)then G else G else G else bif vn (r2.t9<r2.t8)then if(0:Int)<=r2.t9/\r2.t9<(zY r2.t0:Int)then match q r2.t0[zq r2.t9]! r2.b0 with|G=>G|V r4=>V ((r2.t9,vn (r4=0)))else G else V ((r2.t9,O))
def dBs:Td 0 (Int×Bool):= .c [] [6,7] (.r 0 0 (ec 6 aP (ec 7 qb en)) sn (λz=>(z.1.1,z.1.2.1)) (λx=>((x.1,x.2,()),(()))) λ_=>rfl)
def Sy:Td 0 lB:=dB 188
def asz(p:lB):aa (aa lB):=nB N3 p
def aeJ:=bI (asz)
abbrev axo:=Int×Bool
def d123:Td 0 axo:=dBs
def arK(a0:af aC)(a1:aC):aa axo:=mB N3 a0 a1
def Rv:=eL vp 123 O (lc (ql 47) (lc (qg 47) (lc (qf 188 ln) ln))) d123 (λg=>arK g.1 g.2.1)
def anm:EO Rv:=λh=>kL (an:=(noTwo (noTwo (noTwo (.two (Sy.lp aeJ .no) .no))))) (l:=[(bk f123 0,(Sy.lp aeJ .no))]) func123 (s9 aV) (aA (aO Sy) aH) h
structure qJ where
 t3:List aC
 t9:List dW
 (t10 t11:Int)
 b0:Tree
def Vm:Td 2 qJ:= .c [] [3,9,10,11] (.t (b6.s 3 [] 47) (.c [] [3,9,10,11] (.r 2 3 (ec 3 (qo 2) (ec 9 (qo 1) (ec 10 aP (ec 11 aP en)))) (sb 0 172 (lc (ql 131) (lc (ql 139) (lc (ql 166) (lc (ql 3) (lc qb (lc (qo 1) ln)))))) (sr 1 174 (sr 2 47 sn))) (λz=>⟨z.t.2.1,z.t.1,z.1.t.1,z.1.t.2.1,(Tree.mk (aS.mk z.2.1.1 z.2.1.2.1 z.2.1.t.1) (bU.mk z.2.1.t.2.1 z.2.1.q.1) z.t.1)⟩) (λx=>(((),(),x.t10,x.t11,()),((x.b0.fF.ai,x.b0.fF.ax,x.b0.fF.bM,x.b0.fV.bz,x.b0.fV.iJ,(),()),x.b0.aN,x.t3,()))))))
def Hw{α:Type}(p:qJ)(go:qJ->aa α)(e1:aa α):aa α:=
 bif vn (p.t11<p.t10)then if 0<=p.t11/\p.t11<zY p.b0.aN then if 174=174/\zq p.t11<zY p.b0.aN then bif p.b0.aN[zq p.t11]!.ep then if(p.t3++[p.b0.aN[zq p.t11]!.cv]).length<=1073741824 then go (qJ.mk (p.t3++[p.b0.aN[zq p.t11]!.cv]) p.b0.aN p.t10 (ak (p.t11+1)) p.b0)else G else go (qJ.mk p.t3 p.b0.aN p.t10 (ak (p.t11+1)) p.b0)else G else G else e1
def NJ(p:qJ):aa (aa qJ):=
 Hw p (λs=>V (V s)) (V G)
def NI:=bI (NJ)
abbrev aBv:=(af aC)×Tree
def d192:Td 2 aBv:= .c [] [2] (.r 2 3 (ec 2 (qo 2) en) (sb 0 172 (lc (ql 131) (lc (ql 139) (lc (ql 166) (lc (ql 3) (lc qb (lc (qo 1) ln)))))) (sr 1 174 (sr 2 47 sn))) (λz=>(z.t.2.1,(Tree.mk (aS.mk z.2.1.1 z.2.1.2.1 z.2.1.t.1) (bU.mk z.2.1.t.2.1 z.2.1.q.1) z.t.1))) (λx=>(((),()),((x.2.fF.ai,x.2.fF.ax,x.2.fF.bM,x.2.fV.bz,x.2.fV.iJ,(),()),x.2.aN,x.1,()))))
def aH1:=(sb 0 172 (lc (ql 131) (lc (ql 139) (lc (ql 166) (lc (ql 3) (lc qb (lc (qo 1) ln)))))) (sr 1 174 sn))
def am0(b0:Tree):aa aBv:=
 match NI (qJ.mk [] b0.aN (zY b0.aN) 0 b0)with|G=>G|V r1=>Hw r1 (λ_=>G) (match aac r1.t3 with|G=>G|V r2=>match Zt r2 with|G=>G|V r3=>V (r3,r1.b0))
def ato:bu->bu:=eY vp 192 2 (lc (qp 0 0) ln) aH1 d192 (λg=>am0 ((Tree.mk (aS.mk g.2.1.1 g.2.1.2.1 g.2.1.t.1) (bU.mk g.2.1.t.2.1 g.2.1.q.1) g.t.1)))
def ahm:EO ato:=λh=>kY (an:=(noTwo (noTwo (.two (noTwo (Vm.lp NI .no)) .no)))) (l:=[(bk f192 0,(Vm.lp NI .no))]) func192 (ac2 axJ (ab2 azf (s9 aV))) (aA (aO Vm) aH) h
structure sy where
 t4:List aC
 t35:List dW
 (t36 t37:Int)
 b0:Tree
 (b2 b3:aW)
def SI:Td 2 sy:= .c [] [2,3,4,35,36,37] (.t (b6.c 3 1 [] 117) (.c [] [2,3,4,35,36,37] (.r 2 7 (ec 2 (qp 2 0) (ec 3 (qp 3 0) (ec 4 (qo 4) (ec 35 (qo 1) (ec 36 aP (ec 37 aP en)))))) (sb 0 172 (lc (ql 131) (lc (ql 139) (lc (ql 166) (lc (ql 3) (lc qb (lc (qo 1) ln)))))) (sr 1 174 (sb 2 84 (lc qn (lc qn ln)) (sb 3 84 (lc (qo 5) (lc (qo 6) ln)) (sr 4 47 (sr 5 47 (sr 6 117 sn))))))) (λz=>⟨z.q.2.1,z.t.1,z.1.q.1,z.1.q.2.1,(Tree.mk (aS.mk z.2.1.1 z.2.1.2.1 z.2.1.t.1) (bU.mk z.2.1.t.2.1 z.2.1.q.1) z.t.1),(aW.mk [] []),(aW.mk z.q.t.1 z.q.t.2.1)⟩) (λx=>(((),(),(),(),x.t36,x.t37,()),((x.b0.fF.ai,x.b0.fF.ax,x.b0.fF.bM,x.b0.fV.bz,x.b0.fV.iJ,(),()),x.b0.aN,((),(),()),((),(),()),x.t4,x.b3.cv,x.b3.aN,()))))))
def G0{α:Type}(p:sy)(go:sy->aa α)(e1:aa α):aa α:=
 bif vn (p.t37<p.t36)then if 0<=p.t37/\p.t37<zY p.b0.aN then if 174=174/\zq p.t37<zY p.b0.aN then match m35 p.b0.aN[zq p.t37]!.aq with|G=>G|V r2=>bif p.b0.aN[zq p.t37]!.ep then match arK p.t4 p.b0.aN[zq p.t37]!.cv with|G=>G|V r3=>if(p.b3.aN++[Cell.mk p.b0.aN[zq p.t37]!.aZ p.b0.aN[zq p.t37]!.eN r2 [r3.fst] p.b0.aN[zq p.t37]!.fU]).length<=1073741824 then go (sy.mk p.t4 p.b0.aN p.t36 (ak (p.t37+1)) p.b0 (aW.mk [] []) (aW.mk p.b3.cv (p.b3.aN++[Cell.mk p.b0.aN[zq p.t37]!.aZ p.b0.aN[zq p.t37]!.eN r2 [r3.fst] p.b0.aN[zq p.t37]!.fU])))else G else if(p.b3.aN++[Cell.mk p.b0.aN[zq p.t37]!.aZ p.b0.aN[zq p.t37]!.eN r2 [] p.b0.aN[zq p.t37]!.fU]).length<=1073741824 then go (sy.mk p.t4 p.b0.aN p.t36 (ak (p.t37+1)) p.b0 (aW.mk [] []) (aW.mk p.b3.cv (p.b3.aN++[Cell.mk p.b0.aN[zq p.t37]!.aZ p.b0.aN[zq p.t37]!.eN r2 [] p.b0.aN[zq p.t37]!.fU])))else G else G else G else e1
def LY(p:sy):aa (aa sy):=
 G0 p (λs=>V (V s)) (V G)
def LH:=bI (LY)
structure v7 where
 (t4 t14:List aC)
 (t15 t16:Int)
 b0:Tree
 (b2 b3:aW)
def U2:Td 2 v7:= .c [] [0,2,3,4,14,15,16] (.t (b6.c 3 0 [] 47) (.c [] [0,2,3,4,14,15,16] (.r 2 6 (ec 0 (qp 0 0) (ec 2 (qp 2 0) (ec 3 (qp 3 0) (ec 4 (qo 4) (ec 14 (qo 4) (ec 15 aP (ec 16 aP en))))))) (sb 0 172 (lc (ql 131) (lc (ql 139) (lc (ql 166) (lc (ql 3) (lc qb (lc (qo 1) ln)))))) (sr 1 174 (sb 2 84 (lc qn (lc qn ln)) (sb 3 84 (lc (qo 5) (lc qn ln)) (sr 4 47 (sr 5 47 sn)))))) (λz=>⟨z.q.2.1,z.q.2.1,z.1.q.2.1,z.1.q.t.1,(Tree.mk (aS.mk z.2.1.1 z.2.1.2.1 z.2.1.t.1) (bU.mk z.2.1.t.2.1 z.2.1.q.1) z.t.1),(aW.mk [] []),(aW.mk z.q.t.1 [])⟩) (λx=>(((),(),(),(),(),x.t15,x.t16,()),((x.b0.fF.ai,x.b0.fF.ax,x.b0.fF.bM,x.b0.fV.bz,x.b0.fV.iJ,(),()),x.b0.aN,((),(),()),((),(),()),x.t14,x.b3.cv,()))))))
def Fu{α:Type}(p:v7)(go:v7->aa α)(e1:aa α):aa α:=
 bif vn (p.t16<p.t15)then if 0<=p.t16/\p.t16<zY p.t14 then if 47=47/\zq p.t16<zY p.t14 then match m35 p.t14[zq p.t16]!.aM with|G=>G|V r1=>if(p.b3.cv++[aC.mk r1 p.t14[zq p.t16]!.aI]).length<=1073741824 then go (v7.mk p.t14 p.t14 p.t15 (ak (p.t16+1)) p.b0 (aW.mk [] []) (aW.mk (p.b3.cv++[aC.mk r1 p.t14[zq p.t16]!.aI]) []))else G else G else G else e1
def Ld(p:v7):aa (aa v7):=
 Fu p (λs=>V (V s)) (V G)
def Ll:=bI (Ld)
abbrev azk:=aW×Tree
def d110:Td 2 azk:= .c [] [2] (.r 2 5 (ec 2 (qp 2 0) en) (sb 0 172 (lc (ql 131) (lc (ql 139) (lc (ql 166) (lc (ql 3) (lc qb (lc (qo 1) ln)))))) (sr 1 174 (sb 2 84 (lc (qo 3) (lc (qo 4) ln)) (sr 3 47 (sr 4 117 sn))))) (λz=>((aW.mk z.q.1 z.q.2.1),(Tree.mk (aS.mk z.2.1.1 z.2.1.2.1 z.2.1.t.1) (bU.mk z.2.1.t.2.1 z.2.1.q.1) z.t.1))) (λx=>(((),()),((x.2.fF.ai,x.2.fF.ax,x.2.fF.bM,x.2.fV.bz,x.2.fV.iJ,(),()),x.2.aN,((),(),()),x.1.cv,x.1.aN,()))))
def aHS:=(sb 0 172 (lc (ql 131) (lc (ql 139) (lc (ql 166) (lc (ql 3) (lc qb (lc (qo 1) ln)))))) (sr 1 174 sn))
def RW(b0:Tree):aa azk:=
 match am0 b0 with|G=>G|V r4=>match Ll (v7.mk r4.fst r4.fst (zY r4.fst) 0 r4.snd (aW.mk [] []) (aW.mk [] []))with|G=>G|V r5=>Fu r5 (λ_=>G) (match LH (sy.mk r5.t14 r5.b0.aN (zY r5.b0.aN) 0 r5.b0 (aW.mk [] []) (aW.mk r5.b3.cv []))with|G=>G|V r7=>G0 r7 (λ_=>G) (V (r7.b3,r7.b0)))
def abQ:bu->bu:=eY vp 110 2 (lc (qp 0 0) ln) aHS d110 (λg=>RW ((Tree.mk (aS.mk g.2.1.1 g.2.1.2.1 g.2.1.t.1) (bU.mk g.2.1.t.2.1 g.2.1.q.1) g.t.1)))
def ED:EO abQ:=λh=>kY (an:=(noTwo (noTwo (noTwo (.two (noTwo (U2.lp Ll .no)) (.two (noTwo (SI.lp LH .no)) .no)))))) (l:=[(bk f110 0,(U2.lp Ll .no)),(bk f110 1,(SI.lp LH .no))]) func110 (ahm (s9 (anm (nY aV)))) (aA (aO U2) (aA (aO SI) aH)) h
def aDu:bu:=dA
structure sk where
 t73:List Int
 (t74 t75:Int)
def SY:Td 0 sk:= .c [] [73,74,75] (.r 0 1 (ec 73 (qo 0) (ec 74 aP (ec 75 aP en))) (sr 0 3 sn) (λz=>⟨z.2.1,z.1.2.1,z.1.t.1⟩) (λx=>(((),x.t74,x.t75,()),(x.t73,()))))
def mM{α:Type}(p:sk)(go:sk->aa α)(e1 e2:aa α):aa α:=
 bif vn (p.t75<p.t74)then if 0<=p.t75/\p.t75<zY p.t73 then if 3=3/\zq p.t75<zY p.t73 then match (bif bif(match vn (p.t73[zq p.t75]! =1)with|J=>O|O=>J)==vn (p.t75=0)then O else J then V J else V (vn (1<p.t73[zq p.t75]!)))with|G=>G|V r5=>bif r5 then e1 else go (sk.mk p.t73 p.t74 (ak (p.t75+1)))else G else G else e2
def qV(p:sk):aa (aa sk):=
 mM p (λs=>V (V s)) (V G) (V G)
def abD:An:=(noTwo (noTwo (.two (noTwo (.two (.rb [] 88) .no)) .no)))
def Gu:=bI (qV)
structure uD where
 t0:List Cell
 t3:List Int
 t4:Int
 t16:List Cell
 (t17 t18:Int)
 t50:List Int
 (t51 t52:Int)
def UY:Td 0 uD:= .c [] [0,3,4,16,17,18,50,51,52] (.r 0 1 (ec 0 (ql 117) (ec 3 (qo 0) (ec 4 aP (ec 16 (ql 117) (ec 17 aP (ec 18 aP (ec 50 (ql 3) (ec 51 aP (ec 52 aP en))))))))) (sr 0 3 sn) (λz=>⟨z.1.1,z.2.1,z.1.t.1,z.1.t.2.1,z.1.q.1,z.1.q.2.1,z.1.q.t.1,z.1.q.t.2.1,z.1.q.q.1⟩) (λx=>((x.t0,(),x.t4,x.t16,x.t17,x.t18,x.t50,x.t51,x.t52,()),(x.t3,()))))
def gQ{α:Type}(p:uD)(go:uD->aa α)(e1 e2:aa α):aa α:=
 bif vn (p.t52<p.t51)then if 0<=p.t52/\p.t52<zY p.t50 then match (bif vn (p.t50[zq p.t52]!<=p.t4)then V J else V (vn (zY p.t0<=p.t50[zq p.t52]!)))with|G=>G|V r4=>bif r4 then e1 else if 0<=p.t50[zq p.t52]!/\p.t50[zq p.t52]! <(zY p.t3:Int)then if 3=3/\zq p.t50[zq p.t52]! <zY p.t3 then if 0<=p.t50[zq p.t52]!/\p.t50[zq p.t52]! <(zY p.t3:Int)then if 3=3/\zq p.t50[zq p.t52]! <zY p.t3 then go (uD.mk p.t0 (p.t3.set (zq p.t50[zq p.t52]!) (ak (p.t3[zq p.t50[zq p.t52]!]! +1))) p.t4 p.t16 p.t17 p.t18 p.t50 p.t51 (ak (p.t52+1)))else G else G else G else G else G else e2
def oZ(p:uD):aa (aa uD):=
 gQ p (λs=>V (V s)) (V G) (V G)
def adT:An:=(noTwo (noTwo (.two (noTwo (.two (.two (.rb [] 64) .no) .no)) .no)))
def FK:=bI (oZ)
structure uI where
 t0:List Cell
 t3:List Int
 t16:List Cell
 (t17 t18:Int)
def Vj:Td 0 uI:= .c [] [0,3,16,17,18] (.r 0 1 (ec 0 (ql 117) (ec 3 (qo 0) (ec 16 (ql 117) (ec 17 aP (ec 18 aP en))))) (sr 0 3 sn) (λz=>⟨z.1.1,z.2.1,z.1.t.1,z.1.t.2.1,z.1.q.1⟩) (λx=>((x.t0,(),x.t16,x.t17,x.t18,()),(x.t3,()))))
def lz{α:Type}(p:uI)(go:uI->aa α)(e1 e2:aa α):aa α:=
 bif vn (p.t18<p.t17)then if 0<=p.t18/\p.t18<zY p.t16 then match (bif bif vn ((↑p.t16[zq p.t18]!.aq.length:Int)=0)then O else J then bif bif vn ((↑p.t16[zq p.t18]!.aq.length:Int)=2)then O else J then V J else bif vn ((↑p.t16[zq p.t18]!.aq.length:Int)=0)then bif bif vn (p.t16[zq p.t18]!.aZ=0)then O else J then V J else V (bif vn (p.t16[zq p.t18]!.eN=0)then O else J)else V O else bif vn ((↑p.t16[zq p.t18]!.aq.length:Int)=0)then bif bif vn (p.t16[zq p.t18]!.aZ=0)then O else J then V J else V (bif vn (p.t16[zq p.t18]!.eN=0)then O else J)else V O)with|G=>G|V r1=>bif r1 then e1 else match FK (uD.mk p.t0 p.t3 p.t18 p.t16 p.t17 p.t18 p.t16[zq p.t18]!.aq (↑p.t16[zq p.t18]!.aq.length:Int) 0)with|G=>G|V r2=>gQ r2 (λ_=>G) e1 (go (uI.mk r2.t0 r2.t3 r2.t16 r2.t17 (ak (r2.t18+1))))else G else e2
def ry(p:uI):aa (aa uI):=
 lz p (λs=>V (V s)) (V G) (V G)
def aeH:An:=(noTwo (noTwo (.two (noTwo (.two (.two (.rb [] 48) .no) (noTwo (UY.lp FK adT)))) .no)))
def FV:=bI (ry)
abbrev aCh:=Bool
def d184:Td 0 aCh:= .c [] [2] (.r 0 0 (ec 2 qb en) sn (λz=>z.1.1) (λx=>((x,()),(()))))
def ab7:∀f∈([]:af Nat),bA (aDu) f:=aH
def D9(a0:af Cell):aa aCh:=
 bif vn ((zY a0:Int)=0)then V O else if(0:Int)<=zY a0/\(zY a0:Int)<=(zY a0:Int)/\(zY a0:Int)<=(1073741824:Int)then match FV (uI.mk a0 (zf (zY a0) 0) a0 (zY a0) 0)with|G=>G|V r6=>lz r6 (λ_=>G) (V O) (match Gu (sk.mk r6.t3 (zY r6.t3) 0)with|G=>G|V r10=>mM r10 (λ_=>G) (V O) (V J))else G
def Jc:=eL vp 184 O (lc (ql 117) ln) d184 (λg=>D9 g.1)
def EY:EO Jc:=λh=>kL (F:=aDu) (an:=(noTwo (noTwo (noTwo (.two (noTwo (Vj.lp FV aeH)) (.two (noTwo (SY.lp Gu abD)) .no)))))) (l:=[(bk f184 0,(Vj.lp FV aeH)),(.skip,(.rb [] 48)),(bk f184 1,(UY.lp FK adT)),(.skip,(.rb [] 64)),(bk f184 2,(SY.lp Gu abD)),(.skip,(.rb [] 88))]) func184 aV (aA (aO Vj) (aA ab7 (aA (aO UY) (aA ab7 (aA (aO SY) (aA ab7 aH)))))) h
abbrev apw:=Unit×Int
def aBw:Td 0 apw:= .c [] [4,5] (.r 0 0 (ec 4 qv (ec 5 aP en)) sn (λz=>((),z.1.2.1)) (λx=>(((),x.2,()),(()))))
def Wl(a0:aS)(a1:bU):aa apw:=
 match m76 a0 with|G=>G|V r1=>bif bif vn (r1.snd=0)then O else J then V (((),r1.snd))else match UJ a0 a1 r1.fst with|G=>G|V r2=>bif bif vn (r2.snd=0)then O else J then V (((),r2.snd))else match UJ a0 a1 r1.fst with|G=>G|V r3=>match Z9 a0 a1 r1.fst with|G=>G|V r4=>G
def aoZ:bu->bu:=eZf vp 118 (lc (qg 26) (lc (qg 29) ln)) aBw (λg=>Wl g.1 g.2.1)
def Au:EO aoZ:=λh=>kZf (an:= .no) func118 (Lv (p:=(λf=>zc f 25||zc f 26||zc f 76)) (adS (Di (C0 aV)))) aH h
abbrev aoG:=Tree×Int
def axN:Td 0 aoG:= .c [] [4,5] (.r 0 2 (ec 4 (qp 0 0) (ec 5 aP en)) (sb 0 172 (lc (ql 131) (lc (ql 139) (lc (ql 166) (lc (ql 3) (lc qb (lc (qo 1) ln)))))) (sr 1 174 sn)) (λz=>((Tree.mk (aS.mk z.2.1.1 z.2.1.2.1 z.2.1.t.1) (bU.mk z.2.1.t.2.1 z.2.1.q.1) z.t.1),z.1.2.1)) (λx=>(((),x.2,()),((x.1.fF.ai,x.1.fF.ax,x.1.fF.bM,x.1.fV.bz,x.1.fV.iJ,(),()),x.1.aN,()))))
def JK(a0:aS)(a1:bU):aa aoG:=
 match m76 a0 with|G=>G|V r1=>bif bif vn (r1.snd=0)then O else J then G else match UJ a0 a1 r1.fst with|G=>G|V r2=>bif bif vn (r2.snd=0)then O else J then G else match UJ a0 a1 r1.fst with|G=>G|V r3=>match Z9 a0 a1 r1.fst with|G=>G|V r4=>V ((Tree.mk a0 a1 [dW.mk r1.fst (0) (0) [] r3.fst r4.snd.fst r4.fst],0))
def aoB:bu->bu:=eZf vp 118 (lc (qg 26) (lc (qg 29) ln)) axN (λg=>JK g.1 g.2.1)
def BP:EO aoB:=λh=>kZf (an:= .no) func118 (Lv (p:=(λf=>zc f 25||zc f 26||zc f 76)) (adS (Di (C0 aV)))) aH h
def Pd:bu:=(rC vp (azx (azu (agH (Jc (aau (aoB (aoZ (abQ (e71 (e35 (YU (YA dA)))))))))))) (λf=>zc f 25||zc f 26||zc f 35||zc f 71||zc f 110||zc f 118||zc f 120||zc f 184||zc f 186||zc f 187||zc f 189) 300 10)
structure gV where
 t10:List (List aK)
 t55:List Cell
 (t56 t57:Int)
 b0:aW
 b2:Tree
def nj:Td 0 gV:= .c [] [5,10,11,55,56,57] (.t (b6.c 2 5 [] 174) (.c [] [5,10,11,55,56,57] (.r 0 4 (ec 5 (qp 0 0) (ec 10 (qo 1) (ec 11 (qp 2 0) (ec 55 (ql 117) (ec 56 aP (ec 57 aP en)))))) (sb 0 84 (lg 84) (sr 1 30 (sb 2 172 (lc (ql 131) (lc (ql 139) (lc (ql 166) (lc (ql 3) (lc qb (lc (qo 3) ln)))))) (sr 3 174 sn)))) (λz=>⟨z.t.1,z.1.t.2.1,z.1.q.1,z.1.q.2.1,z.2.1,(Tree.mk (aS.mk z.t.2.1.1 z.t.2.1.2.1 z.t.2.1.t.1) (bU.mk z.t.2.1.t.2.1 z.t.2.1.q.1) z.q.1)⟩) (λx=>(((),(),(),x.t55,x.t56,x.t57,()),(x.b0,x.t10,(x.b2.fF.ai,x.b2.fF.ax,x.b2.fF.bM,x.b2.fV.bz,x.b2.fV.iJ,(),()),x.b2.aN,()))))))
def fQ(x0:gV)(x1:E25)(x2:E26):=
 x0.b2.aN++[dW.mk x0.t10[zq x0.t57]! (0) (0) [] x1.fst x2.snd.fst x2.fst]
def iA(x0:gV)(x1:E25)(x2:E26):=
 (fQ x0 x1 x2).set x0.t57.toNat (dW.mk (fQ x0 x1 x2)[zq x0.t57]!.dw x0.t55[zq x0.t57]!.aZ (fQ x0 x1 x2)[zq x0.t57]!.eN (fQ x0 x1 x2)[zq x0.t57]!.aq (fQ x0 x1 x2)[zq x0.t57]!.fU (fQ x0 x1 x2)[zq x0.t57]!.ep (fQ x0 x1 x2)[zq x0.t57]!.cv)
def iB(x0:gV)(x1:E25)(x2:E26):=
 (iA x0 x1 x2).set x0.t57.toNat (dW.mk (iA x0 x1 x2)[zq x0.t57]!.dw (iA x0 x1 x2)[zq x0.t57]!.aZ x0.t55[zq x0.t57]!.eN (iA x0 x1 x2)[zq x0.t57]!.aq (iA x0 x1 x2)[zq x0.t57]!.fU (iA x0 x1 x2)[zq x0.t57]!.ep (iA x0 x1 x2)[zq x0.t57]!.cv)
def lJ{α:Type}(p:gV)(go:gV->aa α)(e1 e2:aa α):aa α:=
 bif vn (p.t57<p.t56)then if 0<=p.t57/\p.t57<zY p.t55 then if 0<=p.t57/\p.t57<zY p.t10 then if 30=30/\zq p.t57<zY p.t10 then match UJ p.b2.fF p.b2.fV p.t10[zq p.t57]! with|G=>G|V r1=>match Z9 p.b2.fF p.b2.fV p.t10[zq p.t57]! with|G=>G|V r2=>if(fQ p r1 r2).length<=1073741824 then bif vn ((↑p.t55[zq p.t57]!.aq.length:Int)=0)then go (gV.mk p.t10 p.t55 p.t56 (ak (p.t57+1)) p.b0 (Tree.mk p.b2.fF p.b2.fV (fQ p r1 r2)))else if 0<=p.t57/\p.t57<zY p.t10 then if 30=30/\zq p.t57<zY p.t10 then bif vn (p.t55[zq p.t57]!.aZ<0)then e1 else bif vn ((↑(zY p.t10[zq p.t57]!):Int)<=p.t55[zq p.t57]!.aZ)then e1 else if 0<=p.t55[zq p.t57]!.aZ/\p.t55[zq p.t57]!.aZ<(↑(zY p.t10[zq p.t57]!):Int)then bif vn (p.t55[zq p.t57]!.eN<p.t10[zq p.t57]![p.t55[zq p.t57]!.aZ.toNat]!.ah)then e1 else if 0<=p.t55[zq p.t57]!.aZ/\p.t55[zq p.t57]!.aZ<(↑(zY p.t10[zq p.t57]!):Int)then bif vn (p.t10[zq p.t57]![p.t55[zq p.t57]!.aZ.toNat]!.ag<=p.t55[zq p.t57]!.eN)then e1 else if(0:Int)<=(0:Int)/\(0:Int)<(↑p.t55[zq p.t57]!.aq.length:Int)then if(0:Int)<=(1:Int)/\(1:Int)<(↑p.t55[zq p.t57]!.aq.length:Int)then match ZO p.t10[zq p.t57]! p.t55[zq p.t57]!.aZ p.t55[zq p.t57]!.eN with|G=>G|V r3=>if 0<=p.t55[zq p.t57]!.aq[zq 0]!/\p.t55[zq p.t57]!.aq[zq 0]! <(zY p.t10:Int)then if 30=30/\zq p.t55[zq p.t57]!.aq[0]! <zY p.t10 then if 0<=p.t55[zq p.t57]!.aq[zq 1]!/\p.t55[zq p.t57]!.aq[zq 1]! <(↑(p.t10.set (zq p.t55[zq p.t57]!.aq[0]!) r3.fst).length:Int)then if 30=30/\zq p.t55[zq p.t57]!.aq[1]! <zY (p.t10.set (zq p.t55[zq p.t57]!.aq[0]!) r3.fst) then match m35 p.t55[zq p.t57]!.aq with|G=>G|V r4=>if 0<=p.t57/\p.t57<(↑(fQ p r1 r2).length:Int)then if 174=174/\zq p.t57<zY (fQ p r1 r2) then if 0<=p.t57/\p.t57<(↑(iA p r1 r2).length:Int)then if 174=174/\zq p.t57<zY (iA p r1 r2) then if 0<=p.t57/\p.t57<(↑(iB p r1 r2).length:Int)then if 174=174/\zq p.t57<zY (iB p r1 r2) then go (gV.mk ((p.t10.set (zq p.t55[zq p.t57]!.aq[0]!) r3.fst).set (zq p.t55[zq p.t57]!.aq[1]!) r3.snd) p.t55 p.t56 (ak (p.t57+1)) p.b0 (Tree.mk p.b2.fF p.b2.fV ((iB p r1 r2).set p.t57.toNat (dW.mk (iB p r1 r2)[zq p.t57]!.dw (iB p r1 r2)[zq p.t57]!.aZ (iB p r1 r2)[zq p.t57]!.eN r4 (iB p r1 r2)[zq p.t57]!.fU (iB p r1 r2)[zq p.t57]!.ep (iB p r1 r2)[zq p.t57]!.cv))))else G else G else G else G else G else G else G else G else G else G else G else G else G else G else G else G else G else G else G else G else e2
def qa(p:gV):aa (aa gV):=
 lJ p (λs=>V (V s)) (V G) (V G)
def Xd(p:gV):oC vp (Pd) f105.ntmps 300 (bk f105 0) .no (aa gV) (nj.pat p) (kOn nj.rd)=qa p:=aY
def p9:=bI (qa)
abbrev ap4:=Tree×Int
def axm:Td 0 ap4:= .c [] [6,7] (.r 0 2 (ec 6 (qp 0 0) (ec 7 aP en)) (sb 0 172 (lc (ql 131) (lc (ql 139) (lc (ql 166) (lc (ql 3) (lc qb (lc (qo 1) ln)))))) (sr 1 174 sn)) (λz=>((Tree.mk (aS.mk z.2.1.1 z.2.1.2.1 z.2.1.t.1) (bU.mk z.2.1.t.2.1 z.2.1.q.1) z.t.1),z.1.2.1)) (λx=>(((),x.2,()),((x.1.fF.ai,x.1.fF.ax,x.1.fF.bM,x.1.fV.bz,x.1.fV.iJ,(),()),x.1.aN,()))))
def It(a0:aS)(a1:bU)(a2:aW):aa ap4:=
 match JK a0 a1 with|G=>(match Wl a0 a1 with|G=>G|V r15=>bif bif vn (r15.snd=0)then O else J then G else bif vn (8192<(zY a2.aN:Int))then G else match D9 a2.aN with|G=>G|V r16=>bif bif r16 then O else J then G else if(0:Int)<=zY a2.aN/\(zY a2.aN:Int)<=(zY a2.aN:Int)/\(zY a2.aN:Int)<=(1073741824:Int)then G else G)|V r5=>bif bif vn (r5.snd=0)then O else J then G else bif vn (8192<(zY a2.aN:Int))then G else match D9 a2.aN with|G=>G|V r6=>bif bif r6 then O else J then G else if(0:Int)<=zY a2.aN/\(zY a2.aN:Int)<=(zY a2.aN:Int)/\(zY a2.aN:Int)<=(1073741824:Int)then if(0:Int)<=(0:Int)/\(0:Int)<zY r5.fst.aN then if 174=174/\0<zY r5.fst.aN then if(0:Int)<=(0:Int)/\(0:Int)<(↑(zf (zY a2.aN) ([]:af aK)).length:Int)then if 30=30/\0<zY (zf (zY a2.aN) ([]:af aK)) then match p9 (gV.mk ((zf (zY a2.aN) ([]:af aK)).set 0 r5.fst.aN[0]!.dw) a2.aN (zY a2.aN) 0 a2 (Tree.mk a0 a1 []))with|G=>G|V r7=>lJ r7 (λ_=>G) G (match RW r7.b2 with|G=>G|V r12=>match amA r7.b0.aN r12.fst.aN with|G=>G|V r13=>bif bif r13 then O else J then G else match m71 r7.b0.cv r12.fst.cv with|G=>G|V r14=>bif bif r14 then O else J then G else V (r12.snd,0))else G else G else G else G else G
def awU:bu->bu:=eZf vp 105 (lc (qg 26) (lc (qg 29) (lc (qg 84) ln))) axm (λg=>It g.1 g.2.1 g.t.1)
def aem:EO awU:=λh=>kZf (F:=Pd) (an:=(noTwo (noTwo (noTwo (noTwo (noTwo (noTwo (.two (noTwo (nj.lp p9 .no)) .no)))))))) (l:=[(bk f105 0,(nj.lp p9 .no))]) func105 (Lv (p:=(λf=>zc f 25||zc f 26||zc f 35||zc f 71||zc f 110||zc f 118||zc f 120||zc f 184||zc f 186||zc f 187||zc f 189)) (Bm (Bw (EZ (EY (AJ (BP (Au (ED (FT (nY (Di (C0 aV))))))))))))) (aA ⟨nj.ok _,N2 (Xd)⟩ aH) h
abbrev E48:=aW×Int
def m48(a0:aS)(a1:bU)(a2:aW)(a3:Int):aa E48:=
 match It a0 a1 a2 with|G=>G|V r1=>bif bif vn (r1.snd=0)then O else J then V (aW.mk [] [],r1.snd)else match bif vn (a3<0)then V J else bif vn (zY r1.fst.aN<=a3)then V J else if 0<=a3/\a3<zY r1.fst.aN then if 174=174/\a3.toNat<zY r1.fst.aN then V (vn (0<(↑r1.fst.aN[a3.toNat]!.aq.length:Int)))else G else G with|G=>G|V r2=>bif r2 then V (aW.mk [] [],3)else if 0<=a3/\a3<zY r1.fst.aN then if 174=174/\a3.toNat<zY r1.fst.aN then match aE8 r1.fst.aN[a3.toNat]!.dw with|G=>G|V r3=>bif bif r3 then O else J then V (aW.mk [] [],11)else match azl a3 r1.fst with|G=>G|V r4=>bif bif vn (r4.fst=0)then O else J then V (aW.mk [] [],r4.fst)else match RW r4.snd with|G=>G|V r5=>V (r5.fst,0)else G else G
abbrev E54:=aW×Int
def m54(a0:aS)(a1:bU):aa E54:=
 match JK a0 a1 with|G=>(match Wl a0 a1 with|G=>G|V r3=>bif bif vn (r3.snd=0)then O else J then V ((aW.mk [] [],r3.snd))else G)|V r1=>bif bif vn (r1.snd=0)then O else J then V ((aW.mk [] [],r1.snd))else match RW r1.fst with|G=>G|V r2=>V ((r2.fst,0))
abbrev E58:=af Part
def m58(a0:aS):aa E58:=
 match Tk a0 with|G=>G|V r1=>V ([Part.mk (0) (0) [] r1])
def aHX:bu:=dA
abbrev ass:=aK
def d194:Td 0 ass:= .c [] [4] (.r 0 1 (ec 4 (qp 0 0) en) (sb 0 34 (lg 34) sn) (λz=>z.2.1) (λx=>(((),()),(x,()))))
def azs:=(aU (aU ln))
def apY:An:= .no
def TY(a0:Int)(a1:Int):ass:=
 bif vn (a0=a1)then aK.mk a0 a1 (0)else aK.mk a0 a1 (1)
def aFU(a0:Int)(a1:Int):bZ vp (aHX) 300 (apY) 194 (azs.c (a0,a1,())) [] 0 d194.rd=V (TY a0 a1):=by
 refine Eq.trans (b:=(
  bif vn (a0=a1)then V (aK.mk a0 a1 (0))else V (aK.mk a0 a1 (1)):aa ass)) aY ?_
 simp only[TY,cq,cO]
def aHa:=eL vp 194 O azs d194 (λg=>V (TY g.1 g.2.1))
def ai8:EO aHa:=λh=>kL (an:=apY) func194 aV aH h (c:=λg=>aFU g.1 g.2.1)
abbrev asy:=(af aK)×(af aK)
def d112:Td 0 asy:= .c [] [6,7] (.r 0 2 (ec 6 (qo 0) (ec 7 (qo 1) en)) (sr 0 34 (sr 1 34 sn)) (λz=>(z.2.1,z.t.1)) (λx=>(((),(),()),(x.1,x.2,()))))
def aee(a0:af aK)(a1:Int)(a2:Int):aa asy:=
 match XD a0 with|G=>G|V r1=>match XD a0 with|G=>G|V r2=>if 0<=a1/\a1<zY a0 then if 0<=a1/\a1<(↑(zY r1):Int)then if 34=34/\a1.toNat<zY r1 then if 0<=a1/\a1<zY a0 then if 0<=a1/\a1<(↑(zY r2):Int)then if 34=34/\a1.toNat<zY r2 then V ((List.set r1 a1.toNat (TY a0[a1.toNat]!.ah a2),List.set r2 a1.toNat (TY (ak (a2+1)) a0[a1.toNat]!.ag)))else G else G else G else G else G else G
def aj1:=eL vp 112 O (lc (ql 34) (aU (aU ln))) d112 (λg=>aee g.1 g.2.1 g.t.1)
def amT:EO aj1:=λh=>kL (an:= .no) func112 (ai8 (uW aV)) aH h
structure vU where
 t0:List aK
 t2:Int
 t7:List aK
 (t8 t9:Int)
def adb{α:Type}(p:vU)(go:vU->aa α)(e1:aa α):aa α:=
 bif vn (p.t9<p.t8)then if 0<=p.t9/\p.t9<zY p.t7 then if 0<=p.t2/\p.t2<zY p.t0 then if 0<=p.t2/\p.t2<zY p.t0 then bif vn (ak (p.t0[zq p.t2]!.ag-p.t0[zq p.t2]!.ah)<ak (p.t7[zq p.t9]!.ag-p.t7[zq p.t9]!.ah))then go (vU.mk p.t0 p.t9 p.t7 p.t8 (ak (p.t9+1)))else go (vU.mk p.t0 p.t2 p.t7 p.t8 (ak (p.t9+1)))else G else G else G else e1
def avb(p:vU):aa (aa vU):=
 adb p (λs=>V (V s)) (V G)
def awp:=bI (avb)
abbrev aGn:=Int×Int×Bool
def aEq(a0:af aK):aa aGn:=
 match awp (vU.mk a0 0 a0 (zY a0) 0)with|G=>G|V r1=>adb r1 (λ_=>G) (bif vn ((zY r1.t0:Int)=0)then V (0,0,O)else if 0<=r1.t2/\r1.t2<zY r1.t0 then if 0<=r1.t2/\r1.t2<zY r1.t0 then bif vn (r1.t0[zq r1.t2]!.ag=r1.t0[zq r1.t2]!.ah)then V (0,0,O)else if 0<=r1.t2/\r1.t2<zY r1.t0 then if 0<=r1.t2/\r1.t2<zY r1.t0 then match aIl (ak (r1.t0[zq r1.t2]!.ah+r1.t0[zq r1.t2]!.ag)) 2with|G=>G|V r2=>V (r1.t2,r2,J)else G else G else G else G)
abbrev aGD:=af Part
def aIc(a0:af Part):aa aGD:=if zY a0<=1073741824 then V a0 else G
abbrev E49:=(af Part)×Bool
def m49(a0:af Part)(a1:Int):aa E49:=
 if 0<=a1/\a1<zY a0 then match aEq a0[a1.toNat]!.dw with|G=>G|V r1=>bif bif r1.snd.snd then O else J then V (a0,O)else if 0<=a1/\a1<zY a0 then match aee a0[a1.toNat]!.dw r1.fst r1.snd.fst with|G=>G|V r2=>match aIc a0 with|G=>G|V r3=>if(r3++[Part.mk ((0:Int)) ((0:Int)) [] r2.fst,Part.mk ((0:Int)) ((0:Int)) [] r2.snd]).length<=1073741824 then if 0<=a1/\a1<zY a0 then if 0<=a1/\a1<(↑(r3++[Part.mk ((0:Int)) ((0:Int)) [] r2.fst,Part.mk ((0:Int)) ((0:Int)) [] r2.snd]).length:Int)then if 90=90/\a1.toNat<zY (r3++[Part.mk ((0:Int)) ((0:Int)) [] r2.fst,Part.mk ((0:Int)) ((0:Int)) [] r2.snd]) then V (((r3++[Part.mk 0 0 [] r2.fst,Part.mk 0 0 [] r2.snd]).set a1.toNat (Part.mk r1.fst r1.snd.fst [(zY a0:Int),ak ((zY a0:Int)+1)] a0[a1.toNat]!.dw),J))else G else G else G else G else G else G
def aCj:bu:=dA
structure sj where
 t3:Int
 t7:List bh
 (t8 t9:Int)
def SK:Td 0 sj:= .c [] [3,7,8,9] (.r 0 0 (ec 3 aP (ec 7 (ql 131) (ec 8 aP (ec 9 aP en)))) sn (λz=>⟨z.1.1,z.1.2.1,z.1.t.1,z.1.t.2.1⟩) (λx=>((x.t3,x.t7,x.t8,x.t9,()),(()))))
def Fy{α:Type}(p:sj)(go:sj->aa α)(e1:aa α):aa α:=
 bif vn (p.t9<p.t8)then if 0<=p.t9/\p.t9<zY p.t7 then match (bif vn (p.t7[zq p.t9]!.bS=1)then V J else V (vn (p.t7[zq p.t9]!.bS=3)))with|G=>G|V r1=>bif r1 then go (sj.mk (ak (p.t3*ak (ak (p.t7[zq p.t9]!.ag-p.t7[zq p.t9]!.ah)+1))) p.t7 p.t8 (ak (p.t9+1)))else go (sj.mk p.t3 p.t7 p.t8 (ak (p.t9+1)))else G else e1
def L2(p:sj):aa (aa sj):=
 Fy p (λs=>V (V s)) (V G)
def agj:An:=(noTwo (noTwo (.two (noTwo (.two (.rb [] 20) .no)) .no)))
def K7:=bI (L2)
abbrev aAP:=Int
def d104:Td 0 aAP:= .c [] [2] (.r 0 0 (ec 2 aP en) sn (λz=>z.1.1) (λx=>((x,()),(()))))
def aDm:∀f∈([]:af Nat),bA (aCj) f:=aH
def aja(a0:aS):aa aAP:=
 match K7 (sj.mk 1 a0.ai (zY a0.ai) 0)with|G=>G|V r2=>Fy r2 (λ_=>G) (V (r2.t3))
def ab6:=eL vp 104 O (lc (qg 26) ln) d104 (λg=>aja g.1)
def an6:EO ab6:=λh=>kL (F:=aCj) (an:=(noTwo (noTwo (.two (noTwo (SK.lp K7 agj)) .no)))) (l:=[(bk f104 0,(SK.lp K7 agj)),(.skip,(.rb [] 20))]) func104 aV (aA (aO SK) (aA aDm aH)) h
def Co:EP ab6:=λh=>kP h
def F46:bu:=(ab6 (e55 (e24 dA)))
abbrev E46:=Bool
def d46:Td 0 E46:= .c [] [4] (.r 0 0 (ec 4 qb en) sn (λz=>z.1.1) (λx=>((x,()),(()))))
def aGK:∀f∈([24,55,104]:af Nat),bA (F46) f:=(aA (Co (FN (GS bG))) (aA (Co (FN (GS bG))) (aA (Co (FN (GS bG))) aH)))
def m46(a0:aS)(a1:bU):aa E46:=
 match match m24 a0 (16) (4096) (4)with|G=>G|V r1=>bif r1 then match m55 a0 a1 with|G=>G|V r2=>bif vn (r2=0)then match aja a0 with|G=>G|V r3=>V (vn (r3<=16))else V (O)else V (O)with|G=>G|V r4=>V (r4)
def e46:=eL vp 46 O (lc (qg 26) (lc (qg 29) ln)) d46 (λg=>m46 g.1 g.2.1)
def avq:EO e46:=λh=>kL (F:=F46) (an:=(noTwo (.two (.rb [24,55,104] 4) .no))) (l:=[(.skip,(.rb [24,55,104] 4))]) func46 (an6 (auk (art aV))) (aA aGK aH) h
def adz:EP e46:=λh=>kP h
structure Hr where
 t9:List Part
 t31:List Int
 (t32 t33:Int)
 b0:aS
 b1:bU
 (b2 b3:aW)
def apN{α:Type}(p:Hr)(go:Hr->aa α)(e1 e2:aa α):aa α:=
 bif vn (p.t33<p.t32)then if 0<=p.t33/\p.t33<zY p.t31 then if¬(zY p.t9:Int)=(0:Int)then match m49 p.t9 ((ak p.t31[zq p.t33]!).tmod (zY p.t9))with|G=>G|V r1=>match (if(0:Int)<=(ak p.t31[zq p.t33]!).tmod p.t9.length/\(ak p.t31[zq p.t33]!).tmod (zY p.t9:Int)<(zY p.t9:Int)then bif vn (0<(↑p.t9[((ak p.t31[zq p.t33]!).tmod (zY p.t9)).toNat]!.aq.length:Int))then V J else V (bif r1.snd then O else J)else G)with|G=>G|V r2=>bif r2 then go (Hr.mk p.t9 p.t31 p.t32 (ak (p.t33+1)) p.b0 p.b1 (aW.mk [] []) p.b3)else match m48 p.b0 p.b1 p.b3 ((ak p.t31[zq p.t33]!).tmod (zY p.t9))with|G=>G|V r3=>bif bif vn (r3.snd=0)then O else J then e1 else go (Hr.mk r1.fst p.t31 p.t32 (ak (p.t33+1)) p.b0 p.b1 (aW.mk [] []) r3.fst)else G else G else e2
def ayR(p:Hr):aa (aa Hr):=
 apN p (λs=>V (V s)) (V G) (V G)
def axF:=bI (ayR)
abbrev E47:=(af Part)×aW×Bool
def d47:Td 0 E47:= .c [] [6,7,8] (.t (b6.fs 6 []) (.t (b6.fc 1 0 []) (.t (b6.fc 1 1 []) (.t (b6.fc 0 0 []) (.t (b6.fc 0 1 []) (.c [] [6,7,8] (.r 0 1 (ec 6 (ql 90) (ec 7 (qp 0 0) (ec 8 qb en))) (sb 0 84 (lg 84) sn) (λz=>(z.1.1,z.2.1,z.1.t.1)) (λx=>((x.1,(),x.t,()),(x.2.1,()))))))))))
def m47(a0:aS)(a1:bU)(a2:af Int):aa E47:=
 match m58 a0 with|G=>G|V r4=>match m54 a0 a1 with|G=>G|V r5=>bif bif vn (r5.snd=0)then O else J then V (r4,r5.fst,O)else match axF (Hr.mk r4 a2 (zY a2) 0 a0 a1 (aW.mk [] []) r5.fst)with|G=>G|V r6=>apN r6 (λ_=>G) (V (r6.t9,r6.b3,O)) (V (r6.t9,r6.b3,J))
def e47:bu->bu:=eZ vp 47 (lc (qg 26) (lc (qg 29) (lc (ql 5) ln))) d47 (λg=>m47 g.1 g.2.1 g.t.1)
structure aKe where
 t7:List Part
 t10:Int
 b0:aS
 b1:bU
 b2:aW
def iv(a b:Int):aK:=if a=b then⟨a,b,0⟩else⟨a,b,1⟩
def TT(a b:Int):(iv a b).ah=a:=by unfold iv;split<;>rfl
def KN(a b:Int):(iv a b).ag=b:=by unfold iv;split<;>rfl
def anx(a b:Int):R8 a b=iv a b:=by unfold R8 iv;by_cases h:a=b<;>simp[h]
def axy{a b:Int}(h1: -1048576<=a)(h2:a<=b)(h3:b<=1048576):NN (iv a b):=by
 unfold iv;by_cases e:a=b
 ·rw[bB e];exact⟨by show _<=a;omega,by show b<=_;omega,by show a<=b;omega, .inl ⟨e,rfl⟩⟩
 ·rw[bL e];exact⟨by show _<=a;omega,by show b<=_;omega,by show a<=b;omega, .inr ⟨by show a<b;omega,by show (1:Int)<=1;omega,by show (b-a)%1=0;omega⟩⟩
structure mW (f:aS) (b:List aK):Prop where
 len:zY b=zY (ei f.ai)
 el:∀j,j<zY b->∃x y,b[j]! =iv x y/\x<=y/\(ei f.ai)[j]!.ah<=x/\y<=(ei f.ai)[j]!.ag
structure Cx (f:aS) (v:bU):Prop where
 hN:fK f.bM+kS (f.ax.map (·.aF))<=900
 hh:zY f.ax<=1000
 hl:zY f.ai<=1000
 hc:qT f=0
 hq:cdA f v=0
def dF{α:Type}[Inhabited α](l:af α)(i j:Nat)(x:α)(hj:j<zY l):(l.set i x)[j]! =if i=j then x else l[j]! :=by
 rw[getElem!_pos _ j (by simpa using hj),getElem!_pos l j hj,List.getElem_set]
def adG{α:Type}[Inhabited α](l m:af α)(j:Nat)(h:j<zY m):(l++m)[zY l+j]! =m[j]! :=by
 rw[getElem!_pos _ _ (by simp;omega),getElem!_pos m j h,wC au];simp
def gX{α β:Type}[Inhabited α][Inhabited β](g:α->β)(l:af α)(j:Nat)(h:j<zY l):(l.map g)[j]! =g l[j]! :=by
 rw[getElem!_pos _ j (by simpa using h),getElem!_pos l j h,yM]
def ZS(b:af aK)(i:Nat)(at_:Int):af aK:=b.set i (iv b[i]!.ah at_)
def bHi(b:af aK)(i:Nat)(at_:Int):af aK:=b.set i (iv (at_+1) b[i]!.ag)
section
variable {f:aS} {v:bU}
def EH(h:Cx f v):zY (ei f.ai)<=2000:=by
 unfold ei;rw[zh];have:=yq (kd 1) f.ai;have:=yq (kd 3) f.ai;have:=h.hl;omega
def mW.bd{b:af aK}(h:mW f b)(c:qT f=0){j:Nat}(hj:j<zY b): -1048576<=b[j]!.ah/\b[j]!.ah<=b[j]!.ag/\b[j]!.ag<=1048576:=by
 obtain⟨x,y,e,h1,h2,h3⟩:=h.el j hj;obtain⟨k1,k2,k3⟩:=Ul c (j:=j) (by rw[<-h.len];exact hj);rw[e,TT,KN];omega
def L8(h:Cx f v):mW f (mX f):=by
 rw[ab9];refine⟨by simp,λj hj=> ?_⟩;have hj':j<zY (ei f.ai):=by simpa using hj
 obtain⟨k1,k2,k3⟩:=Ul h.hc hj';refine⟨(ei f.ai)[j]!.ah,(ei f.ai)[j]!.ag,?_,k2,zj _,zj _⟩;rw[gX _ _ _ hj'];unfold D8 iv;by_cases e:(ei f.ai)[j]!.ah=(ei f.ai)[j]!.ag
 ·rw[bB e,bB e,<-e]
 ·rw[bL e,bL e]
def afc{b:af aK}(h:mW f b){i:Nat}(hi:i<zY b){x y:Int}(h1:x<=y)(h2:b[i]!.ah<=x)(h3:y<=b[i]!.ag):mW f (b.set i (iv x y)):=by
 refine⟨by rw[zI];exact h.len,λj hj=> ?_⟩;rw[zI]at hj;rw[dF _ _ _ _ hj];by_cases e:i=j
 ·subst e;obtain⟨x',y',e',k1,k2,k3⟩:=h.el i hj;rw[e',TT]at h2;rw[e',KN]at h3;exact⟨x,y,by rw[bB rfl],h1,au,au⟩
 ·rw[bL e];exact h.el j hj
def aqA{b:af aK}(h:mW f b){i:Nat}(hi:i<zY b){a:Int}(h1:b[i]!.ah<=a)(h2:a<b[i]!.ag):mW f (ZS b i a):=afc h hi h1 (zj _) au
def aqy{b:af aK}(h:mW f b){i:Nat}(hi:i<zY b){a:Int}(h1:b[i]!.ah<=a)(h2:a<b[i]!.ag):mW f (bHi b i a):=afc h hi au au (zj _)
def mW.ask{b:af aK}(h:mW f b)(c:Cx f v):Bn f v b=0:=by
 have hq:=c.hq;have hc:=c.hc;unfold cdA at hq;unfold Bn;by_cases h2:zY v.bz=zY (f.ai.filter (kd 2))
 case neg=>rw[bL (by simpa using hc),bB h2]at hq;cases hq
 by_cases h3:cu (jI v.bz) (f.ai.filter (kd 2)) 0=0
 case neg=>rw[bL (by simpa using hc),bL (by simpa using h2)]at hq;exact dS hq h3
 rw[bL (by simpa using hc),bL (by simpa using h2),bL (by simpa using h3),bL (by simpa using h.len)];refine JF _ _ λj hj=> ?_;rw[yj];have hj':j<zY b:=by rw[h.len];exact hj
 obtain⟨x,y,e,h1,h2,h3⟩:=h.el j hj';obtain⟨k1,k2,k3⟩:=Ul hc hj;have hn:NN b[j]! :=by rw[e];exact axy au h1 au
 have el:b[j]!.ah=x:=by rw[e,TT]
 have eh:b[j]!.ag=y:=by rw[e,KN]
 unfold o8;rw[dZ (.inr hn)];simp only[cD];have hs:Zf b[j]! =bY b[j]! :=by unfold Zf;rw[bB (.inr hn)]
 have hp:=size_pos hn;rw[hs,fD,fD,fD];rfl
def bdX(f:aS)(v:bU)(b:af aK):Int:=aiI (fA f v b) (fI b)
def Qv(f:aS)(v:bU)(b:af aK):Bool:=sgB (fA f v b)
def BU(f:aS)(v:bU)(b:af aK):aC:=if Qv f v b=J then aaM (fA f v b)else⟨[],0⟩
def mW.UJ{b:af aK}(h:mW f b)(c:Cx f v):UJ f v b=V (bdX f v b,0):=by
 have ha:=h.ask c;have e20:=aqU (v:=v) (box:=b) c.hN c.hh c.hl;rw[bB ha]at e20;have hfit:=BK ha;have hbl:zY b<=1000000:=by have:=EH c;rw[h.len];omega
 exact aCJ e20 (Fa hfit) hfit.nn hbl hfit.vol.2
def mW.Z9{b:af aK}(h:mW f b)(c:Cx f v):Z9 f v b=V (BU f v b,Qv f v b,0):=by
 have ha:=h.ask c;have e20:=aqU (v:=v) (box:=b) c.hN c.hh c.hl;rw[bB ha]at e20;have hfit:=BK ha;have:=axd e20 (Fa hfit);rw[this];unfold BU Qv;cases sgB (fA f v b)<;>rfl
def mW.obl{b:af aK}(h:mW f b)(c:Cx f v):zY (BU f v b).aM<=8:=by
 unfold BU;split
 ·unfold aaM;rw[zB];exact(af2 (BK (h.ask c))).1
 ·exact yU _
def cellOf(f:aS)(v:bU)(p:Part):dW:=⟨p.dw,p.aZ,p.eN,p.aq,bdX f v p.dw,Qv f v p.dw,BU f v p.dw⟩
def apm{l:af aK}(h:zY l<=1000000):XD l=V l:=by unfold XD;rw[gM]
def anL{b:af aK}(h:zY b<=1000000){i:Nat}(hi:i<zY b){a:Int}(h1: -1048576<=a)(h2:a<=1048576):ZO b (i:Int) a=V (ZS b i a,bHi b i a):=by
 have hw:ak (a+1)=a+1:=aL;have i1:(i:Int)<(zY b:Int):=au;have i2:(0:Int)<=(i:Int):=au;unfold ZO;simp only[cG,apm h,i1,i2,cW,hi,anx,hw];rfl
end
def nU(l:af Part):af Int:=l.flatMap (·.aq)
structure WF (f:aS) (l:List Part):Prop where
 ne:0<zY l
 root:l[0]!.dw=mX f
 box:∀i,i<zY l->mW f l[i]!.dw
 Je:∀i,i<zY l->(l[i]!.aq=[]/\l[i]!.aZ=0/\l[i]!.eN=0)\/
  ∃a b j:Nat,l[i]!.aq=[(a:Int),(b:Int)]/\i<a/\a<zY l/\i<b/\b<zY l/\a≠b/\l[i]!.aZ=(j:Int)/\j<zY l[i]!.dw/\l[i]!.dw[j]!.ah<=l[i]!.eN/\l[i]!.eN<l[i]!.dw[j]!.ag/\
   l[a]!.dw=ZS l[i]!.dw j l[i]!.eN/\l[b]!.dw=bHi l[i]!.dw j l[i]!.eN
 cnt:∀k:Nat,k<zY l->(nU l).count (k:Int)=if k=0 then 0 else 1
def Ko(c:af Cell)(i:Int)(n:Int)(t16:af Cell)(t17 t18:Int)(ks:af Int)(P:af Int)(hl:zY ks<=1000000)(hk:∀x∈ks,∃a:Nat,x=(a:Int)/\i<(a:Int)/\a<zY c)(hP:zY P=zY c)(hb:∀k,k<zY P->0<=P[k]!/\P[k]!<=1000000):
  ∃Q,FK ⟨c,P,i,t16,t17,t18,ks,(zY ks:Int),0⟩=V ⟨c,Q,i,t16,t17,t18,ks,(zY ks:Int),(zY ks:Int)⟩/\zY Q=zY P/\∀k,k<zY P->Q[k]! =P[k]! +((ks.count (k:Int):Nat):Int):=by
 obtain⟨Q,e,h1,h2⟩:=cS (rnd:=oZ) (zY ks) (λj (Q:af Int)=>⟨c,Q,i,t16,t17,t18,ks,(zY ks:Int),(j:Int)⟩) (λj Q=>zY Q=zY P/\∀k,k<zY P->Q[k]! =P[k]! +(((ks.take j).count (k:Int):Nat):Int)) (λj Q hj ⟨h1,h2⟩=>by
  have hw:=jR hj hl;have i1:(j:Int)<(zY ks:Int):=au;have i2:(0:Int)<=(j:Int):=au;obtain⟨a,ea,a1,a2⟩:=hk ks[j]! (bf hj);have a3:¬(a:Int)<=i:=au;have a4:¬(zY c:Int)<=(a:Int):=au;have a5:(a:Int)<(zY Q:Int):=au;have a6:(0:Int)<=(a:Int):=au;have a7:a<zY Q:=au;have hq:=h2 a au;have hbb:=hb a au;have hcl:(ks.take j).count (a:Int)<=1000000:=by
   have:=List.count_le_length (a:=(a:Int)) (l:=ks.take j);rw[zD]at this;omega
  have hw2:ak (Q[a]! +1)=Q[a]! +1:=aL;refine⟨Q.set a (Q[a]! +1),?_,by rw[zI];exact h1,λk hk=> ?_⟩
  ·unfold oZ gQ;simp only[cG,cD,i1,i2,cW,ea,a3,a4,a5,a6,a7,hw,hw2]
  ·rw[dF _ _ _ _ au,bE hj,xZ,ea];by_cases e:a=k
   ·subst e;rw[bB rfl,hq];simp;omega
   ·rw[bL e,h2 k hk];have:([(a:Int)]).count (k:Int)=0:=wz.2 (by simp;omega);rw[this];simp) (λQ _=>by unfold oZ gQ;simp) (b:=P) ⟨rfl,λk _=>by simp⟩
 rw[zy]at h2;exact⟨Q,e,h1,h2⟩
structure aoQ (l:List Part) (c:List Cell):Prop where
 len:zY c=zY l
 el:∀i,i<zY l->c[i]!.aZ=l[i]!.aZ/\c[i]!.eN=l[i]!.eN/\c[i]!.aq=l[i]!.aq
def DX{l:af Part}{i:Nat}(h:i<zY l):nU (l.take (i+1))=nU (l.take i)++l[i]!.aq:=by
 unfold nU;rw[bE h,xR];simp
def WF.Hq{f:aS}{l:af Part}(h:WF f l){i:Nat}(hi:i<zY l):zY l[i]!.aq<=2:=by
 rcases h.Je i hi with ⟨h1,_⟩|⟨a,b,j,h1,_⟩<;>rw[h1]<;>simp
def WF.YX{f:aS}{l:af Part}(h:WF f l):∀i,i<=zY l->zY (nU (l.take i))<=2*i
 |0,_=>by simp[nU]
 |i+1,hi=>by
  have:=h.YX i au;have:=h.Hq (i:=i) au;rw[DX au,zh];omega
def amy{f:aS}{l:af Part}(h:WF f l)(hl:zY l<=100000){c:af Cell}(hc:aoQ l c):D9 c=V J:=by
 have hn:zY c=zY l:=hc.len;have h0:=h.ne;obtain⟨P,e,hP,hPk⟩:=cS (rnd:=ry) (zY c) (λi (P:af Int)=>⟨c,P,c,(zY c:Int),(i:Int)⟩) (λi P=>zY P=zY c/\∀k,k<zY c->P[k]! =(((nU (l.take i)).count (k:Int):Nat):Int)) (λi P hi ⟨p1,p2⟩=>by
  obtain⟨i1,i2,hw⟩:=w3 hi au;have hil:i<zY l:=au;obtain⟨c1,c2,c3⟩:=hc.el i hil;have hkl:=h.Hq hil;have hall:∀x∈c[i]!.aq,∃a:Nat,x=(a:Int)/\(i:Int)<(a:Int)/\a<zY c:=λx hx=>by
   rw[c3]at hx;rcases h.Je i hil with ⟨q1,_⟩|⟨a,b,j,q1,q2,q3,q4,q5,_⟩
   ·rw[q1]at hx;cases hx
   ·rw[q1]at hx;rcases zx.1 hx with rfl|hx
    ·exact⟨a,rfl,au,au⟩
    ·rw[zo.1 hx];exact⟨b,rfl,au,au⟩
  obtain⟨Q,e1,e2,e3⟩:=Ko c (i:Int) 0 c (zY c:Int) (i:Int) c[i]!.aq P (by rw[c3];omega) hall p1 (λk hk=>by
   rw[p2 k au];have:=h.YX i au;have:=List.count_le_length (a:=(k:Int)) (l:=nU (l.take i));omega)
  refine⟨Q,?_,au,λk hk=> ?_⟩
  ·unfold ry lz gQ;rcases h.Je i hil with ⟨q1,q2,q3⟩|⟨a,b,j,q1,_⟩
   ·have z:c[i]!.aq=[]:=by rw[c3,q1]
    have z1:c[i]!.aZ=0:=by rw[c1,q2]
    have z2:c[i]!.eN=0:=by rw[c2,q3]
    rw[z]at e1;simp only[yA]at e1;simp only[zg,i1,z,z1,z2,yA,e1,hw];simp
   ·have z:c[i]!.aq=[(a:Int),(b:Int)]:=by rw[c3,q1]
    rw[z]at e1;simp only[yw,yA]at e1;simp only[zg,i1,z,yw,yA,e1,hw];simp
  ·rw[e3 k au,p2 k hk,DX hil,xZ,c3];simp) (λP _=>by unfold ry lz gQ;simp) (b:=zf (zY c) 0) ⟨by simp,λk hk=>by
    rw[getElem!_pos _ k (by simpa using hk)];simp[nU]⟩
 have e':FV ⟨c,zf (zY c) 0,c,(zY c:Int),0⟩=V ⟨c,P,c,(zY c:Int),(zY c:Int)⟩:=e;rw[hn,zy]at hPk;have hfin:∀k,k<zY l->P[k]! =if k=0 then 0 else 1:=λk hk=>by
  rw[hPk k hk,h.cnt k hk];split<;>rfl
 obtain⟨-,e2,-⟩:=cS (rnd:=qV) (zY P) (λi (_:Unit)=>⟨P,(zY P:Int),(i:Int)⟩) (λ_ _=>True) (λi b hi _=>by
  obtain⟨i1,i2,hw⟩:=w3 hi au;have hp:=hfin i au;refine⟨(),?_,trivial⟩;unfold qV mM;by_cases e:i=0
  ·subst e;simp only[zg,i1,hi,hp];rfl
  ·rw[bL e]at hp;have:¬(i:Int)=0:=au;simp only[zg,i1,hi,hp,hw,this];simp) (λb _=>by unfold qV mM;simp) (b:=()) trivial
 have e2':Gu ⟨P,(zY P:Int),0⟩=V ⟨P,(zY P:Int),(zY P:Int)⟩:=e2;have n0:¬(zY c:Int)=0:=au;have n1:(0:Int)<=(zY c:Int)/\(zY c:Int)<=(zY c:Int)/\(zY c:Int)<=1073741824:=au;unfold D9 lz mM gQ;simp only[cG,n0,ct,bB n1,e',yx,e2']
def GC(l:af aC):Prop:=l.Pairwise λx y=>dM x y<=0
def sR(l:af aC):(GJ l).Perm l:=List.mergeSort_perm _ _
def Q7(l:af aC):GC (GJ l):=by
 have:=List.pairwise_mergeSort (le:=λx y=> !Go.Proofs.ltOf dM y x) (λa b c h1 h2=>by
  simp only[Go.Proofs.ltOf,Bool.not_eq_true',decide_eq_false_iff_not]at*;have n1:=dP a b;have n2:=dP b c;have n3:=dP a c
  have:=ng a b c au au;omega) (λa b=>by
  simp only[Go.Proofs.ltOf,yC,Bool.not_eq_true',decide_eq_false_iff_not];have:=dP a b;omega) l
 refine this.imp λ{a b} h=> ?_;simp only[Go.Proofs.ltOf,Bool.not_eq_true',decide_eq_false_iff_not]at h;have:=dP a b;omega
def Iz:∀(l:af aC) (p:aC),(pZ p l).Sublist l
 |[],_=> .slnil
 |y::l,p=>by
  unfold pZ;split
  ·exact(Iz l y).cons y
  ·exact(Iz l y).cons_cons y
def Fm(l:af aC):(Bd l).Sublist l:=by
 cases l with
 |nil=>exact .slnil
 |cons x l=>exact(Iz l x).cons_cons x
def acD{l:af aC}(h:GC l):GC (Bd l):=List.Pairwise.sublist (Fm l) h
def nK(c:af dW):af aC:=(c.filter (·.ep)).map (·.cv)
def lT(c:af dW):af aC:=Bd (GJ (nK c))
def Ht(c:af dW):GC (lT c):=acD (Q7 _)
def PJ(c:af dW):zY (lT c)<=zY c:=by
 have h1:=(Fm (GJ (nK c))).length_le;rw[(sR _).length_eq]at h1;have h2:=yq (λx:dW=>x.ep) c;unfold lT;unfold nK at*;rw[zB]at h1;omega
def PU{c:af dW}{o:aC}(h:o∈lT c):∃x∈c,x.ep=J/\x.cv=o:=by
 have:=(sR _).mem_iff.1 ((Fm _).subset h);obtain⟨x,h1,h2⟩:=zM.1 this;obtain⟨h3,h4⟩:=z8.1 h1;exact⟨x,h3,h4,h2⟩
def JV{c:af dW}{i:Nat}(h:i<zY c):nK (c.take (i+1))=if c[i]!.ep then nK (c.take i)++[c[i]!.cv]else nK (c.take i):=by
 unfold nK;rw[bE h,xh,zO];cases e:c[i]!.ep
 ·rw[vi (by rw[e];decide)];simp
 ·rw[vh e];rfl
def aiY(f:aS)(v:bU){c:af dW}(hl:zY c<=1000000):am0 ⟨f,v,c⟩=V (lT c,⟨f,v,c⟩):=by
 obtain⟨L,e,hL⟩:=cS (rnd:=NJ) (zY c) (λi (L:af aC)=>⟨L,c,(zY c:Int),(i:Int),⟨f,v,c⟩⟩) (λi L=>L=nK (c.take i)) (λi L hi hb=>by
  obtain⟨i1,i2,hw⟩:=w3 hi hl;refine⟨nK (c.take (i+1)),?_,rfl⟩;subst hb;have hlen:zY (nK (c.take i))<=1000000:=by
   unfold nK;rw[zB];have:=yq (λx:dW=>x.ep) (c.take i);rw[zD]at this;omega
  have hl2:zY (nK (c.take i)++[c[i]!.cv])<=1073741824:=by rw[zh,ym];omega
  rw[JV hi];unfold NJ Hw;cases es:c[i]!.ep with
  |true=>simp only[cG,i1,i2,hi,cK,cW,es,hl2,hw]
  |false=>simp only[cG,cD,gK,i1,i2,hi,es,hw,yy]) (λL _=>by unfold NJ Hw;simp) (b:=[]) (by simp[nK])
 rw[zy]at hL;subst hL;have e':NI ⟨[],c,(zY c:Int),0,⟨f,v,c⟩⟩=V ⟨nK c,c,(zY c:Int),(zY c:Int),⟨f,v,c⟩⟩:=e;have hlen:zY (nK c)<=1000000:=by
  unfold nK;rw[zB];have:=yq (λx:dW=>x.ep) c;omega
 have h2:zY (GJ (nK c))<=1073741824:=by rw[(sR _).length_eq];omega
 unfold am0 Hw;simp only[e',yx,aac,Zt,bB (show zY (nK c)<=1073741824 by omega),bB h2];rfl
def vW{α:Type}[Inhabited α](p:α->Bool):∀(l:af α) (k:Nat),k<=zY l->(∀j,j<zY l->p l[j]! =vn (j<k))->zY (l.filter p)=k
 |[],k,hk,_=>by simp at hk ⊢;omega
 |x::l,0,_,h=>by
  have h0:=h 0 (by simp);have:p x=O:=by simpa using h0
  rw[vi (by simp[this])];exact vW p l 0 (yU _) λj hj=>by
   have:=h (j+1) (by simpa using hj)
   assumption
 |x::l,k+1,hk,h=>by
  have h0:=h 0 (by simp);have:p x=J:=by simpa using h0
  rw[vh this,yw,vW p l k (by simpa using hk) λj hj=>by
   have:=h (j+1) (by simpa using hj);simpa using this]
def kX(l:af aC)(o:aC):Nat:=zY (l.filter λx=>vn (dM x o<0))
def IW(l:af aC)(o:aC):Bool:=l.any λx=>vn (dM x o=0)
def Nl{l:af aC}(h:GC l){i j:Nat}(hij:i<j)(hj:j<zY l):dM l[i]! l[j]!<=0:=by
 rw[getElem!_pos l i au,getElem!_pos l j hj];exact List.pairwise_iff_getElem.1 h i j au hj hij
def ajf{l:af aC}(o:aC){k:Nat}(hk:k<=zY l)(h1:∀j,j<k->dM l[j]! o<0)(h2:∀j,k<=j->j<zY l->0<=dM l[j]! o):kX l o=k:=
 vW _ l k hk λj hj=>by
  by_cases e:j<k
  ·rw[bX e];exact bX (h1 j e)
  ·rw[bW e];have:=h2 j au hj;exact fD
def anK{l:af aC}(hs:GC l)(o:aC){k:Nat}(hk:k<=zY l)(h1:∀j,j<k->dM l[j]! o<0)(h2:∀j,k<=j->j<zY l->0<=dM l[j]! o):IW l o=vn (k<zY l/\dM l[k]! o=0):=by
 unfold IW;by_cases e:k<zY l/\dM l[k]! o=0
 ·rw[bX e,wN];exact⟨l[k]!,bf e.1,bX e.2⟩
 ·rw[bW e,List.any_eq_false];intro x hx;obtain⟨j,hj,rfl⟩:=xd hx;rw[decide_eq_true_eq];intro he;rw[<-getElem!_pos l j hj]at he;by_cases jk:j<k
  ·have:=h1 j jk;omega
  ·by_cases jk2:j=k
   ·exact e ⟨jk2▸hj,jk2▸he⟩
   ·have a1:=Nl hs (show k<j by omega) hj;have a2:=h2 k (zl _) au;have a3:=ng l[k]! l[j]! o a1 au;omega
def aHk{x:Int}(h1:0<=x)(h2:x<9223372036854775808):cT u64 (bJ x) 1=x/2:=by
 have:bJ x=x:=by simp[ak,bJ,IntKind.wrap,IntKind.bits];omega
 rw[this];unfold cT;have e:(2:Int)^(min (1:Int).toNat u64.bits)=2:=by decide
 rw[e,Int.fdiv_eq_ediv_of_nonneg _ au]
def ap3{q:aC->aC->aa Int}{l:af aC}(hs:GC l)(hl:zY l<=1000000)(o:aC)(ho:∀x∈l,q x o=V (dM x o)):mB q l o=V ((kX l o:Int),IW l o):=by
 have key:∀(d lo_ hi_:Nat),hi_-lo_<=d->lo_<=hi_->hi_<=zY l->(∀j,j<lo_->dM l[j]! o<0)->(∀j,hi_<=j->j<zY l->0<=dM l[j]! o)->
   ∃k:Nat,bI (nB q) ⟨l,(zY l:Int),(lo_:Int),(hi_:Int),o⟩=V ⟨l,(zY l:Int),(k:Int),(k:Int),o⟩/\k<=zY l/\(∀j,j<k->dM l[j]! o<0)/\∀j,k<=j->j<zY l->0<=dM l[j]! o:=by
  intro d;induction d with
  |zero=>
   intro a b h1 h2 h3 h4 h5;have:a=b:=au;subst this;exact⟨a,cn λr=>by unfold nB;simp,h3,h4,h5⟩
  |succ d ih=>
   intro a b h1 h2 h3 h4 h5;by_cases hab:a=b
   ·subst hab;exact⟨a,cn λr=>by unfold nB;simp,h3,h4,h5⟩
   ·have hlt:(a:Int)<(b:Int):=au;have w1:ak ((a:Int)+(b:Int))=(a:Int)+(b:Int):=aL;have s1:=aHk (x:=(a:Int)+(b:Int)) au au;obtain⟨m,hm⟩:∃m:Nat,((a:Int)+(b:Int))/2=(m:Int):=⟨((a+b)/2:Nat),au⟩;have w2:ak (m:Int)=(m:Int):=aL;have w3:ak ((m:Int)+1)=((m+1:Nat):Int):=jR (n:=1000000) au au;have i1:(m:Int)<(zY l:Int):=au;have i2:(0:Int)<=(m:Int):=au;have Lw:=ho l[m]! (bf au);by_cases hc:dM l[m]! o<0
    ·have r:nB q ⟨l,(zY l:Int),(a:Int),(b:Int),o⟩=V (V ⟨l,(zY l:Int),((m+1:Nat):Int),(b:Int),o⟩):=by
      unfold nB;simp only[cG,hlt,cK,w1,s1,hm,w2,w3,i1,i2,cW,Lw,hc]
     obtain⟨k,q1,q2⟩:=ih (m+1) b au au h3 (λj hj=>by
      by_cases e:j=m
      ·rw[e];exact hc
      ·have:=Nl hs (show j<m by omega) au;have n1:=dP l[j]! o;have n2:=dP l[m]! o
       have:=ng o l[j]! l[m]!;by_cases z:dM l[j]! o<0
       ·exact z
       ·have:=this au (by assumption);omega) h5
     exact⟨k,by rw[bP r];exact q1,q2⟩
    ·have r:nB q ⟨l,(zY l:Int),(a:Int),(b:Int),o⟩=V (V ⟨l,(zY l:Int),(a:Int),(m:Int),o⟩):=by
      unfold nB;simp only[cG,cD,hlt,w1,s1,hm,w2,i1,i2,cW,Lw,hc]
     obtain⟨k,q1,q2⟩:=ih a m au au au h4 (λj hj1 hj2=>by
      by_cases e:j=m
      ·rw[e];omega
      ·have:=Nl hs (show m<j by omega) hj2;have n1:=dP l[j]! o;have n2:=dP l[m]! o
       by_cases z:dM l[j]! o<0
       ·have:=ng l[m]! l[j]! o (by assumption) au;have:=ng o l[m]! l[j]! au (by assumption);omega
       ·omega)
     exact⟨k,by rw[bP r];exact q1,q2⟩
 obtain⟨k,e,h1,h2,h3⟩:=key (zY l) 0 (zY l) au au (zl _) (λj hj=>au) (λj h1 h2=>au);have e':bI (nB q) ⟨l,(zY l:Int),0,(zY l:Int),o⟩=V ⟨l,(zY l:Int),(k:Int),(k:Int),o⟩:=e;rw[ajf o h1 h2 h3,anK hs o h1 h2 h3];unfold mB;simp only[e',yx,Ej,ct];by_cases hk:k<zY l
 ·have i1:(k:Int)<(zY l:Int):=au;have i2:(0:Int)<=(k:Int):=au;have Lw:=ho l[k]! (bf hk);simp only[cG,i1,i2,cK,cW,Lw,hk,true_and]
 ·have i1:¬(k:Int)<(zY l:Int):=au;simp only[i1,Ej,ct,hk,false_and]
def aiy{l:af aC}(hs:GC l)(hl:zY l<=1000000)(o:aC)(ho:∀x∈l,zY x.aM<=9223372036854775807):arK l o=V ((kX l o:Int),IW l o):=ap3 hs hl o λx hx=>MP x o (ho x hx)
def uy(L:af aC)(c:dW):Cell:=⟨c.aZ,c.eN,c.aq,if c.ep then[(kX L c.cv:Int)]else[],c.fU⟩
def uM(c:af dW):aW:=⟨lT c,c.map (uy (lT c))⟩
structure Csz (c:List dW):Prop where
 len:zY c<=100000
 Je:∀i,i<zY c->zY c[i]!.aq<=1000
 obs:∀i,i<zY c->zY c[i]!.cv.aM<=1000
def Csz.mem{c:af dW}(h:Csz c){o:aC}(ho:o∈lT c):zY o.aM<=1000:=by
 obtain⟨x,h1,_,rfl⟩:=PU ho;obtain⟨i,hi,rfl⟩:=xd h1;rw[<-getElem!_pos c i hi];exact h.obs i hi
def ahO(f:aS)(v:bU){c:af dW}(h:Csz c):RW ⟨f,v,c⟩=V (uM c,⟨f,v,c⟩):=by
 have hcl:=h.len;have hll:=PJ c;have ato:=aiY f v (c:=c) au;obtain⟨L,hL⟩:∃L,L=lT c:=⟨_,rfl⟩;have hLl:zY L<=zY c:=by rw[hL];exact hll
 obtain⟨b,e1,hb⟩:=cS (rnd:=Ld) (zY L) (λi (b:af aC)=>⟨L,L,(zY L:Int),(i:Int),⟨f,v,c⟩,⟨[],[]⟩,⟨b,[]⟩⟩) (λi b=>b=L.take i) (λi b hi hb=>by
  obtain⟨i1,i2,hw⟩:=w3 hi au;have e35:=afz (l:=L[i]!.aM) (h.mem (hL▸bf hi));have hl2:zY (b++[L[i]!])<=1073741824:=by rw[hb,zh,zD,ym];omega
  refine⟨b++[L[i]!],?_,by rw[hb,bE hi]⟩;unfold Ld Fu;simp only[cG,i1,i2,hi,cK,cW,e35,hl2,hw]) (λb _=>by unfold Ld Fu;simp) (b:=[]) (by simp)
 rw[zy]at hb;subst hb;have e1':Ll ⟨b,b,(zY b:Int),0,⟨f,v,c⟩,⟨[],[]⟩,⟨[],[]⟩⟩=V ⟨b,b,(zY b:Int),(zY b:Int),⟨f,v,c⟩,⟨[],[]⟩,⟨b,[]⟩⟩:=e1;obtain⟨C,e2,hC⟩:=cS (rnd:=LY) (zY c) (λi (C:af Cell)=>⟨b,c,(zY c:Int),(i:Int),⟨f,v,c⟩,⟨[],[]⟩,⟨b,C⟩⟩) (λi C=>C=(c.take i).map (uy b)) (λi C hi hC=>by
  obtain⟨i1,i2,hw⟩:=w3 hi au;have e35:=afz (l:=c[i]!.aq) (h.Je i hi);have Rv:=aiy (l:=b) (by rw[hL];exact Ht c) au c[i]!.cv (λx hx=>by have:=h.mem (hL▸hx);omega);have hl2:∀x:Cell,zY (C++[x])<=1073741824:=λx=>by rw[hC,zh,zB,zD,ym];omega
  refine⟨C++[uy b c[i]!],?_,by rw[hC,bE hi,zO];rfl⟩;unfold LY G0;cases es:c[i]!.ep with
  |true=>simp only[cG,i1,i2,hi,cK,cW,e35,es,Rv,hl2,hw,uy]
  |false=>simp only[cG,cD,gK,i1,i2,hi,e35,es,hl2,hw,uy,yy]) (λC _=>by unfold LY G0;simp) (b:=[]) (by simp)
 rw[zy]at hC;subst hC;have e2':LH ⟨b,c,(zY c:Int),0,⟨f,v,c⟩,⟨[],[]⟩,⟨b,[]⟩⟩=V ⟨b,c,(zY c:Int),(zY c:Int),⟨f,v,c⟩,⟨[],[]⟩,⟨b,c.map (uy b)⟩⟩:=e2;unfold RW Fu G0;simp only[ato,e1',e2',yx,Ej,ct,uM,<-hL]
section
variable {f:aS} {v:bU}
def J5(c:Cx f v){l:af Part}(h:WF f l)(hl:zY l<=100000):Csz (l.map (cellOf f v)):=by
 refine⟨by simpa using hl,λi hi=> ?_,λi hi=> ?_⟩
 ·have hi':i<zY l:=by simpa using hi
  rw[gX _ _ _ hi'];have:=h.Hq hi';show zY l[i]!.aq<=1000;omega
 ·have hi':i<zY l:=by simpa using hi
  rw[gX _ _ _ hi'];have:=(h.box i hi').obl c;show zY (BU f v l[i]!.dw).aM<=1000;omega
def Qc(c:Cx f v):JK f v=V (⟨f,v,[cellOf f v ⟨0,0,[],mX f⟩]⟩,0):=by
 have e76:=arL f c.hN (by have:=c.hh;omega) c.hl;rw[bB c.hc]at e76;have hb:=L8 c;unfold JK;simp only[e76,hb.UJ c,hb.Z9 c];rfl
def adQ{α β:Type}[Inhabited α][Inhabited β]{q:α->β->aa Bool}{a:af α}{b:af β}(hl:zY a<=9223372036854775807)(h:zY a=zY b->∀i,i<zY a->∃r,q a[i]! b[i]! =V r):∃r,mE q a b=V r/\(r=J↔a.length=zY b/\∀i,i<zY a->q a[i]! b[i]! =V J):=by
 by_cases he:zY a=zY b
 ·have hd:vn ((zY a:Int)=(zY b:Int))=J:=oV;obtain⟨i,-,e,hI,hS⟩:=jq (rnd:=nE q) (zY a) (λi (_:Unit)=>⟨b,a,(zY a:Int),(i:Int)⟩) (λi _=>∀j,j<i->q a[j]! b[j]! =V J) (λi _=>q a[i]! b[i]! =V O) (λi _ hi hI=>by
   have hw:=wI hi hl;have i1:(i:Int)<(zY a:Int):=au;have i2:(0:Int)<=(i:Int):=au;have i3:(i:Int)<(zY b:Int):=au;obtain⟨r,hr⟩:=h he i hi;cases r with
   |true=>
    refine .inl ⟨(),?_,λj hj=> ?_⟩
    ·unfold nE;simp only[cG,cD,i1,i2,i3,cW,hr,hw]
    ·by_cases e:j=i
     ·rw[e];exact hr
     ·exact hI j au
   |false=>
    refine .inr ⟨?_,hr⟩;unfold nE;simp only[cG,cD,i1,i2,i3,cW,hr]) (λ_ _=>by unfold nE;simp) (b:=()) λj hj=>au
  have e':bI (nE q) ⟨b,a,(zY a:Int),0⟩=V ⟨b,a,(zY a:Int),(i:Int)⟩:=e;unfold mE;rcases hS with hn|⟨hi,hS⟩
  ·refine⟨J,?_,λ_=>⟨he,hn▸hI⟩,λ_=>rfl⟩;rw[hn]at e';simp only[cD,hd,e',yx,Ej]
  ·refine⟨false,?_,⟨(λh=>by cases h),λhh=> ?_⟩⟩
   ·have i1:(i:Int)<(zY a:Int):=au;have i2:(0:Int)<=(i:Int):=au;have i3:(i:Int)<(zY b:Int):=au;simp only[cG,cD,hd,e',i1,i2,i3,cW,hS]
   ·have:=hh.2 i hi;rw[hS]at this;cases this
 ·have he':¬(zY a:Int)=(zY b:Int):=au;refine⟨false,?_,⟨(λh=>by cases h),λhh=>dS hh.1 he⟩⟩;unfold mE;simp only[cD,he',Ej]
end
section
variable {f:aS} {v:bU}
def amC(a b:Int):TY a b=iv a b:=by unfold TY iv;by_cases h:a=b<;>simp[h]
def alg{b:af aK}(h:zY b<=1000000){i:Nat}(hi:i<zY b){a:Int}(h1: -1048576<=a)(h2:a<=1048576):aee b (i:Int) a=V (ZS b i a,bHi b i a):=by
 have hw:ak (a+1)=a+1:=aL;have i1:(i:Int)<(zY b:Int):=au;have i2:(0:Int)<=(i:Int):=au;unfold aee;simp only[cG,apm h,i1,i2,cW,hi,amC,hw];rfl
end
section
variable {f:aS} {v:bU}
def ae5(f:aS)(h:zY f.ai<=1000):∃n,aja f=V n:=by
 obtain⟨n,e,-⟩:=cS (rnd:=L2) (zY f.ai) (λi (n:Int)=>⟨n,f.ai,(zY f.ai:Int),(i:Int)⟩) (λ_ _=>True) (λi n hi _=>by
  obtain⟨i1,i2,hw⟩:=w3 hi au;unfold L2 Fy;by_cases h1:f.ai[i]!.bS=1
  ·refine⟨ak (n*ak (ak (f.ai[i]!.ag-f.ai[i]!.ah)+1)),?_,trivial⟩;simp only[cG,i1,i2,cK,cW,h1,hw]
  ·by_cases h3:f.ai[i]!.bS=3
   ·refine⟨ak (n*ak (ak (f.ai[i]!.ag-f.ai[i]!.ah)+1)),?_,trivial⟩;have h31:¬(3:Int)=1:=by decide
    simp only[cG,cD,i1,i2,cW,h3,h31,hw]
   ·refine⟨n,?_,trivial⟩;simp only[cG,cD,i1,i2,cW,h1,h3,hw]) (λn _=>by unfold L2 Fy;simp) (b:=1) trivial
 have e':K7 ⟨1,f.ai,(zY f.ai:Int),0⟩=V ⟨n,f.ai,(zY f.ai:Int),(zY f.ai:Int)⟩:=e;unfold aja Fy;simp only[e',yx,Ej,ct];exact⟨n,rfl⟩
def auD(f:aS)(v:bU):∃r,m46 f v=V r/\(r=J->Cx f v):=by
 obtain⟨r,e24,h24⟩:=atp f 16 4096 4;unfold m46;cases r with
 |false=>exact⟨false,by simp only[e24,ct],λh=>by cases h⟩
 |true=>
  obtain⟨hf,hc⟩:=h24 rfl;unfold few at hf;rw[decide_eq_true_iff]at hf;obtain⟨f1,f2,f3⟩:=hf;have e55:=ayg (f:=f) au au au v;obtain⟨n,ab6⟩:=ae5 f au;by_cases hq:cdA f v=0
  ·refine⟨vn (n<=16),by simp only[e24,cK,e55,hq,DB,ab6],λ_=>⟨au,au,au,hc,hq⟩⟩
  ·exact⟨false,by simp only[cD,e24,e55,hq,Ej],λh=>by cases h⟩
end
end Go.Proofs.YtnfljbehcffmcaaGreat
end
