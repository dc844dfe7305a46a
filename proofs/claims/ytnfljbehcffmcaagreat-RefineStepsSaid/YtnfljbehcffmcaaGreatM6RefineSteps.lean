/- Merged: Hz, Hw, Nf1, Nf2, Nf3, Nf4, Hk, Hu, Nf5, Nf6, Nf7, Nf8, Nf9, Hp1, Pw1, Hk45, H10, Nk1, Rc, Sk, Sf, Sc, St, Hra, Nr1. -/
import Derived.Test.YtnfljbehcffmcaaGreatM1RefineSteps
import Derived.Test.YtnfljbehcffmcaaGreatM5RefineSteps
import Derived.Test.YtnfljbehcffmcaaGreatM2RefineSteps
import Derived.Test.YtnfljbehcffmcaaGreatM4RefineSteps
import Derived.Test.YtnfljbehcffmcaaGreatM3RefineSteps
import Derived.Shelf.SlSortCmp.WholeK
import Derived.Shelf.SlSortCmp.NoneTotal
import Derived.Shelf.SlSortCmp.KitK
import Derived.Sort.WalkB12
import Derived.Deep.LoopGhost
import Derived.Lib.SliceRun
open Nat renaming beq -> ze, le_refl -> zm, lt_succ_self -> zC, le_trans -> zG, add_mul -> zX, add_zero -> yj, mul_le_mul_right -> yl, zero_add -> ym, add_assoc -> yG, one_mul -> yL, zero_le -> yV, mod_lt -> xg, sub_self -> xT, eq_zero_or_pos -> wC, add_sub_cancel -> wL
open SizeOf renaming sizeOf -> zf
open Int renaming toNat_natCast -> zg, le_refl -> zw, toNat -> zD, mul_nonneg -> zJ, mul_le_mul_of_nonneg_right -> zL, ediv_nonneg -> zS, mul_assoc -> yb, one_mul -> yc, lt_irrefl -> yg, ediv_le_self -> yo, mul_le_mul -> yZ, le_trans -> xV, mul_le_mul_of_nonneg_left -> wY
open List renaming length_append -> zh, replicate -> zj, mem_cons_self -> zk, mem_singleton -> zo, getElem?_eq_getElem -> zq, length_map -> zu, mem_cons -> zy, length_take -> zA, take_length -> zH, mem_cons_of_mem -> zI, mem_map -> zK, map_append -> zM, range -> zN, mem_append -> zP, length -> zR, length_drop -> zV, mem_filter -> z8, map_cons -> yf, length_singleton -> yh, length_filter_le -> yt, length_set -> yu, append_nil -> yy, nil_append -> yz, length_nil -> yB, getElem_map -> yM, drop_eq_getElem_cons -> yN, append_assoc -> yS, length_cons -> yT, map_nil -> yU, filter_cons -> yW, take_append_drop -> xe, eq_nil_of_length_eq_zero -> xh, filter_append -> xk, cons_append -> xy, mem_of_mem_drop -> xC, filterMap_cons -> xD, length_eq_zero_iff -> xG, drop_zero -> xI, getElem_take -> xJ, getElem_drop -> xS, ext_getElem -> xY, filter_nil -> xZ, getElem_append_left -> wg, getElem?_take_of_lt -> wz, getElem_append_right -> wD, getElem?_eq_none -> wF, mem_of_mem_take -> wH, drop_length -> wN, filter_eq_self -> wS, getElem?_append_right -> wU, getElem?_append_left -> wV
open Bool renaming and_eq_true -> zi, false_eq_true -> yx, true -> O, false -> G
open Option renaming map_eq_some_iff -> zl, some -> zF, isSome_none -> vg, some -> V, none -> I
open Array renaming length_toList -> yp, getElem?_eq_some_iff -> y9, getElem?_eq_getElem -> xd, getElem?_toList -> wO, getElem?_modify -> vh
open Decidable renaming decide -> J
open Go.Proofs.Tryz renaming prog -> vi
open Go.Proofs.Tryz
set_option linter.unusedSectionVars false
set_option linter.unusedVariables false
set_option linter.unusedSimpArgs false
set_option linter.defProp false
noncomputable section
set_option maxRecDepth 100000
namespace Go.Proofs.YtnfljbehcffmcaaGreat
open Go Go.Iv
open Go.IntKind (i64 u64)
def F79:bq:=(OG (afN (e91 dw)))
structure M8 where
 t2:List aL
 t100:List bg
 (t101 t102:Int)
def adD:Td 0 M8:= .c [] [2,100,101,102] (.r 0 1 (ec 2 (ql 34) (ec 100 (qo 0) (ec 101 aN (ec 102 aN en)))) (sr 0 131 sn) (λz=>⟨z.1.1,z.2.1,z.1.t.1,z.1.t.2.1⟩) (λx=>((x.t2,(),x.t101,x.t102,()),(x.t100,()))))
def OT(p:M8):af (af M8):=
 bif J (p.t102<p.t101)then if 0<=p.t102/\p.t102<zR p.t100 then if 131=131/\zD p.t102<zR p.t100 then match if 0<=p.t102/\p.t102<zR p.t2 then match ug p.t2[zD p.t102]! with|I=>I|V r2=>bif bif r2 then G else O then V O else if 0<=p.t102/\p.t102<zR p.t2 then match LY p.t2[zD p.t102]! with|I=>I|V r3=>V (J (r3=0))else I else I with|I=>I|V r4=>bif r4 then V (I)else if 0<=p.t102/\p.t102<zR p.t2 then bif J (p.t2[zD p.t102]!.ah<p.t100[zD p.t102]!.ah)then V (I)else if 0<=p.t102/\p.t102<zR p.t2 then bif J (p.t100[zD p.t102]!.ag<p.t2[zD p.t102]!.ag)then V (I)else V (V (M8.mk p.t2 p.t100 p.t101 (aj (p.t102+1))))else I else I else I else I else V (I)
def aoZ:An:=(noTwo (noTwo (.two (noTwo (.two (.two (.rb [91,144] 120) .no) .no)) .no)))
def Vy:=bI (OT)
structure PO where
 t2:List aL
 (t9 t69:List bg)
 (t70 t71:Int)
 b0:bT
def aau:Td 0 PO:= .c [] [2,4,9,69,70,71] (.r 0 3 (ec 2 (ql 34) (ec 4 (qp 0 0) (ec 9 (qo 1) (ec 69 (qo 2) (ec 70 aN (ec 71 aN en)))))) (sb 0 29 (lg 29) (sr 1 131 (sr 2 131 sn))) (λz=>⟨z.1.1,z.t.1,z.t.2.1,z.1.q.1,z.1.q.2.1,z.2.1⟩) (λx=>((x.t2,(),(),(),x.t70,x.t71,()),(x.b0,x.t9,x.t69,()))))
def NG(p:PO):af (af PO):=
 bif J (p.t71<p.t70)then if 0<=p.t71/\p.t71<zR p.t69 then if 131=131/\zD p.t71<zR p.t69 then if 0<=p.t71/\p.t71<zR p.b0.bf then bif J (((p.t2,(),(),(),p.t70,p.t71,()),p.b0,p.t9,p.t69,()).snd.fst.bf[((p.t2,(),(),(),p.t70,p.t71,()),p.b0,p.t9,p.t69,()).fst.snd.snd.snd.snd.snd.fst.toNat]! <((p.t2,(),(),(),p.t70,p.t71,()),p.b0,p.t9,p.t69,()).snd.snd.snd.fst[((p.t2,(),(),(),p.t70,p.t71,()),p.b0,p.t9,p.t69,()).fst.snd.snd.snd.snd.snd.fst.toNat]!.ah)then V (I)else if 0<=p.t71/\p.t71<zR p.b0.bf then bif J (((p.t2,(),(),(),p.t70,p.t71,()),p.b0,p.t9,p.t69,()).snd.snd.snd.fst[((p.t2,(),(),(),p.t70,p.t71,()),p.b0,p.t9,p.t69,()).fst.snd.snd.snd.snd.snd.fst.toNat]!.ag<((p.t2,(),(),(),p.t70,p.t71,()),p.b0,p.t9,p.t69,()).snd.fst.bf[((p.t2,(),(),(),p.t70,p.t71,()),p.b0,p.t9,p.t69,()).fst.snd.snd.snd.snd.snd.fst.toNat]!)then V (I)else V (V (PO.mk p.t2 p.t9 p.t69 p.t70 (aj (p.t71+1)) p.b0))else I else I else I else I else V (I)
def Up:=bI (NG)
structure Er where
 t2:List aL
 (t8 t9:List bg)
 t13:Int
 t40:List Int
 (t41 t42:Int)
 t47:List bg
 (t48 t49:Int)
 b0:aS
 b1:bT
def afc:Td 0 Er:= .c [] [2,3,4,8,9,13,40,41,42,47,48,49] (.r 0 5 (ec 2 (ql 34) (ec 3 (qp 0 0) (ec 4 (qp 1 0) (ec 8 (qo 2) (ec 9 (qo 3) (ec 13 aN (ec 40 (qo 4) (ec 41 aN (ec 42 aN (ec 47 (ql 131) (ec 48 aN (ec 49 aN en)))))))))))) (sb 0 26 (lg 26) (sb 1 29 (lg 29) (sr 2 131 (sr 3 131 (sr 4 129 sn))))) (λz=>⟨z.1.1,z.t.2.1,z.q.1,z.1.q.2.1,z.q.2.1,z.1.q.t.2.1,z.1.q.q.1,z.1.q.q.2.1,z.1.q.q.t.1,z.1.q.q.t.2.1,z.2.1,z.t.1⟩) (λx=>((x.t2,(),(),(),(),x.t13,(),x.t41,x.t42,x.t47,x.t48,x.t49,()),(x.b0,x.b1,x.t8,x.t9,x.t40,()))))
def Vb(p:Er):af (af Er):=
 bif J (p.t49<p.t48)then if 0<=p.t49/\p.t49<zR p.t47 then bif J (p.t47[zD p.t49]!.bB=p.t13)then if(p.t9++[p.t47[zD p.t49]!]).length<=1073741824 then V (V (Er.mk p.t2 p.t8 (p.t9++[p.t47[zD p.t49]!]) p.t13 p.t40 p.t41 p.t42 p.t47 p.t48 (aj (p.t49+1)) p.b0 p.b1))else I else V (V (Er.mk p.t2 p.t8 p.t9 p.t13 p.t40 p.t41 p.t42 p.t47 p.t48 (aj (p.t49+1)) p.b0 p.b1))else I else V (I)
def Io:=bI (Vb)
structure Oq where
 t2:List aL
 (t8 t9:List bg)
 t40:List Int
 (t41 t42:Int)
 b0:aS
 b1:bT
def acY:Td 0 Oq:= .c [] [2,3,4,8,9,40,41,42] (.t (bX.s 9 [] 131) (.c [] [2,3,4,8,9,40,41,42] (.r 0 5 (ec 2 (ql 34) (ec 3 (qp 0 0) (ec 4 (qp 1 0) (ec 8 (qo 2) (ec 9 (qo 3) (ec 40 (qo 4) (ec 41 aN (ec 42 aN en)))))))) (sb 0 26 (lg 26) (sb 1 29 (lg 29) (sr 2 131 (sr 3 131 (sr 4 129 sn))))) (λz=>⟨z.1.1,z.t.2.1,z.q.1,z.q.2.1,z.1.q.t.1,z.1.q.t.2.1,z.2.1,z.t.1⟩) (λx=>((x.t2,(),(),(),(),(),x.t41,x.t42,()),(x.b0,x.b1,x.t8,x.t9,x.t40,()))))))
def We(p:Oq):af (af Oq):=
 bif J (p.t42<p.t41)then if 0<=p.t42/\p.t42<zR p.t40 then if 129=129/\zD p.t42<zR p.t40 then match Io (Er.mk p.t2 p.t8 p.t9 p.t40[zD p.t42]! p.t40 p.t41 p.t42 p.b0.ai (zR p.b0.ai) 0 p.b0 p.b1)with|I=>I|V r1=>bif J (r1.t49<r1.t48)then if 0<=r1.t49/\r1.t49<zR r1.t47 then bif J (r1.t47[zD r1.t49]!.bB=r1.t13)then if(r1.t9++[r1.t47[zD r1.t49]!]).length<=1073741824 then I else I else I else I else V (V (Oq.mk r1.t2 r1.t8 r1.t9 r1.t40 r1.t41 (aj (r1.t42+1)) r1.b0 r1.b1))else I else I else V (I)
def aoC:An:=(noTwo (noTwo (.two (noTwo (noTwo (afc.lp Io .no))) .no)))
def MN:=bI (We)
structure HB where
 t2:List aL
 (t8 t26:List bg)
 (t27 t28:Int)
 b0:aS
 b1:bT
def aam:Td 0 HB:= .c [] [2,3,4,8,9,26,27,28] (.t (bX.s 8 [] 131) (.c [] [2,3,4,8,9,26,27,28] (.r 0 3 (ec 2 (ql 34) (ec 3 (qp 0 0) (ec 4 (qp 1 0) (ec 8 (qo 2) (ec 9 qn (ec 26 (ql 131) (ec 27 aN (ec 28 aN en)))))))) (sb 0 26 (lg 26) (sb 1 29 (lg 29) (sr 2 131 sn))) (λz=>⟨z.1.1,z.t.2.1,z.1.q.2.1,z.1.q.t.1,z.1.q.t.2.1,z.2.1,z.t.1⟩) (λx=>((x.t2,(),(),(),(),x.t26,x.t27,x.t28,()),(x.b0,x.b1,x.t8,()))))))
def VD(p:HB):af (af HB):=
 bif J (p.t28<p.t27)then if 0<=p.t28/\p.t28<zR p.t26 then bif J (p.t26[zD p.t28]!.bB=2)then if(p.t8++[p.t26[zD p.t28]!]).length<=1073741824 then V (V (HB.mk p.t2 (p.t8++[p.t26[zD p.t28]!]) p.t26 p.t27 (aj (p.t28+1)) p.b0 p.b1))else I else V (V (HB.mk p.t2 p.t8 p.t26 p.t27 (aj (p.t28+1)) p.b0 p.b1))else I else V (I)
def VH:=bI (VD)
abbrev E79:=Int
def d79:Td 0 E79:= .c [] [6] (.r 0 0 (ec 6 aN en) sn (λz=>z.1.1) (λx=>((x,()),(()))))
def aF7:∀f∈([91,144]:aa Nat),bz (F79) f:=(aA (gz (Iz (E5 bF))) (aA (gz (Iz (E5 bF))) aH))
def m79(a0:aS)(a1:bT)(a2:aa aL):af E79:=
 match ZS a0 with|I=>I|V r5=>bif bif J (r5=0)then G else O then V (r5)else match VH (HB.mk a2 [] a0.ai (zR a0.ai) 0 a0 a1)with|I=>I|V r6=>bif J (r6.t28<r6.t27)then if 0<=r6.t28/\r6.t28<zR r6.t26 then bif J (r6.t26[zD r6.t28]!.bB=2)then if(r6.t8++[r6.t26[zD r6.t28]!]).length<=1073741824 then I else I else I else I else match MN (Oq.mk r6.t2 r6.t8 [] [1,3] (2:Int) 0 r6.b0 r6.b1)with|I=>I|V r7=>bif J (r7.t42<r7.t41)then if 0<=r7.t42/\r7.t42<zR r7.t40 then if 129=129/\zD r7.t42<zR r7.t40 then match Io (Er.mk r7.t2 r7.t8 r7.t9 r7.t40[zD r7.t42]! r7.t40 r7.t41 r7.t42 r7.b0.ai (zR r7.b0.ai) 0 r7.b0 r7.b1)with|I=>I|V r8=>bif J (r8.t49<r8.t48)then if 0<=r8.t49/\r8.t49<zR r8.t47 then bif J (r8.t47[zD r8.t49]!.bB=r8.t13)then if(r8.t9++[r8.t47[zD r8.t49]!]).length<=1073741824 then I else I else I else I else I else I else I else bif bif J ((zR r7.b1.bf:Int)=(zR r7.t8:Int))then G else O then V 1 else match Up (PO.mk r7.t2 r7.t9 r7.t8 (zR r7.t8) 0 r7.b1)with|I=>I|V r9=>bif J (r9.t71<r9.t70)then if 0<=r9.t71/\r9.t71<zR r9.t69 then if 131=131/\zD r9.t71<zR r9.t69 then if 0<=r9.t71/\r9.t71<zR r9.b0.bf then bif J (((r9.t2,(),(),(),r9.t70,r9.t71,()),r9.b0,r9.t9,r9.t69,()).snd.fst.bf[((r9.t2,(),(),(),r9.t70,r9.t71,()),r9.b0,r9.t9,r9.t69,()).fst.snd.snd.snd.snd.snd.fst.toNat]! <((r9.t2,(),(),(),r9.t70,r9.t71,()),r9.b0,r9.t9,r9.t69,()).snd.snd.snd.fst[((r9.t2,(),(),(),r9.t70,r9.t71,()),r9.b0,r9.t9,r9.t69,()).fst.snd.snd.snd.snd.snd.fst.toNat]!.ah)then V 3 else if 0<=r9.t71/\r9.t71<zR r9.b0.bf then bif J (((r9.t2,(),(),(),r9.t70,r9.t71,()),r9.b0,r9.t9,r9.t69,()).snd.snd.snd.fst[((r9.t2,(),(),(),r9.t70,r9.t71,()),r9.b0,r9.t9,r9.t69,()).fst.snd.snd.snd.snd.snd.fst.toNat]!.ag<((r9.t2,(),(),(),r9.t70,r9.t71,()),r9.b0,r9.t9,r9.t69,()).snd.fst.bf[((r9.t2,(),(),(),r9.t70,r9.t71,()),r9.b0,r9.t9,r9.t69,()).fst.snd.snd.snd.snd.snd.fst.toNat]!)then V 3 else I else I else I else I else I else bif bif J ((zR r9.t2:Int)=(zR r9.t9:Int))then G else O then V 2 else match Vy (M8.mk r9.t2 r9.t9 (zR r9.t9) 0)with|I=>I|V r10=>bif J (r10.t102<r10.t101)then if 0<=r10.t102/\r10.t102<zR r10.t100 then if 131=131/\zD r10.t102<zR r10.t100 then match if 0<=r10.t102/\r10.t102<zR r10.t2 then match ug r10.t2[zD r10.t102]! with|I=>I|V r11=>bif bif r11 then G else O then V O else if 0<=r10.t102/\r10.t102<zR r10.t2 then match LY r10.t2[zD r10.t102]! with|I=>I|V r12=>V (J (r12=0))else I else I with|I=>I|V r13=>bif r13 then V 1 else if 0<=r10.t102/\r10.t102<zR r10.t2 then bif J (r10.t2[zD r10.t102]!.ah<r10.t100[zD r10.t102]!.ah)then V 3 else if 0<=r10.t102/\r10.t102<zR r10.t2 then bif J (r10.t100[zD r10.t102]!.ag<r10.t2[zD r10.t102]!.ag)then V 3 else I else I else I else I else I else V 0
def e79:=eL vi 79 G (lc (qg 26) (lc (qg 29) (lc (ql 34) ln))) d79 (λg=>m79 g.1 g.2.1 g.t.1)
def aui:EO e79:=λh=>kL (F:=F79) (an:=(noTwo (noTwo (noTwo (.two (noTwo (aam.lp VH .no)) (.two (noTwo (acY.lp MN aoC)) (noTwo (.two (noTwo (aau.lp Up .no)) (noTwo (.two (noTwo (adD.lp Vy aoZ)) .no)))))))))) (l:=[(aZ f79 0,(aam.lp VH .no)),(aZ f79 1,(acY.lp MN aoC)),(aZ f79 2,(afc.lp Io .no)),(aZ f79 3,(aau.lp Up .no)),(aZ f79 4,(adD.lp Vy aoZ)),(.skip,(.rb [91,144] 120))]) func79 (lF (Xw (Tx aV))) (aA (aO aam) (aA (aO acY) (aA (aO afc) (aA (aO aau) (aA (aO adD) (aA aF7 aH)))))) h
structure Nj where
 t108:List dF
 (t109 t110:Int)
 b0:aS
 b1:bT
 b2:bL
 b3:ay
 b4:Runner
def ZM:Td 0 Nj:= .c [] [3,4,6,9,17,108,109,110] (.t (bX.c 4 3 [] 34) (.c [] [3,4,6,9,17,108,109,110] (.r 0 7 (ec 3 (qp 0 0) (ec 4 (qp 1 0) (ec 6 (qp 2 0) (ec 9 (qp 3 0) (ec 17 (qp 4 0) (ec 108 (ql 139) (ec 109 aN (ec 110 aN en)))))))) (sb 0 26 (lg 26) (sb 1 29 (lg 29) (sb 2 36 (aU (aU (aU (lc qn (aU (aU (aU (lc qn ln)))))))) (sb 3 128 (lc (qo 5) (aU (aU (aU (lc qn (aU (aU (aU ln)))))))) (sb 4 133 (lc (ql 131) (lc (ql 139) (lc (ql 166) (lc (qo 6) ln)))) (sr 5 34 (sr 6 34 sn))))))) (λz=>⟨z.1.q.2.1,z.1.q.t.1,z.1.q.t.2.1,z.2.1,z.t.1,(bL.mk (aL.mk z.t.2.1.1 z.t.2.1.2.1 z.t.2.1.t.1) [] (aL.mk z.t.2.1.q.1 z.t.2.1.q.2.1 z.t.2.1.q.t.1) []),(ay.mk z.q.t.1 (aL.mk z.q.1.2.1 z.q.1.t.1 z.q.1.t.2.1) [] (aL.mk z.q.1.q.2.1 z.q.1.q.t.1 z.q.1.q.t.2.1)),(Runner.mk (aS.mk z.q.2.1.1 z.q.2.1.2.1 z.q.2.1.t.1) z.q.t.2.1)⟩) (λx=>(((),(),(),(),(),x.t108,x.t109,x.t110,()),(x.b0,x.b1,(x.b2.aD.ah,x.b2.aD.ag,x.b2.aD.ak,(),x.b2.aI.ah,x.b2.aI.ag,x.b2.aI.ak,(),()),((),x.b3.aD.ah,x.b3.aD.ag,x.b3.aD.ak,(),x.b3.aI.ah,x.b3.aI.ag,x.b3.aI.ak,()),(x.b4.fF.ai,x.b4.fF.au,x.b4.fF.bK,(),()),x.b3.ai,x.b4.au,()))))))
def Wr(p:Nj):af (af Nj):=
 bif J (p.t110<p.t109)then if 0<=p.t110/\p.t110<zR p.t108 then match Sa (ay.mk p.b3.ai p.b3.aD [] p.b3.aI) (az.mk p.t108[zD p.t110]!.aG.bD p.t108[zD p.t110]!.aG.fN p.t108[zD p.t110]!.aG.ax)with|I=>I|V r1=>match m81 r1 p.t108[zD p.t110]!.ah p.t108[zD p.t110]!.ag with|I=>I|V r2=>if(p.b4.au++[r2.fst]).length<=1073741824 then V (V (Nj.mk p.t108 p.t109 (aj (p.t110+1)) p.b0 p.b1 (bL.mk p.b2.aD [] p.b2.aI []) (ay.mk p.b3.ai p.b3.aD [] p.b3.aI) (Runner.mk p.b4.fF (p.b4.au++[r2.fst]))))else I else I else V (I)
def OS:=bI (Wr)
structure CD where
 t2:List aL
 (t10 t11 t12:Int)
 t47:List bg
 (t48 t49:Int)
 b0:aS
 b1:bT
 b2:bL
 b3:ay
def adW:Td 0 CD:= .c [] [2,3,4,6,9,10,11,12,47,48,49] (.t (bX.c 3 0 [] 34) (.c [] [2,3,4,6,9,10,11,12,47,48,49] (.r 0 5 (ec 2 (ql 34) (ec 3 (qp 0 0) (ec 4 (qp 1 0) (ec 6 (qp 2 0) (ec 9 (qp 3 0) (ec 10 aN (ec 11 aN (ec 12 aN (ec 47 (ql 131) (ec 48 aN (ec 49 aN en))))))))))) (sb 0 26 (lg 26) (sb 1 29 (lg 29) (sb 2 36 (aU (aU (aU (lc qn (aU (aU (aU (lc qn ln)))))))) (sb 3 128 (lc (qo 4) (aU (aU (aU (lc qn (aU (aU (aU ln)))))))) (sr 4 34 sn))))) (λz=>⟨z.1.1,z.1.q.2.1,z.1.q.t.1,z.1.q.t.2.1,z.1.q.q.1,z.1.q.q.2.1,z.1.q.q.t.1,z.2.1,z.t.1,(bL.mk (aL.mk z.t.2.1.1 z.t.2.1.2.1 z.t.2.1.t.1) [] (aL.mk z.t.2.1.q.1 z.t.2.1.q.2.1 z.t.2.1.q.t.1) []),(ay.mk z.q.2.1 (aL.mk z.q.1.2.1 z.q.1.t.1 z.q.1.t.2.1) [] (aL.mk z.q.1.q.2.1 z.q.1.q.t.1 z.q.1.q.t.2.1))⟩) (λx=>((x.t2,(),(),(),(),x.t10,x.t11,x.t12,x.t47,x.t48,x.t49,()),(x.b0,x.b1,(x.b2.aD.ah,x.b2.aD.ag,x.b2.aD.ak,(),x.b2.aI.ah,x.b2.aI.ag,x.b2.aI.ak,(),()),((),x.b3.aD.ah,x.b3.aD.ag,x.b3.aD.ak,(),x.b3.aI.ah,x.b3.aI.ag,x.b3.aI.ak,()),x.b3.ai,()))))))
def Vc(p:CD):af (af CD):=
 bif J (p.t49<p.t48)then if 0<=p.t49/\p.t49<zR p.t47 then bif J (p.t47[zD p.t49]!.bB=1)then if 0<=p.t10/\p.t10<zR p.t2 then if(p.b3.ai++[p.t2[zD p.t10]!]).length<=1073741824 then V (V (CD.mk p.t2 (aj (p.t10+1)) p.t11 p.t12 p.t47 p.t48 (aj (p.t49+1)) p.b0 p.b1 (bL.mk p.b2.aD [] p.b2.aI []) (ay.mk (p.b3.ai++[p.t2[zD p.t10]!]) p.b3.aD [] p.b3.aI)))else I else I else bif J (p.t47[zD p.t49]!.bB=2)then if 0<=p.t11/\p.t11<zR p.b1.bf then if(p.b3.ai++[Wi p.b1.bf[zD p.t11]!]).length<=1073741824 then V (V (CD.mk p.t2 p.t10 (aj (p.t11+1)) p.t12 p.t47 p.t48 (aj (p.t49+1)) p.b0 p.b1 (bL.mk p.b2.aD [] p.b2.aI []) (ay.mk (p.b3.ai++[Wi p.b1.bf[zD p.t11]!]) p.b3.aD [] p.b3.aI)))else I else I else bif J (p.t47[zD p.t49]!.bB=3)then if 0<=p.t12/\p.t12<zR p.t2 then if(p.b3.ai++[p.t2[zD p.t12]!]).length<=1073741824 then V (V (CD.mk p.t2 p.t10 p.t11 (aj (p.t12+1)) p.t47 p.t48 (aj (p.t49+1)) p.b0 p.b1 (bL.mk p.b2.aD [] p.b2.aI []) (ay.mk (p.b3.ai++[p.t2[zD p.t12]!]) p.b3.aD [] p.b3.aI)))else I else I else if(p.b3.ai++[Wi p.t47[zD p.t49]!.eH]).length<=1073741824 then V (V (CD.mk p.t2 p.t10 p.t11 p.t12 p.t47 p.t48 (aj (p.t49+1)) p.b0 p.b1 (bL.mk p.b2.aD [] p.b2.aI []) (ay.mk (p.b3.ai++[Wi p.t47[zD p.t49]!.eH]) p.b3.aD [] p.b3.aI)))else I else I else V (I)
def UR:=bI (Vc)
structure HM where
 t2:List aL
 (t10 t11 t12:Int)
 t34:List bg
 (t35 t36:Int)
 b0:aS
 b1:bT
 b2:bL
 b3:ay
def adC:Td 0 HM:= .c [] [2,3,4,6,9,10,11,12,34,35,36] (.r 0 4 (ec 2 (ql 34) (ec 3 (qp 0 0) (ec 4 (qp 1 0) (ec 6 (qp 2 0) (ec 9 (qp 3 0) (ec 10 aN (ec 11 aN (ec 12 aN (ec 34 (ql 131) (ec 35 aN (ec 36 aN en))))))))))) (sb 0 26 (lg 26) (sb 1 29 (lg 29) (sb 2 36 (aU (aU (aU (lc qn (aU (aU (aU (lc qn ln)))))))) (sb 3 128 (lc qn (aU (aU (aU (lc qn (aU (aU (aU ln)))))))) sn)))) (λz=>⟨z.1.1,z.1.q.2.1,z.1.q.t.1,z.1.q.t.2.1,z.1.q.q.1,z.1.q.q.2.1,z.1.q.q.t.1,z.2.1,z.t.1,(bL.mk (aL.mk z.t.2.1.1 z.t.2.1.2.1 z.t.2.1.t.1) [] (aL.mk z.t.2.1.q.1 z.t.2.1.q.2.1 z.t.2.1.q.t.1) []),(ay.mk [] (aL.mk z.q.1.2.1 z.q.1.t.1 z.q.1.t.2.1) [] (aL.mk z.q.1.q.2.1 z.q.1.q.t.1 z.q.1.q.t.2.1))⟩) (λx=>((x.t2,(),(),(),(),x.t10,x.t11,x.t12,x.t34,x.t35,x.t36,()),(x.b0,x.b1,(x.b2.aD.ah,x.b2.aD.ag,x.b2.aD.ak,(),x.b2.aI.ah,x.b2.aI.ag,x.b2.aI.ak,(),()),((),x.b3.aD.ah,x.b3.aD.ag,x.b3.aD.ak,(),x.b3.aI.ah,x.b3.aI.ag,x.b3.aI.ak,()),()))))
def V8(p:HM):af (af HM):=
 bif J (p.t36<p.t35)then if 0<=p.t36/\p.t36<zR p.t34 then bif J (p.t34[zD p.t36]!.bB=1)then V (V (HM.mk p.t2 p.t10 p.t11 (aj (p.t12+1)) p.t34 p.t35 (aj (p.t36+1)) p.b0 p.b1 (bL.mk p.b2.aD [] p.b2.aI []) (ay.mk [] p.b3.aD [] p.b3.aI)))else V (V (HM.mk p.t2 p.t10 p.t11 p.t12 p.t34 p.t35 (aj (p.t36+1)) p.b0 p.b1 (bL.mk p.b2.aD [] p.b2.aI []) (ay.mk [] p.b3.aD [] p.b3.aI)))else I else V (I)
def Uc:=bI (V8)
abbrev E20:=bL×Int
def d20:Td 0 E20:= .c [] [6,7] (.r 0 1 (ec 6 (qp 0 0) (ec 7 aN en)) (sb 0 36 (lg 36) sn) (λz=>(z.2.1,z.1.2.1)) (λx=>(((),x.2,()),(x.1,()))))
def m20(a0:aS)(a1:bT)(a2:aa aL):af E20:=
 match m79 a0 a1 a2 with|I=>I|V r3=>bif bif J (r3=0)then G else O then V ((bL.mk (aL.mk 0 0 0) [] (aL.mk 0 0 0) [],r3))else match Uc (HM.mk a2 0 0 0 a0.ai (zR a0.ai) 0 a0 a1 (bL.mk (aL.mk 0 0 0) [] (aL.mk 0 0 0) []) (ay.mk [] (Wi 0) [] (Wi 0)))with|I=>I|V r4=>bif J (r4.t36<r4.t35)then if 0<=r4.t36/\r4.t36<zR r4.t34 then bif J (r4.t34[zD r4.t36]!.bB=1)then I else I else I else match UR (CD.mk r4.t2 r4.t10 r4.t11 r4.t12 r4.b0.ai (zR r4.b0.ai) 0 r4.b0 r4.b1 (bL.mk r4.b2.aD [] r4.b2.aI []) (ay.mk [] r4.b3.aD [] r4.b3.aI))with|I=>I|V r5=>bif J (r5.t49<r5.t48)then if 0<=r5.t49/\r5.t49<zR r5.t47 then bif J (r5.t47[zD r5.t49]!.bB=1)then if 0<=r5.t10/\r5.t10<zR r5.t2 then if(r5.b3.ai++[r5.t2[zD r5.t10]!]).length<=1073741824 then I else I else I else bif J (r5.t47[zD r5.t49]!.bB=2)then if 0<=r5.t11/\r5.t11<zR r5.b1.bf then if(r5.b3.ai++[Wi r5.b1.bf[zD r5.t11]!]).length<=1073741824 then I else I else I else bif J (r5.t47[zD r5.t49]!.bB=3)then if 0<=r5.t12/\r5.t12<zR r5.t2 then if(r5.b3.ai++[r5.t2[zD r5.t12]!]).length<=1073741824 then I else I else I else if(r5.b3.ai++[Wi r5.t47[zD r5.t49]!.eH]).length<=1073741824 then I else I else I else match OS (Nj.mk r5.b0.au (zR r5.b0.au) 0 r5.b0 r5.b1 (bL.mk r5.b2.aD [] r5.b2.aI []) (ay.mk r5.b3.ai r5.b3.aD [] r5.b3.aI) (Runner.mk r5.b0 []))with|I=>I|V r6=>bif J (r6.t110<r6.t109)then if 0<=r6.t110/\r6.t110<zR r6.t108 then match Sa (ay.mk r6.b3.ai r6.b3.aD [] r6.b3.aI) (az.mk r6.t108[zD r6.t110]!.aG.bD r6.t108[zD r6.t110]!.aG.fN r6.t108[zD r6.t110]!.aG.ax)with|I=>I|V r7=>match m81 r7 r6.t108[zD r6.t110]!.ah r6.t108[zD r6.t110]!.ag with|I=>I|V r8=>if(r6.b4.au++[r8.fst]).length<=1073741824 then I else I else I else match r83 r6.b4 r6.b0.bK (ay.mk r6.b3.ai r6.b3.aD [] r6.b3.aI)with|I=>I|V r9=>bif bif r6.b1.fm then G else O then V ((bL.mk r9.aD r9.aF (Wi 0) r9.ai,0))else V (bL.mk r9.aD r9.aF r9.aI r9.ai,0)
def e20:bq->bq:=eZ vi 20 (lc (qg 26) (lc (qg 29) (lc (ql 34) ln))) d20 (λg=>m20 g.1 g.2.1 g.t.1)
def aa3:EO e20:=λh=>kZ (an:=(noTwo (noTwo (noTwo (noTwo (.two (noTwo (adC.lp Uc .no)) (.two (noTwo (adW.lp UR .no)) (noTwo (.two (noTwo (ZM.lp OS .no)) .no))))))))) (l:=[(aZ f20 0,(adC.lp Uc .no)),(aZ f20 1,(adW.lp UR .no)),(aZ f20 2,(ZM.lp OS .no))]) func20 (aqN (KY (TC (Mh (aui aV))))) (aA (aO adC) (aA (aO adW) (aA (aO ZM) aH))) h
def adj{F:bq}{f:Nat}(hne:ze f 20=G)(h:bz F f):bz (e20 F) f:=l8 hne h
def F93:bq:=dw
abbrev E93:=Int
def d93:Td 0 E93:= .c [] [4] (.r 0 0 (ec 4 aN en) sn (λz=>z.1.1) (λx=>((x,()),(()))))
def aGS:∀f∈([]:aa Nat),bz (F93) f:=aH
def m93(a0:Int)(a1:Int):af E93:=
 match bif J (0<a1)then if¬a1=0then V (J (aj ((1099511627776:Int).tdiv a1)<a0))else I else V G with|I=>I|V r1=>bif r1 then V 1099511627776 else V (aj (a0*a1))
def e93:=eL vi 93 G (aU (aU ln)) d93 (λg=>m93 g.1 g.2.1)
def aq3:EO e93:=λh=>kL (F:=F93) (an:=(noTwo (.two (.two (.rb [] 12) .no) .no))) (l:=[(.skip,(.rb [] 12))]) func93 aV (aA aGS aH) h
structure MP where
 (t10 t13:Int)
 t58:List aL
 (t59 t60:Int)
def aeG:Td 0 MP:= .c [] [10,13,58,59,60] (.r 0 0 (ec 10 aN (ec 13 aN (ec 58 (ql 34) (ec 59 aN (ec 60 aN en))))) sn (λz=>⟨z.1.1,z.1.2.1,z.1.t.1,z.1.t.2.1,z.1.q.1⟩) (λx=>((x.t10,x.t13,x.t58,x.t59,x.t60,()),(()))))
def Wl(p:MP):af (af MP):=
 bif J (p.t60<p.t59)then if 0<=p.t60/\p.t60<zR p.t58 then match LY p.t58[zD p.t60]! with|I=>I|V r6=>match m93 p.t13 r6 with|I=>I|V r7=>V (V (MP.mk p.t10 r7 p.t58 p.t59 (aj (p.t60+1))))else I else V (I)
def VR:=bI (Wl)
structure CM where
 t2:List aL
 (t10 t11 t32 t33:Int)
 b0:bL
def adq:Td 0 CM:= .c [] [2,8,10,11,32,33] (.r 0 1 (ec 2 (ql 34) (ec 8 (qp 0 0) (ec 10 aN (ec 11 aN (ec 32 aN (ec 33 aN en)))))) (sb 0 36 (lg 36) sn) (λz=>⟨z.1.1,z.1.t.1,z.1.t.2.1,z.1.q.1,z.1.q.2.1,z.2.1⟩) (λx=>((x.t2,(),x.t10,x.t11,x.t32,x.t33,()),(x.b0,()))))
def Wq(p:CM):af (af CM):=
 bif J (p.t33<p.t32)then match m92 p.b0.aD p.t33 with|I=>I|V r1=>bif r1 then bif J (p.t33<zR p.b0.aF)then if 0<=p.t33/\p.t33<zR p.b0.aF then match LY p.b0.aF[zD p.t33]! with|I=>I|V r2=>match m93 p.t11 r2 with|I=>I|V r3=>V (V (CM.mk p.t2 (if 1099511627776<aj (p.t10+p.t11)then 1099511627776 else aj (p.t10+p.t11)) r3 p.t32 (aj (p.t33+1)) p.b0))else I else V (V (CM.mk p.t2 (if 1099511627776<aj (p.t10+p.t11)then 1099511627776 else aj (p.t10+p.t11)) p.t11 p.t32 (aj (p.t33+1)) p.b0))else bif J (p.t33<zR p.b0.aF)then if 0<=p.t33/\p.t33<zR p.b0.aF then match LY p.b0.aF[zD p.t33]! with|I=>I|V r4=>match m93 p.t11 r4 with|I=>I|V r5=>V (V (CM.mk p.t2 p.t10 r5 p.t32 (aj (p.t33+1)) p.b0))else I else V (V (CM.mk p.t2 p.t10 p.t11 p.t32 (aj (p.t33+1)) p.b0))else V (I)
def Ws:=bI (Wq)
abbrev E25:=Int×Int
def d25:Td 0 E25:= .c [] [6,7] (.r 0 0 (ec 6 aN (ec 7 aN en)) sn (λz=>(z.1.1,z.1.2.1)) (λx=>((x.1,x.2,()),(()))))
def A25:=(lc (qg 26) (lc (qg 29) (lc (ql 34) ln)))
def Qe(a0:aS)(a1:bT)(a2:aa aL):af E25:=
 match m20 a0 a1 a2 with|I=>I|V r8=>bif bif J (r8.snd=0)then G else O then V (0,r8.snd)else match LY r8.fst.aI with|I=>I|V r9=>match Ws (CM.mk a2 0 r9 (aj ((zR r8.fst.aF:Int)+1)) 0 r8.fst)with|I=>I|V r10=>bif J (r10.t33<r10.t32)then match m92 r10.b0.aD r10.t33 with|I=>I|V r11=>bif r11 then bif J (r10.t33<zR r10.b0.aF)then if 0<=r10.t33/\r10.t33<zR r10.b0.aF then match LY r10.b0.aF[zD r10.t33]! with|I=>I|V r12=>match m93 r10.t11 r12 with|I=>I|V r13=>I else I else I else bif J (r10.t33<zR r10.b0.aF)then if 0<=r10.t33/\r10.t33<zR r10.b0.aF then match LY r10.b0.aF[zD r10.t33]! with|I=>I|V r14=>match m93 r10.t11 r14 with|I=>I|V r15=>I else I else I else match VR (MP.mk r10.t10 1 r10.t2 (zR r10.t2) 0)with|I=>I|V r16=>bif J (r16.t60<r16.t59)then if 0<=r16.t60/\r16.t60<zR r16.t58 then match LY r16.t58[zD r16.t60]! with|I=>I|V r17=>match m93 r16.t13 r17 with|I=>I|V r18=>I else I else V (if r16.t13<r16.t10 then r16.t13 else r16.t10,0)
def e25:=eL vi 25 G A25 d25 (λg=>Qe g.1 g.2.1 g.t.1)
def I7:EO e25:=λh=>kL (an:=(noTwo (noTwo (noTwo (noTwo (.two (noTwo (adq.lp Ws .no)) (noTwo (.two (noTwo (aeG.lp VR .no)) .no)))))))) (l:=[(aZ f25 0,(adq.lp Ws .no)),(aZ f25 1,(aeG.lp VR .no))]) func25 (aq3 (RE (Tx (aa3 aV)))) (aA (aO adq) (aA (aO aeG) aH)) h
def F26:bq:=(e91 (e20 dw))
structure NT where
 t12:Bool
 t41:List aL
 (t42 t43:Int)
 (b0 b1:aB)
def ac1:Td 0 NT:= .c [] [6,11,12,41,42,43] (.t (bX.c 1 0 [] 3) (.c [] [6,11,12,41,42,43] (.r 0 3 (ec 6 (qp 0 0) (ec 11 (qp 1 0) (ec 12 qb (ec 41 (ql 34) (ec 42 aN (ec 43 aN en)))))) (sb 0 47 (lc qn (aU ln)) (sb 1 47 (lc (qo 2) (aU ln)) (sr 2 3 sn))) (λz=>⟨z.1.t.1,z.1.t.2.1,z.1.q.1,z.1.q.2.1,(aB.mk [] z.2.1.2.1),(aB.mk z.t.2.1 z.t.1.2.1)⟩) (λx=>(((),(),x.t12,x.t41,x.t42,x.t43,()),(((),x.b0.aI,()),((),x.b1.aI,()),x.b1.aK,()))))))
def WQ(p:NT):af (af NT):=
 bif J (p.t43<p.t42)then if 0<=p.t43/\p.t43<zR p.t41 then match bif p.t12 then match LY p.t41[zD p.t43]! with|I=>I|V r1=>V (J (r1=1))else V G with|I=>I|V r2=>if(p.b1.aK++[p.t41[zD p.t43]!.ah]).length<=1073741824 then V (V (NT.mk r2 p.t41 p.t42 (aj (p.t43+1)) (aB.mk [] p.b0.aI) (aB.mk (p.b1.aK++[p.t41[zD p.t43]!.ah]) p.b1.aI)))else I else I else V (I)
def ap4:An:=(noTwo (noTwo (.two (noTwo (.two (.rb [91] 12) .no)) .no)))
def Ua:=bI (WQ)
abbrev E26:=aB×Bool×Int
def d26:Td 0 E26:= .c [] [6,7,8] (.t (bX.c 0 0 [] 3) (.c [] [6,7,8] (.r 0 2 (ec 6 (qp 0 0) (ec 7 qb (ec 8 aN en))) (sb 0 47 (lc (qo 1) (aU ln)) (sr 1 3 sn)) (λz=>((aB.mk z.t.1 z.2.1.2.1),z.1.2.1,z.1.t.1)) (λx=>(((),x.2.1,x.t,()),(((),x.1.aI,()),x.1.aK,()))))))
def A26:=(lc (qg 26) (lc (qg 29) (lc (ql 34) ln)))
def aAN:∀f∈([91]:aa Nat),bz (F26) f:=(aA (E5 (adj (f:=91) rfl bF)) aH)
def XE(a0:aS)(a1:bT)(a2:aa aL):af E26:=
 match m20 a0 a1 a2 with|I=>I|V r3=>bif bif J (r3.snd=0)then G else O then V ((aB.mk [] (0),G,r3.snd))else match match LY r3.fst.aD with|I=>I|V r4=>bif J (r4=1)then match LY r3.fst.aI with|I=>I|V r5=>V (J (r5=1))else V G with|I=>I|V r6=>match Ua (NT.mk r6 r3.fst.aF (zR r3.fst.aF) 0 (aB.mk [] (0)) (aB.mk [] r3.fst.aI.ah))with|I=>I|V r7=>bif J (r7.t43<r7.t42)then if 0<=r7.t43/\r7.t43<zR r7.t41 then match bif r7.t12 then match LY r7.t41[zD r7.t43]! with|I=>I|V r8=>V (J (r8=1))else V G with|I=>I|V r9=>if(r7.b1.aK++[r7.t41[zD r7.t43]!.ah]).length<=1073741824 then I else I else I else bif bif r7.t12 then G else O then V ((aB.mk [] (0),G,0))else V (r7.b1,O,0)
def e26:=eL vi 26 G A26 d26 (λg=>XE g.1 g.2.1 g.t.1)
def Ld:EO e26:=λh=>kL (F:=F26) (an:=(noTwo (noTwo (noTwo (noTwo (.two (.rb [91] 12) (.two (noTwo (ac1.lp Ua ap4)) .no))))))) (l:=[(.skip,(.rb [91] 12)),(aZ f26 0,(ac1.lp Ua ap4)),(.skip,(.rb [91] 12))]) func26 (Tx (aa3 aV)) (aA aAN (aA (aO ac1) (aA aAN aH))) h
def F21:bq:=(e84 (e78 (e43 dw)))
structure OR where
 t2:List aL
 t95:List bg
 (t96 t97:Int)
def aeE:Td 0 OR:= .c [] [2,95,96,97] (.r 0 1 (ec 2 (ql 34) (ec 95 (qo 0) (ec 96 aN (ec 97 aN en)))) (sr 0 131 sn) (λz=>⟨z.1.1,z.2.1,z.1.t.1,z.1.t.2.1⟩) (λx=>((x.t2,(),x.t96,x.t97,()),(x.t95,()))))
def MX(p:OR):af (af OR):=
 bif J (p.t97<p.t96)then if 0<=p.t97/\p.t97<zR p.t95 then if 131=131/\zD p.t97<zR p.t95 then match if 0<=p.t97/\p.t97<zR p.t2 then match ZF p.t2[zD p.t97]! with|I=>I|V r4=>bif bif r4 then G else O then V O else if 0<=p.t97/\p.t97<zR p.t2 then match sS p.t2[zD p.t97]! with|I=>I|V r5=>V (J (r5=0))else I else I with|I=>I|V r6=>bif r6 then V (I)else if 0<=p.t97/\p.t97<zR p.t2 then bif J (p.t2[zD p.t97]!.ah<p.t95[zD p.t97]!.ah)then V (I)else if 0<=p.t97/\p.t97<zR p.t2 then bif J (p.t95[zD p.t97]!.ag<p.t2[zD p.t97]!.ag)then V (I)else V (V (OR.mk p.t2 p.t95 p.t96 (aj (p.t97+1))))else I else I else I else I else V (I)
def aok:An:=(noTwo (noTwo (.two (noTwo (.two (.two (.rb [43,84] 115) .no) .no)) .no)))
def WD:=bI (MX)
structure Ow where
 t2:List aL
 (t9 t64:List bg)
 (t65 t66:Int)
 b0:bT
def ac9:Td 0 Ow:= .c [] [2,4,9,64,65,66] (.r 0 3 (ec 2 (ql 34) (ec 4 (qp 0 0) (ec 9 (qo 1) (ec 64 (qo 2) (ec 65 aN (ec 66 aN en)))))) (sb 0 29 (lg 29) (sr 1 131 (sr 2 131 sn))) (λz=>⟨z.1.1,z.t.1,z.t.2.1,z.1.q.1,z.1.q.2.1,z.2.1⟩) (λx=>((x.t2,(),(),(),x.t65,x.t66,()),(x.b0,x.t9,x.t64,()))))
def O8(p:Ow):af (af Ow):=
 bif J (p.t66<p.t65)then if 0<=p.t66/\p.t66<zR p.t64 then if 131=131/\zD p.t66<zR p.t64 then if 0<=p.t66/\p.t66<zR p.b0.bf then bif J (((p.t2,(),(),(),p.t65,p.t66,()),p.b0,p.t9,p.t64,()).snd.fst.bf[((p.t2,(),(),(),p.t65,p.t66,()),p.b0,p.t9,p.t64,()).fst.snd.snd.snd.snd.snd.fst.toNat]! <((p.t2,(),(),(),p.t65,p.t66,()),p.b0,p.t9,p.t64,()).snd.snd.snd.fst[((p.t2,(),(),(),p.t65,p.t66,()),p.b0,p.t9,p.t64,()).fst.snd.snd.snd.snd.snd.fst.toNat]!.ah)then V (I)else if 0<=p.t66/\p.t66<zR p.b0.bf then bif J (((p.t2,(),(),(),p.t65,p.t66,()),p.b0,p.t9,p.t64,()).snd.snd.snd.fst[((p.t2,(),(),(),p.t65,p.t66,()),p.b0,p.t9,p.t64,()).fst.snd.snd.snd.snd.snd.fst.toNat]!.ag<((p.t2,(),(),(),p.t65,p.t66,()),p.b0,p.t9,p.t64,()).snd.fst.bf[((p.t2,(),(),(),p.t65,p.t66,()),p.b0,p.t9,p.t64,()).fst.snd.snd.snd.snd.snd.fst.toNat]!)then V (I)else V (V (Ow.mk p.t2 p.t9 p.t64 p.t65 (aj (p.t66+1)) p.b0))else I else I else I else I else V (I)
def Vl:=bI (O8)
structure CE where
 t2:List aL
 (t8 t9:List bg)
 t11:Int
 t23:List Int
 (t24 t25:Int)
 t30:List bg
 (t31 t32:Int)
 b0:aS
 b1:bT
def aa5:Td 0 CE:= .c [] [2,3,4,8,9,11,23,24,25,30,31,32] (.r 0 5 (ec 2 (ql 34) (ec 3 (qp 0 0) (ec 4 (qp 1 0) (ec 8 (qo 2) (ec 9 (qo 3) (ec 11 aN (ec 23 (qo 4) (ec 24 aN (ec 25 aN (ec 30 (ql 131) (ec 31 aN (ec 32 aN en)))))))))))) (sb 0 26 (lg 26) (sb 1 29 (lg 29) (sr 2 131 (sr 3 131 (sr 4 129 sn))))) (λz=>⟨z.1.1,z.t.2.1,z.q.1,z.1.q.2.1,z.q.2.1,z.1.q.t.2.1,z.1.q.q.1,z.1.q.q.2.1,z.1.q.q.t.1,z.1.q.q.t.2.1,z.2.1,z.t.1⟩) (λx=>((x.t2,(),(),(),(),x.t11,(),x.t24,x.t25,x.t30,x.t31,x.t32,()),(x.b0,x.b1,x.t8,x.t9,x.t23,()))))
def UX(p:CE):af (af CE):=
 bif J (p.t32<p.t31)then if 0<=p.t32/\p.t32<zR p.t30 then match bif J (p.t30[zD p.t32]!.bB=p.t11)then V (J (p.t11=2))else V G with|I=>I|V r3=>bif r3 then if(p.t8++[p.t30[zD p.t32]!]).length<=1073741824 then V (V (CE.mk p.t2 (p.t8++[p.t30[zD p.t32]!]) p.t9 p.t11 p.t23 p.t24 p.t25 p.t30 p.t31 (aj (p.t32+1)) p.b0 p.b1))else I else bif J (p.t30[zD p.t32]!.bB=p.t11)then if(p.t9++[p.t30[zD p.t32]!]).length<=1073741824 then V (V (CE.mk p.t2 p.t8 (p.t9++[p.t30[zD p.t32]!]) p.t11 p.t23 p.t24 p.t25 p.t30 p.t31 (aj (p.t32+1)) p.b0 p.b1))else I else V (V (CE.mk p.t2 p.t8 p.t9 p.t11 p.t23 p.t24 p.t25 p.t30 p.t31 (aj (p.t32+1)) p.b0 p.b1))else I else V (I)
def apK:An:=(noTwo (noTwo (.two (noTwo (.two (.rb [43,84] 43) .no)) .no)))
def OD:=bI (UX)
structure Ov where
 t2:List aL
 (t8 t9:List bg)
 t23:List Int
 (t24 t25:Int)
 b0:aS
 b1:bT
def acH:Td 0 Ov:= .c [] [2,3,4,8,9,23,24,25] (.t (bX.s 8 [] 131) (.t (bX.s 9 [] 131) (.c [] [2,3,4,8,9,23,24,25] (.r 0 5 (ec 2 (ql 34) (ec 3 (qp 0 0) (ec 4 (qp 1 0) (ec 8 (qo 2) (ec 9 (qo 3) (ec 23 (qo 4) (ec 24 aN (ec 25 aN en)))))))) (sb 0 26 (lg 26) (sb 1 29 (lg 29) (sr 2 131 (sr 3 131 (sr 4 129 sn))))) (λz=>⟨z.1.1,z.t.2.1,z.q.1,z.q.2.1,z.1.q.t.1,z.1.q.t.2.1,z.2.1,z.t.1⟩) (λx=>((x.t2,(),(),(),(),(),x.t24,x.t25,()),(x.b0,x.b1,x.t8,x.t9,x.t23,())))))))
def OK(p:Ov):af (af Ov):=
 bif J (p.t25<p.t24)then if 0<=p.t25/\p.t25<zR p.t23 then if 129=129/\zD p.t25<zR p.t23 then match OD (CE.mk p.t2 p.t8 p.t9 p.t23[zD p.t25]! p.t23 p.t24 p.t25 p.b0.ai (zR p.b0.ai) 0 p.b0 p.b1)with|I=>I|V r1=>bif J (r1.t32<r1.t31)then if 0<=r1.t32/\r1.t32<zR r1.t30 then match bif J (r1.t30[zD r1.t32]!.bB=r1.t11)then V (J (r1.t11=2))else V G with|I=>I|V r2=>bif r2 then if(r1.t8++[r1.t30[zD r1.t32]!]).length<=1073741824 then I else I else bif J (r1.t30[zD r1.t32]!.bB=r1.t11)then if(r1.t9++[r1.t30[zD r1.t32]!]).length<=1073741824 then I else I else I else I else V (V (Ov.mk r1.t2 r1.t8 r1.t9 r1.t23 r1.t24 (aj (r1.t25+1)) r1.b0 r1.b1))else I else I else V (I)
def apj:An:=(noTwo (noTwo (.two (noTwo (noTwo (aa5.lp OD apK))) .no)))
def OI:=bI (OK)
abbrev E21:=Int
def d21:Td 0 E21:= .c [] [6] (.r 0 0 (ec 6 aN en) sn (λz=>z.1.1) (λx=>((x,()),(()))))
def aDq:∀f∈([43,84]:aa Nat),bz (F21) f:=(aA (iQ (Ab (lU bF))) (aA (iQ (Ab (lU bF))) aH))
def m21(a0:aS)(a1:bT)(a2:aa aL):af E21:=
 match m78 a0 with|I=>I|V r7=>bif bif J (r7=0)then G else O then V (r7)else match OI (Ov.mk a2 [] [] [1,3,2] (3:Int) 0 a0 a1)with|I=>I|V r8=>bif J (r8.t25<r8.t24)then if 0<=r8.t25/\r8.t25<zR r8.t23 then if 129=129/\zD r8.t25<zR r8.t23 then match OD (CE.mk r8.t2 r8.t8 r8.t9 r8.t23[zD r8.t25]! r8.t23 r8.t24 r8.t25 r8.b0.ai (zR r8.b0.ai) 0 r8.b0 r8.b1)with|I=>I|V r9=>bif J (r9.t32<r9.t31)then if 0<=r9.t32/\r9.t32<zR r9.t30 then match bif J (r9.t30[zD r9.t32]!.bB=r9.t11)then V (J (r9.t11=2))else V G with|I=>I|V r10=>bif r10 then if(r9.t8++[r9.t30[zD r9.t32]!]).length<=1073741824 then I else I else bif J (r9.t30[zD r9.t32]!.bB=r9.t11)then if(r9.t9++[r9.t30[zD r9.t32]!]).length<=1073741824 then I else I else I else I else I else I else I else bif bif J ((zR r8.b1.bf:Int)=(zR r8.t8:Int))then G else O then V 1 else match Vl (Ow.mk r8.t2 r8.t9 r8.t8 (zR r8.t8) 0 r8.b1)with|I=>I|V r11=>bif J (r11.t66<r11.t65)then if 0<=r11.t66/\r11.t66<zR r11.t64 then if 131=131/\zD r11.t66<zR r11.t64 then if 0<=r11.t66/\r11.t66<zR r11.b0.bf then bif J (((r11.t2,(),(),(),r11.t65,r11.t66,()),r11.b0,r11.t9,r11.t64,()).snd.fst.bf[((r11.t2,(),(),(),r11.t65,r11.t66,()),r11.b0,r11.t9,r11.t64,()).fst.snd.snd.snd.snd.snd.fst.toNat]! <((r11.t2,(),(),(),r11.t65,r11.t66,()),r11.b0,r11.t9,r11.t64,()).snd.snd.snd.fst[((r11.t2,(),(),(),r11.t65,r11.t66,()),r11.b0,r11.t9,r11.t64,()).fst.snd.snd.snd.snd.snd.fst.toNat]!.ah)then V 3 else if 0<=r11.t66/\r11.t66<zR r11.b0.bf then bif J (((r11.t2,(),(),(),r11.t65,r11.t66,()),r11.b0,r11.t9,r11.t64,()).snd.snd.snd.fst[((r11.t2,(),(),(),r11.t65,r11.t66,()),r11.b0,r11.t9,r11.t64,()).fst.snd.snd.snd.snd.snd.fst.toNat]!.ag<((r11.t2,(),(),(),r11.t65,r11.t66,()),r11.b0,r11.t9,r11.t64,()).snd.fst.bf[((r11.t2,(),(),(),r11.t65,r11.t66,()),r11.b0,r11.t9,r11.t64,()).fst.snd.snd.snd.snd.snd.fst.toNat]!)then V 3 else I else I else I else I else I else bif bif J ((zR r11.t2:Int)=(zR r11.t9:Int))then G else O then V 2 else match WD (OR.mk r11.t2 r11.t9 (zR r11.t9) 0)with|I=>I|V r12=>bif J (r12.t97<r12.t96)then if 0<=r12.t97/\r12.t97<zR r12.t95 then if 131=131/\zD r12.t97<zR r12.t95 then match if 0<=r12.t97/\r12.t97<zR r12.t2 then match ZF r12.t2[zD r12.t97]! with|I=>I|V r13=>bif bif r13 then G else O then V O else if 0<=r12.t97/\r12.t97<zR r12.t2 then match sS r12.t2[zD r12.t97]! with|I=>I|V r14=>V (J (r14=0))else I else I with|I=>I|V r15=>bif r15 then V 1 else if 0<=r12.t97/\r12.t97<zR r12.t2 then bif J (r12.t2[zD r12.t97]!.ah<r12.t95[zD r12.t97]!.ah)then V 3 else if 0<=r12.t97/\r12.t97<zR r12.t2 then bif J (r12.t95[zD r12.t97]!.ag<r12.t2[zD r12.t97]!.ag)then V 3 else I else I else I else I else I else V 0
def e21:=eL vi 21 G (lc (qg 26) (lc (qg 29) (lc (ql 34) ln))) d21 (λg=>m21 g.1 g.2.1 g.t.1)
def aqP:EO e21:=λh=>kL (F:=F21) (an:=(noTwo (noTwo (noTwo (.two (noTwo (acH.lp OI apj)) (noTwo (.two (noTwo (ac9.lp Vl .no)) (noTwo (.two (noTwo (aeE.lp WD aok)) .no))))))))) (l:=[(aZ f21 0,(acH.lp OI apj)),(aZ f21 1,(aa5.lp OD apK)),(.skip,(.rb [43,84] 43)),(aZ f21 2,(ac9.lp Vl .no)),(aZ f21 3,(aeE.lp WD aok)),(.skip,(.rb [43,84] 115))]) func21 (uo (acG (oq aV))) (aA (aO acH) (aA (aO aa5) (aA aDq (aA (aO ac9) (aA (aO aeE) (aA aDq aH)))))) h
structure CB where
 t2:List aL
 (t11 t12 t13:Int)
 t33:List bg
 (t34 t35:Int)
 b0:bT
 (b1 b2:aJ)
def ac0:Td 0 CB:= .c [] [2,4,6,7,11,12,13,33,34,35] (.t (bX.c 2 0 [] 34) (.c [] [2,4,6,7,11,12,13,33,34,35] (.r 0 4 (ec 2 (ql 34) (ec 4 (qp 0 0) (ec 6 (qp 1 0) (ec 7 (qp 2 0) (ec 11 aN (ec 12 aN (ec 13 aN (ec 33 (ql 131) (ec 34 aN (ec 35 aN en)))))))))) (sb 0 29 (lg 29) (sb 1 147 (lc qn (aU (aU (aU (lc qn (aU (aU (aU ln)))))))) (sb 2 147 (lc (qo 3) (aU (aU (aU (lc qn (aU (aU (aU ln)))))))) (sr 3 34 sn)))) (λz=>⟨z.1.1,z.1.q.1,z.1.q.2.1,z.1.q.t.1,z.1.q.t.2.1,z.1.q.q.1,z.1.q.q.2.1,z.2.1,(aJ.mk [] (aL.mk z.t.1.2.1 z.t.1.t.1 z.t.1.t.2.1) [] (aL.mk z.t.1.q.2.1 z.t.1.q.t.1 z.t.1.q.t.2.1)),(aJ.mk z.q.1 (aL.mk z.t.2.1.2.1 z.t.2.1.t.1 z.t.2.1.t.2.1) [] (aL.mk z.t.2.1.q.2.1 z.t.2.1.q.t.1 z.t.2.1.q.t.2.1))⟩) (λx=>((x.t2,(),(),(),x.t11,x.t12,x.t13,x.t33,x.t34,x.t35,()),(x.b0,((),x.b1.aD.ah,x.b1.aD.ag,x.b1.aD.ak,(),x.b1.aI.ah,x.b1.aI.ag,x.b1.aI.ak,()),((),x.b2.aD.ah,x.b2.aD.ag,x.b2.aD.ak,(),x.b2.aI.ah,x.b2.aI.ag,x.b2.aI.ak,()),x.b2.ai,()))))))
def Wv(p:CB):af (af CB):=
 bif J (p.t35<p.t34)then if 0<=p.t35/\p.t35<zR p.t33 then bif J (p.t33[zD p.t35]!.bB=1)then if 0<=p.t11/\p.t11<zR p.t2 then if(p.b2.ai++[p.t2[zD p.t11]!]).length<=1073741824 then V (V (CB.mk p.t2 (aj (p.t11+1)) p.t12 p.t13 p.t33 p.t34 (aj (p.t35+1)) p.b0 (aJ.mk [] p.b1.aD [] p.b1.aI) (aJ.mk (p.b2.ai++[p.t2[zD p.t11]!]) p.b2.aD [] p.b2.aI)))else I else I else bif J (p.t33[zD p.t35]!.bB=3)then if 0<=p.t12/\p.t12<zR p.t2 then if(p.b2.ai++[p.t2[zD p.t12]!]).length<=1073741824 then V (V (CB.mk p.t2 p.t11 (aj (p.t12+1)) p.t13 p.t33 p.t34 (aj (p.t35+1)) p.b0 (aJ.mk [] p.b1.aD [] p.b1.aI) (aJ.mk (p.b2.ai++[p.t2[zD p.t12]!]) p.b2.aD [] p.b2.aI)))else I else I else bif J (p.t33[zD p.t35]!.bB=2)then if 0<=p.t13/\p.t13<zR p.b0.bf then if(p.b2.ai++[m36 p.b0.bf[zD p.t13]!]).length<=1073741824 then V (V (CB.mk p.t2 p.t11 p.t12 (aj (p.t13+1)) p.t33 p.t34 (aj (p.t35+1)) p.b0 (aJ.mk [] p.b1.aD [] p.b1.aI) (aJ.mk (p.b2.ai++[m36 p.b0.bf[zD p.t13]!]) p.b2.aD [] p.b2.aI)))else I else I else if(p.b2.ai++[m36 p.t33[zD p.t35]!.eH]).length<=1073741824 then V (V (CB.mk p.t2 p.t11 p.t12 p.t13 p.t33 p.t34 (aj (p.t35+1)) p.b0 (aJ.mk [] p.b1.aD [] p.b1.aI) (aJ.mk (p.b2.ai++[m36 p.t33[zD p.t35]!.eH]) p.b2.aD [] p.b2.aI)))else I else I else V (I)
def V0:=bI (Wv)
structure Hg where
 t2:List aL
 t8:Int
 t19:List bg
 (t20 t21:Int)
 b0:aS
 b1:bT
 (b2 b3:aJ)
def acQ:Td 0 Hg:= .c [] [2,3,4,6,7,8,19,20,21] (.r 0 4 (ec 2 (ql 34) (ec 3 (qp 0 0) (ec 4 (qp 1 0) (ec 6 (qp 2 0) (ec 7 (qp 3 0) (ec 8 aN (ec 19 (ql 131) (ec 20 aN (ec 21 aN en))))))))) (sb 0 26 (lg 26) (sb 1 29 (lg 29) (sb 2 147 (lc qn (aU (aU (aU (lc qn (aU (aU (aU ln)))))))) (sb 3 147 (lc qn (aU (aU (aU (lc qn (aU (aU (aU ln)))))))) sn)))) (λz=>⟨z.1.1,z.1.q.2.1,z.1.q.t.1,z.1.q.t.2.1,z.1.q.q.1,z.2.1,z.t.1,(aJ.mk [] (aL.mk z.t.2.1.2.1 z.t.2.1.t.1 z.t.2.1.t.2.1) [] (aL.mk z.t.2.1.q.2.1 z.t.2.1.q.t.1 z.t.2.1.q.t.2.1)),(aJ.mk [] (aL.mk z.q.1.2.1 z.q.1.t.1 z.q.1.t.2.1) [] (aL.mk z.q.1.q.2.1 z.q.1.q.t.1 z.q.1.q.t.2.1))⟩) (λx=>((x.t2,(),(),(),(),x.t8,x.t19,x.t20,x.t21,()),(x.b0,x.b1,((),x.b2.aD.ah,x.b2.aD.ag,x.b2.aD.ak,(),x.b2.aI.ah,x.b2.aI.ag,x.b2.aI.ak,()),((),x.b3.aD.ah,x.b3.aD.ag,x.b3.aD.ak,(),x.b3.aI.ah,x.b3.aI.ag,x.b3.aI.ak,()),()))))
def VS(p:Hg):af (af Hg):=
 bif J (p.t21<p.t20)then if 0<=p.t21/\p.t21<zR p.t19 then bif J (p.t19[zD p.t21]!.bB=1)then V (V (Hg.mk p.t2 (aj (p.t8+1)) p.t19 p.t20 (aj (p.t21+1)) p.b0 p.b1 (aJ.mk [] p.b2.aD [] p.b2.aI) (aJ.mk [] p.b3.aD [] p.b3.aI)))else V (V (Hg.mk p.t2 p.t8 p.t19 p.t20 (aj (p.t21+1)) p.b0 p.b1 (aJ.mk [] p.b2.aD [] p.b2.aI) (aJ.mk [] p.b3.aD [] p.b3.aI)))else I else V (I)
def WW:=bI (VS)
abbrev E85:=aJ
def d85:Td 0 E85:= .c [] [6] (.r 0 2 (ec 6 (qp 0 0) en) (sb 0 147 (lc (qo 1) (aU (aU (aU (lc qn (aU (aU (aU ln)))))))) (sr 1 34 sn)) (λz=>(aJ.mk z.t.1 (aL.mk z.2.1.2.1 z.2.1.t.1 z.2.1.t.2.1) [] (aL.mk z.2.1.q.2.1 z.2.1.q.t.1 z.2.1.q.t.2.1))) (λx=>(((),()),(((),x.aD.ah,x.aD.ag,x.aD.ak,(),x.aI.ah,x.aI.ag,x.aI.ak,()),x.ai,()))))
def m85(a0:aS)(a1:bT)(a2:aa aL):af E85:=
 match WW (Hg.mk a2 0 a0.ai (zR a0.ai) 0 a0 a1 (aJ.mk [] (aL.mk 0 0 0) [] (aL.mk 0 0 0)) (aJ.mk [] (aL.mk 0 0 0) [] (aL.mk 0 0 0)))with|I=>I|V r1=>bif J (r1.t21<r1.t20)then if 0<=r1.t21/\r1.t21<zR r1.t19 then bif J (r1.t19[zD r1.t21]!.bB=1)then I else I else I else match V0 (CB.mk r1.t2 0 r1.t8 0 r1.b0.ai (zR r1.b0.ai) 0 r1.b1 (aJ.mk [] r1.b2.aD [] r1.b2.aI) (aJ.mk [] r1.b3.aD [] r1.b3.aI))with|I=>I|V r2=>bif J (r2.t35<r2.t34)then if 0<=r2.t35/\r2.t35<zR r2.t33 then bif J (r2.t33[zD r2.t35]!.bB=1)then if 0<=r2.t11/\r2.t11<zR r2.t2 then if(r2.b2.ai++[r2.t2[zD r2.t11]!]).length<=1073741824 then I else I else I else bif J (r2.t33[zD r2.t35]!.bB=3)then if 0<=r2.t12/\r2.t12<zR r2.t2 then if(r2.b2.ai++[r2.t2[zD r2.t12]!]).length<=1073741824 then I else I else I else bif J (r2.t33[zD r2.t35]!.bB=2)then if 0<=r2.t13/\r2.t13<zR r2.b0.bf then if(r2.b2.ai++[m36 r2.b0.bf[zD r2.t13]!]).length<=1073741824 then I else I else I else if(r2.b2.ai++[m36 r2.t33[zD r2.t35]!.eH]).length<=1073741824 then I else I else I else V (aJ.mk r2.b2.ai r2.b2.aD [] r2.b2.aI)
def e85:=eL vi 85 G (lc (qg 26) (lc (qg 29) (lc (ql 34) ln))) d85 (λg=>m85 g.1 g.2.1 g.t.1)
def arO:EO e85:=λh=>kL (an:=(noTwo (noTwo (noTwo (.two (noTwo (acQ.lp WW .no)) (noTwo (.two (noTwo (ac0.lp V0 .no)) .no))))))) (l:=[(aZ f85 0,(acQ.lp WW .no)),(aZ f85 1,(ac0.lp V0 .no))]) func85 (LO aV) (aA (aO acQ) (aA (aO ac0) aH)) h
structure Oo where
 t8:List aL
 t18:List dF
 (t19 t20:Int)
 b0:aS
 b1:bT
 b2:bL
 b3:aJ
def ael:Td 0 Oo:= .c [] [3,4,6,7,8,18,19,20] (.t (bX.s 8 [] 34) (.c [] [3,4,6,7,8,18,19,20] (.r 0 6 (ec 3 (qp 0 0) (ec 4 (qp 1 0) (ec 6 (qp 2 0) (ec 7 (qp 3 0) (ec 8 (qo 4) (ec 18 (ql 139) (ec 19 aN (ec 20 aN en)))))))) (sb 0 26 (lg 26) (sb 1 29 (lg 29) (sb 2 36 (aU (aU (aU (lc qn (aU (aU (aU (lc qn ln)))))))) (sb 3 147 (lc (qo 5) (aU (aU (aU (lc qn (aU (aU (aU ln)))))))) (sr 4 34 (sr 5 34 sn)))))) (λz=>⟨z.q.2.1,z.1.q.2.1,z.1.q.t.1,z.1.q.t.2.1,z.2.1,z.t.1,(bL.mk (aL.mk z.t.2.1.1 z.t.2.1.2.1 z.t.2.1.t.1) [] (aL.mk z.t.2.1.q.1 z.t.2.1.q.2.1 z.t.2.1.q.t.1) []),(aJ.mk z.q.t.1 (aL.mk z.q.1.2.1 z.q.1.t.1 z.q.1.t.2.1) [] (aL.mk z.q.1.q.2.1 z.q.1.q.t.1 z.q.1.q.t.2.1))⟩) (λx=>(((),(),(),(),(),x.t18,x.t19,x.t20,()),(x.b0,x.b1,(x.b2.aD.ah,x.b2.aD.ag,x.b2.aD.ak,(),x.b2.aI.ah,x.b2.aI.ag,x.b2.aI.ak,(),()),((),x.b3.aD.ah,x.b3.aD.ag,x.b3.aD.ak,(),x.b3.aI.ah,x.b3.aI.ag,x.b3.aI.ak,()),x.t8,x.b3.ai,()))))))
def WU(p:Oo):af (af Oo):=
 bif J (p.t20<p.t19)then if 0<=p.t20/\p.t20<zR p.t18 then match Qb (aJ.mk p.b3.ai p.b3.aD [] p.b3.aI) (az.mk p.t18[zD p.t20]!.aG.bD p.t18[zD p.t20]!.aG.fN p.t18[zD p.t20]!.aG.ax)with|I=>I|V r1=>match m86 r1 p.t18[zD p.t20]!.ah p.t18[zD p.t20]!.ag with|I=>I|V r2=>if(p.t8++[r2.fst]).length<=1073741824 then V (V (Oo.mk (p.t8++[r2.fst]) p.t18 p.t19 (aj (p.t20+1)) p.b0 p.b1 (bL.mk p.b2.aD [] p.b2.aI []) (aJ.mk p.b3.ai p.b3.aD [] p.b3.aI)))else I else I else V (I)
def NP:=bI (WU)
abbrev E23:=bL
def d23:Td 0 E23:= .c [] [6] (.r 0 1 (ec 6 (qp 0 0) en) (sb 0 36 (lg 36) sn) (λz=>z.2.1) (λx=>(((),()),(x,()))))
def m23(a0:aS)(a1:bT)(a2:aa aL):af E23:=
 match m85 a0 a1 a2 with|I=>I|V r3=>match NP (Oo.mk [] a0.au (zR a0.au) 0 a0 a1 (bL.mk (aL.mk 0 0 0) [] (aL.mk 0 0 0) []) (aJ.mk r3.ai r3.aD [] r3.aI))with|I=>I|V r4=>bif J (r4.t20<r4.t19)then if 0<=r4.t20/\r4.t20<zR r4.t18 then match Qb (aJ.mk r4.b3.ai r4.b3.aD [] r4.b3.aI) (az.mk r4.t18[zD r4.t20]!.aG.bD r4.t18[zD r4.t20]!.aG.fN r4.t18[zD r4.t20]!.aG.ax)with|I=>I|V r5=>match m86 r5 r4.t18[zD r4.t20]!.ah r4.t18[zD r4.t20]!.ag with|I=>I|V r6=>if(r4.t8++[r6.fst]).length<=1073741824 then I else I else I else match r88 r4.b0 r4.t8 r4.b0.bK (aJ.mk r4.b3.ai r4.b3.aD [] r4.b3.aI)with|I=>I|V r7=>bif bif r4.b1.fm then G else O then V (bL.mk r7.aD r7.aF (m36 0) r7.ai)else V (bL.mk r7.aD r7.aF r7.aI r7.ai)
def e23:bq->bq:=eZ vi 23 (lc (qg 26) (lc (qg 29) (lc (ql 34) ln))) d23 (λg=>m23 g.1 g.2.1 g.t.1)
def ab9:EO e23:=λh=>kZ (an:=(noTwo (noTwo (noTwo (.two (noTwo (ael.lp NP .no)) .no))))) (l:=[(aZ f23 0,(ael.lp NP .no))]) func23 (aq1 (Tf (Tm (arO (LO aV))))) (aA (aO ael) aH) h
def Z1{F:bq}{f:Nat}(hne:ze f 23=G)(h:bz F f):bz (e23 F) f:=l8 hne h
def F37:bq:=(e43 (e23 dw))
structure NS where
 t10:Bool
 t32:List aL
 (t33 t34:Int)
 (b0 b1:aB)
def abl:Td 0 NS:= .c [] [6,9,10,32,33,34] (.t (bX.c 1 0 [] 3) (.c [] [6,9,10,32,33,34] (.r 0 3 (ec 6 (qp 0 0) (ec 9 (qp 1 0) (ec 10 qb (ec 32 (ql 34) (ec 33 aN (ec 34 aN en)))))) (sb 0 47 (lc qn (aU ln)) (sb 1 47 (lc (qo 2) (aU ln)) (sr 2 3 sn))) (λz=>⟨z.1.t.1,z.1.t.2.1,z.1.q.1,z.1.q.2.1,(aB.mk [] z.2.1.2.1),(aB.mk z.t.2.1 z.t.1.2.1)⟩) (λx=>(((),(),x.t10,x.t32,x.t33,x.t34,()),(((),x.b0.aI,()),((),x.b1.aI,()),x.b1.aK,()))))))
def Uw(p:NS):af (af NS):=
 bif J (p.t34<p.t33)then if 0<=p.t34/\p.t34<zR p.t32 then match bif p.t10 then match sS p.t32[zD p.t34]! with|I=>I|V r1=>V (J (r1=1))else V G with|I=>I|V r2=>if(p.b1.aK++[p.t32[zD p.t34]!.ah]).length<=1073741824 then V (V (NS.mk r2 p.t32 p.t33 (aj (p.t34+1)) (aB.mk [] p.b0.aI) (aB.mk (p.b1.aK++[p.t32[zD p.t34]!.ah]) p.b1.aI)))else I else I else V (I)
def anU:An:=(noTwo (noTwo (.two (noTwo (.two (.rb [43] 10) .no)) .no)))
def UU:=bI (Uw)
abbrev E37:=aB×Bool
def d37:Td 0 E37:= .c [] [6,7] (.t (bX.c 0 0 [] 3) (.c [] [6,7] (.r 0 2 (ec 6 (qp 0 0) (ec 7 qb en)) (sb 0 47 (lc (qo 1) (aU ln)) (sr 1 3 sn)) (λz=>((aB.mk z.t.1 z.2.1.2.1),z.1.2.1)) (λx=>(((),x.2,()),(((),x.1.aI,()),x.1.aK,()))))))
def axL:∀f∈([43]:aa Nat),bz (F37) f:=(aA (lU (Z1 (f:=43) rfl bF)) aH)
def m37(a0:aS)(a1:bT)(a2:aa aL):af E37:=
 match m23 a0 a1 a2 with|I=>I|V r3=>match match sS r3.aD with|I=>I|V r4=>bif J (r4=1)then match sS r3.aI with|I=>I|V r5=>V (J (r5=1))else V G with|I=>I|V r6=>match UU (NS.mk r6 r3.aF (zR r3.aF) 0 (aB.mk [] (0)) (aB.mk [] r3.aI.ah))with|I=>I|V r7=>bif J (r7.t34<r7.t33)then if 0<=r7.t34/\r7.t34<zR r7.t32 then match bif r7.t10 then match sS r7.t32[zD r7.t34]! with|I=>I|V r8=>V (J (r8=1))else V G with|I=>I|V r9=>if(r7.b1.aK++[r7.t32[zD r7.t34]!.ah]).length<=1073741824 then I else I else I else bif bif r7.t10 then G else O then V ((aB.mk [] (0),G))else V (r7.b1,O)
def e37:=eL vi 37 G (lc (qg 26) (lc (qg 29) (lc (ql 34) ln))) d37 (λg=>m37 g.1 g.2.1 g.t.1)
def au1:EO e37:=λh=>kL (F:=F37) (an:=(noTwo (noTwo (noTwo (.two (.rb [43] 10) (.two (noTwo (abl.lp UU anU)) .no)))))) (l:=[(.skip,(.rb [43] 10)),(aZ f37 0,(abl.lp UU anU)),(.skip,(.rb [43] 10))]) func37 (oq (ab9 aV)) (aA axL (aA (aO abl) (aA axL aH))) h
structure Ew where
 t3:Int
 t6:List aL
 (t7 t8:Int)
def Q7:Td 0 Ew:= .c [] [3,6,7,8] (.r 0 0 (ec 3 aN (ec 6 (ql 34) (ec 7 aN (ec 8 aN en)))) sn (λz=>⟨z.1.1,z.1.2.1,z.1.t.1,z.1.t.2.1⟩) (λx=>((x.t3,x.t6,x.t7,x.t8,()),(()))))
def KC(p:Ew):af (af Ew):=
 bif J (p.t8<p.t7)then if 0<=p.t8/\p.t8<zR p.t6 then match sS p.t6[zD p.t8]! with|I=>I|V r1=>V (V (Ew.mk (aj (p.t3*r1)) p.t6 p.t7 (aj (p.t8+1))))else I else V (I)
def Kj:=bI (KC)
abbrev aBs:=Int
def d100:Td 0 aBs:= .c [] [2] (.r 0 0 (ec 2 aN en) sn (λz=>z.1.1) (λx=>((x,()),(()))))
def af2(a0:aa aL):af aBs:=
 match Kj (Ew.mk 1 a0 (zR a0) 0)with|I=>I|V r2=>bif J (r2.t8<r2.t7)then if 0<=r2.t8/\r2.t8<zR r2.t6 then match sS r2.t6[zD r2.t8]! with|I=>I|V r3=>I else I else V (r2.t3)
def aGx:=eL vi 100 G (lc (ql 34) ln) d100 (λg=>af2 g.1)
def aiX:EO aGx:=λh=>kL (an:=(noTwo (noTwo (.two (noTwo (Q7.lp Kj .no)) .no)))) (l:=[(aZ f100 0,(Q7.lp Kj .no))]) func100 (oq aV) (aA (aO Q7) aH) h
structure Cz where
 (t8 t9 t10 t11:Int)
 b0:bL
def acu:Td 0 Cz:= .c [] [7,8,9,10,11] (.r 0 1 (ec 7 (qp 0 0) (ec 8 aN (ec 9 aN (ec 10 aN (ec 11 aN en))))) (sb 0 36 (lg 36) sn) (λz=>⟨z.1.2.1,z.1.t.1,z.1.t.2.1,z.1.q.1,z.2.1⟩) (λx=>(((),x.t8,x.t9,x.t10,x.t11,()),(x.b0,()))))
def U7(p:Cz):af (af Cz):=
 bif J (p.t11<=zR p.b0.aF)then match m32 p.b0.aD p.t11 with|I=>I|V r1=>bif r1 then bif J (p.t11<zR p.b0.aF)then if 0<=p.t11/\p.t11<zR p.b0.aF then match sS p.b0.aF[zD p.t11]! with|I=>I|V r2=>V (V (Cz.mk p.t8 (if p.t8<aj (p.t9+p.t10)then p.t8 else aj (p.t9+p.t10)) (if p.t8<aj (p.t10*if p.t8<r2 then p.t8 else r2)then p.t8 else aj (p.t10*if p.t8<r2 then p.t8 else r2)) (aj (p.t11+1)) p.b0))else I else V (V (Cz.mk p.t8 (if p.t8<aj (p.t9+p.t10)then p.t8 else aj (p.t9+p.t10)) p.t10 (aj (p.t11+1)) p.b0))else bif J (p.t11<zR p.b0.aF)then if 0<=p.t11/\p.t11<zR p.b0.aF then match sS p.b0.aF[zD p.t11]! with|I=>I|V r3=>V (V (Cz.mk p.t8 p.t9 (if p.t8<aj (p.t10*if p.t8<r3 then p.t8 else r3)then p.t8 else aj (p.t10*if p.t8<r3 then p.t8 else r3)) (aj (p.t11+1)) p.b0))else I else V (V (Cz.mk p.t8 p.t9 p.t10 (aj (p.t11+1)) p.b0))else V (I)
def UA:=bI (U7)
abbrev E38:=Int
def d38:Td 0 E38:= .c [] [6] (.r 0 0 (ec 6 aN en) sn (λz=>z.1.1) (λx=>((x,()),(()))))
def m38(a0:aS)(a1:bT)(a2:aa aL):af E38:=
 match m23 a0 a1 a2 with|I=>I|V r4=>match af2 a2 with|I=>I|V r5=>match sS r4.aI with|I=>I|V r6=>match UA (Cz.mk (if 1099511627776<r5 then 1099511627776 else r5) 0 (if(if 1099511627776<r5 then 1099511627776 else r5)<r6 then if 1099511627776<r5 then 1099511627776 else r5 else r6) 0 r4)with|I=>I|V r7=>bif J (r7.t11<=zR r7.b0.aF)then match m32 r7.b0.aD r7.t11 with|I=>I|V r8=>bif r8 then bif J (r7.t11<zR r7.b0.aF)then if 0<=r7.t11/\r7.t11<zR r7.b0.aF then match sS r7.b0.aF[zD r7.t11]! with|I=>I|V r9=>I else I else I else bif J (r7.t11<zR r7.b0.aF)then if 0<=r7.t11/\r7.t11<zR r7.b0.aF then match sS r7.b0.aF[zD r7.t11]! with|I=>I|V r10=>I else I else I else V (r7.t9)
def e38:=eL vi 38 G (lc (qg 26) (lc (qg 29) (lc (ql 34) ln))) d38 (λg=>m38 g.1 g.2.1 g.t.1)
def au7:EO e38:=λh=>kL (an:=(noTwo (noTwo (noTwo (noTwo (noTwo (.two (noTwo (acu.lp UA .no)) .no))))))) (l:=[(aZ f38 0,(acu.lp UA .no))]) func38 (aiX (oq (DP (ab9 aV)))) (aA (aO acu) aH) h
def YU(a:aL):Int:=open Classical in if NV a then bZ a else 0
def W5(a:aL):LY a=V (YU a):=by
 unfold YU;by_cases h:NV a
 ·rw[bJ h,qJ h]
 ·rw[bN h,akL h]
def VU(a:aL):sS a=V (YU a):=by
 unfold YU;by_cases h:NV a
 ·rw[bJ h,eE h]
 ·rw[bN h,amo h]
def jA(pub:aa Int)(i:Nat)(x:bg):Int:=bif J (pub[i]! <x.ah)then 3 else bif J (x.ag<pub[i]!)then 3 else 0
def pI(box:aa aL)(i:Nat)(x:bg):Int:=bif bif Yz box[i]! then G else O then 1 else bif J (@Eq Int (YU box[i]!) 0)then 1 else bif J (box[i]!.ah<x.ah)then 3 else bif J (x.ag<box[i]!.ag)then 3 else 0
def eC(vars:aa bg):aa bg:=vars.filter (kd 1)++vars.filter (kd 3)
def Aw(f:aS)(v:bT)(box:aa aL):Int:=
 if pL f≠0 then pL f else if zR v.bf≠(f.ai.filter (kd 2)).length then 1 else if cz (jA v.bf) (f.ai.filter (kd 2)) 0≠0 then cz (jA v.bf) (f.ai.filter (kd 2)) 0
 else if zR box≠(eC f.ai).length then 2 else cz (pI box) (eC f.ai) 0
def BM{vars:aa bg}{i:Nat}(h:i<zR vars)(k:Int):(vars.take (i+1)).filter (kd k)=(vars.take i).filter (kd k)++(if vars[i]!.bB=k then[vars[i]!]else[]):=by
 rw[bG h,xk];by_cases hk:vars[i]!.bB=k
 ·rw[bJ hk];simp only[yW,xZ,kd,hk,uU,dS]
 ·rw[bN hk];simp only[yW,xZ,kd,hk,CC,yx,GQ]
def DS{vars:aa bg}(k:Int)(i:Nat):zR ((vars.take i).filter (kd k))<=i:=kg vars k i
def abV(f:aS)(hl:zR f.ai<=1000000)(v:bT)(box:aa aL):VH ⟨box,[],f.ai,(zR f.ai:Int),0,f,v⟩=V ⟨box,f.ai.filter (kd 2),f.ai,(zR f.ai:Int),(zR f.ai:Int),f,v⟩:=by
 obtain⟨b,e1,hI⟩:=cH (rnd:=VD) (zR f.ai) (λi (b:aa bg)=>⟨box,b,f.ai,(zR f.ai:Int),(i:Int),f,v⟩) (λi b=>b=(f.ai.take i).filter (kd 2)) (λi b hi hb=>by
  obtain⟨i1,i2,hw⟩:=w3 hi hl;have hlen:zR b<=i:=by rw[hb];exact DS 2 i
  have hl2:∀x:bg,zR (b++[x])<=1073741824:=λx=>by simp;omega
  refine⟨_,?_,rfl⟩;rw[BM hi,<-hb];unfold VD;by_cases hk:f.ai[i]!.bB=2
  ·simp only[cZ,i1,i2,hk,hl2,hw,cI,dS]
  ·simp only[cZ,cU,fU,i1,i2,hk,hw,yy]) (λb _=>by unfold VD;simp) (b:=[]) (by simp)
 rw[zH]at hI;rw[<-hI];exact e1
def Ou(f:aS)(hl:zR f.ai<=1000000)(v:bT)(box:aa aL)(t8 acc:aa bg)(ha:zR acc<=1000000)(k:Int)(ks:aa Int)(n j:Int):
  Io ⟨box,t8,acc,k,ks,n,j,f.ai,(zR f.ai:Int),0,f,v⟩=V ⟨box,t8,acc++f.ai.filter (kd k),k,ks,n,j,f.ai,(zR f.ai:Int),(zR f.ai:Int),f,v⟩:=by
 obtain⟨b,e1,hI⟩:=cH (rnd:=Vb) (zR f.ai) (λi (b:aa bg)=>⟨box,t8,acc++b,k,ks,n,j,f.ai,(zR f.ai:Int),(i:Int),f,v⟩) (λi b=>b=(f.ai.take i).filter (kd k)) (λi b hi hb=>by
  obtain⟨i1,i2,hw⟩:=w3 hi hl;have hlen:zR b<=i:=by rw[hb];exact DS k i
  have hl2:∀x:bg,zR (acc++(b++[x]))<=1073741824:=λx=>by simp;omega
  refine⟨_,?_,rfl⟩;rw[BM hi,<-hb];unfold Vb;by_cases hk:f.ai[i]!.bB=k
  ·simp only[cZ,i1,i2,hk,hl2,hw,cI,dS,yS]
  ·simp only[cZ,cU,fU,i1,i2,hk,hw,yy]) (λb _=>by unfold Vb;simp) (b:=[]) (by simp)
 have e1':Io ⟨box,t8,acc,k,ks,n,j,f.ai,(zR f.ai:Int),0,f,v⟩=V ⟨box,t8,acc++b,k,ks,n,j,f.ai,(zR f.ai:Int),(zR f.ai:Int),f,v⟩:=by
  have:=e1;rw[yy]at this;exact this
 simp_all
def adV(f:aS)(hl:zR f.ai<=1000)(v:bT)(box:aa aL)(t8:aa bg):
  MN ⟨box,t8,[],[1,3],2,0,f,v⟩=V ⟨box,t8,eC f.ai,[1,3],2,2,f,v⟩:=by
 have h1:zR (f.ai.filter (kd 1))<=1000:=zG (yt _ _) hl;have e1:=Ou f aq v box t8 [] (by simp) 1 [1,3] 2 0;have e2:=Ou f aq v box t8 (f.ai.filter (kd 1)) aq 3 [1,3] 2 1;rw[yz]at e1;have w1:aj ((0:Int)+1)=1:=by decide
 have w2:aj ((1:Int)+1)=2:=by decide
 unfold MN eC;rw[bR (p':=⟨box,t8,f.ai.filter (kd 1),[1,3],2,1,f,v⟩)]
 ·rw[bR (p':=⟨box,t8,f.ai.filter (kd 1)++f.ai.filter (kd 3),[1,3],2,2,f,v⟩)]
  ·exact ct (λr=>by unfold We;simp)
  ·unfold We;dsimp only;rw[b7 (by decide),cI,bJ (by decide),bJ (by decide)];rw[show ([1,3]:aa Int)[zD 1]! =3 from rfl,e2];dsimp only;rw[fO,cv,w2]
 ·unfold We;dsimp only;rw[b7 (by decide),cI,bJ (by decide),bJ (by decide)];rw[show ([1,3]:aa Int)[zD 0]! =1 from rfl,e1];dsimp only;rw[fO,cv,w1]
def ajo(L:aa bg)(hl:zR L<=1000000)(v:bT)(hv:zR v.bf=zR L)(box:aa aL)(t9:aa bg):
  ∃i,Up ⟨box,t9,L,(zR L:Int),0,v⟩=V ⟨box,t9,L,(zR L:Int),(i:Nat),v⟩/\((i=zR L/\cz (jA v.bf) L 0=0)\/(i<zR L/\jA v.bf i L[i]!≠0/\cz (jA v.bf) L 0=jA v.bf i L[i]!)):=
 tu (rnd:=NG) L (λi=>⟨box,t9,L,(zR L:Int),(i:Nat),v⟩) (jA v.bf) (λi hi=>by
  obtain⟨i1,i2,hw⟩:=w3 hi hl;have i3:(i:Int)<(zR v.bf:Int):=aq;have key:NG ⟨box,t9,L,(zR L:Int),(i:Nat),v⟩=if jA v.bf i L[i]! =0 then V (V ⟨box,t9,L,(zR L:Int),((i+1:Nat):Int),v⟩)else V I:=by
   unfold NG jA;simp only[zg,i1,i3,hi,hw];cases J (v.bf[i]! <L[i]!.ah)<;>cases J (L[i]!.ag<v.bf[i]!)<;>simp
  exact⟨λh=>by rw[key,bJ h],λh=>by rw[key,bN h]⟩) (by unfold NG;simp)
def aiH(L:aa bg)(hl:zR L<=1000000)(box:aa aL)(hv:zR box=zR L):
  ∃i,Vy ⟨box,L,(zR L:Int),0⟩=V ⟨box,L,(zR L:Int),(i:Nat)⟩/\((i=zR L/\cz (pI box) L 0=0)\/(i<zR L/\pI box i L[i]!≠0/\cz (pI box) L 0=pI box i L[i]!)):=
 tu (rnd:=OT) L (λi=>⟨box,L,(zR L:Int),(i:Nat)⟩) (pI box) (λi hi=>by
  obtain⟨i1,i2,hw⟩:=w3 hi hl;have i3:(i:Int)<(zR box:Int):=aq;have key:OT ⟨box,L,(zR L:Int),(i:Nat)⟩=if pI box i L[i]! =0 then V (V ⟨box,L,(zR L:Int),((i+1:Nat):Int)⟩)else V I:=by
   unfold OT pI;simp only[zg,i1,i3,hi,hw,eX,W5];cases Yz box[i]! <;>cases J (@Eq Int (YU box[i]!) 0)<;>cases J (box[i]!.ah<L[i]!.ah)<;>cases J (L[i]!.ag<box[i]!.ag)<;>simp
  exact⟨λh=>by rw[key,bJ h],λh=>by rw[key,bN h]⟩) (by unfold OT;simp)
def axO{f:aS}(h:fP f.bK+kH (f.au.map (·.aG))<=900)(hh:zR f.au<=1000)(hl:zR f.ai<=1000)(v:bT)(box:aa aL):m79 f v box=V (Aw f v box):=by
 have l2:zR (f.ai.filter (kd 2))<=1000:=zG (yt _ _) hl;have l3:zR (eC f.ai)<=2000:=by
  have a1:zR (f.ai.filter (kd 1))<=1000:=zG (yt _ _) hl;have a3:zR (f.ai.filter (kd 3))<=1000:=zG (yt _ _) hl;unfold eC;rw[zh];omega
 unfold m79 Aw;rw[Ul f h aq aq];dsimp only;by_cases hc:pL f=0
 case neg=>rw[bY hc,bJ hc];rfl
 rw[b7 hc,bN (by simpa using hc)];rw[abV f aq];dsimp only;rw[fO,cv];rw[adV f hl];dsimp only;rw[fO,cv];by_cases hp:zR v.bf=zR (f.ai.filter (kd 2))
 case neg=>rw[fO,bJ hp];rfl
 rw[om,bN (by simpa using hp)];obtain⟨i,e3,k3⟩:=ajo (f.ai.filter (kd 2)) aq v hp box (eC f.ai);rw[e3];dsimp only;rcases k3 with ⟨rfl,k3⟩|⟨i1,i2,i3⟩
 case inr=>
  rw[bJ (show cz (jA v.bf) (f.ai.filter (kd 2)) 0≠0 by rw[i3];exact i2),i3];have j1:(i:Int)<(zR (f.ai.filter (kd 2)):Int):=aq;have j2:(0:Int)<=(i:Int):=aq;have j3:(i:Int)<(zR v.bf:Int):=aq;simp only[zg,j1,j3,i1];revert i2;unfold jA;cases J (v.bf[i]! <(f.ai.filter (kd 2))[i]!.ah)<;>cases J ((f.ai.filter (kd 2))[i]!.ag<v.bf[i]!)<;>simp
 rw[fO,cv,bN (show ¬cz (jA v.bf) (f.ai.filter (kd 2)) 0≠0 by rw[k3];simp)];by_cases hb:zR box=zR (eC f.ai)
 case neg=>rw[fO,bJ hb];rfl
 rw[om,bN (by simpa using hb)];simp only[cU];obtain⟨i,e4,k4⟩:=aiH (eC f.ai) aq box hb;rw[e4];dsimp only;rcases k4 with ⟨rfl,k4⟩|⟨i1,i2,i3⟩
 ·rw[fO,cv,k4]
 ·rw[i3];have j1:(i:Int)<(zR (eC f.ai):Int):=aq;have j2:(0:Int)<=(i:Int):=aq;have j3:(i:Int)<(zR box:Int):=aq;simp only[zg,j1,j3,i1,eX,W5];revert i2;unfold pI;cases Yz box[i]! <;>cases J (@Eq Int (YU box[i]!) 0)<;>cases J (box[i]!.ah<(eC f.ai)[i]!.ah)<;>cases J ((eC f.ai)[i]!.ag<box[i]!.ag)<;>simp
def E7(f:aS)(hl:zR f.ai<=1000000)(v:bT)(box:aa aL)(t8 t9:aa bg)(h8:zR t8<=1000000)(h9:zR t9<=1000000)(k:Int)(ks:aa Int)(n j:Int):
  OD ⟨box,t8,t9,k,ks,n,j,f.ai,(zR f.ai:Int),0,f,v⟩=V ⟨box,if k=2 then t8++f.ai.filter (kd k)else t8,if k=2 then t9 else t9++f.ai.filter (kd k),k,ks,n,j,f.ai,(zR f.ai:Int),(zR f.ai:Int),f,v⟩:=by
 obtain⟨b,e1,hI⟩:=cH (rnd:=UX) (zR f.ai) (λi (b:aa bg)=>⟨box,if k=2 then t8++b else t8,if k=2 then t9 else t9++b,k,ks,n,j,f.ai,(zR f.ai:Int),(i:Int),f,v⟩) (λi b=>b=(f.ai.take i).filter (kd k)) (λi b hi hb=>by
  obtain⟨i1,i2,hw⟩:=w3 hi hl;have hlen:zR b<=i:=by rw[hb];exact DS k i
  have hl2:∀x:bg,zR (t8++(b++[x]))<=1073741824:=λx=>by simp;omega
  have hl3:∀x:bg,zR (t9++(b++[x]))<=1073741824:=λx=>by simp;omega
  refine⟨_,?_,rfl⟩;rw[BM hi,<-hb];unfold UX;by_cases hk:f.ai[i]!.bB=k
  ·by_cases h2:k=2
   ·simp only[cZ,i1,i2,hk,h2,hl2,hw,cI,dS,yS]
   ·simp only[cZ,cU,fU,i1,i2,hk,h2,hl3,hw,yS]
  ·simp only[cZ,cU,fU,i1,i2,hk,hw,yy]) (λb _=>by unfold UX;simp) (b:=[]) (by simp)
 rw[zH]at hI;rw[<-hI];have e1':=e1;rw[yy,yy,ite_self,ite_self]at e1';exact e1'
def ae4(f:aS)(hl:zR f.ai<=1000)(v:bT)(box:aa aL):
  OI ⟨box,[],[],[1,3,2],3,0,f,v⟩=V ⟨box,f.ai.filter (kd 2),eC f.ai,[1,3,2],3,3,f,v⟩:=by
 have h1:zR (f.ai.filter (kd 1))<=1000:=zG (yt _ _) hl;have h3:zR (f.ai.filter (kd 3))<=1000:=zG (yt _ _) hl;have e1:=E7 f aq v box [] [] (by simp) (by simp) 1 [1,3,2] 3 0;have e2:=E7 f aq v box [] (f.ai.filter (kd 1)) (by simp) aq 3 [1,3,2] 3 1;have e3:=E7 f aq v box [] (eC f.ai) (by simp) (by unfold eC;rw[zh];omega) 2 [1,3,2] 3 2;simp only[fU,yz,Int.reduceEq]at e1 e2 e3;have w1:aj ((0:Int)+1)=1:=by decide
 have w2:aj ((1:Int)+1)=2:=by decide
 have w3:aj ((2:Int)+1)=3:=by decide
 unfold OI;rw[bR (p':=⟨box,[],f.ai.filter (kd 1),[1,3,2],3,1,f,v⟩)]
 ·rw[bR (p':=⟨box,[],eC f.ai,[1,3,2],3,2,f,v⟩)]
  ·rw[bR (p':=⟨box,f.ai.filter (kd 2),eC f.ai,[1,3,2],3,3,f,v⟩)]
   ·exact ct (λr=>by unfold OK;simp)
   ·unfold OK;dsimp only;rw[b7 (by decide),cI,bJ (by decide),bJ (by decide)];rw[show ([1,3,2]:aa Int)[zD 2]! =2 from rfl,e3];dsimp only;rw[fO,cv,w3]
  ·unfold OK;dsimp only;rw[b7 (by decide),cI,bJ (by decide),bJ (by decide)];rw[show ([1,3,2]:aa Int)[zD 1]! =3 from rfl,e2];dsimp only;rw[fO,cv,w2];rfl
 ·unfold OK;dsimp only;rw[b7 (by decide),cI,bJ (by decide),bJ (by decide)];rw[show ([1,3,2]:aa Int)[zD 0]! =1 from rfl,e1];dsimp only;rw[fO,cv,w1]
def agh(L:aa bg)(hl:zR L<=1000000)(v:bT)(hv:zR v.bf=zR L)(box:aa aL)(t9:aa bg):
  ∃i,Vl ⟨box,t9,L,(zR L:Int),0,v⟩=V ⟨box,t9,L,(zR L:Int),(i:Nat),v⟩/\((i=zR L/\cz (jA v.bf) L 0=0)\/(i<zR L/\jA v.bf i L[i]!≠0/\cz (jA v.bf) L 0=jA v.bf i L[i]!)):=
 tu (rnd:=O8) L (λi=>⟨box,t9,L,(zR L:Int),(i:Nat),v⟩) (jA v.bf) (λi hi=>by
  obtain⟨i1,i2,hw⟩:=w3 hi hl;have i3:(i:Int)<(zR v.bf:Int):=aq;have key:O8 ⟨box,t9,L,(zR L:Int),(i:Nat),v⟩=if jA v.bf i L[i]! =0 then V (V ⟨box,t9,L,(zR L:Int),((i+1:Nat):Int),v⟩)else V I:=by
   unfold O8 jA;simp only[zg,i1,i3,hi,hw];cases J (v.bf[i]! <L[i]!.ah)<;>cases J (L[i]!.ag<v.bf[i]!)<;>simp
  exact⟨λh=>by rw[key,bJ h],λh=>by rw[key,bN h]⟩) (by unfold O8;simp)
def ahX(L:aa bg)(hl:zR L<=1000000)(box:aa aL)(hv:zR box=zR L):
  ∃i,WD ⟨box,L,(zR L:Int),0⟩=V ⟨box,L,(zR L:Int),(i:Nat)⟩/\((i=zR L/\cz (pI box) L 0=0)\/(i<zR L/\pI box i L[i]!≠0/\cz (pI box) L 0=pI box i L[i]!)):=
 tu (rnd:=MX) L (λi=>⟨box,L,(zR L:Int),(i:Nat)⟩) (pI box) (λi hi=>by
  obtain⟨i1,i2,hw⟩:=w3 hi hl;have i3:(i:Int)<(zR box:Int):=aq;have key:MX ⟨box,L,(zR L:Int),(i:Nat)⟩=if pI box i L[i]! =0 then V (V ⟨box,L,(zR L:Int),((i+1:Nat):Int)⟩)else V I:=by
   unfold MX pI;simp only[zg,i1,i3,hi,hw,gj,VU];cases Yz box[i]! <;>cases J (@Eq Int (YU box[i]!) 0)<;>cases J (box[i]!.ah<L[i]!.ah)<;>cases J (L[i]!.ag<box[i]!.ag)<;>simp
  exact⟨λh=>by rw[key,bJ h],λh=>by rw[key,bN h]⟩) (by unfold MX;simp)
def ay4{f:aS}(h:fP f.bK+kH (f.au.map (·.aG))<=900)(hh:zR f.au<=1000)(hl:zR f.ai<=1000)(v:bT)(box:aa aL):m21 f v box=V (Aw f v box):=by
 have l2:zR (f.ai.filter (kd 2))<=1000:=zG (yt _ _) hl;have l3:zR (eC f.ai)<=2000:=by
  have a1:zR (f.ai.filter (kd 1))<=1000:=zG (yt _ _) hl;have a3:zR (f.ai.filter (kd 3))<=1000:=zG (yt _ _) hl;unfold eC;rw[zh];omega
 unfold m21 Aw;rw[aaS f h aq aq];dsimp only;by_cases hc:pL f=0
 case neg=>rw[bY hc,bJ hc];rfl
 rw[b7 hc,bN (by simpa using hc)];rw[ae4 f hl v box];dsimp only;rw[fO,cv];by_cases hp:zR v.bf=zR (f.ai.filter (kd 2))
 case neg=>rw[fO,bJ hp];rfl
 rw[om,bN (by simpa using hp)];obtain⟨i,e3,k3⟩:=agh (f.ai.filter (kd 2)) aq v hp box (eC f.ai);rw[e3];dsimp only;rcases k3 with ⟨rfl,k3⟩|⟨i1,i2,i3⟩
 case inr=>
  rw[bJ (show cz (jA v.bf) (f.ai.filter (kd 2)) 0≠0 by rw[i3];exact i2),i3];have j1:(i:Int)<(zR (f.ai.filter (kd 2)):Int):=aq;have j2:(0:Int)<=(i:Int):=aq;have j3:(i:Int)<(zR v.bf:Int):=aq;simp only[zg,j1,j3,i1];revert i2;unfold jA;cases J (v.bf[i]! <(f.ai.filter (kd 2))[i]!.ah)<;>cases J ((f.ai.filter (kd 2))[i]!.ag<v.bf[i]!)<;>simp
 rw[fO,cv,bN (show ¬cz (jA v.bf) (f.ai.filter (kd 2)) 0≠0 by rw[k3];simp)];by_cases hb:zR box=zR (eC f.ai)
 case neg=>rw[fO,bJ hb];rfl
 rw[om,bN (by simpa using hb)];simp only[cU];obtain⟨i,e4,k4⟩:=ahX (eC f.ai) aq box hb;rw[e4];dsimp only;rcases k4 with ⟨rfl,k4⟩|⟨i1,i2,i3⟩
 ·rw[fO,cv,k4]
 ·rw[i3];have j1:(i:Int)<(zR (eC f.ai):Int):=aq;have j2:(0:Int)<=(i:Int):=aq;have j3:(i:Int)<(zR box:Int):=aq;simp only[zg,j1,j3,i1,gj,VU];revert i2;unfold pI;cases Yz box[i]! <;>cases J (@Eq Int (YU box[i]!) 0)<;>cases J (box[i]!.ah<(eC f.ai)[i]!.ah)<;>cases J ((eC f.ai)[i]!.ag<box[i]!.ag)<;>simp
structure Fits (f:aS) (v:bT) (box:List aL):Prop where
 c:pL f=0
 pub:zR v.bf=zR (f.ai.filter (kd 2))
 aHL:∀j,j<zR v.bf->(f.ai.filter (kd 2))[j]!.ah<=v.bf[j]!/\v.bf[j]!<=(f.ai.filter (kd 2))[j]!.ag
 bl:zR box=zR (eC f.ai)
 bx:∀j,j<zR box->NN box[j]!/\(eC f.ai)[j]!.ah<=box[j]!.ah/\box[j]!.ag<=(eC f.ai)[j]!.ag
def sg{f:aS}{v:bT}{box:aa aL}(h:Aw f v box=0):Fits f v box:=by
 unfold Aw at h;by_cases hc:pL f=0
 case neg=>rw[bJ hc]at h;exact ep h hc
 rw[bN (by simpa using hc)]at h;by_cases hp:zR v.bf=zR (f.ai.filter (kd 2))
 case neg=>rw[bJ hp]at h;cases h
 rw[bN (by simpa using hp)]at h;by_cases hf:cz (jA v.bf) (f.ai.filter (kd 2)) 0=0
 case neg=>rw[bJ hf]at h;exact ep h hf
 rw[bN (by simpa using hf)]at h;by_cases hb:zR box=zR (eC f.ai)
 case neg=>rw[bJ hb]at h;cases h
 rw[bN (by simpa using hb)]at h;refine⟨hc,hp,λj hj=> ?_,hb,λj hj=> ?_⟩
 ·have k:=nV hf j aq;rw[ym]at k;unfold jA at k;by_cases c1:v.bf[j]! <(f.ai.filter (kd 2))[j]!.ah
  ·rw[b7 c1]at k;cases k
  by_cases c2:(f.ai.filter (kd 2))[j]!.ag<v.bf[j]!
  ·rw[bY c1,b7 c2]at k;cases k
  omega
 ·have k:=nV h j aq;rw[ym]at k;unfold pI at k;by_cases c0:NV box[j]!
  case neg=>rw[As c0]at k;cases k
  rw[eo c0]at k;by_cases c3:YU box[j]! =0
  ·rw[b7 c3]at k;cases k
  by_cases c1:box[j]!.ah<(eC f.ai)[j]!.ah
  ·rw[bY c3,b7 c1]at k;cases k
  by_cases c2:(eC f.ai)[j]!.ag<box[j]!.ag
  ·rw[bY c3,bY c1,b7 c2]at k;cases k
  refine⟨c0.nn λe=>c3 ?_,aq,aq⟩;rw[e];unfold YU;rw[bJ (.inl rfl)];rfl
def aeN{f:aS}(h:pL f=0){i:Nat}(hi:i<zR f.ai):(0<=f.ai[i]!.bB/\f.ai[i]!.bB<=3)/\(f.ai[i]!.bB=0->f.ai[i]!.ah<=f.ai[i]!.eH/\f.ai[i]!.eH<=f.ai[i]!.ag):=by
 unfold pL at h;by_cases h1:ry f=G
 ·rw[bJ h1]at h;exact ep h (by decide)
 rw[bN h1]at h;by_cases hvc:jJ f.ai=0
 case neg=>rw[bJ hvc]at h;exact ep h hvc
 unfold jJ at hvc;by_cases h0:cz (mY f.ai) f.ai 0=0
 case neg=>rw[bJ h0]at hvc;exact ep hvc h0
 have k:=nV h0 i hi;unfold mY at k;omega
def eM(f:aS)(v:bT)(box:aa aL)(i:Nat):aL:=
 if f.ai[i]!.bB=1 then box[cR f.ai 1 i]! else if f.ai[i]!.bB=2 then eF v.bf[cR f.ai 2 i]! else if f.ai[i]!.bB=3 then box[cR f.ai 1 f.ai.length+cR f.ai 3 i]! else eF f.ai[i]!.eH
def fo(f:aS)(v:bT)(box:aa aL):ay:=⟨tab (zR f.ai) (eM f v box),eF 0,[],eF 0⟩
def Kg(vars:aa bg):zR (eC vars)=cR vars 1 vars.length+cR vars 3 vars.length:=by
 unfold eC;rw[zh,nH,nH]
def IZ{vars:aa bg}{k:Int}{i:Nat}(hi:i<zR vars)(hk:vars[i]!.bB=k):cR vars k i<cR vars k vars.length:=by
 have c:=gL hi k;have m:=j0 (vars:=vars) (k:=k) (show i+1<=zR vars by omega) (zm _);rw[bJ hk]at c;omega
def sM{f:aS}{v:bT}{box:aa aL}(h:Fits f v box):eV (zR f.ai) 0 (fo f v box):=by
 have hv:=mg h.c;have hb:=h.bl;rw[Kg]at hb;have hp:=h.pub;rw[<-nH]at hp;refine⟨gQ ..,λi hi=> ?_,lN ⟨by decide,by decide⟩,zm _,λi hi=>ep hi (by simp[fo]),lN ⟨by decide,by decide⟩⟩;show NN (tab _ _)[i]!;rw[pg hi];unfold eM;by_cases k1:f.ai[i]!.bB=1
 ·rw[bJ k1];have:=IZ hi k1;exact(h.bx _ aq).1
 rw[bN k1];by_cases k2:f.ai[i]!.bB=2
 ·rw[bJ k2];have hl:=IZ hi k2;have hj:=h.aHL _ (show cR f.ai 2 i<zR v.bf by omega);have hm:=bu (l:=f.ai.filter (kd 2)) (i:=cR f.ai 2 i) (by rw[<-nH];omega);have:=hv _ ((z8.1 hm).1);exact lN (by unfold cC;omega)
 rw[bN k2];by_cases k3:f.ai[i]!.bB=3
 ·rw[bJ k3];have:=IZ hi k3;exact(h.bx _ aq).1
 rw[bN k3];obtain⟨q1,q2⟩:=aeN h.c hi;have:=hv _ (bu hi);exact lN (by unfold cC;omega)
abbrev A0:bL:=⟨⟨0,0,0⟩,[],⟨0,0,0⟩,[]⟩
def agV{f:aS}(hl:zR f.ai<=1000)(box:aa aL)(v:bT)(g:ay):Uc ⟨box,0,0,0,f.ai,(zR f.ai:Int),0,f,v,A0,⟨[],g.aD,[],g.aI⟩⟩=
  V ⟨box,0,0,(cR f.ai 1 f.ai.length:Int),f.ai,(zR f.ai:Int),(zR f.ai:Int),f,v,A0,⟨[],g.aD,[],g.aI⟩⟩:=by
 obtain⟨b,e1,_⟩:=cH (rnd:=V8) (zR f.ai) (λi (_:Unit)=>⟨box,0,0,(cR f.ai 1 i:Int),f.ai,(zR f.ai:Int),(i:Int),f,v,A0,⟨[],g.aD,[],g.aI⟩⟩) (λ_ _=>True) (λi b hi _=>by
  obtain⟨i1,i2,hw⟩:=w3 hi aq;have c1:=gL hi 1;have l1:=kg f.ai 1 i;have w1:aj ((cR f.ai 1 i:Int)+1)=((cR f.ai 1 i+1:Nat):Int):=by rw[aM];omega
  refine⟨(),?_,trivial⟩;unfold V8;rw[c1];by_cases hk:f.ai[i]!.bB=1
  ·simp only[cZ,i1,i2,hk,hw,w1,cI,dS]
  ·simp only[cZ,cU,fU,i1,i2,hk,hw,yj]) (λb _=>by unfold V8;simp) (b:=()) trivial
 exact e1
def agm{f:aS}{v:bT}{box:aa aL}(h:Fits f v box)(hlv:zR f.ai<=1000)(g:ay):UR ⟨box,0,0,(cR f.ai 1 f.ai.length:Int),f.ai,(zR f.ai:Int),0,f,v,A0,⟨[],g.aD,[],g.aI⟩⟩=
  V ⟨box,(cR f.ai 1 f.ai.length:Int),(cR f.ai 2 f.ai.length:Int),((cR f.ai 1 f.ai.length+cR f.ai 3 f.ai.length:Nat):Int),f.ai,(zR f.ai:Int),(zR f.ai:Int),f,v,A0,⟨tab (zR f.ai) (eM f v box),g.aD,[],g.aI⟩⟩:=by
 have hbx:=h.bl;rw[Kg]at hbx;have hp:=h.pub;rw[<-nH]at hp;obtain⟨b,e1,_⟩:=cH (rnd:=Vc) (zR f.ai) (λi (_:Unit)=>⟨box,(cR f.ai 1 i:Int),(cR f.ai 2 i:Int),((cR f.ai 1 f.ai.length+cR f.ai 3 i:Nat):Int),f.ai,(zR f.ai:Int),(i:Int),f,v,A0,⟨tab i (eM f v box),g.aD,[],g.aI⟩⟩) (λi _=>True) (λi b hi _=>by
  obtain⟨i1,i2,hw⟩:=w3 hi aq;have c1:=gL hi 1;have c2:=gL hi 2;have c3:=gL hi 3;have m1:=j0 (vars:=f.ai) (k:=1) (show i+1<=zR f.ai by omega) (zm _);have m2:=j0 (vars:=f.ai) (k:=2) (show i+1<=zR f.ai by omega) (zm _);have m3:=j0 (vars:=f.ai) (k:=3) (show i+1<=zR f.ai by omega) (zm _);have l1:=kg f.ai 1 (zR f.ai);have l2:=kg f.ai 2 (zR f.ai);have l3:=kg f.ai 3 (zR f.ai);have hl2:∀x:aL,zR (tab i (eM f v box)++[x])<=1073741824:=λx=>by rw[zh,gQ,yh];omega
  refine⟨(),?_,trivial⟩;rw[qU];unfold Vc;rw[c1,c2,c3];by_cases k1:f.ai[i]!.bB=1
  ·have ev:eM f v box i=box[cR f.ai 1 i]! :=by unfold eM;rw[bJ k1]
   rw[k1]at c1 c2 c3 ⊢;simp only[fU,Int.reduceEq,yj]at c1 c2 c3 ⊢;have w1:aj ((cR f.ai 1 i:Int)+1)=((cR f.ai 1 i+1:Nat):Int):=by rw[aM];omega
   have j1:(cR f.ai 1 i:Int)<(zR box:Int):=aq;have j2:(0:Int)<=(cR f.ai 1 i:Int):=aq;simp only[cZ,i1,i2,j1,j2,cI,dS,k1,hl2,hw,w1,ev]
  by_cases k2:f.ai[i]!.bB=2
  ·have ev:eM f v box i=eF v.bf[cR f.ai 2 i]! :=by unfold eM;rw[bN k1,bJ k2]
   rw[k2]at c1 c2 c3 ⊢;simp only[fU,Int.reduceEq,yj]at c1 c2 c3 ⊢;have w1:aj ((cR f.ai 2 i:Int)+1)=((cR f.ai 2 i+1:Nat):Int):=by rw[aM];omega
   have j1:(cR f.ai 2 i:Int)<(zR v.bf:Int):=aq;have j2:(0:Int)<=(cR f.ai 2 i:Int):=aq;simp only[cZ,cU,i1,i2,j1,j2,k2,Int.reduceEq,dS,hl2,hw,w1,rT,ev]
  by_cases k3:f.ai[i]!.bB=3
  ·have ev:eM f v box i=box[cR f.ai 1 f.ai.length+cR f.ai 3 i]! :=by unfold eM;rw[bN k1,bN k2,bJ k3]
   rw[k3]at c1 c2 c3 ⊢;simp only[fU,Int.reduceEq,yj]at c1 c2 c3 ⊢;have w1:aj (((cR f.ai 1 f.ai.length+cR f.ai 3 i:Nat):Int)+1)=((cR f.ai 1 f.ai.length+(cR f.ai 3 i+1):Nat):Int):=by rw[aM];omega
   have j1:((cR f.ai 1 f.ai.length+cR f.ai 3 i:Nat):Int)<(zR box:Int):=aq;have j2:(0:Int)<=((cR f.ai 1 f.ai.length+cR f.ai 3 i:Nat):Int):=aq;simp only[cZ,cU,i1,i2,j1,j2,k3,Int.reduceEq,dS,hl2,hw,w1,ev]
  ·have ev:eM f v box i=eF f.ai[i]!.eH:=by unfold eM;rw[bN k1,bN k2,bN k3]
   rw[bN k1,bN k2,bN k3];simp only[cZ,cU,i1,i2,k1,k2,k3,dS,hl2,hw,rT,ev,yj]) (λb _=>by unfold Vc;simp) (b:=()) trivial
 exact e1
def Zi(f:aS)(s:ay)(h:dF):aL:=ja (cK s.ai h.aG) h.ah h.ag
def pP(f:aS)(s:ay):aa aL:=f.au.map (Zi f s)
def ahN{f:aS}(hf:MH f){s:ay}{m:Nat}(hs:eV (zR f.ai) m s){i:Nat}(hi:i<zR f.au):NN (Zi f s f.au[i]!):=by
 obtain⟨_,_,_,k,_⟩:=iB (iV hs f.au[i]!.aG (hf.hat i hi).2) f.au[i]!.ah f.au[i]!.ag;exact k
def De{f:aS}(hf:MH f){s:ay}{m:Nat}(hs:eV (zR f.ai) m s):∀i,i<zR (pP f s)->NN (pP f s)[i]! :=λi hi=>by
 have hi:i<zR f.au:=by simpa [pP]using hi
 unfold pP;rw[getElem!_pos _ i (by simpa using hi),yM,<-getElem!_pos f.au i hi];exact ahN hf hs hi
def ah1{f:aS}(hf:MH f)(hlh:zR f.au<=1000)(v:bT){s:ay}(hs:eV (zR f.ai) 0 s):OS ⟨f.au,(zR f.au:Int),0,f,v,A0,s,⟨f,[]⟩⟩=
  V ⟨f.au,(zR f.au:Int),(zR f.au:Int),f,v,A0,s,⟨f,pP f s⟩⟩:=by
 have hsl:s.aF=[]:=xh (Nat.le_zero.1 hs.sl);have es:(⟨s.ai,s.aD,[],s.aI⟩:ay)=s:=by rw[<-hsl]
 obtain⟨b,e1,_⟩:=cH (rnd:=Wr) (zR f.au) (λi (_:Unit)=>⟨f.au,(zR f.au:Int),(i:Int),f,v,A0,s,⟨f,(f.au.take i).map (Zi f s)⟩⟩) (λi _=>True) (λi b hi _=>by
  obtain⟨i1,i2,hw⟩:=w3 hi aq;obtain⟨q1,q2⟩:=hf.hat i hi;have ev:=MM hs q2;obtain⟨c,hcl,_,_,_⟩:=iB (iV hs f.au[i]!.aG q2) f.au[i]!.ah f.au[i]!.ag;have hl2:∀x:aL,zR ((f.au.take i).map (Zi f s)++[x])<=1073741824:=λx=>by simp;omega
  refine⟨(),?_,trivial⟩;rw[bG hi,zM];unfold Wr;simp only[zg,i1,az.eta,es,ev,hcl,hl2,hw];rfl) (λb _=>by unfold Wr;simp) (b:=()) trivial
 rw[zH]at e1;exact e1
def GU(f:aS)(v:bT)(box:aa aL):ay:=gT f (pP f (fo f v box)) f.bK (fo f v box)
def fD(f:aS)(v:bT)(box:aa aL):bL:=
 ⟨(GU f v box).aD,(GU f v box).aF,if v.fm=O then(GU f v box).aI else eF 0,(GU f v box).ai⟩
def aox{f:aS}{v:bT}{box:aa aL}(h:fP f.bK+kH (f.au.map (·.aG))<=900)(hh:zR f.au<=1000)(hl:zR f.ai<=1000):m20 f v box=V (if Aw f v box=0 then(fD f v box,0)else(A0,Aw f v box)):=by
 unfold m20;rw[axO h hh hl];dsimp only;by_cases hc:Aw f v box=0
 case neg=>rw[bY hc,bN hc];rfl
 have hfit:=sg hc;have hf:=KG hfit.c;have h0:=sM hfit;have e0:=agV hl box v ⟨[],eF 0,[],eF 0⟩;have e1:=agm hfit hl ⟨[],eF 0,[],eF 0⟩;have e2:=ah1 hf hh v h0;have ho:eN f.bK<=8:=by have:=hf.o;unfold eN;omega
 have e3:r83 ⟨f,pP f (fo f v box)⟩ f.bK (fo f v box)=V (GU f v box):=
  awx (r:=⟨f,pP f (fo f v box)⟩) (top:=O) (by show zR f.ai<=_;omega) (by simp[pP]) (De hf h0) aq hf.steps h0 aq
 rw[b7 hc,bJ hc];simp only[cv,rT];rw[e0];dsimp only;rw[fO,cv,e1];dsimp only;rw[fO,cv];have e2':OS ⟨f.au,(zR f.au:Int),0,f,v,⟨⟨0,0,0⟩,[],⟨0,0,0⟩,[]⟩,⟨tab (zR f.ai) (eM f v box),eF 0,[],eF 0⟩,⟨f,[]⟩⟩=_:=e2;rw[e2'];dsimp only;rw[fO,cv];have e3':r83 ⟨f,pP f (fo f v box)⟩ f.bK ⟨(fo f v box).ai,(fo f v box).aD,[],(fo f v box).aI⟩=_:=e3;rw[e3'];unfold fD;cases v.fm<;>rfl
abbrev Z3:aJ:=⟨[],⟨0,0,0⟩,[],⟨0,0,0⟩⟩
def ajB{f:aS}(hl:zR f.ai<=1000)(box:aa aL)(v:bT):WW ⟨box,0,f.ai,(zR f.ai:Int),0,f,v,Z3,Z3⟩=
  V ⟨box,(cR f.ai 1 f.ai.length:Int),f.ai,(zR f.ai:Int),(zR f.ai:Int),f,v,Z3,Z3⟩:=by
 obtain⟨b,e1,_⟩:=cH (rnd:=VS) (zR f.ai) (λi (_:Unit)=>⟨box,(cR f.ai 1 i:Int),f.ai,(zR f.ai:Int),(i:Int),f,v,Z3,Z3⟩) (λ_ _=>True) (λi b hi _=>by
  obtain⟨i1,i2,hw⟩:=w3 hi aq;have c1:=gL hi 1;have l1:=kg f.ai 1 i;have w1:aj ((cR f.ai 1 i:Int)+1)=((cR f.ai 1 i+1:Nat):Int):=by rw[aM];omega
  refine⟨(),?_,trivial⟩;unfold VS;rw[c1];by_cases hk:f.ai[i]!.bB=1
  ·simp only[cZ,i1,i2,hk,hw,w1,cI,dS]
  ·simp only[cZ,cU,fU,i1,i2,hk,hw,yj]) (λb _=>by unfold VS;simp) (b:=()) trivial
 exact e1
def ahe{f:aS}{v:bT}{box:aa aL}(h:Fits f v box)(hlv:zR f.ai<=1000):V0 ⟨box,0,(cR f.ai 1 f.ai.length:Int),0,f.ai,(zR f.ai:Int),0,v,Z3,Z3⟩=
  V ⟨box,(cR f.ai 1 f.ai.length:Int),((cR f.ai 1 f.ai.length+cR f.ai 3 f.ai.length:Nat):Int),(cR f.ai 2 f.ai.length:Int),f.ai,(zR f.ai:Int),(zR f.ai:Int),v,Z3,⟨tab (zR f.ai) (eM f v box),⟨0,0,0⟩,[],⟨0,0,0⟩⟩⟩:=by
 have hbx:=h.bl;rw[Kg]at hbx;have hp:=h.pub;rw[<-nH]at hp;obtain⟨b,e1,_⟩:=cH (rnd:=Wv) (zR f.ai) (λi (_:Unit)=>⟨box,(cR f.ai 1 i:Int),((cR f.ai 1 f.ai.length+cR f.ai 3 i:Nat):Int),(cR f.ai 2 i:Int),f.ai,(zR f.ai:Int),(i:Int),v,Z3,⟨tab i (eM f v box),⟨0,0,0⟩,[],⟨0,0,0⟩⟩⟩) (λi _=>True) (λi b hi _=>by
  obtain⟨i1,i2,hw⟩:=w3 hi aq;have c1:=gL hi 1;have c2:=gL hi 2;have c3:=gL hi 3;have m1:=j0 (vars:=f.ai) (k:=1) (show i+1<=zR f.ai by omega) (zm _);have m2:=j0 (vars:=f.ai) (k:=2) (show i+1<=zR f.ai by omega) (zm _);have m3:=j0 (vars:=f.ai) (k:=3) (show i+1<=zR f.ai by omega) (zm _);have l1:=kg f.ai 1 (zR f.ai);have l2:=kg f.ai 2 (zR f.ai);have l3:=kg f.ai 3 (zR f.ai);have hl2:∀x:aL,zR (tab i (eM f v box)++[x])<=1073741824:=λx=>by rw[zh,gQ,yh];omega
  refine⟨(),?_,trivial⟩;rw[qU];unfold Wv;dsimp only;rw[c1,c2,c3];by_cases k1:f.ai[i]!.bB=1
  ·have ev:eM f v box i=box[cR f.ai 1 i]! :=by unfold eM;rw[bJ k1]
   rw[k1]at c1 c2 c3 ⊢;simp only[fU,Int.reduceEq,yj]at c1 c2 c3 ⊢;have w1:aj ((cR f.ai 1 i:Int)+1)=((cR f.ai 1 i+1:Nat):Int):=by rw[aM];omega
   have j1:(cR f.ai 1 i:Int)<(zR box:Int):=aq;have j2:(0:Int)<=(cR f.ai 1 i:Int):=aq;simp only[cZ,i1,i2,j1,j2,cI,dS,k1,hl2,hw,w1,ev]
  by_cases k2:f.ai[i]!.bB=2
  ·have ev:eM f v box i=eF v.bf[cR f.ai 2 i]! :=by unfold eM;rw[bN k1,bJ k2]
   rw[k2]at c1 c2 c3 ⊢;simp only[fU,Int.reduceEq,yj]at c1 c2 c3 ⊢;have w1:aj ((cR f.ai 2 i:Int)+1)=((cR f.ai 2 i+1:Nat):Int):=by rw[aM];omega
   have j1:(cR f.ai 2 i:Int)<(zR v.bf:Int):=aq;have j2:(0:Int)<=(cR f.ai 2 i:Int):=aq;simp only[cZ,cU,i1,i2,j1,j2,k2,Int.reduceEq,dS,hl2,hw,w1,Dt,ev]
  by_cases k3:f.ai[i]!.bB=3
  ·have ev:eM f v box i=box[cR f.ai 1 f.ai.length+cR f.ai 3 i]! :=by unfold eM;rw[bN k1,bN k2,bJ k3]
   rw[k3]at c1 c2 c3 ⊢;simp only[fU,Int.reduceEq,yj]at c1 c2 c3 ⊢;have w1:aj (((cR f.ai 1 f.ai.length+cR f.ai 3 i:Nat):Int)+1)=((cR f.ai 1 f.ai.length+(cR f.ai 3 i+1):Nat):Int):=by rw[aM];omega
   have j1:((cR f.ai 1 f.ai.length+cR f.ai 3 i:Nat):Int)<(zR box:Int):=aq;have j2:(0:Int)<=((cR f.ai 1 f.ai.length+cR f.ai 3 i:Nat):Int):=aq;simp only[cZ,cU,i1,i2,j1,j2,k3,Int.reduceEq,dS,hl2,hw,w1,ev]
  ·have ev:eM f v box i=eF f.ai[i]!.eH:=by unfold eM;rw[bN k1,bN k2,bN k3]
   rw[bN k1,bN k2,bN k3];simp only[cZ,cU,i1,i2,k1,k2,k3,dS,hl2,hw,Dt,ev,yj]) (λb _=>by unfold Wv;simp) (b:=()) trivial
 exact e1
def awe{f:aS}{v:bT}{box:aa aL}(h:Fits f v box)(hlv:zR f.ai<=1000):m85 f v box=V (tr (fo f v box)):=by
 have e0:=ajB hlv box v;have e1:=ahe h hlv;unfold m85;dsimp only[Z3]at e0 e1;rw[e0];dsimp only;rw[fO,cv,e1];dsimp only;rw[fO,cv];rfl
def ahm{f:aS}(hf:MH f)(hlh:zR f.au<=1000)(v:bT){s:ay}(hs:eV (zR f.ai) 0 s):NP ⟨[],f.au,(zR f.au:Int),0,f,v,A0,tr s⟩=
  V ⟨pP f s,f.au,(zR f.au:Int),(zR f.au:Int),f,v,A0,tr s⟩:=by
 have hsl:s.aF=[]:=xh (Nat.le_zero.1 hs.sl);have es:(⟨(tr s).ai,(tr s).aD,[],(tr s).aI⟩:aJ)=tr s:=by unfold tr;rw[<-hsl]
 obtain⟨b,e1,_⟩:=cH (rnd:=WU) (zR f.au) (λi (_:Unit)=>⟨(f.au.take i).map (Zi f s),f.au,(zR f.au:Int),(i:Int),f,v,A0,tr s⟩) (λi _=>True) (λi b hi _=>by
  obtain⟨i1,i2,hw⟩:=w3 hi aq;obtain⟨q1,q2⟩:=hf.hat i hi;have ev:=VB hs f.au[i]!.aG q2;obtain⟨c,_,hcl,_,_⟩:=iB (iV hs f.au[i]!.aG q2) f.au[i]!.ah f.au[i]!.ag;have hl2:∀x:aL,zR ((f.au.take i).map (Zi f s)++[x])<=1073741824:=λx=>by simp;omega
  refine⟨(),?_,trivial⟩;rw[bG hi,zM];unfold WU;simp only[cZ,i1,i2,cI,dS,az.eta,es,ev,hcl,hl2,hw,yf,yU];rfl) (λb _=>by unfold WU;simp) (b:=()) trivial
 rw[zH]at e1;exact e1
def aB4{f:aS}{v:bT}{box:aa aL}(h:fP f.bK+kH (f.au.map (·.aG))<=900)(hh:zR f.au<=1000)(hl:zR f.ai<=1000)(hfit:Fits f v box):m23 f v box=V (fD f v box):=by
 have hf:=KG hfit.c;have h0:=sM hfit;have e2:=ahm hf hh v h0;have ho:eN f.bK<=8:=by have:=hf.o;unfold eN;omega
 have e3:r88 f (pP f (fo f v box)) f.bK (tr (fo f v box))=V (tr (GU f v box)):=
  awg (top:=O) aq (by simp[pP]) (De hf h0) aq hf.steps h0 aq
 unfold m23;rw[awe hfit hl];dsimp only;have e2':NP ⟨[],f.au,(zR f.au:Int),0,f,v,⟨⟨0,0,0⟩,[],⟨0,0,0⟩,[]⟩,⟨(tr (fo f v box)).ai,(tr (fo f v box)).aD,[],(tr (fo f v box)).aI⟩⟩=_:=e2;rw[e2'];dsimp only;rw[fO,cv];have e3':r88 f (pP f (fo f v box)) f.bK ⟨(tr (fo f v box)).ai,(tr (fo f v box)).aD,[],(tr (fo f v box)).aI⟩=_:=e3;rw[e3'];dsimp only;unfold fD;cases v.fm<;>rfl
abbrev E18:=Bool
def d18:Td 0 E18:= .c [] [0] (.r 0 0 (ec 0 qb en) sn (λz=>z.1.1) (λx=>((x,()),(()))))
def m18:E18:=O
def e18:=eL vi 18 G ln d18 (λ_=>V m18)
def t18:tF vi dw (λ_=>G) 300 60 Bool 18 [] [] 0 (RV Sf)=V O:=aW
abbrev E19:=Bool
def m19(a0:aS)(a1:bT)(a2:aa aL):af E19:=
 match bif J ((zR a1.bf:Int)<=20)then bif J ((zR a2:Int)<=20)then match m53 a0 70 300with|I=>I|V r1=>bif r1 then match m78 a0 with|I=>I|V r2=>bif bif J (r2=0)then G else O then V O else match m24 a0 4096 4096 256with|I=>I|V r3=>V (r3)else V G else V G else V G with|I=>I|V r4=>V (r4)
structure Xk where
 (t0 t1:List aL)
 (t12 t13:Int)
def axW(p:Xk):af (af Xk):=
 bif J (p.t13<p.t12)then if 0<=p.t13/\p.t13<zR p.t0 then if 0<=p.t13/\p.t13<zR p.t1 then bif bif bif J (p.t0[zD p.t13]!.ah=p.t1[zD p.t13]!.ah)then bif J (p.t0[zD p.t13]!.ag=p.t1[zD p.t13]!.ag)then bif J (p.t0[zD p.t13]!.ak=p.t1[zD p.t13]!.ak)then O else G else G else G then G else O then V (I)else V (V (Xk.mk p.t0 p.t1 p.t12 (aj (p.t13+1))))else I else I else V (I)
def aAt:=bI (axW)
abbrev E64:=Bool
def m64(a0:aa aL)(a1:aa aL):af E64:=
 bif bif J ((zR a0:Int)=(zR a1:Int))then G else O then V G else match aAt (Xk.mk a0 a1 (zR a0) 0)with|I=>I|V r1=>bif J (r1.t13<r1.t12)then if 0<=r1.t13/\r1.t13<zR r1.t0 then if 0<=r1.t13/\r1.t13<zR r1.t1 then bif bif bif J (r1.t0[zD r1.t13]!.ah=r1.t1[zD r1.t13]!.ah)then bif J (r1.t0[zD r1.t13]!.ag=r1.t1[zD r1.t13]!.ag)then bif J (r1.t0[zD r1.t13]!.ak=r1.t1[zD r1.t13]!.ak)then O else G else G else G then G else O then V G else I else I else I else V O
abbrev E22:=Bool
def m22(a0:bL)(a1:bL):af E22:=
 match bif bif J (a0.aD.ah=a1.aD.ah)then bif J (a0.aD.ag=a1.aD.ag)then bif J (a0.aD.ak=a1.aD.ak)then O else G else G else G then bif bif J (a0.aI.ah=a1.aI.ah)then bif J (a0.aI.ag=a1.aI.ag)then bif J (a0.aI.ak=a1.aI.ak)then O else G else G else G then match m64 a0.aF a1.aF with|I=>I|V r1=>bif r1 then match m64 a0.IM a1.IM with|I=>I|V r2=>V (r2)else V (G)else V (G)else V (G)with|I=>I|V r3=>V (r3)
abbrev E3:=Bool
def d3:Td 0 E3:= .c [] [6] (.r 0 0 (ec 6 qb en) sn (λz=>z.1.1) (λx=>((x,()),(()))))
def A3:=(lc (qg 26) (lc (qg 29) (lc (ql 34) ln)))
def m3(a0:aS)(a1:bT)(a2:aa aL):af E3:=
 bif bif m18 then G else O then V (G)else match m19 a0 a1 a2 with|I=>I|V r1=>bif bif r1 then G else O then V (O)else match m20 a0 a1 a2 with|I=>I|V r2=>match m21 a0 a1 a2 with|I=>I|V r3=>bif bif J (r3=0)then G else O then bif J (r2.snd=r3)then match m22 r2.fst (bL.mk (aL.mk (0) (0) (0)) [] (aL.mk (0) (0) (0)) [])with|I=>I|V r4=>V (r4)else V (G)else bif J (r2.snd=0)then match m23 a0 a1 a2 with|I=>I|V r5=>match m22 r2.fst r5 with|I=>I|V r6=>V (r6)else V (G)
abbrev E6:=Bool
def d6:Td 0 E6:= .c [] [6] (.r 0 0 (ec 6 qb en) sn (λz=>z.1.1) (λx=>((x,()),(()))))
def aah{f:aS}{v:bT}{box:aa aL}(h:Fits f v box):zR (fD f v box).aF<=8/\zR (fD f v box).IM=zR f.ai:=by
 have hf:=KG h.c;have h0:=sM h;have ho:eN f.bK<=8:=by have:=hf.o;unfold eN;omega
 have k:=iu (hv:=pP f (fo f v box)) (by simp[pP]) (De hf h0) _ f.bK O (zC _) hf.steps _ _ h0;have:=k.sl;exact⟨by show zR (GU f v box).aF<=8;unfold GU;omega,k.len⟩
def MB{a:aL}(h:NN a):bZ a<=a.ag-a.ah+1:=by
 rw[Ap h];have:=h.le;split
 ·omega
 ·have:=yo a.ak (show 0<=a.ag-a.ah by omega);omega
def vJ{a:aL}(h:NN a):1<=bZ a/\bZ a<=2199023255553:=by
 have h1:=size_pos h;have h2:=MB h;obtain⟨a1,a2⟩:=h.tC;obtain⟨a3,a4⟩:=h.CA;omega
def PC{a b:Int}(h1:1<=a)(h2:a<=2199023255553)(h3:1<=b)(h4:b<=2199023255553):m93 a b=V (min (a*b) 1099511627776):=by
 have hd:(1099511627776:Int).tdiv b=1099511627776/b:=Int.tdiv_eq_ediv_of_nonneg aq;have q0:0<=(1099511627776:Int)/b:=zS aq aq;have q1:(1099511627776:Int)/b<=1099511627776:=yo _ aq;have iff:(1099511627776:Int)/b<a↔1099511627776<a*b:=Int.ediv_lt_iff_lt_mul aq;have p0:0<=a*b:=zJ aq aq;unfold m93;rw[b7 (show 0<b by omega),cI,bJ (show ¬@Eq Int b 0 by omega),hd,aM];dsimp only;by_cases c:1099511627776<a*b
 ·rw[b7 (iff.mpr c),cI,show min (a*b) 1099511627776=1099511627776 by omega]
 ·rw[bY (λk=>c (iff.mp k)),cv,aM,show min (a*b) 1099511627776=a*b by omega]
def eW:aa aL->Int
 |[]=>1
 |x::l=>bZ x*eW l
def mc:aa bg->Int
 |[]=>1
 |x::l=>(x.ag-x.ah+1)*mc l
def vR:∀(a b:aa aL),eW (a++b)=eW a*eW b
 |[],b=>by rw[yz,eW,yc]
 |x::a,b=>by rw[xy,eW,eW,vR a b,yb]
def HJ:∀(a b:aa bg),mc (a++b)=mc a*mc b
 |[],b=>by rw[yz,mc,yc]
 |x::a,b=>by rw[xy,mc,mc,HJ a b,yb]
def l7:∀{l:aa aL},(∀x∈l,NN x)->1<=eW l
 |[],_=>by rw[eW];decide
 |x::l,h=>by
  rw[eW];have h1:=size_pos (h x (zk ..));have h2:=l7 (λy hy=>h y (zI _ hy));have:=yZ h1 h2 aq aq;omega
def Bd{l:aa aL}(h:∀x∈l,NN x)(i:Nat):1<=eW (l.take i)/\eW (l.take i)<=eW l:=by
 have h1:=l7 (l:=l.take i) (λx hx=>h x (wH hx));have h2:=l7 (l:=l.drop i) (λx hx=>h x (xC hx));have e:eW l=eW (l.take i)*eW (l.drop i):=by rw[<-vR,xe]
 have:=wY h2 (show 0<=eW (l.take i)by omega);omega
def U4:∀{l:aa aL} {L:aa bg},zR l=zR L->(∀j,j<zR l->NN l[j]!/\L[j]!.ah<=l[j]!.ah/\l[j]!.ag<=L[j]!.ag)->eW l<=mc L
 |[],[],_,_=>zw _
 |[],y::L,h,_=>by simp at h
 |x::l,[],h,_=>by simp at h
 |x::l,y::L,h,k=>by
  have hN:∀z∈l,NN z:=λz hz=>by
   obtain⟨i,hi,e⟩:=List.mem_iff_getElem.1 hz;have:=(k (i+1) (by simp;omega)).1;rw[show (x::l)[i+1]! =l[i]! from rfl,getElem!_pos l i hi,e]at this;omega
  obtain⟨k1,k2,k3⟩:=k 0 (by simp);have k1:NN x:=k1;have k2:y.ah<=x.ah:=k2;have k3:x.ag<=y.ag:=k3;have h1:=size_pos k1;have h2:=MB k1;have h3:=U4 (l:=l) (L:=L) (by simpa using h) (λj hj=>k (j+1) (by simp;omega));have h4:=l7 hN;exact yZ aq h3 aq aq
def Ay(kind:Int):∀(l:aa bg) (n m:Int),uJ kind l n=V m->m=n*mc (l.filter (kd kind))
 |[],n,m,e=>by unfold uJ at e;cases e;rw[xZ,mc,Int.mul_one]
 |v::vs,n,m,e=>by
  unfold uJ at e;by_cases hk:v.bB=kind
  ·rw[bJ hk]at e;split at e
   ·cases e
   ·have:=Ay kind vs _ m e;rw[this,yW,bJ (by simp[kd,hk]),mc,yb]
  ·rw[bN hk]at e;rw[Ay kind vs n m e,yW,bN (by simp[kd,hk])]
def Hf:∀{l:aa bg},(∀v∈l,v.ah<=v.ag)->1<=mc l
 |[],_=>by rw[mc];decide
 |x::l,h=>by
  rw[mc];have h1:=h x (zk ..);have h2:=Hf (λy hy=>h y (zI _ hy));have:=yZ (show 1<=x.ag-x.ah+1 by omega) h2 aq aq;omega
def Yi{f:aS}(h:pL f=0):E4 f.ai=O:=by
 unfold pL at h;by_cases h1:ry f=G
 ·simp_all
 rw[bN h1]at h;by_cases hvc:jJ f.ai=0
 case neg=>rw[bJ hvc]at h;exact ep h hvc
 unfold jJ at hvc;by_cases h0:cz (mY f.ai) f.ai 0=0
 case neg=>rw[bJ h0]at hvc;exact ep hvc h0
 simp_all
def ahV{f:aS}(h:pL f=0):mc (eC f.ai)<=1048576:=by
 have hv:=mg h;have hs:=Yi h;unfold E4 at hs;simp only[zi]at hs;obtain⟨⟨h1,_⟩,h3⟩:=hs;obtain⟨a,e1⟩:=Option.isSome_iff_exists.1 h1;cases e3:uJ 3 f.ai 1 with
 |none=>rw[e3]at h3;cases h3
 |some b=>
  rw[e3]at h3;have h3:b<=256:=by simpa using h3
  have ha:=Fa 1 f.ai 1 a (by decide) e1;have p1:=Ay 1 f.ai 1 a e1;have p3:=Ay 3 f.ai 1 b e3;rw[yc]at p1 p3;have q3:=Hf (l:=f.ai.filter (kd 3)) (λv hv'=>(hv v (z8.1 hv').1).2.1);unfold eC;rw[HJ,<-p1,<-p3];have:=yZ ha h3 aq aq;omega
def Fits.nn{f:aS}{v:bT}{box:aa aL}(h:Fits f v box):∀x∈box,NN x:=λx hx=>by
 obtain⟨i,hi,e⟩:=List.mem_iff_getElem.1 hx;have:=(h.bx i hi).1;simp_all
def Fits.vol{f:aS}{v:bT}{box:aa aL}(h:Fits f v box):1<=eW box/\eW box<=1048576:=⟨l7 h.nn,xV (U4 h.bl h.bx) (ahV h.c)⟩
def ajk{box:aa aL}(h:∀x∈box,NN x)(hl:zR box<=1000000)(hv:eW box<=1048576):af2 box=V (eW box):=by
 obtain⟨b,e1,_⟩:=cH (rnd:=KC) (zR box) (λi (_:Unit)=>⟨eW (box.take i),box,(zR box:Int),(i:Int)⟩) (λi _=>True) (λi b hi _=>by
  obtain⟨i1,i2,hw⟩:=w3 hi hl;obtain⟨t1,t2⟩:=Bd h (i+1);have e:eW (box.take (i+1))=eW (box.take i)*bZ box[i]! :=by
   rw[bG hi,vR,eW,eW,Int.mul_one]
  refine⟨(),?_,trivial⟩;rw[e]at t1 t2 ⊢;unfold KC;simp only[cZ,i1,i2,cI,dS,eE (.inr (h _ (bu hi))),hw];rw[aM]) (λb _=>by unfold KC;simp) (b:=()) trivial
 rw[zH]at e1;have e1':Kj ⟨1,box,(zR box:Int),0⟩=V ⟨eW box,box,(zR box:Int),(zR box:Int)⟩:=e1;unfold af2;rw[e1'];simp
def iH(l:aa aL):Bool:=l.all λx=>J (bZ x=1)
def sgB(r:bL):Bool:=(J (bZ r.aD=1)&&J (bZ r.aI=1))&&iH r.aF
def Y6(r:bL):aB:=⟨r.aF.map (·.ah),r.aI.ah⟩
structure ZG (r:bL):Prop where
 count:NN r.aD
 time:NN r.aI
 sl:zR r.aF<=8
 slots:∀i,i<zR r.aF->NN r.aF[i]!
def CP{l:aa aL}{i:Nat}(h:i<zR l):iH (l.take (i+1))=(iH (l.take i)&&J (bZ l[i]! =1)):=by
 unfold iH;rw[bG h,List.all_append];simp
def am0{r:bL}(h:ZG r)(b:Bool)(t:Int):Ua ⟨b,r.aF,(zR r.aF:Int),0,⟨[],0⟩,⟨[],t⟩⟩=V ⟨b&&iH r.aF,r.aF,(zR r.aF:Int),(zR r.aF:Int),⟨[],0⟩,⟨r.aF.map (·.ah),t⟩⟩:=by
 have hs:=h.sl;obtain⟨_,e1,_⟩:=cH (rnd:=WQ) (zR r.aF) (λi (_:Unit)=>⟨b&&iH (r.aF.take i),r.aF,(zR r.aF:Int),(i:Int),⟨[],0⟩,⟨(r.aF.take i).map (·.ah),t⟩⟩) (λi _=>True) (λi _ hi _=>by
  obtain⟨i1,i2,hw⟩:=w3 hi aq;have hl2:∀x:Int,zR ((r.aF.take i).map (·.ah)++[x])<=1073741824:=λx=>by simp;omega
  refine⟨(),?_,trivial⟩;rw[CP hi,bG hi,zM];unfold WQ;cases hb:(b&&iH (r.aF.take i))with
  |false=>
   rw[<-Bool.and_assoc,hb];simp only[cZ,cU,i1,i2,hl2,dS,hw,Bool.false_and,yf,yU]
  |true=>
   rw[<-Bool.and_assoc,hb];simp only[cZ,i1,i2,hl2,cI,dS,qJ (.inr (h.slots i hi)),hw,Bool.true_and,yf,yU]) (λb _=>by unfold WQ;simp) (b:=()) trivial
 rw[zH]at e1;have:(b&&iH (r.aF.take 0))=b:=by simp[iH]
 rw[this]at e1;exact e1
def alR{r:bL}(h:ZG r)(b:Bool)(t:Int):UU ⟨b,r.aF,(zR r.aF:Int),0,⟨[],0⟩,⟨[],t⟩⟩=V ⟨b&&iH r.aF,r.aF,(zR r.aF:Int),(zR r.aF:Int),⟨[],0⟩,⟨r.aF.map (·.ah),t⟩⟩:=by
 have hs:=h.sl;obtain⟨_,e1,_⟩:=cH (rnd:=Uw) (zR r.aF) (λi (_:Unit)=>⟨b&&iH (r.aF.take i),r.aF,(zR r.aF:Int),(i:Int),⟨[],0⟩,⟨(r.aF.take i).map (·.ah),t⟩⟩) (λi _=>True) (λi _ hi _=>by
  obtain⟨i1,i2,hw⟩:=w3 hi aq;have hl2:∀x:Int,zR ((r.aF.take i).map (·.ah)++[x])<=1073741824:=λx=>by simp;omega
  refine⟨(),?_,trivial⟩;rw[CP hi,bG hi,zM];unfold Uw;cases hb:(b&&iH (r.aF.take i))with
  |false=>
   rw[<-Bool.and_assoc,hb];simp only[cZ,cU,i1,i2,hl2,dS,hw,Bool.false_and,yf,yU]
  |true=>
   rw[<-Bool.and_assoc,hb];simp only[cZ,i1,i2,hl2,cI,dS,eE (.inr (h.slots i hi)),hw,Bool.true_and,yf,yU]) (λb _=>by unfold Uw;simp) (b:=()) trivial
 rw[zH]at e1;have:(b&&iH (r.aF.take 0))=b:=by simp[iH]
 rw[this]at e1;exact e1
def aCl{f:aS}{v:bT}{box:aa aL}{r:bL}(e:m20 f v box=V (r,0))(h:ZG r):XE f v box=V (if sgB r=O then(Y6 r,O,0)else(⟨[],0⟩,G,0)):=by
 unfold XE;rw[e];simp only[uU,qJ (.inr h.count),qJ (.inr h.time)];have ef:(bif J (@Eq Int (bZ r.aD) 1)then some (J (@Eq Int (bZ r.aI) 1))else some false)=some (J (bZ r.aD=1)&&J (bZ r.aI=1)):=by cases J (bZ r.aD=1)<;>rfl
 rw[ef];dsimp only;rw[am0 h];dsimp only;rw[fO,cv];unfold sgB Y6;cases (J (bZ r.aD=1)&&J (bZ r.aI=1))&&iH r.aF<;>rfl
def aCj{f:aS}{v:bT}{box:aa aL}{r:bL}(e:m23 f v box=V r)(h:ZG r):m37 f v box=V (if sgB r=O then(Y6 r,O)else(⟨[],0⟩,G)):=by
 unfold m37;rw[e];simp only[eE (.inr h.count),eE (.inr h.time)];have ef:(bif J (@Eq Int (bZ r.aD) 1)then some (J (@Eq Int (bZ r.aI) 1))else some false)=some (J (bZ r.aD=1)&&J (bZ r.aI=1)):=by cases J (bZ r.aD=1)<;>rfl
 rw[ef];dsimp only;rw[alR h];dsimp only;rw[fO,cv];unfold sgB Y6;cases (J (bZ r.aD=1)&&J (bZ r.aI=1))&&iH r.aF<;>rfl
def tY(r:bL)(M:Int):Nat->Int×Int
 |0=>(0,min (bZ r.aI) M)
 |k+1=>(if cS r.aD (k:Nat)=O then min ((tY r M k).1+(tY r M k).2) M else(tY r M k).1,if k<zR r.aF then min ((tY r M k).2*bZ r.aF[k]!) M else(tY r M k).2)
def Qq{r:bL}(h:ZG r){M:Int}(hM:1<=M):∀k,0<=(tY r M k).1/\(tY r M k).1<=M/\1<=(tY r M k).2/\(tY r M k).2<=M
 |0=>by
  have:=size_pos h.time;simp only[tY];omega
 |k+1=>by
  obtain⟨h1,h2,h3,h4⟩:=Qq h hM k;simp only[tY];refine⟨?_,?_,?_,?_⟩
  ·omega
  ·omega
  ·split
   ·rename_i c;have:=size_pos (h.slots k c);have:=yZ h3 this aq aq;omega
   ·omega
  ·omega
def acO{P s zc:Int}(hs:1<=s)(hP:1<=P)(hV:1<=zc):min (P*min s zc) zc=min (P*s) zc:=by
 by_cases c:s<=zc
 ·grind
 ·rw[show min s zc=zc by omega];have k1:=zL hP (show 0<=zc by omega);have k2:=zL hP (show 0<=s by omega);omega
def Dm(r:bL):Nat->Int×Int
 |0=>(0,bZ r.aI)
 |k+1=>(if cS r.aD (k:Nat)=O then min ((Dm r k).1+(Dm r k).2) 1099511627776 else(Dm r k).1,if k<zR r.aF then min ((Dm r k).2*bZ r.aF[k]!) 1099511627776 else(Dm r k).2)
def Sg{r:bL}(h:ZG r):∀k,0<=(Dm r k).1/\(Dm r k).1<=1099511627776/\1<=(Dm r k).2/\(Dm r k).2<=2199023255553
 |0=>by
  have:=vJ h.time;simp only[Dm];omega
 |k+1=>by
  obtain⟨h1,h2,h3,h4⟩:=Sg h k;simp only[Dm];refine⟨?_,?_,?_,?_⟩
  ·omega
  ·omega
  ·split
   ·rename_i c;have:=size_pos (h.slots k c);have:=yZ h3 this aq aq;omega
   ·omega
  ·omega
def Wj{r:bL}(h:ZG r){zc:Int}(hV:1<=zc)(hM:zc<=1099511627776):∀k,(tY r zc k).1=min (Dm r k).1 zc/\(tY r zc k).2=min (Dm r k).2 zc
 |0=>by
  refine⟨?_,rfl⟩;show (0:Int)=min 0 zc;omega
 |k+1=>by
  obtain⟨h1,h2⟩:=Wj h hV hM k;obtain⟨b1,b2,b3,b4⟩:=Sg h k;simp only[tY,Dm];refine⟨?_,?_⟩
  ·split
   ·omega
   ·exact h1
  ·split
   ·rename_i c;have hs:=size_pos (h.slots k c);rw[h2];generalize (Dm r k).2=P at*;by_cases c2:P<=zc
    ·rw[show min P zc=P by omega];omega
    ·rw[show min P zc=zc by omega];have k1:=wY hs (show 0<=zc by omega);have k2:=wY hs (show 0<=P by omega);omega
   ·exact h2
def tL(a b:Int):(if b<a then b else a)=min a b:=by split<;>omega
def amt{r:bL}(h:ZG r)(box:aa aL):Ws ⟨box,0,bZ r.aI,((zR r.aF+1:Nat):Int),0,r⟩=V ⟨box,(Dm r (zR r.aF+1)).1,(Dm r (zR r.aF+1)).2,((zR r.aF+1:Nat):Int),((zR r.aF+1:Nat):Int),r⟩:=by
 have hs:=h.sl;obtain⟨_,e1,_⟩:=cH (rnd:=Wq) (zR r.aF+1) (λi (_:Unit)=>⟨box,(Dm r i).1,(Dm r i).2,((zR r.aF+1:Nat):Int),(i:Int),r⟩) (λi _=>True) (λi _ hi _=>by
  have hw:aj ((i:Int)+1)=((i+1:Nat):Int):=by rw[aM];omega
  have i1:(i:Int)<((zR r.aF+1:Nat):Int):=aq;have i2:(0:Int)<=(i:Int):=aq;obtain⟨b1,b2,b3,b4⟩:=Sg h i;have ws:aj ((Dm r i).1+(Dm r i).2)=(Dm r i).1+(Dm r i).2:=aM;refine⟨(),?_,trivial⟩;unfold Wq;simp only[Dm];by_cases c:i<zR r.aF
  ·have c1:(i:Int)<(zR r.aF:Int):=aq;have hz:=vJ (h.slots i c);have et:=PC b3 b4 hz.1 hz.2;cases hc:cS r.aD (i:Nat)with
   |true=>simp only[cZ,i1,i2,c,c1,cI,dS,rf (.inr h.count),hc,qJ (.inr (h.slots i c)),et,ws,tL,hw]
   |false=>simp only[cZ,cU,fU,i1,i2,c,c1,rf (.inr h.count),hc,qJ (.inr (h.slots i c)),et,hw,yx]
  ·have c1:¬(i:Int)<(zR r.aF:Int):=aq;cases hc:cS r.aD (i:Nat)with
   |true=>simp only[cZ,cU,fU,i1,c,c1,rf (.inr h.count),hc,ws,tL,hw]
   |false=>simp only[cZ,cU,i1,c,c1,GQ,rf (.inr h.count),hc,hw,yx]) (λb _=>by unfold Wq;simp) (b:=()) trivial
 exact e1
def ami{box:aa aL}(h:∀x∈box,NN x)(hl:zR box<=1000000)(hv:eW box<=1048576)(s:Int):VR ⟨s,1,box,(zR box:Int),0⟩=V ⟨s,eW box,box,(zR box:Int),(zR box:Int)⟩:=by
 obtain⟨_,e1,_⟩:=cH (rnd:=Wl) (zR box) (λi (_:Unit)=>⟨s,eW (box.take i),box,(zR box:Int),(i:Int)⟩) (λi _=>True) (λi b hi _=>by
  obtain⟨i1,i2,hw⟩:=w3 hi hl;obtain⟨t1,t2⟩:=Bd h (i+1);obtain⟨u1,u2⟩:=Bd h i;have hz:=vJ (h _ (bu hi));have e:eW (box.take (i+1))=eW (box.take i)*bZ box[i]! :=by
   rw[bG hi,vR,eW,eW,Int.mul_one]
  have et:=PC (a:=eW (box.take i)) aq aq hz.1 hz.2;rw[show min (eW (box.take i)*bZ box[i]!) 1099511627776=eW (box.take i)*bZ box[i]! by rw[<-e];omega]at et;refine⟨(),?_,trivial⟩;rw[e];unfold Wl;simp only[cZ,i1,i2,cI,dS,qJ (.inr (h _ (bu hi))),et,hw]) (λb _=>by unfold Wl;simp) (b:=()) trivial
 rw[zH]at e1;exact e1
def ado(r:bL)(zc:Int):Int:=(tY r zc (zR r.aF+1)).1
def aCs{f:aS}{v:bT}{box:aa aL}{r:bL}(e:m20 f v box=V (r,0))(h:ZG r)(hb:∀x∈box,NN x)(hl:zR box<=1000000)(hv:eW box<=1048576):Qe f v box=V (ado r (eW box),0):=by
 have hs:=h.sl;have hp:=l7 hb;have wl:aj ((zR r.aF:Int)+1)=((zR r.aF+1:Nat):Int):=by rw[aM];omega
 unfold Qe;rw[e];simp only[cU,uU,qJ (.inr h.time),wl];rw[amt h box];dsimp only;rw[fO,cv,ami hb hl hv];dsimp only;rw[fO,cv];unfold ado
 rw[(Wj h hp aq _).1,tL]
def afQ{r:bL}(h:ZG r){zc:Int}(hV:1<=zc)(hV2:zc<=1048576):UA ⟨zc,0,min (bZ r.aI) zc,0,r⟩=V ⟨zc,(tY r zc (zR r.aF+1)).1,(tY r zc (zR r.aF+1)).2,((zR r.aF+1:Nat):Int),r⟩:=by
 have hs:=h.sl;obtain⟨_,e1,_⟩:=cH (rnd:=U7) (zR r.aF+1) (λi (_:Unit)=>⟨zc,(tY r zc i).1,(tY r zc i).2,(i:Int),r⟩) (λi _=>True) (λi _ hi _=>by
  have hw:aj ((i:Int)+1)=((i+1:Nat):Int):=by rw[aM];omega
  have i1:(i:Int)<=(zR r.aF:Int):=aq;have i2:(0:Int)<=(i:Int):=aq;obtain⟨b1,b2,b3,b4⟩:=Qq h hV i;have ws:aj ((tY r zc i).1+(tY r zc i).2)=(tY r zc i).1+(tY r zc i).2:=aM;refine⟨(),?_,trivial⟩;unfold U7;simp only[tY];by_cases c:i<zR r.aF
  ·have c1:(i:Int)<(zR r.aF:Int):=aq;have hz:=vJ (h.slots i c);have p1:(tY r zc i).2*min (bZ r.aF[i]!) zc<=zc*zc:=yZ b4 aq aq aq;have p2:zc*zc<=1048576*1048576:=yZ hV2 hV2 aq aq;have p3:0<=(tY r zc i).2*min (bZ r.aF[i]!) zc:=zJ aq aq;have wp:aj ((tY r zc i).2*min (bZ r.aF[i]!) zc)=(tY r zc i).2*min (bZ r.aF[i]!) zc:=aM;have em:=acO hz.1 b3 hV;cases hc:cS r.aD (i:Nat)with
   |true=>simp only[cZ,i1,i2,c,c1,cI,dS,jT (.inr h.count),hc,eE (.inr (h.slots i c)),ws,tL,wp,em,hw]
   |false=>simp only[cZ,cU,fU,i1,i2,c,c1,jT (.inr h.count),hc,eE (.inr (h.slots i c)),tL,wp,em,hw,yx]
  ·have c1:¬(i:Int)<(zR r.aF:Int):=aq;cases hc:cS r.aD (i:Nat)with
   |true=>simp only[cZ,cU,fU,i1,c,c1,jT (.inr h.count),hc,ws,tL,hw]
   |false=>simp only[cZ,cU,i1,c,c1,GQ,jT (.inr h.count),hc,hw,yx]) (λb _=>by
    unfold U7;dsimp only;rw[fO];rfl) (b:=()) trivial
 exact e1
def az5{f:aS}{v:bT}{box:aa aL}{r:bL}(e:m23 f v box=V r)(h:ZG r)(hb:∀x∈box,NN x)(hl:zR box<=1000000)(hv:eW box<=1048576):m38 f v box=V (ado r (eW box)):=by
 have hp:=l7 hb;unfold m38;rw[e];dsimp only;rw[ajk hb hl hv];rw[eE (.inr h.time)];dsimp only;rw[bN (show ¬1099511627776<eW box by omega),tL,afQ h hp hv];dsimp only;rw[fO,cv];rfl
structure CI (s:ay):Prop where
 lo:0<=s.aD.ah
 hi:s.aD.ag=zR s.aF
def sg1(a:aL):Prop:=a.ah=a.ag
structure SG (s:ay):Prop where
 vars:∀i,i<zR s.ai->sg1 s.ai[i]!
 count:sg1 s.aD
 slots:∀i,i<zR s.aF->sg1 s.aF[i]!
 time:sg1 s.aI
def aff(l:aa Int)(hl:zR l<=1000):m98 l l=V O:=by
 obtain⟨b,e1,hI⟩:=cH (rnd:=UH) (zR l) (λi (_:Unit)=>⟨l,l,(i:Int)⟩) (λi b=>True) (λi b hi hb=>by
  obtain⟨i1,i2,hw⟩:=w3 hi aq;refine⟨(),?_,trivial⟩;unfold UH;simp only[cZ,cU,i1,i2,dS,hw]) (λb _=>by unfold UH;simp) (b:=()) trivial
 have e1':Ut ⟨l,l,0⟩=V ⟨l,l,(zR l:Int)⟩:=e1;unfold m98;simp only[cZ,cU,e1',yg]
def abO(o:aB)(h:zR o.aK<=1000):m31 o o=V O:=by
 unfold m31;simp only[uU,cI,aff _ h]
def aq0{f:aS}{v:bT}{box:aa aL}(h:Fits f v box):eV (zR f.ai) 8 (GU f v box):=by
 have hf:=KG h.c;have h0:=sM h;have ho:eN f.bK<=8:=by have:=hf.o;unfold eN;omega
 exact(iu (hv:=pP f (fo f v box)) (by simp[pP]) (De hf h0) _ f.bK O (zC _) hf.steps _ _ h0).weak aq
def AD{f:aS}{v:bT}{box:aa aL}(h:Fits f v box):ZG (fD f v box):=by
 have k:=aq0 h;refine⟨k.count,?_,k.sl,k.slots⟩;show NN (if v.fm=O then(GU f v box).aI else eF 0);split
 ·exact k.time
 ·exact lN ⟨by decide,by decide⟩
def aqx:bq:=dw
def agz:bA vi aqx:=aV
abbrev au6:=Bool
def d326:Td 0 au6:= .c [] [2] (.r 0 0 (ec 2 qb en) sn (λz=>z.1.1) (λx=>((x,()),(()))))
def aw0:=(aU ln)
def an2:An:= .no
def azW:fe vi (aqx) 0 300 326 (an2):=b6 (l:=[]) func326 (bM aW) aW aH
def GO(a0:Int):au6:=
 bif J (a0=a0)then G else O
def aFu(a0:Int):bV vi (aqx) 300 (an2) 326 (aw0.c (a0,())) [] 0 d326.rd=V (GO a0):=by
 refine Eq.trans (b:=(
  V (bif J (a0=a0)then G else O):af au6)) aW ?_
 simp only[GO,cu,cQ]
def awC:=eL vi 326 G aw0 d326 (λg=>V (GO g.1))
def aiP{F:bq}(h:bA vi F):bA vi (awC F):=ew (sc:=oF) di (dR agz azW (λ_=>aW) (λ_=>aW) λg=>aFu g.1) ⟨_,func326,aW,aW⟩ (λ_=>aW) (λ_=>aW) h
def asG:bq:=(awC dw)
def ags:bA vi asG:=(aiP aV)
abbrev asM:=Int
def d288:Td 0 asM:= .c [] [4] (.r 0 0 (ec 4 aN en) sn (λz=>z.1.1) (λx=>((x,()),(()))))
def ay6:=(aU (aU ln))
def aoI:An:= .no
def aAo:fe vi (asG) 0 300 288 (aoI):=b6 (l:=[]) func288 (bM aW) aW aH
def GK(a0:Int)(a1:Int):asM:=
 bif GO a0 then bif GO a1 then 0 else-1 else bif GO a1 then 1 else bif J (a0<a1)then-1 else bif J (a1<a0)then 1 else 0
def aG2(a0:Int)(a1:Int):bV vi (asG) 300 (aoI) 288 (ay6.c (a0,a1,())) [] 0 d288.rd=V (GK a0 a1):=by
 refine Eq.trans (b:=(
  bif GO a0 then bif GO a1 then V (0)else V (-1)else bif GO a1 then V (1)else bif J (a0<a1)then V (-1)else bif J (a1<a0)then V (1)else V (0):af asM)) aW ?_
 simp only[GK,cu,cQ]
def axQ:=eL vi 288 G ay6 d288 (λg=>V (GK g.1 g.2.1))
def anv{F:bq}(h:bA vi F):bA vi (axQ F):=ew (sc:=oF) di (dR ags aAo (λ_=>aW) (λ_=>aW) λg=>aG2 g.1 g.2.1) ⟨_,func288,aW,aW⟩ (λ_=>aW) (λ_=>aW) h
def afH:bq:=(axQ dw)
def ald:bA vi afH:=(anv aV)
structure um where
 (t0 t1 t9:List Int)
 (t10 t11:Int)
def DY:Td 0 um:= .c [] [0,1,9,10,11] (.r 0 0 (ec 0 (ql 3) (ec 1 (ql 3) (ec 9 (ql 3) (ec 10 aN (ec 11 aN en))))) sn (λz=>⟨z.1.1,z.1.2.1,z.1.t.1,z.1.t.2.1,z.1.q.1⟩) (λx=>((x.t0,x.t1,x.t9,x.t10,x.t11,()),(()))))
def tN(p:um):af (af um):=
 bif J (p.t11<p.t10)then if 0<=p.t11/\p.t11<zR p.t9 then bif J (zR p.t1<=p.t11)then V (I)else if 0<=p.t11/\p.t11<zR p.t1 then bif bif J (GK p.t9[zD p.t11]! p.t1[zD p.t11]! =0)then G else O then V (I)else V (V (um.mk p.t0 p.t1 p.t9 p.t10 (aj (p.t11+1))))else I else I else V (I)
def asy(p:um):jM vi (afH) f251.ntmps 300 (aZ f251 0) .no (af um) (DY.pat p) (kOn DY.rd)=tN p:=aW
def LA:=bI (tN)
abbrev aAB:=Int
def d251:Td 0 aAB:= .c [] [4] (.r 0 0 (ec 4 aN en) sn (λz=>z.1.1) (λx=>((x,()),(()))))
def aBb:=(lc (ql 3) (lc (ql 3) ln))
def ap1:An:=(noTwo (.two (noTwo (DY.lp LA .no)) .no))
def axk:fe vi (afH) 0 300 251 (ap1):=b6 (l:=[(aZ f251 0,(DY.lp LA .no))]) func251 (bM aW) aW (aA ⟨DY.ok _,pE (asy)⟩ aH)
def adP(a0:aa Int)(a1:aa Int):af aAB:=
 match LA (um.mk a0 a1 a0 (zR a0) 0)with|I=>I|V r1=>bif J (r1.t11<r1.t10)then if 0<=r1.t11/\r1.t11<zR r1.t9 then bif J (zR r1.t1<=r1.t11)then V 1 else if 0<=r1.t11/\r1.t11<zR r1.t1 then bif bif J (GK r1.t9[zD r1.t11]! r1.t1[zD r1.t11]! =0)then G else O then V (GK r1.t9[zD r1.t11]! r1.t1[zD r1.t11]!)else I else I else I else bif J ((zR r1.t0:Int)<(zR r1.t1:Int))then V (-1)else V 0
def aGG(a0:aa Int)(a1:aa Int):bV vi (afH) 300 (ap1) 251 (aBb.c (a0,a1,())) [] 0 d251.rd=adP a0 a1:=aW
def aBL:=eL vi 251 G aBb d251 (λg=>adP g.1 g.2.1)
def agn{F:bq}(h:bA vi F):bA vi (aBL F):=ew (sc:=oF) di (dR ald axk (λ_=>aW) (λ_=>aW) λg=>aGG g.1 g.2.1) ⟨_,func251,aW,aW⟩ (λ_=>aW) (λ_=>aW) h
def ata:bq:=(aBL dw)
def akT:bA vi ata:=(agn aV)
abbrev awy:=Int
def d188:Td 0 awy:= .c [] [4] (.r 0 0 (ec 4 aN en) sn (λz=>z.1.1) (λx=>((x,()),(()))))
def aw4:=(lc (qg 47) (lc (qg 47) ln))
def apx:An:= .no
def ayE:fe vi (ata) 0 300 188 (apx):=b6 (l:=[]) func188 (bM aW) aW aH
def K5(a0:aB)(a1:aB):af awy:=
 match adP a0.aK a1.aK with|I=>I|V r1=>bif bif J (r1=0)then G else O then V (r1)else bif J (a0.aI<a1.aI)then V (-1)else bif J (a1.aI<a0.aI)then V (1)else V (0)
def aFc(a0:aB)(a1:aB):bV vi (ata) 300 (apx) 188 (aw4.c (a0,a1,())) [] 0 d188.rd=K5 a0 a1:=aW
def L0:=eL vi 188 G aw4 d188 (λg=>K5 g.1 g.2.1)
def sO{F:bq}(h:bA vi F):bA vi (L0 F):=ew (sc:=oF) di (dR akT ayE (λ_=>aW) (λ_=>aW) λg=>aFc g.1 g.2.1) ⟨_,func188,aW,aW⟩ (λ_=>aW) (λ_=>aW) h
def auW:bq:=(axK dw)
def aiO:bA vi auW:=(ag5 aV)
abbrev atM:=Int
def d196:Td 0 atM:= .c [] [4] (.r 0 0 (ec 4 aN en) sn (λz=>z.1.1) (λx=>((x,()),(()))))
def aDe:=(aU (aU ln))
def apa:An:= .no
def aAI:fe vi (auW) 0 300 196 (apa):=b6 (l:=[]) func196 (bM aW) aW aH
def Mv(a0:Int)(a1:Int):atM:=
 bif J (a0<a1)then-1 else Zb (J (a1<a0))
def aFt(a0:Int)(a1:Int):bV vi (auW) 300 (apa) 196 (aDe.c (a0,a1,())) [] 0 d196.rd=V (Mv a0 a1):=by
 refine Eq.trans (b:=(
  bif J (a0<a1)then V (-1)else V (Zb (J (a1<a0))):af atM)) aW ?_
 simp only[Mv,cu,cQ]
def azh:=eL vi 196 G aDe d196 (λg=>V (Mv g.1 g.2.1))
def ak7{F:bq}(h:bA vi F):bA vi (azh F):=ew (sc:=oF) di (dR aiO aAI (λ_=>aW) (λ_=>aW) λg=>aFt g.1 g.2.1) ⟨_,func196,aW,aW⟩ (λ_=>aW) (λ_=>aW) h
def adg:bq:=(azh dw)
def aiT:bA vi adg:=(ak7 aV)
structure uE where
 t5:Int
 (b0 b1:aB)
def Gn:Td 0 uE:= .c [] [2,3,5] (.r 0 2 (ec 2 (qp 0 0) (ec 3 (qp 1 0) (ec 5 aN en))) (sb 0 47 (lg 47) (sb 1 47 (lg 47) sn)) (λz=>⟨z.1.t.1,z.2.1,z.t.1⟩) (λx=>(((),(),x.t5,()),(x.b0,x.b1,()))))
def AM(p:uE):af (af uE):=
 match bif J (p.t5<zR p.b0.aK)then V (J (p.t5<zR p.b1.aK))else V G with|I=>I|V r1=>bif r1 then if 0<=p.t5/\p.t5<zR p.b0.aK then if 0<=p.t5/\p.t5<zR p.b1.aK then bif bif J ((((),(),p.t5,()),p.b0,p.b1,()).snd.fst.aK[(((),(),p.t5,()),p.b0,p.b1,()).fst.snd.snd.fst.toNat]! =(((),(),p.t5,()),p.b0,p.b1,()).snd.snd.fst.aK[(((),(),p.t5,()),p.b0,p.b1,()).fst.snd.snd.fst.toNat]!)then G else O then if 0<=p.t5/\p.t5<zR p.b0.aK then if 0<=p.t5/\p.t5<zR p.b1.aK then V (I)else I else I else V (V (uE.mk (aj (p.t5+1)) p.b0 p.b1))else I else I else V (I)
def Qm:An:=(.two (.two (.rb [] 17) .no) .no)
def asu(p:uE):jM vi (adg) f124.ntmps 300 (aZ f124 0) Qm (af uE) (Gn.pat p) (kOn Gn.rd)=AM p:=aW
def KI:=bI (AM)
abbrev azu:=Int
def d124:Td 0 azu:= .c [] [4] (.r 0 0 (ec 4 aN en) sn (λz=>z.1.1) (λx=>((x,()),(()))))
def azm:=(lc (qg 47) (lc (qg 47) ln))
def ao0:An:=(noTwo (.two (noTwo (Gn.lp KI Qm)) .no))
def aB8:∀f∈([]:aa Nat),bz (adg) f:=aH
def ayX:fe vi (adg) 0 300 124 (ao0):=b6 (l:=[(aZ f124 0,(Gn.lp KI Qm)),(.skip,(.rb [] 17))]) func124 (bM aW) aW (aA ⟨Gn.ok _,pE (asu)⟩ (aA aB8 aH))
def Zp(a0:aB)(a1:aB):af azu:=
 match KI (uE.mk 0 a0 a1)with|I=>I|V r2=>match bif J (r2.t5<zR r2.b0.aK)then V (J (r2.t5<zR r2.b1.aK))else V G with|I=>I|V r3=>bif r3 then if 0<=r2.t5/\r2.t5<zR r2.b0.aK then if 0<=r2.t5/\r2.t5<zR r2.b1.aK then bif bif J ((((),(),r2.t5,()),r2.b0,r2.b1,()).snd.fst.aK[(((),(),r2.t5,()),r2.b0,r2.b1,()).fst.snd.snd.fst.toNat]! =(((),(),r2.t5,()),r2.b0,r2.b1,()).snd.snd.fst.aK[(((),(),r2.t5,()),r2.b0,r2.b1,()).fst.snd.snd.fst.toNat]!)then G else O then if 0<=r2.t5/\r2.t5<zR r2.b0.aK then if 0<=r2.t5/\r2.t5<zR r2.b1.aK then V (Mv r2.b0.aK[zD r2.t5]! r2.b1.aK[zD r2.t5]!)else I else I else I else I else I else bif bif J ((zR r2.b0.aK:Int)=(zR r2.b1.aK:Int))then G else O then V (Mv (zR r2.b0.aK) (zR r2.b1.aK:Int))else V (Mv r2.b0.aI r2.b1.aI)
def aEF(a0:aB)(a1:aB):bV vi (adg) 300 (ao0) 124 (azm.c (a0,a1,())) [] 0 d124.rd=Zp a0 a1:=aW
def aGN:=eL vi 124 G azm d124 (λg=>Zp g.1 g.2.1)
def Xl{F:bq}(h:bA vi F):bA vi (aGN F):=ew (sc:=oF) di (dR aiT ayX (λ_=>aW) (λ_=>aW) λg=>aEF g.1 g.2.1) ⟨_,func124,aW,aW⟩ (λ_=>aW) (λ_=>aW) h
def agy:bq:=(QA (Zs dw))
def akW:bA vi agy:=(sC (AF aV))
abbrev az6:=aL×Int
def d214:Td 0 az6:= .c [] [6,7] (.r 0 1 (ec 6 (qp 0 0) (ec 7 aN en)) (sb 0 34 (lg 34) sn) (λz=>(z.2.1,z.1.2.1)) (λx=>(((),x.2,()),(x.1,()))))
def axZ:=(aU (aU (aU ln)))
def anx:An:=(noTwo (.two (.two (.rb [145] 19) .no) .no))
def aAm:∀f∈([145]:aa Nat),bz (agy) f:=(aA (jY (j4 bF)) aH)
def awo:fe vi (agy) 0 300 214 (anx):=b6 (l:=[(.skip,(.rb [145] 19))]) func214 (bM aW) aW (aA aAm aH)
def ai0(a0:Int)(a1:Int)(a2:Int):af az6:=
 match bif bif ji a0 then G else O then V (O)else bif bif ji a1 then G else O then V (O)else V (J (a2<1))with|I=>I|V r1=>bif r1 then V ((aL.mk (0) (0) (0),3))else match nJ a0 a1 a2 with|I=>I|V r2=>V ((r2,0))
def aFN(a0:Int)(a1:Int)(a2:Int):bV vi (agy) 300 (anx) 214 (axZ.c (a0,a1,a2,())) [] 0 d214.rd=ai0 a0 a1 a2:=aW
def aDB:=eL vi 214 G axZ d214 (λg=>ai0 g.1 g.2.1 g.t.1)
def al2{F:bq}(h:bA vi F):bA vi (aDB F):=ew (sc:=oF) di (dR akW awo (λ_=>aW) (λ_=>aW) λg=>aFN g.1 g.2.1 g.t.1) ⟨_,func214,aW,aW⟩ (λ_=>aW) (λ_=>aW) h
def aqv:bq:=(aDB dw)
def amh:bA vi aqv:=(al2 aV)
abbrev aAr:=aL×Int
def d137:Td 0 aAr:= .c [] [4,5] (.r 0 1 (ec 4 (qp 0 0) (ec 5 aN en)) (sb 0 34 (lg 34) sn) (λz=>(z.2.1,z.1.2.1)) (λx=>(((),x.2,()),(x.1,()))))
def ax2:=(aU (aU ln))
def apM:An:= .no
def azG:fe vi (aqv) 0 300 137 (apM):=b6 (l:=[]) func137 (bM aW) aW aH
def Qr(a0:Int)(a1:Int):af aAr:=
 match ai0 a0 a1 (1)with|I=>I|V r1=>V (r1)
def aGc(a0:Int)(a1:Int):bV vi (aqv) 300 (apM) 137 (ax2.c (a0,a1,())) [] 0 d137.rd=Qr a0 a1:=aW
def aDc:=eL vi 137 G ax2 d137 (λg=>Qr g.1 g.2.1)
def ahu{F:bq}(h:bA vi F):bA vi (aDc F):=ew (sc:=oF) di (dR amh azG (λ_=>aW) (λ_=>aW) λg=>aGc g.1 g.2.1) ⟨_,func137,aW,aW⟩ (λ_=>aW) (λ_=>aW) h
def F76:bq:=(aDc (afN dw))
def arx:bA vi F76:=(ahu (Xw aV))
structure Au where
 t5:List aL
 t7:Int
 t17:List Int
 (t18 t19:Int)
 t24:List bg
 (t25 t26:Int)
 b0:aS
def Pt:Td 0 Au:= .c [] [1,5,7,17,18,19,24,25,26] (.r 0 3 (ec 1 (qp 0 0) (ec 5 (qo 1) (ec 7 aN (ec 17 (qo 2) (ec 18 aN (ec 19 aN (ec 24 (ql 131) (ec 25 aN (ec 26 aN en))))))))) (sb 0 26 (lg 26) (sr 1 34 (sr 2 129 sn))) (λz=>⟨z.t.1,z.1.t.1,z.t.2.1,z.1.q.1,z.1.q.2.1,z.1.q.t.1,z.1.q.t.2.1,z.1.q.q.1,z.2.1⟩) (λx=>(((),(),x.t7,(),x.t18,x.t19,x.t24,x.t25,x.t26,()),(x.b0,x.t5,x.t17,()))))
def Ho(p:Au):af (af Au):=
 bif J (p.t26<p.t25)then if 0<=p.t26/\p.t26<zR p.t24 then bif J (p.t24[zD p.t26]!.bB=p.t7)then match Qr p.t24[zD p.t26]!.ah p.t24[zD p.t26]!.ag with|I=>I|V r3=>if(p.t5++[r3.fst]).length<=1073741824 then V (V (Au.mk (p.t5++[r3.fst]) p.t7 p.t17 p.t18 p.t19 p.t24 p.t25 (aj (p.t26+1)) p.b0))else I else V (V (Au.mk p.t5 p.t7 p.t17 p.t18 p.t19 p.t24 p.t25 (aj (p.t26+1)) p.b0))else I else V (I)
def aCH(p:Au):jM vi (F76) f76.ntmps 300 (aZ f76 1) .no (af Au) (Pt.pat p) (kOn Pt.rd)=Ho p:=aW
def Ni:=bI (Ho)
structure Ez where
 t5:List aL
 t17:List Int
 (t18 t19:Int)
 b0:aS
def OL:Td 0 Ez:= .c [] [1,5,17,18,19] (.t (bX.s 5 [] 34) (.c [] [1,5,17,18,19] (.r 0 3 (ec 1 (qp 0 0) (ec 5 (qo 1) (ec 17 (qo 2) (ec 18 aN (ec 19 aN en))))) (sb 0 26 (lg 26) (sr 1 34 (sr 2 129 sn))) (λz=>⟨z.t.1,z.t.2.1,z.1.t.2.1,z.1.q.1,z.2.1⟩) (λx=>(((),(),(),x.t18,x.t19,()),(x.b0,x.t5,x.t17,()))))))
def FX(p:Ez):af (af Ez):=
 bif J (p.t19<p.t18)then if 0<=p.t19/\p.t19<zR p.t17 then if 129=129/\zD p.t19<zR p.t17 then match Ni (Au.mk p.t5 p.t17[zD p.t19]! p.t17 p.t18 p.t19 p.b0.ai (zR p.b0.ai) 0 p.b0)with|I=>I|V r1=>bif J (r1.t26<r1.t25)then if 0<=r1.t26/\r1.t26<zR r1.t24 then bif J (r1.t24[zD r1.t26]!.bB=r1.t7)then match Qr r1.t24[zD r1.t26]!.ah r1.t24[zD r1.t26]!.ag with|I=>I|V r2=>if(r1.t5++[r2.fst]).length<=1073741824 then I else I else I else I else V (V (Ez.mk r1.t5 r1.t17 r1.t18 (aj (r1.t19+1)) r1.b0))else I else I else V (I)
def aaw:An:=(noTwo (noTwo (.two (noTwo (noTwo (Pt.lp Ni .no))) .no)))
def ax0(p:Ez):jM vi (F76) f76.ntmps 300 (aZ f76 0) aaw (af Ez) (OL.pat p) (kOn OL.rd)=FX p:=aW
def PB:=bI (FX)
abbrev E76:=(aa aL)×Int
def d76:Td 0 E76:= .c [] [2,3] (.t (bX.s 2 [] 34) (.c [] [2,3] (.r 0 1 (ec 2 (qo 0) (ec 3 aN en)) (sr 0 34 sn) (λz=>(z.2.1,z.1.2.1)) (λx=>(((),x.2,()),(x.1,()))))))
def A76:=(lc (qg 26) ln)
def aye:An:=(noTwo (noTwo (noTwo (.two (noTwo (OL.lp PB aaw)) .no))))
def aGz:fe vi (F76) 0 300 76 (aye):=b6 (l:=[(aZ f76 0,(OL.lp PB aaw)),(aZ f76 1,(Pt.lp Ni .no))]) func76 (bM aW) aW (aA ⟨OL.ok _,pE (ax0)⟩ (aA ⟨Pt.ok _,pE (aCH)⟩ aH))
def m76(a0:aS):af E76:=
 match ZS a0 with|I=>I|V r4=>bif bif J (r4=0)then G else O then V ([],r4)else match PB (Ez.mk [] [1,3] (2:Int) 0 a0)with|I=>I|V r5=>bif J (r5.t19<r5.t18)then if 0<=r5.t19/\r5.t19<zR r5.t17 then if 129=129/\zD r5.t19<zR r5.t17 then match Ni (Au.mk r5.t5 r5.t17[zD r5.t19]! r5.t17 r5.t18 r5.t19 r5.b0.ai (zR r5.b0.ai) 0 r5.b0)with|I=>I|V r6=>bif J (r6.t26<r6.t25)then if 0<=r6.t26/\r6.t26<zR r6.t24 then bif J (r6.t24[zD r6.t26]!.bB=r6.t7)then match Qr r6.t24[zD r6.t26]!.ah r6.t24[zD r6.t26]!.ag with|I=>I|V r7=>if(r6.t5++[r7.fst]).length<=1073741824 then I else I else I else I else I else I else I else V (r5.t5,0)
def c76(a0:aS):bV vi (F76) 300 (aye) 76 (A76.c (a0,())) [] 0 d76.rd=m76 a0:=aW
def e76:=eL vi 76 G A76 d76 (λg=>m76 g.1)
def adA{F:bq}(h:bA vi F):bA vi (e76 F):=ew (sc:=oF) di (dR arx aGz (λ_=>aW) (λ_=>aW) λg=>c76 g.1) ⟨_,func76,aW,aW⟩ (λ_=>aW) (λ_=>aW) h
def F39:bq:=(Y8 dw)
def asc:bA vi F39:=(Dc aV)
structure AH where
 t3:List aL
 t5:Int
 t10:List Int
 (t11 t12:Int)
 t17:List bg
 (t18 t19:Int)
 b0:aS
def NQ:Td 0 AH:= .c [] [1,3,5,10,11,12,17,18,19] (.r 0 3 (ec 1 (qp 0 0) (ec 3 (qo 1) (ec 5 aN (ec 10 (qo 2) (ec 11 aN (ec 12 aN (ec 17 (ql 131) (ec 18 aN (ec 19 aN en))))))))) (sb 0 26 (lg 26) (sr 1 34 (sr 2 129 sn))) (λz=>⟨z.t.1,z.1.t.1,z.t.2.1,z.1.q.1,z.1.q.2.1,z.1.q.t.1,z.1.q.t.2.1,z.1.q.q.1,z.2.1⟩) (λx=>(((),(),x.t5,(),x.t11,x.t12,x.t17,x.t18,x.t19,()),(x.b0,x.t3,x.t10,()))))
def Ip(p:AH):af (af AH):=
 bif J (p.t19<p.t18)then if 0<=p.t19/\p.t19<zR p.t17 then bif J (p.t17[zD p.t19]!.bB=p.t5)then match jm p.t17[zD p.t19]!.ah p.t17[zD p.t19]!.ag 1with|I=>I|V r3=>if(p.t3++[r3.fst]).length<=1073741824 then V (V (AH.mk (p.t3++[r3.fst]) p.t5 p.t10 p.t11 p.t12 p.t17 p.t18 (aj (p.t19+1)) p.b0))else I else V (V (AH.mk p.t3 p.t5 p.t10 p.t11 p.t12 p.t17 p.t18 (aj (p.t19+1)) p.b0))else I else V (I)
def aAk(p:AH):jM vi (F39) f39.ntmps 300 (aZ f39 1) .no (af AH) (NQ.pat p) (kOn NQ.rd)=Ip p:=aW
def O3:=bI (Ip)
structure Gx where
 t3:List aL
 t10:List Int
 (t11 t12:Int)
 b0:aS
def MS:Td 0 Gx:= .c [] [1,3,10,11,12] (.t (bX.s 3 [] 34) (.c [] [1,3,10,11,12] (.r 0 3 (ec 1 (qp 0 0) (ec 3 (qo 1) (ec 10 (qo 2) (ec 11 aN (ec 12 aN en))))) (sb 0 26 (lg 26) (sr 1 34 (sr 2 129 sn))) (λz=>⟨z.t.1,z.t.2.1,z.1.t.2.1,z.1.q.1,z.2.1⟩) (λx=>(((),(),(),x.t11,x.t12,()),(x.b0,x.t3,x.t10,()))))))
def Ee(p:Gx):af (af Gx):=
 bif J (p.t12<p.t11)then if 0<=p.t12/\p.t12<zR p.t10 then if 129=129/\zD p.t12<zR p.t10 then match O3 (AH.mk p.t3 p.t10[zD p.t12]! p.t10 p.t11 p.t12 p.b0.ai (zR p.b0.ai) 0 p.b0)with|I=>I|V r1=>bif J (r1.t19<r1.t18)then if 0<=r1.t19/\r1.t19<zR r1.t17 then bif J (r1.t17[zD r1.t19]!.bB=r1.t5)then match jm r1.t17[zD r1.t19]!.ah r1.t17[zD r1.t19]!.ag 1with|I=>I|V r2=>if(r1.t3++[r2.fst]).length<=1073741824 then I else I else I else I else V (V (Gx.mk r1.t3 r1.t10 r1.t11 (aj (r1.t12+1)) r1.b0))else I else I else V (I)
def adX:An:=(noTwo (noTwo (.two (noTwo (noTwo (NQ.lp O3 .no))) .no)))
def ayl(p:Gx):jM vi (F39) f39.ntmps 300 (aZ f39 0) adX (af Gx) (MS.pat p) (kOn MS.rd)=Ee p:=aW
def Nb:=bI (Ee)
abbrev E39:=aa aL
def d39:Td 0 E39:= .c [] [2] (.r 0 1 (ec 2 (qo 0) en) (sr 0 34 sn) (λz=>z.2.1) (λx=>(((),()),(x,()))))
def A39:=(lc (qg 26) ln)
def awE:An:=(noTwo (noTwo (.two (noTwo (MS.lp Nb adX)) .no)))
def aE8:fe vi (F39) 0 300 39 (awE):=b6 (l:=[(aZ f39 0,(MS.lp Nb adX)),(aZ f39 1,(NQ.lp O3 .no))]) func39 (bM aW) aW (aA ⟨MS.ok _,pE (ayl)⟩ (aA ⟨NQ.ok _,pE (aAk)⟩ aH))
def m39(a0:aS):af E39:=
 match Nb (Gx.mk [] [1,3] (2:Int) 0 a0)with|I=>I|V r4=>bif J (r4.t12<r4.t11)then if 0<=r4.t12/\r4.t12<zR r4.t10 then if 129=129/\zD r4.t12<zR r4.t10 then match O3 (AH.mk r4.t3 r4.t10[zD r4.t12]! r4.t10 r4.t11 r4.t12 r4.b0.ai (zR r4.b0.ai) 0 r4.b0)with|I=>I|V r5=>bif J (r5.t19<r5.t18)then if 0<=r5.t19/\r5.t19<zR r5.t17 then bif J (r5.t17[zD r5.t19]!.bB=r5.t5)then match jm r5.t17[zD r5.t19]!.ah r5.t17[zD r5.t19]!.ag 1with|I=>I|V r6=>if(r5.t3++[r6.fst]).length<=1073741824 then I else I else I else I else I else I else I else V (r4.t3)
def c39(a0:aS):bV vi (F39) 300 (awE) 39 (A39.c (a0,())) [] 0 d39.rd=m39 a0:=aW
def e39:=eL vi 39 G A39 d39 (λg=>m39 g.1)
def asA{F:bq}(h:bA vi F):bA vi (e39 F):=ew (sc:=oF) di (dR asc aE8 (λ_=>aW) (λ_=>aW) λg=>c39 g.1) ⟨_,func39,aW,aW⟩ (λ_=>aW) (λ_=>aW) h
def CR(v:bg):aL:=if v.ah=v.ag then⟨v.ah,v.ah,0⟩else⟨v.ah,v.ag,1⟩
def ZP{a b:Int}(h: -1048576<=a/\a<=b/\b<=1048576):aj (a+aj (aj ((aj (b-a)).tdiv 1)*1))=b:=by
 have w1:aj (b-a)=b-a:=aM;rw[w1,Int.tdiv_one,w1,Int.mul_one,w1,aM];omega
def ake{v:bg}(h: -1048576<=v.ah/\v.ah<=v.ag/\v.ag<=1048576):Qr v.ah v.ag=V (CR v,0):=by
 unfold Qr ai0 nJ ji iq CR;rw[ZP h];have d1:J (-1099511627776<=v.ah)=O:=om;have d2:J (v.ah<=1099511627776)=O:=om;have d3:J (-1099511627776<=v.ag)=O:=om;have d4:J (v.ag<=1099511627776)=O:=om;have d5:J (v.ag<v.ah)=G:=fO;by_cases he:v.ah=v.ag
 ·simp[d1,d2,d3,d4,d5,he]
 ·simp[d1,d2,d3,d4,d5,he]
def atY{v:bg}(h: -1048576<=v.ah/\v.ah<=v.ag/\v.ag<=1048576):jm v.ah v.ag 1=V (CR v,0):=by
 unfold jm pq CR;rw[ZP h];have d1:J (-1099511627776<=v.ah)=O:=om;have d2:J (v.ah<=1099511627776)=O:=om;have d3:J (-1099511627776<=v.ag)=O:=om;have d4:J (v.ag<=1099511627776)=O:=om;have d5:J (v.ag<v.ah)=G:=fO;by_cases he:v.ah=v.ag
 ·simp[d1,d2,d3,d4,d5,he]
 ·simp[d1,d2,d3,d4,d5,he]
def kQ(kind:Int)(l:aa bg):aa aL:=(l.filter λv=>J (v.bB=kind)).map CR
def Hw(kind:Int)(l:aa bg)(v:bg):kQ kind (l++[v])=if v.bB=kind then kQ kind l++[CR v]else kQ kind l:=by
 unfold kQ;rw[xk,zM];by_cases h:v.bB=kind<;>simp[h]
def uP(kind:Int)(l:aa bg):zR (kQ kind l)<=zR l:=by
 unfold kQ;rw[zu];exact yt _ _
def OC(f:aS)(hv:de f.ai)(hl:zR f.ai<=1000000)(acc:aa aL)(ha:zR acc<=1000000)(kind:Int)(ks:aa Int)(n i:Int):Ni ⟨acc,kind,ks,n,i,f.ai,(zR f.ai:Int),0,f⟩=V ⟨acc++kQ kind f.ai,kind,ks,n,i,f.ai,(zR f.ai:Int),(zR f.ai:Int),f⟩:=by
 obtain⟨v,e1,hV⟩:=cH (rnd:=Ho) (zR f.ai) (λj (b:aa aL)=>⟨b,kind,ks,n,i,f.ai,(zR f.ai:Int),(j:Int),f⟩) (λj b=>b=acc++kQ kind (f.ai.take j)) (λj b hj hb=>by
  have hw:=jG hj hl;have hm:=ake (hv _ (bu hj));have hlen:=uP kind (f.ai.take j);rw[zA]at hlen;have hi1:(j:Int)<(zR f.ai:Int):=aq;have hi0:(0:Int)<=(j:Int):=aq;rw[bG hj,Hw];by_cases hk:f.ai[j]!.bB=kind
  ·refine⟨acc++(kQ kind (f.ai.take j)++[CR f.ai[j]!]),?_,by rw[bJ hk]⟩;subst hb;have hl2:zR ((acc++kQ kind (f.ai.take j))++[CR f.ai[j]!])<=1073741824:=by
    rw[zh,zh,yh];omega
   unfold Ho;dsimp only;simp only[cZ,hi1,hi0,cI,dS,hk,hm,hl2,hw];rw[yS]
  ·refine⟨b,?_,by rw[bN hk];exact hb⟩;unfold Ho;dsimp only;simp only[cZ,cU,hi1,hi0,dS,hk,hw]) (λb _=>by unfold Ho;simp) (b:=acc) (by simp[kQ])
 rw[zH]at hV;rw[<-hV];exact e1
def Nc(f:aS)(hv:de f.ai)(hl:zR f.ai<=1000000)(acc:aa aL)(ha:zR acc<=1000000)(kind:Int)(ks:aa Int)(n i:Int):O3 ⟨acc,kind,ks,n,i,f.ai,(zR f.ai:Int),0,f⟩=V ⟨acc++kQ kind f.ai,kind,ks,n,i,f.ai,(zR f.ai:Int),(zR f.ai:Int),f⟩:=by
 obtain⟨v,e1,hV⟩:=cH (rnd:=Ip) (zR f.ai) (λj (b:aa aL)=>⟨b,kind,ks,n,i,f.ai,(zR f.ai:Int),(j:Int),f⟩) (λj b=>b=acc++kQ kind (f.ai.take j)) (λj b hj hb=>by
  have hw:=jG hj hl;have hm:=atY (hv _ (bu hj));have hlen:=uP kind (f.ai.take j);rw[zA]at hlen;have hi1:(j:Int)<(zR f.ai:Int):=aq;have hi0:(0:Int)<=(j:Int):=aq;rw[bG hj,Hw];by_cases hk:f.ai[j]!.bB=kind
  ·refine⟨acc++(kQ kind (f.ai.take j)++[CR f.ai[j]!]),?_,by rw[bJ hk]⟩;subst hb;have hl2:zR ((acc++kQ kind (f.ai.take j))++[CR f.ai[j]!])<=1073741824:=by
    rw[zh,zh,yh];omega
   unfold Ip;dsimp only;simp only[cZ,hi1,hi0,cI,dS,hk,hm,hl2,hw];rw[yS]
  ·refine⟨b,?_,by rw[bN hk];exact hb⟩;unfold Ip;dsimp only;simp only[cZ,cU,hi1,hi0,dS,hk,hw]) (λb _=>by unfold Ip;simp) (b:=acc) (by simp[kQ])
 rw[zH]at hV;rw[<-hV];exact e1
def o7(f:aS):aa aL:=kQ 1 f.ai++kQ 3 f.ai
def ac5(f:aS)(hv:de f.ai)(hl:zR f.ai<=1000):PB ⟨[],[1,3],2,0,f⟩=V ⟨o7 f,[1,3],2,2,f⟩:=by
 have b1:=uP 1 f.ai;have e1:=OC f hv aq [] (by simp) 1 [1,3] 2 0;have e2:=OC f hv aq (kQ 1 f.ai) aq 3 [1,3] 2 1;have w0:aj 1=1:=rfl;have w1:aj 2=2:=rfl;have r1:FX ⟨[],[1,3],2,0,f⟩=V (V ⟨kQ 1 f.ai,[1,3],2,1,f⟩):=by
  unfold FX;simp[e1,w0]
 have r2:FX ⟨kQ 1 f.ai,[1,3],2,1,f⟩=V (V ⟨o7 f,[1,3],2,2,f⟩):=by
  unfold FX;simp[e2,w1,o7]
 unfold PB;rw[bR r1,bR r2];exact ct λr=>by unfold FX;simp
def aez(f:aS)(hv:de f.ai)(hl:zR f.ai<=1000):Nb ⟨[],[1,3],2,0,f⟩=V ⟨o7 f,[1,3],2,2,f⟩:=by
 have b1:=uP 1 f.ai;have e1:=Nc f hv aq [] (by simp) 1 [1,3] 2 0;have e2:=Nc f hv aq (kQ 1 f.ai) aq 3 [1,3] 2 1;have w0:aj 1=1:=rfl;have w1:aj 2=2:=rfl;have r1:Ee ⟨[],[1,3],2,0,f⟩=V (V ⟨kQ 1 f.ai,[1,3],2,1,f⟩):=by
  unfold Ee;simp[e1,w0]
 have r2:Ee ⟨kQ 1 f.ai,[1,3],2,1,f⟩=V (V ⟨o7 f,[1,3],2,2,f⟩):=by
  unfold Ee;simp[e2,w1,o7]
 unfold Nb;rw[bR r1,bR r2];exact ct λr=>by unfold Ee;simp
def auw(f:aS)(h:fP f.bK+kH (f.au.map (·.aG))<=900)(hh:zR f.au<=1000000)(hvl:zR f.ai<=1000):m76 f=V (if pL f=0 then(o7 f,0)else([],pL f)):=by
 unfold m76;rw[Ul f h hh aq];dsimp only;by_cases hc:pL f=0
 ·rw[bJ hc,b7 hc];have hv:=mg hc;rw[show ((↑(2:Int):Int))=2 from rfl,ac5 f hv hvl];simp
 ·rw[bN hc,bY hc];rfl
def at5(f:aS)(hv:de f.ai)(hvl:zR f.ai<=1000):m39 f=V (o7 f):=by
 unfold m39;rw[show ((↑(2:Int):Int))=2 from rfl,aez f hv hvl];simp
def aeK:bq:=tF vi (e35 (e40 dw)) (λf=>ze f 35||ze f 40) 300 60
def UO:bA vi aeK:=⟨Ar (uG (tT aV)).ok (uG (tT aV)).nat 300 60,se (uG (tT (aV (P:=vi)))).nat 300 60⟩
def f45:aS:=⟨[⟨⟨#[120]⟩,1,0,3,0⟩],[],[⟨1,1,0,0,⟨15,0,[⟨24,0,[]⟩,⟨0,2,[]⟩]⟩,[],[],[]⟩]⟩
def v45:bT:=⟨[],G⟩
def ahY:aS->Bool
 |⟨[a],[],[⟨d,c,v,n,⟨o,m,[⟨o1,n1,[]⟩,⟨o2,n2,[]⟩]⟩,[],[],[]⟩]⟩=>J (a=⟨⟨#[120]⟩,1,0,3,0⟩)&&J ([d,c,v,n,o,m,o1,n1,o2,n2]=[1,1,0,0,15,0,24,0,0,2])
 |_=>G
def akA{f:aS}(h:ahY f=O):f=f45:=by
 unfold ahY at h;split at h
 ·simp only[zi,decide_eq_true_eq,List.cons.injEq,and_true]at h;obtain⟨rfl,rfl,rfl,rfl,rfl,rfl,rfl,rfl,rfl,rfl,rfl⟩:=h;rfl
 ·cases h
def Zq{W:Type}(T:aa (aa aL×W))(g:aS×bT×aa aL×Unit):af W:=bif ahY g.1&&J (g.2.1=v45)then(T.find? λp=>J (p.1=g.2.2.1)).map (·.2)else I
def UQ{W:Type}{T:aa (aa aL×W)}{g:aS×bT×aa aL×Unit}{b:W}(h:Zq T g=V b):∃x,(x,b)∈T/\g=(f45,v45,x,()):=by
 obtain⟨f,v,x,_⟩:=g;unfold Zq at h;cases k:ahY f&&J (v=v45)with
 |false=>simp only[k]at h;cases h
 |true=>
  simp only[k,cI]at h;rw[zi,decide_eq_true_eq]at k;obtain⟨p,h1,rfl⟩:=zl.1 h;have h2:=List.find?_some h1;rw[decide_eq_true_eq]at h2;exact⟨x,h2▸List.mem_of_find?_eq_some h1,by rw[akA k.1,k.2]⟩
def t25:aa (aa aL×Int×Int):=[([⟨0,3,1⟩],2,0),([⟨0,1,1⟩],1,0),([⟨2,3,1⟩],1,0)]
def t26:aa (aa aL×aB×Bool×Int):=[([⟨0,3,1⟩],⟨[],0⟩,G,0),([⟨0,1,1⟩],⟨[1],0⟩,O,0),([⟨2,3,1⟩],⟨[0],0⟩,O,0)]
def aA6:fe vi aeK 0 300 25 .no:=b6 (l:=[]) func25 (bM aW) aW aH
def aDy:fe vi aeK 0 300 26 .no:=b6 (l:=[]) func26 (bM aW) aW aH
def k25:(t25.map λp=>bV vi aeK 300 .no 25 (A25.c (f45,v45,p.1,())) [] 0 d25.rd)=t25.map λp=>V p.2:=aW
def k26:(t26.map λp=>bV vi aeK 300 .no 26 (A26.c (f45,v45,p.1,())) [] 0 d26.rd)=t26.map λp=>V p.2:=aW
def aGW:HL vi 25 A25 d25 (Zq t25):=λg b hb=>by
 obtain⟨x,h1,rfl⟩:=UQ hb;exact(jQ (out:=λp=>fK vi 25 0 (d25.pat p)) (p:=b) UO aA6 d25.ok (λp=>aW) (iG aW) (ij aW) (List.map_inj_left.1 k25 _ h1)).2
def aGf:HL vi 26 A26 d26 (Zq t26):=λg b hb=>by
 obtain⟨x,h1,rfl⟩:=UQ hb;exact(jQ (out:=λp=>fK vi 26 0 (d26.pat p)) (p:=b) UO aDy d26.ok (λp=>aW) (iG aW) (ij aW) (List.map_inj_left.1 k26 _ h1)).2
def x25:bq->bq:=eL vi 25 G A25 d25 (Zq t25)
def x26:bq->bq:=eL vi 26 G A26 d26 (Zq t26)
def atv{F:bq}(h:bA vi F):bA vi (x25 F):=ew (sc:=oF) di aGW ⟨_,func25,aW,aW⟩ (λ_=>aW) (λ_=>aW) h
def asd{F:bq}(h:bA vi F):bA vi (x26 F):=ew (sc:=oF) di aGf ⟨_,func26,aW,aW⟩ (λ_=>aW) (λ_=>aW) h
def F45:bq:=x25 (x26 (e35 (e40 dw)))
def abB:bA vi F45:=atv (asd (uG (tT aV)))
abbrev E45:=Bool
def d45:Td 0 E45:= .c [] [0] (.r 0 0 (ec 0 qb en) sn (λz=>z.1.1) (λx=>((x,()),(()))))
def A45:=ln
def m45:E45:=O
def awv:Prop:=HL vi 45 A45 d45 (λ_=>V m45)
def e45:=eL vi 45 G A45 d45 (λ_=>V m45)
def ahR(hv:awv){F:bq}(h:bA vi F):bA vi (e45 F):=ew (sc:=oF) di hv ⟨_,func45,aW,aW⟩ (λ_=>aW) (λ_=>aW) h
def abw{F:bq}{f:Nat}(h:bz F f):bz (e45 F) f:=gu h (λ_=>aW)
def t45:tF vi F45 (λf=>ze f 25||ze f 26||ze f 35||ze f 40) 300 60 Bool 45 [] [] 0 (RV Sf)=V O:=aW
def Sy{P:Program}{f:FuncId}{xs:aa AV}{d:AV}(h:Iv.Fn P f xs [] (λa s=>a=d/\s=[]))(ha:∀S:Gh,xs.map (b9.sub S)=xs)(hd:∀S:Gh,d.sub S=d):Mo P f xs [] 0 ⟨d,[],0⟩:=λS=>by
 rw[ha S];exact h.mono λa s ⟨h1,h2⟩=>⟨S,λ_ _=>⟨rfl,rfl⟩,by rw[h1];exact(hd S).symm,by rw[h2];exact List.Perm.refl _⟩
def arC:fK vi 45 0 (d45.pat m45)=⟨.b O,[],0⟩:=aW
def aG4:awv:=λg b hb=>by
 cases hb;rw[arC];exact Sy (TM (Ar (P:=vi) abB.ok abB.nat 300 60) P0.b rfl (λd hd=>by cases hd) t45).2 (λ_=>rfl) (λS=>ku 2 aW)
def avi:bq:=(e21 dw)
def ajD:bA vi avi:=(aqP aV)
abbrev aB5:=Int
def d119:Td 0 aB5:= .c [] [6] (.r 0 0 (ec 6 aN en) sn (λz=>z.1.1) (λx=>((x,()),(()))))
def aza:=(lc (qg 26) (lc (qg 29) (lc (ql 34) ln)))
def aol:An:= .no
def axr:fe vi (avi) 0 300 119 (aol):=b6 (l:=[]) func119 (bM aW) aW aH
def ajp(a0:aS)(a1:bT)(a2:aa aL):af aB5:=
 match m21 a0 a1 a2 with|I=>I|V r1=>V (r1)
def aEm(a0:aS)(a1:bT)(a2:aa aL):bV vi (avi) 300 (aol) 119 (aza.c (a0,a1,a2,())) [] 0 d119.rd=ajp a0 a1 a2:=aW
def ays:=eL vi 119 G aza d119 (λg=>ajp g.1 g.2.1 g.t.1)
def ahQ{F:bq}(h:bA vi F):bA vi (ays F):=ew (sc:=oF) di (dR ajD axr (λ_=>aW) (λ_=>aW) λg=>aEm g.1 g.2.1 g.t.1) ⟨_,func119,aW,aW⟩ (λ_=>aW) (λ_=>aW) h
def F55:bq:=(ays dw)
def aqu:bA vi F55:=(ahQ aV)
abbrev E55:=Int
def d55:Td 0 E55:= .c [] [4] (.r 0 0 (ec 4 aN en) sn (λz=>z.1.1) (λx=>((x,()),(()))))
def A55:=(lc (qg 26) (lc (qg 29) ln))
def awG:An:=(noTwo (.two (noTwo (.two (.rb [] 14) .no)) .no))
def aH7:∀f∈([]:aa Nat),bz (F55) f:=aH
def aFK:fe vi (F55) 0 300 55 (awG):=b6 (l:=[(.skip,(.rb [] 14))]) func55 (bM aW) aW (aA aH7 aH)
def m55(a0:aS)(a1:bT):af E55:=
 match ajp a0 a1 []with|I=>I|V r1=>match bif bif J (r1=0)then G else O then V (bif J (r1=2)then G else O)else V (G)with|I=>I|V r2=>bif r2 then V (r1)else V (0)
def c55(a0:aS)(a1:bT):bV vi (F55) 300 (awG) 55 (A55.c (a0,a1,())) [] 0 d55.rd=m55 a0 a1:=aW
def e55:=eL vi 55 G A55 d55 (λg=>m55 g.1 g.2.1)
def atB{F:bq}(h:bA vi F):bA vi (e55 F):=ew (sc:=oF) di (dR aqu aFK (λ_=>aW) (λ_=>aW) λg=>c55 g.1 g.2.1) ⟨_,func55,aW,aW⟩ (λ_=>aW) (λ_=>aW) h
def Ed{F:bq}{f:Nat}(h:bz F f):bz (e55 F) f:=gu h (λ_=>aW)
def sD{α:Type}{c:Nat->α->Int}{k:Int}(hk:k≠0)(h:∀i x,c i x≠k):∀(l:aa α) (i:Nat),cz c l i≠k
 |[],_=>by unfold cz;omega
 |x::l,i=>by
  unfold cz;have:=sD hk h l (i+1);have:=h i x;split<;>assumption
def Nl(vars:aa bg)(inp:Bool)(t:az):fG vars inp t≠2:=by unfold fG;grind
def vm(f:aS):∀(top:Bool) (l:aa aC),cc f top l≠2
 |_,[]=>by rw[cc];decide
 |top,s::l=>by
  rw[cc];have h1:=vm f G s.aQ;have h2:=vm f G s.aX;have h3:=vm f top l;have h0:o6 f (top&&l.isEmpty) s≠2:=by
   have:=Nl f.ai G s.aG;unfold o6;grind
  grind
termination_by _ l=>zf l
decreasing_by
 all_goals first|exact(bw (zk ..)).1|exact(bw (zk ..)).2|exact ei _ _
def aqL(f:aS):pL f≠2:=by
 have h1:jJ f.ai≠2:=by
  have:=sD (c:=mY f.ai) (k:=2) (by decide) (λi x=>by unfold mY;grind) f.ai 0;unfold jJ;grind
 have h2:=sD (c:=kR f) (k:=2) (by decide) (λi x=>by have:=Nl f.ai O x.aG;unfold kR;grind) f.au 0;have h3:=vm f O f.bK;unfold pL;grind
def cdA(f:aS)(v:bT):Int:=if pL f≠0 then pL f else if zR v.bf≠(f.ai.filter (kd 2)).length then 1 else cz (jA v.bf) (f.ai.filter (kd 2)) 0
def au2(f:aS)(v:bT):cdA f v≠2:=by
 have:=aqL f;have:=sD (c:=jA v.bf) (k:=2) (by decide) (λi x=>by
  unfold jA;cases J (v.bf[i]! <x.ah)<;>cases J (x.ag<v.bf[i]!)<;>decide) (f.ai.filter (kd 2)) 0
 unfold cdA;grind
def afW(f:aS)(v:bT):Aw f v []=cdA f v\/(cdA f v=0/\Aw f v []=2):=by
 unfold Aw cdA;by_cases h1:pL f=0
 case neg=>simp[h1]
 by_cases h2:zR v.bf=zR (f.ai.filter (kd 2))
 case neg=>simp[h1,h2]
 by_cases h3:cz (jA v.bf) (f.ai.filter (kd 2)) 0=0
 case neg=>simp[h1,h2,h3]
 by_cases h4:zR (eC f.ai)=0
 ·have h5:=xG.1 h4;simp[h1,h2,h3,h5,cz]
 ·have h5:¬(0:Nat)=zR (eC f.ai):=λh=>h4 h.symm;simp[h1,h2,h3,h5]
def awU{f:aS}(h:fP f.bK+kH (f.au.map (·.aG))<=900)(hh:zR f.au<=1000)(hl:zR f.ai<=1000)(v:bT):m55 f v=V (cdA f v):=by
 unfold m55 ajp;rw[ay4 h hh hl];have:=au2 f v;rcases afW f v with k|⟨k1,k2⟩
 ·rw[k];by_cases c0:cdA f v=0<;>simp[c0,this]
 ·rw[k1,k2];rfl
def Hj{α:Type}[Inhabited α]{c:Nat->α->Int}:∀(l:aa α) (i:Nat),(∀j,j<zR l->c (i+j) l[j]! =0)->cz c l i=0
 |[],_,_=>rfl
 |x::l,i,h=>by
  unfold cz;have h0:=h 0 (by simp);rw[yj]at h0;rw[bJ (show c i x=0 from h0)];refine Hj l (i+1) λj hj=> ?_;have:=h (j+1) (by simpa using hj);rw[show i+1+j=i+(j+1)by omega];simpa using this
def ae8(f:aS):o7 f=(eC f.ai).map CR:=by
 unfold o7 kQ eC;rw[zM];rfl
def TN{f:aS}(hc:pL f=0){j:Nat}(hj:j<zR (eC f.ai)): -1048576<=(eC f.ai)[j]!.ah/\(eC f.ai)[j]!.ah<=(eC f.ai)[j]!.ag/\(eC f.ai)[j]!.ag<=1048576:=by
 refine mg hc _ ?_;have:=bu hj;unfold eC at this;rcases zP.1 this with k|k<;>exact(z8.1 k).1
def abE{l:aa Int}(h:zR l<=1000):WK l=V l:=by unfold WK;rw[gV]
def iw:aa Int->aa Int->Int
 |[],[]=>0
 |[],_::_=> -1
 |_::_,[]=>1
 |x::a,y::b=>if x<y then-1 else if y<x then 1 else iw a b
def qy:∀a b,iw b a= -iw a b
 |[],[]=>rfl
 |[],_::_=>rfl
 |_::_,[]=>rfl
 |x::a,y::b=>by
  have:=qy a b;unfold iw;split<;>split<;>(try split)<;>omega
def DG:∀a b c,iw a b<=0->iw b c<=0->iw a c<=0
 |[],[],_,_,h=>h
 |[],_::_,[],_,h=>by unfold iw at h;omega
 |[],_::_,_::_,_,_=>by unfold iw;omega
 |_::_,[],_,h,_=>by unfold iw at h;omega
 |_::_,_::_,[],_,h=>by unfold iw at h;omega
 |x::a,y::b,z::c,h,k=>by
  have:=DG a b c;simp only[iw]at h k ⊢;split at h<;>split at k<;>split<;>(try split)<;>(try split at h)<;>(try split at k)<;>omega
def sI:∀a b,iw a b=0->a=b
 |[],[],_=>rfl
 |[],_::_,h=>by unfold iw at h;omega
 |_::_,[],h=>by unfold iw at h;omega
 |x::a,y::b,h=>by
  unfold iw at h;split at h
  ·omega
  ·split at h
   ·omega
   ·rw[sI a b h,show x=y by omega]
def Ib:∀a,iw a a=0
 |[]=>rfl
 |x::a=>by unfold iw;rw[Ib a];simp
def dN(x y:aB):Int:=if iw x.aK y.aK≠0 then iw x.aK y.aK else if x.aI<y.aI then-1 else if y.aI<x.aI then 1 else 0
def dQ(a b:aB):dN b a= -dN a b:=by
 have:=qy a.aK b.aK;unfold dN;grind
def mO(a b c:aB)(h:dN a b<=0)(k:dN b c<=0):dN a c<=0:=by
 have h1:=DG a.aK b.aK c.aK;have h2:=sI a.aK b.aK;have h3:=sI b.aK c.aK;have h4:=qy a.aK c.aK;have h5:=DG c.aK a.aK b.aK;have h6:=DG b.aK c.aK a.aK;have h7:=qy b.aK c.aK;have h8:=qy a.aK b.aK;unfold dN at*;by_cases e1:iw a.aK b.aK=0
 ·have:=h2 e1;rw[bN aq]at h;rw[this];by_cases e2:iw b.aK c.aK=0
  ·rw[bN aq]at k;rw[bN aq];split at h<;>split at k<;>split<;>(try split at h)<;>(try split at k)<;>(try split)<;>omega
  ·rw[bJ e2]at k;rw[bJ e2];exact k
 ·rw[bJ e1]at h;by_cases e2:iw b.aK c.aK=0
  ·rw[<-h3 e2,bJ e1];exact h
  ·rw[bJ e2]at k;have h9:=h1 h k;have:iw a.aK c.aK≠0:=λe=>by
    have:=h5 aq h;omega
   rw[bJ this];exact h9
def rR{a b:aB}(h:dN a b=0):a=b:=by
 unfold dN at h;split at h
 ·exact ep h ‹_›
 ·have e:=sI a.aK b.aK aq;split at h
  ·omega
  ·split at h
   ·omega
   ·obtain⟨a1,a2⟩:=a;obtain⟨b1,b2⟩:=b;simp only at*;rw[e,show a2=b2 by omega]
def rU(a:aB):dN a a=0:=by unfold dN;simp[Ib]
def amF(x y:Int):GK x y=if x<y then-1 else if y<x then 1 else 0:=by
 unfold GK GO;simp only[cU,uU];by_cases h:x<y
 ·simp[h]
 ·by_cases k:y<x<;>simp[h,k]
def wI{i n:Nat}(h:i<n)(hn:n<=9223372036854775807):aj ((i:Int)+1)=((i+1:Nat):Int):=by rw[aM aq aq];omega
def amw(a b:aa Int)(ha:zR a<=9223372036854775807):adP a b=V (iw a b):=by
 obtain⟨step,hs⟩:∃step:Nat->Unit->Int->Unit ⊕ Int,step=λi _ x=>if zR b<=i then .inr 1 else if GK x b[i]!≠0 then .inr (GK x b[i]!)else .inl ():=⟨_,rfl⟩
 obtain⟨fin,hf⟩:∃fin:Unit->af Int,fin=λ_=>V (if zR a<zR b then-1 else 0):=⟨_,rfl⟩;obtain⟨i,v,e1,-,hI⟩:=Va (rnd:=tN) a (λi (_:Unit)=>⟨a,b,a,(zR a:Int),(i:Int)⟩) step V fin (λ_ _=>True) (λi v hi _=>by
  have hw:=wI hi ha;have i1:(i:Int)<(zR a:Int):=aq;have i2:(0:Int)<=(i:Int):=aq;rw[hs];refine⟨λb' h=>⟨?_,trivial⟩,λr h=> ?_⟩<;>dsimp only at h
  ·split at h
   ·cases h
   ·split at h
    ·cases h
    ·rename_i g1 g2;have g3:¬(zR b:Int)<=(i:Int):=aq;have g4:(i:Int)<(zR b:Int):=aq;unfold tN;simp only[cZ,cU,i1,i2,g3,g4,dS,hw,Decidable.not_not.1 g2]
  ·split at h
   ·rename_i g1;have g3:(zR b:Int)<=(i:Int):=aq;unfold tN;simp only[cZ,i1,i2,g3,cI,dS]
   ·split at h
    ·rename_i g1 g2;have g3:¬(zR b:Int)<=(i:Int):=aq;have g4:(i:Int)<(zR b:Int):=aq;unfold tN;simp only[cZ,cU,i1,i2,g3,g4,dS,g2]
    ·cases h) (λv _=>by unfold tN;simp) (b:=()) trivial
 have e1':LA ⟨a,b,a,(zR a:Int),0⟩=V ⟨a,b,a,(zR a:Int),(i:Int)⟩:=e1;have key:∀(l:aa Int) (k:Nat),k<=zR b->zR a=k+zR l->Py step V fin l k ()=V (iw l (b.drop k)):=by
  intro l;induction l with
  |nil=>
   intro k hk hl;simp only[Py,hf];simp only[yB,yj]at hl;by_cases h:k=zR b
   ·rw[h,wN,bN aq];rfl
   ·rw[yN aq,bJ aq];rfl
  |cons x l ih=>
   intro k hk hl;simp only[yT]at hl;by_cases h:k=zR b
   ·rw[oD (r:=1) (by rw[hs];simp[h]),h,wN];rfl
   ·have hk':k<zR b:=aq;rw[yN hk'];have e:=amF x b[k]!;have eb:b[k]! =b[k]:=getElem!_pos b k hk';rw[eb]at e;unfold iw;by_cases h1:x<b[k]
    ·rw[oD (r:= -1) (by rw[hs];simp[show ¬b.length<=k by omega,e,eb,h1]),bJ h1]
    ·by_cases h2:b[k]<x
     ·rw[oD (r:=1) (by rw[hs];simp[show ¬b.length<=k by omega,e,eb,h1,h2]),bN h1,bJ h2]
     ·rw[sy (b':=()) (by rw[hs];simp[show ¬b.length<=k by omega,e,eb,h1,h2]),bN h1,bN h2];exact ih (k+1) aq aq
 have hk:=key a 0 aq aq;rw[xI]at hk;rw[<-hk];unfold adP;simp only[e1'];rcases hI with ⟨rfl,hg⟩|⟨hi,r,hr,hg⟩
 ·rw[hg,hf];simp only[yg,CC,cv];by_cases h:zR a<zR b
  ·rw[bJ h,b7 (by omega:(zR a:Int)<(zR b:Int))];rfl
  ·rw[bN h,bY (by omega:¬(zR a:Int)<(zR b:Int))];rfl
 ·rw[hg];have i1:(i:Int)<(zR a:Int):=aq;have i2:(0:Int)<=(i:Int):=aq;rw[hs]at hr;simp only at hr;split at hr
  ·rename_i g1;have g3:(zR b:Int)<=(i:Int):=aq;simp only[cZ,i1,i2,g3,cI,dS];cases hr;rfl
  ·split at hr
   ·rename_i g1 g2;have g3:¬(zR b:Int)<=(i:Int):=aq;have g4:(i:Int)<(zR b:Int):=aq;simp only[cZ,cU,i1,i2,g3,g4,dS,g2];cases hr;rfl
   ·cases hr
def DC(a b:aB)(ha:zR a.aK<=9223372036854775807):K5 a b=V (dN a b):=by
 unfold K5 dN;rw[amw _ _ ha];dsimp only;by_cases h:iw a.aK b.aK=0
 ·by_cases h1:a.aI<b.aI
  ·simp[h,h1]
  ·by_cases h2:b.aI<a.aI<;>simp[h,h1,h2]
 ·simp[h]
def pH:aB->aa aB->aa aB
 |_,[]=>[]
 |p,y::l=>if dN y p=0 then pH y l else y::pH y l
def vM:aa aB->aa aB
 |[]=>[]
 |x::l=>x::pH x l
end Go.Proofs.YtnfljbehcffmcaaGreat
end
noncomputable section
namespace Go.Proofs.YtnfljbehcffmcaaGreat
open Go Go.Iv Go.Sort Go.Proofs
abbrev Ob(A:Nat->Prop)(w:World):={p:aB×aa Value//p.2.length=2/\bO A w (uni.cells 47 p.1) p.2}
section
variable {A:Nat->Prop} {w:World}
def aos{o:aB}{us:aa Value}(h:zR us=2/\bO A w (uni.cells 47 o) us):∃u v,us=[u,v]/\Rel A w (.sl 3 o.aK) u/\v= .int .i64 o.aI:=by
 obtain⟨h1,h2⟩:=h
 match us,h1 with
 |[u,v],_=>exact⟨u,v,rfl,h2.2 0 _ _ rfl rfl,(h2.2 1 (.lit (.int .i64 o.aI)) v rfl rfl).cM⟩
def ZZ{o:aB}{u:Value}(h:Rel A w (.sl 3 o.aK) u):bO A w (uni.cells 47 o) [u, .int .i64 o.aI]:=
 ⟨rfl,λj a v h1 h2=>by
  match j with
  |0=>cases h1;cases h2;exact h
  |1=>cases h1;cases h2;exact .lit _
  |j+2=>cases h1⟩
def azU:Rel A w (.sl 3 ([]:aa Int)) (.slice none 0 0):=Rel.sl (U:=uni) 3 [] none 0 (λ_ _=> .int .i64 0) (yV _) (zm _) (λi hi=>by cases hi) (λi hi=>by cases hi) (λi j a hi=>by cases hi)
instance:Inhabited (Ob A w):=⟨⟨(⟨[],0⟩,[.slice I 0 0, .int .i64 0]),rfl,ZZ azU⟩⟩
def nM(x:Ob A w):aa Value:=x.1.2
def ki(x:Ob A w):zR (nM x)=2:=x.2.1
def Dw(x:Ob A w):∀v∈nM x,v.oneCell'=O:=λv hv=>by
 obtain⟨u,t,h1,h2,h3⟩:=aos x.2;unfold nM at hv;rw[h1]at hv;rcases zy.1 hv with rfl|hv
 ·cases h2;rfl
 ·rw[zo.1 hv,h3];rfl
def anA(x:Ob A w):zR x.1.1.aK<=9223372036854775807:=by
 obtain⟨u,t,h1,h2,h3⟩:=aos x.2;generalize x.1.1.aK=l at h2;cases h2 with
 |sl t l p cap u hl hcap hz hc hr=>exact hl
def H8{α:Type}[Inhabited α](enc:α->aa Value)(d:Array α){us:aa Value}(h1:zR us=d.size*2)(h:∀i,i<d.size->enc d[i]! =(us.drop (i*2)).take 2):flatK enc 2 d=us.toArray:=by
 refine ext_get! (by simp[h1]) λt ht=> ?_;have ht:t<d.size*2:=by simpa using ht
 rw[get_flatK _ _ _ _ ht,h _ aq];have e:(us.toArray:Array Value)[t]! =us[t]! :=by simp
 rw[e,getElem!_pos us t aq,getElem!_pos _ _ (by simp;omega),xJ,xS]
 congr 1
 omega
def ID{α:Type}[Inhabited α]{enc:α->aa Value}{d:Array α}{am:World}{g:Nat}{cur:Array Value}{T:TypeId}{us:aa Value}(hb:am.heap[g]? =V (.cells cur T (0,0)))(hf:flatK enc 2 d=us.toArray)(hc:cur.toList.take us.length=us):HoldsK enc 2 am g 0 d:=by
 unfold HoldsK;rw[hf];intro j hj;have hj':j<zR us:=by simpa using hj
 refine⟨?_,by simp[World.frozen?,hb]⟩;have h1:(cur.toList.take (zR us))[j]? =us[j]? :=by rw[hc]
 rw[wz hj']at h1;simp only[World.cell?,hb,ym];simp only[vg,yx,GQ];rw[<-wO,h1];simp[hj']
def tQ{α:Type}[Inhabited α]{enc:α->aa Value}{am:World}{g m:Nat}{dk:Array α}{os:Array Obj}{cur:Array Value}{T:TypeId}(hb:am.heap[g]? =V (.cells cur T (0,0))):
  (sortWorldK enc 2 am g 0 m dk os).heap[g]? =V (.cells (putCells id 0 (flatK enc 2 dk) cur) T (0,0)):=by
 have hg:g<am.heap.size:=(y9.1 hb).1;unfold sortWorldK putRowK;rw[heap_grow_old _ _ (by simpa using hg)];simp[putRow,mapBlock,Sort.ahead,vh,hb,onCells]
def rL{α:Type}[Inhabited α]{enc:α->aa Value}{am:World}{g m:Nat}{dk:Array α}{os:Array Obj}{b:Nat}(hb:b<am.heap.size)(hne:b≠g):
  (sortWorldK enc 2 am g 0 m dk os).heap[b]? =am.heap[b]? :=by
 unfold sortWorldK putRowK;rw[heap_grow_old _ _ (by simpa using hb)];simp[putRow,mapBlock,Sort.ahead,vh,Ne.symm hne]
def SR{α:Type}[Inhabited α]{enc:α->aa Value}{am:World}{g m:Nat}{dk:Array α}{os:Array Obj}:am.heap.size<=(sortWorldK enc 2 am g 0 m dk os).heap.size:=size_sortWorldK_c enc 2 am g 0 m dk os
def Ox{α:Type}[Inhabited α]{enc:α->aa Value}{am:World}{g m:Nat}{dk:Array α}{os:Array Obj}:Kp [g] am (sortWorldK enc 2 am g 0 m dk os):=
 ⟨rfl,rfl,rfl,Nat.le_add_right _ _,SR,λk hk hn=>rL hk (by simpa using hn)⟩
def Nq{F cur:Array Value}(h:F.size<=cur.size):(putCells id 0 F cur).toList.take F.size=F.toList:=by
 apply List.ext_getElem?;intro j;by_cases hj:j<F.size
 ·rw[wz hj,wO];simp[putCells,hj,show j<cur.size by omega]
 ·rw[List.getElem?_take_eq_none aq,wF (by simp;omega)]
def agU{am W':World}(h:Kp [] am W'):∃q os,W'=grow (am.drewN q) os:=by
 refine⟨W'.drawn-am.drawn,W'.heap.extract am.heap.size W'.heap.size,?_⟩;have e1:=h.os;have e2:=h.tape;have e3:=h.output;have e4:=h.drawn
 have e5:W'.heap=am.heap++W'.heap.extract am.heap.size W'.heap.size:=by
  apply Array.ext_getElem?;intro k;rw[Array.getElem?_append];have hs:=h.size;split
  ·exact h.block k (by assumption) (by simp)
  ·rename_i hk;rw[Array.getElem?_extract];by_cases h2:k<W'.heap.size
   ·rw[bJ aq,show am.heap.size+(k-am.heap.size)=k by omega]
   ·rw[bN aq,Array.getElem?_eq_none aq]
 obtain⟨hp,tp,dr,os,ot⟩:=am;obtain⟨hp',tp',dr',os',ot'⟩:=W';simp only at e1 e2 e3 e4;simp only[grow,World.drewN,World.mk.injEq];exact⟨e5,e2,aq,e1,e3⟩
def as4:bq:=(L0 dw)
def ama:bA vi as4:=(sO aV)
abbrev aCZ:=Bool
def d252:Td 0 aCZ:= .c [] [4] (.r 0 0 (ec 4 qb en) sn (λz=>z.1.1) (λx=>((x,()),(()))))
def aDs:=(lc (qg 47) (lc (qg 47) ln))
def apd:An:= .no
def aBQ:fe vi (as4) 0 300 252 (apd):=b6 (l:=[]) func252 (bM aW) aW aH
def aj5(a0:aB)(a1:aB):af aCZ:=
 match K5 a0 a1 with|I=>I|V r1=>V (J (r1=0))
def aGb(a0:aB)(a1:aB):bV vi (as4) 300 (apd) 252 (aDs.c (a0,a1,())) [] 0 d252.rd=aj5 a0 a1:=aW
def auz:=eL vi 252 G aDs d252 (λg=>aj5 g.1 g.2.1)
def ajG{F:bq}(h:bA vi F):bA vi (auz F):=ew (sc:=oF) di (dR ama aBQ (λ_=>aW) (λ_=>aW) λg=>aGb g.1 g.2.1) ⟨_,func252,aW,aW⟩ (λ_=>aW) (λ_=>aW) h
def aAZ(a b:aB)(h:zR a.aK<=9223372036854775807):Iv.Fn vi 188 [.agg (uni.cells 47 a), .agg (uni.cells 47 b)] [] (λx s=>x= .n .i64 (dN a b)/\s=[]):=
 (TM (F:=L0 dw) (sO aV).ok (P0.i .i64) rfl (iG aW) ((show L0 dw Int 188 [.agg (uni.cells 47 a), .agg (uni.cells 47 b)] [] 0 (RV (iF .i64))=(match K5 a b with|I=>I|V r=>V r)from aW).trans (by rw[DC a b h]))).2
def awB(a b:aB)(h:zR a.aK<=9223372036854775807):Iv.Fn vi 252 [.agg (uni.cells 47 a), .agg (uni.cells 47 b)] [] (λx s=>x= .b (J (dN a b=0))/\s=[]):=
 (TM (F:=auz dw) (ajG aV).ok P0.b rfl (iG aW) ((show auz dw Bool 252 [.agg (uni.cells 47 a), .agg (uni.cells 47 b)] [] 0 (RV Sf)=(match aj5 a b with|I=>I|V r=>V r)from aW).trans (by unfold aj5;rw[DC a b h]))).2
def Xg{f:Nat}{x y:Ob A w}{r:Value}(hf:Iv.Fn vi f [.agg (uni.cells 47 x.1.1), .agg (uni.cells 47 y.1.1)] [] (λa s=>a= .lit r/\s=[])){am:World}(hW:∀b,b<w.heap.size->A b->am.heap[b]? =w.heap[b]?):
  Calls vi f #[.agg (nM x).toArray, .agg (nM y).toArray] am λe w'=>e= .returned r/\∃q os',w'=grow (am.drewN q) os':=by
 have hr:∀z:Ob A w,bO A am (uni.cells 47 z.1.1) (nM z):=λz=>z.2.2.mono λb hb hA=>⟨hA,hW b hb hA⟩;refine(hf am A [.agg (nM x).toArray, .agg (nM y).toArray] ⟨rfl,λj a v h1 h2=> ?_⟩ ⟨λr hr=>(by cases hr),λb hb=>(by cases hb)⟩ List.nodup_nil).mono λe w' ⟨v,av,B',he,⟨h1,h2⟩,ht,hv⟩=> ?_
 ·match j with
  |0=>cases h1;cases h2;exact .agg _ _ (hr x).1 (hr x).2
  |1=>cases h1;cases h2;exact .agg _ _ (hr y).1 (hr y).2
  |j+2=>cases h1
 ·rw[h1]at hv;exact⟨by rw[he,hv.cM],agU ht.kp⟩
def Dh:SWO (ltOf dN) where
 irrefl x:=by unfold ltOf;rw[rU];rfl
 trans x y z h1 h2:=by
  unfold ltOf at*;simp only[decide_eq_true_eq]at*;have a:=dQ x y;have b:=dQ y z;have c:=dQ x z
  have:=mO z x y;by_cases h:dN x z<0
  ·exact h
  ·have:=this aq aq;omega
 ntrans x y z h1 h2:=by
  unfold ltOf at*;simp only[decide_eq_false_iff_not]at*;have a:=dQ x y;have b:=dQ y z;have c:=dQ x z
  have:=mO z y x aq aq;omega
def aki(x y:aB)(h1:ltOf dN x y=G)(h2:ltOf dN y x=G):x=y:=by
 unfold ltOf at*;simp only[decide_eq_false_iff_not]at*;have a:=dQ x y;exact rR aq
def F1(l:aa aB):aa aB:=l.mergeSort λx y=> !ltOf dN y x
def obC(x y:Ob A w):Int:=dN x.1.1 y.1.1
def ag6:SWO (ltOf (obC (A:=A) (w:=w))):=⟨λx=>Dh.irrefl x.1.1,λx y z=>Dh.trans x.1.1 y.1.1 z.1.1,λx y z=>Dh.ntrans x.1.1 y.1.1 z.1.1⟩
end
def Vx{A:Nat->Prop}{w:World}{l:aa aB}{us:aa Value}(h1:zR us=zR l*2)(h3:∀i,i<zR l->bO A w (uni.cells 47 l[i]!) ((us.drop (i*2)).take 2)):
  ∃d:Array (Ob A w),d.size=zR l/\(d.toList.map λx=>x.1.1)=l/\flatK nM 2 d=us.toArray:=by
 have hx:∀i:Fin (zR l),zR ((us.drop (i.1*2)).take 2)=2/\bO A w (uni.cells 47 l[i]) ((us.drop (i.1*2)).take 2):=λi=>by
  have hi:=i.2;refine⟨by rw[zA,zV];omega,?_⟩;have:=h3 i.1 hi
  rwa [getElem!_pos l i.1 hi]at this
 refine⟨Array.ofFn λi:Fin l.length=>(⟨(l[i],(us.drop (i.1*2)).take 2),hx i⟩:Ob A w),by simp,?_,H8 _ _ (by simpa using h1) λi hi=> ?_⟩
 ·apply xY (by simp);intro i q1 q2;simp
 ·have hi':i<zR l:=by simpa using hi
  rw[getElem!_pos _ i hi];simp[nM]
def Sn{A:Nat->Prop}{w:World}(d:Array (Ob A w))(l:aa aB)(h:(d.toList.map λx=>x.1.1)=l):zR (flatK nM 2 d).toList=zR l*2/\∀i,i<zR l->bO A w (uni.cells 47 l[i]!) (((flatK nM 2 d).toList.drop (i*2)).take 2):=by
 have hs:d.size=zR l:=by rw[<-h];simp
 refine⟨by simp[hs],λi hi=> ?_⟩;have e:(((flatK nM 2 d).toList.drop (i*2)).take 2)=nM d[i]! :=by
  apply xY
  ·rw[ki,zA,zV];simp[hs];omega
  ·intro j q1 q2;rw[ki]at q2;rw[xJ,xS,Array.getElem_toList];have:=get_flatK nM 2 d (i*2+j) aq;rw[getElem!_pos _ _ (by simp;omega)]at this;rw[this,show (i*2+j)/2=i by omega,show (i*2+j)%2=j by omega,getElem!_pos _ j (by rw[ki];exact q2)]
 rw[e];have e2:l[i]! =d[i]!.1.1:=by
  subst h;rw[getElem!_pos _ i hi,getElem!_pos d i aq];simp
 rw[e2];exact d[i]!.2.2
end Go.Proofs.YtnfljbehcffmcaaGreat
end
noncomputable section
set_option maxRecDepth 100000
namespace Go.Proofs.YtnfljbehcffmcaaGreat
open Go Go.Iv Go.Sort Go.Proofs
abbrev aAv:=aa aB
def d200:Td 1 aAv:= .c [] [] (.r 1 1 en (sr 0 47 sn) (λz=>z.2.1) (λx=>((()),(x,()))))
def ayk:=(lc (qo 0) (lc (qf 188 ln) ln))
def ax9:=(sr 0 47 sn)
def Y5(b0:aa aB):af aAv:=if zR b0<=1073741824 then V (F1 b0)else I
def apP:Prop:=HY vi 200 1 ayk ax9 d200 (λg=>Y5 g.2.1)
def aFl:bq->bq:=eY vi 200 1 ayk ax9 d200 (λg=>Y5 g.2.1)
def Z9(hv:apP){F:bq}(h:bA vi F):bA vi (aFl F):=CO hv ⟨_,func200,aW,aW⟩ (λ_=>aW) h
def Tg:Go.Shelf.Ren:=⟨λ|6=>200|15=>257|14=>256|28=>300|29=>301|20=>292|21=>293|22=>294|23=>295|24=>296|25=>297|26=>298|27=>299|46=>332|47=>333|48=>334|49=>335|50=>336|57=>348|n=>n,λ|22=>50|24=>47|25=>195|39=>240|53=>322|55=>324|46=>316|45=>315|50=>193|66=>344|70=>348|76=>356|77=>297|n=>n,λ|n=>n⟩
def ZR:Go.Proofs.SlLaysF0.n6 vi Tg where
 mixed:=aW
 f6:=⟨f200.name,aW,func200.trans (congrArg V aW)⟩
 f14:=⟨f256.name,aW,func256.trans (congrArg V aW)⟩
 f15:=func257.trans (congrArg V aW)
 f20:=⟨f292.name,aW,func292.trans (congrArg V aW)⟩
 f21:=⟨f293.name,aW,func293.trans (congrArg V aW)⟩
 f22:=⟨f294.name,aW,func294.trans (congrArg V aW)⟩
 f23:=⟨f295.name,aW,func295.trans (congrArg V aW)⟩
 f24:=⟨f296.name,aW,func296.trans (congrArg V aW)⟩
 f25:=⟨f297.name,aW,func297.trans (congrArg V aW)⟩
 f26:=⟨f298.name,aW,func298.trans (congrArg V aW)⟩
 f27:=⟨f299.name,aW,func299.trans (congrArg V aW)⟩
 f28:=func300.trans (congrArg V aW)
 f29:=func301.trans (congrArg V aW)
 f46:=⟨f332.name,aW,func332.trans (congrArg V aW)⟩
 f47:=func333.trans (congrArg V aW)
 f48:=func334.trans (congrArg V aW)
 f49:=⟨f335.name,aW,func335.trans (congrArg V aW)⟩
 f50:=⟨f336.name,aW,func336.trans (congrArg V aW)⟩
 f57:=⟨f348.name,aW,func348.trans (congrArg V aW)⟩
 t0:=underlying0
 a0:=Tryz.isAgg0
 z0:=Tryz.sizeOf0
 v0:=Tryz.zeroValue0
 t3:=underlying3
 a3:=Tryz.isAgg3
 z3:=Tryz.sizeOf3
 v3:=Tryz.zeroValue3
 t4:=underlying4
 a4:=Tryz.isAgg4
 z4:=Tryz.sizeOf4
 v4:=Tryz.zeroValue4
 t5:=underlying5
 a5:=Tryz.isAgg5
 z5:=Tryz.sizeOf5
 v5:=Tryz.zeroValue5
 t9:=underlying9
 a9:=Tryz.isAgg9
 z9:=Tryz.sizeOf9
 v9:=Tryz.zeroValue9
 t22:=underlying50
 a22:=Tryz.isAgg50
 z22:=Tryz.sizeOf50
 v22:=Tryz.zeroValue50
 t25:=underlying195
 a25:=Tryz.isAgg195
 z25:=Tryz.sizeOf195
 v25:=Tryz.zeroValue195
 t39:=underlying240
 a39:=Tryz.isAgg240
 z39:=Tryz.sizeOf240
 v39:=Tryz.zeroValue240
 t45:=underlying315
 a45:=Tryz.isAgg315
 z45:=Tryz.sizeOf315
 v45:=Tryz.zeroValue315
 t46:=underlying316
 a46:=Tryz.isAgg316
 z46:=Tryz.sizeOf316
 v46:=Tryz.zeroValue316
 t50:=underlying193
 a50:=Tryz.isAgg193
 z50:=Tryz.sizeOf193
 v50:=Tryz.zeroValue193
 t53:=underlying322
 a53:=Tryz.isAgg322
 z53:=Tryz.sizeOf322
 v53:=Tryz.zeroValue322
 t55:=underlying324
 a55:=Tryz.isAgg324
 z55:=Tryz.sizeOf324
 v55:=Tryz.zeroValue324
 t66:=underlying344
 a66:=Tryz.isAgg344
 z66:=Tryz.sizeOf344
 v66:=Tryz.zeroValue344
 t70:=underlying348
 a70:=Tryz.isAgg348
 z70:=Tryz.sizeOf348
 v70:=Tryz.zeroValue348
 t76:=underlying356
 a76:=Tryz.isAgg356
 z76:=Tryz.sizeOf356
 v76:=Tryz.zeroValue356
 t77:=underlying297
 a77:=Tryz.isAgg297
 z77:=Tryz.sizeOf297
 v77:=Tryz.zeroValue297
def Yr{A:Nat->Prop}{w:World}{d d':Array (Ob A w)}(hp:PermIn 0 d.size d d')(hs:SortedIn (ltOf obC) 0 d.size d'):(d'.toList.map λx=>x.1.1)=F1 (d.toList.map λx=>x.1.1):=by
 obtain⟨h1,_,h3⟩:=hp;have e1:d'.extract 0 d.size=d':=by rw[<-h1];exact Array.extract_size
 rw[e1,Array.extract_size]at h3;have hz:∀c:Array (Ob A w),(c.map λx=>x.1.1).toList=c.toList.map λx=>x.1.1:=λc=>by simp
 have:=sorted_unique_holds Dh aki (d.map λx=>x.1.1) (d'.map λx=>x.1.1) ⟨by simp[h1],λi hi=> ?_,?_⟩ (λi j hi hij hj=> ?_)
 ·rw[hz,hz]at this;exact this
 ·have:d.size<=i:=by rcases hi with h|h;omega;simpa using h
  rw[getElem!_neg _ i (by simp;omega),getElem!_neg _ i (by simp;omega)]
 ·have a1:(d'.map λx=>x.1.1).extract 0 (d.map λx=>x.1.1).size=(d'.map λx=>x.1.1):=by
   rw[show (d.map λx=>x.1.1).size=(d'.map λx=>x.1.1).size by simp[h1]];exact Array.extract_size
  rw[a1,Array.extract_size,hz,hz];exact h3.map _
 ·have hj':j<d.size:=by simpa using hj
  have:=hs i j hi hij hj';rw[getElem!_pos _ i aq,getElem!_pos _ j aq]at this;rw[getElem!_pos _ i (by simp;omega),getElem!_pos _ j (by simp;omega)];simp only[Array.getElem_map];exact this
def aqD(l b:aa aB)(hb:Y5 l=V b):Mo vi 200 [.own 0, .fn (.func 188) []] [(0, .row 47 l)] 1 (fK vi 200 1 (d200.pat b)):=by
 unfold Y5 at hb;split at hb
 case isFalse=>cases hb
 rename_i hlen;have hbl:b=F1 l:=(zF.inj hb).symm;have hln:zR b=zR l:=by rw[hbl];unfold F1;rw[List.length_mergeSort]
 intro S;have ho:fK vi 200 1 (d200.pat b)=⟨.jf [],[(0, .row 47 b)],1⟩:=aW;show Go.Iv.Fn vi 200 [(b9.own 0).sub S,(b9.fn (.func 188) []).sub S] (bt.res S [(0, .row 47 l)]) _;rw[ho,dz,show (b9.fn (dh:=uni.dh) (.func 188) []).sub S= .fn (.func 188) []by simp[b9.sub]];intro w A vs hr hd hn;obtain⟨hr1,hr2⟩:=hr;obtain⟨v,v2,rfl⟩:∃v v2,vs=[v,v2]:=by
  match vs,hr1 with
  |[v,v2],_=>exact⟨v,v2,rfl⟩
 have hv:v=S.v 0:=(hr2 0 _ v rfl rfl).cM;have hv2:v2= .func (.func 188) #[] #[]:=by
  have:=hr2 1 (.fn (.func 188) []) v2 rfl rfl;cases this with
  |fn f cs us hl hrr=>rw[xG.1 hl]
 subst hv hv2;generalize hv:S.v 0=v at*;have hok:=hd.1 (.row v 47 l) (by show _∈[cn.row (S.v 0) 47 l];rw[hv];exact zo.2 rfl);obtain⟨us,h1,h2,h3⟩:=hok;have aw:bt.res S [(0, .row 47 l)]=[cn.row v 47 l]:=by show [cn.row (S.v 0) 47 l]=_;rw[hv]
 rw[aw]at hd hn ⊢;have fin:∀w':World,(∃us',gv w' v 47 2 (zR b) us'/\∀i,i<zR b->bO A w (uni.cells 47 b[i]!) ((us'.drop (i*2)).take 2))->Kp (bC [cn.row v 47 l]) w w'->∃v_1 av B',Ending.returned (Value.tuple #[])=Ending.returned v_1/\
   (∃S',pU 1 S S'/\av=(b9.jf (dh:=uni.dh) []).sub S'/\List.Perm B' (bt.res S' [(0, .row 47 b)]))/\Tr ⟨w,A,bC [cn.row v 47 l]⟩ (bC [cn.row v 47 l]) [cn.row v 47 l] w B' w'/\Rel (al ⟨w,A,bC [cn.row v 47 l]⟩ B') w' av v_1:=λw' ⟨us',hrow,hrel⟩ hk=>by
  have hbk:bC [cn.row v 47 b]=bC [cn.row v 47 l]:=rfl;have hal:∀x,al ⟨w,A,bC [cn.row v 47 l]⟩ [cn.row v 47 l] x->al ⟨w,A,bC [cn.row v 47 l]⟩ [cn.row v 47 b] x:=λx h=>h;refine⟨_, .jf [],[cn.row v 47 b],rfl,⟨S,λi _=>⟨rfl,rfl⟩,by simp only[b9.sub,yU],by show List.Perm _ [cn.row (S.v 0) 47 b];rw[hv]⟩,⟨⟨hk,?_,?_,?_⟩,hk,λx _ h=>⟨hal x h,h.2⟩⟩,Rel.jf [] [] rfl (λj a v q=>by cases q)⟩
  ·intro r hr;rw[zo.1 hr];refine⟨us',hrow,λi _=>rfl,λi hi=>(hrel i hi).mono λx hx hA=> ?_⟩;have hnb:x∉bC [cn.row v 47 l]:=λh=>hd.2 x h hA;exact⟨⟨.inl hA,hnb⟩,hk.block x hx hnb⟩
  ·rw[hbk];exact hn
  ·intro x hx;exact .inl hx
 obtain⟨h1l,hcase⟩:=h1;rcases hcase with ⟨p,hvp,hl0⟩|⟨gb,cap,cur,hvp,hg,q1,q2,q3,q4⟩
 ·have hl:l=[]:=xG.1 hl0;have hbn:b=[]:=by rw[hbl,hl];unfold F1;rw[List.mergeSort_nil]
  subst hvp;refine(Go.Proofs.AnyF.slices_SortFunc_none {ZR with} p 0 (.func (.func 188) #[] #[]) w).mono λe w' he=> ?_;obtain⟨rfl,rfl⟩:=he;refine fin w' ⟨[],?_,λi hi=>by rw[hbn]at hi;cases hi⟩ (Kp.refl _ _);rw[hbn];exact⟨rfl, .inl ⟨p,rfl,rfl⟩⟩
 ·subst hvp;have hgs:gb<w.heap.size:=(y9.1 hg).1;have hAg:¬A gb:=hd.2 gb (bS.2 ⟨_,zo.2 rfl,rfl⟩);have q4:cur.toList.take (zR l*2)=us:=q4;have q3:cur.size=(cap+1)*2:=q3;have h1l:zR us=zR l*2:=h1l;have q1':zR l<=cap+1:=q1;have hsz:zR l<=9223372036854775807:=by have:maxLen=9223372036854775807:=rfl;omega
  obtain⟨d,d1,d2,d3⟩:=Vx h1l h3;have hH:HoldsK nM 2 w gb 0 d:=ID hg d3 (by rw[h1l];exact q4);have hcmp:CmpLays vi 188 #[] nM 2 obC gb 0 d.size w:=λm os dk hdk x y=>by
   refine Xg (aAZ x.1.1 y.1.1 (anA x)) (λc hc hA=>rL hc λe=>hAg (e▸hA))
  have hs:=Go.Proofs.AnyQ.slices_SortFunc ZR 2 Tryz.isAgg47 Tryz.sizeOf47 nM ki Dw obC ag6 188 #[] gb 0 (cap+1) d w (enters_of func188 aW rfl) hcmp hH hgs (by rw[d1];omega);rw[d1]at hs;refine hs.mono λe w' he=> ?_;obtain⟨rfl,d',n,os,hp,hs,rfl⟩:=he;rw[<-d1]at hp hs;have hbd:(d'.toList.map λx=>x.1.1)=b:=by rw[Yr hp hs,d2,hbl]
  obtain⟨r1,r2⟩:=Sn d' b hbd;have hF:(flatK nM 2 d').size=zR l*2:=by rw[<-yp,r1,hln]
  refine fin _ ⟨(flatK nM 2 d').toList,⟨r1, .inr ⟨gb,cap,_,by rw[hln];rfl,tQ hg,by rw[hln];exact q1,q2,by simp[putCells,q3],?_⟩⟩,r2⟩ ?_
  ·have:=Nq (F:=flatK nM 2 d') (cur:=cur) (by rw[hF,q3];omega)
   rwa [<-yp,r1]at this
  ·exact Ox
def aCk:apP:=λg b hb=>aqD g.2.1 b hb
end Go.Proofs.YtnfljbehcffmcaaGreat
end
noncomputable section
set_option maxRecDepth 100000
namespace Go.Proofs.YtnfljbehcffmcaaGreat
open Go Go.Iv Go.Sort Go.Proofs Go.Shelf Go.RowKit Go.Lib
section
variable {α:Type} [Inhabited α] (r:α->α->Bool)
def Mn(d:Array α)(j:Nat):Bool:=J (j=0)|| !r d[j]! d[j-1]!
def GM(d:Array α)(m:Nat):aa α:=((zN m).filter (Mn r d)).map (d[·]!)
variable {r}
def lM(d:Array α)(m:Nat):GM r d (m+1)=GM r d m++(if Mn r d m then[d[m]!]else[]):=by
 unfold GM;rw[List.range_succ,xk,zM];grind
def Jw(d:Array α)(m:Nat)(h:∀j,j<m->Mn r d j=O):GM r d m=(zN m).map (d[·]!):=by
 unfold GM;rw[wS.2 (λj hj=>h j (List.mem_range.1 hj))]
def Ts(d:Array α):(zN d.size).map (d[·]!)=d.toList:=by
 apply xY
 ·simp
 ·intro i h1 h2;have hi:i<d.size:=by simpa using h2
  simp[hi]
structure CV (r:α->α->Bool) (d:Array α) (m k:Nat) (dk:Array α):Prop where
 size:dk.size=d.size
 len:zR (GM r d m)=k
 lt:k<m
 low:∀j,j<k->(GM r d m)[j]? =V dk[j]!
 high:∀j,k<=j->dk[j]! =d[j]!
def CV.start{d:Array α}{k0:Nat}(hall:∀j,j<k0->Mn r d j=O)(hdup:Mn r d k0=G):CV r d (k0+1) k0 d where
 size:=rfl
 len:=by rw[lM,hdup,Jw d k0 hall];simp
 lt:=zC _
 low:=λj hj=>by rw[lM,hdup,Jw d k0 hall];simp[hj]
 high:=λ_ _=>rfl
def CV.keep{d dk:Array α}{m k:Nat}(h:CV r d m k dk)(hm:m<d.size)(hk:Mn r d m=O):CV r d (m+1) (k+1) (dk.setIfInBounds k d[m]!) where
 size:=by simp[h.size]
 len:=by rw[lM,hk];simp[h.len]
 lt:=by have:=h.lt;omega
 low:=λj hj=>by
  rw[lM,hk,bJ rfl];by_cases e:j=k
  ·subst e;rw[wU (by rw[h.len];exact zm _),h.len,xT,getElem!_set_same dk j _ (by have:=h.lt;have:=h.size;omega)];rfl
  ·rw[wV (by rw[h.len];omega),h.low j aq,getElem!_set_other dk k j _ e]
 high:=λj hj=>by rw[getElem!_set_other dk k j _ aq,h.high j aq]
def CV.skip{d dk:Array α}{m k:Nat}(h:CV r d m k dk)(hk:Mn r d m=G):CV r d (m+1) k dk where
 size:=h.size
 len:=by rw[lM,hk];simpa using h.len
 lt:=by have:=h.lt;omega
 low:=λj hj=>by rw[lM,hk];simpa using h.low j hj
 high:=h.high
end
section
variable {P:Program} {α:Type} [Inhabited α] {enc:α->aa Value} {k:Nat} {w0 am:World} {blk off:Nat} {dk:Array α}
def OV(hk:∀x,zR (enc x)=k)(d:Array α)(i:Nat)(hi:i<d.size)(x:α):setMany (flatK enc k d) (i*k) (enc x)=flatK enc k (d.setIfInBounds i x):=by
 refine ext_get! (by simp) λt ht=> ?_;have ht':t<d.size*k:=by simpa using ht
 have k0:0<k:=by
  rcases wC k with h|h
  ·simp_all
  ·exact h
 rw[get_setMany _ _ _ t (by simpa using ht'),get_flatK _ _ _ t ht',get_flatK _ _ _ t (by simpa using ht'),hk];by_cases a:t/k=i
 ·rw[bJ ((blk_iff k i t k0).2 a),a,getElem!_set_same d i x hi,Nat.mod_eq_sub_div_mul,a]
 ·rw[bN (λh=>a ((blk_iff k i t k0).1 h)),getElem!_set_other d i _ x a]
def RM(h:SWK enc k w0 blk off dk am)(hk:∀x,zR (enc x)=k)(hb:blk<w0.heap.size)(i:Nat)(hi:i<dk.size)(x:α):SWK enc k w0 blk off (dk.setIfInBounds i x) (am.setCells blk (off+i*k) (enc x)):=by
 obtain⟨n,os,rfl⟩:=h;refine⟨n,os,?_⟩;unfold sortWorldK;rw[setCells_grow os blk _ _ _ (by show blk<(putRowK enc k _ blk off dk).heap.size;rw[size_putRowK];exact hb)];unfold putRowK;have:=yl k (show i+1<=dk.size from hi);rw[zX,yL]at this;rw[setCells_putRow _ _ _ _ _ _ (by rw[hk,size_flatK];exact this),OV hk dk i hi x]
def aj6(h:SWK enc k w0 blk off dk am){d0:Array α}(R:RowK enc k w0 blk off d0)(hs:dk.size=d0.size)(P:Program)(i:Nat)(hi:i<dk.size)(x:α):
  Sem.run P (storeCells ⟨blk,off+i*k,I⟩ (enc x) 0) am= .ok () (am.setCells blk (off+i*k) (enc x)):=
 stores_of_holds P (h.holds R.hblk R.hH hs) (i*k) _ (by rw[R.hk,size_flatK];exact rowK_bnd dk k i hi) (R.h1 _)
end
set_option maxHeartbeats 8000000 in
set_option maxRecDepth 1000000 in
def aeL{P:Program}{α:Type}[Inhabited α](FG:P.funcs[201]? =V f201)(mixed:P.follows .mixedOrders=O)
  (t3:P.underlying 3=V (.int .i64)) (a3:∀w,(isAgg 3).run P w= .ok G w) (z3:∀w,(Go.sizeOf 3).run P w= .ok 1 w) (v3:∀w,(zeroValue 3).run P w= .ok (.int .i64 0) w)
  (t4:P.underlying 4=V .bool) (a4:∀w,(isAgg 4).run P w= .ok G w) (z4:∀w,(Go.sizeOf 4).run P w= .ok 1 w) (v4:∀w,(zeroValue 4).run P w= .ok (.bool G) w)
  (t50:P.underlying 50=V (.slice 47)) (a50:∀w,(isAgg 50).run P w= .ok G w) (z50:∀w,(Go.sizeOf 50).run P w= .ok 1 w) (v50:∀w,(zeroValue 50).run P w= .ok (.slice I 0 0) w)
  (k:Nat) (aE:∀w,(isAgg 47).run P w= .ok O w) (zE:∀w,(Go.sizeOf 47).run P w= .ok k w)
  (enc:α->aa Value) (r:α->α->Bool) (g:Nat) (cb:Array Value) (blk off cap:Nat) (d:Array α) (w:World)
  (eg:∀args w,(callFunc g args).run P w= .ok (.enter g args) w)
  (hcmp:∀(dk:Array α) (am:World),dk.size=d.size->SWK enc k w blk off dk am->∀x y:α,Calls P g (#[.agg (enc x).toArray, .agg (enc y).toArray]++cb) am λe w'=>e= .returned (.bool (r x y))/\∃q os',w'=grow (am.drewN q) os')
  (R:RowK enc k w blk off d) (hsz:d.size<4611686018427387904) (hcap:d.size<=cap)
  (zs:Nat->aa Value) (hclr:∀(am:World) (dk:Array α) (kk:Nat),SWK enc k w blk off dk am->dk.size=d.size->kk<d.size->∀ty,(Builtin.clear_ #[50] ty #[.slice (V ⟨blk,off+kk*k,I⟩) (d.size-kk) (cap-kk)]).run P am= .ok (.tuple #[]) (am.setCells blk (off+kk*k) (zs kk))):
  Calls P 201 #[.slice (V ⟨blk,off,I⟩) d.size cap, .func (.func g) #[] cb] w λe w'=>
   e= .returned (.slice (V ⟨blk,off,I⟩) (GM r d d.size).length cap)/\∃(dk:Array α) (am:World),SWK enc k w blk off dk am/\dk.size=d.size/\(∀j,j<zR (GM r d d.size)->(GM r d d.size)[j]? =V dk[j]!)/\
    (w'=am\/w'=am.setCells blk (off+zR (GM r d d.size)*k) (zs (GM r d d.size).length)):=by
 have S00:SWK enc k w blk off d w:=SWK.start R.hH;have HC:Aside _:=hcmp;have HCL:Aside _:=hclr;have S0:Aside (SWK enc k w blk off d w):=S00;have same:∀am,SWK enc k w blk off d am->(∀j,j<d.size->Mn r d j=O)->zR (GM r d d.size)=d.size/\∃(dk:Array α) (W':World),SWK enc k w blk off dk W'/\dk.size=d.size/\(∀j,j<zR (GM r d d.size)->(GM r d d.size)[j]? =V dk[j]!)/\(am=W'\/am=W'.setCells blk (off+zR (GM r d d.size)*k) (zs (GM r d d.size).length)):=λam hS hall=>by
  have e:GM r d d.size=d.toList:=by rw[Jw d _ hall,Ts]
  refine⟨by rw[e];simp,d,am,hS,rfl,λj hj=> ?_, .inl rfl⟩;rw[e]at hj ⊢;have hj':j<d.size:=by simpa using hj
  rw[zq hj,getElem!_pos d j hj'];simp
 have HS:Aside _:=same;have kp1:∀j,j<1->Mn r d j=O:=λj hj=>by
  have:j=0:=aq;subst this;rfl
 clear same S00 hcmp hclr;by_cases h2:d.size<2
 ·have K1:Aside (∀j,j<1->Mn r d j=O):=kp1;clear kp1
  go_enter FG,Tryz.ntmps201
  go_wp2
  go_ret
  obtain⟨e1,e2⟩:=HS.out w S0.out (λj hj=>K1.out j aq);exact⟨by rw[e1];rfl,e2⟩
 ·have K1:Aside (∀j,j<1->Mn r d j=O):=kp1;clear kp1
  go_enter FG,Tryz.ntmps201
  go_wp2
  go_loopg [5] d.size (λg1 s5 wr=>∃(k1:Nat),s5= .int .i64 k1/\1<=k1/\k1<=d.size/\d.size-k1<=g1/\Aside (SWK enc k w blk off d wr)/\Aside (∀j,j<k1->Mn r d j=O))
  case atStart=>exact⟨1,rfl,zm _,aq,aq,S0,K1⟩
  case round=>
   obtain⟨k1,rfl,hk1,hk2,hg,S1,A1⟩:=hrel;by_cases hlt:k1<d.size
   ·obtain⟨kp,rfl⟩:∃kp,k1=kp+1:=⟨k1-1,aq⟩;obtain⟨xj,hxj⟩:∃x,d[kp+1]! =x:=⟨_,rfl⟩;obtain⟨xp,hxp⟩:∃x,d[kp]! =x:=⟨_,rfl⟩;have hwp:IntKind.i64.wrap (kp:Int)=(kp:Int):=by rw[IntKind.wrap_i64];omega
    have jz:(kp:Int)+1<(d.size:Int):=aq;have jz1:(kp:Int)<(d.size:Int):=aq;have p0:(0:Int)<=(kp:Int)+1:=aq;have e0:((kp:Int)+1).toNat=kp+1:=aq;have lj:∀n' os',Sem.run P (loadCellsFrom ⟨blk,off+(kp+1)*k,I⟩ 0 k #[]) (grow (wr.drewN n') os')= .ok (enc xj).toArray (grow (wr.drewN n') os'):=λn' os'=>by
     rw[<-hxj];exact S1.out.ld R rfl P (kp+1) hlt n' os'
    have lp:∀n' os',Sem.run P (loadCellsFrom ⟨blk,off+kp*k,I⟩ 0 k #[]) (grow (wr.drewN n') os')= .ok (enc xp).toArray (grow (wr.drewN n') os'):=λn' os'=>by
     rw[<-hxp];exact S1.out.ld R rfl P kp aq n' os'
    have hcg:∀n' os',Calls P g (#[.agg (enc xj).toArray, .agg (enc xp).toArray]++cb) (grow (wr.drewN n') os') λe w'=>e= .returned (.bool (r xj xp))/\∃q os'',w'=grow ((grow (wr.drewN n') os').drewN q) os'':=λn' os'=>HC.out d _ rfl (S1.out.grown n' os') xj xp;cases hr:r xj xp with
    |true=>
     rw[hr]at hcg
     go_wp2_with fail
     go_quiet_grown (first|(go_at_fn g;refine Calls.grown_of (hcg _ _)))
     have S2:Aside (SWK enc k w blk off d (grow (wr.drewN nq) osq)):=S1.out.grown nq osq;have I0:Aside (CV r d (kp+1+1) (kp+1) d):=CV.start A1.out (by unfold Mn;rw[wL,hxj,hxp,hr];simp);clear lj lp hcg;generalize grow (wr.drewN nq) osq=wq at S2 ⊢
     go_wp2
     go_loopg [5,7] d.size (λg2 s5 s7 wr=>∃(kk k2:Nat) (dk:Array α),s5= .int .i64 kk/\s7= .int .i64 k2/\1<=k2/\kp+1+k2<=d.size/\d.size-(kp+1+k2)<=g2/\Aside (SWK enc k w blk off dk wr)/\Aside (CV r d (kp+1+k2) kk dk))
     case atStart=>exact⟨kp+1,1,d,rfl,rfl,zm _,aq,aq,S2,I0⟩
     case round=>
      obtain⟨kk,k2,dk,rfl,rfl,hk21,hle,hg2,S3,I3⟩:=hrel;have hds:=I3.out.size;have hkk:=I3.out.lt;by_cases hlt2:kp+1+k2<d.size
      ·obtain⟨kq,rfl⟩:∃kq,k2=kq+1:=⟨k2-1,aq⟩;obtain⟨xm,hxm⟩:∃x,d[kp+1+(kq+1)]! =x:=⟨_,rfl⟩;obtain⟨xq,hxq⟩:∃x,d[kp+1+kq]! =x:=⟨_,rfl⟩;have hm:dk[kp+1+(kq+1)]! =xm:=by rw[I3.out.high _ aq,hxm]
       have hq:dk[kp+1+kq]! =xq:=by rw[I3.out.high _ aq,hxq]
       have hwq:IntKind.i64.wrap (kq:Int)=(kq:Int):=by rw[IntKind.wrap_i64];omega
       have q0:(0:Int)<=(kq:Int)+1:=aq;have f0:((kq:Int)+1).toNat=kq+1:=aq;have lm:∀n' os',Sem.run P (loadCellsFrom ⟨blk,off+(kp+1)*k+(kq+1)*k,I⟩ 0 k #[]) (grow (wr.drewN n') os')= .ok (enc xm).toArray (grow (wr.drewN n') os'):=λn' os'=>by
        have:=S3.out.ld R hds P (kp+1+(kq+1)) aq n' os';rw[hm,zX (kp+1) (kq+1),<-yG]at this;exact this
       have lq:∀n' os',Sem.run P (loadCellsFrom ⟨blk,off+(kp+1)*k+kq*k,I⟩ 0 k #[]) (grow (wr.drewN n') os')= .ok (enc xq).toArray (grow (wr.drewN n') os'):=λn' os'=>by
        have:=S3.out.ld R hds P (kp+1+kq) aq n' os';rw[hq,zX (kp+1) kq,<-yG]at this;exact this
       have hcg:∀n' os',Calls P g (#[.agg (enc xm).toArray, .agg (enc xq).toArray]++cb) (grow (wr.drewN n') os') λe w'=>e= .returned (.bool (r xm xq))/\∃q os'',w'=grow ((grow (wr.drewN n') os').drewN q) os'':=λn' os'=>HC.out dk _ hds (S3.out.grown n' os') xm xq;have jl:(kq:Int)+1<((d.size-(kp+1):Nat):Int):=aq;have jl1:(kq:Int)<((d.size-(kp+1):Nat):Int):=aq;cases hr2:r xm xq with
       |true=>
        rw[hr2]at hcg
        go_wp2_with fail
        go_quiet_grown (first|(go_at_fn g;refine Calls.grown_of (hcg _ _)))
        go_wp2
        go_roundg (d.size-(kp+1+(kq+1+1)))
        case measure=>omega
        case rel=>exact⟨kk,kq+1+1,dk,rfl,by go_num,aq,aq,zm _,S3.out.grown nq osq,I3.out.skip (by unfold Mn;rw[show kp+1+(kq+1)-1=kp+1+kq by omega,hxm,hxq,hr2];simp)⟩
       |false=>
        rw[hr2]at hcg
        go_wp2_with fail
        go_quiet_grown (first|(go_at_fn g;refine Calls.grown_of (hcg _ _)))
        have lm3:=lm nq osq;have S4:Aside (SWK enc k w blk off dk (grow (wr.drewN nq) osq)):=S3.out.grown nq osq;have st:=aj6 S4.out R hds P kk aq xm;have S5:Aside (SWK enc k w blk off (dk.setIfInBounds kk xm) ((grow (wr.drewN nq) osq).setCells blk (off+kk*k) (enc xm))):=RM S4.out R.hk R.hblk kk aq xm;have hlm:zR (enc xm)=k:=R.hk xm;have I4:Aside (CV r d (kp+1+(kq+1)+1) (kk+1) (dk.setIfInBounds kk xm)):=by
         have:=I3.out.keep hlt2 (by unfold Mn;rw[show kp+1+(kq+1)-1=kp+1+kq by omega,hxm,hxq,hr2];simp)
         rwa [hxm]at this
        have kz:(kk:Int)<(d.size:Int):=aq;have kz0:(0:Int)<=(kk:Int):=aq;clear lm lq hcg;generalize grow (wr.drewN nq) osq=wq3 at lm3 S4 st S5 ⊢;generalize enc xm=cm at lm3 st S5 hlm
        go_wp2
        go_roundg (d.size-(kp+1+(kq+1+1)))
        case measure=>omega
        case rel=>exact⟨kk+1,kq+1+1,dk.setIfInBounds kk xm,by go_num,by go_num,aq,aq,zm _,S5,I4⟩
      ·have hend:kp+1+k2=d.size:=aq;have hcl:=λty=>HCL.out wr dk kk S3.out hds aq ty;have kz:(kk:Int)<=(d.size:Int):=aq;have kz1:(kk:Int)<=(cap:Int):=aq
       go_wp2
       go_ret
       have hI:=I3.out;rw[hend]at hI;exact⟨by rw[hI.len];rfl,dk,wr,S3.out,hds,λj hj=>hI.low j (by rw[<-hI.len];exact hj), .inr (by rw[hI.len])⟩
    |false=>
     rw[hr]at hcg
     go_wp2_with fail
     go_quiet_grown (first|(go_at_fn g;refine Calls.grown_of (hcg _ _)))
     go_wp2
     go_roundg (d.size-(kp+1+1))
     case measure=>omega
     case rel=>
      refine⟨kp+1+1,by go_num,aq,aq,zm _,S1.out.grown nq osq,λj hj=> ?_⟩;by_cases e:j=kp+1
      ·subst e;unfold Mn;rw[wL,hxj,hxp,hr];simp
      ·exact A1.out j aq
   ·have:k1=d.size:=aq;subst this
    go_wp2
    go_ret
    obtain⟨e1,e2⟩:=HS.out _ S1.out A1.out;exact⟨by rw[e1];rfl,e2⟩
set_option maxHeartbeats 1000000 in
def Mf(FG:vi.funcs[201]? =V f201)(p:af Addr)(cap:Nat)(fv:Value)(w:World):
  Calls vi 201 #[.slice p 0 cap,fv] w λe w'=>e= .returned (.slice p 0 cap)/\w'=w:=by
 go_enter FG,Tryz.ntmps201
 go_wp2
 go_ret
 simp
end Go.Proofs.YtnfljbehcffmcaaGreat
end
noncomputable section
set_option maxRecDepth 100000
namespace Go.Proofs.YtnfljbehcffmcaaGreat
open Go Go.Iv Go.Sort Go.Proofs
abbrev azD:=aa aB
def d201:Td 1 azD:= .c [] [4] (.r 1 2 (ec 4 (qo 1) en) (sr 1 47 sn) (λz=>z.2.1) (λx=>(((),()),(x,()))))
def azj:=(lc (qo 0) (lc (qf 252 ln) ln))
def ayB:=(sr 0 47 sn)
def X8(b0:aa aB):af azD:=if zR b0<=1073741824 then V (vM b0)else I
def apk:Prop:=HY vi 201 1 azj ayB d201 (λg=>X8 g.2.1)
def aH5:bq->bq:=eY vi 201 1 azj ayB d201 (λg=>X8 g.2.1)
def acy(hv:apk){F:bq}(h:bA vi F):bA vi (aH5 F):=CO hv ⟨_,func201,aW,aW⟩ (λ_=>aW) h
def gM{g:Nat}{T:TypeId}:∀(vs:aa Value) (o:Nat) (am:World) (cur:Array Value),am.heap[g]? =V (.cells cur T (0,0))->(am.setCells g o vs).heap[g]? =V (.cells (setMany cur o vs) T (0,0))
 |[],_,_,_,h=>h
 |v::vs,o,am,cur,h=>by
  rw[World.setCells,setMany];refine gM vs (o+1) _ _ ?_;rw[setCell_eq];simp[mapBlock,vh,h,onCells]
def jg{g:Nat}:∀(vs:aa Value) (o:Nat) (am:World),Kp [g] am (am.setCells g o vs)
 |[],_,am=>Kp.refl _ am
 |v::vs,o,am=>by
  rw[World.setCells];refine Kp.trans (w1:=am.setCell ⟨g,o,I⟩ v) (X:=[g]) (Y:=[g]) ?_ (jg vs (o+1) _) (λb hb _=>hb);rw[setCell_eq];refine⟨rfl,rfl,rfl,zm _,by simp[mapBlock],λk hk hX=> ?_⟩;have:g≠k:=λe=>hX (by simp[e]);simp[mapBlock,vh,this]
def HW(x:aB):∀(l:aa aB) (p:aB),pH p (l++[x])=pH p l++if dN x (l.getLastD p)=0 then[]else[x]
 |[],p=>by
  by_cases h:dN x p=0<;>simp[pH,h]
 |y::l,p=>by
  simp only[xy,pH];rw[HW x l y];have e:(y::l).getLastD p=l.getLastD y:=by cases l<;>rfl
  rw[e];split<;>simp
section
variable {A:Nat->Prop} {w:World}
def eqO(x y:Ob A w):Bool:=J (dN x.1.1 y.1.1=0)
def UK(d:Array (Ob A w)):∀m,m<=d.size->(GM eqO d m).map (λx=>x.1.1)=vM ((d.toList.map λx=>x.1.1).take m)
 |0,_=>by simp[GM,vM]
 |m+1,hm=>by
  have ih:=UK d m aq;have hl:m<zR (d.toList.map λx=>x.1.1):=by simp;omega
  have eg:∀j,j<d.size->(d.toList.map λx=>x.1.1)[j]! =d[j]!.1.1:=λj hj=>by
   rw[getElem!_pos _ j (by simpa using hj),getElem!_pos d j hj];simp
  rw[lM,zM,ih,bG hl,eg m aq];by_cases h0:m=0
  ·subst h0;simp[Mn,vM,pH]
  ·obtain⟨n,rfl⟩:∃n,m=n+1:=⟨m-1,aq⟩;have hl2:n<zR (d.toList.map λx=>x.1.1):=by simp;omega
   have e2:(d.toList.map λx=>x.1.1).take (n+1)=(d.toList.map λx=>x.1.1).take n++[d[n]!.1.1]:=by rw[bG hl2,eg n aq]
   obtain⟨q,hq⟩:∃q,q=(d.toList.map λx=>x.1.1).take (n+1):=⟨_,rfl⟩;rw[<-hq];cases q with
   |nil=>rw[e2]at hq;simp at hq
   |cons a q=>
    show _=a::pH a (q++[d[n+1]!.1.1]);rw[HW];have:q.getLastD a=d[n]!.1.1:=by
     have h1:=congrArg List.getLast? hq;rw[e2,List.getLast?_append,List.getLast?_singleton,Option.some_or,List.getLast?_cons]at h1;rw[List.getLastD_eq_getLast?];exact zF.inj h1
    rw[this];unfold Mn eqO;rw[wL];by_cases hc:dN d[n+1]!.1.1 d[n]!.1.1=0<;>simp[hc,vM]
end
def Wh:∀(l:aa aB) (p:aB),zR (pH p l)<=zR l
 |[],_=>zm _
 |y::l,p=>by
  have:=Wh l y;unfold pH;split<;>simp<;>omega
def ame(l:aa aB):zR (vM l)<=zR l:=by
 cases l with
 |nil=>exact zm _
 |cons x l=>have:=Wh l x;simp[vM];omega
def amq{am:World}{gb n kk:Nat}{F:Array Value}(h:am.heap[gb]? =V (.cells F 47 (0,0)))(hs:n*2<=F.size)(hk:kk<n){c:Nat}{ty:TypeId}:
  (Builtin.clear_ #[50] ty #[.slice (V ⟨gb,0+kk*2,I⟩) (n-kk) c]).run vi am= .ok (.tuple #[]) (am.setCells gb (0+kk*2) (Builtin.zeroCells #[.slice I 0 0, .int .i64 0] (n-kk)).toList):=by
 have hl:zR (Builtin.zeroCells #[.slice I 0 0, .int .i64 0] (n-kk)).toList=(n-kk)*2:=by simp[Builtin.zeroCells]
 have hst:=run_storeCells_cells (P:=vi) gb (0+kk*2) (Builtin.zeroCells #[.slice I 0 0, .int .i64 0] (n-kk)).toList 0 am (λj hj=>by
   rw[hl]at hj;simp only[World.cell?,h,vg,yx,GQ];rw[xd aq];rfl) (λj hj=>by simp[World.frozen?,h]) (λv hv=>by
   simp only[Builtin.zeroCells,Array.toList_map,zK]at hv;obtain⟨i,_,rfl⟩:=hv;have:i%(#[.slice I 0 0, .int .i64 0]:Array Value).size<2:=xg _ (by decide);generalize i%(#[.slice I 0 0, .int .i64 0]:Array Value).size=q at this
   match q,this with
   |0,_=>rfl
   |1,_=>rfl)
 simp only[yj]at hst;obtain⟨m,hm⟩:∃m,n-kk=m+1:=⟨n-kk-1,aq⟩;rw[hm]at hst ⊢;rw[ym]at hst ⊢;simp[Builtin.clear_,run_underlying underlying50,Tryz.zeroValue47,Value.cells,hst]
def aut(l b:aa aB)(hb:X8 l=V b):Mo vi 201 [.own 0, .fn (.func 252) []] [(0, .row 47 l)] 1 (fK vi 201 1 (d201.pat b)):=by
 unfold X8 at hb;split at hb
 case isFalse=>cases hb
 rename_i hlen;have hbl:b=vM l:=(zF.inj hb).symm;intro S;have ho:fK vi 201 1 (d201.pat b)=⟨.own 1,[(1, .row 47 b)],2⟩:=aW;show Go.Iv.Fn vi 201 [(b9.own 0).sub S,(b9.fn (.func 252) []).sub S] (bt.res S [(0, .row 47 l)]) _;rw[ho,dz,show (b9.fn (dh:=uni.dh) (.func 252) []).sub S= .fn (.func 252) []by simp[b9.sub]];intro w A vs hr hd hn;obtain⟨hr1,hr2⟩:=hr;obtain⟨v,v2,rfl⟩:∃v v2,vs=[v,v2]:=by
  match vs,hr1 with
  |[v,v2],_=>exact⟨v,v2,rfl⟩
 have hv:v=S.v 0:=(hr2 0 _ v rfl rfl).cM;have hv2:v2= .func (.func 252) #[] #[]:=by
  have:=hr2 1 (.fn (.func 252) []) v2 rfl rfl;cases this with
  |fn f cs us hl hrr=>rw[xG.1 hl]
 subst hv hv2;generalize hv:S.v 0=v at*;have hok:=hd.1 (.row v 47 l) (by show _∈[cn.row (S.v 0) 47 l];rw[hv];exact zo.2 rfl);obtain⟨us,h1,h2,h3⟩:=hok;have aw:bt.res S [(0, .row 47 l)]=[cn.row v 47 l]:=by show [cn.row (S.v 0) 47 l]=_;rw[hv]
 rw[aw]at hd hn ⊢;have fin:∀(w':World) (u:Value),gH u=gH v->(∃us',gv w' u 47 2 (zR b) us'/\∀i,i<zR b->bO A w (uni.cells 47 b[i]!) ((us'.drop (i*2)).take 2))->Kp (bC [cn.row v 47 l]) w w'->∃v_1 av B',Ending.returned u=Ending.returned v_1/\
   (∃S',pU 1 S S'/\av=(b9.own (dh:=uni.dh) 1).sub S'/\List.Perm B' (bt.res S' [(1, .row 47 b)]))/\Tr ⟨w,A,bC [cn.row v 47 l]⟩ (bC [cn.row v 47 l]) [cn.row v 47 l] w B' w'/\Rel (al ⟨w,A,bC [cn.row v 47 l]⟩ B') w' av v_1:=λw' u hu ⟨us',hrow,hrel⟩ hk=>by
  have hbk:bC [cn.row u 47 b]=bC [cn.row v 47 l]:=by simp only[bC,xD,cn.blk,hu]
  have hal:∀x,al ⟨w,A,bC [cn.row v 47 l]⟩ [cn.row v 47 l] x->al ⟨w,A,bC [cn.row v 47 l]⟩ [cn.row u 47 b] x:=λx h=>⟨h.1,by rw[hbk];exact h.2⟩;refine⟨u, .lit u,[cn.row u 47 b],rfl,⟨⟨λi=>if i=1 then u else S.v i,S.b⟩,λi hi=>⟨by show _=if i=1 then u else S.v i;rw[bN aq],rfl⟩,by rw[dz];rfl,List.Perm.refl _⟩,⟨⟨hk,?_,?_,?_⟩,hk,λx _ h=>⟨hal x h,h.2⟩⟩, .lit u⟩
  ·intro r hr;rw[zo.1 hr];refine⟨us',hrow,λi _=>rfl,λi hi=>(hrel i hi).mono λx hx hA=> ?_⟩;have hnb:x∉bC [cn.row v 47 l]:=λh=>hd.2 x h hA;exact⟨⟨.inl hA,by rw[hbk];exact hnb⟩,hk.block x hx hnb⟩
  ·rw[hbk];exact hn
  ·intro x hx;rw[hbk]at hx;exact .inl hx
 obtain⟨h1l,hcase⟩:=h1;rcases hcase with ⟨p,hvp,hl0⟩|⟨gb,cap,cur,hvp,hg,q1,q2,q3,q4⟩
 ·have hl:l=[]:=xG.1 hl0;have hbn:b=[]:=by rw[hbl,hl];rfl
  subst hvp;refine(Mf func201 p 0 (.func (.func 252) #[] #[]) w).mono λe w' he=> ?_;obtain⟨rfl,rfl⟩:=he;refine fin w' _ rfl ⟨[],?_,λi hi=>by rw[hbn]at hi;cases hi⟩ (Kp.refl _ _);rw[hbn];exact⟨rfl, .inl ⟨p,rfl,rfl⟩⟩
 ·subst hvp;have hgs:gb<w.heap.size:=(y9.1 hg).1;have hAg:¬A gb:=hd.2 gb (bS.2 ⟨_,zo.2 rfl,rfl⟩);have q4:cur.toList.take (zR l*2)=us:=q4;have q3:cur.size=(cap+1)*2:=q3;have h1l:zR us=zR l*2:=h1l;have q1':zR l<=cap+1:=q1;obtain⟨d,d1,d2,d3⟩:=Vx h1l h3;have hH:HoldsK nM 2 w gb 0 d:=ID hg d3 (by rw[h1l];exact q4);have hcmp:∀(dk:Array (Ob A w)) (am:World),dk.size=d.size->SWK nM 2 w gb 0 dk am->∀x y:Ob A w,Calls vi 252 (#[.agg (nM x).toArray, .agg (nM y).toArray]++#[]) am λe w'=>e= .returned (.bool (eqO x y))/\∃q os',w'=grow (am.drewN q) os':=λdk am hdk ⟨n,os,hW⟩ x y=>by
   subst hW;exact Xg (awB x.1.1 y.1.1 (anA x)) (λc hc hA=>rL hc λe=>hAg (e▸hA))
  have hs:=aeL (P:=vi) func201 aW underlying3 Tryz.isAgg3 Tryz.sizeOf3 Tryz.zeroValue3 underlying4 Tryz.isAgg4 Tryz.sizeOf4 Tryz.zeroValue4 underlying50 Tryz.isAgg50 Tryz.sizeOf50 Tryz.zeroValue50
   2 Tryz.isAgg47 Tryz.sizeOf47 nM eqO 252 #[] gb 0 (cap+1) d w (enters_of func252 aW rfl) hcmp ⟨ki,Dw,hH,hgs⟩ (by rw[d1];omega) (by rw[d1];exact q1')
   (λkk=>(Builtin.zeroCells #[.slice I 0 0, .int .i64 0] (d.size-kk)).toList) (λam dk kk hS hdk hkk ty=>by
    obtain⟨n,os,rfl⟩:=hS;exact amq (tQ hg) (by simp[putCells,q3];omega) hkk)
  rw[d1]at hs;refine hs.mono λe w' he=> ?_;obtain⟨rfl,dk,am,⟨n,os,hW⟩,hdk,hlow,hfin⟩:=he;rw[<-d1]at hlow hfin ⊢;obtain⟨L,hL⟩:∃L,L=GM eqO d d.size:=⟨_,rfl⟩;rw[<-hL]at hlow hfin ⊢;have hLb:L.map (λx=>x.1.1)=b:=by
   rw[hL,UK d d.size (zm _),d2,d1,zH,hbl]
  have hLlen:zR L=zR b:=by rw[<-hLb,zu]
  have hbll:zR b<=zR l:=by rw[hbl];exact ame l
  have hWg:am.heap[gb]? =V (.cells (putCells id 0 (flatK nM 2 dk) cur) 47 (0,0)):=by rw[hW];exact tQ hg
  have hkW:Kp [gb] w am:=by rw[hW];exact Ox
  have hFs:(flatK nM 2 dk).size=zR l*2:=by rw[size_flatK,hdk]
  obtain⟨F,hF1,hF2,hF3,hF4⟩:∃F:Array Value,w'.heap[gb]? =V (.cells F 47 (0,0))/\F.size=(cap+1)*2/\F.toList.take (zR b*2)=(flatK nM 2 dk).toList.take (zR b*2)/\Kp [gb] w w':=by
   have ht:=Nq (F:=flatK nM 2 dk) (cur:=cur) (by rw[hFs,q3];omega);have ht2:(putCells id 0 (flatK nM 2 dk) cur).toList.take (zR b*2)=(flatK nM 2 dk).toList.take (zR b*2):=by
    rw[<-ht,List.take_take,Nat.min_eq_left (by rw[hFs];omega)]
   rcases hfin with rfl|rfl
   ·exact⟨_,hWg,by simp[putCells,q3],ht2,hkW⟩
   ·refine⟨_,gM _ _ _ _ hWg,by simp[putCells,q3],?_,Kp.trans hkW (jg _ _ _) λx hx _=>hx⟩;rw[<-ht2];apply List.ext_getElem?;intro j;by_cases hj:j<zR b*2
    ·rw[wz hj,wz hj,wO,wO];have hjs:j<(putCells id 0 (flatK nM 2 dk) cur).size:=by simp[putCells,q3];omega
     have:=get_setMany ((Builtin.zeroCells #[.slice I 0 0, .int .i64 0] (d.size-L.length)).toList) (0+zR L*2) _ j hjs;rw[bN aq,getElem!_pos _ j (by simpa using hjs),getElem!_pos _ j hjs]at this;rw[xd (by simpa using hjs),xd hjs,this]
    ·rw[List.getElem?_take_eq_none aq,List.getElem?_take_eq_none aq]
  have hdl:flatK nM 2 L.toArray=((flatK nM 2 dk).toList.take (zR b*2)).toArray:=by
   refine ext_get! (by simp[hLlen,hFs];omega) λt ht=> ?_;have ht:t<zR L*2:=by simpa using ht
   rw[get_flatK _ _ _ t (by simpa using ht)];have e1:(L.toArray)[t/2]! =dk[t/2]! :=by
    have:=hlow (t/2) aq;rw[getElem!_pos _ (t/2) (by simp;omega)];rw[zq aq]at this;simpa using zF.inj this
   have e2:(((flatK nM 2 dk).toList.take (zR b*2)).toArray)[t]! =(flatK nM 2 dk)[t]! :=by
    rw[getElem!_pos _ t (by simp[hFs];omega),getElem!_pos _ t (by rw[hFs];omega)];simp
   rw[e1,e2,get_flatK _ _ _ t (by rw[hdk];omega)]
  obtain⟨r1,r2⟩:=Sn L.toArray b (by simpa using hLb);rw[hdl]at r1 r2;refine fin w' _ rfl ⟨(flatK nM 2 dk).toList.take (zR b*2),⟨by simpa using r1, .inr ⟨gb,cap,F,by rw[hLlen],hF1,aq,q2,hF2,hF3⟩⟩,λi hi=>by simpa using r2 i hi⟩ hF4
def azJ:apk:=λg b hb=>aut g.2.1 b hb
end Go.Proofs.YtnfljbehcffmcaaGreat
end
noncomputable section
set_option maxRecDepth 100000
namespace Go.Proofs.YtnfljbehcffmcaaGreat
open Go Go.Iv
open Go.IntKind (i64 u64)
abbrev aCS:=aa aL
def d127:Td 0 aCS:= .c [] [2] (.r 0 1 (ec 2 (qo 0) en) (sr 0 34 sn) (λz=>z.2.1) (λx=>(((),()),(x,()))))
def aso(a0:aS):af aCS:=
 match m39 a0 with|I=>I|V r1=>V (r1)
def aFq:=eL vi 127 G (lc (qg 26) ln) d127 (λg=>aso g.1)
def ani:EO aFq:=λh=>kL (an:= .no) func127 (asA aV) aH h
structure NA where
 (t0 t1:List Int)
 (t12 t13:Int)
def adu:Td 0 NA:= .c [] [0,1,12,13] (.r 0 0 (ec 0 (ql 3) (ec 1 (ql 3) (ec 12 aN (ec 13 aN en)))) sn (λz=>⟨z.1.1,z.1.2.1,z.1.t.1,z.1.t.2.1⟩) (λx=>((x.t0,x.t1,x.t12,x.t13,()),(()))))
def Ue(p:NA):af (af NA):=
 bif J (p.t13<p.t12)then if 0<=p.t13/\p.t13<zR p.t0 then if 0<=p.t13/\p.t13<zR p.t1 then bif bif J (p.t0[zD p.t13]! =p.t1[zD p.t13]!)then G else O then V (I)else V (V (NA.mk p.t0 p.t1 p.t12 (aj (p.t13+1))))else I else I else V (I)
def Ve:=bI (Ue)
abbrev E77:=Bool
def d77:Td 0 E77:= .c [] [4] (.r 0 0 (ec 4 qb en) sn (λz=>z.1.1) (λx=>((x,()),(()))))
def m77(a0:aa Int)(a1:aa Int):af E77:=
 bif bif J ((zR a0:Int)=(zR a1:Int))then G else O then V G else match Ve (NA.mk a0 a1 (zR a0) 0)with|I=>I|V r1=>bif J (r1.t13<r1.t12)then if 0<=r1.t13/\r1.t13<zR r1.t0 then if 0<=r1.t13/\r1.t13<zR r1.t1 then bif bif J (r1.t0[zD r1.t13]! =r1.t1[zD r1.t13]!)then G else O then V G else I else I else I else V O
def e77:=eL vi 77 G (lc (ql 3) (lc (ql 3) ln)) d77 (λg=>m77 g.1 g.2.1)
def aba:EO e77:=λh=>kL (an:=(noTwo (noTwo (.two (noTwo (adu.lp Ve .no)) .no)))) (l:=[(aZ f77 0,(adu.lp Ve .no))]) func77 aV (aA (aO adu) aH) h
def P7:EP e77:=λh=>kP h
abbrev aCz:=Int
def d108:Td 0 aCz:= .c [] [2] (.r 0 0 (ec 2 aN en) sn (λz=>z.1.1) (λx=>((x,()),(()))))
def Oc(a0:aL):aCz:=
 aj (aj (a0.ag-a0.ah)+1)
def aFM:=eL vi 108 G (lc (qg 34) ln) d108 (λg=>V (Oc g.1))
def akE:EO aFM:=λh=>kL (an:= .no) func108 aV aH h
abbrev aE4:=Bool
def aCC(a0:aL):aE4:=
 J (1<Oc a0)
structure KE where
 t0:List aL
 (t7 t8:Int)
def asQ(p:KE):af (af KE):=
 bif J (p.t8<p.t7)then if 0<=p.t8/\p.t8<zR p.t0 then bif aCC p.t0[zD p.t8]! then V (I)else V (V (KE.mk p.t0 p.t7 (aj (p.t8+1))))else I else V (I)
def ar9:=bI (asQ)
abbrev aHf:=Int
def aHN(a0:aa aL):af aHf:=
 match ar9 (KE.mk a0 (zR a0) 0)with|I=>I|V r1=>bif J (r1.t8<r1.t7)then if 0<=r1.t8/\r1.t8<zR r1.t0 then bif aCC r1.t0[zD r1.t8]! then V (r1.t8)else I else I else V (-1)
abbrev aHX:=Bool
def aFF(a0:aa aL):af aHX:=
 match aHN a0 with|I=>I|V r1=>V (J (0<=r1))
abbrev aBg:=Bool
def d187:Td 0 aBg:= .c [] [4] (.r 0 0 (ec 4 qb en) sn (λz=>z.1.1) (λx=>((x,()),(()))))
def aja(a0:aB)(a1:aB):af aBg:=
 match K5 a0 a1 with|I=>I|V r1=>V (J (r1=0))
def aFI:=eL vi 187 G (lc (qg 47) (lc (qg 47) ln)) d187 (λg=>aja g.1 g.2.1)
def UD:EO aFI:=λh=>kL (an:= .no) func187 (sO aV) aH h
def aCv:bq:=(e77 dw)
abbrev aC9:=Bool
def d189:Td 0 aC9:= .c [] [4] (.r 0 0 (ec 4 qb en) sn (λz=>z.1.1) (λx=>((x,()),(()))))
def aCy:∀f∈([77]:aa Nat),bz (aCv) f:=(aA (P7 bF) aH)
def ZO(a0:Cell)(a1:Cell):af aC9:=
 match bif J (a0.b8=a1.b8)then bif J (a0.iU=a1.iU)then bif J (a0.cO=a1.cO)then match m77 a0.ax a1.ax with|I=>I|V r1=>bif r1 then match m77 a0.cG a1.cG with|I=>I|V r2=>V (r2)else V (G)else V (G)else V (G)else V (G)with|I=>I|V r3=>V (r3)
def aHF:=eL vi 189 G (lc (qg 117) (lc (qg 117) ln)) d189 (λg=>ZO g.1 g.2.1)
def W0:EO aHF:=λh=>kL (F:=aCv) (an:=(noTwo (.two (.rb [77] 4) .no))) (l:=[(.skip,(.rb [77] 4))]) func189 (aba aV) (aA aCy aH) h
structure LE (α W:Type) where
 t1:List W
 t15:List α
 (t16 t17:Int)
def dE(ta tb k:Nat):Td 0 (LE (uni.dh ta) (uni.dh tb)):= .c [] [1,2,15,16,17] (.r 0 0 (ec 1 (ql tb) (ec 2 (qf k ln) (ec 15 (ql ta) (ec 16 aN (ec 17 aN en))))) sn (λz=>⟨z.1.1,z.1.2.2.1,z.1.2.2.2.1,z.1.2.2.2.2.1⟩) (λx=>((x.t1,(()),x.t15,x.t16,x.t17,()),(()))) λ_=>rfl)
def nE{α W:Type}[Inhabited α][Inhabited W](q:α->W->af Bool)(p:LE α W):af (af (LE α W)):=
 bif J (p.t17<p.t16)then if(0:Int)<=p.t17/\p.t17<(zR p.t15:Int)then if(0:Int)<=p.t17/\p.t17<(zR p.t1:Int)then match q p.t15[zD p.t17]! p.t1[zD p.t17]! with|I=>I|V r1=>bif bif r1 then G else O then V (I)else V (V (LE.mk p.t1 p.t15 p.t16 (aj (p.t17+1))))else I else I else V (I)
def mE{α W:Type}[Inhabited α][Inhabited W](q:α->W->af Bool)(a0:aa α)(a1:aa W):af Bool:=
 bif bif J ((zR a0:Int)=(zR a1:Int))then G else O then V (G)else match bI (nE q) (LE.mk a1 a0 (zR a0:Int) (0))with|I=>I|V r2=>bif J (r2.t17<r2.t16)then if(0:Int)<=r2.t17/\r2.t17<(zR r2.t15:Int)then if(0:Int)<=r2.t17/\r2.t17<(zR r2.t1:Int)then match q r2.t15[zD r2.t17]! r2.t1[zD r2.t17]! with|I=>I|V r3=>bif bif r3 then G else O then V (G)else I else I else I else V (O)
def dEq:Td 0 Bool:= .c [] [6] (.r 0 0 (ec 6 qb en) sn (λz=>z.1.1) (λx=>((x,()),(()))) λ_=>rfl)
def Te:Td 0 (LE Cell Cell):=dE 117 117 189
def atS(p:(LE Cell Cell)):af (af (LE Cell Cell)):=nE ZO p
def ad5:=bI (atS)
abbrev aCc:=Bool
def d120:Td 0 aCc:=dEq
def alh(a0:aa Cell)(a1:aa Cell):af aCc:=mE ZO a0 a1
def TG:=eL vi 120 G (lc (ql 117) (lc (ql 117) (lc (qf 189 ln) ln))) d120 (λg=>alh g.1 g.2.1)
def Uv:EO TG:=λh=>kL (an:=(noTwo (noTwo (.two (noTwo (Te.lp ad5 .no)) .no)))) (l:=[(aZ f120 0,(Te.lp ad5 .no))]) func120 (W0 aV) (aA (aO Te) aH) h
def Ij:EP TG:=λh=>kP h
def adT:Td 0 (LE aB aB):=dE 47 47 187
def aA3(p:(LE aB aB)):af (af (LE aB aB)):=nE aja p
def anS:=bI (aA3)
abbrev E71:=Bool
def d71:Td 0 E71:=dEq
def m71(a0:aa aB)(a1:aa aB):af E71:=mE aja a0 a1
def e71:=eL vi 71 G (lc (ql 47) (lc (ql 47) (lc (qf 187 ln) ln))) d71 (λg=>m71 g.1 g.2.1)
def abj:EO e71:=λh=>kL (an:=(noTwo (noTwo (.two (noTwo (adT.lp anS .no)) .no)))) (l:=[(aZ f71 0,(adT.lp anS .no))]) func71 (UD aV) (aA (aO adT) aH) h
def N3:EP e71:=λh=>kP h
def aGH:bq:=dw
abbrev aqE:=aL
def d250:Td 0 aqE:= .c [] [4] (.r 0 1 (ec 4 (qp 0 0) en) (sb 0 34 (lg 34) sn) (λz=>z.2.1) (λx=>(((),()),(x,()))))
def aA2:=(aU (aU ln))
def ap2:An:= .no
def Se(a0:Int)(a1:Int):aqE:=
 bif J (a0=a1)then aL.mk a0 a1 (0)else aL.mk a0 a1 (1)
def aFV(a0:Int)(a1:Int):bV vi (aGH) 300 (ap2) 250 (aA2.c (a0,a1,())) [] 0 d250.rd=V (Se a0 a1):=by
 refine Eq.trans (b:=(
  bif J (a0=a1)then V (aL.mk a0 a1 (0))else V (aL.mk a0 a1 (1)):af aqE)) aW ?_
 simp only[Se,cu,cQ]
def aG9:=eL vi 250 G aA2 d250 (λg=>V (Se g.1 g.2.1))
def ahS:EO aG9:=λh=>kL (an:=ap2) func250 aV aH h (c:=λg=>aFV g.1 g.2.1)
abbrev aC3:=(aa aL)×(aa aL)
def d186:Td 0 aC3:= .c [] [6,7] (.r 0 2 (ec 6 (qo 0) (ec 7 (qo 1) en)) (sr 0 34 (sr 1 34 sn)) (λz=>(z.2.1,z.t.1)) (λx=>(((),(),()),(x.1,x.2,()))))
def YK(a0:aa aL)(a1:Int)(a2:Int):af aC3:=
 match Qu a0 with|I=>I|V r1=>match Qu a0 with|I=>I|V r2=>if 0<=a1/\a1<zR a0 then if 0<=a1/\a1<(↑(zR r1):Int)then if 34=34/\a1.toNat<zR r1 then if 0<=a1/\a1<zR a0 then if 0<=a1/\a1<(↑(zR r2):Int)then if 34=34/\a1.toNat<zR r2 then V ((List.set r1 a1.toNat (Se a0[a1.toNat]!.ah a2),List.set r2 a1.toNat (Se (aj (a2+1)) a0[a1.toNat]!.ag)))else I else I else I else I else I else I
def aes:=eL vi 186 G (lc (ql 34) (aU (aU ln))) d186 (λg=>YK g.1 g.2.1 g.t.1)
def VP:EO aes:=λh=>kL (an:= .no) func186 (ahS (tT aV)) aH h
abbrev azR:=Tree
def d185:Td 2 azR:= .c [] [] (.r 2 3 en (sb 0 172 (lc (ql 131) (lc (ql 139) (lc (ql 166) (lc (ql 3) (lc qb (lc (qo 2) ln)))))) (sr 2 174 sn)) (λz=>(Tree.mk (aS.mk z.2.1.1 z.2.1.2.1 z.2.1.t.1) (bT.mk z.2.1.t.2.1 z.2.1.q.1) z.t.1)) (λx=>((()),((x.fF.ai,x.fF.au,x.fF.bK,x.fV.bf,x.fV.fm,(),()),x.aP,()))))
def aEv:=(sb 0 172 (lc (ql 131) (lc (ql 139) (lc (ql 166) (lc (ql 3) (lc qb (lc (qo 1) ln)))))) (sr 1 174 sn))
def adG(a1:aa aL)(b0:Tree):af azR:=
 match Qe b0.fF b0.fV a1 with|I=>I|V r1=>match XE b0.fF b0.fV a1 with|I=>I|V r2=>if(b0.aP++[dI.mk a1 ((0:Int)) ((0:Int)) [] r1.fst r2.snd.fst r2.fst]).length<=1073741824 then V (Tree.mk b0.fF b0.fV (b0.aP++[dI.mk a1 0 0 [] r1.fst r2.snd.fst r2.fst]))else I
def aGv:bq->bq:=eY vi 185 2 (lc (qp 0 0) (lc (ql 34) ln)) aEv d185 (λg=>adG g.1.2.1 ((Tree.mk (aS.mk g.2.1.1 g.2.1.2.1 g.2.1.t.1) (bT.mk g.2.1.t.2.1 g.2.1.q.1) g.t.1)))
def amP:EO aGv:=λh=>kY (an:= .no) func185 (Ld (I7 aV)) aH h
abbrev aAw:=Tree
def d191:Td 2 aAw:= .c [] [] (.r 2 3 en (sb 0 172 (lc (ql 131) (lc (ql 139) (lc (ql 166) (lc (ql 3) (lc qb (lc (qo 2) ln)))))) (sr 2 174 sn)) (λz=>(Tree.mk (aS.mk z.2.1.1 z.2.1.2.1 z.2.1.t.1) (bT.mk z.2.1.t.2.1 z.2.1.q.1) z.t.1)) (λx=>((()),((x.fF.ai,x.fF.au,x.fF.bK,x.fV.bf,x.fV.fm,(),()),x.aP,()))))
def aEG:=(sb 0 172 (lc (ql 131) (lc (ql 139) (lc (ql 166) (lc (ql 3) (lc qb (lc (qo 1) ln)))))) (sr 1 174 sn))
def lR(x0:Tree)(x1:Int)(x2:Int):=
 x0.aP.set x1.toNat (dI.mk x0.aP[x1.toNat]!.bP x2 x0.aP[x1.toNat]!.iU x0.aP[x1.toNat]!.ax x0.aP[x1.toNat]!.cO x0.aP[x1.toNat]!.dW x0.aP[x1.toNat]!.cG)
def l5(x0:Tree)(x1:Int)(x2:Int)(x3:Int):=
 (lR x0 x1 x2).set x1.toNat (dI.mk (lR x0 x1 x2)[x1.toNat]!.bP (lR x0 x1 x2)[x1.toNat]!.b8 x3 (lR x0 x1 x2)[x1.toNat]!.ax (lR x0 x1 x2)[x1.toNat]!.cO (lR x0 x1 x2)[x1.toNat]!.dW (lR x0 x1 x2)[x1.toNat]!.cG)
def ais(a1:Int)(a2:Int)(a3:Int)(b0:Tree):af aAw:=
 if 0<=a1/\a1<zR b0.aP then if 174=174/\a1.toNat<zR b0.aP then match YK b0.aP[a1.toNat]!.bP a2 a3 with|I=>I|V r1=>if 0<=a1/\a1<zR b0.aP then if 174=174/\a1.toNat<zR b0.aP then if 0<=a1/\a1<(↑(lR b0 a1 a2).length:Int)then if 174=174/\a1.toNat<zR (lR b0 a1 a2) then if 0<=a1/\a1<(↑(l5 b0 a1 a2 a3).length:Int)then if 174=174/\a1.toNat<zR (l5 b0 a1 a2 a3) then match adG r1.fst (Tree.mk b0.fF b0.fV ((l5 b0 a1 a2 a3).set a1.toNat (dI.mk (l5 b0 a1 a2 a3)[a1.toNat]!.bP (l5 b0 a1 a2 a3)[a1.toNat]!.b8 (l5 b0 a1 a2 a3)[a1.toNat]!.iU [(zR b0.aP:Int),aj ((zR b0.aP:Int)+1)] (l5 b0 a1 a2 a3)[a1.toNat]!.cO (l5 b0 a1 a2 a3)[a1.toNat]!.dW (l5 b0 a1 a2 a3)[a1.toNat]!.cG)))with|I=>I|V r2=>match adG r1.snd r2 with|I=>I|V r3=>V (r3)else I else I else I else I else I else I else I else I
def avh:bq->bq:=eY vi 191 2 (lc (qp 0 0) (aU (aU (aU ln)))) aEG d191 (λg=>ais g.1.2.1 g.1.t.1 g.1.t.2.1 ((Tree.mk (aS.mk g.2.1.1 g.2.1.2.1 g.2.1.t.1) (bT.mk g.2.1.t.2.1 g.2.1.q.1) g.t.1)))
def ahG:EO avh:=λh=>kY (an:= .no) func191 (VP (amP aV)) aH h
structure rP where
 t1:Int
 t5:List aL
 t6:Int
 t24:List aL
 (t25 t26:Int)
 b0:Tree
def Kv:Td 2 rP:= .c [] [0,1,5,6,24,25,26] (.r 2 2 (ec 0 (qp 0 0) (ec 1 aN (ec 5 (ql 34) (ec 6 aN (ec 24 (ql 34) (ec 25 aN (ec 26 aN en))))))) (sb 0 172 (lc (ql 131) (lc (ql 139) (lc (ql 166) (lc (ql 3) (lc qb (lc (qo 1) ln)))))) (sr 1 174 sn)) (λz=>⟨z.1.2.1,z.1.t.1,z.1.t.2.1,z.1.q.1,z.1.q.2.1,z.1.q.t.1,(Tree.mk (aS.mk z.2.1.1 z.2.1.2.1 z.2.1.t.1) (bT.mk z.2.1.t.2.1 z.2.1.q.1) z.t.1)⟩) (λx=>(((),x.t1,x.t5,x.t6,x.t24,x.t25,x.t26,()),((x.b0.fF.ai,x.b0.fF.au,x.b0.fF.bK,x.b0.fV.bf,x.b0.fV.fm,(),()),x.b0.aP,()))))
def vB(p:rP):af (af rP):=
 bif J (p.t26<p.t25)then if 0<=p.t26/\p.t26<zR p.t24 then if 0<=p.t6/\p.t6<zR p.t5 then bif J (Oc p.t5[zD p.t6]! <Oc p.t24[zD p.t26]!)then V (V (rP.mk p.t1 p.t5 p.t26 p.t24 p.t25 (aj (p.t26+1)) p.b0))else V (V (rP.mk p.t1 p.t5 p.t6 p.t24 p.t25 (aj (p.t26+1)) p.b0))else I else I else V (I)
def C9:=bI (vB)
abbrev aoA:=Int×Tree
def aA1:Td 2 aoA:= .c [] [4] (.r 2 3 (ec 4 aN en) (sb 0 172 (lc (ql 131) (lc (ql 139) (lc (ql 166) (lc (ql 3) (lc qb (lc (qo 2) ln)))))) (sr 2 174 sn)) (λz=>(z.1.1,(Tree.mk (aS.mk z.2.1.1 z.2.1.2.1 z.2.1.t.1) (bT.mk z.2.1.t.2.1 z.2.1.q.1) z.t.1))) (λx=>((x.1,()),((x.2.fF.ai,x.2.fF.au,x.2.fF.bK,x.2.fV.bf,x.2.fV.fm,(),()),x.2.aP,()))))
def aBm:=(sb 0 172 (lc (ql 131) (lc (ql 139) (lc (ql 166) (lc (ql 3) (lc qb (lc (qo 1) ln)))))) (sr 1 174 sn))
def IF(a1:Int)(b0:Tree):af aoA:=
 bif J (8192<aj ((zR b0.aP:Int)+2))then I else if 0<=a1/\a1<zR b0.aP then if 174=174/\a1.toNat<zR b0.aP then match C9 (rP.mk a1 b0.aP[a1.toNat]!.bP 0 b0.aP[a1.toNat]!.bP (↑b0.aP[a1.toNat]!.bP.length:Int) 0 b0)with|I=>I|V r1=>bif J (r1.t26<r1.t25)then if 0<=r1.t26/\r1.t26<zR r1.t24 then if 0<=r1.t6/\r1.t6<zR r1.t5 then bif J (Oc r1.t5[zD r1.t6]! <Oc r1.t24[zD r1.t26]!)then I else I else I else I else if 0<=r1.t6/\r1.t6<zR r1.t5 then if 0<=r1.t6/\r1.t6<zR r1.t5 then match ais r1.t1 r1.t6 (cT IntKind.i64 (aj (r1.t5[zD r1.t6]!.ah+r1.t5[zD r1.t6]!.ag)) 1) r1.b0 with|I=>I|V r2=>V (0,r2)else I else I else I else I
def ap0:bq->bq:=eY vi 109 2 (lc (qp 0 0) (aU ln)) aBm aA1 (λg=>IF g.1.2.1 ((Tree.mk (aS.mk g.2.1.1 g.2.1.2.1 g.2.1.t.1) (bT.mk g.2.1.t.2.1 g.2.1.q.1) g.t.1)))
def acC:EO ap0:=λh=>kY (an:=(noTwo (noTwo (noTwo (noTwo (.two (noTwo (Kv.lp C9 .no)) .no)))))) (l:=[(aZ f109 0,(Kv.lp C9 .no))]) func109 (ahG (akE aV)) (aA (aO Kv) aH) h
structure kO where
 t0:List aB
 (t8 t9 t10:Int)
 b0:aB
def dB(k:Nat):Td 0 kO:= .c [] [0,2,4,8,9,10] (.r 0 1 (ec 0 (ql 47) (ec 2 (qf k ln) (ec 4 (qp 0 0) (ec 8 aN (ec 9 aN (ec 10 aN en)))))) (sb 0 47 (lg 47) sn) (λz=>⟨z.1.1,z.1.2.2.2.1,z.1.2.2.2.2.1,z.1.2.2.2.2.2.1,z.2.1⟩) (λx=>((x.t0,(()),(),x.t8,x.t9,x.t10,()),(x.b0,()))) λ_=>rfl)
def nB(q:aB->aB->af Int)(p:kO):af (af kO):=
 bif J (p.t9<p.t10)then if(0:Int)<=aj (cT u64 (bE (aj (p.t9+p.t10))) ((1:Int)))/\aj (cT u64 (bE (aj (p.t9+p.t10))) ((1:Int)))<(zR p.t0:Int)then match q p.t0[(aj (cT u64 (bE (aj (p.t9+p.t10))) (1))).toNat]! p.b0 with|I=>I|V r1=>bif J (r1<0)then V (V (kO.mk p.t0 p.t8 (aj (aj (cT u64 (bE (aj (p.t9+p.t10))) (1))+1)) p.t10 p.b0))else V (V (kO.mk p.t0 p.t8 p.t9 (aj (cT u64 (bE (aj (p.t9+p.t10))) (1))) p.b0))else I else V (I)
def mB(q:aB->aB->af Int)(a0:aa aB)(a1:aB):af (Int×Bool):=
 match bI (nB q) (kO.mk a0 (zR a0:Int) (0) (zR a0:Int) a1)with|I=>I|V r2=>bif J (r2.t9<r2.t10)then if(0:Int)<=aj (cT u64 (bE (aj (r2.t9+r2.t10))) ((1:Int)))/\aj (cT u64 (bE (aj (r2.t9+r2.t10))) ((1:Int)))<(zR r2.t0:Int)then match q r2.t0[(aj (cT u64 (bE (aj (r2.t9+r2.t10))) (1))).toNat]! r2.b0 with|I=>I|V r3=>bif J (r3<0)then I else I else I else bif J (r2.t9<r2.t8)then if(0:Int)<=r2.t9/\r2.t9<(zR r2.t0:Int)then match q r2.t0[zD r2.t9]! r2.b0 with|I=>I|V r4=>V ((r2.t9,J (r4=0)))else I else V ((r2.t9,G))
def dBs:Td 0 (Int×Bool):= .c [] [6,7] (.r 0 0 (ec 6 aN (ec 7 qb en)) sn (λz=>(z.1.1,z.1.2.1)) (λx=>((x.1,x.2,()),(()))) λ_=>rfl)
def QK:Td 0 kO:=dB 188
def arH(p:kO):af (af kO):=nB K5 p
def acB:=bI (arH)
abbrev aBS:=Int×Bool
def d123:Td 0 aBS:=dBs
def agB(a0:aa aB)(a1:aB):af aBS:=mB K5 a0 a1
def Nk:=eL vi 123 G (lc (ql 47) (lc (qg 47) (lc (qf 188 ln) ln))) d123 (λg=>agB g.1 g.2.1)
def akx:EO Nk:=λh=>kL (an:=(noTwo (noTwo (noTwo (.two (QK.lp acB .no) .no))))) (l:=[(aZ f123 0,(QK.lp acB .no))]) func123 (sO aV) (aA (aO QK) aH) h
structure BN where
 t3:List aB
 t9:List dI
 (t10 t11:Int)
 b0:Tree
def Qg:Td 2 BN:= .c [] [3,9,10,11] (.t (bX.s 3 [] 47) (.c [] [3,9,10,11] (.r 2 3 (ec 3 (qo 2) (ec 9 (qo 1) (ec 10 aN (ec 11 aN en)))) (sb 0 172 (lc (ql 131) (lc (ql 139) (lc (ql 166) (lc (ql 3) (lc qb (lc (qo 1) ln)))))) (sr 1 174 (sr 2 47 sn))) (λz=>⟨z.t.2.1,z.t.1,z.1.t.1,z.1.t.2.1,(Tree.mk (aS.mk z.2.1.1 z.2.1.2.1 z.2.1.t.1) (bT.mk z.2.1.t.2.1 z.2.1.q.1) z.t.1)⟩) (λx=>(((),(),x.t10,x.t11,()),((x.b0.fF.ai,x.b0.fF.au,x.b0.fF.bK,x.b0.fV.bf,x.b0.fV.fm,(),()),x.b0.aP,x.t3,()))))))
def KP(p:BN):af (af BN):=
 bif J (p.t11<p.t10)then if 0<=p.t11/\p.t11<zR p.b0.aP then if 174=174/\zD p.t11<zR p.b0.aP then bif p.b0.aP[zD p.t11]!.dW then if(p.t3++[p.b0.aP[zD p.t11]!.cG]).length<=1073741824 then V (V (BN.mk (p.t3++[p.b0.aP[zD p.t11]!.cG]) p.b0.aP p.t10 (aj (p.t11+1)) p.b0))else I else V (V (BN.mk p.t3 p.b0.aP p.t10 (aj (p.t11+1)) p.b0))else I else I else V (I)
def Je:=bI (KP)
abbrev aw1:=(aa aB)×Tree
def d192:Td 2 aw1:= .c [] [2] (.r 2 3 (ec 2 (qo 2) en) (sb 0 172 (lc (ql 131) (lc (ql 139) (lc (ql 166) (lc (ql 3) (lc qb (lc (qo 1) ln)))))) (sr 1 174 (sr 2 47 sn))) (λz=>(z.t.2.1,(Tree.mk (aS.mk z.2.1.1 z.2.1.2.1 z.2.1.t.1) (bT.mk z.2.1.t.2.1 z.2.1.q.1) z.t.1))) (λx=>(((),()),((x.2.fF.ai,x.2.fF.au,x.2.fF.bK,x.2.fV.bf,x.2.fV.fm,(),()),x.2.aP,x.1,()))))
def aEW:=(sb 0 172 (lc (ql 131) (lc (ql 139) (lc (ql 166) (lc (ql 3) (lc qb (lc (qo 1) ln)))))) (sr 1 174 sn))
def amK(b0:Tree):af aw1:=
 match Je (BN.mk [] b0.aP (zR b0.aP) 0 b0)with|I=>I|V r1=>bif J (r1.t11<r1.t10)then if 0<=r1.t11/\r1.t11<zR r1.b0.aP then if 174=174/\zD r1.t11<zR r1.b0.aP then bif r1.b0.aP[zD r1.t11]!.dW then if(r1.t3++[r1.b0.aP[zD r1.t11]!.cG]).length<=1073741824 then I else I else I else I else I else match Y5 r1.t3 with|I=>I|V r2=>match X8 r2 with|I=>I|V r3=>V (r3,r1.b0)
def avn:bq->bq:=eY vi 192 2 (lc (qp 0 0) ln) aEW d192 (λg=>amK ((Tree.mk (aS.mk g.2.1.1 g.2.1.2.1 g.2.1.t.1) (bT.mk g.2.1.t.2.1 g.2.1.q.1) g.t.1)))
def ajg:EO avn:=λh=>kY (an:=(noTwo (noTwo (.two (noTwo (Qg.lp Je .no)) .no)))) (l:=[(aZ f192 0,(Qg.lp Je .no))]) func192 (acy azJ (Z9 aCk (sO aV))) (aA (aO Qg) aH) h
structure AX where
 t4:List aB
 t35:List dI
 (t36 t37:Int)
 b0:Tree
 (b2 b3:aY)
def Qk:Td 2 AX:= .c [] [2,3,4,35,36,37] (.t (bX.c 3 1 [] 117) (.c [] [2,3,4,35,36,37] (.r 2 7 (ec 2 (qp 2 0) (ec 3 (qp 3 0) (ec 4 (qo 4) (ec 35 (qo 1) (ec 36 aN (ec 37 aN en)))))) (sb 0 172 (lc (ql 131) (lc (ql 139) (lc (ql 166) (lc (ql 3) (lc qb (lc (qo 1) ln)))))) (sr 1 174 (sb 2 84 (lc qn (lc qn ln)) (sb 3 84 (lc (qo 5) (lc (qo 6) ln)) (sr 4 47 (sr 5 47 (sr 6 117 sn))))))) (λz=>⟨z.q.2.1,z.t.1,z.1.q.1,z.1.q.2.1,(Tree.mk (aS.mk z.2.1.1 z.2.1.2.1 z.2.1.t.1) (bT.mk z.2.1.t.2.1 z.2.1.q.1) z.t.1),(aY.mk [] []),(aY.mk z.q.t.1 z.q.t.2.1)⟩) (λx=>(((),(),(),(),x.t36,x.t37,()),((x.b0.fF.ai,x.b0.fF.au,x.b0.fF.bK,x.b0.fV.bf,x.b0.fV.fm,(),()),x.b0.aP,((),(),()),((),(),()),x.t4,x.b3.cG,x.b3.aP,()))))))
def Lv(p:AX):af (af AX):=
 bif J (p.t37<p.t36)then if 0<=p.t37/\p.t37<zR p.b0.aP then if 174=174/\zD p.t37<zR p.b0.aP then match WK p.b0.aP[zD p.t37]!.ax with|I=>I|V r2=>bif p.b0.aP[zD p.t37]!.dW then match agB p.t4 p.b0.aP[zD p.t37]!.cG with|I=>I|V r3=>if(p.b3.aP++[Cell.mk p.b0.aP[zD p.t37]!.b8 p.b0.aP[zD p.t37]!.iU r2 [r3.fst] p.b0.aP[zD p.t37]!.cO]).length<=1073741824 then V (V (AX.mk p.t4 p.b0.aP p.t36 (aj (p.t37+1)) p.b0 (aY.mk [] []) (aY.mk p.b3.cG (p.b3.aP++[Cell.mk p.b0.aP[zD p.t37]!.b8 p.b0.aP[zD p.t37]!.iU r2 [r3.fst] p.b0.aP[zD p.t37]!.cO]))))else I else if(p.b3.aP++[Cell.mk p.b0.aP[zD p.t37]!.b8 p.b0.aP[zD p.t37]!.iU r2 [] p.b0.aP[zD p.t37]!.cO]).length<=1073741824 then V (V (AX.mk p.t4 p.b0.aP p.t36 (aj (p.t37+1)) p.b0 (aY.mk [] []) (aY.mk p.b3.cG (p.b3.aP++[Cell.mk p.b0.aP[zD p.t37]!.b8 p.b0.aP[zD p.t37]!.iU r2 [] p.b0.aP[zD p.t37]!.cO]))))else I else I else I else V (I)
def LC:=bI (Lv)
structure Fs where
 (t4 t14:List aB)
 (t15 t16:Int)
 b0:Tree
 (b2 b3:aY)
def RK:Td 2 Fs:= .c [] [0,2,3,4,14,15,16] (.t (bX.c 3 0 [] 47) (.c [] [0,2,3,4,14,15,16] (.r 2 6 (ec 0 (qp 0 0) (ec 2 (qp 2 0) (ec 3 (qp 3 0) (ec 4 (qo 4) (ec 14 (qo 4) (ec 15 aN (ec 16 aN en))))))) (sb 0 172 (lc (ql 131) (lc (ql 139) (lc (ql 166) (lc (ql 3) (lc qb (lc (qo 1) ln)))))) (sr 1 174 (sb 2 84 (lc qn (lc qn ln)) (sb 3 84 (lc (qo 5) (lc qn ln)) (sr 4 47 (sr 5 47 sn)))))) (λz=>⟨z.q.2.1,z.q.2.1,z.1.q.2.1,z.1.q.t.1,(Tree.mk (aS.mk z.2.1.1 z.2.1.2.1 z.2.1.t.1) (bT.mk z.2.1.t.2.1 z.2.1.q.1) z.t.1),(aY.mk [] []),(aY.mk z.q.t.1 [])⟩) (λx=>(((),(),(),(),(),x.t15,x.t16,()),((x.b0.fF.ai,x.b0.fF.au,x.b0.fF.bK,x.b0.fV.bf,x.b0.fV.fm,(),()),x.b0.aP,((),(),()),((),(),()),x.t14,x.b3.cG,()))))))
def KD(p:Fs):af (af Fs):=
 bif J (p.t16<p.t15)then if 0<=p.t16/\p.t16<zR p.t14 then if 47=47/\zD p.t16<zR p.t14 then match WK p.t14[zD p.t16]!.aK with|I=>I|V r1=>if(p.b3.cG++[aB.mk r1 p.t14[zD p.t16]!.aI]).length<=1073741824 then V (V (Fs.mk p.t14 p.t14 p.t15 (aj (p.t16+1)) p.b0 (aY.mk [] []) (aY.mk (p.b3.cG++[aB.mk r1 p.t14[zD p.t16]!.aI]) [])))else I else I else I else V (I)
def IU:=bI (KD)
abbrev aBB:=aY×Tree
def d110:Td 2 aBB:= .c [] [2] (.r 2 5 (ec 2 (qp 2 0) en) (sb 0 172 (lc (ql 131) (lc (ql 139) (lc (ql 166) (lc (ql 3) (lc qb (lc (qo 1) ln)))))) (sr 1 174 (sb 2 84 (lc (qo 3) (lc (qo 4) ln)) (sr 3 47 (sr 4 117 sn))))) (λz=>((aY.mk z.q.1 z.q.2.1),(Tree.mk (aS.mk z.2.1.1 z.2.1.2.1 z.2.1.t.1) (bT.mk z.2.1.t.2.1 z.2.1.q.1) z.t.1))) (λx=>(((),()),((x.2.fF.ai,x.2.fF.au,x.2.fF.bK,x.2.fV.bf,x.2.fV.fm,(),()),x.2.aP,((),(),()),x.1.cG,x.1.aP,()))))
def aEJ:=(sb 0 172 (lc (ql 131) (lc (ql 139) (lc (ql 166) (lc (ql 3) (lc qb (lc (qo 1) ln)))))) (sr 1 174 sn))
def MT(b0:Tree):af aBB:=
 match amK b0 with|I=>I|V r4=>match IU (Fs.mk r4.fst r4.fst (zR r4.fst) 0 r4.snd (aY.mk [] []) (aY.mk [] []))with|I=>I|V r5=>bif J (r5.t16<r5.t15)then if 0<=r5.t16/\r5.t16<zR r5.t14 then if 47=47/\zD r5.t16<zR r5.t14 then match WK r5.t14[zD r5.t16]!.aK with|I=>I|V r6=>if(r5.b3.cG++[aB.mk r6 r5.t14[zD r5.t16]!.aI]).length<=1073741824 then I else I else I else I else match LC (AX.mk r5.t14 r5.b0.aP (zR r5.b0.aP) 0 r5.b0 (aY.mk [] []) (aY.mk r5.b3.cG []))with|I=>I|V r7=>bif J (r7.t37<r7.t36)then if 0<=r7.t37/\r7.t37<zR r7.b0.aP then if 174=174/\zD r7.t37<zR r7.b0.aP then match WK r7.b0.aP[zD r7.t37]!.ax with|I=>I|V r8=>bif r7.b0.aP[zD r7.t37]!.dW then match agB r7.t4 r7.b0.aP[zD r7.t37]!.cG with|I=>I|V r9=>if(r7.b3.aP++[Cell.mk r7.b0.aP[zD r7.t37]!.b8 r7.b0.aP[zD r7.t37]!.iU r8 [r9.fst] r7.b0.aP[zD r7.t37]!.cO]).length<=1073741824 then I else I else if(r7.b3.aP++[Cell.mk r7.b0.aP[zD r7.t37]!.b8 r7.b0.aP[zD r7.t37]!.iU r8 [] r7.b0.aP[zD r7.t37]!.cO]).length<=1073741824 then I else I else I else I else V (r7.b3,r7.b0)
def Ek:bq->bq:=eY vi 110 2 (lc (qp 0 0) ln) aEJ d110 (λg=>MT ((Tree.mk (aS.mk g.2.1.1 g.2.1.2.1 g.2.1.t.1) (bT.mk g.2.1.t.2.1 g.2.1.q.1) g.t.1)))
def Jq:EO Ek:=λh=>kY (an:=(noTwo (noTwo (noTwo (.two (noTwo (RK.lp IU .no)) (.two (noTwo (Qk.lp LC .no)) .no)))))) (l:=[(aZ f110 0,(RK.lp IU .no)),(aZ f110 1,(Qk.lp LC .no))]) func110 (ajg (sO (akx (uG aV)))) (aA (aO RK) (aA (aO Qk) aH)) h
def aAP:bq:=dw
structure D4 where
 t73:List Int
 (t74 t75:Int)
def TU:Td 0 D4:= .c [] [73,74,75] (.r 0 1 (ec 73 (qo 0) (ec 74 aN (ec 75 aN en))) (sr 0 3 sn) (λz=>⟨z.2.1,z.1.2.1,z.1.t.1⟩) (λx=>(((),x.t74,x.t75,()),(x.t73,()))))
def Lu(p:D4):af (af D4):=
 bif J (p.t75<p.t74)then if 0<=p.t75/\p.t75<zR p.t73 then if 3=3/\zD p.t75<zR p.t73 then match bif bif(match J (p.t73[zD p.t75]! =1)with|O=>G|G=>O)==J (p.t75=0)then G else O then V O else V (J (1<p.t73[zD p.t75]!))with|I=>I|V r5=>bif r5 then V (I)else V (V (D4.mk p.t73 p.t74 (aj (p.t75+1))))else I else I else V (I)
def ac2:An:=(noTwo (noTwo (.two (noTwo (.two (.rb [] 88) .no)) .no)))
def J9:=bI (Lu)
structure Bt where
 t0:List Cell
 t3:List Int
 t4:Int
 t16:List Cell
 (t17 t18:Int)
 t50:List Int
 (t51 t52:Int)
def QS:Td 0 Bt:= .c [] [0,3,4,16,17,18,50,51,52] (.r 0 1 (ec 0 (ql 117) (ec 3 (qo 0) (ec 4 aN (ec 16 (ql 117) (ec 17 aN (ec 18 aN (ec 50 (ql 3) (ec 51 aN (ec 52 aN en))))))))) (sr 0 3 sn) (λz=>⟨z.1.1,z.2.1,z.1.t.1,z.1.t.2.1,z.1.q.1,z.1.q.2.1,z.1.q.t.1,z.1.q.t.2.1,z.1.q.q.1⟩) (λx=>((x.t0,(),x.t4,x.t16,x.t17,x.t18,x.t50,x.t51,x.t52,()),(x.t3,()))))
def J5(p:Bt):af (af Bt):=
 bif J (p.t52<p.t51)then if 0<=p.t52/\p.t52<zR p.t50 then match bif J (p.t50[zD p.t52]!<=p.t4)then V O else V (J (zR p.t0<=p.t50[zD p.t52]!))with|I=>I|V r4=>bif r4 then V (I)else if 0<=p.t50[zD p.t52]!/\p.t50[zD p.t52]! <(zR p.t3:Int)then if 3=3/\zD p.t50[zD p.t52]! <zR p.t3 then if 0<=p.t50[zD p.t52]!/\p.t50[zD p.t52]! <(zR p.t3:Int)then if 3=3/\zD p.t50[zD p.t52]! <zR p.t3 then V (V (Bt.mk p.t0 (p.t3.set (zD p.t50[zD p.t52]!) (aj (p.t3[zD p.t50[zD p.t52]!]! +1))) p.t4 p.t16 p.t17 p.t18 p.t50 p.t51 (aj (p.t52+1))))else I else I else I else I else I else V (I)
def aej:An:=(noTwo (noTwo (.two (noTwo (.two (.two (.rb [] 64) .no) .no)) .no)))
def En:=bI (J5)
structure EH where
 t0:List Cell
 t3:List Int
 t16:List Cell
 (t17 t18:Int)
def R5:Td 0 EH:= .c [] [0,3,16,17,18] (.r 0 1 (ec 0 (ql 117) (ec 3 (qo 0) (ec 16 (ql 117) (ec 17 aN (ec 18 aN en))))) (sr 0 3 sn) (λz=>⟨z.1.1,z.2.1,z.1.t.1,z.1.t.2.1,z.1.q.1⟩) (λx=>((x.t0,(),x.t16,x.t17,x.t18,()),(x.t3,()))))
def KS(p:EH):af (af EH):=
 bif J (p.t18<p.t17)then if 0<=p.t18/\p.t18<zR p.t16 then match bif bif J ((↑p.t16[zD p.t18]!.ax.length:Int)=0)then G else O then bif bif J ((↑p.t16[zD p.t18]!.ax.length:Int)=2)then G else O then V O else bif J ((↑p.t16[zD p.t18]!.ax.length:Int)=0)then bif bif J (p.t16[zD p.t18]!.b8=0)then G else O then V O else V (bif J (p.t16[zD p.t18]!.iU=0)then G else O)else V G else bif J ((↑p.t16[zD p.t18]!.ax.length:Int)=0)then bif bif J (p.t16[zD p.t18]!.b8=0)then G else O then V O else V (bif J (p.t16[zD p.t18]!.iU=0)then G else O)else V G with|I=>I|V r1=>bif r1 then V (I)else match En (Bt.mk p.t0 p.t3 p.t18 p.t16 p.t17 p.t18 p.t16[zD p.t18]!.ax (↑p.t16[zD p.t18]!.ax.length:Int) 0)with|I=>I|V r2=>bif J (r2.t52<r2.t51)then if 0<=r2.t52/\r2.t52<zR r2.t50 then match bif J (r2.t50[zD r2.t52]!<=r2.t4)then V O else V (J (zR r2.t0<=r2.t50[zD r2.t52]!))with|I=>I|V r3=>bif r3 then V (I)else if 0<=r2.t50[zD r2.t52]!/\r2.t50[zD r2.t52]! <(zR r2.t3:Int)then if 3=3/\zD r2.t50[zD r2.t52]! <zR r2.t3 then if 0<=r2.t50[zD r2.t52]!/\r2.t50[zD r2.t52]! <(zR r2.t3:Int)then if 3=3/\zD r2.t50[zD r2.t52]! <zR r2.t3 then I else I else I else I else I else I else V (V (EH.mk r2.t0 r2.t3 r2.t16 r2.t17 (aj (r2.t18+1))))else I else V (I)
def ad2:An:=(noTwo (noTwo (.two (noTwo (.two (.two (.rb [] 48) .no) (noTwo (QS.lp En aej)))) .no)))
def Lp:=bI (KS)
abbrev axp:=Bool
def d184:Td 0 axp:= .c [] [2] (.r 0 0 (ec 2 qb en) sn (λz=>z.1.1) (λx=>((x,()),(()))))
def aar:∀f∈([]:aa Nat),bz (aAP) f:=aH
def aeB(a0:aa Cell):af axp:=
 bif J ((zR a0:Int)=0)then V G else if(0:Int)<=zR a0/\(zR a0:Int)<=(zR a0:Int)/\(zR a0:Int)<=(1073741824:Int)then match Lp (EH.mk a0 (zj (zR a0) 0) a0 (zR a0) 0)with|I=>I|V r6=>bif J (r6.t18<r6.t17)then if 0<=r6.t18/\r6.t18<zR r6.t16 then match bif bif J ((↑r6.t16[zD r6.t18]!.ax.length:Int)=0)then G else O then bif bif J ((↑r6.t16[zD r6.t18]!.ax.length:Int)=2)then G else O then V O else bif J ((↑r6.t16[zD r6.t18]!.ax.length:Int)=0)then bif bif J (r6.t16[zD r6.t18]!.b8=0)then G else O then V O else V (bif J (r6.t16[zD r6.t18]!.iU=0)then G else O)else V G else bif J ((↑r6.t16[zD r6.t18]!.ax.length:Int)=0)then bif bif J (r6.t16[zD r6.t18]!.b8=0)then G else O then V O else V (bif J (r6.t16[zD r6.t18]!.iU=0)then G else O)else V G with|I=>I|V r7=>bif r7 then V G else match En (Bt.mk r6.t0 r6.t3 r6.t18 r6.t16 r6.t17 r6.t18 r6.t16[zD r6.t18]!.ax (↑r6.t16[zD r6.t18]!.ax.length:Int) 0)with|I=>I|V r8=>bif J (r8.t52<r8.t51)then if 0<=r8.t52/\r8.t52<zR r8.t50 then match bif J (r8.t50[zD r8.t52]!<=r8.t4)then V O else V (J (zR r8.t0<=r8.t50[zD r8.t52]!))with|I=>I|V r9=>bif r9 then V G else if 0<=r8.t50[zD r8.t52]!/\r8.t50[zD r8.t52]! <(zR r8.t3:Int)then if 3=3/\zD r8.t50[zD r8.t52]! <zR r8.t3 then if 0<=r8.t50[zD r8.t52]!/\r8.t50[zD r8.t52]! <(zR r8.t3:Int)then if 3=3/\zD r8.t50[zD r8.t52]! <zR r8.t3 then I else I else I else I else I else I else I else I else match J9 (D4.mk r6.t3 (zR r6.t3) 0)with|I=>I|V r10=>bif J (r10.t75<r10.t74)then if 0<=r10.t75/\r10.t75<zR r10.t73 then if 3=3/\zD r10.t75<zR r10.t73 then match bif bif(match J (r10.t73[zD r10.t75]! =1)with|O=>G|G=>O)==J (r10.t75=0)then G else O then V O else V (J (1<r10.t73[zD r10.t75]!))with|I=>I|V r11=>bif r11 then V G else I else I else I else V O else I
def ahU:=eL vi 184 G (lc (ql 117) ln) d184 (λg=>aeB g.1)
def ann:EO ahU:=λh=>kL (F:=aAP) (an:=(noTwo (noTwo (noTwo (.two (noTwo (R5.lp Lp ad2)) (.two (noTwo (TU.lp J9 ac2)) .no)))))) (l:=[(aZ f184 0,(R5.lp Lp ad2)),(.skip,(.rb [] 48)),(aZ f184 1,(QS.lp En aej)),(.skip,(.rb [] 64)),(aZ f184 2,(TU.lp J9 ac2)),(.skip,(.rb [] 88))]) func184 aV (aA (aO R5) (aA aar (aA (aO QS) (aA aar (aA (aO TU) (aA aar aH)))))) h
abbrev anB:=Unit×Int
def awT:Td 0 anB:= .c [] [4,5] (.r 0 0 (ec 4 qv (ec 5 aN en)) sn (λz=>((),z.1.2.1)) (λx=>(((),x.2,()),(()))))
def aev(a0:aS)(a1:bT):af anB:=
 match m76 a0 with|I=>I|V r1=>bif bif J (r1.snd=0)then G else O then V (((),r1.snd))else match Qe a0 a1 r1.fst with|I=>I|V r2=>bif bif J (r2.snd=0)then G else O then V (((),r2.snd))else match Qe a0 a1 r1.fst with|I=>I|V r3=>match XE a0 a1 r1.fst with|I=>I|V r4=>I
def aAF:bq->bq:=eZf vi 118 (lc (qg 26) (lc (qg 29) ln)) awT (λg=>aev g.1 g.2.1)
def MJ:EO aAF:=λh=>kZf (an:= .no) func118 (LP (p:=(λf=>ze f 25||ze f 26||ze f 76)) (adA (Ld (I7 aV)))) aH h
abbrev aoD:=Tree×Int
def awj:Td 0 aoD:= .c [] [4,5] (.r 0 2 (ec 4 (qp 0 0) (ec 5 aN en)) (sb 0 172 (lc (ql 131) (lc (ql 139) (lc (ql 166) (lc (ql 3) (lc qb (lc (qo 1) ln)))))) (sr 1 174 sn)) (λz=>((Tree.mk (aS.mk z.2.1.1 z.2.1.2.1 z.2.1.t.1) (bT.mk z.2.1.t.2.1 z.2.1.q.1) z.t.1),z.1.2.1)) (λx=>(((),x.2,()),((x.1.fF.ai,x.1.fF.au,x.1.fF.bK,x.1.fV.bf,x.1.fV.fm,(),()),x.1.aP,()))))
def N8(a0:aS)(a1:bT):af aoD:=
 match m76 a0 with|I=>I|V r1=>bif bif J (r1.snd=0)then G else O then I else match Qe a0 a1 r1.fst with|I=>I|V r2=>bif bif J (r2.snd=0)then G else O then I else match Qe a0 a1 r1.fst with|I=>I|V r3=>match XE a0 a1 r1.fst with|I=>I|V r4=>V ((Tree.mk a0 a1 [dI.mk r1.fst (0) (0) [] r3.fst r4.snd.fst r4.fst],0))
def aze:bq->bq:=eZf vi 118 (lc (qg 26) (lc (qg 29) ln)) awj (λg=>N8 g.1 g.2.1)
def Ny:EO aze:=λh=>kZf (an:= .no) func118 (LP (p:=(λf=>ze f 25||ze f 26||ze f 76)) (adA (Ld (I7 aV)))) aH h
structure lD where
 t10:List (List aL)
 t55:List Cell
 (t56 t57:Int)
 b0:aY
 b2:Tree
def KF:Td 0 lD:= .c [] [5,10,11,55,56,57] (.t (bX.c 2 5 [] 174) (.c [] [5,10,11,55,56,57] (.r 0 4 (ec 5 (qp 0 0) (ec 10 (qo 1) (ec 11 (qp 2 0) (ec 55 (ql 117) (ec 56 aN (ec 57 aN en)))))) (sb 0 84 (lg 84) (sr 1 30 (sb 2 172 (lc (ql 131) (lc (ql 139) (lc (ql 166) (lc (ql 3) (lc qb (lc (qo 3) ln)))))) (sr 3 174 sn)))) (λz=>⟨z.t.1,z.1.t.2.1,z.1.q.1,z.1.q.2.1,z.2.1,(Tree.mk (aS.mk z.t.2.1.1 z.t.2.1.2.1 z.t.2.1.t.1) (bT.mk z.t.2.1.t.2.1 z.t.2.1.q.1) z.q.1)⟩) (λx=>(((),(),(),x.t55,x.t56,x.t57,()),(x.b0,x.t10,(x.b2.fF.ai,x.b2.fF.au,x.b2.fF.bK,x.b2.fV.bf,x.b2.fV.fm,(),()),x.b2.aP,()))))))
def ga(x0:lD)(x1:E25)(x2:E26):=
 x0.b2.aP++[dI.mk x0.t10[zD x0.t57]! (0) (0) [] x1.fst x2.snd.fst x2.fst]
def iE(x0:lD)(x1:E25)(x2:E26):=
 (ga x0 x1 x2).set x0.t57.toNat (dI.mk (ga x0 x1 x2)[zD x0.t57]!.bP x0.t55[zD x0.t57]!.b8 (ga x0 x1 x2)[zD x0.t57]!.iU (ga x0 x1 x2)[zD x0.t57]!.ax (ga x0 x1 x2)[zD x0.t57]!.cO (ga x0 x1 x2)[zD x0.t57]!.dW (ga x0 x1 x2)[zD x0.t57]!.cG)
def iC(x0:lD)(x1:E25)(x2:E26):=
 (iE x0 x1 x2).set x0.t57.toNat (dI.mk (iE x0 x1 x2)[zD x0.t57]!.bP (iE x0 x1 x2)[zD x0.t57]!.b8 x0.t55[zD x0.t57]!.iU (iE x0 x1 x2)[zD x0.t57]!.ax (iE x0 x1 x2)[zD x0.t57]!.cO (iE x0 x1 x2)[zD x0.t57]!.dW (iE x0 x1 x2)[zD x0.t57]!.cG)
def AE(p:lD):af (af lD):=
 bif J (p.t57<p.t56)then if 0<=p.t57/\p.t57<zR p.t55 then if 0<=p.t57/\p.t57<zR p.t10 then if 30=30/\zD p.t57<zR p.t10 then match Qe p.b2.fF p.b2.fV p.t10[zD p.t57]! with|I=>I|V r1=>match XE p.b2.fF p.b2.fV p.t10[zD p.t57]! with|I=>I|V r2=>if(ga p r1 r2).length<=1073741824 then bif J ((↑p.t55[zD p.t57]!.ax.length:Int)=0)then V (V (lD.mk p.t10 p.t55 p.t56 (aj (p.t57+1)) p.b0 (Tree.mk p.b2.fF p.b2.fV (ga p r1 r2))))else if 0<=p.t57/\p.t57<zR p.t10 then if 30=30/\zD p.t57<zR p.t10 then bif J (p.t55[zD p.t57]!.b8<0)then V (I)else bif J ((↑(zR p.t10[zD p.t57]!):Int)<=p.t55[zD p.t57]!.b8)then V (I)else if 0<=p.t55[zD p.t57]!.b8/\p.t55[zD p.t57]!.b8<(↑(zR p.t10[zD p.t57]!):Int)then bif J (p.t55[zD p.t57]!.iU<p.t10[zD p.t57]![p.t55[zD p.t57]!.b8.toNat]!.ah)then V (I)else if 0<=p.t55[zD p.t57]!.b8/\p.t55[zD p.t57]!.b8<(↑(zR p.t10[zD p.t57]!):Int)then bif J (p.t10[zD p.t57]![p.t55[zD p.t57]!.b8.toNat]!.ag<=p.t55[zD p.t57]!.iU)then V (I)else if(0:Int)<=(0:Int)/\(0:Int)<(↑p.t55[zD p.t57]!.ax.length:Int)then if(0:Int)<=(1:Int)/\(1:Int)<(↑p.t55[zD p.t57]!.ax.length:Int)then match YK p.t10[zD p.t57]! p.t55[zD p.t57]!.b8 p.t55[zD p.t57]!.iU with|I=>I|V r3=>if 0<=p.t55[zD p.t57]!.ax[zD 0]!/\p.t55[zD p.t57]!.ax[zD 0]! <(zR p.t10:Int)then if 30=30/\zD p.t55[zD p.t57]!.ax[0]! <zR p.t10 then if 0<=p.t55[zD p.t57]!.ax[zD 1]!/\p.t55[zD p.t57]!.ax[zD 1]! <(↑(p.t10.set (zD p.t55[zD p.t57]!.ax[0]!) r3.fst).length:Int)then if 30=30/\zD p.t55[zD p.t57]!.ax[1]! <zR (p.t10.set (zD p.t55[zD p.t57]!.ax[0]!) r3.fst) then match WK p.t55[zD p.t57]!.ax with|I=>I|V r4=>if 0<=p.t57/\p.t57<(↑(ga p r1 r2).length:Int)then if 174=174/\zD p.t57<zR (ga p r1 r2) then if 0<=p.t57/\p.t57<(↑(iE p r1 r2).length:Int)then if 174=174/\zD p.t57<zR (iE p r1 r2) then if 0<=p.t57/\p.t57<(↑(iC p r1 r2).length:Int)then if 174=174/\zD p.t57<zR (iC p r1 r2) then V (V (lD.mk ((p.t10.set (zD p.t55[zD p.t57]!.ax[0]!) r3.fst).set (zD p.t55[zD p.t57]!.ax[1]!) r3.snd) p.t55 p.t56 (aj (p.t57+1)) p.b0 (Tree.mk p.b2.fF p.b2.fV ((iC p r1 r2).set p.t57.toNat (dI.mk (iC p r1 r2)[zD p.t57]!.bP (iC p r1 r2)[zD p.t57]!.b8 (iC p r1 r2)[zD p.t57]!.iU r4 (iC p r1 r2)[zD p.t57]!.cO (iC p r1 r2)[zD p.t57]!.dW (iC p r1 r2)[zD p.t57]!.cG)))))else I else I else I else I else I else I else I else I else I else I else I else I else I else I else I else I else I else I else I else I else V (I)
def Da:=bI (AE)
abbrev anE:=Tree×Int
def azt:Td 0 anE:= .c [] [6,7] (.r 0 2 (ec 6 (qp 0 0) (ec 7 aN en)) (sb 0 172 (lc (ql 131) (lc (ql 139) (lc (ql 166) (lc (ql 3) (lc qb (lc (qo 1) ln)))))) (sr 1 174 sn)) (λz=>((Tree.mk (aS.mk z.2.1.1 z.2.1.2.1 z.2.1.t.1) (bT.mk z.2.1.t.2.1 z.2.1.q.1) z.t.1),z.1.2.1)) (λx=>(((),x.2,()),((x.1.fF.ai,x.1.fF.au,x.1.fF.bK,x.1.fV.bf,x.1.fV.fm,(),()),x.1.aP,()))))
def CG(a0:aS)(a1:bT)(a2:aY):af anE:=
 match N8 a0 a1 with|I=>(match aev a0 a1 with|I=>I|V r15=>bif bif J (r15.snd=0)then G else O then I else bif J (8192<(zR a2.aP:Int))then I else match aeB a2.aP with|I=>I|V r16=>bif bif r16 then G else O then I else if(0:Int)<=zR a2.aP/\(zR a2.aP:Int)<=(zR a2.aP:Int)/\(zR a2.aP:Int)<=(1073741824:Int)then I else I)|V r5=>bif bif J (r5.snd=0)then G else O then I else bif J (8192<(zR a2.aP:Int))then I else match aeB a2.aP with|I=>I|V r6=>bif bif r6 then G else O then I else if(0:Int)<=zR a2.aP/\(zR a2.aP:Int)<=(zR a2.aP:Int)/\(zR a2.aP:Int)<=(1073741824:Int)then if(0:Int)<=(0:Int)/\(0:Int)<zR r5.fst.aP then if 174=174/\0<zR r5.fst.aP then if(0:Int)<=(0:Int)/\(0:Int)<(↑(zj (zR a2.aP) ([]:aa aL)).length:Int)then if 30=30/\0<zR (zj (zR a2.aP) ([]:aa aL)) then match Da (lD.mk ((zj (zR a2.aP) ([]:aa aL)).set 0 r5.fst.aP[0]!.bP) a2.aP (zR a2.aP) 0 a2 (Tree.mk a0 a1 []))with|I=>I|V r7=>bif J (r7.t57<r7.t56)then if 0<=r7.t57/\r7.t57<zR r7.t55 then if 0<=r7.t57/\r7.t57<zR r7.t10 then if 30=30/\zD r7.t57<zR r7.t10 then match Qe r7.b2.fF r7.b2.fV r7.t10[zD r7.t57]! with|I=>I|V r8=>match XE r7.b2.fF r7.b2.fV r7.t10[zD r7.t57]! with|I=>I|V r9=>if(ga r7 r8 r9).length<=1073741824 then bif J ((↑r7.t55[zD r7.t57]!.ax.length:Int)=0)then I else if 0<=r7.t57/\r7.t57<zR r7.t10 then if 30=30/\zD r7.t57<zR r7.t10 then bif J (r7.t55[zD r7.t57]!.b8<0)then I else bif J ((↑(zR r7.t10[zD r7.t57]!):Int)<=r7.t55[zD r7.t57]!.b8)then I else if 0<=r7.t55[zD r7.t57]!.b8/\r7.t55[zD r7.t57]!.b8<(↑(zR r7.t10[zD r7.t57]!):Int)then bif J (r7.t55[zD r7.t57]!.iU<r7.t10[zD r7.t57]![r7.t55[zD r7.t57]!.b8.toNat]!.ah)then I else if 0<=r7.t55[zD r7.t57]!.b8/\r7.t55[zD r7.t57]!.b8<(↑(zR r7.t10[zD r7.t57]!):Int)then bif J (r7.t10[zD r7.t57]![r7.t55[zD r7.t57]!.b8.toNat]!.ag<=r7.t55[zD r7.t57]!.iU)then I else if(0:Int)<=(0:Int)/\(0:Int)<(↑r7.t55[zD r7.t57]!.ax.length:Int)then if(0:Int)<=(1:Int)/\(1:Int)<(↑r7.t55[zD r7.t57]!.ax.length:Int)then match YK r7.t10[zD r7.t57]! r7.t55[zD r7.t57]!.b8 r7.t55[zD r7.t57]!.iU with|I=>I|V r10=>if 0<=r7.t55[zD r7.t57]!.ax[zD 0]!/\r7.t55[zD r7.t57]!.ax[zD 0]! <(zR r7.t10:Int)then if 30=30/\zD r7.t55[zD r7.t57]!.ax[0]! <zR r7.t10 then if 0<=r7.t55[zD r7.t57]!.ax[zD 1]!/\r7.t55[zD r7.t57]!.ax[zD 1]! <(↑(r7.t10.set (zD r7.t55[zD r7.t57]!.ax[0]!) r10.fst).length:Int)then if 30=30/\zD r7.t55[zD r7.t57]!.ax[1]! <zR (r7.t10.set (zD r7.t55[zD r7.t57]!.ax[0]!) r10.fst) then match WK r7.t55[zD r7.t57]!.ax with|I=>I|V r11=>if 0<=r7.t57/\r7.t57<(↑(ga r7 r8 r9).length:Int)then if 174=174/\zD r7.t57<zR (ga r7 r8 r9) then if 0<=r7.t57/\r7.t57<(↑(iE r7 r8 r9).length:Int)then if 174=174/\zD r7.t57<zR (iE r7 r8 r9) then if 0<=r7.t57/\r7.t57<(↑(iC r7 r8 r9).length:Int)then if 174=174/\zD r7.t57<zR (iC r7 r8 r9) then I else I else I else I else I else I else I else I else I else I else I else I else I else I else I else I else I else I else I else I else I else match MT r7.b2 with|I=>I|V r12=>match alh r7.b0.aP r12.fst.aP with|I=>I|V r13=>bif bif r13 then G else O then I else match m71 r7.b0.cG r12.fst.cG with|I=>I|V r14=>bif bif r14 then G else O then I else V (r12.snd,0)else I else I else I else I else I
def aoS:bq->bq:=eZf vi 105 (lc (qg 26) (lc (qg 29) (lc (qg 84) ln))) azt (λg=>CG g.1 g.2.1 g.t.1)
def aai:EO aoS:=λh=>kZf (an:=(noTwo (noTwo (noTwo (noTwo (noTwo (noTwo (.two (noTwo (KF.lp Da .no)) .no)))))))) (l:=[(aZ f105 0,(KF.lp Da .no))]) func105 (LP (p:=(λf=>ze f 25||ze f 26||ze f 35||ze f 71||ze f 110||ze f 118||ze f 120||ze f 184||ze f 186||ze f 187||ze f 189)) (W0 (UD (VP (ann (Uv (Ny (MJ (Jq (abj (uG (Ld (I7 aV))))))))))))) (aA (aO KF) aH) h
abbrev E48:=aY×Int
def m48(a0:aS)(a1:bT)(a2:aY)(a3:Int):af E48:=
 match CG a0 a1 a2 with|I=>I|V r1=>bif bif J (r1.snd=0)then G else O then V (aY.mk [] [],r1.snd)else match bif J (a3<0)then V O else bif J (zR r1.fst.aP<=a3)then V O else if 0<=a3/\a3<zR r1.fst.aP then if 174=174/\a3.toNat<zR r1.fst.aP then V (J (0<(↑r1.fst.aP[a3.toNat]!.ax.length:Int)))else I else I with|I=>I|V r2=>bif r2 then V (aY.mk [] [],3)else if 0<=a3/\a3<zR r1.fst.aP then if 174=174/\a3.toNat<zR r1.fst.aP then match aFF r1.fst.aP[a3.toNat]!.bP with|I=>I|V r3=>bif bif r3 then G else O then V (aY.mk [] [],11)else match IF a3 r1.fst with|I=>I|V r4=>bif bif J (r4.fst=0)then G else O then V (aY.mk [] [],r4.fst)else match MT r4.snd with|I=>I|V r5=>V (r5.fst,0)else I else I
abbrev E54:=aY×Int
def d54:Td 0 E54:= .c [] [4,5] (.t (bX.c 0 0 [] 47) (.t (bX.c 0 1 [] 117) (.c [] [4,5] (.r 0 3 (ec 4 (qp 0 0) (ec 5 aN en)) (sb 0 84 (lc (qo 1) (lc (qo 2) ln)) (sr 1 47 (sr 2 117 sn))) (λz=>((aY.mk z.t.1 z.t.2.1),z.1.2.1)) (λx=>(((),x.2,()),(((),(),()),x.1.cG,x.1.aP,())))))))
def m54(a0:aS)(a1:bT):af E54:=
 match N8 a0 a1 with|I=>(match aev a0 a1 with|I=>I|V r3=>bif bif J (r3.snd=0)then G else O then V ((aY.mk [] [],r3.snd))else I)|V r1=>bif bif J (r1.snd=0)then G else O then V ((aY.mk [] [],r1.snd))else match MT r1.fst with|I=>I|V r2=>V ((r2.fst,0))
def e54:bq->bq:=eZ vi 54 (lc (qg 26) (lc (qg 29) ln)) d54 (λg=>m54 g.1 g.2.1)
def aua:EO e54:=λh=>kZ (an:= .no) func54 (Ny (MJ (Jq aV))) aH h
def aeh{F:bq}{f:Nat}(hne:ze f 54=G)(h:bz F f):bz (e54 F) f:=l8 hne h
abbrev E58:=aa Part
def d58:Td 0 E58:= .c [] [2] (.r 0 1 (ec 2 (qo 0) en) (sr 0 90 sn) (λz=>z.2.1) (λx=>(((),()),(x,()))))
def m58(a0:aS):af E58:=
 match aso a0 with|I=>I|V r1=>V ([Part.mk (0) (0) [] r1])
def e58:bq->bq:=eZ vi 58 (lc (qg 26) ln) d58 (λg=>m58 g.1)
def avI:EO e58:=λh=>kZ (an:= .no) func58 (ani aV) aH h
def aa9{F:bq}{f:Nat}(hne:ze f 58=G)(h:bz F f):bz (e58 F) f:=l8 hne h
def aFi:bq:=dw
abbrev avt:=aL
def d194:Td 0 avt:= .c [] [4] (.r 0 1 (ec 4 (qp 0 0) en) (sb 0 34 (lg 34) sn) (λz=>z.2.1) (λx=>(((),()),(x,()))))
def ay1:=(aU (aU ln))
def aoh:An:= .no
def QW(a0:Int)(a1:Int):avt:=
 bif J (a0=a1)then aL.mk a0 a1 (0)else aL.mk a0 a1 (1)
def aFE(a0:Int)(a1:Int):bV vi (aFi) 300 (aoh) 194 (ay1.c (a0,a1,())) [] 0 d194.rd=V (QW a0 a1):=by
 refine Eq.trans (b:=(
  bif J (a0=a1)then V (aL.mk a0 a1 (0))else V (aL.mk a0 a1 (1)):af avt)) aW ?_
 simp only[QW,cu,cQ]
def aGD:=eL vi 194 G ay1 d194 (λg=>V (QW g.1 g.2.1))
def ahP:EO aGD:=λh=>kL (an:=aoh) func194 aV aH h (c:=λg=>aFE g.1 g.2.1)
abbrev axa:=(aa aL)×(aa aL)
def d112:Td 0 axa:= .c [] [6,7] (.r 0 2 (ec 6 (qo 0) (ec 7 (qo 1) en)) (sr 0 34 (sr 1 34 sn)) (λz=>(z.2.1,z.t.1)) (λx=>(((),(),()),(x.1,x.2,()))))
def ahr(a0:aa aL)(a1:Int)(a2:Int):af axa:=
 match Qu a0 with|I=>I|V r1=>match Qu a0 with|I=>I|V r2=>if 0<=a1/\a1<zR a0 then if 0<=a1/\a1<(↑(zR r1):Int)then if 34=34/\a1.toNat<zR r1 then if 0<=a1/\a1<zR a0 then if 0<=a1/\a1<(↑(zR r2):Int)then if 34=34/\a1.toNat<zR r2 then V ((List.set r1 a1.toNat (QW a0[a1.toNat]!.ah a2),List.set r2 a1.toNat (QW (aj (a2+1)) a0[a1.toNat]!.ag)))else I else I else I else I else I else I
def auK:=eL vi 112 G (lc (ql 34) (aU (aU ln))) d112 (λg=>ahr g.1 g.2.1 g.t.1)
def agO:EO auK:=λh=>kL (an:= .no) func112 (ahP (tT aV)) aH h
structure B4 where
 t0:List aL
 t2:Int
 t7:List aL
 (t8 t9:Int)
def RD:Td 0 B4:= .c [] [0,2,7,8,9] (.r 0 0 (ec 0 (ql 34) (ec 2 aN (ec 7 (ql 34) (ec 8 aN (ec 9 aN en))))) sn (λz=>⟨z.1.1,z.1.2.1,z.1.t.1,z.1.t.2.1,z.1.q.1⟩) (λx=>((x.t0,x.t2,x.t7,x.t8,x.t9,()),(()))))
def GF(p:B4):af (af B4):=
 bif J (p.t9<p.t8)then if 0<=p.t9/\p.t9<zR p.t7 then if 0<=p.t2/\p.t2<zR p.t0 then if 0<=p.t2/\p.t2<zR p.t0 then bif J (aj (p.t0[zD p.t2]!.ag-p.t0[zD p.t2]!.ah)<aj (p.t7[zD p.t9]!.ag-p.t7[zD p.t9]!.ah))then V (V (B4.mk p.t0 p.t9 p.t7 p.t8 (aj (p.t9+1))))else V (V (B4.mk p.t0 p.t2 p.t7 p.t8 (aj (p.t9+1))))else I else I else I else V (I)
def K6:=bI (GF)
abbrev aAW:=Int×Int×Bool
def d111:Td 0 aAW:= .c [] [2,3,4] (.r 0 0 (ec 2 aN (ec 3 aN (ec 4 qb en))) sn (λz=>(z.1.1,z.1.2.1,z.1.t.1)) (λx=>((x.1,x.2.1,x.t,()),(()))))
def ajq(a0:aa aL):af aAW:=
 match K6 (B4.mk a0 0 a0 (zR a0) 0)with|I=>I|V r1=>bif J (r1.t9<r1.t8)then if 0<=r1.t9/\r1.t9<zR r1.t7 then if 0<=r1.t2/\r1.t2<zR r1.t0 then if 0<=r1.t2/\r1.t2<zR r1.t0 then bif J (aj (r1.t0[zD r1.t2]!.ag-r1.t0[zD r1.t2]!.ah)<aj (r1.t7[zD r1.t9]!.ag-r1.t7[zD r1.t9]!.ah))then I else I else I else I else I else bif J ((zR r1.t0:Int)=0)then V (0,0,G)else if 0<=r1.t2/\r1.t2<zR r1.t0 then if 0<=r1.t2/\r1.t2<zR r1.t0 then bif J (r1.t0[zD r1.t2]!.ag=r1.t0[zD r1.t2]!.ah)then V (0,0,G)else if 0<=r1.t2/\r1.t2<zR r1.t0 then if 0<=r1.t2/\r1.t2<zR r1.t0 then match ahH (aj (r1.t0[zD r1.t2]!.ah+r1.t0[zD r1.t2]!.ag)) 2with|I=>I|V r2=>V (r1.t2,r2,O)else I else I else I else I
def Xz:=eL vi 111 G (lc (ql 34) ln) d111 (λg=>ajq g.1)
def aiN:EO Xz:=λh=>kL (an:=(noTwo (.two (noTwo (RD.lp K6 .no)) .no))) (l:=[(aZ f111 0,(RD.lp K6 .no))]) func111 (anl aV) (aA (aO RD) aH) h
abbrev aBn:=aa Part
def d113:Td 0 aBn:= .c [] [2] (.t (bX.s 2 [] 90) (.c [] [2] (.r 0 1 (ec 2 (qo 0) en) (sr 0 90 sn) (λz=>z.2.1) (λx=>(((),()),(x,()))))))
def axh:=(lc (ql 90) ln)
def Yn(a0:aa Part):af aBn:=if zR a0<=1073741824 then V a0 else I
def ZY:fe vi dw 0 300 113 .no:=b6 (l:=[]) func113 (bM aW) aW aH
def awH(x:Part)(xs:aa Part):bV vi dw 300 .no 113 [.sl 90 (x::xs)] [] 0 d113.rd=if([]++(x::xs)).length<=1073741824 then V ([]++(x::xs))else I:=aW
def ax8(c:Nat):bV vi dw 300 .no 113 [.lit (.slice I 0 c)] [] 0 d113.rd=V []:=aW
def aA0(a:Addr)(c:Nat):bV vi dw 300 .no 113 [.lit (.slice (V a) 0 c)] [] 0 d113.rd=V []:=aW
def aFe:HL vi 113 axh d113 (λg=>Yn g.1):=λg r h=>by
 obtain⟨a0,_⟩:=g;have h:Yn a0=V r:=h;cases a0 with
 |cons x xs=>exact(jQ (out:=λp=>fK vi 113 0 (d113.pat p)) (p:=r) aV ZY d113.ok (λp=>aW) (iG aW) (ij aW) ((awH x xs).trans (by rw[yz];exact h))).2
 |nil=>
  cases h;exact J7 (λc=>(jQ (out:=λp=>fK vi 113 0 (d113.pat p)) (p:=[]) aV ZY d113.ok (λp=>aW) (iG aW) (ij aW) (ax8 c)).2) (λa c=>(jQ (out:=λp=>fK vi 113 0 (d113.pat p)) (p:=[]) aV ZY d113.ok (λp=>aW) (iG aW) (ij aW) (aA0 a c)).2)
def asq:bq->bq:=eZ vi 113 axh d113 (λg=>Yn g.1)
def ajx{F:bq}(h:bA vi F):bA vi (asq F):=F7 aFe ⟨_,func113,aW,aW⟩ (λ_=>aW) h
abbrev E49:=(aa Part)×Bool
def d49:Td 0 E49:= .c [] [4,5] (.t (bX.fs 4 []) (.c [] [4,5] (.r 0 0 (ec 4 (ql 90) (ec 5 qb en)) sn (λz=>(z.1.1,z.1.2.1)) (λx=>((x.1,x.2,()),(()))))))
def m49(a0:aa Part)(a1:Int):af E49:=
 if 0<=a1/\a1<zR a0 then match ajq a0[a1.toNat]!.bP with|I=>I|V r1=>bif bif r1.snd.snd then G else O then V (a0,G)else if 0<=a1/\a1<zR a0 then match ahr a0[a1.toNat]!.bP r1.fst r1.snd.fst with|I=>I|V r2=>match Yn a0 with|I=>I|V r3=>if(r3++[Part.mk ((0:Int)) ((0:Int)) [] r2.fst,Part.mk ((0:Int)) ((0:Int)) [] r2.snd]).length<=1073741824 then if 0<=a1/\a1<zR a0 then if 0<=a1/\a1<(↑(r3++[Part.mk ((0:Int)) ((0:Int)) [] r2.fst,Part.mk ((0:Int)) ((0:Int)) [] r2.snd]).length:Int)then if 90=90/\a1.toNat<zR (r3++[Part.mk ((0:Int)) ((0:Int)) [] r2.fst,Part.mk ((0:Int)) ((0:Int)) [] r2.snd]) then V (((r3++[Part.mk 0 0 [] r2.fst,Part.mk 0 0 [] r2.snd]).set a1.toNat (Part.mk r1.fst r1.snd.fst [(zR a0:Int),aj ((zR a0:Int)+1)] a0[a1.toNat]!.bP),O))else I else I else I else I else I else I
def e49:bq->bq:=eZ vi 49 (lc (ql 90) (aU ln)) d49 (λg=>m49 g.1 g.2.1)
def ari:EO e49:=λh=>kZ (an:= .no) func49 (ajx (agO (aiN aV))) aH h
def acN{F:bq}{f:Nat}(hne:ze f 49=G)(h:bz F f):bz (e49 F) f:=l8 hne h
def aCL:bq:=dw
structure AQ where
 t3:Int
 t7:List bg
 (t8 t9:Int)
def Tq:Td 0 AQ:= .c [] [3,7,8,9] (.r 0 0 (ec 3 aN (ec 7 (ql 131) (ec 8 aN (ec 9 aN en)))) sn (λz=>⟨z.1.1,z.1.2.1,z.1.t.1,z.1.t.2.1⟩) (λx=>((x.t3,x.t7,x.t8,x.t9,()),(()))))
def JN(p:AQ):af (af AQ):=
 bif J (p.t9<p.t8)then if 0<=p.t9/\p.t9<zR p.t7 then match bif J (p.t7[zD p.t9]!.bB=1)then V O else V (J (p.t7[zD p.t9]!.bB=3))with|I=>I|V r1=>bif r1 then V (V (AQ.mk (aj (p.t3*aj (aj (p.t7[zD p.t9]!.ag-p.t7[zD p.t9]!.ah)+1))) p.t7 p.t8 (aj (p.t9+1))))else V (V (AQ.mk p.t3 p.t7 p.t8 (aj (p.t9+1))))else I else V (I)
def aep:An:=(noTwo (noTwo (.two (noTwo (.two (.rb [] 20) .no)) .no)))
def IT:=bI (JN)
abbrev awn:=Int
def d104:Td 0 awn:= .c [] [2] (.r 0 0 (ec 2 aN en) sn (λz=>z.1.1) (λx=>((x,()),(()))))
def ayw:∀f∈([]:aa Nat),bz (aCL) f:=aH
def aio(a0:aS):af awn:=
 match IT (AQ.mk 1 a0.ai (zR a0.ai) 0)with|I=>I|V r2=>bif J (r2.t9<r2.t8)then if 0<=r2.t9/\r2.t9<zR r2.t7 then match bif J (r2.t7[zD r2.t9]!.bB=1)then V O else V (J (r2.t7[zD r2.t9]!.bB=3))with|I=>I|V r3=>bif r3 then I else I else I else V (r2.t3)
def aaK:=eL vi 104 G (lc (qg 26) ln) d104 (λg=>aio g.1)
def aji:EO aaK:=λh=>kL (F:=aCL) (an:=(noTwo (noTwo (.two (noTwo (Tq.lp IT aep)) .no)))) (l:=[(aZ f104 0,(Tq.lp IT aep)),(.skip,(.rb [] 20))]) func104 aV (aA (aO Tq) (aA ayw aH)) h
def A7:EP aaK:=λh=>kP h
def F46:bq:=(aaK (e55 (e24 dw)))
abbrev E46:=Bool
def d46:Td 0 E46:= .c [] [4] (.r 0 0 (ec 4 qb en) sn (λz=>z.1.1) (λx=>((x,()),(()))))
def aHK:∀f∈([24,55,104]:aa Nat),bz (F46) f:=(aA (A7 (Ed (Gi bF))) (aA (A7 (Ed (Gi bF))) (aA (A7 (Ed (Gi bF))) aH)))
def m46(a0:aS)(a1:bT):af E46:=
 match match m24 a0 (16) (4096) (4)with|I=>I|V r1=>bif r1 then match m55 a0 a1 with|I=>I|V r2=>bif J (r2=0)then match aio a0 with|I=>I|V r3=>V (J (r3<=16))else V (G)else V (G)with|I=>I|V r4=>V (r4)
def e46:=eL vi 46 G (lc (qg 26) (lc (qg 29) ln)) d46 (λg=>m46 g.1 g.2.1)
def arw:EO e46:=λh=>kL (F:=F46) (an:=(noTwo (.two (.rb [24,55,104] 4) .no))) (l:=[(.skip,(.rb [24,55,104] 4))]) func46 (aji (atB (avl aV))) (aA aHK aH) h
def adh:EP e46:=λh=>kP h
structure PK where
 t9:List Part
 t31:List Int
 (t32 t33:Int)
 b0:aS
 b1:bT
 (b2 b3:aY)
def awh(p:PK):af (af PK):=
 bif J (p.t33<p.t32)then if 0<=p.t33/\p.t33<zR p.t31 then if¬(zR p.t9:Int)=(0:Int)then match m49 p.t9 ((aj p.t31[zD p.t33]!).tmod (zR p.t9))with|I=>I|V r1=>match if(0:Int)<=(aj p.t31[zD p.t33]!).tmod p.t9.length/\(aj p.t31[zD p.t33]!).tmod (zR p.t9:Int)<(zR p.t9:Int)then bif J (0<(↑p.t9[((aj p.t31[zD p.t33]!).tmod (zR p.t9)).toNat]!.ax.length:Int))then V O else V (bif r1.snd then G else O)else I with|I=>I|V r2=>bif r2 then V (V (PK.mk p.t9 p.t31 p.t32 (aj (p.t33+1)) p.b0 p.b1 (aY.mk [] []) p.b3))else match m48 p.b0 p.b1 p.b3 ((aj p.t31[zD p.t33]!).tmod (zR p.t9))with|I=>I|V r3=>bif bif J (r3.snd=0)then G else O then V (I)else V (V (PK.mk r1.fst p.t31 p.t32 (aj (p.t33+1)) p.b0 p.b1 (aY.mk [] []) r3.fst))else I else I else V (I)
def azZ:=bI (awh)
abbrev E47:=(aa Part)×aY×Bool
def d47:Td 0 E47:= .c [] [6,7,8] (.t (bX.fs 6 []) (.t (bX.fc 1 0 []) (.t (bX.fc 1 1 []) (.t (bX.fc 0 0 []) (.t (bX.fc 0 1 []) (.c [] [6,7,8] (.r 0 1 (ec 6 (ql 90) (ec 7 (qp 0 0) (ec 8 qb en))) (sb 0 84 (lg 84) sn) (λz=>(z.1.1,z.2.1,z.1.t.1)) (λx=>((x.1,(),x.t,()),(x.2.1,()))))))))))
def m47(a0:aS)(a1:bT)(a2:aa Int):af E47:=
 match m58 a0 with|I=>I|V r4=>match m54 a0 a1 with|I=>I|V r5=>bif bif J (r5.snd=0)then G else O then V (r4,r5.fst,G)else match azZ (PK.mk r4 a2 (zR a2) 0 a0 a1 (aY.mk [] []) r5.fst)with|I=>I|V r6=>bif J (r6.t33<r6.t32)then if 0<=r6.t33/\r6.t33<zR r6.t31 then if¬(zR r6.t9:Int)=(0:Int)then match m49 r6.t9 ((aj r6.t31[zD r6.t33]!).tmod (zR r6.t9))with|I=>I|V r7=>match if(0:Int)<=(aj r6.t31[zD r6.t33]!).tmod r6.t9.length/\(aj r6.t31[zD r6.t33]!).tmod (zR r6.t9:Int)<(zR r6.t9:Int)then bif J (0<(↑r6.t9[((aj r6.t31[zD r6.t33]!).tmod (zR r6.t9)).toNat]!.ax.length:Int))then V O else V (bif r7.snd then G else O)else I with|I=>I|V r8=>bif r8 then I else match m48 r6.b0 r6.b1 r6.b3 ((aj r6.t31[zD r6.t33]!).tmod (zR r6.t9))with|I=>I|V r9=>bif bif J (r9.snd=0)then G else O then V (r6.t9,r6.b3,G)else I else I else I else V (r6.t9,r6.b3,O)
def e47:bq->bq:=eZ vi 47 (lc (qg 26) (lc (qg 29) (lc (ql 5) ln))) d47 (λg=>m47 g.1 g.2.1 g.t.1)
structure aJ5 where
 t7:List Part
 t10:Int
 b0:aS
 b1:bT
 b2:aY
def iv(a b:Int):aL:=if a=b then⟨a,b,0⟩else⟨a,b,1⟩
def SM(a b:Int):(iv a b).ah=a:=by unfold iv;split<;>rfl
def K9(a b:Int):(iv a b).ag=b:=by unfold iv;split<;>rfl
def akX(a b:Int):Se a b=iv a b:=by unfold Se iv;by_cases h:a=b<;>simp[h]
def aDr{a b:Int}(h1: -1048576<=a)(h2:a<=b)(h3:b<=1048576):NN (iv a b):=by
 unfold iv;by_cases e:a=b
 ·rw[bJ e];exact⟨by show _<=a;omega,by show b<=_;omega,by show a<=b;omega, .inl ⟨e,rfl⟩⟩
 ·rw[bN e];exact⟨by show _<=a;omega,by show b<=_;omega,by show a<=b;omega, .inr ⟨by show a<b;omega,by show (1:Int)<=1;omega,by show (b-a)%1=0;omega⟩⟩
structure ig (f:aS) (b:List aL):Prop where
 len:zR b=zR (eC f.ai)
 el:∀j,j<zR b->∃x y,b[j]! =iv x y/\x<=y/\(eC f.ai)[j]!.ah<=x/\y<=(eC f.ai)[j]!.ag
structure Cx (f:aS) (v:bT):Prop where
 hN:fP f.bK+kH (f.au.map (·.aG))<=900
 hh:zR f.au<=1000
 hl:zR f.ai<=1000
 hc:pL f=0
 hq:cdA f v=0
def iR{α:Type}[Inhabited α](l:aa α)(i j:Nat)(x:α)(hj:j<zR l):(l.set i x)[j]! =if i=j then x else l[j]! :=by
 rw[getElem!_pos _ j (by simpa using hj),getElem!_pos l j hj,List.getElem_set]
def adE{α:Type}[Inhabited α](l m:aa α)(j:Nat)(hj:j<zR l):(l++m)[j]! =l[j]! :=by
 rw[getElem!_pos _ j (by simp;omega),getElem!_pos l j hj,wg hj]
def aal{α:Type}[Inhabited α](l m:aa α)(j:Nat)(h:j<zR m):(l++m)[zR l+j]! =m[j]! :=by
 rw[getElem!_pos _ _ (by simp;omega),getElem!_pos m j h,wD aq];simp
def dV{α W:Type}[Inhabited α][Inhabited W](g:α->W)(l:aa α)(j:Nat)(h:j<zR l):(l.map g)[j]! =g l[j]! :=by
 rw[getElem!_pos _ j (by simpa using h),getElem!_pos l j h,yM]
def bLo(b:aa aL)(i:Nat)(at_:Int):aa aL:=b.set i (iv b[i]!.ah at_)
def bHi(b:aa aL)(i:Nat)(at_:Int):aa aL:=b.set i (iv (at_+1) b[i]!.ag)
section
variable {f:aS} {v:bT}
def oL(h:Cx f v):zR (eC f.ai)<=2000:=by
 unfold eC;rw[zh];have:=yt (kd 1) f.ai;have:=yt (kd 3) f.ai;have:=h.hl;omega
def ig.bd{b:aa aL}(h:ig f b)(c:pL f=0){j:Nat}(hj:j<zR b): -1048576<=b[j]!.ah/\b[j]!.ah<=b[j]!.ag/\b[j]!.ag<=1048576:=by
 obtain⟨x,y,e,h1,h2,h3⟩:=h.el j hj;obtain⟨k1,k2,k3⟩:=TN c (j:=j) (by rw[<-h.len];exact hj);rw[e,SM,K9];omega
def Vr(h:Cx f v):ig f (o7 f):=by
 rw[ae8];refine⟨by simp,λj hj=> ?_⟩;have hj':j<zR (eC f.ai):=by simpa using hj
 obtain⟨k1,k2,k3⟩:=TN h.hc hj';refine⟨(eC f.ai)[j]!.ah,(eC f.ai)[j]!.ag,?_,k2,zw _,zw _⟩;rw[dV _ _ _ hj'];unfold CR iv;by_cases e:(eC f.ai)[j]!.ah=(eC f.ai)[j]!.ag
 ·rw[bJ e,bJ e,<-e]
 ·rw[bN e,bN e]
def ZX{b:aa aL}(h:ig f b){i:Nat}(hi:i<zR b){x y:Int}(h1:x<=y)(h2:b[i]!.ah<=x)(h3:y<=b[i]!.ag):ig f (b.set i (iv x y)):=by
 refine⟨by rw[yu];exact h.len,λj hj=> ?_⟩;rw[yu]at hj;rw[iR _ _ _ _ hj];by_cases e:i=j
 ·subst e;obtain⟨x',y',e',k1,k2,k3⟩:=h.el i hj;rw[e',SM]at h2;rw[e',K9]at h3;exact⟨x,y,by rw[bJ rfl],h1,aq,aq⟩
 ·rw[bN e];exact h.el j hj
def anW{b:aa aL}(h:ig f b){i:Nat}(hi:i<zR b){a:Int}(h1:b[i]!.ah<=a)(h2:a<b[i]!.ag):ig f (bLo b i a):=ZX h hi h1 (zw _) aq
def an5{b:aa aL}(h:ig f b){i:Nat}(hi:i<zR b){a:Int}(h1:b[i]!.ah<=a)(h2:a<b[i]!.ag):ig f (bHi b i a):=ZX h hi aq aq (zw _)
def ig.ask{b:aa aL}(h:ig f b)(c:Cx f v):Aw f v b=0:=by
 have hq:=c.hq;have hc:=c.hc;unfold cdA at hq;unfold Aw;by_cases h2:zR v.bf=zR (f.ai.filter (kd 2))
 case neg=>rw[bN (by simpa using hc),bJ h2]at hq;cases hq
 by_cases h3:cz (jA v.bf) (f.ai.filter (kd 2)) 0=0
 case neg=>rw[bN (by simpa using hc),bN (by simpa using h2)]at hq;exact ep hq h3
 rw[bN (by simpa using hc),bN (by simpa using h2),bN (by simpa using h3),bN (by simpa using h.len)];refine Hj _ _ λj hj=> ?_;rw[ym];have hj':j<zR b:=by rw[h.len];exact hj
 obtain⟨x,y,e,h1,h2,h3⟩:=h.el j hj';obtain⟨k1,k2,k3⟩:=TN hc hj;have hn:NN b[j]! :=by rw[e];exact aDr aq h1 aq
 have el:b[j]!.ah=x:=by rw[e,SM]
 have eh:b[j]!.ag=y:=by rw[e,K9]
 unfold pI;rw[eo (.inr hn)];simp only[cU];have hs:YU b[j]! =bZ b[j]! :=by unfold YU;rw[bJ (.inr hn)]
 have hp:=size_pos hn;rw[hs,fO,fO,fO];rfl
def bdX(f:aS)(v:bT)(b:aa aL):Int:=ado (fD f v b) (eW b)
def Ms(f:aS)(v:bT)(b:aa aL):Bool:=sgB (fD f v b)
def AK(f:aS)(v:bT)(b:aa aL):aB:=if Ms f v b=O then Y6 (fD f v b)else⟨[],0⟩
def ig.Qe{b:aa aL}(h:ig f b)(c:Cx f v):Qe f v b=V (bdX f v b,0):=by
 have ha:=h.ask c;have e20:=aox (v:=v) (box:=b) c.hN c.hh c.hl;rw[bJ ha]at e20;have hfit:=sg ha;have hbl:zR b<=1000000:=by have:=oL c;rw[h.len];omega
 exact aCs e20 (AD hfit) hfit.nn hbl hfit.vol.2
def ig.XE{b:aa aL}(h:ig f b)(c:Cx f v):XE f v b=V (AK f v b,Ms f v b,0):=by
 have ha:=h.ask c;have e20:=aox (v:=v) (box:=b) c.hN c.hh c.hl;rw[bJ ha]at e20;have hfit:=sg ha;have:=aCl e20 (AD hfit);rw[this];unfold AK Ms;cases sgB (fD f v b)<;>rfl
def ig.obl{b:aa aL}(h:ig f b)(c:Cx f v):zR (AK f v b).aK<=8:=by
 unfold AK;split
 ·unfold Y6;rw[zu];exact(aah (sg (h.ask c))).1
 ·exact yV _
def cellOf(f:aS)(v:bT)(p:Part):dI:=⟨p.bP,p.b8,p.iU,p.ax,bdX f v p.bP,Ms f v p.bP,AK f v p.bP⟩
def iJ(l:aa Part)(k i:Nat)(a:Int):aa Part:=
 l.set k ⟨(i:Int),a,[(zR l:Int),((zR l+1:Nat):Int)],l[k]!.bP⟩++[⟨0,0,[],bLo l[k]!.bP i a⟩,⟨0,0,[],bHi l[k]!.bP i a⟩]
def ap3{l:aa aL}(h:zR l<=1000000):Qu l=V l:=by unfold Qu;rw[gV]
def VO{b:aa aL}(h:zR b<=1000000){i:Nat}(hi:i<zR b){a:Int}(h1: -1048576<=a)(h2:a<=1048576):YK b (i:Int) a=V (bLo b i a,bHi b i a):=by
 have hw:aj (a+1)=a+1:=aM;have i1:(i:Int)<(zR b:Int):=aq;have i2:(0:Int)<=(i:Int):=aq;unfold YK;simp only[cZ,ap3 h,i1,i2,dS,hi,akX,hw];rfl
def Ui{b:aa aL}(h:ig f b)(c:Cx f v){l:aa dI}(hl:zR l<=1000000):adG b ⟨f,v,l⟩=V ⟨f,v,l++[cellOf f v ⟨0,0,[],b⟩]⟩:=by
 have:zR (l++[cellOf f v ⟨0,0,[],b⟩])<=1073741824:=by rw[zh,yh];omega
 unfold adG;simp only[h.Qe c,h.XE c];exact bJ this
def GA(l:aa Part)(k:Nat)(q:Part){x:dI}(hx:x=cellOf f v q):(l.map (cellOf f v)).set k x=(l.set k q).map (cellOf f v):=by rw[hx,<-List.map_set]
def am6(c:Cx f v){l:aa Part}(hl:zR l<=100000){k i:Nat}(hk:k<zR l)(hb:ig f l[k]!.bP)(hi:i<zR l[k]!.bP){a:Int}(h1:l[k]!.bP[i]!.ah<=a)(h2:a<l[k]!.bP[i]!.ag):
  ais (k:Int) (i:Int) a ⟨f,v,l.map (cellOf f v)⟩=V ⟨f,v,(iJ l k i a).map (cellOf f v)⟩:=by
 have hbl:zR l[k]!.bP<=1000000:=by have:=oL c;rw[hb.len];omega
 have hd:=hb.bd c.hc hi;have aes:=VO hbl hi (a:=a) aq aq;have ek:(l.map (cellOf f v))[k]! =cellOf f v l[k]! :=dV _ _ _ hk;have k1:(k:Int)<(zR l:Int):=aq;have k2:(0:Int)<=(k:Int):=aq;have hw:aj ((zR l:Int)+1)=((zR l+1:Nat):Int):=jG (n:=1000000) aq aq;have g0:lR ⟨f,v,l.map (cellOf f v)⟩ (k:Int) (i:Int)=(l.set k ⟨(i:Int),l[k]!.iU,l[k]!.ax,l[k]!.bP⟩).map (cellOf f v):=by
  unfold lR;rw[zg];exact GA l k _ (by dsimp only;rw[ek];rfl)
 have g1:l5 ⟨f,v,l.map (cellOf f v)⟩ (k:Int) (i:Int) a=(l.set k ⟨(i:Int),a,l[k]!.ax,l[k]!.bP⟩).map (cellOf f v):=by
  unfold l5;rw[g0,zg,dV _ _ _ (by simpa using hk),iR _ _ _ _ hk,bJ rfl];exact(GA _ k ⟨(i:Int),a,l[k]!.ax,l[k]!.bP⟩ rfl).trans (by rw[List.set_set])
 have g2:((l.set k ⟨(i:Int),a,l[k]!.ax,l[k]!.bP⟩).map (cellOf f v))[k]! =cellOf f v ⟨(i:Int),a,l[k]!.ax,l[k]!.bP⟩:=by
  rw[dV _ _ _ (by simpa using hk),iR _ _ _ _ hk,bJ rfl]
 have e1:=Ui (anW hb hi h1 h2) c (l:=(l.set k ⟨(i:Int),a,[(zR l:Int),((zR l+1:Nat):Int)],l[k]!.bP⟩).map (cellOf f v)) (by simp;omega);have e2:=Ui (an5 hb hi h1 h2) c (l:=(l.set k ⟨(i:Int),a,[(zR l:Int),((zR l+1:Nat):Int)],l[k]!.bP⟩).map (cellOf f v)++[cellOf f v ⟨0,0,[],bLo l[k]!.bP i a⟩]) (by simp;omega);have e3:((l.set k ⟨(i:Int),a,l[k]!.ax,l[k]!.bP⟩).map (cellOf f v)).set k ⟨l[k]!.bP,(i:Int),a,[(zR l:Int),((zR l+1:Nat):Int)],bdX f v l[k]!.bP,Ms f v l[k]!.bP,AK f v l[k]!.bP⟩=(l.set k ⟨(i:Int),a,[(zR l:Int),((zR l+1:Nat):Int)],l[k]!.bP⟩).map (cellOf f v):=by
  exact(GA _ k ⟨(i:Int),a,[(zR l:Int),((zR l+1:Nat):Int)],l[k]!.bP⟩ rfl).trans (by rw[List.set_set])
 unfold ais;simp only[cZ,g0,g1,g2,ek,zu,yu,k1,k2,hk,dS,hw,cellOf,aes]at*;rw[e3,e1];simp only;rw[e2];simp only[iJ,zM,yS];rfl
end
end Go.Proofs.YtnfljbehcffmcaaGreat
end
