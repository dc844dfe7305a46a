/- Merged: Hz, Hw, Nf1, Nf2, Nf3, Nf4, Hk, Hu, Nf5, Nf6, Nf7, Nf8, Nf9, Hp1, Pw1, Hk45, H10, Nk1, Rc, Sk, Sf, Sc, St, Hra, Nr1. -/
import Derived.Test.YtnfljbehcffmcaaGreatM1RefineSplits
import Derived.Test.YtnfljbehcffmcaaGreatM5RefineSplits
import Derived.Test.YtnfljbehcffmcaaGreatM2RefineSplits
import Derived.Test.YtnfljbehcffmcaaGreatM4RefineSplits
import Derived.Test.YtnfljbehcffmcaaGreatM3RefineSplits
import Derived.Shelf.SlSortCmp.WholeK
import Derived.Shelf.SlSortCmp.NoneTotal
import Derived.Shelf.SlSortCmp.KitK
import Derived.Sort.WalkB12
import Derived.Deep.LoopGhost
import Derived.Lib.SliceRun
open Nat renaming beq -> ze, le_refl -> zm, lt_succ_self -> zC, le_trans -> zH, add_mul -> zX, add_zero -> yh, zero_add -> yj, mul_le_mul_right -> ym, add_assoc -> yF, one_mul -> yK, mod_lt -> yV, zero_le -> yW, sub_self -> xS, eq_zero_or_pos -> wB, add_sub_cancel -> wJ
open SizeOf renaming sizeOf -> zf
open List renaming length_append -> zg, replicate -> zj, mem_cons_self -> zk, length_map -> zn, mem_singleton -> zq, getElem?_eq_getElem -> zu, mem_cons -> zy, length_take -> zA, take_length -> zG, mem_cons_of_mem -> zJ, map_append -> zK, mem_map -> zL, range -> zN, mem_append -> zP, length -> zR, length_drop -> zV, mem_filter -> z7, map_cons -> yc, length_singleton -> yg, length_filter_le -> yt, length_set -> yw, append_nil -> yy, nil_append -> yz, getElem_map -> yL, length_cons -> yM, drop_eq_getElem_cons -> yN, append_assoc -> yS, map_nil -> yT, filter_cons -> yX, length_nil -> y6, take_append_drop -> xg, eq_nil_of_length_eq_zero -> xh, filter_append -> xk, length_eq_zero_iff -> xw, cons_append -> xz, mem_of_mem_drop -> xD, filterMap_cons -> xE, drop_zero -> xH, getElem_take -> xI, getElem_drop -> xR, ext_getElem -> xY, filter_nil -> xZ, getElem_append_left -> wg, getElem?_take_of_lt -> wu, getElem_append_right -> wC, getElem?_eq_none -> wE, mem_of_mem_take -> wF, drop_length -> wO, filter_eq_self -> wV, getElem?_append_right -> wX, getElem?_append_left -> wY
open Bool renaming and_eq_true -> zh, false_eq_true -> yu, true -> O, false -> G
open Int renaming toNat_natCast -> zi, le_refl -> zw, toNat -> zD, mul_nonneg -> zI, mul_le_mul_of_nonneg_right -> zM, ediv_nonneg -> zS, mul_assoc -> yb, one_mul -> yd, lt_irrefl -> yl, ediv_le_self -> yo, mul_le_mul -> y4, le_trans -> xV, mul_le_mul_of_nonneg_left -> va
open Option renaming map_eq_some_iff -> zl, some -> zF, isSome_none -> vh, some -> V, none -> I
open Array renaming length_toList -> yp, getElem?_eq_some_iff -> xd, getElem?_eq_getElem -> xe, getElem?_toList -> wP, getElem?_modify -> vk
open Decidable renaming decide -> J
open Go.Proofs.Tryz renaming prog -> vn
open Go.Proofs.Tryz
set_option linter.unusedSectionVars false
set_option linter.unusedVariables false
set_option linter.unusedSimpArgs false
set_option linter.defProp false
noncomputable section
set_option maxRecDepth 100000
namespace Go.Proofs.YtnfljbehcffmcaaGreat
open Go Go.Iv
open Go.IntKind (i64 u64)
def F79:bu:=(OV (amW (e91 di)))
structure On where
 t2:List aL
 t100:List bf
 (t101 t102:Int)
def adT:Td 0 On:= .c [] [2,100,101,102] (.r 0 1 (ec 2 (ql 34) (ec 100 (qo 0) (ec 101 aN (ec 102 aN en)))) (sr 0 131 sn) (λz=>⟨z.1.1,z.2.1,z.1.t.1,z.1.t.2.1⟩) (λx=>((x.t2,(),x.t101,x.t102,()),(x.t100,()))))
def Nq(p:On):af (af On):=
 bif J (p.t102<p.t101)then if 0<=p.t102/\p.t102<zR p.t100 then if 131=131/\zD p.t102<zR p.t100 then match if 0<=p.t102/\p.t102<zR p.t2 then match uf p.t2[zD p.t102]! with|I=>I|V r2=>bif bif r2 then G else O then V O else if 0<=p.t102/\p.t102<zR p.t2 then match LF p.t2[zD p.t102]! with|I=>I|V r3=>V (J (r3=0))else I else I with|I=>I|V r4=>bif r4 then V (I)else if 0<=p.t102/\p.t102<zR p.t2 then bif J (p.t2[zD p.t102]!.ah<p.t100[zD p.t102]!.ah)then V (I)else if 0<=p.t102/\p.t102<zR p.t2 then bif J (p.t100[zD p.t102]!.ag<p.t2[zD p.t102]!.ag)then V (I)else V (V (On.mk p.t2 p.t100 p.t101 (ak (p.t102+1))))else I else I else I else I else V (I)
def apm:An:=(noTwo (noTwo (.two (noTwo (.two (.two (.rb [91,144] 120) .no) .no)) .no)))
def W9:=bJ (Nq)
structure Ph where
 t2:List aL
 (t9 t69:List bf)
 (t70 t71:Int)
 b0:bW
def aak:Td 0 Ph:= .c [] [2,4,9,69,70,71] (.r 0 3 (ec 2 (ql 34) (ec 4 (qp 0 0) (ec 9 (qo 1) (ec 69 (qo 2) (ec 70 aN (ec 71 aN en)))))) (sb 0 29 (lg 29) (sr 1 131 (sr 2 131 sn))) (λz=>⟨z.1.1,z.t.1,z.t.2.1,z.1.q.1,z.1.q.2.1,z.2.1⟩) (λx=>((x.t2,(),(),(),x.t70,x.t71,()),(x.b0,x.t9,x.t69,()))))
def MP(p:Ph):af (af Ph):=
 bif J (p.t71<p.t70)then if 0<=p.t71/\p.t71<zR p.t69 then if 131=131/\zD p.t71<zR p.t69 then if 0<=p.t71/\p.t71<zR p.b0.aZ then bif J (((p.t2,(),(),(),p.t70,p.t71,()),p.b0,p.t9,p.t69,()).snd.fst.aZ[((p.t2,(),(),(),p.t70,p.t71,()),p.b0,p.t9,p.t69,()).fst.snd.snd.snd.snd.snd.fst.toNat]! <((p.t2,(),(),(),p.t70,p.t71,()),p.b0,p.t9,p.t69,()).snd.snd.snd.fst[((p.t2,(),(),(),p.t70,p.t71,()),p.b0,p.t9,p.t69,()).fst.snd.snd.snd.snd.snd.fst.toNat]!.ah)then V (I)else if 0<=p.t71/\p.t71<zR p.b0.aZ then bif J (((p.t2,(),(),(),p.t70,p.t71,()),p.b0,p.t9,p.t69,()).snd.snd.snd.fst[((p.t2,(),(),(),p.t70,p.t71,()),p.b0,p.t9,p.t69,()).fst.snd.snd.snd.snd.snd.fst.toNat]!.ag<((p.t2,(),(),(),p.t70,p.t71,()),p.b0,p.t9,p.t69,()).snd.fst.aZ[((p.t2,(),(),(),p.t70,p.t71,()),p.b0,p.t9,p.t69,()).fst.snd.snd.snd.snd.snd.fst.toNat]!)then V (I)else V (V (Ph.mk p.t2 p.t9 p.t69 p.t70 (ak (p.t71+1)) p.b0))else I else I else I else I else V (I)
def UD:=bJ (MP)
structure Gx where
 t2:List aL
 (t8 t9:List bf)
 t13:Int
 t40:List Int
 (t41 t42:Int)
 t47:List bf
 (t48 t49:Int)
 b0:aU
 b1:bW
def aeq:Td 0 Gx:= .c [] [2,3,4,8,9,13,40,41,42,47,48,49] (.r 0 5 (ec 2 (ql 34) (ec 3 (qp 0 0) (ec 4 (qp 1 0) (ec 8 (qo 2) (ec 9 (qo 3) (ec 13 aN (ec 40 (qo 4) (ec 41 aN (ec 42 aN (ec 47 (ql 131) (ec 48 aN (ec 49 aN en)))))))))))) (sb 0 26 (lg 26) (sb 1 29 (lg 29) (sr 2 131 (sr 3 131 (sr 4 129 sn))))) (λz=>⟨z.1.1,z.t.2.1,z.q.1,z.1.q.2.1,z.q.2.1,z.1.q.t.2.1,z.1.q.q.1,z.1.q.q.2.1,z.1.q.q.t.1,z.1.q.q.t.2.1,z.2.1,z.t.1⟩) (λx=>((x.t2,(),(),(),(),x.t13,(),x.t41,x.t42,x.t47,x.t48,x.t49,()),(x.b0,x.b1,x.t8,x.t9,x.t40,()))))
def WO(p:Gx):af (af Gx):=
 bif J (p.t49<p.t48)then if 0<=p.t49/\p.t49<zR p.t47 then bif J (p.t47[zD p.t49]!.bB=p.t13)then if(p.t9++[p.t47[zD p.t49]!]).length<=1073741824 then V (V (Gx.mk p.t2 p.t8 (p.t9++[p.t47[zD p.t49]!]) p.t13 p.t40 p.t41 p.t42 p.t47 p.t48 (ak (p.t49+1)) p.b0 p.b1))else I else V (V (Gx.mk p.t2 p.t8 p.t9 p.t13 p.t40 p.t41 p.t42 p.t47 p.t48 (ak (p.t49+1)) p.b0 p.b1))else I else V (I)
def Ht:=bJ (WO)
structure PY where
 t2:List aL
 (t8 t9:List bf)
 t40:List Int
 (t41 t42:Int)
 b0:aU
 b1:bW
def aaB:Td 0 PY:= .c [] [2,3,4,8,9,40,41,42] (.t (bX.s 9 [] 131) (.c [] [2,3,4,8,9,40,41,42] (.r 0 5 (ec 2 (ql 34) (ec 3 (qp 0 0) (ec 4 (qp 1 0) (ec 8 (qo 2) (ec 9 (qo 3) (ec 40 (qo 4) (ec 41 aN (ec 42 aN en)))))))) (sb 0 26 (lg 26) (sb 1 29 (lg 29) (sr 2 131 (sr 3 131 (sr 4 129 sn))))) (λz=>⟨z.1.1,z.t.2.1,z.q.1,z.q.2.1,z.1.q.t.1,z.1.q.t.2.1,z.2.1,z.t.1⟩) (λx=>((x.t2,(),(),(),(),(),x.t41,x.t42,()),(x.b0,x.b1,x.t8,x.t9,x.t40,()))))))
def V0(p:PY):af (af PY):=
 bif J (p.t42<p.t41)then if 0<=p.t42/\p.t42<zR p.t40 then if 129=129/\zD p.t42<zR p.t40 then match Ht (Gx.mk p.t2 p.t8 p.t9 p.t40[zD p.t42]! p.t40 p.t41 p.t42 p.b0.ai p.b0.ai.length 0 p.b0 p.b1)with|I=>I|V r1=>bif J (r1.t49<r1.t48)then if 0<=r1.t49/\r1.t49<zR r1.t47 then bif J (r1.t47[zD r1.t49]!.bB=r1.t13)then if(r1.t9++[r1.t47[zD r1.t49]!]).length<=1073741824 then I else I else I else I else V (V (PY.mk r1.t2 r1.t8 r1.t9 r1.t40 r1.t41 (ak (r1.t42+1)) r1.b0 r1.b1))else I else I else V (I)
def aoJ:An:=(noTwo (noTwo (.two (noTwo (noTwo (aeq.lp Ht .no))) .no)))
def OH:=bJ (V0)
structure Ic where
 t2:List aL
 (t8 t26:List bf)
 (t27 t28:Int)
 b0:aU
 b1:bW
def aaF:Td 0 Ic:= .c [] [2,3,4,8,9,26,27,28] (.t (bX.s 8 [] 131) (.c [] [2,3,4,8,9,26,27,28] (.r 0 3 (ec 2 (ql 34) (ec 3 (qp 0 0) (ec 4 (qp 1 0) (ec 8 (qo 2) (ec 9 qn (ec 26 (ql 131) (ec 27 aN (ec 28 aN en)))))))) (sb 0 26 (lg 26) (sb 1 29 (lg 29) (sr 2 131 sn))) (λz=>⟨z.1.1,z.t.2.1,z.1.q.2.1,z.1.q.t.1,z.1.q.t.2.1,z.2.1,z.t.1⟩) (λx=>((x.t2,(),(),(),(),x.t26,x.t27,x.t28,()),(x.b0,x.b1,x.t8,()))))))
def Vb(p:Ic):af (af Ic):=
 bif J (p.t28<p.t27)then if 0<=p.t28/\p.t28<zR p.t26 then bif J (p.t26[zD p.t28]!.bB=2)then if(p.t8++[p.t26[zD p.t28]!]).length<=1073741824 then V (V (Ic.mk p.t2 (p.t8++[p.t26[zD p.t28]!]) p.t26 p.t27 (ak (p.t28+1)) p.b0 p.b1))else I else V (V (Ic.mk p.t2 p.t8 p.t26 p.t27 (ak (p.t28+1)) p.b0 p.b1))else I else V (I)
def Xk:=bJ (Vb)
abbrev E79:=Int
def d79:Td 0 E79:= .c [] [6] (.r 0 0 (ec 6 aN en) sn (λz=>z.1.1) (λx=>((x,()),(()))))
def aEE:∀f∈([91,144]:aa Nat),bA (F79) f:=(aA (ga (Il (Fo bF))) (aA (ga (Il (Fo bF))) aH))
def m79(a0:aU)(a1:bW)(a2:aa aL):af E79:=
 match acE a0 with|I=>I|V r5=>bif bif J (r5=0)then G else O then V (r5)else match Xk (Ic.mk a2 [] a0.ai a0.ai.length 0 a0 a1)with|I=>I|V r6=>bif J (r6.t28<r6.t27)then if 0<=r6.t28/\r6.t28<zR r6.t26 then bif J (r6.t26[zD r6.t28]!.bB=2)then if(r6.t8++[r6.t26[zD r6.t28]!]).length<=1073741824 then I else I else I else I else match OH (PY.mk r6.t2 r6.t8 [] [1,3] (2:Int) 0 r6.b0 r6.b1)with|I=>I|V r7=>bif J (r7.t42<r7.t41)then if 0<=r7.t42/\r7.t42<zR r7.t40 then if 129=129/\zD r7.t42<zR r7.t40 then match Ht (Gx.mk r7.t2 r7.t8 r7.t9 r7.t40[zD r7.t42]! r7.t40 r7.t41 r7.t42 r7.b0.ai r7.b0.ai.length 0 r7.b0 r7.b1)with|I=>I|V r8=>bif J (r8.t49<r8.t48)then if 0<=r8.t49/\r8.t49<zR r8.t47 then bif J (r8.t47[zD r8.t49]!.bB=r8.t13)then if(r8.t9++[r8.t47[zD r8.t49]!]).length<=1073741824 then I else I else I else I else I else I else I else bif bif J ((zR r7.b1.aZ:Int)=(zR r7.t8:Int))then G else O then V 1 else match UD (Ph.mk r7.t2 r7.t9 r7.t8 r7.t8.length 0 r7.b1)with|I=>I|V r9=>bif J (r9.t71<r9.t70)then if 0<=r9.t71/\r9.t71<zR r9.t69 then if 131=131/\zD r9.t71<zR r9.t69 then if 0<=r9.t71/\r9.t71<zR r9.b0.aZ then bif J (((r9.t2,(),(),(),r9.t70,r9.t71,()),r9.b0,r9.t9,r9.t69,()).snd.fst.aZ[((r9.t2,(),(),(),r9.t70,r9.t71,()),r9.b0,r9.t9,r9.t69,()).fst.snd.snd.snd.snd.snd.fst.toNat]! <((r9.t2,(),(),(),r9.t70,r9.t71,()),r9.b0,r9.t9,r9.t69,()).snd.snd.snd.fst[((r9.t2,(),(),(),r9.t70,r9.t71,()),r9.b0,r9.t9,r9.t69,()).fst.snd.snd.snd.snd.snd.fst.toNat]!.ah)then V 3 else if 0<=r9.t71/\r9.t71<zR r9.b0.aZ then bif J (((r9.t2,(),(),(),r9.t70,r9.t71,()),r9.b0,r9.t9,r9.t69,()).snd.snd.snd.fst[((r9.t2,(),(),(),r9.t70,r9.t71,()),r9.b0,r9.t9,r9.t69,()).fst.snd.snd.snd.snd.snd.fst.toNat]!.ag<((r9.t2,(),(),(),r9.t70,r9.t71,()),r9.b0,r9.t9,r9.t69,()).snd.fst.aZ[((r9.t2,(),(),(),r9.t70,r9.t71,()),r9.b0,r9.t9,r9.t69,()).fst.snd.snd.snd.snd.snd.fst.toNat]!)then V 3 else I else I else I else I else I else bif bif J ((zR r9.t2:Int)=(zR r9.t9:Int))then G else O then V 2 else match W9 (On.mk r9.t2 r9.t9 r9.t9.length 0)with|I=>I|V r10=>bif J (r10.t102<r10.t101)then if 0<=r10.t102/\r10.t102<zR r10.t100 then if 131=131/\zD r10.t102<zR r10.t100 then match if 0<=r10.t102/\r10.t102<zR r10.t2 then match uf r10.t2[zD r10.t102]! with|I=>I|V r11=>bif bif r11 then G else O then V O else if 0<=r10.t102/\r10.t102<zR r10.t2 then match LF r10.t2[zD r10.t102]! with|I=>I|V r12=>V (J (r12=0))else I else I with|I=>I|V r13=>bif r13 then V 1 else if 0<=r10.t102/\r10.t102<zR r10.t2 then bif J (r10.t2[zD r10.t102]!.ah<r10.t100[zD r10.t102]!.ah)then V 3 else if 0<=r10.t102/\r10.t102<zR r10.t2 then bif J (r10.t100[zD r10.t102]!.ag<r10.t2[zD r10.t102]!.ag)then V 3 else I else I else I else I else I else V 0
def e79:=eL vn 79 G (lc (qg 26) (lc (qg 29) (lc (ql 34) ln))) d79 (λg=>m79 g.1 g.2.1 g.t.1)
def asn:EO e79:=λh=>kL (F:=F79) (an:=(noTwo (noTwo (noTwo (.two (noTwo (aaF.lp Xk .no)) (.two (noTwo (aaB.lp OH aoJ)) (noTwo (.two (noTwo (aak.lp UD .no)) (noTwo (.two (noTwo (adT.lp W9 apm)) .no)))))))))) (l:=[(aY f79 0,(aaF.lp Xk .no)),(aY f79 1,(aaB.lp OH aoJ)),(aY f79 2,(aeq.lp Ht .no)),(aY f79 3,(aak.lp UD .no)),(aY f79 4,(adT.lp W9 apm)),(.skip,(.rb [91,144] 120))]) func79 (lC (Wf (SI aP))) (aA (aO aaF) (aA (aO aaB) (aA (aO aeq) (aA (aO aak) (aA (aO adT) (aA aEE aH)))))) h
structure MX where
 t108:List dD
 (t109 t110:Int)
 b0:aU
 b1:bW
 b2:bL
 b3:ay
 b4:Runner
def aai:Td 0 MX:= .c [] [3,4,6,9,17,108,109,110] (.t (bX.c 4 3 [] 34) (.c [] [3,4,6,9,17,108,109,110] (.r 0 7 (ec 3 (qp 0 0) (ec 4 (qp 1 0) (ec 6 (qp 2 0) (ec 9 (qp 3 0) (ec 17 (qp 4 0) (ec 108 (ql 139) (ec 109 aN (ec 110 aN en)))))))) (sb 0 26 (lg 26) (sb 1 29 (lg 29) (sb 2 36 (aS (aS (aS (lc qn (aS (aS (aS (lc qn ln)))))))) (sb 3 128 (lc (qo 5) (aS (aS (aS (lc qn (aS (aS (aS ln)))))))) (sb 4 133 (lc (ql 131) (lc (ql 139) (lc (ql 166) (lc (qo 6) ln)))) (sr 5 34 (sr 6 34 sn))))))) (λz=>⟨z.1.q.2.1,z.1.q.t.1,z.1.q.t.2.1,z.2.1,z.t.1,(bL.mk (aL.mk z.t.2.1.1 z.t.2.1.2.1 z.t.2.1.t.1) [] (aL.mk z.t.2.1.q.1 z.t.2.1.q.2.1 z.t.2.1.q.t.1) []),(ay.mk z.q.t.1 (aL.mk z.q.1.2.1 z.q.1.t.1 z.q.1.t.2.1) [] (aL.mk z.q.1.q.2.1 z.q.1.q.t.1 z.q.1.q.t.2.1)),(Runner.mk (aU.mk z.q.2.1.1 z.q.2.1.2.1 z.q.2.1.t.1) z.q.t.2.1)⟩) (λx=>(((),(),(),(),(),x.t108,x.t109,x.t110,()),(x.b0,x.b1,(x.b2.aD.ah,x.b2.aD.ag,x.b2.aD.aj,(),x.b2.aI.ah,x.b2.aI.ag,x.b2.aI.aj,(),()),((),x.b3.aD.ah,x.b3.aD.ag,x.b3.aD.aj,(),x.b3.aI.ah,x.b3.aI.ag,x.b3.aI.aj,()),(x.b4.fF.ai,x.b4.fF.au,x.b4.fF.bM,(),()),x.b3.ai,x.b4.au,()))))))
def UN(p:MX):af (af MX):=
 bif J (p.t110<p.t109)then if 0<=p.t110/\p.t110<zR p.t108 then match TU (ay.mk p.b3.ai p.b3.aD [] p.b3.aI) (az.mk p.t108[zD p.t110]!.aG.bE p.t108[zD p.t110]!.aG.fN p.t108[zD p.t110]!.aG.ax)with|I=>I|V r1=>match m81 r1 p.t108[zD p.t110]!.ah p.t108[zD p.t110]!.ag with|I=>I|V r2=>if(p.b4.au++[r2.fst]).length<=1073741824 then V (V (MX.mk p.t108 p.t109 (ak (p.t110+1)) p.b0 p.b1 (bL.mk p.b2.aD [] p.b2.aI []) (ay.mk p.b3.ai p.b3.aD [] p.b3.aI) (Runner.mk p.b4.fF (p.b4.au++[r2.fst]))))else I else I else V (I)
def Om:=bJ (UN)
structure CH where
 t2:List aL
 (t10 t11 t12:Int)
 t47:List bf
 (t48 t49:Int)
 b0:aU
 b1:bW
 b2:bL
 b3:ay
def aeO:Td 0 CH:= .c [] [2,3,4,6,9,10,11,12,47,48,49] (.t (bX.c 3 0 [] 34) (.c [] [2,3,4,6,9,10,11,12,47,48,49] (.r 0 5 (ec 2 (ql 34) (ec 3 (qp 0 0) (ec 4 (qp 1 0) (ec 6 (qp 2 0) (ec 9 (qp 3 0) (ec 10 aN (ec 11 aN (ec 12 aN (ec 47 (ql 131) (ec 48 aN (ec 49 aN en))))))))))) (sb 0 26 (lg 26) (sb 1 29 (lg 29) (sb 2 36 (aS (aS (aS (lc qn (aS (aS (aS (lc qn ln)))))))) (sb 3 128 (lc (qo 4) (aS (aS (aS (lc qn (aS (aS (aS ln)))))))) (sr 4 34 sn))))) (λz=>⟨z.1.1,z.1.q.2.1,z.1.q.t.1,z.1.q.t.2.1,z.1.q.q.1,z.1.q.q.2.1,z.1.q.q.t.1,z.2.1,z.t.1,(bL.mk (aL.mk z.t.2.1.1 z.t.2.1.2.1 z.t.2.1.t.1) [] (aL.mk z.t.2.1.q.1 z.t.2.1.q.2.1 z.t.2.1.q.t.1) []),(ay.mk z.q.2.1 (aL.mk z.q.1.2.1 z.q.1.t.1 z.q.1.t.2.1) [] (aL.mk z.q.1.q.2.1 z.q.1.q.t.1 z.q.1.q.t.2.1))⟩) (λx=>((x.t2,(),(),(),(),x.t10,x.t11,x.t12,x.t47,x.t48,x.t49,()),(x.b0,x.b1,(x.b2.aD.ah,x.b2.aD.ag,x.b2.aD.aj,(),x.b2.aI.ah,x.b2.aI.ag,x.b2.aI.aj,(),()),((),x.b3.aD.ah,x.b3.aD.ag,x.b3.aD.aj,(),x.b3.aI.ah,x.b3.aI.ag,x.b3.aI.aj,()),x.b3.ai,()))))))
def W8(p:CH):af (af CH):=
 bif J (p.t49<p.t48)then if 0<=p.t49/\p.t49<zR p.t47 then bif J (p.t47[zD p.t49]!.bB=1)then if 0<=p.t10/\p.t10<zR p.t2 then if(p.b3.ai++[p.t2[zD p.t10]!]).length<=1073741824 then V (V (CH.mk p.t2 (ak (p.t10+1)) p.t11 p.t12 p.t47 p.t48 (ak (p.t49+1)) p.b0 p.b1 (bL.mk p.b2.aD [] p.b2.aI []) (ay.mk (p.b3.ai++[p.t2[zD p.t10]!]) p.b3.aD [] p.b3.aI)))else I else I else bif J (p.t47[zD p.t49]!.bB=2)then if 0<=p.t11/\p.t11<zR p.b1.aZ then if(p.b3.ai++[W6 p.b1.aZ[zD p.t11]!]).length<=1073741824 then V (V (CH.mk p.t2 p.t10 (ak (p.t11+1)) p.t12 p.t47 p.t48 (ak (p.t49+1)) p.b0 p.b1 (bL.mk p.b2.aD [] p.b2.aI []) (ay.mk (p.b3.ai++[W6 p.b1.aZ[zD p.t11]!]) p.b3.aD [] p.b3.aI)))else I else I else bif J (p.t47[zD p.t49]!.bB=3)then if 0<=p.t12/\p.t12<zR p.t2 then if(p.b3.ai++[p.t2[zD p.t12]!]).length<=1073741824 then V (V (CH.mk p.t2 p.t10 p.t11 (ak (p.t12+1)) p.t47 p.t48 (ak (p.t49+1)) p.b0 p.b1 (bL.mk p.b2.aD [] p.b2.aI []) (ay.mk (p.b3.ai++[p.t2[zD p.t12]!]) p.b3.aD [] p.b3.aI)))else I else I else if(p.b3.ai++[W6 p.t47[zD p.t49]!.eG]).length<=1073741824 then V (V (CH.mk p.t2 p.t10 p.t11 p.t12 p.t47 p.t48 (ak (p.t49+1)) p.b0 p.b1 (bL.mk p.b2.aD [] p.b2.aI []) (ay.mk (p.b3.ai++[W6 p.t47[zD p.t49]!.eG]) p.b3.aD [] p.b3.aI)))else I else I else V (I)
def VK:=bJ (W8)
structure H6 where
 t2:List aL
 (t10 t11 t12:Int)
 t34:List bf
 (t35 t36:Int)
 b0:aU
 b1:bW
 b2:bL
 b3:ay
def aaL:Td 0 H6:= .c [] [2,3,4,6,9,10,11,12,34,35,36] (.r 0 4 (ec 2 (ql 34) (ec 3 (qp 0 0) (ec 4 (qp 1 0) (ec 6 (qp 2 0) (ec 9 (qp 3 0) (ec 10 aN (ec 11 aN (ec 12 aN (ec 34 (ql 131) (ec 35 aN (ec 36 aN en))))))))))) (sb 0 26 (lg 26) (sb 1 29 (lg 29) (sb 2 36 (aS (aS (aS (lc qn (aS (aS (aS (lc qn ln)))))))) (sb 3 128 (lc qn (aS (aS (aS (lc qn (aS (aS (aS ln)))))))) sn)))) (λz=>⟨z.1.1,z.1.q.2.1,z.1.q.t.1,z.1.q.t.2.1,z.1.q.q.1,z.1.q.q.2.1,z.1.q.q.t.1,z.2.1,z.t.1,(bL.mk (aL.mk z.t.2.1.1 z.t.2.1.2.1 z.t.2.1.t.1) [] (aL.mk z.t.2.1.q.1 z.t.2.1.q.2.1 z.t.2.1.q.t.1) []),(ay.mk [] (aL.mk z.q.1.2.1 z.q.1.t.1 z.q.1.t.2.1) [] (aL.mk z.q.1.q.2.1 z.q.1.q.t.1 z.q.1.q.t.2.1))⟩) (λx=>((x.t2,(),(),(),(),x.t10,x.t11,x.t12,x.t34,x.t35,x.t36,()),(x.b0,x.b1,(x.b2.aD.ah,x.b2.aD.ag,x.b2.aD.aj,(),x.b2.aI.ah,x.b2.aI.ag,x.b2.aI.aj,(),()),((),x.b3.aD.ah,x.b3.aD.ag,x.b3.aD.aj,(),x.b3.aI.ah,x.b3.aI.ag,x.b3.aI.aj,()),()))))
def V7(p:H6):af (af H6):=
 bif J (p.t36<p.t35)then if 0<=p.t36/\p.t36<zR p.t34 then bif J (p.t34[zD p.t36]!.bB=1)then V (V (H6.mk p.t2 p.t10 p.t11 (ak (p.t12+1)) p.t34 p.t35 (ak (p.t36+1)) p.b0 p.b1 (bL.mk p.b2.aD [] p.b2.aI []) (ay.mk [] p.b3.aD [] p.b3.aI)))else V (V (H6.mk p.t2 p.t10 p.t11 p.t12 p.t34 p.t35 (ak (p.t36+1)) p.b0 p.b1 (bL.mk p.b2.aD [] p.b2.aI []) (ay.mk [] p.b3.aD [] p.b3.aI)))else I else V (I)
def UF:=bJ (V7)
abbrev E20:=bL×Int
def d20:Td 0 E20:= .c [] [6,7] (.r 0 1 (ec 6 (qp 0 0) (ec 7 aN en)) (sb 0 36 (lg 36) sn) (λz=>(z.2.1,z.1.2.1)) (λx=>(((),x.2,()),(x.1,()))))
def m20(a0:aU)(a1:bW)(a2:aa aL):af E20:=
 match m79 a0 a1 a2 with|I=>I|V r3=>bif bif J (r3=0)then G else O then V ((bL.mk (aL.mk 0 0 0) [] (aL.mk 0 0 0) [],r3))else match UF (H6.mk a2 0 0 0 a0.ai a0.ai.length 0 a0 a1 (bL.mk (aL.mk 0 0 0) [] (aL.mk 0 0 0) []) (ay.mk [] (W6 0) [] (W6 0)))with|I=>I|V r4=>bif J (r4.t36<r4.t35)then if 0<=r4.t36/\r4.t36<zR r4.t34 then bif J (r4.t34[zD r4.t36]!.bB=1)then I else I else I else match VK (CH.mk r4.t2 r4.t10 r4.t11 r4.t12 r4.b0.ai r4.b0.ai.length 0 r4.b0 r4.b1 (bL.mk r4.b2.aD [] r4.b2.aI []) (ay.mk [] r4.b3.aD [] r4.b3.aI))with|I=>I|V r5=>bif J (r5.t49<r5.t48)then if 0<=r5.t49/\r5.t49<zR r5.t47 then bif J (r5.t47[zD r5.t49]!.bB=1)then if 0<=r5.t10/\r5.t10<zR r5.t2 then if(r5.b3.ai++[r5.t2[zD r5.t10]!]).length<=1073741824 then I else I else I else bif J (r5.t47[zD r5.t49]!.bB=2)then if 0<=r5.t11/\r5.t11<zR r5.b1.aZ then if(r5.b3.ai++[W6 r5.b1.aZ[zD r5.t11]!]).length<=1073741824 then I else I else I else bif J (r5.t47[zD r5.t49]!.bB=3)then if 0<=r5.t12/\r5.t12<zR r5.t2 then if(r5.b3.ai++[r5.t2[zD r5.t12]!]).length<=1073741824 then I else I else I else if(r5.b3.ai++[W6 r5.t47[zD r5.t49]!.eG]).length<=1073741824 then I else I else I else match Om (MX.mk r5.b0.au r5.b0.au.length 0 r5.b0 r5.b1 (bL.mk r5.b2.aD [] r5.b2.aI []) (ay.mk r5.b3.ai r5.b3.aD [] r5.b3.aI) (Runner.mk r5.b0 []))with|I=>I|V r6=>bif J (r6.t110<r6.t109)then if 0<=r6.t110/\r6.t110<zR r6.t108 then match TU (ay.mk r6.b3.ai r6.b3.aD [] r6.b3.aI) (az.mk r6.t108[zD r6.t110]!.aG.bE r6.t108[zD r6.t110]!.aG.fN r6.t108[zD r6.t110]!.aG.ax)with|I=>I|V r7=>match m81 r7 r6.t108[zD r6.t110]!.ah r6.t108[zD r6.t110]!.ag with|I=>I|V r8=>if(r6.b4.au++[r8.fst]).length<=1073741824 then I else I else I else match r83 r6.b4 r6.b0.bM (ay.mk r6.b3.ai r6.b3.aD [] r6.b3.aI)with|I=>I|V r9=>bif bif r6.b1.fZ then G else O then V ((bL.mk r9.aD r9.aF (W6 0) r9.ai,0))else V (bL.mk r9.aD r9.aF r9.aI r9.ai,0)
def e20:bu->bu:=eZ vn 20 (lc (qg 26) (lc (qg 29) (lc (ql 34) ln))) d20 (λg=>m20 g.1 g.2.1 g.t.1)
def acg:EO e20:=λh=>kZ (an:=(noTwo (noTwo (noTwo (noTwo (.two (noTwo (aaL.lp UF .no)) (.two (noTwo (aeO.lp VK .no)) (noTwo (.two (noTwo (aai.lp Om .no)) .no))))))))) (l:=[(aY f20 0,(aaL.lp UF .no)),(aY f20 1,(aeO.lp VK .no)),(aY f20 2,(aai.lp Om .no))]) func20 (atb (KH (QH (LG (asn aP))))) (aA (aO aaL) (aA (aO aeO) (aA (aO aai) aH))) h
def adz{F:bu}{f:Nat}(hne:ze f 20=G)(h:bA F f):bA (e20 F) f:=ri hne h
def F93:bu:=di
abbrev E93:=Int
def d93:Td 0 E93:= .c [] [4] (.r 0 0 (ec 4 aN en) sn (λz=>z.1.1) (λx=>((x,()),(()))))
def aG7:∀f∈([]:aa Nat),bA (F93) f:=aH
def m93(a0:Int)(a1:Int):af E93:=
 match bif J (0<a1)then if¬a1=0then V (J (ak ((1099511627776:Int).tdiv a1)<a0))else I else V G with|I=>I|V r1=>bif r1 then V 1099511627776 else V (ak (a0*a1))
def e93:=eL vn 93 G (aS (aS ln)) d93 (λg=>m93 g.1 g.2.1)
def ase:EO e93:=λh=>kL (F:=F93) (an:=(noTwo (.two (.two (.rb [] 12) .no) .no))) (l:=[(.skip,(.rb [] 12))]) func93 aP (aA aG7 aH) h
structure Mx where
 (t10 t13:Int)
 t58:List aL
 (t59 t60:Int)
def acy:Td 0 Mx:= .c [] [10,13,58,59,60] (.r 0 0 (ec 10 aN (ec 13 aN (ec 58 (ql 34) (ec 59 aN (ec 60 aN en))))) sn (λz=>⟨z.1.1,z.1.2.1,z.1.t.1,z.1.t.2.1,z.1.q.1⟩) (λx=>((x.t10,x.t13,x.t58,x.t59,x.t60,()),(()))))
def VM(p:Mx):af (af Mx):=
 bif J (p.t60<p.t59)then if 0<=p.t60/\p.t60<zR p.t58 then match LF p.t58[zD p.t60]! with|I=>I|V r6=>match m93 p.t13 r6 with|I=>I|V r7=>V (V (Mx.mk p.t10 r7 p.t58 p.t59 (ak (p.t60+1))))else I else V (I)
def VC:=bJ (VM)
structure Cm where
 t2:List aL
 (t10 t11 t32 t33:Int)
 b0:bL
def abL:Td 0 Cm:= .c [] [2,8,10,11,32,33] (.r 0 1 (ec 2 (ql 34) (ec 8 (qp 0 0) (ec 10 aN (ec 11 aN (ec 32 aN (ec 33 aN en)))))) (sb 0 36 (lg 36) sn) (λz=>⟨z.1.1,z.1.t.1,z.1.t.2.1,z.1.q.1,z.1.q.2.1,z.2.1⟩) (λx=>((x.t2,(),x.t10,x.t11,x.t32,x.t33,()),(x.b0,()))))
def V2(p:Cm):af (af Cm):=
 bif J (p.t33<p.t32)then match m92 p.b0.aD p.t33 with|I=>I|V r1=>bif r1 then bif J (p.t33<zR p.b0.aF)then if 0<=p.t33/\p.t33<zR p.b0.aF then match LF p.b0.aF[zD p.t33]! with|I=>I|V r2=>match m93 p.t11 r2 with|I=>I|V r3=>V (V (Cm.mk p.t2 (if 1099511627776<ak (p.t10+p.t11)then 1099511627776 else ak (p.t10+p.t11)) r3 p.t32 (ak (p.t33+1)) p.b0))else I else V (V (Cm.mk p.t2 (if 1099511627776<ak (p.t10+p.t11)then 1099511627776 else ak (p.t10+p.t11)) p.t11 p.t32 (ak (p.t33+1)) p.b0))else bif J (p.t33<zR p.b0.aF)then if 0<=p.t33/\p.t33<zR p.b0.aF then match LF p.b0.aF[zD p.t33]! with|I=>I|V r4=>match m93 p.t11 r4 with|I=>I|V r5=>V (V (Cm.mk p.t2 p.t10 r5 p.t32 (ak (p.t33+1)) p.b0))else I else V (V (Cm.mk p.t2 p.t10 p.t11 p.t32 (ak (p.t33+1)) p.b0))else V (I)
def Wb:=bJ (V2)
abbrev E25:=Int×Int
def d25:Td 0 E25:= .c [] [6,7] (.r 0 0 (ec 6 aN (ec 7 aN en)) sn (λz=>(z.1.1,z.1.2.1)) (λx=>((x.1,x.2,()),(()))))
def A25:=(lc (qg 26) (lc (qg 29) (lc (ql 34) ln)))
def RI(a0:aU)(a1:bW)(a2:aa aL):af E25:=
 match m20 a0 a1 a2 with|I=>I|V r8=>bif bif J (r8.snd=0)then G else O then V (0,r8.snd)else match LF r8.fst.aI with|I=>I|V r9=>match Wb (Cm.mk a2 0 r9 (ak ((zR r8.fst.aF:Int)+1)) 0 r8.fst)with|I=>I|V r10=>bif J (r10.t33<r10.t32)then match m92 r10.b0.aD r10.t33 with|I=>I|V r11=>bif r11 then bif J (r10.t33<zR r10.b0.aF)then if 0<=r10.t33/\r10.t33<zR r10.b0.aF then match LF r10.b0.aF[zD r10.t33]! with|I=>I|V r12=>match m93 r10.t11 r12 with|I=>I|V r13=>I else I else I else bif J (r10.t33<zR r10.b0.aF)then if 0<=r10.t33/\r10.t33<zR r10.b0.aF then match LF r10.b0.aF[zD r10.t33]! with|I=>I|V r14=>match m93 r10.t11 r14 with|I=>I|V r15=>I else I else I else match VC (Mx.mk r10.t10 1 r10.t2 r10.t2.length 0)with|I=>I|V r16=>bif J (r16.t60<r16.t59)then if 0<=r16.t60/\r16.t60<zR r16.t58 then match LF r16.t58[zD r16.t60]! with|I=>I|V r17=>match m93 r16.t13 r17 with|I=>I|V r18=>I else I else V (if r16.t13<r16.t10 then r16.t13 else r16.t10,0)
def e25:=eL vn 25 G A25 d25 (λg=>RI g.1 g.2.1 g.t.1)
def IN:EO e25:=λh=>kL (an:=(noTwo (noTwo (noTwo (noTwo (.two (noTwo (abL.lp Wb .no)) (noTwo (.two (noTwo (acy.lp VC .no)) .no)))))))) (l:=[(aY f25 0,(abL.lp Wb .no)),(aY f25 1,(acy.lp VC .no))]) func25 (ase (QI (SI (acg aP)))) (aA (aO abL) (aA (aO acy) aH)) h
def F26:bu:=(e91 (e20 di))
structure Na where
 t12:Bool
 t41:List aL
 (t42 t43:Int)
 (b0 b1:aC)
def ab3:Td 0 Na:= .c [] [6,11,12,41,42,43] (.t (bX.c 1 0 [] 3) (.c [] [6,11,12,41,42,43] (.r 0 3 (ec 6 (qp 0 0) (ec 11 (qp 1 0) (ec 12 qb (ec 41 (ql 34) (ec 42 aN (ec 43 aN en)))))) (sb 0 47 (lc qn (aS ln)) (sb 1 47 (lc (qo 2) (aS ln)) (sr 2 3 sn))) (λz=>⟨z.1.t.1,z.1.t.2.1,z.1.q.1,z.1.q.2.1,(aC.mk [] z.2.1.2.1),(aC.mk z.t.2.1 z.t.1.2.1)⟩) (λx=>(((),(),x.t12,x.t41,x.t42,x.t43,()),(((),x.b0.aI,()),((),x.b1.aI,()),x.b1.aK,()))))))
def Wt(p:Na):af (af Na):=
 bif J (p.t43<p.t42)then if 0<=p.t43/\p.t43<zR p.t41 then match bif p.t12 then match LF p.t41[zD p.t43]! with|I=>I|V r1=>V (J (r1=1))else V G with|I=>I|V r2=>if(p.b1.aK++[p.t41[zD p.t43]!.ah]).length<=1073741824 then V (V (Na.mk r2 p.t41 p.t42 (ak (p.t43+1)) (aC.mk [] p.b0.aI) (aC.mk (p.b1.aK++[p.t41[zD p.t43]!.ah]) p.b1.aI)))else I else I else V (I)
def apa:An:=(noTwo (noTwo (.two (noTwo (.two (.rb [91] 12) .no)) .no)))
def Vl:=bJ (Wt)
abbrev E26:=aC×Bool×Int
def d26:Td 0 E26:= .c [] [6,7,8] (.t (bX.c 0 0 [] 3) (.c [] [6,7,8] (.r 0 2 (ec 6 (qp 0 0) (ec 7 qb (ec 8 aN en))) (sb 0 47 (lc (qo 1) (aS ln)) (sr 1 3 sn)) (λz=>((aC.mk z.t.1 z.2.1.2.1),z.1.2.1,z.1.t.1)) (λx=>(((),x.2.1,x.t,()),(((),x.1.aI,()),x.1.aK,()))))))
def A26:=(lc (qg 26) (lc (qg 29) (lc (ql 34) ln)))
def axn:∀f∈([91]:aa Nat),bA (F26) f:=(aA (Fo (adz (f:=91) rfl bF)) aH)
def ZC(a0:aU)(a1:bW)(a2:aa aL):af E26:=
 match m20 a0 a1 a2 with|I=>I|V r3=>bif bif J (r3.snd=0)then G else O then V ((aC.mk [] (0),G,r3.snd))else match match LF r3.fst.aD with|I=>I|V r4=>bif J (r4=1)then match LF r3.fst.aI with|I=>I|V r5=>V (J (r5=1))else V G with|I=>I|V r6=>match Vl (Na.mk r6 r3.fst.aF r3.fst.aF.length 0 (aC.mk [] (0)) (aC.mk [] r3.fst.aI.ah))with|I=>I|V r7=>bif J (r7.t43<r7.t42)then if 0<=r7.t43/\r7.t43<zR r7.t41 then match bif r7.t12 then match LF r7.t41[zD r7.t43]! with|I=>I|V r8=>V (J (r8=1))else V G with|I=>I|V r9=>if(r7.b1.aK++[r7.t41[zD r7.t43]!.ah]).length<=1073741824 then I else I else I else bif bif r7.t12 then G else O then V ((aC.mk [] (0),G,0))else V (r7.b1,O,0)
def e26:=eL vn 26 G A26 d26 (λg=>ZC g.1 g.2.1 g.t.1)
def KB:EO e26:=λh=>kL (F:=F26) (an:=(noTwo (noTwo (noTwo (noTwo (.two (.rb [91] 12) (.two (noTwo (ab3.lp Vl apa)) .no))))))) (l:=[(.skip,(.rb [91] 12)),(aY f26 0,(ab3.lp Vl apa)),(.skip,(.rb [91] 12))]) func26 (SI (acg aP)) (aA axn (aA (aO ab3) (aA axn aH))) h
def F21:bu:=(e84 (e78 (e43 di)))
structure NH where
 t2:List aL
 t95:List bf
 (t96 t97:Int)
def abW:Td 0 NH:= .c [] [2,95,96,97] (.r 0 1 (ec 2 (ql 34) (ec 95 (qo 0) (ec 96 aN (ec 97 aN en)))) (sr 0 131 sn) (λz=>⟨z.1.1,z.2.1,z.1.t.1,z.1.t.2.1⟩) (λx=>((x.t2,(),x.t96,x.t97,()),(x.t95,()))))
def MA(p:NH):af (af NH):=
 bif J (p.t97<p.t96)then if 0<=p.t97/\p.t97<zR p.t95 then if 131=131/\zD p.t97<zR p.t95 then match if 0<=p.t97/\p.t97<zR p.t2 then match ZN p.t2[zD p.t97]! with|I=>I|V r4=>bif bif r4 then G else O then V O else if 0<=p.t97/\p.t97<zR p.t2 then match sP p.t2[zD p.t97]! with|I=>I|V r5=>V (J (r5=0))else I else I with|I=>I|V r6=>bif r6 then V (I)else if 0<=p.t97/\p.t97<zR p.t2 then bif J (p.t2[zD p.t97]!.ah<p.t95[zD p.t97]!.ah)then V (I)else if 0<=p.t97/\p.t97<zR p.t2 then bif J (p.t95[zD p.t97]!.ag<p.t2[zD p.t97]!.ag)then V (I)else V (V (NH.mk p.t2 p.t95 p.t96 (ak (p.t97+1))))else I else I else I else I else V (I)
def aoQ:An:=(noTwo (noTwo (.two (noTwo (.two (.two (.rb [43,84] 115) .no) .no)) .no)))
def Ul:=bJ (MA)
structure NK where
 t2:List aL
 (t9 t64:List bf)
 (t65 t66:Int)
 b0:bW
def aeD:Td 0 NK:= .c [] [2,4,9,64,65,66] (.r 0 3 (ec 2 (ql 34) (ec 4 (qp 0 0) (ec 9 (qo 1) (ec 64 (qo 2) (ec 65 aN (ec 66 aN en)))))) (sb 0 29 (lg 29) (sr 1 131 (sr 2 131 sn))) (λz=>⟨z.1.1,z.t.1,z.t.2.1,z.1.q.1,z.1.q.2.1,z.2.1⟩) (λx=>((x.t2,(),(),(),x.t65,x.t66,()),(x.b0,x.t9,x.t64,()))))
def Oz(p:NK):af (af NK):=
 bif J (p.t66<p.t65)then if 0<=p.t66/\p.t66<zR p.t64 then if 131=131/\zD p.t66<zR p.t64 then if 0<=p.t66/\p.t66<zR p.b0.aZ then bif J (((p.t2,(),(),(),p.t65,p.t66,()),p.b0,p.t9,p.t64,()).snd.fst.aZ[((p.t2,(),(),(),p.t65,p.t66,()),p.b0,p.t9,p.t64,()).fst.snd.snd.snd.snd.snd.fst.toNat]! <((p.t2,(),(),(),p.t65,p.t66,()),p.b0,p.t9,p.t64,()).snd.snd.snd.fst[((p.t2,(),(),(),p.t65,p.t66,()),p.b0,p.t9,p.t64,()).fst.snd.snd.snd.snd.snd.fst.toNat]!.ah)then V (I)else if 0<=p.t66/\p.t66<zR p.b0.aZ then bif J (((p.t2,(),(),(),p.t65,p.t66,()),p.b0,p.t9,p.t64,()).snd.snd.snd.fst[((p.t2,(),(),(),p.t65,p.t66,()),p.b0,p.t9,p.t64,()).fst.snd.snd.snd.snd.snd.fst.toNat]!.ag<((p.t2,(),(),(),p.t65,p.t66,()),p.b0,p.t9,p.t64,()).snd.fst.aZ[((p.t2,(),(),(),p.t65,p.t66,()),p.b0,p.t9,p.t64,()).fst.snd.snd.snd.snd.snd.fst.toNat]!)then V (I)else V (V (NK.mk p.t2 p.t9 p.t64 p.t65 (ak (p.t66+1)) p.b0))else I else I else I else I else V (I)
def Uy:=bJ (Oz)
structure CC where
 t2:List aL
 (t8 t9:List bf)
 t11:Int
 t23:List Int
 (t24 t25:Int)
 t30:List bf
 (t31 t32:Int)
 b0:aU
 b1:bW
def acP:Td 0 CC:= .c [] [2,3,4,8,9,11,23,24,25,30,31,32] (.r 0 5 (ec 2 (ql 34) (ec 3 (qp 0 0) (ec 4 (qp 1 0) (ec 8 (qo 2) (ec 9 (qo 3) (ec 11 aN (ec 23 (qo 4) (ec 24 aN (ec 25 aN (ec 30 (ql 131) (ec 31 aN (ec 32 aN en)))))))))))) (sb 0 26 (lg 26) (sb 1 29 (lg 29) (sr 2 131 (sr 3 131 (sr 4 129 sn))))) (λz=>⟨z.1.1,z.t.2.1,z.q.1,z.1.q.2.1,z.q.2.1,z.1.q.t.2.1,z.1.q.q.1,z.1.q.q.2.1,z.1.q.q.t.1,z.1.q.q.t.2.1,z.2.1,z.t.1⟩) (λx=>((x.t2,(),(),(),(),x.t11,(),x.t24,x.t25,x.t30,x.t31,x.t32,()),(x.b0,x.b1,x.t8,x.t9,x.t23,()))))
def WV(p:CC):af (af CC):=
 bif J (p.t32<p.t31)then if 0<=p.t32/\p.t32<zR p.t30 then match bif J (p.t30[zD p.t32]!.bB=p.t11)then V (J (p.t11=2))else V G with|I=>I|V r3=>bif r3 then if(p.t8++[p.t30[zD p.t32]!]).length<=1073741824 then V (V (CC.mk p.t2 (p.t8++[p.t30[zD p.t32]!]) p.t9 p.t11 p.t23 p.t24 p.t25 p.t30 p.t31 (ak (p.t32+1)) p.b0 p.b1))else I else bif J (p.t30[zD p.t32]!.bB=p.t11)then if(p.t9++[p.t30[zD p.t32]!]).length<=1073741824 then V (V (CC.mk p.t2 p.t8 (p.t9++[p.t30[zD p.t32]!]) p.t11 p.t23 p.t24 p.t25 p.t30 p.t31 (ak (p.t32+1)) p.b0 p.b1))else I else V (V (CC.mk p.t2 p.t8 p.t9 p.t11 p.t23 p.t24 p.t25 p.t30 p.t31 (ak (p.t32+1)) p.b0 p.b1))else I else V (I)
def aoW:An:=(noTwo (noTwo (.two (noTwo (.two (.rb [43,84] 43) .no)) .no)))
def Nt:=bJ (WV)
structure Ns where
 t2:List aL
 (t8 t9:List bf)
 t23:List Int
 (t24 t25:Int)
 b0:aU
 b1:bW
def aeP:Td 0 Ns:= .c [] [2,3,4,8,9,23,24,25] (.t (bX.s 8 [] 131) (.t (bX.s 9 [] 131) (.c [] [2,3,4,8,9,23,24,25] (.r 0 5 (ec 2 (ql 34) (ec 3 (qp 0 0) (ec 4 (qp 1 0) (ec 8 (qo 2) (ec 9 (qo 3) (ec 23 (qo 4) (ec 24 aN (ec 25 aN en)))))))) (sb 0 26 (lg 26) (sb 1 29 (lg 29) (sr 2 131 (sr 3 131 (sr 4 129 sn))))) (λz=>⟨z.1.1,z.t.2.1,z.q.1,z.q.2.1,z.1.q.t.1,z.1.q.t.2.1,z.2.1,z.t.1⟩) (λx=>((x.t2,(),(),(),(),(),x.t24,x.t25,()),(x.b0,x.b1,x.t8,x.t9,x.t23,())))))))
def Pe(p:Ns):af (af Ns):=
 bif J (p.t25<p.t24)then if 0<=p.t25/\p.t25<zR p.t23 then if 129=129/\zD p.t25<zR p.t23 then match Nt (CC.mk p.t2 p.t8 p.t9 p.t23[zD p.t25]! p.t23 p.t24 p.t25 p.b0.ai p.b0.ai.length 0 p.b0 p.b1)with|I=>I|V r1=>bif J (r1.t32<r1.t31)then if 0<=r1.t32/\r1.t32<zR r1.t30 then match bif J (r1.t30[zD r1.t32]!.bB=r1.t11)then V (J (r1.t11=2))else V G with|I=>I|V r2=>bif r2 then if(r1.t8++[r1.t30[zD r1.t32]!]).length<=1073741824 then I else I else bif J (r1.t30[zD r1.t32]!.bB=r1.t11)then if(r1.t9++[r1.t30[zD r1.t32]!]).length<=1073741824 then I else I else I else I else V (V (Ns.mk r1.t2 r1.t8 r1.t9 r1.t23 r1.t24 (ak (r1.t25+1)) r1.b0 r1.b1))else I else I else V (I)
def aps:An:=(noTwo (noTwo (.two (noTwo (noTwo (acP.lp Nt aoW))) .no)))
def Pm:=bJ (Pe)
abbrev E21:=Int
def d21:Td 0 E21:= .c [] [6] (.r 0 0 (ec 6 aN en) sn (λz=>z.1.1) (λx=>((x,()),(()))))
def awH:∀f∈([43,84]:aa Nat),bA (F21) f:=(aA (iL (uT (lW bF))) (aA (iL (uT (lW bF))) aH))
def m21(a0:aU)(a1:bW)(a2:aa aL):af E21:=
 match m78 a0 with|I=>I|V r7=>bif bif J (r7=0)then G else O then V (r7)else match Pm (Ns.mk a2 [] [] [1,3,2] (3:Int) 0 a0 a1)with|I=>I|V r8=>bif J (r8.t25<r8.t24)then if 0<=r8.t25/\r8.t25<zR r8.t23 then if 129=129/\zD r8.t25<zR r8.t23 then match Nt (CC.mk r8.t2 r8.t8 r8.t9 r8.t23[zD r8.t25]! r8.t23 r8.t24 r8.t25 r8.b0.ai r8.b0.ai.length 0 r8.b0 r8.b1)with|I=>I|V r9=>bif J (r9.t32<r9.t31)then if 0<=r9.t32/\r9.t32<zR r9.t30 then match bif J (r9.t30[zD r9.t32]!.bB=r9.t11)then V (J (r9.t11=2))else V G with|I=>I|V r10=>bif r10 then if(r9.t8++[r9.t30[zD r9.t32]!]).length<=1073741824 then I else I else bif J (r9.t30[zD r9.t32]!.bB=r9.t11)then if(r9.t9++[r9.t30[zD r9.t32]!]).length<=1073741824 then I else I else I else I else I else I else I else bif bif J ((zR r8.b1.aZ:Int)=(zR r8.t8:Int))then G else O then V 1 else match Uy (NK.mk r8.t2 r8.t9 r8.t8 r8.t8.length 0 r8.b1)with|I=>I|V r11=>bif J (r11.t66<r11.t65)then if 0<=r11.t66/\r11.t66<zR r11.t64 then if 131=131/\zD r11.t66<zR r11.t64 then if 0<=r11.t66/\r11.t66<zR r11.b0.aZ then bif J (((r11.t2,(),(),(),r11.t65,r11.t66,()),r11.b0,r11.t9,r11.t64,()).snd.fst.aZ[((r11.t2,(),(),(),r11.t65,r11.t66,()),r11.b0,r11.t9,r11.t64,()).fst.snd.snd.snd.snd.snd.fst.toNat]! <((r11.t2,(),(),(),r11.t65,r11.t66,()),r11.b0,r11.t9,r11.t64,()).snd.snd.snd.fst[((r11.t2,(),(),(),r11.t65,r11.t66,()),r11.b0,r11.t9,r11.t64,()).fst.snd.snd.snd.snd.snd.fst.toNat]!.ah)then V 3 else if 0<=r11.t66/\r11.t66<zR r11.b0.aZ then bif J (((r11.t2,(),(),(),r11.t65,r11.t66,()),r11.b0,r11.t9,r11.t64,()).snd.snd.snd.fst[((r11.t2,(),(),(),r11.t65,r11.t66,()),r11.b0,r11.t9,r11.t64,()).fst.snd.snd.snd.snd.snd.fst.toNat]!.ag<((r11.t2,(),(),(),r11.t65,r11.t66,()),r11.b0,r11.t9,r11.t64,()).snd.fst.aZ[((r11.t2,(),(),(),r11.t65,r11.t66,()),r11.b0,r11.t9,r11.t64,()).fst.snd.snd.snd.snd.snd.fst.toNat]!)then V 3 else I else I else I else I else I else bif bif J ((zR r11.t2:Int)=(zR r11.t9:Int))then G else O then V 2 else match Ul (NH.mk r11.t2 r11.t9 r11.t9.length 0)with|I=>I|V r12=>bif J (r12.t97<r12.t96)then if 0<=r12.t97/\r12.t97<zR r12.t95 then if 131=131/\zD r12.t97<zR r12.t95 then match if 0<=r12.t97/\r12.t97<zR r12.t2 then match ZN r12.t2[zD r12.t97]! with|I=>I|V r13=>bif bif r13 then G else O then V O else if 0<=r12.t97/\r12.t97<zR r12.t2 then match sP r12.t2[zD r12.t97]! with|I=>I|V r14=>V (J (r14=0))else I else I with|I=>I|V r15=>bif r15 then V 1 else if 0<=r12.t97/\r12.t97<zR r12.t2 then bif J (r12.t2[zD r12.t97]!.ah<r12.t95[zD r12.t97]!.ah)then V 3 else if 0<=r12.t97/\r12.t97<zR r12.t2 then bif J (r12.t95[zD r12.t97]!.ag<r12.t2[zD r12.t97]!.ag)then V 3 else I else I else I else I else I else V 0
def e21:=eL vn 21 G (lc (qg 26) (lc (qg 29) (lc (ql 34) ln))) d21 (λg=>m21 g.1 g.2.1 g.t.1)
def asG:EO e21:=λh=>kL (F:=F21) (an:=(noTwo (noTwo (noTwo (.two (noTwo (aeP.lp Pm aps)) (noTwo (.two (noTwo (aeD.lp Uy .no)) (noTwo (.two (noTwo (abW.lp Ul aoQ)) .no))))))))) (l:=[(aY f21 0,(aeP.lp Pm aps)),(aY f21 1,(acP.lp Nt aoW)),(.skip,(.rb [43,84] 43)),(aY f21 2,(aeD.lp Uy .no)),(aY f21 3,(abW.lp Ul aoQ)),(.skip,(.rb [43,84] 115))]) func21 (tN (ad4 (pE aP))) (aA (aO aeP) (aA (aO acP) (aA awH (aA (aO aeD) (aA (aO abW) (aA awH aH)))))) h
structure Cu where
 t2:List aL
 (t11 t12 t13:Int)
 t33:List bf
 (t34 t35:Int)
 b0:bW
 (b1 b2:aJ)
def acV:Td 0 Cu:= .c [] [2,4,6,7,11,12,13,33,34,35] (.t (bX.c 2 0 [] 34) (.c [] [2,4,6,7,11,12,13,33,34,35] (.r 0 4 (ec 2 (ql 34) (ec 4 (qp 0 0) (ec 6 (qp 1 0) (ec 7 (qp 2 0) (ec 11 aN (ec 12 aN (ec 13 aN (ec 33 (ql 131) (ec 34 aN (ec 35 aN en)))))))))) (sb 0 29 (lg 29) (sb 1 147 (lc qn (aS (aS (aS (lc qn (aS (aS (aS ln)))))))) (sb 2 147 (lc (qo 3) (aS (aS (aS (lc qn (aS (aS (aS ln)))))))) (sr 3 34 sn)))) (λz=>⟨z.1.1,z.1.q.1,z.1.q.2.1,z.1.q.t.1,z.1.q.t.2.1,z.1.q.q.1,z.1.q.q.2.1,z.2.1,(aJ.mk [] (aL.mk z.t.1.2.1 z.t.1.t.1 z.t.1.t.2.1) [] (aL.mk z.t.1.q.2.1 z.t.1.q.t.1 z.t.1.q.t.2.1)),(aJ.mk z.q.1 (aL.mk z.t.2.1.2.1 z.t.2.1.t.1 z.t.2.1.t.2.1) [] (aL.mk z.t.2.1.q.2.1 z.t.2.1.q.t.1 z.t.2.1.q.t.2.1))⟩) (λx=>((x.t2,(),(),(),x.t11,x.t12,x.t13,x.t33,x.t34,x.t35,()),(x.b0,((),x.b1.aD.ah,x.b1.aD.ag,x.b1.aD.aj,(),x.b1.aI.ah,x.b1.aI.ag,x.b1.aI.aj,()),((),x.b2.aD.ah,x.b2.aD.ag,x.b2.aD.aj,(),x.b2.aI.ah,x.b2.aI.ag,x.b2.aI.aj,()),x.b2.ai,()))))))
def Un(p:Cu):af (af Cu):=
 bif J (p.t35<p.t34)then if 0<=p.t35/\p.t35<zR p.t33 then bif J (p.t33[zD p.t35]!.bB=1)then if 0<=p.t11/\p.t11<zR p.t2 then if(p.b2.ai++[p.t2[zD p.t11]!]).length<=1073741824 then V (V (Cu.mk p.t2 (ak (p.t11+1)) p.t12 p.t13 p.t33 p.t34 (ak (p.t35+1)) p.b0 (aJ.mk [] p.b1.aD [] p.b1.aI) (aJ.mk (p.b2.ai++[p.t2[zD p.t11]!]) p.b2.aD [] p.b2.aI)))else I else I else bif J (p.t33[zD p.t35]!.bB=3)then if 0<=p.t12/\p.t12<zR p.t2 then if(p.b2.ai++[p.t2[zD p.t12]!]).length<=1073741824 then V (V (Cu.mk p.t2 p.t11 (ak (p.t12+1)) p.t13 p.t33 p.t34 (ak (p.t35+1)) p.b0 (aJ.mk [] p.b1.aD [] p.b1.aI) (aJ.mk (p.b2.ai++[p.t2[zD p.t12]!]) p.b2.aD [] p.b2.aI)))else I else I else bif J (p.t33[zD p.t35]!.bB=2)then if 0<=p.t13/\p.t13<zR p.b0.aZ then if(p.b2.ai++[m36 p.b0.aZ[zD p.t13]!]).length<=1073741824 then V (V (Cu.mk p.t2 p.t11 p.t12 (ak (p.t13+1)) p.t33 p.t34 (ak (p.t35+1)) p.b0 (aJ.mk [] p.b1.aD [] p.b1.aI) (aJ.mk (p.b2.ai++[m36 p.b0.aZ[zD p.t13]!]) p.b2.aD [] p.b2.aI)))else I else I else if(p.b2.ai++[m36 p.t33[zD p.t35]!.eG]).length<=1073741824 then V (V (Cu.mk p.t2 p.t11 p.t12 p.t13 p.t33 p.t34 (ak (p.t35+1)) p.b0 (aJ.mk [] p.b1.aD [] p.b1.aI) (aJ.mk (p.b2.ai++[m36 p.t33[zD p.t35]!.eG]) p.b2.aD [] p.b2.aI)))else I else I else V (I)
def Ws:=bJ (Un)
structure Hg where
 t2:List aL
 t8:Int
 t19:List bf
 (t20 t21:Int)
 b0:aU
 b1:bW
 (b2 b3:aJ)
def ZX:Td 0 Hg:= .c [] [2,3,4,6,7,8,19,20,21] (.r 0 4 (ec 2 (ql 34) (ec 3 (qp 0 0) (ec 4 (qp 1 0) (ec 6 (qp 2 0) (ec 7 (qp 3 0) (ec 8 aN (ec 19 (ql 131) (ec 20 aN (ec 21 aN en))))))))) (sb 0 26 (lg 26) (sb 1 29 (lg 29) (sb 2 147 (lc qn (aS (aS (aS (lc qn (aS (aS (aS ln)))))))) (sb 3 147 (lc qn (aS (aS (aS (lc qn (aS (aS (aS ln)))))))) sn)))) (λz=>⟨z.1.1,z.1.q.2.1,z.1.q.t.1,z.1.q.t.2.1,z.1.q.q.1,z.2.1,z.t.1,(aJ.mk [] (aL.mk z.t.2.1.2.1 z.t.2.1.t.1 z.t.2.1.t.2.1) [] (aL.mk z.t.2.1.q.2.1 z.t.2.1.q.t.1 z.t.2.1.q.t.2.1)),(aJ.mk [] (aL.mk z.q.1.2.1 z.q.1.t.1 z.q.1.t.2.1) [] (aL.mk z.q.1.q.2.1 z.q.1.q.t.1 z.q.1.q.t.2.1))⟩) (λx=>((x.t2,(),(),(),(),x.t8,x.t19,x.t20,x.t21,()),(x.b0,x.b1,((),x.b2.aD.ah,x.b2.aD.ag,x.b2.aD.aj,(),x.b2.aI.ah,x.b2.aI.ag,x.b2.aI.aj,()),((),x.b3.aD.ah,x.b3.aD.ag,x.b3.aD.aj,(),x.b3.aI.ah,x.b3.aI.ag,x.b3.aI.aj,()),()))))
def Ve(p:Hg):af (af Hg):=
 bif J (p.t21<p.t20)then if 0<=p.t21/\p.t21<zR p.t19 then bif J (p.t19[zD p.t21]!.bB=1)then V (V (Hg.mk p.t2 (ak (p.t8+1)) p.t19 p.t20 (ak (p.t21+1)) p.b0 p.b1 (aJ.mk [] p.b2.aD [] p.b2.aI) (aJ.mk [] p.b3.aD [] p.b3.aI)))else V (V (Hg.mk p.t2 p.t8 p.t19 p.t20 (ak (p.t21+1)) p.b0 p.b1 (aJ.mk [] p.b2.aD [] p.b2.aI) (aJ.mk [] p.b3.aD [] p.b3.aI)))else I else V (I)
def U7:=bJ (Ve)
abbrev E85:=aJ
def d85:Td 0 E85:= .c [] [6] (.r 0 2 (ec 6 (qp 0 0) en) (sb 0 147 (lc (qo 1) (aS (aS (aS (lc qn (aS (aS (aS ln)))))))) (sr 1 34 sn)) (λz=>(aJ.mk z.t.1 (aL.mk z.2.1.2.1 z.2.1.t.1 z.2.1.t.2.1) [] (aL.mk z.2.1.q.2.1 z.2.1.q.t.1 z.2.1.q.t.2.1))) (λx=>(((),()),(((),x.aD.ah,x.aD.ag,x.aD.aj,(),x.aI.ah,x.aI.ag,x.aI.aj,()),x.ai,()))))
def m85(a0:aU)(a1:bW)(a2:aa aL):af E85:=
 match U7 (Hg.mk a2 0 a0.ai a0.ai.length 0 a0 a1 (aJ.mk [] (aL.mk 0 0 0) [] (aL.mk 0 0 0)) (aJ.mk [] (aL.mk 0 0 0) [] (aL.mk 0 0 0)))with|I=>I|V r1=>bif J (r1.t21<r1.t20)then if 0<=r1.t21/\r1.t21<zR r1.t19 then bif J (r1.t19[zD r1.t21]!.bB=1)then I else I else I else match Ws (Cu.mk r1.t2 0 r1.t8 0 r1.b0.ai r1.b0.ai.length 0 r1.b1 (aJ.mk [] r1.b2.aD [] r1.b2.aI) (aJ.mk [] r1.b3.aD [] r1.b3.aI))with|I=>I|V r2=>bif J (r2.t35<r2.t34)then if 0<=r2.t35/\r2.t35<zR r2.t33 then bif J (r2.t33[zD r2.t35]!.bB=1)then if 0<=r2.t11/\r2.t11<zR r2.t2 then if(r2.b2.ai++[r2.t2[zD r2.t11]!]).length<=1073741824 then I else I else I else bif J (r2.t33[zD r2.t35]!.bB=3)then if 0<=r2.t12/\r2.t12<zR r2.t2 then if(r2.b2.ai++[r2.t2[zD r2.t12]!]).length<=1073741824 then I else I else I else bif J (r2.t33[zD r2.t35]!.bB=2)then if 0<=r2.t13/\r2.t13<zR r2.b0.aZ then if(r2.b2.ai++[m36 r2.b0.aZ[zD r2.t13]!]).length<=1073741824 then I else I else I else if(r2.b2.ai++[m36 r2.t33[zD r2.t35]!.eG]).length<=1073741824 then I else I else I else V (aJ.mk r2.b2.ai r2.b2.aD [] r2.b2.aI)
def e85:=eL vn 85 G (lc (qg 26) (lc (qg 29) (lc (ql 34) ln))) d85 (λg=>m85 g.1 g.2.1 g.t.1)
def ari:EO e85:=λh=>kL (an:=(noTwo (noTwo (noTwo (.two (noTwo (ZX.lp U7 .no)) (noTwo (.two (noTwo (acV.lp Ws .no)) .no))))))) (l:=[(aY f85 0,(ZX.lp U7 .no)),(aY f85 1,(acV.lp Ws .no))]) func85 (KQ aP) (aA (aO ZX) (aA (aO acV) aH)) h
structure MK where
 t8:List aL
 t18:List dD
 (t19 t20:Int)
 b0:aU
 b1:bW
 b2:bL
 b3:aJ
def adr:Td 0 MK:= .c [] [3,4,6,7,8,18,19,20] (.t (bX.s 8 [] 34) (.c [] [3,4,6,7,8,18,19,20] (.r 0 6 (ec 3 (qp 0 0) (ec 4 (qp 1 0) (ec 6 (qp 2 0) (ec 7 (qp 3 0) (ec 8 (qo 4) (ec 18 (ql 139) (ec 19 aN (ec 20 aN en)))))))) (sb 0 26 (lg 26) (sb 1 29 (lg 29) (sb 2 36 (aS (aS (aS (lc qn (aS (aS (aS (lc qn ln)))))))) (sb 3 147 (lc (qo 5) (aS (aS (aS (lc qn (aS (aS (aS ln)))))))) (sr 4 34 (sr 5 34 sn)))))) (λz=>⟨z.q.2.1,z.1.q.2.1,z.1.q.t.1,z.1.q.t.2.1,z.2.1,z.t.1,(bL.mk (aL.mk z.t.2.1.1 z.t.2.1.2.1 z.t.2.1.t.1) [] (aL.mk z.t.2.1.q.1 z.t.2.1.q.2.1 z.t.2.1.q.t.1) []),(aJ.mk z.q.t.1 (aL.mk z.q.1.2.1 z.q.1.t.1 z.q.1.t.2.1) [] (aL.mk z.q.1.q.2.1 z.q.1.q.t.1 z.q.1.q.t.2.1))⟩) (λx=>(((),(),(),(),(),x.t18,x.t19,x.t20,()),(x.b0,x.b1,(x.b2.aD.ah,x.b2.aD.ag,x.b2.aD.aj,(),x.b2.aI.ah,x.b2.aI.ag,x.b2.aI.aj,(),()),((),x.b3.aD.ah,x.b3.aD.ag,x.b3.aD.aj,(),x.b3.aI.ah,x.b3.aI.ag,x.b3.aI.aj,()),x.t8,x.b3.ai,()))))))
def VJ(p:MK):af (af MK):=
 bif J (p.t20<p.t19)then if 0<=p.t20/\p.t20<zR p.t18 then match Qe (aJ.mk p.b3.ai p.b3.aD [] p.b3.aI) (az.mk p.t18[zD p.t20]!.aG.bE p.t18[zD p.t20]!.aG.fN p.t18[zD p.t20]!.aG.ax)with|I=>I|V r1=>match m86 r1 p.t18[zD p.t20]!.ah p.t18[zD p.t20]!.ag with|I=>I|V r2=>if(p.t8++[r2.fst]).length<=1073741824 then V (V (MK.mk (p.t8++[r2.fst]) p.t18 p.t19 (ak (p.t20+1)) p.b0 p.b1 (bL.mk p.b2.aD [] p.b2.aI []) (aJ.mk p.b3.ai p.b3.aD [] p.b3.aI)))else I else I else V (I)
def Nl:=bJ (VJ)
abbrev E23:=bL
def d23:Td 0 E23:= .c [] [6] (.r 0 1 (ec 6 (qp 0 0) en) (sb 0 36 (lg 36) sn) (λz=>z.2.1) (λx=>(((),()),(x,()))))
def m23(a0:aU)(a1:bW)(a2:aa aL):af E23:=
 match m85 a0 a1 a2 with|I=>I|V r3=>match Nl (MK.mk [] a0.au a0.au.length 0 a0 a1 (bL.mk (aL.mk 0 0 0) [] (aL.mk 0 0 0) []) (aJ.mk r3.ai r3.aD [] r3.aI))with|I=>I|V r4=>bif J (r4.t20<r4.t19)then if 0<=r4.t20/\r4.t20<zR r4.t18 then match Qe (aJ.mk r4.b3.ai r4.b3.aD [] r4.b3.aI) (az.mk r4.t18[zD r4.t20]!.aG.bE r4.t18[zD r4.t20]!.aG.fN r4.t18[zD r4.t20]!.aG.ax)with|I=>I|V r5=>match m86 r5 r4.t18[zD r4.t20]!.ah r4.t18[zD r4.t20]!.ag with|I=>I|V r6=>if(r4.t8++[r6.fst]).length<=1073741824 then I else I else I else match r88 r4.b0 r4.t8 r4.b0.bM (aJ.mk r4.b3.ai r4.b3.aD [] r4.b3.aI)with|I=>I|V r7=>bif bif r4.b1.fZ then G else O then V (bL.mk r7.aD r7.aF (m36 0) r7.ai)else V (bL.mk r7.aD r7.aF r7.aI r7.ai)
def e23:bu->bu:=eZ vn 23 (lc (qg 26) (lc (qg 29) (lc (ql 34) ln))) d23 (λg=>m23 g.1 g.2.1 g.t.1)
def acO:EO e23:=λh=>kZ (an:=(noTwo (noTwo (noTwo (.two (noTwo (adr.lp Nl .no)) .no))))) (l:=[(aY f23 0,(adr.lp Nl .no))]) func23 (arX (Sl (R5 (ari (KQ aP))))) (aA (aO adr) aH) h
def aaC{F:bu}{f:Nat}(hne:ze f 23=G)(h:bA F f):bA (e23 F) f:=ri hne h
def F37:bu:=(e43 (e23 di))
structure MI where
 t10:Bool
 t32:List aL
 (t33 t34:Int)
 (b0 b1:aC)
def aem:Td 0 MI:= .c [] [6,9,10,32,33,34] (.t (bX.c 1 0 [] 3) (.c [] [6,9,10,32,33,34] (.r 0 3 (ec 6 (qp 0 0) (ec 9 (qp 1 0) (ec 10 qb (ec 32 (ql 34) (ec 33 aN (ec 34 aN en)))))) (sb 0 47 (lc qn (aS ln)) (sb 1 47 (lc (qo 2) (aS ln)) (sr 2 3 sn))) (λz=>⟨z.1.t.1,z.1.t.2.1,z.1.q.1,z.1.q.2.1,(aC.mk [] z.2.1.2.1),(aC.mk z.t.2.1 z.t.1.2.1)⟩) (λx=>(((),(),x.t10,x.t32,x.t33,x.t34,()),(((),x.b0.aI,()),((),x.b1.aI,()),x.b1.aK,()))))))
def Vx(p:MI):af (af MI):=
 bif J (p.t34<p.t33)then if 0<=p.t34/\p.t34<zR p.t32 then match bif p.t10 then match sP p.t32[zD p.t34]! with|I=>I|V r1=>V (J (r1=1))else V G with|I=>I|V r2=>if(p.b1.aK++[p.t32[zD p.t34]!.ah]).length<=1073741824 then V (V (MI.mk r2 p.t32 p.t33 (ak (p.t34+1)) (aC.mk [] p.b0.aI) (aC.mk (p.b1.aK++[p.t32[zD p.t34]!.ah]) p.b1.aI)))else I else I else V (I)
def apq:An:=(noTwo (noTwo (.two (noTwo (.two (.rb [43] 10) .no)) .no)))
def Ui:=bJ (Vx)
abbrev E37:=aC×Bool
def d37:Td 0 E37:= .c [] [6,7] (.t (bX.c 0 0 [] 3) (.c [] [6,7] (.r 0 2 (ec 6 (qp 0 0) (ec 7 qb en)) (sb 0 47 (lc (qo 1) (aS ln)) (sr 1 3 sn)) (λz=>((aC.mk z.t.1 z.2.1.2.1),z.1.2.1)) (λx=>(((),x.2,()),(((),x.1.aI,()),x.1.aK,()))))))
def axl:∀f∈([43]:aa Nat),bA (F37) f:=(aA (lW (aaC (f:=43) rfl bF)) aH)
def m37(a0:aU)(a1:bW)(a2:aa aL):af E37:=
 match m23 a0 a1 a2 with|I=>I|V r3=>match match sP r3.aD with|I=>I|V r4=>bif J (r4=1)then match sP r3.aI with|I=>I|V r5=>V (J (r5=1))else V G with|I=>I|V r6=>match Ui (MI.mk r6 r3.aF r3.aF.length 0 (aC.mk [] (0)) (aC.mk [] r3.aI.ah))with|I=>I|V r7=>bif J (r7.t34<r7.t33)then if 0<=r7.t34/\r7.t34<zR r7.t32 then match bif r7.t10 then match sP r7.t32[zD r7.t34]! with|I=>I|V r8=>V (J (r8=1))else V G with|I=>I|V r9=>if(r7.b1.aK++[r7.t32[zD r7.t34]!.ah]).length<=1073741824 then I else I else I else bif bif r7.t10 then G else O then V ((aC.mk [] (0),G))else V (r7.b1,O)
def e37:=eL vn 37 G (lc (qg 26) (lc (qg 29) (lc (ql 34) ln))) d37 (λg=>m37 g.1 g.2.1 g.t.1)
def aut:EO e37:=λh=>kL (F:=F37) (an:=(noTwo (noTwo (noTwo (.two (.rb [43] 10) (.two (noTwo (aem.lp Ui apq)) .no)))))) (l:=[(.skip,(.rb [43] 10)),(aY f37 0,(aem.lp Ui apq)),(.skip,(.rb [43] 10))]) func37 (pE (acO aP)) (aA axl (aA (aO aem) (aA axl aH))) h
structure Fw where
 t3:Int
 t6:List aL
 (t7 t8:Int)
def Sq:Td 0 Fw:= .c [] [3,6,7,8] (.r 0 0 (ec 3 aN (ec 6 (ql 34) (ec 7 aN (ec 8 aN en)))) sn (λz=>⟨z.1.1,z.1.2.1,z.1.t.1,z.1.t.2.1⟩) (λx=>((x.t3,x.t6,x.t7,x.t8,()),(()))))
def Ki(p:Fw):af (af Fw):=
 bif J (p.t8<p.t7)then if 0<=p.t8/\p.t8<zR p.t6 then match sP p.t6[zD p.t8]! with|I=>I|V r1=>V (V (Fw.mk (ak (p.t3*r1)) p.t6 p.t7 (ak (p.t8+1))))else I else V (I)
def Je:=bJ (Ki)
abbrev aAL:=Int
def d100:Td 0 aAL:= .c [] [2] (.r 0 0 (ec 2 aN en) sn (λz=>z.1.1) (λx=>((x,()),(()))))
def alg(a0:aa aL):af aAL:=
 match Je (Fw.mk 1 a0 a0.length 0)with|I=>I|V r2=>bif J (r2.t8<r2.t7)then if 0<=r2.t8/\r2.t8<zR r2.t6 then match sP r2.t6[zD r2.t8]! with|I=>I|V r3=>I else I else V (r2.t3)
def aG6:=eL vn 100 G (lc (ql 34) ln) d100 (λg=>alg g.1)
def aiW:EO aG6:=λh=>kL (an:=(noTwo (noTwo (.two (noTwo (Sq.lp Je .no)) .no)))) (l:=[(aY f100 0,(Sq.lp Je .no))]) func100 (pE aP) (aA (aO Sq) aH) h
structure Cp where
 (t8 t9 t10 t11:Int)
 b0:bL
def acU:Td 0 Cp:= .c [] [7,8,9,10,11] (.r 0 1 (ec 7 (qp 0 0) (ec 8 aN (ec 9 aN (ec 10 aN (ec 11 aN en))))) (sb 0 36 (lg 36) sn) (λz=>⟨z.1.2.1,z.1.t.1,z.1.t.2.1,z.1.q.1,z.2.1⟩) (λx=>(((),x.t8,x.t9,x.t10,x.t11,()),(x.b0,()))))
def Xb(p:Cp):af (af Cp):=
 bif J (p.t11<=zR p.b0.aF)then match m32 p.b0.aD p.t11 with|I=>I|V r1=>bif r1 then bif J (p.t11<zR p.b0.aF)then if 0<=p.t11/\p.t11<zR p.b0.aF then match sP p.b0.aF[zD p.t11]! with|I=>I|V r2=>V (V (Cp.mk p.t8 (if p.t8<ak (p.t9+p.t10)then p.t8 else ak (p.t9+p.t10)) (if p.t8<ak (p.t10*if p.t8<r2 then p.t8 else r2)then p.t8 else ak (p.t10*if p.t8<r2 then p.t8 else r2)) (ak (p.t11+1)) p.b0))else I else V (V (Cp.mk p.t8 (if p.t8<ak (p.t9+p.t10)then p.t8 else ak (p.t9+p.t10)) p.t10 (ak (p.t11+1)) p.b0))else bif J (p.t11<zR p.b0.aF)then if 0<=p.t11/\p.t11<zR p.b0.aF then match sP p.b0.aF[zD p.t11]! with|I=>I|V r3=>V (V (Cp.mk p.t8 p.t9 (if p.t8<ak (p.t10*if p.t8<r3 then p.t8 else r3)then p.t8 else ak (p.t10*if p.t8<r3 then p.t8 else r3)) (ak (p.t11+1)) p.b0))else I else V (V (Cp.mk p.t8 p.t9 p.t10 (ak (p.t11+1)) p.b0))else V (I)
def WJ:=bJ (Xb)
abbrev E38:=Int
def d38:Td 0 E38:= .c [] [6] (.r 0 0 (ec 6 aN en) sn (λz=>z.1.1) (λx=>((x,()),(()))))
def m38(a0:aU)(a1:bW)(a2:aa aL):af E38:=
 match m23 a0 a1 a2 with|I=>I|V r4=>match alg a2 with|I=>I|V r5=>match sP r4.aI with|I=>I|V r6=>match WJ (Cp.mk (if 1099511627776<r5 then 1099511627776 else r5) 0 (if(if 1099511627776<r5 then 1099511627776 else r5)<r6 then if 1099511627776<r5 then 1099511627776 else r5 else r6) 0 r4)with|I=>I|V r7=>bif J (r7.t11<=zR r7.b0.aF)then match m32 r7.b0.aD r7.t11 with|I=>I|V r8=>bif r8 then bif J (r7.t11<zR r7.b0.aF)then if 0<=r7.t11/\r7.t11<zR r7.b0.aF then match sP r7.b0.aF[zD r7.t11]! with|I=>I|V r9=>I else I else I else bif J (r7.t11<zR r7.b0.aF)then if 0<=r7.t11/\r7.t11<zR r7.b0.aF then match sP r7.b0.aF[zD r7.t11]! with|I=>I|V r10=>I else I else I else V (r7.t9)
def e38:=eL vn 38 G (lc (qg 26) (lc (qg 29) (lc (ql 34) ln))) d38 (λg=>m38 g.1 g.2.1 g.t.1)
def asw:EO e38:=λh=>kL (an:=(noTwo (noTwo (noTwo (noTwo (noTwo (.two (noTwo (acU.lp WJ .no)) .no))))))) (l:=[(aY f38 0,(acU.lp WJ .no))]) func38 (aiW (pE (Gy (acO aP)))) (aA (aO acU) aH) h
def XU(a:aL):Int:=open Classical in if NV a then b7 a else 0
def VR(a:aL):LF a=V (XU a):=by
 unfold XU;by_cases h:NV a
 ·rw[bI h,qe h]
 ·rw[bO h,ag4 h]
def U0(a:aL):sP a=V (XU a):=by
 unfold XU;by_cases h:NV a
 ·rw[bI h,eE h]
 ·rw[bO h,amD h]
def jx(pub:aa Int)(i:Nat)(x:bf):Int:=bif J (pub[i]! <x.ah)then 3 else bif J (x.ag<pub[i]!)then 3 else 0
def o6(box:aa aL)(i:Nat)(x:bf):Int:=bif bif Y0 box[i]! then G else O then 1 else bif J (@Eq Int (XU box[i]!) 0)then 1 else bif J (box[i]!.ah<x.ah)then 3 else bif J (x.ag<box[i]!.ag)then 3 else 0
def ew(vars:aa bf):aa bf:=vars.filter (kd 1)++vars.filter (kd 3)
def uG(f:aU)(v:bW)(box:aa aL):Int:=
 if pL f≠0 then pL f else if zR v.aZ≠(f.ai.filter (kd 2)).length then 1 else if cz (jx v.aZ) (f.ai.filter (kd 2)) 0≠0 then cz (jx v.aZ) (f.ai.filter (kd 2)) 0
 else if zR box≠(ew f.ai).length then 2 else cz (o6 box) (ew f.ai) 0
def Cf{vars:aa bf}{i:Nat}(h:i<zR vars)(k:Int):(vars.take (i+1)).filter (kd k)=(vars.take i).filter (kd k)++(if vars[i]!.bB=k then[vars[i]!]else[]):=by
 rw[bC h,xk];by_cases hk:vars[i]!.bB=k
 ·rw[bI hk];simp only[yX,xZ,kd,hk,Cv,dM]
 ·rw[bO hk];simp only[yX,xZ,kd,hk,CZ,yu,GL]
def Fu{vars:aa bf}(k:Int)(i:Nat):zR ((vars.take i).filter (kd k))<=i:=j7 vars k i
def aap(f:aU)(hl:zR f.ai<=1000000)(v:bW)(box:aa aL):Xk ⟨box,[],f.ai,(zR f.ai:Int),0,f,v⟩=V ⟨box,f.ai.filter (kd 2),f.ai,(zR f.ai:Int),(zR f.ai:Int),f,v⟩:=by
 obtain⟨b,e1,hI⟩:=cH (rnd:=Vb) f.ai.length (λi (b:aa bf)=>⟨box,b,f.ai,(zR f.ai:Int),(i:Int),f,v⟩) (λi b=>b=(f.ai.take i).filter (kd 2)) (λi b hi hb=>by
  obtain⟨i1,i2,hw⟩:=w3 hi hl;have hlen:zR b<=i:=by rw[hb];exact Fu 2 i
  have hl2:∀x:bf,zR (b++[x])<=1073741824:=λx=>by simp;omega
  refine⟨_,?_,rfl⟩;rw[Cf hi,<-hb];unfold Vb;by_cases hk:f.ai[i]!.bB=2
  ·simp only[cV,i1,i2,hk,hl2,hw,cI,dM]
  ·simp only[cV,cT,gz,i1,i2,hk,hw,yy]) (λb _=>by unfold Vb;simp) (b:=[]) (by simp)
 rw[zG]at hI;rw[<-hI];exact e1
def Mu(f:aU)(hl:zR f.ai<=1000000)(v:bW)(box:aa aL)(t8 acc:aa bf)(ha:zR acc<=1000000)(k:Int)(ks:aa Int)(n j:Int):
  Ht ⟨box,t8,acc,k,ks,n,j,f.ai,(zR f.ai:Int),0,f,v⟩=V ⟨box,t8,acc++f.ai.filter (kd k),k,ks,n,j,f.ai,(zR f.ai:Int),(zR f.ai:Int),f,v⟩:=by
 obtain⟨b,e1,hI⟩:=cH (rnd:=WO) f.ai.length (λi (b:aa bf)=>⟨box,t8,acc++b,k,ks,n,j,f.ai,(zR f.ai:Int),(i:Int),f,v⟩) (λi b=>b=(f.ai.take i).filter (kd k)) (λi b hi hb=>by
  obtain⟨i1,i2,hw⟩:=w3 hi hl;have hlen:zR b<=i:=by rw[hb];exact Fu k i
  have hl2:∀x:bf,zR (acc++(b++[x]))<=1073741824:=λx=>by simp;omega
  refine⟨_,?_,rfl⟩;rw[Cf hi,<-hb];unfold WO;by_cases hk:f.ai[i]!.bB=k
  ·simp only[cV,i1,i2,hk,hl2,hw,cI,dM,yS]
  ·simp only[cV,cT,gz,i1,i2,hk,hw,yy]) (λb _=>by unfold WO;simp) (b:=[]) (by simp)
 have e1':Ht ⟨box,t8,acc,k,ks,n,j,f.ai,(zR f.ai:Int),0,f,v⟩=V ⟨box,t8,acc++b,k,ks,n,j,f.ai,(zR f.ai:Int),(zR f.ai:Int),f,v⟩:=by
  have:=e1;rw[yy]at this;exact this
 simp_all
def acB(f:aU)(hl:zR f.ai<=1000)(v:bW)(box:aa aL)(t8:aa bf):
  OH ⟨box,t8,[],[1,3],2,0,f,v⟩=V ⟨box,t8,ew f.ai,[1,3],2,2,f,v⟩:=by
 have h1:zR (f.ai.filter (kd 1))<=1000:=zH (yt _ _) hl;have e1:=Mu f aq v box t8 [] (by simp) 1 [1,3] 2 0;have e2:=Mu f aq v box t8 (f.ai.filter (kd 1)) aq 3 [1,3] 2 1;rw[yz]at e1;have w1:ak ((0:Int)+1)=1:=by decide
 have w2:ak ((1:Int)+1)=2:=by decide
 unfold OH ew;rw[bR (p':=⟨box,t8,f.ai.filter (kd 1),[1,3],2,1,f,v⟩)]
 ·rw[bR (p':=⟨box,t8,f.ai.filter (kd 1)++f.ai.filter (kd 3),[1,3],2,2,f,v⟩)]
  ·exact ct (λr=>by unfold V0;simp)
  ·unfold V0;dsimp only;rw[bZ (by decide),cI,bI (by decide),bI (by decide)];rw[show ([1,3]:aa Int)[zD 1]! =3 from rfl,e2];dsimp only;rw[fK,cw,w2]
 ·unfold V0;dsimp only;rw[bZ (by decide),cI,bI (by decide),bI (by decide)];rw[show ([1,3]:aa Int)[zD 0]! =1 from rfl,e1];dsimp only;rw[fK,cw,w1]
def ajK(L:aa bf)(hl:zR L<=1000000)(v:bW)(hv:zR v.aZ=zR L)(box:aa aL)(t9:aa bf):
  ∃i,UD ⟨box,t9,L,(zR L:Int),0,v⟩=V ⟨box,t9,L,(zR L:Int),(i:Nat),v⟩/\((i=zR L/\cz (jx v.aZ) L 0=0)\/(i<zR L/\jx v.aZ i L[i]!≠0/\cz (jx v.aZ) L 0=jx v.aZ i L[i]!)):=
 s9 (rnd:=MP) L (λi=>⟨box,t9,L,(zR L:Int),(i:Nat),v⟩) (jx v.aZ) (λi hi=>by
  obtain⟨i1,i2,hw⟩:=w3 hi hl;have i3:(i:Int)<(zR v.aZ:Int):=aq;have key:MP ⟨box,t9,L,(zR L:Int),(i:Nat),v⟩=if jx v.aZ i L[i]! =0 then V (V ⟨box,t9,L,(zR L:Int),((i+1:Nat):Int),v⟩)else V I:=by
   unfold MP jx;simp only[zi,i1,i3,hi,hw];cases J (v.aZ[i]! <L[i]!.ah)<;>cases J (L[i]!.ag<v.aZ[i]!)<;>simp
  exact⟨λh=>by rw[key,bI h],λh=>by rw[key,bO h]⟩) (by unfold MP;simp)
def anf(L:aa bf)(hl:zR L<=1000000)(box:aa aL)(hv:zR box=zR L):
  ∃i,W9 ⟨box,L,(zR L:Int),0⟩=V ⟨box,L,(zR L:Int),(i:Nat)⟩/\((i=zR L/\cz (o6 box) L 0=0)\/(i<zR L/\o6 box i L[i]!≠0/\cz (o6 box) L 0=o6 box i L[i]!)):=
 s9 (rnd:=Nq) L (λi=>⟨box,L,(zR L:Int),(i:Nat)⟩) (o6 box) (λi hi=>by
  obtain⟨i1,i2,hw⟩:=w3 hi hl;have i3:(i:Int)<(zR box:Int):=aq;have key:Nq ⟨box,L,(zR L:Int),(i:Nat)⟩=if o6 box i L[i]! =0 then V (V ⟨box,L,(zR L:Int),((i+1:Nat):Int)⟩)else V I:=by
   unfold Nq o6;simp only[zi,i1,i3,hi,hw,eW,VR];cases Y0 box[i]! <;>cases J (@Eq Int (XU box[i]!) 0)<;>cases J (box[i]!.ah<L[i]!.ah)<;>cases J (L[i]!.ag<box[i]!.ag)<;>simp
  exact⟨λh=>by rw[key,bI h],λh=>by rw[key,bO h]⟩) (by unfold Nq;simp)
def azK{f:aU}(h:fM f.bM+kH (f.au.map (·.aG))<=900)(hh:zR f.au<=1000)(hl:zR f.ai<=1000)(v:bW)(box:aa aL):m79 f v box=V (uG f v box):=by
 have l2:zR (f.ai.filter (kd 2))<=1000:=zH (yt _ _) hl;have l3:zR (ew f.ai)<=2000:=by
  have a1:zR (f.ai.filter (kd 1))<=1000:=zH (yt _ _) hl;have a3:zR (f.ai.filter (kd 3))<=1000:=zH (yt _ _) hl;unfold ew;rw[zg];omega
 unfold m79 uG;rw[V8 f h aq aq];dsimp only;by_cases hc:pL f=0
 case neg=>rw[bY hc,bI hc];rfl
 rw[bZ hc,bO (by simpa using hc)];rw[aap f aq];dsimp only;rw[fK,cw];rw[acB f hl];dsimp only;rw[fK,cw];by_cases hp:zR v.aZ=zR (f.ai.filter (kd 2))
 case neg=>rw[fK,bI hp];rfl
 rw[oo,bO (by simpa using hp)];obtain⟨i,e3,k3⟩:=ajK (f.ai.filter (kd 2)) aq v hp box (ew f.ai);rw[e3];dsimp only;rcases k3 with ⟨rfl,k3⟩|⟨i1,i2,i3⟩
 case inr=>
  rw[bI (show cz (jx v.aZ) (f.ai.filter (kd 2)) 0≠0 by rw[i3];exact i2),i3];have j1:(i:Int)<(zR (f.ai.filter (kd 2)):Int):=aq;have j2:(0:Int)<=(i:Int):=aq;have j3:(i:Int)<(zR v.aZ:Int):=aq;simp only[zi,j1,j3,i1];revert i2;unfold jx;cases J (v.aZ[i]! <(f.ai.filter (kd 2))[i]!.ah)<;>cases J ((f.ai.filter (kd 2))[i]!.ag<v.aZ[i]!)<;>simp
 rw[fK,cw,bO (show ¬cz (jx v.aZ) (f.ai.filter (kd 2)) 0≠0 by rw[k3];simp)];by_cases hb:zR box=zR (ew f.ai)
 case neg=>rw[fK,bI hb];rfl
 rw[oo,bO (by simpa using hb)];simp only[cT];obtain⟨i,e4,k4⟩:=anf (ew f.ai) aq box hb;rw[e4];dsimp only;rcases k4 with ⟨rfl,k4⟩|⟨i1,i2,i3⟩
 ·rw[fK,cw,k4]
 ·rw[i3];have j1:(i:Int)<(zR (ew f.ai):Int):=aq;have j2:(0:Int)<=(i:Int):=aq;have j3:(i:Int)<(zR box:Int):=aq;simp only[zi,j1,j3,i1,eW,VR];revert i2;unfold o6;cases Y0 box[i]! <;>cases J (@Eq Int (XU box[i]!) 0)<;>cases J (box[i]!.ah<(ew f.ai)[i]!.ah)<;>cases J ((ew f.ai)[i]!.ag<box[i]!.ag)<;>simp
def Gr(f:aU)(hl:zR f.ai<=1000000)(v:bW)(box:aa aL)(t8 t9:aa bf)(h8:zR t8<=1000000)(h9:zR t9<=1000000)(k:Int)(ks:aa Int)(n j:Int):
  Nt ⟨box,t8,t9,k,ks,n,j,f.ai,(zR f.ai:Int),0,f,v⟩=V ⟨box,if k=2 then t8++f.ai.filter (kd k)else t8,if k=2 then t9 else t9++f.ai.filter (kd k),k,ks,n,j,f.ai,(zR f.ai:Int),(zR f.ai:Int),f,v⟩:=by
 obtain⟨b,e1,hI⟩:=cH (rnd:=WV) f.ai.length (λi (b:aa bf)=>⟨box,if k=2 then t8++b else t8,if k=2 then t9 else t9++b,k,ks,n,j,f.ai,(zR f.ai:Int),(i:Int),f,v⟩) (λi b=>b=(f.ai.take i).filter (kd k)) (λi b hi hb=>by
  obtain⟨i1,i2,hw⟩:=w3 hi hl;have hlen:zR b<=i:=by rw[hb];exact Fu k i
  have hl2:∀x:bf,zR (t8++(b++[x]))<=1073741824:=λx=>by simp;omega
  have hl3:∀x:bf,zR (t9++(b++[x]))<=1073741824:=λx=>by simp;omega
  refine⟨_,?_,rfl⟩;rw[Cf hi,<-hb];unfold WV;by_cases hk:f.ai[i]!.bB=k
  ·by_cases h2:k=2
   ·simp only[cV,i1,i2,hk,h2,hl2,hw,cI,dM,yS]
   ·simp only[cV,cT,gz,i1,i2,hk,h2,hl3,hw,yS]
  ·simp only[cV,cT,gz,i1,i2,hk,hw,yy]) (λb _=>by unfold WV;simp) (b:=[]) (by simp)
 rw[zG]at hI;rw[<-hI];have e1':=e1;rw[yy,yy,ite_self,ite_self]at e1';exact e1'
def aaZ(f:aU)(hl:zR f.ai<=1000)(v:bW)(box:aa aL):
  Pm ⟨box,[],[],[1,3,2],3,0,f,v⟩=V ⟨box,f.ai.filter (kd 2),ew f.ai,[1,3,2],3,3,f,v⟩:=by
 have h1:zR (f.ai.filter (kd 1))<=1000:=zH (yt _ _) hl;have h3:zR (f.ai.filter (kd 3))<=1000:=zH (yt _ _) hl;have e1:=Gr f aq v box [] [] (by simp) (by simp) 1 [1,3,2] 3 0;have e2:=Gr f aq v box [] (f.ai.filter (kd 1)) (by simp) aq 3 [1,3,2] 3 1;have e3:=Gr f aq v box [] (ew f.ai) (by simp) (by unfold ew;rw[zg];omega) 2 [1,3,2] 3 2;simp only[gz,yz,Int.reduceEq]at e1 e2 e3;have w1:ak ((0:Int)+1)=1:=by decide
 have w2:ak ((1:Int)+1)=2:=by decide
 have w3:ak ((2:Int)+1)=3:=by decide
 unfold Pm;rw[bR (p':=⟨box,[],f.ai.filter (kd 1),[1,3,2],3,1,f,v⟩)]
 ·rw[bR (p':=⟨box,[],ew f.ai,[1,3,2],3,2,f,v⟩)]
  ·rw[bR (p':=⟨box,f.ai.filter (kd 2),ew f.ai,[1,3,2],3,3,f,v⟩)]
   ·exact ct (λr=>by unfold Pe;simp)
   ·unfold Pe;dsimp only;rw[bZ (by decide),cI,bI (by decide),bI (by decide)];rw[show ([1,3,2]:aa Int)[zD 2]! =2 from rfl,e3];dsimp only;rw[fK,cw,w3]
  ·unfold Pe;dsimp only;rw[bZ (by decide),cI,bI (by decide),bI (by decide)];rw[show ([1,3,2]:aa Int)[zD 1]! =3 from rfl,e2];dsimp only;rw[fK,cw,w2];rfl
 ·unfold Pe;dsimp only;rw[bZ (by decide),cI,bI (by decide),bI (by decide)];rw[show ([1,3,2]:aa Int)[zD 0]! =1 from rfl,e1];dsimp only;rw[fK,cw,w1]
def aib(L:aa bf)(hl:zR L<=1000000)(v:bW)(hv:zR v.aZ=zR L)(box:aa aL)(t9:aa bf):
  ∃i,Uy ⟨box,t9,L,(zR L:Int),0,v⟩=V ⟨box,t9,L,(zR L:Int),(i:Nat),v⟩/\((i=zR L/\cz (jx v.aZ) L 0=0)\/(i<zR L/\jx v.aZ i L[i]!≠0/\cz (jx v.aZ) L 0=jx v.aZ i L[i]!)):=
 s9 (rnd:=Oz) L (λi=>⟨box,t9,L,(zR L:Int),(i:Nat),v⟩) (jx v.aZ) (λi hi=>by
  obtain⟨i1,i2,hw⟩:=w3 hi hl;have i3:(i:Int)<(zR v.aZ:Int):=aq;have key:Oz ⟨box,t9,L,(zR L:Int),(i:Nat),v⟩=if jx v.aZ i L[i]! =0 then V (V ⟨box,t9,L,(zR L:Int),((i+1:Nat):Int),v⟩)else V I:=by
   unfold Oz jx;simp only[zi,i1,i3,hi,hw];cases J (v.aZ[i]! <L[i]!.ah)<;>cases J (L[i]!.ag<v.aZ[i]!)<;>simp
  exact⟨λh=>by rw[key,bI h],λh=>by rw[key,bO h]⟩) (by unfold Oz;simp)
def akG(L:aa bf)(hl:zR L<=1000000)(box:aa aL)(hv:zR box=zR L):
  ∃i,Ul ⟨box,L,(zR L:Int),0⟩=V ⟨box,L,(zR L:Int),(i:Nat)⟩/\((i=zR L/\cz (o6 box) L 0=0)\/(i<zR L/\o6 box i L[i]!≠0/\cz (o6 box) L 0=o6 box i L[i]!)):=
 s9 (rnd:=MA) L (λi=>⟨box,L,(zR L:Int),(i:Nat)⟩) (o6 box) (λi hi=>by
  obtain⟨i1,i2,hw⟩:=w3 hi hl;have i3:(i:Int)<(zR box:Int):=aq;have key:MA ⟨box,L,(zR L:Int),(i:Nat)⟩=if o6 box i L[i]! =0 then V (V ⟨box,L,(zR L:Int),((i+1:Nat):Int)⟩)else V I:=by
   unfold MA o6;simp only[zi,i1,i3,hi,hw,gj,U0];cases Y0 box[i]! <;>cases J (@Eq Int (XU box[i]!) 0)<;>cases J (box[i]!.ah<L[i]!.ah)<;>cases J (L[i]!.ag<box[i]!.ag)<;>simp
  exact⟨λh=>by rw[key,bI h],λh=>by rw[key,bO h]⟩) (by unfold MA;simp)
def ayL{f:aU}(h:fM f.bM+kH (f.au.map (·.aG))<=900)(hh:zR f.au<=1000)(hl:zR f.ai<=1000)(v:bW)(box:aa aL):m21 f v box=V (uG f v box):=by
 have l2:zR (f.ai.filter (kd 2))<=1000:=zH (yt _ _) hl;have l3:zR (ew f.ai)<=2000:=by
  have a1:zR (f.ai.filter (kd 1))<=1000:=zH (yt _ _) hl;have a3:zR (f.ai.filter (kd 3))<=1000:=zH (yt _ _) hl;unfold ew;rw[zg];omega
 unfold m21 uG;rw[Z9 f h aq aq];dsimp only;by_cases hc:pL f=0
 case neg=>rw[bY hc,bI hc];rfl
 rw[bZ hc,bO (by simpa using hc)];rw[aaZ f hl v box];dsimp only;rw[fK,cw];by_cases hp:zR v.aZ=zR (f.ai.filter (kd 2))
 case neg=>rw[fK,bI hp];rfl
 rw[oo,bO (by simpa using hp)];obtain⟨i,e3,k3⟩:=aib (f.ai.filter (kd 2)) aq v hp box (ew f.ai);rw[e3];dsimp only;rcases k3 with ⟨rfl,k3⟩|⟨i1,i2,i3⟩
 case inr=>
  rw[bI (show cz (jx v.aZ) (f.ai.filter (kd 2)) 0≠0 by rw[i3];exact i2),i3];have j1:(i:Int)<(zR (f.ai.filter (kd 2)):Int):=aq;have j2:(0:Int)<=(i:Int):=aq;have j3:(i:Int)<(zR v.aZ:Int):=aq;simp only[zi,j1,j3,i1];revert i2;unfold jx;cases J (v.aZ[i]! <(f.ai.filter (kd 2))[i]!.ah)<;>cases J ((f.ai.filter (kd 2))[i]!.ag<v.aZ[i]!)<;>simp
 rw[fK,cw,bO (show ¬cz (jx v.aZ) (f.ai.filter (kd 2)) 0≠0 by rw[k3];simp)];by_cases hb:zR box=zR (ew f.ai)
 case neg=>rw[fK,bI hb];rfl
 rw[oo,bO (by simpa using hb)];simp only[cT];obtain⟨i,e4,k4⟩:=akG (ew f.ai) aq box hb;rw[e4];dsimp only;rcases k4 with ⟨rfl,k4⟩|⟨i1,i2,i3⟩
 ·rw[fK,cw,k4]
 ·rw[i3];have j1:(i:Int)<(zR (ew f.ai):Int):=aq;have j2:(0:Int)<=(i:Int):=aq;have j3:(i:Int)<(zR box:Int):=aq;simp only[zi,j1,j3,i1,gj,U0];revert i2;unfold o6;cases Y0 box[i]! <;>cases J (@Eq Int (XU box[i]!) 0)<;>cases J (box[i]!.ah<(ew f.ai)[i]!.ah)<;>cases J ((ew f.ai)[i]!.ag<box[i]!.ag)<;>simp
structure Fits (f:aU) (v:bW) (box:List aL):Prop where
 c:pL f=0
 pub:zR v.aZ=zR (f.ai.filter (kd 2))
 aEX:∀j,j<zR v.aZ->(f.ai.filter (kd 2))[j]!.ah<=v.aZ[j]!/\v.aZ[j]!<=(f.ai.filter (kd 2))[j]!.ag
 bl:zR box=zR (ew f.ai)
 bx:∀j,j<zR box->NN box[j]!/\(ew f.ai)[j]!.ah<=box[j]!.ah/\box[j]!.ag<=(ew f.ai)[j]!.ag
def Au{f:aU}{v:bW}{box:aa aL}(h:uG f v box=0):Fits f v box:=by
 unfold uG at h;by_cases hc:pL f=0
 case neg=>rw[bI hc]at h;exact ei h hc
 rw[bO (by simpa using hc)]at h;by_cases hp:zR v.aZ=zR (f.ai.filter (kd 2))
 case neg=>rw[bI hp]at h;cases h
 rw[bO (by simpa using hp)]at h;by_cases hf:cz (jx v.aZ) (f.ai.filter (kd 2)) 0=0
 case neg=>rw[bI hf]at h;exact ei h hf
 rw[bO (by simpa using hf)]at h;by_cases hb:zR box=zR (ew f.ai)
 case neg=>rw[bI hb]at h;cases h
 rw[bO (by simpa using hb)]at h;refine⟨hc,hp,λj hj=> ?_,hb,λj hj=> ?_⟩
 ·have k:=nQ hf j aq;rw[yj]at k;unfold jx at k;by_cases c1:v.aZ[j]! <(f.ai.filter (kd 2))[j]!.ah
  ·rw[bZ c1]at k;cases k
  by_cases c2:(f.ai.filter (kd 2))[j]!.ag<v.aZ[j]!
  ·rw[bY c1,bZ c2]at k;cases k
  omega
 ·have k:=nQ h j aq;rw[yj]at k;unfold o6 at k;by_cases c0:NV box[j]!
  case neg=>rw[vR c0]at k;cases k
  rw[dZ c0]at k;by_cases c3:XU box[j]! =0
  ·rw[bZ c3]at k;cases k
  by_cases c1:box[j]!.ah<(ew f.ai)[j]!.ah
  ·rw[bY c3,bZ c1]at k;cases k
  by_cases c2:(ew f.ai)[j]!.ag<box[j]!.ag
  ·rw[bY c3,bY c1,bZ c2]at k;cases k
  refine⟨c0.nn λe=>c3 ?_,aq,aq⟩;rw[e];unfold XU;rw[bI (.inl rfl)];rfl
def ae8{f:aU}(h:pL f=0){i:Nat}(hi:i<zR f.ai):(0<=f.ai[i]!.bB/\f.ai[i]!.bB<=3)/\(f.ai[i]!.bB=0->f.ai[i]!.ah<=f.ai[i]!.eG/\f.ai[i]!.eG<=f.ai[i]!.ag):=by
 unfold pL at h;by_cases h1:qm f=G
 ·rw[bI h1]at h;exact ei h (by decide)
 rw[bO h1]at h;by_cases hvc:jK f.ai=0
 case neg=>rw[bI hvc]at h;exact ei h hvc
 unfold jK at hvc;by_cases h0:cz (ni f.ai) f.ai 0=0
 case neg=>rw[bI h0]at hvc;exact ei hvc h0
 have k:=nQ h0 i hi;unfold ni at k;omega
def eH(f:aU)(v:bW)(box:aa aL)(i:Nat):aL:=
 if f.ai[i]!.bB=1 then box[cQ f.ai 1 i]! else if f.ai[i]!.bB=2 then eC v.aZ[cQ f.ai 2 i]! else if f.ai[i]!.bB=3 then box[cQ f.ai 1 f.ai.length+cQ f.ai 3 i]! else eC f.ai[i]!.eG
def fh(f:aU)(v:bW)(box:aa aL):ay:=⟨tab f.ai.length (eH f v box),eC 0,[],eC 0⟩
def KG(vars:aa bf):zR (ew vars)=cQ vars 1 vars.length+cQ vars 3 vars.length:=by
 unfold ew;rw[zg,nZ,nZ]
def Ku{vars:aa bf}{k:Int}{i:Nat}(hi:i<zR vars)(hk:vars[i]!.bB=k):cQ vars k i<cQ vars k vars.length:=by
 have c:=gL hi k;have m:=jN (vars:=vars) (k:=k) (show i+1<=zR vars by omega) (zm _);rw[bI hk]at c;omega
def sH{f:aU}{v:bW}{box:aa aL}(h:Fits f v box):eR f.ai.length 0 (fh f v box):=by
 have hv:=mC h.c;have hb:=h.bl;rw[KG]at hb;have hp:=h.pub;rw[<-nZ]at hp;refine⟨gQ ..,λi hi=> ?_,mD ⟨by decide,by decide⟩,zm _,λi hi=>ei hi (by simp[fh]),mD ⟨by decide,by decide⟩⟩;show NN (tab _ _)[i]!;rw[oK hi];unfold eH;by_cases k1:f.ai[i]!.bB=1
 ·rw[bI k1];have:=Ku hi k1;exact(h.bx _ aq).1
 rw[bO k1];by_cases k2:f.ai[i]!.bB=2
 ·rw[bI k2];have hl:=Ku hi k2;have hj:=h.aEX _ (show cQ f.ai 2 i<zR v.aZ by omega);have hm:=bq (l:=f.ai.filter (kd 2)) (i:=cQ f.ai 2 i) (by rw[<-nZ];omega);have:=hv _ ((z7.1 hm).1);exact mD (by unfold cC;omega)
 rw[bO k2];by_cases k3:f.ai[i]!.bB=3
 ·rw[bI k3];have:=Ku hi k3;exact(h.bx _ aq).1
 rw[bO k3];obtain⟨q1,q2⟩:=ae8 h.c hi;have:=hv _ (bq hi);exact mD (by unfold cC;omega)
abbrev A0:bL:=⟨⟨0,0,0⟩,[],⟨0,0,0⟩,[]⟩
def aji{f:aU}(hl:zR f.ai<=1000)(box:aa aL)(v:bW)(g:ay):UF ⟨box,0,0,0,f.ai,(zR f.ai:Int),0,f,v,A0,⟨[],g.aD,[],g.aI⟩⟩=
  V ⟨box,0,0,(cQ f.ai 1 f.ai.length:Int),f.ai,(zR f.ai:Int),(zR f.ai:Int),f,v,A0,⟨[],g.aD,[],g.aI⟩⟩:=by
 obtain⟨b,e1,_⟩:=cH (rnd:=V7) f.ai.length (λi (_:Unit)=>⟨box,0,0,(cQ f.ai 1 i:Int),f.ai,(zR f.ai:Int),(i:Int),f,v,A0,⟨[],g.aD,[],g.aI⟩⟩) (λ_ _=>True) (λi b hi _=>by
  obtain⟨i1,i2,hw⟩:=w3 hi aq;have c1:=gL hi 1;have l1:=j7 f.ai 1 i;have w1:ak ((cQ f.ai 1 i:Int)+1)=((cQ f.ai 1 i+1:Nat):Int):=by rw[aM];omega
  refine⟨(),?_,trivial⟩;unfold V7;rw[c1];by_cases hk:f.ai[i]!.bB=1
  ·simp only[cV,i1,i2,hk,hw,w1,cI,dM]
  ·simp only[cV,cT,gz,i1,i2,hk,hw,yh]) (λb _=>by unfold V7;simp) (b:=()) trivial
 exact e1
def ait{f:aU}{v:bW}{box:aa aL}(h:Fits f v box)(hlv:zR f.ai<=1000)(g:ay):VK ⟨box,0,0,(cQ f.ai 1 f.ai.length:Int),f.ai,(zR f.ai:Int),0,f,v,A0,⟨[],g.aD,[],g.aI⟩⟩=
  V ⟨box,(cQ f.ai 1 f.ai.length:Int),(cQ f.ai 2 f.ai.length:Int),((cQ f.ai 1 f.ai.length+cQ f.ai 3 f.ai.length:Nat):Int),f.ai,(zR f.ai:Int),(zR f.ai:Int),f,v,A0,⟨tab f.ai.length (eH f v box),g.aD,[],g.aI⟩⟩:=by
 have hbx:=h.bl;rw[KG]at hbx;have hp:=h.pub;rw[<-nZ]at hp;obtain⟨b,e1,_⟩:=cH (rnd:=W8) f.ai.length (λi (_:Unit)=>⟨box,(cQ f.ai 1 i:Int),(cQ f.ai 2 i:Int),((cQ f.ai 1 f.ai.length+cQ f.ai 3 i:Nat):Int),f.ai,(zR f.ai:Int),(i:Int),f,v,A0,⟨tab i (eH f v box),g.aD,[],g.aI⟩⟩) (λi _=>True) (λi b hi _=>by
  obtain⟨i1,i2,hw⟩:=w3 hi aq;have c1:=gL hi 1;have c2:=gL hi 2;have c3:=gL hi 3;have m1:=jN (vars:=f.ai) (k:=1) (show i+1<=zR f.ai by omega) (zm _);have m2:=jN (vars:=f.ai) (k:=2) (show i+1<=zR f.ai by omega) (zm _);have m3:=jN (vars:=f.ai) (k:=3) (show i+1<=zR f.ai by omega) (zm _);have l1:=j7 f.ai 1 f.ai.length;have l2:=j7 f.ai 2 f.ai.length;have l3:=j7 f.ai 3 f.ai.length;have hl2:∀x:aL,zR (tab i (eH f v box)++[x])<=1073741824:=λx=>by rw[zg,gQ,yg];omega
  refine⟨(),?_,trivial⟩;rw[qw];unfold W8;rw[c1,c2,c3];by_cases k1:f.ai[i]!.bB=1
  ·have ev:eH f v box i=box[cQ f.ai 1 i]! :=by unfold eH;rw[bI k1]
   rw[k1]at c1 c2 c3 ⊢;simp only[gz,Int.reduceEq,yh]at c1 c2 c3 ⊢;have w1:ak ((cQ f.ai 1 i:Int)+1)=((cQ f.ai 1 i+1:Nat):Int):=by rw[aM];omega
   have j1:(cQ f.ai 1 i:Int)<(zR box:Int):=aq;have j2:(0:Int)<=(cQ f.ai 1 i:Int):=aq;simp only[cV,i1,i2,j1,j2,cI,dM,k1,hl2,hw,w1,ev]
  by_cases k2:f.ai[i]!.bB=2
  ·have ev:eH f v box i=eC v.aZ[cQ f.ai 2 i]! :=by unfold eH;rw[bO k1,bI k2]
   rw[k2]at c1 c2 c3 ⊢;simp only[gz,Int.reduceEq,yh]at c1 c2 c3 ⊢;have w1:ak ((cQ f.ai 2 i:Int)+1)=((cQ f.ai 2 i+1:Nat):Int):=by rw[aM];omega
   have j1:(cQ f.ai 2 i:Int)<(zR v.aZ:Int):=aq;have j2:(0:Int)<=(cQ f.ai 2 i:Int):=aq;simp only[cV,cT,i1,i2,j1,j2,k2,Int.reduceEq,dM,hl2,hw,w1,rY,ev]
  by_cases k3:f.ai[i]!.bB=3
  ·have ev:eH f v box i=box[cQ f.ai 1 f.ai.length+cQ f.ai 3 i]! :=by unfold eH;rw[bO k1,bO k2,bI k3]
   rw[k3]at c1 c2 c3 ⊢;simp only[gz,Int.reduceEq,yh]at c1 c2 c3 ⊢;have w1:ak (((cQ f.ai 1 f.ai.length+cQ f.ai 3 i:Nat):Int)+1)=((cQ f.ai 1 f.ai.length+(cQ f.ai 3 i+1):Nat):Int):=by rw[aM];omega
   have j1:((cQ f.ai 1 f.ai.length+cQ f.ai 3 i:Nat):Int)<(zR box:Int):=aq;have j2:(0:Int)<=((cQ f.ai 1 f.ai.length+cQ f.ai 3 i:Nat):Int):=aq;simp only[cV,cT,i1,i2,j1,j2,k3,Int.reduceEq,dM,hl2,hw,w1,ev]
  ·have ev:eH f v box i=eC f.ai[i]!.eG:=by unfold eH;rw[bO k1,bO k2,bO k3]
   rw[bO k1,bO k2,bO k3];simp only[cV,cT,i1,i2,k1,k2,k3,dM,hl2,hw,rY,ev,yh]) (λb _=>by unfold W8;simp) (b:=()) trivial
 exact e1
def Zr(f:aU)(s:ay)(h:dD):aL:=iZ (cK s.ai h.aG) h.ah h.ag
def pP(f:aU)(s:ay):aa aL:=f.au.map (Zr f s)
def ama{f:aU}(hf:Oc f){s:ay}{m:Nat}(hs:eR f.ai.length m s){i:Nat}(hi:i<zR f.au):NN (Zr f s f.au[i]!):=by
 obtain⟨_,_,_,k,_⟩:=ij (iV hs f.au[i]!.aG (hf.hat i hi).2) f.au[i]!.ah f.au[i]!.ag;exact k
def Dh{f:aU}(hf:Oc f){s:ay}{m:Nat}(hs:eR f.ai.length m s):∀i,i<zR (pP f s)->NN (pP f s)[i]! :=λi hi=>by
 have hi:i<zR f.au:=by simpa [pP]using hi
 unfold pP;rw[getElem!_pos _ i (by simpa using hi),yL,<-getElem!_pos f.au i hi];exact ama hf hs hi
def ann{f:aU}(hf:Oc f)(hlh:zR f.au<=1000)(v:bW){s:ay}(hs:eR f.ai.length 0 s):Om ⟨f.au,(zR f.au:Int),0,f,v,A0,s,⟨f,[]⟩⟩=
  V ⟨f.au,(zR f.au:Int),(zR f.au:Int),f,v,A0,s,⟨f,pP f s⟩⟩:=by
 have hsl:s.aF=[]:=xh (Nat.le_zero.1 hs.sl);have es:(⟨s.ai,s.aD,[],s.aI⟩:ay)=s:=by rw[<-hsl]
 obtain⟨b,e1,_⟩:=cH (rnd:=UN) f.au.length (λi (_:Unit)=>⟨f.au,(zR f.au:Int),(i:Int),f,v,A0,s,⟨f,(f.au.take i).map (Zr f s)⟩⟩) (λi _=>True) (λi b hi _=>by
  obtain⟨i1,i2,hw⟩:=w3 hi aq;obtain⟨q1,q2⟩:=hf.hat i hi;have ev:=MN hs q2;obtain⟨c,hcl,_,_,_⟩:=ij (iV hs f.au[i]!.aG q2) f.au[i]!.ah f.au[i]!.ag;have hl2:∀x:aL,zR ((f.au.take i).map (Zr f s)++[x])<=1073741824:=λx=>by simp;omega
  refine⟨(),?_,trivial⟩;rw[bC hi,zK];unfold UN;simp only[zi,i1,az.eta,es,ev,hcl,hl2,hw];rfl) (λb _=>by unfold UN;simp) (b:=()) trivial
 rw[zG]at e1;exact e1
def GS(f:aU)(v:bW)(box:aa aL):ay:=gT f (pP f (fh f v box)) f.bM (fh f v box)
def fC(f:aU)(v:bW)(box:aa aL):bL:=
 ⟨(GS f v box).aD,(GS f v box).aF,if v.fZ=O then(GS f v box).aI else eC 0,(GS f v box).ai⟩
def apS{f:aU}{v:bW}{box:aa aL}(h:fM f.bM+kH (f.au.map (·.aG))<=900)(hh:zR f.au<=1000)(hl:zR f.ai<=1000):m20 f v box=V (if uG f v box=0 then(fC f v box,0)else(A0,uG f v box)):=by
 unfold m20;rw[azK h hh hl];dsimp only;by_cases hc:uG f v box=0
 case neg=>rw[bY hc,bO hc];rfl
 have hfit:=Au hc;have hf:=Mi hfit.c;have h0:=sH hfit;have e0:=aji hl box v ⟨[],eC 0,[],eC 0⟩;have e1:=ait hfit hl ⟨[],eC 0,[],eC 0⟩;have e2:=ann hf hh v h0;have ho:eN f.bM<=8:=by have:=hf.o;unfold eN;omega
 have e3:r83 ⟨f,pP f (fh f v box)⟩ f.bM (fh f v box)=V (GS f v box):=
  aC8 (r:=⟨f,pP f (fh f v box)⟩) (top:=O) (by show zR f.ai<=_;omega) (by simp[pP]) (Dh hf h0) aq hf.steps h0 aq
 rw[bZ hc,bI hc];simp only[cw,rY];rw[e0];dsimp only;rw[fK,cw,e1];dsimp only;rw[fK,cw];have e2':Om ⟨f.au,(zR f.au:Int),0,f,v,⟨⟨0,0,0⟩,[],⟨0,0,0⟩,[]⟩,⟨tab f.ai.length (eH f v box),eC 0,[],eC 0⟩,⟨f,[]⟩⟩=_:=e2;rw[e2'];dsimp only;rw[fK,cw];have e3':r83 ⟨f,pP f (fh f v box)⟩ f.bM ⟨(fh f v box).ai,(fh f v box).aD,[],(fh f v box).aI⟩=_:=e3;rw[e3'];unfold fC;cases v.fZ<;>rfl
abbrev Z3:aJ:=⟨[],⟨0,0,0⟩,[],⟨0,0,0⟩⟩
def amw{f:aU}(hl:zR f.ai<=1000)(box:aa aL)(v:bW):U7 ⟨box,0,f.ai,(zR f.ai:Int),0,f,v,Z3,Z3⟩=
  V ⟨box,(cQ f.ai 1 f.ai.length:Int),f.ai,(zR f.ai:Int),(zR f.ai:Int),f,v,Z3,Z3⟩:=by
 obtain⟨b,e1,_⟩:=cH (rnd:=Ve) f.ai.length (λi (_:Unit)=>⟨box,(cQ f.ai 1 i:Int),f.ai,(zR f.ai:Int),(i:Int),f,v,Z3,Z3⟩) (λ_ _=>True) (λi b hi _=>by
  obtain⟨i1,i2,hw⟩:=w3 hi aq;have c1:=gL hi 1;have l1:=j7 f.ai 1 i;have w1:ak ((cQ f.ai 1 i:Int)+1)=((cQ f.ai 1 i+1:Nat):Int):=by rw[aM];omega
  refine⟨(),?_,trivial⟩;unfold Ve;rw[c1];by_cases hk:f.ai[i]!.bB=1
  ·simp only[cV,i1,i2,hk,hw,w1,cI,dM]
  ·simp only[cV,cT,gz,i1,i2,hk,hw,yh]) (λb _=>by unfold Ve;simp) (b:=()) trivial
 exact e1
def aje{f:aU}{v:bW}{box:aa aL}(h:Fits f v box)(hlv:zR f.ai<=1000):Ws ⟨box,0,(cQ f.ai 1 f.ai.length:Int),0,f.ai,(zR f.ai:Int),0,v,Z3,Z3⟩=
  V ⟨box,(cQ f.ai 1 f.ai.length:Int),((cQ f.ai 1 f.ai.length+cQ f.ai 3 f.ai.length:Nat):Int),(cQ f.ai 2 f.ai.length:Int),f.ai,(zR f.ai:Int),(zR f.ai:Int),v,Z3,⟨tab f.ai.length (eH f v box),⟨0,0,0⟩,[],⟨0,0,0⟩⟩⟩:=by
 have hbx:=h.bl;rw[KG]at hbx;have hp:=h.pub;rw[<-nZ]at hp;obtain⟨b,e1,_⟩:=cH (rnd:=Un) f.ai.length (λi (_:Unit)=>⟨box,(cQ f.ai 1 i:Int),((cQ f.ai 1 f.ai.length+cQ f.ai 3 i:Nat):Int),(cQ f.ai 2 i:Int),f.ai,(zR f.ai:Int),(i:Int),v,Z3,⟨tab i (eH f v box),⟨0,0,0⟩,[],⟨0,0,0⟩⟩⟩) (λi _=>True) (λi b hi _=>by
  obtain⟨i1,i2,hw⟩:=w3 hi aq;have c1:=gL hi 1;have c2:=gL hi 2;have c3:=gL hi 3;have m1:=jN (vars:=f.ai) (k:=1) (show i+1<=zR f.ai by omega) (zm _);have m2:=jN (vars:=f.ai) (k:=2) (show i+1<=zR f.ai by omega) (zm _);have m3:=jN (vars:=f.ai) (k:=3) (show i+1<=zR f.ai by omega) (zm _);have l1:=j7 f.ai 1 f.ai.length;have l2:=j7 f.ai 2 f.ai.length;have l3:=j7 f.ai 3 f.ai.length;have hl2:∀x:aL,zR (tab i (eH f v box)++[x])<=1073741824:=λx=>by rw[zg,gQ,yg];omega
  refine⟨(),?_,trivial⟩;rw[qw];unfold Un;dsimp only;rw[c1,c2,c3];by_cases k1:f.ai[i]!.bB=1
  ·have ev:eH f v box i=box[cQ f.ai 1 i]! :=by unfold eH;rw[bI k1]
   rw[k1]at c1 c2 c3 ⊢;simp only[gz,Int.reduceEq,yh]at c1 c2 c3 ⊢;have w1:ak ((cQ f.ai 1 i:Int)+1)=((cQ f.ai 1 i+1:Nat):Int):=by rw[aM];omega
   have j1:(cQ f.ai 1 i:Int)<(zR box:Int):=aq;have j2:(0:Int)<=(cQ f.ai 1 i:Int):=aq;simp only[cV,i1,i2,j1,j2,cI,dM,k1,hl2,hw,w1,ev]
  by_cases k2:f.ai[i]!.bB=2
  ·have ev:eH f v box i=eC v.aZ[cQ f.ai 2 i]! :=by unfold eH;rw[bO k1,bI k2]
   rw[k2]at c1 c2 c3 ⊢;simp only[gz,Int.reduceEq,yh]at c1 c2 c3 ⊢;have w1:ak ((cQ f.ai 2 i:Int)+1)=((cQ f.ai 2 i+1:Nat):Int):=by rw[aM];omega
   have j1:(cQ f.ai 2 i:Int)<(zR v.aZ:Int):=aq;have j2:(0:Int)<=(cQ f.ai 2 i:Int):=aq;simp only[cV,cT,i1,i2,j1,j2,k2,Int.reduceEq,dM,hl2,hw,w1,C7,ev]
  by_cases k3:f.ai[i]!.bB=3
  ·have ev:eH f v box i=box[cQ f.ai 1 f.ai.length+cQ f.ai 3 i]! :=by unfold eH;rw[bO k1,bO k2,bI k3]
   rw[k3]at c1 c2 c3 ⊢;simp only[gz,Int.reduceEq,yh]at c1 c2 c3 ⊢;have w1:ak (((cQ f.ai 1 f.ai.length+cQ f.ai 3 i:Nat):Int)+1)=((cQ f.ai 1 f.ai.length+(cQ f.ai 3 i+1):Nat):Int):=by rw[aM];omega
   have j1:((cQ f.ai 1 f.ai.length+cQ f.ai 3 i:Nat):Int)<(zR box:Int):=aq;have j2:(0:Int)<=((cQ f.ai 1 f.ai.length+cQ f.ai 3 i:Nat):Int):=aq;simp only[cV,cT,i1,i2,j1,j2,k3,Int.reduceEq,dM,hl2,hw,w1,ev]
  ·have ev:eH f v box i=eC f.ai[i]!.eG:=by unfold eH;rw[bO k1,bO k2,bO k3]
   rw[bO k1,bO k2,bO k3];simp only[cV,cT,i1,i2,k1,k2,k3,dM,hl2,hw,C7,ev,yh]) (λb _=>by unfold Un;simp) (b:=()) trivial
 exact e1
def aAl{f:aU}{v:bW}{box:aa aL}(h:Fits f v box)(hlv:zR f.ai<=1000):m85 f v box=V (tr (fh f v box)):=by
 have e0:=amw hlv box v;have e1:=aje h hlv;unfold m85;dsimp only[Z3]at e0 e1;rw[e0];dsimp only;rw[fK,cw,e1];dsimp only;rw[fK,cw];rfl
def agQ{f:aU}(hf:Oc f)(hlh:zR f.au<=1000)(v:bW){s:ay}(hs:eR f.ai.length 0 s):Nl ⟨[],f.au,(zR f.au:Int),0,f,v,A0,tr s⟩=
  V ⟨pP f s,f.au,(zR f.au:Int),(zR f.au:Int),f,v,A0,tr s⟩:=by
 have hsl:s.aF=[]:=xh (Nat.le_zero.1 hs.sl);have es:(⟨(tr s).ai,(tr s).aD,[],(tr s).aI⟩:aJ)=tr s:=by unfold tr;rw[<-hsl]
 obtain⟨b,e1,_⟩:=cH (rnd:=VJ) f.au.length (λi (_:Unit)=>⟨(f.au.take i).map (Zr f s),f.au,(zR f.au:Int),(i:Int),f,v,A0,tr s⟩) (λi _=>True) (λi b hi _=>by
  obtain⟨i1,i2,hw⟩:=w3 hi aq;obtain⟨q1,q2⟩:=hf.hat i hi;have ev:=W4 hs f.au[i]!.aG q2;obtain⟨c,_,hcl,_,_⟩:=ij (iV hs f.au[i]!.aG q2) f.au[i]!.ah f.au[i]!.ag;have hl2:∀x:aL,zR ((f.au.take i).map (Zr f s)++[x])<=1073741824:=λx=>by simp;omega
  refine⟨(),?_,trivial⟩;rw[bC hi,zK];unfold VJ;simp only[cV,i1,i2,cI,dM,az.eta,es,ev,hcl,hl2,hw,yc,yT];rfl) (λb _=>by unfold VJ;simp) (b:=()) trivial
 rw[zG]at e1;exact e1
def axJ{f:aU}{v:bW}{box:aa aL}(h:fM f.bM+kH (f.au.map (·.aG))<=900)(hh:zR f.au<=1000)(hl:zR f.ai<=1000)(hfit:Fits f v box):m23 f v box=V (fC f v box):=by
 have hf:=Mi hfit.c;have h0:=sH hfit;have e2:=agQ hf hh v h0;have ho:eN f.bM<=8:=by have:=hf.o;unfold eN;omega
 have e3:r88 f (pP f (fh f v box)) f.bM (tr (fh f v box))=V (tr (GS f v box)):=
  axR (top:=O) aq (by simp[pP]) (Dh hf h0) aq hf.steps h0 aq
 unfold m23;rw[aAl hfit hl];dsimp only;have e2':Nl ⟨[],f.au,(zR f.au:Int),0,f,v,⟨⟨0,0,0⟩,[],⟨0,0,0⟩,[]⟩,⟨(tr (fh f v box)).ai,(tr (fh f v box)).aD,[],(tr (fh f v box)).aI⟩⟩=_:=e2;rw[e2'];dsimp only;rw[fK,cw];have e3':r88 f (pP f (fh f v box)) f.bM ⟨(tr (fh f v box)).ai,(tr (fh f v box)).aD,[],(tr (fh f v box)).aI⟩=_:=e3;rw[e3'];dsimp only;unfold fC;cases v.fZ<;>rfl
abbrev E18:=Bool
def d18:Td 0 E18:= .c [] [0] (.r 0 0 (ec 0 qb en) sn (λz=>z.1.1) (λx=>((x,()),(()))))
def m18:E18:=O
def e18:=eL vn 18 G ln d18 (λ_=>V m18)
def t18:td vn di (λ_=>G) 300 60 Bool 18 [] [] 0 (TB S8)=V O:=aV
abbrev E19:=Bool
def m19(a0:aU)(a1:bW)(a2:aa aL):af E19:=
 match bif J ((zR a1.aZ:Int)<=20)then bif J ((zR a2:Int)<=20)then match m53 a0 70 300with|I=>I|V r1=>bif r1 then match m78 a0 with|I=>I|V r2=>bif bif J (r2=0)then G else O then V O else match m24 a0 4096 4096 256with|I=>I|V r3=>V (r3)else V G else V G else V G with|I=>I|V r4=>V (r4)
structure MW where
 (t0 t1:List aL)
 (t12 t13:Int)
def aaN:Td 0 MW:= .c [] [0,1,12,13] (.r 0 0 (ec 0 (ql 34) (ec 1 (ql 34) (ec 12 aN (ec 13 aN en)))) sn (λz=>⟨z.1.1,z.1.2.1,z.1.t.1,z.1.t.2.1⟩) (λx=>((x.t0,x.t1,x.t12,x.t13,()),(()))))
def WN(p:MW):af (af MW):=
 bif J (p.t13<p.t12)then if 0<=p.t13/\p.t13<zR p.t0 then if 0<=p.t13/\p.t13<zR p.t1 then bif bif bif J (p.t0[zD p.t13]!.ah=p.t1[zD p.t13]!.ah)then bif J (p.t0[zD p.t13]!.ag=p.t1[zD p.t13]!.ag)then bif J (p.t0[zD p.t13]!.aj=p.t1[zD p.t13]!.aj)then O else G else G else G then G else O then V (I)else V (V (MW.mk p.t0 p.t1 p.t12 (ak (p.t13+1))))else I else I else V (I)
def U9:=bJ (WN)
abbrev E64:=Bool
def d64:Td 0 E64:= .c [] [4] (.r 0 0 (ec 4 qb en) sn (λz=>z.1.1) (λx=>((x,()),(()))))
def m64(a0:aa aL)(a1:aa aL):af E64:=
 bif bif J ((zR a0:Int)=(zR a1:Int))then G else O then V G else match U9 (MW.mk a0 a1 a0.length 0)with|I=>I|V r1=>bif J (r1.t13<r1.t12)then if 0<=r1.t13/\r1.t13<zR r1.t0 then if 0<=r1.t13/\r1.t13<zR r1.t1 then bif bif bif J (r1.t0[zD r1.t13]!.ah=r1.t1[zD r1.t13]!.ah)then bif J (r1.t0[zD r1.t13]!.ag=r1.t1[zD r1.t13]!.ag)then bif J (r1.t0[zD r1.t13]!.aj=r1.t1[zD r1.t13]!.aj)then O else G else G else G then G else O then V G else I else I else I else V O
def e64:=eL vn 64 G (lc (ql 34) (lc (ql 34) ln)) d64 (λg=>m64 g.1 g.2.1)
def aqv:EO e64:=λh=>kL (an:=(noTwo (noTwo (.two (noTwo (aaN.lp U9 .no)) .no)))) (l:=[(aY f64 0,(aaN.lp U9 .no))]) func64 aP (aA (aO aaN) aH) h
abbrev E22:=Bool
def m22(a0:bL)(a1:bL):af E22:=
 match bif bif J (a0.aD.ah=a1.aD.ah)then bif J (a0.aD.ag=a1.aD.ag)then bif J (a0.aD.aj=a1.aD.aj)then O else G else G else G then bif bif J (a0.aI.ah=a1.aI.ah)then bif J (a0.aI.ag=a1.aI.ag)then bif J (a0.aI.aj=a1.aI.aj)then O else G else G else G then match m64 a0.aF a1.aF with|I=>I|V r1=>bif r1 then match m64 a0.LP a1.LP with|I=>I|V r2=>V (r2)else V (G)else V (G)else V (G)with|I=>I|V r3=>V (r3)
abbrev E3:=Bool
def d3:Td 0 E3:= .c [] [6] (.r 0 0 (ec 6 qb en) sn (λz=>z.1.1) (λx=>((x,()),(()))))
def A3:=(lc (qg 26) (lc (qg 29) (lc (ql 34) ln)))
def m3(a0:aU)(a1:bW)(a2:aa aL):af E3:=
 bif bif m18 then G else O then V (G)else match m19 a0 a1 a2 with|I=>I|V r1=>bif bif r1 then G else O then V (O)else match m20 a0 a1 a2 with|I=>I|V r2=>match m21 a0 a1 a2 with|I=>I|V r3=>bif bif J (r3=0)then G else O then bif J (r2.snd=r3)then match m22 r2.fst (bL.mk (aL.mk (0) (0) (0)) [] (aL.mk (0) (0) (0)) [])with|I=>I|V r4=>V (r4)else V (G)else bif J (r2.snd=0)then match m23 a0 a1 a2 with|I=>I|V r5=>match m22 r2.fst r5 with|I=>I|V r6=>V (r6)else V (G)
abbrev E6:=Bool
def d6:Td 0 E6:= .c [] [6] (.r 0 0 (ec 6 qb en) sn (λz=>z.1.1) (λx=>((x,()),(()))))
def aaU(l:aa aL)(hl:zR l<=1000000):m64 l l=V O:=by
 obtain⟨b,e1,hI⟩:=cH (rnd:=WN) l.length (λi (_:Unit)=>⟨l,l,(zR l:Int),(i:Int)⟩) (λi b=>True) (λi b hi hb=>by
  obtain⟨i1,i2,hw⟩:=w3 hi aq;refine⟨(),?_,trivial⟩;unfold WN;simp only[cV,cT,i1,i2,dM,hw]) (λb _=>by unfold WN;simp) (b:=()) trivial
 have e1':U9 ⟨l,l,(zR l:Int),0⟩=V ⟨l,l,(zR l:Int),(zR l:Int)⟩:=e1;unfold m64;simp only[cV,cT,e1',yl]
def abh{f:aU}{v:bW}{box:aa aL}(h:Fits f v box):zR (fC f v box).aF<=8/\zR (fC f v box).LP=zR f.ai:=by
 have hf:=Mi h.c;have h0:=sH h;have ho:eN f.bM<=8:=by have:=hf.o;unfold eN;omega
 have k:=iw (hv:=pP f (fh f v box)) (by simp[pP]) (Dh hf h0) _ f.bM O (zC _) hf.steps _ _ h0;have:=k.sl;exact⟨by show zR (GS f v box).aF<=8;unfold GS;omega,k.len⟩
def Nc{a:aL}(h:NN a):b7 a<=a.ag-a.ah+1:=by
 rw[v7 h];have:=h.le;split
 ·omega
 ·have:=yo a.aj (show 0<=a.ag-a.ah by omega);omega
def Az{a:aL}(h:NN a):1<=b7 a/\b7 a<=2199023255553:=by
 have h1:=size_pos h;have h2:=Nc h;obtain⟨a1,a2⟩:=h.tu;obtain⟨a3,a4⟩:=h.Cn;omega
def M7{a b:Int}(h1:1<=a)(h2:a<=2199023255553)(h3:1<=b)(h4:b<=2199023255553):m93 a b=V (min (a*b) 1099511627776):=by
 have hd:(1099511627776:Int).tdiv b=1099511627776/b:=Int.tdiv_eq_ediv_of_nonneg aq;have q0:0<=(1099511627776:Int)/b:=zS aq aq;have q1:(1099511627776:Int)/b<=1099511627776:=yo _ aq;have iff:(1099511627776:Int)/b<a↔1099511627776<a*b:=Int.ediv_lt_iff_lt_mul aq;have p0:0<=a*b:=zI aq aq;unfold m93;rw[bZ (show 0<b by omega),cI,bI (show ¬@Eq Int b 0 by omega),hd,aM];dsimp only;by_cases c:1099511627776<a*b
 ·rw[bZ (iff.mpr c),cI,show min (a*b) 1099511627776=1099511627776 by omega]
 ·rw[bY (λk=>c (iff.mp k)),cw,aM,show min (a*b) 1099511627776=a*b by omega]
def fH:aa aL->Int
 |[]=>1
 |x::l=>b7 x*fH l
def lZ:aa bf->Int
 |[]=>1
 |x::l=>(x.ag-x.ah+1)*lZ l
def uV:∀(a b:aa aL),fH (a++b)=fH a*fH b
 |[],b=>by rw[yz,fH,yd]
 |x::a,b=>by rw[xz,fH,fH,uV a b,yb]
def He:∀(a b:aa bf),lZ (a++b)=lZ a*lZ b
 |[],b=>by rw[yz,lZ,yd]
 |x::a,b=>by rw[xz,lZ,lZ,He a b,yb]
def lV:∀{l:aa aL},(∀x∈l,NN x)->1<=fH l
 |[],_=>by rw[fH];decide
 |x::l,h=>by
  rw[fH];have h1:=size_pos (h x (zk ..));have h2:=lV (λy hy=>h y (zJ _ hy));have:=y4 h1 h2 aq aq;omega
def AF{l:aa aL}(h:∀x∈l,NN x)(i:Nat):1<=fH (l.take i)/\fH (l.take i)<=fH l:=by
 have h1:=lV (l:=l.take i) (λx hx=>h x (wF hx));have h2:=lV (l:=l.drop i) (λx hx=>h x (xD hx));have e:fH l=fH (l.take i)*fH (l.drop i):=by rw[<-uV,xg]
 have:=va h2 (show 0<=fH (l.take i)by omega);omega
def Xt:∀{l:aa aL} {L:aa bf},zR l=zR L->(∀j,j<zR l->NN l[j]!/\L[j]!.ah<=l[j]!.ah/\l[j]!.ag<=L[j]!.ag)->fH l<=lZ L
 |[],[],_,_=>zw _
 |[],y::L,h,_=>by simp at h
 |x::l,[],h,_=>by simp at h
 |x::l,y::L,h,k=>by
  have hN:∀z∈l,NN z:=λz hz=>by
   obtain⟨i,hi,e⟩:=List.mem_iff_getElem.1 hz;have:=(k (i+1) (by simp;omega)).1;rw[show (x::l)[i+1]! =l[i]! from rfl,getElem!_pos l i hi,e]at this;omega
  obtain⟨k1,k2,k3⟩:=k 0 (by simp);have k1:NN x:=k1;have k2:y.ah<=x.ah:=k2;have k3:x.ag<=y.ag:=k3;have h1:=size_pos k1;have h2:=Nc k1;have h3:=Xt (l:=l) (L:=L) (by simpa using h) (λj hj=>k (j+1) (by simp;omega));have h4:=lV hN;exact y4 aq h3 aq aq
def Al(kind:Int):∀(l:aa bf) (n m:Int),uE kind l n=V m->m=n*lZ (l.filter (kd kind))
 |[],n,m,e=>by unfold uE at e;cases e;rw[xZ,lZ,Int.mul_one]
 |v::vs,n,m,e=>by
  unfold uE at e;by_cases hk:v.bB=kind
  ·rw[bI hk]at e;split at e
   ·cases e
   ·have:=Al kind vs _ m e;rw[this,yX,bI (by simp[kd,hk]),lZ,yb]
  ·rw[bO hk]at e;rw[Al kind vs n m e,yX,bO (by simp[kd,hk])]
def HI:∀{l:aa bf},(∀v∈l,v.ah<=v.ag)->1<=lZ l
 |[],_=>by rw[lZ];decide
 |x::l,h=>by
  rw[lZ];have h1:=h x (zk ..);have h2:=HI (λy hy=>h y (zJ _ hy));have:=y4 (show 1<=x.ag-x.ah+1 by omega) h2 aq aq;omega
def XY{f:aU}(h:pL f=0):Gm f.ai=O:=by
 unfold pL at h;by_cases h1:qm f=G
 ·simp_all
 rw[bO h1]at h;by_cases hvc:jK f.ai=0
 case neg=>rw[bI hvc]at h;exact ei h hvc
 unfold jK at hvc;by_cases h0:cz (ni f.ai) f.ai 0=0
 case neg=>rw[bI h0]at hvc;exact ei hvc h0
 simp_all
def akZ{f:aU}(h:pL f=0):lZ (ew f.ai)<=1048576:=by
 have hv:=mC h;have hs:=XY h;unfold Gm at hs;simp only[zh]at hs;obtain⟨⟨h1,_⟩,h3⟩:=hs;obtain⟨a,e1⟩:=Option.isSome_iff_exists.1 h1;cases e3:uE 3 f.ai 1 with
 |none=>rw[e3]at h3;cases h3
 |some b=>
  rw[e3]at h3;have h3:b<=256:=by simpa using h3
  have ha:=Et 1 f.ai 1 a (by decide) e1;have p1:=Al 1 f.ai 1 a e1;have p3:=Al 3 f.ai 1 b e3;rw[yd]at p1 p3;have q3:=HI (l:=f.ai.filter (kd 3)) (λv hv'=>(hv v (z7.1 hv').1).2.1);unfold ew;rw[He,<-p1,<-p3];have:=y4 ha h3 aq aq;omega
def Fits.nn{f:aU}{v:bW}{box:aa aL}(h:Fits f v box):∀x∈box,NN x:=λx hx=>by
 obtain⟨i,hi,e⟩:=List.mem_iff_getElem.1 hx;have:=(h.bx i hi).1;simp_all
def Fits.vol{f:aU}{v:bW}{box:aa aL}(h:Fits f v box):1<=fH box/\fH box<=1048576:=⟨lV h.nn,xV (Xt h.bl h.bx) (akZ h.c)⟩
def ahV{box:aa aL}(h:∀x∈box,NN x)(hl:zR box<=1000000)(hv:fH box<=1048576):alg box=V (fH box):=by
 obtain⟨b,e1,_⟩:=cH (rnd:=Ki) box.length (λi (_:Unit)=>⟨fH (box.take i),box,(zR box:Int),(i:Int)⟩) (λi _=>True) (λi b hi _=>by
  obtain⟨i1,i2,hw⟩:=w3 hi hl;obtain⟨t1,t2⟩:=AF h (i+1);have e:fH (box.take (i+1))=fH (box.take i)*b7 box[i]! :=by
   rw[bC hi,uV,fH,fH,Int.mul_one]
  refine⟨(),?_,trivial⟩;rw[e]at t1 t2 ⊢;unfold Ki;simp only[cV,i1,i2,cI,dM,eE (.inr (h _ (bq hi))),hw];rw[aM]) (λb _=>by unfold Ki;simp) (b:=()) trivial
 rw[zG]at e1;have e1':Je ⟨1,box,(zR box:Int),0⟩=V ⟨fH box,box,(zR box:Int),(zR box:Int)⟩:=e1;unfold alg;rw[e1'];simp
def iI(l:aa aL):Bool:=l.all λx=>J (b7 x=1)
def sgB(r:bL):Bool:=(J (b7 r.aD=1)&&J (b7 r.aI=1))&&iI r.aF
def X7(r:bL):aC:=⟨r.aF.map (·.ah),r.aI.ah⟩
structure ZI (r:bL):Prop where
 count:NN r.aD
 time:NN r.aI
 sl:zR r.aF<=8
 slots:∀i,i<zR r.aF->NN r.aF[i]!
def Cr{l:aa aL}{i:Nat}(h:i<zR l):iI (l.take (i+1))=(iI (l.take i)&&J (b7 l[i]! =1)):=by
 unfold iI;rw[bC h,List.all_append];simp
def aj0{r:bL}(h:ZI r)(b:Bool)(t:Int):Vl ⟨b,r.aF,(zR r.aF:Int),0,⟨[],0⟩,⟨[],t⟩⟩=V ⟨b&&iI r.aF,r.aF,(zR r.aF:Int),(zR r.aF:Int),⟨[],0⟩,⟨r.aF.map (·.ah),t⟩⟩:=by
 have hs:=h.sl;obtain⟨_,e1,_⟩:=cH (rnd:=Wt) r.aF.length (λi (_:Unit)=>⟨b&&iI (r.aF.take i),r.aF,(zR r.aF:Int),(i:Int),⟨[],0⟩,⟨(r.aF.take i).map (·.ah),t⟩⟩) (λi _=>True) (λi _ hi _=>by
  obtain⟨i1,i2,hw⟩:=w3 hi aq;have hl2:∀x:Int,zR ((r.aF.take i).map (·.ah)++[x])<=1073741824:=λx=>by simp;omega
  refine⟨(),?_,trivial⟩;rw[Cr hi,bC hi,zK];unfold Wt;cases hb:(b&&iI (r.aF.take i))with
  |false=>
   rw[<-Bool.and_assoc,hb];simp only[cV,cT,i1,i2,hl2,dM,hw,Bool.false_and,yc,yT]
  |true=>
   rw[<-Bool.and_assoc,hb];simp only[cV,i1,i2,hl2,cI,dM,qe (.inr (h.slots i hi)),hw,Bool.true_and,yc,yT]) (λb _=>by unfold Wt;simp) (b:=()) trivial
 rw[zG]at e1;have:(b&&iI (r.aF.take 0))=b:=by simp[iI]
 rw[this]at e1;exact e1
def akn{r:bL}(h:ZI r)(b:Bool)(t:Int):Ui ⟨b,r.aF,(zR r.aF:Int),0,⟨[],0⟩,⟨[],t⟩⟩=V ⟨b&&iI r.aF,r.aF,(zR r.aF:Int),(zR r.aF:Int),⟨[],0⟩,⟨r.aF.map (·.ah),t⟩⟩:=by
 have hs:=h.sl;obtain⟨_,e1,_⟩:=cH (rnd:=Vx) r.aF.length (λi (_:Unit)=>⟨b&&iI (r.aF.take i),r.aF,(zR r.aF:Int),(i:Int),⟨[],0⟩,⟨(r.aF.take i).map (·.ah),t⟩⟩) (λi _=>True) (λi _ hi _=>by
  obtain⟨i1,i2,hw⟩:=w3 hi aq;have hl2:∀x:Int,zR ((r.aF.take i).map (·.ah)++[x])<=1073741824:=λx=>by simp;omega
  refine⟨(),?_,trivial⟩;rw[Cr hi,bC hi,zK];unfold Vx;cases hb:(b&&iI (r.aF.take i))with
  |false=>
   rw[<-Bool.and_assoc,hb];simp only[cV,cT,i1,i2,hl2,dM,hw,Bool.false_and,yc,yT]
  |true=>
   rw[<-Bool.and_assoc,hb];simp only[cV,i1,i2,hl2,cI,dM,eE (.inr (h.slots i hi)),hw,Bool.true_and,yc,yT]) (λb _=>by unfold Vx;simp) (b:=()) trivial
 rw[zG]at e1;have:(b&&iI (r.aF.take 0))=b:=by simp[iI]
 rw[this]at e1;exact e1
def ayZ{f:aU}{v:bW}{box:aa aL}{r:bL}(e:m20 f v box=V (r,0))(h:ZI r):ZC f v box=V (if sgB r=O then(X7 r,O,0)else(⟨[],0⟩,G,0)):=by
 unfold ZC;rw[e];simp only[Cv,qe (.inr h.count),qe (.inr h.time)];have ef:(bif J (@Eq Int (b7 r.aD) 1)then some (J (@Eq Int (b7 r.aI) 1))else some false)=some (J (b7 r.aD=1)&&J (b7 r.aI=1)):=by cases J (b7 r.aD=1)<;>rfl
 rw[ef];dsimp only;rw[aj0 h];dsimp only;rw[fK,cw];unfold sgB X7;cases (J (b7 r.aD=1)&&J (b7 r.aI=1))&&iI r.aF<;>rfl
def ayb{f:aU}{v:bW}{box:aa aL}{r:bL}(e:m23 f v box=V r)(h:ZI r):m37 f v box=V (if sgB r=O then(X7 r,O)else(⟨[],0⟩,G)):=by
 unfold m37;rw[e];simp only[eE (.inr h.count),eE (.inr h.time)];have ef:(bif J (@Eq Int (b7 r.aD) 1)then some (J (@Eq Int (b7 r.aI) 1))else some false)=some (J (b7 r.aD=1)&&J (b7 r.aI=1)):=by cases J (b7 r.aD=1)<;>rfl
 rw[ef];dsimp only;rw[akn h];dsimp only;rw[fK,cw];unfold sgB X7;cases (J (b7 r.aD=1)&&J (b7 r.aI=1))&&iI r.aF<;>rfl
def tK(r:bL)(M:Int):Nat->Int×Int
 |0=>(0,min (b7 r.aI) M)
 |k+1=>(if cR r.aD (k:Nat)=O then min ((tK r M k).1+(tK r M k).2) M else(tK r M k).1,if k<zR r.aF then min ((tK r M k).2*b7 r.aF[k]!) M else(tK r M k).2)
def aey{r:bL}(h:ZI r){M:Int}(hM:1<=M):∀k,0<=(tK r M k).1/\(tK r M k).1<=M/\1<=(tK r M k).2/\(tK r M k).2<=M
 |0=>by
  have:=size_pos h.time;simp only[tK];omega
 |k+1=>by
  obtain⟨h1,h2,h3,h4⟩:=aey h hM k;simp only[tK];refine⟨?_,?_,?_,?_⟩
  ·omega
  ·omega
  ·split
   ·rename_i c;have:=size_pos (h.slots k c);have:=y4 h3 this aq aq;omega
   ·omega
  ·omega
def aaW{P s zc:Int}(hs:1<=s)(hP:1<=P)(hV:1<=zc):min (P*min s zc) zc=min (P*s) zc:=by
 by_cases c:s<=zc
 ·grind
 ·rw[show min s zc=zc by omega];have k1:=zM hP (show 0<=zc by omega);have k2:=zM hP (show 0<=s by omega);omega
def C5(r:bL):Nat->Int×Int
 |0=>(0,b7 r.aI)
 |k+1=>(if cR r.aD (k:Nat)=O then min ((C5 r k).1+(C5 r k).2) 1099511627776 else(C5 r k).1,if k<zR r.aF then min ((C5 r k).2*b7 r.aF[k]!) 1099511627776 else(C5 r k).2)
def Tx{r:bL}(h:ZI r):∀k,0<=(C5 r k).1/\(C5 r k).1<=1099511627776/\1<=(C5 r k).2/\(C5 r k).2<=2199023255553
 |0=>by
  have:=Az h.time;simp only[C5];omega
 |k+1=>by
  obtain⟨h1,h2,h3,h4⟩:=Tx h k;simp only[C5];refine⟨?_,?_,?_,?_⟩
  ·omega
  ·omega
  ·split
   ·rename_i c;have:=size_pos (h.slots k c);have:=y4 h3 this aq aq;omega
   ·omega
  ·omega
def Wu{r:bL}(h:ZI r){zc:Int}(hV:1<=zc)(hM:zc<=1099511627776):∀k,(tK r zc k).1=min (C5 r k).1 zc/\(tK r zc k).2=min (C5 r k).2 zc
 |0=>by
  refine⟨?_,rfl⟩;show (0:Int)=min 0 zc;omega
 |k+1=>by
  obtain⟨h1,h2⟩:=Wu h hV hM k;obtain⟨b1,b2,b3,b4⟩:=Tx h k;simp only[tK,C5];refine⟨?_,?_⟩
  ·split
   ·omega
   ·exact h1
  ·split
   ·rename_i c;have hs:=size_pos (h.slots k c);rw[h2];generalize (C5 r k).2=P at*;by_cases c2:P<=zc
    ·rw[show min P zc=P by omega];omega
    ·rw[show min P zc=zc by omega];have k1:=va hs (show 0<=zc by omega);have k2:=va hs (show 0<=P by omega);omega
   ·exact h2
def tY(a b:Int):(if b<a then b else a)=min a b:=by split<;>omega
def ahn{r:bL}(h:ZI r)(box:aa aL):Wb ⟨box,0,b7 r.aI,((zR r.aF+1:Nat):Int),0,r⟩=V ⟨box,(C5 r (zR r.aF+1)).1,(C5 r (zR r.aF+1)).2,((zR r.aF+1:Nat):Int),((zR r.aF+1:Nat):Int),r⟩:=by
 have hs:=h.sl;obtain⟨_,e1,_⟩:=cH (rnd:=V2) (zR r.aF+1) (λi (_:Unit)=>⟨box,(C5 r i).1,(C5 r i).2,((zR r.aF+1:Nat):Int),(i:Int),r⟩) (λi _=>True) (λi _ hi _=>by
  have hw:ak ((i:Int)+1)=((i+1:Nat):Int):=by rw[aM];omega
  have i1:(i:Int)<((zR r.aF+1:Nat):Int):=aq;have i2:(0:Int)<=(i:Int):=aq;obtain⟨b1,b2,b3,b4⟩:=Tx h i;have ws:ak ((C5 r i).1+(C5 r i).2)=(C5 r i).1+(C5 r i).2:=aM;refine⟨(),?_,trivial⟩;unfold V2;simp only[C5];by_cases c:i<zR r.aF
  ·have c1:(i:Int)<(zR r.aF:Int):=aq;have hz:=Az (h.slots i c);have et:=M7 b3 b4 hz.1 hz.2;cases hc:cR r.aD (i:Nat)with
   |true=>simp only[cV,i1,i2,c,c1,cI,dM,rA (.inr h.count),hc,qe (.inr (h.slots i c)),et,ws,tY,hw]
   |false=>simp only[cV,cT,gz,i1,i2,c,c1,rA (.inr h.count),hc,qe (.inr (h.slots i c)),et,hw,yu]
  ·have c1:¬(i:Int)<(zR r.aF:Int):=aq;cases hc:cR r.aD (i:Nat)with
   |true=>simp only[cV,cT,gz,i1,c,c1,rA (.inr h.count),hc,ws,tY,hw]
   |false=>simp only[cV,cT,i1,c,c1,GL,rA (.inr h.count),hc,hw,yu]) (λb _=>by unfold V2;simp) (b:=()) trivial
 exact e1
def alG{box:aa aL}(h:∀x∈box,NN x)(hl:zR box<=1000000)(hv:fH box<=1048576)(s:Int):VC ⟨s,1,box,(zR box:Int),0⟩=V ⟨s,fH box,box,(zR box:Int),(zR box:Int)⟩:=by
 obtain⟨_,e1,_⟩:=cH (rnd:=VM) box.length (λi (_:Unit)=>⟨s,fH (box.take i),box,(zR box:Int),(i:Int)⟩) (λi _=>True) (λi b hi _=>by
  obtain⟨i1,i2,hw⟩:=w3 hi hl;obtain⟨t1,t2⟩:=AF h (i+1);obtain⟨u1,u2⟩:=AF h i;have hz:=Az (h _ (bq hi));have e:fH (box.take (i+1))=fH (box.take i)*b7 box[i]! :=by
   rw[bC hi,uV,fH,fH,Int.mul_one]
  have et:=M7 (a:=fH (box.take i)) aq aq hz.1 hz.2;rw[show min (fH (box.take i)*b7 box[i]!) 1099511627776=fH (box.take i)*b7 box[i]! by rw[<-e];omega]at et;refine⟨(),?_,trivial⟩;rw[e];unfold VM;simp only[cV,i1,i2,cI,dM,qe (.inr (h _ (bq hi))),et,hw]) (λb _=>by unfold VM;simp) (b:=()) trivial
 rw[zG]at e1;exact e1
def ajz(r:bL)(zc:Int):Int:=(tK r zc (zR r.aF+1)).1
def aBM{f:aU}{v:bW}{box:aa aL}{r:bL}(e:m20 f v box=V (r,0))(h:ZI r)(hb:∀x∈box,NN x)(hl:zR box<=1000000)(hv:fH box<=1048576):RI f v box=V (ajz r (fH box),0):=by
 have hs:=h.sl;have hp:=lV hb;have wl:ak ((zR r.aF:Int)+1)=((zR r.aF+1:Nat):Int):=by rw[aM];omega
 unfold RI;rw[e];simp only[cT,Cv,qe (.inr h.time),wl];rw[ahn h box];dsimp only;rw[fK,cw,alG hb hl hv];dsimp only;rw[fK,cw];unfold ajz;rw[(Wu h hp aq _).1,tY]
def ajQ{r:bL}(h:ZI r){zc:Int}(hV:1<=zc)(hV2:zc<=1048576):WJ ⟨zc,0,min (b7 r.aI) zc,0,r⟩=V ⟨zc,(tK r zc (zR r.aF+1)).1,(tK r zc (zR r.aF+1)).2,((zR r.aF+1:Nat):Int),r⟩:=by
 have hs:=h.sl;obtain⟨_,e1,_⟩:=cH (rnd:=Xb) (zR r.aF+1) (λi (_:Unit)=>⟨zc,(tK r zc i).1,(tK r zc i).2,(i:Int),r⟩) (λi _=>True) (λi _ hi _=>by
  have hw:ak ((i:Int)+1)=((i+1:Nat):Int):=by rw[aM];omega
  have i1:(i:Int)<=(zR r.aF:Int):=aq;have i2:(0:Int)<=(i:Int):=aq;obtain⟨b1,b2,b3,b4⟩:=aey h hV i;have ws:ak ((tK r zc i).1+(tK r zc i).2)=(tK r zc i).1+(tK r zc i).2:=aM;refine⟨(),?_,trivial⟩;unfold Xb;simp only[tK];by_cases c:i<zR r.aF
  ·have c1:(i:Int)<(zR r.aF:Int):=aq;have hz:=Az (h.slots i c);have p1:(tK r zc i).2*min (b7 r.aF[i]!) zc<=zc*zc:=y4 b4 aq aq aq;have p2:zc*zc<=1048576*1048576:=y4 hV2 hV2 aq aq;have p3:0<=(tK r zc i).2*min (b7 r.aF[i]!) zc:=zI aq aq;have wp:ak ((tK r zc i).2*min (b7 r.aF[i]!) zc)=(tK r zc i).2*min (b7 r.aF[i]!) zc:=aM;have em:=aaW hz.1 b3 hV;cases hc:cR r.aD (i:Nat)with
   |true=>simp only[cV,i1,i2,c,c1,cI,dM,jW (.inr h.count),hc,eE (.inr (h.slots i c)),ws,tY,wp,em,hw]
   |false=>simp only[cV,cT,gz,i1,i2,c,c1,jW (.inr h.count),hc,eE (.inr (h.slots i c)),tY,wp,em,hw,yu]
  ·have c1:¬(i:Int)<(zR r.aF:Int):=aq;cases hc:cR r.aD (i:Nat)with
   |true=>simp only[cV,cT,gz,i1,c,c1,jW (.inr h.count),hc,ws,tY,hw]
   |false=>simp only[cV,cT,i1,c,c1,GL,jW (.inr h.count),hc,hw,yu]) (λb _=>by
    unfold Xb;dsimp only;rw[fK];rfl) (b:=()) trivial
 exact e1
def ayX{f:aU}{v:bW}{box:aa aL}{r:bL}(e:m23 f v box=V r)(h:ZI r)(hb:∀x∈box,NN x)(hl:zR box<=1000000)(hv:fH box<=1048576):m38 f v box=V (ajz r (fH box)):=by
 have hp:=lV hb;unfold m38;rw[e];dsimp only;rw[ahV hb hl hv];rw[eE (.inr h.time)];dsimp only;rw[bO (show ¬1099511627776<fH box by omega),tY,ajQ h hp hv];dsimp only;rw[fK,cw];rfl
structure CI (s:ay):Prop where
 lo:0<=s.aD.ah
 hi:s.aD.ag=zR s.aF
def sg1(a:aL):Prop:=a.ah=a.ag
structure SG (s:ay):Prop where
 vars:∀i,i<zR s.ai->sg1 s.ai[i]!
 count:sg1 s.aD
 slots:∀i,i<zR s.aF->sg1 s.aF[i]!
 time:sg1 s.aI
def aef(l:aa Int)(hl:zR l<=1000):m98 l l=V O:=by
 obtain⟨b,e1,hI⟩:=cH (rnd:=Xi) l.length (λi (_:Unit)=>⟨l,l,(i:Int)⟩) (λi b=>True) (λi b hi hb=>by
  obtain⟨i1,i2,hw⟩:=w3 hi aq;refine⟨(),?_,trivial⟩;unfold Xi;simp only[cV,cT,i1,i2,dM,hw]) (λb _=>by unfold Xi;simp) (b:=()) trivial
 have e1':UG ⟨l,l,0⟩=V ⟨l,l,(zR l:Int)⟩:=e1;unfold m98;simp only[cV,cT,e1',yl]
def ZY(o:aC)(h:zR o.aK<=1000):m31 o o=V O:=by
 unfold m31;simp only[Cv,cI,aef _ h]
def auA{f:aU}{v:bW}{box:aa aL}(h:Fits f v box):eR f.ai.length 8 (GS f v box):=by
 have hf:=Mi h.c;have h0:=sH h;have ho:eN f.bM<=8:=by have:=hf.o;unfold eN;omega
 exact(iw (hv:=pP f (fh f v box)) (by simp[pP]) (Dh hf h0) _ f.bM O (zC _) hf.steps _ _ h0).weak aq
def DE{f:aU}{v:bW}{box:aa aL}(h:Fits f v box):ZI (fC f v box):=by
 have k:=auA h;refine⟨k.count,?_,k.sl,k.slots⟩;show NN (if v.fZ=O then(GS f v box).aI else eC 0);split
 ·exact k.time
 ·exact mD ⟨by decide,by decide⟩
def arT:bu:=di
def amR:bz vn arT:=aP
abbrev auW:=Bool
def d326:Td 0 auW:= .c [] [2] (.r 0 0 (ec 2 qb en) sn (λz=>z.1.1) (λx=>((x,()),(()))))
def aye:=(aS ln)
def an1:An:= .no
def axL:eX vn (arT) 0 300 326 (an1):=b6 (l:=[]) func326 (bN aV) aV aH
def GV(a0:Int):auW:=
 bif J (a0=a0)then G else O
def aHj(a0:Int):bU vn (arT) 300 (an1) 326 (aye.c (a0,())) [] 0 d326.rd=V (GV a0):=by
 refine Eq.trans (b:=(
  V (bif J (a0=a0)then G else O):af auW)) aV ?_
 simp only[GV,cu,cO]
def aCm:=eL vn 326 G aye d326 (λg=>V (GV g.1))
def ahx{F:bu}(h:bz vn F):bz vn (aCm F):=ep (sc:=pF) dh (dR amR axL (λ_=>aV) (λ_=>aV) λg=>aHj g.1) ⟨_,func326,aV,aV⟩ (λ_=>aV) (λ_=>aV) h
def atK:bu:=(aCm di)
def agG:bz vn atK:=(ahx aP)
abbrev avy:=Int
def d288:Td 0 avy:= .c [] [4] (.r 0 0 (ec 4 aN en) sn (λz=>z.1.1) (λx=>((x,()),(()))))
def aB9:=(aS (aS ln))
def apF:An:= .no
def aAG:eX vn (atK) 0 300 288 (apF):=b6 (l:=[]) func288 (bN aV) aV aH
def G6(a0:Int)(a1:Int):avy:=
 bif GV a0 then bif GV a1 then 0 else-1 else bif GV a1 then 1 else bif J (a0<a1)then-1 else bif J (a1<a0)then 1 else 0
def aH7(a0:Int)(a1:Int):bU vn (atK) 300 (apF) 288 (aB9.c (a0,a1,())) [] 0 d288.rd=V (G6 a0 a1):=by
 refine Eq.trans (b:=(
  bif GV a0 then bif GV a1 then V (0)else V (-1)else bif GV a1 then V (1)else bif J (a0<a1)then V (-1)else bif J (a1<a0)then V (1)else V (0):af avy)) aV ?_
 simp only[G6,cu,cO]
def aAT:=eL vn 288 G aB9 d288 (λg=>V (G6 g.1 g.2.1))
def ah8{F:bu}(h:bz vn F):bz vn (aAT F):=ep (sc:=pF) dh (dR agG aAG (λ_=>aV) (λ_=>aV) λg=>aH7 g.1 g.2.1) ⟨_,func288,aV,aV⟩ (λ_=>aV) (λ_=>aV) h
def ah9:bu:=(aAT di)
def amg:bz vn ah9:=(ah8 aP)
structure tJ where
 (t0 t1 t9:List Int)
 (t10 t11:Int)
def GG:Td 0 tJ:= .c [] [0,1,9,10,11] (.r 0 0 (ec 0 (ql 3) (ec 1 (ql 3) (ec 9 (ql 3) (ec 10 aN (ec 11 aN en))))) sn (λz=>⟨z.1.1,z.1.2.1,z.1.t.1,z.1.t.2.1,z.1.q.1⟩) (λx=>((x.t0,x.t1,x.t9,x.t10,x.t11,()),(()))))
def uC(p:tJ):af (af tJ):=
 bif J (p.t11<p.t10)then if 0<=p.t11/\p.t11<zR p.t9 then bif J (zR p.t1<=p.t11)then V (I)else if 0<=p.t11/\p.t11<zR p.t1 then bif bif J (G6 p.t9[zD p.t11]! p.t1[zD p.t11]! =0)then G else O then V (I)else V (V (tJ.mk p.t0 p.t1 p.t9 p.t10 (ak (p.t11+1))))else I else I else V (I)
def avi(p:tJ):jH vn (ah9) f251.ntmps 300 (aY f251 0) .no (af tJ) (GG.pat p) (kOn GG.rd)=uC p:=aV
def JN:=bJ (uC)
abbrev aCL:=Int
def d251:Td 0 aCL:= .c [] [4] (.r 0 0 (ec 4 aN en) sn (λz=>z.1.1) (λx=>((x,()),(()))))
def azO:=(lc (ql 3) (lc (ql 3) ln))
def anM:An:=(noTwo (.two (noTwo (GG.lp JN .no)) .no))
def aAJ:eX vn (ah9) 0 300 251 (anM):=b6 (l:=[(aY f251 0,(GG.lp JN .no))]) func251 (bN aV) aV (aA ⟨GG.ok _,ou (avi)⟩ aH)
def ac9(a0:aa Int)(a1:aa Int):af aCL:=
 match JN (tJ.mk a0 a1 a0 a0.length 0)with|I=>I|V r1=>bif J (r1.t11<r1.t10)then if 0<=r1.t11/\r1.t11<zR r1.t9 then bif J (zR r1.t1<=r1.t11)then V 1 else if 0<=r1.t11/\r1.t11<zR r1.t1 then bif bif J (G6 r1.t9[zD r1.t11]! r1.t1[zD r1.t11]! =0)then G else O then V (G6 r1.t9[zD r1.t11]! r1.t1[zD r1.t11]!)else I else I else I else bif J ((zR r1.t0:Int)<(zR r1.t1:Int))then V (-1)else V 0
def aEA(a0:aa Int)(a1:aa Int):bU vn (ah9) 300 (anM) 251 (azO.c (a0,a1,())) [] 0 d251.rd=ac9 a0 a1:=aV
def awB:=eL vn 251 G azO d251 (λg=>ac9 g.1 g.2.1)
def agp{F:bu}(h:bz vn F):bz vn (awB F):=ep (sc:=pF) dh (dR amg aAJ (λ_=>aV) (λ_=>aV) λg=>aEA g.1 g.2.1) ⟨_,func251,aV,aV⟩ (λ_=>aV) (λ_=>aV) h
def auL:bu:=(awB di)
def aml:bz vn auL:=(agp aP)
abbrev az2:=Int
def d188:Td 0 az2:= .c [] [4] (.r 0 0 (ec 4 aN en) sn (λz=>z.1.1) (λx=>((x,()),(()))))
def azf:=(lc (qg 47) (lc (qg 47) ln))
def aoe:An:= .no
def aDs:eX vn (auL) 0 300 188 (aoe):=b6 (l:=[]) func188 (bN aV) aV aH
def KA(a0:aC)(a1:aC):af az2:=
 match ac9 a0.aK a1.aK with|I=>I|V r1=>bif bif J (r1=0)then G else O then V (r1)else bif J (a0.aI<a1.aI)then V (-1)else bif J (a1.aI<a0.aI)then V (1)else V (0)
def aES(a0:aC)(a1:aC):bU vn (auL) 300 (aoe) 188 (azf.c (a0,a1,())) [] 0 d188.rd=KA a0 a1:=aV
def Ma:=eL vn 188 G azf d188 (λg=>KA g.1 g.2.1)
def sK{F:bu}(h:bz vn F):bz vn (Ma F):=ep (sc:=pF) dh (dR aml aDs (λ_=>aV) (λ_=>aV) λg=>aES g.1 g.2.1) ⟨_,func188,aV,aV⟩ (λ_=>aV) (λ_=>aV) h
def arQ:bu:=(axq di)
def aij:bz vn arQ:=(akr aP)
abbrev asd:=Int
def d196:Td 0 asd:= .c [] [4] (.r 0 0 (ec 4 aN en) sn (λz=>z.1.1) (λx=>((x,()),(()))))
def azC:=(aS (aS ln))
def an7:An:= .no
def aBs:eX vn (arQ) 0 300 196 (an7):=b6 (l:=[]) func196 (bN aV) aV aH
def M1(a0:Int)(a1:Int):asd:=
 bif J (a0<a1)then-1 else X6 (J (a1<a0))
def aEK(a0:Int)(a1:Int):bU vn (arQ) 300 (an7) 196 (azC.c (a0,a1,())) [] 0 d196.rd=V (M1 a0 a1):=by
 refine Eq.trans (b:=(
  bif J (a0<a1)then V (-1)else V (X6 (J (a1<a0))):af asd)) aV ?_
 simp only[M1,cu,cO]
def awK:=eL vn 196 G azC d196 (λg=>V (M1 g.1 g.2.1))
def agN{F:bu}(h:bz vn F):bz vn (awK F):=ep (sc:=pF) dh (dR aij aBs (λ_=>aV) (λ_=>aV) λg=>aEK g.1 g.2.1) ⟨_,func196,aV,aV⟩ (λ_=>aV) (λ_=>aV) h
def adG:bu:=(awK di)
def agm:bz vn adG:=(agN aP)
structure uk where
 t5:Int
 (b0 b1:aC)
def EE:Td 0 uk:= .c [] [2,3,5] (.r 0 2 (ec 2 (qp 0 0) (ec 3 (qp 1 0) (ec 5 aN en))) (sb 0 47 (lg 47) (sb 1 47 (lg 47) sn)) (λz=>⟨z.1.t.1,z.2.1,z.t.1⟩) (λx=>(((),(),x.t5,()),(x.b0,x.b1,()))))
def Bd(p:uk):af (af uk):=
 match bif J (p.t5<zR p.b0.aK)then V (J (p.t5<zR p.b1.aK))else V G with|I=>I|V r1=>bif r1 then if 0<=p.t5/\p.t5<zR p.b0.aK then if 0<=p.t5/\p.t5<zR p.b1.aK then bif bif J ((((),(),p.t5,()),p.b0,p.b1,()).snd.fst.aK[(((),(),p.t5,()),p.b0,p.b1,()).fst.snd.snd.fst.toNat]! =(((),(),p.t5,()),p.b0,p.b1,()).snd.snd.fst.aK[(((),(),p.t5,()),p.b0,p.b1,()).fst.snd.snd.fst.toNat]!)then G else O then if 0<=p.t5/\p.t5<zR p.b0.aK then if 0<=p.t5/\p.t5<zR p.b1.aK then V (I)else I else I else V (V (uk.mk (ak (p.t5+1)) p.b0 p.b1))else I else I else V (I)
def SP:An:=(.two (.two (.rb [] 17) .no) .no)
def atE(p:uk):jH vn (adG) f124.ntmps 300 (aY f124 0) SP (af uk) (EE.pat p) (kOn EE.rd)=Bd p:=aV
def LD:=bJ (Bd)
abbrev awE:=Int
def d124:Td 0 awE:= .c [] [4] (.r 0 0 (ec 4 aN en) sn (λz=>z.1.1) (λx=>((x,()),(()))))
def aAk:=(lc (qg 47) (lc (qg 47) ln))
def aoK:An:=(noTwo (.two (noTwo (EE.lp LD SP)) .no))
def aDe:∀f∈([]:aa Nat),bA (adG) f:=aH
def axI:eX vn (adG) 0 300 124 (aoK):=b6 (l:=[(aY f124 0,(EE.lp LD SP)),(.skip,(.rb [] 17))]) func124 (bN aV) aV (aA ⟨EE.ok _,ou (atE)⟩ (aA aDe aH))
def Ym(a0:aC)(a1:aC):af awE:=
 match LD (uk.mk 0 a0 a1)with|I=>I|V r2=>match bif J (r2.t5<zR r2.b0.aK)then V (J (r2.t5<zR r2.b1.aK))else V G with|I=>I|V r3=>bif r3 then if 0<=r2.t5/\r2.t5<zR r2.b0.aK then if 0<=r2.t5/\r2.t5<zR r2.b1.aK then bif bif J ((((),(),r2.t5,()),r2.b0,r2.b1,()).snd.fst.aK[(((),(),r2.t5,()),r2.b0,r2.b1,()).fst.snd.snd.fst.toNat]! =(((),(),r2.t5,()),r2.b0,r2.b1,()).snd.snd.fst.aK[(((),(),r2.t5,()),r2.b0,r2.b1,()).fst.snd.snd.fst.toNat]!)then G else O then if 0<=r2.t5/\r2.t5<zR r2.b0.aK then if 0<=r2.t5/\r2.t5<zR r2.b1.aK then V (M1 r2.b0.aK[zD r2.t5]! r2.b1.aK[zD r2.t5]!)else I else I else I else I else I else bif bif J ((zR r2.b0.aK:Int)=(zR r2.b1.aK:Int))then G else O then V (M1 r2.b0.aK.length (zR r2.b1.aK:Int))else V (M1 r2.b0.aI r2.b1.aI)
def aGT(a0:aC)(a1:aC):bU vn (adG) 300 (aoK) 124 (aAk.c (a0,a1,())) [] 0 d124.rd=Ym a0 a1:=aV
def aHP:=eL vn 124 G aAk d124 (λg=>Ym g.1 g.2.1)
def VE{F:bu}(h:bz vn F):bz vn (aHP F):=ep (sc:=pF) dh (dR agm axI (λ_=>aV) (λ_=>aV) λg=>aGT g.1 g.2.1) ⟨_,func124,aV,aV⟩ (λ_=>aV) (λ_=>aV) h
def akb:bu:=(Ra (ZE di))
def aio:bz vn akb:=(rU (Ac aP))
abbrev axm:=aL×Int
def d214:Td 0 axm:= .c [] [6,7] (.r 0 1 (ec 6 (qp 0 0) (ec 7 aN en)) (sb 0 34 (lg 34) sn) (λz=>(z.2.1,z.1.2.1)) (λx=>(((),x.2,()),(x.1,()))))
def aCQ:=(aS (aS (aS ln)))
def an4:An:=(noTwo (.two (.two (.rb [145] 19) .no) .no))
def aCU:∀f∈([145]:aa Nat),bA (akb) f:=(aA (jQ (jR bF)) aH)
def azo:eX vn (akb) 0 300 214 (an4):=b6 (l:=[(.skip,(.rb [145] 19))]) func214 (bN aV) aV (aA aCU aH)
def aid(a0:Int)(a1:Int)(a2:Int):af axm:=
 match bif bif jh a0 then G else O then V (O)else bif bif jh a1 then G else O then V (O)else V (J (a2<1))with|I=>I|V r1=>bif r1 then V ((aL.mk (0) (0) (0),3))else match nK a0 a1 a2 with|I=>I|V r2=>V ((r2,0))
def aH5(a0:Int)(a1:Int)(a2:Int):bU vn (akb) 300 (an4) 214 (aCQ.c (a0,a1,a2,())) [] 0 d214.rd=aid a0 a1 a2:=aV
def ax5:=eL vn 214 G aCQ d214 (λg=>aid g.1 g.2.1 g.t.1)
def alO{F:bu}(h:bz vn F):bz vn (ax5 F):=ep (sc:=pF) dh (dR aio azo (λ_=>aV) (λ_=>aV) λg=>aH5 g.1 g.2.1 g.t.1) ⟨_,func214,aV,aV⟩ (λ_=>aV) (λ_=>aV) h
def aqH:bu:=(ax5 di)
def agM:bz vn aqH:=(alO aP)
abbrev aB1:=aL×Int
def d137:Td 0 aB1:= .c [] [4,5] (.r 0 1 (ec 4 (qp 0 0) (ec 5 aN en)) (sb 0 34 (lg 34) sn) (λz=>(z.2.1,z.1.2.1)) (λx=>(((),x.2,()),(x.1,()))))
def ayl:=(aS (aS ln))
def an6:An:= .no
def aBa:eX vn (aqH) 0 300 137 (an6):=b6 (l:=[]) func137 (bN aV) aV aH
def TE(a0:Int)(a1:Int):af aB1:=
 match aid a0 a1 (1)with|I=>I|V r1=>V (r1)
def aGr(a0:Int)(a1:Int):bU vn (aqH) 300 (an6) 137 (ayl.c (a0,a1,())) [] 0 d137.rd=TE a0 a1:=aV
def ayG:=eL vn 137 G ayl d137 (λg=>TE g.1 g.2.1)
def amA{F:bu}(h:bz vn F):bz vn (ayG F):=ep (sc:=pF) dh (dR agM aBa (λ_=>aV) (λ_=>aV) λg=>aGr g.1 g.2.1) ⟨_,func137,aV,aV⟩ (λ_=>aV) (λ_=>aV) h
def F76:bu:=(ayG (amW di))
def ava:bz vn F76:=(amA (Wf aP))
structure vC where
 t5:List aL
 t7:Int
 t17:List Int
 (t18 t19:Int)
 t24:List bf
 (t25 t26:Int)
 b0:aU
def Oj:Td 0 vC:= .c [] [1,5,7,17,18,19,24,25,26] (.r 0 3 (ec 1 (qp 0 0) (ec 5 (qo 1) (ec 7 aN (ec 17 (qo 2) (ec 18 aN (ec 19 aN (ec 24 (ql 131) (ec 25 aN (ec 26 aN en))))))))) (sb 0 26 (lg 26) (sr 1 34 (sr 2 129 sn))) (λz=>⟨z.t.1,z.1.t.1,z.t.2.1,z.1.q.1,z.1.q.2.1,z.1.q.t.1,z.1.q.t.2.1,z.1.q.q.1,z.2.1⟩) (λx=>(((),(),x.t7,(),x.t18,x.t19,x.t24,x.t25,x.t26,()),(x.b0,x.t5,x.t17,()))))
def Hu(p:vC):af (af vC):=
 bif J (p.t26<p.t25)then if 0<=p.t26/\p.t26<zR p.t24 then bif J (p.t24[zD p.t26]!.bB=p.t7)then match TE p.t24[zD p.t26]!.ah p.t24[zD p.t26]!.ag with|I=>I|V r3=>if(p.t5++[r3.fst]).length<=1073741824 then V (V (vC.mk (p.t5++[r3.fst]) p.t7 p.t17 p.t18 p.t19 p.t24 p.t25 (ak (p.t26+1)) p.b0))else I else V (V (vC.mk p.t5 p.t7 p.t17 p.t18 p.t19 p.t24 p.t25 (ak (p.t26+1)) p.b0))else I else V (I)
def azx(p:vC):jH vn (F76) f76.ntmps 300 (aY f76 1) .no (af vC) (Oj.pat p) (kOn Oj.rd)=Hu p:=aV
def N5:=bJ (Hu)
structure Fy where
 t5:List aL
 t17:List Int
 (t18 t19:Int)
 b0:aU
def Mv:Td 0 Fy:= .c [] [1,5,17,18,19] (.t (bX.s 5 [] 34) (.c [] [1,5,17,18,19] (.r 0 3 (ec 1 (qp 0 0) (ec 5 (qo 1) (ec 17 (qo 2) (ec 18 aN (ec 19 aN en))))) (sb 0 26 (lg 26) (sr 1 34 (sr 2 129 sn))) (λz=>⟨z.t.1,z.t.2.1,z.1.t.2.1,z.1.q.1,z.2.1⟩) (λx=>(((),(),(),x.t18,x.t19,()),(x.b0,x.t5,x.t17,()))))))
def Fx(p:Fy):af (af Fy):=
 bif J (p.t19<p.t18)then if 0<=p.t19/\p.t19<zR p.t17 then if 129=129/\zD p.t19<zR p.t17 then match N5 (vC.mk p.t5 p.t17[zD p.t19]! p.t17 p.t18 p.t19 p.b0.ai p.b0.ai.length 0 p.b0)with|I=>I|V r1=>bif J (r1.t26<r1.t25)then if 0<=r1.t26/\r1.t26<zR r1.t24 then bif J (r1.t24[zD r1.t26]!.bB=r1.t7)then match TE r1.t24[zD r1.t26]!.ah r1.t24[zD r1.t26]!.ag with|I=>I|V r2=>if(r1.t5++[r2.fst]).length<=1073741824 then I else I else I else I else V (V (Fy.mk r1.t5 r1.t17 r1.t18 (ak (r1.t19+1)) r1.b0))else I else I else V (I)
def ady:An:=(noTwo (noTwo (.two (noTwo (noTwo (Oj.lp N5 .no))) .no)))
def axv(p:Fy):jH vn (F76) f76.ntmps 300 (aY f76 0) ady (af Fy) (Mv.pat p) (kOn Mv.rd)=Fx p:=aV
def Pr:=bJ (Fx)
abbrev E76:=(aa aL)×Int
def d76:Td 0 E76:= .c [] [2,3] (.t (bX.s 2 [] 34) (.c [] [2,3] (.r 0 1 (ec 2 (qo 0) (ec 3 aN en)) (sr 0 34 sn) (λz=>(z.2.1,z.1.2.1)) (λx=>(((),x.2,()),(x.1,()))))))
def A76:=(lc (qg 26) ln)
def aBd:An:=(noTwo (noTwo (noTwo (.two (noTwo (Mv.lp Pr ady)) .no))))
def aFl:eX vn (F76) 0 300 76 (aBd):=b6 (l:=[(aY f76 0,(Mv.lp Pr ady)),(aY f76 1,(Oj.lp N5 .no))]) func76 (bN aV) aV (aA ⟨Mv.ok _,ou (axv)⟩ (aA ⟨Oj.ok _,ou (azx)⟩ aH))
def m76(a0:aU):af E76:=
 match acE a0 with|I=>I|V r4=>bif bif J (r4=0)then G else O then V ([],r4)else match Pr (Fy.mk [] [1,3] (2:Int) 0 a0)with|I=>I|V r5=>bif J (r5.t19<r5.t18)then if 0<=r5.t19/\r5.t19<zR r5.t17 then if 129=129/\zD r5.t19<zR r5.t17 then match N5 (vC.mk r5.t5 r5.t17[zD r5.t19]! r5.t17 r5.t18 r5.t19 r5.b0.ai r5.b0.ai.length 0 r5.b0)with|I=>I|V r6=>bif J (r6.t26<r6.t25)then if 0<=r6.t26/\r6.t26<zR r6.t24 then bif J (r6.t24[zD r6.t26]!.bB=r6.t7)then match TE r6.t24[zD r6.t26]!.ah r6.t24[zD r6.t26]!.ag with|I=>I|V r7=>if(r6.t5++[r7.fst]).length<=1073741824 then I else I else I else I else I else I else I else V (r5.t5,0)
def c76(a0:aU):bU vn (F76) 300 (aBd) 76 (A76.c (a0,())) [] 0 d76.rd=m76 a0:=aV
def e76:=eL vn 76 G A76 d76 (λg=>m76 g.1)
def acF{F:bu}(h:bz vn F):bz vn (e76 F):=ep (sc:=pF) dh (dR ava aFl (λ_=>aV) (λ_=>aV) λg=>c76 g.1) ⟨_,func76,aV,aV⟩ (λ_=>aV) (λ_=>aV) h
def F39:bu:=(Zq di)
def at3:bz vn F39:=(DC aP)
structure Ae where
 t3:List aL
 t5:Int
 t10:List Int
 (t11 t12:Int)
 t17:List bf
 (t18 t19:Int)
 b0:aU
def NG:Td 0 Ae:= .c [] [1,3,5,10,11,12,17,18,19] (.r 0 3 (ec 1 (qp 0 0) (ec 3 (qo 1) (ec 5 aN (ec 10 (qo 2) (ec 11 aN (ec 12 aN (ec 17 (ql 131) (ec 18 aN (ec 19 aN en))))))))) (sb 0 26 (lg 26) (sr 1 34 (sr 2 129 sn))) (λz=>⟨z.t.1,z.1.t.1,z.t.2.1,z.1.q.1,z.1.q.2.1,z.1.q.t.1,z.1.q.t.2.1,z.1.q.q.1,z.2.1⟩) (λx=>(((),(),x.t5,(),x.t11,x.t12,x.t17,x.t18,x.t19,()),(x.b0,x.t3,x.t10,()))))
def HX(p:Ae):af (af Ae):=
 bif J (p.t19<p.t18)then if 0<=p.t19/\p.t19<zR p.t17 then bif J (p.t17[zD p.t19]!.bB=p.t5)then match jB p.t17[zD p.t19]!.ah p.t17[zD p.t19]!.ag 1with|I=>I|V r3=>if(p.t3++[r3.fst]).length<=1073741824 then V (V (Ae.mk (p.t3++[r3.fst]) p.t5 p.t10 p.t11 p.t12 p.t17 p.t18 (ak (p.t19+1)) p.b0))else I else V (V (Ae.mk p.t3 p.t5 p.t10 p.t11 p.t12 p.t17 p.t18 (ak (p.t19+1)) p.b0))else I else V (I)
def aCR(p:Ae):jH vn (F39) f39.ntmps 300 (aY f39 1) .no (af Ae) (NG.pat p) (kOn NG.rd)=HX p:=aV
def OX:=bJ (HX)
structure Fs where
 t3:List aL
 t10:List Int
 (t11 t12:Int)
 b0:aU
def O9:Td 0 Fs:= .c [] [1,3,10,11,12] (.t (bX.s 3 [] 34) (.c [] [1,3,10,11,12] (.r 0 3 (ec 1 (qp 0 0) (ec 3 (qo 1) (ec 10 (qo 2) (ec 11 aN (ec 12 aN en))))) (sb 0 26 (lg 26) (sr 1 34 (sr 2 129 sn))) (λz=>⟨z.t.1,z.t.2.1,z.1.t.2.1,z.1.q.1,z.2.1⟩) (λx=>(((),(),(),x.t11,x.t12,()),(x.b0,x.t3,x.t10,()))))))
def EH(p:Fs):af (af Fs):=
 bif J (p.t12<p.t11)then if 0<=p.t12/\p.t12<zR p.t10 then if 129=129/\zD p.t12<zR p.t10 then match OX (Ae.mk p.t3 p.t10[zD p.t12]! p.t10 p.t11 p.t12 p.b0.ai p.b0.ai.length 0 p.b0)with|I=>I|V r1=>bif J (r1.t19<r1.t18)then if 0<=r1.t19/\r1.t19<zR r1.t17 then bif J (r1.t17[zD r1.t19]!.bB=r1.t5)then match jB r1.t17[zD r1.t19]!.ah r1.t17[zD r1.t19]!.ag 1with|I=>I|V r2=>if(r1.t3++[r2.fst]).length<=1073741824 then I else I else I else I else V (V (Fs.mk r1.t3 r1.t10 r1.t11 (ak (r1.t12+1)) r1.b0))else I else I else V (I)
def aeU:An:=(noTwo (noTwo (.two (noTwo (noTwo (NG.lp OX .no))) .no)))
def aw9(p:Fs):jH vn (F39) f39.ntmps 300 (aY f39 0) aeU (af Fs) (O9.pat p) (kOn O9.rd)=EH p:=aV
def MB:=bJ (EH)
abbrev E39:=aa aL
def d39:Td 0 E39:= .c [] [2] (.r 0 1 (ec 2 (qo 0) en) (sr 0 34 sn) (λz=>z.2.1) (λx=>(((),()),(x,()))))
def A39:=(lc (qg 26) ln)
def aAs:An:=(noTwo (noTwo (.two (noTwo (O9.lp MB aeU)) .no)))
def aFU:eX vn (F39) 0 300 39 (aAs):=b6 (l:=[(aY f39 0,(O9.lp MB aeU)),(aY f39 1,(NG.lp OX .no))]) func39 (bN aV) aV (aA ⟨O9.ok _,ou (aw9)⟩ (aA ⟨NG.ok _,ou (aCR)⟩ aH))
def m39(a0:aU):af E39:=
 match MB (Fs.mk [] [1,3] (2:Int) 0 a0)with|I=>I|V r4=>bif J (r4.t12<r4.t11)then if 0<=r4.t12/\r4.t12<zR r4.t10 then if 129=129/\zD r4.t12<zR r4.t10 then match OX (Ae.mk r4.t3 r4.t10[zD r4.t12]! r4.t10 r4.t11 r4.t12 r4.b0.ai r4.b0.ai.length 0 r4.b0)with|I=>I|V r5=>bif J (r5.t19<r5.t18)then if 0<=r5.t19/\r5.t19<zR r5.t17 then bif J (r5.t17[zD r5.t19]!.bB=r5.t5)then match jB r5.t17[zD r5.t19]!.ah r5.t17[zD r5.t19]!.ag 1with|I=>I|V r6=>if(r5.t3++[r6.fst]).length<=1073741824 then I else I else I else I else I else I else I else V (r4.t3)
def c39(a0:aU):bU vn (F39) 300 (aAs) 39 (A39.c (a0,())) [] 0 d39.rd=m39 a0:=aV
def e39:=eL vn 39 G A39 d39 (λg=>m39 g.1)
def arL{F:bu}(h:bz vn F):bz vn (e39 F):=ep (sc:=pF) dh (dR at3 aFU (λ_=>aV) (λ_=>aV) λg=>c39 g.1) ⟨_,func39,aV,aV⟩ (λ_=>aV) (λ_=>aV) h
def CN(v:bf):aL:=if v.ah=v.ag then⟨v.ah,v.ah,0⟩else⟨v.ah,v.ag,1⟩
def acC{a b:Int}(h: -1048576<=a/\a<=b/\b<=1048576):ak (a+ak (ak ((ak (b-a)).tdiv 1)*1))=b:=by
 have w1:ak (b-a)=b-a:=aM;rw[w1,Int.tdiv_one,w1,Int.mul_one,w1,aM];omega
def amU{v:bf}(h: -1048576<=v.ah/\v.ah<=v.ag/\v.ag<=1048576):TE v.ah v.ag=V (CN v,0):=by
 unfold TE aid nK jh iz CN;rw[acC h];have d1:J (-1099511627776<=v.ah)=O:=oo;have d2:J (v.ah<=1099511627776)=O:=oo;have d3:J (-1099511627776<=v.ag)=O:=oo;have d4:J (v.ag<=1099511627776)=O:=oo;have d5:J (v.ag<v.ah)=G:=fK;by_cases he:v.ah=v.ag
 ·simp[d1,d2,d3,d4,d5,he]
 ·simp[d1,d2,d3,d4,d5,he]
def avk{v:bf}(h: -1048576<=v.ah/\v.ah<=v.ag/\v.ag<=1048576):jB v.ah v.ag 1=V (CN v,0):=by
 unfold jB oC CN;rw[acC h];have d1:J (-1099511627776<=v.ah)=O:=oo;have d2:J (v.ah<=1099511627776)=O:=oo;have d3:J (-1099511627776<=v.ag)=O:=oo;have d4:J (v.ag<=1099511627776)=O:=oo;have d5:J (v.ag<v.ah)=G:=fK;by_cases he:v.ah=v.ag
 ·simp[d1,d2,d3,d4,d5,he]
 ·simp[d1,d2,d3,d4,d5,he]
def kM(kind:Int)(l:aa bf):aa aL:=(l.filter λv=>J (v.bB=kind)).map CN
def HQ(kind:Int)(l:aa bf)(v:bf):kM kind (l++[v])=if v.bB=kind then kM kind l++[CN v]else kM kind l:=by
 unfold kM;rw[xk,zK];by_cases h:v.bB=kind<;>simp[h]
def uY(kind:Int)(l:aa bf):zR (kM kind l)<=zR l:=by
 unfold kM;rw[zn];exact yt _ _
def PB(f:aU)(hv:de f.ai)(hl:zR f.ai<=1000000)(acc:aa aL)(ha:zR acc<=1000000)(kind:Int)(ks:aa Int)(n i:Int):N5 ⟨acc,kind,ks,n,i,f.ai,(zR f.ai:Int),0,f⟩=V ⟨acc++kM kind f.ai,kind,ks,n,i,f.ai,(zR f.ai:Int),(zR f.ai:Int),f⟩:=by
 obtain⟨v,e1,hV⟩:=cH (rnd:=Hu) f.ai.length (λj (b:aa aL)=>⟨b,kind,ks,n,i,f.ai,(zR f.ai:Int),(j:Int),f⟩) (λj b=>b=acc++kM kind (f.ai.take j)) (λj b hj hb=>by
  have hw:=jJ hj hl;have hm:=amU (hv _ (bq hj));have hlen:=uY kind (f.ai.take j);rw[zA]at hlen;have hi1:(j:Int)<(zR f.ai:Int):=aq;have hi0:(0:Int)<=(j:Int):=aq;rw[bC hj,HQ];by_cases hk:f.ai[j]!.bB=kind
  ·refine⟨acc++(kM kind (f.ai.take j)++[CN f.ai[j]!]),?_,by rw[bI hk]⟩;subst hb;have hl2:zR ((acc++kM kind (f.ai.take j))++[CN f.ai[j]!])<=1073741824:=by
    rw[zg,zg,yg];omega
   unfold Hu;dsimp only;simp only[cV,hi1,hi0,cI,dM,hk,hm,hl2,hw];rw[yS]
  ·refine⟨b,?_,by rw[bO hk];exact hb⟩;unfold Hu;dsimp only;simp only[cV,cT,hi1,hi0,dM,hk,hw]) (λb _=>by unfold Hu;simp) (b:=acc) (by simp[kM])
 rw[zG]at hV;rw[<-hV];exact e1
def NQ(f:aU)(hv:de f.ai)(hl:zR f.ai<=1000000)(acc:aa aL)(ha:zR acc<=1000000)(kind:Int)(ks:aa Int)(n i:Int):OX ⟨acc,kind,ks,n,i,f.ai,(zR f.ai:Int),0,f⟩=V ⟨acc++kM kind f.ai,kind,ks,n,i,f.ai,(zR f.ai:Int),(zR f.ai:Int),f⟩:=by
 obtain⟨v,e1,hV⟩:=cH (rnd:=HX) f.ai.length (λj (b:aa aL)=>⟨b,kind,ks,n,i,f.ai,(zR f.ai:Int),(j:Int),f⟩) (λj b=>b=acc++kM kind (f.ai.take j)) (λj b hj hb=>by
  have hw:=jJ hj hl;have hm:=avk (hv _ (bq hj));have hlen:=uY kind (f.ai.take j);rw[zA]at hlen;have hi1:(j:Int)<(zR f.ai:Int):=aq;have hi0:(0:Int)<=(j:Int):=aq;rw[bC hj,HQ];by_cases hk:f.ai[j]!.bB=kind
  ·refine⟨acc++(kM kind (f.ai.take j)++[CN f.ai[j]!]),?_,by rw[bI hk]⟩;subst hb;have hl2:zR ((acc++kM kind (f.ai.take j))++[CN f.ai[j]!])<=1073741824:=by
    rw[zg,zg,yg];omega
   unfold HX;dsimp only;simp only[cV,hi1,hi0,cI,dM,hk,hm,hl2,hw];rw[yS]
  ·refine⟨b,?_,by rw[bO hk];exact hb⟩;unfold HX;dsimp only;simp only[cV,cT,hi1,hi0,dM,hk,hw]) (λb _=>by unfold HX;simp) (b:=acc) (by simp[kM])
 rw[zG]at hV;rw[<-hV];exact e1
def oB(f:aU):aa aL:=kM 1 f.ai++kM 3 f.ai
def adP(f:aU)(hv:de f.ai)(hl:zR f.ai<=1000):Pr ⟨[],[1,3],2,0,f⟩=V ⟨oB f,[1,3],2,2,f⟩:=by
 have b1:=uY 1 f.ai;have e1:=PB f hv aq [] (by simp) 1 [1,3] 2 0;have e2:=PB f hv aq (kM 1 f.ai) aq 3 [1,3] 2 1;have w0:ak 1=1:=rfl;have w1:ak 2=2:=rfl;have r1:Fx ⟨[],[1,3],2,0,f⟩=V (V ⟨kM 1 f.ai,[1,3],2,1,f⟩):=by
  unfold Fx;simp[e1,w0]
 have r2:Fx ⟨kM 1 f.ai,[1,3],2,1,f⟩=V (V ⟨oB f,[1,3],2,2,f⟩):=by
  unfold Fx;simp[e2,w1,oB]
 unfold Pr;rw[bR r1,bR r2];exact ct λr=>by unfold Fx;simp
def aeg(f:aU)(hv:de f.ai)(hl:zR f.ai<=1000):MB ⟨[],[1,3],2,0,f⟩=V ⟨oB f,[1,3],2,2,f⟩:=by
 have b1:=uY 1 f.ai;have e1:=NQ f hv aq [] (by simp) 1 [1,3] 2 0;have e2:=NQ f hv aq (kM 1 f.ai) aq 3 [1,3] 2 1;have w0:ak 1=1:=rfl;have w1:ak 2=2:=rfl;have r1:EH ⟨[],[1,3],2,0,f⟩=V (V ⟨kM 1 f.ai,[1,3],2,1,f⟩):=by
  unfold EH;simp[e1,w0]
 have r2:EH ⟨kM 1 f.ai,[1,3],2,1,f⟩=V (V ⟨oB f,[1,3],2,2,f⟩):=by
  unfold EH;simp[e2,w1,oB]
 unfold MB;rw[bR r1,bR r2];exact ct λr=>by unfold EH;simp
def atM(f:aU)(h:fM f.bM+kH (f.au.map (·.aG))<=900)(hh:zR f.au<=1000000)(hvl:zR f.ai<=1000):m76 f=V (if pL f=0 then(oB f,0)else([],pL f)):=by
 unfold m76;rw[V8 f h hh aq];dsimp only;by_cases hc:pL f=0
 ·rw[bI hc,bZ hc];have hv:=mC hc;rw[show ((↑(2:Int):Int))=2 from rfl,adP f hv hvl];simp
 ·rw[bO hc,bY hc];rfl
def avh(f:aU)(hv:de f.ai)(hvl:zR f.ai<=1000):m39 f=V (oB f):=by
 unfold m39;rw[show ((↑(2:Int):Int))=2 from rfl,aeg f hv hvl];simp
def aaO:bu:=td vn (e35 (e40 di)) (λf=>ze f 35||ze f 40) 300 60
def UT:bz vn aaO:=⟨uM (tL (rG aP)).ok (tL (rG aP)).nat 300 60,rN (tL (rG (aP (P:=vn)))).nat 300 60⟩
def f45:aU:=⟨[⟨⟨#[120]⟩,1,0,3,0⟩],[],[⟨1,1,0,0,⟨15,0,[⟨24,0,[]⟩,⟨0,2,[]⟩]⟩,[],[],[]⟩]⟩
def v45:bW:=⟨[],G⟩
def agY:aU->Bool
 |⟨[a],[],[⟨d,c,v,n,⟨o,m,[⟨o1,n1,[]⟩,⟨o2,n2,[]⟩]⟩,[],[],[]⟩]⟩=>J (a=⟨⟨#[120]⟩,1,0,3,0⟩)&&J ([d,c,v,n,o,m,o1,n1,o2,n2]=[1,1,0,0,15,0,24,0,0,2])
 |_=>G
def alS{f:aU}(h:agY f=O):f=f45:=by
 unfold agY at h;split at h
 ·simp only[zh,decide_eq_true_eq,List.cons.injEq,and_true]at h;obtain⟨rfl,rfl,rfl,rfl,rfl,rfl,rfl,rfl,rfl,rfl,rfl⟩:=h;rfl
 ·cases h
def YH{β:Type}(T:aa (aa aL×β))(g:aU×bW×aa aL×Unit):af β:=bif agY g.1&&J (g.2.1=v45)then(T.find? λp=>J (p.1=g.2.2.1)).map (·.2)else I
def VO{β:Type}{T:aa (aa aL×β)}{g:aU×bW×aa aL×Unit}{b:β}(h:YH T g=V b):∃x,(x,b)∈T/\g=(f45,v45,x,()):=by
 obtain⟨f,v,x,_⟩:=g;unfold YH at h;cases k:agY f&&J (v=v45)with
 |false=>simp only[k]at h;cases h
 |true=>
  simp only[k,cI]at h;rw[zh,decide_eq_true_eq]at k;obtain⟨p,h1,rfl⟩:=zl.1 h;have h2:=List.find?_some h1;rw[decide_eq_true_eq]at h2;exact⟨x,h2▸List.mem_of_find?_eq_some h1,by rw[alS k.1,k.2]⟩
def t25:aa (aa aL×Int×Int):=[([⟨0,3,1⟩],2,0),([⟨0,1,1⟩],1,0),([⟨2,3,1⟩],1,0)]
def t26:aa (aa aL×aC×Bool×Int):=[([⟨0,3,1⟩],⟨[],0⟩,G,0),([⟨0,1,1⟩],⟨[1],0⟩,O,0),([⟨2,3,1⟩],⟨[0],0⟩,O,0)]
def aAE:eX vn aaO 0 300 25 .no:=b6 (l:=[]) func25 (bN aV) aV aH
def ay1:eX vn aaO 0 300 26 .no:=b6 (l:=[]) func26 (bN aV) aV aH
def k25:(t25.map λp=>bU vn aaO 300 .no 25 (A25.c (f45,v45,p.1,())) [] 0 d25.rd)=t25.map λp=>V p.2:=aV
def k26:(t26.map λp=>bU vn aaO 300 .no 26 (A26.c (f45,v45,p.1,())) [] 0 d26.rd)=t26.map λp=>V p.2:=aV
def aE9:HL vn 25 A25 d25 (YH t25):=λg b hb=>by
 obtain⟨x,h1,rfl⟩:=VO hb;exact(jT (out:=λp=>fG vn 25 0 (d25.pat p)) (p:=b) UT aAE d25.ok (λp=>aV) (iK aV) (iA aV) (List.map_inj_left.1 k25 _ h1)).2
def aGu:HL vn 26 A26 d26 (YH t26):=λg b hb=>by
 obtain⟨x,h1,rfl⟩:=VO hb;exact(jT (out:=λp=>fG vn 26 0 (d26.pat p)) (p:=b) UT ay1 d26.ok (λp=>aV) (iK aV) (iA aV) (List.map_inj_left.1 k26 _ h1)).2
def x25:bu->bu:=eL vn 25 G A25 d25 (YH t25)
def x26:bu->bu:=eL vn 26 G A26 d26 (YH t26)
def atS{F:bu}(h:bz vn F):bz vn (x25 F):=ep (sc:=pF) dh aE9 ⟨_,func25,aV,aV⟩ (λ_=>aV) (λ_=>aV) h
def ate{F:bu}(h:bz vn F):bz vn (x26 F):=ep (sc:=pF) dh aGu ⟨_,func26,aV,aV⟩ (λ_=>aV) (λ_=>aV) h
def F45:bu:=x25 (x26 (e35 (e40 di)))
def aaV:bz vn F45:=atS (ate (tL (rG aP)))
abbrev E45:=Bool
def d45:Td 0 E45:= .c [] [0] (.r 0 0 (ec 0 qb en) sn (λz=>z.1.1) (λx=>((x,()),(()))))
def A45:=ln
def m45:E45:=O
def aym:Prop:=HL vn 45 A45 d45 (λ_=>V m45)
def e45:=eL vn 45 G A45 d45 (λ_=>V m45)
def af3(hv:aym){F:bu}(h:bz vn F):bz vn (e45 F):=ep (sc:=pF) dh hv ⟨_,func45,aV,aV⟩ (λ_=>aV) (λ_=>aV) h
def OP{F:bu}{f:Nat}(h:bA F f):bA (e45 F) f:=gi h (λ_=>aV)
def t45:td vn F45 (λf=>ze f 25||ze f 26||ze f 35||ze f 40) 300 60 Bool 45 [] [] 0 (TB S8)=V O:=aV
def SR{P:Program}{f:FuncId}{xs:aa AV}{d:AV}(h:Iv.Fn P f xs [] (λa s=>a=d/\s=[]))(ha:∀ρ:Gh,xs.map (b9.sub ρ)=xs)(hd:∀ρ:Gh,d.sub ρ=d):Mm P f xs [] 0 ⟨d,[],0⟩:=λρ=>by
 rw[ha ρ];exact h.mono λa s ⟨h1,h2⟩=>⟨ρ,λ_ _=>⟨rfl,rfl⟩,by rw[h1];exact(hd ρ).symm,by rw[h2];exact List.Perm.refl _⟩
def arC:fG vn 45 0 (d45.pat m45)=⟨.b O,[],0⟩:=aV
def aHU:aym:=λg b hb=>by
 cases hb;rw[arC];exact SR (SQ (uM (P:=vn) aaV.ok aaV.nat 300 60) P0.b rfl (λd hd=>by cases hd) t45).2 (λ_=>rfl) (λρ=>kE 2 aV)
def ar7:bu:=(e21 di)
def alB:bz vn ar7:=(asG aP)
abbrev aAg:=Int
def d119:Td 0 aAg:= .c [] [6] (.r 0 0 (ec 6 aN en) sn (λz=>z.1.1) (λx=>((x,()),(()))))
def axX:=(lc (qg 26) (lc (qg 29) (lc (ql 34) ln)))
def aoV:An:= .no
def aBj:eX vn (ar7) 0 300 119 (aoV):=b6 (l:=[]) func119 (bN aV) aV aH
def ahN(a0:aU)(a1:bW)(a2:aa aL):af aAg:=
 match m21 a0 a1 a2 with|I=>I|V r1=>V (r1)
def aH8(a0:aU)(a1:bW)(a2:aa aL):bU vn (ar7) 300 (aoV) 119 (axX.c (a0,a1,a2,())) [] 0 d119.rd=ahN a0 a1 a2:=aV
def awv:=eL vn 119 G axX d119 (λg=>ahN g.1 g.2.1 g.t.1)
def agb{F:bu}(h:bz vn F):bz vn (awv F):=ep (sc:=pF) dh (dR alB aBj (λ_=>aV) (λ_=>aV) λg=>aH8 g.1 g.2.1 g.t.1) ⟨_,func119,aV,aV⟩ (λ_=>aV) (λ_=>aV) h
def F55:bu:=(awv di)
def au8:bz vn F55:=(agb aP)
abbrev E55:=Int
def d55:Td 0 E55:= .c [] [4] (.r 0 0 (ec 4 aN en) sn (λz=>z.1.1) (λx=>((x,()),(()))))
def A55:=(lc (qg 26) (lc (qg 29) ln))
def axZ:An:=(noTwo (.two (noTwo (.two (.rb [] 14) .no)) .no))
def aGA:∀f∈([]:aa Nat),bA (F55) f:=aH
def aFG:eX vn (F55) 0 300 55 (axZ):=b6 (l:=[(.skip,(.rb [] 14))]) func55 (bN aV) aV (aA aGA aH)
def m55(a0:aU)(a1:bW):af E55:=
 match ahN a0 a1 []with|I=>I|V r1=>match bif bif J (r1=0)then G else O then V (bif J (r1=2)then G else O)else V (G)with|I=>I|V r2=>bif r2 then V (r1)else V (0)
def c55(a0:aU)(a1:bW):bU vn (F55) 300 (axZ) 55 (A55.c (a0,a1,())) [] 0 d55.rd=m55 a0 a1:=aV
def e55:=eL vn 55 G A55 d55 (λg=>m55 g.1 g.2.1)
def arz{F:bu}(h:bz vn F):bz vn (e55 F):=ep (sc:=pF) dh (dR au8 aFG (λ_=>aV) (λ_=>aV) λg=>c55 g.1 g.2.1) ⟨_,func55,aV,aV⟩ (λ_=>aV) (λ_=>aV) h
def Es{F:bu}{f:Nat}(h:bA F f):bA (e55 F) f:=gi h (λ_=>aV)
def sJ{α:Type}{c:Nat->α->Int}{k:Int}(hk:k≠0)(h:∀i x,c i x≠k):∀(l:aa α) (i:Nat),cz c l i≠k
 |[],_=>by unfold cz;omega
 |x::l,i=>by
  unfold cz;have:=sJ hk h l (i+1);have:=h i x;split<;>assumption
def ML(vars:aa bf)(inp:Bool)(t:az):fA vars inp t≠2:=by unfold fA;grind
def AA(f:aU):∀(top:Bool) (l:aa aB),cc f top l≠2
 |_,[]=>by rw[cc];decide
 |top,s::l=>by
  rw[cc];have h1:=AA f G s.aQ;have h2:=AA f G s.aW;have h3:=AA f top l;have h0:ox f (top&&l.isEmpty) s≠2:=by
   have:=ML f.ai G s.aG;unfold ox;grind
  grind
termination_by _ l=>zf l
decreasing_by
 all_goals first|exact(bw (zk ..)).1|exact(bw (zk ..)).2|exact dY _ _
def aqI(f:aU):pL f≠2:=by
 have h1:jK f.ai≠2:=by
  have:=sJ (c:=ni f.ai) (k:=2) (by decide) (λi x=>by unfold ni;grind) f.ai 0;unfold jK;grind
 have h2:=sJ (c:=kQ f) (k:=2) (by decide) (λi x=>by have:=ML f.ai O x.aG;unfold kQ;grind) f.au 0;have h3:=AA f O f.bM;unfold pL;grind
def cdA(f:aU)(v:bW):Int:=if pL f≠0 then pL f else if zR v.aZ≠(f.ai.filter (kd 2)).length then 1 else cz (jx v.aZ) (f.ai.filter (kd 2)) 0
def aqW(f:aU)(v:bW):cdA f v≠2:=by
 have:=aqI f;have:=sJ (c:=jx v.aZ) (k:=2) (by decide) (λi x=>by
  unfold jx;cases J (v.aZ[i]! <x.ah)<;>cases J (x.ag<v.aZ[i]!)<;>decide) (f.ai.filter (kd 2)) 0
 unfold cdA;grind
def ajo(f:aU)(v:bW):uG f v []=cdA f v\/(cdA f v=0/\uG f v []=2):=by
 unfold uG cdA;by_cases h1:pL f=0
 case neg=>simp[h1]
 by_cases h2:zR v.aZ=zR (f.ai.filter (kd 2))
 case neg=>simp[h1,h2]
 by_cases h3:cz (jx v.aZ) (f.ai.filter (kd 2)) 0=0
 case neg=>simp[h1,h2,h3]
 by_cases h4:zR (ew f.ai)=0
 ·have h5:=xw.1 h4;simp[h1,h2,h3,h5,cz]
 ·have h5:¬(0:Nat)=zR (ew f.ai):=λh=>h4 h.symm;simp[h1,h2,h3,h5]
def aB6{f:aU}(h:fM f.bM+kH (f.au.map (·.aG))<=900)(hh:zR f.au<=1000)(hl:zR f.ai<=1000)(v:bW):m55 f v=V (cdA f v):=by
 unfold m55 ahN;rw[ayL h hh hl];have:=aqW f v;rcases ajo f v with k|⟨k1,k2⟩
 ·rw[k];by_cases c0:cdA f v=0<;>simp[c0,this]
 ·rw[k1,k2];rfl
def Hi{α:Type}[Inhabited α]{c:Nat->α->Int}:∀(l:aa α) (i:Nat),(∀j,j<zR l->c (i+j) l[j]! =0)->cz c l i=0
 |[],_,_=>rfl
 |x::l,i,h=>by
  unfold cz;have h0:=h 0 (by simp);rw[yh]at h0;rw[bI (show c i x=0 from h0)];refine Hi l (i+1) λj hj=> ?_;have:=h (j+1) (by simpa using hj);rw[show i+1+j=i+(j+1)by omega];simpa using this
def abG(f:aU):oB f=(ew f.ai).map CN:=by
 unfold oB kM ew;rw[zK];rfl
def Qi{f:aU}(hc:pL f=0){j:Nat}(hj:j<zR (ew f.ai)): -1048576<=(ew f.ai)[j]!.ah/\(ew f.ai)[j]!.ah<=(ew f.ai)[j]!.ag/\(ew f.ai)[j]!.ag<=1048576:=by
 refine mC hc _ ?_;have:=bq hj;unfold ew at this;rcases zP.1 this with k|k<;>exact(z7.1 k).1
def ac5{l:aa Int}(h:zR l<=1000):W3 l=V l:=by unfold W3;rw[gW]
def hU:aa Int->aa Int->Int
 |[],[]=>0
 |[],_::_=> -1
 |_::_,[]=>1
 |x::a,y::b=>if x<y then-1 else if y<x then 1 else hU a b
def rz:∀a b,hU b a= -hU a b
 |[],[]=>rfl
 |[],_::_=>rfl
 |_::_,[]=>rfl
 |x::a,y::b=>by
  have:=rz a b;unfold hU;split<;>split<;>(try split)<;>omega
def Df:∀a b c,hU a b<=0->hU b c<=0->hU a c<=0
 |[],[],_,_,h=>h
 |[],_::_,[],_,h=>by unfold hU at h;omega
 |[],_::_,_::_,_,_=>by unfold hU;omega
 |_::_,[],_,h,_=>by unfold hU at h;omega
 |_::_,_::_,[],_,h=>by unfold hU at h;omega
 |x::a,y::b,z::c,h,k=>by
  have:=Df a b c;simp only[hU]at h k ⊢;split at h<;>split at k<;>split<;>(try split)<;>(try split at h)<;>(try split at k)<;>omega
def si:∀a b,hU a b=0->a=b
 |[],[],_=>rfl
 |[],_::_,h=>by unfold hU at h;omega
 |_::_,[],h=>by unfold hU at h;omega
 |x::a,y::b,h=>by
  unfold hU at h;split at h
  ·omega
  ·split at h
   ·omega
   ·rw[si a b h,show x=y by omega]
def HE:∀a,hU a a=0
 |[]=>rfl
 |x::a=>by unfold hU;rw[HE a];simp
def dI(x y:aC):Int:=if hU x.aK y.aK≠0 then hU x.aK y.aK else if x.aI<y.aI then-1 else if y.aI<x.aI then 1 else 0
def dO(a b:aC):dI b a= -dI a b:=by
 have:=rz a.aK b.aK;unfold dI;grind
def mN(a b c:aC)(h:dI a b<=0)(k:dI b c<=0):dI a c<=0:=by
 have h1:=Df a.aK b.aK c.aK;have h2:=si a.aK b.aK;have h3:=si b.aK c.aK;have h4:=rz a.aK c.aK;have h5:=Df c.aK a.aK b.aK;have h6:=Df b.aK c.aK a.aK;have h7:=rz b.aK c.aK;have h8:=rz a.aK b.aK;unfold dI at*;by_cases e1:hU a.aK b.aK=0
 ·have:=h2 e1;rw[bO aq]at h;rw[this];by_cases e2:hU b.aK c.aK=0
  ·rw[bO aq]at k;rw[bO aq];split at h<;>split at k<;>split<;>(try split at h)<;>(try split at k)<;>(try split)<;>omega
  ·rw[bI e2]at k;rw[bI e2];exact k
 ·rw[bI e1]at h;by_cases e2:hU b.aK c.aK=0
  ·rw[<-h3 e2,bI e1];exact h
  ·rw[bI e2]at k;have h9:=h1 h k;have:hU a.aK c.aK≠0:=λe=>by
    have:=h5 aq h;omega
   rw[bI this];exact h9
def nr{a b:aC}(h:dI a b=0):a=b:=by
 unfold dI at h;split at h
 ·exact ei h ‹_›
 ·have e:=si a.aK b.aK aq;split at h
  ·omega
  ·split at h
   ·omega
   ·obtain⟨a1,a2⟩:=a;obtain⟨b1,b2⟩:=b;simp only at*;rw[e,show a2=b2 by omega]
def rR(a:aC):dI a a=0:=by unfold dI;simp[HE]
def afE(x y:Int):G6 x y=if x<y then-1 else if y<x then 1 else 0:=by
 unfold G6 GV;simp only[cT,Cv];by_cases h:x<y
 ·simp[h]
 ·by_cases k:y<x<;>simp[h,k]
def wI{i n:Nat}(h:i<n)(hn:n<=9223372036854775807):ak ((i:Int)+1)=((i+1:Nat):Int):=by rw[aM aq aq];omega
def alm(a b:aa Int)(ha:zR a<=9223372036854775807):ac9 a b=V (hU a b):=by
 obtain⟨step,hs⟩:∃step:Nat->Unit->Int->Unit ⊕ Int,step=λi _ x=>if zR b<=i then .inr 1 else if G6 x b[i]!≠0 then .inr (G6 x b[i]!)else .inl ():=⟨_,rfl⟩
 obtain⟨fin,hf⟩:∃fin:Unit->af Int,fin=λ_=>V (if zR a<zR b then-1 else 0):=⟨_,rfl⟩;obtain⟨i,v,e1,-,hI⟩:=Uq (rnd:=uC) a (λi (_:Unit)=>⟨a,b,a,(zR a:Int),(i:Int)⟩) step V fin (λ_ _=>True) (λi v hi _=>by
  have hw:=wI hi ha;have i1:(i:Int)<(zR a:Int):=aq;have i2:(0:Int)<=(i:Int):=aq;rw[hs];refine⟨λb' h=>⟨?_,trivial⟩,λr h=> ?_⟩<;>dsimp only at h
  ·split at h
   ·cases h
   ·split at h
    ·cases h
    ·rename_i g1 g2;have g3:¬(zR b:Int)<=(i:Int):=aq;have g4:(i:Int)<(zR b:Int):=aq;unfold uC;simp only[cV,cT,i1,i2,g3,g4,dM,hw,Decidable.not_not.1 g2]
  ·split at h
   ·rename_i g1;have g3:(zR b:Int)<=(i:Int):=aq;unfold uC;simp only[cV,i1,i2,g3,cI,dM]
   ·split at h
    ·rename_i g1 g2;have g3:¬(zR b:Int)<=(i:Int):=aq;have g4:(i:Int)<(zR b:Int):=aq;unfold uC;simp only[cV,cT,i1,i2,g3,g4,dM,g2]
    ·cases h) (λv _=>by unfold uC;simp) (b:=()) trivial
 have e1':JN ⟨a,b,a,(zR a:Int),0⟩=V ⟨a,b,a,(zR a:Int),(i:Int)⟩:=e1;have key:∀(l:aa Int) (k:Nat),k<=zR b->zR a=k+zR l->NA step V fin l k ()=V (hU l (b.drop k)):=by
  intro l;induction l with
  |nil=>
   intro k hk hl;simp only[NA,hf];simp only[y6,yh]at hl;by_cases h:k=zR b
   ·rw[h,wO,bO aq];rfl
   ·rw[yN aq,bI aq];rfl
  |cons x l ih=>
   intro k hk hl;simp only[yM]at hl;by_cases h:k=zR b
   ·rw[o5 (r:=1) (by rw[hs];simp[h]),h,wO];rfl
   ·have hk':k<zR b:=aq;rw[yN hk'];have e:=afE x b[k]!;have eb:b[k]! =b[k]:=getElem!_pos b k hk';rw[eb]at e;unfold hU;by_cases h1:x<b[k]
    ·rw[o5 (r:= -1) (by rw[hs];simp[show ¬b.length<=k by omega,e,eb,h1]),bI h1]
    ·by_cases h2:b[k]<x
     ·rw[o5 (r:=1) (by rw[hs];simp[show ¬b.length<=k by omega,e,eb,h1,h2]),bO h1,bI h2]
     ·rw[sk (b':=()) (by rw[hs];simp[show ¬b.length<=k by omega,e,eb,h1,h2]),bO h1,bO h2];exact ih (k+1) aq aq
 have hk:=key a 0 aq aq;rw[xH]at hk;rw[<-hk];unfold ac9;simp only[e1'];rcases hI with ⟨rfl,hg⟩|⟨hi,r,hr,hg⟩
 ·rw[hg,hf];simp only[yl,CZ,cw];by_cases h:zR a<zR b
  ·rw[bI h,bZ (by omega:(zR a:Int)<(zR b:Int))];rfl
  ·rw[bO h,bY (by omega:¬(zR a:Int)<(zR b:Int))];rfl
 ·rw[hg];have i1:(i:Int)<(zR a:Int):=aq;have i2:(0:Int)<=(i:Int):=aq;rw[hs]at hr;simp only at hr;split at hr
  ·rename_i g1;have g3:(zR b:Int)<=(i:Int):=aq;simp only[cV,i1,i2,g3,cI,dM];cases hr;rfl
  ·split at hr
   ·rename_i g1 g2;have g3:¬(zR b:Int)<=(i:Int):=aq;have g4:(i:Int)<(zR b:Int):=aq;simp only[cV,cT,i1,i2,g3,g4,dM,g2];cases hr;rfl
   ·cases hr
def Dt(a b:aC)(ha:zR a.aK<=9223372036854775807):KA a b=V (dI a b):=by
 unfold KA dI;rw[alm _ _ ha];dsimp only;by_cases h:hU a.aK b.aK=0
 ·by_cases h1:a.aI<b.aI
  ·simp[h,h1]
  ·by_cases h2:b.aI<a.aI<;>simp[h,h1,h2]
 ·simp[h]
def oy:aC->aa aC->aa aC
 |_,[]=>[]
 |p,y::l=>if dI y p=0 then oy y l else y::oy y l
def vY:aa aC->aa aC
 |[]=>[]
 |x::l=>x::oy x l
end Go.Proofs.YtnfljbehcffmcaaGreat
end
noncomputable section
namespace Go.Proofs.YtnfljbehcffmcaaGreat
open Go Go.Iv Go.Sort Go.Proofs
abbrev Ob(A:Nat->Prop)(w:World):={p:aC×aa Value//p.2.length=2/\bP A w (uni.cells 47 p.1) p.2}
section
variable {A:Nat->Prop} {w:World}
def aoR{o:aC}{us:aa Value}(h:zR us=2/\bP A w (uni.cells 47 o) us):∃u v,us=[u,v]/\Rel A w (.sl 3 o.aK) u/\v= .int .i64 o.aI:=by
 obtain⟨h1,h2⟩:=h
 match us,h1 with
 |[u,v],_=>exact⟨u,v,rfl,h2.2 0 _ _ rfl rfl,(h2.2 1 (.lit (.int .i64 o.aI)) v rfl rfl).cL⟩
def ac3{o:aC}{u:Value}(h:Rel A w (.sl 3 o.aK) u):bP A w (uni.cells 47 o) [u, .int .i64 o.aI]:=
 ⟨rfl,λj a v h1 h2=>by
  match j with
  |0=>cases h1;cases h2;exact h
  |1=>cases h1;cases h2;exact .lit _
  |j+2=>cases h1⟩
def azq:Rel A w (.sl 3 ([]:aa Int)) (.slice none 0 0):=Rel.sl (U:=uni) 3 [] none 0 (λ_ _=> .int .i64 0) (yW _) (zm _) (λi hi=>by cases hi) (λi hi=>by cases hi) (λi j a hi=>by cases hi)
instance:Inhabited (Ob A w):=⟨⟨(⟨[],0⟩,[.slice I 0 0, .int .i64 0]),rfl,ac3 azq⟩⟩
def nY(x:Ob A w):aa Value:=x.1.2
def kg(x:Ob A w):zR (nY x)=2:=x.2.1
def Dp(x:Ob A w):∀v∈nY x,v.oneCell'=O:=λv hv=>by
 obtain⟨u,t,h1,h2,h3⟩:=aoR x.2;unfold nY at hv;rw[h1]at hv;rcases zy.1 hv with rfl|hv
 ·cases h2;rfl
 ·rw[zq.1 hv,h3];rfl
def apD(x:Ob A w):zR x.1.1.aK<=9223372036854775807:=by
 obtain⟨u,t,h1,h2,h3⟩:=aoR x.2;generalize x.1.1.aK=l at h2;cases h2 with
 |sl t l p cap u hl hcap hz hc hr=>exact hl
def Hf{α:Type}[Inhabited α](enc:α->aa Value)(d:Array α){us:aa Value}(h1:zR us=d.size*2)(h:∀i,i<d.size->enc d[i]! =(us.drop (i*2)).take 2):flatK enc 2 d=us.toArray:=by
 refine ext_get! (by simp[h1]) λt ht=> ?_;have ht:t<d.size*2:=by simpa using ht
 rw[get_flatK _ _ _ _ ht,h _ aq];have e:(us.toArray:Array Value)[t]! =us[t]! :=by simp
 rw[e,getElem!_pos us t aq,getElem!_pos _ _ (by simp;omega),xI,xR]
 congr 1
 omega
def HT{α:Type}[Inhabited α]{enc:α->aa Value}{d:Array α}{W:World}{g:Nat}{cur:Array Value}{T:TypeId}{us:aa Value}(hb:W.heap[g]? =V (.cells cur T (0,0)))(hf:flatK enc 2 d=us.toArray)(hc:cur.toList.take us.length=us):HoldsK enc 2 W g 0 d:=by
 unfold HoldsK;rw[hf];intro j hj;have hj':j<zR us:=by simpa using hj
 refine⟨?_,by simp[World.frozen?,hb]⟩;have h1:(cur.toList.take us.length)[j]? =us[j]? :=by rw[hc]
 rw[wu hj']at h1;simp only[World.cell?,hb,yj];simp only[vh,yu,GL];rw[<-wP,h1];simp[hj']
def uh{α:Type}[Inhabited α]{enc:α->aa Value}{W:World}{g m:Nat}{dk:Array α}{os:Array Obj}{cur:Array Value}{T:TypeId}(hb:W.heap[g]? =V (.cells cur T (0,0))):
  (sortWorldK enc 2 W g 0 m dk os).heap[g]? =V (.cells (putCells id 0 (flatK enc 2 dk) cur) T (0,0)):=by
 have hg:g<W.heap.size:=(xd.1 hb).1;unfold sortWorldK putRowK;rw[heap_grow_old _ _ (by simpa using hg)];simp[putRow,mapBlock,Sort.ahead,vk,hb,onCells]
def rj{α:Type}[Inhabited α]{enc:α->aa Value}{W:World}{g m:Nat}{dk:Array α}{os:Array Obj}{b:Nat}(hb:b<W.heap.size)(hne:b≠g):
  (sortWorldK enc 2 W g 0 m dk os).heap[b]? =W.heap[b]? :=by
 unfold sortWorldK putRowK;rw[heap_grow_old _ _ (by simpa using hb)];simp[putRow,mapBlock,Sort.ahead,vk,Ne.symm hne]
def Rj{α:Type}[Inhabited α]{enc:α->aa Value}{W:World}{g m:Nat}{dk:Array α}{os:Array Obj}:W.heap.size<=(sortWorldK enc 2 W g 0 m dk os).heap.size:=size_sortWorldK_c enc 2 W g 0 m dk os
def P7{α:Type}[Inhabited α]{enc:α->aa Value}{W:World}{g m:Nat}{dk:Array α}{os:Array Obj}:Kp [g] W (sortWorldK enc 2 W g 0 m dk os):=
 ⟨rfl,rfl,rfl,Nat.le_add_right _ _,Rj,λk hk hn=>rj hk (by simpa using hn)⟩
def OE{F cur:Array Value}(h:F.size<=cur.size):(putCells id 0 F cur).toList.take F.size=F.toList:=by
 apply List.ext_getElem?;intro j;by_cases hj:j<F.size
 ·rw[wu hj,wP];simp[putCells,hj,show j<cur.size by omega]
 ·rw[List.getElem?_take_eq_none aq,wE (by simp;omega)]
def amE{W W':World}(h:Kp [] W W'):∃q os,W'=grow (W.drewN q) os:=by
 refine⟨W'.drawn-W.drawn,W'.heap.extract W.heap.size W'.heap.size,?_⟩;have e1:=h.os;have e2:=h.tape;have e3:=h.output;have e4:=h.drawn
 have e5:W'.heap=W.heap++W'.heap.extract W.heap.size W'.heap.size:=by
  apply Array.ext_getElem?;intro k;rw[Array.getElem?_append];have hs:=h.size;split
  ·exact h.block k (by assumption) (by simp)
  ·rename_i hk;rw[Array.getElem?_extract];by_cases h2:k<W'.heap.size
   ·rw[bI aq,show W.heap.size+(k-W.heap.size)=k by omega]
   ·rw[bO aq,Array.getElem?_eq_none aq]
 obtain⟨hp,tp,dr,os,ot⟩:=W;obtain⟨hp',tp',dr',os',ot'⟩:=W';simp only at e1 e2 e3 e4;simp only[grow,World.drewN,World.mk.injEq];exact⟨e5,e2,aq,e1,e3⟩
def asN:bu:=(Ma di)
def amz:bz vn asN:=(sK aP)
abbrev aAZ:=Bool
def d252:Td 0 aAZ:= .c [] [4] (.r 0 0 (ec 4 qb en) sn (λz=>z.1.1) (λx=>((x,()),(()))))
def axV:=(lc (qg 47) (lc (qg 47) ln))
def ap8:An:= .no
def ayh:eX vn (asN) 0 300 252 (ap8):=b6 (l:=[]) func252 (bN aV) aV aH
def alR(a0:aC)(a1:aC):af aAZ:=
 match KA a0 a1 with|I=>I|V r1=>V (J (r1=0))
def aFZ(a0:aC)(a1:aC):bU vn (asN) 300 (ap8) 252 (axV.c (a0,a1,())) [] 0 d252.rd=alR a0 a1:=aV
def asW:=eL vn 252 G axV d252 (λg=>alR g.1 g.2.1)
def am5{F:bu}(h:bz vn F):bz vn (asW F):=ep (sc:=pF) dh (dR amz ayh (λ_=>aV) (λ_=>aV) λg=>aFZ g.1 g.2.1) ⟨_,func252,aV,aV⟩ (λ_=>aV) (λ_=>aV) h
def axA(a b:aC)(h:zR a.aK<=9223372036854775807):Iv.Fn vn 188 [.agg (uni.cells 47 a), .agg (uni.cells 47 b)] [] (λx s=>x= .n .i64 (dI a b)/\s=[]):=
 (SQ (F:=Ma di) (sK aP).ok (P0.i .i64) rfl (iK aV) ((show Ma di Int 188 [.agg (uni.cells 47 a), .agg (uni.cells 47 b)] [] 0 (TB (iE .i64))=(match KA a b with|I=>I|V r=>V r)from aV).trans (by rw[Dt a b h]))).2
def awe(a b:aC)(h:zR a.aK<=9223372036854775807):Iv.Fn vn 252 [.agg (uni.cells 47 a), .agg (uni.cells 47 b)] [] (λx s=>x= .b (J (dI a b=0))/\s=[]):=
 (SQ (F:=asW di) (am5 aP).ok P0.b rfl (iK aV) ((show asW di Bool 252 [.agg (uni.cells 47 a), .agg (uni.cells 47 b)] [] 0 (TB S8)=(match alR a b with|I=>I|V r=>V r)from aV).trans (by unfold alR;rw[Dt a b h]))).2
def VH{f:Nat}{x y:Ob A w}{r:Value}(hf:Iv.Fn vn f [.agg (uni.cells 47 x.1.1), .agg (uni.cells 47 y.1.1)] [] (λa s=>a= .lit r/\s=[])){W:World}(hW:∀b,b<w.heap.size->A b->W.heap[b]? =w.heap[b]?):
  Calls vn f #[.agg (nY x).toArray, .agg (nY y).toArray] W λe w'=>e= .returned r/\∃q os',w'=grow (W.drewN q) os':=by
 have hr:∀z:Ob A w,bP A W (uni.cells 47 z.1.1) (nY z):=λz=>z.2.2.mono λb hb hA=>⟨hA,hW b hb hA⟩;refine(hf W A [.agg (nY x).toArray, .agg (nY y).toArray] ⟨rfl,λj a v h1 h2=> ?_⟩ ⟨λr hr=>(by cases hr),λb hb=>(by cases hb)⟩ List.nodup_nil).mono λe w' ⟨v,av,σ',he,⟨h1,h2⟩,ht,hv⟩=> ?_
 ·match j with
  |0=>cases h1;cases h2;exact .agg _ _ (hr x).1 (hr x).2
  |1=>cases h1;cases h2;exact .agg _ _ (hr y).1 (hr y).2
  |j+2=>cases h1
 ·rw[h1]at hv;exact⟨by rw[he,hv.cL],amE ht.kp⟩
def Dr:SWO (ltOf dI) where
 irrefl x:=by unfold ltOf;rw[rR];rfl
 trans x y z h1 h2:=by
  unfold ltOf at*;simp only[decide_eq_true_eq]at*;have a:=dO x y;have b:=dO y z;have c:=dO x z
  have:=mN z x y;by_cases h:dI x z<0
  ·exact h
  ·have:=this aq aq;omega
 ntrans x y z h1 h2:=by
  unfold ltOf at*;simp only[decide_eq_false_iff_not]at*;have a:=dO x y;have b:=dO y z;have c:=dO x z
  have:=mN z y x aq aq;omega
def alu(x y:aC)(h1:ltOf dI x y=G)(h2:ltOf dI y x=G):x=y:=by
 unfold ltOf at*;simp only[decide_eq_false_iff_not]at*;have a:=dO x y;exact nr aq
def CQ(l:aa aC):aa aC:=l.mergeSort λx y=> !ltOf dI y x
def obC(x y:Ob A w):Int:=dI x.1.1 y.1.1
def aih:SWO (ltOf (obC (A:=A) (w:=w))):=⟨λx=>Dr.irrefl x.1.1,λx y z=>Dr.trans x.1.1 y.1.1 z.1.1,λx y z=>Dr.ntrans x.1.1 y.1.1 z.1.1⟩
end
def Uz{A:Nat->Prop}{w:World}{l:aa aC}{us:aa Value}(h1:zR us=zR l*2)(h3:∀i,i<zR l->bP A w (uni.cells 47 l[i]!) ((us.drop (i*2)).take 2)):
  ∃d:Array (Ob A w),d.size=zR l/\(d.toList.map λx=>x.1.1)=l/\flatK nY 2 d=us.toArray:=by
 have hx:∀i:Fin l.length,zR ((us.drop (i.1*2)).take 2)=2/\bP A w (uni.cells 47 l[i]) ((us.drop (i.1*2)).take 2):=λi=>by
  have hi:=i.2;refine⟨by rw[zA,zV];omega,?_⟩;have:=h3 i.1 hi
  rwa [getElem!_pos l i.1 hi]at this
 refine⟨Array.ofFn λi:Fin l.length=>(⟨(l[i],(us.drop (i.1*2)).take 2),hx i⟩:Ob A w),by simp,?_,Hf _ _ (by simpa using h1) λi hi=> ?_⟩
 ·apply xY (by simp);intro i q1 q2;simp
 ·have hi':i<zR l:=by simpa using hi
  rw[getElem!_pos _ i hi];simp[nY]
def SJ{A:Nat->Prop}{w:World}(d:Array (Ob A w))(l:aa aC)(h:(d.toList.map λx=>x.1.1)=l):zR (flatK nY 2 d).toList=zR l*2/\∀i,i<zR l->bP A w (uni.cells 47 l[i]!) (((flatK nY 2 d).toList.drop (i*2)).take 2):=by
 have hs:d.size=zR l:=by rw[<-h];simp
 refine⟨by simp[hs],λi hi=> ?_⟩;have e:(((flatK nY 2 d).toList.drop (i*2)).take 2)=nY d[i]! :=by
  apply xY
  ·rw[kg,zA,zV];simp[hs];omega
  ·intro j q1 q2;rw[kg]at q2;rw[xI,xR,Array.getElem_toList];have:=get_flatK nY 2 d (i*2+j) aq;rw[getElem!_pos _ _ (by simp;omega)]at this;rw[this,show (i*2+j)/2=i by omega,show (i*2+j)%2=j by omega,getElem!_pos _ j (by rw[kg];exact q2)]
 rw[e];have e2:l[i]! =d[i]!.1.1:=by
  subst h;rw[getElem!_pos _ i hi,getElem!_pos d i aq];simp
 rw[e2];exact d[i]!.2.2
end Go.Proofs.YtnfljbehcffmcaaGreat
end
noncomputable section
set_option maxRecDepth 100000
namespace Go.Proofs.YtnfljbehcffmcaaGreat
open Go Go.Iv Go.Sort Go.Proofs
abbrev aCK:=aa aC
def d200:Td 1 aCK:= .c [] [] (.r 1 1 en (sr 0 47 sn) (λz=>z.2.1) (λx=>((()),(x,()))))
def aBD:=(lc (qo 0) (lc (qf 188 ln) ln))
def awo:=(sr 0 47 sn)
def Yd(b0:aa aC):af aCK:=if zR b0<=1073741824 then V (CQ b0)else I
def anV:Prop:=HY vn 200 1 aBD awo d200 (λg=>Yd g.2.1)
def aER:bu->bu:=eY vn 200 1 aBD awo d200 (λg=>Yd g.2.1)
def abP(hv:anV){F:bu}(h:bz vn F):bz vn (aER F):=CB hv ⟨_,func200,aV,aV⟩ (λ_=>aV) h
def QS:Go.Shelf.Ren:=⟨λ|6=>200|15=>257|14=>256|28=>300|29=>301|20=>292|21=>293|22=>294|23=>295|24=>296|25=>297|26=>298|27=>299|46=>332|47=>333|48=>334|49=>335|50=>336|57=>348|n=>n,λ|22=>50|24=>47|25=>195|39=>240|53=>322|55=>324|46=>316|45=>315|50=>193|66=>344|70=>348|76=>356|77=>297|n=>n,λ|n=>n⟩
def acu:Go.Proofs.SlLaysF0.n6 vn QS where
 mixed:=aV
 f6:=⟨f200.name,aV,func200.trans (congrArg V aV)⟩
 f14:=⟨f256.name,aV,func256.trans (congrArg V aV)⟩
 f15:=func257.trans (congrArg V aV)
 f20:=⟨f292.name,aV,func292.trans (congrArg V aV)⟩
 f21:=⟨f293.name,aV,func293.trans (congrArg V aV)⟩
 f22:=⟨f294.name,aV,func294.trans (congrArg V aV)⟩
 f23:=⟨f295.name,aV,func295.trans (congrArg V aV)⟩
 f24:=⟨f296.name,aV,func296.trans (congrArg V aV)⟩
 f25:=⟨f297.name,aV,func297.trans (congrArg V aV)⟩
 f26:=⟨f298.name,aV,func298.trans (congrArg V aV)⟩
 f27:=⟨f299.name,aV,func299.trans (congrArg V aV)⟩
 f28:=func300.trans (congrArg V aV)
 f29:=func301.trans (congrArg V aV)
 f46:=⟨f332.name,aV,func332.trans (congrArg V aV)⟩
 f47:=func333.trans (congrArg V aV)
 f48:=func334.trans (congrArg V aV)
 f49:=⟨f335.name,aV,func335.trans (congrArg V aV)⟩
 f50:=⟨f336.name,aV,func336.trans (congrArg V aV)⟩
 f57:=⟨f348.name,aV,func348.trans (congrArg V aV)⟩
 t0:=underlying0
 a0:=Tryz.isAgg0
 z0:=Tryz.sizeOf0
 v0:=Tryz.zeroValue0
 t3:=underlying3
 a3:=Tryz.isAgg3
 z3:=Tryz.sizeOf3
 v3:=Tryz.zeroValue3
 t4:=underlying4
 a4:=Tryz.isAgg4
 z4:=Tryz.sizeOf4
 v4:=Tryz.zeroValue4
 t5:=underlying5
 a5:=Tryz.isAgg5
 z5:=Tryz.sizeOf5
 v5:=Tryz.zeroValue5
 t9:=underlying9
 a9:=Tryz.isAgg9
 z9:=Tryz.sizeOf9
 v9:=Tryz.zeroValue9
 t22:=underlying50
 a22:=Tryz.isAgg50
 z22:=Tryz.sizeOf50
 v22:=Tryz.zeroValue50
 t25:=underlying195
 a25:=Tryz.isAgg195
 z25:=Tryz.sizeOf195
 v25:=Tryz.zeroValue195
 t39:=underlying240
 a39:=Tryz.isAgg240
 z39:=Tryz.sizeOf240
 v39:=Tryz.zeroValue240
 t45:=underlying315
 a45:=Tryz.isAgg315
 z45:=Tryz.sizeOf315
 v45:=Tryz.zeroValue315
 t46:=underlying316
 a46:=Tryz.isAgg316
 z46:=Tryz.sizeOf316
 v46:=Tryz.zeroValue316
 t50:=underlying193
 a50:=Tryz.isAgg193
 z50:=Tryz.sizeOf193
 v50:=Tryz.zeroValue193
 t53:=underlying322
 a53:=Tryz.isAgg322
 z53:=Tryz.sizeOf322
 v53:=Tryz.zeroValue322
 t55:=underlying324
 a55:=Tryz.isAgg324
 z55:=Tryz.sizeOf324
 v55:=Tryz.zeroValue324
 t66:=underlying344
 a66:=Tryz.isAgg344
 z66:=Tryz.sizeOf344
 v66:=Tryz.zeroValue344
 t70:=underlying348
 a70:=Tryz.isAgg348
 z70:=Tryz.sizeOf348
 v70:=Tryz.zeroValue348
 t76:=underlying356
 a76:=Tryz.isAgg356
 z76:=Tryz.sizeOf356
 v76:=Tryz.zeroValue356
 t77:=underlying297
 a77:=Tryz.isAgg297
 z77:=Tryz.sizeOf297
 v77:=Tryz.zeroValue297
def X9{A:Nat->Prop}{w:World}{d d':Array (Ob A w)}(hp:PermIn 0 d.size d d')(hs:SortedIn (ltOf obC) 0 d.size d'):(d'.toList.map λx=>x.1.1)=CQ (d.toList.map λx=>x.1.1):=by
 obtain⟨h1,_,h3⟩:=hp;have e1:d'.extract 0 d.size=d':=by rw[<-h1];exact Array.extract_size
 rw[e1,Array.extract_size]at h3;have hz:∀c:Array (Ob A w),(c.map λx=>x.1.1).toList=c.toList.map λx=>x.1.1:=λc=>by simp
 have:=sorted_unique_holds Dr alu (d.map λx=>x.1.1) (d'.map λx=>x.1.1) ⟨by simp[h1],λi hi=> ?_,?_⟩ (λi j hi hij hj=> ?_)
 ·rw[hz,hz]at this;exact this
 ·have:d.size<=i:=by rcases hi with h|h;omega;simpa using h
  rw[getElem!_neg _ i (by simp;omega),getElem!_neg _ i (by simp;omega)]
 ·have a1:(d'.map λx=>x.1.1).extract 0 (d.map λx=>x.1.1).size=(d'.map λx=>x.1.1):=by
   rw[show (d.map λx=>x.1.1).size=(d'.map λx=>x.1.1).size by simp[h1]];exact Array.extract_size
  rw[a1,Array.extract_size,hz,hz];exact h3.map _
 ·have hj':j<d.size:=by simpa using hj
  have:=hs i j hi hij hj';rw[getElem!_pos _ i aq,getElem!_pos _ j aq]at this;rw[getElem!_pos _ i (by simp;omega),getElem!_pos _ j (by simp;omega)];simp only[Array.getElem_map];exact this
def avo(l b:aa aC)(hb:Yd l=V b):Mm vn 200 [.own 0, .fn (.func 188) []] [(0, .row 47 l)] 1 (fG vn 200 1 (d200.pat b)):=by
 unfold Yd at hb;split at hb
 case isFalse=>cases hb
 rename_i hlen;have hbl:b=CQ l:=(zF.inj hb).symm;have hln:zR b=zR l:=by rw[hbl];unfold CQ;rw[List.length_mergeSort]
 intro ρ;have ho:fG vn 200 1 (d200.pat b)=⟨.jc [],[(0, .row 47 b)],1⟩:=aV;show Go.Iv.Fn vn 200 [(b9.own 0).sub ρ,(b9.fn (.func 188) []).sub ρ] (bt.res ρ [(0, .row 47 l)]) _;rw[ho,dy,show (b9.fn (dg:=uni.dg) (.func 188) []).sub ρ= .fn (.func 188) []by simp[b9.sub]];intro w A vs hr hd hn;obtain⟨hr1,hr2⟩:=hr;obtain⟨v,v2,rfl⟩:∃v v2,vs=[v,v2]:=by
  match vs,hr1 with
  |[v,v2],_=>exact⟨v,v2,rfl⟩
 have hv:v=ρ.v 0:=(hr2 0 _ v rfl rfl).cL;have hv2:v2= .func (.func 188) #[] #[]:=by
  have:=hr2 1 (.fn (.func 188) []) v2 rfl rfl;cases this with
  |fn f cs us hl hrr=>rw[xw.1 hl]
 subst hv hv2;generalize hv:ρ.v 0=v at*;have hok:=hd.1 (.row v 47 l) (by show _∈[cn.row (ρ.v 0) 47 l];rw[hv];exact zq.2 rfl);obtain⟨us,h1,h2,h3⟩:=hok;have hσ:bt.res ρ [(0, .row 47 l)]=[cn.row v 47 l]:=by show [cn.row (ρ.v 0) 47 l]=_;rw[hv]
 rw[hσ]at hd hn ⊢;have fin:∀w':World,(∃us',gq w' v 47 2 b.length us'/\∀i,i<zR b->bP A w (uni.cells 47 b[i]!) ((us'.drop (i*2)).take 2))->Kp (bD [cn.row v 47 l]) w w'->∃v_1 av σ',Ending.returned (Value.tuple #[])=Ending.returned v_1/\
   (∃ρ',pU 1 ρ ρ'/\av=(b9.jc (dg:=uni.dg) []).sub ρ'/\List.Perm σ' (bt.res ρ' [(0, .row 47 b)]))/\Tr ⟨w,A,bD [cn.row v 47 l]⟩ (bD [cn.row v 47 l]) [cn.row v 47 l] w σ' w'/\Rel (al ⟨w,A,bD [cn.row v 47 l]⟩ σ') w' av v_1:=λw' ⟨us',hrow,hrel⟩ hk=>by
  have hbk:bD [cn.row v 47 b]=bD [cn.row v 47 l]:=rfl;have hal:∀x,al ⟨w,A,bD [cn.row v 47 l]⟩ [cn.row v 47 l] x->al ⟨w,A,bD [cn.row v 47 l]⟩ [cn.row v 47 b] x:=λx h=>h;refine⟨_, .jc [],[cn.row v 47 b],rfl,⟨ρ,λi _=>⟨rfl,rfl⟩,by simp only[b9.sub,yT],by show List.Perm _ [cn.row (ρ.v 0) 47 b];rw[hv]⟩,⟨⟨hk,?_,?_,?_⟩,hk,λx _ h=>⟨hal x h,h.2⟩⟩,Rel.jc [] [] rfl (λj a v q=>by cases q)⟩
  ·intro r hr;rw[zq.1 hr];refine⟨us',hrow,λi _=>rfl,λi hi=>(hrel i hi).mono λx hx hA=> ?_⟩;have hnb:x∉bD [cn.row v 47 l]:=λh=>hd.2 x h hA;exact⟨⟨.inl hA,hnb⟩,hk.block x hx hnb⟩
  ·rw[hbk];exact hn
  ·intro x hx;exact .inl hx
 obtain⟨h1l,hcase⟩:=h1;rcases hcase with ⟨p,hvp,hl0⟩|⟨gb,cap,cur,hvp,hg,q1,q2,q3,q4⟩
 ·have hl:l=[]:=xw.1 hl0;have hbn:b=[]:=by rw[hbl,hl];unfold CQ;rw[List.mergeSort_nil]
  subst hvp;refine(Go.Proofs.AnyF.slices_SortFunc_none {acu with} p 0 (.func (.func 188) #[] #[]) w).mono λe w' he=> ?_;obtain⟨rfl,rfl⟩:=he;refine fin w' ⟨[],?_,λi hi=>by rw[hbn]at hi;cases hi⟩ (Kp.refl _ _);rw[hbn];exact⟨rfl, .inl ⟨p,rfl,rfl⟩⟩
 ·subst hvp;have hgs:gb<w.heap.size:=(xd.1 hg).1;have hAg:¬A gb:=hd.2 gb (bS.2 ⟨_,zq.2 rfl,rfl⟩);have q4:cur.toList.take (zR l*2)=us:=q4;have q3:cur.size=(cap+1)*2:=q3;have h1l:zR us=zR l*2:=h1l;have q1':zR l<=cap+1:=q1;have hsz:zR l<=9223372036854775807:=by have:maxLen=9223372036854775807:=rfl;omega
  obtain⟨d,d1,d2,d3⟩:=Uz h1l h3;have hH:HoldsK nY 2 w gb 0 d:=HT hg d3 (by rw[h1l];exact q4);have hcmp:CmpLays vn 188 #[] nY 2 obC gb 0 d.size w:=λm os dk hdk x y=>by
   refine VH (axA x.1.1 y.1.1 (apD x)) (λc hc hA=>rj hc λe=>hAg (e▸hA))
  have hs:=Go.Proofs.AnyQ.slices_SortFunc acu 2 Tryz.isAgg47 Tryz.sizeOf47 nY kg Dp obC aih 188 #[] gb 0 (cap+1) d w (enters_of func188 aV rfl) hcmp hH hgs (by rw[d1];omega);rw[d1]at hs;refine hs.mono λe w' he=> ?_;obtain⟨rfl,d',n,os,hp,hs,rfl⟩:=he;rw[<-d1]at hp hs;have hbd:(d'.toList.map λx=>x.1.1)=b:=by rw[X9 hp hs,d2,hbl]
  obtain⟨r1,r2⟩:=SJ d' b hbd;have hF:(flatK nY 2 d').size=zR l*2:=by rw[<-yp,r1,hln]
  refine fin _ ⟨(flatK nY 2 d').toList,⟨r1, .inr ⟨gb,cap,_,by rw[hln];rfl,uh hg,by rw[hln];exact q1,q2,by simp[putCells,q3],?_⟩⟩,r2⟩ ?_
  ·have:=OE (F:=flatK nY 2 d') (cur:=cur) (by rw[hF,q3];omega)
   rwa [<-yp,r1]at this
  ·exact P7
def aCM:anV:=λg b hb=>avo g.2.1 b hb
end Go.Proofs.YtnfljbehcffmcaaGreat
end
noncomputable section
set_option maxRecDepth 100000
namespace Go.Proofs.YtnfljbehcffmcaaGreat
open Go Go.Iv Go.Sort Go.Proofs Go.Shelf Go.RowKit Go.Lib
section
variable {α:Type} [Inhabited α] (r:α->α->Bool)
def LU(d:Array α)(j:Nat):Bool:=J (j=0)|| !r d[j]! d[j-1]!
def G5(d:Array α)(m:Nat):aa α:=((zN m).filter (LU r d)).map (d[·]!)
variable {r}
def lY(d:Array α)(m:Nat):G5 r d (m+1)=G5 r d m++(if LU r d m then[d[m]!]else[]):=by
 unfold G5;rw[List.range_succ,xk,zK]
 congr 1
 by_cases h:LU r d m<;>simp[h]
def JP(d:Array α)(m:Nat)(h:∀j,j<m->LU r d j=O):G5 r d m=(zN m).map (d[·]!):=by
 unfold G5;rw[wV.2 (λj hj=>h j (List.mem_range.1 hj))]
def Sv(d:Array α):(zN d.size).map (d[·]!)=d.toList:=by
 apply xY
 ·simp
 ·intro i h1 h2;have hi:i<d.size:=by simpa using h2
  simp[getElem!_pos,hi]
structure CO (r:α->α->Bool) (d:Array α) (m k:Nat) (dk:Array α):Prop where
 size:dk.size=d.size
 len:zR (G5 r d m)=k
 lt:k<m
 low:∀j,j<k->(G5 r d m)[j]? =V dk[j]!
 high:∀j,k<=j->dk[j]! =d[j]!
def CO.start{d:Array α}{k0:Nat}(hall:∀j,j<k0->LU r d j=O)(hdup:LU r d k0=G):CO r d (k0+1) k0 d where
 size:=rfl
 len:=by rw[lY,hdup,JP d k0 hall];simp
 lt:=zC _
 low:=λj hj=>by rw[lY,hdup,JP d k0 hall];simp[hj]
 high:=λ_ _=>rfl
def CO.keep{d dk:Array α}{m k:Nat}(h:CO r d m k dk)(hm:m<d.size)(hk:LU r d m=O):CO r d (m+1) (k+1) (dk.setIfInBounds k d[m]!) where
 size:=by simp[h.size]
 len:=by rw[lY,hk];simp[h.len]
 lt:=by have:=h.lt;omega
 low:=λj hj=>by
  rw[lY,hk,bI rfl];by_cases e:j=k
  ·subst e;rw[wX (by rw[h.len];exact zm _),h.len,xS,getElem!_set_same dk j _ (by have:=h.lt;have:=h.size;omega)];rfl
  ·rw[wY (by rw[h.len];omega),h.low j aq,getElem!_set_other dk k j _ e]
 high:=λj hj=>by rw[getElem!_set_other dk k j _ aq,h.high j aq]
def CO.skip{d dk:Array α}{m k:Nat}(h:CO r d m k dk)(hk:LU r d m=G):CO r d (m+1) k dk where
 size:=h.size
 len:=by rw[lY,hk];simpa using h.len
 lt:=by have:=h.lt;omega
 low:=λj hj=>by rw[lY,hk];simpa using h.low j hj
 high:=h.high
end
section
variable {P:Program} {α:Type} [Inhabited α] {enc:α->aa Value} {k:Nat} {w0 W:World} {blk off:Nat} {dk:Array α}
def ON(hk:∀x,zR (enc x)=k)(d:Array α)(i:Nat)(hi:i<d.size)(x:α):setMany (flatK enc k d) (i*k) (enc x)=flatK enc k (d.setIfInBounds i x):=by
 refine ext_get! (by simp) λt ht=> ?_;have ht':t<d.size*k:=by simpa using ht
 have k0:0<k:=by
  rcases wB k with h|h
  ·subst h;simp at ht'
  ·exact h
 rw[get_setMany _ _ _ t (by simpa using ht'),get_flatK _ _ _ t ht',get_flatK _ _ _ t (by simpa using ht'),hk];by_cases a:t/k=i
 ·rw[bI ((blk_iff k i t k0).2 a),a,getElem!_set_same d i x hi,Nat.mod_eq_sub_div_mul,a]
 ·rw[bO (λh=>a ((blk_iff k i t k0).1 h)),getElem!_set_other d i _ x a]
def Q7(h:SWK enc k w0 blk off dk W)(hk:∀x,zR (enc x)=k)(hb:blk<w0.heap.size)(i:Nat)(hi:i<dk.size)(x:α):SWK enc k w0 blk off (dk.setIfInBounds i x) (W.setCells blk (off+i*k) (enc x)):=by
 obtain⟨n,os,rfl⟩:=h;refine⟨n,os,?_⟩;unfold sortWorldK;rw[setCells_grow os blk _ _ _ (by show blk<(putRowK enc k _ blk off dk).heap.size;rw[size_putRowK];exact hb)]
 congr 1
 unfold putRowK;have:=ym k (show i+1<=dk.size from hi);rw[zX,yK]at this;rw[setCells_putRow _ _ _ _ _ _ (by rw[hk,size_flatK];exact this),ON hk dk i hi x]
def ahZ(h:SWK enc k w0 blk off dk W){d0:Array α}(R:RowK enc k w0 blk off d0)(hs:dk.size=d0.size)(P:Program)(i:Nat)(hi:i<dk.size)(x:α):
  Sem.run P (storeCells ⟨blk,off+i*k,I⟩ (enc x) 0) W= .ok () (W.setCells blk (off+i*k) (enc x)):=
 stores_of_holds P (h.holds R.hblk R.hH hs) (i*k) _ (by rw[R.hk,size_flatK];exact rowK_bnd dk k i hi) (R.h1 _)
end
set_option maxHeartbeats 8000000 in
set_option maxRecDepth 1000000 in
def aeV{P:Program}{α:Type}[Inhabited α](FG:P.funcs[201]? =V f201)(mixed:P.follows .mixedOrders=O)
  (t3:P.underlying 3=V (.int .i64)) (a3:∀w,(isAgg 3).run P w= .ok G w) (z3:∀w,(Go.sizeOf 3).run P w= .ok 1 w) (v3:∀w,(zeroValue 3).run P w= .ok (.int .i64 0) w)
  (t4:P.underlying 4=V .bool) (a4:∀w,(isAgg 4).run P w= .ok G w) (z4:∀w,(Go.sizeOf 4).run P w= .ok 1 w) (v4:∀w,(zeroValue 4).run P w= .ok (.bool G) w)
  (t50:P.underlying 50=V (.slice 47)) (a50:∀w,(isAgg 50).run P w= .ok G w) (z50:∀w,(Go.sizeOf 50).run P w= .ok 1 w) (v50:∀w,(zeroValue 50).run P w= .ok (.slice I 0 0) w)
  (k:Nat) (aE:∀w,(isAgg 47).run P w= .ok O w) (zE:∀w,(Go.sizeOf 47).run P w= .ok k w)
  (enc:α->aa Value) (r:α->α->Bool) (g:Nat) (cb:Array Value) (blk off cap:Nat) (d:Array α) (w:World)
  (eg:∀args w,(callFunc g args).run P w= .ok (.enter g args) w)
  (hcmp:∀(dk:Array α) (W:World),dk.size=d.size->SWK enc k w blk off dk W->∀x y:α,Calls P g (#[.agg (enc x).toArray, .agg (enc y).toArray]++cb) W λe w'=>e= .returned (.bool (r x y))/\∃q os',w'=grow (W.drewN q) os')
  (R:RowK enc k w blk off d) (hsz:d.size<4611686018427387904) (hcap:d.size<=cap)
  (zs:Nat->aa Value) (hclr:∀(W:World) (dk:Array α) (kk:Nat),SWK enc k w blk off dk W->dk.size=d.size->kk<d.size->∀ty,(Builtin.clear_ #[50] ty #[.slice (V ⟨blk,off+kk*k,I⟩) (d.size-kk) (cap-kk)]).run P W= .ok (.tuple #[]) (W.setCells blk (off+kk*k) (zs kk))):
  Calls P 201 #[.slice (V ⟨blk,off,I⟩) d.size cap, .func (.func g) #[] cb] w λe w'=>
   e= .returned (.slice (V ⟨blk,off,I⟩) (G5 r d d.size).length cap)/\∃(dk:Array α) (W:World),SWK enc k w blk off dk W/\dk.size=d.size/\(∀j,j<zR (G5 r d d.size)->(G5 r d d.size)[j]? =V dk[j]!)/\
    (w'=W\/w'=W.setCells blk (off+zR (G5 r d d.size)*k) (zs (G5 r d d.size).length)):=by
 have S00:SWK enc k w blk off d w:=SWK.start R.hH;have HC:Aside _:=hcmp;have HCL:Aside _:=hclr;have S0:Aside (SWK enc k w blk off d w):=S00;have same:∀W,SWK enc k w blk off d W->(∀j,j<d.size->LU r d j=O)->zR (G5 r d d.size)=d.size/\∃(dk:Array α) (W':World),SWK enc k w blk off dk W'/\dk.size=d.size/\(∀j,j<zR (G5 r d d.size)->(G5 r d d.size)[j]? =V dk[j]!)/\(W=W'\/W=W'.setCells blk (off+zR (G5 r d d.size)*k) (zs (G5 r d d.size).length)):=λW hS hall=>by
  have e:G5 r d d.size=d.toList:=by rw[JP d _ hall,Sv]
  refine⟨by rw[e];simp,d,W,hS,rfl,λj hj=> ?_, .inl rfl⟩;rw[e]at hj ⊢;have hj':j<d.size:=by simpa using hj
  rw[zu hj,getElem!_pos d j hj'];simp
 have HS:Aside _:=same;have kp1:∀j,j<1->LU r d j=O:=λj hj=>by
  have:j=0:=aq;subst this;rfl
 clear same S00 hcmp hclr;by_cases h2:d.size<2
 ·have K1:Aside (∀j,j<1->LU r d j=O):=kp1;clear kp1
  go_enter FG,Tryz.ntmps201
  go_wp2
  go_ret
  obtain⟨e1,e2⟩:=HS.out w S0.out (λj hj=>K1.out j aq);exact⟨by rw[e1];rfl,e2⟩
 ·have K1:Aside (∀j,j<1->LU r d j=O):=kp1;clear kp1
  go_enter FG,Tryz.ntmps201
  go_wp2
  go_loopg [5] d.size (λg1 s5 wr=>∃(k1:Nat),s5= .int .i64 k1/\1<=k1/\k1<=d.size/\d.size-k1<=g1/\Aside (SWK enc k w blk off d wr)/\Aside (∀j,j<k1->LU r d j=O))
  case atStart=>exact⟨1,rfl,zm _,aq,aq,S0,K1⟩
  case round=>
   obtain⟨k1,rfl,hk1,hk2,hg,S1,A1⟩:=hrel;by_cases hlt:k1<d.size
   ·obtain⟨kp,rfl⟩:∃kp,k1=kp+1:=⟨k1-1,aq⟩;obtain⟨xj,hxj⟩:∃x,d[kp+1]! =x:=⟨_,rfl⟩;obtain⟨xp,hxp⟩:∃x,d[kp]! =x:=⟨_,rfl⟩;have hwp:IntKind.i64.wrap (kp:Int)=(kp:Int):=by rw[IntKind.wrap_i64];omega
    have jz:(kp:Int)+1<(d.size:Int):=aq;have jz1:(kp:Int)<(d.size:Int):=aq;have p0:(0:Int)<=(kp:Int)+1:=aq;have e0:((kp:Int)+1).toNat=kp+1:=aq;have lj:∀n' os',Sem.run P (loadCellsFrom ⟨blk,off+(kp+1)*k,I⟩ 0 k #[]) (grow (wr.drewN n') os')= .ok (enc xj).toArray (grow (wr.drewN n') os'):=λn' os'=>by
     rw[<-hxj];exact S1.out.ld R rfl P (kp+1) hlt n' os'
    have lp:∀n' os',Sem.run P (loadCellsFrom ⟨blk,off+kp*k,I⟩ 0 k #[]) (grow (wr.drewN n') os')= .ok (enc xp).toArray (grow (wr.drewN n') os'):=λn' os'=>by
     rw[<-hxp];exact S1.out.ld R rfl P kp aq n' os'
    have hcg:∀n' os',Calls P g (#[.agg (enc xj).toArray, .agg (enc xp).toArray]++cb) (grow (wr.drewN n') os') λe w'=>e= .returned (.bool (r xj xp))/\∃q os'',w'=grow ((grow (wr.drewN n') os').drewN q) os'':=λn' os'=>HC.out d _ rfl (S1.out.grown n' os') xj xp;cases hr:r xj xp with
    |true=>
     rw[hr]at hcg
     go_wp2_with fail
     go_quiet_grown (first|(go_at_fn g;refine Calls.grown_of (hcg _ _)))
     have S2:Aside (SWK enc k w blk off d (grow (wr.drewN nq) osq)):=S1.out.grown nq osq;have I0:Aside (CO r d (kp+1+1) (kp+1) d):=CO.start A1.out (by unfold LU;rw[wJ,hxj,hxp,hr];simp);clear lj lp hcg;generalize grow (wr.drewN nq) osq=wq at S2 ⊢
     go_wp2
     go_loopg [5,7] d.size (λg2 s5 s7 wr=>∃(kk k2:Nat) (dk:Array α),s5= .int .i64 kk/\s7= .int .i64 k2/\1<=k2/\kp+1+k2<=d.size/\d.size-(kp+1+k2)<=g2/\Aside (SWK enc k w blk off dk wr)/\Aside (CO r d (kp+1+k2) kk dk))
     case atStart=>exact⟨kp+1,1,d,rfl,rfl,zm _,aq,aq,S2,I0⟩
     case round=>
      obtain⟨kk,k2,dk,rfl,rfl,hk21,hle,hg2,S3,I3⟩:=hrel;have hds:=I3.out.size;have hkk:=I3.out.lt;by_cases hlt2:kp+1+k2<d.size
      ·obtain⟨kq,rfl⟩:∃kq,k2=kq+1:=⟨k2-1,aq⟩;obtain⟨xm,hxm⟩:∃x,d[kp+1+(kq+1)]! =x:=⟨_,rfl⟩;obtain⟨xq,hxq⟩:∃x,d[kp+1+kq]! =x:=⟨_,rfl⟩;have hm:dk[kp+1+(kq+1)]! =xm:=by rw[I3.out.high _ aq,hxm]
       have hq:dk[kp+1+kq]! =xq:=by rw[I3.out.high _ aq,hxq]
       have hwq:IntKind.i64.wrap (kq:Int)=(kq:Int):=by rw[IntKind.wrap_i64];omega
       have q0:(0:Int)<=(kq:Int)+1:=aq;have f0:((kq:Int)+1).toNat=kq+1:=aq;have lm:∀n' os',Sem.run P (loadCellsFrom ⟨blk,off+(kp+1)*k+(kq+1)*k,I⟩ 0 k #[]) (grow (wr.drewN n') os')= .ok (enc xm).toArray (grow (wr.drewN n') os'):=λn' os'=>by
        have:=S3.out.ld R hds P (kp+1+(kq+1)) aq n' os';rw[hm,zX (kp+1) (kq+1),<-yF]at this;exact this
       have lq:∀n' os',Sem.run P (loadCellsFrom ⟨blk,off+(kp+1)*k+kq*k,I⟩ 0 k #[]) (grow (wr.drewN n') os')= .ok (enc xq).toArray (grow (wr.drewN n') os'):=λn' os'=>by
        have:=S3.out.ld R hds P (kp+1+kq) aq n' os';rw[hq,zX (kp+1) kq,<-yF]at this;exact this
       have hcg:∀n' os',Calls P g (#[.agg (enc xm).toArray, .agg (enc xq).toArray]++cb) (grow (wr.drewN n') os') λe w'=>e= .returned (.bool (r xm xq))/\∃q os'',w'=grow ((grow (wr.drewN n') os').drewN q) os'':=λn' os'=>HC.out dk _ hds (S3.out.grown n' os') xm xq;have jl:(kq:Int)+1<((d.size-(kp+1):Nat):Int):=aq;have jl1:(kq:Int)<((d.size-(kp+1):Nat):Int):=aq;cases hr2:r xm xq with
       |true=>
        rw[hr2]at hcg
        go_wp2_with fail
        go_quiet_grown (first|(go_at_fn g;refine Calls.grown_of (hcg _ _)))
        go_wp2
        go_roundg (d.size-(kp+1+(kq+1+1)))
        case measure=>omega
        case rel=>exact⟨kk,kq+1+1,dk,rfl,by go_num,aq,aq,zm _,S3.out.grown nq osq,I3.out.skip (by unfold LU;rw[show kp+1+(kq+1)-1=kp+1+kq by omega,hxm,hxq,hr2];simp)⟩
       |false=>
        rw[hr2]at hcg
        go_wp2_with fail
        go_quiet_grown (first|(go_at_fn g;refine Calls.grown_of (hcg _ _)))
        have lm3:=lm nq osq;have S4:Aside (SWK enc k w blk off dk (grow (wr.drewN nq) osq)):=S3.out.grown nq osq;have st:=ahZ S4.out R hds P kk aq xm;have S5:Aside (SWK enc k w blk off (dk.setIfInBounds kk xm) ((grow (wr.drewN nq) osq).setCells blk (off+kk*k) (enc xm))):=Q7 S4.out R.hk R.hblk kk aq xm;have hlm:zR (enc xm)=k:=R.hk xm;have I4:Aside (CO r d (kp+1+(kq+1)+1) (kk+1) (dk.setIfInBounds kk xm)):=by
         have:=I3.out.keep hlt2 (by unfold LU;rw[show kp+1+(kq+1)-1=kp+1+kq by omega,hxm,hxq,hr2];simp)
         rwa [hxm]at this
        have kz:(kk:Int)<(d.size:Int):=aq;have kz0:(0:Int)<=(kk:Int):=aq;clear lm lq hcg;generalize grow (wr.drewN nq) osq=wq3 at lm3 S4 st S5 ⊢;generalize enc xm=cm at lm3 st S5 hlm
        go_wp2
        go_roundg (d.size-(kp+1+(kq+1+1)))
        case measure=>omega
        case rel=>exact⟨kk+1,kq+1+1,dk.setIfInBounds kk xm,by go_num,by go_num,aq,aq,zm _,S5,I4⟩
      ·have hend:kp+1+k2=d.size:=aq;have hcl:=λty=>HCL.out wr dk kk S3.out hds aq ty;have kz:(kk:Int)<=(d.size:Int):=aq;have kz1:(kk:Int)<=(cap:Int):=aq
       go_wp2
       go_ret
       have hI:=I3.out;rw[hend]at hI;exact⟨by rw[hI.len];rfl,dk,wr,S3.out,hds,λj hj=>hI.low j (by rw[<-hI.len];exact hj), .inr (by rw[hI.len])⟩
    |false=>
     rw[hr]at hcg
     go_wp2_with fail
     go_quiet_grown (first|(go_at_fn g;refine Calls.grown_of (hcg _ _)))
     go_wp2
     go_roundg (d.size-(kp+1+1))
     case measure=>omega
     case rel=>
      refine⟨kp+1+1,by go_num,aq,aq,zm _,S1.out.grown nq osq,λj hj=> ?_⟩;by_cases e:j=kp+1
      ·subst e;unfold LU;rw[wJ,hxj,hxp,hr];simp
      ·exact A1.out j aq
   ·have:k1=d.size:=aq;subst this
    go_wp2
    go_ret
    obtain⟨e1,e2⟩:=HS.out _ S1.out A1.out;exact⟨by rw[e1];rfl,e2⟩
set_option maxHeartbeats 1000000 in
def Kr(FG:vn.funcs[201]? =V f201)(p:af Addr)(cap:Nat)(fv:Value)(w:World):
  Calls vn 201 #[.slice p 0 cap,fv] w λe w'=>e= .returned (.slice p 0 cap)/\w'=w:=by
 go_enter FG,Tryz.ntmps201
 go_wp2
 go_ret
 exact⟨rfl,rfl⟩
end Go.Proofs.YtnfljbehcffmcaaGreat
end
noncomputable section
set_option maxRecDepth 100000
namespace Go.Proofs.YtnfljbehcffmcaaGreat
open Go Go.Iv Go.Sort Go.Proofs
abbrev aDk:=aa aC
def d201:Td 1 aDk:= .c [] [4] (.r 1 2 (ec 4 (qo 1) en) (sr 1 47 sn) (λz=>z.2.1) (λx=>(((),()),(x,()))))
def aCB:=(lc (qo 0) (lc (qf 252 ln) ln))
def aAC:=(sr 0 47 sn)
def Ze(b0:aa aC):af aDk:=if zR b0<=1073741824 then V (vY b0)else I
def ao3:Prop:=HY vn 201 1 aCB aAC d201 (λg=>Ze g.2.1)
def aGn:bu->bu:=eY vn 201 1 aCB aAC d201 (λg=>Ze g.2.1)
def acL(hv:ao3){F:bu}(h:bz vn F):bz vn (aGn F):=CB hv ⟨_,func201,aV,aV⟩ (λ_=>aV) h
def gK{g:Nat}{T:TypeId}:∀(vs:aa Value) (o:Nat) (W:World) (cur:Array Value),W.heap[g]? =V (.cells cur T (0,0))->(W.setCells g o vs).heap[g]? =V (.cells (setMany cur o vs) T (0,0))
 |[],_,_,_,h=>h
 |v::vs,o,W,cur,h=>by
  rw[World.setCells,setMany];refine gK vs (o+1) _ _ ?_;rw[setCell_eq];simp[mapBlock,vk,h,onCells]
def jf{g:Nat}:∀(vs:aa Value) (o:Nat) (W:World),Kp [g] W (W.setCells g o vs)
 |[],_,W=>Kp.refl _ W
 |v::vs,o,W=>by
  rw[World.setCells];refine Kp.trans (w1:=W.setCell ⟨g,o,I⟩ v) (X:=[g]) (Y:=[g]) ?_ (jf vs (o+1) _) (λb hb _=>hb);rw[setCell_eq];refine⟨rfl,rfl,rfl,zm _,by simp[mapBlock],λk hk hX=> ?_⟩;have:g≠k:=λe=>hX (by simp[e]);simp[mapBlock,vk,this]
def HD(x:aC):∀(l:aa aC) (p:aC),oy p (l++[x])=oy p l++if dI x (l.getLastD p)=0 then[]else[x]
 |[],p=>by
  by_cases h:dI x p=0<;>simp[oy,h]
 |y::l,p=>by
  simp only[xz,oy];rw[HD x l y];have e:(y::l).getLastD p=l.getLastD y:=by cases l<;>rfl
  rw[e];split<;>simp
section
variable {A:Nat->Prop} {w:World}
def eqO(x y:Ob A w):Bool:=J (dI x.1.1 y.1.1=0)
def Wy(d:Array (Ob A w)):∀m,m<=d.size->(G5 eqO d m).map (λx=>x.1.1)=vY ((d.toList.map λx=>x.1.1).take m)
 |0,_=>by simp[G5,vY]
 |m+1,hm=>by
  have ih:=Wy d m aq;have hl:m<zR (d.toList.map λx=>x.1.1):=by simp;omega
  have eg:∀j,j<d.size->(d.toList.map λx=>x.1.1)[j]! =d[j]!.1.1:=λj hj=>by
   rw[getElem!_pos _ j (by simpa using hj),getElem!_pos d j hj];simp
  rw[lY,zK,ih,bC hl,eg m aq];by_cases h0:m=0
  ·subst h0;simp[LU,vY,oy]
  ·obtain⟨n,rfl⟩:∃n,m=n+1:=⟨m-1,aq⟩;have hl2:n<zR (d.toList.map λx=>x.1.1):=by simp;omega
   have e2:(d.toList.map λx=>x.1.1).take (n+1)=(d.toList.map λx=>x.1.1).take n++[d[n]!.1.1]:=by rw[bC hl2,eg n aq]
   obtain⟨q,hq⟩:∃q,q=(d.toList.map λx=>x.1.1).take (n+1):=⟨_,rfl⟩;rw[<-hq];cases q with
   |nil=>rw[e2]at hq;simp at hq
   |cons a q=>
    show _=a::oy a (q++[d[n+1]!.1.1]);rw[HD];have:q.getLastD a=d[n]!.1.1:=by
     have h1:=congrArg List.getLast? hq;rw[e2,List.getLast?_append,List.getLast?_singleton,Option.some_or,List.getLast?_cons]at h1;rw[List.getLastD_eq_getLast?];exact zF.inj h1
    rw[this];unfold LU eqO;rw[wJ];by_cases hc:dI d[n+1]!.1.1 d[n]!.1.1=0<;>simp[hc,vY]
end
def Xj:∀(l:aa aC) (p:aC),zR (oy p l)<=zR l
 |[],_=>zm _
 |y::l,p=>by
  have:=Xj l y;unfold oy;split<;>simp<;>omega
def amO(l:aa aC):zR (vY l)<=zR l:=by
 cases l with
 |nil=>exact zm _
 |cons x l=>have:=Xj l x;simp[vY];omega
def ajx{W:World}{gb n kk:Nat}{F:Array Value}(h:W.heap[gb]? =V (.cells F 47 (0,0)))(hs:n*2<=F.size)(hk:kk<n){c:Nat}{ty:TypeId}:
  (Builtin.clear_ #[50] ty #[.slice (V ⟨gb,0+kk*2,I⟩) (n-kk) c]).run vn W= .ok (.tuple #[]) (W.setCells gb (0+kk*2) (Builtin.zeroCells #[.slice I 0 0, .int .i64 0] (n-kk)).toList):=by
 have hl:zR (Builtin.zeroCells #[.slice I 0 0, .int .i64 0] (n-kk)).toList=(n-kk)*2:=by simp[Builtin.zeroCells]
 have hst:=run_storeCells_cells (P:=vn) gb (0+kk*2) (Builtin.zeroCells #[.slice I 0 0, .int .i64 0] (n-kk)).toList 0 W (λj hj=>by
   rw[hl]at hj;simp only[World.cell?,h,vh,yu,GL];rw[xe aq];rfl) (λj hj=>by simp[World.frozen?,h]) (λv hv=>by
   simp only[Builtin.zeroCells,Array.toList_map,zL]at hv;obtain⟨i,_,rfl⟩:=hv;have:i%(#[.slice I 0 0, .int .i64 0]:Array Value).size<2:=yV _ (by decide);generalize i%(#[.slice I 0 0, .int .i64 0]:Array Value).size=q at this
   match q,this with
   |0,_=>rfl
   |1,_=>rfl)
 simp only[yh]at hst;obtain⟨m,hm⟩:∃m,n-kk=m+1:=⟨n-kk-1,aq⟩;rw[hm]at hst ⊢;rw[yj]at hst ⊢;simp[Builtin.clear_,run_underlying underlying50,Tryz.zeroValue47,Value.cells,hst]
def aqA(l b:aa aC)(hb:Ze l=V b):Mm vn 201 [.own 0, .fn (.func 252) []] [(0, .row 47 l)] 1 (fG vn 201 1 (d201.pat b)):=by
 unfold Ze at hb;split at hb
 case isFalse=>cases hb
 rename_i hlen;have hbl:b=vY l:=(zF.inj hb).symm;intro ρ;have ho:fG vn 201 1 (d201.pat b)=⟨.own 1,[(1, .row 47 b)],2⟩:=aV;show Go.Iv.Fn vn 201 [(b9.own 0).sub ρ,(b9.fn (.func 252) []).sub ρ] (bt.res ρ [(0, .row 47 l)]) _;rw[ho,dy,show (b9.fn (dg:=uni.dg) (.func 252) []).sub ρ= .fn (.func 252) []by simp[b9.sub]];intro w A vs hr hd hn;obtain⟨hr1,hr2⟩:=hr;obtain⟨v,v2,rfl⟩:∃v v2,vs=[v,v2]:=by
  match vs,hr1 with
  |[v,v2],_=>exact⟨v,v2,rfl⟩
 have hv:v=ρ.v 0:=(hr2 0 _ v rfl rfl).cL;have hv2:v2= .func (.func 252) #[] #[]:=by
  have:=hr2 1 (.fn (.func 252) []) v2 rfl rfl;cases this with
  |fn f cs us hl hrr=>rw[xw.1 hl]
 subst hv hv2;generalize hv:ρ.v 0=v at*;have hok:=hd.1 (.row v 47 l) (by show _∈[cn.row (ρ.v 0) 47 l];rw[hv];exact zq.2 rfl);obtain⟨us,h1,h2,h3⟩:=hok;have hσ:bt.res ρ [(0, .row 47 l)]=[cn.row v 47 l]:=by show [cn.row (ρ.v 0) 47 l]=_;rw[hv]
 rw[hσ]at hd hn ⊢;have fin:∀(w':World) (u:Value),gJ u=gJ v->(∃us',gq w' u 47 2 b.length us'/\∀i,i<zR b->bP A w (uni.cells 47 b[i]!) ((us'.drop (i*2)).take 2))->Kp (bD [cn.row v 47 l]) w w'->∃v_1 av σ',Ending.returned u=Ending.returned v_1/\
   (∃ρ',pU 1 ρ ρ'/\av=(b9.own (dg:=uni.dg) 1).sub ρ'/\List.Perm σ' (bt.res ρ' [(1, .row 47 b)]))/\Tr ⟨w,A,bD [cn.row v 47 l]⟩ (bD [cn.row v 47 l]) [cn.row v 47 l] w σ' w'/\Rel (al ⟨w,A,bD [cn.row v 47 l]⟩ σ') w' av v_1:=λw' u hu ⟨us',hrow,hrel⟩ hk=>by
  have hbk:bD [cn.row u 47 b]=bD [cn.row v 47 l]:=by simp only[bD,xE,cn.blk,hu]
  have hal:∀x,al ⟨w,A,bD [cn.row v 47 l]⟩ [cn.row v 47 l] x->al ⟨w,A,bD [cn.row v 47 l]⟩ [cn.row u 47 b] x:=λx h=>⟨h.1,by rw[hbk];exact h.2⟩;refine⟨u, .lit u,[cn.row u 47 b],rfl,⟨⟨λi=>if i=1 then u else ρ.v i,ρ.b⟩,λi hi=>⟨by show _=if i=1 then u else ρ.v i;rw[bO aq],rfl⟩,by rw[dy];rfl,List.Perm.refl _⟩,⟨⟨hk,?_,?_,?_⟩,hk,λx _ h=>⟨hal x h,h.2⟩⟩, .lit u⟩
  ·intro r hr;rw[zq.1 hr];refine⟨us',hrow,λi _=>rfl,λi hi=>(hrel i hi).mono λx hx hA=> ?_⟩;have hnb:x∉bD [cn.row v 47 l]:=λh=>hd.2 x h hA;exact⟨⟨.inl hA,by rw[hbk];exact hnb⟩,hk.block x hx hnb⟩
  ·rw[hbk];exact hn
  ·intro x hx;rw[hbk]at hx;exact .inl hx
 obtain⟨h1l,hcase⟩:=h1;rcases hcase with ⟨p,hvp,hl0⟩|⟨gb,cap,cur,hvp,hg,q1,q2,q3,q4⟩
 ·have hl:l=[]:=xw.1 hl0;have hbn:b=[]:=by rw[hbl,hl];rfl
  subst hvp;refine(Kr func201 p 0 (.func (.func 252) #[] #[]) w).mono λe w' he=> ?_;obtain⟨rfl,rfl⟩:=he;refine fin w' _ rfl ⟨[],?_,λi hi=>by rw[hbn]at hi;cases hi⟩ (Kp.refl _ _);rw[hbn];exact⟨rfl, .inl ⟨p,rfl,rfl⟩⟩
 ·subst hvp;have hgs:gb<w.heap.size:=(xd.1 hg).1;have hAg:¬A gb:=hd.2 gb (bS.2 ⟨_,zq.2 rfl,rfl⟩);have q4:cur.toList.take (zR l*2)=us:=q4;have q3:cur.size=(cap+1)*2:=q3;have h1l:zR us=zR l*2:=h1l;have q1':zR l<=cap+1:=q1;obtain⟨d,d1,d2,d3⟩:=Uz h1l h3;have hH:HoldsK nY 2 w gb 0 d:=HT hg d3 (by rw[h1l];exact q4);have hcmp:∀(dk:Array (Ob A w)) (W:World),dk.size=d.size->SWK nY 2 w gb 0 dk W->∀x y:Ob A w,Calls vn 252 (#[.agg (nY x).toArray, .agg (nY y).toArray]++#[]) W λe w'=>e= .returned (.bool (eqO x y))/\∃q os',w'=grow (W.drewN q) os':=λdk W hdk ⟨n,os,hW⟩ x y=>by
   subst hW;exact VH (awe x.1.1 y.1.1 (apD x)) (λc hc hA=>rj hc λe=>hAg (e▸hA))
  have hs:=aeV (P:=vn) func201 aV underlying3 Tryz.isAgg3 Tryz.sizeOf3 Tryz.zeroValue3 underlying4 Tryz.isAgg4 Tryz.sizeOf4 Tryz.zeroValue4 underlying50 Tryz.isAgg50 Tryz.sizeOf50 Tryz.zeroValue50
   2 Tryz.isAgg47 Tryz.sizeOf47 nY eqO 252 #[] gb 0 (cap+1) d w (enters_of func252 aV rfl) hcmp ⟨kg,Dp,hH,hgs⟩ (by rw[d1];omega) (by rw[d1];exact q1')
   (λkk=>(Builtin.zeroCells #[.slice I 0 0, .int .i64 0] (d.size-kk)).toList) (λW dk kk hS hdk hkk ty=>by
    obtain⟨n,os,rfl⟩:=hS;exact ajx (uh hg) (by simp[putCells,q3];omega) hkk)
  rw[d1]at hs;refine hs.mono λe w' he=> ?_;obtain⟨rfl,dk,W,⟨n,os,hW⟩,hdk,hlow,hfin⟩:=he;rw[<-d1]at hlow hfin ⊢;obtain⟨L,hL⟩:∃L,L=G5 eqO d d.size:=⟨_,rfl⟩;rw[<-hL]at hlow hfin ⊢;have hLb:L.map (λx=>x.1.1)=b:=by
   rw[hL,Wy d d.size (zm _),d2,d1,zG,hbl]
  have hLlen:zR L=zR b:=by rw[<-hLb,zn]
  have hbll:zR b<=zR l:=by rw[hbl];exact amO l
  have hWg:W.heap[gb]? =V (.cells (putCells id 0 (flatK nY 2 dk) cur) 47 (0,0)):=by rw[hW];exact uh hg
  have hkW:Kp [gb] w W:=by rw[hW];exact P7
  have hFs:(flatK nY 2 dk).size=zR l*2:=by rw[size_flatK,hdk]
  obtain⟨F,hF1,hF2,hF3,hF4⟩:∃F:Array Value,w'.heap[gb]? =V (.cells F 47 (0,0))/\F.size=(cap+1)*2/\F.toList.take (zR b*2)=(flatK nY 2 dk).toList.take (zR b*2)/\Kp [gb] w w':=by
   have ht:=OE (F:=flatK nY 2 dk) (cur:=cur) (by rw[hFs,q3];omega);have ht2:(putCells id 0 (flatK nY 2 dk) cur).toList.take (zR b*2)=(flatK nY 2 dk).toList.take (zR b*2):=by
    rw[<-ht,List.take_take,Nat.min_eq_left (by rw[hFs];omega)]
   rcases hfin with rfl|rfl
   ·exact⟨_,hWg,by simp[putCells,q3],ht2,hkW⟩
   ·refine⟨_,gK _ _ _ _ hWg,by simp[putCells,q3],?_,Kp.trans hkW (jf _ _ _) λx hx _=>hx⟩;rw[<-ht2];apply List.ext_getElem?;intro j;by_cases hj:j<zR b*2
    ·rw[wu hj,wu hj,wP,wP];have hjs:j<(putCells id 0 (flatK nY 2 dk) cur).size:=by simp[putCells,q3];omega
     have:=get_setMany ((Builtin.zeroCells #[.slice I 0 0, .int .i64 0] (d.size-L.length)).toList) (0+zR L*2) _ j hjs;rw[bO aq,getElem!_pos _ j (by simpa using hjs),getElem!_pos _ j hjs]at this;rw[xe (by simpa using hjs),xe hjs,this]
    ·rw[List.getElem?_take_eq_none aq,List.getElem?_take_eq_none aq]
  have hdl:flatK nY 2 L.toArray=((flatK nY 2 dk).toList.take (zR b*2)).toArray:=by
   refine ext_get! (by simp[hLlen,hFs];omega) λt ht=> ?_;have ht:t<zR L*2:=by simpa using ht
   rw[get_flatK _ _ _ t (by simpa using ht)];have e1:(L.toArray)[t/2]! =dk[t/2]! :=by
    have:=hlow (t/2) aq;rw[getElem!_pos _ (t/2) (by simp;omega)];rw[zu aq]at this;simpa using zF.inj this
   have e2:(((flatK nY 2 dk).toList.take (zR b*2)).toArray)[t]! =(flatK nY 2 dk)[t]! :=by
    rw[getElem!_pos _ t (by simp[hFs];omega),getElem!_pos _ t (by rw[hFs];omega)];simp
   rw[e1,e2,get_flatK _ _ _ t (by rw[hdk];omega)]
  obtain⟨r1,r2⟩:=SJ L.toArray b (by simpa using hLb);rw[hdl]at r1 r2;refine fin w' _ rfl ⟨(flatK nY 2 dk).toList.take (zR b*2),⟨by simpa using r1, .inr ⟨gb,cap,F,by rw[hLlen],hF1,aq,q2,hF2,hF3⟩⟩,λi hi=>by simpa using r2 i hi⟩ hF4
def aA6:ao3:=λg b hb=>aqA g.2.1 b hb
end Go.Proofs.YtnfljbehcffmcaaGreat
end
noncomputable section
set_option maxRecDepth 100000
namespace Go.Proofs.YtnfljbehcffmcaaGreat
open Go Go.Iv
open Go.IntKind (i64 u64)
abbrev axU:=aa aL
def d127:Td 0 axU:= .c [] [2] (.r 0 1 (ec 2 (qo 0) en) (sr 0 34 sn) (λz=>z.2.1) (λx=>(((),()),(x,()))))
def asi(a0:aU):af axU:=
 match m39 a0 with|I=>I|V r1=>V (r1)
def aEp:=eL vn 127 G (lc (qg 26) ln) d127 (λg=>asi g.1)
def aiA:EO aEp:=λh=>kL (an:= .no) func127 (arL aP) aH h
structure Pc where
 (t0 t1:List Int)
 (t12 t13:Int)
def aa8:Td 0 Pc:= .c [] [0,1,12,13] (.r 0 0 (ec 0 (ql 3) (ec 1 (ql 3) (ec 12 aN (ec 13 aN en)))) sn (λz=>⟨z.1.1,z.1.2.1,z.1.t.1,z.1.t.2.1⟩) (λx=>((x.t0,x.t1,x.t12,x.t13,()),(()))))
def Uv(p:Pc):af (af Pc):=
 bif J (p.t13<p.t12)then if 0<=p.t13/\p.t13<zR p.t0 then if 0<=p.t13/\p.t13<zR p.t1 then bif bif J (p.t0[zD p.t13]! =p.t1[zD p.t13]!)then G else O then V (I)else V (V (Pc.mk p.t0 p.t1 p.t12 (ak (p.t13+1))))else I else I else V (I)
def VT:=bJ (Uv)
abbrev E77:=Bool
def d77:Td 0 E77:= .c [] [4] (.r 0 0 (ec 4 qb en) sn (λz=>z.1.1) (λx=>((x,()),(()))))
def m77(a0:aa Int)(a1:aa Int):af E77:=
 bif bif J ((zR a0:Int)=(zR a1:Int))then G else O then V G else match VT (Pc.mk a0 a1 a0.length 0)with|I=>I|V r1=>bif J (r1.t13<r1.t12)then if 0<=r1.t13/\r1.t13<zR r1.t0 then if 0<=r1.t13/\r1.t13<zR r1.t1 then bif bif J (r1.t0[zD r1.t13]! =r1.t1[zD r1.t13]!)then G else O then V G else I else I else I else V O
def e77:=eL vn 77 G (lc (ql 3) (lc (ql 3) ln)) d77 (λg=>m77 g.1 g.2.1)
def adU:EO e77:=λh=>kL (an:=(noTwo (noTwo (.two (noTwo (aa8.lp VT .no)) .no)))) (l:=[(aY f77 0,(aa8.lp VT .no))]) func77 aP (aA (aO aa8) aH) h
def PS:EP e77:=λh=>kP h
abbrev azn:=Int
def d108:Td 0 azn:= .c [] [2] (.r 0 0 (ec 2 aN en) sn (λz=>z.1.1) (λx=>((x,()),(()))))
def MJ(a0:aL):azn:=
 ak (ak (a0.ag-a0.ah)+1)
def Zo:=eL vn 108 G (lc (qg 34) ln) d108 (λg=>V (MJ g.1))
def Xm:EO Zo:=λh=>kL (an:= .no) func108 aP aH h
abbrev aCy:=Bool
def d107:Td 0 aCy:= .c [] [2] (.r 0 0 (ec 2 qb en) sn (λz=>z.1.1) (λx=>((x,()),(()))))
def Yj(a0:aL):aCy:=
 J (1<MJ a0)
def axi:=eL vn 107 G (lc (qg 34) ln) d107 (λg=>V (Yj g.1))
def L9:EO axi:=λh=>kL (an:= .no) func107 (Xm aP) aH h
structure Fi where
 t0:List aL
 (t7 t8:Int)
def Sj:Td 0 Fi:= .c [] [0,1,7,8] (.r 0 0 (ec 0 (ql 34) (ec 1 (qf 107 ln) (ec 7 aN (ec 8 aN en)))) sn (λz=>⟨z.1.1,z.1.t.1,z.1.t.2.1⟩) (λx=>((x.t0,(()),x.t7,x.t8,()),(()))))
def FP(p:Fi):af (af Fi):=
 bif J (p.t8<p.t7)then if 0<=p.t8/\p.t8<zR p.t0 then bif Yj p.t0[zD p.t8]! then V (I)else V (V (Fi.mk p.t0 p.t7 (ak (p.t8+1))))else I else V (I)
def Kh:=bJ (FP)
abbrev aDc:=Int
def d190:Td 0 aDc:= .c [] [4] (.r 0 0 (ec 4 aN en) sn (λz=>z.1.1) (λx=>((x,()),(()))))
def as3(a0:aa aL):af aDc:=
 match Kh (Fi.mk a0 a0.length 0)with|I=>I|V r1=>bif J (r1.t8<r1.t7)then if 0<=r1.t8/\r1.t8<zR r1.t0 then bif Yj r1.t0[zD r1.t8]! then V (r1.t8)else I else I else V (-1)
def aGv:=eL vn 190 G (lc (ql 34) (lc (qf 107 ln) ln)) d190 (λg=>as3 g.1)
def ahs:EO aGv:=λh=>kL (an:=(noTwo (.two (noTwo (Sj.lp Kh .no)) .no))) (l:=[(aY f190 0,(Sj.lp Kh .no))]) func190 (L9 aP) (aA (aO Sj) aH) h
abbrev aya:=Bool
def d106:Td 0 aya:= .c [] [4] (.r 0 0 (ec 4 qb en) sn (λz=>z.1.1) (λx=>((x,()),(()))))
def aik(a0:aa aL):af aya:=
 match as3 a0 with|I=>I|V r1=>V (J (0<=r1))
def ak1:=eL vn 106 G (lc (ql 34) (lc (qf 107 ln) ln)) d106 (λg=>aik g.1)
def akI:EO ak1:=λh=>kL (an:= .no) func106 (ahs (L9 aP)) aH h
abbrev awM:=Bool
def d187:Td 0 awM:= .c [] [4] (.r 0 0 (ec 4 qb en) sn (λz=>z.1.1) (λx=>((x,()),(()))))
def ah5(a0:aC)(a1:aC):af awM:=
 match KA a0 a1 with|I=>I|V r1=>V (J (r1=0))
def aGM:=eL vn 187 G (lc (qg 47) (lc (qg 47) ln)) d187 (λg=>ah5 g.1 g.2.1)
def Xd:EO aGM:=λh=>kL (an:= .no) func187 (sK aP) aH h
def ay8:bu:=(e77 di)
abbrev axN:=Bool
def d189:Td 0 axN:= .c [] [4] (.r 0 0 (ec 4 qb en) sn (λz=>z.1.1) (λx=>((x,()),(()))))
def aAy:∀f∈([77]:aa Nat),bA (ay8) f:=(aA (PS bF) aH)
def acH(a0:Cell)(a1:Cell):af axN:=
 match bif J (a0.b8=a1.b8)then bif J (a0.iQ=a1.iQ)then bif J (a0.gv=a1.gv)then match m77 a0.ax a1.ax with|I=>I|V r1=>bif r1 then match m77 a0.cE a1.cE with|I=>I|V r2=>V (r2)else V (G)else V (G)else V (G)else V (G)with|I=>I|V r3=>V (r3)
def aFF:=eL vn 189 G (lc (qg 117) (lc (qg 117) ln)) d189 (λg=>acH g.1 g.2.1)
def Xc:EO aFF:=λh=>kL (F:=ay8) (an:=(noTwo (.two (.rb [77] 4) .no))) (l:=[(.skip,(.rb [77] 4))]) func189 (adU aP) (aA aAy aH) h
structure LE (α β:Type) where
 t1:List β
 t15:List α
 (t16 t17:Int)
def dE(ta tb k:Nat):Td 0 (LE (uni.dg ta) (uni.dg tb)):= .c [] [1,2,15,16,17] (.r 0 0 (ec 1 (ql tb) (ec 2 (qf k ln) (ec 15 (ql ta) (ec 16 aN (ec 17 aN en))))) sn (λz=>⟨z.1.1,z.1.2.2.1,z.1.2.2.2.1,z.1.2.2.2.2.1⟩) (λx=>((x.t1,(()),x.t15,x.t16,x.t17,()),(()))) λ_=>rfl)
def nE{α β:Type}[Inhabited α][Inhabited β](q:α->β->af Bool)(p:LE α β):af (af (LE α β)):=
 bif J (p.t17<p.t16)then if(0:Int)<=p.t17/\p.t17<(zR p.t15:Int)then if(0:Int)<=p.t17/\p.t17<(zR p.t1:Int)then match q p.t15[zD p.t17]! p.t1[zD p.t17]! with|I=>I|V r1=>bif bif r1 then G else O then V (I)else V (V (LE.mk p.t1 p.t15 p.t16 (ak (p.t17+1))))else I else I else V (I)
def mE{α β:Type}[Inhabited α][Inhabited β](q:α->β->af Bool)(a0:aa α)(a1:aa β):af Bool:=
 bif bif J ((zR a0:Int)=(zR a1:Int))then G else O then V (G)else match bJ (nE q) (LE.mk a1 a0 (zR a0:Int) (0))with|I=>I|V r2=>bif J (r2.t17<r2.t16)then if(0:Int)<=r2.t17/\r2.t17<(zR r2.t15:Int)then if(0:Int)<=r2.t17/\r2.t17<(zR r2.t1:Int)then match q r2.t15[zD r2.t17]! r2.t1[zD r2.t17]! with|I=>I|V r3=>bif bif r3 then G else O then V (G)else I else I else I else V (O)
def dEq:Td 0 Bool:= .c [] [6] (.r 0 0 (ec 6 qb en) sn (λz=>z.1.1) (λx=>((x,()),(()))) λ_=>rfl)
def Qy:Td 0 (LE Cell Cell):=dE 117 117 189
def atT(p:(LE Cell Cell)):af (af (LE Cell Cell)):=nE acH p
def adu:=bJ (atT)
abbrev azS:=Bool
def d120:Td 0 azS:=dEq
def ak6(a0:aa Cell)(a1:aa Cell):af azS:=mE acH a0 a1
def Sb:=eL vn 120 G (lc (ql 117) (lc (ql 117) (lc (qf 189 ln) ln))) d120 (λg=>ak6 g.1 g.2.1)
def Wn:EO Sb:=λh=>kL (an:=(noTwo (noTwo (.two (noTwo (Qy.lp adu .no)) .no)))) (l:=[(aY f120 0,(Qy.lp adu .no))]) func120 (Xc aP) (aA (aO Qy) aH) h
def Ib:EP Sb:=λh=>kP h
def acJ:Td 0 (LE aC aC):=dE 47 47 187
def awQ(p:(LE aC aC)):af (af (LE aC aC)):=nE ah5 p
def ap1:=bJ (awQ)
abbrev E71:=Bool
def d71:Td 0 E71:=dEq
def m71(a0:aa aC)(a1:aa aC):af E71:=mE ah5 a0 a1
def e71:=eL vn 71 G (lc (ql 47) (lc (ql 47) (lc (qf 187 ln) ln))) d71 (λg=>m71 g.1 g.2.1)
def aeM:EO e71:=λh=>kL (an:=(noTwo (noTwo (.two (noTwo (acJ.lp ap1 .no)) .no)))) (l:=[(aY f71 0,(acJ.lp ap1 .no))]) func71 (Xd aP) (aA (aO acJ) aH) h
def PX:EP e71:=λh=>kP h
def aGs:bu:=di
abbrev arH:=aL
def d250:Td 0 arH:= .c [] [4] (.r 0 1 (ec 4 (qp 0 0) en) (sb 0 34 (lg 34) sn) (λz=>z.2.1) (λx=>(((),()),(x,()))))
def aDo:=(aS (aS ln))
def ap2:An:= .no
def RE(a0:Int)(a1:Int):arH:=
 bif J (a0=a1)then aL.mk a0 a1 (0)else aL.mk a0 a1 (1)
def aHr(a0:Int)(a1:Int):bU vn (aGs) 300 (ap2) 250 (aDo.c (a0,a1,())) [] 0 d250.rd=V (RE a0 a1):=by
 refine Eq.trans (b:=(
  bif J (a0=a1)then V (aL.mk a0 a1 (0))else V (aL.mk a0 a1 (1)):af arH)) aV ?_
 simp only[RE,cu,cO]
def aEZ:=eL vn 250 G aDo d250 (λg=>V (RE g.1 g.2.1))
def age:EO aEZ:=λh=>kL (an:=ap2) func250 aP aH h (c:=λg=>aHr g.1 g.2.1)
abbrev aCd:=(aa aL)×(aa aL)
def d186:Td 0 aCd:= .c [] [6,7] (.r 0 2 (ec 6 (qo 0) (ec 7 (qo 1) en)) (sr 0 34 (sr 1 34 sn)) (λz=>(z.2.1,z.t.1)) (λx=>(((),(),()),(x.1,x.2,()))))
def ZD(a0:aa aL)(a1:Int)(a2:Int):af aCd:=
 match Ta a0 with|I=>I|V r1=>match Ta a0 with|I=>I|V r2=>if 0<=a1/\a1<zR a0 then if 0<=a1/\a1<(↑(zR r1):Int)then if 34=34/\a1.toNat<zR r1 then if 0<=a1/\a1<zR a0 then if 0<=a1/\a1<(↑(zR r2):Int)then if 34=34/\a1.toNat<zR r2 then V ((List.set r1 a1.toNat (RE a0[a1.toNat]!.ah a2),List.set r2 a1.toNat (RE (ak (a2+1)) a0[a1.toNat]!.ag)))else I else I else I else I else I else I
def ad3:=eL vn 186 G (lc (ql 34) (aS (aS ln))) d186 (λg=>ZD g.1 g.2.1 g.t.1)
def Wd:EO ad3:=λh=>kL (an:= .no) func186 (age (rG aP)) aH h
abbrev aBB:=Tree
def d185:Td 2 aBB:= .c [] [] (.r 2 3 en (sb 0 172 (lc (ql 131) (lc (ql 139) (lc (ql 166) (lc (ql 3) (lc qb (lc (qo 2) ln)))))) (sr 2 174 sn)) (λz=>(Tree.mk (aU.mk z.2.1.1 z.2.1.2.1 z.2.1.t.1) (bW.mk z.2.1.t.2.1 z.2.1.q.1) z.t.1)) (λx=>((()),((x.fF.ai,x.fF.au,x.fF.bM,x.fV.aZ,x.fV.fZ,(),()),x.aX,()))))
def aEJ:=(sb 0 172 (lc (ql 131) (lc (ql 139) (lc (ql 166) (lc (ql 3) (lc qb (lc (qo 1) ln)))))) (sr 1 174 sn))
def acd(a1:aa aL)(b0:Tree):af aBB:=
 match RI b0.fF b0.fV a1 with|I=>I|V r1=>match ZC b0.fF b0.fV a1 with|I=>I|V r2=>if(b0.aX++[dP.mk a1 ((0:Int)) ((0:Int)) [] r1.fst r2.snd.fst r2.fst]).length<=1073741824 then V (Tree.mk b0.fF b0.fV (b0.aX++[dP.mk a1 0 0 [] r1.fst r2.snd.fst r2.fst]))else I
def aHd:bu->bu:=eY vn 185 2 (lc (qp 0 0) (lc (ql 34) ln)) aEJ d185 (λg=>acd g.1.2.1 ((Tree.mk (aU.mk g.2.1.1 g.2.1.2.1 g.2.1.t.1) (bW.mk g.2.1.t.2.1 g.2.1.q.1) g.t.1)))
def aiu:EO aHd:=λh=>kY (an:= .no) func185 (KB (IN aP)) aH h
abbrev ax0:=Tree
def d191:Td 2 ax0:= .c [] [] (.r 2 3 en (sb 0 172 (lc (ql 131) (lc (ql 139) (lc (ql 166) (lc (ql 3) (lc qb (lc (qo 2) ln)))))) (sr 2 174 sn)) (λz=>(Tree.mk (aU.mk z.2.1.1 z.2.1.2.1 z.2.1.t.1) (bW.mk z.2.1.t.2.1 z.2.1.q.1) z.t.1)) (λx=>((()),((x.fF.ai,x.fF.au,x.fF.bM,x.fV.aZ,x.fV.fZ,(),()),x.aX,()))))
def aGZ:=(sb 0 172 (lc (ql 131) (lc (ql 139) (lc (ql 166) (lc (ql 3) (lc qb (lc (qo 1) ln)))))) (sr 1 174 sn))
def l6(x0:Tree)(x1:Int)(x2:Int):=
 x0.aX.set x1.toNat (dP.mk x0.aX[x1.toNat]!.bK x2 x0.aX[x1.toNat]!.iQ x0.aX[x1.toNat]!.ax x0.aX[x1.toNat]!.gv x0.aX[x1.toNat]!.dX x0.aX[x1.toNat]!.cE)
def mq(x0:Tree)(x1:Int)(x2:Int)(x3:Int):=
 (l6 x0 x1 x2).set x1.toNat (dP.mk (l6 x0 x1 x2)[x1.toNat]!.bK (l6 x0 x1 x2)[x1.toNat]!.b8 x3 (l6 x0 x1 x2)[x1.toNat]!.ax (l6 x0 x1 x2)[x1.toNat]!.gv (l6 x0 x1 x2)[x1.toNat]!.dX (l6 x0 x1 x2)[x1.toNat]!.cE)
def ajf(a1:Int)(a2:Int)(a3:Int)(b0:Tree):af ax0:=
 if 0<=a1/\a1<zR b0.aX then if 174=174/\a1.toNat<zR b0.aX then match ZD b0.aX[a1.toNat]!.bK a2 a3 with|I=>I|V r1=>if 0<=a1/\a1<zR b0.aX then if 174=174/\a1.toNat<zR b0.aX then if 0<=a1/\a1<(↑(l6 b0 a1 a2).length:Int)then if 174=174/\a1.toNat<zR (l6 b0 a1 a2) then if 0<=a1/\a1<(↑(mq b0 a1 a2 a3).length:Int)then if 174=174/\a1.toNat<zR (mq b0 a1 a2 a3) then match acd r1.fst (Tree.mk b0.fF b0.fV ((mq b0 a1 a2 a3).set a1.toNat (dP.mk (mq b0 a1 a2 a3)[a1.toNat]!.bK (mq b0 a1 a2 a3)[a1.toNat]!.b8 (mq b0 a1 a2 a3)[a1.toNat]!.iQ [(zR b0.aX:Int),ak ((zR b0.aX:Int)+1)] (mq b0 a1 a2 a3)[a1.toNat]!.gv (mq b0 a1 a2 a3)[a1.toNat]!.dX (mq b0 a1 a2 a3)[a1.toNat]!.cE)))with|I=>I|V r2=>match acd r1.snd r2 with|I=>I|V r3=>V (r3)else I else I else I else I else I else I else I else I
def ar3:bu->bu:=eY vn 191 2 (lc (qp 0 0) (aS (aS (aS ln)))) aGZ d191 (λg=>ajf g.1.2.1 g.1.t.1 g.1.t.2.1 ((Tree.mk (aU.mk g.2.1.1 g.2.1.2.1 g.2.1.t.1) (bW.mk g.2.1.t.2.1 g.2.1.q.1) g.t.1)))
def afC:EO ar3:=λh=>kY (an:= .no) func191 (Wd (aiu aP)) aH h
structure sj where
 t1:Int
 t5:List aL
 t6:Int
 t24:List aL
 (t25 t26:Int)
 b0:Tree
def Lh:Td 2 sj:= .c [] [0,1,5,6,24,25,26] (.r 2 2 (ec 0 (qp 0 0) (ec 1 aN (ec 5 (ql 34) (ec 6 aN (ec 24 (ql 34) (ec 25 aN (ec 26 aN en))))))) (sb 0 172 (lc (ql 131) (lc (ql 139) (lc (ql 166) (lc (ql 3) (lc qb (lc (qo 1) ln)))))) (sr 1 174 sn)) (λz=>⟨z.1.2.1,z.1.t.1,z.1.t.2.1,z.1.q.1,z.1.q.2.1,z.1.q.t.1,(Tree.mk (aU.mk z.2.1.1 z.2.1.2.1 z.2.1.t.1) (bW.mk z.2.1.t.2.1 z.2.1.q.1) z.t.1)⟩) (λx=>(((),x.t1,x.t5,x.t6,x.t24,x.t25,x.t26,()),((x.b0.fF.ai,x.b0.fF.au,x.b0.fF.bM,x.b0.fV.aZ,x.b0.fV.fZ,(),()),x.b0.aX,()))))
def vT(p:sj):af (af sj):=
 bif J (p.t26<p.t25)then if 0<=p.t26/\p.t26<zR p.t24 then if 0<=p.t6/\p.t6<zR p.t5 then bif J (MJ p.t5[zD p.t6]! <MJ p.t24[zD p.t26]!)then V (V (sj.mk p.t1 p.t5 p.t26 p.t24 p.t25 (ak (p.t26+1)) p.b0))else V (V (sj.mk p.t1 p.t5 p.t6 p.t24 p.t25 (ak (p.t26+1)) p.b0))else I else I else V (I)
def C8:=bJ (vT)
abbrev aop:=Int×Tree
def aBY:Td 2 aop:= .c [] [4] (.r 2 3 (ec 4 aN en) (sb 0 172 (lc (ql 131) (lc (ql 139) (lc (ql 166) (lc (ql 3) (lc qb (lc (qo 2) ln)))))) (sr 2 174 sn)) (λz=>(z.1.1,(Tree.mk (aU.mk z.2.1.1 z.2.1.2.1 z.2.1.t.1) (bW.mk z.2.1.t.2.1 z.2.1.q.1) z.t.1))) (λx=>((x.1,()),((x.2.fF.ai,x.2.fF.au,x.2.fF.bM,x.2.fV.aZ,x.2.fV.fZ,(),()),x.2.aX,()))))
def aBe:=(sb 0 172 (lc (ql 131) (lc (ql 139) (lc (ql 166) (lc (ql 3) (lc qb (lc (qo 1) ln)))))) (sr 1 174 sn))
def UA(a1:Int)(b0:Tree):af aop:=
 bif J (8192<ak ((zR b0.aX:Int)+2))then I else if 0<=a1/\a1<zR b0.aX then if 174=174/\a1.toNat<zR b0.aX then match C8 (sj.mk a1 b0.aX[a1.toNat]!.bK 0 b0.aX[a1.toNat]!.bK (↑b0.aX[a1.toNat]!.bK.length:Int) 0 b0)with|I=>I|V r1=>bif J (r1.t26<r1.t25)then if 0<=r1.t26/\r1.t26<zR r1.t24 then if 0<=r1.t6/\r1.t6<zR r1.t5 then bif J (MJ r1.t5[zD r1.t6]! <MJ r1.t24[zD r1.t26]!)then I else I else I else I else if 0<=r1.t6/\r1.t6<zR r1.t5 then if 0<=r1.t6/\r1.t6<zR r1.t5 then match ajf r1.t1 r1.t6 (cS IntKind.i64 (ak (r1.t5[zD r1.t6]!.ah+r1.t5[zD r1.t6]!.ag)) 1) r1.b0 with|I=>I|V r2=>V (0,r2)else I else I else I else I
def aoO:bu->bu:=eY vn 109 2 (lc (qp 0 0) (aS ln)) aBe aBY (λg=>UA g.1.2.1 ((Tree.mk (aU.mk g.2.1.1 g.2.1.2.1 g.2.1.t.1) (bW.mk g.2.1.t.2.1 g.2.1.q.1) g.t.1)))
def abA:EO aoO:=λh=>kY (an:=(noTwo (noTwo (noTwo (noTwo (.two (noTwo (Lh.lp C8 .no)) .no)))))) (l:=[(aY f109 0,(Lh.lp C8 .no))]) func109 (afC (Xm aP)) (aA (aO Lh) aH) h
structure kN where
 t0:List aC
 (t8 t9 t10:Int)
 b0:aC
def dB(k:Nat):Td 0 kN:= .c [] [0,2,4,8,9,10] (.r 0 1 (ec 0 (ql 47) (ec 2 (qf k ln) (ec 4 (qp 0 0) (ec 8 aN (ec 9 aN (ec 10 aN en)))))) (sb 0 47 (lg 47) sn) (λz=>⟨z.1.1,z.1.2.2.2.1,z.1.2.2.2.2.1,z.1.2.2.2.2.2.1,z.2.1⟩) (λx=>((x.t0,(()),(),x.t8,x.t9,x.t10,()),(x.b0,()))) λ_=>rfl)
def nB(q:aC->aC->af Int)(p:kN):af (af kN):=
 bif J (p.t9<p.t10)then if(0:Int)<=ak (cS u64 (bG (ak (p.t9+p.t10))) ((1:Int)))/\ak (cS u64 (bG (ak (p.t9+p.t10))) ((1:Int)))<(zR p.t0:Int)then match q p.t0[(ak (cS u64 (bG (ak (p.t9+p.t10))) (1))).toNat]! p.b0 with|I=>I|V r1=>bif J (r1<0)then V (V (kN.mk p.t0 p.t8 (ak (ak (cS u64 (bG (ak (p.t9+p.t10))) (1))+1)) p.t10 p.b0))else V (V (kN.mk p.t0 p.t8 p.t9 (ak (cS u64 (bG (ak (p.t9+p.t10))) (1))) p.b0))else I else V (I)
def mB(q:aC->aC->af Int)(a0:aa aC)(a1:aC):af (Int×Bool):=
 match bJ (nB q) (kN.mk a0 (zR a0:Int) (0) (zR a0:Int) a1)with|I=>I|V r2=>bif J (r2.t9<r2.t10)then if(0:Int)<=ak (cS u64 (bG (ak (r2.t9+r2.t10))) ((1:Int)))/\ak (cS u64 (bG (ak (r2.t9+r2.t10))) ((1:Int)))<(zR r2.t0:Int)then match q r2.t0[(ak (cS u64 (bG (ak (r2.t9+r2.t10))) (1))).toNat]! r2.b0 with|I=>I|V r3=>bif J (r3<0)then I else I else I else bif J (r2.t9<r2.t8)then if(0:Int)<=r2.t9/\r2.t9<(zR r2.t0:Int)then match q r2.t0[zD r2.t9]! r2.b0 with|I=>I|V r4=>V ((r2.t9,J (r4=0)))else I else V ((r2.t9,G))
def dBs:Td 0 (Int×Bool):= .c [] [6,7] (.r 0 0 (ec 6 aN (ec 7 qb en)) sn (λz=>(z.1.1,z.1.2.1)) (λx=>((x.1,x.2,()),(()))) λ_=>rfl)
def TF:Td 0 kN:=dB 188
def as4(p:kN):af (af kN):=nB KA p
def ack:=bJ (as4)
abbrev aCl:=Int×Bool
def d123:Td 0 aCl:=dBs
def anm(a0:aa aC)(a1:aC):af aCl:=mB KA a0 a1
def GU:=eL vn 123 G (lc (ql 47) (lc (qg 47) (lc (qf 188 ln) ln))) d123 (λg=>anm g.1 g.2.1)
def agw:EO GU:=λh=>kL (an:=(noTwo (noTwo (noTwo (.two (TF.lp ack .no) .no))))) (l:=[(aY f123 0,(TF.lp ack .no))]) func123 (sK aP) (aA (aO TF) aH) h
structure AQ where
 t3:List aC
 t9:List dP
 (t10 t11:Int)
 b0:Tree
def RV:Td 2 AQ:= .c [] [3,9,10,11] (.t (bX.s 3 [] 47) (.c [] [3,9,10,11] (.r 2 3 (ec 3 (qo 2) (ec 9 (qo 1) (ec 10 aN (ec 11 aN en)))) (sb 0 172 (lc (ql 131) (lc (ql 139) (lc (ql 166) (lc (ql 3) (lc qb (lc (qo 1) ln)))))) (sr 1 174 (sr 2 47 sn))) (λz=>⟨z.t.2.1,z.t.1,z.1.t.1,z.1.t.2.1,(Tree.mk (aU.mk z.2.1.1 z.2.1.2.1 z.2.1.t.1) (bW.mk z.2.1.t.2.1 z.2.1.q.1) z.t.1)⟩) (λx=>(((),(),x.t10,x.t11,()),((x.b0.fF.ai,x.b0.fF.au,x.b0.fF.bM,x.b0.fV.aZ,x.b0.fV.fZ,(),()),x.b0.aX,x.t3,()))))))
def K8(p:AQ):af (af AQ):=
 bif J (p.t11<p.t10)then if 0<=p.t11/\p.t11<zR p.b0.aX then if 174=174/\zD p.t11<zR p.b0.aX then bif p.b0.aX[zD p.t11]!.dX then if(p.t3++[p.b0.aX[zD p.t11]!.cE]).length<=1073741824 then V (V (AQ.mk (p.t3++[p.b0.aX[zD p.t11]!.cE]) p.b0.aX p.t10 (ak (p.t11+1)) p.b0))else I else V (V (AQ.mk p.t3 p.b0.aX p.t10 (ak (p.t11+1)) p.b0))else I else I else V (I)
def Kb:=bJ (K8)
abbrev aDd:=(aa aC)×Tree
def d192:Td 2 aDd:= .c [] [2] (.r 2 3 (ec 2 (qo 2) en) (sb 0 172 (lc (ql 131) (lc (ql 139) (lc (ql 166) (lc (ql 3) (lc qb (lc (qo 1) ln)))))) (sr 1 174 (sr 2 47 sn))) (λz=>(z.t.2.1,(Tree.mk (aU.mk z.2.1.1 z.2.1.2.1 z.2.1.t.1) (bW.mk z.2.1.t.2.1 z.2.1.q.1) z.t.1))) (λx=>(((),()),((x.2.fF.ai,x.2.fF.au,x.2.fF.bM,x.2.fV.aZ,x.2.fV.fZ,(),()),x.2.aX,x.1,()))))
def aFb:=(sb 0 172 (lc (ql 131) (lc (ql 139) (lc (ql 166) (lc (ql 3) (lc qb (lc (qo 1) ln)))))) (sr 1 174 sn))
def alx(b0:Tree):af aDd:=
 match Kb (AQ.mk [] b0.aX b0.aX.length 0 b0)with|I=>I|V r1=>bif J (r1.t11<r1.t10)then if 0<=r1.t11/\r1.t11<zR r1.b0.aX then if 174=174/\zD r1.t11<zR r1.b0.aX then bif r1.b0.aX[zD r1.t11]!.dX then if(r1.t3++[r1.b0.aX[zD r1.t11]!.cE]).length<=1073741824 then I else I else I else I else I else match Yd r1.t3 with|I=>I|V r2=>match Ze r2 with|I=>I|V r3=>V (r3,r1.b0)
def aiK:bu->bu:=eY vn 192 2 (lc (qp 0 0) ln) aFb d192 (λg=>alx ((Tree.mk (aU.mk g.2.1.1 g.2.1.2.1 g.2.1.t.1) (bW.mk g.2.1.t.2.1 g.2.1.q.1) g.t.1)))
def alh:EO aiK:=λh=>kY (an:=(noTwo (noTwo (.two (noTwo (RV.lp Kb .no)) .no)))) (l:=[(aY f192 0,(RV.lp Kb .no))]) func192 (acL aA6 (abP aCM (sK aP))) (aA (aO RV) aH) h
structure BS where
 t4:List aC
 t35:List dP
 (t36 t37:Int)
 b0:Tree
 (b2 b3:bk)
def T2:Td 2 BS:= .c [] [2,3,4,35,36,37] (.t (bX.c 3 1 [] 117) (.c [] [2,3,4,35,36,37] (.r 2 7 (ec 2 (qp 2 0) (ec 3 (qp 3 0) (ec 4 (qo 4) (ec 35 (qo 1) (ec 36 aN (ec 37 aN en)))))) (sb 0 172 (lc (ql 131) (lc (ql 139) (lc (ql 166) (lc (ql 3) (lc qb (lc (qo 1) ln)))))) (sr 1 174 (sb 2 84 (lc qn (lc qn ln)) (sb 3 84 (lc (qo 5) (lc (qo 6) ln)) (sr 4 47 (sr 5 47 (sr 6 117 sn))))))) (λz=>⟨z.q.2.1,z.t.1,z.1.q.1,z.1.q.2.1,(Tree.mk (aU.mk z.2.1.1 z.2.1.2.1 z.2.1.t.1) (bW.mk z.2.1.t.2.1 z.2.1.q.1) z.t.1),(bk.mk [] []),(bk.mk z.q.t.1 z.q.t.2.1)⟩) (λx=>(((),(),(),(),x.t36,x.t37,()),((x.b0.fF.ai,x.b0.fF.au,x.b0.fF.bM,x.b0.fV.aZ,x.b0.fV.fZ,(),()),x.b0.aX,((),(),()),((),(),()),x.t4,x.b3.cE,x.b3.aX,()))))))
def LZ(p:BS):af (af BS):=
 bif J (p.t37<p.t36)then if 0<=p.t37/\p.t37<zR p.b0.aX then if 174=174/\zD p.t37<zR p.b0.aX then match W3 p.b0.aX[zD p.t37]!.ax with|I=>I|V r2=>bif p.b0.aX[zD p.t37]!.dX then match anm p.t4 p.b0.aX[zD p.t37]!.cE with|I=>I|V r3=>if(p.b3.aX++[Cell.mk p.b0.aX[zD p.t37]!.b8 p.b0.aX[zD p.t37]!.iQ r2 [r3.fst] p.b0.aX[zD p.t37]!.gv]).length<=1073741824 then V (V (BS.mk p.t4 p.b0.aX p.t36 (ak (p.t37+1)) p.b0 (bk.mk [] []) (bk.mk p.b3.cE (p.b3.aX++[Cell.mk p.b0.aX[zD p.t37]!.b8 p.b0.aX[zD p.t37]!.iQ r2 [r3.fst] p.b0.aX[zD p.t37]!.gv]))))else I else if(p.b3.aX++[Cell.mk p.b0.aX[zD p.t37]!.b8 p.b0.aX[zD p.t37]!.iQ r2 [] p.b0.aX[zD p.t37]!.gv]).length<=1073741824 then V (V (BS.mk p.t4 p.b0.aX p.t36 (ak (p.t37+1)) p.b0 (bk.mk [] []) (bk.mk p.b3.cE (p.b3.aX++[Cell.mk p.b0.aX[zD p.t37]!.b8 p.b0.aX[zD p.t37]!.iQ r2 [] p.b0.aX[zD p.t37]!.gv]))))else I else I else I else V (I)
def KW:=bJ (LZ)
structure FB where
 (t4 t14:List aC)
 (t15 t16:Int)
 b0:Tree
 (b2 b3:bk)
def Sn:Td 2 FB:= .c [] [0,2,3,4,14,15,16] (.t (bX.c 3 0 [] 47) (.c [] [0,2,3,4,14,15,16] (.r 2 6 (ec 0 (qp 0 0) (ec 2 (qp 2 0) (ec 3 (qp 3 0) (ec 4 (qo 4) (ec 14 (qo 4) (ec 15 aN (ec 16 aN en))))))) (sb 0 172 (lc (ql 131) (lc (ql 139) (lc (ql 166) (lc (ql 3) (lc qb (lc (qo 1) ln)))))) (sr 1 174 (sb 2 84 (lc qn (lc qn ln)) (sb 3 84 (lc (qo 5) (lc qn ln)) (sr 4 47 (sr 5 47 sn)))))) (λz=>⟨z.q.2.1,z.q.2.1,z.1.q.2.1,z.1.q.t.1,(Tree.mk (aU.mk z.2.1.1 z.2.1.2.1 z.2.1.t.1) (bW.mk z.2.1.t.2.1 z.2.1.q.1) z.t.1),(bk.mk [] []),(bk.mk z.q.t.1 [])⟩) (λx=>(((),(),(),(),(),x.t15,x.t16,()),((x.b0.fF.ai,x.b0.fF.au,x.b0.fF.bM,x.b0.fV.aZ,x.b0.fV.fZ,(),()),x.b0.aX,((),(),()),((),(),()),x.t14,x.b3.cE,()))))))
def KF(p:FB):af (af FB):=
 bif J (p.t16<p.t15)then if 0<=p.t16/\p.t16<zR p.t14 then if 47=47/\zD p.t16<zR p.t14 then match W3 p.t14[zD p.t16]!.aK with|I=>I|V r1=>if(p.b3.cE++[aC.mk r1 p.t14[zD p.t16]!.aI]).length<=1073741824 then V (V (FB.mk p.t14 p.t14 p.t15 (ak (p.t16+1)) p.b0 (bk.mk [] []) (bk.mk (p.b3.cE++[aC.mk r1 p.t14[zD p.t16]!.aI]) [])))else I else I else I else V (I)
def K0:=bJ (KF)
abbrev azA:=bk×Tree
def d110:Td 2 azA:= .c [] [2] (.r 2 5 (ec 2 (qp 2 0) en) (sb 0 172 (lc (ql 131) (lc (ql 139) (lc (ql 166) (lc (ql 3) (lc qb (lc (qo 1) ln)))))) (sr 1 174 (sb 2 84 (lc (qo 3) (lc (qo 4) ln)) (sr 3 47 (sr 4 117 sn))))) (λz=>((bk.mk z.q.1 z.q.2.1),(Tree.mk (aU.mk z.2.1.1 z.2.1.2.1 z.2.1.t.1) (bW.mk z.2.1.t.2.1 z.2.1.q.1) z.t.1))) (λx=>(((),()),((x.2.fF.ai,x.2.fF.au,x.2.fF.bM,x.2.fV.aZ,x.2.fV.fZ,(),()),x.2.aX,((),(),()),x.1.cE,x.1.aX,()))))
def aE7:=(sb 0 172 (lc (ql 131) (lc (ql 139) (lc (ql 166) (lc (ql 3) (lc qb (lc (qo 1) ln)))))) (sr 1 174 sn))
def Zt(b0:Tree):af azA:=
 match alx b0 with|I=>I|V r4=>match K0 (FB.mk r4.fst r4.fst r4.fst.length 0 r4.snd (bk.mk [] []) (bk.mk [] []))with|I=>I|V r5=>bif J (r5.t16<r5.t15)then if 0<=r5.t16/\r5.t16<zR r5.t14 then if 47=47/\zD r5.t16<zR r5.t14 then match W3 r5.t14[zD r5.t16]!.aK with|I=>I|V r6=>if(r5.b3.cE++[aC.mk r6 r5.t14[zD r5.t16]!.aI]).length<=1073741824 then I else I else I else I else match KW (BS.mk r5.t14 r5.b0.aX r5.b0.aX.length 0 r5.b0 (bk.mk [] []) (bk.mk r5.b3.cE []))with|I=>I|V r7=>bif J (r7.t37<r7.t36)then if 0<=r7.t37/\r7.t37<zR r7.b0.aX then if 174=174/\zD r7.t37<zR r7.b0.aX then match W3 r7.b0.aX[zD r7.t37]!.ax with|I=>I|V r8=>bif r7.b0.aX[zD r7.t37]!.dX then match anm r7.t4 r7.b0.aX[zD r7.t37]!.cE with|I=>I|V r9=>if(r7.b3.aX++[Cell.mk r7.b0.aX[zD r7.t37]!.b8 r7.b0.aX[zD r7.t37]!.iQ r8 [r9.fst] r7.b0.aX[zD r7.t37]!.gv]).length<=1073741824 then I else I else if(r7.b3.aX++[Cell.mk r7.b0.aX[zD r7.t37]!.b8 r7.b0.aX[zD r7.t37]!.iQ r8 [] r7.b0.aX[zD r7.t37]!.gv]).length<=1073741824 then I else I else I else I else V (r7.b3,r7.b0)
def GR:bu->bu:=eY vn 110 2 (lc (qp 0 0) ln) aE7 d110 (λg=>Zt ((Tree.mk (aU.mk g.2.1.1 g.2.1.2.1 g.2.1.t.1) (bW.mk g.2.1.t.2.1 g.2.1.q.1) g.t.1)))
def Ja:EO GR:=λh=>kY (an:=(noTwo (noTwo (noTwo (.two (noTwo (Sn.lp K0 .no)) (.two (noTwo (T2.lp KW .no)) .no)))))) (l:=[(aY f110 0,(Sn.lp K0 .no)),(aY f110 1,(T2.lp KW .no))]) func110 (alh (sK (agw (tL aP)))) (aA (aO Sn) (aA (aO T2) aH)) h
def av9:bu:=di
structure DN where
 t73:List Int
 (t74 t75:Int)
def SN:Td 0 DN:= .c [] [73,74,75] (.r 0 1 (ec 73 (qo 0) (ec 74 aN (ec 75 aN en))) (sr 0 3 sn) (λz=>⟨z.2.1,z.1.2.1,z.1.t.1⟩) (λx=>(((),x.t74,x.t75,()),(x.t73,()))))
def JM(p:DN):af (af DN):=
 bif J (p.t75<p.t74)then if 0<=p.t75/\p.t75<zR p.t73 then if 3=3/\zD p.t75<zR p.t73 then match bif bif(match J (p.t73[zD p.t75]! =1)with|O=>G|G=>O)==J (p.t75=0)then G else O then V O else V (J (1<p.t73[zD p.t75]!))with|I=>I|V r5=>bif r5 then V (I)else V (V (DN.mk p.t73 p.t74 (ak (p.t75+1))))else I else I else V (I)
def ab6:An:=(noTwo (noTwo (.two (noTwo (.two (.rb [] 88) .no)) .no)))
def Kc:=bJ (JM)
structure Bh where
 t0:List Cell
 t3:List Int
 t4:Int
 t16:List Cell
 (t17 t18:Int)
 t50:List Int
 (t51 t52:Int)
def RS:Td 0 Bh:= .c [] [0,3,4,16,17,18,50,51,52] (.r 0 1 (ec 0 (ql 117) (ec 3 (qo 0) (ec 4 aN (ec 16 (ql 117) (ec 17 aN (ec 18 aN (ec 50 (ql 3) (ec 51 aN (ec 52 aN en))))))))) (sr 0 3 sn) (λz=>⟨z.1.1,z.2.1,z.1.t.1,z.1.t.2.1,z.1.q.1,z.1.q.2.1,z.1.q.t.1,z.1.q.t.2.1,z.1.q.q.1⟩) (λx=>((x.t0,(),x.t4,x.t16,x.t17,x.t18,x.t50,x.t51,x.t52,()),(x.t3,()))))
def L3(p:Bh):af (af Bh):=
 bif J (p.t52<p.t51)then if 0<=p.t52/\p.t52<zR p.t50 then match bif J (p.t50[zD p.t52]!<=p.t4)then V O else V (J (zR p.t0<=p.t50[zD p.t52]!))with|I=>I|V r4=>bif r4 then V (I)else if 0<=p.t50[zD p.t52]!/\p.t50[zD p.t52]! <(zR p.t3:Int)then if 3=3/\zD p.t50[zD p.t52]! <zR p.t3 then if 0<=p.t50[zD p.t52]!/\p.t50[zD p.t52]! <(zR p.t3:Int)then if 3=3/\zD p.t50[zD p.t52]! <zR p.t3 then V (V (Bh.mk p.t0 (p.t3.set (zD p.t50[zD p.t52]!) (ak (p.t3[zD p.t50[zD p.t52]!]! +1))) p.t4 p.t16 p.t17 p.t18 p.t50 p.t51 (ak (p.t52+1))))else I else I else I else I else I else V (I)
def aeQ:An:=(noTwo (noTwo (.two (noTwo (.two (.two (.rb [] 64) .no) .no)) .no)))
def Fq:=bJ (L3)
structure El where
 t0:List Cell
 t3:List Int
 t16:List Cell
 (t17 t18:Int)
def Tl:Td 0 El:= .c [] [0,3,16,17,18] (.r 0 1 (ec 0 (ql 117) (ec 3 (qo 0) (ec 16 (ql 117) (ec 17 aN (ec 18 aN en))))) (sr 0 3 sn) (λz=>⟨z.1.1,z.2.1,z.1.t.1,z.1.t.2.1,z.1.q.1⟩) (λx=>((x.t0,(),x.t16,x.t17,x.t18,()),(x.t3,()))))
def LA(p:El):af (af El):=
 bif J (p.t18<p.t17)then if 0<=p.t18/\p.t18<zR p.t16 then match bif bif J ((↑p.t16[zD p.t18]!.ax.length:Int)=0)then G else O then bif bif J ((↑p.t16[zD p.t18]!.ax.length:Int)=2)then G else O then V O else bif J ((↑p.t16[zD p.t18]!.ax.length:Int)=0)then bif bif J (p.t16[zD p.t18]!.b8=0)then G else O then V O else V (bif J (p.t16[zD p.t18]!.iQ=0)then G else O)else V G else bif J ((↑p.t16[zD p.t18]!.ax.length:Int)=0)then bif bif J (p.t16[zD p.t18]!.b8=0)then G else O then V O else V (bif J (p.t16[zD p.t18]!.iQ=0)then G else O)else V G with|I=>I|V r1=>bif r1 then V (I)else match Fq (Bh.mk p.t0 p.t3 p.t18 p.t16 p.t17 p.t18 p.t16[zD p.t18]!.ax (↑p.t16[zD p.t18]!.ax.length:Int) 0)with|I=>I|V r2=>bif J (r2.t52<r2.t51)then if 0<=r2.t52/\r2.t52<zR r2.t50 then match bif J (r2.t50[zD r2.t52]!<=r2.t4)then V O else V (J (zR r2.t0<=r2.t50[zD r2.t52]!))with|I=>I|V r3=>bif r3 then V (I)else if 0<=r2.t50[zD r2.t52]!/\r2.t50[zD r2.t52]! <(zR r2.t3:Int)then if 3=3/\zD r2.t50[zD r2.t52]! <zR r2.t3 then if 0<=r2.t50[zD r2.t52]!/\r2.t50[zD r2.t52]! <(zR r2.t3:Int)then if 3=3/\zD r2.t50[zD r2.t52]! <zR r2.t3 then I else I else I else I else I else I else V (V (El.mk r2.t0 r2.t3 r2.t16 r2.t17 (ak (r2.t18+1))))else I else V (I)
def aev:An:=(noTwo (noTwo (.two (noTwo (.two (.two (.rb [] 48) .no) (noTwo (RS.lp Fq aeQ)))) .no)))
def Mg:=bJ (LA)
abbrev azF:=Bool
def d184:Td 0 azF:= .c [] [2] (.r 0 0 (ec 2 qb en) sn (λz=>z.1.1) (λx=>((x,()),(()))))
def abD:∀f∈([]:aa Nat),bA (av9) f:=aH
def aek(a0:aa Cell):af azF:=
 bif J ((zR a0:Int)=0)then V G else if(0:Int)<=zR a0/\(zR a0:Int)<=(zR a0:Int)/\(zR a0:Int)<=(1073741824:Int)then match Mg (El.mk a0 (zj a0.length 0) a0 a0.length 0)with|I=>I|V r6=>bif J (r6.t18<r6.t17)then if 0<=r6.t18/\r6.t18<zR r6.t16 then match bif bif J ((↑r6.t16[zD r6.t18]!.ax.length:Int)=0)then G else O then bif bif J ((↑r6.t16[zD r6.t18]!.ax.length:Int)=2)then G else O then V O else bif J ((↑r6.t16[zD r6.t18]!.ax.length:Int)=0)then bif bif J (r6.t16[zD r6.t18]!.b8=0)then G else O then V O else V (bif J (r6.t16[zD r6.t18]!.iQ=0)then G else O)else V G else bif J ((↑r6.t16[zD r6.t18]!.ax.length:Int)=0)then bif bif J (r6.t16[zD r6.t18]!.b8=0)then G else O then V O else V (bif J (r6.t16[zD r6.t18]!.iQ=0)then G else O)else V G with|I=>I|V r7=>bif r7 then V G else match Fq (Bh.mk r6.t0 r6.t3 r6.t18 r6.t16 r6.t17 r6.t18 r6.t16[zD r6.t18]!.ax (↑r6.t16[zD r6.t18]!.ax.length:Int) 0)with|I=>I|V r8=>bif J (r8.t52<r8.t51)then if 0<=r8.t52/\r8.t52<zR r8.t50 then match bif J (r8.t50[zD r8.t52]!<=r8.t4)then V O else V (J (zR r8.t0<=r8.t50[zD r8.t52]!))with|I=>I|V r9=>bif r9 then V G else if 0<=r8.t50[zD r8.t52]!/\r8.t50[zD r8.t52]! <(zR r8.t3:Int)then if 3=3/\zD r8.t50[zD r8.t52]! <zR r8.t3 then if 0<=r8.t50[zD r8.t52]!/\r8.t50[zD r8.t52]! <(zR r8.t3:Int)then if 3=3/\zD r8.t50[zD r8.t52]! <zR r8.t3 then I else I else I else I else I else I else I else I else match Kc (DN.mk r6.t3 r6.t3.length 0)with|I=>I|V r10=>bif J (r10.t75<r10.t74)then if 0<=r10.t75/\r10.t75<zR r10.t73 then if 3=3/\zD r10.t75<zR r10.t73 then match bif bif(match J (r10.t73[zD r10.t75]! =1)with|O=>G|G=>O)==J (r10.t75=0)then G else O then V O else V (J (1<r10.t73[zD r10.t75]!))with|I=>I|V r11=>bif r11 then V G else I else I else I else V O else I
def ali:=eL vn 184 G (lc (ql 117) ln) d184 (λg=>aek g.1)
def aiO:EO ali:=λh=>kL (F:=av9) (an:=(noTwo (noTwo (noTwo (.two (noTwo (Tl.lp Mg aev)) (.two (noTwo (SN.lp Kc ab6)) .no)))))) (l:=[(aY f184 0,(Tl.lp Mg aev)),(.skip,(.rb [] 48)),(aY f184 1,(RS.lp Fq aeQ)),(.skip,(.rb [] 64)),(aY f184 2,(SN.lp Kc ab6)),(.skip,(.rb [] 88))]) func184 aP (aA (aO Tl) (aA abD (aA (aO RS) (aA abD (aA (aO SN) (aA abD aH)))))) h
abbrev apC:=Unit×Int
def aBS:Td 0 apC:= .c [] [4,5] (.r 0 0 (ec 4 qv (ec 5 aN en)) sn (λz=>((),z.1.2.1)) (λx=>(((),x.2,()),(()))))
def ae2(a0:aU)(a1:bW):af apC:=
 match m76 a0 with|I=>I|V r1=>bif bif J (r1.snd=0)then G else O then V (((),r1.snd))else match RI a0 a1 r1.fst with|I=>I|V r2=>bif bif J (r2.snd=0)then G else O then V (((),r2.snd))else match RI a0 a1 r1.fst with|I=>I|V r3=>match ZC a0 a1 r1.fst with|I=>I|V r4=>I
def aBf:bu->bu:=eZf vn 118 (lc (qg 26) (lc (qg 29) ln)) aBS (λg=>ae2 g.1 g.2.1)
def O2:EO aBf:=λh=>kZf (an:= .no) func118 (Lq (p:=(λf=>ze f 25||ze f 26||ze f 76)) (acF (KB (IN aP)))) aH h
abbrev aoC:=Tree×Int
def aCO:Td 0 aoC:= .c [] [4,5] (.r 0 2 (ec 4 (qp 0 0) (ec 5 aN en)) (sb 0 172 (lc (ql 131) (lc (ql 139) (lc (ql 166) (lc (ql 3) (lc qb (lc (qo 1) ln)))))) (sr 1 174 sn)) (λz=>((Tree.mk (aU.mk z.2.1.1 z.2.1.2.1 z.2.1.t.1) (bW.mk z.2.1.t.2.1 z.2.1.q.1) z.t.1),z.1.2.1)) (λx=>(((),x.2,()),((x.1.fF.ai,x.1.fF.au,x.1.fF.bM,x.1.fV.aZ,x.1.fV.fZ,(),()),x.1.aX,()))))
def NO(a0:aU)(a1:bW):af aoC:=
 match m76 a0 with|I=>I|V r1=>bif bif J (r1.snd=0)then G else O then I else match RI a0 a1 r1.fst with|I=>I|V r2=>bif bif J (r2.snd=0)then G else O then I else match RI a0 a1 r1.fst with|I=>I|V r3=>match ZC a0 a1 r1.fst with|I=>I|V r4=>V ((Tree.mk a0 a1 [dP.mk r1.fst (0) (0) [] r3.fst r4.snd.fst r4.fst],0))
def aAu:bu->bu:=eZf vn 118 (lc (qg 26) (lc (qg 29) ln)) aCO (λg=>NO g.1 g.2.1)
def P6:EO aAu:=λh=>kZf (an:= .no) func118 (Lq (p:=(λf=>ze f 25||ze f 26||ze f 76)) (acF (KB (IN aP)))) aH h
structure lz where
 t10:List (List aL)
 t55:List Cell
 (t56 t57:Int)
 b0:bk
 b2:Tree
def IZ:Td 0 lz:= .c [] [5,10,11,55,56,57] (.t (bX.c 2 5 [] 174) (.c [] [5,10,11,55,56,57] (.r 0 4 (ec 5 (qp 0 0) (ec 10 (qo 1) (ec 11 (qp 2 0) (ec 55 (ql 117) (ec 56 aN (ec 57 aN en)))))) (sb 0 84 (lg 84) (sr 1 30 (sb 2 172 (lc (ql 131) (lc (ql 139) (lc (ql 166) (lc (ql 3) (lc qb (lc (qo 3) ln)))))) (sr 3 174 sn)))) (λz=>⟨z.t.1,z.1.t.2.1,z.1.q.1,z.1.q.2.1,z.2.1,(Tree.mk (aU.mk z.t.2.1.1 z.t.2.1.2.1 z.t.2.1.t.1) (bW.mk z.t.2.1.t.2.1 z.t.2.1.q.1) z.q.1)⟩) (λx=>(((),(),(),x.t55,x.t56,x.t57,()),(x.b0,x.t10,(x.b2.fF.ai,x.b2.fF.au,x.b2.fF.bM,x.b2.fV.aZ,x.b2.fV.fZ,(),()),x.b2.aX,()))))))
def fT(x0:lz)(x1:E25)(x2:E26):=
 x0.b2.aX++[dP.mk x0.t10[zD x0.t57]! (0) (0) [] x1.fst x2.snd.fst x2.fst]
def iq(x0:lz)(x1:E25)(x2:E26):=
 (fT x0 x1 x2).set x0.t57.toNat (dP.mk (fT x0 x1 x2)[zD x0.t57]!.bK x0.t55[zD x0.t57]!.b8 (fT x0 x1 x2)[zD x0.t57]!.iQ (fT x0 x1 x2)[zD x0.t57]!.ax (fT x0 x1 x2)[zD x0.t57]!.gv (fT x0 x1 x2)[zD x0.t57]!.dX (fT x0 x1 x2)[zD x0.t57]!.cE)
def iB(x0:lz)(x1:E25)(x2:E26):=
 (iq x0 x1 x2).set x0.t57.toNat (dP.mk (iq x0 x1 x2)[zD x0.t57]!.bK (iq x0 x1 x2)[zD x0.t57]!.b8 x0.t55[zD x0.t57]!.iQ (iq x0 x1 x2)[zD x0.t57]!.ax (iq x0 x1 x2)[zD x0.t57]!.gv (iq x0 x1 x2)[zD x0.t57]!.dX (iq x0 x1 x2)[zD x0.t57]!.cE)
def vL(p:lz):af (af lz):=
 bif J (p.t57<p.t56)then if 0<=p.t57/\p.t57<zR p.t55 then if 0<=p.t57/\p.t57<zR p.t10 then if 30=30/\zD p.t57<zR p.t10 then match RI p.b2.fF p.b2.fV p.t10[zD p.t57]! with|I=>I|V r1=>match ZC p.b2.fF p.b2.fV p.t10[zD p.t57]! with|I=>I|V r2=>if(fT p r1 r2).length<=1073741824 then bif J ((↑p.t55[zD p.t57]!.ax.length:Int)=0)then V (V (lz.mk p.t10 p.t55 p.t56 (ak (p.t57+1)) p.b0 (Tree.mk p.b2.fF p.b2.fV (fT p r1 r2))))else if 0<=p.t57/\p.t57<zR p.t10 then if 30=30/\zD p.t57<zR p.t10 then bif J (p.t55[zD p.t57]!.b8<0)then V (I)else bif J ((↑(zR p.t10[zD p.t57]!):Int)<=p.t55[zD p.t57]!.b8)then V (I)else if 0<=p.t55[zD p.t57]!.b8/\p.t55[zD p.t57]!.b8<(↑(zR p.t10[zD p.t57]!):Int)then bif J (p.t55[zD p.t57]!.iQ<p.t10[zD p.t57]![p.t55[zD p.t57]!.b8.toNat]!.ah)then V (I)else if 0<=p.t55[zD p.t57]!.b8/\p.t55[zD p.t57]!.b8<(↑(zR p.t10[zD p.t57]!):Int)then bif J (p.t10[zD p.t57]![p.t55[zD p.t57]!.b8.toNat]!.ag<=p.t55[zD p.t57]!.iQ)then V (I)else if(0:Int)<=(0:Int)/\(0:Int)<(↑p.t55[zD p.t57]!.ax.length:Int)then if(0:Int)<=(1:Int)/\(1:Int)<(↑p.t55[zD p.t57]!.ax.length:Int)then match ZD p.t10[zD p.t57]! p.t55[zD p.t57]!.b8 p.t55[zD p.t57]!.iQ with|I=>I|V r3=>if 0<=p.t55[zD p.t57]!.ax[zD 0]!/\p.t55[zD p.t57]!.ax[zD 0]! <(zR p.t10:Int)then if 30=30/\zD p.t55[zD p.t57]!.ax[0]! <zR p.t10 then if 0<=p.t55[zD p.t57]!.ax[zD 1]!/\p.t55[zD p.t57]!.ax[zD 1]! <(↑(p.t10.set (zD p.t55[zD p.t57]!.ax[0]!) r3.fst).length:Int)then if 30=30/\zD p.t55[zD p.t57]!.ax[1]! <zR (p.t10.set (zD p.t55[zD p.t57]!.ax[0]!) r3.fst) then match W3 p.t55[zD p.t57]!.ax with|I=>I|V r4=>if 0<=p.t57/\p.t57<(↑(fT p r1 r2).length:Int)then if 174=174/\zD p.t57<zR (fT p r1 r2) then if 0<=p.t57/\p.t57<(↑(iq p r1 r2).length:Int)then if 174=174/\zD p.t57<zR (iq p r1 r2) then if 0<=p.t57/\p.t57<(↑(iB p r1 r2).length:Int)then if 174=174/\zD p.t57<zR (iB p r1 r2) then V (V (lz.mk ((p.t10.set (zD p.t55[zD p.t57]!.ax[0]!) r3.fst).set (zD p.t55[zD p.t57]!.ax[1]!) r3.snd) p.t55 p.t56 (ak (p.t57+1)) p.b0 (Tree.mk p.b2.fF p.b2.fV ((iB p r1 r2).set p.t57.toNat (dP.mk (iB p r1 r2)[zD p.t57]!.bK (iB p r1 r2)[zD p.t57]!.b8 (iB p r1 r2)[zD p.t57]!.iQ r4 (iB p r1 r2)[zD p.t57]!.gv (iB p r1 r2)[zD p.t57]!.dX (iB p r1 r2)[zD p.t57]!.cE)))))else I else I else I else I else I else I else I else I else I else I else I else I else I else I else I else I else I else I else I else I else V (I)
def DK:=bJ (vL)
abbrev aoF:=Tree×Int
def ayT:Td 0 aoF:= .c [] [6,7] (.r 0 2 (ec 6 (qp 0 0) (ec 7 aN en)) (sb 0 172 (lc (ql 131) (lc (ql 139) (lc (ql 166) (lc (ql 3) (lc qb (lc (qo 1) ln)))))) (sr 1 174 sn)) (λz=>((Tree.mk (aU.mk z.2.1.1 z.2.1.2.1 z.2.1.t.1) (bW.mk z.2.1.t.2.1 z.2.1.q.1) z.t.1),z.1.2.1)) (λx=>(((),x.2,()),((x.1.fF.ai,x.1.fF.au,x.1.fF.bM,x.1.fV.aZ,x.1.fV.fZ,(),()),x.1.aX,()))))
def OU(a0:aU)(a1:bW)(a2:bk):af aoF:=
 match NO a0 a1 with|I=>(match ae2 a0 a1 with|I=>I|V r15=>bif bif J (r15.snd=0)then G else O then I else bif J (8192<(zR a2.aX:Int))then I else match aek a2.aX with|I=>I|V r16=>bif bif r16 then G else O then I else if(0:Int)<=zR a2.aX/\(zR a2.aX:Int)<=(zR a2.aX:Int)/\(zR a2.aX:Int)<=(1073741824:Int)then I else I)|V r5=>bif bif J (r5.snd=0)then G else O then I else bif J (8192<(zR a2.aX:Int))then I else match aek a2.aX with|I=>I|V r6=>bif bif r6 then G else O then I else if(0:Int)<=zR a2.aX/\(zR a2.aX:Int)<=(zR a2.aX:Int)/\(zR a2.aX:Int)<=(1073741824:Int)then if(0:Int)<=(0:Int)/\(0:Int)<zR r5.fst.aX then if 174=174/\0<zR r5.fst.aX then if(0:Int)<=(0:Int)/\(0:Int)<(↑(zj a2.aX.length ([]:aa aL)).length:Int)then if 30=30/\0<zR (zj a2.aX.length ([]:aa aL)) then match DK (lz.mk ((zj a2.aX.length ([]:aa aL)).set 0 r5.fst.aX[0]!.bK) a2.aX a2.aX.length 0 a2 (Tree.mk a0 a1 []))with|I=>I|V r7=>bif J (r7.t57<r7.t56)then if 0<=r7.t57/\r7.t57<zR r7.t55 then if 0<=r7.t57/\r7.t57<zR r7.t10 then if 30=30/\zD r7.t57<zR r7.t10 then match RI r7.b2.fF r7.b2.fV r7.t10[zD r7.t57]! with|I=>I|V r8=>match ZC r7.b2.fF r7.b2.fV r7.t10[zD r7.t57]! with|I=>I|V r9=>if(fT r7 r8 r9).length<=1073741824 then bif J ((↑r7.t55[zD r7.t57]!.ax.length:Int)=0)then I else if 0<=r7.t57/\r7.t57<zR r7.t10 then if 30=30/\zD r7.t57<zR r7.t10 then bif J (r7.t55[zD r7.t57]!.b8<0)then I else bif J ((↑(zR r7.t10[zD r7.t57]!):Int)<=r7.t55[zD r7.t57]!.b8)then I else if 0<=r7.t55[zD r7.t57]!.b8/\r7.t55[zD r7.t57]!.b8<(↑(zR r7.t10[zD r7.t57]!):Int)then bif J (r7.t55[zD r7.t57]!.iQ<r7.t10[zD r7.t57]![r7.t55[zD r7.t57]!.b8.toNat]!.ah)then I else if 0<=r7.t55[zD r7.t57]!.b8/\r7.t55[zD r7.t57]!.b8<(↑(zR r7.t10[zD r7.t57]!):Int)then bif J (r7.t10[zD r7.t57]![r7.t55[zD r7.t57]!.b8.toNat]!.ag<=r7.t55[zD r7.t57]!.iQ)then I else if(0:Int)<=(0:Int)/\(0:Int)<(↑r7.t55[zD r7.t57]!.ax.length:Int)then if(0:Int)<=(1:Int)/\(1:Int)<(↑r7.t55[zD r7.t57]!.ax.length:Int)then match ZD r7.t10[zD r7.t57]! r7.t55[zD r7.t57]!.b8 r7.t55[zD r7.t57]!.iQ with|I=>I|V r10=>if 0<=r7.t55[zD r7.t57]!.ax[zD 0]!/\r7.t55[zD r7.t57]!.ax[zD 0]! <(zR r7.t10:Int)then if 30=30/\zD r7.t55[zD r7.t57]!.ax[0]! <zR r7.t10 then if 0<=r7.t55[zD r7.t57]!.ax[zD 1]!/\r7.t55[zD r7.t57]!.ax[zD 1]! <(↑(r7.t10.set (zD r7.t55[zD r7.t57]!.ax[0]!) r10.fst).length:Int)then if 30=30/\zD r7.t55[zD r7.t57]!.ax[1]! <zR (r7.t10.set (zD r7.t55[zD r7.t57]!.ax[0]!) r10.fst) then match W3 r7.t55[zD r7.t57]!.ax with|I=>I|V r11=>if 0<=r7.t57/\r7.t57<(↑(fT r7 r8 r9).length:Int)then if 174=174/\zD r7.t57<zR (fT r7 r8 r9) then if 0<=r7.t57/\r7.t57<(↑(iq r7 r8 r9).length:Int)then if 174=174/\zD r7.t57<zR (iq r7 r8 r9) then if 0<=r7.t57/\r7.t57<(↑(iB r7 r8 r9).length:Int)then if 174=174/\zD r7.t57<zR (iB r7 r8 r9) then I else I else I else I else I else I else I else I else I else I else I else I else I else I else I else I else I else I else I else I else I else match Zt r7.b2 with|I=>I|V r12=>match ak6 r7.b0.aX r12.fst.aX with|I=>I|V r13=>bif bif r13 then G else O then I else match m71 r7.b0.cE r12.fst.cE with|I=>I|V r14=>bif bif r14 then G else O then I else V (r12.snd,0)else I else I else I else I else I
def aoZ:bu->bu:=eZf vn 105 (lc (qg 26) (lc (qg 29) (lc (qg 84) ln))) ayT (λg=>OU g.1 g.2.1 g.t.1)
def OZ:EO aoZ:=λh=>kZf (an:=(noTwo (noTwo (noTwo (noTwo (noTwo (noTwo (.two (noTwo (IZ.lp DK .no)) .no)))))))) (l:=[(aY f105 0,(IZ.lp DK .no))]) func105 (Lq (p:=(λf=>ze f 25||ze f 26||ze f 35||ze f 71||ze f 110||ze f 118||ze f 120||ze f 184||ze f 186||ze f 187||ze f 189)) (Xc (Xd (Wd (aiO (Wn (P6 (O2 (Ja (aeM (tL (KB (IN aP))))))))))))) (aA (aO IZ) aH) h
def F48:bu:=(GR (aoO (axi (ak1 (aoZ di)))))
abbrev E48:=bk×Int
def d48:Td 0 E48:= .c [] [8,9] (.t (bX.c 0 0 [] 47) (.t (bX.c 0 1 [] 117) (.c [] [8,9] (.r 0 3 (ec 8 (qp 0 0) (ec 9 aN en)) (sb 0 84 (lc (qo 1) (lc (qo 2) ln)) (sr 1 47 (sr 2 117 sn))) (λz=>((bk.mk z.t.1 z.t.2.1),z.1.2.1)) (λx=>(((),x.2,()),(((),(),()),x.1.cE,x.1.aX,())))))))
def aFt:∀f∈([]:aa Nat),bA (F48) f:=aH
def m48(a0:aU)(a1:bW)(a2:bk)(a3:Int):af E48:=
 match OU a0 a1 a2 with|I=>I|V r1=>bif bif J (r1.snd=0)then G else O then V (bk.mk [] [],r1.snd)else match bif J (a3<0)then V O else bif J (zR r1.fst.aX<=a3)then V O else if 0<=a3/\a3<zR r1.fst.aX then if 174=174/\a3.toNat<zR r1.fst.aX then V (J (0<(↑r1.fst.aX[a3.toNat]!.ax.length:Int)))else I else I with|I=>I|V r2=>bif r2 then V (bk.mk [] [],3)else if 0<=a3/\a3<zR r1.fst.aX then if 174=174/\a3.toNat<zR r1.fst.aX then match aik r1.fst.aX[a3.toNat]!.bK with|I=>I|V r3=>bif bif r3 then G else O then V (bk.mk [] [],11)else match UA a3 r1.fst with|I=>I|V r4=>bif bif J (r4.fst=0)then G else O then V (bk.mk [] [],r4.fst)else match Zt r4.snd with|I=>I|V r5=>V (r5.fst,0)else I else I
def e48:bu->bu:=eZ vn 48 (lc (qg 26) (lc (qg 29) (lc (qg 84) (aS ln)))) d48 (λg=>m48 g.1 g.2.1 g.t.1 g.t.2.1)
def ar2:EO e48:=λh=>kZ (F:=F48) (an:=(noTwo (noTwo (noTwo (.two (.two (.rb [] 46) .no) .no))))) (l:=[(.skip,(.rb [] 46))]) func48 (Ja (abA (L9 (akI (OZ aP))))) (aA aFt aH) h
abbrev E54:=bk×Int
def d54:Td 0 E54:= .c [] [4,5] (.t (bX.c 0 0 [] 47) (.t (bX.c 0 1 [] 117) (.c [] [4,5] (.r 0 3 (ec 4 (qp 0 0) (ec 5 aN en)) (sb 0 84 (lc (qo 1) (lc (qo 2) ln)) (sr 1 47 (sr 2 117 sn))) (λz=>((bk.mk z.t.1 z.t.2.1),z.1.2.1)) (λx=>(((),x.2,()),(((),(),()),x.1.cE,x.1.aX,())))))))
def m54(a0:aU)(a1:bW):af E54:=
 match NO a0 a1 with|I=>(match ae2 a0 a1 with|I=>I|V r3=>bif bif J (r3.snd=0)then G else O then V ((bk.mk [] [],r3.snd))else I)|V r1=>bif bif J (r1.snd=0)then G else O then V ((bk.mk [] [],r1.snd))else match Zt r1.fst with|I=>I|V r2=>V ((r2.fst,0))
def e54:bu->bu:=eZ vn 54 (lc (qg 26) (lc (qg 29) ln)) d54 (λg=>m54 g.1 g.2.1)
def avA:EO e54:=λh=>kZ (an:= .no) func54 (P6 (O2 (Ja aP))) aH h
abbrev E58:=aa Part
def d58:Td 0 E58:= .c [] [2] (.r 0 1 (ec 2 (qo 0) en) (sr 0 90 sn) (λz=>z.2.1) (λx=>(((),()),(x,()))))
def m58(a0:aU):af E58:=
 match asi a0 with|I=>I|V r1=>V ([Part.mk (0) (0) [] r1])
def e58:bu->bu:=eZ vn 58 (lc (qg 26) ln) d58 (λg=>m58 g.1)
def aq3:EO e58:=λh=>kZ (an:= .no) func58 (aiA aP) aH h
def aGC:bu:=di
abbrev au2:=aL
def d194:Td 0 au2:= .c [] [4] (.r 0 1 (ec 4 (qp 0 0) en) (sb 0 34 (lg 34) sn) (λz=>z.2.1) (λx=>(((),()),(x,()))))
def aDi:=(aS (aS ln))
def anG:An:= .no
def QM(a0:Int)(a1:Int):au2:=
 bif J (a0=a1)then aL.mk a0 a1 (0)else aL.mk a0 a1 (1)
def aH2(a0:Int)(a1:Int):bU vn (aGC) 300 (anG) 194 (aDi.c (a0,a1,())) [] 0 d194.rd=V (QM a0 a1):=by
 refine Eq.trans (b:=(
  bif J (a0=a1)then V (aL.mk a0 a1 (0))else V (aL.mk a0 a1 (1)):af au2)) aV ?_
 simp only[QM,cu,cO]
def aGf:=eL vn 194 G aDi d194 (λg=>V (QM g.1 g.2.1))
def ahe:EO aGf:=λh=>kL (an:=anG) func194 aP aH h (c:=λg=>aH2 g.1 g.2.1)
abbrev axS:=(aa aL)×(aa aL)
def d112:Td 0 axS:= .c [] [6,7] (.r 0 2 (ec 6 (qo 0) (ec 7 (qo 1) en)) (sr 0 34 (sr 1 34 sn)) (λz=>(z.2.1,z.t.1)) (λx=>(((),(),()),(x.1,x.2,()))))
def ahl(a0:aa aL)(a1:Int)(a2:Int):af axS:=
 match Ta a0 with|I=>I|V r1=>match Ta a0 with|I=>I|V r2=>if 0<=a1/\a1<zR a0 then if 0<=a1/\a1<(↑(zR r1):Int)then if 34=34/\a1.toNat<zR r1 then if 0<=a1/\a1<zR a0 then if 0<=a1/\a1<(↑(zR r2):Int)then if 34=34/\a1.toNat<zR r2 then V ((List.set r1 a1.toNat (QM a0[a1.toNat]!.ah a2),List.set r2 a1.toNat (QM (ak (a2+1)) a0[a1.toNat]!.ag)))else I else I else I else I else I else I
def au0:=eL vn 112 G (lc (ql 34) (aS (aS ln))) d112 (λg=>ahl g.1 g.2.1 g.t.1)
def akV:EO au0:=λh=>kL (an:= .no) func112 (ahe (rG aP)) aH h
structure Bz where
 t0:List aL
 t2:Int
 t7:List aL
 (t8 t9:Int)
def QV:Td 0 Bz:= .c [] [0,2,7,8,9] (.r 0 0 (ec 0 (ql 34) (ec 2 aN (ec 7 (ql 34) (ec 8 aN (ec 9 aN en))))) sn (λz=>⟨z.1.1,z.1.2.1,z.1.t.1,z.1.t.2.1,z.1.q.1⟩) (λx=>((x.t0,x.t2,x.t7,x.t8,x.t9,()),(()))))
def Fv(p:Bz):af (af Bz):=
 bif J (p.t9<p.t8)then if 0<=p.t9/\p.t9<zR p.t7 then if 0<=p.t2/\p.t2<zR p.t0 then if 0<=p.t2/\p.t2<zR p.t0 then bif J (ak (p.t0[zD p.t2]!.ag-p.t0[zD p.t2]!.ah)<ak (p.t7[zD p.t9]!.ag-p.t7[zD p.t9]!.ah))then V (V (Bz.mk p.t0 p.t9 p.t7 p.t8 (ak (p.t9+1))))else V (V (Bz.mk p.t0 p.t2 p.t7 p.t8 (ak (p.t9+1))))else I else I else I else V (I)
def I6:=bJ (Fv)
abbrev aw3:=Int×Int×Bool
def d111:Td 0 aw3:= .c [] [2,3,4] (.r 0 0 (ec 2 aN (ec 3 aN (ec 4 qb en))) sn (λz=>(z.1.1,z.1.2.1,z.1.t.1)) (λx=>((x.1,x.2.1,x.t,()),(()))))
def aj5(a0:aa aL):af aw3:=
 match I6 (Bz.mk a0 0 a0 a0.length 0)with|I=>I|V r1=>bif J (r1.t9<r1.t8)then if 0<=r1.t9/\r1.t9<zR r1.t7 then if 0<=r1.t2/\r1.t2<zR r1.t0 then if 0<=r1.t2/\r1.t2<zR r1.t0 then bif J (ak (r1.t0[zD r1.t2]!.ag-r1.t0[zD r1.t2]!.ah)<ak (r1.t7[zD r1.t9]!.ag-r1.t7[zD r1.t9]!.ah))then I else I else I else I else I else bif J ((zR r1.t0:Int)=0)then V (0,0,G)else if 0<=r1.t2/\r1.t2<zR r1.t0 then if 0<=r1.t2/\r1.t2<zR r1.t0 then bif J (r1.t0[zD r1.t2]!.ag=r1.t0[zD r1.t2]!.ah)then V (0,0,G)else if 0<=r1.t2/\r1.t2<zR r1.t0 then if 0<=r1.t2/\r1.t2<zR r1.t0 then match ag3 (ak (r1.t0[zD r1.t2]!.ah+r1.t0[zD r1.t2]!.ag)) 2with|I=>I|V r2=>V (r1.t2,r2,O)else I else I else I else I
def Yn:=eL vn 111 G (lc (ql 34) ln) d111 (λg=>aj5 g.1)
def ago:EO Yn:=λh=>kL (an:=(noTwo (.two (noTwo (QV.lp I6 .no)) .no))) (l:=[(aY f111 0,(QV.lp I6 .no))]) func111 (afX aP) (aA (aO QV) aH) h
abbrev aDu:=aa Part
def d113:Td 0 aDu:= .c [] [2] (.t (bX.s 2 [] 90) (.c [] [2] (.r 0 1 (ec 2 (qo 0) en) (sr 0 90 sn) (λz=>z.2.1) (λx=>(((),()),(x,()))))))
def aAf:=(lc (ql 90) ln)
def X0(a0:aa Part):af aDu:=if zR a0<=1073741824 then V a0 else I
def ach:eX vn di 0 300 113 .no:=b6 (l:=[]) func113 (bN aV) aV aH
def aBC(x:Part)(xs:aa Part):bU vn di 300 .no 113 [.sl 90 (x::xs)] [] 0 d113.rd=if([]++(x::xs)).length<=1073741824 then V ([]++(x::xs))else I:=aV
def aB0(c:Nat):bU vn di 300 .no 113 [.lit (.slice I 0 c)] [] 0 d113.rd=V []:=aV
def axd(a:Addr)(c:Nat):bU vn di 300 .no 113 [.lit (.slice (V a) 0 c)] [] 0 d113.rd=V []:=aV
def aHp:HL vn 113 aAf d113 (λg=>X0 g.1):=λg r h=>by
 obtain⟨a0,_⟩:=g;have h:X0 a0=V r:=h;cases a0 with
 |cons x xs=>exact(jT (out:=λp=>fG vn 113 0 (d113.pat p)) (p:=r) aP ach d113.ok (λp=>aV) (iK aV) (iA aV) ((aBC x xs).trans (by rw[yz];exact h))).2
 |nil=>
  cases h;exact Jc (λc=>(jT (out:=λp=>fG vn 113 0 (d113.pat p)) (p:=[]) aP ach d113.ok (λp=>aV) (iK aV) (iA aV) (aB0 c)).2) (λa c=>(jT (out:=λp=>fG vn 113 0 (d113.pat p)) (p:=[]) aP ach d113.ok (λp=>aV) (iK aV) (iA aV) (axd a c)).2)
def auU:bu->bu:=eZ vn 113 aAf d113 (λg=>X0 g.1)
def amK{F:bu}(h:bz vn F):bz vn (auU F):=Eh aHp ⟨_,func113,aV,aV⟩ (λ_=>aV) h
abbrev E49:=(aa Part)×Bool
def d49:Td 0 E49:= .c [] [4,5] (.t (bX.fs 4 []) (.c [] [4,5] (.r 0 0 (ec 4 (ql 90) (ec 5 qb en)) sn (λz=>(z.1.1,z.1.2.1)) (λx=>((x.1,x.2,()),(()))))))
def m49(a0:aa Part)(a1:Int):af E49:=
 if 0<=a1/\a1<zR a0 then match aj5 a0[a1.toNat]!.bK with|I=>I|V r1=>bif bif r1.snd.snd then G else O then V (a0,G)else if 0<=a1/\a1<zR a0 then match ahl a0[a1.toNat]!.bK r1.fst r1.snd.fst with|I=>I|V r2=>match X0 a0 with|I=>I|V r3=>if(r3++[Part.mk ((0:Int)) ((0:Int)) [] r2.fst,Part.mk ((0:Int)) ((0:Int)) [] r2.snd]).length<=1073741824 then if 0<=a1/\a1<zR a0 then if 0<=a1/\a1<(↑(r3++[Part.mk ((0:Int)) ((0:Int)) [] r2.fst,Part.mk ((0:Int)) ((0:Int)) [] r2.snd]).length:Int)then if 90=90/\a1.toNat<zR (r3++[Part.mk ((0:Int)) ((0:Int)) [] r2.fst,Part.mk ((0:Int)) ((0:Int)) [] r2.snd]) then V (((r3++[Part.mk 0 0 [] r2.fst,Part.mk 0 0 [] r2.snd]).set a1.toNat (Part.mk r1.fst r1.snd.fst [(zR a0:Int),ak ((zR a0:Int)+1)] a0[a1.toNat]!.bK),O))else I else I else I else I else I else I
def e49:bu->bu:=eZ vn 49 (lc (ql 90) (aS ln)) d49 (λg=>m49 g.1 g.2.1)
def ar6:EO e49:=λh=>kZ (an:= .no) func49 (amK (akV (ago aP))) aH h
def ayi:bu:=di
structure A7 where
 t3:Int
 t7:List bf
 (t8 t9:Int)
def RQ:Td 0 A7:= .c [] [3,7,8,9] (.r 0 0 (ec 3 aN (ec 7 (ql 131) (ec 8 aN (ec 9 aN en)))) sn (λz=>⟨z.1.1,z.1.2.1,z.1.t.1,z.1.t.2.1⟩) (λx=>((x.t3,x.t7,x.t8,x.t9,()),(()))))
def JS(p:A7):af (af A7):=
 bif J (p.t9<p.t8)then if 0<=p.t9/\p.t9<zR p.t7 then match bif J (p.t7[zD p.t9]!.bB=1)then V O else V (J (p.t7[zD p.t9]!.bB=3))with|I=>I|V r1=>bif r1 then V (V (A7.mk (ak (p.t3*ak (ak (p.t7[zD p.t9]!.ag-p.t7[zD p.t9]!.ah)+1))) p.t7 p.t8 (ak (p.t9+1))))else V (V (A7.mk p.t3 p.t7 p.t8 (ak (p.t9+1))))else I else V (I)
def abx:An:=(noTwo (noTwo (.two (noTwo (.two (.rb [] 20) .no)) .no)))
def Kw:=bJ (JS)
abbrev ayC:=Int
def d104:Td 0 ayC:= .c [] [2] (.r 0 0 (ec 2 aN en) sn (λz=>z.1.1) (λx=>((x,()),(()))))
def az9:∀f∈([]:aa Nat),bA (ayi) f:=aH
def aiG(a0:aU):af ayC:=
 match Kw (A7.mk 1 a0.ai a0.ai.length 0)with|I=>I|V r2=>bif J (r2.t9<r2.t8)then if 0<=r2.t9/\r2.t9<zR r2.t7 then match bif J (r2.t7[zD r2.t9]!.bB=1)then V O else V (J (r2.t7[zD r2.t9]!.bB=3))with|I=>I|V r3=>bif r3 then I else I else I else V (r2.t3)
def abj:=eL vn 104 G (lc (qg 26) ln) d104 (λg=>aiG g.1)
def afp:EO abj:=λh=>kL (F:=ayi) (an:=(noTwo (noTwo (.two (noTwo (RQ.lp Kw abx)) .no)))) (l:=[(aY f104 0,(RQ.lp Kw abx)),(.skip,(.rb [] 20))]) func104 aP (aA (aO RQ) (aA az9 aH)) h
def Br:EP abj:=λh=>kP h
def F46:bu:=(abj (e55 (e24 di)))
abbrev E46:=Bool
def d46:Td 0 E46:= .c [] [4] (.r 0 0 (ec 4 qb en) sn (λz=>z.1.1) (λx=>((x,()),(()))))
def aGa:∀f∈([24,55,104]:aa Nat),bA (F46) f:=(aA (Br (Es (FJ bF))) (aA (Br (Es (FJ bF))) (aA (Br (Es (FJ bF))) aH)))
def m46(a0:aU)(a1:bW):af E46:=
 match match m24 a0 (16) (4096) (4)with|I=>I|V r1=>bif r1 then match m55 a0 a1 with|I=>I|V r2=>bif J (r2=0)then match aiG a0 with|I=>I|V r3=>V (J (r3<=16))else V (G)else V (G)with|I=>I|V r4=>V (r4)
def e46:=eL vn 46 G (lc (qg 26) (lc (qg 29) ln)) d46 (λg=>m46 g.1 g.2.1)
def au3:EO e46:=λh=>kL (F:=F46) (an:=(noTwo (.two (.rb [24,55,104] 4) .no))) (l:=[(.skip,(.rb [24,55,104] 4))]) func46 (afp (arz (aus aP))) (aA aGa aH) h
def O5:EP e46:=λh=>kP h
def F47:bu:=(e58 (e54 (e49 (e48 di))))
structure Ia where
 t9:List Part
 t31:List Int
 (t32 t33:Int)
 b0:aU
 b1:bW
 (b2 b3:bk)
def aeB:Td 0 Ia:= .c [] [3,4,7,9,10,31,32,33] (.t (bX.fs 9 []) (.c [] [3,4,7,9,10,31,32,33] (.r 0 6 (ec 3 (qp 0 0) (ec 4 (qp 1 0) (ec 7 (qp 2 0) (ec 9 (ql 90) (ec 10 (qp 3 0) (ec 31 (ql 5) (ec 32 aN (ec 33 aN en)))))))) (sb 0 26 (lg 26) (sb 1 29 (lg 29) (sb 2 84 (lc qn (lc qn ln)) (sb 3 84 (lc (qo 4) (lc (qo 5) ln)) (sr 4 47 (sr 5 117 sn)))))) (λz=>⟨z.1.t.2.1,z.1.q.2.1,z.1.q.t.1,z.1.q.t.2.1,z.2.1,z.t.1,(bk.mk [] []),(bk.mk z.q.2.1 z.q.t.1)⟩) (λx=>(((),(),(),x.t9,(),x.t31,x.t32,x.t33,()),(x.b0,x.b1,((),(),()),((),(),()),x.b3.cE,x.b3.aX,()))))))
def VP(p:Ia):af (af Ia):=
 bif J (p.t33<p.t32)then if 0<=p.t33/\p.t33<zR p.t31 then if¬(zR p.t9:Int)=(0:Int)then match m49 p.t9 ((ak p.t31[zD p.t33]!).tmod p.t9.length)with|I=>I|V r1=>match if(0:Int)<=(ak p.t31[zD p.t33]!).tmod p.t9.length/\(ak p.t31[zD p.t33]!).tmod (zR p.t9:Int)<(zR p.t9:Int)then bif J (0<(↑p.t9[((ak p.t31[zD p.t33]!).tmod p.t9.length).toNat]!.ax.length:Int))then V O else V (bif r1.snd then G else O)else I with|I=>I|V r2=>bif r2 then V (V (Ia.mk p.t9 p.t31 p.t32 (ak (p.t33+1)) p.b0 p.b1 (bk.mk [] []) p.b3))else match m48 p.b0 p.b1 p.b3 ((ak p.t31[zD p.t33]!).tmod p.t9.length)with|I=>I|V r3=>bif bif J (r3.snd=0)then G else O then V (I)else V (V (Ia.mk r1.fst p.t31 p.t32 (ak (p.t33+1)) p.b0 p.b1 (bk.mk [] []) r3.fst))else I else I else V (I)
def ao1:An:=(noTwo (noTwo (.two (noTwo (noTwo (noTwo (.two (.two (.rb [] 58) .no) .no)))) .no)))
def UE:=bJ (VP)
abbrev E47:=(aa Part)×bk×Bool
def d47:Td 0 E47:= .c [] [6,7,8] (.t (bX.fs 6 []) (.t (bX.fc 1 0 []) (.t (bX.fc 1 1 []) (.t (bX.fc 0 0 []) (.t (bX.fc 0 1 []) (.c [] [6,7,8] (.r 0 1 (ec 6 (ql 90) (ec 7 (qp 0 0) (ec 8 qb en))) (sb 0 84 (lg 84) sn) (λz=>(z.1.1,z.2.1,z.1.t.1)) (λx=>((x.1,(),x.t,()),(x.2.1,()))))))))))
def aGL:∀f∈([]:aa Nat),bA (F47) f:=aH
def m47(a0:aU)(a1:bW)(a2:aa Int):af E47:=
 match m58 a0 with|I=>I|V r4=>match m54 a0 a1 with|I=>I|V r5=>bif bif J (r5.snd=0)then G else O then V (r4,r5.fst,G)else match UE (Ia.mk r4 a2 a2.length 0 a0 a1 (bk.mk [] []) r5.fst)with|I=>I|V r6=>bif J (r6.t33<r6.t32)then if 0<=r6.t33/\r6.t33<zR r6.t31 then if¬(zR r6.t9:Int)=(0:Int)then match m49 r6.t9 ((ak r6.t31[zD r6.t33]!).tmod r6.t9.length)with|I=>I|V r7=>match if(0:Int)<=(ak r6.t31[zD r6.t33]!).tmod r6.t9.length/\(ak r6.t31[zD r6.t33]!).tmod (zR r6.t9:Int)<(zR r6.t9:Int)then bif J (0<(↑r6.t9[((ak r6.t31[zD r6.t33]!).tmod r6.t9.length).toNat]!.ax.length:Int))then V O else V (bif r7.snd then G else O)else I with|I=>I|V r8=>bif r8 then I else match m48 r6.b0 r6.b1 r6.b3 ((ak r6.t31[zD r6.t33]!).tmod r6.t9.length)with|I=>I|V r9=>bif bif J (r9.snd=0)then G else O then V (r6.t9,r6.b3,G)else I else I else I else V (r6.t9,r6.b3,O)
def e47:bu->bu:=eZ vn 47 (lc (qg 26) (lc (qg 29) (lc (ql 5) ln))) d47 (λg=>m47 g.1 g.2.1 g.t.1)
def aua:EO e47:=λh=>kZ (F:=F47) (an:=(noTwo (noTwo (noTwo (noTwo (.two (noTwo (aeB.lp UE ao1)) .no)))))) (l:=[(aY f47 0,(aeB.lp UE ao1)),(.skip,(.rb [] 58))]) func47 (aq3 (avA (ar6 (ar2 aP)))) (aA (aO aeB) (aA aGL aH)) h
def N8{F:bu}{f:Nat}(hne:ze f 47=G)(h:bA F f):bA (e47 F) f:=ri hne h
structure aKq where
 t7:List Part
 t10:Int
 b0:aU
 b1:bW
 b2:bk
def iv(a b:Int):aL:=if a=b then⟨a,b,0⟩else⟨a,b,1⟩
def RB(a b:Int):(iv a b).ah=a:=by unfold iv;split<;>rfl
def JE(a b:Int):(iv a b).ag=b:=by unfold iv;split<;>rfl
def aiI(a b:Int):RE a b=iv a b:=by unfold RE iv;by_cases h:a=b<;>simp[h]
def azX{a b:Int}(h1: -1048576<=a)(h2:a<=b)(h3:b<=1048576):NN (iv a b):=by
 unfold iv;by_cases e:a=b
 ·rw[bI e];exact⟨by show _<=a;omega,by show b<=_;omega,by show a<=b;omega, .inl ⟨e,rfl⟩⟩
 ·rw[bO e];exact⟨by show _<=a;omega,by show b<=_;omega,by show a<=b;omega, .inr ⟨by show a<b;omega,by show (1:Int)<=1;omega,by show (b-a)%1=0;omega⟩⟩
structure iG (f:aU) (b:List aL):Prop where
 len:zR b=zR (ew f.ai)
 el:∀j,j<zR b->∃x y,b[j]! =iv x y/\x<=y/\(ew f.ai)[j]!.ah<=x/\y<=(ew f.ai)[j]!.ag
structure Cx (f:aU) (v:bW):Prop where
 hN:fM f.bM+kH (f.au.map (·.aG))<=900
 hh:zR f.au<=1000
 hl:zR f.ai<=1000
 hc:pL f=0
 hq:cdA f v=0
def iT{α:Type}[Inhabited α](l:aa α)(i j:Nat)(x:α)(hj:j<zR l):(l.set i x)[j]! =if i=j then x else l[j]! :=by
 rw[getElem!_pos _ j (by simpa using hj),getElem!_pos l j hj,List.getElem_set]
def abo{α:Type}[Inhabited α](l m:aa α)(j:Nat)(hj:j<zR l):(l++m)[j]! =l[j]! :=by
 rw[getElem!_pos _ j (by simp;omega),getElem!_pos l j hj,wg hj]
def EZ{α:Type}[Inhabited α](l m:aa α)(j:Nat)(h:j<zR m):(l++m)[zR l+j]! =m[j]! :=by
 rw[getElem!_pos _ _ (by simp;omega),getElem!_pos m j h,wC aq];simp
def eo{α β:Type}[Inhabited α][Inhabited β](g:α->β)(l:aa α)(j:Nat)(h:j<zR l):(l.map g)[j]! =g l[j]! :=by
 rw[getElem!_pos _ j (by simpa using h),getElem!_pos l j h,yL]
def ZA(b:aa aL)(i:Nat)(at_:Int):aa aL:=b.set i (iv b[i]!.ah at_)
def ZL(b:aa aL)(i:Nat)(at_:Int):aa aL:=b.set i (iv (at_+1) b[i]!.ag)
section
variable {f:aU} {v:bW}
def j9(h:Cx f v):zR (ew f.ai)<=2000:=by
 unfold ew;rw[zg];have:=yt (kd 1) f.ai;have:=yt (kd 3) f.ai;have:=h.hl;omega
def iG.bd{b:aa aL}(h:iG f b)(c:pL f=0){j:Nat}(hj:j<zR b): -1048576<=b[j]!.ah/\b[j]!.ah<=b[j]!.ag/\b[j]!.ag<=1048576:=by
 obtain⟨x,y,e,h1,h2,h3⟩:=h.el j hj;obtain⟨k1,k2,k3⟩:=Qi c (j:=j) (by rw[<-h.len];exact hj);rw[e,RB,JE];omega
def U3(h:Cx f v):iG f (oB f):=by
 rw[abG];refine⟨by simp,λj hj=> ?_⟩;have hj':j<zR (ew f.ai):=by simpa using hj
 obtain⟨k1,k2,k3⟩:=Qi h.hc hj';refine⟨(ew f.ai)[j]!.ah,(ew f.ai)[j]!.ag,?_,k2,zw _,zw _⟩;rw[eo _ _ _ hj'];unfold CN iv;by_cases e:(ew f.ai)[j]!.ah=(ew f.ai)[j]!.ag
 ·rw[bI e,bI e,<-e]
 ·rw[bO e,bO e]
def abC{b:aa aL}(h:iG f b){i:Nat}(hi:i<zR b){x y:Int}(h1:x<=y)(h2:b[i]!.ah<=x)(h3:y<=b[i]!.ag):iG f (b.set i (iv x y)):=by
 refine⟨by rw[yw];exact h.len,λj hj=> ?_⟩;rw[yw]at hj;rw[iT _ _ _ _ hj];by_cases e:i=j
 ·subst e;obtain⟨x',y',e',k1,k2,k3⟩:=h.el i hj;rw[e',RB]at h2;rw[e',JE]at h3;exact⟨x,y,by rw[bI rfl],h1,aq,aq⟩
 ·rw[bO e];exact h.el j hj
def apb{b:aa aL}(h:iG f b){i:Nat}(hi:i<zR b){a:Int}(h1:b[i]!.ah<=a)(h2:a<b[i]!.ag):iG f (ZA b i a):=abC h hi h1 (zw _) aq
def apB{b:aa aL}(h:iG f b){i:Nat}(hi:i<zR b){a:Int}(h1:b[i]!.ah<=a)(h2:a<b[i]!.ag):iG f (ZL b i a):=abC h hi aq aq (zw _)
def iG.ask{b:aa aL}(h:iG f b)(c:Cx f v):uG f v b=0:=by
 have hq:=c.hq;have hc:=c.hc;unfold cdA at hq;unfold uG;by_cases h2:zR v.aZ=zR (f.ai.filter (kd 2))
 case neg=>rw[bO (by simpa using hc),bI h2]at hq;cases hq
 by_cases h3:cz (jx v.aZ) (f.ai.filter (kd 2)) 0=0
 case neg=>rw[bO (by simpa using hc),bO (by simpa using h2)]at hq;exact ei hq h3
 rw[bO (by simpa using hc),bO (by simpa using h2),bO (by simpa using h3),bO (by simpa using h.len)];refine Hi _ _ λj hj=> ?_;rw[yj];have hj':j<zR b:=by rw[h.len];exact hj
 obtain⟨x,y,e,h1,h2,h3⟩:=h.el j hj';obtain⟨k1,k2,k3⟩:=Qi hc hj;have hn:NN b[j]! :=by rw[e];exact azX aq h1 aq
 have el:b[j]!.ah=x:=by rw[e,RB]
 have eh:b[j]!.ag=y:=by rw[e,JE]
 unfold o6;rw[dZ (.inr hn)];simp only[cT];have hs:XU b[j]! =b7 b[j]! :=by unfold XU;rw[bI (.inr hn)]
 have hp:=size_pos hn;rw[hs,fK,fK,fK];rfl
def bdX(f:aU)(v:bW)(b:aa aL):Int:=ajz (fC f v b) (fH b)
def MG(f:aU)(v:bW)(b:aa aL):Bool:=sgB (fC f v b)
def AE(f:aU)(v:bW)(b:aa aL):aC:=if MG f v b=O then X7 (fC f v b)else⟨[],0⟩
def iG.RI{b:aa aL}(h:iG f b)(c:Cx f v):RI f v b=V (bdX f v b,0):=by
 have ha:=h.ask c;have e20:=apS (v:=v) (box:=b) c.hN c.hh c.hl;rw[bI ha]at e20;have hfit:=Au ha;have hbl:zR b<=1000000:=by have:=j9 c;rw[h.len];omega
 exact aBM e20 (DE hfit) hfit.nn hbl hfit.vol.2
def iG.ZC{b:aa aL}(h:iG f b)(c:Cx f v):ZC f v b=V (AE f v b,MG f v b,0):=by
 have ha:=h.ask c;have e20:=apS (v:=v) (box:=b) c.hN c.hh c.hl;rw[bI ha]at e20;have hfit:=Au ha;have:=ayZ e20 (DE hfit);rw[this];unfold AE MG;cases sgB (fC f v b)<;>rfl
def iG.obl{b:aa aL}(h:iG f b)(c:Cx f v):zR (AE f v b).aK<=8:=by
 unfold AE;split
 ·unfold X7;rw[zn];exact(abh (Au (h.ask c))).1
 ·exact yW _
def cellOf(f:aU)(v:bW)(p:Part):dP:=⟨p.bK,p.b8,p.iQ,p.ax,bdX f v p.bK,MG f v p.bK,AE f v p.bK⟩
def gN(l:aa Part)(k i:Nat)(a:Int):aa Part:=
 l.set k ⟨(i:Int),a,[(zR l:Int),((zR l+1:Nat):Int)],l[k]!.bK⟩++[⟨0,0,[],ZA l[k]!.bK i a⟩,⟨0,0,[],ZL l[k]!.bK i a⟩]
def aa9{l:aa aL}(h:zR l<=1000000):Ta l=V l:=by unfold Ta;rw[gW]
def WA{b:aa aL}(h:zR b<=1000000){i:Nat}(hi:i<zR b){a:Int}(h1: -1048576<=a)(h2:a<=1048576):ZD b (i:Int) a=V (ZA b i a,ZL b i a):=by
 have hw:ak (a+1)=a+1:=aM;have i1:(i:Int)<(zR b:Int):=aq;have i2:(0:Int)<=(i:Int):=aq;unfold ZD;simp only[cV,aa9 h,i1,i2,dM,hi,aiI,hw];rfl
def W2{b:aa aL}(h:iG f b)(c:Cx f v){l:aa dP}(hl:zR l<=1000000):acd b ⟨f,v,l⟩=V ⟨f,v,l++[cellOf f v ⟨0,0,[],b⟩]⟩:=by
 have:zR (l++[cellOf f v ⟨0,0,[],b⟩])<=1073741824:=by rw[zg,yg];omega
 unfold acd;simp only[h.RI c,h.ZC c];exact bI this
def D5(l:aa Part)(k:Nat)(q:Part){x:dP}(hx:x=cellOf f v q):(l.map (cellOf f v)).set k x=(l.set k q).map (cellOf f v):=by rw[hx,<-List.map_set]
def aii(c:Cx f v){l:aa Part}(hl:zR l<=100000){k i:Nat}(hk:k<zR l)(hb:iG f l[k]!.bK)(hi:i<zR l[k]!.bK){a:Int}(h1:l[k]!.bK[i]!.ah<=a)(h2:a<l[k]!.bK[i]!.ag):
  ajf (k:Int) (i:Int) a ⟨f,v,l.map (cellOf f v)⟩=V ⟨f,v,(gN l k i a).map (cellOf f v)⟩:=by
 have hbl:zR l[k]!.bK<=1000000:=by have:=j9 c;rw[hb.len];omega
 have hd:=hb.bd c.hc hi;have ad3:=WA hbl hi (a:=a) aq aq;have ek:(l.map (cellOf f v))[k]! =cellOf f v l[k]! :=eo _ _ _ hk;have k1:(k:Int)<(zR l:Int):=aq;have k2:(0:Int)<=(k:Int):=aq;have hw:ak ((zR l:Int)+1)=((zR l+1:Nat):Int):=jJ (n:=1000000) aq aq;have g0:l6 ⟨f,v,l.map (cellOf f v)⟩ (k:Int) (i:Int)=(l.set k ⟨(i:Int),l[k]!.iQ,l[k]!.ax,l[k]!.bK⟩).map (cellOf f v):=by
  unfold l6;rw[zi];exact D5 l k _ (by dsimp only;rw[ek];rfl)
 have g1:mq ⟨f,v,l.map (cellOf f v)⟩ (k:Int) (i:Int) a=(l.set k ⟨(i:Int),a,l[k]!.ax,l[k]!.bK⟩).map (cellOf f v):=by
  unfold mq;rw[g0,zi,eo _ _ _ (by simpa using hk),iT _ _ _ _ hk,bI rfl];exact(D5 _ k ⟨(i:Int),a,l[k]!.ax,l[k]!.bK⟩ rfl).trans (by rw[List.set_set])
 have g2:((l.set k ⟨(i:Int),a,l[k]!.ax,l[k]!.bK⟩).map (cellOf f v))[k]! =cellOf f v ⟨(i:Int),a,l[k]!.ax,l[k]!.bK⟩:=by
  rw[eo _ _ _ (by simpa using hk),iT _ _ _ _ hk,bI rfl]
 have e1:=W2 (apb hb hi h1 h2) c (l:=(l.set k ⟨(i:Int),a,[(zR l:Int),((zR l+1:Nat):Int)],l[k]!.bK⟩).map (cellOf f v)) (by simp;omega);have e2:=W2 (apB hb hi h1 h2) c (l:=(l.set k ⟨(i:Int),a,[(zR l:Int),((zR l+1:Nat):Int)],l[k]!.bK⟩).map (cellOf f v)++[cellOf f v ⟨0,0,[],ZA l[k]!.bK i a⟩]) (by simp;omega);have e3:((l.set k ⟨(i:Int),a,l[k]!.ax,l[k]!.bK⟩).map (cellOf f v)).set k ⟨l[k]!.bK,(i:Int),a,[(zR l:Int),((zR l+1:Nat):Int)],bdX f v l[k]!.bK,MG f v l[k]!.bK,AE f v l[k]!.bK⟩=(l.set k ⟨(i:Int),a,[(zR l:Int),((zR l+1:Nat):Int)],l[k]!.bK⟩).map (cellOf f v):=by
  exact(D5 _ k ⟨(i:Int),a,[(zR l:Int),((zR l+1:Nat):Int)],l[k]!.bK⟩ rfl).trans (by rw[List.set_set])
 unfold ajf;simp only[cV,g0,g1,g2,ek,zn,yw,k1,k2,hk,dM,hw,cellOf,ad3]at*;rw[e3,e1];simp only;rw[e2];simp only[gN,zK,yS];rfl
end
end Go.Proofs.YtnfljbehcffmcaaGreat
end
