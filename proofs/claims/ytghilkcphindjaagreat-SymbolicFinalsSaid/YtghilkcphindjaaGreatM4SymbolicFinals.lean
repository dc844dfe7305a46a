/- Merged: Gf1, Vl, Vb, Vc, Vd, Hka, Hkb, Sy, Pl, Pl2, Zt, Zu, Pfew, Pd, Pv1, Pv3, Pv1b, Pv2, Pv2b, Pv4, Pv5, Pv6, Pv7. -/
import Derived.Test.YtghilkcphindjaaGreatM1SymbolicFinals
import Derived.Test.YtghilkcphindjaaGreatM3SymbolicFinals
import Derived.RangeFuncBound
import Derived.RangeFuncCalls
import Derived.RangeFuncLeaves
import Derived.Shelf.Abstract
import Derived.Shelf.RegionOpen
import Derived.WalkKit
import Derived.OwnWalkIn
import Derived.TacticsInMore
import Derived.LoopNIn
import Derived.LoopIn
open Nat renaming beq -> zg, le_refl -> zx, le_trans -> zK, lt_succ_self -> zN, zero_add -> zY, mul_one -> yb, le_succ -> yc, zero_le -> yu, add_zero -> yG, le_of_ble_eq_true -> yT, pow_pos -> yV, lt_of_lt_of_le -> yW
open Bool renaming and_eq_true -> zh, cond_decide -> zS, false_eq_true -> xz, true -> Z, false -> O
open SizeOf renaming sizeOf -> zi
open Option renaming map_eq_some_iff -> zj, some -> zJ, getD_some -> yE, isSome_none -> yF, isSome_some -> y9, some -> M, none -> J
open List renaming mem_cons -> zk, mem_cons_self -> zm, all_eq_true -> zn, length_append -> zu, range -> zy, mem_singleton -> zA, mem_map -> zC, getElem?_eq_getElem -> zD, length_map -> zF, map_append -> zH, map_cons -> zI, length_take -> zL, mem_cons_of_mem -> zM, getElem?_map -> zP, mem_append -> zR, getElem?_eq_some_iff -> zU, map_congr_left -> zV, mem_filter -> zW, length_drop -> zX, length -> zZ, length_cons -> ya, mem_append_left -> ye, take_length -> yh, filter_append -> yj, nil_append -> yl, size_toArray -> yp, finRange -> yt, map_nil -> yx, getElem_map -> yy, idxOf_lt_length_of_mem -> yz, cons_append -> yB, length_eq_zero_iff -> yC, not_mem_nil -> yD, length_nil -> yP, getElem_mem -> yR, take_of_length_le -> yU, length_singleton -> y8, getElem_of_mem -> xh, getElem_take -> xo, ext_getElem -> xI, push_toArray -> xP, append_toArray -> xQ, map_inj_left -> xR, getElem!_cons_zero -> xS, take_append_drop -> xT, map_take -> xX, getElem_range -> xZ, nodup_iff_pairwise_ne -> x9, length_range -> we, idxOf_append -> wB, foldl_append -> wC, mem_of_mem_drop -> wG, pairwise_cons -> wJ, filter_sublist -> wM, idxOf_cons_self -> wY, sizeOf_lt_of_mem -> wZ, length_filter_le -> w6
open Int renaming toNat_natCast -> zw, le_refl -> zG, lt_irrefl -> zO, toNat -> zQ, mul_nonneg -> yo, mul_le_mul_of_nonneg_right -> xe, le_trans -> x8
open Array renaming getElem?_eq_some_iff -> yd, getElem?_eq_getElem -> xC, replicate_succ -> xN, replicate_zero -> xO
open Decidable renaming decide -> w9
open Go.Proofs.Tryz renaming prog -> va
open Go.Proofs.Tryz
set_option linter.unusedSectionVars false
set_option linter.unusedVariables false
set_option linter.unusedSimpArgs false
set_option linter.defProp false
noncomputable section
set_option maxRecDepth 100000
namespace Go.Proofs.YtghilkcphindjaaGreat
open Go Go.Iv
open Go.IntKind (i64 u64)
def aLu:aT:=dz
abbrev asg:=Int
def d141:Td 0 asg:=dW 6
def aCy:=OX
def aqY:An:= .no
def BH(a0:Int)(a1:Int)(a2:Int):asg:=
 bif w9 (a0<a1)then a1 else bif w9 (a2<a0)then a2 else a0
def aJr(a0:Int)(a1:Int)(a2:Int):bY va (aLu) 300 (aqY) 141 (aCy.c (a0,a1,a2,())) [] 0 d141.rd=M (BH a0 a1 a2):=by
 refine Eq.trans (b:=(
  bif w9 (a0<a1)then M (a1)else bif w9 (a2<a0)then M (a2)else M (a0):af asg)) aL ?_
 simp only[BH,b6,cw]
def aC8:=eL va 141 O aCy d141 (λg=>M (BH g.1 g.2.1 g.t.1))
def JQ:EO aC8:=λh=>kL (an:=aqY) func141 aP az h (c:=λg=>aJr g.1 g.2.1 g.t.1)
abbrev ayT:=Int×Bool
def d136:Td 0 ayT:= .c [] [4,5] (.r 0 0 (ec 4 aU (ec 5 qb en)) sn (λz=>(z.1.1,z.1.2.1)) (λx=>((x.1,x.2,()),(()))))
def Ot(a0:aa Int)(a1:Int):af ayT:=
 bif w9 (zZ a0<=a1)then M (0,O)else if 0<=a1/\a1<zZ a0 then M (a0[a1.toNat]!,Z)else J
def aBR:=eL va 136 O (lc (ql 3) gY) d136 (λg=>Ot g.1 g.2.1)
def akX:EO aBR:=λh=>kL (an:= .no) func136 aP az h
def aLR:aT:=dz
abbrev axg:=Int
def d161:Td 0 axg:=dW 2
def aET:=(lc qb ln)
def ao6:An:= .no
def uJ(a0:Bool):axg:=
 bif a0 then 1 else 0
def aHU(a0:Bool):bY va (aLR) 300 (ao6) 161 (aET.c (a0,())) [] 0 d161.rd=M (uJ a0):=by
 refine Eq.trans (b:=(
  bif a0 then M (1)else M (0):af axg)) aL ?_
 simp only[uJ,b6,cw]
def aDr:=eL va 161 O aET d161 (λg=>M (uJ g.1))
def UE:EO aDr:=λh=>kL (an:=ao6) func161 aP az h (c:=λg=>aHU g.1)
def aCj:aT:=dz
structure pI where
 t0:List Int
 (t1 t5:Int)
 t6:Bool
 t7:Int
def QF:Td 0 pI:= .c [] [0,1,5,6,7] (.r 0 0 (ec 0 (ql 3) (ec 1 aU (ec 5 aU (ec 6 qb (ec 7 aU en))))) sn (λz=>⟨z.1.1,z.1.2.1,z.1.t.1,z.1.t.2.1,z.1.q.1⟩) (λx=>((x.t0,x.t1,x.t5,x.t6,x.t7,()),(()))))
def uK{α:Type}(p:pI)(go:pI->af α)(e1:af α):af α:=
 bif w9 (p.t7<zZ p.t0)then match (if 0<=p.t7/\p.t7<zZ p.t0 then bif w9 (p.t1<=p.t0[zQ p.t7]!)then bif bif p.t6 then O else Z then M Z else if 0<=p.t7/\p.t7<zZ p.t0 then M (w9 (p.t0[zQ p.t7]! <p.t5))else J else M O else J)with|J=>J|M r1=>bif r1 then if 0<=p.t7/\p.t7<zZ p.t0 then go (pI.mk p.t0 p.t1 p.t0[zQ p.t7]! Z (ak (p.t7+1)))else J else go (pI.mk p.t0 p.t1 p.t5 p.t6 (ak (p.t7+1)))else e1
def AO(p:pI):af (af pI):=
 uK p fW dy
def acS:An:=(noTwo (.two (.two (.rb [] 32) .no) .no))
def K3:=bX (AO)
abbrev aAn:=Int
def d140:Td 0 aAn:=dW 4
def aGs:∀f∈([]:aa Nat),bH (aCj) f:=az
def anb(a0:aa Int)(a1:Int):af aAn:=
 match K3 (pI.mk a0 a1 a1 O (0))with|J=>J|M r2=>uK r2 (λ_=>J) (M (r2.t5))
def aA0:=eL va 140 O (lc (ql 3) gY) d140 (λg=>anb g.1 g.2.1)
def akE:EO aA0:=λh=>kL (F:=aCj) (an:=(cA 2 (.two (noTwo (QF.lp K3 acS)) .no))) (l:=[(bz f140 0,(QF.lp K3 acS)),(.skip,(.rb [] 32))]) func140 aP (aA (aO QF) (aA aGs az)) h
abbrev aFq:=aa Int
def d138:Td 0 aFq:= .c [] [8] (.r 0 1 (ec 8 (qo 0) en) (sr 0 3 sn) (λz=>z.2.1) (λx=>(((),()),(x,()))))
def afq(a0:bn)(a1:aa Int)(a2:Int)(a3:Int):af aFq:=
 if([]++a1).length<=1073741824 then if 0<=a2/\a2<zZ a0.ah then if 0<=a2/\a2<zZ a0.ah then if 0<=a2/\a2<(↑([]++a1).length:Int)then if 3=3/\a2.toNat<zZ ([]++a1) then M (([]++a1).set a2.toNat (BH a3 a0.ah[a2.toNat]!.aC a0.ah[a2.toNat]!.au))else J else J else J else J else J
def aEj:=eL va 138 O (lc (qg 26) (lc (ql 3) uS)) d138 (λg=>afq g.1 g.2.1 g.t.1 g.t.2.1)
def alq:EO aEj:=λh=>kL (an:= .no) func138 (JQ aP) az h
def aDS:aT:=dz
abbrev aBg:=Int
def d251:Td 0 aBg:=dW 4
def aGf:∀f∈([]:aa Nat),bH (aDS) f:=az
def aec(a0:Int)(a1:Int):af aBg:=
 bif w9 (a1=0)then M 0 else if¬a1=0then match if¬a1=0then bif bif w9 (a0.tmod a1=0)then O else Z then M (bif w9 (a0<0)==w9 (a1<0)then O else Z)else M O else J with|J=>J|M r1=>bif r1 then M (ak (ak (a0.tdiv a1)-1))else M (ak (a0.tdiv a1))else J
def aKv:=eL va 251 O uS d251 (λg=>aec g.1 g.2.1)
def Wf:EO aKv:=λh=>kL (F:=aDS) (an:=(cA 3 (.two (.two (.rb [] 21) .no) .no))) (l:=[(.skip,(.rb [] 21))]) func251 aP (aA aGf az) h
abbrev aDV:=Int
def d252:Td 0 aDV:=dW 4
def ajJ(a0:Int)(a1:Int):af aDV:=
 bif w9 (a1=0)then M (0)else match aec a0 a1 with|J=>J|M r1=>M (ak (a0-ak (a1*r1)))
def aKd:=eL va 252 O uS d252 (λg=>ajJ g.1 g.2.1)
def aiK:EO aKd:=λh=>kL (an:= .no) func252 (Wf aP) az h
abbrev aEk:=Int
def d199:Td 0 aEk:=dW 6
def al5(a0:Int)(a1:Int)(a2:Int):af aEk:=
 bif w9 (a0=8)then M (ak (a1+a2))else bif w9 (a0=9)then M (ak (a1-a2))else bif w9 (a0=10)then M (ak (a1*a2))else bif w9 (a0=11)then match aec a1 a2 with|J=>J|M r1=>M (r1)else bif w9 (a0=12)then match ajJ a1 a2 with|J=>J|M r2=>M (r2)else bif w9 (a0=13)then M (uJ (w9 (a1=a2)))else bif w9 (a0=14)then M (uJ (bif w9 (a1=a2)then O else Z))else bif w9 (a0=15)then M (uJ (w9 (a1<a2)))else bif w9 (a0=16)then M (uJ (w9 (a1<=a2)))else bif w9 (a0=17)then M (uJ (w9 (a2<a1)))else bif w9 (a0=18)then M (uJ (w9 (a2<=a1)))else bif w9 (a0=19)then bif bif w9 (a1=0)then O else Z then M (uJ (bif w9 (a2=0)then O else Z))else M (uJ O)else bif w9 (a0=20)then bif bif w9 (a1=0)then O else Z then M (uJ Z)else M (uJ (bif w9 (a2=0)then O else Z))else bif w9 (a0=21)then M (jq a1 a2)else M (j8 a1 a2)
def az5:=eL va 199 O OX d199 (λg=>al5 g.1 g.2.1 g.t.1)
def ajb:EO az5:=λh=>kL (an:= .no) func199 (aiK (Wf (UE (C5 (CZ aP))))) az h
def F76:aT:=(aBR dz)
structure lR where
 t0:List bf
 (t6 t7 t8:Int)
 t9:List Int
 t10:Bool
 t11:Int
 b0:fu
def afP:Td 0 lR:= .c [] [0,3,6,7,8,9,10,11] (.r 0 2 (ec 0 (ql 108) (ec 3 (qp 0 0) (ec 6 aU (ec 7 aU (ec 8 aU (ec 9 (qo 1) (ec 10 qb (ec 11 aU en)))))))) (sb 0 84 (lg 84) (sr 1 3 sn)) (λz=>⟨z.1.1,z.1.t.1,z.1.t.2.1,z.1.q.1,z.t.1,z.1.q.t.1,z.1.q.t.2.1,z.2.1⟩) (λx=>((x.t0,(),x.t6,x.t7,x.t8,(),x.t10,x.t11,()),(x.b0,x.t9,()))))
def qz{α:Type}(p:lR)(go:lR->af α)(e1 e2:af α):af α:=
 bif w9 (p.t11<zZ p.t0)then if 0<=p.t11/\p.t11<zZ p.t0 then bif w9 (p.t0[zQ p.t11]!.bQ=1)then match Ot p.b0.cC p.t6 with|J=>J|M r1=>bif bif r1.snd then O else Z then e1 else match (bif w9 (r1.fst<p.t0[zQ p.t11]!.aC)then M Z else M (w9 (p.t0[zQ p.t11]!.au<r1.fst)))with|J=>J|M r2=>bif r2 then if(p.t9++[r1.fst]).length<=1073741824 then go (lR.mk p.t0 (ak (p.t6+1)) p.t7 p.t8 (p.t9++[r1.fst]) O (ak (p.t11+1)) p.b0)else J else if(p.t9++[r1.fst]).length<=1073741824 then go (lR.mk p.t0 (ak (p.t6+1)) p.t7 p.t8 (p.t9++[r1.fst]) p.t10 (ak (p.t11+1)) p.b0)else J else bif w9 (p.t0[zQ p.t11]!.bQ=2)then match Ot p.b0.cq p.t7 with|J=>J|M r3=>bif bif r3.snd then O else Z then e1 else match (bif w9 (r3.fst<p.t0[zQ p.t11]!.aC)then M Z else M (w9 (p.t0[zQ p.t11]!.au<r3.fst)))with|J=>J|M r4=>bif r4 then if(p.t9++[r3.fst]).length<=1073741824 then go (lR.mk p.t0 p.t6 (ak (p.t7+1)) p.t8 (p.t9++[r3.fst]) O (ak (p.t11+1)) p.b0)else J else if(p.t9++[r3.fst]).length<=1073741824 then go (lR.mk p.t0 p.t6 (ak (p.t7+1)) p.t8 (p.t9++[r3.fst]) p.t10 (ak (p.t11+1)) p.b0)else J else bif w9 (p.t0[zQ p.t11]!.bQ=3)then match Ot p.b0.gQ p.t8 with|J=>J|M r5=>bif bif r5.snd then O else Z then e1 else match (bif w9 (r5.fst<p.t0[zQ p.t11]!.aC)then M Z else M (w9 (p.t0[zQ p.t11]!.au<r5.fst)))with|J=>J|M r6=>bif r6 then if(p.t9++[r5.fst]).length<=1073741824 then go (lR.mk p.t0 p.t6 p.t7 (ak (p.t8+1)) (p.t9++[r5.fst]) O (ak (p.t11+1)) p.b0)else J else if(p.t9++[r5.fst]).length<=1073741824 then go (lR.mk p.t0 p.t6 p.t7 (ak (p.t8+1)) (p.t9++[r5.fst]) p.t10 (ak (p.t11+1)) p.b0)else J else match (bif w9 (p.t0[zQ p.t11]!.eB<p.t0[zQ p.t11]!.aC)then M Z else M (w9 (p.t0[zQ p.t11]!.au<p.t0[zQ p.t11]!.eB)))with|J=>J|M r7=>bif r7 then if(p.t9++[p.t0[zQ p.t11]!.eB]).length<=1073741824 then go (lR.mk p.t0 p.t6 p.t7 p.t8 (p.t9++[p.t0[zQ p.t11]!.eB]) O (ak (p.t11+1)) p.b0)else J else if(p.t9++[p.t0[zQ p.t11]!.eB]).length<=1073741824 then go (lR.mk p.t0 p.t6 p.t7 p.t8 (p.t9++[p.t0[zQ p.t11]!.eB]) p.t10 (ak (p.t11+1)) p.b0)else J else J else e2
def sD(p:lR):af (af lR):=
 qz p fW dy dy
def aqq:An:=(noTwo (.two (cA 4 (.two (.two (.rb [] 74) .no) .no)) .no))
def Xz:=bX (sD)
abbrev E76:=(aa Int)×Int
def d76:Td 0 E76:= .c [] [4,5] (.t (bT.s 4 [] 3) (.t (bT.fs 4 []) (.c [] [4,5] (.r 0 0 (ec 4 (ql 3) (ec 5 aU en)) sn (λz=>(z.1.1,z.1.2.1)) (λx=>((x.1,x.2,()),(())))))))
def aEn:∀f∈([]:aa Nat),bH (F76) f:=az
def m76(a0:aa bf)(a1:fu):af E76:=
 match Xz (lR.mk a0 0 0 0 [] Z 0 a1)with|J=>J|M r8=>qz r8 (λ_=>J) (M ([],1)) (match (bif bif w9 (r8.t6=zZ r8.b0.cC)then O else Z then M Z else bif bif w9 (r8.t7=zZ r8.b0.cq)then O else Z then M Z else M (bif w9 (r8.t8=zZ r8.b0.gQ)then O else Z))with|J=>J|M r16=>bif r16 then M ([],1)else bif bif r8.t10 then O else Z then M ([],3)else M (r8.t9,0))
def e76:aT->aT:=eZ va 76 (lc (ql 108) (lc (qg 84) ln)) d76 (λg=>m76 g.1 g.2.1)
def awe:EO e76:=λh=>kZ (F:=F76) (an:=(cA 4 (.two (noTwo (afP.lp Xz aqq)) (.two (.two (.rb [] 97) .no) .no)))) (l:=[(bz f76 0,(afP.lp Xz aqq)),(.skip,(.rb [] 74)),(.skip,(.rb [] 97))]) func76 (akX aP) (aA (aO afP) (aA aEn (aA aEn az))) h
abbrev alm:=Int
def d139:Td 0 alm:=dW 4
def aBB:=(lc (ql 3) Lt)
abbrev Hx:Type:=(aa Int)->ay->af alm
def asp(zf:Hx):aT->aT:=eL va 139 O aBB d139 (λg=>zf g.1 g.2.1)
def aj5(zf:Hx):Prop:=HL va 139 aBB d139 (λg=>zf g.1 g.2.1)
def Ut{zf:Hx}(hM:aj5 zf):EO (asp zf):=fI (sc:=sB) dQ hM ⟨_,func139,aL,aL⟩ (λ_=>aL) (λ_=>aL)
def azh(M139:Hx):aT:=(az5 (aDr (aC8 (asp M139 dz))))
def alx{M139}(h139:aj5 M139):bK va (azh M139):=(ajb (UE (JQ (Ut h139 aP))))
def ayM(M139:Hx):An:= .no
def aFY(M139:Hx):dB va (azh M139) 0 300 139 (ayM M139):=bF (l:=[]) func139 (aY aL) aL az
def avw(M139:Hx)(a0:aa Int)(a1:ay):af alm:=
 bif w9 (a1.bA=0)then M (a1.fN)else bif w9 (a1.bA=24)then if 0<=a1.fN/\a1.fN<zZ a0 then M (a0[a1.fN.toNat]!)else J else bif w9 (a1.bA=6)then if(0:Int)<=(0:Int)/\(0:Int)<zZ a1.ax then match M139 a0 (ay.mk a1.ax[0]!.bA a1.ax[0]!.fN a1.ax[0]!.ax)with|J=>J|M r1=>M (ak (0-r1))else J else bif w9 (a1.bA=7)then if(0:Int)<=(0:Int)/\(0:Int)<zZ a1.ax then match M139 a0 (ay.mk a1.ax[0]!.bA a1.ax[0]!.fN a1.ax[0]!.ax)with|J=>J|M r2=>M (uJ (w9 (r2=0)))else J else bif w9 (a1.bA=23)then if(0:Int)<=(0:Int)/\(0:Int)<zZ a1.ax then match M139 a0 (ay.mk a1.ax[0]!.bA a1.ax[0]!.fN a1.ax[0]!.ax)with|J=>J|M r3=>bif bif w9 (r3=0)then O else Z then if(0:Int)<=(1:Int)/\(1:Int)<zZ a1.ax then match M139 a0 (ay.mk a1.ax[1]!.bA a1.ax[1]!.fN a1.ax[1]!.ax)with|J=>J|M r4=>M (r4)else J else if(0:Int)<=(2:Int)/\(2:Int)<zZ a1.ax then match M139 a0 (ay.mk a1.ax[2]!.bA a1.ax[2]!.fN a1.ax[2]!.ax)with|J=>J|M r5=>M (r5)else J else J else bif w9 (a1.bA=25)then if(0:Int)<=(0:Int)/\(0:Int)<zZ a1.ax then match M139 a0 (ay.mk a1.ax[0]!.bA a1.ax[0]!.fN a1.ax[0]!.ax)with|J=>J|M r6=>if 0<=ak ((1:Int)+BH r6 ((0:Int)) (ak ((zZ a1.ax:Int)-(2:Int))))/\ak ((1:Int)+BH r6 ((0:Int)) (ak ((zZ a1.ax:Int)-(2:Int))))<zZ a1.ax then match M139 a0 (ay.mk a1.ax[(ak (1+BH r6 0 (ak ((zZ a1.ax:Int)-2)))).toNat]!.bA a1.ax[(ak (1+BH r6 0 (ak ((zZ a1.ax:Int)-2)))).toNat]!.fN a1.ax[(ak (1+BH r6 0 (ak ((zZ a1.ax:Int)-2)))).toNat]!.ax)with|J=>J|M r7=>M (r7)else J else J else if(0:Int)<=(0:Int)/\(0:Int)<zZ a1.ax then match M139 a0 (ay.mk a1.ax[0]!.bA a1.ax[0]!.fN a1.ax[0]!.ax)with|J=>J|M r8=>if(0:Int)<=(1:Int)/\(1:Int)<zZ a1.ax then match M139 a0 (ay.mk a1.ax[1]!.bA a1.ax[1]!.fN a1.ax[1]!.ax)with|J=>J|M r9=>match al5 a1.bA r8 r9 with|J=>J|M r10=>M (r10)else J else J
def aoF:Nat->Hx
 |0=>(λ_ _=>J)
 |n+1=>(avw (aoF n))
def ahP(n:Nat):Hx:=(aoF n)
def NW:∀n,aj5 (ahP n)
 |0=>λ_ _ h=>(by cases h)
 |n+1=>fo (alx (NW n)) (aFY (ahP n)) (λ_=>aL) (λ_=>aL) λ_=>aL
def NU:Hx:=λa0 a1=>lim (λn=>ahP n a0 a1)
def alW:aj5 NU:=λg b h=>(bW h).elim λn=>NW n g b
def auz(F:aT):aT:=asp NU F
def Kx:EO auz:=Ut alW
structure EU where
 (t1 t5:List Int)
 t6:Int
 b0:bn
def agz:Td 0 EU:= .c [] [1,2,5,6] (.r 0 2 (ec 1 (ql 3) (ec 2 (qp 0 0) (ec 5 (qo 1) (ec 6 aU en)))) (sb 0 26 (lg 26) (sr 1 3 sn)) (λz=>⟨z.1.1,z.t.1,z.1.t.2.1,z.2.1⟩) (λx=>((x.t1,(),(),x.t6,()),(x.b0,x.t5,()))))
def PO{α:Type}(p:EU)(go:EU->af α)(e1:af α):af α:=
 bif w9 (p.t6<zZ p.b0.ai)then if 0<=p.t6/\p.t6<zZ p.b0.ai then match NU p.t1 (ay.mk p.b0.ai[zQ p.t6]!.aB.bA p.b0.ai[zQ p.t6]!.aB.fN p.b0.ai[zQ p.t6]!.aB.ax)with|J=>J|M r1=>if(p.t5++[BH r1 p.b0.ai[zQ p.t6]!.aC p.b0.ai[zQ p.t6]!.au]).length<=1073741824 then go (EU.mk p.t1 (p.t5++[BH r1 p.b0.ai[zQ p.t6]!.aC p.b0.ai[zQ p.t6]!.au]) (ak (p.t6+1)) p.b0)else J else J else e1
def Xi(p:EU):af (af EU):=
 PO p fW dy
def WH:=bX (Xi)
abbrev E78:=aa Int
def d78:Td 0 E78:= .c [] [4] (.t (bT.fs 4 []) (.c [] [4] (.r 0 0 (ec 4 (ql 3) en) sn (λz=>z.1.1) (λx=>((x,()),(()))))))
def m78(a0:bn)(a1:aa Int):af E78:=
 match WH (EU.mk a1 [] (0) a0)with|J=>J|M r2=>PO r2 (λ_=>J) (M (r2.t5))
def e78:aT->aT:=eZ va 78 (lc (qg 26) (lc (ql 3) ln)) d78 (λg=>m78 g.1 g.2.1)
def aua:EO e78:=λh=>kZ (an:=(cA 2 (.two (noTwo (agz.lp WH .no)) .no))) (l:=[(bz f78 0,(agz.lp WH .no))]) func78 (JQ (Kx aP)) (aA (aO agz) az) h
abbrev E77:=cG
def d77:Td 0 E77:= .c [] [8] (.r 0 1 (ec 8 (qp 0 0) en) (sb 0 88 (lg 88) sn) (λz=>z.2.1) (λx=>(((),()),(x,()))))
def A77:=(lc (qg 26) (lc (ql 3) (lc (ql 111) (lc (qg 88) ln))))
abbrev Hi:Type:=bn->(aa Int)->(aa aM)->cG->af E77
def x77(zf:Hi):aT->aT:=eZ va 77 A77 d77 (λg=>zf g.1 g.2.1 g.2.2.1 g.2.2.2.1)
def H77(zf:Hi):Prop:=HL va 77 A77 d77 (λg=>zf g.1 g.2.1 g.2.2.1 g.2.2.2.1)
def QK{zf:Hi}(hM:H77 zf):EO (x77 zf):=oI hM ⟨_,func77,aL,aL⟩ (λ_=>aL)
abbrev avb:=cG
def d137:Td 0 avb:= .c [] [8] (.r 0 1 (ec 8 (qp 0 0) en) (sb 0 88 (lg 88) sn) (λz=>z.2.1) (λx=>(((),()),(x,()))))
def aEX:=(lc (qg 26) (lc (ql 3) (lc (qg 111) (lc (qg 88) ln))))
abbrev mw:Type:=bn->(aa Int)->aM->cG->af avb
def azU(zf:mw):aT->aT:=eZ va 137 aEX d137 (λg=>zf g.1 g.2.1 g.2.2.1 g.2.2.2.1)
def anS(zf:mw):Prop:=HL va 137 aEX d137 (λg=>zf g.1 g.2.1 g.2.2.1 g.2.2.2.1)
def alk{zf:mw}(hM:anS zf):EO (azU zf):=oI hM ⟨_,func137,aL,aL⟩ (λ_=>aL)
def F77(M77:Hi)(M137:mw):aT:=(aA0 (auz (aEj (azU M137 (x77 M77 dz)))))
def asH{M77 M137}(h77:H77 M77)(h137:anS M137):bK va (F77 M77 M137):=(akE (Kx (alq (alk h137 (QK h77 aP)))))
structure lN where
 t1:List Int
 t2:List aM
 t9:Int
 b0:bn
 (b1 b2:cG)
def ahb:Td 0 lN:= .c [] [1,2,4,7,8,9] (.t (bT.fc 1 0 []) (.t (bT.fc 1 1 []) (.c [] [1,2,4,7,8,9] (.r 0 3 (ec 1 (ql 3) (ec 2 (ql 111) (ec 4 (qp 0 0) (ec 7 (qp 1 0) (ec 8 (qp 2 0) (ec 9 aU en)))))) (sb 0 26 (lg 26) (sb 1 88 (lg 88) (sb 2 88 (lc qn (lc qn gY)) sn))) (λz=>⟨z.1.1,z.1.2.1,z.1.q.2.1,z.2.1,z.t.1,(cG.mk [] [] z.t.2.1.t.1)⟩) (λx=>((x.t1,x.t2,(),(),(),x.t9,()),(x.b0,x.b1,((),(),x.b2.aN,()),())))))))
def Ni{α:Type}(M77:Hi)(M137:mw)(p:lN)(go:lN->af α)(e1:af α):af α:=
 bif w9 (p.t9<zZ p.t2)then if 0<=p.t9/\p.t9<zZ p.t2 then bif w9 (p.t2[zQ p.t9]!.cu=4)then match M137 p.b0 p.t1 (aM.mk p.t2[zQ p.t9]!.cu p.t2[zQ p.t9]!.aW p.t2[zQ p.t9]!.bq p.t2[zQ p.t9]!.fN (ay.mk p.t2[zQ p.t9]!.aB.bA p.t2[zQ p.t9]!.aB.fN p.t2[zQ p.t9]!.aB.ax) p.t2[zQ p.t9]!.aQ p.t2[zQ p.t9]!.aX p.t2[zQ p.t9]!.aR) p.b1 with|J=>J|M r1=>go (lN.mk p.t1 p.t2 (ak (p.t9+1)) p.b0 r1 (cG.mk [] [] p.b2.aN))else bif w9 (p.t2[zQ p.t9]!.cu=0)then match NU p.b1.aV (ay.mk p.t2[zQ p.t9]!.aB.bA p.t2[zQ p.t9]!.aB.fN p.t2[zQ p.t9]!.aB.ax)with|J=>J|M r2=>match afq p.b0 p.b1.aV p.t2[zQ p.t9]!.bq r2 with|J=>J|M r3=>go (lN.mk p.t1 p.t2 (ak (p.t9+1)) p.b0 (cG.mk r3 p.b1.bJ (ak (p.b1.aN+p.t2[zQ p.t9]!.aW))) (cG.mk [] [] p.b2.aN))else bif w9 (p.t2[zQ p.t9]!.cu=1)then if([]++p.b1.bJ).length<=1073741824 then match NU p.b1.aV (ay.mk p.t2[zQ p.t9]!.aB.bA p.t2[zQ p.t9]!.aB.fN p.t2[zQ p.t9]!.aB.ax)with|J=>J|M r4=>if([]++p.b1.bJ++[r4]).length<=1073741824 then go (lN.mk p.t1 p.t2 (ak (p.t9+1)) p.b0 (cG.mk p.b1.aV ([]++p.b1.bJ++[r4]) (ak (p.b1.aN+p.t2[zQ p.t9]!.aW))) (cG.mk [] [] p.b2.aN))else J else J else bif w9 (p.t2[zQ p.t9]!.cu=5)then if 0<=p.t2[zQ p.t9]!.fN/\p.t2[zQ p.t9]!.fN<zZ p.t1 then match afq p.b0 p.b1.aV p.t2[zQ p.t9]!.bq p.t1[p.t2[zQ p.t9]!.fN.toNat]! with|J=>J|M r5=>go (lN.mk p.t1 p.t2 (ak (p.t9+1)) p.b0 (cG.mk r5 p.b1.bJ (ak (p.b1.aN+p.t2[zQ p.t9]!.aW))) (cG.mk [] [] p.b2.aN))else J else bif w9 (p.t2[zQ p.t9]!.cu=3)then match NU p.b1.aV (ay.mk p.t2[zQ p.t9]!.aB.bA p.t2[zQ p.t9]!.aB.fN p.t2[zQ p.t9]!.aB.ax)with|J=>J|M r6=>bif bif w9 (r6=0)then O else Z then match M77 p.b0 p.t1 p.t2[zQ p.t9]!.aQ (cG.mk p.b1.aV p.b1.bJ (ak (p.b1.aN+p.t2[zQ p.t9]!.aW)))with|J=>J|M r7=>go (lN.mk p.t1 p.t2 (ak (p.t9+1)) p.b0 r7 (cG.mk [] [] p.b2.aN))else match M77 p.b0 p.t1 p.t2[zQ p.t9]!.aX (cG.mk p.b1.aV p.b1.bJ (ak (p.b1.aN+p.t2[zQ p.t9]!.aW)))with|J=>J|M r8=>go (lN.mk p.t1 p.t2 (ak (p.t9+1)) p.b0 r8 (cG.mk [] [] p.b2.aN))else bif w9 (p.t2[zQ p.t9]!.cu=6)then match anb p.t2[zQ p.t9]!.aR (ak (p.b1.aN+p.t2[zQ p.t9]!.aW))with|J=>J|M r9=>go (lN.mk p.t1 p.t2 (ak (p.t9+1)) p.b0 (cG.mk p.b1.aV p.b1.bJ r9) (cG.mk [] [] p.b2.aN))else go (lN.mk p.t1 p.t2 (ak (p.t9+1)) p.b0 (cG.mk p.b1.aV p.b1.bJ (ak (p.b1.aN+p.t2[zQ p.t9]!.aW))) (cG.mk [] [] p.b2.aN))else J else e1
def Xk(M77:Hi)(M137:mw)(p:lN):af (af lN):=
 Ni M77 M137 p fW dy
def Uj(M77:Hi)(M137:mw):=bX (Xk M77 M137)
def aJp(M77:Hi)(M137:mw):An:=(noTwo (.two (noTwo (ahb.lp (Uj M77 M137) .no)) .no))
def aIp(M77:Hi)(M137:mw):dB va (F77 M77 M137) 0 300 77 (aJp M77 M137):=bF (l:=[(bz f77 0,(ahb.lp (Uj M77 M137) .no))]) func77 (aY aL) aL (aA (aO ahb) az)
def s77(M77:Hi)(M137:mw)(a0:bn)(a1:aa Int)(a2:aa aM)(a3:cG):af E77:=
 match Uj M77 M137 (lN.mk a1 a2 (0) a0 a3 (cG.mk [] [] (0)))with|J=>J|M r10=>Ni M77 M137 r10 (λ_=>J) (M (r10.b1))
def aEK(M77:Hi)(M137:mw):aT:=(auz (x77 M77 dz))
def ajT{M77 M137}(h77:H77 M77)(h137:anS M137):bK va (aEK M77 M137):=(Kx (QK h77 aP))
structure uH where
 t1:List Int
 t9:Int
 b0:bn
 b1:aM
 (b2 b3:cG)
def Rt:Td 0 uH:= .c [] [1,4,6,7,8,9] (.r 0 4 (ec 1 (ql 3) (ec 4 (qp 0 0) (ec 6 (qp 1 0) (ec 7 (qp 2 0) (ec 8 (qp 3 0) (ec 9 aU en)))))) (sb 0 26 (lg 26) (sb 1 111 (lg 111) (sb 2 88 (lg 88) (sb 3 88 (lc qn (lc qn gY)) sn)))) (λz=>⟨z.1.1,z.1.q.2.1,z.2.1,z.t.1,z.t.2.1,(cG.mk [] [] z.q.1.t.1)⟩) (λx=>((x.t1,(),(),(),(),x.t9,()),(x.b0,x.b1,x.b2,((),(),x.b3.aN,()),()))))
def Bx{α:Type}(M77:Hi)(M137:mw)(p:uH)(go:uH->af α)(e1 e2:af α):af α:=
 bif w9 (p.t9<p.b1.fN)then match NU p.b2.aV (ay.mk p.b1.aB.bA p.b1.aB.fN p.b1.aB.ax)with|J=>J|M r1=>bif w9 (r1=0)then e1 else match M77 p.b0 p.t1 p.b1.aQ (cG.mk p.b2.aV p.b2.bJ (ak (p.b2.aN+p.b1.aW)))with|J=>J|M r2=>go (uH.mk p.t1 (ak (p.t9+1)) p.b0 (aM.mk p.b1.cu p.b1.aW p.b1.bq p.b1.fN (ay.mk p.b1.aB.bA p.b1.aB.fN p.b1.aB.ax) p.b1.aQ p.b1.aX p.b1.aR) r2 (cG.mk [] [] p.b3.aN))else e2
def DG(M77:Hi)(M137:mw)(p:uH):af (af uH):=
 Bx M77 M137 p fW dy dy
def JJ(M77:Hi)(M137:mw):=bX (DG M77 M137)
def aEG(M77:Hi)(M137:mw):An:=(noTwo (.two (noTwo (Rt.lp (JJ M77 M137) .no)) .no))
def aEN(M77:Hi)(M137:mw):dB va (aEK M77 M137) 0 300 137 (aEG M77 M137):=bF (l:=[(bz f137 0,(Rt.lp (JJ M77 M137) .no))]) func137 (aY aL) aL (aA (aO Rt) az)
def avG(M77:Hi)(M137:mw)(a0:bn)(a1:aa Int)(a2:aM)(a3:cG):af avb:=
 match JJ M77 M137 (uH.mk a1 (0) a0 (aM.mk a2.cu a2.aW a2.bq a2.fN (ay.mk a2.aB.bA a2.aB.fN a2.aB.ax) a2.aQ a2.aX a2.aR) a3 (cG.mk [] [] (0)))with|J=>J|M r3=>Bx M77 M137 r3 (λ_=>J) (M (cG.mk r3.b2.aV r3.b2.bJ (ak (r3.b2.aN+r3.b1.aW)))) (M (r3.b2))
def mV:Nat->Hi×mw
 |0=>(λ_ _ _ _=>J,λ_ _ _ _=>J)
 |n+1=>(s77 (mV n).1 (mV n).2,avG (mV n).1 (mV n).2)
def m77(n:Nat):Hi:=(mV n).1
def Y6(n:Nat):mw:=(mV n).2
def Cf:∀n,H77 (m77 n)/\anS (Y6 n)
 |0=>⟨λ_ _ h=>(by cases h),λ_ _ h=>(by cases h)⟩
 |n+1=>by
  have ih:=Cf n;obtain⟨i77,i137⟩:=ih;refine⟨?_,?_⟩
  ·exact(fo (asH i77 i137) (aIp (m77 n) (Y6 n)) (λ_=>aL) (λ_=>aL) λ_=>aL)
  ·exact(fo (ajT i77 i137) (aEN (m77 n) (Y6 n)) (λ_=>aL) (λ_=>aL) λ_=>aL)
def r77:Hi:=λa0 a1 a2 a3=>lim (λn=>m77 n a0 a1 a2 a3)
def axq:H77 r77:=λg b h=>by
 obtain⟨n,hn⟩:=bW h;exact(Cf n).1 g b hn
def e77(F:aT):aT:=x77 r77 F
def as2:EO e77:=QK axq
abbrev E38:=cG×Int
def d38:Td 0 E38:= .c [] [4,5] (.r 0 1 (ec 4 (qp 0 0) (ec 5 aU en)) (sb 0 88 (lg 88) sn) (λz=>(z.2.1,z.1.2.1)) (λx=>(((),x.2,()),(x.1,()))))
def m38(a0:bn)(a1:fu):af E38:=
 match m15 a0 with|J=>J|M r1=>bif bif w9 (r1=0)then O else Z then M ((cG.mk [] [] (0),r1))else match m76 a0.ah a1 with|J=>J|M r2=>bif bif w9 (r2.snd=0)then O else Z then M ((cG.mk [] [] (0),r2.snd))else match m78 a0 r2.fst with|J=>J|M r3=>match r77 a0 r3 a0.bG (cG.mk r2.fst [] (0))with|J=>J|M r4=>M ((r4,0))
def e38:aT->aT:=eZ va 38 (lc (qg 26) (lc (qg 84) ln)) d38 (λg=>m38 g.1 g.2.1)
def at8:EO e38:=λh=>kZ (an:= .no) func38 (aua (as2 (awe (af8 aP)))) az h
end Go.Proofs.YtghilkcphindjaaGreat
namespace Go.Proofs.YtghilkcphindjaaGreat
open Go Go.RowKit Go.Shelf Go.Iv
attribute [local go_sem] Oper.semAt_some
def iZ{n k:Nat}(h:k<n):(yt n).take (k+1)=(yt n).take k++[⟨k,h⟩]:=by
 rw[List.take_add_one,zD (by simpa using h),List.getElem_finRange];rfl
def vv{A:Nat->Prop}{w:World}{lb:aa Value}{t:TypeId}{l:aa (uni.cQ t)}(hlb:bD A w [.fp [(.sl t l:AV)]] lb):∃Bs o p cap,∃u:Nat->Nat->Value,lb=[.pointer (M ⟨Bs,o,J⟩)]/\Bs<w.heap.size/\A Bs/\w.cell? ⟨Bs,o,J⟩=M (.slice p (zZ l) cap)/\zZ l<=9223372036854775807/\
  (∀i,i<zZ l->∃b off,p=M ⟨b,off,J⟩/\b<w.heap.size/\A b/\∀j,j<uni.sz t->w.cell? ⟨b,off+i*uni.sz t+j,J⟩=M (u i j))/\∀i j a,i<zZ l->(uni.cells t l[i]!)[j]? =M a->Rel A w a (u i j):=by
 obtain⟨v,hv1,hv2⟩:=hlb.get (j:=0) rfl;obtain rfl:lb=[v]:=by
  have:=hlb.1;cases lb with
  |nil=>cases hv1
  |cons x xs=>
   cases xs with
   |nil=>simp at hv1;rw[hv1]
   |cons y ys=>simp at this
 obtain⟨Bs,o,us,rfl,hB,hAB,hcs,hus⟩:=hv2.EE;obtain⟨sv,hs1,hs2⟩:=hus.get (j:=0) rfl;have hcB:=hcs 0 sv hs1;rw[yG]at hcB;obtain⟨p,cap,u,rfl,hl,hcap,hz,hc,hr⟩:=hs2.sG;exact⟨Bs,o,p,cap,u,rfl,hB,hAB,hcB,hl,hc,hr⟩
def KC(W:World)(o:Obj):W.grownBy (W.alloc o) J:=⟨rfl,rfl,rfl,by simp,λk hk _=>heap_alloc_old W o hk⟩
set_option maxHeartbeats 4000000 in
def ad3(l Bs o b off len cap n0:Nat)(u:Nat->Nat->Int)(A:Nat->Prop)(hb:b<n0)(hAb:A b)(hB:Bs<n0)(hAB:A Bs)(hlen:len<=9223372036854775807)(ze Jx:aa (Fin len)->World->Prop)
  (hJa:∀pre W o,ze pre W->ze pre (W.alloc o))
  (hY:∀pre (x:Fin len) W,ze pre W->zZ pre<len->YieldAt Fence.wide 0 va l #[.agg #[.int .i64 (u x.1 0), .int .i64 (u x.1 1)]] W λe W'=>
   (e= .returned (.bool Z)/\ze (pre++[x]) W'/\(∀b,b<n0->A b->W'.heap[b]? =W.heap[b]?))\/(e= .returned (.bool O)/\Jx (pre++[x]) W'))
  (W:World) (hn:n0<=W.heap.size) (hBs:W.cell? ⟨Bs,o,J⟩=M (.slice (M ⟨b,off,J⟩) len cap)) (hc:∀i j,i<len->j<2->W.cell? ⟨b,off+i*2+j,J⟩=M (.int .i64 (u i j))) (h0:ze [] W):
  CallsIn Fence.wide 1 va 266 #[.func (.yield l) #[] #[], .pointer (M ⟨Bs,o,J⟩)] W λe W'=>(∃v,e= .returned v)/\
   ((∃xs,xs=yt len/\ze xs W')\/(∃pre,pre<+:yt len/\Jx pre W')):=by
 have hin:∀(w2:World),(∀b,b<n0->A b->w2.heap[b]? =W.heap[b]?)->∀b,b<n0->A b->b<w2.heap.size:=λw2 h b hb hA=>by
  have h1:=h b hb hA;rw[xC (yW hb hn)]at h1;exact(yd.1 h1).1
 refine callsIn_of_wp func266 rfl trivial ?_ rfl;simp only[Tryz.ntmps266,yp,ya,yP,Nat.reduceAdd,Nat.reduceSub,xN,xO,xP,xQ,yl,yB]
 gi_wp2
 gi_loopw [7] (λi wr=>∃k:Nat,k<=len/\i= .int .i64 (k:Int)/\ze ((yt len).take k) wr/\(∀b,b<n0->A b->wr.heap[b]? =W.heap[b]?))
  (λi _=>len-(intOf i).toNat)
 case atStart=>exact⟨0,yu _,by simp,by simpa using h0,λ_ _ _=>rfl⟩
 case round=>
  obtain⟨k,hk,rfl,hJs,hnx⟩:=hrel;have hcx:∀i j,i<len->j<2->wr.cell? ⟨b,off+i*2+j,J⟩=M (.int .i64 (u i j)):=λi j h1 h2=>(World.cell?_of_block (hnx b hb hAb)).trans (hc i j h1 h2);by_cases hlt:k<len
  ·obtain⟨fn,tmps,assign,body,hy,hR⟩:=hY _ ⟨k,hlt⟩ (wr.alloc (.cells #[.int .i64 (u k 0), .int .i64 (u k 1)] 231)) (hJa _ _ _ hJs) (by simp;omega);dsimp only at hy;have e0:wr.cell? ⟨b,off+k*2,J⟩=M (.int .i64 (u k 0)):=hcx k 0 aj aj;have e1:wr.cell? ⟨b,off+k*2+1,J⟩=M (.int .i64 (u k 1)):=hcx k 1 aj aj
   gi_wp2
   refine hR.mono ?_;rintro e W3 (⟨rfl,hJ3,hk3⟩|⟨rfl,hJx3⟩)
   ·gi_wp2
    go_roundw
    case rel=>exact⟨k+1,aj,by first|(simp;done)|(simp;omega),by rw[iZ hlt];exact hJ3,λb' h1 h2=>((hk3 b' h1 h2).trans (heap_alloc_old wr _ (hin wr hnx b' h1 h2))).trans (hnx b' h1 h2)⟩
    case measure=>simp[intOf];omega
   ·gi_wp2
    refine bodyPost_ret (results_none rfl _ _ _) rfl ?_;exact⟨⟨_,rfl⟩, .inr ⟨_,by rw[<-iZ hlt];exact List.take_prefix _ _,hJx3⟩⟩
  ·obtain rfl:k=len:=aj
   gi_wp2
   go_end0
   exact⟨⟨_,rfl⟩, .inl ⟨_,rfl,by rwa [yU (by simp)]at hJs⟩⟩
set_option maxHeartbeats 1000000 in
def ZH(l Bs o cap:Nat)(p:af Addr)(ze:aa (Fin 0)->World->Prop)(W:World)(hBs:W.cell? ⟨Bs,o,J⟩=M (.slice p 0 cap))(h0:ze [] W):
  CallsIn Fence.wide 1 va 266 #[.func (.yield l) #[] #[], .pointer (M ⟨Bs,o,J⟩)] W λe W'=>(∃v,e= .returned v)/\ze [] W':=by
 refine callsIn_of_wp func266 rfl trivial ?_ rfl;simp only[Tryz.ntmps266,yp,ya,yP,Nat.reduceAdd,Nat.reduceSub,xN,xO,xP,xQ,yl,yB]
 gi_wp2
 gi_loopw [7] (λi wr=>i= .int .i64 0/\ze [] wr) (λ_ _=>0)
 case atStart=>exact⟨by simp,h0⟩
 case round=>
  obtain⟨rfl,hJs⟩:=hrel
  gi_wp2
  go_end0
  exact⟨⟨_,rfl⟩,hJs⟩
def A4(l:aa (uni.cQ 231)):aa (aa AV):=l.map λx=>[.agg (uni.cells 231 x)]
def FK(l:aa (uni.cQ 231)){k:Nat}(h:k<zZ l):(A4 l)[k]! =[.agg (uni.cells 231 l[k]!)]:=by
 unfold A4;rw[getElem!_pos _ k (by simpa using h),getElem!_pos l k h,yy]
def QJ(l:aa (uni.cQ 231)):Iter va 266 [.fp [.sl 231 l]] (A4 l):=λA w lb hlb=>by
 obtain⟨Bs,o,p,cap,u,rfl,hB,hAB,hcB,hl,hc,hr⟩:=vv hlb;have hE:zZ (A4 l)=zZ l:=by simp[A4]
 obtain⟨q,hq⟩:∃q:Nat->Nat->Int,q=λi j=>if j=0 then(l[i]! :uni.cQ 231).dJ else(l[i]! :uni.cQ 231).Xa:=⟨_,rfl⟩
 have hu:∀i j,i<zZ l->j<2->u i j= .int .i64 (q i j):=λi j hi hj=>by
  match j with
  |0=>rw[hq];exact(hr i 0 _ hi rfl).bR
  |1=>rw[hq];exact(hr i 1 _ hi rfl).bR
 obtain⟨vs,hvs⟩:∃vs:aa (aa Value),vs=(zy (zZ l)).map λ(i:Nat)=>[.agg #[.int .i64 (q i 0), .int .i64 (q i 1)]]:=⟨_,rfl⟩;have hget:∀i,i<zZ l->vs[i]! =[.agg #[.int .i64 (q i 0), .int .i64 (q i 1)]]:=λi hi=>by
  subst hvs;rw[getElem!_pos _ i (by simpa using hi)];simp
 refine⟨vs,by subst hvs;simp[A4],λi hi=> ?_,?_⟩
 ·rw[hE]at hi;rw[FK l hi,hget i hi];refine bD.cons ?_ bD.nil;have h1:Rel A w (.agg (uni.cells 231 l[i]!)) (.agg [u i 0,u i 1].toArray):= .agg _ [u i 0,u i 1] rfl λj a v h1 h2=>by
   match j with
   |0=>cases h2;exact hr _ 0 a hi h1
   |1=>cases h2;exact hr _ 1 a hi h1
   |j+2=>cases h2
  rw[hu i 0 hi aj,hu i 1 hi aj]at h1;exact h1
 ·have henc:(λi:Fin (A4 l).length=>(vs[i.1]!).toArray)=λx=>#[.agg #[.int .i64 (q x.1 0), .int .i64 (q x.1 1)]]:=funext λx=>by
   have hx:=x.2;rw[hget x.1 aj]
  rw[henc];intro lp ze Jx W hW hJ1 _ hY h0;have hblk:∀b,b<w.heap.size->W.heap[b]? =w.heap[b]? :=λb hb=>hW.block b hb;have hcB':W.cell? ⟨Bs,o,J⟩=M (.slice p (A4 l).length cap):=by rw[World.cell?_of_block (hblk Bs hB),hE];exact hcB
  by_cases h0l:zZ l=0
  ·obtain rfl:l=[]:=yC.1 h0l;exact(ZH lp Bs o cap p ze W hcB' h0).mono λe W' h=>⟨h.1, .inl ⟨[],rfl,h.2⟩⟩
  ·obtain⟨b,off,rfl,hb,hAb,hcell⟩:=hc 0 aj;refine(ad3 lp Bs o b off (A4 l).length cap w.heap.size q A hb hAb hB hAB aj ze Jx (λpre W o h=>hJ1 pre W _ none h (KC W o) (λr hr=>by cases hr)) hY W hW.size hcB' (λi j h1 h2=> ?_) h0).mono λe W' h=>h;obtain⟨b',off',e1,_,_,h4⟩:=hc i aj;cases e1;rw[World.cell?_of_block (hblk b hb),<-hu i j aj h2];exact h4 j h2
def aqz:nj va 227:=⟨_,underlying227,trivial⟩
def aw6:pJ va 231 2:=⟨⟨_,underlying231,trivial⟩,aL⟩
def aIL:(va.info? 227).map (·.size)=M 1:=aL
def aEU:(va.info? 231).map (·.size)=M (uni.sz 231):=aL
def aIe:(va.info? 231).map (λi=>(i.size,i.bytes))=M (uni.sz 231,16):=aL
def aC1:iP va 231=M [.int .i64 0, .int .i64 0]:=aL
def aLh:(va.info? 231).bind (λi=>i.zero.map (·.cells))=M ([.int .i64 0, .int .i64 0]:aa Value).toArray:=aL
def atI(l:aa (uni.cQ 231))(hl:zZ l<=1073741824):Iv.Fn va 292 [.lit (.slice J 0 0), .fn (.func 266) [.fp [.sl 231 l]]] [] (λa s=>∃v,a= .lit v/\s=[.row v 231 l]):=by
 refine Iv.Fn.of func292 rfl rfl rfl (λC=> ?_);refine CW.seq ?_;refine CW.region ?_;refine RW.v rfl rfl rfl (Yv.box rfl rfl (Pw.p rfl)) ?_;rintro _ _ ⟨b2,rfl,rfl⟩;refine RW.p rfl rfl rfl (Yp.assign rfl rfl) ?_;refine RW.nil ?_;refine CW.own J 231 ?_;refine CW.seq ?_;refine CW.seq ?_;refine CW.region ?_;refine RW.p rfl rfl rfl (Yp.move rfl rfl) ?_;refine RW.nil ?_;refine CW.block ?_;have hE:zZ (A4 l)=zZ l:=by simp[A4]
 refine CW.rfa (gf:=266) (caps:=[.fp [.sl 231 l]]) (es:=A4 l) (λpre s=>∃v,s=[.row v 231 (pre.map λi=>l[i]!), .box b2 227 [.lit v]]) (λi=>[(5, .fp (uni.cells 231 l[i]!)),(2, .lit (.pointer (M ⟨b2,0,J⟩)))]) ?_ ?_ rfl (enters_of func266 aL rfl) (QJ l) (λi hi=>by rw[FK l aj];rfl) (by decide) ⟨_,rfl⟩ ?_ ?_ ?_
 ·rintro pre σ ⟨v,rfl⟩ r hr v' es rfl;simp at hr
 ·rintro C0 W pre pre' _ _ ⟨v,rfl⟩ ⟨v',rfl⟩ h1 h2;have key:∀(v:Value) (l':aa (uni.cQ 231)),Iv.Good C0 [.row v 231 l', .box b2 227 [.lit v]] W->∃us:aa Value,Blk W b2 us.toArray 227/\us=[v]:=λv l' h=>by
   obtain⟨us,g1,g2⟩:=h.res (.box b2 227 [.lit v]) (by simp);obtain⟨u,us',rfl,g3,g4⟩:=g2.head;have:us'=[]:=yC.1 g4.1;subst this;rw[g3.bR]at g1;exact⟨_,g1,rfl⟩
  obtain⟨_,g1,rfl⟩:=key v _ h1;obtain⟨_,g2,rfl⟩:=key v' _ h2;have:v=v':=by
   have:=g1.symm.trans g2;simpa using this
  rw[this];rfl
 ·rintro C' pre i _ hi ⟨v,rfl⟩;rw[FK l aj];refine HF.region rfl ?_;refine RW.v rfl rfl rfl (Yv.alloc rfl aLh) ?_;rintro _ _ ⟨b5,rfl,rfl⟩;refine RW.u rfl rfl (Yu.GX 0 rfl rfl rfl rfl aEU (Pw.p rfl) rfl (yT rfl)) ?_;refine RW.Aw 0 5 rfl rfl (Vw.box 0 rfl) ?_;refine RW.nil ?_;exact⟨rfl,Sub.cons rfl (Sub.cons rfl Sub.nil),_,⟨v,rfl⟩,List.Sublist.refl _⟩
 ·rintro C' pre i _ hi hp ⟨v,rfl⟩;refine HF.block ?_;refine HF.region rfl ?_;refine RW.p rfl rfl rfl (Yp.FM 1 rfl rfl rfl aqz rfl) ?_;refine RW.p rfl rfl rfl (Yp.afo rfl rfl aw6 (yT rfl)) ?_;refine RW.v rfl rfl rfl (Yv.lit (e:=231) (zs:=[.int .i64 0, .int .i64 0]) [l[i]!] rfl underlying227 aEU aC1 rfl (λA w ρ hd hρ=>Gq (cs:=([.int .i64 0, .int .i64 0]:aa Value).map .lit) (bD.lits _) (Env.oH hρ rfl) rfl) rfl (λi hi=>uniL.len _ _) (by decide) (by decide)) ?_;rintro _ _ ⟨v10,rfl,rfl⟩;refine RW.v rfl rfl rfl (Yv.app (e:=231) (l:=pre.map λi=>l[i]!) (l2:=[l[i]!]) (zs:=[.int .i64 0, .int .i64 0]) 1 rfl rfl rfl (.inr (.inr ⟨0,_,rfl,rfl⟩)) underlying227 aIe aC1 rfl rfl (uniL.one _) (by simp;omega)) ?_;rintro _ _ ⟨v',rfl,rfl⟩;refine RW.u rfl rfl (Yu.GX 2 rfl rfl rfl rfl aIL (Pw.own 1 rfl) rfl (yT rfl)) ?_;refine RW.nil ?_;exact⟨rfl,[.row v' 231 ((pre++[i]).map λi=>l[i]!), .box b2 227 [.lit v']],⟨v',rfl⟩,by rw[zH];exact List.sublist_cons_self _ _⟩
 ·rintro _ ⟨v,rfl⟩;have hl2:(zy (A4 l).length).map (λi=>l[i]!)=l:=by
   rw[hE];exact xI (by simp) λi h1 h2=>by rw[yy,xZ,getElem!_pos l i h2]
  rw[hl2];refine CW.seq ?_;refine CW.region ?_;refine RW.p rfl rfl rfl (Yp.FM 1 rfl rfl rfl aqz rfl) ?_;refine RW.p rfl rfl rfl (Yp.assign rfl rfl) ?_;refine RW.nil ?_;refine CW.ret ?_;exact aFg (.inr rfl) rfl (sH.tmp rfl) (List.Sublist.cons_cons _ (List.nil_sublist _)) ⟨v,rfl,rfl⟩
def ayV(l:aa (uni.cQ 231))(hl:zZ l<=1073741824):Ht va 292 [.lit (.slice J 0 0), .fn (.func 266) [.fp [.sl 231 l]]] [] 0 ⟨.own 0,[(0, .row 231 l)],1⟩:=λρ=>by
 have e1:[.lit (.slice J 0 0), .fn (.func 266) [.fp [.sl 231 l]]].map (bU.sub ρ)=([.lit (.slice J 0 0), .fn (.func 266) [.fp [.sl 231 l]]]:aa AV):=by simp[bU.sub]
 rw[e1];exact(atI l hl).mono λa s ⟨v,h1,h2⟩=>⟨ρ.eU 0 v,λi hi=>iy hi (Nat.not_lt_zero _),by rw[h1];simp[cI,Gh.eU],by rw[h2];simp[aS.res,IR.res,Gh.eU]⟩
abbrev aDq:=aa (uni.cQ 231)
def d292:Td 0 aDq:= .c [] [4] (.r 0 1 (ec 4 (qo 0) en) (sr 0 231 sn) (λz=>z.2.1) (λx=>(((),()),(x,()))))
def azS:=(lc qn (lc (qf 266 (lc (qr (lc (ql 231) ln)) ln)) ln))
def at2(l:aa (uni.cQ 231)):af aDq:=if zZ l<=1073741824 then M l else J
def aKC(l:aa (uni.cQ 231)):eN va 292 0 (d292.pat l)=⟨.own 0,[(0, .row 231 l)],1⟩:=aL
def aDk:HL va 292 azS d292 (λg=>at2 g.2.1.1.1):=λg b hb=>by
 dsimp only[at2]at hb;split at hb
 ·rename_i h;cases hb;rw[aKC];exact ayV _ h
 ·cases hb
def an2:=eL va 292 Z azS d292 (λg=>at2 g.2.1.1.1)
def oq{F:aT}(h:bK va F):bK va (an2 F):=fI (sc:=sB) dQ aDk ⟨_,func292,aL,aL⟩ (λ_=>aL) (λ_=>aL) h
attribute [local go_sem] Oper.semAt_some
set_option maxHeartbeats 4000000 in
def ac7(l Bs o b off len cap n0:Nat)(u:Nat->Value)(A:Nat->Prop)(hb:b<n0)(hAb:A b)(hB:Bs<n0)(hAB:A Bs)(hlen:len<=9223372036854775807)(ze Jx:aa (Fin len)->World->Prop)
  (hY:∀pre (x:Fin len) W,ze pre W->zZ pre<len->YieldAt Fence.wide 0 va l #[.int .i64 ((len:Int)-1-(x.1:Int)),u (len-1-x.1)] W λe W'=>
   (e= .returned (.bool Z)/\ze (pre++[x]) W'/\(∀b,b<n0->A b->W'.heap[b]? =W.heap[b]?))\/(e= .returned (.bool O)/\Jx (pre++[x]) W'))
  (W:World) (hBs:W.cell? ⟨Bs,o,J⟩=M (.slice (M ⟨b,off,J⟩) len cap)) (hc:∀i,i<len->W.cell? ⟨b,off+i,J⟩=M (u i)) (h0:ze [] W):
  CallsIn Fence.wide 1 va 250 #[.func (.yield l) #[] #[], .pointer (M ⟨Bs,o,J⟩)] W λe W'=>(∃v,e= .returned v)/\
   ((∃xs,xs=yt len/\ze xs W')\/(∃pre,pre<+:yt len/\Jx pre W')):=by
 refine callsIn_of_wp func250 rfl trivial ?_ rfl;simp only[Tryz.ntmps250,yp,ya,yP,Nat.reduceAdd,Nat.reduceSub,xN,xO,xP,xQ,yl,yB]
 gi_wp2
 gi_loopw [3] (λi wr=>∃k:Nat,k<=len/\i= .int .i64 ((len:Int)-1-k)/\ze ((yt len).take k) wr/\(∀b,b<n0->A b->wr.heap[b]? =W.heap[b]?))
  (λi _=>(intOf i+1).toNat)
 case atStart=>exact⟨0,yu _,by simp,by simpa using h0,λ_ _ _=>rfl⟩
 case round=>
  obtain⟨k,hk,rfl,hJs,hnx⟩:=hrel;have hcB:wr.cell? ⟨Bs,o,J⟩=M (.slice (M ⟨b,off,J⟩) len cap):=(World.cell?_of_block (hnx Bs hB hAB)).trans hBs;have hcx:∀i,i<len->wr.cell? ⟨b,off+i,J⟩=M (u i):=λi h1=>(World.cell?_of_block (hnx b hb hAb)).trans (hc i h1);by_cases hlt:k<len
  ·obtain⟨fn,tmps,assign,body,hy,hR⟩:=hY _ ⟨k,hlt⟩ wr hJs (by simp;omega);dsimp only at hy;have e0:wr.cell? ⟨b,off+(len-1-k),J⟩=M (u (len-1-k)):=hcx (len-1-k) aj;have e1:wr.cell? ⟨b,off+(len-1-k)*1,J⟩=M (u (len-1-k)):=by rw[yb];exact e0
   gi_wp2
   refine hR.mono ?_;rintro e W3 (⟨rfl,hJ3,hk3⟩|⟨rfl,hJx3⟩)
   ·gi_wp2
    go_roundw
    case rel=>exact⟨k+1,aj,by simp;omega,by rw[iZ hlt];exact hJ3,λb' h1 h2=>(hk3 b' h1 h2).trans (hnx b' h1 h2)⟩
    case measure=>simp[intOf];omega
   ·gi_wp2
    refine bodyPost_ret (results_none rfl _ _ _) rfl ?_;exact⟨⟨_,rfl⟩, .inr ⟨_,by rw[<-iZ hlt];exact List.take_prefix _ _,hJx3⟩⟩
  ·obtain rfl:k=len:=aj
   gi_wp2
   go_end0
   exact⟨⟨_,rfl⟩, .inl ⟨_,rfl,by rwa [yU (by simp)]at hJs⟩⟩
set_option maxHeartbeats 1000000 in
def YD(l Bs o cap:Nat)(p:af Addr)(ze:aa (Fin 0)->World->Prop)(W:World)(hBs:W.cell? ⟨Bs,o,J⟩=M (.slice p 0 cap))(h0:ze [] W):
  CallsIn Fence.wide 1 va 250 #[.func (.yield l) #[] #[], .pointer (M ⟨Bs,o,J⟩)] W λe W'=>(∃v,e= .returned v)/\ze [] W':=by
 refine callsIn_of_wp func250 rfl trivial ?_ rfl;simp only[Tryz.ntmps250,yp,ya,yP,Nat.reduceAdd,Nat.reduceSub,xN,xO,xP,xQ,yl,yB]
 gi_wp2
 gi_loopw [3] (λi wr=>i= .int .i64 (-1)/\ze [] wr) (λ_ _=>0)
 case atStart=>exact⟨by simp,h0⟩
 case round=>
  obtain⟨rfl,hJs⟩:=hrel
  gi_wp2
  go_end0
  exact⟨⟨_,rfl⟩,hJs⟩
def pY(l:aa Int):aa (aa AV):=(zy (zZ l)).map λ(k:Nat)=>[.n .i64 ((zZ l:Int)-1-(k:Int)), .n .i64 l[zZ l-1-k]!]
def kU(l:aa Int):zZ (pY l)=zZ l:=by simp[pY]
def Gd(l:aa Int){k:Nat}(h:k<zZ l):(pY l)[k]! =[.n .i64 ((zZ l:Int)-1-(k:Int)), .n .i64 l[zZ l-1-k]!]:=by
 rw[getElem!_pos _ k (by rw[kU];exact h)];simp[pY]
def Tx(l:aa Int):Iter va 250 [.fp [(.sl 3 l:AV)]] (pY l):=λA w lb hlb=>by
 obtain⟨Bs,o,p,cap,u,rfl,hB,hAB,hcB,hl,hc,hr⟩:=vv hlb;have hE:zZ (pY l)=zZ l:=kU l;have hu:∀i,i<zZ l->u i 0= .int .i64 (l[i]! :Int):=λi hi=>(hr i 0 _ hi rfl).bR;obtain⟨vs,hvs⟩:∃vs:aa (aa Value),vs=(zy (zZ l)).map λ(k:Nat)=>[.int .i64 ((zZ l:Int)-1-(k:Int)),u (zZ l-1-k) 0]:=⟨_,rfl⟩;have hget:∀k,k<zZ l->vs[k]! =[.int .i64 ((zZ l:Int)-1-(k:Int)),u (zZ l-1-k) 0]:=λk hk=>by
  subst hvs;rw[getElem!_pos _ k (by simpa using hk)];simp
 refine⟨vs,by subst hvs;simp[pY],λi hi=> ?_,?_⟩
 ·rw[hE]at hi;rw[Gd l hi,hget i hi,hu _ aj];exact bD.lits _
 ·have henc:(λi:Fin (pY l).length=>(vs[i.1]!).toArray)=λx=>#[.int .i64 ((zZ (pY l):Int)-1-(x.1:Int)),u (zZ (pY l)-1-x.1) 0]:=funext λx=>by
   have hx:=x.2;have e1:(zZ (pY l):Int)=(zZ l:Int):=aj;have e2:zZ (pY l)-1-x.1=zZ l-1-x.1:=aj;rw[hget x.1 aj,e1,e2]
  rw[henc];intro lp ze Jx W hW hJ1 _ hY h0;have hblk:∀b,b<w.heap.size->W.heap[b]? =w.heap[b]? :=λb hb=>hW.block b hb;have hcB':W.cell? ⟨Bs,o,J⟩=M (.slice p (pY l).length cap):=by rw[World.cell?_of_block (hblk Bs hB),hE];exact hcB
  by_cases h0l:zZ l=0
  ·obtain rfl:l=[]:=yC.1 h0l;exact(YD lp Bs o cap p ze W hcB' h0).mono λe W' h=>⟨h.1, .inl ⟨[],rfl,h.2⟩⟩
  ·obtain⟨b,off,rfl,hb,hAb,hcell⟩:=hc 0 (show 0<zZ l from Nat.pos_of_ne_zero h0l);refine(ac7 lp Bs o b off (pY l).length cap w.heap.size (λi=>u i 0) A hb hAb hB hAB (by rw[hE];exact hl) ze Jx hY W hcB' (λi h1=> ?_) h0).mono λe W' h=>h;obtain⟨b',off',e1,_,_,h4⟩:=hc i (show i<zZ l by rw[hE]at h1;exact h1);cases e1;rw[World.cell?_of_block (hblk b hb)];have h5:=h4 0 (by show 0<1;omega);have e5:off+i*uni.sz 3+0=off+i:=by show off+i*1+0=off+i;omega
   rw[e5]at h5;exact h5
attribute [local go_sem] Oper.semAt_some
def U13(f:Nat->Value):aa Value:=[f 0,f 1,f 2,f 3,f 4,f 5,f 6,f 7,f 8,f 9,f 10,f 11,f 12]
def ajE{f:Nat->Value}{j:Nat}{v:Value}(h:(U13 f)[j]? =M v):f j=v:=by
 rw[show U13 f=(zy 13).map f from rfl,zP]at h;obtain⟨i,hi,rfl⟩:=zj.1 h;obtain⟨_,h2⟩:=zU.1 hi;rw[xZ]at h2;rw[h2]
set_option maxHeartbeats 4000000 in
def adx(l Bs o b off len cap n0:Nat)(u:Nat->Nat->Value)(A:Nat->Prop)(hb:b<n0)(hAb:A b)(hB:Bs<n0)(hAB:A Bs)(hlen:len<=9223372036854775807)(ze Jx:aa (Fin len)->World->Prop)
  (hY:∀pre (x:Fin len) W,ze pre W->zZ pre<len->YieldAt Fence.wide 0 va l #[.int .i64 ((len:Int)-1-(x.1:Int)), .agg (U13 (u (len-1-x.1))).toArray] W λe W'=>
   (e= .returned (.bool Z)/\ze (pre++[x]) W'/\(∀b,b<n0->A b->W'.heap[b]? =W.heap[b]?))\/(e= .returned (.bool O)/\Jx (pre++[x]) W'))
  (W:World) (hBs:W.cell? ⟨Bs,o,J⟩=M (.slice (M ⟨b,off,J⟩) len cap)) (hc:∀i j,i<len->j<13->W.cell? ⟨b,off+i*13+j,J⟩=M (u i j)) (h0:ze [] W):
  CallsIn Fence.wide 1 va 247 #[.func (.yield l) #[] #[], .pointer (M ⟨Bs,o,J⟩)] W λe W'=>(∃v,e= .returned v)/\
   ((∃xs,xs=yt len/\ze xs W')\/(∃pre,pre<+:yt len/\Jx pre W')):=by
 refine callsIn_of_wp func247 rfl trivial ?_ rfl;simp only[Tryz.ntmps247,yp,ya,yP,Nat.reduceAdd,Nat.reduceSub,xN,xO,xP,xQ,yl,yB]
 gi_wp2
 gi_loopw [3] (λi wr=>∃k:Nat,k<=len/\i= .int .i64 ((len:Int)-1-k)/\ze ((yt len).take k) wr/\(∀b,b<n0->A b->wr.heap[b]? =W.heap[b]?))
  (λi _=>(intOf i+1).toNat)
 case atStart=>exact⟨0,yu _,by simp,by simpa using h0,λ_ _ _=>rfl⟩
 case round=>
  obtain⟨k,hk,rfl,hJs,hnx⟩:=hrel;have hcB:wr.cell? ⟨Bs,o,J⟩=M (.slice (M ⟨b,off,J⟩) len cap):=(World.cell?_of_block (hnx Bs hB hAB)).trans hBs;have hcx:∀i j,i<len->j<13->wr.cell? ⟨b,off+i*13+j,J⟩=M (u i j):=λi j h1 h2=>(World.cell?_of_block (hnx b hb hAb)).trans (hc i j h1 h2);by_cases hlt:k<len
  ·obtain⟨fn,tmps,assign,body,hy,hR⟩:=hY _ ⟨k,hlt⟩ wr hJs (by simp;omega);dsimp only[U13]at hy;have e0:wr.cell? ⟨b,off+(len-1-k)*13,J⟩=M (u (len-1-k) 0):=hcx (len-1-k) 0 aj aj;have e:=λj h=>hcx (len-1-k) j aj h;have e1:=e 1 aj;have e2:=e 2 aj;have e3:=e 3 aj;have e4:=e 4 aj;have e5:=e 5 aj;have e6:=e 6 aj;have e7:=e 7 aj;have e8:=e 8 aj;have e9:=e 9 aj;have e10:=e 10 aj;have e11:=e 11 aj;have e12:=e 12 aj
   gi_wp2
   refine hR.mono ?_;rintro e W3 (⟨rfl,hJ3,hk3⟩|⟨rfl,hJx3⟩)
   ·gi_wp2
    go_roundw
    case rel=>exact⟨k+1,aj,by simp;omega,by rw[iZ hlt];exact hJ3,λb' h1 h2=>(hk3 b' h1 h2).trans (hnx b' h1 h2)⟩
    case measure=>simp[intOf];omega
   ·gi_wp2
    refine bodyPost_ret (results_none rfl _ _ _) rfl ?_;exact⟨⟨_,rfl⟩, .inr ⟨_,by rw[<-iZ hlt];exact List.take_prefix _ _,hJx3⟩⟩
  ·obtain rfl:k=len:=aj
   gi_wp2
   go_end0
   exact⟨⟨_,rfl⟩, .inl ⟨_,rfl,by rwa [yU (by simp)]at hJs⟩⟩
set_option maxHeartbeats 1000000 in
def Zh(l Bs o cap:Nat)(p:af Addr)(ze:aa (Fin 0)->World->Prop)(W:World)(hBs:W.cell? ⟨Bs,o,J⟩=M (.slice p 0 cap))(h0:ze [] W):
  CallsIn Fence.wide 1 va 247 #[.func (.yield l) #[] #[], .pointer (M ⟨Bs,o,J⟩)] W λe W'=>(∃v,e= .returned v)/\ze [] W':=by
 refine callsIn_of_wp func247 rfl trivial ?_ rfl;simp only[Tryz.ntmps247,yp,ya,yP,Nat.reduceAdd,Nat.reduceSub,xN,xO,xP,xQ,yl,yB]
 gi_wp2
 gi_loopw [3] (λi wr=>i= .int .i64 (-1)/\ze [] wr) (λ_ _=>0)
 case atStart=>exact⟨by simp,h0⟩
 case round=>
  obtain⟨rfl,hJs⟩:=hrel
  gi_wp2
  go_end0
  exact⟨⟨_,rfl⟩,hJs⟩
def pz(l:aa End):aa (aa AV):=(zy (zZ l)).map λ(k:Nat)=>[.n .i64 ((zZ l:Int)-1-(k:Int)), .agg (uni.cells 273 (l[zZ l-1-k]! :End))]
def kJ(l:aa End):zZ (pz l)=zZ l:=by simp[pz]
def Ey(l:aa End){k:Nat}(h:k<zZ l):(pz l)[k]! =[.n .i64 ((zZ l:Int)-1-(k:Int)), .agg (uni.cells 273 (l[zZ l-1-k]! :End))]:=by
 rw[getElem!_pos _ k (by rw[kJ];exact h)];simp[pz]
def QV(l:aa End):Iter va 247 [.fp [(.sl 273 l:AV)]] (pz l):=λA w lb hlb=>by
 obtain⟨Bs,o,p,cap,u,rfl,hB,hAB,hcB,hl,hc,hr⟩:=vv hlb;have hE:zZ (pz l)=zZ l:=kJ l;obtain⟨vs,hvs⟩:∃vs:aa (aa Value),vs=(zy (zZ l)).map λ(k:Nat)=>[.int .i64 ((zZ l:Int)-1-(k:Int)), .agg (U13 (u (zZ l-1-k))).toArray]:=⟨_,rfl⟩;have hget:∀k,k<zZ l->vs[k]! =[.int .i64 ((zZ l:Int)-1-(k:Int)), .agg (U13 (u (zZ l-1-k))).toArray]:=λk hk=>by
  subst hvs;rw[getElem!_pos _ k (by simpa using hk)];simp
 refine⟨vs,by subst hvs;simp[pz],λi hi=> ?_,?_⟩
 ·rw[hE]at hi;rw[Ey l hi,hget i hi];refine bD.cons (.lit _) (bD.cons ?_ bD.nil);refine .agg _ (U13 (u (zZ l-1-i))) aL λj a v h1 h2=> ?_;obtain rfl:=ajE h2;exact hr _ j a (show zZ l-1-i<zZ l by omega) h1
 ·have henc:(λi:Fin (pz l).length=>(vs[i.1]!).toArray)=λx=>#[.int .i64 ((zZ (pz l):Int)-1-(x.1:Int)), .agg (U13 (u (zZ (pz l)-1-x.1))).toArray]:=funext λx=>by
   have hx:=x.2;have e1:(zZ (pz l):Int)=(zZ l:Int):=aj;have e2:zZ (pz l)-1-x.1=zZ l-1-x.1:=aj;rw[hget x.1 aj,e1,e2]
  rw[henc];intro lp ze Jx W hW hJ1 _ hY h0;have hblk:∀b,b<w.heap.size->W.heap[b]? =w.heap[b]? :=λb hb=>hW.block b hb;have hcB':W.cell? ⟨Bs,o,J⟩=M (.slice p (pz l).length cap):=by rw[World.cell?_of_block (hblk Bs hB),hE];exact hcB
  by_cases h0l:zZ l=0
  ·obtain rfl:l=[]:=yC.1 h0l;exact(Zh lp Bs o cap p ze W hcB' h0).mono λe W' h=>⟨h.1, .inl ⟨[],rfl,h.2⟩⟩
  ·obtain⟨b,off,rfl,hb,hAb,hcell⟩:=hc 0 (show 0<zZ l from Nat.pos_of_ne_zero h0l);refine(adx lp Bs o b off (pz l).length cap w.heap.size u A hb hAb hB hAB (by rw[hE];exact hl) ze Jx hY W hcB' (λi j h1 h2=> ?_) h0).mono λe W' h=>h;obtain⟨b',off',e1,_,_,h4⟩:=hc i (show i<zZ l by rw[hE]at h1;exact h1);cases e1;rw[World.cell?_of_block (hblk b hb)];exact h4 j h2
attribute [local go_sem] Oper.semAt_some
set_option maxHeartbeats 4000000 in
def ach(l Bs o b off len cap n0:Nat)(u:Nat->Value)(A:Nat->Prop)(hb:b<n0)(hAb:A b)(hB:Bs<n0)(hAB:A Bs)(hlen:len<=9223372036854775807)(ze Jx:aa (Fin len)->World->Prop)
  (hY:∀pre (x:Fin len) W,ze pre W->zZ pre<len->YieldAt Fence.wide 0 va l #[u x.1] W λe W'=>
   (e= .returned (.bool Z)/\ze (pre++[x]) W'/\(∀b,b<n0->A b->W'.heap[b]? =W.heap[b]?))\/(e= .returned (.bool O)/\Jx (pre++[x]) W'))
  (W:World) (hBs:W.cell? ⟨Bs,o,J⟩=M (.slice (M ⟨b,off,J⟩) len cap)) (hc:∀i,i<len->W.cell? ⟨b,off+i,J⟩=M (u i)) (h0:ze [] W):
  CallsIn Fence.wide 1 va 144 #[.func (.yield l) #[] #[], .pointer (M ⟨Bs,o,J⟩)] W λe W'=>(∃v,e= .returned v)/\
   ((∃xs,xs=yt len/\ze xs W')\/(∃pre,pre<+:yt len/\Jx pre W')):=by
 refine callsIn_of_wp func144 rfl trivial ?_ rfl;simp only[Tryz.ntmps144,yp,ya,yP,Nat.reduceAdd,Nat.reduceSub,xN,xO,xP,xQ,yl,yB]
 gi_wp2
 gi_loopw [7] (λi wr=>∃k:Nat,k<=len/\i= .int .i64 (k:Int)/\ze ((yt len).take k) wr/\(∀b,b<n0->A b->wr.heap[b]? =W.heap[b]?))
  (λi _=>len-(intOf i).toNat)
 case atStart=>exact⟨0,yu _,by simp,by simpa using h0,λ_ _ _=>rfl⟩
 case round=>
  obtain⟨k,hk,rfl,hJs,hnx⟩:=hrel;have hcB:wr.cell? ⟨Bs,o,J⟩=M (.slice (M ⟨b,off,J⟩) len cap):=(World.cell?_of_block (hnx Bs hB hAB)).trans hBs;have hcx:∀i,i<len->wr.cell? ⟨b,off+i,J⟩=M (u i):=λi h1=>(World.cell?_of_block (hnx b hb hAb)).trans (hc i h1);by_cases hlt:k<len
  ·obtain⟨fn,tmps,assign,body,hy,hR⟩:=hY _ ⟨k,hlt⟩ wr hJs (by simp;omega);dsimp only at hy;have e0:wr.cell? ⟨b,off+k,J⟩=M (u k):=hcx k aj;have e1:wr.cell? ⟨b,off+k*1,J⟩=M (u k):=by rw[yb];exact e0
   gi_wp2
   refine hR.mono ?_;rintro e W3 (⟨rfl,hJ3,hk3⟩|⟨rfl,hJx3⟩)
   ·gi_wp2
    go_roundw
    case rel=>exact⟨k+1,aj,by first|(simp;done)|(simp;omega),by rw[iZ hlt];exact hJ3,λb' h1 h2=>(hk3 b' h1 h2).trans (hnx b' h1 h2)⟩
    case measure=>simp[intOf];omega
   ·gi_wp2
    refine bodyPost_ret (results_none rfl _ _ _) rfl ?_;exact⟨⟨_,rfl⟩, .inr ⟨_,by rw[<-iZ hlt];exact List.take_prefix _ _,hJx3⟩⟩
  ·obtain rfl:k=len:=aj
   gi_wp2
   go_end0
   exact⟨⟨_,rfl⟩, .inl ⟨_,rfl,by rwa [yU (by simp)]at hJs⟩⟩
set_option maxHeartbeats 1000000 in
def Zc(l Bs o cap:Nat)(p:af Addr)(ze:aa (Fin 0)->World->Prop)(W:World)(hBs:W.cell? ⟨Bs,o,J⟩=M (.slice p 0 cap))(h0:ze [] W):
  CallsIn Fence.wide 1 va 144 #[.func (.yield l) #[] #[], .pointer (M ⟨Bs,o,J⟩)] W λe W'=>(∃v,e= .returned v)/\ze [] W':=by
 refine callsIn_of_wp func144 rfl trivial ?_ rfl;simp only[Tryz.ntmps144,yp,ya,yP,Nat.reduceAdd,Nat.reduceSub,xN,xO,xP,xQ,yl,yB]
 gi_wp2
 gi_loopw [7] (λi wr=>i= .int .i64 0/\ze [] wr) (λ_ _=>0)
 case atStart=>exact⟨by simp,h0⟩
 case round=>
  obtain⟨rfl,hJs⟩:=hrel
  gi_wp2
  go_end0
  exact⟨⟨_,rfl⟩,hJs⟩
def uP(l:aa Int):aa (aa AV):=(zy (zZ l)).map λ(k:Nat)=>[.n .i64 l[k]!]
def ES(l:aa Int):zZ (uP l)=zZ l:=by simp[uP]
def DF(l:aa Int){k:Nat}(h:k<zZ l):(uP l)[k]! =[.n .i64 l[k]!]:=by
 rw[getElem!_pos _ k (by rw[ES];exact h)];simp[uP]
def RZ(l:aa Int):Iter va 144 [.fp [(.sl 3 l:AV)]] (uP l):=λA w lb hlb=>by
 obtain⟨Bs,o,p,cap,u,rfl,hB,hAB,hcB,hl,hc,hr⟩:=vv hlb;have hE:zZ (uP l)=zZ l:=ES l;have hu:∀i,i<zZ l->u i 0= .int .i64 (l[i]! :Int):=λi hi=>(hr i 0 _ hi rfl).bR;obtain⟨vs,hvs⟩:∃vs:aa (aa Value),vs=(zy (zZ l)).map λ(k:Nat)=>[u k 0]:=⟨_,rfl⟩;have hget:∀k,k<zZ l->vs[k]! =[u k 0]:=λk hk=>by
  subst hvs;rw[getElem!_pos _ k (by simpa using hk)];simp
 refine⟨vs,by subst hvs;simp[uP],λi hi=> ?_,?_⟩
 ·rw[hE]at hi;rw[DF l hi,hget i hi,hu _ aj];exact bD.lits _
 ·have henc:(λi:Fin (uP l).length=>(vs[i.1]!).toArray)=λx=>#[u x.1 0]:=funext λx=>by
   have hx:=x.2;rw[hget x.1 aj]
  rw[henc];intro lp ze Jx W hW hJ1 _ hY h0;have hblk:∀b,b<w.heap.size->W.heap[b]? =w.heap[b]? :=λb hb=>hW.block b hb;have hcB':W.cell? ⟨Bs,o,J⟩=M (.slice p (uP l).length cap):=by rw[World.cell?_of_block (hblk Bs hB),hE];exact hcB
  by_cases h0l:zZ l=0
  ·obtain rfl:l=[]:=yC.1 h0l;exact(Zc lp Bs o cap p ze W hcB' h0).mono λe W' h=>⟨h.1, .inl ⟨[],rfl,h.2⟩⟩
  ·obtain⟨b,off,rfl,hb,hAb,hcell⟩:=hc 0 (show 0<zZ l from Nat.pos_of_ne_zero h0l);refine(ach lp Bs o b off (uP l).length cap w.heap.size (λi=>u i 0) A hb hAb hB hAB (by rw[hE];exact hl) ze Jx hY W hcB' (λi h1=> ?_) h0).mono λe W' h=>h;obtain⟨b',off',e1,_,_,h4⟩:=hc i (show i<zZ l by rw[hE]at h1;exact h1);cases e1;rw[World.cell?_of_block (hblk b hb)];have h5:=h4 0 (by show 0<1;omega);have e5:off+i*uni.sz 3+0=off+i:=by show off+i*1+0=off+i;omega
   rw[e5]at h5;exact h5
def arx:nj va 46:=⟨_,underlying46,trivial⟩
def aLF:(va.info? 46).map (·.size)=M 1:=aL
def aLx:(va.info? 3).map (·.size)=M (uni.sz 3):=aL
def aIB:(va.info? 3).map (λi=>(i.size,i.bytes))=M (uni.sz 3,8):=aL
def aFw:iP va 3=M [.int .i64 0]:=aL
def asb(l:aa Int)(hl:zZ l<=1073741824):Iv.Fn va 200 [.lit (.slice J 0 0), .fn (.func 144) [.fp [.sl 3 l]]] [] (λa s=>∃v,a= .lit v/\s=[.row v 3 l]):=by
 refine Iv.Fn.of func200 rfl rfl rfl (λC=> ?_);refine CW.seq ?_;refine CW.region ?_;refine RW.v rfl rfl rfl (Yv.box rfl rfl (Pw.p rfl)) ?_;rintro _ _ ⟨b2,rfl,rfl⟩;refine RW.p rfl rfl rfl (Yp.assign rfl rfl) ?_;refine RW.nil ?_;refine CW.own J 3 ?_;refine CW.seq ?_;refine CW.seq ?_;refine CW.region ?_;refine RW.p rfl rfl rfl (Yp.move rfl rfl) ?_;refine RW.nil ?_;refine CW.block ?_;have hE:zZ (uP l)=zZ l:=ES l;refine CW.rfa (gf:=144) (caps:=[.fp [.sl 3 l]]) (es:=uP l) (λpre s=>∃v,s=[.row v 3 (pre.map λi=>l[i]!), .box b2 46 [.lit v]]) (λi=>[(5, .n .i64 l[i]!),(2, .lit (.pointer (M ⟨b2,0,J⟩)))]) ?_ ?_ rfl (enters_of func144 aL rfl) (RZ l) (λi hi=>by rw[DF l aj];rfl) (by decide) ⟨_,rfl⟩ ?_ ?_ ?_
 ·rintro pre σ ⟨v,rfl⟩ r hr v' es rfl;simp at hr
 ·rintro C0 W pre pre' _ _ ⟨v,rfl⟩ ⟨v',rfl⟩ h1 h2;have key:∀(v:Value) (l':aa Int),Iv.Good C0 [.row v 3 l', .box b2 46 [.lit v]] W->∃us:aa Value,Blk W b2 us.toArray 46/\us=[v]:=λv l' h=>by
   obtain⟨us,g1,g2⟩:=h.res (.box b2 46 [.lit v]) (by simp);obtain⟨u,us',rfl,g3,g4⟩:=g2.head;have:us'=[]:=yC.1 g4.1;subst this;rw[g3.bR]at g1;exact⟨_,g1,rfl⟩
  obtain⟨_,g1,rfl⟩:=key v _ h1;obtain⟨_,g2,rfl⟩:=key v' _ h2;have:v=v':=by
   have:=g1.symm.trans g2;simpa using this
  rw[this];rfl
 ·rintro C' pre i _ hi ⟨v,rfl⟩;rw[DF l aj];refine HF.region rfl ?_;refine RW.p rfl rfl rfl (Yp.assign rfl rfl) ?_;refine RW.nil ?_;exact⟨rfl,Sub.cons rfl (Sub.cons rfl Sub.nil),_,⟨v,rfl⟩,List.Sublist.refl _⟩
 ·rintro C' pre i _ hi hp ⟨v,rfl⟩;refine HF.block ?_;refine HF.region rfl ?_;refine RW.p rfl rfl rfl (Yp.FM 1 rfl rfl rfl arx rfl) ?_;refine RW.p rfl rfl rfl (Yp.move rfl rfl) ?_;refine RW.v rfl rfl rfl (Yv.lit (e:=3) (zs:=[.int .i64 0]) [l[i]!] rfl underlying46 aLx aFw rfl (λA w ρ hd hρ=>Gq (cs:=([.int .i64 0]:aa Value).map .lit) (bD.lits _) (Env.oH hρ rfl) rfl) rfl (λi hi=>uniL.len _ _) (by decide) (by decide)) ?_;rintro _ _ ⟨v10,rfl,rfl⟩;refine RW.v rfl rfl rfl (Yv.app (e:=3) (l:=pre.map λi=>l[i]!) (l2:=[l[i]!]) (zs:=[.int .i64 0]) 1 rfl rfl rfl (.inr (.inr ⟨0,_,rfl,rfl⟩)) underlying46 aIB aFw rfl rfl (uniL.one _) (by have h2:zZ ((pre.map λi=>(l[i]! :Int))++[l[i]!])=zZ pre+1:=(by simp);exact zK (Nat.le_of_eq h2) aj)) ?_;rintro _ _ ⟨v',rfl,rfl⟩;refine RW.u rfl rfl (Yu.GX 2 rfl rfl rfl rfl aLF (Pw.own 1 rfl) rfl (yT rfl)) ?_;refine RW.nil ?_;exact⟨rfl,[.row v' 3 ((pre++[i]).map λi=>l[i]!), .box b2 46 [.lit v']],⟨v',rfl⟩,by rw[zH];exact List.sublist_cons_self _ _⟩
 ·rintro _ ⟨v,rfl⟩;have hl2:(zy (uP l).length).map (λi=>l[i]!)=l:=by
   rw[hE];exact xI (by simp) λi h1 h2=>by rw[yy,xZ,getElem!_pos l i h2]
  have hl3:(List.map (λi=>l[i]!) (zy (uP l).length):aa (uni.cQ 3))=l:=hl2;rw[hl3];refine CW.seq ?_;refine CW.region ?_;refine RW.p rfl rfl rfl (Yp.FM 1 rfl rfl rfl arx rfl) ?_;refine RW.p rfl rfl rfl (Yp.assign rfl rfl) ?_;refine RW.nil ?_;refine CW.ret ?_;exact aFg (.inr rfl) rfl (sH.tmp rfl) (List.Sublist.cons_cons _ (List.nil_sublist _)) ⟨v,rfl,rfl⟩
def aD1(l:aa Int)(hl:zZ l<=1073741824):Ht va 200 [.lit (.slice J 0 0), .fn (.func 144) [.fp [.sl 3 l]]] [] 0 ⟨.own 0,[(0, .row 3 l)],1⟩:=λρ=>by
 have e1:[.lit (.slice J 0 0), .fn (.func 144) [.fp [.sl 3 l]]].map (bU.sub ρ)=([.lit (.slice J 0 0), .fn (.func 144) [.fp [.sl 3 l]]]:aa AV):=by
  simp[bU.sub];exact fV ρ 3 l
 rw[e1];exact(asb l hl).mono λa s ⟨v,h1,h2⟩=>⟨ρ.eU 0 v,λi hi=>iy hi (Nat.not_lt_zero _),by rw[h1];simp[cI,Gh.eU],by rw[h2];simp[aS.res,IR.res,Gh.eU]⟩
abbrev aB8:=aa (uni.cQ 3)
def d200:Td 0 aB8:= .c [] [4] (.r 0 1 (ec 4 (qo 0) en) (sr 0 3 sn) (λz=>z.2.1) (λx=>(((),()),(x,()))))
def aAF:=(lc qn (lc (qf 144 (lc (qr (lc (ql 3) ln)) ln)) ln))
def aeE(l:aa (uni.cQ 3)):af aB8:=if zZ l<=1073741824 then M l else J
def aL0(l:aa (uni.cQ 3)):eN va 200 0 (d200.pat l)=⟨.own 0,[(0, .row 3 l)],1⟩:=aL
def aA7:HL va 200 aAF d200 (λg=>aeE g.2.1.1.1):=λg b hb=>by
 dsimp only[aeE]at hb;split at hb
 ·rename_i h;cases hb;rw[aL0];exact aD1 _ h
 ·cases hb
def aL2:=eL va 200 Z aAF d200 (λg=>aeE g.2.1.1.1)
def ann{F:aT}(h:bK va F):bK va (aL2 F):=fI (sc:=sB) dQ aA7 ⟨_,func200,aL,aL⟩ (λ_=>aL) (λ_=>aL) h
end Go.Proofs.YtghilkcphindjaaGreat
namespace Go.Proofs.YtghilkcphindjaaGreat
open Go Go.Iv
open Go.IntKind (i64 u64)
def tb{γ β:Type}[DecidableEq γ](T:aa (γ×β))(g:γ):af β:=(T.find? λp=>w9 (p.1=g)).map (·.2)
def B9{γ β:Type}[DecidableEq γ]{T:aa (γ×β)}{g:γ}{b:β}(h:tb T g=M b):(g,b)∈T:=by
 unfold tb at h;obtain⟨p,h1,rfl⟩:=zj.1 h;have h2:=List.find?_some h1;rw[decide_eq_true_eq]at h2;exact h2▸List.mem_of_find?_eq_some h1
def abx:aT:=oK va (an2 dz) (λf=>zg f 292) 300 60
def XY:bK va abx:=⟨nD (oq aP).ok (oq aP).nat 300 60,kF (oq aP).nat 300 60⟩
abbrev aq2:Type:=Int
def Oy:Td 0 aq2:= .c [] [2] (.r 0 0 (ec 2 aU en) sn (λz=>z.1.1) (λx=>((x,()),(()))) λ_=>rfl)
def af2:=(lc (qg 80) ln)
def t210:aa ((aq×Unit)×aq2):=[((⟨2,[0],[],0⟩,()),0),
 ((⟨2,[0,2],[⟨0,0,1⟩],2⟩,()),0),
 ((⟨2,[0,1],[⟨1,0,1⟩],2⟩,()),0),
 ((⟨2,[0,1,2,3],[⟨1,0,1⟩,⟨1,2,3⟩,⟨0,4,5⟩],6⟩,()),0),
 ((⟨2,[2],[],0⟩,()),0),
 ((⟨2,[0,1,2],[⟨1,0,1⟩,⟨0,3,2⟩],4⟩,()),0),
 ((⟨2,[1],[],0⟩,()),0),
 ((⟨2,[0,1],[⟨1,0,1⟩,⟨0,2,0⟩],3⟩,()),0),
 ((⟨2,[3],[],0⟩,()),0),
 ((⟨2,[0,1],[⟨1,1,0⟩,⟨0,1,2⟩],3⟩,()),0)]
def atg:dB va abx 0 300 210 .no:=bF (l:=[]) func210 (aY aL) aL az
def aI7:(t210.map λp=>bY va abx 300 .no 210 (af2.c p.1) [] 0 Oy.rd)=t210.map λp=>M p.2:=aL
def aCc:HL va 210 af2 Oy (tb (γ:=aq×Unit) t210):=λg b hb=>
 (hU (out:=λp=>eN va 210 0 (Oy.pat p)) (p:=b) XY atg Oy.ok (λp=>aL) (gG aL) (eT aL) (xR.1 aI7 _ (B9 hb))).2
def abf:aT->aT:=eZ va 210 af2 Oy (tb (γ:=aq×Unit) t210)
def vJ{F:aT}(h:bK va F):bK va (abf F):=oI aCc ⟨_,func210,aL,aL⟩ (λ_=>aL) h
abbrev aqB:Type:=Int
def Qw:Td 0 aqB:= .c [] [2] (.r 0 0 (ec 2 aU en) sn (λz=>z.1.1) (λx=>((x,()),(()))) λ_=>rfl)
def acD:=(lc (qg 42) ln)
def t151:aa ((cz×Unit)×aqB):=[((⟨2,[⟨0,0,1⟩],2⟩,()),0),
 ((⟨2,[⟨1,0,1⟩],2⟩,()),0),
 ((⟨2,[],1⟩,()),0),
 ((⟨2,[],0⟩,()),0),
 ((⟨2,[⟨1,1,0⟩,⟨0,1,2⟩],3⟩,()),0)]
def arW:dB va abx 0 300 151 .no:=bF (l:=[]) func151 (aY aL) aL az
def aJj:(t151.map λp=>bY va abx 300 .no 151 (acD.c p.1) [] 0 Qw.rd)=t151.map λp=>M p.2:=aL
def aGd:HL va 151 acD Qw (tb (γ:=cz×Unit) t151):=λg b hb=>
 (hU (out:=λp=>eN va 151 0 (Qw.pat p)) (p:=b) XY arW Qw.ok (λp=>aL) (gG aL) (eT aL) (xR.1 aJj _ (B9 hb))).2
def afn:aT->aT:=eZ va 151 acD Qw (tb (γ:=cz×Unit) t151)
def uW{F:aT}(h:bK va F):bK va (afn F):=oI aGd ⟨_,func151,aL,aL⟩ (λ_=>aL) h
def BV:aT:=oK va (abf (afn (an2 dz))) (λf=>zg f 210||zg f 151||zg f 292) 300 60
def qT:bK va BV:=⟨nD (vJ (uW (oq aP))).ok (vJ (uW (oq aP))).nat 300 60,kF (vJ (uW (oq aP))).nat 300 60⟩
abbrev arI:Type:=aq×Int
def Ns:Td 0 arI:= .c [] [6,7] (.t (bT.fc 0 1 []) (.t (bT.fc 0 2 []) (.c [] [6,7] (.r 0 1 (ec 6 (qp 0 0) (ec 7 aU en)) (sb 0 80 (lg 80) sn) (λz=>(z.2.1,z.1.2.1)) (λx=>(((),x.2,()),(x.1,()))) λ_=>rfl))))
def ahS:=(dX Lg)
def t178:aa ((Int×aq×aq×Unit)×arI):=[((0,⟨2,[0],[],0⟩,⟨2,[0,2],[⟨0,0,1⟩],2⟩,()),(⟨2,[0,2],[⟨0,0,1⟩],2⟩,0)),
 ((0,⟨2,[0,2],[⟨0,0,1⟩],2⟩,⟨2,[0,1],[⟨1,0,1⟩],2⟩,()),(⟨2,[0,1,2,3],[⟨1,0,1⟩,⟨1,2,3⟩,⟨0,4,5⟩],6⟩,0)),
 ((5,⟨2,[0,1,2,3],[⟨1,0,1⟩,⟨1,2,3⟩,⟨0,4,5⟩],6⟩,⟨2,[2],[],0⟩,()),(⟨2,[0,1,2],[⟨1,0,1⟩,⟨0,3,2⟩],4⟩,0)),
 ((0,⟨2,[0,1,2],[⟨1,0,1⟩,⟨0,3,2⟩],4⟩,⟨2,[0],[],0⟩,()),(⟨2,[0,1,2],[⟨1,0,1⟩,⟨0,3,2⟩],4⟩,0)),
 ((0,⟨2,[0],[],0⟩,⟨2,[1],[],0⟩,()),(⟨2,[1],[],0⟩,0)),
 ((8,⟨2,[0,1,2],[⟨1,0,1⟩,⟨0,3,2⟩],4⟩,⟨2,[1],[],0⟩,()),(⟨2,[0,1],[⟨1,0,1⟩,⟨0,2,0⟩],3⟩,0)),
 ((7,⟨2,[0,1,2,3],[⟨1,0,1⟩,⟨1,2,3⟩,⟨0,4,5⟩],6⟩,⟨2,[3],[],0⟩,()),(⟨2,[0,1],[⟨1,1,0⟩,⟨0,1,2⟩],3⟩,0))]
def auV:dB va BV 0 300 178 .no:=bF (l:=[]) func178 (aY aL) aL az
def aHJ:(t178.map λp=>bY va BV 300 .no 178 (ahS.c p.1) [] 0 Ns.rd)=t178.map λp=>M p.2:=aL
def aCe:HL va 178 ahS Ns (tb (γ:=Int×aq×aq×Unit) t178):=λg b hb=>
 (hU (out:=λp=>eN va 178 0 (Ns.pat p)) (p:=b) qT auV Ns.ok (λp=>aL) (gG aL) (eT aL) (xR.1 aHJ _ (B9 hb))).2
def apy:aT->aT:=eZ va 178 ahS Ns (tb (γ:=Int×aq×aq×Unit) t178)
def ag9{F:aT}(h:bK va F):bK va (apy F):=oI aCe ⟨_,func178,aL,aL⟩ (λ_=>aL) h
abbrev aoo:Type:=aq×Int
def Qc:Td 0 aoo:= .c [] [6,7] (.t (bT.fc 0 1 []) (.t (bT.fc 0 2 []) (.c [] [6,7] (.r 0 1 (ec 6 (qp 0 0) (ec 7 aU en)) (sb 0 80 (lg 80) sn) (λz=>(z.2.1,z.1.2.1)) (λx=>(((),x.2,()),(x.1,()))) λ_=>rfl))))
def ahG:=(lc (qg 42) Lg)
def t134:aa ((cz×aq×aq×Unit)×aoo):=[((⟨2,[],1⟩,⟨2,[0,1],[⟨1,0,1⟩,⟨0,2,0⟩],3⟩,⟨2,[0],[],0⟩,()),(⟨2,[0,1],[⟨1,0,1⟩,⟨0,2,0⟩],3⟩,0)),
 ((⟨2,[],0⟩,⟨2,[0,1],[⟨1,0,1⟩,⟨0,2,0⟩],3⟩,⟨2,[0],[],0⟩,()),(⟨2,[0],[],0⟩,0))]
def auU:dB va BV 0 300 134 .no:=bF (l:=[]) func134 (aY aL) aL az
def aJl:(t134.map λp=>bY va BV 300 .no 134 (ahG.c p.1) [] 0 Qc.rd)=t134.map λp=>M p.2:=aL
def aDX:HL va 134 ahG Qc (tb (γ:=cz×aq×aq×Unit) t134):=λg b hb=>
 (hU (out:=λp=>eN va 134 0 (Qc.pat p)) (p:=b) qT auU Qc.ok (λp=>aL) (gG aL) (eT aL) (xR.1 aJl _ (B9 hb))).2
def apt:aT->aT:=eZ va 134 ahG Qc (tb (γ:=cz×aq×aq×Unit) t134)
def aeJ{F:aT}(h:bK va F):bK va (apt F):=oI aDX ⟨_,func134,aL,aL⟩ (λ_=>aL) h
abbrev arB:Type:=cz×Int
def P5:Td 0 arB:= .c [] [4,5] (.t (bT.fc 0 1 []) (.c [] [4,5] (.r 0 1 (ec 4 (qp 0 0) (ec 5 aU en)) (sb 0 42 (lg 42) sn) (λz=>(z.2.1,z.1.2.1)) (λx=>(((),x.2,()),(x.1,()))) λ_=>rfl)))
def ade:=agx
def t184:aa ((aq×Int×Unit)×arB):=[((⟨2,[0],[],0⟩,0,()),(⟨2,[],1⟩,0)),
 ((⟨2,[0],[],0⟩,1,()),(⟨2,[],0⟩,0)),
 ((⟨2,[0],[],0⟩,2,()),(⟨2,[],0⟩,0)),
 ((⟨2,[0],[],0⟩,3,()),(⟨2,[],0⟩,0)),
 ((⟨2,[0],[],0⟩,4,()),(⟨2,[],0⟩,0)),
 ((⟨2,[0],[],0⟩,5,()),(⟨2,[],0⟩,0)),
 ((⟨2,[0],[],0⟩,6,()),(⟨2,[],0⟩,0)),
 ((⟨2,[0],[],0⟩,7,()),(⟨2,[],0⟩,0)),
 ((⟨2,[0,1],[⟨1,1,0⟩,⟨0,1,2⟩],3⟩,1,()),(⟨2,[⟨1,1,0⟩,⟨0,1,2⟩],3⟩,0))]
def auO:dB va BV 0 300 184 .no:=bF (l:=[]) func184 (aY aL) aL az
def aHX:(t184.map λp=>bY va BV 300 .no 184 (ade.c p.1) [] 0 P5.rd)=t184.map λp=>M p.2:=aL
def aDn:HL va 184 ade P5 (tb (γ:=aq×Int×Unit) t184):=λg b hb=>
 (hU (out:=λp=>eN va 184 0 (P5.pat p)) (p:=b) qT auO P5.ok (λp=>aL) (gG aL) (eT aL) (xR.1 aHX _ (B9 hb))).2
def arC:aT->aT:=eZ va 184 ade P5 (tb (γ:=aq×Int×Unit) t184)
def ahj{F:aT}(h:bK va F):bK va (arC F):=oI aDn ⟨_,func184,aL,aL⟩ (λ_=>aL) h
abbrev aq5:Type:=aq×Int
def NH:Td 0 aq5:= .c [] [6,7] (.t (bT.fc 0 1 []) (.t (bT.fc 0 2 []) (.c [] [6,7] (.r 0 1 (ec 6 (qp 0 0) (ec 7 aU en)) (sb 0 80 (lg 80) sn) (λz=>(z.2.1,z.1.2.1)) (λx=>(((),x.2,()),(x.1,()))) λ_=>rfl))))
def adJ:=(lc (qg 42) uS)
def t145:aa ((cz×Int×Int×Unit)×aq5):=[((⟨2,[⟨0,0,1⟩],2⟩,0,2,()),(⟨2,[0,2],[⟨0,0,1⟩],2⟩,0)),
 ((⟨2,[⟨1,0,1⟩],2⟩,0,1,()),(⟨2,[0,1],[⟨1,0,1⟩],2⟩,0))]
def axc:dB va BV 0 300 145 .no:=bF (l:=[]) func145 (aY aL) aL az
def aHQ:(t145.map λp=>bY va BV 300 .no 145 (adJ.c p.1) [] 0 NH.rd)=t145.map λp=>M p.2:=aL
def aCw:HL va 145 adJ NH (tb (γ:=cz×Int×Int×Unit) t145):=λg b hb=>
 (hU (out:=λp=>eN va 145 0 (NH.pat p)) (p:=b) qT axc NH.ok (λp=>aL) (gG aL) (eT aL) (xR.1 aHQ _ (B9 hb))).2
def ao4:aT->aT:=eZ va 145 adJ NH (tb (γ:=cz×Int×Int×Unit) t145)
def agf{F:aT}(h:bK va F):bK va (ao4 F):=oI aCw ⟨_,func145,aL,aL⟩ (λ_=>aL) h
abbrev aoy:Type:=aq×aa Pt×Int
def ON:Td 0 aoy:= .c [] [4,5,6] (.t (bT.fc 0 1 []) (.t (bT.fc 0 2 []) (.t (bT.fs 5 []) (.c [] [4,5,6] (.r 0 1 (ec 4 (qp 0 0) (ec 5 (ql 231) (ec 6 aU en))) (sb 0 80 (lg 80) sn) (λz=>(z.2.1,z.1.2.1,z.1.2.2.1)) (λx=>(((),x.2.1,x.2.2,()),(x.1,()))) λ_=>rfl)))))
def agO:=Lg
def t148:aa ((aq×aq×Unit)×aoy):=[((⟨2,[1],[],0⟩,⟨2,[1],[],0⟩,()),(⟨2,[0],[],0⟩,[⟨1,1⟩],0)),
 ((⟨2,[0],[],0⟩,⟨2,[0,1],[⟨1,0,1⟩,⟨0,2,0⟩],3⟩,()),(⟨2,[0,1],[⟨1,0,1⟩,⟨0,2,0⟩],3⟩,[⟨0,0⟩,⟨0,1⟩],0)),
 ((⟨2,[0,1],[⟨1,0,1⟩,⟨0,2,0⟩],3⟩,⟨2,[0],[],0⟩,()),(⟨2,[0,1],[⟨1,0,1⟩,⟨0,2,0⟩],3⟩,[⟨0,0⟩,⟨1,0⟩],0)),
 ((⟨2,[1],[],0⟩,⟨2,[0],[],0⟩,()),(⟨2,[0],[],0⟩,[⟨1,0⟩],0))]
def asq:dB va BV 0 300 148 .no:=bF (l:=[]) func148 (aY aL) aL az
def aKt:(t148.map λp=>bY va BV 300 .no 148 (agO.c p.1) [] 0 ON.rd)=t148.map λp=>M p.2:=aL
def aD4:HL va 148 agO ON (tb (γ:=aq×aq×Unit) t148):=λg b hb=>
 (hU (out:=λp=>eN va 148 0 (ON.pat p)) (p:=b) qT asq ON.ok (λp=>aL) (gG aL) (eT aL) (xR.1 aKt _ (B9 hb))).2
def ap0:aT->aT:=eZ va 148 agO ON (tb (γ:=aq×aq×Unit) t148)
def agq{F:aT}(h:bK va F):bK va (ap0 F):=oI aD4 ⟨_,func148,aL,aL⟩ (λ_=>aL) h
abbrev aqW:Type:=cz×Int
def M9:Td 0 aqW:= .c [] [6,7] (.t (bT.fc 0 1 []) (.c [] [6,7] (.r 0 1 (ec 6 (qp 0 0) (ec 7 aU en)) (sb 0 42 (lg 42) sn) (λz=>(z.2.1,z.1.2.1)) (λx=>(((),x.2,()),(x.1,()))) λ_=>rfl)))
def aaC:=(dX (lc (qg 42) (lc (qg 42) ln)))
def t117:aa ((Int×cz×cz×Unit)×aqW):=[((8,⟨2,[],1⟩,⟨2,[⟨1,1,0⟩,⟨0,1,2⟩],3⟩,()),(⟨2,[⟨1,1,0⟩,⟨0,1,2⟩],3⟩,0))]
def au4:dB va BV 0 300 117 .no:=bF (l:=[]) func117 (aY aL) aL az
def aJa:(t117.map λp=>bY va BV 300 .no 117 (aaC.c p.1) [] 0 M9.rd)=t117.map λp=>M p.2:=aL
def aCS:HL va 117 aaC M9 (tb (γ:=Int×cz×cz×Unit) t117):=λg b hb=>
 (hU (out:=λp=>eN va 117 0 (M9.pat p)) (p:=b) qT au4 M9.ok (λp=>aL) (gG aL) (eT aL) (xR.1 aJa _ (B9 hb))).2
def ao0:aT->aT:=eZ va 117 aaC M9 (tb (γ:=Int×cz×cz×Unit) t117)
def af7{F:aT}(h:bK va F):bK va (ao0 F):=oI aCS ⟨_,func117,aL,aL⟩ (λ_=>aL) h
abbrev E92:=aa Int
def d92:Td 0 E92:= .c [] [2] (.t (bT.s 2 [] 3) (.c [] [2] (.r 0 1 (ec 2 (qo 0) en) (sr 0 3 sn) (λz=>z.2.1) (λx=>(((),()),(x,()))))))
def A92:=(lc (ql 3) ln)
def m92(a0:aa Int):af E92:=if zZ a0<=1073741824 then M a0 else J
def atT:dB va dz 0 300 92 .no:=bF (l:=[]) func92 (aY aL) aL az
def aIl(x:Int)(xs:aa Int):bY va dz 300 .no 92 [.sl 3 (x::xs)] [] 0 d92.rd=if([]++(x::xs)).length<=1073741824 then M ([]++(x::xs))else J:=aL
def aJs(c:Nat):bY va dz 300 .no 92 [.lit (.slice J 0 c)] [] 0 d92.rd=M []:=aL
def aIv(a:Addr)(c:Nat):bY va dz 300 .no 92 [.lit (.slice (M a) 0 c)] [] 0 d92.rd=M []:=aL
def h92:HL va 92 A92 d92 (λg=>m92 g.1):=λg r h=>by
 obtain⟨a0,_⟩:=g;have h:m92 a0=M r:=h;cases a0 with
 |cons x xs=>exact(hU (out:=λp=>eN va 92 0 (d92.pat p)) (p:=r) aP atT d92.ok (λp=>aL) (gG aL) (eT aL) ((aIl x xs).trans (by rw[yl];exact h))).2
 |nil=>
  cases h;exact Uo (λc=>(hU (out:=λp=>eN va 92 0 (d92.pat p)) (p:=[]) aP atT d92.ok (λp=>aL) (gG aL) (eT aL) (aJs c)).2) (λa c=>(hU (out:=λp=>eN va 92 0 (d92.pat p)) (p:=[]) aP atT d92.ok (λp=>aL) (gG aL) (eT aL) (aIv a c)).2)
def e92:=eL va 92 O A92 d92 (λg=>m92 g.1)
def awW{F:aT}(h:bK va F):bK va (e92 F):=fI (sc:=sB) dQ h92 ⟨_,func92,aL,aL⟩ (λ_=>aL) (λ_=>aL) h
end Go.Proofs.YtghilkcphindjaaGreat
namespace Go.Iv
open Go
variable [U:HB] [L:Ho]
def aI{n:Int}(h1: -9223372036854775808<=n:=by omega)(h2:n<9223372036854775808:=by omega):ak n=n:=by
 simp[ak,Z7,IntKind.wrap,IntKind.bits,IntKind.signed];omega
def j9{α β ρ:Type}(step:β->α->af β)(ret:β->α->ρ)(fin:β->ρ):aa α->β->ρ
 |[],b=>fin b
 |x::xs,b=>match step b x with
  |some b'=>j9 step ret fin xs b'
  |none=>ret b x
def Iy{γ α β ρ:Type}{rnd:γ->af (af γ)}(l:aa α)(mk:Nat->β->γ)(step:β->α->af β)(ret:β->α->ρ)(fin:β->ρ)(I:Nat->β->Prop)
  (h1:∀i b (hi:i<zZ l),I i b->∀b',step b l[i]=M b'->rnd (mk i b)=M (M (mk (i+1) b'))/\I (i+1) b')
  (h2:∀i b (hi:i<zZ l),I i b->step b l[i]=J->∀r,rnd (mk i b)≠M (M r)) (h3:∀b,I (zZ l) b->∀r,rnd (mk (zZ l) b)≠M (M r)) {b:β} (hb:I 0 b):
  ∃i v,i<=zZ l/\bX rnd (mk 0 b)=M (mk i v)/\I i v/\((i=zZ l/\j9 step ret fin l b=fin v)\/∃hi:i<zZ l,step v l[i]=J/\j9 step ret fin l b=ret v l[i]):=by
 have key:∀(xs:aa α) (i:Nat) (b:β),l.drop i=xs->i<=zZ l->I i b->∃j v,j<=zZ l/\bX rnd (mk i b)=M (mk j v)/\I j v/\((j=zZ l/\j9 step ret fin xs b=fin v)\/∃hi:j<zZ l,step v l[j]=J/\j9 step ret fin xs b=ret v l[j]):=by
  intro xs;induction xs with
  |nil=>
   intro i b hd hi hb;have:i=zZ l:=by have:=congrArg zZ hd;simp at this;omega
   subst this;exact⟨_,b,zx _,cW (h3 b hb),hb, .inl ⟨rfl,rfl⟩⟩
  |cons x xs ih=>
   intro i b hd hi hb;have hil:i<zZ l:=by have:=congrArg zZ hd;simp at this;omega
   have hx:l[i]=x:=by
    have:=congrArg List.head? hd;rw[List.head?_drop,zD hil]at this;simp_all
   have hd':l.drop (i+1)=xs:=by
    have:=congrArg List.tail hd;rw[List.tail_drop]at this
    assumption
   cases hs:step b x with
   |some b'=>
    obtain⟨q1,q2⟩:=h1 i b hil hb b' (by rw[hx];exact hs);obtain⟨j,v,e1,e2,e3,e4⟩:=ih (i+1) b' hd' hil q2;have er:j9 step ret fin (x::xs) b=j9 step ret fin xs b':=by simp only[j9,hs]
    exact⟨j,v,e1,by rw[cT q1];exact e2,e3,by rw[er];exact e4⟩
   |none=>
    have er:j9 step ret fin (x::xs) b=ret b x:=by simp only[j9,hs]
    exact⟨i,b,hi,cW (h2 i b hil hb (by rw[hx];exact hs)),hb, .inr ⟨hil,by rw[hx];exact hs,by rw[er,hx]⟩⟩
 exact key l 0 b rfl (yu _) hb
def QB{α β ρ w:Type}(step:Nat->β->α->β ⊕ ρ)(out:ρ->w)(fin:β->w):aa α->Nat->β->w
 |[],_,b=>fin b
 |x::xs,i,b=>match step i b x with
  | .inl b'=>QB step out fin xs (i+1) b'
  | .inr r=>out r
def rL{α β ρ w:Type}{step:Nat->β->α->β ⊕ ρ}{out:ρ->w}{fin:β->w}{x:α}{xs:aa α}{i:Nat}{b b':β}(h:step i b x= .inl b'):QB step out fin (x::xs) i b=QB step out fin xs (i+1) b':=by
 simp only[QB,h]
def ox{α β ρ w:Type}{step:Nat->β->α->β ⊕ ρ}{out:ρ->w}{fin:β->w}{x:α}{xs:aa α}{i:Nat}{b:β}{r:ρ}(h:step i b x= .inr r):QB step out fin (x::xs) i b=out r:=by
 simp only[QB,h]
def Vo{γ α β ρ w:Type}[Inhabited α]{rnd:γ->af (af γ)}(l:aa α)(mk:Nat->β->γ)(step:Nat->β->α->β ⊕ ρ)(out:ρ->w)(fin:β->w)(I:Nat->β->Prop)
  (h1:∀i b,i<zZ l->I i b->(∀b',step i b l[i]! = .inl b'->rnd (mk i b)=M (M (mk (i+1) b'))/\I (i+1) b')/\∀r,step i b l[i]! = .inr r->rnd (mk i b)=M J)
  (h2:∀b,I (zZ l) b->rnd (mk (zZ l) b)=M J) {b:β} (hb:I 0 b):
  ∃i v,bX rnd (mk 0 b)=M (mk i v)/\I i v/\((i=zZ l/\QB step out fin l 0 b=fin v)\/(i<zZ l/\∃r,step i v l[i]! = .inr r/\QB step out fin l 0 b=out r)):=by
 have key:∀(xs:aa α) (i:Nat) (b:β),l.drop i=xs->i<=zZ l->I i b->∃j v,bX rnd (mk i b)=M (mk j v)/\I j v/\((j=zZ l/\QB step out fin xs i b=fin v)\/(j<zZ l/\∃r,step j v l[j]! = .inr r/\QB step out fin xs i b=out r)):=by
  intro xs;induction xs with
  |nil=>
   intro i b hd hi hb;have:i=zZ l:=by have:=congrArg zZ hd;simp at this;omega
   subst this;exact⟨_,b,cW (λr=>by rw[h2 b hb];simp),hb, .inl ⟨rfl,rfl⟩⟩
  |cons x xs ih=>
   intro i b hd hi hb;have hil:i<zZ l:=by have:=congrArg zZ hd;simp at this;omega
   have hx:l[i]! =x:=by
    have:=congrArg List.head? hd;rw[List.head?_drop,zD hil]at this;simp_all
   have hd':l.drop (i+1)=xs:=by
    have:=congrArg List.tail hd;rw[List.tail_drop]at this
    assumption
   obtain⟨p1,p2⟩:=h1 i b hil hb;cases hs:step i b x with
   |inl b'=>
    obtain⟨q1,q2⟩:=p1 b' (by rw[hx];exact hs);obtain⟨j,v,e2,e3,e4⟩:=ih (i+1) b' hd' hil q2;rw[rL hs];exact⟨j,v,by rw[cT q1];exact e2,e3,e4⟩
   |inr r=>
    rw[ox hs];exact⟨i,b,cW (λr'=>by rw[p2 r (by rw[hx];exact hs)];simp),hb, .inr ⟨hil,r,by rw[hx];exact hs,rfl⟩⟩
 exact key l 0 b rfl (yu _) hb
def bg{α:Type}[Inhabited α]{l:aa α}{i:Nat}(h:i<zZ l):l[i]!∈l:=by rw[getElem!_pos l i h];exact yR h
def jy{i n:Nat}(h:i<n)(hn:n<=1000000):ak ((i:Int)+1)=((i+1:Nat):Int):=by rw[aI];omega
def oO{γ β:Type}{rnd:γ->af (af γ)}(n:Nat)(mk:Nat->β->γ)(I S:Nat->β->Prop)
  (h1:∀i b,i<n->I i b->(∃b',rnd (mk i b)=M (M (mk (i+1) b'))/\I (i+1) b')\/(rnd (mk i b)=M J/\S i b))
  (h2:∀b,I n b->rnd (mk n b)=M J) {b:β} (hb:I 0 b):
  ∃i v,bX rnd (mk 0 b)=M (mk i v)/\I i v/\(i=n\/(i<n/\S i v)):=by
 have key:∀(k i:Nat) (b:β),i+k=n->I i b->∃j v,bX rnd (mk i b)=M (mk j v)/\I j v/\(j=n\/(j<n/\S j v)):=by
  intro k;induction k with
  |zero=>
   intro i b hi hb;have:i=n:=aj;subst this;exact⟨_,b,cW (λr=>by rw[h2 b hb];simp),hb, .inl rfl⟩
  |succ k ih=>
   intro i b hi hb;rcases h1 i b aj hb with ⟨b',q1,q2⟩|⟨q1,q2⟩
   ·rw[cT q1];grind
   ·exact⟨i,b,cW (λr=>by rw[q1];simp),hb, .inr ⟨aj,q2⟩⟩
 simp_all
def cZ{γ β:Type}{rnd:γ->af (af γ)}(n:Nat)(mk:Nat->β->γ)(I:Nat->β->Prop)
  (h1:∀i b,i<n->I i b->∃b',rnd (mk i b)=M (M (mk (i+1) b'))/\I (i+1) b')
  (h2:∀b,I n b->rnd (mk n b)=M J) {b:β} (hb:I 0 b):∃v,bX rnd (mk 0 b)=M (mk n v)/\I n v:=by
 obtain⟨i,v,e,hi,h⟩:=oO n mk I (λ_ _=>False) (λi b hi hb=> .inl (h1 i b hi hb)) h2 hb;rcases h with rfl|⟨_,h⟩
 ·exact⟨v,e,hi⟩
 ·simp_all
def dZ{α:Type}(c:Nat->α->Int):aa α->Nat->Int
 |[],_=>0
 |x::xs,i=>if c i x=0 then dZ c xs (i+1)else c i x
def Iz{γ α:Type}[Inhabited α]{rnd:γ->af (af γ)}(l:aa α)(mk:Nat->γ)(c:Nat->α->Int)
  (h1:∀i,i<zZ l->(c i l[i]! =0->rnd (mk i)=M (M (mk (i+1))))/\(c i l[i]!≠0->rnd (mk i)=M J))
  (h2:rnd (mk (zZ l))=M J):
  ∃i,bX rnd (mk 0)=M (mk i)/\((i=zZ l/\dZ c l 0=0)\/(i<zZ l/\c i l[i]!≠0/\dZ c l 0=c i l[i]!)):=by
 have key:∀(xs:aa α) (i:Nat),l.drop i=xs->i<=zZ l->∃j,bX rnd (mk i)=M (mk j)/\((j=zZ l/\dZ c xs i=0)\/(j<zZ l/\c j l[j]!≠0/\dZ c xs i=c j l[j]!)):=by
  intro xs;induction xs with
  |nil=>
   intro i hd hi;have:i=zZ l:=by have:=congrArg zZ hd;simp at this;omega
   subst this;exact⟨_,cW (λr=>by rw[h2];simp), .inl ⟨rfl,rfl⟩⟩
  |cons x xs ih=>
   intro i hd hi;have hil:i<zZ l:=by have:=congrArg zZ hd;simp at this;omega
   have hx:l[i]! =x:=by
    have:=congrArg List.head? hd;rw[List.head?_drop,zD hil]at this;simp_all
   have hd':l.drop (i+1)=xs:=by
    have:=congrArg List.tail hd;rw[List.tail_drop]at this
    assumption
   obtain⟨p1,p2⟩:=h1 i hil;unfold dZ;rw[hx]at p1 p2;by_cases hc:c i x=0
   ·rw[bO hc,cT (p1 hc)];exact ih (i+1) hd' hil
   ·rw[bP hc];exact⟨i,cW (λr=>by rw[p2 hc];simp), .inr ⟨hil,by rw[hx];exact hc,by rw[hx]⟩⟩
 exact key l 0 rfl (yu _)
def pS{γ α:Type}[Inhabited α]{rnd:γ->af (af γ)}(l:aa α)(mk:Nat->γ)(c:Nat->α->Bool)
  (h1:∀i,i<zZ l->(c i l[i]! =Z->rnd (mk i)=M (M (mk (i+1))))/\(c i l[i]! =O->rnd (mk i)=M J))
  (h2:rnd (mk (zZ l))=M J):
  ∃i,bX rnd (mk 0)=M (mk i)/\((i=zZ l/\∀j,j<zZ l->c j l[j]! =Z)\/(i<zZ l/\c i l[i]! =O)):=by
 obtain⟨i,v,e,hI,h⟩:=oO (β:=Unit) (rnd:=rnd) (zZ l) (λi _=>mk i) (λi _=>∀j,j<i->c j l[j]! =Z) (λi _=>c i l[i]! =O) (λi b hi hI=>by
   obtain⟨p1,p2⟩:=h1 i hi;cases hc:c i l[i]! with
   |true=>exact .inl ⟨(),p1 hc,λj hj=>by
     rcases Nat.lt_succ_iff_lt_or_eq.1 hj with h|h
     ·exact hI j h
     ·subst h;exact hc⟩
   |false=>exact .inr ⟨p2 hc,rfl⟩) (λb _=>h2) (b:=()) (λj hj=>iy hj aj)
 refine⟨i,e,?_⟩;rcases h with h|h
 ·subst h;exact .inl ⟨rfl,hI⟩
 ·exact .inr h
def Gx{α:Type}[Inhabited α]{l:aa α}{p:α->Bool}(h:∀j,j<zZ l->p l[j]! =Z):l.all p=Z:=by
 rw[zn];intro x hx;obtain⟨i,hi,e⟩:=xh hx;have:=h i hi;simp_all
def vN{α:Type}[Inhabited α]{l:aa α}{p:α->Bool}{i:Nat}(hi:i<zZ l)(h:p l[i]! =O):l.all p=O:=by
 cases ha:l.all p with
 |false=>rfl
 |true=>
  rw[zn]at ha;rw[ha _ (bg hi)]at h;omega
def Ak{α:Type}[Inhabited α]{l:aa α}{p:α->Bool}(h:∀j,j<zZ l->p l[j]! =O):l.any p=O:=by
 cases ha:l.any p with
 |false=>rfl
 |true=>
  obtain⟨x,hx,e⟩:=List.any_eq_true.1 ha;obtain⟨i,hi,e2⟩:=xh hx;have:=h i hi;rw[getElem!_pos l i hi,e2,e]at this;omega
def JV{α:Type}[Inhabited α]{l:aa α}{p:α->Bool}{i:Nat}(hi:i<zZ l)(h:p l[i]! =Z):l.any p=Z:=
 List.any_eq_true.2 ⟨_,bg hi,h⟩
def bV{α:Type}[Inhabited α]{l:aa α}{i:Nat}(h:i<zZ l):l.take (i+1)=l.take i++[l[i]!]:=by
 rw[getElem!_pos l i h];simp
end Go.Iv
namespace Go.Proofs.YtghilkcphindjaaGreat
open Go Go.Iv
open Go.IntKind (i64 u64)
inductive BT where
 |leaf (x:Int)
 |node (v:Int) (a b:BT)
 deriving DecidableEq
namespace BT
def top(n:Int):BT->Int
 | .leaf _=>n
 | .node v _ _=>v
def sz:BT->Nat
 | .leaf _=>1
 | .node _ a b=>sz a+sz b+1
def rT(v:Int)(hi:Bool):BT->BT
 | .leaf x=> .leaf x
 | .node w a b=>if w=v then(if hi then b else a)else .node w a b
def QA:BT->Bool
 | .leaf _=>O
 | .node _ _ _=>Z
def lv:BT->Int
 | .leaf x=>x
 | .node _ _ _=>0
def Ord(n:Int):Int->BT->Prop
 |_, .leaf _=>True
 |v, .node w a b=>v<=w/\w<n/\a≠b/\Ord n (w+1) a/\Ord n (w+1) b
end BT
open BT
def lS(v:Int)(a b:BT):BT:=if a=b then a else .node v a b
def BT.Ord.le{n:Int}:∀{t:BT} {v w:Int},Ord n v t->w<=v->Ord n w t
 | .leaf _,_,_,_,_=>trivial
 | .node _ _ _,_,_,h,hw=>⟨x8 hw h.1,h.2⟩
def abC{n v:Int}{a b:BT}(hv:v<n)(ha:Ord n (v+1) a)(hb:Ord n (v+1) b):Ord n v (lS v a b):=by
 unfold lS;split
 ·exact ha.le aj
 ·rename_i h;exact⟨zG _,hv,h,ha,hb⟩
def tf:Nat->Int->(aa Bool->Int)->BT
 |0,_,F=> .leaf (F [])
 |k+1,v,F=>lS v (tf k (v+1) λe=>F (O::e)) (tf k (v+1) λe=>F (Z::e))
def BA{n:Int}:∀{k:Nat} {v:Int} {F:aa Bool->Int},v+k=n->Ord n v (tf k v F)
 |0,_,_,_=>trivial
 |k+1,v,F,h=>abC aj (BA aj) (BA aj)
def lE:∀{k:Nat} {v:Int} {F G:aa Bool->Int},(∀e:aa Bool,zZ e=k->F e=G e)->tf k v F=tf k v G
 |0,_,_,_,h=>by simp only[tf];rw[h [] rfl]
 |k+1,v,F,G,h=>by
  simp only[tf];rw[lE (k:=k) (G:=λe=>G (O::e)) λe he=>h (O::e) (by simp[he]),lE (k:=k) (G:=λe=>G (Z::e)) λe he=>h (Z::e) (by simp[he])]
def jO(x:Int):∀(k:Nat) (v:Int),(tf k v λ_=>x)= .leaf x
 |0,_=>rfl
 |k+1,v=>by simp only[tf];rw[jO x k (v+1)];simp[lS]
def BT.ji(P:Int->Prop):BT->Prop
 | .leaf x=>P x
 | .node _ a b=>a.ji P/\b.ji P
def all_mk{P:Int->Prop}{v:Int}{a b:BT}(ha:a.ji P)(hb:b.ji P):(lS v a b).ji P:=by
 unfold lS;split
 ·exact ha
 ·exact⟨ha,hb⟩
def kX{P:Int->Prop}:∀{k:Nat} {v:Int} {F:aa Bool->Int},(∀e:aa Bool,zZ e=k->P (F e))->(tf k v F).ji P
 |0,_,_,h=>h [] rfl
 |k+1,v,F,h=>all_mk (kX λe he=>h (O::e) (by simp[he])) (kX λe he=>h (Z::e) (by simp[he]))
def atK{n v w:Int}{hi:Bool}{t:BT}(h:Ord n w t)(hv:v<w):t.rT v hi=t:=by
 cases t with
 |leaf x=>rfl
 |node u a b=>
  have:=h.1;simp only[rT];rw[nB]
def AH{n w:Int}{t:BT}(h:Ord n w t)(hw:w<=n):w<=t.top n:=by
 cases t with
 |leaf x=>exact hw
 |node u a b=>exact h.1
def Bw{n v:Int}{a b:BT}(hi:Bool)(ha:Ord n (v+1) a):(lS v a b).rT v hi=if hi then b else a:=by
 unfold lS;split
 ·rename_i h;subst h;rw[atK ha aj];simp
 ·simp[rT]
inductive AP (n:Int) (f:Int->Int->Int->Int):Nat->BT->BT->BT->BT->Prop
 |leaf {d:Nat} (x y z:Int):AP n f d (.leaf x) (.leaf y) (.leaf z) (.leaf (f x y z))
 |node {d:Nat} {a b c r s:BT} (v:Int) (hv:v=min (a.top n) (min (b.top n) (c.top n))) (hn:v<n) (h0:AP n f d (a.rT v O) (b.rT v O) (c.rT v O) r) (h1:AP n f d (a.rT v Z) (b.rT v Z) (c.rT v Z) s):AP n f (d+1) a b c (lS v r s)
def AP.oU{n:Int}{f:Int->Int->Int->Int}{d:Nat}{a b c r:BT}(h:AP n f d a b c r):∀{d':Nat} {r':BT},AP n f d' a b c r'->r=r':=by
 induction h with
 |leaf x y z=>
  intro d' r' h';cases h' with
  |leaf=>rfl
  |node v hv hn=>simp[top]at hv;omega
 |node v hv hn h0 h1 i0 i1=>
  intro d' r' h';cases h' with
  |leaf=>simp[top]at hv;omega
  |node v' hv' hn' h0' h1'=>
   have:v=v':=by rw[hv,hv']
   subst this;rw[i0 h0',i1 h1']
def AP.mono{n:Int}{f:Int->Int->Int->Int}{d:Nat}{a b c r:BT}(h:AP n f d a b c r):AP n f (d+1) a b c r:=by
 induction h with
 |leaf x y z=>exact .leaf x y z
 |node v hv hn h0 h1 i0 i1=>exact .node v hv hn i0 i1
def Lk{n v:Int}{a b:BT}(ha:Ord n (v+1) a)(hv:v<n):(a≠b->(lS v a b).top n=v)/\v<=(lS v a b).top n:=by
 unfold lS;split
 ·rename_i h;exact⟨λh'=>iy h h',by have:=AH ha aj;omega⟩
 ·exact⟨λ_=>rfl,zG _⟩
def MU{n:Int}{f:Int->Int->Int->Int}:∀{k:Nat} {v:Int} {F G H:aa Bool->Int},v+k=n->AP n f k (tf k v F) (tf k v G) (tf k v H) (tf k v λe=>f (F e) (G e) (H e))
 |0,v,F,G,H,h=>AP.leaf _ _ _
 |k+1,v,F,G,H,h=>by
  have i0:=MU (f:=f) (F:=λe=>F (O::e)) (G:=λe=>G (O::e)) (H:=λe=>H (O::e)) (show v+1+(k:Int)=n by omega);have i1:=MU (f:=f) (F:=λe=>F (Z::e)) (G:=λe=>G (Z::e)) (H:=λe=>H (Z::e)) (show v+1+(k:Int)=n by omega);have oF0:Ord n (v+1) (tf k (v+1) λe=>F (O::e)):=BA aj;have oG0:Ord n (v+1) (tf k (v+1) λe=>G (O::e)):=BA aj;have oH0:Ord n (v+1) (tf k (v+1) λe=>H (O::e)):=BA aj;have hvn:v<n:=aj;by_cases hc:tf k (v+1) (λe=>F (O::e))=tf k (v+1) (λe=>F (Z::e))/\tf k (v+1) (λe=>G (O::e))=tf k (v+1) (λe=>G (Z::e))/\tf k (v+1) (λe=>H (O::e))=tf k (v+1) (λe=>H (Z::e))
  ·obtain⟨c1,c2,c3⟩:=hc;rw[<-c1,<-c2,<-c3]at i1;have e:=i0.oU i1;simp only[tf];rw[<-c1,<-c2,<-c3,<-e];simp only[lS];exact i0.mono
  ·simp only[tf];obtain⟨a1,a2⟩:=Lk (n:=n) (b:=tf k (v+1) λe=>F (Z::e)) oF0 hvn;obtain⟨b1,b2⟩:=Lk (n:=n) (b:=tf k (v+1) λe=>G (Z::e)) oG0 hvn;obtain⟨d1,d2⟩:=Lk (n:=n) (b:=tf k (v+1) λe=>H (Z::e)) oH0 hvn;refine .node v ?_ hvn ?_ ?_
   ·by_cases h1:tf k (v+1) (λe=>F (O::e))=tf k (v+1) (λe=>F (Z::e))
    ·by_cases h2:tf k (v+1) (λe=>G (O::e))=tf k (v+1) (λe=>G (Z::e))
     ·have h3:¬tf k (v+1) (λe=>H (O::e))=tf k (v+1) (λe=>H (Z::e)):=λh3=>hc ⟨h1,h2,h3⟩;have:=d1 h3;omega
     ·have:=b1 h2;omega
    ·have:=a1 h1;omega
   ·rw[Bw O oF0,Bw O oG0,Bw O oH0];exact i0
   ·rw[Bw Z oF0,Bw Z oG0,Bw Z oH0];exact i1
def af4{n:Int}(f:Int->Int->Int->Int)(hf:∀x,f x 0 0=x):∀{t:BT} {v:Int} {d:Nat},Ord n v t->n<=v+d->AP n f d t (.leaf 0) (.leaf 0) t
 | .leaf x,v,d,_,_=>by
  have:=AP.leaf (n:=n) (f:=f) (d:=d) x 0 0;simp_all
 | .node w a b,v,0,h,hd=>by have:=h.1;have:=h.2.1;omega
 | .node w a b,v,d+1,h,hd=>by
  obtain⟨h1,h2,h3,h4,h5⟩:=h;have e:lS w a b= .node w a b:=by simp[lS,h3]
  rw[<-e];refine .node w ?_ h2 ?_ ?_
  ·rw[e];simp only[top];omega
  ·rw[e];simp only[rT];exact af4 f hf h4 aj
  ·rw[e];simp only[rT];exact af4 f hf h5 aj
abbrev Gr:=Int->af (Int ⊕ Int×Int×Int)
inductive Den (G:Gr):Int->BT->Prop
 |leaf {r x:Int} (h:G r=M (.inl x)):Den G r (.leaf x)
 |node {r v a b:Int} {s t:BT} (h:G r=M (.inr (v,a,b))) (ha:Den G a s) (hb:Den G b t):Den G r (.node v s t)
def Den.oU{G:Gr}{r:Int}{t:BT}(h:Den G r t):∀{t':BT},Den G r t'->t=t':=by
 induction h with
 |leaf h=>
  intro t' h';cases h' with
  |leaf h2=>rw[h]at h2;cases h2;rfl
  |node h2=>rw[h]at h2;cases h2
 |node h ha hb ia ib=>
  intro t' h';cases h' with
  |leaf h2=>rw[h]at h2;cases h2
  |node h2 ha' hb'=>
   rw[h]at h2;cases h2;rw[ia ha',ib hb']
def Gr.Inj(G:Gr):Prop:=∀r r' x,G r=M x->G r'=M x->r=r'
def Gr.Le(G H:Gr):Prop:=∀r x,G r=M x->H r=M x
def Den.inj{G:Gr}(hG:G.Inj){r:Int}{t:BT}(h:Den G r t):∀{r':Int},Den G r' t->r=r':=by
 induction h with
 |leaf h=>
  intro r' h';cases h' with
  |leaf h2=>exact hG _ _ _ h h2
 |node h ha hb ia ib=>
  intro r' h';cases h' with
  |node h2 ha' hb'=>
   rw[<-ia ha',<-ib hb']at h2;exact hG _ _ _ h h2
def Den.mono{G H:Gr}(hG:G.Le H){r:Int}{t:BT}(h:Den G r t):Den H r t:=by
 induction h with
 |leaf h=>exact .leaf (hG _ _ h)
 |node h ha hb ia ib=>exact .node (hG _ _ h) ia ib
def Gr.Le.trans{G H K:Gr}(h:G.Le H)(h':H.Le K):G.Le K:=λr x hx=>h' r x (h r x hx)
def Gr.Le.refl{G:Gr}:G.Le G:=λ_ _ h=>h
def bw:BT->aa BT->aa BT
 | .leaf x,l=>if BT.leaf x∈l then l else l++[.leaf x]
 | .node v a b,l=>if BT.node v a b∈bw b (bw a l)then bw b (bw a l)else bw b (bw a l)++[.node v a b]
def q9:∀(t:BT) (l:aa BT),∃m,bw t l=l++m
 | .leaf x,l=>by
  unfold bw;split
  ·simp
  ·simp
 | .node v a b,l=>by
  obtain⟨m1,h1⟩:=q9 a l;obtain⟨m2,h2⟩:=q9 b (bw a l);unfold bw;split
  ·simp_all
  ·simp_all
def cv:∀(t:BT) (l:aa BT),t∈bw t l
 | .leaf x,l=>by
  unfold bw;grind
 | .node v a b,l=>by
  unfold bw;grind
def iR(t:BT)(l:aa BT){u:BT}(h:u∈l):u∈bw t l:=by
 obtain⟨m,hm⟩:=q9 t l;simp_all
def Cl(l:aa BT):Prop:=∀m v a b k,l=m++ .node v a b::k->a∈m/\b∈m
def Cl.snoc{l:aa BT}{t:BT}(h:Cl l)(ht:∀v a b,t= .node v a b->a∈l/\b∈l):Cl (l++[t]):=by
 intro m v a b k e;rcases List.eq_nil_or_concat k with hk|⟨k',x,hk⟩
 ·simp_all
 ·subst hk;rw[List.concat_eq_append,show m++BT.node v a b::(k'++[x])=(m++BT.node v a b::k')++[x]by simp]at e;exact h m v a b k' (List.append_inj' e rfl).1
def Cl.parts{l:aa BT}(h:Cl l){v:Int}{a b:BT}(hm:BT.node v a b∈l):a∈l/\b∈l:=by
 obtain⟨m,k,e⟩:=List.append_of_mem hm;obtain⟨h1,h2⟩:=h m v a b k e;simp_all
def fe:∀(t:BT) {l:aa BT},Cl l->Cl (bw t l)
 | .leaf x,l,h=>by
  unfold bw;split
  ·exact h
  ·exact h.snoc λv a b e=>by cases e
 | .node v a b,l,h=>by
  have h2:=fe b (fe a h);unfold bw;split
  ·exact h2
  ·refine h2.snoc λv' a' b' e=> ?_;cases e;exact⟨iR _ _ (cv _ _),cv _ _⟩
def lQ:∀{t:BT} {l:aa BT},Cl l->t∈l->bw t l=l
 | .leaf x,l,h,ht=>by unfold bw;rw[bO ht]
 | .node v a b,l,h,ht=>by
  obtain⟨ha,hb⟩:=h.parts ht;unfold bw;rw[lQ h ha,lQ h hb,bO ht]
def qC:∀(t:BT) {l:aa BT},l.Nodup->(bw t l).Nodup
 | .leaf x,l,h=>by
  unfold bw;grind
 | .node v a b,l,h=>by
  have h2:=qC b (qC a h);unfold bw;grind
def BT.Sub(u:BT):BT->Prop
 | .leaf x=>u= .leaf x
 | .node v a b=>u= .node v a b\/u.Sub a\/u.Sub b
def gx:∀{t:BT} {l:aa BT} {u:BT},u∈bw t l->u∈l\/u.Sub t
 | .leaf x,l,u,h=>by
  unfold bw at h;split at h
  ·simp_all
  ·rcases zR.1 h with h|h
   ·simp_all
   ·exact .inr (by rw[zA]at h;exact h)
 | .node v a b,l,u,h=>by
  have hr:u∈bw b (bw a l)->u∈l\/u.Sub (.node v a b):=λh=>by
   rcases gx h with h|h
   ·rcases gx h with h|h
    ·simp_all
    ·exact .inr (.inr (.inl h))
   ·exact .inr (.inr (.inr h))
  unfold bw at h;split at h
  ·grind
  ·rcases zR.1 h with h|h
   ·grind
   ·exact .inr (.inl (by rw[zA]at h;exact h))
def BT.Sub.sC{u:BT}:∀{t:BT},u.Sub t->u.sz<=t.sz
 | .leaf x,h=>by rw[h];exact zx _
 | .node v a b,h=>by
  rcases h with h|h|h
  ·simp_all
  ·have:=h.sC;simp only[sz];omega
  ·have:=h.sC;simp only[sz];omega
def BT.Sub.ord{n:Int}{u:BT}:∀{t:BT} {v:Int},u.Sub t->Ord n v t->Ord n v u
 | .leaf x,v,h,ho=>by rw[h];trivial
 | .node w a b,v,h,ho=>by
  rcases h with h|h|h
  ·simp_all
  ·exact(h.ord ho.2.2.2.1).le (by have:=ho.1;omega)
  ·exact(h.ord ho.2.2.2.2).le (by have:=ho.1;omega)
def BT.Sub.all{P:Int->Prop}{u:BT}:∀{t:BT},u.Sub t->t.ji P->u.ji P
 | .leaf x,h,ho=>by rw[h];exact ho
 | .node w a b,h,ho=>by
  rcases h with h|h|h
  ·simp_all
  ·exact h.all ho.1
  ·exact h.all ho.2
def L7{n:Int}:∀{t:BT} {l:aa BT} {v:Int} {d:Nat},Ord n v t->n<=v+d->zZ (bw t l)+1<=zZ l+2^(d+1)/\zZ ((bw t l).filter QA)+1<=zZ (l.filter QA)+2^d/\zZ ((bw t l).filter λu=> !u.QA)<=zZ (l.filter λu=> !u.QA)+2^d
 | .leaf x,l,v,d,_,_=>by
  have h0:0<2^d:=yV aj;unfold bw;split
  ·omega
  ·simp[QA];omega
 | .node w a b,l,v,0,h,hd=>by have:=h.1;have:=h.2.1;omega
 | .node w a b,l,v,d+1,h,hd=>by
  obtain⟨h1,h2,h3,h4,h5⟩:=h;have i1:=L7 (l:=l) (d:=d) h4 aj;have i2:=L7 (l:=bw a l) (d:=d) h5 aj;unfold bw;split
  ·omega
  ·rw[yj,yj,zu,zu,zu,show [BT.node w a b].filter QA=[BT.node w a b]from rfl,show [BT.node w a b].filter (λu=> !u.QA)=[]from rfl,y8,yP];omega
def Gm(L:aa Int)(N:aa bu):Gr:=λr=>if r<0 then J else if r<zZ L then M (.inl L[r.toNat]!)else if r<zZ L+zZ N then M (.inr (N[(r-L.length).toNat]!.bq,N[(r-L.length).toNat]!.aC,N[(r-L.length).toNat]!.au))else J
def alB{L:aa Int}{N:aa bu}{i:Nat}(h:i<zZ L):Gm L N (i:Int)=M (.inl L[i]!):=by
 unfold Gm;rw[nB,Dx,zw]
def VF{L:aa Int}{N:aa bu}{i:Nat}(h:i<zZ N):Gm L N ((zZ L+i:Nat):Int)=M (.inr (N[i]!.bq,N[i]!.aC,N[i]!.au)):=by
 unfold Gm;rw[nB,nB,Dx,show (((zZ L+i:Nat):Int)-(zZ L:Int)).toNat=i by omega]
def num(L:aa Int)(NT:aa BT):BT->Int
 | .leaf x=>(L.idxOf x:Nat)
 | .node v a b=>(zZ L+NT.idxOf (.node v a b):Nat)
def fkT(g:BT->Int):BT->bu
 | .node v a b=>⟨v,g a,g b⟩
 | .leaf _=>⟨0,0,0⟩
def iD(L:aa Int)(NT:aa BT):aa bu:=NT.map (fkT (num L NT))
def YS{α:Type}[DecidableEq α]{x:α}{l:aa α}(h:x∈l)(m:aa α):(l++m).idxOf x=l.idxOf x:=by
 grind
def dU{α:Type}[DecidableEq α][Inhabited α]{x:α}{l:aa α}(h:x∈l):l[l.idxOf x]! =x:=by
 have h':l.idxOf x<zZ l:=yz h;rw[getElem!_pos l _ h'];simp
def Dg{L:aa Int}{NT:aa BT}{u:BT}(h:u.QA=Z->u∈NT)(X:aa BT):num L (NT++X) u=num L NT u:=by
 cases u with
 |leaf x=>rfl
 |node v a b=>simp only[num];rw[YS (h rfl)]
def bN(l:aa BT):aa BT:=l.filter QA
def lC(l:aa BT):aa BT:=l.filter λu=> !u.QA
def dL{l:aa BT}{u:BT}:u∈bN l↔u∈l/\u.QA=Z:=zW
def K9{l:aa BT}{u:BT}:u∈lC l↔u∈l/\u.QA=O:=by unfold lC;rw[zW];simp
def fA(l:aa BT)(v:Int)(a b:BT):bN (l++[.node v a b])=bN l++[.node v a b]:=by unfold bN;rw[yj];rfl
def Gp(l:aa BT)(x:Int):bN (l++[.leaf x])=bN l:=by unfold bN;rw[yj];simp[List.filter,QA]
def vT(l:aa BT)(v:Int)(a b:BT):lC (l++[.node v a b])=lC l:=by unfold lC;rw[yj];simp[List.filter,QA]
def OH(l:aa BT)(x:Int):lC (l++[.leaf x])=lC l++[.leaf x]:=by unfold lC;rw[yj];rfl
def Bh(l m:aa BT):bN (l++m)=bN l++bN m:=yj ..
def vY{L:aa Int}{l:aa BT}{u:BT}(h:u∈l)(t:BT):num L (bN (bw t l)) u=num L (bN l) u:=by
 obtain⟨m,hm⟩:=q9 t l;rw[hm,Bh];exact Dg (λhu=>dL.2 ⟨h,hu⟩) _
def uY{L:aa Int}{l:aa BT}(hc:Cl l){v:Int}{a b:BT}(ha:a∈l)(hb:b∈l):iD L (bN (l++[.node v a b]))=iD L (bN l)++[⟨v,num L (bN l) a,num L (bN l) b⟩]:=by
 have hs:∀u∈l,num L (bN (l++[.node v a b])) u=num L (bN l) u:=λu hu=>by
  rw[Bh];exact Dg (λh=>dL.2 ⟨hu,h⟩) _
 unfold iD;rw[show bN (l++[BT.node v a b])=bN l++[.node v a b]from fA ..]at hs ⊢;rw[zH]
 congr 1
 ·refine zV λu hu=> ?_;obtain⟨h1,h2⟩:=dL.1 hu;cases u with
  |leaf x=>cases h2
  |node w c d=>
   obtain⟨h3,h4⟩:=hc.parts h1;simp only[fkT];rw[hs c h3,hs d h4]
 ·simp only[zI,yx,fkT];rw[hs a ha,hs b hb]
def Lv(L:aa Int)(l:aa BT):Prop:=∀x,BT.leaf x∈l->x∈L
def ale{L:aa Int}{NT:aa BT}{v:Int}{a b:BT}(h:BT.node v a b∈NT):(iD L NT)[NT.idxOf (.node v a b)]! =⟨v,num L NT a,num L NT b⟩:=by
 have h':NT.idxOf (.node v a b)<zZ NT:=yz h;rw[getElem!_pos (iD L NT) _ (by simpa [iD]using h')];simp only[iD,yy];rw[List.getElem_idxOf h'];rfl
def iQ{L:aa Int}{l:aa BT}(hc:Cl l)(hL:Lv L l):∀{u:BT},u∈l->Den (Gm L (iD L (bN l))) (num L (bN l) u) u
 | .leaf x,h=>by
  have hx:=hL x h;have h':L.idxOf x<zZ L:=yz hx;exact .leaf ((alB h').trans (by rw[dU hx]))
 | .node v a b,h=>by
  obtain⟨ha,hb⟩:=hc.parts h;have hn:BT.node v a b∈bN l:=dL.2 ⟨h,rfl⟩;have h':(bN l).idxOf (.node v a b)<zZ (bN l):=yz hn;have hf:zZ (iD L (bN l))=zZ (bN l):=by simp[iD]
  exact .node (a:=num L (bN l) a) (b:=num L (bN l) b) ((VF (by rw[hf];exact h')).trans (by rw[ale hn])) (iQ hc hL ha) (iQ hc hL hb)
def lW{L:aa Int}{l:aa BT}(hc:Cl l)(hL:Lv L l){u u':BT}(h:u∈l)(h':u'∈l)(e:num L (bN l) u=num L (bN l) u'):u=u':=by
 have h1:=iQ hc hL h;rw[e]at h1;exact h1.oU (iQ hc hL h')
def Sn{L:aa Int}{l:aa BT}(hL:Lv L l){u:BT}(h:u∈l):0<=num L (bN l) u/\num L (bN l) u<zZ L+zZ (bN l):=by
 cases u with
 |leaf x=>
  have h':L.idxOf x<zZ L:=yz (hL x h);simp only[num];omega
 |node v a b=>
  have h':(bN l).idxOf (.node v a b)<zZ (bN l):=yz (dL.2 ⟨h,rfl⟩);simp only[num];omega
def vV{L:aa Int}{l:aa BT}(hc:Cl l)(hL:Lv L l){v:Int}{a b:BT}(ha:a∈l)(hb:b∈l):(⟨v,num L (bN l) a,num L (bN l) b⟩:bu)∈iD L (bN l)↔BT.node v a b∈l:=by
 constructor
 ·intro h;obtain⟨u,hu,e⟩:=zC.1 h;obtain⟨h1,h2⟩:=dL.1 hu;cases u with
  |leaf x=>cases h2
  |node w c d=>
   obtain⟨h3,h4⟩:=hc.parts h1;simp only[fkT,bu.mk.injEq]at e;obtain⟨e1,e2,e3⟩:=e;rw[lW hc hL h3 ha e2,lW hc hL h4 hb e3,e1]at h1;exact h1
 ·intro h;exact zC.2 ⟨_,dL.2 ⟨h,rfl⟩,rfl⟩
def sF{α β:Type}[DecidableEq α][DecidableEq β](g:α->β):∀{l:aa α} {x:α},(∀y∈l,g y=g x->y=x)->(l.map g).idxOf (g x)=l.idxOf x
 |[],x,_=>rfl
 |y::l,x,h=>by
  rw[zI,List.idxOf_cons,List.idxOf_cons];by_cases e:y=x
  ·simp_all
  ·have e':g y≠g x:=λe2=>e (h y zm e2);simp only[beq_eq_false_iff_ne.2 e,beq_eq_false_iff_ne.2 e'];rw[sF g λz hz=>h z (zM _ hz)]
def N3{L:aa Int}{l:aa BT}(hc:Cl l)(hL:Lv L l){v:Int}{a b:BT}(h:BT.node v a b∈l):(iD L (bN l)).idxOf ⟨v,num L (bN l) a,num L (bN l) b⟩=(bN l).idxOf (.node v a b):=by
 obtain⟨ha,hb⟩:=hc.parts h;refine sF (fkT (num L (bN l))) (x:=BT.node v a b) λu hu e=> ?_;obtain⟨h1,h2⟩:=dL.1 hu;cases u with
 |leaf x=>cases h2
 |node w c d=>
  obtain⟨h3,h4⟩:=hc.parts h1;simp only[fkT,bu.mk.injEq]at e;obtain⟨e1,e2,e3⟩:=e;rw[lW hc hL h3 ha e2,lW hc hL h4 hb e3,e1]
def acK{L:aa Int}{l:aa BT}(hc:Cl l)(hL:Lv L l)(hn:l.Nodup):(iD L (bN l)).Nodup:=by
 have hN:(bN l).Nodup:=hn.sublist wM;unfold iD;rw[x9,List.pairwise_map];refine(List.Pairwise.imp_of_mem ?_ hN);intro u u' hu hu' hne e;obtain⟨h1,h2⟩:=dL.1 hu;obtain⟨h1',h2'⟩:=dL.1 hu';cases u with
 |leaf x=>cases h2
 |node w c d=>
  cases u' with
  |leaf x=>cases h2'
  |node w' c' d'=>
   obtain⟨h3,h4⟩:=hc.parts h1;obtain⟨h3',h4'⟩:=hc.parts h1';simp only[fkT,bu.mk.injEq]at e;obtain⟨e1,e2,e3⟩:=e;exact hne (by rw[lW hc hL h3 h3' e2,lW hc hL h4 h4' e3,e1])
def abh{L:aa Int}{l:aa BT}(hc:Cl l){v:Int}{a b:BT}(hL:Lv L (bw b (bw a l))):(num L (bN (bw a l)) a=num L (bN (bw b (bw a l))) b↔a=b)/\(a=b->bw (lS v a b) l=bw b (bw a l)):=by
 have hc1:=fe a hc;have hc2:=fe b hc1;have ha:a∈bw b (bw a l):=iR _ _ (cv _ _);refine⟨?_,λe=> ?_⟩
 ·rw[<-vY (cv a l) b];exact⟨λe=>lW hc2 hL ha (cv _ _) e,λe=>by rw[e]⟩
 ·subst e;rw[lQ hc1 (cv _ _)];simp[lS]
def kr{K V:Type}[DecidableEq K](x:K):ei ([]:aa (K×V)) x=J:=rfl
def eG{K V:Type}[DecidableEq K](l:aa (K×V))(x:K)(v:V)(y:K):ei (gB l x v) y=if y=x then M v else ei l y:=by
 unfold ei gB;grind
structure BO (β:Type) (P:Int->Prop) where
 I:β->Prop
 g:β->Gr
 s:β->Nat
 lf:Int->β->Option (Int×β)
 nd:Int->Int->Int->β->Option (Int×β)
 su:∀x b,P x->I b->s b<1000000000->∃r b',lf x b=M (r,b')/\I b'/\(g b).Le (g b')/\Den (g b') r (.leaf x)/\s b'<=s b+1
 mH:∀v p q s' t b,I b->s b<1000000000->Den (g b) p s'->Den (g b) q t->∃r b',nd v p q b=M (r,b')/\I b'/\(g b).Le (g b')/\Den (g b') r (lS v s' t)/\s b'<=s b+1
def MI{β:Type}{P:Int->Prop}(o:BO β P)(G0 G1 G2:Gr)(n:Int)(f:Int->Int->Int->Int)(m:cR)(b:β):Prop:=∀r0 r1 r2 q,ei m (r0,r1,r2)=M q->∃t0 t1 t2 t d,Den G0 r0 t0/\Den G1 r1 t1/\Den G2 r2 t2/\AP n f d t0 t1 t2 t/\Den (o.g b) q t
structure WK {β:Type} {P:Int->Prop} (o:BO β P) (G0 G1 G2:Gr) (n:Int) (f:Int->Int->Int->Int) (W:Nat->Int->Int->Int->cR->β->Option (Int×cR×β)):Prop where
 hit:∀k r0 r1 r2 m b q,ei m (r0,r1,r2)=M q->W (k+1) r0 r1 r2 m b=M (q,m,b)
 leaf:∀k r0 r1 r2 m b x0 x1 x2 r b',ei m (r0,r1,r2)=J->Den G0 r0 (.leaf x0)->Den G1 r1 (.leaf x1)->Den G2 r2 (.leaf x2)->o.lf (f x0 x1 x2) b=M (r,b')->W (k+1) r0 r1 r2 m b=M (r,gB m (r0,r1,r2) r,b')
 node:∀r0 r1 r2 m b t0 t1 t2 v,ei m (r0,r1,r2)=J->Den G0 r0 t0->Den G1 r1 t1->Den G2 r2 t2->v=min (t0.top n) (min (t1.top n) (t2.top n))->v<n->∃l0 l1 l2 h0 h1 h2,Den G0 l0 (t0.rT v O)/\Den G1 l1 (t1.rT v O)/\Den G2 l2 (t2.rT v O)/\Den G0 h0 (t0.rT v Z)/\Den G1 h1 (t1.rT v Z)/\Den G2 h2 (t2.rT v Z)/\∀k q1 m1 b1 q2 m2 b2 q b3,W k l0 l1 l2 m b=M (q1,m1,b1)->W k h0 h1 h2 m1 b1=M (q2,m2,b2)->o.nd v q1 q2 b2=M (q,b3)->W (k+1) r0 r1 r2 m b=M (q,gB m2 (r0,r1,r2) q,b3)
def MI.le{β:Type}{P:Int->Prop}{o:BO β P}{G0 G1 G2:Gr}{n:Int}{f:Int->Int->Int->Int}{m:cR}{b b':β}(h:MI o G0 G1 G2 n f m b)(hl:(o.g b).Le (o.g b')):MI o G0 G1 G2 n f m b':=λr0 r1 r2 q hq=>by
 obtain⟨t0,t1,t2,t,d,h0,h1,h2,h3,h4⟩:=h r0 r1 r2 q hq;exact⟨t0,t1,t2,t,d,h0,h1,h2,h3,h4.mono hl⟩
def MI.put{β:Type}{P:Int->Prop}{o:BO β P}{G0 G1 G2:Gr}{n:Int}{f:Int->Int->Int->Int}{m:cR}{b:β}(h:MI o G0 G1 G2 n f m b){r0 r1 r2 q:Int}{t0 t1 t2 t:BT}{d:Nat}(h0:Den G0 r0 t0)(h1:Den G1 r1 t1)(h2:Den G2 r2 t2)(h3:AP n f d t0 t1 t2 t)(h4:Den (o.g b) q t):MI o G0 G1 G2 n f (gB m (r0,r1,r2) q) b:=λs0 s1 s2 p hp=>by
 rw[eG]at hp;split at hp
 ·rename_i e;cases e;cases hp;exact⟨t0,t1,t2,t,d,h0,h1,h2,h3,h4⟩
 ·exact h _ _ _ _ hp
def Mi{P:Int->Prop}{v:Int}{a b:BT}(h:(lS v a b).ji P):a.ji P/\b.ji P:=by
 unfold lS at h;split at h
 ·simp_all
 ·exact h
def WG{β:Type}{P:Int->Prop}{o:BO β P}{G0 G1 G2:Gr}{n:Int}{f:Int->Int->Int->Int}{W:Nat->Int->Int->Int->cR->β->af (Int×cR×β)}(hW:WK o G0 G1 G2 n f W){d:Nat}{t0 t1 t2 t:BT}(hA:AP n f d t0 t1 t2 t):∀(r0 r1 r2:Int) (m:cR) (b:β),Den G0 r0 t0->Den G1 r1 t1->Den G2 r2 t2->o.I b->MI o G0 G1 G2 n f m b->o.s b+2^(d+1)<=1000000000->t.ji P->∃q m' b',(∀k,d<k->W k r0 r1 r2 m b=M (q,m',b'))/\o.I b'/\MI o G0 G1 G2 n f m' b'/\(o.g b).Le (o.g b')/\Den (o.g b') q t/\o.s b'+1<=o.s b+2^(d+1):=by
 have hhit:∀{d:Nat} {t0 t1 t2 t:BT},AP n f d t0 t1 t2 t->∀(r0 r1 r2:Int) (m:cR) (b:β),Den G0 r0 t0->Den G1 r1 t1->Den G2 r2 t2->o.I b->MI o G0 G1 G2 n f m b->ei m (r0,r1,r2)≠J->∃q m' b',(∀k,d<k->W k r0 r1 r2 m b=M (q,m',b'))/\o.I b'/\MI o G0 G1 G2 n f m' b'/\(o.g b).Le (o.g b')/\Den (o.g b') q t/\o.s b'+1<=o.s b+2^(d+1):=by
  intro d t0 t1 t2 t hA r0 r1 r2 m b h0 h1 h2 hI hM hm;cases e:ei m (r0,r1,r2)with
  |none=>exact iy e hm
  |some q=>
   obtain⟨u0,u1,u2,u,d',e0,e1,e2,e3,e4⟩:=hM _ _ _ _ e;rw[<-h0.oU e0,<-h1.oU e1,<-h2.oU e2]at e3;rw[<-hA.oU e3]at e4;refine⟨q,m,b,λk hk=> ?_,hI,hM, .refl,e4,?_⟩
   ·obtain⟨k,rfl⟩:∃j,k=j+1:=⟨k-1,aj⟩;exact hW.hit k r0 r1 r2 m b q e
   ·have:0<2^(d+1):=yV aj;omega
 induction hA with
 |@leaf d x y z=>
  intro r0 r1 r2 m b h0 h1 h2 hI hM hs hP;by_cases hm:ei m (r0,r1,r2)=J
  ·have hp:0<2^d:=yV aj;obtain⟨r,b',e,i',l',d',s'⟩:=o.su (f x y z) b hP hI aj;refine⟨r,_,b',λk hk=> ?_,i',(hM.le l').put h0 h1 h2 (.leaf (d:=d) x y z) d',l',d',aj⟩;obtain⟨k,rfl⟩:∃j,k=j+1:=⟨k-1,aj⟩;exact hW.leaf k r0 r1 r2 m b x y z r b' hm h0 h1 h2 e
  ·exact hhit (.leaf x y z) r0 r1 r2 m b h0 h1 h2 hI hM hm
 |@node d a b' c r s v hv hn a0 a1 i0 i1=>
  intro r0 r1 r2 m b h0 h1 h2 hI hM hs hP;by_cases hm:ei m (r0,r1,r2)=J
  ·obtain⟨l0,l1,l2,k0,k1,k2,e0,e1,e2,e3,e4,e5,hw⟩:=hW.node r0 r1 r2 m b _ _ _ v hm h0 h1 h2 hv hn;have hp:0<2^(d+1):=yV aj;obtain⟨P0,P1⟩:=Mi hP;obtain⟨q1,m1,b1,w1,I1,M1,L1,D1,S1⟩:=i0 l0 l1 l2 m b e0 e1 e2 hI hM aj P0;obtain⟨q2,m2,b2,w2,I2,M2,L2,D2,S2⟩:=i1 k0 k1 k2 m1 b1 e3 e4 e5 I1 M1 aj P1;obtain⟨q,b3,w3,I3,L3,D3,S3⟩:=o.mH v q1 q2 _ _ b2 I2 aj (D1.mono L2) D2;refine⟨q,_,b3,λk hk=> ?_,I3,(M2.le L3).put h0 h1 h2 (.node v hv hn a0 a1) D3,(L1.trans L2).trans L3,D3,aj⟩;obtain⟨k,rfl⟩:∃j,k=j+1:=⟨k-1,aj⟩;exact hw k q1 m1 b1 q2 m2 b2 q b3 (w1 k aj) (w2 k aj) w3
  ·exact hhit (.node v hv hn a0 a1) r0 r1 r2 m b h0 h1 h2 hI hM hm
def F8:∀(t:BT) {l l':aa BT},bN l=bN l'->bN (bw t l)=bN (bw t l')
 | .leaf x,l,l',h=>by
  have e:∀l,bN (bw (.leaf x) l)=bN l:=λl=>by
   unfold bw;split
   ·rfl
   ·exact Gp ..
  simp_all
 | .node v a b,l,l',h=>by
  have h2:=F8 b (F8 a h);have hm:BT.node v a b∈bw b (bw a l)↔BT.node v a b∈bw b (bw a l'):=
   ⟨λhx=>(dL.1 (h2▸dL.2 ⟨hx,rfl⟩)).1,λhx=>(dL.1 (h2.symm▸dL.2 ⟨hx,rfl⟩)).1⟩
  unfold bw;by_cases hx:BT.node v a b∈bw b (bw a l)
  ·simp_all
  ·rw[bP hx,bP λh=>hx (hm.2 h),fA,fA,h2]
def ahk{L:aa Int}{t:BT}{l:aa BT}(ht:t.ji (· ∈L))(hl:Lv L l):Lv L (bw t l):=λx hx=>by
 rcases gx hx with h|h
 ·exact hl x h
 ·exact h.all ht
structure YK (G:Gr) (Y:Nat->Int->ga->List bu->Option (Int×ga×List bu)):Prop where
 hit:∀k r S N q,ei S r=M q->Y (k+1) r S N=M (q,S,N)
 node:∀k r S N v a b q1 S1 N1 q2 S2 N2,ei S r=J->G r=M (.inr (v,a,b))->Y k a S N=M (q1,S1,N1)->Y k b S1 N1=M (q2,S2,N2)->zZ N2<1000000000->Y (k+1) r S N=M (((2+zZ N2:Nat):Int),gB S2 r ((2+zZ N2:Nat):Int),N2++[⟨v,q1,q2⟩])
def SI(G:Gr)(l:aa BT)(S:ga):Prop:=∀r u,Den G r u->ei S r=if u∈l then M (num [0,1] (bN l) u)else J
def gT(L:aa Int)(NT:aa BT):zZ (iD L NT)=zZ NT:=zF ..
def MG(t:BT)(l:aa BT):zZ (bN l)<=zZ (bN (bw t l)):=by
 obtain⟨m,hm⟩:=q9 t l;rw[hm,Bh,zu];omega
def ave{G:Gr}(hG:G.Inj){Y:Nat->Int->ga->aa bu->af (Int×ga×aa bu)}(hY:YK G Y):∀{t:BT} {r:Int},Den G r t->∀{l:aa BT} {S:ga},Cl l->Lv [0,1] (bw t l)->BT.leaf 0∈l->BT.leaf 1∈l->SI G l S->zZ (bN (bw t l))<=1000000000->∃S',SI G (bw t l) S'/\∀k,t.sz<=k->Y k r S (iD [0,1] (bN l))=M (num [0,1] (bN (bw t l)) t,S',iD [0,1] (bN (bw t l))):=by
 have hhit:∀{t:BT} {r:Int},Den G r t->∀{l:aa BT} {S:ga},Cl l->SI G l S->t∈l->∃S',SI G (bw t l) S'/\∀k,t.sz<=k->Y k r S (iD [0,1] (bN l))=M (num [0,1] (bN (bw t l)) t,S',iD [0,1] (bN (bw t l))):=by
  intro t r hd l S hc hS ht;rw[lQ hc ht];refine⟨S,hS,λk hk=> ?_⟩;obtain⟨k,rfl⟩:∃j,k=j+1:=⟨k-1,by cases t<;>simp only[sz]at hk<;>omega⟩;exact hY.hit k r S _ _ (by rw[hS r t hd,bO ht])
 intro t;induction t with
 |leaf x=>
  intro r hd l S hc hL z0 z1 hS _;refine hhit hd hc hS ?_;have:=hL x (cv _ _);grind
 |node v a b ia ib=>
  intro r hd l S hc hL z0 z1 hS hn;by_cases ht:BT.node v a b∈l
  ·simp_all
  ·cases hd with
   |@node _ _ p q _ _ hr hp hq=>
    have hd':Den G r (.node v a b):= .node hr hp hq;have hsub:∀u∈bw b (bw a l),u∈bw (.node v a b) l:=λu hu=>by
     unfold bw;grind
    have hnin:BT.node v a b∉bw b (bw a l):=λhx=>by
     rcases gx hx with hx|hx
     ·rcases gx hx with hx|hx
      ·grind
      ·have:=hx.sC;simp only[sz]at this;omega
     ·have:=hx.sC;simp only[sz]at this;omega
    have hde:bw (.node v a b) l=bw b (bw a l)++[.node v a b]:=by
     conv=>lhs;unfold bw
     rw[bP hnin]
    have hnl:zZ (bN (bw (.node v a b) l))=zZ (bN (bw b (bw a l)))+1:=by
     rw[hde,fA,zu];rfl
    have hc1:=fe a hc;have hc2:=fe b hc1;have p1:=MG b (bw a l);obtain⟨S1,hS1,w1⟩:=ia hp hc (λx hx=>hL x (hsub _ (iR _ _ hx))) z0 z1 hS aj;obtain⟨S2,hS2,w2⟩:=ib hq hc1 (λx hx=>hL x (hsub _ hx)) (iR _ _ z0) (iR _ _ z1) hS1 aj;have ha2:a∈bw b (bw a l):=iR _ _ (cv _ _);have hb2:b∈bw b (bw a l):=cv _ _;have hnum:num [0,1] (bN (bw (.node v a b) l)) (.node v a b)=((2+zZ (iD [0,1] (bN (bw b (bw a l)))):Nat):Int):=by
     rw[hde,fA,gT];simp only[num];rw[wB,bP λh=>hnin (dL.1 h).1,wY];simp
    refine⟨gB S2 r ((2+zZ (iD [0,1] (bN (bw b (bw a l)))):Nat):Int),?_,λk hk=> ?_⟩
    ·intro r' u hu;rw[eG];by_cases e:r'=r
     ·subst e;have:=hu.oU hd';subst this;rw[bO rfl,bO (cv _ _),hnum]
     ·have hne:u≠ .node v a b:=λe2=>e (by subst e2;exact hu.inj hG hd');rw[bP e,hS2 r' u hu,hde];by_cases hm:u∈bw b (bw a l)
      ·rw[bO hm,bO (ye _ hm),Bh,Dg λh=>dL.2 ⟨hm,h⟩]
      ·rw[bP hm,bP];intro h;rcases zR.1 h with h|h
       ·exact hm h
       ·exact hne (zA.1 h)
    ·obtain⟨k,rfl⟩:∃j,k=j+1:=⟨k-1,by simp only[sz]at hk;omega⟩;simp only[sz]at hk;have hnone:ei S r=J:=by rw[hS r _ hd',bP ht]
     rw[hY.node k r S _ v p q _ _ _ _ _ _ hnone hr (w1 k aj) (w2 k aj) (by rw[gT];omega),hnum,hde,uY hc2 ha2 hb2,vY (cv a l) b]
open Classical in
def rf(G:Gr)(u:BT):Int:=if h:∃r,Den G r u then h.choose else 0
def qe{G:Gr}(hG:G.Inj){r:Int}{u:BT}(h:Den G r u):rf G u=r:=by
 unfold rf;have hx:∃r,Den G r u:=⟨r,h⟩;rw[dif_pos hx];exact hx.choose_spec.inj hG h
structure OK1 (G:Gr) (zc:Nat->Int->List (Int×Bool)->List Int->List Int->Option (List (Int×Bool)×List Int×List Int)):Prop where
 hit:∀k r S lv nd,(ei S r).getD O=Z->zc (k+1) r S lv nd=M (S,lv,nd)
 leaf:∀k r S lv nd x,(ei S r).getD O=O->G r=M (.inl x)->zZ lv<1000000000->zc (k+1) r S lv nd=M (gB S r Z,lv++[r/2],nd)
 node:∀k r S lv nd v a b S1 lv1 nd1 S2 lv2 nd2,(ei S r).getD O=O->G r=M (.inr (v,a,b))->zc k a (gB S r Z) lv nd=M (S1,lv1,nd1)->zc k b S1 lv1 nd1=M (S2,lv2,nd2)->zZ nd2<1000000000->zc (k+1) r S lv nd=M (S2,lv2,nd2++[r/2])
def SO(G:Gr)(l P:aa BT)(S:aa (Int×Bool)):Prop:=∀r u,Den G r u->((ei S r).getD O=Z↔u∈l\/u∈P)
def ixs(G:Gr)(l:aa BT):aa Int:=l.map λu=>rf G u/2
def LX(G:Gr)(l m:aa BT):ixs G (l++m)=ixs G l++ixs G m:=zH ..
def iz(G:Gr)(l:aa BT):zZ (ixs G l)=zZ l:=zF ..
def at0(l m:aa BT):lC (l++m)=lC l++lC m:=yj ..
def ag8(t:BT)(l:aa BT):zZ (lC l)<=zZ (lC (bw t l)):=by
 obtain⟨m,hm⟩:=q9 t l;rw[hm,at0,zu];omega
def atu{G:Gr}(hG:G.Inj){zc:Nat->Int->aa (Int×Bool)->aa Int->aa Int->af (aa (Int×Bool)×aa Int×aa Int)}(hO:OK1 G zc):∀{t:BT} {r:Int},Den G r t->∀{l P:aa BT} {S:aa (Int×Bool)},Cl l->(∀u∈P,t.sz<u.sz)->SO G l P S->zZ (bN (bw t l))<=1000000000->zZ (lC (bw t l))<=1000000000->∃S',SO G (bw t l) P S'/\∀k,t.sz<=k->zc k r S (ixs G (lC l)) (ixs G (bN l))=M (S',ixs G (lC (bw t l)),ixs G (bN (bw t l))):=by
 have hhit:∀{t:BT} {r:Int},Den G r t->∀{l P:aa BT} {S:aa (Int×Bool)},Cl l->SO G l P S->t∈l->∃S',SO G (bw t l) P S'/\∀k,t.sz<=k->zc k r S (ixs G (lC l)) (ixs G (bN l))=M (S',ixs G (lC (bw t l)),ixs G (bN (bw t l))):=by
  intro t r hd l P S hc hS ht;rw[lQ hc ht];refine⟨S,hS,λk hk=> ?_⟩;obtain⟨k,rfl⟩:∃j,k=j+1:=⟨k-1,by cases t<;>simp only[sz]at hk<;>omega⟩;exact hO.hit k r S _ _ ((hS r t hd).2 (.inl ht))
 have hfalse:∀{t:BT} {r:Int},Den G r t->∀{l P:aa BT} {S:aa (Int×Bool)},(∀u∈P,t.sz<u.sz)->SO G l P S->t∉l->(ei S r).getD O=O:=by
  intro t r hd l P S hP hS ht;cases e:(ei S r).getD false with
  |false=>rfl
  |true=>
   rcases (hS r t hd).1 e with h|h
   ·exact iy h ht
   ·have:=hP t h;omega
 intro t;induction t with
 |leaf x=>
  intro r hd l P S hc hP hS hn hl;by_cases ht:BT.leaf x∈l
  ·simp_all
  ·have hde:bw (.leaf x) l=l++[.leaf x]:=by unfold bw;rw[bP ht]
   have hf:=hfalse hd hP hS ht;have hrf:=qe hG hd;rw[hde]at hl ⊢;rw[OH,zu]at hl;refine⟨gB S r Z,?_,λk hk=> ?_⟩
   ·intro r' u hu;rw[eG];by_cases e:r'=r
    ·subst e;have:=hu.oU hd;subst this;simp
    ·have hne:u≠ .leaf x:=λe2=>e (by subst e2;exact hu.inj hG hd);rw[bP e,hS r' u hu];simp[hne]
   ·obtain⟨k,rfl⟩:∃j,k=j+1:=⟨k-1,by simp only[sz]at hk;omega⟩;cases hd with
    |leaf h=>
     rw[hO.leaf k r S _ _ x hf h (by rw[iz];simp at hl;omega),OH,Gp,LX];simp[ixs,hrf]
 |node v a b ia ib=>
  intro r hd l P S hc hP hS hn hl;by_cases ht:BT.node v a b∈l
  ·simp_all
  ·have hf:=hfalse hd hP hS ht;have hrf:=qe hG hd;cases hd with
   |@node _ _ p q _ _ hr hp hq=>
    have hd':Den G r (.node v a b):= .node hr hp hq;have hnin:BT.node v a b∉bw b (bw a l):=λhx=>by
     rcases gx hx with hx|hx
     ·rcases gx hx with hx|hx
      ·grind
      ·have:=hx.sC;simp only[sz]at this;omega
     ·have:=hx.sC;simp only[sz]at this;omega
    have hde:bw (.node v a b) l=bw b (bw a l)++[.node v a b]:=by
     conv=>lhs;unfold bw
     rw[bP hnin]
    have hnl:zZ (bN (bw (.node v a b) l))=zZ (bN (bw b (bw a l)))+1:=by
     rw[hde,fA,zu];rfl
    have hll:zZ (lC (bw (.node v a b) l))=zZ (lC (bw b (bw a l))):=by
     rw[hde,vT]
    have hc1:=fe a hc;have p1:=MG b (bw a l);have p2:=ag8 b (bw a l);have hS0:SO G l (.node v a b::P) (gB S r Z):=by
     intro r' u hu;rw[eG];by_cases e:r'=r
     ·subst e;have:=hu.oU hd';subst this;simp
     ·have hne:u≠ .node v a b:=λe2=>e (by subst e2;exact hu.inj hG hd');rw[bP e,hS r' u hu];simp[hne]
    obtain⟨S1,hS1,w1⟩:=ia hp hc (P:= .node v a b::P) (λu hu=>by
     rcases zk.1 hu with h|h
     ·rw[h];simp only[sz];omega
     ·have:=hP u h;simp only[sz]at this;omega) hS0 aj aj
    obtain⟨S2,hS2,w2⟩:=ib hq hc1 (P:= .node v a b::P) (λu hu=>by
     rcases zk.1 hu with h|h
     ·rw[h];simp only[sz];omega
     ·have:=hP u h;simp only[sz]at this;omega) hS1 aj aj
    refine⟨S2,?_,λk hk=> ?_⟩
    ·intro r' u hu;rw[hS2 r' u hu,hde];simp only[zk,zR,yD,or_false,or_assoc]
    ·obtain⟨k,rfl⟩:∃j,k=j+1:=⟨k-1,by simp only[sz]at hk;omega⟩;simp only[sz]at hk;rw[hO.node k r S _ _ v p q _ _ _ _ _ _ hf hr (w1 k aj) (w2 k aj) (by rw[iz];omega),hde,vT,fA,LX];simp[ixs,hrf]
def tt:Nat->Int->aa Int->BT
 |0,_,l=> .leaf l[0]!
 |k+1,v,l=>lS v (tt k (v+1) (l.take (2^k))) (tt k (v+1) (l.drop (2^k)))
def nL:aa Bool->Nat
 |[]=>0
 |b::e=>(if b then 2^e.length else 0)+nL e
def tV:∀e:aa Bool,nL e<2^e.length
 |[]=>by simp[nL]
 |b::e=>by
  have:=tV e;simp only[nL,ya];split<;>omega
def ahJ:∀{k:Nat} {v:Int} {l:aa Int},zZ l=2^k->tt k v l=tf k v λe=>l[nL e]!
 |0,v,l,h=>by simp[tt,tf,nL]
 |k+1,v,l,h=>by
  simp only[tt];rw[ahJ (k:=k) (by rw[zL];omega),ahJ (k:=k) (by rw[zX];omega)]
  congr 1
  ·refine lE λe he=> ?_;have:=tV e;rw[he]at this;simp only[nL,xz,AE,zY];rw[getElem!_pos (l.take (2^k)) _ (by rw[zL];omega),getElem!_pos l _ aj,xo]
  ·refine lE λe he=> ?_;simp only[nL,he];simp
structure NK (L:List Int) (Q:Nat->List Int->List bu->Int->Option (Int×List bu)):Prop where
 one:∀k x N v,x∈L->Q (k+1) [x] N v=M (((L.idxOf x:Nat):Int),N)
 two:∀k l N v q1 N1 q2 N2,0<=v->v<=1000000->2<=zZ l->zZ l<1000000000->Q k (l.take (zZ l/2)) N (v+1)=M (q1,N1)->Q k (l.drop (zZ l/2)) N1 (v+1)=M (q2,N2)->zZ N2<1000000000->Q (k+1) l N v=M (if q1=q2 then(q1,N2)else if(⟨v,q1,q2⟩:bu)∈N2 then(((zZ L+N2.idxOf ⟨v,q1,q2⟩:Nat):Int),N2)else(((zZ L+zZ N2:Nat):Int),N2++[⟨v,q1,q2⟩]))
def mH{L:aa Int}{Q:Nat->aa Int->aa bu->Int->af (Int×aa bu)}(hQ:NK L Q):∀{k:Nat} {v:Int} {l:aa Int} {acc:aa BT},zZ l=2^k->2^k<=4096->0<=v->v+k<=1000000->Cl acc->(∀x∈l,x∈L)->Lv L acc->zZ (bN acc)+2^k<=1000000000->zZ (bN (bw (tt k v l) acc))+1<=zZ (bN acc)+2^k/\Lv L (bw (tt k v l) acc)/\∀f,k<f->Q f l (iD L (bN acc)) v=M (num L (bN (bw (tt k v l) acc)) (tt k v l),iD L (bN (bw (tt k v l) acc)))
 |0,v,l,acc,hl,hk,hv,hv2,hc,hL,hA,hs=>by
  obtain⟨x,rfl⟩:∃x,l=[x]:=List.length_eq_one_iff.1 hl;have e:bN (bw (.leaf x) acc)=bN acc:=by
   unfold bw;split
   ·rfl
   ·exact Gp ..
  simp only[tt,xS];refine⟨by rw[e];simp,ahk (hL x (by simp)) hA,λf hf=> ?_⟩;obtain⟨f,rfl⟩:∃j,f=j+1:=⟨f-1,aj⟩;rw[hQ.one f x _ v (hL x (by simp)),e];rfl
 |k+1,v,l,acc,hl,hk,hv,hv2,hc,hL,hA,hs=>by
  have h2:2^(k+1)=2*2^k:=by rw[Nat.pow_succ];omega
  have hp:0<2^k:=yV aj;obtain⟨n1,L1,w1⟩:=mH hQ (k:=k) (v:=v+1) (l:=l.take (2^k)) (acc:=acc) (by rw[zL];omega) aj aj aj hc (λx hx=>hL x (List.mem_of_mem_take hx)) hA aj;have hc1:=fe (tt k (v+1) (l.take (2^k))) hc;obtain⟨n2,L2,w2⟩:=mH hQ (k:=k) (v:=v+1) (l:=l.drop (2^k)) (acc:=bw (tt k (v+1) (l.take (2^k))) acc) (by rw[zX];omega) aj aj aj hc1 (λx hx=>hL x (wG hx)) L1 aj;simp only[tt];generalize ha:tt k (v+1) (l.take (2^k))=a at*;generalize hb:tt k (v+1) (l.drop (2^k))=b at*;have hc2:=fe b hc1;have ha2:a∈bw b (bw a acc):=iR _ _ (cv _ _);have hb2:b∈bw b (bw a acc):=cv _ _;obtain⟨s1,s2⟩:=abh hc (v:=v) L2;have hgo:∀f,k+1<f->Q f l (iD L (bN acc)) v=M (if num L (bN (bw a acc)) a=num L (bN (bw b (bw a acc))) b then(num L (bN (bw a acc)) a,iD L (bN (bw b (bw a acc))))else if(⟨v,num L (bN (bw a acc)) a,num L (bN (bw b (bw a acc))) b⟩:bu)∈iD L (bN (bw b (bw a acc)))then(((zZ L+(iD L (bN (bw b (bw a acc)))).idxOf ⟨v,num L (bN (bw a acc)) a,num L (bN (bw b (bw a acc))) b⟩:Nat):Int),iD L (bN (bw b (bw a acc))))else(((zZ L+zZ (iD L (bN (bw b (bw a acc)))):Nat):Int),iD L (bN (bw b (bw a acc)))++[⟨v,num L (bN (bw a acc)) a,num L (bN (bw b (bw a acc))) b⟩])):=λf hf=>by
   obtain⟨f,rfl⟩:∃j,f=j+1:=⟨f-1,aj⟩;have hh:zZ l/2=2^k:=aj;exact hQ.two f l _ v _ _ _ _ hv aj aj aj (by rw[hh];exact w1 f aj) (by rw[hh];exact w2 f aj) (by rw[gT];omega)
  by_cases e:a=b
  ·have hd:=s2 e;have hm:lS v a b=a:=by rw[e];simp[lS]
   have hd1:bw b (bw a acc)=bw a acc:=by rw[<-e];exact lQ hc1 (cv _ _)
   rw[hd];refine⟨aj,L2,λf hf=> ?_⟩;simp_all
  ·have hm:lS v a b= .node v a b:=by simp[lS,e]
   have hne:¬num L (bN (bw a acc)) a=num L (bN (bw b (bw a acc))) b:=λh=>e (s1.1 h);rw[hm];have hna:num L (bN (bw a acc)) a=num L (bN (bw b (bw a acc))) a:=(vY (cv a acc) b).symm;by_cases hi:BT.node v a b∈bw b (bw a acc)
   ·have hd:bw (.node v a b) acc=bw b (bw a acc):=by
     conv=>lhs;unfold bw
     rw[bO hi]
    rw[hd];refine⟨aj,L2,λf hf=> ?_⟩;rw[hgo f hf,bP hne,hna,bO ((vV hc2 L2 ha2 hb2).2 hi),N3 hc2 L2 hi];rfl
   ·have hd:bw (.node v a b) acc=bw b (bw a acc)++[.node v a b]:=by
     conv=>lhs;unfold bw
     rw[bP hi]
    rw[hd];refine⟨by rw[fA,zu];simp only[y8];omega,λx hx=> ?_,λf hf=> ?_⟩
    ·rcases zR.1 hx with h|h
     ·exact L2 x h
     ·simp at h
    ·rw[hgo f hf,bP hne,hna,bP λh=>hi ((vV hc2 L2 ha2 hb2).1 h),uY hc2 ha2 hb2]
     congr 2
     rw[fA,gT];simp only[num];rw[wB,bP λh=>hi (dL.1 h).1,wY];omega
def Asc(l:aa Int):Prop:=l.Pairwise (· < ·)
def Us:∀{l m:aa Int},Asc l->Asc m->(∀x,x∈l↔x∈m)->l=m
 |[],[],_,_,_=>rfl
 |[],y::m,_,_,h=>iy ((h y).2 zm) (by simp)
 |x::l,[],_,_,h=>iy ((h x).1 zm) (by simp)
 |x::l,y::m,hl,hm,h=>by
  have hl':=wJ.1 hl;have hm':=wJ.1 hm;have e:x=y:=by
   rcases zk.1 ((h x).1 zm)with h1|h1
   ·exact h1
   ·rcases zk.1 ((h y).2 zm)with h2|h2
    ·omega
    ·have:=hl'.1 y h2;have:=hm'.1 x h1;omega
  subst e;rw[Us hl'.2 hm'.2 λz=> ?_];constructor
  ·intro hz;rcases zk.1 ((h z).1 (zM _ hz))with h1|h1
   ·have:=hl'.1 z hz;omega
   ·exact h1
  ·intro hz;rcases zk.1 ((h z).2 (zM _ hz))with h1|h1
   ·have:=hm'.1 z hz;omega
   ·exact h1
structure Bd where
 L:List Int
 N:List bu
 mL:ga
 mN:cR
 w:Bool
def Bd.g(b:Bd):Gr:=λr=>if r<0 then J else if r%2=0 then(b.L[(r/2).toNat]?).map .inl else(b.N[(r/2).toNat]?).map λx=> .inr (x.bq,x.aC,x.au)
def iN{b:Bd}{r x:Int}:b.g r=M (.inl x)↔∃k:Nat,r=2*(k:Int)/\b.L[k]? =M x:=by
 unfold Bd.g;constructor
 ·intro h;split at h
  ·cases h
  split at h
  ·obtain⟨y,h1,h2⟩:=zj.1 h;cases h2;exact⟨(r/2).toNat,aj,h1⟩
  ·simp_all
 ·rintro⟨k,rfl,h⟩;rw[nB,Dx,show ((2*(k:Int))/2).toNat=k by omega,h];rfl
def jF{b:Bd}{r v p q:Int}:b.g r=M (.inr (v,p,q))↔∃k:Nat,r=2*(k:Int)+1/\b.N[k]? =M ⟨v,p,q⟩:=by
 unfold Bd.g;constructor
 ·intro h;split at h
  ·cases h
  split at h
  ·simp_all
  ·obtain⟨y,h1,h2⟩:=zj.1 h;cases h2;exact⟨(r/2).toNat,aj,h1⟩
 ·rintro⟨k,rfl,h⟩;rw[nB,nB,show ((2*(k:Int)+1)/2).toNat=k by omega,h];rfl
structure BI (P:Int->Prop) (b:Bd):Prop where
 l:∀x i,ei b.mL x=M i↔∃k:Nat,i=k/\b.L[k]? =M x
 n:∀v p q i,ei b.mN (v,p,q)=M i↔∃k:Nat,i=k/\b.N[k]? =M ⟨v,p,q⟩
 w:b.w=Z->∃x∈b.L,kH x=O
 P:∀x∈b.L,P x
def BI.inj{P:Int->Prop}{b:Bd}(h:BI P b):b.g.Inj:=by
 intro r r' x h1 h2;cases x with
 |inl x=>
  obtain⟨k,rfl,e⟩:=iN.1 h1;obtain⟨k',rfl,e'⟩:=iN.1 h2;have a:=(h.l x k).2 ⟨k,rfl,e⟩;rw[(h.l x k').2 ⟨k',rfl,e'⟩]at a;simp_all
 |inr x=>
  obtain⟨v,p,q⟩:=x;obtain⟨k,rfl,e⟩:=jF.1 h1;obtain⟨k',rfl,e'⟩:=jF.1 h2;have a:=(h.n v p q k).2 ⟨k,rfl,e⟩;rw[(h.n v p q k').2 ⟨k',rfl,e'⟩]at a;simp only[zJ.injEq]at a;omega
def Bd.lf(x:Int)(b:Bd):af (Int×Bd):=(vp x b.L b.N b.mL b.mN b.w).map λr=>(r.1,⟨r.2.1,r.2.2.1,r.2.2.2.1,r.2.2.2.2.1,r.2.2.2.2.2⟩)
def Bd.nd(v p q:Int)(b:Bd):af (Int×Bd):=(He v p q b.L b.N b.mL b.mN b.w).map λr=>(r.1,⟨r.2.1,r.2.2.1,r.2.2.2.1,r.2.2.2.2.1,r.2.2.2.2.2⟩)
def aqe{b b':Bd}(hL:∀(k:Nat) (x:Int),b.L[k]? =M x->b'.L[k]? =M x)(hN:∀(k:Nat) (x:bu),b.N[k]? =M x->b'.N[k]? =M x):b.g.Le b'.g:=by
 intro r x h;cases x with
 |inl x=>
  obtain⟨k,e,h1⟩:=iN.1 h;exact iN.2 ⟨k,e,hL _ _ h1⟩
 |inr x=>
  obtain⟨k,e,h1⟩:=jF.1 h;exact jF.2 ⟨k,e,hN _ _ h1⟩
def ek{α:Type}{l:aa α}{k:Nat}{x y:α}:(l++[y])[k]? =M x↔l[k]? =M x\/(k=zZ l/\x=y):=by
 grind
def Bd.su{P:Int->Prop}(x:Int)(b:Bd)(hx:P x)(hb:BI P b)(hs:zZ b.L+zZ b.N<1000000000):∃r b',b.lf x=M (r,b')/\BI P b'/\b.g.Le b'.g/\Den b'.g r (.leaf x)/\zZ b'.L+zZ b'.N<=zZ b.L+zZ b.N+1:=by
 unfold Bd.lf vp;cases e:ei b.mL x with
 |some i=>
  obtain⟨k,rfl,hk⟩:=(hb.l x i).1 e;have hkl:k<zZ b.L:=(zU.1 hk).1;simp only[dP,y9,yE];rw[aI];exact⟨_,_,rfl,hb, .refl, .leaf (iN.2 ⟨k,rfl,hk⟩),yc _⟩
 |none=>
  rw[bO (by simp;omega),aI];have hl:∀y i,ei (gB b.mL x (zZ b.L:Int)) y=M i↔∃k:Nat,i=k/\(b.L++[x])[k]? =M y:=by
   intro y i;rw[eG];by_cases hy:y=x
   ·subst hy;rw[bO rfl];constructor
    ·intro h;cases h;exact⟨_,rfl,ek.2 (.inr ⟨rfl,rfl⟩)⟩
    ·rintro⟨k,rfl,h⟩;rcases ek.1 h with h|⟨h,_⟩
     ·have:=(hb.l y k).2 ⟨k,rfl,h⟩;rw[e]at this;cases this
     ·rw[h]
   ·rw[bP hy,hb.l];constructor
    ·rintro⟨k,h1,h2⟩;exact⟨k,h1,ek.2 (.inl h2)⟩
    ·rintro⟨k,h1,h2⟩;rcases ek.1 h2 with h|⟨_,h⟩
     ·exact⟨k,h1,h⟩
     ·omega
  have hP:∀y∈b.L++[x],P y:=λy hy=>by
   rcases zR.1 hy with h|h
   ·exact hb.P y h
   ·simp_all
  have hle:∀w',b.g.Le (Bd.mk (b.L++[x]) b.N (gB b.mL x (zZ b.L)) b.mN w').g:=λw'=>aqe (λk y h=>ek.2 (.inl h)) λk y h=>h;have hd:∀w',Den (Bd.mk (b.L++[x]) b.N (gB b.mL x (zZ b.L)) b.mN w').g (2*(zZ b.L:Int)) (.leaf x):=λw'=> .leaf (iN.2 ⟨_,rfl,ek.2 (.inr ⟨rfl,rfl⟩)⟩);cases hw:b.w with
  |true=>
   refine⟨_,_,rfl,⟨hl,hb.n,λ_=> ?_,hP⟩,hle _,hd _,by simp;omega⟩;obtain⟨y,h1,h2⟩:=hb.w hw;exact⟨y,ye _ h1,h2⟩
  |false=>
   refine⟨_,_,rfl,⟨hl,hb.n,λh=>⟨x,by simp,?_⟩,hP⟩,hle _,hd _,by simp;omega⟩;simp_all
def Bd.mH{P:Int->Prop}(v p q:Int)(s t:BT)(b:Bd)(hb:BI P b)(hs:zZ b.L+zZ b.N<1000000000)(hp:Den b.g p s)(hq:Den b.g q t):∃r b',b.nd v p q=M (r,b')/\BI P b'/\b.g.Le b'.g/\Den b'.g r (lS v s t)/\zZ b'.L+zZ b'.N<=zZ b.L+zZ b.N+1:=by
 unfold Bd.nd He;by_cases hpq:p=q
 ·have:s=t:=by subst hpq;exact hp.oU hq
  rw[l8 hpq];exact⟨p,b,rfl,hb, .refl,by rw[show lS v s t=s by simp[lS,this]];exact hp,yc _⟩
 ·have hst:s≠t:=λh=>hpq (by subst h;exact hp.inj hb.inj hq);have hm:lS v s t= .node v s t:=by simp[lS,hst]
  rw[iU hpq,hm];cases e:ei b.mN (v,p,q)with
  |some i=>
   obtain⟨k,rfl,hk⟩:=(hb.n v p q i).1 e;have hkl:k<zZ b.N:=(zU.1 hk).1;simp only[dP,y9,yE];rw[aI (n:=2*(k:Int)),aI];exact⟨_,_,rfl,hb, .refl, .node (jF.2 ⟨k,rfl,hk⟩) hp hq,yc _⟩
  |none=>
   rw[bO (by simp;omega),aI (n:=2*(zZ b.N:Int)),aI];have hle:b.g.Le (Bd.mk b.L (b.N++[⟨v,p,q⟩]) b.mL (gB b.mN (v,p,q) (zZ b.N)) b.w).g:=aqe (λk y h=>h) λk y h=>ek.2 (.inl h);refine⟨_,_,rfl,⟨hb.l,?_,hb.w,hb.P⟩,hle, .node (jF.2 ⟨_,rfl,ek.2 (.inr ⟨rfl,rfl⟩)⟩) (hp.mono hle) (hq.mono hle),by simp;omega⟩;intro v' p' q' i;rw[eG];by_cases hy:(v',p',q')=(v,p,q)
   ·cases hy;rw[bO rfl];constructor
    ·intro h;cases h;exact⟨_,rfl,ek.2 (.inr ⟨rfl,rfl⟩)⟩
    ·rintro⟨k,rfl,h⟩;rcases ek.1 h with h|⟨h,_⟩
     ·have:=(hb.n v p q k).2 ⟨k,rfl,h⟩;rw[e]at this;cases this
     ·rw[h]
   ·rw[bP hy,hb.n];constructor
    ·rintro⟨k,h1,h2⟩;exact⟨k,h1,ek.2 (.inl h2)⟩
    ·rintro⟨k,h1,h2⟩;rcases ek.1 h2 with h|⟨_,h⟩
     ·exact⟨k,h1,h⟩
     ·simp_all
def boM(P:Int->Prop):BO Bd P where
 I:=BI P
 g:=Bd.g
 s:=λb=>zZ b.L+zZ b.N
 lf:=λx b=>b.lf x
 nd:=λv p q b=>b.nd v p q
 su:=Bd.su
 mH:=λv p q s t b hb hs hp hq=>Bd.mH v p q s t b hb hs hp hq
def adl(P:Int->Prop):BI P ⟨[],[],[],[],O⟩ where
 l:=λx i=>by simp[kr]
 n:=λv p q i=>by simp[kr]
 w:=λh=>by cases h
 P:=λx hx=>by cases hx
def ay.eta(t:ay):ay.mk t.bA t.fN t.ax=t:=by cases t;rfl
def ay.eF{t k:ay}(h:k∈t.ax):zi k<zi t:=by
 cases t;have:=wZ h;simp only[ay.mk.sizeOf_spec];simp only at this;omega
def nT(t:ay):Nat:=1+(t.ax.attach.map λk=>nT k.1).sum
termination_by zi t
decreasing_by exact ay.eF k.2
def kR(l:aa ay):Nat:=(l.map nT).sum
def vO(t:ay):nT t=1+kR t.ax:=by
 rw[nT,kR];simp
def qN(k:ay)(ks:aa ay):kR (k::ks)=nT k+kR ks:=by simp[kR]
def WS{k:ay}{ks:aa ay}(h:k∈ks):nT k<=kR ks:=by
 induction ks with
 |nil=>cases h
 |cons a ks ih=>
  rw[qN];rcases zk.1 h with rfl|h
  ·omega
  ·have:=ih h;omega
def afL(t:ay):0<nT t:=by rw[vO];omega
def tl(t:ay)(left:Int):Int:=if(nT t:Int)<=left then left-nT t else if 0<=left then-1 else left-1
def tls:aa ay->Int->Int
 |[],l=>l
 |k::ks,l=>if 0<=l then tls ks (tl k l)else l
def afw:∀(ks:aa ay) (l:Int),tls ks l=if 0<=l then(if(kR ks:Int)<=l then l-kR ks else-1)else l
 |[],l=>by simp[tls,kR];omega
 |k::ks,l=>by
  have e:=qN k ks;unfold tls;by_cases h:0<=l
  ·rw[bO h,bO h,afw ks,e];unfold tl;grind
  ·omega
def aCF(t:ay)(left:Int):tl t left=tls t.ax (left-1):=by
 rw[afw,tl,vO];grind
def aet(t:ay)(l:Int):(0<=l-> -1<=tl t l/\tl t l<=l-1)/\(l<0->tl t l=l-1):=by
 have:=afL t;unfold tl;grind
def agH(zf:Qz)(t:ay)(hM:∀k∈t.ax,∀l:Int,0<=l->l<=1000->zf k l=M (tl k l)):
  ∀(ks:aa ay) (i:Nat) (l:Int),t.ax.drop i=ks->i+zZ ks=zZ t.ax->l<=1000-i->∃q,VH zf ⟨l,i,t⟩=M q/\q.t1=tls ks l/\q.b0=t/\(q.t5<zZ t.ax->q.t1<0)
 |[],i,l,hd,hl,_=>by
  refine⟨_,cW λr=> ?_,rfl,rfl,λh=> ?_⟩
  ·have:¬((i:Int)<zZ t.ax):=by simp at hl;omega
   simp[VC,IS,this]
  ·simp at hl h;omega
 |k::ks,i,l,hd,hl,h2=>by
  have hil:i<zZ t.ax:=by simp at hl;omega
  have hki:t.ax[i]! =k:=by
   have:t.ax[i]? =M k:=by
    have:=congrArg List.head? hd;rw[List.head?_drop]at this
    assumption
   rw[List.getElem!_eq_getElem?_getD,this];rfl
  have hmem:k∈t.ax:=by rw[<-hki,getElem!_pos t.ax i hil];exact yR hil
  by_cases h0:0<=l
  ·have hd':t.ax.drop (i+1)=ks:=by
    have:=congrArg List.tail hd;rw[List.tail_drop]at this
    assumption
   have b3:=((aet k l).1 h0).2;obtain⟨q,e1,e2,e3,e4⟩:=agH zf t hM ks (i+1) (tl k l) hd' (by simp at hl;omega) aj;refine⟨q,?_,?_,e3,e4⟩
   ·rw[<-e1];refine cT ?_;have hw:ak ((i:Int)+1)=((i+1:Nat):Int):=by rw[aI];omega
    have hk2:t.ax[i]=k:=by rw[<-hki,getElem!_pos t.ax i hil]
    simp[VC,IS,hil,h0,hk2,ay.eta,hM k hmem l h0 aj];exact hw
   ·rw[e2];show _=if 0<=l then _ else _
    omega
  ·refine⟨_,cW λr=> ?_,?_,rfl,λh=> ?_⟩
   ·simp[VC,IS,h0]
   ·show l=if 0<=l then _ else l
    omega
   ·simp only;omega
def atU(zf:Qz)(t:ay)(hM:∀k∈t.ax,∀l:Int,0<=l->l<=1000->zf k l=M (tl k l))(l:Int)(h1: -1000000<=l)(h2:l<=1000):s47 zf t l=M (tl t l):=by
 obtain⟨q,e1,e2,e3,e4⟩:=agH zf t hM t.ax 0 (l-1) rfl (by simp) aj;have hw:ak (l-1)=l-1:=aI;rw[aCF,<-e2];unfold s47 IS;rw[hw,ay.eta,show ((0:Nat):Int)=0 from rfl]at*;rw[e1];obtain⟨q1,q5,qb⟩:=q;subst e3;dsimp only at*;by_cases h5:q5<(zZ qb.ax:Int)
 ·have:=e4 h5;simp[show ¬(0<=q1)by omega]
 ·simp[h5]
def aho:∀(n:Nat) (t:ay) (l:Int),zi t<n-> -1000000<=l->l<=1000->m47 n t l=M (tl t l)
 |0,_,_,h,_,_=>aj
 |n+1,t,l,h,h1,h2=>atU (m47 n) t (λk hk l h3 h4=>aho n k l (by have:=ay.eF hk;omega) aj h4) l h1 h2
def SZ(t:ay)(l:Int)(h1: -1000000<=l)(h2:l<=1000):r47 t l=M (tl t l):=dc (zi t+1) λn hn=>aho n t l aj h1 h2
def aM.then_lt{s k:aM}(h:k∈s.aQ):zi k<zi s:=by
 cases s;have:=wZ h;simp only[aM.mk.sizeOf_spec];simp only at this;omega
def aM.aia{s k:aM}(h:k∈s.aX):zi k<zi s:=by
 cases s;have:=wZ h;simp only[aM.mk.sizeOf_spec];simp only at this;omega
def aM.eta(s:aM):aM.mk s.cu s.aW s.bq s.fN s.aB s.aQ s.aX s.aR=s:=by cases s;rfl
def nS(s:aM):Nat:=1+nT s.aB+zZ s.aR+(s.aQ.attach.map λk=>nS k.1).sum+(s.aX.attach.map λk=>nS k.1).sum
termination_by zi s
decreasing_by
 ·exact aM.then_lt k.2
 ·exact aM.aia k.2
def gF(l:aa aM):Nat:=(l.map nS).sum
def oL(s:aM):nS s=1+nT s.aB+zZ s.aR+gF s.aQ+gF s.aX:=by
 rw[nS,gF,gF];simp
def mP(k:aM)(ks:aa aM):gF (k::ks)=nS k+gF ks:=by simp[gF]
def sl(l:aa aM)(left:Int):Int:=if left<0 then left else if(gF l:Int)<=left then left-gF l else-1
def sy(left:Int)(s:aM):af Int:=if left<0 then J else if tl s.aB (left-1)<zZ s.aR then J else M (sl s.aX (sl s.aQ (tl s.aB (left-1)-s.aR.length)))
def OD{left x:Int}{s:aM}(h:sy left s=M x):0<=left/\ -1<=x/\x<=left-1/\x=if(nS s:Int)<=left then left-nS s else-1:=by
 unfold sy at h;have e:=oL s;unfold tl sl at h;grind
def R8{left:Int}{s:aM}(h:sy left s=J)(h0:0<=left):left<nS s:=by
 unfold sy at h;have e:=oL s;unfold tl at h;grind
def aqS:∀(l:aa aM) (left:Int),j9 sy (λv _=>if v<0 then v else-1) id l left=sl l left
 |[],left=>by unfold sl;simp[gF,j9];omega
 |s::l,left=>by
  have e:=mP s l;unfold j9;cases hs:sy left s with
  |none=>
   have:=R8 hs;unfold sl;grind
  |some x=>
   obtain⟨h1,h2,h3,h4⟩:=OD hs;dsimp only;rw[aqS l x];unfold sl;grind
def axY(zf:aa aM->Int->af E46)(l:aa aM)(hM:∀s∈l,(∀x:Int,-1<=x->x<=1000->zf s.aQ x=M (sl s.aQ x))/\(∀x:Int,-1<=x->x<=1000->zf s.aX x=M (sl s.aX x)))(left:Int)(h1: -1<=left)(h2:left<=1000):
  s46 zf l left=M (sl l left):=by
 have hstep:∀(i:Nat) (b:Int) (hi:i<zZ l),b<=1000-i-> -1<=b->Pm zf ⟨l,b,i⟩=if b<0 then M J else if tl l[i].aB (b-1)<zZ l[i].aR then M J else M (M ⟨l,sl l[i].aX (sl l[i].aQ (tl l[i].aB (b-1)-l[i].aR.length)),((i+1:Nat):Int)⟩):=λi b hi hb hb2=>by
  obtain⟨m1,m2⟩:=hM l[i] (yR hi);unfold Pm OC;by_cases h0:b<0
  ·simp[show ¬0<=b by omega]
  ·have e1:ak (b-1)=b-1:=aI;have e2:=SZ l[i].aB (b-1) aj aj;have e3:=aet l[i].aB (b-1);have hT: -2<=tl l[i].aB (b-1)/\tl l[i].aB (b-1)<=1000:=by grind
   by_cases h4:tl l[i].aB (b-1)<zZ l[i].aR
   ·simp[hi,e1,ay.eta,e2,h4]
   ·have e5:ak (tl l[i].aB (b-1)-l[i].aR.length)=tl l[i].aB (b-1)-l[i].aR.length:=aI;have e6:=m1 (tl l[i].aB (b-1)-l[i].aR.length) aj aj;have hS: -1<=sl l[i].aQ (tl l[i].aB (b-1)-l[i].aR.length)/\sl l[i].aQ (tl l[i].aB (b-1)-l[i].aR.length)<=1000:=by unfold sl;grind
    have e7:=m2 _ hS.1 hS.2;have e8:ak ((i:Int)+1)=((i+1:Nat):Int):=by rw[aI];omega
    simp[hi,h0,e1,ay.eta,e2,h4,e5,e6,e7,show 0<=b by omega];exact e8
 obtain⟨i,v,hi,e1,⟨e2,e3⟩,e4⟩:=Iy (rnd:=Pm zf) l (λi b=>⟨l,b,(i:Int)⟩) sy (λv _=>if v<0 then v else-1) id (λi b=>b<=1000-i/\ -1<=b) (λi b hi hI b' hs=>by
   obtain⟨q1,q2,q3,q4⟩:=OD hs;refine⟨?_,aj,q2⟩;unfold sy at hs;grind) (λi b hi hI hs r=>by
   unfold sy at hs;grind) (λb hI r=>by simp[Pm,OC]) (b:=left) ⟨aj,h1⟩
 have e1':Vf zf ⟨l,left,0⟩=M ⟨l,v,i⟩:=e1;unfold s46 OC;rw[e1'];rw[aqS]at e4;rcases e4 with ⟨h5,e4⟩|⟨h5,hn,e4⟩
 ·simp[h5,e4]
 ·rw[e4];by_cases h0:v<0
  ·simp[h5,h0,show ¬(0<=v)by omega]
  ·have e1:ak (v-1)=v-1:=aI;have e2:=SZ l[i].aB (v-1) aj aj;have h4:tl l[i].aB (v-1)<zZ l[i].aR:=by unfold sy at hn;grind
   simp[h5,h0,show 0<=v by omega,e1,ay.eta,e2,h4]
def aZ{s:aM}{l:aa aM}(h:s∈l):zi s.aQ<zi l/\zi s.aX<zi l:=by
 have:=wZ h;cases s;simp only[aM.mk.sizeOf_spec]at this;simp only;omega
def Se:∀(n:Nat) (l:aa aM) (x:Int),zi l<n-> -1<=x->x<=1000->m46 n l x=M (sl l x)
 |0,_,_,h,_,_=>aj
 |n+1,l,x,h,h1,h2=>axY (m46 n) l (λs hs=>⟨λx h3 h4=>Se n _ x (by have:=aZ hs;omega) h3 h4,λx h3 h4=>Se n _ x (by have:=aZ hs;omega) h3 h4⟩) x h1 h2
def arO(l:aa aM)(x:Int)(h1: -1<=x)(h2:x<=1000):r46 l x=M (sl l x):=dc (zi l+1) λn hn=>Se n l x aj h1 h2
def J8(f:bn)(vars nodes:Int):Bool:=w9 ((zZ f.ah:Int)<=vars/\(zZ f.ai:Int)<=vars/\(gF f.bG+kR (f.ai.map (·.aB)):Int)<=nodes)
def asf(f:bn)(vars nodes:Int)(h1:0<=vars)(h2:vars<=1000)(h3:0<=nodes)(h4:nodes<=1000):m13 f vars nodes=M (J8 f vars nodes):=by
 unfold m13 Ql;by_cases q1:vars<zZ f.ah
 ·simp[q1,J8];omega
 ·by_cases q2:vars<zZ f.ai
  ·simp[q2,J8];omega
  ·rw[arO _ _ aj aj];have hb:sl f.bG nodes<=1000/\ -1<=sl f.bG nodes:=by unfold sl;grind
   have hstep:∀(i:Nat) (b:Int) (hi:i<zZ f.ai),b<=1000-> -1-(i:Int)<=b->NV ⟨b,f.ai,zZ f.ai,i⟩=M (M ⟨tl f.ai[i].aB b,f.ai,zZ f.ai,((i+1:Nat):Int)⟩):=λi b hi hb hb2=>by
    have e2:=SZ f.ai[i].aB b aj aj;have e8:ak ((i:Int)+1)=((i+1:Nat):Int):=by rw[aI];omega
    unfold NV Ql;simp[hi,ay.eta,e2];exact e8
   obtain⟨i,v,hi,e1,_,e4⟩:=Iy (rnd:=NV) f.ai (λi b=>⟨b,f.ai,zZ f.ai,(i:Int)⟩) (λb h=>M (tl h.aB b)) (λv _=>v) id (λi b=>b<=1000/\ -1-(i:Int)<=b) (λi b hi hI b' hs=>by
     have:=aet f.ai[i].aB b;grind) (λi b hi hI hs r=>by cases hs) (λb hI r=>by simp[NV,Ql]) (b:=sl f.bG nodes) ⟨hb.1,aj⟩
   have e1':We ⟨sl f.bG nodes,f.ai,zZ f.ai,0⟩=M ⟨v,f.ai,zZ f.ai,i⟩:=e1;rcases e4 with ⟨h5,e4⟩|⟨_,hn,_⟩
   case inr=>cases hn
   have key:∀(l:aa dO) (b:Int),0<=j9 (ρ:=Int) (λb h=>M (tl h.aB b)) (λv _=>v) id l b↔(kR (l.map (·.aB)):Int)<=b:=λl=>by
    induction l with
    |nil=>intro b;simp[j9,kR]
    |cons h l ih=>
     intro b;unfold j9;rw[ih,zI,qN];unfold tl;grind
   have k2:=key f.ai (sl f.bG nodes);rw[e4]at k2;have k3:(0<=v)↔(kR (f.ai.map (·.aB)):Int)<=sl f.bG nodes:=k2;simp only[q1,q2,mF,fO,e1',h5,zO,J8]
   congr 1
   rw[decide_eq_decide,k3];unfold sl;grind
def Z0:((0:Nat):Int)=(0:Int):=rfl
def okc(i:Nat)(c:Int):Bool:=w9 ((97<=c/\c<=122)\/(i≠0/\((48<=c/\c<=57)\/c=46\/c=95)))
def jM(s:ByteArray):Bool:=w9 (1<=s.size)&&w9 (s.size<=40)&&(zy s.size).all λi=>okc i (cO s i)
def jD(low high:Int):Bool:=w9 (low<=high/\ -1048576<=low/\high<=1048576)
def mu(vars:aa bf)(i:Nat)(v:bf):Int:=
 if jM v.fName=O then 7
 else if((vars.take i).any λw=>w.fName.toList==v.fName.toList)=Z then 8
 else if v.bQ<0\/3<v.bQ then 1
 else if jD v.aC v.au=O then 3
 else if v.bQ=0 then(if v.eB<v.aC\/v.au<v.eB then 3 else 0)
 else if v.eB=0 then 0 else 3
def oW(kind:Int):aa bf->Int->af Int
 |[],n=>M n
 |v::vs,n=>if v.bQ=kind then(if 4096<n*(v.au-v.aC+1)then J else oW kind vs (n*(v.au-v.aC+1)))else oW kind vs n
def Mc(vars:aa bf):Bool:=(oW 1 vars 1).isSome&&(oW 2 vars 1).isSome&&(match oW 3 vars 1 with|M n=>w9 (n<=256)|J=>O)
def jb(vars:aa bf):Int:=if dZ (mu vars) vars 0≠0 then dZ (mu vars) vars 0 else if Mc vars=Z then 0 else 4
def bZ(o:Int):Int×Int:=if o=0\/o=24 then(0,0)else if o=6\/o=7 then(1,1)else if 8<=o/\o<=22 then(2,2)else if o=23 then(3,3)else if o=25 then(2,33)else(-1,-1)
def Cc(vars:aa bf)(inp:Bool)(t:ay):Bool:=w9 (0<=(bZ t.bA).1/\(bZ t.bA).1<=zZ t.ax/\(zZ t.ax:Int)<=(bZ t.bA).2)&&
 (if t.bA=0 then Z else if t.bA=24 then w9 (0<=t.fN/\t.fN<zZ vars)&& !(inp&&w9 (vars[t.fN.toNat]!.bQ=0))else w9 (t.fN=0))
def dh(vars:aa bf)(inp:Bool)(t:ay):Bool:=Cc vars inp t&&t.ax.attach.all λk=>dh vars inp k.1
termination_by zi t
decreasing_by exact ay.eF k.2
def lD(vars:aa bf)(inp:Bool)(t:ay):dh vars inp t=(Cc vars inp t&&t.ax.all (dh vars inp)):=by
 rw[dh];simp
def fE(a b:Span):Span:=⟨if b.aC<a.aC then b.aC else a.aC,if a.au<b.au then b.au else a.au⟩
def iY(vars:aa bf)(t:ay)(k:aa Span):Span:=
 if t.bA=0 then⟨t.fN,t.fN⟩
 else if t.bA=24 then⟨vars[t.fN.toNat]!.aC,vars[t.fN.toNat]!.au⟩
 else if t.bA=6 then⟨-k[0]!.au,-k[0]!.aC⟩
 else if t.bA=8 then⟨k[0]!.aC+k[1]!.aC,k[0]!.au+k[1]!.au⟩
 else if t.bA=9 then⟨k[0]!.aC-k[1]!.au,k[0]!.au-k[1]!.aC⟩
 else if t.bA=10 then
  fE (fE (fE ⟨k[0]!.aC*k[1]!.aC,k[0]!.aC*k[1]!.aC⟩ ⟨k[0]!.aC*k[1]!.au,k[0]!.aC*k[1]!.au⟩) ⟨k[0]!.au*k[1]!.aC,k[0]!.au*k[1]!.aC⟩) ⟨k[0]!.au*k[1]!.au,k[0]!.au*k[1]!.au⟩
 else if t.bA=11 then
  (if(0:Int)<=k[0]!.aC/\(0:Int)<=k[1]!.aC then⟨0,if k[0]!.au< -k[0]!.aC then-k[0]!.aC else k[0]!.au⟩else⟨-(if k[0]!.au< -k[0]!.aC then-k[0]!.aC else k[0]!.au),if k[0]!.au< -k[0]!.aC then-k[0]!.aC else k[0]!.au⟩)
 else if t.bA=12 then⟨if k[1]!.aC<0 then k[1]!.aC+1 else 0,if(0:Int)<k[1]!.au then k[1]!.au-1 else 0⟩
 else if t.bA=21 then⟨if k[1]!.aC<k[0]!.aC then k[1]!.aC else k[0]!.aC,if k[1]!.au<k[0]!.au then k[1]!.au else k[0]!.au⟩
 else if t.bA=22 then⟨if k[0]!.aC<k[1]!.aC then k[1]!.aC else k[0]!.aC,if k[0]!.au<k[1]!.au then k[1]!.au else k[0]!.au⟩
 else if t.bA=23\/t.bA=25 then(k.drop 2).foldl fE k[1]!
 else⟨0,1⟩
def Al(s:Span):Bool:=w9 (-1048576<=s.aC/\s.au<=1048576)
def kg:aa (af Span)->af (aa Span)
 |[]=>M []
 |none::_=>J
 |some s::xs=>match kg xs with|M l=>M (s::l)|J=>J
def gM(vars:aa bf)(t:ay):af Span:=match kg (t.ax.attach.map λk=>gM vars k.1)with
 |none=>J
 |some l=>if Al (iY vars t l)=Z then M (iY vars t l)else J
termination_by zi t
decreasing_by exact ay.eF k.2
def q8(vars:aa bf)(t:ay):gM vars t=match kg (t.ax.map (gM vars))with
 |none=>J
 |some l=>if Al (iY vars t l)=Z then M (iY vars t l)else J:=by
 rw[gM];simp
def iX(vars:aa bf)(inp:Bool)(t:ay):Int:=if dh vars inp t=O then 1 else if(gM vars t).isSome then 0 else 3
def lB(f:bn)(i:Nat)(h:dO):Int:=
 if jM h.fName=O then 7
 else if((f.ai.take i).any λw=>w.fName.toList==h.fName.toList)=Z then 8
 else if jD h.aC h.au=O then 3
 else iX f.ah Z h.aB
def dT(t:ay):Int:=1+(t.ax.attach.map λk=>dT k.1).foldl max 0
termination_by zi t
decreasing_by exact ay.eF k.2
def QD(l:aa ay):Int:=(l.map dT).foldl max 0
def VE(t:ay):dT t=1+QD t.ax:=by
 rw[dT,QD];simp
def D8(l:aa ay)(k:ay):QD (l++[k])=max (QD l) (dT k):=by
 unfold QD;simp
def qd(l:aa ay)(k:ay):kR (l++[k])=kR l+nT k:=by
 simp[kR]
def Ai:∀(l:aa Int) (a:Int),a<=l.foldl max a
 |[],a=>zG _
 |x::l,a=>x8 (Int.le_max_left a x) (Ai l (max a x))
def Lc(l:aa ay):0<=QD l:=Ai _ _
def ax9(t:ay):1<=dT t:=by have:=Lc t.ax;rw[VE];omega
def eu(s:aM)(l:aa aM):zi l<zi (s::l):=by
 rw[List.cons.sizeOf_spec];omega
def jA:aa aM->Int
 |[]=>0
 |s::l=>max (max (jA s.aQ+1) (jA s.aX+1)) (jA l)
termination_by l=>zi l
decreasing_by
 ·exact(aZ (zm ..)).1
 ·exact(aZ (zm ..)).2
 ·exact eu _ _
def fS:aa aM->Bool
 |[]=>O
 |s::l=>w9 (12<dT s.aB)||fS s.aQ||fS s.aX||fS l
termination_by l=>zi l
decreasing_by
 ·exact(aZ (zm ..)).1
 ·exact(aZ (zm ..)).2
 ·exact eu _ _
def u5(l:aa aM):0<=jA l:=by
 induction l with
 |nil=>rw[jA];omega
 |cons s l ih=>rw[jA];omega
def acm(l:aa aM)(s:aM):jA (l++[s])=max (jA l) (max (jA s.aQ+1) (jA s.aX+1)):=by
 induction l with
 |nil=>
  rw[yl,show jA []=0 by rw[jA],jA,show jA []=0 by rw[jA]];omega
 |cons a l ih=>rw[yB,jA,jA,ih];omega
def NO(l:aa aM)(k:aM):gF (l++[k])=gF l+nS k:=by simp[gF]
def tZ(f:bn):Bool:=w9 (zZ f.ah<=64)&&w9 (zZ f.ai<=8)&&f.ai.all (λh=>w9 (dT h.aB<=12))&&w9 (jA f.bG<=12)&& !fS f.bG
def jg:aa Int->Bool
 |a::b::l=>w9 (a<b)&&jg (b::l)
 |_=>Z
def Cy(t:ay):Bool:=w9 (t.bA=0/\t.fN=0/\zZ t.ax=0)
def Bp(f:bn)(s:aM):Bool:=w9 (0<=s.bq/\s.bq<zZ f.ah)&&w9 (f.ah[s.bq.toNat]!.bQ=0)
def dw(f:bn)(s:aM)(last:Bool):Bool:=
 let free:=w9 (zZ s.aQ=0/\zZ s.aX=0)
 let nob:=w9 (zZ s.aR=0)
 if s.cu=0 then free&&Bp f s&&w9 (s.fN=0)&&nob
 else if s.cu=1 then free&&w9 (s.bq=0)&&w9 (s.fN=0)&&nob
 else if s.cu=2 then free&&w9 (s.bq=0)&&w9 (s.fN=0)&&nob&&Cy s.aB
 else if s.cu=3 then w9 (s.bq=0)&&w9 (s.fN=0)&&nob
 else if s.cu=4 then w9 (s.bq=0)&&w9 (zZ s.aX=0)&&nob
 else if s.cu=5 then free&&Bp f s&&w9 (0<=s.fN/\s.fN<zZ f.ai)&&nob&&Cy s.aB
 else if s.cu=6 then free&&last&&w9 (s.bq=0)&&w9 (s.fN=0)&&Cy s.aB&&(w9 (1<=zZ s.aR/\zZ s.aR<=32)&&w9 ((0:Int)<=s.aR[0]!)&&jg s.aR)
 else O
def sK(s:aM):Bool:=w9 (0<=s.aW/\s.aW<=(if s.cu=2 then 67108864 else 10000))&&(if s.cu=4 then w9 (0<=s.fN/\s.fN<=4096)else Z)&&(if s.cu=6 then w9 (s.aR[zZ s.aR-1]!<=67108864)else Z)
def pn(f:bn)(last:Bool)(s:aM):Int:=if dw f s last=O then 1 else if sK s=O then 3 else iX f.ah O s.aB
def cK(f:bn)(top:Bool):aa aM->Int
 |[]=>0
 |s::l=>if pn f (top&&l.isEmpty) s≠0 then pn f (top&&l.isEmpty) s else if cK f O s.aQ≠0 then cK f O s.aQ else if cK f O s.aX≠0 then cK f O s.aX else cK f top l
termination_by l=>zi l
decreasing_by
 all_goals first|exact(aZ (zm ..)).1|exact(aZ (zm ..)).2|exact eu _ _
def stC(f:bn)(top:Bool)(n i:Nat)(s:aM):Int:=if pn f (top&&w9 (i+1=n)) s≠0 then pn f (top&&w9 (i+1=n)) s else if cK f O s.aQ≠0 then cK f O s.aQ else cK f O s.aX
def qM(f:bn)(top:Bool)(n:Nat):∀(l:aa aM) (i:Nat),i+zZ l=n->dZ (stC f top n) l i=cK f top l
 |[],i,_=>by rw[cK];rfl
 |s::l,i,h=>by
  have ih:=qM f top n l (i+1) (by simp at h;omega);have he:l.isEmpty=w9 (i+1=n):=by
   cases l with
   |nil=>simp at h;simp[h]
   |cons a l=>simp at h;simp;omega
  unfold dZ;rw[cK,ih,he];unfold stC;grind
def dR:aa aM->Int×Int×Int
 |[]=>(0,0,0)
 |s::l=>match dR s.aQ,dR s.aX,dR l with
  |a,b,c=>if s.cu=1 then(1+c.1,1+c.2.1,s.aW+c.2.2)
   else if s.cu=3 then(1+max a.1 b.1+c.1,max a.2.1 b.2.1+c.2.1,s.aW+max a.2.2 b.2.2+c.2.2)
   else if s.cu=4 then(1+s.fN*(1+a.1)+c.1,s.fN*a.2.1+c.2.1,s.fN*(s.aW+a.2.2)+c.2.2)
   else(1+c.1,c.2.1,s.aW+c.2.2)
termination_by l=>zi l
decreasing_by
 ·exact(aZ (zm ..)).1
 ·exact(aZ (zm ..)).2
 ·exact eu _ _
def Wp(f:bn):Bool:=w9 (4096<(dR f.bG).1\/8<(dR f.bG).2.1\/67108864<(dR f.bG).2.2)
def Aa(f:bn):Int:=if tZ f=O then 4 else if jb f.ah≠0 then jb f.ah else if dZ (lB f) f.ai 0≠0 then dZ (lB f) f.ai 0 else if cK f Z f.bG≠0 then cK f Z f.bG else if Wp f=Z then 4 else 0
def agB(l:aa UInt8):(ByteArray.mk (Array.mk l)).toList=l:=by
 simp
def auc(s:ByteArray):(s.toList==(ByteArray.mk (Array.mk [])).toList)=w9 (s.size=0):=by
 obtain⟨⟨l⟩⟩:=s;rw[agB,agB];have hs:(ByteArray.mk (Array.mk l)).size=zZ l:=rfl;rw[hs];cases l with
 |nil=>rfl
 |cons a l=>simp
def Da(s:ByteArray):ab4 s=M (jM s):=by
 unfold ab4 Hf;rw[auc];by_cases h0:s.size=0
 ·simp[h0,jM]
 by_cases h1:40<(s.size:Int)
 ·have h1':¬s.size<=40:=aj;simp[h1,h1',jM]
 rw[iU h0,iU h1];obtain⟨i,e1,hc⟩:=pS (rnd:=JZ) (zy s.size) (λi=>⟨s,(s.size:Int),(i:Int)⟩) (λi j=>okc j (cO s j)) (λi hi=>by
  rw[we]at hi;have hw:=jy hi aj;unfold JZ Hf okc;simp only[zw];grind) (by unfold JZ Hf;simp)
 have e1':LH ⟨s,(s.size:Int),0⟩=M ⟨s,(s.size:Int),(i:Int)⟩:=e1;rw[e1'];have h2:jM s=(zy s.size).all λi=>okc i (cO s i):=by
  unfold jM;rw[zDT,zDT];simp
 rw[h2];rcases hc with ⟨rfl,hc⟩|⟨hi,hc⟩
 ·rw[Gx hc];simp
 ·rw[vN hi hc];unfold okc at hc;simp only[zw];grind
def JO(s:ByteArray):m52 s=M (jM s):=by
 unfold m52 Ou;by_cases h0:s.size<1
 ·have h0':¬1<=s.size:=aj;have h0'':(s.size:Int)<1:=aj;simp[h0'',h0',jM]
 by_cases h1:40<(s.size:Int)
 ·have h1':¬s.size<=40:=aj;have h0'':¬(s.size:Int)<1:=aj;simp[h1,h1',jM]
 rw[iU (show ¬(s.size:Int)<1 by omega),iU h1];obtain⟨i,e1,hc⟩:=pS (rnd:=Wg) (zy s.size) (λi=>⟨s,(i:Int)⟩) (λi j=>okc j (cO s j)) (λi hi=>by
  rw[we]at hi;have hw:=jy hi aj;unfold Wg Ou okc;simp only[zw];grind) (by unfold Wg Ou;simp)
 have e1':XZ ⟨s,0⟩=M ⟨s,(i:Int)⟩:=e1;rw[e1'];have h2:jM s=(zy s.size).all λi=>okc i (cO s i):=by
  unfold jM;rw[zDT,zDT];simp
 rw[h2];rcases hc with ⟨rfl,hc⟩|⟨hi,hc⟩
 ·rw[Gx hc];simp
 ·rw[vN hi hc];unfold okc at hc;simp only[zw];grind
def Dk(a b:Int):QX a b=jD a b:=by
 unfold QX jD;simp
def Lr(a b:Int):m53 a b=jD a b:=by
 unfold m53 jD;simp
def Xc(l:aa bf)(hl:zZ l<=1000000)(v:bf):amZ l v=M (l.any λw=>w.fName.toList==v.fName.toList):=by
 obtain⟨i,e1,hc⟩:=pS (rnd:=KH) l (λi=>⟨l,v.fName,v.bQ,v.aC,v.au,v.eB,(zZ l:Int),(i:Int)⟩) (λ_ w=> !(w.fName.toList==v.fName.toList)) (λi hi=>by
  have hw:=jy hi hl;unfold KH DY anq;grind) (by unfold KH DY;simp)
 have e1':JH ⟨l,v.fName,v.bQ,v.aC,v.au,v.eB,(zZ l:Int),0⟩=M ⟨l,v.fName,v.bQ,v.aC,v.au,v.eB,(zZ l:Int),(i:Int)⟩:=e1;unfold amZ awR DY;rw[e1'];rcases hc with ⟨rfl,hc⟩|⟨hi,hc⟩
 ·rw[Ak λj hj=>by have:=hc j hj;simpa using this];simp
 ·have hc':(l[i]!.fName.toList==v.fName.toList)=Z:=by simpa using hc
  rw[JV hi hc'];unfold anq;simp only[zw,hc'];simp[hi]
def Nu(l:aa bf)(hl:zZ l<=1000000)(n:Nat)(hn:n<=zZ l)(v:bf):
  ∃i:Nat,Wd ⟨l,n,0,v⟩=M ⟨l,n,(i:Int),v⟩/\((i=n/\((l.take n).any λw=>w.fName.toList==v.fName.toList)=O)\/(i<n/\(l[i]!.fName.toList==v.fName.toList)=Z/\((l.take n).any λw=>w.fName.toList==v.fName.toList)=Z)):=by
 have hlen:zZ (l.take n)=n:=by rw[zL];omega
 have hget:∀i,i<n->(l.take n)[i]! =l[i]! :=λi hi=>by
  rw[getElem!_pos _ i aj,getElem!_pos _ i aj,xo]
 obtain⟨i,e1,hc⟩:=pS (rnd:=XV) (l.take n) (λi=>⟨l,(n:Int),(i:Int),v⟩) (λ_ w=> !(w.fName.toList==v.fName.toList)) (λi hi=>by
  have hw:=jy hi aj;unfold XV DL;grind) (by rw[hlen];unfold XV DL;simp)
 refine⟨i,e1,?_⟩;rw[hlen]at hc;rcases hc with ⟨rfl,hc⟩|⟨hi,hc⟩
 ·exact .inl ⟨rfl,Ak λj hj=>by have:=hc j aj;simpa using this⟩
 ·have hc':((l.take n)[i]!.fName.toList==v.fName.toList)=Z:=by simpa using hc
  exact .inr ⟨hi,by rw[<-hget i hi];exact hc',JV aj hc'⟩
def Dp(a b:aa ay):kR (a++b)=kR a+kR b:=by simp[kR]
def Fw(l:aa ay)(i:Nat):kR (l.take i)<=kR l:=by
 have:=Dp (l.take i) (l.drop i);rw[xT]at this;omega
def Kv(l:aa ay):zZ l<=kR l:=by
 induction l with
 |nil=>simp
 |cons a l ih=>rw[qN];have:=afL a;simp;omega
def ajx(a b:aa aM):gF (a++b)=gF a+gF b:=by simp[gF]
def ad9(l:aa aM)(i:Nat):gF (l.take i)<=gF l:=by
 have:=ajx (l.take i) (l.drop i);rw[xT]at this;omega
def axJ(s:aM):0<nS s:=by rw[oL];omega
def jH(l:aa aM):zZ l<=gF l:=by
 induction l with
 |nil=>simp
 |cons a l ih=>rw[mP];have:=axJ a;simp;omega
def Ef{l:aa ay}{i:Nat}(hi:i<zZ l):kR (l.take i)+nT l[i]!<=kR l:=by
 have:=Fw l (i+1);rw[bV hi,qd]at this;omega
def Fl{l:aa aM}{i:Nat}(hi:i<zZ l):gF (l.take i)+nS l[i]!<=gF l:=by
 have:=ad9 l (i+1);rw[bV hi,NO]at this;omega
def TB(l:aa ay)(h:∀k∈l,dT k<=nT k):∀i,i<=zZ l->QD (l.take i)<=kR (l.take i):=by
 intro i;induction i with
 |zero=>intro _;simp[QD]
 |succ i ih=>
  intro hi;have h2:=h _ (bg (show i<zZ l by omega));rw[bV aj,D8,qd];omega
def apJ(t:ay):dT t<=nT t:=by
 have key:∀(n:Nat) (t:ay),zi t<n->dT t<=nT t:=by
  intro n;induction n with
  |zero=>intro t h;omega
  |succ n ih=>
   intro t h;have:=TB t.ax (λk hk=>ih k (by have:=ay.eF hk;omega)) (zZ t.ax) (zx _);rw[yh]at this;rw[VE,vO];omega
 exact key _ t (zN _)
def ahT(l:aa ay)(i:Nat):QD (l.take i)<=kR l:=by
 have h1:=Fw l i;by_cases h:i<=zZ l
 ·have:=TB l (λk _=>apJ k) i h;omega
 ·have:=TB l (λk _=>apJ k) (zZ l) (zx _);rw[yh]at this;rw[yU aj];omega
def abK(l:aa aM):jA l<=gF l:=by
 have key:∀(n:Nat) (l:aa aM),zi l<n->jA l<=gF l:=by
  intro n;induction n with
  |zero=>intro t h;omega
  |succ n ih=>
   intro l h;cases l with
   |nil=>rw[jA];simp
   |cons s l=>
    have q1:=ih s.aQ (by have:=aZ (l:=s::l) (zm ..);omega);have q2:=ih s.aX (by have:=aZ (l:=s::l) (zm ..);omega);have q3:=ih l (by have:=eu s l;omega);rw[jA,mP,oL];omega
 exact key _ l (zN _)
def alV(zf:sZ)(t:ay)(hM:∀k∈t.ax,zf k=M (nT k:Int))(h:nT t<=1000):att zf t=M (nT t:Int):=by
 have hN:=vO t;have hL:=Kv t.ax;obtain⟨v,e1,hv⟩:=cZ (rnd:=K6 zf) (zZ t.ax) (λi (b:Int)=>⟨b,(i:Int),t⟩) (λi b=>b=1+kR (t.ax.take i)) (λi b hi hb=>by
   have hs:=Ef hi;refine⟨b+nT t.ax[i]!,?_,?_⟩
   ·have hk:=hM _ (bg hi);have hw:=jy hi aj;have hw2:ak (b+nT t.ax[i]!)=b+nT t.ax[i]! :=aI;unfold K6 DT;simp only[ay.eta];grind
   ·rw[bV hi,qd];omega) (λb _=>by unfold K6 DT;simp) (b:=1) (by simp[kR])
 have e1':LJ zf ⟨1,0,t⟩=M ⟨v,(zZ t.ax:Int),t⟩:=e1;unfold att DT;rw[ay.eta,e1',hN];simp[hv]
def XD:∀(n:Nat) (t:ay),zi t<n->nT t<=1000->aar n t=M (nT t:Int)
 |0,_,h,_=>aj
 |n+1,t,h,h2=>alV (aar n) t (λk hk=>XD n k (by have:=ay.eF hk;omega) (by have:=WS hk;have:=vO t;omega)) h2
def KD(t:ay)(h:nT t<=1000):abJ t=M (nT t:Int):=dc (zi t+1) λn hn=>XD n t aj h
def ank(zf:ur)(t:ay)(hM:∀k∈t.ax,zf k=M (dT k))(h:nT t<=1000):arX zf t=M (dT t):=by
 have hN:=vO t;have hL:=Kv t.ax;obtain⟨v,e1,hv⟩:=cZ (rnd:=KO zf) (zZ t.ax) (λi (b:Int)=>⟨b,(i:Int),t⟩) (λi b=>b=QD (t.ax.take i)) (λi b hi hb=>by
   refine⟨max b (dT t.ax[i]!),?_,?_⟩
   ·have hk:=hM _ (bg hi);have hw:=jy hi aj;unfold KO GR;simp only[zS,ay.eta];grind
   ·rw[bV hi,D8,hb]) (λb _=>by unfold KO GR;simp) (b:=0) (by simp[QD])
 have e1':LK zf ⟨0,0,t⟩=M ⟨v,(zZ t.ax:Int),t⟩:=e1;unfold arX GR;rw[ay.eta,e1',VE];have hd:=ahT t.ax (zZ t.ax);have hp:=Lc t.ax;rw[yh]at hv hd;subst hv;have hw2:ak (QD t.ax+1)=QD t.ax+1:=aI;dsimp only;rw[gI];show M (ak (QD t.ax+1))=_
 congr 1
 omega
def UP:∀(n:Nat) (t:ay),zi t<n->nT t<=1000->agu n t=M (dT t)
 |0,_,h,_=>aj
 |n+1,t,h,h2=>ank (agu n) t (λk hk=>UP n k (by have:=ay.eF hk;omega) (by have:=WS hk;have:=vO t;omega)) h2
def Mv(t:ay)(h:nT t<=1000):ZB t=M (dT t):=dc (zi t+1) λn hn=>UP n t aj h
def CV{s:aM}{l:aa aM}(h:s∈l):nS s<=gF l:=by
 induction l with
 |nil=>cases h
 |cons a l ih=>
  rw[mP];rcases zk.1 h with rfl|h
  ·omega
  ·have:=ih h;omega
def gP:aa aM->Int
 |[]=>0
 |s::l=>1+nT s.aB+gP s.aQ+gP s.aX+gP l
termination_by l=>zi l
decreasing_by
 ·exact(aZ (zm ..)).1
 ·exact(aZ (zm ..)).2
 ·exact eu _ _
def DC(l:aa aM):0<=gP l/\gP l<=gF l:=by
 have key:∀(n:Nat) (l:aa aM),zi l<n->0<=gP l/\gP l<=gF l:=by
  intro n;induction n with
  |zero=>intro t h;omega
  |succ n ih=>
   intro l h;cases l with
   |nil=>rw[gP];simp
   |cons s l=>
    have q1:=ih s.aQ (by have:=aZ (l:=s::l) (zm ..);omega);have q2:=ih s.aX (by have:=aZ (l:=s::l) (zm ..);omega);have q3:=ih l (by have:=eu s l;omega);rw[gP,mP,oL];omega
 exact key _ l (zN _)
def YE(l:aa aM)(s:aM):gP (l++[s])=gP l+(1+nT s.aB+gP s.aQ+gP s.aX):=by
 induction l with
 |nil=>rw[yl,show gP []=0 by rw[gP],gP,show gP []=0 by rw[gP]];omega
 |cons a l ih=>rw[yB,gP,gP,ih];omega
def an6(zf:aa aM->af ah3)(l:aa aM)(hM:∀s∈l,zf s.aQ=M (gP s.aQ)/\zf s.aX=M (gP s.aX))(h:gF l<=1000):auM zf l=M (gP l):=by
 have hL:=jH l;obtain⟨v,e1,hv⟩:=cZ (rnd:=Kg zf) (zZ l) (λi (b:Int)=>⟨l,b,(i:Int)⟩) (λi b=>b=gP (l.take i)) (λi b hi hb=>by
   have hs:=Fl hi;have hE:=oL l[i]!;obtain⟨k1,k4⟩:=hM _ (bg hi);have k2:=DC l[i]!.aQ;have k3:=DC l[i]!.aX;have k5:=DC (l.take i);have hk:=KD l[i]!.aB aj;have hw:=jy hi aj;refine⟨b+(1+nT l[i]!.aB+gP l[i]!.aQ+gP l[i]!.aX),?_,?_⟩
   ·have w1:ak (b+1)=b+1:=aI;have w2:ak (b+1+nT l[i]!.aB)=b+1+nT l[i]!.aB:=aI;have w3:ak (b+1+nT l[i]!.aB+gP l[i]!.aQ)=b+1+nT l[i]!.aB+gP l[i]!.aQ:=aI;have w4:ak (b+1+nT l[i]!.aB+gP l[i]!.aQ+gP l[i]!.aX)=b+(1+nT l[i]!.aB+gP l[i]!.aQ+gP l[i]!.aX):=by rw[aI];omega
    unfold Kg G7;simp only[ay.eta];grind
   ·rw[bV hi,YE];omega) (λb _=>by unfold Kg G7;simp) (b:=0) (by simp[gP])
 have e1':KL zf ⟨l,0,0⟩=M ⟨l,v,(zZ l:Int)⟩:=e1;unfold auM G7;rw[e1'];simp[hv]
def gD{s:aM}{l:aa aM}(h:s∈l):gF s.aQ<=gF l/\gF s.aX<=gF l:=by
 have:=CV h;have:=oL s;omega
def ME:∀(n:Nat) (l:aa aM),zi l<n->gF l<=1000->agm n l=M (gP l)
 |0,_,h,_=>aj
 |n+1,l,h,h2=>an6 (agm n) l (λs hs=>⟨ME n _ (by have:=aZ hs;omega) (by have:=gD hs;omega),ME n _ (by have:=aZ hs;omega) (by have:=gD hs;omega)⟩) h2
def anX(l:aa aM)(h:gF l<=1000):alI l=M (gP l):=dc (zi l+1) λn hn=>ME n l aj h
def aj2(zf:aa aM->af ah2)(l:aa aM)(hM:∀s∈l,zf s.aQ=M (jA s.aQ)/\zf s.aX=M (jA s.aX))(h:gF l<=1000):auE zf l=M (jA l):=by
 have hL:=jH l;obtain⟨v,e1,hv⟩:=cZ (rnd:=JG zf) (zZ l) (λi (b:Int)=>⟨l,b,(i:Int)⟩) (λi b=>b=jA (l.take i)) (λi b hi hb=>by
   obtain⟨k1,k4⟩:=hM _ (bg hi);have k2:=abK l[i]!.aQ;have k3:=abK l[i]!.aX;have k5:=gD (bg hi);have k6:=u5 l[i]!.aQ;have k7:=u5 l[i]!.aX;have hw:=jy hi aj;refine⟨max b (max (jA l[i]!.aQ+1) (jA l[i]!.aX+1)),?_,?_⟩
   ·have w1:ak (jA l[i]!.aQ+1)=jA l[i]!.aQ+1:=aI;have w2:ak (jA l[i]!.aX+1)=jA l[i]!.aX+1:=aI;unfold JG Gg;simp only[zw];grind
   ·rw[bV hi,acm];omega) (λb _=>by unfold JG Gg;simp) (b:=0) (by simp[jA])
 have e1':Mx zf ⟨l,0,0⟩=M ⟨l,v,(zZ l:Int)⟩:=e1;unfold auE Gg;rw[e1'];simp[hv]
def KA:∀(n:Nat) (l:aa aM),zi l<n->gF l<=1000->adZ n l=M (jA l)
 |0,_,h,_=>aj
 |n+1,l,h,h2=>aj2 (adZ n) l (λs hs=>⟨KA n _ (by have:=aZ hs;omega) (by have:=gD hs;omega),KA n _ (by have:=aZ hs;omega) (by have:=gD hs;omega)⟩) h2
def akO(l:aa aM)(h:gF l<=1000):ami l=M (jA l):=dc (zi l+1) λn hn=>KA n l aj h
def PC(s:aM):Bool:=w9 (12<dT s.aB)||fS s.aQ||fS s.aX
def YX(l:aa aM):fS l=l.any PC:=by
 induction l with
 |nil=>rw[fS];rfl
 |cons s l ih=>rw[fS,ih,List.any_cons];rfl
def ajK(zf:aa aM->af alX)(l:aa aM)(hM:∀s∈l,zf s.aQ=M (fS s.aQ)/\zf s.aX=M (fS s.aX))(h:gF l<=1000):atC zf l=M (fS l):=by
 have hL:=jH l;have hT:∀i,i<zZ l->ZB l[i]!.aB=M (dT l[i]!.aB):=λi hi=>Mv _ (by have:=CV (bg hi);have:=oL l[i]!;omega);obtain⟨i,e1,hc⟩:=pS (rnd:=Jk zf) l (λi=>⟨l,(i:Int)⟩) (λ_ s=> !PC s) (λi hi=>by
   obtain⟨k1,k4⟩:=hM _ (bg hi);have hk:=hT i hi;have hw:=jy hi aj;unfold Jk F1 PC;simp only[zw,ay.eta,k1,k4];cases fS l[i]!.aQ<;>cases fS l[i]!.aX<;>grind) (by unfold Jk F1;simp)
 have e1':Ln zf ⟨l,0⟩=M ⟨l,(i:Int)⟩:=e1;unfold atC F1;rw[e1',YX];rcases hc with ⟨rfl,hc⟩|⟨hi,hc⟩
 ·rw[Ak λj hj=>by have:=hc j hj;simpa using this];simp
 ·have hc':PC l[i]! =Z:=by simpa using hc
  obtain⟨k1,k4⟩:=hM _ (bg hi);have hk:=hT i hi;unfold PC at hc';simp only[zw,ay.eta,k1,k4];revert hc';cases fS l[i]!.aQ<;>cases fS l[i]!.aX<;>grind
def LP:∀(n:Nat) (l:aa aM),zi l<n->gF l<=1000->abA n l=M (fS l)
 |0,_,h,_=>aj
 |n+1,l,h,h2=>ajK (abA n) l (λs hs=>⟨LP n _ (by have:=aZ hs;omega) (by have:=gD hs;omega),LP n _ (by have:=aZ hs;omega) (by have:=gD hs;omega)⟩) h2
def an8(l:aa aM)(h:gF l<=1000):ana l=M (fS l):=dc (zi l+1) λn hn=>LP n l aj h
def gd(b:bC):Bool:=b.gu||w9 (1024<b.aD)
def F3(b:bC):Hj b=(gd b,b):=by
 rfl
def di(d:Int)(b:bC):bC:=⟨b.aD+1,b.gu||w9 (12<d)⟩
def Av(t:ay)(d:Int)(b:bC):bC:=if gd (di d b)=Z then di d b else t.ax.attach.foldl (λb k=>Av k.1 (d+1) b) (di d b)
termination_by zi t
decreasing_by exact ay.eF k.2
def Hl(l:aa ay)(d:Int)(b:bC):bC:=l.foldl (λb k=>Av k d b) b
def aeb(t:ay)(d:Int)(b:bC):Av t d b=if gd (di d b)=Z then di d b else Hl t.ax (d+1) (di d b):=by
 rw[Av,Hl];simp
def Iu(l:aa ay)(k:ay)(d:Int)(b:bC):Hl (l++[k]) d b=Av k d (Hl l d b):=by simp[Hl]
def MsP(d0:Int)(n:Int)(b r:bC):Prop:=r.gu=(b.gu||w9 (12<d0))/\b.aD<=r.aD/\r.aD<=b.aD+n
def KY(t:ay)(d:Int)(b:bC)(h0:0<=d)(h1:0<=b.aD)(h2:b.aD+nT t<=1000):MsP (d-1+dT t) (nT t) b (Av t d b):=by
 have key:∀(n:Nat) (t:ay) (d:Int) (b:bC),zi t<n->0<=d->0<=b.aD->b.aD+nT t<=1000->MsP (d-1+dT t) (nT t) b (Av t d b):=by
  intro n;induction n with
  |zero=>intro t d b h;omega
  |succ n ih=>
   intro t d b h h0 h1 h2;have hN:=vO t;have hD:=VE t;have hd0:=Lc t.ax;rw[aeb];by_cases ho:gd (di d b)=Z
   ·rw[bO ho];unfold gd di at ho;unfold MsP di;grind
   ·rw[bP ho];have hi:∀i,i<=zZ t.ax->MsP (d+QD (t.ax.take i)) (kR (t.ax.take i)) (di d b) (Hl (t.ax.take i) (d+1) (di d b)):=by
     intro i;induction i with
     |zero=>
      simp only[Hl,MsP,QD,di];grind
     |succ i ihi=>
      intro hi;have q:=ihi aj;have hs:=Ef (show i<zZ t.ax by omega);have hm:t.ax[i]!∈t.ax:=bg aj;have hp:(di d b).aD=b.aD+1:=rfl;have q2:=ih t.ax[i]! (d+1) (Hl (t.ax.take i) (d+1) (di d b)) (by have:=ay.eF hm;omega) aj (by have:=q.2.1;omega) (by have:=q.2.2;omega);rw[bV aj,Iu,D8,qd];obtain⟨a1,a2,a3⟩:=q;obtain⟨c1,c2,c3⟩:=q2;refine⟨?_,aj,aj⟩;rw[c1,a1];rw[Bool.or_assoc]
      congr 1
      rw[<-Bool.decide_or];apply decide_eq_decide.2;omega
    have q:=hi (zZ t.ax) (zx _);unfold MsP at q ⊢;have hp:(di d b).aD=b.aD+1:=rfl;have hp2:(di d b).gu=(b.gu||w9 (12<d)):=rfl;grind
 exact key _ t d b (zN _) h0 h1 h2
def aws(zf:Xn)(t:ay)(hM:∀k∈t.ax,∀(d:Int) (b:bC),0<=d->d<=13->0<=b.aD->b.aD+nT k<=1000->zf k d b=M (Av k d b))(d:Int)(b:bC)(h0:0<=d)(hd:d<=13)(h1:0<=b.aD)(h2:b.aD+nT t<=1000):s97 zf t d b=M (Av t d b):=by
 have hN:=vO t;have hL:=Kv t.ax;have hw0:ak (b.aD+1)=b.aD+1:=aI;have hw1:ak (d+1)=d+1:=aI;have hinc:∀x,(⟨b.aD+1,x⟩:bC)=di d b↔x=(b.gu||w9 (12<d)):=λx=>by unfold di;simp
 have key:gd (di d b)=O->d<=12/\Na zf ⟨d,t.ax,(zZ t.ax:Int),0,di d b⟩=M ⟨d,t.ax,(zZ t.ax:Int),(zZ t.ax:Int),Hl t.ax (d+1) (di d b)⟩:=λho=>by
  have hd2:d<=12:=by unfold gd di at ho;grind
  refine⟨hd2,?_⟩;obtain⟨v,e1,hv,_⟩:=cZ (rnd:=VO zf) (zZ t.ax) (λi (x:bC)=>⟨d,t.ax,(zZ t.ax:Int),(i:Int),x⟩) (λi x=>x=Hl (t.ax.take i) (d+1) (di d b)/\b.aD+1<=x.aD/\x.aD<=b.aD+1+kR (t.ax.take i)) (λi x hi hx=>by
    have hs:=Ef hi;have hk:=hM _ (bg hi) (d+1) x aj aj aj aj;have hp:=KY t.ax[i]! (d+1) x aj aj aj;have hw:=jy hi aj;refine⟨Av t.ax[i]! (d+1) x,?_,?_⟩
    ·unfold VO Jj;simp only[ay.eta];grind
    ·unfold MsP at hp;rw[bV hi,Iu,<-hx.1,qd];exact⟨rfl,aj,aj⟩) (λx _=>by unfold VO Jj;simp) (b:=di d b) ⟨rfl,zG _,by show b.aD+1<=_;simp[kR]⟩
  rw[yh]at hv;rw[<-hv];exact e1
 rw[aeb];unfold s97 Jj;rw[hw0];have hm:∀x,x=(b.gu||w9 (12<d))->Hj ⟨b.aD+1,x⟩=(gd (di d b),di d b):=λx hx=>by rw[F3,(hinc x).2 hx]
 cases hb:b.gu with
 |true=>
  rw[hm Z (by rw[hb];rfl)];have ho:gd (di d b)=Z:=by unfold gd di;simp[hb]
  simp[ho]
 |false=>
  rw[hm (w9 (12<d)) (by rw[hb];rfl)];cases ho:gd (di d b)with
  |true=>simp
  |false=>
   obtain⟨_,e⟩:=key ho;rw[e];simp
def abO:∀(n:Nat) (t:ay) (d:Int) (b:bC),zi t<n->0<=d->d<=13->0<=b.aD->b.aD+nT t<=1000->m97 n t d b=M (Av t d b)
 |0,_,_,_,h,_,_,_,_=>aj
 |n+1,t,d,b,h,h0,hd,h1,h2=>aws (m97 n) t (λk hk d b a1 a2 a3 a4=>abO n k d b (by have:=ay.eF hk;omega) a1 a2 a3 a4) d b h0 hd h1 h2
def ahA(t:ay)(d:Int)(b:bC)(h0:0<=d)(hd:d<=13)(h1:0<=b.aD)(h2:b.aD+nT t<=1000):r97 t d b=M (Av t d b):=dc (zi t+1) λn hn=>abO n t d b aj h0 hd h1 h2
def nU(d:Int):aa aM->bC->bC
 |[],b=>b
 |s::l,b=>if gd (di d b)=Z then di d b else nU d l (nU (d+1) s.aX (nU (d+1) s.aQ (Av s.aB 1 (di d b))))
termination_by l=>zi l
decreasing_by
 ·exact(aZ (zm ..)).1
 ·exact(aZ (zm ..)).2
 ·exact eu _ _
def SX(d:Int)(l:aa aM)(b:bC)(h0:0<=d)(hd:d<=13)(h1:0<=b.aD)(h2:b.aD+gF l<=1000):(nU d l b).gu=(b.gu||(w9 (12<d-1+jA l)||fS l))/\b.aD<=(nU d l b).aD/\(nU d l b).aD<=b.aD+gF l:=by
 have key:∀(n:Nat) (d:Int) (l:aa aM) (b:bC),zi l<n->0<=d->d<=13->0<=b.aD->b.aD+gF l<=1000->(nU d l b).gu=(b.gu||(w9 (12<d-1+jA l)||fS l))/\b.aD<=(nU d l b).aD/\(nU d l b).aD<=b.aD+gF l:=by
  intro n;induction n with
  |zero=>intro d l b h;omega
  |succ n ih=>
   intro d l b h h0 hd h1 h2;cases l with
   |nil=>
    rw[nU,jA,fS];refine⟨?_,aj,by simp[gF]⟩;rw[gI];simp
   |cons s l=>
    have hz:=aZ (l:=s::l) (zm ..);have hz2:=eu s l;have hN:=oL s;have hC:=mP s l;have p1:=u5 s.aQ;have p2:=u5 s.aX;have p3:=u5 l;have p4:=ax9 s.aB;have hp:(di d b).aD=b.aD+1:=rfl;have hp2:(di d b).gu=(b.gu||w9 (12<d)):=rfl;rw[nU,jA,fS];by_cases ho:gd (di d b)=Z
    ·rw[bO ho];unfold gd di at ho;unfold di;dsimp only at ho ⊢;refine⟨?_,aj,aj⟩;grind
    ·rw[bP ho];unfold gd at ho;rw[hp,hp2]at ho;have hb:b.gu=O:=by grind
     have hd2:d<=12:=by grind
     obtain⟨a1,a2,a3⟩:=KY s.aB 1 (di d b) aj aj aj;obtain⟨c1,c2,c3⟩:=ih (d+1) s.aQ (Av s.aB 1 (di d b)) aj aj aj aj aj;obtain⟨g1,g2,g3⟩:=ih (d+1) s.aX _ aj aj aj (x8 aj c2) aj;obtain⟨k1,k2,k3⟩:=ih d l _ aj h0 hd (x8 aj g2) aj;refine⟨?_,aj,aj⟩;rw[k1,g1,c1,a1,hp2,hb];rw[iU (show ¬12<d by omega)];have e1:w9 (12<1-1+dT s.aB)=w9 (12<dT s.aB):=by congr 1;rw[show (1:Int)-1+dT s.aB=dT s.aB by omega]
     rw[e1];have e2:w9 (12<d-1+max (max (jA s.aQ+1) (jA s.aX+1)) (jA l))=(w9 (12<d+1-1+jA s.aQ)||(w9 (12<d+1-1+jA s.aX)||w9 (12<d-1+jA l))):=by
      rw[<-Bool.decide_or,<-Bool.decide_or];apply decide_eq_decide.2;omega
     rw[e2];generalize w9 (12<dT s.aB)=x1;generalize w9 (12<d+1-1+jA s.aQ)=x2;generalize w9 (12<d+1-1+jA s.aX)=x3;generalize w9 (12<d-1+jA l)=x4;generalize fS s.aQ=x5;generalize fS s.aX=x6;generalize fS l=x7;revert x1 x2 x3 x4 x5 x6 x7;decide
 exact key _ d l b (zN _) h0 hd h1 h2
def B5{α:Type}[Inhabited α]{c:Nat->α->Int}:∀(l:aa α) (i:Nat),dZ c l i=0->∀j,j<zZ l->c (i+j) l[j]! =0
 |[],i,_,j,hj=>by simp at hj
 |x::xs,i,h,j,hj=>by
  unfold dZ at h;split at h
  ·rename_i hx;cases j with
   |zero=>exact hx
   |succ j=>
    have:=B5 xs (i+1) h j (by simpa using hj);rw[show i+1+j=i+(j+1)by omega]at this
    assumption
  ·omega
def cg(vars:aa bf):Prop:=∀v∈vars,-1048576<=v.aC/\v.aC<=v.au/\v.au<=1048576
def YF{vars:aa bf}{i:Nat}{v:bf}(h:mu vars i v=0): -1048576<=v.aC/\v.aC<=v.au/\v.au<=1048576:=by
 unfold mu jD at h;grind
def nC{vars:aa bf}(h:dZ (mu vars) vars 0=0):cg vars:=λv hv=>by
 obtain⟨i,hi,e⟩:=xh hv;have:=B5 _ _ h i hi;rw[getElem!_pos vars i hi,e]at this;exact YF this
def uf(kind:Int):∀(l:aa bf) (i:Nat) (n:Int),QB (λ_ (n:Int) (v:bf)=>if 4096<n*(v.au-v.aC+1)then(.inr ():Int ⊕ Unit)else .inl (n*(v.au-v.aC+1))) (λ_=>(J:af Int)) M (l.filter λv=>w9 (v.bQ=kind)) i n=oW kind l n
 |[],i,n=>rfl
 |v::vs,i,n=>by
  unfold oW;by_cases hv:v.bQ=kind
  ·rw[List.filter_cons_of_pos (by simpa using hv),bO hv];by_cases h:4096<n*(v.au-v.aC+1)
   ·rw[bO h,ox (r:=()) (by rw[bO h])]
   ·rw[bP h,rL (by rw[bP h])];exact uf kind vs (i+1) _
  ·rw[List.filter_cons_of_neg (by simpa using hv),bP hv];exact uf kind vs i n
def Hg(kind:Int):∀(l:aa bf) (i:Nat) (n:Int),QB (λ_ (n:Int) (v:bf)=>if v.bQ=kind then(if 4096<n*(v.au-v.aC+1)then(.inr ():Int ⊕ Unit)else .inl (n*(v.au-v.aC+1)))else .inl n) (λ_=>(J:af Int)) M l i n=oW kind l n
 |[],i,n=>rfl
 |v::vs,i,n=>by
  unfold oW;by_cases hv:v.bQ=kind
  ·rw[bO hv];by_cases h:4096<n*(v.au-v.aC+1)
   ·rw[bO h,ox (r:=()) (by rw[bO hv,bO h])]
   ·rw[bP h,rL (b':=n*(v.au-v.aC+1)) (by rw[bO hv,bP h])];exact Hg kind vs (i+1) _
  ·rw[bP hv,rL (b':=n) (by rw[bP hv])];exact Hg kind vs (i+1) n
def Dy{v:bf}(h: -1048576<=v.aC/\v.aC<=v.au/\v.au<=1048576){n:Int}(h1:1<=n)(h2:n<=4096):
  1<=n*(v.au-v.aC+1)/\ak (v.au-v.aC)=v.au-v.aC/\ak (v.au-v.aC+1)=v.au-v.aC+1/\ak (n*(v.au-v.aC+1))=n*(v.au-v.aC+1):=by
 have e1:0<=(n-1)*(v.au-v.aC+1):=yo aj aj;have e2:n*(v.au-v.aC+1)<=4096*(v.au-v.aC+1):=xe h2 aj;have e3:(n-1)*(v.au-v.aC+1)=n*(v.au-v.aC+1)-(v.au-v.aC+1):=by rw[Int.sub_mul,Int.one_mul]
 exact⟨aj,aI,aI,aI⟩
def Zp(vars:aa bf)(hv:cg vars)(hl:zZ vars<=1000000)(kind:Int):tD ⟨kind,[],vars,(zZ vars:Int),0⟩=M ⟨kind,vars.filter (λv=>w9 (v.bQ=kind)),vars,(zZ vars:Int),(zZ vars:Int)⟩:=by
 obtain⟨v,e1,hV⟩:=cZ (rnd:=DX) (zZ vars) (λi (b:aa bf)=>⟨kind,b,vars,(zZ vars:Int),(i:Int)⟩) (λi b=>b=(vars.take i).filter λv=>w9 (v.bQ=kind)) (λi b hi hb=>by
  have hw:=jy hi hl;have hv:=hv _ (bg hi);have hb2:zZ b<=i:=by rw[hb];exact zK (w6 _ _) (by rw[zL];omega)
  rw[bV hi,yj,<-hb];by_cases hk:vars[i]!.bQ=kind
  ·refine⟨b++[vars[i]!],?_,?_⟩
   ·have hl2:zZ (b++[vars[i]!])<=1073741824:=by simp;omega
    unfold DX ov;grind
   ·revert hk;generalize vars[i]! =x;intro hk;simp[hk]
  ·refine⟨b,?_,?_⟩
   ·unfold DX ov;grind
   ·revert hk;generalize vars[i]! =x;intro hk;simp[hk]) (λb _=>by unfold DX ov;simp) (b:=[]) rfl
 rw[yh]at hV;rw[<-hV];exact e1
def Z4(F:aa bf)(hv:cg F)(hl:zZ F<=1000000):
  ∃(i:Nat) (n:Int),tP ⟨F,1,F,(zZ F:Int),0⟩=M ⟨F,n,F,(zZ F:Int),(i:Int)⟩/\((i=zZ F/\QB (λ_ (n:Int) (v:bf)=>if 4096<n*(v.au-v.aC+1)then(.inr ():Int ⊕ Unit)else .inl (n*(v.au-v.aC+1))) (λ_=>(J:af Int)) M F 0 1=M n)\/
   (i<zZ F/\4096<ak (n*YO F[i]!)/\QB (λ_ (n:Int) (v:bf)=>if 4096<n*(v.au-v.aC+1)then(.inr ():Int ⊕ Unit)else .inl (n*(v.au-v.aC+1))) (λ_=>(J:af Int)) M F 0 1=J)):=by
 have hm:∀(i:Nat) (n:Int),i<zZ F->1<=n->n<=4096->ak (n*YO F[i]!)=n*(F[i]!.au-F[i]!.aC+1):=λi n hi h1 h2=>by
  obtain⟨a,b,c,d⟩:=Dy (hv _ (bg hi)) h1 h2;unfold YO;rw[b,c,d]
 obtain⟨i,n,e1,hI,hc⟩:=Vo (rnd:=Mf) F (λi (n:Int)=>⟨F,n,F,(zZ F:Int),(i:Int)⟩) (λ_ (n:Int) (v:bf)=>if 4096<n*(v.au-v.aC+1)then(.inr ():Int ⊕ Unit)else .inl (n*(v.au-v.aC+1))) (λ_=>(J:af Int)) M (λi n=>1<=n/\n<=4096) (λi n hi hI=>by
  have hw:=jy hi hl;have h1:=hm i n hi hI.1 hI.2;have h2:=(Dy (hv _ (bg hi)) hI.1 hI.2).1;unfold Mf p6;simp only[zw];grind) (λb _=>by unfold Mf p6;simp) (b:=1) ⟨aj,aj⟩
 refine⟨i,n,e1,?_⟩;rcases hc with ⟨h1,h2⟩|⟨h1,r,h2,h3⟩
 ·exact .inl ⟨h1,h2⟩
 ·refine .inr ⟨h1,?_,h3⟩;rw[hm i n h1 hI.1 hI.2];by_cases h:4096<n*(F[i]!.au-F[i]!.aC+1)
  ·exact h
  ·rw[bP h]at h2;cases h2
def MD(vars:aa bf)(hv:cg vars)(hl:zZ vars<=1000000)(kind:Int)(hk:kind=1\/kind=2\/kind=3):ajR vars kind=M (match oW kind vars 1 with|M n=>(n,0)|J=>(0,4)):=by
 have e0:=Zp vars hv hl kind;obtain⟨i,n,e1,hc⟩:=Z4 (vars.filter λv=>w9 (v.bQ=kind)) (λv h=>hv v (zW.1 h).1) (zK (w6 _ _) hl);rw[uf]at hc;unfold ajR axw ov p6;rcases hk with rfl|rfl|rfl
 all_goals
  simp only[e0,e1];rcases hc with ⟨rfl,hc⟩|⟨hi,h2,hc⟩
  ·simp[hc]
  ·simp only[zw,h2,hc];simp[hi]
def J1(vars:aa bf)(hv:cg vars)(hl:zZ vars<=1000000)(kind:Int):Zt vars kind=M (match oW kind vars 1 with|M n=>n|J=>4097):=by
 have hm:∀(i:Nat) (n:Int),i<zZ vars->1<=n->n<=4096->ak (n*ak (ak (vars[i]!.au-vars[i]!.aC)+1))=n*(vars[i]!.au-vars[i]!.aC+1):=λi n hi h1 h2=>by
  obtain⟨a,b,c,d⟩:=Dy (hv _ (bg hi)) h1 h2;rw[b,c,d]
 obtain⟨i,n,e1,hI,hc⟩:=Vo (rnd:=JA) vars (λi (n:Int)=>⟨vars,kind,n,(i:Int)⟩) (λ_ (n:Int) (v:bf)=>if v.bQ=kind then(if 4096<n*(v.au-v.aC+1)then(.inr ():Int ⊕ Unit)else .inl (n*(v.au-v.aC+1)))else .inl n) (λ_=>(J:af Int)) M (λi n=>1<=n/\n<=4096) (λi n hi hI=>by
  have hw:=jy hi hl;have h1:=hm i n hi hI.1 hI.2;have h2:=(Dy (hv _ (bg hi)) hI.1 hI.2).1;unfold JA Ff;simp only[zw];grind) (λb _=>by unfold JA Ff;simp) (b:=1) ⟨aj,aj⟩
 rw[Hg]at hc;have e1':Ld ⟨vars,kind,1,0⟩=M ⟨vars,kind,n,(i:Int)⟩:=e1;unfold Zt Ff;rw[e1'];rcases hc with ⟨rfl,hc⟩|⟨hi,r,h2,hc⟩
 ·simp[hc]
 ·have h1:=hm i n hi hI.1 hI.2;grind
def Jm(kind:Int):∀(l:aa bf) (n m:Int),n<=4096->oW kind l n=M m->m<=4096
 |[],n,m,h,e=>by unfold oW at e;cases e;exact h
 |v::vs,n,m,h,e=>by
  unfold oW at e;split at e
  ·split at e
   ·cases e
   ·exact Jm kind vs _ m aj e
  ·exact Jm kind vs n m h e
def afd(vars:aa bf)(hl:zZ vars<=1000000)(i:Nat)(hi:i<zZ vars):(mu vars i vars[i]! =0->HU ⟨vars,vars,(zZ vars:Int),(i:Int)⟩=M (M ⟨vars,vars,(zZ vars:Int),((i+1:Nat):Int)⟩))/\(mu vars i vars[i]!≠0->HU ⟨vars,vars,(zZ vars:Int),(i:Int)⟩=M J):=by
 have hw:=jy hi hl;have h1:=Da vars[i]!.fName;have h2:=Xc (vars.take i) (by rw[zL];omega) vars[i]!;unfold HU Nc mu;simp only[zw,Dk,h1,h2];generalize jM vars[i]!.fName=B;generalize ((vars.take i).any λw=>w.fName.toList==vars[i]!.fName.toList)=A;generalize jD vars[i]!.aC vars[i]!.au=C;cases A<;>cases B<;>cases C<;>simp only[fZ]<;>grind
def avO(vars:aa bf)(hl:zZ vars<=1000000):m98 vars=M (jb vars):=by
 obtain⟨i,e1,hc⟩:=Iz (rnd:=HU) vars (λi=>⟨vars,vars,(zZ vars:Int),(i:Int)⟩) (mu vars) (λi hi=>afd vars hl i hi) (by unfold HU Nc;simp);have e1':W7 ⟨vars,vars,(zZ vars:Int),0⟩=M ⟨vars,vars,(zZ vars:Int),(i:Int)⟩:=e1;unfold m98 Nc Fe jb;rw[e1'];dsimp only;rcases hc with ⟨rfl,hc⟩|⟨hi,h0,hc⟩
 ·have hv:=nC hc;rw[gI,fO,bP (by rw[hc];simp)];have hr:∀k:Nat,k<3->ak ((k:Int)+1)=((k+1:Nat):Int):=λk hk=>jy hk (by decide);have k1:=MD vars hv hl 1 (.inl rfl);have k2:=MD vars hv hl 2 (.inr (.inl rfl));have k3:=MD vars hv hl 3 (.inr (.inr rfl));have r1:B4 ⟨vars,[1,2,3],3,0⟩=match oW 1 vars 1 with|M _=>M (M ⟨vars,[1,2,3],3,1⟩)|J=>M J:=by
   unfold B4 Fe;simp[k1];cases oW 1 vars 1 with
   |none=>simp
   |some n=>simp;exact hr 0 (by decide)
  have r2:B4 ⟨vars,[1,2,3],3,1⟩=match oW 2 vars 1 with|M _=>M (M ⟨vars,[1,2,3],3,2⟩)|J=>M J:=by
   unfold B4 Fe;simp[k2];cases oW 2 vars 1 with
   |none=>simp
   |some n=>simp;exact hr 1 (by decide)
  have r3:B4 ⟨vars,[1,2,3],3,2⟩=match oW 3 vars 1 with|M n=>if 256<n then M J else M (M ⟨vars,[1,2,3],3,3⟩)|J=>M J:=by
   unfold B4 Fe;simp[k3];cases oW 3 vars 1 with
   |none=>simp
   |some n=>
    by_cases h:256<n
    ·simp[h]
    ·simp[h];exact hr 2 (by decide)
  unfold Mc;cases s1:oW 1 vars 1 with
  |none=>
   rw[s1]at r1 k1;have e:CC ⟨vars,[1,2,3],3,0⟩=M ⟨vars,[1,2,3],3,0⟩:=cW λr=>by rw[r1];simp
   rw[show ((↑(3:Int):Int))=3 from rfl,e];simp[k1]
  |some n1=>
   rw[s1]at r1 k1;cases s2:oW 2 vars 1 with
   |none=>
    rw[s2]at r2 k2;have e:CC ⟨vars,[1,2,3],3,0⟩=M ⟨vars,[1,2,3],3,1⟩:=(cT r1).trans (cW λr=>by rw[r2];simp);rw[show ((↑(3:Int):Int))=3 from rfl,e];simp[k2]
   |some n2=>
    rw[s2]at r2 k2;cases s3:oW 3 vars 1 with
    |none=>
     rw[s3]at r3 k3;have e:CC ⟨vars,[1,2,3],3,0⟩=M ⟨vars,[1,2,3],3,2⟩:=(cT r1).trans ((cT r2).trans (cW λr=>by rw[r3];simp));rw[show ((↑(3:Int):Int))=3 from rfl,e];simp[k3]
    |some n3=>
     rw[s3]at r3 k3;dsimp only at r3;by_cases h:256<n3
     ·rw[bO h]at r3;have e:CC ⟨vars,[1,2,3],3,0⟩=M ⟨vars,[1,2,3],3,2⟩:=(cT r1).trans ((cT r2).trans (cW λr=>by rw[r3];simp));rw[show ((↑(3:Int):Int))=3 from rfl,e];simp[k3,h]
     ·rw[bP h]at r3;have e:CC ⟨vars,[1,2,3],3,0⟩=M ⟨vars,[1,2,3],3,3⟩:=(cT r1).trans ((cT r2).trans ((cT r3).trans (cW λr=>by unfold B4 Fe;simp)));rw[show ((↑(3:Int):Int))=3 from rfl,e];simp[h]
 ·have h1:=Da vars[i]!.fName;have h2:=Xc (vars.take i) (by rw[zL];omega) vars[i]!;rw[hc,bO h0];revert h0;unfold mu;simp only[zS,zw,Dk,h1,h2];generalize jM vars[i]!.fName=B;generalize ((vars.take i).any λw=>w.fName.toList==vars[i]!.fName.toList)=A;generalize jD vars[i]!.aC vars[i]!.au=C;intro h0;cases A<;>cases B<;>cases C<;>simp only[dP]at h0 ⊢ <;>grind
def amF(vars:aa bf)(hl:zZ vars<=1000000)(i:Nat)(hi:i<zZ vars):(mu vars i vars[i]! =0->HV ⟨vars,(i:Int)⟩=M (M ⟨vars,((i+1:Nat):Int)⟩))/\(mu vars i vars[i]!≠0->HV ⟨vars,(i:Int)⟩=M J):=by
 have hw:=jy hi hl;have h1:=JO vars[i]!.fName;obtain⟨j,h2,h3⟩:=Nu vars hl i aj vars[i]!;unfold HV No DL mu;simp only[zw,Lr,h1,h2];generalize jM vars[i]!.fName=B;generalize ((vars.take i).any λw=>w.fName.toList==vars[i]!.fName.toList)=A at h3;generalize jD vars[i]!.aC vars[i]!.au=C;rcases h3 with ⟨rfl,rfl⟩|⟨hj,h4,rfl⟩
 ·cases B<;>cases C<;>simp only[fZ]<;>grind
 ·simp only;cases B<;>cases C<;>simp only[fZ]<;>grind
def avp(vars:aa bf)(hl:zZ vars<=1000000):m51 vars=M (jb vars):=by
 obtain⟨i,e1,hc⟩:=Iz (rnd:=HV) vars (λi=>⟨vars,(i:Int)⟩) (mu vars) (λi hi=>amF vars hl i hi) (by unfold HV No DL;simp);have e1':UH ⟨vars,0⟩=M ⟨vars,(i:Int)⟩:=e1;unfold m51 No DL jb;rw[e1'];dsimp only;rcases hc with ⟨rfl,hc⟩|⟨hi,h0,hc⟩
 ·have hv:=nC hc;rw[J1 vars hv hl 1,J1 vars hv hl 2,J1 vars hv hl 3];have b1:=Jm 1 vars 1;have b2:=Jm 2 vars 1;unfold Mc;revert b1 b2;cases oW 1 vars 1<;>cases oW 2 vars 1<;>cases oW 3 vars 1<;>intro b1 b2<;>simp only[yF,y9]<;>(try have c1:=b1 _ aj rfl)<;>(try have c2:=b2 _ aj rfl)<;>grind
 ·have h1:=JO vars[i]!.fName;obtain⟨j,h2,h3⟩:=Nu vars hl i aj vars[i]!;rw[hc,bO h0];revert h0;unfold mu;simp only[zw,Lr,h1,h2];generalize jM vars[i]!.fName=B;generalize ((vars.take i).any λw=>w.fName.toList==vars[i]!.fName.toList)=A at h3;generalize jD vars[i]!.aC vars[i]!.au=C;intro h0;rcases h3 with ⟨rfl,rfl⟩|⟨hj,h4,rfl⟩
  ·cases B<;>cases C<;>simp only[fZ]at h0 ⊢ <;>grind
  ·simp only[h4];cases B<;>cases C<;>simp only[dP]at h0 ⊢ <;>grind
def am7(o:Int):Qa o=bZ o:=by
 unfold Qa bZ;grind
def aj0(o:Int):HA o=if o=25 then-2 else(bZ o).1:=by
 unfold HA bZ;grind (splits:=40)
def ald(zf:aa bf->ay->Bool->af amX)(vars:aa bf)(inp:Bool)(t:ay)(hM:∀k∈t.ax,zf vars k inp=M (dh vars inp k)):arR zf vars t inp=M (dh vars inp t):=by
 have key:zZ t.ax<=1000000->∃i:Nat,Bl zf ⟨vars,inp,t.ax,(zZ t.ax:Int),0⟩=M ⟨vars,inp,t.ax,(zZ t.ax:Int),(i:Int)⟩/\((i=zZ t.ax/\t.ax.all (dh vars inp)=Z)\/(i<zZ t.ax/\dh vars inp t.ax[i]! =O/\t.ax.all (dh vars inp)=O)):=λhl=>by
  obtain⟨i,e1,hc⟩:=pS (rnd:=Kn zf) t.ax (λi=>⟨vars,inp,t.ax,(zZ t.ax:Int),(i:Int)⟩) (λ_ k=>dh vars inp k) (λi hi=>by
   have hw:=jy hi hl;have hk:=hM _ (bg hi);unfold Kn sX;simp only[zw,ay.eta,hk,hw];cases dh vars inp t.ax[i]! <;>simp[hi]) (by unfold Kn sX;simp)
  refine⟨i,e1,?_⟩;rcases hc with ⟨rfl,hc⟩|⟨hi,hc⟩
  ·exact .inl ⟨rfl,Gx hc⟩
  ·exact .inr ⟨hi,hc,vN hi hc⟩
 unfold arR sX;rw[am7,lD];unfold Cc;by_cases hn:0<=(bZ t.bA).1/\(bZ t.bA).1<=zZ t.ax/\(zZ t.ax:Int)<=(bZ t.bA).2
 ·have h33:(bZ t.bA).2<=33:=by unfold bZ;grind
  obtain⟨i,e,hc⟩:=key aj;rw[l8 hn,iU (show ¬(bZ t.bA).1<0 by omega),iU (show ¬(zZ t.ax:Int)<(bZ t.bA).1 by omega),iU (show ¬(bZ t.bA).2<(zZ t.ax:Int)by omega),e];generalize t.ax.all (dh vars inp)=A at hc;simp only[zw];rcases hc with ⟨rfl,rfl⟩|⟨hi,h2,rfl⟩
  ·cases inp<;>grind
  ·have hk:=hM _ (bg hi);simp only[ay.eta];cases inp<;>grind
 ·rw[iU hn];grind
def Uh(vars:aa bf)(inp:Bool):∀(n:Nat) (t:ay),zi t<n->aa9 n vars t inp=M (dh vars inp t)
 |0,_,h=>aj
 |n+1,t,h=>ald (aa9 n) vars inp t (λk hk=>Uh vars inp n k (by have:=ay.eF hk;omega))
def ajD(vars:aa bf)(inp:Bool)(t:ay):aic vars t inp=M (dh vars inp t):=dc (zi t+1) λn hn=>Uh vars inp n t aj
def amr(zf:aa bf->ay->Bool->af amH)(vars:aa bf)(inp:Bool)(t:ay)(hM:∀k∈t.ax,zf vars k inp=M (dh vars inp k)):avm zf vars t inp=M (dh vars inp t):=by
 have key:zZ t.ax<=1000000->∃i:Nat,Ga zf ⟨vars,inp,0,t⟩=M ⟨vars,inp,(i:Int),t⟩/\((i=zZ t.ax/\t.ax.all (dh vars inp)=Z)\/(i<zZ t.ax/\dh vars inp t.ax[i]! =O/\t.ax.all (dh vars inp)=O)):=λhl=>by
  obtain⟨i,e1,hc⟩:=pS (rnd:=Jl zf) t.ax (λi=>⟨vars,inp,(i:Int),t⟩) (λ_ k=>dh vars inp k) (λi hi=>by
   have hw:=jy hi hl;have hk:=hM _ (bg hi);unfold Jl AZ;dsimp only;simp only[zw,ay.eta,hk,hw];cases dh vars inp t.ax[i]! <;>simp[hi]) (by unfold Jl AZ;simp)
  refine⟨i,e1,?_⟩;rcases hc with ⟨rfl,hc⟩|⟨hi,hc⟩
  ·exact .inl ⟨rfl,Gx hc⟩
  ·exact .inr ⟨hi,hc,vN hi hc⟩
 unfold avm AZ;rw[aj0,lD];unfold Cc;have hk0:(bZ t.bA).1= -1\/0<=(bZ t.bA).1:=by unfold bZ;grind
 have hk1:t.bA≠25->(bZ t.bA).1=(bZ t.bA).2:=by unfold bZ;grind
 have hk2:t.bA=25->bZ t.bA=(2,33):=by unfold bZ;grind
 have h33:(bZ t.bA).2<=33:=by unfold bZ;grind
 have hk3:t.bA=25->(bZ t.bA).1=2/\(bZ t.bA).2=33:=λh=>by rw[hk2 h];exact⟨rfl,rfl⟩
 generalize (bZ t.bA).1=a at*;generalize (bZ t.bA).2=b at*;by_cases hn:0<=a/\a<=zZ t.ax/\(zZ t.ax:Int)<=b
 ·obtain⟨i,e,hc⟩:=key aj;rw[l8 hn,ay.eta,e];generalize t.ax.all (dh vars inp)=A at hc;simp only[zS,zw];rcases hc with ⟨rfl,rfl⟩|⟨hi,h2,rfl⟩
  ·cases inp<;>grind
  ·have hk:=hM _ (bg hi);simp only[ay.eta,hk,h2];by_cases h25:t.bA=25
   ·rw[bO h25,h25];cases inp<;>grind (splits:=30)
   ·rw[bP h25];cases inp<;>grind (splits:=30)
 ·rw[iU hn];grind
def UN(vars:aa bf)(inp:Bool):∀(n:Nat) (t:ay),zi t<n->agI n vars t inp=M (dh vars inp t)
 |0,_,h=>aj
 |n+1,t,h=>amr (agI n) vars inp t (λk hk=>UN vars inp n k (by have:=ay.eF hk;omega))
def alb(vars:aa bf)(inp:Bool)(t:ay):ak6 vars t inp=M (dh vars inp t):=dc (zi t+1) λn hn=>UN vars inp n t aj
def Dl(s:Span):Prop:= -1048576<=s.aC/\s.aC<=s.au/\s.au<=1048576
def CY(a b:Span):Y1 a b=fE a b:=rfl
def ot{a b:Int}(h1: -1048576<=a)(h2:a<=1048576)(h3: -1048576<=b)(h4:b<=1048576): -1099511627776<=a*b/\a*b<=1099511627776:=by
 have e1:(1048576-a)*(1048576-b)≥0:=yo aj aj;have e2:(1048576+a)*(1048576+b)≥0:=yo aj aj;have e3:(1048576-a)*(1048576+b)≥0:=yo aj aj;have e4:(1048576+a)*(1048576-b)≥0:=yo aj aj;grind
def alL(a b:Span)(ha:Dl a)(hb:Dl b):amI a b=M (fE (fE (fE ⟨a.aC*b.aC,a.aC*b.aC⟩ ⟨a.aC*b.au,a.aC*b.au⟩) ⟨a.au*b.aC,a.au*b.aC⟩) ⟨a.au*b.au,a.au*b.au⟩):=by
 unfold Dl at ha hb;have w1:AW a.aC b.aC=a.aC*b.aC:=by have:=ot (a:=a.aC) (b:=b.aC) aj aj aj aj;exact aI
 have w2:AW a.aC b.au=a.aC*b.au:=by have:=ot (a:=a.aC) (b:=b.au) aj aj aj aj;exact aI
 have w3:AW a.au b.aC=a.au*b.aC:=by have:=ot (a:=a.au) (b:=b.aC) aj aj aj aj;exact aI
 have w4:AW a.au b.au=a.au*b.au:=by have:=ot (a:=a.au) (b:=b.au) aj aj aj aj;exact aI
 unfold amI ua;rw[w1,w2,w3,w4];generalize a.aC*b.aC=p;generalize a.aC*b.au=q;generalize a.au*b.aC=r;generalize a.au*b.au=s;have e:FY ⟨[q,r,s],(3:Int),0,⟨0,0⟩,⟨p,p⟩⟩=M ⟨[q,r,s],3,3,⟨0,0⟩,fE (fE (fE ⟨p,p⟩ ⟨q,q⟩) ⟨r,r⟩) ⟨s,s⟩⟩:=by
  have k1:p7 ⟨[q,r,s],(3:Int),0,⟨0,0⟩,⟨p,p⟩⟩=M (M ⟨[q,r,s],(3:Int),1,⟨0,0⟩,fE ⟨p,p⟩ ⟨q,q⟩⟩):=by unfold p7 ua;simp[CY,aI]
  have k2:p7 ⟨[q,r,s],(3:Int),1,⟨0,0⟩,fE ⟨p,p⟩ ⟨q,q⟩⟩=M (M ⟨[q,r,s],(3:Int),2,⟨0,0⟩,fE (fE ⟨p,p⟩ ⟨q,q⟩) ⟨r,r⟩⟩):=by unfold p7 ua;simp[CY,aI]
  have k3:p7 ⟨[q,r,s],(3:Int),2,⟨0,0⟩,fE (fE ⟨p,p⟩ ⟨q,q⟩) ⟨r,r⟩⟩=M (M ⟨[q,r,s],(3:Int),3,⟨0,0⟩,fE (fE (fE ⟨p,p⟩ ⟨q,q⟩) ⟨r,r⟩) ⟨s,s⟩⟩):=by unfold p7 ua;simp[CY,aI]
  unfold FY;rw[cT k1,cT k2,cT k3];exact cW λr=>by unfold p7 ua;simp
 rw[show (zZ ([q,r,s]:aa Int):Int)=3 from rfl,e];simp
def aiI{a b:Span}(ha:Dl a)(hb:Dl b):Dl (fE a b):=by
 unfold Dl fE at*;grind
def mC:∀(l:aa Span) (a:Span),Dl a->(∀x∈l,Dl x)->Dl (l.foldl fE a)
 |[],a,ha,_=>ha
 |x::l,a,ha,h=>mC l (fE a x) (aiI ha (h x (zm ..))) λy hy=>h y (zM _ hy)
def Yt(l:aa Span)(hl:zZ l<=1000000)(z a:Span):Fy ⟨l,(zZ l:Int),0,z,a⟩=M ⟨l,(zZ l:Int),(zZ l:Int),z,l.foldl fE a⟩:=by
 obtain⟨v,e1,hv⟩:=cZ (rnd:=JN) (zZ l) (λi (b:Span)=>⟨l,(zZ l:Int),(i:Int),z,b⟩) (λi b=>b=(l.take i).foldl fE a) (λi b hi hb=>by
  have hw:=jy hi hl;refine⟨fE b l[i]!,?_,?_⟩
  ·unfold JN BY;simp only[CY];grind
  ·rw[bV hi,wC,hb];rfl) (λb _=>by unfold JN BY;simp) (b:=a) rfl
 rw[yh]at hv;rw[<-hv];exact e1
def AA(vars:aa bf)(t:ay)(k:aa Span):Prop:=(0<=(bZ t.bA).1/\(bZ t.bA).1<=zZ k/\(zZ k:Int)<=(bZ t.bA).2)/\(t.bA=24->0<=t.fN/\t.fN<zZ vars)/\∀s∈k,Dl s
def aoa(vars:aa bf)(t:ay)(k:aa Span)(h:AA vars t k):aiG vars t k=M (iY vars t k):=by
 obtain⟨hk,h24,hI⟩:=h;have h0:1<=(bZ t.bA).1->Dl k[0]! :=λh=>hI _ (bg aj);have h1:2<=(bZ t.bA).1->Dl k[1]! :=λh=>hI _ (bg aj);have h33:(bZ t.bA).2<=33:=by unfold bZ;grind
 have hd:zZ (k.drop 2)<=1000000:=by rw[zX];omega
 have W:∀n:Int,-8796093022208<=n->n<=8796093022208->ak n=n:=λn a b=>aI;unfold aiG BY iY;rw[Yt _ hd];have cs:t.bA=0\/t.bA=24\/t.bA=6\/t.bA=8\/t.bA=9\/t.bA=10\/t.bA=11\/t.bA=12\/t.bA=21\/t.bA=22\/t.bA=23\/t.bA=25\/(t.bA≠0/\t.bA≠24/\t.bA≠6/\t.bA≠8/\t.bA≠9/\t.bA≠10/\t.bA≠11/\t.bA≠12/\t.bA≠21/\t.bA≠22/\t.bA≠23/\t.bA≠25):=aj;rcases cs with h|h|h|h|h|h|h|h|h|h|h|h|h
 ·simp[h]
 ·simp[h,h24 h]
 ·have hl:1<=(bZ t.bA).1:=by rw[h];decide
  obtain⟨a1,a2,a3⟩:=h0 hl;have w1:ak ((0:Int)-k[0]!.au)= -k[0]!.au:=by rw[W _ aj aj];omega
  have w2:ak ((0:Int)-k[0]!.aC)= -k[0]!.aC:=by rw[W _ aj aj];omega
  have i0:(0:Int)<(zZ k:Int):=aj;simp only[Z0,h,zS,Int.reduceEq,reduceIte,i0,w1,w2,zG,Au]
 ·have hl:2<=(bZ t.bA).1:=by rw[h];decide
  obtain⟨a1,a2,a3⟩:=h0 aj;obtain⟨b1,b2,b3⟩:=h1 hl;have w1:=W (k[0]!.aC+k[1]!.aC) aj aj;have w2:=W (k[0]!.au+k[1]!.au) aj aj;have i0:(0:Int)<(zZ k:Int):=aj;have i1:(1:Int)<(zZ k:Int):=aj;simp only[Z0,h,zS,Int.reduceEq,Int.reduceLE,reduceIte,i0,i1,w1,w2,zG,Au,dx]
 ·have hl:2<=(bZ t.bA).1:=by rw[h];decide
  obtain⟨a1,a2,a3⟩:=h0 aj;obtain⟨b1,b2,b3⟩:=h1 hl;have w1:=W (k[0]!.aC-k[1]!.au) aj aj;have w2:=W (k[0]!.au-k[1]!.aC) aj aj;have i0:(0:Int)<(zZ k:Int):=aj;have i1:(1:Int)<(zZ k:Int):=aj;simp only[Z0,h,zS,Int.reduceEq,Int.reduceLE,reduceIte,i0,i1,w1,w2,zG,Au,dx]
 ·have hl:2<=(bZ t.bA).1:=by rw[h];decide
  have e18:=alL _ _ (h0 aj) (h1 hl);have i0:(0:Int)<(zZ k:Int):=aj;have i1:(1:Int)<(zZ k:Int):=aj;simp only[Z0,h,zS,Int.reduceEq,Int.reduceLE,reduceIte,i0,i1,e18,zG,Au,dx]
 ·have hl:2<=(bZ t.bA).1:=by rw[h];decide
  obtain⟨a1,a2,a3⟩:=h0 aj;obtain⟨b1,b2,b3⟩:=h1 hl;have w1:ak ((0:Int)-k[0]!.aC)= -k[0]!.aC:=by rw[W _ aj aj];omega
  have w2:ak ((0:Int)-if k[0]!.au< -k[0]!.aC then-k[0]!.aC else k[0]!.au)= -(if k[0]!.au< -k[0]!.aC then-k[0]!.aC else k[0]!.au):=by split<;>(rw[W _ aj aj];omega)
  have i0:(0:Int)<(zZ k:Int):=aj;have i1:(1:Int)<(zZ k:Int):=aj;simp only[Z0,h,zS,Int.reduceEq,Int.reduceLE,reduceIte,i0,i1,w1,w2,zG,Au,dx];by_cases c1:(0:Int)<=k[0]!.aC<;>by_cases c2:(0:Int)<=k[1]!.aC<;>simp only[dS,dP,lG,c1,c2,and_true,and_false]
 ·have hl:2<=(bZ t.bA).1:=by rw[h];decide
  obtain⟨b1,b2,b3⟩:=h1 hl;have w1:=W (k[1]!.aC+1) aj aj;have w2:=W (k[1]!.au-1) aj aj;have i1:(1:Int)<(zZ k:Int):=aj;simp only[Z0,h,zS,Int.reduceEq,Int.reduceLE,reduceIte,i1,w1,w2,zG,Au,dx];by_cases c1:k[1]!.aC<0<;>by_cases c2:(0:Int)<k[1]!.au<;>simp only[lG,c1,c2]
  ·rw[nB,nB]
  ·rw[nB]
  ·rw[nB]
 ·have hl:2<=(bZ t.bA).1:=by rw[h];decide
  have i0:(0:Int)<(zZ k:Int):=aj;have i1:(1:Int)<(zZ k:Int):=aj;simp only[Z0,h,zS,Int.reduceEq,Int.reduceLE,reduceIte,i0,i1,zG,Au,dx]
 ·have hl:2<=(bZ t.bA).1:=by rw[h];decide
  have i0:(0:Int)<(zZ k:Int):=aj;have i1:(1:Int)<(zZ k:Int):=aj;simp only[Z0,h,zS,Int.reduceEq,Int.reduceLE,reduceIte,i0,i1,zG,Au,dx]
 ·have hl:2<=(bZ t.bA).1:=by rw[h];decide
  have i1:(1:Int)<(zZ k:Int):=aj;have i2:(2:Int)<=(zZ k:Int):=aj;simp only[lG,Z0,h,zS,Int.reduceEq,Int.reduceLE,reduceIte,i1,i2,zG,Au,zO,true_or]
 ·have hl:2<=(bZ t.bA).1:=by rw[h];decide
  have i1:(1:Int)<(zZ k:Int):=aj;have i2:(2:Int)<=(zZ k:Int):=aj;simp only[lG,Z0,h,zS,Int.reduceEq,Int.reduceLE,reduceIte,i1,i2,zG,Au,zO,or_true]
 ·obtain⟨c1,c2,c3,c4,c5,c6,c7,c8,c9,c18,c11,c12⟩:=h;simp only[c1,c2,c3,c4,c5,c6,c7,c8,c9,c18,c11,c12,zS,AE,or_self]
def aeT(vars:aa bf)(hv:cg vars)(t:ay)(k:aa Span)(h:AA vars t k):(iY vars t k).aC<=(iY vars t k).au:=by
 obtain⟨hk,h24,hI⟩:=h;have h0:1<=(bZ t.bA).1->Dl k[0]! :=λh=>hI _ (bg aj);have h1:2<=(bZ t.bA).1->Dl k[1]! :=λh=>hI _ (bg aj);unfold iY;have cs:t.bA=0\/t.bA=24\/t.bA=6\/t.bA=8\/t.bA=9\/t.bA=10\/t.bA=11\/t.bA=12\/t.bA=21\/t.bA=22\/t.bA=23\/t.bA=25\/(t.bA≠0/\t.bA≠24/\t.bA≠6/\t.bA≠8/\t.bA≠9/\t.bA≠10/\t.bA≠11/\t.bA≠12/\t.bA≠21/\t.bA≠22/\t.bA≠23/\t.bA≠25):=aj;rcases cs with h|h|h|h|h|h|h|h|h|h|h|h|h
 ·simp[h]
 ·have hm:vars[t.fN.toNat]!∈vars:=bg (by have:=h24 h;omega);have:=hv _ hm;simp only[h,Int.reduceEq,reduceIte];omega
 ·obtain⟨a1,a2,a3⟩:=h0 (by rw[h];decide);simp only[h,Int.reduceEq,reduceIte];omega
 ·obtain⟨a1,a2,a3⟩:=h0 (by rw[h];decide);obtain⟨b1,b2,b3⟩:=h1 (by rw[h];decide);simp only[h,Int.reduceEq,reduceIte];omega
 ·obtain⟨a1,a2,a3⟩:=h0 (by rw[h];decide);obtain⟨b1,b2,b3⟩:=h1 (by rw[h];decide);simp only[h,Int.reduceEq,reduceIte];omega
 ·simp only[h,Int.reduceEq,reduceIte,fE];omega
 ·obtain⟨a1,a2,a3⟩:=h0 (by rw[h];decide);grind
 ·simp only[h];grind
 ·obtain⟨a1,a2,a3⟩:=h0 (by rw[h];decide);obtain⟨b1,b2,b3⟩:=h1 (by rw[h];decide);simp only[h,Int.reduceEq];grind
 ·obtain⟨a1,a2,a3⟩:=h0 (by rw[h];decide);obtain⟨b1,b2,b3⟩:=h1 (by rw[h];decide);simp only[h,Int.reduceEq,reduceIte];grind
 ·have:=mC (k.drop 2) k[1]! (h1 (by rw[h];decide)) λx hx=>hI x (wG hx);simp only[h,Int.reduceEq,reduceIte,true_or,dx];exact this.2.1
 ·have:=mC (k.drop 2) k[1]! (h1 (by rw[h];decide)) λx hx=>hI x (wG hx);simp only[h,Int.reduceEq,reduceIte,or_true,dx];exact this.2.1
 ·obtain⟨c1,c2,c3,c4,c5,c6,c7,c8,c9,c18,c11,c12⟩:=h;simp only[c1,c2,c3,c4,c5,c6,c7,c8,c9,c18,c11,c12,AE,or_self];decide
def nr:∀{l:aa (af Span)} {r:aa Span},kg l=M r->l=r.map M
 |[],r,h=>by unfold kg at h;cases h;rfl
 |none::l,r,h=>by unfold kg at h;cases h
 |some s::l,r,h=>by
  unfold kg at h;cases hl:kg l with
  |none=>rw[hl]at h;cases h
  |some q=>rw[hl]at h;cases h;rw[nr hl];rfl
def MP(l:aa Span):kg (l.map M)=M l:=by
 induction l with
 |nil=>rfl
 |cons s l ih=>rw[zI,kg,ih]
def BS:∀{l:aa (af Span)},J∈l->kg l=J
 |none::l,h=>rfl
 |some s::l,h=>by
  unfold kg;rw[BS (by simpa using h)]
def Ip{vars:aa bf}{inp:Bool}{t:ay}{k:aa Span}(hf:Cc vars inp t=Z)(hl:zZ k=zZ t.ax)(hI:∀s∈k,Dl s):AA vars t k:=by
 unfold Cc at hf;refine⟨?_,?_,hI⟩
 ·simp_all
 ·intro h;simp_all
def anA(vars:aa bf)(hv:cg vars)(inp:Bool)(t:ay)(s:Span)(hf:dh vars inp t=Z)(h:gM vars t=M s):Dl s:=by
 have key:∀(n:Nat) (t:ay) (s:Span),zi t<n->dh vars inp t=Z->gM vars t=M s->Dl s:=by
  intro n;induction n with
  |zero=>intro t s h;omega
  |succ n ih=>
   intro t s hz hf h;rw[lD,zh,zn]at hf;rw[q8]at h;cases ha:kg (t.ax.map (gM vars))with
   |none=>rw[ha]at h;cases h
   |some k=>
    rw[ha]at h;dsimp only at h;have hm:=nr ha;have hl:zZ k=zZ t.ax:=by have:=congrArg zZ hm;simpa using this.symm
    have hI:∀s∈k,Dl s:=λx hx=>by
     have:M x∈t.ax.map (gM vars):=by rw[hm];exact List.mem_map_of_mem hx
     obtain⟨c,hc,e⟩:=zC.1 this;exact ih c x (by have:=ay.eF hc;omega) (hf.2 c hc) e
    have ho:=aeT vars hv t k (Ip hf.1 hl hI);split at h
    ·rename_i hlim;unfold Al at hlim;unfold Dl;grind
    ·cases h
 exact key _ t s (zN _) hf h
def vF(vars:aa bf)(t:ay):Span×Bool:=match kg (t.ax.map (gM vars))with
 |none=>(⟨0,0⟩,O)
 |some l=>(iY vars t l,Al (iY vars t l))
def J4(vars:aa bf)(t:ay):gM vars t=if(vF vars t).2=Z then M (vF vars t).1 else J:=by
 rw[q8,vF];grind
def u9{vars:aa bf}(hv:cg vars){inp:Bool}{t:ay}{k:aa Span}(hf:dh vars inp t=Z)(ha:kg (t.ax.map (gM vars))=M k):AA vars t k:=by
 rw[lD,zh,zn]at hf;have hm:=nr ha;refine Ip hf.1 (by have:=congrArg zZ hm;simpa using this.symm) λx hx=> ?_;have:M x∈t.ax.map (gM vars):=by rw[hm];exact List.mem_map_of_mem hx
 obtain⟨c,hc,e⟩:=zC.1 this;exact anA vars hv inp c x (hf.2 c hc) e
def Pf{vars:aa bf}{inp:Bool}{t:ay}(hf:dh vars inp t=Z):zZ t.ax<=33:=by
 rw[lD,zh]at hf;have:=hf.1;unfold Cc at this;have h33:(bZ t.bA).2<=33:=by unfold bZ;grind
 simp only[zh,decide_eq_true_eq]at this;omega
def nh{vars:aa bf}{inp:Bool}{t k:ay}(hf:dh vars inp t=Z)(hk:k∈t.ax):dh vars inp k=Z:=by
 rw[lD,zh,zn]at hf;simp_all
def aju(zf:aa bf->ay->af amT)(vars:aa bf)(hv:cg vars)(inp:Bool)(t:ay)(hf:dh vars inp t=Z)(hM:∀k∈t.ax,zf vars k=M (vF vars k)):axH zf vars t=M (vF vars t):=by
 have h33:=Pf hf;obtain⟨i,b,e1,hI,hc⟩:=oO (rnd:=DU zf) (zZ t.ax) (λi (b:aa Span)=>⟨vars,b,t.ax,(zZ t.ax:Int),(i:Int),t,⟨0,0⟩⟩) (λi b=>(t.ax.take i).map (gM vars)=b.map M) (λi _=>(vF vars t.ax[i]!).2=O) (λi b hi hb=>by
  have hw:=jy hi aj;have hk:=hM _ (bg hi);have hlen:zZ b=i:=by have:=congrArg zZ hb;simp at this;omega
  cases hx:(vF vars t.ax[i]!).2 with
  |true=>
   refine .inl ⟨b++[(vF vars t.ax[i]!).1],?_,?_⟩
   ·have hl2:zZ (b++[(vF vars t.ax[i]!).1])<=1073741824:=by simp;omega
    unfold DU AB;simp only[zw,ay.eta,hk,hx,hl2,hw];simp[hi]
   ·rw[bV hi,zH,hb,zH];rw[zI,zI,J4,bO hx];rfl
  |false=>
   unfold DU AB;simp only[zw,ay.eta,hk,hx];simp[hi]) (λb _=>by unfold DU AB;simp) (b:=[]) rfl
 have e1':JX zf ⟨vars,[],t.ax,(zZ t.ax:Int),0,t,⟨0,0⟩⟩=M ⟨vars,b,t.ax,(zZ t.ax:Int),(i:Int),t,⟨0,0⟩⟩:=e1;unfold axH AB;rw[ay.eta,e1'];dsimp only;rcases hc with rfl|⟨hi,hx⟩
 ·rw[yh]at hI;have ha:kg (t.ax.map (gM vars))=M b:=by rw[hI];exact MP b
  rw[gI,fO,ay.eta,aoa vars t b (u9 hv hf ha)];unfold vF;unfold Al;grind
 ·have hk:=hM _ (bg hi);have ha:kg (t.ax.map (gM vars))=J:=BS (zC.2 ⟨t.ax[i]!,bg hi,by rw[J4,hx];simp⟩);rw[zDT,fZ,bO ⟨aj,aj⟩];simp only[dP,zw,ay.eta,hk,hx];unfold vF;rw[ha]
def VX(vars:aa bf)(hv:cg vars)(inp:Bool):∀(n:Nat) (t:ay),zi t<n->dh vars inp t=Z->ahr n vars t=M (vF vars t)
 |0,_,h,_=>aj
 |n+1,t,h,hf=>aju (ahr n) vars hv inp t hf (λk hk=>VX vars hv inp n k (by have:=ay.eF hk;omega) (nh hf hk))
def anx(vars:aa bf)(hv:cg vars)(inp:Bool)(t:ay)(hf:dh vars inp t=Z):am9 vars t=M (vF vars t):=dc (zi t+1) λn hn=>VX vars hv inp n t aj hf
def C9(vars:aa bf)(hv:cg vars)(inp:Bool)(t:ay):YR vars t inp=M (iX vars inp t):=by
 unfold YR iX;rw[ay.eta,ajD];cases hf:dh vars inp t with
 |false=>rfl
 |true=>
  rw[anx vars hv inp t hf,J4];dsimp only;cases (vF vars t).2<;>rfl
def vQ(vars:aa bf)(t:ay)(k:aa Span):Span:=if t.bA=0/\(t.fN< -1048576\/1048576<t.fN)then⟨-1048577,1048577⟩else iY vars t k
def ZG(vars:aa bf)(t:ay)(k:aa Span):Al (vQ vars t k)=Al (iY vars t k)/\(Al (iY vars t k)=Z->vQ vars t k=iY vars t k):=by
 unfold vQ;by_cases h:t.bA=0/\(t.fN< -1048576\/1048576<t.fN)
 ·have e:Al (iY vars t k)=O:=by
   unfold Al iY;rw[bO h.1];simp;omega
  rw[bO h,e];exact⟨by decide,λh=>by cases h⟩
 ·rw[bP h];simp
def og(a b:Int):jq a b=if a<b then a else b:=by
 unfold jq;simp
def lT(a b:Int):j8 a b=if b<a then a else b:=by
 unfold j8;simp
def iH{k:aa Span}{i:Nat}(h:i<zZ k):(k.map (·.aC))[i]! =k[i]!.aC:=by
 rw[getElem!_pos _ i (by simpa using h),getElem!_pos k i h,yy]
def gp{k:aa Span}{i:Nat}(h:i<zZ k):(k.map (·.au))[i]! =k[i]!.au:=by
 rw[getElem!_pos _ i (by simpa using h),getElem!_pos k i h,yy]
def IF(k:aa Span)(hl:zZ k<=1000000)(h2:2<=zZ k)(a:Span):FR ⟨k.map (·.aC),k.map (·.au),a.aC,a.au,2⟩=M ⟨k.map (·.aC),k.map (·.au),((k.drop 2).foldl fE a).aC,((k.drop 2).foldl fE a).au,(zZ k:Int)⟩:=by
 have hlen:zZ (k.drop 2)=zZ k-2:=zX ..;have hget:∀i,i<zZ k-2->(k.drop 2)[i]! =k[i+2]! :=λi hi=>by
  grind
 obtain⟨v,e1,hv⟩:=cZ (rnd:=Lq) (zZ k-2) (λi (b:Span)=>⟨k.map (·.aC),k.map (·.au),b.aC,b.au,((i+2:Nat):Int)⟩) (λi b=>b=((k.drop 2).take i).foldl fE a) (λi b hi hb=>by
  have hw:=jy (show i+2<zZ k by omega) hl;refine⟨fE b k[i+2]!,?_,?_⟩
  ·unfold Lq BG;simp only[zw,og,lT];unfold fE
   congr 3<;>grind
  ·rw[bV aj,wC,hb,hget i hi];rfl) (λb _=>by
   unfold Lq BG;simp only[zF,zS];rw[nB]) (b:=a) rfl
 rw[<-hlen,yh]at hv;rw[<-hv];rw[show zZ k-2+2=zZ k by omega]at e1;exact e1
def akT(vars:aa bf)(t:ay)(k:aa Span)(h:AA vars t k):ais vars t (k.map (·.aC)) (k.map (·.au))=M ((vQ vars t k).aC,(vQ vars t k).au):=by
 obtain⟨hk,h24,hI⟩:=h;have h0:1<=(bZ t.bA).1->Dl k[0]! :=λh=>hI _ (bg aj);have h1:2<=(bZ t.bA).1->Dl k[1]! :=λh=>hI _ (bg aj);have h33:(bZ t.bA).2<=33:=by unfold bZ;grind
 have W:∀n:Int,-8796093022208<=n->n<=8796093022208->ak n=n:=λn a b=>aI;unfold ais BG vQ iY;have cs:t.bA=0\/t.bA=24\/t.bA=6\/t.bA=8\/t.bA=9\/t.bA=10\/t.bA=11\/t.bA=12\/t.bA=21\/t.bA=22\/t.bA=23\/t.bA=25\/(t.bA≠0/\t.bA≠24/\t.bA≠6/\t.bA≠8/\t.bA≠9/\t.bA≠10/\t.bA≠11/\t.bA≠12/\t.bA≠21/\t.bA≠22/\t.bA≠23/\t.bA≠25):=aj;rcases cs with h|h|h|h|h|h|h|h|h|h|h|h|h
 ·simp only[Z0];grind
 ·simp[h,h24 h]
 ·have hl:1<=(bZ t.bA).1:=by rw[h];decide
  obtain⟨a1,a2,a3⟩:=h0 hl;have w1:ak ((0:Int)-k[0]!.au)= -k[0]!.au:=by rw[W _ aj aj];omega
  have w2:ak ((0:Int)-k[0]!.aC)= -k[0]!.aC:=by rw[W _ aj aj];omega
  have i0:(0:Int)<(zZ k:Int):=aj;simp only[lG,Z0,h,zS,Int.reduceEq,reduceIte,zF,i0,iH (show 0<zZ k by omega),gp (show 0<zZ k by omega),w1,w2,zG,Au,false_and]
 ·have hl:2<=(bZ t.bA).1:=by rw[h];decide
  obtain⟨a1,a2,a3⟩:=h0 aj;obtain⟨b1,b2,b3⟩:=h1 hl;have w1:=W (k[0]!.aC+k[1]!.aC) aj aj;have w2:=W (k[0]!.au+k[1]!.au) aj aj;have i0:(0:Int)<(zZ k:Int):=aj;have i1:(1:Int)<(zZ k:Int):=aj;simp only[lG,Z0,h,zS,Int.reduceEq,Int.reduceLE,reduceIte,zF,iH (show 0<zZ k by omega),gp (show 0<zZ k by omega),iH (show 1<zZ k by omega),gp (show 1<zZ k by omega),i0,i1,w1,w2,zG,Au,false_and]
 ·have hl:2<=(bZ t.bA).1:=by rw[h];decide
  obtain⟨a1,a2,a3⟩:=h0 aj;obtain⟨b1,b2,b3⟩:=h1 hl;have w1:=W (k[0]!.aC-k[1]!.au) aj aj;have w2:=W (k[0]!.au-k[1]!.aC) aj aj;have i0:(0:Int)<(zZ k:Int):=aj;have i1:(1:Int)<(zZ k:Int):=aj;simp only[lG,Z0,h,zS,Int.reduceEq,Int.reduceLE,reduceIte,zF,iH (show 0<zZ k by omega),gp (show 0<zZ k by omega),iH (show 1<zZ k by omega),gp (show 1<zZ k by omega),i0,i1,w1,w2,zG,Au,false_and]
 ·have hl:2<=(bZ t.bA).1:=by rw[h];decide
  obtain⟨a1,a2,a3⟩:=h0 aj;obtain⟨b1,b2,b3⟩:=h1 hl;have m1:=ot (a:=k[0]!.aC) (b:=k[1]!.aC) aj aj aj aj;have m2:=ot (a:=k[0]!.aC) (b:=k[1]!.au) aj aj aj aj;have m3:=ot (a:=k[0]!.au) (b:=k[1]!.aC) aj aj aj aj;have m4:=ot (a:=k[0]!.au) (b:=k[1]!.au) aj aj aj aj;have w1:=W _ (show-8796093022208<=k[0]!.aC*k[1]!.aC by omega) aj;have w2:=W _ (show-8796093022208<=k[0]!.aC*k[1]!.au by omega) aj;have w3:=W _ (show-8796093022208<=k[0]!.au*k[1]!.aC by omega) aj;have w4:=W _ (show-8796093022208<=k[0]!.au*k[1]!.au by omega) aj;have i0:(0:Int)<(zZ k:Int):=aj;have i1:(1:Int)<(zZ k:Int):=aj;simp only[lG,Z0,h,zS,Int.reduceEq,Int.reduceLE,reduceIte,zF,iH (show 0<zZ k by omega),gp (show 0<zZ k by omega),iH (show 1<zZ k by omega),gp (show 1<zZ k by omega),i0,i1,w1,w2,w3,w4,zG,Au,false_and,og,lT,fE];generalize k[0]!.aC*k[1]!.aC=p;generalize k[0]!.aC*k[1]!.au=q;generalize k[0]!.au*k[1]!.aC=r;generalize k[0]!.au*k[1]!.au=s
  congr 2<;>grind
 ·have hl:2<=(bZ t.bA).1:=by rw[h];decide
  obtain⟨a1,a2,a3⟩:=h0 aj;obtain⟨b1,b2,b3⟩:=h1 hl;have z0:zQ 0=0:=rfl;have z1:zQ 1=1:=rfl;have ad7:∀x:Int,-1048576<=x->x<=1048576->AD x=if x<0 then-x else x:=λx q1 q2=>by
   unfold AD;rw[W _ aj aj];simp only[zS];grind
  have Zd:j8 (AD k[0]!.aC) (AD k[0]!.au)=if k[0]!.au< -k[0]!.aC then-k[0]!.aC else k[0]!.au:=by
   rw[ad7 _ aj aj,ad7 _ aj aj,lT];grind
  have w2:ak ((0:Int)-if k[0]!.au< -k[0]!.aC then-k[0]!.aC else k[0]!.au)= -(if k[0]!.au< -k[0]!.aC then-k[0]!.aC else k[0]!.au):=by split<;>(rw[W _ aj aj];omega)
  have i0:(0:Int)<(zZ k:Int):=aj;have i1:(1:Int)<(zZ k:Int):=aj;simp only[lG,Z0,h,zS,Int.reduceEq,Int.reduceLE,reduceIte,zF,z0,z1,iH (show 0<zZ k by omega),gp (show 0<zZ k by omega),iH (show 1<zZ k by omega),gp (show 1<zZ k by omega),i0,i1,Zd,w2,zG,Au,false_and];by_cases c1:(0:Int)<=k[0]!.aC<;>by_cases c2:(0:Int)<=k[1]!.aC<;>simp only[dS,dP,lG,c1,c2,and_true,and_false]
 ·have hl:2<=(bZ t.bA).1:=by rw[h];decide
  obtain⟨b1,b2,b3⟩:=h1 hl;have w1:=W (k[1]!.aC+1) aj aj;have w2:=W (k[1]!.au-1) aj aj;have i1:(1:Int)<(zZ k:Int):=aj;simp only[lG,Z0,h,zS,Int.reduceEq,Int.reduceLE,reduceIte,zF,iH (show 1<zZ k by omega),gp (show 1<zZ k by omega),i1,zG,Au,false_and,afW,w1,w2,og,lT]
  congr 1
  by_cases c1:k[1]!.aC<0<;>by_cases c2:(0:Int)<k[1]!.au<;>simp only[lG,c1,c2,Prod.mk.injEq,and_true,true_and]<;>grind
 ·have hl:2<=(bZ t.bA).1:=by rw[h];decide
  have i0:(0:Int)<(zZ k:Int):=aj;have i1:(1:Int)<(zZ k:Int):=aj;simp only[lG,Z0,h,zS,Int.reduceEq,Int.reduceLE,reduceIte,zF,iH (show 0<zZ k by omega),gp (show 0<zZ k by omega),iH (show 1<zZ k by omega),gp (show 1<zZ k by omega),i0,i1,zG,Au,false_and,og,lT]
  congr 2<;>grind
 ·have hl:2<=(bZ t.bA).1:=by rw[h];decide
  have i0:(0:Int)<(zZ k:Int):=aj;have i1:(1:Int)<(zZ k:Int):=aj;simp only[lG,Z0,h,zS,Int.reduceEq,Int.reduceLE,reduceIte,zF,iH (show 0<zZ k by omega),gp (show 0<zZ k by omega),iH (show 1<zZ k by omega),gp (show 1<zZ k by omega),i0,i1,zG,Au,false_and,og,lT]
  congr 2<;>grind
 ·have hl:2<=(bZ t.bA).1:=by rw[h];decide
  have i1:(1:Int)<(zZ k:Int):=aj;have e:=IF k aj aj k[1]!;simp only[lG,Z0,h,zS,Int.reduceEq,Int.reduceLE,reduceIte,zF,iH (show 1<zZ k by omega),gp (show 1<zZ k by omega),e,i1,zG,Au,zO,true_or,false_and]
 ·have hl:2<=(bZ t.bA).1:=by rw[h];decide
  have i1:(1:Int)<(zZ k:Int):=aj;have e:=IF k aj aj k[1]!;simp only[lG,Z0,h,zS,Int.reduceEq,Int.reduceLE,reduceIte,zF,iH (show 1<zZ k by omega),gp (show 1<zZ k by omega),e,i1,zG,Au,zO,or_true,false_and]
 ·obtain⟨c1,c2,c3,c4,c5,c6,c7,c8,c9,c18,c11,c12⟩:=h;simp only[c1,c2,c3,c4,c5,c6,c7,c8,c9,c18,c11,c12,zS,AE,or_self,false_and]
def qA(vars:aa bf)(t:ay):Int×Int×Bool:=match kg (t.ax.map (gM vars))with
 |none=>(0,0,O)
 |some l=>((vQ vars t l).aC,(vQ vars t l).au,Al (vQ vars t l))
def LS(vars:aa bf)(t:ay):gM vars t=if(qA vars t).2.2=Z then M ⟨(qA vars t).1,(qA vars t).2.1⟩else J:=by
 rw[q8,qA];cases h:kg (t.ax.map (gM vars))with
 |none=>rfl
 |some l=>
  obtain⟨h1,h2⟩:=ZG vars t l;simp_all
def akA(zf:aa bf->ay->af akw)(vars:aa bf)(hv:cg vars)(inp:Bool)(t:ay)(hf:dh vars inp t=Z)(hM:∀k∈t.ax,zf vars k=M (qA vars k)):auZ zf vars t=M (qA vars t):=by
 have h33:=Pf hf;obtain⟨i,b,e1,hI,hc⟩:=oO (rnd:=FT zf) (zZ t.ax) (λi (b:aa Span)=>⟨vars,b.map (·.aC),b.map (·.au),(i:Int),t⟩) (λi b=>(t.ax.take i).map (gM vars)=b.map M) (λi _=>(qA vars t.ax[i]!).2.2=O) (λi b hi hb=>by
  have hw:=jy hi aj;have hk:=hM _ (bg hi);have hlen:zZ b=i:=by have:=congrArg zZ hb;simp at this;omega
  cases hx:(qA vars t.ax[i]!).2.2 with
  |true=>
   refine .inl ⟨b++[⟨(qA vars t.ax[i]!).1,(qA vars t.ax[i]!).2.1⟩],?_,?_⟩
   ·have hl2:zZ (b.map (·.aC)++[(qA vars t.ax[i]!).1])<=1073741824:=by simp;omega
    have hl3:zZ (b.map (·.au)++[(qA vars t.ax[i]!).2.1])<=1073741824:=by simp;omega
    unfold FT BU;simp only[zw,ay.eta,hk,hx,hl2,hl3,hw];simp[hi]
   ·rw[bV hi,zH,hb,zH];rw[zI,zI,LS,bO hx];rfl
  |false=>
   unfold FT BU;simp only[zw,ay.eta,hk,hx];simp[hi]) (λb _=>by unfold FT BU;simp) (b:=[]) rfl
 have e1':MC zf ⟨vars,[],[],0,t⟩=M ⟨vars,b.map (·.aC),b.map (·.au),(i:Int),t⟩:=e1;unfold auZ BU;rw[ay.eta,e1'];dsimp only;rcases hc with rfl|⟨hi,hx⟩
 ·rw[yh]at hI;have ha:kg (t.ax.map (gM vars))=M b:=by rw[hI];exact MP b
  rw[gI,fO,ay.eta,akT vars t b (u9 hv hf ha)];unfold qA;unfold Al;grind
 ·have hk:=hM _ (bg hi);have ha:kg (t.ax.map (gM vars))=J:=BS (zC.2 ⟨t.ax[i]!,bg hi,by rw[LS,hx];simp⟩);rw[zDT,fZ,bO ⟨aj,aj⟩];simp only[dP,zw,ay.eta,hk,hx];unfold qA;rw[ha]
def VQ(vars:aa bf)(hv:cg vars)(inp:Bool):∀(n:Nat) (t:ay),zi t<n->dh vars inp t=Z->ag7 n vars t=M (qA vars t)
 |0,_,h,_=>aj
 |n+1,t,h,hf=>akA (ag7 n) vars hv inp t hf (λk hk=>VQ vars hv inp n k (by have:=ay.eF hk;omega) (nh hf hk))
def aki(vars:aa bf)(hv:cg vars)(inp:Bool)(t:ay)(hf:dh vars inp t=Z):ama vars t=M (qA vars t):=dc (zi t+1) λn hn=>VQ vars hv inp n t aj hf
def LG(vars:aa bf)(hv:cg vars)(inp:Bool)(t:ay):m54 vars t inp=M (iX vars inp t):=by
 unfold m54 iX;rw[ay.eta,alb];cases hf:dh vars inp t with
 |false=>rfl
 |true=>
  rw[aki vars hv inp t hf,LS];dsimp only;cases (qA vars t).2.2<;>rfl
def dO.eta(h:dO):dO.mk h.fName h.aC h.au h.aB=h:=by cases h;rfl
def Vu(l:aa dO)(hl:zZ l<=1000000)(v:dO):ajF l v=M (l.any λw=>w.fName.toList==v.fName.toList):=by
 obtain⟨i,e1,hc⟩:=pS (rnd:=K4) l (λi=>⟨l,v.fName,v.aC,v.au,v.aB.bA,v.aB.fN,v.aB.ax,(zZ l:Int),(i:Int)⟩) (λ_ w=> !(w.fName.toList==v.fName.toList)) (λi hi=>by
  have hw:=jy hi hl;unfold K4 Fq akg;grind) (by unfold K4 Fq;simp)
 have e1':Md ⟨l,v.fName,v.aC,v.au,v.aB.bA,v.aB.fN,v.aB.ax,(zZ l:Int),0⟩=M ⟨l,v.fName,v.aC,v.au,v.aB.bA,v.aB.fN,v.aB.ax,(zZ l:Int),(i:Int)⟩:=e1;unfold ajF awN Fq;rw[e1'];rcases hc with ⟨rfl,hc⟩|⟨hi,hc⟩
 ·rw[Ak λj hj=>by have:=hc j hj;simpa using this];simp
 ·have hc':(l[i]!.fName.toList==v.fName.toList)=Z:=by simpa using hc
  rw[JV hi hc'];unfold akg;simp only[zw,hc'];simp[hi]
def Nj(f:bn)(hl:zZ f.ai<=1000000)(n:Nat)(hn:n<=zZ f.ai)(v:dO):
  ∃i:Nat,PG ⟨n,0,f,v⟩=M ⟨n,(i:Int),f,v⟩/\((i=n/\((f.ai.take n).any λw=>w.fName.toList==v.fName.toList)=O)\/(i<n/\(f.ai[i]!.fName.toList==v.fName.toList)=Z/\((f.ai.take n).any λw=>w.fName.toList==v.fName.toList)=Z)):=by
 have hlen:zZ (f.ai.take n)=n:=by rw[zL];omega
 have hget:∀i,i<n->(f.ai.take n)[i]! =f.ai[i]! :=λi hi=>by
  rw[getElem!_pos _ i aj,getElem!_pos _ i aj,xo]
 obtain⟨i,e1,hc⟩:=pS (rnd:=UB) (f.ai.take n) (λi=>⟨(n:Int),(i:Int),f,v⟩) (λ_ w=> !(w.fName.toList==v.fName.toList)) (λi hi=>by
  have hw:=jy hi aj;unfold UB Ci;simp only[ay.eta,dO.eta];grind) (by rw[hlen];unfold UB Ci;simp)
 refine⟨i,e1,?_⟩;rw[hlen]at hc;rcases hc with ⟨rfl,hc⟩|⟨hi,hc⟩
 ·exact .inl ⟨rfl,Ak λj hj=>by have:=hc j aj;simpa using this⟩
 ·have hc':((f.ai.take n)[i]!.fName.toList==v.fName.toList)=Z:=by simpa using hc
  exact .inr ⟨hi,by rw[<-hget i hi];exact hc',JV aj hc'⟩
def akz(t:ay):ZW t=Cy t:=by
 unfold ZW Cy;simp
def aj9(t:ay):NJ t=Cy t:=by
 unfold NJ Cy;simp
def kD:∀(l:aa Int),jg l=Z↔∀i,i+1<zZ l->l[i]! <l[i+1]!
 |[]=>by simp[jg]
 |[a]=>by simp[jg]
 |a::b::l=>by
  unfold jg;rw[zh,kD (b::l),decide_eq_true_iff];constructor
  ·rintro⟨h1,h2⟩ i hi;cases i with
   |zero=>exact h1
   |succ i=>exact h2 i (by simpa using hi)
  ·intro h;exact⟨h 0 (by simp),λi hi=>h (i+1) (by simpa using hi)⟩
def akm(l:aa Int)(hl:zZ l<=1000000):acZ l=M (jg l):=by
 obtain⟨i,e1,hc⟩:=pS (rnd:=KQ) l (λi=>⟨l,(zZ l:Int),(i:Int)⟩) (λi x=>w9 (i=0)||w9 (l[i-1]! <x)) (λi hi=>by
  have hw:=jy hi hl;have hw2:ak ((i:Int)-1)=(i:Int)-1:=aI;have hw3:((i:Int)-1).toNat=i-1:=aj;unfold KQ Fz;grind) (by unfold KQ Fz;simp)
 have e1':KB ⟨l,(zZ l:Int),0⟩=M ⟨l,(zZ l:Int),(i:Int)⟩:=e1;unfold acZ Fz;rw[e1'];rcases hc with ⟨rfl,hc⟩|⟨hi,hc⟩
 ·have:jg l=Z:=(kD l).2 λi hi=>by
   have:=hc (i+1) hi;simpa using this
  rw[this];simp
 ·have hc':i≠0/\¬l[i-1]! <l[i]! :=by
   simp only[Bool.or_eq_false_iff,decide_eq_false_iff_not]at hc;exact hc
  have:jg l=O:=by
   cases hr:jg l with
   |false=>rfl
   |true=>
    have:=(kD l).1 hr (i-1) aj;rw[show i-1+1=i by omega]at this;omega
  have hw2:ak ((i:Int)-1)=(i:Int)-1:=aI;have hw3:((i:Int)-1).toNat=i-1:=aj;grind
def akr(l:aa Int)(hl:zZ l<=1000000):ajf l=M (w9 (1<=zZ l/\zZ l<=32)&&w9 ((0:Int)<=l[0]!)&&jg l):=by
 unfold ajf EY;by_cases h1:1<=zZ l/\zZ l<=32
 case neg=>
  rw[iU h1]
  try simp only
  grind
 rw[l8 h1,iU (show ¬(zZ l:Int)<1 by omega),iU (show ¬32<(zZ l:Int)by omega),bO (⟨zG _,aj⟩:(0:Int)<=0/\(0:Int)<(zZ l:Int))];have hz:l[zQ 0]! =l[0]! :=rfl;rw[hz];by_cases h0:(0:Int)<=l[0]!
 case neg=>
  rw[iU h0,l8 (show l[0]! <0 by omega)];rfl
 rw[l8 h0,iU (show ¬l[0]! <0 by omega)];dsimp only[fO];have hlen:zZ (l.drop 1)=zZ l-1:=zX ..;have hget:∀i,i<zZ l-1->(l.drop 1)[i]! =l[i+1]! :=λi hi=>by
  simp
 obtain⟨i,e1,hc⟩:=pS (rnd:=Mw) (l.drop 1) (λi=>⟨l,((i+1:Nat):Int)⟩) (λi x=>w9 (l[i]! <x)) (λi hi=>by
  have hw:=jy (show i+1<zZ l by omega) hl;have hw2:ak (((i+1:Nat):Int)-1)=(i:Int):=by rw[aI];omega
  unfold Mw EY;grind) (by
   unfold Mw EY;simp only[zS];rw[nB])
 have e1':J9 ⟨l,1⟩=M ⟨l,((i+1:Nat):Int)⟩:=e1;rw[e1'];dsimp only;rw[hlen]at hc;rcases hc with ⟨rfl,hc⟩|⟨hi,hc⟩
 ·have:jg l=Z:=(kD l).2 λi hi=>by
   have:=hc i aj;simpa using this
  rw[this,iU (show ¬(((zZ l-1+1:Nat):Int)<(zZ l:Int))by omega)];rfl
 ·rw[hget i hi]at hc;have hc':¬l[i]! <l[i+1]! :=by simpa using hc
  have:jg l=O:=by
   cases hr:jg l with
   |false=>rfl
   |true=>exact iy ((kD l).1 hr i aj) hc'
  have hw2:ak (((i+1:Nat):Int)-1)=(i:Int):=by rw[aI];omega
  grind
def XH(f:bn)(s:aM)(last:Bool):TC f s last=M (dw f s last):=by
 have h199:zZ s.aR<=32->acZ s.aR=M (jg s.aR):=λh=>akm _ aj;have hz:s.aR[zQ 0]! =s.aR[0]! :=rfl;unfold TC aab abS afR;rw[ay.eta,akz,hz];obtain⟨X,hX⟩:∃X,X=dw f s last:=⟨_,rfl⟩;have hX1:X=Z↔dw f s last=Z:=by rw[hX]
 unfold dw Bp at hX1;generalize Cy s.aB=za at*;have cs:s.cu=0\/s.cu=1\/s.cu=2\/s.cu=3\/s.cu=4\/s.cu=5\/s.cu=6\/s.cu<0\/6<s.cu:=aj;rcases cs with h|h|h|h|h|h|h|h|h
 case inr.inr.inr.inr.inr.inr.inr.inl=>rw[l8 h];dsimp only[fZ];cases X<;>grind
 case inr.inr.inr.inr.inr.inr.inr.inr=>rw[l8 h,gI];dsimp only[fZ,fO];cases X<;>grind
 all_goals
  rw[h]at hX1 ⊢;cases X<;>cases za<;>simp only[dS,dP,lG,Int.reduceEq,Int.reduceLT,zS,reduceIte,zh]at hX1 ⊢ <;>grind (splits:=40)
def aen(a b:Bool):(bif a then some b else some false)=some (a&&b):=by cases a<;>rfl
def Vn(f:bn)(s:aM)(last:Bool)(hb:zZ s.aR<=1000000):ad8 f s last=M (dw f s last):=by
 have h173:=akr s.aR hb;have e1:(bif w9 ((zZ s.aQ:Int)=0)then M (w9 ((zZ s.aX:Int)=0))else M O)=M (w9 (zZ s.aQ=0/\zZ s.aX=0)):=by
  by_cases a1:zZ s.aQ=0<;>by_cases a2:zZ s.aX=0<;>simp[a1]
 have e2:(bif w9 (0<=s.bq)then bif w9 (s.bq<(zZ f.ah:Int))then if(0:Int)<=s.bq/\s.bq<(zZ f.ah:Int)then M (w9 (f.ah[s.bq.toNat]!.bQ=0))else J else M O else M O)=M (Bp f s):=by
  unfold Bp;by_cases a1:0<=s.bq<;>by_cases a2:s.bq<(zZ f.ah:Int)<;>simp[a1,a2]
 unfold ad8;rw[ay.eta,aj9,h173,e1,e2];unfold dw;generalize w9 (zZ s.aQ=0/\zZ s.aX=0)=F;have hi:((zZ s.aR:Int)=0)↔s.aR.length=0:=aj;have hi2:((zZ s.aX:Int)=0)↔s.aX.length=0:=aj;simp only[hi,hi2];have cs:s.cu=0\/s.cu=1\/s.cu=2\/s.cu=3\/s.cu=4\/s.cu=5\/s.cu=6\/(s.cu≠0/\s.cu≠1/\s.cu≠2/\s.cu≠3/\s.cu≠4/\s.cu≠5/\s.cu≠6):=aj;rcases cs with h|h|h|h|h|h|h|⟨h0,h1,h2,h3,h4,h5,h6⟩
 case inr.inr.inr.inr.inr.inr.inr=>simp only[h0,h1,h2,h3,h4,h5,h6,mF,fO,AE]
 all_goals
  rw[h];simp only[Int.reduceEq,mF,fO]
  try rw[Bool.decide_and]
  simp only[aen]
  first|done|(congr 1;ac_rfl)
def WT(s:aM)(hb:s.cu=6->1<=zZ s.aR/\zZ s.aR<=32):TY s=M (sK s):=by
 unfold TY sK;by_cases h6:s.cu=6
 ·obtain⟨b1,b2⟩:=hb h6;have hw:ak ((zZ s.aR:Int)-1)=(zZ s.aR:Int)-1:=aI;have hw2:((zZ s.aR:Int)-1).toNat=zZ s.aR-1:=aj;grind (splits:=30)
 ·rw[iU h6,bP h6];by_cases h2:s.cu=2
  ·rw[h2];grind (splits:=30)
  ·rw[iU h2,bP h2];grind (splits:=30)
def jh{f:bn}{s:aM}{last:Bool}(h:dw f s last=Z):(s.cu=6->1<=zZ s.aR/\zZ s.aR<=32)/\(s.cu≠6->zZ s.aR=0)/\(s.cu≠3->s.cu≠4->s.aQ=[])/\(s.cu≠3->s.aX=[])/\(s.cu≠4->0<=s.fN):=by
 unfold dw at h;have e1:zZ s.aQ=0->s.aQ=[]:=yC.1;have e2:zZ s.aX=0->s.aX=[]:=yC.1;refine⟨λh6=> ?_,λh6=> ?_,λh3 h4=>e1 ?_,λh3=>e2 ?_,λh4=> ?_⟩<;>grind (splits:=40)
def HZ(zf:bn->aa aM->Bool->af TW)(f:bn)(l A B:aa aM)(top:Bool)(n i a b:Int)(ha:zf f A O=M a)(hb:zf f B O=M b):
  BE zf ⟨l,top,l,n,i,[A,B],2,0,f⟩=M ⟨l,top,l,n,i,[A,B],2,if a≠0 then 0 else if b≠0 then 1 else 2,f⟩:=by
 have w0:ak 1=1:=rfl;have w1:ak 2=2:=rfl;have r1:Ba zf ⟨l,top,l,n,i,[A,B],2,0,f⟩=if a≠0 then M J else M (M ⟨l,top,l,n,i,[A,B],2,1,f⟩):=by
  unfold Ba p9;by_cases h:a=0<;>simp[ha,w0]
 have r2:Ba zf ⟨l,top,l,n,i,[A,B],2,1,f⟩=if b≠0 then M J else M (M ⟨l,top,l,n,i,[A,B],2,2,f⟩):=by
  unfold Ba p9;by_cases h:b=0<;>simp[hb,w1]
 have r3:Ba zf ⟨l,top,l,n,i,[A,B],2,2,f⟩=M J:=by
  rfl
 unfold BE;by_cases h1:a≠0
 ·rw[bO h1]at r1 ⊢;exact cW λr=>by rw[r1];simp
 ·rw[bP h1]at r1 ⊢;rw[cT r1];by_cases h2:b≠0
  ·rw[bO h2]at r2 ⊢;exact cW λr=>by rw[r2];simp
  ·rw[bP h2]at r2 ⊢;rw[cT r2];exact cW λr=>by rw[r3];simp
def Vv(n i:Nat)(hn:n<=1000000):w9 ((i:Int)=ak ((n:Int)-1))=w9 (i+1=n):=by
 rw[aI];apply decide_eq_decide.2;omega
def ado(zf:bn->aa aM->Bool->af TW)(f:bn)(hv:cg f.ah)(l:aa aM)(hl:zZ l<=1000000)(top:Bool)(hM:∀s∈l,zf f s.aQ O=M (cK f O s.aQ)/\zf f s.aX O=M (cK f O s.aX))(i:Nat)(hi:i<zZ l):
  (stC f top (zZ l) i l[i]! =0->Az zf ⟨l,top,l,(zZ l:Int),(i:Int),f⟩=M (M ⟨l,top,l,(zZ l:Int),((i+1:Nat):Int),f⟩))/\(stC f top (zZ l) i l[i]!≠0->Az zf ⟨l,top,l,(zZ l:Int),(i:Int),f⟩=M J):=by
 have hw:=jy hi hl;obtain⟨k1,k2⟩:=hM _ (bg hi);have hin:=HZ zf f l l[i]!.aQ l[i]!.aX top (zZ l:Int) (i:Int) _ _ k1 k2;have hlen:(zZ ([l[i]!.aQ,l[i]!.aX]:aa (aa aM)):Int)=2:=rfl;have hi1:(i:Int)<(zZ l:Int):=aj;have hi0:(0:Int)<=(i:Int):=aj;unfold Az p9 stC pn;simp only[zw,ay.eta,aM.eta,XH,Vv (zZ l) i hl,C9 f.ah hv,hlen,hin,hi1];have e1':(bif top then some (bif dw f l[i]! (w9 (i+1=zZ l))then false else true)else some (bif dw f l[i]! false then false else true))=some (bif dw f l[i]! (top&&w9 (i+1=zZ l))then false else true):=by cases top<;>rfl
 rw[e1'];have hS:dw f l[i]! (top&&w9 (i+1=zZ l))=Z->TY l[i]! =M (sK l[i]!):=λh=>WT _ (jh h).1;revert hS;generalize dw f l[i]! (top&&w9 (i+1=zZ l))=S;intro hS;generalize l[i]!.aQ=A at k1 hin ⊢;generalize l[i]!.aX=B at k2 hin ⊢;cases S with
 |false=>simp
 |true=>
  rw[hS rfl];generalize sK l[i]! =N;cases N with
  |false=>simp
  |true=>
   generalize iX f.ah O l[i]!.aB=T;generalize cK f O A=a at*;generalize cK f O B=b at*;by_cases hT:T=0
   ·by_cases ha:a=0
    ·by_cases hb:b=0
     ·simp[hT,ha,hb,hw]
     ·simp[hT,ha,hb,k2]
    ·simp[hT,ha,k1]
   ·simp[hT]
def aid(zf:bn->aa aM->Bool->af TW)(f:bn)(hv:cg f.ah)(l:aa aM)(hl:zZ l<=1000000)(top:Bool)(hM:∀s∈l,zf f s.aQ O=M (cK f O s.aQ)/\zf f s.aX O=M (cK f O s.aX)):atG zf f l top=M (cK f top l):=by
 obtain⟨i,e1,hc⟩:=Iz (rnd:=Az zf) l (λi=>⟨l,top,l,(zZ l:Int),(i:Int),f⟩) (stC f top (zZ l)) (λi hi=>ado zf f hv l hl top hM i hi) (by unfold Az p9;simp);have e1':Kj zf ⟨l,top,l,(zZ l:Int),0,f⟩=M ⟨l,top,l,(zZ l:Int),(i:Int),f⟩:=e1;rw[qM f top (zZ l) l 0 aj]at hc;unfold atG p9;rw[e1'];rcases hc with ⟨rfl,hc⟩|⟨hi,h0,hc⟩
 ·rw[hc];simp
 ·rw[hc];obtain⟨k1,k2⟩:=hM _ (bg hi);have hin:=HZ zf f l l[i]!.aQ l[i]!.aX top (zZ l:Int) (i:Int) _ _ k1 k2;have hlen:(zZ ([l[i]!.aQ,l[i]!.aX]:aa (aa aM)):Int)=2:=rfl;have hi1:(i:Int)<(zZ l:Int):=aj;have hi0:(0:Int)<=(i:Int):=aj;revert h0;unfold stC pn;simp only[zw,ay.eta,aM.eta,XH,Vv (zZ l) i hl,C9 f.ah hv,hlen,hin,hi1];have e1':(bif top then some (bif dw f l[i]! (w9 (i+1=zZ l))then false else true)else some (bif dw f l[i]! false then false else true))=some (bif dw f l[i]! (top&&w9 (i+1=zZ l))then false else true):=by cases top<;>rfl
  rw[e1'];have hS:dw f l[i]! (top&&w9 (i+1=zZ l))=Z->TY l[i]! =M (sK l[i]!):=λh=>WT _ (jh h).1;revert hS;generalize dw f l[i]! (top&&w9 (i+1=zZ l))=S;intro hS;generalize l[i]!.aQ=A at k1 hin ⊢;generalize l[i]!.aX=B at k2 hin ⊢;cases S with
  |false=>simp
  |true=>
   rw[hS rfl];generalize sK l[i]! =N;cases N with
   |false=>simp
   |true=>
    generalize iX f.ah O l[i]!.aB=T;generalize cK f O A=a at*;generalize cK f O B=b at*;by_cases hT:T=0
    ·by_cases ha:a=0
     ·by_cases hb:b=0
      ·simp[hT,ha,hb]
      ·simp[hT,ha,hb,k2]
     ·simp[hT,ha,k1]
    ·simp[hT]
def KU(f:bn)(hv:cg f.ah):∀(n:Nat) (l:aa aM) (top:Bool),zi l<n->gF l<=1000->adk n f l top=M (cK f top l)
 |0,_,_,h,_=>aj
 |n+1,l,top,h,h2=>aid (adk n) f hv l (by have:=jH l;omega) top (λs hs=>⟨KU f hv n _ _ (by have:=aZ hs;omega) (by have:=gD hs;omega),KU f hv n _ _ (by have:=aZ hs;omega) (by have:=gD hs;omega)⟩)
def ajI(f:bn)(hv:cg f.ah)(l:aa aM)(top:Bool)(h:gF l<=1000):akJ f l top=M (cK f top l):=dc (zi l+1) λn hn=>KU f hv n l top aj h
def XE{f:bn}{s:aM}{last:Bool}(h:dw f s last=Z)(c:Int)(hc:c=if s.cu=2 then 67108864 else 10000):
  ((bif w9 (s.aW<0)then M Z else bif w9 (c<s.aW)then M Z else bif w9 (s.fN<0)then M Z else bif w9 (s.cu=4)then M (w9 (4096<s.fN))else M O):af Bool)=M (!(w9 (0<=s.aW/\s.aW<=c)&&(if s.cu=4 then w9 (0<=s.fN/\s.fN<=4096)else Z))):=by
 obtain⟨b1,b2,b3,b4,b5⟩:=jh h;by_cases h1:s.aW<0
 ·simp[h1]
 by_cases h2:c<s.aW
 ·simp[h2]
 by_cases h3:s.fN<0
 ·have h4:s.cu=4:=by
   omega
  simp[h3,h4]
 by_cases h4:s.cu=4
 ·simp[h1,h2,h3];by_cases h5:4096<s.fN
  ·grind
  ·simp_all
 ·simp[h1,h2,h3,h4,show 0<=s.aW by omega,show s.aW<=c by omega]
def Uu{f:bn}{s:aM}{last:Bool}(h:dw f s last=Z):
  ((bif w9 (0<(zZ s.aR:Int))then if(0:Int)<=ak ((zZ s.aR:Int)-(1:Int))/\ak ((zZ s.aR:Int)-(1:Int))<(zZ s.aR:Int)then M (w9 (67108864<s.aR[(ak ((zZ s.aR:Int)-1)).toNat]!))else J else M O):af Bool)=M (!(if s.cu=6 then w9 (s.aR[zZ s.aR-1]!<=67108864)else Z)):=by
 obtain⟨b1,b2,b3,b4,b5⟩:=jh h;by_cases h6:s.cu=6
 ·obtain⟨b1,b2⟩:=b1 h6;have hw:ak ((zZ s.aR:Int)-1)=(zZ s.aR:Int)-1:=aI;have hw2:((zZ s.aR:Int)-1).toNat=zZ s.aR-1:=aj;rw[hw,hw2,zDT,fZ,bO ⟨aj,aj⟩,bO h6];generalize s.aR[zZ s.aR-1]! =B;by_cases h:67108864<B
  ·simp[h]
  ·simp[h];omega
 ·rw[iU (by have:=b2 h6;omega),bP h6];rfl
def amJ(zf:bn->aa aM->Bool->af E55)(f:bn)(hv:cg f.ah)(l:aa aM)(hl:zZ l<=1000000)(hB:∀s∈l,zZ s.aR<=1000000)(top:Bool)(hM:∀s∈l,zf f s.aQ O=M (cK f O s.aQ)/\zf f s.aX O=M (cK f O s.aX))(i:Nat)(hi:i<zZ l):
  (stC f top (zZ l) i l[i]! =0->Ib zf ⟨l,top,(i:Int),f⟩=M (M ⟨l,top,((i+1:Nat):Int),f⟩))/\(stC f top (zZ l) i l[i]!≠0->Ib zf ⟨l,top,(i:Int),f⟩=M J):=by
 have hw:=jy hi hl;obtain⟨k1,k2⟩:=hM _ (bg hi);have hb:=hB _ (bg hi);have hi1:(i:Int)<(zZ l:Int):=aj;have hi0:(0:Int)<=(i:Int):=aj;unfold Ib N4 stC pn;simp only[zw,ay.eta,aM.eta,Vn f l[i]! _ hb,Vv (zZ l) i hl,LG f.ah hv,hw,hi1];have e1':(bif top then some (bif dw f l[i]! (w9 (i+1=zZ l))then false else true)else some (bif dw f l[i]! false then false else true))=some (bif dw f l[i]! (top&&w9 (i+1=zZ l))then false else true):=by cases top<;>rfl
 rw[e1'];cases hS:dw f l[i]! (top&&w9 (i+1=zZ l))with
 |false=>simp
 |true=>
  have hn:=XE hS;rw[Uu hS];unfold sK;generalize (if l[i]!.cu=6 then w9 (l[i]!.aR[zZ l[i]!.aR-1]!<=67108864)else Z)=B6;by_cases h2:l[i]!.cu=2
  ·grind
  ·rw[bP h2]at hn ⊢;rw[iU h2,hn 10000 rfl];generalize (w9 (0<=l[i]!.aW/\l[i]!.aW<=10000)&&(if l[i]!.cu=4 then w9 (0<=l[i]!.fN/\l[i]!.fN<=4096)else Z))=N;generalize iX f.ah O l[i]!.aB=T;generalize l[i]!.aQ=A at k1 ⊢;generalize l[i]!.aX=B at k2 ⊢;generalize cK f O A=a at*;generalize cK f O B=b at*;cases N with
   |false=>simp
   |true=>
    cases B6 with
    |false=>simp
    |true=>
     by_cases hT:T=0
     ·by_cases ha:a=0
      ·by_cases hb:b=0
       ·simp[hT,ha,hb,k1,k2]
       ·simp[hT,ha,hb,k1,k2]
      ·simp[hT,ha,k1]
     ·simp[hT]
def auf(zf:bn->aa aM->Bool->af E55)(f:bn)(hv:cg f.ah)(l:aa aM)(hl:zZ l<=1000000)(hB:∀s∈l,zZ s.aR<=1000000)(top:Bool)(hM:∀s∈l,zf f s.aQ O=M (cK f O s.aQ)/\zf f s.aX O=M (cK f O s.aX)):s55 zf f l top=M (cK f top l):=by
 obtain⟨i,e1,hc⟩:=Iz (rnd:=Ib zf) l (λi=>⟨l,top,(i:Int),f⟩) (stC f top (zZ l)) (λi hi=>amJ zf f hv l hl hB top hM i hi) (by unfold Ib N4;simp);have e1':XF zf ⟨l,top,0,f⟩=M ⟨l,top,(i:Int),f⟩:=e1;rw[qM f top (zZ l) l 0 aj]at hc;unfold s55 N4;rw[e1'];dsimp only;rcases hc with ⟨rfl,hc⟩|⟨hi,h0,hc⟩
 ·simp_all
 ·rw[hc];obtain⟨k1,k2⟩:=hM _ (bg hi);have hb:=hB _ (bg hi);have hi1:(i:Int)<(zZ l:Int):=aj;have hi0:(0:Int)<=(i:Int):=aj;revert h0;unfold stC pn;simp only[zw,ay.eta,aM.eta,Vn f l[i]! _ hb,Vv (zZ l) i hl,LG f.ah hv,hi1];have e1':(bif top then some (bif dw f l[i]! (w9 (i+1=zZ l))then false else true)else some (bif dw f l[i]! false then false else true))=some (bif dw f l[i]! (top&&w9 (i+1=zZ l))then false else true):=by cases top<;>rfl
  rw[e1'];cases hS:dw f l[i]! (top&&w9 (i+1=zZ l))with
  |false=>simp
  |true=>
   have hn:=XE hS;rw[Uu hS];unfold sK;generalize (if l[i]!.cu=6 then w9 (l[i]!.aR[zZ l[i]!.aR-1]!<=67108864)else Z)=B6;by_cases h2:l[i]!.cu=2
   ·rw[bO h2]at hn ⊢;rw[l8 h2,hn 67108864 rfl];generalize (w9 (0<=l[i]!.aW/\l[i]!.aW<=67108864)&&(if l[i]!.cu=4 then w9 (0<=l[i]!.fN/\l[i]!.fN<=4096)else Z))=N;generalize iX f.ah O l[i]!.aB=T;generalize l[i]!.aQ=A at k1 ⊢;generalize l[i]!.aX=B at k2 ⊢;generalize cK f O A=a at*;generalize cK f O B=b at*;cases N with
    |false=>simp
    |true=>
     cases B6 with
     |false=>simp
     |true=>
      by_cases hT:T=0
      ·by_cases ha:a=0
       ·by_cases hb:b=0
        ·simp[hT,ha,hb]
        ·simp[hT,ha,hb,k1,k2]
       ·simp[hT,ha,k1]
      ·simp[hT]
   ·rw[bP h2]at hn ⊢;rw[iU h2,hn 10000 rfl];generalize (w9 (0<=l[i]!.aW/\l[i]!.aW<=10000)&&(if l[i]!.cu=4 then w9 (0<=l[i]!.fN/\l[i]!.fN<=4096)else Z))=N;generalize iX f.ah O l[i]!.aB=T;generalize l[i]!.aQ=A at k1 ⊢;generalize l[i]!.aX=B at k2 ⊢;generalize cK f O A=a at*;generalize cK f O B=b at*;cases N with
    |false=>simp
    |true=>
     cases B6 with
     |false=>simp
     |true=>
      by_cases hT:T=0
      ·by_cases ha:a=0
       ·by_cases hb:b=0
        ·simp[hT,ha,hb]
        ·simp[hT,ha,hb,k1,k2]
       ·simp[hT,ha,k1]
      ·simp[hT]
def TT(f:bn)(hv:cg f.ah):∀(n:Nat) (l:aa aM) (top:Bool),zi l<n->gF l<=1000->m55 n f l top=M (cK f top l)
 |0,_,_,h,_=>aj
 |n+1,l,top,h,h2=>auf (m55 n) f hv l (by have:=jH l;omega) (λs hs=>by have:=CV hs;have:=oL s;omega) top (λs hs=>⟨TT f hv n _ _ (by have:=aZ hs;omega) (by have:=gD hs;omega),TT f hv n _ _ (by have:=aZ hs;omega) (by have:=gD hs;omega)⟩)
def as7(f:bn)(hv:cg f.ah)(l:aa aM)(top:Bool)(h:gF l<=1000):r55 f l top=M (cK f top l):=dc (zi l+1) λn hn=>TT f hv n l top aj h
def abb(f:bn)(hv:cg f.ah)(hl:zZ f.ai<=1000000)(i:Nat)(hi:i<zZ f.ai):
  (lB f i f.ai[i]! =0->Ig ⟨f.ai,(zZ f.ai:Int),(i:Int),f⟩=M (M ⟨f.ai,(zZ f.ai:Int),((i+1:Nat):Int),f⟩))/\(lB f i f.ai[i]!≠0->Ig ⟨f.ai,(zZ f.ai:Int),(i:Int),f⟩=M J):=by
 have hw:=jy hi hl;have h2:=Vu (f.ai.take i) (by rw[zL];omega) f.ai[i]!;unfold Ig N7 lB;simp only[ay.eta,dO.eta,Dk,Da,C9 f.ah hv];grind
def avF(f:bn)(hv:cg f.ah)(hl:zZ f.ai<=1000000):m99 f=M (dZ (lB f) f.ai 0):=by
 obtain⟨i,e1,hc⟩:=Iz (rnd:=Ig) f.ai (λi=>⟨f.ai,(zZ f.ai:Int),(i:Int),f⟩) (lB f) (λi hi=>abb f hv hl i hi) (by unfold Ig N7;simp);have e1':Xy ⟨f.ai,(zZ f.ai:Int),0,f⟩=M ⟨f.ai,(zZ f.ai:Int),(i:Int),f⟩:=e1;unfold m99 N7;rw[e1'];rcases hc with ⟨rfl,hc⟩|⟨hi,h0,hc⟩
 ·simp_all
 ·rw[hc];have h2:=Vu (f.ai.take i) (by rw[zL];omega) f.ai[i]!;revert h0;unfold lB;simp only[ay.eta,dO.eta,Dk,Da,C9 f.ah hv];grind
def amf(f:bn)(hv:cg f.ah)(hl:zZ f.ai<=1000000)(i:Nat)(hi:i<zZ f.ai):
  (lB f i f.ai[i]! =0->IG ⟨(i:Int),f⟩=M (M ⟨((i+1:Nat):Int),f⟩))/\(lB f i f.ai[i]!≠0->IG ⟨(i:Int),f⟩=M J):=by
 have hw:=jy hi hl;obtain⟨j,h2,h3⟩:=Nj f hl i aj f.ai[i]!;unfold IG Ci lB;simp only[zw,ay.eta,Lr,JO,h2,LG f.ah hv];grind
def ac1(f:bn)(hv:cg f.ah)(hl:zZ f.ai<=1000000):∃i:Nat,WW ⟨0,f⟩=M ⟨(i:Int),f⟩/\((i=zZ f.ai/\dZ (lB f) f.ai 0=0)\/(i<zZ f.ai/\lB f i f.ai[i]!≠0/\dZ (lB f) f.ai 0=lB f i f.ai[i]!)):=
 Iz (rnd:=IG) f.ai (λi=>⟨(i:Int),f⟩) (lB f) (λi hi=>amf f hv hl i hi) (by unfold IG Ci;simp)
def Bn{f:bn}{i:Nat}(hi:i<zZ f.ai):kR ((f.ai.take i).map (·.aB))+nT f.ai[i]!.aB<=kR (f.ai.map (·.aB)):=by
 have h:=Fw (f.ai.map (·.aB)) (i+1);rw[<-xX,bV hi,zH,Dp]at h
 assumption
def axR(f:bn)(h:gF f.bG+kR (f.ai.map (·.aB))<=900)(hl:zZ f.ai<=1000000):m50 f=M (tZ f):=by
 unfold m50 Iq tZ;by_cases h1:64<(zZ f.ah:Int)
 ·grind
 by_cases h2:8<(zZ f.ai:Int)
 ·grind
 rw[iU h1,iU h2,l8 (show zZ f.ah<=64 by omega),l8 (show zZ f.ai<=8 by omega)];dsimp only[fO,fZ];have hb:=DC f.bG;rw[anX f.bG aj];obtain⟨i,b,e1,hI,hc⟩:=oO (rnd:=Oh) (zZ f.ai) (λi (b:Int)=>⟨b,(i:Int),f⟩) (λi b=>(0<=b/\b<=gF f.bG+kR ((f.ai.take i).map (·.aB)))/\∀j,j<i->dT f.ai[j]!.aB<=12) (λi _=>12<dT f.ai[i]!.aB) (λi b hi hI=>by
  have hn:=Bn hi;have hw:=jy hi hl;have k1:=KD f.ai[i]!.aB aj;have k2:=Mv f.ai[i]!.aB aj;have hi1:(i:Int)<(zZ f.ai:Int):=aj;have hi0:(0:Int)<=(i:Int):=aj;by_cases hd:12<dT f.ai[i]!.aB
  ·refine .inr ⟨?_,hd⟩;unfold Oh Iq;simp only[dS,ay.eta,k1,k2,hi1,hi0,fZ,dx,hd]
  ·refine .inl ⟨b+nT f.ai[i]!.aB,?_,⟨aj,?_⟩,λj hj=> ?_⟩
   ·have hw2:ak (b+(nT f.ai[i]!.aB:Int))=b+nT f.ai[i]!.aB:=aI;unfold Oh Iq;simp only[dS,dP,ay.eta,k1,k2,hi1,hi0,dx,hd,hw,hw2]
   ·rw[bV hi,zH,Dp];simp only[zI,yx,qN];omega
   ·rcases Nat.lt_succ_iff_lt_or_eq.1 hj with h|h
    ·exact hI.2 j h
    ·subst h;omega) (λb _=>by unfold Oh Iq;simp) (b:=gP f.bG) ⟨⟨aj,by simp only[List.take_zero,yx,show kR []=0 from rfl];omega⟩,λj hj=>iy hj aj⟩
 have e1':U8 ⟨gP f.bG,0,f⟩=M ⟨b,(i:Int),f⟩:=e1;dsimp only;rw[e1'];dsimp only;rcases hc with rfl|⟨hi,hd⟩
 ·rw[iU (show ¬((zZ f.ai:Int)<(zZ f.ai:Int))by omega),fO];have ha:f.ai.all (λh=>w9 (dT h.aB<=12))=Z:=Gx λj hj=>by simpa using hI.2 j hj
  have hn:=hI.1.2;rw[yh]at hn;rw[ha,l8 (show b<=1024 by omega),fZ,akO f.bG aj,an8 f.bG aj];by_cases h5:jA f.bG<=12
  ·cases fS f.bG<;>simp[h5]
  ·simp[h5]
 ·have hn:=Bn hi;have k1:=KD f.ai[i]!.aB aj;have k2:=Mv f.ai[i]!.aB aj;have hi1:(i:Int)<(zZ f.ai:Int):=aj;have hi0:(0:Int)<=(i:Int):=aj;have ha:f.ai.all (λh=>w9 (dT h.aB<=12))=O:=vN hi (by simpa using hd);simp only[dS,ay.eta,k1,k2,hi1,hi0,fZ,dx,hd,ha,Bool.and_false,Bool.false_and]
def au9(zf:aa aM->Int->bC->af E95)(l:aa aM)(hM:∀s∈l,∀(d:Int) (b:bC),0<=d->d<=13->0<=b.aD->(b.aD+gF s.aQ<=1000->zf s.aQ d b=M (nU d s.aQ b))/\(b.aD+gF s.aX<=1000->zf s.aX d b=M (nU d s.aX b)))(d:Int)(b:bC)(h0:0<=d)(hd:d<=13)(h1:0<=b.aD)(h2:b.aD+gF l<=1000):s95 zf l d b=M (nU d l b):=by
 have hL:=jH l;have hw1:ak (d+1)=d+1:=aI;have hgo:∀(l:aa aM) (i:Nat) (b:bC),QB (λ_ (b:bC) (s:aM)=>if gd (di d b)=Z then(.inr (di d b):bC ⊕ bC)else .inl (nU (d+1) s.aX (nU (d+1) s.aQ (Av s.aB 1 (di d b))))) id id l i b=nU d l b:=by
  intro l;induction l with
  |nil=>intro i b;rw[nU];rfl
  |cons s l ih=>
   intro i b;rw[nU];by_cases ho:gd (di d b)=Z
   ·rw[bO ho,ox (r:=di d b) (by rw[bO ho])];rfl
   ·rw[bP ho,rL (b':=nU (d+1) s.aX (nU (d+1) s.aQ (Av s.aB 1 (di d b)))) (by rw[bP ho])];exact ih (i+1) _
 have hm:∀(b:bC) (x:Bool),-1000000<=b.aD->b.aD<=1000000->x=(b.gu||w9 (12<d))->Hj ⟨ak (b.aD+1),x⟩=(gd (di d b),di d b):=λb x b1 b2 hx=>by
  rw[F3,aI,hx];rfl
 have hs:∀(i:Nat) (b:bC),i<zZ l->0<=b.aD->b.aD+nS l[i]!<=1000->gd (di d b)=O->d<=12/\r97 l[i]!.aB 1 (di d b)=M (Av l[i]!.aB 1 (di d b))/\zf l[i]!.aQ (d+1) (Av l[i]!.aB 1 (di d b))=M (nU (d+1) l[i]!.aQ (Av l[i]!.aB 1 (di d b)))/\zf l[i]!.aX (d+1) (nU (d+1) l[i]!.aQ (Av l[i]!.aB 1 (di d b)))=M (nU (d+1) l[i]!.aX (nU (d+1) l[i]!.aQ (Av l[i]!.aB 1 (di d b))))/\0<=(nU (d+1) l[i]!.aX (nU (d+1) l[i]!.aQ (Av l[i]!.aB 1 (di d b)))).aD/\(nU (d+1) l[i]!.aX (nU (d+1) l[i]!.aQ (Av l[i]!.aB 1 (di d b)))).aD<=b.aD+nS l[i]! :=λi b hi b1 b2 ho=>by
  have hd2:d<=12:=by unfold gd di at ho;grind
  have hN:=oL l[i]!;have hp:(di d b).aD=b.aD+1:=rfl;obtain⟨a1,a2,a3⟩:=KY l[i]!.aB 1 (di d b) aj aj aj;obtain⟨c1,c2,c3⟩:=SX (d+1) l[i]!.aQ (Av l[i]!.aB 1 (di d b)) aj aj aj aj;obtain⟨g1,g2,g3⟩:=SX (d+1) l[i]!.aX (nU (d+1) l[i]!.aQ (Av l[i]!.aB 1 (di d b))) aj aj aj aj;exact⟨hd2,ahA _ 1 _ aj aj aj aj,(hM _ (bg hi) (d+1) _ aj aj aj).1 aj,(hM _ (bg hi) (d+1) _ aj aj aj).2 aj,aj,aj⟩
 obtain⟨i,v,e1,hI,hc⟩:=Vo (rnd:=Qt zf) l (λi (b:bC)=>⟨d,l,(zZ l:Int),(i:Int),b⟩) (λ_ (b:bC) (s:aM)=>if gd (di d b)=Z then(.inr (di d b):bC ⊕ bC)else .inl (nU (d+1) s.aX (nU (d+1) s.aQ (Av s.aB 1 (di d b))))) id id (λi x=>0<=x.aD/\x.aD<=b.aD+gF (l.take i)) (λi x hi hx=>by
   have hn:=Fl hi;have hw:=jy hi aj;have hi1:(i:Int)<(zZ l:Int):=aj;have hi0:(0:Int)<=(i:Int):=aj;have hmx:=hm x;cases ho:gd (di d x)with
   |true=>
    refine⟨λb' hb'=>by simp at hb',λr hr=> ?_⟩;unfold Qt Ja;dsimp only;simp only[hi1];cases hb:x.gu with
    |true=>rw[hmx Z aj aj (by rw[hb];rfl),ho];rfl
    |false=>rw[hmx (w9 (12<d)) aj aj (by rw[hb];rfl),ho];rfl
   |false=>
    obtain⟨q0,q1,q2,q3,q4,q5⟩:=hs i x hi hx.1 aj ho;refine⟨λb' hb'=> ?_,λr hr=>by simp at hr⟩;have hb':nU (d+1) l[i]!.aX (nU (d+1) l[i]!.aQ (Av l[i]!.aB 1 (di d x)))=b':=by simpa using hb'
    subst hb';refine⟨?_,⟨q4,by rw[bV hi,NO];omega⟩⟩;unfold Qt Ja;dsimp only;simp only[dS,hi1,hi0,dx];cases hb:x.gu with
    |true=>rw[hmx Z aj aj (by rw[hb];rfl),ho];simp only[dP,ay.eta,q1,q2,q3,hw1,hw]
    |false=>rw[hmx (w9 (12<d)) aj aj (by rw[hb];rfl),ho];simp only[dP,ay.eta,q1,q2,q3,hw1,hw]) (λx _=>by unfold Qt Ja;simp) (b:=b) ⟨h1,by simp[gF]⟩
 have e1':WM zf ⟨d,l,(zZ l:Int),0,b⟩=M ⟨d,l,(zZ l:Int),(i:Int),v⟩:=e1;rw[hgo]at hc;unfold s95 Ja;rw[e1'];dsimp only;rcases hc with ⟨rfl,hc⟩|⟨hi,r,hr,hc⟩
 ·rw[hc,gI];rfl
 ·have hn:=Fl hi;have hi1:(i:Int)<(zZ l:Int):=aj;have hi0:(0:Int)<=(i:Int):=aj;have ho:gd (di d v)=Z:=by
   by_cases ho:gd (di d v)=Z
   ·exact ho
   ·rw[bP ho]at hr;cases hr
  rw[bO ho]at hr;cases hr;rw[hc];have hmx:=hm v;simp only[dS,hi1,hi0,fZ,dx];cases hb:v.gu with
  |true=>rw[hmx Z aj aj (by rw[hb];rfl),ho];rfl
  |false=>rw[hmx (w9 (12<d)) aj aj (by rw[hb];rfl),ho];rfl
def QU:∀(n:Nat) (l:aa aM) (d:Int) (b:bC),zi l<n->0<=d->d<=13->0<=b.aD->b.aD+gF l<=1000->m95 n l d b=M (nU d l b)
 |0,_,_,_,h,_,_,_,_=>aj
 |n+1,l,d,b,h,h0,hd,h1,h2=>au9 (m95 n) l (λs hs d b a1 a2 a3=>⟨λa4=>QU n _ d b (by have:=aZ hs;omega) a1 a2 a3 a4,λa4=>QU n _ d b (by have:=aZ hs;omega) a1 a2 a3 a4⟩) d b h0 hd h1 h2
def awr(l:aa aM)(d:Int)(b:bC)(h0:0<=d)(hd:d<=13)(h1:0<=b.aD)(h2:b.aD+gF l<=1000):r95 l d b=M (nU d l b):=dc (zi l+1) λn hn=>QU n l d b aj h0 hd h1 h2
def alD(f:bn)(h:gF f.bG+kR (f.ai.map (·.aB))<=900)(hl:zZ f.ai<=1000000):∃r q,r95 f.bG 1 ⟨0,O⟩=M r/\NP ⟨f.ai,(zZ f.ai:Int),0,f,r⟩=M ⟨f.ai,(zZ f.ai:Int),(zZ f.ai:Int),f,q⟩/\gd q= !(f.ai.all (λh=>w9 (dT h.aB<=12))&&w9 (jA f.bG<=12)&& !fS f.bG):=by
 obtain⟨p1,p2,p3⟩:=SX 1 f.bG ⟨0,O⟩ aj aj (zG 0) (by show (0:Int)+_<=_;omega);have p2:0<=(nU 1 f.bG ⟨0,O⟩).aD:=p2;have p3:(nU 1 f.bG ⟨0,O⟩).aD<=0+gF f.bG:=p3;refine⟨nU 1 f.bG ⟨0,O⟩,?_⟩;have p4:=awr f.bG 1 ⟨0,O⟩ aj aj (zG 0) (by show (0:Int)+_<=_;omega);generalize nU 1 f.bG ⟨0,O⟩=r at*;obtain⟨q,e1,hI⟩:=cZ (rnd:=N6) (zZ f.ai) (λi (q:bC)=>⟨f.ai,(zZ f.ai:Int),(i:Int),f,q⟩) (λi q=>q.gu=(r.gu||(f.ai.take i).any λh=>w9 (12<dT h.aB))/\0<=q.aD/\q.aD<=r.aD+kR ((f.ai.take i).map (·.aB))) (λi q hi hI=>by
  have hn:=Bn hi;have hw:=jy hi hl;have hi1:(i:Int)<(zZ f.ai:Int):=aj;have hi0:(0:Int)<=(i:Int):=aj;have hn2:kR ((f.ai.take (i+1)).map (·.aB))=kR ((f.ai.take i).map (·.aB))+nT f.ai[i]!.aB:=by
   rw[bV hi,zH,Dp];rfl
  have ha:((f.ai.take (i+1)).any λh=>w9 (12<dT h.aB))=(((f.ai.take i).any λh=>w9 (12<dT h.aB))||w9 (12<dT f.ai[i]!.aB)):=by
   rw[bV hi,List.any_append,List.any_cons,List.any_nil,Bool.or_false]
  rw[ha,hn2];obtain⟨q1,q2,q3⟩:=hI;cases ho:gd q with
  |true=>
   refine⟨q,?_,?_,q2,aj⟩
   ·unfold N6 I8;dsimp only;simp only[dS,dP,hi1,hi0,dx,F3,ho,hw]
   ·unfold gd at ho;rw[iU (show ¬1024<q.aD by omega),Bool.or_false]at ho;rw[<-Bool.or_assoc,<-q1,ho];rfl
  |false=>
   obtain⟨c1,c2,c3⟩:=KY f.ai[i]!.aB 1 q aj q2 aj;have k:=ahA f.ai[i]!.aB 1 q aj aj q2 aj;refine⟨Av f.ai[i]!.aB 1 q,?_,?_,aj,aj⟩
   ·unfold N6 I8;dsimp only;simp only[dS,dP,ay.eta,hi1,hi0,dx,F3,ho,hw,k]
   ·rw[c1,q1,Bool.or_assoc];rw[show w9 (12<1-1+dT f.ai[i]!.aB)=w9 (12<dT f.ai[i]!.aB)from decide_eq_decide.2 aj]) (λq _=>by unfold N6 I8;simp) (b:=r) ⟨by simp,p2,by simp[kR]⟩
 have e1':NP ⟨f.ai,(zZ f.ai:Int),0,f,r⟩=M ⟨f.ai,(zZ f.ai:Int),(zZ f.ai:Int),f,q⟩:=e1;refine⟨q,p4,e1',?_⟩;rw[yh]at hI;obtain⟨q1,q2,q3⟩:=hI;unfold gd;rw[iU (show ¬1024<q.aD by omega),Bool.or_false,q1,p1];have e2:(f.ai.any λh=>w9 (12<dT h.aB))= !(f.ai.all λh=>w9 (dT h.aB<=12)):=by
  rw[List.not_all_eq_any_not]
  congr 1
  funext h
  by_cases hd:dT h.aB<=12
  ·simp[hd]
  ·simp[hd];omega
 have e3:w9 (12<1-1+jA f.bG)= !w9 (jA f.bG<=12):=by
  by_cases hd:jA f.bG<=12
  ·simp[hd]
  ·simp[hd];omega
 rw[e2,e3];generalize (f.ai.all λh=>w9 (dT h.aB<=12))=x;generalize w9 (jA f.bG<=12)=y;generalize fS f.bG=z;cases x<;>cases y<;>cases z<;>rfl
def Bv:aa aM->Prop
 |[]=>True
 |s::l=>(0<=s.aW/\s.aW<=67108864)/\(s.cu=4->0<=s.fN/\s.fN<=4096)/\(s.cu≠3->s.cu≠4->s.aQ=[])/\(s.cu≠3->s.aX=[])/\Bv s.aQ/\Bv s.aX/\Bv l
termination_by l=>zi l
decreasing_by
 ·exact(aZ (zm ..)).1
 ·exact(aZ (zm ..)).2
 ·exact eu _ _
def axK{s:aM}(h:sK s=Z):(0<=s.aW/\s.aW<=67108864)/\(s.cu=4->0<=s.fN/\s.fN<=4096):=by
 unfold sK at h;grind
def AK(f:bn):∀(n:Nat) (l:aa aM) (top:Bool),zi l<n->cK f top l=0->Bv l
 |0,_,_,h,_=>aj
 |n+1,[],top,h,hc=>by rw[Bv];trivial
 |n+1,s::l,top,h,hc=>by
  rw[cK]at hc;have hz:=aZ (l:=s::l) (zm ..);have hz2:=eu s l;by_cases h1:pn f (top&&l.isEmpty) s≠0
  ·omega
  rw[bP h1]at hc;by_cases h2:cK f O s.aQ≠0
  ·omega
  rw[bP h2]at hc;by_cases h3:cK f O s.aX≠0
  ·omega
  rw[bP h3]at hc;have q1:=AK f n s.aQ O aj aj;have q2:=AK f n s.aX O aj aj;have q3:=AK f n l top aj hc;unfold pn at h1;cases hS:dw f s (top&&l.isEmpty)with
  |false=>rw[hS]at h1;simp at h1
  |true=>
   rw[hS]at h1;cases hN:sK s with
   |false=>rw[hN]at h1;simp at h1
   |true=>
    obtain⟨n1,n2⟩:=axK hN;obtain⟨b1,b2,b3,b4,b5⟩:=jh hS;rw[Bv];simp_all
def HH(s:aM)(a b:Int×Int×Int):Int×Int×Int:=
 if s.cu=1 then(1,1,s.aW)
 else if s.cu=3 then(1+max a.1 b.1,max a.2.1 b.2.1,s.aW+max a.2.2 b.2.2)
 else if s.cu=4 then(1+s.fN*(1+a.1),s.fN*a.2.1,s.fN*(s.aW+a.2.2))
 else(1,0,s.aW)
def PS(a b:Int×Int×Int):Int×Int×Int:=(a.1+b.1,a.2.1+b.2.1,a.2.2+b.2.2)
def vc(s:aM)(l:aa aM):dR (s::l)=PS (HH s (dR s.aQ) (dR s.aX)) (dR l):=by
 rw[dR];unfold HH PS;grind
def MR(l:aa aM)(s:aM):dR (l++[s])=PS (dR l) (HH s (dR s.aQ) (dR s.aX)):=by
 have h0:dR []=(0,0,0):=by rw[dR]
 induction l with
 |nil=>rw[yl,vc,h0];unfold PS;simp
 |cons a l ih=>
  rw[yB,vc,vc,ih];unfold PS;grind
def rR(c:Int×Int×Int)(a:Int×Int×Int):Int×Int×Int:=(min a.1 c.1,min a.2.1 c.2.1,min a.2.2 c.2.2)
def alR{n x c k:Int}(hn:0<=n)(hk:0<=k)(hx:0<=x)(hc:0<=c):min (n*(k+min x c)) c=min (n*(k+x)) c:=by
 by_cases h:x<=c
 ·grind
 ·rw[Int.min_eq_right (show c<=x by omega)];by_cases h0:n=0
  ·simp_all
  ·have e1:1*(k+c)<=n*(k+c):=xe aj aj;have e2:1*(k+x)<=n*(k+x):=xe aj aj;omega
def oa:∀{l:aa aM},Bv l->∀s∈l,(0<=s.aW/\s.aW<=67108864)/\(s.cu=4->0<=s.fN/\s.fN<=4096)/\(s.cu≠3->s.cu≠4->s.aQ=[])/\(s.cu≠3->s.aX=[])/\Bv s.aQ/\Bv s.aX
 |[],_,s,hs=>by cases hs
 |a::l,h,s,hs=>by
  rw[Bv]at h;rcases zk.1 hs with rfl|hs
  ·simp_all
  ·exact oa h.2.2.2.2.2.2 s hs
def nn3(a:Int×Int×Int):Prop:=0<=a.1/\0<=a.2.1/\0<=a.2.2
def axf{s:aM}{a b:Int×Int×Int}(hc:0<=s.aW)(hN:s.cu=4->0<=s.fN)(ha:nn3 a)(hb:nn3 b):nn3 (HH s a b):=by
 unfold nn3 at*;unfold HH;split
 ·simp_all
 ·split
  ·grind
  ·split
   ·rename_i h4;have:=hN h4;have e1:0<=s.fN*(1+a.1):=yo this aj;have e2:0<=s.fN*a.2.1:=yo this aj;have e3:0<=s.fN*(s.aW+a.2.2):=yo this aj;dsimp only;omega
   ·simp_all
def LY:∀(n:Nat) (l:aa aM),zi l<n->Bv l->nn3 (dR l)
 |0,_,h,_=>aj
 |n+1,[],h,_=>by rw[show dR []=(0,0,0)by rw[dR]];exact⟨by decide,by decide,by decide⟩
 |n+1,s::l,h,ho=>by
  have hz:=aZ (l:=s::l) (zm ..);have hz2:=eu s l;rw[Bv]at ho;have q1:=LY n s.aQ aj ho.2.2.2.2.1;have q2:=LY n s.aX aj ho.2.2.2.2.2.1;have q3:=LY n l aj ho.2.2.2.2.2.2;have q4:=axf ho.1.1 (λh=>(ho.2.1 h).1) q1 q2;rw[vc];unfold nn3 PS at*;grind
def qY{l:aa aM}(h:Bv l):nn3 (dR l):=LY _ l (zN _) h
def Gy:∀{l:aa aM} (i:Nat),Bv l->Bv (l.take i)
 |[],i,h=>by rw[List.take_nil];exact h
 |s::l,0,h=>by rw[List.take_zero,Bv];trivial
 |s::l,i+1,h=>by
  rw[Bv]at h;rw[List.take_succ_cons,Bv];exact⟨h.1,h.2.1,h.2.2.1,h.2.2.2.1,h.2.2.2.2.1,h.2.2.2.2.2.1,Gy i h.2.2.2.2.2.2⟩
def M3(a:Int×Int×Int):qh:=⟨a.1,a.2.1,a.2.2⟩
def TS:Int×Int×Int:=(1099511627776,1099511627776,1099511627776)
def Mk:Int×Int×Int:=(4097,9,67108865)
def anD{n x:Int}(h1:0<=n)(h2:n<=4096)(h3:0<=x)(h4:x<=1200000000000):0<=n*x/\n*x<=4915200000000000:=by
 have e1:n*x<=4096*x:=xe h2 h3;have e2:0<=n*x:=yo h1 h3;omega
def jZ(w c:Int):(if c<w then c else w)=min w c:=aj
def awE(w c:Int):(if w<c then w else c)=min w c:=aj
def Rv(a b c:Int):(if min a c<min b c then min b c else min a c)=min (max a b) c:=aj
def ajC(a b c:Int):(if min b c<min a c then min a c else min b c)=min (max a b) c:=aj
section
variable {C x y m k n a:Int} (h0:0<=C) (h1:C<=1099511627776) (hx:0<=x)
include h0 h1 hx
theorem Tk(hy:0<=y)(hy2:y<=67108864):min (ak (min x C+y)) C=min (x+y) C:=by
 rw[aI];omega
theorem YZ(hm:0<=m)(hk:0<=k)(hk2:k<=67108864):min (ak (min x C+ak (k+min m C))) C=min (x+(k+m)) C:=by
 have:ak (k+min m C)=k+min m C:=aI;rw[this,aI];omega
theorem aqf(hm:0<=m):min (ak (min x C+min m C)) C=min (x+m) C:=by
 rw[aI];omega
theorem asQ{z:Int}(hz:0<=z)(hy:0<=y)(hy2:y<=4915200000000001)(h:min y C=min z C):min (ak (min x C+y)) C=min (x+z) C:=by
 rw[aI];omega
omit hx in
theorem afB(hn:0<=n)(hn2:n<=4096)(ha:0<=a)(hk:0<=k)(hk2:k<=67108864):ak (n*ak (k+min a C))=n*(k+min a C)/\0<=n*(k+min a C)/\n*(k+min a C)<=4915200000000000/\0<=n*(k+a)/\min (n*(k+min a C)) C=min (n*(k+a)) C:=by
 have e1:ak (k+min a C)=k+min a C:=aI;have e2:=anD (x:=k+min a C) hn hn2 aj aj;rw[e1];exact⟨aI,e2.1,e2.2,yo hn aj,alR hn hk ha h0⟩
theorem aBm(hn:0<=n)(hn2:n<=4096)(ha:0<=a)(hk:0<=k)(hk2:k<=67108864):min (ak (min x C+ak (n*ak (k+min a C)))) C=min (x+n*(k+a)) C:=by
 obtain⟨q1,q2,q3,q4,q5⟩:=afB h0 h1 hn hn2 ha hk hk2;rw[q1];exact asQ h0 h1 hx q4 q2 aj q5
theorem arM(hn:0<=n)(hn2:n<=4096)(ha:0<=a):min (ak (min x C+ak (1+ak (n*ak (1+min a C))))) C=min (x+(1+n*(1+a))) C:=by
 obtain⟨q1,q2,q3,q4,q5⟩:=afB (k:=1) h0 h1 hn hn2 ha aj aj;rw[q1];generalize n*(1+min a C)=y at*;rw[show ak (1+y)=1+y from aI];exact asQ h0 h1 hx aj aj aj aj
theorem aq4(hn:0<=n)(hn2:n<=4096)(ha:0<=a):min (ak (min x C+ak (n*min a C))) C=min (x+n*a) C:=by
 obtain⟨q1,q2,q3,q4,q5⟩:=afB (k:=0) h0 h1 hn hn2 ha aj aj;rw[Int.zero_add]at q2 q3 q4 q5;rw[Int.zero_add]at q5;rw[show ak (n*min a C)=n*min a C from aI];exact asQ h0 h1 hx q4 q2 aj q5
end
def al7(zf:aa aM->af ak9)(l:aa aM)(hl:zZ l<=1000000)(ho:Bv l)(hM:∀s∈l,zf s.aQ=M (M3 (rR TS (dR s.aQ)))/\zf s.aX=M (M3 (rR TS (dR s.aX)))):axF zf l=M (M3 (rR TS (dR l))):=by
 obtain⟨v,e1,hv⟩:=cZ (rnd:=L9 zf) (zZ l) (λi (b:qh)=>⟨l,(zZ l:Int),(i:Int),⟨0,0,0⟩,b⟩) (λi b=>b=M3 (rR TS (dR (l.take i)))) (λi bb hi hb=>by
  have hw:=jy hi hl;obtain⟨k1,k2⟩:=hM _ (bg hi);obtain⟨⟨c1,c2⟩,hN,_,_,o1,o2⟩:=oa ho _ (bg hi);obtain⟨x1,x2,x3⟩:=qY (Gy i ho);obtain⟨a1,a2,a3⟩:=qY o1;obtain⟨b1,b2,b3⟩:=qY o2;refine⟨M3 (rR TS (dR (l.take (i+1)))),?_,rfl⟩;have hi1:(i:Int)<(zZ l:Int):=aj;have hi0:(0:Int)<=(i:Int):=aj;rw[bV hi,MR];generalize dR (l.take i)=x at*;generalize dR l[i]!.aQ=a at*;generalize dR l[i]!.aX=b at*;obtain⟨X1,X2,X3⟩:=x;obtain⟨A1,A2,A3⟩:=a;obtain⟨B1,B2,B3⟩:=b;have hb:bb=⟨min X1 1099511627776,min X2 1099511627776,min X3 1099511627776⟩:=hb;have k1:zf l[i]!.aQ=M ⟨min A1 1099511627776,min A2 1099511627776,min A3 1099511627776⟩:=k1;have k2:zf l[i]!.aX=M ⟨min B1 1099511627776,min B2 1099511627776,min B3 1099511627776⟩:=k2;subst hb;have z0:(0:Int)<=1099511627776:=by decide
  have z1:(1099511627776:Int)<=1099511627776:=by decide
  dsimp only at x1 x2 x3 a1 a2 a3 b1 b2 b3;unfold L9 Gw;simp only[zw,hi1,k1,k2,hw];by_cases h1:l[i]!.cu=1
  ·have e:HH l[i]! (A1,A2,A3) (B1,B2,B3)=(1,1,l[i]!.aW):=by unfold HH;rw[bO h1]
   rw[l8 h1,fZ,e,jZ,jZ,jZ,Tk z0 z1 x1 aj aj,Tk z0 z1 x2 aj aj,Tk z0 z1 x3 c1 c2];rfl
  ·rw[iU h1,fO];by_cases h3:l[i]!.cu=3
   ·have e:HH l[i]! (A1,A2,A3) (B1,B2,B3)=(1+max A1 B1,max A2 B2,l[i]!.aW+max A3 B3):=by unfold HH;rw[bP h1,bO h3]
    rw[l8 h3,fZ,e,Rv,Rv,Rv,jZ,jZ,jZ,YZ z0 z1 x1 aj aj aj,aqf z0 z1 x2 aj,YZ z0 z1 x3 aj c1 c2];rfl
   ·rw[iU h3,fO];by_cases h4:l[i]!.cu=4
    ·obtain⟨n1,n2⟩:=hN h4;have e:HH l[i]! (A1,A2,A3) (B1,B2,B3)=(1+l[i]!.fN*(1+A1),l[i]!.fN*A2,l[i]!.fN*(l[i]!.aW+A3)):=by unfold HH;rw[bP h1,bP h3,bO h4]
     rw[l8 h4,fZ,e,jZ,jZ,jZ,arM z0 z1 x1 n1 n2 a1,aq4 z0 z1 x2 n1 n2 a2,aBm z0 z1 x3 n1 n2 a3 c1 c2];rfl
    ·have e:HH l[i]! (A1,A2,A3) (B1,B2,B3)=(1,0,l[i]!.aW):=by unfold HH;rw[bP h1,bP h3,bP h4]
     rw[iU h4,fO,e,jZ,jZ,jZ,Tk z0 z1 x1 aj aj,Tk z0 z1 x2 aj aj,Tk z0 z1 x3 c1 c2];rfl) (λb _=>by unfold L9 Gw;simp) (b:=⟨0,0,0⟩) (by rw[List.take_zero,show dR []=(0,0,0)by rw[dR]];rfl)
 have e1':Kt zf ⟨l,(zZ l:Int),0,⟨0,0,0⟩,⟨0,0,0⟩⟩=M ⟨l,(zZ l:Int),(zZ l:Int),⟨0,0,0⟩,v⟩:=e1;unfold axF Gw;simp_all
def JW:∀(n:Nat) (l:aa aM),zi l<n->gF l<=1000->Bv l->aeS n l=M (M3 (rR TS (dR l)))
 |0,_,h,_,_=>aj
 |n+1,l,h,h2,ho=>al7 (aeS n) l (by have:=jH l;omega) ho (λs hs=>⟨JW n _ (by have:=aZ hs;omega) (by have:=gD hs;omega) (oa ho s hs).2.2.2.2.1,JW n _ (by have:=aZ hs;omega) (by have:=gD hs;omega) (oa ho s hs).2.2.2.2.2⟩)
def am5(l:aa aM)(h:gF l<=1000)(ho:Bv l):ae8 l=M (M3 (rR TS (dR l))):=dc (zi l+1) λn hn=>JW n l aj h ho
def auy(zf:aa aM->af E56)(l:aa aM)(hl:zZ l<=1000000)(ho:Bv l)(hM:∀s∈l,zf s.aQ=M (rR Mk (dR s.aQ))/\zf s.aX=M (rR Mk (dR s.aX))):s56 zf l=M (rR Mk (dR l)):=by
 obtain⟨v,e1,hv⟩:=cZ (rnd:=Xm zf) (zZ l) (λi (b:Int×Int×Int)=>⟨l,b.1,b.2.1,b.2.2,(i:Int)⟩) (λi b=>b=rR Mk (dR (l.take i))) (λi bb hi hb=>by
  have hw:=jy hi hl;obtain⟨k1,k2⟩:=hM _ (bg hi);obtain⟨⟨c1,c2⟩,hN,hT,hE,o1,o2⟩:=oa ho _ (bg hi);obtain⟨x1,x2,x3⟩:=qY (Gy i ho);obtain⟨a1,a2,a3⟩:=qY o1;obtain⟨b1,b2,b3⟩:=qY o2;have zT:l[i]!.cu≠3->l[i]!.cu≠4->dR l[i]!.aQ=(0,0,0):=λh3 h4=>by rw[hT h3 h4,dR]
  have zE:l[i]!.cu≠3->dR l[i]!.aX=(0,0,0):=λh3=>by rw[hE h3,dR]
  refine⟨rR Mk (dR (l.take (i+1))),?_,rfl⟩;have hi1:(i:Int)<(zZ l:Int):=aj;have hi0:(0:Int)<=(i:Int):=aj;rw[bV hi,MR];generalize dR (l.take i)=x at*;generalize dR l[i]!.aQ=a at*;generalize dR l[i]!.aX=b at*;obtain⟨X1,X2,X3⟩:=x;obtain⟨A1,A2,A3⟩:=a;obtain⟨B1,B2,B3⟩:=b;have hb:bb=(min X1 4097,min X2 9,min X3 67108865):=hb;have k1:zf l[i]!.aQ=M (min A1 4097,min A2 9,min A3 67108865):=k1;have k2:zf l[i]!.aX=M (min B1 4097,min B2 9,min B3 67108865):=k2;subst hb;have z0:(0:Int)<=4097:=by decide
  have z1:(4097:Int)<=1099511627776:=by decide
  have y0:(0:Int)<=9:=by decide
  have y1:(9:Int)<=1099511627776:=by decide
  have u0:(0:Int)<=67108865:=by decide
  have u1:(67108865:Int)<=1099511627776:=by decide
  dsimp only at x1 x2 x3 a1 a2 a3 b1 b2 b3;unfold Xm Pj;simp only[dS,hi1,hi0,fZ,dx,k1,k2,hw,og,lT,awE,ajC];by_cases h4:l[i]!.cu=4
  ·obtain⟨n1,n2⟩:=hN h4;have h1:¬l[i]!.cu=1:=aj;have h3:¬l[i]!.cu=3:=aj;have e:HH l[i]! (A1,A2,A3) (B1,B2,B3)=(1+l[i]!.fN*(1+A1),l[i]!.fN*A2,l[i]!.fN*(l[i]!.aW+A3)):=by unfold HH;rw[bP h1,bP h3,bO h4]
   rw[l8 h4,iU h1,fZ,fO,e,arM z0 z1 x1 n1 n2 a1,aq4 y0 y1 x2 n1 n2 a2,aBm u0 u1 x3 n1 n2 a3 c1 c2];rfl
  ·rw[iU h4,fO];by_cases h1:l[i]!.cu=1
   ·have h3:¬l[i]!.cu=3:=aj;have ea:=zT h3 h4;have eb:=zE h3;cases ea;cases eb;have e:HH l[i]! (0,0,0) (0,0,0)=(1,1,l[i]!.aW):=by unfold HH;rw[bO h1]
    rw[l8 h1,fZ,e,YZ z0 z1 x1 aj aj aj,Tk y0 y1 x2 aj aj,YZ u0 u1 x3 aj c1 c2];simp only[rR,Mk,PS,Int.max_self,Int.add_zero]
   ·rw[iU h1,fO,YZ z0 z1 x1 aj aj aj,aqf y0 y1 x2 aj,YZ u0 u1 x3 aj c1 c2];by_cases h3:l[i]!.cu=3
    ·have e:HH l[i]! (A1,A2,A3) (B1,B2,B3)=(1+max A1 B1,max A2 B2,l[i]!.aW+max A3 B3):=by unfold HH;rw[bP h1,bO h3]
     rw[e];rfl
    ·have ea:=zT h3 h4;have eb:=zE h3;cases ea;cases eb;have e:HH l[i]! (0,0,0) (0,0,0)=(1,0,l[i]!.aW):=by unfold HH;rw[bP h1,bP h3,bP h4]
     rw[e];simp only[rR,Mk,PS,Int.max_self,Int.add_zero]) (λb _=>by unfold Xm Pj;simp) (b:=(0,0,0)) (by rw[List.take_zero,show dR []=(0,0,0)by rw[dR]];rfl)
 have e1':VT zf ⟨l,0,0,0,0⟩=M ⟨l,v.1,v.2.1,v.2.2,(zZ l:Int)⟩:=e1;unfold s56 Pj;rw[e1'];rw[hv];simp
def Tv:∀(n:Nat) (l:aa aM),zi l<n->gF l<=1000->Bv l->m56 n l=M (rR Mk (dR l))
 |0,_,h,_,_=>aj
 |n+1,l,h,h2,ho=>auy (m56 n) l (by have:=jH l;omega) ho (λs hs=>⟨Tv n _ (by have:=aZ hs;omega) (by have:=gD hs;omega) (oa ho s hs).2.2.2.2.1,Tv n _ (by have:=aZ hs;omega) (by have:=gD hs;omega) (oa ho s hs).2.2.2.2.2⟩)
def adN(l:aa aM)(h:gF l<=1000)(ho:Bv l):r56 l=M (rR Mk (dR l)):=dc (zi l+1) λn hn=>Tv n l aj h ho
def aeR(f:bn)(h:gF f.bG+kR (f.ai.map (·.aB))<=900)(hh:zZ f.ai<=1000000)(hvl:zZ f.ah<=1000000):m48 f=M (Aa f):=by
 obtain⟨r,q,e1,e2,e3⟩:=alD f h hh;unfold m48 I8 Aa;rw[e1];dsimp only;rw[e2];dsimp only;rw[iU (show ¬((zZ f.ai:Int)<(zZ f.ai:Int))by omega),fO,F3,e3];unfold tZ;generalize (f.ai.all λh=>w9 (dT h.aB<=12))=x;generalize w9 (jA f.bG<=12)=y;generalize fS f.bG=z;by_cases h1:64<(zZ f.ah:Int)
 ·grind
 by_cases h2:8<(zZ f.ai:Int)
 ·grind
 rw[iU h1,iU h2,l8 (show zZ f.ah<=64 by omega),l8 (show zZ f.ai<=8 by omega)];simp only[Bool.true_and];cases hx:(x&&y&& !z)with
 |false=>rfl
 |true=>
  rw[avO f.ah hvl];dsimp only[Bool.not_true,fO];rw[bP (by decide)];by_cases hvc:jb f.ah=0
  case neg=>simp[hvc]
  have hv:cg f.ah:=by
   apply nC;unfold jb at hvc;by_cases h0:dZ (mu f.ah) f.ah 0=0
   ·exact h0
   ·rw[bO h0]at hvc;exact iy hvc h0
  rw[l8 hvc,fZ,fO,bP (by simpa using hvc),avF f hv hh];dsimp only;by_cases hhc:dZ (lB f) f.ai 0=0
  case neg=>simp[hhc]
  rw[l8 hhc,fZ,fO,bP (by simpa using hhc),ajI f hv f.bG Z aj];dsimp only;by_cases hsc:cK f Z f.bG=0
  case neg=>simp[hsc]
  have ho:Bv f.bG:=AK f _ f.bG Z (zN _) hsc;rw[l8 hsc,fZ,fO,bP (by simpa using hsc)];have e:=am5 f.bG aj ho;unfold Wp;generalize dR f.bG=u at e ⊢;obtain⟨a,b,c⟩:=u;have e:ae8 f.bG=M ⟨min a 1099511627776,min b 1099511627776,min c 1099511627776⟩:=e;rw[e];by_cases a1:4096<a
  ·simp[a1,show 4096<min a 1099511627776 by omega]
  ·by_cases b1:8<b
   ·simp[b1,show 8<min b 1099511627776 by omega]
   ·by_cases d1:67108864<c
    ·simp[d1,show 67108864<min c 1099511627776 by omega]
    ·simp[a1,b1,d1,show ¬4096<min a 1099511627776 by omega,show ¬8<min b 1099511627776 by omega,show ¬67108864<min c 1099511627776 by omega]
def adK(f:bn)(h:gF f.bG+kR (f.ai.map (·.aB))<=900)(hh:zZ f.ai<=1000000)(hvl:zZ f.ah<=1000000):m15 f=M (Aa f):=by
 unfold m15 Ci Aa;rw[axR f h hh];dsimp only;cases hx:tZ f with
 |false=>rfl
 |true=>
  rw[avp f.ah hvl];dsimp only[fZ,fO];rw[bP (by decide)];by_cases hvc:jb f.ah=0
  case neg=>simp[hvc]
  have hv:cg f.ah:=by
   apply nC;unfold jb at hvc;omega
  obtain⟨i,e1,hc⟩:=ac1 f hv hh;rw[l8 hvc,fZ,fO,bP (by simpa using hvc),e1];dsimp only;rcases hc with ⟨rfl,hc⟩|⟨hi,h0,hc⟩
  ·rw[bP (show ¬(dZ (lB f) f.ai 0≠0)by rw[hc];simp),iU (show ¬((zZ f.ai:Int)<(zZ f.ai:Int))by omega),fO,as7 f hv f.bG Z aj];dsimp only;by_cases hsc:cK f Z f.bG=0
   case neg=>simp[hsc]
   have ho:Bv f.bG:=AK f _ f.bG Z (zN _) hsc;rw[l8 hsc,fZ,fO,bP (show ¬(cK f Z f.bG≠0)by rw[hsc];simp)];have e:=adN f.bG aj ho;unfold Wp;generalize dR f.bG=u at e ⊢;obtain⟨a,b,c⟩:=u;have e:r56 f.bG=M (min a 4097,min b 9,min c 67108865):=e;rw[e];by_cases a1:4096<a
   ·simp[a1,show 4096<min a 4097 by omega]
   ·by_cases b1:8<b
    ·simp[b1,show 8<min b 9 by omega]
    ·by_cases d1:67108864<c
     ·simp[d1,show 67108864<min c 67108865 by omega]
     ·simp[a1,b1,d1,show ¬4096<min a 4097 by omega,show ¬8<min b 9 by omega,show ¬67108864<min c 67108865 by omega]
  ·obtain⟨j,h2,h3⟩:=Nj f hh i aj f.ai[i]!;rw[bO (show dZ (lB f) f.ai 0≠0 by rw[hc];exact h0),hc];have hi1:(i:Int)<(zZ f.ai:Int):=aj;have hi0:(0:Int)<=(i:Int):=aj;revert h0;unfold lB;simp only[zw,ay.eta,dO.eta,Lr,JO,h2,LG f.ah hv,hi1];generalize jM f.ai[i]!.fName=B;generalize ((f.ai.take i).any λw=>w.fName.toList==f.ai[i]!.fName.toList)=A at h3;generalize jD f.ai[i]!.aC f.ai[i]!.au=C;generalize iX f.ah Z f.ai[i]!.aB=T;rcases h3 with ⟨rfl,rfl⟩|⟨hj,h4,rfl⟩
   ·cases B<;>cases C<;>by_cases hT:T=0<;>simp[hT]
   ·have hj1:(j:Int)<(i:Int):=aj;have hj2:(j:Int)<(zZ f.ai:Int):=aj;have hj0:(0:Int)<=(j:Int):=aj;simp only[dS,hj0,hj1,hj2,h4,dx,fZ];cases B<;>simp
def P8{f:bn}(h:Aa f=0):cg f.ah:=by
 unfold Aa at h;by_cases h1:tZ f=O
 ·simp_all
 by_cases hvc:jb f.ah=0
 ·apply nC;unfold jb at hvc;omega
 ·omega
end Go.Proofs.YtghilkcphindjaaGreat
end
