/- Merged: Hn, Gd, Ho, Pl, Nd, Nd2, Nd3, Nd4, Nd5, Nd6, Nd7, Ne1, Pl2, Ne2, Ne3, Ne4, Ne5, Ne6, Ne7, Ne8, Ne11, Ne12, Ne13. -/
import Derived.Test.YtnfljbehcffmcaaGreatM2RefineRefuses
import Derived.KernelRfl
open Int renaming toNat_natCast → ze, le_refl → zq, toNat → zC, mul_nonneg → zF, mul_comm → zI, mul_le_mul_of_nonneg_right → zN, mul_assoc → zP, ediv_nonneg → zQ, add_mul → zR, dvd_trans → zU, one_mul → z6, ediv_le_self → ye, sub_mul → yt, dvd_sub → yz, gcd → yD, mul_ediv_add_emod → yT, emod_nonneg → yU, dvd_add → yV, emod_lt_of_pos → y4, mul_add → y5, le_of_lt → y7, ediv_mul_le → y9, mul_le_mul → xA, dvd_zero → xB, dvd_mul_left → xC, natCast_mul → xI, zero_mul → xT, le_trans → xU, zero_dvd → xV, min_eq_right → xW, ediv_mul_cancel → wv, lt_of_mul_lt_mul_right → wL, dvd_of_emod_eq_zero → wM, min_eq_left → wN, ediv_lt_of_lt_mul → wT, eq_ofNat_of_zero_le → wU, mul_le_mul_of_nonneg_left → wV, lt_ediv_add_one_mul_self → wW
open Nat renaming le_refl → zo, mod_lt → yP, zero_le → yZ, lt_succ_iff_lt_or_eq → y8
open Bool renaming and_eq_true → zi, or_eq_true → yL, true → O, false → G
open Option renaming some → zA, some → V, none → S
open List renaming getElem?_eq_getElem → zu, all_eq_true → zw, mem_singleton → zy, mem_cons → zB, take_length → zD, length_take → zH, range → zM, length → zS, mem_append → zV, drop → yd, getElem_of_mem → yY, getElem_mem → xM, getElem_take → we, length_pos_iff → wg, any_eq_true → wu
open Decidable renaming decide → J
open Go.Proofs.Tryz renaming prog → w9
open Go.Proofs.Tryz
set_option linter.unusedSectionVars false
set_option linter.unusedVariables false
set_option linter.unusedSimpArgs false
set_option linter.defProp false
noncomputable section
set_option maxRecDepth 100000
namespace Go.Proofs.YtnfljbehcffmcaaGreat
open Go Go.Iv
open Go.IntKind (i64 u64)
abbrev E80:=aH
def d80:Td 0 E80:= .c [] [2] (.r 0 1 (ec 2 (qp 0 0) en) (sb 0 34 (lg 34) sn) (λz=>z.2.1) (λx=>(((),()),(x,()))))
def TZ(a0:Int):E80:=
 aH.mk a0 a0 (0)
def e80:=eL w9 80 G (bk ln) d80 (λg=>V (TZ g.1))
def Iz:EO e80:=λh=>kL (an:= .no) func80 aP aF h
def amK:bf:=de
abbrev aoG:=Bool
def d145:Td 0 aoG:= .c [] [2] (.r 0 0 (ec 2 qb en) sn (λz=>z.1.1) (λx=>((x,()),(()))))
def awH:=(bk ln)
def alR:An:=(noTwo (.two (.rb [] 2) .no))
def atu:∀f∈([]:aa Nat),bw (amK) f:=aF
def iS(a0:Int):aoG:=
 let r1:Bool:=bif J (-1099511627776<=a0)then J (a0<=1099511627776)else G;r1
def aBi(a0:Int):bM w9 (amK) 300 (alR) 145 (awH.c (a0,())) [] 0 d145.rd=V (iS a0):=by
 refine Eq.trans (b:=(
  match bif J (-1099511627776<=a0)then V (J (a0<=1099511627776))else V (G)with|S=>S|V r1=>V (r1):af aoG)) (by kernel_rfl) ?_
 simp only[iS,cM,dg]
def UB:=eL w9 145 G awH d145 (λg=>V (iS g.1))
def uG:EO UB:=λh=>kL (F:=amK) (an:=alR) (l:=[(.skip,(.rb [] 2))]) func145 aP (aA atu aF) h (c:=λg=>aBi g.1)
def jF:EP UB:=λh=>kP h
def azg:bf:=de
abbrev ayl:=aH
def d224:Td 0 ayl:= .c [] [0] (.r 0 1 (ec 0 (qp 0 0) en) (sb 0 34 (lg 34) sn) (λz=>z.2.1) (λx=>(((),()),(x,()))))
def ayZ:=ln
def ajX:An:= .no
def iJ:ayl:=
 aH.mk (1) (0) (0)
def aDp:bM w9 (azg) 300 (ajX) 224 (ayZ.c ()) [] 0 d224.rd=V (iJ):=by kernel_rfl
def LO:=eL w9 224 G ayZ d224 (λ_=>V (iJ))
def jN:EO LO:=λh=>kL (F:=azg) (an:=ajX) func224 aP aF h (c:=λ_=>aDp)
def kQ:EP LO:=λh=>kP h
def aBI:bf:=(LO de)
abbrev aq4:=Bool
def d147:Td 0 aq4:= .c [] [2] (.r 0 0 (ec 2 qb en) sn (λz=>z.1.1) (λx=>((x,()),(()))))
def ayT:=(lc (qg 34) ln)
def amv:An:= .no
def fo(a0:aH):aq4:=
 bif J (a0.ag=iJ.ag)then bif J (a0.ah=iJ.ah)then bif J (a0.ai=iJ.ai)then O else G else G else G
def aEq(a0:aH):bM w9 (aBI) 300 (amv) 147 (ayT.c (a0,())) [] 0 d147.rd=V (fo a0):=by
 refine Eq.trans (b:=(
  V (bif J (a0.ag=iJ.ag)then bif J (a0.ah=iJ.ah)then bif J (a0.ai=iJ.ai)then O else G else G else G):af aq4)) (by kernel_rfl) ?_
 simp only[fo,cM,dg]
def Ev:=eL w9 147 G ayT d147 (λg=>V (fo g.1))
def jc:EO Ev:=λh=>kL (an:=amv) func147 (jN aP) aF h (c:=λg=>aEq g.1)
def fu:EP Ev:=λh=>kP h
def azA:bf:=(Ev (UB de))
abbrev awq:=Bool
def d144:Td 0 awq:= .c [] [2] (.r 0 0 (ec 2 qb en) sn (λz=>z.1.1) (λx=>((x,()),(()))))
def al6:∀f∈([145]:aa Nat),bw (azA) f:=(aA (fu (jF bS)) aF)
def tv(a0:aH):af awq:=
 bif fo a0 then V O else match bif bif iS a0.ag then G else O then V O else bif bif iS a0.ah then G else O then V O else V (J (a0.ah<a0.ag))with|S=>S|V r1=>bif r1 then V G else bif J (a0.ag=a0.ah)then V (J (a0.ai=0))else match bif J (1<=a0.ai)then if¬a0.ai=0then V (J ((i64.wrap (a0.ah-a0.ag)).tmod a0.ai=0))else S else V G with|S=>S|V r2=>V (r2)
def Md:=eL w9 144 G (lc (qg 34) ln) d144 (λg=>tv g.1)
def kG:EO Md:=λh=>kL (F:=azA) (an:=(noTwo (noTwo (.two (.two (.rb [145] 21) .no) (noTwo (.two (.rb [145] 2) .no)))))) (l:=[(.skip,(.rb [145] 21)),(.skip,(.rb [145] 2))]) func144 (jc (uG aP)) (aA al6 (aA al6 aF)) h
def fZ:EP Md:=λh=>kP h
abbrev atV:=aH
def d149:Td 0 atV:= .c [] [2] (.r 0 1 (ec 2 (qp 0 0) en) (sb 0 34 (lg 34) sn) (λz=>z.2.1) (λx=>(((),()),(x,()))))
def gL(a0:Int):atV:=
 aH.mk a0 a0 (0)
def afJ:=eL w9 149 G (bk ln) d149 (λg=>V (gL g.1))
def qU:EO afJ:=λh=>kL (an:= .no) func149 aP aF h
def VH:EP afJ:=λh=>kP h
abbrev av8:=aH
def d225:Td 0 av8:= .c [] [6] (.r 0 1 (ec 6 (qp 0 0) en) (sb 0 34 (lg 34) sn) (λz=>z.2.1) (λx=>(((),()),(x,()))))
def lS(a0:Int)(a1:Int)(a2:Int):af av8:=
 bif J (a1<a0)then V (iJ)else bif J (a2=0)then V (gL a0)else if¬a2=0then bif J (a0=i64.wrap (a0+i64.wrap (i64.wrap ((i64.wrap (a1-a0)).tdiv a2)*a2)))then V (gL a0)else V (aH.mk a0 (i64.wrap (a0+i64.wrap (i64.wrap ((i64.wrap (a1-a0)).tdiv a2)*a2))) a2)else S
def Ph:=eL w9 225 G (bk (bk (bk ln))) d225 (λg=>lS g.1 g.2.1 g.t.1)
def rE:EO Ph:=λh=>kL (an:= .no) func225 (jN (qU aP)) aF h
def jE:EP Ph:=λh=>kP h
def auN:bf:=(Ph (LO (Ev de)))
abbrev auw:=aH×aH
def d146:Td 0 auw:= .c [] [4,5] (.r 0 2 (ec 4 (qp 0 0) (ec 5 (qp 1 0) en)) (sb 0 34 (lg 34) (sb 1 34 (lg 34) sn)) (λz=>(z.2.1,z.t.1)) (λx=>(((),(),()),(x.1,x.2,()))))
def aws:∀f∈([147]:aa Nat),bw (auN) f:=(aA (jE (kQ (fu bS))) aF)
def BD(a0:aH)(a1:Int):af auw:=
 match bif fo a0 then V (O)else V (J (a1<a0.ag))with|S=>S|V r1=>bif r1 then V ((iJ,a0))else bif J (a0.ah<=a1)then V ((a0,iJ))else match lS a0.ag a1 a0.ai with|S=>S|V r2=>match lS (i64.wrap (r2.ah+a0.ai)) a0.ah a0.ai with|S=>S|V r3=>V ((r2,r3))
def adI:=eL w9 146 G (lc (qg 34) (bk ln)) d146 (λg=>BD g.1 g.2.1)
def Jb:EO adI:=λh=>kL (F:=auN) (an:=(noTwo (.two (.two (.rb [147] 7) .no) .no))) (l:=[(.skip,(.rb [147] 7))]) func146 (rE (jN (jc aP))) (aA aws aF) h
def V8:EP adI:=λh=>kP h
structure mc where
 (t3 t5:Int)
 t6:List Int
 (t7 t8:Int)
def QD:Td 0 mc:= .c [] [3,5,6,7,8] (.r 0 0 (ec 3 aM (ec 5 aM (ec 6 (ql 3) (ec 7 aM (ec 8 aM en))))) sn (λz=>⟨z.1.1,z.1.2.1,z.1.t.1,z.1.t.2.1,z.1.q.1⟩) (λx=>((x.t3,x.t5,x.t6,x.t7,x.t8,()),(()))))
def sD(p:mc):af (af mc):=
 bif bif J (p.t5=0)then G else O then if¬p.t5=0then V (V (mc.mk p.t5 (p.t3.tmod p.t5) p.t6 p.t7 p.t8))else S else V (S)
def AS:=bK (sD)
structure sB where
 t3:Int
 t6:List Int
 (t7 t8:Int)
def PW:Td 0 sB:= .c [] [3,6,7,8] (.r 0 0 (ec 3 aM (ec 6 (ql 3) (ec 7 aM (ec 8 aM en)))) sn (λz=>⟨z.1.1,z.1.2.1,z.1.t.1,z.1.t.2.1⟩) (λx=>((x.t3,x.t6,x.t7,x.t8,()),(()))))
def sx(p:sB):af (af sB):=
 bif J (p.t8<p.t7)then if 0<=p.t8/\p.t8<p.t6.length then match AS (mc.mk p.t3 p.t6[p.t8.toNat]! p.t6 p.t7 p.t8)with|S=>S|V r1=>bif bif J (r1.t5=0)then G else O then if¬r1.t5=0then S else S else V (V (sB.mk r1.t3 r1.t6 r1.t7 (i64.wrap (r1.t8+1))))else S else V (S)
def Zw:An:=(noTwo (noTwo (.two (noTwo (QD.lp AS .no)) .no)))
def CD:=bK (sx)
abbrev azb:=Int
def d226:Td 0 azb:= .c [] [2] (.r 0 0 (ec 2 aM en) sn (λz=>z.1.1) (λx=>((x,()),(()))))
def Bu(a0:aa Int):af azb:=
 match CD (sB.mk 0 a0 a0.length 0)with|S=>S|V r2=>bif J (r2.t8<r2.t7)then if 0<=r2.t8/\r2.t8<r2.t6.length then match AS (mc.mk r2.t3 r2.t6[r2.t8.toNat]! r2.t6 r2.t7 r2.t8)with|S=>S|V r3=>bif bif J (r3.t5=0)then G else O then if¬r3.t5=0then S else S else S else S else V (r2.t3)
def Xp:=eL w9 226 G (lc (ql 3) ln) d226 (λg=>Bu g.1)
def BS:EO Xp:=λh=>kL (an:=(noTwo (noTwo (.two (noTwo (PW.lp CD Zw)) .no)))) (l:=[(bg f226 0,(PW.lp CD Zw)),(bg f226 1,(QD.lp AS .no))]) func226 aP (aA (aO PW) (aA (aO QD) aF)) h
def mW:EP Xp:=λh=>kP h
def aAG:bf:=de
abbrev apN:=Int
def d227:Td 0 apN:= .c [] [2] (.r 0 0 (ec 2 aM en) sn (λz=>z.1.1) (λx=>((x,()),(()))))
def ay2:=(bk ln)
def akL:An:= .no
def jm(a0:Int):apN:=
 if a0<i64.wrap (0-a0)then i64.wrap (0-a0)else a0
def aAH(a0:Int):bM w9 (aAG) 300 (akL) 227 (ay2.c (a0,())) [] 0 d227.rd=V (jm a0):=by
 refine Eq.trans (b:=(
  V (if a0<i64.wrap (0-a0)then i64.wrap (0-a0)else a0):af apN)) (by kernel_rfl) ?_
 simp only[jm,cM,dg]
def Yw:=eL w9 227 G ay2 d227 (λg=>V (jm g.1))
def Cq:EO Yw:=λh=>kL (an:=akL) func227 aP aF h (c:=λg=>aAH g.1)
def G6:EP Yw:=λh=>kP h
def auD:bf:=(Yw (Xp (Ph (Ev de))))
abbrev atr:=aH
def d148:Td 0 atr:= .c [] [4] (.r 0 1 (ec 4 (qp 0 0) en) (sb 0 34 (lg 34) sn) (λz=>z.2.1) (λx=>(((),()),(x,()))))
def atx:∀f∈([147]:aa Nat),bw (auD) f:=(aA (G6 (mW (jE (fu bS)))) aF)
def lR(a0:aH)(a1:aH):af atr:=
 bif fo a0 then V (a1)else match bif fo a1 then V (O)else V (bif J (a0.ag=a1.ag)then bif J (a0.ah=a1.ah)then bif J (a0.ai=a1.ai)then O else G else G else G)with|S=>S|V r1=>bif r1 then V (a0)else match Bu [a0.ai,a1.ai,jm (i64.wrap (a0.ag-a1.ag))]with|S=>S|V r2=>match lS (if a1.ag<a0.ag then a1.ag else a0.ag) (if a0.ah<a1.ah then a1.ah else a0.ah) r2 with|S=>S|V r3=>V (r3)
def Y2:=eL w9 148 G (lc (qg 34) (lc (qg 34) ln)) d148 (λg=>lR g.1 g.2.1)
def rF:EO Y2:=λh=>kL (F:=auD) (an:=(noTwo (noTwo (.two (.two (.rb [147] 14) .no) .no)))) (l:=[(.skip,(.rb [147] 14))]) func148 (Cq (BS (rE (jc aP)))) (aA atx aF) h
def Ga:EP Y2:=λh=>kP h
def F81:bf:=(afJ (Y2 (Ev (adI (UB (Md de))))))
abbrev E81:=aH×Int
def d81:Td 0 E81:= .c [] [6,7] (.r 0 1 (ec 6 (qp 0 0) (ec 7 aM en)) (sb 0 34 (lg 34) sn) (λz=>(z.2.1,z.1.2.1)) (λx=>(((),x.2,()),(x.1,()))))
def aBn:∀f∈([145]:aa Nat),bw (F81) f:=(aA (VH (Ga (fu (V8 (jF (fZ bS)))))) aF)
def m81(a0:aH)(a1:Int)(a2:Int):af E81:=
 match tv a0 with|S=>S|V r1=>bif bif r1 then G else O then V ((aH.mk (0) (0) (0),1))else match bif J (a2<a1)then V (O)else bif bif iS a1 then G else O then V (O)else V (bif iS a2 then G else O)with|S=>S|V r2=>bif r2 then V ((aH.mk (0) (0) (0),3))else match BD a0 (i64.wrap (a1-1))with|S=>S|V r3=>match BD r3.snd a2 with|S=>S|V r4=>bif bif fo r3.fst then G else O then match lR r4.fst (gL a1)with|S=>S|V r5=>bif bif fo r4.snd then G else O then match lR r5 (gL a2)with|S=>S|V r6=>V ((r6,0))else V ((r5,0))else bif bif fo r4.snd then G else O then match lR r4.fst (gL a2)with|S=>S|V r7=>V ((r7,0))else V ((r4.fst,0))
def e81:=eL w9 81 G (lc (qg 34) (bk (bk ln))) d81 (λg=>m81 g.1 g.2.1 g.t.1)
def QF:EO e81:=λh=>kL (F:=F81) (an:=(noTwo (noTwo (.two (.two (.rb [145] 28) .no) .no)))) (l:=[(.skip,(.rb [145] 28))]) func81 (qU (rF (jc (Jb (uG (kG aP)))))) (aA aBn aF) h
def ay5:bf:=(Ev de)
abbrev asU:=Bool
def d177:Td 0 asU:= .c [] [4] (.r 0 0 (ec 4 qb en) sn (λz=>z.1.1) (λx=>((x,()),(()))))
def amI:∀f∈([147]:aa Nat),bw (ay5) f:=(aA (fu bS) aF)
def VR(a0:aH)(a1:Int):af asU:=
 match bif fo a0 then V O else bif J (a1<a0.ag)then V O else V (J (a0.ah<a1))with|S=>S|V r1=>bif r1 then V G else match bif J (a0.ai=0)then V O else if¬a0.ai=0then V (J ((i64.wrap (a1-a0.ag)).tmod a0.ai=0))else S with|S=>S|V r2=>V (r2)
def aeB:=eL w9 177 G (lc (qg 34) (bk ln)) d177 (λg=>VR g.1 g.2.1)
def IC:EO aeB:=λh=>kL (F:=ay5) (an:=(noTwo (.two (.two (.rb [147] 18) .no) (.two (.rb [147] 4) .no)))) (l:=[(.skip,(.rb [147] 18)),(.skip,(.rb [147] 4))]) func177 (jc aP) (aA amI (aA amI aF)) h
def Aj:EP aeB:=λh=>kP h
def F92:bf:=(aeB (Md de))
abbrev E92:=Bool
def d92:Td 0 E92:= .c [] [4] (.r 0 0 (ec 4 qb en) sn (λz=>z.1.1) (λx=>((x,()),(()))))
def aBu:∀f∈([144,177]:aa Nat),bw (F92) f:=(aA (Aj (fZ bS)) (aA (Aj (fZ bS)) aF))
def m92(a0:aH)(a1:Int):af E92:=
 match match tv a0 with|S=>S|V r1=>bif r1 then match VR a0 a1 with|S=>S|V r2=>V (r2)else V (G)with|S=>S|V r3=>V (r3)
def e92:=eL w9 92 G (lc (qg 34) (bk ln)) d92 (λg=>m92 g.1 g.2.1)
def Ot:EO e92:=λh=>kL (F:=F92) (an:=(noTwo (.two (.rb [144,177] 4) .no))) (l:=[(.skip,(.rb [144,177] 4))]) func92 (IC (kG aP)) (aA aBu aF) h
abbrev awE:=Int
def d176:Td 0 awE:= .c [] [2] (.r 0 0 (ec 2 aM en) sn (λz=>z.1.1) (λx=>((x,()),(()))))
def vZ(a0:aH):af awE:=
 bif fo a0 then V 0 else bif J (a0.ai=0)then V 1 else if¬a0.ai=0then V (i64.wrap (i64.wrap ((i64.wrap (a0.ah-a0.ag)).tdiv a0.ai)+1))else S
def aoQ:=eL w9 176 G (lc (qg 34) ln) d176 (λg=>vZ g.1)
def tM:EO aoQ:=λh=>kL (an:= .no) func176 (jc aP) aF h
def V3:EP aoQ:=λh=>kP h
abbrev av0:=Bool×Bool
def d228:Td 0 av0:= .c [] [2,3] (.r 0 0 (ec 2 qb (ec 3 qb en)) sn (λz=>(z.1.1,z.1.2.1)) (λx=>((x.1,x.2,()),(()))))
def Pp(a0:aH):af av0:=
 match VR a0 (0)with|S=>S|V r1=>match vZ a0 with|S=>S|V r2=>bif J (1<r2)then V ((r1,O))else match vZ a0 with|S=>S|V r3=>bif J (r3=1)then V ((r1,bif J (a0.ag=0)then G else O))else V ((r1,G))
def af5:=eL w9 228 G (lc (qg 34) ln) d228 (λg=>Pp g.1)
def Ib:EO af5:=λh=>kL (an:= .no) func228 (IC (tM aP)) aF h
def Gp:EP af5:=λh=>kP h
abbrev ax3:=Bool×Bool
def d151:Td 0 ax3:= .c [] [2,3] (.r 0 0 (ec 2 qb (ec 3 qb en)) sn (λz=>(z.1.1,z.1.2.1)) (λx=>((x.1,x.2,()),(()))))
def PU(a0:aH):af ax3:=
 match tv a0 with|S=>S|V r1=>bif bif r1 then G else O then V ((G,G))else match Pp a0 with|S=>S|V r2=>V (r2)
def agV:=eL w9 151 G (lc (qg 34) ln) d151 (λg=>PU g.1)
def HP:EO agV:=λh=>kL (an:= .no) func151 (Ib (kG aP)) aF h
def auy:bf:=(Y2 (Md de))
abbrev awP:=aH×Int
def d229:Td 0 awP:= .c [] [4,5] (.r 0 1 (ec 4 (qp 0 0) (ec 5 aM en)) (sb 0 34 (lg 34) sn) (λz=>(z.2.1,z.1.2.1)) (λx=>(((),x.2,()),(x.1,()))))
def avK:∀f∈([144]:aa Nat),bw (auy) f:=(aA (Ga (fZ bS)) aF)
def ajy(a0:aH)(a1:aH):af awP:=
 match match tv a0 with|S=>S|V r1=>bif bif r1 then G else O then V (O)else match tv a1 with|S=>S|V r2=>V (bif r2 then G else O)with|S=>S|V r3=>bif r3 then V ((aH.mk (0) (0) (0),1))else match lR a0 a1 with|S=>S|V r4=>V ((r4,0))
def aBW:=eL w9 229 G (lc (qg 34) (lc (qg 34) ln)) d229 (λg=>ajy g.1 g.2.1)
def abO:EO aBW:=λh=>kL (F:=auy) (an:=(noTwo (.two (.two (.rb [144] 13) .no) .no))) (l:=[(.skip,(.rb [144] 13))]) func229 (rF (kG aP)) (aA avK aF) h
abbrev avz:=aH
def d152:Td 0 avz:= .c [] [4] (.r 0 1 (ec 4 (qp 0 0) en) (sb 0 34 (lg 34) sn) (λz=>z.2.1) (λx=>(((),()),(x,()))))
def uD(a0:aH)(a1:aH):af avz:=
 bif bif J (a0.ag=a1.ag)then bif J (a0.ah=a1.ah)then bif J (a0.ai=a1.ai)then O else G else G else G then V (a0)else match ajy a0 a1 with|S=>S|V r1=>V (r1.fst)
def azR:=eL w9 152 G (lc (qg 34) (lc (qg 34) ln)) d152 (λg=>uD g.1 g.2.1)
def JB:EO azR:=λh=>kL (an:= .no) func152 (abO aP) aF h
def at0:bf:=(LO de)
abbrev auT:=aH
def d153:Td 0 auT:= .c [] [0] (.r 0 1 (ec 0 (qp 0 0) en) (sb 0 34 (lg 34) sn) (λz=>z.2.1) (λx=>(((),()),(x,()))))
def ayC:=ln
def al2:An:= .no
def aeE:auT:=
 iJ
def aDG:bM w9 (at0) 300 (al2) 153 (ayC.c ()) [] 0 d153.rd=V (aeE):=by kernel_rfl
def ax4:=eL w9 153 G ayC d153 (λ_=>V (aeE))
def adJ:EO ax4:=λh=>kL (F:=at0) (an:=al2) func153 (jN aP) aF h (c:=λ_=>aDG)
abbrev ayn:=aH
def d230:Td 0 ayn:= .c [] [4] (.r 0 1 (ec 4 (qp 0 0) en) (sb 0 34 (lg 34) sn) (λz=>z.2.1) (λx=>(((),()),(x,()))))
def oK(a0:Bool)(a1:Bool):af ayn:=
 bif a0 then match lR iJ (gL (0))with|S=>S|V r1=>bif a1 then match lR r1 (gL (1))with|S=>S|V r2=>V (r2)else V (r1)else bif a1 then match lR iJ (gL (1))with|S=>S|V r3=>V (r3)else V (iJ)
def aev:=eL w9 230 G (lc qb (lc qb ln)) d230 (λg=>oK g.1 g.2.1)
def Rt:EO aev:=λh=>kL (an:= .no) func230 (jN (qU (rF aP))) aF h
def Gd:EP aev:=λh=>kP h
def axX:bf:=(aev (af5 (Ev (Md de))))
abbrev avM:=aH×Int
def d154:Td 0 avM:= .c [] [4,5] (.r 0 1 (ec 4 (qp 0 0) (ec 5 aM en)) (sb 0 34 (lg 34) sn) (λz=>(z.2.1,z.1.2.1)) (λx=>(((),x.2,()),(x.1,()))))
def azq:∀f∈([144]:aa Nat),bw (axX) f:=(aA (Gd (Gp (fu (fZ bS)))) aF)
def ae9(a0:Int)(a1:aH):af avM:=
 match match tv a1 with|S=>S|V r1=>bif bif r1 then G else O then V (O)else bif bif J (a0=6)then G else O then V (bif J (a0=7)then G else O)else V (G)with|S=>S|V r2=>bif r2 then V ((aH.mk (0) (0) (0),1))else bif fo a1 then V ((a1,0))else bif J (a0=7)then match Pp a1 with|S=>S|V r3=>match oK r3.snd r3.fst with|S=>S|V r4=>V ((r4,0))else V ((aH.mk (i64.wrap (0-a1.ah)) (i64.wrap (0-a1.ag)) a1.ai,0))
def awU:=eL w9 154 G (bk (lc (qg 34) ln)) d154 (λg=>ae9 g.1 g.2.1)
def aff:EO awU:=λh=>kL (F:=axX) (an:=(noTwo (.two (.two (.rb [144] 18) .no) .no))) (l:=[(.skip,(.rb [144] 18))]) func154 (Rt (Ib (jc (kG aP)))) (aA azq aF) h
def aCH:bf:=de
abbrev aq9:=Bool
def d231:Td 0 aq9:= .c [] [2] (.r 0 0 (ec 2 qb en) sn (λz=>z.1.1) (λx=>((x,()),(()))))
def ayf:=(bk ln)
def akY:An:= .no
def BC(a0:Int):aq9:=
 bif J (a0=8)then O else bif J (a0=9)then O else bif J (a0=10)then O else bif J (a0=11)then O else bif J (a0=12)then O else bif J (a0=13)then O else bif J (a0=14)then O else bif J (a0=15)then O else bif J (a0=16)then O else bif J (a0=17)then O else bif J (a0=18)then O else bif J (a0=19)then O else bif J (a0=20)then O else bif J (a0=21)then O else bif J (a0=22)then O else G
def aAT(a0:Int):bM w9 (aCH) 300 (akY) 231 (ayf.c (a0,())) [] 0 d231.rd=V (BC a0):=by
 refine Eq.trans (b:=(
  bif J (a0=8)then V (O)else bif J (a0=9)then V (O)else bif J (a0=10)then V (O)else bif J (a0=11)then V (O)else bif J (a0=12)then V (O)else bif J (a0=13)then V (O)else bif J (a0=14)then V (O)else bif J (a0=15)then V (O)else bif J (a0=16)then V (O)else bif J (a0=17)then V (O)else bif J (a0=18)then V (O)else bif J (a0=19)then V (O)else bif J (a0=20)then V (O)else bif J (a0=21)then V (O)else bif J (a0=22)then V (O)else V (G):af aq9)) (by kernel_rfl) ?_
 simp only[BC,cM,dg]
def anw:=eL w9 231 G ayf d231 (λg=>V (BC g.1))
def afR:EO anw:=λh=>kL (an:=akY) func231 aP aF h (c:=λg=>aAT g.1)
def rD:EP anw:=λh=>kP h
def ayy:bf:=(Yw de)
abbrev avv:=Int×Bool
def d274:Td 0 avv:= .c [] [4,5] (.r 0 0 (ec 4 aM (ec 5 qb en)) sn (λz=>(z.1.1,z.1.2.1)) (λx=>((x.1,x.2,()),(()))))
def awl:∀f∈([227]:aa Nat),bw (ayy) f:=(aA (G6 bS) aF)
def Oh(a0:Int)(a1:Int):af avv:=
 match bif bif J (a0=0)then G else O then if¬jm a0=0then V (J (i64.wrap ((1099511627776:Int).tdiv (jm a0))<jm a1))else S else V G with|S=>S|V r1=>bif r1 then V (0,G)else V ((i64.wrap (a0*a1),O))
def aDv:=eL w9 274 G (bk (bk ln)) d274 (λg=>Oh g.1 g.2.1)
def agj:EO aDv:=λh=>kL (F:=ayy) (an:=(noTwo (.two (.two (.rb [227] 15) .no) .no))) (l:=[(.skip,(.rb [227] 15))]) func274 (Cq aP) (aA awl aF) h
structure sV where
 t0:List Int
 (t3 t4:Int)
def N2:Td 0 sV:= .c [] [0,3,4] (.r 0 0 (ec 0 (ql 3) (ec 3 aM (ec 4 aM en))) sn (λz=>⟨z.1.1,z.1.2.1,z.1.t.1⟩) (λx=>((x.t0,x.t3,x.t4,()),(()))))
def Fx(p:sV):af (af sV):=
 bif J (p.t4<p.t0.length)then if 0<=p.t4/\p.t4<p.t0.length then V (V (sV.mk p.t0 (if((p.t0,p.t3,p.t4,()),()).fst.fst[((p.t0,p.t3,p.t4,()),()).fst.snd.snd.fst.toNat]! <((p.t0,p.t3,p.t4,()),()).fst.snd.fst then p.t0[p.t4.toNat]! else p.t3) (i64.wrap (p.t4+1))))else S else V (S)
def KA:=bK (Fx)
abbrev atY:=Int
def d275:Td 0 atY:= .c [] [2] (.r 0 0 (ec 2 aM en) sn (λz=>z.1.1) (λx=>((x,()),(()))))
def ad2(a0:aa Int):af atY:=
 bif J ((a0.length:Int)<1)then S else if(0:Int)<=(0:Int)/\(0:Int)<a0.length then match KA (sV.mk a0 a0[0]! (1))with|S=>S|V r1=>bif J (r1.t4<r1.t0.length)then if 0<=r1.t4/\r1.t4<r1.t0.length then S else S else V (r1.t3)else S
def aC7:=eL w9 275 G (lc (ql 3) ln) d275 (λg=>ad2 g.1)
def ahO:EO aC7:=λh=>kL (an:=(noTwo (noTwo (noTwo (.two (noTwo (N2.lp KA .no)) .no))))) (l:=[(bg f275 0,(N2.lp KA .no))]) func275 aP (aA (aO N2) aF) h
structure tD where
 t0:List Int
 (t3 t4:Int)
def OJ:Td 0 tD:= .c [] [0,3,4] (.r 0 0 (ec 0 (ql 3) (ec 3 aM (ec 4 aM en))) sn (λz=>⟨z.1.1,z.1.2.1,z.1.t.1⟩) (λx=>((x.t0,x.t3,x.t4,()),(()))))
def CM(p:tD):af (af tD):=
 bif J (p.t4<p.t0.length)then if 0<=p.t4/\p.t4<p.t0.length then V (V (tD.mk p.t0 (if((p.t0,p.t3,p.t4,()),()).fst.snd.fst<((p.t0,p.t3,p.t4,()),()).fst.fst[((p.t0,p.t3,p.t4,()),()).fst.snd.snd.fst.toNat]! then p.t0[p.t4.toNat]! else p.t3) (i64.wrap (p.t4+1))))else S else V (S)
def Kf:=bK (CM)
abbrev atk:=Int
def d276:Td 0 atk:= .c [] [2] (.r 0 0 (ec 2 aM en) sn (λz=>z.1.1) (λx=>((x,()),(()))))
def aen(a0:aa Int):af atk:=
 bif J ((a0.length:Int)<1)then S else if(0:Int)<=(0:Int)/\(0:Int)<a0.length then match Kf (tD.mk a0 a0[0]! (1))with|S=>S|V r1=>bif J (r1.t4<r1.t0.length)then if 0<=r1.t4/\r1.t4<r1.t0.length then S else S else V (r1.t3)else S
def aCd:=eL w9 276 G (lc (ql 3) ln) d276 (λg=>aen g.1)
def abS:EO aCd:=λh=>kL (an:=(noTwo (noTwo (noTwo (.two (noTwo (OJ.lp Kf .no)) .no))))) (l:=[(bg f276 0,(OJ.lp Kf .no))]) func276 aP (aA (aO OJ) aF) h
abbrev azO:=aH×Int
def d232:Td 0 azO:= .c [] [4,5] (.r 0 1 (ec 4 (qp 0 0) (ec 5 aM en)) (sb 0 34 (lg 34) sn) (λz=>(z.2.1,z.1.2.1)) (λx=>(((),x.2,()),(x.1,()))))
def UK(a0:aH)(a1:aH):af azO:=
 match Oh a0.ag a1.ag with|S=>S|V r1=>bif bif r1.snd then G else O then V ((aH.mk (0) (0) (0),3))else match Oh a0.ag a1.ah with|S=>S|V r2=>bif bif r2.snd then G else O then V ((aH.mk (0) (0) (0),3))else match Oh a0.ah a1.ag with|S=>S|V r3=>bif bif r3.snd then G else O then V ((aH.mk (0) (0) (0),3))else match Oh a0.ah a1.ah with|S=>S|V r4=>bif bif r4.snd then G else O then V ((aH.mk (0) (0) (0),3))else match Bu [i64.wrap (a0.ai*jm a1.ag),i64.wrap (a1.ai*jm a0.ag),i64.wrap (a0.ai*a1.ai)]with|S=>S|V r5=>match ad2 ([r1.fst]++[r2.fst]++[r3.fst]++[r4.fst])with|S=>S|V r6=>match aen ([r1.fst]++[r2.fst]++[r3.fst]++[r4.fst])with|S=>S|V r7=>match lS r6 r7 r5 with|S=>S|V r8=>V ((r8,0))
def amR:=eL w9 232 G (lc (qg 34) (lc (qg 34) ln)) d232 (λg=>UK g.1 g.2.1)
def ac7:EO amR:=λh=>kL (an:= .no) func232 (abS (ahO (agj (Cq (BS (rE aP)))))) aF h
def qJ:EP amR:=λh=>kP h
def awd:bf:=(Yw (Ph (Y2 (adI de))))
abbrev asJ:=aH
def d277:Td 0 asJ:= .c [] [6] (.r 0 1 (ec 6 (qp 0 0) en) (sb 0 34 (lg 34) sn) (λz=>z.2.1) (λx=>(((),()),(x,()))))
def asZ:∀f∈([]:aa Nat),bw (awd) f:=aF
def Wd(a0:Int)(a1:aH)(a2:aH):af asJ:=
 bif J (a0=11)then match bif J (0<=a1.ag)then V (J (0<=a2.ag))else V (G)with|S=>S|V r1=>bif r1 then match lS (0) (if jm a1.ag<jm a1.ah then jm a1.ah else jm a1.ag) (1)with|S=>S|V r2=>V (r2)else match lS (i64.wrap (0-if jm a1.ag<jm a1.ah then jm a1.ah else jm a1.ag)) (if jm a1.ag<jm a1.ah then jm a1.ah else jm a1.ag) (1)with|S=>S|V r3=>V (r3)else bif J (a0=12)then match lS (if 0<i64.wrap (a2.ag+1)then 0 else i64.wrap (a2.ag+1)) (if i64.wrap (a2.ah-1)<0 then 0 else i64.wrap (a2.ah-1)) (1)with|S=>S|V r4=>V (r4)else bif J (a0=21)then match lR a1 a2 with|S=>S|V r5=>match BD r5 (if a2.ah<a1.ah then a2.ah else a1.ah)with|S=>S|V r6=>V (r6.fst)else match lR a1 a2 with|S=>S|V r7=>match BD r7 (i64.wrap ((if a1.ag<a2.ag then a2.ag else a1.ag)-1))with|S=>S|V r8=>V (r8.snd)
def aBG:=eL w9 277 G (bk (lc (qg 34) (lc (qg 34) ln))) d277 (λg=>Wd g.1 g.2.1 g.t.1)
def aio:EO aBG:=λh=>kL (F:=awd) (an:=(noTwo (.two (noTwo (noTwo (.two (noTwo (.two (.two (.rb [] 29) .no) .no)) .no))) .no))) (l:=[(.skip,(.rb [] 29))]) func277 (Cq (rE (rF (Jb aP)))) (aA asZ aF) h
structure mg where
 t3:List Int
 (t6 t7:Int)
 b0:aH
def QH:Td 0 mg:= .c [] [1,3,6,7] (.t (cC.s 3 [] 3) (.c [] [1,3,6,7] (.r 0 2 (ec 1 (qp 0 0) (ec 3 (qo 1) (ec 6 aM (ec 7 aM en)))) (sb 0 34 (lg 34) (sr 1 3 sn)) (λz=>⟨z.t.1,z.1.t.1,z.1.t.2.1,z.2.1⟩) (λx=>(((),(),x.t6,x.t7,()),(x.b0,x.t3,()))))))
def tB(p:mg):af (af mg):=
 bif J (p.t7<p.t6)then if(p.t3++[i64.wrap (p.b0.ag+i64.wrap (p.t7*p.b0.ai))]).length<=1073741824 then V (V (mg.mk (p.t3++[i64.wrap (p.b0.ag+i64.wrap (p.t7*p.b0.ai))]) p.t6 (i64.wrap (p.t7+1)) p.b0))else S else V (S)
def IV:=bK (tB)
abbrev ate:=aa Int
def d278:Td 0 ate:= .c [] [2] (.r 0 1 (ec 2 (qo 0) en) (sr 0 3 sn) (λz=>z.2.1) (λx=>(((),()),(x,()))))
def V0(a0:aH):af ate:=
 match vZ a0 with|S=>S|V r1=>match IV (mg.mk [] r1 (0) a0)with|S=>S|V r2=>bif J (r2.t7<r2.t6)then if(r2.t3++[i64.wrap (r2.b0.ag+i64.wrap (r2.t7*r2.b0.ai))]).length<=1073741824 then S else S else V (r2.t3)
def aA7:=eL w9 278 G (lc (qg 34) ln) d278 (λg=>V0 g.1)
def ag6:EO aA7:=λh=>kL (an:=(noTwo (noTwo (.two (noTwo (QH.lp IV .no)) .no)))) (l:=[(bg f278 0,(QH.lp IV .no))]) func278 (tM aP) (aA (aO QH) aF) h
def awm:bf:=de
abbrev aug:=Int
def d315:Td 0 aug:= .c [] [4] (.r 0 0 (ec 4 aM en) sn (λz=>z.1.1) (λx=>((x,()),(()))))
def azi:∀f∈([]:aa Nat),bw (awm) f:=aF
def ZK(a0:Int)(a1:Int):af aug:=
 bif J (a1=0)then V 0 else if¬a1=0then match if¬a1=0then bif bif J (a0.tmod a1=0)then G else O then V (bif J (a0<0)==J (a1<0)then G else O)else V G else S with|S=>S|V r1=>bif r1 then V (i64.wrap (i64.wrap (a0.tdiv a1)-1))else V (i64.wrap (a0.tdiv a1))else S
def aEm:=eL w9 315 G (bk (bk ln)) d315 (λg=>ZK g.1 g.2.1)
def aiO:EO aEm:=λh=>kL (F:=awm) (an:=(noTwo (noTwo (noTwo (.two (.two (.rb [] 21) .no) .no))))) (l:=[(.skip,(.rb [] 21))]) func315 aP (aA azi aF) h
abbrev ay3:=Int
def d279:Td 0 ay3:= .c [] [6] (.r 0 0 (ec 6 aM en) sn (λz=>z.1.1) (λx=>((x,()),(()))))
def VD(a0:Int)(a1:Int)(a2:Int):af ay3:=
 bif J (a0=11)then match ZK a1 a2 with|S=>S|V r1=>V (r1)else bif J (a0=12)then bif J (a2=0)then V (0)else match ZK a1 a2 with|S=>S|V r2=>V (i64.wrap (a1-i64.wrap (a2*r2)))else bif J (a0=21)then V (if a2<a1 then a2 else a1)else V (if a1<a2 then a2 else a1)
def aC5:=eL w9 279 G (bk (bk (bk ln))) d279 (λg=>VD g.1 g.2.1 g.t.1)
def agZ:EO aC5:=λh=>kL (an:= .no) func279 (aiO aP) aF h
structure nG where
 (t0 t9:Int)
 t34:List Int
 (t35 t36:Int)
 t41:List Int
 (t42 t43:Int)
 (b0 b1 b2:aH)
def Q4:Td 0 nG:= .c [] [0,5,6,7,9,34,35,36,41,42,43] (.r 0 5 (ec 0 aM (ec 5 (qp 0 0) (ec 6 (qp 1 0) (ec 7 (qp 2 0) (ec 9 aM (ec 34 (qo 3) (ec 35 aM (ec 36 aM (ec 41 (qo 4) (ec 42 aM (ec 43 aM en))))))))))) (sb 0 34 (lg 34) (sb 1 34 (lg 34) (sb 2 34 (lg 34) (sr 3 3 (sr 4 3 sn))))) (λz=>⟨z.1.1,z.1.q.1,z.q.1,z.1.q.t.1,z.1.q.t.2.1,z.q.2.1,z.1.q.q.2.1,z.1.q.q.t.1,z.2.1,z.t.1,z.t.2.1⟩) (λx=>((x.t0,(),(),(),x.t9,(),x.t35,x.t36,(),x.t42,x.t43,()),(x.b0,x.b1,x.b2,x.t34,x.t41,()))))
def HI(p:nG):af (af nG):=
 bif J (p.t43<p.t42)then if 0<=p.t43/\p.t43<p.t41.length then if 3=3/\p.t43.toNat<p.t41.length then match VD p.t0 p.t9 p.t41[p.t43.toNat]! with|S=>S|V r5=>match lR p.b2 (gL r5)with|S=>S|V r6=>V (V (nG.mk p.t0 p.t9 p.t34 p.t35 p.t36 p.t41 p.t42 (i64.wrap (p.t43+1)) p.b0 p.b1 r6))else S else S else V (S)
def CN:=bK (HI)
structure pR where
 t0:Int
 t34:List Int
 (t35 t36:Int)
 (b0 b1 b2:aH)
def QV:Td 0 pR:= .c [] [0,5,6,7,34,35,36] (.r 0 4 (ec 0 aM (ec 5 (qp 0 0) (ec 6 (qp 1 0) (ec 7 (qp 2 0) (ec 34 (qo 3) (ec 35 aM (ec 36 aM en))))))) (sb 0 34 (lg 34) (sb 1 34 (lg 34) (sb 2 34 (lg 34) (sr 3 3 sn)))) (λz=>⟨z.1.1,z.q.1,z.1.q.2.1,z.1.q.t.1,z.2.1,z.t.1,z.t.2.1⟩) (λx=>((x.t0,(),(),(),(),x.t35,x.t36,()),(x.b0,x.b1,x.b2,x.t34,()))))
def A4(p:pR):af (af pR):=
 bif J (p.t36<p.t35)then if 0<=p.t36/\p.t36<p.t34.length then if 3=3/\p.t36.toNat<p.t34.length then match V0 p.b0 with|S=>S|V r1=>match CN (nG.mk p.t0 p.t34[p.t36.toNat]! p.t34 p.t35 p.t36 r1 (↑(zS r1):Int) 0 p.b0 p.b1 p.b2)with|S=>S|V r2=>bif J (r2.t43<r2.t42)then if 0<=r2.t43/\r2.t43<r2.t41.length then if 3=3/\r2.t43.toNat<r2.t41.length then match VD r2.t0 r2.t9 r2.t41[r2.t43.toNat]! with|S=>S|V r3=>match lR r2.b2 (gL r3)with|S=>S|V r4=>S else S else S else V (V (pR.mk r2.t0 r2.t34 r2.t35 (i64.wrap (r2.t36+1)) r2.b0 r2.b1 r2.b2))else S else S else V (S)
def YF:An:=(noTwo (noTwo (.two (noTwo (noTwo (Q4.lp CN .no))) .no)))
def JE:=bK (A4)
abbrev au3:=aH
def d233:Td 0 au3:= .c [] [6] (.r 0 1 (ec 6 (qp 0 0) en) (sb 0 34 (lg 34) sn) (λz=>z.2.1) (λx=>(((),()),(x,()))))
def tL(a0:Int)(a1:aH)(a2:aH):af au3:=
 match vZ a1 with|S=>S|V r7=>bif J (4096<r7)then match Wd a0 a1 a2 with|S=>S|V r8=>V (r8)else match vZ a2 with|S=>S|V r9=>bif J (4096<r9)then match Wd a0 a1 a2 with|S=>S|V r10=>V (r10)else match vZ a1 with|S=>S|V r11=>match vZ a2 with|S=>S|V r12=>bif J (4096<i64.wrap (r11*r12))then match Wd a0 a1 a2 with|S=>S|V r13=>V (r13)else match V0 a1 with|S=>S|V r14=>match JE (pR.mk a0 r14 (↑(zS r14):Int) 0 a2 (aH.mk 0 0 0) iJ)with|S=>S|V r15=>bif J (r15.t36<r15.t35)then if 0<=r15.t36/\r15.t36<r15.t34.length then if 3=3/\r15.t36.toNat<r15.t34.length then match V0 r15.b0 with|S=>S|V r16=>match CN (nG.mk r15.t0 r15.t34[r15.t36.toNat]! r15.t34 r15.t35 r15.t36 r16 (↑(zS r16):Int) 0 r15.b0 r15.b1 r15.b2)with|S=>S|V r17=>bif J (r17.t43<r17.t42)then if 0<=r17.t43/\r17.t43<r17.t41.length then if 3=3/\r17.t43.toNat<r17.t41.length then match VD r17.t0 r17.t9 r17.t41[r17.t43.toNat]! with|S=>S|V r18=>match lR r17.b2 (gL r18)with|S=>S|V r19=>S else S else S else S else S else S else V (r15.b2)
def ap3:=eL w9 233 G (bk (lc (qg 34) (lc (qg 34) ln))) d233 (λg=>tL g.1 g.2.1 g.t.1)
def ad4:EO ap3:=λh=>kL (an:=(noTwo (noTwo (noTwo (.two (noTwo (QV.lp JE YF)) .no))))) (l:=[(bg f233 0,(QV.lp JE YF)),(bg f233 1,(Q4.lp CN .no))]) func233 (agZ (ag6 (aio (jN (tM (qU (rF aP))))))) (aA (aO QV) (aA (aO Q4) aF)) h
def rj:EP ap3:=λh=>kP h
structure mC where
 (t1 t5 t6 t7 t8:Int)
def OK:Td 0 mC:= .c [] [1,5,6,7,8] (.r 0 0 (ec 1 aM (ec 5 aM (ec 6 aM (ec 7 aM (ec 8 aM en))))) sn (λz=>⟨z.1.1,z.1.2.1,z.1.t.1,z.1.t.2.1,z.1.q.1⟩) (λx=>((x.t1,x.t5,x.t6,x.t7,x.t8,()),(()))))
def El(p:mC):af (af mC):=
 bif J (1<p.t5)then if¬p.t5=0then V (V (mC.mk p.t1 (i64.wrap (p.t6-i64.wrap (i64.wrap (p.t6.tdiv p.t5)*p.t5))) p.t5 (i64.wrap (p.t8-i64.wrap (i64.wrap (p.t6.tdiv p.t5)*p.t7))) p.t7))else S else V (S)
def Jp:=bK (El)
abbrev ayv:=Int
def d341:Td 0 ayv:= .c [] [4] (.r 0 0 (ec 4 aM en) sn (λz=>z.1.1) (λx=>((x,()),(()))))
def acW(a0:Int)(a1:Int):af ayv:=
 if¬a1=0then match Jp (mC.mk a1 (a0.tmod a1) a1 1 0)with|S=>S|V r1=>bif J (1<r1.t5)then if¬r1.t5=0then S else S else if¬r1.t1=0then if¬r1.t1=0then V ((i64.wrap (r1.t7.tmod r1.t1+r1.t1)).tmod r1.t1)else S else S else S
def aw2:=eL w9 341 G (bk (bk ln)) d341 (λg=>acW g.1 g.2.1)
def aiu:EO aw2:=λh=>kL (an:=(noTwo (noTwo (.two (OK.lp Jp .no) .no)))) (l:=[(bg f341 0,(OK.lp Jp .no))]) func341 aP (aA (aO OK) aF) h
def atw:bf:=(aw2 (avr (Xp (LO (afJ de)))))
abbrev asM:=aH
def d316:Td 0 asM:= .c [] [4] (.r 0 1 (ec 4 (qp 0 0) en) (sb 0 34 (lg 34) sn) (λz=>z.2.1) (λx=>(((),()),(x,()))))
def ayq:∀f∈([]:aa Nat),bw (atw) f:=aF
def ada(a0:aH)(a1:aH):af asM:=
 match Bu [a0.ai,a1.ai]with|S=>S|V r1=>match bif J ((if a1.ah<a0.ah then a1.ah else a0.ah)<if a0.ag<a1.ag then a1.ag else a0.ag)then V O else if¬r1=0then V (bif J ((i64.wrap (a1.ag-a0.ag)).tmod r1=0)then G else O)else S with|S=>S|V r2=>bif r2 then V (iJ)else if¬r1=0then bif J (1<i64.wrap (a1.ai.tdiv r1))then if¬r1=0then if¬i64.wrap (a1.ai.tdiv r1)=0then if¬i64.wrap (a1.ai.tdiv r1)=0then if¬r1=0then if¬i64.wrap (a1.ai.tdiv r1)=0then match acW ((i64.wrap (a0.ai.tdiv r1)).tmod (i64.wrap (a1.ai.tdiv r1))) (i64.wrap (a1.ai.tdiv r1))with|S=>S|V r3=>match adr ((i64.wrap ((i64.wrap ((i64.wrap (a1.ag-a0.ag)).tdiv r1)).tmod (i64.wrap (a1.ai.tdiv r1))+i64.wrap (a1.ai.tdiv r1))).tmod (i64.wrap (a1.ai.tdiv r1))) r3 (i64.wrap (a1.ai.tdiv r1))with|S=>S|V r4=>if¬a0.ai=0then if¬a0.ai=0then bif J (r4<i64.wrap ((i64.wrap (i64.wrap (i64.wrap ((if a0.ag<a1.ag then a1.ag else a0.ag)-a0.ag)+a0.ai)-1)).tdiv a0.ai))then if¬i64.wrap (a1.ai.tdiv r1)=0then bif J (i64.wrap ((i64.wrap ((if a1.ah<a0.ah then a1.ah else a0.ah)-a0.ag)).tdiv a0.ai)<i64.wrap (r4+i64.wrap (i64.wrap ((i64.wrap (i64.wrap (i64.wrap (i64.wrap ((i64.wrap (i64.wrap (i64.wrap ((if a0.ag<a1.ag then a1.ag else a0.ag)-a0.ag)+a0.ai)-1)).tdiv a0.ai)-r4)+i64.wrap (a1.ai.tdiv r1))-1)).tdiv (i64.wrap (a1.ai.tdiv r1)))*i64.wrap (a1.ai.tdiv r1))))then V (iJ)else if¬i64.wrap (a1.ai.tdiv r1)=0then bif J (i64.wrap (r4+i64.wrap (i64.wrap ((i64.wrap (i64.wrap (i64.wrap (i64.wrap ((i64.wrap (i64.wrap (i64.wrap ((if a0.ag<a1.ag then a1.ag else a0.ag)-a0.ag)+a0.ai)-1)).tdiv a0.ai)-r4)+i64.wrap (a1.ai.tdiv r1))-1)).tdiv (i64.wrap (a1.ai.tdiv r1)))*i64.wrap (a1.ai.tdiv r1)))=i64.wrap (i64.wrap (r4+i64.wrap (i64.wrap ((i64.wrap (i64.wrap (i64.wrap (i64.wrap ((i64.wrap (i64.wrap (i64.wrap ((if a0.ag<a1.ag then a1.ag else a0.ag)-a0.ag)+a0.ai)-1)).tdiv a0.ai)-r4)+i64.wrap (a1.ai.tdiv r1))-1)).tdiv (i64.wrap (a1.ai.tdiv r1)))*i64.wrap (a1.ai.tdiv r1)))+i64.wrap (i64.wrap ((i64.wrap (i64.wrap ((i64.wrap ((if a1.ah<a0.ah then a1.ah else a0.ah)-a0.ag)).tdiv a0.ai)-i64.wrap (r4+i64.wrap (i64.wrap ((i64.wrap (i64.wrap (i64.wrap (i64.wrap ((i64.wrap (i64.wrap (i64.wrap ((if a0.ag<a1.ag then a1.ag else a0.ag)-a0.ag)+a0.ai)-1)).tdiv a0.ai)-r4)+i64.wrap (a1.ai.tdiv r1))-1)).tdiv (i64.wrap (a1.ai.tdiv r1)))*i64.wrap (a1.ai.tdiv r1))))).tdiv (i64.wrap (a1.ai.tdiv r1)))*i64.wrap (a1.ai.tdiv r1))))then V (gL (i64.wrap (a0.ag+i64.wrap (i64.wrap (r4+i64.wrap (i64.wrap ((i64.wrap (i64.wrap (i64.wrap (i64.wrap ((i64.wrap (i64.wrap (i64.wrap ((if a0.ag<a1.ag then a1.ag else a0.ag)-a0.ag)+a0.ai)-1)).tdiv a0.ai)-r4)+i64.wrap (a1.ai.tdiv r1))-1)).tdiv (i64.wrap (a1.ai.tdiv r1)))*i64.wrap (a1.ai.tdiv r1)))*a0.ai))))else V (aH.mk (i64.wrap (a0.ag+i64.wrap (i64.wrap (r4+i64.wrap (i64.wrap ((i64.wrap (i64.wrap (i64.wrap (i64.wrap ((i64.wrap (i64.wrap (i64.wrap ((if a0.ag<a1.ag then a1.ag else a0.ag)-a0.ag)+a0.ai)-1)).tdiv a0.ai)-r4)+i64.wrap (a1.ai.tdiv r1))-1)).tdiv (i64.wrap (a1.ai.tdiv r1)))*i64.wrap (a1.ai.tdiv r1)))*a0.ai))) (i64.wrap (a0.ag+i64.wrap (i64.wrap (i64.wrap (r4+i64.wrap (i64.wrap ((i64.wrap (i64.wrap (i64.wrap (i64.wrap ((i64.wrap (i64.wrap (i64.wrap ((if a0.ag<a1.ag then a1.ag else a0.ag)-a0.ag)+a0.ai)-1)).tdiv a0.ai)-r4)+i64.wrap (a1.ai.tdiv r1))-1)).tdiv (i64.wrap (a1.ai.tdiv r1)))*i64.wrap (a1.ai.tdiv r1)))+i64.wrap (i64.wrap ((i64.wrap (i64.wrap ((i64.wrap ((if a1.ah<a0.ah then a1.ah else a0.ah)-a0.ag)).tdiv a0.ai)-i64.wrap (r4+i64.wrap (i64.wrap ((i64.wrap (i64.wrap (i64.wrap (i64.wrap ((i64.wrap (i64.wrap (i64.wrap ((if a0.ag<a1.ag then a1.ag else a0.ag)-a0.ag)+a0.ai)-1)).tdiv a0.ai)-r4)+i64.wrap (a1.ai.tdiv r1))-1)).tdiv (i64.wrap (a1.ai.tdiv r1)))*i64.wrap (a1.ai.tdiv r1))))).tdiv (i64.wrap (a1.ai.tdiv r1)))*i64.wrap (a1.ai.tdiv r1)))*a0.ai))) (i64.wrap (i64.wrap (a1.ai.tdiv r1)*a0.ai)))else S else S else bif J (i64.wrap ((i64.wrap ((if a1.ah<a0.ah then a1.ah else a0.ah)-a0.ag)).tdiv a0.ai)<r4)then V (iJ)else if¬i64.wrap (a1.ai.tdiv r1)=0then bif J (r4=i64.wrap (r4+i64.wrap (i64.wrap ((i64.wrap (i64.wrap ((i64.wrap ((if a1.ah<a0.ah then a1.ah else a0.ah)-a0.ag)).tdiv a0.ai)-r4)).tdiv (i64.wrap (a1.ai.tdiv r1)))*i64.wrap (a1.ai.tdiv r1))))then V (gL (i64.wrap (a0.ag+i64.wrap (r4*a0.ai))))else V (aH.mk (i64.wrap (a0.ag+i64.wrap (r4*a0.ai))) (i64.wrap (a0.ag+i64.wrap (i64.wrap (r4+i64.wrap (i64.wrap ((i64.wrap (i64.wrap ((i64.wrap ((if a1.ah<a0.ah then a1.ah else a0.ah)-a0.ag)).tdiv a0.ai)-r4)).tdiv (i64.wrap (a1.ai.tdiv r1)))*i64.wrap (a1.ai.tdiv r1)))*a0.ai))) (i64.wrap (i64.wrap (a1.ai.tdiv r1)*a0.ai)))else S else S else S else S else S else S else S else S else if¬a0.ai=0then if¬a0.ai=0then bif J (0<i64.wrap ((i64.wrap (i64.wrap (i64.wrap ((if a0.ag<a1.ag then a1.ag else a0.ag)-a0.ag)+a0.ai)-1)).tdiv a0.ai))then if¬i64.wrap (a1.ai.tdiv r1)=0then bif J (i64.wrap ((i64.wrap ((if a1.ah<a0.ah then a1.ah else a0.ah)-a0.ag)).tdiv a0.ai)<i64.wrap (0+i64.wrap (i64.wrap ((i64.wrap (i64.wrap (i64.wrap (i64.wrap ((i64.wrap (i64.wrap (i64.wrap ((if a0.ag<a1.ag then a1.ag else a0.ag)-a0.ag)+a0.ai)-1)).tdiv a0.ai)-0)+i64.wrap (a1.ai.tdiv r1))-1)).tdiv (i64.wrap (a1.ai.tdiv r1)))*i64.wrap (a1.ai.tdiv r1))))then V (iJ)else if¬i64.wrap (a1.ai.tdiv r1)=0then bif J (i64.wrap (0+i64.wrap (i64.wrap ((i64.wrap (i64.wrap (i64.wrap (i64.wrap ((i64.wrap (i64.wrap (i64.wrap ((if a0.ag<a1.ag then a1.ag else a0.ag)-a0.ag)+a0.ai)-1)).tdiv a0.ai)-0)+i64.wrap (a1.ai.tdiv r1))-1)).tdiv (i64.wrap (a1.ai.tdiv r1)))*i64.wrap (a1.ai.tdiv r1)))=i64.wrap (i64.wrap (0+i64.wrap (i64.wrap ((i64.wrap (i64.wrap (i64.wrap (i64.wrap ((i64.wrap (i64.wrap (i64.wrap ((if a0.ag<a1.ag then a1.ag else a0.ag)-a0.ag)+a0.ai)-1)).tdiv a0.ai)-0)+i64.wrap (a1.ai.tdiv r1))-1)).tdiv (i64.wrap (a1.ai.tdiv r1)))*i64.wrap (a1.ai.tdiv r1)))+i64.wrap (i64.wrap ((i64.wrap (i64.wrap ((i64.wrap ((if a1.ah<a0.ah then a1.ah else a0.ah)-a0.ag)).tdiv a0.ai)-i64.wrap (0+i64.wrap (i64.wrap ((i64.wrap (i64.wrap (i64.wrap (i64.wrap ((i64.wrap (i64.wrap (i64.wrap ((if a0.ag<a1.ag then a1.ag else a0.ag)-a0.ag)+a0.ai)-1)).tdiv a0.ai)-0)+i64.wrap (a1.ai.tdiv r1))-1)).tdiv (i64.wrap (a1.ai.tdiv r1)))*i64.wrap (a1.ai.tdiv r1))))).tdiv (i64.wrap (a1.ai.tdiv r1)))*i64.wrap (a1.ai.tdiv r1))))then V (gL (i64.wrap (a0.ag+i64.wrap (i64.wrap (0+i64.wrap (i64.wrap ((i64.wrap (i64.wrap (i64.wrap (i64.wrap ((i64.wrap (i64.wrap (i64.wrap ((if a0.ag<a1.ag then a1.ag else a0.ag)-a0.ag)+a0.ai)-1)).tdiv a0.ai)-0)+i64.wrap (a1.ai.tdiv r1))-1)).tdiv (i64.wrap (a1.ai.tdiv r1)))*i64.wrap (a1.ai.tdiv r1)))*a0.ai))))else V (aH.mk (i64.wrap (a0.ag+i64.wrap (i64.wrap (0+i64.wrap (i64.wrap ((i64.wrap (i64.wrap (i64.wrap (i64.wrap ((i64.wrap (i64.wrap (i64.wrap ((if a0.ag<a1.ag then a1.ag else a0.ag)-a0.ag)+a0.ai)-1)).tdiv a0.ai)-0)+i64.wrap (a1.ai.tdiv r1))-1)).tdiv (i64.wrap (a1.ai.tdiv r1)))*i64.wrap (a1.ai.tdiv r1)))*a0.ai))) (i64.wrap (a0.ag+i64.wrap (i64.wrap (i64.wrap (0+i64.wrap (i64.wrap ((i64.wrap (i64.wrap (i64.wrap (i64.wrap ((i64.wrap (i64.wrap (i64.wrap ((if a0.ag<a1.ag then a1.ag else a0.ag)-a0.ag)+a0.ai)-1)).tdiv a0.ai)-0)+i64.wrap (a1.ai.tdiv r1))-1)).tdiv (i64.wrap (a1.ai.tdiv r1)))*i64.wrap (a1.ai.tdiv r1)))+i64.wrap (i64.wrap ((i64.wrap (i64.wrap ((i64.wrap ((if a1.ah<a0.ah then a1.ah else a0.ah)-a0.ag)).tdiv a0.ai)-i64.wrap (0+i64.wrap (i64.wrap ((i64.wrap (i64.wrap (i64.wrap (i64.wrap ((i64.wrap (i64.wrap (i64.wrap ((if a0.ag<a1.ag then a1.ag else a0.ag)-a0.ag)+a0.ai)-1)).tdiv a0.ai)-0)+i64.wrap (a1.ai.tdiv r1))-1)).tdiv (i64.wrap (a1.ai.tdiv r1)))*i64.wrap (a1.ai.tdiv r1))))).tdiv (i64.wrap (a1.ai.tdiv r1)))*i64.wrap (a1.ai.tdiv r1)))*a0.ai))) (i64.wrap (i64.wrap (a1.ai.tdiv r1)*a0.ai)))else S else S else bif J (i64.wrap ((i64.wrap ((if a1.ah<a0.ah then a1.ah else a0.ah)-a0.ag)).tdiv a0.ai)<0)then V (iJ)else if¬i64.wrap (a1.ai.tdiv r1)=0then bif J (0=i64.wrap (0+i64.wrap (i64.wrap ((i64.wrap (i64.wrap ((i64.wrap ((if a1.ah<a0.ah then a1.ah else a0.ah)-a0.ag)).tdiv a0.ai)-0)).tdiv (i64.wrap (a1.ai.tdiv r1)))*i64.wrap (a1.ai.tdiv r1))))then V (gL (i64.wrap (a0.ag+i64.wrap (0*a0.ai))))else V (aH.mk (i64.wrap (a0.ag+i64.wrap (0*a0.ai))) (i64.wrap (a0.ag+i64.wrap (i64.wrap (0+i64.wrap (i64.wrap ((i64.wrap (i64.wrap ((i64.wrap ((if a1.ah<a0.ah then a1.ah else a0.ah)-a0.ag)).tdiv a0.ai)-0)).tdiv (i64.wrap (a1.ai.tdiv r1)))*i64.wrap (a1.ai.tdiv r1)))*a0.ai))) (i64.wrap (i64.wrap (a1.ai.tdiv r1)*a0.ai)))else S else S else S else S
def apj:=eL w9 316 G (lc (qg 34) (lc (qg 34) ln)) d316 (λg=>ada g.1 g.2.1)
def ahB:EO apj:=λh=>kL (F:=atw) (an:=(noTwo (noTwo (noTwo (.two (.two (.rb [] 41) .no) .no))))) (l:=[(.skip,(.rb [] 41))]) func316 (aiu (aeW (BS (jN (qU aP))))) (aA ayq aF) h
def Uz:EP apj:=λh=>kP h
abbrev uZ:=aH
def d280:Td 0 uZ:= .c [] [4] (.r 0 1 (ec 4 (qp 0 0) en) (sb 0 34 (lg 34) sn) (λz=>z.2.1) (λx=>(((),()),(x,()))))
def aqK:=(lc (qg 34) (lc (qg 34) ln))
def ac1(M:aH->aH->af uZ):bf->bf:=eL w9 280 G aqK d280 (λg=>M g.1 g.2.1)
def Gb{M:aH->aH->af uZ}{F:bf}{f:Nat}(h:bw F f):bw (ac1 M F) f:=eS h (λ_=>by kernel_rfl)
def ajB(M:aH->aH->af uZ):Prop:=HL w9 280 aqK d280 (λg=>M g.1 g.2.1)
def Ur{M:aH->aH->af uZ}(hM:ajB M){F:bf}(h:aQ w9 F):aQ w9 (ac1 M F):=cT (sc:=jM) cv hM ⟨_,func280,by kernel_rfl,by kernel_rfl⟩ (λ_=>by kernel_rfl) (λ_=>by kernel_rfl) h
def afV(M280:aH->aH->af uZ):bf:=(apj (ac1 M280 (LO (aeB (Ev de)))))
def aeO{M280}(h280:ajB M280):aQ w9 (afV M280):=(ahB (Ur h280 (jN (IC (jc aP)))))
def aly(M280:aH->aH->af uZ):An:=(noTwo (.two (.two (.rb [147] 5) .no) .no))
def ayr{M280}:∀f∈([147]:aa Nat),bw (afV M280) f:=(aA (Uz (Gb (kQ (Aj (fu bS))))) aF)
def axf(M280:aH->aH->af uZ):cU w9 (afV M280) 0 300 280 (aly M280):=bB (l:=[(.skip,(.rb [147] 5))]) func280 (aV (by kernel_rfl)) (by kernel_rfl) (aA ayr aF)
def uL(M280:aH->aH->af uZ)(a0:aH)(a1:aH):af uZ:=
 match bif fo a0 then V (O)else V (fo a1)with|S=>S|V r1=>bif r1 then V (iJ)else bif J (a0.ai=0)then match VR a1 a0.ag with|S=>S|V r2=>bif r2 then V (a0)else V (iJ)else bif J (a1.ai=0)then match M280 a1 a0 with|S=>S|V r3=>V (r3)else match ada a0 a1 with|S=>S|V r4=>V (r4)
def aAZ(M280:aH->aH->af uZ)(a0:aH)(a1:aH):bM w9 (afV M280) 300 (aly M280) 280 (aqK.c (a0,a1,())) [] 0 d280.rd=uL M280 a0 a1:=by kernel_rfl
def Bj:Nat->(aH->aH->af uZ)
 |0=>(λ_ _=>S)
 |n+1=>(uL (Bj n))
def aaN(n:Nat):aH->aH->af uZ:=(Bj n)
def KN:∀n,ajB (aaN n)
 |0=>λ_ _ h=>(by cases h)
 |n+1=>by
  have ih:=KN n;have i280:=ih;exact(cH (aeO i280) (axf (aaN n)) (λ_=>by kernel_rfl) (λ_=>by kernel_rfl) λg=>aAZ (aaN n) g.1 g.2.1)
def agc:aH->aH->af uZ:=λa0 a1=>lim (λn=>aaN n a0 a1)
def ab2:ajB agc:=λg b h=>by
 obtain⟨n,hn⟩:=dN (show lim (λn=>aaN n g.1 g.2.1)=V b from h);exact(KN n) g b hn
def arZ(F:bf):bf:=ac1 agc F
def ai7{F:bf}(h:aQ w9 F):aQ w9 (arZ F):=Ur ab2 h
def Wk{F:bf}{f:Nat}(h:bw F f):bw (arZ F) f:=Gb h
def asT:bf:=(arZ (aev (af5 (aoQ (Ev de)))))
abbrev as2:=aH
def d234:Td 0 as2:= .c [] [6] (.r 0 1 (ec 6 (qp 0 0) en) (sb 0 34 (lg 34) sn) (λz=>z.2.1) (λx=>(((),()),(x,()))))
def as9:∀f∈([176]:aa Nat),bw (asT) f:=(aA (Wk (Gd (Gp (V3 (fu bS))))) aF)
def XY(a0:Int)(a1:aH)(a2:aH):af as2:=
 match agc a1 a2 with|S=>S|V r1=>match match vZ a1 with|S=>S|V r2=>bif J (1<r2)then V (O)else match vZ a2 with|S=>S|V r3=>bif J (1<r3)then V (O)else V (bif J (a1.ag=a2.ag)then G else O)with|S=>S|V r4=>match Pp a1 with|S=>S|V r5=>match Pp a2 with|S=>S|V r6=>bif J (a0=13)then match oK r4 (match fo r1 with|O=>G|G=>O)with|S=>S|V r7=>V (r7)else bif J (a0=14)then match oK (match fo r1 with|O=>G|G=>O) r4 with|S=>S|V r8=>V (r8)else bif J (a0=15)then match oK (J (a2.ag<=a1.ah)) (J (a1.ag<a2.ah))with|S=>S|V r9=>V (r9)else bif J (a0=16)then match oK (J (a2.ag<a1.ah)) (J (a1.ag<=a2.ah))with|S=>S|V r10=>V (r10)else bif J (a0=17)then match oK (J (a1.ag<=a2.ah)) (J (a2.ag<a1.ah))with|S=>S|V r11=>V (r11)else bif J (a0=18)then match oK (J (a1.ag<a2.ah)) (J (a2.ag<=a1.ah))with|S=>S|V r12=>V (r12)else bif J (a0=19)then bif r5.fst then bif r5.snd then match oK O r6.snd with|S=>S|V r13=>V (r13)else match oK O G with|S=>S|V r14=>V (r14)else bif r5.snd then match oK r6.fst r6.snd with|S=>S|V r15=>V (r15)else match oK r6.fst G with|S=>S|V r16=>V (r16)else bif r5.fst then bif r5.snd then match oK r6.fst O with|S=>S|V r17=>V (r17)else match oK r6.fst r6.snd with|S=>S|V r18=>V (r18)else bif r5.snd then match oK G O with|S=>S|V r19=>V (r19)else match oK G r6.snd with|S=>S|V r20=>V (r20)
def aor:=eL w9 234 G (bk (lc (qg 34) (lc (qg 34) ln))) d234 (λg=>XY g.1 g.2.1 g.t.1)
def abZ:EO aor:=λh=>kL (F:=asT) (an:=(noTwo (noTwo (.two (.rb [176] 8) .no)))) (l:=[(.skip,(.rb [176] 8))]) func234 (ai7 (Rt (Ib (tM (jc aP))))) (aA as9 aF) h
def rf:EP aor:=λh=>kP h
def azF:bf:=(aor (ap3 (amR (anw (Xp (Ph (LO (Ev (UB (Md de))))))))))
abbrev atM:=aH×Int
def d155:Td 0 atM:= .c [] [6,7] (.r 0 1 (ec 6 (qp 0 0) (ec 7 aM en)) (sb 0 34 (lg 34) sn) (λz=>(z.2.1,z.1.2.1)) (λx=>(((),x.2,()),(x.1,()))))
def X4:∀f∈([144,145,147,231]:aa Nat),bw (azF) f:=(aA (rf (rj (qJ (rD (mW (jE (kQ (fu (jF (fZ bS)))))))))) (aA (rf (rj (qJ (rD (mW (jE (kQ (fu (jF (fZ bS)))))))))) (aA (rf (rj (qJ (rD (mW (jE (kQ (fu (jF (fZ bS)))))))))) (aA (rf (rj (qJ (rD (mW (jE (kQ (fu (jF (fZ bS)))))))))) aF))))
def tN(a0:Int)(a1:aH)(a2:aH):af atM:=
 match match tv a1 with|S=>S|V r1=>bif bif r1 then G else O then V (O)else match tv a2 with|S=>S|V r2=>bif bif r2 then G else O then V (O)else V (bif BC a0 then G else O)with|S=>S|V r3=>bif r3 then V ((aH.mk (0) (0) (0),1))else match bif fo a1 then V (O)else V (fo a2)with|S=>S|V r4=>bif r4 then V ((iJ,0))else bif J (a0=9)then match bif bif iS (i64.wrap (a1.ag+i64.wrap (0-a2.ah)))then G else O then V (O)else V (bif iS (i64.wrap (a1.ah+i64.wrap (0-a2.ag)))then G else O)with|S=>S|V r5=>bif r5 then V ((aH.mk (0) (0) (0),3))else match Bu [a1.ai,a2.ai]with|S=>S|V r6=>match lS (i64.wrap (a1.ag+i64.wrap (0-a2.ah))) (i64.wrap (a1.ah+i64.wrap (0-a2.ag))) r6 with|S=>S|V r7=>V ((r7,0))else bif J (a0=8)then match bif bif iS (i64.wrap (a1.ag+a2.ag))then G else O then V (O)else V (bif iS (i64.wrap (a1.ah+a2.ah))then G else O)with|S=>S|V r8=>bif r8 then V ((aH.mk (0) (0) (0),3))else match Bu [a1.ai,a2.ai]with|S=>S|V r9=>match lS (i64.wrap (a1.ag+a2.ag)) (i64.wrap (a1.ah+a2.ah)) r9 with|S=>S|V r10=>V ((r10,0))else bif J (a0=10)then match UK a1 a2 with|S=>S|V r11=>V (r11)else bif J (a0=11)then match tL a0 a1 a2 with|S=>S|V r12=>V ((r12,0))else bif J (a0=12)then match tL a0 a1 a2 with|S=>S|V r13=>V ((r13,0))else bif J (a0=21)then match tL a0 a1 a2 with|S=>S|V r14=>V ((r14,0))else bif J (a0=22)then match tL a0 a1 a2 with|S=>S|V r15=>V ((r15,0))else match XY a0 a1 a2 with|S=>S|V r16=>V ((r16,0))
def anD:=eL w9 155 G (bk (lc (qg 34) (lc (qg 34) ln))) d155 (λg=>tN g.1 g.2.1 g.t.1)
def Ij:EO anD:=λh=>kL (F:=azF) (an:=(noTwo (.two (.two (.rb [144,145,147,231] 22) .no) (.two (.two (.rb [144,145,147,231] 29) .no) (.two (noTwo (.two (.two (noTwo (.two (noTwo (.two (.two (.rb [144,145,147,231] 69) .no) .no)) .no)) .no) .no)) .no))))) (l:=[(.skip,(.rb [144,145,147,231] 22)),(.skip,(.rb [144,145,147,231] 29)),(.skip,(.rb [144,145,147,231] 69))]) func155 (abZ (ad4 (ac7 (afR (BS (rE (jN (jc (uG (kG aP)))))))))) (aA X4 (aA X4 (aA X4 aF))) h
abbrev pJ:=aH×ax
def d150:Td 2 pJ:= .c [] [4] (.r 2 3 (ec 4 (qp 2 0) en) (sb 0 128 (lg 128) (sb 1 215 (lc (qf 150 (lc (qp 0 0) (lc (qp 1 0) ln))) ln) (sb 2 34 (lg 34) sn))) (λz=>(z.t.2.1,z.2.1)) (λx=>(((),()),(x.2,(((),(),()),()),x.1,()))))
def arb:=(lc (qg 137) (lc (qp 0 0) (lc (qp 1 0) ln)))
def aqD:=(sb 0 128 (lg 128) (sb 1 215 (lc (qf 150 (lc (qp 0 0) (lc (qp 1 0) ln))) ln) sn))
def x150(M:au->ax->af pJ):bf->bf:=eY w9 150 2 arb aqD d150 (λg=>M g.1.1 g.2.1)
def ahF(M:au->ax->af pJ):Prop:=HY w9 150 2 arb aqD d150 (λg=>M g.1.1 g.2.1)
def RA{M:au->ax->af pJ}(hM:ahF M){F:bf}(h:aQ w9 F):aQ w9 (x150 M F):=oz hM ⟨_,func150,by kernel_rfl,by kernel_rfl⟩ (λ_=>by kernel_rfl) h
def ard(M150:au->ax->af pJ):bf:=(anD (awU (ax4 (azR (agV (x150 M150 (e92 (e81 (e80 de)))))))))
def aiV{M150}(h150:ahF M150):aQ w9 (ard M150):=(Ij (aff (adJ (JB (HP (RA h150 (Ot (QF (Iz aP)))))))))
structure Ae where
 t90:List au
 (t91 t92:Int)
 b0:ax
 (b2 b3 b4:aH)
def Rg:Td 2 Ae:= .c [] [2,4,7,9,90,91,92] (.r 2 5 (ec 2 (qp 1 0) (ec 4 (qp 2 0) (ec 7 (qp 3 0) (ec 9 (qp 4 0) (ec 90 (ql 137) (ec 91 aM (ec 92 aM en))))))) (sb 0 128 (lg 128) (sb 1 215 (lc (qf 150 (lc (qp 0 0) (lc (qp 1 0) ln))) ln) (sb 2 34 (lg 34) (sb 3 34 (lg 34) (sb 4 34 (lg 34) sn))))) (λz=>⟨z.1.q.1,z.1.q.2.1,z.1.q.t.1,z.2.1,z.t.2.1,z.q.1,z.q.2.1⟩) (λx=>(((),(),(),(),x.t90,x.t91,x.t92,()),(x.b0,(((),(),()),()),x.b2,x.b3,x.b4,()))))
def Jg(M150:au->ax->af pJ)(p:Ae):af (af Ae):=
 bif J (p.t92<p.t91)then if 0<=p.t92/\p.t92<p.t90.length then match m92 p.b3 p.t92 with|S=>S|V r1=>bif r1 then match M150 (au.mk p.t90[p.t92.toNat]!.bC p.t90[p.t92.toNat]!.fN p.t90[p.t92.toNat]!.aq) p.b0 with|S=>S|V r2=>match uD p.b4 r2.fst with|S=>S|V r3=>V (V (Ae.mk p.t90 p.t91 (i64.wrap (p.t92+1)) r2.snd p.b2 p.b3 r3))else V (V (Ae.mk p.t90 p.t91 (i64.wrap (p.t92+1)) p.b0 p.b2 p.b3 p.b4))else S else V (S)
def H9(M150:au->ax->af pJ):=bK (Jg M150)
def amJ(M150:au->ax->af pJ):An:=(noTwo (.two (noTwo (noTwo (noTwo (noTwo (noTwo (noTwo (noTwo (noTwo (.two (noTwo (noTwo (.two (noTwo (Rg.lp (H9 M150) .no)) .no))) .no))))))))) .no))
def azv(M150:au->ax->af pJ):cU w9 (ard M150) 2 300 150 (amJ M150):=bB (l:=[(bg f150 0,(Rg.lp (H9 M150) .no))]) func150 (aV (by kernel_rfl)) (by kernel_rfl) (aA (aO Rg) aF)
def afs(M150:au->ax->af pJ)(a0:au)(b0:ax):af pJ:=
 bif J (a0.bC=0)then V (TZ a0.fN,b0)else bif J (a0.bC=24)then if 0<=a0.fN/\a0.fN<b0.aj.length then V (b0.aj[a0.fN.toNat]!,b0)else S else bif J (a0.bC=23)then if(0:Int)<=(0:Int)/\(0:Int)<a0.aq.length then match M150 (au.mk a0.aq[0]!.bC a0.aq[0]!.fN a0.aq[0]!.aq) b0 with|S=>S|V r4=>match PU r4.fst with|S=>S|V r5=>bif bif r5.fst then G else O then if(0:Int)<=(1:Int)/\(1:Int)<a0.aq.length then match M150 (au.mk a0.aq[1]!.bC a0.aq[1]!.fN a0.aq[1]!.aq) r4.snd with|S=>S|V r6=>V (r6)else S else bif bif r5.snd then G else O then if(0:Int)<=(2:Int)/\(2:Int)<a0.aq.length then match M150 (au.mk a0.aq[2]!.bC a0.aq[2]!.fN a0.aq[2]!.aq) r4.snd with|S=>S|V r7=>V (r7)else S else if(0:Int)<=(1:Int)/\(1:Int)<a0.aq.length then match M150 (au.mk a0.aq[1]!.bC a0.aq[1]!.fN a0.aq[1]!.aq) r4.snd with|S=>S|V r8=>if(0:Int)<=(2:Int)/\(2:Int)<a0.aq.length then match M150 (au.mk a0.aq[2]!.bC a0.aq[2]!.fN a0.aq[2]!.aq) r8.snd with|S=>S|V r9=>match uD r8.fst r9.fst with|S=>S|V r10=>V (r10,r9.snd)else S else S else S else bif J (a0.bC=25)then if(0:Int)<=(0:Int)/\(0:Int)<a0.aq.length then match M150 (au.mk a0.aq[0]!.bC a0.aq[0]!.fN a0.aq[0]!.aq) b0 with|S=>S|V r11=>match m81 r11.fst 0 (i64.wrap ((a0.aq.length:Int)-2))with|S=>S|V r12=>if(0:Int)<=(1:Int)/\(1:Int)<=a0.aq.length then match H9 M150 (Ae.mk (yd 1 a0.aq) (↑(yd 1 a0.aq).length:Int) 0 r11.snd (aH.mk 0 0 0) r12.fst aeE)with|S=>S|V r13=>bif J (r13.t92<r13.t91)then if 0<=r13.t92/\r13.t92<r13.t90.length then match m92 r13.b3 r13.t92 with|S=>S|V r14=>bif r14 then match M150 (au.mk r13.t90[r13.t92.toNat]!.bC r13.t90[r13.t92.toNat]!.fN r13.t90[r13.t92.toNat]!.aq) r13.b0 with|S=>S|V r15=>match uD r13.b4 r15.fst with|S=>S|V r16=>S else S else S else V (r13.b4,r13.b0)else S else S else bif J ((a0.aq.length:Int)=1)then if(0:Int)<=(0:Int)/\(0:Int)<a0.aq.length then match M150 (au.mk a0.aq[0]!.bC a0.aq[0]!.fN a0.aq[0]!.aq) b0 with|S=>S|V r17=>match ae9 a0.bC r17.fst with|S=>S|V r18=>V (r18.fst,r17.snd)else S else if(0:Int)<=(0:Int)/\(0:Int)<a0.aq.length then match M150 (au.mk a0.aq[0]!.bC a0.aq[0]!.fN a0.aq[0]!.aq) b0 with|S=>S|V r19=>if(0:Int)<=(1:Int)/\(1:Int)<a0.aq.length then match M150 (au.mk a0.aq[1]!.bC a0.aq[1]!.fN a0.aq[1]!.aq) r19.snd with|S=>S|V r20=>match tN a0.bC r19.fst r20.fst with|S=>S|V r21=>V (r21.fst,r20.snd)else S else S
def aEk(M150:au->ax->af pJ)(a0:au)(b0:ax):bM w9 (ard M150) 300 (amJ M150) 150 (arb.c (a0,(),(),())) (aqD.d (b0,(((),(),()),()),())) 2 d150.rd=afs M150 a0 b0:=by kernel_rfl
def akC:Nat->(au->ax->af pJ)
 |0=>(λ_ _=>S)
 |n+1=>(afs (akC n))
def Pf(n:Nat):au->ax->af pJ:=(akC n)
def MN:∀n,ahF (Pf n)
 |0=>λ_ _ h=>(by cases h)
 |n+1=>by
  have ih:=MN n;have i150:=ih;exact(tO (aiV i150) (azv (Pf n)) (λ_=>by kernel_rfl) (λ_=>by kernel_rfl) (λ_=>by kernel_rfl) λg=>aEk (Pf n) g.1.1 g.2.1)
def adl:au->ax->af pJ:=λa0 b0=>lim (λn=>Pf n a0 b0)
def aew:ahF adl:=λg b h=>by
 obtain⟨n,hn⟩:=dN (show lim (λn=>Pf n g.1.1 g.2.1)=V b from h);exact(MN n) g b hn
def aBl(F:bf):bf:=x150 adl F
def afe{F:bf}(h:aQ w9 F):aQ w9 (aBl F):=RA aew h
abbrev E91:=Int
def d91:Td 0 E91:= .c [] [2] (.r 0 0 (ec 2 aM en) sn (λz=>z.1.1) (λx=>((x,()),(()))))
def Kh(a0:aH):af E91:=
 match tv a0 with|S=>S|V r1=>bif bif r1 then G else O then V (0)else match vZ a0 with|S=>S|V r2=>V (r2)
def e91:=eL w9 91 G (lc (qg 34) ln) d91 (λg=>Kh g.1)
def Oc:EO e91:=λh=>kL (an:= .no) func91 (tM (kG aP)) aF h
def Ej:EP e91:=λh=>kP h
def aDY:bf:=de
abbrev aqL:=Int
def d174:Td 0 aqL:= .c [] [4] (.r 0 0 (ec 4 aM en) sn (λz=>z.1.1) (λx=>((x,()),(()))))
def as7:=(bk (bk ln))
def al3:An:= .no
def kH(a0:Int)(a1:Int):aqL:=
 bif J (a1<a0)then a0 else a1
def aDN(a0:Int)(a1:Int):bM w9 (aDY) 300 (al3) 174 (as7.c (a0,a1,())) [] 0 d174.rd=V (kH a0 a1):=by
 refine Eq.trans (b:=(
  bif J (a1<a0)then V (a0)else V (a1):af aqL)) (by kernel_rfl) ?_
 simp only[kH,cM,dg]
def Wn:=eL w9 174 G as7 d174 (λg=>V (kH g.1 g.2.1))
def Jw:EO Wn:=λh=>kL (an:=al3) func174 aP aF h (c:=λg=>aDN g.1 g.2.1)
def aCP:bf:=de
abbrev aoW:=Int
def d175:Td 0 aoW:= .c [] [4] (.r 0 0 (ec 4 aM en) sn (λz=>z.1.1) (λx=>((x,()),(()))))
def ava:=(bk (bk ln))
def akt:An:= .no
def jI(a0:Int)(a1:Int):aoW:=
 bif J (a0<a1)then a0 else a1
def aC8(a0:Int)(a1:Int):bM w9 (aCP) 300 (akt) 175 (ava.c (a0,a1,())) [] 0 d175.rd=V (jI a0 a1):=by
 refine Eq.trans (b:=(
  bif J (a0<a1)then V (a0)else V (a1):af aoW)) (by kernel_rfl) ?_
 simp only[jI,cM,dg]
def afI:=eL w9 175 G ava d175 (λg=>V (jI g.1 g.2.1))
def Ka:EO afI:=λh=>kL (an:=akt) func175 aP aF h (c:=λg=>aC8 g.1 g.2.1)
abbrev NJ:=Int×Int×Int
def d90:Td 0 NJ:= .c [] [2,3,4] (.r 0 0 (ec 2 aM (ec 3 aM (ec 4 aM en))) sn (λz=>(z.1.1,z.1.2.1,z.1.t.1)) (λx=>((x.1,x.2.1,x.t,()),(()))))
def A90:=(lc (ql 166) ln)
def x90(M:(aa ay)->af NJ):bf->bf:=eL w9 90 G A90 d90 (λg=>M g.1)
def abc{M:(aa ay)->af NJ}{F:bf}{f:Nat}(h:bw F f):bw (x90 M F) f:=eS h (λ_=>by kernel_rfl)
def H90(M:(aa ay)->af NJ):Prop:=HL w9 90 A90 d90 (λg=>M g.1)
def Zd{M:(aa ay)->af NJ}(hM:H90 M){F:bf}(h:aQ w9 F):aQ w9 (x90 M F):=cT (sc:=jM) cv hM ⟨_,func90,by kernel_rfl,by kernel_rfl⟩ (λ_=>by kernel_rfl) (λ_=>by kernel_rfl) h
def F90(M90:(aa ay)->af NJ):bf:=(afI (Wn (x90 M90 de)))
def arV{M90}(h90:H90 M90):aQ w9 (F90 M90):=(Ka (Jw (Zd h90 aP)))
structure Bp where
 t0:List ay
 (t5 t6 t7 t8:Int)
def aaG:Td 0 Bp:= .c [] [0,5,6,7,8] (.r 0 0 (ec 0 (ql 166) (ec 5 aM (ec 6 aM (ec 7 aM (ec 8 aM en))))) sn (λz=>⟨z.1.1,z.1.2.1,z.1.t.1,z.1.t.2.1,z.1.q.1⟩) (λx=>((x.t0,x.t5,x.t6,x.t7,x.t8,()),(()))))
def Rz(M90:(aa ay)->af NJ)(p:Bp):af (af Bp):=
 bif J (p.t8<p.t0.length)then if 0<=p.t8/\p.t8<p.t0.length then match M90 p.t0[p.t8.toNat]!.aL with|S=>S|V r1=>match M90 p.t0[p.t8.toNat]!.aR with|S=>S|V r2=>bif J (p.t0[p.t8.toNat]!.b9=4)then bif J (p.t0[p.t8.toNat]!.b9=1)then V (V (Bp.mk p.t0 (jI (i64.wrap (p.t5+i64.wrap (1+i64.wrap (p.t0[p.t8.toNat]!.fN*i64.wrap (1+r1.fst))))) 4097) (jI (i64.wrap (p.t6+1)) 9) (jI (i64.wrap (p.t7+i64.wrap (p.t0[p.t8.toNat]!.fN*i64.wrap (p.t0[p.t8.toNat]!.bq+r1.snd.snd)))) 67108865) (i64.wrap (p.t8+1))))else V (V (Bp.mk p.t0 (jI (i64.wrap (p.t5+i64.wrap (1+i64.wrap (p.t0[p.t8.toNat]!.fN*i64.wrap (1+r1.fst))))) 4097) (jI (i64.wrap (p.t6+i64.wrap (p.t0[p.t8.toNat]!.fN*r1.snd.fst))) 9) (jI (i64.wrap (p.t7+i64.wrap (p.t0[p.t8.toNat]!.fN*i64.wrap (p.t0[p.t8.toNat]!.bq+r1.snd.snd)))) 67108865) (i64.wrap (p.t8+1))))else bif J (p.t0[p.t8.toNat]!.b9=1)then V (V (Bp.mk p.t0 (jI (i64.wrap (p.t5+i64.wrap (1+kH r1.fst r2.fst))) 4097) (jI (i64.wrap (p.t6+1)) 9) (jI (i64.wrap (p.t7+i64.wrap (p.t0[p.t8.toNat]!.bq+kH r1.snd.snd r2.snd.snd))) 67108865) (i64.wrap (p.t8+1))))else V (V (Bp.mk p.t0 (jI (i64.wrap (p.t5+i64.wrap (1+kH r1.fst r2.fst))) 4097) (jI (i64.wrap (p.t6+kH r1.snd.fst r2.snd.fst)) 9) (jI (i64.wrap (p.t7+i64.wrap (p.t0[p.t8.toNat]!.bq+kH r1.snd.snd r2.snd.snd))) 67108865) (i64.wrap (p.t8+1))))else S else V (S)
def TO(M90:(aa ay)->af NJ):=bK (Rz M90)
def azV(M90:(aa ay)->af NJ):An:=(noTwo (noTwo (.two (noTwo (aaG.lp (TO M90) .no)) .no)))
def aEb(M90:(aa ay)->af NJ):cU w9 (F90 M90) 0 300 90 (azV M90):=bB (l:=[(bg f90 0,(aaG.lp (TO M90) .no))]) func90 (aV (by kernel_rfl)) (by kernel_rfl) (aA (aO aaG) aF)
def s90(M90:(aa ay)->af NJ)(a0:aa ay):af NJ:=
 match TO M90 (Bp.mk a0 0 0 0 0)with|S=>S|V r3=>bif J (r3.t8<r3.t0.length)then if 0<=r3.t8/\r3.t8<r3.t0.length then match M90 r3.t0[r3.t8.toNat]!.aL with|S=>S|V r4=>match M90 r3.t0[r3.t8.toNat]!.aR with|S=>S|V r5=>bif J (r3.t0[r3.t8.toNat]!.b9=4)then bif J (r3.t0[r3.t8.toNat]!.b9=1)then S else S else bif J (r3.t0[r3.t8.toNat]!.b9=1)then S else S else S else V (r3.t5,r3.t6,r3.t7)
def c90(M90:(aa ay)->af NJ)(a0:aa ay):bM w9 (F90 M90) 300 (azV M90) 90 (A90.c (a0,())) [] 0 d90.rd=s90 M90 a0:=by kernel_rfl
def ay1:Nat->((aa ay)->af NJ)
 |0=>(λ_=>S)
 |n+1=>(s90 (ay1 n))
def m90(n:Nat):(aa ay)->af NJ:=(ay1 n)
def Uw:∀n,H90 (m90 n)
 |0=>λ_ _ h=>(by cases h)
 |n+1=>by
  have ih:=Uw n;have i90:=ih;exact(cH (arV i90) (aEb (m90 n)) (λ_=>by kernel_rfl) (λ_=>by kernel_rfl) λg=>c90 (m90 n) g.1)
def r90:(aa ay)->af NJ:=λa0=>lim (λn=>m90 n a0)
def arf:H90 r90:=λg b h=>by
 obtain⟨n,hn⟩:=dN (show lim (λn=>m90 n g.1)=V b from h);exact(Uw n) g b hn
def e90(F:bf):bf:=x90 r90 F
def WS{F:bf}(h:aQ w9 F):aQ w9 (e90 F):=Zd arf h
def MC{F:bf}{f:Nat}(h:bw F f):bw (e90 F) f:=abc h
abbrev pF:=Int
def d216:Td 0 pF:= .c [] [2] (.r 0 0 (ec 2 aM en) sn (λz=>z.1.1) (λx=>((x,()),(()))))
def aqS:=(lc (qg 137) ln)
def ajl(M:au->af pF):bf->bf:=eL w9 216 G aqS d216 (λg=>M g.1)
def VO{M:au->af pF}{F:bf}{f:Nat}(h:bw F f):bw (ajl M F) f:=eS h (λ_=>by kernel_rfl)
def agK(M:au->af pF):Prop:=HL w9 216 aqS d216 (λg=>M g.1)
def TJ{M:au->af pF}(hM:agK M){F:bf}(h:aQ w9 F):aQ w9 (ajl M F):=cT (sc:=jM) cv hM ⟨_,func216,by kernel_rfl,by kernel_rfl⟩ (λ_=>by kernel_rfl) (λ_=>by kernel_rfl) h
def aru(M216:au->af pF):bf:=(ajl M216 de)
def ahl{M216}(h216:agK M216):aQ w9 (aru M216):=(TJ h216 aP)
structure E7 where
 (t3 t4:Int)
 b0:au
def OT:Td 0 E7:= .c [] [1,3,4] (.r 0 1 (ec 1 (qp 0 0) (ec 3 aM (ec 4 aM en))) (sb 0 137 (lg 137) sn) (λz=>⟨z.1.2.1,z.1.t.1,z.2.1⟩) (λx=>(((),x.t3,x.t4,()),(x.b0,()))))
def Ip(M216:au->af pF)(p:E7):af (af E7):=
 bif J (p.t4<p.b0.aq.length)then if 0<=p.t4/\p.t4<p.b0.aq.length then match M216 (au.mk p.b0.aq[p.t4.toNat]!.bC p.b0.aq[p.t4.toNat]!.fN p.b0.aq[p.t4.toNat]!.aq)with|S=>S|V r1=>V (V (E7.mk (i64.wrap (p.t3+r1)) (i64.wrap (p.t4+1)) (au.mk p.b0.bC p.b0.fN p.b0.aq)))else S else V (S)
def Ik(M216:au->af pF):=bK (Ip M216)
def akM(M216:au->af pF):An:=(noTwo (noTwo (.two (noTwo (OT.lp (Ik M216) .no)) .no)))
def avV(M216:au->af pF):cU w9 (aru M216) 0 300 216 (akM M216):=bB (l:=[(bg f216 0,(OT.lp (Ik M216) .no))]) func216 (aV (by kernel_rfl)) (by kernel_rfl) (aA (aO OT) aF)
def ag8(M216:au->af pF)(a0:au):af pF:=
 match Ik M216 (E7.mk 1 0 (au.mk a0.bC a0.fN a0.aq))with|S=>S|V r2=>bif J (r2.t4<r2.b0.aq.length)then if 0<=r2.t4/\r2.t4<r2.b0.aq.length then match M216 (au.mk r2.b0.aq[r2.t4.toNat]!.bC r2.b0.aq[r2.t4.toNat]!.fN r2.b0.aq[r2.t4.toNat]!.aq)with|S=>S|V r3=>S else S else V (r2.t3)
def aCZ(M216:au->af pF)(a0:au):bM w9 (aru M216) 300 (akM M216) 216 (aqS.c (a0,())) [] 0 d216.rd=ag8 M216 a0:=by kernel_rfl
def alS:Nat->(au->af pF)
 |0=>(λ_=>S)
 |n+1=>(ag8 (alS n))
def QS(n:Nat):au->af pF:=(alS n)
def ML:∀n,agK (QS n)
 |0=>λ_ _ h=>(by cases h)
 |n+1=>by
  have ih:=ML n;have i216:=ih;exact(cH (ahl i216) (avV (QS n)) (λ_=>by kernel_rfl) (λ_=>by kernel_rfl) λg=>aCZ (QS n) g.1)
def OZ:au->af pF:=λa0=>lim (λn=>QS n a0)
def adX:agK OZ:=λg b h=>by
 obtain⟨n,hn⟩:=dN (show lim (λn=>QS n g.1)=V b from h);exact(ML n) g b hn
def ahY(F:bf):bf:=ajl OZ F
def RG{F:bf}(h:aQ w9 F):aQ w9 (ahY F):=TJ adX h
def G7{F:bf}{f:Nat}(h:bw F f):bw (ahY F) f:=VO h
abbrev pH:=Int
def d215:Td 0 pH:= .c [] [2] (.r 0 0 (ec 2 aM en) sn (λz=>z.1.1) (λx=>((x,()),(()))))
def arN:=(lc (ql 166) ln)
def ai4(M:(aa ay)->af pH):bf->bf:=eL w9 215 G arN d215 (λg=>M g.1)
def VT{M:(aa ay)->af pH}{F:bf}{f:Nat}(h:bw F f):bw (ai4 M F) f:=eS h (λ_=>by kernel_rfl)
def ahu(M:(aa ay)->af pH):Prop:=HL w9 215 arN d215 (λg=>M g.1)
def Rx{M:(aa ay)->af pH}(hM:ahu M){F:bf}(h:aQ w9 F):aQ w9 (ai4 M F):=cT (sc:=jM) cv hM ⟨_,func215,by kernel_rfl,by kernel_rfl⟩ (λ_=>by kernel_rfl) (λ_=>by kernel_rfl) h
def anA(M215:(aa ay)->af pH):bf:=(ahY (ai4 M215 de))
def aga{M215}(h215:ahu M215):aQ w9 (anA M215):=(RG (Rx h215 aP))
structure Em where
 t0:List ay
 (t3 t4:Int)
def PJ:Td 0 Em:= .c [] [0,3,4] (.r 0 0 (ec 0 (ql 166) (ec 3 aM (ec 4 aM en))) sn (λz=>⟨z.1.1,z.1.2.1,z.1.t.1⟩) (λx=>((x.t0,x.t3,x.t4,()),(()))))
def Jk(M215:(aa ay)->af pH)(p:Em):af (af Em):=
 bif J (p.t4<p.t0.length)then if 0<=p.t4/\p.t4<p.t0.length then match OZ (au.mk p.t0[p.t4.toNat]!.az.bC p.t0[p.t4.toNat]!.az.fN p.t0[p.t4.toNat]!.az.aq)with|S=>S|V r1=>if 0<=p.t4/\p.t4<p.t0.length then match M215 p.t0[p.t4.toNat]!.aL with|S=>S|V r2=>if 0<=p.t4/\p.t4<p.t0.length then match M215 p.t0[p.t4.toNat]!.aR with|S=>S|V r3=>V (V (Em.mk p.t0 (i64.wrap (i64.wrap (i64.wrap (i64.wrap (p.t3+1)+r1)+r2)+r3)) (i64.wrap (p.t4+1))))else S else S else S else V (S)
def HW(M215:(aa ay)->af pH):=bK (Jk M215)
def alW(M215:(aa ay)->af pH):An:=(noTwo (noTwo (.two (noTwo (PJ.lp (HW M215) .no)) .no)))
def atn(M215:(aa ay)->af pH):cU w9 (anA M215) 0 300 215 (alW M215):=bB (l:=[(bg f215 0,(PJ.lp (HW M215) .no))]) func215 (aV (by kernel_rfl)) (by kernel_rfl) (aA (aO PJ) aF)
def aeM(M215:(aa ay)->af pH)(a0:aa ay):af pH:=
 match HW M215 (Em.mk a0 0 0)with|S=>S|V r4=>bif J (r4.t4<r4.t0.length)then if 0<=r4.t4/\r4.t4<r4.t0.length then match OZ (au.mk r4.t0[r4.t4.toNat]!.az.bC r4.t0[r4.t4.toNat]!.az.fN r4.t0[r4.t4.toNat]!.az.aq)with|S=>S|V r5=>if 0<=r4.t4/\r4.t4<r4.t0.length then match M215 r4.t0[r4.t4.toNat]!.aL with|S=>S|V r6=>if 0<=r4.t4/\r4.t4<r4.t0.length then match M215 r4.t0[r4.t4.toNat]!.aR with|S=>S|V r7=>S else S else S else S else V (r4.t3)
def aEe(M215:(aa ay)->af pH)(a0:aa ay):bM w9 (anA M215) 300 (alW M215) 215 (arN.c (a0,())) [] 0 d215.rd=aeM M215 a0:=by kernel_rfl
def akU:Nat->((aa ay)->af pH)
 |0=>(λ_=>S)
 |n+1=>(aeM (akU n))
def Qz(n:Nat):(aa ay)->af pH:=(akU n)
def LA:∀n,ahu (Qz n)
 |0=>λ_ _ h=>(by cases h)
 |n+1=>by
  have ih:=LA n;have i215:=ih;exact(cH (aga i215) (atn (Qz n)) (λ_=>by kernel_rfl) (λ_=>by kernel_rfl) λg=>aEe (Qz n) g.1)
def adA:(aa ay)->af pH:=λa0=>lim (λn=>Qz n a0)
def afn:ahu adA:=λg b h=>by
 obtain⟨n,hn⟩:=dN (show lim (λn=>Qz n g.1)=V b from h);exact(LA n) g b hn
def apg(F:bf):bf:=ai4 adA F
def ag3{F:bf}(h:aQ w9 F):aQ w9 (apg F):=Rx afn h
def GL{F:bf}{f:Nat}(h:bw F f):bw (apg F) f:=VT h
abbrev pg:=Int
def d217:Td 0 pg:= .c [] [2] (.r 0 0 (ec 2 aM en) sn (λz=>z.1.1) (λx=>((x,()),(()))))
def aqM:=(lc (qg 137) ln)
def adM(M:au->af pg):bf->bf:=eL w9 217 G aqM d217 (λg=>M g.1)
def U5{M:au->af pg}{F:bf}{f:Nat}(h:bw F f):bw (adM M F) f:=eS h (λ_=>by kernel_rfl)
def ajt(M:au->af pg):Prop:=HL w9 217 aqM d217 (λg=>M g.1)
def Tp{M:au->af pg}(hM:ajt M){F:bf}(h:aQ w9 F):aQ w9 (adM M F):=cT (sc:=jM) cv hM ⟨_,func217,by kernel_rfl,by kernel_rfl⟩ (λ_=>by kernel_rfl) (λ_=>by kernel_rfl) h
def anL(M217:au->af pg):bf:=(adM M217 de)
def afw{M217}(h217:ajt M217):aQ w9 (anL M217):=(Tp h217 aP)
structure vP where
 (t3 t4:Int)
 b0:au
def Qr:Td 0 vP:= .c [] [1,3,4] (.r 0 1 (ec 1 (qp 0 0) (ec 3 aM (ec 4 aM en))) (sb 0 137 (lg 137) sn) (λz=>⟨z.1.2.1,z.1.t.1,z.2.1⟩) (λx=>(((),x.t3,x.t4,()),(x.b0,()))))
def I8(M217:au->af pg)(p:vP):af (af vP):=
 bif J (p.t4<p.b0.aq.length)then if 0<=p.t4/\p.t4<p.b0.aq.length then match M217 (au.mk p.b0.aq[p.t4.toNat]!.bC p.b0.aq[p.t4.toNat]!.fN p.b0.aq[p.t4.toNat]!.aq)with|S=>S|V r1=>bif J (p.t3<r1)then V (V (vP.mk r1 (i64.wrap (p.t4+1)) (au.mk p.b0.bC p.b0.fN p.b0.aq)))else V (V (vP.mk p.t3 (i64.wrap (p.t4+1)) (au.mk p.b0.bC p.b0.fN p.b0.aq)))else S else V (S)
def J3(M217:au->af pg):=bK (I8 M217)
def alY(M217:au->af pg):An:=(noTwo (noTwo (.two (noTwo (Qr.lp (J3 M217) .no)) .no)))
def ax5(M217:au->af pg):cU w9 (anL M217) 0 300 217 (alY M217):=bB (l:=[(bg f217 0,(Qr.lp (J3 M217) .no))]) func217 (aV (by kernel_rfl)) (by kernel_rfl) (aA (aO Qr) aF)
def afP(M217:au->af pg)(a0:au):af pg:=
 match J3 M217 (vP.mk 0 0 (au.mk a0.bC a0.fN a0.aq))with|S=>S|V r2=>bif J (r2.t4<r2.b0.aq.length)then if 0<=r2.t4/\r2.t4<r2.b0.aq.length then match M217 (au.mk r2.b0.aq[r2.t4.toNat]!.bC r2.b0.aq[r2.t4.toNat]!.fN r2.b0.aq[r2.t4.toNat]!.aq)with|S=>S|V r3=>bif J (r2.t3<r3)then S else S else S else V (i64.wrap (r2.t3+1))
def aB1(M217:au->af pg)(a0:au):bM w9 (anL M217) 300 (alY M217) 217 (aqM.c (a0,())) [] 0 d217.rd=afP M217 a0:=by kernel_rfl
def akz:Nat->(au->af pg)
 |0=>(λ_=>S)
 |n+1=>(afP (akz n))
def Ra(n:Nat):au->af pg:=(akz n)
def NC:∀n,ajt (Ra n)
 |0=>λ_ _ h=>(by cases h)
 |n+1=>by
  have ih:=NC n;have i217:=ih;exact(cH (afw i217) (ax5 (Ra n)) (λ_=>by kernel_rfl) (λ_=>by kernel_rfl) λg=>aB1 (Ra n) g.1)
def KJ:au->af pg:=λa0=>lim (λn=>Ra n a0)
def afg:ajt KJ:=λg b h=>by
 obtain⟨n,hn⟩:=dN (show lim (λn=>Ra n g.1)=V b from h);exact(NC n) g b hn
def aii(F:bf):bf:=adM KJ F
def Su{F:bf}(h:aQ w9 F):aQ w9 (aii F):=Tp afg h
def qV{F:bf}{f:Nat}(h:bw F f):bw (aii F) f:=U5 h
abbrev pz:=Int
def d218:Td 0 pz:= .c [] [2] (.r 0 0 (ec 2 aM en) sn (λz=>z.1.1) (λx=>((x,()),(()))))
def aoY:=(lc (ql 166) ln)
def aie(M:(aa ay)->af pz):bf->bf:=eL w9 218 G aoY d218 (λg=>M g.1)
def VL{M:(aa ay)->af pz}{F:bf}{f:Nat}(h:bw F f):bw (aie M F) f:=eS h (λ_=>by kernel_rfl)
def agL(M:(aa ay)->af pz):Prop:=HL w9 218 aoY d218 (λg=>M g.1)
def T3{M:(aa ay)->af pz}(hM:agL M){F:bf}(h:aQ w9 F):aQ w9 (aie M F):=cT (sc:=jM) cv hM ⟨_,func218,by kernel_rfl,by kernel_rfl⟩ (λ_=>by kernel_rfl) (λ_=>by kernel_rfl) h
def apw(M218:(aa ay)->af pz):bf:=(aie M218 de)
def ahn{M218}(h218:agL M218):aQ w9 (apw M218):=(T3 h218 aP)
structure qB where
 t0:List ay
 (t3 t4:Int)
def Qk:Td 0 qB:= .c [] [0,3,4] (.r 0 0 (ec 0 (ql 166) (ec 3 aM (ec 4 aM en))) sn (λz=>⟨z.1.1,z.1.2.1,z.1.t.1⟩) (λx=>((x.t0,x.t3,x.t4,()),(()))))
def HM(M218:(aa ay)->af pz)(p:qB):af (af qB):=
 bif J (p.t4<p.t0.length)then if 0<=p.t4/\p.t4<p.t0.length then match M218 p.t0[p.t4.toNat]!.aL with|S=>S|V r1=>if 0<=p.t4/\p.t4<p.t0.length then match M218 p.t0[p.t4.toNat]!.aR with|S=>S|V r2=>bif J (p.t3<i64.wrap (r1+1))then bif J (i64.wrap (r1+1)<i64.wrap (r2+1))then V (V (qB.mk p.t0 (i64.wrap (r2+1)) (i64.wrap (p.t4+1))))else V (V (qB.mk p.t0 (i64.wrap (r1+1)) (i64.wrap (p.t4+1))))else bif J (p.t3<i64.wrap (r2+1))then V (V (qB.mk p.t0 (i64.wrap (r2+1)) (i64.wrap (p.t4+1))))else V (V (qB.mk p.t0 p.t3 (i64.wrap (p.t4+1))))else S else S else V (S)
def ID(M218:(aa ay)->af pz):=bK (HM M218)
def alh(M218:(aa ay)->af pz):An:=(noTwo (noTwo (.two (noTwo (Qk.lp (ID M218) .no)) .no)))
def atb(M218:(aa ay)->af pz):cU w9 (apw M218) 0 300 218 (alh M218):=bB (l:=[(bg f218 0,(Qk.lp (ID M218) .no))]) func218 (aV (by kernel_rfl)) (by kernel_rfl) (aA (aO Qk) aF)
def ahd(M218:(aa ay)->af pz)(a0:aa ay):af pz:=
 match ID M218 (qB.mk a0 0 0)with|S=>S|V r3=>bif J (r3.t4<r3.t0.length)then if 0<=r3.t4/\r3.t4<r3.t0.length then match M218 r3.t0[r3.t4.toNat]!.aL with|S=>S|V r4=>if 0<=r3.t4/\r3.t4<r3.t0.length then match M218 r3.t0[r3.t4.toNat]!.aR with|S=>S|V r5=>bif J (r3.t3<i64.wrap (r4+1))then bif J (i64.wrap (r4+1)<i64.wrap (r5+1))then S else S else bif J (r3.t3<i64.wrap (r5+1))then S else S else S else S else V (r3.t3)
def aBg(M218:(aa ay)->af pz)(a0:aa ay):bM w9 (apw M218) 300 (alh M218) 218 (aoY.c (a0,())) [] 0 d218.rd=ahd M218 a0:=by kernel_rfl
def akT:Nat->((aa ay)->af pz)
 |0=>(λ_=>S)
 |n+1=>(ahd (akT n))
def Qx(n:Nat):(aa ay)->af pz:=(akT n)
def MT:∀n,agL (Qx n)
 |0=>λ_ _ h=>(by cases h)
 |n+1=>by
  have ih:=MT n;have i218:=ih;exact(cH (ahn i218) (atb (Qx n)) (λ_=>by kernel_rfl) (λ_=>by kernel_rfl) λg=>aBg (Qx n) g.1)
def ae8:(aa ay)->af pz:=λa0=>lim (λn=>Qx n a0)
def ahP:agL ae8:=λg b h=>by
 obtain⟨n,hn⟩:=dN (show lim (λn=>Qx n g.1)=V b from h);exact(MT n) g b hn
def arD(F:bf):bf:=aie ae8 F
def ajG{F:bf}(h:aQ w9 F):aQ w9 (arD F):=T3 ahP h
def GZ{F:bf}{f:Nat}(h:bw F f):bw (arD F) f:=VL h
abbrev oN:=Bool
def d219:Td 0 oN:= .c [] [2] (.r 0 0 (ec 2 qb en) sn (λz=>z.1.1) (λx=>((x,()),(()))))
def ao6:=(lc (ql 166) ln)
def afQ(M:(aa ay)->af oN):bf->bf:=eL w9 219 G ao6 d219 (λg=>M g.1)
def vT{M:(aa ay)->af oN}{F:bf}{f:Nat}(h:bw F f):bw (afQ M F) f:=eS h (λ_=>by kernel_rfl)
def aiR(M:(aa ay)->af oN):Prop:=HL w9 219 ao6 d219 (λg=>M g.1)
def Rv{M:(aa ay)->af oN}(hM:aiR M){F:bf}(h:aQ w9 F):aQ w9 (afQ M F):=cT (sc:=jM) cv hM ⟨_,func219,by kernel_rfl,by kernel_rfl⟩ (λ_=>by kernel_rfl) (λ_=>by kernel_rfl) h
def adt(M219:(aa ay)->af oN):bf:=(afQ M219 (aii de))
def acg{M219}(h219:aiR M219):aQ w9 (adt M219):=(Rv h219 (Su aP))
structure Ee where
 t0:List ay
 t3:Int
def QA:Td 0 Ee:= .c [] [0,3] (.r 0 0 (ec 0 (ql 166) (ec 3 aM en)) sn (λz=>⟨z.1.1,z.1.2.1⟩) (λx=>((x.t0,x.t3,()),(()))))
def Kk(M219:(aa ay)->af oN)(p:Ee):af (af Ee):=
 bif J (p.t3<p.t0.length)then match if 0<=p.t3/\p.t3<p.t0.length then match KJ (au.mk p.t0[p.t3.toNat]!.az.bC p.t0[p.t3.toNat]!.az.fN p.t0[p.t3.toNat]!.az.aq)with|S=>S|V r1=>bif J (12<r1)then V O else if 0<=p.t3/\p.t3<p.t0.length then match M219 p.t0[p.t3.toNat]!.aL with|S=>S|V r2=>bif r2 then V O else if 0<=p.t3/\p.t3<p.t0.length then match M219 p.t0[p.t3.toNat]!.aR with|S=>S|V r3=>V (r3)else S else S else S with|S=>S|V r4=>bif r4 then V (S)else V (V (Ee.mk p.t0 (i64.wrap (p.t3+1))))else V (S)
def XQ(M219:(aa ay)->af oN):An:=(noTwo (.two (.two (.rb [217,219] 32) .no) .no))
def HB(M219:(aa ay)->af oN):=bK (Kk M219)
def ak0(M219:(aa ay)->af oN):An:=(noTwo (.two (noTwo (QA.lp (HB M219) (XQ M219))) .no))
def ayD{M219}:∀f∈([217,219]:aa Nat),bw (adt M219) f:=(aA (vT (qV bS)) (aA (vT (qV bS)) aF))
def azS(M219:(aa ay)->af oN):cU w9 (adt M219) 0 300 219 (ak0 M219):=bB (l:=[(bg f219 0,(QA.lp (HB M219) (XQ M219))),(.skip,(.rb [217,219] 32))]) func219 (aV (by kernel_rfl)) (by kernel_rfl) (aA (aO QA) (aA ayD aF))
def ah3(M219:(aa ay)->af oN)(a0:aa ay):af oN:=
 match HB M219 (Ee.mk a0 0)with|S=>S|V r5=>bif J (r5.t3<r5.t0.length)then match if 0<=r5.t3/\r5.t3<r5.t0.length then match KJ (au.mk r5.t0[r5.t3.toNat]!.az.bC r5.t0[r5.t3.toNat]!.az.fN r5.t0[r5.t3.toNat]!.az.aq)with|S=>S|V r6=>bif J (12<r6)then V O else if 0<=r5.t3/\r5.t3<r5.t0.length then match M219 r5.t0[r5.t3.toNat]!.aL with|S=>S|V r7=>bif r7 then V O else if 0<=r5.t3/\r5.t3<r5.t0.length then match M219 r5.t0[r5.t3.toNat]!.aR with|S=>S|V r8=>V (r8)else S else S else S with|S=>S|V r9=>bif r9 then V O else S else V G
def aAI(M219:(aa ay)->af oN)(a0:aa ay):bM w9 (adt M219) 300 (ak0 M219) 219 (ao6.c (a0,())) [] 0 d219.rd=ah3 M219 a0:=by kernel_rfl
def amD:Nat->((aa ay)->af oN)
 |0=>(λ_=>S)
 |n+1=>(ah3 (amD n))
def P8(n:Nat):(aa ay)->af oN:=(amD n)
def KR:∀n,aiR (P8 n)
 |0=>λ_ _ h=>(by cases h)
 |n+1=>by
  have ih:=KR n;have i219:=ih;exact(cH (acg i219) (azS (P8 n)) (λ_=>by kernel_rfl) (λ_=>by kernel_rfl) λg=>aAI (P8 n) g.1)
def ajA:(aa ay)->af oN:=λa0=>lim (λn=>P8 n a0)
def aiT:aiR ajA:=λg b h=>by
 obtain⟨n,hn⟩:=dN (show lim (λn=>P8 n g.1)=V b from h);exact(KR n) g b hn
def am9(F:bf):bf:=afQ ajA F
def acB{F:bf}(h:aQ w9 F):aQ w9 (am9 F):=Rv aiT h
def G8{F:bf}{f:Nat}(h:bw F f):bw (am9 F) f:=vT h
def avy:bf:=(am9 (arD (aii (ahY (apg de)))))
structure Ew where
 (t3 t4:Int)
 b0:aN
def Qe:Td 0 Ew:= .c [] [1,3,4] (.r 0 1 (ec 1 (qp 0 0) (ec 3 aM (ec 4 aM en))) (sb 0 26 (lg 26) sn) (λz=>⟨z.1.2.1,z.1.t.1,z.2.1⟩) (λx=>(((),x.t3,x.t4,()),(x.b0,()))))
def D7(p:Ew):af (af Ew):=
 bif J (p.t4<p.b0.ak.length)then if 0<=p.t4/\p.t4<p.b0.ak.length then match OZ (au.mk p.b0.ak[p.t4.toNat]!.az.bC p.b0.ak[p.t4.toNat]!.az.fN p.b0.ak[p.t4.toNat]!.az.aq)with|S=>S|V r1=>if 0<=p.t4/\p.t4<p.b0.ak.length then match KJ (au.mk p.b0.ak[p.t4.toNat]!.az.bC p.b0.ak[p.t4.toNat]!.az.fN p.b0.ak[p.t4.toNat]!.az.aq)with|S=>S|V r2=>bif J (12<r2)then V (S)else V (V (Ew.mk (i64.wrap (p.t3+r1)) (i64.wrap (p.t4+1)) p.b0))else S else S else V (S)
def Jd:=bK (D7)
abbrev ayE:=Bool
def d138:Td 0 ayE:= .c [] [2] (.r 0 0 (ec 2 qb en) sn (λz=>z.1.1) (λx=>((x,()),(()))))
def akf:∀f∈([218,219]:aa Nat),bw (avy) f:=(aA (G8 (GZ (qV (G7 (GL bS))))) (aA (G8 (GZ (qV (G7 (GL bS))))) aF))
def agv(a0:aN):af ayE:=
 match bif J (64<(a0.aj.length:Int))then V O else V (J (8<(a0.ak.length:Int)))with|S=>S|V r3=>bif r3 then V G else match adA a0.bH with|S=>S|V r4=>match Jd (Ew.mk r4 0 a0)with|S=>S|V r5=>bif J (r5.t4<r5.b0.ak.length)then if 0<=r5.t4/\r5.t4<r5.b0.ak.length then match OZ (au.mk r5.b0.ak[r5.t4.toNat]!.az.bC r5.b0.ak[r5.t4.toNat]!.az.fN r5.b0.ak[r5.t4.toNat]!.az.aq)with|S=>S|V r6=>if 0<=r5.t4/\r5.t4<r5.b0.ak.length then match KJ (au.mk r5.b0.ak[r5.t4.toNat]!.az.bC r5.b0.ak[r5.t4.toNat]!.az.fN r5.b0.ak[r5.t4.toNat]!.az.aq)with|S=>S|V r7=>bif J (12<r7)then V G else S else S else S else match bif J (r5.t3<=1024)then match ae8 r5.b0.bH with|S=>S|V r8=>bif J (r8<=12)then match ajA r5.b0.bH with|S=>S|V r9=>V (bif r9 then G else O)else V G else V G with|S=>S|V r10=>V (r10)
def aud:=eL w9 138 G (lc (qg 26) ln) d138 (λg=>agv g.1)
def afr:EO aud:=λh=>kL (F:=avy) (an:=(noTwo (.two (.two (.rb [218,219] 14) .no) (noTwo (.two (noTwo (Qe.lp Jd .no)) (.two (.rb [218,219] 2) .no)))))) (l:=[(.skip,(.rb [218,219] 14)),(bg f138 0,(Qe.lp Jd .no)),(.skip,(.rb [218,219] 2))]) func138 (acB (ajG (Su (RG (ag3 aP))))) (aA akf (aA (aO Qe) (aA akf aF))) h
def ay9:bf:=de
structure CP where
 t0:ByteArray
 t3:Int
def OA:Td 0 CP:= .c [] [0,3] (.r 0 0 (ec 0 qs (ec 3 aM en)) sn (λz=>⟨z.1.1,z.1.2.1⟩) (λx=>((x.t0,x.t3,()),(()))))
def H8(p:CP):af (af CP):=
 bif J (p.t3<p.t0.size)then if 0<=p.t3/\p.t3<p.t0.size then match bif J (97<=cw p.t0 p.t3.toNat)then V (J (cw p.t0 p.t3.toNat<=122))else V G with|S=>S|V r1=>match bif J (48<=cw p.t0 p.t3.toNat)then bif J (cw p.t0 p.t3.toNat<=57)then V O else bif J (cw p.t0 p.t3.toNat=46)then V O else V (J (cw p.t0 p.t3.toNat=95))else bif J (cw p.t0 p.t3.toNat=46)then V O else V (J (cw p.t0 p.t3.toNat=95))with|S=>S|V r2=>match bif bif r1 then G else O then bif J (p.t3=0)then V O else V (bif r2 then G else O)else V G with|S=>S|V r3=>bif r3 then V (S)else V (V (CP.mk p.t0 (i64.wrap (p.t3+1))))else S else V (S)
def Z1:An:=(noTwo (.two (noTwo (.two (.rb [] 5) (.two (.rb [] 6) (.two (.rb [] 53) .no)))) .no))
def IP:=bK (H8)
abbrev awt:=Bool
def d140:Td 0 awt:= .c [] [2] (.r 0 0 (ec 2 qb en) sn (λz=>z.1.1) (λx=>((x,()),(()))))
def Sh:∀f∈([]:aa Nat),bw (ay9) f:=aF
def PV(a0:ByteArray):af awt:=
 match bif J ((a0.size:Int)<1)then V O else V (J (40<(a0.size:Int)))with|S=>S|V r4=>bif r4 then V G else match IP (CP.mk a0 0)with|S=>S|V r5=>bif J (r5.t3<r5.t0.size)then if 0<=r5.t3/\r5.t3<r5.t0.size then match bif J (97<=cw r5.t0 r5.t3.toNat)then V (J (cw r5.t0 r5.t3.toNat<=122))else V G with|S=>S|V r6=>match bif J (48<=cw r5.t0 r5.t3.toNat)then bif J (cw r5.t0 r5.t3.toNat<=57)then V O else bif J (cw r5.t0 r5.t3.toNat=46)then V O else V (J (cw r5.t0 r5.t3.toNat=95))else bif J (cw r5.t0 r5.t3.toNat=46)then V O else V (J (cw r5.t0 r5.t3.toNat=95))with|S=>S|V r7=>match bif bif r6 then G else O then bif J (r5.t3=0)then V O else V (bif r7 then G else O)else V G with|S=>S|V r8=>bif r8 then V G else S else S else V O
def afW:=eL w9 140 G (lc qs ln) d140 (λg=>PV g.1)
def Uf:EO afW:=λh=>kL (F:=ay9) (an:=(noTwo (.two (.two (.rb [] 14) .no) (.two (noTwo (OA.lp IP Z1)) .no)))) (l:=[(.skip,(.rb [] 14)),(bg f140 0,(OA.lp IP Z1)),(.skip,(.rb [] 5)),(.skip,(.rb [] 6)),(.skip,(.rb [] 53))]) func140 aP (aA Sh (aA (aO OA) (aA Sh (aA Sh (aA Sh aF))))) h
def Vi:EP afW:=λh=>kP h
def amS:bf:=de
abbrev aoA:=Bool
def d141:Td 0 aoA:= .c [] [4] (.r 0 0 (ec 4 qb en) sn (λz=>z.1.1) (λx=>((x,()),(()))))
def axQ:=(bk (bk ln))
def ald:An:=(noTwo (.two (.rb [] 4) .no))
def asN:∀f∈([]:aa Nat),bw (amS) f:=aF
def Hq(a0:Int)(a1:Int):aoA:=
 let r1:Bool:=bif J (a0<=a1)then bif J (-1048576<=a0)then J (a1<=1048576)else G else G;r1
def aCN(a0:Int)(a1:Int):bM w9 (amS) 300 (ald) 141 (axQ.c (a0,a1,())) [] 0 d141.rd=V (Hq a0 a1):=by
 refine Eq.trans (b:=(
  match bif J (a0<=a1)then bif J (-1048576<=a0)then V (J (a1<=1048576))else V (G)else V (G)with|S=>S|V r1=>V (r1):af aoA)) (by kernel_rfl) ?_
 simp only[Hq,cM,dg]
def ai9:=eL w9 141 G axQ d141 (λg=>V (Hq g.1 g.2.1))
def Un:EO ai9:=λh=>kL (F:=amS) (an:=ald) (l:=[(.skip,(.rb [] 4))]) func141 aP (aA asN aF) h (c:=λg=>aCN g.1 g.2.1)
def Wf:EP ai9:=λh=>kP h
structure vI where
 t0:List aX
 (t1 t5 t6:Int)
def Pt:Td 0 vI:= .c [] [0,1,5,6] (.r 0 0 (ec 0 (ql 131) (ec 1 aM (ec 5 aM (ec 6 aM en)))) sn (λz=>⟨z.1.1,z.1.2.1,z.1.t.1,z.1.t.2.1⟩) (λx=>((x.t0,x.t1,x.t5,x.t6,()),(()))))
def Ko(p:vI):af (af vI):=
 bif J (p.t6<p.t0.length)then if 0<=p.t6/\p.t6<p.t0.length then bif bif J (p.t0[p.t6.toNat]!.bz=p.t1)then G else O then V (V (vI.mk p.t0 p.t1 p.t5 (i64.wrap (p.t6+1))))else if 0<=p.t6/\p.t6<p.t0.length then if 0<=p.t6/\p.t6<p.t0.length then bif J (4096<i64.wrap (p.t5*i64.wrap (i64.wrap (p.t0[p.t6.toNat]!.ah-p.t0[p.t6.toNat]!.ag)+1)))then V (S)else V (V (vI.mk p.t0 p.t1 (i64.wrap (p.t5*i64.wrap (i64.wrap (p.t0[p.t6.toNat]!.ah-p.t0[p.t6.toNat]!.ag)+1))) (i64.wrap (p.t6+1))))else S else S else S else V (S)
def Jz:=bK (Ko)
abbrev asA:=Int
def d220:Td 0 asA:= .c [] [4] (.r 0 0 (ec 4 aM en) sn (λz=>z.1.1) (λx=>((x,()),(()))))
def VF(a0:aa aX)(a1:Int):af asA:=
 match Jz (vI.mk a0 a1 1 0)with|S=>S|V r1=>bif J (r1.t6<r1.t0.length)then if 0<=r1.t6/\r1.t6<r1.t0.length then bif bif J (r1.t0[r1.t6.toNat]!.bz=r1.t1)then G else O then S else if 0<=r1.t6/\r1.t6<r1.t0.length then if 0<=r1.t6/\r1.t6<r1.t0.length then bif J (4096<i64.wrap (r1.t5*i64.wrap (i64.wrap (r1.t0[r1.t6.toNat]!.ah-r1.t0[r1.t6.toNat]!.ag)+1)))then V 4097 else S else S else S else S else V (r1.t5)
def aq1:=eL w9 220 G (lc (ql 131) (bk ln)) d220 (λg=>VF g.1 g.2.1)
def adg:EO aq1:=λh=>kL (an:=(noTwo (noTwo (.two (noTwo (Pt.lp Jz .no)) .no)))) (l:=[(bg f220 0,(Pt.lp Jz .no))]) func220 aP (aA (aO Pt) aF) h
def V5:EP aq1:=λh=>kP h
def awz:bf:=(aq1 (ai9 (afW de)))
structure Al where
 t0:List aX
 (t3 t5:Int)
 b0:aX
def Py:Td 0 Al:= .c [] [0,3,4,5] (.r 0 1 (ec 0 (ql 131) (ec 3 aM (ec 4 (qp 0 0) (ec 5 aM en)))) (sb 0 131 (lg 131) sn) (λz=>⟨z.1.1,z.1.2.1,z.1.t.2.1,z.2.1⟩) (λx=>((x.t0,x.t3,(),x.t5,()),(x.b0,()))))
def Hw(p:Al):af (af Al):=
 bif J (p.t5<p.t3)then if 0<=p.t5/\p.t5<p.t0.length then bif p.t0[p.t5.toNat]!.fName.toList==p.b0.fName.toList then V (S)else V (V (Al.mk p.t0 p.t3 (i64.wrap (p.t5+1)) p.b0))else S else V (S)
def EX:=bK (Hw)
structure Dg where
 t0:List aX
 t3:Int
def N9:Td 0 Dg:= .c [] [0,3] (.r 0 0 (ec 0 (ql 131) (ec 3 aM en)) sn (λz=>⟨z.1.1,z.1.2.1⟩) (λx=>((x.t0,x.t3,()),(()))))
def Av(p:Dg):af (af Dg):=
 bif J (p.t3<p.t0.length)then if 0<=p.t3/\p.t3<p.t0.length then match PV p.t0[p.t3.toNat]!.fName with|S=>S|V r1=>bif bif r1 then G else O then V (S)else match EX (Al.mk p.t0 p.t3 0 p.t0[p.t3.toNat]!)with|S=>S|V r2=>bif J (r2.t5<r2.t3)then if 0<=r2.t5/\r2.t5<r2.t0.length then bif r2.t0[r2.t5.toNat]!.fName.toList==r2.b0.fName.toList then V (S)else S else S else match bif bif J (r2.b0.bz=0)then G else O then bif bif J (r2.b0.bz=1)then G else O then bif bif J (r2.b0.bz=2)then G else O then V (bif J (r2.b0.bz=3)then G else O)else V G else V G else V G with|S=>S|V r3=>bif r3 then V (S)else bif bif Hq r2.b0.ag r2.b0.ah then G else O then V (S)else match bif J (r2.b0.bz=0)then bif J (r2.b0.eE<r2.b0.ag)then V O else bif J (r2.b0.ah<r2.b0.eE)then V O else bif bif J (r2.b0.bz=0)then G else O then V (bif J (r2.b0.eE=0)then G else O)else V G else bif bif J (r2.b0.bz=0)then G else O then V (bif J (r2.b0.eE=0)then G else O)else V G with|S=>S|V r4=>bif r4 then V (S)else V (V (Dg.mk r2.t0 (i64.wrap (r2.t3+1))))else S else V (S)
def Xr:An:=(noTwo (.two (noTwo (noTwo (.two (noTwo (Py.lp EX .no)) (.two (.two (.rb [220] 50) .no) (noTwo (.two (.rb [220] 83) .no)))))) .no))
def Ju:=bK (Av)
abbrev ayF:=Int
def d139:Td 0 ayF:= .c [] [2] (.r 0 0 (ec 2 aM en) sn (λz=>z.1.1) (λx=>((x,()),(()))))
def aaB:∀f∈([220]:aa Nat),bw (awz) f:=(aA (V5 (Wf (Vi bS))) aF)
def ab0(a0:aa aX):af ayF:=
 match Ju (Dg.mk a0 0)with|S=>S|V r5=>bif J (r5.t3<r5.t0.length)then if 0<=r5.t3/\r5.t3<r5.t0.length then match PV r5.t0[r5.t3.toNat]!.fName with|S=>S|V r6=>bif bif r6 then G else O then V 7 else match EX (Al.mk r5.t0 r5.t3 0 r5.t0[r5.t3.toNat]!)with|S=>S|V r7=>bif J (r7.t5<r7.t3)then if 0<=r7.t5/\r7.t5<r7.t0.length then bif r7.t0[r7.t5.toNat]!.fName.toList==r7.b0.fName.toList then V 8 else S else S else match bif bif J (r7.b0.bz=0)then G else O then bif bif J (r7.b0.bz=1)then G else O then bif bif J (r7.b0.bz=2)then G else O then V (bif J (r7.b0.bz=3)then G else O)else V G else V G else V G with|S=>S|V r8=>bif r8 then V 1 else bif bif Hq r7.b0.ag r7.b0.ah then G else O then V 3 else match bif J (r7.b0.bz=0)then bif J (r7.b0.eE<r7.b0.ag)then V O else bif J (r7.b0.ah<r7.b0.eE)then V O else bif bif J (r7.b0.bz=0)then G else O then V (bif J (r7.b0.eE=0)then G else O)else V G else bif bif J (r7.b0.bz=0)then G else O then V (bif J (r7.b0.eE=0)then G else O)else V G with|S=>S|V r9=>bif r9 then V 3 else S else S else match match VF r5.t0 1with|S=>S|V r10=>bif J (4096<r10)then V O else match VF r5.t0 2with|S=>S|V r11=>bif J (4096<r11)then V O else match VF r5.t0 3with|S=>S|V r12=>V (J (256<r12))with|S=>S|V r13=>bif r13 then V 4 else V 0
def azL:=eL w9 139 G (lc (ql 131) ln) d139 (λg=>ab0 g.1)
def aiB:EO azL:=λh=>kL (F:=awz) (an:=(noTwo (.two (noTwo (N9.lp Ju Xr)) (.two (.two (.rb [220] 96) .no) .no)))) (l:=[(bg f139 0,(N9.lp Ju Xr)),(bg f139 1,(Py.lp EX .no)),(.skip,(.rb [220] 50)),(.skip,(.rb [220] 83)),(.skip,(.rb [220] 96))]) func139 (adg (Un (Uf aP))) (aA (aO N9) (aA (aO Py) (aA aaB (aA aaB (aA aaB aF))))) h
def aA3:bf:=de
abbrev aq8:=Int
def d270:Td 0 aq8:= .c [] [2] (.r 0 0 (ec 2 aM en) sn (λz=>z.1.1) (λx=>((x,()),(()))))
def avP:=(bk ln)
def alb:An:= .no
def FQ(a0:Int):aq8:=
 bif J (a0=0)then 0 else bif J (a0=24)then 0 else bif J (a0=6)then 1 else bif J (a0=7)then 1 else bif J (a0=8)then 2 else bif J (a0=9)then 2 else bif J (a0=10)then 2 else bif J (a0=11)then 2 else bif J (a0=12)then 2 else bif J (a0=13)then 2 else bif J (a0=14)then 2 else bif J (a0=15)then 2 else bif J (a0=16)then 2 else bif J (a0=17)then 2 else bif J (a0=18)then 2 else bif J (a0=19)then 2 else bif J (a0=20)then 2 else bif J (a0=21)then 2 else bif J (a0=22)then 2 else bif J (a0=23)then 3 else bif J (a0=25)then-2 else-1
def aAE(a0:Int):bM w9 (aA3) 300 (alb) 270 (avP.c (a0,())) [] 0 d270.rd=V (FQ a0):=by
 refine Eq.trans (b:=(
  bif J (a0=0)then V (0)else bif J (a0=24)then V (0)else bif J (a0=6)then V (1)else bif J (a0=7)then V (1)else bif J (a0=8)then V (2)else bif J (a0=9)then V (2)else bif J (a0=10)then V (2)else bif J (a0=11)then V (2)else bif J (a0=12)then V (2)else bif J (a0=13)then V (2)else bif J (a0=14)then V (2)else bif J (a0=15)then V (2)else bif J (a0=16)then V (2)else bif J (a0=17)then V (2)else bif J (a0=18)then V (2)else bif J (a0=19)then V (2)else bif J (a0=20)then V (2)else bif J (a0=21)then V (2)else bif J (a0=22)then V (2)else bif J (a0=23)then V (3)else bif J (a0=25)then V (-2)else V (-1):af aq8)) (by kernel_rfl) ?_
 simp only[FQ,cM,dg]
def azw:=eL w9 270 G avP d270 (λg=>V (FQ g.1))
def adw:EO azw:=λh=>kL (an:=alb) func270 aP aF h (c:=λg=>aAE g.1)
abbrev rU:=Bool
def d221:Td 0 rU:= .c [] [6] (.r 0 0 (ec 6 qb en) sn (λz=>z.1.1) (λx=>((x,()),(()))))
def aqm:=(lc (ql 131) (lc (qg 137) (lc qb ln)))
def arl(M:(aa aX)->au->Bool->af rU):bf->bf:=eL w9 221 G aqm d221 (λg=>M g.1 g.2.1 g.2.2.1)
def aje(M:(aa aX)->au->Bool->af rU):Prop:=HL w9 221 aqm d221 (λg=>M g.1 g.2.1 g.2.2.1)
def RT{M:(aa aX)->au->Bool->af rU}(hM:aje M){F:bf}(h:aQ w9 F):aQ w9 (arl M F):=cT (sc:=jM) cv hM ⟨_,func221,by kernel_rfl,by kernel_rfl⟩ (λ_=>by kernel_rfl) (λ_=>by kernel_rfl) h
def acN(M221:(aa aX)->au->Bool->af rU):bf:=(azw (arl M221 de))
def ach{M221}(h221:aje M221):aQ w9 (acN M221):=(adw (RT h221 aP))
structure vw where
 t0:List aX
 t2:Bool
 t8:Int
 b0:au
def P9:Td 0 vw:= .c [] [0,2,4,8] (.r 0 1 (ec 0 (ql 131) (ec 2 qb (ec 4 (qp 0 0) (ec 8 aM en)))) (sb 0 137 (lg 137) sn) (λz=>⟨z.1.1,z.1.2.1,z.1.t.2.1,z.2.1⟩) (λx=>((x.t0,x.t2,(),x.t8,()),(x.b0,()))))
def Hv(M221:(aa aX)->au->Bool->af rU)(p:vw):af (af vw):=
 bif J (p.t8<p.b0.aq.length)then if 0<=p.t8/\p.t8<p.b0.aq.length then match M221 p.t0 (au.mk p.b0.aq[p.t8.toNat]!.bC p.b0.aq[p.t8.toNat]!.fN p.b0.aq[p.t8.toNat]!.aq) p.t2 with|S=>S|V r1=>bif bif r1 then G else O then V (S)else V (V (vw.mk p.t0 p.t2 (i64.wrap (p.t8+1)) (au.mk p.b0.bC p.b0.fN p.b0.aq)))else S else V (S)
def CG(M221:(aa aX)->au->Bool->af rU):=bK (Hv M221)
def akm(M221:(aa aX)->au->Bool->af rU):An:=(noTwo (noTwo (.two (.two (.rb [] 40) .no) (.two (noTwo (.two (.two (.rb [] 65) .no) (.two (.rb [] 73) .no))) (.two (noTwo (P9.lp (CG M221) .no)) .no)))))
def abE{M221}:∀f∈([]:aa Nat),bw (acN M221) f:=aF
def awI(M221:(aa aX)->au->Bool->af rU):cU w9 (acN M221) 0 300 221 (akm M221):=bB (l:=[(.skip,(.rb [] 40)),(.skip,(.rb [] 65)),(.skip,(.rb [] 73)),(bg f221 0,(P9.lp (CG M221) .no))]) func221 (aV (by kernel_rfl)) (by kernel_rfl) (aA abE (aA abE (aA abE (aA (aO P9) aF))))
def aik(M221:(aa aX)->au->Bool->af rU)(a0:aa aX)(a1:au)(a2:Bool):af rU:=
 match bif J (FQ a1.bC= -1)then V O else bif J (0<=FQ a1.bC)then bif bif J (a1.aq.length=FQ a1.bC)then G else O then V O else bif J (FQ a1.bC= -2)then bif J ((a1.aq.length:Int)<2)then V O else V (J (33<(a1.aq.length:Int)))else V G else bif J (FQ a1.bC= -2)then bif J ((a1.aq.length:Int)<2)then V O else V (J (33<(a1.aq.length:Int)))else V G with|S=>S|V r2=>bif r2 then V G else bif J (a1.bC=24)then match bif J (a1.fN<0)then V O else bif J (a0.length<=a1.fN)then V O else bif a2 then if 0<=a1.fN/\a1.fN<a0.length then V (J (a0[a1.fN.toNat]!.bz=0))else S else V G with|S=>S|V r3=>bif r3 then V G else match CG M221 (vw.mk a0 a2 0 (au.mk a1.bC a1.fN a1.aq))with|S=>S|V r4=>bif J (r4.t8<r4.b0.aq.length)then if 0<=r4.t8/\r4.t8<r4.b0.aq.length then match M221 r4.t0 (au.mk r4.b0.aq[r4.t8.toNat]!.bC r4.b0.aq[r4.t8.toNat]!.fN r4.b0.aq[r4.t8.toNat]!.aq) r4.t2 with|S=>S|V r5=>bif bif r5 then G else O then V G else S else S else V O else match bif bif J (a1.bC=0)then G else O then V (bif J (a1.fN=0)then G else O)else V G with|S=>S|V r6=>bif r6 then V G else match CG M221 (vw.mk a0 a2 0 (au.mk a1.bC a1.fN a1.aq))with|S=>S|V r7=>bif J (r7.t8<r7.b0.aq.length)then if 0<=r7.t8/\r7.t8<r7.b0.aq.length then match M221 r7.t0 (au.mk r7.b0.aq[r7.t8.toNat]!.bC r7.b0.aq[r7.t8.toNat]!.fN r7.b0.aq[r7.t8.toNat]!.aq) r7.t2 with|S=>S|V r8=>bif bif r8 then G else O then V G else S else S else V O
def aBw(M221:(aa aX)->au->Bool->af rU)(a0:aa aX)(a1:au)(a2:Bool):bM w9 (acN M221) 300 (akm M221) 221 (aqm.c (a0,a1,a2,())) [] 0 d221.rd=aik M221 a0 a1 a2:=by kernel_rfl
def ajV:Nat->((aa aX)->au->Bool->af rU)
 |0=>(λ_ _ _=>S)
 |n+1=>(aik (ajV n))
def OD(n:Nat):(aa aX)->au->Bool->af rU:=(ajV n)
def K5:∀n,aje (OD n)
 |0=>λ_ _ h=>(by cases h)
 |n+1=>by
  have ih:=K5 n;have i221:=ih;exact(cH (ach i221) (awI (OD n)) (λ_=>by kernel_rfl) (λ_=>by kernel_rfl) λg=>aBw (OD n) g.1 g.2.1 g.2.2.1)
def afH:(aa aX)->au->Bool->af rU:=λa0 a1 a2=>lim (λn=>OD n a0 a1 a2)
def aeJ:aje afH:=λg b h=>by
 obtain⟨n,hn⟩:=dN (show lim (λn=>OD n g.1 g.2.1 g.2.2.1)=V b from h);exact(K5 n) g b hn
def aBA(F:bf):bf:=arl afH F
def ajJ{F:bf}(h:aQ w9 F):aQ w9 (aBA F):=RT aeJ h
def aCQ:bf:=de
abbrev arq:=Int
def d313:Td 0 arq:= .c [] [2] (.r 0 0 (ec 2 aM en) sn (λz=>z.1.1) (λx=>((x,()),(()))))
def auV:=(bk ln)
def al8:An:= .no
def Ay(a0:Int):arq:=
 bif J (a0<0)then i64.wrap (0-a0)else a0
def aB9(a0:Int):bM w9 (aCQ) 300 (al8) 313 (auV.c (a0,())) [] 0 d313.rd=V (Ay a0):=by
 refine Eq.trans (b:=(
  bif J (a0<0)then V (i64.wrap (0-a0))else V (a0):af arq)) (by kernel_rfl) ?_
 simp only[Ay,cM,dg]
def Zp:=eL w9 313 G auV d313 (λg=>V (Ay g.1))
def aic:EO Zp:=λh=>kL (an:=al8) func313 aP aF h (c:=λg=>aB9 g.1)
def aCU:bf:=(afI (Wn de))
abbrev apc:=Int×Int
def d314:Td 0 apc:= .c [] [4,5] (.r 0 0 (ec 4 aM (ec 5 aM en)) sn (λz=>(z.1.1,z.1.2.1)) (λx=>((x.1,x.2,()),(()))))
def asz:=(bk (bk ln))
def akw:An:= .no
def W0(a0:Int)(a1:Int):apc:=
 bif J (a0<0)then bif J (0<a1)then(jI (0) (i64.wrap (a0+1)),kH (0) (i64.wrap (a1-1)))else(jI (0) (i64.wrap (a0+1)),0)else bif J (0<a1)then(0,kH (0) (i64.wrap (a1-1)))else(0,0)
def aDj(a0:Int)(a1:Int):bM w9 (aCU) 300 (akw) 314 (asz.c (a0,a1,())) [] 0 d314.rd=V (W0 a0 a1):=by
 refine Eq.trans (b:=(
  bif J (a0<0)then bif J (0<a1)then V ((jI (0) (i64.wrap (a0+1)),kH (0) (i64.wrap (a1-1))))else V ((jI (0) (i64.wrap (a0+1)),0))else bif J (0<a1)then V ((0,kH (0) (i64.wrap (a1-1))))else V ((0,0)):af apc)) (by kernel_rfl) ?_
 simp only[W0,cM,dg]
def atI:=eL w9 314 G asz d314 (λg=>V (W0 g.1 g.2.1))
def agz:EO atI:=λh=>kL (an:=akw) func314 (Ka (Jw aP)) aF h (c:=λg=>aDj g.1 g.2.1)
def aum:bf:=(atI (Zp (afI (Wn de))))
structure AR where
 (t2 t3:List Int)
 (t15 t16 t17:Int)
def QN:Td 0 AR:= .c [] [2,3,15,16,17] (.r 0 0 (ec 2 (ql 3) (ec 3 (ql 3) (ec 15 aM (ec 16 aM (ec 17 aM en))))) sn (λz=>⟨z.1.1,z.1.2.1,z.1.t.1,z.1.t.2.1,z.1.q.1⟩) (λx=>((x.t2,x.t3,x.t15,x.t16,x.t17,()),(()))))
def JR(p:AR):af (af AR):=
 bif J (p.t17<p.t2.length)then if 0<=p.t17/\p.t17<p.t2.length then if 0<=p.t17/\p.t17<p.t3.length then V (V (AR.mk p.t2 p.t3 (jI p.t15 p.t2[p.t17.toNat]!) (kH p.t16 p.t3[p.t17.toNat]!) (i64.wrap (p.t17+1))))else S else S else V (S)
def EA:=bK (JR)
abbrev asE:=Int×Int
def d271:Td 0 asE:= .c [] [8,9] (.r 0 0 (ec 8 aM (ec 9 aM en)) sn (λz=>(z.1.1,z.1.2.1)) (λx=>((x.1,x.2,()),(()))))
def alq:∀f∈([]:aa Nat),bw (aum) f:=aF
def aez(a0:aa aX)(a1:au)(a2:aa Int)(a3:aa Int):af asE:=
 bif J (a1.bC=0)then match bif J (a1.fN< -1048576)then V O else V (J (1048576<a1.fN))with|S=>S|V r1=>bif r1 then V (-1048577,1048577)else V (a1.fN,a1.fN)else bif J (a1.bC=24)then if 0<=a1.fN/\a1.fN<a0.length then if 0<=a1.fN/\a1.fN<a0.length then V (a0[a1.fN.toNat]!.ag,a0[a1.fN.toNat]!.ah)else S else S else bif J (a1.bC=6)then if(0:Int)<=(0:Int)/\(0:Int)<a3.length then if(0:Int)<=(0:Int)/\(0:Int)<a2.length then V ((i64.wrap (0-a3[0]!),i64.wrap (0-a2[0]!)))else S else S else bif J (a1.bC=8)then if(0:Int)<=(0:Int)/\(0:Int)<a2.length then if(0:Int)<=(1:Int)/\(1:Int)<a2.length then if(0:Int)<=(0:Int)/\(0:Int)<a3.length then if(0:Int)<=(1:Int)/\(1:Int)<a3.length then V ((i64.wrap (a2[0]! +a2[1]!),i64.wrap (a3[0]! +a3[1]!)))else S else S else S else S else bif J (a1.bC=9)then if(0:Int)<=(0:Int)/\(0:Int)<a2.length then if(0:Int)<=(1:Int)/\(1:Int)<a3.length then if(0:Int)<=(0:Int)/\(0:Int)<a3.length then if(0:Int)<=(1:Int)/\(1:Int)<a2.length then V ((i64.wrap (a2[0]! -a3[1]!),i64.wrap (a3[0]! -a2[1]!)))else S else S else S else S else bif J (a1.bC=10)then if(0:Int)<=(0:Int)/\(0:Int)<a2.length then if(0:Int)<=(1:Int)/\(1:Int)<a2.length then if(0:Int)<=(0:Int)/\(0:Int)<a2.length then if(0:Int)<=(1:Int)/\(1:Int)<a3.length then if(0:Int)<=(0:Int)/\(0:Int)<a3.length then if(0:Int)<=(1:Int)/\(1:Int)<a2.length then if(0:Int)<=(0:Int)/\(0:Int)<a3.length then if(0:Int)<=(1:Int)/\(1:Int)<a3.length then V ((jI (jI (i64.wrap (a2[0]! *a2[1]!)) (i64.wrap (a2[0]! *a3[1]!))) (jI (i64.wrap (a3[0]! *a2[1]!)) (i64.wrap (a3[0]! *a3[1]!))),kH (kH (i64.wrap (a2[0]! *a2[1]!)) (i64.wrap (a2[0]! *a3[1]!))) (kH (i64.wrap (a3[0]! *a2[1]!)) (i64.wrap (a3[0]! *a3[1]!)))))else S else S else S else S else S else S else S else S else bif J (a1.bC=11)then if(0:Int)<=(0:Int)/\(0:Int)<a2.length then if(0:Int)<=(0:Int)/\(0:Int)<a3.length then match if(0:Int)<=(0:Int)/\(0:Int)<a2.length then bif J (0<=a2[zC 0]!)then if(0:Int)<=(1:Int)/\(1:Int)<a2.length then V (J (0<=a2[zC 1]!))else S else V G else S with|S=>S|V r2=>bif r2 then V ((0,kH (Ay a2[0]!) (Ay a3[0]!)))else V ((i64.wrap (0-kH (Ay a2[0]!) (Ay a3[0]!)),kH (Ay a2[0]!) (Ay a3[0]!)))else S else S else bif J (a1.bC=12)then if(0:Int)<=(1:Int)/\(1:Int)<a2.length then if(0:Int)<=(1:Int)/\(1:Int)<a3.length then V (W0 a2[1]! a3[1]!)else S else S else bif J (a1.bC=21)then if(0:Int)<=(0:Int)/\(0:Int)<a2.length then if(0:Int)<=(1:Int)/\(1:Int)<a2.length then if(0:Int)<=(0:Int)/\(0:Int)<a3.length then if(0:Int)<=(1:Int)/\(1:Int)<a3.length then V (jI a2[0]! a2[1]!,jI a3[0]! a3[1]!)else S else S else S else S else bif J (a1.bC=22)then if(0:Int)<=(0:Int)/\(0:Int)<a2.length then if(0:Int)<=(1:Int)/\(1:Int)<a2.length then if(0:Int)<=(0:Int)/\(0:Int)<a3.length then if(0:Int)<=(1:Int)/\(1:Int)<a3.length then V (kH a2[0]! a2[1]!,kH a3[0]! a3[1]!)else S else S else S else S else bif J (a1.bC=23)then if(0:Int)<=(1:Int)/\(1:Int)<a2.length then if(0:Int)<=(1:Int)/\(1:Int)<a3.length then match EA (AR.mk a2 a3 a2[1]! a3[1]! (2))with|S=>S|V r3=>bif J (r3.t17<r3.t2.length)then if 0<=r3.t17/\r3.t17<r3.t2.length then if 0<=r3.t17/\r3.t17<r3.t3.length then S else S else S else V (r3.t15,r3.t16)else S else S else bif J (a1.bC=25)then if(0:Int)<=(1:Int)/\(1:Int)<a2.length then if(0:Int)<=(1:Int)/\(1:Int)<a3.length then match EA (AR.mk a2 a3 a2[1]! a3[1]! (2))with|S=>S|V r4=>bif J (r4.t17<r4.t2.length)then if 0<=r4.t17/\r4.t17<r4.t2.length then if 0<=r4.t17/\r4.t17<r4.t3.length then S else S else S else V (r4.t15,r4.t16)else S else S else V (0,1)
def azp:=eL w9 271 G (lc (ql 131) (lc (qg 137) (lc (ql 3) (lc (ql 3) ln)))) d271 (λg=>aez g.1 g.2.1 g.t.1 g.t.2.1)
def ajP:EO azp:=λh=>kL (F:=aum) (an:=(noTwo (.two (noTwo (noTwo (.two (.two (.two (.rb [] 29) .no) .no) (noTwo (noTwo (noTwo (noTwo (noTwo (noTwo (noTwo (noTwo (noTwo (noTwo (noTwo (.two (noTwo (.two (.two (.rb [] 154) .no) .no)) (noTwo (noTwo (noTwo (noTwo (noTwo (noTwo (noTwo (.two (noTwo (.two (noTwo (QN.lp EA .no)) .no)) .no))))))))))))))))))))))) .no))) (l:=[(.skip,(.rb [] 29)),(.skip,(.rb [] 154)),(bg f271 0,(QN.lp EA .no))]) func271 (agz (aic (Ka (Jw aP)))) (aA alq (aA alq (aA (aO QN) aF))) h
abbrev rT:=Int×Int×Bool
def d222:Td 0 rT:= .c [] [4,5,6] (.r 0 0 (ec 4 aM (ec 5 aM (ec 6 qb en))) sn (λz=>(z.1.1,z.1.2.1,z.1.t.1)) (λx=>((x.1,x.2.1,x.t,()),(()))))
def aq0:=(lc (ql 131) (lc (qg 137) ln))
def apA(M:(aa aX)->au->af rT):bf->bf:=eL w9 222 G aq0 d222 (λg=>M g.1 g.2.1)
def acO(M:(aa aX)->au->af rT):Prop:=HL w9 222 aq0 d222 (λg=>M g.1 g.2.1)
def S7{M:(aa aX)->au->af rT}(hM:acO M){F:bf}(h:aQ w9 F):aQ w9 (apA M F):=cT (sc:=jM) cv hM ⟨_,func222,by kernel_rfl,by kernel_rfl⟩ (λ_=>by kernel_rfl) (λ_=>by kernel_rfl) h
def anr(M222:(aa aX)->au->af rT):bf:=(azp (apA M222 de))
def aek{M222}(h222:acO M222):aQ w9 (anr M222):=(ajP (S7 h222 aP))
structure DR where
 t0:List aX
 (t7 t8:List Int)
 t9:Int
 b0:au
def NZ:Td 0 DR:= .c [] [0,3,7,8,9] (.r 0 3 (ec 0 (ql 131) (ec 3 (qp 0 0) (ec 7 (qo 1) (ec 8 (qo 2) (ec 9 aM en))))) (sb 0 137 (lg 137) (sr 1 3 (sr 2 3 sn))) (λz=>⟨z.1.1,z.t.1,z.t.2.1,z.1.q.1,z.2.1⟩) (λx=>((x.t0,(),(),(),x.t9,()),(x.b0,x.t7,x.t8,()))))
def DI(M222:(aa aX)->au->af rT)(p:DR):af (af DR):=
 bif J (p.t9<p.b0.aq.length)then if 0<=p.t9/\p.t9<p.b0.aq.length then match M222 p.t0 (au.mk p.b0.aq[p.t9.toNat]!.bC p.b0.aq[p.t9.toNat]!.fN p.b0.aq[p.t9.toNat]!.aq)with|S=>S|V r1=>bif bif r1.snd.snd then G else O then V (S)else if(p.t7++[r1.fst]).length<=1073741824 then if(p.t8++[r1.snd.fst]).length<=1073741824 then V (V (DR.mk p.t0 (p.t7++[r1.fst]) (p.t8++[r1.snd.fst]) (i64.wrap (p.t9+1)) (au.mk p.b0.bC p.b0.fN p.b0.aq)))else S else S else S else V (S)
def Ii(M222:(aa aX)->au->af rT):=bK (DI M222)
def al5(M222:(aa aX)->au->af rT):An:=(noTwo (noTwo (noTwo (.two (noTwo (NZ.lp (Ii M222) .no)) .no))))
def azk(M222:(aa aX)->au->af rT):cU w9 (anr M222) 0 300 222 (al5 M222):=bB (l:=[(bg f222 0,(NZ.lp (Ii M222) .no))]) func222 (aV (by kernel_rfl)) (by kernel_rfl) (aA (aO NZ) aF)
def aci(M222:(aa aX)->au->af rT)(a0:aa aX)(a1:au):af rT:=
 match Ii M222 (DR.mk a0 [] [] (0) (au.mk a1.bC a1.fN a1.aq))with|S=>S|V r2=>bif J (r2.t9<r2.b0.aq.length)then if 0<=r2.t9/\r2.t9<r2.b0.aq.length then match M222 r2.t0 (au.mk r2.b0.aq[r2.t9.toNat]!.bC r2.b0.aq[r2.t9.toNat]!.fN r2.b0.aq[r2.t9.toNat]!.aq)with|S=>S|V r3=>bif bif r3.snd.snd then G else O then V (0,0,G)else if(r2.t7++[r3.fst]).length<=1073741824 then if(r2.t8++[r3.snd.fst]).length<=1073741824 then S else S else S else S else match aez r2.t0 (au.mk r2.b0.bC r2.b0.fN r2.b0.aq) r2.t7 r2.t8 with|S=>S|V r4=>bif J (-1048576<=r4.fst)then V ((r4.fst,r4.snd,J (r4.snd<=1048576)))else V (r4.fst,r4.snd,G)
def aCC(M222:(aa aX)->au->af rT)(a0:aa aX)(a1:au):bM w9 (anr M222) 300 (al5 M222) 222 (aq0.c (a0,a1,())) [] 0 d222.rd=aci M222 a0 a1:=by kernel_rfl
def ak5:Nat->((aa aX)->au->af rT)
 |0=>(λ_ _=>S)
 |n+1=>(aci (ak5 n))
def Rb(n:Nat):(aa aX)->au->af rT:=(ak5 n)
def MB:∀n,acO (Rb n)
 |0=>λ_ _ h=>(by cases h)
 |n+1=>by
  have ih:=MB n;have i222:=ih;exact(cH (aek i222) (azk (Rb n)) (λ_=>by kernel_rfl) (λ_=>by kernel_rfl) λg=>aCC (Rb n) g.1 g.2.1)
def ack:(aa aX)->au->af rT:=λa0 a1=>lim (λn=>Rb n a0 a1)
def agw:acO ack:=λg b h=>by
 obtain⟨n,hn⟩:=dN (show lim (λn=>Rb n g.1 g.2.1)=V b from h);exact(MB n) g b hn
def aDf(F:bf):bf:=apA ack F
def aeN{F:bf}(h:aQ w9 F):aQ w9 (aDf F):=S7 agw h
abbrev aw8:=Int
def d142:Td 0 aw8:= .c [] [6] (.r 0 0 (ec 6 aM en) sn (λz=>z.1.1) (λx=>((x,()),(()))))
def IJ(a0:aa aX)(a1:au)(a2:Bool):af aw8:=
 match afH a0 (au.mk a1.bC a1.fN a1.aq) a2 with|S=>S|V r1=>bif bif r1 then G else O then V (1)else match ack a0 (au.mk a1.bC a1.fN a1.aq)with|S=>S|V r2=>bif bif r2.snd.snd then G else O then V (3)else V (0)
def agH:=eL w9 142 G (lc (ql 131) (lc (qg 137) (lc qb ln))) d142 (λg=>IJ g.1 g.2.1 g.t.1)
def Tq:EO agH:=λh=>kL (an:= .no) func142 (aeN (ajJ aP)) aF h
def Vv:EP agH:=λh=>kP h
def ann:bf:=de
abbrev aq7:=Bool
def d272:Td 0 aq7:= .c [] [2] (.r 0 0 (ec 2 qb en) sn (λz=>z.1.1) (λx=>((x,()),(()))))
def atm:=(lc (qg 137) ln)
def ajZ:An:=(noTwo (.two (.rb [] 2) .no))
def aye:∀f∈([]:aa Nat),bw (ann) f:=aF
def Mz(a0:au):aq7:=
 let r1:Bool:=bif J (a0.bC=0)then bif J (a0.fN=0)then J ((a0.aq.length:Int)=0)else G else G;r1
def aA2(a0:au):bM w9 (ann) 300 (ajZ) 272 (atm.c (a0,())) [] 0 d272.rd=V (Mz a0):=by
 refine Eq.trans (b:=(
  match bif J (a0.bC=0)then bif J (a0.fN=0)then V (J ((a0.aq.length:Int)=0))else V (G)else V (G)with|S=>S|V r1=>V (r1):af aq7)) (by kernel_rfl) ?_
 simp only[Mz,cM,dg]
def ary:=eL w9 272 G atm d272 (λg=>V (Mz g.1))
def ahw:EO ary:=λh=>kL (F:=ann) (an:=ajZ) (l:=[(.skip,(.rb [] 2))]) func272 aP (aA aye aF) h (c:=λg=>aA2 g.1)
def Gn:EP ary:=λh=>kP h
def avZ:bf:=de
structure C7 where
 t0:List Int
 t3:Int
def OO:Td 0 C7:= .c [] [0,3] (.r 0 0 (ec 0 (ql 3) (ec 3 aM en)) sn (λz=>⟨z.1.1,z.1.2.1⟩) (λx=>((x.t0,x.t3,()),(()))))
def JI(p:C7):af (af C7):=
 bif J (p.t3<p.t0.length)then if 0<=p.t3/\p.t3<p.t0.length then if 0<=i64.wrap (p.t3-1)/\i64.wrap (p.t3-1)<p.t0.length then bif J (((p.t0,p.t3,()),()).fst.fst[((p.t0,p.t3,()),()).fst.snd.fst.toNat]!<=((p.t0,p.t3,()),()).fst.fst[(i64.wrap (((p.t0,p.t3,()),()).fst.snd.fst-1)).toNat]!)then V (S)else V (V (C7.mk p.t0 (i64.wrap (p.t3+1))))else S else S else V (S)
def IG:=bK (JI)
abbrev aty:=Bool
def d273:Td 0 aty:= .c [] [2] (.r 0 0 (ec 2 qb en) sn (λz=>z.1.1) (λx=>((x,()),(()))))
def asF:∀f∈([]:aa Nat),bw (avZ) f:=aF
def ajs(a0:aa Int):af aty:=
 match bif J ((a0.length:Int)<1)then V O else bif J (32<(a0.length:Int))then V O else if(0:Int)<=(0:Int)/\(0:Int)<a0.length then V (J (a0[zC 0]! <0))else S with|S=>S|V r1=>bif r1 then V G else match IG (C7.mk a0 1)with|S=>S|V r2=>bif J (r2.t3<r2.t0.length)then if 0<=r2.t3/\r2.t3<r2.t0.length then if 0<=i64.wrap (r2.t3-1)/\i64.wrap (r2.t3-1)<r2.t0.length then bif J (((r2.t0,r2.t3,()),()).fst.fst[((r2.t0,r2.t3,()),()).fst.snd.fst.toNat]!<=((r2.t0,r2.t3,()),()).fst.fst[(i64.wrap (((r2.t0,r2.t3,()),()).fst.snd.fst-1)).toNat]!)then V G else S else S else S else V O
def aqF:=eL w9 273 G (lc (ql 3) ln) d273 (λg=>ajs g.1)
def ahC:EO aqF:=λh=>kL (F:=avZ) (an:=(noTwo (.two (.two (.rb [] 17) .no) (.two (noTwo (OO.lp IG .no)) .no)))) (l:=[(.skip,(.rb [] 17)),(bg f273 0,(OO.lp IG .no))]) func273 aP (aA asF (aA (aO OO) aF)) h
def G5:EP aqF:=λh=>kP h
def azQ:bf:=(aqF (ary de))
abbrev ayS:=Bool
def d223:Td 0 ayS:= .c [] [6] (.r 0 0 (ec 6 qb en) sn (λz=>z.1.1) (λx=>((x,()),(()))))
def u9:∀f∈([272,273]:aa Nat),bw (azQ) f:=(aA (G5 (Gn bS)) (aA (G5 (Gn bS)) aF))
def QL(a0:aN)(a1:ay)(a2:Bool):af ayS:=
 match bif J ((a1.aL.length:Int)=0)then V (J ((a1.aR.length:Int)=0))else V G with|S=>S|V r1=>match bif J (0<=a1.dD)then bif J (a1.dD<a0.aj.length)then if 0<=a1.dD/\a1.dD<a0.aj.length then V (J (a0.aj[a1.dD.toNat]!.bz=0))else S else V G else V G with|S=>S|V r2=>bif J (a1.b9=0)then match bif r1 then bif r2 then bif J (a1.fN=0)then V (J ((a1.aJ.length:Int)=0))else V G else V G else V G with|S=>S|V r3=>V (r3)else bif J (a1.b9=1)then match bif r1 then bif J (a1.dD=0)then bif J (a1.fN=0)then V (J ((a1.aJ.length:Int)=0))else V G else V G else V G with|S=>S|V r4=>V (r4)else bif J (a1.b9=2)then match bif r1 then bif J (a1.dD=0)then bif J (a1.fN=0)then bif J ((a1.aJ.length:Int)=0)then V (Mz (au.mk a1.az.bC a1.az.fN a1.az.aq))else V G else V G else V G else V G with|S=>S|V r5=>V (r5)else bif J (a1.b9=3)then match bif J (a1.dD=0)then bif J (a1.fN=0)then V (J ((a1.aJ.length:Int)=0))else V G else V G with|S=>S|V r6=>V (r6)else bif J (a1.b9=4)then match bif J (a1.dD=0)then bif J ((a1.aR.length:Int)=0)then V (J ((a1.aJ.length:Int)=0))else V G else V G with|S=>S|V r7=>V (r7)else bif J (a1.b9=5)then match bif r1 then bif r2 then bif J (0<=a1.fN)then bif J (a1.fN<a0.ak.length)then bif J ((a1.aJ.length:Int)=0)then V (Mz (au.mk a1.az.bC a1.az.fN a1.az.aq))else V G else V G else V G else V G else V G with|S=>S|V r8=>V (r8)else bif J (a1.b9=6)then match bif r1 then bif a2 then bif J (a1.dD=0)then bif J (a1.fN=0)then bif Mz (au.mk a1.az.bC a1.az.fN a1.az.aq)then match ajs a1.aJ with|S=>S|V r9=>V (r9)else V G else V G else V G else V G else V G with|S=>S|V r10=>V (r10)else V G
def ar5:=eL w9 223 G (lc (qg 26) (lc (qg 166) (lc qb ln))) d223 (λg=>QL g.1 g.2.1 g.t.1)
def aix:EO ar5:=λh=>kL (F:=azQ) (an:=(noTwo (.two (.rb [272,273] 7) (.two (.rb [272,273] 8) (.two (noTwo (noTwo (.two (.two (.rb [272,273] 6) .no) (noTwo (.two (.two (.rb [272,273] 6) .no) (noTwo (.two (.two (.rb [272,273] 6) .no) (noTwo (.two (.two (.rb [272,273] 6) .no) (noTwo (.two (.two (.rb [272,273] 6) .no) (noTwo (.two (.two (.rb [272,273] 6) .no) (noTwo (.two (.two (.rb [272,273] 6) .no) .no))))))))))))))) .no))))) (l:=[(.skip,(.rb [272,273] 7)),(.skip,(.rb [272,273] 8)),(.skip,(.rb [272,273] 6)),(.skip,(.rb [272,273] 6)),(.skip,(.rb [272,273] 6)),(.skip,(.rb [272,273] 6)),(.skip,(.rb [272,273] 6)),(.skip,(.rb [272,273] 6)),(.skip,(.rb [272,273] 6))]) func223 (ahC (ahw aP)) (aA u9 (aA u9 (aA u9 (aA u9 (aA u9 (aA u9 (aA u9 (aA u9 (aA u9 aF))))))))) h
def UF:EP ar5:=λh=>kP h
abbrev nM:=Int
def d143:Td 0 nM:= .c [] [6] (.r 0 0 (ec 6 aM en) sn (λz=>z.1.1) (λx=>((x,()),(()))))
def aod:=(lc (qg 26) (lc (ql 166) (lc qb ln)))
def ahD(M:aN->(aa ay)->Bool->af nM):bf->bf:=eL w9 143 G aod d143 (λg=>M g.1 g.2.1 g.2.2.1)
def Wg{M:aN->(aa ay)->Bool->af nM}{F:bf}{f:Nat}(h:bw F f):bw (ahD M F) f:=eS h (λ_=>by kernel_rfl)
def afX(M:aN->(aa ay)->Bool->af nM):Prop:=HL w9 143 aod d143 (λg=>M g.1 g.2.1 g.2.2.1)
def Si{M:aN->(aa ay)->Bool->af nM}(hM:afX M){F:bf}(h:aQ w9 F):aQ w9 (ahD M F):=cT (sc:=jM) cv hM ⟨_,func143,by kernel_rfl,by kernel_rfl⟩ (λ_=>by kernel_rfl) (λ_=>by kernel_rfl) h
def afL(M143:aN->(aa ay)->Bool->af nM):bf:=(ar5 (ahD M143 (agH de)))
def agT{M143}(h143:afX M143):aQ w9 (afL M143):=(aix (Si h143 (Tq aP)))
structure AU where
 t1:List ay
 t2:Bool
 t7:Int
 b0:aN
def N7:Td 0 AU:= .c [] [1,2,3,7] (.r 0 1 (ec 1 (ql 166) (ec 2 qb (ec 3 (qp 0 0) (ec 7 aM en)))) (sb 0 26 (lg 26) sn) (λz=>⟨z.1.1,z.1.2.1,z.1.t.2.1,z.2.1⟩) (λx=>((x.t1,x.t2,(),x.t7,()),(x.b0,()))))
def vL(M143:aN->(aa ay)->Bool->af nM)(p:AU):af (af AU):=
 bif J (p.t7<p.t1.length)then if 0<=p.t7/\p.t7<p.t1.length then match bif p.t2 then match QL p.b0 (ay.mk p.t1[p.t7.toNat]!.b9 p.t1[p.t7.toNat]!.bq p.t1[p.t7.toNat]!.dD p.t1[p.t7.toNat]!.fN (au.mk p.t1[p.t7.toNat]!.az.bC p.t1[p.t7.toNat]!.az.fN p.t1[p.t7.toNat]!.az.aq) p.t1[p.t7.toNat]!.aL p.t1[p.t7.toNat]!.aR p.t1[p.t7.toNat]!.aJ) (J (((p.t1,p.t2,(),p.t7,()),p.b0,()).fst.snd.snd.snd.fst=i64.wrap ((↑((p.t1,p.t2,(),p.t7,()),p.b0,()).fst.fst.length:Int)-1)))with|S=>S|V r1=>V (bif r1 then G else O)else match QL p.b0 (ay.mk p.t1[p.t7.toNat]!.b9 p.t1[p.t7.toNat]!.bq p.t1[p.t7.toNat]!.dD p.t1[p.t7.toNat]!.fN (au.mk p.t1[p.t7.toNat]!.az.bC p.t1[p.t7.toNat]!.az.fN p.t1[p.t7.toNat]!.az.aq) p.t1[p.t7.toNat]!.aL p.t1[p.t7.toNat]!.aR p.t1[p.t7.toNat]!.aJ) G with|S=>S|V r2=>V (bif r2 then G else O)with|S=>S|V r3=>bif r3 then V (S)else bif J (p.t1[p.t7.toNat]!.b9=2)then match bif J (p.t1[p.t7.toNat]!.bq<0)then V O else bif J (67108864<p.t1[p.t7.toNat]!.bq)then V O else bif J (p.t1[p.t7.toNat]!.fN<0)then V O else bif J (p.t1[p.t7.toNat]!.b9=4)then V (J (4096<p.t1[p.t7.toNat]!.fN))else V G with|S=>S|V r4=>bif r4 then V (S)else match bif J (0<(↑p.t1[p.t7.toNat]!.aJ.length:Int))then if 0<=i64.wrap ((↑p.t1[p.t7.toNat]!.aJ.length:Int)-(1:Int))/\i64.wrap ((↑p.t1[p.t7.toNat]!.aJ.length:Int)-(1:Int))<(↑p.t1[p.t7.toNat]!.aJ.length:Int)then V (J (67108864<((p.t1,p.t2,(),p.t7,()),p.b0,()).fst.fst[((p.t1,p.t2,(),p.t7,()),p.b0,()).fst.snd.snd.snd.fst.toNat]!.aJ[(i64.wrap ((↑((p.t1,p.t2,(),p.t7,()),p.b0,()).fst.fst[((p.t1,p.t2,(),p.t7,()),p.b0,()).fst.snd.snd.snd.fst.toNat]!.aJ.length:Int)-1)).toNat]!))else S else V G with|S=>S|V r5=>bif r5 then V (S)else match IJ p.b0.aj (au.mk p.t1[p.t7.toNat]!.az.bC p.t1[p.t7.toNat]!.az.fN p.t1[p.t7.toNat]!.az.aq) G with|S=>S|V r6=>bif bif J (r6=0)then G else O then V (S)else match M143 p.b0 p.t1[p.t7.toNat]!.aL G with|S=>S|V r7=>bif bif J (r7=0)then G else O then V (S)else match M143 p.b0 p.t1[p.t7.toNat]!.aR G with|S=>S|V r8=>bif bif J (r8=0)then G else O then V (S)else V (V (AU.mk p.t1 p.t2 (i64.wrap (p.t7+1)) p.b0))else match bif J (p.t1[p.t7.toNat]!.bq<0)then V O else bif J (10000<p.t1[p.t7.toNat]!.bq)then V O else bif J (p.t1[p.t7.toNat]!.fN<0)then V O else bif J (p.t1[p.t7.toNat]!.b9=4)then V (J (4096<p.t1[p.t7.toNat]!.fN))else V G with|S=>S|V r9=>bif r9 then V (S)else match bif J (0<(↑p.t1[p.t7.toNat]!.aJ.length:Int))then if 0<=i64.wrap ((↑p.t1[p.t7.toNat]!.aJ.length:Int)-(1:Int))/\i64.wrap ((↑p.t1[p.t7.toNat]!.aJ.length:Int)-(1:Int))<(↑p.t1[p.t7.toNat]!.aJ.length:Int)then V (J (67108864<((p.t1,p.t2,(),p.t7,()),p.b0,()).fst.fst[((p.t1,p.t2,(),p.t7,()),p.b0,()).fst.snd.snd.snd.fst.toNat]!.aJ[(i64.wrap ((↑((p.t1,p.t2,(),p.t7,()),p.b0,()).fst.fst[((p.t1,p.t2,(),p.t7,()),p.b0,()).fst.snd.snd.snd.fst.toNat]!.aJ.length:Int)-1)).toNat]!))else S else V G with|S=>S|V r10=>bif r10 then V (S)else match IJ p.b0.aj (au.mk p.t1[p.t7.toNat]!.az.bC p.t1[p.t7.toNat]!.az.fN p.t1[p.t7.toNat]!.az.aq) G with|S=>S|V r11=>bif bif J (r11=0)then G else O then V (S)else match M143 p.b0 p.t1[p.t7.toNat]!.aL G with|S=>S|V r12=>bif bif J (r12=0)then G else O then V (S)else match M143 p.b0 p.t1[p.t7.toNat]!.aR G with|S=>S|V r13=>bif bif J (r13=0)then G else O then V (S)else V (V (AU.mk p.t1 p.t2 (i64.wrap (p.t7+1)) p.b0))else S else V (S)
def WW(M143:aN->(aa ay)->Bool->af nM):An:=(noTwo (.two (noTwo (.two (.two (.rb [223] 32) .no) (noTwo (noTwo (.two (.two (.rb [223] 59) .no) (.two (.two (.rb [223] 74) .no) .no)))))) .no))
def Jq(M143:aN->(aa ay)->Bool->af nM):=bK (vL M143)
def ama(M143:aN->(aa ay)->Bool->af nM):An:=(noTwo (.two (noTwo (N7.lp (Jq M143) (WW M143))) .no))
def W9{M143}:∀f∈([223]:aa Nat),bw (afL M143) f:=(aA (UF (Wg (Vv bS))) aF)
def azz(M143:aN->(aa ay)->Bool->af nM):cU w9 (afL M143) 0 300 143 (ama M143):=bB (l:=[(bg f143 0,(N7.lp (Jq M143) (WW M143))),(.skip,(.rb [223] 32)),(.skip,(.rb [223] 59)),(.skip,(.rb [223] 74))]) func143 (aV (by kernel_rfl)) (by kernel_rfl) (aA (aO N7) (aA W9 (aA W9 (aA W9 aF))))
def ai8(M143:aN->(aa ay)->Bool->af nM)(a0:aN)(a1:aa ay)(a2:Bool):af nM:=
 match Jq M143 (AU.mk a1 a2 0 a0)with|S=>S|V r14=>bif J (r14.t7<r14.t1.length)then if 0<=r14.t7/\r14.t7<r14.t1.length then match bif r14.t2 then match QL r14.b0 (ay.mk r14.t1[r14.t7.toNat]!.b9 r14.t1[r14.t7.toNat]!.bq r14.t1[r14.t7.toNat]!.dD r14.t1[r14.t7.toNat]!.fN (au.mk r14.t1[r14.t7.toNat]!.az.bC r14.t1[r14.t7.toNat]!.az.fN r14.t1[r14.t7.toNat]!.az.aq) r14.t1[r14.t7.toNat]!.aL r14.t1[r14.t7.toNat]!.aR r14.t1[r14.t7.toNat]!.aJ) (J (((r14.t1,r14.t2,(),r14.t7,()),r14.b0,()).fst.snd.snd.snd.fst=i64.wrap ((↑((r14.t1,r14.t2,(),r14.t7,()),r14.b0,()).fst.fst.length:Int)-1)))with|S=>S|V r15=>V (bif r15 then G else O)else match QL r14.b0 (ay.mk r14.t1[r14.t7.toNat]!.b9 r14.t1[r14.t7.toNat]!.bq r14.t1[r14.t7.toNat]!.dD r14.t1[r14.t7.toNat]!.fN (au.mk r14.t1[r14.t7.toNat]!.az.bC r14.t1[r14.t7.toNat]!.az.fN r14.t1[r14.t7.toNat]!.az.aq) r14.t1[r14.t7.toNat]!.aL r14.t1[r14.t7.toNat]!.aR r14.t1[r14.t7.toNat]!.aJ) G with|S=>S|V r16=>V (bif r16 then G else O)with|S=>S|V r17=>bif r17 then V 1 else bif J (r14.t1[r14.t7.toNat]!.b9=2)then match bif J (r14.t1[r14.t7.toNat]!.bq<0)then V O else bif J (67108864<r14.t1[r14.t7.toNat]!.bq)then V O else bif J (r14.t1[r14.t7.toNat]!.fN<0)then V O else bif J (r14.t1[r14.t7.toNat]!.b9=4)then V (J (4096<r14.t1[r14.t7.toNat]!.fN))else V G with|S=>S|V r18=>bif r18 then V 3 else match bif J (0<(↑r14.t1[r14.t7.toNat]!.aJ.length:Int))then if 0<=i64.wrap ((↑r14.t1[r14.t7.toNat]!.aJ.length:Int)-(1:Int))/\i64.wrap ((↑r14.t1[r14.t7.toNat]!.aJ.length:Int)-(1:Int))<(↑r14.t1[r14.t7.toNat]!.aJ.length:Int)then V (J (67108864<((r14.t1,r14.t2,(),r14.t7,()),r14.b0,()).fst.fst[((r14.t1,r14.t2,(),r14.t7,()),r14.b0,()).fst.snd.snd.snd.fst.toNat]!.aJ[(i64.wrap ((↑((r14.t1,r14.t2,(),r14.t7,()),r14.b0,()).fst.fst[((r14.t1,r14.t2,(),r14.t7,()),r14.b0,()).fst.snd.snd.snd.fst.toNat]!.aJ.length:Int)-1)).toNat]!))else S else V G with|S=>S|V r19=>bif r19 then V 3 else match IJ r14.b0.aj (au.mk r14.t1[r14.t7.toNat]!.az.bC r14.t1[r14.t7.toNat]!.az.fN r14.t1[r14.t7.toNat]!.az.aq) G with|S=>S|V r20=>bif bif J (r20=0)then G else O then V (r20)else match M143 r14.b0 r14.t1[r14.t7.toNat]!.aL G with|S=>S|V r21=>bif bif J (r21=0)then G else O then V (r21)else match M143 r14.b0 r14.t1[r14.t7.toNat]!.aR G with|S=>S|V r22=>bif bif J (r22=0)then G else O then V (r22)else S else match bif J (r14.t1[r14.t7.toNat]!.bq<0)then V O else bif J (10000<r14.t1[r14.t7.toNat]!.bq)then V O else bif J (r14.t1[r14.t7.toNat]!.fN<0)then V O else bif J (r14.t1[r14.t7.toNat]!.b9=4)then V (J (4096<r14.t1[r14.t7.toNat]!.fN))else V G with|S=>S|V r23=>bif r23 then V 3 else match bif J (0<(↑r14.t1[r14.t7.toNat]!.aJ.length:Int))then if 0<=i64.wrap ((↑r14.t1[r14.t7.toNat]!.aJ.length:Int)-(1:Int))/\i64.wrap ((↑r14.t1[r14.t7.toNat]!.aJ.length:Int)-(1:Int))<(↑r14.t1[r14.t7.toNat]!.aJ.length:Int)then V (J (67108864<((r14.t1,r14.t2,(),r14.t7,()),r14.b0,()).fst.fst[((r14.t1,r14.t2,(),r14.t7,()),r14.b0,()).fst.snd.snd.snd.fst.toNat]!.aJ[(i64.wrap ((↑((r14.t1,r14.t2,(),r14.t7,()),r14.b0,()).fst.fst[((r14.t1,r14.t2,(),r14.t7,()),r14.b0,()).fst.snd.snd.snd.fst.toNat]!.aJ.length:Int)-1)).toNat]!))else S else V G with|S=>S|V r24=>bif r24 then V 3 else match IJ r14.b0.aj (au.mk r14.t1[r14.t7.toNat]!.az.bC r14.t1[r14.t7.toNat]!.az.fN r14.t1[r14.t7.toNat]!.az.aq) G with|S=>S|V r25=>bif bif J (r25=0)then G else O then V (r25)else match M143 r14.b0 r14.t1[r14.t7.toNat]!.aL G with|S=>S|V r26=>bif bif J (r26=0)then G else O then V (r26)else match M143 r14.b0 r14.t1[r14.t7.toNat]!.aR G with|S=>S|V r27=>bif bif J (r27=0)then G else O then V (r27)else S else S else V 0
def aEn(M143:aN->(aa ay)->Bool->af nM)(a0:aN)(a1:aa ay)(a2:Bool):bM w9 (afL M143) 300 (ama M143) 143 (aod.c (a0,a1,a2,())) [] 0 d143.rd=ai8 M143 a0 a1 a2:=by kernel_rfl
def amb:Nat->(aN->(aa ay)->Bool->af nM)
 |0=>(λ_ _ _=>S)
 |n+1=>(ai8 (amb n))
def PF(n:Nat):aN->(aa ay)->Bool->af nM:=(amb n)
def K6:∀n,afX (PF n)
 |0=>λ_ _ h=>(by cases h)
 |n+1=>by
  have ih:=K6 n;have i143:=ih;exact(cH (agT i143) (azz (PF n)) (λ_=>by kernel_rfl) (λ_=>by kernel_rfl) λg=>aEn (PF n) g.1 g.2.1 g.2.2.1)
def aes:aN->(aa ay)->Bool->af nM:=λa0 a1 a2=>lim (λn=>PF n a0 a1 a2)
def aiG:afX aes:=λg b h=>by
 obtain⟨n,hn⟩:=dN (show lim (λn=>PF n g.1 g.2.1 g.2.2.1)=V b from h);exact(K6 n) g b hn
def awN(F:bf):bf:=ahD aes F
def ade{F:bf}(h:aQ w9 F):aQ w9 (awN F):=Si aiG h
def F78:bf:=(awN (agH (ai9 (afW (azL (aud (e90 de)))))))
structure Gt where
 (t4 t6:Int)
 b0:aN
 b1:dx
def WY:Td 0 Gt:= .c [] [1,4,5,6] (.r 0 2 (ec 1 (qp 0 0) (ec 4 aM (ec 5 (qp 1 0) (ec 6 aM en)))) (sb 0 26 (lg 26) (sb 1 139 (lg 139) sn)) (λz=>⟨z.1.2.1,z.1.t.2.1,z.2.1,z.t.1⟩) (λx=>(((),x.t4,(),x.t6,()),(x.b0,x.b1,()))))
def Te(p:Gt):af (af Gt):=
 bif J (p.t6<p.t4)then if 0<=p.t6/\p.t6<p.b0.ak.length then bif p.b0.ak[p.t6.toNat]!.fName.toList==p.b1.fName.toList then V (S)else V (V (Gt.mk p.t4 (i64.wrap (p.t6+1)) p.b0 (dx.mk p.b1.fName p.b1.ag p.b1.ah (au.mk p.b1.az.bC p.b1.az.fN p.b1.az.aq))))else S else V (S)
def Mc:=bK (Te)
structure Nv where
 t4:Int
 b0:aN
def YS:Td 0 Nv:= .c [] [1,4] (.r 0 1 (ec 1 (qp 0 0) (ec 4 aM en)) (sb 0 26 (lg 26) sn) (λz=>⟨z.1.2.1,z.2.1⟩) (λx=>(((),x.t4,()),(x.b0,()))))
def Hf(p:Nv):af (af Nv):=
 bif J (p.t4<p.b0.ak.length)then if 0<=p.t4/\p.t4<p.b0.ak.length then match PV p.b0.ak[p.t4.toNat]!.fName with|S=>S|V r1=>bif bif r1 then G else O then V (S)else match Mc (Gt.mk p.t4 0 p.b0 (dx.mk p.b0.ak[p.t4.toNat]!.fName p.b0.ak[p.t4.toNat]!.ag p.b0.ak[p.t4.toNat]!.ah (au.mk p.b0.ak[p.t4.toNat]!.az.bC p.b0.ak[p.t4.toNat]!.az.fN p.b0.ak[p.t4.toNat]!.az.aq)))with|S=>S|V r2=>bif J (r2.t6<r2.t4)then if 0<=r2.t6/\r2.t6<r2.b0.ak.length then bif r2.b0.ak[r2.t6.toNat]!.fName.toList==r2.b1.fName.toList then V (S)else S else S else bif bif Hq r2.b1.ag r2.b1.ah then G else O then V (S)else match IJ r2.b0.aj (au.mk r2.b1.az.bC r2.b1.az.fN r2.b1.az.aq) O with|S=>S|V r3=>bif bif J (r3=0)then G else O then V (S)else V (V (Nv.mk (i64.wrap (r2.t4+1)) r2.b0))else S else V (S)
def alB:An:=(noTwo (.two (noTwo (noTwo (.two (noTwo (WY.lp Mc .no)) .no))) .no))
def S6:=bK (Hf)
abbrev E78:=Int
def d78:Td 0 E78:= .c [] [2] (.r 0 0 (ec 2 aM en) sn (λz=>z.1.1) (λx=>((x,()),(()))))
def aB3:∀f∈([]:aa Nat),bw (F78) f:=aF
def m78(a0:aN):af E78:=
 match agv a0 with|S=>S|V r4=>bif bif r4 then G else O then V 4 else match ab0 a0.aj with|S=>S|V r5=>bif bif J (r5=0)then G else O then V (r5)else match S6 (Nv.mk 0 a0)with|S=>S|V r6=>bif J (r6.t4<r6.b0.ak.length)then if 0<=r6.t4/\r6.t4<r6.b0.ak.length then match PV r6.b0.ak[r6.t4.toNat]!.fName with|S=>S|V r7=>bif bif r7 then G else O then V 7 else match Mc (Gt.mk r6.t4 0 r6.b0 (dx.mk r6.b0.ak[r6.t4.toNat]!.fName r6.b0.ak[r6.t4.toNat]!.ag r6.b0.ak[r6.t4.toNat]!.ah (au.mk r6.b0.ak[r6.t4.toNat]!.az.bC r6.b0.ak[r6.t4.toNat]!.az.fN r6.b0.ak[r6.t4.toNat]!.az.aq)))with|S=>S|V r8=>bif J (r8.t6<r8.t4)then if 0<=r8.t6/\r8.t6<r8.b0.ak.length then bif r8.b0.ak[r8.t6.toNat]!.fName.toList==r8.b1.fName.toList then V 8 else S else S else bif bif Hq r8.b1.ag r8.b1.ah then G else O then V 3 else match IJ r8.b0.aj (au.mk r8.b1.az.bC r8.b1.az.fN r8.b1.az.aq) O with|S=>S|V r9=>bif bif J (r9=0)then G else O then V (r9)else S else S else match aes r6.b0 r6.b0.bH O with|S=>S|V r10=>bif bif J (r10=0)then G else O then V (r10)else match r90 r6.b0.bH with|S=>S|V r11=>match bif J (4096<r11.fst)then V O else bif J (8<r11.snd.fst)then V O else V (J (67108864<r11.snd.snd))with|S=>S|V r12=>bif r12 then V 4 else V 0
def e78:=eL w9 78 G (lc (qg 26) ln) d78 (λg=>m78 g.1)
def aaa:EO e78:=λh=>kL (F:=F78) (an:=(noTwo (noTwo (noTwo (noTwo (.two (noTwo (YS.lp S6 alB)) (noTwo (noTwo (noTwo (.two (.two (.rb [] 86) .no) .no)))))))))) (l:=[(bg f78 0,(YS.lp S6 alB)),(bg f78 1,(WY.lp Mc .no)),(.skip,(.rb [] 86))]) func78 (ade (Tq (Un (Uf (aiB (afr (WS aP))))))) (aA (aO YS) (aA (aO WY) (aA aB3 aF))) h
def uJ:EP e78:=λh=>kP h
def atZ:bf:=de
abbrev awj:=aH
def d103:Td 0 awj:= .c [] [0] (.r 0 1 (ec 0 (qp 0 0) en) (sb 0 34 (lg 34) sn) (λz=>z.2.1) (λx=>(((),()),(x,()))))
def ayR:=ln
def amp:An:= .no
def rQ:awj:=
 aH.mk (1) (0) (0)
def aDS:bM w9 (atZ) 300 (amp) 103 (ayR.c ()) [] 0 d103.rd=V (rQ):=by kernel_rfl
def afZ:=eL w9 103 G ayR d103 (λ_=>V (rQ))
def RW:EO afZ:=λh=>kL (F:=atZ) (an:=amp) func103 aP aF h (c:=λ_=>aDS)
def GQ:EP afZ:=λh=>kP h
def are:bf:=de
abbrev apL:=Bool
def d162:Td 0 apL:= .c [] [2] (.r 0 0 (ec 2 qb en) sn (λz=>z.1.1) (λx=>((x,()),(()))))
def axG:=(bk ln)
def akE:An:=(noTwo (.two (.rb [] 2) .no))
def asW:∀f∈([]:aa Nat),bw (are) f:=aF
def nO(a0:Int):apL:=
 let r1:Bool:=bif J (-1099511627776<=a0)then J (a0<=1099511627776)else G;r1
def aBy(a0:Int):bM w9 (are) 300 (akE) 162 (axG.c (a0,())) [] 0 d162.rd=V (nO a0):=by
 refine Eq.trans (b:=(
  match bif J (-1099511627776<=a0)then V (J (a0<=1099511627776))else V (G)with|S=>S|V r1=>V (r1):af apL)) (by kernel_rfl) ?_
 simp only[nO,cM,dg]
def ai5:=eL w9 162 G axG d162 (λg=>V (nO g.1))
def SJ:EO ai5:=λh=>kL (F:=are) (an:=akE) (l:=[(.skip,(.rb [] 2))]) func162 aP (aA asW aF) h (c:=λg=>aBy g.1)
def GA:EP ai5:=λh=>kP h
def F84:bf:=(ai5 (afZ de))
abbrev E84:=Bool
def d84:Td 0 E84:= .c [] [2] (.r 0 0 (ec 2 qb en) sn (λz=>z.1.1) (λx=>((x,()),(()))))
def ax1:∀f∈([162]:aa Nat),bw (F84) f:=(aA (GA (GQ bS)) aF)
def Wr(a0:aH):af E84:=
 bif bif J (a0.ag=rQ.ag)then bif J (a0.ah=rQ.ah)then bif J (a0.ai=rQ.ai)then O else G else G else G then V O else match bif bif nO a0.ag then G else O then V O else V (bif nO a0.ah then G else O)with|S=>S|V r1=>bif r1 then V G else bif J (a0.ag=a0.ah)then V (J (a0.ai=0))else match bif J (a0.ag<a0.ah)then bif J (1<=a0.ai)then if¬a0.ai=0then V (J ((i64.wrap (a0.ah-a0.ag)).tmod a0.ai=0))else S else V G else V G with|S=>S|V r2=>V (r2)
def e84:=eL w9 84 G (lc (qg 34) ln) d84 (λg=>Wr g.1)
def aa8:EO e84:=λh=>kL (F:=F84) (an:=(noTwo (noTwo (.two (.two (.rb [162] 15) .no) (noTwo (.two (.rb [162] 2) .no)))))) (l:=[(.skip,(.rb [162] 15)),(.skip,(.rb [162] 2))]) func84 (SJ (RW aP)) (aA ax1 (aA ax1 aF)) h
def uI:EP e84:=λh=>kP h
abbrev E32:=Bool
def m32(a0:aH)(a1:Int):af E32:=
 match match Wr a0 with|S=>S|V r1=>bif bif r1 then G else O then V O else bif J (a1<a0.ag)then V O else V (J (a0.ah<a1))with|S=>S|V r2=>bif r2 then V G else match bif J (a0.ai=0)then V O else if¬a0.ai=0then V (J ((i64.wrap (a1-a0.ag)).tmod a0.ai=0))else S with|S=>S|V r3=>V (r3)
abbrev E36:=aH
def m36(a0:Int):E36:=
 aH.mk a0 a0 (0)
def axl:bf:=(ai5 (afZ de))
abbrev awJ:=aH×Int
def d101:Td 0 awJ:= .c [] [6,7] (.r 0 1 (ec 6 (qp 0 0) (ec 7 aM en)) (sb 0 34 (lg 34) sn) (λz=>(z.2.1,z.1.2.1)) (λx=>(((),x.2,()),(x.1,()))))
def au0:∀f∈([162]:aa Nat),bw (axl) f:=(aA (GA (GQ bS)) aF)
def iX(a0:Int)(a1:Int)(a2:Int):af awJ:=
 match bif bif nO a0 then G else O then V O else bif bif nO a1 then G else O then V O else V (J (a2<1))with|S=>S|V r1=>bif r1 then V (aH.mk 0 0 0,3)else bif J (a1<a0)then V (rQ,0)else if¬a2=0then bif J (a0=i64.wrap (a0+i64.wrap (i64.wrap ((i64.wrap (a1-a0)).tdiv a2)*a2)))then V ((aH.mk a0 (i64.wrap (a0+i64.wrap (i64.wrap ((i64.wrap (a1-a0)).tdiv a2)*a2))) 0,0))else V ((aH.mk a0 (i64.wrap (a0+i64.wrap (i64.wrap ((i64.wrap (a1-a0)).tdiv a2)*a2))) a2,0))else S
def ayw:=eL w9 101 G (bk (bk (bk ln))) d101 (λg=>iX g.1 g.2.1 g.t.1)
def ae3:EO ayw:=λh=>kL (F:=axl) (an:=(noTwo (.two (.two (.rb [162] 19) .no) .no))) (l:=[(.skip,(.rb [162] 19))]) func101 (SJ (RW aP)) (aA au0 aF) h
abbrev az0:=Bool
def d102:Td 0 az0:= .c [] [2] (.r 0 0 (ec 2 qb en) sn (λz=>z.1.1) (λx=>((x,()),(()))))
def lJ(a0:aH):az0:=
 J (a0.ah<a0.ag)
def aoh:=eL w9 102 G (lc (qg 34) ln) d102 (λg=>V (lJ g.1))
def aiD:EO aoh:=λh=>kL (an:= .no) func102 aP aF h
def Gq:EP aoh:=λh=>kP h
abbrev E41:=aH
def m41(a0:aH)(a1:Int):af E41:=
 match bif lJ a0 then V (O)else V (J (a1<a0.ag))with|S=>S|V r1=>bif r1 then V (rQ)else bif J (a0.ah<=a1)then V (a0)else match iX a0.ag a1 a0.ai with|S=>S|V r2=>V (r2.fst)
abbrev E42:=aH
def m42(a0:aH)(a1:Int):af E42:=
 match bif lJ a0 then V O else V (J (a0.ah<=a1))with|S=>S|V r1=>bif r1 then V (rQ)else bif J (a1<a0.ag)then V (a0)else if¬a0.ai=0then match iX (i64.wrap (a0.ag+i64.wrap (i64.wrap (i64.wrap ((i64.wrap (a1-a0.ag)).tdiv a0.ai)+1)*a0.ai))) a0.ah a0.ai with|S=>S|V r2=>V (r2.fst)else S
structure pE where
 (t0 t1:Int)
def sY(p:pE):af (af pE):=
 bif bif J (p.t1=0)then G else O then if¬p.t1=0then V (V (pE.mk p.t1 (p.t0.tmod p.t1)))else S else V (S)
def Qc:=bK (sY)
abbrev aD8:=Int
def Er(a0:Int)(a1:Int):af aD8:=
 match Qc (pE.mk a0 a1)with|S=>S|V r1=>bif bif J (r1.t1=0)then G else O then if¬r1.t1=0then S else S else V (r1.t0)
abbrev aBp:=Int
def jS(a0:Int)(a1:Int):aBp:=
 bif J (a0<a1)then i64.wrap (a1-a0)else i64.wrap (a0-a1)
structure j7 where
 t0:List Int
 t6:Int
 (b0 b1:aH)
def sW(p:j7):af (af j7):=
 bif J (p.t6<p.t0.length)then if 0<=p.t6/\p.t6<p.t0.length then if(0:Int)<=(0:Int)/\(0:Int)<p.t0.length then match Er p.b1.ai (jS p.t0[p.t6.toNat]! p.t0[0]!)with|S=>S|V r1=>if 0<=p.t6/\p.t6<p.t0.length then bif J (((p.t0,(),(),p.t6,()),p.b0,p.b1,()).fst.fst[((p.t0,(),(),p.t6,()),p.b0,p.b1,()).fst.snd.snd.snd.fst.toNat]! <((p.t0,(),(),p.t6,()),p.b0,p.b1,()).snd.snd.fst.ag)then if 0<=p.t6/\p.t6<p.t0.length then if 0<=p.t6/\p.t6<p.t0.length then bif J (((p.t0,(),(),p.t6,()),p.b0,p.b1,()).snd.snd.fst.ah<((p.t0,(),(),p.t6,()),p.b0,p.b1,()).fst.fst[((p.t0,(),(),p.t6,()),p.b0,p.b1,()).fst.snd.snd.snd.fst.toNat]!)then if 0<=p.t6/\p.t6<p.t0.length then V (V (j7.mk p.t0 (i64.wrap (p.t6+1)) p.b0 (aH.mk p.t0[p.t6.toNat]! p.t0[p.t6.toNat]! r1)))else S else V (V (j7.mk p.t0 (i64.wrap (p.t6+1)) p.b0 (aH.mk p.t0[p.t6.toNat]! p.b1.ah r1)))else S else S else if 0<=p.t6/\p.t6<p.t0.length then bif J (((p.t0,(),(),p.t6,()),p.b0,p.b1,()).snd.snd.fst.ah<((p.t0,(),(),p.t6,()),p.b0,p.b1,()).fst.fst[((p.t0,(),(),p.t6,()),p.b0,p.b1,()).fst.snd.snd.snd.fst.toNat]!)then if 0<=p.t6/\p.t6<p.t0.length then V (V (j7.mk p.t0 (i64.wrap (p.t6+1)) p.b0 (aH.mk p.b1.ag p.t0[p.t6.toNat]! r1)))else S else V (V (j7.mk p.t0 (i64.wrap (p.t6+1)) p.b0 (aH.mk p.b1.ag p.b1.ah r1)))else S else S else S else S else V (S)
def Y3:=bK (sW)
structure sH where
 t0:List Int
 t4:Int
 b0:aH
def AH(p:sH):af (af sH):=
 bif J (p.t4<p.t0.length)then if 0<=p.t4/\p.t4<p.t0.length then bif bif nO p.t0[p.t4.toNat]! then G else O then V (S)else V (V (sH.mk p.t0 (i64.wrap (p.t4+1)) p.b0))else S else V (S)
def aa6:=bK (AH)
abbrev aDC:=aH×Int
def ZS(a0:aa Int):af aDC:=
 match aa6 (sH.mk a0 0 (aH.mk 0 0 0))with|S=>S|V r2=>bif J (r2.t4<r2.t0.length)then if 0<=r2.t4/\r2.t4<r2.t0.length then bif bif nO r2.t0[r2.t4.toNat]! then G else O then V (aH.mk 0 0 0,3)else S else S else bif J ((r2.t0.length:Int)=0)then V (rQ,0)else if(0:Int)<=(0:Int)/\(0:Int)<r2.t0.length then if(0:Int)<=(0:Int)/\(0:Int)<r2.t0.length then match Y3 (j7.mk r2.t0 1 r2.b0 (aH.mk r2.t0[0]! r2.t0[0]! (0)))with|S=>S|V r3=>bif J (r3.t6<r3.t0.length)then if 0<=r3.t6/\r3.t6<r3.t0.length then if(0:Int)<=(0:Int)/\(0:Int)<r3.t0.length then match Er r3.b1.ai (jS r3.t0[r3.t6.toNat]! r3.t0[0]!)with|S=>S|V r4=>if 0<=r3.t6/\r3.t6<r3.t0.length then bif J (((r3.t0,(),(),r3.t6,()),r3.b0,r3.b1,()).fst.fst[((r3.t0,(),(),r3.t6,()),r3.b0,r3.b1,()).fst.snd.snd.snd.fst.toNat]! <((r3.t0,(),(),r3.t6,()),r3.b0,r3.b1,()).snd.snd.fst.ag)then if 0<=r3.t6/\r3.t6<r3.t0.length then if 0<=r3.t6/\r3.t6<r3.t0.length then bif J (((r3.t0,(),(),r3.t6,()),r3.b0,r3.b1,()).snd.snd.fst.ah<((r3.t0,(),(),r3.t6,()),r3.b0,r3.b1,()).fst.fst[((r3.t0,(),(),r3.t6,()),r3.b0,r3.b1,()).fst.snd.snd.snd.fst.toNat]!)then if 0<=r3.t6/\r3.t6<r3.t0.length then S else S else S else S else S else if 0<=r3.t6/\r3.t6<r3.t0.length then bif J (((r3.t0,(),(),r3.t6,()),r3.b0,r3.b1,()).snd.snd.fst.ah<((r3.t0,(),(),r3.t6,()),r3.b0,r3.b1,()).fst.fst[((r3.t0,(),(),r3.t6,()),r3.b0,r3.b1,()).fst.snd.snd.snd.fst.toNat]!)then if 0<=r3.t6/\r3.t6<r3.t0.length then S else S else S else S else S else S else S else V (r3.b1,0)else S else S
abbrev aCG:=aH
def lC(a0:aH)(a1:aH):af aCG:=
 bif lJ a0 then V (a1)else bif lJ a1 then V (a0)else match ZS [a0.ag,a0.ah,a1.ag,a1.ah]with|S=>S|V r1=>bif J (r1.fst.ag<r1.fst.ah)then match Er a0.ai a1.ai with|S=>S|V r2=>match Er r2 (jS a0.ag a1.ag)with|S=>S|V r3=>V (aH.mk r1.fst.ag r1.fst.ah r3)else V (r1.fst)
abbrev E86:=aH×Int
def m86(a0:aH)(a1:Int)(a2:Int):af E86:=
 match Wr a0 with|S=>S|V r1=>bif bif r1 then G else O then V ((aH.mk (0) (0) (0),1))else match bif bif nO a1 then G else O then V (O)else bif bif nO a2 then G else O then V (O)else V (J (a2<a1))with|S=>S|V r2=>bif r2 then V ((aH.mk (0) (0) (0),3))else match m42 a0 (i64.wrap (a1-1))with|S=>S|V r3=>match m41 r3 a2 with|S=>S|V r4=>match m41 a0 a1 with|S=>S|V r5=>bif bif lJ r5 then G else O then match lC r4 (aH.mk a1 a1 (0))with|S=>S|V r6=>match m42 a0 a2 with|S=>S|V r7=>bif bif lJ r7 then G else O then match lC r6 (aH.mk a2 a2 (0))with|S=>S|V r8=>V ((r8,0))else V ((r6,0))else match m42 a0 a2 with|S=>S|V r9=>bif bif lJ r9 then G else O then match lC r4 (aH.mk a2 a2 (0))with|S=>S|V r10=>V ((r10,0))else V ((r4,0))
def F43:bf:=(aoh (e84 de))
abbrev E43:=Int
def d43:Td 0 E43:= .c [] [2] (.r 0 0 (ec 2 aM en) sn (λz=>z.1.1) (λx=>((x,()),(()))))
def aAV:∀f∈([84,102]:aa Nat),bw (F43) f:=(aA (Gq (uI bS)) (aA (Gq (uI bS)) aF))
def FF(a0:aH):af E43:=
 match match Wr a0 with|S=>S|V r1=>bif bif r1 then G else O then V O else V (lJ a0)with|S=>S|V r2=>bif r2 then V 0 else bif J (a0.ai=0)then V 1 else if¬a0.ai=0then V (i64.wrap (i64.wrap ((i64.wrap (a0.ah-a0.ag)).tdiv a0.ai)+1))else S
def e43:=eL w9 43 G (lc (qg 34) ln) d43 (λg=>FF g.1)
def aoX:EO e43:=λh=>kL (F:=F43) (an:=(noTwo (.two (.two (.rb [84,102] 9) .no) .no))) (l:=[(.skip,(.rb [84,102] 9))]) func43 (aiD (aa8 aP)) (aA aAV aF) h
def K8:EP e43:=λh=>kP h
abbrev aA9:=Bool×Bool
def F3(a0:aH):af aA9:=
 match m32 a0 (0)with|S=>S|V r1=>match FF a0 with|S=>S|V r2=>bif J (1<r2)then V ((r1,O))else match FF a0 with|S=>S|V r3=>bif J (r3=1)then V ((r1,bif r1 then G else O))else V ((r1,G))
abbrev aCu:=aH
def jW(a0:Bool)(a1:Bool):aCu:=
 let r1:Bool:=bif a0 then a1 else G;bif r1 then aH.mk (0) (1) (1)else bif a1 then aH.mk (1) (1) (0)else aH.mk (0) (0) (0)
abbrev aCe:=aH×Int
def awk(a0:Int)(a1:aH):af aCe:=
 match match Wr a1 with|S=>S|V r1=>bif bif r1 then G else O then V (O)else bif bif J (a0=6)then G else O then V (bif J (a0=7)then G else O)else V (G)with|S=>S|V r2=>bif r2 then V ((aH.mk (0) (0) (0),1))else bif lJ a1 then V ((rQ,0))else bif J (a0=6)then V ((aH.mk (i64.wrap (0-a1.ah)) (i64.wrap (0-a1.ag)) a1.ai,0))else match F3 a1 with|S=>S|V r3=>V ((jW r3.snd r3.fst,0))
abbrev aCk:=Bool
def Px(a0:Int):aCk:=
 bif J (a0=8)then O else bif J (a0=9)then O else bif J (a0=10)then O else bif J (a0=11)then O else bif J (a0=12)then O else bif J (a0=13)then O else bif J (a0=14)then O else bif J (a0=15)then O else bif J (a0=16)then O else bif J (a0=17)then O else bif J (a0=18)then O else bif J (a0=19)then O else bif J (a0=20)then O else bif J (a0=21)then O else bif J (a0=22)then O else G
abbrev aCM:=Int×Bool
def anM(a0:Int)(a1:Int):af aCM:=
 match bif bif J (a0=0)then G else O then bif bif J (a1=0)then G else O then if¬jS a1 ((0:Int))=0then V (J (i64.wrap ((1099511627776:Int).tdiv (jS a1 0))<jS a0 0))else S else V G else V G with|S=>S|V r1=>bif r1 then V (0,G)else V ((i64.wrap (a0*a1),O))
abbrev aBH:=Int
def aoU(a0:Int)(a1:Int):af aBH:=
 bif J (a1=0)then V 0 else if¬a1=0then match if¬a1=0then bif bif J (a0.tmod a1=0)then G else O then V (bif J (a0<0)==J (a1<0)then G else O)else V G else S with|S=>S|V r1=>bif r1 then V (i64.wrap (i64.wrap (a0.tdiv a1)-1))else V (i64.wrap (a0.tdiv a1))else S
abbrev aCE:=Int
def C2(a0:Bool):aCE:=
 bif a0 then 1 else 0
abbrev aAL:=Int×Bool
def FX(a0:Int)(a1:Int)(a2:Int):af aAL:=
 bif J (a0=8)then V ((i64.wrap (a1+a2),nO (i64.wrap (a1+a2))))else bif J (a0=9)then V ((i64.wrap (a1-a2),nO (i64.wrap (a1-a2))))else bif J (a0=10)then match anM a1 a2 with|S=>S|V r1=>V (r1)else bif J (a0=11)then match aoU a1 a2 with|S=>S|V r2=>V ((r2,O))else bif J (a0=12)then bif J (a2=0)then V ((0,O))else match aoU a1 a2 with|S=>S|V r3=>V ((i64.wrap (a1-i64.wrap (a2*r3)),O))else bif J (a0=13)then V ((C2 (J (a1=a2)),O))else bif J (a0=14)then V ((C2 (bif J (a1=a2)then G else O),O))else bif J (a0=15)then V ((C2 (J (a1<a2)),O))else bif J (a0=16)then V ((C2 (J (a1<=a2)),O))else bif J (a0=17)then V ((C2 (J (a2<a1)),O))else bif J (a0=18)then V ((C2 (J (a2<=a1)),O))else bif J (a0=19)then bif bif J (a1=0)then G else O then V ((C2 (bif J (a2=0)then G else O),O))else V ((C2 G,O))else bif J (a0=20)then bif bif J (a1=0)then G else O then V ((C2 O,O))else V ((C2 (bif J (a2=0)then G else O),O))else bif J (a0=21)then bif J (a1<a2)then V ((a1,O))else V ((a2,O))else bif J (a2<a1)then V ((a1,O))else V ((a2,O))
abbrev aA5:=Int
def Jl(a0:aH)(a1:Int):aA5:=
 i64.wrap (a0.ag+i64.wrap (a1*a0.ai))
structure iZ where
 t0:Int
 t8:List Int
 (t9 t10:Int)
 (b0 b1 b2:aH)
def DL(p:iZ):af (af iZ):=
 match FF p.b1 with|S=>S|V r5=>bif J (p.t10<r5)then match FX p.t0 (Jl p.b0 p.t9) (Jl p.b1 p.t10)with|S=>S|V r6=>bif bif r6.snd then G else O then V (S)else if(p.t8++[r6.fst]).length<=1073741824 then V (V (iZ.mk p.t0 (p.t8++[r6.fst]) p.t9 (i64.wrap (p.t10+1)) p.b0 p.b1 p.b2))else S else V (S)
def C4:=bK (DL)
structure sk where
 t0:Int
 t8:List Int
 t9:Int
 (b0 b1 b2:aH)
def vR(p:sk):af (af sk):=
 match FF p.b0 with|S=>S|V r1=>bif J (p.t9<r1)then match C4 (iZ.mk p.t0 p.t8 p.t9 (0) p.b0 p.b1 p.b2)with|S=>S|V r2=>match FF r2.b1 with|S=>S|V r3=>bif J (r2.t10<r3)then match FX r2.t0 (Jl r2.b0 r2.t9) (Jl r2.b1 r2.t10)with|S=>S|V r4=>bif bif r4.snd then G else O then V (S)else if(r2.t8++[r4.fst]).length<=1073741824 then S else S else V (V (sk.mk r2.t0 r2.t8 (i64.wrap (r2.t9+1)) r2.b0 r2.b1 r2.b2))else V (S)
def abw:=bK (vR)
abbrev aBb:=aH×Int
def Wb(a0:Int)(a1:aH)(a2:aH):af aBb:=
 match abw (sk.mk a0 [] (0) a1 a2 (aH.mk (0) (0) (0)))with|S=>S|V r7=>match FF r7.b0 with|S=>S|V r8=>bif J (r7.t9<r8)then match C4 (iZ.mk r7.t0 r7.t8 r7.t9 (0) r7.b0 r7.b1 r7.b2)with|S=>S|V r9=>match FF r9.b1 with|S=>S|V r10=>bif J (r9.t10<r10)then match FX r9.t0 (Jl r9.b0 r9.t9) (Jl r9.b1 r9.t10)with|S=>S|V r11=>bif bif r11.snd then G else O then V ((aH.mk (0) (0) (0),3))else if(r9.t8++[r11.fst]).length<=1073741824 then S else S else S else match ZS r7.t8 with|S=>S|V r12=>V (r12)
structure jb where
 t0:Int
 (t8 t9 t10:List Int)
 (t11 t12:Int)
 b0:aH
def DB(p:jb):af (af jb):=
 bif J (p.t12<3)then if 0<=p.t11/\p.t11<p.t9.length then if 3=3/\p.t11.toNat<p.t9.length then if 0<=p.t12/\p.t12<p.t10.length then if 3=3/\p.t12.toNat<p.t10.length then match FX p.t0 p.t9[p.t11.toNat]! p.t10[p.t12.toNat]! with|S=>S|V r3=>bif bif r3.snd then G else O then V (S)else if(p.t8++[r3.fst]).length<=1073741824 then V (V (jb.mk p.t0 (p.t8++[r3.fst]) p.t9 p.t10 p.t11 (i64.wrap (p.t12+1)) p.b0))else S else S else S else S else S else V (S)
def Ec:=bK (DB)
structure sS where
 t0:Int
 (t8 t9 t10:List Int)
 t11:Int
 b0:aH
def AG(p:sS):af (af sS):=
 bif J (p.t11<3)then match Ec (jb.mk p.t0 p.t8 p.t9 p.t10 p.t11 0 p.b0)with|S=>S|V r1=>bif J (r1.t12<3)then if 0<=r1.t11/\r1.t11<r1.t9.length then if 3=3/\r1.t11.toNat<r1.t9.length then if 0<=r1.t12/\r1.t12<r1.t10.length then if 3=3/\r1.t12.toNat<r1.t10.length then match FX r1.t0 r1.t9[r1.t11.toNat]! r1.t10[r1.t12.toNat]! with|S=>S|V r2=>bif bif r2.snd then G else O then V (S)else if(r1.t8++[r2.fst]).length<=1073741824 then S else S else S else S else S else S else V (V (sS.mk r1.t0 r1.t8 r1.t9 r1.t10 (i64.wrap (r1.t11+1)) r1.b0))else V (S)
def W1:=bK (AG)
abbrev aDs:=aH×Int
def vB(a0:Int)(a1:aH)(a2:aH):af aDs:=
 match W1 (sS.mk a0 [] [a1.ag,i64.wrap (a1.ag+a1.ai),a1.ah] [a2.ag,i64.wrap (a2.ag+a2.ai),a2.ah] (0) (aH.mk 0 0 0))with|S=>S|V r4=>bif J (r4.t11<3)then match Ec (jb.mk r4.t0 r4.t8 r4.t9 r4.t10 r4.t11 0 r4.b0)with|S=>S|V r5=>bif J (r5.t12<3)then if 0<=r5.t11/\r5.t11<r5.t9.length then if 3=3/\r5.t11.toNat<r5.t9.length then if 0<=r5.t12/\r5.t12<r5.t10.length then if 3=3/\r5.t12.toNat<r5.t10.length then match FX r5.t0 r5.t9[r5.t11.toNat]! r5.t10[r5.t12.toNat]! with|S=>S|V r6=>bif bif r6.snd then G else O then V (aH.mk 0 0 0,3)else if(r5.t8++[r6.fst]).length<=1073741824 then S else S else S else S else S else S else S else match ZS r4.t8 with|S=>S|V r7=>V (r7)
abbrev Q8:=Bool
structure jv where
 (t6 t7 t8 t9:Int)
 (b0 b1:aH)
def vD(M286:aH->aH->af Q8)(p:jv):af (af jv):=
 match if¬p.t7=0then bif J (p.t9<i64.wrap (p.b1.ai.tdiv p.t7))then V (J (p.t8<=p.t6))else V G else S with|S=>S|V r1=>bif r1 then match m32 p.b1 p.t8 with|S=>S|V r2=>bif r2 then V (S)else V (V (jv.mk p.t6 p.t7 (i64.wrap (p.t8+p.b0.ai)) (i64.wrap (p.t9+1)) p.b0 p.b1))else V (S)
def tE(M286:aH->aH->af Q8):=bK (vD M286)
def X7(M286:aH->aH->af Q8)(a0:aH)(a1:aH):af Q8:=
 match FF a0 with|S=>S|V r3=>match FF a1 with|S=>S|V r4=>bif J (r4<r3)then match M286 a1 a0 with|S=>S|V r5=>V (r5)else match FF a0 with|S=>S|V r6=>bif J (r6=1)then match m32 a1 a0.ag with|S=>S|V r7=>V (r7)else bif J (a0.ag<a1.ag)then bif J (a1.ah<a0.ah)then match Er a0.ai a1.ai with|S=>S|V r8=>match bif J (a1.ah<a1.ag)then V O else if¬r8=0then V (bif J (Int.tmod (jS a0.ag a1.ag) r8=0)then G else O)else S with|S=>S|V r9=>bif r9 then V G else if¬a0.ai=0then match tE M286 (jv.mk a1.ah r8 (i64.wrap (a0.ag+i64.wrap (i64.wrap ((i64.wrap (i64.wrap (i64.wrap (a1.ag-a0.ag)+a0.ai)-1)).tdiv a0.ai)*a0.ai))) 0 a0 a1)with|S=>S|V r10=>match if¬r10.t7=0then bif J (r10.t9<i64.wrap (r10.b1.ai.tdiv r10.t7))then V (J (r10.t8<=r10.t6))else V G else S with|S=>S|V r11=>bif r11 then match m32 r10.b1 r10.t8 with|S=>S|V r12=>bif r12 then V O else S else V G else S else match Er a0.ai a1.ai with|S=>S|V r13=>match bif J (a0.ah<a1.ag)then V O else if¬r13=0then V (bif J (Int.tmod (jS a0.ag a1.ag) r13=0)then G else O)else S with|S=>S|V r14=>bif r14 then V G else if¬a0.ai=0then match tE M286 (jv.mk a0.ah r13 (i64.wrap (a0.ag+i64.wrap (i64.wrap ((i64.wrap (i64.wrap (i64.wrap (a1.ag-a0.ag)+a0.ai)-1)).tdiv a0.ai)*a0.ai))) 0 a0 a1)with|S=>S|V r15=>match if¬r15.t7=0then bif J (r15.t9<i64.wrap (r15.b1.ai.tdiv r15.t7))then V (J (r15.t8<=r15.t6))else V G else S with|S=>S|V r16=>bif r16 then match m32 r15.b1 r15.t8 with|S=>S|V r17=>bif r17 then V O else S else V G else S else bif J (a1.ah<a0.ah)then match Er a0.ai a1.ai with|S=>S|V r18=>match bif J (a1.ah<a0.ag)then V O else if¬r18=0then V (bif J (Int.tmod (jS a0.ag a1.ag) r18=0)then G else O)else S with|S=>S|V r19=>bif r19 then V G else if¬a0.ai=0then match tE M286 (jv.mk a1.ah r18 (i64.wrap (a0.ag+i64.wrap (i64.wrap ((i64.wrap (i64.wrap (i64.wrap (a0.ag-a0.ag)+a0.ai)-1)).tdiv a0.ai)*a0.ai))) 0 a0 a1)with|S=>S|V r20=>match if¬r20.t7=0then bif J (r20.t9<i64.wrap (r20.b1.ai.tdiv r20.t7))then V (J (r20.t8<=r20.t6))else V G else S with|S=>S|V r21=>bif r21 then match m32 r20.b1 r20.t8 with|S=>S|V r22=>bif r22 then V O else S else V G else S else match Er a0.ai a1.ai with|S=>S|V r23=>match bif J (a0.ah<a0.ag)then V O else if¬r23=0then V (bif J (Int.tmod (jS a0.ag a1.ag) r23=0)then G else O)else S with|S=>S|V r24=>bif r24 then V G else if¬a0.ai=0then match tE M286 (jv.mk a0.ah r23 (i64.wrap (a0.ag+i64.wrap (i64.wrap ((i64.wrap (i64.wrap (i64.wrap (a0.ag-a0.ag)+a0.ai)-1)).tdiv a0.ai)*a0.ai))) 0 a0 a1)with|S=>S|V r25=>match if¬r25.t7=0then bif J (r25.t9<i64.wrap (r25.b1.ai.tdiv r25.t7))then V (J (r25.t8<=r25.t6))else V G else S with|S=>S|V r26=>bif r26 then match m32 r25.b1 r25.t8 with|S=>S|V r27=>bif r27 then V O else S else V G else S
def He:Nat->(aH->aH->af Q8)
 |0=>(λ_ _=>S)
 |n+1=>(X7 (He n))
def aDd(n:Nat):aH->aH->af Q8:=(He n)
def ao2:aH->aH->af Q8:=λa0 a1=>lim (λn=>aDd n a0 a1)
abbrev aBd:=aH
def BB(a0:Int)(a1:aH)(a2:aH):af aBd:=
 bif J (a0=13)then match ao2 a1 a2 with|S=>S|V r1=>bif bif bif J (a1.ag=a2.ag)then bif J (a1.ah=a2.ah)then bif J (a1.ai=a2.ai)then O else G else G else G then G else O then bif J (a0=14)then V (jW r1 O)else V (jW O r1)else match FF a1 with|S=>S|V r2=>bif J (a0=14)then V (jW r1 (J (1<((r2,()),()).fst.fst)))else V (jW (J (1<((r2,()),()).fst.fst)) r1)else bif J (a0=14)then match ao2 a1 a2 with|S=>S|V r3=>bif bif bif J (a1.ag=a2.ag)then bif J (a1.ah=a2.ah)then bif J (a1.ai=a2.ai)then O else G else G else G then G else O then bif J (a0=14)then V (jW r3 O)else V (jW O r3)else match FF a1 with|S=>S|V r4=>bif J (a0=14)then V (jW r3 (J (1<((r4,()),()).fst.fst)))else V (jW (J (1<((r4,()),()).fst.fst)) r3)else bif J (a0=15)then V (jW (J (a2.ag<=a1.ah)) (J (a1.ag<a2.ah)))else bif J (a0=16)then V (jW (J (a2.ag<a1.ah)) (J (a1.ag<=a2.ah)))else bif J (a0=17)then V (jW (J (a1.ag<=a2.ah)) (J (a2.ag<a1.ah)))else bif J (a0=18)then V (jW (J (a1.ag<a2.ah)) (J (a2.ag<=a1.ah)))else match F3 a1 with|S=>S|V r5=>match F3 a2 with|S=>S|V r6=>bif J (a0=19)then bif r5.snd then bif r5.fst then V (jW O r6.snd)else V (jW r6.fst r6.snd)else bif r5.fst then V (jW O G)else V (jW r6.fst G)else bif r5.snd then bif r5.fst then V (jW r6.fst O)else V (jW G O)else bif r5.fst then V (jW r6.fst r6.snd)else V (jW G r6.snd)
abbrev aBf:=aH×Int
def oL(a0:Int)(a1:aH)(a2:aH):af aBf:=
 match match Wr a1 with|S=>S|V r1=>bif bif r1 then G else O then V O else match Wr a2 with|S=>S|V r2=>bif bif r2 then G else O then V O else V (bif Px a0 then G else O)with|S=>S|V r3=>bif r3 then V (aH.mk 0 0 0,1)else match bif lJ a1 then V O else V (lJ a2)with|S=>S|V r4=>bif r4 then V (rQ,0)else match FF a1 with|S=>S|V r5=>match FF a2 with|S=>S|V r6=>if¬r6=0then bif J (r5<=i64.wrap ((4096:Int).tdiv r6))then match Wb a0 a1 a2 with|S=>S|V r7=>V (r7)else bif J (a0=8)then match vB a0 a1 a2 with|S=>S|V r8=>V (r8)else bif J (a0=9)then match vB a0 a1 a2 with|S=>S|V r9=>V (r9)else bif J (a0=10)then match vB a0 a1 a2 with|S=>S|V r10=>V (r10)else bif J (a0=11)then bif J (jS a1.ag 0<jS a1.ah 0)then match bif J (0<=a1.ag)then V (J (0<=a2.ag))else V G with|S=>S|V r11=>bif r11 then match iX 0 (jS a1.ah 0) 1with|S=>S|V r12=>V (r12)else match iX (i64.wrap (0-jS a1.ah 0)) (jS a1.ah 0) 1with|S=>S|V r13=>V (r13)else match bif J (0<=a1.ag)then V (J (0<=a2.ag))else V G with|S=>S|V r14=>bif r14 then match iX 0 (jS a1.ag 0) 1with|S=>S|V r15=>V (r15)else match iX (i64.wrap (0-jS a1.ag 0)) (jS a1.ag 0) 1with|S=>S|V r16=>V (r16)else bif J (a0=12)then bif J (a2.ag<0)then bif J (0<a2.ah)then match iX (i64.wrap (a2.ag+1)) (i64.wrap (a2.ah-1)) 1with|S=>S|V r17=>V (r17)else match iX (i64.wrap (a2.ag+1)) 0 1with|S=>S|V r18=>V (r18)else bif J (0<a2.ah)then match iX 0 (i64.wrap (a2.ah-1)) 1with|S=>S|V r19=>V (r19)else match iX 0 0 1with|S=>S|V r20=>V (r20)else bif J (a0=21)then match FX a0 a1.ah a2.ah with|S=>S|V r21=>match lC a1 a2 with|S=>S|V r22=>match m41 r22 r21.fst with|S=>S|V r23=>V (r23,0)else bif J (a0=22)then match FX a0 a1.ag a2.ag with|S=>S|V r24=>match lC a1 a2 with|S=>S|V r25=>match m42 r25 (i64.wrap (r24.fst-1))with|S=>S|V r26=>V (r26,0)else match BB a0 a1 a2 with|S=>S|V r27=>V (r27,0)else S
abbrev E87:=aH
structure Ng where
 (t107 t108:Int)
 b0:aK
 b1:au
 (b2 b3 b4:aH)
def aw1(M87:aK->au->af E87)(p:Ng):af (af Ng):=
 bif J (p.t108<p.t107)then match m32 p.b3 p.t108 with|S=>S|V r1=>bif r1 then if 0<=i64.wrap ((1:Int)+p.t108)/\i64.wrap ((1:Int)+p.t108)<p.b1.aq.length then match M87 p.b0 (au.mk p.b1.aq[(i64.wrap (1+p.t108)).toNat]!.bC p.b1.aq[(i64.wrap (1+p.t108)).toNat]!.fN p.b1.aq[(i64.wrap (1+p.t108)).toNat]!.aq)with|S=>S|V r2=>match lC p.b4 r2 with|S=>S|V r3=>V (V (Ng.mk p.t107 (i64.wrap (p.t108+1)) p.b0 (au.mk p.b1.bC p.b1.fN p.b1.aq) p.b2 p.b3 r3))else S else V (V (Ng.mk p.t107 (i64.wrap (p.t108+1)) p.b0 (au.mk p.b1.bC p.b1.fN p.b1.aq) p.b2 p.b3 p.b4))else V (S)
def azP(M87:aK->au->af E87):=bK (aw1 M87)
def s87(M87:aK->au->af E87)(a0:aK)(a1:au):af E87:=
 bif J (a1.bC=0)then V (m36 a1.fN)else bif J (a1.bC=24)then if 0<=a1.fN/\a1.fN<a0.aj.length then V (a0.aj[a1.fN.toNat]!)else S else bif J (a1.bC=6)then if(0:Int)<=(0:Int)/\(0:Int)<a1.aq.length then match M87 a0 (au.mk a1.aq[0]!.bC a1.aq[0]!.fN a1.aq[0]!.aq)with|S=>S|V r4=>match awk a1.bC r4 with|S=>S|V r5=>V (r5.fst)else S else bif J (a1.bC=7)then if(0:Int)<=(0:Int)/\(0:Int)<a1.aq.length then match M87 a0 (au.mk a1.aq[0]!.bC a1.aq[0]!.fN a1.aq[0]!.aq)with|S=>S|V r6=>match awk a1.bC r6 with|S=>S|V r7=>V (r7.fst)else S else bif J (a1.bC=23)then if(0:Int)<=(0:Int)/\(0:Int)<a1.aq.length then match M87 a0 (au.mk a1.aq[0]!.bC a1.aq[0]!.fN a1.aq[0]!.aq)with|S=>S|V r8=>match F3 r8 with|S=>S|V r9=>bif bif r9.fst then G else O then if(0:Int)<=(1:Int)/\(1:Int)<a1.aq.length then match M87 a0 (au.mk a1.aq[1]!.bC a1.aq[1]!.fN a1.aq[1]!.aq)with|S=>S|V r10=>V (r10)else S else bif bif r9.snd then G else O then if(0:Int)<=(2:Int)/\(2:Int)<a1.aq.length then match M87 a0 (au.mk a1.aq[2]!.bC a1.aq[2]!.fN a1.aq[2]!.aq)with|S=>S|V r11=>V (r11)else S else if(0:Int)<=(1:Int)/\(1:Int)<a1.aq.length then match M87 a0 (au.mk a1.aq[1]!.bC a1.aq[1]!.fN a1.aq[1]!.aq)with|S=>S|V r12=>if(0:Int)<=(2:Int)/\(2:Int)<a1.aq.length then match M87 a0 (au.mk a1.aq[2]!.bC a1.aq[2]!.fN a1.aq[2]!.aq)with|S=>S|V r13=>match lC r12 r13 with|S=>S|V r14=>V (r14)else S else S else S else bif J (a1.bC=25)then if(0:Int)<=(0:Int)/\(0:Int)<a1.aq.length then match M87 a0 (au.mk a1.aq[0]!.bC a1.aq[0]!.fN a1.aq[0]!.aq)with|S=>S|V r15=>match m86 r15 0 (i64.wrap ((a1.aq.length:Int)-2))with|S=>S|V r16=>match azP M87 (Ng.mk (i64.wrap ((a1.aq.length:Int)-1)) 0 a0 (au.mk a1.bC a1.fN a1.aq) (aH.mk 0 0 0) r16.fst rQ)with|S=>S|V r17=>bif J (r17.t108<r17.t107)then match m32 r17.b3 r17.t108 with|S=>S|V r18=>bif r18 then if 0<=i64.wrap ((1:Int)+r17.t108)/\i64.wrap ((1:Int)+r17.t108)<r17.b1.aq.length then match M87 r17.b0 (au.mk r17.b1.aq[(i64.wrap (1+r17.t108)).toNat]!.bC r17.b1.aq[(i64.wrap (1+r17.t108)).toNat]!.fN r17.b1.aq[(i64.wrap (1+r17.t108)).toNat]!.aq)with|S=>S|V r19=>match lC r17.b4 r19 with|S=>S|V r20=>S else S else S else V (r17.b4)else S else if(0:Int)<=(0:Int)/\(0:Int)<a1.aq.length then match M87 a0 (au.mk a1.aq[0]!.bC a1.aq[0]!.fN a1.aq[0]!.aq)with|S=>S|V r21=>if(0:Int)<=(1:Int)/\(1:Int)<a1.aq.length then match M87 a0 (au.mk a1.aq[1]!.bC a1.aq[1]!.fN a1.aq[1]!.aq)with|S=>S|V r22=>match oL a1.bC r21 r22 with|S=>S|V r23=>V (r23.fst)else S else S
def axH:Nat->(aK->au->af E87)
 |0=>(λ_ _=>S)
 |n+1=>(s87 (axH n))
def m87(n:Nat):aK->au->af E87:=(axH n)
def r87:aK->au->af E87:=λa0 a1=>lim (λn=>m87 n a0 a1)
end Go.Proofs.YtnfljbehcffmcaaGreat
end
noncomputable section
namespace Go.Iv
open Go
variable [U:ru] [L:l7]
def aG{n:Int}(h1: -9223372036854775808<=n:=by omega)(h2:n<9223372036854775808:=by omega):IntKind.i64.wrap n=n:=by
 simp[IntKind.wrap,IntKind.bits,IntKind.signed];omega
def Mn{γ:Type}{rnd:γ->af (af γ)}(f:Nat->γ)(n:Nat)(h1:∀i,i<n->rnd (f i)=V (V (f (i+1))))(h2:∀r,rnd (f n)≠V (V r)):bK rnd (f 0)=V (f n):=by
 have key:∀k i,i+k=n->bK rnd (f i)=V (f n):=by
  intro k;induction k with
  |zero=>
   intro i hi;have:i=n:=by omega
   subst this;exact cu h2
  |succ k ih=>intro i hi;rw[bQ (h1 i (by omega))];exact ih (i+1) (by omega)
 exact key n 0 (by omega)
def ki{α β ρ:Type}(step:β->α->af β)(ret:β->α->ρ)(fin:β->ρ):aa α->β->ρ
 |[],b=>fin b
 |x::xs,b=>match step b x with
  |some b'=>ki step ret fin xs b'
  |none=>ret b x
def GI{γ α β ρ:Type}{rnd:γ->af (af γ)}(l:aa α)(mk:Nat->β->γ)(step:β->α->af β)(ret:β->α->ρ)(fin:β->ρ)(I:Nat->β->Prop)
  (h1:∀i b (hi:i<l.length),I i b->∀b',step b l[i]=V b'->rnd (mk i b)=V (V (mk (i+1) b'))/\I (i+1) b')
  (h2:∀i b (hi:i<l.length),I i b->step b l[i]=S->∀r,rnd (mk i b)≠V (V r)) (h3:∀b,I l.length b->∀r,rnd (mk l.length b)≠V (V r)) {b:β} (hb:I 0 b):
  ∃i v,i<=l.length/\bK rnd (mk 0 b)=V (mk i v)/\I i v/\((i=l.length/\ki step ret fin l b=fin v)\/∃hi:i<l.length,step v l[i]=S/\ki step ret fin l b=ret v l[i]):=by
 have key:∀(xs:aa α) (i:Nat) (b:β),l.drop i=xs->i<=l.length->I i b->∃j v,j<=l.length/\bK rnd (mk i b)=V (mk j v)/\I j v/\((j=l.length/\ki step ret fin xs b=fin v)\/∃hi:j<l.length,step v l[j]=S/\ki step ret fin xs b=ret v l[j]):=by
  intro xs;induction xs with
  |nil=>
   intro i b hd hi hb;have:i=l.length:=by have:=congrArg zS hd;simp at this;omega
   subst this;exact⟨_,b,zo _,cu (h3 b hb),hb, .inl ⟨rfl,rfl⟩⟩
  |cons x xs ih=>
   intro i b hd hi hb;have hil:i<l.length:=by have:=congrArg zS hd;simp at this;omega
   have hx:l[i]=x:=by
    have:=congrArg List.head? hd;rw[List.head?_drop,zu hil]at this;simpa using this
   have hd':l.drop (i+1)=xs:=by
    have:=congrArg List.tail hd;rw[List.tail_drop]at this;simpa using this
   cases hs:step b x with
   |some b'=>
    obtain⟨q1,q2⟩:=h1 i b hil hb b' (by rw[hx];exact hs);obtain⟨j,v,e1,e2,e3,e4⟩:=ih (i+1) b' hd' hil q2;have er:ki step ret fin (x::xs) b=ki step ret fin xs b':=by simp only[ki,hs]
    exact⟨j,v,e1,by rw[bQ q1];exact e2,e3,by rw[er];exact e4⟩
   |none=>
    have er:ki step ret fin (x::xs) b=ret b x:=by simp only[ki,hs]
    exact⟨i,b,hi,cu (h2 i b hil hb (by rw[hx];exact hs)),hb, .inr ⟨hil,by rw[hx];exact hs,by rw[er,hx]⟩⟩
 exact key l 0 b rfl (yZ _) hb
end Go.Iv
end
noncomputable section
set_option maxRecDepth 100000
namespace Go.Proofs.YtnfljbehcffmcaaGreat
open Go Go.Iv
open Go.IntKind (i64 u64)
def gH{n:Int}(h1:0<=n:=by omega)(h2:n<18446744073709551616:=by omega):IntKind.u64.wrap n=n:=by
 simp only[IntKind.wrap,IntKind.signed,IntKind.bits]at*;simp;omega
def N6(n:Int):IntKind.u64.wrap n=n%18446744073709551616:=by
 simp only[IntKind.wrap,IntKind.signed,IntKind.bits]at*;simp
structure gT (y1 y0 u d q r:Int):Prop where
 r0:0<=r
 r1:r<4294967296
 q0:0<=q
 q1:q<=4294967297
 e:u=q*y1+r
 hi:u*4294967296+d<(q+1)*(y1*4294967296+y0)
 top:q=4294967297->r+y1<4294967296
structure rO (y1 y0 u d:Int):Prop where
 ha:2147483648<=y1
 hb:y1<4294967296
 hc:0<=y0
 hd:y0<4294967296
 he:0<=u
 hf:u<y1*4294967296+y0
 hg:0<=d
 hh:d<4294967296
def gT.start{y1 y0 u d:Int}(h:rO y1 y0 u d):gT y1 y0 u d (u/y1) (u%y1):=by
 obtain⟨ha,hb,hc,hd,he,hf,hg,hh⟩:=h;have e1:=yT u y1;have m0:=yU u (b:=y1) (by omega);have m1:=y4 u (b:=y1) (by omega);have q0:0<=u/y1:=zQ he (by omega);have q1:u/y1<=4294967297:=by
  have:u/y1<4294967298:=wT (by omega) (by omega);omega
 rw[zI]at e1;refine⟨m0,by omega,q0,q1,by omega,?_,λhq=> ?_⟩
 ·have k1:(u/y1+1)*(y1*4294967296+y0)=((u/y1)*y1)*4294967296+y1*4294967296+(u/y1)*y0+y0:=by
   rw[zR,y5,z6,zP];omega
  have k2:0<=u/y1*y0:=zF q0 hc;rw[k1];omega
 ·rw[hq]at e1;omega
def gT.stop{y1 y0 u d q r:Int}(H:rO y1 y0 u d)(h:gT y1 y0 u d q r)(h1:q<4294967296)(h2:¬4294967296*r+d<q*y0):q*(y1*4294967296+y0)<=u*4294967296+d:=by
 have k:q*(y1*4294967296+y0)=(q*y1)*4294967296+q*y0:=by rw[y5,zP]
 have:=h.e;rw[k];omega
def gT.big{y1 y0 u d q r:Int}(H:rO y1 y0 u d)(h:gT y1 y0 u d q r)(h1:4294967296<=q\/4294967296*r+d<q*y0):u*4294967296+d<q*(y1*4294967296+y0):=by
 have k:q*(y1*4294967296+y0)=(q*y1)*4294967296+q*y0:=by rw[y5,zP]
 have e:=h.e;rcases h1 with h1|h1
 ·have k2:4294967296*(y1*4294967296+y0)<=q*(y1*4294967296+y0):=zN h1 (by have:=H.ha;have:=H.hc;omega);have:=H.hf;have:=H.hh;omega
 ·rw[k];omega
def gT.pos{y1 y0 u d q r:Int}(H:rO y1 y0 u d)(h:gT y1 y0 u d q r)(h1:4294967296<=q\/4294967296*r+d<q*y0):1<=q:=by
 have k:=gT.big H h h1;have:=h.q0;rcases (show q=0\/1<=q by omega)with rfl|h2
 ·rw[xT]at k;have:=H.he;have:=H.hg;omega
 ·exact h2
def gT.next{y1 y0 u d q r:Int}(H:rO y1 y0 u d)(h:gT y1 y0 u d q r)(h1:4294967296<=q\/4294967296*r+d<q*y0)(h2:r+y1<4294967296):gT y1 y0 u d (q-1) (r+y1):=by
 have hb:=gT.big H h h1;have hp:=gT.pos H h h1;have:=H.ha;have:=h.r0;have:=h.q1;refine⟨by omega,h2,by omega,by omega,?_,?_,λhq=>by omega⟩
 ·rw[yt,z6];have:=h.e;omega
 ·rw[show q-1+1=q by omega];exact hb
def gT.brk{y1 y0 u d q r:Int}(H:rO y1 y0 u d)(h:gT y1 y0 u d q r)(h1:4294967296<=q\/4294967296*r+d<q*y0)(h2:4294967296<=r+y1):(q-1)*(y1*4294967296+y0)<=u*4294967296+d:=by
 have hp:=gT.pos H h h1;have hq:q<=4294967296:=by
  have:=h.q1;have:=h.top;omega
 have k:(q-1)*(y1*4294967296+y0)=(q*y1)*4294967296-y1*4294967296+(q-1)*y0:=by
  rw[y5,<-zP,yt q 1 y1,z6,yt]
 have k2:(q-1)*y0<=4294967296*y0:=zN (by omega) H.hc;have:=h.e;have:=H.hd;have:=H.hg;rw[k];omega
def NK(y1 y0 u d q:Int):Prop:=0<=q/\q<=4294967297/\q*(y1*4294967296+y0)<=u*4294967296+d/\u*4294967296+d<(q+1)*(y1*4294967296+y0)
def gT.y0q{y1 y0 u d q r:Int}(H:rO y1 y0 u d)(h:gT y1 y0 u d q r)(h1:q<4294967296):IntKind.u64.wrap (q*y0)=q*y0:=by
 have k1:0<=q*y0:=zF h.q0 H.hc;have k2:q*y0<=4294967295*y0:=zN (by omega) H.hc;have:=H.hd;exact gH k1 (by omega)
def gT.rr{y1 y0 u d q r:Int}(H:rO y1 y0 u d)(h:gT y1 y0 u d q r):IntKind.u64.wrap (IntKind.u64.wrap (4294967296*r)+d)=4294967296*r+d:=by
 have:=h.r0;have:=h.r1;have:=H.hg;have:=H.hh;rw[gH (n:=4294967296*r),gH]
def gT.cnd{y1 y0 u d q r:Int}(H:rO y1 y0 u d)(h:gT y1 y0 u d q r):(bif J (4294967296<=q)then V O else V (J (IntKind.u64.wrap (IntKind.u64.wrap (4294967296*r)+d)<IntKind.u64.wrap (q*y0))))=V (J (4294967296<=q\/4294967296*r+d<q*y0)):=by
 by_cases hq:4294967296<=q
 ·rw[bW hq,bW (Or.inl hq),bD]
 ·rw[bX hq,bA,gT.rr H h,gT.y0q H h (by omega)];by_cases hc:4294967296*r+d<q*y0
  ·rw[bW hc,bW (Or.inr hc)]
  ·rw[bX hc,bX (λk=>k.elim hq hc)]
def gT.done{y1 y0 u d q r:Int}(H:rO y1 y0 u d)(h:gT y1 y0 u d q r)(hr:4294967296<=q\/4294967296*r+d<q*y0->4294967296<=r+y1):NK y1 y0 u d (bif J (4294967296<=q\/4294967296*r+d<q*y0)then q-1 else q):=by
 have h0:=h.q0;have h1:=h.q1;by_cases hc:4294967296<=q\/4294967296*r+d<q*y0
 ·rw[bW hc,bD];have:=gT.pos H h hc;refine⟨by omega,by omega,gT.brk H h hc (hr hc),?_⟩;rw[show q-1+1=q by omega];exact gT.big H h hc
 ·rw[bX hc,bA];exact⟨h0,by omega,gT.stop H h (by omega) (λk=>hc (.inr k)),h.hi⟩
def gT.wr1{y1 y0 u d q r:Int}(H:rO y1 y0 u d)(h:gT y1 y0 u d q r):IntKind.u64.wrap (r+y1)=r+y1:=by
 have:=h.r0;have:=h.r1;have:=H.ha;have:=H.hb;exact gH
def gT.wq1{y1 y0 u d q r:Int}(H:rO y1 y0 u d)(h:gT y1 y0 u d q r)(hc:4294967296<=q\/4294967296*r+d<q*y0):IntKind.u64.wrap (q-1)=q-1:=by
 have:=h.q1;have:=gT.pos H h hc;exact gH
def Xc{y s y1 y0 u d e q r:Int}(H:rO y1 y0 u d)(h:gT y1 y0 u d q r):∃q' r',HZ (nV.mk y s y1 y0 u d e q r)=V (nV.mk y s y1 y0 u d e q' r')/\gT y1 y0 u d q' r'/\(4294967296<=q'\/4294967296*r'+d<q'*y0->4294967296<=r'+y1):=by
 obtain⟨z,e1,⟨q',r',rfl,hI⟩,hs⟩:=lF (rnd:=A6) (λp=>∃q r,p=nV.mk y s y1 y0 u d e q r/\gT y1 y0 u d q r) (λp=>p.t15.toNat) (λp p' ⟨q,r,hp,hI⟩ hn=>by
  subst hp;have hn:A6 (nV.mk y s y1 y0 u d e q r)=V (V p'):=hn;simp only[A6]at hn;rw[gT.cnd H hI]at hn;by_cases hc:4294967296<=q\/4294967296*r+d<q*y0
  ·rw[bW hc]at hn;simp only[bD,gT.wr1 H hI,gT.wq1 H hI hc]at hn;by_cases hb:4294967296<=r+y1
   ·rw[bW hb]at hn;cases hn
   ·rw[bX hb]at hn;simp only[bA,zA.injEq]at hn;have hp:=gT.pos H hI hc;subst hn;exact⟨⟨q-1,r+y1,rfl,gT.next H hI hc (by omega)⟩,by show (q-1).toNat<q.toNat;omega⟩
  ·rw[bX hc]at hn;cases hn) ⟨q,r,rfl,h⟩
 refine⟨q',r',e1,hI,λhc=> ?_⟩;by_cases hb:4294967296<=r'+y1
 ·exact hb
 ·exact dF (show A6 _=V (V _)by
   simp only[A6];rw[gT.cnd H hI,bW hc];simp only[bD,gT.wr1 H hI];rw[bX hb];rfl) (hs _)
def MP{y s y1 y0 u d e q r:Int}(H:rO y1 y0 u d)(h:gT y1 y0 u d q r):∃q' r',Dv (mj.mk y s y1 y0 d e r u q)=V (mj.mk y s y1 y0 d e r' u q')/\gT y1 y0 u d q' r'/\(4294967296<=q'\/4294967296*r'+d<q'*y0->4294967296<=r'+y1):=by
 obtain⟨z,e1,⟨q',r',rfl,hI⟩,hs⟩:=lF (rnd:=A9) (λp=>∃q r,p=mj.mk y s y1 y0 d e r u q/\gT y1 y0 u d q r) (λp=>p.t18.toNat) (λp p' ⟨q,r,hp,hI⟩ hn=>by
  subst hp;have hn:A9 (mj.mk y s y1 y0 d e r u q)=V (V p'):=hn;simp only[A9]at hn;rw[gT.cnd H hI]at hn;by_cases hc:4294967296<=q\/4294967296*r+d<q*y0
  ·rw[bW hc]at hn;simp only[bD,gT.wr1 H hI,gT.wq1 H hI hc]at hn;by_cases hb:4294967296<=r+y1
   ·rw[bW hb]at hn;cases hn
   ·rw[bX hb]at hn;simp only[bA,zA.injEq]at hn;have hp:=gT.pos H hI hc;subst hn;exact⟨⟨q-1,r+y1,rfl,gT.next H hI hc (by omega)⟩,by show (q-1).toNat<q.toNat;omega⟩
  ·rw[bX hc]at hn;cases hn) ⟨q,r,rfl,h⟩
 refine⟨q',r',e1,hI,λhc=> ?_⟩;by_cases hb:4294967296<=r'+y1
 ·exact hb
 ·exact dF (show A9 _=V (V _)by
   simp only[A9];rw[gT.cnd H hI,bW hc];simp only[bD,gT.wr1 H hI];rw[bX hb];rfl) (hs _)
def ala{n:Int}(h1:0<=n)(h2:n<256):IntKind.u8.wrap n=n:=by
 simp only[IntKind.wrap,IntKind.signed,IntKind.bits]at*;simp;omega
def ZD{x:Int}(k:Nat)(hk:k<=64):cL IntKind.u64 x (k:Int)=x/2^k:=by
 unfold cL;rw[show min ((k:Int)).toNat IntKind.u64.bits=k from by simp only[ze,IntKind.bits];omega];exact Int.fdiv_eq_ediv_of_nonneg _ (y7 (Int.pow_pos (by omega)))
def alo(i:Nat):Bool:=i==0||((zM 9).any λt=>(lG.data[i]!).toNat==t&&J (1<=t)&&J (2^(t-1)<=i)&&J (i<2^t))
def agd:(zM 256).all alo=O:=by kernel_rfl
def agh{x:Int}(h1:1<=x)(h2:x<256):∃t:Nat,1<=t/\t<=8/\cw lG (IntKind.u8.wrap x).toNat=(t:Int)/\2^(t-1)<=x/\x<2^t:=by
 rw[ala (by omega) h2];have h:=zw.mp agd x.toNat (List.mem_range.mpr (by omega));simp only[alo,yL,beq_iff_eq,wu,List.mem_range,zi,decide_eq_true_eq]at h;rcases h with h|⟨t,ht,⟨⟨h3,h4⟩,h5⟩,h6⟩
 ·omega
 ·have h5':((2^(t-1):Nat):Int)<=(x.toNat:Int):=Int.ofNat_le.mpr h5;have h6':((x.toNat:Nat):Int)<((2^t:Nat):Int):=Int.ofNat_lt.mpr h6;rw[Int.toNat_of_nonneg (by omega),Int.natCast_pow]at h5' h6';exact⟨t,h4,by omega,by unfold cw;rw[h3],h5',h6'⟩
def WN{a x:Int}{n t:Nat}(h1:1<=t)(h2:t<=8)(hx1:2^(t-1)<=x)(hx2:x<2^t)(hn:n<=56)(ha1:x*2^n<=a)(ha2:a<(x+1)*2^n):
  2^63<=a*2^(64-(n+t))/\a*2^(64-(n+t))<2^64:=by
 have p0:∀k:Nat,(0:Int)<2^k:=λk=>Int.pow_pos (by omega);have e1:(2:Int)^63=2^(t-1)*2^n*2^(64-(n+t)):=by
  rw[<-Int.pow_add,<-Int.pow_add];congr 1;omega
 have e2:(2:Int)^64=2^t*2^n*2^(64-(n+t)):=by
  rw[<-Int.pow_add,<-Int.pow_add];congr 1;omega
 rw[e1,e2];refine⟨zN (xU (zN hx1 (y7 (p0 n))) ha1) (y7 (p0 _)),?_⟩;refine Int.mul_lt_mul_of_pos_right (Int.lt_of_lt_of_le ha2 ?_) (p0 _);exact zN (by omega) (y7 (p0 n))
def Sf(x:Int):cL IntKind.u64 x 32=x/4294967296:=ZD (x:=x) 32 (by omega)
def ayB(x:Int):cL IntKind.u64 x 16=x/65536:=ZD (x:=x) 16 (by omega)
def aDu(x:Int):cL IntKind.u64 x 8=x/256:=ZD (x:=x) 8 (by omega)
def WB(a:Int)(r:af Int):Prop:=∃s:Nat,s<=63/\(match r with|S=>S|V r1=>V (i64.wrap (64-r1)))=V (s:Int)/\2^63<=a*2^s/\a*2^s<2^64
def iM{a x:Int}(n:Nat)(hn:n<=56)(hx1:1<=x)(hx2:x<256)(ha1:x*2^n<=a)(ha2:a<(x+1)*2^n):
  WB a (if(0:Int)<=IntKind.u8.wrap x/\IntKind.u8.wrap x<(256:Int)then V (i64.wrap ((n:Int)+i64.wrap (cw lG (IntKind.u8.wrap x).toNat)))else S):=by
 obtain⟨t,h1,h2,h3,h4,h5⟩:=agh hx1 hx2;rw[bG (by rw[ala (by omega) hx2];omega),h3];refine⟨64-(n+t),by omega,?_,WN h1 h2 h4 h5 hn ha1 ha2⟩;rw[aG (n:=(t:Int)),aG (n:=(n:Int)+t)];show V _=_;rw[aG]
 congr 1
 omega
def ag2{a:Int}(h1:1<=a)(h2:a<18446744073709551616):∃s:Nat,s<=63/\apE a=V (s:Int)/\2^63<=a*2^s/\a*2^s<2^64:=by
 show WB a (ahH a);unfold ahH;simp only[Sf,ayB,aDu];by_cases c1:4294967296<=a
 ·rw[bW c1,bD];by_cases c2:65536<=a/4294967296
  ·rw[bW c2,bD];by_cases c3:256<=a/4294967296/65536
   ·rw[bW c3,bD];exact iM 56 (by omega) (by omega) (by omega) (by omega) (by omega)
   ·rw[bX c3,bA];exact iM 48 (by omega) (by omega) (by omega) (by omega) (by omega)
  ·rw[bX c2,bA];by_cases c3:256<=a/4294967296
   ·rw[bW c3,bD];exact iM 40 (by omega) (by omega) (by omega) (by omega) (by omega)
   ·rw[bX c3,bA];exact iM 32 (by omega) (by omega) (by omega) (by omega) (by omega)
 ·rw[bX c1,bA];by_cases c2:65536<=a
  ·rw[bW c2,bD];by_cases c3:256<=a/65536
   ·rw[bW c3,bD];exact iM 24 (by omega) (by omega) (by omega) (by omega) (by omega)
   ·rw[bX c3,bA];exact iM 16 (by omega) (by omega) (by omega) (by omega) (by omega)
  ·rw[bX c2,bA];by_cases c3:256<=a
   ·rw[bW c3,bD];exact iM 8 (by omega) (by omega) (by omega) (by omega) (by omega)
   ·rw[bX c3,bA];exact iM 0 (by omega) (by omega) (by omega) (by omega) (by omega)
def arE{x:Int}(k:Nat)(hk:k<=64):mz IntKind.u64 x (k:Int)=(x*2^k)%18446744073709551616:=by
 unfold mz;rw[show min ((k:Int)).toNat IntKind.u64.bits=k from by simp only[ze,IntKind.bits];omega];exact N6 _
def JU{x:Int}(h1:0<=x)(h2:x<18446744073709551616):(BitVec.ofInt 64 x).toNat=x.toNat:=by
 rw[BitVec.toNat_ofInt]
 congr 1
 omega
def ZV{x:Int}(h1:0<=x)(h2:x<18446744073709551616):td IntKind.u64 x 4294967295=x%4294967296:=by
 unfold td;show IntKind.u64.wrap ((BitVec.ofInt 64 x&&&BitVec.ofInt 64 4294967295).toNat:Int)=_;rw[BitVec.toNat_and,JU h1 h2,JU (by omega) (by omega),show (4294967295:Int).toNat=2^32-1 from rfl,Nat.and_two_pow_sub_one_eq_mod,gH];omega
def orU{a b:Nat}{k:Nat}(hb:b<2^k)(h:2^k*a+b<18446744073709551616):bOr IntKind.u64 ((2^k*a:Nat):Int) (b:Int)=((2^k*a+b:Nat):Int):=by
 unfold bOr;show IntKind.u64.wrap ((BitVec.ofInt 64 ((2^k*a:Nat):Int)|||BitVec.ofInt 64 (b:Int)).toNat:Int)=_;rw[BitVec.toNat_or,JU (by omega) (by omega),JU (by omega) (by omega),ze,ze,<-Nat.two_pow_add_eq_or_of_lt hb,gH]
def jU{a b:Int}(h1:0<=a:=by omega):a.tdiv b=a/b:=Int.tdiv_eq_ediv_of_nonneg h1
def kj{a b:Int}(h1:0<=a:=by omega):a.tmod b=a%b:=Int.tmod_eq_emod_of_nonneg h1
def wq0{u y1:Int}(h1:0<=u)(h2:u<18446744073709551616)(h3:2<=y1):IntKind.u64.wrap (u.tdiv y1)=u/y1:=by
 rw[jU h1];have:u/y1<=u:=ye _ h1;exact gH (zQ h1 (by omega)) (by omega)
def wr0{u y1:Int}(h1:0<=u)(h2:u<18446744073709551616)(h3:2<=y1):IntKind.u64.wrap (u-IntKind.u64.wrap (u/y1*y1))=u%y1:=by
 have e:=yT u y1;have m0:=yU u (b:=y1) (by omega);rw[zI]at e;have q0:0<=u/y1*y1:=zF (zQ h1 (by omega)) (by omega);rw[gH (n:=u/y1*y1) q0 (by omega),gH];omega
def amA{u d q y:Int}(h1:q*y<=u*4294967296+d)(h2:u*4294967296+d<(q+1)*y)(hy:y<18446744073709551616):
  IntKind.u64.wrap (IntKind.u64.wrap (IntKind.u64.wrap (u*4294967296)+d)-IntKind.u64.wrap (q*y))=u*4294967296+d-q*y:=by
 rw[zR,z6]at h2;generalize q*y=z at*;simp only[N6];omega
def ar7{hi lo y:Int}(h0:0<=hi)(h1:hi<y)(h2:y<18446744073709551616)(h3:0<=lo)(h4:lo<18446744073709551616):∃q,Zh hi lo y=V (q,(hi*18446744073709551616+lo)%y):=by
 by_cases hz:hi=0
 ·subst hz;refine⟨IntKind.u64.wrap (lo.tdiv y),?_⟩;unfold Zh;rw[gd,gd,bW rfl,bA,bA,bD,ig,ig,kj h3];rw[show (0:Int)*18446744073709551616+lo=lo by omega]
 obtain⟨s,hs,es,b1,b2⟩:=ag2 (a:=y) (by omega) h2;have hP:(0:Int)<2^s:=Int.pow_pos (by omega);have hQ:(0:Int)<2^(64-s):=Int.pow_pos (by omega);have hPQ:(2:Int)^(64-s)*2^s=18446744073709551616:=by rw[<-Int.pow_add,show 64-s+s=64 by omega];rfl
 have b1:(9223372036854775808:Int)<=y*2^s:=b1;have b2:y*2^s<18446744073709551616:=b2;have eY:mz IntKind.u64 y (s:Int)=y*2^s:=by rw[arE s (by omega),Int.emod_eq_of_lt (by omega) b2]
 have lb:lo/2^(64-s)<2^s:=wT hQ (by rw[zI,hPQ];exact h4);have lb0:0<=lo/2^(64-s):=zQ h3 (by omega);have hy1:(hi+1)*2^s<=y*2^s:=zN (by omega) (by omega);have hy2:(hi+1)*2^s=hi*2^s+2^s:=by rw[zR,z6]
 have hp0:0<=hi*2^s:=zF h0 (by omega);have eU:bOr IntKind.u64 (mz IntKind.u64 hi (s:Int)) (cL IntKind.u64 lo (IntKind.u64.wrap (64-(s:Int))))=hi*2^s+lo/2^(64-s):=by
  rw[arE s (by omega),Int.emod_eq_of_lt hp0 (by omega),gH (n:=64-(s:Int)),show (64-(s:Int))=((64-s:Nat):Int)by omega,ZD (64-s) (by omega)];obtain⟨a,rfl⟩:=wU h0;obtain⟨b,hb⟩:=wU lb0;rw[hb]at lb ⊢;have e:(a:Int)*2^s=((2^s*a:Nat):Int):=by rw[xI,Int.natCast_pow,zI];rfl
  have lb':b<2^s:=by
   have:((b:Nat):Int)<((2^s:Nat):Int):=by rw[Int.natCast_pow];exact lb
   exact Int.ofNat_lt.mp this
  rw[e]at hp0 hy2 ⊢;rw[orU lb' (by omega)];omega
 have eD:mz IntKind.u64 lo (s:Int)=(lo*2^s)%18446744073709551616:=arE s (by omega);have key:(hi*18446744073709551616+lo)*2^s=(hi*2^s+lo/2^(64-s))*18446744073709551616+(lo*2^s)%18446744073709551616:=by
  have k1:=yT (lo*2^s) 18446744073709551616;have k2:lo*2^s/18446744073709551616=lo/2^(64-s):=by rw[<-hPQ];exact Int.mul_ediv_mul_of_pos_left _ _ hP
  rw[k2]at k1;rw[zR,zP,zI 18446744073709551616 (2^s),<-zP];omega
 have hD0:0<=(lo*2^s)%18446744073709551616:=by omega
 have hD1:(lo*2^s)%18446744073709551616<18446744073709551616:=by omega
 have hU0:0<=hi*2^s+lo/2^(64-s):=by omega
 have hU1:hi*2^s+lo/2^(64-s)<y*2^s:=by omega
 have res:∀Q,Q*(y*2^s)<=(hi*18446744073709551616+lo)*2^s->(hi*18446744073709551616+lo)*2^s<(Q+1)*(y*2^s)->((hi*18446744073709551616+lo)*2^s-Q*(y*2^s))/2^s=(hi*18446744073709551616+lo)%y:=λQ q1 q2=>by
  rw[<-zP,<-yt,Int.mul_ediv_cancel _ (by omega)];rw[<-zP]at q1 q2;have q1:=Int.le_of_mul_le_mul_right q1 hP;have q2:=wL q2 (y7 hP);rw[zR,z6]at q2;have e:=yT (hi*18446744073709551616+lo) y;generalize hi*18446744073709551616+lo=X at*;have:X/y=Q:=by
   apply Int.le_antisymm
   ·have:X/y<Q+1:=wT (by omega) (by rw[zR,z6];exact q2);omega
   ·exact Int.le_ediv_of_mul_le (by omega) q1
  rw[this,zI]at e;omega
 rw[key]at res;unfold Zh;rw[bX (show ¬y=0 by omega),bX (show ¬y<=hi by omega),bX hz,bA,bA,bA,es];simp only[gH (n:=(s:Int))];rw[eY,eU,eD,gH (n:=64-(s:Int)),ig,ig,ig,ig];generalize hi*2^s+lo/2^(64-s)=U at*;generalize (lo*2^s)%18446744073709551616=D at*;generalize y*2^s=Y at*;clear eY eU eD key hy1 hy2 hp0 lb lb0 hPQ hQ h1 hz;have eY1:Y/4294967296*4294967296+Y%4294967296=Y:=by omega
 have H0:rO (Y/4294967296) (Y%4294967296) U (D/4294967296):=⟨by omega,by omega,by omega,by omega,hU0,by omega,by omega,by omega⟩;have hU2:U<18446744073709551616:=by omega
 rw[Sf,Sf,ZV hD0 hD1,ZV (by omega) b2,ig,wq0 hU0 hU2 (by omega),wr0 hU0 hU2 (by omega)];obtain⟨q1,r1,e1,I1,s1⟩:=Xc (y:=Y) (s:=(s:Int)) (e:=D%4294967296) H0 (gT.start H0);rw[e1];have D1:=gT.done H0 I1 s1;simp only[gT.cnd H0 I1,gT.wr1 H0 I1];have second:∀Q1,NK (Y/4294967296) (Y%4294967296) U (D/4294967296) Q1->∃W,rO (Y/4294967296) (Y%4294967296) W (D%4294967296)/\IntKind.u64.wrap (IntKind.u64.wrap (IntKind.u64.wrap (U*4294967296)+D/4294967296)-IntKind.u64.wrap (Q1*Y))=W/\W=U*4294967296+D/4294967296-Q1*Y/\0<=W/\W<Y:=λQ1 hk=>by
  unfold NK at hk;rw[eY1]at hk;obtain⟨k0,k1,k2,k3⟩:=hk;have k4:=k3;rw[zR,z6]at k4;exact⟨_,⟨by omega,by omega,by omega,by omega,by omega,by omega,by omega,by omega⟩,amA k2 k3 b2,rfl,by omega,by omega⟩
 have fin:∀Q1 Q2 W,W=U*4294967296+D/4294967296-Q1*Y->NK (Y/4294967296) (Y%4294967296) W (D%4294967296) Q2->cL IntKind.u64 (IntKind.u64.wrap (IntKind.u64.wrap (IntKind.u64.wrap (W*4294967296)+D%4294967296)-IntKind.u64.wrap (Q2*Y))) (s:Int)=(hi*18446744073709551616+lo)%y:=λQ1 Q2 W hW hk=>by
  unfold NK at hk;rw[eY1]at hk;obtain⟨k0,k1,k2,k3⟩:=hk;rw[amA k2 k3 b2,ZD s (by omega)];have e:U*18446744073709551616+D=W*4294967296+D%4294967296+Q1*4294967296*Y:=by
   rw[hW,zP,zI 4294967296 Y,<-zP];omega
  rw[<-res (Q1*4294967296+Q2)]
  ·congr 1
   rw[zR];omega
  ·rw[zR];omega
  ·rw[zR,z6]at k3;rw[Int.add_assoc,zR,zR Q2,z6];omega
 by_cases c1:4294967296<=q1\/4294967296*r1+D/4294967296<q1*(Y%4294967296)
 ·rw[bW c1]at D1 ⊢;rw[bD]at D1;rw[bD,bW (s1 c1),bD,ig,gT.wq1 H0 I1 c1];obtain⟨W,H1,w1,w2,w3,w4⟩:=second _ D1;rw[w1,wq0 w3 (by omega) (by omega),wr0 w3 (by omega) (by omega)];obtain⟨q2,r2,e2,I2,s2⟩:=MP (y:=Y) (s:=(s:Int)) (e:=q1-1) H1 (gT.start H1);rw[e2];have D2:=gT.done H1 I2 s2;simp only[gT.cnd H1 I2,gT.wr1 H1 I2];by_cases c2:4294967296<=q2\/4294967296*r2+D%4294967296<q2*(Y%4294967296)
  ·rw[bW c2]at D2 ⊢;rw[bD]at D2;rw[bD,bW (s2 c2),bD,ig,gT.wq1 H1 I2 c2,fin _ _ W w2 D2];exact⟨_,rfl⟩
  ·rw[bX c2]at D2 ⊢;rw[bA]at D2;rw[bA,ig,fin _ _ W w2 D2];exact⟨_,rfl⟩
 ·rw[bX c1]at D1 ⊢;rw[bA]at D1;rw[bA,ig];obtain⟨W,H1,w1,w2,w3,w4⟩:=second _ D1;rw[w1,wq0 w3 (by omega) (by omega),wr0 w3 (by omega) (by omega)];obtain⟨q2,r2,e2,I2,s2⟩:=MP (y:=Y) (s:=(s:Int)) (e:=q1) H1 (gT.start H1);rw[e2];have D2:=gT.done H1 I2 s2;simp only[gT.cnd H1 I2,gT.wr1 H1 I2];by_cases c2:4294967296<=q2\/4294967296*r2+D%4294967296<q2*(Y%4294967296)
  ·rw[bW c2]at D2 ⊢;rw[bD]at D2;rw[bD,bW (s2 c2),bD,ig,gT.wq1 H1 I2 c2,fin _ _ W w2 D2];exact⟨_,rfl⟩
  ·rw[bX c2]at D2 ⊢;rw[bA]at D2;rw[bA,ig,fin _ _ W w2 D2];exact⟨_,rfl⟩
def mul_lt{a b m n:Int}(h1:0<=a)(h2:a<=m)(h3:0<=b)(h4:b<=n):0<=a*b/\a*b<=m*n:=
 ⟨zF h1 h3,xA h2 h4 h3 (by omega)⟩
def amU{x y:Int}(h1:0<=x)(h2:x<18446744073709551616)(h3:0<=y)(h4:y<18446744073709551616):WV x y=(x*y/18446744073709551616,x*y%18446744073709551616):=by
 unfold WV;simp only[Sf,ZV h1 h2,ZV h3 h4];have e:x*y=(x/4294967296*(y/4294967296))*18446744073709551616+(x/4294967296*(y%4294967296))*4294967296+(x%4294967296*(y/4294967296))*4294967296+x%4294967296*(y%4294967296):=by
  conv=>lhs;rw[show x=x/4294967296*4294967296+x%4294967296 by omega,show y=y/4294967296*4294967296+y%4294967296 by omega]
  generalize x/4294967296=a;generalize x%4294967296=b;generalize y/4294967296=c;generalize y%4294967296=d;rw[zR,y5,y5,zP,Int.mul_left_comm 4294967296 c,zP,zI 4294967296 d,<-zP b,<-zP a d,<-zP a c];omega
 obtain⟨a0,a1⟩:=mul_lt (a:=x/4294967296) (b:=y/4294967296) (m:=4294967295) (n:=4294967295) (by omega) (by omega) (by omega) (by omega);obtain⟨b0,b1⟩:=mul_lt (a:=x/4294967296) (b:=y%4294967296) (m:=4294967295) (n:=4294967295) (by omega) (by omega) (by omega) (by omega);obtain⟨c0,c1⟩:=mul_lt (a:=x%4294967296) (b:=y/4294967296) (m:=4294967295) (n:=4294967295) (by omega) (by omega) (by omega) (by omega);obtain⟨d0,d1⟩:=mul_lt (a:=x%4294967296) (b:=y%4294967296) (m:=4294967295) (n:=4294967295) (by omega) (by omega) (by omega) (by omega);rw[e];generalize x/4294967296*(y/4294967296)=A at*;generalize x/4294967296*(y%4294967296)=B at*;generalize x%4294967296*(y/4294967296)=C at*;generalize x%4294967296*(y%4294967296)=D at*;rw[gH (n:=A),gH (n:=B),gH (n:=C),gH (n:=D),
  gH (n:=B+D/4294967296),ZV (by omega) (by omega),gH (n:=(B+D/4294967296)%4294967296+C)]
 rw[gH (n:=A+(B+D/4294967296)/4294967296),gH,N6]
 congr 1
 omega
def ap5{x y m:Int}(h1:0<=x)(h2:x<m)(h3:0<=y)(h4:y<m)(h5:m<9223372036854775808):adr x y m=V (x*y%m):=by
 unfold adr;rw[gH h1 (by omega),gH h3 (by omega),gH (n:=m),amU h1 (by omega) h3 (by omega)];simp only;obtain⟨k0,k1⟩:=mul_lt (a:=x) (b:=y) (m:=m) (n:=m-1) h1 (by omega) h3 (by omega);have hx:x*y<m*18446744073709551616:=by
  have:m*(m-1)<=m*18446744073709551615:=wV (by omega) (by omega);omega
 unfold arU;have hh:x*y/18446744073709551616<m:=wT (by omega) hx;have hh0:0<=x*y/18446744073709551616:=by omega
 rw[ig,kj hh0,Int.emod_eq_of_lt hh0 hh];obtain⟨q,e⟩:=ar7 hh0 hh (by omega) (show 0<=x*y%18446744073709551616 by omega) (by omega);rw[e,show x*y/18446744073709551616*18446744073709551616+x*y%18446744073709551616=x*y by omega];simp only;have r0:=yU (x*y) (b:=m) (by omega);have r1:=y4 (x*y) (b:=m) (by omega);rw[aG]
def cn(a b:Int):Int:=((yD a b:Nat):Int)
def pW{a b:Int}(h1:0<=a)(h2:0<=b):yD b (a.tmod b)=yD a b:=by
 obtain⟨x,rfl⟩:=wU h1;obtain⟨y,rfl⟩:=wU h2;rw[kj h1];show Nat.gcd y ((x:Int)%(y:Int)).natAbs=Nat.gcd x y;rw[<-Int.natCast_emod,Int.natAbs_natCast,Nat.gcd_comm,<-Nat.gcd_rec,Nat.gcd_comm]
def ako{a:Int}(h:0<=a):((yD a 0:Nat):Int)=a:=by
 rw[Int.gcd_zero_right];omega
def BG{x:Int}:(bif J (x=0)then G else O)=J (¬x=0):=by
 by_cases h:x=0
 ·rw[bW h,bX (λk=>k h)];rfl
 ·rw[bX h,bW h];rfl
def apQ{a b:Int}(h1:0<=a)(h2:0<=b):Qc (pE.mk a b)=V (pE.mk (yD a b) 0):=by
 obtain⟨z,e,⟨x,y,rfl,hx,hy,hg⟩,hs⟩:=lF (rnd:=sY) (λp=>∃x y,p=pE.mk x y/\0<=x/\0<=y/\yD x y=yD a b) (λp=>p.t1.toNat) (λp p' ⟨x,y,hp,hx,hy,hg⟩ hn=>by
  subst hp;have hn:sY (pE.mk x y)=V (V p'):=hn;simp only[sY,BG]at hn;by_cases h0:y=0
  ·rw[gd,bA]at hn;cases hn
  ·rw[bW h0,bD,bG h0]at hn;simp only[zA.injEq]at hn;subst hn;have m0:=yU x (b:=y) h0;have m1:=y4 x (b:=y) (by omega);refine⟨⟨y,x.tmod y,rfl,hy,by rw[kj hx];exact m0,by rw[pW hx hy,hg]⟩,?_⟩;show (x.tmod y).toNat<y.toNat
   rw[kj hx];omega) ⟨a,b,rfl,h1,h2,rfl⟩
 have h0:y=0:=Decidable.byContradiction λh0=>hs _ (show sY _=V (V _)by
  simp only[sY,BG];rw[bW h0,bD,bG h0])
 subst h0;rw[show Qc=bK sY from rfl,e,<-hg,ako hx]
def B5{a b:Int}(h1:0<=a)(h2:0<=b):Er a b=V (cn a b):=by
 unfold Er;rw[apQ h1 h2];rfl
def aqh{a b k n:Int}{l:aa Int}(h1:0<=a)(h2:0<=b):AS (mc.mk a b l n k)=V (mc.mk (yD a b) 0 l n k):=by
 obtain⟨z,e,⟨x,y,rfl,hx,hy,hg⟩,hs⟩:=lF (rnd:=sD) (λp=>∃x y,p=mc.mk x y l n k/\0<=x/\0<=y/\yD x y=yD a b) (λp=>p.t5.toNat) (λp p' ⟨x,y,hp,hx,hy,hg⟩ hn=>by
  subst hp;have hn:sD (mc.mk x y l n k)=V (V p'):=hn;simp only[sD,BG]at hn;by_cases h0:y=0
  ·rw[gd,bA]at hn;cases hn
  ·rw[bW h0,bD,bG h0]at hn;simp only[zA.injEq]at hn;subst hn;have m0:=yU x (b:=y) h0;have m1:=y4 x (b:=y) (by omega);refine⟨⟨y,x.tmod y,rfl,hy,by rw[kj hx];exact m0,by rw[pW hx hy,hg]⟩,?_⟩;show (x.tmod y).toNat<y.toNat
   rw[kj hx];omega) ⟨a,b,rfl,h1,h2,rfl⟩
 have h0:y=0:=Decidable.byContradiction λh0=>hs _ (show sD _=V (V _)by
  simp only[sD,BG];rw[bW h0,bD,bG h0])
 subst h0;rw[show AS=bK sD from rfl,e,<-hg,ako hx]
def CZ{a k k1:Int}{l:aa Int}(i:Nat)(h1:0<=a)(hk:k=i)(hk1:k1=i+1)(hi:i<l.length)(hl:l.length<=1000)(h2:0<=l[i]!):sx (sB.mk a l l.length k)=V (V (sB.mk (cn a l[i]!) l l.length k1)):=by
 subst hk hk1;unfold sx;simp only;rw[nj,bD,ig,ze,aqh h1 h2];simp only;rw[bW trivial,bD,bA,aG];rfl
def Fq{a b:Int}(h1:0<=a)(h2:0<=b):Bu [a,b]=V (cn a b):=by
 unfold Bu;rw[show CD=bK sx from rfl,
  bQ (CZ (l:=[a,b]) (k:=0) (k1:=1) 0 (zq 0) rfl rfl (by simp) (by simp) h1),bQ (CZ (l:=[a,b]) (k:=1) (k1:=2) 1 (by unfold cn;omega) rfl rfl (by simp) (by simp) h2)]
 rw[cu (by intro r hr;simp[sx]at hr)];simp only;rw[bX (by simp),bA];show V (cn (cn 0 a) b)=_;unfold cn;rw[Int.gcd_zero_left,show ((a.natAbs:Nat):Int)=a by omega]
def Df{a b c:Int}(h1:0<=a)(h2:0<=b)(h3:0<=c):Bu [a,b,c]=V (cn (cn a b) c):=by
 unfold Bu;rw[show CD=bK sx from rfl,
  bQ (CZ (l:=[a,b,c]) (k:=0) (k1:=1) 0 (zq 0) rfl rfl (by simp) (by simp) h1),bQ (CZ (l:=[a,b,c]) (k:=1) (k1:=2) 1 (by unfold cn;omega) rfl rfl (by simp) (by simp) h2),
  bQ (CZ (l:=[a,b,c]) (k:=2) (k1:=3) 2 (by unfold cn;omega) rfl rfl (by simp) (by simp) h3)]
 rw[cu (by intro r hr;simp[sx]at hr)];simp only;rw[bX (by simp),bA];show V (cn (cn (cn 0 a) b) c)=_;rw[show cn 0 a=a from by unfold cn;rw[Int.gcd_zero_left];omega]
end Go.Proofs.YtnfljbehcffmcaaGreat
end
noncomputable section
namespace Go.Iv
open Go
variable [U:ru] [L:l7]
def Ll{α β ρ τ:Type}(step:Nat->β->α->β ⊕ ρ)(out:ρ->τ)(fin:β->τ):aa α->Nat->β->τ
 |[],_,b=>fin b
 |x::xs,i,b=>match step i b x with
  | .inl b'=>Ll step out fin xs (i+1) b'
  | .inr r=>out r
def rz{α β ρ τ:Type}{step:Nat->β->α->β ⊕ ρ}{out:ρ->τ}{fin:β->τ}{x:α}{xs:aa α}{i:Nat}{b b':β}(h:step i b x= .inl b'):Ll step out fin (x::xs) i b=Ll step out fin xs (i+1) b':=by
 simp only[Ll,h]
def ny{α β ρ τ:Type}{step:Nat->β->α->β ⊕ ρ}{out:ρ->τ}{fin:β->τ}{x:α}{xs:aa α}{i:Nat}{b:β}{r:ρ}(h:step i b x= .inr r):Ll step out fin (x::xs) i b=out r:=by
 simp only[Ll,h]
def Sl{γ α β ρ τ:Type}[Inhabited α]{rnd:γ->af (af γ)}(l:aa α)(mk:Nat->β->γ)(step:Nat->β->α->β ⊕ ρ)(out:ρ->τ)(fin:β->τ)(I:Nat->β->Prop)
  (h1:∀i b,i<l.length->I i b->(∀b',step i b l[i]! = .inl b'->rnd (mk i b)=V (V (mk (i+1) b'))/\I (i+1) b')/\∀r,step i b l[i]! = .inr r->rnd (mk i b)=V S)
  (h2:∀b,I l.length b->rnd (mk l.length b)=V S) {b:β} (hb:I 0 b):
  ∃i v,bK rnd (mk 0 b)=V (mk i v)/\I i v/\((i=l.length/\Ll step out fin l 0 b=fin v)\/(i<l.length/\∃r,step i v l[i]! = .inr r/\Ll step out fin l 0 b=out r)):=by
 have key:∀(xs:aa α) (i:Nat) (b:β),l.drop i=xs->i<=l.length->I i b->∃j v,bK rnd (mk i b)=V (mk j v)/\I j v/\((j=l.length/\Ll step out fin xs i b=fin v)\/(j<l.length/\∃r,step j v l[j]! = .inr r/\Ll step out fin xs i b=out r)):=by
  intro xs;induction xs with
  |nil=>
   intro i b hd hi hb;have:i=l.length:=by have:=congrArg zS hd;simp at this;omega
   subst this;exact⟨_,b,cu (λr=>by rw[h2 b hb];simp),hb, .inl ⟨rfl,rfl⟩⟩
  |cons x xs ih=>
   intro i b hd hi hb;have hil:i<l.length:=by have:=congrArg zS hd;simp at this;omega
   have hx:l[i]! =x:=by
    have:=congrArg List.head? hd;rw[List.head?_drop,zu hil]at this;rw[getElem!_pos l i hil];simpa using this
   have hd':l.drop (i+1)=xs:=by
    have:=congrArg List.tail hd;rw[List.tail_drop]at this;simpa using this
   obtain⟨p1,p2⟩:=h1 i b hil hb;cases hs:step i b x with
   |inl b'=>
    obtain⟨q1,q2⟩:=p1 b' (by rw[hx];exact hs);obtain⟨j,v,e2,e3,e4⟩:=ih (i+1) b' hd' hil q2;rw[rz hs];exact⟨j,v,by rw[bQ q1];exact e2,e3,e4⟩
   |inr r=>
    rw[ny hs];exact⟨i,b,cu (λr'=>by rw[p2 r (by rw[hx];exact hs)];simp),hb, .inr ⟨hil,r,by rw[hx];exact hs,rfl⟩⟩
 exact key l 0 b rfl (yZ _) hb
def bh{α:Type}[Inhabited α]{l:aa α}{i:Nat}(h:i<l.length):l[i]!∈l:=by rw[getElem!_pos l i h];exact xM h
def fG{i n:Nat}(h:i<n)(hn:n<=1000000):IntKind.i64.wrap ((i:Int)+1)=((i+1:Nat):Int):=by rw[aG];omega
def oE{γ β:Type}{rnd:γ->af (af γ)}(n:Nat)(mk:Nat->β->γ)(I zb:Nat->β->Prop)
  (h1:∀i b,i<n->I i b->(∃b',rnd (mk i b)=V (V (mk (i+1) b'))/\I (i+1) b')\/(rnd (mk i b)=V S/\zb i b))
  (h2:∀b,I n b->rnd (mk n b)=V S) {b:β} (hb:I 0 b):
  ∃i v,bK rnd (mk 0 b)=V (mk i v)/\I i v/\(i=n\/(i<n/\zb i v)):=by
 have key:∀(k i:Nat) (b:β),i+k=n->I i b->∃j v,bK rnd (mk i b)=V (mk j v)/\I j v/\(j=n\/(j<n/\zb j v)):=by
  intro k;induction k with
  |zero=>
   intro i b hi hb;have:i=n:=by omega
   subst this;exact⟨_,b,cu (λr=>by rw[h2 b hb];simp),hb, .inl rfl⟩
  |succ k ih=>
   intro i b hi hb;rcases h1 i b (by omega) hb with ⟨b',q1,q2⟩|⟨q1,q2⟩
   ·rw[bQ q1];exact ih (i+1) b' (by omega) q2
   ·exact⟨i,b,cu (λr=>by rw[q1];simp),hb, .inr ⟨by omega,q2⟩⟩
 exact key n 0 b (by omega) hb
def cZ{γ β:Type}{rnd:γ->af (af γ)}(n:Nat)(mk:Nat->β->γ)(I:Nat->β->Prop)
  (h1:∀i b,i<n->I i b->∃b',rnd (mk i b)=V (V (mk (i+1) b'))/\I (i+1) b')
  (h2:∀b,I n b->rnd (mk n b)=V S) {b:β} (hb:I 0 b):∃v,bK rnd (mk 0 b)=V (mk n v)/\I n v:=by
 obtain⟨i,v,e,hi,h⟩:=oE n mk I (λ_ _=>False) (λi b hi hb=> .inl (h1 i b hi hb)) h2 hb;rcases h with rfl|⟨_,h⟩
 ·exact⟨v,e,hi⟩
 ·exact h.elim
def cq{α:Type}(c:Nat->α->Int):aa α->Nat->Int
 |[],_=>0
 |x::xs,i=>if c i x=0 then cq c xs (i+1)else c i x
def rX{γ α:Type}[Inhabited α]{rnd:γ->af (af γ)}(l:aa α)(mk:Nat->γ)(c:Nat->α->Int)
  (h1:∀i,i<l.length->(c i l[i]! =0->rnd (mk i)=V (V (mk (i+1))))/\(c i l[i]!≠0->rnd (mk i)=V S))
  (h2:rnd (mk l.length)=V S):
  ∃i,bK rnd (mk 0)=V (mk i)/\((i=l.length/\cq c l 0=0)\/(i<l.length/\c i l[i]!≠0/\cq c l 0=c i l[i]!)):=by
 have key:∀(xs:aa α) (i:Nat),l.drop i=xs->i<=l.length->∃j,bK rnd (mk i)=V (mk j)/\((j=l.length/\cq c xs i=0)\/(j<l.length/\c j l[j]!≠0/\cq c xs i=c j l[j]!)):=by
  intro xs;induction xs with
  |nil=>
   intro i hd hi;have:i=l.length:=by have:=congrArg zS hd;simp at this;omega
   subst this;exact⟨_,cu (λr=>by rw[h2];simp), .inl ⟨rfl,rfl⟩⟩
  |cons x xs ih=>
   intro i hd hi;have hil:i<l.length:=by have:=congrArg zS hd;simp at this;omega
   have hx:l[i]! =x:=by
    have:=congrArg List.head? hd;rw[List.head?_drop,zu hil]at this;rw[getElem!_pos l i hil];simpa using this
   have hd':l.drop (i+1)=xs:=by
    have:=congrArg List.tail hd;rw[List.tail_drop]at this;simpa using this
   obtain⟨p1,p2⟩:=h1 i hil;unfold cq;rw[hx]at p1 p2;by_cases hc:c i x=0
   ·rw[bG hc,bQ (p1 hc)];exact ih (i+1) hd' hil
   ·rw[bP hc];exact⟨i,cu (λr=>by rw[p2 hc];simp), .inr ⟨hil,by rw[hx];exact hc,by rw[hx]⟩⟩
 exact key l 0 rfl (yZ _)
def qm{γ α:Type}[Inhabited α]{rnd:γ->af (af γ)}(l:aa α)(mk:Nat->γ)(c:Nat->α->Bool)
  (h1:∀i,i<l.length->(c i l[i]! =O->rnd (mk i)=V (V (mk (i+1))))/\(c i l[i]! =G->rnd (mk i)=V S))
  (h2:rnd (mk l.length)=V S):
  ∃i,bK rnd (mk 0)=V (mk i)/\((i=l.length/\∀j,j<l.length->c j l[j]! =O)\/(i<l.length/\c i l[i]! =G)):=by
 obtain⟨i,v,e,hI,h⟩:=oE (β:=Unit) (rnd:=rnd) l.length (λi _=>mk i) (λi _=>∀j,j<i->c j l[j]! =O) (λi _=>c i l[i]! =G) (λi b hi hI=>by
   obtain⟨p1,p2⟩:=h1 i hi;cases hc:c i l[i]! with
   |true=>exact .inl ⟨(),p1 hc,λj hj=>by
     rcases y8.1 hj with h|h
     ·exact hI j h
     ·subst h;exact hc⟩
   |false=>exact .inr ⟨p2 hc,rfl⟩) (λb _=>h2) (b:=()) (λj hj=>dF hj (by omega))
 refine⟨i,e,?_⟩;rcases h with h|h
 ·subst h;exact .inl ⟨rfl,hI⟩
 ·exact .inr h
def DV{α:Type}[Inhabited α]{l:aa α}{p:α->Bool}(h:∀j,j<l.length->p l[j]! =O):l.all p=O:=by
 rw[zw];intro x hx;obtain⟨i,hi,e⟩:=yY hx;have:=h i hi;rw[getElem!_pos l i hi,e]at this;exact this
def ux{α:Type}[Inhabited α]{l:aa α}{p:α->Bool}{i:Nat}(hi:i<l.length)(h:p l[i]! =G):l.all p=G:=by
 cases ha:l.all p with
 |false=>rfl
 |true=>
  rw[zw]at ha;rw[ha _ (bh hi)]at h;exact dF h (by decide)
def uB{α:Type}[Inhabited α]{l:aa α}{p:α->Bool}(h:∀j,j<l.length->p l[j]! =G):l.any p=G:=by
 cases ha:l.any p with
 |false=>rfl
 |true=>
  obtain⟨x,hx,e⟩:=wu.1 ha;obtain⟨i,hi,e2⟩:=yY hx;have:=h i hi;rw[getElem!_pos l i hi,e2,e]at this;exact dF this (by decide)
def CX{α:Type}[Inhabited α]{l:aa α}{p:α->Bool}{i:Nat}(hi:i<l.length)(h:p l[i]! =O):l.any p=O:=
 wu.2 ⟨_,bh hi,h⟩
def bI{α:Type}[Inhabited α]{l:aa α}{i:Nat}(h:i<l.length):l.take (i+1)=l.take i++[l[i]!]:=by
 rw[getElem!_pos l i h];exact(List.take_append_getElem h).symm
end Go.Iv
end
noncomputable section
set_option maxRecDepth 100000
namespace Go.Proofs.YtnfljbehcffmcaaGreat
open Go Go.Iv
open Go.IntKind (i64 u64)
def cG:aH:=aH.mk 1 0 0
structure NN (a:aH):Prop where
 lo: -1099511627776<=a.ag
 hi:a.ah<=1099511627776
 le:a.ag<=a.ah
 st:(a.ag=a.ah/\a.ai=0)\/(a.ag<a.ah/\1<=a.ai/\(a.ah-a.ag)%a.ai=0)
def NV(a:aH):Prop:=a=cG\/NN a
def NN.s0{a:aH}(h:NN a):0<=a.ai:=by rcases h.st with ⟨_,h⟩|⟨_,h,_⟩<;>omega
def NN.dvd{a:aH}(h:NN a):a.ai∣a.ah-a.ag:=by
 rcases h.st with ⟨h1,h2⟩|⟨_,_,h3⟩
 ·rw[h2,h1];exact⟨0,by omega⟩
 ·exact wM h3
def NN.sle{a:aH}(h:NN a):a.ai<=a.ah-a.ag:=by
 rcases h.st with ⟨h1,h2⟩|⟨h1,_,h3⟩
 ·omega
 ·exact Int.le_of_dvd (by omega) (wM h3)
def NN.ne{a:aH}(h:NN a):a≠cG:=λe=>by
 have:=h.le;rw[e]at this;exact dF this (by decide)
def BM{a b:aH}(h1:a.ag=b.ag)(h2:a.ah=b.ah)(h3:a.ai=b.ai):a=b:=by
 cases a;cases b;simp only at h1 h2 h3;subst h1 h2 h3;rfl
def fJ(x:Int):aH:=aH.mk x x 0
def NN.one{x:Int}(h1: -1099511627776<=x)(h2:x<=1099511627776):NN (fJ x):=⟨h1,h2,zq _, .inl ⟨rfl,rfl⟩⟩
structure dz (P:Int->Prop) (c:aH):Prop where
 lo:P c.ag
 hi:P c.ah
 all:∀x,P x->c.ag<=x/\x<=c.ah/\c.ai∣x-c.ag
 nn:0<=c.ai
 best:∀d,(∀x,P x->d∣x-c.ag)->d∣c.ai
def dz.uniq{P:Int->Prop}{c d:aH}(h:dz P c)(k:dz P d):c=d:=by
 have e1:c.ag=d.ag:=Int.le_antisymm (h.all _ k.lo).1 (k.all _ h.lo).1;have e2:c.ah=d.ah:=Int.le_antisymm (k.all _ h.hi).2.1 (h.all _ k.hi).2.1;refine BM e1 e2 (Int.dvd_antisymm h.nn k.nn (k.best _ λx hx=>by rw[<-e1];exact(h.all x hx).2.2) (h.best _ λx hx=>by rw[e1];exact(k.all x hx).2.2))
def dz.congr{P Q:Int->Prop}{c:aH}(h:dz P c)(k:∀x,P x↔Q x):dz Q c:=
 ⟨(k _).mp h.lo,(k _).mp h.hi,λx hx=>h.all x ((k x).mpr hx),h.nn,λd hd=>h.best d λx hx=>hd x ((k x).mp hx)⟩
def dz.valid{P:Int->Prop}{c:aH}(h:dz P c)(hP:∀x,P x-> -1099511627776<=x/\x<=1099511627776):NN c:=by
 have h1:=hP _ h.lo;have h2:=hP _ h.hi;obtain⟨h3,_,h4⟩:=h.all _ h.hi;refine⟨h1.1,h2.2,h3,?_⟩;have h5:=h.nn;rcases Int.lt_or_eq_of_le h3 with h6|h6
 ·refine .inr ⟨h6,?_,Int.emod_eq_zero_of_dvd h4⟩;rcases Int.lt_or_eq_of_le h5 with h7|h7
  ·omega
  ·rw[<-h7]at h4;have:=xV.mp h4;omega
 ·refine .inl ⟨h6,?_⟩;have:=h.best 0 λx hx=>by
   obtain⟨a1,a2,_⟩:=h.all x hx;exact⟨0,by omega⟩
  exact xV.mp this
def bT(a:aH)(x:Int):Prop:=a.ag<=x/\x<=a.ah/\a.ai∣x-a.ag
def NN.fP{a:aH}(h:NN a):dz (bT a) a:=by
 refine⟨⟨zq _,h.le,⟨0,by omega⟩⟩,⟨h.le,zq _,h.dvd⟩,λx hx=>hx,h.s0,λd hd=> ?_⟩;rcases h.st with ⟨h1,h2⟩|⟨h1,h2,h3⟩
 ·rw[h2];exact xB d
 ·have:=hd (a.ag+a.ai) ⟨by omega,by have:=h.sle;omega,⟨1,by omega⟩⟩
  rwa [show a.ag+a.ai-a.ag=a.ai by omega]at this
def Ff(x:Int):dz (· =x) (fJ x):=
 ⟨rfl,rfl,λy hy=>⟨Int.le_of_eq hy.symm,Int.le_of_eq hy,⟨0,by rw[hy];simp[fJ]⟩⟩,zq _,λd _=>xB d⟩
def jZ(a b:Int):cn a b∣a:=Int.gcd_dvd_left ..
def oZ(a b:Int):cn a b∣b:=Int.gcd_dvd_right ..
def jf{d a b:Int}(h1:d∣a)(h2:d∣b):d∣cn a b:=Int.dvd_coe_gcd h1 h2
def lu(a b:Int):0<=cn a b:=by unfold cn;omega
def gcd_neg(a b:Int):cn a (-b)=cn a b:=by unfold cn;rw[Int.gcd_neg]
def jn(a b:aH):aH:=aH.mk (min a.ag b.ag) (max a.ah b.ah) (cn (cn a.ai b.ai) (a.ag-b.ag))
def cS(a b:aH):aH:=open Classical in if a=cG then b else if b=cG then a else jn a b
def dz.join{P Q:Int->Prop}{a b:aH}(h:dz P a)(k:dz Q b):dz (λx=>P x\/Q x) (jn a b):=by
 have g1:cn (cn a.ai b.ai) (a.ag-b.ag)∣a.ai:=zU (jZ _ _) (jZ _ _);have g2:cn (cn a.ai b.ai) (a.ag-b.ag)∣b.ai:=zU (jZ _ _) (oZ _ _);have g3:cn (cn a.ai b.ai) (a.ag-b.ag)∣a.ag-b.ag:=oZ _ _;refine⟨?_,?_,λx hx=> ?_,lu _ _,λd hd=> ?_⟩
 ·show P (min a.ag b.ag)\/Q (min a.ag b.ag);rcases Int.le_total a.ag b.ag with e|e
  ·rw[wN e];exact .inl h.lo
  ·rw[xW e];exact .inr k.lo
 ·show P (max a.ah b.ah)\/Q (max a.ah b.ah);rcases Int.le_total a.ah b.ah with e|e
  ·rw[Int.max_eq_right e];exact .inr k.hi
  ·rw[Int.max_eq_left e];exact .inl h.hi
 ·show min a.ag b.ag<=x/\x<=max a.ah b.ah/\cn (cn a.ai b.ai) (a.ag-b.ag)∣x-min a.ag b.ag;have h0:=Int.min_le_left a.ag b.ag;have h1:=Int.min_le_right a.ag b.ag;have h2:=Int.le_max_left a.ah b.ah;have h3:=Int.le_max_right a.ah b.ah;have both:cn (cn a.ai b.ai) (a.ag-b.ag)∣x-a.ag/\cn (cn a.ai b.ai) (a.ag-b.ag)∣x-b.ag:=by
   rcases hx with hx|hx
   ·have e:=zU g1 (h.all x hx).2.2;refine⟨e,?_⟩;have:=yV e g3
    rwa [show x-a.ag+(a.ag-b.ag)=x-b.ag by omega]at this
   ·have e:=zU g2 (k.all x hx).2.2;refine⟨?_,e⟩;have:=yz e g3
    rwa [show x-b.ag-(a.ag-b.ag)=x-a.ag by omega]at this
  refine⟨?_,?_,?_⟩
  ·rcases hx with hx|hx
   ·have:=(h.all x hx).1;omega
   ·have:=(k.all x hx).1;omega
  ·rcases hx with hx|hx
   ·have:=(h.all x hx).2.1;omega
   ·have:=(k.all x hx).2.1;omega
  ·rcases Int.le_total a.ag b.ag with e|e
   ·rw[wN e];exact both.1
   ·rw[xW e];exact both.2
 ·show d∣cn (cn a.ai b.ai) (a.ag-b.ag);have hd:∀x,P x\/Q x->d∣x-min a.ag b.ag:=hd;have d1:=hd _ (.inl h.lo);have d2:=hd _ (.inr k.lo);refine jf (jf (h.best d λx hx=> ?_) (k.best d λx hx=> ?_)) ?_
  ·have:=yz (hd x (.inl hx)) d1
   rwa [show x-min a.ag b.ag-(a.ag-min a.ag b.ag)=x-a.ag by omega]at this
  ·have:=yz (hd x (.inr hx)) d2
   rwa [show x-min a.ag b.ag-(b.ag-min a.ag b.ag)=x-b.ag by omega]at this
  ·have:=yz d1 d2
   rwa [show a.ag-min a.ag b.ag-(b.ag-min a.ag b.ag)=a.ag-b.ag by omega]at this
def gz{a b:aH}(h:NN a)(k:NN b):cS a b=jn a b:=by
 unfold cS;rw[bP h.ne,bP k.ne]
def jd{b:aH}:cS cG b=b:=by unfold cS;rw[bG rfl]
def uh{a:aH}:cS a cG=a:=by
 unfold cS;by_cases h:a=cG
 ·rw[bG h,h]
 ·rw[bP h,bG rfl]
def kV{a b:aH}(h:NN a)(k:NN b):NN (jn a b):=(h.fP.join k.fP).valid λx hx=>by
 have:=h.lo;have:=h.hi;have:=k.lo;have:=k.hi
 rcases hx with ⟨h1,h2,_⟩|⟨h1,h2,_⟩<;>omega
def eO{a b:aH}(h:NV a)(k:NV b):NV (cS a b):=by
 rcases h with rfl|h
 ·rw[jd];exact k
 ·rcases k with rfl|k
  ·rw[uh];exact .inr h
  ·rw[gz h k];exact .inr (kV h k)
def TA{a:aH}(h:NN a):jn a a=a:=
 ((h.fP.join h.fP).congr (λx=>⟨λk=>k.elim id id, .inl⟩)).uniq h.fP
def G2(a:aH):(bif J (a.ag=a.ag)then bif J (a.ah=a.ah)then bif J (a.ai=a.ai)then O else G else G else G)=O:=by
 rw[bW rfl,bW rfl,bW rfl];rfl
def Hl{a b:aH}(h:a≠b):(bif J (a.ag=b.ag)then bif J (a.ah=b.ah)then bif J (a.ai=b.ai)then O else G else G else G)=G:=by
 by_cases h1:a.ag=b.ag
 ·by_cases h2:a.ah=b.ah
  ·by_cases h3:a.ai=b.ai
   ·exact dF (BM h1 h2 h3) h
   ·rw[bW h1,bW h2,bX h3];rfl
  ·rw[bW h1,bX h2];rfl
 ·rw[bX h1];rfl
def iI:fo cG=O:=G2 cG
def ew{a:aH}(h:a≠cG):fo a=G:=Hl (b:=cG) h
def nX:lJ cG=O:=rfl
def iA{a:aH}(h:NN a):lJ a=G:=bX (by have:=h.le;omega)
def jO(x:Int):iS x=J (-1099511627776<=x/\x<=1099511627776):=by
 unfold iS;by_cases h: -1099511627776<=x
 ·by_cases k:x<=1099511627776
  ·rw[bW h,bW k,bW ⟨h,k⟩];rfl
  ·rw[bW h,bX k,bX (show ¬(-1099511627776<=x/\x<=1099511627776)from λe=>k e.2)];rfl
 ·rw[bX h,bX (show ¬(-1099511627776<=x/\x<=1099511627776)from λe=>h e.1)];rfl
def tU(x:Int):nO x=J (-1099511627776<=x/\x<=1099511627776):=jO x
def Vs(a:aH):Bool:=open Classical in J (NV a)
def RZ{a:aH}:Vs a=O↔NV a:=by unfold Vs;exact @decide_eq_true_iff _ (Classical.propDecidable _)
def dY{a:aH}(h:NV a):Vs a=O:=RZ.mpr h
def tS{a:aH}(h:¬NV a):Vs a=G:=by
 cases e:Vs a with
 |false=>rfl
 |true=>exact dF (RZ.mp e) h
def Rw{a:aH}(h0:a≠cG):(match bif bif iS a.ag then G else O then V O else bif bif iS a.ah then G else O then V O else V (J (a.ah<a.ag))with|S=>S|V r1=>bif r1 then V G else bif J (a.ag=a.ah)then V (J (a.ai=0))else match bif J (1<=a.ai)then if¬a.ai=(0:Int)then V (J ((i64.wrap (a.ah-a.ag)).tmod a.ai=0))else S else V G with|S=>S|V r2=>V r2)=V (Vs a):=by
 rw[jO,jO];by_cases h1: -1099511627776<=a.ag/\a.ag<=1099511627776
 ·by_cases h2: -1099511627776<=a.ah/\a.ah<=1099511627776
  ·by_cases h3:a.ah<a.ag
   ·rw[bW h1,bW h2,bW h3,tS (λk=>by rcases k with k|k;exact h0 k;have:=k.le;omega)];rfl
   ·rw[bW h1,bW h2,bX h3];simp only[bD,bA];by_cases h4:a.ag=a.ah
    ·rw[bW h4,bD]
     congr 1
     by_cases h5:a.ai=0
     ·rw[bW h5,dY (.inr ⟨h1.1,h2.2,by omega, .inl ⟨h4,h5⟩⟩)]
     ·rw[bX h5,tS (λk=>by rcases k with k|k;exact h0 k;rcases k.st with k|k<;>omega)]
    ·rw[bX h4,bA];by_cases h5:1<=a.ai
     ·rw[bW h5,bD,ig,aG,kj];simp only
      congr 1
      by_cases h6:(a.ah-a.ag)%a.ai=0
      ·rw[bW h6,dY (.inr ⟨h1.1,h2.2,by omega, .inr ⟨by omega,h5,h6⟩⟩)]
      ·rw[bX h6,tS (λk=>by rcases k with k|k;exact h0 k;rcases k.st with k|k;omega;exact h6 k.2.2)]
     ·rw[bX h5,bA];simp only;rw[tS (λk=>by rcases k with k|k;exact h0 k;rcases k.st with k|k<;>omega)]
  ·rw[bW h1,bX h2,tS (λk=>by rcases k with k|k;exact h0 k;have:=k.lo;have:=k.hi;have:=k.le;omega)];rfl
 ·rw[bX h1,tS (λk=>by rcases k with k|k;exact h0 k;have:=k.lo;have:=k.hi;have:=k.le;omega)];rfl
def eH(a:aH):tv a=V (Vs a):=by
 unfold tv;by_cases h0:a=cG
 ·subst h0;rw[iI,bD,dY (.inl rfl)]
 ·rw[ew h0,bA];exact Rw h0
def gp(a:aH):Wr a=V (Vs a):=by
 unfold Wr;by_cases h0:a=cG
 ·subst h0;rw[show rQ=cG from rfl,G2,bD,dY (.inl rfl)]
 ·rw[show rQ=cG from rfl,Hl h0,bA,<-Rw h0,show nO=iS from rfl,jO,jO];by_cases h1: -1099511627776<=a.ag/\a.ag<=1099511627776
  ·by_cases h2: -1099511627776<=a.ah/\a.ah<=1099511627776
   ·rw[bW h1,bW h2];simp only[bD,bA];by_cases h3:a.ah<a.ag
    ·rw[bX (show ¬a.ag=a.ah by omega),bW h3,bX (show ¬a.ag<a.ah by omega)];rfl
    ·rw[bX h3,bA];by_cases h4:a.ag=a.ah
     ·rw[bW h4];rfl
     ·rw[bX h4,bA,bA,bW (show a.ag<a.ah by omega),bD]<;>rfl
   ·rw[bW h1,bX h2];rfl
  ·rw[bX h1];rfl
def ct(a:aH):Int:=open Classical in if a=cG then 0 else if a.ai=0 then 1 else(a.ah-a.ag)/a.ai+1
def wsz{a:aH}(h:NN a)(h0:a.ai≠0):i64.wrap (i64.wrap ((i64.wrap (a.ah-a.ag)).tdiv a.ai)+1)=(a.ah-a.ag)/a.ai+1:=by
 have:=h.lo;have:=h.hi;have:=h.le;have:=h.s0
 have q0:0<=(a.ah-a.ag)/a.ai:=zQ (by omega) (by omega);have q1:(a.ah-a.ag)/a.ai<=a.ah-a.ag:=ye _ (by omega);rw[aG (n:=a.ah-a.ag),jU,aG (n:=(a.ah-a.ag)/a.ai),aG]
def kB{a:aH}(h:NV a):vZ a=V (ct a):=by
 unfold vZ ct;rcases h with rfl|h
 ·rw[iI,bG rfl];rfl
 ·rw[ew h.ne,bP h.ne,bA];by_cases h0:a.ai=0
  ·rw[bW h0,bG h0];rfl
  ·rw[bX h0,bP h0,bA,bG h0,wsz h h0]
def gj{a:aH}(h:NV a):FF a=V (ct a):=by
 unfold FF ct;rw[gp,dY h];simp only[bD,bA];rcases h with rfl|h
 ·rw[nX,bG rfl];rfl
 ·rw[iA h,bP h.ne,bA];by_cases h0:a.ai=0
  ·rw[bW h0,bG h0];rfl
  ·rw[bX h0,bP h0,bA,bG h0,wsz h h0]
def abV{a:aH}(h:¬NV a):FF a=V 0:=by
 unfold FF;rw[gp,tS h];rfl
def qa{a:aH}(h:NV a):Kh a=V (ct a):=by
 unfold Kh;rw[eH,dY h];simp only[bD,bA];rw[kB h]
def ajF{a:aH}(h:¬NV a):Kh a=V 0:=by
 unfold Kh;rw[eH,tS h];rfl
def cV(a:aH)(x:Int):Bool:=open Classical in J (bT a x)
def mK{a:aH}{x:Int}:cV a x=O↔bT a x:=by unfold cV;exact @decide_eq_true_iff _ (Classical.propDecidable _)
def jh{a:aH}{x:Int}(h:¬bT a x):cV a x=G:=by
 cases e:cV a x with
 |false=>rfl
 |true=>exact dF (mK.mp e) h
def l8{a:aH}{x:Int}(h:bT a x):cV a x=O:=mK.mpr h
def Bx{x:Int}:¬bT cG x:=λh=>by
 obtain⟨h1,h2,_⟩:=h;have h1:(1:Int)<=x:=h1;have h2:x<=0:=h2;omega
def Mq{a:aH}(h:NN a)(x:Int)(h1:a.ag<=x)(h2:x<=a.ah):(match bif J (a.ai=0)then V O else if¬a.ai=(0:Int)then V (J ((i64.wrap (x-a.ag)).tmod a.ai=0))else S with|S=>S|V r2=>V r2)=V (cV a x):=by
 have:=h.lo;have:=h.hi
 by_cases h0:a.ai=0
 ·rw[bW h0,bD,l8 ⟨h1,h2,by rcases h.st with k|k;(rw[h0];exact⟨0,by omega⟩);omega⟩]
 ·rw[bX h0,bA,bG h0,aG,kj];simp only
  congr 1
  by_cases k:(x-a.ag)%a.ai=0
  ·rw[bW k,l8 ⟨h1,h2,wM k⟩]
  ·rw[bX k,jh (λe=>k (Int.emod_eq_zero_of_dvd e.2.2))]
def KC{a:aH}(h:NV a)(x:Int):VR a x=V (cV a x):=by
 unfold VR;rcases h with rfl|h
 ·rw[iI,jh Bx];rfl
 ·rw[ew h.ne,bA];by_cases h1:x<a.ag
  ·rw[bW h1,jh (λk=>by have:=k.1;omega)];rfl
  ·by_cases h2:a.ah<x
   ·rw[bX h1,bW h2,jh (λk=>by have:=k.2.1;omega)];rfl
   ·rw[bX h1,bX h2];simp only[bA];exact Mq h x (by omega) (by omega)
def CC{a:aH}(h:NV a)(x:Int):m32 a x=V (cV a x):=by
 unfold m32;rw[gp,dY h];simp only[bD,bA];rcases h with rfl|h
 ·by_cases h1:x<1
  ·rw[show cG.ag=1 from rfl,bW h1,jh Bx];rfl
  ·rw[show cG.ag=1 from rfl,show cG.ah=0 from rfl,bX h1,bW (show 0<x by omega),jh Bx];rfl
 ·by_cases h1:x<a.ag
  ·rw[bW h1,jh (λk=>by have:=k.1;omega)];rfl
  ·by_cases h2:a.ah<x
   ·rw[bX h1,bW h2,jh (λk=>by have:=k.2.1;omega)];rfl
   ·rw[bX h1,bX h2];simp only[bA];exact Mq h x (by omega) (by omega)
def pU{a:aH}(h:NV a)(x:Int):m92 a x=V (cV a x):=by
 unfold m92;rw[eH,dY h];simp only[bD];rw[KC h]
def jt(lo hi st:Int):aH:=if hi<lo then cG else if st=0 then fJ lo else if lo=lo+(hi-lo)/st*st then fJ lo else aH.mk lo (lo+(hi-lo)/st*st) st
def amo{lo hi st:Int}(h1: -2305843009213693952<=lo)(h2:hi<=2305843009213693952)(h3:lo<=hi)(h4:1<=st):i64.wrap (lo+i64.wrap (i64.wrap ((i64.wrap (hi-lo)).tdiv st)*st))=lo+(hi-lo)/st*st:=by
 have q0:0<=(hi-lo)/st:=zQ (by omega) (by omega);have q1:(hi-lo)/st<=hi-lo:=ye _ (by omega);have q2:(hi-lo)/st*st<=hi-lo:=y9 _ (by omega);have q3:0<=(hi-lo)/st*st:=zF q0 (by omega);rw[aG (n:=hi-lo),jU,aG (n:=(hi-lo)/st),aG (n:=(hi-lo)/st*st),aG]
def nY{lo hi st:Int}(h1: -2305843009213693952<=lo)(h2:hi<=2305843009213693952)(h4:0<=st):lS lo hi st=V (jt lo hi st):=by
 unfold lS jt;by_cases c1:hi<lo
 ·rw[bW c1,bG c1];rfl
 ·rw[bX c1,bP c1,bA];by_cases c2:st=0
  ·rw[bW c2,bG c2];rfl
  ·rw[bX c2,bP c2,bA,bG c2,amo h1 h2 (by omega) (by omega)];by_cases c3:lo=lo+(hi-lo)/st*st
   ·rw[bW c3,bG c3];rfl
   ·rw[bX c3,bP c3];rfl
def lX{lo hi st:Int}(h1: -1099511627776<=lo/\lo<=1099511627776)(h2: -1099511627776<=hi/\hi<=1099511627776)(h4:1<=st):iX lo hi st=V (jt lo hi st,0):=by
 unfold iX jt;rw[tU,tU,bW h1,bW h2,bX (show ¬st<1 by omega)];simp only[bD,bA];by_cases c1:hi<lo
 ·rw[bW c1,bG c1];rfl
 ·rw[bX c1,bP c1,bA,bP (show ¬st=0 by omega),ig,amo (by omega) (by omega) (by omega) h4];by_cases c3:lo=lo+(hi-lo)/st*st
  ·rw[<-c3,bW rfl,bG rfl];rfl
  ·rw[bX c3,bP c3];rfl
def NO{lo hi st:Int}(h1:lo<=hi)(h2:0<=st)(h3:st∣hi-lo)(h4:lo=hi->st=0):jt lo hi st=aH.mk lo hi st:=by
 unfold jt;rw[Am];by_cases c:st=0
 ·rw[bG c];subst c;have:=xV.mp h3;unfold fJ;rw[show hi=lo by omega]
 ·rw[bP c,wv h3,show lo+(hi-lo)=hi by omega,bP (λe=>c (h4 e))]
def lU{lo hi st:Int}(h1: -1099511627776<=lo)(h2:hi<=1099511627776)(h3:lo<=hi)(h4:0<=st):NN (jt lo hi st):=by
 unfold jt;rw[Am];by_cases c:st=0
 ·rw[bG c];exact NN.one h1 (by omega)
 ·rw[bP c];have q0:0<=(hi-lo)/st:=zQ (by omega) (by omega);have q2:(hi-lo)/st*st<=hi-lo:=y9 _ (by omega);have q3:0<=(hi-lo)/st*st:=zF q0 (by omega);by_cases c3:lo=lo+(hi-lo)/st*st
  ·rw[bG c3];exact NN.one h1 (by omega)
  ·rw[bP c3];refine⟨h1,by show lo+(hi-lo)/st*st<=_;omega,by show lo<=lo+(hi-lo)/st*st;omega, .inr ⟨by show lo<lo+(hi-lo)/st*st;omega,by show 1<=st;omega,?_⟩⟩;show (lo+(hi-lo)/st*st-lo)%st=0;rw[show lo+(hi-lo)/st*st-lo=(hi-lo)/st*st by omega];exact Int.mul_emod_left _ _
def Ln{lo hi st x:Int}(h3:lo<=hi)(h4:1<=st):bT (jt lo hi st) x↔lo<=x/\x<=hi/\st∣x-lo:=by
 unfold jt;rw[Am,Am];have q2:(hi-lo)/st*st<=hi-lo:=y9 _ (by omega);have q4:=wW (hi-lo) (show 0<st by omega);rw[zR,z6]at q4;by_cases c3:lo=lo+(hi-lo)/st*st
 ·rw[bG c3];constructor
  ·rintro⟨k1,k2,_⟩;have k1:lo<=x:=k1;have k2:x<=lo:=k2;exact⟨k1,by omega,⟨0,by omega⟩⟩
  ·rintro⟨k1,k2,k3⟩;have:x-lo<st:=by omega
   have e:x-lo=0:=Decidable.byContradiction λh=>dF (Int.le_of_dvd (by omega) k3) (by omega);exact⟨k1,by show x<=lo;omega,by show 0∣x-lo;rw[e];exact⟨0,rfl⟩⟩
 ·rw[bP c3];constructor
  ·rintro⟨k1,k2,k3⟩;have k2:x<=lo+(hi-lo)/st*st:=k2;exact⟨k1,by omega,k3⟩
  ·rintro⟨k1,k2,k3⟩;refine⟨k1,?_,k3⟩;show x<=lo+(hi-lo)/st*st;obtain⟨q,hq⟩:=k3;rw[zI]at hq;have:q<(hi-lo)/st+1:=wL (a:=st) (by rw[zR,z6];omega) (by omega);have:q*st<=(hi-lo)/st*st:=zN (by omega) (by omega);omega
def Lc(g x v:Int)(hx: -1099511627776<=x/\x<=1099511627776)(hv: -1099511627776<=v/\v<=1099511627776):(0:Int)<=jS x v/\cn g (jS x v)=cn g (x-v):=by
 unfold jS;by_cases c:x<v
 ·rw[bW c,bD,aG];exact⟨by omega,by rw[<-gcd_neg,show-(v-x)=x-v by omega]⟩
 ·rw[bX c,bA,aG];exact⟨by omega,rfl⟩
def dz.snoc{P:Int->Prop}{c:aH}{v:Int}(h:dz P c)(hv:P v)(x:Int):dz (λy=>P y\/y=x) (aH.mk (min c.ag x) (max c.ah x) (cn c.ai (x-v))):=by
 have e:cn (cn c.ai 0) (c.ag-x)=cn c.ai (x-v):=by
  have d:=(h.all v hv).2.2;refine Int.dvd_antisymm (lu _ _) (lu _ _) (jf (zU (jZ _ _) (jZ _ _)) ?_) (jf (jf (jZ _ _) (xB _)) ?_)
  ·have k1:cn (cn c.ai 0) (c.ag-x)∣c.ag-x:=oZ _ _;have k2:cn (cn c.ai 0) (c.ag-x)∣v-c.ag:=zU (zU (jZ _ _) (jZ _ _)) d;have:=Int.dvd_neg.mpr (yV k1 k2)
   rwa [show-(c.ag-x+(v-c.ag))=x-v by omega]at this
  ·have k1:cn c.ai (x-v)∣x-v:=oZ _ _;have k2:cn c.ai (x-v)∣v-c.ag:=zU (jZ _ _) d;have:=Int.dvd_neg.mpr (yV k1 k2)
   rwa [show-(x-v+(v-c.ag))=c.ag-x by omega]at this
 have:=h.join (Ff x);unfold jn fJ at this;rw[e]at this;exact this
def cz(x:Int):Prop:= -1099511627776<=x/\x<=1099511627776
instance (x:Int):Decidable (cz x):=inferInstanceAs (Decidable (_/\_))
def Cw(x:Int):nO x=J (cz x):=tU x
def amP{l:aa Int}{b0 c:aH}(i:Nat)(hi:i+1<l.length)(hl:l.length<=1000000)(hr:∀x∈l,cz x)(hc:dz (· ∈l.take (i+1)) c):
  ∃c',sW (j7.mk l (i+1:Nat) b0 c)=V (V (j7.mk l (i+1+1:Nat) b0 c'))/\dz (· ∈l.take (i+1+1)) c':=by
 have hx:cz l[i+1]! :=hr _ (bh hi);have h0:cz l[0]! :=hr _ (bh (by omega));have hm:l[0]!∈l.take (i+1):=by
  have:(l.take (i+1))[0]! =l[0]! :=by
   rw[getElem!_pos _ 0 (by rw[zH];omega),getElem!_pos l 0 (by omega),we]
  rw[<-this];exact bh (by rw[zH];omega)
 have hs:=hc.snoc hm l[i+1]!;obtain⟨g0,g1⟩:=Lc c.ai l[i+1]! l[0]! hx h0;refine⟨_,?_,hs.congr λy=> ?_⟩
 ·unfold sW;simp only;rw[nj,bD,ig,ig,ze,B5 hc.nn g0,g1];simp only;rw[aG,show ((i+1:Nat):Int)+1=((i+1+1:Nat):Int)by omega];have hci:(0:Int)<=((i+1:Nat):Int)/\((i+1:Nat):Int)<(l.length:Int):=by omega
  by_cases c1:l[i+1]! <c.ag
  ·rw[xW (by omega)];by_cases c2:c.ah<l[i+1]!
   ·have:=(hc.all _ hc.lo).2.1;omega
   ·rw[Int.max_eq_left (by omega)];simp only[bW c1,bX c2,bG hci,bD,bA]
  ·rw[wN (by omega)];by_cases c2:c.ah<l[i+1]!
   ·rw[Int.max_eq_right (by omega)];simp only[bX c1,bW c2,bG hci,bD,bA]
   ·rw[Int.max_eq_left (by omega)];simp only[bX c1,bX c2,bG hci,bA]
 ·rw[bI (i:=i+1) hi,zV,zy]
def HD{l:aa Int}(hn:l≠[])(hl:l.length<=1000000)(hr:∀x∈l,cz x):∃c,ZS l=V (c,0)/\dz (· ∈l) c:=by
 have hp:0<l.length:=wg.mpr hn;obtain⟨c,e1,hc⟩:=cZ (rnd:=sW) (l.length-1) (λi (c:aH)=>j7.mk l (i+1:Nat) (aH.mk 0 0 0) c) (λi c=>dz (· ∈l.take (i+1)) c)
  (λi c hi hI=>amP i (by omega) hl hr hI)
  (λc hI=>by
   unfold sW;simp only;rw[gd];rfl) (b:=fJ l[0]!) ((Ff l[0]!).congr λx=>by
   rw[bI hp];simp)
 have e0:bK AH (sH.mk l 0 (aH.mk 0 0 0))=V (sH.mk l (l.length:Nat) (aH.mk 0 0 0)):=Mn (rnd:=AH) (λi=>sH.mk l (i:Nat) (aH.mk 0 0 0)) l.length (λi hi=>by
  unfold AH;simp only;rw[nj,bD,ig,ze,Cw,bW (hr _ (bh hi)),fG hi hl];rfl) (λr=>by
  unfold AH;simp only;rw[gd];intro h;cases h)
 refine⟨c,?_,hc.congr λx=>by rw[show l.length-1+1=l.length by omega,zD]⟩;unfold ZS;rw[show aa6=bK AH from rfl,e0];simp only;rw[gd,bA,gd,bA,ig,ig];have e1:bK sW (j7.mk l 1 (aH.mk 0 0 0) (aH.mk l[0]! l[0]! 0))=V (j7.mk l ((l.length-1+1:Nat):Int) (aH.mk 0 0 0) c):=e1;rw[show Y3=bK sW from rfl,e1];simp only;rw[gd];rfl
def NN.ri{a:aH}(h:NN a):cz a.ag:=⟨h.lo,by have:=h.le;have:=h.hi;omega⟩
def NN.Bl{a:aH}(h:NN a):cz a.ah:=⟨by have:=h.le;have:=h.lo;omega,h.hi⟩
def Ku{x:Int}(h1: -2199023255552<=x)(h2:x<=2199023255552):(0:Int)<=jm x/\((jm x:Int)=x\/(jm x:Int)= -x):=by
 unfold jm;rw[aG (n:=0-x)];by_cases c:x<0-x
 ·rw[bG c];exact⟨by omega, .inr (show (0:Int)-x= -x by omega)⟩
 ·rw[bP c];exact⟨by omega, .inl rfl⟩
def Z9(g:Int){x:Int}(h1: -2199023255552<=x)(h2:x<=2199023255552):cn g (jm x)=cn g x:=by
 rcases (Ku h1 h2).2 with e|e
 ·rw[e]
 ·rw[e,gcd_neg]
def iD{a b:aH}(ha:NV a)(hb:NV b):lR a b=V (cS a b):=by
 unfold lR;rcases ha with rfl|ha
 ·rw[iI,jd];rfl
 rw[ew ha.ne,bA];rcases hb with rfl|hb
 ·rw[iI,uh];rfl
 rw[ew hb.ne,bA];by_cases e:a=b
 ·subst e;rw[G2,gz ha ha,TA ha];rfl
 ·rw[Hl e];simp only[bA];have:=ha.lo;have:=ha.hi;have:=ha.le;have:=hb.lo;have:=hb.hi;have:=hb.le
  rw[aG (n:=a.ag-b.ag),Df ha.s0 hb.s0 (Ku (by omega) (by omega)).1,Z9 _ (by omega) (by omega)];simp only;rw[show (if b.ag<a.ag then b.ag else a.ag)=min a.ag b.ag by split<;>omega,show (if a.ah<b.ah then b.ah else a.ah)=max a.ah b.ah by split<;>omega,nY (by omega) (by omega) (lu _ _)];simp only;have hj:=kV ha hb;rw[gz ha hb];exact congrArg some (NO hj.le hj.s0 hj.dvd (λk=>by rcases hj.st with h|h;exact h.2;exact dF k (Int.ne_of_lt h.1)))
def lZ{a b:aH}(ha:NV a)(hb:NV b):lC a b=V (cS a b):=by
 unfold lC;rcases ha with rfl|ha
 ·rw[nX,jd];rfl
 rw[iA ha,bA];rcases hb with rfl|hb
 ·rw[nX,uh];rfl
 rw[iA hb,bA];obtain⟨c,e,hc⟩:=HD (l:=[a.ag,a.ah,b.ag,b.ah]) (by simp) (by simp) (λx hx=>by
  simp only[zB,List.not_mem_nil,or_false]at hx;rcases hx with rfl|rfl|rfl|rfl
  ·exact ha.ri
  ·exact ha.Bl
  ·exact hb.ri
  ·exact hb.Bl)
 rw[e];simp only;have m:∀x,(x=a.ag\/x=a.ah\/x=b.ag\/x=b.ah)->x∈[a.ag,a.ah,b.ag,b.ah]:=λx hx=>by simpa using hx
 have h1:=hc.lo;have h2:=hc.hi;simp only[zB,List.not_mem_nil,or_false]at h1 h2;have p1:=hc.all _ (m a.ag (by simp));have p2:=hc.all _ (m a.ah (by simp));have p3:=hc.all _ (m b.ag (by simp));have p4:=hc.all _ (m b.ah (by simp));have:=ha.le;have:=hb.le;have e1:c.ag=min a.ag b.ag:=by omega
 have e2:c.ah=max a.ah b.ah:=by omega
 have hj:=kV ha hb;rw[gz ha hb];by_cases k:c.ag<c.ah
 ·rw[bW k,bD,B5 ha.s0 hb.s0];simp only;obtain⟨g0,g1⟩:=Lc (cn a.ai b.ai) a.ag b.ag ha.ri hb.ri;rw[B5 (lu _ _) g0,g1,e1,e2];rfl
 ·rw[bX k,bA]
  congr 1
  refine BM e1 e2 ?_;have hcv:NN c:=hc.valid (λx hx=>by
   simp only[zB,List.not_mem_nil,or_false]at hx;rcases hx with rfl|rfl|rfl|rfl
   ·exact ha.ri
   ·exact ha.Bl
   ·exact hb.ri
   ·exact hb.Bl)
  have s1:c.ai=0:=by rcases hcv.st with h|h;exact h.2;omega
  have s2:(jn a b).ai=0:=by
   rcases hj.st with h|h
   ·exact h.2
   ·have:min a.ag b.ag<max a.ah b.ah:=h.1;omega
  rw[s1,s2]
def ahh{a b:aH}(ha:NV a)(hb:NV b):ajy a b=V (cS a b,0):=by
 unfold ajy;rw[eH,eH,dY ha,dY hb];simp only[bD,bA];rw[iD ha hb]
def Qp{a:aH}(h:NV a):cS a a=a:=by
 rcases h with rfl|h
 ·exact jd
 ·rw[gz h h,TA h]
def ob{a b:aH}(ha:NV a)(hb:NV b):uD a b=V (cS a b):=by
 unfold uD;by_cases e:a=b
 ·subst e;rw[G2,Qp ha];rfl
 ·rw[Hl e,bA,ahh ha hb]
def cI(a:aH):Bool:=if 1<ct a then O else if ct a=1 then !cV a 0 else G
def uR{a:aH}(h:NN a):ct a=if a.ai=0 then 1 else(a.ah-a.ag)/a.ai+1:=by
 unfold ct;rw[bP h.ne]
def size_pos{a:aH}(h:NN a):1<=ct a:=by
 rw[uR h];split
 ·omega
 ·have:0<=(a.ah-a.ag)/a.ai:=zQ (by have:=h.le;omega) h.s0;omega
def jX{a:aH}(h:NN a):ct a=1↔a.ag=a.ah:=by
 rw[uR h];have hl:=h.le;rcases h.st with ⟨h1,h2⟩|⟨h1,h2,h3⟩
 ·rw[bG h2];exact⟨λ_=>h1,λ_=>rfl⟩
 ·rw[Am];constructor
  ·intro k;have:=wv (wM h3);rw[show (a.ah-a.ag)/a.ai=0 by omega,xT]at this;omega
  ·omega
def BI{a:aH}(h:NV a):Pp a=V (cV a 0,cI a):=by
 unfold Pp cI;rw[KC h,kB h];simp only;by_cases c:1<ct a
 ·rw[bW c,bG c];rfl
 ·rw[bX c,bP c,bA];by_cases c1:ct a=1
  ·rw[bW c1,bG c1,bD];rcases h with rfl|h
   ·exfalso;unfold ct at c1;rw[bG rfl]at c1;omega
   ·have e:=(jX h).mp c1;have s:a.ai=0:=by rcases h.st with k|k;exact k.2;omega
    by_cases c2:a.ag=0
    ·rw[bW c2,l8 (show bT a 0 from⟨by omega,by omega,⟨0,by omega⟩⟩)];rfl
    ·rw[bX c2,jh (show ¬bT a 0 from λk=>by have:=k.1;have:=k.2.1;omega)];rfl
  ·rw[bX c1,bP c1];rfl
def Ua{a:aH}(h:NV a):F3 a=V (cV a 0,cI a):=by
 unfold F3 cI;rw[CC h,gj h];simp only;by_cases c:1<ct a
 ·rw[bW c,bG c];rfl
 ·rw[bX c,bP c,bA];by_cases c1:ct a=1
  ·rw[bW c1,bG c1,bD];cases cV a 0<;>rfl
  ·rw[bX c1,bP c1];rfl
def Cp{a:aH}(h:NV a):PU a=V (cV a 0,cI a):=by
 unfold PU;rw[eH,dY h];simp only[bD,bA];rw[BI h]
def iH:Bool->Bool->aH
 |true,O=>aH.mk 0 1 1
 |true,G=>aH.mk 0 0 0
 |false,O=>aH.mk 1 1 0
 |false,G=>cG
def agW{a b:Bool}(h:(a||b)=O):jW a b=iH a b:=by
 cases a<;>cases b<;>first|rfl|cases h
def R7(a b:Bool):oK a b=V (iH a b):=by
 have v0:NN (fJ 0):=NN.one (by omega) (by omega);have v1:NN (fJ 1):=NN.one (by omega) (by omega);have e:cS (fJ 0) (fJ 1)=aH.mk 0 1 1:=by rw[gz v0 v1];rfl
 unfold oK;cases a<;>cases b
 ·rfl
 ·simp only[bA,bD];rw[show iJ=cG from rfl,iD (.inl rfl) (.inr (show NN (gL 1)from v1)),jd];rfl
 ·simp only[bA,bD];rw[show iJ=cG from rfl,iD (.inl rfl) (.inr (show NN (gL 0)from v0)),jd];rfl
 ·simp only[bD];rw[show iJ=cG from rfl,iD (.inl rfl) (.inr (show NN (gL 0)from v0)),jd];simp only;rw[iD (.inr (show NN (gL 0)from v0)) (.inr (show NN (gL 1)from v1)),show cS (gL 0) (gL 1)=cS (fJ 0) (fJ 1)from rfl,e];rfl
def tV(a b:Bool):NV (iH a b):=by
 cases a<;>cases b
 ·exact .inl rfl
 ·exact .inr (NN.one (x:=1) (by omega) (by omega))
 ·exact .inr (NN.one (x:=0) (by omega) (by omega))
 ·exact .inr ⟨by decide,by decide,by decide, .inr ⟨by decide,by decide,by decide⟩⟩
def l9(P:Int->Prop)(c:aH):Prop:=(c=cG/\∀x,¬P x)\/(dz P c)
def l9.uniq{P:Int->Prop}{c d:aH}(h:l9 P c)(k:l9 P d):c=d:=by
 rcases h with ⟨h1,h2⟩|h<;>rcases k with ⟨k1,k2⟩|k
 ·rw[h1,k1]
 ·exact dF k.lo (h2 _)
 ·exact dF h.lo (k2 _)
 ·exact h.uniq k
def l9.congr{P Q:Int->Prop}{c:aH}(h:l9 P c)(k:∀x,P x↔Q x):l9 Q c:=by
 rcases h with ⟨h1,h2⟩|h
 ·exact .inl ⟨h1,λx hx=>h2 x ((k x).mpr hx)⟩
 ·exact .inr (h.congr k)
def l9.valid{P:Int->Prop}{c:aH}(h:l9 P c)(hP:∀x,P x->cz x):NV c:=by
 rcases h with ⟨h1,h2⟩|h
 ·exact .inl h1
 ·exact .inr (h.valid hP)
def l9.none{P:Int->Prop}(h:∀x,¬P x):l9 P cG:= .inl ⟨rfl,h⟩
def l9.join{P Q:Int->Prop}{a b:aH}(h:l9 P a)(k:l9 Q b)(ha:NV a)(hb:NV b):l9 (λx=>P x\/Q x) (cS a b):=by
 rcases h with ⟨rfl,h2⟩|h
 ·rw[jd];exact k.congr λx=>⟨.inr,λe=>e.elim (λe=>dF e (h2 x)) id⟩
 ·rcases k with ⟨rfl,k2⟩|k
  ·rw[uh];exact .inr (h.congr λx=>⟨.inl,λe=>e.elim id (λe=>dF e (k2 x))⟩)
  ·have hn:∀{P:Int->Prop} {c:aH},dz P c->NV c->NN c:=λ{P c} e v=>by
    rcases v with rfl|v
    ·have:=(e.all _ e.lo).2.1;exact dF this (by decide)
    ·exact v
   rw[gz (hn h ha) (hn k hb)];exact .inr (h.join k)
def l9.mem{a:aH}(h:NV a):l9 (bT a) a:=by
 rcases h with rfl|h
 ·exact .inl ⟨rfl,λx=>Bx⟩
 ·exact .inr h.fP
def Uy{a:aH}(h:NV a){x:Int}(hx:bT a x):cz x:=by
 rcases h with rfl|h
 ·exact dF hx Bx
 ·have:=h.lo;have:=h.hi;have:=hx.1;have:=hx.2.1
  exact⟨by omega,by omega⟩
def afG{lo hi st:Int}(h1:lo<=hi)(h2:1<=st):(jt lo hi st).ah=lo+(hi-lo)/st*st:=by
 unfold jt;rw[Am,Am];by_cases c3:lo=lo+(hi-lo)/st*st
 ·rw[bG c3];exact c3
 ·rw[bP c3]
def NN.st1{a:aH}(h:NN a)(k:a.ag<a.ah):1<=a.ai:=by rcases h.st with h|h<;>omega
def Ex(P:Int->Prop)(c:aH):Prop:=NV c/\∀x,bT c x↔P x
def Ex.rep{P:Int->Prop}{c:aH}(h:Ex P c):l9 P c:=(l9.mem h.1).congr h.2
def TR{a:aH}(h:NN a){at_:Int}(h1:a.ag<=at_)(h2:at_<a.ah):Ex (λx=>bT a x/\x<=at_) (jt a.ag at_ a.ai):=by
 have hs:=h.st1 (by omega);have hl:=h.lo;have hh:=h.hi
 refine⟨.inr (lU hl (by omega) h1 h.s0),λx=> ?_⟩;rw[Ln h1 hs];exact⟨λ⟨k1,k2,k3⟩=>⟨⟨k1,by omega,k3⟩,k2⟩,λ⟨⟨k1,_,k3⟩,k2⟩=>⟨k1,k2,k3⟩⟩
def Nh{a:aH}(h:NN a){at_:Int}(h1:a.ag<=at_)(h2:at_<a.ah):
  Ex (λx=>bT a x/\at_<x) (jt (a.ag+((at_-a.ag)/a.ai+1)*a.ai) a.ah a.ai)/\a.ag<a.ag+((at_-a.ag)/a.ai+1)*a.ai/\a.ag+((at_-a.ag)/a.ai+1)*a.ai<=a.ah:=by
 have hs:=h.st1 (by omega);have hl:=h.lo;have hh:=h.hi
 have q2:(at_-a.ag)/a.ai*a.ai<=at_-a.ag:=y9 _ (by omega);have q4:=wW (at_-a.ag) (show 0<a.ai by omega);have up:∀x,a.ai∣x-a.ag->at_<x->a.ag+((at_-a.ag)/a.ai+1)*a.ai<=x:=λx hd hx=>by
  obtain⟨q,hq⟩:=hd;rw[zI]at hq;have:(at_-a.ag)/a.ai<q:=wL (a:=a.ai) (by omega) (by omega);have:((at_-a.ag)/a.ai+1)*a.ai<=q*a.ai:=zN (by omega) (by omega);omega
 have hle:=up a.ah h.dvd h2;have hd:a.ai∣((at_-a.ag)/a.ai+1)*a.ai:=xC ..;refine⟨⟨.inr (lU (by omega) hh hle h.s0),λx=> ?_⟩,by omega,hle⟩;rw[Ln hle hs];constructor
 ·rintro⟨k1,k2,k3⟩;have:=yV k3 hd;rw[show x-(a.ag+((at_-a.ag)/a.ai+1)*a.ai)+((at_-a.ag)/a.ai+1)*a.ai=x-a.ag by omega]at this;exact⟨⟨by omega,k2,this⟩,by omega⟩
 ·rintro⟨⟨k1,k2,k3⟩,k4⟩;have:=yz k3 hd;rw[show x-a.ag-((at_-a.ag)/a.ai+1)*a.ai=x-(a.ag+((at_-a.ag)/a.ai+1)*a.ai)by omega]at this;exact⟨up x k3 k4,k2,this⟩
def BL{a:aH}(h:NV a){Q:Int->Prop}(k:∀x,bT a x->Q x):Ex (λx=>bT a x/\Q x) a:=⟨h,λx=>⟨λe=>⟨e,k x e⟩,λe=>e.1⟩⟩
def pO{a:aH}{Q:Int->Prop}(k:∀x,bT a x->¬Q x):Ex (λx=>bT a x/\Q x) cG:=⟨.inl rfl,λx=>⟨λe=>dF e Bx,λe=>dF e.2 (k x e.1)⟩⟩
def uo{a:aH}(h:NV a)(at_:Int):∃l u,BD a at_=V (l,u)/\Ex (λx=>bT a x/\x<=at_) l/\Ex (λx=>bT a x/\at_<x) u:=by
 unfold BD;rcases h with rfl|h
 ·refine⟨cG,cG,?_,pO λx hx=>dF hx Bx,pO λx hx=>dF hx Bx⟩;rw[iI];rfl
 ·rw[ew h.ne,bA];have hle:=h.le;have hl:=h.lo;have hh:=h.hi
  by_cases c1:at_<a.ag
  ·rw[bW c1];exact⟨cG,a,rfl,pO λx hx k=>by have:=hx.1;omega,BL (.inr h) λx hx=>by have:=hx.1;omega⟩
  ·rw[bX c1];simp only[bA];by_cases c2:a.ah<=at_
   ·rw[bW c2];exact⟨a,cG,rfl,BL (.inr h) λx hx=>by have:=hx.2.1;omega,pO λx hx k=>by have:=hx.2.1;omega⟩
   ·have hs:=h.st1 (by omega);obtain⟨r1,r2,r3⟩:=Nh h (at_:=at_) (by omega) (by omega);have e:a.ag+((at_-a.ag)/a.ai+1)*a.ai=a.ag+(at_-a.ag)/a.ai*a.ai+a.ai:=by rw[zR,z6];omega
    rw[e]at r1 r2 r3;rw[bX c2,bA,nY (by omega) (by omega) h.s0];simp only;rw[afG (by omega) hs,aG,nY (by omega) (by omega) h.s0];exact⟨_,_,rfl,TR h (by omega) (by omega),r1⟩
def HU{a:aH}(h:NV a)(at_:Int):∃l,m41 a at_=V l/\Ex (λx=>bT a x/\x<=at_) l:=by
 unfold m41;rcases h with rfl|h
 ·exact⟨cG,rfl,pO λx hx=>dF hx Bx⟩
 ·rw[iA h,bA];have hle:=h.le;have hl:=h.lo;have hh:=h.hi
  by_cases c1:at_<a.ag
  ·rw[bW c1];exact⟨cG,rfl,pO λx hx k=>by have:=hx.1;omega⟩
  ·rw[bX c1];simp only[bA];by_cases c2:a.ah<=at_
   ·rw[bW c2];exact⟨a,rfl,BL (.inr h) λx hx=>by have:=hx.2.1;omega⟩
   ·rw[bX c2,bA,lX h.ri ⟨by omega,by omega⟩ (h.st1 (by omega))];exact⟨_,rfl,TR h (by omega) (by omega)⟩
def As{a:aH}(h:NV a)(at_:Int):∃u,m42 a at_=V u/\Ex (λx=>bT a x/\at_<x) u:=by
 unfold m42;rcases h with rfl|h
 ·refine⟨cG,?_,pO λx hx=>dF hx Bx⟩;rw[nX];rfl
 ·rw[iA h,bA];have hle:=h.le;have hl:=h.lo;have hh:=h.hi
  by_cases c1:a.ah<=at_
  ·rw[bW c1];exact⟨cG,rfl,pO λx hx k=>by have:=hx.2.1;omega⟩
  ·rw[bX c1];simp only[bA];by_cases c2:at_<a.ag
   ·rw[bW c2];exact⟨a,rfl,BL (.inr h) λx hx=>by have:=hx.1;omega⟩
   ·have hs:=h.st1 (by omega);obtain⟨r1,r2,r3⟩:=Nh h (at_:=at_) (by omega) (by omega);have q0:0<=(at_-a.ag)/a.ai:=zQ (by omega) (by omega);have q1:(at_-a.ag)/a.ai<=at_-a.ag:=ye _ (by omega);rw[bX c2,bA,ig,aG (n:=at_-a.ag),jU,aG (n:=(at_-a.ag)/a.ai),aG (n:=(at_-a.ag)/a.ai+1),
     aG (n:=((at_-a.ag)/a.ai+1)*a.ai),aG,lX ⟨by omega,by omega⟩ h.Bl hs]
    exact⟨_,rfl,r1⟩
def l9.empty{P:Int->Prop}{c:aH}(h:l9 P c)(hv:NV c):fo c=lJ c/\((fo c=O/\c=cG/\∀x,¬P x)\/(fo c=G/\NN c/\dz P c)):=by
 rcases h with ⟨rfl,h⟩|h
 ·exact⟨by rw[iI];rfl, .inl ⟨iI,rfl,h⟩⟩
 ·rcases hv with rfl|hv
  ·exact dF (h.all _ h.lo).2.1 (by decide)
  ·exact⟨by rw[ew hv.ne,iA hv], .inr ⟨ew hv.ne,hv,h⟩⟩
def tf(a:aH)(lo hi:Int)(y:Int):Prop:=∃x,bT a x/\y=max lo (min x hi)
def Y5{a:aH}{lo hi y:Int}(h1:cz lo)(h2:cz hi)(h3:lo<=hi)(h:tf a lo hi y):cz y:=by
 obtain⟨x,_,rfl⟩:=h;obtain⟨a1,a2⟩:=h1;obtain⟨b1,b2⟩:=h2;exact⟨by omega,by omega⟩
def HO(x:Int):l9 (· =x) (fJ x):= .inr (Ff x)
def pq{x:Int}(h:cz x):NV (fJ x):= .inr (NN.one h.1 h.2)
def mV{Q R:Int->Prop}{c d:aH}{b:Int}(hc:l9 Q c)(vc:NV c)(hb:cz b)(hd:l9 R d)(vd:NV d):
  (fo d=O->l9 (λy=>Q y\/(y=b/\∃x,R x)) c)/\(fo d=G->l9 (λy=>Q y\/(y=b/\∃x,R x)) (cS c (fJ b))):=by
 rcases (hd.empty vd).2 with ⟨e1,rfl,e3⟩|⟨e1,e2,e3⟩
 ·refine⟨λ_=>hc.congr λx=>⟨.inl,λh=>h.elim id λh=>dF h.2.choose_spec (e3 _)⟩,λh=> ?_⟩;rw[e1]at h;cases h
 ·refine⟨λh=> ?_,λ_=>((hc.join (HO b) vc (pq hb)).congr λx=>⟨λh=>h.elim .inl λh=> .inr ⟨h,_,e3.lo⟩,λh=>h.elim .inl λh=> .inr h.1⟩)⟩;rw[e1]at h;cases h
def Qu{a:aH}(h:NV a)(lo hi:Int):(∃c,m81 a lo hi=V (c,0)/\m86 a lo hi=V (c,0)/\l9 (tf a lo hi) c/\NV c/\cz lo/\cz hi/\lo<=hi)\/
  (m81 a lo hi=V (aH.mk 0 0 0,3)/\m86 a lo hi=V (aH.mk 0 0 0,3)/\¬(cz lo/\cz hi/\lo<=hi)):=by
 unfold m81 m86;rw[eH,gp,dY h,jO,jO,tU,tU];simp only[bD,bA];by_cases h1: -1099511627776<=lo/\lo<=1099511627776
 ·by_cases h2: -1099511627776<=hi/\hi<=1099511627776
  ·by_cases h3:hi<lo
   ·right;rw[bW h1,bW h2,bW h3];exact⟨rfl,rfl,λk=>by have:=k.2.2;omega⟩
   ·left;rw[bW h1,bW h2,bX h3];simp only[bD,bA];rw[aG (n:=lo-1)];obtain⟨un,re,e1,r1,r2⟩:=uo h (lo-1);obtain⟨ins,ov,e2,r3,r4⟩:=uo r2.1 hi;have mi:∀x,bT ins x↔bT a x/\lo<=x/\x<=hi:=λx=>⟨λk=>let ⟨k1,k2⟩:=(r3.2 x).mp k;let ⟨k3,k4⟩:=(r2.2 x).mp k1;⟨k3,by omega,k2⟩,λ⟨k1,k2,k3⟩=>(r3.2 x).mpr ⟨(r2.2 x).mpr ⟨k1,by omega⟩,k3⟩⟩;have mo:∀x,bT ov x↔bT a x/\hi<x:=λx=>⟨λk=>let ⟨k1,k2⟩:=(r4.2 x).mp k;let ⟨k3,k4⟩:=(r2.2 x).mp k1;⟨k3,k2⟩,λ⟨k1,k2⟩=>(r4.2 x).mpr ⟨(r2.2 x).mpr ⟨k1,by omega⟩,k2⟩⟩;obtain⟨x1,f1,s1⟩:=As h (lo-1);obtain⟨x2,f2,s2⟩:=HU s1.1 hi;obtain⟨x3,f3,s3⟩:=HU h lo;obtain⟨x4,f4,s4⟩:=As h hi;have m2:∀x,bT x2 x↔bT a x/\lo<=x/\x<=hi:=λx=>⟨λk=>let ⟨k1,k2⟩:=(s2.2 x).mp k;let ⟨k3,k4⟩:=(s1.2 x).mp k1;⟨k3,by omega,k2⟩,λ⟨k1,k2,k3⟩=>(s2.2 x).mpr ⟨(s1.2 x).mpr ⟨k1,by omega⟩,k3⟩⟩;have rlo:cz lo:=h1;have rhi:cz hi:=h2;have nb:∀b:Bool,(match b with|true=>true|false=>false)=b:=λb=>by cases b<;>rfl
    obtain⟨t1,t2⟩:=mV (Ex.rep ⟨r3.1,mi⟩) r3.1 rlo r1.rep r1.1;have P:∃c,(match BD a (lo-1)with|S=>S|V r3=>match BD r3.snd hi with|S=>S|V r4=>bif bif fo r3.fst then G else O then match lR r4.fst (gL lo)with|S=>S|V r5=>bif bif fo r4.snd then G else O then match lR r5 (gL hi)with|S=>S|V r6=>V (r6,(0:Int))else V (r5,0)else bif bif fo r4.snd then G else O then match lR r4.fst (gL hi)with|S=>S|V r7=>V (r7,0)else V (r4.fst,0))=V (c,0)/\l9 (tf a lo hi) c:=by
     have fin:∀c,NV c->l9 (λy=>(bT a y/\lo<=y/\y<=hi)\/(y=lo/\∃x,bT a x/\x<=lo-1)) c->∃d,(bif bif fo ov then G else O then match lR c (gL hi)with|S=>S|V r6=>V (r6,(0:Int))else V (c,0))=V (d,0)/\l9 (tf a lo hi) d:=λc vc hc=>by
      obtain⟨u1,u2⟩:=mV hc vc rhi (Ex.rep ⟨r4.1,mo⟩) r4.1;have eq:∀y,(((bT a y/\lo<=y/\y<=hi)\/(y=lo/\∃x,bT a x/\x<=lo-1))\/(y=hi/\∃x,bT a x/\hi<x))↔tf a lo hi y:=λy=>by
       constructor
       ·rintro((⟨k1,k2,k3⟩|⟨rfl,x,k1,k2⟩)|⟨rfl,x,k1,k2⟩)
        ·exact⟨y,k1,by omega⟩
        ·exact⟨x,k1,by omega⟩
        ·exact⟨x,k1,by omega⟩
       ·rintro⟨x,k1,rfl⟩;rcases (show x<lo\/hi<x\/(lo<=x/\x<=hi)by omega)with k|k|k
        ·exact .inl (.inr ⟨by omega,x,k1,by omega⟩)
        ·exact .inr ⟨by omega,x,k1,k⟩
        ·rw[show max lo (min x hi)=x by omega];exact .inl (.inl ⟨k1,k.1,k.2⟩)
      cases ho:fo ov with
      |true=>exact⟨c,rfl,(u1 ho).congr eq⟩
      |false=>
       simp only[bA,bD];rw[iD vc (.inr (show NN (gL hi)from NN.one h2.1 h2.2))];exact⟨_,rfl,(u2 ho).congr eq⟩
     rw[e1];simp only;rw[e2];simp only;cases hu:fo un with
     |true=>
      simp only[bA,bD];exact fin ins r3.1 (t1 hu)
     |false=>
      simp only[bA,bD];rw[iD r3.1 (.inr (show NN (gL lo)from NN.one h1.1 h1.2))];exact fin (cS ins (fJ lo)) (eO r3.1 (pq rlo)) (t2 hu)
    obtain⟨c,P1,P2⟩:=P;have vc:NV c:=P2.valid λx hx=>Y5 rlo rhi (by omega) hx;refine⟨c,P1,?_,P2,vc,rlo,rhi,by omega⟩;have fin:∀c',NV c'->l9 (λy=>(bT a y/\lo<=y/\y<=hi)\/(y=lo/\∃x,bT a x/\x<=lo)) c'->(match m42 a hi with|S=>S|V r7=>bif bif lJ r7 then G else O then match lC c' (aH.mk hi hi 0)with|S=>S|V r8=>V (r8,(0:Int))else V (c',0))=V (c,0):=λc' vc' hc'=>by
     obtain⟨u1,u2⟩:=mV hc' vc' rhi s4.rep s4.1;have eq:∀y,(((bT a y/\lo<=y/\y<=hi)\/(y=lo/\∃x,bT a x/\x<=lo))\/(y=hi/\∃x,bT a x/\hi<x))↔tf a lo hi y:=λy=>by
      constructor
      ·rintro((⟨k1,k2,k3⟩|⟨rfl,x,k1,k2⟩)|⟨rfl,x,k1,k2⟩)
       ·exact⟨y,k1,by omega⟩
       ·exact⟨x,k1,by omega⟩
       ·exact⟨x,k1,by omega⟩
      ·rintro⟨x,k1,rfl⟩;rcases (show x<lo\/hi<x\/(lo<=x/\x<=hi)by omega)with k|k|k
       ·exact .inl (.inr ⟨by omega,x,k1,by omega⟩)
       ·exact .inr ⟨by omega,x,k1,k⟩
       ·rw[show max lo (min x hi)=x by omega];exact .inl (.inl ⟨k1,k.1,k.2⟩)
     rw[f4];simp only;rw[<-(s4.rep.empty s4.1).1];cases ho:fo x4 with
     |true=>
      rw[((u1 ho).congr eq).uniq P2];rfl
     |false=>
      simp only[bA,bD];rw[lZ vc' (.inr (show NN (aH.mk hi hi 0)from NN.one h2.1 h2.2))];simp only;rw[show cS c' (aH.mk hi hi 0)=c from((u2 ho).congr eq).uniq P2]
    obtain⟨t1,t2⟩:=mV (Ex.rep ⟨s2.1,m2⟩) s2.1 rlo s3.rep s3.1;rw[f1];simp only;rw[f2];simp only;rw[f3];simp only;rw[<-(s3.rep.empty s3.1).1];cases hu:fo x3 with
    |true=>
     simp only[bA,bD];exact fin x2 s2.1 (t1 hu)
    |false=>
     simp only[bA,bD];rw[lZ s2.1 (.inr (show NN (aH.mk lo lo 0)from NN.one h1.1 h1.2))];exact fin _ (eO s2.1 (pq rlo)) (t2 hu)
  ·right;rw[bW h1,bX h2];refine⟨?_,rfl,λk=>h2 k.2.1⟩;cases J (hi<lo)<;>rfl
 ·right;rw[bX h1];refine⟨?_,rfl,λk=>h1 k.1⟩;cases J (hi<lo)<;>rfl
def kY{a:aH}(h:NV a):cI a=O↔∃x,bT a x/\x≠0:=by
 unfold cI;rcases h with rfl|h
 ·rw[show ct cG=0 from by unfold ct;rw[bG rfl],Am,Am];exact⟨λk=>(by cases k),λ⟨x,k,_⟩=>dF k Bx⟩
 ·have hp:=size_pos h;have h1:=jX h;have hle:=h.le;have mlo:bT a a.ag:=⟨zq _,h.le,⟨0,by omega⟩⟩;have mhi:bT a a.ah:=⟨h.le,zq _,h.dvd⟩;by_cases c:1<ct a
  ·rw[bG c];refine⟨λ_=> ?_,λ_=>rfl⟩;by_cases z:a.ag=0
   ·exact⟨a.ah,mhi,λk=>by have:=h1.mpr (by omega);omega⟩
   ·exact⟨a.ag,mlo,z⟩
  ·rw[bP c,bG (show ct a=1 by omega)];have e:=h1.mp (by omega);constructor
   ·intro k;refine⟨a.ag,mlo,λz=> ?_⟩;rw[l8 (show bT a 0 by rw[<-z];exact mlo)]at k;cases k
   ·rintro⟨x,k1,k2⟩;rw[jh (show ¬bT a 0 from λk=>by have:=k.1;have:=k.2.1;have:=k1.1;have:=k1.2.1;omega)];rfl
def zero_or{a:aH}(h:NN a):(cI a||cV a 0)=O:=by
 have mlo:bT a a.ag:=⟨zq _,h.le,⟨0,by omega⟩⟩;by_cases z:a.ag=0
 ·rw[l8 (show bT a 0 by rw[<-z];exact mlo),Bool.or_true]
 ·rw[(kY (.inr h)).mpr ⟨_,mlo,z⟩,Bool.true_or]
def avF(a:aH):aH:=aH.mk (-a.ah) (-a.ag) a.ai
def acj{a:aH}(h:NN a):NN (avF a):=by
 have:=h.lo;have:=h.hi;have:=h.le
 refine⟨by show _<= -a.ah;omega,by show-a.ag<=_;omega,by show-a.ah<= -a.ag;omega,?_⟩;rcases h.st with ⟨h1,h2⟩|⟨h1,h2,h3⟩
 ·exact .inl ⟨by show-a.ah= -a.ag;omega,h2⟩
 ·refine .inr ⟨by show-a.ah< -a.ag;omega,h2,?_⟩;show (-a.ag- -a.ah)%a.ai=0;rw[show-a.ag- -a.ah=a.ah-a.ag by omega];exact h3
def vE(op:Int)(a:aH):aH×Int:=open Classical in
 if¬NV a\/(op≠6/\op≠7)then(aH.mk 0 0 0,1)else if a=cG then(cG,0)else if op=7 then(iH (cI a) (cV a 0),0)else(avF a,0)
def UH(op:Int):(bif bif J (op=6)then G else O then V (bif J (op=7)then G else O)else V G)=V (J (op≠6/\op≠7)):=by
 by_cases h:op=6
 ·rw[bW h,bX (show ¬(op≠6/\op≠7)from λk=>k.1 h)];rfl
 ·by_cases k:op=7
  ·rw[bX h,bW k,bX (show ¬(op≠6/\op≠7)from λe=>e.2 k)];rfl
  ·rw[bX h,bX k,bW (show op≠6/\op≠7 from⟨h,k⟩)];rfl
def Tb{a:aH}(h:NV a)(op:Int):ae9 op a=V (vE op a):=by
 unfold ae9 vE;rw[eH,dY h];simp only[bD,bA];rw[UH];by_cases ho:op≠6/\op≠7
 ·rw[bW ho,bG (.inr ho)];rfl
 ·rw[bX ho,bP (λk=>k.elim (λe=>e h) ho)];simp only[bA];rcases h with rfl|h
  ·rw[iI,bG rfl];rfl
  ·rw[ew h.ne,bP h.ne,bA];by_cases h7:op=7
   ·rw[bW h7,bG h7,bD,BI (.inr h)];simp only;rw[R7]
   ·rw[bX h7,bP h7,bA];have:=h.lo;have:=h.hi;have:=h.le
    rw[aG (n:=0-a.ah),aG (n:=0-a.ag),Int.zero_sub,Int.zero_sub];rfl
def PM:NV (aH.mk 0 0 0):= .inr (NN.one (x:=0) (by omega) (by omega))
def nv(x y:Int):Int:=if y=0 then 0 else if x.tmod y≠0/\(J (x<0))≠(J (y<0))then x.tdiv y-1 else x.tdiv y
def sq{x y:Int}(hy:y≠0):∃q r:Int,x.tdiv y=q/\x.tmod y=r/\y*q+r=x/\r.natAbs<y.natAbs/\q.natAbs<=x.natAbs/\(0<=x->0<=r)/\(x<=0->r<=0)/\(r≠0->q.natAbs<x.natAbs):=by
 refine⟨_,_,rfl,rfl,Int.mul_tdiv_add_tmod x y,?_,?_,λh=>Int.tmod_nonneg _ h,λh=> ?_,λh=> ?_⟩
 ·rw[Int.natAbs_tmod];exact yP _ (by omega)
 ·rw[Int.natAbs_tdiv];exact Nat.div_le_self _ _
 ·have:=Int.tmod_nonneg (a:= -x) y (by omega);rw[Int.neg_tmod]at this;omega
 ·have e:=Nat.div_add_mod x.natAbs y.natAbs;have hr:(x.tmod y).natAbs≠0:=by omega
  rw[Int.natAbs_tmod]at hr;rw[Int.natAbs_tdiv];have h1:x.natAbs/y.natAbs<=y.natAbs*(x.natAbs/y.natAbs):=Nat.le_mul_of_pos_left _ (by omega);show x.natAbs/y.natAbs<x.natAbs;omega
def Ol{x y:Int}(hx:cz x):cz (nv x y)/\(nv x y).natAbs<=x.natAbs:=by
 unfold nv;obtain⟨h1,h2⟩:=hx;by_cases hy:y=0
 ·rw[bG hy];exact⟨⟨by omega,by omega⟩,by omega⟩
 ·rw[bP hy];obtain⟨q,r,e1,e2,e3,e4,e5,_,_,e6⟩:=sq (x:=x) hy;rw[e1,e2];split
  ·rename_i h;have:=e6 h.1;exact⟨⟨by omega,by omega⟩,by omega⟩
  ·exact⟨⟨by omega,by omega⟩,by omega⟩
def PO{x y:Int}(hy:cz y)(h0:y≠0):cz (x-y*nv x y)/\(0<y->0<=x-y*nv x y/\x-y*nv x y<y)/\(y<0->x-y*nv x y<=0/\y<x-y*nv x y):=by
 unfold nv;rw[bP h0];obtain⟨h1,h2⟩:=hy;obtain⟨q,r,e1,e2,e3,e4,e5,e7,e8,e6⟩:=sq (x:=x) h0;rw[e1,e2];by_cases h:r≠0/\J (x<0)≠J (y<0)
 ·rw[bG h,Int.mul_sub,Int.mul_one];obtain⟨k1,k2⟩:=h;by_cases c:x<0
  ·have c2:¬y<0:=λk=>k2 (by rw[bW c,bW k]);have:=e8 (by omega);exact⟨⟨by omega,by omega⟩,λ_=>by omega,λ_=>by omega⟩
  ·have c2:y<0:=Decidable.byContradiction λk=>k2 (by rw[bX c,bX k]);have:=e7 (by omega);exact⟨⟨by omega,by omega⟩,λ_=>by omega,λ_=>by omega⟩
 ·rw[bP h];by_cases k1:r=0
  ·exact⟨⟨by omega,by omega⟩,λ_=>by omega,λ_=>by omega⟩
  ·have k2:J (x<0)=J (y<0):=Decidable.byContradiction λk=>h ⟨k1,k⟩;by_cases c:x<0
   ·have c2:y<0:=by
     rw[bW c]at k2;exact of_decide_eq_true k2.symm
    have:=e8 (by omega);exact⟨⟨by omega,by omega⟩,λ_=>by omega,λ_=>by omega⟩
   ·have c2:¬y<0:=by
     rw[bX c]at k2;exact of_decide_eq_false k2.symm
    have:=e7 (by omega);exact⟨⟨by omega,by omega⟩,λ_=>by omega,λ_=>by omega⟩
def Is{x y:Int}(hx:cz x)(hy:cz y):ZK x y=V (nv x y):=by
 have hR:=Ol (y:=y) hx;unfold ZK;unfold nv at hR ⊢;obtain⟨h1,h2⟩:=hx;by_cases h0:y=0
 ·rw[bW h0,bG h0];rfl
 ·rw[bP h0]at hR;rw[bX h0,bP h0,bA,bG h0,bG h0,BG];obtain⟨q,r,e1,e2,e3,e4,e5,e7,e8,e6⟩:=sq (x:=x) h0;rw[e1,e2]at hR ⊢;by_cases k1:r=0
  ·rw[bX (show ¬¬r=0 by omega),bP (λk=>k.1 k1)];simp only[bA];rw[aG]
  ·rw[bW k1];simp only[bD];by_cases k2:J (x<0)=J (y<0)
   ·rw[bP (λk=>k.2 k2),k2];have:(bif J (y<0)==J (y<0)then false else true)=false:=by cases J (y<0)<;>rfl
    rw[this];simp only[bA];rw[aG]
   ·rw[bG ⟨k1,k2⟩]at hR ⊢;have:(bif J (x<0)==J (y<0)then G else O)=O:=by
     revert k2;cases J (x<0)<;>cases J (y<0)<;>first|(intro k2;exact dF rfl k2)|(intro _;rfl)
    rw[this];simp only[bD];rw[aG (n:=q),aG (n:=q-1)]
def RU{x y:Int}(hx:cz x)(hy:cz y):aoU x y=V (nv x y):=Is hx hy
def nr(b:Bool):Int:=if b then 1 else 0
def fK(op x y:Int):Int:=
 if op=8 then x+y else if op=9 then x-y else if op=10 then x*y else if op=11 then nv x y else if op=12 then(if y=0 then 0 else x-y*nv x y)
 else if op=13 then nr (J (x=y))else if op=14 then nr (!J (x=y))else if op=15 then nr (J (x<y))else if op=16 then nr (J (x<=y))else if op=17 then nr (J (y<x))else if op=18 then nr (J (y<=x))
 else if op=19 then nr (J (x≠0/\y≠0))else if op=20 then nr (J (x≠0\/y≠0))else if op=21 then min x y else max x y
def sg(b:Bool):cz (nr b):=by cases b<;>exact⟨by decide,by decide⟩
def adN{op x y:Int}(hx:cz x)(hy:cz y)(ho:op=11\/op=12\/op=21\/op=22):VD op x y=V (fK op x y):=by
 unfold VD fK;rcases ho with rfl|rfl|rfl|rfl
 ·rw[bW rfl,bD,Is hx hy];rfl
 ·rw[bX (by decide),bW rfl,bA,bD];show _=V (if y=0 then 0 else x-y*nv x y);by_cases h0:y=0
  ·rw[bW h0,bG h0];rfl
  ·rw[bX h0,bP h0,bA,Is hx hy];simp only;have hm:=PO (x:=x) hy h0;obtain⟨a1,a2⟩:=hx;obtain⟨b1,b2⟩:=hy;obtain⟨⟨c1,c2⟩,_⟩:=hm;rw[aG (n:=y*nv x y),aG]
 ·rw[bX (by decide),bX (by decide),bW rfl];simp only[bA,bD];rw[show (if y<x then y else x)=min x y by split<;>omega];rfl
 ·rw[bX (show ¬(22:Int)=11 by decide),bX (show ¬(22:Int)=12 by decide),bX (show ¬(22:Int)=21 by decide)];simp only[bA];rw[show (if x<y then y else x)=max x y by split<;>omega];rfl
def binop(op:Int):Prop:=8<=op/\op<=22
def u7{x:Int}(hx:cz x):@Eq Int (jS x 0) ((x.natAbs:Nat):Int):=by
 unfold jS;obtain⟨h1,h2⟩:=hx;by_cases c:x<0
 ·rw[bW c,bD,aG];show @Eq Int (0-x) ((x.natAbs:Nat):Int);omega
 ·rw[bX c,bA,aG];show @Eq Int (x-0) ((x.natAbs:Nat):Int);omega
def mJ{x:Int}(hx:cz x):@Eq Int (jm x) ((x.natAbs:Nat):Int):=by
 obtain⟨h1,h2⟩:=hx;obtain⟨k1,k2⟩:=Ku (x:=x) (by omega) (by omega);generalize jm x=z at*;have k1:(0:Int)<=z:=k1;have k2:@Eq Int z x\/@Eq Int z (-x):=k2;show @Eq Int z ((x.natAbs:Nat):Int);omega
def Nd{x y:Int}(h0:x≠0):((1099511627776:Int)/x.natAbs<y.natAbs)↔¬cz (x*y):=by
 have hp:(0:Int)<(x.natAbs:Int):=by omega
 have e:((x*y).natAbs:Int)=(y.natAbs:Int)*(x.natAbs:Int):=by rw[Int.natAbs_mul,xI,zI]
 have hi:cz (x*y)↔((x*y).natAbs:Int)<=1099511627776:=⟨λ⟨h1,h2⟩=>by omega,λh=>⟨by omega,by omega⟩⟩;rw[hi,e,<-Int.le_ediv_iff_mul_le hp];omega
def aeu(b:Bool):C2 b=nr b:=by cases b<;>rfl
def eo{op x y v:Int}(h:v=fK op x y)(hr:cz (fK op x y)):∃w,V (v,O)=V (w,J (cz (fK op x y)))/\(cz (fK op x y)->w=fK op x y):=⟨v,by rw[bW hr],λ_=>h⟩
def ah0{x y:Int}(hx:cz x)(hy:cz y):∃v,anM x y=V (v,J (cz (x*y)))/\(cz (x*y)->v=x*y):=by
 unfold anM;rw[BG,BG,u7 hx,u7 hy];by_cases h0:x=0
 ·subst h0;rw[bX (show ¬¬(0:Int)=0 from λk=>k rfl)];simp only[bA];rw[xT,aG,bW (show cz 0 from⟨by omega,by omega⟩)];exact⟨0,rfl,λ_=>rfl⟩
 ·rw[bW h0,bD];by_cases h1:y=0
  ·subst h1;rw[bX (show ¬¬(0:Int)=0 from λk=>k rfl)];simp only[bA];rw[Int.mul_zero,aG,bW (show cz 0 from⟨by omega,by omega⟩)];exact⟨0,rfl,λ_=>rfl⟩
  ·rw[bW h1,bD,bG (show ¬@Eq Int ((y.natAbs:Nat):Int) 0 by omega),jU];have q0:0<=(1099511627776:Int)/((y.natAbs:Nat):Int):=zQ (by omega) (by omega);have q1:(1099511627776:Int)/((y.natAbs:Nat):Int)<=1099511627776:=ye _ (by omega);rw[aG];simp only;have k:=Nd (x:=y) (y:=x) h1;rw[zI]at k;by_cases c:(1099511627776:Int)/((y.natAbs:Nat):Int)<((x.natAbs:Nat):Int)
   ·rw[bW c,bX (k.mp c)];exact⟨0,rfl,λe=>dF e (k.mp c)⟩
   ·have hR:cz (x*y):=Decidable.byContradiction λe=>c (k.mpr e);rw[bX c,bW hR,aG (by have:=hR.1;omega) (by have:=hR.2;omega)];exact⟨x*y,rfl,λ_=>rfl⟩
def Cc{x y:Int}(hx:cz x)(hy:cz y):∃v,Oh x y=V (v,J (cz (x*y)))/\(cz (x*y)->v=x*y):=by
 unfold Oh;rw[BG,mJ hx,mJ hy];by_cases h0:x=0
 ·subst h0;rw[bX (show ¬¬(0:Int)=0 from λk=>k rfl)];simp only[bA];rw[xT,aG,bW (show cz 0 from⟨by omega,by omega⟩)];exact⟨0,rfl,λ_=>rfl⟩
 ·rw[bW h0,bD,bG (show ¬@Eq Int ((x.natAbs:Nat):Int) 0 by omega),jU];have q0:0<=(1099511627776:Int)/((x.natAbs:Nat):Int):=zQ (by omega) (by omega);have q1:(1099511627776:Int)/((x.natAbs:Nat):Int)<=1099511627776:=ye _ (by omega);rw[aG];simp only;have k:=Nd (x:=x) (y:=y) h0;by_cases c:(1099511627776:Int)/((x.natAbs:Nat):Int)<((y.natAbs:Nat):Int)
  ·rw[bW c,bX (k.mp c)];exact⟨0,rfl,λe=>dF e (k.mp c)⟩
  ·have hR:cz (x*y):=Decidable.byContradiction λe=>c (k.mpr e);rw[bX c,bW hR,aG (by have:=hR.1;omega) (by have:=hR.2;omega)];exact⟨x*y,rfl,λ_=>rfl⟩
def lT{op x y:Int}(hx:cz x)(hy:cz y)(ho:binop op):∃v,FX op x y=V (v,J (cz (fK op x y)))/\(cz (fK op x y)->v=fK op x y):=by
 obtain⟨o1,o2⟩:=ho;have hx':=hx;have hy':=hy;obtain⟨a1,a2⟩:=hx';obtain⟨b1,b2⟩:=hy';have cases15:op=8\/op=9\/op=10\/op=11\/op=12\/op=13\/op=14\/op=15\/op=16\/op=17\/op=18\/op=19\/op=20\/op=21\/op=22:=by omega
 unfold FX;simp only[Cw,aeu];rcases cases15 with rfl|rfl|rfl|rfl|rfl|rfl|rfl|rfl|rfl|rfl|rfl|rfl|rfl|rfl|rfl
 all_goals simp only[Int.reduceEq,eR,cR,bA,bD]
 ·rw[aG];exact⟨x+y,rfl,λ_=>rfl⟩
 ·rw[aG];exact⟨x-y,rfl,λ_=>rfl⟩
 ·obtain⟨v,e,h⟩:=ah0 hx hy;rw[e];exact⟨v,rfl,h⟩
 ·rw[RU hx hy];exact eo (op:=11) rfl (Ol hx).1
 ·by_cases h0:y=0
  ·rw[bW h0];have e:fK 12 x y=0:=bG h0;exact eo (op:=12) e.symm (by rw[e];exact⟨by omega,by omega⟩)
  ·rw[bX h0,bA,RU hx hy];simp only;have e:fK 12 x y=x-y*nv x y:=bP h0;have hm:=(PO (x:=x) hy h0).1;obtain⟨c1,c2⟩:=hm;rw[aG (n:=y*nv x y),aG];exact eo (op:=12) e.symm (by rw[e];exact⟨c1,c2⟩)
 ·exact eo (op:=13) rfl (sg _)
 ·refine eo (op:=14) ?_ (sg _);show nr _=nr _
  congr 1
 ·exact eo (op:=15) rfl (sg _)
 ·exact eo (op:=16) rfl (sg _)
 ·exact eo (op:=17) rfl (sg _)
 ·exact eo (op:=18) rfl (sg _)
 ·rw[BG,BG];by_cases h0:x=0
  ·rw[bX (show ¬¬x=0 from λk=>k h0),bA];refine eo (op:=19) ?_ (sg _);show nr G=nr (J (x≠0/\y≠0));rw[bX (λk=>k.1 h0)]
  ·rw[bW h0,bD];refine eo (op:=19) ?_ (sg _);show nr _=nr (J (x≠0/\y≠0))
   congr 1
   exact decide_eq_decide.mpr ⟨λk=>⟨h0,k⟩,λk=>k.2⟩
 ·rw[BG,BG];by_cases h0:x=0
  ·rw[bX (show ¬¬x=0 from λk=>k h0),bA];refine eo (op:=20) ?_ (sg _);show nr _=nr (J (x≠0\/y≠0))
   congr 1
   exact decide_eq_decide.mpr ⟨.inr,λk=>k.elim (λe=>dF h0 e) id⟩
  ·rw[bW h0,bD];refine eo (op:=20) ?_ (sg _);show nr O=nr (J (x≠0\/y≠0));rw[bW (.inl h0)]
 ·by_cases c:x<y
  ·rw[bW c];have e:fK 21 x y=x:=wN (by omega);exact eo (op:=21) e.symm (by rw[e];exact hx)
  ·rw[bX c];have e:fK 21 x y=y:=xW (by omega);exact eo (op:=21) e.symm (by rw[e];exact hy)
 ·by_cases c:y<x
  ·rw[bW c];have e:fK 22 x y=x:=Int.max_eq_left (by omega);exact eo (op:=22) e.symm (by rw[e];exact hx)
  ·rw[bX c];have e:fK 22 x y=y:=Int.max_eq_right (by omega);exact eo (op:=22) e.symm (by rw[e];exact hy)
end Go.Proofs.YtnfljbehcffmcaaGreat
end
