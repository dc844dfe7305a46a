/- Merged: Hn, Gd, Ho, Pl, Nd, Nd2, Nd3, Nd4, Nd5, Nd6, Nd7, Ne1, Pl2, Ne2, Ne3, Ne4, Ne5, Ne6, Ne7, Ne8, Ne11, Ne12. -/
import Derived.Test.YtnfljbehcffmcaaGreatM1RefineSteps
import Derived.Test.YtnfljbehcffmcaaGreatM2RefineSteps
import Derived.KernelRfl
open Nat renaming le_refl -> zm, zero_le -> yV, mod_lt -> xg, lt_succ_iff_lt_or_eq -> xo
open Int renaming toNat_natCast -> zg, le_refl -> zw, toNat -> zD, mul_nonneg -> zJ, mul_le_mul_of_nonneg_right -> zL, mul_comm -> zO, ediv_nonneg -> zS, add_mul -> zU, dvd_trans -> zY, mul_assoc -> yb, one_mul -> yc, ediv_le_self -> yo, dvd_sub -> yA, sub_mul -> yC, gcd -> yD, mul_ediv_add_emod -> yX, emod_nonneg -> yY, mul_le_mul -> yZ, dvd_add -> y4, emod_lt_of_pos -> y7, ediv_mul_le -> xu, mul_add -> xE, dvd_mul_left -> xF, dvd_zero -> xL, le_of_lt -> xU, le_trans -> xV, zero_sub -> xW, ediv_mul_cancel -> wu, natCast_mul -> wJ, lt_of_mul_lt_mul_right -> wM, ediv_lt_of_lt_mul -> wW, eq_ofNat_of_zero_le -> wX, mul_le_mul_of_nonneg_left -> wY, dvd_of_emod_eq_zero -> wZ, lt_ediv_add_one_mul_self -> w9
open List renaming mem_singleton -> zo, getElem?_eq_getElem -> zq, all_eq_true -> zx, mem_cons -> zy, length_take -> zA, take_length -> zH, range -> zN, mem_append -> zP, length -> zR, drop -> ya, getElem_of_mem -> y5, getElem_take -> xJ, getElem_mem -> xO, any_eq_true -> wo, length_pos_iff -> wG
open Bool renaming and_eq_true -> zi, or_eq_true -> yK, true -> O, false -> G
open Option renaming some -> zF, some -> V, none -> I
open Decidable renaming decide -> J
open Go.Proofs.Tryz renaming prog -> vi
open Go.Proofs.Tryz
set_option linter.unusedSectionVars false
set_option linter.unusedVariables false
set_option linter.unusedSimpArgs false
set_option linter.defProp false
noncomputable section
set_option maxRecDepth 100000
namespace Go.Proofs.YtnfljbehcffmcaaGreat
open Go Go.Iv
open Go.IntKind (i64 u64)
abbrev E80:=aL
def d80:Td 0 E80:= .c [] [2] (.r 0 1 (ec 2 (qp 0 0) en) (sb 0 34 (lg 34) sn) (λz=>z.2.1) (λx=>(((),()),(x,()))))
def Wi(a0:Int):E80:=
 aL.mk a0 a0 (0)
def e80:=eL vi 80 G (aU ln) d80 (λg=>V (Wi g.1))
def Mh:EO e80:=λh=>kL (an:= .no) func80 aV aH h
def asb:bq:=dw
abbrev avE:=Bool
def d145:Td 0 avE:= .c [] [2] (.r 0 0 (ec 2 qb en) sn (λz=>z.1.1) (λx=>((x,()),(()))))
def ay8:=(aU ln)
def apO:An:=(noTwo (.two (.rb [] 2) .no))
def axo:∀f∈([]:aa Nat),bz (asb) f:=aH
def ji(a0:Int):avE:=
 let r1:Bool:=bif J (-1099511627776<=a0)then J (a0<=1099511627776)else G;r1
def aF4(a0:Int):bV vi (asb) 300 (apO) 145 (ay8.c (a0,())) [] 0 d145.rd=V (ji a0):=by
 refine Eq.trans (b:=(
  match bif J (-1099511627776<=a0)then V (J (a0<=1099511627776))else V (G)with|I=>I|V r1=>V (r1):af avE)) aW ?_
 simp only[ji,cu,cQ]
def Zs:=eL vi 145 G ay8 d145 (λg=>V (ji g.1))
def AF:EO Zs:=λh=>kL (F:=asb) (an:=apO) (l:=[(.skip,(.rb [] 2))]) func145 aV (aA axo aH) h (c:=λg=>aF4 g.1)
def j4:EP Zs:=λh=>kP h
def azg:bq:=dw
abbrev awr:=aL
def d224:Td 0 awr:= .c [] [0] (.r 0 1 (ec 0 (qp 0 0) en) (sb 0 34 (lg 34) sn) (λz=>z.2.1) (λx=>(((),()),(x,()))))
def ayF:=ln
def aoo:An:= .no
def jC:awr:=
 aL.mk (1) (0) (0)
def aEN:bV vi (azg) 300 (aoo) 224 (ayF.c ()) [] 0 d224.rd=V (jC):=aW
def Oe:=eL vi 224 G ayF d224 (λ_=>V (jC))
def ko:EO Oe:=λh=>kL (F:=azg) (an:=aoo) func224 aV aH h (c:=λ_=>aEN)
def lI:EP Oe:=λh=>kP h
def aFY:bq:=(Oe dw)
abbrev arl:=Bool
def d147:Td 0 arl:= .c [] [2] (.r 0 0 (ec 2 qb en) sn (λz=>z.1.1) (λx=>((x,()),(()))))
def aBr:=(lc (qg 34) ln)
def apF:An:= .no
def fC(a0:aL):arl:=
 bif J (a0.ah=jC.ah)then bif J (a0.ag=jC.ag)then bif J (a0.ak=jC.ak)then O else G else G else G
def aEY(a0:aL):bV vi (aFY) 300 (apF) 147 (aBr.c (a0,())) [] 0 d147.rd=V (fC a0):=by
 refine Eq.trans (b:=(
  V (bif J (a0.ah=jC.ah)then bif J (a0.ag=jC.ag)then bif J (a0.ak=jC.ak)then O else G else G else G):af arl)) aW ?_
 simp only[fC,cu,cQ]
def FD:=eL vi 147 G aBr d147 (λg=>V (fC g.1))
def jv:EO FD:=λh=>kL (an:=apF) func147 (ko aV) aH h (c:=λg=>aEY g.1)
def fJ:EP FD:=λh=>kP h
def awI:bq:=(FD (Zs dw))
abbrev awp:=Bool
def d144:Td 0 awp:= .c [] [2] (.r 0 0 (ec 2 qb en) sn (λz=>z.1.1) (λx=>((x,()),(()))))
def anV:∀f∈([145]:aa Nat),bz (awI) f:=(aA (fJ (j4 bF)) aH)
def ug(a0:aL):af awp:=
 bif fC a0 then V O else match bif bif ji a0.ah then G else O then V O else bif bif ji a0.ag then G else O then V O else V (J (a0.ag<a0.ah))with|I=>I|V r1=>bif r1 then V G else bif J (a0.ah=a0.ag)then V (J (a0.ak=0))else match bif J (1<=a0.ak)then if¬a0.ak=0then V (J ((aj (a0.ag-a0.ah)).tmod a0.ak=0))else I else V G with|I=>I|V r2=>V (r2)
def OG:=eL vi 144 G (lc (qg 34) ln) d144 (λg=>ug g.1)
def lF:EO OG:=λh=>kL (F:=awI) (an:=(noTwo (noTwo (.two (.two (.rb [145] 21) .no) (noTwo (.two (.rb [145] 2) .no)))))) (l:=[(.skip,(.rb [145] 21)),(.skip,(.rb [145] 2))]) func144 (jv (AF aV)) (aA anV (aA anV aH)) h
def gz:EP OG:=λh=>kP h
abbrev aCD:=aL
def d149:Td 0 aCD:= .c [] [2] (.r 0 1 (ec 2 (qp 0 0) en) (sb 0 34 (lg 34) sn) (λz=>z.2.1) (λx=>(((),()),(x,()))))
def iq(a0:Int):aCD:=
 aL.mk a0 a0 (0)
def ajy:=eL vi 149 G (aU ln) d149 (λg=>V (iq g.1))
def rX:EO ajy:=λh=>kL (an:= .no) func149 aV aH h
def Y3:EP ajy:=λh=>kP h
abbrev aAq:=aL
def d225:Td 0 aAq:= .c [] [6] (.r 0 1 (ec 6 (qp 0 0) en) (sb 0 34 (lg 34) sn) (λz=>z.2.1) (λx=>(((),()),(x,()))))
def nJ(a0:Int)(a1:Int)(a2:Int):af aAq:=
 bif J (a1<a0)then V (jC)else bif J (a2=0)then V (iq a0)else if¬a2=0then bif J (a0=aj (a0+aj (aj ((aj (a1-a0)).tdiv a2)*a2)))then V (iq a0)else V (aL.mk a0 (aj (a0+aj (aj ((aj (a1-a0)).tdiv a2)*a2))) a2)else I
def QA:=eL vi 225 G (aU (aU (aU ln))) d225 (λg=>nJ g.1 g.2.1 g.t.1)
def sC:EO QA:=λh=>kL (an:= .no) func225 (ko (rX aV)) aH h
def jY:EP QA:=λh=>kP h
def aCa:bq:=(QA (Oe (FD dw)))
abbrev azK:=aL×aL
def d146:Td 0 azK:= .c [] [4,5] (.r 0 2 (ec 4 (qp 0 0) (ec 5 (qp 1 0) en)) (sb 0 34 (lg 34) (sb 1 34 (lg 34) sn)) (λz=>(z.2.1,z.t.1)) (λx=>(((),(),()),(x.1,x.2,()))))
def axJ:∀f∈([147]:aa Nat),bz (aCa) f:=(aA (jY (lI (fJ bF))) aH)
def C2(a0:aL)(a1:Int):af azK:=
 match bif fC a0 then V (O)else V (J (a1<a0.ah))with|I=>I|V r1=>bif r1 then V ((jC,a0))else bif J (a0.ag<=a1)then V ((a0,jC))else match nJ a0.ah a1 a0.ak with|I=>I|V r2=>match nJ (aj (r2.ag+a0.ak)) a0.ag a0.ak with|I=>I|V r3=>V ((r2,r3))
def ajT:=eL vi 146 G (lc (qg 34) (aU ln)) d146 (λg=>C2 g.1 g.2.1)
def K0:EO ajT:=λh=>kL (F:=aCa) (an:=(noTwo (.two (.two (.rb [147] 7) .no) .no))) (l:=[(.skip,(.rb [147] 7))]) func146 (sC (ko (jv aV))) (aA axJ aH) h
def XO:EP ajT:=λh=>kP h
structure mS where
 (t3 t5:Int)
 t6:List Int
 (t7 t8:Int)
def Qs:Td 0 mS:= .c [] [3,5,6,7,8] (.r 0 0 (ec 3 aN (ec 5 aN (ec 6 (ql 3) (ec 7 aN (ec 8 aN en))))) sn (λz=>⟨z.1.1,z.1.2.1,z.1.t.1,z.1.t.2.1,z.1.q.1⟩) (λx=>((x.t3,x.t5,x.t6,x.t7,x.t8,()),(()))))
def ud(p:mS):af (af mS):=
 bif bif J (p.t5=0)then G else O then if¬p.t5=0then V (V (mS.mk p.t5 (p.t3.tmod p.t5) p.t6 p.t7 p.t8))else I else V (I)
def Cd:=bI (ud)
structure ua where
 t3:Int
 t6:List Int
 (t7 t8:Int)
def QH:Td 0 ua:= .c [] [3,6,7,8] (.r 0 0 (ec 3 aN (ec 6 (ql 3) (ec 7 aN (ec 8 aN en)))) sn (λz=>⟨z.1.1,z.1.2.1,z.1.t.1,z.1.t.2.1⟩) (λx=>((x.t3,x.t6,x.t7,x.t8,()),(()))))
def tU(p:ua):af (af ua):=
 bif J (p.t8<p.t7)then if 0<=p.t8/\p.t8<zR p.t6 then match Cd (mS.mk p.t3 p.t6[zD p.t8]! p.t6 p.t7 p.t8)with|I=>I|V r1=>bif bif J (r1.t5=0)then G else O then if¬r1.t5=0then I else I else V (V (ua.mk r1.t3 r1.t6 r1.t7 (aj (r1.t8+1))))else I else V (I)
def abS:An:=(noTwo (noTwo (.two (noTwo (Qs.lp Cd .no)) .no)))
def FT:=bI (tU)
abbrev aC6:=Int
def d226:Td 0 aC6:= .c [] [2] (.r 0 0 (ec 2 aN en) sn (λz=>z.1.1) (λx=>((x,()),(()))))
def C3(a0:aa Int):af aC6:=
 match FT (ua.mk 0 a0 (zR a0) 0)with|I=>I|V r2=>bif J (r2.t8<r2.t7)then if 0<=r2.t8/\r2.t8<zR r2.t6 then match Cd (mS.mk r2.t3 r2.t6[zD r2.t8]! r2.t6 r2.t7 r2.t8)with|I=>I|V r3=>bif bif J (r3.t5=0)then G else O then if¬r3.t5=0then I else I else I else I else V (r2.t3)
def aaJ:=eL vi 226 G (lc (ql 3) ln) d226 (λg=>C3 g.1)
def DE:EO aaJ:=λh=>kL (an:=(noTwo (noTwo (.two (noTwo (QH.lp FT abS)) .no)))) (l:=[(aZ f226 0,(QH.lp FT abS)),(aZ f226 1,(Qs.lp Cd .no))]) func226 aV (aA (aO QH) (aA (aO Qs) aH)) h
def nX:EP aaJ:=λh=>kP h
def aFs:bq:=dw
abbrev avu:=Int
def d227:Td 0 avu:= .c [] [2] (.r 0 0 (ec 2 aN en) sn (λz=>z.1.1) (λx=>((x,()),(()))))
def azI:=(aU ln)
def ao3:An:= .no
def jW(a0:Int):avu:=
 if a0<aj (0-a0)then aj (0-a0)else a0
def aGV(a0:Int):bV vi (aFs) 300 (ao3) 227 (azI.c (a0,())) [] 0 d227.rd=V (jW a0):=by
 refine Eq.trans (b:=(
  V (if a0<aj (0-a0)then aj (0-a0)else a0):af avu)) aW ?_
 simp only[jW,cu,cQ]
def aeU:=eL vi 227 G azI d227 (λg=>V (jW g.1))
def Dd:EO aeU:=λh=>kL (an:=ao3) func227 aV aH h (c:=λg=>aGV g.1)
def Iq:EP aeU:=λh=>kP h
def aBf:bq:=(aeU (aaJ (QA (FD dw))))
abbrev aCb:=aL
def d148:Td 0 aCb:= .c [] [4] (.r 0 1 (ec 4 (qp 0 0) en) (sb 0 34 (lg 34) sn) (λz=>z.2.1) (λx=>(((),()),(x,()))))
def awM:∀f∈([147]:aa Nat),bz (aBf) f:=(aA (Iq (nX (jY (fJ bF)))) aH)
def mH(a0:aL)(a1:aL):af aCb:=
 bif fC a0 then V (a1)else match bif fC a1 then V (O)else V (bif J (a0.ah=a1.ah)then bif J (a0.ag=a1.ag)then bif J (a0.ak=a1.ak)then O else G else G else G)with|I=>I|V r1=>bif r1 then V (a0)else match C3 [a0.ak,a1.ak,jW (aj (a0.ah-a1.ah))]with|I=>I|V r2=>match nJ (if a1.ah<a0.ah then a1.ah else a0.ah) (if a0.ag<a1.ag then a1.ag else a0.ag) r2 with|I=>I|V r3=>V (r3)
def abM:=eL vi 148 G (lc (qg 34) (lc (qg 34) ln)) d148 (λg=>mH g.1 g.2.1)
def sx:EO abM:=λh=>kL (F:=aBf) (an:=(noTwo (noTwo (.two (.two (.rb [147] 14) .no) .no)))) (l:=[(.skip,(.rb [147] 14))]) func148 (Dd (DE (sC (jv aV)))) (aA awM aH) h
def H6:EP abM:=λh=>kP h
def F81:bq:=(ajy (abM (FD (ajT (Zs (OG dw))))))
abbrev E81:=aL×Int
def d81:Td 0 E81:= .c [] [6,7] (.r 0 1 (ec 6 (qp 0 0) (ec 7 aN en)) (sb 0 34 (lg 34) sn) (λz=>(z.2.1,z.1.2.1)) (λx=>(((),x.2,()),(x.1,()))))
def aEz:∀f∈([145]:aa Nat),bz (F81) f:=(aA (Y3 (H6 (fJ (XO (j4 (gz bF)))))) aH)
def m81(a0:aL)(a1:Int)(a2:Int):af E81:=
 match ug a0 with|I=>I|V r1=>bif bif r1 then G else O then V ((aL.mk (0) (0) (0),1))else match bif J (a2<a1)then V (O)else bif bif ji a1 then G else O then V (O)else V (bif ji a2 then G else O)with|I=>I|V r2=>bif r2 then V ((aL.mk (0) (0) (0),3))else match C2 a0 (aj (a1-1))with|I=>I|V r3=>match C2 r3.snd a2 with|I=>I|V r4=>bif bif fC r3.fst then G else O then match mH r4.fst (iq a1)with|I=>I|V r5=>bif bif fC r4.snd then G else O then match mH r5 (iq a2)with|I=>I|V r6=>V ((r6,0))else V ((r5,0))else bif bif fC r4.snd then G else O then match mH r4.fst (iq a2)with|I=>I|V r7=>V ((r7,0))else V ((r4.fst,0))
def e81:=eL vi 81 G (lc (qg 34) (aU (aU ln))) d81 (λg=>m81 g.1 g.2.1 g.t.1)
def TC:EO e81:=λh=>kL (F:=F81) (an:=(noTwo (noTwo (.two (.two (.rb [145] 28) .no) .no)))) (l:=[(.skip,(.rb [145] 28))]) func81 (rX (sx (jv (K0 (AF (lF aV)))))) (aA aEz aH) h
def aBY:bq:=(FD dw)
abbrev aAT:=Bool
def d177:Td 0 aAT:= .c [] [4] (.r 0 0 (ec 4 qb en) sn (λz=>z.1.1) (λx=>((x,()),(()))))
def aop:∀f∈([147]:aa Nat),bz (aBY) f:=(aA (fJ bF) aH)
def XY(a0:aL)(a1:Int):af aAT:=
 match bif fC a0 then V O else bif J (a1<a0.ah)then V O else V (J (a0.ag<a1))with|I=>I|V r1=>bif r1 then V G else match bif J (a0.ak=0)then V O else if¬a0.ak=0then V (J ((aj (a1-a0.ah)).tmod a0.ak=0))else I with|I=>I|V r2=>V (r2)
def akM:=eL vi 177 G (lc (qg 34) (aU ln)) d177 (λg=>XY g.1 g.2.1)
def Ma:EO akM:=λh=>kL (F:=aBY) (an:=(noTwo (.two (.two (.rb [147] 18) .no) (.two (.rb [147] 4) .no)))) (l:=[(.skip,(.rb [147] 18)),(.skip,(.rb [147] 4))]) func177 (jv aV) (aA aop (aA aop aH)) h
def Bg:EP akM:=λh=>kP h
def F92:bq:=(akM (OG dw))
abbrev E92:=Bool
def d92:Td 0 E92:= .c [] [4] (.r 0 0 (ec 4 qb en) sn (λz=>z.1.1) (λx=>((x,()),(()))))
def aGA:∀f∈([144,177]:aa Nat),bz (F92) f:=(aA (Bg (gz bF)) (aA (Bg (gz bF)) aH))
def m92(a0:aL)(a1:Int):af E92:=
 match match ug a0 with|I=>I|V r1=>bif r1 then match XY a0 a1 with|I=>I|V r2=>V (r2)else V (G)with|I=>I|V r3=>V (r3)
def e92:=eL vi 92 G (lc (qg 34) (aU ln)) d92 (λg=>m92 g.1 g.2.1)
def RE:EO e92:=λh=>kL (F:=F92) (an:=(noTwo (.two (.rb [144,177] 4) .no))) (l:=[(.skip,(.rb [144,177] 4))]) func92 (Ma (lF aV)) (aA aGA aH) h
abbrev azi:=Int
def d176:Td 0 azi:= .c [] [2] (.r 0 0 (ec 2 aN en) sn (λz=>z.1.1) (λx=>((x,()),(()))))
def BB(a0:aL):af azi:=
 bif fC a0 then V 0 else bif J (a0.ak=0)then V 1 else if¬a0.ak=0then V (aj (aj ((aj (a0.ag-a0.ah)).tdiv a0.ak)+1))else I
def ar1:=eL vi 176 G (lc (qg 34) ln) d176 (λg=>BB g.1)
def Ad:EO ar1:=λh=>kL (an:= .no) func176 (jv aV) aH h
def Yk:EP ar1:=λh=>kP h
abbrev ayx:=Bool×Bool
def d228:Td 0 ayx:= .c [] [2,3] (.r 0 0 (ec 2 qb (ec 3 qb en)) sn (λz=>(z.1.1,z.1.2.1)) (λx=>((x.1,x.2,()),(()))))
def RY(a0:aL):af ayx:=
 match XY a0 (0)with|I=>I|V r1=>match BB a0 with|I=>I|V r2=>bif J (1<r2)then V ((r1,O))else match BB a0 with|I=>I|V r3=>bif J (r3=1)then V ((r1,bif J (a0.ah=0)then G else O))else V ((r1,G))
def akq:=eL vi 228 G (lc (qg 34) ln) d228 (λg=>RY g.1)
def KZ:EO akq:=λh=>kL (an:= .no) func228 (Ma (Ad aV)) aH h
def Ir:EP akq:=λh=>kP h
abbrev axy:=Bool×Bool
def d151:Td 0 axy:= .c [] [2,3] (.r 0 0 (ec 2 qb (ec 3 qb en)) sn (λz=>(z.1.1,z.1.2.1)) (λx=>((x.1,x.2,()),(()))))
def S6(a0:aL):af axy:=
 match ug a0 with|I=>I|V r1=>bif bif r1 then G else O then V ((G,G))else match RY a0 with|I=>I|V r2=>V (r2)
def alM:=eL vi 151 G (lc (qg 34) ln) d151 (λg=>S6 g.1)
def L3:EO alM:=λh=>kL (an:= .no) func151 (KZ (lF aV)) aH h
def ayR:bq:=(abM (OG dw))
abbrev ay3:=aL×Int
def d229:Td 0 ay3:= .c [] [4,5] (.r 0 1 (ec 4 (qp 0 0) (ec 5 aN en)) (sb 0 34 (lg 34) sn) (λz=>(z.2.1,z.1.2.1)) (λx=>(((),x.2,()),(x.1,()))))
def aA5:∀f∈([144]:aa Nat),bz (ayR) f:=(aA (H6 (gz bF)) aH)
def akV(a0:aL)(a1:aL):af ay3:=
 match match ug a0 with|I=>I|V r1=>bif bif r1 then G else O then V (O)else match ug a1 with|I=>I|V r2=>V (bif r2 then G else O)with|I=>I|V r3=>bif r3 then V ((aL.mk (0) (0) (0),1))else match mH a0 a1 with|I=>I|V r4=>V ((r4,0))
def aGy:=eL vi 229 G (lc (qg 34) (lc (qg 34) ln)) d229 (λg=>akV g.1 g.2.1)
def ah4:EO aGy:=λh=>kL (F:=ayR) (an:=(noTwo (.two (.two (.rb [144] 13) .no) .no))) (l:=[(.skip,(.rb [144] 13))]) func229 (sx (lF aV)) (aA aA5 aH) h
abbrev aCt:=aL
def d152:Td 0 aCt:= .c [] [4] (.r 0 1 (ec 4 (qp 0 0) en) (sb 0 34 (lg 34) sn) (λz=>z.2.1) (λx=>(((),()),(x,()))))
def uL(a0:aL)(a1:aL):af aCt:=
 bif bif J (a0.ah=a1.ah)then bif J (a0.ag=a1.ag)then bif J (a0.ak=a1.ak)then O else G else G else G then V (a0)else match akV a0 a1 with|I=>I|V r1=>V (r1.fst)
def ay7:=eL vi 152 G (lc (qg 34) (lc (qg 34) ln)) d152 (λg=>uL g.1 g.2.1)
def LM:EO ay7:=λh=>kL (an:= .no) func152 (ah4 aV) aH h
def aAA:bq:=(Oe dw)
abbrev azp:=aL
def d153:Td 0 azp:= .c [] [0] (.r 0 1 (ec 0 (qp 0 0) en) (sb 0 34 (lg 34) sn) (λz=>z.2.1) (λx=>(((),()),(x,()))))
def awc:=ln
def aoB:An:= .no
def aj3:azp:=
 jC
def aEH:bV vi (aAA) 300 (aoB) 153 (awc.c ()) [] 0 d153.rd=V (aj3):=aW
def aBc:=eL vi 153 G awc d153 (λ_=>V (aj3))
def akZ:EO aBc:=λh=>kL (F:=aAA) (an:=aoB) func153 (ko aV) aH h (c:=λ_=>aEH)
abbrev awA:=aL
def d230:Td 0 awA:= .c [] [4] (.r 0 1 (ec 4 (qp 0 0) en) (sb 0 34 (lg 34) sn) (λz=>z.2.1) (λx=>(((),()),(x,()))))
def pV(a0:Bool)(a1:Bool):af awA:=
 bif a0 then match mH jC (iq (0))with|I=>I|V r1=>bif a1 then match mH r1 (iq (1))with|I=>I|V r2=>V (r2)else V (r1)else bif a1 then match mH jC (iq (1))with|I=>I|V r3=>V (r3)else V (jC)
def ana:=eL vi 230 G (lc qb (lc qb ln)) d230 (λg=>pV g.1 g.2.1)
def Wx:EO ana:=λh=>kL (an:= .no) func230 (ko (rX (sx aV))) aH h
def Iw:EP ana:=λh=>kP h
def axN:bq:=(ana (akq (FD (OG dw))))
abbrev aB7:=aL×Int
def d154:Td 0 aB7:= .c [] [4,5] (.r 0 1 (ec 4 (qp 0 0) (ec 5 aN en)) (sb 0 34 (lg 34) sn) (λz=>(z.2.1,z.1.2.1)) (λx=>(((),x.2,()),(x.1,()))))
def awa:∀f∈([144]:aa Nat),bz (axN) f:=(aA (Iw (Ir (fJ (gz bF)))) aH)
def ahp(a0:Int)(a1:aL):af aB7:=
 match match ug a1 with|I=>I|V r1=>bif bif r1 then G else O then V (O)else bif bif J (a0=6)then G else O then V (bif J (a0=7)then G else O)else V (G)with|I=>I|V r2=>bif r2 then V ((aL.mk (0) (0) (0),1))else bif fC a1 then V ((a1,0))else bif J (a0=7)then match RY a1 with|I=>I|V r3=>match pV r3.snd r3.fst with|I=>I|V r4=>V ((r4,0))else V ((aL.mk (aj (0-a1.ag)) (aj (0-a1.ah)) a1.ak,0))
def ayP:=eL vi 154 G (aU (lc (qg 34) ln)) d154 (λg=>ahp g.1 g.2.1)
def amO:EO ayP:=λh=>kL (F:=axN) (an:=(noTwo (.two (.two (.rb [144] 18) .no) .no))) (l:=[(.skip,(.rb [144] 18))]) func154 (Wx (KZ (jv (lF aV)))) (aA awa aH) h
def aHj:bq:=dw
abbrev avG:=Bool
def d231:Td 0 avG:= .c [] [2] (.r 0 0 (ec 2 qb en) sn (λz=>z.1.1) (λx=>((x,()),(()))))
def aDb:=(aU ln)
def anR:An:= .no
def CX(a0:Int):avG:=
 bif J (a0=8)then O else bif J (a0=9)then O else bif J (a0=10)then O else bif J (a0=11)then O else bif J (a0=12)then O else bif J (a0=13)then O else bif J (a0=14)then O else bif J (a0=15)then O else bif J (a0=16)then O else bif J (a0=17)then O else bif J (a0=18)then O else bif J (a0=19)then O else bif J (a0=20)then O else bif J (a0=21)then O else bif J (a0=22)then O else G
def aGX(a0:Int):bV vi (aHj) 300 (anR) 231 (aDb.c (a0,())) [] 0 d231.rd=V (CX a0):=by
 refine Eq.trans (b:=(
  bif J (a0=8)then V (O)else bif J (a0=9)then V (O)else bif J (a0=10)then V (O)else bif J (a0=11)then V (O)else bif J (a0=12)then V (O)else bif J (a0=13)then V (O)else bif J (a0=14)then V (O)else bif J (a0=15)then V (O)else bif J (a0=16)then V (O)else bif J (a0=17)then V (O)else bif J (a0=18)then V (O)else bif J (a0=19)then V (O)else bif J (a0=20)then V (O)else bif J (a0=21)then V (O)else bif J (a0=22)then V (O)else V (G):af avG)) aW ?_
 simp only[CX,cu,cQ]
def aqn:=eL vi 231 G aDb d231 (λg=>V (CX g.1))
def af5:EO aqn:=λh=>kL (an:=anR) func231 aV aH h (c:=λg=>aGX g.1)
def rS:EP aqn:=λh=>kP h
def aym:bq:=(aeU dw)
abbrev azM:=Int×Bool
def d274:Td 0 azM:= .c [] [4,5] (.r 0 0 (ec 4 aN (ec 5 qb en)) sn (λz=>(z.1.1,z.1.2.1)) (λx=>((x.1,x.2,()),(()))))
def aAH:∀f∈([227]:aa Nat),bz (aym) f:=(aA (Iq bF) aH)
def Rb(a0:Int)(a1:Int):af azM:=
 match bif bif J (a0=0)then G else O then if¬jW a0=0then V (J (aj ((1099511627776:Int).tdiv (jW a0))<jW a1))else I else V G with|I=>I|V r1=>bif r1 then V (0,G)else V ((aj (a0*a1),O))
def aEQ:=eL vi 274 G (aU (aU ln)) d274 (λg=>Rb g.1 g.2.1)
def akS:EO aEQ:=λh=>kL (F:=aym) (an:=(noTwo (.two (.two (.rb [227] 15) .no) .no))) (l:=[(.skip,(.rb [227] 15))]) func274 (Dd aV) (aA aAH aH) h
structure uh where
 t0:List Int
 (t3 t4:Int)
def RS:Td 0 uh:= .c [] [0,3,4] (.r 0 0 (ec 0 (ql 3) (ec 3 aN (ec 4 aN en))) sn (λz=>⟨z.1.1,z.1.2.1,z.1.t.1⟩) (λx=>((x.t0,x.t3,x.t4,()),(()))))
def Ey(p:uh):af (af uh):=
 bif J (p.t4<zR p.t0)then if 0<=p.t4/\p.t4<zR p.t0 then V (V (uh.mk p.t0 (if((p.t0,p.t3,p.t4,()),()).fst.fst[((p.t0,p.t3,p.t4,()),()).fst.snd.snd.fst.toNat]! <((p.t0,p.t3,p.t4,()),()).fst.snd.fst then p.t0[zD p.t4]! else p.t3) (aj (p.t4+1))))else I else V (I)
def Jl:=bI (Ey)
abbrev az2:=Int
def d275:Td 0 az2:= .c [] [2] (.r 0 0 (ec 2 aN en) sn (λz=>z.1.1) (λx=>((x,()),(()))))
def aiV(a0:aa Int):af az2:=
 bif J ((zR a0:Int)<1)then I else if(0:Int)<=(0:Int)/\(0:Int)<zR a0 then match Jl (uh.mk a0 a0[0]! (1))with|I=>I|V r1=>bif J (r1.t4<zR r1.t0)then if 0<=r1.t4/\r1.t4<zR r1.t0 then I else I else V (r1.t3)else I
def aE2:=eL vi 275 G (lc (ql 3) ln) d275 (λg=>aiV g.1)
def afX:EO aE2:=λh=>kL (an:=(noTwo (noTwo (noTwo (.two (noTwo (RS.lp Jl .no)) .no))))) (l:=[(aZ f275 0,(RS.lp Jl .no))]) func275 aV (aA (aO RS) aH) h
structure tX where
 t0:List Int
 (t3 t4:Int)
def SU:Td 0 tX:= .c [] [0,3,4] (.r 0 0 (ec 0 (ql 3) (ec 3 aN (ec 4 aN en))) sn (λz=>⟨z.1.1,z.1.2.1,z.1.t.1⟩) (λx=>((x.t0,x.t3,x.t4,()),(()))))
def D7(p:tX):af (af tX):=
 bif J (p.t4<zR p.t0)then if 0<=p.t4/\p.t4<zR p.t0 then V (V (tX.mk p.t0 (if((p.t0,p.t3,p.t4,()),()).fst.snd.fst<((p.t0,p.t3,p.t4,()),()).fst.fst[((p.t0,p.t3,p.t4,()),()).fst.snd.snd.fst.toNat]! then p.t0[zD p.t4]! else p.t3) (aj (p.t4+1))))else I else V (I)
def Mk:=bI (D7)
abbrev axj:=Int
def d276:Td 0 axj:= .c [] [2] (.r 0 0 (ec 2 aN en) sn (λz=>z.1.1) (λx=>((x,()),(()))))
def afP(a0:aa Int):af axj:=
 bif J ((zR a0:Int)<1)then I else if(0:Int)<=(0:Int)/\(0:Int)<zR a0 then match Mk (tX.mk a0 a0[0]! (1))with|I=>I|V r1=>bif J (r1.t4<zR r1.t0)then if 0<=r1.t4/\r1.t4<zR r1.t0 then I else I else V (r1.t3)else I
def aFW:=eL vi 276 G (lc (ql 3) ln) d276 (λg=>afP g.1)
def ahy:EO aFW:=λh=>kL (an:=(noTwo (noTwo (noTwo (.two (noTwo (SU.lp Mk .no)) .no))))) (l:=[(aZ f276 0,(SU.lp Mk .no))]) func276 aV (aA (aO SU) aH) h
abbrev ayi:=aL×Int
def d232:Td 0 ayi:= .c [] [4,5] (.r 0 1 (ec 4 (qp 0 0) (ec 5 aN en)) (sb 0 34 (lg 34) sn) (λz=>(z.2.1,z.1.2.1)) (λx=>(((),x.2,()),(x.1,()))))
def YE(a0:aL)(a1:aL):af ayi:=
 match Rb a0.ah a1.ah with|I=>I|V r1=>bif bif r1.snd then G else O then V ((aL.mk (0) (0) (0),3))else match Rb a0.ah a1.ag with|I=>I|V r2=>bif bif r2.snd then G else O then V ((aL.mk (0) (0) (0),3))else match Rb a0.ag a1.ah with|I=>I|V r3=>bif bif r3.snd then G else O then V ((aL.mk (0) (0) (0),3))else match Rb a0.ag a1.ag with|I=>I|V r4=>bif bif r4.snd then G else O then V ((aL.mk (0) (0) (0),3))else match C3 [aj (a0.ak*jW a1.ah),aj (a1.ak*jW a0.ah),aj (a0.ak*a1.ak)]with|I=>I|V r5=>match aiV ([r1.fst]++[r2.fst]++[r3.fst]++[r4.fst])with|I=>I|V r6=>match afP ([r1.fst]++[r2.fst]++[r3.fst]++[r4.fst])with|I=>I|V r7=>match nJ r6 r7 r5 with|I=>I|V r8=>V ((r8,0))
def ave:=eL vi 232 G (lc (qg 34) (lc (qg 34) ln)) d232 (λg=>YE g.1 g.2.1)
def afu:EO ave:=λh=>kL (an:= .no) func232 (ahy (afX (akS (Dd (DE (sC aV)))))) aH h
def sJ:EP ave:=λh=>kP h
def axU:bq:=(aeU (QA (abM (ajT dw))))
abbrev axE:=aL
def d277:Td 0 axE:= .c [] [6] (.r 0 1 (ec 6 (qp 0 0) en) (sb 0 34 (lg 34) sn) (λz=>z.2.1) (λx=>(((),()),(x,()))))
def aCP:∀f∈([]:aa Nat),bz (axU) f:=aH
def Zl(a0:Int)(a1:aL)(a2:aL):af axE:=
 bif J (a0=11)then match bif J (0<=a1.ah)then V (J (0<=a2.ah))else V (G)with|I=>I|V r1=>bif r1 then match nJ (0) (if jW a1.ah<jW a1.ag then jW a1.ag else jW a1.ah) (1)with|I=>I|V r2=>V (r2)else match nJ (aj (0-if jW a1.ah<jW a1.ag then jW a1.ag else jW a1.ah)) (if jW a1.ah<jW a1.ag then jW a1.ag else jW a1.ah) (1)with|I=>I|V r3=>V (r3)else bif J (a0=12)then match nJ (if 0<aj (a2.ah+1)then 0 else aj (a2.ah+1)) (if aj (a2.ag-1)<0 then 0 else aj (a2.ag-1)) (1)with|I=>I|V r4=>V (r4)else bif J (a0=21)then match mH a1 a2 with|I=>I|V r5=>match C2 r5 (if a2.ag<a1.ag then a2.ag else a1.ag)with|I=>I|V r6=>V (r6.fst)else match mH a1 a2 with|I=>I|V r7=>match C2 r7 (aj ((if a1.ah<a2.ah then a2.ah else a1.ah)-1))with|I=>I|V r8=>V (r8.snd)
def aHd:=eL vi 277 G (aU (lc (qg 34) (lc (qg 34) ln))) d277 (λg=>Zl g.1 g.2.1 g.t.1)
def amZ:EO aHd:=λh=>kL (F:=axU) (an:=(noTwo (.two (noTwo (noTwo (.two (noTwo (.two (.two (.rb [] 29) .no) .no)) .no))) .no))) (l:=[(.skip,(.rb [] 29))]) func277 (Dd (sC (sx (K0 aV)))) (aA aCP aH) h
structure qj where
 t3:List Int
 (t6 t7:Int)
 b0:aL
def SC:Td 0 qj:= .c [] [1,3,6,7] (.t (bX.s 3 [] 3) (.c [] [1,3,6,7] (.r 0 2 (ec 1 (qp 0 0) (ec 3 (qo 1) (ec 6 aN (ec 7 aN en)))) (sb 0 34 (lg 34) (sr 1 3 sn)) (λz=>⟨z.t.1,z.1.t.1,z.1.t.2.1,z.2.1⟩) (λx=>(((),(),x.t6,x.t7,()),(x.b0,x.t3,()))))))
def Bk(p:qj):af (af qj):=
 bif J (p.t7<p.t6)then if(p.t3++[aj (p.b0.ah+aj (p.t7*p.b0.ak))]).length<=1073741824 then V (V (qj.mk (p.t3++[aj (p.b0.ah+aj (p.t7*p.b0.ak))]) p.t6 (aj (p.t7+1)) p.b0))else I else V (I)
def Ls:=bI (Bk)
abbrev aAn:=aa Int
def d278:Td 0 aAn:= .c [] [2] (.r 0 1 (ec 2 (qo 0) en) (sr 0 3 sn) (λz=>z.2.1) (λx=>(((),()),(x,()))))
def Zt(a0:aL):af aAn:=
 match BB a0 with|I=>I|V r1=>match Ls (qj.mk [] r1 (0) a0)with|I=>I|V r2=>bif J (r2.t7<r2.t6)then if(r2.t3++[aj (r2.b0.ah+aj (r2.t7*r2.b0.ak))]).length<=1073741824 then I else I else V (r2.t3)
def aHV:=eL vi 278 G (lc (qg 34) ln) d278 (λg=>Zt g.1)
def akb:EO aHV:=λh=>kL (an:=(noTwo (noTwo (.two (noTwo (SC.lp Ls .no)) .no)))) (l:=[(aZ f278 0,(SC.lp Ls .no))]) func278 (Ad aV) (aA (aO SC) aH) h
def awu:bq:=dw
abbrev aC8:=Int
def d315:Td 0 aC8:= .c [] [4] (.r 0 0 (ec 4 aN en) sn (λz=>z.1.1) (λx=>((x,()),(()))))
def azc:∀f∈([]:aa Nat),bz (awu) f:=aH
def adf(a0:Int)(a1:Int):af aC8:=
 bif J (a1=0)then V 0 else if¬a1=0then match if¬a1=0then bif bif J (a0.tmod a1=0)then G else O then V (bif J (a0<0)==J (a1<0)then G else O)else V G else I with|I=>I|V r1=>bif r1 then V (aj (aj (a0.tdiv a1)-1))else V (aj (a0.tdiv a1))else I
def aHQ:=eL vi 315 G (aU (aU ln)) d315 (λg=>adf g.1 g.2.1)
def aiz:EO aHQ:=λh=>kL (F:=awu) (an:=(noTwo (noTwo (noTwo (.two (.two (.rb [] 21) .no) .no))))) (l:=[(.skip,(.rb [] 21))]) func315 aV (aA azc aH) h
abbrev ayD:=Int
def d279:Td 0 ayD:= .c [] [6] (.r 0 0 (ec 6 aN en) sn (λz=>z.1.1) (λx=>((x,()),(()))))
def Ze(a0:Int)(a1:Int)(a2:Int):af ayD:=
 bif J (a0=11)then match adf a1 a2 with|I=>I|V r1=>V (r1)else bif J (a0=12)then bif J (a2=0)then V (0)else match adf a1 a2 with|I=>I|V r2=>V (aj (a1-aj (a2*r2)))else bif J (a0=21)then V (if a2<a1 then a2 else a1)else V (if a1<a2 then a2 else a1)
def aEy:=eL vi 279 G (aU (aU (aU ln))) d279 (λg=>Ze g.1 g.2.1 g.t.1)
def akp:EO aEy:=λh=>kL (an:= .no) func279 (aiz aV) aH h
structure o9 where
 (t0 t9:Int)
 t34:List Int
 (t35 t36:Int)
 t41:List Int
 (t42 t43:Int)
 (b0 b1 b2:aL)
def Tk:Td 0 o9:= .c [] [0,5,6,7,9,34,35,36,41,42,43] (.r 0 5 (ec 0 aN (ec 5 (qp 0 0) (ec 6 (qp 1 0) (ec 7 (qp 2 0) (ec 9 aN (ec 34 (qo 3) (ec 35 aN (ec 36 aN (ec 41 (qo 4) (ec 42 aN (ec 43 aN en))))))))))) (sb 0 34 (lg 34) (sb 1 34 (lg 34) (sb 2 34 (lg 34) (sr 3 3 (sr 4 3 sn))))) (λz=>⟨z.1.1,z.1.q.1,z.q.1,z.1.q.t.1,z.1.q.t.2.1,z.q.2.1,z.1.q.q.2.1,z.1.q.q.t.1,z.2.1,z.t.1,z.t.2.1⟩) (λx=>((x.t0,(),(),(),x.t9,(),x.t35,x.t36,(),x.t42,x.t43,()),(x.b0,x.b1,x.b2,x.t34,x.t41,()))))
def Kh(p:o9):af (af o9):=
 bif J (p.t43<p.t42)then if 0<=p.t43/\p.t43<zR p.t41 then if 3=3/\zD p.t43<zR p.t41 then match Ze p.t0 p.t9 p.t41[zD p.t43]! with|I=>I|V r5=>match mH p.b2 (iq r5)with|I=>I|V r6=>V (V (o9.mk p.t0 p.t9 p.t34 p.t35 p.t36 p.t41 p.t42 (aj (p.t43+1)) p.b0 p.b1 r6))else I else I else V (I)
def DU:=bI (Kh)
structure qP where
 t0:Int
 t34:List Int
 (t35 t36:Int)
 (b0 b1 b2:aL)
def QM:Td 0 qP:= .c [] [0,5,6,7,34,35,36] (.r 0 4 (ec 0 aN (ec 5 (qp 0 0) (ec 6 (qp 1 0) (ec 7 (qp 2 0) (ec 34 (qo 3) (ec 35 aN (ec 36 aN en))))))) (sb 0 34 (lg 34) (sb 1 34 (lg 34) (sb 2 34 (lg 34) (sr 3 3 sn)))) (λz=>⟨z.1.1,z.q.1,z.1.q.2.1,z.1.q.t.1,z.2.1,z.t.1,z.t.2.1⟩) (λx=>((x.t0,(),(),(),(),x.t35,x.t36,()),(x.b0,x.b1,x.b2,x.t34,()))))
def Bb(p:qP):af (af qP):=
 bif J (p.t36<p.t35)then if 0<=p.t36/\p.t36<zR p.t34 then if 3=3/\zD p.t36<zR p.t34 then match Zt p.b0 with|I=>I|V r1=>match DU (o9.mk p.t0 p.t34[zD p.t36]! p.t34 p.t35 p.t36 r1 (↑(zR r1):Int) 0 p.b0 p.b1 p.b2)with|I=>I|V r2=>bif J (r2.t43<r2.t42)then if 0<=r2.t43/\r2.t43<zR r2.t41 then if 3=3/\zD r2.t43<zR r2.t41 then match Ze r2.t0 r2.t9 r2.t41[zD r2.t43]! with|I=>I|V r3=>match mH r2.b2 (iq r3)with|I=>I|V r4=>I else I else I else V (V (qP.mk r2.t0 r2.t34 r2.t35 (aj (r2.t36+1)) r2.b0 r2.b1 r2.b2))else I else I else V (I)
def aeZ:An:=(noTwo (noTwo (.two (noTwo (noTwo (Tk.lp DU .no))) .no)))
def KT:=bI (Bb)
abbrev ax7:=aL
def d233:Td 0 ax7:= .c [] [6] (.r 0 1 (ec 6 (qp 0 0) en) (sb 0 34 (lg 34) sn) (λz=>z.2.1) (λx=>(((),()),(x,()))))
def vV(a0:Int)(a1:aL)(a2:aL):af ax7:=
 match BB a1 with|I=>I|V r7=>bif J (4096<r7)then match Zl a0 a1 a2 with|I=>I|V r8=>V (r8)else match BB a2 with|I=>I|V r9=>bif J (4096<r9)then match Zl a0 a1 a2 with|I=>I|V r10=>V (r10)else match BB a1 with|I=>I|V r11=>match BB a2 with|I=>I|V r12=>bif J (4096<aj (r11*r12))then match Zl a0 a1 a2 with|I=>I|V r13=>V (r13)else match Zt a1 with|I=>I|V r14=>match KT (qP.mk a0 r14 (↑(zR r14):Int) 0 a2 (aL.mk 0 0 0) jC)with|I=>I|V r15=>bif J (r15.t36<r15.t35)then if 0<=r15.t36/\r15.t36<zR r15.t34 then if 3=3/\zD r15.t36<zR r15.t34 then match Zt r15.b0 with|I=>I|V r16=>match DU (o9.mk r15.t0 r15.t34[zD r15.t36]! r15.t34 r15.t35 r15.t36 r16 (↑(zR r16):Int) 0 r15.b0 r15.b1 r15.b2)with|I=>I|V r17=>bif J (r17.t43<r17.t42)then if 0<=r17.t43/\r17.t43<zR r17.t41 then if 3=3/\zD r17.t43<zR r17.t41 then match Ze r17.t0 r17.t9 r17.t41[zD r17.t43]! with|I=>I|V r18=>match mH r17.b2 (iq r18)with|I=>I|V r19=>I else I else I else I else I else I else V (r15.b2)
def asD:=eL vi 233 G (aU (lc (qg 34) (lc (qg 34) ln))) d233 (λg=>vV g.1 g.2.1 g.t.1)
def aky:EO asD:=λh=>kL (an:=(noTwo (noTwo (noTwo (.two (noTwo (QM.lp KT aeZ)) .no))))) (l:=[(aZ f233 0,(QM.lp KT aeZ)),(aZ f233 1,(Tk.lp DU .no))]) func233 (akp (akb (amZ (ko (Ad (rX (sx aV))))))) (aA (aO QM) (aA (aO Tk) aH)) h
def su:EP asD:=λh=>kP h
structure oy where
 (t1 t5 t6 t7 t8:Int)
def R7:Td 0 oy:= .c [] [1,5,6,7,8] (.r 0 0 (ec 1 aN (ec 5 aN (ec 6 aN (ec 7 aN (ec 8 aN en))))) sn (λz=>⟨z.1.1,z.1.2.1,z.1.t.1,z.1.t.2.1,z.1.q.1⟩) (λx=>((x.t1,x.t5,x.t6,x.t7,x.t8,()),(()))))
def L9(p:oy):af (af oy):=
 bif J (1<p.t5)then if¬p.t5=0then V (V (oy.mk p.t1 (aj (p.t6-aj (aj (p.t6.tdiv p.t5)*p.t5))) p.t5 (aj (p.t8-aj (aj (p.t6.tdiv p.t5)*p.t7))) p.t7))else I else V (I)
def KV:=bI (L9)
abbrev axt:=Int
def d341:Td 0 axt:= .c [] [4] (.r 0 0 (ec 4 aN en) sn (λz=>z.1.1) (λx=>((x,()),(()))))
def akr(a0:Int)(a1:Int):af axt:=
 if¬a1=0then match KV (oy.mk a1 (a0.tmod a1) a1 1 0)with|I=>I|V r1=>bif J (1<r1.t5)then if¬r1.t5=0then I else I else if¬r1.t1=0then if¬r1.t1=0then V ((aj (r1.t7.tmod r1.t1+r1.t1)).tmod r1.t1)else I else I else I
def aAp:=eL vi 341 G (aU (aU ln)) d341 (λg=>akr g.1 g.2.1)
def amm:EO aAp:=λh=>kL (an:=(noTwo (noTwo (.two (R7.lp KV .no) .no)))) (l:=[(aZ f341 0,(R7.lp KV .no))]) func341 aV (aA (aO R7) aH) h
def aBU:bq:=(aAp (aDk (aaJ (Oe (ajy dw)))))
abbrev awt:=aL
def d316:Td 0 awt:= .c [] [4] (.r 0 1 (ec 4 (qp 0 0) en) (sb 0 34 (lg 34) sn) (λz=>z.2.1) (λx=>(((),()),(x,()))))
def axg:∀f∈([]:aa Nat),bz (aBU) f:=aH
def ag9(a0:aL)(a1:aL):af awt:=
 match C3 [a0.ak,a1.ak]with|I=>I|V r1=>match bif J ((if a1.ag<a0.ag then a1.ag else a0.ag)<if a0.ah<a1.ah then a1.ah else a0.ah)then V O else if¬r1=0then V (bif J ((aj (a1.ah-a0.ah)).tmod r1=0)then G else O)else I with|I=>I|V r2=>bif r2 then V (jC)else if¬r1=0then bif J (1<aj (a1.ak.tdiv r1))then if¬r1=0then if¬aj (a1.ak.tdiv r1)=0then if¬aj (a1.ak.tdiv r1)=0then if¬r1=0then if¬aj (a1.ak.tdiv r1)=0then match akr ((aj (a0.ak.tdiv r1)).tmod (aj (a1.ak.tdiv r1))) (aj (a1.ak.tdiv r1))with|I=>I|V r3=>match ahF ((aj ((aj ((aj (a1.ah-a0.ah)).tdiv r1)).tmod (aj (a1.ak.tdiv r1))+aj (a1.ak.tdiv r1))).tmod (aj (a1.ak.tdiv r1))) r3 (aj (a1.ak.tdiv r1))with|I=>I|V r4=>if¬a0.ak=0then if¬a0.ak=0then bif J (r4<aj ((aj (aj (aj ((if a0.ah<a1.ah then a1.ah else a0.ah)-a0.ah)+a0.ak)-1)).tdiv a0.ak))then if¬aj (a1.ak.tdiv r1)=0then bif J (aj ((aj ((if a1.ag<a0.ag then a1.ag else a0.ag)-a0.ah)).tdiv a0.ak)<aj (r4+aj (aj ((aj (aj (aj (aj ((aj (aj (aj ((if a0.ah<a1.ah then a1.ah else a0.ah)-a0.ah)+a0.ak)-1)).tdiv a0.ak)-r4)+aj (a1.ak.tdiv r1))-1)).tdiv (aj (a1.ak.tdiv r1)))*aj (a1.ak.tdiv r1))))then V (jC)else if¬aj (a1.ak.tdiv r1)=0then bif J (aj (r4+aj (aj ((aj (aj (aj (aj ((aj (aj (aj ((if a0.ah<a1.ah then a1.ah else a0.ah)-a0.ah)+a0.ak)-1)).tdiv a0.ak)-r4)+aj (a1.ak.tdiv r1))-1)).tdiv (aj (a1.ak.tdiv r1)))*aj (a1.ak.tdiv r1)))=aj (aj (r4+aj (aj ((aj (aj (aj (aj ((aj (aj (aj ((if a0.ah<a1.ah then a1.ah else a0.ah)-a0.ah)+a0.ak)-1)).tdiv a0.ak)-r4)+aj (a1.ak.tdiv r1))-1)).tdiv (aj (a1.ak.tdiv r1)))*aj (a1.ak.tdiv r1)))+aj (aj ((aj (aj ((aj ((if a1.ag<a0.ag then a1.ag else a0.ag)-a0.ah)).tdiv a0.ak)-aj (r4+aj (aj ((aj (aj (aj (aj ((aj (aj (aj ((if a0.ah<a1.ah then a1.ah else a0.ah)-a0.ah)+a0.ak)-1)).tdiv a0.ak)-r4)+aj (a1.ak.tdiv r1))-1)).tdiv (aj (a1.ak.tdiv r1)))*aj (a1.ak.tdiv r1))))).tdiv (aj (a1.ak.tdiv r1)))*aj (a1.ak.tdiv r1))))then V (iq (aj (a0.ah+aj (aj (r4+aj (aj ((aj (aj (aj (aj ((aj (aj (aj ((if a0.ah<a1.ah then a1.ah else a0.ah)-a0.ah)+a0.ak)-1)).tdiv a0.ak)-r4)+aj (a1.ak.tdiv r1))-1)).tdiv (aj (a1.ak.tdiv r1)))*aj (a1.ak.tdiv r1)))*a0.ak))))else V (aL.mk (aj (a0.ah+aj (aj (r4+aj (aj ((aj (aj (aj (aj ((aj (aj (aj ((if a0.ah<a1.ah then a1.ah else a0.ah)-a0.ah)+a0.ak)-1)).tdiv a0.ak)-r4)+aj (a1.ak.tdiv r1))-1)).tdiv (aj (a1.ak.tdiv r1)))*aj (a1.ak.tdiv r1)))*a0.ak))) (aj (a0.ah+aj (aj (aj (r4+aj (aj ((aj (aj (aj (aj ((aj (aj (aj ((if a0.ah<a1.ah then a1.ah else a0.ah)-a0.ah)+a0.ak)-1)).tdiv a0.ak)-r4)+aj (a1.ak.tdiv r1))-1)).tdiv (aj (a1.ak.tdiv r1)))*aj (a1.ak.tdiv r1)))+aj (aj ((aj (aj ((aj ((if a1.ag<a0.ag then a1.ag else a0.ag)-a0.ah)).tdiv a0.ak)-aj (r4+aj (aj ((aj (aj (aj (aj ((aj (aj (aj ((if a0.ah<a1.ah then a1.ah else a0.ah)-a0.ah)+a0.ak)-1)).tdiv a0.ak)-r4)+aj (a1.ak.tdiv r1))-1)).tdiv (aj (a1.ak.tdiv r1)))*aj (a1.ak.tdiv r1))))).tdiv (aj (a1.ak.tdiv r1)))*aj (a1.ak.tdiv r1)))*a0.ak))) (aj (aj (a1.ak.tdiv r1)*a0.ak)))else I else I else bif J (aj ((aj ((if a1.ag<a0.ag then a1.ag else a0.ag)-a0.ah)).tdiv a0.ak)<r4)then V (jC)else if¬aj (a1.ak.tdiv r1)=0then bif J (r4=aj (r4+aj (aj ((aj (aj ((aj ((if a1.ag<a0.ag then a1.ag else a0.ag)-a0.ah)).tdiv a0.ak)-r4)).tdiv (aj (a1.ak.tdiv r1)))*aj (a1.ak.tdiv r1))))then V (iq (aj (a0.ah+aj (r4*a0.ak))))else V (aL.mk (aj (a0.ah+aj (r4*a0.ak))) (aj (a0.ah+aj (aj (r4+aj (aj ((aj (aj ((aj ((if a1.ag<a0.ag then a1.ag else a0.ag)-a0.ah)).tdiv a0.ak)-r4)).tdiv (aj (a1.ak.tdiv r1)))*aj (a1.ak.tdiv r1)))*a0.ak))) (aj (aj (a1.ak.tdiv r1)*a0.ak)))else I else I else I else I else I else I else I else I else if¬a0.ak=0then if¬a0.ak=0then bif J (0<aj ((aj (aj (aj ((if a0.ah<a1.ah then a1.ah else a0.ah)-a0.ah)+a0.ak)-1)).tdiv a0.ak))then if¬aj (a1.ak.tdiv r1)=0then bif J (aj ((aj ((if a1.ag<a0.ag then a1.ag else a0.ag)-a0.ah)).tdiv a0.ak)<aj (0+aj (aj ((aj (aj (aj (aj ((aj (aj (aj ((if a0.ah<a1.ah then a1.ah else a0.ah)-a0.ah)+a0.ak)-1)).tdiv a0.ak)-0)+aj (a1.ak.tdiv r1))-1)).tdiv (aj (a1.ak.tdiv r1)))*aj (a1.ak.tdiv r1))))then V (jC)else if¬aj (a1.ak.tdiv r1)=0then bif J (aj (0+aj (aj ((aj (aj (aj (aj ((aj (aj (aj ((if a0.ah<a1.ah then a1.ah else a0.ah)-a0.ah)+a0.ak)-1)).tdiv a0.ak)-0)+aj (a1.ak.tdiv r1))-1)).tdiv (aj (a1.ak.tdiv r1)))*aj (a1.ak.tdiv r1)))=aj (aj (0+aj (aj ((aj (aj (aj (aj ((aj (aj (aj ((if a0.ah<a1.ah then a1.ah else a0.ah)-a0.ah)+a0.ak)-1)).tdiv a0.ak)-0)+aj (a1.ak.tdiv r1))-1)).tdiv (aj (a1.ak.tdiv r1)))*aj (a1.ak.tdiv r1)))+aj (aj ((aj (aj ((aj ((if a1.ag<a0.ag then a1.ag else a0.ag)-a0.ah)).tdiv a0.ak)-aj (0+aj (aj ((aj (aj (aj (aj ((aj (aj (aj ((if a0.ah<a1.ah then a1.ah else a0.ah)-a0.ah)+a0.ak)-1)).tdiv a0.ak)-0)+aj (a1.ak.tdiv r1))-1)).tdiv (aj (a1.ak.tdiv r1)))*aj (a1.ak.tdiv r1))))).tdiv (aj (a1.ak.tdiv r1)))*aj (a1.ak.tdiv r1))))then V (iq (aj (a0.ah+aj (aj (0+aj (aj ((aj (aj (aj (aj ((aj (aj (aj ((if a0.ah<a1.ah then a1.ah else a0.ah)-a0.ah)+a0.ak)-1)).tdiv a0.ak)-0)+aj (a1.ak.tdiv r1))-1)).tdiv (aj (a1.ak.tdiv r1)))*aj (a1.ak.tdiv r1)))*a0.ak))))else V (aL.mk (aj (a0.ah+aj (aj (0+aj (aj ((aj (aj (aj (aj ((aj (aj (aj ((if a0.ah<a1.ah then a1.ah else a0.ah)-a0.ah)+a0.ak)-1)).tdiv a0.ak)-0)+aj (a1.ak.tdiv r1))-1)).tdiv (aj (a1.ak.tdiv r1)))*aj (a1.ak.tdiv r1)))*a0.ak))) (aj (a0.ah+aj (aj (aj (0+aj (aj ((aj (aj (aj (aj ((aj (aj (aj ((if a0.ah<a1.ah then a1.ah else a0.ah)-a0.ah)+a0.ak)-1)).tdiv a0.ak)-0)+aj (a1.ak.tdiv r1))-1)).tdiv (aj (a1.ak.tdiv r1)))*aj (a1.ak.tdiv r1)))+aj (aj ((aj (aj ((aj ((if a1.ag<a0.ag then a1.ag else a0.ag)-a0.ah)).tdiv a0.ak)-aj (0+aj (aj ((aj (aj (aj (aj ((aj (aj (aj ((if a0.ah<a1.ah then a1.ah else a0.ah)-a0.ah)+a0.ak)-1)).tdiv a0.ak)-0)+aj (a1.ak.tdiv r1))-1)).tdiv (aj (a1.ak.tdiv r1)))*aj (a1.ak.tdiv r1))))).tdiv (aj (a1.ak.tdiv r1)))*aj (a1.ak.tdiv r1)))*a0.ak))) (aj (aj (a1.ak.tdiv r1)*a0.ak)))else I else I else bif J (aj ((aj ((if a1.ag<a0.ag then a1.ag else a0.ag)-a0.ah)).tdiv a0.ak)<0)then V (jC)else if¬aj (a1.ak.tdiv r1)=0then bif J (0=aj (0+aj (aj ((aj (aj ((aj ((if a1.ag<a0.ag then a1.ag else a0.ag)-a0.ah)).tdiv a0.ak)-0)).tdiv (aj (a1.ak.tdiv r1)))*aj (a1.ak.tdiv r1))))then V (iq (aj (a0.ah+aj (0*a0.ak))))else V (aL.mk (aj (a0.ah+aj (0*a0.ak))) (aj (a0.ah+aj (aj (0+aj (aj ((aj (aj ((aj ((if a1.ag<a0.ag then a1.ag else a0.ag)-a0.ah)).tdiv a0.ak)-0)).tdiv (aj (a1.ak.tdiv r1)))*aj (a1.ak.tdiv r1)))*a0.ak))) (aj (aj (a1.ak.tdiv r1)*a0.ak)))else I else I else I else I
def avj:=eL vi 316 G (lc (qg 34) (lc (qg 34) ln)) d316 (λg=>ag9 g.1 g.2.1)
def ano:EO avj:=λh=>kL (F:=aBU) (an:=(noTwo (noTwo (noTwo (.two (.two (.rb [] 41) .no) .no))))) (l:=[(.skip,(.rb [] 41))]) func316 (amm (ahA (DE (ko (rX aV))))) (aA axg aH) h
def Za:EP avj:=λh=>kP h
abbrev u9:=aL
def d280:Td 0 u9:= .c [] [4] (.r 0 1 (ec 4 (qp 0 0) en) (sb 0 34 (lg 34) sn) (λz=>z.2.1) (λx=>(((),()),(x,()))))
def as2:=(lc (qg 34) (lc (qg 34) ln))
def akC(M:aL->aL->af u9):bq->bq:=eL vi 280 G as2 d280 (λg=>M g.1 g.2.1)
def HD{M:aL->aL->af u9}{F:bq}{f:Nat}(h:bz F f):bz (akC M F) f:=gu h (λ_=>aW)
def aiB(M:aL->aL->af u9):Prop:=HL vi 280 as2 d280 (λg=>M g.1 g.2.1)
def Xv{M:aL->aL->af u9}(hM:aiB M){F:bq}(h:bA vi F):bA vi (akC M F):=ew (sc:=oF) di hM ⟨_,func280,aW,aW⟩ (λ_=>aW) (λ_=>aW) h
def ajH(M280:aL->aL->af u9):bq:=(avj (akC M280 (Oe (akM (FD dw)))))
def am8{M280}(h280:aiB M280):bA vi (ajH M280):=(ano (Xv h280 (ko (Ma (jv aV)))))
def anD(M280:aL->aL->af u9):An:=(noTwo (.two (.two (.rb [147] 5) .no) .no))
def awZ{M280}:∀f∈([147]:aa Nat),bz (ajH M280) f:=(aA (Za (HD (lI (Bg (fJ bF))))) aH)
def azd(M280:aL->aL->af u9):fe vi (ajH M280) 0 300 280 (anD M280):=b6 (l:=[(.skip,(.rb [147] 5))]) func280 (bM aW) aW (aA awZ aH)
def Al(M280:aL->aL->af u9)(a0:aL)(a1:aL):af u9:=
 match bif fC a0 then V (O)else V (fC a1)with|I=>I|V r1=>bif r1 then V (jC)else bif J (a0.ak=0)then match XY a1 a0.ah with|I=>I|V r2=>bif r2 then V (a0)else V (jC)else bif J (a1.ak=0)then match M280 a1 a0 with|I=>I|V r3=>V (r3)else match ag9 a0 a1 with|I=>I|V r4=>V (r4)
def aGQ(M280:aL->aL->af u9)(a0:aL)(a1:aL):bV vi (ajH M280) 300 (anD M280) 280 (as2.c (a0,a1,())) [] 0 d280.rd=Al M280 a0 a1:=aW
def CJ:Nat->(aL->aL->af u9)
 |0=>(λ_ _=>I)
 |n+1=>(Al (CJ n))
def abk(n:Nat):aL->aL->af u9:=(CJ n)
def Nf:∀n,aiB (abk n)
 |0=>λ_ _ h=>(by cases h)
 |n+1=>by
  have ih:=Nf n;have i280:=ih;exact(dR (am8 i280) (azd (abk n)) (λ_=>aW) (λ_=>aW) λg=>aGQ (abk n) g.1 g.2.1)
def anh:aL->aL->af u9:=λa0 a1=>lim (λn=>abk n a0 a1)
def ajY:aiB anh:=λg b h=>by
 obtain⟨n,hn⟩:=dD (show lim (λn=>abk n g.1 g.2.1)=V b from h);exact(Nf n) g b hn
def asZ(F:bq):bq:=akC anh F
def aiE{F:bq}(h:bA vi F):bA vi (asZ F):=Xv ajY h
def Zw{F:bq}{f:Nat}(h:bz F f):bz (asZ F) f:=HD h
def aCQ:bq:=(asZ (ana (akq (ar1 (FD dw)))))
abbrev awQ:=aL
def d234:Td 0 awQ:= .c [] [6] (.r 0 1 (ec 6 (qp 0 0) en) (sb 0 34 (lg 34) sn) (λz=>z.2.1) (λx=>(((),()),(x,()))))
def aCm:∀f∈([176]:aa Nat),bz (aCQ) f:=(aA (Zw (Iw (Ir (Yk (fJ bF))))) aH)
def adk(a0:Int)(a1:aL)(a2:aL):af awQ:=
 match anh a1 a2 with|I=>I|V r1=>match match BB a1 with|I=>I|V r2=>bif J (1<r2)then V (O)else match BB a2 with|I=>I|V r3=>bif J (1<r3)then V (O)else V (bif J (a1.ah=a2.ah)then G else O)with|I=>I|V r4=>match RY a1 with|I=>I|V r5=>match RY a2 with|I=>I|V r6=>bif J (a0=13)then match pV r4 (match fC r1 with|O=>G|G=>O)with|I=>I|V r7=>V (r7)else bif J (a0=14)then match pV (match fC r1 with|O=>G|G=>O) r4 with|I=>I|V r8=>V (r8)else bif J (a0=15)then match pV (J (a2.ah<=a1.ag)) (J (a1.ah<a2.ag))with|I=>I|V r9=>V (r9)else bif J (a0=16)then match pV (J (a2.ah<a1.ag)) (J (a1.ah<=a2.ag))with|I=>I|V r10=>V (r10)else bif J (a0=17)then match pV (J (a1.ah<=a2.ag)) (J (a2.ah<a1.ag))with|I=>I|V r11=>V (r11)else bif J (a0=18)then match pV (J (a1.ah<a2.ag)) (J (a2.ah<=a1.ag))with|I=>I|V r12=>V (r12)else bif J (a0=19)then bif r5.fst then bif r5.snd then match pV O r6.snd with|I=>I|V r13=>V (r13)else match pV O G with|I=>I|V r14=>V (r14)else bif r5.snd then match pV r6.fst r6.snd with|I=>I|V r15=>V (r15)else match pV r6.fst G with|I=>I|V r16=>V (r16)else bif r5.fst then bif r5.snd then match pV r6.fst O with|I=>I|V r17=>V (r17)else match pV r6.fst r6.snd with|I=>I|V r18=>V (r18)else bif r5.snd then match pV G O with|I=>I|V r19=>V (r19)else match pV G r6.snd with|I=>I|V r20=>V (r20)
def atN:=eL vi 234 G (aU (lc (qg 34) (lc (qg 34) ln))) d234 (λg=>adk g.1 g.2.1 g.t.1)
def ajL:EO atN:=λh=>kL (F:=aCQ) (an:=(noTwo (noTwo (.two (.rb [176] 8) .no)))) (l:=[(.skip,(.rb [176] 8))]) func234 (aiE (Wx (KZ (Ad (jv aV))))) (aA aCm aH) h
def rY:EP atN:=λh=>kP h
def ax3:bq:=(atN (asD (ave (aqn (aaJ (QA (Oe (FD (Zs (OG dw))))))))))
abbrev aBa:=aL×Int
def d155:Td 0 aBa:= .c [] [6,7] (.r 0 1 (ec 6 (qp 0 0) (ec 7 aN en)) (sb 0 34 (lg 34) sn) (λz=>(z.2.1,z.1.2.1)) (λx=>(((),x.2,()),(x.1,()))))
def ab8:∀f∈([144,145,147,231]:aa Nat),bz (ax3) f:=(aA (rY (su (sJ (rS (nX (jY (lI (fJ (j4 (gz bF)))))))))) (aA (rY (su (sJ (rS (nX (jY (lI (fJ (j4 (gz bF)))))))))) (aA (rY (su (sJ (rS (nX (jY (lI (fJ (j4 (gz bF)))))))))) (aA (rY (su (sJ (rS (nX (jY (lI (fJ (j4 (gz bF)))))))))) aH))))
def uR(a0:Int)(a1:aL)(a2:aL):af aBa:=
 match match ug a1 with|I=>I|V r1=>bif bif r1 then G else O then V (O)else match ug a2 with|I=>I|V r2=>bif bif r2 then G else O then V (O)else V (bif CX a0 then G else O)with|I=>I|V r3=>bif r3 then V ((aL.mk (0) (0) (0),1))else match bif fC a1 then V (O)else V (fC a2)with|I=>I|V r4=>bif r4 then V ((jC,0))else bif J (a0=9)then match bif bif ji (aj (a1.ah+aj (0-a2.ag)))then G else O then V (O)else V (bif ji (aj (a1.ag+aj (0-a2.ah)))then G else O)with|I=>I|V r5=>bif r5 then V ((aL.mk (0) (0) (0),3))else match C3 [a1.ak,a2.ak]with|I=>I|V r6=>match nJ (aj (a1.ah+aj (0-a2.ag))) (aj (a1.ag+aj (0-a2.ah))) r6 with|I=>I|V r7=>V ((r7,0))else bif J (a0=8)then match bif bif ji (aj (a1.ah+a2.ah))then G else O then V (O)else V (bif ji (aj (a1.ag+a2.ag))then G else O)with|I=>I|V r8=>bif r8 then V ((aL.mk (0) (0) (0),3))else match C3 [a1.ak,a2.ak]with|I=>I|V r9=>match nJ (aj (a1.ah+a2.ah)) (aj (a1.ag+a2.ag)) r9 with|I=>I|V r10=>V ((r10,0))else bif J (a0=10)then match YE a1 a2 with|I=>I|V r11=>V (r11)else bif J (a0=11)then match vV a0 a1 a2 with|I=>I|V r12=>V ((r12,0))else bif J (a0=12)then match vV a0 a1 a2 with|I=>I|V r13=>V ((r13,0))else bif J (a0=21)then match vV a0 a1 a2 with|I=>I|V r14=>V ((r14,0))else bif J (a0=22)then match vV a0 a1 a2 with|I=>I|V r15=>V ((r15,0))else match adk a0 a1 a2 with|I=>I|V r16=>V ((r16,0))
def aBt:=eL vi 155 G (aU (lc (qg 34) (lc (qg 34) ln))) d155 (λg=>uR g.1 g.2.1 g.t.1)
def Jf:EO aBt:=λh=>kL (F:=ax3) (an:=(noTwo (.two (.two (.rb [144,145,147,231] 22) .no) (.two (.two (.rb [144,145,147,231] 29) .no) (.two (noTwo (.two (.two (noTwo (.two (noTwo (.two (.two (.rb [144,145,147,231] 69) .no) .no)) .no)) .no) .no)) .no))))) (l:=[(.skip,(.rb [144,145,147,231] 22)),(.skip,(.rb [144,145,147,231] 29)),(.skip,(.rb [144,145,147,231] 69))]) func155 (ajL (aky (afu (af5 (DE (sC (ko (jv (AF (lF aV)))))))))) (aA ab8 (aA ab8 (aA ab8 aH))) h
abbrev qc:=aL×ay
def d150:Td 2 qc:= .c [] [4] (.r 2 3 (ec 4 (qp 2 0) en) (sb 0 128 (lg 128) (sb 1 215 (lc (qf 150 (lc (qp 0 0) (lc (qp 1 0) ln))) ln) (sb 2 34 (lg 34) sn))) (λz=>(z.t.2.1,z.2.1)) (λx=>(((),()),(x.2,(((),(),()),()),x.1,()))))
def as6:=(lc (qg 137) (lc (qp 0 0) (lc (qp 1 0) ln)))
def asX:=(sb 0 128 (lg 128) (sb 1 215 (lc (qf 150 (lc (qp 0 0) (lc (qp 1 0) ln))) ln) sn))
def x150(M:az->ay->af qc):bq->bq:=eY vi 150 2 as6 asX d150 (λg=>M g.1.1 g.2.1)
def aft(M:az->ay->af qc):Prop:=HY vi 150 2 as6 asX d150 (λg=>M g.1.1 g.2.1)
def Vk{M:az->ay->af qc}(hM:aft M){F:bq}(h:bA vi F):bA vi (x150 M F):=CO hM ⟨_,func150,aW,aW⟩ (λ_=>aW) h
def arJ(M150:az->ay->af qc):bq:=(aBt (ayP (aBc (ay7 (alM (x150 M150 (e92 (e81 (e80 dw)))))))))
def akY{M150}(h150:aft M150):bA vi (arJ M150):=(Jf (amO (akZ (LM (L3 (Vk h150 (RE (TC (Mh aV)))))))))
structure Bz where
 t90:List az
 (t91 t92:Int)
 b0:ay
 (b2 b3 b4:aL)
def TH:Td 2 Bz:= .c [] [2,4,7,9,90,91,92] (.r 2 5 (ec 2 (qp 1 0) (ec 4 (qp 2 0) (ec 7 (qp 3 0) (ec 9 (qp 4 0) (ec 90 (ql 137) (ec 91 aN (ec 92 aN en))))))) (sb 0 128 (lg 128) (sb 1 215 (lc (qf 150 (lc (qp 0 0) (lc (qp 1 0) ln))) ln) (sb 2 34 (lg 34) (sb 3 34 (lg 34) (sb 4 34 (lg 34) sn))))) (λz=>⟨z.1.q.1,z.1.q.2.1,z.1.q.t.1,z.2.1,z.t.2.1,z.q.1,z.q.2.1⟩) (λx=>(((),(),(),(),x.t90,x.t91,x.t92,()),(x.b0,(((),(),()),()),x.b2,x.b3,x.b4,()))))
def JI(M150:az->ay->af qc)(p:Bz):af (af Bz):=
 bif J (p.t92<p.t91)then if 0<=p.t92/\p.t92<zR p.t90 then match m92 p.b3 p.t92 with|I=>I|V r1=>bif r1 then match M150 (az.mk p.t90[zD p.t92]!.bD p.t90[zD p.t92]!.fN p.t90[zD p.t92]!.ax) p.b0 with|I=>I|V r2=>match uL p.b4 r2.fst with|I=>I|V r3=>V (V (Bz.mk p.t90 p.t91 (aj (p.t92+1)) r2.snd p.b2 p.b3 r3))else V (V (Bz.mk p.t90 p.t91 (aj (p.t92+1)) p.b0 p.b2 p.b3 p.b4))else I else V (I)
def Mb(M150:az->ay->af qc):=bI (JI M150)
def aps(M150:az->ay->af qc):An:=(noTwo (.two (noTwo (noTwo (noTwo (noTwo (noTwo (noTwo (noTwo (noTwo (.two (noTwo (noTwo (.two (noTwo (TH.lp (Mb M150) .no)) .no))) .no))))))))) .no))
def aw7(M150:az->ay->af qc):fe vi (arJ M150) 2 300 150 (aps M150):=b6 (l:=[(aZ f150 0,(TH.lp (Mb M150) .no))]) func150 (bM aW) aW (aA (aO TH) aH)
def amR(M150:az->ay->af qc)(a0:az)(b0:ay):af qc:=
 bif J (a0.bD=0)then V (Wi a0.fN,b0)else bif J (a0.bD=24)then if 0<=a0.fN/\a0.fN<zR b0.ai then V (b0.ai[a0.fN.toNat]!,b0)else I else bif J (a0.bD=23)then if(0:Int)<=(0:Int)/\(0:Int)<zR a0.ax then match M150 (az.mk a0.ax[0]!.bD a0.ax[0]!.fN a0.ax[0]!.ax) b0 with|I=>I|V r4=>match S6 r4.fst with|I=>I|V r5=>bif bif r5.fst then G else O then if(0:Int)<=(1:Int)/\(1:Int)<zR a0.ax then match M150 (az.mk a0.ax[1]!.bD a0.ax[1]!.fN a0.ax[1]!.ax) r4.snd with|I=>I|V r6=>V (r6)else I else bif bif r5.snd then G else O then if(0:Int)<=(2:Int)/\(2:Int)<zR a0.ax then match M150 (az.mk a0.ax[2]!.bD a0.ax[2]!.fN a0.ax[2]!.ax) r4.snd with|I=>I|V r7=>V (r7)else I else if(0:Int)<=(1:Int)/\(1:Int)<zR a0.ax then match M150 (az.mk a0.ax[1]!.bD a0.ax[1]!.fN a0.ax[1]!.ax) r4.snd with|I=>I|V r8=>if(0:Int)<=(2:Int)/\(2:Int)<zR a0.ax then match M150 (az.mk a0.ax[2]!.bD a0.ax[2]!.fN a0.ax[2]!.ax) r8.snd with|I=>I|V r9=>match uL r8.fst r9.fst with|I=>I|V r10=>V (r10,r9.snd)else I else I else I else bif J (a0.bD=25)then if(0:Int)<=(0:Int)/\(0:Int)<zR a0.ax then match M150 (az.mk a0.ax[0]!.bD a0.ax[0]!.fN a0.ax[0]!.ax) b0 with|I=>I|V r11=>match m81 r11.fst 0 (aj ((zR a0.ax:Int)-2))with|I=>I|V r12=>if(0:Int)<=(1:Int)/\(1:Int)<=zR a0.ax then match Mb M150 (Bz.mk (ya 1 a0.ax) (↑(ya 1 a0.ax).length:Int) 0 r11.snd (aL.mk 0 0 0) r12.fst aj3)with|I=>I|V r13=>bif J (r13.t92<r13.t91)then if 0<=r13.t92/\r13.t92<zR r13.t90 then match m92 r13.b3 r13.t92 with|I=>I|V r14=>bif r14 then match M150 (az.mk r13.t90[zD r13.t92]!.bD r13.t90[zD r13.t92]!.fN r13.t90[zD r13.t92]!.ax) r13.b0 with|I=>I|V r15=>match uL r13.b4 r15.fst with|I=>I|V r16=>I else I else I else V (r13.b4,r13.b0)else I else I else bif J ((zR a0.ax:Int)=1)then if(0:Int)<=(0:Int)/\(0:Int)<zR a0.ax then match M150 (az.mk a0.ax[0]!.bD a0.ax[0]!.fN a0.ax[0]!.ax) b0 with|I=>I|V r17=>match ahp a0.bD r17.fst with|I=>I|V r18=>V (r18.fst,r17.snd)else I else if(0:Int)<=(0:Int)/\(0:Int)<zR a0.ax then match M150 (az.mk a0.ax[0]!.bD a0.ax[0]!.fN a0.ax[0]!.ax) b0 with|I=>I|V r19=>if(0:Int)<=(1:Int)/\(1:Int)<zR a0.ax then match M150 (az.mk a0.ax[1]!.bD a0.ax[1]!.fN a0.ax[1]!.ax) r19.snd with|I=>I|V r20=>match uR a0.bD r19.fst r20.fst with|I=>I|V r21=>V (r21.fst,r20.snd)else I else I
def aEq(M150:az->ay->af qc)(a0:az)(b0:ay):bV vi (arJ M150) 300 (aps M150) 150 (as6.c (a0,(),(),())) (asX.d (b0,(((),(),()),()),())) 2 d150.rd=amR M150 a0 b0:=aW
def ape:Nat->(az->ay->af qc)
 |0=>(λ_ _=>I)
 |n+1=>(amR (ape n))
def Si(n:Nat):az->ay->af qc:=(ape n)
def ND:∀n,aft (Si n)
 |0=>λ_ _ h=>(by cases h)
 |n+1=>by
  have ih:=ND n;have i150:=ih;exact(WX (akY i150) (aw7 (Si n)) (λ_=>aW) (λ_=>aW) (λ_=>aW) λg=>aEq (Si n) g.1.1 g.2.1)
def alL:az->ay->af qc:=λa0 b0=>lim (λn=>Si n a0 b0)
def agi:aft alL:=λg b h=>by
 obtain⟨n,hn⟩:=dD (show lim (λn=>Si n g.1.1 g.2.1)=V b from h);exact(ND n) g b hn
def aHl(F:bq):bq:=x150 alL F
def ahz{F:bq}(h:bA vi F):bA vi (aHl F):=Vk agi h
abbrev E91:=Int
def d91:Td 0 E91:= .c [] [2] (.r 0 0 (ec 2 aN en) sn (λz=>z.1.1) (λx=>((x,()),(()))))
def LY(a0:aL):af E91:=
 match ug a0 with|I=>I|V r1=>bif bif r1 then G else O then V (0)else match BB a0 with|I=>I|V r2=>V (r2)
def e91:=eL vi 91 G (lc (qg 34) ln) d91 (λg=>LY g.1)
def Tx:EO e91:=λh=>kL (an:= .no) func91 (Ad (lF aV)) aH h
def E5:EP e91:=λh=>kP h
def aEZ:bq:=dw
abbrev avc:=Int
def d174:Td 0 avc:= .c [] [4] (.r 0 0 (ec 4 aN en) sn (λz=>z.1.1) (λx=>((x,()),(()))))
def aAY:=(aU (aU ln))
def ao4:An:= .no
def k8(a0:Int)(a1:Int):avc:=
 bif J (a1<a0)then a0 else a1
def aF8(a0:Int)(a1:Int):bV vi (aEZ) 300 (ao4) 174 (aAY.c (a0,a1,())) [] 0 d174.rd=V (k8 a0 a1):=by
 refine Eq.trans (b:=(
  bif J (a1<a0)then V (a0)else V (a1):af avc)) aW ?_
 simp only[k8,cu,cQ]
def YB:=eL vi 174 G aAY d174 (λg=>V (k8 g.1 g.2.1))
def KQ:EO YB:=λh=>kL (an:=ao4) func174 aV aH h (c:=λg=>aF8 g.1 g.2.1)
def aGn:bq:=dw
abbrev aq8:=Int
def d175:Td 0 aq8:= .c [] [4] (.r 0 0 (ec 4 aN en) sn (λz=>z.1.1) (λx=>((x,()),(()))))
def ax1:=(aU (aU ln))
def apb:An:= .no
def jU(a0:Int)(a1:Int):aq8:=
 bif J (a0<a1)then a0 else a1
def aHz(a0:Int)(a1:Int):bV vi (aGn) 300 (apb) 175 (ax1.c (a0,a1,())) [] 0 d175.rd=V (jU a0 a1):=by
 refine Eq.trans (b:=(
  bif J (a0<a1)then V (a0)else V (a1):af aq8)) aW ?_
 simp only[jU,cu,cQ]
def afV:=eL vi 175 G ax1 d175 (λg=>V (jU g.1 g.2.1))
def JF:EO afV:=λh=>kL (an:=apb) func175 aV aH h (c:=λg=>aHz g.1 g.2.1)
abbrev MF:=Int×Int×Int
def d90:Td 0 MF:= .c [] [2,3,4] (.r 0 0 (ec 2 aN (ec 3 aN (ec 4 aN en))) sn (λz=>(z.1.1,z.1.2.1,z.1.t.1)) (λx=>((x.1,x.2.1,x.t,()),(()))))
def A90:=(lc (ql 166) ln)
def x90(M:(aa aC)->af MF):bq->bq:=eL vi 90 G A90 d90 (λg=>M g.1)
def acq{M:(aa aC)->af MF}{F:bq}{f:Nat}(h:bz F f):bz (x90 M F) f:=gu h (λ_=>aW)
def H90(M:(aa aC)->af MF):Prop:=HL vi 90 A90 d90 (λg=>M g.1)
def ZJ{M:(aa aC)->af MF}(hM:H90 M){F:bq}(h:bA vi F):bA vi (x90 M F):=ew (sc:=oF) di hM ⟨_,func90,aW,aW⟩ (λ_=>aW) (λ_=>aW) h
def F90(M90:(aa aC)->af MF):bq:=(afV (YB (x90 M90 dw)))
def atq{M90}(h90:H90 M90):bA vi (F90 M90):=(JF (KQ (ZJ h90 aV)))
structure CH where
 t0:List aC
 (t5 t6 t7 t8:Int)
def adp:Td 0 CH:= .c [] [0,5,6,7,8] (.r 0 0 (ec 0 (ql 166) (ec 5 aN (ec 6 aN (ec 7 aN (ec 8 aN en))))) sn (λz=>⟨z.1.1,z.1.2.1,z.1.t.1,z.1.t.2.1,z.1.q.1⟩) (λx=>((x.t0,x.t5,x.t6,x.t7,x.t8,()),(()))))
def Wf(M90:(aa aC)->af MF)(p:CH):af (af CH):=
 bif J (p.t8<zR p.t0)then if 0<=p.t8/\p.t8<zR p.t0 then match M90 p.t0[zD p.t8]!.aQ with|I=>I|V r1=>match M90 p.t0[zD p.t8]!.aX with|I=>I|V r2=>bif J (p.t0[zD p.t8]!.cg=4)then bif J (p.t0[zD p.t8]!.cg=1)then V (V (CH.mk p.t0 (jU (aj (p.t5+aj (1+aj (p.t0[zD p.t8]!.fN*aj (1+r1.fst))))) 4097) (jU (aj (p.t6+1)) 9) (jU (aj (p.t7+aj (p.t0[zD p.t8]!.fN*aj (p.t0[zD p.t8]!.bh+r1.snd.snd)))) 67108865) (aj (p.t8+1))))else V (V (CH.mk p.t0 (jU (aj (p.t5+aj (1+aj (p.t0[zD p.t8]!.fN*aj (1+r1.fst))))) 4097) (jU (aj (p.t6+aj (p.t0[zD p.t8]!.fN*r1.snd.fst))) 9) (jU (aj (p.t7+aj (p.t0[zD p.t8]!.fN*aj (p.t0[zD p.t8]!.bh+r1.snd.snd)))) 67108865) (aj (p.t8+1))))else bif J (p.t0[zD p.t8]!.cg=1)then V (V (CH.mk p.t0 (jU (aj (p.t5+aj (1+k8 r1.fst r2.fst))) 4097) (jU (aj (p.t6+1)) 9) (jU (aj (p.t7+aj (p.t0[zD p.t8]!.bh+k8 r1.snd.snd r2.snd.snd))) 67108865) (aj (p.t8+1))))else V (V (CH.mk p.t0 (jU (aj (p.t5+aj (1+k8 r1.fst r2.fst))) 4097) (jU (aj (p.t6+k8 r1.snd.fst r2.snd.fst)) 9) (jU (aj (p.t7+aj (p.t0[zD p.t8]!.bh+k8 r1.snd.snd r2.snd.snd))) 67108865) (aj (p.t8+1))))else I else V (I)
def WC(M90:(aa aC)->af MF):=bI (Wf M90)
def awS(M90:(aa aC)->af MF):An:=(noTwo (noTwo (.two (noTwo (adp.lp (WC M90) .no)) .no)))
def aEw(M90:(aa aC)->af MF):fe vi (F90 M90) 0 300 90 (awS M90):=b6 (l:=[(aZ f90 0,(adp.lp (WC M90) .no))]) func90 (bM aW) aW (aA (aO adp) aH)
def s90(M90:(aa aC)->af MF)(a0:aa aC):af MF:=
 match WC M90 (CH.mk a0 0 0 0 0)with|I=>I|V r3=>bif J (r3.t8<zR r3.t0)then if 0<=r3.t8/\r3.t8<zR r3.t0 then match M90 r3.t0[zD r3.t8]!.aQ with|I=>I|V r4=>match M90 r3.t0[zD r3.t8]!.aX with|I=>I|V r5=>bif J (r3.t0[zD r3.t8]!.cg=4)then bif J (r3.t0[zD r3.t8]!.cg=1)then I else I else bif J (r3.t0[zD r3.t8]!.cg=1)then I else I else I else V (r3.t5,r3.t6,r3.t7)
def c90(M90:(aa aC)->af MF)(a0:aa aC):bV vi (F90 M90) 300 (awS M90) 90 (A90.c (a0,())) [] 0 d90.rd=s90 M90 a0:=aW
def aDx:Nat->((aa aC)->af MF)
 |0=>(λ_=>I)
 |n+1=>(s90 (aDx n))
def m90(n:Nat):(aa aC)->af MF:=(aDx n)
def UE:∀n,H90 (m90 n)
 |0=>λ_ _ h=>(by cases h)
 |n+1=>by
  have ih:=UE n;have i90:=ih;exact(dR (atq i90) (aEw (m90 n)) (λ_=>aW) (λ_=>aW) λg=>c90 (m90 n) g.1)
def r90:(aa aC)->af MF:=λa0=>lim (λn=>m90 n a0)
def arN:H90 r90:=λg b h=>by
 obtain⟨n,hn⟩:=dD (show lim (λn=>m90 n g.1)=V b from h);exact(UE n) g b hn
def e90(F:bq):bq:=x90 r90 F
def abt{F:bq}(h:bA vi F):bA vi (e90 F):=ZJ arN h
def O6{F:bq}{f:Nat}(h:bz F f):bz (e90 F) f:=acq h
abbrev qX:=Int
def d216:Td 0 qX:= .c [] [2] (.r 0 0 (ec 2 aN en) sn (λz=>z.1.1) (λx=>((x,()),(()))))
def atJ:=(lc (qg 137) ln)
def ane(M:az->af qX):bq->bq:=eL vi 216 G atJ d216 (λg=>M g.1)
def Yl{M:az->af qX}{F:bq}{f:Nat}(h:bz F f):bz (ane M F) f:=gu h (λ_=>aW)
def aiD(M:az->af qX):Prop:=HL vi 216 atJ d216 (λg=>M g.1)
def Vn{M:az->af qX}(hM:aiD M){F:bq}(h:bA vi F):bA vi (ane M F):=ew (sc:=oF) di hM ⟨_,func216,aW,aW⟩ (λ_=>aW) (λ_=>aW) h
def aq4(M216:az->af qX):bq:=(ane M216 dw)
def am7{M216}(h216:aiD M216):bA vi (aq4 M216):=(Vn h216 aV)
structure ER where
 (t3 t4:Int)
 b0:az
def SK:Td 0 ER:= .c [] [1,3,4] (.r 0 1 (ec 1 (qp 0 0) (ec 3 aN (ec 4 aN en))) (sb 0 137 (lg 137) sn) (λz=>⟨z.1.2.1,z.1.t.1,z.2.1⟩) (λx=>(((),x.t3,x.t4,()),(x.b0,()))))
def KM(M216:az->af qX)(p:ER):af (af ER):=
 bif J (p.t4<zR p.b0.ax)then if 0<=p.t4/\p.t4<zR p.b0.ax then match M216 (az.mk p.b0.ax[zD p.t4]!.bD p.b0.ax[zD p.t4]!.fN p.b0.ax[zD p.t4]!.ax)with|I=>I|V r1=>V (V (ER.mk (aj (p.t3+r1)) (aj (p.t4+1)) (az.mk p.b0.bD p.b0.fN p.b0.ax)))else I else V (I)
def I9(M216:az->af qX):=bI (KM M216)
def apD(M216:az->af qX):An:=(noTwo (noTwo (.two (noTwo (SK.lp (I9 M216) .no)) .no)))
def ay5(M216:az->af qX):fe vi (aq4 M216) 0 300 216 (apD M216):=b6 (l:=[(aZ f216 0,(SK.lp (I9 M216) .no))]) func216 (bM aW) aW (aA (aO SK) aH)
def alT(M216:az->af qX)(a0:az):af qX:=
 match I9 M216 (ER.mk 1 0 (az.mk a0.bD a0.fN a0.ax))with|I=>I|V r2=>bif J (r2.t4<zR r2.b0.ax)then if 0<=r2.t4/\r2.t4<zR r2.b0.ax then match M216 (az.mk r2.b0.ax[zD r2.t4]!.bD r2.b0.ax[zD r2.t4]!.fN r2.b0.ax[zD r2.t4]!.ax)with|I=>I|V r3=>I else I else V (r2.t3)
def aFC(M216:az->af qX)(a0:az):bV vi (aq4 M216) 300 (apD M216) 216 (atJ.c (a0,())) [] 0 d216.rd=alT M216 a0:=aW
def ao9:Nat->(az->af qX)
 |0=>(λ_=>I)
 |n+1=>(alT (ao9 n))
def SI(n:Nat):az->af qX:=(ao9 n)
def No:∀n,aiD (SI n)
 |0=>λ_ _ h=>(by cases h)
 |n+1=>by
  have ih:=No n;have i216:=ih;exact(dR (am7 i216) (ay5 (SI n)) (λ_=>aW) (λ_=>aW) λg=>aFC (SI n) g.1)
def T8:az->af qX:=λa0=>lim (λn=>SI n a0)
def afM:aiD T8:=λg b h=>by
 obtain⟨n,hn⟩:=dD (show lim (λn=>SI n g.1)=V b from h);exact(No n) g b hn
def agM(F:bq):bq:=ane T8 F
def VJ{F:bq}(h:bA vi F):bA vi (agM F):=Vn afM h
def HG{F:bq}{f:Nat}(h:bz F f):bz (agM F) f:=Yl h
abbrev rC:=Int
def d215:Td 0 rC:= .c [] [2] (.r 0 0 (ec 2 aN en) sn (λz=>z.1.1) (λx=>((x,()),(()))))
def auF:=(lc (ql 166) ln)
def aj1(M:(aa aC)->af rC):bq->bq:=eL vi 215 G auF d215 (λg=>M g.1)
def Ym{M:(aa aC)->af rC}{F:bq}{f:Nat}(h:bz F f):bz (aj1 M F) f:=gu h (λ_=>aW)
def alr(M:(aa aC)->af rC):Prop:=HL vi 215 auF d215 (λg=>M g.1)
def VK{M:(aa aC)->af rC}(hM:alr M){F:bq}(h:bA vi F):bA vi (aj1 M F):=ew (sc:=oF) di hM ⟨_,func215,aW,aW⟩ (λ_=>aW) (λ_=>aW) h
def asi(M215:(aa aC)->af rC):bq:=(agM (aj1 M215 dw))
def ai2{M215}(h215:alr M215):bA vi (asi M215):=(VJ (VK h215 aV))
structure Fk where
 t0:List aC
 (t3 t4:Int)
def TK:Td 0 Fk:= .c [] [0,3,4] (.r 0 0 (ec 0 (ql 166) (ec 3 aN (ec 4 aN en))) sn (λz=>⟨z.1.1,z.1.2.1,z.1.t.1⟩) (λx=>((x.t0,x.t3,x.t4,()),(()))))
def K4(M215:(aa aC)->af rC)(p:Fk):af (af Fk):=
 bif J (p.t4<zR p.t0)then if 0<=p.t4/\p.t4<zR p.t0 then match T8 (az.mk p.t0[zD p.t4]!.aG.bD p.t0[zD p.t4]!.aG.fN p.t0[zD p.t4]!.aG.ax)with|I=>I|V r1=>if 0<=p.t4/\p.t4<zR p.t0 then match M215 p.t0[zD p.t4]!.aQ with|I=>I|V r2=>if 0<=p.t4/\p.t4<zR p.t0 then match M215 p.t0[zD p.t4]!.aX with|I=>I|V r3=>V (V (Fk.mk p.t0 (aj (aj (aj (aj (p.t3+1)+r1)+r2)+r3)) (aj (p.t4+1))))else I else I else I else V (I)
def Jm(M215:(aa aC)->af rC):=bI (K4 M215)
def aph(M215:(aa aC)->af rC):An:=(noTwo (noTwo (.two (noTwo (TK.lp (Jm M215) .no)) .no)))
def ayd(M215:(aa aC)->af rC):fe vi (asi M215) 0 300 215 (aph M215):=b6 (l:=[(aZ f215 0,(TK.lp (Jm M215) .no))]) func215 (bM aW) aW (aA (aO TK) aH)
def agJ(M215:(aa aC)->af rC)(a0:aa aC):af rC:=
 match Jm M215 (Fk.mk a0 0 0)with|I=>I|V r4=>bif J (r4.t4<zR r4.t0)then if 0<=r4.t4/\r4.t4<zR r4.t0 then match T8 (az.mk r4.t0[zD r4.t4]!.aG.bD r4.t0[zD r4.t4]!.aG.fN r4.t0[zD r4.t4]!.aG.ax)with|I=>I|V r5=>if 0<=r4.t4/\r4.t4<zR r4.t0 then match M215 r4.t0[zD r4.t4]!.aQ with|I=>I|V r6=>if 0<=r4.t4/\r4.t4<zR r4.t0 then match M215 r4.t0[zD r4.t4]!.aX with|I=>I|V r7=>I else I else I else I else V (r4.t3)
def aF5(M215:(aa aC)->af rC)(a0:aa aC):bV vi (asi M215) 300 (aph M215) 215 (auF.c (a0,())) [] 0 d215.rd=agJ M215 a0:=aW
def apH:Nat->((aa aC)->af rC)
 |0=>(λ_=>I)
 |n+1=>(agJ (apH n))
def TL(n:Nat):(aa aC)->af rC:=(apH n)
def Oi:∀n,alr (TL n)
 |0=>λ_ _ h=>(by cases h)
 |n+1=>by
  have ih:=Oi n;have i215:=ih;exact(dR (ai2 i215) (ayd (TL n)) (λ_=>aW) (λ_=>aW) λg=>aF5 (TL n) g.1)
def al9:(aa aC)->af rC:=λa0=>lim (λn=>TL n a0)
def aly:alr al9:=λg b h=>by
 obtain⟨n,hn⟩:=dD (show lim (λn=>TL n g.1)=V b from h);exact(Oi n) g b hn
def auS(F:bq):bq:=aj1 al9 F
def agb{F:bq}(h:bA vi F):bA vi (auS F):=VK aly h
def Im{F:bq}{f:Nat}(h:bz F f):bz (auS F) f:=Ym h
abbrev rF:=Int
def d217:Td 0 rF:= .c [] [2] (.r 0 0 (ec 2 aN en) sn (λz=>z.1.1) (λx=>((x,()),(()))))
def arq:=(lc (qg 137) ln)
def ahv(M:az->af rF):bq->bq:=eL vi 217 G arq d217 (λg=>M g.1)
def Yg{M:az->af rF}{F:bq}{f:Nat}(h:bz F f):bz (ahv M F) f:=gu h (λ_=>aW)
def aib(M:az->af rF):Prop:=HL vi 217 arq d217 (λg=>M g.1)
def VA{M:az->af rF}(hM:aib M){F:bq}(h:bA vi F):bA vi (ahv M F):=ew (sc:=oF) di hM ⟨_,func217,aW,aW⟩ (λ_=>aW) (λ_=>aW) h
def arF(M217:az->af rF):bq:=(ahv M217 dw)
def aiJ{M217}(h217:aib M217):bA vi (arF M217):=(VA h217 aV)
structure AY where
 (t3 t4:Int)
 b0:az
def Tv:Td 0 AY:= .c [] [1,3,4] (.r 0 1 (ec 1 (qp 0 0) (ec 3 aN (ec 4 aN en))) (sb 0 137 (lg 137) sn) (λz=>⟨z.1.2.1,z.1.t.1,z.2.1⟩) (λx=>(((),x.t3,x.t4,()),(x.b0,()))))
def JQ(M217:az->af rF)(p:AY):af (af AY):=
 bif J (p.t4<zR p.b0.ax)then if 0<=p.t4/\p.t4<zR p.b0.ax then match M217 (az.mk p.b0.ax[zD p.t4]!.bD p.b0.ax[zD p.t4]!.fN p.b0.ax[zD p.t4]!.ax)with|I=>I|V r1=>bif J (p.t3<r1)then V (V (AY.mk r1 (aj (p.t4+1)) (az.mk p.b0.bD p.b0.fN p.b0.ax)))else V (V (AY.mk p.t3 (aj (p.t4+1)) (az.mk p.b0.bD p.b0.fN p.b0.ax)))else I else V (I)
def Jj(M217:az->af rF):=bI (JQ M217)
def apG(M217:az->af rF):An:=(noTwo (noTwo (.two (noTwo (Tv.lp (Jj M217) .no)) .no)))
def aDA(M217:az->af rF):fe vi (arF M217) 0 300 217 (apG M217):=b6 (l:=[(aZ f217 0,(Tv.lp (Jj M217) .no))]) func217 (bM aW) aW (aA (aO Tv) aH)
def ajU(M217:az->af rF)(a0:az):af rF:=
 match Jj M217 (AY.mk 0 0 (az.mk a0.bD a0.fN a0.ax))with|I=>I|V r2=>bif J (r2.t4<zR r2.b0.ax)then if 0<=r2.t4/\r2.t4<zR r2.b0.ax then match M217 (az.mk r2.b0.ax[zD r2.t4]!.bD r2.b0.ax[zD r2.t4]!.fN r2.b0.ax[zD r2.t4]!.ax)with|I=>I|V r3=>bif J (r2.t3<r3)then I else I else I else V (aj (r2.t3+1))
def aF3(M217:az->af rF)(a0:az):bV vi (arF M217) 300 (apG M217) 217 (arq.c (a0,())) [] 0 d217.rd=ajU M217 a0:=aW
def apu:Nat->(az->af rF)
 |0=>(λ_=>I)
 |n+1=>(ajU (apu n))
def S7(n:Nat):az->af rF:=(apu n)
def Pp:∀n,aib (S7 n)
 |0=>λ_ _ h=>(by cases h)
 |n+1=>by
  have ih:=Pp n;have i217:=ih;exact(dR (aiJ i217) (aDA (S7 n)) (λ_=>aW) (λ_=>aW) λg=>aF3 (S7 n) g.1)
def Pc:az->af rF:=λa0=>lim (λn=>S7 n a0)
def ahW:aib Pc:=λg b h=>by
 obtain⟨n,hn⟩:=dD (show lim (λn=>S7 n g.1)=V b from h);exact(Pp n) g b hn
def aiG(F:bq):bq:=ahv Pc F
def WA{F:bq}(h:bA vi F):bA vi (aiG F):=VA ahW h
def rQ{F:bq}{f:Nat}(h:bz F f):bz (aiG F) f:=Yg h
abbrev p6:=Int
def d218:Td 0 p6:= .c [] [2] (.r 0 0 (ec 2 aN en) sn (λz=>z.1.1) (λx=>((x,()),(()))))
def arp:=(lc (ql 166) ln)
def amk(M:(aa aC)->af p6):bq->bq:=eL vi 218 G arp d218 (λg=>M g.1)
def Yf{M:(aa aC)->af p6}{F:bq}{f:Nat}(h:bz F f):bz (amk M F) f:=gu h (λ_=>aW)
def afG(M:(aa aC)->af p6):Prop:=HL vi 218 arp d218 (λg=>M g.1)
def WR{M:(aa aC)->af p6}(hM:afG M){F:bq}(h:bA vi F):bA vi (amk M F):=ew (sc:=oF) di hM ⟨_,func218,aW,aW⟩ (λ_=>aW) (λ_=>aW) h
def auT(M218:(aa aC)->af p6):bq:=(amk M218 dw)
def aka{M218}(h218:afG M218):bA vi (auT M218):=(WR h218 aV)
structure qE where
 t0:List aC
 (t3 t4:Int)
def QU:Td 0 qE:= .c [] [0,3,4] (.r 0 0 (ec 0 (ql 166) (ec 3 aN (ec 4 aN en))) sn (λz=>⟨z.1.1,z.1.2.1,z.1.t.1⟩) (λx=>((x.t0,x.t3,x.t4,()),(()))))
def IP(M218:(aa aC)->af p6)(p:qE):af (af qE):=
 bif J (p.t4<zR p.t0)then if 0<=p.t4/\p.t4<zR p.t0 then match M218 p.t0[zD p.t4]!.aQ with|I=>I|V r1=>if 0<=p.t4/\p.t4<zR p.t0 then match M218 p.t0[zD p.t4]!.aX with|I=>I|V r2=>bif J (p.t3<aj (r1+1))then bif J (aj (r1+1)<aj (r2+1))then V (V (qE.mk p.t0 (aj (r2+1)) (aj (p.t4+1))))else V (V (qE.mk p.t0 (aj (r1+1)) (aj (p.t4+1))))else bif J (p.t3<aj (r2+1))then V (V (qE.mk p.t0 (aj (r2+1)) (aj (p.t4+1))))else V (V (qE.mk p.t0 p.t3 (aj (p.t4+1))))else I else I else V (I)
def Kk(M218:(aa aC)->af p6):=bI (IP M218)
def apN(M218:(aa aC)->af p6):An:=(noTwo (noTwo (.two (noTwo (QU.lp (Kk M218) .no)) .no)))
def aDv(M218:(aa aC)->af p6):fe vi (auT M218) 0 300 218 (apN M218):=b6 (l:=[(aZ f218 0,(QU.lp (Kk M218) .no))]) func218 (bM aW) aW (aA (aO QU) aH)
def alz(M218:(aa aC)->af p6)(a0:aa aC):af p6:=
 match Kk M218 (qE.mk a0 0 0)with|I=>I|V r3=>bif J (r3.t4<zR r3.t0)then if 0<=r3.t4/\r3.t4<zR r3.t0 then match M218 r3.t0[zD r3.t4]!.aQ with|I=>I|V r4=>if 0<=r3.t4/\r3.t4<zR r3.t0 then match M218 r3.t0[zD r3.t4]!.aX with|I=>I|V r5=>bif J (r3.t3<aj (r4+1))then bif J (aj (r4+1)<aj (r5+1))then I else I else bif J (r3.t3<aj (r5+1))then I else I else I else I else V (r3.t3)
def aFg(M218:(aa aC)->af p6)(a0:aa aC):bV vi (auT M218) 300 (apN M218) 218 (arp.c (a0,())) [] 0 d218.rd=alz M218 a0:=aW
def apQ:Nat->((aa aC)->af p6)
 |0=>(λ_=>I)
 |n+1=>(alz (apQ n))
def T1(n:Nat):(aa aC)->af p6:=(apQ n)
def Pm:∀n,afG (T1 n)
 |0=>λ_ _ h=>(by cases h)
 |n+1=>by
  have ih:=Pm n;have i218:=ih;exact(dR (aka i218) (aDv (T1 n)) (λ_=>aW) (λ_=>aW) λg=>aFg (T1 n) g.1)
def ahl:(aa aC)->af p6:=λa0=>lim (λn=>T1 n a0)
def ah9:afG ahl:=λg b h=>by
 obtain⟨n,hn⟩:=dD (show lim (λn=>T1 n g.1)=V b from h);exact(Pm n) g b hn
def auf(F:bq):bq:=amk ahl F
def af7{F:bq}(h:bA vi F):bA vi (auf F):=WR ah9 h
def Hv{F:bq}{f:Nat}(h:bz F f):bz (auf F) f:=Yf h
abbrev pT:=Bool
def d219:Td 0 pT:= .c [] [2] (.r 0 0 (ec 2 qb en) sn (λz=>z.1.1) (λx=>((x,()),(()))))
def aq7:=(lc (ql 166) ln)
def agC(M:(aa aC)->af pT):bq->bq:=eL vi 219 G aq7 d219 (λg=>M g.1)
def Bw{M:(aa aC)->af pT}{F:bq}{f:Nat}(h:bz F f):bz (agC M F) f:=gu h (λ_=>aW)
def ahx(M:(aa aC)->af pT):Prop:=HL vi 219 aq7 d219 (λg=>M g.1)
def W2{M:(aa aC)->af pT}(hM:ahx M){F:bq}(h:bA vi F):bA vi (agC M F):=ew (sc:=oF) di hM ⟨_,func219,aW,aW⟩ (λ_=>aW) (λ_=>aW) h
def ajZ(M219:(aa aC)->af pT):bq:=(agC M219 (aiG dw))
def alF{M219}(h219:ahx M219):bA vi (ajZ M219):=(W2 h219 (WA aV))
structure Fh where
 t0:List aC
 t3:Int
def RZ:Td 0 Fh:= .c [] [0,3] (.r 0 0 (ec 0 (ql 166) (ec 3 aN en)) sn (λz=>⟨z.1.1,z.1.2.1⟩) (λx=>((x.t0,x.t3,()),(()))))
def L8(M219:(aa aC)->af pT)(p:Fh):af (af Fh):=
 bif J (p.t3<zR p.t0)then match if 0<=p.t3/\p.t3<zR p.t0 then match Pc (az.mk p.t0[zD p.t3]!.aG.bD p.t0[zD p.t3]!.aG.fN p.t0[zD p.t3]!.aG.ax)with|I=>I|V r1=>bif J (12<r1)then V O else if 0<=p.t3/\p.t3<zR p.t0 then match M219 p.t0[zD p.t3]!.aQ with|I=>I|V r2=>bif r2 then V O else if 0<=p.t3/\p.t3<zR p.t0 then match M219 p.t0[zD p.t3]!.aX with|I=>I|V r3=>V (r3)else I else I else I with|I=>I|V r4=>bif r4 then V (I)else V (V (Fh.mk p.t0 (aj (p.t3+1))))else V (I)
def abu(M219:(aa aC)->af pT):An:=(noTwo (.two (.two (.rb [217,219] 32) .no) .no))
def J2(M219:(aa aC)->af pT):=bI (L8 M219)
def aoG(M219:(aa aC)->af pT):An:=(noTwo (.two (noTwo (RZ.lp (J2 M219) (abu M219))) .no))
def awD{M219}:∀f∈([217,219]:aa Nat),bz (ajZ M219) f:=(aA (Bw (rQ bF)) (aA (Bw (rQ bF)) aH))
def azC(M219:(aa aC)->af pT):fe vi (ajZ M219) 0 300 219 (aoG M219):=b6 (l:=[(aZ f219 0,(RZ.lp (J2 M219) (abu M219))),(.skip,(.rb [217,219] 32))]) func219 (bM aW) aW (aA (aO RZ) (aA awD aH))
def aj8(M219:(aa aC)->af pT)(a0:aa aC):af pT:=
 match J2 M219 (Fh.mk a0 0)with|I=>I|V r5=>bif J (r5.t3<zR r5.t0)then match if 0<=r5.t3/\r5.t3<zR r5.t0 then match Pc (az.mk r5.t0[zD r5.t3]!.aG.bD r5.t0[zD r5.t3]!.aG.fN r5.t0[zD r5.t3]!.aG.ax)with|I=>I|V r6=>bif J (12<r6)then V O else if 0<=r5.t3/\r5.t3<zR r5.t0 then match M219 r5.t0[zD r5.t3]!.aQ with|I=>I|V r7=>bif r7 then V O else if 0<=r5.t3/\r5.t3<zR r5.t0 then match M219 r5.t0[zD r5.t3]!.aX with|I=>I|V r8=>V (r8)else I else I else I with|I=>I|V r9=>bif r9 then V O else I else V G
def aFa(M219:(aa aC)->af pT)(a0:aa aC):bV vi (ajZ M219) 300 (aoG M219) 219 (aq7.c (a0,())) [] 0 d219.rd=aj8 M219 a0:=aW
def aog:Nat->((aa aC)->af pT)
 |0=>(λ_=>I)
 |n+1=>(aj8 (aog n))
def Rt(n:Nat):(aa aC)->af pT:=(aog n)
def N9:∀n,ahx (Rt n)
 |0=>λ_ _ h=>(by cases h)
 |n+1=>by
  have ih:=N9 n;have i219:=ih;exact(dR (alF i219) (azC (Rt n)) (λ_=>aW) (λ_=>aW) λg=>aFa (Rt n) g.1)
def alE:(aa aC)->af pT:=λa0=>lim (λn=>Rt n a0)
def af3:ahx alE:=λg b h=>by
 obtain⟨n,hn⟩:=dD (show lim (λn=>Rt n g.1)=V b from h);exact(N9 n) g b hn
def avD(F:bq):bq:=agC alE F
def agc{F:bq}(h:bA vi F):bA vi (avD F):=W2 af3 h
def HP{F:bq}{f:Nat}(h:bz F f):bz (avD F) f:=Bw h
def aB3:bq:=(avD (auf (aiG (agM (auS dw)))))
structure Et where
 (t3 t4:Int)
 b0:aS
def TE:Td 0 Et:= .c [] [1,3,4] (.r 0 1 (ec 1 (qp 0 0) (ec 3 aN (ec 4 aN en))) (sb 0 26 (lg 26) sn) (λz=>⟨z.1.2.1,z.1.t.1,z.2.1⟩) (λx=>(((),x.t3,x.t4,()),(x.b0,()))))
def Gf(p:Et):af (af Et):=
 bif J (p.t4<zR p.b0.au)then if 0<=p.t4/\p.t4<zR p.b0.au then match T8 (az.mk p.b0.au[zD p.t4]!.aG.bD p.b0.au[zD p.t4]!.aG.fN p.b0.au[zD p.t4]!.aG.ax)with|I=>I|V r1=>if 0<=p.t4/\p.t4<zR p.b0.au then match Pc (az.mk p.b0.au[zD p.t4]!.aG.bD p.b0.au[zD p.t4]!.aG.fN p.b0.au[zD p.t4]!.aG.ax)with|I=>I|V r2=>bif J (12<r2)then V (I)else V (V (Et.mk (aj (p.t3+r1)) (aj (p.t4+1)) p.b0))else I else I else V (I)
def K7:=bI (Gf)
abbrev aBT:=Bool
def d138:Td 0 aBT:= .c [] [2] (.r 0 0 (ec 2 qb en) sn (λz=>z.1.1) (λx=>((x,()),(()))))
def aom:∀f∈([218,219]:aa Nat),bz (aB3) f:=(aA (HP (Hv (rQ (HG (Im bF))))) (aA (HP (Hv (rQ (HG (Im bF))))) aH))
def al7(a0:aS):af aBT:=
 match bif J (64<(zR a0.ai:Int))then V O else V (J (8<(zR a0.au:Int)))with|I=>I|V r3=>bif r3 then V G else match al9 a0.bK with|I=>I|V r4=>match K7 (Et.mk r4 0 a0)with|I=>I|V r5=>bif J (r5.t4<zR r5.b0.au)then if 0<=r5.t4/\r5.t4<zR r5.b0.au then match T8 (az.mk r5.b0.au[zD r5.t4]!.aG.bD r5.b0.au[zD r5.t4]!.aG.fN r5.b0.au[zD r5.t4]!.aG.ax)with|I=>I|V r6=>if 0<=r5.t4/\r5.t4<zR r5.b0.au then match Pc (az.mk r5.b0.au[zD r5.t4]!.aG.bD r5.b0.au[zD r5.t4]!.aG.fN r5.b0.au[zD r5.t4]!.aG.ax)with|I=>I|V r7=>bif J (12<r7)then V G else I else I else I else match bif J (r5.t3<=1024)then match ahl r5.b0.bK with|I=>I|V r8=>bif J (r8<=12)then match alE r5.b0.bK with|I=>I|V r9=>V (bif r9 then G else O)else V G else V G with|I=>I|V r10=>V (r10)
def az8:=eL vi 138 G (lc (qg 26) ln) d138 (λg=>al7 g.1)
def aiy:EO az8:=λh=>kL (F:=aB3) (an:=(noTwo (.two (.two (.rb [218,219] 14) .no) (noTwo (.two (noTwo (TE.lp K7 .no)) (.two (.rb [218,219] 2) .no)))))) (l:=[(.skip,(.rb [218,219] 14)),(aZ f138 0,(TE.lp K7 .no)),(.skip,(.rb [218,219] 2))]) func138 (agc (af7 (WA (VJ (agb aV))))) (aA aom (aA (aO TE) (aA aom aH))) h
def aDi:bq:=dw
structure ED where
 t0:ByteArray
 t3:Int
def QX:Td 0 ED:= .c [] [0,3] (.r 0 0 (ec 0 qs (ec 3 aN en)) sn (λz=>⟨z.1.1,z.1.2.1⟩) (λx=>((x.t0,x.t3,()),(()))))
def Lq(p:ED):af (af ED):=
 bif J (p.t3<p.t0.size)then if 0<=p.t3/\p.t3<p.t0.size then match bif J (97<=cw p.t0 p.t3.toNat)then V (J (cw p.t0 p.t3.toNat<=122))else V G with|I=>I|V r1=>match bif J (48<=cw p.t0 p.t3.toNat)then bif J (cw p.t0 p.t3.toNat<=57)then V O else bif J (cw p.t0 p.t3.toNat=46)then V O else V (J (cw p.t0 p.t3.toNat=95))else bif J (cw p.t0 p.t3.toNat=46)then V O else V (J (cw p.t0 p.t3.toNat=95))with|I=>I|V r2=>match bif bif r1 then G else O then bif J (p.t3=0)then V O else V (bif r2 then G else O)else V G with|I=>I|V r3=>bif r3 then V (I)else V (V (ED.mk p.t0 (aj (p.t3+1))))else I else V (I)
def aaI:An:=(noTwo (.two (noTwo (.two (.rb [] 5) (.two (.rb [] 6) (.two (.rb [] 53) .no)))) .no))
def J4:=bI (Lq)
abbrev aBN:=Bool
def d140:Td 0 aBN:= .c [] [2] (.r 0 0 (ec 2 qb en) sn (λz=>z.1.1) (λx=>((x,()),(()))))
def WG:∀f∈([]:aa Nat),bz (aDi) f:=aH
def TJ(a0:ByteArray):af aBN:=
 match bif J ((a0.size:Int)<1)then V O else V (J (40<(a0.size:Int)))with|I=>I|V r4=>bif r4 then V G else match J4 (ED.mk a0 0)with|I=>I|V r5=>bif J (r5.t3<r5.t0.size)then if 0<=r5.t3/\r5.t3<r5.t0.size then match bif J (97<=cw r5.t0 r5.t3.toNat)then V (J (cw r5.t0 r5.t3.toNat<=122))else V G with|I=>I|V r6=>match bif J (48<=cw r5.t0 r5.t3.toNat)then bif J (cw r5.t0 r5.t3.toNat<=57)then V O else bif J (cw r5.t0 r5.t3.toNat=46)then V O else V (J (cw r5.t0 r5.t3.toNat=95))else bif J (cw r5.t0 r5.t3.toNat=46)then V O else V (J (cw r5.t0 r5.t3.toNat=95))with|I=>I|V r7=>match bif bif r6 then G else O then bif J (r5.t3=0)then V O else V (bif r7 then G else O)else V G with|I=>I|V r8=>bif r8 then V G else I else I else V O
def ai1:=eL vi 140 G (lc qs ln) d140 (λg=>TJ g.1)
def W4:EO ai1:=λh=>kL (F:=aDi) (an:=(noTwo (.two (.two (.rb [] 14) .no) (.two (noTwo (QX.lp J4 aaI)) .no)))) (l:=[(.skip,(.rb [] 14)),(aZ f140 0,(QX.lp J4 aaI)),(.skip,(.rb [] 5)),(.skip,(.rb [] 6)),(.skip,(.rb [] 53))]) func140 aV (aA WG (aA (aO QX) (aA WG (aA WG (aA WG aH))))) h
def YQ:EP ai1:=λh=>kP h
def ars:bq:=dw
abbrev aqG:=Bool
def d141:Td 0 aqG:= .c [] [4] (.r 0 0 (ec 4 qb en) sn (λz=>z.1.1) (λx=>((x,()),(()))))
def axB:=(aU (aU ln))
def aoL:An:=(noTwo (.two (.rb [] 4) .no))
def aB1:∀f∈([]:aa Nat),bz (ars) f:=aH
def JZ(a0:Int)(a1:Int):aqG:=
 let r1:Bool:=bif J (a0<=a1)then bif J (-1048576<=a0)then J (a1<=1048576)else G else G;r1
def aGg(a0:Int)(a1:Int):bV vi (ars) 300 (aoL) 141 (axB.c (a0,a1,())) [] 0 d141.rd=V (JZ a0 a1):=by
 refine Eq.trans (b:=(
  match bif J (a0<=a1)then bif J (-1048576<=a0)then V (J (a1<=1048576))else V (G)else V (G)with|I=>I|V r1=>V (r1):af aqG)) aW ?_
 simp only[JZ,cu,cQ]
def ai5:=eL vi 141 G axB d141 (λg=>V (JZ g.1 g.2.1))
def Xt:EO ai5:=λh=>kL (F:=ars) (an:=aoL) (l:=[(.skip,(.rb [] 4))]) func141 aV (aA aB1 aH) h (c:=λg=>aGg g.1 g.2.1)
def XH:EP ai5:=λh=>kP h
structure Bu where
 t0:List bg
 (t1 t5 t6:Int)
def Qj:Td 0 Bu:= .c [] [0,1,5,6] (.r 0 0 (ec 0 (ql 131) (ec 1 aN (ec 5 aN (ec 6 aN en)))) sn (λz=>⟨z.1.1,z.1.2.1,z.1.t.1,z.1.t.2.1⟩) (λx=>((x.t0,x.t1,x.t5,x.t6,()),(()))))
def Kt(p:Bu):af (af Bu):=
 bif J (p.t6<zR p.t0)then if 0<=p.t6/\p.t6<zR p.t0 then bif bif J (p.t0[zD p.t6]!.bB=p.t1)then G else O then V (V (Bu.mk p.t0 p.t1 p.t5 (aj (p.t6+1))))else if 0<=p.t6/\p.t6<zR p.t0 then if 0<=p.t6/\p.t6<zR p.t0 then bif J (4096<aj (p.t5*aj (aj (p.t0[zD p.t6]!.ag-p.t0[zD p.t6]!.ah)+1)))then V (I)else V (V (Bu.mk p.t0 p.t1 (aj (p.t5*aj (aj (p.t0[zD p.t6]!.ag-p.t0[zD p.t6]!.ah)+1))) (aj (p.t6+1))))else I else I else I else V (I)
def Me:=bI (Kt)
abbrev azS:=Int
def d220:Td 0 azS:= .c [] [4] (.r 0 0 (ec 4 aN en) sn (λz=>z.1.1) (λx=>((x,()),(()))))
def XJ(a0:aa bg)(a1:Int):af azS:=
 match Me (Bu.mk a0 a1 1 0)with|I=>I|V r1=>bif J (r1.t6<zR r1.t0)then if 0<=r1.t6/\r1.t6<zR r1.t0 then bif bif J (r1.t0[zD r1.t6]!.bB=r1.t1)then G else O then I else if 0<=r1.t6/\r1.t6<zR r1.t0 then if 0<=r1.t6/\r1.t6<zR r1.t0 then bif J (4096<aj (r1.t5*aj (aj (r1.t0[zD r1.t6]!.ag-r1.t0[zD r1.t6]!.ah)+1)))then V 4097 else I else I else I else I else V (r1.t5)
def aup:=eL vi 220 G (lc (ql 131) (aU ln)) d220 (λg=>XJ g.1 g.2.1)
def amX:EO aup:=λh=>kL (an:=(noTwo (noTwo (.two (noTwo (Qj.lp Me .no)) .no)))) (l:=[(aZ f220 0,(Qj.lp Me .no))]) func220 aV (aA (aO Qj) aH) h
def Y7:EP aup:=λh=>kP h
def aCT:bq:=(aup (ai5 (ai1 dw)))
structure A4 where
 t0:List bg
 (t3 t5:Int)
 b0:bg
def Tu:Td 0 A4:= .c [] [0,3,4,5] (.r 0 1 (ec 0 (ql 131) (ec 3 aN (ec 4 (qp 0 0) (ec 5 aN en)))) (sb 0 131 (lg 131) sn) (λz=>⟨z.1.1,z.1.2.1,z.1.t.2.1,z.2.1⟩) (λx=>((x.t0,x.t3,(),x.t5,()),(x.b0,()))))
def I5(p:A4):af (af A4):=
 bif J (p.t5<p.t3)then if 0<=p.t5/\p.t5<zR p.t0 then bif p.t0[zD p.t5]!.fName.toList==p.b0.fName.toList then V (I)else V (V (A4.mk p.t0 p.t3 (aj (p.t5+1)) p.b0))else I else V (I)
def Gu:=bI (I5)
structure F3 where
 t0:List bg
 t3:Int
def SD:Td 0 F3:= .c [] [0,3] (.r 0 0 (ec 0 (ql 131) (ec 3 aN en)) sn (λz=>⟨z.1.1,z.1.2.1⟩) (λx=>((x.t0,x.t3,()),(()))))
def Bc(p:F3):af (af F3):=
 bif J (p.t3<zR p.t0)then if 0<=p.t3/\p.t3<zR p.t0 then match TJ p.t0[zD p.t3]!.fName with|I=>I|V r1=>bif bif r1 then G else O then V (I)else match Gu (A4.mk p.t0 p.t3 0 p.t0[zD p.t3]!)with|I=>I|V r2=>bif J (r2.t5<r2.t3)then if 0<=r2.t5/\r2.t5<zR r2.t0 then bif r2.t0[zD r2.t5]!.fName.toList==r2.b0.fName.toList then V (I)else I else I else match bif bif J (r2.b0.bB=0)then G else O then bif bif J (r2.b0.bB=1)then G else O then bif bif J (r2.b0.bB=2)then G else O then V (bif J (r2.b0.bB=3)then G else O)else V G else V G else V G with|I=>I|V r3=>bif r3 then V (I)else bif bif JZ r2.b0.ah r2.b0.ag then G else O then V (I)else match bif J (r2.b0.bB=0)then bif J (r2.b0.eH<r2.b0.ah)then V O else bif J (r2.b0.ag<r2.b0.eH)then V O else bif bif J (r2.b0.bB=0)then G else O then V (bif J (r2.b0.eH=0)then G else O)else V G else bif bif J (r2.b0.bB=0)then G else O then V (bif J (r2.b0.eH=0)then G else O)else V G with|I=>I|V r4=>bif r4 then V (I)else V (V (F3.mk r2.t0 (aj (r2.t3+1))))else I else V (I)
def aec:An:=(noTwo (.two (noTwo (noTwo (.two (noTwo (Tu.lp Gu .no)) (.two (.two (.rb [220] 50) .no) (noTwo (.two (.rb [220] 83) .no)))))) .no))
def IK:=bI (Bc)
abbrev ayU:=Int
def d139:Td 0 ayU:= .c [] [2] (.r 0 0 (ec 2 aN en) sn (λz=>z.1.1) (λx=>((x,()),(()))))
def adK:∀f∈([220]:aa Nat),bz (aCT) f:=(aA (Y7 (XH (YQ bF))) aH)
def amC(a0:aa bg):af ayU:=
 match IK (F3.mk a0 0)with|I=>I|V r5=>bif J (r5.t3<zR r5.t0)then if 0<=r5.t3/\r5.t3<zR r5.t0 then match TJ r5.t0[zD r5.t3]!.fName with|I=>I|V r6=>bif bif r6 then G else O then V 7 else match Gu (A4.mk r5.t0 r5.t3 0 r5.t0[zD r5.t3]!)with|I=>I|V r7=>bif J (r7.t5<r7.t3)then if 0<=r7.t5/\r7.t5<zR r7.t0 then bif r7.t0[zD r7.t5]!.fName.toList==r7.b0.fName.toList then V 8 else I else I else match bif bif J (r7.b0.bB=0)then G else O then bif bif J (r7.b0.bB=1)then G else O then bif bif J (r7.b0.bB=2)then G else O then V (bif J (r7.b0.bB=3)then G else O)else V G else V G else V G with|I=>I|V r8=>bif r8 then V 1 else bif bif JZ r7.b0.ah r7.b0.ag then G else O then V 3 else match bif J (r7.b0.bB=0)then bif J (r7.b0.eH<r7.b0.ah)then V O else bif J (r7.b0.ag<r7.b0.eH)then V O else bif bif J (r7.b0.bB=0)then G else O then V (bif J (r7.b0.eH=0)then G else O)else V G else bif bif J (r7.b0.bB=0)then G else O then V (bif J (r7.b0.eH=0)then G else O)else V G with|I=>I|V r9=>bif r9 then V 3 else I else I else match match XJ r5.t0 1with|I=>I|V r10=>bif J (4096<r10)then V O else match XJ r5.t0 2with|I=>I|V r11=>bif J (4096<r11)then V O else match XJ r5.t0 3with|I=>I|V r12=>V (J (256<r12))with|I=>I|V r13=>bif r13 then V 4 else V 0
def aAy:=eL vi 139 G (lc (ql 131) ln) d139 (λg=>amC g.1)
def ajX:EO aAy:=λh=>kL (F:=aCT) (an:=(noTwo (.two (noTwo (SD.lp IK aec)) (.two (.two (.rb [220] 96) .no) .no)))) (l:=[(aZ f139 0,(SD.lp IK aec)),(aZ f139 1,(Tu.lp Gu .no)),(.skip,(.rb [220] 50)),(.skip,(.rb [220] 83)),(.skip,(.rb [220] 96))]) func139 (amX (Xt (W4 aV))) (aA (aO SD) (aA (aO Tu) (aA adK (aA adK (aA adK aH))))) h
def aHP:bq:=dw
abbrev aqV:=Int
def d270:Td 0 aqV:= .c [] [2] (.r 0 0 (ec 2 aN en) sn (λz=>z.1.1) (λx=>((x,()),(()))))
def aBw:=(aU ln)
def aof:An:= .no
def GV(a0:Int):aqV:=
 bif J (a0=0)then 0 else bif J (a0=24)then 0 else bif J (a0=6)then 1 else bif J (a0=7)then 1 else bif J (a0=8)then 2 else bif J (a0=9)then 2 else bif J (a0=10)then 2 else bif J (a0=11)then 2 else bif J (a0=12)then 2 else bif J (a0=13)then 2 else bif J (a0=14)then 2 else bif J (a0=15)then 2 else bif J (a0=16)then 2 else bif J (a0=17)then 2 else bif J (a0=18)then 2 else bif J (a0=19)then 2 else bif J (a0=20)then 2 else bif J (a0=21)then 2 else bif J (a0=22)then 2 else bif J (a0=23)then 3 else bif J (a0=25)then-2 else-1
def aEk(a0:Int):bV vi (aHP) 300 (aof) 270 (aBw.c (a0,())) [] 0 d270.rd=V (GV a0):=by
 refine Eq.trans (b:=(
  bif J (a0=0)then V (0)else bif J (a0=24)then V (0)else bif J (a0=6)then V (1)else bif J (a0=7)then V (1)else bif J (a0=8)then V (2)else bif J (a0=9)then V (2)else bif J (a0=10)then V (2)else bif J (a0=11)then V (2)else bif J (a0=12)then V (2)else bif J (a0=13)then V (2)else bif J (a0=14)then V (2)else bif J (a0=15)then V (2)else bif J (a0=16)then V (2)else bif J (a0=17)then V (2)else bif J (a0=18)then V (2)else bif J (a0=19)then V (2)else bif J (a0=20)then V (2)else bif J (a0=21)then V (2)else bif J (a0=22)then V (2)else bif J (a0=23)then V (3)else bif J (a0=25)then V (-2)else V (-1):af aqV)) aW ?_
 simp only[GV,cu,cQ]
def aAi:=eL vi 270 G aBw d270 (λg=>V (GV g.1))
def akt:EO aAi:=λh=>kL (an:=aof) func270 aV aH h (c:=λg=>aEk g.1)
abbrev s9:=Bool
def d221:Td 0 s9:= .c [] [6] (.r 0 0 (ec 6 qb en) sn (λz=>z.1.1) (λx=>((x,()),(()))))
def arU:=(lc (ql 131) (lc (qg 137) (lc qb ln)))
def atd(M:(aa bg)->az->Bool->af s9):bq->bq:=eL vi 221 G arU d221 (λg=>M g.1 g.2.1 g.2.2.1)
def akj(M:(aa bg)->az->Bool->af s9):Prop:=HL vi 221 arU d221 (λg=>M g.1 g.2.1 g.2.2.1)
def Uh{M:(aa bg)->az->Bool->af s9}(hM:akj M){F:bq}(h:bA vi F):bA vi (atd M F):=ew (sc:=oF) di hM ⟨_,func221,aW,aW⟩ (λ_=>aW) (λ_=>aW) h
def ahT(M221:(aa bg)->az->Bool->af s9):bq:=(aAi (atd M221 dw))
def ahO{M221}(h221:akj M221):bA vi (ahT M221):=(akt (Uh h221 aV))
structure A8 where
 t0:List bg
 t2:Bool
 t8:Int
 b0:az
def QB:Td 0 A8:= .c [] [0,2,4,8] (.r 0 1 (ec 0 (ql 131) (ec 2 qb (ec 4 (qp 0 0) (ec 8 aN en)))) (sb 0 137 (lg 137) sn) (λz=>⟨z.1.1,z.1.2.1,z.1.t.2.1,z.2.1⟩) (λx=>((x.t0,x.t2,(),x.t8,()),(x.b0,()))))
def Lg(M221:(aa bg)->az->Bool->af s9)(p:A8):af (af A8):=
 bif J (p.t8<zR p.b0.ax)then if 0<=p.t8/\p.t8<zR p.b0.ax then match M221 p.t0 (az.mk p.b0.ax[zD p.t8]!.bD p.b0.ax[zD p.t8]!.fN p.b0.ax[zD p.t8]!.ax) p.t2 with|I=>I|V r1=>bif bif r1 then G else O then V (I)else V (V (A8.mk p.t0 p.t2 (aj (p.t8+1)) (az.mk p.b0.bD p.b0.fN p.b0.ax)))else I else V (I)
def Fm(M221:(aa bg)->az->Bool->af s9):=bI (Lg M221)
def ap8(M221:(aa bg)->az->Bool->af s9):An:=(noTwo (noTwo (.two (.two (.rb [] 40) .no) (.two (noTwo (.two (.two (.rb [] 65) .no) (.two (.rb [] 73) .no))) (.two (noTwo (QB.lp (Fm M221) .no)) .no)))))
def abb{M221}:∀f∈([]:aa Nat),bz (ahT M221) f:=aH
def azv(M221:(aa bg)->az->Bool->af s9):fe vi (ahT M221) 0 300 221 (ap8 M221):=b6 (l:=[(.skip,(.rb [] 40)),(.skip,(.rb [] 65)),(.skip,(.rb [] 73)),(aZ f221 0,(QB.lp (Fm M221) .no))]) func221 (bM aW) aW (aA abb (aA abb (aA abb (aA (aO QB) aH))))
def akd(M221:(aa bg)->az->Bool->af s9)(a0:aa bg)(a1:az)(a2:Bool):af s9:=
 match bif J (GV a1.bD= -1)then V O else bif J (0<=GV a1.bD)then bif bif J (zR a1.ax=GV a1.bD)then G else O then V O else bif J (GV a1.bD= -2)then bif J ((zR a1.ax:Int)<2)then V O else V (J (33<(zR a1.ax:Int)))else V G else bif J (GV a1.bD= -2)then bif J ((zR a1.ax:Int)<2)then V O else V (J (33<(zR a1.ax:Int)))else V G with|I=>I|V r2=>bif r2 then V G else bif J (a1.bD=24)then match bif J (a1.fN<0)then V O else bif J (zR a0<=a1.fN)then V O else bif a2 then if 0<=a1.fN/\a1.fN<zR a0 then V (J (a0[a1.fN.toNat]!.bB=0))else I else V G with|I=>I|V r3=>bif r3 then V G else match Fm M221 (A8.mk a0 a2 0 (az.mk a1.bD a1.fN a1.ax))with|I=>I|V r4=>bif J (r4.t8<zR r4.b0.ax)then if 0<=r4.t8/\r4.t8<zR r4.b0.ax then match M221 r4.t0 (az.mk r4.b0.ax[zD r4.t8]!.bD r4.b0.ax[zD r4.t8]!.fN r4.b0.ax[zD r4.t8]!.ax) r4.t2 with|I=>I|V r5=>bif bif r5 then G else O then V G else I else I else V O else match bif bif J (a1.bD=0)then G else O then V (bif J (a1.fN=0)then G else O)else V G with|I=>I|V r6=>bif r6 then V G else match Fm M221 (A8.mk a0 a2 0 (az.mk a1.bD a1.fN a1.ax))with|I=>I|V r7=>bif J (r7.t8<zR r7.b0.ax)then if 0<=r7.t8/\r7.t8<zR r7.b0.ax then match M221 r7.t0 (az.mk r7.b0.ax[zD r7.t8]!.bD r7.b0.ax[zD r7.t8]!.fN r7.b0.ax[zD r7.t8]!.ax) r7.t2 with|I=>I|V r8=>bif bif r8 then G else O then V G else I else I else V O
def aFP(M221:(aa bg)->az->Bool->af s9)(a0:aa bg)(a1:az)(a2:Bool):bV vi (ahT M221) 300 (ap8 M221) 221 (arU.c (a0,a1,a2,())) [] 0 d221.rd=akd M221 a0 a1 a2:=aW
def apX:Nat->((aa bg)->az->Bool->af s9)
 |0=>(λ_ _ _=>I)
 |n+1=>(akd (apX n))
def Sd(n:Nat):(aa bg)->az->Bool->af s9:=(apX n)
def Pd:∀n,akj (Sd n)
 |0=>λ_ _ h=>(by cases h)
 |n+1=>by
  have ih:=Pd n;have i221:=ih;exact(dR (ahO i221) (azv (Sd n)) (λ_=>aW) (λ_=>aW) λg=>aFP (Sd n) g.1 g.2.1 g.2.2.1)
def af4:(aa bg)->az->Bool->af s9:=λa0 a1 a2=>lim (λn=>Sd n a0 a1 a2)
def alg:akj af4:=λg b h=>by
 obtain⟨n,hn⟩:=dD (show lim (λn=>Sd n g.1 g.2.1 g.2.2.1)=V b from h);exact(Pd n) g b hn
def aG3(F:bq):bq:=atd af4 F
def ah5{F:bq}(h:bA vi F):bA vi (aG3 F):=Uh alg h
def aE3:bq:=dw
abbrev as5:=Int
def d313:Td 0 as5:= .c [] [2] (.r 0 0 (ec 2 aN en) sn (λz=>z.1.1) (λx=>((x,()),(()))))
def aAe:=(aU ln)
def anz:An:= .no
def AW(a0:Int):as5:=
 bif J (a0<0)then aj (0-a0)else a0
def aEO(a0:Int):bV vi (aE3) 300 (anz) 313 (aAe.c (a0,())) [] 0 d313.rd=V (AW a0):=by
 refine Eq.trans (b:=(
  bif J (a0<0)then V (aj (0-a0))else V (a0):af as5)) aW ?_
 simp only[AW,cu,cQ]
def aeF:=eL vi 313 G aAe d313 (λg=>V (AW g.1))
def ah7:EO aeF:=λh=>kL (an:=anz) func313 aV aH h (c:=λg=>aEO g.1)
def aHM:bq:=(afV (YB dw))
abbrev ard:=Int×Int
def d314:Td 0 ard:= .c [] [4,5] (.r 0 0 (ec 4 aN (ec 5 aN en)) sn (λz=>(z.1.1,z.1.2.1)) (λx=>((x.1,x.2,()),(()))))
def ayM:=(aU (aU ln))
def ao2:An:= .no
def aaO(a0:Int)(a1:Int):ard:=
 bif J (a0<0)then bif J (0<a1)then(jU (0) (aj (a0+1)),k8 (0) (aj (a1-1)))else(jU (0) (aj (a0+1)),0)else bif J (0<a1)then(0,k8 (0) (aj (a1-1)))else(0,0)
def aE9(a0:Int)(a1:Int):bV vi (aHM) 300 (ao2) 314 (ayM.c (a0,a1,())) [] 0 d314.rd=V (aaO a0 a1):=by
 refine Eq.trans (b:=(
  bif J (a0<0)then bif J (0<a1)then V ((jU (0) (aj (a0+1)),k8 (0) (aj (a1-1))))else V ((jU (0) (aj (a0+1)),0))else bif J (0<a1)then V ((0,k8 (0) (aj (a1-1))))else V ((0,0)):af ard)) aW ?_
 simp only[aaO,cu,cQ]
def axf:=eL vi 314 G ayM d314 (λg=>V (aaO g.1 g.2.1))
def aim:EO axf:=λh=>kL (an:=ao2) func314 (JF (KQ aV)) aH h (c:=λg=>aE9 g.1 g.2.1)
def aBO:bq:=(axf (aeF (afV (YB dw))))
structure B5 where
 (t2 t3:List Int)
 (t15 t16 t17:Int)
def Qw:Td 0 B5:= .c [] [2,3,15,16,17] (.r 0 0 (ec 2 (ql 3) (ec 3 (ql 3) (ec 15 aN (ec 16 aN (ec 17 aN en))))) sn (λz=>⟨z.1.1,z.1.2.1,z.1.t.1,z.1.t.2.1,z.1.q.1⟩) (λx=>((x.t2,x.t3,x.t15,x.t16,x.t17,()),(()))))
def Mg(p:B5):af (af B5):=
 bif J (p.t17<zR p.t2)then if 0<=p.t17/\p.t17<zR p.t2 then if 0<=p.t17/\p.t17<zR p.t3 then V (V (B5.mk p.t2 p.t3 (jU p.t15 p.t2[zD p.t17]!) (k8 p.t16 p.t3[zD p.t17]!) (aj (p.t17+1))))else I else I else V (I)
def Ec:=bI (Mg)
abbrev ayV:=Int×Int
def d271:Td 0 ayV:= .c [] [8,9] (.r 0 0 (ec 8 aN (ec 9 aN en)) sn (λz=>(z.1.1,z.1.2.1)) (λx=>((x.1,x.2,()),(()))))
def apo:∀f∈([]:aa Nat),bz (aBO) f:=aH
def aln(a0:aa bg)(a1:az)(a2:aa Int)(a3:aa Int):af ayV:=
 bif J (a1.bD=0)then match bif J (a1.fN< -1048576)then V O else V (J (1048576<a1.fN))with|I=>I|V r1=>bif r1 then V (-1048577,1048577)else V (a1.fN,a1.fN)else bif J (a1.bD=24)then if 0<=a1.fN/\a1.fN<zR a0 then if 0<=a1.fN/\a1.fN<zR a0 then V (a0[a1.fN.toNat]!.ah,a0[a1.fN.toNat]!.ag)else I else I else bif J (a1.bD=6)then if(0:Int)<=(0:Int)/\(0:Int)<zR a3 then if(0:Int)<=(0:Int)/\(0:Int)<zR a2 then V ((aj (0-a3[0]!),aj (0-a2[0]!)))else I else I else bif J (a1.bD=8)then if(0:Int)<=(0:Int)/\(0:Int)<zR a2 then if(0:Int)<=(1:Int)/\(1:Int)<zR a2 then if(0:Int)<=(0:Int)/\(0:Int)<zR a3 then if(0:Int)<=(1:Int)/\(1:Int)<zR a3 then V ((aj (a2[0]! +a2[1]!),aj (a3[0]! +a3[1]!)))else I else I else I else I else bif J (a1.bD=9)then if(0:Int)<=(0:Int)/\(0:Int)<zR a2 then if(0:Int)<=(1:Int)/\(1:Int)<zR a3 then if(0:Int)<=(0:Int)/\(0:Int)<zR a3 then if(0:Int)<=(1:Int)/\(1:Int)<zR a2 then V ((aj (a2[0]! -a3[1]!),aj (a3[0]! -a2[1]!)))else I else I else I else I else bif J (a1.bD=10)then if(0:Int)<=(0:Int)/\(0:Int)<zR a2 then if(0:Int)<=(1:Int)/\(1:Int)<zR a2 then if(0:Int)<=(0:Int)/\(0:Int)<zR a2 then if(0:Int)<=(1:Int)/\(1:Int)<zR a3 then if(0:Int)<=(0:Int)/\(0:Int)<zR a3 then if(0:Int)<=(1:Int)/\(1:Int)<zR a2 then if(0:Int)<=(0:Int)/\(0:Int)<zR a3 then if(0:Int)<=(1:Int)/\(1:Int)<zR a3 then V ((jU (jU (aj (a2[0]! *a2[1]!)) (aj (a2[0]! *a3[1]!))) (jU (aj (a3[0]! *a2[1]!)) (aj (a3[0]! *a3[1]!))),k8 (k8 (aj (a2[0]! *a2[1]!)) (aj (a2[0]! *a3[1]!))) (k8 (aj (a3[0]! *a2[1]!)) (aj (a3[0]! *a3[1]!)))))else I else I else I else I else I else I else I else I else bif J (a1.bD=11)then if(0:Int)<=(0:Int)/\(0:Int)<zR a2 then if(0:Int)<=(0:Int)/\(0:Int)<zR a3 then match if(0:Int)<=(0:Int)/\(0:Int)<zR a2 then bif J (0<=a2[zD 0]!)then if(0:Int)<=(1:Int)/\(1:Int)<zR a2 then V (J (0<=a2[zD 1]!))else I else V G else I with|I=>I|V r2=>bif r2 then V ((0,k8 (AW a2[0]!) (AW a3[0]!)))else V ((aj (0-k8 (AW a2[0]!) (AW a3[0]!)),k8 (AW a2[0]!) (AW a3[0]!)))else I else I else bif J (a1.bD=12)then if(0:Int)<=(1:Int)/\(1:Int)<zR a2 then if(0:Int)<=(1:Int)/\(1:Int)<zR a3 then V (aaO a2[1]! a3[1]!)else I else I else bif J (a1.bD=21)then if(0:Int)<=(0:Int)/\(0:Int)<zR a2 then if(0:Int)<=(1:Int)/\(1:Int)<zR a2 then if(0:Int)<=(0:Int)/\(0:Int)<zR a3 then if(0:Int)<=(1:Int)/\(1:Int)<zR a3 then V (jU a2[0]! a2[1]!,jU a3[0]! a3[1]!)else I else I else I else I else bif J (a1.bD=22)then if(0:Int)<=(0:Int)/\(0:Int)<zR a2 then if(0:Int)<=(1:Int)/\(1:Int)<zR a2 then if(0:Int)<=(0:Int)/\(0:Int)<zR a3 then if(0:Int)<=(1:Int)/\(1:Int)<zR a3 then V (k8 a2[0]! a2[1]!,k8 a3[0]! a3[1]!)else I else I else I else I else bif J (a1.bD=23)then if(0:Int)<=(1:Int)/\(1:Int)<zR a2 then if(0:Int)<=(1:Int)/\(1:Int)<zR a3 then match Ec (B5.mk a2 a3 a2[1]! a3[1]! (2))with|I=>I|V r3=>bif J (r3.t17<zR r3.t2)then if 0<=r3.t17/\r3.t17<zR r3.t2 then if 0<=r3.t17/\r3.t17<zR r3.t3 then I else I else I else V (r3.t15,r3.t16)else I else I else bif J (a1.bD=25)then if(0:Int)<=(1:Int)/\(1:Int)<zR a2 then if(0:Int)<=(1:Int)/\(1:Int)<zR a3 then match Ec (B5.mk a2 a3 a2[1]! a3[1]! (2))with|I=>I|V r4=>bif J (r4.t17<zR r4.t2)then if 0<=r4.t17/\r4.t17<zR r4.t2 then if 0<=r4.t17/\r4.t17<zR r4.t3 then I else I else I else V (r4.t15,r4.t16)else I else I else V (0,1)
def ayC:=eL vi 271 G (lc (ql 131) (lc (qg 137) (lc (ql 3) (lc (ql 3) ln)))) d271 (λg=>aln g.1 g.2.1 g.t.1 g.t.2.1)
def ak8:EO ayC:=λh=>kL (F:=aBO) (an:=(noTwo (.two (noTwo (noTwo (.two (.two (.two (.rb [] 29) .no) .no) (noTwo (noTwo (noTwo (noTwo (noTwo (noTwo (noTwo (noTwo (noTwo (noTwo (noTwo (.two (noTwo (.two (.two (.rb [] 154) .no) .no)) (noTwo (noTwo (noTwo (noTwo (noTwo (noTwo (noTwo (.two (noTwo (.two (noTwo (Qw.lp Ec .no)) .no)) .no))))))))))))))))))))))) .no))) (l:=[(.skip,(.rb [] 29)),(.skip,(.rb [] 154)),(aZ f271 0,(Qw.lp Ec .no))]) func271 (aim (ah7 (JF (KQ aV)))) (aA apo (aA apo (aA (aO Qw) aH))) h
abbrev tc:=Int×Int×Bool
def d222:Td 0 tc:= .c [] [4,5,6] (.r 0 0 (ec 4 aN (ec 5 aN (ec 6 qb en))) sn (λz=>(z.1.1,z.1.2.1,z.1.t.1)) (λx=>((x.1,x.2.1,x.t,()),(()))))
def auA:=(lc (ql 131) (lc (qg 137) ln))
def asm(M:(aa bg)->az->af tc):bq->bq:=eL vi 222 G auA d222 (λg=>M g.1 g.2.1)
def afI(M:(aa bg)->az->af tc):Prop:=HL vi 222 auA d222 (λg=>M g.1 g.2.1)
def U0{M:(aa bg)->az->af tc}(hM:afI M){F:bq}(h:bA vi F):bA vi (asm M F):=ew (sc:=oF) di hM ⟨_,func222,aW,aW⟩ (λ_=>aW) (λ_=>aW) h
def avm(M222:(aa bg)->az->af tc):bq:=(ayC (asm M222 dw))
def afw{M222}(h222:afI M222):bA vi (avm M222):=(ak8 (U0 h222 aV))
structure GB where
 t0:List bg
 (t7 t8:List Int)
 t9:Int
 b0:az
def Rh:Td 0 GB:= .c [] [0,3,7,8,9] (.r 0 3 (ec 0 (ql 131) (ec 3 (qp 0 0) (ec 7 (qo 1) (ec 8 (qo 2) (ec 9 aN en))))) (sb 0 137 (lg 137) (sr 1 3 (sr 2 3 sn))) (λz=>⟨z.1.1,z.t.1,z.t.2.1,z.1.q.1,z.2.1⟩) (λx=>((x.t0,(),(),(),x.t9,()),(x.b0,x.t7,x.t8,()))))
def Fo(M222:(aa bg)->az->af tc)(p:GB):af (af GB):=
 bif J (p.t9<zR p.b0.ax)then if 0<=p.t9/\p.t9<zR p.b0.ax then match M222 p.t0 (az.mk p.b0.ax[zD p.t9]!.bD p.b0.ax[zD p.t9]!.fN p.b0.ax[zD p.t9]!.ax)with|I=>I|V r1=>bif bif r1.snd.snd then G else O then V (I)else if(p.t7++[r1.fst]).length<=1073741824 then if(p.t8++[r1.snd.fst]).length<=1073741824 then V (V (GB.mk p.t0 (p.t7++[r1.fst]) (p.t8++[r1.snd.fst]) (aj (p.t9+1)) (az.mk p.b0.bD p.b0.fN p.b0.ax)))else I else I else I else V (I)
def Ke(M222:(aa bg)->az->af tc):=bI (Fo M222)
def aoN(M222:(aa bg)->az->af tc):An:=(noTwo (noTwo (noTwo (.two (noTwo (Rh.lp (Ke M222) .no)) .no))))
def aDu(M222:(aa bg)->az->af tc):fe vi (avm M222) 0 300 222 (aoN M222):=b6 (l:=[(aZ f222 0,(Rh.lp (Ke M222) .no))]) func222 (bM aW) aW (aA (aO Rh) aH)
def akn(M222:(aa bg)->az->af tc)(a0:aa bg)(a1:az):af tc:=
 match Ke M222 (GB.mk a0 [] [] (0) (az.mk a1.bD a1.fN a1.ax))with|I=>I|V r2=>bif J (r2.t9<zR r2.b0.ax)then if 0<=r2.t9/\r2.t9<zR r2.b0.ax then match M222 r2.t0 (az.mk r2.b0.ax[zD r2.t9]!.bD r2.b0.ax[zD r2.t9]!.fN r2.b0.ax[zD r2.t9]!.ax)with|I=>I|V r3=>bif bif r3.snd.snd then G else O then V (0,0,G)else if(r2.t7++[r3.fst]).length<=1073741824 then if(r2.t8++[r3.snd.fst]).length<=1073741824 then I else I else I else I else match aln r2.t0 (az.mk r2.b0.bD r2.b0.fN r2.b0.ax) r2.t7 r2.t8 with|I=>I|V r4=>bif J (-1048576<=r4.fst)then V ((r4.fst,r4.snd,J (r4.snd<=1048576)))else V (r4.fst,r4.snd,G)
def aEU(M222:(aa bg)->az->af tc)(a0:aa bg)(a1:az):bV vi (avm M222) 300 (aoN M222) 222 (auA.c (a0,a1,())) [] 0 d222.rd=akn M222 a0 a1:=aW
def anP:Nat->((aa bg)->az->af tc)
 |0=>(λ_ _=>I)
 |n+1=>(akn (anP n))
def T6(n:Nat):(aa bg)->az->af tc:=(anP n)
def PI:∀n,afI (T6 n)
 |0=>λ_ _ h=>(by cases h)
 |n+1=>by
  have ih:=PI n;have i222:=ih;exact(dR (afw i222) (aDu (T6 n)) (λ_=>aW) (λ_=>aW) λg=>aEU (T6 n) g.1 g.2.1)
def ak5:(aa bg)->az->af tc:=λa0 a1=>lim (λn=>T6 n a0 a1)
def agd:afI ak5:=λg b h=>by
 obtain⟨n,hn⟩:=dD (show lim (λn=>T6 n g.1 g.2.1)=V b from h);exact(PI n) g b hn
def aGj(F:bq):bq:=asm ak5 F
def amT{F:bq}(h:bA vi F):bA vi (aGj F):=U0 agd h
abbrev aAC:=Int
def d142:Td 0 aAC:= .c [] [6] (.r 0 0 (ec 6 aN en) sn (λz=>z.1.1) (λx=>((x,()),(()))))
def IL(a0:aa bg)(a1:az)(a2:Bool):af aAC:=
 match af4 a0 (az.mk a1.bD a1.fN a1.ax) a2 with|I=>I|V r1=>bif bif r1 then G else O then V (1)else match ak5 a0 (az.mk a1.bD a1.fN a1.ax)with|I=>I|V r2=>bif bif r2.snd.snd then G else O then V (3)else V (0)
def ahD:=eL vi 142 G (lc (ql 131) (lc (qg 137) (lc qb ln))) d142 (λg=>IL g.1 g.2.1 g.t.1)
def WH:EO ahD:=λh=>kL (an:= .no) func142 (amT (ah5 aV)) aH h
def ZB:EP ahD:=λh=>kP h
def atr:bq:=dw
abbrev aum:=Bool
def d272:Td 0 aum:= .c [] [2] (.r 0 0 (ec 2 qb en) sn (λz=>z.1.1) (λx=>((x,()),(()))))
def aC1:=(lc (qg 137) ln)
def aoM:An:=(noTwo (.two (.rb [] 2) .no))
def aBl:∀f∈([]:aa Nat),bz (atr) f:=aH
def Na(a0:az):aum:=
 let r1:Bool:=bif J (a0.bD=0)then bif J (a0.fN=0)then J ((zR a0.ax:Int)=0)else G else G;r1
def aFO(a0:az):bV vi (atr) 300 (aoM) 272 (aC1.c (a0,())) [] 0 d272.rd=V (Na a0):=by
 refine Eq.trans (b:=(
  match bif J (a0.bD=0)then bif J (a0.fN=0)then V (J ((zR a0.ax:Int)=0))else V (G)else V (G)with|I=>I|V r1=>V (r1):af aum)) aW ?_
 simp only[Na,cu,cQ]
def auh:=eL vi 272 G aC1 d272 (λg=>V (Na g.1))
def ahE:EO auh:=λh=>kL (F:=atr) (an:=aoM) (l:=[(.skip,(.rb [] 2))]) func272 aV (aA aBl aH) h (c:=λg=>aFO g.1)
def IA:EP auh:=λh=>kP h
def azE:bq:=dw
structure EG where
 t0:List Int
 t3:Int
def TX:Td 0 EG:= .c [] [0,3] (.r 0 0 (ec 0 (ql 3) (ec 3 aN en)) sn (λz=>⟨z.1.1,z.1.2.1⟩) (λx=>((x.t0,x.t3,()),(()))))
def JT(p:EG):af (af EG):=
 bif J (p.t3<zR p.t0)then if 0<=p.t3/\p.t3<zR p.t0 then if 0<=aj (p.t3-1)/\aj (p.t3-1)<zR p.t0 then bif J (((p.t0,p.t3,()),()).fst.fst[((p.t0,p.t3,()),()).fst.snd.fst.toNat]!<=((p.t0,p.t3,()),()).fst.fst[(aj (((p.t0,p.t3,()),()).fst.snd.fst-1)).toNat]!)then V (I)else V (V (EG.mk p.t0 (aj (p.t3+1))))else I else I else V (I)
def Lk:=bI (JT)
abbrev ayA:=Bool
def d273:Td 0 ayA:= .c [] [2] (.r 0 0 (ec 2 qb en) sn (λz=>z.1.1) (λx=>((x,()),(()))))
def aAb:∀f∈([]:aa Nat),bz (azE) f:=aH
def al4(a0:aa Int):af ayA:=
 match bif J ((zR a0:Int)<1)then V O else bif J (32<(zR a0:Int))then V O else if(0:Int)<=(0:Int)/\(0:Int)<zR a0 then V (J (a0[zD 0]! <0))else I with|I=>I|V r1=>bif r1 then V G else match Lk (EG.mk a0 1)with|I=>I|V r2=>bif J (r2.t3<zR r2.t0)then if 0<=r2.t3/\r2.t3<zR r2.t0 then if 0<=aj (r2.t3-1)/\aj (r2.t3-1)<zR r2.t0 then bif J (((r2.t0,r2.t3,()),()).fst.fst[((r2.t0,r2.t3,()),()).fst.snd.fst.toNat]!<=((r2.t0,r2.t3,()),()).fst.fst[(aj (((r2.t0,r2.t3,()),()).fst.snd.fst-1)).toNat]!)then V G else I else I else I else V O
def arK:=eL vi 273 G (lc (ql 3) ln) d273 (λg=>al4 g.1)
def ala:EO arK:=λh=>kL (F:=azE) (an:=(noTwo (.two (.two (.rb [] 17) .no) (.two (noTwo (TX.lp Lk .no)) .no)))) (l:=[(.skip,(.rb [] 17)),(aZ f273 0,(TX.lp Lk .no))]) func273 aV (aA aAb (aA (aO TX) aH)) h
def Hz:EP arK:=λh=>kP h
def ayT:bq:=(arK (auh dw))
abbrev aC4:=Bool
def d223:Td 0 aC4:= .c [] [6] (.r 0 0 (ec 6 qb en) sn (λz=>z.1.1) (λx=>((x,()),(()))))
def Av:∀f∈([272,273]:aa Nat),bz (ayT) f:=(aA (Hz (IA bF)) (aA (Hz (IA bF)) aH))
def Sw(a0:aS)(a1:aC)(a2:Bool):af aC4:=
 match bif J ((zR a1.aQ:Int)=0)then V (J ((zR a1.aX:Int)=0))else V G with|I=>I|V r1=>match bif J (0<=a1.dM)then bif J (a1.dM<zR a0.ai)then if 0<=a1.dM/\a1.dM<zR a0.ai then V (J (a0.ai[a1.dM.toNat]!.bB=0))else I else V G else V G with|I=>I|V r2=>bif J (a1.cg=0)then match bif r1 then bif r2 then bif J (a1.fN=0)then V (J ((zR a1.aR:Int)=0))else V G else V G else V G with|I=>I|V r3=>V (r3)else bif J (a1.cg=1)then match bif r1 then bif J (a1.dM=0)then bif J (a1.fN=0)then V (J ((zR a1.aR:Int)=0))else V G else V G else V G with|I=>I|V r4=>V (r4)else bif J (a1.cg=2)then match bif r1 then bif J (a1.dM=0)then bif J (a1.fN=0)then bif J ((zR a1.aR:Int)=0)then V (Na (az.mk a1.aG.bD a1.aG.fN a1.aG.ax))else V G else V G else V G else V G with|I=>I|V r5=>V (r5)else bif J (a1.cg=3)then match bif J (a1.dM=0)then bif J (a1.fN=0)then V (J ((zR a1.aR:Int)=0))else V G else V G with|I=>I|V r6=>V (r6)else bif J (a1.cg=4)then match bif J (a1.dM=0)then bif J ((zR a1.aX:Int)=0)then V (J ((zR a1.aR:Int)=0))else V G else V G with|I=>I|V r7=>V (r7)else bif J (a1.cg=5)then match bif r1 then bif r2 then bif J (0<=a1.fN)then bif J (a1.fN<zR a0.au)then bif J ((zR a1.aR:Int)=0)then V (Na (az.mk a1.aG.bD a1.aG.fN a1.aG.ax))else V G else V G else V G else V G else V G with|I=>I|V r8=>V (r8)else bif J (a1.cg=6)then match bif r1 then bif a2 then bif J (a1.dM=0)then bif J (a1.fN=0)then bif Na (az.mk a1.aG.bD a1.aG.fN a1.aG.ax)then match al4 a1.aR with|I=>I|V r9=>V (r9)else V G else V G else V G else V G else V G with|I=>I|V r10=>V (r10)else V G
def atC:=eL vi 223 G (lc (qg 26) (lc (qg 166) (lc qb ln))) d223 (λg=>Sw g.1 g.2.1 g.t.1)
def alv:EO atC:=λh=>kL (F:=ayT) (an:=(noTwo (.two (.rb [272,273] 7) (.two (.rb [272,273] 8) (.two (noTwo (noTwo (.two (.two (.rb [272,273] 6) .no) (noTwo (.two (.two (.rb [272,273] 6) .no) (noTwo (.two (.two (.rb [272,273] 6) .no) (noTwo (.two (.two (.rb [272,273] 6) .no) (noTwo (.two (.two (.rb [272,273] 6) .no) (noTwo (.two (.two (.rb [272,273] 6) .no) (noTwo (.two (.two (.rb [272,273] 6) .no) .no))))))))))))))) .no))))) (l:=[(.skip,(.rb [272,273] 7)),(.skip,(.rb [272,273] 8)),(.skip,(.rb [272,273] 6)),(.skip,(.rb [272,273] 6)),(.skip,(.rb [272,273] 6)),(.skip,(.rb [272,273] 6)),(.skip,(.rb [272,273] 6)),(.skip,(.rb [272,273] 6)),(.skip,(.rb [272,273] 6))]) func223 (ala (ahE aV)) (aA Av (aA Av (aA Av (aA Av (aA Av (aA Av (aA Av (aA Av (aA Av aH))))))))) h
def XC:EP atC:=λh=>kP h
abbrev oZ:=Int
def d143:Td 0 oZ:= .c [] [6] (.r 0 0 (ec 6 aN en) sn (λz=>z.1.1) (λx=>((x,()),(()))))
def asl:=(lc (qg 26) (lc (ql 166) (lc qb ln)))
def ajc(M:aS->(aa aC)->Bool->af oZ):bq->bq:=eL vi 143 G asl d143 (λg=>M g.1 g.2.1 g.2.2.1)
def X4{M:aS->(aa aC)->Bool->af oZ}{F:bq}{f:Nat}(h:bz F f):bz (ajc M F) f:=gu h (λ_=>aW)
def aho(M:aS->(aa aC)->Bool->af oZ):Prop:=HL vi 143 asl d143 (λg=>M g.1 g.2.1 g.2.2.1)
def U9{M:aS->(aa aC)->Bool->af oZ}(hM:aho M){F:bq}(h:bA vi F):bA vi (ajc M F):=ew (sc:=oF) di hM ⟨_,func143,aW,aW⟩ (λ_=>aW) (λ_=>aW) h
def aiW(M143:aS->(aa aC)->Bool->af oZ):bq:=(atC (ajc M143 (ahD dw)))
def anr{M143}(h143:aho M143):bA vi (aiW M143):=(alv (U9 h143 (WH aV)))
structure BS where
 t1:List aC
 t2:Bool
 t7:Int
 b0:aS
def Rn:Td 0 BS:= .c [] [1,2,3,7] (.r 0 1 (ec 1 (ql 166) (ec 2 qb (ec 3 (qp 0 0) (ec 7 aN en)))) (sb 0 26 (lg 26) sn) (λz=>⟨z.1.1,z.1.2.1,z.1.t.2.1,z.2.1⟩) (λx=>((x.t1,x.t2,(),x.t7,()),(x.b0,()))))
def BU(M143:aS->(aa aC)->Bool->af oZ)(p:BS):af (af BS):=
 bif J (p.t7<zR p.t1)then if 0<=p.t7/\p.t7<zR p.t1 then match bif p.t2 then match Sw p.b0 (aC.mk p.t1[zD p.t7]!.cg p.t1[zD p.t7]!.bh p.t1[zD p.t7]!.dM p.t1[zD p.t7]!.fN (az.mk p.t1[zD p.t7]!.aG.bD p.t1[zD p.t7]!.aG.fN p.t1[zD p.t7]!.aG.ax) p.t1[zD p.t7]!.aQ p.t1[zD p.t7]!.aX p.t1[zD p.t7]!.aR) (J (((p.t1,p.t2,(),p.t7,()),p.b0,()).fst.snd.snd.snd.fst=aj ((↑((p.t1,p.t2,(),p.t7,()),p.b0,()).fst.fst.length:Int)-1)))with|I=>I|V r1=>V (bif r1 then G else O)else match Sw p.b0 (aC.mk p.t1[zD p.t7]!.cg p.t1[zD p.t7]!.bh p.t1[zD p.t7]!.dM p.t1[zD p.t7]!.fN (az.mk p.t1[zD p.t7]!.aG.bD p.t1[zD p.t7]!.aG.fN p.t1[zD p.t7]!.aG.ax) p.t1[zD p.t7]!.aQ p.t1[zD p.t7]!.aX p.t1[zD p.t7]!.aR) G with|I=>I|V r2=>V (bif r2 then G else O)with|I=>I|V r3=>bif r3 then V (I)else bif J (p.t1[zD p.t7]!.cg=2)then match bif J (p.t1[zD p.t7]!.bh<0)then V O else bif J (67108864<p.t1[zD p.t7]!.bh)then V O else bif J (p.t1[zD p.t7]!.fN<0)then V O else bif J (p.t1[zD p.t7]!.cg=4)then V (J (4096<p.t1[zD p.t7]!.fN))else V G with|I=>I|V r4=>bif r4 then V (I)else match bif J (0<(↑p.t1[zD p.t7]!.aR.length:Int))then if 0<=aj ((↑p.t1[zD p.t7]!.aR.length:Int)-(1:Int))/\aj ((↑p.t1[zD p.t7]!.aR.length:Int)-(1:Int))<(↑p.t1[zD p.t7]!.aR.length:Int)then V (J (67108864<((p.t1,p.t2,(),p.t7,()),p.b0,()).fst.fst[((p.t1,p.t2,(),p.t7,()),p.b0,()).fst.snd.snd.snd.fst.toNat]!.aR[(aj ((↑((p.t1,p.t2,(),p.t7,()),p.b0,()).fst.fst[((p.t1,p.t2,(),p.t7,()),p.b0,()).fst.snd.snd.snd.fst.toNat]!.aR.length:Int)-1)).toNat]!))else I else V G with|I=>I|V r5=>bif r5 then V (I)else match IL p.b0.ai (az.mk p.t1[zD p.t7]!.aG.bD p.t1[zD p.t7]!.aG.fN p.t1[zD p.t7]!.aG.ax) G with|I=>I|V r6=>bif bif J (r6=0)then G else O then V (I)else match M143 p.b0 p.t1[zD p.t7]!.aQ G with|I=>I|V r7=>bif bif J (r7=0)then G else O then V (I)else match M143 p.b0 p.t1[zD p.t7]!.aX G with|I=>I|V r8=>bif bif J (r8=0)then G else O then V (I)else V (V (BS.mk p.t1 p.t2 (aj (p.t7+1)) p.b0))else match bif J (p.t1[zD p.t7]!.bh<0)then V O else bif J (10000<p.t1[zD p.t7]!.bh)then V O else bif J (p.t1[zD p.t7]!.fN<0)then V O else bif J (p.t1[zD p.t7]!.cg=4)then V (J (4096<p.t1[zD p.t7]!.fN))else V G with|I=>I|V r9=>bif r9 then V (I)else match bif J (0<(↑p.t1[zD p.t7]!.aR.length:Int))then if 0<=aj ((↑p.t1[zD p.t7]!.aR.length:Int)-(1:Int))/\aj ((↑p.t1[zD p.t7]!.aR.length:Int)-(1:Int))<(↑p.t1[zD p.t7]!.aR.length:Int)then V (J (67108864<((p.t1,p.t2,(),p.t7,()),p.b0,()).fst.fst[((p.t1,p.t2,(),p.t7,()),p.b0,()).fst.snd.snd.snd.fst.toNat]!.aR[(aj ((↑((p.t1,p.t2,(),p.t7,()),p.b0,()).fst.fst[((p.t1,p.t2,(),p.t7,()),p.b0,()).fst.snd.snd.snd.fst.toNat]!.aR.length:Int)-1)).toNat]!))else I else V G with|I=>I|V r10=>bif r10 then V (I)else match IL p.b0.ai (az.mk p.t1[zD p.t7]!.aG.bD p.t1[zD p.t7]!.aG.fN p.t1[zD p.t7]!.aG.ax) G with|I=>I|V r11=>bif bif J (r11=0)then G else O then V (I)else match M143 p.b0 p.t1[zD p.t7]!.aQ G with|I=>I|V r12=>bif bif J (r12=0)then G else O then V (I)else match M143 p.b0 p.t1[zD p.t7]!.aX G with|I=>I|V r13=>bif bif J (r13=0)then G else O then V (I)else V (V (BS.mk p.t1 p.t2 (aj (p.t7+1)) p.b0))else I else V (I)
def ab7(M143:aS->(aa aC)->Bool->af oZ):An:=(noTwo (.two (noTwo (.two (.two (.rb [223] 32) .no) (noTwo (noTwo (.two (.two (.rb [223] 59) .no) (.two (.two (.rb [223] 74) .no) .no)))))) .no))
def LJ(M143:aS->(aa aC)->Bool->af oZ):=bI (BU M143)
def an4(M143:aS->(aa aC)->Bool->af oZ):An:=(noTwo (.two (noTwo (Rn.lp (LJ M143) (ab7 M143))) .no))
def aaH{M143}:∀f∈([223]:aa Nat),bz (aiW M143) f:=(aA (XC (X4 (ZB bF))) aH)
def ayy(M143:aS->(aa aC)->Bool->af oZ):fe vi (aiW M143) 0 300 143 (an4 M143):=b6 (l:=[(aZ f143 0,(Rn.lp (LJ M143) (ab7 M143))),(.skip,(.rb [223] 32)),(.skip,(.rb [223] 59)),(.skip,(.rb [223] 74))]) func143 (bM aW) aW (aA (aO Rn) (aA aaH (aA aaH (aA aaH aH))))
def ah6(M143:aS->(aa aC)->Bool->af oZ)(a0:aS)(a1:aa aC)(a2:Bool):af oZ:=
 match LJ M143 (BS.mk a1 a2 0 a0)with|I=>I|V r14=>bif J (r14.t7<zR r14.t1)then if 0<=r14.t7/\r14.t7<zR r14.t1 then match bif r14.t2 then match Sw r14.b0 (aC.mk r14.t1[zD r14.t7]!.cg r14.t1[zD r14.t7]!.bh r14.t1[zD r14.t7]!.dM r14.t1[zD r14.t7]!.fN (az.mk r14.t1[zD r14.t7]!.aG.bD r14.t1[zD r14.t7]!.aG.fN r14.t1[zD r14.t7]!.aG.ax) r14.t1[zD r14.t7]!.aQ r14.t1[zD r14.t7]!.aX r14.t1[zD r14.t7]!.aR) (J (((r14.t1,r14.t2,(),r14.t7,()),r14.b0,()).fst.snd.snd.snd.fst=aj ((↑((r14.t1,r14.t2,(),r14.t7,()),r14.b0,()).fst.fst.length:Int)-1)))with|I=>I|V r15=>V (bif r15 then G else O)else match Sw r14.b0 (aC.mk r14.t1[zD r14.t7]!.cg r14.t1[zD r14.t7]!.bh r14.t1[zD r14.t7]!.dM r14.t1[zD r14.t7]!.fN (az.mk r14.t1[zD r14.t7]!.aG.bD r14.t1[zD r14.t7]!.aG.fN r14.t1[zD r14.t7]!.aG.ax) r14.t1[zD r14.t7]!.aQ r14.t1[zD r14.t7]!.aX r14.t1[zD r14.t7]!.aR) G with|I=>I|V r16=>V (bif r16 then G else O)with|I=>I|V r17=>bif r17 then V 1 else bif J (r14.t1[zD r14.t7]!.cg=2)then match bif J (r14.t1[zD r14.t7]!.bh<0)then V O else bif J (67108864<r14.t1[zD r14.t7]!.bh)then V O else bif J (r14.t1[zD r14.t7]!.fN<0)then V O else bif J (r14.t1[zD r14.t7]!.cg=4)then V (J (4096<r14.t1[zD r14.t7]!.fN))else V G with|I=>I|V r18=>bif r18 then V 3 else match bif J (0<(↑r14.t1[zD r14.t7]!.aR.length:Int))then if 0<=aj ((↑r14.t1[zD r14.t7]!.aR.length:Int)-(1:Int))/\aj ((↑r14.t1[zD r14.t7]!.aR.length:Int)-(1:Int))<(↑r14.t1[zD r14.t7]!.aR.length:Int)then V (J (67108864<((r14.t1,r14.t2,(),r14.t7,()),r14.b0,()).fst.fst[((r14.t1,r14.t2,(),r14.t7,()),r14.b0,()).fst.snd.snd.snd.fst.toNat]!.aR[(aj ((↑((r14.t1,r14.t2,(),r14.t7,()),r14.b0,()).fst.fst[((r14.t1,r14.t2,(),r14.t7,()),r14.b0,()).fst.snd.snd.snd.fst.toNat]!.aR.length:Int)-1)).toNat]!))else I else V G with|I=>I|V r19=>bif r19 then V 3 else match IL r14.b0.ai (az.mk r14.t1[zD r14.t7]!.aG.bD r14.t1[zD r14.t7]!.aG.fN r14.t1[zD r14.t7]!.aG.ax) G with|I=>I|V r20=>bif bif J (r20=0)then G else O then V (r20)else match M143 r14.b0 r14.t1[zD r14.t7]!.aQ G with|I=>I|V r21=>bif bif J (r21=0)then G else O then V (r21)else match M143 r14.b0 r14.t1[zD r14.t7]!.aX G with|I=>I|V r22=>bif bif J (r22=0)then G else O then V (r22)else I else match bif J (r14.t1[zD r14.t7]!.bh<0)then V O else bif J (10000<r14.t1[zD r14.t7]!.bh)then V O else bif J (r14.t1[zD r14.t7]!.fN<0)then V O else bif J (r14.t1[zD r14.t7]!.cg=4)then V (J (4096<r14.t1[zD r14.t7]!.fN))else V G with|I=>I|V r23=>bif r23 then V 3 else match bif J (0<(↑r14.t1[zD r14.t7]!.aR.length:Int))then if 0<=aj ((↑r14.t1[zD r14.t7]!.aR.length:Int)-(1:Int))/\aj ((↑r14.t1[zD r14.t7]!.aR.length:Int)-(1:Int))<(↑r14.t1[zD r14.t7]!.aR.length:Int)then V (J (67108864<((r14.t1,r14.t2,(),r14.t7,()),r14.b0,()).fst.fst[((r14.t1,r14.t2,(),r14.t7,()),r14.b0,()).fst.snd.snd.snd.fst.toNat]!.aR[(aj ((↑((r14.t1,r14.t2,(),r14.t7,()),r14.b0,()).fst.fst[((r14.t1,r14.t2,(),r14.t7,()),r14.b0,()).fst.snd.snd.snd.fst.toNat]!.aR.length:Int)-1)).toNat]!))else I else V G with|I=>I|V r24=>bif r24 then V 3 else match IL r14.b0.ai (az.mk r14.t1[zD r14.t7]!.aG.bD r14.t1[zD r14.t7]!.aG.fN r14.t1[zD r14.t7]!.aG.ax) G with|I=>I|V r25=>bif bif J (r25=0)then G else O then V (r25)else match M143 r14.b0 r14.t1[zD r14.t7]!.aQ G with|I=>I|V r26=>bif bif J (r26=0)then G else O then V (r26)else match M143 r14.b0 r14.t1[zD r14.t7]!.aX G with|I=>I|V r27=>bif bif J (r27=0)then G else O then V (r27)else I else I else V 0
def aEo(M143:aS->(aa aC)->Bool->af oZ)(a0:aS)(a1:aa aC)(a2:Bool):bV vi (aiW M143) 300 (an4 M143) 143 (asl.c (a0,a1,a2,())) [] 0 d143.rd=ah6 M143 a0 a1 a2:=aW
def anL:Nat->(aS->(aa aC)->Bool->af oZ)
 |0=>(λ_ _ _=>I)
 |n+1=>(ah6 (anL n))
def Tp(n:Nat):aS->(aa aC)->Bool->af oZ:=(anL n)
def Pr:∀n,aho (Tp n)
 |0=>λ_ _ h=>(by cases h)
 |n+1=>by
  have ih:=Pr n;have i143:=ih;exact(dR (anr i143) (ayy (Tp n)) (λ_=>aW) (λ_=>aW) λg=>aEo (Tp n) g.1 g.2.1 g.2.2.1)
def anm:aS->(aa aC)->Bool->af oZ:=λa0 a1 a2=>lim (λn=>Tp n a0 a1 a2)
def akD:aho anm:=λg b h=>by
 obtain⟨n,hn⟩:=dD (show lim (λn=>Tp n g.1 g.2.1 g.2.2.1)=V b from h);exact(Pr n) g b hn
def ayY(F:bq):bq:=ajc anm F
def amp{F:bq}(h:bA vi F):bA vi (ayY F):=U9 akD h
def F78:bq:=(ayY (ahD (ai5 (ai1 (aAy (az8 (e90 dw)))))))
structure HQ where
 (t4 t6:Int)
 b0:aS
 b1:dF
def aeb:Td 0 HQ:= .c [] [1,4,5,6] (.r 0 2 (ec 1 (qp 0 0) (ec 4 aN (ec 5 (qp 1 0) (ec 6 aN en)))) (sb 0 26 (lg 26) (sb 1 139 (lg 139) sn)) (λz=>⟨z.1.2.1,z.1.t.2.1,z.2.1,z.t.1⟩) (λx=>(((),x.t4,(),x.t6,()),(x.b0,x.b1,()))))
def WT(p:HQ):af (af HQ):=
 bif J (p.t6<p.t4)then if 0<=p.t6/\p.t6<zR p.b0.au then bif p.b0.au[zD p.t6]!.fName.toList==p.b1.fName.toList then V (I)else V (V (HQ.mk p.t4 (aj (p.t6+1)) p.b0 (dF.mk p.b1.fName p.b1.ah p.b1.ag (az.mk p.b1.aG.bD p.b1.aG.fN p.b1.aG.ax))))else I else V (I)
def Og:=bI (WT)
structure M9 where
 t4:Int
 b0:aS
def aad:Td 0 M9:= .c [] [1,4] (.r 0 1 (ec 1 (qp 0 0) (ec 4 aN en)) (sb 0 26 (lg 26) sn) (λz=>⟨z.1.2.1,z.2.1⟩) (λx=>(((),x.t4,()),(x.b0,()))))
def HT(p:M9):af (af M9):=
 bif J (p.t4<zR p.b0.au)then if 0<=p.t4/\p.t4<zR p.b0.au then match TJ p.b0.au[zD p.t4]!.fName with|I=>I|V r1=>bif bif r1 then G else O then V (I)else match Og (HQ.mk p.t4 0 p.b0 (dF.mk p.b0.au[zD p.t4]!.fName p.b0.au[zD p.t4]!.ah p.b0.au[zD p.t4]!.ag (az.mk p.b0.au[zD p.t4]!.aG.bD p.b0.au[zD p.t4]!.aG.fN p.b0.au[zD p.t4]!.aG.ax)))with|I=>I|V r2=>bif J (r2.t6<r2.t4)then if 0<=r2.t6/\r2.t6<zR r2.b0.au then bif r2.b0.au[zD r2.t6]!.fName.toList==r2.b1.fName.toList then V (I)else I else I else bif bif JZ r2.b1.ah r2.b1.ag then G else O then V (I)else match IL r2.b0.ai (az.mk r2.b1.aG.bD r2.b1.aG.fN r2.b1.aG.ax) O with|I=>I|V r3=>bif bif J (r3=0)then G else O then V (I)else V (V (M9.mk (aj (r2.t4+1)) r2.b0))else I else V (I)
def apJ:An:=(noTwo (.two (noTwo (noTwo (.two (noTwo (aeb.lp Og .no)) .no))) .no))
def Wy:=bI (HT)
abbrev E78:=Int
def d78:Td 0 E78:= .c [] [2] (.r 0 0 (ec 2 aN en) sn (λz=>z.1.1) (λx=>((x,()),(()))))
def aFQ:∀f∈([]:aa Nat),bz (F78) f:=aH
def m78(a0:aS):af E78:=
 match al7 a0 with|I=>I|V r4=>bif bif r4 then G else O then V 4 else match amC a0.ai with|I=>I|V r5=>bif bif J (r5=0)then G else O then V (r5)else match Wy (M9.mk 0 a0)with|I=>I|V r6=>bif J (r6.t4<zR r6.b0.au)then if 0<=r6.t4/\r6.t4<zR r6.b0.au then match TJ r6.b0.au[zD r6.t4]!.fName with|I=>I|V r7=>bif bif r7 then G else O then V 7 else match Og (HQ.mk r6.t4 0 r6.b0 (dF.mk r6.b0.au[zD r6.t4]!.fName r6.b0.au[zD r6.t4]!.ah r6.b0.au[zD r6.t4]!.ag (az.mk r6.b0.au[zD r6.t4]!.aG.bD r6.b0.au[zD r6.t4]!.aG.fN r6.b0.au[zD r6.t4]!.aG.ax)))with|I=>I|V r8=>bif J (r8.t6<r8.t4)then if 0<=r8.t6/\r8.t6<zR r8.b0.au then bif r8.b0.au[zD r8.t6]!.fName.toList==r8.b1.fName.toList then V 8 else I else I else bif bif JZ r8.b1.ah r8.b1.ag then G else O then V 3 else match IL r8.b0.ai (az.mk r8.b1.aG.bD r8.b1.aG.fN r8.b1.aG.ax) O with|I=>I|V r9=>bif bif J (r9=0)then G else O then V (r9)else I else I else match anm r6.b0 r6.b0.bK O with|I=>I|V r10=>bif bif J (r10=0)then G else O then V (r10)else match r90 r6.b0.bK with|I=>I|V r11=>match bif J (4096<r11.fst)then V O else bif J (8<r11.snd.fst)then V O else V (J (67108864<r11.snd.snd))with|I=>I|V r12=>bif r12 then V 4 else V 0
def e78:=eL vi 78 G (lc (qg 26) ln) d78 (λg=>m78 g.1)
def acG:EO e78:=λh=>kL (F:=F78) (an:=(noTwo (noTwo (noTwo (noTwo (.two (noTwo (aad.lp Wy apJ)) (noTwo (noTwo (noTwo (.two (.two (.rb [] 86) .no) .no)))))))))) (l:=[(aZ f78 0,(aad.lp Wy apJ)),(aZ f78 1,(aeb.lp Og .no)),(.skip,(.rb [] 86))]) func78 (amp (WH (Xt (W4 (ajX (aiy (abt aV))))))) (aA (aO aad) (aA (aO aeb) (aA aFQ aH))) h
def Ab:EP e78:=λh=>kP h
def aBx:bq:=dw
abbrev azw:=aL
def d103:Td 0 azw:= .c [] [0] (.r 0 1 (ec 0 (qp 0 0) en) (sb 0 34 (lg 34) sn) (λz=>z.2.1) (λx=>(((),()),(x,()))))
def axG:=ln
def an8:An:= .no
def rN:azw:=
 aL.mk (1) (0) (0)
def aFn:bV vi (aBx) 300 (an8) 103 (axG.c ()) [] 0 d103.rd=V (rN):=aW
def Ko:=eL vi 103 G axG d103 (λ_=>V (rN))
def lu:EO Ko:=λh=>kL (F:=aBx) (an:=an8) func103 aV aH h (c:=λ_=>aFn)
def je:EP Ko:=λh=>kP h
def ash:bq:=dw
abbrev aqZ:=Bool
def d162:Td 0 aqZ:= .c [] [2] (.r 0 0 (ec 2 qb en) sn (λz=>z.1.1) (λx=>((x,()),(()))))
def awb:=(aU ln)
def aov:An:=(noTwo (.two (.rb [] 2) .no))
def ayJ:∀f∈([]:aa Nat),bz (ash) f:=aH
def pq(a0:Int):aqZ:=
 let r1:Bool:=bif J (-1099511627776<=a0)then J (a0<=1099511627776)else G;r1
def aGe(a0:Int):bV vi (ash) 300 (aov) 162 (awb.c (a0,())) [] 0 d162.rd=V (pq a0):=by
 refine Eq.trans (b:=(
  match bif J (-1099511627776<=a0)then V (J (a0<=1099511627776))else V (G)with|I=>I|V r1=>V (r1):af aqZ)) aW ?_
 simp only[pq,cu,cQ]
def abo:=eL vi 162 G awb d162 (λg=>V (pq g.1))
def sF:EO abo:=λh=>kL (F:=ash) (an:=aov) (l:=[(.skip,(.rb [] 2))]) func162 aV (aA ayJ aH) h (c:=λg=>aGe g.1)
def A5:EP abo:=λh=>kP h
def F84:bq:=(abo (Ko dw))
abbrev E84:=Bool
def d84:Td 0 E84:= .c [] [2] (.r 0 0 (ec 2 qb en) sn (λz=>z.1.1) (λx=>((x,()),(()))))
def aDd:∀f∈([162]:aa Nat),bz (F84) f:=(aA (A5 (je bF)) aH)
def ZF(a0:aL):af E84:=
 bif bif J (a0.ah=rN.ah)then bif J (a0.ag=rN.ag)then bif J (a0.ak=rN.ak)then O else G else G else G then V O else match bif bif pq a0.ah then G else O then V O else V (bif pq a0.ag then G else O)with|I=>I|V r1=>bif r1 then V G else bif J (a0.ah=a0.ag)then V (J (a0.ak=0))else match bif J (a0.ah<a0.ag)then bif J (1<=a0.ak)then if¬a0.ak=0then V (J ((aj (a0.ag-a0.ah)).tmod a0.ak=0))else I else V G else V G with|I=>I|V r2=>V (r2)
def e84:=eL vi 84 G (lc (qg 34) ln) d84 (λg=>ZF g.1)
def uo:EO e84:=λh=>kL (F:=F84) (an:=(noTwo (noTwo (.two (.two (.rb [162] 15) .no) (noTwo (.two (.rb [162] 2) .no)))))) (l:=[(.skip,(.rb [162] 15)),(.skip,(.rb [162] 2))]) func84 (sF (lu aV)) (aA aDd (aA aDd aH)) h
def iQ:EP e84:=λh=>kP h
def F32:bq:=(e84 dw)
abbrev E32:=Bool
def d32:Td 0 E32:= .c [] [4] (.r 0 0 (ec 4 qb en) sn (λz=>z.1.1) (λx=>((x,()),(()))))
def pu32:∀f∈([84]:aa Nat),bz (F32) f:=(aA (iQ bF) aH)
def m32(a0:aL)(a1:Int):af E32:=
 match match ZF a0 with|I=>I|V r1=>bif bif r1 then G else O then V O else bif J (a1<a0.ah)then V O else V (J (a0.ag<a1))with|I=>I|V r2=>bif r2 then V G else match bif J (a0.ak=0)then V O else if¬a0.ak=0then V (J ((aj (a1-a0.ah)).tmod a0.ak=0))else I with|I=>I|V r3=>V (r3)
def e32:=eL vi 32 G (lc (qg 34) (aU ln)) d32 (λg=>m32 g.1 g.2.1)
def DP:EO e32:=λh=>kL (F:=F32) (an:=(noTwo (.two (.two (.rb [84] 19) .no) (.two (.rb [84] 4) .no)))) (l:=[(.skip,(.rb [84] 19)),(.skip,(.rb [84] 4))]) func32 (uo aV) (aA pu32 (aA pu32 aH)) h
def acE:EP e32:=λh=>kP h
abbrev E36:=aL
def d36:Td 0 E36:= .c [] [2] (.r 0 1 (ec 2 (qp 0 0) en) (sb 0 34 (lg 34) sn) (λz=>z.2.1) (λx=>(((),()),(x,()))))
def m36(a0:Int):E36:=
 aL.mk a0 a0 (0)
def e36:=eL vi 36 G (aU ln) d36 (λg=>V (m36 g.1))
def LO:EO e36:=λh=>kL (an:= .no) func36 aV aH h
def ay2:bq:=(abo (Ko dw))
abbrev azr:=aL×Int
def d101:Td 0 azr:= .c [] [6,7] (.r 0 1 (ec 6 (qp 0 0) (ec 7 aN en)) (sb 0 34 (lg 34) sn) (λz=>(z.2.1,z.1.2.1)) (λx=>(((),x.2,()),(x.1,()))))
def aBI:∀f∈([162]:aa Nat),bz (ay2) f:=(aA (A5 (je bF)) aH)
def jm(a0:Int)(a1:Int)(a2:Int):af azr:=
 match bif bif pq a0 then G else O then V O else bif bif pq a1 then G else O then V O else V (J (a2<1))with|I=>I|V r1=>bif r1 then V (aL.mk 0 0 0,3)else bif J (a1<a0)then V (rN,0)else if¬a2=0then bif J (a0=aj (a0+aj (aj ((aj (a1-a0)).tdiv a2)*a2)))then V ((aL.mk a0 (aj (a0+aj (aj ((aj (a1-a0)).tdiv a2)*a2))) 0,0))else V ((aL.mk a0 (aj (a0+aj (aj ((aj (a1-a0)).tdiv a2)*a2))) a2,0))else I
def Y8:=eL vi 101 G (aU (aU (aU ln))) d101 (λg=>jm g.1 g.2.1 g.t.1)
def Dc:EO Y8:=λh=>kL (F:=ay2) (an:=(noTwo (.two (.two (.rb [162] 19) .no) .no))) (l:=[(.skip,(.rb [162] 19))]) func101 (sF (lu aV)) (aA aBI aH) h
def oc:EP Y8:=λh=>kP h
abbrev azH:=Bool
def d102:Td 0 azH:= .c [] [2] (.r 0 0 (ec 2 qb en) sn (λz=>z.1.1) (λx=>((x,()),(()))))
def mb(a0:aL):azH:=
 J (a0.ag<a0.ah)
def NR:=eL vi 102 G (lc (qg 34) ln) d102 (λg=>V (mb g.1))
def mQ:EO NR:=λh=>kL (an:= .no) func102 aV aH h
def iy:EP NR:=λh=>kP h
def F41:bq:=(Ko (NR (Y8 dw)))
abbrev E41:=aL
def d41:Td 0 E41:= .c [] [4] (.r 0 1 (ec 4 (qp 0 0) en) (sb 0 34 (lg 34) sn) (λz=>z.2.1) (λx=>(((),()),(x,()))))
def aHa:∀f∈([102]:aa Nat),bz (F41) f:=(aA (je (iy (oc bF))) aH)
def m41(a0:aL)(a1:Int):af E41:=
 match bif mb a0 then V (O)else V (J (a1<a0.ah))with|I=>I|V r1=>bif r1 then V (rN)else bif J (a0.ag<=a1)then V (a0)else match jm a0.ah a1 a0.ak with|I=>I|V r2=>V (r2.fst)
def e41:=eL vi 41 G (lc (qg 34) (aU ln)) d41 (λg=>m41 g.1 g.2.1)
def ad7:EO e41:=λh=>kL (F:=F41) (an:=(noTwo (.two (.two (.rb [102] 14) .no) .no))) (l:=[(.skip,(.rb [102] 14))]) func41 (lu (mQ (Dc aV))) (aA aHa aH) h
def vn:EP e41:=λh=>kP h
def F42:bq:=(Ko (NR (Y8 dw)))
abbrev E42:=aL
def d42:Td 0 E42:= .c [] [4] (.r 0 1 (ec 4 (qp 0 0) en) (sb 0 34 (lg 34) sn) (λz=>z.2.1) (λx=>(((),()),(x,()))))
def aFH:∀f∈([102]:aa Nat),bz (F42) f:=(aA (je (iy (oc bF))) aH)
def ZC(a0:aL)(a1:Int):af E42:=
 match bif mb a0 then V O else V (J (a0.ag<=a1))with|I=>I|V r1=>bif r1 then V (rN)else bif J (a1<a0.ah)then V (a0)else if¬a0.ak=0then match jm (aj (a0.ah+aj (aj (aj ((aj (a1-a0.ah)).tdiv a0.ak)+1)*a0.ak))) a0.ag a0.ak with|I=>I|V r2=>V (r2.fst)else I
def e42:=eL vi 42 G (lc (qg 34) (aU ln)) d42 (λg=>ZC g.1 g.2.1)
def Tb:EO e42:=λh=>kL (F:=F42) (an:=(noTwo (.two (.two (.rb [102] 14) .no) .no))) (l:=[(.skip,(.rb [102] 14))]) func42 (lu (mQ (Dc aV))) (aA aFH aH) h
def vP:EP e42:=λh=>kP h
structure oA where
 (t0 t1:Int)
def To:Td 0 oA:= .c [] [0,1] (.r 0 0 (ec 0 aN (ec 1 aN en)) sn (λz=>⟨z.1.1,z.1.2.1⟩) (λx=>((x.t0,x.t1,()),(()))))
def tG(p:oA):af (af oA):=
 bif bif J (p.t1=0)then G else O then if¬p.t1=0then V (V (oA.mk p.t1 (p.t0.tmod p.t1)))else I else V (I)
def F5:=bI (tG)
abbrev aww:=Int
def d239:Td 0 aww:= .c [] [4] (.r 0 0 (ec 4 aN en) sn (λz=>z.1.1) (λx=>((x,()),(()))))
def C0(a0:Int)(a1:Int):af aww:=
 match F5 (oA.mk a0 a1)with|I=>I|V r1=>bif bif J (r1.t1=0)then G else O then if¬r1.t1=0then I else I else V (r1.t0)
def arG:=eL vi 239 G (aU (aU ln)) d239 (λg=>C0 g.1 g.2.1)
def Ml:EO arG:=λh=>kL (an:=(noTwo (.two (To.lp F5 .no) .no))) (l:=[(aZ f239 0,(To.lp F5 .no))]) func239 aV (aA (aO To) aH) h
def Zj:EP arG:=λh=>kP h
def aE7:bq:=dw
abbrev auu:=Int
def d240:Td 0 auu:= .c [] [4] (.r 0 0 (ec 4 aN en) sn (λz=>z.1.1) (λx=>((x,()),(()))))
def aBp:=(aU (aU ln))
def aoe:An:= .no
def jo(a0:Int)(a1:Int):auu:=
 bif J (a0<a1)then aj (a1-a0)else aj (a0-a1)
def aFk(a0:Int)(a1:Int):bV vi (aE7) 300 (aoe) 240 (aBp.c (a0,a1,())) [] 0 d240.rd=V (jo a0 a1):=by
 refine Eq.trans (b:=(
  bif J (a0<a1)then V (aj (a1-a0))else V (aj (a0-a1)):af auu)) aW ?_
 simp only[jo,cu,cQ]
def aaB:=eL vi 240 G aBp d240 (λg=>V (jo g.1 g.2.1))
def vN:EO aaB:=λh=>kL (an:=aoe) func240 aV aH h (c:=λg=>aFk g.1 g.2.1)
def nD:EP aaB:=λh=>kP h
structure jZ where
 t0:List Int
 t6:Int
 (b0 b1:aL)
def T2:Td 0 jZ:= .c [] [0,2,5,6] (.r 0 2 (ec 0 (ql 3) (ec 2 (qp 0 0) (ec 5 (qp 1 0) (ec 6 aN en)))) (sb 0 34 (lg 34) (sb 1 34 (lg 34) sn)) (λz=>⟨z.1.1,z.1.t.2.1,z.2.1,z.t.1⟩) (λx=>((x.t0,(),(),x.t6,()),(x.b0,x.b1,()))))
def tW(p:jZ):af (af jZ):=
 bif J (p.t6<zR p.t0)then if 0<=p.t6/\p.t6<zR p.t0 then if(0:Int)<=(0:Int)/\(0:Int)<zR p.t0 then match C0 p.b1.ak (jo p.t0[zD p.t6]! p.t0[0]!)with|I=>I|V r1=>if 0<=p.t6/\p.t6<zR p.t0 then bif J (((p.t0,(),(),p.t6,()),p.b0,p.b1,()).fst.fst[((p.t0,(),(),p.t6,()),p.b0,p.b1,()).fst.snd.snd.snd.fst.toNat]! <((p.t0,(),(),p.t6,()),p.b0,p.b1,()).snd.snd.fst.ah)then if 0<=p.t6/\p.t6<zR p.t0 then if 0<=p.t6/\p.t6<zR p.t0 then bif J (((p.t0,(),(),p.t6,()),p.b0,p.b1,()).snd.snd.fst.ag<((p.t0,(),(),p.t6,()),p.b0,p.b1,()).fst.fst[((p.t0,(),(),p.t6,()),p.b0,p.b1,()).fst.snd.snd.snd.fst.toNat]!)then if 0<=p.t6/\p.t6<zR p.t0 then V (V (jZ.mk p.t0 (aj (p.t6+1)) p.b0 (aL.mk p.t0[zD p.t6]! p.t0[zD p.t6]! r1)))else I else V (V (jZ.mk p.t0 (aj (p.t6+1)) p.b0 (aL.mk p.t0[zD p.t6]! p.b1.ag r1)))else I else I else if 0<=p.t6/\p.t6<zR p.t0 then bif J (((p.t0,(),(),p.t6,()),p.b0,p.b1,()).snd.snd.fst.ag<((p.t0,(),(),p.t6,()),p.b0,p.b1,()).fst.fst[((p.t0,(),(),p.t6,()),p.b0,p.b1,()).fst.snd.snd.snd.fst.toNat]!)then if 0<=p.t6/\p.t6<zR p.t0 then V (V (jZ.mk p.t0 (aj (p.t6+1)) p.b0 (aL.mk p.b1.ah p.t0[zD p.t6]! r1)))else I else V (V (jZ.mk p.t0 (aj (p.t6+1)) p.b0 (aL.mk p.b1.ah p.b1.ag r1)))else I else I else I else I else V (I)
def Lj:=bI (tW)
structure p9 where
 t0:List Int
 t4:Int
 b0:aL
def Ru:Td 0 p9:= .c [] [0,2,4] (.r 0 1 (ec 0 (ql 3) (ec 2 (qp 0 0) (ec 4 aN en))) (sb 0 34 (lg 34) sn) (λz=>⟨z.1.1,z.1.t.1,z.2.1⟩) (λx=>((x.t0,(),x.t4,()),(x.b0,()))))
def Bp(p:p9):af (af p9):=
 bif J (p.t4<zR p.t0)then if 0<=p.t4/\p.t4<zR p.t0 then bif bif pq p.t0[zD p.t4]! then G else O then V (I)else V (V (p9.mk p.t0 (aj (p.t4+1)) p.b0))else I else V (I)
def Jb:=bI (Bp)
abbrev aBe:=aL×Int
def d238:Td 0 aBe:= .c [] [2,3] (.r 0 1 (ec 2 (qp 0 0) (ec 3 aN en)) (sb 0 34 (lg 34) sn) (λz=>(z.2.1,z.1.2.1)) (λx=>(((),x.2,()),(x.1,()))))
def Zy(a0:aa Int):af aBe:=
 match Jb (p9.mk a0 0 (aL.mk 0 0 0))with|I=>I|V r2=>bif J (r2.t4<zR r2.t0)then if 0<=r2.t4/\r2.t4<zR r2.t0 then bif bif pq r2.t0[zD r2.t4]! then G else O then V (aL.mk 0 0 0,3)else I else I else bif J ((zR r2.t0:Int)=0)then V (rN,0)else if(0:Int)<=(0:Int)/\(0:Int)<zR r2.t0 then if(0:Int)<=(0:Int)/\(0:Int)<zR r2.t0 then match Lj (jZ.mk r2.t0 1 r2.b0 (aL.mk r2.t0[0]! r2.t0[0]! (0)))with|I=>I|V r3=>bif J (r3.t6<zR r3.t0)then if 0<=r3.t6/\r3.t6<zR r3.t0 then if(0:Int)<=(0:Int)/\(0:Int)<zR r3.t0 then match C0 r3.b1.ak (jo r3.t0[zD r3.t6]! r3.t0[0]!)with|I=>I|V r4=>if 0<=r3.t6/\r3.t6<zR r3.t0 then bif J (((r3.t0,(),(),r3.t6,()),r3.b0,r3.b1,()).fst.fst[((r3.t0,(),(),r3.t6,()),r3.b0,r3.b1,()).fst.snd.snd.snd.fst.toNat]! <((r3.t0,(),(),r3.t6,()),r3.b0,r3.b1,()).snd.snd.fst.ah)then if 0<=r3.t6/\r3.t6<zR r3.t0 then if 0<=r3.t6/\r3.t6<zR r3.t0 then bif J (((r3.t0,(),(),r3.t6,()),r3.b0,r3.b1,()).snd.snd.fst.ag<((r3.t0,(),(),r3.t6,()),r3.b0,r3.b1,()).fst.fst[((r3.t0,(),(),r3.t6,()),r3.b0,r3.b1,()).fst.snd.snd.snd.fst.toNat]!)then if 0<=r3.t6/\r3.t6<zR r3.t0 then I else I else I else I else I else if 0<=r3.t6/\r3.t6<zR r3.t0 then bif J (((r3.t0,(),(),r3.t6,()),r3.b0,r3.b1,()).snd.snd.fst.ag<((r3.t0,(),(),r3.t6,()),r3.b0,r3.b1,()).fst.fst[((r3.t0,(),(),r3.t6,()),r3.b0,r3.b1,()).fst.snd.snd.snd.fst.toNat]!)then if 0<=r3.t6/\r3.t6<zR r3.t0 then I else I else I else I else I else I else I else V (r3.b1,0)else I else I
def aFy:=eL vi 238 G (lc (ql 3) ln) d238 (λg=>Zy g.1)
def LB:EO aFy:=λh=>kL (an:=(noTwo (.two (noTwo (Ru.lp Jb .no)) (noTwo (noTwo (.two (noTwo (T2.lp Lj .no)) .no)))))) (l:=[(aZ f238 0,(Ru.lp Jb .no)),(aZ f238 1,(T2.lp Lj .no))]) func238 (vN (Ml (sF (lu aV)))) (aA (aO Ru) (aA (aO T2) aH)) h
abbrev ayq:=aL
def d163:Td 0 ayq:= .c [] [4] (.r 0 1 (ec 4 (qp 0 0) en) (sb 0 34 (lg 34) sn) (λz=>z.2.1) (λx=>(((),()),(x,()))))
def lE(a0:aL)(a1:aL):af ayq:=
 bif mb a0 then V (a1)else bif mb a1 then V (a0)else match Zy [a0.ah,a0.ag,a1.ah,a1.ag]with|I=>I|V r1=>bif J (r1.fst.ah<r1.fst.ag)then match C0 a0.ak a1.ak with|I=>I|V r2=>match C0 r2 (jo a0.ah a1.ah)with|I=>I|V r3=>V (aL.mk r1.fst.ah r1.fst.ag r3)else V (r1.fst)
def ad3:=eL vi 163 G (lc (qg 34) (lc (qg 34) ln)) d163 (λg=>lE g.1 g.2.1)
def sj:EO ad3:=λh=>kL (an:= .no) func163 (vN (Ml (LB (mQ aV)))) aH h
def sv:EP ad3:=λh=>kP h
def F86:bq:=(ad3 (abo (NR (e84 (e42 (e41 dw))))))
abbrev E86:=aL×Int
def d86:Td 0 E86:= .c [] [6,7] (.r 0 1 (ec 6 (qp 0 0) (ec 7 aN en)) (sb 0 34 (lg 34) sn) (λz=>(z.2.1,z.1.2.1)) (λx=>(((),x.2,()),(x.1,()))))
def aG5:∀f∈([162]:aa Nat),bz (F86) f:=(aA (sv (A5 (iy (iQ (vP (vn bF)))))) aH)
def m86(a0:aL)(a1:Int)(a2:Int):af E86:=
 match ZF a0 with|I=>I|V r1=>bif bif r1 then G else O then V ((aL.mk (0) (0) (0),1))else match bif bif pq a1 then G else O then V (O)else bif bif pq a2 then G else O then V (O)else V (J (a2<a1))with|I=>I|V r2=>bif r2 then V ((aL.mk (0) (0) (0),3))else match ZC a0 (aj (a1-1))with|I=>I|V r3=>match m41 r3 a2 with|I=>I|V r4=>match m41 a0 a1 with|I=>I|V r5=>bif bif mb r5 then G else O then match lE r4 (aL.mk a1 a1 (0))with|I=>I|V r6=>match ZC a0 a2 with|I=>I|V r7=>bif bif mb r7 then G else O then match lE r6 (aL.mk a2 a2 (0))with|I=>I|V r8=>V ((r8,0))else V ((r6,0))else match ZC a0 a2 with|I=>I|V r9=>bif bif mb r9 then G else O then match lE r4 (aL.mk a2 a2 (0))with|I=>I|V r10=>V ((r10,0))else V ((r4,0))
def e86:=eL vi 86 G (lc (qg 34) (aU (aU ln))) d86 (λg=>m86 g.1 g.2.1 g.t.1)
def Tm:EO e86:=λh=>kL (F:=F86) (an:=(noTwo (noTwo (.two (.two (.rb [162] 25) .no) .no)))) (l:=[(.skip,(.rb [162] 25))]) func86 (sj (sF (mQ (uo (Tb (ad7 aV)))))) (aA aG5 aH) h
def F43:bq:=(NR (e84 dw))
abbrev E43:=Int
def d43:Td 0 E43:= .c [] [2] (.r 0 0 (ec 2 aN en) sn (λz=>z.1.1) (λx=>((x,()),(()))))
def aHO:∀f∈([84,102]:aa Nat),bz (F43) f:=(aA (iy (iQ bF)) (aA (iy (iQ bF)) aH))
def sS(a0:aL):af E43:=
 match match ZF a0 with|I=>I|V r1=>bif bif r1 then G else O then V O else V (mb a0)with|I=>I|V r2=>bif r2 then V 0 else bif J (a0.ak=0)then V 1 else if¬a0.ak=0then V (aj (aj ((aj (a0.ag-a0.ah)).tdiv a0.ak)+1))else I
def e43:=eL vi 43 G (lc (qg 34) ln) d43 (λg=>sS g.1)
def oq:EO e43:=λh=>kL (F:=F43) (an:=(noTwo (.two (.two (.rb [84,102] 9) .no) .no))) (l:=[(.skip,(.rb [84,102] 9))]) func43 (mQ (uo aV)) (aA aHO aH) h
def lU:EP e43:=λh=>kP h
abbrev aCE:=Bool×Bool
def d165:Td 0 aCE:= .c [] [2,3] (.r 0 0 (ec 2 qb (ec 3 qb en)) sn (λz=>(z.1.1,z.1.2.1)) (λx=>((x.1,x.2,()),(()))))
def FH(a0:aL):af aCE:=
 match m32 a0 (0)with|I=>I|V r1=>match sS a0 with|I=>I|V r2=>bif J (1<r2)then V ((r1,O))else match sS a0 with|I=>I|V r3=>bif J (r3=1)then V ((r1,bif r1 then G else O))else V ((r1,G))
def Ya:=eL vi 165 G (lc (qg 34) ln) d165 (λg=>FH g.1)
def vY:EO Ya:=λh=>kL (an:= .no) func165 (oq (DP aV)) aH h
def Zd:EP Ya:=λh=>kP h
def arL:bq:=dw
abbrev atz:=aL
def d241:Td 0 atz:= .c [] [4] (.r 0 1 (ec 4 (qp 0 0) en) (sb 0 34 (lg 34) sn) (λz=>z.2.1) (λx=>(((),()),(x,()))))
def aAu:=(lc qb (lc qb ln))
def aow:An:=(noTwo (.two (.two (.rb [] 8) .no) .no))
def az0:∀f∈([]:aa Nat),bz (arL) f:=aH
def jr(a0:Bool)(a1:Bool):atz:=
 let r1:Bool:=bif a0 then a1 else G;bif r1 then aL.mk (0) (1) (1)else bif a1 then aL.mk (1) (1) (0)else aL.mk (0) (0) (0)
def aEA(a0:Bool)(a1:Bool):bV vi (arL) 300 (aow) 241 (aAu.c (a0,a1,())) [] 0 d241.rd=V (jr a0 a1):=by
 refine Eq.trans (b:=(
  match bif a0 then V (a1)else V (G)with|I=>I|V r1=>bif r1 then V (aL.mk (0) (1) (1))else bif a1 then V (aL.mk (1) (1) (0))else V (aL.mk (0) (0) (0)):af atz)) aW ?_
 simp only[jr,cu,cQ]
def auO:=eL vi 241 G aAu d241 (λg=>V (jr g.1 g.2.1))
def V6:EO auO:=λh=>kL (F:=arL) (an:=aow) (l:=[(.skip,(.rb [] 8))]) func241 aV (aA az0 aH) h (c:=λg=>aEA g.1 g.2.1)
def Yj:EP auO:=λh=>kP h
def axX:bq:=(auO (Ya (Ko (NR (e84 dw)))))
abbrev aCI:=aL×Int
def d164:Td 0 aCI:= .c [] [4,5] (.r 0 1 (ec 4 (qp 0 0) (ec 5 aN en)) (sb 0 34 (lg 34) sn) (λz=>(z.2.1,z.1.2.1)) (λx=>(((),x.2,()),(x.1,()))))
def aAD:∀f∈([84]:aa Nat),bz (axX) f:=(aA (Yj (Zd (je (iy (iQ bF))))) aH)
def abz(a0:Int)(a1:aL):af aCI:=
 match match ZF a1 with|I=>I|V r1=>bif bif r1 then G else O then V (O)else bif bif J (a0=6)then G else O then V (bif J (a0=7)then G else O)else V (G)with|I=>I|V r2=>bif r2 then V ((aL.mk (0) (0) (0),1))else bif mb a1 then V ((rN,0))else bif J (a0=6)then V ((aL.mk (aj (0-a1.ag)) (aj (0-a1.ah)) a1.ak,0))else match FH a1 with|I=>I|V r3=>V ((jr r3.snd r3.fst,0))
def ay9:=eL vi 164 G (aU (lc (qg 34) ln)) d164 (λg=>abz g.1 g.2.1)
def aj7:EO ay9:=λh=>kL (F:=axX) (an:=(noTwo (.two (.two (.rb [84] 18) .no) .no))) (l:=[(.skip,(.rb [84] 18))]) func164 (V6 (vY (lu (mQ (uo aV))))) (aA aAD aH) h
def aHC:bq:=dw
abbrev asY:=Bool
def d242:Td 0 asY:= .c [] [2] (.r 0 0 (ec 2 qb en) sn (λz=>z.1.1) (λx=>((x,()),(()))))
def awY:=(aU ln)
def aoz:An:= .no
def GR(a0:Int):asY:=
 bif J (a0=8)then O else bif J (a0=9)then O else bif J (a0=10)then O else bif J (a0=11)then O else bif J (a0=12)then O else bif J (a0=13)then O else bif J (a0=14)then O else bif J (a0=15)then O else bif J (a0=16)then O else bif J (a0=17)then O else bif J (a0=18)then O else bif J (a0=19)then O else bif J (a0=20)then O else bif J (a0=21)then O else bif J (a0=22)then O else G
def aF9(a0:Int):bV vi (aHC) 300 (aoz) 242 (awY.c (a0,())) [] 0 d242.rd=V (GR a0):=by
 refine Eq.trans (b:=(
  bif J (a0=8)then V (O)else bif J (a0=9)then V (O)else bif J (a0=10)then V (O)else bif J (a0=11)then V (O)else bif J (a0=12)then V (O)else bif J (a0=13)then V (O)else bif J (a0=14)then V (O)else bif J (a0=15)then V (O)else bif J (a0=16)then V (O)else bif J (a0=17)then V (O)else bif J (a0=18)then V (O)else bif J (a0=19)then V (O)else bif J (a0=20)then V (O)else bif J (a0=21)then V (O)else bif J (a0=22)then V (O)else V (G):af asY)) aW ?_
 simp only[GR,cu,cQ]
def ase:=eL vi 242 G awY d242 (λg=>V (GR g.1))
def afS:EO ase:=λh=>kL (an:=aoz) func242 aV aH h (c:=λg=>aF9 g.1)
def B9:EP ase:=λh=>kP h
def aAE:bq:=(aaB dw)
abbrev aCJ:=Int×Bool
def d283:Td 0 aCJ:= .c [] [4,5] (.r 0 0 (ec 4 aN (ec 5 qb en)) sn (λz=>(z.1.1,z.1.2.1)) (λx=>((x.1,x.2,()),(()))))
def azo:∀f∈([240]:aa Nat),bz (aAE) f:=(aA (nD bF) aH)
def ahg(a0:Int)(a1:Int):af aCJ:=
 match bif bif J (a0=0)then G else O then bif bif J (a1=0)then G else O then if¬jo a1 ((0:Int))=0then V (J (aj ((1099511627776:Int).tdiv (jo a1 0))<jo a0 0))else I else V G else V G with|I=>I|V r1=>bif r1 then V (0,G)else V ((aj (a0*a1),O))
def aES:=eL vi 283 G (aU (aU ln)) d283 (λg=>ahg g.1 g.2.1)
def ahM:EO aES:=λh=>kL (F:=aAE) (an:=(noTwo (.two (.two (.rb [240] 19) .no) .no))) (l:=[(.skip,(.rb [240] 19))]) func283 (vN aV) (aA azo aH) h
def axC:bq:=dw
abbrev axT:=Int
def d284:Td 0 axT:= .c [] [4] (.r 0 0 (ec 4 aN en) sn (λz=>z.1.1) (λx=>((x,()),(()))))
def axS:∀f∈([]:aa Nat),bz (axC) f:=aH
def amn(a0:Int)(a1:Int):af axT:=
 bif J (a1=0)then V 0 else if¬a1=0then match if¬a1=0then bif bif J (a0.tmod a1=0)then G else O then V (bif J (a0<0)==J (a1<0)then G else O)else V G else I with|I=>I|V r1=>bif r1 then V (aj (aj (a0.tdiv a1)-1))else V (aj (a0.tdiv a1))else I
def aGl:=eL vi 284 G (aU (aU ln)) d284 (λg=>amn g.1 g.2.1)
def agT:EO aGl:=λh=>kL (F:=axC) (an:=(noTwo (noTwo (noTwo (.two (.two (.rb [] 21) .no) .no))))) (l:=[(.skip,(.rb [] 21))]) func284 aV (aA axS aH) h
def aET:bq:=dw
abbrev auB:=Int
def d285:Td 0 auB:= .c [] [2] (.r 0 0 (ec 2 aN en) sn (λz=>z.1.1) (λx=>((x,()),(()))))
def aB0:=(lc qb ln)
def ap6:An:= .no
def AB(a0:Bool):auB:=
 bif a0 then 1 else 0
def aHW(a0:Bool):bV vi (aET) 300 (ap6) 285 (aB0.c (a0,())) [] 0 d285.rd=V (AB a0):=by
 refine Eq.trans (b:=(
  bif a0 then V (1)else V (0):af auB)) aW ?_
 simp only[AB,cu,cQ]
def aE6:=eL vi 285 G aB0 d285 (λg=>V (AB g.1))
def ang:EO aE6:=λh=>kL (an:=ap6) func285 aV aH h (c:=λg=>aHW g.1)
abbrev aw8:=Int×Bool
def d245:Td 0 aw8:= .c [] [6,7] (.r 0 0 (ec 6 aN (ec 7 qb en)) sn (λz=>(z.1.1,z.1.2.1)) (λx=>((x.1,x.2,()),(()))))
def Ep(a0:Int)(a1:Int)(a2:Int):af aw8:=
 bif J (a0=8)then V ((aj (a1+a2),pq (aj (a1+a2))))else bif J (a0=9)then V ((aj (a1-a2),pq (aj (a1-a2))))else bif J (a0=10)then match ahg a1 a2 with|I=>I|V r1=>V (r1)else bif J (a0=11)then match amn a1 a2 with|I=>I|V r2=>V ((r2,O))else bif J (a0=12)then bif J (a2=0)then V ((0,O))else match amn a1 a2 with|I=>I|V r3=>V ((aj (a1-aj (a2*r3)),O))else bif J (a0=13)then V ((AB (J (a1=a2)),O))else bif J (a0=14)then V ((AB (bif J (a1=a2)then G else O),O))else bif J (a0=15)then V ((AB (J (a1<a2)),O))else bif J (a0=16)then V ((AB (J (a1<=a2)),O))else bif J (a0=17)then V ((AB (J (a2<a1)),O))else bif J (a0=18)then V ((AB (J (a2<=a1)),O))else bif J (a0=19)then bif bif J (a1=0)then G else O then V ((AB (bif J (a2=0)then G else O),O))else V ((AB G,O))else bif J (a0=20)then bif bif J (a1=0)then G else O then V ((AB O,O))else V ((AB (bif J (a2=0)then G else O),O))else bif J (a0=21)then bif J (a1<a2)then V ((a1,O))else V ((a2,O))else bif J (a2<a1)then V ((a1,O))else V ((a2,O))
def aqC:=eL vi 245 G (aU (aU (aU ln))) d245 (λg=>Ep g.1 g.2.1 g.t.1)
def LG:EO aqC:=λh=>kL (an:= .no) func245 (ang (agT (ahM (sF aV)))) aH h
def BL:EP aqC:=λh=>kP h
abbrev ayp:=Int
def d282:Td 0 ayp:= .c [] [4] (.r 0 0 (ec 4 aN en) sn (λz=>z.1.1) (λx=>((x,()),(()))))
def GZ(a0:aL)(a1:Int):ayp:=
 aj (a0.ah+aj (a1*a0.ak))
def aGp:=eL vi 282 G (lc (qg 34) (aU ln)) d282 (λg=>V (GZ g.1 g.2.1))
def amy:EO aGp:=λh=>kL (an:= .no) func282 aV aH h
structure jX where
 t0:Int
 t8:List Int
 (t9 t10:Int)
 (b0 b1 b2:aL)
def Sr:Td 0 jX:= .c [] [0,4,5,6,8,9,10] (.r 0 4 (ec 0 aN (ec 4 (qp 0 0) (ec 5 (qp 1 0) (ec 6 (qp 2 0) (ec 8 (qo 3) (ec 9 aN (ec 10 aN en))))))) (sb 0 34 (lg 34) (sb 1 34 (lg 34) (sb 2 34 (lg 34) (sr 3 3 sn)))) (λz=>⟨z.1.1,z.q.1,z.1.q.2.1,z.1.q.t.1,z.2.1,z.t.1,z.t.2.1⟩) (λx=>((x.t0,(),(),(),(),x.t9,x.t10,()),(x.b0,x.b1,x.b2,x.t8,()))))
def IY(p:jX):af (af jX):=
 match sS p.b1 with|I=>I|V r5=>bif J (p.t10<r5)then match Ep p.t0 (GZ p.b0 p.t9) (GZ p.b1 p.t10)with|I=>I|V r6=>bif bif r6.snd then G else O then V (I)else if(p.t8++[r6.fst]).length<=1073741824 then V (V (jX.mk p.t0 (p.t8++[r6.fst]) p.t9 (aj (p.t10+1)) p.b0 p.b1 p.b2))else I else V (I)
def uF:=bI (IY)
structure qk where
 t0:Int
 t8:List Int
 t9:Int
 (b0 b1 b2:aL)
def Qd:Td 0 qk:= .c [] [0,4,5,6,8,9] (.r 0 4 (ec 0 aN (ec 4 (qp 0 0) (ec 5 (qp 1 0) (ec 6 (qp 2 0) (ec 8 (qo 3) (ec 9 aN en)))))) (sb 0 34 (lg 34) (sb 1 34 (lg 34) (sb 2 34 (lg 34) (sr 3 3 sn)))) (λz=>⟨z.1.1,z.q.1,z.1.q.2.1,z.2.1,z.t.1,z.t.2.1⟩) (λx=>((x.t0,(),(),(),(),x.t9,()),(x.b0,x.b1,x.b2,x.t8,()))))
def AR(p:qk):af (af qk):=
 match sS p.b0 with|I=>I|V r1=>bif J (p.t9<r1)then match uF (jX.mk p.t0 p.t8 p.t9 (0) p.b0 p.b1 p.b2)with|I=>I|V r2=>match sS r2.b1 with|I=>I|V r3=>bif J (r2.t10<r3)then match Ep r2.t0 (GZ r2.b0 r2.t9) (GZ r2.b1 r2.t10)with|I=>I|V r4=>bif bif r4.snd then G else O then V (I)else if(r2.t8++[r4.fst]).length<=1073741824 then I else I else V (V (qk.mk r2.t0 r2.t8 (aj (r2.t9+1)) r2.b0 r2.b1 r2.b2))else V (I)
def ac7:An:=(noTwo (.two (noTwo (Sr.lp uF .no)) .no))
def II:=bI (AR)
abbrev aA4:=aL×Int
def d243:Td 0 aA4:= .c [] [6,7] (.r 0 1 (ec 6 (qp 0 0) (ec 7 aN en)) (sb 0 34 (lg 34) sn) (λz=>(z.2.1,z.1.2.1)) (λx=>(((),x.2,()),(x.1,()))))
def Yy(a0:Int)(a1:aL)(a2:aL):af aA4:=
 match II (qk.mk a0 [] (0) a1 a2 (aL.mk (0) (0) (0)))with|I=>I|V r7=>match sS r7.b0 with|I=>I|V r8=>bif J (r7.t9<r8)then match uF (jX.mk r7.t0 r7.t8 r7.t9 (0) r7.b0 r7.b1 r7.b2)with|I=>I|V r9=>match sS r9.b1 with|I=>I|V r10=>bif J (r9.t10<r10)then match Ep r9.t0 (GZ r9.b0 r9.t9) (GZ r9.b1 r9.t10)with|I=>I|V r11=>bif bif r11.snd then G else O then V ((aL.mk (0) (0) (0),3))else if(r9.t8++[r11.fst]).length<=1073741824 then I else I else I else match Zy r7.t8 with|I=>I|V r12=>V (r12)
def auP:=eL vi 243 G (aU (lc (qg 34) (lc (qg 34) ln))) d243 (λg=>Yy g.1 g.2.1 g.t.1)
def ahw:EO auP:=λh=>kL (an:=(noTwo (noTwo (.two (noTwo (Qd.lp II ac7)) .no)))) (l:=[(aZ f243 0,(Qd.lp II ac7)),(aZ f243 1,(Sr.lp uF .no))]) func243 (amy (LG (LB (oq aV)))) (aA (aO Qd) (aA (aO Sr) aH)) h
def BW:EP auP:=λh=>kP h
structure j5 where
 t0:Int
 (t8 t9 t10:List Int)
 (t11 t12:Int)
 b0:aL
def QJ:Td 0 j5:= .c [] [0,6,8,9,10,11,12] (.r 0 4 (ec 0 aN (ec 6 (qp 0 0) (ec 8 (qo 1) (ec 9 (qo 2) (ec 10 (qo 3) (ec 11 aN (ec 12 aN en))))))) (sb 0 34 (lg 34) (sr 1 3 (sr 2 3 (sr 3 3 sn)))) (λz=>⟨z.1.1,z.t.1,z.t.2.1,z.q.1,z.1.q.2.1,z.1.q.t.1,z.2.1⟩) (λx=>((x.t0,(),(),(),(),x.t11,x.t12,()),(x.b0,x.t8,x.t9,x.t10,()))))
def TW(p:j5):af (af j5):=
 bif J (p.t12<3)then if 0<=p.t11/\p.t11<zR p.t9 then if 3=3/\zD p.t11<zR p.t9 then if 0<=p.t12/\p.t12<zR p.t10 then if 3=3/\zD p.t12<zR p.t10 then match Ep p.t0 p.t9[zD p.t11]! p.t10[zD p.t12]! with|I=>I|V r3=>bif bif r3.snd then G else O then V (I)else if(p.t8++[r3.fst]).length<=1073741824 then V (V (j5.mk p.t0 (p.t8++[r3.fst]) p.t9 p.t10 p.t11 (aj (p.t12+1)) p.b0))else I else I else I else I else I else V (I)
def ux:=bI (TW)
structure qO where
 t0:Int
 (t8 t9 t10:List Int)
 t11:Int
 b0:aL
def Q8:Td 0 qO:= .c [] [0,6,8,9,10,11] (.r 0 4 (ec 0 aN (ec 6 (qp 0 0) (ec 8 (qo 1) (ec 9 (qo 2) (ec 10 (qo 3) (ec 11 aN en)))))) (sb 0 34 (lg 34) (sr 1 3 (sr 2 3 (sr 3 3 sn)))) (λz=>⟨z.1.1,z.t.1,z.t.2.1,z.q.1,z.1.q.2.1,z.2.1⟩) (λx=>((x.t0,(),(),(),(),x.t11,()),(x.b0,x.t8,x.t9,x.t10,()))))
def Fu(p:qO):af (af qO):=
 bif J (p.t11<3)then match ux (j5.mk p.t0 p.t8 p.t9 p.t10 p.t11 0 p.b0)with|I=>I|V r1=>bif J (r1.t12<3)then if 0<=r1.t11/\r1.t11<zR r1.t9 then if 3=3/\zD r1.t11<zR r1.t9 then if 0<=r1.t12/\r1.t12<zR r1.t10 then if 3=3/\zD r1.t12<zR r1.t10 then match Ep r1.t0 r1.t9[zD r1.t11]! r1.t10[zD r1.t12]! with|I=>I|V r2=>bif bif r2.snd then G else O then V (I)else if(r1.t8++[r2.fst]).length<=1073741824 then I else I else I else I else I else I else V (V (qO.mk r1.t0 r1.t8 r1.t9 r1.t10 (aj (r1.t11+1)) r1.b0))else V (I)
def adQ:An:=(noTwo (.two (noTwo (QJ.lp ux .no)) .no))
def JW:=bI (Fu)
abbrev aCo:=aL×Int
def d244:Td 0 aCo:= .c [] [6,7] (.r 0 1 (ec 6 (qp 0 0) (ec 7 aN en)) (sb 0 34 (lg 34) sn) (λz=>(z.2.1,z.1.2.1)) (λx=>(((),x.2,()),(x.1,()))))
def uT(a0:Int)(a1:aL)(a2:aL):af aCo:=
 match JW (qO.mk a0 [] [a1.ah,aj (a1.ah+a1.ak),a1.ag] [a2.ah,aj (a2.ah+a2.ak),a2.ag] (0) (aL.mk 0 0 0))with|I=>I|V r4=>bif J (r4.t11<3)then match ux (j5.mk r4.t0 r4.t8 r4.t9 r4.t10 r4.t11 0 r4.b0)with|I=>I|V r5=>bif J (r5.t12<3)then if 0<=r5.t11/\r5.t11<zR r5.t9 then if 3=3/\zD r5.t11<zR r5.t9 then if 0<=r5.t12/\r5.t12<zR r5.t10 then if 3=3/\zD r5.t12<zR r5.t10 then match Ep r5.t0 r5.t9[zD r5.t11]! r5.t10[zD r5.t12]! with|I=>I|V r6=>bif bif r6.snd then G else O then V (aL.mk 0 0 0,3)else if(r5.t8++[r6.fst]).length<=1073741824 then I else I else I else I else I else I else I else match Zy r4.t8 with|I=>I|V r7=>V (r7)
def aqQ:=eL vi 244 G (aU (lc (qg 34) (lc (qg 34) ln))) d244 (λg=>uT g.1 g.2.1 g.t.1)
def afL:EO aqQ:=λh=>kL (an:=(noTwo (noTwo (noTwo (noTwo (.two (noTwo (Q8.lp JW adQ)) .no)))))) (l:=[(aZ f244 0,(Q8.lp JW adQ)),(aZ f244 1,(QJ.lp ux .no))]) func244 (LG (LB aV)) (aA (aO Q8) (aA (aO QJ) aH)) h
def BG:EP aqQ:=λh=>kP h
abbrev qG:=Bool
def d286:Td 0 qG:= .c [] [4] (.r 0 0 (ec 4 qb en) sn (λz=>z.1.1) (λx=>((x,()),(()))))
def atK:=(lc (qg 34) (lc (qg 34) ln))
def amU(M:aL->aL->af qG):bq->bq:=eL vi 286 G atK d286 (λg=>M g.1 g.2.1)
def Yh{M:aL->aL->af qG}{F:bq}{f:Nat}(h:bz F f):bz (amU M F) f:=gu h (λ_=>aW)
def al0(M:aL->aL->af qG):Prop:=HL vi 286 atK d286 (λg=>M g.1 g.2.1)
def Xa{M:aL->aL->af qG}(hM:al0 M){F:bq}(h:bA vi F):bA vi (amU M F):=ew (sc:=oF) di hM ⟨_,func286,aW,aW⟩ (λ_=>aW) (λ_=>aW) h
def akf(M286:aL->aL->af qG):bq:=(amU M286 (aaB (arG (e43 (e32 dw)))))
def amA{M286}(h286:al0 M286):bA vi (akf M286):=(Xa h286 (vN (Ml (oq (DP aV)))))
structure jD where
 (t6 t7 t8 t9:Int)
 (b0 b1:aL)
def TQ:Td 0 jD:= .c [] [2,3,6,7,8,9] (.r 0 2 (ec 2 (qp 0 0) (ec 3 (qp 1 0) (ec 6 aN (ec 7 aN (ec 8 aN (ec 9 aN en)))))) (sb 0 34 (lg 34) (sb 1 34 (lg 34) sn)) (λz=>⟨z.1.t.1,z.1.t.2.1,z.1.q.1,z.1.q.2.1,z.2.1,z.t.1⟩) (λx=>(((),(),x.t6,x.t7,x.t8,x.t9,()),(x.b0,x.b1,()))))
def BD(M286:aL->aL->af qG)(p:jD):af (af jD):=
 match if¬p.t7=0then bif J (p.t9<aj (p.b1.ak.tdiv p.t7))then V (J (p.t8<=p.t6))else V G else I with|I=>I|V r1=>bif r1 then match m32 p.b1 p.t8 with|I=>I|V r2=>bif r2 then V (I)else V (V (jD.mk p.t6 p.t7 (aj (p.t8+p.b0.ak)) (aj (p.t9+1)) p.b0 p.b1))else V (I)
def abA(M286:aL->aL->af qG):An:=(.two (.two (.rb [240] 86) .no) .no)
def oQ(M286:aL->aL->af qG):=bI (BD M286)
def anM(M286:aL->aL->af qG):An:=(noTwo (noTwo (noTwo (noTwo (noTwo (noTwo (noTwo (.two (.two (.rb [240] 58) .no) (noTwo (.two (noTwo (TQ.lp (oQ M286) (abA M286))) .no))))))))))
def anH{M286}:∀f∈([240]:aa Nat),bz (akf M286) f:=(aA (Yh (nD (Zj (lU (acE bF))))) aH)
def aya(M286:aL->aL->af qG):fe vi (akf M286) 0 300 286 (anM M286):=b6 (l:=[(.skip,(.rb [240] 58)),(aZ f286 0,(TQ.lp (oQ M286) (abA M286))),(.skip,(.rb [240] 86))]) func286 (bM aW) aW (aA anH (aA (aO TQ) (aA anH aH)))
def X0(M286:aL->aL->af qG)(a0:aL)(a1:aL):af qG:=
 match sS a0 with|I=>I|V r3=>match sS a1 with|I=>I|V r4=>bif J (r4<r3)then match M286 a1 a0 with|I=>I|V r5=>V (r5)else match sS a0 with|I=>I|V r6=>bif J (r6=1)then match m32 a1 a0.ah with|I=>I|V r7=>V (r7)else bif J (a0.ah<a1.ah)then bif J (a1.ag<a0.ag)then match C0 a0.ak a1.ak with|I=>I|V r8=>match bif J (a1.ag<a1.ah)then V O else if¬r8=0then V (bif J (Int.tmod (jo a0.ah a1.ah) r8=0)then G else O)else I with|I=>I|V r9=>bif r9 then V G else if¬a0.ak=0then match oQ M286 (jD.mk a1.ag r8 (aj (a0.ah+aj (aj ((aj (aj (aj (a1.ah-a0.ah)+a0.ak)-1)).tdiv a0.ak)*a0.ak))) 0 a0 a1)with|I=>I|V r10=>match if¬r10.t7=0then bif J (r10.t9<aj (r10.b1.ak.tdiv r10.t7))then V (J (r10.t8<=r10.t6))else V G else I with|I=>I|V r11=>bif r11 then match m32 r10.b1 r10.t8 with|I=>I|V r12=>bif r12 then V O else I else V G else I else match C0 a0.ak a1.ak with|I=>I|V r13=>match bif J (a0.ag<a1.ah)then V O else if¬r13=0then V (bif J (Int.tmod (jo a0.ah a1.ah) r13=0)then G else O)else I with|I=>I|V r14=>bif r14 then V G else if¬a0.ak=0then match oQ M286 (jD.mk a0.ag r13 (aj (a0.ah+aj (aj ((aj (aj (aj (a1.ah-a0.ah)+a0.ak)-1)).tdiv a0.ak)*a0.ak))) 0 a0 a1)with|I=>I|V r15=>match if¬r15.t7=0then bif J (r15.t9<aj (r15.b1.ak.tdiv r15.t7))then V (J (r15.t8<=r15.t6))else V G else I with|I=>I|V r16=>bif r16 then match m32 r15.b1 r15.t8 with|I=>I|V r17=>bif r17 then V O else I else V G else I else bif J (a1.ag<a0.ag)then match C0 a0.ak a1.ak with|I=>I|V r18=>match bif J (a1.ag<a0.ah)then V O else if¬r18=0then V (bif J (Int.tmod (jo a0.ah a1.ah) r18=0)then G else O)else I with|I=>I|V r19=>bif r19 then V G else if¬a0.ak=0then match oQ M286 (jD.mk a1.ag r18 (aj (a0.ah+aj (aj ((aj (aj (aj (a0.ah-a0.ah)+a0.ak)-1)).tdiv a0.ak)*a0.ak))) 0 a0 a1)with|I=>I|V r20=>match if¬r20.t7=0then bif J (r20.t9<aj (r20.b1.ak.tdiv r20.t7))then V (J (r20.t8<=r20.t6))else V G else I with|I=>I|V r21=>bif r21 then match m32 r20.b1 r20.t8 with|I=>I|V r22=>bif r22 then V O else I else V G else I else match C0 a0.ak a1.ak with|I=>I|V r23=>match bif J (a0.ag<a0.ah)then V O else if¬r23=0then V (bif J (Int.tmod (jo a0.ah a1.ah) r23=0)then G else O)else I with|I=>I|V r24=>bif r24 then V G else if¬a0.ak=0then match oQ M286 (jD.mk a0.ag r23 (aj (a0.ah+aj (aj ((aj (aj (aj (a0.ah-a0.ah)+a0.ak)-1)).tdiv a0.ak)*a0.ak))) 0 a0 a1)with|I=>I|V r25=>match if¬r25.t7=0then bif J (r25.t9<aj (r25.b1.ak.tdiv r25.t7))then V (J (r25.t8<=r25.t6))else V G else I with|I=>I|V r26=>bif r26 then match m32 r25.b1 r25.t8 with|I=>I|V r27=>bif r27 then V O else I else V G else I
def aHb(M286:aL->aL->af qG)(a0:aL)(a1:aL):bV vi (akf M286) 300 (anM M286) 286 (atK.c (a0,a1,())) [] 0 d286.rd=X0 M286 a0 a1:=aW
def H7:Nat->(aL->aL->af qG)
 |0=>(λ_ _=>I)
 |n+1=>(X0 (H7 n))
def abd(n:Nat):aL->aL->af qG:=(H7 n)
def OA:∀n,al0 (abd n)
 |0=>λ_ _ h=>(by cases h)
 |n+1=>by
  have ih:=OA n;have i286:=ih;exact(dR (amA i286) (aya (abd n)) (λ_=>aW) (λ_=>aW) λg=>aHb (abd n) g.1 g.2.1)
def ae3:aL->aL->af qG:=λa0 a1=>lim (λn=>abd n a0 a1)
def agx:al0 ae3:=λg b h=>by
 obtain⟨n,hn⟩:=dD (show lim (λn=>abd n g.1 g.2.1)=V b from h);exact(OA n) g b hn
def aHJ(F:bq):bq:=amU ae3 F
def anu{F:bq}(h:bA vi F):bA vi (aHJ F):=Xa agx h
abbrev axF:=aL
def d246:Td 0 axF:= .c [] [6] (.r 0 1 (ec 6 (qp 0 0) en) (sb 0 34 (lg 34) sn) (λz=>z.2.1) (λx=>(((),()),(x,()))))
def acf(a0:Int)(a1:aL)(a2:aL):af axF:=
 bif J (a0=13)then match ae3 a1 a2 with|I=>I|V r1=>bif bif bif J (a1.ah=a2.ah)then bif J (a1.ag=a2.ag)then bif J (a1.ak=a2.ak)then O else G else G else G then G else O then bif J (a0=14)then V (jr r1 O)else V (jr O r1)else match sS a1 with|I=>I|V r2=>bif J (a0=14)then V (jr r1 (J (1<((r2,()),()).fst.fst)))else V (jr (J (1<((r2,()),()).fst.fst)) r1)else bif J (a0=14)then match ae3 a1 a2 with|I=>I|V r3=>bif bif bif J (a1.ah=a2.ah)then bif J (a1.ag=a2.ag)then bif J (a1.ak=a2.ak)then O else G else G else G then G else O then bif J (a0=14)then V (jr r3 O)else V (jr O r3)else match sS a1 with|I=>I|V r4=>bif J (a0=14)then V (jr r3 (J (1<((r4,()),()).fst.fst)))else V (jr (J (1<((r4,()),()).fst.fst)) r3)else bif J (a0=15)then V (jr (J (a2.ah<=a1.ag)) (J (a1.ah<a2.ag)))else bif J (a0=16)then V (jr (J (a2.ah<a1.ag)) (J (a1.ah<=a2.ag)))else bif J (a0=17)then V (jr (J (a1.ah<=a2.ag)) (J (a2.ah<a1.ag)))else bif J (a0=18)then V (jr (J (a1.ah<a2.ag)) (J (a2.ah<=a1.ag)))else match FH a1 with|I=>I|V r5=>match FH a2 with|I=>I|V r6=>bif J (a0=19)then bif r5.snd then bif r5.fst then V (jr O r6.snd)else V (jr r6.fst r6.snd)else bif r5.fst then V (jr O G)else V (jr r6.fst G)else bif r5.snd then bif r5.fst then V (jr r6.fst O)else V (jr G O)else bif r5.fst then V (jr r6.fst r6.snd)else V (jr G r6.snd)
def atH:=eL vi 246 G (aU (lc (qg 34) (lc (qg 34) ln))) d246 (λg=>acf g.1 g.2.1 g.t.1)
def akN:EO atH:=λh=>kL (an:= .no) func246 (anu (V6 (vY (oq aV)))) aH h
def BI:EP atH:=λh=>kP h
def awN:bq:=(atH (aqC (aqQ (auP (ase (aaB (ad3 (Ko (NR (Y8 (e84 (e43 (e42 (e41 dw))))))))))))))
abbrev aCd:=aL×Int
def d166:Td 0 aCd:= .c [] [6,7] (.r 0 1 (ec 6 (qp 0 0) (ec 7 aN en)) (sb 0 34 (lg 34) sn) (λz=>(z.2.1,z.1.2.1)) (λx=>(((),x.2,()),(x.1,()))))
def abF:∀f∈([84,102,242]:aa Nat),bz (awN) f:=(aA (BI (BL (BG (BW (B9 (nD (sv (je (iy (oc (iQ (lU (vP (vn bF)))))))))))))) (aA (BI (BL (BG (BW (B9 (nD (sv (je (iy (oc (iQ (lU (vP (vn bF)))))))))))))) (aA (BI (BL (BG (BW (B9 (nD (sv (je (iy (oc (iQ (lU (vP (vn bF)))))))))))))) aH)))
def ou(a0:Int)(a1:aL)(a2:aL):af aCd:=
 match match ZF a1 with|I=>I|V r1=>bif bif r1 then G else O then V O else match ZF a2 with|I=>I|V r2=>bif bif r2 then G else O then V O else V (bif GR a0 then G else O)with|I=>I|V r3=>bif r3 then V (aL.mk 0 0 0,1)else match bif mb a1 then V O else V (mb a2)with|I=>I|V r4=>bif r4 then V (rN,0)else match sS a1 with|I=>I|V r5=>match sS a2 with|I=>I|V r6=>if¬r6=0then bif J (r5<=aj ((4096:Int).tdiv r6))then match Yy a0 a1 a2 with|I=>I|V r7=>V (r7)else bif J (a0=8)then match uT a0 a1 a2 with|I=>I|V r8=>V (r8)else bif J (a0=9)then match uT a0 a1 a2 with|I=>I|V r9=>V (r9)else bif J (a0=10)then match uT a0 a1 a2 with|I=>I|V r10=>V (r10)else bif J (a0=11)then bif J (jo a1.ah 0<jo a1.ag 0)then match bif J (0<=a1.ah)then V (J (0<=a2.ah))else V G with|I=>I|V r11=>bif r11 then match jm 0 (jo a1.ag 0) 1with|I=>I|V r12=>V (r12)else match jm (aj (0-jo a1.ag 0)) (jo a1.ag 0) 1with|I=>I|V r13=>V (r13)else match bif J (0<=a1.ah)then V (J (0<=a2.ah))else V G with|I=>I|V r14=>bif r14 then match jm 0 (jo a1.ah 0) 1with|I=>I|V r15=>V (r15)else match jm (aj (0-jo a1.ah 0)) (jo a1.ah 0) 1with|I=>I|V r16=>V (r16)else bif J (a0=12)then bif J (a2.ah<0)then bif J (0<a2.ag)then match jm (aj (a2.ah+1)) (aj (a2.ag-1)) 1with|I=>I|V r17=>V (r17)else match jm (aj (a2.ah+1)) 0 1with|I=>I|V r18=>V (r18)else bif J (0<a2.ag)then match jm 0 (aj (a2.ag-1)) 1with|I=>I|V r19=>V (r19)else match jm 0 0 1with|I=>I|V r20=>V (r20)else bif J (a0=21)then match Ep a0 a1.ag a2.ag with|I=>I|V r21=>match lE a1 a2 with|I=>I|V r22=>match m41 r22 r21.fst with|I=>I|V r23=>V (r23,0)else bif J (a0=22)then match Ep a0 a1.ah a2.ah with|I=>I|V r24=>match lE a1 a2 with|I=>I|V r25=>match ZC r25 (aj (r24.fst-1))with|I=>I|V r26=>V (r26,0)else match acf a0 a1 a2 with|I=>I|V r27=>V (r27,0)else I
def azP:=eL vi 166 G (aU (lc (qg 34) (lc (qg 34) ln))) d166 (λg=>ou g.1 g.2.1 g.t.1)
def Vf:EO azP:=λh=>kL (F:=awN) (an:=(noTwo (.two (.two (.rb [84,102,242] 27) .no) (.two (.two (.rb [84,102,242] 34) .no) (noTwo (.two (noTwo (noTwo (noTwo (noTwo (.two (noTwo (noTwo (.two (.two (.rb [84,102,242] 79) .no) .no))) .no))))) .no)))))) (l:=[(.skip,(.rb [84,102,242] 27)),(.skip,(.rb [84,102,242] 34)),(.skip,(.rb [84,102,242] 79))]) func166 (akN (LG (afL (ahw (afS (vN (sj (lu (mQ (Dc (uo (oq (Tb (ad7 aV)))))))))))))) (aA abF (aA abF (aA abF aH))) h
abbrev M4:=aL
def d87:Td 0 M4:= .c [] [4] (.r 0 1 (ec 4 (qp 0 0) en) (sb 0 34 (lg 34) sn) (λz=>z.2.1) (λx=>(((),()),(x,()))))
def A87:=(lc (qg 147) (lc (qg 137) ln))
def x87(M:aJ->az->af M4):bq->bq:=eL vi 87 G A87 d87 (λg=>M g.1 g.2.1)
def H87(M:aJ->az->af M4):Prop:=HL vi 87 A87 d87 (λg=>M g.1 g.2.1)
def abY{M:aJ->az->af M4}(hM:H87 M){F:bq}(h:bA vi F):bA vi (x87 M F):=ew (sc:=oF) di hM ⟨_,func87,aW,aW⟩ (λ_=>aW) (λ_=>aW) h
def F87(M87:aJ->az->af M4):bq:=(azP (Ya (ay9 (ad3 (Ko (x87 M87 (e86 (e36 (e32 dw)))))))))
def auI{M87}(h87:H87 M87):bA vi (F87 M87):=(Vf (vY (aj7 (sj (lu (abY h87 (Tm (LO (DP aV)))))))))
structure HV where
 (t107 t108:Int)
 b0:aJ
 b1:az
 (b2 b3 b4:aL)
def ac4:Td 0 HV:= .c [] [2,3,4,9,11,107,108] (.r 0 5 (ec 2 (qp 0 0) (ec 3 (qp 1 0) (ec 4 (qp 2 0) (ec 9 (qp 3 0) (ec 11 (qp 4 0) (ec 107 aN (ec 108 aN en))))))) (sb 0 147 (lg 147) (sb 1 137 (lg 137) (sb 2 34 (lg 34) (sb 3 34 (lg 34) (sb 4 34 (lg 34) sn))))) (λz=>⟨z.1.q.2.1,z.1.q.t.1,z.2.1,z.t.1,z.t.2.1,z.q.1,z.q.2.1⟩) (λx=>(((),(),(),(),(),x.t107,x.t108,()),(x.b0,x.b1,x.b2,x.b3,x.b4,()))))
def VE(M87:aJ->az->af M4)(p:HV):af (af HV):=
 bif J (p.t108<p.t107)then match m32 p.b3 p.t108 with|I=>I|V r1=>bif r1 then if 0<=aj ((1:Int)+p.t108)/\aj ((1:Int)+p.t108)<zR p.b1.ax then match M87 p.b0 (az.mk p.b1.ax[(aj (1+p.t108)).toNat]!.bD p.b1.ax[(aj (1+p.t108)).toNat]!.fN p.b1.ax[(aj (1+p.t108)).toNat]!.ax)with|I=>I|V r2=>match lE p.b4 r2 with|I=>I|V r3=>V (V (HV.mk p.t107 (aj (p.t108+1)) p.b0 (az.mk p.b1.bD p.b1.fN p.b1.ax) p.b2 p.b3 r3))else I else V (V (HV.mk p.t107 (aj (p.t108+1)) p.b0 (az.mk p.b1.bD p.b1.fN p.b1.ax) p.b2 p.b3 p.b4))else V (I)
def Pj(M87:aJ->az->af M4):=bI (VE M87)
def aCi(M87:aJ->az->af M4):An:=(noTwo (.two (noTwo (noTwo (noTwo (noTwo (noTwo (noTwo (noTwo (noTwo (noTwo (noTwo (.two (noTwo (noTwo (.two (noTwo (ac4.lp (Pj M87) .no)) .no))) .no))))))))))) .no))
def aFx(M87:aJ->az->af M4):fe vi (F87 M87) 0 300 87 (aCi M87):=b6 (l:=[(aZ f87 0,(ac4.lp (Pj M87) .no))]) func87 (bM aW) aW (aA (aO ac4) aH)
def s87(M87:aJ->az->af M4)(a0:aJ)(a1:az):af M4:=
 bif J (a1.bD=0)then V (m36 a1.fN)else bif J (a1.bD=24)then if 0<=a1.fN/\a1.fN<zR a0.ai then V (a0.ai[a1.fN.toNat]!)else I else bif J (a1.bD=6)then if(0:Int)<=(0:Int)/\(0:Int)<zR a1.ax then match M87 a0 (az.mk a1.ax[0]!.bD a1.ax[0]!.fN a1.ax[0]!.ax)with|I=>I|V r4=>match abz a1.bD r4 with|I=>I|V r5=>V (r5.fst)else I else bif J (a1.bD=7)then if(0:Int)<=(0:Int)/\(0:Int)<zR a1.ax then match M87 a0 (az.mk a1.ax[0]!.bD a1.ax[0]!.fN a1.ax[0]!.ax)with|I=>I|V r6=>match abz a1.bD r6 with|I=>I|V r7=>V (r7.fst)else I else bif J (a1.bD=23)then if(0:Int)<=(0:Int)/\(0:Int)<zR a1.ax then match M87 a0 (az.mk a1.ax[0]!.bD a1.ax[0]!.fN a1.ax[0]!.ax)with|I=>I|V r8=>match FH r8 with|I=>I|V r9=>bif bif r9.fst then G else O then if(0:Int)<=(1:Int)/\(1:Int)<zR a1.ax then match M87 a0 (az.mk a1.ax[1]!.bD a1.ax[1]!.fN a1.ax[1]!.ax)with|I=>I|V r10=>V (r10)else I else bif bif r9.snd then G else O then if(0:Int)<=(2:Int)/\(2:Int)<zR a1.ax then match M87 a0 (az.mk a1.ax[2]!.bD a1.ax[2]!.fN a1.ax[2]!.ax)with|I=>I|V r11=>V (r11)else I else if(0:Int)<=(1:Int)/\(1:Int)<zR a1.ax then match M87 a0 (az.mk a1.ax[1]!.bD a1.ax[1]!.fN a1.ax[1]!.ax)with|I=>I|V r12=>if(0:Int)<=(2:Int)/\(2:Int)<zR a1.ax then match M87 a0 (az.mk a1.ax[2]!.bD a1.ax[2]!.fN a1.ax[2]!.ax)with|I=>I|V r13=>match lE r12 r13 with|I=>I|V r14=>V (r14)else I else I else I else bif J (a1.bD=25)then if(0:Int)<=(0:Int)/\(0:Int)<zR a1.ax then match M87 a0 (az.mk a1.ax[0]!.bD a1.ax[0]!.fN a1.ax[0]!.ax)with|I=>I|V r15=>match m86 r15 0 (aj ((zR a1.ax:Int)-2))with|I=>I|V r16=>match Pj M87 (HV.mk (aj ((zR a1.ax:Int)-1)) 0 a0 (az.mk a1.bD a1.fN a1.ax) (aL.mk 0 0 0) r16.fst rN)with|I=>I|V r17=>bif J (r17.t108<r17.t107)then match m32 r17.b3 r17.t108 with|I=>I|V r18=>bif r18 then if 0<=aj ((1:Int)+r17.t108)/\aj ((1:Int)+r17.t108)<zR r17.b1.ax then match M87 r17.b0 (az.mk r17.b1.ax[(aj (1+r17.t108)).toNat]!.bD r17.b1.ax[(aj (1+r17.t108)).toNat]!.fN r17.b1.ax[(aj (1+r17.t108)).toNat]!.ax)with|I=>I|V r19=>match lE r17.b4 r19 with|I=>I|V r20=>I else I else I else V (r17.b4)else I else if(0:Int)<=(0:Int)/\(0:Int)<zR a1.ax then match M87 a0 (az.mk a1.ax[0]!.bD a1.ax[0]!.fN a1.ax[0]!.ax)with|I=>I|V r21=>if(0:Int)<=(1:Int)/\(1:Int)<zR a1.ax then match M87 a0 (az.mk a1.ax[1]!.bD a1.ax[1]!.fN a1.ax[1]!.ax)with|I=>I|V r22=>match ou a1.bD r21 r22 with|I=>I|V r23=>V (r23.fst)else I else I
def c87(M87:aJ->az->af M4)(a0:aJ)(a1:az):bV vi (F87 M87) 300 (aCi M87) 87 (A87.c (a0,a1,())) [] 0 d87.rd=s87 M87 a0 a1:=aW
def aAf:Nat->(aJ->az->af M4)
 |0=>(λ_ _=>I)
 |n+1=>(s87 (aAf n))
def m87(n:Nat):aJ->az->af M4:=(aAf n)
def UB:∀n,H87 (m87 n)
 |0=>λ_ _ h=>(by cases h)
 |n+1=>by
  have ih:=UB n;have i87:=ih;exact(dR (auI i87) (aFx (m87 n)) (λ_=>aW) (λ_=>aW) λg=>c87 (m87 n) g.1 g.2.1)
def Qb:aJ->az->af M4:=λa0 a1=>lim (λn=>m87 n a0 a1)
def at4:H87 Qb:=λg b h=>by
 obtain⟨n,hn⟩:=dD (show lim (λn=>m87 n g.1 g.2.1)=V b from h);exact(UB n) g b hn
def e87(F:bq):bq:=x87 Qb F
def Tf{F:bq}(h:bA vi F):bA vi (e87 F):=abY at4 h
end Go.Proofs.YtnfljbehcffmcaaGreat
end
noncomputable section
namespace Go.Iv
open Go
variable [U:tf] [L:nu]
def aM{n:Int}(h1: -9223372036854775808<=n:=by omega)(h2:n<9223372036854775808:=by omega):aj n=n:=by
 simp[aj,bE,IntKind.wrap,IntKind.bits,IntKind.signed];omega
def MI{Q:Type}{rnd:Q->af (af Q)}(f:Nat->Q)(n:Nat)(h1:∀i,i<n->rnd (f i)=V (V (f (i+1))))(h2:∀r,rnd (f n)≠V (V r)):bI rnd (f 0)=V (f n):=by
 have key:∀k i,i+k=n->bI rnd (f i)=V (f n):=by
  intro k;induction k with
  |zero=>
   intro i hi;have:i=n:=aq
   subst this;exact ct h2
  |succ k ih=>intro i hi;rw[bR (h1 i aq)];exact ih (i+1) aq
 simp_all
def kX{α W S:Type}(step:W->α->af W)(ret:W->α->S)(fin:W->S):aa α->W->S
 |[],b=>fin b
 |x::xs,b=>match step b x with
  |some b'=>kX step ret fin xs b'
  |none=>ret b x
def Iu{Q α W S:Type}{rnd:Q->af (af Q)}(l:aa α)(mk:Nat->W->Q)(step:W->α->af W)(ret:W->α->S)(fin:W->S)(zb:Nat->W->Prop)
  (h1:∀i b (hi:i<zR l),zb i b->∀b',step b l[i]=V b'->rnd (mk i b)=V (V (mk (i+1) b'))/\zb (i+1) b')
  (h2:∀i b (hi:i<zR l),zb i b->step b l[i]=I->∀r,rnd (mk i b)≠V (V r)) (h3:∀b,zb (zR l) b->∀r,rnd (mk (zR l) b)≠V (V r)) {b:W} (hb:zb 0 b):
  ∃i v,i<=zR l/\bI rnd (mk 0 b)=V (mk i v)/\zb i v/\((i=zR l/\kX step ret fin l b=fin v)\/∃hi:i<zR l,step v l[i]=I/\kX step ret fin l b=ret v l[i]):=by
 have key:∀(xs:aa α) (i:Nat) (b:W),l.drop i=xs->i<=zR l->zb i b->∃j v,j<=zR l/\bI rnd (mk i b)=V (mk j v)/\zb j v/\((j=zR l/\kX step ret fin xs b=fin v)\/∃hi:j<zR l,step v l[j]=I/\kX step ret fin xs b=ret v l[j]):=by
  intro xs;induction xs with
  |nil=>
   intro i b hd hi hb;have:i=zR l:=by have:=congrArg zR hd;simp at this;omega
   subst this;exact⟨_,b,zm _,ct (h3 b hb),hb, .inl ⟨rfl,rfl⟩⟩
  |cons x xs ih=>
   intro i b hd hi hb;have hil:i<zR l:=by have:=congrArg zR hd;simp at this;omega
   have hx:l[i]=x:=by
    have:=congrArg List.head? hd;rw[List.head?_drop,zq hil]at this;simp_all
   have hd':l.drop (i+1)=xs:=by
    have:=congrArg List.tail hd;rw[List.tail_drop]at this
    assumption
   cases hs:step b x with
   |some b'=>
    obtain⟨q1,q2⟩:=h1 i b hil hb b' (by rw[hx];exact hs);obtain⟨j,v,e1,e2,e3,e4⟩:=ih (i+1) b' hd' hil q2;have er:kX step ret fin (x::xs) b=kX step ret fin xs b':=by simp only[kX,hs]
    exact⟨j,v,e1,by rw[bR q1];exact e2,e3,by rw[er];exact e4⟩
   |none=>
    have er:kX step ret fin (x::xs) b=ret b x:=by simp only[kX,hs]
    exact⟨i,b,hi,ct (h2 i b hil hb (by rw[hx];exact hs)),hb, .inr ⟨hil,by rw[hx];exact hs,by rw[er,hx]⟩⟩
 exact key l 0 b rfl (yV _) hb
end Go.Iv
end
noncomputable section
set_option maxRecDepth 100000
namespace Go.Proofs.YtnfljbehcffmcaaGreat
open Go Go.Iv
open Go.IntKind (i64 u64)
def gR{n:Int}(h1:0<=n:=by omega)(h2:n<18446744073709551616:=by omega):bE n=n:=by
 simp only[aj,bE,IntKind.wrap,IntKind.signed,IntKind.bits]at*;simp;omega
def Qn(n:Int):bE n=n%18446744073709551616:=by
 simp only[aj,bE,IntKind.wrap,IntKind.signed,IntKind.bits]at*;simp
structure gX (y1 y0 u d q r:Int):Prop where
 r0:0<=r
 r1:r<4294967296
 q0:0<=q
 q1:q<=4294967297
 e:u=q*y1+r
 hi:u*4294967296+d<(q+1)*(y1*4294967296+y0)
 top:q=4294967297->r+y1<4294967296
structure sW (y1 y0 u d:Int):Prop where
 ha:2147483648<=y1
 hb:y1<4294967296
 hc:0<=y0
 hd:y0<4294967296
 he:0<=u
 hf:u<y1*4294967296+y0
 hg:0<=d
 hh:d<4294967296
def gX.start{y1 y0 u d:Int}(h:sW y1 y0 u d):gX y1 y0 u d (u/y1) (u%y1):=by
 obtain⟨ha,hb,hc,hd,he,hf,hg,hh⟩:=h;have e1:=yX u y1;have m0:=yY u (b:=y1) aq;have m1:=y7 u (b:=y1) aq;have q0:0<=u/y1:=zS he aq;have q1:u/y1<=4294967297:=by
  have:u/y1<4294967298:=wW aq aq;omega
 rw[zO]at e1;refine⟨m0,aq,q0,q1,aq,?_,λhq=> ?_⟩
 ·have k1:(u/y1+1)*(y1*4294967296+y0)=((u/y1)*y1)*4294967296+y1*4294967296+(u/y1)*y0+y0:=by
   rw[zU,xE,yc,yb];omega
  have k2:0<=u/y1*y0:=zJ q0 hc;rw[k1];omega
 ·rw[hq]at e1;omega
def gX.stop{y1 y0 u d q r:Int}(H:sW y1 y0 u d)(h:gX y1 y0 u d q r)(h1:q<4294967296)(h2:¬4294967296*r+d<q*y0):q*(y1*4294967296+y0)<=u*4294967296+d:=by
 have k:q*(y1*4294967296+y0)=(q*y1)*4294967296+q*y0:=by rw[xE,yb]
 have:=h.e;rw[k];omega
def gX.big{y1 y0 u d q r:Int}(H:sW y1 y0 u d)(h:gX y1 y0 u d q r)(h1:4294967296<=q\/4294967296*r+d<q*y0):u*4294967296+d<q*(y1*4294967296+y0):=by
 have k:q*(y1*4294967296+y0)=(q*y1)*4294967296+q*y0:=by rw[xE,yb]
 have e:=h.e;rcases h1 with h1|h1
 ·have k2:4294967296*(y1*4294967296+y0)<=q*(y1*4294967296+y0):=zL h1 (by have:=H.ha;have:=H.hc;omega);have:=H.hf;have:=H.hh;omega
 ·rw[k];omega
def gX.pos{y1 y0 u d q r:Int}(H:sW y1 y0 u d)(h:gX y1 y0 u d q r)(h1:4294967296<=q\/4294967296*r+d<q*y0):1<=q:=by
 have k:=gX.big H h h1;have:=h.q0;rcases (show q=0\/1<=q by omega)with rfl|h2
 ·rw[Int.zero_mul]at k;have:=H.he;have:=H.hg;omega
 ·exact h2
def gX.next{y1 y0 u d q r:Int}(H:sW y1 y0 u d)(h:gX y1 y0 u d q r)(h1:4294967296<=q\/4294967296*r+d<q*y0)(h2:r+y1<4294967296):gX y1 y0 u d (q-1) (r+y1):=by
 have hb:=gX.big H h h1;have hp:=gX.pos H h h1;have:=H.ha;have:=h.r0;have:=h.q1;refine⟨aq,h2,aq,aq,?_,?_,λhq=>aq⟩
 ·rw[yC,yc];have:=h.e;omega
 ·rw[show q-1+1=q by omega];exact hb
def gX.brk{y1 y0 u d q r:Int}(H:sW y1 y0 u d)(h:gX y1 y0 u d q r)(h1:4294967296<=q\/4294967296*r+d<q*y0)(h2:4294967296<=r+y1):(q-1)*(y1*4294967296+y0)<=u*4294967296+d:=by
 have hp:=gX.pos H h h1;have hq:q<=4294967296:=by
  have:=h.q1;have:=h.top;omega
 have k:(q-1)*(y1*4294967296+y0)=(q*y1)*4294967296-y1*4294967296+(q-1)*y0:=by
  rw[xE,<-yb,yC q 1 y1,yc,yC]
 have k2:(q-1)*y0<=4294967296*y0:=zL aq H.hc;have:=h.e;have:=H.hd;have:=H.hg;rw[k];omega
def Ol(y1 y0 u d q:Int):Prop:=0<=q/\q<=4294967297/\q*(y1*4294967296+y0)<=u*4294967296+d/\u*4294967296+d<(q+1)*(y1*4294967296+y0)
def gX.y0q{y1 y0 u d q r:Int}(H:sW y1 y0 u d)(h:gX y1 y0 u d q r)(h1:q<4294967296):bE (q*y0)=q*y0:=by
 have k1:0<=q*y0:=zJ h.q0 H.hc;have k2:q*y0<=4294967295*y0:=zL aq H.hc;have:=H.hd;exact gR k1 aq
def gX.rr{y1 y0 u d q r:Int}(H:sW y1 y0 u d)(h:gX y1 y0 u d q r):bE (bE (4294967296*r)+d)=4294967296*r+d:=by
 have:=h.r0;have:=h.r1;have:=H.hg;have:=H.hh;rw[gR (n:=4294967296*r),gR]
def gX.cnd{y1 y0 u d q r:Int}(H:sW y1 y0 u d)(h:gX y1 y0 u d q r):(bif J (4294967296<=q)then V O else V (J (bE (bE (4294967296*r)+d)<bE (q*y0))))=V (J (4294967296<=q\/4294967296*r+d<q*y0)):=by
 by_cases hq:4294967296<=q
 ·rw[b7 hq,b7 (Or.inl hq),cI]
 ·rw[bY hq,cv,gX.rr H h,gX.y0q H h aq];by_cases hc:4294967296*r+d<q*y0
  ·rw[b7 hc,b7 (Or.inr hc)]
  ·rw[bY hc,bY (λk=>k.elim hq hc)]
def gX.done{y1 y0 u d q r:Int}(H:sW y1 y0 u d)(h:gX y1 y0 u d q r)(hr:4294967296<=q\/4294967296*r+d<q*y0->4294967296<=r+y1):Ol y1 y0 u d (bif J (4294967296<=q\/4294967296*r+d<q*y0)then q-1 else q):=by
 have h0:=h.q0;have h1:=h.q1;by_cases hc:4294967296<=q\/4294967296*r+d<q*y0
 ·rw[b7 hc,cI];have:=gX.pos H h hc;refine⟨aq,aq,gX.brk H h hc (hr hc),?_⟩;rw[show q-1+1=q by omega];exact gX.big H h hc
 ·rw[bY hc,cv];exact⟨h0,aq,gX.stop H h aq (λk=>hc (.inr k)),h.hi⟩
def gX.wr1{y1 y0 u d q r:Int}(H:sW y1 y0 u d)(h:gX y1 y0 u d q r):bE (r+y1)=r+y1:=by
 have:=h.r0;have:=h.r1;have:=H.ha;have:=H.hb;exact gR
def gX.wq1{y1 y0 u d q r:Int}(H:sW y1 y0 u d)(h:gX y1 y0 u d q r)(hc:4294967296<=q\/4294967296*r+d<q*y0):bE (q-1)=q-1:=by
 have:=h.q1;have:=gX.pos H h hc;exact gR
def aaR{y s y1 y0 u d e q r:Int}(H:sW y1 y0 u d)(h:gX y1 y0 u d q r):∃q' r',IN (oE.mk y s y1 y0 u d e q r)=V (oE.mk y s y1 y0 u d e q' r')/\gX y1 y0 u d q' r'/\(4294967296<=q'\/4294967296*r'+d<q'*y0->4294967296<=r'+y1):=by
 obtain⟨z,e1,⟨q',r',rfl,hI⟩,hs⟩:=mq (rnd:=AN) (λp=>∃q r,p=oE.mk y s y1 y0 u d e q r/\gX y1 y0 u d q r) (λp=>zD p.t15) (λp p' ⟨q,r,hp,hI⟩ hn=>by
  subst hp;have hn:AN (oE.mk y s y1 y0 u d e q r)=V (V p'):=hn;simp only[AN]at hn;rw[gX.cnd H hI]at hn;by_cases hc:4294967296<=q\/4294967296*r+d<q*y0
  ·rw[b7 hc]at hn;simp only[cI,gX.wr1 H hI,gX.wq1 H hI hc]at hn;by_cases hb:4294967296<=r+y1
   ·rw[b7 hb]at hn;cases hn
   ·rw[bY hb]at hn;simp only[cv,zF.injEq]at hn;have hp:=gX.pos H hI hc;subst hn;exact⟨⟨q-1,r+y1,rfl,gX.next H hI hc aq⟩,by show (q-1).toNat<q.toNat;omega⟩
  ·rw[bY hc]at hn;cases hn) ⟨q,r,rfl,h⟩
 refine⟨q',r',e1,hI,λhc=> ?_⟩;by_cases hb:4294967296<=r'+y1
 ·exact hb
 ·exact ep (show AN _=V (V _)by
   simp only[AN];rw[gX.cnd H hI,b7 hc];simp only[cI,gX.wr1 H hI];rw[bY hb];rfl) (hs _)
def Nh{y s y1 y0 u d e q r:Int}(H:sW y1 y0 u d)(h:gX y1 y0 u d q r):∃q' r',Ef (mU.mk y s y1 y0 d e r u q)=V (mU.mk y s y1 y0 d e r' u q')/\gX y1 y0 u d q' r'/\(4294967296<=q'\/4294967296*r'+d<q'*y0->4294967296<=r'+y1):=by
 obtain⟨z,e1,⟨q',r',rfl,hI⟩,hs⟩:=mq (rnd:=Bq) (λp=>∃q r,p=mU.mk y s y1 y0 d e r u q/\gX y1 y0 u d q r) (λp=>zD p.t18) (λp p' ⟨q,r,hp,hI⟩ hn=>by
  subst hp;have hn:Bq (mU.mk y s y1 y0 d e r u q)=V (V p'):=hn;simp only[Bq]at hn;rw[gX.cnd H hI]at hn;by_cases hc:4294967296<=q\/4294967296*r+d<q*y0
  ·rw[b7 hc]at hn;simp only[cI,gX.wr1 H hI,gX.wq1 H hI hc]at hn;by_cases hb:4294967296<=r+y1
   ·rw[b7 hb]at hn;cases hn
   ·rw[bY hb]at hn;simp only[cv,zF.injEq]at hn;have hp:=gX.pos H hI hc;subst hn;exact⟨⟨q-1,r+y1,rfl,gX.next H hI hc aq⟩,by show (q-1).toNat<q.toNat;omega⟩
  ·rw[bY hc]at hn;cases hn) ⟨q,r,rfl,h⟩
 refine⟨q',r',e1,hI,λhc=> ?_⟩;by_cases hb:4294967296<=r'+y1
 ·exact hb
 ·exact ep (show Bq _=V (V _)by
   simp only[Bq];rw[gX.cnd H hI,b7 hc];simp only[cI,gX.wr1 H hI];rw[bY hb];rfl) (hs _)
def apW{n:Int}(h1:0<=n)(h2:n<256):IntKind.u8.wrap n=n:=by
 simp only[aj,bE,IntKind.wrap,IntKind.signed,IntKind.bits]at*;simp;omega
def ae1{x:Int}(k:Nat)(hk:k<=64):cT u64 x (k:Int)=x/2^k:=by
 unfold cT;rw[show min ((k:Int)).toNat u64.bits=k from by simp only[zg,IntKind.bits];omega];exact Int.fdiv_eq_ediv_of_nonneg _ (xU (Int.pow_pos aq))
def aoO(i:Nat):Bool:=i==0||((zN 9).any λt=>(lV.data[i]!).toNat==t&&J (1<=t)&&J (2^(t-1)<=i)&&J (i<2^t))
def agP:(zN 256).all aoO=O:=aW
def aje{x:Int}(h1:1<=x)(h2:x<256):∃t:Nat,1<=t/\t<=8/\cw lV (IntKind.u8.wrap x).toNat=(t:Int)/\2^(t-1)<=x/\x<2^t:=by
 rw[apW aq h2];have h:=zx.mp agP x.toNat (List.mem_range.mpr aq);simp only[aoO,yK,beq_iff_eq,wo,List.mem_range,zi,decide_eq_true_eq]at h;rcases h with h|⟨t,ht,⟨⟨h3,h4⟩,h5⟩,h6⟩
 ·omega
 ·have h5':((2^(t-1):Nat):Int)<=(x.toNat:Int):=Int.ofNat_le.mpr h5;have h6':((x.toNat:Nat):Int)<((2^t:Nat):Int):=Int.ofNat_lt.mpr h6;rw[Int.toNat_of_nonneg aq,Int.natCast_pow]at h5' h6';exact⟨t,h4,aq,by unfold cw;rw[h3],h5',h6'⟩
def ade{a x:Int}{n t:Nat}(h1:1<=t)(h2:t<=8)(hx1:2^(t-1)<=x)(hx2:x<2^t)(hn:n<=56)(ha1:x*2^n<=a)(ha2:a<(x+1)*2^n):
  2^63<=a*2^(64-(n+t))/\a*2^(64-(n+t))<2^64:=by
 have p0:∀k:Nat,(0:Int)<2^k:=λk=>Int.pow_pos aq;have e1:(2:Int)^63=2^(t-1)*2^n*2^(64-(n+t)):=by
  rw[<-Int.pow_add,<-Int.pow_add];congr 1;omega
 have e2:(2:Int)^64=2^t*2^n*2^(64-(n+t)):=by
  rw[<-Int.pow_add,<-Int.pow_add];congr 1;omega
 rw[e1,e2];refine⟨zL (xV (zL hx1 (xU (p0 n))) ha1) (xU (p0 _)),?_⟩;refine Int.mul_lt_mul_of_pos_right (Int.lt_of_lt_of_le ha2 ?_) (p0 _);exact zL aq (xU (p0 n))
def Vd(x:Int):cT u64 x 32=x/4294967296:=ae1 (x:=x) 32 aq
def awz(x:Int):cT u64 x 16=x/65536:=ae1 (x:=x) 16 aq
def aGI(x:Int):cT u64 x 8=x/256:=ae1 (x:=x) 8 aq
def aaY(a:Int)(r:af Int):Prop:=∃s:Nat,s<=63/\(match r with|I=>I|V r1=>V (aj (64-r1)))=V (s:Int)/\2^63<=a*2^s/\a*2^s<2^64
def jd{a x:Int}(n:Nat)(hn:n<=56)(hx1:1<=x)(hx2:x<256)(ha1:x*2^n<=a)(ha2:a<(x+1)*2^n):
  aaY a (if(0:Int)<=IntKind.u8.wrap x/\IntKind.u8.wrap x<(256:Int)then V (aj ((n:Int)+aj (cw lV (IntKind.u8.wrap x).toNat)))else I):=by
 obtain⟨t,h1,h2,h3,h4,h5⟩:=aje hx1 hx2;rw[bJ (by rw[apW aq hx2];omega),h3];refine⟨64-(n+t),aq,?_,ade h1 h2 h4 h5 hn ha1 ha2⟩;rw[aM (n:=(t:Int)),aM (n:=(n:Int)+t)];show V _=_;rw[aM]
 congr 1
 omega
def aiI{a:Int}(h1:1<=a)(h2:a<18446744073709551616):∃s:Nat,s<=63/\arW a=V (s:Int)/\2^63<=a*2^s/\a*2^s<2^64:=by
 show aaY a (alq a);unfold alq;simp only[Vd,awz,aGI];by_cases c1:4294967296<=a
 ·rw[b7 c1,cI];by_cases c2:65536<=a/4294967296
  ·rw[b7 c2,cI];by_cases c3:256<=a/4294967296/65536
   ·rw[b7 c3,cI];exact jd 56 aq aq aq aq aq
   ·rw[bY c3,cv];exact jd 48 aq aq aq aq aq
  ·rw[bY c2,cv];by_cases c3:256<=a/4294967296
   ·rw[b7 c3,cI];exact jd 40 aq aq aq aq aq
   ·rw[bY c3,cv];exact jd 32 aq aq aq aq aq
 ·rw[bY c1,cv];by_cases c2:65536<=a
  ·rw[b7 c2,cI];by_cases c3:256<=a/65536
   ·rw[b7 c3,cI];exact jd 24 aq aq aq aq aq
   ·rw[bY c3,cv];exact jd 16 aq aq aq aq aq
  ·rw[bY c2,cv];by_cases c3:256<=a
   ·rw[b7 c3,cI];exact jd 8 aq aq aq aq aq
   ·rw[bY c3,cv];exact jd 0 aq aq aq aq aq
def aqs{x:Int}(k:Nat)(hk:k<=64):nh u64 x (k:Int)=(x*2^k)%18446744073709551616:=by
 unfold nh;rw[show min ((k:Int)).toNat u64.bits=k from by simp only[zg,IntKind.bits];omega];exact Qn _
def J8{x:Int}(h1:0<=x)(h2:x<18446744073709551616):(BitVec.ofInt 64 x).toNat=x.toNat:=by
 rw[BitVec.toNat_ofInt]
 congr 1
 omega
def aaV{x:Int}(h1:0<=x)(h2:x<18446744073709551616):ur u64 x 4294967295=x%4294967296:=by
 unfold ur;show bE ((BitVec.ofInt 64 x&&&BitVec.ofInt 64 4294967295).toNat:Int)=_;rw[BitVec.toNat_and,J8 h1 h2,J8 aq aq,show (4294967295:Int).toNat=2^32-1 from rfl,Nat.and_two_pow_sub_one_eq_mod,gR];omega
def orU{a b:Nat}{k:Nat}(hb:b<2^k)(h:2^k*a+b<18446744073709551616):bOr u64 ((2^k*a:Nat):Int) (b:Int)=((2^k*a+b:Nat):Int):=by
 unfold bOr;show bE ((BitVec.ofInt 64 ((2^k*a:Nat):Int)|||BitVec.ofInt 64 (b:Int)).toNat:Int)=_;rw[BitVec.toNat_or,J8 aq aq,J8 aq aq,zg,zg,<-Nat.two_pow_add_eq_or_of_lt hb,gR]
def kG{a b:Int}(h1:0<=a:=by omega):a.tdiv b=a/b:=Int.tdiv_eq_ediv_of_nonneg h1
def kV{a b:Int}(h1:0<=a:=by omega):a.tmod b=a%b:=Int.tmod_eq_emod_of_nonneg h1
def wq0{u y1:Int}(h1:0<=u)(h2:u<18446744073709551616)(h3:2<=y1):bE (u.tdiv y1)=u/y1:=by
 rw[kG h1];have:u/y1<=u:=yo _ h1;exact gR (zS h1 aq) aq
def wr0{u y1:Int}(h1:0<=u)(h2:u<18446744073709551616)(h3:2<=y1):bE (u-bE (u/y1*y1))=u%y1:=by
 have e:=yX u y1;have m0:=yY u (b:=y1) aq;rw[zO]at e;have q0:0<=u/y1*y1:=zJ (zS h1 aq) aq;rw[gR (n:=u/y1*y1) q0 aq,gR];omega
def aoP{u d q y:Int}(h1:q*y<=u*4294967296+d)(h2:u*4294967296+d<(q+1)*y)(hy:y<18446744073709551616):
  bE (bE (bE (u*4294967296)+d)-bE (q*y))=u*4294967296+d-q*y:=by
 rw[zU,yc]at h2;generalize q*y=z at*;simp only[Qn];omega
def aqI{hi lo y:Int}(h0:0<=hi)(h1:hi<y)(h2:y<18446744073709551616)(h3:0<=lo)(h4:lo<18446744073709551616):∃q,acT hi lo y=V (q,(hi*18446744073709551616+lo)%y):=by
 by_cases hz:hi=0
 ·subst hz;refine⟨bE (lo.tdiv y),?_⟩;unfold acT;rw[fO,fO,b7 rfl,cv,cv,cI,gV,gV,kV h3];rw[show (0:Int)*18446744073709551616+lo=lo by omega]
 obtain⟨s,hs,es,b1,b2⟩:=aiI (a:=y) aq h2;have hP:(0:Int)<2^s:=Int.pow_pos aq;have hQ:(0:Int)<2^(64-s):=Int.pow_pos aq;have hPQ:(2:Int)^(64-s)*2^s=18446744073709551616:=by rw[<-Int.pow_add,show 64-s+s=64 by omega];rfl
 have b1:(9223372036854775808:Int)<=y*2^s:=b1;have b2:y*2^s<18446744073709551616:=b2;have eY:nh u64 y (s:Int)=y*2^s:=by rw[aqs s aq,Int.emod_eq_of_lt aq b2]
 have lb:lo/2^(64-s)<2^s:=wW hQ (by rw[zO,hPQ];exact h4);have lb0:0<=lo/2^(64-s):=zS h3 aq;have hy1:(hi+1)*2^s<=y*2^s:=zL aq aq;have hy2:(hi+1)*2^s=hi*2^s+2^s:=by rw[zU,yc]
 have hp0:0<=hi*2^s:=zJ h0 aq;have eU:bOr u64 (nh u64 hi (s:Int)) (cT u64 lo (bE (64-(s:Int))))=hi*2^s+lo/2^(64-s):=by
  rw[aqs s aq,Int.emod_eq_of_lt hp0 aq,gR (n:=64-(s:Int)),show (64-(s:Int))=((64-s:Nat):Int)by omega,ae1 (64-s) aq];obtain⟨a,rfl⟩:=wX h0;obtain⟨b,hb⟩:=wX lb0;rw[hb]at lb ⊢;have e:(a:Int)*2^s=((2^s*a:Nat):Int):=by rw[wJ,Int.natCast_pow,zO];rfl
  have lb':b<2^s:=by
   have:((b:Nat):Int)<((2^s:Nat):Int):=by rw[Int.natCast_pow];exact lb
   exact Int.ofNat_lt.mp this
  rw[e]at hp0 hy2 ⊢;rw[orU lb' aq];omega
 have eD:nh u64 lo (s:Int)=(lo*2^s)%18446744073709551616:=aqs s aq;have key:(hi*18446744073709551616+lo)*2^s=(hi*2^s+lo/2^(64-s))*18446744073709551616+(lo*2^s)%18446744073709551616:=by
  have k1:=yX (lo*2^s) 18446744073709551616;have k2:lo*2^s/18446744073709551616=lo/2^(64-s):=by rw[<-hPQ];exact Int.mul_ediv_mul_of_pos_left _ _ hP
  rw[k2]at k1;rw[zU,yb,zO 18446744073709551616 (2^s),<-yb];omega
 have hD0:0<=(lo*2^s)%18446744073709551616:=aq;have hD1:(lo*2^s)%18446744073709551616<18446744073709551616:=aq;have hU0:0<=hi*2^s+lo/2^(64-s):=aq;have hU1:hi*2^s+lo/2^(64-s)<y*2^s:=aq;have res:∀ae,ae*(y*2^s)<=(hi*18446744073709551616+lo)*2^s->(hi*18446744073709551616+lo)*2^s<(ae+1)*(y*2^s)->((hi*18446744073709551616+lo)*2^s-ae*(y*2^s))/2^s=(hi*18446744073709551616+lo)%y:=λae q1 q2=>by
  rw[<-yb,<-yC,Int.mul_ediv_cancel _ aq];rw[<-yb]at q1 q2;have q1:=Int.le_of_mul_le_mul_right q1 hP;have q2:=wM q2 (xU hP);rw[zU,yc]at q2;have e:=yX (hi*18446744073709551616+lo) y;generalize hi*18446744073709551616+lo=X at*;have:X/y=ae:=by
   apply Int.le_antisymm
   ·have:X/y<ae+1:=wW aq (by rw[zU,yc];exact q2);omega
   ·exact Int.le_ediv_of_mul_le aq q1
  rw[this,zO]at e;omega
 rw[key]at res;unfold acT;rw[bY (show ¬y=0 by omega),bY (show ¬y<=hi by omega),bY hz,cv,cv,cv,es];simp only[gR (n:=(s:Int))];rw[eY,eU,eD,gR (n:=64-(s:Int)),gV,gV,gV,gV];generalize hi*2^s+lo/2^(64-s)=U at*;generalize (lo*2^s)%18446744073709551616=D at*;generalize y*2^s=Y at*;clear eY eU eD key hy1 hy2 hp0 lb lb0 hPQ hQ h1 hz;have eY1:Y/4294967296*4294967296+Y%4294967296=Y:=aq;have H0:sW (Y/4294967296) (Y%4294967296) U (D/4294967296):=⟨aq,aq,aq,aq,hU0,aq,aq,aq⟩;have hU2:U<18446744073709551616:=aq;rw[Vd,Vd,aaV hD0 hD1,aaV aq b2,gV,wq0 hU0 hU2 aq,wr0 hU0 hU2 aq];obtain⟨q1,r1,e1,I1,s1⟩:=aaR (y:=Y) (s:=(s:Int)) (e:=D%4294967296) H0 (gX.start H0);rw[e1];have D1:=gX.done H0 I1 s1;simp only[gX.cnd H0 I1,gX.wr1 H0 I1];have second:∀Q1,Ol (Y/4294967296) (Y%4294967296) U (D/4294967296) Q1->∃am,sW (Y/4294967296) (Y%4294967296) am (D%4294967296)/\bE (bE (bE (U*4294967296)+D/4294967296)-bE (Q1*Y))=am/\am=U*4294967296+D/4294967296-Q1*Y/\0<=am/\am<Y:=λQ1 hk=>by
  unfold Ol at hk;rw[eY1]at hk;obtain⟨k0,k1,k2,k3⟩:=hk;have k4:=k3;rw[zU,yc]at k4;exact⟨_,⟨aq,aq,aq,aq,aq,aq,aq,aq⟩,aoP k2 k3 b2,rfl,aq,aq⟩
 have fin:∀Q1 Q2 am,am=U*4294967296+D/4294967296-Q1*Y->Ol (Y/4294967296) (Y%4294967296) am (D%4294967296) Q2->cT u64 (bE (bE (bE (am*4294967296)+D%4294967296)-bE (Q2*Y))) (s:Int)=(hi*18446744073709551616+lo)%y:=λQ1 Q2 am hW hk=>by
  unfold Ol at hk;rw[eY1]at hk;obtain⟨k0,k1,k2,k3⟩:=hk;rw[aoP k2 k3 b2,ae1 s aq];have e:U*18446744073709551616+D=am*4294967296+D%4294967296+Q1*4294967296*Y:=by
   rw[hW,yb,zO 4294967296 Y,<-yb];omega
  rw[<-res (Q1*4294967296+Q2)]
  ·congr 1
   rw[zU];omega
  ·rw[zU];omega
  ·rw[zU,yc]at k3;rw[Int.add_assoc,zU,zU Q2,yc];omega
 by_cases c1:4294967296<=q1\/4294967296*r1+D/4294967296<q1*(Y%4294967296)
 ·rw[b7 c1]at D1 ⊢;rw[cI]at D1;rw[cI,b7 (s1 c1),cI,gV,gX.wq1 H0 I1 c1];obtain⟨am,H1,w1,w2,w3,w4⟩:=second _ D1;rw[w1,wq0 w3 aq aq,wr0 w3 aq aq];obtain⟨q2,r2,e2,I2,s2⟩:=Nh (y:=Y) (s:=(s:Int)) (e:=q1-1) H1 (gX.start H1);rw[e2];have D2:=gX.done H1 I2 s2;simp only[gX.cnd H1 I2,gX.wr1 H1 I2];by_cases c2:4294967296<=q2\/4294967296*r2+D%4294967296<q2*(Y%4294967296)
  ·rw[b7 c2]at D2 ⊢;rw[cI]at D2;rw[cI,b7 (s2 c2),cI,gV,gX.wq1 H1 I2 c2,fin _ _ am w2 D2];exact⟨_,rfl⟩
  ·rw[bY c2]at D2 ⊢;rw[cv]at D2;rw[cv,gV,fin _ _ am w2 D2];exact⟨_,rfl⟩
 ·rw[bY c1]at D1 ⊢;rw[cv]at D1;rw[cv,gV];obtain⟨am,H1,w1,w2,w3,w4⟩:=second _ D1;rw[w1,wq0 w3 aq aq,wr0 w3 aq aq];obtain⟨q2,r2,e2,I2,s2⟩:=Nh (y:=Y) (s:=(s:Int)) (e:=q1) H1 (gX.start H1);rw[e2];have D2:=gX.done H1 I2 s2;simp only[gX.cnd H1 I2,gX.wr1 H1 I2];by_cases c2:4294967296<=q2\/4294967296*r2+D%4294967296<q2*(Y%4294967296)
  ·rw[b7 c2]at D2 ⊢;rw[cI]at D2;rw[cI,b7 (s2 c2),cI,gV,gX.wq1 H1 I2 c2,fin _ _ am w2 D2];exact⟨_,rfl⟩
  ·rw[bY c2]at D2 ⊢;rw[cv]at D2;rw[cv,gV,fin _ _ am w2 D2];exact⟨_,rfl⟩
def mul_lt{a b m n:Int}(h1:0<=a)(h2:a<=m)(h3:0<=b)(h4:b<=n):0<=a*b/\a*b<=m*n:=
 ⟨zJ h1 h3,yZ h2 h4 h3 aq⟩
def aqy{x y:Int}(h1:0<=x)(h2:x<18446744073709551616)(h3:0<=y)(h4:y<18446744073709551616):afe x y=(x*y/18446744073709551616,x*y%18446744073709551616):=by
 unfold afe;simp only[Vd,aaV h1 h2,aaV h3 h4];have e:x*y=(x/4294967296*(y/4294967296))*18446744073709551616+(x/4294967296*(y%4294967296))*4294967296+(x%4294967296*(y/4294967296))*4294967296+x%4294967296*(y%4294967296):=by
  conv=>lhs;rw[show x=x/4294967296*4294967296+x%4294967296 by omega,show y=y/4294967296*4294967296+y%4294967296 by omega]
  generalize x/4294967296=a;generalize x%4294967296=b;generalize y/4294967296=c;generalize y%4294967296=d;rw[zU,xE,xE,yb,Int.mul_left_comm 4294967296 c,yb,zO 4294967296 d,<-yb b,<-yb a d,<-yb a c];omega
 obtain⟨a0,a1⟩:=mul_lt (a:=x/4294967296) (b:=y/4294967296) (m:=4294967295) (n:=4294967295) aq aq aq aq;obtain⟨b0,b1⟩:=mul_lt (a:=x/4294967296) (b:=y%4294967296) (m:=4294967295) (n:=4294967295) aq aq aq aq;obtain⟨c0,c1⟩:=mul_lt (a:=x%4294967296) (b:=y/4294967296) (m:=4294967295) (n:=4294967295) aq aq aq aq;obtain⟨d0,d1⟩:=mul_lt (a:=x%4294967296) (b:=y%4294967296) (m:=4294967295) (n:=4294967295) aq aq aq aq;rw[e];generalize x/4294967296*(y/4294967296)=A at*;generalize x/4294967296*(y%4294967296)=ad at*;generalize x%4294967296*(y/4294967296)=C at*;generalize x%4294967296*(y%4294967296)=D at*;rw[gR (n:=A),gR (n:=ad),gR (n:=C),gR (n:=D),
  gR (n:=ad+D/4294967296),aaV aq aq,gR (n:=(ad+D/4294967296)%4294967296+C)]
 rw[gR (n:=A+(ad+D/4294967296)/4294967296),gR,Qn]
 congr 1
 omega
def auX{x y m:Int}(h1:0<=x)(h2:x<m)(h3:0<=y)(h4:y<m)(h5:m<9223372036854775808):ahF x y m=V (x*y%m):=by
 unfold ahF;rw[gR h1 aq,gR h3 aq,gR (n:=m),aqy h1 aq h3 aq];simp only;obtain⟨k0,k1⟩:=mul_lt (a:=x) (b:=y) (m:=m) (n:=m-1) h1 aq h3 aq;have hx:x*y<m*18446744073709551616:=by
  have:m*(m-1)<=m*18446744073709551615:=wY aq aq;omega
 unfold asU;have hh:x*y/18446744073709551616<m:=wW aq hx;have hh0:0<=x*y/18446744073709551616:=aq;rw[gV,kV hh0,Int.emod_eq_of_lt hh0 hh];obtain⟨q,e⟩:=aqI hh0 hh aq (show 0<=x*y%18446744073709551616 by omega) aq;rw[e,show x*y/18446744073709551616*18446744073709551616+x*y%18446744073709551616=x*y by omega];simp only;have r0:=yY (x*y) (b:=m) aq;have r1:=y7 (x*y) (b:=m) aq;rw[aM]
def cA(a b:Int):Int:=((yD a b:Nat):Int)
def rD{a b:Int}(h1:0<=a)(h2:0<=b):yD b (a.tmod b)=yD a b:=by
 obtain⟨x,rfl⟩:=wX h1;obtain⟨y,rfl⟩:=wX h2;rw[kV h1];show Nat.gcd y ((x:Int)%(y:Int)).natAbs=Nat.gcd x y;rw[<-Int.natCast_emod,Int.natAbs_natCast,Nat.gcd_comm,<-Nat.gcd_rec,Nat.gcd_comm]
def aoK{a:Int}(h:0<=a):((yD a 0:Nat):Int)=a:=by
 rw[Int.gcd_zero_right];omega
def C4{x:Int}:(bif J (x=0)then G else O)=J (¬x=0):=by
 by_cases h:x=0
 ·rw[b7 h,bY (λk=>k h)];rfl
 ·rw[bY h,b7 h];rfl
def atT{a b:Int}(h1:0<=a)(h2:0<=b):F5 (oA.mk a b)=V (oA.mk (yD a b) 0):=by
 obtain⟨z,e,⟨x,y,rfl,hx,hy,hg⟩,hs⟩:=mq (rnd:=tG) (λp=>∃x y,p=oA.mk x y/\0<=x/\0<=y/\yD x y=yD a b) (λp=>zD p.t1) (λp p' ⟨x,y,hp,hx,hy,hg⟩ hn=>by
  subst hp;have hn:tG (oA.mk x y)=V (V p'):=hn;simp only[tG,C4]at hn;by_cases h0:y=0
  ·rw[fO,cv]at hn;cases hn
  ·rw[b7 h0,cI,bJ h0]at hn;simp only[zF.injEq]at hn;subst hn;have m0:=yY x (b:=y) h0;have m1:=y7 x (b:=y) aq;refine⟨⟨y,x.tmod y,rfl,hy,by rw[kV hx];exact m0,by rw[rD hx hy,hg]⟩,?_⟩;show (x.tmod y).toNat<y.toNat
   rw[kV hx];omega) ⟨a,b,rfl,h1,h2,rfl⟩
 have h0:y=0:=Decidable.byContradiction λh0=>hs _ (show tG _=V (V _)by
  simp only[tG,C4];rw[b7 h0,cI,bJ h0])
 subst h0;rw[show F5=bI tG from rfl,e,<-hg,aoK hx]
def C7{a b:Int}(h1:0<=a)(h2:0<=b):C0 a b=V (cA a b):=by
 unfold C0;rw[atT h1 h2];rfl
def aug{a b k n:Int}{l:aa Int}(h1:0<=a)(h2:0<=b):Cd (mS.mk a b l n k)=V (mS.mk (yD a b) 0 l n k):=by
 obtain⟨z,e,⟨x,y,rfl,hx,hy,hg⟩,hs⟩:=mq (rnd:=ud) (λp=>∃x y,p=mS.mk x y l n k/\0<=x/\0<=y/\yD x y=yD a b) (λp=>zD p.t5) (λp p' ⟨x,y,hp,hx,hy,hg⟩ hn=>by
  subst hp;have hn:ud (mS.mk x y l n k)=V (V p'):=hn;simp only[ud,C4]at hn;by_cases h0:y=0
  ·rw[fO,cv]at hn;cases hn
  ·rw[b7 h0,cI,bJ h0]at hn;simp only[zF.injEq]at hn;subst hn;have m0:=yY x (b:=y) h0;have m1:=y7 x (b:=y) aq;refine⟨⟨y,x.tmod y,rfl,hy,by rw[kV hx];exact m0,by rw[rD hx hy,hg]⟩,?_⟩;show (x.tmod y).toNat<y.toNat
   rw[kV hx];omega) ⟨a,b,rfl,h1,h2,rfl⟩
 have h0:y=0:=Decidable.byContradiction λh0=>hs _ (show ud _=V (V _)by
  simp only[ud,C4];rw[b7 h0,cI,bJ h0])
 subst h0;rw[show Cd=bI ud from rfl,e,<-hg,aoK hx]
def Eh{a k k1:Int}{l:aa Int}(i:Nat)(h1:0<=a)(hk:k=i)(hk1:k1=i+1)(hi:i<zR l)(hl:zR l<=1000)(h2:0<=l[i]!):tU (ua.mk a l (zR l) k)=V (V (ua.mk (cA a l[i]!) l (zR l) k1)):=by
 subst hk hk1;unfold tU;simp only;rw[om,cI,gV,zg,aug h1 h2];simp only;rw[b7 trivial,cI,cv,aM];rfl
def FE{a b:Int}(h1:0<=a)(h2:0<=b):C3 [a,b]=V (cA a b):=by
 unfold C3;rw[show FT=bI tU from rfl,
  bR (Eh (l:=[a,b]) (k:=0) (k1:=1) 0 (zw 0) rfl rfl (by simp) (by simp) h1),bR (Eh (l:=[a,b]) (k:=1) (k1:=2) 1 (by unfold cA;omega) rfl rfl (by simp) (by simp) h2)]
 rw[ct (by intro r hr;simp[tU]at hr)];simp only;rw[bY (by simp),cv];show V (cA (cA 0 a) b)=_;unfold cA;rw[Int.gcd_zero_left,show ((a.natAbs:Nat):Int)=a by omega]
def Gr{a b c:Int}(h1:0<=a)(h2:0<=b)(h3:0<=c):C3 [a,b,c]=V (cA (cA a b) c):=by
 unfold C3;rw[show FT=bI tU from rfl,
  bR (Eh (l:=[a,b,c]) (k:=0) (k1:=1) 0 (zw 0) rfl rfl (by simp) (by simp) h1),bR (Eh (l:=[a,b,c]) (k:=1) (k1:=2) 1 (by unfold cA;omega) rfl rfl (by simp) (by simp) h2),
  bR (Eh (l:=[a,b,c]) (k:=2) (k1:=3) 2 (by unfold cA;omega) rfl rfl (by simp) (by simp) h3)]
 rw[ct (by intro r hr;simp[tU]at hr)];simp only;rw[bY (by simp),cv];show V (cA (cA (cA 0 a) b) c)=_;rw[show cA 0 a=a from by unfold cA;rw[Int.gcd_zero_left];omega]
end Go.Proofs.YtnfljbehcffmcaaGreat
end
noncomputable section
namespace Go.Iv
open Go
variable [U:tf] [L:nu]
def Py{α W S u:Type}(step:Nat->W->α->W ⊕ S)(out:S->u)(fin:W->u):aa α->Nat->W->u
 |[],_,b=>fin b
 |x::xs,i,b=>match step i b x with
  | .inl b'=>Py step out fin xs (i+1) b'
  | .inr r=>out r
def sy{α W S u:Type}{step:Nat->W->α->W ⊕ S}{out:S->u}{fin:W->u}{x:α}{xs:aa α}{i:Nat}{b b':W}(h:step i b x= .inl b'):Py step out fin (x::xs) i b=Py step out fin xs (i+1) b':=by
 simp only[Py,h]
def oD{α W S u:Type}{step:Nat->W->α->W ⊕ S}{out:S->u}{fin:W->u}{x:α}{xs:aa α}{i:Nat}{b:W}{r:S}(h:step i b x= .inr r):Py step out fin (x::xs) i b=out r:=by
 simp only[Py,h]
def Va{Q α W S u:Type}[Inhabited α]{rnd:Q->af (af Q)}(l:aa α)(mk:Nat->W->Q)(step:Nat->W->α->W ⊕ S)(out:S->u)(fin:W->u)(zb:Nat->W->Prop)
  (h1:∀i b,i<zR l->zb i b->(∀b',step i b l[i]! = .inl b'->rnd (mk i b)=V (V (mk (i+1) b'))/\zb (i+1) b')/\∀r,step i b l[i]! = .inr r->rnd (mk i b)=V I)
  (h2:∀b,zb (zR l) b->rnd (mk (zR l) b)=V I) {b:W} (hb:zb 0 b):
  ∃i v,bI rnd (mk 0 b)=V (mk i v)/\zb i v/\((i=zR l/\Py step out fin l 0 b=fin v)\/(i<zR l/\∃r,step i v l[i]! = .inr r/\Py step out fin l 0 b=out r)):=by
 have key:∀(xs:aa α) (i:Nat) (b:W),l.drop i=xs->i<=zR l->zb i b->∃j v,bI rnd (mk i b)=V (mk j v)/\zb j v/\((j=zR l/\Py step out fin xs i b=fin v)\/(j<zR l/\∃r,step j v l[j]! = .inr r/\Py step out fin xs i b=out r)):=by
  intro xs;induction xs with
  |nil=>
   intro i b hd hi hb;have:i=zR l:=by have:=congrArg zR hd;simp at this;omega
   subst this;exact⟨_,b,ct (λr=>by rw[h2 b hb];simp),hb, .inl ⟨rfl,rfl⟩⟩
  |cons x xs ih=>
   intro i b hd hi hb;have hil:i<zR l:=by have:=congrArg zR hd;simp at this;omega
   have hx:l[i]! =x:=by
    have:=congrArg List.head? hd;rw[List.head?_drop,zq hil]at this;simp_all
   have hd':l.drop (i+1)=xs:=by
    have:=congrArg List.tail hd;rw[List.tail_drop]at this
    assumption
   obtain⟨p1,p2⟩:=h1 i b hil hb;cases hs:step i b x with
   |inl b'=>
    obtain⟨q1,q2⟩:=p1 b' (by rw[hx];exact hs);obtain⟨j,v,e2,e3,e4⟩:=ih (i+1) b' hd' hil q2;rw[sy hs];exact⟨j,v,by rw[bR q1];exact e2,e3,e4⟩
   |inr r=>
    rw[oD hs];exact⟨i,b,ct (λr'=>by rw[p2 r (by rw[hx];exact hs)];simp),hb, .inr ⟨hil,r,by rw[hx];exact hs,rfl⟩⟩
 exact key l 0 b rfl (yV _) hb
def bu{α:Type}[Inhabited α]{l:aa α}{i:Nat}(h:i<zR l):l[i]!∈l:=by rw[getElem!_pos l i h];exact xO h
def jG{i n:Nat}(h:i<n)(hn:n<=1000000):aj ((i:Int)+1)=((i+1:Nat):Int):=by rw[aM];omega
def me{Q W:Type}{rnd:Q->af (af Q)}(n:Nat)(mk:Nat->W->Q)(zb ac:Nat->W->Prop)
  (h1:∀i b,i<n->zb i b->(∃b',rnd (mk i b)=V (V (mk (i+1) b'))/\zb (i+1) b')\/(rnd (mk i b)=V I/\ac i b))
  (h2:∀b,zb n b->rnd (mk n b)=V I) {b:W} (hb:zb 0 b):
  ∃i v,bI rnd (mk 0 b)=V (mk i v)/\zb i v/\(i=n\/(i<n/\ac i v)):=by
 have key:∀(k i:Nat) (b:W),i+k=n->zb i b->∃j v,bI rnd (mk i b)=V (mk j v)/\zb j v/\(j=n\/(j<n/\ac j v)):=by
  intro k;induction k with
  |zero=>
   intro i b hi hb;have:i=n:=aq;subst this;exact⟨_,b,ct (λr=>by rw[h2 b hb];simp),hb, .inl rfl⟩
  |succ k ih=>
   intro i b hi hb;rcases h1 i b aq hb with ⟨b',q1,q2⟩|⟨q1,q2⟩
   ·rw[bR q1];grind
   ·exact⟨i,b,ct (λr=>by rw[q1];simp),hb, .inr ⟨aq,q2⟩⟩
 simp_all
def cH{Q W:Type}{rnd:Q->af (af Q)}(n:Nat)(mk:Nat->W->Q)(zb:Nat->W->Prop)
  (h1:∀i b,i<n->zb i b->∃b',rnd (mk i b)=V (V (mk (i+1) b'))/\zb (i+1) b')
  (h2:∀b,zb n b->rnd (mk n b)=V I) {b:W} (hb:zb 0 b):∃v,bI rnd (mk 0 b)=V (mk n v)/\zb n v:=by
 obtain⟨i,v,e,hi,h⟩:=me n mk zb (λ_ _=>False) (λi b hi hb=> .inl (h1 i b hi hb)) h2 hb;rcases h with rfl|⟨_,h⟩
 ·exact⟨v,e,hi⟩
 ·simp_all
def cz{α:Type}(c:Nat->α->Int):aa α->Nat->Int
 |[],_=>0
 |x::xs,i=>if c i x=0 then cz c xs (i+1)else c i x
def tu{Q α:Type}[Inhabited α]{rnd:Q->af (af Q)}(l:aa α)(mk:Nat->Q)(c:Nat->α->Int)
  (h1:∀i,i<zR l->(c i l[i]! =0->rnd (mk i)=V (V (mk (i+1))))/\(c i l[i]!≠0->rnd (mk i)=V I))
  (h2:rnd (mk (zR l))=V I):
  ∃i,bI rnd (mk 0)=V (mk i)/\((i=zR l/\cz c l 0=0)\/(i<zR l/\c i l[i]!≠0/\cz c l 0=c i l[i]!)):=by
 have key:∀(xs:aa α) (i:Nat),l.drop i=xs->i<=zR l->∃j,bI rnd (mk i)=V (mk j)/\((j=zR l/\cz c xs i=0)\/(j<zR l/\c j l[j]!≠0/\cz c xs i=c j l[j]!)):=by
  intro xs;induction xs with
  |nil=>
   intro i hd hi;have:i=zR l:=by have:=congrArg zR hd;simp at this;omega
   subst this;exact⟨_,ct (λr=>by rw[h2];simp), .inl ⟨rfl,rfl⟩⟩
  |cons x xs ih=>
   intro i hd hi;have hil:i<zR l:=by have:=congrArg zR hd;simp at this;omega
   have hx:l[i]! =x:=by
    have:=congrArg List.head? hd;rw[List.head?_drop,zq hil]at this;simp_all
   have hd':l.drop (i+1)=xs:=by
    have:=congrArg List.tail hd;rw[List.tail_drop]at this
    assumption
   obtain⟨p1,p2⟩:=h1 i hil;unfold cz;rw[hx]at p1 p2;by_cases hc:c i x=0
   ·rw[bJ hc,bR (p1 hc)];exact ih (i+1) hd' hil
   ·rw[bN hc];exact⟨i,ct (λr=>by rw[p2 hc];simp), .inr ⟨hil,by rw[hx];exact hc,by rw[hx]⟩⟩
 exact key l 0 rfl (yV _)
def qh{Q α:Type}[Inhabited α]{rnd:Q->af (af Q)}(l:aa α)(mk:Nat->Q)(c:Nat->α->Bool)
  (h1:∀i,i<zR l->(c i l[i]! =O->rnd (mk i)=V (V (mk (i+1))))/\(c i l[i]! =G->rnd (mk i)=V I))
  (h2:rnd (mk (zR l))=V I):
  ∃i,bI rnd (mk 0)=V (mk i)/\((i=zR l/\∀j,j<zR l->c j l[j]! =O)\/(i<zR l/\c i l[i]! =G)):=by
 obtain⟨i,v,e,hI,h⟩:=me (W:=Unit) (rnd:=rnd) (zR l) (λi _=>mk i) (λi _=>∀j,j<i->c j l[j]! =O) (λi _=>c i l[i]! =G) (λi b hi hI=>by
   obtain⟨p1,p2⟩:=h1 i hi;cases hc:c i l[i]! with
   |true=>exact .inl ⟨(),p1 hc,λj hj=>by
     rcases xo.1 hj with h|h
     ·exact hI j h
     ·subst h;exact hc⟩
   |false=>exact .inr ⟨p2 hc,rfl⟩) (λb _=>h2) (b:=()) (λj hj=>ep hj aq)
 refine⟨i,e,?_⟩;rcases h with h|h
 ·subst h;exact .inl ⟨rfl,hI⟩
 ·exact .inr h
def D3{α:Type}[Inhabited α]{l:aa α}{p:α->Bool}(h:∀j,j<zR l->p l[j]! =O):l.all p=O:=by
 rw[zx];intro x hx;obtain⟨i,hi,e⟩:=y5 hx;have:=h i hi;simp_all
def vq{α:Type}[Inhabited α]{l:aa α}{p:α->Bool}{i:Nat}(hi:i<zR l)(h:p l[i]! =G):l.all p=G:=by
 cases ha:l.all p with
 |false=>rfl
 |true=>
  rw[zx]at ha;rw[ha _ (bu hi)]at h;omega
def uM{α:Type}[Inhabited α]{l:aa α}{p:α->Bool}(h:∀j,j<zR l->p l[j]! =G):l.any p=G:=by
 cases ha:l.any p with
 |false=>rfl
 |true=>
  obtain⟨x,hx,e⟩:=wo.1 ha;obtain⟨i,hi,e2⟩:=y5 hx;have:=h i hi;rw[getElem!_pos l i hi,e2,e]at this;omega
def LI{α:Type}[Inhabited α]{l:aa α}{p:α->Bool}{i:Nat}(hi:i<zR l)(h:p l[i]! =O):l.any p=O:=
 wo.2 ⟨_,bu hi,h⟩
def bG{α:Type}[Inhabited α]{l:aa α}{i:Nat}(h:i<zR l):l.take (i+1)=l.take i++[l[i]!]:=by
 rw[getElem!_pos l i h];simp
end Go.Iv
end
noncomputable section
set_option maxRecDepth 100000
namespace Go.Proofs.YtnfljbehcffmcaaGreat
open Go Go.Iv
open Go.IntKind (i64 u64)
def cL:aL:=aL.mk 1 0 0
structure NN (a:aL):Prop where
 lo: -1099511627776<=a.ah
 hi:a.ag<=1099511627776
 le:a.ah<=a.ag
 st:(a.ah=a.ag/\a.ak=0)\/(a.ah<a.ag/\1<=a.ak/\(a.ag-a.ah)%a.ak=0)
def NV(a:aL):Prop:=a=cL\/NN a
def NN.s0{a:aL}(h:NN a):0<=a.ak:=by rcases h.st with ⟨_,h⟩|⟨_,h,_⟩<;>omega
def NN.dvd{a:aL}(h:NN a):a.ak∣a.ag-a.ah:=by
 rcases h.st with ⟨h1,h2⟩|⟨_,_,h3⟩
 ·simp_all
 ·omega
def NN.sle{a:aL}(h:NN a):a.ak<=a.ag-a.ah:=by
 rcases h.st with ⟨h1,h2⟩|⟨h1,_,h3⟩
 ·omega
 ·exact Int.le_of_dvd aq (wZ h3)
def NN.ne{a:aL}(h:NN a):a≠cL:=λe=>by
 have:=h.le;rw[e]at this;exact ep this (by decide)
def Dn{a b:aL}(h1:a.ah=b.ah)(h2:a.ag=b.ag)(h3:a.ak=b.ak):a=b:=by
 cases a;cases b;simp only at h1 h2 h3;subst h1 h2 h3;rfl
def eF(x:Int):aL:=aL.mk x x 0
def NN.one{x:Int}(h1: -1099511627776<=x)(h2:x<=1099511627776):NN (eF x):=⟨h1,h2,zw _, .inl ⟨rfl,rfl⟩⟩
structure dA (P:Int->Prop) (c:aL):Prop where
 lo:P c.ah
 hi:P c.ag
 all:∀x,P x->c.ah<=x/\x<=c.ag/\c.ak∣x-c.ah
 nn:0<=c.ak
 best:∀d,(∀x,P x->d∣x-c.ah)->d∣c.ak
def dA.uniq{P:Int->Prop}{c d:aL}(h:dA P c)(k:dA P d):c=d:=by
 have e1:c.ah=d.ah:=Int.le_antisymm (h.all _ k.lo).1 (k.all _ h.lo).1;have e2:c.ag=d.ag:=Int.le_antisymm (k.all _ h.hi).2.1 (h.all _ k.hi).2.1;refine Dn e1 e2 (Int.dvd_antisymm h.nn k.nn (k.best _ λx hx=>by rw[<-e1];exact(h.all x hx).2.2) (h.best _ λx hx=>by rw[e1];exact(k.all x hx).2.2))
def dA.congr{P ae:Int->Prop}{c:aL}(h:dA P c)(k:∀x,P x↔ae x):dA ae c:=
 ⟨(k _).mp h.lo,(k _).mp h.hi,λx hx=>h.all x ((k x).mpr hx),h.nn,λd hd=>h.best d λx hx=>hd x ((k x).mp hx)⟩
def dA.valid{P:Int->Prop}{c:aL}(h:dA P c)(hP:∀x,P x-> -1099511627776<=x/\x<=1099511627776):NN c:=by
 have h1:=hP _ h.lo;have h2:=hP _ h.hi;obtain⟨h3,_,h4⟩:=h.all _ h.hi;refine⟨h1.1,h2.2,h3,?_⟩;have h5:=h.nn;rcases Int.lt_or_eq_of_le h3 with h6|h6
 ·refine .inr ⟨h6,?_,Int.emod_eq_zero_of_dvd h4⟩;rcases Int.lt_or_eq_of_le h5 with h7|h7
  ·omega
  ·rw[<-h7]at h4;omega
 ·refine .inl ⟨h6,?_⟩;have:=h.best 0 λx hx=>by
   obtain⟨a1,a2,_⟩:=h.all x hx;grind
  omega
def bU(a:aL)(x:Int):Prop:=a.ah<=x/\x<=a.ag/\a.ak∣x-a.ah
def NN.gm{a:aL}(h:NN a):dA (bU a) a:=by
 refine⟨⟨zw _,h.le,⟨0,aq⟩⟩,⟨h.le,zw _,h.dvd⟩,λx hx=>hx,h.s0,λd hd=> ?_⟩;rcases h.st with ⟨h1,h2⟩|⟨h1,h2,h3⟩
 ·simp_all
 ·have:=hd (a.ah+a.ak) ⟨aq,by have:=h.sle;omega,⟨1,aq⟩⟩;grind
def FU(x:Int):dA (· =x) (eF x):=
 ⟨rfl,rfl,λy hy=>⟨Int.le_of_eq hy.symm,Int.le_of_eq hy,⟨0,by rw[hy];simp[eF]⟩⟩,zw _,λd _=>xL d⟩
def kE(a b:Int):cA a b∣a:=Int.gcd_dvd_left ..
def rK(a b:Int):cA a b∣b:=Int.gcd_dvd_right ..
def jF{d a b:Int}(h1:d∣a)(h2:d∣b):d∣cA a b:=Int.dvd_coe_gcd h1 h2
def mj(a b:Int):0<=cA a b:=by unfold cA;omega
def gcd_neg(a b:Int):cA a (-b)=cA a b:=by unfold cA;rw[Int.gcd_neg]
def jn(a b:aL):aL:=aL.mk (min a.ah b.ah) (max a.ag b.ag) (cA (cA a.ak b.ak) (a.ah-b.ah))
def cF(a b:aL):aL:=open Classical in if a=cL then b else if b=cL then a else jn a b
def dA.join{P ae:Int->Prop}{a b:aL}(h:dA P a)(k:dA ae b):dA (λx=>P x\/ae x) (jn a b):=by
 have g1:cA (cA a.ak b.ak) (a.ah-b.ah)∣a.ak:=zY (kE _ _) (kE _ _);have g2:cA (cA a.ak b.ak) (a.ah-b.ah)∣b.ak:=zY (kE _ _) (rK _ _);have g3:cA (cA a.ak b.ak) (a.ah-b.ah)∣a.ah-b.ah:=rK _ _;refine⟨?_,?_,λx hx=> ?_,mj _ _,λd hd=> ?_⟩
 ·show P (min a.ah b.ah)\/ae (min a.ah b.ah);rcases Int.le_total a.ah b.ah with e|e
  ·rw[Int.min_eq_left e];exact .inl h.lo
  ·rw[Int.min_eq_right e];exact .inr k.lo
 ·show P (max a.ag b.ag)\/ae (max a.ag b.ag);rcases Int.le_total a.ag b.ag with e|e
  ·rw[Int.max_eq_right e];exact .inr k.hi
  ·rw[Int.max_eq_left e];exact .inl h.hi
 ·show min a.ah b.ah<=x/\x<=max a.ag b.ag/\cA (cA a.ak b.ak) (a.ah-b.ah)∣x-min a.ah b.ah;have both:cA (cA a.ak b.ak) (a.ah-b.ah)∣x-a.ah/\cA (cA a.ak b.ak) (a.ah-b.ah)∣x-b.ah:=by
   rcases hx with hx|hx
   ·have e:=zY g1 (h.all x hx).2.2;have:=y4 e g3;grind
   ·have e:=zY g2 (k.all x hx).2.2;have:=yA e g3;grind
  refine⟨?_,?_,?_⟩
  ·rcases hx with hx|hx
   ·have:=(h.all x hx).1;omega
   ·have:=(k.all x hx).1;omega
  ·rcases hx with hx|hx
   ·have:=(h.all x hx).2.1;omega
   ·have:=(k.all x hx).2.1;omega
  ·grind
 ·show d∣cA (cA a.ak b.ak) (a.ah-b.ah);have d1:=hd _ (.inl h.lo);have d2:=hd _ (.inr k.lo);refine jF (jF (h.best d λx hx=> ?_) (k.best d λx hx=> ?_)) ?_
  ·have:=yA (hd x (.inl hx)) d1;grind
  ·have:=yA (hd x (.inr hx)) d2;grind
  ·have:=yA d1 d2;grind
def gK{a b:aL}(h:NN a)(k:NN b):cF a b=jn a b:=by
 unfold cF;rw[bN h.ne,bN k.ne]
def DZ{b:aL}:cF cL b=b:=by unfold cF;rw[bJ rfl]
def vE{a:aL}:cF a cL=a:=by
 unfold cF;simp_all
def lW{a b:aL}(h:NN a)(k:NN b):NN (jn a b):=(h.gm.join k.gm).valid λx hx=>by
 have:=h.lo;have:=h.hi;have:=k.lo;have:=k.hi
 rcases hx with ⟨h1,h2,_⟩|⟨h1,h2,_⟩<;>omega
def fh{a b:aL}(h:NV a)(k:NV b):NV (cF a b):=by
 rcases h with rfl|h
 ·assumption
 ·rcases k with rfl|k
  ·rw[vE];exact .inr h
  ·rw[gK h k];exact .inr (lW h k)
def UY{a:aL}(h:NN a):jn a a=a:=
 ((h.gm.join h.gm).congr (λx=>⟨λk=>k.elim id id, .inl⟩)).uniq h.gm
def Hi(a:aL):(bif J (a.ah=a.ah)then bif J (a.ag=a.ag)then bif J (a.ak=a.ak)then O else G else G else G)=O:=by
 simp
def Ig{a b:aL}(h:a≠b):(bif J (a.ah=b.ah)then bif J (a.ag=b.ag)then bif J (a.ak=b.ak)then O else G else G else G)=G:=by
 by_cases h1:a.ah=b.ah
 ·by_cases h2:a.ag=b.ag
  ·by_cases h3:a.ak=b.ak
   ·exact ep (Dn h1 h2 h3) h
   ·rw[b7 h1,b7 h2,bY h3];rfl
  ·rw[b7 h1,bY h2];rfl
 ·rw[bY h1];rfl
def kS:fC cL=O:=Hi cL
def eR{a:aL}(h:a≠cL):fC a=G:=Ig (b:=cL) h
def ue:mb cL=O:=rfl
def gZ{a:aL}(h:NN a):mb a=G:=bY (by have:=h.le;omega)
def j6(x:Int):ji x=J (-1099511627776<=x/\x<=1099511627776):=by
 unfold ji;simp
def Ak(x:Int):pq x=J (-1099511627776<=x/\x<=1099511627776):=j6 x
def Yz(a:aL):Bool:=open Classical in J (NV a)
def UZ{a:aL}:Yz a=O↔NV a:=by unfold Yz;exact @decide_eq_true_iff _ (Classical.propDecidable _)
def eo{a:aL}(h:NV a):Yz a=O:=UZ.mpr h
def As{a:aL}(h:¬NV a):Yz a=G:=by
 cases e:Yz a with
 |false=>rfl
 |true=>exact ep (UZ.mp e) h
def Wa{a:aL}(h0:a≠cL):(match bif bif ji a.ah then G else O then V O else bif bif ji a.ag then G else O then V O else V (J (a.ag<a.ah))with|I=>I|V r1=>bif r1 then V G else bif J (a.ah=a.ag)then V (J (a.ak=0))else match bif J (1<=a.ak)then if¬a.ak=(0:Int)then V (J ((aj (a.ag-a.ah)).tmod a.ak=0))else I else V G with|I=>I|V r2=>V r2)=V (Yz a):=by
 rw[j6,j6];by_cases h1: -1099511627776<=a.ah/\a.ah<=1099511627776
 ·by_cases h2: -1099511627776<=a.ag/\a.ag<=1099511627776
  ·by_cases h3:a.ag<a.ah
   ·rw[b7 h1,b7 h2,b7 h3,As (λk=>by rcases k with k|k;exact h0 k;have:=k.le;omega)];rfl
   ·rw[b7 h1,b7 h2,bY h3];simp only[cU];by_cases h4:a.ah=a.ag
    ·rw[b7 h4,cI];by_cases h5:a.ak=0
     ·rw[b7 h5,eo (.inr ⟨h1.1,h2.2,aq, .inl ⟨h4,h5⟩⟩)]
     ·rw[bY h5,As (λk=>by rcases k with k|k;exact h0 k;rcases k.st with k|k<;>omega)]
    ·rw[bY h4,cv];by_cases h5:1<=a.ak
     ·rw[b7 h5,cI,gV,aM,kV];by_cases h6:(a.ag-a.ah)%a.ak=0
      ·rw[b7 h6,eo (.inr ⟨h1.1,h2.2,aq, .inr ⟨aq,h5,h6⟩⟩)]
      ·rw[bY h6,As (λk=>by rcases k with k|k;exact h0 k;rcases k.st with k|k;omega;exact h6 k.2.2)]
     ·rw[bY h5,cv];rw[As (λk=>by rcases k with k|k;exact h0 k;rcases k.st with k|k<;>omega)]
  ·rw[b7 h1,bY h2,As (λk=>by rcases k with k|k;exact h0 k;have:=k.lo;have:=k.hi;have:=k.le;omega)];rfl
 ·rw[bY h1,As (λk=>by rcases k with k|k;exact h0 k;have:=k.lo;have:=k.hi;have:=k.le;omega)];rfl
def eX(a:aL):ug a=V (Yz a):=by
 unfold ug;by_cases h0:a=cL
 ·subst h0;rw[kS,cI,eo (.inl rfl)]
 ·rw[eR h0,cv];exact Wa h0
def gj(a:aL):ZF a=V (Yz a):=by
 unfold ZF;by_cases h0:a=cL
 ·subst h0;rw[show rN=cL from rfl,Hi,cI,eo (.inl rfl)]
 ·rw[show rN=cL from rfl,Ig h0,cv,<-Wa h0,show pq=ji from rfl,j6,j6];by_cases h1: -1099511627776<=a.ah/\a.ah<=1099511627776
  ·by_cases h2: -1099511627776<=a.ag/\a.ag<=1099511627776
   ·rw[b7 h1,b7 h2];simp only[cI];by_cases h3:a.ag<a.ah
    ·rw[bY (show ¬a.ah=a.ag by omega),b7 h3,bY (show ¬a.ah<a.ag by omega)];rfl
    ·rw[bY h3,cv];by_cases h4:a.ah=a.ag
     ·rw[b7 h4];rfl
     ·rw[bY h4,cv,cv,b7 (show a.ah<a.ag by omega),cI]<;>rfl
   ·rw[b7 h1,bY h2];rfl
  ·rw[bY h1];rfl
def bZ(a:aL):Int:=open Classical in if a=cL then 0 else if a.ak=0 then 1 else(a.ag-a.ah)/a.ak+1
def wsz{a:aL}(h:NN a)(h0:a.ak≠0):aj (aj ((aj (a.ag-a.ah)).tdiv a.ak)+1)=(a.ag-a.ah)/a.ak+1:=by
 have:=h.lo;have:=h.hi;have:=h.le;have:=h.s0
 have q0:0<=(a.ag-a.ah)/a.ak:=zS aq aq;have q1:(a.ag-a.ah)/a.ak<=a.ag-a.ah:=yo _ aq;rw[aM (n:=a.ag-a.ah),kG,aM (n:=(a.ag-a.ah)/a.ak),aM]
def lC{a:aL}(h:NV a):BB a=V (bZ a):=by
 unfold BB bZ;rcases h with rfl|h
 ·rfl
 ·rw[eR h.ne,bN h.ne,cv];by_cases h0:a.ak=0
  ·rw[b7 h0,bJ h0];rfl
  ·rw[bY h0,bN h0,cv,bJ h0,wsz h h0]
def eE{a:aL}(h:NV a):sS a=V (bZ a):=by
 unfold sS bZ;rw[gj,eo h];simp only[cU];rcases h with rfl|h
 ·rfl
 ·rw[gZ h,bN h.ne,cv];by_cases h0:a.ak=0
  ·rw[b7 h0,bJ h0];rfl
  ·rw[bY h0,bN h0,cv,bJ h0,wsz h h0]
def amo{a:aL}(h:¬NV a):sS a=V 0:=by
 unfold sS;rw[gj,As h];rfl
def qJ{a:aL}(h:NV a):LY a=V (bZ a):=by
 unfold LY;rw[eX,eo h];simp only[cU];rw[lC h]
def akL{a:aL}(h:¬NV a):LY a=V 0:=by
 unfold LY;rw[eX,As h];rfl
def cS(a:aL)(x:Int):Bool:=open Classical in J (bU a x)
def nW{a:aL}{x:Int}:cS a x=O↔bU a x:=by unfold cS;exact @decide_eq_true_iff _ (Classical.propDecidable _)
def jt{a:aL}{x:Int}(h:¬bU a x):cS a x=G:=by
 cases e:cS a x with
 |false=>rfl
 |true=>exact ep (nW.mp e) h
def mR{a:aL}{x:Int}(h:bU a x):cS a x=O:=nW.mpr h
def C5{x:Int}:¬bU cL x:=λh=>by
 obtain⟨h1,h2,_⟩:=h;have h1:(1:Int)<=x:=h1;have h2:x<=0:=h2;omega
def NF{a:aL}(h:NN a)(x:Int)(h1:a.ah<=x)(h2:x<=a.ag):(match bif J (a.ak=0)then V O else if¬a.ak=(0:Int)then V (J ((aj (x-a.ah)).tmod a.ak=0))else I with|I=>I|V r2=>V r2)=V (cS a x):=by
 have:=h.lo;have:=h.hi
 by_cases h0:a.ak=0
 ·rw[b7 h0,cI,mR ⟨h1,h2,by rcases h.st with k|k;(rw[h0];exact⟨0,aq⟩);omega⟩]
 ·rw[bY h0,cv,bJ h0,aM,kV];by_cases k:(x-a.ah)%a.ak=0
  ·rw[b7 k,mR ⟨h1,h2,wZ k⟩]
  ·rw[bY k,jt (λe=>k (Int.emod_eq_zero_of_dvd e.2.2))]
def Js{a:aL}(h:NV a)(x:Int):XY a x=V (cS a x):=by
 unfold XY;rcases h with rfl|h
 ·rw[kS,jt C5];rfl
 ·rw[eR h.ne,cv];by_cases h1:x<a.ah
  ·rw[b7 h1,jt (λk=>by have:=k.1;omega)];rfl
  ·by_cases h2:a.ag<x
   ·rw[bY h1,b7 h2,jt (λk=>by have:=k.2.1;omega)];rfl
   ·rw[bY h1,bY h2];exact NF h x aq aq
def jT{a:aL}(h:NV a)(x:Int):m32 a x=V (cS a x):=by
 unfold m32;rw[gj,eo h];rcases h with rfl|h
 ·by_cases h1:x<1
  ·rw[show cL.ah=1 from rfl,b7 h1,jt C5];rfl
  ·rw[show cL.ah=1 from rfl,show cL.ag=0 from rfl,bY h1,b7 (show 0<x by omega),jt C5];rfl
 ·by_cases h1:x<a.ah
  ·rw[b7 h1,jt (λk=>by have:=k.1;omega)];rfl
  ·by_cases h2:a.ag<x
   ·rw[bY h1,b7 h2,jt (λk=>by have:=k.2.1;omega)];rfl
   ·rw[bY h1,bY h2];exact NF h x aq aq
def rf{a:aL}(h:NV a)(x:Int):m92 a x=V (cS a x):=by
 unfold m92;rw[eX,eo h];simp only[cI];rw[Js h]
def jK(lo hi st:Int):aL:=if hi<lo then cL else if st=0 then eF lo else if lo=lo+(hi-lo)/st*st then eF lo else aL.mk lo (lo+(hi-lo)/st*st) st
def ao1{lo hi st:Int}(h1: -2305843009213693952<=lo)(h2:hi<=2305843009213693952)(h3:lo<=hi)(h4:1<=st):aj (lo+aj (aj ((aj (hi-lo)).tdiv st)*st))=lo+(hi-lo)/st*st:=by
 have q0:0<=(hi-lo)/st:=zS aq aq;have q1:(hi-lo)/st<=hi-lo:=yo _ aq;have q2:(hi-lo)/st*st<=hi-lo:=xu _ aq;have q3:0<=(hi-lo)/st*st:=zJ q0 aq;rw[aM (n:=hi-lo),kG,aM (n:=(hi-lo)/st),aM (n:=(hi-lo)/st*st),aM]
def pz{lo hi st:Int}(h1: -2305843009213693952<=lo)(h2:hi<=2305843009213693952)(h4:0<=st):nJ lo hi st=V (jK lo hi st):=by
 unfold nJ jK;by_cases c1:hi<lo
 ·rw[b7 c1,bJ c1];rfl
 ·rw[bY c1,bN c1,cv];by_cases c2:st=0
  ·rw[b7 c2,bJ c2];rfl
  ·rw[bY c2,bN c2,cv,bJ c2,ao1 h1 h2 aq aq];by_cases c3:lo=lo+(hi-lo)/st*st
   ·rw[b7 c3,bJ c3];rfl
   ·simp_all
def mK{lo hi st:Int}(h1: -1099511627776<=lo/\lo<=1099511627776)(h2: -1099511627776<=hi/\hi<=1099511627776)(h4:1<=st):jm lo hi st=V (jK lo hi st,0):=by
 unfold jm jK;rw[Ak,Ak,b7 h1,b7 h2,bY (show ¬st<1 by omega)];by_cases c1:hi<lo
 ·rw[b7 c1,bJ c1];rfl
 ·rw[bY c1,bN c1,cv,bN (show ¬st=0 by omega),gV,ao1 aq aq aq h4];by_cases c3:lo=lo+(hi-lo)/st*st
  ·rw[<-c3,b7 rfl,bJ rfl];rfl
  ·simp_all
def Od{lo hi st:Int}(h1:lo<=hi)(h2:0<=st)(h3:st∣hi-lo)(h4:lo=hi->st=0):jK lo hi st=aL.mk lo hi st:=by
 unfold jK;rw[AJ];by_cases c:st=0
 ·rw[bJ c];subst c;unfold eF;rw[show hi=lo by omega]
 ·rw[bN c,wu h3,show lo+(hi-lo)=hi by omega,bN (λe=>c (h4 e))]
def mM{lo hi st:Int}(h1: -1099511627776<=lo)(h2:hi<=1099511627776)(h3:lo<=hi)(h4:0<=st):NN (jK lo hi st):=by
 unfold jK;rw[AJ];by_cases c:st=0
 ·rw[bJ c];exact NN.one h1 aq
 ·rw[bN c];have q0:0<=(hi-lo)/st:=zS aq aq;have q2:(hi-lo)/st*st<=hi-lo:=xu _ aq;have q3:0<=(hi-lo)/st*st:=zJ q0 aq;by_cases c3:lo=lo+(hi-lo)/st*st
  ·rw[bJ c3];exact NN.one h1 aq
  ·rw[bN c3];refine⟨h1,by show lo+(hi-lo)/st*st<=_;omega,by show lo<=lo+(hi-lo)/st*st;omega, .inr ⟨by show lo<lo+(hi-lo)/st*st;omega,by show 1<=st;omega,?_⟩⟩;rw[show lo+(hi-lo)/st*st-lo=(hi-lo)/st*st by omega];simp
def OX{lo hi st x:Int}(h3:lo<=hi)(h4:1<=st):bU (jK lo hi st) x↔lo<=x/\x<=hi/\st∣x-lo:=by
 unfold jK;rw[AJ,AJ];have q2:(hi-lo)/st*st<=hi-lo:=xu _ aq;have q4:=w9 (hi-lo) (show 0<st by omega);rw[zU,yc]at q4;by_cases c3:lo=lo+(hi-lo)/st*st
 ·rw[bJ c3];constructor
  ·rintro⟨k1,k2,_⟩;have k1:lo<=x:=k1;have k2:x<=lo:=k2;exact⟨k1,aq,⟨0,aq⟩⟩
  ·rintro⟨k1,k2,k3⟩;have e:x-lo=0:=Decidable.byContradiction λh=>ep (Int.le_of_dvd aq k3) aq;exact⟨k1,by show x<=lo;omega,by show 0∣x-lo;rw[e];exact⟨0,rfl⟩⟩
 ·rw[bN c3];constructor
  ·rintro⟨k1,k2,k3⟩;have k2:x<=lo+(hi-lo)/st*st:=k2;exact⟨k1,aq,k3⟩
  ·rintro⟨k1,k2,k3⟩;refine⟨k1,?_,k3⟩;show x<=lo+(hi-lo)/st*st;obtain⟨q,hq⟩:=k3;rw[zO]at hq;have:q<(hi-lo)/st+1:=wM (a:=st) (by rw[zU,yc];omega) aq;have:q*st<=(hi-lo)/st*st:=zL aq aq;omega
def PM(g x v:Int)(hx: -1099511627776<=x/\x<=1099511627776)(hv: -1099511627776<=v/\v<=1099511627776):(0:Int)<=jo x v/\cA g (jo x v)=cA g (x-v):=by
 unfold jo;by_cases c:x<v
 ·rw[b7 c,cI,aM];exact⟨aq,by rw[<-gcd_neg,show-(v-x)=x-v by omega]⟩
 ·rw[bY c,cv,aM];omega
def dA.snoc{P:Int->Prop}{c:aL}{v:Int}(h:dA P c)(hv:P v)(x:Int):dA (λy=>P y\/y=x) (aL.mk (min c.ah x) (max c.ag x) (cA c.ak (x-v))):=by
 have e:cA (cA c.ak 0) (c.ah-x)=cA c.ak (x-v):=by
  have d:=(h.all v hv).2.2;refine Int.dvd_antisymm (mj _ _) (mj _ _) (jF (zY (kE _ _) (kE _ _)) ?_) (jF (jF (kE _ _) (xL _)) ?_)
  ·have k1:cA (cA c.ak 0) (c.ah-x)∣c.ah-x:=rK _ _;have k2:cA (cA c.ak 0) (c.ah-x)∣v-c.ah:=zY (zY (kE _ _) (kE _ _)) d;have:=Int.dvd_neg.mpr (y4 k1 k2)
   rwa [show-(c.ah-x+(v-c.ah))=x-v by omega]at this
  ·have k1:cA c.ak (x-v)∣x-v:=rK _ _;have k2:cA c.ak (x-v)∣v-c.ah:=zY (kE _ _) d;have:=Int.dvd_neg.mpr (y4 k1 k2)
   rwa [show-(x-v+(v-c.ah))=c.ah-x by omega]at this
 have:=h.join (FU x);unfold jn eF at this;simp_all
def cC(x:Int):Prop:= -1099511627776<=x/\x<=1099511627776
instance (x:Int):Decidable (cC x):=inferInstanceAs (Decidable (_/\_))
def DV(x:Int):pq x=J (cC x):=Ak x
def at9{l:aa Int}{b0 c:aL}(i:Nat)(hi:i+1<zR l)(hl:zR l<=1000000)(hr:∀x∈l,cC x)(hc:dA (· ∈l.take (i+1)) c):
  ∃c',tW (jZ.mk l (i+1:Nat) b0 c)=V (V (jZ.mk l (i+1+1:Nat) b0 c'))/\dA (· ∈l.take (i+1+1)) c':=by
 have hx:cC l[i+1]! :=hr _ (bu hi);have h0:cC l[0]! :=hr _ (bu aq);have hm:l[0]!∈l.take (i+1):=by
  have:(l.take (i+1))[0]! =l[0]! :=by
   rw[getElem!_pos _ 0 (by rw[zA];omega),getElem!_pos l 0 aq,xJ]
  rw[<-this];exact bu (by rw[zA];omega)
 have hs:=hc.snoc hm l[i+1]!;obtain⟨g0,g1⟩:=PM c.ak l[i+1]! l[0]! hx h0;refine⟨_,?_,hs.congr λy=> ?_⟩
 ·unfold tW;simp only;rw[om,cI,gV,gV,zg,C7 hc.nn g0,g1];simp only;rw[aM,show ((i+1:Nat):Int)+1=((i+1+1:Nat):Int)by omega];have hci:(0:Int)<=((i+1:Nat):Int)/\((i+1:Nat):Int)<(zR l:Int):=aq;by_cases c1:l[i+1]! <c.ah
  ·rw[Int.min_eq_right aq];by_cases c2:c.ag<l[i+1]!
   ·have:=(hc.all _ hc.lo).2.1;omega
   ·rw[Int.max_eq_left aq];simp only[cU,b7 c1,bY c2,bJ hci]
  ·rw[Int.min_eq_left aq];by_cases c2:c.ag<l[i+1]!
   ·rw[Int.max_eq_right aq];simp only[cU,bY c1,b7 c2,bJ hci]
   ·rw[Int.max_eq_left aq];simp only[bY c1,bY c2,bJ hci,cv]
 ·rw[bG (i:=i+1) hi,zP,zo]
def Lc{l:aa Int}(hn:l≠[])(hl:zR l<=1000000)(hr:∀x∈l,cC x):∃c,Zy l=V (c,0)/\dA (· ∈l) c:=by
 have hp:0<zR l:=wG.mpr hn;obtain⟨c,e1,hc⟩:=cH (rnd:=tW) (zR l-1) (λi (c:aL)=>jZ.mk l (i+1:Nat) (aL.mk 0 0 0) c) (λi c=>dA (· ∈l.take (i+1)) c)
  (λi c hi hI=>at9 i aq hl hr hI)
  (λc hI=>by
   unfold tW;simp only;rw[fO];rfl) (b:=eF l[0]!) ((FU l[0]!).congr λx=>by
   rw[bG hp];simp)
 have e0:bI Bp (p9.mk l 0 (aL.mk 0 0 0))=V (p9.mk l (zR l:Nat) (aL.mk 0 0 0)):=MI (rnd:=Bp) (λi=>p9.mk l (i:Nat) (aL.mk 0 0 0)) (zR l) (λi hi=>by
  unfold Bp;simp only;rw[om,cI,gV,zg,DV,b7 (hr _ (bu hi)),jG hi hl];rfl) (λr=>by
  unfold Bp;simp only;rw[fO];intro h;cases h)
 refine⟨c,?_,hc.congr λx=>by rw[show zR l-1+1=zR l by omega,zH]⟩;unfold Zy;rw[show Jb=bI Bp from rfl,e0];simp only;rw[fO,cv,fO,cv,gV,gV];have e1:bI tW (jZ.mk l 1 (aL.mk 0 0 0) (aL.mk l[0]! l[0]! 0))=V (jZ.mk l ((zR l-1+1:Nat):Int) (aL.mk 0 0 0) c):=e1;rw[show Lj=bI tW from rfl,e1];simp only;rw[fO];rfl
def NN.tC{a:aL}(h:NN a):cC a.ah:=⟨h.lo,by have:=h.le;have:=h.hi;omega⟩
def NN.CA{a:aL}(h:NN a):cC a.ag:=⟨by have:=h.le;have:=h.lo;omega,h.hi⟩
def IW{x:Int}(h1: -2199023255552<=x)(h2:x<=2199023255552):(0:Int)<=jW x/\((jW x:Int)=x\/(jW x:Int)= -x):=by
 unfold jW;rw[aM (n:=0-x)];by_cases c:x<0-x
 ·rw[bJ c];exact⟨aq, .inr (show (0:Int)-x= -x by omega)⟩
 ·rw[bN c];exact⟨aq, .inl rfl⟩
def aa8(g:Int){x:Int}(h1: -2199023255552<=x)(h2:x<=2199023255552):cA g (jW x)=cA g x:=by
 rcases (IW h1 h2).2 with e|e
 ·rw[e]
 ·rw[e,gcd_neg]
def j8{a b:aL}(ha:NV a)(hb:NV b):mH a b=V (cF a b):=by
 unfold mH;rcases ha with rfl|ha
 ·rfl
 rw[eR ha.ne,cv];rcases hb with rfl|hb
 ·rw[kS,vE];rfl
 rw[eR hb.ne,cv];by_cases e:a=b
 ·subst e;rw[Hi,gK ha ha,UY ha];rfl
 ·rw[Ig e];have:=ha.lo;have:=ha.hi;have:=ha.le;have:=hb.lo;have:=hb.hi;have:=hb.le
  rw[aM (n:=a.ah-b.ah),Gr ha.s0 hb.s0 (IW aq aq).1,aa8 _ aq aq];simp only;rw[show (if b.ah<a.ah then b.ah else a.ah)=min a.ah b.ah by split<;>omega,show (if a.ag<b.ag then b.ag else a.ag)=max a.ag b.ag by split<;>omega,pz aq aq (mj _ _)];have hj:=lW ha hb;rw[gK ha hb];exact congrArg some (Od hj.le hj.s0 hj.dvd (λk=>by rcases hj.st with h|h;exact h.2;exact ep k (Int.ne_of_lt h.1)))
def gF{a b:aL}(ha:NV a)(hb:NV b):lE a b=V (cF a b):=by
 unfold lE;rcases ha with rfl|ha
 ·rfl
 rw[gZ ha,cv];rcases hb with rfl|hb
 ·rw[ue,vE];rfl
 rw[gZ hb,cv];obtain⟨c,e,hc⟩:=Lc (l:=[a.ah,a.ag,b.ah,b.ag]) (by simp) (by simp) (λx hx=>by
  simp only[zy,List.not_mem_nil,or_false]at hx;rcases hx with rfl|rfl|rfl|rfl
  ·exact ha.tC
  ·exact ha.CA
  ·exact hb.tC
  ·exact hb.CA)
 rw[e];simp only;have m:∀x,(x=a.ah\/x=a.ag\/x=b.ah\/x=b.ag)->x∈[a.ah,a.ag,b.ah,b.ag]:=λx hx=>by simpa using hx
 have h1:=hc.lo;have h2:=hc.hi;simp only[zy,List.not_mem_nil,or_false]at h1 h2;have p1:=hc.all _ (m a.ah (by simp));have p2:=hc.all _ (m a.ag (by simp));have p3:=hc.all _ (m b.ah (by simp));have p4:=hc.all _ (m b.ag (by simp));have:=ha.le;have:=hb.le;have e1:c.ah=min a.ah b.ah:=aq;have e2:c.ag=max a.ag b.ag:=aq;have hj:=lW ha hb;rw[gK ha hb];by_cases k:c.ah<c.ag
 ·rw[b7 k,cI,C7 ha.s0 hb.s0];simp only;obtain⟨g0,g1⟩:=PM (cA a.ak b.ak) a.ah b.ah ha.tC hb.tC;rw[C7 (mj _ _) g0,g1,e1,e2];rfl
 ·rw[bY k,cv]
  congr 1
  refine Dn e1 e2 ?_;have hcv:NN c:=hc.valid (λx hx=>by
   simp only[zy,List.not_mem_nil,or_false]at hx;rcases hx with rfl|rfl|rfl|rfl
   ·exact ha.tC
   ·exact ha.CA
   ·exact hb.tC
   ·exact hb.CA)
  have s1:c.ak=0:=by rcases hcv.st with h|h;exact h.2;omega
  have s2:(jn a b).ak=0:=by
   rcases hj.st with h|h
   ·omega
   ·have:min a.ah b.ah<max a.ag b.ag:=h.1;omega
  omega
def ag2{a b:aL}(ha:NV a)(hb:NV b):akV a b=V (cF a b,0):=by
 unfold akV;rw[eX,eX,eo ha,eo hb];simp only[cU];rw[j8 ha hb]
def Rz{a:aL}(h:NV a):cF a a=a:=by
 rcases h with rfl|h
 ·rfl
 ·rw[gK h h,UY h]
def pe{a b:aL}(ha:NV a)(hb:NV b):uL a b=V (cF a b):=by
 unfold uL;by_cases e:a=b
 ·subst e;rw[Hi,Rz ha];rfl
 ·rw[Ig e,cv,ag2 ha hb]
def cD(a:aL):Bool:=if 1<bZ a then O else if bZ a=1 then !cS a 0 else G
def Ap{a:aL}(h:NN a):bZ a=if a.ak=0 then 1 else(a.ag-a.ah)/a.ak+1:=by
 unfold bZ;rw[bN h.ne]
def size_pos{a:aL}(h:NN a):1<=bZ a:=by
 rw[Ap h];split
 ·omega
 ·have:0<=(a.ag-a.ah)/a.ak:=zS (by have:=h.le;omega) h.s0;omega
def kr{a:aL}(h:NN a):bZ a=1↔a.ah=a.ag:=by
 rw[Ap h];rcases h.st with ⟨h1,h2⟩|⟨h1,h2,h3⟩
 ·omega
 ·rw[AJ];constructor
  ·intro k;have:=wu (wZ h3);grind
  ·omega
def DA{a:aL}(h:NV a):RY a=V (cS a 0,cD a):=by
 unfold RY cD;rw[Js h,lC h];simp only;by_cases c:1<bZ a
 ·rw[b7 c,bJ c];rfl
 ·rw[bY c,bN c,cv];by_cases c1:bZ a=1
  ·rw[b7 c1,bJ c1,cI];rcases h with rfl|h
   ·exfalso;unfold bZ at c1;simp_all
   ·have e:=(kr h).mp c1;by_cases c2:a.ah=0
    ·rw[b7 c2,mR (show bU a 0 from⟨aq,aq,⟨0,aq⟩⟩)];rfl
    ·rw[bY c2,jt (show ¬bU a 0 from λk=>by have:=k.1;have:=k.2.1;omega)];rfl
  ·rw[bY c1,bN c1];rfl
def o5{a:aL}(h:NV a):FH a=V (cS a 0,cD a):=by
 unfold FH cD;rw[jT h,eE h];simp only;by_cases c:1<bZ a
 ·rw[b7 c,bJ c];rfl
 ·rw[bY c,bN c,cv];by_cases c1:bZ a=1
  ·rw[b7 c1,bJ c1,cI];rfl
  ·rw[bY c1,bN c1];rfl
def DL{a:aL}(h:NV a):S6 a=V (cS a 0,cD a):=by
 unfold S6;rw[eX,eo h];simp only[cU];rw[DA h]
def iX:Bool->Bool->aL
 |true,O=>aL.mk 0 1 1
 |true,G=>aL.mk 0 0 0
 |false,O=>aL.mk 1 1 0
 |false,G=>cL
def Xr{a b:Bool}(h:(a||b)=O):jr a b=iX a b:=by
 cases a<;>cases b<;>first|rfl|cases h
def UT(a b:Bool):pV a b=V (iX a b):=by
 have v0:NN (eF 0):=NN.one aq aq;have v1:NN (eF 1):=NN.one aq aq;have e:cF (eF 0) (eF 1)=aL.mk 0 1 1:=by rw[gK v0 v1];rfl
 unfold pV;cases a<;>cases b
 ·rfl
 ·rfl
 ·rfl
 ·simp only[cI];rw[show jC=cL from rfl,j8 (.inl rfl) (.inr (show NN (iq 0)from v0)),DZ];simp only;rw[j8 (.inr (show NN (iq 0)from v0)) (.inr (show NN (iq 1)from v1)),show cF (iq 0) (iq 1)=cF (eF 0) (eF 1)from rfl,e];rfl
def vW(a b:Bool):NV (iX a b):=by
 cases a<;>cases b
 ·exact .inl rfl
 ·exact .inr (NN.one (x:=1) aq aq)
 ·exact .inr (NN.one (x:=0) aq aq)
 ·exact .inr ⟨by decide,by decide,by decide, .inr ⟨by decide,by decide,by decide⟩⟩
def ni(P:Int->Prop)(c:aL):Prop:=(c=cL/\∀x,¬P x)\/(dA P c)
def ni.uniq{P:Int->Prop}{c d:aL}(h:ni P c)(k:ni P d):c=d:=by
 rcases h with ⟨h1,h2⟩|h<;>rcases k with ⟨k1,k2⟩|k
 ·grind
 ·exact ep k.lo (h2 _)
 ·exact ep h.lo (k2 _)
 ·exact h.uniq k
def ni.congr{P ae:Int->Prop}{c:aL}(h:ni P c)(k:∀x,P x↔ae x):ni ae c:=by
 rcases h with ⟨h1,h2⟩|h
 ·exact .inl ⟨h1,λx hx=>h2 x ((k x).mpr hx)⟩
 ·exact .inr (h.congr k)
def ni.valid{P:Int->Prop}{c:aL}(h:ni P c)(hP:∀x,P x->cC x):NV c:=by
 rcases h with ⟨h1,h2⟩|h
 ·exact .inl h1
 ·exact .inr (h.valid hP)
def ni.none{P:Int->Prop}(h:∀x,¬P x):ni P cL:= .inl ⟨rfl,h⟩
def ni.join{P ae:Int->Prop}{a b:aL}(h:ni P a)(k:ni ae b)(ha:NV a)(hb:NV b):ni (λx=>P x\/ae x) (cF a b):=by
 rcases h with ⟨rfl,h2⟩|h
 ·rw[DZ];simp_all
 ·rcases k with ⟨rfl,k2⟩|k
  ·rw[vE];exact .inr (h.congr λx=>⟨.inl,λe=>e.elim id (λe=>ep e (k2 x))⟩)
  ·have hn:∀{P:Int->Prop} {c:aL},dA P c->NV c->NN c:=λ{P c} e v=>by
    rcases v with rfl|v
    ·have:=(e.all _ e.lo).2.1;exact ep this (by decide)
    ·exact v
   rw[gK (hn h ha) (hn k hb)];exact .inr (h.join k)
def ni.mem{a:aL}(h:NV a):ni (bU a) a:=by
 rcases h with rfl|h
 ·exact .inl ⟨rfl,λx=>C5⟩
 ·exact .inr h.gm
def Zc{a:aL}(h:NV a){x:Int}(hx:bU a x):cC x:=by
 rcases h with rfl|h
 ·exact ep hx C5
 ·have:=h.lo;have:=h.hi;have:=hx.1;have:=hx.2.1
  exact⟨aq,aq⟩
def am4{lo hi st:Int}(h1:lo<=hi)(h2:1<=st):(jK lo hi st).ag=lo+(hi-lo)/st*st:=by
 unfold jK;rw[AJ,AJ];by_cases c3:lo=lo+(hi-lo)/st*st
 ·rw[bJ c3];exact c3
 ·simp_all
def NN.st1{a:aL}(h:NN a)(k:a.ah<a.ag):1<=a.ak:=by rcases h.st with h|h<;>omega
def Ex(P:Int->Prop)(c:aL):Prop:=NV c/\∀x,bU c x↔P x
def Ex.rep{P:Int->Prop}{c:aL}(h:Ex P c):ni P c:=(ni.mem h.1).congr h.2
def Un{a:aL}(h:NN a){at_:Int}(h1:a.ah<=at_)(h2:at_<a.ag):Ex (λx=>bU a x/\x<=at_) (jK a.ah at_ a.ak):=by
 have hs:=h.st1 aq;have hl:=h.lo;have hh:=h.hi
 refine⟨.inr (mM hl aq h1 h.s0),λx=> ?_⟩;rw[OX h1 hs];exact⟨λ⟨k1,k2,k3⟩=>⟨⟨k1,aq,k3⟩,k2⟩,λ⟨⟨k1,_,k3⟩,k2⟩=>⟨k1,k2,k3⟩⟩
def M5{a:aL}(h:NN a){at_:Int}(h1:a.ah<=at_)(h2:at_<a.ag):
  Ex (λx=>bU a x/\at_<x) (jK (a.ah+((at_-a.ah)/a.ak+1)*a.ak) a.ag a.ak)/\a.ah<a.ah+((at_-a.ah)/a.ak+1)*a.ak/\a.ah+((at_-a.ah)/a.ak+1)*a.ak<=a.ag:=by
 have hs:=h.st1 aq;have hl:=h.lo;have hh:=h.hi
 have q2:(at_-a.ah)/a.ak*a.ak<=at_-a.ah:=xu _ aq;have q4:=w9 (at_-a.ah) (show 0<a.ak by omega);have up:∀x,a.ak∣x-a.ah->at_<x->a.ah+((at_-a.ah)/a.ak+1)*a.ak<=x:=λx hd hx=>by
  obtain⟨q,hq⟩:=hd;rw[zO]at hq;have:(at_-a.ah)/a.ak<q:=wM (a:=a.ak) aq aq;have:((at_-a.ah)/a.ak+1)*a.ak<=q*a.ak:=zL aq aq;omega
 have hle:=up a.ag h.dvd h2;have hd:a.ak∣((at_-a.ah)/a.ak+1)*a.ak:=xF ..;refine⟨⟨.inr (mM aq hh hle h.s0),λx=> ?_⟩,aq,hle⟩;rw[OX hle hs];constructor
 ·rintro⟨k1,k2,k3⟩;have:=y4 k3 hd;rw[show x-(a.ah+((at_-a.ah)/a.ak+1)*a.ak)+((at_-a.ah)/a.ak+1)*a.ak=x-a.ah by omega]at this;exact⟨⟨aq,k2,this⟩,aq⟩
 ·rintro⟨⟨k1,k2,k3⟩,k4⟩;have:=yA k3 hd;rw[show x-a.ah-((at_-a.ah)/a.ak+1)*a.ak=x-(a.ah+((at_-a.ah)/a.ak+1)*a.ak)by omega]at this;simp_all
def DI{a:aL}(h:NV a){ae:Int->Prop}(k:∀x,bU a x->ae x):Ex (λx=>bU a x/\ae x) a:=⟨h,λx=>⟨λe=>⟨e,k x e⟩,λe=>e.1⟩⟩
def qH{a:aL}{ae:Int->Prop}(k:∀x,bU a x->¬ae x):Ex (λx=>bU a x/\ae x) cL:=⟨.inl rfl,λx=>⟨λe=>ep e C5,λe=>ep e.2 (k x e.1)⟩⟩
def Aa{a:aL}(h:NV a)(at_:Int):∃l u,C2 a at_=V (l,u)/\Ex (λx=>bU a x/\x<=at_) l/\Ex (λx=>bU a x/\at_<x) u:=by
 unfold C2;rcases h with rfl|h
 ·refine⟨cL,cL,?_,qH λx hx=>ep hx C5,qH λx hx=>ep hx C5⟩;rfl
 ·rw[eR h.ne,cv];have hle:=h.le;have hl:=h.lo;have hh:=h.hi
  by_cases c1:at_<a.ah
  ·rw[b7 c1];exact⟨cL,a,rfl,qH λx hx k=>by have:=hx.1;omega,DI (.inr h) λx hx=>by have:=hx.1;omega⟩
  ·rw[bY c1];by_cases c2:a.ag<=at_
   ·rw[b7 c2];exact⟨a,cL,rfl,DI (.inr h) λx hx=>by have:=hx.2.1;omega,qH λx hx k=>by have:=hx.2.1;omega⟩
   ·have hs:=h.st1 aq;obtain⟨r1,r2,r3⟩:=M5 h (at_:=at_) aq aq;have e:a.ah+((at_-a.ah)/a.ak+1)*a.ak=a.ah+(at_-a.ah)/a.ak*a.ak+a.ak:=by rw[zU,yc];omega
    rw[e]at r1 r2 r3;rw[bY c2,cv,pz aq aq h.s0];simp only;rw[am4 aq hs,aM,pz aq aq h.s0];exact⟨_,_,rfl,Un h aq aq,r1⟩
def Km{a:aL}(h:NV a)(at_:Int):∃l,m41 a at_=V l/\Ex (λx=>bU a x/\x<=at_) l:=by
 unfold m41;rcases h with rfl|h
 ·exact⟨cL,rfl,qH λx hx=>ep hx C5⟩
 ·rw[gZ h,cv];have hle:=h.le;have hl:=h.lo;have hh:=h.hi
  by_cases c1:at_<a.ah
  ·rw[b7 c1];exact⟨cL,rfl,qH λx hx k=>by have:=hx.1;omega⟩
  ·rw[bY c1];by_cases c2:a.ag<=at_
   ·rw[b7 c2];exact⟨a,rfl,DI (.inr h) λx hx=>by have:=hx.2.1;omega⟩
   ·rw[bY c2,cv,mK h.tC ⟨aq,aq⟩ (h.st1 aq)];exact⟨_,rfl,Un h aq aq⟩
def Bx{a:aL}(h:NV a)(at_:Int):∃u,ZC a at_=V u/\Ex (λx=>bU a x/\at_<x) u:=by
 unfold ZC;rcases h with rfl|h
 ·refine⟨cL,?_,qH λx hx=>ep hx C5⟩;rfl
 ·rw[gZ h,cv];have hle:=h.le;have hl:=h.lo;have hh:=h.hi
  by_cases c1:a.ag<=at_
  ·rw[b7 c1];exact⟨cL,rfl,qH λx hx k=>by have:=hx.2.1;omega⟩
  ·rw[bY c1];by_cases c2:at_<a.ah
   ·rw[b7 c2];exact⟨a,rfl,DI (.inr h) λx hx=>by have:=hx.1;omega⟩
   ·have hs:=h.st1 aq;obtain⟨r1,r2,r3⟩:=M5 h (at_:=at_) aq aq;have q0:0<=(at_-a.ah)/a.ak:=zS aq aq;have q1:(at_-a.ah)/a.ak<=at_-a.ah:=yo _ aq;rw[bY c2,cv,gV,aM (n:=at_-a.ah),kG,aM (n:=(at_-a.ah)/a.ak),aM (n:=(at_-a.ah)/a.ak+1),
     aM (n:=((at_-a.ah)/a.ak+1)*a.ak),aM,mK ⟨aq,aq⟩ h.CA hs]
    exact⟨_,rfl,r1⟩
def ni.empty{P:Int->Prop}{c:aL}(h:ni P c)(hv:NV c):fC c=mb c/\((fC c=O/\c=cL/\∀x,¬P x)\/(fC c=G/\NN c/\dA P c)):=by
 rcases h with ⟨rfl,h⟩|h
 ·exact⟨by rw[kS];rfl, .inl ⟨kS,rfl,h⟩⟩
 ·rcases hv with rfl|hv
  ·exact ep (h.all _ h.lo).2.1 (by decide)
  ·exact⟨by rw[eR hv.ne,gZ hv], .inr ⟨eR hv.ne,hv,h⟩⟩
def tH(a:aL)(lo hi:Int)(y:Int):Prop:=∃x,bU a x/\y=max lo (min x hi)
def adU{a:aL}{lo hi y:Int}(h1:cC lo)(h2:cC hi)(h3:lo<=hi)(h:tH a lo hi y):cC y:=by
 obtain⟨x,_,rfl⟩:=h;obtain⟨a1,a2⟩:=h1;obtain⟨b1,b2⟩:=h2;exact⟨aq,aq⟩
def KR(x:Int):ni (· =x) (eF x):= .inr (FU x)
def qu{x:Int}(h:cC x):NV (eF x):= .inr (NN.one h.1 h.2)
def nU{ae R:Int->Prop}{c d:aL}{b:Int}(hc:ni ae c)(vc:NV c)(hb:cC b)(hd:ni R d)(vd:NV d):
  (fC d=O->ni (λy=>ae y\/(y=b/\∃x,R x)) c)/\(fC d=G->ni (λy=>ae y\/(y=b/\∃x,R x)) (cF c (eF b))):=by
 rcases (hd.empty vd).2 with ⟨e1,rfl,e3⟩|⟨e1,e2,e3⟩
 ·simp_all
 ·refine⟨λh=> ?_,λ_=>((hc.join (KR b) vc (qu hb)).congr λx=>⟨λh=>h.elim .inl λh=> .inr ⟨h,_,e3.lo⟩,λh=>h.elim .inl λh=> .inr h.1⟩)⟩;simp_all
def Q3{a:aL}(h:NV a)(lo hi:Int):(∃c,m81 a lo hi=V (c,0)/\m86 a lo hi=V (c,0)/\ni (tH a lo hi) c/\NV c/\cC lo/\cC hi/\lo<=hi)\/
  (m81 a lo hi=V (aL.mk 0 0 0,3)/\m86 a lo hi=V (aL.mk 0 0 0,3)/\¬(cC lo/\cC hi/\lo<=hi)):=by
 unfold m81 m86;rw[eX,gj,eo h,j6,j6,Ak,Ak];simp only;by_cases h1: -1099511627776<=lo/\lo<=1099511627776
 ·by_cases h2: -1099511627776<=hi/\hi<=1099511627776
  ·by_cases h3:hi<lo
   ·right;rw[b7 h1,b7 h2,b7 h3];exact⟨rfl,rfl,λk=>by have:=k.2.2;omega⟩
   ·left;rw[b7 h1,b7 h2,bY h3];simp only[cI];rw[aM (n:=lo-1)];obtain⟨un,re,e1,r1,r2⟩:=Aa h (lo-1);obtain⟨ins,ov,e2,r3,r4⟩:=Aa r2.1 hi;have mi:∀x,bU ins x↔bU a x/\lo<=x/\x<=hi:=λx=>⟨λk=>let ⟨k1,k2⟩:=(r3.2 x).mp k;let ⟨k3,k4⟩:=(r2.2 x).mp k1;⟨k3,aq,k2⟩,λ⟨k1,k2,k3⟩=>(r3.2 x).mpr ⟨(r2.2 x).mpr ⟨k1,aq⟩,k3⟩⟩;have mo:∀x,bU ov x↔bU a x/\hi<x:=λx=>⟨λk=>let ⟨k1,k2⟩:=(r4.2 x).mp k;let ⟨k3,k4⟩:=(r2.2 x).mp k1;⟨k3,k2⟩,λ⟨k1,k2⟩=>(r4.2 x).mpr ⟨(r2.2 x).mpr ⟨k1,aq⟩,k2⟩⟩;obtain⟨x1,f1,s1⟩:=Bx h (lo-1);obtain⟨x2,f2,s2⟩:=Km s1.1 hi;obtain⟨x3,f3,s3⟩:=Km h lo;obtain⟨x4,f4,s4⟩:=Bx h hi;have m2:∀x,bU x2 x↔bU a x/\lo<=x/\x<=hi:=λx=>⟨λk=>let ⟨k1,k2⟩:=(s2.2 x).mp k;let ⟨k3,k4⟩:=(s1.2 x).mp k1;⟨k3,aq,k2⟩,λ⟨k1,k2,k3⟩=>(s2.2 x).mpr ⟨(s1.2 x).mpr ⟨k1,aq⟩,k3⟩⟩;have rlo:cC lo:=h1;have rhi:cC hi:=h2;have nb:∀b:Bool,(match b with|true=>true|false=>false)=b:=λb=>by cases b<;>rfl
    obtain⟨t1,t2⟩:=nU (Ex.rep ⟨r3.1,mi⟩) r3.1 rlo r1.rep r1.1;have P:∃c,(match C2 a (lo-1)with|I=>I|V r3=>match C2 r3.snd hi with|I=>I|V r4=>bif bif fC r3.fst then G else O then match mH r4.fst (iq lo)with|I=>I|V r5=>bif bif fC r4.snd then G else O then match mH r5 (iq hi)with|I=>I|V r6=>V (r6,(0:Int))else V (r5,0)else bif bif fC r4.snd then G else O then match mH r4.fst (iq hi)with|I=>I|V r7=>V (r7,0)else V (r4.fst,0))=V (c,0)/\ni (tH a lo hi) c:=by
     have fin:∀c,NV c->ni (λy=>(bU a y/\lo<=y/\y<=hi)\/(y=lo/\∃x,bU a x/\x<=lo-1)) c->∃d,(bif bif fC ov then G else O then match mH c (iq hi)with|I=>I|V r6=>V (r6,(0:Int))else V (c,0))=V (d,0)/\ni (tH a lo hi) d:=λc vc hc=>by
      obtain⟨u1,u2⟩:=nU hc vc rhi (Ex.rep ⟨r4.1,mo⟩) r4.1;have eq:∀y,(((bU a y/\lo<=y/\y<=hi)\/(y=lo/\∃x,bU a x/\x<=lo-1))\/(y=hi/\∃x,bU a x/\hi<x))↔tH a lo hi y:=λy=>by
       constructor
       ·rintro((⟨k1,k2,k3⟩|⟨rfl,x,k1,k2⟩)|⟨rfl,x,k1,k2⟩)
        ·exact⟨y,k1,aq⟩
        ·exact⟨x,k1,aq⟩
        ·exact⟨x,k1,aq⟩
       ·rintro⟨x,k1,rfl⟩;rcases (show x<lo\/hi<x\/(lo<=x/\x<=hi)by omega)with k|k|k
        ·exact .inl (.inr ⟨aq,x,k1,aq⟩)
        ·exact .inr ⟨aq,x,k1,k⟩
        ·rw[show max lo (min x hi)=x by omega];simp_all
      cases ho:fC ov with
      |true=>exact⟨c,rfl,(u1 ho).congr eq⟩
      |false=>
       simp only[cv];rw[j8 vc (.inr (show NN (iq hi)from NN.one h2.1 h2.2))];exact⟨_,rfl,(u2 ho).congr eq⟩
     rw[e1];simp only;rw[e2];simp only;cases hu:fC un with
     |true=>
      simp only[cI];exact fin ins r3.1 (t1 hu)
     |false=>
      simp only[cv];rw[j8 r3.1 (.inr (show NN (iq lo)from NN.one h1.1 h1.2))];exact fin (cF ins (eF lo)) (fh r3.1 (qu rlo)) (t2 hu)
    obtain⟨c,P1,P2⟩:=P;have vc:NV c:=P2.valid λx hx=>adU rlo rhi aq hx;refine⟨c,P1,?_,P2,vc,rlo,rhi,aq⟩;have fin:∀c',NV c'->ni (λy=>(bU a y/\lo<=y/\y<=hi)\/(y=lo/\∃x,bU a x/\x<=lo)) c'->(match ZC a hi with|I=>I|V r7=>bif bif mb r7 then G else O then match lE c' (aL.mk hi hi 0)with|I=>I|V r8=>V (r8,(0:Int))else V (c',0))=V (c,0):=λc' vc' hc'=>by
     obtain⟨u1,u2⟩:=nU hc' vc' rhi s4.rep s4.1;have eq:∀y,(((bU a y/\lo<=y/\y<=hi)\/(y=lo/\∃x,bU a x/\x<=lo))\/(y=hi/\∃x,bU a x/\hi<x))↔tH a lo hi y:=λy=>by
      constructor
      ·rintro((⟨k1,k2,k3⟩|⟨rfl,x,k1,k2⟩)|⟨rfl,x,k1,k2⟩)
       ·exact⟨y,k1,aq⟩
       ·exact⟨x,k1,aq⟩
       ·exact⟨x,k1,aq⟩
      ·rintro⟨x,k1,rfl⟩;rcases (show x<lo\/hi<x\/(lo<=x/\x<=hi)by omega)with k|k|k
       ·exact .inl (.inr ⟨aq,x,k1,aq⟩)
       ·exact .inr ⟨aq,x,k1,k⟩
       ·rw[show max lo (min x hi)=x by omega];exact .inl (.inl ⟨k1,k.1,k.2⟩)
     rw[f4];simp only;rw[<-(s4.rep.empty s4.1).1];cases ho:fC x4 with
     |true=>
      rw[((u1 ho).congr eq).uniq P2];rfl
     |false=>
      simp only[cU];rw[gF vc' (.inr (show NN (aL.mk hi hi 0)from NN.one h2.1 h2.2))];rw[show cF c' (aL.mk hi hi 0)=c from((u2 ho).congr eq).uniq P2]
    obtain⟨t1,t2⟩:=nU (Ex.rep ⟨s2.1,m2⟩) s2.1 rlo s3.rep s3.1;rw[f1];simp only;rw[f2];rw[f3];simp only;rw[<-(s3.rep.empty s3.1).1];cases hu:fC x3 with
    |true=>
     exact fin x2 s2.1 (t1 hu)
    |false=>
     rw[gF s2.1 (.inr (show NN (aL.mk lo lo 0)from NN.one h1.1 h1.2))];exact fin _ (fh s2.1 (qu rlo)) (t2 hu)
  ·right;rw[b7 h1,bY h2];refine⟨?_,rfl,λk=>h2 k.2.1⟩;cases J (hi<lo)<;>rfl
 ·right;rw[bY h1];refine⟨?_,rfl,λk=>h1 k.1⟩;cases J (hi<lo)<;>rfl
def lQ{a:aL}(h:NV a):cD a=O↔∃x,bU a x/\x≠0:=by
 unfold cD;rcases h with rfl|h
 ·rw[show bZ cL=0 from by unfold bZ;rw[bJ rfl],AJ,AJ];exact⟨λk=>(by cases k),λ⟨x,k,_⟩=>ep k C5⟩
 ·have hp:=size_pos h;have h1:=kr h;have hle:=h.le;have mlo:bU a a.ah:=⟨zw _,h.le,⟨0,aq⟩⟩;have mhi:bU a a.ag:=⟨h.le,zw _,h.dvd⟩;by_cases c:1<bZ a
  ·rw[bJ c];refine⟨λ_=> ?_,λ_=>rfl⟩;by_cases z:a.ah=0
   ·exact⟨a.ag,mhi,λk=>by have:=h1.mpr aq;omega⟩
   ·exact⟨a.ah,mlo,z⟩
  ·rw[bN c,bJ (show bZ a=1 by omega)];have e:=h1.mp aq;constructor
   ·intro k;refine⟨a.ah,mlo,λz=> ?_⟩;rw[mR (show bU a 0 by rw[<-z];exact mlo)]at k;cases k
   ·rintro⟨x,k1,k2⟩;rw[jt (show ¬bU a 0 from λk=>by have:=k.1;have:=k.2.1;have:=k1.1;have:=k1.2.1;omega)];rfl
def zero_or{a:aL}(h:NN a):(cD a||cS a 0)=O:=by
 have mlo:bU a a.ah:=⟨zw _,h.le,⟨0,aq⟩⟩;by_cases z:a.ah=0
 ·rw[mR (show bU a 0 by rw[<-z];exact mlo),Bool.or_true]
 ·rw[(lQ (.inr h)).mpr ⟨_,mlo,z⟩,Bool.true_or]
def aAR(a:aL):aL:=aL.mk (-a.ag) (-a.ah) a.ak
def am1{a:aL}(h:NN a):NN (aAR a):=by
 have:=h.lo;have:=h.hi;have:=h.le
 refine⟨by show _<= -a.ag;omega,by show-a.ah<=_;omega,by show-a.ag<= -a.ah;omega,?_⟩;rcases h.st with ⟨h1,h2⟩|⟨h1,h2,h3⟩
 ·exact .inl ⟨by show-a.ag= -a.ah;omega,h2⟩
 ·refine .inr ⟨by show-a.ag< -a.ah;omega,h2,?_⟩;show (-a.ah- -a.ag)%a.ak=0;rw[show-a.ah- -a.ag=a.ag-a.ah by omega];exact h3
def rE(op:Int)(a:aL):aL×Int:=open Classical in
 if¬NV a\/(op≠6/\op≠7)then(aL.mk 0 0 0,1)else if a=cL then(cL,0)else if op=7 then(iX (cD a) (cS a 0),0)else(aAR a,0)
def G9(op:Int):(bif bif J (op=6)then G else O then V (bif J (op=7)then G else O)else V G)=V (J (op≠6/\op≠7)):=by
 by_cases h:op=6
 ·rw[b7 h,bY (show ¬(op≠6/\op≠7)from λk=>k.1 h)];rfl
 ·by_cases k:op=7
  ·rw[bY h,b7 k,bY (show ¬(op≠6/\op≠7)from λe=>e.2 k)];rfl
  ·rw[bY h,bY k,b7 (show op≠6/\op≠7 from⟨h,k⟩)];rfl
def WM{a:aL}(h:NV a)(op:Int):ahp op a=V (rE op a):=by
 unfold ahp rE;rw[eX,eo h];simp only[cU];rw[G9];by_cases ho:op≠6/\op≠7
 ·rw[b7 ho,bJ (.inr ho)];rfl
 ·rw[bY ho,bN (λk=>k.elim (λe=>e h) ho)];simp only[cv];rcases h with rfl|h
  ·rw[kS,bJ rfl];rfl
  ·rw[eR h.ne,bN h.ne,cv];by_cases h7:op=7
   ·rw[b7 h7,bJ h7,cI,DA (.inr h)];simp only;rw[UT]
   ·rw[bY h7,bN h7,cv];have:=h.lo;have:=h.hi;have:=h.le
    rw[aM (n:=0-a.ag),aM (n:=0-a.ah),xW,xW];rfl
def WI{a:aL}(h:NV a)(op:Int):abz op a=V (rE op a):=by
 unfold abz rE;rw[gj,eo h];simp only[cU];rw[G9];by_cases ho:op≠6/\op≠7
 ·rw[b7 ho,bJ (.inr ho)];rfl
 ·rw[bY ho,bN (λk=>k.elim (λe=>e h) ho)];simp only[cv];rcases h with rfl|h
  ·rw[ue,bJ rfl];rfl
  ·rw[gZ h,bN h.ne,cv];by_cases h7:op=7
   ·rw[bY (show ¬op=6 by omega),bJ h7,cv,o5 (.inr h)];simp only;rw[Xr (zero_or h)]
   ·rw[b7 (show op=6 by omega),bN h7,cI];have:=h.lo;have:=h.hi;have:=h.le
    rw[aM (n:=0-a.ag),aM (n:=0-a.ah),xW,xW];rfl
def RG:NV (aL.mk 0 0 0):= .inr (NN.one (x:=0) aq aq)
def oS(x y:Int):Int:=if y=0 then 0 else if x.tmod y≠0/\(J (x<0))≠(J (y<0))then x.tdiv y-1 else x.tdiv y
def tM{x y:Int}(hy:y≠0):∃q r:Int,x.tdiv y=q/\x.tmod y=r/\y*q+r=x/\r.natAbs<y.natAbs/\q.natAbs<=x.natAbs/\(0<=x->0<=r)/\(x<=0->r<=0)/\(r≠0->q.natAbs<x.natAbs):=by
 refine⟨_,_,rfl,rfl,Int.mul_tdiv_add_tmod x y,?_,?_,λh=>Int.tmod_nonneg _ h,λh=> ?_,λh=> ?_⟩
 ·rw[Int.natAbs_tmod];exact xg _ aq
 ·rw[Int.natAbs_tdiv];exact Nat.div_le_self _ _
 ·have:=Int.tmod_nonneg (a:= -x) y aq;rw[Int.neg_tmod]at this;omega
 ·have e:=Nat.div_add_mod x.natAbs y.natAbs;have hr:(x.tmod y).natAbs≠0:=aq;rw[Int.natAbs_tmod]at hr;rw[Int.natAbs_tdiv];have h1:x.natAbs/y.natAbs<=y.natAbs*(x.natAbs/y.natAbs):=Nat.le_mul_of_pos_left _ aq;show x.natAbs/y.natAbs<x.natAbs;omega
def Sb{x y:Int}(hx:cC x):cC (oS x y)/\(oS x y).natAbs<=x.natAbs:=by
 unfold oS;obtain⟨h1,h2⟩:=hx;by_cases hy:y=0
 ·rw[bJ hy];exact⟨⟨aq,aq⟩,aq⟩
 ·rw[bN hy];obtain⟨q,r,e1,e2,e3,e4,e5,_,_,e6⟩:=tM (x:=x) hy;split
  ·rename_i h;exact⟨⟨aq,aq⟩,aq⟩
  ·exact⟨⟨aq,aq⟩,aq⟩
def Q4{x y:Int}(hy:cC y)(h0:y≠0):cC (x-y*oS x y)/\(0<y->0<=x-y*oS x y/\x-y*oS x y<y)/\(y<0->x-y*oS x y<=0/\y<x-y*oS x y):=by
 unfold oS;rw[bN h0];obtain⟨h1,h2⟩:=hy;obtain⟨q,r,e1,e2,e3,e4,e5,e7,e8,e6⟩:=tM (x:=x) h0;rw[e1,e2];by_cases h:r≠0/\J (x<0)≠J (y<0)
 ·rw[bJ h,Int.mul_sub,Int.mul_one];obtain⟨k1,k2⟩:=h;by_cases c:x<0
  ·have c2:¬y<0:=λk=>k2 (by rw[b7 c,b7 k]);exact⟨⟨aq,aq⟩,λ_=>aq,λ_=>aq⟩
  ·have c2:y<0:=Decidable.byContradiction λk=>k2 (by rw[bY c,bY k]);exact⟨⟨aq,aq⟩,λ_=>aq,λ_=>aq⟩
 ·rw[bN h];by_cases k1:r=0
  ·exact⟨⟨aq,aq⟩,λ_=>aq,λ_=>aq⟩
  ·have k2:J (x<0)=J (y<0):=Decidable.byContradiction λk=>h ⟨k1,k⟩;by_cases c:x<0
   ·have c2:y<0:=by
     simp_all
    exact⟨⟨aq,aq⟩,λ_=>aq,λ_=>aq⟩
   ·have c2:¬y<0:=by
     rw[bY c]at k2;exact of_decide_eq_false k2.symm
    exact⟨⟨aq,aq⟩,λ_=>aq,λ_=>aq⟩
def LZ{x y:Int}(hx:cC x)(hy:cC y):adf x y=V (oS x y):=by
 have hR:=Sb (y:=y) hx;unfold adf;unfold oS at hR ⊢;obtain⟨h1,h2⟩:=hx;by_cases h0:y=0
 ·rw[b7 h0,bJ h0];rfl
 ·rw[bN h0]at hR;rw[bY h0,bN h0,cv,bJ h0,bJ h0,C4];obtain⟨q,r,e1,e2,e3,e4,e5,e7,e8,e6⟩:=tM (x:=x) h0;rw[e1,e2]at hR ⊢;by_cases k1:r=0
  ·rw[bY (show ¬¬r=0 by omega),bN (λk=>k.1 k1)];simp only[cv];rw[aM]
  ·rw[b7 k1];simp only[cI];by_cases k2:J (x<0)=J (y<0)
   ·rw[bN (λk=>k.2 k2),k2];have:(bif J (y<0)==J (y<0)then false else true)=false:=by cases J (y<0)<;>rfl
    rw[this];simp only[cv];rw[aM]
   ·rw[bJ ⟨k1,k2⟩]at hR ⊢;have:(bif J (x<0)==J (y<0)then G else O)=O:=by
     revert k2;simp
    rw[this];simp only[cI];rw[aM (n:=q),aM (n:=q-1)]
def Wb{x y:Int}(hx:cC x)(hy:cC y):amn x y=V (oS x y):=LZ hx hy
def oo(b:Bool):Int:=if b then 1 else 0
def fS(op x y:Int):Int:=
 if op=8 then x+y else if op=9 then x-y else if op=10 then x*y else if op=11 then oS x y else if op=12 then(if y=0 then 0 else x-y*oS x y)
 else if op=13 then oo (J (x=y))else if op=14 then oo (!J (x=y))else if op=15 then oo (J (x<y))else if op=16 then oo (J (x<=y))else if op=17 then oo (J (y<x))else if op=18 then oo (J (y<=x))
 else if op=19 then oo (J (x≠0/\y≠0))else if op=20 then oo (J (x≠0\/y≠0))else if op=21 then min x y else max x y
def tq(b:Bool):cC (oo b):=by cases b<;>exact⟨by decide,by decide⟩
def ajE{op x y:Int}(hx:cC x)(hy:cC y)(ho:op=11\/op=12\/op=21\/op=22):Ze op x y=V (fS op x y):=by
 unfold Ze fS;rcases ho with rfl|rfl|rfl|rfl
 ·rw[b7 rfl,cI,LZ hx hy];rfl
 ·rw[bY (by decide),b7 rfl,cv,cI];show _=V (if y=0 then 0 else x-y*oS x y);by_cases h0:y=0
  ·simp_all
  ·rw[bY h0,bN h0,cv,LZ hx hy];simp only;have hm:=Q4 (x:=x) hy h0;obtain⟨a1,a2⟩:=hx;obtain⟨b1,b2⟩:=hy;rw[aM (n:=y*oS x y),aM]
 ·rw[bY (by decide),bY (by decide),b7 rfl];rw[show (if y<x then y else x)=min x y by split<;>omega];rfl
 ·rw[bY (show ¬(22:Int)=11 by decide),bY (show ¬(22:Int)=12 by decide),bY (show ¬(22:Int)=21 by decide)];rw[show (if x<y then y else x)=max x y by split<;>omega];rfl
def binop(op:Int):Prop:=8<=op/\op<=22
def uK{x:Int}(hx:cC x):@Eq Int (jo x 0) ((x.natAbs:Nat):Int):=by
 unfold jo;obtain⟨h1,h2⟩:=hx;by_cases c:x<0
 ·rw[b7 c,cI,aM];show @Eq Int (0-x) ((x.natAbs:Nat):Int);omega
 ·rw[bY c,cv,aM];show @Eq Int (x-0) ((x.natAbs:Nat):Int);omega
def nI{x:Int}(hx:cC x):@Eq Int (jW x) ((x.natAbs:Nat):Int):=by
 obtain⟨h1,h2⟩:=hx;obtain⟨k1,k2⟩:=IW (x:=x) aq aq;grind
def Pz{x y:Int}(h0:x≠0):((1099511627776:Int)/x.natAbs<y.natAbs)↔¬cC (x*y):=by
 have hp:(0:Int)<(x.natAbs:Int):=aq;have e:((x*y).natAbs:Int)=(y.natAbs:Int)*(x.natAbs:Int):=by rw[Int.natAbs_mul,wJ,zO]
 have hi:cC (x*y)↔((x*y).natAbs:Int)<=1099511627776:=⟨λ⟨h1,h2⟩=>aq,λh=>⟨aq,aq⟩⟩;rw[hi,e,<-Int.le_ediv_iff_mul_le hp];omega
end Go.Proofs.YtnfljbehcffmcaaGreat
end
