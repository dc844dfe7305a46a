/- Merged: Hn, Gd, Ho, Pl, Nd, Nd2, Nd3, Nd4, Nd5, Nd6, Nd7, Ne1, Pl2, Ne2, Ne3, Ne4, Ne5, Ne6, Ne7, Ne8, Ne11, Ne12. -/
import Derived.Test.YtnfljbehcffmcaaGreatM1RefineSplits
import Derived.Test.YtnfljbehcffmcaaGreatM2RefineSplits
import Derived.KernelRfl
open Nat renaming le_refl -> zm, mod_lt -> yV, zero_le -> yW, lt_succ_iff_lt_or_eq -> xo
open List renaming mem_singleton -> zq, getElem?_eq_getElem -> zu, all_eq_true -> zx, mem_cons -> zy, length_take -> zA, take_length -> zG, range -> zN, mem_append -> zP, length -> zR, drop -> ya, getElem_of_mem -> yU, getElem_take -> xI, getElem_mem -> xN, any_eq_true -> xU, length_pos_iff -> wR
open Bool renaming and_eq_true -> zh, or_eq_true -> yJ, true -> O, false -> G
open Int renaming toNat_natCast -> zi, le_refl -> zw, toNat -> zD, mul_nonneg -> zI, mul_le_mul_of_nonneg_right -> zM, mul_comm -> zO, ediv_nonneg -> zS, add_mul -> zU, dvd_trans -> zY, mul_assoc -> yb, one_mul -> yd, ediv_le_self -> yo, dvd_sub -> yA, sub_mul -> yB, gcd -> yC, mul_ediv_add_emod -> yY, emod_nonneg -> yZ, mul_le_mul -> y4, dvd_add -> y5, emod_lt_of_pos -> y8, ediv_mul_le -> xu, mul_add -> xF, dvd_mul_left -> xG, dvd_zero -> xK, le_of_lt -> xT, le_trans -> xV, zero_sub -> xW, ediv_mul_cancel -> wo, natCast_mul -> wG, lt_of_mul_lt_mul_right -> wK, ediv_lt_of_lt_mul -> wZ, eq_ofNat_of_zero_le -> w9, mul_le_mul_of_nonneg_left -> va, dvd_of_emod_eq_zero -> ve, lt_ediv_add_one_mul_self -> vf
open Option renaming some -> zF, some -> V, none -> I
open Decidable renaming decide -> J
open Go.Proofs.Tryz renaming prog -> vn
open Go.Proofs.Tryz
set_option linter.unusedSectionVars false
set_option linter.unusedVariables false
set_option linter.unusedSimpArgs false
set_option linter.defProp false
noncomputable section
set_option maxRecDepth 100000
namespace Go.Proofs.YtnfljbehcffmcaaGreat
open Go Go.Iv
open Go.IntKind (i64 u64)
abbrev E80:=aL
def d80:Td 0 E80:= .c [] [2] (.r 0 1 (ec 2 (qp 0 0) en) (sb 0 34 (lg 34) sn) (λz=>z.2.1) (λx=>(((),()),(x,()))))
def W6(a0:Int):E80:=
 aL.mk a0 a0 (0)
def e80:=eL vn 80 G (aS ln) d80 (λg=>V (W6 g.1))
def LG:EO e80:=λh=>kL (an:= .no) func80 aP aH h
def asE:bu:=di
abbrev asD:=Bool
def d145:Td 0 asD:= .c [] [2] (.r 0 0 (ec 2 qb en) sn (λz=>z.1.1) (λx=>((x,()),(()))))
def axk:=(aS ln)
def anK:An:=(noTwo (.two (.rb [] 2) .no))
def awr:∀f∈([]:aa Nat),bA (asE) f:=aH
def jh(a0:Int):asD:=
 let r1:Bool:=bif J (-1099511627776<=a0)then J (a0<=1099511627776)else G;r1
def aEq(a0:Int):bU vn (asE) 300 (anK) 145 (axk.c (a0,())) [] 0 d145.rd=V (jh a0):=by
 refine Eq.trans (b:=(
  match bif J (-1099511627776<=a0)then V (J (a0<=1099511627776))else V (G)with|I=>I|V r1=>V (r1):af asD)) aV ?_
 simp only[jh,cu,cO]
def ZE:=eL vn 145 G axk d145 (λg=>V (jh g.1))
def Ac:EO ZE:=λh=>kL (F:=asE) (an:=anK) (l:=[(.skip,(.rb [] 2))]) func145 aP (aA awr aH) h (c:=λg=>aEq g.1)
def jR:EP ZE:=λh=>kP h
def aAc:bu:=di
abbrev aDp:=aL
def d224:Td 0 aDp:= .c [] [0] (.r 0 1 (ec 0 (qp 0 0) en) (sb 0 34 (lg 34) sn) (λz=>z.2.1) (λx=>(((),()),(x,()))))
def ayx:=ln
def anF:An:= .no
def jA:aDp:=
 aL.mk (1) (0) (0)
def aFu:bU vn (aAc) 300 (anF) 224 (ayx.c ()) [] 0 d224.rd=V (jA):=aV
def N9:=eL vn 224 G ayx d224 (λ_=>V (jA))
def j4:EO N9:=λh=>kL (F:=aAc) (an:=anF) func224 aP aH h (c:=λ_=>aFu)
def lI:EP N9:=λh=>kP h
def aEr:bu:=(N9 di)
abbrev avB:=Bool
def d147:Td 0 avB:= .c [] [2] (.r 0 0 (ec 2 qb en) sn (λz=>z.1.1) (λx=>((x,()),(()))))
def aAo:=(lc (qg 34) ln)
def anX:An:= .no
def fu(a0:aL):avB:=
 bif J (a0.ah=jA.ah)then bif J (a0.ag=jA.ag)then bif J (a0.aj=jA.aj)then O else G else G else G
def aFD(a0:aL):bU vn (aEr) 300 (anX) 147 (aAo.c (a0,())) [] 0 d147.rd=V (fu a0):=by
 refine Eq.trans (b:=(
  V (bif J (a0.ah=jA.ah)then bif J (a0.ag=jA.ag)then bif J (a0.aj=jA.aj)then O else G else G else G):af avB)) aV ?_
 simp only[fu,cu,cO]
def Ez:=eL vn 147 G aAo d147 (λg=>V (fu g.1))
def jo:EO Ez:=λh=>kL (an:=anX) func147 (j4 aP) aH h (c:=λg=>aFD g.1)
def fD:EP Ez:=λh=>kP h
def ayM:bu:=(Ez (ZE di))
abbrev aAM:=Bool
def d144:Td 0 aAM:= .c [] [2] (.r 0 0 (ec 2 qb en) sn (λz=>z.1.1) (λx=>((x,()),(()))))
def apv:∀f∈([145]:aa Nat),bA (ayM) f:=(aA (fD (jR bF)) aH)
def uf(a0:aL):af aAM:=
 bif fu a0 then V O else match bif bif jh a0.ah then G else O then V O else bif bif jh a0.ag then G else O then V O else V (J (a0.ag<a0.ah))with|I=>I|V r1=>bif r1 then V G else bif J (a0.ah=a0.ag)then V (J (a0.aj=0))else match bif J (1<=a0.aj)then if¬a0.aj=0then V (J ((ak (a0.ag-a0.ah)).tmod a0.aj=0))else I else V G with|I=>I|V r2=>V (r2)
def OV:=eL vn 144 G (lc (qg 34) ln) d144 (λg=>uf g.1)
def lC:EO OV:=λh=>kL (F:=ayM) (an:=(noTwo (noTwo (.two (.two (.rb [145] 21) .no) (noTwo (.two (.rb [145] 2) .no)))))) (l:=[(.skip,(.rb [145] 21)),(.skip,(.rb [145] 2))]) func144 (jo (Ac aP)) (aA apv (aA apv aH)) h
def ga:EP OV:=λh=>kP h
abbrev awg:=aL
def d149:Td 0 awg:= .c [] [2] (.r 0 1 (ec 2 (qp 0 0) en) (sb 0 34 (lg 34) sn) (λz=>z.2.1) (λx=>(((),()),(x,()))))
def iz(a0:Int):awg:=
 aL.mk a0 a0 (0)
def aju:=eL vn 149 G (aS ln) d149 (λg=>V (iz g.1))
def sB:EO aju:=λh=>kL (an:= .no) func149 aP aH h
def Y2:EP aju:=λh=>kP h
abbrev aAi:=aL
def d225:Td 0 aAi:= .c [] [6] (.r 0 1 (ec 6 (qp 0 0) en) (sb 0 34 (lg 34) sn) (λz=>z.2.1) (λx=>(((),()),(x,()))))
def nK(a0:Int)(a1:Int)(a2:Int):af aAi:=
 bif J (a1<a0)then V (jA)else bif J (a2=0)then V (iz a0)else if¬a2=0then bif J (a0=ak (a0+ak (ak ((ak (a1-a0)).tdiv a2)*a2)))then V (iz a0)else V (aL.mk a0 (ak (a0+ak (ak ((ak (a1-a0)).tdiv a2)*a2))) a2)else I
def Ra:=eL vn 225 G (aS (aS (aS ln))) d225 (λg=>nK g.1 g.2.1 g.t.1)
def rU:EO Ra:=λh=>kL (an:= .no) func225 (j4 (sB aP)) aH h
def jQ:EP Ra:=λh=>kP h
def awR:bu:=(Ra (N9 (Ez di)))
abbrev axw:=aL×aL
def d146:Td 0 axw:= .c [] [4,5] (.r 0 2 (ec 4 (qp 0 0) (ec 5 (qp 1 0) en)) (sb 0 34 (lg 34) (sb 1 34 (lg 34) sn)) (λz=>(z.2.1,z.t.1)) (λx=>(((),(),()),(x.1,x.2,()))))
def ayI:∀f∈([147]:aa Nat),bA (awR) f:=(aA (jQ (lI (fD bF))) aH)
def C0(a0:aL)(a1:Int):af axw:=
 match bif fu a0 then V (O)else V (J (a1<a0.ah))with|I=>I|V r1=>bif r1 then V ((jA,a0))else bif J (a0.ag<=a1)then V ((a0,jA))else match nK a0.ah a1 a0.aj with|I=>I|V r2=>match nK (ak (r2.ag+a0.aj)) a0.ag a0.aj with|I=>I|V r3=>V ((r2,r3))
def af6:=eL vn 146 G (lc (qg 34) (aS ln)) d146 (λg=>C0 g.1 g.2.1)
def Jf:EO af6:=λh=>kL (F:=awR) (an:=(noTwo (.two (.two (.rb [147] 7) .no) .no))) (l:=[(.skip,(.rb [147] 7))]) func146 (rU (j4 (jo aP))) (aA ayI aH) h
def Zb:EP af6:=λh=>kP h
structure ng where
 (t3 t5:Int)
 t6:List Int
 (t7 t8:Int)
def SZ:Td 0 ng:= .c [] [3,5,6,7,8] (.r 0 0 (ec 3 aN (ec 5 aN (ec 6 (ql 3) (ec 7 aN (ec 8 aN en))))) sn (λz=>⟨z.1.1,z.1.2.1,z.1.t.1,z.1.t.2.1,z.1.q.1⟩) (λx=>((x.t3,x.t5,x.t6,x.t7,x.t8,()),(()))))
def ud(p:ng):af (af ng):=
 bif bif J (p.t5=0)then G else O then if¬p.t5=0then V (V (ng.mk p.t5 (p.t3.tmod p.t5) p.t6 p.t7 p.t8))else I else V (I)
def AG:=bJ (ud)
structure uu where
 t3:Int
 t6:List Int
 (t7 t8:Int)
def QL:Td 0 uu:= .c [] [3,6,7,8] (.r 0 0 (ec 3 aN (ec 6 (ql 3) (ec 7 aN (ec 8 aN en)))) sn (λz=>⟨z.1.1,z.1.2.1,z.1.t.1,z.1.t.2.1⟩) (λx=>((x.t3,x.t6,x.t7,x.t8,()),(()))))
def tI(p:uu):af (af uu):=
 bif J (p.t8<p.t7)then if 0<=p.t8/\p.t8<zR p.t6 then match AG (ng.mk p.t3 p.t6[zD p.t8]! p.t6 p.t7 p.t8)with|I=>I|V r1=>bif bif J (r1.t5=0)then G else O then if¬r1.t5=0then I else I else V (V (uu.mk r1.t3 r1.t6 r1.t7 (ak (r1.t8+1))))else I else V (I)
def aeC:An:=(noTwo (noTwo (.two (noTwo (SZ.lp AG .no)) .no)))
def E9:=bJ (tI)
abbrev awi:=Int
def d226:Td 0 awi:= .c [] [2] (.r 0 0 (ec 2 aN en) sn (λz=>z.1.1) (λx=>((x,()),(()))))
def C1(a0:aa Int):af awi:=
 match E9 (uu.mk 0 a0 a0.length 0)with|I=>I|V r2=>bif J (r2.t8<r2.t7)then if 0<=r2.t8/\r2.t8<zR r2.t6 then match AG (ng.mk r2.t3 r2.t6[zD r2.t8]! r2.t6 r2.t7 r2.t8)with|I=>I|V r3=>bif bif J (r3.t5=0)then G else O then if¬r3.t5=0then I else I else I else I else V (r2.t3)
def aeF:=eL vn 226 G (lc (ql 3) ln) d226 (λg=>C1 g.1)
def Dk:EO aeF:=λh=>kL (an:=(noTwo (noTwo (.two (noTwo (QL.lp E9 aeC)) .no)))) (l:=[(aY f226 0,(QL.lp E9 aeC)),(aY f226 1,(SZ.lp AG .no))]) func226 aP (aA (aO QL) (aA (aO SZ) aH)) h
def nP:EP aeF:=λh=>kP h
def aHD:bu:=di
abbrev auQ:=Int
def d227:Td 0 auQ:= .c [] [2] (.r 0 0 (ec 2 aN en) sn (λz=>z.1.1) (λx=>((x,()),(()))))
def ay4:=(aS ln)
def aoX:An:= .no
def jO(a0:Int):auQ:=
 if a0<ak (0-a0)then ak (0-a0)else a0
def aGB(a0:Int):bU vn (aHD) 300 (aoX) 227 (ay4.c (a0,())) [] 0 d227.rd=V (jO a0):=by
 refine Eq.trans (b:=(
  V (if a0<ak (0-a0)then ak (0-a0)else a0):af auQ)) aV ?_
 simp only[jO,cu,cO]
def abl:=eL vn 227 G ay4 d227 (λg=>V (jO g.1))
def DF:EO abl:=λh=>kL (an:=aoX) func227 aP aH h (c:=λg=>aGB g.1)
def Ig:EP abl:=λh=>kP h
def ax8:bu:=(abl (aeF (Ra (Ez di))))
abbrev awN:=aL
def d148:Td 0 awN:= .c [] [4] (.r 0 1 (ec 4 (qp 0 0) en) (sb 0 34 (lg 34) sn) (λz=>z.2.1) (λx=>(((),()),(x,()))))
def aBl:∀f∈([147]:aa Nat),bA (ax8) f:=(aA (Ig (nP (jQ (fD bF)))) aH)
def mG(a0:aL)(a1:aL):af awN:=
 bif fu a0 then V (a1)else match bif fu a1 then V (O)else V (bif J (a0.ah=a1.ah)then bif J (a0.ag=a1.ag)then bif J (a0.aj=a1.aj)then O else G else G else G)with|I=>I|V r1=>bif r1 then V (a0)else match C1 [a0.aj,a1.aj,jO (ak (a0.ah-a1.ah))]with|I=>I|V r2=>match nK (if a1.ah<a0.ah then a1.ah else a0.ah) (if a0.ag<a1.ag then a1.ag else a0.ag) r2 with|I=>I|V r3=>V (r3)
def adm:=eL vn 148 G (lc (qg 34) (lc (qg 34) ln)) d148 (λg=>mG g.1 g.2.1)
def rQ:EO adm:=λh=>kL (F:=ax8) (an:=(noTwo (noTwo (.two (.two (.rb [147] 14) .no) .no)))) (l:=[(.skip,(.rb [147] 14))]) func148 (DF (Dk (rU (jo aP)))) (aA aBl aH) h
def Hs:EP adm:=λh=>kP h
def F81:bu:=(aju (adm (Ez (af6 (ZE (OV di))))))
abbrev E81:=aL×Int
def d81:Td 0 E81:= .c [] [6,7] (.r 0 1 (ec 6 (qp 0 0) (ec 7 aN en)) (sb 0 34 (lg 34) sn) (λz=>(z.2.1,z.1.2.1)) (λx=>(((),x.2,()),(x.1,()))))
def aEF:∀f∈([145]:aa Nat),bA (F81) f:=(aA (Y2 (Hs (fD (Zb (jR (ga bF)))))) aH)
def m81(a0:aL)(a1:Int)(a2:Int):af E81:=
 match uf a0 with|I=>I|V r1=>bif bif r1 then G else O then V ((aL.mk (0) (0) (0),1))else match bif J (a2<a1)then V (O)else bif bif jh a1 then G else O then V (O)else V (bif jh a2 then G else O)with|I=>I|V r2=>bif r2 then V ((aL.mk (0) (0) (0),3))else match C0 a0 (ak (a1-1))with|I=>I|V r3=>match C0 r3.snd a2 with|I=>I|V r4=>bif bif fu r3.fst then G else O then match mG r4.fst (iz a1)with|I=>I|V r5=>bif bif fu r4.snd then G else O then match mG r5 (iz a2)with|I=>I|V r6=>V ((r6,0))else V ((r5,0))else bif bif fu r4.snd then G else O then match mG r4.fst (iz a2)with|I=>I|V r7=>V ((r7,0))else V ((r4.fst,0))
def e81:=eL vn 81 G (lc (qg 34) (aS (aS ln))) d81 (λg=>m81 g.1 g.2.1 g.t.1)
def QH:EO e81:=λh=>kL (F:=F81) (an:=(noTwo (noTwo (.two (.two (.rb [145] 28) .no) .no)))) (l:=[(.skip,(.rb [145] 28))]) func81 (sB (rQ (jo (Jf (Ac (lC aP)))))) (aA aEF aH) h
def ayJ:bu:=(Ez di)
abbrev aCW:=Bool
def d177:Td 0 aCW:= .c [] [4] (.r 0 0 (ec 4 qb en) sn (λz=>z.1.1) (λx=>((x,()),(()))))
def ao5:∀f∈([147]:aa Nat),bA (ayJ) f:=(aA (fD bF) aH)
def Yy(a0:aL)(a1:Int):af aCW:=
 match bif fu a0 then V O else bif J (a1<a0.ah)then V O else V (J (a0.ag<a1))with|I=>I|V r1=>bif r1 then V G else match bif J (a0.aj=0)then V O else if¬a0.aj=0then V (J ((ak (a1-a0.ah)).tmod a0.aj=0))else I with|I=>I|V r2=>V (r2)
def ah7:=eL vn 177 G (lc (qg 34) (aS ln)) d177 (λg=>Yy g.1 g.2.1)
def LO:EO ah7:=λh=>kL (F:=ayJ) (an:=(noTwo (.two (.two (.rb [147] 18) .no) (.two (.rb [147] 4) .no)))) (l:=[(.skip,(.rb [147] 18)),(.skip,(.rb [147] 4))]) func177 (jo aP) (aA ao5 (aA ao5 aH)) h
def BB:EP ah7:=λh=>kP h
def F92:bu:=(ah7 (OV di))
abbrev E92:=Bool
def d92:Td 0 E92:= .c [] [4] (.r 0 0 (ec 4 qb en) sn (λz=>z.1.1) (λx=>((x,()),(()))))
def aGU:∀f∈([144,177]:aa Nat),bA (F92) f:=(aA (BB (ga bF)) (aA (BB (ga bF)) aH))
def m92(a0:aL)(a1:Int):af E92:=
 match match uf a0 with|I=>I|V r1=>bif r1 then match Yy a0 a1 with|I=>I|V r2=>V (r2)else V (G)with|I=>I|V r3=>V (r3)
def e92:=eL vn 92 G (lc (qg 34) (aS ln)) d92 (λg=>m92 g.1 g.2.1)
def QI:EO e92:=λh=>kL (F:=F92) (an:=(noTwo (.two (.rb [144,177] 4) .no))) (l:=[(.skip,(.rb [144,177] 4))]) func92 (LO (lC aP)) (aA aGU aH) h
abbrev aCZ:=Int
def d176:Td 0 aCZ:= .c [] [2] (.r 0 0 (ec 2 aN en) sn (λz=>z.1.1) (λx=>((x,()),(()))))
def Ba(a0:aL):af aCZ:=
 bif fu a0 then V 0 else bif J (a0.aj=0)then V 1 else if¬a0.aj=0then V (ak (ak ((ak (a0.ag-a0.ah)).tdiv a0.aj)+1))else I
def avj:=eL vn 176 G (lc (qg 34) ln) d176 (λg=>Ba g.1)
def vN:EO avj:=λh=>kL (an:= .no) func176 (jo aP) aH h
def Zh:EP avj:=λh=>kP h
abbrev awP:=Bool×Bool
def d228:Td 0 awP:= .c [] [2,3] (.r 0 0 (ec 2 qb (ec 3 qb en)) sn (λz=>(z.1.1,z.1.2.1)) (λx=>((x.1,x.2,()),(()))))
def Qu(a0:aL):af awP:=
 match Yy a0 (0)with|I=>I|V r1=>match Ba a0 with|I=>I|V r2=>bif J (1<r2)then V ((r1,O))else match Ba a0 with|I=>I|V r3=>bif J (r3=1)then V ((r1,bif J (a0.ah=0)then G else O))else V ((r1,G))
def aiX:=eL vn 228 G (lc (qg 34) ln) d228 (λg=>Qu g.1)
def KX:EO aiX:=λh=>kL (an:= .no) func228 (LO (vN aP)) aH h
def Im:EP aiX:=λh=>kP h
abbrev aAN:=Bool×Bool
def d151:Td 0 aAN:= .c [] [2,3] (.r 0 0 (ec 2 qb (ec 3 qb en)) sn (λz=>(z.1.1,z.1.2.1)) (λx=>((x.1,x.2,()),(()))))
def Sc(a0:aL):af aAN:=
 match uf a0 with|I=>I|V r1=>bif bif r1 then G else O then V ((G,G))else match Qu a0 with|I=>I|V r2=>V (r2)
def alb:=eL vn 151 G (lc (qg 34) ln) d151 (λg=>Sc g.1)
def IG:EO alb:=λh=>kL (an:= .no) func151 (KX (lC aP)) aH h
def aCV:bu:=(adm (OV di))
abbrev ayo:=aL×Int
def d229:Td 0 ayo:= .c [] [4,5] (.r 0 1 (ec 4 (qp 0 0) (ec 5 aN en)) (sb 0 34 (lg 34) sn) (λz=>(z.2.1,z.1.2.1)) (λx=>(((),x.2,()),(x.1,()))))
def aCD:∀f∈([144]:aa Nat),bA (aCV) f:=(aA (Hs (ga bF)) aH)
def agI(a0:aL)(a1:aL):af ayo:=
 match match uf a0 with|I=>I|V r1=>bif bif r1 then G else O then V (O)else match uf a1 with|I=>I|V r2=>V (bif r2 then G else O)with|I=>I|V r3=>bif r3 then V ((aL.mk (0) (0) (0),1))else match mG a0 a1 with|I=>I|V r4=>V ((r4,0))
def aHO:=eL vn 229 G (lc (qg 34) (lc (qg 34) ln)) d229 (λg=>agI g.1 g.2.1)
def aiU:EO aHO:=λh=>kL (F:=aCV) (an:=(noTwo (.two (.two (.rb [144] 13) .no) .no))) (l:=[(.skip,(.rb [144] 13))]) func229 (rQ (lC aP)) (aA aCD aH) h
abbrev ayB:=aL
def d152:Td 0 ayB:= .c [] [4] (.r 0 1 (ec 4 (qp 0 0) en) (sb 0 34 (lg 34) sn) (λz=>z.2.1) (λx=>(((),()),(x,()))))
def vQ(a0:aL)(a1:aL):af ayB:=
 bif bif J (a0.ah=a1.ah)then bif J (a0.ag=a1.ag)then bif J (a0.aj=a1.aj)then O else G else G else G then V (a0)else match agI a0 a1 with|I=>I|V r1=>V (r1.fst)
def aBT:=eL vn 152 G (lc (qg 34) (lc (qg 34) ln)) d152 (λg=>vQ g.1 g.2.1)
def Jd:EO aBT:=λh=>kL (an:= .no) func152 (aiU aP) aH h
def aA3:bu:=(N9 di)
abbrev az5:=aL
def d153:Td 0 az5:= .c [] [0] (.r 0 1 (ec 0 (qp 0 0) en) (sb 0 34 (lg 34) sn) (λz=>z.2.1) (λx=>(((),()),(x,()))))
def azg:=ln
def ap7:An:= .no
def amZ:az5:=
 jA
def aE5:bU vn (aA3) 300 (ap7) 153 (azg.c ()) [] 0 d153.rd=V (amZ):=aV
def ay2:=eL vn 153 G azg d153 (λ_=>V (amZ))
def ahO:EO ay2:=λh=>kL (F:=aA3) (an:=ap7) func153 (j4 aP) aH h (c:=λ_=>aE5)
abbrev ayp:=aL
def d230:Td 0 ayp:= .c [] [4] (.r 0 1 (ec 4 (qp 0 0) en) (sb 0 34 (lg 34) sn) (λz=>z.2.1) (λx=>(((),()),(x,()))))
def pR(a0:Bool)(a1:Bool):af ayp:=
 bif a0 then match mG jA (iz (0))with|I=>I|V r1=>bif a1 then match mG r1 (iz (1))with|I=>I|V r2=>V (r2)else V (r1)else bif a1 then match mG jA (iz (1))with|I=>I|V r3=>V (r3)else V (jA)
def al5:=eL vn 230 G (lc qb (lc qb ln)) d230 (λg=>pR g.1 g.2.1)
def Ug:EO al5:=λh=>kL (an:= .no) func230 (j4 (sB (rQ aP))) aH h
def Hr:EP al5:=λh=>kP h
def awI:bu:=(al5 (aiX (Ez (OV di))))
abbrev aAX:=aL×Int
def d154:Td 0 aAX:= .c [] [4,5] (.r 0 1 (ec 4 (qp 0 0) (ec 5 aN en)) (sb 0 34 (lg 34) sn) (λz=>(z.2.1,z.1.2.1)) (λx=>(((),x.2,()),(x.1,()))))
def ayt:∀f∈([144]:aa Nat),bA (awI) f:=(aA (Hr (Im (fD (ga bF)))) aH)
def ahz(a0:Int)(a1:aL):af aAX:=
 match match uf a1 with|I=>I|V r1=>bif bif r1 then G else O then V (O)else bif bif J (a0=6)then G else O then V (bif J (a0=7)then G else O)else V (G)with|I=>I|V r2=>bif r2 then V ((aL.mk (0) (0) (0),1))else bif fu a1 then V ((a1,0))else bif J (a0=7)then match Qu a1 with|I=>I|V r3=>match pR r3.snd r3.fst with|I=>I|V r4=>V ((r4,0))else V ((aL.mk (ak (0-a1.ag)) (ak (0-a1.ah)) a1.aj,0))
def ayS:=eL vn 154 G (aS (lc (qg 34) ln)) d154 (λg=>ahz g.1 g.2.1)
def aiP:EO ayS:=λh=>kL (F:=awI) (an:=(noTwo (.two (.two (.rb [144] 18) .no) .no))) (l:=[(.skip,(.rb [144] 18))]) func154 (Ug (KX (jo (lC aP)))) (aA ayt aH) h
def aHl:bu:=di
abbrev ar1:=Bool
def d231:Td 0 ar1:= .c [] [2] (.r 0 0 (ec 2 qb en) sn (λz=>z.1.1) (λx=>((x,()),(()))))
def awx:=(aS ln)
def apl:An:= .no
def CK(a0:Int):ar1:=
 bif J (a0=8)then O else bif J (a0=9)then O else bif J (a0=10)then O else bif J (a0=11)then O else bif J (a0=12)then O else bif J (a0=13)then O else bif J (a0=14)then O else bif J (a0=15)then O else bif J (a0=16)then O else bif J (a0=17)then O else bif J (a0=18)then O else bif J (a0=19)then O else bif J (a0=20)then O else bif J (a0=21)then O else bif J (a0=22)then O else G
def aFr(a0:Int):bU vn (aHl) 300 (apl) 231 (awx.c (a0,())) [] 0 d231.rd=V (CK a0):=by
 refine Eq.trans (b:=(
  bif J (a0=8)then V (O)else bif J (a0=9)then V (O)else bif J (a0=10)then V (O)else bif J (a0=11)then V (O)else bif J (a0=12)then V (O)else bif J (a0=13)then V (O)else bif J (a0=14)then V (O)else bif J (a0=15)then V (O)else bif J (a0=16)then V (O)else bif J (a0=17)then V (O)else bif J (a0=18)then V (O)else bif J (a0=19)then V (O)else bif J (a0=20)then V (O)else bif J (a0=21)then V (O)else bif J (a0=22)then V (O)else V (G):af ar1)) aV ?_
 simp only[CK,cu,cO]
def arP:=eL vn 231 G awx d231 (λg=>V (CK g.1))
def anr:EO arP:=λh=>kL (an:=apl) func231 aP aH h (c:=λg=>aFr g.1)
def sx:EP arP:=λh=>kP h
def aw8:bu:=(abl di)
abbrev azL:=Int×Bool
def d274:Td 0 azL:= .c [] [4,5] (.r 0 0 (ec 4 aN (ec 5 qb en)) sn (λz=>(z.1.1,z.1.2.1)) (λx=>((x.1,x.2,()),(()))))
def azh:∀f∈([227]:aa Nat),bA (aw8) f:=(aA (Ig bF) aH)
def Qn(a0:Int)(a1:Int):af azL:=
 match bif bif J (a0=0)then G else O then if¬jO a0=0then V (J (ak ((1099511627776:Int).tdiv (jO a0))<jO a1))else I else V G with|I=>I|V r1=>bif r1 then V (0,G)else V ((ak (a0*a1),O))
def aGG:=eL vn 274 G (aS (aS ln)) d274 (λg=>Qn g.1 g.2.1)
def alc:EO aGG:=λh=>kL (F:=aw8) (an:=(noTwo (.two (.two (.rb [227] 15) .no) .no))) (l:=[(.skip,(.rb [227] 15))]) func274 (DF aP) (aA azh aH) h
structure uj where
 t0:List Int
 (t3 t4:Int)
def QK:Td 0 uj:= .c [] [0,3,4] (.r 0 0 (ec 0 (ql 3) (ec 3 aN (ec 4 aN en))) sn (λz=>⟨z.1.1,z.1.2.1,z.1.t.1⟩) (λx=>((x.t0,x.t3,x.t4,()),(()))))
def DR(p:uj):af (af uj):=
 bif J (p.t4<zR p.t0)then if 0<=p.t4/\p.t4<zR p.t0 then V (V (uj.mk p.t0 (if((p.t0,p.t3,p.t4,()),()).fst.fst[((p.t0,p.t3,p.t4,()),()).fst.snd.snd.fst.toNat]! <((p.t0,p.t3,p.t4,()),()).fst.snd.fst then p.t0[zD p.t4]! else p.t3) (ak (p.t4+1))))else I else V (I)
def Ll:=bJ (DR)
abbrev azp:=Int
def d275:Td 0 azp:= .c [] [2] (.r 0 0 (ec 2 aN en) sn (λz=>z.1.1) (λx=>((x,()),(()))))
def ag5(a0:aa Int):af azp:=
 bif J ((zR a0:Int)<1)then I else if(0:Int)<=(0:Int)/\(0:Int)<zR a0 then match Ll (uj.mk a0 a0[0]! (1))with|I=>I|V r1=>bif J (r1.t4<zR r1.t0)then if 0<=r1.t4/\r1.t4<zR r1.t0 then I else I else V (r1.t3)else I
def aEH:=eL vn 275 G (lc (ql 3) ln) d275 (λg=>ag5 g.1)
def amv:EO aEH:=λh=>kL (an:=(noTwo (noTwo (noTwo (.two (noTwo (QK.lp Ll .no)) .no))))) (l:=[(aY f275 0,(QK.lp Ll .no))]) func275 aP (aA (aO QK) aH) h
structure tW where
 t0:List Int
 (t3 t4:Int)
def RK:Td 0 tW:= .c [] [0,3,4] (.r 0 0 (ec 0 (ql 3) (ec 3 aN (ec 4 aN en))) sn (λz=>⟨z.1.1,z.1.2.1,z.1.t.1⟩) (λx=>((x.t0,x.t3,x.t4,()),(()))))
def FF(p:tW):af (af tW):=
 bif J (p.t4<zR p.t0)then if 0<=p.t4/\p.t4<zR p.t0 then V (V (tW.mk p.t0 (if((p.t0,p.t3,p.t4,()),()).fst.snd.fst<((p.t0,p.t3,p.t4,()),()).fst.fst[((p.t0,p.t3,p.t4,()),()).fst.snd.snd.fst.toNat]! then p.t0[zD p.t4]! else p.t3) (ak (p.t4+1))))else I else V (I)
def KV:=bJ (FF)
abbrev aw2:=Int
def d276:Td 0 aw2:= .c [] [2] (.r 0 0 (ec 2 aN en) sn (λz=>z.1.1) (λx=>((x,()),(()))))
def ajI(a0:aa Int):af aw2:=
 bif J ((zR a0:Int)<1)then I else if(0:Int)<=(0:Int)/\(0:Int)<zR a0 then match KV (tW.mk a0 a0[0]! (1))with|I=>I|V r1=>bif J (r1.t4<zR r1.t0)then if 0<=r1.t4/\r1.t4<zR r1.t0 then I else I else V (r1.t3)else I
def aHf:=eL vn 276 G (lc (ql 3) ln) d276 (λg=>ajI g.1)
def ajn:EO aHf:=λh=>kL (an:=(noTwo (noTwo (noTwo (.two (noTwo (RK.lp KV .no)) .no))))) (l:=[(aY f276 0,(RK.lp KV .no))]) func276 aP (aA (aO RK) aH) h
abbrev azV:=aL×Int
def d232:Td 0 azV:= .c [] [4,5] (.r 0 1 (ec 4 (qp 0 0) (ec 5 aN en)) (sb 0 34 (lg 34) sn) (λz=>(z.2.1,z.1.2.1)) (λx=>(((),x.2,()),(x.1,()))))
def XS(a0:aL)(a1:aL):af azV:=
 match Qn a0.ah a1.ah with|I=>I|V r1=>bif bif r1.snd then G else O then V ((aL.mk (0) (0) (0),3))else match Qn a0.ah a1.ag with|I=>I|V r2=>bif bif r2.snd then G else O then V ((aL.mk (0) (0) (0),3))else match Qn a0.ag a1.ah with|I=>I|V r3=>bif bif r3.snd then G else O then V ((aL.mk (0) (0) (0),3))else match Qn a0.ag a1.ag with|I=>I|V r4=>bif bif r4.snd then G else O then V ((aL.mk (0) (0) (0),3))else match C1 [ak (a0.aj*jO a1.ah),ak (a1.aj*jO a0.ah),ak (a0.aj*a1.aj)]with|I=>I|V r5=>match ag5 ([r1.fst]++[r2.fst]++[r3.fst]++[r4.fst])with|I=>I|V r6=>match ajI ([r1.fst]++[r2.fst]++[r3.fst]++[r4.fst])with|I=>I|V r7=>match nK r6 r7 r5 with|I=>I|V r8=>V ((r8,0))
def aqG:=eL vn 232 G (lc (qg 34) (lc (qg 34) ln)) d232 (λg=>XS g.1 g.2.1)
def ajZ:EO aqG:=λh=>kL (an:= .no) func232 (ajn (amv (alc (DF (Dk (rU aP)))))) aH h
def sq:EP aqG:=λh=>kP h
def axj:bu:=(abl (Ra (adm (af6 di))))
abbrev aAV:=aL
def d277:Td 0 aAV:= .c [] [6] (.r 0 1 (ec 6 (qp 0 0) en) (sb 0 34 (lg 34) sn) (λz=>z.2.1) (λx=>(((),()),(x,()))))
def azD:∀f∈([]:aa Nat),bA (axj) f:=aH
def YU(a0:Int)(a1:aL)(a2:aL):af aAV:=
 bif J (a0=11)then match bif J (0<=a1.ah)then V (J (0<=a2.ah))else V (G)with|I=>I|V r1=>bif r1 then match nK (0) (if jO a1.ah<jO a1.ag then jO a1.ag else jO a1.ah) (1)with|I=>I|V r2=>V (r2)else match nK (ak (0-if jO a1.ah<jO a1.ag then jO a1.ag else jO a1.ah)) (if jO a1.ah<jO a1.ag then jO a1.ag else jO a1.ah) (1)with|I=>I|V r3=>V (r3)else bif J (a0=12)then match nK (if 0<ak (a2.ah+1)then 0 else ak (a2.ah+1)) (if ak (a2.ag-1)<0 then 0 else ak (a2.ag-1)) (1)with|I=>I|V r4=>V (r4)else bif J (a0=21)then match mG a1 a2 with|I=>I|V r5=>match C0 r5 (if a2.ag<a1.ag then a2.ag else a1.ag)with|I=>I|V r6=>V (r6.fst)else match mG a1 a2 with|I=>I|V r7=>match C0 r7 (ak ((if a1.ah<a2.ah then a2.ah else a1.ah)-1))with|I=>I|V r8=>V (r8.snd)
def aHv:=eL vn 277 G (aS (lc (qg 34) (lc (qg 34) ln))) d277 (λg=>YU g.1 g.2.1 g.t.1)
def afJ:EO aHv:=λh=>kL (F:=axj) (an:=(noTwo (.two (noTwo (noTwo (.two (noTwo (.two (.two (.rb [] 29) .no) .no)) .no))) .no))) (l:=[(.skip,(.rb [] 29))]) func277 (DF (rU (rQ (Jf aP)))) (aA azD aH) h
structure qH where
 t3:List Int
 (t6 t7:Int)
 b0:aL
def SK:Td 0 qH:= .c [] [1,3,6,7] (.t (bX.s 3 [] 3) (.c [] [1,3,6,7] (.r 0 2 (ec 1 (qp 0 0) (ec 3 (qo 1) (ec 6 aN (ec 7 aN en)))) (sb 0 34 (lg 34) (sr 1 3 sn)) (λz=>⟨z.t.1,z.1.t.1,z.1.t.2.1,z.2.1⟩) (λx=>(((),(),x.t6,x.t7,()),(x.b0,x.t3,()))))))
def AH(p:qH):af (af qH):=
 bif J (p.t7<p.t6)then if(p.t3++[ak (p.b0.ah+ak (p.t7*p.b0.aj))]).length<=1073741824 then V (V (qH.mk (p.t3++[ak (p.b0.ah+ak (p.t7*p.b0.aj))]) p.t6 (ak (p.t7+1)) p.b0))else I else V (I)
def Jn:=bJ (AH)
abbrev aBm:=aa Int
def d278:Td 0 aBm:= .c [] [2] (.r 0 1 (ec 2 (qo 0) en) (sr 0 3 sn) (λz=>z.2.1) (λx=>(((),()),(x,()))))
def XG(a0:aL):af aBm:=
 match Ba a0 with|I=>I|V r1=>match Jn (qH.mk [] r1 (0) a0)with|I=>I|V r2=>bif J (r2.t7<r2.t6)then if(r2.t3++[ak (r2.b0.ah+ak (r2.t7*r2.b0.aj))]).length<=1073741824 then I else I else V (r2.t3)
def aGQ:=eL vn 278 G (lc (qg 34) ln) d278 (λg=>XG g.1)
def aiN:EO aGQ:=λh=>kL (an:=(noTwo (noTwo (.two (noTwo (SK.lp Jn .no)) .no)))) (l:=[(aY f278 0,(SK.lp Jn .no))]) func278 (vN aP) (aA (aO SK) aH) h
def ayj:bu:=di
abbrev aDt:=Int
def d315:Td 0 aDt:= .c [] [4] (.r 0 0 (ec 4 aN en) sn (λz=>z.1.1) (λx=>((x,()),(()))))
def awm:∀f∈([]:aa Nat),bA (ayj) f:=aH
def aaz(a0:Int)(a1:Int):af aDt:=
 bif J (a1=0)then V 0 else if¬a1=0then match if¬a1=0then bif bif J (a0.tmod a1=0)then G else O then V (bif J (a0<0)==J (a1<0)then G else O)else V G else I with|I=>I|V r1=>bif r1 then V (ak (ak (a0.tdiv a1)-1))else V (ak (a0.tdiv a1))else I
def aFV:=eL vn 315 G (aS (aS ln)) d315 (λg=>aaz g.1 g.2.1)
def alA:EO aFV:=λh=>kL (F:=ayj) (an:=(noTwo (noTwo (noTwo (.two (.two (.rb [] 21) .no) .no))))) (l:=[(.skip,(.rb [] 21))]) func315 aP (aA awm aH) h
abbrev aB5:=Int
def d279:Td 0 aB5:= .c [] [6] (.r 0 0 (ec 6 aN en) sn (λz=>z.1.1) (λx=>((x,()),(()))))
def XW(a0:Int)(a1:Int)(a2:Int):af aB5:=
 bif J (a0=11)then match aaz a1 a2 with|I=>I|V r1=>V (r1)else bif J (a0=12)then bif J (a2=0)then V (0)else match aaz a1 a2 with|I=>I|V r2=>V (ak (a1-ak (a2*r2)))else bif J (a0=21)then V (if a2<a1 then a2 else a1)else V (if a1<a2 then a2 else a1)
def aF5:=eL vn 279 G (aS (aS (aS ln))) d279 (λg=>XW g.1 g.2.1 g.t.1)
def akF:EO aF5:=λh=>kL (an:= .no) func279 (alA aP) aH h
structure o4 where
 (t0 t9:Int)
 t34:List Int
 (t35 t36:Int)
 t41:List Int
 (t42 t43:Int)
 (b0 b1 b2:aL)
def R4:Td 0 o4:= .c [] [0,5,6,7,9,34,35,36,41,42,43] (.r 0 5 (ec 0 aN (ec 5 (qp 0 0) (ec 6 (qp 1 0) (ec 7 (qp 2 0) (ec 9 aN (ec 34 (qo 3) (ec 35 aN (ec 36 aN (ec 41 (qo 4) (ec 42 aN (ec 43 aN en))))))))))) (sb 0 34 (lg 34) (sb 1 34 (lg 34) (sb 2 34 (lg 34) (sr 3 3 (sr 4 3 sn))))) (λz=>⟨z.1.1,z.1.q.1,z.q.1,z.1.q.t.1,z.1.q.t.2.1,z.q.2.1,z.1.q.q.2.1,z.1.q.q.t.1,z.2.1,z.t.1,z.t.2.1⟩) (λx=>((x.t0,(),(),(),x.t9,(),x.t35,x.t36,(),x.t42,x.t43,()),(x.b0,x.b1,x.b2,x.t34,x.t41,()))))
def L1(p:o4):af (af o4):=
 bif J (p.t43<p.t42)then if 0<=p.t43/\p.t43<zR p.t41 then if 3=3/\zD p.t43<zR p.t41 then match XW p.t0 p.t9 p.t41[zD p.t43]! with|I=>I|V r5=>match mG p.b2 (iz r5)with|I=>I|V r6=>V (V (o4.mk p.t0 p.t9 p.t34 p.t35 p.t36 p.t41 p.t42 (ak (p.t43+1)) p.b0 p.b1 r6))else I else I else V (I)
def FH:=bJ (L1)
structure p8 where
 t0:Int
 t34:List Int
 (t35 t36:Int)
 (b0 b1 b2:aL)
def Qv:Td 0 p8:= .c [] [0,5,6,7,34,35,36] (.r 0 4 (ec 0 aN (ec 5 (qp 0 0) (ec 6 (qp 1 0) (ec 7 (qp 2 0) (ec 34 (qo 3) (ec 35 aN (ec 36 aN en))))))) (sb 0 34 (lg 34) (sb 1 34 (lg 34) (sb 2 34 (lg 34) (sr 3 3 sn)))) (λz=>⟨z.1.1,z.q.1,z.1.q.2.1,z.1.q.t.1,z.2.1,z.t.1,z.t.2.1⟩) (λx=>((x.t0,(),(),(),(),x.t35,x.t36,()),(x.b0,x.b1,x.b2,x.t34,()))))
def BY(p:p8):af (af p8):=
 bif J (p.t36<p.t35)then if 0<=p.t36/\p.t36<zR p.t34 then if 3=3/\zD p.t36<zR p.t34 then match XG p.b0 with|I=>I|V r1=>match FH (o4.mk p.t0 p.t34[zD p.t36]! p.t34 p.t35 p.t36 r1 (↑(zR r1):Int) 0 p.b0 p.b1 p.b2)with|I=>I|V r2=>bif J (r2.t43<r2.t42)then if 0<=r2.t43/\r2.t43<zR r2.t41 then if 3=3/\zD r2.t43<zR r2.t41 then match XW r2.t0 r2.t9 r2.t41[zD r2.t43]! with|I=>I|V r3=>match mG r2.b2 (iz r3)with|I=>I|V r4=>I else I else I else V (V (p8.mk r2.t0 r2.t34 r2.t35 (ak (r2.t36+1)) r2.b0 r2.b1 r2.b2))else I else I else V (I)
def aaJ:An:=(noTwo (noTwo (.two (noTwo (noTwo (R4.lp FH .no))) .no)))
def LS:=bJ (BY)
abbrev awC:=aL
def d233:Td 0 awC:= .c [] [6] (.r 0 1 (ec 6 (qp 0 0) en) (sb 0 34 (lg 34) sn) (λz=>z.2.1) (λx=>(((),()),(x,()))))
def vI(a0:Int)(a1:aL)(a2:aL):af awC:=
 match Ba a1 with|I=>I|V r7=>bif J (4096<r7)then match YU a0 a1 a2 with|I=>I|V r8=>V (r8)else match Ba a2 with|I=>I|V r9=>bif J (4096<r9)then match YU a0 a1 a2 with|I=>I|V r10=>V (r10)else match Ba a1 with|I=>I|V r11=>match Ba a2 with|I=>I|V r12=>bif J (4096<ak (r11*r12))then match YU a0 a1 a2 with|I=>I|V r13=>V (r13)else match XG a1 with|I=>I|V r14=>match LS (p8.mk a0 r14 (↑(zR r14):Int) 0 a2 (aL.mk 0 0 0) jA)with|I=>I|V r15=>bif J (r15.t36<r15.t35)then if 0<=r15.t36/\r15.t36<zR r15.t34 then if 3=3/\zD r15.t36<zR r15.t34 then match XG r15.b0 with|I=>I|V r16=>match FH (o4.mk r15.t0 r15.t34[zD r15.t36]! r15.t34 r15.t35 r15.t36 r16 (↑(zR r16):Int) 0 r15.b0 r15.b1 r15.b2)with|I=>I|V r17=>bif J (r17.t43<r17.t42)then if 0<=r17.t43/\r17.t43<zR r17.t41 then if 3=3/\zD r17.t43<zR r17.t41 then match XW r17.t0 r17.t9 r17.t41[zD r17.t43]! with|I=>I|V r18=>match mG r17.b2 (iz r18)with|I=>I|V r19=>I else I else I else I else I else I else V (r15.b2)
def arv:=eL vn 233 G (aS (lc (qg 34) (lc (qg 34) ln))) d233 (λg=>vI g.1 g.2.1 g.t.1)
def akX:EO arv:=λh=>kL (an:=(noTwo (noTwo (noTwo (.two (noTwo (Qv.lp LS aaJ)) .no))))) (l:=[(aY f233 0,(Qv.lp LS aaJ)),(aY f233 1,(R4.lp FH .no))]) func233 (akF (aiN (afJ (j4 (vN (sB (rQ aP))))))) (aA (aO Qv) (aA (aO R4) aH)) h
def se:EP arv:=λh=>kP h
structure o8 where
 (t1 t5 t6 t7 t8:Int)
def R6:Td 0 o8:= .c [] [1,5,6,7,8] (.r 0 0 (ec 1 aN (ec 5 aN (ec 6 aN (ec 7 aN (ec 8 aN en))))) sn (λz=>⟨z.1.1,z.1.2.1,z.1.t.1,z.1.t.2.1,z.1.q.1⟩) (λx=>((x.t1,x.t5,x.t6,x.t7,x.t8,()),(()))))
def Le(p:o8):af (af o8):=
 bif J (1<p.t5)then if¬p.t5=0then V (V (o8.mk p.t1 (ak (p.t6-ak (ak (p.t6.tdiv p.t5)*p.t5))) p.t5 (ak (p.t8-ak (ak (p.t6.tdiv p.t5)*p.t7))) p.t7))else I else V (I)
def Lr:=bJ (Le)
abbrev aCq:=Int
def d341:Td 0 aCq:= .c [] [4] (.r 0 0 (ec 4 aN en) sn (λz=>z.1.1) (λx=>((x,()),(()))))
def aip(a0:Int)(a1:Int):af aCq:=
 if¬a1=0then match Lr (o8.mk a1 (a0.tmod a1) a1 1 0)with|I=>I|V r1=>bif J (1<r1.t5)then if¬r1.t5=0then I else I else if¬r1.t1=0then if¬r1.t1=0then V ((ak (r1.t7.tmod r1.t1+r1.t1)).tmod r1.t1)else I else I else I
def aA8:=eL vn 341 G (aS (aS ln)) d341 (λg=>aip g.1 g.2.1)
def aiZ:EO aA8:=λh=>kL (an:=(noTwo (noTwo (.two (R6.lp Lr .no) .no)))) (l:=[(aY f341 0,(R6.lp Lr .no))]) func341 aP (aA (aO R6) aH) h
def axH:bu:=(aA8 (aB4 (aeF (N9 (aju di)))))
abbrev aAr:=aL
def d316:Td 0 aAr:= .c [] [4] (.r 0 1 (ec 4 (qp 0 0) en) (sb 0 34 (lg 34) sn) (λz=>z.2.1) (λx=>(((),()),(x,()))))
def aA4:∀f∈([]:aa Nat),bA (axH) f:=aH
def afO(a0:aL)(a1:aL):af aAr:=
 match C1 [a0.aj,a1.aj]with|I=>I|V r1=>match bif J ((if a1.ag<a0.ag then a1.ag else a0.ag)<if a0.ah<a1.ah then a1.ah else a0.ah)then V O else if¬r1=0then V (bif J ((ak (a1.ah-a0.ah)).tmod r1=0)then G else O)else I with|I=>I|V r2=>bif r2 then V (jA)else if¬r1=0then bif J (1<ak (a1.aj.tdiv r1))then if¬r1=0then if¬ak (a1.aj.tdiv r1)=0then if¬ak (a1.aj.tdiv r1)=0then if¬r1=0then if¬ak (a1.aj.tdiv r1)=0then match aip ((ak (a0.aj.tdiv r1)).tmod (ak (a1.aj.tdiv r1))) (ak (a1.aj.tdiv r1))with|I=>I|V r3=>match ajY ((ak ((ak ((ak (a1.ah-a0.ah)).tdiv r1)).tmod (ak (a1.aj.tdiv r1))+ak (a1.aj.tdiv r1))).tmod (ak (a1.aj.tdiv r1))) r3 (ak (a1.aj.tdiv r1))with|I=>I|V r4=>if¬a0.aj=0then if¬a0.aj=0then bif J (r4<ak ((ak (ak (ak ((if a0.ah<a1.ah then a1.ah else a0.ah)-a0.ah)+a0.aj)-1)).tdiv a0.aj))then if¬ak (a1.aj.tdiv r1)=0then bif J (ak ((ak ((if a1.ag<a0.ag then a1.ag else a0.ag)-a0.ah)).tdiv a0.aj)<ak (r4+ak (ak ((ak (ak (ak (ak ((ak (ak (ak ((if a0.ah<a1.ah then a1.ah else a0.ah)-a0.ah)+a0.aj)-1)).tdiv a0.aj)-r4)+ak (a1.aj.tdiv r1))-1)).tdiv (ak (a1.aj.tdiv r1)))*ak (a1.aj.tdiv r1))))then V (jA)else if¬ak (a1.aj.tdiv r1)=0then bif J (ak (r4+ak (ak ((ak (ak (ak (ak ((ak (ak (ak ((if a0.ah<a1.ah then a1.ah else a0.ah)-a0.ah)+a0.aj)-1)).tdiv a0.aj)-r4)+ak (a1.aj.tdiv r1))-1)).tdiv (ak (a1.aj.tdiv r1)))*ak (a1.aj.tdiv r1)))=ak (ak (r4+ak (ak ((ak (ak (ak (ak ((ak (ak (ak ((if a0.ah<a1.ah then a1.ah else a0.ah)-a0.ah)+a0.aj)-1)).tdiv a0.aj)-r4)+ak (a1.aj.tdiv r1))-1)).tdiv (ak (a1.aj.tdiv r1)))*ak (a1.aj.tdiv r1)))+ak (ak ((ak (ak ((ak ((if a1.ag<a0.ag then a1.ag else a0.ag)-a0.ah)).tdiv a0.aj)-ak (r4+ak (ak ((ak (ak (ak (ak ((ak (ak (ak ((if a0.ah<a1.ah then a1.ah else a0.ah)-a0.ah)+a0.aj)-1)).tdiv a0.aj)-r4)+ak (a1.aj.tdiv r1))-1)).tdiv (ak (a1.aj.tdiv r1)))*ak (a1.aj.tdiv r1))))).tdiv (ak (a1.aj.tdiv r1)))*ak (a1.aj.tdiv r1))))then V (iz (ak (a0.ah+ak (ak (r4+ak (ak ((ak (ak (ak (ak ((ak (ak (ak ((if a0.ah<a1.ah then a1.ah else a0.ah)-a0.ah)+a0.aj)-1)).tdiv a0.aj)-r4)+ak (a1.aj.tdiv r1))-1)).tdiv (ak (a1.aj.tdiv r1)))*ak (a1.aj.tdiv r1)))*a0.aj))))else V (aL.mk (ak (a0.ah+ak (ak (r4+ak (ak ((ak (ak (ak (ak ((ak (ak (ak ((if a0.ah<a1.ah then a1.ah else a0.ah)-a0.ah)+a0.aj)-1)).tdiv a0.aj)-r4)+ak (a1.aj.tdiv r1))-1)).tdiv (ak (a1.aj.tdiv r1)))*ak (a1.aj.tdiv r1)))*a0.aj))) (ak (a0.ah+ak (ak (ak (r4+ak (ak ((ak (ak (ak (ak ((ak (ak (ak ((if a0.ah<a1.ah then a1.ah else a0.ah)-a0.ah)+a0.aj)-1)).tdiv a0.aj)-r4)+ak (a1.aj.tdiv r1))-1)).tdiv (ak (a1.aj.tdiv r1)))*ak (a1.aj.tdiv r1)))+ak (ak ((ak (ak ((ak ((if a1.ag<a0.ag then a1.ag else a0.ag)-a0.ah)).tdiv a0.aj)-ak (r4+ak (ak ((ak (ak (ak (ak ((ak (ak (ak ((if a0.ah<a1.ah then a1.ah else a0.ah)-a0.ah)+a0.aj)-1)).tdiv a0.aj)-r4)+ak (a1.aj.tdiv r1))-1)).tdiv (ak (a1.aj.tdiv r1)))*ak (a1.aj.tdiv r1))))).tdiv (ak (a1.aj.tdiv r1)))*ak (a1.aj.tdiv r1)))*a0.aj))) (ak (ak (a1.aj.tdiv r1)*a0.aj)))else I else I else bif J (ak ((ak ((if a1.ag<a0.ag then a1.ag else a0.ag)-a0.ah)).tdiv a0.aj)<r4)then V (jA)else if¬ak (a1.aj.tdiv r1)=0then bif J (r4=ak (r4+ak (ak ((ak (ak ((ak ((if a1.ag<a0.ag then a1.ag else a0.ag)-a0.ah)).tdiv a0.aj)-r4)).tdiv (ak (a1.aj.tdiv r1)))*ak (a1.aj.tdiv r1))))then V (iz (ak (a0.ah+ak (r4*a0.aj))))else V (aL.mk (ak (a0.ah+ak (r4*a0.aj))) (ak (a0.ah+ak (ak (r4+ak (ak ((ak (ak ((ak ((if a1.ag<a0.ag then a1.ag else a0.ag)-a0.ah)).tdiv a0.aj)-r4)).tdiv (ak (a1.aj.tdiv r1)))*ak (a1.aj.tdiv r1)))*a0.aj))) (ak (ak (a1.aj.tdiv r1)*a0.aj)))else I else I else I else I else I else I else I else I else if¬a0.aj=0then if¬a0.aj=0then bif J (0<ak ((ak (ak (ak ((if a0.ah<a1.ah then a1.ah else a0.ah)-a0.ah)+a0.aj)-1)).tdiv a0.aj))then if¬ak (a1.aj.tdiv r1)=0then bif J (ak ((ak ((if a1.ag<a0.ag then a1.ag else a0.ag)-a0.ah)).tdiv a0.aj)<ak (0+ak (ak ((ak (ak (ak (ak ((ak (ak (ak ((if a0.ah<a1.ah then a1.ah else a0.ah)-a0.ah)+a0.aj)-1)).tdiv a0.aj)-0)+ak (a1.aj.tdiv r1))-1)).tdiv (ak (a1.aj.tdiv r1)))*ak (a1.aj.tdiv r1))))then V (jA)else if¬ak (a1.aj.tdiv r1)=0then bif J (ak (0+ak (ak ((ak (ak (ak (ak ((ak (ak (ak ((if a0.ah<a1.ah then a1.ah else a0.ah)-a0.ah)+a0.aj)-1)).tdiv a0.aj)-0)+ak (a1.aj.tdiv r1))-1)).tdiv (ak (a1.aj.tdiv r1)))*ak (a1.aj.tdiv r1)))=ak (ak (0+ak (ak ((ak (ak (ak (ak ((ak (ak (ak ((if a0.ah<a1.ah then a1.ah else a0.ah)-a0.ah)+a0.aj)-1)).tdiv a0.aj)-0)+ak (a1.aj.tdiv r1))-1)).tdiv (ak (a1.aj.tdiv r1)))*ak (a1.aj.tdiv r1)))+ak (ak ((ak (ak ((ak ((if a1.ag<a0.ag then a1.ag else a0.ag)-a0.ah)).tdiv a0.aj)-ak (0+ak (ak ((ak (ak (ak (ak ((ak (ak (ak ((if a0.ah<a1.ah then a1.ah else a0.ah)-a0.ah)+a0.aj)-1)).tdiv a0.aj)-0)+ak (a1.aj.tdiv r1))-1)).tdiv (ak (a1.aj.tdiv r1)))*ak (a1.aj.tdiv r1))))).tdiv (ak (a1.aj.tdiv r1)))*ak (a1.aj.tdiv r1))))then V (iz (ak (a0.ah+ak (ak (0+ak (ak ((ak (ak (ak (ak ((ak (ak (ak ((if a0.ah<a1.ah then a1.ah else a0.ah)-a0.ah)+a0.aj)-1)).tdiv a0.aj)-0)+ak (a1.aj.tdiv r1))-1)).tdiv (ak (a1.aj.tdiv r1)))*ak (a1.aj.tdiv r1)))*a0.aj))))else V (aL.mk (ak (a0.ah+ak (ak (0+ak (ak ((ak (ak (ak (ak ((ak (ak (ak ((if a0.ah<a1.ah then a1.ah else a0.ah)-a0.ah)+a0.aj)-1)).tdiv a0.aj)-0)+ak (a1.aj.tdiv r1))-1)).tdiv (ak (a1.aj.tdiv r1)))*ak (a1.aj.tdiv r1)))*a0.aj))) (ak (a0.ah+ak (ak (ak (0+ak (ak ((ak (ak (ak (ak ((ak (ak (ak ((if a0.ah<a1.ah then a1.ah else a0.ah)-a0.ah)+a0.aj)-1)).tdiv a0.aj)-0)+ak (a1.aj.tdiv r1))-1)).tdiv (ak (a1.aj.tdiv r1)))*ak (a1.aj.tdiv r1)))+ak (ak ((ak (ak ((ak ((if a1.ag<a0.ag then a1.ag else a0.ag)-a0.ah)).tdiv a0.aj)-ak (0+ak (ak ((ak (ak (ak (ak ((ak (ak (ak ((if a0.ah<a1.ah then a1.ah else a0.ah)-a0.ah)+a0.aj)-1)).tdiv a0.aj)-0)+ak (a1.aj.tdiv r1))-1)).tdiv (ak (a1.aj.tdiv r1)))*ak (a1.aj.tdiv r1))))).tdiv (ak (a1.aj.tdiv r1)))*ak (a1.aj.tdiv r1)))*a0.aj))) (ak (ak (a1.aj.tdiv r1)*a0.aj)))else I else I else bif J (ak ((ak ((if a1.ag<a0.ag then a1.ag else a0.ag)-a0.ah)).tdiv a0.aj)<0)then V (jA)else if¬ak (a1.aj.tdiv r1)=0then bif J (0=ak (0+ak (ak ((ak (ak ((ak ((if a1.ag<a0.ag then a1.ag else a0.ag)-a0.ah)).tdiv a0.aj)-0)).tdiv (ak (a1.aj.tdiv r1)))*ak (a1.aj.tdiv r1))))then V (iz (ak (a0.ah+ak (0*a0.aj))))else V (aL.mk (ak (a0.ah+ak (0*a0.aj))) (ak (a0.ah+ak (ak (0+ak (ak ((ak (ak ((ak ((if a1.ag<a0.ag then a1.ag else a0.ag)-a0.ah)).tdiv a0.aj)-0)).tdiv (ak (a1.aj.tdiv r1)))*ak (a1.aj.tdiv r1)))*a0.aj))) (ak (ak (a1.aj.tdiv r1)*a0.aj)))else I else I else I else I
def au6:=eL vn 316 G (lc (qg 34) (lc (qg 34) ln)) d316 (λg=>afO g.1 g.2.1)
def afu:EO au6:=λh=>kL (F:=axH) (an:=(noTwo (noTwo (noTwo (.two (.two (.rb [] 41) .no) .no))))) (l:=[(.skip,(.rb [] 41))]) func316 (aiZ (al9 (Dk (j4 (sB aP))))) (aA aA4 aH) h
def YV:EP au6:=λh=>kP h
abbrev uN:=aL
def d280:Td 0 uN:= .c [] [4] (.r 0 1 (ec 4 (qp 0 0) en) (sb 0 34 (lg 34) sn) (λz=>z.2.1) (λx=>(((),()),(x,()))))
def atv:=(lc (qg 34) (lc (qg 34) ln))
def alo(M:aL->aL->af uN):bu->bu:=eL vn 280 G atv d280 (λg=>M g.1 g.2.1)
def HV{M:aL->aL->af uN}{F:bu}{f:Nat}(h:bA F f):bA (alo M F) f:=gi h (λ_=>aV)
def ah6(M:aL->aL->af uN):Prop:=HL vn 280 atv d280 (λg=>M g.1 g.2.1)
def Ue{M:aL->aL->af uN}(hM:ah6 M){F:bu}(h:bz vn F):bz vn (alo M F):=ep (sc:=pF) dh hM ⟨_,func280,aV,aV⟩ (λ_=>aV) (λ_=>aV) h
def ake(M280:aL->aL->af uN):bu:=(au6 (alo M280 (N9 (ah7 (Ez di)))))
def amb{M280}(h280:ah6 M280):bz vn (ake M280):=(afu (Ue h280 (j4 (LO (jo aP)))))
def anz(M280:aL->aL->af uN):An:=(noTwo (.two (.two (.rb [147] 5) .no) .no))
def aBH{M280}:∀f∈([147]:aa Nat),bA (ake M280) f:=(aA (YV (HV (lI (BB (fD bF))))) aH)
def aBL(M280:aL->aL->af uN):eX vn (ake M280) 0 300 280 (anz M280):=b6 (l:=[(.skip,(.rb [147] 5))]) func280 (bN aV) aV (aA aBH aH)
def Ag(M280:aL->aL->af uN)(a0:aL)(a1:aL):af uN:=
 match bif fu a0 then V (O)else V (fu a1)with|I=>I|V r1=>bif r1 then V (jA)else bif J (a0.aj=0)then match Yy a1 a0.ah with|I=>I|V r2=>bif r2 then V (a0)else V (jA)else bif J (a1.aj=0)then match M280 a1 a0 with|I=>I|V r3=>V (r3)else match afO a0 a1 with|I=>I|V r4=>V (r4)
def aF6(M280:aL->aL->af uN)(a0:aL)(a1:aL):bU vn (ake M280) 300 (anz M280) 280 (atv.c (a0,a1,())) [] 0 d280.rd=Ag M280 a0 a1:=aV
def Cw:Nat->(aL->aL->af uN)
 |0=>(λ_ _=>I)
 |n+1=>(Ag (Cw n))
def adf(n:Nat):aL->aL->af uN:=(Cw n)
def Ms:∀n,ah6 (adf n)
 |0=>λ_ _ h=>(by cases h)
 |n+1=>by
  have ih:=Ms n;have i280:=ih;exact(dR (amb i280) (aBL (adf n)) (λ_=>aV) (λ_=>aV) λg=>aF6 (adf n) g.1 g.2.1)
def agU:aL->aL->af uN:=λa0 a1=>lim (λn=>adf n a0 a1)
def aiY:ah6 agU:=λg b h=>by
 obtain⟨n,hn⟩:=dA (show lim (λn=>adf n g.1 g.2.1)=V b from h);exact(Ms n) g b hn
def arl(F:bu):bu:=alo agU F
def ain{F:bu}(h:bz vn F):bz vn (arl F):=Ue aiY h
def Yb{F:bu}{f:Nat}(h:bA F f):bA (arl F) f:=HV h
def aCf:bu:=(arl (al5 (aiX (avj (Ez di)))))
abbrev axx:=aL
def d234:Td 0 axx:= .c [] [6] (.r 0 1 (ec 6 (qp 0 0) en) (sb 0 34 (lg 34) sn) (λz=>z.2.1) (λx=>(((),()),(x,()))))
def aAt:∀f∈([176]:aa Nat),bA (aCf) f:=(aA (Yb (Hr (Im (Zh (fD bF))))) aH)
def aag(a0:Int)(a1:aL)(a2:aL):af axx:=
 match agU a1 a2 with|I=>I|V r1=>match match Ba a1 with|I=>I|V r2=>bif J (1<r2)then V (O)else match Ba a2 with|I=>I|V r3=>bif J (1<r3)then V (O)else V (bif J (a1.ah=a2.ah)then G else O)with|I=>I|V r4=>match Qu a1 with|I=>I|V r5=>match Qu a2 with|I=>I|V r6=>bif J (a0=13)then match pR r4 (match fu r1 with|O=>G|G=>O)with|I=>I|V r7=>V (r7)else bif J (a0=14)then match pR (match fu r1 with|O=>G|G=>O) r4 with|I=>I|V r8=>V (r8)else bif J (a0=15)then match pR (J (a2.ah<=a1.ag)) (J (a1.ah<a2.ag))with|I=>I|V r9=>V (r9)else bif J (a0=16)then match pR (J (a2.ah<a1.ag)) (J (a1.ah<=a2.ag))with|I=>I|V r10=>V (r10)else bif J (a0=17)then match pR (J (a1.ah<=a2.ag)) (J (a2.ah<a1.ag))with|I=>I|V r11=>V (r11)else bif J (a0=18)then match pR (J (a1.ah<a2.ag)) (J (a2.ah<=a1.ag))with|I=>I|V r12=>V (r12)else bif J (a0=19)then bif r5.fst then bif r5.snd then match pR O r6.snd with|I=>I|V r13=>V (r13)else match pR O G with|I=>I|V r14=>V (r14)else bif r5.snd then match pR r6.fst r6.snd with|I=>I|V r15=>V (r15)else match pR r6.fst G with|I=>I|V r16=>V (r16)else bif r5.fst then bif r5.snd then match pR r6.fst O with|I=>I|V r17=>V (r17)else match pR r6.fst r6.snd with|I=>I|V r18=>V (r18)else bif r5.snd then match pR G O with|I=>I|V r19=>V (r19)else match pR G r6.snd with|I=>I|V r20=>V (r20)
def aqX:=eL vn 234 G (aS (lc (qg 34) (lc (qg 34) ln))) d234 (λg=>aag g.1 g.2.1 g.t.1)
def ajg:EO aqX:=λh=>kL (F:=aCf) (an:=(noTwo (noTwo (.two (.rb [176] 8) .no)))) (l:=[(.skip,(.rb [176] 8))]) func234 (ain (Ug (KX (vN (jo aP))))) (aA aAt aH) h
def sg:EP aqX:=λh=>kP h
def ax9:bu:=(aqX (arv (aqG (arP (aeF (Ra (N9 (Ez (ZE (OV di))))))))))
abbrev azr:=aL×Int
def d155:Td 0 azr:= .c [] [6,7] (.r 0 1 (ec 6 (qp 0 0) (ec 7 aN en)) (sb 0 34 (lg 34) sn) (λz=>(z.2.1,z.1.2.1)) (λx=>(((),x.2,()),(x.1,()))))
def Z1:∀f∈([144,145,147,231]:aa Nat),bA (ax9) f:=(aA (sg (se (sq (sx (nP (jQ (lI (fD (jR (ga bF)))))))))) (aA (sg (se (sq (sx (nP (jQ (lI (fD (jR (ga bF)))))))))) (aA (sg (se (sq (sx (nP (jQ (lI (fD (jR (ga bF)))))))))) (aA (sg (se (sq (sx (nP (jQ (lI (fD (jR (ga bF)))))))))) aH))))
def vK(a0:Int)(a1:aL)(a2:aL):af azr:=
 match match uf a1 with|I=>I|V r1=>bif bif r1 then G else O then V (O)else match uf a2 with|I=>I|V r2=>bif bif r2 then G else O then V (O)else V (bif CK a0 then G else O)with|I=>I|V r3=>bif r3 then V ((aL.mk (0) (0) (0),1))else match bif fu a1 then V (O)else V (fu a2)with|I=>I|V r4=>bif r4 then V ((jA,0))else bif J (a0=9)then match bif bif jh (ak (a1.ah+ak (0-a2.ag)))then G else O then V (O)else V (bif jh (ak (a1.ag+ak (0-a2.ah)))then G else O)with|I=>I|V r5=>bif r5 then V ((aL.mk (0) (0) (0),3))else match C1 [a1.aj,a2.aj]with|I=>I|V r6=>match nK (ak (a1.ah+ak (0-a2.ag))) (ak (a1.ag+ak (0-a2.ah))) r6 with|I=>I|V r7=>V ((r7,0))else bif J (a0=8)then match bif bif jh (ak (a1.ah+a2.ah))then G else O then V (O)else V (bif jh (ak (a1.ag+a2.ag))then G else O)with|I=>I|V r8=>bif r8 then V ((aL.mk (0) (0) (0),3))else match C1 [a1.aj,a2.aj]with|I=>I|V r9=>match nK (ak (a1.ah+a2.ah)) (ak (a1.ag+a2.ag)) r9 with|I=>I|V r10=>V ((r10,0))else bif J (a0=10)then match XS a1 a2 with|I=>I|V r11=>V (r11)else bif J (a0=11)then match vI a0 a1 a2 with|I=>I|V r12=>V ((r12,0))else bif J (a0=12)then match vI a0 a1 a2 with|I=>I|V r13=>V ((r13,0))else bif J (a0=21)then match vI a0 a1 a2 with|I=>I|V r14=>V ((r14,0))else bif J (a0=22)then match vI a0 a1 a2 with|I=>I|V r15=>V ((r15,0))else match aag a0 a1 a2 with|I=>I|V r16=>V ((r16,0))
def aDx:=eL vn 155 G (aS (lc (qg 34) (lc (qg 34) ln))) d155 (λg=>vK g.1 g.2.1 g.t.1)
def JA:EO aDx:=λh=>kL (F:=ax9) (an:=(noTwo (.two (.two (.rb [144,145,147,231] 22) .no) (.two (.two (.rb [144,145,147,231] 29) .no) (.two (noTwo (.two (.two (noTwo (.two (noTwo (.two (.two (.rb [144,145,147,231] 69) .no) .no)) .no)) .no) .no)) .no))))) (l:=[(.skip,(.rb [144,145,147,231] 22)),(.skip,(.rb [144,145,147,231] 29)),(.skip,(.rb [144,145,147,231] 69))]) func155 (ajg (akX (ajZ (anr (Dk (rU (j4 (jo (Ac (lC aP)))))))))) (aA Z1 (aA Z1 (aA Z1 aH))) h
abbrev rF:=aL×ay
def d150:Td 2 rF:= .c [] [4] (.r 2 3 (ec 4 (qp 2 0) en) (sb 0 128 (lg 128) (sb 1 215 (lc (qf 150 (lc (qp 0 0) (lc (qp 1 0) ln))) ln) (sb 2 34 (lg 34) sn))) (λz=>(z.t.2.1,z.2.1)) (λx=>(((),()),(x.2,(((),(),()),()),x.1,()))))
def aqo:=(lc (qg 137) (lc (qp 0 0) (lc (qp 1 0) ln)))
def aud:=(sb 0 128 (lg 128) (sb 1 215 (lc (qf 150 (lc (qp 0 0) (lc (qp 1 0) ln))) ln) sn))
def x150(M:az->ay->af rF):bu->bu:=eY vn 150 2 aqo aud d150 (λg=>M g.1.1 g.2.1)
def ah1(M:az->ay->af rF):Prop:=HY vn 150 2 aqo aud d150 (λg=>M g.1.1 g.2.1)
def WQ{M:az->ay->af rF}(hM:ah1 M){F:bu}(h:bz vn F):bz vn (x150 M F):=CB hM ⟨_,func150,aV,aV⟩ (λ_=>aV) h
def auF(M150:az->ay->af rF):bu:=(aDx (ayS (ay2 (aBT (alb (x150 M150 (e92 (e81 (e80 di)))))))))
def ano{M150}(h150:ah1 M150):bz vn (auF M150):=(JA (aiP (ahO (Jd (IG (WQ h150 (QI (QH (LG aP)))))))))
structure Be where
 t90:List az
 (t91 t92:Int)
 b0:ay
 (b2 b3 b4:aL)
def SC:Td 2 Be:= .c [] [2,4,7,9,90,91,92] (.r 2 5 (ec 2 (qp 1 0) (ec 4 (qp 2 0) (ec 7 (qp 3 0) (ec 9 (qp 4 0) (ec 90 (ql 137) (ec 91 aN (ec 92 aN en))))))) (sb 0 128 (lg 128) (sb 1 215 (lc (qf 150 (lc (qp 0 0) (lc (qp 1 0) ln))) ln) (sb 2 34 (lg 34) (sb 3 34 (lg 34) (sb 4 34 (lg 34) sn))))) (λz=>⟨z.1.q.1,z.1.q.2.1,z.1.q.t.1,z.2.1,z.t.2.1,z.q.1,z.q.2.1⟩) (λx=>(((),(),(),(),x.t90,x.t91,x.t92,()),(x.b0,(((),(),()),()),x.b2,x.b3,x.b4,()))))
def Jg(M150:az->ay->af rF)(p:Be):af (af Be):=
 bif J (p.t92<p.t91)then if 0<=p.t92/\p.t92<zR p.t90 then match m92 p.b3 p.t92 with|I=>I|V r1=>bif r1 then match M150 (az.mk p.t90[zD p.t92]!.bE p.t90[zD p.t92]!.fN p.t90[zD p.t92]!.ax) p.b0 with|I=>I|V r2=>match vQ p.b4 r2.fst with|I=>I|V r3=>V (V (Be.mk p.t90 p.t91 (ak (p.t92+1)) r2.snd p.b2 p.b3 r3))else V (V (Be.mk p.t90 p.t91 (ak (p.t92+1)) p.b0 p.b2 p.b3 p.b4))else I else V (I)
def J7(M150:az->ay->af rF):=bJ (Jg M150)
def aog(M150:az->ay->af rF):An:=(noTwo (.two (noTwo (noTwo (noTwo (noTwo (noTwo (noTwo (noTwo (noTwo (.two (noTwo (noTwo (.two (noTwo (SC.lp (J7 M150) .no)) .no))) .no))))))))) .no))
def ayd(M150:az->ay->af rF):eX vn (auF M150) 2 300 150 (aog M150):=b6 (l:=[(aY f150 0,(SC.lp (J7 M150) .no))]) func150 (bN aV) aV (aA (aO SC) aH)
def am7(M150:az->ay->af rF)(a0:az)(b0:ay):af rF:=
 bif J (a0.bE=0)then V (W6 a0.fN,b0)else bif J (a0.bE=24)then if 0<=a0.fN/\a0.fN<zR b0.ai then V (b0.ai[a0.fN.toNat]!,b0)else I else bif J (a0.bE=23)then if(0:Int)<=(0:Int)/\(0:Int)<zR a0.ax then match M150 (az.mk a0.ax[0]!.bE a0.ax[0]!.fN a0.ax[0]!.ax) b0 with|I=>I|V r4=>match Sc r4.fst with|I=>I|V r5=>bif bif r5.fst then G else O then if(0:Int)<=(1:Int)/\(1:Int)<zR a0.ax then match M150 (az.mk a0.ax[1]!.bE a0.ax[1]!.fN a0.ax[1]!.ax) r4.snd with|I=>I|V r6=>V (r6)else I else bif bif r5.snd then G else O then if(0:Int)<=(2:Int)/\(2:Int)<zR a0.ax then match M150 (az.mk a0.ax[2]!.bE a0.ax[2]!.fN a0.ax[2]!.ax) r4.snd with|I=>I|V r7=>V (r7)else I else if(0:Int)<=(1:Int)/\(1:Int)<zR a0.ax then match M150 (az.mk a0.ax[1]!.bE a0.ax[1]!.fN a0.ax[1]!.ax) r4.snd with|I=>I|V r8=>if(0:Int)<=(2:Int)/\(2:Int)<zR a0.ax then match M150 (az.mk a0.ax[2]!.bE a0.ax[2]!.fN a0.ax[2]!.ax) r8.snd with|I=>I|V r9=>match vQ r8.fst r9.fst with|I=>I|V r10=>V (r10,r9.snd)else I else I else I else bif J (a0.bE=25)then if(0:Int)<=(0:Int)/\(0:Int)<zR a0.ax then match M150 (az.mk a0.ax[0]!.bE a0.ax[0]!.fN a0.ax[0]!.ax) b0 with|I=>I|V r11=>match m81 r11.fst 0 (ak ((zR a0.ax:Int)-2))with|I=>I|V r12=>if(0:Int)<=(1:Int)/\(1:Int)<=zR a0.ax then match J7 M150 (Be.mk (ya 1 a0.ax) (↑(ya 1 a0.ax).length:Int) 0 r11.snd (aL.mk 0 0 0) r12.fst amZ)with|I=>I|V r13=>bif J (r13.t92<r13.t91)then if 0<=r13.t92/\r13.t92<zR r13.t90 then match m92 r13.b3 r13.t92 with|I=>I|V r14=>bif r14 then match M150 (az.mk r13.t90[zD r13.t92]!.bE r13.t90[zD r13.t92]!.fN r13.t90[zD r13.t92]!.ax) r13.b0 with|I=>I|V r15=>match vQ r13.b4 r15.fst with|I=>I|V r16=>I else I else I else V (r13.b4,r13.b0)else I else I else bif J ((zR a0.ax:Int)=1)then if(0:Int)<=(0:Int)/\(0:Int)<zR a0.ax then match M150 (az.mk a0.ax[0]!.bE a0.ax[0]!.fN a0.ax[0]!.ax) b0 with|I=>I|V r17=>match ahz a0.bE r17.fst with|I=>I|V r18=>V (r18.fst,r17.snd)else I else if(0:Int)<=(0:Int)/\(0:Int)<zR a0.ax then match M150 (az.mk a0.ax[0]!.bE a0.ax[0]!.fN a0.ax[0]!.ax) b0 with|I=>I|V r19=>if(0:Int)<=(1:Int)/\(1:Int)<zR a0.ax then match M150 (az.mk a0.ax[1]!.bE a0.ax[1]!.fN a0.ax[1]!.ax) r19.snd with|I=>I|V r20=>match vK a0.bE r19.fst r20.fst with|I=>I|V r21=>V (r21.fst,r20.snd)else I else I
def aFB(M150:az->ay->af rF)(a0:az)(b0:ay):bU vn (auF M150) 300 (aog M150) 150 (aqo.c (a0,(),(),())) (aud.d (b0,(((),(),()),()),())) 2 d150.rd=am7 M150 a0 b0:=aV
def anT:Nat->(az->ay->af rF)
 |0=>(λ_ _=>I)
 |n+1=>(am7 (anT n))
def Tp(n:Nat):az->ay->af rF:=(anT n)
def Ny:∀n,ah1 (Tp n)
 |0=>λ_ _ h=>(by cases h)
 |n+1=>by
  have ih:=Ny n;have i150:=ih;exact(VX (ano i150) (ayd (Tp n)) (λ_=>aV) (λ_=>aV) (λ_=>aV) λg=>aFB (Tp n) g.1.1 g.2.1)
def agE:az->ay->af rF:=λa0 b0=>lim (λn=>Tp n a0 b0)
def ajq:ah1 agE:=λg b h=>by
 obtain⟨n,hn⟩:=dA (show lim (λn=>Tp n g.1.1 g.2.1)=V b from h);exact(Ny n) g b hn
def aG5(F:bu):bu:=x150 agE F
def akB{F:bu}(h:bz vn F):bz vn (aG5 F):=WQ ajq h
abbrev E91:=Int
def d91:Td 0 E91:= .c [] [2] (.r 0 0 (ec 2 aN en) sn (λz=>z.1.1) (λx=>((x,()),(()))))
def LF(a0:aL):af E91:=
 match uf a0 with|I=>I|V r1=>bif bif r1 then G else O then V (0)else match Ba a0 with|I=>I|V r2=>V (r2)
def e91:=eL vn 91 G (lc (qg 34) ln) d91 (λg=>LF g.1)
def SI:EO e91:=λh=>kL (an:= .no) func91 (vN (lC aP)) aH h
def Fo:EP e91:=λh=>kP h
def aGI:bu:=di
abbrev arU:=Int
def d174:Td 0 arU:= .c [] [4] (.r 0 0 (ec 4 aN en) sn (λz=>z.1.1) (λx=>((x,()),(()))))
def azB:=(aS (aS ln))
def apA:An:= .no
def lF(a0:Int)(a1:Int):arU:=
 bif J (a1<a0)then a0 else a1
def aFR(a0:Int)(a1:Int):bU vn (aGI) 300 (apA) 174 (azB.c (a0,a1,())) [] 0 d174.rd=V (lF a0 a1):=by
 refine Eq.trans (b:=(
  bif J (a1<a0)then V (a0)else V (a1):af arU)) aV ?_
 simp only[lF,cu,cO]
def Zl:=eL vn 174 G azB d174 (λg=>V (lF g.1 g.2.1))
def IS:EO Zl:=λh=>kL (an:=apA) func174 aP aH h (c:=λg=>aFR g.1 g.2.1)
def aGp:bu:=di
abbrev atr:=Int
def d175:Td 0 atr:= .c [] [4] (.r 0 0 (ec 4 aN en) sn (λz=>z.1.1) (λx=>((x,()),(()))))
def aDa:=(aS (aS ln))
def an0:An:= .no
def jY(a0:Int)(a1:Int):atr:=
 bif J (a0<a1)then a0 else a1
def aG0(a0:Int)(a1:Int):bU vn (aGp) 300 (an0) 175 (aDa.c (a0,a1,())) [] 0 d175.rd=V (jY a0 a1):=by
 refine Eq.trans (b:=(
  bif J (a0<a1)then V (a0)else V (a1):af atr)) aV ?_
 simp only[jY,cu,cO]
def agr:=eL vn 175 G aDa d175 (λg=>V (jY g.1 g.2.1))
def Ju:EO agr:=λh=>kL (an:=an0) func175 aP aH h (c:=λg=>aG0 g.1 g.2.1)
abbrev NU:=Int×Int×Int
def d90:Td 0 NU:= .c [] [2,3,4] (.r 0 0 (ec 2 aN (ec 3 aN (ec 4 aN en))) sn (λz=>(z.1.1,z.1.2.1,z.1.t.1)) (λx=>((x.1,x.2.1,x.t,()),(()))))
def A90:=(lc (ql 166) ln)
def x90(M:(aa aB)->af NU):bu->bu:=eL vn 90 G A90 d90 (λg=>M g.1)
def abr{M:(aa aB)->af NU}{F:bu}{f:Nat}(h:bA F f):bA (x90 M F) f:=gi h (λ_=>aV)
def H90(M:(aa aB)->af NU):Prop:=HL vn 90 A90 d90 (λg=>M g.1)
def ac2{M:(aa aB)->af NU}(hM:H90 M){F:bu}(h:bz vn F):bz vn (x90 M F):=ep (sc:=pF) dh hM ⟨_,func90,aV,aV⟩ (λ_=>aV) (λ_=>aV) h
def F90(M90:(aa aB)->af NU):bu:=(agr (Zl (x90 M90 di)))
def asy{M90}(h90:H90 M90):bz vn (F90 M90):=(Ju (IS (ac2 h90 aP)))
structure CA where
 t0:List aB
 (t5 t6 t7 t8:Int)
def acG:Td 0 CA:= .c [] [0,5,6,7,8] (.r 0 0 (ec 0 (ql 166) (ec 5 aN (ec 6 aN (ec 7 aN (ec 8 aN en))))) sn (λz=>⟨z.1.1,z.1.2.1,z.1.t.1,z.1.t.2.1,z.1.q.1⟩) (λx=>((x.t0,x.t5,x.t6,x.t7,x.t8,()),(()))))
def Xn(M90:(aa aB)->af NU)(p:CA):af (af CA):=
 bif J (p.t8<zR p.t0)then if 0<=p.t8/\p.t8<zR p.t0 then match M90 p.t0[zD p.t8]!.aQ with|I=>I|V r1=>match M90 p.t0[zD p.t8]!.aW with|I=>I|V r2=>bif J (p.t0[zD p.t8]!.cg=4)then bif J (p.t0[zD p.t8]!.cg=1)then V (V (CA.mk p.t0 (jY (ak (p.t5+ak (1+ak (p.t0[zD p.t8]!.fN*ak (1+r1.fst))))) 4097) (jY (ak (p.t6+1)) 9) (jY (ak (p.t7+ak (p.t0[zD p.t8]!.fN*ak (p.t0[zD p.t8]!.bg+r1.snd.snd)))) 67108865) (ak (p.t8+1))))else V (V (CA.mk p.t0 (jY (ak (p.t5+ak (1+ak (p.t0[zD p.t8]!.fN*ak (1+r1.fst))))) 4097) (jY (ak (p.t6+ak (p.t0[zD p.t8]!.fN*r1.snd.fst))) 9) (jY (ak (p.t7+ak (p.t0[zD p.t8]!.fN*ak (p.t0[zD p.t8]!.bg+r1.snd.snd)))) 67108865) (ak (p.t8+1))))else bif J (p.t0[zD p.t8]!.cg=1)then V (V (CA.mk p.t0 (jY (ak (p.t5+ak (1+lF r1.fst r2.fst))) 4097) (jY (ak (p.t6+1)) 9) (jY (ak (p.t7+ak (p.t0[zD p.t8]!.bg+lF r1.snd.snd r2.snd.snd))) 67108865) (ak (p.t8+1))))else V (V (CA.mk p.t0 (jY (ak (p.t5+ak (1+lF r1.fst r2.fst))) 4097) (jY (ak (p.t6+lF r1.snd.fst r2.snd.fst)) 9) (jY (ak (p.t7+ak (p.t0[zD p.t8]!.bg+lF r1.snd.snd r2.snd.snd))) 67108865) (ak (p.t8+1))))else I else V (I)
def VD(M90:(aa aB)->af NU):=bJ (Xn M90)
def aAF(M90:(aa aB)->af NU):An:=(noTwo (noTwo (.two (noTwo (acG.lp (VD M90) .no)) .no)))
def aHW(M90:(aa aB)->af NU):eX vn (F90 M90) 0 300 90 (aAF M90):=b6 (l:=[(aY f90 0,(acG.lp (VD M90) .no))]) func90 (bN aV) aV (aA (aO acG) aH)
def s90(M90:(aa aB)->af NU)(a0:aa aB):af NU:=
 match VD M90 (CA.mk a0 0 0 0 0)with|I=>I|V r3=>bif J (r3.t8<zR r3.t0)then if 0<=r3.t8/\r3.t8<zR r3.t0 then match M90 r3.t0[zD r3.t8]!.aQ with|I=>I|V r4=>match M90 r3.t0[zD r3.t8]!.aW with|I=>I|V r5=>bif J (r3.t0[zD r3.t8]!.cg=4)then bif J (r3.t0[zD r3.t8]!.cg=1)then I else I else bif J (r3.t0[zD r3.t8]!.cg=1)then I else I else I else V (r3.t5,r3.t6,r3.t7)
def c90(M90:(aa aB)->af NU)(a0:aa aB):bU vn (F90 M90) 300 (aAF M90) 90 (A90.c (a0,())) [] 0 d90.rd=s90 M90 a0:=aV
def aAp:Nat->((aa aB)->af NU)
 |0=>(λ_=>I)
 |n+1=>(s90 (aAp n))
def m90(n:Nat):(aa aB)->af NU:=(aAp n)
def V5:∀n,H90 (m90 n)
 |0=>λ_ _ h=>(by cases h)
 |n+1=>by
  have ih:=V5 n;have i90:=ih;exact(dR (asy i90) (aHW (m90 n)) (λ_=>aV) (λ_=>aV) λg=>c90 (m90 n) g.1)
def r90:(aa aB)->af NU:=λa0=>lim (λn=>m90 n a0)
def arR:H90 r90:=λg b h=>by
 obtain⟨n,hn⟩:=dA (show lim (λn=>m90 n g.1)=V b from h);exact(V5 n) g b hn
def e90(F:bu):bu:=x90 r90 F
def aaX{F:bu}(h:bz vn F):bz vn (e90 F):=ac2 arR h
def OD{F:bu}{f:Nat}(h:bA F f):bA (e90 F) f:=abr h
abbrev ry:=Int
def d216:Td 0 ry:= .c [] [2] (.r 0 0 (ec 2 aN en) sn (λz=>z.1.1) (λx=>((x,()),(()))))
def atQ:=(lc (qg 137) ln)
def ahM(M:az->af ry):bu->bu:=eL vn 216 G atQ d216 (λg=>M g.1)
def X4{M:az->af ry}{F:bu}{f:Nat}(h:bA F f):bA (ahM M F) f:=gi h (λ_=>aV)
def aiC(M:az->af ry):Prop:=HL vn 216 atQ d216 (λg=>M g.1)
def Vq{M:az->af ry}(hM:aiC M){F:bu}(h:bz vn F):bz vn (ahM M F):=ep (sc:=pF) dh hM ⟨_,func216,aV,aV⟩ (λ_=>aV) (λ_=>aV) h
def avd(M216:az->af ry):bu:=(ahM M216 di)
def alK{M216}(h216:aiC M216):bz vn (avd M216):=(Vq h216 aP)
structure FR where
 (t3 t4:Int)
 b0:az
def Tb:Td 0 FR:= .c [] [1,3,4] (.r 0 1 (ec 1 (qp 0 0) (ec 3 aN (ec 4 aN en))) (sb 0 137 (lg 137) sn) (λz=>⟨z.1.2.1,z.1.t.1,z.2.1⟩) (λx=>(((),x.t3,x.t4,()),(x.b0,()))))
def Lj(M216:az->af ry)(p:FR):af (af FR):=
 bif J (p.t4<zR p.b0.ax)then if 0<=p.t4/\p.t4<zR p.b0.ax then match M216 (az.mk p.b0.ax[zD p.t4]!.bE p.b0.ax[zD p.t4]!.fN p.b0.ax[zD p.t4]!.ax)with|I=>I|V r1=>V (V (FR.mk (ak (p.t3+r1)) (ak (p.t4+1)) (az.mk p.b0.bE p.b0.fN p.b0.ax)))else I else V (I)
def JR(M216:az->af ry):=bJ (Lj M216)
def aoa(M216:az->af ry):An:=(noTwo (noTwo (.two (noTwo (Tb.lp (JR M216) .no)) .no)))
def awD(M216:az->af ry):eX vn (avd M216) 0 300 216 (aoa M216):=b6 (l:=[(aY f216 0,(Tb.lp (JR M216) .no))]) func216 (bN aV) aV (aA (aO Tb) aH)
def ajB(M216:az->af ry)(a0:az):af ry:=
 match JR M216 (FR.mk 1 0 (az.mk a0.bE a0.fN a0.ax))with|I=>I|V r2=>bif J (r2.t4<zR r2.b0.ax)then if 0<=r2.t4/\r2.t4<zR r2.b0.ax then match M216 (az.mk r2.b0.ax[zD r2.t4]!.bE r2.b0.ax[zD r2.t4]!.fN r2.b0.ax[zD r2.t4]!.ax)with|I=>I|V r3=>I else I else V (r2.t3)
def aHZ(M216:az->af ry)(a0:az):bU vn (avd M216) 300 (aoa M216) 216 (atQ.c (a0,())) [] 0 d216.rd=ajB M216 a0:=aV
def apZ:Nat->(az->af ry)
 |0=>(λ_=>I)
 |n+1=>(ajB (apZ n))
def Ty(n:Nat):az->af ry:=(apZ n)
def Oq:∀n,aiC (Ty n)
 |0=>λ_ _ h=>(by cases h)
 |n+1=>by
  have ih:=Oq n;have i216:=ih;exact(dR (alK i216) (awD (Ty n)) (λ_=>aV) (λ_=>aV) λg=>aHZ (Ty n) g.1)
def TA:az->af ry:=λa0=>lim (λn=>Ty n a0)
def ai7:aiC TA:=λg b h=>by
 obtain⟨n,hn⟩:=dA (show lim (λn=>Ty n g.1)=V b from h);exact(Oq n) g b hn
def agc(F:bu):bu:=ahM TA F
def Xw{F:bu}(h:bz vn F):bz vn (agc F):=Vq ai7 h
def HN{F:bu}{f:Nat}(h:bA F f):bA (agc F) f:=X4 h
abbrev qY:=Int
def d215:Td 0 qY:= .c [] [2] (.r 0 0 (ec 2 aN en) sn (λz=>z.1.1) (λx=>((x,()),(()))))
def aqF:=(lc (ql 166) ln)
def ald(M:(aa aB)->af qY):bu->bu:=eL vn 215 G aqF d215 (λg=>M g.1)
def Zs{M:(aa aB)->af qY}{F:bu}{f:Nat}(h:bA F f):bA (ald M F) f:=gi h (λ_=>aV)
def air(M:(aa aB)->af qY):Prop:=HL vn 215 aqF d215 (λg=>M g.1)
def Vy{M:(aa aB)->af qY}(hM:air M){F:bu}(h:bz vn F):bz vn (ald M F):=ep (sc:=pF) dh hM ⟨_,func215,aV,aV⟩ (λ_=>aV) (λ_=>aV) h
def asf(M215:(aa aB)->af qY):bu:=(agc (ald M215 di))
def af4{M215}(h215:air M215):bz vn (asf M215):=(Xw (Vy h215 aP))
structure ES where
 t0:List aB
 (t3 t4:Int)
def Sr:Td 0 ES:= .c [] [0,3,4] (.r 0 0 (ec 0 (ql 166) (ec 3 aN (ec 4 aN en))) sn (λz=>⟨z.1.1,z.1.2.1,z.1.t.1⟩) (λx=>((x.t0,x.t3,x.t4,()),(()))))
def JQ(M215:(aa aB)->af qY)(p:ES):af (af ES):=
 bif J (p.t4<zR p.t0)then if 0<=p.t4/\p.t4<zR p.t0 then match TA (az.mk p.t0[zD p.t4]!.aG.bE p.t0[zD p.t4]!.aG.fN p.t0[zD p.t4]!.aG.ax)with|I=>I|V r1=>if 0<=p.t4/\p.t4<zR p.t0 then match M215 p.t0[zD p.t4]!.aQ with|I=>I|V r2=>if 0<=p.t4/\p.t4<zR p.t0 then match M215 p.t0[zD p.t4]!.aW with|I=>I|V r3=>V (V (ES.mk p.t0 (ak (ak (ak (ak (p.t3+1)+r1)+r2)+r3)) (ak (p.t4+1))))else I else I else I else V (I)
def KY(M215:(aa aB)->af qY):=bJ (JQ M215)
def ap0(M215:(aa aB)->af qY):An:=(noTwo (noTwo (.two (noTwo (Sr.lp (KY M215) .no)) .no)))
def ayw(M215:(aa aB)->af qY):eX vn (asf M215) 0 300 215 (ap0 M215):=b6 (l:=[(aY f215 0,(Sr.lp (KY M215) .no))]) func215 (bN aV) aV (aA (aO Sr) aH)
def akl(M215:(aa aB)->af qY)(a0:aa aB):af qY:=
 match KY M215 (ES.mk a0 0 0)with|I=>I|V r4=>bif J (r4.t4<zR r4.t0)then if 0<=r4.t4/\r4.t4<zR r4.t0 then match TA (az.mk r4.t0[zD r4.t4]!.aG.bE r4.t0[zD r4.t4]!.aG.fN r4.t0[zD r4.t4]!.aG.ax)with|I=>I|V r5=>if 0<=r4.t4/\r4.t4<zR r4.t0 then match M215 r4.t0[zD r4.t4]!.aQ with|I=>I|V r6=>if 0<=r4.t4/\r4.t4<zR r4.t0 then match M215 r4.t0[zD r4.t4]!.aW with|I=>I|V r7=>I else I else I else I else V (r4.t3)
def aFn(M215:(aa aB)->af qY)(a0:aa aB):bU vn (asf M215) 300 (ap0 M215) 215 (aqF.c (a0,())) [] 0 d215.rd=akl M215 a0:=aV
def apt:Nat->((aa aB)->af qY)
 |0=>(λ_=>I)
 |n+1=>(akl (apt n))
def Tj(n:Nat):(aa aB)->af qY:=(apt n)
def O6:∀n,air (Tj n)
 |0=>λ_ _ h=>(by cases h)
 |n+1=>by
  have ih:=O6 n;have i215:=ih;exact(dR (af4 i215) (ayw (Tj n)) (λ_=>aV) (λ_=>aV) λg=>aFn (Tj n) g.1)
def ajr:(aa aB)->af qY:=λa0=>lim (λn=>Tj n a0)
def ai0:air ajr:=λg b h=>by
 obtain⟨n,hn⟩:=dA (show lim (λn=>Tj n g.1)=V b from h);exact(O6 n) g b hn
def auK(F:bu):bu:=ald ajr F
def ai3{F:bu}(h:bz vn F):bz vn (auK F):=Vy ai0 h
def Ij{F:bu}{f:Nat}(h:bA F f):bA (auK F) f:=Zs h
abbrev qE:=Int
def d217:Td 0 qE:= .c [] [2] (.r 0 0 (ec 2 aN en) sn (λz=>z.1.1) (λx=>((x,()),(()))))
def atm:=(lc (qg 137) ln)
def afN(M:az->af qE):bu->bu:=eL vn 217 G atm d217 (λg=>M g.1)
def YP{M:az->af qE}{F:bu}{f:Nat}(h:bA F f):bA (afN M F) f:=gi h (λ_=>aV)
def ajl(M:az->af qE):Prop:=HL vn 217 atm d217 (λg=>M g.1)
def VG{M:az->af qE}(hM:ajl M){F:bu}(h:bz vn F):bz vn (afN M F):=ep (sc:=pF) dh hM ⟨_,func217,aV,aV⟩ (λ_=>aV) (λ_=>aV) h
def atq(M217:az->af qE):bu:=(afN M217 di)
def ajd{M217}(h217:ajl M217):bz vn (atq M217):=(VG h217 aP)
structure Bk where
 (t3 t4:Int)
 b0:az
def TO:Td 0 Bk:= .c [] [1,3,4] (.r 0 1 (ec 1 (qp 0 0) (ec 3 aN (ec 4 aN en))) (sb 0 137 (lg 137) sn) (λz=>⟨z.1.2.1,z.1.t.1,z.2.1⟩) (λx=>(((),x.t3,x.t4,()),(x.b0,()))))
def IP(M217:az->af qE)(p:Bk):af (af Bk):=
 bif J (p.t4<zR p.b0.ax)then if 0<=p.t4/\p.t4<zR p.b0.ax then match M217 (az.mk p.b0.ax[zD p.t4]!.bE p.b0.ax[zD p.t4]!.fN p.b0.ax[zD p.t4]!.ax)with|I=>I|V r1=>bif J (p.t3<r1)then V (V (Bk.mk r1 (ak (p.t4+1)) (az.mk p.b0.bE p.b0.fN p.b0.ax)))else V (V (Bk.mk p.t3 (ak (p.t4+1)) (az.mk p.b0.bE p.b0.fN p.b0.ax)))else I else V (I)
def L4(M217:az->af qE):=bJ (IP M217)
def aoi(M217:az->af qE):An:=(noTwo (noTwo (.two (noTwo (TO.lp (L4 M217) .no)) .no)))
def aCC(M217:az->af qE):eX vn (atq M217) 0 300 217 (aoi M217):=b6 (l:=[(aY f217 0,(TO.lp (L4 M217) .no))]) func217 (bN aV) aV (aA (aO TO) aH)
def amG(M217:az->af qE)(a0:az):af qE:=
 match L4 M217 (Bk.mk 0 0 (az.mk a0.bE a0.fN a0.ax))with|I=>I|V r2=>bif J (r2.t4<zR r2.b0.ax)then if 0<=r2.t4/\r2.t4<zR r2.b0.ax then match M217 (az.mk r2.b0.ax[zD r2.t4]!.bE r2.b0.ax[zD r2.t4]!.fN r2.b0.ax[zD r2.t4]!.ax)with|I=>I|V r3=>bif J (r2.t3<r3)then I else I else I else V (ak (r2.t3+1))
def aHF(M217:az->af qE)(a0:az):bU vn (atq M217) 300 (aoi M217) 217 (atm.c (a0,())) [] 0 d217.rd=amG M217 a0:=aV
def aph:Nat->(az->af qE)
 |0=>(λ_=>I)
 |n+1=>(amG (aph n))
def TK(n:Nat):az->af qE:=(aph n)
def Oh:∀n,ajl (TK n)
 |0=>λ_ _ h=>(by cases h)
 |n+1=>by
  have ih:=Oh n;have i217:=ih;exact(dR (ajd i217) (aCC (TK n)) (λ_=>aV) (λ_=>aV) λg=>aHF (TK n) g.1)
def Oe:az->af qE:=λa0=>lim (λn=>TK n a0)
def ag8:ajl Oe:=λg b h=>by
 obtain⟨n,hn⟩:=dA (show lim (λn=>TK n g.1)=V b from h);exact(Oh n) g b hn
def ag0(F:bu):bu:=afN Oe F
def U2{F:bu}(h:bz vn F):bz vn (ag0 F):=VG ag8 h
def sA{F:bu}{f:Nat}(h:bA F f):bA (ag0 F) f:=YP h
abbrev qQ:=Int
def d218:Td 0 qQ:= .c [] [2] (.r 0 0 (ec 2 aN en) sn (λz=>z.1.1) (λx=>((x,()),(()))))
def aso:=(lc (ql 166) ln)
def alL(M:(aa aB)->af qQ):bu->bu:=eL vn 218 G aso d218 (λg=>M g.1)
def YY{M:(aa aB)->af qQ}{F:bu}{f:Nat}(h:bA F f):bA (alL M F) f:=gi h (λ_=>aV)
def ami(M:(aa aB)->af qQ):Prop:=HL vn 218 aso d218 (λg=>M g.1)
def Wq{M:(aa aB)->af qQ}(hM:ami M){F:bu}(h:bz vn F):bz vn (alL M F):=ep (sc:=pF) dh hM ⟨_,func218,aV,aV⟩ (λ_=>aV) (λ_=>aV) h
def aqR(M218:(aa aB)->af qQ):bu:=(alL M218 di)
def ahq{M218}(h218:ami M218):bz vn (aqR M218):=(Wq h218 aP)
structure qd where
 t0:List aB
 (t3 t4:Int)
def Rx:Td 0 qd:= .c [] [0,3,4] (.r 0 0 (ec 0 (ql 166) (ec 3 aN (ec 4 aN en))) sn (λz=>⟨z.1.1,z.1.2.1,z.1.t.1⟩) (λx=>((x.t0,x.t3,x.t4,()),(()))))
def I5(M218:(aa aB)->af qQ)(p:qd):af (af qd):=
 bif J (p.t4<zR p.t0)then if 0<=p.t4/\p.t4<zR p.t0 then match M218 p.t0[zD p.t4]!.aQ with|I=>I|V r1=>if 0<=p.t4/\p.t4<zR p.t0 then match M218 p.t0[zD p.t4]!.aW with|I=>I|V r2=>bif J (p.t3<ak (r1+1))then bif J (ak (r1+1)<ak (r2+1))then V (V (qd.mk p.t0 (ak (r2+1)) (ak (p.t4+1))))else V (V (qd.mk p.t0 (ak (r1+1)) (ak (p.t4+1))))else bif J (p.t3<ak (r2+1))then V (V (qd.mk p.t0 (ak (r2+1)) (ak (p.t4+1))))else V (V (qd.mk p.t0 p.t3 (ak (p.t4+1))))else I else I else V (I)
def L7(M218:(aa aB)->af qQ):=bJ (I5 M218)
def aoo(M218:(aa aB)->af qQ):An:=(noTwo (noTwo (.two (noTwo (Rx.lp (L7 M218) .no)) .no)))
def aCT(M218:(aa aB)->af qQ):eX vn (aqR M218) 0 300 218 (aoo M218):=b6 (l:=[(aY f218 0,(Rx.lp (L7 M218) .no))]) func218 (bN aV) aV (aA (aO Rx) aH)
def afZ(M218:(aa aB)->af qQ)(a0:aa aB):af qQ:=
 match L7 M218 (qd.mk a0 0 0)with|I=>I|V r3=>bif J (r3.t4<zR r3.t0)then if 0<=r3.t4/\r3.t4<zR r3.t0 then match M218 r3.t0[zD r3.t4]!.aQ with|I=>I|V r4=>if 0<=r3.t4/\r3.t4<zR r3.t0 then match M218 r3.t0[zD r3.t4]!.aW with|I=>I|V r5=>bif J (r3.t3<ak (r4+1))then bif J (ak (r4+1)<ak (r5+1))then I else I else bif J (r3.t3<ak (r5+1))then I else I else I else I else V (r3.t3)
def aHa(M218:(aa aB)->af qQ)(a0:aa aB):bU vn (aqR M218) 300 (aoo M218) 218 (aso.c (a0,())) [] 0 d218.rd=afZ M218 a0:=aV
def apI:Nat->((aa aB)->af qQ)
 |0=>(λ_=>I)
 |n+1=>(afZ (apI n))
def Rb(n:Nat):(aa aB)->af qQ:=(apI n)
def NL:∀n,ami (Rb n)
 |0=>λ_ _ h=>(by cases h)
 |n+1=>by
  have ih:=NL n;have i218:=ih;exact(dR (ahq i218) (aCT (Rb n)) (λ_=>aV) (λ_=>aV) λg=>aHa (Rb n) g.1)
def afy:(aa aB)->af qQ:=λa0=>lim (λn=>Rb n a0)
def ahP:ami afy:=λg b h=>by
 obtain⟨n,hn⟩:=dA (show lim (λn=>Rb n g.1)=V b from h);exact(NL n) g b hn
def arx(F:bu):bu:=alL afy F
def ajD{F:bu}(h:bz vn F):bz vn (arx F):=Wq ahP h
def Hp{F:bu}{f:Nat}(h:bA F f):bA (arx F) f:=YY h
abbrev pT:=Bool
def d219:Td 0 pT:= .c [] [2] (.r 0 0 (ec 2 qb en) sn (λz=>z.1.1) (λx=>((x,()),(()))))
def aqb:=(lc (ql 166) ln)
def agl(M:(aa aB)->af pT):bu->bu:=eL vn 219 G aqb d219 (λg=>M g.1)
def B5{M:(aa aB)->af pT}{F:bu}{f:Nat}(h:bA F f):bA (agl M F) f:=gi h (λ_=>aV)
def ak0(M:(aa aB)->af pT):Prop:=HL vn 219 aqb d219 (λg=>M g.1)
def VZ{M:(aa aB)->af pT}(hM:ak0 M){F:bu}(h:bz vn F):bz vn (agl M F):=ep (sc:=pF) dh hM ⟨_,func219,aV,aV⟩ (λ_=>aV) (λ_=>aV) h
def amo(M219:(aa aB)->af pT):bu:=(agl M219 (ag0 di))
def ah4{M219}(h219:ak0 M219):bz vn (amo M219):=(VZ h219 (U2 aP))
structure Ee where
 t0:List aB
 t3:Int
def RN:Td 0 Ee:= .c [] [0,3] (.r 0 0 (ec 0 (ql 166) (ec 3 aN en)) sn (λz=>⟨z.1.1,z.1.2.1⟩) (λx=>((x.t0,x.t3,()),(()))))
def KZ(M219:(aa aB)->af pT)(p:Ee):af (af Ee):=
 bif J (p.t3<zR p.t0)then match if 0<=p.t3/\p.t3<zR p.t0 then match Oe (az.mk p.t0[zD p.t3]!.aG.bE p.t0[zD p.t3]!.aG.fN p.t0[zD p.t3]!.aG.ax)with|I=>I|V r1=>bif J (12<r1)then V O else if 0<=p.t3/\p.t3<zR p.t0 then match M219 p.t0[zD p.t3]!.aQ with|I=>I|V r2=>bif r2 then V O else if 0<=p.t3/\p.t3<zR p.t0 then match M219 p.t0[zD p.t3]!.aW with|I=>I|V r3=>V (r3)else I else I else I with|I=>I|V r4=>bif r4 then V (I)else V (V (Ee.mk p.t0 (ak (p.t3+1))))else V (I)
def aae(M219:(aa aB)->af pT):An:=(noTwo (.two (.two (.rb [217,219] 32) .no) .no))
def IT(M219:(aa aB)->af pT):=bJ (KZ M219)
def anx(M219:(aa aB)->af pT):An:=(noTwo (.two (noTwo (RN.lp (IT M219) (aae M219))) .no))
def ayu{M219}:∀f∈([217,219]:aa Nat),bA (amo M219) f:=(aA (B5 (sA bF)) (aA (B5 (sA bF)) aH))
def aA7(M219:(aa aB)->af pT):eX vn (amo M219) 0 300 219 (anx M219):=b6 (l:=[(aY f219 0,(RN.lp (IT M219) (aae M219))),(.skip,(.rb [217,219] 32))]) func219 (bN aV) aV (aA (aO RN) (aA ayu aH))
def ah3(M219:(aa aB)->af pT)(a0:aa aB):af pT:=
 match IT M219 (Ee.mk a0 0)with|I=>I|V r5=>bif J (r5.t3<zR r5.t0)then match if 0<=r5.t3/\r5.t3<zR r5.t0 then match Oe (az.mk r5.t0[zD r5.t3]!.aG.bE r5.t0[zD r5.t3]!.aG.fN r5.t0[zD r5.t3]!.aG.ax)with|I=>I|V r6=>bif J (12<r6)then V O else if 0<=r5.t3/\r5.t3<zR r5.t0 then match M219 r5.t0[zD r5.t3]!.aQ with|I=>I|V r7=>bif r7 then V O else if 0<=r5.t3/\r5.t3<zR r5.t0 then match M219 r5.t0[zD r5.t3]!.aW with|I=>I|V r8=>V (r8)else I else I else I with|I=>I|V r9=>bif r9 then V O else I else V G
def aFg(M219:(aa aB)->af pT)(a0:aa aB):bU vn (amo M219) 300 (anx M219) 219 (aqb.c (a0,())) [] 0 d219.rd=ah3 M219 a0:=aV
def apR:Nat->((aa aB)->af pT)
 |0=>(λ_=>I)
 |n+1=>(ah3 (apR n))
def Qw(n:Nat):(aa aB)->af pT:=(apR n)
def PF:∀n,ak0 (Qw n)
 |0=>λ_ _ h=>(by cases h)
 |n+1=>by
  have ih:=PF n;have i219:=ih;exact(dR (ah4 i219) (aA7 (Qw n)) (λ_=>aV) (λ_=>aV) λg=>aFg (Qw n) g.1)
def am9:(aa aB)->af pT:=λa0=>lim (λn=>Qw n a0)
def agi:ak0 am9:=λg b h=>by
 obtain⟨n,hn⟩:=dA (show lim (λn=>Qw n g.1)=V b from h);exact(PF n) g b hn
def aqQ(F:bu):bu:=agl am9 F
def ajw{F:bu}(h:bz vn F):bz vn (aqQ F):=VZ agi h
def HW{F:bu}{f:Nat}(h:bA F f):bA (aqQ F) f:=B5 h
def aBG:bu:=(aqQ (arx (ag0 (agc (auK di)))))
structure EM where
 (t3 t4:Int)
 b0:aU
def TX:Td 0 EM:= .c [] [1,3,4] (.r 0 1 (ec 1 (qp 0 0) (ec 3 aN (ec 4 aN en))) (sb 0 26 (lg 26) sn) (λz=>⟨z.1.2.1,z.1.t.1,z.2.1⟩) (λx=>(((),x.t3,x.t4,()),(x.b0,()))))
def Eo(p:EM):af (af EM):=
 bif J (p.t4<zR p.b0.au)then if 0<=p.t4/\p.t4<zR p.b0.au then match TA (az.mk p.b0.au[zD p.t4]!.aG.bE p.b0.au[zD p.t4]!.aG.fN p.b0.au[zD p.t4]!.aG.ax)with|I=>I|V r1=>if 0<=p.t4/\p.t4<zR p.b0.au then match Oe (az.mk p.b0.au[zD p.t4]!.aG.bE p.b0.au[zD p.t4]!.aG.fN p.b0.au[zD p.t4]!.aG.ax)with|I=>I|V r2=>bif J (12<r2)then V (I)else V (V (EM.mk (ak (p.t3+r1)) (ak (p.t4+1)) p.b0))else I else I else V (I)
def Ke:=bJ (Eo)
abbrev ayF:=Bool
def d138:Td 0 ayF:= .c [] [2] (.r 0 0 (ec 2 qb en) sn (λz=>z.1.1) (λx=>((x,()),(()))))
def apf:∀f∈([218,219]:aa Nat),bA (aBG) f:=(aA (HW (Hp (sA (HN (Ij bF))))) (aA (HW (Hp (sA (HN (Ij bF))))) aH))
def ahL(a0:aU):af ayF:=
 match bif J (64<(zR a0.ai:Int))then V O else V (J (8<(zR a0.au:Int)))with|I=>I|V r3=>bif r3 then V G else match ajr a0.bM with|I=>I|V r4=>match Ke (EM.mk r4 0 a0)with|I=>I|V r5=>bif J (r5.t4<zR r5.b0.au)then if 0<=r5.t4/\r5.t4<zR r5.b0.au then match TA (az.mk r5.b0.au[zD r5.t4]!.aG.bE r5.b0.au[zD r5.t4]!.aG.fN r5.b0.au[zD r5.t4]!.aG.ax)with|I=>I|V r6=>if 0<=r5.t4/\r5.t4<zR r5.b0.au then match Oe (az.mk r5.b0.au[zD r5.t4]!.aG.bE r5.b0.au[zD r5.t4]!.aG.fN r5.b0.au[zD r5.t4]!.aG.ax)with|I=>I|V r7=>bif J (12<r7)then V G else I else I else I else match bif J (r5.t3<=1024)then match afy r5.b0.bM with|I=>I|V r8=>bif J (r8<=12)then match am9 r5.b0.bM with|I=>I|V r9=>V (bif r9 then G else O)else V G else V G with|I=>I|V r10=>V (r10)
def awO:=eL vn 138 G (lc (qg 26) ln) d138 (λg=>ahL g.1)
def afH:EO awO:=λh=>kL (F:=aBG) (an:=(noTwo (.two (.two (.rb [218,219] 14) .no) (noTwo (.two (noTwo (TX.lp Ke .no)) (.two (.rb [218,219] 2) .no)))))) (l:=[(.skip,(.rb [218,219] 14)),(aY f138 0,(TX.lp Ke .no)),(.skip,(.rb [218,219] 2))]) func138 (ajw (ajD (U2 (Xw (ai3 aP))))) (aA apf (aA (aO TX) (aA apf aH))) h
def aBv:bu:=di
structure Em where
 t0:ByteArray
 t3:Int
def Ss:Td 0 Em:= .c [] [0,3] (.r 0 0 (ec 0 qs (ec 3 aN en)) sn (λz=>⟨z.1.1,z.1.2.1⟩) (λx=>((x.t0,x.t3,()),(()))))
def Km(p:Em):af (af Em):=
 bif J (p.t3<p.t0.size)then if 0<=p.t3/\p.t3<p.t0.size then match bif J (97<=cv p.t0 p.t3.toNat)then V (J (cv p.t0 p.t3.toNat<=122))else V G with|I=>I|V r1=>match bif J (48<=cv p.t0 p.t3.toNat)then bif J (cv p.t0 p.t3.toNat<=57)then V O else bif J (cv p.t0 p.t3.toNat=46)then V O else V (J (cv p.t0 p.t3.toNat=95))else bif J (cv p.t0 p.t3.toNat=46)then V O else V (J (cv p.t0 p.t3.toNat=95))with|I=>I|V r2=>match bif bif r1 then G else O then bif J (p.t3=0)then V O else V (bif r2 then G else O)else V G with|I=>I|V r3=>bif r3 then V (I)else V (V (Em.mk p.t0 (ak (p.t3+1))))else I else V (I)
def ad2:An:=(noTwo (.two (noTwo (.two (.rb [] 5) (.two (.rb [] 6) (.two (.rb [] 53) .no)))) .no))
def Lu:=bJ (Km)
abbrev aCk:=Bool
def d140:Td 0 aCk:= .c [] [2] (.r 0 0 (ec 2 qb en) sn (λz=>z.1.1) (λx=>((x,()),(()))))
def Xg:∀f∈([]:aa Nat),bA (aBv) f:=aH
def Th(a0:ByteArray):af aCk:=
 match bif J ((a0.size:Int)<1)then V O else V (J (40<(a0.size:Int)))with|I=>I|V r4=>bif r4 then V G else match Lu (Em.mk a0 0)with|I=>I|V r5=>bif J (r5.t3<r5.t0.size)then if 0<=r5.t3/\r5.t3<r5.t0.size then match bif J (97<=cv r5.t0 r5.t3.toNat)then V (J (cv r5.t0 r5.t3.toNat<=122))else V G with|I=>I|V r6=>match bif J (48<=cv r5.t0 r5.t3.toNat)then bif J (cv r5.t0 r5.t3.toNat<=57)then V O else bif J (cv r5.t0 r5.t3.toNat=46)then V O else V (J (cv r5.t0 r5.t3.toNat=95))else bif J (cv r5.t0 r5.t3.toNat=46)then V O else V (J (cv r5.t0 r5.t3.toNat=95))with|I=>I|V r7=>match bif bif r6 then G else O then bif J (r5.t3=0)then V O else V (bif r7 then G else O)else V G with|I=>I|V r8=>bif r8 then V G else I else I else V O
def alP:=eL vn 140 G (lc qs ln) d140 (λg=>Th g.1)
def Wl:EO alP:=λh=>kL (F:=aBv) (an:=(noTwo (.two (.two (.rb [] 14) .no) (.two (noTwo (Ss.lp Lu ad2)) .no)))) (l:=[(.skip,(.rb [] 14)),(aY f140 0,(Ss.lp Lu ad2)),(.skip,(.rb [] 5)),(.skip,(.rb [] 6)),(.skip,(.rb [] 53))]) func140 aP (aA Xg (aA (aO Ss) (aA Xg (aA Xg (aA Xg aH))))) h
def YA:EP alP:=λh=>kP h
def asb:bu:=di
abbrev ary:=Bool
def d141:Td 0 ary:= .c [] [4] (.r 0 0 (ec 4 qb en) sn (λz=>z.1.1) (λx=>((x,()),(()))))
def aBb:=(aS (aS ln))
def ao6:An:=(noTwo (.two (.rb [] 4) .no))
def aBi:∀f∈([]:aa Nat),bA (asb) f:=aH
def Lf(a0:Int)(a1:Int):ary:=
 let r1:Bool:=bif J (a0<=a1)then bif J (-1048576<=a0)then J (a1<=1048576)else G else G;r1
def aE6(a0:Int)(a1:Int):bU vn (asb) 300 (ao6) 141 (aBb.c (a0,a1,())) [] 0 d141.rd=V (Lf a0 a1):=by
 refine Eq.trans (b:=(
  match bif J (a0<=a1)then bif J (-1048576<=a0)then V (J (a1<=1048576))else V (G)else V (G)with|I=>I|V r1=>V (r1):af ary)) aV ?_
 simp only[Lf,cu,cO]
def anj:=eL vn 141 G aBb d141 (λg=>V (Lf g.1 g.2.1))
def WT:EO anj:=λh=>kL (F:=asb) (an:=ao6) (l:=[(.skip,(.rb [] 4))]) func141 aP (aA aBi aH) h (c:=λg=>aE6 g.1 g.2.1)
def XJ:EP anj:=λh=>kP h
structure A4 where
 t0:List bf
 (t1 t5 t6:Int)
def QF:Td 0 A4:= .c [] [0,1,5,6] (.r 0 0 (ec 0 (ql 131) (ec 1 aN (ec 5 aN (ec 6 aN en)))) sn (λz=>⟨z.1.1,z.1.2.1,z.1.t.1,z.1.t.2.1⟩) (λx=>((x.t0,x.t1,x.t5,x.t6,()),(()))))
def LC(p:A4):af (af A4):=
 bif J (p.t6<zR p.t0)then if 0<=p.t6/\p.t6<zR p.t0 then bif bif J (p.t0[zD p.t6]!.bB=p.t1)then G else O then V (V (A4.mk p.t0 p.t1 p.t5 (ak (p.t6+1))))else if 0<=p.t6/\p.t6<zR p.t0 then if 0<=p.t6/\p.t6<zR p.t0 then bif J (4096<ak (p.t5*ak (ak (p.t0[zD p.t6]!.ag-p.t0[zD p.t6]!.ah)+1)))then V (I)else V (V (A4.mk p.t0 p.t1 (ak (p.t5*ak (ak (p.t0[zD p.t6]!.ag-p.t0[zD p.t6]!.ah)+1))) (ak (p.t6+1))))else I else I else I else V (I)
def Ln:=bJ (LC)
abbrev aAK:=Int
def d220:Td 0 aAK:= .c [] [4] (.r 0 0 (ec 4 aN en) sn (λz=>z.1.1) (λx=>((x,()),(()))))
def Yo(a0:aa bf)(a1:Int):af aAK:=
 match Ln (A4.mk a0 a1 1 0)with|I=>I|V r1=>bif J (r1.t6<zR r1.t0)then if 0<=r1.t6/\r1.t6<zR r1.t0 then bif bif J (r1.t0[zD r1.t6]!.bB=r1.t1)then G else O then I else if 0<=r1.t6/\r1.t6<zR r1.t0 then if 0<=r1.t6/\r1.t6<zR r1.t0 then bif J (4096<ak (r1.t5*ak (ak (r1.t0[zD r1.t6]!.ag-r1.t0[zD r1.t6]!.ah)+1)))then V 4097 else I else I else I else I else V (r1.t5)
def atX:=eL vn 220 G (lc (ql 131) (aS ln)) d220 (λg=>Yo g.1 g.2.1)
def agq:EO atX:=λh=>kL (an:=(noTwo (noTwo (.two (noTwo (QF.lp Ln .no)) .no)))) (l:=[(aY f220 0,(QF.lp Ln .no))]) func220 aP (aA (aO QF) aH) h
def XV:EP atX:=λh=>kP h
def azJ:bu:=(atX (anj (alP di)))
structure BU where
 t0:List bf
 (t3 t5:Int)
 b0:bf
def Qm:Td 0 BU:= .c [] [0,3,4,5] (.r 0 1 (ec 0 (ql 131) (ec 3 aN (ec 4 (qp 0 0) (ec 5 aN en)))) (sb 0 131 (lg 131) sn) (λz=>⟨z.1.1,z.1.2.1,z.1.t.2.1,z.2.1⟩) (λx=>((x.t0,x.t3,(),x.t5,()),(x.b0,()))))
def K2(p:BU):af (af BU):=
 bif J (p.t5<p.t3)then if 0<=p.t5/\p.t5<zR p.t0 then bif p.t0[zD p.t5]!.fName.toList==p.b0.fName.toList then V (I)else V (V (BU.mk p.t0 p.t3 (ak (p.t5+1)) p.b0))else I else V (I)
def F4:=bJ (K2)
structure Fe where
 t0:List bf
 t3:Int
def R9:Td 0 Fe:= .c [] [0,3] (.r 0 0 (ec 0 (ql 131) (ec 3 aN en)) sn (λz=>⟨z.1.1,z.1.2.1⟩) (λx=>((x.t0,x.t3,()),(()))))
def Bw(p:Fe):af (af Fe):=
 bif J (p.t3<zR p.t0)then if 0<=p.t3/\p.t3<zR p.t0 then match Th p.t0[zD p.t3]!.fName with|I=>I|V r1=>bif bif r1 then G else O then V (I)else match F4 (BU.mk p.t0 p.t3 0 p.t0[zD p.t3]!)with|I=>I|V r2=>bif J (r2.t5<r2.t3)then if 0<=r2.t5/\r2.t5<zR r2.t0 then bif r2.t0[zD r2.t5]!.fName.toList==r2.b0.fName.toList then V (I)else I else I else match bif bif J (r2.b0.bB=0)then G else O then bif bif J (r2.b0.bB=1)then G else O then bif bif J (r2.b0.bB=2)then G else O then V (bif J (r2.b0.bB=3)then G else O)else V G else V G else V G with|I=>I|V r3=>bif r3 then V (I)else bif bif Lf r2.b0.ah r2.b0.ag then G else O then V (I)else match bif J (r2.b0.bB=0)then bif J (r2.b0.eG<r2.b0.ah)then V O else bif J (r2.b0.ag<r2.b0.eG)then V O else bif bif J (r2.b0.bB=0)then G else O then V (bif J (r2.b0.eG=0)then G else O)else V G else bif bif J (r2.b0.bB=0)then G else O then V (bif J (r2.b0.eG=0)then G else O)else V G with|I=>I|V r4=>bif r4 then V (I)else V (V (Fe.mk r2.t0 (ak (r2.t3+1))))else I else V (I)
def acp:An:=(noTwo (.two (noTwo (noTwo (.two (noTwo (Qm.lp F4 .no)) (.two (.two (.rb [220] 50) .no) (noTwo (.two (.rb [220] 83) .no)))))) .no))
def JL:=bJ (Bw)
abbrev aCo:=Int
def d139:Td 0 aCo:= .c [] [2] (.r 0 0 (ec 2 aN en) sn (λz=>z.1.1) (λx=>((x,()),(()))))
def ad5:∀f∈([220]:aa Nat),bA (azJ) f:=(aA (XV (XJ (YA bF))) aH)
def alC(a0:aa bf):af aCo:=
 match JL (Fe.mk a0 0)with|I=>I|V r5=>bif J (r5.t3<zR r5.t0)then if 0<=r5.t3/\r5.t3<zR r5.t0 then match Th r5.t0[zD r5.t3]!.fName with|I=>I|V r6=>bif bif r6 then G else O then V 7 else match F4 (BU.mk r5.t0 r5.t3 0 r5.t0[zD r5.t3]!)with|I=>I|V r7=>bif J (r7.t5<r7.t3)then if 0<=r7.t5/\r7.t5<zR r7.t0 then bif r7.t0[zD r7.t5]!.fName.toList==r7.b0.fName.toList then V 8 else I else I else match bif bif J (r7.b0.bB=0)then G else O then bif bif J (r7.b0.bB=1)then G else O then bif bif J (r7.b0.bB=2)then G else O then V (bif J (r7.b0.bB=3)then G else O)else V G else V G else V G with|I=>I|V r8=>bif r8 then V 1 else bif bif Lf r7.b0.ah r7.b0.ag then G else O then V 3 else match bif J (r7.b0.bB=0)then bif J (r7.b0.eG<r7.b0.ah)then V O else bif J (r7.b0.ag<r7.b0.eG)then V O else bif bif J (r7.b0.bB=0)then G else O then V (bif J (r7.b0.eG=0)then G else O)else V G else bif bif J (r7.b0.bB=0)then G else O then V (bif J (r7.b0.eG=0)then G else O)else V G with|I=>I|V r9=>bif r9 then V 3 else I else I else match match Yo r5.t0 1with|I=>I|V r10=>bif J (4096<r10)then V O else match Yo r5.t0 2with|I=>I|V r11=>bif J (4096<r11)then V O else match Yo r5.t0 3with|I=>I|V r12=>V (J (256<r12))with|I=>I|V r13=>bif r13 then V 4 else V 0
def aBp:=eL vn 139 G (lc (ql 131) ln) d139 (λg=>alC g.1)
def aho:EO aBp:=λh=>kL (F:=azJ) (an:=(noTwo (.two (noTwo (R9.lp JL acp)) (.two (.two (.rb [220] 96) .no) .no)))) (l:=[(aY f139 0,(R9.lp JL acp)),(aY f139 1,(Qm.lp F4 .no)),(.skip,(.rb [220] 50)),(.skip,(.rb [220] 83)),(.skip,(.rb [220] 96))]) func139 (agq (WT (Wl aP))) (aA (aO R9) (aA (aO Qm) (aA ad5 (aA ad5 (aA ad5 aH))))) h
def aFE:bu:=di
abbrev aqj:=Int
def d270:Td 0 aqj:= .c [] [2] (.r 0 0 (ec 2 aN en) sn (λz=>z.1.1) (λx=>((x,()),(()))))
def axa:=(aS ln)
def an2:An:= .no
def GP(a0:Int):aqj:=
 bif J (a0=0)then 0 else bif J (a0=24)then 0 else bif J (a0=6)then 1 else bif J (a0=7)then 1 else bif J (a0=8)then 2 else bif J (a0=9)then 2 else bif J (a0=10)then 2 else bif J (a0=11)then 2 else bif J (a0=12)then 2 else bif J (a0=13)then 2 else bif J (a0=14)then 2 else bif J (a0=15)then 2 else bif J (a0=16)then 2 else bif J (a0=17)then 2 else bif J (a0=18)then 2 else bif J (a0=19)then 2 else bif J (a0=20)then 2 else bif J (a0=21)then 2 else bif J (a0=22)then 2 else bif J (a0=23)then 3 else bif J (a0=25)then-2 else-1
def aFf(a0:Int):bU vn (aFE) 300 (an2) 270 (axa.c (a0,())) [] 0 d270.rd=V (GP a0):=by
 refine Eq.trans (b:=(
  bif J (a0=0)then V (0)else bif J (a0=24)then V (0)else bif J (a0=6)then V (1)else bif J (a0=7)then V (1)else bif J (a0=8)then V (2)else bif J (a0=9)then V (2)else bif J (a0=10)then V (2)else bif J (a0=11)then V (2)else bif J (a0=12)then V (2)else bif J (a0=13)then V (2)else bif J (a0=14)then V (2)else bif J (a0=15)then V (2)else bif J (a0=16)then V (2)else bif J (a0=17)then V (2)else bif J (a0=18)then V (2)else bif J (a0=19)then V (2)else bif J (a0=20)then V (2)else bif J (a0=21)then V (2)else bif J (a0=22)then V (2)else bif J (a0=23)then V (3)else bif J (a0=25)then V (-2)else V (-1):af aqj)) aV ?_
 simp only[GP,cu,cO]
def aAj:=eL vn 270 G axa d270 (λg=>V (GP g.1))
def ajL:EO aAj:=λh=>kL (an:=an2) func270 aP aH h (c:=λg=>aFf g.1)
abbrev sN:=Bool
def d221:Td 0 sN:= .c [] [6] (.r 0 0 (ec 6 qb en) sn (λz=>z.1.1) (λx=>((x,()),(()))))
def atW:=(lc (ql 131) (lc (qg 137) (lc qb ln)))
def ato(M:(aa bf)->az->Bool->af sN):bu->bu:=eL vn 221 G atW d221 (λg=>M g.1 g.2.1 g.2.2.1)
def agz(M:(aa bf)->az->Bool->af sN):Prop:=HL vn 221 atW d221 (λg=>M g.1 g.2.1 g.2.2.1)
def VY{M:(aa bf)->az->Bool->af sN}(hM:agz M){F:bu}(h:bz vn F):bz vn (ato M F):=ep (sc:=pF) dh hM ⟨_,func221,aV,aV⟩ (λ_=>aV) (λ_=>aV) h
def akT(M221:(aa bf)->az->Bool->af sN):bu:=(aAj (ato M221 di))
def al6{M221}(h221:agz M221):bz vn (akT M221):=(ajL (VY h221 aP))
structure Ci where
 t0:List bf
 t2:Bool
 t8:Int
 b0:az
def Sh:Td 0 Ci:= .c [] [0,2,4,8] (.r 0 1 (ec 0 (ql 131) (ec 2 qb (ec 4 (qp 0 0) (ec 8 aN en)))) (sb 0 137 (lg 137) sn) (λz=>⟨z.1.1,z.1.2.1,z.1.t.2.1,z.2.1⟩) (λx=>((x.t0,x.t2,(),x.t8,()),(x.b0,()))))
def JX(M221:(aa bf)->az->Bool->af sN)(p:Ci):af (af Ci):=
 bif J (p.t8<zR p.b0.ax)then if 0<=p.t8/\p.t8<zR p.b0.ax then match M221 p.t0 (az.mk p.b0.ax[zD p.t8]!.bE p.b0.ax[zD p.t8]!.fN p.b0.ax[zD p.t8]!.ax) p.t2 with|I=>I|V r1=>bif bif r1 then G else O then V (I)else V (V (Ci.mk p.t0 p.t2 (ak (p.t8+1)) (az.mk p.b0.bE p.b0.fN p.b0.ax)))else I else V (I)
def D9(M221:(aa bf)->az->Bool->af sN):=bJ (JX M221)
def anv(M221:(aa bf)->az->Bool->af sN):An:=(noTwo (noTwo (.two (.two (.rb [] 40) .no) (.two (noTwo (.two (.two (.rb [] 65) .no) (.two (.rb [] 73) .no))) (.two (noTwo (Sh.lp (D9 M221) .no)) .no)))))
def ae0{M221}:∀f∈([]:aa Nat),bA (akT M221) f:=aH
def aBw(M221:(aa bf)->az->Bool->af sN):eX vn (akT M221) 0 300 221 (anv M221):=b6 (l:=[(.skip,(.rb [] 40)),(.skip,(.rb [] 65)),(.skip,(.rb [] 73)),(aY f221 0,(Sh.lp (D9 M221) .no))]) func221 (bN aV) aV (aA ae0 (aA ae0 (aA ae0 (aA (aO Sh) aH))))
def ai4(M221:(aa bf)->az->Bool->af sN)(a0:aa bf)(a1:az)(a2:Bool):af sN:=
 match bif J (GP a1.bE= -1)then V O else bif J (0<=GP a1.bE)then bif bif J (zR a1.ax=GP a1.bE)then G else O then V O else bif J (GP a1.bE= -2)then bif J ((zR a1.ax:Int)<2)then V O else V (J (33<(zR a1.ax:Int)))else V G else bif J (GP a1.bE= -2)then bif J ((zR a1.ax:Int)<2)then V O else V (J (33<(zR a1.ax:Int)))else V G with|I=>I|V r2=>bif r2 then V G else bif J (a1.bE=24)then match bif J (a1.fN<0)then V O else bif J (zR a0<=a1.fN)then V O else bif a2 then if 0<=a1.fN/\a1.fN<zR a0 then V (J (a0[a1.fN.toNat]!.bB=0))else I else V G with|I=>I|V r3=>bif r3 then V G else match D9 M221 (Ci.mk a0 a2 0 (az.mk a1.bE a1.fN a1.ax))with|I=>I|V r4=>bif J (r4.t8<zR r4.b0.ax)then if 0<=r4.t8/\r4.t8<zR r4.b0.ax then match M221 r4.t0 (az.mk r4.b0.ax[zD r4.t8]!.bE r4.b0.ax[zD r4.t8]!.fN r4.b0.ax[zD r4.t8]!.ax) r4.t2 with|I=>I|V r5=>bif bif r5 then G else O then V G else I else I else V O else match bif bif J (a1.bE=0)then G else O then V (bif J (a1.fN=0)then G else O)else V G with|I=>I|V r6=>bif r6 then V G else match D9 M221 (Ci.mk a0 a2 0 (az.mk a1.bE a1.fN a1.ax))with|I=>I|V r7=>bif J (r7.t8<zR r7.b0.ax)then if 0<=r7.t8/\r7.t8<zR r7.b0.ax then match M221 r7.t0 (az.mk r7.b0.ax[zD r7.t8]!.bE r7.b0.ax[zD r7.t8]!.fN r7.b0.ax[zD r7.t8]!.ax) r7.t2 with|I=>I|V r8=>bif bif r8 then G else O then V G else I else I else V O
def aHM(M221:(aa bf)->az->Bool->af sN)(a0:aa bf)(a1:az)(a2:Bool):bU vn (akT M221) 300 (anv M221) 221 (atW.c (a0,a1,a2,())) [] 0 d221.rd=ai4 M221 a0 a1 a2:=aV
def apW:Nat->((aa bf)->az->Bool->af sN)
 |0=>(λ_ _ _=>I)
 |n+1=>(ai4 (apW n))
def Sy(n:Nat):(aa bf)->az->Bool->af sN:=(apW n)
def Pp:∀n,agz (Sy n)
 |0=>λ_ _ h=>(by cases h)
 |n+1=>by
  have ih:=Pp n;have i221:=ih;exact(dR (al6 i221) (aBw (Sy n)) (λ_=>aV) (λ_=>aV) λg=>aHM (Sy n) g.1 g.2.1 g.2.2.1)
def ag7:(aa bf)->az->Bool->af sN:=λa0 a1 a2=>lim (λn=>Sy n a0 a1 a2)
def akk:agz ag7:=λg b h=>by
 obtain⟨n,hn⟩:=dA (show lim (λn=>Sy n g.1 g.2.1 g.2.2.1)=V b from h);exact(Pp n) g b hn
def aGl(F:bu):bu:=ato ag7 F
def akY{F:bu}(h:bz vn F):bz vn (aGl F):=VY akk h
def aFd:bu:=di
abbrev auZ:=Int
def d313:Td 0 auZ:= .c [] [2] (.r 0 0 (ec 2 aN en) sn (λz=>z.1.1) (λx=>((x,()),(()))))
def aBx:=(aS ln)
def anP:An:= .no
def BF(a0:Int):auZ:=
 bif J (a0<0)then ak (0-a0)else a0
def aEo(a0:Int):bU vn (aFd) 300 (anP) 313 (aBx.c (a0,())) [] 0 d313.rd=V (BF a0):=by
 refine Eq.trans (b:=(
  bif J (a0<0)then V (ak (0-a0))else V (a0):af auZ)) aV ?_
 simp only[BF,cu,cO]
def aeN:=eL vn 313 G aBx d313 (λg=>V (BF g.1))
def ai9:EO aeN:=λh=>kL (an:=anP) func313 aP aH h (c:=λg=>aEo g.1)
def aEv:bu:=(agr (Zl di))
abbrev atO:=Int×Int
def d314:Td 0 atO:= .c [] [4,5] (.r 0 0 (ec 4 aN (ec 5 aN en)) sn (λz=>(z.1.1,z.1.2.1)) (λx=>((x.1,x.2,()),(()))))
def av7:=(aS (aS ln))
def aoE:An:= .no
def aeI(a0:Int)(a1:Int):atO:=
 bif J (a0<0)then bif J (0<a1)then(jY (0) (ak (a0+1)),lF (0) (ak (a1-1)))else(jY (0) (ak (a0+1)),0)else bif J (0<a1)then(0,lF (0) (ak (a1-1)))else(0,0)
def aEY(a0:Int)(a1:Int):bU vn (aEv) 300 (aoE) 314 (av7.c (a0,a1,())) [] 0 d314.rd=V (aeI a0 a1):=by
 refine Eq.trans (b:=(
  bif J (a0<0)then bif J (0<a1)then V ((jY (0) (ak (a0+1)),lF (0) (ak (a1-1))))else V ((jY (0) (ak (a0+1)),0))else bif J (0<a1)then V ((0,lF (0) (ak (a1-1))))else V ((0,0)):af atO)) aV ?_
 simp only[aeI,cu,cO]
def azi:=eL vn 314 G av7 d314 (λg=>V (aeI g.1 g.2.1))
def afL:EO azi:=λh=>kL (an:=aoE) func314 (Ju (IS aP)) aH h (c:=λg=>aEY g.1 g.2.1)
def aCv:bu:=(azi (aeN (agr (Zl di))))
structure By where
 (t2 t3:List Int)
 (t15 t16 t17:Int)
def TS:Td 0 By:= .c [] [2,3,15,16,17] (.r 0 0 (ec 2 (ql 3) (ec 3 (ql 3) (ec 15 aN (ec 16 aN (ec 17 aN en))))) sn (λz=>⟨z.1.1,z.1.2.1,z.1.t.1,z.1.t.2.1,z.1.q.1⟩) (λx=>((x.t2,x.t3,x.t15,x.t16,x.t17,()),(()))))
def I7(p:By):af (af By):=
 bif J (p.t17<zR p.t2)then if 0<=p.t17/\p.t17<zR p.t2 then if 0<=p.t17/\p.t17<zR p.t3 then V (V (By.mk p.t2 p.t3 (jY p.t15 p.t2[zD p.t17]!) (lF p.t16 p.t3[zD p.t17]!) (ak (p.t17+1))))else I else I else V (I)
def DP:=bJ (I7)
abbrev aCr:=Int×Int
def d271:Td 0 aCr:= .c [] [8,9] (.r 0 0 (ec 8 aN (ec 9 aN en)) sn (λz=>(z.1.1,z.1.2.1)) (λx=>((x.1,x.2,()),(()))))
def anC:∀f∈([]:aa Nat),bA (aCv) f:=aH
def alp(a0:aa bf)(a1:az)(a2:aa Int)(a3:aa Int):af aCr:=
 bif J (a1.bE=0)then match bif J (a1.fN< -1048576)then V O else V (J (1048576<a1.fN))with|I=>I|V r1=>bif r1 then V (-1048577,1048577)else V (a1.fN,a1.fN)else bif J (a1.bE=24)then if 0<=a1.fN/\a1.fN<zR a0 then if 0<=a1.fN/\a1.fN<zR a0 then V (a0[a1.fN.toNat]!.ah,a0[a1.fN.toNat]!.ag)else I else I else bif J (a1.bE=6)then if(0:Int)<=(0:Int)/\(0:Int)<zR a3 then if(0:Int)<=(0:Int)/\(0:Int)<zR a2 then V ((ak (0-a3[0]!),ak (0-a2[0]!)))else I else I else bif J (a1.bE=8)then if(0:Int)<=(0:Int)/\(0:Int)<zR a2 then if(0:Int)<=(1:Int)/\(1:Int)<zR a2 then if(0:Int)<=(0:Int)/\(0:Int)<zR a3 then if(0:Int)<=(1:Int)/\(1:Int)<zR a3 then V ((ak (a2[0]! +a2[1]!),ak (a3[0]! +a3[1]!)))else I else I else I else I else bif J (a1.bE=9)then if(0:Int)<=(0:Int)/\(0:Int)<zR a2 then if(0:Int)<=(1:Int)/\(1:Int)<zR a3 then if(0:Int)<=(0:Int)/\(0:Int)<zR a3 then if(0:Int)<=(1:Int)/\(1:Int)<zR a2 then V ((ak (a2[0]! -a3[1]!),ak (a3[0]! -a2[1]!)))else I else I else I else I else bif J (a1.bE=10)then if(0:Int)<=(0:Int)/\(0:Int)<zR a2 then if(0:Int)<=(1:Int)/\(1:Int)<zR a2 then if(0:Int)<=(0:Int)/\(0:Int)<zR a2 then if(0:Int)<=(1:Int)/\(1:Int)<zR a3 then if(0:Int)<=(0:Int)/\(0:Int)<zR a3 then if(0:Int)<=(1:Int)/\(1:Int)<zR a2 then if(0:Int)<=(0:Int)/\(0:Int)<zR a3 then if(0:Int)<=(1:Int)/\(1:Int)<zR a3 then V ((jY (jY (ak (a2[0]! *a2[1]!)) (ak (a2[0]! *a3[1]!))) (jY (ak (a3[0]! *a2[1]!)) (ak (a3[0]! *a3[1]!))),lF (lF (ak (a2[0]! *a2[1]!)) (ak (a2[0]! *a3[1]!))) (lF (ak (a3[0]! *a2[1]!)) (ak (a3[0]! *a3[1]!)))))else I else I else I else I else I else I else I else I else bif J (a1.bE=11)then if(0:Int)<=(0:Int)/\(0:Int)<zR a2 then if(0:Int)<=(0:Int)/\(0:Int)<zR a3 then match if(0:Int)<=(0:Int)/\(0:Int)<zR a2 then bif J (0<=a2[zD 0]!)then if(0:Int)<=(1:Int)/\(1:Int)<zR a2 then V (J (0<=a2[zD 1]!))else I else V G else I with|I=>I|V r2=>bif r2 then V ((0,lF (BF a2[0]!) (BF a3[0]!)))else V ((ak (0-lF (BF a2[0]!) (BF a3[0]!)),lF (BF a2[0]!) (BF a3[0]!)))else I else I else bif J (a1.bE=12)then if(0:Int)<=(1:Int)/\(1:Int)<zR a2 then if(0:Int)<=(1:Int)/\(1:Int)<zR a3 then V (aeI a2[1]! a3[1]!)else I else I else bif J (a1.bE=21)then if(0:Int)<=(0:Int)/\(0:Int)<zR a2 then if(0:Int)<=(1:Int)/\(1:Int)<zR a2 then if(0:Int)<=(0:Int)/\(0:Int)<zR a3 then if(0:Int)<=(1:Int)/\(1:Int)<zR a3 then V (jY a2[0]! a2[1]!,jY a3[0]! a3[1]!)else I else I else I else I else bif J (a1.bE=22)then if(0:Int)<=(0:Int)/\(0:Int)<zR a2 then if(0:Int)<=(1:Int)/\(1:Int)<zR a2 then if(0:Int)<=(0:Int)/\(0:Int)<zR a3 then if(0:Int)<=(1:Int)/\(1:Int)<zR a3 then V (lF a2[0]! a2[1]!,lF a3[0]! a3[1]!)else I else I else I else I else bif J (a1.bE=23)then if(0:Int)<=(1:Int)/\(1:Int)<zR a2 then if(0:Int)<=(1:Int)/\(1:Int)<zR a3 then match DP (By.mk a2 a3 a2[1]! a3[1]! (2))with|I=>I|V r3=>bif J (r3.t17<zR r3.t2)then if 0<=r3.t17/\r3.t17<zR r3.t2 then if 0<=r3.t17/\r3.t17<zR r3.t3 then I else I else I else V (r3.t15,r3.t16)else I else I else bif J (a1.bE=25)then if(0:Int)<=(1:Int)/\(1:Int)<zR a2 then if(0:Int)<=(1:Int)/\(1:Int)<zR a3 then match DP (By.mk a2 a3 a2[1]! a3[1]! (2))with|I=>I|V r4=>bif J (r4.t17<zR r4.t2)then if 0<=r4.t17/\r4.t17<zR r4.t2 then if 0<=r4.t17/\r4.t17<zR r4.t3 then I else I else I else V (r4.t15,r4.t16)else I else I else V (0,1)
def azG:=eL vn 271 G (lc (ql 131) (lc (qg 137) (lc (ql 3) (lc (ql 3) ln)))) d271 (λg=>alp g.1 g.2.1 g.t.1 g.t.2.1)
def al0:EO azG:=λh=>kL (F:=aCv) (an:=(noTwo (.two (noTwo (noTwo (.two (.two (.two (.rb [] 29) .no) .no) (noTwo (noTwo (noTwo (noTwo (noTwo (noTwo (noTwo (noTwo (noTwo (noTwo (noTwo (.two (noTwo (.two (.two (.rb [] 154) .no) .no)) (noTwo (noTwo (noTwo (noTwo (noTwo (noTwo (noTwo (.two (noTwo (.two (noTwo (TS.lp DP .no)) .no)) .no))))))))))))))))))))))) .no))) (l:=[(.skip,(.rb [] 29)),(.skip,(.rb [] 154)),(aY f271 0,(TS.lp DP .no))]) func271 (afL (ai9 (Ju (IS aP)))) (aA anC (aA anC (aA (aO TS) aH))) h
abbrev sL:=Int×Int×Bool
def d222:Td 0 sL:= .c [] [4,5,6] (.r 0 0 (ec 4 aN (ec 5 aN (ec 6 qb en))) sn (λz=>(z.1.1,z.1.2.1,z.1.t.1)) (λx=>((x.1,x.2.1,x.t,()),(()))))
def aq6:=(lc (ql 131) (lc (qg 137) ln))
def aql(M:(aa bf)->az->af sL):bu->bu:=eL vn 222 G aq6 d222 (λg=>M g.1 g.2.1)
def akK(M:(aa bf)->az->af sL):Prop:=HL vn 222 aq6 d222 (λg=>M g.1 g.2.1)
def WK{M:(aa bf)->az->af sL}(hM:akK M){F:bu}(h:bz vn F):bz vn (aql M F):=ep (sc:=pF) dh hM ⟨_,func222,aV,aV⟩ (λ_=>aV) (λ_=>aV) h
def aqs(M222:(aa bf)->az->af sL):bu:=(azG (aql M222 di))
def ajT{M222}(h222:akK M222):bz vn (aqs M222):=(al0 (WK h222 aP))
structure F1 where
 t0:List bf
 (t7 t8:List Int)
 t9:Int
 b0:az
def SV:Td 0 F1:= .c [] [0,3,7,8,9] (.r 0 3 (ec 0 (ql 131) (ec 3 (qp 0 0) (ec 7 (qo 1) (ec 8 (qo 2) (ec 9 aN en))))) (sb 0 137 (lg 137) (sr 1 3 (sr 2 3 sn))) (λz=>⟨z.1.1,z.t.1,z.t.2.1,z.1.q.1,z.2.1⟩) (λx=>((x.t0,(),(),(),x.t9,()),(x.b0,x.t7,x.t8,()))))
def EW(M222:(aa bf)->az->af sL)(p:F1):af (af F1):=
 bif J (p.t9<zR p.b0.ax)then if 0<=p.t9/\p.t9<zR p.b0.ax then match M222 p.t0 (az.mk p.b0.ax[zD p.t9]!.bE p.b0.ax[zD p.t9]!.fN p.b0.ax[zD p.t9]!.ax)with|I=>I|V r1=>bif bif r1.snd.snd then G else O then V (I)else if(p.t7++[r1.fst]).length<=1073741824 then if(p.t8++[r1.snd.fst]).length<=1073741824 then V (V (F1.mk p.t0 (p.t7++[r1.fst]) (p.t8++[r1.snd.fst]) (ak (p.t9+1)) (az.mk p.b0.bE p.b0.fN p.b0.ax)))else I else I else I else V (I)
def Jo(M222:(aa bf)->az->af sL):=bJ (EW M222)
def apP(M222:(aa bf)->az->af sL):An:=(noTwo (noTwo (noTwo (.two (noTwo (SV.lp (Jo M222) .no)) .no))))
def ay7(M222:(aa bf)->az->af sL):eX vn (aqs M222) 0 300 222 (apP M222):=b6 (l:=[(aY f222 0,(SV.lp (Jo M222) .no))]) func222 (bN aV) aV (aA (aO SV) aH)
def afV(M222:(aa bf)->az->af sL)(a0:aa bf)(a1:az):af sL:=
 match Jo M222 (F1.mk a0 [] [] (0) (az.mk a1.bE a1.fN a1.ax))with|I=>I|V r2=>bif J (r2.t9<zR r2.b0.ax)then if 0<=r2.t9/\r2.t9<zR r2.b0.ax then match M222 r2.t0 (az.mk r2.b0.ax[zD r2.t9]!.bE r2.b0.ax[zD r2.t9]!.fN r2.b0.ax[zD r2.t9]!.ax)with|I=>I|V r3=>bif bif r3.snd.snd then G else O then V (0,0,G)else if(r2.t7++[r3.fst]).length<=1073741824 then if(r2.t8++[r3.snd.fst]).length<=1073741824 then I else I else I else I else match alp r2.t0 (az.mk r2.b0.bE r2.b0.fN r2.b0.ax) r2.t7 r2.t8 with|I=>I|V r4=>bif J (-1048576<=r4.fst)then V ((r4.fst,r4.snd,J (r4.snd<=1048576)))else V (r4.fst,r4.snd,G)
def aEs(M222:(aa bf)->az->af sL)(a0:aa bf)(a1:az):bU vn (aqs M222) 300 (apP M222) 222 (aq6.c (a0,a1,())) [] 0 d222.rd=afV M222 a0 a1:=aV
def aof:Nat->((aa bf)->az->af sL)
 |0=>(λ_ _=>I)
 |n+1=>(afV (aof n))
def Tm(n:Nat):(aa bf)->az->af sL:=(aof n)
def Ng:∀n,akK (Tm n)
 |0=>λ_ _ h=>(by cases h)
 |n+1=>by
  have ih:=Ng n;have i222:=ih;exact(dR (ajT i222) (ay7 (Tm n)) (λ_=>aV) (λ_=>aV) λg=>aEs (Tm n) g.1 g.2.1)
def ags:(aa bf)->az->af sL:=λa0 a1=>lim (λn=>Tm n a0 a1)
def al1:akK ags:=λg b h=>by
 obtain⟨n,hn⟩:=dA (show lim (λn=>Tm n g.1 g.2.1)=V b from h);exact(Ng n) g b hn
def aGe(F:bu):bu:=aql ags F
def ahX{F:bu}(h:bz vn F):bz vn (aGe F):=WK al1 h
abbrev axy:=Int
def d142:Td 0 axy:= .c [] [6] (.r 0 0 (ec 6 aN en) sn (λz=>z.1.1) (λx=>((x,()),(()))))
def Kt(a0:aa bf)(a1:az)(a2:Bool):af axy:=
 match ag7 a0 (az.mk a1.bE a1.fN a1.ax) a2 with|I=>I|V r1=>bif bif r1 then G else O then V (1)else match ags a0 (az.mk a1.bE a1.fN a1.ax)with|I=>I|V r2=>bif bif r2.snd.snd then G else O then V (3)else V (0)
def ak7:=eL vn 142 G (lc (ql 131) (lc (qg 137) (lc qb ln))) d142 (λg=>Kt g.1 g.2.1 g.t.1)
def Uh:EO ak7:=λh=>kL (an:= .no) func142 (ahX (akY aP)) aH h
def Za:EP ak7:=λh=>kP h
def avc:bu:=di
abbrev atU:=Bool
def d272:Td 0 atU:= .c [] [2] (.r 0 0 (ec 2 qb en) sn (λz=>z.1.1) (λx=>((x,()),(()))))
def ayy:=(lc (qg 137) ln)
def aoj:An:=(noTwo (.two (.rb [] 2) .no))
def axF:∀f∈([]:aa Nat),bA (avc) f:=aH
def Pt(a0:az):atU:=
 let r1:Bool:=bif J (a0.bE=0)then bif J (a0.fN=0)then J ((zR a0.ax:Int)=0)else G else G;r1
def aHT(a0:az):bU vn (avc) 300 (aoj) 272 (ayy.c (a0,())) [] 0 d272.rd=V (Pt a0):=by
 refine Eq.trans (b:=(
  match bif J (a0.bE=0)then bif J (a0.fN=0)then V (J ((zR a0.ax:Int)=0))else V (G)else V (G)with|I=>I|V r1=>V (r1):af atU)) aV ?_
 simp only[Pt,cu,cO]
def atI:=eL vn 272 G ayy d272 (λg=>V (Pt g.1))
def afo:EO atI:=λh=>kL (F:=avc) (an:=aoj) (l:=[(.skip,(.rb [] 2))]) func272 aP (aA axF aH) h (c:=λg=>aHT g.1)
def Hl:EP atI:=λh=>kP h
def ayP:bu:=di
structure Fa where
 t0:List Int
 t3:Int
def Tc:Td 0 Fa:= .c [] [0,3] (.r 0 0 (ec 0 (ql 3) (ec 3 aN en)) sn (λz=>⟨z.1.1,z.1.2.1⟩) (λx=>((x.t0,x.t3,()),(()))))
def J8(p:Fa):af (af Fa):=
 bif J (p.t3<zR p.t0)then if 0<=p.t3/\p.t3<zR p.t0 then if 0<=ak (p.t3-1)/\ak (p.t3-1)<zR p.t0 then bif J (((p.t0,p.t3,()),()).fst.fst[((p.t0,p.t3,()),()).fst.snd.fst.toNat]!<=((p.t0,p.t3,()),()).fst.fst[(ak (((p.t0,p.t3,()),()).fst.snd.fst-1)).toNat]!)then V (I)else V (V (Fa.mk p.t0 (ak (p.t3+1))))else I else I else V (I)
def J1:=bJ (J8)
abbrev azH:=Bool
def d273:Td 0 azH:= .c [] [2] (.r 0 0 (ec 2 qb en) sn (λz=>z.1.1) (λx=>((x,()),(()))))
def azy:∀f∈([]:aa Nat),bA (ayP) f:=aH
def amc(a0:aa Int):af azH:=
 match bif J ((zR a0:Int)<1)then V O else bif J (32<(zR a0:Int))then V O else if(0:Int)<=(0:Int)/\(0:Int)<zR a0 then V (J (a0[zD 0]! <0))else I with|I=>I|V r1=>bif r1 then V G else match J1 (Fa.mk a0 1)with|I=>I|V r2=>bif J (r2.t3<zR r2.t0)then if 0<=r2.t3/\r2.t3<zR r2.t0 then if 0<=ak (r2.t3-1)/\ak (r2.t3-1)<zR r2.t0 then bif J (((r2.t0,r2.t3,()),()).fst.fst[((r2.t0,r2.t3,()),()).fst.snd.fst.toNat]!<=((r2.t0,r2.t3,()),()).fst.fst[(ak (((r2.t0,r2.t3,()),()).fst.snd.fst-1)).toNat]!)then V G else I else I else I else V O
def arJ:=eL vn 273 G (lc (ql 3) ln) d273 (λg=>amc g.1)
def amV:EO arJ:=λh=>kL (F:=ayP) (an:=(noTwo (.two (.two (.rb [] 17) .no) (.two (noTwo (Tc.lp J1 .no)) .no)))) (l:=[(.skip,(.rb [] 17)),(aY f273 0,(Tc.lp J1 .no))]) func273 aP (aA azy (aA (aO Tc) aH)) h
def H9:EP arJ:=λh=>kP h
def axo:bu:=(arJ (atI di))
abbrev axO:=Bool
def d223:Td 0 axO:= .c [] [6] (.r 0 0 (ec 6 qb en) sn (λz=>z.1.1) (λx=>((x,()),(()))))
def vH:∀f∈([272,273]:aa Nat),bA (axo) f:=(aA (H9 (Hl bF)) (aA (H9 (Hl bF)) aH))
def RO(a0:aU)(a1:aB)(a2:Bool):af axO:=
 match bif J ((zR a1.aQ:Int)=0)then V (J ((zR a1.aW:Int)=0))else V G with|I=>I|V r1=>match bif J (0<=a1.dJ)then bif J (a1.dJ<zR a0.ai)then if 0<=a1.dJ/\a1.dJ<zR a0.ai then V (J (a0.ai[a1.dJ.toNat]!.bB=0))else I else V G else V G with|I=>I|V r2=>bif J (a1.cg=0)then match bif r1 then bif r2 then bif J (a1.fN=0)then V (J ((zR a1.aR:Int)=0))else V G else V G else V G with|I=>I|V r3=>V (r3)else bif J (a1.cg=1)then match bif r1 then bif J (a1.dJ=0)then bif J (a1.fN=0)then V (J ((zR a1.aR:Int)=0))else V G else V G else V G with|I=>I|V r4=>V (r4)else bif J (a1.cg=2)then match bif r1 then bif J (a1.dJ=0)then bif J (a1.fN=0)then bif J ((zR a1.aR:Int)=0)then V (Pt (az.mk a1.aG.bE a1.aG.fN a1.aG.ax))else V G else V G else V G else V G with|I=>I|V r5=>V (r5)else bif J (a1.cg=3)then match bif J (a1.dJ=0)then bif J (a1.fN=0)then V (J ((zR a1.aR:Int)=0))else V G else V G with|I=>I|V r6=>V (r6)else bif J (a1.cg=4)then match bif J (a1.dJ=0)then bif J ((zR a1.aW:Int)=0)then V (J ((zR a1.aR:Int)=0))else V G else V G with|I=>I|V r7=>V (r7)else bif J (a1.cg=5)then match bif r1 then bif r2 then bif J (0<=a1.fN)then bif J (a1.fN<zR a0.au)then bif J ((zR a1.aR:Int)=0)then V (Pt (az.mk a1.aG.bE a1.aG.fN a1.aG.ax))else V G else V G else V G else V G else V G with|I=>I|V r8=>V (r8)else bif J (a1.cg=6)then match bif r1 then bif a2 then bif J (a1.dJ=0)then bif J (a1.fN=0)then bif Pt (az.mk a1.aG.bE a1.aG.fN a1.aG.ax)then match amc a1.aR with|I=>I|V r9=>V (r9)else V G else V G else V G else V G else V G with|I=>I|V r10=>V (r10)else V G
def arI:=eL vn 223 G (lc (qg 26) (lc (qg 166) (lc qb ln))) d223 (λg=>RO g.1 g.2.1 g.t.1)
def afP:EO arI:=λh=>kL (F:=axo) (an:=(noTwo (.two (.rb [272,273] 7) (.two (.rb [272,273] 8) (.two (noTwo (noTwo (.two (.two (.rb [272,273] 6) .no) (noTwo (.two (.two (.rb [272,273] 6) .no) (noTwo (.two (.two (.rb [272,273] 6) .no) (noTwo (.two (.two (.rb [272,273] 6) .no) (noTwo (.two (.two (.rb [272,273] 6) .no) (noTwo (.two (.two (.rb [272,273] 6) .no) (noTwo (.two (.two (.rb [272,273] 6) .no) .no))))))))))))))) .no))))) (l:=[(.skip,(.rb [272,273] 7)),(.skip,(.rb [272,273] 8)),(.skip,(.rb [272,273] 6)),(.skip,(.rb [272,273] 6)),(.skip,(.rb [272,273] 6)),(.skip,(.rb [272,273] 6)),(.skip,(.rb [272,273] 6)),(.skip,(.rb [272,273] 6)),(.skip,(.rb [272,273] 6))]) func223 (amV (afo aP)) (aA vH (aA vH (aA vH (aA vH (aA vH (aA vH (aA vH (aA vH (aA vH aH))))))))) h
def YG:EP arI:=λh=>kP h
abbrev oG:=Int
def d143:Td 0 oG:= .c [] [6] (.r 0 0 (ec 6 aN en) sn (λz=>z.1.1) (λx=>((x,()),(()))))
def auM:=(lc (qg 26) (lc (ql 166) (lc qb ln)))
def agJ(M:aU->(aa aB)->Bool->af oG):bu->bu:=eL vn 143 G auM d143 (λg=>M g.1 g.2.1 g.2.2.1)
def YB{M:aU->(aa aB)->Bool->af oG}{F:bu}{f:Nat}(h:bA F f):bA (agJ M F) f:=gi h (λ_=>aV)
def alY(M:aU->(aa aB)->Bool->af oG):Prop:=HL vn 143 auM d143 (λg=>M g.1 g.2.1 g.2.2.1)
def Vc{M:aU->(aa aB)->Bool->af oG}(hM:alY M){F:bu}(h:bz vn F):bz vn (agJ M F):=ep (sc:=pF) dh hM ⟨_,func143,aV,aV⟩ (λ_=>aV) (λ_=>aV) h
def akN(M143:aU->(aa aB)->Bool->af oG):bu:=(arI (agJ M143 (ak7 di)))
def akJ{M143}(h143:alY M143):bz vn (akN M143):=(afP (Vc h143 (Uh aP)))
structure B7 where
 t1:List aB
 t2:Bool
 t7:Int
 b0:aU
def Q9:Td 0 B7:= .c [] [1,2,3,7] (.r 0 1 (ec 1 (ql 166) (ec 2 qb (ec 3 (qp 0 0) (ec 7 aN en)))) (sb 0 26 (lg 26) sn) (λz=>⟨z.1.1,z.1.2.1,z.1.t.2.1,z.2.1⟩) (λx=>((x.t1,x.t2,(),x.t7,()),(x.b0,()))))
def AR(M143:aU->(aa aB)->Bool->af oG)(p:B7):af (af B7):=
 bif J (p.t7<zR p.t1)then if 0<=p.t7/\p.t7<zR p.t1 then match bif p.t2 then match RO p.b0 (aB.mk p.t1[zD p.t7]!.cg p.t1[zD p.t7]!.bg p.t1[zD p.t7]!.dJ p.t1[zD p.t7]!.fN (az.mk p.t1[zD p.t7]!.aG.bE p.t1[zD p.t7]!.aG.fN p.t1[zD p.t7]!.aG.ax) p.t1[zD p.t7]!.aQ p.t1[zD p.t7]!.aW p.t1[zD p.t7]!.aR) (J (((p.t1,p.t2,(),p.t7,()),p.b0,()).fst.snd.snd.snd.fst=ak ((↑((p.t1,p.t2,(),p.t7,()),p.b0,()).fst.fst.length:Int)-1)))with|I=>I|V r1=>V (bif r1 then G else O)else match RO p.b0 (aB.mk p.t1[zD p.t7]!.cg p.t1[zD p.t7]!.bg p.t1[zD p.t7]!.dJ p.t1[zD p.t7]!.fN (az.mk p.t1[zD p.t7]!.aG.bE p.t1[zD p.t7]!.aG.fN p.t1[zD p.t7]!.aG.ax) p.t1[zD p.t7]!.aQ p.t1[zD p.t7]!.aW p.t1[zD p.t7]!.aR) G with|I=>I|V r2=>V (bif r2 then G else O)with|I=>I|V r3=>bif r3 then V (I)else bif J (p.t1[zD p.t7]!.cg=2)then match bif J (p.t1[zD p.t7]!.bg<0)then V O else bif J (67108864<p.t1[zD p.t7]!.bg)then V O else bif J (p.t1[zD p.t7]!.fN<0)then V O else bif J (p.t1[zD p.t7]!.cg=4)then V (J (4096<p.t1[zD p.t7]!.fN))else V G with|I=>I|V r4=>bif r4 then V (I)else match bif J (0<(↑p.t1[zD p.t7]!.aR.length:Int))then if 0<=ak ((↑p.t1[zD p.t7]!.aR.length:Int)-(1:Int))/\ak ((↑p.t1[zD p.t7]!.aR.length:Int)-(1:Int))<(↑p.t1[zD p.t7]!.aR.length:Int)then V (J (67108864<((p.t1,p.t2,(),p.t7,()),p.b0,()).fst.fst[((p.t1,p.t2,(),p.t7,()),p.b0,()).fst.snd.snd.snd.fst.toNat]!.aR[(ak ((↑((p.t1,p.t2,(),p.t7,()),p.b0,()).fst.fst[((p.t1,p.t2,(),p.t7,()),p.b0,()).fst.snd.snd.snd.fst.toNat]!.aR.length:Int)-1)).toNat]!))else I else V G with|I=>I|V r5=>bif r5 then V (I)else match Kt p.b0.ai (az.mk p.t1[zD p.t7]!.aG.bE p.t1[zD p.t7]!.aG.fN p.t1[zD p.t7]!.aG.ax) G with|I=>I|V r6=>bif bif J (r6=0)then G else O then V (I)else match M143 p.b0 p.t1[zD p.t7]!.aQ G with|I=>I|V r7=>bif bif J (r7=0)then G else O then V (I)else match M143 p.b0 p.t1[zD p.t7]!.aW G with|I=>I|V r8=>bif bif J (r8=0)then G else O then V (I)else V (V (B7.mk p.t1 p.t2 (ak (p.t7+1)) p.b0))else match bif J (p.t1[zD p.t7]!.bg<0)then V O else bif J (10000<p.t1[zD p.t7]!.bg)then V O else bif J (p.t1[zD p.t7]!.fN<0)then V O else bif J (p.t1[zD p.t7]!.cg=4)then V (J (4096<p.t1[zD p.t7]!.fN))else V G with|I=>I|V r9=>bif r9 then V (I)else match bif J (0<(↑p.t1[zD p.t7]!.aR.length:Int))then if 0<=ak ((↑p.t1[zD p.t7]!.aR.length:Int)-(1:Int))/\ak ((↑p.t1[zD p.t7]!.aR.length:Int)-(1:Int))<(↑p.t1[zD p.t7]!.aR.length:Int)then V (J (67108864<((p.t1,p.t2,(),p.t7,()),p.b0,()).fst.fst[((p.t1,p.t2,(),p.t7,()),p.b0,()).fst.snd.snd.snd.fst.toNat]!.aR[(ak ((↑((p.t1,p.t2,(),p.t7,()),p.b0,()).fst.fst[((p.t1,p.t2,(),p.t7,()),p.b0,()).fst.snd.snd.snd.fst.toNat]!.aR.length:Int)-1)).toNat]!))else I else V G with|I=>I|V r10=>bif r10 then V (I)else match Kt p.b0.ai (az.mk p.t1[zD p.t7]!.aG.bE p.t1[zD p.t7]!.aG.fN p.t1[zD p.t7]!.aG.ax) G with|I=>I|V r11=>bif bif J (r11=0)then G else O then V (I)else match M143 p.b0 p.t1[zD p.t7]!.aQ G with|I=>I|V r12=>bif bif J (r12=0)then G else O then V (I)else match M143 p.b0 p.t1[zD p.t7]!.aW G with|I=>I|V r13=>bif bif J (r13=0)then G else O then V (I)else V (V (B7.mk p.t1 p.t2 (ak (p.t7+1)) p.b0))else I else V (I)
def ace(M143:aU->(aa aB)->Bool->af oG):An:=(noTwo (.two (noTwo (.two (.two (.rb [223] 32) .no) (noTwo (noTwo (.two (.two (.rb [223] 59) .no) (.two (.two (.rb [223] 74) .no) .no)))))) .no))
def LH(M143:aU->(aa aB)->Bool->af oG):=bJ (AR M143)
def apM(M143:aU->(aa aB)->Bool->af oG):An:=(noTwo (.two (noTwo (Q9.lp (LH M143) (ace M143))) .no))
def acM{M143}:∀f∈([223]:aa Nat),bA (akN M143) f:=(aA (YG (YB (Za bF))) aH)
def aC7(M143:aU->(aa aB)->Bool->af oG):eX vn (akN M143) 0 300 143 (apM M143):=b6 (l:=[(aY f143 0,(Q9.lp (LH M143) (ace M143))),(.skip,(.rb [223] 32)),(.skip,(.rb [223] 59)),(.skip,(.rb [223] 74))]) func143 (bN aV) aV (aA (aO Q9) (aA acM (aA acM (aA acM aH))))
def akM(M143:aU->(aa aB)->Bool->af oG)(a0:aU)(a1:aa aB)(a2:Bool):af oG:=
 match LH M143 (B7.mk a1 a2 0 a0)with|I=>I|V r14=>bif J (r14.t7<zR r14.t1)then if 0<=r14.t7/\r14.t7<zR r14.t1 then match bif r14.t2 then match RO r14.b0 (aB.mk r14.t1[zD r14.t7]!.cg r14.t1[zD r14.t7]!.bg r14.t1[zD r14.t7]!.dJ r14.t1[zD r14.t7]!.fN (az.mk r14.t1[zD r14.t7]!.aG.bE r14.t1[zD r14.t7]!.aG.fN r14.t1[zD r14.t7]!.aG.ax) r14.t1[zD r14.t7]!.aQ r14.t1[zD r14.t7]!.aW r14.t1[zD r14.t7]!.aR) (J (((r14.t1,r14.t2,(),r14.t7,()),r14.b0,()).fst.snd.snd.snd.fst=ak ((↑((r14.t1,r14.t2,(),r14.t7,()),r14.b0,()).fst.fst.length:Int)-1)))with|I=>I|V r15=>V (bif r15 then G else O)else match RO r14.b0 (aB.mk r14.t1[zD r14.t7]!.cg r14.t1[zD r14.t7]!.bg r14.t1[zD r14.t7]!.dJ r14.t1[zD r14.t7]!.fN (az.mk r14.t1[zD r14.t7]!.aG.bE r14.t1[zD r14.t7]!.aG.fN r14.t1[zD r14.t7]!.aG.ax) r14.t1[zD r14.t7]!.aQ r14.t1[zD r14.t7]!.aW r14.t1[zD r14.t7]!.aR) G with|I=>I|V r16=>V (bif r16 then G else O)with|I=>I|V r17=>bif r17 then V 1 else bif J (r14.t1[zD r14.t7]!.cg=2)then match bif J (r14.t1[zD r14.t7]!.bg<0)then V O else bif J (67108864<r14.t1[zD r14.t7]!.bg)then V O else bif J (r14.t1[zD r14.t7]!.fN<0)then V O else bif J (r14.t1[zD r14.t7]!.cg=4)then V (J (4096<r14.t1[zD r14.t7]!.fN))else V G with|I=>I|V r18=>bif r18 then V 3 else match bif J (0<(↑r14.t1[zD r14.t7]!.aR.length:Int))then if 0<=ak ((↑r14.t1[zD r14.t7]!.aR.length:Int)-(1:Int))/\ak ((↑r14.t1[zD r14.t7]!.aR.length:Int)-(1:Int))<(↑r14.t1[zD r14.t7]!.aR.length:Int)then V (J (67108864<((r14.t1,r14.t2,(),r14.t7,()),r14.b0,()).fst.fst[((r14.t1,r14.t2,(),r14.t7,()),r14.b0,()).fst.snd.snd.snd.fst.toNat]!.aR[(ak ((↑((r14.t1,r14.t2,(),r14.t7,()),r14.b0,()).fst.fst[((r14.t1,r14.t2,(),r14.t7,()),r14.b0,()).fst.snd.snd.snd.fst.toNat]!.aR.length:Int)-1)).toNat]!))else I else V G with|I=>I|V r19=>bif r19 then V 3 else match Kt r14.b0.ai (az.mk r14.t1[zD r14.t7]!.aG.bE r14.t1[zD r14.t7]!.aG.fN r14.t1[zD r14.t7]!.aG.ax) G with|I=>I|V r20=>bif bif J (r20=0)then G else O then V (r20)else match M143 r14.b0 r14.t1[zD r14.t7]!.aQ G with|I=>I|V r21=>bif bif J (r21=0)then G else O then V (r21)else match M143 r14.b0 r14.t1[zD r14.t7]!.aW G with|I=>I|V r22=>bif bif J (r22=0)then G else O then V (r22)else I else match bif J (r14.t1[zD r14.t7]!.bg<0)then V O else bif J (10000<r14.t1[zD r14.t7]!.bg)then V O else bif J (r14.t1[zD r14.t7]!.fN<0)then V O else bif J (r14.t1[zD r14.t7]!.cg=4)then V (J (4096<r14.t1[zD r14.t7]!.fN))else V G with|I=>I|V r23=>bif r23 then V 3 else match bif J (0<(↑r14.t1[zD r14.t7]!.aR.length:Int))then if 0<=ak ((↑r14.t1[zD r14.t7]!.aR.length:Int)-(1:Int))/\ak ((↑r14.t1[zD r14.t7]!.aR.length:Int)-(1:Int))<(↑r14.t1[zD r14.t7]!.aR.length:Int)then V (J (67108864<((r14.t1,r14.t2,(),r14.t7,()),r14.b0,()).fst.fst[((r14.t1,r14.t2,(),r14.t7,()),r14.b0,()).fst.snd.snd.snd.fst.toNat]!.aR[(ak ((↑((r14.t1,r14.t2,(),r14.t7,()),r14.b0,()).fst.fst[((r14.t1,r14.t2,(),r14.t7,()),r14.b0,()).fst.snd.snd.snd.fst.toNat]!.aR.length:Int)-1)).toNat]!))else I else V G with|I=>I|V r24=>bif r24 then V 3 else match Kt r14.b0.ai (az.mk r14.t1[zD r14.t7]!.aG.bE r14.t1[zD r14.t7]!.aG.fN r14.t1[zD r14.t7]!.aG.ax) G with|I=>I|V r25=>bif bif J (r25=0)then G else O then V (r25)else match M143 r14.b0 r14.t1[zD r14.t7]!.aQ G with|I=>I|V r26=>bif bif J (r26=0)then G else O then V (r26)else match M143 r14.b0 r14.t1[zD r14.t7]!.aW G with|I=>I|V r27=>bif bif J (r27=0)then G else O then V (r27)else I else I else V 0
def aFM(M143:aU->(aa aB)->Bool->af oG)(a0:aU)(a1:aa aB)(a2:Bool):bU vn (akN M143) 300 (apM M143) 143 (auM.c (a0,a1,a2,())) [] 0 d143.rd=akM M143 a0 a1 a2:=aV
def anL:Nat->(aU->(aa aB)->Bool->af oG)
 |0=>(λ_ _ _=>I)
 |n+1=>(akM (anL n))
def Ti(n:Nat):aU->(aa aB)->Bool->af oG:=(anL n)
def Qb:∀n,alY (Ti n)
 |0=>λ_ _ h=>(by cases h)
 |n+1=>by
  have ih:=Qb n;have i143:=ih;exact(dR (akJ i143) (aC7 (Ti n)) (λ_=>aV) (λ_=>aV) λg=>aFM (Ti n) g.1 g.2.1 g.2.2.1)
def ahp:aU->(aa aB)->Bool->af oG:=λa0 a1 a2=>lim (λn=>Ti n a0 a1 a2)
def ahU:alY ahp:=λg b h=>by
 obtain⟨n,hn⟩:=dA (show lim (λn=>Ti n g.1 g.2.1 g.2.2.1)=V b from h);exact(Qb n) g b hn
def awS(F:bu):bu:=agJ ahp F
def aha{F:bu}(h:bz vn F):bz vn (awS F):=Vc ahU h
def F78:bu:=(awS (ak7 (anj (alP (aBp (awO (e90 di)))))))
structure It where
 (t4 t6:Int)
 b0:aU
 b1:dD
def aah:Td 0 It:= .c [] [1,4,5,6] (.r 0 2 (ec 1 (qp 0 0) (ec 4 aN (ec 5 (qp 1 0) (ec 6 aN en)))) (sb 0 26 (lg 26) (sb 1 139 (lg 139) sn)) (λz=>⟨z.1.2.1,z.1.t.2.1,z.2.1,z.t.1⟩) (λx=>(((),x.t4,(),x.t6,()),(x.b0,x.b1,()))))
def UM(p:It):af (af It):=
 bif J (p.t6<p.t4)then if 0<=p.t6/\p.t6<zR p.b0.au then bif p.b0.au[zD p.t6]!.fName.toList==p.b1.fName.toList then V (I)else V (V (It.mk p.t4 (ak (p.t6+1)) p.b0 (dD.mk p.b1.fName p.b1.ah p.b1.ag (az.mk p.b1.aG.bE p.b1.aG.fN p.b1.aG.ax))))else I else V (I)
def MZ:=bJ (UM)
structure Nk where
 t4:Int
 b0:aU
def acT:Td 0 Nk:= .c [] [1,4] (.r 0 1 (ec 1 (qp 0 0) (ec 4 aN en)) (sb 0 26 (lg 26) sn) (λz=>⟨z.1.2.1,z.2.1⟩) (λx=>(((),x.t4,()),(x.b0,()))))
def HZ(p:Nk):af (af Nk):=
 bif J (p.t4<zR p.b0.au)then if 0<=p.t4/\p.t4<zR p.b0.au then match Th p.b0.au[zD p.t4]!.fName with|I=>I|V r1=>bif bif r1 then G else O then V (I)else match MZ (It.mk p.t4 0 p.b0 (dD.mk p.b0.au[zD p.t4]!.fName p.b0.au[zD p.t4]!.ah p.b0.au[zD p.t4]!.ag (az.mk p.b0.au[zD p.t4]!.aG.bE p.b0.au[zD p.t4]!.aG.fN p.b0.au[zD p.t4]!.aG.ax)))with|I=>I|V r2=>bif J (r2.t6<r2.t4)then if 0<=r2.t6/\r2.t6<zR r2.b0.au then bif r2.b0.au[zD r2.t6]!.fName.toList==r2.b1.fName.toList then V (I)else I else I else bif bif Lf r2.b1.ah r2.b1.ag then G else O then V (I)else match Kt r2.b0.ai (az.mk r2.b1.aG.bE r2.b1.aG.fN r2.b1.aG.ax) O with|I=>I|V r3=>bif bif J (r3=0)then G else O then V (I)else V (V (Nk.mk (ak (r2.t4+1)) r2.b0))else I else V (I)
def aor:An:=(noTwo (.two (noTwo (noTwo (.two (noTwo (aah.lp MZ .no)) .no))) .no))
def UZ:=bJ (HZ)
abbrev E78:=Int
def d78:Td 0 E78:= .c [] [2] (.r 0 0 (ec 2 aN en) sn (λz=>z.1.1) (λx=>((x,()),(()))))
def aH6:∀f∈([]:aa Nat),bA (F78) f:=aH
def m78(a0:aU):af E78:=
 match ahL a0 with|I=>I|V r4=>bif bif r4 then G else O then V 4 else match alC a0.ai with|I=>I|V r5=>bif bif J (r5=0)then G else O then V (r5)else match UZ (Nk.mk 0 a0)with|I=>I|V r6=>bif J (r6.t4<zR r6.b0.au)then if 0<=r6.t4/\r6.t4<zR r6.b0.au then match Th r6.b0.au[zD r6.t4]!.fName with|I=>I|V r7=>bif bif r7 then G else O then V 7 else match MZ (It.mk r6.t4 0 r6.b0 (dD.mk r6.b0.au[zD r6.t4]!.fName r6.b0.au[zD r6.t4]!.ah r6.b0.au[zD r6.t4]!.ag (az.mk r6.b0.au[zD r6.t4]!.aG.bE r6.b0.au[zD r6.t4]!.aG.fN r6.b0.au[zD r6.t4]!.aG.ax)))with|I=>I|V r8=>bif J (r8.t6<r8.t4)then if 0<=r8.t6/\r8.t6<zR r8.b0.au then bif r8.b0.au[zD r8.t6]!.fName.toList==r8.b1.fName.toList then V 8 else I else I else bif bif Lf r8.b1.ah r8.b1.ag then G else O then V 3 else match Kt r8.b0.ai (az.mk r8.b1.aG.bE r8.b1.aG.fN r8.b1.aG.ax) O with|I=>I|V r9=>bif bif J (r9=0)then G else O then V (r9)else I else I else match ahp r6.b0 r6.b0.bM O with|I=>I|V r10=>bif bif J (r10=0)then G else O then V (r10)else match r90 r6.b0.bM with|I=>I|V r11=>match bif J (4096<r11.fst)then V O else bif J (8<r11.snd.fst)then V O else V (J (67108864<r11.snd.snd))with|I=>I|V r12=>bif r12 then V 4 else V 0
def e78:=eL vn 78 G (lc (qg 26) ln) d78 (λg=>m78 g.1)
def ad4:EO e78:=λh=>kL (F:=F78) (an:=(noTwo (noTwo (noTwo (noTwo (.two (noTwo (acT.lp UZ aor)) (noTwo (noTwo (noTwo (.two (.two (.rb [] 86) .no) .no)))))))))) (l:=[(aY f78 0,(acT.lp UZ aor)),(aY f78 1,(aah.lp MZ .no)),(.skip,(.rb [] 86))]) func78 (aha (Uh (WT (Wl (aho (afH (aaX aP))))))) (aA (aO acT) (aA (aO aah) (aA aH6 aH))) h
def uT:EP e78:=λh=>kP h
def aCI:bu:=di
abbrev axB:=aL
def d103:Td 0 axB:= .c [] [0] (.r 0 1 (ec 0 (qp 0 0) en) (sb 0 34 (lg 34) sn) (λz=>z.2.1) (λx=>(((),()),(x,()))))
def aAm:=ln
def apV:An:= .no
def qM:axB:=
 aL.mk (1) (0) (0)
def aEM:bU vn (aCI) 300 (apV) 103 (aAm.c ()) [] 0 d103.rd=V (qM):=aV
def Lm:=eL vn 103 G aAm d103 (λ_=>V (qM))
def lu:EO Lm:=λh=>kL (F:=aCI) (an:=apV) func103 aP aH h (c:=λ_=>aEM)
def je:EP Lm:=λh=>kP h
def arB:bu:=di
abbrev asA:=Bool
def d162:Td 0 asA:= .c [] [2] (.r 0 0 (ec 2 qb en) sn (λz=>z.1.1) (λx=>((x,()),(()))))
def awz:=(aS ln)
def anw:An:=(noTwo (.two (.rb [] 2) .no))
def ax7:∀f∈([]:aa Nat),bA (arB) f:=aH
def oC(a0:Int):asA:=
 let r1:Bool:=bif J (-1099511627776<=a0)then J (a0<=1099511627776)else G;r1
def aGX(a0:Int):bU vn (arB) 300 (anw) 162 (awz.c (a0,())) [] 0 d162.rd=V (oC a0):=by
 refine Eq.trans (b:=(
  match bif J (-1099511627776<=a0)then V (J (a0<=1099511627776))else V (G)with|I=>I|V r1=>V (r1):af asA)) aV ?_
 simp only[oC,cu,cO]
def adt:=eL vn 162 G awz d162 (λg=>V (oC g.1))
def sI:EO adt:=λh=>kL (F:=arB) (an:=anw) (l:=[(.skip,(.rb [] 2))]) func162 aP (aA ax7 aH) h (c:=λg=>aGX g.1)
def B8:EP adt:=λh=>kP h
def F84:bu:=(adt (Lm di))
abbrev E84:=Bool
def d84:Td 0 E84:= .c [] [2] (.r 0 0 (ec 2 qb en) sn (λz=>z.1.1) (λx=>((x,()),(()))))
def axh:∀f∈([162]:aa Nat),bA (F84) f:=(aA (B8 (je bF)) aH)
def ZN(a0:aL):af E84:=
 bif bif J (a0.ah=qM.ah)then bif J (a0.ag=qM.ag)then bif J (a0.aj=qM.aj)then O else G else G else G then V O else match bif bif oC a0.ah then G else O then V O else V (bif oC a0.ag then G else O)with|I=>I|V r1=>bif r1 then V G else bif J (a0.ah=a0.ag)then V (J (a0.aj=0))else match bif J (a0.ah<a0.ag)then bif J (1<=a0.aj)then if¬a0.aj=0then V (J ((ak (a0.ag-a0.ah)).tmod a0.aj=0))else I else V G else V G with|I=>I|V r2=>V (r2)
def e84:=eL vn 84 G (lc (qg 34) ln) d84 (λg=>ZN g.1)
def tN:EO e84:=λh=>kL (F:=F84) (an:=(noTwo (noTwo (.two (.two (.rb [162] 15) .no) (noTwo (.two (.rb [162] 2) .no)))))) (l:=[(.skip,(.rb [162] 15)),(.skip,(.rb [162] 2))]) func84 (sI (lu aP)) (aA axh (aA axh aH)) h
def iL:EP e84:=λh=>kP h
def F32:bu:=(e84 di)
abbrev E32:=Bool
def d32:Td 0 E32:= .c [] [4] (.r 0 0 (ec 4 qb en) sn (λz=>z.1.1) (λx=>((x,()),(()))))
def pu32:∀f∈([84]:aa Nat),bA (F32) f:=(aA (iL bF) aH)
def m32(a0:aL)(a1:Int):af E32:=
 match match ZN a0 with|I=>I|V r1=>bif bif r1 then G else O then V O else bif J (a1<a0.ah)then V O else V (J (a0.ag<a1))with|I=>I|V r2=>bif r2 then V G else match bif J (a0.aj=0)then V O else if¬a0.aj=0then V (J ((ak (a1-a0.ah)).tmod a0.aj=0))else I with|I=>I|V r3=>V (r3)
def e32:=eL vn 32 G (lc (qg 34) (aS ln)) d32 (λg=>m32 g.1 g.2.1)
def Gy:EO e32:=λh=>kL (F:=F32) (an:=(noTwo (.two (.two (.rb [84] 19) .no) (.two (.rb [84] 4) .no)))) (l:=[(.skip,(.rb [84] 19)),(.skip,(.rb [84] 4))]) func32 (tN aP) (aA pu32 (aA pu32 aH)) h
def aan:EP e32:=λh=>kP h
abbrev E36:=aL
def d36:Td 0 E36:= .c [] [2] (.r 0 1 (ec 2 (qp 0 0) en) (sb 0 34 (lg 34) sn) (λz=>z.2.1) (λx=>(((),()),(x,()))))
def m36(a0:Int):E36:=
 aL.mk a0 a0 (0)
def e36:=eL vn 36 G (aS ln) d36 (λg=>V (m36 g.1))
def KQ:EO e36:=λh=>kL (an:= .no) func36 aP aH h
def awT:bu:=(adt (Lm di))
abbrev axW:=aL×Int
def d101:Td 0 axW:= .c [] [6,7] (.r 0 1 (ec 6 (qp 0 0) (ec 7 aN en)) (sb 0 34 (lg 34) sn) (λz=>(z.2.1,z.1.2.1)) (λx=>(((),x.2,()),(x.1,()))))
def aAA:∀f∈([162]:aa Nat),bA (awT) f:=(aA (B8 (je bF)) aH)
def jB(a0:Int)(a1:Int)(a2:Int):af axW:=
 match bif bif oC a0 then G else O then V O else bif bif oC a1 then G else O then V O else V (J (a2<1))with|I=>I|V r1=>bif r1 then V (aL.mk 0 0 0,3)else bif J (a1<a0)then V (qM,0)else if¬a2=0then bif J (a0=ak (a0+ak (ak ((ak (a1-a0)).tdiv a2)*a2)))then V ((aL.mk a0 (ak (a0+ak (ak ((ak (a1-a0)).tdiv a2)*a2))) 0,0))else V ((aL.mk a0 (ak (a0+ak (ak ((ak (a1-a0)).tdiv a2)*a2))) a2,0))else I
def Zq:=eL vn 101 G (aS (aS (aS ln))) d101 (λg=>jB g.1 g.2.1 g.t.1)
def DC:EO Zq:=λh=>kL (F:=awT) (an:=(noTwo (.two (.two (.rb [162] 19) .no) .no))) (l:=[(.skip,(.rb [162] 19))]) func101 (sI (lu aP)) (aA aAA aH) h
def nV:EP Zq:=λh=>kP h
abbrev azs:=Bool
def d102:Td 0 azs:= .c [] [2] (.r 0 0 (ec 2 qb en) sn (λz=>z.1.1) (λx=>((x,()),(()))))
def lR(a0:aL):azs:=
 J (a0.ag<a0.ah)
def Mq:=eL vn 102 G (lc (qg 34) ln) d102 (λg=>V (lR g.1))
def mK:EO Mq:=λh=>kL (an:= .no) func102 aP aH h
def iu:EP Mq:=λh=>kP h
def F41:bu:=(Lm (Mq (Zq di)))
abbrev E41:=aL
def d41:Td 0 E41:= .c [] [4] (.r 0 1 (ec 4 (qp 0 0) en) (sb 0 34 (lg 34) sn) (λz=>z.2.1) (λx=>(((),()),(x,()))))
def aEt:∀f∈([102]:aa Nat),bA (F41) f:=(aA (je (iu (nV bF))) aH)
def m41(a0:aL)(a1:Int):af E41:=
 match bif lR a0 then V (O)else V (J (a1<a0.ah))with|I=>I|V r1=>bif r1 then V (qM)else bif J (a0.ag<=a1)then V (a0)else match jB a0.ah a1 a0.aj with|I=>I|V r2=>V (r2.fst)
def e41:=eL vn 41 G (lc (qg 34) (aS ln)) d41 (λg=>m41 g.1 g.2.1)
def aaS:EO e41:=λh=>kL (F:=F41) (an:=(noTwo (.two (.two (.rb [102] 14) .no) .no))) (l:=[(.skip,(.rb [102] 14))]) func41 (lu (mK (DC aP))) (aA aEt aH) h
def Ad:EP e41:=λh=>kP h
def F42:bu:=(Lm (Mq (Zq di)))
abbrev E42:=aL
def d42:Td 0 E42:= .c [] [4] (.r 0 1 (ec 4 (qp 0 0) en) (sb 0 34 (lg 34) sn) (λz=>z.2.1) (λx=>(((),()),(x,()))))
def aE3:∀f∈([102]:aa Nat),bA (F42) f:=(aA (je (iu (nV bF))) aH)
def ZM(a0:aL)(a1:Int):af E42:=
 match bif lR a0 then V O else V (J (a0.ag<=a1))with|I=>I|V r1=>bif r1 then V (qM)else bif J (a1<a0.ah)then V (a0)else if¬a0.aj=0then match jB (ak (a0.ah+ak (ak (ak ((ak (a1-a0.ah)).tdiv a0.aj)+1)*a0.aj))) a0.ag a0.aj with|I=>I|V r2=>V (r2.fst)else I
def e42:=eL vn 42 G (lc (qg 34) (aS ln)) d42 (λg=>ZM g.1 g.2.1)
def Sg:EO e42:=λh=>kL (F:=F42) (an:=(noTwo (.two (.two (.rb [102] 14) .no) .no))) (l:=[(.skip,(.rb [102] 14))]) func42 (lu (mK (DC aP))) (aA aE3 aH) h
def uZ:EP e42:=λh=>kP h
structure ow where
 (t0 t1:Int)
def Qr:Td 0 ow:= .c [] [0,1] (.r 0 0 (ec 0 aN (ec 1 aN en)) sn (λz=>⟨z.1.1,z.1.2.1⟩) (λx=>((x.t0,x.t1,()),(()))))
def tO(p:ow):af (af ow):=
 bif bif J (p.t1=0)then G else O then if¬p.t1=0then V (V (ow.mk p.t1 (p.t0.tmod p.t1)))else I else V (I)
def Fk:=bJ (tO)
abbrev ayE:=Int
def d239:Td 0 ayE:= .c [] [4] (.r 0 0 (ec 4 aN en) sn (λz=>z.1.1) (λx=>((x,()),(()))))
def CT(a0:Int)(a1:Int):af ayE:=
 match Fk (ow.mk a0 a1)with|I=>I|V r1=>bif bif J (r1.t1=0)then G else O then if¬r1.t1=0then I else I else V (r1.t0)
def aqn:=eL vn 239 G (aS (aS ln)) d239 (λg=>CT g.1 g.2.1)
def Lx:EO aqn:=λh=>kL (an:=(noTwo (.two (Qr.lp Fk .no) .no))) (l:=[(aY f239 0,(Qr.lp Fk .no))]) func239 aP (aA (aO Qr) aH) h
def YI:EP aqn:=λh=>kP h
def aHX:bu:=di
abbrev arA:=Int
def d240:Td 0 arA:= .c [] [4] (.r 0 0 (ec 4 aN en) sn (λz=>z.1.1) (λx=>((x,()),(()))))
def aAO:=(aS (aS ln))
def ao7:An:= .no
def jm(a0:Int)(a1:Int):arA:=
 bif J (a0<a1)then ak (a1-a0)else ak (a0-a1)
def aHq(a0:Int)(a1:Int):bU vn (aHX) 300 (ao7) 240 (aAO.c (a0,a1,())) [] 0 d240.rd=V (jm a0 a1):=by
 refine Eq.trans (b:=(
  bif J (a0<a1)then V (ak (a1-a0))else V (ak (a0-a1)):af arA)) aV ?_
 simp only[jm,cu,cO]
def adD:=eL vn 240 G aAO d240 (λg=>V (jm g.1 g.2.1))
def vV:EO adD:=λh=>kL (an:=ao7) func240 aP aH h (c:=λg=>aHq g.1 g.2.1)
def nI:EP adD:=λh=>kP h
structure jX where
 t0:List Int
 t6:Int
 (b0 b1:aL)
def Ud:Td 0 jX:= .c [] [0,2,5,6] (.r 0 2 (ec 0 (ql 3) (ec 2 (qp 0 0) (ec 5 (qp 1 0) (ec 6 aN en)))) (sb 0 34 (lg 34) (sb 1 34 (lg 34) sn)) (λz=>⟨z.1.1,z.1.t.2.1,z.2.1,z.t.1⟩) (λx=>((x.t0,(),(),x.t6,()),(x.b0,x.b1,()))))
def tD(p:jX):af (af jX):=
 bif J (p.t6<zR p.t0)then if 0<=p.t6/\p.t6<zR p.t0 then if(0:Int)<=(0:Int)/\(0:Int)<zR p.t0 then match CT p.b1.aj (jm p.t0[zD p.t6]! p.t0[0]!)with|I=>I|V r1=>if 0<=p.t6/\p.t6<zR p.t0 then bif J (((p.t0,(),(),p.t6,()),p.b0,p.b1,()).fst.fst[((p.t0,(),(),p.t6,()),p.b0,p.b1,()).fst.snd.snd.snd.fst.toNat]! <((p.t0,(),(),p.t6,()),p.b0,p.b1,()).snd.snd.fst.ah)then if 0<=p.t6/\p.t6<zR p.t0 then if 0<=p.t6/\p.t6<zR p.t0 then bif J (((p.t0,(),(),p.t6,()),p.b0,p.b1,()).snd.snd.fst.ag<((p.t0,(),(),p.t6,()),p.b0,p.b1,()).fst.fst[((p.t0,(),(),p.t6,()),p.b0,p.b1,()).fst.snd.snd.snd.fst.toNat]!)then if 0<=p.t6/\p.t6<zR p.t0 then V (V (jX.mk p.t0 (ak (p.t6+1)) p.b0 (aL.mk p.t0[zD p.t6]! p.t0[zD p.t6]! r1)))else I else V (V (jX.mk p.t0 (ak (p.t6+1)) p.b0 (aL.mk p.t0[zD p.t6]! p.b1.ag r1)))else I else I else if 0<=p.t6/\p.t6<zR p.t0 then bif J (((p.t0,(),(),p.t6,()),p.b0,p.b1,()).snd.snd.fst.ag<((p.t0,(),(),p.t6,()),p.b0,p.b1,()).fst.fst[((p.t0,(),(),p.t6,()),p.b0,p.b1,()).fst.snd.snd.snd.fst.toNat]!)then if 0<=p.t6/\p.t6<zR p.t0 then V (V (jX.mk p.t0 (ak (p.t6+1)) p.b0 (aL.mk p.b1.ah p.t0[zD p.t6]! r1)))else I else V (V (jX.mk p.t0 (ak (p.t6+1)) p.b0 (aL.mk p.b1.ah p.b1.ag r1)))else I else I else I else I else V (I)
def Jl:=bJ (tD)
structure pW where
 t0:List Int
 t4:Int
 b0:aL
def Rf:Td 0 pW:= .c [] [0,2,4] (.r 0 1 (ec 0 (ql 3) (ec 2 (qp 0 0) (ec 4 aN en))) (sb 0 34 (lg 34) sn) (λz=>⟨z.1.1,z.1.t.1,z.2.1⟩) (λx=>((x.t0,(),x.t4,()),(x.b0,()))))
def AP(p:pW):af (af pW):=
 bif J (p.t4<zR p.t0)then if 0<=p.t4/\p.t4<zR p.t0 then bif bif oC p.t0[zD p.t4]! then G else O then V (I)else V (V (pW.mk p.t0 (ak (p.t4+1)) p.b0))else I else V (I)
def Lc:=bJ (AP)
abbrev aDw:=aL×Int
def d238:Td 0 aDw:= .c [] [2,3] (.r 0 1 (ec 2 (qp 0 0) (ec 3 aN en)) (sb 0 34 (lg 34) sn) (λz=>(z.2.1,z.1.2.1)) (λx=>(((),x.2,()),(x.1,()))))
def Yl(a0:aa Int):af aDw:=
 match Lc (pW.mk a0 0 (aL.mk 0 0 0))with|I=>I|V r2=>bif J (r2.t4<zR r2.t0)then if 0<=r2.t4/\r2.t4<zR r2.t0 then bif bif oC r2.t0[zD r2.t4]! then G else O then V (aL.mk 0 0 0,3)else I else I else bif J ((zR r2.t0:Int)=0)then V (qM,0)else if(0:Int)<=(0:Int)/\(0:Int)<zR r2.t0 then if(0:Int)<=(0:Int)/\(0:Int)<zR r2.t0 then match Jl (jX.mk r2.t0 1 r2.b0 (aL.mk r2.t0[0]! r2.t0[0]! (0)))with|I=>I|V r3=>bif J (r3.t6<zR r3.t0)then if 0<=r3.t6/\r3.t6<zR r3.t0 then if(0:Int)<=(0:Int)/\(0:Int)<zR r3.t0 then match CT r3.b1.aj (jm r3.t0[zD r3.t6]! r3.t0[0]!)with|I=>I|V r4=>if 0<=r3.t6/\r3.t6<zR r3.t0 then bif J (((r3.t0,(),(),r3.t6,()),r3.b0,r3.b1,()).fst.fst[((r3.t0,(),(),r3.t6,()),r3.b0,r3.b1,()).fst.snd.snd.snd.fst.toNat]! <((r3.t0,(),(),r3.t6,()),r3.b0,r3.b1,()).snd.snd.fst.ah)then if 0<=r3.t6/\r3.t6<zR r3.t0 then if 0<=r3.t6/\r3.t6<zR r3.t0 then bif J (((r3.t0,(),(),r3.t6,()),r3.b0,r3.b1,()).snd.snd.fst.ag<((r3.t0,(),(),r3.t6,()),r3.b0,r3.b1,()).fst.fst[((r3.t0,(),(),r3.t6,()),r3.b0,r3.b1,()).fst.snd.snd.snd.fst.toNat]!)then if 0<=r3.t6/\r3.t6<zR r3.t0 then I else I else I else I else I else if 0<=r3.t6/\r3.t6<zR r3.t0 then bif J (((r3.t0,(),(),r3.t6,()),r3.b0,r3.b1,()).snd.snd.fst.ag<((r3.t0,(),(),r3.t6,()),r3.b0,r3.b1,()).fst.fst[((r3.t0,(),(),r3.t6,()),r3.b0,r3.b1,()).fst.snd.snd.snd.fst.toNat]!)then if 0<=r3.t6/\r3.t6<zR r3.t0 then I else I else I else I else I else I else I else V (r3.b1,0)else I else I
def aHn:=eL vn 238 G (lc (ql 3) ln) d238 (λg=>Yl g.1)
def Ks:EO aHn:=λh=>kL (an:=(noTwo (.two (noTwo (Rf.lp Lc .no)) (noTwo (noTwo (.two (noTwo (Ud.lp Jl .no)) .no)))))) (l:=[(aY f238 0,(Rf.lp Lc .no)),(aY f238 1,(Ud.lp Jl .no))]) func238 (vV (Lx (sI (lu aP)))) (aA (aO Rf) (aA (aO Ud) aH)) h
abbrev av8:=aL
def d163:Td 0 av8:= .c [] [4] (.r 0 1 (ec 4 (qp 0 0) en) (sb 0 34 (lg 34) sn) (λz=>z.2.1) (λx=>(((),()),(x,()))))
def lE(a0:aL)(a1:aL):af av8:=
 bif lR a0 then V (a1)else bif lR a1 then V (a0)else match Yl [a0.ah,a0.ag,a1.ah,a1.ag]with|I=>I|V r1=>bif J (r1.fst.ah<r1.fst.ag)then match CT a0.aj a1.aj with|I=>I|V r2=>match CT r2 (jm a0.ah a1.ah)with|I=>I|V r3=>V (aL.mk r1.fst.ah r1.fst.ag r3)else V (r1.fst)
def ae6:=eL vn 163 G (lc (qg 34) (lc (qg 34) ln)) d163 (λg=>lE g.1 g.2.1)
def sG:EO ae6:=λh=>kL (an:= .no) func163 (vV (Lx (Ks (mK aP)))) aH h
def rX:EP ae6:=λh=>kP h
def F86:bu:=(ae6 (adt (Mq (e84 (e42 (e41 di))))))
abbrev E86:=aL×Int
def d86:Td 0 E86:= .c [] [6,7] (.r 0 1 (ec 6 (qp 0 0) (ec 7 aN en)) (sb 0 34 (lg 34) sn) (λz=>(z.2.1,z.1.2.1)) (λx=>(((),x.2,()),(x.1,()))))
def aF0:∀f∈([162]:aa Nat),bA (F86) f:=(aA (rX (B8 (iu (iL (uZ (Ad bF)))))) aH)
def m86(a0:aL)(a1:Int)(a2:Int):af E86:=
 match ZN a0 with|I=>I|V r1=>bif bif r1 then G else O then V ((aL.mk (0) (0) (0),1))else match bif bif oC a1 then G else O then V (O)else bif bif oC a2 then G else O then V (O)else V (J (a2<a1))with|I=>I|V r2=>bif r2 then V ((aL.mk (0) (0) (0),3))else match ZM a0 (ak (a1-1))with|I=>I|V r3=>match m41 r3 a2 with|I=>I|V r4=>match m41 a0 a1 with|I=>I|V r5=>bif bif lR r5 then G else O then match lE r4 (aL.mk a1 a1 (0))with|I=>I|V r6=>match ZM a0 a2 with|I=>I|V r7=>bif bif lR r7 then G else O then match lE r6 (aL.mk a2 a2 (0))with|I=>I|V r8=>V ((r8,0))else V ((r6,0))else match ZM a0 a2 with|I=>I|V r9=>bif bif lR r9 then G else O then match lE r4 (aL.mk a2 a2 (0))with|I=>I|V r10=>V ((r10,0))else V ((r4,0))
def e86:=eL vn 86 G (lc (qg 34) (aS (aS ln))) d86 (λg=>m86 g.1 g.2.1 g.t.1)
def R5:EO e86:=λh=>kL (F:=F86) (an:=(noTwo (noTwo (.two (.two (.rb [162] 25) .no) .no)))) (l:=[(.skip,(.rb [162] 25))]) func86 (sG (sI (mK (tN (Sg (aaS aP)))))) (aA aF0 aH) h
def F43:bu:=(Mq (e84 di))
abbrev E43:=Int
def d43:Td 0 E43:= .c [] [2] (.r 0 0 (ec 2 aN en) sn (λz=>z.1.1) (λx=>((x,()),(()))))
def aFe:∀f∈([84,102]:aa Nat),bA (F43) f:=(aA (iu (iL bF)) (aA (iu (iL bF)) aH))
def sP(a0:aL):af E43:=
 match match ZN a0 with|I=>I|V r1=>bif bif r1 then G else O then V O else V (lR a0)with|I=>I|V r2=>bif r2 then V 0 else bif J (a0.aj=0)then V 1 else if¬a0.aj=0then V (ak (ak ((ak (a0.ag-a0.ah)).tdiv a0.aj)+1))else I
def e43:=eL vn 43 G (lc (qg 34) ln) d43 (λg=>sP g.1)
def pE:EO e43:=λh=>kL (F:=F43) (an:=(noTwo (.two (.two (.rb [84,102] 9) .no) .no))) (l:=[(.skip,(.rb [84,102] 9))]) func43 (mK (tN aP)) (aA aFe aH) h
def lW:EP e43:=λh=>kP h
abbrev axz:=Bool×Bool
def d165:Td 0 axz:= .c [] [2,3] (.r 0 0 (ec 2 qb (ec 3 qb en)) sn (λz=>(z.1.1,z.1.2.1)) (λx=>((x.1,x.2,()),(()))))
def Fj(a0:aL):af axz:=
 match m32 a0 (0)with|I=>I|V r1=>match sP a0 with|I=>I|V r2=>bif J (1<r2)then V ((r1,O))else match sP a0 with|I=>I|V r3=>bif J (r3=1)then V ((r1,bif r1 then G else O))else V ((r1,G))
def Zj:=eL vn 165 G (lc (qg 34) ln) d165 (λg=>Fj g.1)
def vG:EO Zj:=λh=>kL (an:= .no) func165 (pE (Gy aP)) aH h
def Yz:EP Zj:=λh=>kP h
def arV:bu:=di
abbrev atd:=aL
def d241:Td 0 atd:= .c [] [4] (.r 0 1 (ec 4 (qp 0 0) en) (sb 0 34 (lg 34) sn) (λz=>z.2.1) (λx=>(((),()),(x,()))))
def aDq:=(lc qb (lc qb ln))
def aod:An:=(noTwo (.two (.two (.rb [] 8) .no) .no))
def aBJ:∀f∈([]:aa Nat),bA (arV) f:=aH
def ji(a0:Bool)(a1:Bool):atd:=
 let r1:Bool:=bif a0 then a1 else G;bif r1 then aL.mk (0) (1) (1)else bif a1 then aL.mk (1) (1) (0)else aL.mk (0) (0) (0)
def aHk(a0:Bool)(a1:Bool):bU vn (arV) 300 (aod) 241 (aDq.c (a0,a1,())) [] 0 d241.rd=V (ji a0 a1):=by
 refine Eq.trans (b:=(
  match bif a0 then V (a1)else V (G)with|I=>I|V r1=>bif r1 then V (aL.mk (0) (1) (1))else bif a1 then V (aL.mk (1) (1) (0))else V (aL.mk (0) (0) (0)):af atd)) aV ?_
 simp only[ji,cu,cO]
def avD:=eL vn 241 G aDq d241 (λg=>V (ji g.1 g.2.1))
def Xa:EO avD:=λh=>kL (F:=arV) (an:=aod) (l:=[(.skip,(.rb [] 8))]) func241 aP (aA aBJ aH) h (c:=λg=>aHk g.1 g.2.1)
def Zv:EP avD:=λh=>kP h
def aBQ:bu:=(avD (Zj (Lm (Mq (e84 di)))))
abbrev aCn:=aL×Int
def d164:Td 0 aCn:= .c [] [4,5] (.r 0 1 (ec 4 (qp 0 0) (ec 5 aN en)) (sb 0 34 (lg 34) sn) (λz=>(z.2.1,z.1.2.1)) (λx=>(((),x.2,()),(x.1,()))))
def aAU:∀f∈([84]:aa Nat),bA (aBQ) f:=(aA (Zv (Yz (je (iu (iL bF))))) aH)
def Z2(a0:Int)(a1:aL):af aCn:=
 match match ZN a1 with|I=>I|V r1=>bif bif r1 then G else O then V (O)else bif bif J (a0=6)then G else O then V (bif J (a0=7)then G else O)else V (G)with|I=>I|V r2=>bif r2 then V ((aL.mk (0) (0) (0),1))else bif lR a1 then V ((qM,0))else bif J (a0=6)then V ((aL.mk (ak (0-a1.ag)) (ak (0-a1.ah)) a1.aj,0))else match Fj a1 with|I=>I|V r3=>V ((ji r3.snd r3.fst,0))
def aCS:=eL vn 164 G (aS (lc (qg 34) ln)) d164 (λg=>Z2 g.1 g.2.1)
def akU:EO aCS:=λh=>kL (F:=aBQ) (an:=(noTwo (.two (.two (.rb [84] 18) .no) .no))) (l:=[(.skip,(.rb [84] 18))]) func164 (Xa (vG (lu (mK (tN aP))))) (aA aAU aH) h
def aEG:bu:=di
abbrev auG:=Bool
def d242:Td 0 auG:= .c [] [2] (.r 0 0 (ec 2 qb en) sn (λz=>z.1.1) (λx=>((x,()),(()))))
def aC4:=(aS ln)
def ape:An:= .no
def GY(a0:Int):auG:=
 bif J (a0=8)then O else bif J (a0=9)then O else bif J (a0=10)then O else bif J (a0=11)then O else bif J (a0=12)then O else bif J (a0=13)then O else bif J (a0=14)then O else bif J (a0=15)then O else bif J (a0=16)then O else bif J (a0=17)then O else bif J (a0=18)then O else bif J (a0=19)then O else bif J (a0=20)then O else bif J (a0=21)then O else bif J (a0=22)then O else G
def aHz(a0:Int):bU vn (aEG) 300 (ape) 242 (aC4.c (a0,())) [] 0 d242.rd=V (GY a0):=by
 refine Eq.trans (b:=(
  bif J (a0=8)then V (O)else bif J (a0=9)then V (O)else bif J (a0=10)then V (O)else bif J (a0=11)then V (O)else bif J (a0=12)then V (O)else bif J (a0=13)then V (O)else bif J (a0=14)then V (O)else bif J (a0=15)then V (O)else bif J (a0=16)then V (O)else bif J (a0=17)then V (O)else bif J (a0=18)then V (O)else bif J (a0=19)then V (O)else bif J (a0=20)then V (O)else bif J (a0=21)then V (O)else bif J (a0=22)then V (O)else V (G):af auG)) aV ?_
 simp only[GY,cu,cO]
def ash:=eL vn 242 G aC4 d242 (λg=>V (GY g.1))
def amT:EO ash:=λh=>kL (an:=ape) func242 aP aH h (c:=λg=>aHz g.1)
def Bx:EP ash:=λh=>kP h
def azM:bu:=(adD di)
abbrev awc:=Int×Bool
def d283:Td 0 awc:= .c [] [4,5] (.r 0 0 (ec 4 aN (ec 5 qb en)) sn (λz=>(z.1.1,z.1.2.1)) (λx=>((x.1,x.2,()),(()))))
def awp:∀f∈([240]:aa Nat),bA (azM) f:=(aA (nI bF) aH)
def al2(a0:Int)(a1:Int):af awc:=
 match bif bif J (a0=0)then G else O then bif bif J (a1=0)then G else O then if¬jm a1 ((0:Int))=0then V (J (ak ((1099511627776:Int).tdiv (jm a1 0))<jm a0 0))else I else V G else V G with|I=>I|V r1=>bif r1 then V (0,G)else V ((ak (a0*a1),O))
def aHm:=eL vn 283 G (aS (aS ln)) d283 (λg=>al2 g.1 g.2.1)
def aj6:EO aHm:=λh=>kL (F:=azM) (an:=(noTwo (.two (.two (.rb [240] 19) .no) .no))) (l:=[(.skip,(.rb [240] 19))]) func283 (vV aP) (aA awp aH) h
def aDj:bu:=di
abbrev ax2:=Int
def d284:Td 0 ax2:= .c [] [4] (.r 0 0 (ec 4 aN en) sn (λz=>z.1.1) (λx=>((x,()),(()))))
def azl:∀f∈([]:aa Nat),bA (aDj) f:=aH
def ahK(a0:Int)(a1:Int):af ax2:=
 bif J (a1=0)then V 0 else if¬a1=0then match if¬a1=0then bif bif J (a0.tmod a1=0)then G else O then V (bif J (a0<0)==J (a1<0)then G else O)else V G else I with|I=>I|V r1=>bif r1 then V (ak (ak (a0.tdiv a1)-1))else V (ak (a0.tdiv a1))else I
def aFv:=eL vn 284 G (aS (aS ln)) d284 (λg=>ahK g.1 g.2.1)
def anl:EO aFv:=λh=>kL (F:=aDj) (an:=(noTwo (noTwo (noTwo (.two (.two (.rb [] 21) .no) .no))))) (l:=[(.skip,(.rb [] 21))]) func284 aP (aA azl aH) h
def aE1:bu:=di
abbrev arn:=Int
def d285:Td 0 arn:= .c [] [2] (.r 0 0 (ec 2 aN en) sn (λz=>z.1.1) (λx=>((x,()),(()))))
def azQ:=(lc qb ln)
def aol:An:= .no
def Ap(a0:Bool):arn:=
 bif a0 then 1 else 0
def aGE(a0:Bool):bU vn (aE1) 300 (aol) 285 (azQ.c (a0,())) [] 0 d285.rd=V (Ap a0):=by
 refine Eq.trans (b:=(
  bif a0 then V (1)else V (0):af arn)) aV ?_
 simp only[Ap,cu,cO]
def aFi:=eL vn 285 G azQ d285 (λg=>V (Ap g.1))
def ak2:EO aFi:=λh=>kL (an:=aol) func285 aP aH h (c:=λg=>aGE g.1)
abbrev axC:=Int×Bool
def d245:Td 0 axC:= .c [] [6,7] (.r 0 0 (ec 6 aN (ec 7 qb en)) sn (λz=>(z.1.1,z.1.2.1)) (λx=>((x.1,x.2,()),(()))))
def Ei(a0:Int)(a1:Int)(a2:Int):af axC:=
 bif J (a0=8)then V ((ak (a1+a2),oC (ak (a1+a2))))else bif J (a0=9)then V ((ak (a1-a2),oC (ak (a1-a2))))else bif J (a0=10)then match al2 a1 a2 with|I=>I|V r1=>V (r1)else bif J (a0=11)then match ahK a1 a2 with|I=>I|V r2=>V ((r2,O))else bif J (a0=12)then bif J (a2=0)then V ((0,O))else match ahK a1 a2 with|I=>I|V r3=>V ((ak (a1-ak (a2*r3)),O))else bif J (a0=13)then V ((Ap (J (a1=a2)),O))else bif J (a0=14)then V ((Ap (bif J (a1=a2)then G else O),O))else bif J (a0=15)then V ((Ap (J (a1<a2)),O))else bif J (a0=16)then V ((Ap (J (a1<=a2)),O))else bif J (a0=17)then V ((Ap (J (a2<a1)),O))else bif J (a0=18)then V ((Ap (J (a2<=a1)),O))else bif J (a0=19)then bif bif J (a1=0)then G else O then V ((Ap (bif J (a2=0)then G else O),O))else V ((Ap G,O))else bif J (a0=20)then bif bif J (a1=0)then G else O then V ((Ap O,O))else V ((Ap (bif J (a2=0)then G else O),O))else bif J (a0=21)then bif J (a1<a2)then V ((a1,O))else V ((a2,O))else bif J (a2<a1)then V ((a1,O))else V ((a2,O))
def avz:=eL vn 245 G (aS (aS (aS ln))) d245 (λg=>Ei g.1 g.2.1 g.t.1)
def Li:EO avz:=λh=>kL (an:= .no) func245 (ak2 (anl (aj6 (sI aP)))) aH h
def AU:EP avz:=λh=>kP h
abbrev aBZ:=Int
def d282:Td 0 aBZ:= .c [] [4] (.r 0 0 (ec 4 aN en) sn (λz=>z.1.1) (λx=>((x,()),(()))))
def G2(a0:aL)(a1:Int):aBZ:=
 ak (a0.ah+ak (a1*a0.aj))
def aEu:=eL vn 282 G (lc (qg 34) (aS ln)) d282 (λg=>V (G2 g.1 g.2.1))
def afr:EO aEu:=λh=>kL (an:= .no) func282 aP aH h
structure jL where
 t0:Int
 t8:List Int
 (t9 t10:Int)
 (b0 b1 b2:aL)
def QT:Td 0 jL:= .c [] [0,4,5,6,8,9,10] (.r 0 4 (ec 0 aN (ec 4 (qp 0 0) (ec 5 (qp 1 0) (ec 6 (qp 2 0) (ec 8 (qo 3) (ec 9 aN (ec 10 aN en))))))) (sb 0 34 (lg 34) (sb 1 34 (lg 34) (sb 2 34 (lg 34) (sr 3 3 sn)))) (λz=>⟨z.1.1,z.q.1,z.1.q.2.1,z.1.q.t.1,z.2.1,z.t.1,z.t.2.1⟩) (λx=>((x.t0,(),(),(),(),x.t9,x.t10,()),(x.b0,x.b1,x.b2,x.t8,()))))
def LQ(p:jL):af (af jL):=
 match sP p.b1 with|I=>I|V r5=>bif J (p.t10<r5)then match Ei p.t0 (G2 p.b0 p.t9) (G2 p.b1 p.t10)with|I=>I|V r6=>bif bif r6.snd then G else O then V (I)else if(p.t8++[r6.fst]).length<=1073741824 then V (V (jL.mk p.t0 (p.t8++[r6.fst]) p.t9 (ak (p.t10+1)) p.b0 p.b1 p.b2))else I else V (I)
def uo:=bJ (LQ)
structure qL where
 t0:Int
 t8:List Int
 t9:Int
 (b0 b1 b2:aL)
def QO:Td 0 qL:= .c [] [0,4,5,6,8,9] (.r 0 4 (ec 0 aN (ec 4 (qp 0 0) (ec 5 (qp 1 0) (ec 6 (qp 2 0) (ec 8 (qo 3) (ec 9 aN en)))))) (sb 0 34 (lg 34) (sb 1 34 (lg 34) (sb 2 34 (lg 34) (sr 3 3 sn)))) (λz=>⟨z.1.1,z.q.1,z.1.q.2.1,z.2.1,z.t.1,z.t.2.1⟩) (λx=>((x.t0,(),(),(),(),x.t9,()),(x.b0,x.b1,x.b2,x.t8,()))))
def A8(p:qL):af (af qL):=
 match sP p.b0 with|I=>I|V r1=>bif J (p.t9<r1)then match uo (jL.mk p.t0 p.t8 p.t9 (0) p.b0 p.b1 p.b2)with|I=>I|V r2=>match sP r2.b1 with|I=>I|V r3=>bif J (r2.t10<r3)then match Ei r2.t0 (G2 r2.b0 r2.t9) (G2 r2.b1 r2.t10)with|I=>I|V r4=>bif bif r4.snd then G else O then V (I)else if(r2.t8++[r4.fst]).length<=1073741824 then I else I else V (V (qL.mk r2.t0 r2.t8 (ak (r2.t9+1)) r2.b0 r2.b1 r2.b2))else V (I)
def aeL:An:=(noTwo (.two (noTwo (QT.lp uo .no)) .no))
def KL:=bJ (A8)
abbrev aBg:=aL×Int
def d243:Td 0 aBg:= .c [] [6,7] (.r 0 1 (ec 6 (qp 0 0) (ec 7 aN en)) (sb 0 34 (lg 34) sn) (λz=>(z.2.1,z.1.2.1)) (λx=>(((),x.2,()),(x.1,()))))
def YR(a0:Int)(a1:aL)(a2:aL):af aBg:=
 match KL (qL.mk a0 [] (0) a1 a2 (aL.mk (0) (0) (0)))with|I=>I|V r7=>match sP r7.b0 with|I=>I|V r8=>bif J (r7.t9<r8)then match uo (jL.mk r7.t0 r7.t8 r7.t9 (0) r7.b0 r7.b1 r7.b2)with|I=>I|V r9=>match sP r9.b1 with|I=>I|V r10=>bif J (r9.t10<r10)then match Ei r9.t0 (G2 r9.b0 r9.t9) (G2 r9.b1 r9.t10)with|I=>I|V r11=>bif bif r11.snd then G else O then V ((aL.mk (0) (0) (0),3))else if(r9.t8++[r11.fst]).length<=1073741824 then I else I else I else match Yl r7.t8 with|I=>I|V r12=>V (r12)
def aqB:=eL vn 243 G (aS (lc (qg 34) (lc (qg 34) ln))) d243 (λg=>YR g.1 g.2.1 g.t.1)
def ajU:EO aqB:=λh=>kL (an:=(noTwo (noTwo (.two (noTwo (QO.lp KL aeL)) .no)))) (l:=[(aY f243 0,(QO.lp KL aeL)),(aY f243 1,(QT.lp uo .no))]) func243 (afr (Li (Ks (pE aP)))) (aA (aO QO) (aA (aO QT) aH)) h
def BM:EP aqB:=λh=>kP h
structure jZ where
 t0:Int
 (t8 t9 t10:List Int)
 (t11 t12:Int)
 b0:aL
def R8:Td 0 jZ:= .c [] [0,6,8,9,10,11,12] (.r 0 4 (ec 0 aN (ec 6 (qp 0 0) (ec 8 (qo 1) (ec 9 (qo 2) (ec 10 (qo 3) (ec 11 aN (ec 12 aN en))))))) (sb 0 34 (lg 34) (sr 1 3 (sr 2 3 (sr 3 3 sn)))) (λz=>⟨z.1.1,z.t.1,z.t.2.1,z.q.1,z.1.q.2.1,z.1.q.t.1,z.2.1⟩) (λx=>((x.t0,(),(),(),(),x.t11,x.t12,()),(x.b0,x.t8,x.t9,x.t10,()))))
def T4(p:jZ):af (af jZ):=
 bif J (p.t12<3)then if 0<=p.t11/\p.t11<zR p.t9 then if 3=3/\zD p.t11<zR p.t9 then if 0<=p.t12/\p.t12<zR p.t10 then if 3=3/\zD p.t12<zR p.t10 then match Ei p.t0 p.t9[zD p.t11]! p.t10[zD p.t12]! with|I=>I|V r3=>bif bif r3.snd then G else O then V (I)else if(p.t8++[r3.fst]).length<=1073741824 then V (V (jZ.mk p.t0 (p.t8++[r3.fst]) p.t9 p.t10 p.t11 (ak (p.t12+1)) p.b0))else I else I else I else I else I else V (I)
def uw:=bJ (T4)
structure qO where
 t0:Int
 (t8 t9 t10:List Int)
 t11:Int
 b0:aL
def SX:Td 0 qO:= .c [] [0,6,8,9,10,11] (.r 0 4 (ec 0 aN (ec 6 (qp 0 0) (ec 8 (qo 1) (ec 9 (qo 2) (ec 10 (qo 3) (ec 11 aN en)))))) (sb 0 34 (lg 34) (sr 1 3 (sr 2 3 (sr 3 3 sn)))) (λz=>⟨z.1.1,z.t.1,z.t.2.1,z.q.1,z.1.q.2.1,z.2.1⟩) (λx=>((x.t0,(),(),(),(),x.t11,()),(x.b0,x.t8,x.t9,x.t10,()))))
def FN(p:qO):af (af qO):=
 bif J (p.t11<3)then match uw (jZ.mk p.t0 p.t8 p.t9 p.t10 p.t11 0 p.b0)with|I=>I|V r1=>bif J (r1.t12<3)then if 0<=r1.t11/\r1.t11<zR r1.t9 then if 3=3/\zD r1.t11<zR r1.t9 then if 0<=r1.t12/\r1.t12<zR r1.t10 then if 3=3/\zD r1.t12<zR r1.t10 then match Ei r1.t0 r1.t9[zD r1.t11]! r1.t10[zD r1.t12]! with|I=>I|V r2=>bif bif r2.snd then G else O then V (I)else if(r1.t8++[r2.fst]).length<=1073741824 then I else I else I else I else I else I else V (V (qO.mk r1.t0 r1.t8 r1.t9 r1.t10 (ak (r1.t11+1)) r1.b0))else V (I)
def ae5:An:=(noTwo (.two (noTwo (R8.lp uw .no)) .no))
def JF:=bJ (FN)
abbrev aCh:=aL×Int
def d244:Td 0 aCh:= .c [] [6,7] (.r 0 1 (ec 6 (qp 0 0) (ec 7 aN en)) (sb 0 34 (lg 34) sn) (λz=>(z.2.1,z.1.2.1)) (λx=>(((),x.2,()),(x.1,()))))
def uX(a0:Int)(a1:aL)(a2:aL):af aCh:=
 match JF (qO.mk a0 [] [a1.ah,ak (a1.ah+a1.aj),a1.ag] [a2.ah,ak (a2.ah+a2.aj),a2.ag] (0) (aL.mk 0 0 0))with|I=>I|V r4=>bif J (r4.t11<3)then match uw (jZ.mk r4.t0 r4.t8 r4.t9 r4.t10 r4.t11 0 r4.b0)with|I=>I|V r5=>bif J (r5.t12<3)then if 0<=r5.t11/\r5.t11<zR r5.t9 then if 3=3/\zD r5.t11<zR r5.t9 then if 0<=r5.t12/\r5.t12<zR r5.t10 then if 3=3/\zD r5.t12<zR r5.t10 then match Ei r5.t0 r5.t9[zD r5.t11]! r5.t10[zD r5.t12]! with|I=>I|V r6=>bif bif r6.snd then G else O then V (aL.mk 0 0 0,3)else if(r5.t8++[r6.fst]).length<=1073741824 then I else I else I else I else I else I else I else match Yl r4.t8 with|I=>I|V r7=>V (r7)
def aqr:=eL vn 244 G (aS (lc (qg 34) (lc (qg 34) ln))) d244 (λg=>uX g.1 g.2.1 g.t.1)
def ahS:EO aqr:=λh=>kL (an:=(noTwo (noTwo (noTwo (noTwo (.two (noTwo (SX.lp JF ae5)) .no)))))) (l:=[(aY f244 0,(SX.lp JF ae5)),(aY f244 1,(R8.lp uw .no))]) func244 (Li (Ks aP)) (aA (aO SX) (aA (aO R8) aH)) h
def Bv:EP aqr:=λh=>kP h
abbrev qy:=Bool
def d286:Td 0 qy:= .c [] [4] (.r 0 0 (ec 4 qb en) sn (λz=>z.1.1) (λx=>((x,()),(()))))
def auP:=(lc (qg 34) (lc (qg 34) ln))
def ai1(M:aL->aL->af qy):bu->bu:=eL vn 286 G auP d286 (λg=>M g.1 g.2.1)
def XC{M:aL->aL->af qy}{F:bu}{f:Nat}(h:bA F f):bA (ai1 M F) f:=gi h (λ_=>aV)
def agy(M:aL->aL->af qy):Prop:=HL vn 286 auP d286 (λg=>M g.1 g.2.1)
def WG{M:aL->aL->af qy}(hM:agy M){F:bu}(h:bz vn F):bz vn (ai1 M F):=ep (sc:=pF) dh hM ⟨_,func286,aV,aV⟩ (λ_=>aV) (λ_=>aV) h
def ai2(M286:aL->aL->af qy):bu:=(ai1 M286 (adD (aqn (e43 (e32 di)))))
def ahW{M286}(h286:agy M286):bz vn (ai2 M286):=(WG h286 (vV (Lx (pE (Gy aP)))))
structure jq where
 (t6 t7 t8 t9:Int)
 (b0 b1:aL)
def RR:Td 0 jq:= .c [] [2,3,6,7,8,9] (.r 0 2 (ec 2 (qp 0 0) (ec 3 (qp 1 0) (ec 6 aN (ec 7 aN (ec 8 aN (ec 9 aN en)))))) (sb 0 34 (lg 34) (sb 1 34 (lg 34) sn)) (λz=>⟨z.1.t.1,z.1.t.2.1,z.1.q.1,z.1.q.2.1,z.2.1,z.t.1⟩) (λx=>(((),(),x.t6,x.t7,x.t8,x.t9,()),(x.b0,x.b1,()))))
def A6(M286:aL->aL->af qy)(p:jq):af (af jq):=
 match if¬p.t7=0then bif J (p.t9<ak (p.b1.aj.tdiv p.t7))then V (J (p.t8<=p.t6))else V G else I with|I=>I|V r1=>bif r1 then match m32 p.b1 p.t8 with|I=>I|V r2=>bif r2 then V (I)else V (V (jq.mk p.t6 p.t7 (ak (p.t8+p.b0.aj)) (ak (p.t9+1)) p.b0 p.b1))else V (I)
def abq(M286:aL->aL->af qy):An:=(.two (.two (.rb [240] 86) .no) .no)
def pe(M286:aL->aL->af qy):=bJ (A6 M286)
def aoq(M286:aL->aL->af qy):An:=(noTwo (noTwo (noTwo (noTwo (noTwo (noTwo (noTwo (.two (.two (.rb [240] 58) .no) (noTwo (.two (noTwo (RR.lp (pe M286) (abq M286))) .no))))))))))
def anU{M286}:∀f∈([240]:aa Nat),bA (ai2 M286) f:=(aA (XC (nI (YI (lW (aan bF))))) aH)
def axu(M286:aL->aL->af qy):eX vn (ai2 M286) 0 300 286 (aoq M286):=b6 (l:=[(.skip,(.rb [240] 58)),(aY f286 0,(RR.lp (pe M286) (abq M286))),(.skip,(.rb [240] 86))]) func286 (bN aV) aV (aA anU (aA (aO RR) (aA anU aH)))
def Zm(M286:aL->aL->af qy)(a0:aL)(a1:aL):af qy:=
 match sP a0 with|I=>I|V r3=>match sP a1 with|I=>I|V r4=>bif J (r4<r3)then match M286 a1 a0 with|I=>I|V r5=>V (r5)else match sP a0 with|I=>I|V r6=>bif J (r6=1)then match m32 a1 a0.ah with|I=>I|V r7=>V (r7)else bif J (a0.ah<a1.ah)then bif J (a1.ag<a0.ag)then match CT a0.aj a1.aj with|I=>I|V r8=>match bif J (a1.ag<a1.ah)then V O else if¬r8=0then V (bif J (Int.tmod (jm a0.ah a1.ah) r8=0)then G else O)else I with|I=>I|V r9=>bif r9 then V G else if¬a0.aj=0then match pe M286 (jq.mk a1.ag r8 (ak (a0.ah+ak (ak ((ak (ak (ak (a1.ah-a0.ah)+a0.aj)-1)).tdiv a0.aj)*a0.aj))) 0 a0 a1)with|I=>I|V r10=>match if¬r10.t7=0then bif J (r10.t9<ak (r10.b1.aj.tdiv r10.t7))then V (J (r10.t8<=r10.t6))else V G else I with|I=>I|V r11=>bif r11 then match m32 r10.b1 r10.t8 with|I=>I|V r12=>bif r12 then V O else I else V G else I else match CT a0.aj a1.aj with|I=>I|V r13=>match bif J (a0.ag<a1.ah)then V O else if¬r13=0then V (bif J (Int.tmod (jm a0.ah a1.ah) r13=0)then G else O)else I with|I=>I|V r14=>bif r14 then V G else if¬a0.aj=0then match pe M286 (jq.mk a0.ag r13 (ak (a0.ah+ak (ak ((ak (ak (ak (a1.ah-a0.ah)+a0.aj)-1)).tdiv a0.aj)*a0.aj))) 0 a0 a1)with|I=>I|V r15=>match if¬r15.t7=0then bif J (r15.t9<ak (r15.b1.aj.tdiv r15.t7))then V (J (r15.t8<=r15.t6))else V G else I with|I=>I|V r16=>bif r16 then match m32 r15.b1 r15.t8 with|I=>I|V r17=>bif r17 then V O else I else V G else I else bif J (a1.ag<a0.ag)then match CT a0.aj a1.aj with|I=>I|V r18=>match bif J (a1.ag<a0.ah)then V O else if¬r18=0then V (bif J (Int.tmod (jm a0.ah a1.ah) r18=0)then G else O)else I with|I=>I|V r19=>bif r19 then V G else if¬a0.aj=0then match pe M286 (jq.mk a1.ag r18 (ak (a0.ah+ak (ak ((ak (ak (ak (a0.ah-a0.ah)+a0.aj)-1)).tdiv a0.aj)*a0.aj))) 0 a0 a1)with|I=>I|V r20=>match if¬r20.t7=0then bif J (r20.t9<ak (r20.b1.aj.tdiv r20.t7))then V (J (r20.t8<=r20.t6))else V G else I with|I=>I|V r21=>bif r21 then match m32 r20.b1 r20.t8 with|I=>I|V r22=>bif r22 then V O else I else V G else I else match CT a0.aj a1.aj with|I=>I|V r23=>match bif J (a0.ag<a0.ah)then V O else if¬r23=0then V (bif J (Int.tmod (jm a0.ah a1.ah) r23=0)then G else O)else I with|I=>I|V r24=>bif r24 then V G else if¬a0.aj=0then match pe M286 (jq.mk a0.ag r23 (ak (a0.ah+ak (ak ((ak (ak (ak (a0.ah-a0.ah)+a0.aj)-1)).tdiv a0.aj)*a0.aj))) 0 a0 a1)with|I=>I|V r25=>match if¬r25.t7=0then bif J (r25.t9<ak (r25.b1.aj.tdiv r25.t7))then V (J (r25.t8<=r25.t6))else V G else I with|I=>I|V r26=>bif r26 then match m32 r25.b1 r25.t8 with|I=>I|V r27=>bif r27 then V O else I else V G else I
def aGi(M286:aL->aL->af qy)(a0:aL)(a1:aL):bU vn (ai2 M286) 300 (aoq M286) 286 (auP.c (a0,a1,())) [] 0 d286.rd=Zm M286 a0 a1:=aV
def HA:Nat->(aL->aL->af qy)
 |0=>(λ_ _=>I)
 |n+1=>(Zm (HA n))
def acq(n:Nat):aL->aL->af qy:=(HA n)
def Nr:∀n,agy (acq n)
 |0=>λ_ _ h=>(by cases h)
 |n+1=>by
  have ih:=Nr n;have i286:=ih;exact(dR (ahW i286) (axu (acq n)) (λ_=>aV) (λ_=>aV) λg=>aGi (acq n) g.1 g.2.1)
def aez:aL->aL->af qy:=λa0 a1=>lim (λn=>acq n a0 a1)
def alj:agy aez:=λg b h=>by
 obtain⟨n,hn⟩:=dA (show lim (λn=>acq n g.1 g.2.1)=V b from h);exact(Nr n) g b hn
def aGg(F:bu):bu:=ai1 aez F
def ajS{F:bu}(h:bz vn F):bz vn (aGg F):=WG alj h
abbrev aB8:=aL
def d246:Td 0 aB8:= .c [] [6] (.r 0 1 (ec 6 (qp 0 0) en) (sb 0 34 (lg 34) sn) (λz=>z.2.1) (λx=>(((),()),(x,()))))
def abJ(a0:Int)(a1:aL)(a2:aL):af aB8:=
 bif J (a0=13)then match aez a1 a2 with|I=>I|V r1=>bif bif bif J (a1.ah=a2.ah)then bif J (a1.ag=a2.ag)then bif J (a1.aj=a2.aj)then O else G else G else G then G else O then bif J (a0=14)then V (ji r1 O)else V (ji O r1)else match sP a1 with|I=>I|V r2=>bif J (a0=14)then V (ji r1 (J (1<((r2,()),()).fst.fst)))else V (ji (J (1<((r2,()),()).fst.fst)) r1)else bif J (a0=14)then match aez a1 a2 with|I=>I|V r3=>bif bif bif J (a1.ah=a2.ah)then bif J (a1.ag=a2.ag)then bif J (a1.aj=a2.aj)then O else G else G else G then G else O then bif J (a0=14)then V (ji r3 O)else V (ji O r3)else match sP a1 with|I=>I|V r4=>bif J (a0=14)then V (ji r3 (J (1<((r4,()),()).fst.fst)))else V (ji (J (1<((r4,()),()).fst.fst)) r3)else bif J (a0=15)then V (ji (J (a2.ah<=a1.ag)) (J (a1.ah<a2.ag)))else bif J (a0=16)then V (ji (J (a2.ah<a1.ag)) (J (a1.ah<=a2.ag)))else bif J (a0=17)then V (ji (J (a1.ah<=a2.ag)) (J (a2.ah<a1.ag)))else bif J (a0=18)then V (ji (J (a1.ah<a2.ag)) (J (a2.ah<=a1.ag)))else match Fj a1 with|I=>I|V r5=>match Fj a2 with|I=>I|V r6=>bif J (a0=19)then bif r5.snd then bif r5.fst then V (ji O r6.snd)else V (ji r6.fst r6.snd)else bif r5.fst then V (ji O G)else V (ji r6.fst G)else bif r5.snd then bif r5.fst then V (ji r6.fst O)else V (ji G O)else bif r5.fst then V (ji r6.fst r6.snd)else V (ji G r6.snd)
def aqO:=eL vn 246 G (aS (lc (qg 34) (lc (qg 34) ln))) d246 (λg=>abJ g.1 g.2.1 g.t.1)
def ais:EO aqO:=λh=>kL (an:= .no) func246 (ajS (Xa (vG (pE aP)))) aH h
def Cc:EP aqO:=λh=>kP h
def ayn:bu:=(aqO (avz (aqr (aqB (ash (adD (ae6 (Lm (Mq (Zq (e84 (e43 (e42 (e41 di))))))))))))))
abbrev aAR:=aL×Int
def d166:Td 0 aAR:= .c [] [6,7] (.r 0 1 (ec 6 (qp 0 0) (ec 7 aN en)) (sb 0 34 (lg 34) sn) (λz=>(z.2.1,z.1.2.1)) (λx=>(((),x.2,()),(x.1,()))))
def aao:∀f∈([84,102,242]:aa Nat),bA (ayn) f:=(aA (Cc (AU (Bv (BM (Bx (nI (rX (je (iu (nV (iL (lW (uZ (Ad bF)))))))))))))) (aA (Cc (AU (Bv (BM (Bx (nI (rX (je (iu (nV (iL (lW (uZ (Ad bF)))))))))))))) (aA (Cc (AU (Bv (BM (Bx (nI (rX (je (iu (nV (iL (lW (uZ (Ad bF)))))))))))))) aH)))
def oI(a0:Int)(a1:aL)(a2:aL):af aAR:=
 match match ZN a1 with|I=>I|V r1=>bif bif r1 then G else O then V O else match ZN a2 with|I=>I|V r2=>bif bif r2 then G else O then V O else V (bif GY a0 then G else O)with|I=>I|V r3=>bif r3 then V (aL.mk 0 0 0,1)else match bif lR a1 then V O else V (lR a2)with|I=>I|V r4=>bif r4 then V (qM,0)else match sP a1 with|I=>I|V r5=>match sP a2 with|I=>I|V r6=>if¬r6=0then bif J (r5<=ak ((4096:Int).tdiv r6))then match YR a0 a1 a2 with|I=>I|V r7=>V (r7)else bif J (a0=8)then match uX a0 a1 a2 with|I=>I|V r8=>V (r8)else bif J (a0=9)then match uX a0 a1 a2 with|I=>I|V r9=>V (r9)else bif J (a0=10)then match uX a0 a1 a2 with|I=>I|V r10=>V (r10)else bif J (a0=11)then bif J (jm a1.ah 0<jm a1.ag 0)then match bif J (0<=a1.ah)then V (J (0<=a2.ah))else V G with|I=>I|V r11=>bif r11 then match jB 0 (jm a1.ag 0) 1with|I=>I|V r12=>V (r12)else match jB (ak (0-jm a1.ag 0)) (jm a1.ag 0) 1with|I=>I|V r13=>V (r13)else match bif J (0<=a1.ah)then V (J (0<=a2.ah))else V G with|I=>I|V r14=>bif r14 then match jB 0 (jm a1.ah 0) 1with|I=>I|V r15=>V (r15)else match jB (ak (0-jm a1.ah 0)) (jm a1.ah 0) 1with|I=>I|V r16=>V (r16)else bif J (a0=12)then bif J (a2.ah<0)then bif J (0<a2.ag)then match jB (ak (a2.ah+1)) (ak (a2.ag-1)) 1with|I=>I|V r17=>V (r17)else match jB (ak (a2.ah+1)) 0 1with|I=>I|V r18=>V (r18)else bif J (0<a2.ag)then match jB 0 (ak (a2.ag-1)) 1with|I=>I|V r19=>V (r19)else match jB 0 0 1with|I=>I|V r20=>V (r20)else bif J (a0=21)then match Ei a0 a1.ag a2.ag with|I=>I|V r21=>match lE a1 a2 with|I=>I|V r22=>match m41 r22 r21.fst with|I=>I|V r23=>V (r23,0)else bif J (a0=22)then match Ei a0 a1.ah a2.ah with|I=>I|V r24=>match lE a1 a2 with|I=>I|V r25=>match ZM r25 (ak (r24.fst-1))with|I=>I|V r26=>V (r26,0)else match abJ a0 a1 a2 with|I=>I|V r27=>V (r27,0)else I
def awl:=eL vn 166 G (aS (lc (qg 34) (lc (qg 34) ln))) d166 (λg=>oI g.1 g.2.1 g.t.1)
def U6:EO awl:=λh=>kL (F:=ayn) (an:=(noTwo (.two (.two (.rb [84,102,242] 27) .no) (.two (.two (.rb [84,102,242] 34) .no) (noTwo (.two (noTwo (noTwo (noTwo (noTwo (.two (noTwo (noTwo (.two (.two (.rb [84,102,242] 79) .no) .no))) .no))))) .no)))))) (l:=[(.skip,(.rb [84,102,242] 27)),(.skip,(.rb [84,102,242] 34)),(.skip,(.rb [84,102,242] 79))]) func166 (ais (Li (ahS (ajU (amT (vV (sG (lu (mK (DC (tN (pE (Sg (aaS aP)))))))))))))) (aA aao (aA aao (aA aao aH))) h
abbrev Od:=aL
def d87:Td 0 Od:= .c [] [4] (.r 0 1 (ec 4 (qp 0 0) en) (sb 0 34 (lg 34) sn) (λz=>z.2.1) (λx=>(((),()),(x,()))))
def A87:=(lc (qg 147) (lc (qg 137) ln))
def x87(M:aJ->az->af Od):bu->bu:=eL vn 87 G A87 d87 (λg=>M g.1 g.2.1)
def H87(M:aJ->az->af Od):Prop:=HL vn 87 A87 d87 (λg=>M g.1 g.2.1)
def aac{M:aJ->az->af Od}(hM:H87 M){F:bu}(h:bz vn F):bz vn (x87 M F):=ep (sc:=pF) dh hM ⟨_,func87,aV,aV⟩ (λ_=>aV) (λ_=>aV) h
def F87(M87:aJ->az->af Od):bu:=(awl (Zj (aCS (ae6 (Lm (x87 M87 (e86 (e36 (e32 di)))))))))
def arW{M87}(h87:H87 M87):bz vn (F87 M87):=(U6 (vG (akU (sG (lu (aac h87 (R5 (KQ (Gy aP)))))))))
structure HH where
 (t107 t108:Int)
 b0:aJ
 b1:az
 (b2 b3 b4:aL)
def aby:Td 0 HH:= .c [] [2,3,4,9,11,107,108] (.r 0 5 (ec 2 (qp 0 0) (ec 3 (qp 1 0) (ec 4 (qp 2 0) (ec 9 (qp 3 0) (ec 11 (qp 4 0) (ec 107 aN (ec 108 aN en))))))) (sb 0 147 (lg 147) (sb 1 137 (lg 137) (sb 2 34 (lg 34) (sb 3 34 (lg 34) (sb 4 34 (lg 34) sn))))) (λz=>⟨z.1.q.2.1,z.1.q.t.1,z.2.1,z.t.1,z.t.2.1,z.q.1,z.q.2.1⟩) (λx=>(((),(),(),(),(),x.t107,x.t108,()),(x.b0,x.b1,x.b2,x.b3,x.b4,()))))
def Ww(M87:aJ->az->af Od)(p:HH):af (af HH):=
 bif J (p.t108<p.t107)then match m32 p.b3 p.t108 with|I=>I|V r1=>bif r1 then if 0<=ak ((1:Int)+p.t108)/\ak ((1:Int)+p.t108)<zR p.b1.ax then match M87 p.b0 (az.mk p.b1.ax[(ak (1+p.t108)).toNat]!.bE p.b1.ax[(ak (1+p.t108)).toNat]!.fN p.b1.ax[(ak (1+p.t108)).toNat]!.ax)with|I=>I|V r2=>match lE p.b4 r2 with|I=>I|V r3=>V (V (HH.mk p.t107 (ak (p.t108+1)) p.b0 (az.mk p.b1.bE p.b1.fN p.b1.ax) p.b2 p.b3 r3))else I else V (V (HH.mk p.t107 (ak (p.t108+1)) p.b0 (az.mk p.b1.bE p.b1.fN p.b1.ax) p.b2 p.b3 p.b4))else V (I)
def OF(M87:aJ->az->af Od):=bJ (Ww M87)
def ayW(M87:aJ->az->af Od):An:=(noTwo (.two (noTwo (noTwo (noTwo (noTwo (noTwo (noTwo (noTwo (noTwo (noTwo (noTwo (.two (noTwo (noTwo (.two (noTwo (aby.lp (OF M87) .no)) .no))) .no))))))))))) .no))
def aHV(M87:aJ->az->af Od):eX vn (F87 M87) 0 300 87 (ayW M87):=b6 (l:=[(aY f87 0,(aby.lp (OF M87) .no))]) func87 (bN aV) aV (aA (aO aby) aH)
def s87(M87:aJ->az->af Od)(a0:aJ)(a1:az):af Od:=
 bif J (a1.bE=0)then V (m36 a1.fN)else bif J (a1.bE=24)then if 0<=a1.fN/\a1.fN<zR a0.ai then V (a0.ai[a1.fN.toNat]!)else I else bif J (a1.bE=6)then if(0:Int)<=(0:Int)/\(0:Int)<zR a1.ax then match M87 a0 (az.mk a1.ax[0]!.bE a1.ax[0]!.fN a1.ax[0]!.ax)with|I=>I|V r4=>match Z2 a1.bE r4 with|I=>I|V r5=>V (r5.fst)else I else bif J (a1.bE=7)then if(0:Int)<=(0:Int)/\(0:Int)<zR a1.ax then match M87 a0 (az.mk a1.ax[0]!.bE a1.ax[0]!.fN a1.ax[0]!.ax)with|I=>I|V r6=>match Z2 a1.bE r6 with|I=>I|V r7=>V (r7.fst)else I else bif J (a1.bE=23)then if(0:Int)<=(0:Int)/\(0:Int)<zR a1.ax then match M87 a0 (az.mk a1.ax[0]!.bE a1.ax[0]!.fN a1.ax[0]!.ax)with|I=>I|V r8=>match Fj r8 with|I=>I|V r9=>bif bif r9.fst then G else O then if(0:Int)<=(1:Int)/\(1:Int)<zR a1.ax then match M87 a0 (az.mk a1.ax[1]!.bE a1.ax[1]!.fN a1.ax[1]!.ax)with|I=>I|V r10=>V (r10)else I else bif bif r9.snd then G else O then if(0:Int)<=(2:Int)/\(2:Int)<zR a1.ax then match M87 a0 (az.mk a1.ax[2]!.bE a1.ax[2]!.fN a1.ax[2]!.ax)with|I=>I|V r11=>V (r11)else I else if(0:Int)<=(1:Int)/\(1:Int)<zR a1.ax then match M87 a0 (az.mk a1.ax[1]!.bE a1.ax[1]!.fN a1.ax[1]!.ax)with|I=>I|V r12=>if(0:Int)<=(2:Int)/\(2:Int)<zR a1.ax then match M87 a0 (az.mk a1.ax[2]!.bE a1.ax[2]!.fN a1.ax[2]!.ax)with|I=>I|V r13=>match lE r12 r13 with|I=>I|V r14=>V (r14)else I else I else I else bif J (a1.bE=25)then if(0:Int)<=(0:Int)/\(0:Int)<zR a1.ax then match M87 a0 (az.mk a1.ax[0]!.bE a1.ax[0]!.fN a1.ax[0]!.ax)with|I=>I|V r15=>match m86 r15 0 (ak ((zR a1.ax:Int)-2))with|I=>I|V r16=>match OF M87 (HH.mk (ak ((zR a1.ax:Int)-1)) 0 a0 (az.mk a1.bE a1.fN a1.ax) (aL.mk 0 0 0) r16.fst qM)with|I=>I|V r17=>bif J (r17.t108<r17.t107)then match m32 r17.b3 r17.t108 with|I=>I|V r18=>bif r18 then if 0<=ak ((1:Int)+r17.t108)/\ak ((1:Int)+r17.t108)<zR r17.b1.ax then match M87 r17.b0 (az.mk r17.b1.ax[(ak (1+r17.t108)).toNat]!.bE r17.b1.ax[(ak (1+r17.t108)).toNat]!.fN r17.b1.ax[(ak (1+r17.t108)).toNat]!.ax)with|I=>I|V r19=>match lE r17.b4 r19 with|I=>I|V r20=>I else I else I else V (r17.b4)else I else if(0:Int)<=(0:Int)/\(0:Int)<zR a1.ax then match M87 a0 (az.mk a1.ax[0]!.bE a1.ax[0]!.fN a1.ax[0]!.ax)with|I=>I|V r21=>if(0:Int)<=(1:Int)/\(1:Int)<zR a1.ax then match M87 a0 (az.mk a1.ax[1]!.bE a1.ax[1]!.fN a1.ax[1]!.ax)with|I=>I|V r22=>match oI a1.bE r21 r22 with|I=>I|V r23=>V (r23.fst)else I else I
def c87(M87:aJ->az->af Od)(a0:aJ)(a1:az):bU vn (F87 M87) 300 (ayW M87) 87 (A87.c (a0,a1,())) [] 0 d87.rd=s87 M87 a0 a1:=aV
def aC2:Nat->(aJ->az->af Od)
 |0=>(λ_ _=>I)
 |n+1=>(s87 (aC2 n))
def m87(n:Nat):aJ->az->af Od:=(aC2 n)
def Xo:∀n,H87 (m87 n)
 |0=>λ_ _ h=>(by cases h)
 |n+1=>by
  have ih:=Xo n;have i87:=ih;exact(dR (arW i87) (aHV (m87 n)) (λ_=>aV) (λ_=>aV) λg=>c87 (m87 n) g.1 g.2.1)
def Qe:aJ->az->af Od:=λa0 a1=>lim (λn=>m87 n a0 a1)
def arh:H87 Qe:=λg b h=>by
 obtain⟨n,hn⟩:=dA (show lim (λn=>m87 n g.1 g.2.1)=V b from h);exact(Xo n) g b hn
def e87(F:bu):bu:=x87 Qe F
def Sl{F:bu}(h:bz vn F):bz vn (e87 F):=aac arh h
end Go.Proofs.YtnfljbehcffmcaaGreat
end
noncomputable section
namespace Go.Iv
open Go
variable [U:sV] [L:nj]
def aM{n:Int}(h1: -9223372036854775808<=n:=by omega)(h2:n<9223372036854775808:=by omega):ak n=n:=by
 simp[ak,bG,IntKind.wrap,IntKind.bits,IntKind.signed];omega
def P8{γ:Type}{rnd:γ->af (af γ)}(f:Nat->γ)(n:Nat)(h1:∀i,i<n->rnd (f i)=V (V (f (i+1))))(h2:∀r,rnd (f n)≠V (V r)):bJ rnd (f 0)=V (f n):=by
 have key:∀k i,i+k=n->bJ rnd (f i)=V (f n):=by
  intro k;induction k with
  |zero=>
   intro i hi;have:i=n:=aq
   subst this;exact ct h2
  |succ k ih=>intro i hi;rw[bR (h1 i aq)];exact ih (i+1) aq
 simp_all
def kX{α β ρ:Type}(step:β->α->af β)(ret:β->α->ρ)(fin:β->ρ):aa α->β->ρ
 |[],b=>fin b
 |x::xs,b=>match step b x with
  |some b'=>kX step ret fin xs b'
  |none=>ret b x
def HB{γ α β ρ:Type}{rnd:γ->af (af γ)}(l:aa α)(mk:Nat->β->γ)(step:β->α->af β)(ret:β->α->ρ)(fin:β->ρ)(zb:Nat->β->Prop)
  (h1:∀i b (hi:i<zR l),zb i b->∀b',step b l[i]=V b'->rnd (mk i b)=V (V (mk (i+1) b'))/\zb (i+1) b')
  (h2:∀i b (hi:i<zR l),zb i b->step b l[i]=I->∀r,rnd (mk i b)≠V (V r)) (h3:∀b,zb l.length b->∀r,rnd (mk l.length b)≠V (V r)) {b:β} (hb:zb 0 b):
  ∃i v,i<=zR l/\bJ rnd (mk 0 b)=V (mk i v)/\zb i v/\((i=zR l/\kX step ret fin l b=fin v)\/∃hi:i<zR l,step v l[i]=I/\kX step ret fin l b=ret v l[i]):=by
 have key:∀(xs:aa α) (i:Nat) (b:β),l.drop i=xs->i<=zR l->zb i b->∃j v,j<=zR l/\bJ rnd (mk i b)=V (mk j v)/\zb j v/\((j=zR l/\kX step ret fin xs b=fin v)\/∃hi:j<zR l,step v l[j]=I/\kX step ret fin xs b=ret v l[j]):=by
  intro xs;induction xs with
  |nil=>
   intro i b hd hi hb;have:i=zR l:=by have:=congrArg zR hd;simp at this;omega
   subst this;exact⟨_,b,zm _,ct (h3 b hb),hb, .inl ⟨rfl,rfl⟩⟩
  |cons x xs ih=>
   intro i b hd hi hb;have hil:i<zR l:=by have:=congrArg zR hd;simp at this;omega
   have hx:l[i]=x:=by
    have:=congrArg List.head? hd;rw[List.head?_drop,zu hil]at this;simp_all
   have hd':l.drop (i+1)=xs:=by
    have:=congrArg List.tail hd;rw[List.tail_drop]at this
    assumption
   cases hs:step b x with
   |some b'=>
    obtain⟨q1,q2⟩:=h1 i b hil hb b' (by rw[hx];exact hs);obtain⟨j,v,e1,e2,e3,e4⟩:=ih (i+1) b' hd' hil q2;have er:kX step ret fin (x::xs) b=kX step ret fin xs b':=by simp only[kX,hs]
    exact⟨j,v,e1,by rw[bR q1];exact e2,e3,by rw[er];exact e4⟩
   |none=>
    have er:kX step ret fin (x::xs) b=ret b x:=by simp only[kX,hs]
    exact⟨i,b,hi,ct (h2 i b hil hb (by rw[hx];exact hs)),hb, .inr ⟨hil,by rw[hx];exact hs,by rw[er,hx]⟩⟩
 exact key l 0 b rfl (yW _) hb
end Go.Iv
end
noncomputable section
set_option maxRecDepth 100000
namespace Go.Proofs.YtnfljbehcffmcaaGreat
open Go Go.Iv
open Go.IntKind (i64 u64)
def gR{n:Int}(h1:0<=n:=by omega)(h2:n<18446744073709551616:=by omega):bG n=n:=by
 simp only[ak,bG,IntKind.wrap,IntKind.signed,IntKind.bits]at*;simp;omega
def TM(n:Int):bG n=n%18446744073709551616:=by
 simp only[ak,bG,IntKind.wrap,IntKind.signed,IntKind.bits]at*;simp
structure gX (y1 y0 u d q r:Int):Prop where
 r0:0<=r
 r1:r<4294967296
 q0:0<=q
 q1:q<=4294967297
 e:u=q*y1+r
 hi:u*4294967296+d<(q+1)*(y1*4294967296+y0)
 top:q=4294967297->r+y1<4294967296
structure sO (y1 y0 u d:Int):Prop where
 ha:2147483648<=y1
 hb:y1<4294967296
 hc:0<=y0
 hd:y0<4294967296
 he:0<=u
 hf:u<y1*4294967296+y0
 hg:0<=d
 hh:d<4294967296
def gX.start{y1 y0 u d:Int}(h:sO y1 y0 u d):gX y1 y0 u d (u/y1) (u%y1):=by
 obtain⟨ha,hb,hc,hd,he,hf,hg,hh⟩:=h;have e1:=yY u y1;have m0:=yZ u (b:=y1) aq;have m1:=y8 u (b:=y1) aq;have q0:0<=u/y1:=zS he aq;have q1:u/y1<=4294967297:=by
  have:u/y1<4294967298:=wZ aq aq;omega
 rw[zO]at e1;refine⟨m0,aq,q0,q1,aq,?_,λhq=> ?_⟩
 ·have k1:(u/y1+1)*(y1*4294967296+y0)=((u/y1)*y1)*4294967296+y1*4294967296+(u/y1)*y0+y0:=by
   rw[zU,xF,yd,yb];omega
  have k2:0<=u/y1*y0:=zI q0 hc;rw[k1];omega
 ·rw[hq]at e1;omega
def gX.stop{y1 y0 u d q r:Int}(H:sO y1 y0 u d)(h:gX y1 y0 u d q r)(h1:q<4294967296)(h2:¬4294967296*r+d<q*y0):q*(y1*4294967296+y0)<=u*4294967296+d:=by
 have k:q*(y1*4294967296+y0)=(q*y1)*4294967296+q*y0:=by rw[xF,yb]
 have:=h.e;rw[k];omega
def gX.big{y1 y0 u d q r:Int}(H:sO y1 y0 u d)(h:gX y1 y0 u d q r)(h1:4294967296<=q\/4294967296*r+d<q*y0):u*4294967296+d<q*(y1*4294967296+y0):=by
 have k:q*(y1*4294967296+y0)=(q*y1)*4294967296+q*y0:=by rw[xF,yb]
 have e:=h.e;rcases h1 with h1|h1
 ·have k2:4294967296*(y1*4294967296+y0)<=q*(y1*4294967296+y0):=zM h1 (by have:=H.ha;have:=H.hc;omega);have:=H.hf;have:=H.hh;omega
 ·rw[k];omega
def gX.pos{y1 y0 u d q r:Int}(H:sO y1 y0 u d)(h:gX y1 y0 u d q r)(h1:4294967296<=q\/4294967296*r+d<q*y0):1<=q:=by
 have k:=gX.big H h h1;have:=h.q0;rcases (show q=0\/1<=q by omega)with rfl|h2
 ·rw[Int.zero_mul]at k;have:=H.he;have:=H.hg;omega
 ·exact h2
def gX.next{y1 y0 u d q r:Int}(H:sO y1 y0 u d)(h:gX y1 y0 u d q r)(h1:4294967296<=q\/4294967296*r+d<q*y0)(h2:r+y1<4294967296):gX y1 y0 u d (q-1) (r+y1):=by
 have hb:=gX.big H h h1;have hp:=gX.pos H h h1;have:=H.ha;have:=h.r0;have:=h.q1;refine⟨aq,h2,aq,aq,?_,?_,λhq=>aq⟩
 ·rw[yB,yd];have:=h.e;omega
 ·rw[show q-1+1=q by omega];exact hb
def gX.brk{y1 y0 u d q r:Int}(H:sO y1 y0 u d)(h:gX y1 y0 u d q r)(h1:4294967296<=q\/4294967296*r+d<q*y0)(h2:4294967296<=r+y1):(q-1)*(y1*4294967296+y0)<=u*4294967296+d:=by
 have hp:=gX.pos H h h1;have hq:q<=4294967296:=by
  have:=h.q1;have:=h.top;omega
 have k:(q-1)*(y1*4294967296+y0)=(q*y1)*4294967296-y1*4294967296+(q-1)*y0:=by
  rw[xF,<-yb,yB q 1 y1,yd,yB]
 have k2:(q-1)*y0<=4294967296*y0:=zM aq H.hc;have:=h.e;have:=H.hd;have:=H.hg;rw[k];omega
def M9(y1 y0 u d q:Int):Prop:=0<=q/\q<=4294967297/\q*(y1*4294967296+y0)<=u*4294967296+d/\u*4294967296+d<(q+1)*(y1*4294967296+y0)
def gX.y0q{y1 y0 u d q r:Int}(H:sO y1 y0 u d)(h:gX y1 y0 u d q r)(h1:q<4294967296):bG (q*y0)=q*y0:=by
 have k1:0<=q*y0:=zI h.q0 H.hc;have k2:q*y0<=4294967295*y0:=zM aq H.hc;have:=H.hd;exact gR k1 aq
def gX.rr{y1 y0 u d q r:Int}(H:sO y1 y0 u d)(h:gX y1 y0 u d q r):bG (bG (4294967296*r)+d)=4294967296*r+d:=by
 have:=h.r0;have:=h.r1;have:=H.hg;have:=H.hh;rw[gR (n:=4294967296*r),gR]
def gX.cnd{y1 y0 u d q r:Int}(H:sO y1 y0 u d)(h:gX y1 y0 u d q r):(bif J (4294967296<=q)then V O else V (J (bG (bG (4294967296*r)+d)<bG (q*y0))))=V (J (4294967296<=q\/4294967296*r+d<q*y0)):=by
 by_cases hq:4294967296<=q
 ·rw[bZ hq,bZ (Or.inl hq),cI]
 ·rw[bY hq,cw,gX.rr H h,gX.y0q H h aq];by_cases hc:4294967296*r+d<q*y0
  ·rw[bZ hc,bZ (Or.inr hc)]
  ·rw[bY hc,bY (λk=>k.elim hq hc)]
def gX.done{y1 y0 u d q r:Int}(H:sO y1 y0 u d)(h:gX y1 y0 u d q r)(hr:4294967296<=q\/4294967296*r+d<q*y0->4294967296<=r+y1):M9 y1 y0 u d (bif J (4294967296<=q\/4294967296*r+d<q*y0)then q-1 else q):=by
 have h0:=h.q0;have h1:=h.q1;by_cases hc:4294967296<=q\/4294967296*r+d<q*y0
 ·rw[bZ hc,cI];have:=gX.pos H h hc;refine⟨aq,aq,gX.brk H h hc (hr hc),?_⟩;rw[show q-1+1=q by omega];exact gX.big H h hc
 ·rw[bY hc,cw];exact⟨h0,aq,gX.stop H h aq (λk=>hc (.inr k)),h.hi⟩
def gX.wr1{y1 y0 u d q r:Int}(H:sO y1 y0 u d)(h:gX y1 y0 u d q r):bG (r+y1)=r+y1:=by
 have:=h.r0;have:=h.r1;have:=H.ha;have:=H.hb;exact gR
def gX.wq1{y1 y0 u d q r:Int}(H:sO y1 y0 u d)(h:gX y1 y0 u d q r)(hc:4294967296<=q\/4294967296*r+d<q*y0):bG (q-1)=q-1:=by
 have:=h.q1;have:=gX.pos H h hc;exact gR
def acX{y s y1 y0 u d e q r:Int}(H:sO y1 y0 u d)(h:gX y1 y0 u d q r):∃q' r',IY (pn.mk y s y1 y0 u d e q r)=V (pn.mk y s y1 y0 u d e q' r')/\gX y1 y0 u d q' r'/\(4294967296<=q'\/4294967296*r'+d<q'*y0->4294967296<=r'+y1):=by
 obtain⟨z,e1,⟨q',r',rfl,hI⟩,hs⟩:=mh (rnd:=Ck) (λp=>∃q r,p=pn.mk y s y1 y0 u d e q r/\gX y1 y0 u d q r) (λp=>zD p.t15) (λp p' ⟨q,r,hp,hI⟩ hn=>by
  subst hp;have hn:Ck (pn.mk y s y1 y0 u d e q r)=V (V p'):=hn;simp only[Ck]at hn;rw[gX.cnd H hI]at hn;by_cases hc:4294967296<=q\/4294967296*r+d<q*y0
  ·rw[bZ hc]at hn;simp only[cI,gX.wr1 H hI,gX.wq1 H hI hc]at hn;by_cases hb:4294967296<=r+y1
   ·rw[bZ hb]at hn;cases hn
   ·rw[bY hb]at hn;simp only[cw,zF.injEq]at hn;have hp:=gX.pos H hI hc;subst hn;exact⟨⟨q-1,r+y1,rfl,gX.next H hI hc aq⟩,by show (q-1).toNat<q.toNat;omega⟩
  ·rw[bY hc]at hn;cases hn) ⟨q,r,rfl,h⟩
 refine⟨q',r',e1,hI,λhc=> ?_⟩;by_cases hb:4294967296<=r'+y1
 ·exact hb
 ·exact ei (show Ck _=V (V _)by
   simp only[Ck];rw[gX.cnd H hI,bZ hc];simp only[cI,gX.wr1 H hI];rw[bY hb];rfl) (hs _)
def OT{y s y1 y0 u d e q r:Int}(H:sO y1 y0 u d)(h:gX y1 y0 u d q r):∃q' r',GH (mS.mk y s y1 y0 d e r u q)=V (mS.mk y s y1 y0 d e r' u q')/\gX y1 y0 u d q' r'/\(4294967296<=q'\/4294967296*r'+d<q'*y0->4294967296<=r'+y1):=by
 obtain⟨z,e1,⟨q',r',rfl,hI⟩,hs⟩:=mh (rnd:=Ce) (λp=>∃q r,p=mS.mk y s y1 y0 d e r u q/\gX y1 y0 u d q r) (λp=>zD p.t18) (λp p' ⟨q,r,hp,hI⟩ hn=>by
  subst hp;have hn:Ce (mS.mk y s y1 y0 d e r u q)=V (V p'):=hn;simp only[Ce]at hn;rw[gX.cnd H hI]at hn;by_cases hc:4294967296<=q\/4294967296*r+d<q*y0
  ·rw[bZ hc]at hn;simp only[cI,gX.wr1 H hI,gX.wq1 H hI hc]at hn;by_cases hb:4294967296<=r+y1
   ·rw[bZ hb]at hn;cases hn
   ·rw[bY hb]at hn;simp only[cw,zF.injEq]at hn;have hp:=gX.pos H hI hc;subst hn;exact⟨⟨q-1,r+y1,rfl,gX.next H hI hc aq⟩,by show (q-1).toNat<q.toNat;omega⟩
  ·rw[bY hc]at hn;cases hn) ⟨q,r,rfl,h⟩
 refine⟨q',r',e1,hI,λhc=> ?_⟩;by_cases hb:4294967296<=r'+y1
 ·exact hb
 ·exact ei (show Ce _=V (V _)by
   simp only[Ce];rw[gX.cnd H hI,bZ hc];simp only[cI,gX.wr1 H hI];rw[bY hb];rfl) (hs _)
def apK{n:Int}(h1:0<=n)(h2:n<256):IntKind.u8.wrap n=n:=by
 simp only[ak,bG,IntKind.wrap,IntKind.signed,IntKind.bits]at*;simp;omega
def acI{x:Int}(k:Nat)(hk:k<=64):cS u64 x (k:Int)=x/2^k:=by
 unfold cS;rw[show min ((k:Int)).toNat u64.bits=k from by simp only[zi,IntKind.bits];omega];exact Int.fdiv_eq_ediv_of_nonneg _ (xT (Int.pow_pos aq))
def anR(i:Nat):Bool:=i==0||((zN 9).any λt=>(l5.data[i]!).toNat==t&&J (1<=t)&&J (2^(t-1)<=i)&&J (i<2^t))
def ajp:(zN 256).all anR=O:=aV
def af7{x:Int}(h1:1<=x)(h2:x<256):∃t:Nat,1<=t/\t<=8/\cv l5 (IntKind.u8.wrap x).toNat=(t:Int)/\2^(t-1)<=x/\x<2^t:=by
 rw[apK aq h2];have h:=zx.mp ajp x.toNat (List.mem_range.mpr aq);simp only[anR,yJ,beq_iff_eq,xU,List.mem_range,zh,decide_eq_true_eq]at h;rcases h with h|⟨t,ht,⟨⟨h3,h4⟩,h5⟩,h6⟩
 ·omega
 ·have h5':((2^(t-1):Nat):Int)<=(x.toNat:Int):=Int.ofNat_le.mpr h5;have h6':((x.toNat:Nat):Int)<((2^t:Nat):Int):=Int.ofNat_lt.mpr h6;rw[Int.toNat_of_nonneg aq,Int.natCast_pow]at h5' h6';exact⟨t,h4,aq,by unfold cv;rw[h3],h5',h6'⟩
def aep{a x:Int}{n t:Nat}(h1:1<=t)(h2:t<=8)(hx1:2^(t-1)<=x)(hx2:x<2^t)(hn:n<=56)(ha1:x*2^n<=a)(ha2:a<(x+1)*2^n):
  2^63<=a*2^(64-(n+t))/\a*2^(64-(n+t))<2^64:=by
 have p0:∀k:Nat,(0:Int)<2^k:=λk=>Int.pow_pos aq;have e1:(2:Int)^63=2^(t-1)*2^n*2^(64-(n+t)):=by
  rw[<-Int.pow_add,<-Int.pow_add];congr 1;omega
 have e2:(2:Int)^64=2^t*2^n*2^(64-(n+t)):=by
  rw[<-Int.pow_add,<-Int.pow_add];congr 1;omega
 rw[e1,e2];refine⟨zM (xV (zM hx1 (xT (p0 n))) ha1) (xT (p0 _)),?_⟩;refine Int.mul_lt_mul_of_pos_right (Int.lt_of_lt_of_le ha2 ?_) (p0 _);exact zM aq (xT (p0 n))
def Vk(x:Int):cS u64 x 32=x/4294967296:=acI (x:=x) 32 aq
def ayN(x:Int):cS u64 x 16=x/65536:=acI (x:=x) 16 aq
def aFw(x:Int):cS u64 x 8=x/256:=acI (x:=x) 8 aq
def abd(a:Int)(r:af Int):Prop:=∃s:Nat,s<=63/\(match r with|I=>I|V r1=>V (ak (64-r1)))=V (s:Int)/\2^63<=a*2^s/\a*2^s<2^64
def ja{a x:Int}(n:Nat)(hn:n<=56)(hx1:1<=x)(hx2:x<256)(ha1:x*2^n<=a)(ha2:a<(x+1)*2^n):
  abd a (if(0:Int)<=IntKind.u8.wrap x/\IntKind.u8.wrap x<(256:Int)then V (ak ((n:Int)+ak (cv l5 (IntKind.u8.wrap x).toNat)))else I):=by
 obtain⟨t,h1,h2,h3,h4,h5⟩:=af7 hx1 hx2;rw[bI (by rw[apK aq hx2];omega),h3];refine⟨64-(n+t),aq,?_,aep h1 h2 h4 h5 hn ha1 ha2⟩;rw[aM (n:=(t:Int)),aM (n:=(n:Int)+t)];show V _=_;rw[aM]
 congr 1
 omega
def ahB{a:Int}(h1:1<=a)(h2:a<18446744073709551616):∃s:Nat,s<=63/\atz a=V (s:Int)/\2^63<=a*2^s/\a*2^s<2^64:=by
 show abd a (agP a);unfold agP;simp only[Vk,ayN,aFw];by_cases c1:4294967296<=a
 ·rw[bZ c1,cI];by_cases c2:65536<=a/4294967296
  ·rw[bZ c2,cI];by_cases c3:256<=a/4294967296/65536
   ·rw[bZ c3,cI];exact ja 56 aq aq aq aq aq
   ·rw[bY c3,cw];exact ja 48 aq aq aq aq aq
  ·rw[bY c2,cw];by_cases c3:256<=a/4294967296
   ·rw[bZ c3,cI];exact ja 40 aq aq aq aq aq
   ·rw[bY c3,cw];exact ja 32 aq aq aq aq aq
 ·rw[bY c1,cw];by_cases c2:65536<=a
  ·rw[bZ c2,cI];by_cases c3:256<=a/65536
   ·rw[bZ c3,cI];exact ja 24 aq aq aq aq aq
   ·rw[bY c3,cw];exact ja 16 aq aq aq aq aq
  ·rw[bY c2,cw];by_cases c3:256<=a
   ·rw[bZ c3,cI];exact ja 8 aq aq aq aq aq
   ·rw[bY c3,cw];exact ja 0 aq aq aq aq aq
def aub{x:Int}(k:Nat)(hk:k<=64):mZ u64 x (k:Int)=(x*2^k)%18446744073709551616:=by
 unfold mZ;rw[show min ((k:Int)).toNat u64.bits=k from by simp only[zi,IntKind.bits];omega];exact TM _
def LJ{x:Int}(h1:0<=x)(h2:x<18446744073709551616):(BitVec.ofInt 64 x).toNat=x.toNat:=by
 rw[BitVec.toNat_ofInt]
 congr 1
 omega
def aeS{x:Int}(h1:0<=x)(h2:x<18446744073709551616):tX u64 x 4294967295=x%4294967296:=by
 unfold tX;show bG ((BitVec.ofInt 64 x&&&BitVec.ofInt 64 4294967295).toNat:Int)=_;rw[BitVec.toNat_and,LJ h1 h2,LJ aq aq,show (4294967295:Int).toNat=2^32-1 from rfl,Nat.and_two_pow_sub_one_eq_mod,gR];omega
def orU{a b:Nat}{k:Nat}(hb:b<2^k)(h:2^k*a+b<18446744073709551616):bOr u64 ((2^k*a:Nat):Int) (b:Int)=((2^k*a+b:Nat):Int):=by
 unfold bOr;show bG ((BitVec.ofInt 64 ((2^k*a:Nat):Int)|||BitVec.ofInt 64 (b:Int)).toNat:Int)=_;rw[BitVec.toNat_or,LJ aq aq,LJ aq aq,zi,zi,<-Nat.two_pow_add_eq_or_of_lt hb,gR]
def kF{a b:Int}(h1:0<=a:=by omega):a.tdiv b=a/b:=Int.tdiv_eq_ediv_of_nonneg h1
def kU{a b:Int}(h1:0<=a:=by omega):a.tmod b=a%b:=Int.tmod_eq_emod_of_nonneg h1
def wq0{u y1:Int}(h1:0<=u)(h2:u<18446744073709551616)(h3:2<=y1):bG (u.tdiv y1)=u/y1:=by
 rw[kF h1];have:u/y1<=u:=yo _ h1;exact gR (zS h1 aq) aq
def wr0{u y1:Int}(h1:0<=u)(h2:u<18446744073709551616)(h3:2<=y1):bG (u-bG (u/y1*y1))=u%y1:=by
 have e:=yY u y1;have m0:=yZ u (b:=y1) aq;rw[zO]at e;have q0:0<=u/y1*y1:=zI (zS h1 aq) aq;rw[gR (n:=u/y1*y1) q0 aq,gR];omega
def anI{u d q y:Int}(h1:q*y<=u*4294967296+d)(h2:u*4294967296+d<(q+1)*y)(hy:y<18446744073709551616):
  bG (bG (bG (u*4294967296)+d)-bG (q*y))=u*4294967296+d-q*y:=by
 rw[zU,yd]at h2;generalize q*y=z at*;simp only[TM];omega
def atp{hi lo y:Int}(h0:0<=hi)(h1:hi<y)(h2:y<18446744073709551616)(h3:0<=lo)(h4:lo<18446744073709551616):∃q,acz hi lo y=V (q,(hi*18446744073709551616+lo)%y):=by
 by_cases hz:hi=0
 ·subst hz;refine⟨bG (lo.tdiv y),?_⟩;unfold acz;rw[fK,fK,bZ rfl,cw,cw,cI,gW,gW,kU h3];rw[show (0:Int)*18446744073709551616+lo=lo by omega]
 obtain⟨s,hs,es,b1,b2⟩:=ahB (a:=y) aq h2;have hP:(0:Int)<2^s:=Int.pow_pos aq;have hQ:(0:Int)<2^(64-s):=Int.pow_pos aq;have hPQ:(2:Int)^(64-s)*2^s=18446744073709551616:=by rw[<-Int.pow_add,show 64-s+s=64 by omega];rfl
 have b1:(9223372036854775808:Int)<=y*2^s:=b1;have b2:y*2^s<18446744073709551616:=b2;have eY:mZ u64 y (s:Int)=y*2^s:=by rw[aub s aq,Int.emod_eq_of_lt aq b2]
 have lb:lo/2^(64-s)<2^s:=wZ hQ (by rw[zO,hPQ];exact h4);have lb0:0<=lo/2^(64-s):=zS h3 aq;have hy1:(hi+1)*2^s<=y*2^s:=zM aq aq;have hy2:(hi+1)*2^s=hi*2^s+2^s:=by rw[zU,yd]
 have hp0:0<=hi*2^s:=zI h0 aq;have eU:bOr u64 (mZ u64 hi (s:Int)) (cS u64 lo (bG (64-(s:Int))))=hi*2^s+lo/2^(64-s):=by
  rw[aub s aq,Int.emod_eq_of_lt hp0 aq,gR (n:=64-(s:Int)),show (64-(s:Int))=((64-s:Nat):Int)by omega,acI (64-s) aq];obtain⟨a,rfl⟩:=w9 h0;obtain⟨b,hb⟩:=w9 lb0;rw[hb]at lb ⊢;have e:(a:Int)*2^s=((2^s*a:Nat):Int):=by rw[wG,Int.natCast_pow,zO];rfl
  have lb':b<2^s:=by
   have:((b:Nat):Int)<((2^s:Nat):Int):=by rw[Int.natCast_pow];exact lb
   exact Int.ofNat_lt.mp this
  rw[e]at hp0 hy2 ⊢;rw[orU lb' aq];omega
 have eD:mZ u64 lo (s:Int)=(lo*2^s)%18446744073709551616:=aub s aq;have key:(hi*18446744073709551616+lo)*2^s=(hi*2^s+lo/2^(64-s))*18446744073709551616+(lo*2^s)%18446744073709551616:=by
  have k1:=yY (lo*2^s) 18446744073709551616;have k2:lo*2^s/18446744073709551616=lo/2^(64-s):=by rw[<-hPQ];exact Int.mul_ediv_mul_of_pos_left _ _ hP
  rw[k2]at k1;rw[zU,yb,zO 18446744073709551616 (2^s),<-yb];omega
 have hD0:0<=(lo*2^s)%18446744073709551616:=aq;have hD1:(lo*2^s)%18446744073709551616<18446744073709551616:=aq;have hU0:0<=hi*2^s+lo/2^(64-s):=aq;have hU1:hi*2^s+lo/2^(64-s)<y*2^s:=aq;have res:∀Q,Q*(y*2^s)<=(hi*18446744073709551616+lo)*2^s->(hi*18446744073709551616+lo)*2^s<(Q+1)*(y*2^s)->((hi*18446744073709551616+lo)*2^s-Q*(y*2^s))/2^s=(hi*18446744073709551616+lo)%y:=λQ q1 q2=>by
  rw[<-yb,<-yB,Int.mul_ediv_cancel _ aq];rw[<-yb]at q1 q2;have q1:=Int.le_of_mul_le_mul_right q1 hP;have q2:=wK q2 (xT hP);rw[zU,yd]at q2;have e:=yY (hi*18446744073709551616+lo) y;generalize hi*18446744073709551616+lo=X at*;have:X/y=Q:=by
   apply Int.le_antisymm
   ·have:X/y<Q+1:=wZ aq (by rw[zU,yd];exact q2);omega
   ·exact Int.le_ediv_of_mul_le aq q1
  rw[this,zO]at e;omega
 rw[key]at res;unfold acz;rw[bY (show ¬y=0 by omega),bY (show ¬y<=hi by omega),bY hz,cw,cw,cw,es];simp only[gR (n:=(s:Int))];rw[eY,eU,eD,gR (n:=64-(s:Int)),gW,gW,gW,gW];generalize hi*2^s+lo/2^(64-s)=U at*;generalize (lo*2^s)%18446744073709551616=D at*;generalize y*2^s=Y at*;clear eY eU eD key hy1 hy2 hp0 lb lb0 hPQ hQ h1 hz;have eY1:Y/4294967296*4294967296+Y%4294967296=Y:=aq;have H0:sO (Y/4294967296) (Y%4294967296) U (D/4294967296):=⟨aq,aq,aq,aq,hU0,aq,aq,aq⟩;have hU2:U<18446744073709551616:=aq;rw[Vk,Vk,aeS hD0 hD1,aeS aq b2,gW,wq0 hU0 hU2 aq,wr0 hU0 hU2 aq];obtain⟨q1,r1,e1,I1,s1⟩:=acX (y:=Y) (s:=(s:Int)) (e:=D%4294967296) H0 (gX.start H0);rw[e1];have D1:=gX.done H0 I1 s1;simp only[gX.cnd H0 I1,gX.wr1 H0 I1];have second:∀Q1,M9 (Y/4294967296) (Y%4294967296) U (D/4294967296) Q1->∃W,sO (Y/4294967296) (Y%4294967296) W (D%4294967296)/\bG (bG (bG (U*4294967296)+D/4294967296)-bG (Q1*Y))=W/\W=U*4294967296+D/4294967296-Q1*Y/\0<=W/\W<Y:=λQ1 hk=>by
  unfold M9 at hk;rw[eY1]at hk;obtain⟨k0,k1,k2,k3⟩:=hk;have k4:=k3;rw[zU,yd]at k4;exact⟨_,⟨aq,aq,aq,aq,aq,aq,aq,aq⟩,anI k2 k3 b2,rfl,aq,aq⟩
 have fin:∀Q1 Q2 W,W=U*4294967296+D/4294967296-Q1*Y->M9 (Y/4294967296) (Y%4294967296) W (D%4294967296) Q2->cS u64 (bG (bG (bG (W*4294967296)+D%4294967296)-bG (Q2*Y))) (s:Int)=(hi*18446744073709551616+lo)%y:=λQ1 Q2 W hW hk=>by
  unfold M9 at hk;rw[eY1]at hk;obtain⟨k0,k1,k2,k3⟩:=hk;rw[anI k2 k3 b2,acI s aq];have e:U*18446744073709551616+D=W*4294967296+D%4294967296+Q1*4294967296*Y:=by
   rw[hW,yb,zO 4294967296 Y,<-yb];omega
  rw[<-res (Q1*4294967296+Q2)]
  ·congr 1
   rw[zU];omega
  ·rw[zU];omega
  ·rw[zU,yd]at k3;rw[Int.add_assoc,zU,zU Q2,yd];omega
 by_cases c1:4294967296<=q1\/4294967296*r1+D/4294967296<q1*(Y%4294967296)
 ·rw[bZ c1]at D1 ⊢;rw[cI]at D1;rw[cI,bZ (s1 c1),cI,gW,gX.wq1 H0 I1 c1];obtain⟨W,H1,w1,w2,w3,w4⟩:=second _ D1;rw[w1,wq0 w3 aq aq,wr0 w3 aq aq];obtain⟨q2,r2,e2,I2,s2⟩:=OT (y:=Y) (s:=(s:Int)) (e:=q1-1) H1 (gX.start H1);rw[e2];have D2:=gX.done H1 I2 s2;simp only[gX.cnd H1 I2,gX.wr1 H1 I2];by_cases c2:4294967296<=q2\/4294967296*r2+D%4294967296<q2*(Y%4294967296)
  ·rw[bZ c2]at D2 ⊢;rw[cI]at D2;rw[cI,bZ (s2 c2),cI,gW,gX.wq1 H1 I2 c2,fin _ _ W w2 D2];exact⟨_,rfl⟩
  ·rw[bY c2]at D2 ⊢;rw[cw]at D2;rw[cw,gW,fin _ _ W w2 D2];exact⟨_,rfl⟩
 ·rw[bY c1]at D1 ⊢;rw[cw]at D1;rw[cw,gW];obtain⟨W,H1,w1,w2,w3,w4⟩:=second _ D1;rw[w1,wq0 w3 aq aq,wr0 w3 aq aq];obtain⟨q2,r2,e2,I2,s2⟩:=OT (y:=Y) (s:=(s:Int)) (e:=q1) H1 (gX.start H1);rw[e2];have D2:=gX.done H1 I2 s2;simp only[gX.cnd H1 I2,gX.wr1 H1 I2];by_cases c2:4294967296<=q2\/4294967296*r2+D%4294967296<q2*(Y%4294967296)
  ·rw[bZ c2]at D2 ⊢;rw[cI]at D2;rw[cI,bZ (s2 c2),cI,gW,gX.wq1 H1 I2 c2,fin _ _ W w2 D2];exact⟨_,rfl⟩
  ·rw[bY c2]at D2 ⊢;rw[cw]at D2;rw[cw,gW,fin _ _ W w2 D2];exact⟨_,rfl⟩
def mul_lt{a b m n:Int}(h1:0<=a)(h2:a<=m)(h3:0<=b)(h4:b<=n):0<=a*b/\a*b<=m*n:=
 ⟨zI h1 h3,y4 h2 h4 h3 aq⟩
def arY{x y:Int}(h1:0<=x)(h2:x<18446744073709551616)(h3:0<=y)(h4:y<18446744073709551616):aa2 x y=(x*y/18446744073709551616,x*y%18446744073709551616):=by
 unfold aa2;simp only[Vk,aeS h1 h2,aeS h3 h4];have e:x*y=(x/4294967296*(y/4294967296))*18446744073709551616+(x/4294967296*(y%4294967296))*4294967296+(x%4294967296*(y/4294967296))*4294967296+x%4294967296*(y%4294967296):=by
  conv=>lhs;rw[show x=x/4294967296*4294967296+x%4294967296 by omega,show y=y/4294967296*4294967296+y%4294967296 by omega]
  generalize x/4294967296=a;generalize x%4294967296=b;generalize y/4294967296=c;generalize y%4294967296=d;rw[zU,xF,xF,yb,Int.mul_left_comm 4294967296 c,yb,zO 4294967296 d,<-yb b,<-yb a d,<-yb a c];omega
 obtain⟨a0,a1⟩:=mul_lt (a:=x/4294967296) (b:=y/4294967296) (m:=4294967295) (n:=4294967295) aq aq aq aq;obtain⟨b0,b1⟩:=mul_lt (a:=x/4294967296) (b:=y%4294967296) (m:=4294967295) (n:=4294967295) aq aq aq aq;obtain⟨c0,c1⟩:=mul_lt (a:=x%4294967296) (b:=y/4294967296) (m:=4294967295) (n:=4294967295) aq aq aq aq;obtain⟨d0,d1⟩:=mul_lt (a:=x%4294967296) (b:=y%4294967296) (m:=4294967295) (n:=4294967295) aq aq aq aq;rw[e];generalize x/4294967296*(y/4294967296)=A at*;generalize x/4294967296*(y%4294967296)=B at*;generalize x%4294967296*(y/4294967296)=C at*;generalize x%4294967296*(y%4294967296)=D at*;rw[gR (n:=A),gR (n:=B),gR (n:=C),gR (n:=D),
  gR (n:=B+D/4294967296),aeS aq aq,gR (n:=(B+D/4294967296)%4294967296+C)]
 rw[gR (n:=A+(B+D/4294967296)/4294967296),gR,TM]
 congr 1
 omega
def aqd{x y m:Int}(h1:0<=x)(h2:x<m)(h3:0<=y)(h4:y<m)(h5:m<9223372036854775808):ajY x y m=V (x*y%m):=by
 unfold ajY;rw[gR h1 aq,gR h3 aq,gR (n:=m),arY h1 aq h3 aq];simp only;obtain⟨k0,k1⟩:=mul_lt (a:=x) (b:=y) (m:=m) (n:=m-1) h1 aq h3 aq;have hx:x*y<m*18446744073709551616:=by
  have:m*(m-1)<=m*18446744073709551615:=va aq aq;omega
 unfold auD;have hh:x*y/18446744073709551616<m:=wZ aq hx;have hh0:0<=x*y/18446744073709551616:=aq;rw[gW,kU hh0,Int.emod_eq_of_lt hh0 hh];obtain⟨q,e⟩:=atp hh0 hh aq (show 0<=x*y%18446744073709551616 by omega) aq;rw[e,show x*y/18446744073709551616*18446744073709551616+x*y%18446744073709551616=x*y by omega];simp only;have r0:=yZ (x*y) (b:=m) aq;have r1:=y8 (x*y) (b:=m) aq;rw[aM]
def cA(a b:Int):Int:=((yC a b:Nat):Int)
def qu{a b:Int}(h1:0<=a)(h2:0<=b):yC b (a.tmod b)=yC a b:=by
 obtain⟨x,rfl⟩:=w9 h1;obtain⟨y,rfl⟩:=w9 h2;rw[kU h1];show Nat.gcd y ((x:Int)%(y:Int)).natAbs=Nat.gcd x y;rw[<-Int.natCast_emod,Int.natAbs_natCast,Nat.gcd_comm,<-Nat.gcd_rec,Nat.gcd_comm]
def aou{a:Int}(h:0<=a):((yC a 0:Nat):Int)=a:=by
 rw[Int.gcd_zero_right];omega
def CL{x:Int}:(bif J (x=0)then G else O)=J (¬x=0):=by
 by_cases h:x=0
 ·rw[bZ h,bY (λk=>k h)];rfl
 ·rw[bY h,bZ h];rfl
def asl{a b:Int}(h1:0<=a)(h2:0<=b):Fk (ow.mk a b)=V (ow.mk (yC a b) 0):=by
 obtain⟨z,e,⟨x,y,rfl,hx,hy,hg⟩,hs⟩:=mh (rnd:=tO) (λp=>∃x y,p=ow.mk x y/\0<=x/\0<=y/\yC x y=yC a b) (λp=>zD p.t1) (λp p' ⟨x,y,hp,hx,hy,hg⟩ hn=>by
  subst hp;have hn:tO (ow.mk x y)=V (V p'):=hn;simp only[tO,CL]at hn;by_cases h0:y=0
  ·rw[fK,cw]at hn;cases hn
  ·rw[bZ h0,cI,bI h0]at hn;simp only[zF.injEq]at hn;subst hn;have m0:=yZ x (b:=y) h0;have m1:=y8 x (b:=y) aq;refine⟨⟨y,x.tmod y,rfl,hy,by rw[kU hx];exact m0,by rw[qu hx hy,hg]⟩,?_⟩;show (x.tmod y).toNat<y.toNat
   rw[kU hx];omega) ⟨a,b,rfl,h1,h2,rfl⟩
 have h0:y=0:=Decidable.byContradiction λh0=>hs _ (show tO _=V (V _)by
  simp only[tO,CL];rw[bZ h0,cI,bI h0])
 subst h0;rw[show Fk=bJ tO from rfl,e,<-hg,aou hx]
def DD{a b:Int}(h1:0<=a)(h2:0<=b):CT a b=V (cA a b):=by
 unfold CT;rw[asl h1 h2];rfl
def arE{a b k n:Int}{l:aa Int}(h1:0<=a)(h2:0<=b):AG (ng.mk a b l n k)=V (ng.mk (yC a b) 0 l n k):=by
 obtain⟨z,e,⟨x,y,rfl,hx,hy,hg⟩,hs⟩:=mh (rnd:=ud) (λp=>∃x y,p=ng.mk x y l n k/\0<=x/\0<=y/\yC x y=yC a b) (λp=>zD p.t5) (λp p' ⟨x,y,hp,hx,hy,hg⟩ hn=>by
  subst hp;have hn:ud (ng.mk x y l n k)=V (V p'):=hn;simp only[ud,CL]at hn;by_cases h0:y=0
  ·rw[fK,cw]at hn;cases hn
  ·rw[bZ h0,cI,bI h0]at hn;simp only[zF.injEq]at hn;subst hn;have m0:=yZ x (b:=y) h0;have m1:=y8 x (b:=y) aq;refine⟨⟨y,x.tmod y,rfl,hy,by rw[kU hx];exact m0,by rw[qu hx hy,hg]⟩,?_⟩;show (x.tmod y).toNat<y.toNat
   rw[kU hx];omega) ⟨a,b,rfl,h1,h2,rfl⟩
 have h0:y=0:=Decidable.byContradiction λh0=>hs _ (show ud _=V (V _)by
  simp only[ud,CL];rw[bZ h0,cI,bI h0])
 subst h0;rw[show AG=bJ ud from rfl,e,<-hg,aou hx]
def Er{a k k1:Int}{l:aa Int}(i:Nat)(h1:0<=a)(hk:k=i)(hk1:k1=i+1)(hi:i<zR l)(hl:zR l<=1000)(h2:0<=l[i]!):tI (uu.mk a l l.length k)=V (V (uu.mk (cA a l[i]!) l l.length k1)):=by
 subst hk hk1;unfold tI;simp only;rw[oo,cI,gW,zi,arE h1 h2];simp only;rw[bZ trivial,cI,cw,aM];rfl
def FY{a b:Int}(h1:0<=a)(h2:0<=b):C1 [a,b]=V (cA a b):=by
 unfold C1;rw[show E9=bJ tI from rfl,
  bR (Er (l:=[a,b]) (k:=0) (k1:=1) 0 (zw 0) rfl rfl (by simp) (by simp) h1),bR (Er (l:=[a,b]) (k:=1) (k1:=2) 1 (by unfold cA;omega) rfl rfl (by simp) (by simp) h2)]
 rw[ct (by intro r hr;simp[tI]at hr)];simp only;rw[bY (by simp),cw];show V (cA (cA 0 a) b)=_;unfold cA;rw[Int.gcd_zero_left,show ((a.natAbs:Nat):Int)=a by omega]
def GA{a b c:Int}(h1:0<=a)(h2:0<=b)(h3:0<=c):C1 [a,b,c]=V (cA (cA a b) c):=by
 unfold C1;rw[show E9=bJ tI from rfl,
  bR (Er (l:=[a,b,c]) (k:=0) (k1:=1) 0 (zw 0) rfl rfl (by simp) (by simp) h1),bR (Er (l:=[a,b,c]) (k:=1) (k1:=2) 1 (by unfold cA;omega) rfl rfl (by simp) (by simp) h2),
  bR (Er (l:=[a,b,c]) (k:=2) (k1:=3) 2 (by unfold cA;omega) rfl rfl (by simp) (by simp) h3)]
 rw[ct (by intro r hr;simp[tI]at hr)];simp only;rw[bY (by simp),cw];show V (cA (cA (cA 0 a) b) c)=_;rw[show cA 0 a=a from by unfold cA;rw[Int.gcd_zero_left];omega]
end Go.Proofs.YtnfljbehcffmcaaGreat
end
noncomputable section
namespace Go.Iv
open Go
variable [U:sV] [L:nj]
def NA{α β ρ u:Type}(step:Nat->β->α->β ⊕ ρ)(out:ρ->u)(fin:β->u):aa α->Nat->β->u
 |[],_,b=>fin b
 |x::xs,i,b=>match step i b x with
  | .inl b'=>NA step out fin xs (i+1) b'
  | .inr r=>out r
def sk{α β ρ u:Type}{step:Nat->β->α->β ⊕ ρ}{out:ρ->u}{fin:β->u}{x:α}{xs:aa α}{i:Nat}{b b':β}(h:step i b x= .inl b'):NA step out fin (x::xs) i b=NA step out fin xs (i+1) b':=by
 simp only[NA,h]
def o5{α β ρ u:Type}{step:Nat->β->α->β ⊕ ρ}{out:ρ->u}{fin:β->u}{x:α}{xs:aa α}{i:Nat}{b:β}{r:ρ}(h:step i b x= .inr r):NA step out fin (x::xs) i b=out r:=by
 simp only[NA,h]
def Uq{γ α β ρ u:Type}[Inhabited α]{rnd:γ->af (af γ)}(l:aa α)(mk:Nat->β->γ)(step:Nat->β->α->β ⊕ ρ)(out:ρ->u)(fin:β->u)(zb:Nat->β->Prop)
  (h1:∀i b,i<zR l->zb i b->(∀b',step i b l[i]! = .inl b'->rnd (mk i b)=V (V (mk (i+1) b'))/\zb (i+1) b')/\∀r,step i b l[i]! = .inr r->rnd (mk i b)=V I)
  (h2:∀b,zb l.length b->rnd (mk l.length b)=V I) {b:β} (hb:zb 0 b):
  ∃i v,bJ rnd (mk 0 b)=V (mk i v)/\zb i v/\((i=zR l/\NA step out fin l 0 b=fin v)\/(i<zR l/\∃r,step i v l[i]! = .inr r/\NA step out fin l 0 b=out r)):=by
 have key:∀(xs:aa α) (i:Nat) (b:β),l.drop i=xs->i<=zR l->zb i b->∃j v,bJ rnd (mk i b)=V (mk j v)/\zb j v/\((j=zR l/\NA step out fin xs i b=fin v)\/(j<zR l/\∃r,step j v l[j]! = .inr r/\NA step out fin xs i b=out r)):=by
  intro xs;induction xs with
  |nil=>
   intro i b hd hi hb;have:i=zR l:=by have:=congrArg zR hd;simp at this;omega
   subst this;exact⟨_,b,ct (λr=>by rw[h2 b hb];simp),hb, .inl ⟨rfl,rfl⟩⟩
  |cons x xs ih=>
   intro i b hd hi hb;have hil:i<zR l:=by have:=congrArg zR hd;simp at this;omega
   have hx:l[i]! =x:=by
    have:=congrArg List.head? hd;rw[List.head?_drop,zu hil]at this;simp_all
   have hd':l.drop (i+1)=xs:=by
    have:=congrArg List.tail hd;rw[List.tail_drop]at this
    assumption
   obtain⟨p1,p2⟩:=h1 i b hil hb;cases hs:step i b x with
   |inl b'=>
    obtain⟨q1,q2⟩:=p1 b' (by rw[hx];exact hs);obtain⟨j,v,e2,e3,e4⟩:=ih (i+1) b' hd' hil q2;rw[sk hs];exact⟨j,v,by rw[bR q1];exact e2,e3,e4⟩
   |inr r=>
    rw[o5 hs];exact⟨i,b,ct (λr'=>by rw[p2 r (by rw[hx];exact hs)];simp),hb, .inr ⟨hil,r,by rw[hx];exact hs,rfl⟩⟩
 exact key l 0 b rfl (yW _) hb
def bq{α:Type}[Inhabited α]{l:aa α}{i:Nat}(h:i<zR l):l[i]!∈l:=by rw[getElem!_pos l i h];exact xN h
def jJ{i n:Nat}(h:i<n)(hn:n<=1000000):ak ((i:Int)+1)=((i+1:Nat):Int):=by rw[aM];omega
def lM{γ β:Type}{rnd:γ->af (af γ)}(n:Nat)(mk:Nat->β->γ)(zb S:Nat->β->Prop)
  (h1:∀i b,i<n->zb i b->(∃b',rnd (mk i b)=V (V (mk (i+1) b'))/\zb (i+1) b')\/(rnd (mk i b)=V I/\S i b))
  (h2:∀b,zb n b->rnd (mk n b)=V I) {b:β} (hb:zb 0 b):
  ∃i v,bJ rnd (mk 0 b)=V (mk i v)/\zb i v/\(i=n\/(i<n/\S i v)):=by
 have key:∀(k i:Nat) (b:β),i+k=n->zb i b->∃j v,bJ rnd (mk i b)=V (mk j v)/\zb j v/\(j=n\/(j<n/\S j v)):=by
  intro k;induction k with
  |zero=>
   intro i b hi hb;have:i=n:=aq;subst this;exact⟨_,b,ct (λr=>by rw[h2 b hb];simp),hb, .inl rfl⟩
  |succ k ih=>
   intro i b hi hb;rcases h1 i b aq hb with ⟨b',q1,q2⟩|⟨q1,q2⟩
   ·rw[bR q1];grind
   ·exact⟨i,b,ct (λr=>by rw[q1];simp),hb, .inr ⟨aq,q2⟩⟩
 simp_all
def cH{γ β:Type}{rnd:γ->af (af γ)}(n:Nat)(mk:Nat->β->γ)(zb:Nat->β->Prop)
  (h1:∀i b,i<n->zb i b->∃b',rnd (mk i b)=V (V (mk (i+1) b'))/\zb (i+1) b')
  (h2:∀b,zb n b->rnd (mk n b)=V I) {b:β} (hb:zb 0 b):∃v,bJ rnd (mk 0 b)=V (mk n v)/\zb n v:=by
 obtain⟨i,v,e,hi,h⟩:=lM n mk zb (λ_ _=>False) (λi b hi hb=> .inl (h1 i b hi hb)) h2 hb;rcases h with rfl|⟨_,h⟩
 ·exact⟨v,e,hi⟩
 ·simp_all
def cz{α:Type}(c:Nat->α->Int):aa α->Nat->Int
 |[],_=>0
 |x::xs,i=>if c i x=0 then cz c xs (i+1)else c i x
def s9{γ α:Type}[Inhabited α]{rnd:γ->af (af γ)}(l:aa α)(mk:Nat->γ)(c:Nat->α->Int)
  (h1:∀i,i<zR l->(c i l[i]! =0->rnd (mk i)=V (V (mk (i+1))))/\(c i l[i]!≠0->rnd (mk i)=V I))
  (h2:rnd (mk l.length)=V I):
  ∃i,bJ rnd (mk 0)=V (mk i)/\((i=zR l/\cz c l 0=0)\/(i<zR l/\c i l[i]!≠0/\cz c l 0=c i l[i]!)):=by
 have key:∀(xs:aa α) (i:Nat),l.drop i=xs->i<=zR l->∃j,bJ rnd (mk i)=V (mk j)/\((j=zR l/\cz c xs i=0)\/(j<zR l/\c j l[j]!≠0/\cz c xs i=c j l[j]!)):=by
  intro xs;induction xs with
  |nil=>
   intro i hd hi;have:i=zR l:=by have:=congrArg zR hd;simp at this;omega
   subst this;exact⟨_,ct (λr=>by rw[h2];simp), .inl ⟨rfl,rfl⟩⟩
  |cons x xs ih=>
   intro i hd hi;have hil:i<zR l:=by have:=congrArg zR hd;simp at this;omega
   have hx:l[i]! =x:=by
    have:=congrArg List.head? hd;rw[List.head?_drop,zu hil]at this;simp_all
   have hd':l.drop (i+1)=xs:=by
    have:=congrArg List.tail hd;rw[List.tail_drop]at this
    assumption
   obtain⟨p1,p2⟩:=h1 i hil;unfold cz;rw[hx]at p1 p2;by_cases hc:c i x=0
   ·rw[bI hc,bR (p1 hc)];exact ih (i+1) hd' hil
   ·rw[bO hc];exact⟨i,ct (λr=>by rw[p2 hc];simp), .inr ⟨hil,by rw[hx];exact hc,by rw[hx]⟩⟩
 exact key l 0 rfl (yW _)
def qJ{γ α:Type}[Inhabited α]{rnd:γ->af (af γ)}(l:aa α)(mk:Nat->γ)(c:Nat->α->Bool)
  (h1:∀i,i<zR l->(c i l[i]! =O->rnd (mk i)=V (V (mk (i+1))))/\(c i l[i]! =G->rnd (mk i)=V I))
  (h2:rnd (mk l.length)=V I):
  ∃i,bJ rnd (mk 0)=V (mk i)/\((i=zR l/\∀j,j<zR l->c j l[j]! =O)\/(i<zR l/\c i l[i]! =G)):=by
 obtain⟨i,v,e,hI,h⟩:=lM (β:=Unit) (rnd:=rnd) l.length (λi _=>mk i) (λi _=>∀j,j<i->c j l[j]! =O) (λi _=>c i l[i]! =G) (λi b hi hI=>by
   obtain⟨p1,p2⟩:=h1 i hi;cases hc:c i l[i]! with
   |true=>exact .inl ⟨(),p1 hc,λj hj=>by
     rcases xo.1 hj with h|h
     ·exact hI j h
     ·subst h;exact hc⟩
   |false=>exact .inr ⟨p2 hc,rfl⟩) (λb _=>h2) (b:=()) (λj hj=>ei hj aq)
 refine⟨i,e,?_⟩;rcases h with h|h
 ·subst h;exact .inl ⟨rfl,hI⟩
 ·exact .inr h
def EI{α:Type}[Inhabited α]{l:aa α}{p:α->Bool}(h:∀j,j<zR l->p l[j]! =O):l.all p=O:=by
 rw[zx];intro x hx;obtain⟨i,hi,e⟩:=yU hx;have:=h i hi;simp_all
def Aj{α:Type}[Inhabited α]{l:aa α}{p:α->Bool}{i:Nat}(hi:i<zR l)(h:p l[i]! =G):l.all p=G:=by
 cases ha:l.all p with
 |false=>rfl
 |true=>
  rw[zx]at ha;rw[ha _ (bq hi)]at h;omega
def Ab{α:Type}[Inhabited α]{l:aa α}{p:α->Bool}(h:∀j,j<zR l->p l[j]! =G):l.any p=G:=by
 cases ha:l.any p with
 |false=>rfl
 |true=>
  obtain⟨x,hx,e⟩:=xU.1 ha;obtain⟨i,hi,e2⟩:=yU hx;have:=h i hi;rw[getElem!_pos l i hi,e2,e]at this;omega
def JH{α:Type}[Inhabited α]{l:aa α}{p:α->Bool}{i:Nat}(hi:i<zR l)(h:p l[i]! =O):l.any p=O:=
 xU.2 ⟨_,bq hi,h⟩
def bC{α:Type}[Inhabited α]{l:aa α}{i:Nat}(h:i<zR l):l.take (i+1)=l.take i++[l[i]!]:=by
 rw[getElem!_pos l i h];simp
end Go.Iv
end
noncomputable section
set_option maxRecDepth 100000
namespace Go.Proofs.YtnfljbehcffmcaaGreat
open Go Go.Iv
open Go.IntKind (i64 u64)
def cM:aL:=aL.mk 1 0 0
structure NN (a:aL):Prop where
 lo: -1099511627776<=a.ah
 hi:a.ag<=1099511627776
 le:a.ah<=a.ag
 st:(a.ah=a.ag/\a.aj=0)\/(a.ah<a.ag/\1<=a.aj/\(a.ag-a.ah)%a.aj=0)
def NV(a:aL):Prop:=a=cM\/NN a
def NN.s0{a:aL}(h:NN a):0<=a.aj:=by rcases h.st with ⟨_,h⟩|⟨_,h,_⟩<;>omega
def NN.dvd{a:aL}(h:NN a):a.aj∣a.ag-a.ah:=by
 rcases h.st with ⟨h1,h2⟩|⟨_,_,h3⟩
 ·simp_all
 ·omega
def NN.sle{a:aL}(h:NN a):a.aj<=a.ag-a.ah:=by
 rcases h.st with ⟨h1,h2⟩|⟨h1,_,h3⟩
 ·omega
 ·exact Int.le_of_dvd aq (ve h3)
def NN.ne{a:aL}(h:NN a):a≠cM:=λe=>by
 have:=h.le;rw[e]at this;exact ei this (by decide)
def Dy{a b:aL}(h1:a.ah=b.ah)(h2:a.ag=b.ag)(h3:a.aj=b.aj):a=b:=by
 cases a;cases b;simp only at h1 h2 h3;subst h1 h2 h3;rfl
def eC(x:Int):aL:=aL.mk x x 0
def NN.one{x:Int}(h1: -1099511627776<=x)(h2:x<=1099511627776):NN (eC x):=⟨h1,h2,zw _, .inl ⟨rfl,rfl⟩⟩
structure dz (P:Int->Prop) (c:aL):Prop where
 lo:P c.ah
 hi:P c.ag
 all:∀x,P x->c.ah<=x/\x<=c.ag/\c.aj∣x-c.ah
 nn:0<=c.aj
 best:∀d,(∀x,P x->d∣x-c.ah)->d∣c.aj
def dz.uniq{P:Int->Prop}{c d:aL}(h:dz P c)(k:dz P d):c=d:=by
 have e1:c.ah=d.ah:=Int.le_antisymm (h.all _ k.lo).1 (k.all _ h.lo).1;have e2:c.ag=d.ag:=Int.le_antisymm (k.all _ h.hi).2.1 (h.all _ k.hi).2.1;refine Dy e1 e2 (Int.dvd_antisymm h.nn k.nn (k.best _ λx hx=>by rw[<-e1];exact(h.all x hx).2.2) (h.best _ λx hx=>by rw[e1];exact(k.all x hx).2.2))
def dz.congr{P Q:Int->Prop}{c:aL}(h:dz P c)(k:∀x,P x↔Q x):dz Q c:=
 ⟨(k _).mp h.lo,(k _).mp h.hi,λx hx=>h.all x ((k x).mpr hx),h.nn,λd hd=>h.best d λx hx=>hd x ((k x).mp hx)⟩
def dz.valid{P:Int->Prop}{c:aL}(h:dz P c)(hP:∀x,P x-> -1099511627776<=x/\x<=1099511627776):NN c:=by
 have h1:=hP _ h.lo;have h2:=hP _ h.hi;obtain⟨h3,_,h4⟩:=h.all _ h.hi;refine⟨h1.1,h2.2,h3,?_⟩;have h5:=h.nn;rcases Int.lt_or_eq_of_le h3 with h6|h6
 ·refine .inr ⟨h6,?_,Int.emod_eq_zero_of_dvd h4⟩;rcases Int.lt_or_eq_of_le h5 with h7|h7
  ·omega
  ·rw[<-h7]at h4;omega
 ·refine .inl ⟨h6,?_⟩;have:=h.best 0 λx hx=>by
   obtain⟨a1,a2,_⟩:=h.all x hx;grind
  omega
def bT(a:aL)(x:Int):Prop:=a.ah<=x/\x<=a.ag/\a.aj∣x-a.ah
def NN.gu{a:aL}(h:NN a):dz (bT a) a:=by
 refine⟨⟨zw _,h.le,⟨0,aq⟩⟩,⟨h.le,zw _,h.dvd⟩,λx hx=>hx,h.s0,λd hd=> ?_⟩;rcases h.st with ⟨h1,h2⟩|⟨h1,h2,h3⟩
 ·simp_all
 ·have:=hd (a.ah+a.aj) ⟨aq,by have:=h.sle;omega,⟨1,aq⟩⟩;grind
def D0(x:Int):dz (· =x) (eC x):=
 ⟨rfl,rfl,λy hy=>⟨Int.le_of_eq hy.symm,Int.le_of_eq hy,⟨0,by rw[hy];simp[eC]⟩⟩,zw _,λd _=>xK d⟩
def ko(a b:Int):cA a b∣a:=Int.gcd_dvd_left ..
def qR(a b:Int):cA a b∣b:=Int.gcd_dvd_right ..
def jt{d a b:Int}(h1:d∣a)(h2:d∣b):d∣cA a b:=Int.dvd_coe_gcd h1 h2
def lQ(a b:Int):0<=cA a b:=by unfold cA;omega
def gcd_neg(a b:Int):cA a (-b)=cA a b:=by unfold cA;rw[Int.gcd_neg]
def jn(a b:aL):aL:=aL.mk (min a.ah b.ah) (max a.ag b.ag) (cA (cA a.aj b.aj) (a.ah-b.ah))
def cG(a b:aL):aL:=open Classical in if a=cM then b else if b=cM then a else jn a b
def dz.join{P Q:Int->Prop}{a b:aL}(h:dz P a)(k:dz Q b):dz (λx=>P x\/Q x) (jn a b):=by
 have g1:cA (cA a.aj b.aj) (a.ah-b.ah)∣a.aj:=zY (ko _ _) (ko _ _);have g2:cA (cA a.aj b.aj) (a.ah-b.ah)∣b.aj:=zY (ko _ _) (qR _ _);have g3:cA (cA a.aj b.aj) (a.ah-b.ah)∣a.ah-b.ah:=qR _ _;refine⟨?_,?_,λx hx=> ?_,lQ _ _,λd hd=> ?_⟩
 ·show P (min a.ah b.ah)\/Q (min a.ah b.ah);rcases Int.le_total a.ah b.ah with e|e
  ·rw[Int.min_eq_left e];exact .inl h.lo
  ·rw[Int.min_eq_right e];exact .inr k.lo
 ·show P (max a.ag b.ag)\/Q (max a.ag b.ag);rcases Int.le_total a.ag b.ag with e|e
  ·rw[Int.max_eq_right e];exact .inr k.hi
  ·rw[Int.max_eq_left e];exact .inl h.hi
 ·show min a.ah b.ah<=x/\x<=max a.ag b.ag/\cA (cA a.aj b.aj) (a.ah-b.ah)∣x-min a.ah b.ah;have both:cA (cA a.aj b.aj) (a.ah-b.ah)∣x-a.ah/\cA (cA a.aj b.aj) (a.ah-b.ah)∣x-b.ah:=by
   rcases hx with hx|hx
   ·have e:=zY g1 (h.all x hx).2.2;have:=y5 e g3;grind
   ·have e:=zY g2 (k.all x hx).2.2;have:=yA e g3;grind
  refine⟨?_,?_,?_⟩
  ·rcases hx with hx|hx
   ·have:=(h.all x hx).1;omega
   ·have:=(k.all x hx).1;omega
  ·rcases hx with hx|hx
   ·have:=(h.all x hx).2.1;omega
   ·have:=(k.all x hx).2.1;omega
  ·grind
 ·show d∣cA (cA a.aj b.aj) (a.ah-b.ah);have d1:=hd _ (.inl h.lo);have d2:=hd _ (.inr k.lo);refine jt (jt (h.best d λx hx=> ?_) (k.best d λx hx=> ?_)) ?_
  ·have:=yA (hd x (.inl hx)) d1;grind
  ·have:=yA (hd x (.inr hx)) d2;grind
  ·have:=yA d1 d2;grind
def gH{a b:aL}(h:NN a)(k:NN b):cG a b=jn a b:=by
 unfold cG;rw[bO h.ne,bO k.ne]
def FE{b:aL}:cG cM b=b:=by unfold cG;rw[bI rfl]
def vq{a:aL}:cG a cM=a:=by
 unfold cG;simp_all
def me{a b:aL}(h:NN a)(k:NN b):NN (jn a b):=(h.gu.join k.gu).valid λx hx=>by
 have:=h.lo;have:=h.hi;have:=k.lo;have:=k.hi
 rcases hx with ⟨h1,h2,_⟩|⟨h1,h2,_⟩<;>omega
def fe{a b:aL}(h:NV a)(k:NV b):NV (cG a b):=by
 rcases h with rfl|h
 ·assumption
 ·rcases k with rfl|k
  ·rw[vq];exact .inr h
  ·rw[gH h k];exact .inr (me h k)
def Wa{a:aL}(h:NN a):jn a a=a:=
 ((h.gu.join h.gu).congr (λx=>⟨λk=>k.elim id id, .inl⟩)).uniq h.gu
def Iu(a:aL):(bif J (a.ah=a.ah)then bif J (a.ag=a.ag)then bif J (a.aj=a.aj)then O else G else G else G)=O:=by
 simp
def Ip{a b:aL}(h:a≠b):(bif J (a.ah=b.ah)then bif J (a.ag=b.ag)then bif J (a.aj=b.aj)then O else G else G else G)=G:=by
 by_cases h1:a.ah=b.ah
 ·by_cases h2:a.ag=b.ag
  ·by_cases h3:a.aj=b.aj
   ·exact ei (Dy h1 h2 h3) h
   ·rw[bZ h1,bZ h2,bY h3];rfl
  ·rw[bZ h1,bY h2];rfl
 ·rw[bY h1];rfl
def kI:fu cM=O:=Iu cM
def eO{a:aL}(h:a≠cM):fu a=G:=Ip (b:=cM) h
def tU:lR cM=O:=rfl
def gZ{a:aL}(h:NN a):lR a=G:=bY (by have:=h.le;omega)
def kj(x:Int):jh x=J (-1099511627776<=x/\x<=1099511627776):=by
 unfold jh;simp
def Aa(x:Int):oC x=J (-1099511627776<=x/\x<=1099511627776):=kj x
def Y0(a:aL):Bool:=open Classical in J (NV a)
def Va{a:aL}:Y0 a=O↔NV a:=by unfold Y0;exact @decide_eq_true_iff _ (Classical.propDecidable _)
def dZ{a:aL}(h:NV a):Y0 a=O:=Va.mpr h
def vR{a:aL}(h:¬NV a):Y0 a=G:=by
 cases e:Y0 a with
 |false=>rfl
 |true=>exact ei (Va.mp e) h
def WD{a:aL}(h0:a≠cM):(match bif bif jh a.ah then G else O then V O else bif bif jh a.ag then G else O then V O else V (J (a.ag<a.ah))with|I=>I|V r1=>bif r1 then V G else bif J (a.ah=a.ag)then V (J (a.aj=0))else match bif J (1<=a.aj)then if¬a.aj=(0:Int)then V (J ((ak (a.ag-a.ah)).tmod a.aj=0))else I else V G with|I=>I|V r2=>V r2)=V (Y0 a):=by
 rw[kj,kj];by_cases h1: -1099511627776<=a.ah/\a.ah<=1099511627776
 ·by_cases h2: -1099511627776<=a.ag/\a.ag<=1099511627776
  ·by_cases h3:a.ag<a.ah
   ·rw[bZ h1,bZ h2,bZ h3,vR (λk=>by rcases k with k|k;exact h0 k;have:=k.le;omega)];rfl
   ·rw[bZ h1,bZ h2,bY h3];simp only[cT];by_cases h4:a.ah=a.ag
    ·rw[bZ h4,cI];by_cases h5:a.aj=0
     ·rw[bZ h5,dZ (.inr ⟨h1.1,h2.2,aq, .inl ⟨h4,h5⟩⟩)]
     ·rw[bY h5,vR (λk=>by rcases k with k|k;exact h0 k;rcases k.st with k|k<;>omega)]
    ·rw[bY h4,cw];by_cases h5:1<=a.aj
     ·rw[bZ h5,cI,gW,aM,kU];by_cases h6:(a.ag-a.ah)%a.aj=0
      ·rw[bZ h6,dZ (.inr ⟨h1.1,h2.2,aq, .inr ⟨aq,h5,h6⟩⟩)]
      ·rw[bY h6,vR (λk=>by rcases k with k|k;exact h0 k;rcases k.st with k|k;omega;exact h6 k.2.2)]
     ·rw[bY h5,cw];rw[vR (λk=>by rcases k with k|k;exact h0 k;rcases k.st with k|k<;>omega)]
  ·rw[bZ h1,bY h2,vR (λk=>by rcases k with k|k;exact h0 k;have:=k.lo;have:=k.hi;have:=k.le;omega)];rfl
 ·rw[bY h1,vR (λk=>by rcases k with k|k;exact h0 k;have:=k.lo;have:=k.hi;have:=k.le;omega)];rfl
def eW(a:aL):uf a=V (Y0 a):=by
 unfold uf;by_cases h0:a=cM
 ·subst h0;rw[kI,cI,dZ (.inl rfl)]
 ·rw[eO h0,cw];exact WD h0
def gj(a:aL):ZN a=V (Y0 a):=by
 unfold ZN;by_cases h0:a=cM
 ·subst h0;rw[show qM=cM from rfl,Iu,cI,dZ (.inl rfl)]
 ·rw[show qM=cM from rfl,Ip h0,cw,<-WD h0,show oC=jh from rfl,kj,kj];by_cases h1: -1099511627776<=a.ah/\a.ah<=1099511627776
  ·by_cases h2: -1099511627776<=a.ag/\a.ag<=1099511627776
   ·rw[bZ h1,bZ h2];simp only[cI];by_cases h3:a.ag<a.ah
    ·rw[bY (show ¬a.ah=a.ag by omega),bZ h3,bY (show ¬a.ah<a.ag by omega)];rfl
    ·rw[bY h3,cw];by_cases h4:a.ah=a.ag
     ·rw[bZ h4];rfl
     ·rw[bY h4,cw,cw,bZ (show a.ah<a.ag by omega),cI]<;>rfl
   ·rw[bZ h1,bY h2];rfl
  ·rw[bY h1];rfl
def b7(a:aL):Int:=open Classical in if a=cM then 0 else if a.aj=0 then 1 else(a.ag-a.ah)/a.aj+1
def wsz{a:aL}(h:NN a)(h0:a.aj≠0):ak (ak ((ak (a.ag-a.ah)).tdiv a.aj)+1)=(a.ag-a.ah)/a.aj+1:=by
 have:=h.lo;have:=h.hi;have:=h.le;have:=h.s0
 have q0:0<=(a.ag-a.ah)/a.aj:=zS aq aq;have q1:(a.ag-a.ah)/a.aj<=a.ag-a.ah:=yo _ aq;rw[aM (n:=a.ag-a.ah),kF,aM (n:=(a.ag-a.ah)/a.aj),aM]
def lD{a:aL}(h:NV a):Ba a=V (b7 a):=by
 unfold Ba b7;rcases h with rfl|h
 ·rfl
 ·rw[eO h.ne,bO h.ne,cw];by_cases h0:a.aj=0
  ·rw[bZ h0,bI h0];rfl
  ·rw[bY h0,bO h0,cw,bI h0,wsz h h0]
def eE{a:aL}(h:NV a):sP a=V (b7 a):=by
 unfold sP b7;rw[gj,dZ h];simp only[cT];rcases h with rfl|h
 ·rfl
 ·rw[gZ h,bO h.ne,cw];by_cases h0:a.aj=0
  ·rw[bZ h0,bI h0];rfl
  ·rw[bY h0,bO h0,cw,bI h0,wsz h h0]
def amD{a:aL}(h:¬NV a):sP a=V 0:=by
 unfold sP;rw[gj,vR h];rfl
def qe{a:aL}(h:NV a):LF a=V (b7 a):=by
 unfold LF;rw[eW,dZ h];simp only[cT];rw[lD h]
def ag4{a:aL}(h:¬NV a):LF a=V 0:=by
 unfold LF;rw[eW,vR h];rfl
def cR(a:aL)(x:Int):Bool:=open Classical in J (bT a x)
def oc{a:aL}{x:Int}:cR a x=O↔bT a x:=by unfold cR;exact @decide_eq_true_iff _ (Classical.propDecidable _)
def jC{a:aL}{x:Int}(h:¬bT a x):cR a x=G:=by
 cases e:cR a x with
 |false=>rfl
 |true=>exact ei (oc.mp e) h
def nh{a:aL}{x:Int}(h:bT a x):cR a x=O:=oc.mpr h
def CP{x:Int}:¬bT cM x:=λh=>by
 obtain⟨h1,h2,_⟩:=h;have h1:(1:Int)<=x:=h1;have h2:x<=0:=h2;omega
def Qc{a:aL}(h:NN a)(x:Int)(h1:a.ah<=x)(h2:x<=a.ag):(match bif J (a.aj=0)then V O else if¬a.aj=(0:Int)then V (J ((ak (x-a.ah)).tmod a.aj=0))else I with|I=>I|V r2=>V r2)=V (cR a x):=by
 have:=h.lo;have:=h.hi
 by_cases h0:a.aj=0
 ·rw[bZ h0,cI,nh ⟨h1,h2,by rcases h.st with k|k;(rw[h0];exact⟨0,aq⟩);omega⟩]
 ·rw[bY h0,cw,bI h0,aM,kU];by_cases k:(x-a.ah)%a.aj=0
  ·rw[bZ k,nh ⟨h1,h2,ve k⟩]
  ·rw[bY k,jC (λe=>k (Int.emod_eq_zero_of_dvd e.2.2))]
def Jq{a:aL}(h:NV a)(x:Int):Yy a x=V (cR a x):=by
 unfold Yy;rcases h with rfl|h
 ·rw[kI,jC CP];rfl
 ·rw[eO h.ne,cw];by_cases h1:x<a.ah
  ·rw[bZ h1,jC (λk=>by have:=k.1;omega)];rfl
  ·by_cases h2:a.ag<x
   ·rw[bY h1,bZ h2,jC (λk=>by have:=k.2.1;omega)];rfl
   ·rw[bY h1,bY h2];exact Qc h x aq aq
def jW{a:aL}(h:NV a)(x:Int):m32 a x=V (cR a x):=by
 unfold m32;rw[gj,dZ h];rcases h with rfl|h
 ·by_cases h1:x<1
  ·rw[show cM.ah=1 from rfl,bZ h1,jC CP];rfl
  ·rw[show cM.ah=1 from rfl,show cM.ag=0 from rfl,bY h1,bZ (show 0<x by omega),jC CP];rfl
 ·by_cases h1:x<a.ah
  ·rw[bZ h1,jC (λk=>by have:=k.1;omega)];rfl
  ·by_cases h2:a.ag<x
   ·rw[bY h1,bZ h2,jC (λk=>by have:=k.2.1;omega)];rfl
   ·rw[bY h1,bY h2];exact Qc h x aq aq
def rA{a:aL}(h:NV a)(x:Int):m92 a x=V (cR a x):=by
 unfold m92;rw[eW,dZ h];simp only[cI];rw[Jq h]
def jI(lo hi st:Int):aL:=if hi<lo then cM else if st=0 then eC lo else if lo=lo+(hi-lo)/st*st then eC lo else aL.mk lo (lo+(hi-lo)/st*st) st
def anA{lo hi st:Int}(h1: -2305843009213693952<=lo)(h2:hi<=2305843009213693952)(h3:lo<=hi)(h4:1<=st):ak (lo+ak (ak ((ak (hi-lo)).tdiv st)*st))=lo+(hi-lo)/st*st:=by
 have q0:0<=(hi-lo)/st:=zS aq aq;have q1:(hi-lo)/st<=hi-lo:=yo _ aq;have q2:(hi-lo)/st*st<=hi-lo:=xu _ aq;have q3:0<=(hi-lo)/st*st:=zI q0 aq;rw[aM (n:=hi-lo),kF,aM (n:=(hi-lo)/st),aM (n:=(hi-lo)/st*st),aM]
def oT{lo hi st:Int}(h1: -2305843009213693952<=lo)(h2:hi<=2305843009213693952)(h4:0<=st):nK lo hi st=V (jI lo hi st):=by
 unfold nK jI;by_cases c1:hi<lo
 ·rw[bZ c1,bI c1];rfl
 ·rw[bY c1,bO c1,cw];by_cases c2:st=0
  ·rw[bZ c2,bI c2];rfl
  ·rw[bY c2,bO c2,cw,bI c2,anA h1 h2 aq aq];by_cases c3:lo=lo+(hi-lo)/st*st
   ·rw[bZ c3,bI c3];rfl
   ·simp_all
def mJ{lo hi st:Int}(h1: -1099511627776<=lo/\lo<=1099511627776)(h2: -1099511627776<=hi/\hi<=1099511627776)(h4:1<=st):jB lo hi st=V (jI lo hi st,0):=by
 unfold jB jI;rw[Aa,Aa,bZ h1,bZ h2,bY (show ¬st<1 by omega)];by_cases c1:hi<lo
 ·rw[bZ c1,bI c1];rfl
 ·rw[bY c1,bO c1,cw,bO (show ¬st=0 by omega),gW,anA aq aq aq h4];by_cases c3:lo=lo+(hi-lo)/st*st
  ·rw[<-c3,bZ rfl,bI rfl];rfl
  ·simp_all
def Pf{lo hi st:Int}(h1:lo<=hi)(h2:0<=st)(h3:st∣hi-lo)(h4:lo=hi->st=0):jI lo hi st=aL.mk lo hi st:=by
 unfold jI;rw[AS];by_cases c:st=0
 ·rw[bI c];subst c;unfold eC;rw[show hi=lo by omega]
 ·rw[bO c,wo h3,show lo+(hi-lo)=hi by omega,bO (λe=>c (h4 e))]
def mO{lo hi st:Int}(h1: -1099511627776<=lo)(h2:hi<=1099511627776)(h3:lo<=hi)(h4:0<=st):NN (jI lo hi st):=by
 unfold jI;rw[AS];by_cases c:st=0
 ·rw[bI c];exact NN.one h1 aq
 ·rw[bO c];have q0:0<=(hi-lo)/st:=zS aq aq;have q2:(hi-lo)/st*st<=hi-lo:=xu _ aq;have q3:0<=(hi-lo)/st*st:=zI q0 aq;by_cases c3:lo=lo+(hi-lo)/st*st
  ·rw[bI c3];exact NN.one h1 aq
  ·rw[bO c3];refine⟨h1,by show lo+(hi-lo)/st*st<=_;omega,by show lo<=lo+(hi-lo)/st*st;omega, .inr ⟨by show lo<lo+(hi-lo)/st*st;omega,by show 1<=st;omega,?_⟩⟩;rw[show lo+(hi-lo)/st*st-lo=(hi-lo)/st*st by omega];simp
def Pd{lo hi st x:Int}(h3:lo<=hi)(h4:1<=st):bT (jI lo hi st) x↔lo<=x/\x<=hi/\st∣x-lo:=by
 unfold jI;rw[AS,AS];have q2:(hi-lo)/st*st<=hi-lo:=xu _ aq;have q4:=vf (hi-lo) (show 0<st by omega);rw[zU,yd]at q4;by_cases c3:lo=lo+(hi-lo)/st*st
 ·rw[bI c3];constructor
  ·rintro⟨k1,k2,_⟩;have k1:lo<=x:=k1;have k2:x<=lo:=k2;exact⟨k1,aq,⟨0,aq⟩⟩
  ·rintro⟨k1,k2,k3⟩;have e:x-lo=0:=Decidable.byContradiction λh=>ei (Int.le_of_dvd aq k3) aq;exact⟨k1,by show x<=lo;omega,by show 0∣x-lo;rw[e];exact⟨0,rfl⟩⟩
 ·rw[bO c3];constructor
  ·rintro⟨k1,k2,k3⟩;have k2:x<=lo+(hi-lo)/st*st:=k2;exact⟨k1,aq,k3⟩
  ·rintro⟨k1,k2,k3⟩;refine⟨k1,?_,k3⟩;show x<=lo+(hi-lo)/st*st;obtain⟨q,hq⟩:=k3;rw[zO]at hq;have:q<(hi-lo)/st+1:=wK (a:=st) (by rw[zU,yd];omega) aq;have:q*st<=(hi-lo)/st*st:=zM aq aq;omega
def Nd(g x v:Int)(hx: -1099511627776<=x/\x<=1099511627776)(hv: -1099511627776<=v/\v<=1099511627776):(0:Int)<=jm x v/\cA g (jm x v)=cA g (x-v):=by
 unfold jm;by_cases c:x<v
 ·rw[bZ c,cI,aM];exact⟨aq,by rw[<-gcd_neg,show-(v-x)=x-v by omega]⟩
 ·rw[bY c,cw,aM];omega
def dz.snoc{P:Int->Prop}{c:aL}{v:Int}(h:dz P c)(hv:P v)(x:Int):dz (λy=>P y\/y=x) (aL.mk (min c.ah x) (max c.ag x) (cA c.aj (x-v))):=by
 have e:cA (cA c.aj 0) (c.ah-x)=cA c.aj (x-v):=by
  have d:=(h.all v hv).2.2;refine Int.dvd_antisymm (lQ _ _) (lQ _ _) (jt (zY (ko _ _) (ko _ _)) ?_) (jt (jt (ko _ _) (xK _)) ?_)
  ·have k1:cA (cA c.aj 0) (c.ah-x)∣c.ah-x:=qR _ _;have k2:cA (cA c.aj 0) (c.ah-x)∣v-c.ah:=zY (zY (ko _ _) (ko _ _)) d;have:=Int.dvd_neg.mpr (y5 k1 k2)
   rwa [show-(c.ah-x+(v-c.ah))=x-v by omega]at this
  ·have k1:cA c.aj (x-v)∣x-v:=qR _ _;have k2:cA c.aj (x-v)∣v-c.ah:=zY (ko _ _) d;have:=Int.dvd_neg.mpr (y5 k1 k2)
   rwa [show-(x-v+(v-c.ah))=c.ah-x by omega]at this
 have:=h.join (D0 x);unfold jn eC at this;simp_all
def cC(x:Int):Prop:= -1099511627776<=x/\x<=1099511627776
instance (x:Int):Decidable (cC x):=inferInstanceAs (Decidable (_/\_))
def EG(x:Int):oC x=J (cC x):=Aa x
def aqu{l:aa Int}{b0 c:aL}(i:Nat)(hi:i+1<zR l)(hl:zR l<=1000000)(hr:∀x∈l,cC x)(hc:dz (· ∈l.take (i+1)) c):
  ∃c',tD (jX.mk l (i+1:Nat) b0 c)=V (V (jX.mk l (i+1+1:Nat) b0 c'))/\dz (· ∈l.take (i+1+1)) c':=by
 have hx:cC l[i+1]! :=hr _ (bq hi);have h0:cC l[0]! :=hr _ (bq aq);have hm:l[0]!∈l.take (i+1):=by
  have:(l.take (i+1))[0]! =l[0]! :=by
   rw[getElem!_pos _ 0 (by rw[zA];omega),getElem!_pos l 0 aq,xI]
  rw[<-this];exact bq (by rw[zA];omega)
 have hs:=hc.snoc hm l[i+1]!;obtain⟨g0,g1⟩:=Nd c.aj l[i+1]! l[0]! hx h0;refine⟨_,?_,hs.congr λy=> ?_⟩
 ·unfold tD;simp only;rw[oo,cI,gW,gW,zi,DD hc.nn g0,g1];simp only;rw[aM,show ((i+1:Nat):Int)+1=((i+1+1:Nat):Int)by omega];have hci:(0:Int)<=((i+1:Nat):Int)/\((i+1:Nat):Int)<(zR l:Int):=aq;by_cases c1:l[i+1]! <c.ah
  ·rw[Int.min_eq_right aq];by_cases c2:c.ag<l[i+1]!
   ·have:=(hc.all _ hc.lo).2.1;omega
   ·rw[Int.max_eq_left aq];simp only[cT,bZ c1,bY c2,bI hci]
  ·rw[Int.min_eq_left aq];by_cases c2:c.ag<l[i+1]!
   ·rw[Int.max_eq_right aq];simp only[cT,bY c1,bZ c2,bI hci]
   ·rw[Int.max_eq_left aq];simp only[bY c1,bY c2,bI hci,cw]
 ·rw[bC (i:=i+1) hi,zP,zq]
def I9{l:aa Int}(hn:l≠[])(hl:zR l<=1000000)(hr:∀x∈l,cC x):∃c,Yl l=V (c,0)/\dz (· ∈l) c:=by
 have hp:0<zR l:=wR.mpr hn;obtain⟨c,e1,hc⟩:=cH (rnd:=tD) (zR l-1) (λi (c:aL)=>jX.mk l (i+1:Nat) (aL.mk 0 0 0) c) (λi c=>dz (· ∈l.take (i+1)) c)
  (λi c hi hI=>aqu i aq hl hr hI)
  (λc hI=>by
   unfold tD;simp only;rw[fK];rfl) (b:=eC l[0]!) ((D0 l[0]!).congr λx=>by
   rw[bC hp];simp)
 have e0:bJ AP (pW.mk l 0 (aL.mk 0 0 0))=V (pW.mk l (zR l:Nat) (aL.mk 0 0 0)):=P8 (rnd:=AP) (λi=>pW.mk l (i:Nat) (aL.mk 0 0 0)) l.length (λi hi=>by
  unfold AP;simp only;rw[oo,cI,gW,zi,EG,bZ (hr _ (bq hi)),jJ hi hl];rfl) (λr=>by
  unfold AP;simp only;rw[fK];intro h;cases h)
 refine⟨c,?_,hc.congr λx=>by rw[show zR l-1+1=zR l by omega,zG]⟩;unfold Yl;rw[show Lc=bJ AP from rfl,e0];simp only;rw[fK,cw,fK,cw,gW,gW];have e1:bJ tD (jX.mk l 1 (aL.mk 0 0 0) (aL.mk l[0]! l[0]! 0))=V (jX.mk l ((zR l-1+1:Nat):Int) (aL.mk 0 0 0) c):=e1;rw[show Jl=bJ tD from rfl,e1];simp only;rw[fK];rfl
def NN.tu{a:aL}(h:NN a):cC a.ah:=⟨h.lo,by have:=h.le;have:=h.hi;omega⟩
def NN.Cn{a:aL}(h:NN a):cC a.ag:=⟨by have:=h.le;have:=h.lo;omega,h.hi⟩
def J4{x:Int}(h1: -2199023255552<=x)(h2:x<=2199023255552):(0:Int)<=jO x/\((jO x:Int)=x\/(jO x:Int)= -x):=by
 unfold jO;rw[aM (n:=0-x)];by_cases c:x<0-x
 ·rw[bI c];exact⟨aq, .inr (show (0:Int)-x= -x by omega)⟩
 ·rw[bO c];exact⟨aq, .inl rfl⟩
def ZR(g:Int){x:Int}(h1: -2199023255552<=x)(h2:x<=2199023255552):cA g (jO x)=cA g x:=by
 rcases (J4 h1 h2).2 with e|e
 ·rw[e]
 ·rw[e,gcd_neg]
def ki{a b:aL}(ha:NV a)(hb:NV b):mG a b=V (cG a b):=by
 unfold mG;rcases ha with rfl|ha
 ·rfl
 rw[eO ha.ne,cw];rcases hb with rfl|hb
 ·rw[kI,vq];rfl
 rw[eO hb.ne,cw];by_cases e:a=b
 ·subst e;rw[Iu,gH ha ha,Wa ha];rfl
 ·rw[Ip e];have:=ha.lo;have:=ha.hi;have:=ha.le;have:=hb.lo;have:=hb.hi;have:=hb.le
  rw[aM (n:=a.ah-b.ah),GA ha.s0 hb.s0 (J4 aq aq).1,ZR _ aq aq];simp only;rw[show (if b.ah<a.ah then b.ah else a.ah)=min a.ah b.ah by split<;>omega,show (if a.ag<b.ag then b.ag else a.ag)=max a.ag b.ag by split<;>omega,oT aq aq (lQ _ _)];have hj:=me ha hb;rw[gH ha hb];exact congrArg some (Pf hj.le hj.s0 hj.dvd (λk=>by rcases hj.st with h|h;exact h.2;exact ei k (Int.ne_of_lt h.1)))
def gB{a b:aL}(ha:NV a)(hb:NV b):lE a b=V (cG a b):=by
 unfold lE;rcases ha with rfl|ha
 ·rfl
 rw[gZ ha,cw];rcases hb with rfl|hb
 ·rw[tU,vq];rfl
 rw[gZ hb,cw];obtain⟨c,e,hc⟩:=I9 (l:=[a.ah,a.ag,b.ah,b.ag]) (by simp) (by simp) (λx hx=>by
  simp only[zy,List.not_mem_nil,or_false]at hx;rcases hx with rfl|rfl|rfl|rfl
  ·exact ha.tu
  ·exact ha.Cn
  ·exact hb.tu
  ·exact hb.Cn)
 rw[e];simp only;have m:∀x,(x=a.ah\/x=a.ag\/x=b.ah\/x=b.ag)->x∈[a.ah,a.ag,b.ah,b.ag]:=λx hx=>by simpa using hx
 have h1:=hc.lo;have h2:=hc.hi;simp only[zy,List.not_mem_nil,or_false]at h1 h2;have p1:=hc.all _ (m a.ah (by simp));have p2:=hc.all _ (m a.ag (by simp));have p3:=hc.all _ (m b.ah (by simp));have p4:=hc.all _ (m b.ag (by simp));have:=ha.le;have:=hb.le;have e1:c.ah=min a.ah b.ah:=aq;have e2:c.ag=max a.ag b.ag:=aq;have hj:=me ha hb;rw[gH ha hb];by_cases k:c.ah<c.ag
 ·rw[bZ k,cI,DD ha.s0 hb.s0];simp only;obtain⟨g0,g1⟩:=Nd (cA a.aj b.aj) a.ah b.ah ha.tu hb.tu;rw[DD (lQ _ _) g0,g1,e1,e2];rfl
 ·rw[bY k,cw]
  congr 1
  refine Dy e1 e2 ?_;have hcv:NN c:=hc.valid (λx hx=>by
   simp only[zy,List.not_mem_nil,or_false]at hx;rcases hx with rfl|rfl|rfl|rfl
   ·exact ha.tu
   ·exact ha.Cn
   ·exact hb.tu
   ·exact hb.Cn)
  have s1:c.aj=0:=by rcases hcv.st with h|h;exact h.2;omega
  have s2:(jn a b).aj=0:=by
   rcases hj.st with h|h
   ·omega
   ·have:min a.ah b.ah<max a.ag b.ag:=h.1;omega
  omega
def agh{a b:aL}(ha:NV a)(hb:NV b):agI a b=V (cG a b,0):=by
 unfold agI;rw[eW,eW,dZ ha,dZ hb];simp only[cT];rw[ki ha hb]
def Sf{a:aL}(h:NV a):cG a a=a:=by
 rcases h with rfl|h
 ·rfl
 ·rw[gH h h,Wa h]
def pH{a b:aL}(ha:NV a)(hb:NV b):vQ a b=V (cG a b):=by
 unfold vQ;by_cases e:a=b
 ·subst e;rw[Iu,Sf ha];rfl
 ·rw[Ip e,cw,agh ha hb]
def cD(a:aL):Bool:=if 1<b7 a then O else if b7 a=1 then !cR a 0 else G
def v7{a:aL}(h:NN a):b7 a=if a.aj=0 then 1 else(a.ag-a.ah)/a.aj+1:=by
 unfold b7;rw[bO h.ne]
def size_pos{a:aL}(h:NN a):1<=b7 a:=by
 rw[v7 h];split
 ·omega
 ·have:0<=(a.ag-a.ah)/a.aj:=zS (by have:=h.le;omega) h.s0;omega
def lX{a:aL}(h:NN a):b7 a=1↔a.ah=a.ag:=by
 rw[v7 h];rcases h.st with ⟨h1,h2⟩|⟨h1,h2,h3⟩
 ·omega
 ·rw[AS];constructor
  ·intro k;have:=wo (ve h3);grind
  ·omega
def Di{a:aL}(h:NV a):Qu a=V (cR a 0,cD a):=by
 unfold Qu cD;rw[Jq h,lD h];simp only;by_cases c:1<b7 a
 ·rw[bZ c,bI c];rfl
 ·rw[bY c,bO c,cw];by_cases c1:b7 a=1
  ·rw[bZ c1,bI c1,cI];rcases h with rfl|h
   ·exfalso;unfold b7 at c1;simp_all
   ·have e:=(lX h).mp c1;by_cases c2:a.ah=0
    ·rw[bZ c2,nh (show bT a 0 from⟨aq,aq,⟨0,aq⟩⟩)];rfl
    ·rw[bY c2,jC (show ¬bT a 0 from λk=>by have:=k.1;have:=k.2.1;omega)];rfl
  ·rw[bY c1,bO c1];rfl
def oP{a:aL}(h:NV a):Fj a=V (cR a 0,cD a):=by
 unfold Fj cD;rw[jW h,eE h];simp only;by_cases c:1<b7 a
 ·rw[bZ c,bI c];rfl
 ·rw[bY c,bO c,cw];by_cases c1:b7 a=1
  ·rw[bZ c1,bI c1,cI];rfl
  ·rw[bY c1,bO c1];rfl
def Dd{a:aL}(h:NV a):Sc a=V (cR a 0,cD a):=by
 unfold Sc;rw[eW,dZ h];simp only[cT];rw[Di h]
def iY:Bool->Bool->aL
 |true,O=>aL.mk 0 1 1
 |true,G=>aL.mk 0 0 0
 |false,O=>aL.mk 1 1 0
 |false,G=>cM
def Xx{a b:Bool}(h:(a||b)=O):ji a b=iY a b:=by
 cases a<;>cases b<;>first|rfl|cases h
def UU(a b:Bool):pR a b=V (iY a b):=by
 have v0:NN (eC 0):=NN.one aq aq;have v1:NN (eC 1):=NN.one aq aq;have e:cG (eC 0) (eC 1)=aL.mk 0 1 1:=by rw[gH v0 v1];rfl
 unfold pR;cases a<;>cases b
 ·rfl
 ·rfl
 ·rfl
 ·simp only[cI];rw[show jA=cM from rfl,ki (.inl rfl) (.inr (show NN (iz 0)from v0)),FE];simp only;rw[ki (.inr (show NN (iz 0)from v0)) (.inr (show NN (iz 1)from v1)),show cG (iz 0) (iz 1)=cG (eC 0) (eC 1)from rfl,e];rfl
def vz(a b:Bool):NV (iY a b):=by
 cases a<;>cases b
 ·exact .inl rfl
 ·exact .inr (NN.one (x:=1) aq aq)
 ·exact .inr (NN.one (x:=0) aq aq)
 ·exact .inr ⟨by decide,by decide,by decide, .inr ⟨by decide,by decide,by decide⟩⟩
def mV(P:Int->Prop)(c:aL):Prop:=(c=cM/\∀x,¬P x)\/(dz P c)
def mV.uniq{P:Int->Prop}{c d:aL}(h:mV P c)(k:mV P d):c=d:=by
 rcases h with ⟨h1,h2⟩|h<;>rcases k with ⟨k1,k2⟩|k
 ·grind
 ·exact ei k.lo (h2 _)
 ·exact ei h.lo (k2 _)
 ·exact h.uniq k
def mV.congr{P Q:Int->Prop}{c:aL}(h:mV P c)(k:∀x,P x↔Q x):mV Q c:=by
 rcases h with ⟨h1,h2⟩|h
 ·exact .inl ⟨h1,λx hx=>h2 x ((k x).mpr hx)⟩
 ·exact .inr (h.congr k)
def mV.valid{P:Int->Prop}{c:aL}(h:mV P c)(hP:∀x,P x->cC x):NV c:=by
 rcases h with ⟨h1,h2⟩|h
 ·exact .inl h1
 ·exact .inr (h.valid hP)
def mV.none{P:Int->Prop}(h:∀x,¬P x):mV P cM:= .inl ⟨rfl,h⟩
def mV.join{P Q:Int->Prop}{a b:aL}(h:mV P a)(k:mV Q b)(ha:NV a)(hb:NV b):mV (λx=>P x\/Q x) (cG a b):=by
 rcases h with ⟨rfl,h2⟩|h
 ·rw[FE];simp_all
 ·rcases k with ⟨rfl,k2⟩|k
  ·rw[vq];exact .inr (h.congr λx=>⟨.inl,λe=>e.elim id (λe=>ei e (k2 x))⟩)
  ·have hn:∀{P:Int->Prop} {c:aL},dz P c->NV c->NN c:=λ{P c} e v=>by
    rcases v with rfl|v
    ·have:=(e.all _ e.lo).2.1;exact ei this (by decide)
    ·exact v
   rw[gH (hn h ha) (hn k hb)];exact .inr (h.join k)
def mV.mem{a:aL}(h:NV a):mV (bT a) a:=by
 rcases h with rfl|h
 ·exact .inl ⟨rfl,λx=>CP⟩
 ·exact .inr h.gu
def YX{a:aL}(h:NV a){x:Int}(hx:bT a x):cC x:=by
 rcases h with rfl|h
 ·exact ei hx CP
 ·have:=h.lo;have:=h.hi;have:=hx.1;have:=hx.2.1
  exact⟨aq,aq⟩
def am6{lo hi st:Int}(h1:lo<=hi)(h2:1<=st):(jI lo hi st).ag=lo+(hi-lo)/st*st:=by
 unfold jI;rw[AS,AS];by_cases c3:lo=lo+(hi-lo)/st*st
 ·rw[bI c3];exact c3
 ·simp_all
def NN.st1{a:aL}(h:NN a)(k:a.ah<a.ag):1<=a.aj:=by rcases h.st with h|h<;>omega
def Ex(P:Int->Prop)(c:aL):Prop:=NV c/\∀x,bT c x↔P x
def Ex.rep{P:Int->Prop}{c:aL}(h:Ex P c):mV P c:=(mV.mem h.1).congr h.2
def U8{a:aL}(h:NN a){at_:Int}(h1:a.ah<=at_)(h2:at_<a.ag):Ex (λx=>bT a x/\x<=at_) (jI a.ah at_ a.aj):=by
 have hs:=h.st1 aq;have hl:=h.lo;have hh:=h.hi
 refine⟨.inr (mO hl aq h1 h.s0),λx=> ?_⟩;rw[Pd h1 hs];exact⟨λ⟨k1,k2,k3⟩=>⟨⟨k1,aq,k3⟩,k2⟩,λ⟨⟨k1,_,k3⟩,k2⟩=>⟨k1,k2,k3⟩⟩
def Of{a:aL}(h:NN a){at_:Int}(h1:a.ah<=at_)(h2:at_<a.ag):
  Ex (λx=>bT a x/\at_<x) (jI (a.ah+((at_-a.ah)/a.aj+1)*a.aj) a.ag a.aj)/\a.ah<a.ah+((at_-a.ah)/a.aj+1)*a.aj/\a.ah+((at_-a.ah)/a.aj+1)*a.aj<=a.ag:=by
 have hs:=h.st1 aq;have hl:=h.lo;have hh:=h.hi
 have q2:(at_-a.ah)/a.aj*a.aj<=at_-a.ah:=xu _ aq;have q4:=vf (at_-a.ah) (show 0<a.aj by omega);have up:∀x,a.aj∣x-a.ah->at_<x->a.ah+((at_-a.ah)/a.aj+1)*a.aj<=x:=λx hd hx=>by
  obtain⟨q,hq⟩:=hd;rw[zO]at hq;have:(at_-a.ah)/a.aj<q:=wK (a:=a.aj) aq aq;have:((at_-a.ah)/a.aj+1)*a.aj<=q*a.aj:=zM aq aq;omega
 have hle:=up a.ag h.dvd h2;have hd:a.aj∣((at_-a.ah)/a.aj+1)*a.aj:=xG ..;refine⟨⟨.inr (mO aq hh hle h.s0),λx=> ?_⟩,aq,hle⟩;rw[Pd hle hs];constructor
 ·rintro⟨k1,k2,k3⟩;have:=y5 k3 hd;rw[show x-(a.ah+((at_-a.ah)/a.aj+1)*a.aj)+((at_-a.ah)/a.aj+1)*a.aj=x-a.ah by omega]at this;exact⟨⟨aq,k2,this⟩,aq⟩
 ·rintro⟨⟨k1,k2,k3⟩,k4⟩;have:=yA k3 hd;rw[show x-a.ah-((at_-a.ah)/a.aj+1)*a.aj=x-(a.ah+((at_-a.ah)/a.aj+1)*a.aj)by omega]at this;simp_all
def Dx{a:aL}(h:NV a){Q:Int->Prop}(k:∀x,bT a x->Q x):Ex (λx=>bT a x/\Q x) a:=⟨h,λx=>⟨λe=>⟨e,k x e⟩,λe=>e.1⟩⟩
def qc{a:aL}{Q:Int->Prop}(k:∀x,bT a x->¬Q x):Ex (λx=>bT a x/\Q x) cM:=⟨.inl rfl,λx=>⟨λe=>ei e CP,λe=>ei e.2 (k x e.1)⟩⟩
def Ai{a:aL}(h:NV a)(at_:Int):∃l u,C0 a at_=V (l,u)/\Ex (λx=>bT a x/\x<=at_) l/\Ex (λx=>bT a x/\at_<x) u:=by
 unfold C0;rcases h with rfl|h
 ·refine⟨cM,cM,?_,qc λx hx=>ei hx CP,qc λx hx=>ei hx CP⟩;rfl
 ·rw[eO h.ne,cw];have hle:=h.le;have hl:=h.lo;have hh:=h.hi
  by_cases c1:at_<a.ah
  ·rw[bZ c1];exact⟨cM,a,rfl,qc λx hx k=>by have:=hx.1;omega,Dx (.inr h) λx hx=>by have:=hx.1;omega⟩
  ·rw[bY c1];by_cases c2:a.ag<=at_
   ·rw[bZ c2];exact⟨a,cM,rfl,Dx (.inr h) λx hx=>by have:=hx.2.1;omega,qc λx hx k=>by have:=hx.2.1;omega⟩
   ·have hs:=h.st1 aq;obtain⟨r1,r2,r3⟩:=Of h (at_:=at_) aq aq;have e:a.ah+((at_-a.ah)/a.aj+1)*a.aj=a.ah+(at_-a.ah)/a.aj*a.aj+a.aj:=by rw[zU,yd];omega
    rw[e]at r1 r2 r3;rw[bY c2,cw,oT aq aq h.s0];simp only;rw[am6 aq hs,aM,oT aq aq h.s0];exact⟨_,_,rfl,U8 h aq aq,r1⟩
def K7{a:aL}(h:NV a)(at_:Int):∃l,m41 a at_=V l/\Ex (λx=>bT a x/\x<=at_) l:=by
 unfold m41;rcases h with rfl|h
 ·exact⟨cM,rfl,qc λx hx=>ei hx CP⟩
 ·rw[gZ h,cw];have hle:=h.le;have hl:=h.lo;have hh:=h.hi
  by_cases c1:at_<a.ah
  ·rw[bZ c1];exact⟨cM,rfl,qc λx hx k=>by have:=hx.1;omega⟩
  ·rw[bY c1];by_cases c2:a.ag<=at_
   ·rw[bZ c2];exact⟨a,rfl,Dx (.inr h) λx hx=>by have:=hx.2.1;omega⟩
   ·rw[bY c2,cw,mJ h.tu ⟨aq,aq⟩ (h.st1 aq)];exact⟨_,rfl,U8 h aq aq⟩
def Bl{a:aL}(h:NV a)(at_:Int):∃u,ZM a at_=V u/\Ex (λx=>bT a x/\at_<x) u:=by
 unfold ZM;rcases h with rfl|h
 ·refine⟨cM,?_,qc λx hx=>ei hx CP⟩;rfl
 ·rw[gZ h,cw];have hle:=h.le;have hl:=h.lo;have hh:=h.hi
  by_cases c1:a.ag<=at_
  ·rw[bZ c1];exact⟨cM,rfl,qc λx hx k=>by have:=hx.2.1;omega⟩
  ·rw[bY c1];by_cases c2:at_<a.ah
   ·rw[bZ c2];exact⟨a,rfl,Dx (.inr h) λx hx=>by have:=hx.1;omega⟩
   ·have hs:=h.st1 aq;obtain⟨r1,r2,r3⟩:=Of h (at_:=at_) aq aq;have q0:0<=(at_-a.ah)/a.aj:=zS aq aq;have q1:(at_-a.ah)/a.aj<=at_-a.ah:=yo _ aq;rw[bY c2,cw,gW,aM (n:=at_-a.ah),kF,aM (n:=(at_-a.ah)/a.aj),aM (n:=(at_-a.ah)/a.aj+1),
     aM (n:=((at_-a.ah)/a.aj+1)*a.aj),aM,mJ ⟨aq,aq⟩ h.Cn hs]
    exact⟨_,rfl,r1⟩
def mV.empty{P:Int->Prop}{c:aL}(h:mV P c)(hv:NV c):fu c=lR c/\((fu c=O/\c=cM/\∀x,¬P x)\/(fu c=G/\NN c/\dz P c)):=by
 rcases h with ⟨rfl,h⟩|h
 ·exact⟨by rw[kI];rfl, .inl ⟨kI,rfl,h⟩⟩
 ·rcases hv with rfl|hv
  ·exact ei (h.all _ h.lo).2.1 (by decide)
  ·exact⟨by rw[eO hv.ne,gZ hv], .inr ⟨eO hv.ne,hv,h⟩⟩
def uy(a:aL)(lo hi:Int)(y:Int):Prop:=∃x,bT a x/\y=max lo (min x hi)
def afb{a:aL}{lo hi y:Int}(h1:cC lo)(h2:cC hi)(h3:lo<=hi)(h:uy a lo hi y):cC y:=by
 obtain⟨x,_,rfl⟩:=h;obtain⟨a1,a2⟩:=h1;obtain⟨b1,b2⟩:=h2;exact⟨aq,aq⟩
def Ka(x:Int):mV (· =x) (eC x):= .inr (D0 x)
def rH{x:Int}(h:cC x):NV (eC x):= .inr (NN.one h.1 h.2)
def ob{Q R:Int->Prop}{c d:aL}{b:Int}(hc:mV Q c)(vc:NV c)(hb:cC b)(hd:mV R d)(vd:NV d):
  (fu d=O->mV (λy=>Q y\/(y=b/\∃x,R x)) c)/\(fu d=G->mV (λy=>Q y\/(y=b/\∃x,R x)) (cG c (eC b))):=by
 rcases (hd.empty vd).2 with ⟨e1,rfl,e3⟩|⟨e1,e2,e3⟩
 ·simp_all
 ·refine⟨λh=> ?_,λ_=>((hc.join (Ka b) vc (rH hb)).congr λx=>⟨λh=>h.elim .inl λh=> .inr ⟨h,_,e3.lo⟩,λh=>h.elim .inl λh=> .inr h.1⟩)⟩;simp_all
def RF{a:aL}(h:NV a)(lo hi:Int):(∃c,m81 a lo hi=V (c,0)/\m86 a lo hi=V (c,0)/\mV (uy a lo hi) c/\NV c/\cC lo/\cC hi/\lo<=hi)\/
  (m81 a lo hi=V (aL.mk 0 0 0,3)/\m86 a lo hi=V (aL.mk 0 0 0,3)/\¬(cC lo/\cC hi/\lo<=hi)):=by
 unfold m81 m86;rw[eW,gj,dZ h,kj,kj,Aa,Aa];simp only;by_cases h1: -1099511627776<=lo/\lo<=1099511627776
 ·by_cases h2: -1099511627776<=hi/\hi<=1099511627776
  ·by_cases h3:hi<lo
   ·right;rw[bZ h1,bZ h2,bZ h3];exact⟨rfl,rfl,λk=>by have:=k.2.2;omega⟩
   ·left;rw[bZ h1,bZ h2,bY h3];simp only[cI];rw[aM (n:=lo-1)];obtain⟨un,re,e1,r1,r2⟩:=Ai h (lo-1);obtain⟨ins,ov,e2,r3,r4⟩:=Ai r2.1 hi;have mi:∀x,bT ins x↔bT a x/\lo<=x/\x<=hi:=λx=>⟨λk=>let ⟨k1,k2⟩:=(r3.2 x).mp k;let ⟨k3,k4⟩:=(r2.2 x).mp k1;⟨k3,aq,k2⟩,λ⟨k1,k2,k3⟩=>(r3.2 x).mpr ⟨(r2.2 x).mpr ⟨k1,aq⟩,k3⟩⟩;have mo:∀x,bT ov x↔bT a x/\hi<x:=λx=>⟨λk=>let ⟨k1,k2⟩:=(r4.2 x).mp k;let ⟨k3,k4⟩:=(r2.2 x).mp k1;⟨k3,k2⟩,λ⟨k1,k2⟩=>(r4.2 x).mpr ⟨(r2.2 x).mpr ⟨k1,aq⟩,k2⟩⟩;obtain⟨x1,f1,s1⟩:=Bl h (lo-1);obtain⟨x2,f2,s2⟩:=K7 s1.1 hi;obtain⟨x3,f3,s3⟩:=K7 h lo;obtain⟨x4,f4,s4⟩:=Bl h hi;have m2:∀x,bT x2 x↔bT a x/\lo<=x/\x<=hi:=λx=>⟨λk=>let ⟨k1,k2⟩:=(s2.2 x).mp k;let ⟨k3,k4⟩:=(s1.2 x).mp k1;⟨k3,aq,k2⟩,λ⟨k1,k2,k3⟩=>(s2.2 x).mpr ⟨(s1.2 x).mpr ⟨k1,aq⟩,k3⟩⟩;have rlo:cC lo:=h1;have rhi:cC hi:=h2;have nb:∀b:Bool,(match b with|true=>true|false=>false)=b:=λb=>by cases b<;>rfl
    obtain⟨t1,t2⟩:=ob (Ex.rep ⟨r3.1,mi⟩) r3.1 rlo r1.rep r1.1;have P:∃c,(match C0 a (lo-1)with|I=>I|V r3=>match C0 r3.snd hi with|I=>I|V r4=>bif bif fu r3.fst then G else O then match mG r4.fst (iz lo)with|I=>I|V r5=>bif bif fu r4.snd then G else O then match mG r5 (iz hi)with|I=>I|V r6=>V (r6,(0:Int))else V (r5,0)else bif bif fu r4.snd then G else O then match mG r4.fst (iz hi)with|I=>I|V r7=>V (r7,0)else V (r4.fst,0))=V (c,0)/\mV (uy a lo hi) c:=by
     have fin:∀c,NV c->mV (λy=>(bT a y/\lo<=y/\y<=hi)\/(y=lo/\∃x,bT a x/\x<=lo-1)) c->∃d,(bif bif fu ov then G else O then match mG c (iz hi)with|I=>I|V r6=>V (r6,(0:Int))else V (c,0))=V (d,0)/\mV (uy a lo hi) d:=λc vc hc=>by
      obtain⟨u1,u2⟩:=ob hc vc rhi (Ex.rep ⟨r4.1,mo⟩) r4.1;have eq:∀y,(((bT a y/\lo<=y/\y<=hi)\/(y=lo/\∃x,bT a x/\x<=lo-1))\/(y=hi/\∃x,bT a x/\hi<x))↔uy a lo hi y:=λy=>by
       constructor
       ·rintro((⟨k1,k2,k3⟩|⟨rfl,x,k1,k2⟩)|⟨rfl,x,k1,k2⟩)
        ·exact⟨y,k1,aq⟩
        ·exact⟨x,k1,aq⟩
        ·exact⟨x,k1,aq⟩
       ·rintro⟨x,k1,rfl⟩;rcases (show x<lo\/hi<x\/(lo<=x/\x<=hi)by omega)with k|k|k
        ·exact .inl (.inr ⟨aq,x,k1,aq⟩)
        ·exact .inr ⟨aq,x,k1,k⟩
        ·rw[show max lo (min x hi)=x by omega];simp_all
      cases ho:fu ov with
      |true=>exact⟨c,rfl,(u1 ho).congr eq⟩
      |false=>
       simp only[cw];rw[ki vc (.inr (show NN (iz hi)from NN.one h2.1 h2.2))];exact⟨_,rfl,(u2 ho).congr eq⟩
     rw[e1];simp only;rw[e2];simp only;cases hu:fu un with
     |true=>
      simp only[cI];exact fin ins r3.1 (t1 hu)
     |false=>
      simp only[cw];rw[ki r3.1 (.inr (show NN (iz lo)from NN.one h1.1 h1.2))];exact fin (cG ins (eC lo)) (fe r3.1 (rH rlo)) (t2 hu)
    obtain⟨c,P1,P2⟩:=P;have vc:NV c:=P2.valid λx hx=>afb rlo rhi aq hx;refine⟨c,P1,?_,P2,vc,rlo,rhi,aq⟩;have fin:∀c',NV c'->mV (λy=>(bT a y/\lo<=y/\y<=hi)\/(y=lo/\∃x,bT a x/\x<=lo)) c'->(match ZM a hi with|I=>I|V r7=>bif bif lR r7 then G else O then match lE c' (aL.mk hi hi 0)with|I=>I|V r8=>V (r8,(0:Int))else V (c',0))=V (c,0):=λc' vc' hc'=>by
     obtain⟨u1,u2⟩:=ob hc' vc' rhi s4.rep s4.1;have eq:∀y,(((bT a y/\lo<=y/\y<=hi)\/(y=lo/\∃x,bT a x/\x<=lo))\/(y=hi/\∃x,bT a x/\hi<x))↔uy a lo hi y:=λy=>by
      constructor
      ·rintro((⟨k1,k2,k3⟩|⟨rfl,x,k1,k2⟩)|⟨rfl,x,k1,k2⟩)
       ·exact⟨y,k1,aq⟩
       ·exact⟨x,k1,aq⟩
       ·exact⟨x,k1,aq⟩
      ·rintro⟨x,k1,rfl⟩;rcases (show x<lo\/hi<x\/(lo<=x/\x<=hi)by omega)with k|k|k
       ·exact .inl (.inr ⟨aq,x,k1,aq⟩)
       ·exact .inr ⟨aq,x,k1,k⟩
       ·rw[show max lo (min x hi)=x by omega];exact .inl (.inl ⟨k1,k.1,k.2⟩)
     rw[f4];simp only;rw[<-(s4.rep.empty s4.1).1];cases ho:fu x4 with
     |true=>
      rw[((u1 ho).congr eq).uniq P2];rfl
     |false=>
      simp only[cT];rw[gB vc' (.inr (show NN (aL.mk hi hi 0)from NN.one h2.1 h2.2))];rw[show cG c' (aL.mk hi hi 0)=c from((u2 ho).congr eq).uniq P2]
    obtain⟨t1,t2⟩:=ob (Ex.rep ⟨s2.1,m2⟩) s2.1 rlo s3.rep s3.1;rw[f1];simp only;rw[f2];rw[f3];simp only;rw[<-(s3.rep.empty s3.1).1];cases hu:fu x3 with
    |true=>
     exact fin x2 s2.1 (t1 hu)
    |false=>
     rw[gB s2.1 (.inr (show NN (aL.mk lo lo 0)from NN.one h1.1 h1.2))];exact fin _ (fe s2.1 (rH rlo)) (t2 hu)
  ·right;rw[bZ h1,bY h2];refine⟨?_,rfl,λk=>h2 k.2.1⟩;cases J (hi<lo)<;>rfl
 ·right;rw[bY h1];refine⟨?_,rfl,λk=>h1 k.1⟩;cases J (hi<lo)<;>rfl
def lU{a:aL}(h:NV a):cD a=O↔∃x,bT a x/\x≠0:=by
 unfold cD;rcases h with rfl|h
 ·rw[show b7 cM=0 from by unfold b7;rw[bI rfl],AS,AS];exact⟨λk=>(by cases k),λ⟨x,k,_⟩=>ei k CP⟩
 ·have hp:=size_pos h;have h1:=lX h;have hle:=h.le;have mlo:bT a a.ah:=⟨zw _,h.le,⟨0,aq⟩⟩;have mhi:bT a a.ag:=⟨h.le,zw _,h.dvd⟩;by_cases c:1<b7 a
  ·rw[bI c];refine⟨λ_=> ?_,λ_=>rfl⟩;by_cases z:a.ah=0
   ·exact⟨a.ag,mhi,λk=>by have:=h1.mpr aq;omega⟩
   ·exact⟨a.ah,mlo,z⟩
  ·rw[bO c,bI (show b7 a=1 by omega)];have e:=h1.mp aq;constructor
   ·intro k;refine⟨a.ah,mlo,λz=> ?_⟩;rw[nh (show bT a 0 by rw[<-z];exact mlo)]at k;cases k
   ·rintro⟨x,k1,k2⟩;rw[jC (show ¬bT a 0 from λk=>by have:=k.1;have:=k.2.1;have:=k1.1;have:=k1.2.1;omega)];rfl
def zero_or{a:aL}(h:NN a):(cD a||cR a 0)=O:=by
 have mlo:bT a a.ah:=⟨zw _,h.le,⟨0,aq⟩⟩;by_cases z:a.ah=0
 ·rw[nh (show bT a 0 by rw[<-z];exact mlo),Bool.or_true]
 ·rw[(lU (.inr h)).mpr ⟨_,mlo,z⟩,Bool.true_or]
def awZ(a:aL):aL:=aL.mk (-a.ag) (-a.ah) a.aj
def aic{a:aL}(h:NN a):NN (awZ a):=by
 have:=h.lo;have:=h.hi;have:=h.le
 refine⟨by show _<= -a.ag;omega,by show-a.ah<=_;omega,by show-a.ag<= -a.ah;omega,?_⟩;rcases h.st with ⟨h1,h2⟩|⟨h1,h2,h3⟩
 ·exact .inl ⟨by show-a.ag= -a.ah;omega,h2⟩
 ·refine .inr ⟨by show-a.ag< -a.ah;omega,h2,?_⟩;show (-a.ah- -a.ag)%a.aj=0;rw[show-a.ah- -a.ag=a.ag-a.ah by omega];exact h3
def pX(op:Int)(a:aL):aL×Int:=open Classical in
 if¬NV a\/(op≠6/\op≠7)then(aL.mk 0 0 0,1)else if a=cM then(cM,0)else if op=7 then(iY (cD a) (cR a 0),0)else(awZ a,0)
def Ii(op:Int):(bif bif J (op=6)then G else O then V (bif J (op=7)then G else O)else V G)=V (J (op≠6/\op≠7)):=by
 by_cases h:op=6
 ·rw[bZ h,bY (show ¬(op≠6/\op≠7)from λk=>k.1 h)];rfl
 ·by_cases k:op=7
  ·rw[bY h,bZ k,bY (show ¬(op≠6/\op≠7)from λe=>e.2 k)];rfl
  ·rw[bY h,bY k,bZ (show op≠6/\op≠7 from⟨h,k⟩)];rfl
def UX{a:aL}(h:NV a)(op:Int):ahz op a=V (pX op a):=by
 unfold ahz pX;rw[eW,dZ h];simp only[cT];rw[Ii];by_cases ho:op≠6/\op≠7
 ·rw[bZ ho,bI (.inr ho)];rfl
 ·rw[bY ho,bO (λk=>k.elim (λe=>e h) ho)];simp only[cw];rcases h with rfl|h
  ·rw[kI,bI rfl];rfl
  ·rw[eO h.ne,bO h.ne,cw];by_cases h7:op=7
   ·rw[bZ h7,bI h7,cI,Di (.inr h)];simp only;rw[UU]
   ·rw[bY h7,bO h7,cw];have:=h.lo;have:=h.hi;have:=h.le
    rw[aM (n:=0-a.ag),aM (n:=0-a.ah),xW,xW];rfl
def Vr{a:aL}(h:NV a)(op:Int):Z2 op a=V (pX op a):=by
 unfold Z2 pX;rw[gj,dZ h];simp only[cT];rw[Ii];by_cases ho:op≠6/\op≠7
 ·rw[bZ ho,bI (.inr ho)];rfl
 ·rw[bY ho,bO (λk=>k.elim (λe=>e h) ho)];simp only[cw];rcases h with rfl|h
  ·rw[tU,bI rfl];rfl
  ·rw[gZ h,bO h.ne,cw];by_cases h7:op=7
   ·rw[bY (show ¬op=6 by omega),bI h7,cw,oP (.inr h)];simp only;rw[Xx (zero_or h)]
   ·rw[bZ (show op=6 by omega),bO h7,cI];have:=h.lo;have:=h.hi;have:=h.le
    rw[aM (n:=0-a.ag),aM (n:=0-a.ah),xW,xW];rfl
def Tt:NV (aL.mk 0 0 0):= .inr (NN.one (x:=0) aq aq)
def oR(x y:Int):Int:=if y=0 then 0 else if x.tmod y≠0/\(J (x<0))≠(J (y<0))then x.tdiv y-1 else x.tdiv y
def tw{x y:Int}(hy:y≠0):∃q r:Int,x.tdiv y=q/\x.tmod y=r/\y*q+r=x/\r.natAbs<y.natAbs/\q.natAbs<=x.natAbs/\(0<=x->0<=r)/\(x<=0->r<=0)/\(r≠0->q.natAbs<x.natAbs):=by
 refine⟨_,_,rfl,rfl,Int.mul_tdiv_add_tmod x y,?_,?_,λh=>Int.tmod_nonneg _ h,λh=> ?_,λh=> ?_⟩
 ·rw[Int.natAbs_tmod];exact yV _ aq
 ·rw[Int.natAbs_tdiv];exact Nat.div_le_self _ _
 ·have:=Int.tmod_nonneg (a:= -x) y aq;rw[Int.neg_tmod]at this;omega
 ·have e:=Nat.div_add_mod x.natAbs y.natAbs;have hr:(x.tmod y).natAbs≠0:=aq;rw[Int.natAbs_tmod]at hr;rw[Int.natAbs_tdiv];have h1:x.natAbs/y.natAbs<=y.natAbs*(x.natAbs/y.natAbs):=Nat.le_mul_of_pos_left _ aq;show x.natAbs/y.natAbs<x.natAbs;omega
def TG{x y:Int}(hx:cC x):cC (oR x y)/\(oR x y).natAbs<=x.natAbs:=by
 unfold oR;obtain⟨h1,h2⟩:=hx;by_cases hy:y=0
 ·rw[bI hy];exact⟨⟨aq,aq⟩,aq⟩
 ·rw[bO hy];obtain⟨q,r,e1,e2,e3,e4,e5,_,_,e6⟩:=tw (x:=x) hy;split
  ·rename_i h;exact⟨⟨aq,aq⟩,aq⟩
  ·exact⟨⟨aq,aq⟩,aq⟩
def Tf{x y:Int}(hy:cC y)(h0:y≠0):cC (x-y*oR x y)/\(0<y->0<=x-y*oR x y/\x-y*oR x y<y)/\(y<0->x-y*oR x y<=0/\y<x-y*oR x y):=by
 unfold oR;rw[bO h0];obtain⟨h1,h2⟩:=hy;obtain⟨q,r,e1,e2,e3,e4,e5,e7,e8,e6⟩:=tw (x:=x) h0;rw[e1,e2];by_cases h:r≠0/\J (x<0)≠J (y<0)
 ·rw[bI h,Int.mul_sub,Int.mul_one];obtain⟨k1,k2⟩:=h;by_cases c:x<0
  ·have c2:¬y<0:=λk=>k2 (by rw[bZ c,bZ k]);exact⟨⟨aq,aq⟩,λ_=>aq,λ_=>aq⟩
  ·have c2:y<0:=Decidable.byContradiction λk=>k2 (by rw[bY c,bY k]);exact⟨⟨aq,aq⟩,λ_=>aq,λ_=>aq⟩
 ·rw[bO h];by_cases k1:r=0
  ·exact⟨⟨aq,aq⟩,λ_=>aq,λ_=>aq⟩
  ·have k2:J (x<0)=J (y<0):=Decidable.byContradiction λk=>h ⟨k1,k⟩;by_cases c:x<0
   ·have c2:y<0:=by
     simp_all
    exact⟨⟨aq,aq⟩,λ_=>aq,λ_=>aq⟩
   ·have c2:¬y<0:=by
     rw[bY c]at k2;exact of_decide_eq_false k2.symm
    exact⟨⟨aq,aq⟩,λ_=>aq,λ_=>aq⟩
def II{x y:Int}(hx:cC x)(hy:cC y):aaz x y=V (oR x y):=by
 have hR:=TG (y:=y) hx;unfold aaz;unfold oR at hR ⊢;obtain⟨h1,h2⟩:=hx;by_cases h0:y=0
 ·rw[bZ h0,bI h0];rfl
 ·rw[bO h0]at hR;rw[bY h0,bO h0,cw,bI h0,bI h0,CL];obtain⟨q,r,e1,e2,e3,e4,e5,e7,e8,e6⟩:=tw (x:=x) h0;rw[e1,e2]at hR ⊢;by_cases k1:r=0
  ·rw[bY (show ¬¬r=0 by omega),bO (λk=>k.1 k1)];simp only[cw];rw[aM]
  ·rw[bZ k1];simp only[cI];by_cases k2:J (x<0)=J (y<0)
   ·rw[bO (λk=>k.2 k2),k2];have:(bif J (y<0)==J (y<0)then false else true)=false:=by cases J (y<0)<;>rfl
    rw[this];simp only[cw];rw[aM]
   ·rw[bI ⟨k1,k2⟩]at hR ⊢;have:(bif J (x<0)==J (y<0)then G else O)=O:=by
     revert k2;simp
    rw[this];simp only[cI];rw[aM (n:=q),aM (n:=q-1)]
def Xq{x y:Int}(hx:cC x)(hy:cC y):ahK x y=V (oR x y):=II hx hy
def oq(b:Bool):Int:=if b then 1 else 0
def fR(op x y:Int):Int:=
 if op=8 then x+y else if op=9 then x-y else if op=10 then x*y else if op=11 then oR x y else if op=12 then(if y=0 then 0 else x-y*oR x y)
 else if op=13 then oq (J (x=y))else if op=14 then oq (!J (x=y))else if op=15 then oq (J (x<y))else if op=16 then oq (J (x<=y))else if op=17 then oq (J (y<x))else if op=18 then oq (J (y<=x))
 else if op=19 then oq (J (x≠0/\y≠0))else if op=20 then oq (J (x≠0\/y≠0))else if op=21 then min x y else max x y
def th(b:Bool):cC (oq b):=by cases b<;>exact⟨by decide,by decide⟩
def aiz{op x y:Int}(hx:cC x)(hy:cC y)(ho:op=11\/op=12\/op=21\/op=22):XW op x y=V (fR op x y):=by
 unfold XW fR;rcases ho with rfl|rfl|rfl|rfl
 ·rw[bZ rfl,cI,II hx hy];rfl
 ·rw[bY (by decide),bZ rfl,cw,cI];show _=V (if y=0 then 0 else x-y*oR x y);by_cases h0:y=0
  ·simp_all
  ·rw[bY h0,bO h0,cw,II hx hy];simp only;have hm:=Tf (x:=x) hy h0;obtain⟨a1,a2⟩:=hx;obtain⟨b1,b2⟩:=hy;rw[aM (n:=y*oR x y),aM]
 ·rw[bY (by decide),bY (by decide),bZ rfl];rw[show (if y<x then y else x)=min x y by split<;>omega];rfl
 ·rw[bY (show ¬(22:Int)=11 by decide),bY (show ¬(22:Int)=12 by decide),bY (show ¬(22:Int)=21 by decide)];rw[show (if x<y then y else x)=max x y by split<;>omega];rfl
def binop(op:Int):Prop:=8<=op/\op<=22
def uK{x:Int}(hx:cC x):@Eq Int (jm x 0) ((x.natAbs:Nat):Int):=by
 unfold jm;obtain⟨h1,h2⟩:=hx;by_cases c:x<0
 ·rw[bZ c,cI,aM];show @Eq Int (0-x) ((x.natAbs:Nat):Int);omega
 ·rw[bY c,cw,aM];show @Eq Int (x-0) ((x.natAbs:Nat):Int);omega
def nG{x:Int}(hx:cC x):@Eq Int (jO x) ((x.natAbs:Nat):Int):=by
 obtain⟨h1,h2⟩:=hx;obtain⟨k1,k2⟩:=J4 (x:=x) aq aq;grind
def M5{x y:Int}(h0:x≠0):((1099511627776:Int)/x.natAbs<y.natAbs)↔¬cC (x*y):=by
 have hp:(0:Int)<(x.natAbs:Int):=aq;have e:((x*y).natAbs:Int)=(y.natAbs:Int)*(x.natAbs:Int):=by rw[Int.natAbs_mul,wG,zO]
 have hi:cC (x*y)↔((x*y).natAbs:Int)<=1099511627776:=⟨λ⟨h1,h2⟩=>aq,λh=>⟨aq,aq⟩⟩;rw[hi,e,<-Int.le_ediv_iff_mul_le hp];omega
end Go.Proofs.YtnfljbehcffmcaaGreat
end
