/- Merged: Hn, Gd, Ho, Pl, Nd, Nd2, Nd3, Nd4, Nd5, Nd6, Nd7, Ne1, Pl2, Ne2, Ne3, Ne4, Ne5, Ne6, Ne7, Ne8, Ne11, Ne12, Ne13. -/
import Derived.Test.YtnfljbehcffmcaaGreatM2RefineFinds
import Derived.KernelRfl
open Int renaming toNat_natCast → ze, le_refl → zm, toNat → zC, mul_nonneg → zF, mul_comm → zI, mul_le_mul_of_nonneg_right → zN, mul_assoc → zQ, ediv_nonneg → zR, add_mul → zS, dvd_trans → zV, one_mul → z6, ediv_le_self → yg, sub_mul → yu, dvd_sub → yz, gcd → yE, mul_ediv_add_emod → yV, emod_nonneg → yW, dvd_add → yX, emod_lt_of_pos → y4, mul_add → y5, le_of_lt → y8, ediv_mul_le → xd, mul_le_mul → xA, dvd_zero → xB, dvd_mul_left → xC, natCast_mul → xI, zero_mul → xT, le_trans → xU, zero_dvd → xV, min_eq_right → xW, ediv_mul_cancel → wu, lt_of_mul_lt_mul_right → wK, dvd_of_emod_eq_zero → wL, min_eq_left → wM, ediv_lt_of_lt_mul → wT, eq_ofNat_of_zero_le → wU, mul_le_mul_of_nonneg_left → wV, lt_ediv_add_one_mul_self → wW
open Nat renaming le_refl → zn, mod_lt → yQ, zero_le → yT, lt_succ_iff_lt_or_eq → y9
open Bool renaming and_eq_true → zi, or_eq_true → yM, true → O, false → S
open List renaming getElem?_eq_getElem → zu, all_eq_true → zw, mem_singleton → zy, take_length → zB, mem_cons → zD, length_take → zH, range → zM, length → zP, mem_append → zW, drop → yf, getElem_of_mem → yZ, getElem_mem → xM, getElem_take → we, any_eq_true → wo, length_pos_iff → wP
open Option renaming some → zA, some → V, none → G
open Decidable renaming decide → J
open Go.Proofs.Tryz renaming prog → w9
open Go.Proofs.Tryz
set_option linter.unusedSectionVars false
set_option linter.unusedVariables false
set_option linter.unusedSimpArgs false
set_option linter.defProp false
noncomputable section
set_option maxRecDepth 100000
namespace Go.Proofs.YtnfljbehcffmcaaGreat
open Go Go.Iv
open Go.IntKind (i64 u64)
abbrev E80:=aH
def d80:Td 0 E80:= .c [] [2] (.r 0 1 (ec 2 (qp 0 0) en) (sb 0 34 (lg 34) sn) (λz=>z.2.1) (λx=>(((),()),(x,()))))
def Un(a0:Int):E80:=
 aH.mk a0 a0 (0)
def e80:=eL w9 80 S (bk ln) d80 (λg=>V (Un g.1))
def K5:EO e80:=λh=>kL (an:= .no) func80 aR aF h
def an8:aZ:=cZ
abbrev aqR:=Bool
def d145:Td 0 aqR:= .c [] [2] (.r 0 0 (ec 2 qb en) sn (λz=>z.1.1) (λx=>((x,()),(()))))
def at3:=(bk ln)
def al5:An:=(noTwo (.two (.rb [] 2) .no))
def at8:∀f∈([]:aa Nat),bw (an8) f:=aF
def iU(a0:Int):aqR:=
 let r1:Bool:=bif J (-1099511627776<=a0)then J (a0<=1099511627776)else S;r1
def aFM(a0:Int):bL w9 (an8) 300 (al5) 145 (at3.c (a0,())) [] 0 d145.rd=V (iU a0):=by
 refine Eq.trans (b:=(
  match bif J (-1099511627776<=a0)then V (J (a0<=1099511627776))else V (S)with|G=>G|V r1=>V (r1):af aqR)) (by kernel_rfl) ?_
 simp only[iU,cM,di]
def VM:=eL w9 145 S at3 d145 (λg=>V (iU g.1))
def uQ:EO VM:=λh=>kL (F:=an8) (an:=al5) (l:=[(.skip,(.rb [] 2))]) func145 aR (az at8 aF) h (c:=λg=>aFM g.1)
def jN:EP VM:=λh=>kP h
def au1:aZ:=cZ
abbrev az1:=aH
def d224:Td 0 az1:= .c [] [0] (.r 0 1 (ec 0 (qp 0 0) en) (sb 0 34 (lg 34) sn) (λz=>z.2.1) (λx=>(((),()),(x,()))))
def awj:=ln
def ak0:An:= .no
def iL:az1:=
 aH.mk (1) (0) (0)
def aDT:bL w9 (au1) 300 (ak0) 224 (awj.c ()) [] 0 d224.rd=V (iL):=by kernel_rfl
def Nc:=eL w9 224 S awj d224 (λ_=>V (iL))
def jU:EO Nc:=λh=>kL (F:=au1) (an:=ak0) func224 aR aF h (c:=λ_=>aDT)
def kS:EP Nc:=λh=>kP h
def aEd:aZ:=(Nc cZ)
abbrev aqo:=Bool
def d147:Td 0 aqo:= .c [] [2] (.r 0 0 (ec 2 qb en) sn (λz=>z.1.1) (λx=>((x,()),(()))))
def az4:=(lc (qg 34) ln)
def am5:An:= .no
def fA(a0:aH):aqo:=
 bif J (a0.ag=iL.ag)then bif J (a0.ah=iL.ah)then bif J (a0.aj=iL.aj)then O else S else S else S
def aE5(a0:aH):bL w9 (aEd) 300 (am5) 147 (az4.c (a0,())) [] 0 d147.rd=V (fA a0):=by
 refine Eq.trans (b:=(
  V (bif J (a0.ag=iL.ag)then bif J (a0.ah=iL.ah)then bif J (a0.aj=iL.aj)then O else S else S else S):af aqo)) (by kernel_rfl) ?_
 simp only[fA,cM,di]
def Dr:=eL w9 147 S az4 d147 (λg=>V (fA g.1))
def ja:EO Dr:=λh=>kL (an:=am5) func147 (jU aR) aF h (c:=λg=>aE5 g.1)
def fD:EP Dr:=λh=>kP h
def auz:aZ:=(Dr (VM cZ))
abbrev awk:=Bool
def d144:Td 0 awk:= .c [] [2] (.r 0 0 (ec 2 qb en) sn (λz=>z.1.1) (λx=>((x,()),(()))))
def amN:∀f∈([145]:aa Nat),bw (auz) f:=(az (fD (jN bS)) aF)
def tq(a0:aH):af awk:=
 bif fA a0 then V O else match bif bif iU a0.ag then S else O then V O else bif bif iU a0.ah then S else O then V O else V (J (a0.ah<a0.ag))with|G=>G|V r1=>bif r1 then V S else bif J (a0.ag=a0.ah)then V (J (a0.aj=0))else match bif J (1<=a0.aj)then if¬a0.aj=0then V (J ((i64.wrap (a0.ah-a0.ag)).tmod a0.aj=0))else G else V S with|G=>G|V r2=>V (r2)
def Oi:=eL w9 144 S (lc (qg 34) ln) d144 (λg=>tq g.1)
def kJ:EO Oi:=λh=>kL (F:=auz) (an:=(noTwo (noTwo (.two (.two (.rb [145] 21) .no) (noTwo (.two (.rb [145] 2) .no)))))) (l:=[(.skip,(.rb [145] 21)),(.skip,(.rb [145] 2))]) func144 (ja (uQ aR)) (az amN (az amN aF)) h
def fT:EP Oi:=λh=>kP h
abbrev ayn:=aH
def d149:Td 0 ayn:= .c [] [2] (.r 0 1 (ec 2 (qp 0 0) en) (sb 0 34 (lg 34) sn) (λz=>z.2.1) (λx=>(((),()),(x,()))))
def gO(a0:Int):ayn:=
 aH.mk a0 a0 (0)
def ahp:=eL w9 149 S (bk ln) d149 (λg=>V (gO g.1))
def rz:EO ahp:=λh=>kL (an:= .no) func149 aR aF h
def V7:EP ahp:=λh=>kP h
abbrev aAb:=aH
def d225:Td 0 aAb:= .c [] [6] (.r 0 1 (ec 6 (qp 0 0) en) (sb 0 34 (lg 34) sn) (λz=>z.2.1) (λx=>(((),()),(x,()))))
def lV(a0:Int)(a1:Int)(a2:Int):af aAb:=
 bif J (a1<a0)then V (iL)else bif J (a2=0)then V (gO a0)else if¬a2=0then bif J (a0=i64.wrap (a0+i64.wrap (i64.wrap ((i64.wrap (a1-a0)).tdiv a2)*a2)))then V (gO a0)else V (aH.mk a0 (i64.wrap (a0+i64.wrap (i64.wrap ((i64.wrap (a1-a0)).tdiv a2)*a2))) a2)else G
def Rw:=eL w9 225 S (bk (bk (bk ln))) d225 (λg=>lV g.1 g.2.1 g.t.1)
def rF:EO Rw:=λh=>kL (an:= .no) func225 (jU (rz aR)) aF h
def jF:EP Rw:=λh=>kP h
def av3:aZ:=(Rw (Nc (Dr cZ)))
abbrev awo:=aH×aH
def d146:Td 0 awo:= .c [] [4,5] (.r 0 2 (ec 4 (qp 0 0) (ec 5 (qp 1 0) en)) (sb 0 34 (lg 34) (sb 1 34 (lg 34) sn)) (λz=>(z.2.1,z.t.1)) (λx=>(((),(),()),(x.1,x.2,()))))
def aA3:∀f∈([147]:aa Nat),bw (av3) f:=(az (jF (kS (fD bS))) aF)
def BO(a0:aH)(a1:Int):af awo:=
 match bif fA a0 then V (O)else V (J (a1<a0.ag))with|G=>G|V r1=>bif r1 then V ((iL,a0))else bif J (a0.ah<=a1)then V ((a0,iL))else match lV a0.ag a1 a0.aj with|G=>G|V r2=>match lV (i64.wrap (r2.ah+a0.aj)) a0.ah a0.aj with|G=>G|V r3=>V ((r2,r3))
def ad7:=eL w9 146 S (lc (qg 34) (bk ln)) d146 (λg=>BO g.1 g.2.1)
def Jm:EO ad7:=λh=>kL (F:=av3) (an:=(noTwo (.two (.two (.rb [147] 7) .no) .no))) (l:=[(.skip,(.rb [147] 7))]) func146 (rF (jU (ja aR))) (az aA3 aF) h
def WG:EP ad7:=λh=>kP h
structure mJ where
 (t3 t5:Int)
 t6:List Int
 (t7 t8:Int)
def OP:Td 0 mJ:= .c [] [3,5,6,7,8] (.r 0 0 (ec 3 aL (ec 5 aL (ec 6 (ql 3) (ec 7 aL (ec 8 aL en))))) sn (λz=>⟨z.1.1,z.1.2.1,z.1.t.1,z.1.t.2.1,z.1.q.1⟩) (λx=>((x.t3,x.t5,x.t6,x.t7,x.t8,()),(()))))
def sQ(p:mJ):af (af mJ):=
 bif bif J (p.t5=0)then S else O then if¬p.t5=0then V (V (mJ.mk p.t5 (p.t3.tmod p.t5) p.t6 p.t7 p.t8))else G else V (G)
def AN:=bJ (sQ)
structure tH where
 t3:Int
 t6:List Int
 (t7 t8:Int)
def Q4:Td 0 tH:= .c [] [3,6,7,8] (.r 0 0 (ec 3 aL (ec 6 (ql 3) (ec 7 aL (ec 8 aL en)))) sn (λz=>⟨z.1.1,z.1.2.1,z.1.t.1,z.1.t.2.1⟩) (λx=>((x.t3,x.t6,x.t7,x.t8,()),(()))))
def tT(p:tH):af (af tH):=
 bif J (p.t8<p.t7)then if 0<=p.t8/\p.t8<p.t6.length then match AN (mJ.mk p.t3 p.t6[p.t8.toNat]! p.t6 p.t7 p.t8)with|G=>G|V r1=>bif bif J (r1.t5=0)then S else O then if¬r1.t5=0then G else G else V (V (tH.mk r1.t3 r1.t6 r1.t7 (i64.wrap (r1.t8+1))))else G else V (G)
def abt:An:=(noTwo (noTwo (.two (noTwo (OP.lp AN .no)) .no)))
def E8:=bJ (tT)
abbrev ayF:=Int
def d226:Td 0 ayF:= .c [] [2] (.r 0 0 (ec 2 aL en) sn (λz=>z.1.1) (λx=>((x,()),(()))))
def BG(a0:aa Int):af ayF:=
 match E8 (tH.mk 0 a0 a0.length 0)with|G=>G|V r2=>bif J (r2.t8<r2.t7)then if 0<=r2.t8/\r2.t8<r2.t6.length then match AN (mJ.mk r2.t3 r2.t6[r2.t8.toNat]! r2.t6 r2.t7 r2.t8)with|G=>G|V r3=>bif bif J (r3.t5=0)then S else O then if¬r3.t5=0then G else G else G else G else V (r2.t3)
def abv:=eL w9 226 S (lc (ql 3) ln) d226 (λg=>BG g.1)
def BW:EO abv:=λh=>kL (an:=(noTwo (noTwo (.two (noTwo (Q4.lp E8 abt)) .no)))) (l:=[(aW f226 0,(Q4.lp E8 abt)),(aW f226 1,(OP.lp AN .no))]) func226 aR (az (aO Q4) (az (aO OP) aF)) h
def mX:EP abv:=λh=>kP h
def aEq:aZ:=cZ
abbrev arS:=Int
def d227:Td 0 arS:= .c [] [2] (.r 0 0 (ec 2 aL en) sn (λz=>z.1.1) (λx=>((x,()),(()))))
def azV:=(bk ln)
def amB:An:= .no
def jt(a0:Int):arS:=
 if a0<i64.wrap (0-a0)then i64.wrap (0-a0)else a0
def aEL(a0:Int):bL w9 (aEq) 300 (amB) 227 (azV.c (a0,())) [] 0 d227.rd=V (jt a0):=by
 refine Eq.trans (b:=(
  V (if a0<i64.wrap (0-a0)then i64.wrap (0-a0)else a0):af arS)) (by kernel_rfl) ?_
 simp only[jt,cM,di]
def aae:=eL w9 227 S azV d227 (λg=>V (jt g.1))
def Cp:EO aae:=λh=>kL (an:=amB) func227 aR aF h (c:=λg=>aEL g.1)
def Hw:EP aae:=λh=>kP h
def axh:aZ:=(aae (abv (Rw (Dr cZ))))
abbrev aBn:=aH
def d148:Td 0 aBn:= .c [] [4] (.r 0 1 (ec 4 (qp 0 0) en) (sb 0 34 (lg 34) sn) (λz=>z.2.1) (λx=>(((),()),(x,()))))
def aAn:∀f∈([147]:aa Nat),bw (axh) f:=(az (Hw (mX (jF (fD bS)))) aF)
def lW(a0:aH)(a1:aH):af aBn:=
 bif fA a0 then V (a1)else match bif fA a1 then V (O)else V (bif J (a0.ag=a1.ag)then bif J (a0.ah=a1.ah)then bif J (a0.aj=a1.aj)then O else S else S else S)with|G=>G|V r1=>bif r1 then V (a0)else match BG [a0.aj,a1.aj,jt (i64.wrap (a0.ag-a1.ag))]with|G=>G|V r2=>match lV (if a1.ag<a0.ag then a1.ag else a0.ag) (if a0.ah<a1.ah then a1.ah else a0.ah) r2 with|G=>G|V r3=>V (r3)
def Y3:=eL w9 148 S (lc (qg 34) (lc (qg 34) ln)) d148 (λg=>lW g.1 g.2.1)
def qV:EO Y3:=λh=>kL (F:=axh) (an:=(noTwo (noTwo (.two (.two (.rb [147] 14) .no) .no)))) (l:=[(.skip,(.rb [147] 14))]) func148 (Cp (BW (rF (ja aR)))) (az aAn aF) h
def GB:EP Y3:=λh=>kP h
def F81:aZ:=(ahp (Y3 (Dr (ad7 (VM (Oi cZ))))))
abbrev E81:=aH×Int
def d81:Td 0 E81:= .c [] [6,7] (.r 0 1 (ec 6 (qp 0 0) (ec 7 aL en)) (sb 0 34 (lg 34) sn) (λz=>(z.2.1,z.1.2.1)) (λx=>(((),x.2,()),(x.1,()))))
def aE3:∀f∈([145]:aa Nat),bw (F81) f:=(az (V7 (GB (fD (WG (jN (fT bS)))))) aF)
def m81(a0:aH)(a1:Int)(a2:Int):af E81:=
 match tq a0 with|G=>G|V r1=>bif bif r1 then S else O then V ((aH.mk (0) (0) (0),1))else match bif J (a2<a1)then V (O)else bif bif iU a1 then S else O then V (O)else V (bif iU a2 then S else O)with|G=>G|V r2=>bif r2 then V ((aH.mk (0) (0) (0),3))else match BO a0 (i64.wrap (a1-1))with|G=>G|V r3=>match BO r3.snd a2 with|G=>G|V r4=>bif bif fA r3.fst then S else O then match lW r4.fst (gO a1)with|G=>G|V r5=>bif bif fA r4.snd then S else O then match lW r5 (gO a2)with|G=>G|V r6=>V ((r6,0))else V ((r5,0))else bif bif fA r4.snd then S else O then match lW r4.fst (gO a2)with|G=>G|V r7=>V ((r7,0))else V ((r4.fst,0))
def e81:=eL w9 81 S (lc (qg 34) (bk (bk ln))) d81 (λg=>m81 g.1 g.2.1 g.t.1)
def OU:EO e81:=λh=>kL (F:=F81) (an:=(noTwo (noTwo (.two (.two (.rb [145] 28) .no) .no)))) (l:=[(.skip,(.rb [145] 28))]) func81 (rz (qV (ja (Jm (uQ (kJ aR)))))) (az aE3 aF) h
def avk:aZ:=(Dr cZ)
abbrev aBm:=Bool
def d177:Td 0 aBm:= .c [] [4] (.r 0 0 (ec 4 qb en) sn (λz=>z.1.1) (λx=>((x,()),(()))))
def amb:∀f∈([147]:aa Nat),bw (avk) f:=(az (fD bS) aF)
def VU(a0:aH)(a1:Int):af aBm:=
 match bif fA a0 then V O else bif J (a1<a0.ag)then V O else V (J (a0.ah<a1))with|G=>G|V r1=>bif r1 then V S else match bif J (a0.aj=0)then V O else if¬a0.aj=0then V (J ((i64.wrap (a1-a0.ag)).tmod a0.aj=0))else G with|G=>G|V r2=>V (r2)
def ajF:=eL w9 177 S (lc (qg 34) (bk ln)) d177 (λg=>VU g.1 g.2.1)
def JL:EO ajF:=λh=>kL (F:=avk) (an:=(noTwo (.two (.two (.rb [147] 18) .no) (.two (.rb [147] 4) .no)))) (l:=[(.skip,(.rb [147] 18)),(.skip,(.rb [147] 4))]) func177 (ja aR) (az amb (az amb aF)) h
def A6:EP ajF:=λh=>kP h
def F92:aZ:=(ajF (Oi cZ))
abbrev E92:=Bool
def d92:Td 0 E92:= .c [] [4] (.r 0 0 (ec 4 qb en) sn (λz=>z.1.1) (λx=>((x,()),(()))))
def aCR:∀f∈([144,177]:aa Nat),bw (F92) f:=(az (A6 (fT bS)) (az (A6 (fT bS)) aF))
def m92(a0:aH)(a1:Int):af E92:=
 match match tq a0 with|G=>G|V r1=>bif r1 then match VU a0 a1 with|G=>G|V r2=>V (r2)else V (S)with|G=>G|V r3=>V (r3)
def e92:=eL w9 92 S (lc (qg 34) (bk ln)) d92 (λg=>m92 g.1 g.2.1)
def Qo:EO e92:=λh=>kL (F:=F92) (an:=(noTwo (.two (.rb [144,177] 4) .no))) (l:=[(.skip,(.rb [144,177] 4))]) func92 (JL (kJ aR)) (az aCR aF) h
abbrev avZ:=Int
def d176:Td 0 avZ:= .c [] [2] (.r 0 0 (ec 2 aL en) sn (λz=>z.1.1) (λx=>((x,()),(()))))
def vK(a0:aH):af avZ:=
 bif fA a0 then V 0 else bif J (a0.aj=0)then V 1 else if¬a0.aj=0then V (i64.wrap (i64.wrap ((i64.wrap (a0.ah-a0.ag)).tdiv a0.aj)+1))else G
def arU:=eL w9 176 S (lc (qg 34) ln) d176 (λg=>vK g.1)
def uY:EO arU:=λh=>kL (an:= .no) func176 (ja aR) aF h
def V6:EP arU:=λh=>kP h
abbrev ayo:=Bool×Bool
def d228:Td 0 ayo:= .c [] [2,3] (.r 0 0 (ec 2 qb (ec 3 qb en)) sn (λz=>(z.1.1,z.1.2.1)) (λx=>((x.1,x.2,()),(()))))
def Pz(a0:aH):af ayo:=
 match VU a0 (0)with|G=>G|V r1=>match vK a0 with|G=>G|V r2=>bif J (1<r2)then V ((r1,O))else match vK a0 with|G=>G|V r3=>bif J (r3=1)then V ((r1,bif J (a0.ag=0)then S else O))else V ((r1,S))
def ahW:=eL w9 228 S (lc (qg 34) ln) d228 (λg=>Pz g.1)
def IZ:EO ahW:=λh=>kL (an:= .no) func228 (JL (uY aR)) aF h
def Hv:EP ahW:=λh=>kP h
abbrev az9:=Bool×Bool
def d151:Td 0 az9:= .c [] [2,3] (.r 0 0 (ec 2 qb (ec 3 qb en)) sn (λz=>(z.1.1,z.1.2.1)) (λx=>((x.1,x.2,()),(()))))
def O8(a0:aH):af az9:=
 match tq a0 with|G=>G|V r1=>bif bif r1 then S else O then V ((S,S))else match Pz a0 with|G=>G|V r2=>V (r2)
def ain:=eL w9 151 S (lc (qg 34) ln) d151 (λg=>O8 g.1)
def KW:EO ain:=λh=>kL (an:= .no) func151 (IZ (kJ aR)) aF h
def axb:aZ:=(Y3 (Oi cZ))
abbrev avX:=aH×Int
def d229:Td 0 avX:= .c [] [4,5] (.r 0 1 (ec 4 (qp 0 0) (ec 5 aL en)) (sb 0 34 (lg 34) sn) (λz=>(z.2.1,z.1.2.1)) (λx=>(((),x.2,()),(x.1,()))))
def auP:∀f∈([144]:aa Nat),bw (axb) f:=(az (GB (fT bS)) aF)
def aeh(a0:aH)(a1:aH):af avX:=
 match match tq a0 with|G=>G|V r1=>bif bif r1 then S else O then V (O)else match tq a1 with|G=>G|V r2=>V (bif r2 then S else O)with|G=>G|V r3=>bif r3 then V ((aH.mk (0) (0) (0),1))else match lW a0 a1 with|G=>G|V r4=>V ((r4,0))
def aCv:=eL w9 229 S (lc (qg 34) (lc (qg 34) ln)) d229 (λg=>aeh g.1 g.2.1)
def aeA:EO aCv:=λh=>kL (F:=axb) (an:=(noTwo (.two (.two (.rb [144] 13) .no) .no))) (l:=[(.skip,(.rb [144] 13))]) func229 (qV (kJ aR)) (az auP aF) h
abbrev aBs:=aH
def d152:Td 0 aBs:= .c [] [4] (.r 0 1 (ec 4 (qp 0 0) en) (sb 0 34 (lg 34) sn) (λz=>z.2.1) (λx=>(((),()),(x,()))))
def vC(a0:aH)(a1:aH):af aBs:=
 bif bif J (a0.ag=a1.ag)then bif J (a0.ah=a1.ah)then bif J (a0.aj=a1.aj)then O else S else S else S then V (a0)else match aeh a0 a1 with|G=>G|V r1=>V (r1.fst)
def at6:=eL w9 152 S (lc (qg 34) (lc (qg 34) ln)) d152 (λg=>vC g.1 g.2.1)
def Io:EO at6:=λh=>kL (an:= .no) func152 (aeA aR) aF h
def avG:aZ:=(Nc cZ)
abbrev azL:=aH
def d153:Td 0 azL:= .c [] [0] (.r 0 1 (ec 0 (qp 0 0) en) (sb 0 34 (lg 34) sn) (λz=>z.2.1) (λx=>(((),()),(x,()))))
def auy:=ln
def anD:An:= .no
def agT:azL:=
 iL
def aCp:bL w9 (avG) 300 (anD) 153 (auy.c ()) [] 0 d153.rd=V (agT):=by kernel_rfl
def azI:=eL w9 153 S auy d153 (λ_=>V (agT))
def ahS:EO azI:=λh=>kL (F:=avG) (an:=anD) func153 (jU aR) aF h (c:=λ_=>aCp)
abbrev awL:=aH
def d230:Td 0 awL:= .c [] [4] (.r 0 1 (ec 4 (qp 0 0) en) (sb 0 34 (lg 34) sn) (λz=>z.2.1) (λx=>(((),()),(x,()))))
def oO(a0:Bool)(a1:Bool):af awL:=
 bif a0 then match lW iL (gO (0))with|G=>G|V r1=>bif a1 then match lW r1 (gO (1))with|G=>G|V r2=>V (r2)else V (r1)else bif a1 then match lW iL (gO (1))with|G=>G|V r3=>V (r3)else V (iL)
def ajh:=eL w9 230 S (lc qb (lc qb ln)) d230 (λg=>oO g.1 g.2.1)
def Ut:EO ajh:=λh=>kL (an:= .no) func230 (jU (rz (qV aR))) aF h
def GD:EP ajh:=λh=>kP h
def aAi:aZ:=(ajh (ahW (Dr (Oi cZ))))
abbrev auZ:=aH×Int
def d154:Td 0 auZ:= .c [] [4,5] (.r 0 1 (ec 4 (qp 0 0) (ec 5 aL en)) (sb 0 34 (lg 34) sn) (λz=>(z.2.1,z.1.2.1)) (λx=>(((),x.2,()),(x.1,()))))
def azx:∀f∈([144]:aa Nat),bw (aAi) f:=(az (GD (Hv (fD (fT bS)))) aF)
def akG(a0:Int)(a1:aH):af auZ:=
 match match tq a1 with|G=>G|V r1=>bif bif r1 then S else O then V (O)else bif bif J (a0=6)then S else O then V (bif J (a0=7)then S else O)else V (S)with|G=>G|V r2=>bif r2 then V ((aH.mk (0) (0) (0),1))else bif fA a1 then V ((a1,0))else bif J (a0=7)then match Pz a1 with|G=>G|V r3=>match oO r3.snd r3.fst with|G=>G|V r4=>V ((r4,0))else V ((aH.mk (i64.wrap (0-a1.ah)) (i64.wrap (0-a1.ag)) a1.aj,0))
def avP:=eL w9 154 S (bk (lc (qg 34) ln)) d154 (λg=>akG g.1 g.2.1)
def ajg:EO avP:=λh=>kL (F:=aAi) (an:=(noTwo (.two (.two (.rb [144] 18) .no) .no))) (l:=[(.skip,(.rb [144] 18))]) func154 (Ut (IZ (ja (kJ aR)))) (az azx aF) h
def aF2:aZ:=cZ
abbrev apJ:=Bool
def d231:Td 0 apJ:= .c [] [2] (.r 0 0 (ec 2 qb en) sn (λz=>z.1.1) (λx=>((x,()),(()))))
def awV:=(bk ln)
def akW:An:= .no
def BM(a0:Int):apJ:=
 bif J (a0=8)then O else bif J (a0=9)then O else bif J (a0=10)then O else bif J (a0=11)then O else bif J (a0=12)then O else bif J (a0=13)then O else bif J (a0=14)then O else bif J (a0=15)then O else bif J (a0=16)then O else bif J (a0=17)then O else bif J (a0=18)then O else bif J (a0=19)then O else bif J (a0=20)then O else bif J (a0=21)then O else bif J (a0=22)then O else S
def aCg(a0:Int):bL w9 (aF2) 300 (akW) 231 (awV.c (a0,())) [] 0 d231.rd=V (BM a0):=by
 refine Eq.trans (b:=(
  bif J (a0=8)then V (O)else bif J (a0=9)then V (O)else bif J (a0=10)then V (O)else bif J (a0=11)then V (O)else bif J (a0=12)then V (O)else bif J (a0=13)then V (O)else bif J (a0=14)then V (O)else bif J (a0=15)then V (O)else bif J (a0=16)then V (O)else bif J (a0=17)then V (O)else bif J (a0=18)then V (O)else bif J (a0=19)then V (O)else bif J (a0=20)then V (O)else bif J (a0=21)then V (O)else bif J (a0=22)then V (O)else V (S):af apJ)) (by kernel_rfl) ?_
 simp only[BM,cM,di]
def an6:=eL w9 231 S awV d231 (λg=>V (BM g.1))
def aj2:EO an6:=λh=>kL (an:=akW) func231 aR aF h (c:=λg=>aCg g.1)
def qS:EP an6:=λh=>kP h
def awZ:aZ:=(aae cZ)
abbrev aAA:=Int×Bool
def d274:Td 0 aAA:= .c [] [4,5] (.r 0 0 (ec 4 aL (ec 5 qb en)) sn (λz=>(z.1.1,z.1.2.1)) (λx=>((x.1,x.2,()),(()))))
def auX:∀f∈([227]:aa Nat),bw (awZ) f:=(az (Hw bS) aF)
def PF(a0:Int)(a1:Int):af aAA:=
 match bif bif J (a0=0)then S else O then if¬jt a0=0then V (J (i64.wrap ((1099511627776:Int).tdiv (jt a0))<jt a1))else G else V S with|G=>G|V r1=>bif r1 then V (0,S)else V ((i64.wrap (a0*a1),O))
def aFY:=eL w9 274 S (bk (bk ln)) d274 (λg=>PF g.1 g.2.1)
def afy:EO aFY:=λh=>kL (F:=awZ) (an:=(noTwo (.two (.two (.rb [227] 15) .no) .no))) (l:=[(.skip,(.rb [227] 15))]) func274 (Cp aR) (az auX aF) h
structure sM where
 t0:List Int
 (t3 t4:Int)
def PU:Td 0 sM:= .c [] [0,3,4] (.r 0 0 (ec 0 (ql 3) (ec 3 aL (ec 4 aL en))) sn (λz=>⟨z.1.1,z.1.2.1,z.1.t.1⟩) (λx=>((x.t0,x.t3,x.t4,()),(()))))
def CJ(p:sM):af (af sM):=
 bif J (p.t4<p.t0.length)then if 0<=p.t4/\p.t4<p.t0.length then V (V (sM.mk p.t0 (if((p.t0,p.t3,p.t4,()),()).fst.fst[((p.t0,p.t3,p.t4,()),()).fst.snd.snd.fst.toNat]! <((p.t0,p.t3,p.t4,()),()).fst.snd.fst then p.t0[p.t4.toNat]! else p.t3) (i64.wrap (p.t4+1))))else G else V (G)
def Jg:=bJ (CJ)
abbrev awg:=Int
def d275:Td 0 awg:= .c [] [2] (.r 0 0 (ec 2 aL en) sn (λz=>z.1.1) (λx=>((x,()),(()))))
def acQ(a0:aa Int):af awg:=
 bif J ((a0.length:Int)<1)then G else if(0:Int)<=(0:Int)/\(0:Int)<a0.length then match Jg (sM.mk a0 a0[0]! (1))with|G=>G|V r1=>bif J (r1.t4<r1.t0.length)then if 0<=r1.t4/\r1.t4<r1.t0.length then G else G else V (r1.t3)else G
def aCQ:=eL w9 275 S (lc (ql 3) ln) d275 (λg=>acQ g.1)
def ajx:EO aCQ:=λh=>kL (an:=(noTwo (noTwo (noTwo (.two (noTwo (PU.lp Jg .no)) .no))))) (l:=[(aW f275 0,(PU.lp Jg .no))]) func275 aR (az (aO PU) aF) h
structure sI where
 t0:List Int
 (t3 t4:Int)
def RS:Td 0 sI:= .c [] [0,3,4] (.r 0 0 (ec 0 (ql 3) (ec 3 aL (ec 4 aL en))) sn (λz=>⟨z.1.1,z.1.2.1,z.1.t.1⟩) (λx=>((x.t0,x.t3,x.t4,()),(()))))
def D9(p:sI):af (af sI):=
 bif J (p.t4<p.t0.length)then if 0<=p.t4/\p.t4<p.t0.length then V (V (sI.mk p.t0 (if((p.t0,p.t3,p.t4,()),()).fst.snd.fst<((p.t0,p.t3,p.t4,()),()).fst.fst[((p.t0,p.t3,p.t4,()),()).fst.snd.snd.fst.toNat]! then p.t0[p.t4.toNat]! else p.t3) (i64.wrap (p.t4+1))))else G else V (G)
def Kf:=bJ (D9)
abbrev aw3:=Int
def d276:Td 0 aw3:= .c [] [2] (.r 0 0 (ec 2 aL en) sn (λz=>z.1.1) (λx=>((x,()),(()))))
def ajR(a0:aa Int):af aw3:=
 bif J ((a0.length:Int)<1)then G else if(0:Int)<=(0:Int)/\(0:Int)<a0.length then match Kf (sI.mk a0 a0[0]! (1))with|G=>G|V r1=>bif J (r1.t4<r1.t0.length)then if 0<=r1.t4/\r1.t4<r1.t0.length then G else G else V (r1.t3)else G
def aFN:=eL w9 276 S (lc (ql 3) ln) d276 (λg=>ajR g.1)
def aic:EO aFN:=λh=>kL (an:=(noTwo (noTwo (noTwo (.two (noTwo (RS.lp Kf .no)) .no))))) (l:=[(aW f276 0,(RS.lp Kf .no))]) func276 aR (az (aO RS) aF) h
abbrev avQ:=aH×Int
def d232:Td 0 avQ:= .c [] [4,5] (.r 0 1 (ec 4 (qp 0 0) (ec 5 aL en)) (sb 0 34 (lg 34) sn) (λz=>(z.2.1,z.1.2.1)) (λx=>(((),x.2,()),(x.1,()))))
def VN(a0:aH)(a1:aH):af avQ:=
 match PF a0.ag a1.ag with|G=>G|V r1=>bif bif r1.snd then S else O then V ((aH.mk (0) (0) (0),3))else match PF a0.ag a1.ah with|G=>G|V r2=>bif bif r2.snd then S else O then V ((aH.mk (0) (0) (0),3))else match PF a0.ah a1.ag with|G=>G|V r3=>bif bif r3.snd then S else O then V ((aH.mk (0) (0) (0),3))else match PF a0.ah a1.ah with|G=>G|V r4=>bif bif r4.snd then S else O then V ((aH.mk (0) (0) (0),3))else match BG [i64.wrap (a0.aj*jt a1.ag),i64.wrap (a1.aj*jt a0.ag),i64.wrap (a0.aj*a1.aj)]with|G=>G|V r5=>match acQ ([r1.fst]++[r2.fst]++[r3.fst]++[r4.fst])with|G=>G|V r6=>match ajR ([r1.fst]++[r2.fst]++[r3.fst]++[r4.fst])with|G=>G|V r7=>match lV r6 r7 r5 with|G=>G|V r8=>V ((r8,0))
def arC:=eL w9 232 S (lc (qg 34) (lc (qg 34) ln)) d232 (λg=>VN g.1 g.2.1)
def ah0:EO arC:=λh=>kL (an:= .no) func232 (aic (ajx (afy (Cp (BW (rF aR)))))) aF h
def rG:EP arC:=λh=>kP h
def azg:aZ:=(aae (Rw (Y3 (ad7 cZ))))
abbrev azs:=aH
def d277:Td 0 azs:= .c [] [6] (.r 0 1 (ec 6 (qp 0 0) en) (sb 0 34 (lg 34) sn) (λz=>z.2.1) (λx=>(((),()),(x,()))))
def awy:∀f∈([]:aa Nat),bw (azg) f:=aF
def V5(a0:Int)(a1:aH)(a2:aH):af azs:=
 bif J (a0=11)then match bif J (0<=a1.ag)then V (J (0<=a2.ag))else V (S)with|G=>G|V r1=>bif r1 then match lV (0) (if jt a1.ag<jt a1.ah then jt a1.ah else jt a1.ag) (1)with|G=>G|V r2=>V (r2)else match lV (i64.wrap (0-if jt a1.ag<jt a1.ah then jt a1.ah else jt a1.ag)) (if jt a1.ag<jt a1.ah then jt a1.ah else jt a1.ag) (1)with|G=>G|V r3=>V (r3)else bif J (a0=12)then match lV (if 0<i64.wrap (a2.ag+1)then 0 else i64.wrap (a2.ag+1)) (if i64.wrap (a2.ah-1)<0 then 0 else i64.wrap (a2.ah-1)) (1)with|G=>G|V r4=>V (r4)else bif J (a0=21)then match lW a1 a2 with|G=>G|V r5=>match BO r5 (if a2.ah<a1.ah then a2.ah else a1.ah)with|G=>G|V r6=>V (r6.fst)else match lW a1 a2 with|G=>G|V r7=>match BO r7 (i64.wrap ((if a1.ag<a2.ag then a2.ag else a1.ag)-1))with|G=>G|V r8=>V (r8.snd)
def aEV:=eL w9 277 S (bk (lc (qg 34) (lc (qg 34) ln))) d277 (λg=>V5 g.1 g.2.1 g.t.1)
def aiF:EO aEV:=λh=>kL (F:=azg) (an:=(noTwo (.two (noTwo (noTwo (.two (noTwo (.two (.two (.rb [] 29) .no) .no)) .no))) .no))) (l:=[(.skip,(.rb [] 29))]) func277 (Cp (rF (qV (Jm aR)))) (az awy aF) h
structure mG where
 t3:List Int
 (t6 t7:Int)
 b0:aH
def QT:Td 0 mG:= .c [] [1,3,6,7] (.t (cA.s 3 [] 3) (.c [] [1,3,6,7] (.r 0 2 (ec 1 (qp 0 0) (ec 3 (qo 1) (ec 6 aL (ec 7 aL en)))) (sb 0 34 (lg 34) (sr 1 3 sn)) (λz=>⟨z.t.1,z.1.t.1,z.1.t.2.1,z.2.1⟩) (λx=>(((),(),x.t6,x.t7,()),(x.b0,x.t3,()))))))
def tD(p:mG):af (af mG):=
 bif J (p.t7<p.t6)then if(p.t3++[i64.wrap (p.b0.ag+i64.wrap (p.t7*p.b0.aj))]).length<=1073741824 then V (V (mG.mk (p.t3++[i64.wrap (p.b0.ag+i64.wrap (p.t7*p.b0.aj))]) p.t6 (i64.wrap (p.t7+1)) p.b0))else G else V (G)
def Jd:=bJ (tD)
abbrev axn:=aa Int
def d278:Td 0 axn:= .c [] [2] (.r 0 1 (ec 2 (qo 0) en) (sr 0 3 sn) (λz=>z.2.1) (λx=>(((),()),(x,()))))
def WJ(a0:aH):af axn:=
 match vK a0 with|G=>G|V r1=>match Jd (mG.mk [] r1 (0) a0)with|G=>G|V r2=>bif J (r2.t7<r2.t6)then if(r2.t3++[i64.wrap (r2.b0.ag+i64.wrap (r2.t7*r2.b0.aj))]).length<=1073741824 then G else G else V (r2.t3)
def aEm:=eL w9 278 S (lc (qg 34) ln) d278 (λg=>WJ g.1)
def aiG:EO aEm:=λh=>kL (an:=(noTwo (noTwo (.two (noTwo (QT.lp Jd .no)) .no)))) (l:=[(aW f278 0,(QT.lp Jd .no))]) func278 (uY aR) (az (aO QT) aF) h
def azR:aZ:=cZ
abbrev ays:=Int
def d315:Td 0 ays:= .c [] [4] (.r 0 0 (ec 4 aL en) sn (λz=>z.1.1) (λx=>((x,()),(()))))
def aui:∀f∈([]:aa Nat),bw (azR) f:=aF
def ab1(a0:Int)(a1:Int):af ays:=
 bif J (a1=0)then V 0 else if¬a1=0then match if¬a1=0then bif bif J (a0.tmod a1=0)then S else O then V (bif J (a0<0)==J (a1<0)then S else O)else V S else G with|G=>G|V r1=>bif r1 then V (i64.wrap (i64.wrap (a0.tdiv a1)-1))else V (i64.wrap (a0.tdiv a1))else G
def aEe:=eL w9 315 S (bk (bk ln)) d315 (λg=>ab1 g.1 g.2.1)
def afi:EO aEe:=λh=>kL (F:=azR) (an:=(noTwo (noTwo (noTwo (.two (.two (.rb [] 21) .no) .no))))) (l:=[(.skip,(.rb [] 21))]) func315 aR (az aui aF) h
abbrev ax2:=Int
def d279:Td 0 ax2:= .c [] [6] (.r 0 0 (ec 6 aL en) sn (λz=>z.1.1) (λx=>((x,()),(()))))
def W8(a0:Int)(a1:Int)(a2:Int):af ax2:=
 bif J (a0=11)then match ab1 a1 a2 with|G=>G|V r1=>V (r1)else bif J (a0=12)then bif J (a2=0)then V (0)else match ab1 a1 a2 with|G=>G|V r2=>V (i64.wrap (a1-i64.wrap (a2*r2)))else bif J (a0=21)then V (if a2<a1 then a2 else a1)else V (if a1<a2 then a2 else a1)
def aEX:=eL w9 279 S (bk (bk (bk ln))) d279 (λg=>W8 g.1 g.2.1 g.t.1)
def ako:EO aEX:=λh=>kL (an:= .no) func279 (afi aR) aF h
structure nY where
 (t0 t9:Int)
 t34:List Int
 (t35 t36:Int)
 t41:List Int
 (t42 t43:Int)
 (b0 b1 b2:aH)
def Pn:Td 0 nY:= .c [] [0,5,6,7,9,34,35,36,41,42,43] (.r 0 5 (ec 0 aL (ec 5 (qp 0 0) (ec 6 (qp 1 0) (ec 7 (qp 2 0) (ec 9 aL (ec 34 (qo 3) (ec 35 aL (ec 36 aL (ec 41 (qo 4) (ec 42 aL (ec 43 aL en))))))))))) (sb 0 34 (lg 34) (sb 1 34 (lg 34) (sb 2 34 (lg 34) (sr 3 3 (sr 4 3 sn))))) (λz=>⟨z.1.1,z.1.q.1,z.q.1,z.1.q.t.1,z.1.q.t.2.1,z.q.2.1,z.1.q.q.2.1,z.1.q.q.t.1,z.2.1,z.t.1,z.t.2.1⟩) (λx=>((x.t0,(),(),(),x.t9,(),x.t35,x.t36,(),x.t42,x.t43,()),(x.b0,x.b1,x.b2,x.t34,x.t41,()))))
def IC(p:nY):af (af nY):=
 bif J (p.t43<p.t42)then if 0<=p.t43/\p.t43<p.t41.length then if 3=3/\p.t43.toNat<p.t41.length then match W8 p.t0 p.t9 p.t41[p.t43.toNat]! with|G=>G|V r5=>match lW p.b2 (gO r5)with|G=>G|V r6=>V (V (nY.mk p.t0 p.t9 p.t34 p.t35 p.t36 p.t41 p.t42 (i64.wrap (p.t43+1)) p.b0 p.b1 r6))else G else G else V (G)
def C0:=bJ (IC)
structure pU where
 t0:Int
 t34:List Int
 (t35 t36:Int)
 (b0 b1 b2:aH)
def P4:Td 0 pU:= .c [] [0,5,6,7,34,35,36] (.r 0 4 (ec 0 aL (ec 5 (qp 0 0) (ec 6 (qp 1 0) (ec 7 (qp 2 0) (ec 34 (qo 3) (ec 35 aL (ec 36 aL en))))))) (sb 0 34 (lg 34) (sb 1 34 (lg 34) (sb 2 34 (lg 34) (sr 3 3 sn)))) (λz=>⟨z.1.1,z.q.1,z.1.q.2.1,z.1.q.t.1,z.2.1,z.t.1,z.t.2.1⟩) (λx=>((x.t0,(),(),(),(),x.t35,x.t36,()),(x.b0,x.b1,x.b2,x.t34,()))))
def Ae(p:pU):af (af pU):=
 bif J (p.t36<p.t35)then if 0<=p.t36/\p.t36<p.t34.length then if 3=3/\p.t36.toNat<p.t34.length then match WJ p.b0 with|G=>G|V r1=>match C0 (nY.mk p.t0 p.t34[p.t36.toNat]! p.t34 p.t35 p.t36 r1 (↑(zP r1):Int) 0 p.b0 p.b1 p.b2)with|G=>G|V r2=>bif J (r2.t43<r2.t42)then if 0<=r2.t43/\r2.t43<r2.t41.length then if 3=3/\r2.t43.toNat<r2.t41.length then match W8 r2.t0 r2.t9 r2.t41[r2.t43.toNat]! with|G=>G|V r3=>match lW r2.b2 (gO r3)with|G=>G|V r4=>G else G else G else V (V (pU.mk r2.t0 r2.t34 r2.t35 (i64.wrap (r2.t36+1)) r2.b0 r2.b1 r2.b2))else G else G else V (G)
def ZG:An:=(noTwo (noTwo (.two (noTwo (noTwo (Pn.lp C0 .no))) .no)))
def I6:=bJ (Ae)
abbrev aBy:=aH
def d233:Td 0 aBy:= .c [] [6] (.r 0 1 (ec 6 (qp 0 0) en) (sb 0 34 (lg 34) sn) (λz=>z.2.1) (λx=>(((),()),(x,()))))
def ur(a0:Int)(a1:aH)(a2:aH):af aBy:=
 match vK a1 with|G=>G|V r7=>bif J (4096<r7)then match V5 a0 a1 a2 with|G=>G|V r8=>V (r8)else match vK a2 with|G=>G|V r9=>bif J (4096<r9)then match V5 a0 a1 a2 with|G=>G|V r10=>V (r10)else match vK a1 with|G=>G|V r11=>match vK a2 with|G=>G|V r12=>bif J (4096<i64.wrap (r11*r12))then match V5 a0 a1 a2 with|G=>G|V r13=>V (r13)else match WJ a1 with|G=>G|V r14=>match I6 (pU.mk a0 r14 (↑(zP r14):Int) 0 a2 (aH.mk 0 0 0) iL)with|G=>G|V r15=>bif J (r15.t36<r15.t35)then if 0<=r15.t36/\r15.t36<r15.t34.length then if 3=3/\r15.t36.toNat<r15.t34.length then match WJ r15.b0 with|G=>G|V r16=>match C0 (nY.mk r15.t0 r15.t34[r15.t36.toNat]! r15.t34 r15.t35 r15.t36 r16 (↑(zP r16):Int) 0 r15.b0 r15.b1 r15.b2)with|G=>G|V r17=>bif J (r17.t43<r17.t42)then if 0<=r17.t43/\r17.t43<r17.t41.length then if 3=3/\r17.t43.toNat<r17.t41.length then match W8 r17.t0 r17.t9 r17.t41[r17.t43.toNat]! with|G=>G|V r18=>match lW r17.b2 (gO r18)with|G=>G|V r19=>G else G else G else G else G else G else V (r15.b2)
def apg:=eL w9 233 S (bk (lc (qg 34) (lc (qg 34) ln))) d233 (λg=>ur g.1 g.2.1 g.t.1)
def ago:EO apg:=λh=>kL (an:=(noTwo (noTwo (noTwo (.two (noTwo (P4.lp I6 ZG)) .no))))) (l:=[(aW f233 0,(P4.lp I6 ZG)),(aW f233 1,(Pn.lp C0 .no))]) func233 (ako (aiG (aiF (jU (uY (rz (qV aR))))))) (az (aO P4) (az (aO Pn) aF)) h
def rO:EP apg:=λh=>kP h
structure mD where
 (t1 t5 t6 t7 t8:Int)
def RB:Td 0 mD:= .c [] [1,5,6,7,8] (.r 0 0 (ec 1 aL (ec 5 aL (ec 6 aL (ec 7 aL (ec 8 aL en))))) sn (λz=>⟨z.1.1,z.1.2.1,z.1.t.1,z.1.t.2.1,z.1.q.1⟩) (λx=>((x.t1,x.t5,x.t6,x.t7,x.t8,()),(()))))
def Dp(p:mD):af (af mD):=
 bif J (1<p.t5)then if¬p.t5=0then V (V (mD.mk p.t1 (i64.wrap (p.t6-i64.wrap (i64.wrap (p.t6.tdiv p.t5)*p.t5))) p.t5 (i64.wrap (p.t8-i64.wrap (i64.wrap (p.t6.tdiv p.t5)*p.t7))) p.t7))else G else V (G)
def IX:=bJ (Dp)
abbrev axU:=Int
def d341:Td 0 axU:= .c [] [4] (.r 0 0 (ec 4 aL en) sn (λz=>z.1.1) (λx=>((x,()),(()))))
def ajS(a0:Int)(a1:Int):af axU:=
 if¬a1=0then match IX (mD.mk a1 (a0.tmod a1) a1 1 0)with|G=>G|V r1=>bif J (1<r1.t5)then if¬r1.t5=0then G else G else if¬r1.t1=0then if¬r1.t1=0then V ((i64.wrap (r1.t7.tmod r1.t1+r1.t1)).tmod r1.t1)else G else G else G
def aza:=eL w9 341 S (bk (bk ln)) d341 (λg=>ajS g.1 g.2.1)
def ahC:EO aza:=λh=>kL (an:=(noTwo (noTwo (.two (RB.lp IX .no) .no)))) (l:=[(aW f341 0,(RB.lp IX .no))]) func341 aR (az (aO RB) aF) h
def avI:aZ:=(aza (aAD (abv (Nc (ahp cZ)))))
abbrev aww:=aH
def d316:Td 0 aww:= .c [] [4] (.r 0 1 (ec 4 (qp 0 0) en) (sb 0 34 (lg 34) sn) (λz=>z.2.1) (λx=>(((),()),(x,()))))
def aur:∀f∈([]:aa Nat),bw (avI) f:=aF
def afm(a0:aH)(a1:aH):af aww:=
 match BG [a0.aj,a1.aj]with|G=>G|V r1=>match bif J ((if a1.ah<a0.ah then a1.ah else a0.ah)<if a0.ag<a1.ag then a1.ag else a0.ag)then V O else if¬r1=0then V (bif J ((i64.wrap (a1.ag-a0.ag)).tmod r1=0)then S else O)else G with|G=>G|V r2=>bif r2 then V (iL)else if¬r1=0then bif J (1<i64.wrap (a1.aj.tdiv r1))then if¬r1=0then if¬i64.wrap (a1.aj.tdiv r1)=0then if¬i64.wrap (a1.aj.tdiv r1)=0then if¬r1=0then if¬i64.wrap (a1.aj.tdiv r1)=0then match ajS ((i64.wrap (a0.aj.tdiv r1)).tmod (i64.wrap (a1.aj.tdiv r1))) (i64.wrap (a1.aj.tdiv r1))with|G=>G|V r3=>match adz ((i64.wrap ((i64.wrap ((i64.wrap (a1.ag-a0.ag)).tdiv r1)).tmod (i64.wrap (a1.aj.tdiv r1))+i64.wrap (a1.aj.tdiv r1))).tmod (i64.wrap (a1.aj.tdiv r1))) r3 (i64.wrap (a1.aj.tdiv r1))with|G=>G|V r4=>if¬a0.aj=0then if¬a0.aj=0then bif J (r4<i64.wrap ((i64.wrap (i64.wrap (i64.wrap ((if a0.ag<a1.ag then a1.ag else a0.ag)-a0.ag)+a0.aj)-1)).tdiv a0.aj))then if¬i64.wrap (a1.aj.tdiv r1)=0then bif J (i64.wrap ((i64.wrap ((if a1.ah<a0.ah then a1.ah else a0.ah)-a0.ag)).tdiv a0.aj)<i64.wrap (r4+i64.wrap (i64.wrap ((i64.wrap (i64.wrap (i64.wrap (i64.wrap ((i64.wrap (i64.wrap (i64.wrap ((if a0.ag<a1.ag then a1.ag else a0.ag)-a0.ag)+a0.aj)-1)).tdiv a0.aj)-r4)+i64.wrap (a1.aj.tdiv r1))-1)).tdiv (i64.wrap (a1.aj.tdiv r1)))*i64.wrap (a1.aj.tdiv r1))))then V (iL)else if¬i64.wrap (a1.aj.tdiv r1)=0then bif J (i64.wrap (r4+i64.wrap (i64.wrap ((i64.wrap (i64.wrap (i64.wrap (i64.wrap ((i64.wrap (i64.wrap (i64.wrap ((if a0.ag<a1.ag then a1.ag else a0.ag)-a0.ag)+a0.aj)-1)).tdiv a0.aj)-r4)+i64.wrap (a1.aj.tdiv r1))-1)).tdiv (i64.wrap (a1.aj.tdiv r1)))*i64.wrap (a1.aj.tdiv r1)))=i64.wrap (i64.wrap (r4+i64.wrap (i64.wrap ((i64.wrap (i64.wrap (i64.wrap (i64.wrap ((i64.wrap (i64.wrap (i64.wrap ((if a0.ag<a1.ag then a1.ag else a0.ag)-a0.ag)+a0.aj)-1)).tdiv a0.aj)-r4)+i64.wrap (a1.aj.tdiv r1))-1)).tdiv (i64.wrap (a1.aj.tdiv r1)))*i64.wrap (a1.aj.tdiv r1)))+i64.wrap (i64.wrap ((i64.wrap (i64.wrap ((i64.wrap ((if a1.ah<a0.ah then a1.ah else a0.ah)-a0.ag)).tdiv a0.aj)-i64.wrap (r4+i64.wrap (i64.wrap ((i64.wrap (i64.wrap (i64.wrap (i64.wrap ((i64.wrap (i64.wrap (i64.wrap ((if a0.ag<a1.ag then a1.ag else a0.ag)-a0.ag)+a0.aj)-1)).tdiv a0.aj)-r4)+i64.wrap (a1.aj.tdiv r1))-1)).tdiv (i64.wrap (a1.aj.tdiv r1)))*i64.wrap (a1.aj.tdiv r1))))).tdiv (i64.wrap (a1.aj.tdiv r1)))*i64.wrap (a1.aj.tdiv r1))))then V (gO (i64.wrap (a0.ag+i64.wrap (i64.wrap (r4+i64.wrap (i64.wrap ((i64.wrap (i64.wrap (i64.wrap (i64.wrap ((i64.wrap (i64.wrap (i64.wrap ((if a0.ag<a1.ag then a1.ag else a0.ag)-a0.ag)+a0.aj)-1)).tdiv a0.aj)-r4)+i64.wrap (a1.aj.tdiv r1))-1)).tdiv (i64.wrap (a1.aj.tdiv r1)))*i64.wrap (a1.aj.tdiv r1)))*a0.aj))))else V (aH.mk (i64.wrap (a0.ag+i64.wrap (i64.wrap (r4+i64.wrap (i64.wrap ((i64.wrap (i64.wrap (i64.wrap (i64.wrap ((i64.wrap (i64.wrap (i64.wrap ((if a0.ag<a1.ag then a1.ag else a0.ag)-a0.ag)+a0.aj)-1)).tdiv a0.aj)-r4)+i64.wrap (a1.aj.tdiv r1))-1)).tdiv (i64.wrap (a1.aj.tdiv r1)))*i64.wrap (a1.aj.tdiv r1)))*a0.aj))) (i64.wrap (a0.ag+i64.wrap (i64.wrap (i64.wrap (r4+i64.wrap (i64.wrap ((i64.wrap (i64.wrap (i64.wrap (i64.wrap ((i64.wrap (i64.wrap (i64.wrap ((if a0.ag<a1.ag then a1.ag else a0.ag)-a0.ag)+a0.aj)-1)).tdiv a0.aj)-r4)+i64.wrap (a1.aj.tdiv r1))-1)).tdiv (i64.wrap (a1.aj.tdiv r1)))*i64.wrap (a1.aj.tdiv r1)))+i64.wrap (i64.wrap ((i64.wrap (i64.wrap ((i64.wrap ((if a1.ah<a0.ah then a1.ah else a0.ah)-a0.ag)).tdiv a0.aj)-i64.wrap (r4+i64.wrap (i64.wrap ((i64.wrap (i64.wrap (i64.wrap (i64.wrap ((i64.wrap (i64.wrap (i64.wrap ((if a0.ag<a1.ag then a1.ag else a0.ag)-a0.ag)+a0.aj)-1)).tdiv a0.aj)-r4)+i64.wrap (a1.aj.tdiv r1))-1)).tdiv (i64.wrap (a1.aj.tdiv r1)))*i64.wrap (a1.aj.tdiv r1))))).tdiv (i64.wrap (a1.aj.tdiv r1)))*i64.wrap (a1.aj.tdiv r1)))*a0.aj))) (i64.wrap (i64.wrap (a1.aj.tdiv r1)*a0.aj)))else G else G else bif J (i64.wrap ((i64.wrap ((if a1.ah<a0.ah then a1.ah else a0.ah)-a0.ag)).tdiv a0.aj)<r4)then V (iL)else if¬i64.wrap (a1.aj.tdiv r1)=0then bif J (r4=i64.wrap (r4+i64.wrap (i64.wrap ((i64.wrap (i64.wrap ((i64.wrap ((if a1.ah<a0.ah then a1.ah else a0.ah)-a0.ag)).tdiv a0.aj)-r4)).tdiv (i64.wrap (a1.aj.tdiv r1)))*i64.wrap (a1.aj.tdiv r1))))then V (gO (i64.wrap (a0.ag+i64.wrap (r4*a0.aj))))else V (aH.mk (i64.wrap (a0.ag+i64.wrap (r4*a0.aj))) (i64.wrap (a0.ag+i64.wrap (i64.wrap (r4+i64.wrap (i64.wrap ((i64.wrap (i64.wrap ((i64.wrap ((if a1.ah<a0.ah then a1.ah else a0.ah)-a0.ag)).tdiv a0.aj)-r4)).tdiv (i64.wrap (a1.aj.tdiv r1)))*i64.wrap (a1.aj.tdiv r1)))*a0.aj))) (i64.wrap (i64.wrap (a1.aj.tdiv r1)*a0.aj)))else G else G else G else G else G else G else G else G else if¬a0.aj=0then if¬a0.aj=0then bif J (0<i64.wrap ((i64.wrap (i64.wrap (i64.wrap ((if a0.ag<a1.ag then a1.ag else a0.ag)-a0.ag)+a0.aj)-1)).tdiv a0.aj))then if¬i64.wrap (a1.aj.tdiv r1)=0then bif J (i64.wrap ((i64.wrap ((if a1.ah<a0.ah then a1.ah else a0.ah)-a0.ag)).tdiv a0.aj)<i64.wrap (0+i64.wrap (i64.wrap ((i64.wrap (i64.wrap (i64.wrap (i64.wrap ((i64.wrap (i64.wrap (i64.wrap ((if a0.ag<a1.ag then a1.ag else a0.ag)-a0.ag)+a0.aj)-1)).tdiv a0.aj)-0)+i64.wrap (a1.aj.tdiv r1))-1)).tdiv (i64.wrap (a1.aj.tdiv r1)))*i64.wrap (a1.aj.tdiv r1))))then V (iL)else if¬i64.wrap (a1.aj.tdiv r1)=0then bif J (i64.wrap (0+i64.wrap (i64.wrap ((i64.wrap (i64.wrap (i64.wrap (i64.wrap ((i64.wrap (i64.wrap (i64.wrap ((if a0.ag<a1.ag then a1.ag else a0.ag)-a0.ag)+a0.aj)-1)).tdiv a0.aj)-0)+i64.wrap (a1.aj.tdiv r1))-1)).tdiv (i64.wrap (a1.aj.tdiv r1)))*i64.wrap (a1.aj.tdiv r1)))=i64.wrap (i64.wrap (0+i64.wrap (i64.wrap ((i64.wrap (i64.wrap (i64.wrap (i64.wrap ((i64.wrap (i64.wrap (i64.wrap ((if a0.ag<a1.ag then a1.ag else a0.ag)-a0.ag)+a0.aj)-1)).tdiv a0.aj)-0)+i64.wrap (a1.aj.tdiv r1))-1)).tdiv (i64.wrap (a1.aj.tdiv r1)))*i64.wrap (a1.aj.tdiv r1)))+i64.wrap (i64.wrap ((i64.wrap (i64.wrap ((i64.wrap ((if a1.ah<a0.ah then a1.ah else a0.ah)-a0.ag)).tdiv a0.aj)-i64.wrap (0+i64.wrap (i64.wrap ((i64.wrap (i64.wrap (i64.wrap (i64.wrap ((i64.wrap (i64.wrap (i64.wrap ((if a0.ag<a1.ag then a1.ag else a0.ag)-a0.ag)+a0.aj)-1)).tdiv a0.aj)-0)+i64.wrap (a1.aj.tdiv r1))-1)).tdiv (i64.wrap (a1.aj.tdiv r1)))*i64.wrap (a1.aj.tdiv r1))))).tdiv (i64.wrap (a1.aj.tdiv r1)))*i64.wrap (a1.aj.tdiv r1))))then V (gO (i64.wrap (a0.ag+i64.wrap (i64.wrap (0+i64.wrap (i64.wrap ((i64.wrap (i64.wrap (i64.wrap (i64.wrap ((i64.wrap (i64.wrap (i64.wrap ((if a0.ag<a1.ag then a1.ag else a0.ag)-a0.ag)+a0.aj)-1)).tdiv a0.aj)-0)+i64.wrap (a1.aj.tdiv r1))-1)).tdiv (i64.wrap (a1.aj.tdiv r1)))*i64.wrap (a1.aj.tdiv r1)))*a0.aj))))else V (aH.mk (i64.wrap (a0.ag+i64.wrap (i64.wrap (0+i64.wrap (i64.wrap ((i64.wrap (i64.wrap (i64.wrap (i64.wrap ((i64.wrap (i64.wrap (i64.wrap ((if a0.ag<a1.ag then a1.ag else a0.ag)-a0.ag)+a0.aj)-1)).tdiv a0.aj)-0)+i64.wrap (a1.aj.tdiv r1))-1)).tdiv (i64.wrap (a1.aj.tdiv r1)))*i64.wrap (a1.aj.tdiv r1)))*a0.aj))) (i64.wrap (a0.ag+i64.wrap (i64.wrap (i64.wrap (0+i64.wrap (i64.wrap ((i64.wrap (i64.wrap (i64.wrap (i64.wrap ((i64.wrap (i64.wrap (i64.wrap ((if a0.ag<a1.ag then a1.ag else a0.ag)-a0.ag)+a0.aj)-1)).tdiv a0.aj)-0)+i64.wrap (a1.aj.tdiv r1))-1)).tdiv (i64.wrap (a1.aj.tdiv r1)))*i64.wrap (a1.aj.tdiv r1)))+i64.wrap (i64.wrap ((i64.wrap (i64.wrap ((i64.wrap ((if a1.ah<a0.ah then a1.ah else a0.ah)-a0.ag)).tdiv a0.aj)-i64.wrap (0+i64.wrap (i64.wrap ((i64.wrap (i64.wrap (i64.wrap (i64.wrap ((i64.wrap (i64.wrap (i64.wrap ((if a0.ag<a1.ag then a1.ag else a0.ag)-a0.ag)+a0.aj)-1)).tdiv a0.aj)-0)+i64.wrap (a1.aj.tdiv r1))-1)).tdiv (i64.wrap (a1.aj.tdiv r1)))*i64.wrap (a1.aj.tdiv r1))))).tdiv (i64.wrap (a1.aj.tdiv r1)))*i64.wrap (a1.aj.tdiv r1)))*a0.aj))) (i64.wrap (i64.wrap (a1.aj.tdiv r1)*a0.aj)))else G else G else bif J (i64.wrap ((i64.wrap ((if a1.ah<a0.ah then a1.ah else a0.ah)-a0.ag)).tdiv a0.aj)<0)then V (iL)else if¬i64.wrap (a1.aj.tdiv r1)=0then bif J (0=i64.wrap (0+i64.wrap (i64.wrap ((i64.wrap (i64.wrap ((i64.wrap ((if a1.ah<a0.ah then a1.ah else a0.ah)-a0.ag)).tdiv a0.aj)-0)).tdiv (i64.wrap (a1.aj.tdiv r1)))*i64.wrap (a1.aj.tdiv r1))))then V (gO (i64.wrap (a0.ag+i64.wrap (0*a0.aj))))else V (aH.mk (i64.wrap (a0.ag+i64.wrap (0*a0.aj))) (i64.wrap (a0.ag+i64.wrap (i64.wrap (0+i64.wrap (i64.wrap ((i64.wrap (i64.wrap ((i64.wrap ((if a1.ah<a0.ah then a1.ah else a0.ah)-a0.ag)).tdiv a0.aj)-0)).tdiv (i64.wrap (a1.aj.tdiv r1)))*i64.wrap (a1.aj.tdiv r1)))*a0.aj))) (i64.wrap (i64.wrap (a1.aj.tdiv r1)*a0.aj)))else G else G else G else G
def atr:=eL w9 316 S (lc (qg 34) (lc (qg 34) ln)) d316 (λg=>afm g.1 g.2.1)
def ajH:EO atr:=λh=>kL (F:=avI) (an:=(noTwo (noTwo (noTwo (.two (.two (.rb [] 41) .no) .no))))) (l:=[(.skip,(.rb [] 41))]) func316 (ahC (afI (BW (jU (rz aR))))) (az aur aF) h
def V1:EP atr:=λh=>kP h
abbrev uq:=aH
def d280:Td 0 uq:= .c [] [4] (.r 0 1 (ec 4 (qp 0 0) en) (sb 0 34 (lg 34) sn) (λz=>z.2.1) (λx=>(((),()),(x,()))))
def aoR:=(lc (qg 34) (lc (qg 34) ln))
def ahR(M:aH->aH->af uq):aZ->aZ:=eL w9 280 S aoR d280 (λg=>M g.1 g.2.1)
def Hy{M:aH->aH->af uq}{F:aZ}{f:Nat}(h:bw F f):bw (ahR M F) f:=eC h (λ_=>by kernel_rfl)
def aem(M:aH->aH->af uq):Prop:=HL w9 280 aoR d280 (λg=>M g.1 g.2.1)
def UA{M:aH->aH->af uq}(hM:aem M){F:aZ}(h:aQ w9 F):aQ w9 (ahR M F):=cO (sc:=jr) cg hM ⟨_,func280,by kernel_rfl,by kernel_rfl⟩ (λ_=>by kernel_rfl) (λ_=>by kernel_rfl) h
def aiS(M280:aH->aH->af uq):aZ:=(atr (ahR M280 (Nc (ajF (Dr cZ)))))
def ae8{M280}(h280:aem M280):aQ w9 (aiS M280):=(ajH (UA h280 (jU (JL (ja aR)))))
def alR(M280:aH->aH->af uq):An:=(noTwo (.two (.two (.rb [147] 5) .no) .no))
def ayT{M280}:∀f∈([147]:aa Nat),bw (aiS M280) f:=(az (V1 (Hy (kS (A6 (fD bS))))) aF)
def aw1(M280:aH->aH->af uq):cR w9 (aiS M280) 0 300 280 (alR M280):=bA (l:=[(.skip,(.rb [147] 5))]) func280 (aV (by kernel_rfl)) (by kernel_rfl) (az ayT aF)
def va(M280:aH->aH->af uq)(a0:aH)(a1:aH):af uq:=
 match bif fA a0 then V (O)else V (fA a1)with|G=>G|V r1=>bif r1 then V (iL)else bif J (a0.aj=0)then match VU a1 a0.ag with|G=>G|V r2=>bif r2 then V (a0)else V (iL)else bif J (a1.aj=0)then match M280 a1 a0 with|G=>G|V r3=>V (r3)else match afm a0 a1 with|G=>G|V r4=>V (r4)
def aEp(M280:aH->aH->af uq)(a0:aH)(a1:aH):bL w9 (aiS M280) 300 (alR M280) 280 (aoR.c (a0,a1,())) [] 0 d280.rd=va M280 a0 a1:=by kernel_rfl
def Bt:Nat->(aH->aH->af uq)
 |0=>(λ_ _=>G)
 |n+1=>(va (Bt n))
def aac(n:Nat):aH->aH->af uq:=(Bt n)
def NY:∀n,aem (aac n)
 |0=>λ_ _ h=>(by cases h)
 |n+1=>by
  have ih:=NY n;have i280:=ih;exact(cF (ae8 i280) (aw1 (aac n)) (λ_=>by kernel_rfl) (λ_=>by kernel_rfl) λg=>aEp (aac n) g.1 g.2.1)
def adO:aH->aH->af uq:=λa0 a1=>lim (λn=>aac n a0 a1)
def adE:aem adO:=λg b h=>by
 obtain⟨n,hn⟩:=dR (show lim (λn=>aac n g.1 g.2.1)=V b from h);exact(NY n) g b hn
def aqK(F:aZ):aZ:=ahR adO F
def ahO{F:aZ}(h:aQ w9 F):aQ w9 (aqK F):=UA adE h
def VO{F:aZ}{f:Nat}(h:bw F f):bw (aqK F) f:=Hy h
def azj:aZ:=(aqK (ajh (ahW (arU (Dr cZ)))))
abbrev au4:=aH
def d234:Td 0 au4:= .c [] [6] (.r 0 1 (ec 6 (qp 0 0) en) (sb 0 34 (lg 34) sn) (λz=>z.2.1) (λx=>(((),()),(x,()))))
def auj:∀f∈([176]:aa Nat),bw (azj) f:=(az (VO (GD (Hv (V6 (fD bS))))) aF)
def Yb(a0:Int)(a1:aH)(a2:aH):af au4:=
 match adO a1 a2 with|G=>G|V r1=>match match vK a1 with|G=>G|V r2=>bif J (1<r2)then V (O)else match vK a2 with|G=>G|V r3=>bif J (1<r3)then V (O)else V (bif J (a1.ag=a2.ag)then S else O)with|G=>G|V r4=>match Pz a1 with|G=>G|V r5=>match Pz a2 with|G=>G|V r6=>bif J (a0=13)then match oO r4 (match fA r1 with|O=>S|S=>O)with|G=>G|V r7=>V (r7)else bif J (a0=14)then match oO (match fA r1 with|O=>S|S=>O) r4 with|G=>G|V r8=>V (r8)else bif J (a0=15)then match oO (J (a2.ag<=a1.ah)) (J (a1.ag<a2.ah))with|G=>G|V r9=>V (r9)else bif J (a0=16)then match oO (J (a2.ag<a1.ah)) (J (a1.ag<=a2.ah))with|G=>G|V r10=>V (r10)else bif J (a0=17)then match oO (J (a1.ag<=a2.ah)) (J (a2.ag<a1.ah))with|G=>G|V r11=>V (r11)else bif J (a0=18)then match oO (J (a1.ag<a2.ah)) (J (a2.ag<=a1.ah))with|G=>G|V r12=>V (r12)else bif J (a0=19)then bif r5.fst then bif r5.snd then match oO O r6.snd with|G=>G|V r13=>V (r13)else match oO O S with|G=>G|V r14=>V (r14)else bif r5.snd then match oO r6.fst r6.snd with|G=>G|V r15=>V (r15)else match oO r6.fst S with|G=>G|V r16=>V (r16)else bif r5.fst then bif r5.snd then match oO r6.fst O with|G=>G|V r17=>V (r17)else match oO r6.fst r6.snd with|G=>G|V r18=>V (r18)else bif r5.snd then match oO S O with|G=>G|V r19=>V (r19)else match oO S r6.snd with|G=>G|V r20=>V (r20)
def arl:=eL w9 234 S (bk (lc (qg 34) (lc (qg 34) ln))) d234 (λg=>Yb g.1 g.2.1 g.t.1)
def adi:EO arl:=λh=>kL (F:=azj) (an:=(noTwo (noTwo (.two (.rb [176] 8) .no)))) (l:=[(.skip,(.rb [176] 8))]) func234 (ahO (Ut (IZ (uY (ja aR))))) (az auj aF) h
def qR:EP arl:=λh=>kP h
def auU:aZ:=(arl (apg (arC (an6 (abv (Rw (Nc (Dr (VM (Oi cZ))))))))))
abbrev awG:=aH×Int
def d155:Td 0 awG:= .c [] [6,7] (.r 0 1 (ec 6 (qp 0 0) (ec 7 aL en)) (sb 0 34 (lg 34) sn) (λz=>(z.2.1,z.1.2.1)) (λx=>(((),x.2,()),(x.1,()))))
def XY:∀f∈([144,145,147,231]:aa Nat),bw (auU) f:=(az (qR (rO (rG (qS (mX (jF (kS (fD (jN (fT bS)))))))))) (az (qR (rO (rG (qS (mX (jF (kS (fD (jN (fT bS)))))))))) (az (qR (rO (rG (qS (mX (jF (kS (fD (jN (fT bS)))))))))) (az (qR (rO (rG (qS (mX (jF (kS (fD (jN (fT bS)))))))))) aF))))
def vz(a0:Int)(a1:aH)(a2:aH):af awG:=
 match match tq a1 with|G=>G|V r1=>bif bif r1 then S else O then V (O)else match tq a2 with|G=>G|V r2=>bif bif r2 then S else O then V (O)else V (bif BM a0 then S else O)with|G=>G|V r3=>bif r3 then V ((aH.mk (0) (0) (0),1))else match bif fA a1 then V (O)else V (fA a2)with|G=>G|V r4=>bif r4 then V ((iL,0))else bif J (a0=9)then match bif bif iU (i64.wrap (a1.ag+i64.wrap (0-a2.ah)))then S else O then V (O)else V (bif iU (i64.wrap (a1.ah+i64.wrap (0-a2.ag)))then S else O)with|G=>G|V r5=>bif r5 then V ((aH.mk (0) (0) (0),3))else match BG [a1.aj,a2.aj]with|G=>G|V r6=>match lV (i64.wrap (a1.ag+i64.wrap (0-a2.ah))) (i64.wrap (a1.ah+i64.wrap (0-a2.ag))) r6 with|G=>G|V r7=>V ((r7,0))else bif J (a0=8)then match bif bif iU (i64.wrap (a1.ag+a2.ag))then S else O then V (O)else V (bif iU (i64.wrap (a1.ah+a2.ah))then S else O)with|G=>G|V r8=>bif r8 then V ((aH.mk (0) (0) (0),3))else match BG [a1.aj,a2.aj]with|G=>G|V r9=>match lV (i64.wrap (a1.ag+a2.ag)) (i64.wrap (a1.ah+a2.ah)) r9 with|G=>G|V r10=>V ((r10,0))else bif J (a0=10)then match VN a1 a2 with|G=>G|V r11=>V (r11)else bif J (a0=11)then match ur a0 a1 a2 with|G=>G|V r12=>V ((r12,0))else bif J (a0=12)then match ur a0 a1 a2 with|G=>G|V r13=>V ((r13,0))else bif J (a0=21)then match ur a0 a1 a2 with|G=>G|V r14=>V ((r14,0))else bif J (a0=22)then match ur a0 a1 a2 with|G=>G|V r15=>V ((r15,0))else match Yb a0 a1 a2 with|G=>G|V r16=>V ((r16,0))
def anP:=eL w9 155 S (bk (lc (qg 34) (lc (qg 34) ln))) d155 (λg=>vz g.1 g.2.1 g.t.1)
def JM:EO anP:=λh=>kL (F:=auU) (an:=(noTwo (.two (.two (.rb [144,145,147,231] 22) .no) (.two (.two (.rb [144,145,147,231] 29) .no) (.two (noTwo (.two (.two (noTwo (.two (noTwo (.two (.two (.rb [144,145,147,231] 69) .no) .no)) .no)) .no) .no)) .no))))) (l:=[(.skip,(.rb [144,145,147,231] 22)),(.skip,(.rb [144,145,147,231] 29)),(.skip,(.rb [144,145,147,231] 69))]) func155 (adi (ago (ah0 (aj2 (BW (rF (jU (ja (uQ (kJ aR)))))))))) (az XY (az XY (az XY aF))) h
abbrev qj:=aH×ax
def d150:Td 2 qj:= .c [] [4] (.r 2 3 (ec 4 (qp 2 0) en) (sb 0 128 (lg 128) (sb 1 215 (lc (qf 150 (lc (qp 0 0) (lc (qp 1 0) ln))) ln) (sb 2 34 (lg 34) sn))) (λz=>(z.t.2.1,z.2.1)) (λx=>(((),()),(x.2,(((),(),()),()),x.1,()))))
def aqC:=(lc (qg 137) (lc (qp 0 0) (lc (qp 1 0) ln)))
def apk:=(sb 0 128 (lg 128) (sb 1 215 (lc (qf 150 (lc (qp 0 0) (lc (qp 1 0) ln))) ln) sn))
def x150(M:au->ax->af qj):aZ->aZ:=eY w9 150 2 aqC apk d150 (λg=>M g.1.1 g.2.1)
def ajs(M:au->ax->af qj):Prop:=HY w9 150 2 aqC apk d150 (λg=>M g.1.1 g.2.1)
def Su{M:au->ax->af qj}(hM:ajs M){F:aZ}(h:aQ w9 F):aQ w9 (x150 M F):=mS hM ⟨_,func150,by kernel_rfl,by kernel_rfl⟩ (λ_=>by kernel_rfl) h
def asD(M150:au->ax->af qj):aZ:=(anP (avP (azI (at6 (ain (x150 M150 (e92 (e81 (e80 cZ)))))))))
def aef{M150}(h150:ajs M150):aQ w9 (asD M150):=(JM (ajg (ahS (Io (KW (Su h150 (Qo (OU (K5 aR)))))))))
structure Aa where
 t90:List au
 (t91 t92:Int)
 b0:ax
 (b2 b3 b4:aH)
def Ql:Td 2 Aa:= .c [] [2,4,7,9,90,91,92] (.r 2 5 (ec 2 (qp 1 0) (ec 4 (qp 2 0) (ec 7 (qp 3 0) (ec 9 (qp 4 0) (ec 90 (ql 137) (ec 91 aL (ec 92 aL en))))))) (sb 0 128 (lg 128) (sb 1 215 (lc (qf 150 (lc (qp 0 0) (lc (qp 1 0) ln))) ln) (sb 2 34 (lg 34) (sb 3 34 (lg 34) (sb 4 34 (lg 34) sn))))) (λz=>⟨z.1.q.1,z.1.q.2.1,z.1.q.t.1,z.2.1,z.t.2.1,z.q.1,z.q.2.1⟩) (λx=>(((),(),(),(),x.t90,x.t91,x.t92,()),(x.b0,(((),(),()),()),x.b2,x.b3,x.b4,()))))
def I7(M150:au->ax->af qj)(p:Aa):af (af Aa):=
 bif J (p.t92<p.t91)then if 0<=p.t92/\p.t92<p.t90.length then match m92 p.b3 p.t92 with|G=>G|V r1=>bif r1 then match M150 (au.mk p.t90[p.t92.toNat]!.bF p.t90[p.t92.toNat]!.fN p.t90[p.t92.toNat]!.aq) p.b0 with|G=>G|V r2=>match vC p.b4 r2.fst with|G=>G|V r3=>V (V (Aa.mk p.t90 p.t91 (i64.wrap (p.t92+1)) r2.snd p.b2 p.b3 r3))else V (V (Aa.mk p.t90 p.t91 (i64.wrap (p.t92+1)) p.b0 p.b2 p.b3 p.b4))else G else V (G)
def I5(M150:au->ax->af qj):=bJ (I7 M150)
def alr(M150:au->ax->af qj):An:=(noTwo (.two (noTwo (noTwo (noTwo (noTwo (noTwo (noTwo (noTwo (noTwo (.two (noTwo (noTwo (.two (noTwo (Ql.lp (I5 M150) .no)) .no))) .no))))))))) .no))
def awY(M150:au->ax->af qj):cR w9 (asD M150) 2 300 150 (alr M150):=bA (l:=[(aW f150 0,(Ql.lp (I5 M150) .no))]) func150 (aV (by kernel_rfl)) (by kernel_rfl) (az (aO Ql) aF)
def akA(M150:au->ax->af qj)(a0:au)(b0:ax):af qj:=
 bif J (a0.bF=0)then V (Un a0.fN,b0)else bif J (a0.bF=24)then if 0<=a0.fN/\a0.fN<b0.ai.length then V (b0.ai[a0.fN.toNat]!,b0)else G else bif J (a0.bF=23)then if(0:Int)<=(0:Int)/\(0:Int)<a0.aq.length then match M150 (au.mk a0.aq[0]!.bF a0.aq[0]!.fN a0.aq[0]!.aq) b0 with|G=>G|V r4=>match O8 r4.fst with|G=>G|V r5=>bif bif r5.fst then S else O then if(0:Int)<=(1:Int)/\(1:Int)<a0.aq.length then match M150 (au.mk a0.aq[1]!.bF a0.aq[1]!.fN a0.aq[1]!.aq) r4.snd with|G=>G|V r6=>V (r6)else G else bif bif r5.snd then S else O then if(0:Int)<=(2:Int)/\(2:Int)<a0.aq.length then match M150 (au.mk a0.aq[2]!.bF a0.aq[2]!.fN a0.aq[2]!.aq) r4.snd with|G=>G|V r7=>V (r7)else G else if(0:Int)<=(1:Int)/\(1:Int)<a0.aq.length then match M150 (au.mk a0.aq[1]!.bF a0.aq[1]!.fN a0.aq[1]!.aq) r4.snd with|G=>G|V r8=>if(0:Int)<=(2:Int)/\(2:Int)<a0.aq.length then match M150 (au.mk a0.aq[2]!.bF a0.aq[2]!.fN a0.aq[2]!.aq) r8.snd with|G=>G|V r9=>match vC r8.fst r9.fst with|G=>G|V r10=>V (r10,r9.snd)else G else G else G else bif J (a0.bF=25)then if(0:Int)<=(0:Int)/\(0:Int)<a0.aq.length then match M150 (au.mk a0.aq[0]!.bF a0.aq[0]!.fN a0.aq[0]!.aq) b0 with|G=>G|V r11=>match m81 r11.fst 0 (i64.wrap ((a0.aq.length:Int)-2))with|G=>G|V r12=>if(0:Int)<=(1:Int)/\(1:Int)<=a0.aq.length then match I5 M150 (Aa.mk (yf 1 a0.aq) (↑(yf 1 a0.aq).length:Int) 0 r11.snd (aH.mk 0 0 0) r12.fst agT)with|G=>G|V r13=>bif J (r13.t92<r13.t91)then if 0<=r13.t92/\r13.t92<r13.t90.length then match m92 r13.b3 r13.t92 with|G=>G|V r14=>bif r14 then match M150 (au.mk r13.t90[r13.t92.toNat]!.bF r13.t90[r13.t92.toNat]!.fN r13.t90[r13.t92.toNat]!.aq) r13.b0 with|G=>G|V r15=>match vC r13.b4 r15.fst with|G=>G|V r16=>G else G else G else V (r13.b4,r13.b0)else G else G else bif J ((a0.aq.length:Int)=1)then if(0:Int)<=(0:Int)/\(0:Int)<a0.aq.length then match M150 (au.mk a0.aq[0]!.bF a0.aq[0]!.fN a0.aq[0]!.aq) b0 with|G=>G|V r17=>match akG a0.bF r17.fst with|G=>G|V r18=>V (r18.fst,r17.snd)else G else if(0:Int)<=(0:Int)/\(0:Int)<a0.aq.length then match M150 (au.mk a0.aq[0]!.bF a0.aq[0]!.fN a0.aq[0]!.aq) b0 with|G=>G|V r19=>if(0:Int)<=(1:Int)/\(1:Int)<a0.aq.length then match M150 (au.mk a0.aq[1]!.bF a0.aq[1]!.fN a0.aq[1]!.aq) r19.snd with|G=>G|V r20=>match vz a0.bF r19.fst r20.fst with|G=>G|V r21=>V (r21.fst,r20.snd)else G else G
def aED(M150:au->ax->af qj)(a0:au)(b0:ax):bL w9 (asD M150) 300 (alr M150) 150 (aqC.c (a0,(),(),())) (apk.d (b0,(((),(),()),()),())) 2 d150.rd=akA M150 a0 b0:=by kernel_rfl
def amI:Nat->(au->ax->af qj)
 |0=>(λ_ _=>G)
 |n+1=>(akA (amI n))
def R8(n:Nat):au->ax->af qj:=(amI n)
def Lh:∀n,ajs (R8 n)
 |0=>λ_ _ h=>(by cases h)
 |n+1=>by
  have ih:=Lh n;have i150:=ih;exact(sx (aef i150) (awY (R8 n)) (λ_=>by kernel_rfl) (λ_=>by kernel_rfl) (λ_=>by kernel_rfl) λg=>aED (R8 n) g.1.1 g.2.1)
def aeu:au->ax->af qj:=λa0 b0=>lim (λn=>R8 n a0 b0)
def af0:ajs aeu:=λg b h=>by
 obtain⟨n,hn⟩:=dR (show lim (λn=>R8 n g.1.1 g.2.1)=V b from h);exact(Lh n) g b hn
def aC7(F:aZ):aZ:=x150 aeu F
def ahh{F:aZ}(h:aQ w9 F):aQ w9 (aC7 F):=Su af0 h
abbrev E91:=Int
def d91:Td 0 E91:= .c [] [2] (.r 0 0 (ec 2 aL en) sn (λz=>z.1.1) (λx=>((x,()),(()))))
def Jl(a0:aH):af E91:=
 match tq a0 with|G=>G|V r1=>bif bif r1 then S else O then V (0)else match vK a0 with|G=>G|V r2=>V (r2)
def e91:=eL w9 91 S (lc (qg 34) ln) d91 (λg=>Jl g.1)
def Qm:EO e91:=λh=>kL (an:= .no) func91 (uY (kJ aR)) aF h
def FQ:EP e91:=λh=>kP h
def aDL:aZ:=cZ
abbrev apa:=Int
def d174:Td 0 apa:= .c [] [4] (.r 0 0 (ec 4 aL en) sn (λz=>z.1.1) (λx=>((x,()),(()))))
def axX:=(bk (bk ln))
def alq:An:= .no
def kB(a0:Int)(a1:Int):apa:=
 bif J (a1<a0)then a0 else a1
def aDP(a0:Int)(a1:Int):bL w9 (aDL) 300 (alq) 174 (axX.c (a0,a1,())) [] 0 d174.rd=V (kB a0 a1):=by
 refine Eq.trans (b:=(
  bif J (a1<a0)then V (a0)else V (a1):af apa)) (by kernel_rfl) ?_
 simp only[kB,cM,di]
def WI:=eL w9 174 S axX d174 (λg=>V (kB g.1 g.2.1))
def Im:EO WI:=λh=>kL (an:=alq) func174 aR aF h (c:=λg=>aDP g.1 g.2.1)
def aCS:aZ:=cZ
abbrev asb:=Int
def d175:Td 0 asb:= .c [] [4] (.r 0 0 (ec 4 aL en) sn (λz=>z.1.1) (λx=>((x,()),(()))))
def aAS:=(bk (bk ln))
def ano:An:= .no
def jE(a0:Int)(a1:Int):asb:=
 bif J (a0<a1)then a0 else a1
def aFG(a0:Int)(a1:Int):bL w9 (aCS) 300 (ano) 175 (aAS.c (a0,a1,())) [] 0 d175.rd=V (jE a0 a1):=by
 refine Eq.trans (b:=(
  bif J (a0<a1)then V (a0)else V (a1):af asb)) (by kernel_rfl) ?_
 simp only[jE,cM,di]
def afs:=eL w9 175 S aAS d175 (λg=>V (jE g.1 g.2.1))
def HX:EO afs:=λh=>kL (an:=ano) func175 aR aF h (c:=λg=>aFG g.1 g.2.1)
abbrev OH:=Int×Int×Int
def d90:Td 0 OH:= .c [] [2,3,4] (.r 0 0 (ec 2 aL (ec 3 aL (ec 4 aL en))) sn (λz=>(z.1.1,z.1.2.1,z.1.t.1)) (λx=>((x.1,x.2.1,x.t,()),(()))))
def A90:=(lc (ql 166) ln)
def x90(M:(aa ay)->af OH):aZ->aZ:=eL w9 90 S A90 d90 (λg=>M g.1)
def acm{M:(aa ay)->af OH}{F:aZ}{f:Nat}(h:bw F f):bw (x90 M F) f:=eC h (λ_=>by kernel_rfl)
def H90(M:(aa ay)->af OH):Prop:=HL w9 90 A90 d90 (λg=>M g.1)
def aa0{M:(aa ay)->af OH}(hM:H90 M){F:aZ}(h:aQ w9 F):aQ w9 (x90 M F):=cO (sc:=jr) cg hM ⟨_,func90,by kernel_rfl,by kernel_rfl⟩ (λ_=>by kernel_rfl) (λ_=>by kernel_rfl) h
def F90(M90:(aa ay)->af OH):aZ:=(afs (WI (x90 M90 cZ)))
def apY{M90}(h90:H90 M90):aQ w9 (F90 M90):=(HX (Im (aa0 h90 aR)))
structure Bo where
 t0:List ay
 (t5 t6 t7 t8:Int)
def XK:Td 0 Bo:= .c [] [0,5,6,7,8] (.r 0 0 (ec 0 (ql 166) (ec 5 aL (ec 6 aL (ec 7 aL (ec 8 aL en))))) sn (λz=>⟨z.1.1,z.1.2.1,z.1.t.1,z.1.t.2.1,z.1.q.1⟩) (λx=>((x.t0,x.t5,x.t6,x.t7,x.t8,()),(()))))
def TZ(M90:(aa ay)->af OH)(p:Bo):af (af Bo):=
 bif J (p.t8<p.t0.length)then if 0<=p.t8/\p.t8<p.t0.length then match M90 p.t0[p.t8.toNat]!.aM with|G=>G|V r1=>match M90 p.t0[p.t8.toNat]!.aS with|G=>G|V r2=>bif J (p.t0[p.t8.toNat]!.cn=4)then bif J (p.t0[p.t8.toNat]!.cn=1)then V (V (Bo.mk p.t0 (jE (i64.wrap (p.t5+i64.wrap (1+i64.wrap (p.t0[p.t8.toNat]!.fN*i64.wrap (1+r1.fst))))) 4097) (jE (i64.wrap (p.t6+1)) 9) (jE (i64.wrap (p.t7+i64.wrap (p.t0[p.t8.toNat]!.fN*i64.wrap (p.t0[p.t8.toNat]!.bq+r1.snd.snd)))) 67108865) (i64.wrap (p.t8+1))))else V (V (Bo.mk p.t0 (jE (i64.wrap (p.t5+i64.wrap (1+i64.wrap (p.t0[p.t8.toNat]!.fN*i64.wrap (1+r1.fst))))) 4097) (jE (i64.wrap (p.t6+i64.wrap (p.t0[p.t8.toNat]!.fN*r1.snd.fst))) 9) (jE (i64.wrap (p.t7+i64.wrap (p.t0[p.t8.toNat]!.fN*i64.wrap (p.t0[p.t8.toNat]!.bq+r1.snd.snd)))) 67108865) (i64.wrap (p.t8+1))))else bif J (p.t0[p.t8.toNat]!.cn=1)then V (V (Bo.mk p.t0 (jE (i64.wrap (p.t5+i64.wrap (1+kB r1.fst r2.fst))) 4097) (jE (i64.wrap (p.t6+1)) 9) (jE (i64.wrap (p.t7+i64.wrap (p.t0[p.t8.toNat]!.bq+kB r1.snd.snd r2.snd.snd))) 67108865) (i64.wrap (p.t8+1))))else V (V (Bo.mk p.t0 (jE (i64.wrap (p.t5+i64.wrap (1+kB r1.fst r2.fst))) 4097) (jE (i64.wrap (p.t6+kB r1.snd.fst r2.snd.fst)) 9) (jE (i64.wrap (p.t7+i64.wrap (p.t0[p.t8.toNat]!.bq+kB r1.snd.snd r2.snd.snd))) 67108865) (i64.wrap (p.t8+1))))else G else V (G)
def Uh(M90:(aa ay)->af OH):=bJ (TZ M90)
def ayU(M90:(aa ay)->af OH):An:=(noTwo (noTwo (.two (noTwo (XK.lp (Uh M90) .no)) .no)))
def aEh(M90:(aa ay)->af OH):cR w9 (F90 M90) 0 300 90 (ayU M90):=bA (l:=[(aW f90 0,(XK.lp (Uh M90) .no))]) func90 (aV (by kernel_rfl)) (by kernel_rfl) (az (aO XK) aF)
def s90(M90:(aa ay)->af OH)(a0:aa ay):af OH:=
 match Uh M90 (Bo.mk a0 0 0 0 0)with|G=>G|V r3=>bif J (r3.t8<r3.t0.length)then if 0<=r3.t8/\r3.t8<r3.t0.length then match M90 r3.t0[r3.t8.toNat]!.aM with|G=>G|V r4=>match M90 r3.t0[r3.t8.toNat]!.aS with|G=>G|V r5=>bif J (r3.t0[r3.t8.toNat]!.cn=4)then bif J (r3.t0[r3.t8.toNat]!.cn=1)then G else G else bif J (r3.t0[r3.t8.toNat]!.cn=1)then G else G else G else V (r3.t5,r3.t6,r3.t7)
def c90(M90:(aa ay)->af OH)(a0:aa ay):bL w9 (F90 M90) 300 (ayU M90) 90 (A90.c (a0,())) [] 0 d90.rd=s90 M90 a0:=by kernel_rfl
def av7:Nat->((aa ay)->af OH)
 |0=>(λ_=>G)
 |n+1=>(s90 (av7 n))
def m90(n:Nat):(aa ay)->af OH:=(av7 n)
def SH:∀n,H90 (m90 n)
 |0=>λ_ _ h=>(by cases h)
 |n+1=>by
  have ih:=SH n;have i90:=ih;exact(cF (apY i90) (aEh (m90 n)) (λ_=>by kernel_rfl) (λ_=>by kernel_rfl) λg=>c90 (m90 n) g.1)
def r90:(aa ay)->af OH:=λa0=>lim (λn=>m90 n a0)
def aqO:H90 r90:=λg b h=>by
 obtain⟨n,hn⟩:=dR (show lim (λn=>m90 n g.1)=V b from h);exact(SH n) g b hn
def e90(F:aZ):aZ:=x90 r90 F
def Z3{F:aZ}(h:aQ w9 F):aQ w9 (e90 F):=aa0 aqO h
def Nq{F:aZ}{f:Nat}(h:bw F f):bw (e90 F) f:=acm h
abbrev p7:=Int
def d216:Td 0 p7:= .c [] [2] (.r 0 0 (ec 2 aL en) sn (λz=>z.1.1) (λx=>((x,()),(()))))
def asa:=(lc (qg 137) ln)
def ahr(M:au->af p7):aZ->aZ:=eL w9 216 S asa d216 (λg=>M g.1)
def V3{M:au->af p7}{F:aZ}{f:Nat}(h:bw F f):bw (ahr M F) f:=eC h (λ_=>by kernel_rfl)
def ac4(M:au->af p7):Prop:=HL w9 216 asa d216 (λg=>M g.1)
def US{M:au->af p7}(hM:ac4 M){F:aZ}(h:aQ w9 F):aQ w9 (ahr M F):=cO (sc:=jr) cg hM ⟨_,func216,by kernel_rfl,by kernel_rfl⟩ (λ_=>by kernel_rfl) (λ_=>by kernel_rfl) h
def aqt(M216:au->af p7):aZ:=(ahr M216 cZ)
def ad3{M216}(h216:ac4 M216):aQ w9 (aqt M216):=(US h216 aR)
structure Fp where
 (t3 t4:Int)
 b0:au
def Qb:Td 0 Fp:= .c [] [1,3,4] (.r 0 1 (ec 1 (qp 0 0) (ec 3 aL (ec 4 aL en))) (sb 0 137 (lg 137) sn) (λz=>⟨z.1.2.1,z.1.t.1,z.2.1⟩) (λx=>(((),x.t3,x.t4,()),(x.b0,()))))
def JE(M216:au->af p7)(p:Fp):af (af Fp):=
 bif J (p.t4<p.b0.aq.length)then if 0<=p.t4/\p.t4<p.b0.aq.length then match M216 (au.mk p.b0.aq[p.t4.toNat]!.bF p.b0.aq[p.t4.toNat]!.fN p.b0.aq[p.t4.toNat]!.aq)with|G=>G|V r1=>V (V (Fp.mk (i64.wrap (p.t3+r1)) (i64.wrap (p.t4+1)) (au.mk p.b0.bF p.b0.fN p.b0.aq)))else G else V (G)
def IU(M216:au->af p7):=bJ (JE M216)
def ank(M216:au->af p7):An:=(noTwo (noTwo (.two (noTwo (Qb.lp (IU M216) .no)) .no)))
def aBq(M216:au->af p7):cR w9 (aqt M216) 0 300 216 (ank M216):=bA (l:=[(aW f216 0,(Qb.lp (IU M216) .no))]) func216 (aV (by kernel_rfl)) (by kernel_rfl) (az (aO Qb) aF)
def ade(M216:au->af p7)(a0:au):af p7:=
 match IU M216 (Fp.mk 1 0 (au.mk a0.bF a0.fN a0.aq))with|G=>G|V r2=>bif J (r2.t4<r2.b0.aq.length)then if 0<=r2.t4/\r2.t4<r2.b0.aq.length then match M216 (au.mk r2.b0.aq[r2.t4.toNat]!.bF r2.b0.aq[r2.t4.toNat]!.fN r2.b0.aq[r2.t4.toNat]!.aq)with|G=>G|V r3=>G else G else V (r2.t3)
def aEU(M216:au->af p7)(a0:au):bL w9 (aqt M216) 300 (ank M216) 216 (asa.c (a0,())) [] 0 d216.rd=ade M216 a0:=by kernel_rfl
def akS:Nat->(au->af p7)
 |0=>(λ_=>G)
 |n+1=>(ade (akS n))
def O4(n:Nat):au->af p7:=(akS n)
def Lv:∀n,ac4 (O4 n)
 |0=>λ_ _ h=>(by cases h)
 |n+1=>by
  have ih:=Lv n;have i216:=ih;exact(cF (ad3 i216) (aBq (O4 n)) (λ_=>by kernel_rfl) (λ_=>by kernel_rfl) λg=>aEU (O4 n) g.1)
def RW:au->af p7:=λa0=>lim (λn=>O4 n a0)
def aeE:ac4 RW:=λg b h=>by
 obtain⟨n,hn⟩:=dR (show lim (λn=>O4 n g.1)=V b from h);exact(Lv n) g b hn
def agP(F:aZ):aZ:=ahr RW F
def UB{F:aZ}(h:aQ w9 F):aQ w9 (agP F):=US aeE h
def HO{F:aZ}{f:Nat}(h:bw F f):bw (agP F) f:=V3 h
abbrev qw:=Int
def d215:Td 0 qw:= .c [] [2] (.r 0 0 (ec 2 aL en) sn (λz=>z.1.1) (λx=>((x,()),(()))))
def aqI:=(lc (ql 166) ln)
def aew(M:(aa ay)->af qw):aZ->aZ:=eL w9 215 S aqI d215 (λg=>M g.1)
def Vp{M:(aa ay)->af qw}{F:aZ}{f:Nat}(h:bw F f):bw (aew M F) f:=eC h (λ_=>by kernel_rfl)
def ai6(M:(aa ay)->af qw):Prop:=HL w9 215 aqI d215 (λg=>M g.1)
def SY{M:(aa ay)->af qw}(hM:ai6 M){F:aZ}(h:aQ w9 F):aQ w9 (aew M F):=cO (sc:=jr) cg hM ⟨_,func215,by kernel_rfl,by kernel_rfl⟩ (λ_=>by kernel_rfl) (λ_=>by kernel_rfl) h
def aqg(M215:(aa ay)->af qw):aZ:=(agP (aew M215 cZ))
def aiZ{M215}(h215:ai6 M215):aQ w9 (aqg M215):=(UB (SY h215 aR))
structure CR where
 t0:List ay
 (t3 t4:Int)
def Qa:Td 0 CR:= .c [] [0,3,4] (.r 0 0 (ec 0 (ql 166) (ec 3 aL (ec 4 aL en))) sn (λz=>⟨z.1.1,z.1.2.1,z.1.t.1⟩) (λx=>((x.t0,x.t3,x.t4,()),(()))))
def Iu(M215:(aa ay)->af qw)(p:CR):af (af CR):=
 bif J (p.t4<p.t0.length)then if 0<=p.t4/\p.t4<p.t0.length then match RW (au.mk p.t0[p.t4.toNat]!.aA.bF p.t0[p.t4.toNat]!.aA.fN p.t0[p.t4.toNat]!.aA.aq)with|G=>G|V r1=>if 0<=p.t4/\p.t4<p.t0.length then match M215 p.t0[p.t4.toNat]!.aM with|G=>G|V r2=>if 0<=p.t4/\p.t4<p.t0.length then match M215 p.t0[p.t4.toNat]!.aS with|G=>G|V r3=>V (V (CR.mk p.t0 (i64.wrap (i64.wrap (i64.wrap (i64.wrap (p.t3+1)+r1)+r2)+r3)) (i64.wrap (p.t4+1))))else G else G else G else V (G)
def KI(M215:(aa ay)->af qw):=bJ (Iu M215)
def amY(M215:(aa ay)->af qw):An:=(noTwo (noTwo (.two (noTwo (Qa.lp (KI M215) .no)) .no)))
def aAV(M215:(aa ay)->af qw):cR w9 (aqg M215) 0 300 215 (amY M215):=bA (l:=[(aW f215 0,(Qa.lp (KI M215) .no))]) func215 (aV (by kernel_rfl)) (by kernel_rfl) (az (aO Qa) aF)
def ah3(M215:(aa ay)->af qw)(a0:aa ay):af qw:=
 match KI M215 (CR.mk a0 0 0)with|G=>G|V r4=>bif J (r4.t4<r4.t0.length)then if 0<=r4.t4/\r4.t4<r4.t0.length then match RW (au.mk r4.t0[r4.t4.toNat]!.aA.bF r4.t0[r4.t4.toNat]!.aA.fN r4.t0[r4.t4.toNat]!.aA.aq)with|G=>G|V r5=>if 0<=r4.t4/\r4.t4<r4.t0.length then match M215 r4.t0[r4.t4.toNat]!.aM with|G=>G|V r6=>if 0<=r4.t4/\r4.t4<r4.t0.length then match M215 r4.t0[r4.t4.toNat]!.aS with|G=>G|V r7=>G else G else G else G else V (r4.t3)
def aFe(M215:(aa ay)->af qw)(a0:aa ay):bL w9 (aqg M215) 300 (amY M215) 215 (aqI.c (a0,())) [] 0 d215.rd=ah3 M215 a0:=by kernel_rfl
def alz:Nat->((aa ay)->af qw)
 |0=>(λ_=>G)
 |n+1=>(ah3 (alz n))
def OR(n:Nat):(aa ay)->af qw:=(alz n)
def Oq:∀n,ai6 (OR n)
 |0=>λ_ _ h=>(by cases h)
 |n+1=>by
  have ih:=Oq n;have i215:=ih;exact(cF (aiZ i215) (aAV (OR n)) (λ_=>by kernel_rfl) (λ_=>by kernel_rfl) λg=>aFe (OR n) g.1)
def afk:(aa ay)->af qw:=λa0=>lim (λn=>OR n a0)
def ag1:ai6 afk:=λg b h=>by
 obtain⟨n,hn⟩:=dR (show lim (λn=>OR n g.1)=V b from h);exact(Oq n) g b hn
def aqW(F:aZ):aZ:=aew afk F
def afe{F:aZ}(h:aQ w9 F):aQ w9 (aqW F):=SY ag1 h
def He{F:aZ}{f:Nat}(h:bw F f):bw (aqW F) f:=Vp h
abbrev qE:=Int
def d217:Td 0 qE:= .c [] [2] (.r 0 0 (ec 2 aL en) sn (λz=>z.1.1) (λx=>((x,()),(()))))
def arX:=(lc (qg 137) ln)
def agM(M:au->af qE):aZ->aZ:=eL w9 217 S arX d217 (λg=>M g.1)
def VD{M:au->af qE}{F:aZ}{f:Nat}(h:bw F f):bw (agM M F) f:=eC h (λ_=>by kernel_rfl)
def ajc(M:au->af qE):Prop:=HL w9 217 arX d217 (λg=>M g.1)
def Ve{M:au->af qE}(hM:ajc M){F:aZ}(h:aQ w9 F):aQ w9 (agM M F):=cO (sc:=jr) cg hM ⟨_,func217,by kernel_rfl,by kernel_rfl⟩ (λ_=>by kernel_rfl) (λ_=>by kernel_rfl) h
def ar9(M217:au->af qE):aZ:=(agM M217 cZ)
def aix{M217}(h217:ajc M217):aQ w9 (ar9 M217):=(Ve h217 aR)
structure Ab where
 (t3 t4:Int)
 b0:au
def Sb:Td 0 Ab:= .c [] [1,3,4] (.r 0 1 (ec 1 (qp 0 0) (ec 3 aL (ec 4 aL en))) (sb 0 137 (lg 137) sn) (λz=>⟨z.1.2.1,z.1.t.1,z.2.1⟩) (λx=>(((),x.t3,x.t4,()),(x.b0,()))))
def K2(M217:au->af qE)(p:Ab):af (af Ab):=
 bif J (p.t4<p.b0.aq.length)then if 0<=p.t4/\p.t4<p.b0.aq.length then match M217 (au.mk p.b0.aq[p.t4.toNat]!.bF p.b0.aq[p.t4.toNat]!.fN p.b0.aq[p.t4.toNat]!.aq)with|G=>G|V r1=>bif J (p.t3<r1)then V (V (Ab.mk r1 (i64.wrap (p.t4+1)) (au.mk p.b0.bF p.b0.fN p.b0.aq)))else V (V (Ab.mk p.t3 (i64.wrap (p.t4+1)) (au.mk p.b0.bF p.b0.fN p.b0.aq)))else G else V (G)
def IL(M217:au->af qE):=bJ (K2 M217)
def aly(M217:au->af qE):An:=(noTwo (noTwo (.two (noTwo (Sb.lp (IL M217) .no)) .no)))
def ayd(M217:au->af qE):cR w9 (ar9 M217) 0 300 217 (aly M217):=bA (l:=[(aW f217 0,(Sb.lp (IL M217) .no))]) func217 (aV (by kernel_rfl)) (by kernel_rfl) (az (aO Sb) aF)
def ajB(M217:au->af qE)(a0:au):af qE:=
 match IL M217 (Ab.mk 0 0 (au.mk a0.bF a0.fN a0.aq))with|G=>G|V r2=>bif J (r2.t4<r2.b0.aq.length)then if 0<=r2.t4/\r2.t4<r2.b0.aq.length then match M217 (au.mk r2.b0.aq[r2.t4.toNat]!.bF r2.b0.aq[r2.t4.toNat]!.fN r2.b0.aq[r2.t4.toNat]!.aq)with|G=>G|V r3=>bif J (r2.t3<r3)then G else G else G else V (i64.wrap (r2.t3+1))
def aFA(M217:au->af qE)(a0:au):bL w9 (ar9 M217) 300 (aly M217) 217 (arX.c (a0,())) [] 0 d217.rd=ajB M217 a0:=by kernel_rfl
def ama:Nat->(au->af qE)
 |0=>(λ_=>G)
 |n+1=>(ajB (ama n))
def Pr(n:Nat):au->af qE:=(ama n)
def LK:∀n,ajc (Pr n)
 |0=>λ_ _ h=>(by cases h)
 |n+1=>by
  have ih:=LK n;have i217:=ih;exact(cF (aix i217) (ayd (Pr n)) (λ_=>by kernel_rfl) (λ_=>by kernel_rfl) λg=>aFA (Pr n) g.1)
def NP:au->af qE:=λa0=>lim (λn=>Pr n a0)
def aio:ajc NP:=λg b h=>by
 obtain⟨n,hn⟩:=dR (show lim (λn=>Pr n g.1)=V b from h);exact(LK n) g b hn
def aeV(F:aZ):aZ:=agM NP F
def SK{F:aZ}(h:aQ w9 F):aQ w9 (aeV F):=Ve aio h
def qX{F:aZ}{f:Nat}(h:bw F f):bw (aeV F) f:=VD h
abbrev o7:=Int
def d218:Td 0 o7:= .c [] [2] (.r 0 0 (ec 2 aL en) sn (λz=>z.1.1) (λx=>((x,()),(()))))
def arN:=(lc (ql 166) ln)
def afA(M:(aa ay)->af o7):aZ->aZ:=eL w9 218 S arN d218 (λg=>M g.1)
def Vm{M:(aa ay)->af o7}{F:aZ}{f:Nat}(h:bw F f):bw (afA M F) f:=eC h (λ_=>by kernel_rfl)
def akd(M:(aa ay)->af o7):Prop:=HL w9 218 arN d218 (λg=>M g.1)
def TN{M:(aa ay)->af o7}(hM:akd M){F:aZ}(h:aQ w9 F):aQ w9 (afA M F):=cO (sc:=jr) cg hM ⟨_,func218,by kernel_rfl,by kernel_rfl⟩ (λ_=>by kernel_rfl) (λ_=>by kernel_rfl) h
def aok(M218:(aa ay)->af o7):aZ:=(afA M218 cZ)
def ahl{M218}(h218:akd M218):aQ w9 (aok M218):=(TN h218 aR)
structure qJ where
 t0:List ay
 (t3 t4:Int)
def Rb:Td 0 qJ:= .c [] [0,3,4] (.r 0 0 (ec 0 (ql 166) (ec 3 aL (ec 4 aL en))) sn (λz=>⟨z.1.1,z.1.2.1,z.1.t.1⟩) (λx=>((x.t0,x.t3,x.t4,()),(()))))
def Jw(M218:(aa ay)->af o7)(p:qJ):af (af qJ):=
 bif J (p.t4<p.t0.length)then if 0<=p.t4/\p.t4<p.t0.length then match M218 p.t0[p.t4.toNat]!.aM with|G=>G|V r1=>if 0<=p.t4/\p.t4<p.t0.length then match M218 p.t0[p.t4.toNat]!.aS with|G=>G|V r2=>bif J (p.t3<i64.wrap (r1+1))then bif J (i64.wrap (r1+1)<i64.wrap (r2+1))then V (V (qJ.mk p.t0 (i64.wrap (r2+1)) (i64.wrap (p.t4+1))))else V (V (qJ.mk p.t0 (i64.wrap (r1+1)) (i64.wrap (p.t4+1))))else bif J (p.t3<i64.wrap (r2+1))then V (V (qJ.mk p.t0 (i64.wrap (r2+1)) (i64.wrap (p.t4+1))))else V (V (qJ.mk p.t0 p.t3 (i64.wrap (p.t4+1))))else G else G else V (G)
def IN(M218:(aa ay)->af o7):=bJ (Jw M218)
def ald(M218:(aa ay)->af o7):An:=(noTwo (noTwo (.two (noTwo (Rb.lp (IN M218) .no)) .no)))
def axf(M218:(aa ay)->af o7):cR w9 (aok M218) 0 300 218 (ald M218):=bA (l:=[(aW f218 0,(Rb.lp (IN M218) .no))]) func218 (aV (by kernel_rfl)) (by kernel_rfl) (az (aO Rb) aF)
def ac7(M218:(aa ay)->af o7)(a0:aa ay):af o7:=
 match IN M218 (qJ.mk a0 0 0)with|G=>G|V r3=>bif J (r3.t4<r3.t0.length)then if 0<=r3.t4/\r3.t4<r3.t0.length then match M218 r3.t0[r3.t4.toNat]!.aM with|G=>G|V r4=>if 0<=r3.t4/\r3.t4<r3.t0.length then match M218 r3.t0[r3.t4.toNat]!.aS with|G=>G|V r5=>bif J (r3.t3<i64.wrap (r4+1))then bif J (i64.wrap (r4+1)<i64.wrap (r5+1))then G else G else bif J (r3.t3<i64.wrap (r5+1))then G else G else G else G else V (r3.t3)
def aDo(M218:(aa ay)->af o7)(a0:aa ay):bL w9 (aok M218) 300 (ald M218) 218 (arN.c (a0,())) [] 0 d218.rd=ac7 M218 a0:=by kernel_rfl
def am0:Nat->((aa ay)->af o7)
 |0=>(λ_=>G)
 |n+1=>(ac7 (am0 n))
def RD(n:Nat):(aa ay)->af o7:=(am0 n)
def MF:∀n,akd (RD n)
 |0=>λ_ _ h=>(by cases h)
 |n+1=>by
  have ih:=MF n;have i218:=ih;exact(cF (ahl i218) (axf (RD n)) (λ_=>by kernel_rfl) (λ_=>by kernel_rfl) λg=>aDo (RD n) g.1)
def agl:(aa ay)->af o7:=λa0=>lim (λn=>RD n a0)
def agW:akd agl:=λg b h=>by
 obtain⟨n,hn⟩:=dR (show lim (λn=>RD n g.1)=V b from h);exact(MF n) g b hn
def aoI(F:aZ):aZ:=afA agl F
def aj7{F:aZ}(h:aQ w9 F):aQ w9 (aoI F):=TN agW h
def Hl{F:aZ}{f:Nat}(h:bw F f):bw (aoI F) f:=Vm h
abbrev oR:=Bool
def d219:Td 0 oR:= .c [] [2] (.r 0 0 (ec 2 qb en) sn (λz=>z.1.1) (λx=>((x,()),(()))))
def aqU:=(lc (ql 166) ln)
def ajG(M:(aa ay)->af oR):aZ->aZ:=eL w9 219 S aqU d219 (λg=>M g.1)
def Af{M:(aa ay)->af oR}{F:aZ}{f:Nat}(h:bw F f):bw (ajG M F) f:=eC h (λ_=>by kernel_rfl)
def aiN(M:(aa ay)->af oR):Prop:=HL w9 219 aqU d219 (λg=>M g.1)
def Vf{M:(aa ay)->af oR}(hM:aiN M){F:aZ}(h:aQ w9 F):aQ w9 (ajG M F):=cO (sc:=jr) cg hM ⟨_,func219,by kernel_rfl,by kernel_rfl⟩ (λ_=>by kernel_rfl) (λ_=>by kernel_rfl) h
def aie(M219:(aa ay)->af oR):aZ:=(ajG M219 (aeV cZ))
def aiq{M219}(h219:aiN M219):aQ w9 (aie M219):=(Vf h219 (SK aR))
structure Dc where
 t0:List ay
 t3:Int
def R4:Td 0 Dc:= .c [] [0,3] (.r 0 0 (ec 0 (ql 166) (ec 3 aL en)) sn (λz=>⟨z.1.1,z.1.2.1⟩) (λx=>((x.t0,x.t3,()),(()))))
def H9(M219:(aa ay)->af oR)(p:Dc):af (af Dc):=
 bif J (p.t3<p.t0.length)then match if 0<=p.t3/\p.t3<p.t0.length then match NP (au.mk p.t0[p.t3.toNat]!.aA.bF p.t0[p.t3.toNat]!.aA.fN p.t0[p.t3.toNat]!.aA.aq)with|G=>G|V r1=>bif J (12<r1)then V O else if 0<=p.t3/\p.t3<p.t0.length then match M219 p.t0[p.t3.toNat]!.aM with|G=>G|V r2=>bif r2 then V O else if 0<=p.t3/\p.t3<p.t0.length then match M219 p.t0[p.t3.toNat]!.aS with|G=>G|V r3=>V (r3)else G else G else G with|G=>G|V r4=>bif r4 then V (G)else V (V (Dc.mk p.t0 (i64.wrap (p.t3+1))))else V (G)
def aaw(M219:(aa ay)->af oR):An:=(noTwo (.two (.two (.rb [217,219] 32) .no) .no))
def Ik(M219:(aa ay)->af oR):=bJ (H9 M219)
def alk(M219:(aa ay)->af oR):An:=(noTwo (.two (noTwo (R4.lp (Ik M219) (aaw M219))) .no))
def au7{M219}:∀f∈([217,219]:aa Nat),bw (aie M219) f:=(az (Af (qX bS)) (az (Af (qX bS)) aF))
def aAK(M219:(aa ay)->af oR):cR w9 (aie M219) 0 300 219 (alk M219):=bA (l:=[(aW f219 0,(R4.lp (Ik M219) (aaw M219))),(.skip,(.rb [217,219] 32))]) func219 (aV (by kernel_rfl)) (by kernel_rfl) (az (aO R4) (az au7 aF))
def adS(M219:(aa ay)->af oR)(a0:aa ay):af oR:=
 match Ik M219 (Dc.mk a0 0)with|G=>G|V r5=>bif J (r5.t3<r5.t0.length)then match if 0<=r5.t3/\r5.t3<r5.t0.length then match NP (au.mk r5.t0[r5.t3.toNat]!.aA.bF r5.t0[r5.t3.toNat]!.aA.fN r5.t0[r5.t3.toNat]!.aA.aq)with|G=>G|V r6=>bif J (12<r6)then V O else if 0<=r5.t3/\r5.t3<r5.t0.length then match M219 r5.t0[r5.t3.toNat]!.aM with|G=>G|V r7=>bif r7 then V O else if 0<=r5.t3/\r5.t3<r5.t0.length then match M219 r5.t0[r5.t3.toNat]!.aS with|G=>G|V r8=>V (r8)else G else G else G with|G=>G|V r9=>bif r9 then V O else G else V S
def aEu(M219:(aa ay)->af oR)(a0:aa ay):bL w9 (aie M219) 300 (alk M219) 219 (aqU.c (a0,())) [] 0 d219.rd=adS M219 a0:=by kernel_rfl
def alV:Nat->((aa ay)->af oR)
 |0=>(λ_=>G)
 |n+1=>(adS (alV n))
def RQ(n:Nat):(aa ay)->af oR:=(alV n)
def Ms:∀n,aiN (RQ n)
 |0=>λ_ _ h=>(by cases h)
 |n+1=>by
  have ih:=Ms n;have i219:=ih;exact(cF (aiq i219) (aAK (RQ n)) (λ_=>by kernel_rfl) (λ_=>by kernel_rfl) λg=>aEu (RQ n) g.1)
def ah2:(aa ay)->af oR:=λa0=>lim (λn=>RQ n a0)
def afH:aiN ah2:=λg b h=>by
 obtain⟨n,hn⟩:=dR (show lim (λn=>RQ n g.1)=V b from h);exact(Ms n) g b hn
def arA(F:aZ):aZ:=ajG ah2 F
def akB{F:aZ}(h:aQ w9 F):aQ w9 (arA F):=Vf afH h
def HA{F:aZ}{f:Nat}(h:bw F f):bw (arA F) f:=Af h
def awn:aZ:=(arA (aoI (aeV (agP (aqW cZ)))))
structure EJ where
 (t3 t4:Int)
 b0:aN
def PE:Td 0 EJ:= .c [] [1,3,4] (.r 0 1 (ec 1 (qp 0 0) (ec 3 aL (ec 4 aL en))) (sb 0 26 (lg 26) sn) (λz=>⟨z.1.2.1,z.1.t.1,z.2.1⟩) (λx=>(((),x.t3,x.t4,()),(x.b0,()))))
def D0(p:EJ):af (af EJ):=
 bif J (p.t4<p.b0.ak.length)then if 0<=p.t4/\p.t4<p.b0.ak.length then match RW (au.mk p.b0.ak[p.t4.toNat]!.aA.bF p.b0.ak[p.t4.toNat]!.aA.fN p.b0.ak[p.t4.toNat]!.aA.aq)with|G=>G|V r1=>if 0<=p.t4/\p.t4<p.b0.ak.length then match NP (au.mk p.b0.ak[p.t4.toNat]!.aA.bF p.b0.ak[p.t4.toNat]!.aA.fN p.b0.ak[p.t4.toNat]!.aA.aq)with|G=>G|V r2=>bif J (12<r2)then V (G)else V (V (EJ.mk (i64.wrap (p.t3+r1)) (i64.wrap (p.t4+1)) p.b0))else G else G else V (G)
def Iw:=bJ (D0)
abbrev auA:=Bool
def d138:Td 0 auA:= .c [] [2] (.r 0 0 (ec 2 qb en) sn (λz=>z.1.1) (λx=>((x,()),(()))))
def alM:∀f∈([218,219]:aa Nat),bw (awn) f:=(az (HA (Hl (qX (HO (He bS))))) (az (HA (Hl (qX (HO (He bS))))) aF))
def aeN(a0:aN):af auA:=
 match bif J (64<(a0.ai.length:Int))then V O else V (J (8<(a0.ak.length:Int)))with|G=>G|V r3=>bif r3 then V S else match afk a0.bI with|G=>G|V r4=>match Iw (EJ.mk r4 0 a0)with|G=>G|V r5=>bif J (r5.t4<r5.b0.ak.length)then if 0<=r5.t4/\r5.t4<r5.b0.ak.length then match RW (au.mk r5.b0.ak[r5.t4.toNat]!.aA.bF r5.b0.ak[r5.t4.toNat]!.aA.fN r5.b0.ak[r5.t4.toNat]!.aA.aq)with|G=>G|V r6=>if 0<=r5.t4/\r5.t4<r5.b0.ak.length then match NP (au.mk r5.b0.ak[r5.t4.toNat]!.aA.bF r5.b0.ak[r5.t4.toNat]!.aA.fN r5.b0.ak[r5.t4.toNat]!.aA.aq)with|G=>G|V r7=>bif J (12<r7)then V S else G else G else G else match bif J (r5.t3<=1024)then match agl r5.b0.bI with|G=>G|V r8=>bif J (r8<=12)then match ah2 r5.b0.bI with|G=>G|V r9=>V (bif r9 then S else O)else V S else V S with|G=>G|V r10=>V (r10)
def aBc:=eL w9 138 S (lc (qg 26) ln) d138 (λg=>aeN g.1)
def adD:EO aBc:=λh=>kL (F:=awn) (an:=(noTwo (.two (.two (.rb [218,219] 14) .no) (noTwo (.two (noTwo (PE.lp Iw .no)) (.two (.rb [218,219] 2) .no)))))) (l:=[(.skip,(.rb [218,219] 14)),(aW f138 0,(PE.lp Iw .no)),(.skip,(.rb [218,219] 2))]) func138 (akB (aj7 (SK (UB (afe aR))))) (az alM (az (aO PE) (az alM aF))) h
def aze:aZ:=cZ
structure FF where
 t0:ByteArray
 t3:Int
def Rj:Td 0 FF:= .c [] [0,3] (.r 0 0 (ec 0 qs (ec 3 aL en)) sn (λz=>⟨z.1.1,z.1.2.1⟩) (λx=>((x.t0,x.t3,()),(()))))
def KL(p:FF):af (af FF):=
 bif J (p.t3<p.t0.size)then if 0<=p.t3/\p.t3<p.t0.size then match bif J (97<=cz p.t0 p.t3.toNat)then V (J (cz p.t0 p.t3.toNat<=122))else V S with|G=>G|V r1=>match bif J (48<=cz p.t0 p.t3.toNat)then bif J (cz p.t0 p.t3.toNat<=57)then V O else bif J (cz p.t0 p.t3.toNat=46)then V O else V (J (cz p.t0 p.t3.toNat=95))else bif J (cz p.t0 p.t3.toNat=46)then V O else V (J (cz p.t0 p.t3.toNat=95))with|G=>G|V r2=>match bif bif r1 then S else O then bif J (p.t3=0)then V O else V (bif r2 then S else O)else V S with|G=>G|V r3=>bif r3 then V (G)else V (V (FF.mk p.t0 (i64.wrap (p.t3+1))))else G else V (G)
def Z2:An:=(noTwo (.two (noTwo (.two (.rb [] 5) (.two (.rb [] 6) (.two (.rb [] 53) .no)))) .no))
def Kl:=bJ (KL)
abbrev at1:=Bool
def d140:Td 0 at1:= .c [] [2] (.r 0 0 (ec 2 qb en) sn (λz=>z.1.1) (λx=>((x,()),(()))))
def UP:∀f∈([]:aa Nat),bw (aze) f:=aF
def PG(a0:ByteArray):af at1:=
 match bif J ((a0.size:Int)<1)then V O else V (J (40<(a0.size:Int)))with|G=>G|V r4=>bif r4 then V S else match Kl (FF.mk a0 0)with|G=>G|V r5=>bif J (r5.t3<r5.t0.size)then if 0<=r5.t3/\r5.t3<r5.t0.size then match bif J (97<=cz r5.t0 r5.t3.toNat)then V (J (cz r5.t0 r5.t3.toNat<=122))else V S with|G=>G|V r6=>match bif J (48<=cz r5.t0 r5.t3.toNat)then bif J (cz r5.t0 r5.t3.toNat<=57)then V O else bif J (cz r5.t0 r5.t3.toNat=46)then V O else V (J (cz r5.t0 r5.t3.toNat=95))else bif J (cz r5.t0 r5.t3.toNat=46)then V O else V (J (cz r5.t0 r5.t3.toNat=95))with|G=>G|V r7=>match bif bif r6 then S else O then bif J (r5.t3=0)then V O else V (bif r7 then S else O)else V S with|G=>G|V r8=>bif r8 then V S else G else G else V O
def aeU:=eL w9 140 S (lc qs ln) d140 (λg=>PG g.1)
def U1:EO aeU:=λh=>kL (F:=aze) (an:=(noTwo (.two (.two (.rb [] 14) .no) (.two (noTwo (Rj.lp Kl Z2)) .no)))) (l:=[(.skip,(.rb [] 14)),(aW f140 0,(Rj.lp Kl Z2)),(.skip,(.rb [] 5)),(.skip,(.rb [] 6)),(.skip,(.rb [] 53))]) func140 aR (az UP (az (aO Rj) (az UP (az UP (az UP aF))))) h
def WB:EP aeU:=λh=>kP h
def ar3:aZ:=cZ
abbrev aqX:=Bool
def d141:Td 0 aqX:= .c [] [4] (.r 0 0 (ec 4 qb en) sn (λz=>z.1.1) (λx=>((x,()),(()))))
def ayp:=(bk (bk ln))
def alw:An:=(noTwo (.two (.rb [] 4) .no))
def azC:∀f∈([]:aa Nat),bw (ar3) f:=aF
def KF(a0:Int)(a1:Int):aqX:=
 let r1:Bool:=bif J (a0<=a1)then bif J (-1048576<=a0)then J (a1<=1048576)else S else S;r1
def aDR(a0:Int)(a1:Int):bL w9 (ar3) 300 (alw) 141 (ayp.c (a0,a1,())) [] 0 d141.rd=V (KF a0 a1):=by
 refine Eq.trans (b:=(
  match bif J (a0<=a1)then bif J (-1048576<=a0)then V (J (a1<=1048576))else V (S)else V (S)with|G=>G|V r1=>V (r1):af aqX)) (by kernel_rfl) ?_
 simp only[KF,cM,di]
def aej:=eL w9 141 S ayp d141 (λg=>V (KF g.1 g.2.1))
def T6:EO aej:=λh=>kL (F:=ar3) (an:=alw) (l:=[(.skip,(.rb [] 4))]) func141 aR (az azC aF) h (c:=λg=>aDR g.1 g.2.1)
def Wm:EP aej:=λh=>kP h
structure vP where
 t0:List aX
 (t1 t5 t6:Int)
def Pb:Td 0 vP:= .c [] [0,1,5,6] (.r 0 0 (ec 0 (ql 131) (ec 1 aL (ec 5 aL (ec 6 aL en)))) sn (λz=>⟨z.1.1,z.1.2.1,z.1.t.1,z.1.t.2.1⟩) (λx=>((x.t0,x.t1,x.t5,x.t6,()),(()))))
def JD(p:vP):af (af vP):=
 bif J (p.t6<p.t0.length)then if 0<=p.t6/\p.t6<p.t0.length then bif bif J (p.t0[p.t6.toNat]!.bz=p.t1)then S else O then V (V (vP.mk p.t0 p.t1 p.t5 (i64.wrap (p.t6+1))))else if 0<=p.t6/\p.t6<p.t0.length then if 0<=p.t6/\p.t6<p.t0.length then bif J (4096<i64.wrap (p.t5*i64.wrap (i64.wrap (p.t0[p.t6.toNat]!.ah-p.t0[p.t6.toNat]!.ag)+1)))then V (G)else V (V (vP.mk p.t0 p.t1 (i64.wrap (p.t5*i64.wrap (i64.wrap (p.t0[p.t6.toNat]!.ah-p.t0[p.t6.toNat]!.ag)+1))) (i64.wrap (p.t6+1))))else G else G else G else V (G)
def JS:=bJ (JD)
abbrev avx:=Int
def d220:Td 0 avx:= .c [] [4] (.r 0 0 (ec 4 aL en) sn (λz=>z.1.1) (λx=>((x,()),(()))))
def WS(a0:aa aX)(a1:Int):af avx:=
 match JS (vP.mk a0 a1 1 0)with|G=>G|V r1=>bif J (r1.t6<r1.t0.length)then if 0<=r1.t6/\r1.t6<r1.t0.length then bif bif J (r1.t0[r1.t6.toNat]!.bz=r1.t1)then S else O then G else if 0<=r1.t6/\r1.t6<r1.t0.length then if 0<=r1.t6/\r1.t6<r1.t0.length then bif J (4096<i64.wrap (r1.t5*i64.wrap (i64.wrap (r1.t0[r1.t6.toNat]!.ah-r1.t0[r1.t6.toNat]!.ag)+1)))then V 4097 else G else G else G else G else V (r1.t5)
def ao3:=eL w9 220 S (lc (ql 131) (bk ln)) d220 (λg=>WS g.1 g.2.1)
def acG:EO ao3:=λh=>kL (an:=(noTwo (noTwo (.two (noTwo (Pb.lp JS .no)) .no)))) (l:=[(aW f220 0,(Pb.lp JS .no))]) func220 aR (az (aO Pb) aF) h
def W5:EP ao3:=λh=>kP h
def aya:aZ:=(ao3 (aej (aeU cZ)))
structure Bg where
 t0:List aX
 (t3 t5:Int)
 b0:aX
def OW:Td 0 Bg:= .c [] [0,3,4,5] (.r 0 1 (ec 0 (ql 131) (ec 3 aL (ec 4 (qp 0 0) (ec 5 aL en)))) (sb 0 131 (lg 131) sn) (λz=>⟨z.1.1,z.1.2.1,z.1.t.2.1,z.2.1⟩) (λx=>((x.t0,x.t3,(),x.t5,()),(x.b0,()))))
def Kt(p:Bg):af (af Bg):=
 bif J (p.t5<p.t3)then if 0<=p.t5/\p.t5<p.t0.length then bif p.t0[p.t5.toNat]!.fName.toList==p.b0.fName.toList then V (G)else V (V (Bg.mk p.t0 p.t3 (i64.wrap (p.t5+1)) p.b0))else G else V (G)
def DU:=bJ (Kt)
structure Dv where
 t0:List aX
 t3:Int
def QK:Td 0 Dv:= .c [] [0,3] (.r 0 0 (ec 0 (ql 131) (ec 3 aL en)) sn (λz=>⟨z.1.1,z.1.2.1⟩) (λx=>((x.t0,x.t3,()),(()))))
def vU(p:Dv):af (af Dv):=
 bif J (p.t3<p.t0.length)then if 0<=p.t3/\p.t3<p.t0.length then match PG p.t0[p.t3.toNat]!.fName with|G=>G|V r1=>bif bif r1 then S else O then V (G)else match DU (Bg.mk p.t0 p.t3 0 p.t0[p.t3.toNat]!)with|G=>G|V r2=>bif J (r2.t5<r2.t3)then if 0<=r2.t5/\r2.t5<r2.t0.length then bif r2.t0[r2.t5.toNat]!.fName.toList==r2.b0.fName.toList then V (G)else G else G else match bif bif J (r2.b0.bz=0)then S else O then bif bif J (r2.b0.bz=1)then S else O then bif bif J (r2.b0.bz=2)then S else O then V (bif J (r2.b0.bz=3)then S else O)else V S else V S else V S with|G=>G|V r3=>bif r3 then V (G)else bif bif KF r2.b0.ag r2.b0.ah then S else O then V (G)else match bif J (r2.b0.bz=0)then bif J (r2.b0.eO<r2.b0.ag)then V O else bif J (r2.b0.ah<r2.b0.eO)then V O else bif bif J (r2.b0.bz=0)then S else O then V (bif J (r2.b0.eO=0)then S else O)else V S else bif bif J (r2.b0.bz=0)then S else O then V (bif J (r2.b0.eO=0)then S else O)else V S with|G=>G|V r4=>bif r4 then V (G)else V (V (Dv.mk r2.t0 (i64.wrap (r2.t3+1))))else G else V (G)
def XR:An:=(noTwo (.two (noTwo (noTwo (.two (noTwo (OW.lp DU .no)) (.two (.two (.rb [220] 50) .no) (noTwo (.two (.rb [220] 83) .no)))))) .no))
def Ip:=bJ (vU)
abbrev av1:=Int
def d139:Td 0 av1:= .c [] [2] (.r 0 0 (ec 2 aL en) sn (λz=>z.1.1) (λx=>((x,()),(()))))
def aby:∀f∈([220]:aa Nat),bw (aya) f:=(az (W5 (Wm (WB bS))) aF)
def adt(a0:aa aX):af av1:=
 match Ip (Dv.mk a0 0)with|G=>G|V r5=>bif J (r5.t3<r5.t0.length)then if 0<=r5.t3/\r5.t3<r5.t0.length then match PG r5.t0[r5.t3.toNat]!.fName with|G=>G|V r6=>bif bif r6 then S else O then V 7 else match DU (Bg.mk r5.t0 r5.t3 0 r5.t0[r5.t3.toNat]!)with|G=>G|V r7=>bif J (r7.t5<r7.t3)then if 0<=r7.t5/\r7.t5<r7.t0.length then bif r7.t0[r7.t5.toNat]!.fName.toList==r7.b0.fName.toList then V 8 else G else G else match bif bif J (r7.b0.bz=0)then S else O then bif bif J (r7.b0.bz=1)then S else O then bif bif J (r7.b0.bz=2)then S else O then V (bif J (r7.b0.bz=3)then S else O)else V S else V S else V S with|G=>G|V r8=>bif r8 then V 1 else bif bif KF r7.b0.ag r7.b0.ah then S else O then V 3 else match bif J (r7.b0.bz=0)then bif J (r7.b0.eO<r7.b0.ag)then V O else bif J (r7.b0.ah<r7.b0.eO)then V O else bif bif J (r7.b0.bz=0)then S else O then V (bif J (r7.b0.eO=0)then S else O)else V S else bif bif J (r7.b0.bz=0)then S else O then V (bif J (r7.b0.eO=0)then S else O)else V S with|G=>G|V r9=>bif r9 then V 3 else G else G else match match WS r5.t0 1with|G=>G|V r10=>bif J (4096<r10)then V O else match WS r5.t0 2with|G=>G|V r11=>bif J (4096<r11)then V O else match WS r5.t0 3with|G=>G|V r12=>V (J (256<r12))with|G=>G|V r13=>bif r13 then V 4 else V 0
def avH:=eL w9 139 S (lc (ql 131) ln) d139 (λg=>adt g.1)
def ai3:EO avH:=λh=>kL (F:=aya) (an:=(noTwo (.two (noTwo (QK.lp Ip XR)) (.two (.two (.rb [220] 96) .no) .no)))) (l:=[(aW f139 0,(QK.lp Ip XR)),(aW f139 1,(OW.lp DU .no)),(.skip,(.rb [220] 50)),(.skip,(.rb [220] 83)),(.skip,(.rb [220] 96))]) func139 (acG (T6 (U1 aR))) (az (aO QK) (az (aO OW) (az aby (az aby (az aby aF))))) h
def aDv:aZ:=cZ
abbrev aqq:=Int
def d270:Td 0 aqq:= .c [] [2] (.r 0 0 (ec 2 aL en) sn (λz=>z.1.1) (λx=>((x,()),(()))))
def azc:=(bk ln)
def alx:An:= .no
def Gk(a0:Int):aqq:=
 bif J (a0=0)then 0 else bif J (a0=24)then 0 else bif J (a0=6)then 1 else bif J (a0=7)then 1 else bif J (a0=8)then 2 else bif J (a0=9)then 2 else bif J (a0=10)then 2 else bif J (a0=11)then 2 else bif J (a0=12)then 2 else bif J (a0=13)then 2 else bif J (a0=14)then 2 else bif J (a0=15)then 2 else bif J (a0=16)then 2 else bif J (a0=17)then 2 else bif J (a0=18)then 2 else bif J (a0=19)then 2 else bif J (a0=20)then 2 else bif J (a0=21)then 2 else bif J (a0=22)then 2 else bif J (a0=23)then 3 else bif J (a0=25)then-2 else-1
def aDe(a0:Int):bL w9 (aDv) 300 (alx) 270 (azc.c (a0,())) [] 0 d270.rd=V (Gk a0):=by
 refine Eq.trans (b:=(
  bif J (a0=0)then V (0)else bif J (a0=24)then V (0)else bif J (a0=6)then V (1)else bif J (a0=7)then V (1)else bif J (a0=8)then V (2)else bif J (a0=9)then V (2)else bif J (a0=10)then V (2)else bif J (a0=11)then V (2)else bif J (a0=12)then V (2)else bif J (a0=13)then V (2)else bif J (a0=14)then V (2)else bif J (a0=15)then V (2)else bif J (a0=16)then V (2)else bif J (a0=17)then V (2)else bif J (a0=18)then V (2)else bif J (a0=19)then V (2)else bif J (a0=20)then V (2)else bif J (a0=21)then V (2)else bif J (a0=22)then V (2)else bif J (a0=23)then V (3)else bif J (a0=25)then V (-2)else V (-1):af aqq)) (by kernel_rfl) ?_
 simp only[Gk,cM,di]
def avd:=eL w9 270 S azc d270 (λg=>V (Gk g.1))
def acT:EO avd:=λh=>kL (an:=alx) func270 aR aF h (c:=λg=>aDe g.1)
abbrev sg:=Bool
def d221:Td 0 sg:= .c [] [6] (.r 0 0 (ec 6 qb en) sn (λz=>z.1.1) (λx=>((x,()),(()))))
def aq8:=(lc (ql 131) (lc (qg 137) (lc qb ln)))
def aqc(M:(aa aX)->au->Bool->af sg):aZ->aZ:=eL w9 221 S aq8 d221 (λg=>M g.1 g.2.1 g.2.2.1)
def aeT(M:(aa aX)->au->Bool->af sg):Prop:=HL w9 221 aq8 d221 (λg=>M g.1 g.2.1 g.2.2.1)
def Tu{M:(aa aX)->au->Bool->af sg}(hM:aeT M){F:aZ}(h:aQ w9 F):aQ w9 (aqc M F):=cO (sc:=jr) cg hM ⟨_,func221,by kernel_rfl,by kernel_rfl⟩ (λ_=>by kernel_rfl) (λ_=>by kernel_rfl) h
def ahI(M221:(aa aX)->au->Bool->af sg):aZ:=(avd (aqc M221 cZ))
def akb{M221}(h221:aeT M221):aQ w9 (ahI M221):=(acT (Tu h221 aR))
structure vR where
 t0:List aX
 t2:Bool
 t8:Int
 b0:au
def Ph:Td 0 vR:= .c [] [0,2,4,8] (.r 0 1 (ec 0 (ql 131) (ec 2 qb (ec 4 (qp 0 0) (ec 8 aL en)))) (sb 0 137 (lg 137) sn) (λz=>⟨z.1.1,z.1.2.1,z.1.t.2.1,z.2.1⟩) (λx=>((x.t0,x.t2,(),x.t8,()),(x.b0,()))))
def IQ(M221:(aa aX)->au->Bool->af sg)(p:vR):af (af vR):=
 bif J (p.t8<p.b0.aq.length)then if 0<=p.t8/\p.t8<p.b0.aq.length then match M221 p.t0 (au.mk p.b0.aq[p.t8.toNat]!.bF p.b0.aq[p.t8.toNat]!.fN p.b0.aq[p.t8.toNat]!.aq) p.t2 with|G=>G|V r1=>bif bif r1 then S else O then V (G)else V (V (vR.mk p.t0 p.t2 (i64.wrap (p.t8+1)) (au.mk p.b0.bF p.b0.fN p.b0.aq)))else G else V (G)
def DS(M221:(aa aX)->au->Bool->af sg):=bJ (IQ M221)
def ali(M221:(aa aX)->au->Bool->af sg):An:=(noTwo (noTwo (.two (.two (.rb [] 40) .no) (.two (noTwo (.two (.two (.rb [] 65) .no) (.two (.rb [] 73) .no))) (.two (noTwo (Ph.lp (DS M221) .no)) .no)))))
def acd{M221}:∀f∈([]:aa Nat),bw (ahI M221) f:=aF
def ay8(M221:(aa aX)->au->Bool->af sg):cR w9 (ahI M221) 0 300 221 (ali M221):=bA (l:=[(.skip,(.rb [] 40)),(.skip,(.rb [] 65)),(.skip,(.rb [] 73)),(aW f221 0,(Ph.lp (DS M221) .no))]) func221 (aV (by kernel_rfl)) (by kernel_rfl) (az acd (az acd (az acd (az (aO Ph) aF))))
def ajK(M221:(aa aX)->au->Bool->af sg)(a0:aa aX)(a1:au)(a2:Bool):af sg:=
 match bif J (Gk a1.bF= -1)then V O else bif J (0<=Gk a1.bF)then bif bif J (a1.aq.length=Gk a1.bF)then S else O then V O else bif J (Gk a1.bF= -2)then bif J ((a1.aq.length:Int)<2)then V O else V (J (33<(a1.aq.length:Int)))else V S else bif J (Gk a1.bF= -2)then bif J ((a1.aq.length:Int)<2)then V O else V (J (33<(a1.aq.length:Int)))else V S with|G=>G|V r2=>bif r2 then V S else bif J (a1.bF=24)then match bif J (a1.fN<0)then V O else bif J (a0.length<=a1.fN)then V O else bif a2 then if 0<=a1.fN/\a1.fN<a0.length then V (J (a0[a1.fN.toNat]!.bz=0))else G else V S with|G=>G|V r3=>bif r3 then V S else match DS M221 (vR.mk a0 a2 0 (au.mk a1.bF a1.fN a1.aq))with|G=>G|V r4=>bif J (r4.t8<r4.b0.aq.length)then if 0<=r4.t8/\r4.t8<r4.b0.aq.length then match M221 r4.t0 (au.mk r4.b0.aq[r4.t8.toNat]!.bF r4.b0.aq[r4.t8.toNat]!.fN r4.b0.aq[r4.t8.toNat]!.aq) r4.t2 with|G=>G|V r5=>bif bif r5 then S else O then V S else G else G else V O else match bif bif J (a1.bF=0)then S else O then V (bif J (a1.fN=0)then S else O)else V S with|G=>G|V r6=>bif r6 then V S else match DS M221 (vR.mk a0 a2 0 (au.mk a1.bF a1.fN a1.aq))with|G=>G|V r7=>bif J (r7.t8<r7.b0.aq.length)then if 0<=r7.t8/\r7.t8<r7.b0.aq.length then match M221 r7.t0 (au.mk r7.b0.aq[r7.t8.toNat]!.bF r7.b0.aq[r7.t8.toNat]!.fN r7.b0.aq[r7.t8.toNat]!.aq) r7.t2 with|G=>G|V r8=>bif bif r8 then S else O then V S else G else G else V O
def aCP(M221:(aa aX)->au->Bool->af sg)(a0:aa aX)(a1:au)(a2:Bool):bL w9 (ahI M221) 300 (ali M221) 221 (aq8.c (a0,a1,a2,())) [] 0 d221.rd=ajK M221 a0 a1 a2:=by kernel_rfl
def amh:Nat->((aa aX)->au->Bool->af sg)
 |0=>(λ_ _ _=>G)
 |n+1=>(ajK (amh n))
def Qi(n:Nat):(aa aX)->au->Bool->af sg:=(amh n)
def Mh:∀n,aeT (Qi n)
 |0=>λ_ _ h=>(by cases h)
 |n+1=>by
  have ih:=Mh n;have i221:=ih;exact(cF (akb i221) (ay8 (Qi n)) (λ_=>by kernel_rfl) (λ_=>by kernel_rfl) λg=>aCP (Qi n) g.1 g.2.1 g.2.2.1)
def agF:(aa aX)->au->Bool->af sg:=λa0 a1 a2=>lim (λn=>Qi n a0 a1 a2)
def ac2:aeT agF:=λg b h=>by
 obtain⟨n,hn⟩:=dR (show lim (λn=>Qi n g.1 g.2.1 g.2.2.1)=V b from h);exact(Mh n) g b hn
def aDM(F:aZ):aZ:=aqc agF F
def af5{F:aZ}(h:aQ w9 F):aQ w9 (aDM F):=Tu ac2 h
def aDE:aZ:=cZ
abbrev aso:=Int
def d313:Td 0 aso:= .c [] [2] (.r 0 0 (ec 2 aL en) sn (λz=>z.1.1) (λx=>((x,()),(()))))
def axP:=(bk ln)
def amP:An:= .no
def AZ(a0:Int):aso:=
 bif J (a0<0)then i64.wrap (0-a0)else a0
def aC1(a0:Int):bL w9 (aDE) 300 (amP) 313 (axP.c (a0,())) [] 0 d313.rd=V (AZ a0):=by
 refine Eq.trans (b:=(
  bif J (a0<0)then V (i64.wrap (0-a0))else V (a0):af aso)) (by kernel_rfl) ?_
 simp only[AZ,cM,di]
def X4:=eL w9 313 S axP d313 (λg=>V (AZ g.1))
def ahK:EO X4:=λh=>kL (an:=amP) func313 aR aF h (c:=λg=>aC1 g.1)
def aDG:aZ:=(afs (WI cZ))
abbrev aoy:=Int×Int
def d314:Td 0 aoy:= .c [] [4,5] (.r 0 0 (ec 4 aL (ec 5 aL en)) sn (λz=>(z.1.1,z.1.2.1)) (λx=>((x.1,x.2,()),(()))))
def ayP:=(bk (bk ln))
def amQ:An:= .no
def Zm(a0:Int)(a1:Int):aoy:=
 bif J (a0<0)then bif J (0<a1)then(jE (0) (i64.wrap (a0+1)),kB (0) (i64.wrap (a1-1)))else(jE (0) (i64.wrap (a0+1)),0)else bif J (0<a1)then(0,kB (0) (i64.wrap (a1-1)))else(0,0)
def aCG(a0:Int)(a1:Int):bL w9 (aDG) 300 (amQ) 314 (ayP.c (a0,a1,())) [] 0 d314.rd=V (Zm a0 a1):=by
 refine Eq.trans (b:=(
  bif J (a0<0)then bif J (0<a1)then V ((jE (0) (i64.wrap (a0+1)),kB (0) (i64.wrap (a1-1))))else V ((jE (0) (i64.wrap (a0+1)),0))else bif J (0<a1)then V ((0,kB (0) (i64.wrap (a1-1))))else V ((0,0)):af aoy)) (by kernel_rfl) ?_
 simp only[Zm,cM,di]
def aBa:=eL w9 314 S ayP d314 (λg=>V (Zm g.1 g.2.1))
def acE:EO aBa:=λh=>kL (an:=amQ) func314 (HX (Im aR)) aF h (c:=λg=>aCG g.1 g.2.1)
def auS:aZ:=(aBa (X4 (afs (WI cZ))))
structure AU where
 (t2 t3:List Int)
 (t15 t16 t17:Int)
def RR:Td 0 AU:= .c [] [2,3,15,16,17] (.r 0 0 (ec 2 (ql 3) (ec 3 (ql 3) (ec 15 aL (ec 16 aL (ec 17 aL en))))) sn (λz=>⟨z.1.1,z.1.2.1,z.1.t.1,z.1.t.2.1,z.1.q.1⟩) (λx=>((x.t2,x.t3,x.t15,x.t16,x.t17,()),(()))))
def KB(p:AU):af (af AU):=
 bif J (p.t17<p.t2.length)then if 0<=p.t17/\p.t17<p.t2.length then if 0<=p.t17/\p.t17<p.t3.length then V (V (AU.mk p.t2 p.t3 (jE p.t15 p.t2[p.t17.toNat]!) (kB p.t16 p.t3[p.t17.toNat]!) (i64.wrap (p.t17+1))))else G else G else V (G)
def Ei:=bJ (KB)
abbrev awd:=Int×Int
def d271:Td 0 awd:= .c [] [8,9] (.r 0 0 (ec 8 aL (ec 9 aL en)) sn (λz=>(z.1.1,z.1.2.1)) (λx=>((x.1,x.2,()),(()))))
def als:∀f∈([]:aa Nat),bw (auS) f:=aF
def aes(a0:aa aX)(a1:au)(a2:aa Int)(a3:aa Int):af awd:=
 bif J (a1.bF=0)then match bif J (a1.fN< -1048576)then V O else V (J (1048576<a1.fN))with|G=>G|V r1=>bif r1 then V (-1048577,1048577)else V (a1.fN,a1.fN)else bif J (a1.bF=24)then if 0<=a1.fN/\a1.fN<a0.length then if 0<=a1.fN/\a1.fN<a0.length then V (a0[a1.fN.toNat]!.ag,a0[a1.fN.toNat]!.ah)else G else G else bif J (a1.bF=6)then if(0:Int)<=(0:Int)/\(0:Int)<a3.length then if(0:Int)<=(0:Int)/\(0:Int)<a2.length then V ((i64.wrap (0-a3[0]!),i64.wrap (0-a2[0]!)))else G else G else bif J (a1.bF=8)then if(0:Int)<=(0:Int)/\(0:Int)<a2.length then if(0:Int)<=(1:Int)/\(1:Int)<a2.length then if(0:Int)<=(0:Int)/\(0:Int)<a3.length then if(0:Int)<=(1:Int)/\(1:Int)<a3.length then V ((i64.wrap (a2[0]! +a2[1]!),i64.wrap (a3[0]! +a3[1]!)))else G else G else G else G else bif J (a1.bF=9)then if(0:Int)<=(0:Int)/\(0:Int)<a2.length then if(0:Int)<=(1:Int)/\(1:Int)<a3.length then if(0:Int)<=(0:Int)/\(0:Int)<a3.length then if(0:Int)<=(1:Int)/\(1:Int)<a2.length then V ((i64.wrap (a2[0]! -a3[1]!),i64.wrap (a3[0]! -a2[1]!)))else G else G else G else G else bif J (a1.bF=10)then if(0:Int)<=(0:Int)/\(0:Int)<a2.length then if(0:Int)<=(1:Int)/\(1:Int)<a2.length then if(0:Int)<=(0:Int)/\(0:Int)<a2.length then if(0:Int)<=(1:Int)/\(1:Int)<a3.length then if(0:Int)<=(0:Int)/\(0:Int)<a3.length then if(0:Int)<=(1:Int)/\(1:Int)<a2.length then if(0:Int)<=(0:Int)/\(0:Int)<a3.length then if(0:Int)<=(1:Int)/\(1:Int)<a3.length then V ((jE (jE (i64.wrap (a2[0]! *a2[1]!)) (i64.wrap (a2[0]! *a3[1]!))) (jE (i64.wrap (a3[0]! *a2[1]!)) (i64.wrap (a3[0]! *a3[1]!))),kB (kB (i64.wrap (a2[0]! *a2[1]!)) (i64.wrap (a2[0]! *a3[1]!))) (kB (i64.wrap (a3[0]! *a2[1]!)) (i64.wrap (a3[0]! *a3[1]!)))))else G else G else G else G else G else G else G else G else bif J (a1.bF=11)then if(0:Int)<=(0:Int)/\(0:Int)<a2.length then if(0:Int)<=(0:Int)/\(0:Int)<a3.length then match if(0:Int)<=(0:Int)/\(0:Int)<a2.length then bif J (0<=a2[zC 0]!)then if(0:Int)<=(1:Int)/\(1:Int)<a2.length then V (J (0<=a2[zC 1]!))else G else V S else G with|G=>G|V r2=>bif r2 then V ((0,kB (AZ a2[0]!) (AZ a3[0]!)))else V ((i64.wrap (0-kB (AZ a2[0]!) (AZ a3[0]!)),kB (AZ a2[0]!) (AZ a3[0]!)))else G else G else bif J (a1.bF=12)then if(0:Int)<=(1:Int)/\(1:Int)<a2.length then if(0:Int)<=(1:Int)/\(1:Int)<a3.length then V (Zm a2[1]! a3[1]!)else G else G else bif J (a1.bF=21)then if(0:Int)<=(0:Int)/\(0:Int)<a2.length then if(0:Int)<=(1:Int)/\(1:Int)<a2.length then if(0:Int)<=(0:Int)/\(0:Int)<a3.length then if(0:Int)<=(1:Int)/\(1:Int)<a3.length then V (jE a2[0]! a2[1]!,jE a3[0]! a3[1]!)else G else G else G else G else bif J (a1.bF=22)then if(0:Int)<=(0:Int)/\(0:Int)<a2.length then if(0:Int)<=(1:Int)/\(1:Int)<a2.length then if(0:Int)<=(0:Int)/\(0:Int)<a3.length then if(0:Int)<=(1:Int)/\(1:Int)<a3.length then V (kB a2[0]! a2[1]!,kB a3[0]! a3[1]!)else G else G else G else G else bif J (a1.bF=23)then if(0:Int)<=(1:Int)/\(1:Int)<a2.length then if(0:Int)<=(1:Int)/\(1:Int)<a3.length then match Ei (AU.mk a2 a3 a2[1]! a3[1]! (2))with|G=>G|V r3=>bif J (r3.t17<r3.t2.length)then if 0<=r3.t17/\r3.t17<r3.t2.length then if 0<=r3.t17/\r3.t17<r3.t3.length then G else G else G else V (r3.t15,r3.t16)else G else G else bif J (a1.bF=25)then if(0:Int)<=(1:Int)/\(1:Int)<a2.length then if(0:Int)<=(1:Int)/\(1:Int)<a3.length then match Ei (AU.mk a2 a3 a2[1]! a3[1]! (2))with|G=>G|V r4=>bif J (r4.t17<r4.t2.length)then if 0<=r4.t17/\r4.t17<r4.t2.length then if 0<=r4.t17/\r4.t17<r4.t3.length then G else G else G else V (r4.t15,r4.t16)else G else G else V (0,1)
def ayY:=eL w9 271 S (lc (ql 131) (lc (qg 137) (lc (ql 3) (lc (ql 3) ln)))) d271 (λg=>aes g.1 g.2.1 g.t.1 g.t.2.1)
def akq:EO ayY:=λh=>kL (F:=auS) (an:=(noTwo (.two (noTwo (noTwo (.two (.two (.two (.rb [] 29) .no) .no) (noTwo (noTwo (noTwo (noTwo (noTwo (noTwo (noTwo (noTwo (noTwo (noTwo (noTwo (.two (noTwo (.two (.two (.rb [] 154) .no) .no)) (noTwo (noTwo (noTwo (noTwo (noTwo (noTwo (noTwo (.two (noTwo (.two (noTwo (RR.lp Ei .no)) .no)) .no))))))))))))))))))))))) .no))) (l:=[(.skip,(.rb [] 29)),(.skip,(.rb [] 154)),(aW f271 0,(RR.lp Ei .no))]) func271 (acE (ahK (HX (Im aR)))) (az als (az als (az (aO RR) aF))) h
abbrev si:=Int×Int×Bool
def d222:Td 0 si:= .c [] [4,5,6] (.r 0 0 (ec 4 aL (ec 5 aL (ec 6 qb en))) sn (λz=>(z.1.1,z.1.2.1,z.1.t.1)) (λx=>((x.1,x.2.1,x.t,()),(()))))
def ati:=(lc (ql 131) (lc (qg 137) ln))
def aov(M:(aa aX)->au->af si):aZ->aZ:=eL w9 222 S ati d222 (λg=>M g.1 g.2.1)
def ajV(M:(aa aX)->au->af si):Prop:=HL w9 222 ati d222 (λg=>M g.1 g.2.1)
def T3{M:(aa aX)->au->af si}(hM:ajV M){F:aZ}(h:aQ w9 F):aQ w9 (aov M F):=cO (sc:=jr) cg hM ⟨_,func222,by kernel_rfl,by kernel_rfl⟩ (λ_=>by kernel_rfl) (λ_=>by kernel_rfl) h
def asT(M222:(aa aX)->au->af si):aZ:=(ayY (aov M222 cZ))
def ac5{M222}(h222:ajV M222):aQ w9 (asT M222):=(akq (T3 h222 aR))
structure Ec where
 t0:List aX
 (t7 t8:List Int)
 t9:Int
 b0:au
def P7:Td 0 Ec:= .c [] [0,3,7,8,9] (.r 0 3 (ec 0 (ql 131) (ec 3 (qp 0 0) (ec 7 (qo 1) (ec 8 (qo 2) (ec 9 aL en))))) (sb 0 137 (lg 137) (sr 1 3 (sr 2 3 sn))) (λz=>⟨z.1.1,z.t.1,z.t.2.1,z.1.q.1,z.2.1⟩) (λx=>((x.t0,(),(),(),x.t9,()),(x.b0,x.t7,x.t8,()))))
def DV(M222:(aa aX)->au->af si)(p:Ec):af (af Ec):=
 bif J (p.t9<p.b0.aq.length)then if 0<=p.t9/\p.t9<p.b0.aq.length then match M222 p.t0 (au.mk p.b0.aq[p.t9.toNat]!.bF p.b0.aq[p.t9.toNat]!.fN p.b0.aq[p.t9.toNat]!.aq)with|G=>G|V r1=>bif bif r1.snd.snd then S else O then V (G)else if(p.t7++[r1.fst]).length<=1073741824 then if(p.t8++[r1.snd.fst]).length<=1073741824 then V (V (Ec.mk p.t0 (p.t7++[r1.fst]) (p.t8++[r1.snd.fst]) (i64.wrap (p.t9+1)) (au.mk p.b0.bF p.b0.fN p.b0.aq)))else G else G else G else V (G)
def J2(M222:(aa aX)->au->af si):=bJ (DV M222)
def alb(M222:(aa aX)->au->af si):An:=(noTwo (noTwo (noTwo (.two (noTwo (P7.lp (J2 M222) .no)) .no))))
def ayb(M222:(aa aX)->au->af si):cR w9 (asT M222) 0 300 222 (alb M222):=bA (l:=[(aW f222 0,(P7.lp (J2 M222) .no))]) func222 (aV (by kernel_rfl)) (by kernel_rfl) (az (aO P7) aF)
def aii(M222:(aa aX)->au->af si)(a0:aa aX)(a1:au):af si:=
 match J2 M222 (Ec.mk a0 [] [] (0) (au.mk a1.bF a1.fN a1.aq))with|G=>G|V r2=>bif J (r2.t9<r2.b0.aq.length)then if 0<=r2.t9/\r2.t9<r2.b0.aq.length then match M222 r2.t0 (au.mk r2.b0.aq[r2.t9.toNat]!.bF r2.b0.aq[r2.t9.toNat]!.fN r2.b0.aq[r2.t9.toNat]!.aq)with|G=>G|V r3=>bif bif r3.snd.snd then S else O then V (0,0,S)else if(r2.t7++[r3.fst]).length<=1073741824 then if(r2.t8++[r3.snd.fst]).length<=1073741824 then G else G else G else G else match aes r2.t0 (au.mk r2.b0.bF r2.b0.fN r2.b0.aq) r2.t7 r2.t8 with|G=>G|V r4=>bif J (-1048576<=r4.fst)then V ((r4.fst,r4.snd,J (r4.snd<=1048576)))else V (r4.fst,r4.snd,S)
def aFU(M222:(aa aX)->au->af si)(a0:aa aX)(a1:au):bL w9 (asT M222) 300 (alb M222) 222 (ati.c (a0,a1,())) [] 0 d222.rd=aii M222 a0 a1:=by kernel_rfl
def amO:Nat->((aa aX)->au->af si)
 |0=>(λ_ _=>G)
 |n+1=>(aii (amO n))
def Qd(n:Nat):(aa aX)->au->af si:=(amO n)
def N2:∀n,ajV (Qd n)
 |0=>λ_ _ h=>(by cases h)
 |n+1=>by
  have ih:=N2 n;have i222:=ih;exact(cF (ac5 i222) (ayb (Qd n)) (λ_=>by kernel_rfl) (λ_=>by kernel_rfl) λg=>aFU (Qd n) g.1 g.2.1)
def ae6:(aa aX)->au->af si:=λa0 a1=>lim (λn=>Qd n a0 a1)
def afv:ajV ae6:=λg b h=>by
 obtain⟨n,hn⟩:=dR (show lim (λn=>Qd n g.1 g.2.1)=V b from h);exact(N2 n) g b hn
def aDs(F:aZ):aZ:=aov ae6 F
def ahn{F:aZ}(h:aQ w9 F):aQ w9 (aDs F):=T3 afv h
abbrev avp:=Int
def d142:Td 0 avp:= .c [] [6] (.r 0 0 (ec 6 aL en) sn (λz=>z.1.1) (λx=>((x,()),(()))))
def Ju(a0:aa aX)(a1:au)(a2:Bool):af avp:=
 match agF a0 (au.mk a1.bF a1.fN a1.aq) a2 with|G=>G|V r1=>bif bif r1 then S else O then V (1)else match ae6 a0 (au.mk a1.bF a1.fN a1.aq)with|G=>G|V r2=>bif bif r2.snd.snd then S else O then V (3)else V (0)
def agG:=eL w9 142 S (lc (ql 131) (lc (qg 137) (lc qb ln))) d142 (λg=>Ju g.1 g.2.1 g.t.1)
def Uu:EO agG:=λh=>kL (an:= .no) func142 (ahn (af5 aR)) aF h
def WY:EP agG:=λh=>kP h
def arp:aZ:=cZ
abbrev ap1:=Bool
def d272:Td 0 ap1:= .c [] [2] (.r 0 0 (ec 2 qb en) sn (λz=>z.1.1) (λx=>((x,()),(()))))
def auR:=(lc (qg 137) ln)
def amL:An:=(noTwo (.two (.rb [] 2) .no))
def awJ:∀f∈([]:aa Nat),bw (arp) f:=aF
def Ox(a0:au):ap1:=
 let r1:Bool:=bif J (a0.bF=0)then bif J (a0.fN=0)then J ((a0.aq.length:Int)=0)else S else S;r1
def aDh(a0:au):bL w9 (arp) 300 (amL) 272 (auR.c (a0,())) [] 0 d272.rd=V (Ox a0):=by
 refine Eq.trans (b:=(
  match bif J (a0.bF=0)then bif J (a0.fN=0)then V (J ((a0.aq.length:Int)=0))else V (S)else V (S)with|G=>G|V r1=>V (r1):af ap1)) (by kernel_rfl) ?_
 simp only[Ox,cM,di]
def aqP:=eL w9 272 S auR d272 (λg=>V (Ox g.1))
def ajj:EO aqP:=λh=>kL (F:=arp) (an:=amL) (l:=[(.skip,(.rb [] 2))]) func272 aR (az awJ aF) h (c:=λg=>aDh g.1)
def GL:EP aqP:=λh=>kP h
def ay6:aZ:=cZ
structure FC where
 t0:List Int
 t3:Int
def OZ:Td 0 FC:= .c [] [0,3] (.r 0 0 (ec 0 (ql 3) (ec 3 aL en)) sn (λz=>⟨z.1.1,z.1.2.1⟩) (λx=>((x.t0,x.t3,()),(()))))
def JA(p:FC):af (af FC):=
 bif J (p.t3<p.t0.length)then if 0<=p.t3/\p.t3<p.t0.length then if 0<=i64.wrap (p.t3-1)/\i64.wrap (p.t3-1)<p.t0.length then bif J (((p.t0,p.t3,()),()).fst.fst[((p.t0,p.t3,()),()).fst.snd.fst.toNat]!<=((p.t0,p.t3,()),()).fst.fst[(i64.wrap (((p.t0,p.t3,()),()).fst.snd.fst-1)).toNat]!)then V (G)else V (V (FC.mk p.t0 (i64.wrap (p.t3+1))))else G else G else V (G)
def J8:=bJ (JA)
abbrev aAF:=Bool
def d273:Td 0 aAF:= .c [] [2] (.r 0 0 (ec 2 qb en) sn (λz=>z.1.1) (λx=>((x,()),(()))))
def at9:∀f∈([]:aa Nat),bw (ay6) f:=aF
def afd(a0:aa Int):af aAF:=
 match bif J ((a0.length:Int)<1)then V O else bif J (32<(a0.length:Int))then V O else if(0:Int)<=(0:Int)/\(0:Int)<a0.length then V (J (a0[zC 0]! <0))else G with|G=>G|V r1=>bif r1 then V S else match J8 (FC.mk a0 1)with|G=>G|V r2=>bif J (r2.t3<r2.t0.length)then if 0<=r2.t3/\r2.t3<r2.t0.length then if 0<=i64.wrap (r2.t3-1)/\i64.wrap (r2.t3-1)<r2.t0.length then bif J (((r2.t0,r2.t3,()),()).fst.fst[((r2.t0,r2.t3,()),()).fst.snd.fst.toNat]!<=((r2.t0,r2.t3,()),()).fst.fst[(i64.wrap (((r2.t0,r2.t3,()),()).fst.snd.fst-1)).toNat]!)then V S else G else G else G else V O
def asy:=eL w9 273 S (lc (ql 3) ln) d273 (λg=>afd g.1)
def adC:EO asy:=λh=>kL (F:=ay6) (an:=(noTwo (.two (.two (.rb [] 17) .no) (.two (noTwo (OZ.lp J8 .no)) .no)))) (l:=[(.skip,(.rb [] 17)),(aW f273 0,(OZ.lp J8 .no))]) func273 aR (az at9 (az (aO OZ) aF)) h
def GO:EP asy:=λh=>kP h
def azK:aZ:=(asy (aqP cZ))
abbrev aBo:=Bool
def d223:Td 0 aBo:= .c [] [6] (.r 0 0 (ec 6 qb en) sn (λz=>z.1.1) (λx=>((x,()),(()))))
def uu:∀f∈([272,273]:aa Nat),bw (azK) f:=(az (GO (GL bS)) (az (GO (GL bS)) aF))
def RY(a0:aN)(a1:ay)(a2:Bool):af aBo:=
 match bif J ((a1.aM.length:Int)=0)then V (J ((a1.aS.length:Int)=0))else V S with|G=>G|V r1=>match bif J (0<=a1.dG)then bif J (a1.dG<a0.ai.length)then if 0<=a1.dG/\a1.dG<a0.ai.length then V (J (a0.ai[a1.dG.toNat]!.bz=0))else G else V S else V S with|G=>G|V r2=>bif J (a1.cn=0)then match bif r1 then bif r2 then bif J (a1.fN=0)then V (J ((a1.aJ.length:Int)=0))else V S else V S else V S with|G=>G|V r3=>V (r3)else bif J (a1.cn=1)then match bif r1 then bif J (a1.dG=0)then bif J (a1.fN=0)then V (J ((a1.aJ.length:Int)=0))else V S else V S else V S with|G=>G|V r4=>V (r4)else bif J (a1.cn=2)then match bif r1 then bif J (a1.dG=0)then bif J (a1.fN=0)then bif J ((a1.aJ.length:Int)=0)then V (Ox (au.mk a1.aA.bF a1.aA.fN a1.aA.aq))else V S else V S else V S else V S with|G=>G|V r5=>V (r5)else bif J (a1.cn=3)then match bif J (a1.dG=0)then bif J (a1.fN=0)then V (J ((a1.aJ.length:Int)=0))else V S else V S with|G=>G|V r6=>V (r6)else bif J (a1.cn=4)then match bif J (a1.dG=0)then bif J ((a1.aS.length:Int)=0)then V (J ((a1.aJ.length:Int)=0))else V S else V S with|G=>G|V r7=>V (r7)else bif J (a1.cn=5)then match bif r1 then bif r2 then bif J (0<=a1.fN)then bif J (a1.fN<a0.ak.length)then bif J ((a1.aJ.length:Int)=0)then V (Ox (au.mk a1.aA.bF a1.aA.fN a1.aA.aq))else V S else V S else V S else V S else V S with|G=>G|V r8=>V (r8)else bif J (a1.cn=6)then match bif r1 then bif a2 then bif J (a1.dG=0)then bif J (a1.fN=0)then bif Ox (au.mk a1.aA.bF a1.aA.fN a1.aA.aq)then match afd a1.aJ with|G=>G|V r9=>V (r9)else V S else V S else V S else V S else V S with|G=>G|V r10=>V (r10)else V S
def ar6:=eL w9 223 S (lc (qg 26) (lc (qg 166) (lc qb ln))) d223 (λg=>RY g.1 g.2.1 g.t.1)
def ahE:EO ar6:=λh=>kL (F:=azK) (an:=(noTwo (.two (.rb [272,273] 7) (.two (.rb [272,273] 8) (.two (noTwo (noTwo (.two (.two (.rb [272,273] 6) .no) (noTwo (.two (.two (.rb [272,273] 6) .no) (noTwo (.two (.two (.rb [272,273] 6) .no) (noTwo (.two (.two (.rb [272,273] 6) .no) (noTwo (.two (.two (.rb [272,273] 6) .no) (noTwo (.two (.two (.rb [272,273] 6) .no) (noTwo (.two (.two (.rb [272,273] 6) .no) .no))))))))))))))) .no))))) (l:=[(.skip,(.rb [272,273] 7)),(.skip,(.rb [272,273] 8)),(.skip,(.rb [272,273] 6)),(.skip,(.rb [272,273] 6)),(.skip,(.rb [272,273] 6)),(.skip,(.rb [272,273] 6)),(.skip,(.rb [272,273] 6)),(.skip,(.rb [272,273] 6)),(.skip,(.rb [272,273] 6))]) func223 (adC (ajj aR)) (az uu (az uu (az uu (az uu (az uu (az uu (az uu (az uu (az uu aF))))))))) h
def WD:EP ar6:=λh=>kP h
abbrev oB:=Int
def d143:Td 0 oB:= .c [] [6] (.r 0 0 (ec 6 aL en) sn (λz=>z.1.1) (λx=>((x,()),(()))))
def anX:=(lc (qg 26) (lc (ql 166) (lc qb ln)))
def agu(M:aN->(aa ay)->Bool->af oB):aZ->aZ:=eL w9 143 S anX d143 (λg=>M g.1 g.2.1 g.2.2.1)
def VX{M:aN->(aa ay)->Bool->af oB}{F:aZ}{f:Nat}(h:bw F f):bw (agu M F) f:=eC h (λ_=>by kernel_rfl)
def akK(M:aN->(aa ay)->Bool->af oB):Prop:=HL w9 143 anX d143 (λg=>M g.1 g.2.1 g.2.2.1)
def Ub{M:aN->(aa ay)->Bool->af oB}(hM:akK M){F:aZ}(h:aQ w9 F):aQ w9 (agu M F):=cO (sc:=jr) cg hM ⟨_,func143,by kernel_rfl,by kernel_rfl⟩ (λ_=>by kernel_rfl) (λ_=>by kernel_rfl) h
def adp(M143:aN->(aa ay)->Bool->af oB):aZ:=(ar6 (agu M143 (agG cZ)))
def af4{M143}(h143:akK M143):aQ w9 (adp M143):=(ahE (Ub h143 (Uu aR)))
structure Aq where
 t1:List ay
 t2:Bool
 t7:Int
 b0:aN
def PK:Td 0 Aq:= .c [] [1,2,3,7] (.r 0 1 (ec 1 (ql 166) (ec 2 qb (ec 3 (qp 0 0) (ec 7 aL en)))) (sb 0 26 (lg 26) sn) (λz=>⟨z.1.1,z.1.2.1,z.1.t.2.1,z.2.1⟩) (λx=>((x.t1,x.t2,(),x.t7,()),(x.b0,()))))
def AI(M143:aN->(aa ay)->Bool->af oB)(p:Aq):af (af Aq):=
 bif J (p.t7<p.t1.length)then if 0<=p.t7/\p.t7<p.t1.length then match bif p.t2 then match RY p.b0 (ay.mk p.t1[p.t7.toNat]!.cn p.t1[p.t7.toNat]!.bq p.t1[p.t7.toNat]!.dG p.t1[p.t7.toNat]!.fN (au.mk p.t1[p.t7.toNat]!.aA.bF p.t1[p.t7.toNat]!.aA.fN p.t1[p.t7.toNat]!.aA.aq) p.t1[p.t7.toNat]!.aM p.t1[p.t7.toNat]!.aS p.t1[p.t7.toNat]!.aJ) (J (((p.t1,p.t2,(),p.t7,()),p.b0,()).fst.snd.snd.snd.fst=i64.wrap ((↑((p.t1,p.t2,(),p.t7,()),p.b0,()).fst.fst.length:Int)-1)))with|G=>G|V r1=>V (bif r1 then S else O)else match RY p.b0 (ay.mk p.t1[p.t7.toNat]!.cn p.t1[p.t7.toNat]!.bq p.t1[p.t7.toNat]!.dG p.t1[p.t7.toNat]!.fN (au.mk p.t1[p.t7.toNat]!.aA.bF p.t1[p.t7.toNat]!.aA.fN p.t1[p.t7.toNat]!.aA.aq) p.t1[p.t7.toNat]!.aM p.t1[p.t7.toNat]!.aS p.t1[p.t7.toNat]!.aJ) S with|G=>G|V r2=>V (bif r2 then S else O)with|G=>G|V r3=>bif r3 then V (G)else bif J (p.t1[p.t7.toNat]!.cn=2)then match bif J (p.t1[p.t7.toNat]!.bq<0)then V O else bif J (67108864<p.t1[p.t7.toNat]!.bq)then V O else bif J (p.t1[p.t7.toNat]!.fN<0)then V O else bif J (p.t1[p.t7.toNat]!.cn=4)then V (J (4096<p.t1[p.t7.toNat]!.fN))else V S with|G=>G|V r4=>bif r4 then V (G)else match bif J (0<(↑p.t1[p.t7.toNat]!.aJ.length:Int))then if 0<=i64.wrap ((↑p.t1[p.t7.toNat]!.aJ.length:Int)-(1:Int))/\i64.wrap ((↑p.t1[p.t7.toNat]!.aJ.length:Int)-(1:Int))<(↑p.t1[p.t7.toNat]!.aJ.length:Int)then V (J (67108864<((p.t1,p.t2,(),p.t7,()),p.b0,()).fst.fst[((p.t1,p.t2,(),p.t7,()),p.b0,()).fst.snd.snd.snd.fst.toNat]!.aJ[(i64.wrap ((↑((p.t1,p.t2,(),p.t7,()),p.b0,()).fst.fst[((p.t1,p.t2,(),p.t7,()),p.b0,()).fst.snd.snd.snd.fst.toNat]!.aJ.length:Int)-1)).toNat]!))else G else V S with|G=>G|V r5=>bif r5 then V (G)else match Ju p.b0.ai (au.mk p.t1[p.t7.toNat]!.aA.bF p.t1[p.t7.toNat]!.aA.fN p.t1[p.t7.toNat]!.aA.aq) S with|G=>G|V r6=>bif bif J (r6=0)then S else O then V (G)else match M143 p.b0 p.t1[p.t7.toNat]!.aM S with|G=>G|V r7=>bif bif J (r7=0)then S else O then V (G)else match M143 p.b0 p.t1[p.t7.toNat]!.aS S with|G=>G|V r8=>bif bif J (r8=0)then S else O then V (G)else V (V (Aq.mk p.t1 p.t2 (i64.wrap (p.t7+1)) p.b0))else match bif J (p.t1[p.t7.toNat]!.bq<0)then V O else bif J (10000<p.t1[p.t7.toNat]!.bq)then V O else bif J (p.t1[p.t7.toNat]!.fN<0)then V O else bif J (p.t1[p.t7.toNat]!.cn=4)then V (J (4096<p.t1[p.t7.toNat]!.fN))else V S with|G=>G|V r9=>bif r9 then V (G)else match bif J (0<(↑p.t1[p.t7.toNat]!.aJ.length:Int))then if 0<=i64.wrap ((↑p.t1[p.t7.toNat]!.aJ.length:Int)-(1:Int))/\i64.wrap ((↑p.t1[p.t7.toNat]!.aJ.length:Int)-(1:Int))<(↑p.t1[p.t7.toNat]!.aJ.length:Int)then V (J (67108864<((p.t1,p.t2,(),p.t7,()),p.b0,()).fst.fst[((p.t1,p.t2,(),p.t7,()),p.b0,()).fst.snd.snd.snd.fst.toNat]!.aJ[(i64.wrap ((↑((p.t1,p.t2,(),p.t7,()),p.b0,()).fst.fst[((p.t1,p.t2,(),p.t7,()),p.b0,()).fst.snd.snd.snd.fst.toNat]!.aJ.length:Int)-1)).toNat]!))else G else V S with|G=>G|V r10=>bif r10 then V (G)else match Ju p.b0.ai (au.mk p.t1[p.t7.toNat]!.aA.bF p.t1[p.t7.toNat]!.aA.fN p.t1[p.t7.toNat]!.aA.aq) S with|G=>G|V r11=>bif bif J (r11=0)then S else O then V (G)else match M143 p.b0 p.t1[p.t7.toNat]!.aM S with|G=>G|V r12=>bif bif J (r12=0)then S else O then V (G)else match M143 p.b0 p.t1[p.t7.toNat]!.aS S with|G=>G|V r13=>bif bif J (r13=0)then S else O then V (G)else V (V (Aq.mk p.t1 p.t2 (i64.wrap (p.t7+1)) p.b0))else G else V (G)
def abE(M143:aN->(aa ay)->Bool->af oB):An:=(noTwo (.two (noTwo (.two (.two (.rb [223] 32) .no) (noTwo (noTwo (.two (.two (.rb [223] 59) .no) (.two (.two (.rb [223] 74) .no) .no)))))) .no))
def KD(M143:aN->(aa ay)->Bool->af oB):=bJ (AI M143)
def am3(M143:aN->(aa ay)->Bool->af oB):An:=(noTwo (.two (noTwo (PK.lp (KD M143) (abE M143))) .no))
def Zk{M143}:∀f∈([223]:aa Nat),bw (adp M143) f:=(az (WD (VX (WY bS))) aF)
def aul(M143:aN->(aa ay)->Bool->af oB):cR w9 (adp M143) 0 300 143 (am3 M143):=bA (l:=[(aW f143 0,(PK.lp (KD M143) (abE M143))),(.skip,(.rb [223] 32)),(.skip,(.rb [223] 59)),(.skip,(.rb [223] 74))]) func143 (aV (by kernel_rfl)) (by kernel_rfl) (az (aO PK) (az Zk (az Zk (az Zk aF))))
def aiV(M143:aN->(aa ay)->Bool->af oB)(a0:aN)(a1:aa ay)(a2:Bool):af oB:=
 match KD M143 (Aq.mk a1 a2 0 a0)with|G=>G|V r14=>bif J (r14.t7<r14.t1.length)then if 0<=r14.t7/\r14.t7<r14.t1.length then match bif r14.t2 then match RY r14.b0 (ay.mk r14.t1[r14.t7.toNat]!.cn r14.t1[r14.t7.toNat]!.bq r14.t1[r14.t7.toNat]!.dG r14.t1[r14.t7.toNat]!.fN (au.mk r14.t1[r14.t7.toNat]!.aA.bF r14.t1[r14.t7.toNat]!.aA.fN r14.t1[r14.t7.toNat]!.aA.aq) r14.t1[r14.t7.toNat]!.aM r14.t1[r14.t7.toNat]!.aS r14.t1[r14.t7.toNat]!.aJ) (J (((r14.t1,r14.t2,(),r14.t7,()),r14.b0,()).fst.snd.snd.snd.fst=i64.wrap ((↑((r14.t1,r14.t2,(),r14.t7,()),r14.b0,()).fst.fst.length:Int)-1)))with|G=>G|V r15=>V (bif r15 then S else O)else match RY r14.b0 (ay.mk r14.t1[r14.t7.toNat]!.cn r14.t1[r14.t7.toNat]!.bq r14.t1[r14.t7.toNat]!.dG r14.t1[r14.t7.toNat]!.fN (au.mk r14.t1[r14.t7.toNat]!.aA.bF r14.t1[r14.t7.toNat]!.aA.fN r14.t1[r14.t7.toNat]!.aA.aq) r14.t1[r14.t7.toNat]!.aM r14.t1[r14.t7.toNat]!.aS r14.t1[r14.t7.toNat]!.aJ) S with|G=>G|V r16=>V (bif r16 then S else O)with|G=>G|V r17=>bif r17 then V 1 else bif J (r14.t1[r14.t7.toNat]!.cn=2)then match bif J (r14.t1[r14.t7.toNat]!.bq<0)then V O else bif J (67108864<r14.t1[r14.t7.toNat]!.bq)then V O else bif J (r14.t1[r14.t7.toNat]!.fN<0)then V O else bif J (r14.t1[r14.t7.toNat]!.cn=4)then V (J (4096<r14.t1[r14.t7.toNat]!.fN))else V S with|G=>G|V r18=>bif r18 then V 3 else match bif J (0<(↑r14.t1[r14.t7.toNat]!.aJ.length:Int))then if 0<=i64.wrap ((↑r14.t1[r14.t7.toNat]!.aJ.length:Int)-(1:Int))/\i64.wrap ((↑r14.t1[r14.t7.toNat]!.aJ.length:Int)-(1:Int))<(↑r14.t1[r14.t7.toNat]!.aJ.length:Int)then V (J (67108864<((r14.t1,r14.t2,(),r14.t7,()),r14.b0,()).fst.fst[((r14.t1,r14.t2,(),r14.t7,()),r14.b0,()).fst.snd.snd.snd.fst.toNat]!.aJ[(i64.wrap ((↑((r14.t1,r14.t2,(),r14.t7,()),r14.b0,()).fst.fst[((r14.t1,r14.t2,(),r14.t7,()),r14.b0,()).fst.snd.snd.snd.fst.toNat]!.aJ.length:Int)-1)).toNat]!))else G else V S with|G=>G|V r19=>bif r19 then V 3 else match Ju r14.b0.ai (au.mk r14.t1[r14.t7.toNat]!.aA.bF r14.t1[r14.t7.toNat]!.aA.fN r14.t1[r14.t7.toNat]!.aA.aq) S with|G=>G|V r20=>bif bif J (r20=0)then S else O then V (r20)else match M143 r14.b0 r14.t1[r14.t7.toNat]!.aM S with|G=>G|V r21=>bif bif J (r21=0)then S else O then V (r21)else match M143 r14.b0 r14.t1[r14.t7.toNat]!.aS S with|G=>G|V r22=>bif bif J (r22=0)then S else O then V (r22)else G else match bif J (r14.t1[r14.t7.toNat]!.bq<0)then V O else bif J (10000<r14.t1[r14.t7.toNat]!.bq)then V O else bif J (r14.t1[r14.t7.toNat]!.fN<0)then V O else bif J (r14.t1[r14.t7.toNat]!.cn=4)then V (J (4096<r14.t1[r14.t7.toNat]!.fN))else V S with|G=>G|V r23=>bif r23 then V 3 else match bif J (0<(↑r14.t1[r14.t7.toNat]!.aJ.length:Int))then if 0<=i64.wrap ((↑r14.t1[r14.t7.toNat]!.aJ.length:Int)-(1:Int))/\i64.wrap ((↑r14.t1[r14.t7.toNat]!.aJ.length:Int)-(1:Int))<(↑r14.t1[r14.t7.toNat]!.aJ.length:Int)then V (J (67108864<((r14.t1,r14.t2,(),r14.t7,()),r14.b0,()).fst.fst[((r14.t1,r14.t2,(),r14.t7,()),r14.b0,()).fst.snd.snd.snd.fst.toNat]!.aJ[(i64.wrap ((↑((r14.t1,r14.t2,(),r14.t7,()),r14.b0,()).fst.fst[((r14.t1,r14.t2,(),r14.t7,()),r14.b0,()).fst.snd.snd.snd.fst.toNat]!.aJ.length:Int)-1)).toNat]!))else G else V S with|G=>G|V r24=>bif r24 then V 3 else match Ju r14.b0.ai (au.mk r14.t1[r14.t7.toNat]!.aA.bF r14.t1[r14.t7.toNat]!.aA.fN r14.t1[r14.t7.toNat]!.aA.aq) S with|G=>G|V r25=>bif bif J (r25=0)then S else O then V (r25)else match M143 r14.b0 r14.t1[r14.t7.toNat]!.aM S with|G=>G|V r26=>bif bif J (r26=0)then S else O then V (r26)else match M143 r14.b0 r14.t1[r14.t7.toNat]!.aS S with|G=>G|V r27=>bif bif J (r27=0)then S else O then V (r27)else G else G else V 0
def aFZ(M143:aN->(aa ay)->Bool->af oB)(a0:aN)(a1:aa ay)(a2:Bool):bL w9 (adp M143) 300 (am3 M143) 143 (anX.c (a0,a1,a2,())) [] 0 d143.rd=aiV M143 a0 a1 a2:=by kernel_rfl
def amm:Nat->(aN->(aa ay)->Bool->af oB)
 |0=>(λ_ _ _=>G)
 |n+1=>(aiV (amm n))
def R5(n:Nat):aN->(aa ay)->Bool->af oB:=(amm n)
def Lp:∀n,akK (R5 n)
 |0=>λ_ _ h=>(by cases h)
 |n+1=>by
  have ih:=Lp n;have i143:=ih;exact(cF (af4 i143) (aul (R5 n)) (λ_=>by kernel_rfl) (λ_=>by kernel_rfl) λg=>aFZ (R5 n) g.1 g.2.1 g.2.2.1)
def afX:aN->(aa ay)->Bool->af oB:=λa0 a1 a2=>lim (λn=>R5 n a0 a1 a2)
def ahe:akK afX:=λg b h=>by
 obtain⟨n,hn⟩:=dR (show lim (λn=>R5 n g.1 g.2.1 g.2.2.1)=V b from h);exact(Lp n) g b hn
def auW(F:aZ):aZ:=agu afX F
def ajl{F:aZ}(h:aQ w9 F):aQ w9 (auW F):=Ub ahe h
def F78:aZ:=(auW (agG (aej (aeU (avH (aBc (e90 cZ)))))))
structure HN where
 (t4 t6:Int)
 b0:aN
 b1:dB
def aaM:Td 0 HN:= .c [] [1,4,5,6] (.r 0 2 (ec 1 (qp 0 0) (ec 4 aL (ec 5 (qp 1 0) (ec 6 aL en)))) (sb 0 26 (lg 26) (sb 1 139 (lg 139) sn)) (λz=>⟨z.1.2.1,z.1.t.2.1,z.2.1,z.t.1⟩) (λx=>(((),x.t4,(),x.t6,()),(x.b0,x.b1,()))))
def TX(p:HN):af (af HN):=
 bif J (p.t6<p.t4)then if 0<=p.t6/\p.t6<p.b0.ak.length then bif p.b0.ak[p.t6.toNat]!.fName.toList==p.b1.fName.toList then V (G)else V (V (HN.mk p.t4 (i64.wrap (p.t6+1)) p.b0 (dB.mk p.b1.fName p.b1.ag p.b1.ah (au.mk p.b1.aA.bF p.b1.aA.fN p.b1.aA.aq))))else G else V (G)
def MS:=bJ (TX)
structure Mn where
 t4:Int
 b0:aN
def abA:Td 0 Mn:= .c [] [1,4] (.r 0 1 (ec 1 (qp 0 0) (ec 4 aL en)) (sb 0 26 (lg 26) sn) (λz=>⟨z.1.2.1,z.2.1⟩) (λx=>(((),x.t4,()),(x.b0,()))))
def HM(p:Mn):af (af Mn):=
 bif J (p.t4<p.b0.ak.length)then if 0<=p.t4/\p.t4<p.b0.ak.length then match PG p.b0.ak[p.t4.toNat]!.fName with|G=>G|V r1=>bif bif r1 then S else O then V (G)else match MS (HN.mk p.t4 0 p.b0 (dB.mk p.b0.ak[p.t4.toNat]!.fName p.b0.ak[p.t4.toNat]!.ag p.b0.ak[p.t4.toNat]!.ah (au.mk p.b0.ak[p.t4.toNat]!.aA.bF p.b0.ak[p.t4.toNat]!.aA.fN p.b0.ak[p.t4.toNat]!.aA.aq)))with|G=>G|V r2=>bif J (r2.t6<r2.t4)then if 0<=r2.t6/\r2.t6<r2.b0.ak.length then bif r2.b0.ak[r2.t6.toNat]!.fName.toList==r2.b1.fName.toList then V (G)else G else G else bif bif KF r2.b1.ag r2.b1.ah then S else O then V (G)else match Ju r2.b0.ai (au.mk r2.b1.aA.bF r2.b1.aA.fN r2.b1.aA.aq) O with|G=>G|V r3=>bif bif J (r3=0)then S else O then V (G)else V (V (Mn.mk (i64.wrap (r2.t4+1)) r2.b0))else G else V (G)
def alj:An:=(noTwo (.two (noTwo (noTwo (.two (noTwo (aaM.lp MS .no)) .no))) .no))
def SI:=bJ (HM)
abbrev E78:=Int
def d78:Td 0 E78:= .c [] [2] (.r 0 0 (ec 2 aL en) sn (λz=>z.1.1) (λx=>((x,()),(()))))
def aCE:∀f∈([]:aa Nat),bw (F78) f:=aF
def m78(a0:aN):af E78:=
 match aeN a0 with|G=>G|V r4=>bif bif r4 then S else O then V 4 else match adt a0.ai with|G=>G|V r5=>bif bif J (r5=0)then S else O then V (r5)else match SI (Mn.mk 0 a0)with|G=>G|V r6=>bif J (r6.t4<r6.b0.ak.length)then if 0<=r6.t4/\r6.t4<r6.b0.ak.length then match PG r6.b0.ak[r6.t4.toNat]!.fName with|G=>G|V r7=>bif bif r7 then S else O then V 7 else match MS (HN.mk r6.t4 0 r6.b0 (dB.mk r6.b0.ak[r6.t4.toNat]!.fName r6.b0.ak[r6.t4.toNat]!.ag r6.b0.ak[r6.t4.toNat]!.ah (au.mk r6.b0.ak[r6.t4.toNat]!.aA.bF r6.b0.ak[r6.t4.toNat]!.aA.fN r6.b0.ak[r6.t4.toNat]!.aA.aq)))with|G=>G|V r8=>bif J (r8.t6<r8.t4)then if 0<=r8.t6/\r8.t6<r8.b0.ak.length then bif r8.b0.ak[r8.t6.toNat]!.fName.toList==r8.b1.fName.toList then V 8 else G else G else bif bif KF r8.b1.ag r8.b1.ah then S else O then V 3 else match Ju r8.b0.ai (au.mk r8.b1.aA.bF r8.b1.aA.fN r8.b1.aA.aq) O with|G=>G|V r9=>bif bif J (r9=0)then S else O then V (r9)else G else G else match afX r6.b0 r6.b0.bI O with|G=>G|V r10=>bif bif J (r10=0)then S else O then V (r10)else match r90 r6.b0.bI with|G=>G|V r11=>match bif J (4096<r11.fst)then V O else bif J (8<r11.snd.fst)then V O else V (J (67108864<r11.snd.snd))with|G=>G|V r12=>bif r12 then V 4 else V 0
def e78:=eL w9 78 S (lc (qg 26) ln) d78 (λg=>m78 g.1)
def Y0:EO e78:=λh=>kL (F:=F78) (an:=(noTwo (noTwo (noTwo (noTwo (.two (noTwo (abA.lp SI alj)) (noTwo (noTwo (noTwo (.two (.two (.rb [] 86) .no) .no)))))))))) (l:=[(aW f78 0,(abA.lp SI alj)),(aW f78 1,(aaM.lp MS .no)),(.skip,(.rb [] 86))]) func78 (ajl (Uu (T6 (U1 (ai3 (adD (Z3 aR))))))) (az (aO abA) (az (aO aaM) (az aCE aF))) h
def uh:EP e78:=λh=>kP h
def azb:aZ:=cZ
abbrev at0:=aH
def d103:Td 0 at0:= .c [] [0] (.r 0 1 (ec 0 (qp 0 0) en) (sb 0 34 (lg 34) sn) (λz=>z.2.1) (λx=>(((),()),(x,()))))
def axx:=ln
def anH:An:= .no
def sj:at0:=
 aH.mk (1) (0) (0)
def aEs:bL w9 (azb) 300 (anH) 103 (axx.c ()) [] 0 d103.rd=V (sj):=by kernel_rfl
def akD:=eL w9 103 S axx d103 (λ_=>V (sj))
def Sw:EO akD:=λh=>kL (F:=azb) (an:=anH) func103 aR aF h (c:=λ_=>aEs)
def GX:EP akD:=λh=>kP h
def ao9:aZ:=cZ
abbrev aol:=Bool
def d162:Td 0 aol:= .c [] [2] (.r 0 0 (ec 2 qb en) sn (λz=>z.1.1) (λx=>((x,()),(()))))
def auK:=(bk ln)
def amE:An:=(noTwo (.two (.rb [] 2) .no))
def axe:∀f∈([]:aa Nat),bw (ao9) f:=aF
def n9(a0:Int):aol:=
 let r1:Bool:=bif J (-1099511627776<=a0)then J (a0<=1099511627776)else S;r1
def aCT(a0:Int):bL w9 (ao9) 300 (amE) 162 (auK.c (a0,())) [] 0 d162.rd=V (n9 a0):=by
 refine Eq.trans (b:=(
  match bif J (-1099511627776<=a0)then V (J (a0<=1099511627776))else V (S)with|G=>G|V r1=>V (r1):af aol)) (by kernel_rfl) ?_
 simp only[n9,cM,di]
def adI:=eL w9 162 S auK d162 (λg=>V (n9 g.1))
def Ui:EO adI:=λh=>kL (F:=ao9) (an:=amE) (l:=[(.skip,(.rb [] 2))]) func162 aR (az axe aF) h (c:=λg=>aCT g.1)
def G9:EP adI:=λh=>kP h
def F84:aZ:=(adI (akD cZ))
abbrev E84:=Bool
def d84:Td 0 E84:= .c [] [2] (.r 0 0 (ec 2 qb en) sn (λz=>z.1.1) (λx=>((x,()),(()))))
def az8:∀f∈([162]:aa Nat),bw (F84) f:=(az (G9 (GX bS)) aF)
def Xg(a0:aH):af E84:=
 bif bif J (a0.ag=sj.ag)then bif J (a0.ah=sj.ah)then bif J (a0.aj=sj.aj)then O else S else S else S then V O else match bif bif n9 a0.ag then S else O then V O else V (bif n9 a0.ah then S else O)with|G=>G|V r1=>bif r1 then V S else bif J (a0.ag=a0.ah)then V (J (a0.aj=0))else match bif J (a0.ag<a0.ah)then bif J (1<=a0.aj)then if¬a0.aj=0then V (J ((i64.wrap (a0.ah-a0.ag)).tmod a0.aj=0))else G else V S else V S with|G=>G|V r2=>V (r2)
def e84:=eL w9 84 S (lc (qg 34) ln) d84 (λg=>Xg g.1)
def abO:EO e84:=λh=>kL (F:=F84) (an:=(noTwo (noTwo (.two (.two (.rb [162] 15) .no) (noTwo (.two (.rb [162] 2) .no)))))) (l:=[(.skip,(.rb [162] 15)),(.skip,(.rb [162] 2))]) func84 (Ui (Sw aR)) (az az8 (az az8 aF)) h
def uN:EP e84:=λh=>kP h
abbrev E32:=Bool
def m32(a0:aH)(a1:Int):af E32:=
 match match Xg a0 with|G=>G|V r1=>bif bif r1 then S else O then V O else bif J (a1<a0.ag)then V O else V (J (a0.ah<a1))with|G=>G|V r2=>bif r2 then V S else match bif J (a0.aj=0)then V O else if¬a0.aj=0then V (J ((i64.wrap (a1-a0.ag)).tmod a0.aj=0))else G with|G=>G|V r3=>V (r3)
abbrev E36:=aH
def m36(a0:Int):E36:=
 aH.mk a0 a0 (0)
def ayD:aZ:=(adI (akD cZ))
abbrev azm:=aH×Int
def d101:Td 0 azm:= .c [] [6,7] (.r 0 1 (ec 6 (qp 0 0) (ec 7 aL en)) (sb 0 34 (lg 34) sn) (λz=>(z.2.1,z.1.2.1)) (λx=>(((),x.2,()),(x.1,()))))
def auo:∀f∈([162]:aa Nat),bw (ayD) f:=(az (G9 (GX bS)) aF)
def iX(a0:Int)(a1:Int)(a2:Int):af azm:=
 match bif bif n9 a0 then S else O then V O else bif bif n9 a1 then S else O then V O else V (J (a2<1))with|G=>G|V r1=>bif r1 then V (aH.mk 0 0 0,3)else bif J (a1<a0)then V (sj,0)else if¬a2=0then bif J (a0=i64.wrap (a0+i64.wrap (i64.wrap ((i64.wrap (a1-a0)).tdiv a2)*a2)))then V ((aH.mk a0 (i64.wrap (a0+i64.wrap (i64.wrap ((i64.wrap (a1-a0)).tdiv a2)*a2))) 0,0))else V ((aH.mk a0 (i64.wrap (a0+i64.wrap (i64.wrap ((i64.wrap (a1-a0)).tdiv a2)*a2))) a2,0))else G
def ayX:=eL w9 101 S (bk (bk (bk ln))) d101 (λg=>iX g.1 g.2.1 g.t.1)
def ah1:EO ayX:=λh=>kL (F:=ayD) (an:=(noTwo (.two (.two (.rb [162] 19) .no) .no))) (l:=[(.skip,(.rb [162] 19))]) func101 (Ui (Sw aR)) (az auo aF) h
abbrev auc:=Bool
def d102:Td 0 auc:= .c [] [2] (.r 0 0 (ec 2 qb en) sn (λz=>z.1.1) (λx=>((x,()),(()))))
def lS(a0:aH):auc:=
 J (a0.ah<a0.ag)
def ase:=eL w9 102 S (lc (qg 34) ln) d102 (λg=>V (lS g.1))
def afC:EO ase:=λh=>kL (an:= .no) func102 aR aF h
def GC:EP ase:=λh=>kP h
abbrev E41:=aH
def m41(a0:aH)(a1:Int):af E41:=
 match bif lS a0 then V (O)else V (J (a1<a0.ag))with|G=>G|V r1=>bif r1 then V (sj)else bif J (a0.ah<=a1)then V (a0)else match iX a0.ag a1 a0.aj with|G=>G|V r2=>V (r2.fst)
abbrev E42:=aH
def m42(a0:aH)(a1:Int):af E42:=
 match bif lS a0 then V O else V (J (a0.ah<=a1))with|G=>G|V r1=>bif r1 then V (sj)else bif J (a1<a0.ag)then V (a0)else if¬a0.aj=0then match iX (i64.wrap (a0.ag+i64.wrap (i64.wrap (i64.wrap ((i64.wrap (a1-a0.ag)).tdiv a0.aj)+1)*a0.aj))) a0.ah a0.aj with|G=>G|V r2=>V (r2.fst)else G
structure pQ where
 (t0 t1:Int)
def sG(p:pQ):af (af pQ):=
 bif bif J (p.t1=0)then S else O then if¬p.t1=0then V (V (pQ.mk p.t1 (p.t0.tmod p.t1)))else G else V (G)
def Q7:=bJ (sG)
abbrev aFi:=Int
def EA(a0:Int)(a1:Int):af aFi:=
 match Q7 (pQ.mk a0 a1)with|G=>G|V r1=>bif bif J (r1.t1=0)then S else O then if¬r1.t1=0then G else G else V (r1.t0)
abbrev aER:=Int
def j5(a0:Int)(a1:Int):aER:=
 bif J (a0<a1)then i64.wrap (a1-a0)else i64.wrap (a0-a1)
structure j9 where
 t0:List Int
 t6:Int
 (b0 b1:aH)
def tf(p:j9):af (af j9):=
 bif J (p.t6<p.t0.length)then if 0<=p.t6/\p.t6<p.t0.length then if(0:Int)<=(0:Int)/\(0:Int)<p.t0.length then match EA p.b1.aj (j5 p.t0[p.t6.toNat]! p.t0[0]!)with|G=>G|V r1=>if 0<=p.t6/\p.t6<p.t0.length then bif J (((p.t0,(),(),p.t6,()),p.b0,p.b1,()).fst.fst[((p.t0,(),(),p.t6,()),p.b0,p.b1,()).fst.snd.snd.snd.fst.toNat]! <((p.t0,(),(),p.t6,()),p.b0,p.b1,()).snd.snd.fst.ag)then if 0<=p.t6/\p.t6<p.t0.length then if 0<=p.t6/\p.t6<p.t0.length then bif J (((p.t0,(),(),p.t6,()),p.b0,p.b1,()).snd.snd.fst.ah<((p.t0,(),(),p.t6,()),p.b0,p.b1,()).fst.fst[((p.t0,(),(),p.t6,()),p.b0,p.b1,()).fst.snd.snd.snd.fst.toNat]!)then if 0<=p.t6/\p.t6<p.t0.length then V (V (j9.mk p.t0 (i64.wrap (p.t6+1)) p.b0 (aH.mk p.t0[p.t6.toNat]! p.t0[p.t6.toNat]! r1)))else G else V (V (j9.mk p.t0 (i64.wrap (p.t6+1)) p.b0 (aH.mk p.t0[p.t6.toNat]! p.b1.ah r1)))else G else G else if 0<=p.t6/\p.t6<p.t0.length then bif J (((p.t0,(),(),p.t6,()),p.b0,p.b1,()).snd.snd.fst.ah<((p.t0,(),(),p.t6,()),p.b0,p.b1,()).fst.fst[((p.t0,(),(),p.t6,()),p.b0,p.b1,()).fst.snd.snd.snd.fst.toNat]!)then if 0<=p.t6/\p.t6<p.t0.length then V (V (j9.mk p.t0 (i64.wrap (p.t6+1)) p.b0 (aH.mk p.b1.ag p.t0[p.t6.toNat]! r1)))else G else V (V (j9.mk p.t0 (i64.wrap (p.t6+1)) p.b0 (aH.mk p.b1.ag p.b1.ah r1)))else G else G else G else G else V (G)
def Y5:=bJ (tf)
structure sS where
 t0:List Int
 t4:Int
 b0:aH
def vZ(p:sS):af (af sS):=
 bif J (p.t4<p.t0.length)then if 0<=p.t4/\p.t4<p.t0.length then bif bif n9 p.t0[p.t4.toNat]! then S else O then V (G)else V (V (sS.mk p.t0 (i64.wrap (p.t4+1)) p.b0))else G else V (G)
def XW:=bJ (vZ)
abbrev aFP:=aH×Int
def XX(a0:aa Int):af aFP:=
 match XW (sS.mk a0 0 (aH.mk 0 0 0))with|G=>G|V r2=>bif J (r2.t4<r2.t0.length)then if 0<=r2.t4/\r2.t4<r2.t0.length then bif bif n9 r2.t0[r2.t4.toNat]! then S else O then V (aH.mk 0 0 0,3)else G else G else bif J ((r2.t0.length:Int)=0)then V (sj,0)else if(0:Int)<=(0:Int)/\(0:Int)<r2.t0.length then if(0:Int)<=(0:Int)/\(0:Int)<r2.t0.length then match Y5 (j9.mk r2.t0 1 r2.b0 (aH.mk r2.t0[0]! r2.t0[0]! (0)))with|G=>G|V r3=>bif J (r3.t6<r3.t0.length)then if 0<=r3.t6/\r3.t6<r3.t0.length then if(0:Int)<=(0:Int)/\(0:Int)<r3.t0.length then match EA r3.b1.aj (j5 r3.t0[r3.t6.toNat]! r3.t0[0]!)with|G=>G|V r4=>if 0<=r3.t6/\r3.t6<r3.t0.length then bif J (((r3.t0,(),(),r3.t6,()),r3.b0,r3.b1,()).fst.fst[((r3.t0,(),(),r3.t6,()),r3.b0,r3.b1,()).fst.snd.snd.snd.fst.toNat]! <((r3.t0,(),(),r3.t6,()),r3.b0,r3.b1,()).snd.snd.fst.ag)then if 0<=r3.t6/\r3.t6<r3.t0.length then if 0<=r3.t6/\r3.t6<r3.t0.length then bif J (((r3.t0,(),(),r3.t6,()),r3.b0,r3.b1,()).snd.snd.fst.ah<((r3.t0,(),(),r3.t6,()),r3.b0,r3.b1,()).fst.fst[((r3.t0,(),(),r3.t6,()),r3.b0,r3.b1,()).fst.snd.snd.snd.fst.toNat]!)then if 0<=r3.t6/\r3.t6<r3.t0.length then G else G else G else G else G else if 0<=r3.t6/\r3.t6<r3.t0.length then bif J (((r3.t0,(),(),r3.t6,()),r3.b0,r3.b1,()).snd.snd.fst.ah<((r3.t0,(),(),r3.t6,()),r3.b0,r3.b1,()).fst.fst[((r3.t0,(),(),r3.t6,()),r3.b0,r3.b1,()).fst.snd.snd.snd.fst.toNat]!)then if 0<=r3.t6/\r3.t6<r3.t0.length then G else G else G else G else G else G else G else V (r3.b1,0)else G else G
abbrev aCj:=aH
def lE(a0:aH)(a1:aH):af aCj:=
 bif lS a0 then V (a1)else bif lS a1 then V (a0)else match XX [a0.ag,a0.ah,a1.ag,a1.ah]with|G=>G|V r1=>bif J (r1.fst.ag<r1.fst.ah)then match EA a0.aj a1.aj with|G=>G|V r2=>match EA r2 (j5 a0.ag a1.ag)with|G=>G|V r3=>V (aH.mk r1.fst.ag r1.fst.ah r3)else V (r1.fst)
abbrev E86:=aH×Int
def m86(a0:aH)(a1:Int)(a2:Int):af E86:=
 match Xg a0 with|G=>G|V r1=>bif bif r1 then S else O then V ((aH.mk (0) (0) (0),1))else match bif bif n9 a1 then S else O then V (O)else bif bif n9 a2 then S else O then V (O)else V (J (a2<a1))with|G=>G|V r2=>bif r2 then V ((aH.mk (0) (0) (0),3))else match m42 a0 (i64.wrap (a1-1))with|G=>G|V r3=>match m41 r3 a2 with|G=>G|V r4=>match m41 a0 a1 with|G=>G|V r5=>bif bif lS r5 then S else O then match lE r4 (aH.mk a1 a1 (0))with|G=>G|V r6=>match m42 a0 a2 with|G=>G|V r7=>bif bif lS r7 then S else O then match lE r6 (aH.mk a2 a2 (0))with|G=>G|V r8=>V ((r8,0))else V ((r6,0))else match m42 a0 a2 with|G=>G|V r9=>bif bif lS r9 then S else O then match lE r4 (aH.mk a2 a2 (0))with|G=>G|V r10=>V ((r10,0))else V ((r4,0))
def F43:aZ:=(ase (e84 cZ))
abbrev E43:=Int
def d43:Td 0 E43:= .c [] [2] (.r 0 0 (ec 2 aL en) sn (λz=>z.1.1) (λx=>((x,()),(()))))
def aFj:∀f∈([84,102]:aa Nat),bw (F43) f:=(az (GC (uN bS)) (az (GC (uN bS)) aF))
def Gb(a0:aH):af E43:=
 match match Xg a0 with|G=>G|V r1=>bif bif r1 then S else O then V O else V (lS a0)with|G=>G|V r2=>bif r2 then V 0 else bif J (a0.aj=0)then V 1 else if¬a0.aj=0then V (i64.wrap (i64.wrap ((i64.wrap (a0.ah-a0.ag)).tdiv a0.aj)+1))else G
def e43:=eL w9 43 S (lc (qg 34) ln) d43 (λg=>Gb g.1)
def aom:EO e43:=λh=>kL (F:=F43) (an:=(noTwo (.two (.two (.rb [84,102] 9) .no) .no))) (l:=[(.skip,(.rb [84,102] 9))]) func43 (afC (abO aR)) (az aFj aF) h
def Lw:EP e43:=λh=>kP h
abbrev aF1:=Bool×Bool
def Gx(a0:aH):af aF1:=
 match m32 a0 (0)with|G=>G|V r1=>match Gb a0 with|G=>G|V r2=>bif J (1<r2)then V ((r1,O))else match Gb a0 with|G=>G|V r3=>bif J (r3=1)then V ((r1,bif r1 then S else O))else V ((r1,S))
abbrev aFz:=aH
def j4(a0:Bool)(a1:Bool):aFz:=
 let r1:Bool:=bif a0 then a1 else S;bif r1 then aH.mk (0) (1) (1)else bif a1 then aH.mk (1) (1) (0)else aH.mk (0) (0) (0)
abbrev aDt:=aH×Int
def aun(a0:Int)(a1:aH):af aDt:=
 match match Xg a1 with|G=>G|V r1=>bif bif r1 then S else O then V (O)else bif bif J (a0=6)then S else O then V (bif J (a0=7)then S else O)else V (S)with|G=>G|V r2=>bif r2 then V ((aH.mk (0) (0) (0),1))else bif lS a1 then V ((sj,0))else bif J (a0=6)then V ((aH.mk (i64.wrap (0-a1.ah)) (i64.wrap (0-a1.ag)) a1.aj,0))else match Gx a1 with|G=>G|V r3=>V ((j4 r3.snd r3.fst,0))
abbrev aDx:=Bool
def Qn(a0:Int):aDx:=
 bif J (a0=8)then O else bif J (a0=9)then O else bif J (a0=10)then O else bif J (a0=11)then O else bif J (a0=12)then O else bif J (a0=13)then O else bif J (a0=14)then O else bif J (a0=15)then O else bif J (a0=16)then O else bif J (a0=17)then O else bif J (a0=18)then O else bif J (a0=19)then O else bif J (a0=20)then O else bif J (a0=21)then O else bif J (a0=22)then O else S
abbrev aEa:=Int×Bool
def aqE(a0:Int)(a1:Int):af aEa:=
 match bif bif J (a0=0)then S else O then bif bif J (a1=0)then S else O then if¬j5 a1 ((0:Int))=0then V (J (i64.wrap ((1099511627776:Int).tdiv (j5 a1 0))<j5 a0 0))else G else V S else V S with|G=>G|V r1=>bif r1 then V (0,S)else V ((i64.wrap (a0*a1),O))
abbrev aCn:=Int
def aoo(a0:Int)(a1:Int):af aCn:=
 bif J (a1=0)then V 0 else if¬a1=0then match if¬a1=0then bif bif J (a0.tmod a1=0)then S else O then V (bif J (a0<0)==J (a1<0)then S else O)else V S else G with|G=>G|V r1=>bif r1 then V (i64.wrap (i64.wrap (a0.tdiv a1)-1))else V (i64.wrap (a0.tdiv a1))else G
abbrev aFw:=Int
def Dx(a0:Bool):aFw:=
 bif a0 then 1 else 0
abbrev aDC:=Int×Bool
def Gu(a0:Int)(a1:Int)(a2:Int):af aDC:=
 bif J (a0=8)then V ((i64.wrap (a1+a2),n9 (i64.wrap (a1+a2))))else bif J (a0=9)then V ((i64.wrap (a1-a2),n9 (i64.wrap (a1-a2))))else bif J (a0=10)then match aqE a1 a2 with|G=>G|V r1=>V (r1)else bif J (a0=11)then match aoo a1 a2 with|G=>G|V r2=>V ((r2,O))else bif J (a0=12)then bif J (a2=0)then V ((0,O))else match aoo a1 a2 with|G=>G|V r3=>V ((i64.wrap (a1-i64.wrap (a2*r3)),O))else bif J (a0=13)then V ((Dx (J (a1=a2)),O))else bif J (a0=14)then V ((Dx (bif J (a1=a2)then S else O),O))else bif J (a0=15)then V ((Dx (J (a1<a2)),O))else bif J (a0=16)then V ((Dx (J (a1<=a2)),O))else bif J (a0=17)then V ((Dx (J (a2<a1)),O))else bif J (a0=18)then V ((Dx (J (a2<=a1)),O))else bif J (a0=19)then bif bif J (a1=0)then S else O then V ((Dx (bif J (a2=0)then S else O),O))else V ((Dx S,O))else bif J (a0=20)then bif bif J (a1=0)then S else O then V ((Dx O,O))else V ((Dx (bif J (a2=0)then S else O),O))else bif J (a0=21)then bif J (a1<a2)then V ((a1,O))else V ((a2,O))else bif J (a2<a1)then V ((a1,O))else V ((a2,O))
abbrev aDr:=Int
def K6(a0:aH)(a1:Int):aDr:=
 i64.wrap (a0.ag+i64.wrap (a1*a0.aj))
structure jm where
 t0:Int
 t8:List Int
 (t9 t10:Int)
 (b0 b1 b2:aH)
def Ep(p:jm):af (af jm):=
 match Gb p.b1 with|G=>G|V r5=>bif J (p.t10<r5)then match Gu p.t0 (K6 p.b0 p.t9) (K6 p.b1 p.t10)with|G=>G|V r6=>bif bif r6.snd then S else O then V (G)else if(p.t8++[r6.fst]).length<=1073741824 then V (V (jm.mk p.t0 (p.t8++[r6.fst]) p.t9 (i64.wrap (p.t10+1)) p.b0 p.b1 p.b2))else G else V (G)
def C1:=bJ (Ep)
structure tc where
 t0:Int
 t8:List Int
 t9:Int
 (b0 b1 b2:aH)
def As(p:tc):af (af tc):=
 match Gb p.b0 with|G=>G|V r1=>bif J (p.t9<r1)then match C1 (jm.mk p.t0 p.t8 p.t9 (0) p.b0 p.b1 p.b2)with|G=>G|V r2=>match Gb r2.b1 with|G=>G|V r3=>bif J (r2.t10<r3)then match Gu r2.t0 (K6 r2.b0 r2.t9) (K6 r2.b1 r2.t10)with|G=>G|V r4=>bif bif r4.snd then S else O then V (G)else if(r2.t8++[r4.fst]).length<=1073741824 then G else G else V (V (tc.mk r2.t0 r2.t8 (i64.wrap (r2.t9+1)) r2.b0 r2.b1 r2.b2))else V (G)
def acj:=bJ (As)
abbrev aDj:=aH×Int
def Wz(a0:Int)(a1:aH)(a2:aH):af aDj:=
 match acj (tc.mk a0 [] (0) a1 a2 (aH.mk (0) (0) (0)))with|G=>G|V r7=>match Gb r7.b0 with|G=>G|V r8=>bif J (r7.t9<r8)then match C1 (jm.mk r7.t0 r7.t8 r7.t9 (0) r7.b0 r7.b1 r7.b2)with|G=>G|V r9=>match Gb r9.b1 with|G=>G|V r10=>bif J (r9.t10<r10)then match Gu r9.t0 (K6 r9.b0 r9.t9) (K6 r9.b1 r9.t10)with|G=>G|V r11=>bif bif r11.snd then S else O then V ((aH.mk (0) (0) (0),3))else if(r9.t8++[r11.fst]).length<=1073741824 then G else G else G else match XX r7.t8 with|G=>G|V r12=>V (r12)
structure jf where
 t0:Int
 (t8 t9 t10:List Int)
 (t11 t12:Int)
 b0:aH
def EB(p:jf):af (af jf):=
 bif J (p.t12<3)then if 0<=p.t11/\p.t11<p.t9.length then if 3=3/\p.t11.toNat<p.t9.length then if 0<=p.t12/\p.t12<p.t10.length then if 3=3/\p.t12.toNat<p.t10.length then match Gu p.t0 p.t9[p.t11.toNat]! p.t10[p.t12.toNat]! with|G=>G|V r3=>bif bif r3.snd then S else O then V (G)else if(p.t8++[r3.fst]).length<=1073741824 then V (V (jf.mk p.t0 (p.t8++[r3.fst]) p.t9 p.t10 p.t11 (i64.wrap (p.t12+1)) p.b0))else G else G else G else G else G else V (G)
def DJ:=bJ (EB)
structure sF where
 t0:Int
 (t8 t9 t10:List Int)
 t11:Int
 b0:aH
def Aj(p:sF):af (af sF):=
 bif J (p.t11<3)then match DJ (jf.mk p.t0 p.t8 p.t9 p.t10 p.t11 0 p.b0)with|G=>G|V r1=>bif J (r1.t12<3)then if 0<=r1.t11/\r1.t11<r1.t9.length then if 3=3/\r1.t11.toNat<r1.t9.length then if 0<=r1.t12/\r1.t12<r1.t10.length then if 3=3/\r1.t12.toNat<r1.t10.length then match Gu r1.t0 r1.t9[r1.t11.toNat]! r1.t10[r1.t12.toNat]! with|G=>G|V r2=>bif bif r2.snd then S else O then V (G)else if(r1.t8++[r2.fst]).length<=1073741824 then G else G else G else G else G else G else V (V (sF.mk r1.t0 r1.t8 r1.t9 r1.t10 (i64.wrap (r1.t11+1)) r1.b0))else V (G)
def acg:=bJ (Aj)
abbrev aET:=aH×Int
def AD(a0:Int)(a1:aH)(a2:aH):af aET:=
 match acg (sF.mk a0 [] [a1.ag,i64.wrap (a1.ag+a1.aj),a1.ah] [a2.ag,i64.wrap (a2.ag+a2.aj),a2.ah] (0) (aH.mk 0 0 0))with|G=>G|V r4=>bif J (r4.t11<3)then match DJ (jf.mk r4.t0 r4.t8 r4.t9 r4.t10 r4.t11 0 r4.b0)with|G=>G|V r5=>bif J (r5.t12<3)then if 0<=r5.t11/\r5.t11<r5.t9.length then if 3=3/\r5.t11.toNat<r5.t9.length then if 0<=r5.t12/\r5.t12<r5.t10.length then if 3=3/\r5.t12.toNat<r5.t10.length then match Gu r5.t0 r5.t9[r5.t11.toNat]! r5.t10[r5.t12.toNat]! with|G=>G|V r6=>bif bif r6.snd then S else O then V (aH.mk 0 0 0,3)else if(r5.t8++[r6.fst]).length<=1073741824 then G else G else G else G else G else G else G else match XX r4.t8 with|G=>G|V r7=>V (r7)
abbrev Rg:=Bool
structure jG where
 (t6 t7 t8 t9:Int)
 (b0 b1:aH)
def AK(M286:aH->aH->af Rg)(p:jG):af (af jG):=
 match if¬p.t7=0then bif J (p.t9<i64.wrap (p.b1.aj.tdiv p.t7))then V (J (p.t8<=p.t6))else V S else G with|G=>G|V r1=>bif r1 then match m32 p.b1 p.t8 with|G=>G|V r2=>bif r2 then V (G)else V (V (jG.mk p.t6 p.t7 (i64.wrap (p.t8+p.b0.aj)) (i64.wrap (p.t9+1)) p.b0 p.b1))else V (G)
def td(M286:aH->aH->af Rg):=bJ (AK M286)
def ZL(M286:aH->aH->af Rg)(a0:aH)(a1:aH):af Rg:=
 match Gb a0 with|G=>G|V r3=>match Gb a1 with|G=>G|V r4=>bif J (r4<r3)then match M286 a1 a0 with|G=>G|V r5=>V (r5)else match Gb a0 with|G=>G|V r6=>bif J (r6=1)then match m32 a1 a0.ag with|G=>G|V r7=>V (r7)else bif J (a0.ag<a1.ag)then bif J (a1.ah<a0.ah)then match EA a0.aj a1.aj with|G=>G|V r8=>match bif J (a1.ah<a1.ag)then V O else if¬r8=0then V (bif J (Int.tmod (j5 a0.ag a1.ag) r8=0)then S else O)else G with|G=>G|V r9=>bif r9 then V S else if¬a0.aj=0then match td M286 (jG.mk a1.ah r8 (i64.wrap (a0.ag+i64.wrap (i64.wrap ((i64.wrap (i64.wrap (i64.wrap (a1.ag-a0.ag)+a0.aj)-1)).tdiv a0.aj)*a0.aj))) 0 a0 a1)with|G=>G|V r10=>match if¬r10.t7=0then bif J (r10.t9<i64.wrap (r10.b1.aj.tdiv r10.t7))then V (J (r10.t8<=r10.t6))else V S else G with|G=>G|V r11=>bif r11 then match m32 r10.b1 r10.t8 with|G=>G|V r12=>bif r12 then V O else G else V S else G else match EA a0.aj a1.aj with|G=>G|V r13=>match bif J (a0.ah<a1.ag)then V O else if¬r13=0then V (bif J (Int.tmod (j5 a0.ag a1.ag) r13=0)then S else O)else G with|G=>G|V r14=>bif r14 then V S else if¬a0.aj=0then match td M286 (jG.mk a0.ah r13 (i64.wrap (a0.ag+i64.wrap (i64.wrap ((i64.wrap (i64.wrap (i64.wrap (a1.ag-a0.ag)+a0.aj)-1)).tdiv a0.aj)*a0.aj))) 0 a0 a1)with|G=>G|V r15=>match if¬r15.t7=0then bif J (r15.t9<i64.wrap (r15.b1.aj.tdiv r15.t7))then V (J (r15.t8<=r15.t6))else V S else G with|G=>G|V r16=>bif r16 then match m32 r15.b1 r15.t8 with|G=>G|V r17=>bif r17 then V O else G else V S else G else bif J (a1.ah<a0.ah)then match EA a0.aj a1.aj with|G=>G|V r18=>match bif J (a1.ah<a0.ag)then V O else if¬r18=0then V (bif J (Int.tmod (j5 a0.ag a1.ag) r18=0)then S else O)else G with|G=>G|V r19=>bif r19 then V S else if¬a0.aj=0then match td M286 (jG.mk a1.ah r18 (i64.wrap (a0.ag+i64.wrap (i64.wrap ((i64.wrap (i64.wrap (i64.wrap (a0.ag-a0.ag)+a0.aj)-1)).tdiv a0.aj)*a0.aj))) 0 a0 a1)with|G=>G|V r20=>match if¬r20.t7=0then bif J (r20.t9<i64.wrap (r20.b1.aj.tdiv r20.t7))then V (J (r20.t8<=r20.t6))else V S else G with|G=>G|V r21=>bif r21 then match m32 r20.b1 r20.t8 with|G=>G|V r22=>bif r22 then V O else G else V S else G else match EA a0.aj a1.aj with|G=>G|V r23=>match bif J (a0.ah<a0.ag)then V O else if¬r23=0then V (bif J (Int.tmod (j5 a0.ag a1.ag) r23=0)then S else O)else G with|G=>G|V r24=>bif r24 then V S else if¬a0.aj=0then match td M286 (jG.mk a0.ah r23 (i64.wrap (a0.ag+i64.wrap (i64.wrap ((i64.wrap (i64.wrap (i64.wrap (a0.ag-a0.ag)+a0.aj)-1)).tdiv a0.aj)*a0.aj))) 0 a0 a1)with|G=>G|V r25=>match if¬r25.t7=0then bif J (r25.t9<i64.wrap (r25.b1.aj.tdiv r25.t7))then V (J (r25.t8<=r25.t6))else V S else G with|G=>G|V r26=>bif r26 then match m32 r25.b1 r25.t8 with|G=>G|V r27=>bif r27 then V O else G else V S else G
def GR:Nat->(aH->aH->af Rg)
 |0=>(λ_ _=>G)
 |n+1=>(ZL (GR n))
def aEC(n:Nat):aH->aH->af Rg:=(GR n)
def ao7:aH->aH->af Rg:=λa0 a1=>lim (λn=>aEC n a0 a1)
abbrev aC0:=aH
def BQ(a0:Int)(a1:aH)(a2:aH):af aC0:=
 bif J (a0=13)then match ao7 a1 a2 with|G=>G|V r1=>bif bif bif J (a1.ag=a2.ag)then bif J (a1.ah=a2.ah)then bif J (a1.aj=a2.aj)then O else S else S else S then S else O then bif J (a0=14)then V (j4 r1 O)else V (j4 O r1)else match Gb a1 with|G=>G|V r2=>bif J (a0=14)then V (j4 r1 (J (1<((r2,()),()).fst.fst)))else V (j4 (J (1<((r2,()),()).fst.fst)) r1)else bif J (a0=14)then match ao7 a1 a2 with|G=>G|V r3=>bif bif bif J (a1.ag=a2.ag)then bif J (a1.ah=a2.ah)then bif J (a1.aj=a2.aj)then O else S else S else S then S else O then bif J (a0=14)then V (j4 r3 O)else V (j4 O r3)else match Gb a1 with|G=>G|V r4=>bif J (a0=14)then V (j4 r3 (J (1<((r4,()),()).fst.fst)))else V (j4 (J (1<((r4,()),()).fst.fst)) r3)else bif J (a0=15)then V (j4 (J (a2.ag<=a1.ah)) (J (a1.ag<a2.ah)))else bif J (a0=16)then V (j4 (J (a2.ag<a1.ah)) (J (a1.ag<=a2.ah)))else bif J (a0=17)then V (j4 (J (a1.ag<=a2.ah)) (J (a2.ag<a1.ah)))else bif J (a0=18)then V (j4 (J (a1.ag<a2.ah)) (J (a2.ag<=a1.ah)))else match Gx a1 with|G=>G|V r5=>match Gx a2 with|G=>G|V r6=>bif J (a0=19)then bif r5.snd then bif r5.fst then V (j4 O r6.snd)else V (j4 r6.fst r6.snd)else bif r5.fst then V (j4 O S)else V (j4 r6.fst S)else bif r5.snd then bif r5.fst then V (j4 r6.fst O)else V (j4 S O)else bif r5.fst then V (j4 r6.fst r6.snd)else V (j4 S r6.snd)
abbrev aEN:=aH×Int
def oP(a0:Int)(a1:aH)(a2:aH):af aEN:=
 match match Xg a1 with|G=>G|V r1=>bif bif r1 then S else O then V O else match Xg a2 with|G=>G|V r2=>bif bif r2 then S else O then V O else V (bif Qn a0 then S else O)with|G=>G|V r3=>bif r3 then V (aH.mk 0 0 0,1)else match bif lS a1 then V O else V (lS a2)with|G=>G|V r4=>bif r4 then V (sj,0)else match Gb a1 with|G=>G|V r5=>match Gb a2 with|G=>G|V r6=>if¬r6=0then bif J (r5<=i64.wrap ((4096:Int).tdiv r6))then match Wz a0 a1 a2 with|G=>G|V r7=>V (r7)else bif J (a0=8)then match AD a0 a1 a2 with|G=>G|V r8=>V (r8)else bif J (a0=9)then match AD a0 a1 a2 with|G=>G|V r9=>V (r9)else bif J (a0=10)then match AD a0 a1 a2 with|G=>G|V r10=>V (r10)else bif J (a0=11)then bif J (j5 a1.ag 0<j5 a1.ah 0)then match bif J (0<=a1.ag)then V (J (0<=a2.ag))else V S with|G=>G|V r11=>bif r11 then match iX 0 (j5 a1.ah 0) 1with|G=>G|V r12=>V (r12)else match iX (i64.wrap (0-j5 a1.ah 0)) (j5 a1.ah 0) 1with|G=>G|V r13=>V (r13)else match bif J (0<=a1.ag)then V (J (0<=a2.ag))else V S with|G=>G|V r14=>bif r14 then match iX 0 (j5 a1.ag 0) 1with|G=>G|V r15=>V (r15)else match iX (i64.wrap (0-j5 a1.ag 0)) (j5 a1.ag 0) 1with|G=>G|V r16=>V (r16)else bif J (a0=12)then bif J (a2.ag<0)then bif J (0<a2.ah)then match iX (i64.wrap (a2.ag+1)) (i64.wrap (a2.ah-1)) 1with|G=>G|V r17=>V (r17)else match iX (i64.wrap (a2.ag+1)) 0 1with|G=>G|V r18=>V (r18)else bif J (0<a2.ah)then match iX 0 (i64.wrap (a2.ah-1)) 1with|G=>G|V r19=>V (r19)else match iX 0 0 1with|G=>G|V r20=>V (r20)else bif J (a0=21)then match Gu a0 a1.ah a2.ah with|G=>G|V r21=>match lE a1 a2 with|G=>G|V r22=>match m41 r22 r21.fst with|G=>G|V r23=>V (r23,0)else bif J (a0=22)then match Gu a0 a1.ag a2.ag with|G=>G|V r24=>match lE a1 a2 with|G=>G|V r25=>match m42 r25 (i64.wrap (r24.fst-1))with|G=>G|V r26=>V (r26,0)else match BQ a0 a1 a2 with|G=>G|V r27=>V (r27,0)else G
abbrev E87:=aH
structure Nk where
 (t107 t108:Int)
 b0:aK
 b1:au
 (b2 b3 b4:aH)
def axu(M87:aK->au->af E87)(p:Nk):af (af Nk):=
 bif J (p.t108<p.t107)then match m32 p.b3 p.t108 with|G=>G|V r1=>bif r1 then if 0<=i64.wrap ((1:Int)+p.t108)/\i64.wrap ((1:Int)+p.t108)<p.b1.aq.length then match M87 p.b0 (au.mk p.b1.aq[(i64.wrap (1+p.t108)).toNat]!.bF p.b1.aq[(i64.wrap (1+p.t108)).toNat]!.fN p.b1.aq[(i64.wrap (1+p.t108)).toNat]!.aq)with|G=>G|V r2=>match lE p.b4 r2 with|G=>G|V r3=>V (V (Nk.mk p.t107 (i64.wrap (p.t108+1)) p.b0 (au.mk p.b1.bF p.b1.fN p.b1.aq) p.b2 p.b3 r3))else G else V (V (Nk.mk p.t107 (i64.wrap (p.t108+1)) p.b0 (au.mk p.b1.bF p.b1.fN p.b1.aq) p.b2 p.b3 p.b4))else V (G)
def av2(M87:aK->au->af E87):=bJ (axu M87)
def s87(M87:aK->au->af E87)(a0:aK)(a1:au):af E87:=
 bif J (a1.bF=0)then V (m36 a1.fN)else bif J (a1.bF=24)then if 0<=a1.fN/\a1.fN<a0.ai.length then V (a0.ai[a1.fN.toNat]!)else G else bif J (a1.bF=6)then if(0:Int)<=(0:Int)/\(0:Int)<a1.aq.length then match M87 a0 (au.mk a1.aq[0]!.bF a1.aq[0]!.fN a1.aq[0]!.aq)with|G=>G|V r4=>match aun a1.bF r4 with|G=>G|V r5=>V (r5.fst)else G else bif J (a1.bF=7)then if(0:Int)<=(0:Int)/\(0:Int)<a1.aq.length then match M87 a0 (au.mk a1.aq[0]!.bF a1.aq[0]!.fN a1.aq[0]!.aq)with|G=>G|V r6=>match aun a1.bF r6 with|G=>G|V r7=>V (r7.fst)else G else bif J (a1.bF=23)then if(0:Int)<=(0:Int)/\(0:Int)<a1.aq.length then match M87 a0 (au.mk a1.aq[0]!.bF a1.aq[0]!.fN a1.aq[0]!.aq)with|G=>G|V r8=>match Gx r8 with|G=>G|V r9=>bif bif r9.fst then S else O then if(0:Int)<=(1:Int)/\(1:Int)<a1.aq.length then match M87 a0 (au.mk a1.aq[1]!.bF a1.aq[1]!.fN a1.aq[1]!.aq)with|G=>G|V r10=>V (r10)else G else bif bif r9.snd then S else O then if(0:Int)<=(2:Int)/\(2:Int)<a1.aq.length then match M87 a0 (au.mk a1.aq[2]!.bF a1.aq[2]!.fN a1.aq[2]!.aq)with|G=>G|V r11=>V (r11)else G else if(0:Int)<=(1:Int)/\(1:Int)<a1.aq.length then match M87 a0 (au.mk a1.aq[1]!.bF a1.aq[1]!.fN a1.aq[1]!.aq)with|G=>G|V r12=>if(0:Int)<=(2:Int)/\(2:Int)<a1.aq.length then match M87 a0 (au.mk a1.aq[2]!.bF a1.aq[2]!.fN a1.aq[2]!.aq)with|G=>G|V r13=>match lE r12 r13 with|G=>G|V r14=>V (r14)else G else G else G else bif J (a1.bF=25)then if(0:Int)<=(0:Int)/\(0:Int)<a1.aq.length then match M87 a0 (au.mk a1.aq[0]!.bF a1.aq[0]!.fN a1.aq[0]!.aq)with|G=>G|V r15=>match m86 r15 0 (i64.wrap ((a1.aq.length:Int)-2))with|G=>G|V r16=>match av2 M87 (Nk.mk (i64.wrap ((a1.aq.length:Int)-1)) 0 a0 (au.mk a1.bF a1.fN a1.aq) (aH.mk 0 0 0) r16.fst sj)with|G=>G|V r17=>bif J (r17.t108<r17.t107)then match m32 r17.b3 r17.t108 with|G=>G|V r18=>bif r18 then if 0<=i64.wrap ((1:Int)+r17.t108)/\i64.wrap ((1:Int)+r17.t108)<r17.b1.aq.length then match M87 r17.b0 (au.mk r17.b1.aq[(i64.wrap (1+r17.t108)).toNat]!.bF r17.b1.aq[(i64.wrap (1+r17.t108)).toNat]!.fN r17.b1.aq[(i64.wrap (1+r17.t108)).toNat]!.aq)with|G=>G|V r19=>match lE r17.b4 r19 with|G=>G|V r20=>G else G else G else V (r17.b4)else G else if(0:Int)<=(0:Int)/\(0:Int)<a1.aq.length then match M87 a0 (au.mk a1.aq[0]!.bF a1.aq[0]!.fN a1.aq[0]!.aq)with|G=>G|V r21=>if(0:Int)<=(1:Int)/\(1:Int)<a1.aq.length then match M87 a0 (au.mk a1.aq[1]!.bF a1.aq[1]!.fN a1.aq[1]!.aq)with|G=>G|V r22=>match oP a1.bF r21 r22 with|G=>G|V r23=>V (r23.fst)else G else G
def ayS:Nat->(aK->au->af E87)
 |0=>(λ_ _=>G)
 |n+1=>(s87 (ayS n))
def m87(n:Nat):aK->au->af E87:=(ayS n)
def r87:aK->au->af E87:=λa0 a1=>lim (λn=>m87 n a0 a1)
end Go.Proofs.YtnfljbehcffmcaaGreat
end
noncomputable section
namespace Go.Iv
open Go
variable [U:qO] [L:mI]
def aG{n:Int}(h1: -9223372036854775808<=n:=by omega)(h2:n<9223372036854775808:=by omega):IntKind.i64.wrap n=n:=by
 simp[IntKind.wrap,IntKind.bits,IntKind.signed];omega
def MC{γ:Type}{rnd:γ->af (af γ)}(f:Nat->γ)(n:Nat)(h1:∀i,i<n->rnd (f i)=V (V (f (i+1))))(h2:∀r,rnd (f n)≠V (V r)):bJ rnd (f 0)=V (f n):=by
 have key:∀k i,i+k=n->bJ rnd (f i)=V (f n):=by
  intro k;induction k with
  |zero=>
   intro i hi;have:i=n:=by omega
   subst this;exact b9 h2
  |succ k ih=>intro i hi;rw[bM (h1 i (by omega))];exact ih (i+1) (by omega)
 exact key n 0 (by omega)
def ko{α β ρ:Type}(step:β->α->af β)(ret:β->α->ρ)(fin:β->ρ):aa α->β->ρ
 |[],b=>fin b
 |x::xs,b=>match step b x with
  |some b'=>ko step ret fin xs b'
  |none=>ret b x
def G2{γ α β ρ:Type}{rnd:γ->af (af γ)}(l:aa α)(mk:Nat->β->γ)(step:β->α->af β)(ret:β->α->ρ)(fin:β->ρ)(I:Nat->β->Prop)
  (h1:∀i b (hi:i<l.length),I i b->∀b',step b l[i]=V b'->rnd (mk i b)=V (V (mk (i+1) b'))/\I (i+1) b')
  (h2:∀i b (hi:i<l.length),I i b->step b l[i]=G->∀r,rnd (mk i b)≠V (V r)) (h3:∀b,I l.length b->∀r,rnd (mk l.length b)≠V (V r)) {b:β} (hb:I 0 b):
  ∃i v,i<=l.length/\bJ rnd (mk 0 b)=V (mk i v)/\I i v/\((i=l.length/\ko step ret fin l b=fin v)\/∃hi:i<l.length,step v l[i]=G/\ko step ret fin l b=ret v l[i]):=by
 have key:∀(xs:aa α) (i:Nat) (b:β),l.drop i=xs->i<=l.length->I i b->∃j v,j<=l.length/\bJ rnd (mk i b)=V (mk j v)/\I j v/\((j=l.length/\ko step ret fin xs b=fin v)\/∃hi:j<l.length,step v l[j]=G/\ko step ret fin xs b=ret v l[j]):=by
  intro xs;induction xs with
  |nil=>
   intro i b hd hi hb;have:i=l.length:=by have:=congrArg zP hd;simp at this;omega
   subst this;exact⟨_,b,zn _,b9 (h3 b hb),hb, .inl ⟨rfl,rfl⟩⟩
  |cons x xs ih=>
   intro i b hd hi hb;have hil:i<l.length:=by have:=congrArg zP hd;simp at this;omega
   have hx:l[i]=x:=by
    have:=congrArg List.head? hd;rw[List.head?_drop,zu hil]at this;simpa using this
   have hd':l.drop (i+1)=xs:=by
    have:=congrArg List.tail hd;rw[List.tail_drop]at this;simpa using this
   cases hs:step b x with
   |some b'=>
    obtain⟨q1,q2⟩:=h1 i b hil hb b' (by rw[hx];exact hs);obtain⟨j,v,e1,e2,e3,e4⟩:=ih (i+1) b' hd' hil q2;have er:ko step ret fin (x::xs) b=ko step ret fin xs b':=by simp only[ko,hs]
    exact⟨j,v,e1,by rw[bM q1];exact e2,e3,by rw[er];exact e4⟩
   |none=>
    have er:ko step ret fin (x::xs) b=ret b x:=by simp only[ko,hs]
    exact⟨i,b,hi,b9 (h2 i b hil hb (by rw[hx];exact hs)),hb, .inr ⟨hil,by rw[hx];exact hs,by rw[er,hx]⟩⟩
 exact key l 0 b rfl (yT _) hb
end Go.Iv
end
noncomputable section
set_option maxRecDepth 100000
namespace Go.Proofs.YtnfljbehcffmcaaGreat
open Go Go.Iv
open Go.IntKind (i64 u64)
def gK{n:Int}(h1:0<=n:=by omega)(h2:n<18446744073709551616:=by omega):IntKind.u64.wrap n=n:=by
 simp only[IntKind.wrap,IntKind.signed,IntKind.bits]at*;simp;omega
def Qg(n:Int):IntKind.u64.wrap n=n%18446744073709551616:=by
 simp only[IntKind.wrap,IntKind.signed,IntKind.bits]at*;simp
structure gQ (y1 y0 u d q r:Int):Prop where
 r0:0<=r
 r1:r<4294967296
 q0:0<=q
 q1:q<=4294967297
 e:u=q*y1+r
 hi:u*4294967296+d<(q+1)*(y1*4294967296+y0)
 top:q=4294967297->r+y1<4294967296
structure rR (y1 y0 u d:Int):Prop where
 ha:2147483648<=y1
 hb:y1<4294967296
 hc:0<=y0
 hd:y0<4294967296
 he:0<=u
 hf:u<y1*4294967296+y0
 hg:0<=d
 hh:d<4294967296
def gQ.start{y1 y0 u d:Int}(h:rR y1 y0 u d):gQ y1 y0 u d (u/y1) (u%y1):=by
 obtain⟨ha,hb,hc,hd,he,hf,hg,hh⟩:=h;have e1:=yV u y1;have m0:=yW u (b:=y1) (by omega);have m1:=y4 u (b:=y1) (by omega);have q0:0<=u/y1:=zR he (by omega);have q1:u/y1<=4294967297:=by
  have:u/y1<4294967298:=wT (by omega) (by omega);omega
 rw[zI]at e1;refine⟨m0,by omega,q0,q1,by omega,?_,λhq=> ?_⟩
 ·have k1:(u/y1+1)*(y1*4294967296+y0)=((u/y1)*y1)*4294967296+y1*4294967296+(u/y1)*y0+y0:=by
   rw[zS,y5,z6,zQ];omega
  have k2:0<=u/y1*y0:=zF q0 hc;rw[k1];omega
 ·rw[hq]at e1;omega
def gQ.stop{y1 y0 u d q r:Int}(H:rR y1 y0 u d)(h:gQ y1 y0 u d q r)(h1:q<4294967296)(h2:¬4294967296*r+d<q*y0):q*(y1*4294967296+y0)<=u*4294967296+d:=by
 have k:q*(y1*4294967296+y0)=(q*y1)*4294967296+q*y0:=by rw[y5,zQ]
 have:=h.e;rw[k];omega
def gQ.big{y1 y0 u d q r:Int}(H:rR y1 y0 u d)(h:gQ y1 y0 u d q r)(h1:4294967296<=q\/4294967296*r+d<q*y0):u*4294967296+d<q*(y1*4294967296+y0):=by
 have k:q*(y1*4294967296+y0)=(q*y1)*4294967296+q*y0:=by rw[y5,zQ]
 have e:=h.e;rcases h1 with h1|h1
 ·have k2:4294967296*(y1*4294967296+y0)<=q*(y1*4294967296+y0):=zN h1 (by have:=H.ha;have:=H.hc;omega);have:=H.hf;have:=H.hh;omega
 ·rw[k];omega
def gQ.pos{y1 y0 u d q r:Int}(H:rR y1 y0 u d)(h:gQ y1 y0 u d q r)(h1:4294967296<=q\/4294967296*r+d<q*y0):1<=q:=by
 have k:=gQ.big H h h1;have:=h.q0;rcases (show q=0\/1<=q by omega)with rfl|h2
 ·rw[xT]at k;have:=H.he;have:=H.hg;omega
 ·exact h2
def gQ.next{y1 y0 u d q r:Int}(H:rR y1 y0 u d)(h:gQ y1 y0 u d q r)(h1:4294967296<=q\/4294967296*r+d<q*y0)(h2:r+y1<4294967296):gQ y1 y0 u d (q-1) (r+y1):=by
 have hb:=gQ.big H h h1;have hp:=gQ.pos H h h1;have:=H.ha;have:=h.r0;have:=h.q1;refine⟨by omega,h2,by omega,by omega,?_,?_,λhq=>by omega⟩
 ·rw[yu,z6];have:=h.e;omega
 ·rw[show q-1+1=q by omega];exact hb
def gQ.brk{y1 y0 u d q r:Int}(H:rR y1 y0 u d)(h:gQ y1 y0 u d q r)(h1:4294967296<=q\/4294967296*r+d<q*y0)(h2:4294967296<=r+y1):(q-1)*(y1*4294967296+y0)<=u*4294967296+d:=by
 have hp:=gQ.pos H h h1;have hq:q<=4294967296:=by
  have:=h.q1;have:=h.top;omega
 have k:(q-1)*(y1*4294967296+y0)=(q*y1)*4294967296-y1*4294967296+(q-1)*y0:=by
  rw[y5,<-zQ,yu q 1 y1,z6,yu]
 have k2:(q-1)*y0<=4294967296*y0:=zN (by omega) H.hc;have:=h.e;have:=H.hd;have:=H.hg;rw[k];omega
def LS(y1 y0 u d q:Int):Prop:=0<=q/\q<=4294967297/\q*(y1*4294967296+y0)<=u*4294967296+d/\u*4294967296+d<(q+1)*(y1*4294967296+y0)
def gQ.y0q{y1 y0 u d q r:Int}(H:rR y1 y0 u d)(h:gQ y1 y0 u d q r)(h1:q<4294967296):IntKind.u64.wrap (q*y0)=q*y0:=by
 have k1:0<=q*y0:=zF h.q0 H.hc;have k2:q*y0<=4294967295*y0:=zN (by omega) H.hc;have:=H.hd;exact gK k1 (by omega)
def gQ.rr{y1 y0 u d q r:Int}(H:rR y1 y0 u d)(h:gQ y1 y0 u d q r):IntKind.u64.wrap (IntKind.u64.wrap (4294967296*r)+d)=4294967296*r+d:=by
 have:=h.r0;have:=h.r1;have:=H.hg;have:=H.hh;rw[gK (n:=4294967296*r),gK]
def gQ.cnd{y1 y0 u d q r:Int}(H:rR y1 y0 u d)(h:gQ y1 y0 u d q r):(bif J (4294967296<=q)then V O else V (J (IntKind.u64.wrap (IntKind.u64.wrap (4294967296*r)+d)<IntKind.u64.wrap (q*y0))))=V (J (4294967296<=q\/4294967296*r+d<q*y0)):=by
 by_cases hq:4294967296<=q
 ·rw[bY hq,bY (Or.inl hq),bC]
 ·rw[bX hq,bB,gQ.rr H h,gQ.y0q H h (by omega)];by_cases hc:4294967296*r+d<q*y0
  ·rw[bY hc,bY (Or.inr hc)]
  ·rw[bX hc,bX (λk=>k.elim hq hc)]
def gQ.done{y1 y0 u d q r:Int}(H:rR y1 y0 u d)(h:gQ y1 y0 u d q r)(hr:4294967296<=q\/4294967296*r+d<q*y0->4294967296<=r+y1):LS y1 y0 u d (bif J (4294967296<=q\/4294967296*r+d<q*y0)then q-1 else q):=by
 have h0:=h.q0;have h1:=h.q1;by_cases hc:4294967296<=q\/4294967296*r+d<q*y0
 ·rw[bY hc,bC];have:=gQ.pos H h hc;refine⟨by omega,by omega,gQ.brk H h hc (hr hc),?_⟩;rw[show q-1+1=q by omega];exact gQ.big H h hc
 ·rw[bX hc,bB];exact⟨h0,by omega,gQ.stop H h (by omega) (λk=>hc (.inr k)),h.hi⟩
def gQ.wr1{y1 y0 u d q r:Int}(H:rR y1 y0 u d)(h:gQ y1 y0 u d q r):IntKind.u64.wrap (r+y1)=r+y1:=by
 have:=h.r0;have:=h.r1;have:=H.ha;have:=H.hb;exact gK
def gQ.wq1{y1 y0 u d q r:Int}(H:rR y1 y0 u d)(h:gQ y1 y0 u d q r)(hc:4294967296<=q\/4294967296*r+d<q*y0):IntKind.u64.wrap (q-1)=q-1:=by
 have:=h.q1;have:=gQ.pos H h hc;exact gK
def abB{y s y1 y0 u d e q r:Int}(H:rR y1 y0 u d)(h:gQ y1 y0 u d q r):∃q' r',Jp (oE.mk y s y1 y0 u d e q r)=V (oE.mk y s y1 y0 u d e q' r')/\gQ y1 y0 u d q' r'/\(4294967296<=q'\/4294967296*r'+d<q'*y0->4294967296<=r'+y1):=by
 obtain⟨z,e1,⟨q',r',rfl,hI⟩,hs⟩:=lB (rnd:=A7) (λp=>∃q r,p=oE.mk y s y1 y0 u d e q r/\gQ y1 y0 u d q r) (λp=>p.t15.toNat) (λp p' ⟨q,r,hp,hI⟩ hn=>by
  subst hp;have hn:A7 (oE.mk y s y1 y0 u d e q r)=V (V p'):=hn;simp only[A7]at hn;rw[gQ.cnd H hI]at hn;by_cases hc:4294967296<=q\/4294967296*r+d<q*y0
  ·rw[bY hc]at hn;simp only[bC,gQ.wr1 H hI,gQ.wq1 H hI hc]at hn;by_cases hb:4294967296<=r+y1
   ·rw[bY hb]at hn;cases hn
   ·rw[bX hb]at hn;simp only[bB,zA.injEq]at hn;have hp:=gQ.pos H hI hc;subst hn;exact⟨⟨q-1,r+y1,rfl,gQ.next H hI hc (by omega)⟩,by show (q-1).toNat<q.toNat;omega⟩
  ·rw[bX hc]at hn;cases hn) ⟨q,r,rfl,h⟩
 refine⟨q',r',e1,hI,λhc=> ?_⟩;by_cases hb:4294967296<=r'+y1
 ·exact hb
 ·exact dD (show A7 _=V (V _)by
   simp only[A7];rw[gQ.cnd H hI,bY hc];simp only[bC,gQ.wr1 H hI];rw[bX hb];rfl) (hs _)
def M9{y s y1 y0 u d e q r:Int}(H:rR y1 y0 u d)(h:gQ y1 y0 u d q r):∃q' r',Er (mH.mk y s y1 y0 d e r u q)=V (mH.mk y s y1 y0 d e r' u q')/\gQ y1 y0 u d q' r'/\(4294967296<=q'\/4294967296*r'+d<q'*y0->4294967296<=r'+y1):=by
 obtain⟨z,e1,⟨q',r',rfl,hI⟩,hs⟩:=lB (rnd:=vY) (λp=>∃q r,p=mH.mk y s y1 y0 d e r u q/\gQ y1 y0 u d q r) (λp=>p.t18.toNat) (λp p' ⟨q,r,hp,hI⟩ hn=>by
  subst hp;have hn:vY (mH.mk y s y1 y0 d e r u q)=V (V p'):=hn;simp only[vY]at hn;rw[gQ.cnd H hI]at hn;by_cases hc:4294967296<=q\/4294967296*r+d<q*y0
  ·rw[bY hc]at hn;simp only[bC,gQ.wr1 H hI,gQ.wq1 H hI hc]at hn;by_cases hb:4294967296<=r+y1
   ·rw[bY hb]at hn;cases hn
   ·rw[bX hb]at hn;simp only[bB,zA.injEq]at hn;have hp:=gQ.pos H hI hc;subst hn;exact⟨⟨q-1,r+y1,rfl,gQ.next H hI hc (by omega)⟩,by show (q-1).toNat<q.toNat;omega⟩
  ·rw[bX hc]at hn;cases hn) ⟨q,r,rfl,h⟩
 refine⟨q',r',e1,hI,λhc=> ?_⟩;by_cases hb:4294967296<=r'+y1
 ·exact hb
 ·exact dD (show vY _=V (V _)by
   simp only[vY];rw[gQ.cnd H hI,bY hc];simp only[bC,gQ.wr1 H hI];rw[bX hb];rfl) (hs _)
def alX{n:Int}(h1:0<=n)(h2:n<256):IntKind.u8.wrap n=n:=by
 simp only[IntKind.wrap,IntKind.signed,IntKind.bits]at*;simp;omega
def YF{x:Int}(k:Nat)(hk:k<=64):cL IntKind.u64 x (k:Int)=x/2^k:=by
 unfold cL;rw[show min ((k:Int)).toNat IntKind.u64.bits=k from by simp only[ze,IntKind.bits];omega];exact Int.fdiv_eq_ediv_of_nonneg _ (y8 (Int.pow_pos (by omega)))
def al0(i:Nat):Bool:=i==0||((zM 9).any λt=>(kV.data[i]!).toNat==t&&J (1<=t)&&J (2^(t-1)<=i)&&J (i<2^t))
def agZ:(zM 256).all al0=O:=by kernel_rfl
def acL{x:Int}(h1:1<=x)(h2:x<256):∃t:Nat,1<=t/\t<=8/\cz kV (IntKind.u8.wrap x).toNat=(t:Int)/\2^(t-1)<=x/\x<2^t:=by
 rw[alX (by omega) h2];have h:=zw.mp agZ x.toNat (List.mem_range.mpr (by omega));simp only[al0,yM,beq_iff_eq,wo,List.mem_range,zi,decide_eq_true_eq]at h;rcases h with h|⟨t,ht,⟨⟨h3,h4⟩,h5⟩,h6⟩
 ·omega
 ·have h5':((2^(t-1):Nat):Int)<=(x.toNat:Int):=Int.ofNat_le.mpr h5;have h6':((x.toNat:Nat):Int)<((2^t:Nat):Int):=Int.ofNat_lt.mpr h6;rw[Int.toNat_of_nonneg (by omega),Int.natCast_pow]at h5' h6';exact⟨t,h4,by omega,by unfold cz;rw[h3],h5',h6'⟩
def ab0{a x:Int}{n t:Nat}(h1:1<=t)(h2:t<=8)(hx1:2^(t-1)<=x)(hx2:x<2^t)(hn:n<=56)(ha1:x*2^n<=a)(ha2:a<(x+1)*2^n):
  2^63<=a*2^(64-(n+t))/\a*2^(64-(n+t))<2^64:=by
 have p0:∀k:Nat,(0:Int)<2^k:=λk=>Int.pow_pos (by omega);have e1:(2:Int)^63=2^(t-1)*2^n*2^(64-(n+t)):=by
  rw[<-Int.pow_add,<-Int.pow_add];congr 1;omega
 have e2:(2:Int)^64=2^t*2^n*2^(64-(n+t)):=by
  rw[<-Int.pow_add,<-Int.pow_add];congr 1;omega
 rw[e1,e2];refine⟨zN (xU (zN hx1 (y8 (p0 n))) ha1) (y8 (p0 _)),?_⟩;refine Int.mul_lt_mul_of_pos_right (Int.lt_of_lt_of_le ha2 ?_) (p0 _);exact zN (by omega) (y8 (p0 n))
def Sz(x:Int):cL IntKind.u64 x 32=x/4294967296:=YF (x:=x) 32 (by omega)
def az3(x:Int):cL IntKind.u64 x 16=x/65536:=YF (x:=x) 16 (by omega)
def aEg(x:Int):cL IntKind.u64 x 8=x/256:=YF (x:=x) 8 (by omega)
def YR(a:Int)(r:af Int):Prop:=∃s:Nat,s<=63/\(match r with|G=>G|V r1=>V (i64.wrap (64-r1)))=V (s:Int)/\2^63<=a*2^s/\a*2^s<2^64
def iS{a x:Int}(n:Nat)(hn:n<=56)(hx1:1<=x)(hx2:x<256)(ha1:x*2^n<=a)(ha2:a<(x+1)*2^n):
  YR a (if(0:Int)<=IntKind.u8.wrap x/\IntKind.u8.wrap x<(256:Int)then V (i64.wrap ((n:Int)+i64.wrap (cz kV (IntKind.u8.wrap x).toNat)))else G):=by
 obtain⟨t,h1,h2,h3,h4,h5⟩:=acL hx1 hx2;rw[bE (by rw[alX (by omega) hx2];omega),h3];refine⟨64-(n+t),by omega,?_,ab0 h1 h2 h4 h5 hn ha1 ha2⟩;rw[aG (n:=(t:Int)),aG (n:=(n:Int)+t)];show V _=_;rw[aG]
 congr 1
 omega
def adl{a:Int}(h1:1<=a)(h2:a<18446744073709551616):∃s:Nat,s<=63/\arE a=V (s:Int)/\2^63<=a*2^s/\a*2^s<2^64:=by
 show YR a (ajZ a);unfold ajZ;simp only[Sz,az3,aEg];by_cases c1:4294967296<=a
 ·rw[bY c1,bC];by_cases c2:65536<=a/4294967296
  ·rw[bY c2,bC];by_cases c3:256<=a/4294967296/65536
   ·rw[bY c3,bC];exact iS 56 (by omega) (by omega) (by omega) (by omega) (by omega)
   ·rw[bX c3,bB];exact iS 48 (by omega) (by omega) (by omega) (by omega) (by omega)
  ·rw[bX c2,bB];by_cases c3:256<=a/4294967296
   ·rw[bY c3,bC];exact iS 40 (by omega) (by omega) (by omega) (by omega) (by omega)
   ·rw[bX c3,bB];exact iS 32 (by omega) (by omega) (by omega) (by omega) (by omega)
 ·rw[bX c1,bB];by_cases c2:65536<=a
  ·rw[bY c2,bC];by_cases c3:256<=a/65536
   ·rw[bY c3,bC];exact iS 24 (by omega) (by omega) (by omega) (by omega) (by omega)
   ·rw[bX c3,bB];exact iS 16 (by omega) (by omega) (by omega) (by omega) (by omega)
  ·rw[bX c2,bB];by_cases c3:256<=a
   ·rw[bY c3,bC];exact iS 8 (by omega) (by omega) (by omega) (by omega) (by omega)
   ·rw[bX c3,bB];exact iS 0 (by omega) (by omega) (by omega) (by omega) (by omega)
def an2{x:Int}(k:Nat)(hk:k<=64):mh IntKind.u64 x (k:Int)=(x*2^k)%18446744073709551616:=by
 unfold mh;rw[show min ((k:Int)).toNat IntKind.u64.bits=k from by simp only[ze,IntKind.bits];omega];exact Qg _
def K0{x:Int}(h1:0<=x)(h2:x<18446744073709551616):(BitVec.ofInt 64 x).toNat=x.toNat:=by
 rw[BitVec.toNat_ofInt]
 congr 1
 omega
def YJ{x:Int}(h1:0<=x)(h2:x<18446744073709551616):sK IntKind.u64 x 4294967295=x%4294967296:=by
 unfold sK;show IntKind.u64.wrap ((BitVec.ofInt 64 x&&&BitVec.ofInt 64 4294967295).toNat:Int)=_;rw[BitVec.toNat_and,K0 h1 h2,K0 (by omega) (by omega),show (4294967295:Int).toNat=2^32-1 from rfl,Nat.and_two_pow_sub_one_eq_mod,gK];omega
def orU{a b:Nat}{k:Nat}(hb:b<2^k)(h:2^k*a+b<18446744073709551616):bOr IntKind.u64 ((2^k*a:Nat):Int) (b:Int)=((2^k*a+b:Nat):Int):=by
 unfold bOr;show IntKind.u64.wrap ((BitVec.ofInt 64 ((2^k*a:Nat):Int)|||BitVec.ofInt 64 (b:Int)).toNat:Int)=_;rw[BitVec.toNat_or,K0 (by omega) (by omega),K0 (by omega) (by omega),ze,ze,<-Nat.two_pow_add_eq_or_of_lt hb,gK]
def jX{a b:Int}(h1:0<=a:=by omega):a.tdiv b=a/b:=Int.tdiv_eq_ediv_of_nonneg h1
def kr{a b:Int}(h1:0<=a:=by omega):a.tmod b=a%b:=Int.tmod_eq_emod_of_nonneg h1
def wq0{u y1:Int}(h1:0<=u)(h2:u<18446744073709551616)(h3:2<=y1):IntKind.u64.wrap (u.tdiv y1)=u/y1:=by
 rw[jX h1];have:u/y1<=u:=yg _ h1;exact gK (zR h1 (by omega)) (by omega)
def wr0{u y1:Int}(h1:0<=u)(h2:u<18446744073709551616)(h3:2<=y1):IntKind.u64.wrap (u-IntKind.u64.wrap (u/y1*y1))=u%y1:=by
 have e:=yV u y1;have m0:=yW u (b:=y1) (by omega);rw[zI]at e;have q0:0<=u/y1*y1:=zF (zR h1 (by omega)) (by omega);rw[gK (n:=u/y1*y1) q0 (by omega),gK];omega
def amc{u d q y:Int}(h1:q*y<=u*4294967296+d)(h2:u*4294967296+d<(q+1)*y)(hy:y<18446744073709551616):
  IntKind.u64.wrap (IntKind.u64.wrap (IntKind.u64.wrap (u*4294967296)+d)-IntKind.u64.wrap (q*y))=u*4294967296+d-q*y:=by
 rw[zS,z6]at h2;generalize q*y=z at*;simp only[Qg];omega
def anZ{hi lo y:Int}(h0:0<=hi)(h1:hi<y)(h2:y<18446744073709551616)(h3:0<=lo)(h4:lo<18446744073709551616):∃q,aaA hi lo y=V (q,(hi*18446744073709551616+lo)%y):=by
 by_cases hz:hi=0
 ·subst hz;refine⟨IntKind.u64.wrap (lo.tdiv y),?_⟩;unfold aaA;rw[gh,gh,bY rfl,bB,bB,bC,gY,gY,kr h3];rw[show (0:Int)*18446744073709551616+lo=lo by omega]
 obtain⟨s,hs,es,b1,b2⟩:=adl (a:=y) (by omega) h2;have hP:(0:Int)<2^s:=Int.pow_pos (by omega);have hQ:(0:Int)<2^(64-s):=Int.pow_pos (by omega);have hPQ:(2:Int)^(64-s)*2^s=18446744073709551616:=by rw[<-Int.pow_add,show 64-s+s=64 by omega];rfl
 have b1:(9223372036854775808:Int)<=y*2^s:=b1;have b2:y*2^s<18446744073709551616:=b2;have eY:mh IntKind.u64 y (s:Int)=y*2^s:=by rw[an2 s (by omega),Int.emod_eq_of_lt (by omega) b2]
 have lb:lo/2^(64-s)<2^s:=wT hQ (by rw[zI,hPQ];exact h4);have lb0:0<=lo/2^(64-s):=zR h3 (by omega);have hy1:(hi+1)*2^s<=y*2^s:=zN (by omega) (by omega);have hy2:(hi+1)*2^s=hi*2^s+2^s:=by rw[zS,z6]
 have hp0:0<=hi*2^s:=zF h0 (by omega);have eU:bOr IntKind.u64 (mh IntKind.u64 hi (s:Int)) (cL IntKind.u64 lo (IntKind.u64.wrap (64-(s:Int))))=hi*2^s+lo/2^(64-s):=by
  rw[an2 s (by omega),Int.emod_eq_of_lt hp0 (by omega),gK (n:=64-(s:Int)),show (64-(s:Int))=((64-s:Nat):Int)by omega,YF (64-s) (by omega)];obtain⟨a,rfl⟩:=wU h0;obtain⟨b,hb⟩:=wU lb0;rw[hb]at lb ⊢;have e:(a:Int)*2^s=((2^s*a:Nat):Int):=by rw[xI,Int.natCast_pow,zI];rfl
  have lb':b<2^s:=by
   have:((b:Nat):Int)<((2^s:Nat):Int):=by rw[Int.natCast_pow];exact lb
   exact Int.ofNat_lt.mp this
  rw[e]at hp0 hy2 ⊢;rw[orU lb' (by omega)];omega
 have eD:mh IntKind.u64 lo (s:Int)=(lo*2^s)%18446744073709551616:=an2 s (by omega);have key:(hi*18446744073709551616+lo)*2^s=(hi*2^s+lo/2^(64-s))*18446744073709551616+(lo*2^s)%18446744073709551616:=by
  have k1:=yV (lo*2^s) 18446744073709551616;have k2:lo*2^s/18446744073709551616=lo/2^(64-s):=by rw[<-hPQ];exact Int.mul_ediv_mul_of_pos_left _ _ hP
  rw[k2]at k1;rw[zS,zQ,zI 18446744073709551616 (2^s),<-zQ];omega
 have hD0:0<=(lo*2^s)%18446744073709551616:=by omega
 have hD1:(lo*2^s)%18446744073709551616<18446744073709551616:=by omega
 have hU0:0<=hi*2^s+lo/2^(64-s):=by omega
 have hU1:hi*2^s+lo/2^(64-s)<y*2^s:=by omega
 have res:∀Q,Q*(y*2^s)<=(hi*18446744073709551616+lo)*2^s->(hi*18446744073709551616+lo)*2^s<(Q+1)*(y*2^s)->((hi*18446744073709551616+lo)*2^s-Q*(y*2^s))/2^s=(hi*18446744073709551616+lo)%y:=λQ q1 q2=>by
  rw[<-zQ,<-yu,Int.mul_ediv_cancel _ (by omega)];rw[<-zQ]at q1 q2;have q1:=Int.le_of_mul_le_mul_right q1 hP;have q2:=wK q2 (y8 hP);rw[zS,z6]at q2;have e:=yV (hi*18446744073709551616+lo) y;generalize hi*18446744073709551616+lo=X at*;have:X/y=Q:=by
   apply Int.le_antisymm
   ·have:X/y<Q+1:=wT (by omega) (by rw[zS,z6];exact q2);omega
   ·exact Int.le_ediv_of_mul_le (by omega) q1
  rw[this,zI]at e;omega
 rw[key]at res;unfold aaA;rw[bX (show ¬y=0 by omega),bX (show ¬y<=hi by omega),bX hz,bB,bB,bB,es];simp only[gK (n:=(s:Int))];rw[eY,eU,eD,gK (n:=64-(s:Int)),gY,gY,gY,gY];generalize hi*2^s+lo/2^(64-s)=U at*;generalize (lo*2^s)%18446744073709551616=D at*;generalize y*2^s=Y at*;clear eY eU eD key hy1 hy2 hp0 lb lb0 hPQ hQ h1 hz;have eY1:Y/4294967296*4294967296+Y%4294967296=Y:=by omega
 have H0:rR (Y/4294967296) (Y%4294967296) U (D/4294967296):=⟨by omega,by omega,by omega,by omega,hU0,by omega,by omega,by omega⟩;have hU2:U<18446744073709551616:=by omega
 rw[Sz,Sz,YJ hD0 hD1,YJ (by omega) b2,gY,wq0 hU0 hU2 (by omega),wr0 hU0 hU2 (by omega)];obtain⟨q1,r1,e1,I1,s1⟩:=abB (y:=Y) (s:=(s:Int)) (e:=D%4294967296) H0 (gQ.start H0);rw[e1];have D1:=gQ.done H0 I1 s1;simp only[gQ.cnd H0 I1,gQ.wr1 H0 I1];have second:∀Q1,LS (Y/4294967296) (Y%4294967296) U (D/4294967296) Q1->∃W,rR (Y/4294967296) (Y%4294967296) W (D%4294967296)/\IntKind.u64.wrap (IntKind.u64.wrap (IntKind.u64.wrap (U*4294967296)+D/4294967296)-IntKind.u64.wrap (Q1*Y))=W/\W=U*4294967296+D/4294967296-Q1*Y/\0<=W/\W<Y:=λQ1 hk=>by
  unfold LS at hk;rw[eY1]at hk;obtain⟨k0,k1,k2,k3⟩:=hk;have k4:=k3;rw[zS,z6]at k4;exact⟨_,⟨by omega,by omega,by omega,by omega,by omega,by omega,by omega,by omega⟩,amc k2 k3 b2,rfl,by omega,by omega⟩
 have fin:∀Q1 Q2 W,W=U*4294967296+D/4294967296-Q1*Y->LS (Y/4294967296) (Y%4294967296) W (D%4294967296) Q2->cL IntKind.u64 (IntKind.u64.wrap (IntKind.u64.wrap (IntKind.u64.wrap (W*4294967296)+D%4294967296)-IntKind.u64.wrap (Q2*Y))) (s:Int)=(hi*18446744073709551616+lo)%y:=λQ1 Q2 W hW hk=>by
  unfold LS at hk;rw[eY1]at hk;obtain⟨k0,k1,k2,k3⟩:=hk;rw[amc k2 k3 b2,YF s (by omega)];have e:U*18446744073709551616+D=W*4294967296+D%4294967296+Q1*4294967296*Y:=by
   rw[hW,zQ,zI 4294967296 Y,<-zQ];omega
  rw[<-res (Q1*4294967296+Q2)]
  ·congr 1
   rw[zS];omega
  ·rw[zS];omega
  ·rw[zS,z6]at k3;rw[Int.add_assoc,zS,zS Q2,z6];omega
 by_cases c1:4294967296<=q1\/4294967296*r1+D/4294967296<q1*(Y%4294967296)
 ·rw[bY c1]at D1 ⊢;rw[bC]at D1;rw[bC,bY (s1 c1),bC,gY,gQ.wq1 H0 I1 c1];obtain⟨W,H1,w1,w2,w3,w4⟩:=second _ D1;rw[w1,wq0 w3 (by omega) (by omega),wr0 w3 (by omega) (by omega)];obtain⟨q2,r2,e2,I2,s2⟩:=M9 (y:=Y) (s:=(s:Int)) (e:=q1-1) H1 (gQ.start H1);rw[e2];have D2:=gQ.done H1 I2 s2;simp only[gQ.cnd H1 I2,gQ.wr1 H1 I2];by_cases c2:4294967296<=q2\/4294967296*r2+D%4294967296<q2*(Y%4294967296)
  ·rw[bY c2]at D2 ⊢;rw[bC]at D2;rw[bC,bY (s2 c2),bC,gY,gQ.wq1 H1 I2 c2,fin _ _ W w2 D2];exact⟨_,rfl⟩
  ·rw[bX c2]at D2 ⊢;rw[bB]at D2;rw[bB,gY,fin _ _ W w2 D2];exact⟨_,rfl⟩
 ·rw[bX c1]at D1 ⊢;rw[bB]at D1;rw[bB,gY];obtain⟨W,H1,w1,w2,w3,w4⟩:=second _ D1;rw[w1,wq0 w3 (by omega) (by omega),wr0 w3 (by omega) (by omega)];obtain⟨q2,r2,e2,I2,s2⟩:=M9 (y:=Y) (s:=(s:Int)) (e:=q1) H1 (gQ.start H1);rw[e2];have D2:=gQ.done H1 I2 s2;simp only[gQ.cnd H1 I2,gQ.wr1 H1 I2];by_cases c2:4294967296<=q2\/4294967296*r2+D%4294967296<q2*(Y%4294967296)
  ·rw[bY c2]at D2 ⊢;rw[bC]at D2;rw[bC,bY (s2 c2),bC,gY,gQ.wq1 H1 I2 c2,fin _ _ W w2 D2];exact⟨_,rfl⟩
  ·rw[bX c2]at D2 ⊢;rw[bB]at D2;rw[bB,gY,fin _ _ W w2 D2];exact⟨_,rfl⟩
def mul_lt{a b m n:Int}(h1:0<=a)(h2:a<=m)(h3:0<=b)(h4:b<=n):0<=a*b/\a*b<=m*n:=
 ⟨zF h1 h3,xA h2 h4 h3 (by omega)⟩
def aqQ{x y:Int}(h1:0<=x)(h2:x<18446744073709551616)(h3:0<=y)(h4:y<18446744073709551616):ZJ x y=(x*y/18446744073709551616,x*y%18446744073709551616):=by
 unfold ZJ;simp only[Sz,YJ h1 h2,YJ h3 h4];have e:x*y=(x/4294967296*(y/4294967296))*18446744073709551616+(x/4294967296*(y%4294967296))*4294967296+(x%4294967296*(y/4294967296))*4294967296+x%4294967296*(y%4294967296):=by
  conv=>lhs;rw[show x=x/4294967296*4294967296+x%4294967296 by omega,show y=y/4294967296*4294967296+y%4294967296 by omega]
  generalize x/4294967296=a;generalize x%4294967296=b;generalize y/4294967296=c;generalize y%4294967296=d;rw[zS,y5,y5,zQ,Int.mul_left_comm 4294967296 c,zQ,zI 4294967296 d,<-zQ b,<-zQ a d,<-zQ a c];omega
 obtain⟨a0,a1⟩:=mul_lt (a:=x/4294967296) (b:=y/4294967296) (m:=4294967295) (n:=4294967295) (by omega) (by omega) (by omega) (by omega);obtain⟨b0,b1⟩:=mul_lt (a:=x/4294967296) (b:=y%4294967296) (m:=4294967295) (n:=4294967295) (by omega) (by omega) (by omega) (by omega);obtain⟨c0,c1⟩:=mul_lt (a:=x%4294967296) (b:=y/4294967296) (m:=4294967295) (n:=4294967295) (by omega) (by omega) (by omega) (by omega);obtain⟨d0,d1⟩:=mul_lt (a:=x%4294967296) (b:=y%4294967296) (m:=4294967295) (n:=4294967295) (by omega) (by omega) (by omega) (by omega);rw[e];generalize x/4294967296*(y/4294967296)=A at*;generalize x/4294967296*(y%4294967296)=B at*;generalize x%4294967296*(y/4294967296)=C at*;generalize x%4294967296*(y%4294967296)=D at*;rw[gK (n:=A),gK (n:=B),gK (n:=C),gK (n:=D),
  gK (n:=B+D/4294967296),YJ (by omega) (by omega),gK (n:=(B+D/4294967296)%4294967296+C)]
 rw[gK (n:=A+(B+D/4294967296)/4294967296),gK,Qg]
 congr 1
 omega
def aqT{x y m:Int}(h1:0<=x)(h2:x<m)(h3:0<=y)(h4:y<m)(h5:m<9223372036854775808):adz x y m=V (x*y%m):=by
 unfold adz;rw[gK h1 (by omega),gK h3 (by omega),gK (n:=m),aqQ h1 (by omega) h3 (by omega)];simp only;obtain⟨k0,k1⟩:=mul_lt (a:=x) (b:=y) (m:=m) (n:=m-1) h1 (by omega) h3 (by omega);have hx:x*y<m*18446744073709551616:=by
  have:m*(m-1)<=m*18446744073709551615:=wV (by omega) (by omega);omega
 unfold ao4;have hh:x*y/18446744073709551616<m:=wT (by omega) hx;have hh0:0<=x*y/18446744073709551616:=by omega
 rw[gY,kr hh0,Int.emod_eq_of_lt hh0 hh];obtain⟨q,e⟩:=anZ hh0 hh (by omega) (show 0<=x*y%18446744073709551616 by omega) (by omega);rw[e,show x*y/18446744073709551616*18446744073709551616+x*y%18446744073709551616=x*y by omega];simp only;have r0:=yW (x*y) (b:=m) (by omega);have r1:=y4 (x*y) (b:=m) (by omega);rw[aG]
def cv(a b:Int):Int:=((yE a b:Nat):Int)
def qG{a b:Int}(h1:0<=a)(h2:0<=b):yE b (a.tmod b)=yE a b:=by
 obtain⟨x,rfl⟩:=wU h1;obtain⟨y,rfl⟩:=wU h2;rw[kr h1];show Nat.gcd y ((x:Int)%(y:Int)).natAbs=Nat.gcd x y;rw[<-Int.natCast_emod,Int.natAbs_natCast,Nat.gcd_comm,<-Nat.gcd_rec,Nat.gcd_comm]
def am9{a:Int}(h:0<=a):((yE a 0:Nat):Int)=a:=by
 rw[Int.gcd_zero_right];omega
def BP{x:Int}:(bif J (x=0)then S else O)=J (¬x=0):=by
 by_cases h:x=0
 ·rw[bY h,bX (λk=>k h)];rfl
 ·rw[bX h,bY h];rfl
def aoH{a b:Int}(h1:0<=a)(h2:0<=b):Q7 (pQ.mk a b)=V (pQ.mk (yE a b) 0):=by
 obtain⟨z,e,⟨x,y,rfl,hx,hy,hg⟩,hs⟩:=lB (rnd:=sG) (λp=>∃x y,p=pQ.mk x y/\0<=x/\0<=y/\yE x y=yE a b) (λp=>p.t1.toNat) (λp p' ⟨x,y,hp,hx,hy,hg⟩ hn=>by
  subst hp;have hn:sG (pQ.mk x y)=V (V p'):=hn;simp only[sG,BP]at hn;by_cases h0:y=0
  ·rw[gh,bB]at hn;cases hn
  ·rw[bY h0,bC,bE h0]at hn;simp only[zA.injEq]at hn;subst hn;have m0:=yW x (b:=y) h0;have m1:=y4 x (b:=y) (by omega);refine⟨⟨y,x.tmod y,rfl,hy,by rw[kr hx];exact m0,by rw[qG hx hy,hg]⟩,?_⟩;show (x.tmod y).toNat<y.toNat
   rw[kr hx];omega) ⟨a,b,rfl,h1,h2,rfl⟩
 have h0:y=0:=Decidable.byContradiction λh0=>hs _ (show sG _=V (V _)by
  simp only[sG,BP];rw[bY h0,bC,bE h0])
 subst h0;rw[show Q7=bJ sG from rfl,e,<-hg,am9 hx]
def Cd{a b:Int}(h1:0<=a)(h2:0<=b):EA a b=V (cv a b):=by
 unfold EA;rw[aoH h1 h2];rfl
def aoD{a b k n:Int}{l:aa Int}(h1:0<=a)(h2:0<=b):AN (mJ.mk a b l n k)=V (mJ.mk (yE a b) 0 l n k):=by
 obtain⟨z,e,⟨x,y,rfl,hx,hy,hg⟩,hs⟩:=lB (rnd:=sQ) (λp=>∃x y,p=mJ.mk x y l n k/\0<=x/\0<=y/\yE x y=yE a b) (λp=>p.t5.toNat) (λp p' ⟨x,y,hp,hx,hy,hg⟩ hn=>by
  subst hp;have hn:sQ (mJ.mk x y l n k)=V (V p'):=hn;simp only[sQ,BP]at hn;by_cases h0:y=0
  ·rw[gh,bB]at hn;cases hn
  ·rw[bY h0,bC,bE h0]at hn;simp only[zA.injEq]at hn;subst hn;have m0:=yW x (b:=y) h0;have m1:=y4 x (b:=y) (by omega);refine⟨⟨y,x.tmod y,rfl,hy,by rw[kr hx];exact m0,by rw[qG hx hy,hg]⟩,?_⟩;show (x.tmod y).toNat<y.toNat
   rw[kr hx];omega) ⟨a,b,rfl,h1,h2,rfl⟩
 have h0:y=0:=Decidable.byContradiction λh0=>hs _ (show sQ _=V (V _)by
  simp only[sQ,BP];rw[bY h0,bC,bE h0])
 subst h0;rw[show AN=bJ sQ from rfl,e,<-hg,am9 hx]
def D7{a k k1:Int}{l:aa Int}(i:Nat)(h1:0<=a)(hk:k=i)(hk1:k1=i+1)(hi:i<l.length)(hl:l.length<=1000)(h2:0<=l[i]!):tT (tH.mk a l l.length k)=V (V (tH.mk (cv a l[i]!) l l.length k1)):=by
 subst hk hk1;unfold tT;simp only;rw[nH,bC,gY,ze,aoD h1 h2];simp only;rw[bY trivial,bC,bB,aG];rfl
def DC{a b:Int}(h1:0<=a)(h2:0<=b):BG [a,b]=V (cv a b):=by
 unfold BG;rw[show E8=bJ tT from rfl,
  bM (D7 (l:=[a,b]) (k:=0) (k1:=1) 0 (zm 0) rfl rfl (by simp) (by simp) h1),bM (D7 (l:=[a,b]) (k:=1) (k1:=2) 1 (by unfold cv;omega) rfl rfl (by simp) (by simp) h2)]
 rw[b9 (by intro r hr;simp[tT]at hr)];simp only;rw[bX (by simp),bB];show V (cv (cv 0 a) b)=_;unfold cv;rw[Int.gcd_zero_left,show ((a.natAbs:Nat):Int)=a by omega]
def CN{a b c:Int}(h1:0<=a)(h2:0<=b)(h3:0<=c):BG [a,b,c]=V (cv (cv a b) c):=by
 unfold BG;rw[show E8=bJ tT from rfl,
  bM (D7 (l:=[a,b,c]) (k:=0) (k1:=1) 0 (zm 0) rfl rfl (by simp) (by simp) h1),bM (D7 (l:=[a,b,c]) (k:=1) (k1:=2) 1 (by unfold cv;omega) rfl rfl (by simp) (by simp) h2),
  bM (D7 (l:=[a,b,c]) (k:=2) (k1:=3) 2 (by unfold cv;omega) rfl rfl (by simp) (by simp) h3)]
 rw[b9 (by intro r hr;simp[tT]at hr)];simp only;rw[bX (by simp),bB];show V (cv (cv (cv 0 a) b) c)=_;rw[show cv 0 a=a from by unfold cv;rw[Int.gcd_zero_left];omega]
end Go.Proofs.YtnfljbehcffmcaaGreat
end
noncomputable section
namespace Go.Iv
open Go
variable [U:qO] [L:mI]
def M1{α β ρ τ:Type}(step:Nat->β->α->β ⊕ ρ)(out:ρ->τ)(fin:β->τ):aa α->Nat->β->τ
 |[],_,b=>fin b
 |x::xs,i,b=>match step i b x with
  | .inl b'=>M1 step out fin xs (i+1) b'
  | .inr r=>out r
def rC{α β ρ τ:Type}{step:Nat->β->α->β ⊕ ρ}{out:ρ->τ}{fin:β->τ}{x:α}{xs:aa α}{i:Nat}{b b':β}(h:step i b x= .inl b'):M1 step out fin (x::xs) i b=M1 step out fin xs (i+1) b':=by
 simp only[M1,h]
def nM{α β ρ τ:Type}{step:Nat->β->α->β ⊕ ρ}{out:ρ->τ}{fin:β->τ}{x:α}{xs:aa α}{i:Nat}{b:β}{r:ρ}(h:step i b x= .inr r):M1 step out fin (x::xs) i b=out r:=by
 simp only[M1,h]
def TE{γ α β ρ τ:Type}[Inhabited α]{rnd:γ->af (af γ)}(l:aa α)(mk:Nat->β->γ)(step:Nat->β->α->β ⊕ ρ)(out:ρ->τ)(fin:β->τ)(I:Nat->β->Prop)
  (h1:∀i b,i<l.length->I i b->(∀b',step i b l[i]! = .inl b'->rnd (mk i b)=V (V (mk (i+1) b'))/\I (i+1) b')/\∀r,step i b l[i]! = .inr r->rnd (mk i b)=V G)
  (h2:∀b,I l.length b->rnd (mk l.length b)=V G) {b:β} (hb:I 0 b):
  ∃i v,bJ rnd (mk 0 b)=V (mk i v)/\I i v/\((i=l.length/\M1 step out fin l 0 b=fin v)\/(i<l.length/\∃r,step i v l[i]! = .inr r/\M1 step out fin l 0 b=out r)):=by
 have key:∀(xs:aa α) (i:Nat) (b:β),l.drop i=xs->i<=l.length->I i b->∃j v,bJ rnd (mk i b)=V (mk j v)/\I j v/\((j=l.length/\M1 step out fin xs i b=fin v)\/(j<l.length/\∃r,step j v l[j]! = .inr r/\M1 step out fin xs i b=out r)):=by
  intro xs;induction xs with
  |nil=>
   intro i b hd hi hb;have:i=l.length:=by have:=congrArg zP hd;simp at this;omega
   subst this;exact⟨_,b,b9 (λr=>by rw[h2 b hb];simp),hb, .inl ⟨rfl,rfl⟩⟩
  |cons x xs ih=>
   intro i b hd hi hb;have hil:i<l.length:=by have:=congrArg zP hd;simp at this;omega
   have hx:l[i]! =x:=by
    have:=congrArg List.head? hd;rw[List.head?_drop,zu hil]at this;rw[getElem!_pos l i hil];simpa using this
   have hd':l.drop (i+1)=xs:=by
    have:=congrArg List.tail hd;rw[List.tail_drop]at this;simpa using this
   obtain⟨p1,p2⟩:=h1 i b hil hb;cases hs:step i b x with
   |inl b'=>
    obtain⟨q1,q2⟩:=p1 b' (by rw[hx];exact hs);obtain⟨j,v,e2,e3,e4⟩:=ih (i+1) b' hd' hil q2;rw[rC hs];exact⟨j,v,by rw[bM q1];exact e2,e3,e4⟩
   |inr r=>
    rw[nM hs];exact⟨i,b,b9 (λr'=>by rw[p2 r (by rw[hx];exact hs)];simp),hb, .inr ⟨hil,r,by rw[hx];exact hs,rfl⟩⟩
 exact key l 0 b rfl (yT _) hb
def bh{α:Type}[Inhabited α]{l:aa α}{i:Nat}(h:i<l.length):l[i]!∈l:=by rw[getElem!_pos l i h];exact xM h
def fu{i n:Nat}(h:i<n)(hn:n<=1000000):IntKind.i64.wrap ((i:Int)+1)=((i+1:Nat):Int):=by rw[aG];omega
def lH{γ β:Type}{rnd:γ->af (af γ)}(n:Nat)(mk:Nat->β->γ)(I za:Nat->β->Prop)
  (h1:∀i b,i<n->I i b->(∃b',rnd (mk i b)=V (V (mk (i+1) b'))/\I (i+1) b')\/(rnd (mk i b)=V G/\za i b))
  (h2:∀b,I n b->rnd (mk n b)=V G) {b:β} (hb:I 0 b):
  ∃i v,bJ rnd (mk 0 b)=V (mk i v)/\I i v/\(i=n\/(i<n/\za i v)):=by
 have key:∀(k i:Nat) (b:β),i+k=n->I i b->∃j v,bJ rnd (mk i b)=V (mk j v)/\I j v/\(j=n\/(j<n/\za j v)):=by
  intro k;induction k with
  |zero=>
   intro i b hi hb;have:i=n:=by omega
   subst this;exact⟨_,b,b9 (λr=>by rw[h2 b hb];simp),hb, .inl rfl⟩
  |succ k ih=>
   intro i b hi hb;rcases h1 i b (by omega) hb with ⟨b',q1,q2⟩|⟨q1,q2⟩
   ·rw[bM q1];exact ih (i+1) b' (by omega) q2
   ·exact⟨i,b,b9 (λr=>by rw[q1];simp),hb, .inr ⟨by omega,q2⟩⟩
 exact key n 0 b (by omega) hb
def dc{γ β:Type}{rnd:γ->af (af γ)}(n:Nat)(mk:Nat->β->γ)(I:Nat->β->Prop)
  (h1:∀i b,i<n->I i b->∃b',rnd (mk i b)=V (V (mk (i+1) b'))/\I (i+1) b')
  (h2:∀b,I n b->rnd (mk n b)=V G) {b:β} (hb:I 0 b):∃v,bJ rnd (mk 0 b)=V (mk n v)/\I n v:=by
 obtain⟨i,v,e,hi,h⟩:=lH n mk I (λ_ _=>False) (λi b hi hb=> .inl (h1 i b hi hb)) h2 hb;rcases h with rfl|⟨_,h⟩
 ·exact⟨v,e,hi⟩
 ·exact h.elim
def cu{α:Type}(c:Nat->α->Int):aa α->Nat->Int
 |[],_=>0
 |x::xs,i=>if c i x=0 then cu c xs (i+1)else c i x
def sw{γ α:Type}[Inhabited α]{rnd:γ->af (af γ)}(l:aa α)(mk:Nat->γ)(c:Nat->α->Int)
  (h1:∀i,i<l.length->(c i l[i]! =0->rnd (mk i)=V (V (mk (i+1))))/\(c i l[i]!≠0->rnd (mk i)=V G))
  (h2:rnd (mk l.length)=V G):
  ∃i,bJ rnd (mk 0)=V (mk i)/\((i=l.length/\cu c l 0=0)\/(i<l.length/\c i l[i]!≠0/\cu c l 0=c i l[i]!)):=by
 have key:∀(xs:aa α) (i:Nat),l.drop i=xs->i<=l.length->∃j,bJ rnd (mk i)=V (mk j)/\((j=l.length/\cu c xs i=0)\/(j<l.length/\c j l[j]!≠0/\cu c xs i=c j l[j]!)):=by
  intro xs;induction xs with
  |nil=>
   intro i hd hi;have:i=l.length:=by have:=congrArg zP hd;simp at this;omega
   subst this;exact⟨_,b9 (λr=>by rw[h2];simp), .inl ⟨rfl,rfl⟩⟩
  |cons x xs ih=>
   intro i hd hi;have hil:i<l.length:=by have:=congrArg zP hd;simp at this;omega
   have hx:l[i]! =x:=by
    have:=congrArg List.head? hd;rw[List.head?_drop,zu hil]at this;rw[getElem!_pos l i hil];simpa using this
   have hd':l.drop (i+1)=xs:=by
    have:=congrArg List.tail hd;rw[List.tail_drop]at this;simpa using this
   obtain⟨p1,p2⟩:=h1 i hil;unfold cu;rw[hx]at p1 p2;by_cases hc:c i x=0
   ·rw[bE hc,bM (p1 hc)];exact ih (i+1) hd' hil
   ·rw[bO hc];exact⟨i,b9 (λr=>by rw[p2 hc];simp), .inr ⟨hil,by rw[hx];exact hc,by rw[hx]⟩⟩
 exact key l 0 rfl (yT _)
def p6{γ α:Type}[Inhabited α]{rnd:γ->af (af γ)}(l:aa α)(mk:Nat->γ)(c:Nat->α->Bool)
  (h1:∀i,i<l.length->(c i l[i]! =O->rnd (mk i)=V (V (mk (i+1))))/\(c i l[i]! =S->rnd (mk i)=V G))
  (h2:rnd (mk l.length)=V G):
  ∃i,bJ rnd (mk 0)=V (mk i)/\((i=l.length/\∀j,j<l.length->c j l[j]! =O)\/(i<l.length/\c i l[i]! =S)):=by
 obtain⟨i,v,e,hI,h⟩:=lH (β:=Unit) (rnd:=rnd) l.length (λi _=>mk i) (λi _=>∀j,j<i->c j l[j]! =O) (λi _=>c i l[i]! =S) (λi b hi hI=>by
   obtain⟨p1,p2⟩:=h1 i hi;cases hc:c i l[i]! with
   |true=>exact .inl ⟨(),p1 hc,λj hj=>by
     rcases y9.1 hj with h|h
     ·exact hI j h
     ·subst h;exact hc⟩
   |false=>exact .inr ⟨p2 hc,rfl⟩) (λb _=>h2) (b:=()) (λj hj=>dD hj (by omega))
 refine⟨i,e,?_⟩;rcases h with h|h
 ·subst h;exact .inl ⟨rfl,hI⟩
 ·exact .inr h
def Fs{α:Type}[Inhabited α]{l:aa α}{p:α->Bool}(h:∀j,j<l.length->p l[j]! =O):l.all p=O:=by
 rw[zw];intro x hx;obtain⟨i,hi,e⟩:=yZ hx;have:=h i hi;rw[getElem!_pos l i hi,e]at this;exact this
def uU{α:Type}[Inhabited α]{l:aa α}{p:α->Bool}{i:Nat}(hi:i<l.length)(h:p l[i]! =S):l.all p=S:=by
 cases ha:l.all p with
 |false=>rfl
 |true=>
  rw[zw]at ha;rw[ha _ (bh hi)]at h;exact dD h (by decide)
def uW{α:Type}[Inhabited α]{l:aa α}{p:α->Bool}(h:∀j,j<l.length->p l[j]! =S):l.any p=S:=by
 cases ha:l.any p with
 |false=>rfl
 |true=>
  obtain⟨x,hx,e⟩:=wo.1 ha;obtain⟨i,hi,e2⟩:=yZ hx;have:=h i hi;rw[getElem!_pos l i hi,e2,e]at this;exact dD this (by decide)
def DH{α:Type}[Inhabited α]{l:aa α}{p:α->Bool}{i:Nat}(hi:i<l.length)(h:p l[i]! =O):l.any p=O:=
 wo.2 ⟨_,bh hi,h⟩
def bK{α:Type}[Inhabited α]{l:aa α}{i:Nat}(h:i<l.length):l.take (i+1)=l.take i++[l[i]!]:=by
 rw[getElem!_pos l i h];exact(List.take_append_getElem h).symm
end Go.Iv
end
noncomputable section
set_option maxRecDepth 100000
namespace Go.Proofs.YtnfljbehcffmcaaGreat
open Go Go.Iv
open Go.IntKind (i64 u64)
def cG:aH:=aH.mk 1 0 0
structure NN (a:aH):Prop where
 lo: -1099511627776<=a.ag
 hi:a.ah<=1099511627776
 le:a.ag<=a.ah
 st:(a.ag=a.ah/\a.aj=0)\/(a.ag<a.ah/\1<=a.aj/\(a.ah-a.ag)%a.aj=0)
def NV(a:aH):Prop:=a=cG\/NN a
def NN.s0{a:aH}(h:NN a):0<=a.aj:=by rcases h.st with ⟨_,h⟩|⟨_,h,_⟩<;>omega
def NN.dvd{a:aH}(h:NN a):a.aj∣a.ah-a.ag:=by
 rcases h.st with ⟨h1,h2⟩|⟨_,_,h3⟩
 ·rw[h2,h1];exact⟨0,by omega⟩
 ·exact wL h3
def NN.sle{a:aH}(h:NN a):a.aj<=a.ah-a.ag:=by
 rcases h.st with ⟨h1,h2⟩|⟨h1,_,h3⟩
 ·omega
 ·exact Int.le_of_dvd (by omega) (wL h3)
def NN.ne{a:aH}(h:NN a):a≠cG:=λe=>by
 have:=h.le;rw[e]at this;exact dD this (by decide)
def Ct{a b:aH}(h1:a.ag=b.ag)(h2:a.ah=b.ah)(h3:a.aj=b.aj):a=b:=by
 cases a;cases b;simp only at h1 h2 h3;subst h1 h2 h3;rfl
def fK(x:Int):aH:=aH.mk x x 0
def NN.one{x:Int}(h1: -1099511627776<=x)(h2:x<=1099511627776):NN (fK x):=⟨h1,h2,zm _, .inl ⟨rfl,rfl⟩⟩
structure dA (P:Int->Prop) (c:aH):Prop where
 lo:P c.ag
 hi:P c.ah
 all:∀x,P x->c.ag<=x/\x<=c.ah/\c.aj∣x-c.ag
 nn:0<=c.aj
 best:∀d,(∀x,P x->d∣x-c.ag)->d∣c.aj
def dA.uniq{P:Int->Prop}{c d:aH}(h:dA P c)(k:dA P d):c=d:=by
 have e1:c.ag=d.ag:=Int.le_antisymm (h.all _ k.lo).1 (k.all _ h.lo).1;have e2:c.ah=d.ah:=Int.le_antisymm (k.all _ h.hi).2.1 (h.all _ k.hi).2.1;refine Ct e1 e2 (Int.dvd_antisymm h.nn k.nn (k.best _ λx hx=>by rw[<-e1];exact(h.all x hx).2.2) (h.best _ λx hx=>by rw[e1];exact(k.all x hx).2.2))
def dA.congr{P Q:Int->Prop}{c:aH}(h:dA P c)(k:∀x,P x↔Q x):dA Q c:=
 ⟨(k _).mp h.lo,(k _).mp h.hi,λx hx=>h.all x ((k x).mpr hx),h.nn,λd hd=>h.best d λx hx=>hd x ((k x).mp hx)⟩
def dA.valid{P:Int->Prop}{c:aH}(h:dA P c)(hP:∀x,P x-> -1099511627776<=x/\x<=1099511627776):NN c:=by
 have h1:=hP _ h.lo;have h2:=hP _ h.hi;obtain⟨h3,_,h4⟩:=h.all _ h.hi;refine⟨h1.1,h2.2,h3,?_⟩;have h5:=h.nn;rcases Int.lt_or_eq_of_le h3 with h6|h6
 ·refine .inr ⟨h6,?_,Int.emod_eq_zero_of_dvd h4⟩;rcases Int.lt_or_eq_of_le h5 with h7|h7
  ·omega
  ·rw[<-h7]at h4;have:=xV.mp h4;omega
 ·refine .inl ⟨h6,?_⟩;have:=h.best 0 λx hx=>by
   obtain⟨a1,a2,_⟩:=h.all x hx;exact⟨0,by omega⟩
  exact xV.mp this
def bU(a:aH)(x:Int):Prop:=a.ag<=x/\x<=a.ah/\a.aj∣x-a.ag
def NN.fS{a:aH}(h:NN a):dA (bU a) a:=by
 refine⟨⟨zm _,h.le,⟨0,by omega⟩⟩,⟨h.le,zm _,h.dvd⟩,λx hx=>hx,h.s0,λd hd=> ?_⟩;rcases h.st with ⟨h1,h2⟩|⟨h1,h2,h3⟩
 ·rw[h2];exact xB d
 ·have:=hd (a.ag+a.aj) ⟨by omega,by have:=h.sle;omega,⟨1,by omega⟩⟩
  rwa [show a.ag+a.aj-a.ag=a.aj by omega]at this
def DD(x:Int):dA (· =x) (fK x):=
 ⟨rfl,rfl,λy hy=>⟨Int.le_of_eq hy.symm,Int.le_of_eq hy,⟨0,by rw[hy];simp[fK]⟩⟩,zm _,λd _=>xB d⟩
def jV(a b:Int):cv a b∣a:=Int.gcd_dvd_left ..
def pF(a b:Int):cv a b∣b:=Int.gcd_dvd_right ..
def iZ{d a b:Int}(h1:d∣a)(h2:d∣b):d∣cv a b:=Int.dvd_coe_gcd h1 h2
def lG(a b:Int):0<=cv a b:=by unfold cv;omega
def gcd_neg(a b:Int):cv a (-b)=cv a b:=by unfold cv;rw[Int.gcd_neg]
def jn(a b:aH):aH:=aH.mk (min a.ag b.ag) (max a.ah b.ah) (cv (cv a.aj b.aj) (a.ag-b.ag))
def cV(a b:aH):aH:=open Classical in if a=cG then b else if b=cG then a else jn a b
def dA.join{P Q:Int->Prop}{a b:aH}(h:dA P a)(k:dA Q b):dA (λx=>P x\/Q x) (jn a b):=by
 have g1:cv (cv a.aj b.aj) (a.ag-b.ag)∣a.aj:=zV (jV _ _) (jV _ _);have g2:cv (cv a.aj b.aj) (a.ag-b.ag)∣b.aj:=zV (jV _ _) (pF _ _);have g3:cv (cv a.aj b.aj) (a.ag-b.ag)∣a.ag-b.ag:=pF _ _;refine⟨?_,?_,λx hx=> ?_,lG _ _,λd hd=> ?_⟩
 ·show P (min a.ag b.ag)\/Q (min a.ag b.ag);rcases Int.le_total a.ag b.ag with e|e
  ·rw[wM e];exact .inl h.lo
  ·rw[xW e];exact .inr k.lo
 ·show P (max a.ah b.ah)\/Q (max a.ah b.ah);rcases Int.le_total a.ah b.ah with e|e
  ·rw[Int.max_eq_right e];exact .inr k.hi
  ·rw[Int.max_eq_left e];exact .inl h.hi
 ·show min a.ag b.ag<=x/\x<=max a.ah b.ah/\cv (cv a.aj b.aj) (a.ag-b.ag)∣x-min a.ag b.ag;have h0:=Int.min_le_left a.ag b.ag;have h1:=Int.min_le_right a.ag b.ag;have h2:=Int.le_max_left a.ah b.ah;have h3:=Int.le_max_right a.ah b.ah;have both:cv (cv a.aj b.aj) (a.ag-b.ag)∣x-a.ag/\cv (cv a.aj b.aj) (a.ag-b.ag)∣x-b.ag:=by
   rcases hx with hx|hx
   ·have e:=zV g1 (h.all x hx).2.2;refine⟨e,?_⟩;have:=yX e g3
    rwa [show x-a.ag+(a.ag-b.ag)=x-b.ag by omega]at this
   ·have e:=zV g2 (k.all x hx).2.2;refine⟨?_,e⟩;have:=yz e g3
    rwa [show x-b.ag-(a.ag-b.ag)=x-a.ag by omega]at this
  refine⟨?_,?_,?_⟩
  ·rcases hx with hx|hx
   ·have:=(h.all x hx).1;omega
   ·have:=(k.all x hx).1;omega
  ·rcases hx with hx|hx
   ·have:=(h.all x hx).2.1;omega
   ·have:=(k.all x hx).2.1;omega
  ·rcases Int.le_total a.ag b.ag with e|e
   ·rw[wM e];exact both.1
   ·rw[xW e];exact both.2
 ·show d∣cv (cv a.aj b.aj) (a.ag-b.ag);have hd:∀x,P x\/Q x->d∣x-min a.ag b.ag:=hd;have d1:=hd _ (.inl h.lo);have d2:=hd _ (.inr k.lo);refine iZ (iZ (h.best d λx hx=> ?_) (k.best d λx hx=> ?_)) ?_
  ·have:=yz (hd x (.inl hx)) d1
   rwa [show x-min a.ag b.ag-(a.ag-min a.ag b.ag)=x-a.ag by omega]at this
  ·have:=yz (hd x (.inr hx)) d2
   rwa [show x-min a.ag b.ag-(b.ag-min a.ag b.ag)=x-b.ag by omega]at this
  ·have:=yz d1 d2
   rwa [show a.ag-min a.ag b.ag-(b.ag-min a.ag b.ag)=a.ag-b.ag by omega]at this
def gA{a b:aH}(h:NN a)(k:NN b):cV a b=jn a b:=by
 unfold cV;rw[bO h.ne,bO k.ne]
def jg{b:aH}:cV cG b=b:=by unfold cV;rw[bE rfl]
def uz{a:aH}:cV a cG=a:=by
 unfold cV;by_cases h:a=cG
 ·rw[bE h,h]
 ·rw[bO h,bE rfl]
def kY{a b:aH}(h:NN a)(k:NN b):NN (jn a b):=(h.fS.join k.fS).valid λx hx=>by
 have:=h.lo;have:=h.hi;have:=k.lo;have:=k.hi
 rcases hx with ⟨h1,h2,_⟩|⟨h1,h2,_⟩<;>omega
def eT{a b:aH}(h:NV a)(k:NV b):NV (cV a b):=by
 rcases h with rfl|h
 ·rw[jg];exact k
 ·rcases k with rfl|k
  ·rw[uz];exact .inr h
  ·rw[gA h k];exact .inr (kY h k)
def TP{a:aH}(h:NN a):jn a a=a:=
 ((h.fS.join h.fS).congr (λx=>⟨λk=>k.elim id id, .inl⟩)).uniq h.fS
def Hj(a:aH):(bif J (a.ag=a.ag)then bif J (a.ah=a.ah)then bif J (a.aj=a.aj)then O else S else S else S)=O:=by
 rw[bY rfl,bY rfl,bY rfl];rfl
def GW{a b:aH}(h:a≠b):(bif J (a.ag=b.ag)then bif J (a.ah=b.ah)then bif J (a.aj=b.aj)then O else S else S else S)=S:=by
 by_cases h1:a.ag=b.ag
 ·by_cases h2:a.ah=b.ah
  ·by_cases h3:a.aj=b.aj
   ·exact dD (Ct h1 h2 h3) h
   ·rw[bY h1,bY h2,bX h3];rfl
  ·rw[bY h1,bX h2];rfl
 ·rw[bX h1];rfl
def iK:fA cG=O:=Hj cG
def eM{a:aH}(h:a≠cG):fA a=S:=GW (b:=cG) h
def oh:lS cG=O:=rfl
def iz{a:aH}(h:NN a):lS a=S:=bX (by have:=h.le;omega)
def jO(x:Int):iU x=J (-1099511627776<=x/\x<=1099511627776):=by
 unfold iU;by_cases h: -1099511627776<=x
 ·by_cases k:x<=1099511627776
  ·rw[bY h,bY k,bY ⟨h,k⟩];rfl
  ·rw[bY h,bX k,bX (show ¬(-1099511627776<=x/\x<=1099511627776)from λe=>k e.2)];rfl
 ·rw[bX h,bX (show ¬(-1099511627776<=x/\x<=1099511627776)from λe=>h e.1)];rfl
def uL(x:Int):n9 x=J (-1099511627776<=x/\x<=1099511627776):=jO x
def WV(a:aH):Bool:=open Classical in J (NV a)
def UY{a:aH}:WV a=O↔NV a:=by unfold WV;exact @decide_eq_true_iff _ (Classical.propDecidable _)
def ew{a:aH}(h:NV a):WV a=O:=UY.mpr h
def uR{a:aH}(h:¬NV a):WV a=S:=by
 cases e:WV a with
 |false=>rfl
 |true=>exact dD (UY.mp e) h
def U5{a:aH}(h0:a≠cG):(match bif bif iU a.ag then S else O then V O else bif bif iU a.ah then S else O then V O else V (J (a.ah<a.ag))with|G=>G|V r1=>bif r1 then V S else bif J (a.ag=a.ah)then V (J (a.aj=0))else match bif J (1<=a.aj)then if¬a.aj=(0:Int)then V (J ((i64.wrap (a.ah-a.ag)).tmod a.aj=0))else G else V S with|G=>G|V r2=>V r2)=V (WV a):=by
 rw[jO,jO];by_cases h1: -1099511627776<=a.ag/\a.ag<=1099511627776
 ·by_cases h2: -1099511627776<=a.ah/\a.ah<=1099511627776
  ·by_cases h3:a.ah<a.ag
   ·rw[bY h1,bY h2,bY h3,uR (λk=>by rcases k with k|k;exact h0 k;have:=k.le;omega)];rfl
   ·rw[bY h1,bY h2,bX h3];simp only[bC,bB];by_cases h4:a.ag=a.ah
    ·rw[bY h4,bC]
     congr 1
     by_cases h5:a.aj=0
     ·rw[bY h5,ew (.inr ⟨h1.1,h2.2,by omega, .inl ⟨h4,h5⟩⟩)]
     ·rw[bX h5,uR (λk=>by rcases k with k|k;exact h0 k;rcases k.st with k|k<;>omega)]
    ·rw[bX h4,bB];by_cases h5:1<=a.aj
     ·rw[bY h5,bC,gY,aG,kr];simp only
      congr 1
      by_cases h6:(a.ah-a.ag)%a.aj=0
      ·rw[bY h6,ew (.inr ⟨h1.1,h2.2,by omega, .inr ⟨by omega,h5,h6⟩⟩)]
      ·rw[bX h6,uR (λk=>by rcases k with k|k;exact h0 k;rcases k.st with k|k;omega;exact h6 k.2.2)]
     ·rw[bX h5,bB];simp only;rw[uR (λk=>by rcases k with k|k;exact h0 k;rcases k.st with k|k<;>omega)]
  ·rw[bY h1,bX h2,uR (λk=>by rcases k with k|k;exact h0 k;have:=k.lo;have:=k.hi;have:=k.le;omega)];rfl
 ·rw[bX h1,uR (λk=>by rcases k with k|k;exact h0 k;have:=k.lo;have:=k.hi;have:=k.le;omega)];rfl
def eS(a:aH):tq a=V (WV a):=by
 unfold tq;by_cases h0:a=cG
 ·subst h0;rw[iK,bC,ew (.inl rfl)]
 ·rw[eM h0,bB];exact U5 h0
def gq(a:aH):Xg a=V (WV a):=by
 unfold Xg;by_cases h0:a=cG
 ·subst h0;rw[show sj=cG from rfl,Hj,bC,ew (.inl rfl)]
 ·rw[show sj=cG from rfl,GW h0,bB,<-U5 h0,show n9=iU from rfl,jO,jO];by_cases h1: -1099511627776<=a.ag/\a.ag<=1099511627776
  ·by_cases h2: -1099511627776<=a.ah/\a.ah<=1099511627776
   ·rw[bY h1,bY h2];simp only[bC,bB];by_cases h3:a.ah<a.ag
    ·rw[bX (show ¬a.ag=a.ah by omega),bY h3,bX (show ¬a.ag<a.ah by omega)];rfl
    ·rw[bX h3,bB];by_cases h4:a.ag=a.ah
     ·rw[bY h4];rfl
     ·rw[bX h4,bB,bB,bY (show a.ag<a.ah by omega),bC]<;>rfl
   ·rw[bY h1,bX h2];rfl
  ·rw[bX h1];rfl
def cw(a:aH):Int:=open Classical in if a=cG then 0 else if a.aj=0 then 1 else(a.ah-a.ag)/a.aj+1
def wsz{a:aH}(h:NN a)(h0:a.aj≠0):i64.wrap (i64.wrap ((i64.wrap (a.ah-a.ag)).tdiv a.aj)+1)=(a.ah-a.ag)/a.aj+1:=by
 have:=h.lo;have:=h.hi;have:=h.le;have:=h.s0
 have q0:0<=(a.ah-a.ag)/a.aj:=zR (by omega) (by omega);have q1:(a.ah-a.ag)/a.aj<=a.ah-a.ag:=yg _ (by omega);rw[aG (n:=a.ah-a.ag),jX,aG (n:=(a.ah-a.ag)/a.aj),aG]
def kM{a:aH}(h:NV a):vK a=V (cw a):=by
 unfold vK cw;rcases h with rfl|h
 ·rw[iK,bE rfl];rfl
 ·rw[eM h.ne,bO h.ne,bB];by_cases h0:a.aj=0
  ·rw[bY h0,bE h0];rfl
  ·rw[bX h0,bO h0,bB,bE h0,wsz h h0]
def gv{a:aH}(h:NV a):Gb a=V (cw a):=by
 unfold Gb cw;rw[gq,ew h];simp only[bC,bB];rcases h with rfl|h
 ·rw[oh,bE rfl];rfl
 ·rw[iz h,bO h.ne,bB];by_cases h0:a.aj=0
  ·rw[bY h0,bE h0];rfl
  ·rw[bX h0,bO h0,bB,bE h0,wsz h h0]
def ahj{a:aH}(h:¬NV a):Gb a=V 0:=by
 unfold Gb;rw[gq,uR h];rfl
def qA{a:aH}(h:NV a):Jl a=V (cw a):=by
 unfold Jl;rw[eS,ew h];simp only[bC,bB];rw[kM h]
def afV{a:aH}(h:¬NV a):Jl a=V 0:=by
 unfold Jl;rw[eS,uR h];rfl
def de(a:aH)(x:Int):Bool:=open Classical in J (bU a x)
def mT{a:aH}{x:Int}:de a x=O↔bU a x:=by unfold de;exact @decide_eq_true_iff _ (Classical.propDecidable _)
def jb{a:aH}{x:Int}(h:¬bU a x):de a x=S:=by
 cases e:de a x with
 |false=>rfl
 |true=>exact dD (mT.mp e) h
def mB{a:aH}{x:Int}(h:bU a x):de a x=O:=mT.mpr h
def BI{x:Int}:¬bU cG x:=λh=>by
 obtain⟨h1,h2,_⟩:=h;have h1:(1:Int)<=x:=h1;have h2:x<=0:=h2;omega
def M5{a:aH}(h:NN a)(x:Int)(h1:a.ag<=x)(h2:x<=a.ah):(match bif J (a.aj=0)then V O else if¬a.aj=(0:Int)then V (J ((i64.wrap (x-a.ag)).tmod a.aj=0))else G with|G=>G|V r2=>V r2)=V (de a x):=by
 have:=h.lo;have:=h.hi
 by_cases h0:a.aj=0
 ·rw[bY h0,bC,mB ⟨h1,h2,by rcases h.st with k|k;(rw[h0];exact⟨0,by omega⟩);omega⟩]
 ·rw[bX h0,bB,bE h0,aG,kr];simp only
  congr 1
  by_cases k:(x-a.ag)%a.aj=0
  ·rw[bY k,mB ⟨h1,h2,wL k⟩]
  ·rw[bX k,jb (λe=>k (Int.emod_eq_zero_of_dvd e.2.2))]
def JG{a:aH}(h:NV a)(x:Int):VU a x=V (de a x):=by
 unfold VU;rcases h with rfl|h
 ·rw[iK,jb BI];rfl
 ·rw[eM h.ne,bB];by_cases h1:x<a.ag
  ·rw[bY h1,jb (λk=>by have:=k.1;omega)];rfl
  ·by_cases h2:a.ah<x
   ·rw[bX h1,bY h2,jb (λk=>by have:=k.2.1;omega)];rfl
   ·rw[bX h1,bX h2];simp only[bB];exact M5 h x (by omega) (by omega)
def C9{a:aH}(h:NV a)(x:Int):m32 a x=V (de a x):=by
 unfold m32;rw[gq,ew h];simp only[bC,bB];rcases h with rfl|h
 ·by_cases h1:x<1
  ·rw[show cG.ag=1 from rfl,bY h1,jb BI];rfl
  ·rw[show cG.ag=1 from rfl,show cG.ah=0 from rfl,bX h1,bY (show 0<x by omega),jb BI];rfl
 ·by_cases h1:x<a.ag
  ·rw[bY h1,jb (λk=>by have:=k.1;omega)];rfl
  ·by_cases h2:a.ah<x
   ·rw[bX h1,bY h2,jb (λk=>by have:=k.2.1;omega)];rfl
   ·rw[bX h1,bX h2];simp only[bB];exact M5 h x (by omega) (by omega)
def o6{a:aH}(h:NV a)(x:Int):m92 a x=V (de a x):=by
 unfold m92;rw[eS,ew h];simp only[bC];rw[JG h]
def jx(lo hi st:Int):aH:=if hi<lo then cG else if st=0 then fK lo else if lo=lo+(hi-lo)/st*st then fK lo else aH.mk lo (lo+(hi-lo)/st*st) st
def anA{lo hi st:Int}(h1: -2305843009213693952<=lo)(h2:hi<=2305843009213693952)(h3:lo<=hi)(h4:1<=st):i64.wrap (lo+i64.wrap (i64.wrap ((i64.wrap (hi-lo)).tdiv st)*st))=lo+(hi-lo)/st*st:=by
 have q0:0<=(hi-lo)/st:=zR (by omega) (by omega);have q1:(hi-lo)/st<=hi-lo:=yg _ (by omega);have q2:(hi-lo)/st*st<=hi-lo:=xd _ (by omega);have q3:0<=(hi-lo)/st*st:=zF q0 (by omega);rw[aG (n:=hi-lo),jX,aG (n:=(hi-lo)/st),aG (n:=(hi-lo)/st*st),aG]
def ob{lo hi st:Int}(h1: -2305843009213693952<=lo)(h2:hi<=2305843009213693952)(h4:0<=st):lV lo hi st=V (jx lo hi st):=by
 unfold lV jx;by_cases c1:hi<lo
 ·rw[bY c1,bE c1];rfl
 ·rw[bX c1,bO c1,bB];by_cases c2:st=0
  ·rw[bY c2,bE c2];rfl
  ·rw[bX c2,bO c2,bB,bE c2,anA h1 h2 (by omega) (by omega)];by_cases c3:lo=lo+(hi-lo)/st*st
   ·rw[bY c3,bE c3];rfl
   ·rw[bX c3,bO c3];rfl
def lZ{lo hi st:Int}(h1: -1099511627776<=lo/\lo<=1099511627776)(h2: -1099511627776<=hi/\hi<=1099511627776)(h4:1<=st):iX lo hi st=V (jx lo hi st,0):=by
 unfold iX jx;rw[uL,uL,bY h1,bY h2,bX (show ¬st<1 by omega)];simp only[bC,bB];by_cases c1:hi<lo
 ·rw[bY c1,bE c1];rfl
 ·rw[bX c1,bO c1,bB,bO (show ¬st=0 by omega),gY,anA (by omega) (by omega) (by omega) h4];by_cases c3:lo=lo+(hi-lo)/st*st
  ·rw[<-c3,bY rfl,bE rfl];rfl
  ·rw[bX c3,bO c3];rfl
def LQ{lo hi st:Int}(h1:lo<=hi)(h2:0<=st)(h3:st∣hi-lo)(h4:lo=hi->st=0):jx lo hi st=aH.mk lo hi st:=by
 unfold jx;rw[v7];by_cases c:st=0
 ·rw[bE c];subst c;have:=xV.mp h3;unfold fK;rw[show hi=lo by omega]
 ·rw[bO c,wu h3,show lo+(hi-lo)=hi by omega,bO (λe=>c (h4 e))]
def l7{lo hi st:Int}(h1: -1099511627776<=lo)(h2:hi<=1099511627776)(h3:lo<=hi)(h4:0<=st):NN (jx lo hi st):=by
 unfold jx;rw[v7];by_cases c:st=0
 ·rw[bE c];exact NN.one h1 (by omega)
 ·rw[bO c];have q0:0<=(hi-lo)/st:=zR (by omega) (by omega);have q2:(hi-lo)/st*st<=hi-lo:=xd _ (by omega);have q3:0<=(hi-lo)/st*st:=zF q0 (by omega);by_cases c3:lo=lo+(hi-lo)/st*st
  ·rw[bE c3];exact NN.one h1 (by omega)
  ·rw[bO c3];refine⟨h1,by show lo+(hi-lo)/st*st<=_;omega,by show lo<=lo+(hi-lo)/st*st;omega, .inr ⟨by show lo<lo+(hi-lo)/st*st;omega,by show 1<=st;omega,?_⟩⟩;show (lo+(hi-lo)/st*st-lo)%st=0;rw[show lo+(hi-lo)/st*st-lo=(hi-lo)/st*st by omega];exact Int.mul_emod_left _ _
def LV{lo hi st x:Int}(h3:lo<=hi)(h4:1<=st):bU (jx lo hi st) x↔lo<=x/\x<=hi/\st∣x-lo:=by
 unfold jx;rw[v7,v7];have q2:(hi-lo)/st*st<=hi-lo:=xd _ (by omega);have q4:=wW (hi-lo) (show 0<st by omega);rw[zS,z6]at q4;by_cases c3:lo=lo+(hi-lo)/st*st
 ·rw[bE c3];constructor
  ·rintro⟨k1,k2,_⟩;have k1:lo<=x:=k1;have k2:x<=lo:=k2;exact⟨k1,by omega,⟨0,by omega⟩⟩
  ·rintro⟨k1,k2,k3⟩;have:x-lo<st:=by omega
   have e:x-lo=0:=Decidable.byContradiction λh=>dD (Int.le_of_dvd (by omega) k3) (by omega);exact⟨k1,by show x<=lo;omega,by show 0∣x-lo;rw[e];exact⟨0,rfl⟩⟩
 ·rw[bO c3];constructor
  ·rintro⟨k1,k2,k3⟩;have k2:x<=lo+(hi-lo)/st*st:=k2;exact⟨k1,by omega,k3⟩
  ·rintro⟨k1,k2,k3⟩;refine⟨k1,?_,k3⟩;show x<=lo+(hi-lo)/st*st;obtain⟨q,hq⟩:=k3;rw[zI]at hq;have:q<(hi-lo)/st+1:=wK (a:=st) (by rw[zS,z6];omega) (by omega);have:q*st<=(hi-lo)/st*st:=zN (by omega) (by omega);omega
def L4(g x v:Int)(hx: -1099511627776<=x/\x<=1099511627776)(hv: -1099511627776<=v/\v<=1099511627776):(0:Int)<=j5 x v/\cv g (j5 x v)=cv g (x-v):=by
 unfold j5;by_cases c:x<v
 ·rw[bY c,bC,aG];exact⟨by omega,by rw[<-gcd_neg,show-(v-x)=x-v by omega]⟩
 ·rw[bX c,bB,aG];exact⟨by omega,rfl⟩
def dA.snoc{P:Int->Prop}{c:aH}{v:Int}(h:dA P c)(hv:P v)(x:Int):dA (λy=>P y\/y=x) (aH.mk (min c.ag x) (max c.ah x) (cv c.aj (x-v))):=by
 have e:cv (cv c.aj 0) (c.ag-x)=cv c.aj (x-v):=by
  have d:=(h.all v hv).2.2;refine Int.dvd_antisymm (lG _ _) (lG _ _) (iZ (zV (jV _ _) (jV _ _)) ?_) (iZ (iZ (jV _ _) (xB _)) ?_)
  ·have k1:cv (cv c.aj 0) (c.ag-x)∣c.ag-x:=pF _ _;have k2:cv (cv c.aj 0) (c.ag-x)∣v-c.ag:=zV (zV (jV _ _) (jV _ _)) d;have:=Int.dvd_neg.mpr (yX k1 k2)
   rwa [show-(c.ag-x+(v-c.ag))=x-v by omega]at this
  ·have k1:cv c.aj (x-v)∣x-v:=pF _ _;have k2:cv c.aj (x-v)∣v-c.ag:=zV (jV _ _) d;have:=Int.dvd_neg.mpr (yX k1 k2)
   rwa [show-(x-v+(v-c.ag))=c.ag-x by omega]at this
 have:=h.join (DD x);unfold jn fK at this;rw[e]at this;exact this
def cC(x:Int):Prop:= -1099511627776<=x/\x<=1099511627776
instance (x:Int):Decidable (cC x):=inferInstanceAs (Decidable (_/\_))
def FU(x:Int):n9 x=J (cC x):=uL x
def aqd{l:aa Int}{b0 c:aH}(i:Nat)(hi:i+1<l.length)(hl:l.length<=1000000)(hr:∀x∈l,cC x)(hc:dA (· ∈l.take (i+1)) c):
  ∃c',tf (j9.mk l (i+1:Nat) b0 c)=V (V (j9.mk l (i+1+1:Nat) b0 c'))/\dA (· ∈l.take (i+1+1)) c':=by
 have hx:cC l[i+1]! :=hr _ (bh hi);have h0:cC l[0]! :=hr _ (bh (by omega));have hm:l[0]!∈l.take (i+1):=by
  have:(l.take (i+1))[0]! =l[0]! :=by
   rw[getElem!_pos _ 0 (by rw[zH];omega),getElem!_pos l 0 (by omega),we]
  rw[<-this];exact bh (by rw[zH];omega)
 have hs:=hc.snoc hm l[i+1]!;obtain⟨g0,g1⟩:=L4 c.aj l[i+1]! l[0]! hx h0;refine⟨_,?_,hs.congr λy=> ?_⟩
 ·unfold tf;simp only;rw[nH,bC,gY,gY,ze,Cd hc.nn g0,g1];simp only;rw[aG,show ((i+1:Nat):Int)+1=((i+1+1:Nat):Int)by omega];have hci:(0:Int)<=((i+1:Nat):Int)/\((i+1:Nat):Int)<(l.length:Int):=by omega
  by_cases c1:l[i+1]! <c.ag
  ·rw[xW (by omega)];by_cases c2:c.ah<l[i+1]!
   ·have:=(hc.all _ hc.lo).2.1;omega
   ·rw[Int.max_eq_left (by omega)];simp only[bY c1,bX c2,bE hci,bC,bB]
  ·rw[wM (by omega)];by_cases c2:c.ah<l[i+1]!
   ·rw[Int.max_eq_right (by omega)];simp only[bX c1,bY c2,bE hci,bC,bB]
   ·rw[Int.max_eq_left (by omega)];simp only[bX c1,bX c2,bE hci,bB]
 ·rw[bK (i:=i+1) hi,zW,zy]
def Jb{l:aa Int}(hn:l≠[])(hl:l.length<=1000000)(hr:∀x∈l,cC x):∃c,XX l=V (c,0)/\dA (· ∈l) c:=by
 have hp:0<l.length:=wP.mpr hn;obtain⟨c,e1,hc⟩:=dc (rnd:=tf) (l.length-1) (λi (c:aH)=>j9.mk l (i+1:Nat) (aH.mk 0 0 0) c) (λi c=>dA (· ∈l.take (i+1)) c)
  (λi c hi hI=>aqd i (by omega) hl hr hI)
  (λc hI=>by
   unfold tf;simp only;rw[gh];rfl) (b:=fK l[0]!) ((DD l[0]!).congr λx=>by
   rw[bK hp];simp)
 have e0:bJ vZ (sS.mk l 0 (aH.mk 0 0 0))=V (sS.mk l (l.length:Nat) (aH.mk 0 0 0)):=MC (rnd:=vZ) (λi=>sS.mk l (i:Nat) (aH.mk 0 0 0)) l.length (λi hi=>by
  unfold vZ;simp only;rw[nH,bC,gY,ze,FU,bY (hr _ (bh hi)),fu hi hl];rfl) (λr=>by
  unfold vZ;simp only;rw[gh];intro h;cases h)
 refine⟨c,?_,hc.congr λx=>by rw[show l.length-1+1=l.length by omega,zB]⟩;unfold XX;rw[show XW=bJ vZ from rfl,e0];simp only;rw[gh,bB,gh,bB,gY,gY];have e1:bJ tf (j9.mk l 1 (aH.mk 0 0 0) (aH.mk l[0]! l[0]! 0))=V (j9.mk l ((l.length-1+1:Nat):Int) (aH.mk 0 0 0) c):=e1;rw[show Y5=bJ tf from rfl,e1];simp only;rw[gh];rfl
def NN.rB{a:aH}(h:NN a):cC a.ag:=⟨h.lo,by have:=h.le;have:=h.hi;omega⟩
def NN.BC{a:aH}(h:NN a):cC a.ah:=⟨by have:=h.le;have:=h.lo;omega,h.hi⟩
def II{x:Int}(h1: -2199023255552<=x)(h2:x<=2199023255552):(0:Int)<=jt x/\((jt x:Int)=x\/(jt x:Int)= -x):=by
 unfold jt;rw[aG (n:=0-x)];by_cases c:x<0-x
 ·rw[bE c];exact⟨by omega, .inr (show (0:Int)-x= -x by omega)⟩
 ·rw[bO c];exact⟨by omega, .inl rfl⟩
def ab8(g:Int){x:Int}(h1: -2199023255552<=x)(h2:x<=2199023255552):cv g (jt x)=cv g x:=by
 rcases (II h1 h2).2 with e|e
 ·rw[e]
 ·rw[e,gcd_neg]
def iH{a b:aH}(ha:NV a)(hb:NV b):lW a b=V (cV a b):=by
 unfold lW;rcases ha with rfl|ha
 ·rw[iK,jg];rfl
 rw[eM ha.ne,bB];rcases hb with rfl|hb
 ·rw[iK,uz];rfl
 rw[eM hb.ne,bB];by_cases e:a=b
 ·subst e;rw[Hj,gA ha ha,TP ha];rfl
 ·rw[GW e];simp only[bB];have:=ha.lo;have:=ha.hi;have:=ha.le;have:=hb.lo;have:=hb.hi;have:=hb.le
  rw[aG (n:=a.ag-b.ag),CN ha.s0 hb.s0 (II (by omega) (by omega)).1,ab8 _ (by omega) (by omega)];simp only;rw[show (if b.ag<a.ag then b.ag else a.ag)=min a.ag b.ag by split<;>omega,show (if a.ah<b.ah then b.ah else a.ah)=max a.ah b.ah by split<;>omega,ob (by omega) (by omega) (lG _ _)];simp only;have hj:=kY ha hb;rw[gA ha hb];exact congrArg some (LQ hj.le hj.s0 hj.dvd (λk=>by rcases hj.st with h|h;exact h.2;exact dD k (Int.ne_of_lt h.1)))
def l8{a b:aH}(ha:NV a)(hb:NV b):lE a b=V (cV a b):=by
 unfold lE;rcases ha with rfl|ha
 ·rw[oh,jg];rfl
 rw[iz ha,bB];rcases hb with rfl|hb
 ·rw[oh,uz];rfl
 rw[iz hb,bB];obtain⟨c,e,hc⟩:=Jb (l:=[a.ag,a.ah,b.ag,b.ah]) (by simp) (by simp) (λx hx=>by
  simp only[zD,List.not_mem_nil,or_false]at hx;rcases hx with rfl|rfl|rfl|rfl
  ·exact ha.rB
  ·exact ha.BC
  ·exact hb.rB
  ·exact hb.BC)
 rw[e];simp only;have m:∀x,(x=a.ag\/x=a.ah\/x=b.ag\/x=b.ah)->x∈[a.ag,a.ah,b.ag,b.ah]:=λx hx=>by simpa using hx
 have h1:=hc.lo;have h2:=hc.hi;simp only[zD,List.not_mem_nil,or_false]at h1 h2;have p1:=hc.all _ (m a.ag (by simp));have p2:=hc.all _ (m a.ah (by simp));have p3:=hc.all _ (m b.ag (by simp));have p4:=hc.all _ (m b.ah (by simp));have:=ha.le;have:=hb.le;have e1:c.ag=min a.ag b.ag:=by omega
 have e2:c.ah=max a.ah b.ah:=by omega
 have hj:=kY ha hb;rw[gA ha hb];by_cases k:c.ag<c.ah
 ·rw[bY k,bC,Cd ha.s0 hb.s0];simp only;obtain⟨g0,g1⟩:=L4 (cv a.aj b.aj) a.ag b.ag ha.rB hb.rB;rw[Cd (lG _ _) g0,g1,e1,e2];rfl
 ·rw[bX k,bB]
  congr 1
  refine Ct e1 e2 ?_;have hcv:NN c:=hc.valid (λx hx=>by
   simp only[zD,List.not_mem_nil,or_false]at hx;rcases hx with rfl|rfl|rfl|rfl
   ·exact ha.rB
   ·exact ha.BC
   ·exact hb.rB
   ·exact hb.BC)
  have s1:c.aj=0:=by rcases hcv.st with h|h;exact h.2;omega
  have s2:(jn a b).aj=0:=by
   rcases hj.st with h|h
   ·exact h.2
   ·have:min a.ag b.ag<max a.ah b.ah:=h.1;omega
  rw[s1,s2]
def ag6{a b:aH}(ha:NV a)(hb:NV b):aeh a b=V (cV a b,0):=by
 unfold aeh;rw[eS,eS,ew ha,ew hb];simp only[bC,bB];rw[iH ha hb]
def ON{a:aH}(h:NV a):cV a a=a:=by
 rcases h with rfl|h
 ·exact jg
 ·rw[gA h h,TP h]
def oy{a b:aH}(ha:NV a)(hb:NV b):vC a b=V (cV a b):=by
 unfold vC;by_cases e:a=b
 ·subst e;rw[Hj,ON ha];rfl
 ·rw[GW e,bB,ag6 ha hb]
def cK(a:aH):Bool:=if 1<cw a then O else if cw a=1 then !de a 0 else S
def tW{a:aH}(h:NN a):cw a=if a.aj=0 then 1 else(a.ah-a.ag)/a.aj+1:=by
 unfold cw;rw[bO h.ne]
def size_pos{a:aH}(h:NN a):1<=cw a:=by
 rw[tW h];split
 ·omega
 ·have:0<=(a.ah-a.ag)/a.aj:=zR (by have:=h.le;omega) h.s0;omega
def j0{a:aH}(h:NN a):cw a=1↔a.ag=a.ah:=by
 rw[tW h];have hl:=h.le;rcases h.st with ⟨h1,h2⟩|⟨h1,h2,h3⟩
 ·rw[bE h2];exact⟨λ_=>h1,λ_=>rfl⟩
 ·rw[v7];constructor
  ·intro k;have:=wu (wL h3);rw[show (a.ah-a.ag)/a.aj=0 by omega,xT]at this;omega
  ·omega
def Cq{a:aH}(h:NV a):Pz a=V (de a 0,cK a):=by
 unfold Pz cK;rw[JG h,kM h];simp only;by_cases c:1<cw a
 ·rw[bY c,bE c];rfl
 ·rw[bX c,bO c,bB];by_cases c1:cw a=1
  ·rw[bY c1,bE c1,bC];rcases h with rfl|h
   ·exfalso;unfold cw at c1;rw[bE rfl]at c1;omega
   ·have e:=(j0 h).mp c1;have s:a.aj=0:=by rcases h.st with k|k;exact k.2;omega
    by_cases c2:a.ag=0
    ·rw[bY c2,mB (show bU a 0 from⟨by omega,by omega,⟨0,by omega⟩⟩)];rfl
    ·rw[bX c2,jb (show ¬bU a 0 from λk=>by have:=k.1;have:=k.2.1;omega)];rfl
  ·rw[bX c1,bO c1];rfl
def Ta{a:aH}(h:NV a):Gx a=V (de a 0,cK a):=by
 unfold Gx cK;rw[C9 h,gv h];simp only;by_cases c:1<cw a
 ·rw[bY c,bE c];rfl
 ·rw[bX c,bO c,bB];by_cases c1:cw a=1
  ·rw[bY c1,bE c1,bC];cases de a 0<;>rfl
  ·rw[bX c1,bO c1];rfl
def Co{a:aH}(h:NV a):O8 a=V (de a 0,cK a):=by
 unfold O8;rw[eS,ew h];simp only[bC,bB];rw[Cq h]
def iI:Bool->Bool->aH
 |true,O=>aH.mk 0 1 1
 |true,S=>aH.mk 0 0 0
 |false,O=>aH.mk 1 1 0
 |false,S=>cG
def afj{a b:Bool}(h:(a||b)=O):j4 a b=iI a b:=by
 cases a<;>cases b<;>first|rfl|cases h
def Si(a b:Bool):oO a b=V (iI a b):=by
 have v0:NN (fK 0):=NN.one (by omega) (by omega);have v1:NN (fK 1):=NN.one (by omega) (by omega);have e:cV (fK 0) (fK 1)=aH.mk 0 1 1:=by rw[gA v0 v1];rfl
 unfold oO;cases a<;>cases b
 ·rfl
 ·simp only[bB,bC];rw[show iL=cG from rfl,iH (.inl rfl) (.inr (show NN (gO 1)from v1)),jg];rfl
 ·simp only[bB,bC];rw[show iL=cG from rfl,iH (.inl rfl) (.inr (show NN (gO 0)from v0)),jg];rfl
 ·simp only[bC];rw[show iL=cG from rfl,iH (.inl rfl) (.inr (show NN (gO 0)from v0)),jg];simp only;rw[iH (.inr (show NN (gO 0)from v0)) (.inr (show NN (gO 1)from v1)),show cV (gO 0) (gO 1)=cV (fK 0) (fK 1)from rfl,e];rfl
def uw(a b:Bool):NV (iI a b):=by
 cases a<;>cases b
 ·exact .inl rfl
 ·exact .inr (NN.one (x:=1) (by omega) (by omega))
 ·exact .inr (NN.one (x:=0) (by omega) (by omega))
 ·exact .inr ⟨by decide,by decide,by decide, .inr ⟨by decide,by decide,by decide⟩⟩
def mF(P:Int->Prop)(c:aH):Prop:=(c=cG/\∀x,¬P x)\/(dA P c)
def mF.uniq{P:Int->Prop}{c d:aH}(h:mF P c)(k:mF P d):c=d:=by
 rcases h with ⟨h1,h2⟩|h<;>rcases k with ⟨k1,k2⟩|k
 ·rw[h1,k1]
 ·exact dD k.lo (h2 _)
 ·exact dD h.lo (k2 _)
 ·exact h.uniq k
def mF.congr{P Q:Int->Prop}{c:aH}(h:mF P c)(k:∀x,P x↔Q x):mF Q c:=by
 rcases h with ⟨h1,h2⟩|h
 ·exact .inl ⟨h1,λx hx=>h2 x ((k x).mpr hx)⟩
 ·exact .inr (h.congr k)
def mF.valid{P:Int->Prop}{c:aH}(h:mF P c)(hP:∀x,P x->cC x):NV c:=by
 rcases h with ⟨h1,h2⟩|h
 ·exact .inl h1
 ·exact .inr (h.valid hP)
def mF.none{P:Int->Prop}(h:∀x,¬P x):mF P cG:= .inl ⟨rfl,h⟩
def mF.join{P Q:Int->Prop}{a b:aH}(h:mF P a)(k:mF Q b)(ha:NV a)(hb:NV b):mF (λx=>P x\/Q x) (cV a b):=by
 rcases h with ⟨rfl,h2⟩|h
 ·rw[jg];exact k.congr λx=>⟨.inr,λe=>e.elim (λe=>dD e (h2 x)) id⟩
 ·rcases k with ⟨rfl,k2⟩|k
  ·rw[uz];exact .inr (h.congr λx=>⟨.inl,λe=>e.elim id (λe=>dD e (k2 x))⟩)
  ·have hn:∀{P:Int->Prop} {c:aH},dA P c->NV c->NN c:=λ{P c} e v=>by
    rcases v with rfl|v
    ·have:=(e.all _ e.lo).2.1;exact dD this (by decide)
    ·exact v
   rw[gA (hn h ha) (hn k hb)];exact .inr (h.join k)
def mF.mem{a:aH}(h:NV a):mF (bU a) a:=by
 rcases h with rfl|h
 ·exact .inl ⟨rfl,λx=>BI⟩
 ·exact .inr h.fS
def WU{a:aH}(h:NV a){x:Int}(hx:bU a x):cC x:=by
 rcases h with rfl|h
 ·exact dD hx BI
 ·have:=h.lo;have:=h.hi;have:=hx.1;have:=hx.2.1
  exact⟨by omega,by omega⟩
def agt{lo hi st:Int}(h1:lo<=hi)(h2:1<=st):(jx lo hi st).ah=lo+(hi-lo)/st*st:=by
 unfold jx;rw[v7,v7];by_cases c3:lo=lo+(hi-lo)/st*st
 ·rw[bE c3];exact c3
 ·rw[bO c3]
def NN.st1{a:aH}(h:NN a)(k:a.ag<a.ah):1<=a.aj:=by rcases h.st with h|h<;>omega
def Ex(P:Int->Prop)(c:aH):Prop:=NV c/\∀x,bU c x↔P x
def Ex.rep{P:Int->Prop}{c:aH}(h:Ex P c):mF P c:=(mF.mem h.1).congr h.2
def Um{a:aH}(h:NN a){at_:Int}(h1:a.ag<=at_)(h2:at_<a.ah):Ex (λx=>bU a x/\x<=at_) (jx a.ag at_ a.aj):=by
 have hs:=h.st1 (by omega);have hl:=h.lo;have hh:=h.hi
 refine⟨.inr (l7 hl (by omega) h1 h.s0),λx=> ?_⟩;rw[LV h1 hs];exact⟨λ⟨k1,k2,k3⟩=>⟨⟨k1,by omega,k3⟩,k2⟩,λ⟨⟨k1,_,k3⟩,k2⟩=>⟨k1,k2,k3⟩⟩
def L8{a:aH}(h:NN a){at_:Int}(h1:a.ag<=at_)(h2:at_<a.ah):
  Ex (λx=>bU a x/\at_<x) (jx (a.ag+((at_-a.ag)/a.aj+1)*a.aj) a.ah a.aj)/\a.ag<a.ag+((at_-a.ag)/a.aj+1)*a.aj/\a.ag+((at_-a.ag)/a.aj+1)*a.aj<=a.ah:=by
 have hs:=h.st1 (by omega);have hl:=h.lo;have hh:=h.hi
 have q2:(at_-a.ag)/a.aj*a.aj<=at_-a.ag:=xd _ (by omega);have q4:=wW (at_-a.ag) (show 0<a.aj by omega);have up:∀x,a.aj∣x-a.ag->at_<x->a.ag+((at_-a.ag)/a.aj+1)*a.aj<=x:=λx hd hx=>by
  obtain⟨q,hq⟩:=hd;rw[zI]at hq;have:(at_-a.ag)/a.aj<q:=wK (a:=a.aj) (by omega) (by omega);have:((at_-a.ag)/a.aj+1)*a.aj<=q*a.aj:=zN (by omega) (by omega);omega
 have hle:=up a.ah h.dvd h2;have hd:a.aj∣((at_-a.ag)/a.aj+1)*a.aj:=xC ..;refine⟨⟨.inr (l7 (by omega) hh hle h.s0),λx=> ?_⟩,by omega,hle⟩;rw[LV hle hs];constructor
 ·rintro⟨k1,k2,k3⟩;have:=yX k3 hd;rw[show x-(a.ag+((at_-a.ag)/a.aj+1)*a.aj)+((at_-a.ag)/a.aj+1)*a.aj=x-a.ag by omega]at this;exact⟨⟨by omega,k2,this⟩,by omega⟩
 ·rintro⟨⟨k1,k2,k3⟩,k4⟩;have:=yz k3 hd;rw[show x-a.ag-((at_-a.ag)/a.aj+1)*a.aj=x-(a.ag+((at_-a.ag)/a.aj+1)*a.aj)by omega]at this;exact⟨up x k3 k4,k2,this⟩
def CD{a:aH}(h:NV a){Q:Int->Prop}(k:∀x,bU a x->Q x):Ex (λx=>bU a x/\Q x) a:=⟨h,λx=>⟨λe=>⟨e,k x e⟩,λe=>e.1⟩⟩
def pE{a:aH}{Q:Int->Prop}(k:∀x,bU a x->¬Q x):Ex (λx=>bU a x/\Q x) cG:=⟨.inl rfl,λx=>⟨λe=>dD e BI,λe=>dD e.2 (k x e.1)⟩⟩
def u6{a:aH}(h:NV a)(at_:Int):∃l u,BO a at_=V (l,u)/\Ex (λx=>bU a x/\x<=at_) l/\Ex (λx=>bU a x/\at_<x) u:=by
 unfold BO;rcases h with rfl|h
 ·refine⟨cG,cG,?_,pE λx hx=>dD hx BI,pE λx hx=>dD hx BI⟩;rw[iK];rfl
 ·rw[eM h.ne,bB];have hle:=h.le;have hl:=h.lo;have hh:=h.hi
  by_cases c1:at_<a.ag
  ·rw[bY c1];exact⟨cG,a,rfl,pE λx hx k=>by have:=hx.1;omega,CD (.inr h) λx hx=>by have:=hx.1;omega⟩
  ·rw[bX c1];simp only[bB];by_cases c2:a.ah<=at_
   ·rw[bY c2];exact⟨a,cG,rfl,CD (.inr h) λx hx=>by have:=hx.2.1;omega,pE λx hx k=>by have:=hx.2.1;omega⟩
   ·have hs:=h.st1 (by omega);obtain⟨r1,r2,r3⟩:=L8 h (at_:=at_) (by omega) (by omega);have e:a.ag+((at_-a.ag)/a.aj+1)*a.aj=a.ag+(at_-a.ag)/a.aj*a.aj+a.aj:=by rw[zS,z6];omega
    rw[e]at r1 r2 r3;rw[bX c2,bB,ob (by omega) (by omega) h.s0];simp only;rw[agt (by omega) hs,aG,ob (by omega) (by omega) h.s0];exact⟨_,_,rfl,Um h (by omega) (by omega),r1⟩
def IP{a:aH}(h:NV a)(at_:Int):∃l,m41 a at_=V l/\Ex (λx=>bU a x/\x<=at_) l:=by
 unfold m41;rcases h with rfl|h
 ·exact⟨cG,rfl,pE λx hx=>dD hx BI⟩
 ·rw[iz h,bB];have hle:=h.le;have hl:=h.lo;have hh:=h.hi
  by_cases c1:at_<a.ag
  ·rw[bY c1];exact⟨cG,rfl,pE λx hx k=>by have:=hx.1;omega⟩
  ·rw[bX c1];simp only[bB];by_cases c2:a.ah<=at_
   ·rw[bY c2];exact⟨a,rfl,CD (.inr h) λx hx=>by have:=hx.2.1;omega⟩
   ·rw[bX c2,bB,lZ h.rB ⟨by omega,by omega⟩ (h.st1 (by omega))];exact⟨_,rfl,Um h (by omega) (by omega)⟩
def Ad{a:aH}(h:NV a)(at_:Int):∃u,m42 a at_=V u/\Ex (λx=>bU a x/\at_<x) u:=by
 unfold m42;rcases h with rfl|h
 ·refine⟨cG,?_,pE λx hx=>dD hx BI⟩;rw[oh];rfl
 ·rw[iz h,bB];have hle:=h.le;have hl:=h.lo;have hh:=h.hi
  by_cases c1:a.ah<=at_
  ·rw[bY c1];exact⟨cG,rfl,pE λx hx k=>by have:=hx.2.1;omega⟩
  ·rw[bX c1];simp only[bB];by_cases c2:at_<a.ag
   ·rw[bY c2];exact⟨a,rfl,CD (.inr h) λx hx=>by have:=hx.1;omega⟩
   ·have hs:=h.st1 (by omega);obtain⟨r1,r2,r3⟩:=L8 h (at_:=at_) (by omega) (by omega);have q0:0<=(at_-a.ag)/a.aj:=zR (by omega) (by omega);have q1:(at_-a.ag)/a.aj<=at_-a.ag:=yg _ (by omega);rw[bX c2,bB,gY,aG (n:=at_-a.ag),jX,aG (n:=(at_-a.ag)/a.aj),aG (n:=(at_-a.ag)/a.aj+1),
     aG (n:=((at_-a.ag)/a.aj+1)*a.aj),aG,lZ ⟨by omega,by omega⟩ h.BC hs]
    exact⟨_,rfl,r1⟩
def mF.empty{P:Int->Prop}{c:aH}(h:mF P c)(hv:NV c):fA c=lS c/\((fA c=O/\c=cG/\∀x,¬P x)\/(fA c=S/\NN c/\dA P c)):=by
 rcases h with ⟨rfl,h⟩|h
 ·exact⟨by rw[iK];rfl, .inl ⟨iK,rfl,h⟩⟩
 ·rcases hv with rfl|hv
  ·exact dD (h.all _ h.lo).2.1 (by decide)
  ·exact⟨by rw[eM hv.ne,iz hv], .inr ⟨eM hv.ne,hv,h⟩⟩
def sH(a:aH)(lo hi:Int)(y:Int):Prop:=∃x,bU a x/\y=max lo (min x hi)
def ab3{a:aH}{lo hi y:Int}(h1:cC lo)(h2:cC hi)(h3:lo<=hi)(h:sH a lo hi y):cC y:=by
 obtain⟨x,_,rfl⟩:=h;obtain⟨a1,a2⟩:=h1;obtain⟨b1,b2⟩:=h2;exact⟨by omega,by omega⟩
def Ji(x:Int):mF (· =x) (fK x):= .inr (DD x)
def pX{x:Int}(h:cC x):NV (fK x):= .inr (NN.one h.1 h.2)
def nv{Q R:Int->Prop}{c d:aH}{b:Int}(hc:mF Q c)(vc:NV c)(hb:cC b)(hd:mF R d)(vd:NV d):
  (fA d=O->mF (λy=>Q y\/(y=b/\∃x,R x)) c)/\(fA d=S->mF (λy=>Q y\/(y=b/\∃x,R x)) (cV c (fK b))):=by
 rcases (hd.empty vd).2 with ⟨e1,rfl,e3⟩|⟨e1,e2,e3⟩
 ·refine⟨λ_=>hc.congr λx=>⟨.inl,λh=>h.elim id λh=>dD h.2.choose_spec (e3 _)⟩,λh=> ?_⟩;rw[e1]at h;cases h
 ·refine⟨λh=> ?_,λ_=>((hc.join (Ji b) vc (pX hb)).congr λx=>⟨λh=>h.elim .inl λh=> .inr ⟨h,_,e3.lo⟩,λh=>h.elim .inl λh=> .inr h.1⟩)⟩;rw[e1]at h;cases h
def Pe{a:aH}(h:NV a)(lo hi:Int):(∃c,m81 a lo hi=V (c,0)/\m86 a lo hi=V (c,0)/\mF (sH a lo hi) c/\NV c/\cC lo/\cC hi/\lo<=hi)\/
  (m81 a lo hi=V (aH.mk 0 0 0,3)/\m86 a lo hi=V (aH.mk 0 0 0,3)/\¬(cC lo/\cC hi/\lo<=hi)):=by
 unfold m81 m86;rw[eS,gq,ew h,jO,jO,uL,uL];simp only[bC,bB];by_cases h1: -1099511627776<=lo/\lo<=1099511627776
 ·by_cases h2: -1099511627776<=hi/\hi<=1099511627776
  ·by_cases h3:hi<lo
   ·right;rw[bY h1,bY h2,bY h3];exact⟨rfl,rfl,λk=>by have:=k.2.2;omega⟩
   ·left;rw[bY h1,bY h2,bX h3];simp only[bC,bB];rw[aG (n:=lo-1)];obtain⟨un,re,e1,r1,r2⟩:=u6 h (lo-1);obtain⟨ins,ov,e2,r3,r4⟩:=u6 r2.1 hi;have mi:∀x,bU ins x↔bU a x/\lo<=x/\x<=hi:=λx=>⟨λk=>let ⟨k1,k2⟩:=(r3.2 x).mp k;let ⟨k3,k4⟩:=(r2.2 x).mp k1;⟨k3,by omega,k2⟩,λ⟨k1,k2,k3⟩=>(r3.2 x).mpr ⟨(r2.2 x).mpr ⟨k1,by omega⟩,k3⟩⟩;have mo:∀x,bU ov x↔bU a x/\hi<x:=λx=>⟨λk=>let ⟨k1,k2⟩:=(r4.2 x).mp k;let ⟨k3,k4⟩:=(r2.2 x).mp k1;⟨k3,k2⟩,λ⟨k1,k2⟩=>(r4.2 x).mpr ⟨(r2.2 x).mpr ⟨k1,by omega⟩,k2⟩⟩;obtain⟨x1,f1,s1⟩:=Ad h (lo-1);obtain⟨x2,f2,s2⟩:=IP s1.1 hi;obtain⟨x3,f3,s3⟩:=IP h lo;obtain⟨x4,f4,s4⟩:=Ad h hi;have m2:∀x,bU x2 x↔bU a x/\lo<=x/\x<=hi:=λx=>⟨λk=>let ⟨k1,k2⟩:=(s2.2 x).mp k;let ⟨k3,k4⟩:=(s1.2 x).mp k1;⟨k3,by omega,k2⟩,λ⟨k1,k2,k3⟩=>(s2.2 x).mpr ⟨(s1.2 x).mpr ⟨k1,by omega⟩,k3⟩⟩;have rlo:cC lo:=h1;have rhi:cC hi:=h2;have nb:∀b:Bool,(match b with|true=>true|false=>false)=b:=λb=>by cases b<;>rfl
    obtain⟨t1,t2⟩:=nv (Ex.rep ⟨r3.1,mi⟩) r3.1 rlo r1.rep r1.1;have P:∃c,(match BO a (lo-1)with|G=>G|V r3=>match BO r3.snd hi with|G=>G|V r4=>bif bif fA r3.fst then S else O then match lW r4.fst (gO lo)with|G=>G|V r5=>bif bif fA r4.snd then S else O then match lW r5 (gO hi)with|G=>G|V r6=>V (r6,(0:Int))else V (r5,0)else bif bif fA r4.snd then S else O then match lW r4.fst (gO hi)with|G=>G|V r7=>V (r7,0)else V (r4.fst,0))=V (c,0)/\mF (sH a lo hi) c:=by
     have fin:∀c,NV c->mF (λy=>(bU a y/\lo<=y/\y<=hi)\/(y=lo/\∃x,bU a x/\x<=lo-1)) c->∃d,(bif bif fA ov then S else O then match lW c (gO hi)with|G=>G|V r6=>V (r6,(0:Int))else V (c,0))=V (d,0)/\mF (sH a lo hi) d:=λc vc hc=>by
      obtain⟨u1,u2⟩:=nv hc vc rhi (Ex.rep ⟨r4.1,mo⟩) r4.1;have eq:∀y,(((bU a y/\lo<=y/\y<=hi)\/(y=lo/\∃x,bU a x/\x<=lo-1))\/(y=hi/\∃x,bU a x/\hi<x))↔sH a lo hi y:=λy=>by
       constructor
       ·rintro((⟨k1,k2,k3⟩|⟨rfl,x,k1,k2⟩)|⟨rfl,x,k1,k2⟩)
        ·exact⟨y,k1,by omega⟩
        ·exact⟨x,k1,by omega⟩
        ·exact⟨x,k1,by omega⟩
       ·rintro⟨x,k1,rfl⟩;rcases (show x<lo\/hi<x\/(lo<=x/\x<=hi)by omega)with k|k|k
        ·exact .inl (.inr ⟨by omega,x,k1,by omega⟩)
        ·exact .inr ⟨by omega,x,k1,k⟩
        ·rw[show max lo (min x hi)=x by omega];exact .inl (.inl ⟨k1,k.1,k.2⟩)
      cases ho:fA ov with
      |true=>exact⟨c,rfl,(u1 ho).congr eq⟩
      |false=>
       simp only[bB,bC];rw[iH vc (.inr (show NN (gO hi)from NN.one h2.1 h2.2))];exact⟨_,rfl,(u2 ho).congr eq⟩
     rw[e1];simp only;rw[e2];simp only;cases hu:fA un with
     |true=>
      simp only[bB,bC];exact fin ins r3.1 (t1 hu)
     |false=>
      simp only[bB,bC];rw[iH r3.1 (.inr (show NN (gO lo)from NN.one h1.1 h1.2))];exact fin (cV ins (fK lo)) (eT r3.1 (pX rlo)) (t2 hu)
    obtain⟨c,P1,P2⟩:=P;have vc:NV c:=P2.valid λx hx=>ab3 rlo rhi (by omega) hx;refine⟨c,P1,?_,P2,vc,rlo,rhi,by omega⟩;have fin:∀c',NV c'->mF (λy=>(bU a y/\lo<=y/\y<=hi)\/(y=lo/\∃x,bU a x/\x<=lo)) c'->(match m42 a hi with|G=>G|V r7=>bif bif lS r7 then S else O then match lE c' (aH.mk hi hi 0)with|G=>G|V r8=>V (r8,(0:Int))else V (c',0))=V (c,0):=λc' vc' hc'=>by
     obtain⟨u1,u2⟩:=nv hc' vc' rhi s4.rep s4.1;have eq:∀y,(((bU a y/\lo<=y/\y<=hi)\/(y=lo/\∃x,bU a x/\x<=lo))\/(y=hi/\∃x,bU a x/\hi<x))↔sH a lo hi y:=λy=>by
      constructor
      ·rintro((⟨k1,k2,k3⟩|⟨rfl,x,k1,k2⟩)|⟨rfl,x,k1,k2⟩)
       ·exact⟨y,k1,by omega⟩
       ·exact⟨x,k1,by omega⟩
       ·exact⟨x,k1,by omega⟩
      ·rintro⟨x,k1,rfl⟩;rcases (show x<lo\/hi<x\/(lo<=x/\x<=hi)by omega)with k|k|k
       ·exact .inl (.inr ⟨by omega,x,k1,by omega⟩)
       ·exact .inr ⟨by omega,x,k1,k⟩
       ·rw[show max lo (min x hi)=x by omega];exact .inl (.inl ⟨k1,k.1,k.2⟩)
     rw[f4];simp only;rw[<-(s4.rep.empty s4.1).1];cases ho:fA x4 with
     |true=>
      rw[((u1 ho).congr eq).uniq P2];rfl
     |false=>
      simp only[bB,bC];rw[l8 vc' (.inr (show NN (aH.mk hi hi 0)from NN.one h2.1 h2.2))];simp only;rw[show cV c' (aH.mk hi hi 0)=c from((u2 ho).congr eq).uniq P2]
    obtain⟨t1,t2⟩:=nv (Ex.rep ⟨s2.1,m2⟩) s2.1 rlo s3.rep s3.1;rw[f1];simp only;rw[f2];simp only;rw[f3];simp only;rw[<-(s3.rep.empty s3.1).1];cases hu:fA x3 with
    |true=>
     simp only[bB,bC];exact fin x2 s2.1 (t1 hu)
    |false=>
     simp only[bB,bC];rw[l8 s2.1 (.inr (show NN (aH.mk lo lo 0)from NN.one h1.1 h1.2))];exact fin _ (eT s2.1 (pX rlo)) (t2 hu)
  ·right;rw[bY h1,bX h2];refine⟨?_,rfl,λk=>h2 k.2.1⟩;cases J (hi<lo)<;>rfl
 ·right;rw[bX h1];refine⟨?_,rfl,λk=>h1 k.1⟩;cases J (hi<lo)<;>rfl
def lP{a:aH}(h:NV a):cK a=O↔∃x,bU a x/\x≠0:=by
 unfold cK;rcases h with rfl|h
 ·rw[show cw cG=0 from by unfold cw;rw[bE rfl],v7,v7];exact⟨λk=>(by cases k),λ⟨x,k,_⟩=>dD k BI⟩
 ·have hp:=size_pos h;have h1:=j0 h;have hle:=h.le;have mlo:bU a a.ag:=⟨zm _,h.le,⟨0,by omega⟩⟩;have mhi:bU a a.ah:=⟨h.le,zm _,h.dvd⟩;by_cases c:1<cw a
  ·rw[bE c];refine⟨λ_=> ?_,λ_=>rfl⟩;by_cases z:a.ag=0
   ·exact⟨a.ah,mhi,λk=>by have:=h1.mpr (by omega);omega⟩
   ·exact⟨a.ag,mlo,z⟩
  ·rw[bO c,bE (show cw a=1 by omega)];have e:=h1.mp (by omega);constructor
   ·intro k;refine⟨a.ag,mlo,λz=> ?_⟩;rw[mB (show bU a 0 by rw[<-z];exact mlo)]at k;cases k
   ·rintro⟨x,k1,k2⟩;rw[jb (show ¬bU a 0 from λk=>by have:=k.1;have:=k.2.1;have:=k1.1;have:=k1.2.1;omega)];rfl
def zero_or{a:aH}(h:NN a):(cK a||de a 0)=O:=by
 have mlo:bU a a.ag:=⟨zm _,h.le,⟨0,by omega⟩⟩;by_cases z:a.ag=0
 ·rw[mB (show bU a 0 by rw[<-z];exact mlo),Bool.or_true]
 ·rw[(lP (.inr h)).mpr ⟨_,mlo,z⟩,Bool.true_or]
def aAo(a:aH):aH:=aH.mk (-a.ah) (-a.ag) a.aj
def acI{a:aH}(h:NN a):NN (aAo a):=by
 have:=h.lo;have:=h.hi;have:=h.le
 refine⟨by show _<= -a.ah;omega,by show-a.ag<=_;omega,by show-a.ah<= -a.ag;omega,?_⟩;rcases h.st with ⟨h1,h2⟩|⟨h1,h2,h3⟩
 ·exact .inl ⟨by show-a.ah= -a.ag;omega,h2⟩
 ·refine .inr ⟨by show-a.ah< -a.ag;omega,h2,?_⟩;show (-a.ag- -a.ah)%a.aj=0;rw[show-a.ag- -a.ah=a.ah-a.ag by omega];exact h3
def Be(op:Int)(a:aH):aH×Int:=open Classical in
 if¬NV a\/(op≠6/\op≠7)then(aH.mk 0 0 0,1)else if a=cG then(cG,0)else if op=7 then(iI (cK a) (de a 0),0)else(aAo a,0)
def Wk(op:Int):(bif bif J (op=6)then S else O then V (bif J (op=7)then S else O)else V S)=V (J (op≠6/\op≠7)):=by
 by_cases h:op=6
 ·rw[bY h,bX (show ¬(op≠6/\op≠7)from λk=>k.1 h)];rfl
 ·by_cases k:op=7
  ·rw[bX h,bY k,bX (show ¬(op≠6/\op≠7)from λe=>e.2 k)];rfl
  ·rw[bX h,bX k,bY (show op≠6/\op≠7 from⟨h,k⟩)];rfl
def TO{a:aH}(h:NV a)(op:Int):akG op a=V (Be op a):=by
 unfold akG Be;rw[eS,ew h];simp only[bC,bB];rw[Wk];by_cases ho:op≠6/\op≠7
 ·rw[bY ho,bE (.inr ho)];rfl
 ·rw[bX ho,bO (λk=>k.elim (λe=>e h) ho)];simp only[bB];rcases h with rfl|h
  ·rw[iK,bE rfl];rfl
  ·rw[eM h.ne,bO h.ne,bB];by_cases h7:op=7
   ·rw[bY h7,bE h7,bC,Cq (.inr h)];simp only;rw[Si]
   ·rw[bX h7,bO h7,bB];have:=h.lo;have:=h.hi;have:=h.le
    rw[aG (n:=0-a.ah),aG (n:=0-a.ag),Int.zero_sub,Int.zero_sub];rfl
def RE:NV (aH.mk 0 0 0):= .inr (NN.one (x:=0) (by omega) (by omega))
def oc(x y:Int):Int:=if y=0 then 0 else if x.tmod y≠0/\(J (x<0))≠(J (y<0))then x.tdiv y-1 else x.tdiv y
def sL{x y:Int}(hy:y≠0):∃q r:Int,x.tdiv y=q/\x.tmod y=r/\y*q+r=x/\r.natAbs<y.natAbs/\q.natAbs<=x.natAbs/\(0<=x->0<=r)/\(x<=0->r<=0)/\(r≠0->q.natAbs<x.natAbs):=by
 refine⟨_,_,rfl,rfl,Int.mul_tdiv_add_tmod x y,?_,?_,λh=>Int.tmod_nonneg _ h,λh=> ?_,λh=> ?_⟩
 ·rw[Int.natAbs_tmod];exact yQ _ (by omega)
 ·rw[Int.natAbs_tdiv];exact Nat.div_le_self _ _
 ·have:=Int.tmod_nonneg (a:= -x) y (by omega);rw[Int.neg_tmod]at this;omega
 ·have e:=Nat.div_add_mod x.natAbs y.natAbs;have hr:(x.tmod y).natAbs≠0:=by omega
  rw[Int.natAbs_tmod]at hr;rw[Int.natAbs_tdiv];have h1:x.natAbs/y.natAbs<=y.natAbs*(x.natAbs/y.natAbs):=Nat.le_mul_of_pos_left _ (by omega);show x.natAbs/y.natAbs<x.natAbs;omega
def PL{x y:Int}(hx:cC x):cC (oc x y)/\(oc x y).natAbs<=x.natAbs:=by
 unfold oc;obtain⟨h1,h2⟩:=hx;by_cases hy:y=0
 ·rw[bE hy];exact⟨⟨by omega,by omega⟩,by omega⟩
 ·rw[bO hy];obtain⟨q,r,e1,e2,e3,e4,e5,_,_,e6⟩:=sL (x:=x) hy;rw[e1,e2];split
  ·rename_i h;have:=e6 h.1;exact⟨⟨by omega,by omega⟩,by omega⟩
  ·exact⟨⟨by omega,by omega⟩,by omega⟩
def PD{x y:Int}(hy:cC y)(h0:y≠0):cC (x-y*oc x y)/\(0<y->0<=x-y*oc x y/\x-y*oc x y<y)/\(y<0->x-y*oc x y<=0/\y<x-y*oc x y):=by
 unfold oc;rw[bO h0];obtain⟨h1,h2⟩:=hy;obtain⟨q,r,e1,e2,e3,e4,e5,e7,e8,e6⟩:=sL (x:=x) h0;rw[e1,e2];by_cases h:r≠0/\J (x<0)≠J (y<0)
 ·rw[bE h,Int.mul_sub,Int.mul_one];obtain⟨k1,k2⟩:=h;by_cases c:x<0
  ·have c2:¬y<0:=λk=>k2 (by rw[bY c,bY k]);have:=e8 (by omega);exact⟨⟨by omega,by omega⟩,λ_=>by omega,λ_=>by omega⟩
  ·have c2:y<0:=Decidable.byContradiction λk=>k2 (by rw[bX c,bX k]);have:=e7 (by omega);exact⟨⟨by omega,by omega⟩,λ_=>by omega,λ_=>by omega⟩
 ·rw[bO h];by_cases k1:r=0
  ·exact⟨⟨by omega,by omega⟩,λ_=>by omega,λ_=>by omega⟩
  ·have k2:J (x<0)=J (y<0):=Decidable.byContradiction λk=>h ⟨k1,k⟩;by_cases c:x<0
   ·have c2:y<0:=by
     rw[bY c]at k2;exact of_decide_eq_true k2.symm
    have:=e8 (by omega);exact⟨⟨by omega,by omega⟩,λ_=>by omega,λ_=>by omega⟩
   ·have c2:¬y<0:=by
     rw[bX c]at k2;exact of_decide_eq_false k2.symm
    have:=e7 (by omega);exact⟨⟨by omega,by omega⟩,λ_=>by omega,λ_=>by omega⟩
def JW{x y:Int}(hx:cC x)(hy:cC y):ab1 x y=V (oc x y):=by
 have hR:=PL (y:=y) hx;unfold ab1;unfold oc at hR ⊢;obtain⟨h1,h2⟩:=hx;by_cases h0:y=0
 ·rw[bY h0,bE h0];rfl
 ·rw[bO h0]at hR;rw[bX h0,bO h0,bB,bE h0,bE h0,BP];obtain⟨q,r,e1,e2,e3,e4,e5,e7,e8,e6⟩:=sL (x:=x) h0;rw[e1,e2]at hR ⊢;by_cases k1:r=0
  ·rw[bX (show ¬¬r=0 by omega),bO (λk=>k.1 k1)];simp only[bB];rw[aG]
  ·rw[bY k1];simp only[bC];by_cases k2:J (x<0)=J (y<0)
   ·rw[bO (λk=>k.2 k2),k2];have:(bif J (y<0)==J (y<0)then false else true)=false:=by cases J (y<0)<;>rfl
    rw[this];simp only[bB];rw[aG]
   ·rw[bE ⟨k1,k2⟩]at hR ⊢;have:(bif J (x<0)==J (y<0)then S else O)=O:=by
     revert k2;cases J (x<0)<;>cases J (y<0)<;>first|(intro k2;exact dD rfl k2)|(intro _;rfl)
    rw[this];simp only[bC];rw[aG (n:=q),aG (n:=q-1)]
def Sy{x y:Int}(hx:cC x)(hy:cC y):aoo x y=V (oc x y):=JW hx hy
def nG(b:Bool):Int:=if b then 1 else 0
def fL(op x y:Int):Int:=
 if op=8 then x+y else if op=9 then x-y else if op=10 then x*y else if op=11 then oc x y else if op=12 then(if y=0 then 0 else x-y*oc x y)
 else if op=13 then nG (J (x=y))else if op=14 then nG (!J (x=y))else if op=15 then nG (J (x<y))else if op=16 then nG (J (x<=y))else if op=17 then nG (J (y<x))else if op=18 then nG (J (y<=x))
 else if op=19 then nG (J (x≠0/\y≠0))else if op=20 then nG (J (x≠0\/y≠0))else if op=21 then min x y else max x y
def sk(b:Bool):cC (nG b):=by cases b<;>exact⟨by decide,by decide⟩
def aj1{op x y:Int}(hx:cC x)(hy:cC y)(ho:op=11\/op=12\/op=21\/op=22):W8 op x y=V (fL op x y):=by
 unfold W8 fL;rcases ho with rfl|rfl|rfl|rfl
 ·rw[bY rfl,bC,JW hx hy];rfl
 ·rw[bX (by decide),bY rfl,bB,bC];show _=V (if y=0 then 0 else x-y*oc x y);by_cases h0:y=0
  ·rw[bY h0,bE h0];rfl
  ·rw[bX h0,bO h0,bB,JW hx hy];simp only;have hm:=PD (x:=x) hy h0;obtain⟨a1,a2⟩:=hx;obtain⟨b1,b2⟩:=hy;obtain⟨⟨c1,c2⟩,_⟩:=hm;rw[aG (n:=y*oc x y),aG]
 ·rw[bX (by decide),bX (by decide),bY rfl];simp only[bB,bC];rw[show (if y<x then y else x)=min x y by split<;>omega];rfl
 ·rw[bX (show ¬(22:Int)=11 by decide),bX (show ¬(22:Int)=12 by decide),bX (show ¬(22:Int)=21 by decide)];simp only[bB];rw[show (if x<y then y else x)=max x y by split<;>omega];rfl
def binop(op:Int):Prop:=8<=op/\op<=22
def uj{x:Int}(hx:cC x):@Eq Int (j5 x 0) ((x.natAbs:Nat):Int):=by
 unfold j5;obtain⟨h1,h2⟩:=hx;by_cases c:x<0
 ·rw[bY c,bC,aG];show @Eq Int (0-x) ((x.natAbs:Nat):Int);omega
 ·rw[bX c,bB,aG];show @Eq Int (x-0) ((x.natAbs:Nat):Int);omega
def mZ{x:Int}(hx:cC x):@Eq Int (jt x) ((x.natAbs:Nat):Int):=by
 obtain⟨h1,h2⟩:=hx;obtain⟨k1,k2⟩:=II (x:=x) (by omega) (by omega);generalize jt x=z at*;have k1:(0:Int)<=z:=k1;have k2:@Eq Int z x\/@Eq Int z (-x):=k2;show @Eq Int z ((x.natAbs:Nat):Int);omega
def Ow{x y:Int}(h0:x≠0):((1099511627776:Int)/x.natAbs<y.natAbs)↔¬cC (x*y):=by
 have hp:(0:Int)<(x.natAbs:Int):=by omega
 have e:((x*y).natAbs:Int)=(y.natAbs:Int)*(x.natAbs:Int):=by rw[Int.natAbs_mul,xI,zI]
 have hi:cC (x*y)↔((x*y).natAbs:Int)<=1099511627776:=⟨λ⟨h1,h2⟩=>by omega,λh=>⟨by omega,by omega⟩⟩;rw[hi,e,<-Int.le_ediv_iff_mul_le hp];omega
def aiv(b:Bool):Dx b=nG b:=by cases b<;>rfl
def eG{op x y v:Int}(h:v=fL op x y)(hr:cC (fL op x y)):∃w,V (v,O)=V (w,J (cC (fL op x y)))/\(cC (fL op x y)->w=fL op x y):=⟨v,by rw[bY hr],λ_=>h⟩
def acM{x y:Int}(hx:cC x)(hy:cC y):∃v,aqE x y=V (v,J (cC (x*y)))/\(cC (x*y)->v=x*y):=by
 unfold aqE;rw[BP,BP,uj hx,uj hy];by_cases h0:x=0
 ·subst h0;rw[bX (show ¬¬(0:Int)=0 from λk=>k rfl)];simp only[bB];rw[xT,aG,bY (show cC 0 from⟨by omega,by omega⟩)];exact⟨0,rfl,λ_=>rfl⟩
 ·rw[bY h0,bC];by_cases h1:y=0
  ·subst h1;rw[bX (show ¬¬(0:Int)=0 from λk=>k rfl)];simp only[bB];rw[Int.mul_zero,aG,bY (show cC 0 from⟨by omega,by omega⟩)];exact⟨0,rfl,λ_=>rfl⟩
  ·rw[bY h1,bC,bE (show ¬@Eq Int ((y.natAbs:Nat):Int) 0 by omega),jX];have q0:0<=(1099511627776:Int)/((y.natAbs:Nat):Int):=zR (by omega) (by omega);have q1:(1099511627776:Int)/((y.natAbs:Nat):Int)<=1099511627776:=yg _ (by omega);rw[aG];simp only;have k:=Ow (x:=y) (y:=x) h1;rw[zI]at k;by_cases c:(1099511627776:Int)/((y.natAbs:Nat):Int)<((x.natAbs:Nat):Int)
   ·rw[bY c,bX (k.mp c)];exact⟨0,rfl,λe=>dD e (k.mp c)⟩
   ·have hR:cC (x*y):=Decidable.byContradiction λe=>c (k.mpr e);rw[bX c,bY hR,aG (by have:=hR.1;omega) (by have:=hR.2;omega)];exact⟨x*y,rfl,λ_=>rfl⟩
def CB{x y:Int}(hx:cC x)(hy:cC y):∃v,PF x y=V (v,J (cC (x*y)))/\(cC (x*y)->v=x*y):=by
 unfold PF;rw[BP,mZ hx,mZ hy];by_cases h0:x=0
 ·subst h0;rw[bX (show ¬¬(0:Int)=0 from λk=>k rfl)];simp only[bB];rw[xT,aG,bY (show cC 0 from⟨by omega,by omega⟩)];exact⟨0,rfl,λ_=>rfl⟩
 ·rw[bY h0,bC,bE (show ¬@Eq Int ((x.natAbs:Nat):Int) 0 by omega),jX];have q0:0<=(1099511627776:Int)/((x.natAbs:Nat):Int):=zR (by omega) (by omega);have q1:(1099511627776:Int)/((x.natAbs:Nat):Int)<=1099511627776:=yg _ (by omega);rw[aG];simp only;have k:=Ow (x:=x) (y:=y) h0;by_cases c:(1099511627776:Int)/((x.natAbs:Nat):Int)<((y.natAbs:Nat):Int)
  ·rw[bY c,bX (k.mp c)];exact⟨0,rfl,λe=>dD e (k.mp c)⟩
  ·have hR:cC (x*y):=Decidable.byContradiction λe=>c (k.mpr e);rw[bX c,bY hR,aG (by have:=hR.1;omega) (by have:=hR.2;omega)];exact⟨x*y,rfl,λ_=>rfl⟩
def l9{op x y:Int}(hx:cC x)(hy:cC y)(ho:binop op):∃v,Gu op x y=V (v,J (cC (fL op x y)))/\(cC (fL op x y)->v=fL op x y):=by
 obtain⟨o1,o2⟩:=ho;have hx':=hx;have hy':=hy;obtain⟨a1,a2⟩:=hx';obtain⟨b1,b2⟩:=hy';have cases15:op=8\/op=9\/op=10\/op=11\/op=12\/op=13\/op=14\/op=15\/op=16\/op=17\/op=18\/op=19\/op=20\/op=21\/op=22:=by omega
 unfold Gu;simp only[FU,aiv];rcases cases15 with rfl|rfl|rfl|rfl|rfl|rfl|rfl|rfl|rfl|rfl|rfl|rfl|rfl|rfl|rfl
 all_goals simp only[Int.reduceEq,ep,cI,bB,bC]
 ·rw[aG];exact⟨x+y,rfl,λ_=>rfl⟩
 ·rw[aG];exact⟨x-y,rfl,λ_=>rfl⟩
 ·obtain⟨v,e,h⟩:=acM hx hy;rw[e];exact⟨v,rfl,h⟩
 ·rw[Sy hx hy];exact eG (op:=11) rfl (PL hx).1
 ·by_cases h0:y=0
  ·rw[bY h0];have e:fL 12 x y=0:=bE h0;exact eG (op:=12) e.symm (by rw[e];exact⟨by omega,by omega⟩)
  ·rw[bX h0,bB,Sy hx hy];simp only;have e:fL 12 x y=x-y*oc x y:=bO h0;have hm:=(PD (x:=x) hy h0).1;obtain⟨c1,c2⟩:=hm;rw[aG (n:=y*oc x y),aG];exact eG (op:=12) e.symm (by rw[e];exact⟨c1,c2⟩)
 ·exact eG (op:=13) rfl (sk _)
 ·refine eG (op:=14) ?_ (sk _);show nG _=nG _
  congr 1
 ·exact eG (op:=15) rfl (sk _)
 ·exact eG (op:=16) rfl (sk _)
 ·exact eG (op:=17) rfl (sk _)
 ·exact eG (op:=18) rfl (sk _)
 ·rw[BP,BP];by_cases h0:x=0
  ·rw[bX (show ¬¬x=0 from λk=>k h0),bB];refine eG (op:=19) ?_ (sk _);show nG S=nG (J (x≠0/\y≠0));rw[bX (λk=>k.1 h0)]
  ·rw[bY h0,bC];refine eG (op:=19) ?_ (sk _);show nG _=nG (J (x≠0/\y≠0))
   congr 1
   exact decide_eq_decide.mpr ⟨λk=>⟨h0,k⟩,λk=>k.2⟩
 ·rw[BP,BP];by_cases h0:x=0
  ·rw[bX (show ¬¬x=0 from λk=>k h0),bB];refine eG (op:=20) ?_ (sk _);show nG _=nG (J (x≠0\/y≠0))
   congr 1
   exact decide_eq_decide.mpr ⟨.inr,λk=>k.elim (λe=>dD h0 e) id⟩
  ·rw[bY h0,bC];refine eG (op:=20) ?_ (sk _);show nG O=nG (J (x≠0\/y≠0));rw[bY (.inl h0)]
 ·by_cases c:x<y
  ·rw[bY c];have e:fL 21 x y=x:=wM (by omega);exact eG (op:=21) e.symm (by rw[e];exact hx)
  ·rw[bX c];have e:fL 21 x y=y:=xW (by omega);exact eG (op:=21) e.symm (by rw[e];exact hy)
 ·by_cases c:y<x
  ·rw[bY c];have e:fL 22 x y=x:=Int.max_eq_left (by omega);exact eG (op:=22) e.symm (by rw[e];exact hx)
  ·rw[bX c];have e:fL 22 x y=y:=Int.max_eq_right (by omega);exact eG (op:=22) e.symm (by rw[e];exact hy)
end Go.Proofs.YtnfljbehcffmcaaGreat
end
