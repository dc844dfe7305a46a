/- Merged: Hn, Gd, Ho, Pl, Nd, Nd2, Nd3, Nd4, Nd5, Nd6, Nd7, Ne1, Pl2, Ne2, Ne3, Ne4, Ne5, Ne6, Ne7, Ne8, Ne11, Ne12, Ne13. -/
import Derived.Test.YtnfljbehcffmcaaGreatM2AbstractSound
import Derived.KernelRfl
open Int renaming toNat_natCast → zi, le_refl → zm, mul_nonneg → zB, mul_comm → zG, mul_le_mul_of_nonneg_right → zM, add_mul → zQ, mul_assoc → zS, one_mul → zU, ediv_nonneg → zX, dvd_trans → zZ, ediv_le_self → yg, sub_mul → yu, dvd_sub → yw, gcd → yD, toNat → yR, mul_ediv_add_emod → yT, emod_nonneg → yU, le_of_lt → yV, dvd_add → yW, mul_one → yX, emod_lt_of_pos → yY, mul_add → yZ, mul_le_mul → y4, dvd_zero → y5, le_trans → y7, ediv_mul_le → y9, natCast_mul → xo, dvd_mul_left → xz, zero_mul → xV, mul_le_mul_of_nonneg_left → xW, zero_dvd → xX, le_total → xY, min_eq_right → xZ, mul_sub → x8, ediv_mul_cancel → wB, natAbs_tmod → wC, lt_of_mul_lt_mul_right → wN, dvd_of_emod_eq_zero → wO, min_eq_left → wP, ediv_lt_of_lt_mul → wY, eq_ofNat_of_zero_le → wZ, lt_ediv_add_one_mul_self → w9, mul_tdiv_add_tmod → vb
open Nat renaming le_refl → zI, mod_lt → y6, lt_succ_iff_lt_or_eq → y8, zero_le → xx, div_add_mod → wJ
open Bool renaming and_eq_true → zn, or_eq_true → yQ, true → G, false → I
open List renaming getElem?_eq_getElem → zw, all_eq_true → zA, mem_singleton → zD, mem_cons → zF, range → zP, take_length → zR, mem_append → zV, length_take → z6, drop → yf, length → yC, getElem_mem → xO, getElem_of_mem → wk, getElem_take → wL
open Option renaming some → zO, some → Q, none → V
open Decidable renaming decide → O
open Go.Proofs.Tryz renaming prog → vi
open Go.Proofs.Tryz
set_option linter.unusedSectionVars false
set_option linter.unusedVariables false
set_option linter.unusedSimpArgs false
set_option linter.defProp false
noncomputable section
set_option maxRecDepth 100000
namespace Go.Proofs.YtnfljbehcffmcaaGreat
open Go Go.Iv
open Go.IntKind (i64 u64)
abbrev E80:=aH
def d80:Td 0 E80:= .c [] [2] (.r 0 1 (ec 2 (qp 0 0) en) (sb 0 34 (lg 34) sn) (λz=>z.2.1) (λx=>(((),()),(x,()))))
def Rf(a0:Int):E80:=
 aH.mk a0 a0 (0)
def e80:=eL vi 80 I (bg ln) d80 (λg=>Q (Rf g.1))
def Jy:EO e80:=λh=>kL (an:= .no) func80 aY aI h
def aky:bw:=eB
abbrev alz:=Bool
def d145:Td 0 alz:= .c [] [2] (.r 0 0 (ec 2 qb en) sn (λz=>z.1.1) (λx=>((x,()),(()))))
def atb:=(bg ln)
def ahC:An:=(noTwo (.two (.rb [] 2) .no))
def aol:∀f∈([]:aa Nat),bA (aky) f:=aI
def jL(a0:Int):alz:=
 let r1:Bool:=bif O (-1099511627776<=a0)then O (a0<=1099511627776)else I;r1
def avp(a0:Int):ct vi (aky) 300 (ahC) 145 (atb.c (a0,())) [] 0 d145.rd=Q (jL a0):=by
 refine Eq.trans (b:=(
  match bif O (-1099511627776<=a0)then Q (O (a0<=1099511627776))else Q (I)with|V=>V|Q r1=>Q (r1):ah alz)) (by kernel_rfl) ?_
 simp only[jL,cO,de]
def Yn:=eL vi 145 I atb d145 (λg=>Q (jL g.1))
def Cf:EO Yn:=λh=>kL (F:=aky) (an:=ahC) (l:=[(.skip,(.rb [] 2))]) func145 aY (aB aol aI) h (c:=λg=>avp g.1)
def k9:EP Yn:=λh=>kP h
def apg:bw:=eB
abbrev apb:=aH
def d224:Td 0 apb:= .c [] [0] (.r 0 1 (ec 0 (qp 0 0) en) (sb 0 34 (lg 34) sn) (λz=>z.2.1) (λx=>(((),()),(x,()))))
def aoS:=ln
def ah9:An:= .no
def iV:apb:=
 aH.mk (1) (0) (0)
def auX:ct vi (apg) 300 (ah9) 224 (aoS.c ()) [] 0 d224.rd=Q (iV):=by kernel_rfl
def KF:=eL vi 224 I aoS d224 (λ_=>Q (iV))
def jU:EO KF:=λh=>kL (F:=apg) (an:=ah9) func224 aY aI h (c:=λ_=>auX)
def kU:EP KF:=λh=>kP h
def avj:bw:=(KF eB)
abbrev anC:=Bool
def d147:Td 0 anC:= .c [] [2] (.r 0 0 (ec 2 qb en) sn (λz=>z.1.1) (λx=>((x,()),(()))))
def asw:=(lc (qg 34) ln)
def ahx:An:= .no
def fB(a0:aH):anC:=
 bif O (a0.ag=iV.ag)then bif O (a0.af=iV.af)then bif O (a0.aj=iV.aj)then G else I else I else I
def avG(a0:aH):ct vi (avj) 300 (ahx) 147 (asw.c (a0,())) [] 0 d147.rd=Q (fB a0):=by
 refine Eq.trans (b:=(
  Q (bif O (a0.ag=iV.ag)then bif O (a0.af=iV.af)then bif O (a0.aj=iV.aj)then G else I else I else I):ah anC)) (by kernel_rfl) ?_
 simp only[fB,cO,de]
def CL:=eL vi 147 I asw d147 (λg=>Q (fB g.1))
def jl:EO CL:=λh=>kL (an:=ahx) func147 (jU aY) aI h (c:=λg=>avG g.1)
def fG:EP CL:=λh=>kP h
def apC:bw:=(CL (Yn eB))
abbrev ar5:=Bool
def d144:Td 0 ar5:= .c [] [2] (.r 0 0 (ec 2 qb en) sn (λz=>z.1.1) (λx=>((x,()),(()))))
def aid:∀f∈([145]:aa Nat),bA (apC) f:=(aB (fG (k9 bK)) aI)
def sZ(a0:aH):ah ar5:=
 bif fB a0 then Q G else match bif bif jL a0.ag then I else G then Q G else bif bif jL a0.af then I else G then Q G else Q (O (a0.af<a0.ag))with|V=>V|Q r1=>bif r1 then Q I else bif O (a0.ag=a0.af)then Q (O (a0.aj=0))else match bif O (1<=a0.aj)then if¬a0.aj=0then Q (O ((i64.wrap (a0.af-a0.ag)).tmod a0.aj=0))else V else Q I with|V=>V|Q r2=>Q (r2)
def LP:=eL vi 144 I (lc (qg 34) ln) d144 (λg=>sZ g.1)
def kS:EO LP:=λh=>kL (F:=apC) (an:=(noTwo (noTwo (.two (.two (.rb [145] 21) .no) (noTwo (.two (.rb [145] 2) .no)))))) (l:=[(.skip,(.rb [145] 21)),(.skip,(.rb [145] 2))]) func144 (jl (Cf aY)) (aB aid (aB aid aI)) h
def fZ:EP LP:=λh=>kP h
abbrev aps:=aH
def d149:Td 0 aps:= .c [] [2] (.r 0 1 (ec 2 (qp 0 0) en) (sb 0 34 (lg 34) sn) (λz=>z.2.1) (λx=>(((),()),(x,()))))
def gX(a0:Int):aps:=
 aH.mk a0 a0 (0)
def aaC:=eL vi 149 I (bg ln) d149 (λg=>Q (gX g.1))
def rE:EO aaC:=λh=>kL (an:= .no) func149 aY aI h
def UW:EP aaC:=λh=>kP h
abbrev arX:=aH
def d225:Td 0 arX:= .c [] [6] (.r 0 1 (ec 6 (qp 0 0) en) (sb 0 34 (lg 34) sn) (λz=>z.2.1) (λx=>(((),()),(x,()))))
def mZ(a0:Int)(a1:Int)(a2:Int):ah arX:=
 bif O (a1<a0)then Q (iV)else bif O (a2=0)then Q (gX a0)else if¬a2=0then bif O (a0=i64.wrap (a0+i64.wrap (i64.wrap ((i64.wrap (a1-a0)).tdiv a2)*a2)))then Q (gX a0)else Q (aH.mk a0 (i64.wrap (a0+i64.wrap (i64.wrap ((i64.wrap (a1-a0)).tdiv a2)*a2))) a2)else V
def T4:=eL vi 225 I (bg (bg (bg ln))) d225 (λg=>mZ g.1 g.2.1 g.t.1)
def uR:EO T4:=λh=>kL (an:= .no) func225 (jU (rE aY)) aI h
def ld:EP T4:=λh=>kP h
def atI:bw:=(T4 (KF (CL eB)))
abbrev ap5:=aH×aH
def d146:Td 0 ap5:= .c [] [4,5] (.r 0 2 (ec 4 (qp 0 0) (ec 5 (qp 1 0) en)) (sb 0 34 (lg 34) (sb 1 34 (lg 34) sn)) (λz=>(z.2.1,z.t.1)) (λx=>(((),(),()),(x.1,x.2,()))))
def aqh:∀f∈([147]:aa Nat),bA (atI) f:=(aB (ld (kU (fG bK))) aI)
def BI(a0:aH)(a1:Int):ah ap5:=
 match bif fB a0 then Q (G)else Q (O (a1<a0.ag))with|V=>V|Q r1=>bif r1 then Q ((iV,a0))else bif O (a0.af<=a1)then Q ((a0,iV))else match mZ a0.ag a1 a0.aj with|V=>V|Q r2=>match mZ (i64.wrap (r2.af+a0.aj)) a0.af a0.aj with|V=>V|Q r3=>Q ((r2,r3))
def aeS:=eL vi 146 I (lc (qg 34) (bg ln)) d146 (λg=>BI g.1 g.2.1)
def G7:EO aeS:=λh=>kL (F:=atI) (an:=(noTwo (.two (.two (.rb [147] 7) .no) .no))) (l:=[(.skip,(.rb [147] 7))]) func146 (uR (jU (jl aY))) (aB aqh aI) h
def Tz:EP aeS:=λh=>kP h
structure mz where
 (t3 t5:Int)
 t6:List Int
 (t7 t8:Int)
def Nu:Td 0 mz:= .c [] [3,5,6,7,8] (.r 0 0 (ec 3 aU (ec 5 aU (ec 6 (ql 3) (ec 7 aU (ec 8 aU en))))) sn (λz=>⟨z.1.1,z.1.2.1,z.1.t.1,z.1.t.2.1,z.1.q.1⟩) (λx=>((x.t3,x.t5,x.t6,x.t7,x.t8,()),(()))))
def sQ(p:mz):ah (ah mz):=
 bif bif O (p.t5=0)then I else G then if¬p.t5=0then Q (Q (mz.mk p.t5 (p.t3.tmod p.t5) p.t6 p.t7 p.t8))else V else Q (V)
def vU:=bJ (sQ)
structure tF where
 t3:Int
 t6:List Int
 (t7 t8:Int)
def Pd:Td 0 tF:= .c [] [3,6,7,8] (.r 0 0 (ec 3 aU (ec 6 (ql 3) (ec 7 aU (ec 8 aU en)))) sn (λz=>⟨z.1.1,z.1.2.1,z.1.t.1,z.1.t.2.1⟩) (λx=>((x.t3,x.t6,x.t7,x.t8,()),(()))))
def tI(p:tF):ah (ah tF):=
 bif O (p.t8<p.t7)then if 0<=p.t8/\p.t8<p.t6.length then match vU (mz.mk p.t3 p.t6[p.t8.toNat]! p.t6 p.t7 p.t8)with|V=>V|Q r1=>bif bif O (r1.t5=0)then I else G then if¬r1.t5=0then V else V else Q (Q (tF.mk r1.t3 r1.t6 r1.t7 (i64.wrap (r1.t8+1))))else V else Q (V)
def Xu:An:=(noTwo (noTwo (.two (noTwo (Nu.lp vU .no)) .no)))
def Dh:=bJ (tI)
abbrev atC:=Int
def d226:Td 0 atC:= .c [] [2] (.r 0 0 (ec 2 aU en) sn (λz=>z.1.1) (λx=>((x,()),(()))))
def BH(a0:aa Int):ah atC:=
 match Dh (tF.mk 0 a0 a0.length 0)with|V=>V|Q r2=>bif O (r2.t8<r2.t7)then if 0<=r2.t8/\r2.t8<r2.t6.length then match vU (mz.mk r2.t3 r2.t6[r2.t8.toNat]! r2.t6 r2.t7 r2.t8)with|V=>V|Q r3=>bif bif O (r3.t5=0)then I else G then if¬r3.t5=0then V else V else V else V else Q (r2.t3)
def Xg:=eL vi 226 I (lc (ql 3) ln) d226 (λg=>BH g.1)
def BU:EO Xg:=λh=>kL (an:=(noTwo (noTwo (.two (noTwo (Pd.lp Dh Xu)) .no)))) (l:=[(bE f226 0,(Pd.lp Dh Xu)),(bE f226 1,(Nu.lp vU .no))]) func226 aY (aB (aO Pd) (aB (aO Nu) aI)) h
def mT:EP Xg:=λh=>kP h
def awm:bw:=eB
abbrev alS:=Int
def d227:Td 0 alS:= .c [] [2] (.r 0 0 (ec 2 aU en) sn (λz=>z.1.1) (λx=>((x,()),(()))))
def ap8:=(bg ln)
def aiu:An:= .no
def jI(a0:Int):alS:=
 if a0<i64.wrap (0-a0)then i64.wrap (0-a0)else a0
def awe(a0:Int):ct vi (awm) 300 (aiu) 227 (ap8.c (a0,())) [] 0 d227.rd=Q (jI a0):=by
 refine Eq.trans (b:=(
  Q (if a0<i64.wrap (0-a0)then i64.wrap (0-a0)else a0):ah alS)) (by kernel_rfl) ?_
 simp only[jI,cO,de]
def Xl:=eL vi 227 I ap8 d227 (λg=>Q (jI g.1))
def B9:EO Xl:=λh=>kL (an:=aiu) func227 aY aI h (c:=λg=>awe g.1)
def GC:EP Xl:=λh=>kP h
def aov:bw:=(Xl (Xg (T4 (CL eB))))
abbrev aql:=aH
def d148:Td 0 aql:= .c [] [4] (.r 0 1 (ec 4 (qp 0 0) en) (sb 0 34 (lg 34) sn) (λz=>z.2.1) (λx=>(((),()),(x,()))))
def aou:∀f∈([147]:aa Nat),bA (aov) f:=(aB (GC (mT (ld (fG bK)))) aI)
def l5(a0:aH)(a1:aH):ah aql:=
 bif fB a0 then Q (a1)else match bif fB a1 then Q (G)else Q (bif O (a0.ag=a1.ag)then bif O (a0.af=a1.af)then bif O (a0.aj=a1.aj)then G else I else I else I)with|V=>V|Q r1=>bif r1 then Q (a0)else match BH [a0.aj,a1.aj,jI (i64.wrap (a0.ag-a1.ag))]with|V=>V|Q r2=>match mZ (if a1.ag<a0.ag then a1.ag else a0.ag) (if a0.af<a1.af then a1.af else a0.af) r2 with|V=>V|Q r3=>Q (r3)
def WD:=eL vi 148 I (lc (qg 34) (lc (qg 34) ln)) d148 (λg=>l5 g.1 g.2.1)
def rA:EO WD:=λh=>kL (F:=aov) (an:=(noTwo (noTwo (.two (.two (.rb [147] 14) .no) .no)))) (l:=[(.skip,(.rb [147] 14))]) func148 (B9 (BU (uR (jl aY)))) (aB aou aI) h
def GR:EP WD:=λh=>kP h
def F81:bw:=(aaC (WD (CL (aeS (Yn (LP eB))))))
abbrev E81:=aH×Int
def d81:Td 0 E81:= .c [] [6,7] (.r 0 1 (ec 6 (qp 0 0) (ec 7 aU en)) (sb 0 34 (lg 34) sn) (λz=>(z.2.1,z.1.2.1)) (λx=>(((),x.2,()),(x.1,()))))
def axK:∀f∈([145]:aa Nat),bA (F81) f:=(aB (UW (GR (fG (Tz (k9 (fZ bK)))))) aI)
def m81(a0:aH)(a1:Int)(a2:Int):ah E81:=
 match sZ a0 with|V=>V|Q r1=>bif bif r1 then I else G then Q ((aH.mk (0) (0) (0),1))else match bif O (a2<a1)then Q (G)else bif bif jL a1 then I else G then Q (G)else Q (bif jL a2 then I else G)with|V=>V|Q r2=>bif r2 then Q ((aH.mk (0) (0) (0),3))else match BI a0 (i64.wrap (a1-1))with|V=>V|Q r3=>match BI r3.snd a2 with|V=>V|Q r4=>bif bif fB r3.fst then I else G then match l5 r4.fst (gX a1)with|V=>V|Q r5=>bif bif fB r4.snd then I else G then match l5 r5 (gX a2)with|V=>V|Q r6=>Q ((r6,0))else Q ((r5,0))else bif bif fB r4.snd then I else G then match l5 r4.fst (gX a2)with|V=>V|Q r7=>Q ((r7,0))else Q ((r4.fst,0))
def e81:=eL vi 81 I (lc (qg 34) (bg (bg ln))) d81 (λg=>m81 g.1 g.2.1 g.t.1)
def Ou:EO e81:=λh=>kL (F:=F81) (an:=(noTwo (noTwo (.two (.two (.rb [145] 28) .no) .no)))) (l:=[(.skip,(.rb [145] 28))]) func81 (rE (rA (jl (G7 (Cf (kS aY)))))) (aB axK aI) h
def aqy:bw:=(CL eB)
abbrev apM:=Bool
def d177:Td 0 apM:= .c [] [4] (.r 0 0 (ec 4 qb en) sn (λz=>z.1.1) (λx=>((x,()),(()))))
def aiO:∀f∈([147]:aa Nat),bA (aqy) f:=(aB (fG bK) aI)
def UM(a0:aH)(a1:Int):ah apM:=
 match bif fB a0 then Q G else bif O (a1<a0.ag)then Q G else Q (O (a0.af<a1))with|V=>V|Q r1=>bif r1 then Q I else match bif O (a0.aj=0)then Q G else if¬a0.aj=0then Q (O ((i64.wrap (a1-a0.ag)).tmod a0.aj=0))else V with|V=>V|Q r2=>Q (r2)
def acf:=eL vi 177 I (lc (qg 34) (bg ln)) d177 (λg=>UM g.1 g.2.1)
def I7:EO acf:=λh=>kL (F:=aqy) (an:=(noTwo (.two (.two (.rb [147] 18) .no) (.two (.rb [147] 4) .no)))) (l:=[(.skip,(.rb [147] 18)),(.skip,(.rb [147] 4))]) func177 (jl aY) (aB aiO (aB aiO aI)) h
def Ad:EP acf:=λh=>kP h
def F92:bw:=(acf (LP eB))
abbrev E92:=Bool
def d92:Td 0 E92:= .c [] [4] (.r 0 0 (ec 4 qb en) sn (λz=>z.1.1) (λx=>((x,()),(()))))
def axB:∀f∈([144,177]:aa Nat),bA (F92) f:=(aB (Ad (fZ bK)) (aB (Ad (fZ bK)) aI))
def Uh(a0:aH)(a1:Int):ah E92:=
 match match sZ a0 with|V=>V|Q r1=>bif r1 then match UM a0 a1 with|V=>V|Q r2=>Q (r2)else Q (I)with|V=>V|Q r3=>Q (r3)
def e92:=eL vi 92 I (lc (qg 34) (bg ln)) d92 (λg=>Uh g.1 g.2.1)
def G5:EO e92:=λh=>kL (F:=F92) (an:=(noTwo (.two (.rb [144,177] 4) .no))) (l:=[(.skip,(.rb [144,177] 4))]) func92 (I7 (kS aY)) (aB axB aI) h
def WS:EP e92:=λh=>kP h
abbrev aqT:=Int
def d176:Td 0 aqT:= .c [] [2] (.r 0 0 (ec 2 aU en) sn (λz=>z.1.1) (λx=>((x,()),(()))))
def Bj(a0:aH):ah aqT:=
 bif fB a0 then Q 0 else bif O (a0.aj=0)then Q 1 else if¬a0.aj=0then Q (i64.wrap (i64.wrap ((i64.wrap (a0.af-a0.ag)).tdiv a0.aj)+1))else V
def akx:=eL vi 176 I (lc (qg 34) ln) d176 (λg=>Bj g.1)
def uH:EO akx:=λh=>kL (an:= .no) func176 (jl aY) aI h
def TJ:EP akx:=λh=>kP h
abbrev arx:=Bool×Bool
def d228:Td 0 arx:= .c [] [2,3] (.r 0 0 (ec 2 qb (ec 3 qb en)) sn (λz=>(z.1.1,z.1.2.1)) (λx=>((x.1,x.2,()),(()))))
def NT(a0:aH):ah arx:=
 match UM a0 (0)with|V=>V|Q r1=>match Bj a0 with|V=>V|Q r2=>bif O (1<r2)then Q ((r1,G))else match Bj a0 with|V=>V|Q r3=>bif O (r3=1)then Q ((r1,bif O (a0.ag=0)then I else G))else Q ((r1,I))
def acV:=eL vi 228 I (lc (qg 34) ln) d228 (λg=>NT g.1)
def G3:EO acV:=λh=>kL (an:= .no) func228 (I7 (uH aY)) aI h
def F5:EP acV:=λh=>kP h
abbrev aoA:=Bool×Bool
def d151:Td 0 aoA:= .c [] [2,3] (.r 0 0 (ec 2 qb (ec 3 qb en)) sn (λz=>(z.1.1,z.1.2.1)) (λx=>((x.1,x.2,()),(()))))
def Nl(a0:aH):ah aoA:=
 match sZ a0 with|V=>V|Q r1=>bif bif r1 then I else G then Q ((I,I))else match NT a0 with|V=>V|Q r2=>Q (r2)
def ae9:=eL vi 151 I (lc (qg 34) ln) d151 (λg=>Nl g.1)
def HS:EO ae9:=λh=>kL (an:= .no) func151 (G3 (kS aY)) aI h
def apw:bw:=(WD (LP eB))
abbrev aoM:=aH×Int
def d229:Td 0 aoM:= .c [] [4,5] (.r 0 1 (ec 4 (qp 0 0) (ec 5 aU en)) (sb 0 34 (lg 34) sn) (λz=>(z.2.1,z.1.2.1)) (λx=>(((),x.2,()),(x.1,()))))
def ark:∀f∈([144]:aa Nat),bA (apw) f:=(aB (GR (fZ bK)) aI)
def aeF(a0:aH)(a1:aH):ah aoM:=
 match match sZ a0 with|V=>V|Q r1=>bif bif r1 then I else G then Q (G)else match sZ a1 with|V=>V|Q r2=>Q (bif r2 then I else G)with|V=>V|Q r3=>bif r3 then Q ((aH.mk (0) (0) (0),1))else match l5 a0 a1 with|V=>V|Q r4=>Q ((r4,0))
def awZ:=eL vi 229 I (lc (qg 34) (lc (qg 34) ln)) d229 (λg=>aeF g.1 g.2.1)
def abr:EO awZ:=λh=>kL (F:=apw) (an:=(noTwo (.two (.two (.rb [144] 13) .no) .no))) (l:=[(.skip,(.rb [144] 13))]) func229 (rA (kS aY)) (aB ark aI) h
abbrev aqG:=aH
def d152:Td 0 aqG:= .c [] [4] (.r 0 1 (ec 4 (qp 0 0) en) (sb 0 34 (lg 34) sn) (λz=>z.2.1) (λx=>(((),()),(x,()))))
def tQ(a0:aH)(a1:aH):ah aqG:=
 bif bif O (a0.ag=a1.ag)then bif O (a0.af=a1.af)then bif O (a0.aj=a1.aj)then G else I else I else I then Q (a0)else match aeF a0 a1 with|V=>V|Q r1=>Q (r1.fst)
def apd:=eL vi 152 I (lc (qg 34) (lc (qg 34) ln)) d152 (λg=>tQ g.1 g.2.1)
def Hf:EO apd:=λh=>kL (an:= .no) func152 (abr aY) aI h
def apS:bw:=(KF eB)
abbrev ao6:=aH
def d153:Td 0 ao6:= .c [] [0] (.r 0 1 (ec 0 (qp 0 0) en) (sb 0 34 (lg 34) sn) (λz=>z.2.1) (λx=>(((),()),(x,()))))
def arC:=ln
def aht:An:= .no
def agl:ao6:=
 iV
def awE:ct vi (apS) 300 (aht) 153 (arC.c ()) [] 0 d153.rd=Q (agl):=by kernel_rfl
def ata:=eL vi 153 I arC d153 (λ_=>Q (agl))
def acA:EO ata:=λh=>kL (F:=apS) (an:=aht) func153 (jU aY) aI h (c:=λ_=>awE)
abbrev atr:=aH
def d230:Td 0 atr:= .c [] [4] (.r 0 1 (ec 4 (qp 0 0) en) (sb 0 34 (lg 34) sn) (λz=>z.2.1) (λx=>(((),()),(x,()))))
def oQ(a0:Bool)(a1:Bool):ah atr:=
 bif a0 then match l5 iV (gX (0))with|V=>V|Q r1=>bif a1 then match l5 r1 (gX (1))with|V=>V|Q r2=>Q (r2)else Q (r1)else bif a1 then match l5 iV (gX (1))with|V=>V|Q r3=>Q (r3)else Q (iV)
def ZZ:=eL vi 230 I (lc qb (lc qb ln)) d230 (λg=>oQ g.1 g.2.1)
def Tp:EO ZZ:=λh=>kL (an:= .no) func230 (jU (rE (rA aY))) aI h
def Gm:EP ZZ:=λh=>kP h
def aoO:bw:=(ZZ (acV (CL (LP eB))))
abbrev aqC:=aH×Int
def d154:Td 0 aqC:= .c [] [4,5] (.r 0 1 (ec 4 (qp 0 0) (ec 5 aU en)) (sb 0 34 (lg 34) sn) (λz=>(z.2.1,z.1.2.1)) (λx=>(((),x.2,()),(x.1,()))))
def apn:∀f∈([144]:aa Nat),bA (aoO) f:=(aB (Gm (F5 (fG (fZ bK)))) aI)
def aac(a0:Int)(a1:aH):ah aqC:=
 match match sZ a1 with|V=>V|Q r1=>bif bif r1 then I else G then Q (G)else bif bif O (a0=6)then I else G then Q (bif O (a0=7)then I else G)else Q (I)with|V=>V|Q r2=>bif r2 then Q ((aH.mk (0) (0) (0),1))else bif fB a1 then Q ((a1,0))else bif O (a0=7)then match NT a1 with|V=>V|Q r3=>match oQ r3.snd r3.fst with|V=>V|Q r4=>Q ((r4,0))else Q ((aH.mk (i64.wrap (0-a1.af)) (i64.wrap (0-a1.ag)) a1.aj,0))
def asV:=eL vi 154 I (bg (lc (qg 34) ln)) d154 (λg=>aac g.1 g.2.1)
def aaK:EO asV:=λh=>kL (F:=aoO) (an:=(noTwo (.two (.two (.rb [144] 18) .no) .no))) (l:=[(.skip,(.rb [144] 18))]) func154 (Tp (G3 (jl (kS aY)))) (aB apn aI) h
def awc:bw:=eB
abbrev ak3:=Bool
def d231:Td 0 ak3:= .c [] [2] (.r 0 0 (ec 2 qb en) sn (λz=>z.1.1) (λx=>((x,()),(()))))
def aqb:=(bg ln)
def aiv:An:= .no
def AN(a0:Int):ak3:=
 bif O (a0=8)then G else bif O (a0=9)then G else bif O (a0=10)then G else bif O (a0=11)then G else bif O (a0=12)then G else bif O (a0=13)then G else bif O (a0=14)then G else bif O (a0=15)then G else bif O (a0=16)then G else bif O (a0=17)then G else bif O (a0=18)then G else bif O (a0=19)then G else bif O (a0=20)then G else bif O (a0=21)then G else bif O (a0=22)then G else I
def avI(a0:Int):ct vi (awc) 300 (aiv) 231 (aqb.c (a0,())) [] 0 d231.rd=Q (AN a0):=by
 refine Eq.trans (b:=(
  bif O (a0=8)then Q (G)else bif O (a0=9)then Q (G)else bif O (a0=10)then Q (G)else bif O (a0=11)then Q (G)else bif O (a0=12)then Q (G)else bif O (a0=13)then Q (G)else bif O (a0=14)then Q (G)else bif O (a0=15)then Q (G)else bif O (a0=16)then Q (G)else bif O (a0=17)then Q (G)else bif O (a0=18)then Q (G)else bif O (a0=19)then Q (G)else bif O (a0=20)then Q (G)else bif O (a0=21)then Q (G)else bif O (a0=22)then Q (G)else Q (I):ah ak3)) (by kernel_rfl) ?_
 simp only[AN,cO,de]
def amL:=eL vi 231 I aqb d231 (λg=>Q (AN g.1))
def aan:EO amL:=λh=>kL (an:=aiv) func231 aY aI h (c:=λg=>avI g.1)
def qZ:EP amL:=λh=>kP h
def asM:bw:=(Xl eB)
abbrev ari:=Int×Bool
def d274:Td 0 ari:= .c [] [4,5] (.r 0 0 (ec 4 aU (ec 5 qb en)) sn (λz=>(z.1.1,z.1.2.1)) (λx=>((x.1,x.2,()),(()))))
def aoi:∀f∈([227]:aa Nat),bA (asM) f:=(aB (GC bK) aI)
def MR(a0:Int)(a1:Int):ah ari:=
 match bif bif O (a0=0)then I else G then if¬jI a0=0then Q (O (i64.wrap ((1099511627776:Int).tdiv (jI a0))<jI a1))else V else Q I with|V=>V|Q r1=>bif r1 then Q (0,I)else Q ((i64.wrap (a0*a1),G))
def av7:=eL vi 274 I (bg (bg ln)) d274 (λg=>MR g.1 g.2.1)
def Z7:EO av7:=λh=>kL (F:=asM) (an:=(noTwo (.two (.two (.rb [227] 15) .no) .no))) (l:=[(.skip,(.rb [227] 15))]) func274 (B9 aY) (aB aoi aI) h
structure tg where
 t0:List Int
 (t3 t4:Int)
def PB:Td 0 tg:= .c [] [0,3,4] (.r 0 0 (ec 0 (ql 3) (ec 3 aU (ec 4 aU en))) sn (λz=>⟨z.1.1,z.1.2.1,z.1.t.1⟩) (λx=>((x.t0,x.t3,x.t4,()),(()))))
def ES(p:tg):ah (ah tg):=
 bif O (p.t4<p.t0.length)then if 0<=p.t4/\p.t4<p.t0.length then Q (Q (tg.mk p.t0 (if((p.t0,p.t3,p.t4,()),()).fst.fst[((p.t0,p.t3,p.t4,()),()).fst.snd.snd.fst.toNat]! <((p.t0,p.t3,p.t4,()),()).fst.snd.fst then p.t0[p.t4.toNat]! else p.t3) (i64.wrap (p.t4+1))))else V else Q (V)
def IX:=bJ (ES)
abbrev asc:=Int
def d275:Td 0 asc:= .c [] [2] (.r 0 0 (ec 2 aU en) sn (λz=>z.1.1) (λx=>((x,()),(()))))
def afo(a0:aa Int):ah asc:=
 bif O ((a0.length:Int)<1)then V else if(0:Int)<=(0:Int)/\(0:Int)<a0.length then match IX (tg.mk a0 a0[0]! (1))with|V=>V|Q r1=>bif O (r1.t4<r1.t0.length)then if 0<=r1.t4/\r1.t4<r1.t0.length then V else V else Q (r1.t3)else V
def axy:=eL vi 275 I (lc (ql 3) ln) d275 (λg=>afo g.1)
def aaz:EO axy:=λh=>kL (an:=(noTwo (noTwo (noTwo (.two (noTwo (PB.lp IX .no)) .no))))) (l:=[(bE f275 0,(PB.lp IX .no))]) func275 aY (aB (aO PB) aI) h
structure sY where
 t0:List Int
 (t3 t4:Int)
def Pf:Td 0 sY:= .c [] [0,3,4] (.r 0 0 (ec 0 (ql 3) (ec 3 aU (ec 4 aU en))) sn (λz=>⟨z.1.1,z.1.2.1,z.1.t.1⟩) (λx=>((x.t0,x.t3,x.t4,()),(()))))
def EY(p:sY):ah (ah sY):=
 bif O (p.t4<p.t0.length)then if 0<=p.t4/\p.t4<p.t0.length then Q (Q (sY.mk p.t0 (if((p.t0,p.t3,p.t4,()),()).fst.snd.fst<((p.t0,p.t3,p.t4,()),()).fst.fst[((p.t0,p.t3,p.t4,()),()).fst.snd.snd.fst.toNat]! then p.t0[p.t4.toNat]! else p.t3) (i64.wrap (p.t4+1))))else V else Q (V)
def Ic:=bJ (EY)
abbrev arI:=Int
def d276:Td 0 arI:= .c [] [2] (.r 0 0 (ec 2 aU en) sn (λz=>z.1.1) (λx=>((x,()),(()))))
def ZS(a0:aa Int):ah arI:=
 bif O ((a0.length:Int)<1)then V else if(0:Int)<=(0:Int)/\(0:Int)<a0.length then match Ic (sY.mk a0 a0[0]! (1))with|V=>V|Q r1=>bif O (r1.t4<r1.t0.length)then if 0<=r1.t4/\r1.t4<r1.t0.length then V else V else Q (r1.t3)else V
def au3:=eL vi 276 I (lc (ql 3) ln) d276 (λg=>ZS g.1)
def acp:EO au3:=λh=>kL (an:=(noTwo (noTwo (noTwo (.two (noTwo (Pf.lp Ic .no)) .no))))) (l:=[(bE f276 0,(Pf.lp Ic .no))]) func276 aY (aB (aO Pf) aI) h
abbrev ara:=aH×Int
def d232:Td 0 ara:= .c [] [4,5] (.r 0 1 (ec 4 (qp 0 0) (ec 5 aU en)) (sb 0 34 (lg 34) sn) (λz=>(z.2.1,z.1.2.1)) (λx=>(((),x.2,()),(x.1,()))))
def UD(a0:aH)(a1:aH):ah ara:=
 match MR a0.ag a1.ag with|V=>V|Q r1=>bif bif r1.snd then I else G then Q ((aH.mk (0) (0) (0),3))else match MR a0.ag a1.af with|V=>V|Q r2=>bif bif r2.snd then I else G then Q ((aH.mk (0) (0) (0),3))else match MR a0.af a1.ag with|V=>V|Q r3=>bif bif r3.snd then I else G then Q ((aH.mk (0) (0) (0),3))else match MR a0.af a1.af with|V=>V|Q r4=>bif bif r4.snd then I else G then Q ((aH.mk (0) (0) (0),3))else match BH [i64.wrap (a0.aj*jI a1.ag),i64.wrap (a1.aj*jI a0.ag),i64.wrap (a0.aj*a1.aj)]with|V=>V|Q r5=>match afo ([r1.fst]++[r2.fst]++[r3.fst]++[r4.fst])with|V=>V|Q r6=>match ZS ([r1.fst]++[r2.fst]++[r3.fst]++[r4.fst])with|V=>V|Q r7=>match mZ r6 r7 r5 with|V=>V|Q r8=>Q ((r8,0))
def ai0:=eL vi 232 I (lc (qg 34) (lc (qg 34) ln)) d232 (λg=>UD g.1 g.2.1)
def afS:EO ai0:=λh=>kL (an:= .no) func232 (acp (aaz (Z7 (B9 (BU (uR aY)))))) aI h
def rB:EP ai0:=λh=>kP h
def api:bw:=(Xl (T4 (WD (aeS eB))))
abbrev aod:=aH
def d277:Td 0 aod:= .c [] [6] (.r 0 1 (ec 6 (qp 0 0) en) (sb 0 34 (lg 34) sn) (λz=>z.2.1) (λx=>(((),()),(x,()))))
def aq9:∀f∈([]:aa Nat),bA (api) f:=aI
def TO(a0:Int)(a1:aH)(a2:aH):ah aod:=
 bif O (a0=11)then match bif O (0<=a1.ag)then Q (O (0<=a2.ag))else Q (I)with|V=>V|Q r1=>bif r1 then match mZ (0) (if jI a1.ag<jI a1.af then jI a1.af else jI a1.ag) (1)with|V=>V|Q r2=>Q (r2)else match mZ (i64.wrap (0-if jI a1.ag<jI a1.af then jI a1.af else jI a1.ag)) (if jI a1.ag<jI a1.af then jI a1.af else jI a1.ag) (1)with|V=>V|Q r3=>Q (r3)else bif O (a0=12)then match mZ (if 0<i64.wrap (a2.ag+1)then 0 else i64.wrap (a2.ag+1)) (if i64.wrap (a2.af-1)<0 then 0 else i64.wrap (a2.af-1)) (1)with|V=>V|Q r4=>Q (r4)else bif O (a0=21)then match l5 a1 a2 with|V=>V|Q r5=>match BI r5 (if a2.af<a1.af then a2.af else a1.af)with|V=>V|Q r6=>Q (r6.fst)else match l5 a1 a2 with|V=>V|Q r7=>match BI r7 (i64.wrap ((if a1.ag<a2.ag then a2.ag else a1.ag)-1))with|V=>V|Q r8=>Q (r8.snd)
def aww:=eL vi 277 I (bg (lc (qg 34) (lc (qg 34) ln))) d277 (λg=>TO g.1 g.2.1 g.t.1)
def ad6:EO aww:=λh=>kL (F:=api) (an:=(noTwo (.two (noTwo (noTwo (.two (noTwo (.two (.two (.rb [] 29) .no) .no)) .no))) .no))) (l:=[(.skip,(.rb [] 29))]) func277 (B9 (uR (rA (G7 aY)))) (aB aq9 aI) h
structure mE where
 t3:List Int
 (t6 t7:Int)
 b0:aH
def Ox:Td 0 mE:= .c [] [1,3,6,7] (.t (cU.s 3 [] 3) (.c [] [1,3,6,7] (.r 0 2 (ec 1 (qp 0 0) (ec 3 (qo 1) (ec 6 aU (ec 7 aU en)))) (sb 0 34 (lg 34) (sr 1 3 sn)) (λz=>⟨z.t.1,z.1.t.1,z.1.t.2.1,z.2.1⟩) (λx=>(((),(),x.t6,x.t7,()),(x.b0,x.t3,()))))))
def sM(p:mE):ah (ah mE):=
 bif O (p.t7<p.t6)then if(p.t3++[i64.wrap (p.b0.ag+i64.wrap (p.t7*p.b0.aj))]).length<=1073741824 then Q (Q (mE.mk (p.t3++[i64.wrap (p.b0.ag+i64.wrap (p.t7*p.b0.aj))]) p.t6 (i64.wrap (p.t7+1)) p.b0))else V else Q (V)
def Jv:=bJ (sM)
abbrev asz:=aa Int
def d278:Td 0 asz:= .c [] [2] (.r 0 1 (ec 2 (qo 0) en) (sr 0 3 sn) (λz=>z.2.1) (λx=>(((),()),(x,()))))
def Uu(a0:aH):ah asz:=
 match Bj a0 with|V=>V|Q r1=>match Jv (mE.mk [] r1 (0) a0)with|V=>V|Q r2=>bif O (r2.t7<r2.t6)then if(r2.t3++[i64.wrap (r2.b0.ag+i64.wrap (r2.t7*r2.b0.aj))]).length<=1073741824 then V else V else Q (r2.t3)
def au0:=eL vi 278 I (lc (qg 34) ln) d278 (λg=>Uu g.1)
def agp:EO au0:=λh=>kL (an:=(noTwo (noTwo (.two (noTwo (Ox.lp Jv .no)) .no)))) (l:=[(bE f278 0,(Ox.lp Jv .no))]) func278 (uH aY) (aB (aO Ox) aI) h
def atk:bw:=eB
abbrev atK:=Int
def d315:Td 0 atK:= .c [] [4] (.r 0 0 (ec 4 aU en) sn (λz=>z.1.1) (λx=>((x,()),(()))))
def aq6:∀f∈([]:aa Nat),bA (atk) f:=aI
def YD(a0:Int)(a1:Int):ah atK:=
 bif O (a1=0)then Q 0 else if¬a1=0then match if¬a1=0then bif bif O (a0.tmod a1=0)then I else G then Q (bif O (a0<0)==O (a1<0)then I else G)else Q I else V with|V=>V|Q r1=>bif r1 then Q (i64.wrap (i64.wrap (a0.tdiv a1)-1))else Q (i64.wrap (a0.tdiv a1))else V
def auu:=eL vi 315 I (bg (bg ln)) d315 (λg=>YD g.1 g.2.1)
def aeT:EO auu:=λh=>kL (F:=atk) (an:=(noTwo (noTwo (noTwo (.two (.two (.rb [] 21) .no) .no))))) (l:=[(.skip,(.rb [] 21))]) func315 aY (aB aq6 aI) h
abbrev aqA:=Int
def d279:Td 0 aqA:= .c [] [6] (.r 0 0 (ec 6 aU en) sn (λz=>z.1.1) (λx=>((x,()),(()))))
def Um(a0:Int)(a1:Int)(a2:Int):ah aqA:=
 bif O (a0=11)then match YD a1 a2 with|V=>V|Q r1=>Q (r1)else bif O (a0=12)then bif O (a2=0)then Q (0)else match YD a1 a2 with|V=>V|Q r2=>Q (i64.wrap (a1-i64.wrap (a2*r2)))else bif O (a0=21)then Q (if a2<a1 then a2 else a1)else Q (if a1<a2 then a2 else a1)
def awq:=eL vi 279 I (bg (bg (bg ln))) d279 (λg=>Um g.1 g.2.1 g.t.1)
def aad:EO awq:=λh=>kL (an:= .no) func279 (aeT aY) aI h
structure om where
 (t0 t9:Int)
 t34:List Int
 (t35 t36:Int)
 t41:List Int
 (t42 t43:Int)
 (b0 b1 b2:aH)
def Pj:Td 0 om:= .c [] [0,5,6,7,9,34,35,36,41,42,43] (.r 0 5 (ec 0 aU (ec 5 (qp 0 0) (ec 6 (qp 1 0) (ec 7 (qp 2 0) (ec 9 aU (ec 34 (qo 3) (ec 35 aU (ec 36 aU (ec 41 (qo 4) (ec 42 aU (ec 43 aU en))))))))))) (sb 0 34 (lg 34) (sb 1 34 (lg 34) (sb 2 34 (lg 34) (sr 3 3 (sr 4 3 sn))))) (λz=>⟨z.1.1,z.1.q.1,z.q.1,z.1.q.t.1,z.1.q.t.2.1,z.q.2.1,z.1.q.q.2.1,z.1.q.q.t.1,z.2.1,z.t.1,z.t.2.1⟩) (λx=>((x.t0,(),(),(),x.t9,(),x.t35,x.t36,(),x.t42,x.t43,()),(x.b0,x.b1,x.b2,x.t34,x.t41,()))))
def Ib(p:om):ah (ah om):=
 bif O (p.t43<p.t42)then if 0<=p.t43/\p.t43<p.t41.length then if 3=3/\p.t43.toNat<p.t41.length then match Um p.t0 p.t9 p.t41[p.t43.toNat]! with|V=>V|Q r5=>match l5 p.b2 (gX r5)with|V=>V|Q r6=>Q (Q (om.mk p.t0 p.t9 p.t34 p.t35 p.t36 p.t41 p.t42 (i64.wrap (p.t43+1)) p.b0 p.b1 r6))else V else V else Q (V)
def DI:=bJ (Ib)
structure qS where
 t0:Int
 t34:List Int
 (t35 t36:Int)
 (b0 b1 b2:aH)
def Nk:Td 0 qS:= .c [] [0,5,6,7,34,35,36] (.r 0 4 (ec 0 aU (ec 5 (qp 0 0) (ec 6 (qp 1 0) (ec 7 (qp 2 0) (ec 34 (qo 3) (ec 35 aU (ec 36 aU en))))))) (sb 0 34 (lg 34) (sb 1 34 (lg 34) (sb 2 34 (lg 34) (sr 3 3 sn)))) (λz=>⟨z.1.1,z.q.1,z.1.q.2.1,z.1.q.t.1,z.2.1,z.t.1,z.t.2.1⟩) (λx=>((x.t0,(),(),(),(),x.t35,x.t36,()),(x.b0,x.b1,x.b2,x.t34,()))))
def Bd(p:qS):ah (ah qS):=
 bif O (p.t36<p.t35)then if 0<=p.t36/\p.t36<p.t34.length then if 3=3/\p.t36.toNat<p.t34.length then match Uu p.b0 with|V=>V|Q r1=>match DI (om.mk p.t0 p.t34[p.t36.toNat]! p.t34 p.t35 p.t36 r1 (↑(yC r1):Int) 0 p.b0 p.b1 p.b2)with|V=>V|Q r2=>bif O (r2.t43<r2.t42)then if 0<=r2.t43/\r2.t43<r2.t41.length then if 3=3/\r2.t43.toNat<r2.t41.length then match Um r2.t0 r2.t9 r2.t41[r2.t43.toNat]! with|V=>V|Q r3=>match l5 r2.b2 (gX r3)with|V=>V|Q r4=>V else V else V else Q (Q (qS.mk r2.t0 r2.t34 r2.t35 (i64.wrap (r2.t36+1)) r2.b0 r2.b1 r2.b2))else V else V else Q (V)
def X5:An:=(noTwo (noTwo (.two (noTwo (noTwo (Pj.lp DI .no))) .no)))
def G2:=bJ (Bd)
abbrev atB:=aH
def d233:Td 0 atB:= .c [] [6] (.r 0 1 (ec 6 (qp 0 0) en) (sb 0 34 (lg 34) sn) (λz=>z.2.1) (λx=>(((),()),(x,()))))
def uS(a0:Int)(a1:aH)(a2:aH):ah atB:=
 match Bj a1 with|V=>V|Q r7=>bif O (4096<r7)then match TO a0 a1 a2 with|V=>V|Q r8=>Q (r8)else match Bj a2 with|V=>V|Q r9=>bif O (4096<r9)then match TO a0 a1 a2 with|V=>V|Q r10=>Q (r10)else match Bj a1 with|V=>V|Q r11=>match Bj a2 with|V=>V|Q r12=>bif O (4096<i64.wrap (r11*r12))then match TO a0 a1 a2 with|V=>V|Q r13=>Q (r13)else match Uu a1 with|V=>V|Q r14=>match G2 (qS.mk a0 r14 (↑(yC r14):Int) 0 a2 (aH.mk 0 0 0) iV)with|V=>V|Q r15=>bif O (r15.t36<r15.t35)then if 0<=r15.t36/\r15.t36<r15.t34.length then if 3=3/\r15.t36.toNat<r15.t34.length then match Uu r15.b0 with|V=>V|Q r16=>match DI (om.mk r15.t0 r15.t34[r15.t36.toNat]! r15.t34 r15.t35 r15.t36 r16 (↑(yC r16):Int) 0 r15.b0 r15.b1 r15.b2)with|V=>V|Q r17=>bif O (r17.t43<r17.t42)then if 0<=r17.t43/\r17.t43<r17.t41.length then if 3=3/\r17.t43.toNat<r17.t41.length then match Um r17.t0 r17.t9 r17.t41[r17.t43.toNat]! with|V=>V|Q r18=>match l5 r17.b2 (gX r18)with|V=>V|Q r19=>V else V else V else V else V else V else Q (r15.b2)
def ang:=eL vi 233 I (bg (lc (qg 34) (lc (qg 34) ln))) d233 (λg=>uS g.1 g.2.1 g.t.1)
def acr:EO ang:=λh=>kL (an:=(noTwo (noTwo (noTwo (.two (noTwo (Nk.lp G2 X5)) .no))))) (l:=[(bE f233 0,(Nk.lp G2 X5)),(bE f233 1,(Pj.lp DI .no))]) func233 (aad (agp (ad6 (jU (uH (rE (rA aY))))))) (aB (aO Nk) (aB (aO Pj) aI)) h
def rf:EP ang:=λh=>kP h
structure mC where
 (t1 t5 t6 t7 t8:Int)
def OX:Td 0 mC:= .c [] [1,5,6,7,8] (.r 0 0 (ec 1 aU (ec 5 aU (ec 6 aU (ec 7 aU (ec 8 aU en))))) sn (λz=>⟨z.1.1,z.1.2.1,z.1.t.1,z.1.t.2.1,z.1.q.1⟩) (λx=>((x.t1,x.t5,x.t6,x.t7,x.t8,()),(()))))
def DT(p:mC):ah (ah mC):=
 bif O (1<p.t5)then if¬p.t5=0then Q (Q (mC.mk p.t1 (i64.wrap (p.t6-i64.wrap (i64.wrap (p.t6.tdiv p.t5)*p.t5))) p.t5 (i64.wrap (p.t8-i64.wrap (i64.wrap (p.t6.tdiv p.t5)*p.t7))) p.t7))else V else Q (V)
def HH:=bJ (DT)
abbrev asZ:=Int
def d341:Td 0 asZ:= .c [] [4] (.r 0 0 (ec 4 aU en) sn (λz=>z.1.1) (λx=>((x,()),(()))))
def agd(a0:Int)(a1:Int):ah asZ:=
 if¬a1=0then match HH (mC.mk a1 (a0.tmod a1) a1 1 0)with|V=>V|Q r1=>bif O (1<r1.t5)then if¬r1.t5=0then V else V else if¬r1.t1=0then if¬r1.t1=0then Q ((i64.wrap (r1.t7.tmod r1.t1+r1.t1)).tmod r1.t1)else V else V else V
def aqv:=eL vi 341 I (bg (bg ln)) d341 (λg=>agd g.1 g.2.1)
def aec:EO aqv:=λh=>kL (an:=(noTwo (noTwo (.two (OX.lp HH .no) .no)))) (l:=[(bE f341 0,(OX.lp HH .no))]) func341 aY (aB (aO OX) aI) h
def asa:bw:=(aqv (aqN (Xg (KF (aaC eB)))))
abbrev ato:=aH
def d316:Td 0 ato:= .c [] [4] (.r 0 1 (ec 4 (qp 0 0) en) (sb 0 34 (lg 34) sn) (λz=>z.2.1) (λx=>(((),()),(x,()))))
def aq7:∀f∈([]:aa Nat),bA (asa) f:=aI
def ab4(a0:aH)(a1:aH):ah ato:=
 match BH [a0.aj,a1.aj]with|V=>V|Q r1=>match bif O ((if a1.af<a0.af then a1.af else a0.af)<if a0.ag<a1.ag then a1.ag else a0.ag)then Q G else if¬r1=0then Q (bif O ((i64.wrap (a1.ag-a0.ag)).tmod r1=0)then I else G)else V with|V=>V|Q r2=>bif r2 then Q (iV)else if¬r1=0then bif O (1<i64.wrap (a1.aj.tdiv r1))then if¬r1=0then if¬i64.wrap (a1.aj.tdiv r1)=0then if¬i64.wrap (a1.aj.tdiv r1)=0then if¬r1=0then if¬i64.wrap (a1.aj.tdiv r1)=0then match agd ((i64.wrap (a0.aj.tdiv r1)).tmod (i64.wrap (a1.aj.tdiv r1))) (i64.wrap (a1.aj.tdiv r1))with|V=>V|Q r3=>match abz ((i64.wrap ((i64.wrap ((i64.wrap (a1.ag-a0.ag)).tdiv r1)).tmod (i64.wrap (a1.aj.tdiv r1))+i64.wrap (a1.aj.tdiv r1))).tmod (i64.wrap (a1.aj.tdiv r1))) r3 (i64.wrap (a1.aj.tdiv r1))with|V=>V|Q r4=>if¬a0.aj=0then if¬a0.aj=0then bif O (r4<i64.wrap ((i64.wrap (i64.wrap (i64.wrap ((if a0.ag<a1.ag then a1.ag else a0.ag)-a0.ag)+a0.aj)-1)).tdiv a0.aj))then if¬i64.wrap (a1.aj.tdiv r1)=0then bif O (i64.wrap ((i64.wrap ((if a1.af<a0.af then a1.af else a0.af)-a0.ag)).tdiv a0.aj)<i64.wrap (r4+i64.wrap (i64.wrap ((i64.wrap (i64.wrap (i64.wrap (i64.wrap ((i64.wrap (i64.wrap (i64.wrap ((if a0.ag<a1.ag then a1.ag else a0.ag)-a0.ag)+a0.aj)-1)).tdiv a0.aj)-r4)+i64.wrap (a1.aj.tdiv r1))-1)).tdiv (i64.wrap (a1.aj.tdiv r1)))*i64.wrap (a1.aj.tdiv r1))))then Q (iV)else if¬i64.wrap (a1.aj.tdiv r1)=0then bif O (i64.wrap (r4+i64.wrap (i64.wrap ((i64.wrap (i64.wrap (i64.wrap (i64.wrap ((i64.wrap (i64.wrap (i64.wrap ((if a0.ag<a1.ag then a1.ag else a0.ag)-a0.ag)+a0.aj)-1)).tdiv a0.aj)-r4)+i64.wrap (a1.aj.tdiv r1))-1)).tdiv (i64.wrap (a1.aj.tdiv r1)))*i64.wrap (a1.aj.tdiv r1)))=i64.wrap (i64.wrap (r4+i64.wrap (i64.wrap ((i64.wrap (i64.wrap (i64.wrap (i64.wrap ((i64.wrap (i64.wrap (i64.wrap ((if a0.ag<a1.ag then a1.ag else a0.ag)-a0.ag)+a0.aj)-1)).tdiv a0.aj)-r4)+i64.wrap (a1.aj.tdiv r1))-1)).tdiv (i64.wrap (a1.aj.tdiv r1)))*i64.wrap (a1.aj.tdiv r1)))+i64.wrap (i64.wrap ((i64.wrap (i64.wrap ((i64.wrap ((if a1.af<a0.af then a1.af else a0.af)-a0.ag)).tdiv a0.aj)-i64.wrap (r4+i64.wrap (i64.wrap ((i64.wrap (i64.wrap (i64.wrap (i64.wrap ((i64.wrap (i64.wrap (i64.wrap ((if a0.ag<a1.ag then a1.ag else a0.ag)-a0.ag)+a0.aj)-1)).tdiv a0.aj)-r4)+i64.wrap (a1.aj.tdiv r1))-1)).tdiv (i64.wrap (a1.aj.tdiv r1)))*i64.wrap (a1.aj.tdiv r1))))).tdiv (i64.wrap (a1.aj.tdiv r1)))*i64.wrap (a1.aj.tdiv r1))))then Q (gX (i64.wrap (a0.ag+i64.wrap (i64.wrap (r4+i64.wrap (i64.wrap ((i64.wrap (i64.wrap (i64.wrap (i64.wrap ((i64.wrap (i64.wrap (i64.wrap ((if a0.ag<a1.ag then a1.ag else a0.ag)-a0.ag)+a0.aj)-1)).tdiv a0.aj)-r4)+i64.wrap (a1.aj.tdiv r1))-1)).tdiv (i64.wrap (a1.aj.tdiv r1)))*i64.wrap (a1.aj.tdiv r1)))*a0.aj))))else Q (aH.mk (i64.wrap (a0.ag+i64.wrap (i64.wrap (r4+i64.wrap (i64.wrap ((i64.wrap (i64.wrap (i64.wrap (i64.wrap ((i64.wrap (i64.wrap (i64.wrap ((if a0.ag<a1.ag then a1.ag else a0.ag)-a0.ag)+a0.aj)-1)).tdiv a0.aj)-r4)+i64.wrap (a1.aj.tdiv r1))-1)).tdiv (i64.wrap (a1.aj.tdiv r1)))*i64.wrap (a1.aj.tdiv r1)))*a0.aj))) (i64.wrap (a0.ag+i64.wrap (i64.wrap (i64.wrap (r4+i64.wrap (i64.wrap ((i64.wrap (i64.wrap (i64.wrap (i64.wrap ((i64.wrap (i64.wrap (i64.wrap ((if a0.ag<a1.ag then a1.ag else a0.ag)-a0.ag)+a0.aj)-1)).tdiv a0.aj)-r4)+i64.wrap (a1.aj.tdiv r1))-1)).tdiv (i64.wrap (a1.aj.tdiv r1)))*i64.wrap (a1.aj.tdiv r1)))+i64.wrap (i64.wrap ((i64.wrap (i64.wrap ((i64.wrap ((if a1.af<a0.af then a1.af else a0.af)-a0.ag)).tdiv a0.aj)-i64.wrap (r4+i64.wrap (i64.wrap ((i64.wrap (i64.wrap (i64.wrap (i64.wrap ((i64.wrap (i64.wrap (i64.wrap ((if a0.ag<a1.ag then a1.ag else a0.ag)-a0.ag)+a0.aj)-1)).tdiv a0.aj)-r4)+i64.wrap (a1.aj.tdiv r1))-1)).tdiv (i64.wrap (a1.aj.tdiv r1)))*i64.wrap (a1.aj.tdiv r1))))).tdiv (i64.wrap (a1.aj.tdiv r1)))*i64.wrap (a1.aj.tdiv r1)))*a0.aj))) (i64.wrap (i64.wrap (a1.aj.tdiv r1)*a0.aj)))else V else V else bif O (i64.wrap ((i64.wrap ((if a1.af<a0.af then a1.af else a0.af)-a0.ag)).tdiv a0.aj)<r4)then Q (iV)else if¬i64.wrap (a1.aj.tdiv r1)=0then bif O (r4=i64.wrap (r4+i64.wrap (i64.wrap ((i64.wrap (i64.wrap ((i64.wrap ((if a1.af<a0.af then a1.af else a0.af)-a0.ag)).tdiv a0.aj)-r4)).tdiv (i64.wrap (a1.aj.tdiv r1)))*i64.wrap (a1.aj.tdiv r1))))then Q (gX (i64.wrap (a0.ag+i64.wrap (r4*a0.aj))))else Q (aH.mk (i64.wrap (a0.ag+i64.wrap (r4*a0.aj))) (i64.wrap (a0.ag+i64.wrap (i64.wrap (r4+i64.wrap (i64.wrap ((i64.wrap (i64.wrap ((i64.wrap ((if a1.af<a0.af then a1.af else a0.af)-a0.ag)).tdiv a0.aj)-r4)).tdiv (i64.wrap (a1.aj.tdiv r1)))*i64.wrap (a1.aj.tdiv r1)))*a0.aj))) (i64.wrap (i64.wrap (a1.aj.tdiv r1)*a0.aj)))else V else V else V else V else V else V else V else V else if¬a0.aj=0then if¬a0.aj=0then bif O (0<i64.wrap ((i64.wrap (i64.wrap (i64.wrap ((if a0.ag<a1.ag then a1.ag else a0.ag)-a0.ag)+a0.aj)-1)).tdiv a0.aj))then if¬i64.wrap (a1.aj.tdiv r1)=0then bif O (i64.wrap ((i64.wrap ((if a1.af<a0.af then a1.af else a0.af)-a0.ag)).tdiv a0.aj)<i64.wrap (0+i64.wrap (i64.wrap ((i64.wrap (i64.wrap (i64.wrap (i64.wrap ((i64.wrap (i64.wrap (i64.wrap ((if a0.ag<a1.ag then a1.ag else a0.ag)-a0.ag)+a0.aj)-1)).tdiv a0.aj)-0)+i64.wrap (a1.aj.tdiv r1))-1)).tdiv (i64.wrap (a1.aj.tdiv r1)))*i64.wrap (a1.aj.tdiv r1))))then Q (iV)else if¬i64.wrap (a1.aj.tdiv r1)=0then bif O (i64.wrap (0+i64.wrap (i64.wrap ((i64.wrap (i64.wrap (i64.wrap (i64.wrap ((i64.wrap (i64.wrap (i64.wrap ((if a0.ag<a1.ag then a1.ag else a0.ag)-a0.ag)+a0.aj)-1)).tdiv a0.aj)-0)+i64.wrap (a1.aj.tdiv r1))-1)).tdiv (i64.wrap (a1.aj.tdiv r1)))*i64.wrap (a1.aj.tdiv r1)))=i64.wrap (i64.wrap (0+i64.wrap (i64.wrap ((i64.wrap (i64.wrap (i64.wrap (i64.wrap ((i64.wrap (i64.wrap (i64.wrap ((if a0.ag<a1.ag then a1.ag else a0.ag)-a0.ag)+a0.aj)-1)).tdiv a0.aj)-0)+i64.wrap (a1.aj.tdiv r1))-1)).tdiv (i64.wrap (a1.aj.tdiv r1)))*i64.wrap (a1.aj.tdiv r1)))+i64.wrap (i64.wrap ((i64.wrap (i64.wrap ((i64.wrap ((if a1.af<a0.af then a1.af else a0.af)-a0.ag)).tdiv a0.aj)-i64.wrap (0+i64.wrap (i64.wrap ((i64.wrap (i64.wrap (i64.wrap (i64.wrap ((i64.wrap (i64.wrap (i64.wrap ((if a0.ag<a1.ag then a1.ag else a0.ag)-a0.ag)+a0.aj)-1)).tdiv a0.aj)-0)+i64.wrap (a1.aj.tdiv r1))-1)).tdiv (i64.wrap (a1.aj.tdiv r1)))*i64.wrap (a1.aj.tdiv r1))))).tdiv (i64.wrap (a1.aj.tdiv r1)))*i64.wrap (a1.aj.tdiv r1))))then Q (gX (i64.wrap (a0.ag+i64.wrap (i64.wrap (0+i64.wrap (i64.wrap ((i64.wrap (i64.wrap (i64.wrap (i64.wrap ((i64.wrap (i64.wrap (i64.wrap ((if a0.ag<a1.ag then a1.ag else a0.ag)-a0.ag)+a0.aj)-1)).tdiv a0.aj)-0)+i64.wrap (a1.aj.tdiv r1))-1)).tdiv (i64.wrap (a1.aj.tdiv r1)))*i64.wrap (a1.aj.tdiv r1)))*a0.aj))))else Q (aH.mk (i64.wrap (a0.ag+i64.wrap (i64.wrap (0+i64.wrap (i64.wrap ((i64.wrap (i64.wrap (i64.wrap (i64.wrap ((i64.wrap (i64.wrap (i64.wrap ((if a0.ag<a1.ag then a1.ag else a0.ag)-a0.ag)+a0.aj)-1)).tdiv a0.aj)-0)+i64.wrap (a1.aj.tdiv r1))-1)).tdiv (i64.wrap (a1.aj.tdiv r1)))*i64.wrap (a1.aj.tdiv r1)))*a0.aj))) (i64.wrap (a0.ag+i64.wrap (i64.wrap (i64.wrap (0+i64.wrap (i64.wrap ((i64.wrap (i64.wrap (i64.wrap (i64.wrap ((i64.wrap (i64.wrap (i64.wrap ((if a0.ag<a1.ag then a1.ag else a0.ag)-a0.ag)+a0.aj)-1)).tdiv a0.aj)-0)+i64.wrap (a1.aj.tdiv r1))-1)).tdiv (i64.wrap (a1.aj.tdiv r1)))*i64.wrap (a1.aj.tdiv r1)))+i64.wrap (i64.wrap ((i64.wrap (i64.wrap ((i64.wrap ((if a1.af<a0.af then a1.af else a0.af)-a0.ag)).tdiv a0.aj)-i64.wrap (0+i64.wrap (i64.wrap ((i64.wrap (i64.wrap (i64.wrap (i64.wrap ((i64.wrap (i64.wrap (i64.wrap ((if a0.ag<a1.ag then a1.ag else a0.ag)-a0.ag)+a0.aj)-1)).tdiv a0.aj)-0)+i64.wrap (a1.aj.tdiv r1))-1)).tdiv (i64.wrap (a1.aj.tdiv r1)))*i64.wrap (a1.aj.tdiv r1))))).tdiv (i64.wrap (a1.aj.tdiv r1)))*i64.wrap (a1.aj.tdiv r1)))*a0.aj))) (i64.wrap (i64.wrap (a1.aj.tdiv r1)*a0.aj)))else V else V else bif O (i64.wrap ((i64.wrap ((if a1.af<a0.af then a1.af else a0.af)-a0.ag)).tdiv a0.aj)<0)then Q (iV)else if¬i64.wrap (a1.aj.tdiv r1)=0then bif O (0=i64.wrap (0+i64.wrap (i64.wrap ((i64.wrap (i64.wrap ((i64.wrap ((if a1.af<a0.af then a1.af else a0.af)-a0.ag)).tdiv a0.aj)-0)).tdiv (i64.wrap (a1.aj.tdiv r1)))*i64.wrap (a1.aj.tdiv r1))))then Q (gX (i64.wrap (a0.ag+i64.wrap (0*a0.aj))))else Q (aH.mk (i64.wrap (a0.ag+i64.wrap (0*a0.aj))) (i64.wrap (a0.ag+i64.wrap (i64.wrap (0+i64.wrap (i64.wrap ((i64.wrap (i64.wrap ((i64.wrap ((if a1.af<a0.af then a1.af else a0.af)-a0.ag)).tdiv a0.aj)-0)).tdiv (i64.wrap (a1.aj.tdiv r1)))*i64.wrap (a1.aj.tdiv r1)))*a0.aj))) (i64.wrap (i64.wrap (a1.aj.tdiv r1)*a0.aj)))else V else V else V else V
def ajm:=eL vi 316 I (lc (qg 34) (lc (qg 34) ln)) d316 (λg=>ab4 g.1 g.2.1)
def abL:EO ajm:=λh=>kL (F:=asa) (an:=(noTwo (noTwo (noTwo (.two (.two (.rb [] 41) .no) .no))))) (l:=[(.skip,(.rb [] 41))]) func316 (aec (aa3 (BU (jU (rE aY))))) (aB aq7 aI) h
def Ty:EP ajm:=λh=>kP h
abbrev vJ:=aH
def d280:Td 0 vJ:= .c [] [4] (.r 0 1 (ec 4 (qp 0 0) en) (sb 0 34 (lg 34) sn) (λz=>z.2.1) (λx=>(((),()),(x,()))))
def amh:=(lc (qg 34) (lc (qg 34) ln))
def afr(M:aH->aH->ah vJ):bw->bw:=eL vi 280 I amh d280 (λg=>M g.1 g.2.1)
def GN{M:aH->aH->ah vJ}{F:bw}{f:Nat}(h:bA F f):bA (afr M F) f:=iL h (λ_=>by kernel_rfl)
def abf(M:aH->aH->ah vJ):Prop:=HL vi 280 amh d280 (λg=>M g.1 g.2.1)
def Rw{M:aH->aH->ah vJ}(hM:abf M){F:bw}(h:bG vi F):bG vi (afr M F):=iJ (sc:=Ec) fS hM ⟨_,func280,by kernel_rfl,by kernel_rfl⟩ (λ_=>by kernel_rfl) (λ_=>by kernel_rfl) h
def acg(M280:aH->aH->ah vJ):bw:=(ajm (afr M280 (KF (acf (CL eB)))))
def adi{M280}(h280:abf M280):bG vi (acg M280):=(abL (Rw h280 (jU (I7 (jl aY)))))
def ahM(M280:aH->aH->ah vJ):An:=(noTwo (.two (.two (.rb [147] 5) .no) .no))
def ao2{M280}:∀f∈([147]:aa Nat),bA (acg M280) f:=(aB (Ty (GN (kU (Ad (fG bK))))) aI)
def art(M280:aH->aH->ah vJ):gv vi (acg M280) 0 300 280 (ahM M280):=cD (l:=[(.skip,(.rb [147] 5))]) func280 (bR (by kernel_rfl)) (by kernel_rfl) (aB ao2 aI)
def um(M280:aH->aH->ah vJ)(a0:aH)(a1:aH):ah vJ:=
 match bif fB a0 then Q (G)else Q (fB a1)with|V=>V|Q r1=>bif r1 then Q (iV)else bif O (a0.aj=0)then match UM a1 a0.ag with|V=>V|Q r2=>bif r2 then Q (a0)else Q (iV)else bif O (a1.aj=0)then match M280 a1 a0 with|V=>V|Q r3=>Q (r3)else match ab4 a0 a1 with|V=>V|Q r4=>Q (r4)
def awj(M280:aH->aH->ah vJ)(a0:aH)(a1:aH):ct vi (acg M280) 300 (ahM M280) 280 (amh.c (a0,a1,())) [] 0 d280.rd=um M280 a0 a1:=by kernel_rfl
def BB:Nat->(aH->aH->ah vJ)
 |0=>(λ_ _=>V)
 |n+1=>(um (BB n))
def X9(n:Nat):aH->aH->ah vJ:=(BB n)
def Lm:∀n,abf (X9 n)
 |0=>λ_ _ h=>(by cases h)
 |n+1=>by
  have ih:=Lm n;have i280:=ih;exact(fm (adi i280) (art (X9 n)) (λ_=>by kernel_rfl) (λ_=>by kernel_rfl) λg=>awj (X9 n) g.1 g.2.1)
def aeU:aH->aH->ah vJ:=λa0 a1=>lim (λn=>X9 n a0 a1)
def acU:abf aeU:=λg b h=>by
 obtain⟨n,hn⟩:=dG (show lim (λn=>X9 n g.1 g.2.1)=Q b from h);exact(Lm n) g b hn
def al0(F:bw):bw:=afr aeU F
def aeI{F:bw}(h:bG vi F):bG vi (al0 F):=Rw acU h
def T1{F:bw}{f:Nat}(h:bA F f):bA (al0 F) f:=GN h
def aqF:bw:=(al0 (ZZ (acV (akx (CL eB)))))
abbrev ao9:=aH
def d234:Td 0 ao9:= .c [] [6] (.r 0 1 (ec 6 (qp 0 0) en) (sb 0 34 (lg 34) sn) (λz=>z.2.1) (λx=>(((),()),(x,()))))
def ass:∀f∈([176]:aa Nat),bA (aqF) f:=(aB (T1 (Gm (F5 (TJ (fG bK))))) aI)
def Xr(a0:Int)(a1:aH)(a2:aH):ah ao9:=
 match aeU a1 a2 with|V=>V|Q r1=>match match Bj a1 with|V=>V|Q r2=>bif O (1<r2)then Q (G)else match Bj a2 with|V=>V|Q r3=>bif O (1<r3)then Q (G)else Q (bif O (a1.ag=a2.ag)then I else G)with|V=>V|Q r4=>match NT a1 with|V=>V|Q r5=>match NT a2 with|V=>V|Q r6=>bif O (a0=13)then match oQ r4 (match fB r1 with|G=>I|I=>G)with|V=>V|Q r7=>Q (r7)else bif O (a0=14)then match oQ (match fB r1 with|G=>I|I=>G) r4 with|V=>V|Q r8=>Q (r8)else bif O (a0=15)then match oQ (O (a2.ag<=a1.af)) (O (a1.ag<a2.af))with|V=>V|Q r9=>Q (r9)else bif O (a0=16)then match oQ (O (a2.ag<a1.af)) (O (a1.ag<=a2.af))with|V=>V|Q r10=>Q (r10)else bif O (a0=17)then match oQ (O (a1.ag<=a2.af)) (O (a2.ag<a1.af))with|V=>V|Q r11=>Q (r11)else bif O (a0=18)then match oQ (O (a1.ag<a2.af)) (O (a2.ag<=a1.af))with|V=>V|Q r12=>Q (r12)else bif O (a0=19)then bif r5.fst then bif r5.snd then match oQ G r6.snd with|V=>V|Q r13=>Q (r13)else match oQ G I with|V=>V|Q r14=>Q (r14)else bif r5.snd then match oQ r6.fst r6.snd with|V=>V|Q r15=>Q (r15)else match oQ r6.fst I with|V=>V|Q r16=>Q (r16)else bif r5.fst then bif r5.snd then match oQ r6.fst G with|V=>V|Q r17=>Q (r17)else match oQ r6.fst r6.snd with|V=>V|Q r18=>Q (r18)else bif r5.snd then match oQ I G with|V=>V|Q r19=>Q (r19)else match oQ I r6.snd with|V=>V|Q r20=>Q (r20)
def ak0:=eL vi 234 I (bg (lc (qg 34) (lc (qg 34) ln))) d234 (λg=>Xr g.1 g.2.1 g.t.1)
def acF:EO ak0:=λh=>kL (F:=aqF) (an:=(noTwo (noTwo (.two (.rb [176] 8) .no)))) (l:=[(.skip,(.rb [176] 8))]) func234 (aeI (Tp (G3 (uH (jl aY))))) (aB ass aI) h
def rM:EP ak0:=λh=>kP h
def aoF:bw:=(ak0 (ang (ai0 (amL (Xg (T4 (KF (CL (Yn (LP eB))))))))))
abbrev atp:=aH×Int
def d155:Td 0 atp:= .c [] [6,7] (.r 0 1 (ec 6 (qp 0 0) (ec 7 aU en)) (sb 0 34 (lg 34) sn) (λz=>(z.2.1,z.1.2.1)) (λx=>(((),x.2,()),(x.1,()))))
def Xf:∀f∈([144,145,147,231]:aa Nat),bA (aoF) f:=(aB (rM (rf (rB (qZ (mT (ld (kU (fG (k9 (fZ bK)))))))))) (aB (rM (rf (rB (qZ (mT (ld (kU (fG (k9 (fZ bK)))))))))) (aB (rM (rf (rB (qZ (mT (ld (kU (fG (k9 (fZ bK)))))))))) (aB (rM (rf (rB (qZ (mT (ld (kU (fG (k9 (fZ bK)))))))))) aI))))
def uD(a0:Int)(a1:aH)(a2:aH):ah atp:=
 match match sZ a1 with|V=>V|Q r1=>bif bif r1 then I else G then Q (G)else match sZ a2 with|V=>V|Q r2=>bif bif r2 then I else G then Q (G)else Q (bif AN a0 then I else G)with|V=>V|Q r3=>bif r3 then Q ((aH.mk (0) (0) (0),1))else match bif fB a1 then Q (G)else Q (fB a2)with|V=>V|Q r4=>bif r4 then Q ((iV,0))else bif O (a0=9)then match bif bif jL (i64.wrap (a1.ag+i64.wrap (0-a2.af)))then I else G then Q (G)else Q (bif jL (i64.wrap (a1.af+i64.wrap (0-a2.ag)))then I else G)with|V=>V|Q r5=>bif r5 then Q ((aH.mk (0) (0) (0),3))else match BH [a1.aj,a2.aj]with|V=>V|Q r6=>match mZ (i64.wrap (a1.ag+i64.wrap (0-a2.af))) (i64.wrap (a1.af+i64.wrap (0-a2.ag))) r6 with|V=>V|Q r7=>Q ((r7,0))else bif O (a0=8)then match bif bif jL (i64.wrap (a1.ag+a2.ag))then I else G then Q (G)else Q (bif jL (i64.wrap (a1.af+a2.af))then I else G)with|V=>V|Q r8=>bif r8 then Q ((aH.mk (0) (0) (0),3))else match BH [a1.aj,a2.aj]with|V=>V|Q r9=>match mZ (i64.wrap (a1.ag+a2.ag)) (i64.wrap (a1.af+a2.af)) r9 with|V=>V|Q r10=>Q ((r10,0))else bif O (a0=10)then match UD a1 a2 with|V=>V|Q r11=>Q (r11)else bif O (a0=11)then match uS a0 a1 a2 with|V=>V|Q r12=>Q ((r12,0))else bif O (a0=12)then match uS a0 a1 a2 with|V=>V|Q r13=>Q ((r13,0))else bif O (a0=21)then match uS a0 a1 a2 with|V=>V|Q r14=>Q ((r14,0))else bif O (a0=22)then match uS a0 a1 a2 with|V=>V|Q r15=>Q ((r15,0))else match Xr a0 a1 a2 with|V=>V|Q r16=>Q ((r16,0))
def akW:=eL vi 155 I (bg (lc (qg 34) (lc (qg 34) ln))) d155 (λg=>uD g.1 g.2.1 g.t.1)
def Hh:EO akW:=λh=>kL (F:=aoF) (an:=(noTwo (.two (.two (.rb [144,145,147,231] 22) .no) (.two (.two (.rb [144,145,147,231] 29) .no) (.two (noTwo (.two (.two (noTwo (.two (noTwo (.two (.two (.rb [144,145,147,231] 69) .no) .no)) .no)) .no) .no)) .no))))) (l:=[(.skip,(.rb [144,145,147,231] 22)),(.skip,(.rb [144,145,147,231] 29)),(.skip,(.rb [144,145,147,231] 69))]) func155 (acF (acr (afS (aan (BU (uR (jU (jl (Cf (kS aY)))))))))) (aB Xf (aB Xf (aB Xf aI))) h
abbrev pq:=aH×au
def d150:Td 2 pq:= .c [] [4] (.r 2 3 (ec 4 (qp 2 0) en) (sb 0 128 (lg 128) (sb 1 215 (lc (qf 150 (lc (qp 0 0) (lc (qp 1 0) ln))) ln) (sb 2 34 (lg 34) sn))) (λz=>(z.t.2.1,z.2.1)) (λx=>(((),()),(x.2,(((),(),()),()),x.1,()))))
def amq:=(lc (qg 137) (lc (qp 0 0) (lc (qp 1 0) ln)))
def am9:=(sb 0 128 (lg 128) (sb 1 215 (lc (qf 150 (lc (qp 0 0) (lc (qp 1 0) ln))) ln) sn))
def ak2(M:ax->au->ah pq):bw->bw:=eY vi 150 2 amq am9 d150 (λg=>M g.1.1 g.2.1)
def aen(M:ax->au->ah pq):Prop:=HY vi 150 2 amq am9 d150 (λg=>M g.1.1 g.2.1)
def S5{M:ax->au->ah pq}(hM:aen M){F:bw}(h:bG vi F):bG vi (ak2 M F):=LF hM ⟨_,func150,by kernel_rfl,by kernel_rfl⟩ (λ_=>by kernel_rfl) h
def amo(M150:ax->au->ah pq):bw:=(akW (asV (ata (apd (ae9 (ak2 M150 (e92 (e81 (e80 eB)))))))))
def aaa{M150}(h150:aen M150):bG vi (amo M150):=(Hh (aaK (acA (Hf (HS (S5 h150 (G5 (Ou (Jy aY)))))))))
structure Ar where
 t90:List ax
 (t91 t92:Int)
 b0:au
 (b2 b3 b4:aH)
def NB:Td 2 Ar:= .c [] [2,4,7,9,90,91,92] (.r 2 5 (ec 2 (qp 1 0) (ec 4 (qp 2 0) (ec 7 (qp 3 0) (ec 9 (qp 4 0) (ec 90 (ql 137) (ec 91 aU (ec 92 aU en))))))) (sb 0 128 (lg 128) (sb 1 215 (lc (qf 150 (lc (qp 0 0) (lc (qp 1 0) ln))) ln) (sb 2 34 (lg 34) (sb 3 34 (lg 34) (sb 4 34 (lg 34) sn))))) (λz=>⟨z.1.q.1,z.1.q.2.1,z.1.q.t.1,z.2.1,z.t.2.1,z.q.1,z.q.2.1⟩) (λx=>(((),(),(),(),x.t90,x.t91,x.t92,()),(x.b0,(((),(),()),()),x.b2,x.b3,x.b4,()))))
def Jd(M150:ax->au->ah pq)(p:Ar):ah (ah Ar):=
 bif O (p.t92<p.t91)then if 0<=p.t92/\p.t92<p.t90.length then match Uh p.b3 p.t92 with|V=>V|Q r1=>bif r1 then match M150 (ax.mk p.t90[p.t92.toNat]!.bf p.t90[p.t92.toNat]!.fN p.t90[p.t92.toNat]!.aq) p.b0 with|V=>V|Q r2=>match tQ p.b4 r2.fst with|V=>V|Q r3=>Q (Q (Ar.mk p.t90 p.t91 (i64.wrap (p.t92+1)) r2.snd p.b2 p.b3 r3))else Q (Q (Ar.mk p.t90 p.t91 (i64.wrap (p.t92+1)) p.b0 p.b2 p.b3 p.b4))else V else Q (V)
def Io(M150:ax->au->ah pq):=bJ (Jd M150)
def aij(M150:ax->au->ah pq):An:=(noTwo (.two (noTwo (noTwo (noTwo (noTwo (noTwo (noTwo (noTwo (noTwo (.two (noTwo (noTwo (.two (noTwo (NB.lp (Io M150) .no)) .no))) .no))))))))) .no))
def arL(M150:ax->au->ah pq):gv vi (amo M150) 2 300 150 (aij M150):=cD (l:=[(bE f150 0,(NB.lp (Io M150) .no))]) func150 (bR (by kernel_rfl)) (by kernel_rfl) (aB (aO NB) aI)
def adg(M150:ax->au->ah pq)(a0:ax)(b0:au):ah pq:=
 bif O (a0.bf=0)then Q (Rf a0.fN,b0)else bif O (a0.bf=24)then if 0<=a0.fN/\a0.fN<b0.ai.length then Q (b0.ai[a0.fN.toNat]!,b0)else V else bif O (a0.bf=23)then if(0:Int)<=(0:Int)/\(0:Int)<a0.aq.length then match M150 (ax.mk a0.aq[0]!.bf a0.aq[0]!.fN a0.aq[0]!.aq) b0 with|V=>V|Q r4=>match Nl r4.fst with|V=>V|Q r5=>bif bif r5.fst then I else G then if(0:Int)<=(1:Int)/\(1:Int)<a0.aq.length then match M150 (ax.mk a0.aq[1]!.bf a0.aq[1]!.fN a0.aq[1]!.aq) r4.snd with|V=>V|Q r6=>Q (r6)else V else bif bif r5.snd then I else G then if(0:Int)<=(2:Int)/\(2:Int)<a0.aq.length then match M150 (ax.mk a0.aq[2]!.bf a0.aq[2]!.fN a0.aq[2]!.aq) r4.snd with|V=>V|Q r7=>Q (r7)else V else if(0:Int)<=(1:Int)/\(1:Int)<a0.aq.length then match M150 (ax.mk a0.aq[1]!.bf a0.aq[1]!.fN a0.aq[1]!.aq) r4.snd with|V=>V|Q r8=>if(0:Int)<=(2:Int)/\(2:Int)<a0.aq.length then match M150 (ax.mk a0.aq[2]!.bf a0.aq[2]!.fN a0.aq[2]!.aq) r8.snd with|V=>V|Q r9=>match tQ r8.fst r9.fst with|V=>V|Q r10=>Q (r10,r9.snd)else V else V else V else bif O (a0.bf=25)then if(0:Int)<=(0:Int)/\(0:Int)<a0.aq.length then match M150 (ax.mk a0.aq[0]!.bf a0.aq[0]!.fN a0.aq[0]!.aq) b0 with|V=>V|Q r11=>match m81 r11.fst 0 (i64.wrap ((a0.aq.length:Int)-2))with|V=>V|Q r12=>if(0:Int)<=(1:Int)/\(1:Int)<=a0.aq.length then match Io M150 (Ar.mk (yf 1 a0.aq) (↑(yf 1 a0.aq).length:Int) 0 r11.snd (aH.mk 0 0 0) r12.fst agl)with|V=>V|Q r13=>bif O (r13.t92<r13.t91)then if 0<=r13.t92/\r13.t92<r13.t90.length then match Uh r13.b3 r13.t92 with|V=>V|Q r14=>bif r14 then match M150 (ax.mk r13.t90[r13.t92.toNat]!.bf r13.t90[r13.t92.toNat]!.fN r13.t90[r13.t92.toNat]!.aq) r13.b0 with|V=>V|Q r15=>match tQ r13.b4 r15.fst with|V=>V|Q r16=>V else V else V else Q (r13.b4,r13.b0)else V else V else bif O ((a0.aq.length:Int)=1)then if(0:Int)<=(0:Int)/\(0:Int)<a0.aq.length then match M150 (ax.mk a0.aq[0]!.bf a0.aq[0]!.fN a0.aq[0]!.aq) b0 with|V=>V|Q r17=>match aac a0.bf r17.fst with|V=>V|Q r18=>Q (r18.fst,r17.snd)else V else if(0:Int)<=(0:Int)/\(0:Int)<a0.aq.length then match M150 (ax.mk a0.aq[0]!.bf a0.aq[0]!.fN a0.aq[0]!.aq) b0 with|V=>V|Q r19=>if(0:Int)<=(1:Int)/\(1:Int)<a0.aq.length then match M150 (ax.mk a0.aq[1]!.bf a0.aq[1]!.fN a0.aq[1]!.aq) r19.snd with|V=>V|Q r20=>match uD a0.bf r19.fst r20.fst with|V=>V|Q r21=>Q (r21.fst,r20.snd)else V else V
def awF(M150:ax->au->ah pq)(a0:ax)(b0:au):ct vi (amo M150) 300 (aij M150) 150 (amq.c (a0,(),(),())) (am9.d (b0,(((),(),()),()),())) 2 d150.rd=adg M150 a0 b0:=by kernel_rfl
def ag7:Nat->(ax->au->ah pq)
 |0=>(λ_ _=>V)
 |n+1=>(adg (ag7 n))
def N3(n:Nat):ax->au->ah pq:=(ag7 n)
def MB:∀n,aen (N3 n)
 |0=>λ_ _ h=>(by cases h)
 |n+1=>by
  have ih:=MB n;have i150:=ih;exact(RY (aaa i150) (arL (N3 n)) (λ_=>by kernel_rfl) (λ_=>by kernel_rfl) (λ_=>by kernel_rfl) λg=>awF (N3 n) g.1.1 g.2.1)
def aaD:ax->au->ah pq:=λa0 b0=>lim (λn=>N3 n a0 b0)
def aah:aen aaD:=λg b h=>by
 obtain⟨n,hn⟩:=dG (show lim (λn=>N3 n g.1.1 g.2.1)=Q b from h);exact(MB n) g b hn
def av4(F:bw):bw:=ak2 aaD F
def adP{F:bw}(h:bG vi F):bG vi (av4 F):=S5 aah h
abbrev E91:=Int
def d91:Td 0 E91:= .c [] [2] (.r 0 0 (ec 2 aU en) sn (λz=>z.1.1) (λx=>((x,()),(()))))
def HT(a0:aH):ah E91:=
 match sZ a0 with|V=>V|Q r1=>bif bif r1 then I else G then Q (0)else match Bj a0 with|V=>V|Q r2=>Q (r2)
def e91:=eL vi 91 I (lc (qg 34) ln) d91 (λg=>HT g.1)
def NG:EO e91:=λh=>kL (an:= .no) func91 (uH (kS aY)) aI h
def Ei:EP e91:=λh=>kP h
def auq:bw:=eB
abbrev amw:=Int
def d174:Td 0 amw:= .c [] [4] (.r 0 0 (ec 4 aU en) sn (λz=>z.1.1) (λx=>((x,()),(()))))
def aoq:=(bg (bg ln))
def ahD:An:= .no
def kC(a0:Int)(a1:Int):amw:=
 bif O (a1<a0)then a0 else a1
def auy(a0:Int)(a1:Int):ct vi (auq) 300 (ahD) 174 (aoq.c (a0,a1,())) [] 0 d174.rd=Q (kC a0 a1):=by
 refine Eq.trans (b:=(
  bif O (a1<a0)then Q (a0)else Q (a1):ah amw)) (by kernel_rfl) ?_
 simp only[kC,cO,de]
def T3:=eL vi 174 I aoq d174 (λg=>Q (kC g.1 g.2.1))
def BW:EO T3:=λh=>kL (an:=ahD) func174 aY aI h (c:=λg=>auy g.1 g.2.1)
def aw0:bw:=eB
abbrev akl:=Int
def d175:Td 0 akl:= .c [] [4] (.r 0 0 (ec 4 aU en) sn (λz=>z.1.1) (λx=>((x,()),(()))))
def apu:=(bg (bg ln))
def ahE:An:= .no
def jF(a0:Int)(a1:Int):akl:=
 bif O (a0<a1)then a0 else a1
def axI(a0:Int)(a1:Int):ct vi (aw0) 300 (ahE) 175 (apu.c (a0,a1,())) [] 0 d175.rd=Q (jF a0 a1):=by
 refine Eq.trans (b:=(
  bif O (a0<a1)then Q (a0)else Q (a1):ah akl)) (by kernel_rfl) ?_
 simp only[jF,cO,de]
def adN:=eL vi 175 I apu d175 (λg=>Q (jF g.1 g.2.1))
def CA:EO adN:=λh=>kL (an:=ahE) func175 aY aI h (c:=λg=>axI g.1 g.2.1)
abbrev L0:=Int×Int×Int
def d90:Td 0 L0:= .c [] [2,3,4] (.r 0 0 (ec 2 aU (ec 3 aU (ec 4 aU en))) sn (λz=>(z.1.1,z.1.2.1,z.1.t.1)) (λx=>((x.1,x.2.1,x.t,()),(()))))
def A90:=(lc (ql 166) ln)
def x90(M:(aa ay)->ah L0):bw->bw:=eL vi 90 I A90 d90 (λg=>M g.1)
def XF{M:(aa ay)->ah L0}{F:bw}{f:Nat}(h:bA F f):bA (x90 M F) f:=iL h (λ_=>by kernel_rfl)
def H90(M:(aa ay)->ah L0):Prop:=HL vi 90 A90 d90 (λg=>M g.1)
def Xd{M:(aa ay)->ah L0}(hM:H90 M){F:bw}(h:bG vi F):bG vi (x90 M F):=iJ (sc:=Ec) fS hM ⟨_,func90,by kernel_rfl,by kernel_rfl⟩ (λ_=>by kernel_rfl) (λ_=>by kernel_rfl) h
def F90(M90:(aa ay)->ah L0):bw:=(adN (T3 (x90 M90 eB)))
def anE{M90}(h90:H90 M90):bG vi (F90 M90):=(CA (BW (Xd h90 aY)))
structure Bo where
 t0:List ay
 (t5 t6 t7 t8:Int)
def Wn:Td 0 Bo:= .c [] [0,5,6,7,8] (.r 0 0 (ec 0 (ql 166) (ec 5 aU (ec 6 aU (ec 7 aU (ec 8 aU en))))) sn (λz=>⟨z.1.1,z.1.2.1,z.1.t.1,z.1.t.2.1,z.1.q.1⟩) (λx=>((x.t0,x.t5,x.t6,x.t7,x.t8,()),(()))))
def RT(M90:(aa ay)->ah L0)(p:Bo):ah (ah Bo):=
 bif O (p.t8<p.t0.length)then if 0<=p.t8/\p.t8<p.t0.length then match M90 p.t0[p.t8.toNat]!.aD with|V=>V|Q r1=>match M90 p.t0[p.t8.toNat]!.aJ with|V=>V|Q r2=>bif O (p.t0[p.t8.toNat]!.bN=4)then bif O (p.t0[p.t8.toNat]!.bN=1)then Q (Q (Bo.mk p.t0 (jF (i64.wrap (p.t5+i64.wrap (1+i64.wrap (p.t0[p.t8.toNat]!.fN*i64.wrap (1+r1.fst))))) 4097) (jF (i64.wrap (p.t6+1)) 9) (jF (i64.wrap (p.t7+i64.wrap (p.t0[p.t8.toNat]!.fN*i64.wrap (p.t0[p.t8.toNat]!.aN+r1.snd.snd)))) 67108865) (i64.wrap (p.t8+1))))else Q (Q (Bo.mk p.t0 (jF (i64.wrap (p.t5+i64.wrap (1+i64.wrap (p.t0[p.t8.toNat]!.fN*i64.wrap (1+r1.fst))))) 4097) (jF (i64.wrap (p.t6+i64.wrap (p.t0[p.t8.toNat]!.fN*r1.snd.fst))) 9) (jF (i64.wrap (p.t7+i64.wrap (p.t0[p.t8.toNat]!.fN*i64.wrap (p.t0[p.t8.toNat]!.aN+r1.snd.snd)))) 67108865) (i64.wrap (p.t8+1))))else bif O (p.t0[p.t8.toNat]!.bN=1)then Q (Q (Bo.mk p.t0 (jF (i64.wrap (p.t5+i64.wrap (1+kC r1.fst r2.fst))) 4097) (jF (i64.wrap (p.t6+1)) 9) (jF (i64.wrap (p.t7+i64.wrap (p.t0[p.t8.toNat]!.aN+kC r1.snd.snd r2.snd.snd))) 67108865) (i64.wrap (p.t8+1))))else Q (Q (Bo.mk p.t0 (jF (i64.wrap (p.t5+i64.wrap (1+kC r1.fst r2.fst))) 4097) (jF (i64.wrap (p.t6+kC r1.snd.fst r2.snd.fst)) 9) (jF (i64.wrap (p.t7+i64.wrap (p.t0[p.t8.toNat]!.aN+kC r1.snd.snd r2.snd.snd))) 67108865) (i64.wrap (p.t8+1))))else V else Q (V)
def Rg(M90:(aa ay)->ah L0):=bJ (RT M90)
def ao8(M90:(aa ay)->ah L0):An:=(noTwo (noTwo (.two (noTwo (Wn.lp (Rg M90) .no)) .no)))
def auE(M90:(aa ay)->ah L0):gv vi (F90 M90) 0 300 90 (ao8 M90):=cD (l:=[(bE f90 0,(Wn.lp (Rg M90) .no))]) func90 (bR (by kernel_rfl)) (by kernel_rfl) (aB (aO Wn) aI)
def s90(M90:(aa ay)->ah L0)(a0:aa ay):ah L0:=
 match Rg M90 (Bo.mk a0 0 0 0 0)with|V=>V|Q r3=>bif O (r3.t8<r3.t0.length)then if 0<=r3.t8/\r3.t8<r3.t0.length then match M90 r3.t0[r3.t8.toNat]!.aD with|V=>V|Q r4=>match M90 r3.t0[r3.t8.toNat]!.aJ with|V=>V|Q r5=>bif O (r3.t0[r3.t8.toNat]!.bN=4)then bif O (r3.t0[r3.t8.toNat]!.bN=1)then V else V else bif O (r3.t0[r3.t8.toNat]!.bN=1)then V else V else V else Q (r3.t5,r3.t6,r3.t7)
def c90(M90:(aa ay)->ah L0)(a0:aa ay):ct vi (F90 M90) 300 (ao8 M90) 90 (A90.c (a0,())) [] 0 d90.rd=s90 M90 a0:=by kernel_rfl
def arb:Nat->((aa ay)->ah L0)
 |0=>(λ_=>V)
 |n+1=>(s90 (arb n))
def m90(n:Nat):(aa ay)->ah L0:=(arb n)
def Rz:∀n,H90 (m90 n)
 |0=>λ_ _ h=>(by cases h)
 |n+1=>by
  have ih:=Rz n;have i90:=ih;exact(fm (anE i90) (auE (m90 n)) (λ_=>by kernel_rfl) (λ_=>by kernel_rfl) λg=>c90 (m90 n) g.1)
def r90:(aa ay)->ah L0:=λa0=>lim (λn=>m90 n a0)
def ai9:H90 r90:=λg b h=>by
 obtain⟨n,hn⟩:=dG (show lim (λn=>m90 n g.1)=Q b from h);exact(Rz n) g b hn
def e90(F:bw):bw:=x90 r90 F
def Vk{F:bw}(h:bG vi F):bG vi (e90 F):=Xd ai9 h
def KW{F:bw}{f:Nat}(h:bA F f):bA (e90 F) f:=XF h
abbrev qc:=Int
def d216:Td 0 qc:= .c [] [2] (.r 0 0 (ec 2 aU en) sn (λz=>z.1.1) (λx=>((x,()),(()))))
def am5:=(lc (qg 137) ln)
def ZV(M:ax->ah qc):bw->bw:=eL vi 216 I am5 d216 (λg=>M g.1)
def US{M:ax->ah qc}{F:bw}{f:Nat}(h:bA F f):bA (ZV M F) f:=iL h (λ_=>by kernel_rfl)
def adZ(M:ax->ah qc):Prop:=HL vi 216 am5 d216 (λg=>M g.1)
def Ta{M:ax->ah qc}(hM:adZ M){F:bw}(h:bG vi F):bG vi (ZV M F):=iJ (sc:=Ec) fS hM ⟨_,func216,by kernel_rfl,by kernel_rfl⟩ (λ_=>by kernel_rfl) (λ_=>by kernel_rfl) h
def ake(M216:ax->ah qc):bw:=(ZV M216 eB)
def agH{M216}(h216:adZ M216):bG vi (ake M216):=(Ta h216 aY)
structure DL where
 (t3 t4:Int)
 b0:ax
def Nw:Td 0 DL:= .c [] [1,3,4] (.r 0 1 (ec 1 (qp 0 0) (ec 3 aU (ec 4 aU en))) (sb 0 137 (lg 137) sn) (λz=>⟨z.1.2.1,z.1.t.1,z.2.1⟩) (λx=>(((),x.t3,x.t4,()),(x.b0,()))))
def I8(M216:ax->ah qc)(p:DL):ah (ah DL):=
 bif O (p.t4<p.b0.aq.length)then if 0<=p.t4/\p.t4<p.b0.aq.length then match M216 (ax.mk p.b0.aq[p.t4.toNat]!.bf p.b0.aq[p.t4.toNat]!.fN p.b0.aq[p.t4.toNat]!.aq)with|V=>V|Q r1=>Q (Q (DL.mk (i64.wrap (p.t3+r1)) (i64.wrap (p.t4+1)) (ax.mk p.b0.bf p.b0.fN p.b0.aq)))else V else Q (V)
def G0(M216:ax->ah qc):=bJ (I8 M216)
def ahr(M216:ax->ah qc):An:=(noTwo (noTwo (.two (noTwo (Nw.lp (G0 M216) .no)) .no)))
def aqP(M216:ax->ah qc):gv vi (ake M216) 0 300 216 (ahr M216):=cD (l:=[(bE f216 0,(Nw.lp (G0 M216) .no))]) func216 (bR (by kernel_rfl)) (by kernel_rfl) (aB (aO Nw) aI)
def ad2(M216:ax->ah qc)(a0:ax):ah qc:=
 match G0 M216 (DL.mk 1 0 (ax.mk a0.bf a0.fN a0.aq))with|V=>V|Q r2=>bif O (r2.t4<r2.b0.aq.length)then if 0<=r2.t4/\r2.t4<r2.b0.aq.length then match M216 (ax.mk r2.b0.aq[r2.t4.toNat]!.bf r2.b0.aq[r2.t4.toNat]!.fN r2.b0.aq[r2.t4.toNat]!.aq)with|V=>V|Q r3=>V else V else Q (r2.t3)
def awd(M216:ax->ah qc)(a0:ax):ct vi (ake M216) 300 (ahr M216) 216 (am5.c (a0,())) [] 0 d216.rd=ad2 M216 a0:=by kernel_rfl
def agZ:Nat->(ax->ah qc)
 |0=>(λ_=>V)
 |n+1=>(ad2 (agZ n))
def OG(n:Nat):ax->ah qc:=(agZ n)
def LW:∀n,adZ (OG n)
 |0=>λ_ _ h=>(by cases h)
 |n+1=>by
  have ih:=LW n;have i216:=ih;exact(fm (agH i216) (aqP (OG n)) (λ_=>by kernel_rfl) (λ_=>by kernel_rfl) λg=>awd (OG n) g.1)
def Pp:ax->ah qc:=λa0=>lim (λn=>OG n a0)
def afl:adZ Pp:=λg b h=>by
 obtain⟨n,hn⟩:=dG (show lim (λn=>OG n g.1)=Q b from h);exact(LW n) g b hn
def Z3(F:bw):bw:=ZV Pp F
def SL{F:bw}(h:bG vi F):bG vi (Z3 F):=Ta afl h
def GF{F:bw}{f:Nat}(h:bA F f):bA (Z3 F) f:=US h
abbrev qM:=Int
def d215:Td 0 qM:= .c [] [2] (.r 0 0 (ec 2 aU en) sn (λz=>z.1.1) (λx=>((x,()),(()))))
def alf:=(lc (ql 166) ln)
def adu(M:(aa ay)->ah qM):bw->bw:=eL vi 215 I alf d215 (λg=>M g.1)
def T5{M:(aa ay)->ah qM}{F:bw}{f:Nat}(h:bA F f):bA (adu M F) f:=iL h (λ_=>by kernel_rfl)
def agQ(M:(aa ay)->ah qM):Prop:=HL vi 215 alf d215 (λg=>M g.1)
def Ri{M:(aa ay)->ah qM}(hM:agQ M){F:bw}(h:bG vi F):bG vi (adu M F):=iJ (sc:=Ec) fS hM ⟨_,func215,by kernel_rfl,by kernel_rfl⟩ (λ_=>by kernel_rfl) (λ_=>by kernel_rfl) h
def ak8(M215:(aa ay)->ah qM):bw:=(Z3 (adu M215 eB))
def aaX{M215}(h215:agQ M215):bG vi (ak8 M215):=(SL (Ri h215 aY))
structure Dd where
 t0:List ay
 (t3 t4:Int)
def O1:Td 0 Dd:= .c [] [0,3,4] (.r 0 0 (ec 0 (ql 166) (ec 3 aU (ec 4 aU en))) sn (λz=>⟨z.1.1,z.1.2.1,z.1.t.1⟩) (λx=>((x.t0,x.t3,x.t4,()),(()))))
def HE(M215:(aa ay)->ah qM)(p:Dd):ah (ah Dd):=
 bif O (p.t4<p.t0.length)then if 0<=p.t4/\p.t4<p.t0.length then match Pp (ax.mk p.t0[p.t4.toNat]!.az.bf p.t0[p.t4.toNat]!.az.fN p.t0[p.t4.toNat]!.az.aq)with|V=>V|Q r1=>if 0<=p.t4/\p.t4<p.t0.length then match M215 p.t0[p.t4.toNat]!.aD with|V=>V|Q r2=>if 0<=p.t4/\p.t4<p.t0.length then match M215 p.t0[p.t4.toNat]!.aJ with|V=>V|Q r3=>Q (Q (Dd.mk p.t0 (i64.wrap (i64.wrap (i64.wrap (i64.wrap (p.t3+1)+r1)+r2)+r3)) (i64.wrap (p.t4+1))))else V else V else V else Q (V)
def JJ(M215:(aa ay)->ah qM):=bJ (HE M215)
def ahm(M215:(aa ay)->ah qM):An:=(noTwo (noTwo (.two (noTwo (O1.lp (JJ M215) .no)) .no)))
def arJ(M215:(aa ay)->ah qM):gv vi (ak8 M215) 0 300 215 (ahm M215):=cD (l:=[(bE f215 0,(O1.lp (JJ M215) .no))]) func215 (bR (by kernel_rfl)) (by kernel_rfl) (aB (aO O1) aI)
def agA(M215:(aa ay)->ah qM)(a0:aa ay):ah qM:=
 match JJ M215 (Dd.mk a0 0 0)with|V=>V|Q r4=>bif O (r4.t4<r4.t0.length)then if 0<=r4.t4/\r4.t4<r4.t0.length then match Pp (ax.mk r4.t0[r4.t4.toNat]!.az.bf r4.t0[r4.t4.toNat]!.az.fN r4.t0[r4.t4.toNat]!.az.aq)with|V=>V|Q r5=>if 0<=r4.t4/\r4.t4<r4.t0.length then match M215 r4.t0[r4.t4.toNat]!.aD with|V=>V|Q r6=>if 0<=r4.t4/\r4.t4<r4.t0.length then match M215 r4.t0[r4.t4.toNat]!.aJ with|V=>V|Q r7=>V else V else V else V else Q (r4.t3)
def avX(M215:(aa ay)->ah qM)(a0:aa ay):ct vi (ak8 M215) 300 (ahm M215) 215 (alf.c (a0,())) [] 0 d215.rd=agA M215 a0:=by kernel_rfl
def ag2:Nat->((aa ay)->ah qM)
 |0=>(λ_=>V)
 |n+1=>(agA (ag2 n))
def NP(n:Nat):(aa ay)->ah qM:=(ag2 n)
def KH:∀n,agQ (NP n)
 |0=>λ_ _ h=>(by cases h)
 |n+1=>by
  have ih:=KH n;have i215:=ih;exact(fm (aaX i215) (arJ (NP n)) (λ_=>by kernel_rfl) (λ_=>by kernel_rfl) λg=>avX (NP n) g.1)
def afJ:(aa ay)->ah qM:=λa0=>lim (λn=>NP n a0)
def aeL:agQ afJ:=λg b h=>by
 obtain⟨n,hn⟩:=dG (show lim (λn=>NP n g.1)=Q b from h);exact(KH n) g b hn
def ajJ(F:bw):bw:=adu afJ F
def afs{F:bw}(h:bG vi F):bG vi (ajJ F):=Ri aeL h
def Gg{F:bw}{f:Nat}(h:bA F f):bA (ajJ F) f:=T5 h
abbrev qu:=Int
def d217:Td 0 qu:= .c [] [2] (.r 0 0 (ec 2 aU en) sn (λz=>z.1.1) (λx=>((x,()),(()))))
def alc:=(lc (qg 137) ln)
def adF(M:ax->ah qu):bw->bw:=eL vi 217 I alc d217 (λg=>M g.1)
def U0{M:ax->ah qu}{F:bw}{f:Nat}(h:bA F f):bA (adF M F) f:=iL h (λ_=>by kernel_rfl)
def aat(M:ax->ah qu):Prop:=HL vi 217 alc d217 (λg=>M g.1)
def RQ{M:ax->ah qu}(hM:aat M){F:bw}(h:bG vi F):bG vi (adF M F):=iJ (sc:=Ec) fS hM ⟨_,func217,by kernel_rfl,by kernel_rfl⟩ (λ_=>by kernel_rfl) (λ_=>by kernel_rfl) h
def ajw(M217:ax->ah qu):bw:=(adF M217 eB)
def afw{M217}(h217:aat M217):bG vi (ajw M217):=(RQ h217 aY)
structure AT where
 (t3 t4:Int)
 b0:ax
def Oc:Td 0 AT:= .c [] [1,3,4] (.r 0 1 (ec 1 (qp 0 0) (ec 3 aU (ec 4 aU en))) (sb 0 137 (lg 137) sn) (λz=>⟨z.1.2.1,z.1.t.1,z.2.1⟩) (λx=>(((),x.t3,x.t4,()),(x.b0,()))))
def JM(M217:ax->ah qu)(p:AT):ah (ah AT):=
 bif O (p.t4<p.b0.aq.length)then if 0<=p.t4/\p.t4<p.b0.aq.length then match M217 (ax.mk p.b0.aq[p.t4.toNat]!.bf p.b0.aq[p.t4.toNat]!.fN p.b0.aq[p.t4.toNat]!.aq)with|V=>V|Q r1=>bif O (p.t3<r1)then Q (Q (AT.mk r1 (i64.wrap (p.t4+1)) (ax.mk p.b0.bf p.b0.fN p.b0.aq)))else Q (Q (AT.mk p.t3 (i64.wrap (p.t4+1)) (ax.mk p.b0.bf p.b0.fN p.b0.aq)))else V else Q (V)
def Jq(M217:ax->ah qu):=bJ (JM M217)
def ag8(M217:ax->ah qu):An:=(noTwo (noTwo (.two (noTwo (Oc.lp (Jq M217) .no)) .no)))
def aob(M217:ax->ah qu):gv vi (ajw M217) 0 300 217 (ag8 M217):=cD (l:=[(bE f217 0,(Oc.lp (Jq M217) .no))]) func217 (bR (by kernel_rfl)) (by kernel_rfl) (aB (aO Oc) aI)
def af0(M217:ax->ah qu)(a0:ax):ah qu:=
 match Jq M217 (AT.mk 0 0 (ax.mk a0.bf a0.fN a0.aq))with|V=>V|Q r2=>bif O (r2.t4<r2.b0.aq.length)then if 0<=r2.t4/\r2.t4<r2.b0.aq.length then match M217 (ax.mk r2.b0.aq[r2.t4.toNat]!.bf r2.b0.aq[r2.t4.toNat]!.fN r2.b0.aq[r2.t4.toNat]!.aq)with|V=>V|Q r3=>bif O (r2.t3<r3)then V else V else V else Q (i64.wrap (r2.t3+1))
def avN(M217:ax->ah qu)(a0:ax):ct vi (ajw M217) 300 (ag8 M217) 217 (alc.c (a0,())) [] 0 d217.rd=af0 M217 a0:=by kernel_rfl
def ah8:Nat->(ax->ah qu)
 |0=>(λ_=>V)
 |n+1=>(af0 (ah8 n))
def M8(n:Nat):ax->ah qu:=(ah8 n)
def KD:∀n,aat (M8 n)
 |0=>λ_ _ h=>(by cases h)
 |n+1=>by
  have ih:=KD n;have i217:=ih;exact(fm (afw i217) (aob (M8 n)) (λ_=>by kernel_rfl) (λ_=>by kernel_rfl) λg=>avN (M8 n) g.1)
def Ko:ax->ah qu:=λa0=>lim (λn=>M8 n a0)
def afa:aat Ko:=λg b h=>by
 obtain⟨n,hn⟩:=dG (show lim (λn=>M8 n g.1)=Q b from h);exact(KD n) g b hn
def ac6(F:bw):bw:=adF Ko F
def R5{F:bw}(h:bG vi F):bG vi (ac6 F):=RQ afa h
def ry{F:bw}{f:Nat}(h:bA F f):bA (ac6 F) f:=U0 h
abbrev pg:=Int
def d218:Td 0 pg:= .c [] [2] (.r 0 0 (ec 2 aU en) sn (λz=>z.1.1) (λx=>((x,()),(()))))
def alM:=(lc (ql 166) ln)
def adL(M:(aa ay)->ah pg):bw->bw:=eL vi 218 I alM d218 (λg=>M g.1)
def TP{M:(aa ay)->ah pg}{F:bw}{f:Nat}(h:bA F f):bA (adL M F) f:=iL h (λ_=>by kernel_rfl)
def adz(M:(aa ay)->ah pg):Prop:=HL vi 218 alM d218 (λg=>M g.1)
def Qj{M:(aa ay)->ah pg}(hM:adz M){F:bw}(h:bG vi F):bG vi (adL M F):=iJ (sc:=Ec) fS hM ⟨_,func218,by kernel_rfl,by kernel_rfl⟩ (λ_=>by kernel_rfl) (λ_=>by kernel_rfl) h
def akd(M218:(aa ay)->ah pg):bw:=(adL M218 eB)
def abv{M218}(h218:adz M218):bG vi (akd M218):=(Qj h218 aY)
structure pI where
 t0:List ay
 (t3 t4:Int)
def OK:Td 0 pI:= .c [] [0,3,4] (.r 0 0 (ec 0 (ql 166) (ec 3 aU (ec 4 aU en))) sn (λz=>⟨z.1.1,z.1.2.1,z.1.t.1⟩) (λx=>((x.t0,x.t3,x.t4,()),(()))))
def IF(M218:(aa ay)->ah pg)(p:pI):ah (ah pI):=
 bif O (p.t4<p.t0.length)then if 0<=p.t4/\p.t4<p.t0.length then match M218 p.t0[p.t4.toNat]!.aD with|V=>V|Q r1=>if 0<=p.t4/\p.t4<p.t0.length then match M218 p.t0[p.t4.toNat]!.aJ with|V=>V|Q r2=>bif O (p.t3<i64.wrap (r1+1))then bif O (i64.wrap (r1+1)<i64.wrap (r2+1))then Q (Q (pI.mk p.t0 (i64.wrap (r2+1)) (i64.wrap (p.t4+1))))else Q (Q (pI.mk p.t0 (i64.wrap (r1+1)) (i64.wrap (p.t4+1))))else bif O (p.t3<i64.wrap (r2+1))then Q (Q (pI.mk p.t0 (i64.wrap (r2+1)) (i64.wrap (p.t4+1))))else Q (Q (pI.mk p.t0 p.t3 (i64.wrap (p.t4+1))))else V else V else Q (V)
def HX(M218:(aa ay)->ah pg):=bJ (IF M218)
def ahT(M218:(aa ay)->ah pg):An:=(noTwo (noTwo (.two (noTwo (OK.lp (HX M218) .no)) .no)))
def apE(M218:(aa ay)->ah pg):gv vi (akd M218) 0 300 218 (ahT M218):=cD (l:=[(bE f218 0,(OK.lp (HX M218) .no))]) func218 (bR (by kernel_rfl)) (by kernel_rfl) (aB (aO OK) aI)
def ach(M218:(aa ay)->ah pg)(a0:aa ay):ah pg:=
 match HX M218 (pI.mk a0 0 0)with|V=>V|Q r3=>bif O (r3.t4<r3.t0.length)then if 0<=r3.t4/\r3.t4<r3.t0.length then match M218 r3.t0[r3.t4.toNat]!.aD with|V=>V|Q r4=>if 0<=r3.t4/\r3.t4<r3.t0.length then match M218 r3.t0[r3.t4.toNat]!.aJ with|V=>V|Q r5=>bif O (r3.t3<i64.wrap (r4+1))then bif O (i64.wrap (r4+1)<i64.wrap (r5+1))then V else V else bif O (r3.t3<i64.wrap (r5+1))then V else V else V else V else Q (r3.t3)
def axA(M218:(aa ay)->ah pg)(a0:aa ay):ct vi (akd M218) 300 (ahT M218) 218 (alM.c (a0,())) [] 0 d218.rd=ach M218 a0:=by kernel_rfl
def ahq:Nat->((aa ay)->ah pg)
 |0=>(λ_=>V)
 |n+1=>(ach (ahq n))
def Oe(n:Nat):(aa ay)->ah pg:=(ahq n)
def Le:∀n,adz (Oe n)
 |0=>λ_ _ h=>(by cases h)
 |n+1=>by
  have ih:=Le n;have i218:=ih;exact(fm (abv i218) (apE (Oe n)) (λ_=>by kernel_rfl) (λ_=>by kernel_rfl) λg=>axA (Oe n) g.1)
def abS:(aa ay)->ah pg:=λa0=>lim (λn=>Oe n a0)
def abl:adz abS:=λg b h=>by
 obtain⟨n,hn⟩:=dG (show lim (λn=>Oe n g.1)=Q b from h);exact(Le n) g b hn
def ame(F:bw):bw:=adL abS F
def afx{F:bw}(h:bG vi F):bG vi (ame F):=Qj abl h
def GO{F:bw}{f:Nat}(h:bA F f):bA (ame F) f:=TP h
abbrev oN:=Bool
def d219:Td 0 oN:= .c [] [2] (.r 0 0 (ec 2 qb en) sn (λz=>z.1.1) (λx=>((x,()),(()))))
def anv:=(lc (ql 166) ln)
def acI(M:(aa ay)->ah oN):bw->bw:=eL vi 219 I anv d219 (λg=>M g.1)
def Aa{M:(aa ay)->ah oN}{F:bw}{f:Nat}(h:bA F f):bA (acI M F) f:=iL h (λ_=>by kernel_rfl)
def adV(M:(aa ay)->ah oN):Prop:=HL vi 219 anv d219 (λg=>M g.1)
def QO{M:(aa ay)->ah oN}(hM:adV M){F:bw}(h:bG vi F):bG vi (acI M F):=iJ (sc:=Ec) fS hM ⟨_,func219,by kernel_rfl,by kernel_rfl⟩ (λ_=>by kernel_rfl) (λ_=>by kernel_rfl) h
def ago(M219:(aa ay)->ah oN):bw:=(acI M219 (ac6 eB))
def Z5{M219}(h219:adV M219):bG vi (ago M219):=(QO h219 (R5 aY))
structure DU where
 t0:List ay
 t3:Int
def NI:Td 0 DU:= .c [] [0,3] (.r 0 0 (ec 0 (ql 166) (ec 3 aU en)) sn (λz=>⟨z.1.1,z.1.2.1⟩) (λx=>((x.t0,x.t3,()),(()))))
def H8(M219:(aa ay)->ah oN)(p:DU):ah (ah DU):=
 bif O (p.t3<p.t0.length)then match if 0<=p.t3/\p.t3<p.t0.length then match Ko (ax.mk p.t0[p.t3.toNat]!.az.bf p.t0[p.t3.toNat]!.az.fN p.t0[p.t3.toNat]!.az.aq)with|V=>V|Q r1=>bif O (12<r1)then Q G else if 0<=p.t3/\p.t3<p.t0.length then match M219 p.t0[p.t3.toNat]!.aD with|V=>V|Q r2=>bif r2 then Q G else if 0<=p.t3/\p.t3<p.t0.length then match M219 p.t0[p.t3.toNat]!.aJ with|V=>V|Q r3=>Q (r3)else V else V else V with|V=>V|Q r4=>bif r4 then Q (V)else Q (Q (DU.mk p.t0 (i64.wrap (p.t3+1))))else Q (V)
def ZD(M219:(aa ay)->ah oN):An:=(noTwo (.two (.two (.rb [217,219] 32) .no) .no))
def JN(M219:(aa ay)->ah oN):=bJ (H8 M219)
def agU(M219:(aa ay)->ah oN):An:=(noTwo (.two (noTwo (NI.lp (JN M219) (ZD M219))) .no))
def aqo{M219}:∀f∈([217,219]:aa Nat),bA (ago M219) f:=(aB (Aa (ry bK)) (aB (Aa (ry bK)) aI))
def asq(M219:(aa ay)->ah oN):gv vi (ago M219) 0 300 219 (agU M219):=cD (l:=[(bE f219 0,(NI.lp (JN M219) (ZD M219))),(.skip,(.rb [217,219] 32))]) func219 (bR (by kernel_rfl)) (by kernel_rfl) (aB (aO NI) (aB aqo aI))
def agz(M219:(aa ay)->ah oN)(a0:aa ay):ah oN:=
 match JN M219 (DU.mk a0 0)with|V=>V|Q r5=>bif O (r5.t3<r5.t0.length)then match if 0<=r5.t3/\r5.t3<r5.t0.length then match Ko (ax.mk r5.t0[r5.t3.toNat]!.az.bf r5.t0[r5.t3.toNat]!.az.fN r5.t0[r5.t3.toNat]!.az.aq)with|V=>V|Q r6=>bif O (12<r6)then Q G else if 0<=r5.t3/\r5.t3<r5.t0.length then match M219 r5.t0[r5.t3.toNat]!.aD with|V=>V|Q r7=>bif r7 then Q G else if 0<=r5.t3/\r5.t3<r5.t0.length then match M219 r5.t0[r5.t3.toNat]!.aJ with|V=>V|Q r8=>Q (r8)else V else V else V with|V=>V|Q r9=>bif r9 then Q G else V else Q I
def axn(M219:(aa ay)->ah oN)(a0:aa ay):ct vi (ago M219) 300 (agU M219) 219 (anv.c (a0,())) [] 0 d219.rd=agz M219 a0:=by kernel_rfl
def aiD:Nat->((aa ay)->ah oN)
 |0=>(λ_=>V)
 |n+1=>(agz (aiD n))
def Oo(n:Nat):(aa ay)->ah oN:=(aiD n)
def Lg:∀n,adV (Oo n)
 |0=>λ_ _ h=>(by cases h)
 |n+1=>by
  have ih:=Lg n;have i219:=ih;exact(fm (Z5 i219) (asq (Oo n)) (λ_=>by kernel_rfl) (λ_=>by kernel_rfl) λg=>axn (Oo n) g.1)
def aau:(aa ay)->ah oN:=λa0=>lim (λn=>Oo n a0)
def aas:adV aau:=λg b h=>by
 obtain⟨n,hn⟩:=dG (show lim (λn=>Oo n g.1)=Q b from h);exact(Lg n) g b hn
def ajD(F:bw):bw:=acI aau F
def adR{F:bw}(h:bG vi F):bG vi (ajD F):=QO aas h
def Gf{F:bw}{f:Nat}(h:bA F f):bA (ajD F) f:=Aa h
def apD:bw:=(ajD (ame (ac6 (Z3 (ajJ eB)))))
structure Ee where
 (t3 t4:Int)
 b0:aQ
def Nf:Td 0 Ee:= .c [] [1,3,4] (.r 0 1 (ec 1 (qp 0 0) (ec 3 aU (ec 4 aU en))) (sb 0 26 (lg 26) sn) (λz=>⟨z.1.2.1,z.1.t.1,z.2.1⟩) (λx=>(((),x.t3,x.t4,()),(x.b0,()))))
def Fe(p:Ee):ah (ah Ee):=
 bif O (p.t4<p.b0.ak.length)then if 0<=p.t4/\p.t4<p.b0.ak.length then match Pp (ax.mk p.b0.ak[p.t4.toNat]!.az.bf p.b0.ak[p.t4.toNat]!.az.fN p.b0.ak[p.t4.toNat]!.az.aq)with|V=>V|Q r1=>if 0<=p.t4/\p.t4<p.b0.ak.length then match Ko (ax.mk p.b0.ak[p.t4.toNat]!.az.bf p.b0.ak[p.t4.toNat]!.az.fN p.b0.ak[p.t4.toNat]!.az.aq)with|V=>V|Q r2=>bif O (12<r2)then Q (V)else Q (Q (Ee.mk (i64.wrap (p.t3+r1)) (i64.wrap (p.t4+1)) p.b0))else V else V else Q (V)
def Hz:=bJ (Fe)
abbrev aoB:=Bool
def d138:Td 0 aoB:= .c [] [2] (.r 0 0 (ec 2 qb en) sn (λz=>z.1.1) (λx=>((x,()),(()))))
def ahJ:∀f∈([218,219]:aa Nat),bA (apD) f:=(aB (Gf (GO (ry (GF (Gg bK))))) (aB (Gf (GO (ry (GF (Gg bK))))) aI))
def adA(a0:aQ):ah aoB:=
 match bif O (64<(a0.ai.length:Int))then Q G else Q (O (8<(a0.ak.length:Int)))with|V=>V|Q r3=>bif r3 then Q I else match afJ a0.bI with|V=>V|Q r4=>match Hz (Ee.mk r4 0 a0)with|V=>V|Q r5=>bif O (r5.t4<r5.b0.ak.length)then if 0<=r5.t4/\r5.t4<r5.b0.ak.length then match Pp (ax.mk r5.b0.ak[r5.t4.toNat]!.az.bf r5.b0.ak[r5.t4.toNat]!.az.fN r5.b0.ak[r5.t4.toNat]!.az.aq)with|V=>V|Q r6=>if 0<=r5.t4/\r5.t4<r5.b0.ak.length then match Ko (ax.mk r5.b0.ak[r5.t4.toNat]!.az.bf r5.b0.ak[r5.t4.toNat]!.az.fN r5.b0.ak[r5.t4.toNat]!.az.aq)with|V=>V|Q r7=>bif O (12<r7)then Q I else V else V else V else match bif O (r5.t3<=1024)then match abS r5.b0.bI with|V=>V|Q r8=>bif O (r8<=12)then match aau r5.b0.bI with|V=>V|Q r9=>Q (bif r9 then I else G)else Q I else Q I with|V=>V|Q r10=>Q (r10)
def aqB:=eL vi 138 I (lc (qg 26) ln) d138 (λg=>adA g.1)
def aeb:EO aqB:=λh=>kL (F:=apD) (an:=(noTwo (.two (.two (.rb [218,219] 14) .no) (noTwo (.two (noTwo (Nf.lp Hz .no)) (.two (.rb [218,219] 2) .no)))))) (l:=[(.skip,(.rb [218,219] 14)),(bE f138 0,(Nf.lp Hz .no)),(.skip,(.rb [218,219] 2))]) func138 (adR (afx (R5 (SL (afs aY))))) (aB ahJ (aB (aO Nf) (aB ahJ aI))) h
def asl:bw:=eB
structure CD where
 t0:ByteArray
 t3:Int
def Pa:Td 0 CD:= .c [] [0,3] (.r 0 0 (ec 0 qs (ec 3 aU en)) sn (λz=>⟨z.1.1,z.1.2.1⟩) (λx=>((x.t0,x.t3,()),(()))))
def Jf(p:CD):ah (ah CD):=
 bif O (p.t3<p.t0.size)then if 0<=p.t3/\p.t3<p.t0.size then match bif O (97<=cq p.t0 p.t3.toNat)then Q (O (cq p.t0 p.t3.toNat<=122))else Q I with|V=>V|Q r1=>match bif O (48<=cq p.t0 p.t3.toNat)then bif O (cq p.t0 p.t3.toNat<=57)then Q G else bif O (cq p.t0 p.t3.toNat=46)then Q G else Q (O (cq p.t0 p.t3.toNat=95))else bif O (cq p.t0 p.t3.toNat=46)then Q G else Q (O (cq p.t0 p.t3.toNat=95))with|V=>V|Q r2=>match bif bif r1 then I else G then bif O (p.t3=0)then Q G else Q (bif r2 then I else G)else Q I with|V=>V|Q r3=>bif r3 then Q (V)else Q (Q (CD.mk p.t0 (i64.wrap (p.t3+1))))else V else Q (V)
def Xi:An:=(noTwo (.two (noTwo (.two (.rb [] 5) (.two (.rb [] 6) (.two (.rb [] 53) .no)))) .no))
def Jr:=bJ (Jf)
abbrev ar2:=Bool
def d140:Td 0 ar2:= .c [] [2] (.r 0 0 (ec 2 qb en) sn (λz=>z.1.1) (λx=>((x,()),(()))))
def Sm:∀f∈([]:aa Nat),bA (asl) f:=aI
def Oa(a0:ByteArray):ah ar2:=
 match bif O ((a0.size:Int)<1)then Q G else Q (O (40<(a0.size:Int)))with|V=>V|Q r4=>bif r4 then Q I else match Jr (CD.mk a0 0)with|V=>V|Q r5=>bif O (r5.t3<r5.t0.size)then if 0<=r5.t3/\r5.t3<r5.t0.size then match bif O (97<=cq r5.t0 r5.t3.toNat)then Q (O (cq r5.t0 r5.t3.toNat<=122))else Q I with|V=>V|Q r6=>match bif O (48<=cq r5.t0 r5.t3.toNat)then bif O (cq r5.t0 r5.t3.toNat<=57)then Q G else bif O (cq r5.t0 r5.t3.toNat=46)then Q G else Q (O (cq r5.t0 r5.t3.toNat=95))else bif O (cq r5.t0 r5.t3.toNat=46)then Q G else Q (O (cq r5.t0 r5.t3.toNat=95))with|V=>V|Q r7=>match bif bif r6 then I else G then bif O (r5.t3=0)then Q G else Q (bif r7 then I else G)else Q I with|V=>V|Q r8=>bif r8 then Q I else V else V else Q G
def adq:=eL vi 140 I (lc qs ln) d140 (λg=>Oa g.1)
def RL:EO adq:=λh=>kL (F:=asl) (an:=(noTwo (.two (.two (.rb [] 14) .no) (.two (noTwo (Pa.lp Jr Xi)) .no)))) (l:=[(.skip,(.rb [] 14)),(bE f140 0,(Pa.lp Jr Xi)),(.skip,(.rb [] 5)),(.skip,(.rb [] 6)),(.skip,(.rb [] 53))]) func140 aY (aB Sm (aB (aO Pa) (aB Sm (aB Sm (aB Sm aI))))) h
def Ua:EP adq:=λh=>kP h
def alx:bw:=eB
abbrev amN:=Bool
def d141:Td 0 amN:= .c [] [4] (.r 0 0 (ec 4 qb en) sn (λz=>z.1.1) (λx=>((x,()),(()))))
def atz:=(bg (bg ln))
def ah0:An:=(noTwo (.two (.rb [] 4) .no))
def aoD:∀f∈([]:aa Nat),bA (alx) f:=aI
def H6(a0:Int)(a1:Int):amN:=
 let r1:Bool:=bif O (a0<=a1)then bif O (-1048576<=a0)then O (a1<=1048576)else I else I;r1
def axc(a0:Int)(a1:Int):ct vi (alx) 300 (ah0) 141 (atz.c (a0,a1,())) [] 0 d141.rd=Q (H6 a0 a1):=by
 refine Eq.trans (b:=(
  match bif O (a0<=a1)then bif O (-1048576<=a0)then Q (O (a1<=1048576))else Q (I)else Q (I)with|V=>V|Q r1=>Q (r1):ah amN)) (by kernel_rfl) ?_
 simp only[H6,cO,de]
def afL:=eL vi 141 I atz d141 (λg=>Q (H6 g.1 g.2.1))
def Tk:EO afL:=λh=>kL (F:=alx) (an:=ah0) (l:=[(.skip,(.rb [] 4))]) func141 aY (aB aoD aI) h (c:=λg=>axc g.1 g.2.1)
def UE:EP afL:=λh=>kP h
structure v8 where
 t0:List aS
 (t1 t5 t6:Int)
def N9:Td 0 v8:= .c [] [0,1,5,6] (.r 0 0 (ec 0 (ql 131) (ec 1 aU (ec 5 aU (ec 6 aU en)))) sn (λz=>⟨z.1.1,z.1.2.1,z.1.t.1,z.1.t.2.1⟩) (λx=>((x.t0,x.t1,x.t5,x.t6,()),(()))))
def Jb(p:v8):ah (ah v8):=
 bif O (p.t6<p.t0.length)then if 0<=p.t6/\p.t6<p.t0.length then bif bif O (p.t0[p.t6.toNat]!.bq=p.t1)then I else G then Q (Q (v8.mk p.t0 p.t1 p.t5 (i64.wrap (p.t6+1))))else if 0<=p.t6/\p.t6<p.t0.length then if 0<=p.t6/\p.t6<p.t0.length then bif O (4096<i64.wrap (p.t5*i64.wrap (i64.wrap (p.t0[p.t6.toNat]!.af-p.t0[p.t6.toNat]!.ag)+1)))then Q (V)else Q (Q (v8.mk p.t0 p.t1 (i64.wrap (p.t5*i64.wrap (i64.wrap (p.t0[p.t6.toNat]!.af-p.t0[p.t6.toNat]!.ag)+1))) (i64.wrap (p.t6+1))))else V else V else V else Q (V)
def I4:=bJ (Jb)
abbrev ap4:=Int
def d220:Td 0 ap4:= .c [] [4] (.r 0 0 (ec 4 aU en) sn (λz=>z.1.1) (λx=>((x,()),(()))))
def UJ(a0:aa aS)(a1:Int):ah ap4:=
 match I4 (v8.mk a0 a1 1 0)with|V=>V|Q r1=>bif O (r1.t6<r1.t0.length)then if 0<=r1.t6/\r1.t6<r1.t0.length then bif bif O (r1.t0[r1.t6.toNat]!.bq=r1.t1)then I else G then V else if 0<=r1.t6/\r1.t6<r1.t0.length then if 0<=r1.t6/\r1.t6<r1.t0.length then bif O (4096<i64.wrap (r1.t5*i64.wrap (i64.wrap (r1.t0[r1.t6.toNat]!.af-r1.t0[r1.t6.toNat]!.ag)+1)))then Q 4097 else V else V else V else V else Q (r1.t5)
def amE:=eL vi 220 I (lc (ql 131) (bg ln)) d220 (λg=>UJ g.1 g.2.1)
def aaw:EO amE:=λh=>kL (an:=(noTwo (noTwo (.two (noTwo (N9.lp I4 .no)) .no)))) (l:=[(bE f220 0,(N9.lp I4 .no))]) func220 aY (aB (aO N9) aI) h
def TC:EP amE:=λh=>kP h
def aog:bw:=(amE (afL (adq eB)))
structure AJ where
 t0:List aS
 (t3 t5:Int)
 b0:aS
def Nd:Td 0 AJ:= .c [] [0,3,4,5] (.r 0 1 (ec 0 (ql 131) (ec 3 aU (ec 4 (qp 0 0) (ec 5 aU en)))) (sb 0 131 (lg 131) sn) (λz=>⟨z.1.1,z.1.2.1,z.1.t.2.1,z.2.1⟩) (λx=>((x.t0,x.t3,(),x.t5,()),(x.b0,()))))
def GY(p:AJ):ah (ah AJ):=
 bif O (p.t5<p.t3)then if 0<=p.t5/\p.t5<p.t0.length then bif p.t0[p.t5.toNat]!.fName.toList==p.b0.fName.toList then Q (V)else Q (Q (AJ.mk p.t0 p.t3 (i64.wrap (p.t5+1)) p.b0))else V else Q (V)
def DH:=bJ (GY)
structure DS where
 t0:List aS
 t3:Int
def Nn:Td 0 DS:= .c [] [0,3] (.r 0 0 (ec 0 (ql 131) (ec 3 aU en)) sn (λz=>⟨z.1.1,z.1.2.1⟩) (λx=>((x.t0,x.t3,()),(()))))
def Be(p:DS):ah (ah DS):=
 bif O (p.t3<p.t0.length)then if 0<=p.t3/\p.t3<p.t0.length then match Oa p.t0[p.t3.toNat]!.fName with|V=>V|Q r1=>bif bif r1 then I else G then Q (V)else match DH (AJ.mk p.t0 p.t3 0 p.t0[p.t3.toNat]!)with|V=>V|Q r2=>bif O (r2.t5<r2.t3)then if 0<=r2.t5/\r2.t5<r2.t0.length then bif r2.t0[r2.t5.toNat]!.fName.toList==r2.b0.fName.toList then Q (V)else V else V else match bif bif O (r2.b0.bq=0)then I else G then bif bif O (r2.b0.bq=1)then I else G then bif bif O (r2.b0.bq=2)then I else G then Q (bif O (r2.b0.bq=3)then I else G)else Q I else Q I else Q I with|V=>V|Q r3=>bif r3 then Q (V)else bif bif H6 r2.b0.ag r2.b0.af then I else G then Q (V)else match bif O (r2.b0.bq=0)then bif O (r2.b0.dB<r2.b0.ag)then Q G else bif O (r2.b0.af<r2.b0.dB)then Q G else bif bif O (r2.b0.bq=0)then I else G then Q (bif O (r2.b0.dB=0)then I else G)else Q I else bif bif O (r2.b0.bq=0)then I else G then Q (bif O (r2.b0.dB=0)then I else G)else Q I with|V=>V|Q r4=>bif r4 then Q (V)else Q (Q (DS.mk r2.t0 (i64.wrap (r2.t3+1))))else V else Q (V)
def We:An:=(noTwo (.two (noTwo (noTwo (.two (noTwo (Nd.lp DH .no)) (.two (.two (.rb [220] 50) .no) (noTwo (.two (.rb [220] 83) .no)))))) .no))
def I0:=bJ (Be)
abbrev arP:=Int
def d139:Td 0 arP:= .c [] [2] (.r 0 0 (ec 2 aU en) sn (λz=>z.1.1) (λx=>((x,()),(()))))
def ZG:∀f∈([220]:aa Nat),bA (aog) f:=(aB (TC (UE (Ua bK))) aI)
def aaI(a0:aa aS):ah arP:=
 match I0 (DS.mk a0 0)with|V=>V|Q r5=>bif O (r5.t3<r5.t0.length)then if 0<=r5.t3/\r5.t3<r5.t0.length then match Oa r5.t0[r5.t3.toNat]!.fName with|V=>V|Q r6=>bif bif r6 then I else G then Q 7 else match DH (AJ.mk r5.t0 r5.t3 0 r5.t0[r5.t3.toNat]!)with|V=>V|Q r7=>bif O (r7.t5<r7.t3)then if 0<=r7.t5/\r7.t5<r7.t0.length then bif r7.t0[r7.t5.toNat]!.fName.toList==r7.b0.fName.toList then Q 8 else V else V else match bif bif O (r7.b0.bq=0)then I else G then bif bif O (r7.b0.bq=1)then I else G then bif bif O (r7.b0.bq=2)then I else G then Q (bif O (r7.b0.bq=3)then I else G)else Q I else Q I else Q I with|V=>V|Q r8=>bif r8 then Q 1 else bif bif H6 r7.b0.ag r7.b0.af then I else G then Q 3 else match bif O (r7.b0.bq=0)then bif O (r7.b0.dB<r7.b0.ag)then Q G else bif O (r7.b0.af<r7.b0.dB)then Q G else bif bif O (r7.b0.bq=0)then I else G then Q (bif O (r7.b0.dB=0)then I else G)else Q I else bif bif O (r7.b0.bq=0)then I else G then Q (bif O (r7.b0.dB=0)then I else G)else Q I with|V=>V|Q r9=>bif r9 then Q 3 else V else V else match match UJ r5.t0 1with|V=>V|Q r10=>bif O (4096<r10)then Q G else match UJ r5.t0 2with|V=>V|Q r11=>bif O (4096<r11)then Q G else match UJ r5.t0 3with|V=>V|Q r12=>Q (O (256<r12))with|V=>V|Q r13=>bif r13 then Q 4 else Q 0
def aqH:=eL vi 139 I (lc (ql 131) ln) d139 (λg=>aaI g.1)
def afz:EO aqH:=λh=>kL (F:=aog) (an:=(noTwo (.two (noTwo (Nn.lp I0 We)) (.two (.two (.rb [220] 96) .no) .no)))) (l:=[(bE f139 0,(Nn.lp I0 We)),(bE f139 1,(Nd.lp DH .no)),(.skip,(.rb [220] 50)),(.skip,(.rb [220] 83)),(.skip,(.rb [220] 96))]) func139 (aaw (Tk (RL aY))) (aB (aO Nn) (aB (aO Nd) (aB ZG (aB ZG (aB ZG aI))))) h
def auz:bw:=eB
abbrev ajx:=Int
def d270:Td 0 ajx:= .c [] [2] (.r 0 0 (ec 2 aU en) sn (λz=>z.1.1) (λx=>((x,()),(()))))
def asb:=(bg ln)
def ahd:An:= .no
def Fm(a0:Int):ajx:=
 bif O (a0=0)then 0 else bif O (a0=24)then 0 else bif O (a0=6)then 1 else bif O (a0=7)then 1 else bif O (a0=8)then 2 else bif O (a0=9)then 2 else bif O (a0=10)then 2 else bif O (a0=11)then 2 else bif O (a0=12)then 2 else bif O (a0=13)then 2 else bif O (a0=14)then 2 else bif O (a0=15)then 2 else bif O (a0=16)then 2 else bif O (a0=17)then 2 else bif O (a0=18)then 2 else bif O (a0=19)then 2 else bif O (a0=20)then 2 else bif O (a0=21)then 2 else bif O (a0=22)then 2 else bif O (a0=23)then 3 else bif O (a0=25)then-2 else-1
def avV(a0:Int):ct vi (auz) 300 (ahd) 270 (asb.c (a0,())) [] 0 d270.rd=Q (Fm a0):=by
 refine Eq.trans (b:=(
  bif O (a0=0)then Q (0)else bif O (a0=24)then Q (0)else bif O (a0=6)then Q (1)else bif O (a0=7)then Q (1)else bif O (a0=8)then Q (2)else bif O (a0=9)then Q (2)else bif O (a0=10)then Q (2)else bif O (a0=11)then Q (2)else bif O (a0=12)then Q (2)else bif O (a0=13)then Q (2)else bif O (a0=14)then Q (2)else bif O (a0=15)then Q (2)else bif O (a0=16)then Q (2)else bif O (a0=17)then Q (2)else bif O (a0=18)then Q (2)else bif O (a0=19)then Q (2)else bif O (a0=20)then Q (2)else bif O (a0=21)then Q (2)else bif O (a0=22)then Q (2)else bif O (a0=23)then Q (3)else bif O (a0=25)then Q (-2)else Q (-1):ah ajx)) (by kernel_rfl) ?_
 simp only[Fm,cO,de]
def aqi:=eL vi 270 I asb d270 (λg=>Q (Fm g.1))
def abO:EO aqi:=λh=>kL (an:=ahd) func270 aY aI h (c:=λg=>avV g.1)
abbrev rW:=Bool
def d221:Td 0 rW:= .c [] [6] (.r 0 0 (ec 6 qb en) sn (λz=>z.1.1) (λx=>((x,()),(()))))
def akC:=(lc (ql 131) (lc (qg 137) (lc qb ln)))
def amQ(M:(aa aS)->ax->Bool->ah rW):bw->bw:=eL vi 221 I akC d221 (λg=>M g.1 g.2.1 g.2.2.1)
def abe(M:(aa aS)->ax->Bool->ah rW):Prop:=HL vi 221 akC d221 (λg=>M g.1 g.2.1 g.2.2.1)
def QA{M:(aa aS)->ax->Bool->ah rW}(hM:abe M){F:bw}(h:bG vi F):bG vi (amQ M F):=iJ (sc:=Ec) fS hM ⟨_,func221,by kernel_rfl,by kernel_rfl⟩ (λ_=>by kernel_rfl) (λ_=>by kernel_rfl) h
def aci(M221:(aa aS)->ax->Bool->ah rW):bw:=(aqi (amQ M221 eB))
def acC{M221}(h221:abe M221):bG vi (aci M221):=(abO (QA h221 aY))
structure Bl where
 t0:List aS
 t2:Bool
 t8:Int
 b0:ax
def NZ:Td 0 Bl:= .c [] [0,2,4,8] (.r 0 1 (ec 0 (ql 131) (ec 2 qb (ec 4 (qp 0 0) (ec 8 aU en)))) (sb 0 137 (lg 137) sn) (λz=>⟨z.1.1,z.1.2.1,z.1.t.2.1,z.2.1⟩) (λx=>((x.t0,x.t2,(),x.t8,()),(x.b0,()))))
def JH(M221:(aa aS)->ax->Bool->ah rW)(p:Bl):ah (ah Bl):=
 bif O (p.t8<p.b0.aq.length)then if 0<=p.t8/\p.t8<p.b0.aq.length then match M221 p.t0 (ax.mk p.b0.aq[p.t8.toNat]!.bf p.b0.aq[p.t8.toNat]!.fN p.b0.aq[p.t8.toNat]!.aq) p.t2 with|V=>V|Q r1=>bif bif r1 then I else G then Q (V)else Q (Q (Bl.mk p.t0 p.t2 (i64.wrap (p.t8+1)) (ax.mk p.b0.bf p.b0.fN p.b0.aq)))else V else Q (V)
def DC(M221:(aa aS)->ax->Bool->ah rW):=bJ (JH M221)
def aiy(M221:(aa aS)->ax->Bool->ah rW):An:=(noTwo (noTwo (.two (.two (.rb [] 40) .no) (.two (noTwo (.two (.two (.rb [] 65) .no) (.two (.rb [] 73) .no))) (.two (noTwo (NZ.lp (DC M221) .no)) .no)))))
def Wc{M221}:∀f∈([]:aa Nat),bA (aci M221) f:=aI
def asA(M221:(aa aS)->ax->Bool->ah rW):gv vi (aci M221) 0 300 221 (aiy M221):=cD (l:=[(.skip,(.rb [] 40)),(.skip,(.rb [] 65)),(.skip,(.rb [] 73)),(bE f221 0,(NZ.lp (DC M221) .no))]) func221 (bR (by kernel_rfl)) (by kernel_rfl) (aB Wc (aB Wc (aB Wc (aB (aO NZ) aI))))
def aa2(M221:(aa aS)->ax->Bool->ah rW)(a0:aa aS)(a1:ax)(a2:Bool):ah rW:=
 match bif O (Fm a1.bf= -1)then Q G else bif O (0<=Fm a1.bf)then bif bif O (a1.aq.length=Fm a1.bf)then I else G then Q G else bif O (Fm a1.bf= -2)then bif O ((a1.aq.length:Int)<2)then Q G else Q (O (33<(a1.aq.length:Int)))else Q I else bif O (Fm a1.bf= -2)then bif O ((a1.aq.length:Int)<2)then Q G else Q (O (33<(a1.aq.length:Int)))else Q I with|V=>V|Q r2=>bif r2 then Q I else bif O (a1.bf=24)then match bif O (a1.fN<0)then Q G else bif O (a0.length<=a1.fN)then Q G else bif a2 then if 0<=a1.fN/\a1.fN<a0.length then Q (O (a0[a1.fN.toNat]!.bq=0))else V else Q I with|V=>V|Q r3=>bif r3 then Q I else match DC M221 (Bl.mk a0 a2 0 (ax.mk a1.bf a1.fN a1.aq))with|V=>V|Q r4=>bif O (r4.t8<r4.b0.aq.length)then if 0<=r4.t8/\r4.t8<r4.b0.aq.length then match M221 r4.t0 (ax.mk r4.b0.aq[r4.t8.toNat]!.bf r4.b0.aq[r4.t8.toNat]!.fN r4.b0.aq[r4.t8.toNat]!.aq) r4.t2 with|V=>V|Q r5=>bif bif r5 then I else G then Q I else V else V else Q G else match bif bif O (a1.bf=0)then I else G then Q (bif O (a1.fN=0)then I else G)else Q I with|V=>V|Q r6=>bif r6 then Q I else match DC M221 (Bl.mk a0 a2 0 (ax.mk a1.bf a1.fN a1.aq))with|V=>V|Q r7=>bif O (r7.t8<r7.b0.aq.length)then if 0<=r7.t8/\r7.t8<r7.b0.aq.length then match M221 r7.t0 (ax.mk r7.b0.aq[r7.t8.toNat]!.bf r7.b0.aq[r7.t8.toNat]!.fN r7.b0.aq[r7.t8.toNat]!.aq) r7.t2 with|V=>V|Q r8=>bif bif r8 then I else G then Q I else V else V else Q G
def awH(M221:(aa aS)->ax->Bool->ah rW)(a0:aa aS)(a1:ax)(a2:Bool):ct vi (aci M221) 300 (aiy M221) 221 (akC.c (a0,a1,a2,())) [] 0 d221.rd=aa2 M221 a0 a1 a2:=by kernel_rfl
def ait:Nat->((aa aS)->ax->Bool->ah rW)
 |0=>(λ_ _ _=>V)
 |n+1=>(aa2 (ait n))
def N4(n:Nat):(aa aS)->ax->Bool->ah rW:=(ait n)
def K6:∀n,abe (N4 n)
 |0=>λ_ _ h=>(by cases h)
 |n+1=>by
  have ih:=K6 n;have i221:=ih;exact(fm (acC i221) (asA (N4 n)) (λ_=>by kernel_rfl) (λ_=>by kernel_rfl) λg=>awH (N4 n) g.1 g.2.1 g.2.2.1)
def adj:(aa aS)->ax->Bool->ah rW:=λa0 a1 a2=>lim (λn=>N4 n a0 a1 a2)
def adI:abe adj:=λg b h=>by
 obtain⟨n,hn⟩:=dG (show lim (λn=>N4 n g.1 g.2.1 g.2.2.1)=Q b from h);exact(K6 n) g b hn
def aw6(F:bw):bw:=amQ adj F
def acG{F:bw}(h:bG vi F):bG vi (aw6 F):=QA adI h
def aur:bw:=eB
abbrev ald:=Int
def d313:Td 0 ald:= .c [] [2] (.r 0 0 (ec 2 aU en) sn (λz=>z.1.1) (λx=>((x,()),(()))))
def atP:=(bg ln)
def ahS:An:= .no
def Bh(a0:Int):ald:=
 bif O (a0<0)then i64.wrap (0-a0)else a0
def axF(a0:Int):ct vi (aur) 300 (ahS) 313 (atP.c (a0,())) [] 0 d313.rd=Q (Bh a0):=by
 refine Eq.trans (b:=(
  bif O (a0<0)then Q (i64.wrap (0-a0))else Q (a0):ah ald)) (by kernel_rfl) ?_
 simp only[Bh,cO,de]
def W6:=eL vi 313 I atP d313 (λg=>Q (Bh g.1))
def abj:EO W6:=λh=>kL (an:=ahS) func313 aY aI h (c:=λg=>axF g.1)
def aut:bw:=(adN (T3 eB))
abbrev ajo:=Int×Int
def d314:Td 0 ajo:= .c [] [4,5] (.r 0 0 (ec 4 aU (ec 5 aU en)) sn (λz=>(z.1.1,z.1.2.1)) (λx=>((x.1,x.2,()),(()))))
def aqR:=(bg (bg ln))
def aif:An:= .no
def Xn(a0:Int)(a1:Int):ajo:=
 bif O (a0<0)then bif O (0<a1)then(jF (0) (i64.wrap (a0+1)),kC (0) (i64.wrap (a1-1)))else(jF (0) (i64.wrap (a0+1)),0)else bif O (0<a1)then(0,kC (0) (i64.wrap (a1-1)))else(0,0)
def axa(a0:Int)(a1:Int):ct vi (aut) 300 (aif) 314 (aqR.c (a0,a1,())) [] 0 d314.rd=Q (Xn a0 a1):=by
 refine Eq.trans (b:=(
  bif O (a0<0)then bif O (0<a1)then Q ((jF (0) (i64.wrap (a0+1)),kC (0) (i64.wrap (a1-1))))else Q ((jF (0) (i64.wrap (a0+1)),0))else bif O (0<a1)then Q ((0,kC (0) (i64.wrap (a1-1))))else Q ((0,0)):ah ajo)) (by kernel_rfl) ?_
 simp only[Xn,cO,de]
def atc:=eL vi 314 I aqR d314 (λg=>Q (Xn g.1 g.2.1))
def afe:EO atc:=λh=>kL (an:=aif) func314 (CA (BW aY)) aI h (c:=λg=>axa g.1 g.2.1)
def aq0:bw:=(atc (W6 (adN (T3 eB))))
structure Ai where
 (t2 t3:List Int)
 (t15 t16 t17:Int)
def OT:Td 0 Ai:= .c [] [2,3,15,16,17] (.r 0 0 (ec 2 (ql 3) (ec 3 (ql 3) (ec 15 aU (ec 16 aU (ec 17 aU en))))) sn (λz=>⟨z.1.1,z.1.2.1,z.1.t.1,z.1.t.2.1,z.1.q.1⟩) (λx=>((x.t2,x.t3,x.t15,x.t16,x.t17,()),(()))))
def JB(p:Ai):ah (ah Ai):=
 bif O (p.t17<p.t2.length)then if 0<=p.t17/\p.t17<p.t2.length then if 0<=p.t17/\p.t17<p.t3.length then Q (Q (Ai.mk p.t2 p.t3 (jF p.t15 p.t2[p.t17.toNat]!) (kC p.t16 p.t3[p.t17.toNat]!) (i64.wrap (p.t17+1))))else V else V else Q (V)
def Ew:=bJ (JB)
abbrev as1:=Int×Int
def d271:Td 0 as1:= .c [] [8,9] (.r 0 0 (ec 8 aU (ec 9 aU en)) sn (λz=>(z.1.1,z.1.2.1)) (λx=>((x.1,x.2,()),(()))))
def ahb:∀f∈([]:aa Nat),bA (aq0) f:=aI
def aaU(a0:aa aS)(a1:ax)(a2:aa Int)(a3:aa Int):ah as1:=
 bif O (a1.bf=0)then match bif O (a1.fN< -1048576)then Q G else Q (O (1048576<a1.fN))with|V=>V|Q r1=>bif r1 then Q (-1048577,1048577)else Q (a1.fN,a1.fN)else bif O (a1.bf=24)then if 0<=a1.fN/\a1.fN<a0.length then if 0<=a1.fN/\a1.fN<a0.length then Q (a0[a1.fN.toNat]!.ag,a0[a1.fN.toNat]!.af)else V else V else bif O (a1.bf=6)then if(0:Int)<=(0:Int)/\(0:Int)<a3.length then if(0:Int)<=(0:Int)/\(0:Int)<a2.length then Q ((i64.wrap (0-a3[0]!),i64.wrap (0-a2[0]!)))else V else V else bif O (a1.bf=8)then if(0:Int)<=(0:Int)/\(0:Int)<a2.length then if(0:Int)<=(1:Int)/\(1:Int)<a2.length then if(0:Int)<=(0:Int)/\(0:Int)<a3.length then if(0:Int)<=(1:Int)/\(1:Int)<a3.length then Q ((i64.wrap (a2[0]! +a2[1]!),i64.wrap (a3[0]! +a3[1]!)))else V else V else V else V else bif O (a1.bf=9)then if(0:Int)<=(0:Int)/\(0:Int)<a2.length then if(0:Int)<=(1:Int)/\(1:Int)<a3.length then if(0:Int)<=(0:Int)/\(0:Int)<a3.length then if(0:Int)<=(1:Int)/\(1:Int)<a2.length then Q ((i64.wrap (a2[0]! -a3[1]!),i64.wrap (a3[0]! -a2[1]!)))else V else V else V else V else bif O (a1.bf=10)then if(0:Int)<=(0:Int)/\(0:Int)<a2.length then if(0:Int)<=(1:Int)/\(1:Int)<a2.length then if(0:Int)<=(0:Int)/\(0:Int)<a2.length then if(0:Int)<=(1:Int)/\(1:Int)<a3.length then if(0:Int)<=(0:Int)/\(0:Int)<a3.length then if(0:Int)<=(1:Int)/\(1:Int)<a2.length then if(0:Int)<=(0:Int)/\(0:Int)<a3.length then if(0:Int)<=(1:Int)/\(1:Int)<a3.length then Q ((jF (jF (i64.wrap (a2[0]! *a2[1]!)) (i64.wrap (a2[0]! *a3[1]!))) (jF (i64.wrap (a3[0]! *a2[1]!)) (i64.wrap (a3[0]! *a3[1]!))),kC (kC (i64.wrap (a2[0]! *a2[1]!)) (i64.wrap (a2[0]! *a3[1]!))) (kC (i64.wrap (a3[0]! *a2[1]!)) (i64.wrap (a3[0]! *a3[1]!)))))else V else V else V else V else V else V else V else V else bif O (a1.bf=11)then if(0:Int)<=(0:Int)/\(0:Int)<a2.length then if(0:Int)<=(0:Int)/\(0:Int)<a3.length then match if(0:Int)<=(0:Int)/\(0:Int)<a2.length then bif O (0<=a2[yR 0]!)then if(0:Int)<=(1:Int)/\(1:Int)<a2.length then Q (O (0<=a2[yR 1]!))else V else Q I else V with|V=>V|Q r2=>bif r2 then Q ((0,kC (Bh a2[0]!) (Bh a3[0]!)))else Q ((i64.wrap (0-kC (Bh a2[0]!) (Bh a3[0]!)),kC (Bh a2[0]!) (Bh a3[0]!)))else V else V else bif O (a1.bf=12)then if(0:Int)<=(1:Int)/\(1:Int)<a2.length then if(0:Int)<=(1:Int)/\(1:Int)<a3.length then Q (Xn a2[1]! a3[1]!)else V else V else bif O (a1.bf=21)then if(0:Int)<=(0:Int)/\(0:Int)<a2.length then if(0:Int)<=(1:Int)/\(1:Int)<a2.length then if(0:Int)<=(0:Int)/\(0:Int)<a3.length then if(0:Int)<=(1:Int)/\(1:Int)<a3.length then Q (jF a2[0]! a2[1]!,jF a3[0]! a3[1]!)else V else V else V else V else bif O (a1.bf=22)then if(0:Int)<=(0:Int)/\(0:Int)<a2.length then if(0:Int)<=(1:Int)/\(1:Int)<a2.length then if(0:Int)<=(0:Int)/\(0:Int)<a3.length then if(0:Int)<=(1:Int)/\(1:Int)<a3.length then Q (kC a2[0]! a2[1]!,kC a3[0]! a3[1]!)else V else V else V else V else bif O (a1.bf=23)then if(0:Int)<=(1:Int)/\(1:Int)<a2.length then if(0:Int)<=(1:Int)/\(1:Int)<a3.length then match Ew (Ai.mk a2 a3 a2[1]! a3[1]! (2))with|V=>V|Q r3=>bif O (r3.t17<r3.t2.length)then if 0<=r3.t17/\r3.t17<r3.t2.length then if 0<=r3.t17/\r3.t17<r3.t3.length then V else V else V else Q (r3.t15,r3.t16)else V else V else bif O (a1.bf=25)then if(0:Int)<=(1:Int)/\(1:Int)<a2.length then if(0:Int)<=(1:Int)/\(1:Int)<a3.length then match Ew (Ai.mk a2 a3 a2[1]! a3[1]! (2))with|V=>V|Q r4=>bif O (r4.t17<r4.t2.length)then if 0<=r4.t17/\r4.t17<r4.t2.length then if 0<=r4.t17/\r4.t17<r4.t3.length then V else V else V else Q (r4.t15,r4.t16)else V else V else Q (0,1)
def arH:=eL vi 271 I (lc (ql 131) (lc (qg 137) (lc (ql 3) (lc (ql 3) ln)))) d271 (λg=>aaU g.1 g.2.1 g.t.1 g.t.2.1)
def afh:EO arH:=λh=>kL (F:=aq0) (an:=(noTwo (.two (noTwo (noTwo (.two (.two (.two (.rb [] 29) .no) .no) (noTwo (noTwo (noTwo (noTwo (noTwo (noTwo (noTwo (noTwo (noTwo (noTwo (noTwo (.two (noTwo (.two (.two (.rb [] 154) .no) .no)) (noTwo (noTwo (noTwo (noTwo (noTwo (noTwo (noTwo (.two (noTwo (.two (noTwo (OT.lp Ew .no)) .no)) .no))))))))))))))))))))))) .no))) (l:=[(.skip,(.rb [] 29)),(.skip,(.rb [] 154)),(bE f271 0,(OT.lp Ew .no))]) func271 (afe (abj (CA (BW aY)))) (aB ahb (aB ahb (aB (aO OT) aI))) h
abbrev rQ:=Int×Int×Bool
def d222:Td 0 rQ:= .c [] [4,5,6] (.r 0 0 (ec 4 aU (ec 5 aU (ec 6 qb en))) sn (λz=>(z.1.1,z.1.2.1,z.1.t.1)) (λx=>((x.1,x.2.1,x.t,()),(()))))
def amr:=(lc (ql 131) (lc (qg 137) ln))
def akm(M:(aa aS)->ax->ah rQ):bw->bw:=eL vi 222 I amr d222 (λg=>M g.1 g.2.1)
def aea(M:(aa aS)->ax->ah rQ):Prop:=HL vi 222 amr d222 (λg=>M g.1 g.2.1)
def SV{M:(aa aS)->ax->ah rQ}(hM:aea M){F:bw}(h:bG vi F):bG vi (akm M F):=iJ (sc:=Ec) fS hM ⟨_,func222,by kernel_rfl,by kernel_rfl⟩ (λ_=>by kernel_rfl) (λ_=>by kernel_rfl) h
def akR(M222:(aa aS)->ax->ah rQ):bw:=(arH (akm M222 eB))
def adt{M222}(h222:aea M222):bG vi (akR M222):=(afh (SV h222 aY))
structure Dn where
 t0:List aS
 (t7 t8:List Int)
 t9:Int
 b0:ax
def Nb:Td 0 Dn:= .c [] [0,3,7,8,9] (.r 0 3 (ec 0 (ql 131) (ec 3 (qp 0 0) (ec 7 (qo 1) (ec 8 (qo 2) (ec 9 aU en))))) (sb 0 137 (lg 137) (sr 1 3 (sr 2 3 sn))) (λz=>⟨z.1.1,z.t.1,z.t.2.1,z.1.q.1,z.2.1⟩) (λx=>((x.t0,(),(),(),x.t9,()),(x.b0,x.t7,x.t8,()))))
def CH(M222:(aa aS)->ax->ah rQ)(p:Dn):ah (ah Dn):=
 bif O (p.t9<p.b0.aq.length)then if 0<=p.t9/\p.t9<p.b0.aq.length then match M222 p.t0 (ax.mk p.b0.aq[p.t9.toNat]!.bf p.b0.aq[p.t9.toNat]!.fN p.b0.aq[p.t9.toNat]!.aq)with|V=>V|Q r1=>bif bif r1.snd.snd then I else G then Q (V)else if(p.t7++[r1.fst]).length<=1073741824 then if(p.t8++[r1.snd.fst]).length<=1073741824 then Q (Q (Dn.mk p.t0 (p.t7++[r1.fst]) (p.t8++[r1.snd.fst]) (i64.wrap (p.t9+1)) (ax.mk p.b0.bf p.b0.fN p.b0.aq)))else V else V else V else Q (V)
def Ie(M222:(aa aS)->ax->ah rQ):=bJ (CH M222)
def aiH(M222:(aa aS)->ax->ah rQ):An:=(noTwo (noTwo (noTwo (.two (noTwo (Nb.lp (Ie M222) .no)) .no))))
def arB(M222:(aa aS)->ax->ah rQ):gv vi (akR M222) 0 300 222 (aiH M222):=cD (l:=[(bE f222 0,(Nb.lp (Ie M222) .no))]) func222 (bR (by kernel_rfl)) (by kernel_rfl) (aB (aO Nb) aI)
def afv(M222:(aa aS)->ax->ah rQ)(a0:aa aS)(a1:ax):ah rQ:=
 match Ie M222 (Dn.mk a0 [] [] (0) (ax.mk a1.bf a1.fN a1.aq))with|V=>V|Q r2=>bif O (r2.t9<r2.b0.aq.length)then if 0<=r2.t9/\r2.t9<r2.b0.aq.length then match M222 r2.t0 (ax.mk r2.b0.aq[r2.t9.toNat]!.bf r2.b0.aq[r2.t9.toNat]!.fN r2.b0.aq[r2.t9.toNat]!.aq)with|V=>V|Q r3=>bif bif r3.snd.snd then I else G then Q (0,0,I)else if(r2.t7++[r3.fst]).length<=1073741824 then if(r2.t8++[r3.snd.fst]).length<=1073741824 then V else V else V else V else match aaU r2.t0 (ax.mk r2.b0.bf r2.b0.fN r2.b0.aq) r2.t7 r2.t8 with|V=>V|Q r4=>bif O (-1048576<=r4.fst)then Q ((r4.fst,r4.snd,O (r4.snd<=1048576)))else Q (r4.fst,r4.snd,I)
def awg(M222:(aa aS)->ax->ah rQ)(a0:aa aS)(a1:ax):ct vi (akR M222) 300 (aiH M222) 222 (amr.c (a0,a1,())) [] 0 d222.rd=afv M222 a0 a1:=by kernel_rfl
def ahk:Nat->((aa aS)->ax->ah rQ)
 |0=>(λ_ _=>V)
 |n+1=>(afv (ahk n))
def Pz(n:Nat):(aa aS)->ax->ah rQ:=(ahk n)
def JT:∀n,aea (Pz n)
 |0=>λ_ _ h=>(by cases h)
 |n+1=>by
  have ih:=JT n;have i222:=ih;exact(fm (adt i222) (arB (Pz n)) (λ_=>by kernel_rfl) (λ_=>by kernel_rfl) λg=>awg (Pz n) g.1 g.2.1)
def abk:(aa aS)->ax->ah rQ:=λa0 a1=>lim (λn=>Pz n a0 a1)
def abG:aea abk:=λg b h=>by
 obtain⟨n,hn⟩:=dG (show lim (λn=>Pz n g.1 g.2.1)=Q b from h);exact(JT n) g b hn
def aum(F:bw):bw:=akm abk F
def agc{F:bw}(h:bG vi F):bG vi (aum F):=SV abG h
abbrev ar9:=Int
def d142:Td 0 ar9:= .c [] [6] (.r 0 0 (ec 6 aU en) sn (λz=>z.1.1) (λx=>((x,()),(()))))
def JL(a0:aa aS)(a1:ax)(a2:Bool):ah ar9:=
 match adj a0 (ax.mk a1.bf a1.fN a1.aq) a2 with|V=>V|Q r1=>bif bif r1 then I else G then Q (1)else match abk a0 (ax.mk a1.bf a1.fN a1.aq)with|V=>V|Q r2=>bif bif r2.snd.snd then I else G then Q (3)else Q (0)
def afC:=eL vi 142 I (lc (ql 131) (lc (qg 137) (lc qb ln))) d142 (λg=>JL g.1 g.2.1 g.t.1)
def S1:EO afC:=λh=>kL (an:= .no) func142 (agc (acG aY)) aI h
def Ub:EP afC:=λh=>kP h
def aj9:bw:=eB
abbrev ajF:=Bool
def d272:Td 0 ajF:= .c [] [2] (.r 0 0 (ec 2 qb en) sn (λz=>z.1.1) (λx=>((x,()),(()))))
def aqY:=(lc (qg 137) ln)
def ahL:An:=(noTwo (.two (.rb [] 2) .no))
def aoX:∀f∈([]:aa Nat),bA (aj9) f:=aI
def Kc(a0:ax):ajF:=
 let r1:Bool:=bif O (a0.bf=0)then bif O (a0.fN=0)then O ((a0.aq.length:Int)=0)else I else I;r1
def awT(a0:ax):ct vi (aj9) 300 (ahL) 272 (aqY.c (a0,())) [] 0 d272.rd=Q (Kc a0):=by
 refine Eq.trans (b:=(
  match bif O (a0.bf=0)then bif O (a0.fN=0)then Q (O ((a0.aq.length:Int)=0))else Q (I)else Q (I)with|V=>V|Q r1=>Q (r1):ah ajF)) (by kernel_rfl) ?_
 simp only[Kc,cO,de]
def ajN:=eL vi 272 I aqY d272 (λg=>Q (Kc g.1))
def abW:EO ajN:=λh=>kL (F:=aj9) (an:=ahL) (l:=[(.skip,(.rb [] 2))]) func272 aY (aB aoX aI) h (c:=λg=>awT g.1)
def Gw:EP ajN:=λh=>kP h
def arc:bw:=eB
structure C1 where
 t0:List Int
 t3:Int
def Pe:Td 0 C1:= .c [] [0,3] (.r 0 0 (ec 0 (ql 3) (ec 3 aU en)) sn (λz=>⟨z.1.1,z.1.2.1⟩) (λx=>((x.t0,x.t3,()),(()))))
def IT(p:C1):ah (ah C1):=
 bif O (p.t3<p.t0.length)then if 0<=p.t3/\p.t3<p.t0.length then if 0<=i64.wrap (p.t3-1)/\i64.wrap (p.t3-1)<p.t0.length then bif O (((p.t0,p.t3,()),()).fst.fst[((p.t0,p.t3,()),()).fst.snd.fst.toNat]!<=((p.t0,p.t3,()),()).fst.fst[(i64.wrap (((p.t0,p.t3,()),()).fst.snd.fst-1)).toNat]!)then Q (V)else Q (Q (C1.mk p.t0 (i64.wrap (p.t3+1))))else V else V else Q (V)
def Hu:=bJ (IT)
abbrev aq1:=Bool
def d273:Td 0 aq1:= .c [] [2] (.r 0 0 (ec 2 qb en) sn (λz=>z.1.1) (λx=>((x,()),(()))))
def aqI:∀f∈([]:aa Nat),bA (arc) f:=aI
def adG(a0:aa Int):ah aq1:=
 match bif O ((a0.length:Int)<1)then Q G else bif O (32<(a0.length:Int))then Q G else if(0:Int)<=(0:Int)/\(0:Int)<a0.length then Q (O (a0[yR 0]! <0))else V with|V=>V|Q r1=>bif r1 then Q I else match Hu (C1.mk a0 1)with|V=>V|Q r2=>bif O (r2.t3<r2.t0.length)then if 0<=r2.t3/\r2.t3<r2.t0.length then if 0<=i64.wrap (r2.t3-1)/\i64.wrap (r2.t3-1)<r2.t0.length then bif O (((r2.t0,r2.t3,()),()).fst.fst[((r2.t0,r2.t3,()),()).fst.snd.fst.toNat]!<=((r2.t0,r2.t3,()),()).fst.fst[(i64.wrap (((r2.t0,r2.t3,()),()).fst.snd.fst-1)).toNat]!)then Q I else V else V else V else Q G
def ant:=eL vi 273 I (lc (ql 3) ln) d273 (λg=>adG g.1)
def aaR:EO ant:=λh=>kL (F:=arc) (an:=(noTwo (.two (.two (.rb [] 17) .no) (.two (noTwo (Pe.lp Hu .no)) .no)))) (l:=[(.skip,(.rb [] 17)),(bE f273 0,(Pe.lp Hu .no))]) func273 aY (aB aqI (aB (aO Pe) aI)) h
def Gj:EP ant:=λh=>kP h
def apJ:bw:=(ant (ajN eB))
abbrev atn:=Bool
def d223:Td 0 atn:= .c [] [6] (.r 0 0 (ec 6 qb en) sn (λz=>z.1.1) (λx=>((x,()),(()))))
def uf:∀f∈([272,273]:aa Nat),bA (apJ) f:=(aB (Gj (Gw bK)) (aB (Gj (Gw bK)) aI))
def N6(a0:aQ)(a1:ay)(a2:Bool):ah atn:=
 match bif O ((a1.aD.length:Int)=0)then Q (O ((a1.aJ.length:Int)=0))else Q I with|V=>V|Q r1=>match bif O (0<=a1.cV)then bif O (a1.cV<a0.ai.length)then if 0<=a1.cV/\a1.cV<a0.ai.length then Q (O (a0.ai[a1.cV.toNat]!.bq=0))else V else Q I else Q I with|V=>V|Q r2=>bif O (a1.bN=0)then match bif r1 then bif r2 then bif O (a1.fN=0)then Q (O ((a1.aK.length:Int)=0))else Q I else Q I else Q I with|V=>V|Q r3=>Q (r3)else bif O (a1.bN=1)then match bif r1 then bif O (a1.cV=0)then bif O (a1.fN=0)then Q (O ((a1.aK.length:Int)=0))else Q I else Q I else Q I with|V=>V|Q r4=>Q (r4)else bif O (a1.bN=2)then match bif r1 then bif O (a1.cV=0)then bif O (a1.fN=0)then bif O ((a1.aK.length:Int)=0)then Q (Kc (ax.mk a1.az.bf a1.az.fN a1.az.aq))else Q I else Q I else Q I else Q I with|V=>V|Q r5=>Q (r5)else bif O (a1.bN=3)then match bif O (a1.cV=0)then bif O (a1.fN=0)then Q (O ((a1.aK.length:Int)=0))else Q I else Q I with|V=>V|Q r6=>Q (r6)else bif O (a1.bN=4)then match bif O (a1.cV=0)then bif O ((a1.aJ.length:Int)=0)then Q (O ((a1.aK.length:Int)=0))else Q I else Q I with|V=>V|Q r7=>Q (r7)else bif O (a1.bN=5)then match bif r1 then bif r2 then bif O (0<=a1.fN)then bif O (a1.fN<a0.ak.length)then bif O ((a1.aK.length:Int)=0)then Q (Kc (ax.mk a1.az.bf a1.az.fN a1.az.aq))else Q I else Q I else Q I else Q I else Q I with|V=>V|Q r8=>Q (r8)else bif O (a1.bN=6)then match bif r1 then bif a2 then bif O (a1.cV=0)then bif O (a1.fN=0)then bif Kc (ax.mk a1.az.bf a1.az.fN a1.az.aq)then match adG a1.aK with|V=>V|Q r9=>Q (r9)else Q I else Q I else Q I else Q I else Q I with|V=>V|Q r10=>Q (r10)else Q I
def aju:=eL vi 223 I (lc (qg 26) (lc (qg 166) (lc qb ln))) d223 (λg=>N6 g.1 g.2.1 g.t.1)
def Z1:EO aju:=λh=>kL (F:=apJ) (an:=(noTwo (.two (.rb [272,273] 7) (.two (.rb [272,273] 8) (.two (noTwo (noTwo (.two (.two (.rb [272,273] 6) .no) (noTwo (.two (.two (.rb [272,273] 6) .no) (noTwo (.two (.two (.rb [272,273] 6) .no) (noTwo (.two (.two (.rb [272,273] 6) .no) (noTwo (.two (.two (.rb [272,273] 6) .no) (noTwo (.two (.two (.rb [272,273] 6) .no) (noTwo (.two (.two (.rb [272,273] 6) .no) .no))))))))))))))) .no))))) (l:=[(.skip,(.rb [272,273] 7)),(.skip,(.rb [272,273] 8)),(.skip,(.rb [272,273] 6)),(.skip,(.rb [272,273] 6)),(.skip,(.rb [272,273] 6)),(.skip,(.rb [272,273] 6)),(.skip,(.rb [272,273] 6)),(.skip,(.rb [272,273] 6)),(.skip,(.rb [272,273] 6))]) func223 (aaR (abW aY)) (aB uf (aB uf (aB uf (aB uf (aB uf (aB uf (aB uf (aB uf (aB uf aI))))))))) h
def TU:EP aju:=λh=>kP h
abbrev nD:=Int
def d143:Td 0 nD:= .c [] [6] (.r 0 0 (ec 6 aU en) sn (λz=>z.1.1) (λx=>((x,()),(()))))
def al2:=(lc (qg 26) (lc (ql 166) (lc qb ln)))
def abY(M:aQ->(aa ay)->Bool->ah nD):bw->bw:=eL vi 143 I al2 d143 (λg=>M g.1 g.2.1 g.2.2.1)
def UQ{M:aQ->(aa ay)->Bool->ah nD}{F:bw}{f:Nat}(h:bA F f):bA (abY M F) f:=iL h (λ_=>by kernel_rfl)
def aaS(M:aQ->(aa ay)->Bool->ah nD):Prop:=HL vi 143 al2 d143 (λg=>M g.1 g.2.1 g.2.2.1)
def SS{M:aQ->(aa ay)->Bool->ah nD}(hM:aaS M){F:bw}(h:bG vi F):bG vi (abY M F):=iJ (sc:=Ec) fS hM ⟨_,func143,by kernel_rfl,by kernel_rfl⟩ (λ_=>by kernel_rfl) (λ_=>by kernel_rfl) h
def adk(M143:aQ->(aa ay)->Bool->ah nD):bw:=(aju (abY M143 (afC eB)))
def abP{M143}(h143:aaS M143):bG vi (adk M143):=(Z1 (SS h143 (S1 aY)))
structure AD where
 t1:List ay
 t2:Bool
 t7:Int
 b0:aQ
def NW:Td 0 AD:= .c [] [1,2,3,7] (.r 0 1 (ec 1 (ql 166) (ec 2 qb (ec 3 (qp 0 0) (ec 7 aU en)))) (sb 0 26 (lg 26) sn) (λz=>⟨z.1.1,z.1.2.1,z.1.t.2.1,z.2.1⟩) (λx=>((x.t1,x.t2,(),x.t7,()),(x.b0,()))))
def Bi(M143:aQ->(aa ay)->Bool->ah nD)(p:AD):ah (ah AD):=
 bif O (p.t7<p.t1.length)then if 0<=p.t7/\p.t7<p.t1.length then match bif p.t2 then match N6 p.b0 (ay.mk p.t1[p.t7.toNat]!.bN p.t1[p.t7.toNat]!.aN p.t1[p.t7.toNat]!.cV p.t1[p.t7.toNat]!.fN (ax.mk p.t1[p.t7.toNat]!.az.bf p.t1[p.t7.toNat]!.az.fN p.t1[p.t7.toNat]!.az.aq) p.t1[p.t7.toNat]!.aD p.t1[p.t7.toNat]!.aJ p.t1[p.t7.toNat]!.aK) (O (((p.t1,p.t2,(),p.t7,()),p.b0,()).fst.snd.snd.snd.fst=i64.wrap ((↑((p.t1,p.t2,(),p.t7,()),p.b0,()).fst.fst.length:Int)-1)))with|V=>V|Q r1=>Q (bif r1 then I else G)else match N6 p.b0 (ay.mk p.t1[p.t7.toNat]!.bN p.t1[p.t7.toNat]!.aN p.t1[p.t7.toNat]!.cV p.t1[p.t7.toNat]!.fN (ax.mk p.t1[p.t7.toNat]!.az.bf p.t1[p.t7.toNat]!.az.fN p.t1[p.t7.toNat]!.az.aq) p.t1[p.t7.toNat]!.aD p.t1[p.t7.toNat]!.aJ p.t1[p.t7.toNat]!.aK) I with|V=>V|Q r2=>Q (bif r2 then I else G)with|V=>V|Q r3=>bif r3 then Q (V)else bif O (p.t1[p.t7.toNat]!.bN=2)then match bif O (p.t1[p.t7.toNat]!.aN<0)then Q G else bif O (67108864<p.t1[p.t7.toNat]!.aN)then Q G else bif O (p.t1[p.t7.toNat]!.fN<0)then Q G else bif O (p.t1[p.t7.toNat]!.bN=4)then Q (O (4096<p.t1[p.t7.toNat]!.fN))else Q I with|V=>V|Q r4=>bif r4 then Q (V)else match bif O (0<(↑p.t1[p.t7.toNat]!.aK.length:Int))then if 0<=i64.wrap ((↑p.t1[p.t7.toNat]!.aK.length:Int)-(1:Int))/\i64.wrap ((↑p.t1[p.t7.toNat]!.aK.length:Int)-(1:Int))<(↑p.t1[p.t7.toNat]!.aK.length:Int)then Q (O (67108864<((p.t1,p.t2,(),p.t7,()),p.b0,()).fst.fst[((p.t1,p.t2,(),p.t7,()),p.b0,()).fst.snd.snd.snd.fst.toNat]!.aK[(i64.wrap ((↑((p.t1,p.t2,(),p.t7,()),p.b0,()).fst.fst[((p.t1,p.t2,(),p.t7,()),p.b0,()).fst.snd.snd.snd.fst.toNat]!.aK.length:Int)-1)).toNat]!))else V else Q I with|V=>V|Q r5=>bif r5 then Q (V)else match JL p.b0.ai (ax.mk p.t1[p.t7.toNat]!.az.bf p.t1[p.t7.toNat]!.az.fN p.t1[p.t7.toNat]!.az.aq) I with|V=>V|Q r6=>bif bif O (r6=0)then I else G then Q (V)else match M143 p.b0 p.t1[p.t7.toNat]!.aD I with|V=>V|Q r7=>bif bif O (r7=0)then I else G then Q (V)else match M143 p.b0 p.t1[p.t7.toNat]!.aJ I with|V=>V|Q r8=>bif bif O (r8=0)then I else G then Q (V)else Q (Q (AD.mk p.t1 p.t2 (i64.wrap (p.t7+1)) p.b0))else match bif O (p.t1[p.t7.toNat]!.aN<0)then Q G else bif O (10000<p.t1[p.t7.toNat]!.aN)then Q G else bif O (p.t1[p.t7.toNat]!.fN<0)then Q G else bif O (p.t1[p.t7.toNat]!.bN=4)then Q (O (4096<p.t1[p.t7.toNat]!.fN))else Q I with|V=>V|Q r9=>bif r9 then Q (V)else match bif O (0<(↑p.t1[p.t7.toNat]!.aK.length:Int))then if 0<=i64.wrap ((↑p.t1[p.t7.toNat]!.aK.length:Int)-(1:Int))/\i64.wrap ((↑p.t1[p.t7.toNat]!.aK.length:Int)-(1:Int))<(↑p.t1[p.t7.toNat]!.aK.length:Int)then Q (O (67108864<((p.t1,p.t2,(),p.t7,()),p.b0,()).fst.fst[((p.t1,p.t2,(),p.t7,()),p.b0,()).fst.snd.snd.snd.fst.toNat]!.aK[(i64.wrap ((↑((p.t1,p.t2,(),p.t7,()),p.b0,()).fst.fst[((p.t1,p.t2,(),p.t7,()),p.b0,()).fst.snd.snd.snd.fst.toNat]!.aK.length:Int)-1)).toNat]!))else V else Q I with|V=>V|Q r10=>bif r10 then Q (V)else match JL p.b0.ai (ax.mk p.t1[p.t7.toNat]!.az.bf p.t1[p.t7.toNat]!.az.fN p.t1[p.t7.toNat]!.az.aq) I with|V=>V|Q r11=>bif bif O (r11=0)then I else G then Q (V)else match M143 p.b0 p.t1[p.t7.toNat]!.aD I with|V=>V|Q r12=>bif bif O (r12=0)then I else G then Q (V)else match M143 p.b0 p.t1[p.t7.toNat]!.aJ I with|V=>V|Q r13=>bif bif O (r13=0)then I else G then Q (V)else Q (Q (AD.mk p.t1 p.t2 (i64.wrap (p.t7+1)) p.b0))else V else Q (V)
def V9(M143:aQ->(aa ay)->Bool->ah nD):An:=(noTwo (.two (noTwo (.two (.two (.rb [223] 32) .no) (noTwo (noTwo (.two (.two (.rb [223] 59) .no) (.two (.two (.rb [223] 74) .no) .no)))))) .no))
def IY(M143:aQ->(aa ay)->Bool->ah nD):=bJ (Bi M143)
def ahe(M143:aQ->(aa ay)->Bool->ah nD):An:=(noTwo (.two (noTwo (NW.lp (IY M143) (V9 M143))) .no))
def VU{M143}:∀f∈([223]:aa Nat),bA (adk M143) f:=(aB (TU (UQ (Ub bK))) aI)
def aqm(M143:aQ->(aa ay)->Bool->ah nD):gv vi (adk M143) 0 300 143 (ahe M143):=cD (l:=[(bE f143 0,(NW.lp (IY M143) (V9 M143))),(.skip,(.rb [223] 32)),(.skip,(.rb [223] 59)),(.skip,(.rb [223] 74))]) func143 (bR (by kernel_rfl)) (by kernel_rfl) (aB (aO NW) (aB VU (aB VU (aB VU aI))))
def acz(M143:aQ->(aa ay)->Bool->ah nD)(a0:aQ)(a1:aa ay)(a2:Bool):ah nD:=
 match IY M143 (AD.mk a1 a2 0 a0)with|V=>V|Q r14=>bif O (r14.t7<r14.t1.length)then if 0<=r14.t7/\r14.t7<r14.t1.length then match bif r14.t2 then match N6 r14.b0 (ay.mk r14.t1[r14.t7.toNat]!.bN r14.t1[r14.t7.toNat]!.aN r14.t1[r14.t7.toNat]!.cV r14.t1[r14.t7.toNat]!.fN (ax.mk r14.t1[r14.t7.toNat]!.az.bf r14.t1[r14.t7.toNat]!.az.fN r14.t1[r14.t7.toNat]!.az.aq) r14.t1[r14.t7.toNat]!.aD r14.t1[r14.t7.toNat]!.aJ r14.t1[r14.t7.toNat]!.aK) (O (((r14.t1,r14.t2,(),r14.t7,()),r14.b0,()).fst.snd.snd.snd.fst=i64.wrap ((↑((r14.t1,r14.t2,(),r14.t7,()),r14.b0,()).fst.fst.length:Int)-1)))with|V=>V|Q r15=>Q (bif r15 then I else G)else match N6 r14.b0 (ay.mk r14.t1[r14.t7.toNat]!.bN r14.t1[r14.t7.toNat]!.aN r14.t1[r14.t7.toNat]!.cV r14.t1[r14.t7.toNat]!.fN (ax.mk r14.t1[r14.t7.toNat]!.az.bf r14.t1[r14.t7.toNat]!.az.fN r14.t1[r14.t7.toNat]!.az.aq) r14.t1[r14.t7.toNat]!.aD r14.t1[r14.t7.toNat]!.aJ r14.t1[r14.t7.toNat]!.aK) I with|V=>V|Q r16=>Q (bif r16 then I else G)with|V=>V|Q r17=>bif r17 then Q 1 else bif O (r14.t1[r14.t7.toNat]!.bN=2)then match bif O (r14.t1[r14.t7.toNat]!.aN<0)then Q G else bif O (67108864<r14.t1[r14.t7.toNat]!.aN)then Q G else bif O (r14.t1[r14.t7.toNat]!.fN<0)then Q G else bif O (r14.t1[r14.t7.toNat]!.bN=4)then Q (O (4096<r14.t1[r14.t7.toNat]!.fN))else Q I with|V=>V|Q r18=>bif r18 then Q 3 else match bif O (0<(↑r14.t1[r14.t7.toNat]!.aK.length:Int))then if 0<=i64.wrap ((↑r14.t1[r14.t7.toNat]!.aK.length:Int)-(1:Int))/\i64.wrap ((↑r14.t1[r14.t7.toNat]!.aK.length:Int)-(1:Int))<(↑r14.t1[r14.t7.toNat]!.aK.length:Int)then Q (O (67108864<((r14.t1,r14.t2,(),r14.t7,()),r14.b0,()).fst.fst[((r14.t1,r14.t2,(),r14.t7,()),r14.b0,()).fst.snd.snd.snd.fst.toNat]!.aK[(i64.wrap ((↑((r14.t1,r14.t2,(),r14.t7,()),r14.b0,()).fst.fst[((r14.t1,r14.t2,(),r14.t7,()),r14.b0,()).fst.snd.snd.snd.fst.toNat]!.aK.length:Int)-1)).toNat]!))else V else Q I with|V=>V|Q r19=>bif r19 then Q 3 else match JL r14.b0.ai (ax.mk r14.t1[r14.t7.toNat]!.az.bf r14.t1[r14.t7.toNat]!.az.fN r14.t1[r14.t7.toNat]!.az.aq) I with|V=>V|Q r20=>bif bif O (r20=0)then I else G then Q (r20)else match M143 r14.b0 r14.t1[r14.t7.toNat]!.aD I with|V=>V|Q r21=>bif bif O (r21=0)then I else G then Q (r21)else match M143 r14.b0 r14.t1[r14.t7.toNat]!.aJ I with|V=>V|Q r22=>bif bif O (r22=0)then I else G then Q (r22)else V else match bif O (r14.t1[r14.t7.toNat]!.aN<0)then Q G else bif O (10000<r14.t1[r14.t7.toNat]!.aN)then Q G else bif O (r14.t1[r14.t7.toNat]!.fN<0)then Q G else bif O (r14.t1[r14.t7.toNat]!.bN=4)then Q (O (4096<r14.t1[r14.t7.toNat]!.fN))else Q I with|V=>V|Q r23=>bif r23 then Q 3 else match bif O (0<(↑r14.t1[r14.t7.toNat]!.aK.length:Int))then if 0<=i64.wrap ((↑r14.t1[r14.t7.toNat]!.aK.length:Int)-(1:Int))/\i64.wrap ((↑r14.t1[r14.t7.toNat]!.aK.length:Int)-(1:Int))<(↑r14.t1[r14.t7.toNat]!.aK.length:Int)then Q (O (67108864<((r14.t1,r14.t2,(),r14.t7,()),r14.b0,()).fst.fst[((r14.t1,r14.t2,(),r14.t7,()),r14.b0,()).fst.snd.snd.snd.fst.toNat]!.aK[(i64.wrap ((↑((r14.t1,r14.t2,(),r14.t7,()),r14.b0,()).fst.fst[((r14.t1,r14.t2,(),r14.t7,()),r14.b0,()).fst.snd.snd.snd.fst.toNat]!.aK.length:Int)-1)).toNat]!))else V else Q I with|V=>V|Q r24=>bif r24 then Q 3 else match JL r14.b0.ai (ax.mk r14.t1[r14.t7.toNat]!.az.bf r14.t1[r14.t7.toNat]!.az.fN r14.t1[r14.t7.toNat]!.az.aq) I with|V=>V|Q r25=>bif bif O (r25=0)then I else G then Q (r25)else match M143 r14.b0 r14.t1[r14.t7.toNat]!.aD I with|V=>V|Q r26=>bif bif O (r26=0)then I else G then Q (r26)else match M143 r14.b0 r14.t1[r14.t7.toNat]!.aJ I with|V=>V|Q r27=>bif bif O (r27=0)then I else G then Q (r27)else V else V else Q 0
def axJ(M143:aQ->(aa ay)->Bool->ah nD)(a0:aQ)(a1:aa ay)(a2:Bool):ct vi (adk M143) 300 (ahe M143) 143 (al2.c (a0,a1,a2,())) [] 0 d143.rd=acz M143 a0 a1 a2:=by kernel_rfl
def ahY:Nat->(aQ->(aa ay)->Bool->ah nD)
 |0=>(λ_ _ _=>V)
 |n+1=>(acz (ahY n))
def Og(n:Nat):aQ->(aa ay)->Bool->ah nD:=(ahY n)
def MF:∀n,aaS (Og n)
 |0=>λ_ _ h=>(by cases h)
 |n+1=>by
  have ih:=MF n;have i143:=ih;exact(fm (abP i143) (aqm (Og n)) (λ_=>by kernel_rfl) (λ_=>by kernel_rfl) λg=>axJ (Og n) g.1 g.2.1 g.2.2.1)
def aa5:aQ->(aa ay)->Bool->ah nD:=λa0 a1 a2=>lim (λn=>Og n a0 a1 a2)
def aaN:aaS aa5:=λg b h=>by
 obtain⟨n,hn⟩:=dG (show lim (λn=>Og n g.1 g.2.1 g.2.2.1)=Q b from h);exact(MF n) g b hn
def arS(F:bw):bw:=abY aa5 F
def aeg{F:bw}(h:bG vi F):bG vi (arS F):=SS aaN h
def F78:bw:=(arS (afC (afL (adq (aqH (aqB (e90 eB)))))))
structure GP where
 (t4 t6:Int)
 b0:aQ
 b1:dz
def Vb:Td 0 GP:= .c [] [1,4,5,6] (.r 0 2 (ec 1 (qp 0 0) (ec 4 aU (ec 5 (qp 1 0) (ec 6 aU en)))) (sb 0 26 (lg 26) (sb 1 139 (lg 139) sn)) (λz=>⟨z.1.2.1,z.1.t.2.1,z.2.1,z.t.1⟩) (λx=>(((),x.t4,(),x.t6,()),(x.b0,x.b1,()))))
def Sc(p:GP):ah (ah GP):=
 bif O (p.t6<p.t4)then if 0<=p.t6/\p.t6<p.b0.ak.length then bif p.b0.ak[p.t6.toNat]!.fName.toList==p.b1.fName.toList then Q (V)else Q (Q (GP.mk p.t4 (i64.wrap (p.t6+1)) p.b0 (dz.mk p.b1.fName p.b1.ag p.b1.af (ax.mk p.b1.az.bf p.b1.az.fN p.b1.az.aq))))else V else Q (V)
def MJ:=bJ (Sc)
structure Mi where
 t4:Int
 b0:aQ
def Wj:Td 0 Mi:= .c [] [1,4] (.r 0 1 (ec 1 (qp 0 0) (ec 4 aU en)) (sb 0 26 (lg 26) sn) (λz=>⟨z.1.2.1,z.2.1⟩) (λx=>(((),x.t4,()),(x.b0,()))))
def Gy(p:Mi):ah (ah Mi):=
 bif O (p.t4<p.b0.ak.length)then if 0<=p.t4/\p.t4<p.b0.ak.length then match Oa p.b0.ak[p.t4.toNat]!.fName with|V=>V|Q r1=>bif bif r1 then I else G then Q (V)else match MJ (GP.mk p.t4 0 p.b0 (dz.mk p.b0.ak[p.t4.toNat]!.fName p.b0.ak[p.t4.toNat]!.ag p.b0.ak[p.t4.toNat]!.af (ax.mk p.b0.ak[p.t4.toNat]!.az.bf p.b0.ak[p.t4.toNat]!.az.fN p.b0.ak[p.t4.toNat]!.az.aq)))with|V=>V|Q r2=>bif O (r2.t6<r2.t4)then if 0<=r2.t6/\r2.t6<r2.b0.ak.length then bif r2.b0.ak[r2.t6.toNat]!.fName.toList==r2.b1.fName.toList then Q (V)else V else V else bif bif H6 r2.b1.ag r2.b1.af then I else G then Q (V)else match JL r2.b0.ai (ax.mk r2.b1.az.bf r2.b1.az.fN r2.b1.az.aq) G with|V=>V|Q r3=>bif bif O (r3=0)then I else G then Q (V)else Q (Q (Mi.mk (i64.wrap (r2.t4+1)) r2.b0))else V else Q (V)
def ahI:An:=(noTwo (.two (noTwo (noTwo (.two (noTwo (Vb.lp MJ .no)) .no))) .no))
def Qn:=bJ (Gy)
abbrev E78:=Int
def d78:Td 0 E78:= .c [] [2] (.r 0 0 (ec 2 aU en) sn (λz=>z.1.1) (λx=>((x,()),(()))))
def avw:∀f∈([]:aa Nat),bA (F78) f:=aI
def m78(a0:aQ):ah E78:=
 match adA a0 with|V=>V|Q r4=>bif bif r4 then I else G then Q 4 else match aaI a0.ai with|V=>V|Q r5=>bif bif O (r5=0)then I else G then Q (r5)else match Qn (Mi.mk 0 a0)with|V=>V|Q r6=>bif O (r6.t4<r6.b0.ak.length)then if 0<=r6.t4/\r6.t4<r6.b0.ak.length then match Oa r6.b0.ak[r6.t4.toNat]!.fName with|V=>V|Q r7=>bif bif r7 then I else G then Q 7 else match MJ (GP.mk r6.t4 0 r6.b0 (dz.mk r6.b0.ak[r6.t4.toNat]!.fName r6.b0.ak[r6.t4.toNat]!.ag r6.b0.ak[r6.t4.toNat]!.af (ax.mk r6.b0.ak[r6.t4.toNat]!.az.bf r6.b0.ak[r6.t4.toNat]!.az.fN r6.b0.ak[r6.t4.toNat]!.az.aq)))with|V=>V|Q r8=>bif O (r8.t6<r8.t4)then if 0<=r8.t6/\r8.t6<r8.b0.ak.length then bif r8.b0.ak[r8.t6.toNat]!.fName.toList==r8.b1.fName.toList then Q 8 else V else V else bif bif H6 r8.b1.ag r8.b1.af then I else G then Q 3 else match JL r8.b0.ai (ax.mk r8.b1.az.bf r8.b1.az.fN r8.b1.az.aq) G with|V=>V|Q r9=>bif bif O (r9=0)then I else G then Q (r9)else V else V else match aa5 r6.b0 r6.b0.bI G with|V=>V|Q r10=>bif bif O (r10=0)then I else G then Q (r10)else match r90 r6.b0.bI with|V=>V|Q r11=>match bif O (4096<r11.fst)then Q G else bif O (8<r11.snd.fst)then Q G else Q (O (67108864<r11.snd.snd))with|V=>V|Q r12=>bif r12 then Q 4 else Q 0
def e78:=eL vi 78 I (lc (qg 26) ln) d78 (λg=>m78 g.1)
def IK:EO e78:=λh=>kL (F:=F78) (an:=(noTwo (noTwo (noTwo (noTwo (.two (noTwo (Wj.lp Qn ahI)) (noTwo (noTwo (noTwo (.two (.two (.rb [] 86) .no) .no)))))))))) (l:=[(bE f78 0,(Wj.lp Qn ahI)),(bE f78 1,(Vb.lp MJ .no)),(.skip,(.rb [] 86))]) func78 (aeg (S1 (Tk (RL (afz (aeb (Vk aY))))))) (aB (aO Wj) (aB (aO Vb) (aB avw aI))) h
def lN:EP e78:=λh=>kP h
def arU:bw:=eB
abbrev aqZ:=aH
def d103:Td 0 aqZ:= .c [] [0] (.r 0 1 (ec 0 (qp 0 0) en) (sb 0 34 (lg 34) sn) (λz=>z.2.1) (λx=>(((),()),(x,()))))
def atw:=ln
def ahZ:An:= .no
def sk:aqZ:=
 aH.mk (1) (0) (0)
def axr:ct vi (arU) 300 (ahZ) 103 (atw.c ()) [] 0 d103.rd=Q (sk):=by kernel_rfl
def akX:=eL vi 103 I atw d103 (λ_=>Q (sk))
def afm:EO akX:=λh=>kL (F:=arU) (an:=ahZ) func103 aY aI h (c:=λ_=>axr)
def Ur:EP akX:=λh=>kP h
def ajH:bw:=eB
abbrev anb:=Bool
def d162:Td 0 anb:= .c [] [2] (.r 0 0 (ec 2 qb en) sn (λz=>z.1.1) (λx=>((x,()),(()))))
def aqe:=(bg ln)
def ahO:An:=(noTwo (.two (.rb [] 2) .no))
def atG:∀f∈([]:aa Nat),bA (ajH) f:=aI
def oI(a0:Int):anb:=
 let r1:Bool:=bif O (-1099511627776<=a0)then O (a0<=1099511627776)else I;r1
def aw9(a0:Int):ct vi (ajH) 300 (ahO) 162 (aqe.c (a0,())) [] 0 d162.rd=Q (oI a0):=by
 refine Eq.trans (b:=(
  match bif O (-1099511627776<=a0)then Q (O (a0<=1099511627776))else Q (I)with|V=>V|Q r1=>Q (r1):ah anb)) (by kernel_rfl) ?_
 simp only[oI,cO,de]
def ajp:=eL vi 162 I aqe d162 (λg=>Q (oI g.1))
def agx:EO ajp:=λh=>kL (F:=ajH) (an:=ahO) (l:=[(.skip,(.rb [] 2))]) func162 aY (aB atG aI) h (c:=λg=>aw9 g.1)
def UF:EP ajp:=λh=>kP h
def F84:bw:=(ajp (akX eB))
abbrev E84:=Bool
def d84:Td 0 E84:= .c [] [2] (.r 0 0 (ec 2 qb en) sn (λz=>z.1.1) (λx=>((x,()),(()))))
def apl:∀f∈([162]:aa Nat),bA (F84) f:=(aB (UF (Ur bK)) aI)
def U4(a0:aH):ah E84:=
 bif bif O (a0.ag=sk.ag)then bif O (a0.af=sk.af)then bif O (a0.aj=sk.aj)then G else I else I else I then Q G else match bif bif oI a0.ag then I else G then Q G else Q (bif oI a0.af then I else G)with|V=>V|Q r1=>bif r1 then Q I else bif O (a0.ag=a0.af)then Q (O (a0.aj=0))else match bif O (a0.ag<a0.af)then bif O (1<=a0.aj)then if¬a0.aj=0then Q (O ((i64.wrap (a0.af-a0.ag)).tmod a0.aj=0))else V else Q I else Q I with|V=>V|Q r2=>Q (r2)
def e84:=eL vi 84 I (lc (qg 34) ln) d84 (λg=>U4 g.1)
def OQ:EO e84:=λh=>kL (F:=F84) (an:=(noTwo (noTwo (.two (.two (.rb [162] 15) .no) (noTwo (.two (.rb [162] 2) .no)))))) (l:=[(.skip,(.rb [162] 15)),(.skip,(.rb [162] 2))]) func84 (agx (afm aY)) (aB apl (aB apl aI)) h
def o4:EP e84:=λh=>kP h
def F32:bw:=(e84 eB)
abbrev E32:=Bool
def d32:Td 0 E32:= .c [] [4] (.r 0 0 (ec 4 qb en) sn (λz=>z.1.1) (λx=>((x,()),(()))))
def pu32:∀f∈([84]:aa Nat),bA (F32) f:=(aB (o4 bK) aI)
def m32(a0:aH)(a1:Int):ah E32:=
 match match U4 a0 with|V=>V|Q r1=>bif bif r1 then I else G then Q G else bif O (a1<a0.ag)then Q G else Q (O (a0.af<a1))with|V=>V|Q r2=>bif r2 then Q I else match bif O (a0.aj=0)then Q G else if¬a0.aj=0then Q (O ((i64.wrap (a1-a0.ag)).tmod a0.aj=0))else V with|V=>V|Q r3=>Q (r3)
def e32:=eL vi 32 I (lc (qg 34) (bg ln)) d32 (λg=>m32 g.1 g.2.1)
def Wi:EO e32:=λh=>kL (F:=F32) (an:=(noTwo (.two (.two (.rb [84] 19) .no) (.two (.rb [84] 4) .no)))) (l:=[(.skip,(.rb [84] 19)),(.skip,(.rb [84] 4))]) func32 (OQ aY) (aB pu32 (aB pu32 aI)) h
def pZ:EP e32:=λh=>kP h
abbrev E36:=aH
def m36(a0:Int):E36:=
 aH.mk a0 a0 (0)
abbrev avA:=aH×Int
def j6(a0:Int)(a1:Int)(a2:Int):ah avA:=
 match bif bif oI a0 then I else G then Q G else bif bif oI a1 then I else G then Q G else Q (O (a2<1))with|V=>V|Q r1=>bif r1 then Q (aH.mk 0 0 0,3)else bif O (a1<a0)then Q (sk,0)else if¬a2=0then bif O (a0=i64.wrap (a0+i64.wrap (i64.wrap ((i64.wrap (a1-a0)).tdiv a2)*a2)))then Q ((aH.mk a0 (i64.wrap (a0+i64.wrap (i64.wrap ((i64.wrap (a1-a0)).tdiv a2)*a2))) 0,0))else Q ((aH.mk a0 (i64.wrap (a0+i64.wrap (i64.wrap ((i64.wrap (a1-a0)).tdiv a2)*a2))) a2,0))else V
abbrev as4:=Bool
def d102:Td 0 as4:= .c [] [2] (.r 0 0 (ec 2 qb en) sn (λz=>z.1.1) (λx=>((x,()),(()))))
def lT(a0:aH):as4:=
 O (a0.af<a0.ag)
def amK:=eL vi 102 I (lc (qg 34) ln) d102 (λg=>Q (lT g.1))
def abI:EO amK:=λh=>kL (an:= .no) func102 aY aI h
def F8:EP amK:=λh=>kP h
abbrev E41:=aH
def m41(a0:aH)(a1:Int):ah E41:=
 match bif lT a0 then Q (G)else Q (O (a1<a0.ag))with|V=>V|Q r1=>bif r1 then Q (sk)else bif O (a0.af<=a1)then Q (a0)else match j6 a0.ag a1 a0.aj with|V=>V|Q r2=>Q (r2.fst)
abbrev E42:=aH
def U5(a0:aH)(a1:Int):ah E42:=
 match bif lT a0 then Q G else Q (O (a0.af<=a1))with|V=>V|Q r1=>bif r1 then Q (sk)else bif O (a1<a0.ag)then Q (a0)else if¬a0.aj=0then match j6 (i64.wrap (a0.ag+i64.wrap (i64.wrap (i64.wrap ((i64.wrap (a1-a0.ag)).tdiv a0.aj)+1)*a0.aj))) a0.af a0.aj with|V=>V|Q r2=>Q (r2.fst)else V
structure qd where
 (t0 t1:Int)
def tB(p:qd):ah (ah qd):=
 bif bif O (p.t1=0)then I else G then if¬p.t1=0then Q (Q (qd.mk p.t1 (p.t0.tmod p.t1)))else V else Q (V)
def PT:=bJ (tB)
abbrev awS:=Int
def Ez(a0:Int)(a1:Int):ah awS:=
 match PT (qd.mk a0 a1)with|V=>V|Q r1=>bif bif O (r1.t1=0)then I else G then if¬r1.t1=0then V else V else Q (r1.t0)
abbrev au4:=Int
def ke(a0:Int)(a1:Int):au4:=
 bif O (a0<a1)then i64.wrap (a1-a0)else i64.wrap (a0-a1)
structure kA where
 t0:List Int
 t6:Int
 (b0 b1:aH)
def sN(p:kA):ah (ah kA):=
 bif O (p.t6<p.t0.length)then if 0<=p.t6/\p.t6<p.t0.length then if(0:Int)<=(0:Int)/\(0:Int)<p.t0.length then match Ez p.b1.aj (ke p.t0[p.t6.toNat]! p.t0[0]!)with|V=>V|Q r1=>if 0<=p.t6/\p.t6<p.t0.length then bif O (((p.t0,(),(),p.t6,()),p.b0,p.b1,()).fst.fst[((p.t0,(),(),p.t6,()),p.b0,p.b1,()).fst.snd.snd.snd.fst.toNat]! <((p.t0,(),(),p.t6,()),p.b0,p.b1,()).snd.snd.fst.ag)then if 0<=p.t6/\p.t6<p.t0.length then if 0<=p.t6/\p.t6<p.t0.length then bif O (((p.t0,(),(),p.t6,()),p.b0,p.b1,()).snd.snd.fst.af<((p.t0,(),(),p.t6,()),p.b0,p.b1,()).fst.fst[((p.t0,(),(),p.t6,()),p.b0,p.b1,()).fst.snd.snd.snd.fst.toNat]!)then if 0<=p.t6/\p.t6<p.t0.length then Q (Q (kA.mk p.t0 (i64.wrap (p.t6+1)) p.b0 (aH.mk p.t0[p.t6.toNat]! p.t0[p.t6.toNat]! r1)))else V else Q (Q (kA.mk p.t0 (i64.wrap (p.t6+1)) p.b0 (aH.mk p.t0[p.t6.toNat]! p.b1.af r1)))else V else V else if 0<=p.t6/\p.t6<p.t0.length then bif O (((p.t0,(),(),p.t6,()),p.b0,p.b1,()).snd.snd.fst.af<((p.t0,(),(),p.t6,()),p.b0,p.b1,()).fst.fst[((p.t0,(),(),p.t6,()),p.b0,p.b1,()).fst.snd.snd.snd.fst.toNat]!)then if 0<=p.t6/\p.t6<p.t0.length then Q (Q (kA.mk p.t0 (i64.wrap (p.t6+1)) p.b0 (aH.mk p.b1.ag p.t0[p.t6.toNat]! r1)))else V else Q (Q (kA.mk p.t0 (i64.wrap (p.t6+1)) p.b0 (aH.mk p.b1.ag p.b1.af r1)))else V else V else V else V else Q (V)
def WE:=bJ (sN)
structure tH where
 t0:List Int
 t4:Int
 b0:aH
def Af(p:tH):ah (ah tH):=
 bif O (p.t4<p.t0.length)then if 0<=p.t4/\p.t4<p.t0.length then bif bif oI p.t0[p.t4.toNat]! then I else G then Q (V)else Q (Q (tH.mk p.t0 (i64.wrap (p.t4+1)) p.b0))else V else Q (V)
def Wy:=bJ (Af)
abbrev awo:=aH×Int
def Yh(a0:aa Int):ah awo:=
 match Wy (tH.mk a0 0 (aH.mk 0 0 0))with|V=>V|Q r2=>bif O (r2.t4<r2.t0.length)then if 0<=r2.t4/\r2.t4<r2.t0.length then bif bif oI r2.t0[r2.t4.toNat]! then I else G then Q (aH.mk 0 0 0,3)else V else V else bif O ((r2.t0.length:Int)=0)then Q (sk,0)else if(0:Int)<=(0:Int)/\(0:Int)<r2.t0.length then if(0:Int)<=(0:Int)/\(0:Int)<r2.t0.length then match WE (kA.mk r2.t0 1 r2.b0 (aH.mk r2.t0[0]! r2.t0[0]! (0)))with|V=>V|Q r3=>bif O (r3.t6<r3.t0.length)then if 0<=r3.t6/\r3.t6<r3.t0.length then if(0:Int)<=(0:Int)/\(0:Int)<r3.t0.length then match Ez r3.b1.aj (ke r3.t0[r3.t6.toNat]! r3.t0[0]!)with|V=>V|Q r4=>if 0<=r3.t6/\r3.t6<r3.t0.length then bif O (((r3.t0,(),(),r3.t6,()),r3.b0,r3.b1,()).fst.fst[((r3.t0,(),(),r3.t6,()),r3.b0,r3.b1,()).fst.snd.snd.snd.fst.toNat]! <((r3.t0,(),(),r3.t6,()),r3.b0,r3.b1,()).snd.snd.fst.ag)then if 0<=r3.t6/\r3.t6<r3.t0.length then if 0<=r3.t6/\r3.t6<r3.t0.length then bif O (((r3.t0,(),(),r3.t6,()),r3.b0,r3.b1,()).snd.snd.fst.af<((r3.t0,(),(),r3.t6,()),r3.b0,r3.b1,()).fst.fst[((r3.t0,(),(),r3.t6,()),r3.b0,r3.b1,()).fst.snd.snd.snd.fst.toNat]!)then if 0<=r3.t6/\r3.t6<r3.t0.length then V else V else V else V else V else if 0<=r3.t6/\r3.t6<r3.t0.length then bif O (((r3.t0,(),(),r3.t6,()),r3.b0,r3.b1,()).snd.snd.fst.af<((r3.t0,(),(),r3.t6,()),r3.b0,r3.b1,()).fst.fst[((r3.t0,(),(),r3.t6,()),r3.b0,r3.b1,()).fst.snd.snd.snd.fst.toNat]!)then if 0<=r3.t6/\r3.t6<r3.t0.length then V else V else V else V else V else V else V else Q (r3.b1,0)else V else V
abbrev awv:=aH
def lJ(a0:aH)(a1:aH):ah awv:=
 bif lT a0 then Q (a1)else bif lT a1 then Q (a0)else match Yh [a0.ag,a0.af,a1.ag,a1.af]with|V=>V|Q r1=>bif O (r1.fst.ag<r1.fst.af)then match Ez a0.aj a1.aj with|V=>V|Q r2=>match Ez r2 (ke a0.ag a1.ag)with|V=>V|Q r3=>Q (aH.mk r1.fst.ag r1.fst.af r3)else Q (r1.fst)
abbrev E86:=aH×Int
def m86(a0:aH)(a1:Int)(a2:Int):ah E86:=
 match U4 a0 with|V=>V|Q r1=>bif bif r1 then I else G then Q ((aH.mk (0) (0) (0),1))else match bif bif oI a1 then I else G then Q (G)else bif bif oI a2 then I else G then Q (G)else Q (O (a2<a1))with|V=>V|Q r2=>bif r2 then Q ((aH.mk (0) (0) (0),3))else match U5 a0 (i64.wrap (a1-1))with|V=>V|Q r3=>match m41 r3 a2 with|V=>V|Q r4=>match m41 a0 a1 with|V=>V|Q r5=>bif bif lT r5 then I else G then match lJ r4 (aH.mk a1 a1 (0))with|V=>V|Q r6=>match U5 a0 a2 with|V=>V|Q r7=>bif bif lT r7 then I else G then match lJ r6 (aH.mk a2 a2 (0))with|V=>V|Q r8=>Q ((r8,0))else Q ((r6,0))else match U5 a0 a2 with|V=>V|Q r9=>bif bif lT r9 then I else G then match lJ r4 (aH.mk a2 a2 (0))with|V=>V|Q r10=>Q ((r10,0))else Q ((r4,0))
def F43:bw:=(amK (e84 eB))
abbrev E43:=Int
def d43:Td 0 E43:= .c [] [2] (.r 0 0 (ec 2 aU en) sn (λz=>z.1.1) (λx=>((x,()),(()))))
def au2:∀f∈([84,102]:aa Nat),bA (F43) f:=(aB (F8 (o4 bK)) (aB (F8 (o4 bK)) aI))
def Fi(a0:aH):ah E43:=
 match match U4 a0 with|V=>V|Q r1=>bif bif r1 then I else G then Q G else Q (lT a0)with|V=>V|Q r2=>bif r2 then Q 0 else bif O (a0.aj=0)then Q 1 else if¬a0.aj=0then Q (i64.wrap (i64.wrap ((i64.wrap (a0.af-a0.ag)).tdiv a0.aj)+1))else V
def e43:=eL vi 43 I (lc (qg 34) ln) d43 (λg=>Fi g.1)
def ajK:EO e43:=λh=>kL (F:=F43) (an:=(noTwo (.two (.two (.rb [84,102] 9) .no) .no))) (l:=[(.skip,(.rb [84,102] 9))]) func43 (abI (OQ aY)) (aB au2 aI) h
def Lz:EP e43:=λh=>kP h
abbrev axj:=Bool×Bool
def FB(a0:aH):ah axj:=
 match m32 a0 (0)with|V=>V|Q r1=>match Fi a0 with|V=>V|Q r2=>bif O (1<r2)then Q ((r1,G))else match Fi a0 with|V=>V|Q r3=>bif O (r3=1)then Q ((r1,bif r1 then I else G))else Q ((r1,I))
abbrev avS:=aH
def j4(a0:Bool)(a1:Bool):avS:=
 let r1:Bool:=bif a0 then a1 else I;bif r1 then aH.mk (0) (1) (1)else bif a1 then aH.mk (1) (1) (0)else aH.mk (0) (0) (0)
abbrev auN:=aH×Int
def ar6(a0:Int)(a1:aH):ah auN:=
 match match U4 a1 with|V=>V|Q r1=>bif bif r1 then I else G then Q (G)else bif bif O (a0=6)then I else G then Q (bif O (a0=7)then I else G)else Q (I)with|V=>V|Q r2=>bif r2 then Q ((aH.mk (0) (0) (0),1))else bif lT a1 then Q ((sk,0))else bif O (a0=6)then Q ((aH.mk (i64.wrap (0-a1.af)) (i64.wrap (0-a1.ag)) a1.aj,0))else match FB a1 with|V=>V|Q r3=>Q ((j4 r3.snd r3.fst,0))
abbrev axH:=Bool
def Ke(a0:Int):axH:=
 bif O (a0=8)then G else bif O (a0=9)then G else bif O (a0=10)then G else bif O (a0=11)then G else bif O (a0=12)then G else bif O (a0=13)then G else bif O (a0=14)then G else bif O (a0=15)then G else bif O (a0=16)then G else bif O (a0=17)then G else bif O (a0=18)then G else bif O (a0=19)then G else bif O (a0=20)then G else bif O (a0=21)then G else bif O (a0=22)then G else I
abbrev awA:=Int×Bool
def amp(a0:Int)(a1:Int):ah awA:=
 match bif bif O (a0=0)then I else G then bif bif O (a1=0)then I else G then if¬ke a1 ((0:Int))=0then Q (O (i64.wrap ((1099511627776:Int).tdiv (ke a1 0))<ke a0 0))else V else Q I else Q I with|V=>V|Q r1=>bif r1 then Q (0,I)else Q ((i64.wrap (a0*a1),G))
abbrev axk:=Int
def amD(a0:Int)(a1:Int):ah axk:=
 bif O (a1=0)then Q 0 else if¬a1=0then match if¬a1=0then bif bif O (a0.tmod a1=0)then I else G then Q (bif O (a0<0)==O (a1<0)then I else G)else Q I else V with|V=>V|Q r1=>bif r1 then Q (i64.wrap (i64.wrap (a0.tdiv a1)-1))else Q (i64.wrap (a0.tdiv a1))else V
abbrev auC:=Int
def CQ(a0:Bool):auC:=
 bif a0 then 1 else 0
abbrev awI:=Int×Bool
def Fs(a0:Int)(a1:Int)(a2:Int):ah awI:=
 bif O (a0=8)then Q ((i64.wrap (a1+a2),oI (i64.wrap (a1+a2))))else bif O (a0=9)then Q ((i64.wrap (a1-a2),oI (i64.wrap (a1-a2))))else bif O (a0=10)then match amp a1 a2 with|V=>V|Q r1=>Q (r1)else bif O (a0=11)then match amD a1 a2 with|V=>V|Q r2=>Q ((r2,G))else bif O (a0=12)then bif O (a2=0)then Q ((0,G))else match amD a1 a2 with|V=>V|Q r3=>Q ((i64.wrap (a1-i64.wrap (a2*r3)),G))else bif O (a0=13)then Q ((CQ (O (a1=a2)),G))else bif O (a0=14)then Q ((CQ (bif O (a1=a2)then I else G),G))else bif O (a0=15)then Q ((CQ (O (a1<a2)),G))else bif O (a0=16)then Q ((CQ (O (a1<=a2)),G))else bif O (a0=17)then Q ((CQ (O (a2<a1)),G))else bif O (a0=18)then Q ((CQ (O (a2<=a1)),G))else bif O (a0=19)then bif bif O (a1=0)then I else G then Q ((CQ (bif O (a2=0)then I else G),G))else Q ((CQ I,G))else bif O (a0=20)then bif bif O (a1=0)then I else G then Q ((CQ G,G))else Q ((CQ (bif O (a2=0)then I else G),G))else bif O (a0=21)then bif O (a1<a2)then Q ((a1,G))else Q ((a2,G))else bif O (a2<a1)then Q ((a1,G))else Q ((a2,G))
abbrev awB:=Int
def HC(a0:aH)(a1:Int):awB:=
 i64.wrap (a0.ag+i64.wrap (a1*a0.aj))
structure jj where
 t0:Int
 t8:List Int
 (t9 t10:Int)
 (b0 b1 b2:aH)
def EF(p:jj):ah (ah jj):=
 match Fi p.b1 with|V=>V|Q r5=>bif O (p.t10<r5)then match Fs p.t0 (HC p.b0 p.t9) (HC p.b1 p.t10)with|V=>V|Q r6=>bif bif r6.snd then I else G then Q (V)else if(p.t8++[r6.fst]).length<=1073741824 then Q (Q (jj.mk p.t0 (p.t8++[r6.fst]) p.t9 (i64.wrap (p.t10+1)) p.b0 p.b1 p.b2))else V else Q (V)
def Du:=bJ (EF)
structure sR where
 t0:Int
 t8:List Int
 t9:Int
 (b0 b1 b2:aH)
def AS(p:sR):ah (ah sR):=
 match Fi p.b0 with|V=>V|Q r1=>bif O (p.t9<r1)then match Du (jj.mk p.t0 p.t8 p.t9 (0) p.b0 p.b1 p.b2)with|V=>V|Q r2=>match Fi r2.b1 with|V=>V|Q r3=>bif O (r2.t10<r3)then match Fs r2.t0 (HC r2.b0 r2.t9) (HC r2.b1 r2.t10)with|V=>V|Q r4=>bif bif r4.snd then I else G then Q (V)else if(r2.t8++[r4.fst]).length<=1073741824 then V else V else Q (Q (sR.mk r2.t0 r2.t8 (i64.wrap (r2.t9+1)) r2.b0 r2.b1 r2.b2))else Q (V)
def WJ:=bJ (AS)
abbrev avR:=aH×Int
def Ui(a0:Int)(a1:aH)(a2:aH):ah avR:=
 match WJ (sR.mk a0 [] (0) a1 a2 (aH.mk (0) (0) (0)))with|V=>V|Q r7=>match Fi r7.b0 with|V=>V|Q r8=>bif O (r7.t9<r8)then match Du (jj.mk r7.t0 r7.t8 r7.t9 (0) r7.b0 r7.b1 r7.b2)with|V=>V|Q r9=>match Fi r9.b1 with|V=>V|Q r10=>bif O (r9.t10<r10)then match Fs r9.t0 (HC r9.b0 r9.t9) (HC r9.b1 r9.t10)with|V=>V|Q r11=>bif bif r11.snd then I else G then Q ((aH.mk (0) (0) (0),3))else if(r9.t8++[r11.fst]).length<=1073741824 then V else V else V else match Yh r7.t8 with|V=>V|Q r12=>Q (r12)
structure jh where
 t0:Int
 (t8 t9 t10:List Int)
 (t11 t12:Int)
 b0:aH
def DP(p:jh):ah (ah jh):=
 bif O (p.t12<3)then if 0<=p.t11/\p.t11<p.t9.length then if 3=3/\p.t11.toNat<p.t9.length then if 0<=p.t12/\p.t12<p.t10.length then if 3=3/\p.t12.toNat<p.t10.length then match Fs p.t0 p.t9[p.t11.toNat]! p.t10[p.t12.toNat]! with|V=>V|Q r3=>bif bif r3.snd then I else G then Q (V)else if(p.t8++[r3.fst]).length<=1073741824 then Q (Q (jh.mk p.t0 (p.t8++[r3.fst]) p.t9 p.t10 p.t11 (i64.wrap (p.t12+1)) p.b0))else V else V else V else V else V else Q (V)
def Er:=bJ (DP)
structure s8 where
 t0:Int
 (t8 t9 t10:List Int)
 t11:Int
 b0:aH
def Az(p:s8):ah (ah s8):=
 bif O (p.t11<3)then match Er (jh.mk p.t0 p.t8 p.t9 p.t10 p.t11 0 p.b0)with|V=>V|Q r1=>bif O (r1.t12<3)then if 0<=r1.t11/\r1.t11<r1.t9.length then if 3=3/\r1.t11.toNat<r1.t9.length then if 0<=r1.t12/\r1.t12<r1.t10.length then if 3=3/\r1.t12.toNat<r1.t10.length then match Fs r1.t0 r1.t9[r1.t11.toNat]! r1.t10[r1.t12.toNat]! with|V=>V|Q r2=>bif bif r2.snd then I else G then Q (V)else if(r1.t8++[r2.fst]).length<=1073741824 then V else V else V else V else V else V else Q (Q (s8.mk r1.t0 r1.t8 r1.t9 r1.t10 (i64.wrap (r1.t11+1)) r1.b0))else Q (V)
def X7:=bJ (Az)
abbrev awh:=aH×Int
def rR(a0:Int)(a1:aH)(a2:aH):ah awh:=
 match X7 (s8.mk a0 [] [a1.ag,i64.wrap (a1.ag+a1.aj),a1.af] [a2.ag,i64.wrap (a2.ag+a2.aj),a2.af] (0) (aH.mk 0 0 0))with|V=>V|Q r4=>bif O (r4.t11<3)then match Er (jh.mk r4.t0 r4.t8 r4.t9 r4.t10 r4.t11 0 r4.b0)with|V=>V|Q r5=>bif O (r5.t12<3)then if 0<=r5.t11/\r5.t11<r5.t9.length then if 3=3/\r5.t11.toNat<r5.t9.length then if 0<=r5.t12/\r5.t12<r5.t10.length then if 3=3/\r5.t12.toNat<r5.t10.length then match Fs r5.t0 r5.t9[r5.t11.toNat]! r5.t10[r5.t12.toNat]! with|V=>V|Q r6=>bif bif r6.snd then I else G then Q (aH.mk 0 0 0,3)else if(r5.t8++[r6.fst]).length<=1073741824 then V else V else V else V else V else V else V else match Yh r4.t8 with|V=>V|Q r7=>Q (r7)
abbrev PJ:=Bool
structure jM where
 (t6 t7 t8 t9:Int)
 (b0 b1:aH)
def Ao(M286:aH->aH->ah PJ)(p:jM):ah (ah jM):=
 match if¬p.t7=0then bif O (p.t9<i64.wrap (p.b1.aj.tdiv p.t7))then Q (O (p.t8<=p.t6))else Q I else V with|V=>V|Q r1=>bif r1 then match m32 p.b1 p.t8 with|V=>V|Q r2=>bif r2 then Q (V)else Q (Q (jM.mk p.t6 p.t7 (i64.wrap (p.t8+p.b0.aj)) (i64.wrap (p.t9+1)) p.b0 p.b1))else Q (V)
def tG(M286:aH->aH->ah PJ):=bJ (Ao M286)
def Zk(M286:aH->aH->ah PJ)(a0:aH)(a1:aH):ah PJ:=
 match Fi a0 with|V=>V|Q r3=>match Fi a1 with|V=>V|Q r4=>bif O (r4<r3)then match M286 a1 a0 with|V=>V|Q r5=>Q (r5)else match Fi a0 with|V=>V|Q r6=>bif O (r6=1)then match m32 a1 a0.ag with|V=>V|Q r7=>Q (r7)else bif O (a0.ag<a1.ag)then bif O (a1.af<a0.af)then match Ez a0.aj a1.aj with|V=>V|Q r8=>match bif O (a1.af<a1.ag)then Q G else if¬r8=0then Q (bif O (Int.tmod (ke a0.ag a1.ag) r8=0)then I else G)else V with|V=>V|Q r9=>bif r9 then Q I else if¬a0.aj=0then match tG M286 (jM.mk a1.af r8 (i64.wrap (a0.ag+i64.wrap (i64.wrap ((i64.wrap (i64.wrap (i64.wrap (a1.ag-a0.ag)+a0.aj)-1)).tdiv a0.aj)*a0.aj))) 0 a0 a1)with|V=>V|Q r10=>match if¬r10.t7=0then bif O (r10.t9<i64.wrap (r10.b1.aj.tdiv r10.t7))then Q (O (r10.t8<=r10.t6))else Q I else V with|V=>V|Q r11=>bif r11 then match m32 r10.b1 r10.t8 with|V=>V|Q r12=>bif r12 then Q G else V else Q I else V else match Ez a0.aj a1.aj with|V=>V|Q r13=>match bif O (a0.af<a1.ag)then Q G else if¬r13=0then Q (bif O (Int.tmod (ke a0.ag a1.ag) r13=0)then I else G)else V with|V=>V|Q r14=>bif r14 then Q I else if¬a0.aj=0then match tG M286 (jM.mk a0.af r13 (i64.wrap (a0.ag+i64.wrap (i64.wrap ((i64.wrap (i64.wrap (i64.wrap (a1.ag-a0.ag)+a0.aj)-1)).tdiv a0.aj)*a0.aj))) 0 a0 a1)with|V=>V|Q r15=>match if¬r15.t7=0then bif O (r15.t9<i64.wrap (r15.b1.aj.tdiv r15.t7))then Q (O (r15.t8<=r15.t6))else Q I else V with|V=>V|Q r16=>bif r16 then match m32 r15.b1 r15.t8 with|V=>V|Q r17=>bif r17 then Q G else V else Q I else V else bif O (a1.af<a0.af)then match Ez a0.aj a1.aj with|V=>V|Q r18=>match bif O (a1.af<a0.ag)then Q G else if¬r18=0then Q (bif O (Int.tmod (ke a0.ag a1.ag) r18=0)then I else G)else V with|V=>V|Q r19=>bif r19 then Q I else if¬a0.aj=0then match tG M286 (jM.mk a1.af r18 (i64.wrap (a0.ag+i64.wrap (i64.wrap ((i64.wrap (i64.wrap (i64.wrap (a0.ag-a0.ag)+a0.aj)-1)).tdiv a0.aj)*a0.aj))) 0 a0 a1)with|V=>V|Q r20=>match if¬r20.t7=0then bif O (r20.t9<i64.wrap (r20.b1.aj.tdiv r20.t7))then Q (O (r20.t8<=r20.t6))else Q I else V with|V=>V|Q r21=>bif r21 then match m32 r20.b1 r20.t8 with|V=>V|Q r22=>bif r22 then Q G else V else Q I else V else match Ez a0.aj a1.aj with|V=>V|Q r23=>match bif O (a0.af<a0.ag)then Q G else if¬r23=0then Q (bif O (Int.tmod (ke a0.ag a1.ag) r23=0)then I else G)else V with|V=>V|Q r24=>bif r24 then Q I else if¬a0.aj=0then match tG M286 (jM.mk a0.af r23 (i64.wrap (a0.ag+i64.wrap (i64.wrap ((i64.wrap (i64.wrap (i64.wrap (a0.ag-a0.ag)+a0.aj)-1)).tdiv a0.aj)*a0.aj))) 0 a0 a1)with|V=>V|Q r25=>match if¬r25.t7=0then bif O (r25.t9<i64.wrap (r25.b1.aj.tdiv r25.t7))then Q (O (r25.t8<=r25.t6))else Q I else V with|V=>V|Q r26=>bif r26 then match m32 r25.b1 r25.t8 with|V=>V|Q r27=>bif r27 then Q G else V else Q I else V
def Gr:Nat->(aH->aH->ah PJ)
 |0=>(λ_ _=>V)
 |n+1=>(Zk (Gr n))
def awD(n:Nat):aH->aH->ah PJ:=(Gr n)
def amR:aH->aH->ah PJ:=λa0 a1=>lim (λn=>awD n a0 a1)
abbrev awN:=aH
def BE(a0:Int)(a1:aH)(a2:aH):ah awN:=
 bif O (a0=13)then match amR a1 a2 with|V=>V|Q r1=>bif bif bif O (a1.ag=a2.ag)then bif O (a1.af=a2.af)then bif O (a1.aj=a2.aj)then G else I else I else I then I else G then bif O (a0=14)then Q (j4 r1 G)else Q (j4 G r1)else match Fi a1 with|V=>V|Q r2=>bif O (a0=14)then Q (j4 r1 (O (1<((r2,()),()).fst.fst)))else Q (j4 (O (1<((r2,()),()).fst.fst)) r1)else bif O (a0=14)then match amR a1 a2 with|V=>V|Q r3=>bif bif bif O (a1.ag=a2.ag)then bif O (a1.af=a2.af)then bif O (a1.aj=a2.aj)then G else I else I else I then I else G then bif O (a0=14)then Q (j4 r3 G)else Q (j4 G r3)else match Fi a1 with|V=>V|Q r4=>bif O (a0=14)then Q (j4 r3 (O (1<((r4,()),()).fst.fst)))else Q (j4 (O (1<((r4,()),()).fst.fst)) r3)else bif O (a0=15)then Q (j4 (O (a2.ag<=a1.af)) (O (a1.ag<a2.af)))else bif O (a0=16)then Q (j4 (O (a2.ag<a1.af)) (O (a1.ag<=a2.af)))else bif O (a0=17)then Q (j4 (O (a1.ag<=a2.af)) (O (a2.ag<a1.af)))else bif O (a0=18)then Q (j4 (O (a1.ag<a2.af)) (O (a2.ag<=a1.af)))else match FB a1 with|V=>V|Q r5=>match FB a2 with|V=>V|Q r6=>bif O (a0=19)then bif r5.snd then bif r5.fst then Q (j4 G r6.snd)else Q (j4 r6.fst r6.snd)else bif r5.fst then Q (j4 G I)else Q (j4 r6.fst I)else bif r5.snd then bif r5.fst then Q (j4 r6.fst G)else Q (j4 I G)else bif r5.fst then Q (j4 r6.fst r6.snd)else Q (j4 I r6.snd)
abbrev aw4:=aH×Int
def nr(a0:Int)(a1:aH)(a2:aH):ah aw4:=
 match match U4 a1 with|V=>V|Q r1=>bif bif r1 then I else G then Q G else match U4 a2 with|V=>V|Q r2=>bif bif r2 then I else G then Q G else Q (bif Ke a0 then I else G)with|V=>V|Q r3=>bif r3 then Q (aH.mk 0 0 0,1)else match bif lT a1 then Q G else Q (lT a2)with|V=>V|Q r4=>bif r4 then Q (sk,0)else match Fi a1 with|V=>V|Q r5=>match Fi a2 with|V=>V|Q r6=>if¬r6=0then bif O (r5<=i64.wrap ((4096:Int).tdiv r6))then match Ui a0 a1 a2 with|V=>V|Q r7=>Q (r7)else bif O (a0=8)then match rR a0 a1 a2 with|V=>V|Q r8=>Q (r8)else bif O (a0=9)then match rR a0 a1 a2 with|V=>V|Q r9=>Q (r9)else bif O (a0=10)then match rR a0 a1 a2 with|V=>V|Q r10=>Q (r10)else bif O (a0=11)then bif O (ke a1.ag 0<ke a1.af 0)then match bif O (0<=a1.ag)then Q (O (0<=a2.ag))else Q I with|V=>V|Q r11=>bif r11 then match j6 0 (ke a1.af 0) 1with|V=>V|Q r12=>Q (r12)else match j6 (i64.wrap (0-ke a1.af 0)) (ke a1.af 0) 1with|V=>V|Q r13=>Q (r13)else match bif O (0<=a1.ag)then Q (O (0<=a2.ag))else Q I with|V=>V|Q r14=>bif r14 then match j6 0 (ke a1.ag 0) 1with|V=>V|Q r15=>Q (r15)else match j6 (i64.wrap (0-ke a1.ag 0)) (ke a1.ag 0) 1with|V=>V|Q r16=>Q (r16)else bif O (a0=12)then bif O (a2.ag<0)then bif O (0<a2.af)then match j6 (i64.wrap (a2.ag+1)) (i64.wrap (a2.af-1)) 1with|V=>V|Q r17=>Q (r17)else match j6 (i64.wrap (a2.ag+1)) 0 1with|V=>V|Q r18=>Q (r18)else bif O (0<a2.af)then match j6 0 (i64.wrap (a2.af-1)) 1with|V=>V|Q r19=>Q (r19)else match j6 0 0 1with|V=>V|Q r20=>Q (r20)else bif O (a0=21)then match Fs a0 a1.af a2.af with|V=>V|Q r21=>match lJ a1 a2 with|V=>V|Q r22=>match m41 r22 r21.fst with|V=>V|Q r23=>Q (r23,0)else bif O (a0=22)then match Fs a0 a1.ag a2.ag with|V=>V|Q r24=>match lJ a1 a2 with|V=>V|Q r25=>match U5 r25 (i64.wrap (r24.fst-1))with|V=>V|Q r26=>Q (r26,0)else match BE a0 a1 a2 with|V=>V|Q r27=>Q (r27,0)else V
abbrev E87:=aH
structure J9 where
 (t107 t108:Int)
 b0:aM
 b1:ax
 (b2 b3 b4:aH)
def asp(M87:aM->ax->ah E87)(p:J9):ah (ah J9):=
 bif O (p.t108<p.t107)then match m32 p.b3 p.t108 with|V=>V|Q r1=>bif r1 then if 0<=i64.wrap ((1:Int)+p.t108)/\i64.wrap ((1:Int)+p.t108)<p.b1.aq.length then match M87 p.b0 (ax.mk p.b1.aq[(i64.wrap (1+p.t108)).toNat]!.bf p.b1.aq[(i64.wrap (1+p.t108)).toNat]!.fN p.b1.aq[(i64.wrap (1+p.t108)).toNat]!.aq)with|V=>V|Q r2=>match lJ p.b4 r2 with|V=>V|Q r3=>Q (Q (J9.mk p.t107 (i64.wrap (p.t108+1)) p.b0 (ax.mk p.b1.bf p.b1.fN p.b1.aq) p.b2 p.b3 r3))else V else Q (Q (J9.mk p.t107 (i64.wrap (p.t108+1)) p.b0 (ax.mk p.b1.bf p.b1.fN p.b1.aq) p.b2 p.b3 p.b4))else Q (V)
def apo(M87:aM->ax->ah E87):=bJ (asp M87)
def s87(M87:aM->ax->ah E87)(a0:aM)(a1:ax):ah E87:=
 bif O (a1.bf=0)then Q (m36 a1.fN)else bif O (a1.bf=24)then if 0<=a1.fN/\a1.fN<a0.ai.length then Q (a0.ai[a1.fN.toNat]!)else V else bif O (a1.bf=6)then if(0:Int)<=(0:Int)/\(0:Int)<a1.aq.length then match M87 a0 (ax.mk a1.aq[0]!.bf a1.aq[0]!.fN a1.aq[0]!.aq)with|V=>V|Q r4=>match ar6 a1.bf r4 with|V=>V|Q r5=>Q (r5.fst)else V else bif O (a1.bf=7)then if(0:Int)<=(0:Int)/\(0:Int)<a1.aq.length then match M87 a0 (ax.mk a1.aq[0]!.bf a1.aq[0]!.fN a1.aq[0]!.aq)with|V=>V|Q r6=>match ar6 a1.bf r6 with|V=>V|Q r7=>Q (r7.fst)else V else bif O (a1.bf=23)then if(0:Int)<=(0:Int)/\(0:Int)<a1.aq.length then match M87 a0 (ax.mk a1.aq[0]!.bf a1.aq[0]!.fN a1.aq[0]!.aq)with|V=>V|Q r8=>match FB r8 with|V=>V|Q r9=>bif bif r9.fst then I else G then if(0:Int)<=(1:Int)/\(1:Int)<a1.aq.length then match M87 a0 (ax.mk a1.aq[1]!.bf a1.aq[1]!.fN a1.aq[1]!.aq)with|V=>V|Q r10=>Q (r10)else V else bif bif r9.snd then I else G then if(0:Int)<=(2:Int)/\(2:Int)<a1.aq.length then match M87 a0 (ax.mk a1.aq[2]!.bf a1.aq[2]!.fN a1.aq[2]!.aq)with|V=>V|Q r11=>Q (r11)else V else if(0:Int)<=(1:Int)/\(1:Int)<a1.aq.length then match M87 a0 (ax.mk a1.aq[1]!.bf a1.aq[1]!.fN a1.aq[1]!.aq)with|V=>V|Q r12=>if(0:Int)<=(2:Int)/\(2:Int)<a1.aq.length then match M87 a0 (ax.mk a1.aq[2]!.bf a1.aq[2]!.fN a1.aq[2]!.aq)with|V=>V|Q r13=>match lJ r12 r13 with|V=>V|Q r14=>Q (r14)else V else V else V else bif O (a1.bf=25)then if(0:Int)<=(0:Int)/\(0:Int)<a1.aq.length then match M87 a0 (ax.mk a1.aq[0]!.bf a1.aq[0]!.fN a1.aq[0]!.aq)with|V=>V|Q r15=>match m86 r15 0 (i64.wrap ((a1.aq.length:Int)-2))with|V=>V|Q r16=>match apo M87 (J9.mk (i64.wrap ((a1.aq.length:Int)-1)) 0 a0 (ax.mk a1.bf a1.fN a1.aq) (aH.mk 0 0 0) r16.fst sk)with|V=>V|Q r17=>bif O (r17.t108<r17.t107)then match m32 r17.b3 r17.t108 with|V=>V|Q r18=>bif r18 then if 0<=i64.wrap ((1:Int)+r17.t108)/\i64.wrap ((1:Int)+r17.t108)<r17.b1.aq.length then match M87 r17.b0 (ax.mk r17.b1.aq[(i64.wrap (1+r17.t108)).toNat]!.bf r17.b1.aq[(i64.wrap (1+r17.t108)).toNat]!.fN r17.b1.aq[(i64.wrap (1+r17.t108)).toNat]!.aq)with|V=>V|Q r19=>match lJ r17.b4 r19 with|V=>V|Q r20=>V else V else V else Q (r17.b4)else V else if(0:Int)<=(0:Int)/\(0:Int)<a1.aq.length then match M87 a0 (ax.mk a1.aq[0]!.bf a1.aq[0]!.fN a1.aq[0]!.aq)with|V=>V|Q r21=>if(0:Int)<=(1:Int)/\(1:Int)<a1.aq.length then match M87 a0 (ax.mk a1.aq[1]!.bf a1.aq[1]!.fN a1.aq[1]!.aq)with|V=>V|Q r22=>match nr a1.bf r21 r22 with|V=>V|Q r23=>Q (r23.fst)else V else V
def ar7:Nat->(aM->ax->ah E87)
 |0=>(λ_ _=>V)
 |n+1=>(s87 (ar7 n))
def m87(n:Nat):aM->ax->ah E87:=(ar7 n)
def ZQ:aM->ax->ah E87:=λa0 a1=>lim (λn=>m87 n a0 a1)
end Go.Proofs.YtnfljbehcffmcaaGreat
end
noncomputable section
namespace Go.Iv
open Go
variable [U:sF] [L:n7]
def aG{n:Int}(h1: -9223372036854775808<=n:=by omega)(h2:n<9223372036854775808:=by omega):IntKind.i64.wrap n=n:=by
 simp[IntKind.wrap,IntKind.bits,IntKind.signed];omega
def Mf{γ:Type}{cL:γ->ah (ah γ)}(f:Nat->γ)(n:Nat)(h1:∀i,i<n->cL (f i)=Q (Q (f (i+1))))(h2:∀r,cL (f n)≠Q (Q r)):bJ cL (f 0)=Q (f n):=by
 have key:∀k i,i+k=n->bJ cL (f i)=Q (f n):=by
  intro k;induction k with
  |zero=>
   intro i hi;have:i=n:=by omega
   subst this;exact cF h2
  |succ k ih=>intro i hi;rw[bU (h1 i (by omega))];exact ih (i+1) (by omega)
 exact key n 0 (by omega)
def kF{α β ρ:Type}(step:β->α->ah β)(ret:β->α->ρ)(fin:β->ρ):aa α->β->ρ
 |[],b=>fin b
 |x::xs,b=>match step b x with
  |some b'=>kF step ret fin xs b'
  |none=>ret b x
def GI{γ α β ρ:Type}{cL:γ->ah (ah γ)}(l:aa α)(mk:Nat->β->γ)(step:β->α->ah β)(ret:β->α->ρ)(fin:β->ρ)(zf:Nat->β->Prop)
  (h1:∀i b (hi:i<l.length),zf i b->∀b',step b l[i]=Q b'->cL (mk i b)=Q (Q (mk (i+1) b'))/\zf (i+1) b')
  (h2:∀i b (hi:i<l.length),zf i b->step b l[i]=V->∀r,cL (mk i b)≠Q (Q r)) (h3:∀b,zf l.length b->∀r,cL (mk l.length b)≠Q (Q r)) {b:β} (hb:zf 0 b):
  ∃i v,i<=l.length/\bJ cL (mk 0 b)=Q (mk i v)/\zf i v/\((i=l.length/\kF step ret fin l b=fin v)\/∃hi:i<l.length,step v l[i]=V/\kF step ret fin l b=ret v l[i]):=by
 have key:∀(xs:aa α) (i:Nat) (b:β),l.drop i=xs->i<=l.length->zf i b->∃j v,j<=l.length/\bJ cL (mk i b)=Q (mk j v)/\zf j v/\((j=l.length/\kF step ret fin xs b=fin v)\/∃hi:j<l.length,step v l[j]=V/\kF step ret fin xs b=ret v l[j]):=by
  intro xs;induction xs with
  |nil=>
   intro i b hd hi hb;have:i=l.length:=by have:=congrArg yC hd;simp at this;omega
   subst this;exact⟨_,b,zI _,cF (h3 b hb),hb, .inl ⟨rfl,rfl⟩⟩
  |cons x xs ih=>
   intro i b hd hi hb;have hil:i<l.length:=by have:=congrArg yC hd;simp at this;omega
   have hx:l[i]=x:=by
    have:=congrArg List.head? hd;rw[List.head?_drop,zw hil]at this;simpa using this
   have hd':l.drop (i+1)=xs:=by
    have:=congrArg List.tail hd;rw[List.tail_drop]at this;simpa using this
   cases hs:step b x with
   |some b'=>
    obtain⟨q1,q2⟩:=h1 i b hil hb b' (by rw[hx];exact hs);obtain⟨j,v,e1,e2,e3,e4⟩:=ih (i+1) b' hd' hil q2;have er:kF step ret fin (x::xs) b=kF step ret fin xs b':=by simp only[kF,hs]
    exact⟨j,v,e1,by rw[bU q1];exact e2,e3,by rw[er];exact e4⟩
   |none=>
    have er:kF step ret fin (x::xs) b=ret b x:=by simp only[kF,hs]
    exact⟨i,b,hi,cF (h2 i b hil hb (by rw[hx];exact hs)),hb, .inr ⟨hil,by rw[hx];exact hs,by rw[er,hx]⟩⟩
 exact key l 0 b rfl (xx _) hb
end Go.Iv
end
noncomputable section
set_option maxRecDepth 100000
namespace Go.Proofs.YtnfljbehcffmcaaGreat
open Go Go.Iv
open Go.IntKind (i64 u64)
def gR{n:Int}(h1:0<=n:=by omega)(h2:n<18446744073709551616:=by omega):IntKind.u64.wrap n=n:=by
 simp only[IntKind.wrap,IntKind.signed,IntKind.bits]at*;simp;omega
def PC(n:Int):IntKind.u64.wrap n=n%18446744073709551616:=by
 simp only[IntKind.wrap,IntKind.signed,IntKind.bits]at*;simp
structure gV (y1 y0 u d q r:Int):Prop where
 r0:0<=r
 r1:r<4294967296
 q0:0<=q
 q1:q<=4294967297
 e:u=q*y1+r
 hi:u*4294967296+d<(q+1)*(y1*4294967296+y0)
 top:q=4294967297->r+y1<4294967296
structure su (y1 y0 u d:Int):Prop where
 ha:2147483648<=y1
 hb:y1<4294967296
 hc:0<=y0
 hd:y0<4294967296
 he:0<=u
 hf:u<y1*4294967296+y0
 hg:0<=d
 hh:d<4294967296
def gV.start{y1 y0 u d:Int}(h:su y1 y0 u d):gV y1 y0 u d (u/y1) (u%y1):=by
 obtain⟨ha,hb,hc,hd,he,hf,hg,hh⟩:=h;have e1:=yT u y1;have m0:=yU u (b:=y1) (by omega);have m1:=yY u (b:=y1) (by omega);have q0:0<=u/y1:=zX he (by omega);have q1:u/y1<=4294967297:=by
  have:u/y1<4294967298:=wY (by omega) (by omega);omega
 rw[zG]at e1;refine⟨m0,by omega,q0,q1,by omega,?_,λhq=> ?_⟩
 ·have k1:(u/y1+1)*(y1*4294967296+y0)=((u/y1)*y1)*4294967296+y1*4294967296+(u/y1)*y0+y0:=by
   rw[zQ,yZ,zU,zS];omega
  have k2:0<=u/y1*y0:=zB q0 hc;rw[k1];omega
 ·rw[hq]at e1;omega
def gV.stop{y1 y0 u d q r:Int}(H:su y1 y0 u d)(h:gV y1 y0 u d q r)(h1:q<4294967296)(h2:¬4294967296*r+d<q*y0):q*(y1*4294967296+y0)<=u*4294967296+d:=by
 have k:q*(y1*4294967296+y0)=(q*y1)*4294967296+q*y0:=by rw[yZ,zS]
 have:=h.e;rw[k];omega
def gV.big{y1 y0 u d q r:Int}(H:su y1 y0 u d)(h:gV y1 y0 u d q r)(h1:4294967296<=q\/4294967296*r+d<q*y0):u*4294967296+d<q*(y1*4294967296+y0):=by
 have k:q*(y1*4294967296+y0)=(q*y1)*4294967296+q*y0:=by rw[yZ,zS]
 have e:=h.e;rcases h1 with h1|h1
 ·have k2:4294967296*(y1*4294967296+y0)<=q*(y1*4294967296+y0):=zM h1 (by have:=H.ha;have:=H.hc;omega);have:=H.hf;have:=H.hh;omega
 ·rw[k];omega
def gV.pos{y1 y0 u d q r:Int}(H:su y1 y0 u d)(h:gV y1 y0 u d q r)(h1:4294967296<=q\/4294967296*r+d<q*y0):1<=q:=by
 have k:=gV.big H h h1;have:=h.q0;rcases (show q=0\/1<=q by omega)with rfl|h2
 ·rw[xV]at k;have:=H.he;have:=H.hg;omega
 ·exact h2
def gV.next{y1 y0 u d q r:Int}(H:su y1 y0 u d)(h:gV y1 y0 u d q r)(h1:4294967296<=q\/4294967296*r+d<q*y0)(h2:r+y1<4294967296):gV y1 y0 u d (q-1) (r+y1):=by
 have hb:=gV.big H h h1;have hp:=gV.pos H h h1;have:=H.ha;have:=h.r0;have:=h.q1;refine⟨by omega,h2,by omega,by omega,?_,?_,λhq=>by omega⟩
 ·rw[yu,zU];have:=h.e;omega
 ·rw[show q-1+1=q by omega];exact hb
def gV.brk{y1 y0 u d q r:Int}(H:su y1 y0 u d)(h:gV y1 y0 u d q r)(h1:4294967296<=q\/4294967296*r+d<q*y0)(h2:4294967296<=r+y1):(q-1)*(y1*4294967296+y0)<=u*4294967296+d:=by
 have hp:=gV.pos H h h1;have hq:q<=4294967296:=by
  have:=h.q1;have:=h.top;omega
 have k:(q-1)*(y1*4294967296+y0)=(q*y1)*4294967296-y1*4294967296+(q-1)*y0:=by
  rw[yZ,<-zS,yu q 1 y1,zU,yu]
 have k2:(q-1)*y0<=4294967296*y0:=zM (by omega) H.hc;have:=h.e;have:=H.hd;have:=H.hg;rw[k];omega
def JY(y1 y0 u d q:Int):Prop:=0<=q/\q<=4294967297/\q*(y1*4294967296+y0)<=u*4294967296+d/\u*4294967296+d<(q+1)*(y1*4294967296+y0)
def gV.y0q{y1 y0 u d q r:Int}(H:su y1 y0 u d)(h:gV y1 y0 u d q r)(h1:q<4294967296):IntKind.u64.wrap (q*y0)=q*y0:=by
 have k1:0<=q*y0:=zB h.q0 H.hc;have k2:q*y0<=4294967295*y0:=zM (by omega) H.hc;have:=H.hd;exact gR k1 (by omega)
def gV.rr{y1 y0 u d q r:Int}(H:su y1 y0 u d)(h:gV y1 y0 u d q r):IntKind.u64.wrap (IntKind.u64.wrap (4294967296*r)+d)=4294967296*r+d:=by
 have:=h.r0;have:=h.r1;have:=H.hg;have:=H.hh;rw[gR (n:=4294967296*r),gR]
def gV.ZN{y1 y0 u d q r:Int}(H:su y1 y0 u d)(h:gV y1 y0 u d q r):(bif O (4294967296<=q)then Q G else Q (O (IntKind.u64.wrap (IntKind.u64.wrap (4294967296*r)+d)<IntKind.u64.wrap (q*y0))))=Q (O (4294967296<=q\/4294967296*r+d<q*y0)):=by
 by_cases hq:4294967296<=q
 ·rw[bQ hq,bQ (Or.inl hq),bC]
 ·rw[bP hq,bz,gV.rr H h,gV.y0q H h (by omega)];by_cases hc:4294967296*r+d<q*y0
  ·rw[bQ hc,bQ (Or.inr hc)]
  ·rw[bP hc,bP (λk=>k.elim hq hc)]
def gV.done{y1 y0 u d q r:Int}(H:su y1 y0 u d)(h:gV y1 y0 u d q r)(hr:4294967296<=q\/4294967296*r+d<q*y0->4294967296<=r+y1):JY y1 y0 u d (bif O (4294967296<=q\/4294967296*r+d<q*y0)then q-1 else q):=by
 have h0:=h.q0;have h1:=h.q1;by_cases hc:4294967296<=q\/4294967296*r+d<q*y0
 ·rw[bQ hc,bC];have:=gV.pos H h hc;refine⟨by omega,by omega,gV.brk H h hc (hr hc),?_⟩;rw[show q-1+1=q by omega];exact gV.big H h hc
 ·rw[bP hc,bz];exact⟨h0,by omega,gV.stop H h (by omega) (λk=>hc (.inr k)),h.hi⟩
def gV.wr1{y1 y0 u d q r:Int}(H:su y1 y0 u d)(h:gV y1 y0 u d q r):IntKind.u64.wrap (r+y1)=r+y1:=by
 have:=h.r0;have:=h.r1;have:=H.ha;have:=H.hb;exact gR
def gV.wq1{y1 y0 u d q r:Int}(H:su y1 y0 u d)(h:gV y1 y0 u d q r)(hc:4294967296<=q\/4294967296*r+d<q*y0):IntKind.u64.wrap (q-1)=q-1:=by
 have:=h.q1;have:=gV.pos H h hc;exact gR
def Ws{y s y1 y0 u d e q r:Int}(H:su y1 y0 u d)(h:gV y1 y0 u d q r):∃q' r',HI (nL.mk y s y1 y0 u d e q r)=Q (nL.mk y s y1 y0 u d e q' r')/\gV y1 y0 u d q' r'/\(4294967296<=q'\/4294967296*r'+d<q'*y0->4294967296<=r'+y1):=by
 obtain⟨z,e1,⟨q',r',rfl,hI⟩,hs⟩:=lS (cL:=A9) (λp=>∃q r,p=nL.mk y s y1 y0 u d e q r/\gV y1 y0 u d q r) (λp=>p.t15.toNat) (λp p' ⟨q,r,hp,hI⟩ hn=>by
  subst hp;have hn:A9 (nL.mk y s y1 y0 u d e q r)=Q (Q p'):=hn;simp only[A9]at hn;rw[gV.ZN H hI]at hn;by_cases hc:4294967296<=q\/4294967296*r+d<q*y0
  ·rw[bQ hc]at hn;simp only[bC,gV.wr1 H hI,gV.wq1 H hI hc]at hn;by_cases hb:4294967296<=r+y1
   ·rw[bQ hb]at hn;cases hn
   ·rw[bP hb]at hn;simp only[bz,zO.injEq]at hn;have hp:=gV.pos H hI hc;subst hn;exact⟨⟨q-1,r+y1,rfl,gV.next H hI hc (by omega)⟩,by show (q-1).toNat<q.toNat;omega⟩
  ·rw[bP hc]at hn;cases hn) ⟨q,r,rfl,h⟩
 refine⟨q',r',e1,hI,λhc=> ?_⟩;by_cases hb:4294967296<=r'+y1
 ·exact hb
 ·exact cR (show A9 _=Q (Q _)by
   simp only[A9];rw[gV.ZN H hI,bQ hc];simp only[bC,gV.wr1 H hI];rw[bP hb];rfl) (hs _)
def JZ{y s y1 y0 u d e q r:Int}(H:su y1 y0 u d)(h:gV y1 y0 u d q r):∃q' r',C5 (mI.mk y s y1 y0 d e r u q)=Q (mI.mk y s y1 y0 d e r' u q')/\gV y1 y0 u d q' r'/\(4294967296<=q'\/4294967296*r'+d<q'*y0->4294967296<=r'+y1):=by
 obtain⟨z,e1,⟨q',r',rfl,hI⟩,hs⟩:=lS (cL:=AY) (λp=>∃q r,p=mI.mk y s y1 y0 d e r u q/\gV y1 y0 u d q r) (λp=>p.t18.toNat) (λp p' ⟨q,r,hp,hI⟩ hn=>by
  subst hp;have hn:AY (mI.mk y s y1 y0 d e r u q)=Q (Q p'):=hn;simp only[AY]at hn;rw[gV.ZN H hI]at hn;by_cases hc:4294967296<=q\/4294967296*r+d<q*y0
  ·rw[bQ hc]at hn;simp only[bC,gV.wr1 H hI,gV.wq1 H hI hc]at hn;by_cases hb:4294967296<=r+y1
   ·rw[bQ hb]at hn;cases hn
   ·rw[bP hb]at hn;simp only[bz,zO.injEq]at hn;have hp:=gV.pos H hI hc;subst hn;exact⟨⟨q-1,r+y1,rfl,gV.next H hI hc (by omega)⟩,by show (q-1).toNat<q.toNat;omega⟩
  ·rw[bP hc]at hn;cases hn) ⟨q,r,rfl,h⟩
 refine⟨q',r',e1,hI,λhc=> ?_⟩;by_cases hb:4294967296<=r'+y1
 ·exact hb
 ·exact cR (show AY _=Q (Q _)by
   simp only[AY];rw[gV.ZN H hI,bQ hc];simp only[bC,gV.wr1 H hI];rw[bP hb];rfl) (hs _)
def agT{n:Int}(h1:0<=n)(h2:n<256):IntKind.u8.wrap n=n:=by
 simp only[IntKind.wrap,IntKind.signed,IntKind.bits]at*;simp;omega
def Xh{x:Int}(k:Nat)(hk:k<=64):dh IntKind.u64 x (k:Int)=x/2^k:=by
 unfold dh;rw[show min ((k:Int)).toNat IntKind.u64.bits=k from by simp only[zi,IntKind.bits];omega];exact Int.fdiv_eq_ediv_of_nonneg _ (yV (Int.pow_pos (by omega)))
def aic(i:Nat):Bool:=i==0||((zP 9).any λt=>(lE.data[i]!).toNat==t&&O (1<=t)&&O (2^(t-1)<=i)&&O (i<2^t))
def aam:(zP 256).all aic=G:=by kernel_rfl
def aeB{x:Int}(h1:1<=x)(h2:x<256):∃t:Nat,1<=t/\t<=8/\cq lE (IntKind.u8.wrap x).toNat=(t:Int)/\2^(t-1)<=x/\x<2^t:=by
 rw[agT (by omega) h2];have h:=zA.mp aam x.toNat (List.mem_range.mpr (by omega));simp only[aic,yQ,beq_iff_eq,List.any_eq_true,List.mem_range,zn,decide_eq_true_eq]at h;rcases h with h|⟨t,ht,⟨⟨h3,h4⟩,h5⟩,h6⟩
 ·omega
 ·have h5':((2^(t-1):Nat):Int)<=(x.toNat:Int):=Int.ofNat_le.mpr h5;have h6':((x.toNat:Nat):Int)<((2^t:Nat):Int):=Int.ofNat_lt.mpr h6;rw[Int.toNat_of_nonneg (by omega),Int.natCast_pow]at h5' h6';exact⟨t,h4,by omega,by unfold cq;rw[h3],h5',h6'⟩
def Ww{a x:Int}{n t:Nat}(h1:1<=t)(h2:t<=8)(hx1:2^(t-1)<=x)(hx2:x<2^t)(hn:n<=56)(ha1:x*2^n<=a)(ha2:a<(x+1)*2^n):
  2^63<=a*2^(64-(n+t))/\a*2^(64-(n+t))<2^64:=by
 have p0:∀k:Nat,(0:Int)<2^k:=λk=>Int.pow_pos (by omega);have e1:(2:Int)^63=2^(t-1)*2^n*2^(64-(n+t)):=by
  rw[<-Int.pow_add,<-Int.pow_add];congr 1;omega
 have e2:(2:Int)^64=2^t*2^n*2^(64-(n+t)):=by
  rw[<-Int.pow_add,<-Int.pow_add];congr 1;omega
 rw[e1,e2];refine⟨zM (y7 (zM hx1 (yV (p0 n))) ha1) (yV (p0 _)),?_⟩;refine Int.mul_lt_mul_of_pos_right (Int.lt_of_lt_of_le ha2 ?_) (p0 _);exact zM (by omega) (yV (p0 n))
def Sw(x:Int):dh IntKind.u64 x 32=x/4294967296:=Xh (x:=x) 32 (by omega)
def arF(x:Int):dh IntKind.u64 x 16=x/65536:=Xh (x:=x) 16 (by omega)
def auL(x:Int):dh IntKind.u64 x 8=x/256:=Xh (x:=x) 8 (by omega)
def XX(a:Int)(r:ah Int):Prop:=∃s:Nat,s<=63/\(match r with|V=>V|Q r1=>Q (i64.wrap (64-r1)))=Q (s:Int)/\2^63<=a*2^s/\a*2^s<2^64
def ja{a x:Int}(n:Nat)(hn:n<=56)(hx1:1<=x)(hx2:x<256)(ha1:x*2^n<=a)(ha2:a<(x+1)*2^n):
  XX a (if(0:Int)<=IntKind.u8.wrap x/\IntKind.u8.wrap x<(256:Int)then Q (i64.wrap ((n:Int)+i64.wrap (cq lE (IntKind.u8.wrap x).toNat)))else V):=by
 obtain⟨t,h1,h2,h3,h4,h5⟩:=aeB hx1 hx2;rw[bt (by rw[agT (by omega) hx2];omega),h3];refine⟨64-(n+t),by omega,?_,Ww h1 h2 h4 h5 hn ha1 ha2⟩;rw[aG (n:=(t:Int)),aG (n:=(n:Int)+t)];show Q _=_;rw[aG]
 congr 1
 omega
def aex{a:Int}(h1:1<=a)(h2:a<18446744073709551616):∃s:Nat,s<=63/\alF a=Q (s:Int)/\2^63<=a*2^s/\a*2^s<2^64:=by
 show XX a (aeP a);unfold aeP;simp only[Sw,arF,auL];by_cases c1:4294967296<=a
 ·rw[bQ c1,bC];by_cases c2:65536<=a/4294967296
  ·rw[bQ c2,bC];by_cases c3:256<=a/4294967296/65536
   ·rw[bQ c3,bC];exact ja 56 (by omega) (by omega) (by omega) (by omega) (by omega)
   ·rw[bP c3,bz];exact ja 48 (by omega) (by omega) (by omega) (by omega) (by omega)
  ·rw[bP c2,bz];by_cases c3:256<=a/4294967296
   ·rw[bQ c3,bC];exact ja 40 (by omega) (by omega) (by omega) (by omega) (by omega)
   ·rw[bP c3,bz];exact ja 32 (by omega) (by omega) (by omega) (by omega) (by omega)
 ·rw[bP c1,bz];by_cases c2:65536<=a
  ·rw[bQ c2,bC];by_cases c3:256<=a/65536
   ·rw[bQ c3,bC];exact ja 24 (by omega) (by omega) (by omega) (by omega) (by omega)
   ·rw[bP c3,bz];exact ja 16 (by omega) (by omega) (by omega) (by omega) (by omega)
  ·rw[bP c2,bz];by_cases c3:256<=a
   ·rw[bQ c3,bC];exact ja 8 (by omega) (by omega) (by omega) (by omega) (by omega)
   ·rw[bP c3,bz];exact ja 0 (by omega) (by omega) (by omega) (by omega) (by omega)
def anJ{x:Int}(k:Nat)(hk:k<=64):mD IntKind.u64 x (k:Int)=(x*2^k)%18446744073709551616:=by
 unfold mD;rw[show min ((k:Int)).toNat IntKind.u64.bits=k from by simp only[zi,IntKind.bits];omega];exact PC _
def Ht{x:Int}(h1:0<=x)(h2:x<18446744073709551616):(BitVec.ofInt 64 x).toNat=x.toNat:=by
 rw[BitVec.toNat_ofInt]
 congr 1
 omega
def Zs{x:Int}(h1:0<=x)(h2:x<18446744073709551616):tA IntKind.u64 x 4294967295=x%4294967296:=by
 unfold tA;show IntKind.u64.wrap ((BitVec.ofInt 64 x&&&BitVec.ofInt 64 4294967295).toNat:Int)=_;rw[BitVec.toNat_and,Ht h1 h2,Ht (by omega) (by omega),show (4294967295:Int).toNat=2^32-1 from rfl,Nat.and_two_pow_sub_one_eq_mod,gR];omega
def orU{a b:Nat}{k:Nat}(hb:b<2^k)(h:2^k*a+b<18446744073709551616):ZR IntKind.u64 ((2^k*a:Nat):Int) (b:Int)=((2^k*a+b:Nat):Int):=by
 unfold ZR;show IntKind.u64.wrap ((BitVec.ofInt 64 ((2^k*a:Nat):Int)|||BitVec.ofInt 64 (b:Int)).toNat:Int)=_;rw[BitVec.toNat_or,Ht (by omega) (by omega),Ht (by omega) (by omega),zi,zi,<-Nat.two_pow_add_eq_or_of_lt hb,gR]
def j5{a b:Int}(h1:0<=a:=by omega):a.tdiv b=a/b:=Int.tdiv_eq_ediv_of_nonneg h1
def kD{a b:Int}(h1:0<=a:=by omega):a.tmod b=a%b:=Int.tmod_eq_emod_of_nonneg h1
def wq0{u y1:Int}(h1:0<=u)(h2:u<18446744073709551616)(h3:2<=y1):IntKind.u64.wrap (u.tdiv y1)=u/y1:=by
 rw[j5 h1];have:u/y1<=u:=yg _ h1;exact gR (zX h1 (by omega)) (by omega)
def wr0{u y1:Int}(h1:0<=u)(h2:u<18446744073709551616)(h3:2<=y1):IntKind.u64.wrap (u-IntKind.u64.wrap (u/y1*y1))=u%y1:=by
 have e:=yT u y1;have m0:=yU u (b:=y1) (by omega);rw[zG]at e;have q0:0<=u/y1*y1:=zB (zX h1 (by omega)) (by omega);rw[gR (n:=u/y1*y1) q0 (by omega),gR];omega
def ahA{u d q y:Int}(h1:q*y<=u*4294967296+d)(h2:u*4294967296+d<(q+1)*y)(hy:y<18446744073709551616):
  IntKind.u64.wrap (IntKind.u64.wrap (IntKind.u64.wrap (u*4294967296)+d)-IntKind.u64.wrap (q*y))=u*4294967296+d-q*y:=by
 rw[zQ,zU]at h2;generalize q*y=z at*;simp only[PC];omega
def anK{hi lo y:Int}(h0:0<=hi)(h1:hi<y)(h2:y<18446744073709551616)(h3:0<=lo)(h4:lo<18446744073709551616):∃q,Xt hi lo y=Q (q,(hi*18446744073709551616+lo)%y):=by
 by_cases hz:hi=0
 ·subst hz;refine⟨IntKind.u64.wrap (lo.tdiv y),?_⟩;unfold Xt;rw[fO,fO,bQ rfl,bz,bz,bC,gG,gG,kD h3];rw[show (0:Int)*18446744073709551616+lo=lo by omega]
 obtain⟨s,hs,es,b1,b2⟩:=aex (a:=y) (by omega) h2;have hP:(0:Int)<2^s:=Int.pow_pos (by omega);have hQ:(0:Int)<2^(64-s):=Int.pow_pos (by omega);have hPQ:(2:Int)^(64-s)*2^s=18446744073709551616:=by rw[<-Int.pow_add,show 64-s+s=64 by omega];rfl
 have b1:(9223372036854775808:Int)<=y*2^s:=b1;have b2:y*2^s<18446744073709551616:=b2;have eY:mD IntKind.u64 y (s:Int)=y*2^s:=by rw[anJ s (by omega),Int.emod_eq_of_lt (by omega) b2]
 have lb:lo/2^(64-s)<2^s:=wY hQ (by rw[zG,hPQ];exact h4);have lb0:0<=lo/2^(64-s):=zX h3 (by omega);have hy1:(hi+1)*2^s<=y*2^s:=zM (by omega) (by omega);have hy2:(hi+1)*2^s=hi*2^s+2^s:=by rw[zQ,zU]
 have hp0:0<=hi*2^s:=zB h0 (by omega);have eU:ZR IntKind.u64 (mD IntKind.u64 hi (s:Int)) (dh IntKind.u64 lo (IntKind.u64.wrap (64-(s:Int))))=hi*2^s+lo/2^(64-s):=by
  rw[anJ s (by omega),Int.emod_eq_of_lt hp0 (by omega),gR (n:=64-(s:Int)),show (64-(s:Int))=((64-s:Nat):Int)by omega,Xh (64-s) (by omega)];obtain⟨a,rfl⟩:=wZ h0;obtain⟨b,hb⟩:=wZ lb0;rw[hb]at lb ⊢;have e:(a:Int)*2^s=((2^s*a:Nat):Int):=by rw[xo,Int.natCast_pow,zG];rfl
  have lb':b<2^s:=by
   have:((b:Nat):Int)<((2^s:Nat):Int):=by rw[Int.natCast_pow];exact lb
   exact Int.ofNat_lt.mp this
  rw[e]at hp0 hy2 ⊢;rw[orU lb' (by omega)];omega
 have eD:mD IntKind.u64 lo (s:Int)=(lo*2^s)%18446744073709551616:=anJ s (by omega);have key:(hi*18446744073709551616+lo)*2^s=(hi*2^s+lo/2^(64-s))*18446744073709551616+(lo*2^s)%18446744073709551616:=by
  have k1:=yT (lo*2^s) 18446744073709551616;have k2:lo*2^s/18446744073709551616=lo/2^(64-s):=by rw[<-hPQ];exact Int.mul_ediv_mul_of_pos_left _ _ hP
  rw[k2]at k1;rw[zQ,zS,zG 18446744073709551616 (2^s),<-zS];omega
 have hD0:0<=(lo*2^s)%18446744073709551616:=by omega
 have hD1:(lo*2^s)%18446744073709551616<18446744073709551616:=by omega
 have hU0:0<=hi*2^s+lo/2^(64-s):=by omega
 have hU1:hi*2^s+lo/2^(64-s)<y*2^s:=by omega
 have res:∀zh,zh*(y*2^s)<=(hi*18446744073709551616+lo)*2^s->(hi*18446744073709551616+lo)*2^s<(zh+1)*(y*2^s)->((hi*18446744073709551616+lo)*2^s-zh*(y*2^s))/2^s=(hi*18446744073709551616+lo)%y:=λzh q1 q2=>by
  rw[<-zS,<-yu,Int.mul_ediv_cancel _ (by omega)];rw[<-zS]at q1 q2;have q1:=Int.le_of_mul_le_mul_right q1 hP;have q2:=wN q2 (yV hP);rw[zQ,zU]at q2;have e:=yT (hi*18446744073709551616+lo) y;generalize hi*18446744073709551616+lo=X at*;have:X/y=zh:=by
   apply Int.le_antisymm
   ·have:X/y<zh+1:=wY (by omega) (by rw[zQ,zU];exact q2);omega
   ·exact Int.le_ediv_of_mul_le (by omega) q1
  rw[this,zG]at e;omega
 rw[key]at res;unfold Xt;rw[bP (show ¬y=0 by omega),bP (show ¬y<=hi by omega),bP hz,bz,bz,bz,es];simp only[gR (n:=(s:Int))];rw[eY,eU,eD,gR (n:=64-(s:Int)),gG,gG,gG,gG];generalize hi*2^s+lo/2^(64-s)=U at*;generalize (lo*2^s)%18446744073709551616=D at*;generalize y*2^s=Y at*;clear eY eU eD key hy1 hy2 hp0 lb lb0 hPQ hQ h1 hz;have eY1:Y/4294967296*4294967296+Y%4294967296=Y:=by omega
 have H0:su (Y/4294967296) (Y%4294967296) U (D/4294967296):=⟨by omega,by omega,by omega,by omega,hU0,by omega,by omega,by omega⟩;have hU2:U<18446744073709551616:=by omega
 rw[Sw,Sw,Zs hD0 hD1,Zs (by omega) b2,gG,wq0 hU0 hU2 (by omega),wr0 hU0 hU2 (by omega)];obtain⟨q1,r1,e1,I1,s1⟩:=Ws (y:=Y) (s:=(s:Int)) (e:=D%4294967296) H0 (gV.start H0);rw[e1];have D1:=gV.done H0 I1 s1;simp only[gV.ZN H0 I1,gV.wr1 H0 I1];have second:∀Q1,JY (Y/4294967296) (Y%4294967296) U (D/4294967296) Q1->∃W,su (Y/4294967296) (Y%4294967296) W (D%4294967296)/\IntKind.u64.wrap (IntKind.u64.wrap (IntKind.u64.wrap (U*4294967296)+D/4294967296)-IntKind.u64.wrap (Q1*Y))=W/\W=U*4294967296+D/4294967296-Q1*Y/\0<=W/\W<Y:=λQ1 hk=>by
  unfold JY at hk;rw[eY1]at hk;obtain⟨k0,k1,k2,k3⟩:=hk;have k4:=k3;rw[zQ,zU]at k4;exact⟨_,⟨by omega,by omega,by omega,by omega,by omega,by omega,by omega,by omega⟩,ahA k2 k3 b2,rfl,by omega,by omega⟩
 have fin:∀Q1 Q2 W,W=U*4294967296+D/4294967296-Q1*Y->JY (Y/4294967296) (Y%4294967296) W (D%4294967296) Q2->dh IntKind.u64 (IntKind.u64.wrap (IntKind.u64.wrap (IntKind.u64.wrap (W*4294967296)+D%4294967296)-IntKind.u64.wrap (Q2*Y))) (s:Int)=(hi*18446744073709551616+lo)%y:=λQ1 Q2 W hW hk=>by
  unfold JY at hk;rw[eY1]at hk;obtain⟨k0,k1,k2,k3⟩:=hk;rw[ahA k2 k3 b2,Xh s (by omega)];have e:U*18446744073709551616+D=W*4294967296+D%4294967296+Q1*4294967296*Y:=by
   rw[hW,zS,zG 4294967296 Y,<-zS];omega
  rw[<-res (Q1*4294967296+Q2)]
  ·congr 1
   rw[zQ];omega
  ·rw[zQ];omega
  ·rw[zQ,zU]at k3;rw[Int.add_assoc,zQ,zQ Q2,zU];omega
 by_cases c1:4294967296<=q1\/4294967296*r1+D/4294967296<q1*(Y%4294967296)
 ·rw[bQ c1]at D1 ⊢;rw[bC]at D1;rw[bC,bQ (s1 c1),bC,gG,gV.wq1 H0 I1 c1];obtain⟨W,H1,w1,w2,w3,w4⟩:=second _ D1;rw[w1,wq0 w3 (by omega) (by omega),wr0 w3 (by omega) (by omega)];obtain⟨q2,r2,e2,I2,s2⟩:=JZ (y:=Y) (s:=(s:Int)) (e:=q1-1) H1 (gV.start H1);rw[e2];have D2:=gV.done H1 I2 s2;simp only[gV.ZN H1 I2,gV.wr1 H1 I2];by_cases c2:4294967296<=q2\/4294967296*r2+D%4294967296<q2*(Y%4294967296)
  ·rw[bQ c2]at D2 ⊢;rw[bC]at D2;rw[bC,bQ (s2 c2),bC,gG,gV.wq1 H1 I2 c2,fin _ _ W w2 D2];exact⟨_,rfl⟩
  ·rw[bP c2]at D2 ⊢;rw[bz]at D2;rw[bz,gG,fin _ _ W w2 D2];exact⟨_,rfl⟩
 ·rw[bP c1]at D1 ⊢;rw[bz]at D1;rw[bz,gG];obtain⟨W,H1,w1,w2,w3,w4⟩:=second _ D1;rw[w1,wq0 w3 (by omega) (by omega),wr0 w3 (by omega) (by omega)];obtain⟨q2,r2,e2,I2,s2⟩:=JZ (y:=Y) (s:=(s:Int)) (e:=q1) H1 (gV.start H1);rw[e2];have D2:=gV.done H1 I2 s2;simp only[gV.ZN H1 I2,gV.wr1 H1 I2];by_cases c2:4294967296<=q2\/4294967296*r2+D%4294967296<q2*(Y%4294967296)
  ·rw[bQ c2]at D2 ⊢;rw[bC]at D2;rw[bC,bQ (s2 c2),bC,gG,gV.wq1 H1 I2 c2,fin _ _ W w2 D2];exact⟨_,rfl⟩
  ·rw[bP c2]at D2 ⊢;rw[bz]at D2;rw[bz,gG,fin _ _ W w2 D2];exact⟨_,rfl⟩
def mul_lt{a b m n:Int}(h1:0<=a)(h2:a<=m)(h3:0<=b)(h4:b<=n):0<=a*b/\a*b<=m*n:=
 ⟨zB h1 h3,y4 h2 h4 h3 (by omega)⟩
def ajd{x y:Int}(h1:0<=x)(h2:x<18446744073709551616)(h3:0<=y)(h4:y<18446744073709551616):Vh x y=(x*y/18446744073709551616,x*y%18446744073709551616):=by
 unfold Vh;simp only[Sw,Zs h1 h2,Zs h3 h4];have e:x*y=(x/4294967296*(y/4294967296))*18446744073709551616+(x/4294967296*(y%4294967296))*4294967296+(x%4294967296*(y/4294967296))*4294967296+x%4294967296*(y%4294967296):=by
  conv=>lhs;rw[show x=x/4294967296*4294967296+x%4294967296 by omega,show y=y/4294967296*4294967296+y%4294967296 by omega]
  generalize x/4294967296=a;generalize x%4294967296=b;generalize y/4294967296=c;generalize y%4294967296=d;rw[zQ,yZ,yZ,zS,Int.mul_left_comm 4294967296 c,zS,zG 4294967296 d,<-zS b,<-zS a d,<-zS a c];omega
 obtain⟨a0,a1⟩:=mul_lt (a:=x/4294967296) (b:=y/4294967296) (m:=4294967295) (n:=4294967295) (by omega) (by omega) (by omega) (by omega);obtain⟨b0,b1⟩:=mul_lt (a:=x/4294967296) (b:=y%4294967296) (m:=4294967295) (n:=4294967295) (by omega) (by omega) (by omega) (by omega);obtain⟨c0,c1⟩:=mul_lt (a:=x%4294967296) (b:=y/4294967296) (m:=4294967295) (n:=4294967295) (by omega) (by omega) (by omega) (by omega);obtain⟨d0,d1⟩:=mul_lt (a:=x%4294967296) (b:=y%4294967296) (m:=4294967295) (n:=4294967295) (by omega) (by omega) (by omega) (by omega);rw[e];generalize x/4294967296*(y/4294967296)=A at*;generalize x/4294967296*(y%4294967296)=B at*;generalize x%4294967296*(y/4294967296)=C at*;generalize x%4294967296*(y%4294967296)=D at*;rw[gR (n:=A),gR (n:=B),gR (n:=C),gR (n:=D),
  gR (n:=B+D/4294967296),Zs (by omega) (by omega),gR (n:=(B+D/4294967296)%4294967296+C)]
 rw[gR (n:=A+(B+D/4294967296)/4294967296),gR,PC]
 congr 1
 omega
def amX{x y m:Int}(h1:0<=x)(h2:x<m)(h3:0<=y)(h4:y<m)(h5:m<9223372036854775808):abz x y m=Q (x*y%m):=by
 unfold abz;rw[gR h1 (by omega),gR h3 (by omega),gR (n:=m),ajd h1 (by omega) h3 (by omega)];simp only;obtain⟨k0,k1⟩:=mul_lt (a:=x) (b:=y) (m:=m) (n:=m-1) h1 (by omega) h3 (by omega);have hx:x*y<m*18446744073709551616:=by
  have:m*(m-1)<=m*18446744073709551615:=xW (by omega) (by omega);omega
 unfold alN;have hh:x*y/18446744073709551616<m:=wY (by omega) hx;have hh0:0<=x*y/18446744073709551616:=by omega
 rw[gG,kD hh0,Int.emod_eq_of_lt hh0 hh];obtain⟨q,e⟩:=anK hh0 hh (by omega) (show 0<=x*y%18446744073709551616 by omega) (by omega);rw[e,show x*y/18446744073709551616*18446744073709551616+x*y%18446744073709551616=x*y by omega];simp only;have r0:=yU (x*y) (b:=m) (by omega);have r1:=yY (x*y) (b:=m) (by omega);rw[aG]
def cj(a b:Int):Int:=((yD a b:Nat):Int)
def pS{a b:Int}(h1:0<=a)(h2:0<=b):yD b (a.tmod b)=yD a b:=by
 obtain⟨x,rfl⟩:=wZ h1;obtain⟨y,rfl⟩:=wZ h2;rw[kD h1];show Nat.gcd y ((x:Int)%(y:Int)).natAbs=Nat.gcd x y;rw[<-Int.natCast_emod,Int.natAbs_natCast,Nat.gcd_comm,<-Nat.gcd_rec,Nat.gcd_comm]
def aiE{a:Int}(h:0<=a):((yD a 0:Nat):Int)=a:=by
 rw[Int.gcd_zero_right];omega
def BF{x:Int}:(bif O (x=0)then I else G)=O (¬x=0):=by
 by_cases h:x=0
 ·rw[bQ h,bP (λk=>k h)];rfl
 ·rw[bP h,bQ h];rfl
def aiW{a b:Int}(h1:0<=a)(h2:0<=b):PT (qd.mk a b)=Q (qd.mk (yD a b) 0):=by
 obtain⟨z,e,⟨x,y,rfl,hx,hy,hg⟩,hs⟩:=lS (cL:=tB) (λp=>∃x y,p=qd.mk x y/\0<=x/\0<=y/\yD x y=yD a b) (λp=>p.t1.toNat) (λp p' ⟨x,y,hp,hx,hy,hg⟩ hn=>by
  subst hp;have hn:tB (qd.mk x y)=Q (Q p'):=hn;simp only[tB,BF]at hn;by_cases h0:y=0
  ·rw[fO,bz]at hn;cases hn
  ·rw[bQ h0,bC,bt h0]at hn;simp only[zO.injEq]at hn;subst hn;have m0:=yU x (b:=y) h0;have m1:=yY x (b:=y) (by omega);refine⟨⟨y,x.tmod y,rfl,hy,by rw[kD hx];exact m0,by rw[pS hx hy,hg]⟩,?_⟩;show (x.tmod y).toNat<y.toNat
   rw[kD hx];omega) ⟨a,b,rfl,h1,h2,rfl⟩
 have h0:y=0:=Decidable.byContradiction λh0=>hs _ (show tB _=Q (Q _)by
  simp only[tB,BF];rw[bQ h0,bC,bt h0])
 subst h0;rw[show PT=bJ tB from rfl,e,<-hg,aiE hx]
def Cw{a b:Int}(h1:0<=a)(h2:0<=b):Ez a b=Q (cj a b):=by
 unfold Ez;rw[aiW h1 h2];rfl
def aiV{a b k n:Int}{l:aa Int}(h1:0<=a)(h2:0<=b):vU (mz.mk a b l n k)=Q (mz.mk (yD a b) 0 l n k):=by
 obtain⟨z,e,⟨x,y,rfl,hx,hy,hg⟩,hs⟩:=lS (cL:=sQ) (λp=>∃x y,p=mz.mk x y l n k/\0<=x/\0<=y/\yD x y=yD a b) (λp=>p.t5.toNat) (λp p' ⟨x,y,hp,hx,hy,hg⟩ hn=>by
  subst hp;have hn:sQ (mz.mk x y l n k)=Q (Q p'):=hn;simp only[sQ,BF]at hn;by_cases h0:y=0
  ·rw[fO,bz]at hn;cases hn
  ·rw[bQ h0,bC,bt h0]at hn;simp only[zO.injEq]at hn;subst hn;have m0:=yU x (b:=y) h0;have m1:=yY x (b:=y) (by omega);refine⟨⟨y,x.tmod y,rfl,hy,by rw[kD hx];exact m0,by rw[pS hx hy,hg]⟩,?_⟩;show (x.tmod y).toNat<y.toNat
   rw[kD hx];omega) ⟨a,b,rfl,h1,h2,rfl⟩
 have h0:y=0:=Decidable.byContradiction λh0=>hs _ (show sQ _=Q (Q _)by
  simp only[sQ,BF];rw[bQ h0,bC,bt h0])
 subst h0;rw[show vU=bJ sQ from rfl,e,<-hg,aiE hx]
def DW{a k k1:Int}{l:aa Int}(i:Nat)(h1:0<=a)(hk:k=i)(hk1:k1=i+1)(hi:i<l.length)(hl:l.length<=1000)(h2:0<=l[i]!):tI (tF.mk a l l.length k)=Q (Q (tF.mk (cj a l[i]!) l l.length k1)):=by
 subst hk hk1;unfold tI;simp only;rw[rZ,bC,gG,zi,aiV h1 h2];simp only;rw[bQ trivial,bC,bz,aG];rfl
def CN{a b:Int}(h1:0<=a)(h2:0<=b):BH [a,b]=Q (cj a b):=by
 unfold BH;rw[show Dh=bJ tI from rfl,
  bU (DW (l:=[a,b]) (k:=0) (k1:=1) 0 (zm 0) rfl rfl (by simp) (by simp) h1),bU (DW (l:=[a,b]) (k:=1) (k1:=2) 1 (by unfold cj;omega) rfl rfl (by simp) (by simp) h2)]
 rw[cF (by intro r hr;simp[tI]at hr)];simp only;rw[bP (by simp),bz];show Q (cj (cj 0 a) b)=_;unfold cj;rw[Int.gcd_zero_left,show ((a.natAbs:Nat):Int)=a by omega]
def Dj{a b c:Int}(h1:0<=a)(h2:0<=b)(h3:0<=c):BH [a,b,c]=Q (cj (cj a b) c):=by
 unfold BH;rw[show Dh=bJ tI from rfl,
  bU (DW (l:=[a,b,c]) (k:=0) (k1:=1) 0 (zm 0) rfl rfl (by simp) (by simp) h1),bU (DW (l:=[a,b,c]) (k:=1) (k1:=2) 1 (by unfold cj;omega) rfl rfl (by simp) (by simp) h2),
  bU (DW (l:=[a,b,c]) (k:=2) (k1:=3) 2 (by unfold cj;omega) rfl rfl (by simp) (by simp) h3)]
 rw[cF (by intro r hr;simp[tI]at hr)];simp only;rw[bP (by simp),bz];show Q (cj (cj (cj 0 a) b) c)=_;rw[show cj 0 a=a from by unfold cj;rw[Int.gcd_zero_left];omega]
end Go.Proofs.YtnfljbehcffmcaaGreat
end
noncomputable section
namespace Go.Iv
open Go
variable [U:sF] [L:n7]
def Ob{α β ρ τ:Type}(step:Nat->β->α->β ⊕ ρ)(out:ρ->τ)(fin:β->τ):aa α->Nat->β->τ
 |[],_,b=>fin b
 |x::xs,i,b=>match step i b x with
  | .inl b'=>Ob step out fin xs (i+1) b'
  | .inr r=>out r
def u5{α β ρ τ:Type}{step:Nat->β->α->β ⊕ ρ}{out:ρ->τ}{fin:β->τ}{x:α}{xs:aa α}{i:Nat}{b b':β}(h:step i b x= .inl b'):Ob step out fin (x::xs) i b=Ob step out fin xs (i+1) b':=by
 simp only[Ob,h]
def BV{α β ρ τ:Type}{step:Nat->β->α->β ⊕ ρ}{out:ρ->τ}{fin:β->τ}{x:α}{xs:aa α}{i:Nat}{b:β}{r:ρ}(h:step i b x= .inr r):Ob step out fin (x::xs) i b=out r:=by
 simp only[Ob,h]
def YL{γ α β ρ τ:Type}[Inhabited α]{cL:γ->ah (ah γ)}(l:aa α)(mk:Nat->β->γ)(step:Nat->β->α->β ⊕ ρ)(out:ρ->τ)(fin:β->τ)(zf:Nat->β->Prop)
  (h1:∀i b,i<l.length->zf i b->(∀b',step i b l[i]! = .inl b'->cL (mk i b)=Q (Q (mk (i+1) b'))/\zf (i+1) b')/\∀r,step i b l[i]! = .inr r->cL (mk i b)=Q V)
  (h2:∀b,zf l.length b->cL (mk l.length b)=Q V) {b:β} (hb:zf 0 b):
  ∃i v,bJ cL (mk 0 b)=Q (mk i v)/\zf i v/\((i=l.length/\Ob step out fin l 0 b=fin v)\/(i<l.length/\∃r,step i v l[i]! = .inr r/\Ob step out fin l 0 b=out r)):=by
 have key:∀(xs:aa α) (i:Nat) (b:β),l.drop i=xs->i<=l.length->zf i b->∃j v,bJ cL (mk i b)=Q (mk j v)/\zf j v/\((j=l.length/\Ob step out fin xs i b=fin v)\/(j<l.length/\∃r,step j v l[j]! = .inr r/\Ob step out fin xs i b=out r)):=by
  intro xs;induction xs with
  |nil=>
   intro i b hd hi hb;have:i=l.length:=by have:=congrArg yC hd;simp at this;omega
   subst this;exact⟨_,b,cF (λr=>by rw[h2 b hb];simp),hb, .inl ⟨rfl,rfl⟩⟩
  |cons x xs ih=>
   intro i b hd hi hb;have hil:i<l.length:=by have:=congrArg yC hd;simp at this;omega
   have hx:l[i]! =x:=by
    have:=congrArg List.head? hd;rw[List.head?_drop,zw hil]at this;rw[getElem!_pos l i hil];simpa using this
   have hd':l.drop (i+1)=xs:=by
    have:=congrArg List.tail hd;rw[List.tail_drop]at this;simpa using this
   obtain⟨p1,p2⟩:=h1 i b hil hb;cases hs:step i b x with
   |inl b'=>
    obtain⟨q1,q2⟩:=p1 b' (by rw[hx];exact hs);obtain⟨j,v,e2,e3,e4⟩:=ih (i+1) b' hd' hil q2;rw[u5 hs];exact⟨j,v,by rw[bU q1];exact e2,e3,e4⟩
   |inr r=>
    rw[BV hs];exact⟨i,b,cF (λr'=>by rw[p2 r (by rw[hx];exact hs)];simp),hb, .inr ⟨hil,r,by rw[hx];exact hs,rfl⟩⟩
 exact key l 0 b rfl (xx _) hb
def aV{α:Type}[Inhabited α]{l:aa α}{i:Nat}(h:i<l.length):l[i]!∈l:=by rw[getElem!_pos l i h];exact xO h
def gH{i n:Nat}(h:i<n)(hn:n<=1000000):IntKind.i64.wrap ((i:Int)+1)=((i+1:Nat):Int):=by rw[aG];omega
def oB{γ β:Type}{cL:γ->ah (ah γ)}(n:Nat)(mk:Nat->β->γ)(zf S:Nat->β->Prop)
  (h1:∀i b,i<n->zf i b->(∃b',cL (mk i b)=Q (Q (mk (i+1) b'))/\zf (i+1) b')\/(cL (mk i b)=Q V/\S i b))
  (h2:∀b,zf n b->cL (mk n b)=Q V) {b:β} (hb:zf 0 b):
  ∃i v,bJ cL (mk 0 b)=Q (mk i v)/\zf i v/\(i=n\/(i<n/\S i v)):=by
 have key:∀(k i:Nat) (b:β),i+k=n->zf i b->∃j v,bJ cL (mk i b)=Q (mk j v)/\zf j v/\(j=n\/(j<n/\S j v)):=by
  intro k;induction k with
  |zero=>
   intro i b hi hb;have:i=n:=by omega
   subst this;exact⟨_,b,cF (λr=>by rw[h2 b hb];simp),hb, .inl rfl⟩
  |succ k ih=>
   intro i b hi hb;rcases h1 i b (by omega) hb with ⟨b',q1,q2⟩|⟨q1,q2⟩
   ·rw[bU q1];exact ih (i+1) b' (by omega) q2
   ·exact⟨i,b,cF (λr=>by rw[q1];simp),hb, .inr ⟨by omega,q2⟩⟩
 exact key n 0 b (by omega) hb
def dD{γ β:Type}{cL:γ->ah (ah γ)}(n:Nat)(mk:Nat->β->γ)(zf:Nat->β->Prop)
  (h1:∀i b,i<n->zf i b->∃b',cL (mk i b)=Q (Q (mk (i+1) b'))/\zf (i+1) b')
  (h2:∀b,zf n b->cL (mk n b)=Q V) {b:β} (hb:zf 0 b):∃v,bJ cL (mk 0 b)=Q (mk n v)/\zf n v:=by
 obtain⟨i,v,e,hi,h⟩:=oB n mk zf (λ_ _=>False) (λi b hi hb=> .inl (h1 i b hi hb)) h2 hb;rcases h with rfl|⟨_,h⟩
 ·exact⟨v,e,hi⟩
 ·exact h.elim
def cG{α:Type}(c:Nat->α->Int):aa α->Nat->Int
 |[],_=>0
 |x::xs,i=>if c i x=0 then cG c xs (i+1)else c i x
def sy{γ α:Type}[Inhabited α]{cL:γ->ah (ah γ)}(l:aa α)(mk:Nat->γ)(c:Nat->α->Int)
  (h1:∀i,i<l.length->(c i l[i]! =0->cL (mk i)=Q (Q (mk (i+1))))/\(c i l[i]!≠0->cL (mk i)=Q V))
  (h2:cL (mk l.length)=Q V):
  ∃i,bJ cL (mk 0)=Q (mk i)/\((i=l.length/\cG c l 0=0)\/(i<l.length/\c i l[i]!≠0/\cG c l 0=c i l[i]!)):=by
 have key:∀(xs:aa α) (i:Nat),l.drop i=xs->i<=l.length->∃j,bJ cL (mk i)=Q (mk j)/\((j=l.length/\cG c xs i=0)\/(j<l.length/\c j l[j]!≠0/\cG c xs i=c j l[j]!)):=by
  intro xs;induction xs with
  |nil=>
   intro i hd hi;have:i=l.length:=by have:=congrArg yC hd;simp at this;omega
   subst this;exact⟨_,cF (λr=>by rw[h2];simp), .inl ⟨rfl,rfl⟩⟩
  |cons x xs ih=>
   intro i hd hi;have hil:i<l.length:=by have:=congrArg yC hd;simp at this;omega
   have hx:l[i]! =x:=by
    have:=congrArg List.head? hd;rw[List.head?_drop,zw hil]at this;rw[getElem!_pos l i hil];simpa using this
   have hd':l.drop (i+1)=xs:=by
    have:=congrArg List.tail hd;rw[List.tail_drop]at this;simpa using this
   obtain⟨p1,p2⟩:=h1 i hil;unfold cG;rw[hx]at p1 p2;by_cases hc:c i x=0
   ·rw[bt hc,bU (p1 hc)];exact ih (i+1) hd' hil
   ·rw[bF hc];exact⟨i,cF (λr=>by rw[p2 hc];simp), .inr ⟨hil,by rw[hx];exact hc,by rw[hx]⟩⟩
 exact key l 0 rfl (xx _)
def me{γ α:Type}[Inhabited α]{cL:γ->ah (ah γ)}(l:aa α)(mk:Nat->γ)(c:Nat->α->Bool)
  (h1:∀i,i<l.length->(c i l[i]! =G->cL (mk i)=Q (Q (mk (i+1))))/\(c i l[i]! =I->cL (mk i)=Q V))
  (h2:cL (mk l.length)=Q V):
  ∃i,bJ cL (mk 0)=Q (mk i)/\((i=l.length/\∀j,j<l.length->c j l[j]! =G)\/(i<l.length/\c i l[i]! =I)):=by
 obtain⟨i,v,e,hI,h⟩:=oB (β:=Unit) (cL:=cL) l.length (λi _=>mk i) (λi _=>∀j,j<i->c j l[j]! =G) (λi _=>c i l[i]! =I) (λi b hi hI=>by
   obtain⟨p1,p2⟩:=h1 i hi;cases hc:c i l[i]! with
   |true=>exact .inl ⟨(),p1 hc,λj hj=>by
     rcases y8.1 hj with h|h
     ·exact hI j h
     ·subst h;exact hc⟩
   |false=>exact .inr ⟨p2 hc,rfl⟩) (λb _=>h2) (b:=()) (λj hj=>cR hj (by omega))
 refine⟨i,e,?_⟩;rcases h with h|h
 ·subst h;exact .inl ⟨rfl,hI⟩
 ·exact .inr h
def El{α:Type}[Inhabited α]{l:aa α}{p:α->Bool}(h:∀j,j<l.length->p l[j]! =G):l.all p=G:=by
 rw[zA];intro x hx;obtain⟨i,hi,e⟩:=wk hx;have:=h i hi;rw[getElem!_pos l i hi,e]at this;exact this
def tR{α:Type}[Inhabited α]{l:aa α}{p:α->Bool}{i:Nat}(hi:i<l.length)(h:p l[i]! =I):l.all p=I:=by
 cases ha:l.all p with
 |false=>rfl
 |true=>
  rw[zA]at ha;rw[ha _ (aV hi)]at h;exact cR h (by decide)
def vq{α:Type}[Inhabited α]{l:aa α}{p:α->Bool}(h:∀j,j<l.length->p l[j]! =I):l.any p=I:=by
 cases ha:l.any p with
 |false=>rfl
 |true=>
  obtain⟨x,hx,e⟩:=List.any_eq_true.1 ha;obtain⟨i,hi,e2⟩:=wk hx;have:=h i hi;rw[getElem!_pos l i hi,e2,e]at this;exact cR this (by decide)
def Dz{α:Type}[Inhabited α]{l:aa α}{p:α->Bool}{i:Nat}(hi:i<l.length)(h:p l[i]! =G):l.any p=G:=
 List.any_eq_true.2 ⟨_,aV hi,h⟩
def bO{α:Type}[Inhabited α]{l:aa α}{i:Nat}(h:i<l.length):l.take (i+1)=l.take i++[l[i]!]:=by
 rw[getElem!_pos l i h];exact(List.take_append_getElem h).symm
end Go.Iv
end
noncomputable section
set_option maxRecDepth 100000
namespace Go.Proofs.YtnfljbehcffmcaaGreat
open Go Go.Iv
open Go.IntKind (i64 u64)
def cy:aH:=aH.mk 1 0 0
structure NN (a:aH):Prop where
 lo: -1099511627776<=a.ag
 hi:a.af<=1099511627776
 le:a.ag<=a.af
 st:(a.ag=a.af/\a.aj=0)\/(a.ag<a.af/\1<=a.aj/\(a.af-a.ag)%a.aj=0)
def NV(a:aH):Prop:=a=cy\/NN a
def NN.s0{a:aH}(h:NN a):0<=a.aj:=by rcases h.st with ⟨_,h⟩|⟨_,h,_⟩<;>omega
def NN.dvd{a:aH}(h:NN a):a.aj∣a.af-a.ag:=by
 rcases h.st with ⟨h1,h2⟩|⟨_,_,h3⟩
 ·rw[h2,h1];exact⟨0,by omega⟩
 ·exact wO h3
def NN.sle{a:aH}(h:NN a):a.aj<=a.af-a.ag:=by
 rcases h.st with ⟨h1,h2⟩|⟨h1,_,h3⟩
 ·omega
 ·exact Int.le_of_dvd (by omega) (wO h3)
def NN.ne{a:aH}(h:NN a):a≠cy:=λe=>by
 have:=h.le;rw[e]at this;exact cR this (by decide)
def BX{a b:aH}(h1:a.ag=b.ag)(h2:a.af=b.af)(h3:a.aj=b.aj):a=b:=by
 cases a;cases b;simp only at h1 h2 h3;subst h1 h2 h3;rfl
def dN(x:Int):aH:=aH.mk x x 0
def NN.one{x:Int}(h1: -1099511627776<=x)(h2:x<=1099511627776):NN (dN x):=⟨h1,h2,zm _, .inl ⟨rfl,rfl⟩⟩
structure cS (P:Int->Prop) (c:aH):Prop where
 lo:P c.ag
 hi:P c.af
 all:∀x,P x->c.ag<=x/\x<=c.af/\c.aj∣x-c.ag
 nn:0<=c.aj
 best:∀d,(∀x,P x->d∣x-c.ag)->d∣c.aj
def cS.uniq{P:Int->Prop}{c d:aH}(h:cS P c)(k:cS P d):c=d:=by
 have e1:c.ag=d.ag:=Int.le_antisymm (h.all _ k.lo).1 (k.all _ h.lo).1;have e2:c.af=d.af:=Int.le_antisymm (k.all _ h.hi).2.1 (h.all _ k.hi).2.1;refine BX e1 e2 (Int.dvd_antisymm h.nn k.nn (k.best _ λx hx=>by rw[<-e1];exact(h.all x hx).2.2) (h.best _ λx hx=>by rw[e1];exact(k.all x hx).2.2))
def cS.congr{P zh:Int->Prop}{c:aH}(h:cS P c)(k:∀x,P x↔zh x):cS zh c:=
 ⟨(k _).mp h.lo,(k _).mp h.hi,λx hx=>h.all x ((k x).mpr hx),h.nn,λd hd=>h.best d λx hx=>hd x ((k x).mp hx)⟩
def cS.valid{P:Int->Prop}{c:aH}(h:cS P c)(hP:∀x,P x-> -1099511627776<=x/\x<=1099511627776):NN c:=by
 have h1:=hP _ h.lo;have h2:=hP _ h.hi;obtain⟨h3,_,h4⟩:=h.all _ h.hi;refine⟨h1.1,h2.2,h3,?_⟩;have h5:=h.nn;rcases Int.lt_or_eq_of_le h3 with h6|h6
 ·refine .inr ⟨h6,?_,Int.emod_eq_zero_of_dvd h4⟩;rcases Int.lt_or_eq_of_le h5 with h7|h7
  ·omega
  ·rw[<-h7]at h4;have:=xX.mp h4;omega
 ·refine .inl ⟨h6,?_⟩;have:=h.best 0 λx hx=>by
   obtain⟨a1,a2,_⟩:=h.all x hx;exact⟨0,by omega⟩
  exact xX.mp this
def bk(a:aH)(x:Int):Prop:=a.ag<=x/\x<=a.af/\a.aj∣x-a.ag
def NN.dL{a:aH}(h:NN a):cS (bk a) a:=by
 refine⟨⟨zm _,h.le,⟨0,by omega⟩⟩,⟨h.le,zm _,h.dvd⟩,λx hx=>hx,h.s0,λd hd=> ?_⟩;rcases h.st with ⟨h1,h2⟩|⟨h1,h2,h3⟩
 ·rw[h2];exact y5 d
 ·have:=hd (a.ag+a.aj) ⟨by omega,by have:=h.sle;omega,⟨1,by omega⟩⟩
  rwa [show a.ag+a.aj-a.ag=a.aj by omega]at this
def iM(x:Int):cS (· =x) (dN x):=
 ⟨rfl,rfl,λy hy=>⟨Int.le_of_eq hy.symm,Int.le_of_eq hy,⟨0,by rw[hy];simp[dN]⟩⟩,zm _,λd _=>y5 d⟩
def j9(a b:Int):cj a b∣a:=Int.gcd_dvd_left ..
def qT(a b:Int):cj a b∣b:=Int.gcd_dvd_right ..
def jC{d a b:Int}(h1:d∣a)(h2:d∣b):d∣cj a b:=Int.dvd_coe_gcd h1 h2
def lM(a b:Int):0<=cj a b:=by unfold cj;omega
def gcd_neg(a b:Int):cj a (-b)=cj a b:=by unfold cj;rw[Int.gcd_neg]
def jn(a b:aH):aH:=aH.mk (min a.ag b.ag) (max a.af b.af) (cj (cj a.aj b.aj) (a.ag-b.ag))
def cc(a b:aH):aH:=open Classical in if a=cy then b else if b=cy then a else jn a b
def cS.join{P zh:Int->Prop}{a b:aH}(h:cS P a)(k:cS zh b):cS (λx=>P x\/zh x) (jn a b):=by
 have g1:cj (cj a.aj b.aj) (a.ag-b.ag)∣a.aj:=zZ (j9 _ _) (j9 _ _);have g2:cj (cj a.aj b.aj) (a.ag-b.ag)∣b.aj:=zZ (j9 _ _) (qT _ _);have g3:cj (cj a.aj b.aj) (a.ag-b.ag)∣a.ag-b.ag:=qT _ _;refine⟨?_,?_,λx hx=> ?_,lM _ _,λd hd=> ?_⟩
 ·show P (min a.ag b.ag)\/zh (min a.ag b.ag);rcases xY a.ag b.ag with e|e
  ·rw[wP e];exact .inl h.lo
  ·rw[xZ e];exact .inr k.lo
 ·show P (max a.af b.af)\/zh (max a.af b.af);rcases xY a.af b.af with e|e
  ·rw[Int.max_eq_right e];exact .inr k.hi
  ·rw[Int.max_eq_left e];exact .inl h.hi
 ·show min a.ag b.ag<=x/\x<=max a.af b.af/\cj (cj a.aj b.aj) (a.ag-b.ag)∣x-min a.ag b.ag;have h0:=Int.min_le_left a.ag b.ag;have h1:=Int.min_le_right a.ag b.ag;have h2:=Int.le_max_left a.af b.af;have h3:=Int.le_max_right a.af b.af;have both:cj (cj a.aj b.aj) (a.ag-b.ag)∣x-a.ag/\cj (cj a.aj b.aj) (a.ag-b.ag)∣x-b.ag:=by
   rcases hx with hx|hx
   ·have e:=zZ g1 (h.all x hx).2.2;refine⟨e,?_⟩;have:=yW e g3
    rwa [show x-a.ag+(a.ag-b.ag)=x-b.ag by omega]at this
   ·have e:=zZ g2 (k.all x hx).2.2;refine⟨?_,e⟩;have:=yw e g3
    rwa [show x-b.ag-(a.ag-b.ag)=x-a.ag by omega]at this
  refine⟨?_,?_,?_⟩
  ·rcases hx with hx|hx
   ·have:=(h.all x hx).1;omega
   ·have:=(k.all x hx).1;omega
  ·rcases hx with hx|hx
   ·have:=(h.all x hx).2.1;omega
   ·have:=(k.all x hx).2.1;omega
  ·rcases xY a.ag b.ag with e|e
   ·rw[wP e];exact both.1
   ·rw[xZ e];exact both.2
 ·show d∣cj (cj a.aj b.aj) (a.ag-b.ag);have hd:∀x,P x\/zh x->d∣x-min a.ag b.ag:=hd;have d1:=hd _ (.inl h.lo);have d2:=hd _ (.inr k.lo);refine jC (jC (h.best d λx hx=> ?_) (k.best d λx hx=> ?_)) ?_
  ·have:=yw (hd x (.inl hx)) d1
   rwa [show x-min a.ag b.ag-(a.ag-min a.ag b.ag)=x-a.ag by omega]at this
  ·have:=yw (hd x (.inr hx)) d2
   rwa [show x-min a.ag b.ag-(b.ag-min a.ag b.ag)=x-b.ag by omega]at this
  ·have:=yw d1 d2
   rwa [show a.ag-min a.ag b.ag-(b.ag-min a.ag b.ag)=a.ag-b.ag by omega]at this
def cI{a b:aH}(h:NN a)(k:NN b):cc a b=jn a b:=by
 unfold cc;rw[bF h.ne,bF k.ne]
def gK{b:aH}:cc cy b=b:=by unfold cc;rw[bt rfl]
def pM{a:aH}:cc a cy=a:=by
 unfold cc;by_cases h:a=cy
 ·rw[bt h,h]
 ·rw[bF h,bt rfl]
def jx{a b:aH}(h:NN a)(k:NN b):NN (jn a b):=(h.dL.join k.dL).valid λx hx=>by
 have:=h.lo;have:=h.hi;have:=k.lo;have:=k.hi
 rcases hx with ⟨h1,h2,_⟩|⟨h1,h2,_⟩<;>omega
def ek{a b:aH}(h:NV a)(k:NV b):NV (cc a b):=by
 rcases h with rfl|h
 ·rw[gK];exact k
 ·rcases k with rfl|k
  ·rw[pM];exact .inr h
  ·rw[cI h k];exact .inr (jx h k)
def P3{a:aH}(h:NN a):jn a a=a:=
 ((h.dL.join h.dL).congr (λx=>⟨λk=>k.elim id id, .inl⟩)).uniq h.dL
def GU(a:aH):(bif O (a.ag=a.ag)then bif O (a.af=a.af)then bif O (a.aj=a.aj)then G else I else I else I)=G:=by
 rw[bQ rfl,bQ rfl,bQ rfl];rfl
def Ge{a b:aH}(h:a≠b):(bif O (a.ag=b.ag)then bif O (a.af=b.af)then bif O (a.aj=b.aj)then G else I else I else I)=I:=by
 by_cases h1:a.ag=b.ag
 ·by_cases h2:a.af=b.af
  ·by_cases h3:a.aj=b.aj
   ·exact cR (BX h1 h2 h3) h
   ·rw[bQ h1,bQ h2,bP h3];rfl
  ·rw[bQ h1,bP h2];rfl
 ·rw[bP h1];rfl
def iW:fB cy=G:=GU cy
def eR{a:aH}(h:a≠cy):fB a=I:=Ge (b:=cy) h
def nB:lT cy=G:=rfl
def iG{a:aH}(h:NN a):lT a=I:=bP (by have:=h.le;omega)
def j0(x:Int):jL x=O (-1099511627776<=x/\x<=1099511627776):=by
 unfold jL;by_cases h: -1099511627776<=x
 ·by_cases k:x<=1099511627776
  ·rw[bQ h,bQ k,bQ ⟨h,k⟩];rfl
  ·rw[bQ h,bP k,bP (show ¬(-1099511627776<=x/\x<=1099511627776)from λe=>k e.2)];rfl
 ·rw[bP h,bP (show ¬(-1099511627776<=x/\x<=1099511627776)from λe=>h e.1)];rfl
def uw(x:Int):oI x=O (-1099511627776<=x/\x<=1099511627776):=j0 x
def TX(a:aH):Bool:=open Classical in O (NV a)
def SU{a:aH}:TX a=G↔NV a:=by unfold TX;exact @decide_eq_true_iff _ (Classical.propDecidable _)
def ew{a:aH}(h:NV a):TX a=G:=SU.mpr h
def uJ{a:aH}(h:¬NV a):TX a=I:=by
 cases e:TX a with
 |false=>rfl
 |true=>exact cR (SU.mp e) h
def Tb{a:aH}(h0:a≠cy):(match bif bif jL a.ag then I else G then Q G else bif bif jL a.af then I else G then Q G else Q (O (a.af<a.ag))with|V=>V|Q r1=>bif r1 then Q I else bif O (a.ag=a.af)then Q (O (a.aj=0))else match bif O (1<=a.aj)then if¬a.aj=(0:Int)then Q (O ((i64.wrap (a.af-a.ag)).tmod a.aj=0))else V else Q I with|V=>V|Q r2=>Q r2)=Q (TX a):=by
 rw[j0,j0];by_cases h1: -1099511627776<=a.ag/\a.ag<=1099511627776
 ·by_cases h2: -1099511627776<=a.af/\a.af<=1099511627776
  ·by_cases h3:a.af<a.ag
   ·rw[bQ h1,bQ h2,bQ h3,uJ (λk=>by rcases k with k|k;exact h0 k;have:=k.le;omega)];rfl
   ·rw[bQ h1,bQ h2,bP h3];simp only[bC,bz];by_cases h4:a.ag=a.af
    ·rw[bQ h4,bC]
     congr 1
     by_cases h5:a.aj=0
     ·rw[bQ h5,ew (.inr ⟨h1.1,h2.2,by omega, .inl ⟨h4,h5⟩⟩)]
     ·rw[bP h5,uJ (λk=>by rcases k with k|k;exact h0 k;rcases k.st with k|k<;>omega)]
    ·rw[bP h4,bz];by_cases h5:1<=a.aj
     ·rw[bQ h5,bC,gG,aG,kD];simp only
      congr 1
      by_cases h6:(a.af-a.ag)%a.aj=0
      ·rw[bQ h6,ew (.inr ⟨h1.1,h2.2,by omega, .inr ⟨by omega,h5,h6⟩⟩)]
      ·rw[bP h6,uJ (λk=>by rcases k with k|k;exact h0 k;rcases k.st with k|k;omega;exact h6 k.2.2)]
     ·rw[bP h5,bz];simp only;rw[uJ (λk=>by rcases k with k|k;exact h0 k;rcases k.st with k|k<;>omega)]
  ·rw[bQ h1,bP h2,uJ (λk=>by rcases k with k|k;exact h0 k;have:=k.lo;have:=k.hi;have:=k.le;omega)];rfl
 ·rw[bP h1,uJ (λk=>by rcases k with k|k;exact h0 k;have:=k.lo;have:=k.hi;have:=k.le;omega)];rfl
def eX(a:aH):sZ a=Q (TX a):=by
 unfold sZ;by_cases h0:a=cy
 ·subst h0;rw[iW,bC,ew (.inl rfl)]
 ·rw[eR h0,bz];exact Tb h0
def fU(a:aH):U4 a=Q (TX a):=by
 unfold U4;by_cases h0:a=cy
 ·subst h0;rw[show sk=cy from rfl,GU,bC,ew (.inl rfl)]
 ·rw[show sk=cy from rfl,Ge h0,bz,<-Tb h0,show oI=jL from rfl,j0,j0];by_cases h1: -1099511627776<=a.ag/\a.ag<=1099511627776
  ·by_cases h2: -1099511627776<=a.af/\a.af<=1099511627776
   ·rw[bQ h1,bQ h2];simp only[bC,bz];by_cases h3:a.af<a.ag
    ·rw[bP (show ¬a.ag=a.af by omega),bQ h3,bP (show ¬a.ag<a.af by omega)];rfl
    ·rw[bP h3,bz];by_cases h4:a.ag=a.af
     ·rw[bQ h4];rfl
     ·rw[bP h4,bz,bz,bQ (show a.ag<a.af by omega),bC]<;>rfl
   ·rw[bQ h1,bP h2];rfl
  ·rw[bP h1];rfl
def bW(a:aH):Int:=open Classical in if a=cy then 0 else if a.aj=0 then 1 else(a.af-a.ag)/a.aj+1
def wsz{a:aH}(h:NN a)(h0:a.aj≠0):i64.wrap (i64.wrap ((i64.wrap (a.af-a.ag)).tdiv a.aj)+1)=(a.af-a.ag)/a.aj+1:=by
 have:=h.lo;have:=h.hi;have:=h.le;have:=h.s0
 have q0:0<=(a.af-a.ag)/a.aj:=zX (by omega) (by omega);have q1:(a.af-a.ag)/a.aj<=a.af-a.ag:=yg _ (by omega);rw[aG (n:=a.af-a.ag),j5,aG (n:=(a.af-a.ag)/a.aj),aG]
def kN{a:aH}(h:NV a):Bj a=Q (bW a):=by
 unfold Bj bW;rcases h with rfl|h
 ·rw[iW,bt rfl];rfl
 ·rw[eR h.ne,bF h.ne,bz];by_cases h0:a.aj=0
  ·rw[bQ h0,bt h0];rfl
  ·rw[bP h0,bF h0,bz,bt h0,wsz h h0]
def gx{a:aH}(h:NV a):Fi a=Q (bW a):=by
 unfold Fi bW;rw[fU,ew h];simp only[bC,bz];rcases h with rfl|h
 ·rw[nB,bt rfl];rfl
 ·rw[iG h,bF h.ne,bz];by_cases h0:a.aj=0
  ·rw[bQ h0,bt h0];rfl
  ·rw[bP h0,bF h0,bz,bt h0,wsz h h0]
def af6{a:aH}(h:¬NV a):Fi a=Q 0:=by
 unfold Fi;rw[fU,uJ h];rfl
def qK{a:aH}(h:NV a):HT a=Q (bW a):=by
 unfold HT;rw[eX,ew h];simp only[bC,bz];rw[kN h]
def ac3{a:aH}(h:¬NV a):HT a=Q 0:=by
 unfold HT;rw[eX,uJ h];rfl
def cu(a:aH)(x:Int):Bool:=open Classical in O (bk a x)
def gL{a:aH}{x:Int}:cu a x=G↔bk a x:=by unfold cu;exact @decide_eq_true_iff _ (Classical.propDecidable _)
def jz{a:aH}{x:Int}(h:¬bk a x):cu a x=I:=by
 cases e:cu a x with
 |false=>rfl
 |true=>exact cR (gL.mp e) h
def e9{a:aH}{x:Int}(h:bk a x):cu a x=G:=gL.mpr h
def ue{x:Int}:¬bk cy x:=λh=>by
 obtain⟨h1,h2,_⟩:=h;have h1:(1:Int)<=x:=h1;have h2:x<=0:=h2;omega
def Mg{a:aH}(h:NN a)(x:Int)(h1:a.ag<=x)(h2:x<=a.af):(match bif O (a.aj=0)then Q G else if¬a.aj=(0:Int)then Q (O ((i64.wrap (x-a.ag)).tmod a.aj=0))else V with|V=>V|Q r2=>Q r2)=Q (cu a x):=by
 have:=h.lo;have:=h.hi
 by_cases h0:a.aj=0
 ·rw[bQ h0,bC,e9 ⟨h1,h2,by rcases h.st with k|k;(rw[h0];exact⟨0,by omega⟩);omega⟩]
 ·rw[bP h0,bz,bt h0,aG,kD];simp only
  congr 1
  by_cases k:(x-a.ag)%a.aj=0
  ·rw[bQ k,e9 ⟨h1,h2,wO k⟩]
  ·rw[bP k,jz (λe=>k (Int.emod_eq_zero_of_dvd e.2.2))]
def Hr{a:aH}(h:NV a)(x:Int):UM a x=Q (cu a x):=by
 unfold UM;rcases h with rfl|h
 ·rw[iW,jz ue];rfl
 ·rw[eR h.ne,bz];by_cases h1:x<a.ag
  ·rw[bQ h1,jz (λk=>by have:=k.1;omega)];rfl
  ·by_cases h2:a.af<x
   ·rw[bP h1,bQ h2,jz (λk=>by have:=k.2.1;omega)];rfl
   ·rw[bP h1,bP h2];simp only[bz];exact Mg h x (by omega) (by omega)
def oh{a:aH}(h:NV a)(x:Int):m32 a x=Q (cu a x):=by
 unfold m32;rw[fU,ew h];simp only[bC,bz];rcases h with rfl|h
 ·by_cases h1:x<1
  ·rw[show cy.ag=1 from rfl,bQ h1,jz ue];rfl
  ·rw[show cy.ag=1 from rfl,show cy.af=0 from rfl,bP h1,bQ (show 0<x by omega),jz ue];rfl
 ·by_cases h1:x<a.ag
  ·rw[bQ h1,jz (λk=>by have:=k.1;omega)];rfl
  ·by_cases h2:a.af<x
   ·rw[bP h1,bQ h2,jz (λk=>by have:=k.2.1;omega)];rfl
   ·rw[bP h1,bP h2];simp only[bz];exact Mg h x (by omega) (by omega)
def lD{a:aH}(h:NV a)(x:Int):Uh a x=Q (cu a x):=by
 unfold Uh;rw[eX,ew h];simp only[bC];rw[Hr h]
def gi(lo hi st:Int):aH:=if hi<lo then cy else if st=0 then dN lo else if lo=lo+(hi-lo)/st*st then dN lo else aH.mk lo (lo+(hi-lo)/st*st) st
def agS{lo hi st:Int}(h1: -2305843009213693952<=lo)(h2:hi<=2305843009213693952)(h3:lo<=hi)(h4:1<=st):i64.wrap (lo+i64.wrap (i64.wrap ((i64.wrap (hi-lo)).tdiv st)*st))=lo+(hi-lo)/st*st:=by
 have q0:0<=(hi-lo)/st:=zX (by omega) (by omega);have q1:(hi-lo)/st<=hi-lo:=yg _ (by omega);have q2:(hi-lo)/st*st<=hi-lo:=y9 _ (by omega);have q3:0<=(hi-lo)/st*st:=zB q0 (by omega);rw[aG (n:=hi-lo),j5,aG (n:=(hi-lo)/st),aG (n:=(hi-lo)/st*st),aG]
def nG{lo hi st:Int}(h1: -2305843009213693952<=lo)(h2:hi<=2305843009213693952)(h4:0<=st):mZ lo hi st=Q (gi lo hi st):=by
 unfold mZ gi;by_cases c1:hi<lo
 ·rw[bQ c1,bt c1];rfl
 ·rw[bP c1,bF c1,bz];by_cases c2:st=0
  ·rw[bQ c2,bt c2];rfl
  ·rw[bP c2,bF c2,bz,bt c2,agS h1 h2 (by omega) (by omega)];by_cases c3:lo=lo+(hi-lo)/st*st
   ·rw[bQ c3,bt c3];rfl
   ·rw[bP c3,bF c3];rfl
def jD{lo hi st:Int}(h1: -1099511627776<=lo/\lo<=1099511627776)(h2: -1099511627776<=hi/\hi<=1099511627776)(h4:1<=st):j6 lo hi st=Q (gi lo hi st,0):=by
 unfold j6 gi;rw[uw,uw,bQ h1,bQ h2,bP (show ¬st<1 by omega)];simp only[bC,bz];by_cases c1:hi<lo
 ·rw[bQ c1,bt c1];rfl
 ·rw[bP c1,bF c1,bz,bF (show ¬st=0 by omega),gG,agS (by omega) (by omega) (by omega) h4];by_cases c3:lo=lo+(hi-lo)/st*st
  ·rw[<-c3,bQ rfl,bt rfl];rfl
  ·rw[bP c3,bF c3];rfl
def Lf{lo hi st:Int}(h1:lo<=hi)(h2:0<=st)(h3:st∣hi-lo)(h4:lo=hi->st=0):gi lo hi st=aH.mk lo hi st:=by
 unfold gi;rw[iB];by_cases c:st=0
 ·rw[bt c];subst c;have:=xX.mp h3;unfold dN;rw[show hi=lo by omega]
 ·rw[bF c,wB h3,show lo+(hi-lo)=hi by omega,bF (λe=>c (h4 e))]
def jk{lo hi st:Int}(h1: -1099511627776<=lo)(h2:hi<=1099511627776)(h3:lo<=hi)(h4:0<=st):NN (gi lo hi st):=by
 unfold gi;rw[iB];by_cases c:st=0
 ·rw[bt c];exact NN.one h1 (by omega)
 ·rw[bF c];have q0:0<=(hi-lo)/st:=zX (by omega) (by omega);have q2:(hi-lo)/st*st<=hi-lo:=y9 _ (by omega);have q3:0<=(hi-lo)/st*st:=zB q0 (by omega);by_cases c3:lo=lo+(hi-lo)/st*st
  ·rw[bt c3];exact NN.one h1 (by omega)
  ·rw[bF c3];refine⟨h1,by show lo+(hi-lo)/st*st<=_;omega,by show lo<=lo+(hi-lo)/st*st;omega, .inr ⟨by show lo<lo+(hi-lo)/st*st;omega,by show 1<=st;omega,?_⟩⟩;show (lo+(hi-lo)/st*st-lo)%st=0;rw[show lo+(hi-lo)/st*st-lo=(hi-lo)/st*st by omega];exact Int.mul_emod_left _ _
def ki{lo hi st x:Int}(h3:lo<=hi)(h4:1<=st):bk (gi lo hi st) x↔lo<=x/\x<=hi/\st∣x-lo:=by
 unfold gi;rw[iB,iB];have q2:(hi-lo)/st*st<=hi-lo:=y9 _ (by omega);have q4:=w9 (hi-lo) (show 0<st by omega);rw[zQ,zU]at q4;by_cases c3:lo=lo+(hi-lo)/st*st
 ·rw[bt c3];constructor
  ·rintro⟨k1,k2,_⟩;have k1:lo<=x:=k1;have k2:x<=lo:=k2;exact⟨k1,by omega,⟨0,by omega⟩⟩
  ·rintro⟨k1,k2,k3⟩;have:x-lo<st:=by omega
   have e:x-lo=0:=Decidable.byContradiction λh=>cR (Int.le_of_dvd (by omega) k3) (by omega);exact⟨k1,by show x<=lo;omega,by show 0∣x-lo;rw[e];exact⟨0,rfl⟩⟩
 ·rw[bF c3];constructor
  ·rintro⟨k1,k2,k3⟩;have k2:x<=lo+(hi-lo)/st*st:=k2;exact⟨k1,by omega,k3⟩
  ·rintro⟨k1,k2,k3⟩;refine⟨k1,?_,k3⟩;show x<=lo+(hi-lo)/st*st;obtain⟨q,hq⟩:=k3;rw[zG]at hq;have:q<(hi-lo)/st+1:=wN (a:=st) (by rw[zQ,zU];omega) (by omega);have:q*st<=(hi-lo)/st*st:=zM (by omega) (by omega);omega
def Lv(g x v:Int)(hx: -1099511627776<=x/\x<=1099511627776)(hv: -1099511627776<=v/\v<=1099511627776):(0:Int)<=ke x v/\cj g (ke x v)=cj g (x-v):=by
 unfold ke;by_cases c:x<v
 ·rw[bQ c,bC,aG];exact⟨by omega,by rw[<-gcd_neg,show-(v-x)=x-v by omega]⟩
 ·rw[bP c,bz,aG];exact⟨by omega,rfl⟩
def cS.snoc{P:Int->Prop}{c:aH}{v:Int}(h:cS P c)(hv:P v)(x:Int):cS (λy=>P y\/y=x) (aH.mk (min c.ag x) (max c.af x) (cj c.aj (x-v))):=by
 have e:cj (cj c.aj 0) (c.ag-x)=cj c.aj (x-v):=by
  have d:=(h.all v hv).2.2;refine Int.dvd_antisymm (lM _ _) (lM _ _) (jC (zZ (j9 _ _) (j9 _ _)) ?_) (jC (jC (j9 _ _) (y5 _)) ?_)
  ·have k1:cj (cj c.aj 0) (c.ag-x)∣c.ag-x:=qT _ _;have k2:cj (cj c.aj 0) (c.ag-x)∣v-c.ag:=zZ (zZ (j9 _ _) (j9 _ _)) d;have:=Int.dvd_neg.mpr (yW k1 k2)
   rwa [show-(c.ag-x+(v-c.ag))=x-v by omega]at this
  ·have k1:cj c.aj (x-v)∣x-v:=qT _ _;have k2:cj c.aj (x-v)∣v-c.ag:=zZ (j9 _ _) d;have:=Int.dvd_neg.mpr (yW k1 k2)
   rwa [show-(x-v+(v-c.ag))=c.ag-x by omega]at this
 have:=h.join (iM x);unfold jn dN at this;rw[e]at this;exact this
def bX(x:Int):Prop:= -1099511627776<=x/\x<=1099511627776
instance (x:Int):Decidable (bX x):=inferInstanceAs (Decidable (_/\_))
def DZ(x:Int):oI x=O (bX x):=uw x
def amH{l:aa Int}{b0 c:aH}(i:Nat)(hi:i+1<l.length)(hl:l.length<=1000000)(hr:∀x∈l,bX x)(hc:cS (· ∈l.take (i+1)) c):
  ∃c',sN (kA.mk l (i+1:Nat) b0 c)=Q (Q (kA.mk l (i+1+1:Nat) b0 c'))/\cS (· ∈l.take (i+1+1)) c':=by
 have hx:bX l[i+1]! :=hr _ (aV hi);have h0:bX l[0]! :=hr _ (aV (by omega));have hm:l[0]!∈l.take (i+1):=by
  have:(l.take (i+1))[0]! =l[0]! :=by
   rw[getElem!_pos _ 0 (by rw[z6];omega),getElem!_pos l 0 (by omega),wL]
  rw[<-this];exact aV (by rw[z6];omega)
 have hs:=hc.snoc hm l[i+1]!;obtain⟨g0,g1⟩:=Lv c.aj l[i+1]! l[0]! hx h0;refine⟨_,?_,hs.congr λy=> ?_⟩
 ·unfold sN;simp only;rw[rZ,bC,gG,gG,zi,Cw hc.nn g0,g1];simp only;rw[aG,show ((i+1:Nat):Int)+1=((i+1+1:Nat):Int)by omega];have hci:(0:Int)<=((i+1:Nat):Int)/\((i+1:Nat):Int)<(l.length:Int):=by omega
  by_cases c1:l[i+1]! <c.ag
  ·rw[xZ (by omega)];by_cases c2:c.af<l[i+1]!
   ·have:=(hc.all _ hc.lo).2.1;omega
   ·rw[Int.max_eq_left (by omega)];simp only[bQ c1,bP c2,bt hci,bC,bz]
  ·rw[wP (by omega)];by_cases c2:c.af<l[i+1]!
   ·rw[Int.max_eq_right (by omega)];simp only[bP c1,bQ c2,bt hci,bC,bz]
   ·rw[Int.max_eq_left (by omega)];simp only[bP c1,bP c2,bt hci,bz]
 ·rw[bO (i:=i+1) hi,zV,zD]
def Jc{l:aa Int}(hn:l≠[])(hl:l.length<=1000000)(hr:∀x∈l,bX x):∃c,Yh l=Q (c,0)/\cS (· ∈l) c:=by
 have hp:0<l.length:=List.length_pos_iff.mpr hn;obtain⟨c,e1,hc⟩:=dD (cL:=sN) (l.length-1) (λi (c:aH)=>kA.mk l (i+1:Nat) (aH.mk 0 0 0) c) (λi c=>cS (· ∈l.take (i+1)) c)
  (λi c hi hI=>amH i (by omega) hl hr hI)
  (λc hI=>by
   unfold sN;simp only;rw[fO];rfl) (b:=dN l[0]!) ((iM l[0]!).congr λx=>by
   rw[bO hp];simp)
 have e0:bJ Af (tH.mk l 0 (aH.mk 0 0 0))=Q (tH.mk l (l.length:Nat) (aH.mk 0 0 0)):=Mf (cL:=Af) (λi=>tH.mk l (i:Nat) (aH.mk 0 0 0)) l.length (λi hi=>by
  unfold Af;simp only;rw[rZ,bC,gG,zi,DZ,bQ (hr _ (aV hi)),gH hi hl];rfl) (λr=>by
  unfold Af;simp only;rw[fO];intro h;cases h)
 refine⟨c,?_,hc.congr λx=>by rw[show l.length-1+1=l.length by omega,zR]⟩;unfold Yh;rw[show Wy=bJ Af from rfl,e0];simp only;rw[fO,bz,fO,bz,gG,gG];have e1:bJ sN (kA.mk l 1 (aH.mk 0 0 0) (aH.mk l[0]! l[0]! 0))=Q (kA.mk l ((l.length-1+1:Nat):Int) (aH.mk 0 0 0) c):=e1;rw[show WE=bJ sN from rfl,e1];simp only;rw[fO];rfl
def NN.oV{a:aH}(h:NN a):bX a.ag:=⟨h.lo,by have:=h.le;have:=h.hi;omega⟩
def NN.vK{a:aH}(h:NN a):bX a.af:=⟨by have:=h.le;have:=h.lo;omega,h.hi⟩
def Hp{x:Int}(h1: -2199023255552<=x)(h2:x<=2199023255552):(0:Int)<=jI x/\((jI x:Int)=x\/(jI x:Int)= -x):=by
 unfold jI;rw[aG (n:=0-x)];by_cases c:x<0-x
 ·rw[bt c];exact⟨by omega, .inr (show (0:Int)-x= -x by omega)⟩
 ·rw[bF c];exact⟨by omega, .inl rfl⟩
def Wm(g:Int){x:Int}(h1: -2199023255552<=x)(h2:x<=2199023255552):cj g (jI x)=cj g x:=by
 rcases (Hp h1 h2).2 with e|e
 ·rw[e]
 ·rw[e,gcd_neg]
def iS{a b:aH}(ha:NV a)(hb:NV b):l5 a b=Q (cc a b):=by
 unfold l5;rcases ha with rfl|ha
 ·rw[iW,gK];rfl
 rw[eR ha.ne,bz];rcases hb with rfl|hb
 ·rw[iW,pM];rfl
 rw[eR hb.ne,bz];by_cases e:a=b
 ·subst e;rw[GU,cI ha ha,P3 ha];rfl
 ·rw[Ge e];simp only[bz];have:=ha.lo;have:=ha.hi;have:=ha.le;have:=hb.lo;have:=hb.hi;have:=hb.le
  rw[aG (n:=a.ag-b.ag),Dj ha.s0 hb.s0 (Hp (by omega) (by omega)).1,Wm _ (by omega) (by omega)];simp only;rw[show (if b.ag<a.ag then b.ag else a.ag)=min a.ag b.ag by split<;>omega,show (if a.af<b.af then b.af else a.af)=max a.af b.af by split<;>omega,nG (by omega) (by omega) (lM _ _)];simp only;have hj:=jx ha hb;rw[cI ha hb];exact congrArg some (Lf hj.le hj.s0 hj.dvd (λk=>by rcases hj.st with h|h;exact h.2;exact cR k (Int.ne_of_lt h.1)))
def mg{a b:aH}(ha:NV a)(hb:NV b):lJ a b=Q (cc a b):=by
 unfold lJ;rcases ha with rfl|ha
 ·rw[nB,gK];rfl
 rw[iG ha,bz];rcases hb with rfl|hb
 ·rw[nB,pM];rfl
 rw[iG hb,bz];obtain⟨c,e,hc⟩:=Jc (l:=[a.ag,a.af,b.ag,b.af]) (by simp) (by simp) (λx hx=>by
  simp only[zF,List.not_mem_nil,or_false]at hx;rcases hx with rfl|rfl|rfl|rfl
  ·exact ha.oV
  ·exact ha.vK
  ·exact hb.oV
  ·exact hb.vK)
 rw[e];simp only;have m:∀x,(x=a.ag\/x=a.af\/x=b.ag\/x=b.af)->x∈[a.ag,a.af,b.ag,b.af]:=λx hx=>by simpa using hx
 have h1:=hc.lo;have h2:=hc.hi;simp only[zF,List.not_mem_nil,or_false]at h1 h2;have p1:=hc.all _ (m a.ag (by simp));have p2:=hc.all _ (m a.af (by simp));have p3:=hc.all _ (m b.ag (by simp));have p4:=hc.all _ (m b.af (by simp));have:=ha.le;have:=hb.le;have e1:c.ag=min a.ag b.ag:=by omega
 have e2:c.af=max a.af b.af:=by omega
 have hj:=jx ha hb;rw[cI ha hb];by_cases k:c.ag<c.af
 ·rw[bQ k,bC,Cw ha.s0 hb.s0];simp only;obtain⟨g0,g1⟩:=Lv (cj a.aj b.aj) a.ag b.ag ha.oV hb.oV;rw[Cw (lM _ _) g0,g1,e1,e2];rfl
 ·rw[bP k,bz]
  congr 1
  refine BX e1 e2 ?_;have hcv:NN c:=hc.valid (λx hx=>by
   simp only[zF,List.not_mem_nil,or_false]at hx;rcases hx with rfl|rfl|rfl|rfl
   ·exact ha.oV
   ·exact ha.vK
   ·exact hb.oV
   ·exact hb.vK)
  have s1:c.aj=0:=by rcases hcv.st with h|h;exact h.2;omega
  have s2:(jn a b).aj=0:=by
   rcases hj.st with h|h
   ·exact h.2
   ·have:min a.ag b.ag<max a.af b.af:=h.1;omega
  rw[s1,s2]
def af9{a b:aH}(ha:NV a)(hb:NV b):aeF a b=Q (cc a b,0):=by
 unfold aeF;rw[eX,eX,ew ha,ew hb];simp only[bC,bz];rw[iS ha hb]
def OP{a:aH}(h:NV a):cc a a=a:=by
 rcases h with rfl|h
 ·exact gK
 ·rw[cI h h,P3 h]
def nV{a b:aH}(ha:NV a)(hb:NV b):tQ a b=Q (cc a b):=by
 unfold tQ;by_cases e:a=b
 ·subst e;rw[GU,OP ha];rfl
 ·rw[Ge e,bz,af9 ha hb]
def cl(a:aH):Bool:=if 1<bW a then G else if bW a=1 then !cu a 0 else I
def uP{a:aH}(h:NN a):bW a=if a.aj=0 then 1 else(a.af-a.ag)/a.aj+1:=by
 unfold bW;rw[bF h.ne]
def size_pos{a:aH}(h:NN a):1<=bW a:=by
 rw[uP h];split
 ·omega
 ·have:0<=(a.af-a.ag)/a.aj:=zX (by have:=h.le;omega) h.s0;omega
def eN{a:aH}(h:NN a):bW a=1↔a.ag=a.af:=by
 rw[uP h];have hl:=h.le;rcases h.st with ⟨h1,h2⟩|⟨h1,h2,h3⟩
 ·rw[bt h2];exact⟨λ_=>h1,λ_=>rfl⟩
 ·rw[iB];constructor
  ·intro k;have:=wB (wO h3);rw[show (a.af-a.ag)/a.aj=0 by omega,xV]at this;omega
  ·omega
def Cj{a:aH}(h:NV a):NT a=Q (cu a 0,cl a):=by
 unfold NT cl;rw[Hr h,kN h];simp only;by_cases c:1<bW a
 ·rw[bQ c,bt c];rfl
 ·rw[bP c,bF c,bz];by_cases c1:bW a=1
  ·rw[bQ c1,bt c1,bC];rcases h with rfl|h
   ·exfalso;unfold bW at c1;rw[bt rfl]at c1;omega
   ·have e:=(eN h).mp c1;have s:a.aj=0:=by rcases h.st with k|k;exact k.2;omega
    by_cases c2:a.ag=0
    ·rw[bQ c2,e9 (show bk a 0 from⟨by omega,by omega,⟨0,by omega⟩⟩)];rfl
    ·rw[bP c2,jz (show ¬bk a 0 from λk=>by have:=k.1;have:=k.2.1;omega)];rfl
  ·rw[bP c1,bF c1];rfl
def QV{a:aH}(h:NV a):FB a=Q (cu a 0,cl a):=by
 unfold FB cl;rw[oh h,gx h];simp only;by_cases c:1<bW a
 ·rw[bQ c,bt c];rfl
 ·rw[bP c,bF c,bz];by_cases c1:bW a=1
  ·rw[bQ c1,bt c1,bC];cases cu a 0<;>rfl
  ·rw[bP c1,bF c1];rfl
def Cn{a:aH}(h:NV a):Nl a=Q (cu a 0,cl a):=by
 unfold Nl;rw[eX,ew h];simp only[bC,bz];rw[Cj h]
def gm:Bool->Bool->aH
 |true,G=>aH.mk 0 1 1
 |true,I=>aH.mk 0 0 0
 |false,G=>aH.mk 1 1 0
 |false,I=>cy
def abZ{a b:Bool}(h:(a||b)=G):j4 a b=gm a b:=by
 cases a<;>cases b<;>first|rfl|cases h
def Rk(a b:Bool):oQ a b=Q (gm a b):=by
 have v0:NN (dN 0):=NN.one (by omega) (by omega);have v1:NN (dN 1):=NN.one (by omega) (by omega);have e:cc (dN 0) (dN 1)=aH.mk 0 1 1:=by rw[cI v0 v1];rfl
 unfold oQ;cases a<;>cases b
 ·rfl
 ·simp only[bz,bC];rw[show iV=cy from rfl,iS (.inl rfl) (.inr (show NN (gX 1)from v1)),gK];rfl
 ·simp only[bz,bC];rw[show iV=cy from rfl,iS (.inl rfl) (.inr (show NN (gX 0)from v0)),gK];rfl
 ·simp only[bC];rw[show iV=cy from rfl,iS (.inl rfl) (.inr (show NN (gX 0)from v0)),gK];simp only;rw[iS (.inr (show NN (gX 0)from v0)) (.inr (show NN (gX 1)from v1)),show cc (gX 0) (gX 1)=cc (dN 0) (dN 1)from rfl,e];rfl
def uA(a b:Bool):NV (gm a b):=by
 cases a<;>cases b
 ·exact .inl rfl
 ·exact .inr (NN.one (x:=1) (by omega) (by omega))
 ·exact .inr (NN.one (x:=0) (by omega) (by omega))
 ·exact .inr ⟨by decide,by decide,by decide, .inr ⟨by decide,by decide,by decide⟩⟩
def mG(P:Int->Prop)(c:aH):Prop:=(c=cy/\∀x,¬P x)\/(cS P c)
def mG.uniq{P:Int->Prop}{c d:aH}(h:mG P c)(k:mG P d):c=d:=by
 rcases h with ⟨h1,h2⟩|h<;>rcases k with ⟨k1,k2⟩|k
 ·rw[h1,k1]
 ·exact cR k.lo (h2 _)
 ·exact cR h.lo (k2 _)
 ·exact h.uniq k
def mG.congr{P zh:Int->Prop}{c:aH}(h:mG P c)(k:∀x,P x↔zh x):mG zh c:=by
 rcases h with ⟨h1,h2⟩|h
 ·exact .inl ⟨h1,λx hx=>h2 x ((k x).mpr hx)⟩
 ·exact .inr (h.congr k)
def mG.valid{P:Int->Prop}{c:aH}(h:mG P c)(hP:∀x,P x->bX x):NV c:=by
 rcases h with ⟨h1,h2⟩|h
 ·exact .inl h1
 ·exact .inr (h.valid hP)
def mG.none{P:Int->Prop}(h:∀x,¬P x):mG P cy:= .inl ⟨rfl,h⟩
def mG.join{P zh:Int->Prop}{a b:aH}(h:mG P a)(k:mG zh b)(ha:NV a)(hb:NV b):mG (λx=>P x\/zh x) (cc a b):=by
 rcases h with ⟨rfl,h2⟩|h
 ·rw[gK];exact k.congr λx=>⟨.inr,λe=>e.elim (λe=>cR e (h2 x)) id⟩
 ·rcases k with ⟨rfl,k2⟩|k
  ·rw[pM];exact .inr (h.congr λx=>⟨.inl,λe=>e.elim id (λe=>cR e (k2 x))⟩)
  ·have hn:∀{P:Int->Prop} {c:aH},cS P c->NV c->NN c:=λ{P c} e v=>by
    rcases v with rfl|v
    ·have:=(e.all _ e.lo).2.1;exact cR this (by decide)
    ·exact v
   rw[cI (hn h ha) (hn k hb)];exact .inr (h.join k)
def mG.mem{a:aH}(h:NV a):mG (bk a) a:=by
 rcases h with rfl|h
 ·exact .inl ⟨rfl,λx=>ue⟩
 ·exact .inr h.dL
def Us{a:aH}(h:NV a){x:Int}(hx:bk a x):bX x:=by
 rcases h with rfl|h
 ·exact cR hx ue
 ·have:=h.lo;have:=h.hi;have:=hx.1;have:=hx.2.1
  exact⟨by omega,by omega⟩
def Cd{lo hi st:Int}(h1:lo<=hi)(h2:1<=st):(gi lo hi st).af=lo+(hi-lo)/st*st:=by
 unfold gi;rw[iB,iB];by_cases c3:lo=lo+(hi-lo)/st*st
 ·rw[bt c3];exact c3
 ·rw[bF c3]
def NN.st1{a:aH}(h:NN a)(k:a.ag<a.af):1<=a.aj:=by rcases h.st with h|h<;>omega
def Ex(P:Int->Prop)(c:aH):Prop:=NV c/\∀x,bk c x↔P x
def Ex.rep{P:Int->Prop}{c:aH}(h:Ex P c):mG P c:=(mG.mem h.1).congr h.2
def S3{a:aH}(h:NN a){at_:Int}(h1:a.ag<=at_)(h2:at_<a.af):Ex (λx=>bk a x/\x<=at_) (gi a.ag at_ a.aj):=by
 have hs:=h.st1 (by omega);have hl:=h.lo;have hh:=h.hi
 refine⟨.inr (jk hl (by omega) h1 h.s0),λx=> ?_⟩;rw[ki h1 hs];exact⟨λ⟨k1,k2,k3⟩=>⟨⟨k1,by omega,k3⟩,k2⟩,λ⟨⟨k1,_,k3⟩,k2⟩=>⟨k1,k2,k3⟩⟩
def KT{a:aH}(h:NN a){at_:Int}(h1:a.ag<=at_)(h2:at_<a.af):
  Ex (λx=>bk a x/\at_<x) (gi (a.ag+((at_-a.ag)/a.aj+1)*a.aj) a.af a.aj)/\a.ag<a.ag+((at_-a.ag)/a.aj+1)*a.aj/\a.ag+((at_-a.ag)/a.aj+1)*a.aj<=a.af:=by
 have hs:=h.st1 (by omega);have hl:=h.lo;have hh:=h.hi
 have q2:(at_-a.ag)/a.aj*a.aj<=at_-a.ag:=y9 _ (by omega);have q4:=w9 (at_-a.ag) (show 0<a.aj by omega);have up:∀x,a.aj∣x-a.ag->at_<x->a.ag+((at_-a.ag)/a.aj+1)*a.aj<=x:=λx hd hx=>by
  obtain⟨q,hq⟩:=hd;rw[zG]at hq;have:(at_-a.ag)/a.aj<q:=wN (a:=a.aj) (by omega) (by omega);have:((at_-a.ag)/a.aj+1)*a.aj<=q*a.aj:=zM (by omega) (by omega);omega
 have hle:=up a.af h.dvd h2;have hd:a.aj∣((at_-a.ag)/a.aj+1)*a.aj:=xz ..;refine⟨⟨.inr (jk (by omega) hh hle h.s0),λx=> ?_⟩,by omega,hle⟩;rw[ki hle hs];constructor
 ·rintro⟨k1,k2,k3⟩;have:=yW k3 hd;rw[show x-(a.ag+((at_-a.ag)/a.aj+1)*a.aj)+((at_-a.ag)/a.aj+1)*a.aj=x-a.ag by omega]at this;exact⟨⟨by omega,k2,this⟩,by omega⟩
 ·rintro⟨⟨k1,k2,k3⟩,k4⟩;have:=yw k3 hd;rw[show x-a.ag-((at_-a.ag)/a.aj+1)*a.aj=x-(a.ag+((at_-a.ag)/a.aj+1)*a.aj)by omega]at this;exact⟨up x k3 k4,k2,this⟩
def Ck{a:aH}(h:NV a){zh:Int->Prop}(k:∀x,bk a x->zh x):Ex (λx=>bk a x/\zh x) a:=⟨h,λx=>⟨λe=>⟨e,k x e⟩,λe=>e.1⟩⟩
def qV{a:aH}{zh:Int->Prop}(k:∀x,bk a x->¬zh x):Ex (λx=>bk a x/\zh x) cy:=⟨.inl rfl,λx=>⟨λe=>cR e ue,λe=>cR e.2 (k x e.1)⟩⟩
def tX{a:aH}(h:NV a)(at_:Int):∃l u,BI a at_=Q (l,u)/\Ex (λx=>bk a x/\x<=at_) l/\Ex (λx=>bk a x/\at_<x) u:=by
 unfold BI;rcases h with rfl|h
 ·refine⟨cy,cy,?_,qV λx hx=>cR hx ue,qV λx hx=>cR hx ue⟩;rw[iW];rfl
 ·rw[eR h.ne,bz];have hle:=h.le;have hl:=h.lo;have hh:=h.hi
  by_cases c1:at_<a.ag
  ·rw[bQ c1];exact⟨cy,a,rfl,qV λx hx k=>by have:=hx.1;omega,Ck (.inr h) λx hx=>by have:=hx.1;omega⟩
  ·rw[bP c1];simp only[bz];by_cases c2:a.af<=at_
   ·rw[bQ c2];exact⟨a,cy,rfl,Ck (.inr h) λx hx=>by have:=hx.2.1;omega,qV λx hx k=>by have:=hx.2.1;omega⟩
   ·have hs:=h.st1 (by omega);obtain⟨r1,r2,r3⟩:=KT h (at_:=at_) (by omega) (by omega);have e:a.ag+((at_-a.ag)/a.aj+1)*a.aj=a.ag+(at_-a.ag)/a.aj*a.aj+a.aj:=by rw[zQ,zU];omega
    rw[e]at r1 r2 r3;rw[bP c2,bz,nG (by omega) (by omega) h.s0];simp only;rw[Cd (by omega) hs,aG,nG (by omega) (by omega) h.s0];exact⟨_,_,rfl,S3 h (by omega) (by omega),r1⟩
def CV{a:aH}(h:NV a)(at_:Int):∃l,m41 a at_=Q l/\Ex (λx=>bk a x/\x<=at_) l:=by
 unfold m41;rcases h with rfl|h
 ·exact⟨cy,rfl,qV λx hx=>cR hx ue⟩
 ·rw[iG h,bz];have hle:=h.le;have hl:=h.lo;have hh:=h.hi
  by_cases c1:at_<a.ag
  ·rw[bQ c1];exact⟨cy,rfl,qV λx hx k=>by have:=hx.1;omega⟩
  ·rw[bP c1];simp only[bz];by_cases c2:a.af<=at_
   ·rw[bQ c2];exact⟨a,rfl,Ck (.inr h) λx hx=>by have:=hx.2.1;omega⟩
   ·rw[bP c2,bz,jD h.oV ⟨by omega,by omega⟩ (h.st1 (by omega))];exact⟨_,rfl,S3 h (by omega) (by omega)⟩
def td{a:aH}(h:NV a)(at_:Int):∃u,U5 a at_=Q u/\Ex (λx=>bk a x/\at_<x) u:=by
 unfold U5;rcases h with rfl|h
 ·refine⟨cy,?_,qV λx hx=>cR hx ue⟩;rw[nB];rfl
 ·rw[iG h,bz];have hle:=h.le;have hl:=h.lo;have hh:=h.hi
  by_cases c1:a.af<=at_
  ·rw[bQ c1];exact⟨cy,rfl,qV λx hx k=>by have:=hx.2.1;omega⟩
  ·rw[bP c1];simp only[bz];by_cases c2:at_<a.ag
   ·rw[bQ c2];exact⟨a,rfl,Ck (.inr h) λx hx=>by have:=hx.1;omega⟩
   ·have hs:=h.st1 (by omega);obtain⟨r1,r2,r3⟩:=KT h (at_:=at_) (by omega) (by omega);have q0:0<=(at_-a.ag)/a.aj:=zX (by omega) (by omega);have q1:(at_-a.ag)/a.aj<=at_-a.ag:=yg _ (by omega);rw[bP c2,bz,gG,aG (n:=at_-a.ag),j5,aG (n:=(at_-a.ag)/a.aj),aG (n:=(at_-a.ag)/a.aj+1),
     aG (n:=((at_-a.ag)/a.aj+1)*a.aj),aG,jD ⟨by omega,by omega⟩ h.vK hs]
    exact⟨_,rfl,r1⟩
def mG.empty{P:Int->Prop}{c:aH}(h:mG P c)(hv:NV c):fB c=lT c/\((fB c=G/\c=cy/\∀x,¬P x)\/(fB c=I/\NN c/\cS P c)):=by
 rcases h with ⟨rfl,h⟩|h
 ·exact⟨by rw[iW];rfl, .inl ⟨iW,rfl,h⟩⟩
 ·rcases hv with rfl|hv
  ·exact cR (h.all _ h.lo).2.1 (by decide)
  ·exact⟨by rw[eR hv.ne,iG hv], .inr ⟨eR hv.ne,hv,h⟩⟩
def tu(a:aH)(lo hi:Int)(y:Int):Prop:=∃x,bk a x/\y=max lo (min x hi)
def Y7{a:aH}{lo hi y:Int}(h1:bX lo)(h2:bX hi)(h3:lo<=hi)(h:tu a lo hi y):bX y:=by
 obtain⟨x,_,rfl⟩:=h;obtain⟨a1,a2⟩:=h1;obtain⟨b1,b2⟩:=h2;exact⟨by omega,by omega⟩
def HP(x:Int):mG (· =x) (dN x):= .inr (iM x)
def qH{x:Int}(h:bX x):NV (dN x):= .inr (NN.one h.1 h.2)
def m7{zh R:Int->Prop}{c d:aH}{b:Int}(hc:mG zh c)(vc:NV c)(hb:bX b)(hd:mG R d)(vd:NV d):
  (fB d=G->mG (λy=>zh y\/(y=b/\∃x,R x)) c)/\(fB d=I->mG (λy=>zh y\/(y=b/\∃x,R x)) (cc c (dN b))):=by
 rcases (hd.empty vd).2 with ⟨e1,rfl,e3⟩|⟨e1,e2,e3⟩
 ·refine⟨λ_=>hc.congr λx=>⟨.inl,λh=>h.elim id λh=>cR h.2.choose_spec (e3 _)⟩,λh=> ?_⟩;rw[e1]at h;cases h
 ·refine⟨λh=> ?_,λ_=>((hc.join (HP b) vc (qH hb)).congr λx=>⟨λh=>h.elim .inl λh=> .inr ⟨h,_,e3.lo⟩,λh=>h.elim .inl λh=> .inr h.1⟩)⟩;rw[e1]at h;cases h
def Dy{a:aH}(h:NV a)(lo hi:Int):(∃c,m81 a lo hi=Q (c,0)/\m86 a lo hi=Q (c,0)/\mG (tu a lo hi) c/\NV c/\bX lo/\bX hi/\lo<=hi)\/
  (m81 a lo hi=Q (aH.mk 0 0 0,3)/\m86 a lo hi=Q (aH.mk 0 0 0,3)/\¬(bX lo/\bX hi/\lo<=hi)):=by
 unfold m81 m86;rw[eX,fU,ew h,j0,j0,uw,uw];simp only[bC,bz];by_cases h1: -1099511627776<=lo/\lo<=1099511627776
 ·by_cases h2: -1099511627776<=hi/\hi<=1099511627776
  ·by_cases h3:hi<lo
   ·right;rw[bQ h1,bQ h2,bQ h3];exact⟨rfl,rfl,λk=>by have:=k.2.2;omega⟩
   ·left;rw[bQ h1,bQ h2,bP h3];simp only[bC,bz];rw[aG (n:=lo-1)];obtain⟨un,re,e1,r1,r2⟩:=tX h (lo-1);obtain⟨ins,ov,e2,r3,r4⟩:=tX r2.1 hi;have mi:∀x,bk ins x↔bk a x/\lo<=x/\x<=hi:=λx=>⟨λk=>let ⟨k1,k2⟩:=(r3.2 x).mp k;let ⟨k3,k4⟩:=(r2.2 x).mp k1;⟨k3,by omega,k2⟩,λ⟨k1,k2,k3⟩=>(r3.2 x).mpr ⟨(r2.2 x).mpr ⟨k1,by omega⟩,k3⟩⟩;have mo:∀x,bk ov x↔bk a x/\hi<x:=λx=>⟨λk=>let ⟨k1,k2⟩:=(r4.2 x).mp k;let ⟨k3,k4⟩:=(r2.2 x).mp k1;⟨k3,k2⟩,λ⟨k1,k2⟩=>(r4.2 x).mpr ⟨(r2.2 x).mpr ⟨k1,by omega⟩,k2⟩⟩;obtain⟨x1,f1,s1⟩:=td h (lo-1);obtain⟨x2,f2,s2⟩:=CV s1.1 hi;obtain⟨x3,f3,s3⟩:=CV h lo;obtain⟨x4,f4,s4⟩:=td h hi;have m2:∀x,bk x2 x↔bk a x/\lo<=x/\x<=hi:=λx=>⟨λk=>let ⟨k1,k2⟩:=(s2.2 x).mp k;let ⟨k3,k4⟩:=(s1.2 x).mp k1;⟨k3,by omega,k2⟩,λ⟨k1,k2,k3⟩=>(s2.2 x).mpr ⟨(s1.2 x).mpr ⟨k1,by omega⟩,k3⟩⟩;have rlo:bX lo:=h1;have rhi:bX hi:=h2;have nb:∀b:Bool,(match b with|true=>true|false=>false)=b:=λb=>by cases b<;>rfl
    obtain⟨t1,t2⟩:=m7 (Ex.rep ⟨r3.1,mi⟩) r3.1 rlo r1.rep r1.1;have P:∃c,(match BI a (lo-1)with|V=>V|Q r3=>match BI r3.snd hi with|V=>V|Q r4=>bif bif fB r3.fst then I else G then match l5 r4.fst (gX lo)with|V=>V|Q r5=>bif bif fB r4.snd then I else G then match l5 r5 (gX hi)with|V=>V|Q r6=>Q (r6,(0:Int))else Q (r5,0)else bif bif fB r4.snd then I else G then match l5 r4.fst (gX hi)with|V=>V|Q r7=>Q (r7,0)else Q (r4.fst,0))=Q (c,0)/\mG (tu a lo hi) c:=by
     have fin:∀c,NV c->mG (λy=>(bk a y/\lo<=y/\y<=hi)\/(y=lo/\∃x,bk a x/\x<=lo-1)) c->∃d,(bif bif fB ov then I else G then match l5 c (gX hi)with|V=>V|Q r6=>Q (r6,(0:Int))else Q (c,0))=Q (d,0)/\mG (tu a lo hi) d:=λc vc hc=>by
      obtain⟨u1,u2⟩:=m7 hc vc rhi (Ex.rep ⟨r4.1,mo⟩) r4.1;have eq:∀y,(((bk a y/\lo<=y/\y<=hi)\/(y=lo/\∃x,bk a x/\x<=lo-1))\/(y=hi/\∃x,bk a x/\hi<x))↔tu a lo hi y:=λy=>by
       constructor
       ·rintro((⟨k1,k2,k3⟩|⟨rfl,x,k1,k2⟩)|⟨rfl,x,k1,k2⟩)
        ·exact⟨y,k1,by omega⟩
        ·exact⟨x,k1,by omega⟩
        ·exact⟨x,k1,by omega⟩
       ·rintro⟨x,k1,rfl⟩;rcases (show x<lo\/hi<x\/(lo<=x/\x<=hi)by omega)with k|k|k
        ·exact .inl (.inr ⟨by omega,x,k1,by omega⟩)
        ·exact .inr ⟨by omega,x,k1,k⟩
        ·rw[show max lo (min x hi)=x by omega];exact .inl (.inl ⟨k1,k.1,k.2⟩)
      cases ho:fB ov with
      |true=>exact⟨c,rfl,(u1 ho).congr eq⟩
      |false=>
       simp only[bz,bC];rw[iS vc (.inr (show NN (gX hi)from NN.one h2.1 h2.2))];exact⟨_,rfl,(u2 ho).congr eq⟩
     rw[e1];simp only;rw[e2];simp only;cases hu:fB un with
     |true=>
      simp only[bz,bC];exact fin ins r3.1 (t1 hu)
     |false=>
      simp only[bz,bC];rw[iS r3.1 (.inr (show NN (gX lo)from NN.one h1.1 h1.2))];exact fin (cc ins (dN lo)) (ek r3.1 (qH rlo)) (t2 hu)
    obtain⟨c,P1,P2⟩:=P;have vc:NV c:=P2.valid λx hx=>Y7 rlo rhi (by omega) hx;refine⟨c,P1,?_,P2,vc,rlo,rhi,by omega⟩;have fin:∀c',NV c'->mG (λy=>(bk a y/\lo<=y/\y<=hi)\/(y=lo/\∃x,bk a x/\x<=lo)) c'->(match U5 a hi with|V=>V|Q r7=>bif bif lT r7 then I else G then match lJ c' (aH.mk hi hi 0)with|V=>V|Q r8=>Q (r8,(0:Int))else Q (c',0))=Q (c,0):=λc' vc' hc'=>by
     obtain⟨u1,u2⟩:=m7 hc' vc' rhi s4.rep s4.1;have eq:∀y,(((bk a y/\lo<=y/\y<=hi)\/(y=lo/\∃x,bk a x/\x<=lo))\/(y=hi/\∃x,bk a x/\hi<x))↔tu a lo hi y:=λy=>by
      constructor
      ·rintro((⟨k1,k2,k3⟩|⟨rfl,x,k1,k2⟩)|⟨rfl,x,k1,k2⟩)
       ·exact⟨y,k1,by omega⟩
       ·exact⟨x,k1,by omega⟩
       ·exact⟨x,k1,by omega⟩
      ·rintro⟨x,k1,rfl⟩;rcases (show x<lo\/hi<x\/(lo<=x/\x<=hi)by omega)with k|k|k
       ·exact .inl (.inr ⟨by omega,x,k1,by omega⟩)
       ·exact .inr ⟨by omega,x,k1,k⟩
       ·rw[show max lo (min x hi)=x by omega];exact .inl (.inl ⟨k1,k.1,k.2⟩)
     rw[f4];simp only;rw[<-(s4.rep.empty s4.1).1];cases ho:fB x4 with
     |true=>
      rw[((u1 ho).congr eq).uniq P2];rfl
     |false=>
      simp only[bz,bC];rw[mg vc' (.inr (show NN (aH.mk hi hi 0)from NN.one h2.1 h2.2))];simp only;rw[show cc c' (aH.mk hi hi 0)=c from((u2 ho).congr eq).uniq P2]
    obtain⟨t1,t2⟩:=m7 (Ex.rep ⟨s2.1,m2⟩) s2.1 rlo s3.rep s3.1;rw[f1];simp only;rw[f2];simp only;rw[f3];simp only;rw[<-(s3.rep.empty s3.1).1];cases hu:fB x3 with
    |true=>
     simp only[bz,bC];exact fin x2 s2.1 (t1 hu)
    |false=>
     simp only[bz,bC];rw[mg s2.1 (.inr (show NN (aH.mk lo lo 0)from NN.one h1.1 h1.2))];exact fin _ (ek s2.1 (qH rlo)) (t2 hu)
  ·right;rw[bQ h1,bP h2];refine⟨?_,rfl,λk=>h2 k.2.1⟩;cases O (hi<lo)<;>rfl
 ·right;rw[bP h1];refine⟨?_,rfl,λk=>h1 k.1⟩;cases O (hi<lo)<;>rfl
def fR{a:aH}(h:NV a):cl a=G↔∃x,bk a x/\x≠0:=by
 unfold cl;rcases h with rfl|h
 ·rw[show bW cy=0 from by unfold bW;rw[bt rfl],iB,iB];exact⟨λk=>(by cases k),λ⟨x,k,_⟩=>cR k ue⟩
 ·have hp:=size_pos h;have h1:=eN h;have hle:=h.le;have mlo:bk a a.ag:=⟨zm _,h.le,⟨0,by omega⟩⟩;have mhi:bk a a.af:=⟨h.le,zm _,h.dvd⟩;by_cases c:1<bW a
  ·rw[bt c];refine⟨λ_=> ?_,λ_=>rfl⟩;by_cases z:a.ag=0
   ·exact⟨a.af,mhi,λk=>by have:=h1.mpr (by omega);omega⟩
   ·exact⟨a.ag,mlo,z⟩
  ·rw[bF c,bt (show bW a=1 by omega)];have e:=h1.mp (by omega);constructor
   ·intro k;refine⟨a.ag,mlo,λz=> ?_⟩;rw[e9 (show bk a 0 by rw[<-z];exact mlo)]at k;cases k
   ·rintro⟨x,k1,k2⟩;rw[jz (show ¬bk a 0 from λk=>by have:=k.1;have:=k.2.1;have:=k1.1;have:=k1.2.1;omega)];rfl
def zero_or{a:aH}(h:NN a):(cl a||cu a 0)=G:=by
 have mlo:bk a a.ag:=⟨zm _,h.le,⟨0,by omega⟩⟩;by_cases z:a.ag=0
 ·rw[e9 (show bk a 0 by rw[<-z];exact mlo),Bool.or_true]
 ·rw[(fR (.inr h)).mpr ⟨_,mlo,z⟩,Bool.true_or]
def adn(a:aH):aH:=aH.mk (-a.af) (-a.ag) a.aj
def ab7{a:aH}(h:NN a):NN (adn a):=by
 have:=h.lo;have:=h.hi;have:=h.le
 refine⟨by show _<= -a.af;omega,by show-a.ag<=_;omega,by show-a.af<= -a.ag;omega,?_⟩;rcases h.st with ⟨h1,h2⟩|⟨h1,h2,h3⟩
 ·exact .inl ⟨by show-a.af= -a.ag;omega,h2⟩
 ·refine .inr ⟨by show-a.af< -a.ag;omega,h2,?_⟩;show (-a.ag- -a.af)%a.aj=0;rw[show-a.ag- -a.af=a.af-a.ag by omega];exact h3
def kz(op:Int)(a:aH):aH×Int:=open Classical in
 if¬NV a\/(op≠6/\op≠7)then(aH.mk 0 0 0,1)else if a=cy then(cy,0)else if op=7 then(gm (cl a) (cu a 0),0)else(adn a,0)
def Up(op:Int):(bif bif O (op=6)then I else G then Q (bif O (op=7)then I else G)else Q I)=Q (O (op≠6/\op≠7)):=by
 by_cases h:op=6
 ·rw[bQ h,bP (show ¬(op≠6/\op≠7)from λk=>k.1 h)];rfl
 ·by_cases k:op=7
  ·rw[bP h,bQ k,bP (show ¬(op≠6/\op≠7)from λe=>e.2 k)];rfl
  ·rw[bP h,bP k,bQ (show op≠6/\op≠7 from⟨h,k⟩)];rfl
def Tc{a:aH}(h:NV a)(op:Int):aac op a=Q (kz op a):=by
 unfold aac kz;rw[eX,ew h];simp only[bC,bz];rw[Up];by_cases ho:op≠6/\op≠7
 ·rw[bQ ho,bt (.inr ho)];rfl
 ·rw[bP ho,bF (λk=>k.elim (λe=>e h) ho)];simp only[bz];rcases h with rfl|h
  ·rw[iW,bt rfl];rfl
  ·rw[eR h.ne,bF h.ne,bz];by_cases h7:op=7
   ·rw[bQ h7,bt h7,bC,Cj (.inr h)];simp only;rw[Rk]
   ·rw[bP h7,bF h7,bz];have:=h.lo;have:=h.hi;have:=h.le
    rw[aG (n:=0-a.af),aG (n:=0-a.ag),Int.zero_sub,Int.zero_sub];rfl
def OA:NV (aH.mk 0 0 0):= .inr (NN.one (x:=0) (by omega) (by omega))
def mM(x y:Int):Int:=if y=0 then 0 else if x.tmod y≠0/\(O (x<0))≠(O (y<0))then x.tdiv y-1 else x.tdiv y
def sI{x y:Int}(hy:y≠0):∃q r:Int,x.tdiv y=q/\x.tmod y=r/\y*q+r=x/\r.natAbs<y.natAbs/\q.natAbs<=x.natAbs/\(0<=x->0<=r)/\(x<=0->r<=0)/\(r≠0->q.natAbs<x.natAbs):=by
 refine⟨_,_,rfl,rfl,vb x y,?_,?_,λh=>Int.tmod_nonneg _ h,λh=> ?_,λh=> ?_⟩
 ·rw[wC];exact y6 _ (by omega)
 ·rw[Int.natAbs_tdiv];exact Nat.div_le_self _ _
 ·have:=Int.tmod_nonneg (a:= -x) y (by omega);rw[Int.neg_tmod]at this;omega
 ·have e:=wJ x.natAbs y.natAbs;have hr:(x.tmod y).natAbs≠0:=by omega
  rw[wC]at hr;rw[Int.natAbs_tdiv];have h1:x.natAbs/y.natAbs<=y.natAbs*(x.natAbs/y.natAbs):=Nat.le_mul_of_pos_left _ (by omega);show x.natAbs/y.natAbs<x.natAbs;omega
def Oy{x y:Int}(hx:bX x):bX (mM x y)/\(mM x y).natAbs<=x.natAbs:=by
 unfold mM;obtain⟨h1,h2⟩:=hx;by_cases hy:y=0
 ·rw[bt hy];exact⟨⟨by omega,by omega⟩,by omega⟩
 ·rw[bF hy];obtain⟨q,r,e1,e2,e3,e4,e5,_,_,e6⟩:=sI (x:=x) hy;rw[e1,e2];split
  ·rename_i h;have:=e6 h.1;exact⟨⟨by omega,by omega⟩,by omega⟩
  ·exact⟨⟨by omega,by omega⟩,by omega⟩
def M5{x y:Int}(hy:bX y)(h0:y≠0):bX (x-y*mM x y)/\(0<y->0<=x-y*mM x y/\x-y*mM x y<y)/\(y<0->x-y*mM x y<=0/\y<x-y*mM x y):=by
 unfold mM;rw[bF h0];obtain⟨h1,h2⟩:=hy;obtain⟨q,r,e1,e2,e3,e4,e5,e7,e8,e6⟩:=sI (x:=x) h0;rw[e1,e2];by_cases h:r≠0/\O (x<0)≠O (y<0)
 ·rw[bt h,x8,yX];obtain⟨k1,k2⟩:=h;by_cases c:x<0
  ·have c2:¬y<0:=λk=>k2 (by rw[bQ c,bQ k]);have:=e8 (by omega);exact⟨⟨by omega,by omega⟩,λ_=>by omega,λ_=>by omega⟩
  ·have c2:y<0:=Decidable.byContradiction λk=>k2 (by rw[bP c,bP k]);have:=e7 (by omega);exact⟨⟨by omega,by omega⟩,λ_=>by omega,λ_=>by omega⟩
 ·rw[bF h];by_cases k1:r=0
  ·exact⟨⟨by omega,by omega⟩,λ_=>by omega,λ_=>by omega⟩
  ·have k2:O (x<0)=O (y<0):=Decidable.byContradiction λk=>h ⟨k1,k⟩;by_cases c:x<0
   ·have c2:y<0:=by
     rw[bQ c]at k2;exact of_decide_eq_true k2.symm
    have:=e8 (by omega);exact⟨⟨by omega,by omega⟩,λ_=>by omega,λ_=>by omega⟩
   ·have c2:¬y<0:=by
     rw[bP c]at k2;exact of_decide_eq_false k2.symm
    have:=e7 (by omega);exact⟨⟨by omega,by omega⟩,λ_=>by omega,λ_=>by omega⟩
def He{x y:Int}(hx:bX x)(hy:bX y):YD x y=Q (mM x y):=by
 have hR:=Oy (y:=y) hx;unfold YD;unfold mM at hR ⊢;obtain⟨h1,h2⟩:=hx;by_cases h0:y=0
 ·rw[bQ h0,bt h0];rfl
 ·rw[bF h0]at hR;rw[bP h0,bF h0,bz,bt h0,bt h0,BF];obtain⟨q,r,e1,e2,e3,e4,e5,e7,e8,e6⟩:=sI (x:=x) h0;rw[e1,e2]at hR ⊢;by_cases k1:r=0
  ·rw[bP (show ¬¬r=0 by omega),bF (λk=>k.1 k1)];simp only[bz];rw[aG]
  ·rw[bQ k1];simp only[bC];by_cases k2:O (x<0)=O (y<0)
   ·rw[bF (λk=>k.2 k2),k2];have:(bif O (y<0)==O (y<0)then false else true)=false:=by cases O (y<0)<;>rfl
    rw[this];simp only[bz];rw[aG]
   ·rw[bt ⟨k1,k2⟩]at hR ⊢;have:(bif O (x<0)==O (y<0)then I else G)=G:=by
     revert k2;cases O (x<0)<;>cases O (y<0)<;>first|(intro k2;exact cR rfl k2)|(intro _;rfl)
    rw[this];simp only[bC];rw[aG (n:=q),aG (n:=q-1)]
def Sh{x y:Int}(hx:bX x)(hy:bX y):amD x y=Q (mM x y):=He hx hy
def mK(b:Bool):Int:=if b then 1 else 0
def fD(op x y:Int):Int:=
 if op=8 then x+y else if op=9 then x-y else if op=10 then x*y else if op=11 then mM x y else if op=12 then(if y=0 then 0 else x-y*mM x y)
 else if op=13 then mK (O (x=y))else if op=14 then mK (!O (x=y))else if op=15 then mK (O (x<y))else if op=16 then mK (O (x<=y))else if op=17 then mK (O (y<x))else if op=18 then mK (O (y<=x))
 else if op=19 then mK (O (x≠0/\y≠0))else if op=20 then mK (O (x≠0\/y≠0))else if op=21 then min x y else max x y
def sv(b:Bool):bX (mK b):=by cases b<;>exact⟨by decide,by decide⟩
def acs{op x y:Int}(hx:bX x)(hy:bX y)(ho:op=11\/op=12\/op=21\/op=22):Um op x y=Q (fD op x y):=by
 unfold Um fD;rcases ho with rfl|rfl|rfl|rfl
 ·rw[bQ rfl,bC,He hx hy];rfl
 ·rw[bP (by decide),bQ rfl,bz,bC];show _=Q (if y=0 then 0 else x-y*mM x y);by_cases h0:y=0
  ·rw[bQ h0,bt h0];rfl
  ·rw[bP h0,bF h0,bz,He hx hy];simp only;have hm:=M5 (x:=x) hy h0;obtain⟨a1,a2⟩:=hx;obtain⟨b1,b2⟩:=hy;obtain⟨⟨c1,c2⟩,_⟩:=hm;rw[aG (n:=y*mM x y),aG]
 ·rw[bP (by decide),bP (by decide),bQ rfl];simp only[bz,bC];rw[show (if y<x then y else x)=min x y by split<;>omega];rfl
 ·rw[bP (show ¬(22:Int)=11 by decide),bP (show ¬(22:Int)=12 by decide),bP (show ¬(22:Int)=21 by decide)];simp only[bz];rw[show (if x<y then y else x)=max x y by split<;>omega];rfl
def binop(op:Int):Prop:=8<=op/\op<=22
def uG{x:Int}(hx:bX x):@Eq Int (ke x 0) ((x.natAbs:Nat):Int):=by
 unfold ke;obtain⟨h1,h2⟩:=hx;by_cases c:x<0
 ·rw[bQ c,bC,aG];show @Eq Int (0-x) ((x.natAbs:Nat):Int);omega
 ·rw[bP c,bz,aG];show @Eq Int (x-0) ((x.natAbs:Nat):Int);omega
def mO{x:Int}(hx:bX x):@Eq Int (jI x) ((x.natAbs:Nat):Int):=by
 obtain⟨h1,h2⟩:=hx;obtain⟨k1,k2⟩:=Hp (x:=x) (by omega) (by omega);generalize jI x=z at*;have k1:(0:Int)<=z:=k1;have k2:@Eq Int z x\/@Eq Int z (-x):=k2;show @Eq Int z ((x.natAbs:Nat):Int);omega
def J8{x y:Int}(h0:x≠0):((1099511627776:Int)/x.natAbs<y.natAbs)↔¬bX (x*y):=by
 have hp:(0:Int)<(x.natAbs:Int):=by omega
 have e:((x*y).natAbs:Int)=(y.natAbs:Int)*(x.natAbs:Int):=by rw[Int.natAbs_mul,xo,zG]
 have hi:bX (x*y)↔((x*y).natAbs:Int)<=1099511627776:=⟨λ⟨h1,h2⟩=>by omega,λh=>⟨by omega,by omega⟩⟩;rw[hi,e,<-Int.le_ediv_iff_mul_le hp];omega
def abK(b:Bool):CQ b=mK b:=by cases b<;>rfl
def eG{op x y v:Int}(h:v=fD op x y)(hr:bX (fD op x y)):∃w,Q (v,G)=Q (w,O (bX (fD op x y)))/\(bX (fD op x y)->w=fD op x y):=⟨v,by rw[bQ hr],λ_=>h⟩
def aeR{x y:Int}(hx:bX x)(hy:bX y):∃v,amp x y=Q (v,O (bX (x*y)))/\(bX (x*y)->v=x*y):=by
 unfold amp;rw[BF,BF,uG hx,uG hy];by_cases h0:x=0
 ·subst h0;rw[bP (show ¬¬(0:Int)=0 from λk=>k rfl)];simp only[bz];rw[xV,aG,bQ (show bX 0 from⟨by omega,by omega⟩)];exact⟨0,rfl,λ_=>rfl⟩
 ·rw[bQ h0,bC];by_cases h1:y=0
  ·subst h1;rw[bP (show ¬¬(0:Int)=0 from λk=>k rfl)];simp only[bz];rw[Int.mul_zero,aG,bQ (show bX 0 from⟨by omega,by omega⟩)];exact⟨0,rfl,λ_=>rfl⟩
  ·rw[bQ h1,bC,bt (show ¬@Eq Int ((y.natAbs:Nat):Int) 0 by omega),j5];have q0:0<=(1099511627776:Int)/((y.natAbs:Nat):Int):=zX (by omega) (by omega);have q1:(1099511627776:Int)/((y.natAbs:Nat):Int)<=1099511627776:=yg _ (by omega);rw[aG];simp only;have k:=J8 (x:=y) (y:=x) h1;rw[zG]at k;by_cases c:(1099511627776:Int)/((y.natAbs:Nat):Int)<((x.natAbs:Nat):Int)
   ·rw[bQ c,bP (k.mp c)];exact⟨0,rfl,λe=>cR e (k.mp c)⟩
   ·have hR:bX (x*y):=Decidable.byContradiction λe=>c (k.mpr e);rw[bP c,bQ hR,aG (by have:=hR.1;omega) (by have:=hR.2;omega)];exact⟨x*y,rfl,λ_=>rfl⟩
def Ce{x y:Int}(hx:bX x)(hy:bX y):∃v,MR x y=Q (v,O (bX (x*y)))/\(bX (x*y)->v=x*y):=by
 unfold MR;rw[BF,mO hx,mO hy];by_cases h0:x=0
 ·subst h0;rw[bP (show ¬¬(0:Int)=0 from λk=>k rfl)];simp only[bz];rw[xV,aG,bQ (show bX 0 from⟨by omega,by omega⟩)];exact⟨0,rfl,λ_=>rfl⟩
 ·rw[bQ h0,bC,bt (show ¬@Eq Int ((x.natAbs:Nat):Int) 0 by omega),j5];have q0:0<=(1099511627776:Int)/((x.natAbs:Nat):Int):=zX (by omega) (by omega);have q1:(1099511627776:Int)/((x.natAbs:Nat):Int)<=1099511627776:=yg _ (by omega);rw[aG];simp only;have k:=J8 (x:=x) (y:=y) h0;by_cases c:(1099511627776:Int)/((x.natAbs:Nat):Int)<((y.natAbs:Nat):Int)
  ·rw[bQ c,bP (k.mp c)];exact⟨0,rfl,λe=>cR e (k.mp c)⟩
  ·have hR:bX (x*y):=Decidable.byContradiction λe=>c (k.mpr e);rw[bP c,bQ hR,aG (by have:=hR.1;omega) (by have:=hR.2;omega)];exact⟨x*y,rfl,λ_=>rfl⟩
def mb{op x y:Int}(hx:bX x)(hy:bX y)(ho:binop op):∃v,Fs op x y=Q (v,O (bX (fD op x y)))/\(bX (fD op x y)->v=fD op x y):=by
 obtain⟨o1,o2⟩:=ho;have hx':=hx;have hy':=hy;obtain⟨a1,a2⟩:=hx';obtain⟨b1,b2⟩:=hy';have cases15:op=8\/op=9\/op=10\/op=11\/op=12\/op=13\/op=14\/op=15\/op=16\/op=17\/op=18\/op=19\/op=20\/op=21\/op=22:=by omega
 unfold Fs;simp only[DZ,abK];rcases cases15 with rfl|rfl|rfl|rfl|rfl|rfl|rfl|rfl|rfl|rfl|rfl|rfl|rfl|rfl|rfl
 all_goals simp only[Int.reduceEq,fW,cX,bz,bC]
 ·rw[aG];exact⟨x+y,rfl,λ_=>rfl⟩
 ·rw[aG];exact⟨x-y,rfl,λ_=>rfl⟩
 ·obtain⟨v,e,h⟩:=aeR hx hy;rw[e];exact⟨v,rfl,h⟩
 ·rw[Sh hx hy];exact eG (op:=11) rfl (Oy hx).1
 ·by_cases h0:y=0
  ·rw[bQ h0];have e:fD 12 x y=0:=bt h0;exact eG (op:=12) e.symm (by rw[e];exact⟨by omega,by omega⟩)
  ·rw[bP h0,bz,Sh hx hy];simp only;have e:fD 12 x y=x-y*mM x y:=bF h0;have hm:=(M5 (x:=x) hy h0).1;obtain⟨c1,c2⟩:=hm;rw[aG (n:=y*mM x y),aG];exact eG (op:=12) e.symm (by rw[e];exact⟨c1,c2⟩)
 ·exact eG (op:=13) rfl (sv _)
 ·refine eG (op:=14) ?_ (sv _);show mK _=mK _
  congr 1
 ·exact eG (op:=15) rfl (sv _)
 ·exact eG (op:=16) rfl (sv _)
 ·exact eG (op:=17) rfl (sv _)
 ·exact eG (op:=18) rfl (sv _)
 ·rw[BF,BF];by_cases h0:x=0
  ·rw[bP (show ¬¬x=0 from λk=>k h0),bz];refine eG (op:=19) ?_ (sv _);show mK I=mK (O (x≠0/\y≠0));rw[bP (λk=>k.1 h0)]
  ·rw[bQ h0,bC];refine eG (op:=19) ?_ (sv _);show mK _=mK (O (x≠0/\y≠0))
   congr 1
   exact decide_eq_decide.mpr ⟨λk=>⟨h0,k⟩,λk=>k.2⟩
 ·rw[BF,BF];by_cases h0:x=0
  ·rw[bP (show ¬¬x=0 from λk=>k h0),bz];refine eG (op:=20) ?_ (sv _);show mK _=mK (O (x≠0\/y≠0))
   congr 1
   exact decide_eq_decide.mpr ⟨.inr,λk=>k.elim (λe=>cR h0 e) id⟩
  ·rw[bQ h0,bC];refine eG (op:=20) ?_ (sv _);show mK G=mK (O (x≠0\/y≠0));rw[bQ (.inl h0)]
 ·by_cases c:x<y
  ·rw[bQ c];have e:fD 21 x y=x:=wP (by omega);exact eG (op:=21) e.symm (by rw[e];exact hx)
  ·rw[bP c];have e:fD 21 x y=y:=xZ (by omega);exact eG (op:=21) e.symm (by rw[e];exact hy)
 ·by_cases c:y<x
  ·rw[bQ c];have e:fD 22 x y=x:=Int.max_eq_left (by omega);exact eG (op:=22) e.symm (by rw[e];exact hx)
  ·rw[bP c];have e:fD 22 x y=y:=Int.max_eq_right (by omega);exact eG (op:=22) e.symm (by rw[e];exact hy)
end Go.Proofs.YtnfljbehcffmcaaGreat
end
