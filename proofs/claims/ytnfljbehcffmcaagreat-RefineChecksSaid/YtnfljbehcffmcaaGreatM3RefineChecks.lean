/- Merged: Hn, Gd, Ho, Pl, Nd, Nd2, Nd3, Nd4, Nd5, Nd6, Nd7, Ne1, Pl2, Ne2, Ne3, Ne4, Ne5, Ne6, Ne7, Ne8, Ne11, Ne12. -/
import Derived.Test.YtnfljbehcffmcaaGreatM1RefineChecks
import Derived.Test.YtnfljbehcffmcaaGreatM2RefineChecks
import Derived.KernelRfl
open Nat renaming le_refl -> zl, zero_le -> yU, mod_lt -> xe, lt_succ_iff_lt_or_eq -> xk
open List renaming getElem?_eq_getElem -> zm, mem_singleton -> zo, all_eq_true -> zw, mem_cons -> zx, take_length -> zy, length_take -> zD, range -> zH, mem_append -> zP, length -> zY, drop -> ya, getElem_of_mem -> xd, getElem_take -> xK, getElem_mem -> xP, length_pos_iff -> wH, any_eq_true -> wN
open Int renaming toNat_natCast -> zg, le_refl -> zj, toNat -> zq, mul_nonneg -> zJ, mul_le_mul_of_nonneg_right -> zN, mul_comm -> zQ, ediv_nonneg -> zS, add_mul -> zU, dvd_trans -> zZ, mul_assoc -> yb, one_mul -> yc, ediv_le_self -> yl, dvd_sub -> yz, sub_mul -> yD, gcd -> yE, mul_ediv_add_emod -> yW, emod_nonneg -> yX, mul_le_mul -> yY, dvd_add -> yZ, emod_lt_of_pos -> y6, ediv_mul_le -> xo, mul_add -> xF, dvd_mul_left -> xG, dvd_zero -> xM, le_of_lt -> xU, le_trans -> xV, zero_sub -> xW, ediv_mul_cancel -> wm, natCast_mul -> wK, lt_of_mul_lt_mul_right -> wO, ediv_lt_of_lt_mul -> wZ, eq_ofNat_of_zero_le -> w9, mul_le_mul_of_nonneg_left -> va, dvd_of_emod_eq_zero -> ve, lt_ediv_add_one_mul_self -> vf
open Bool renaming and_eq_true -> zi, or_eq_true -> yC, true -> J, false -> O
open Option renaming some -> zF, some -> V, none -> G
open Decidable renaming decide -> vn
open Go.Proofs.Tryz renaming prog -> vp
open Go.Proofs.Tryz
set_option linter.unusedSectionVars false
set_option linter.unusedVariables false
set_option linter.unusedSimpArgs false
set_option linter.defProp false
noncomputable section
set_option maxRecDepth 100000
namespace Go.Proofs.YtnfljbehcffmcaaGreat
open Go Go.Iv
open Go.IntKind (i64 u64)
abbrev E80:=aK
def d80:Td 0 E80:= .c [] [2] (.r 0 1 (ec 2 (qp 0 0) en) (sb 0 34 (lg 34) sn) (λz=>z.2.1) (λx=>(((),()),(x,()))))
def m80(a0:Int):E80:=
 aK.mk a0 a0 (0)
def e80:=eL vp 80 O (aU ln) d80 (λg=>V (m80 g.1))
def MV:EO e80:=λh=>kL (an:= .no) func80 aV aH h
def atd:bu:=dA
abbrev ar3:=Bool
def d145:Td 0 ar3:= .c [] [2] (.r 0 0 (ec 2 qb en) sn (λz=>z.1.1) (λx=>((x,()),(()))))
def ax7:=(aU ln)
def ao5:An:=(noTwo (.two (.rb [] 2) .no))
def aDj:∀f∈([]:af Nat),bA (atd) f:=aH
def jA(a0:Int):ar3:=
 let r1:Bool:=bif vn (-1099511627776<=a0)then vn (a0<=1099511627776)else O;r1
def aEy(a0:Int):bZ vp (atd) 300 (ao5) 145 (ax7.c (a0,())) [] 0 d145.rd=V (jA a0):=by
 refine Eq.trans (b:=(
  match bif vn (-1099511627776<=a0)then V (vn (a0<=1099511627776))else V (O)with|G=>G|V r1=>V (r1):aa ar3)) aY ?_
 simp only[jA,cn,cO]
def ZG:=eL vp 145 O ax7 d145 (λg=>V (jA g.1))
def Bj:EO ZG:=λh=>kL (F:=atd) (an:=ao5) (l:=[(.skip,(.rb [] 2))]) func145 aV (aA aDj aH) h (c:=λg=>aEy g.1)
def j8:EP ZG:=λh=>kP h
def aw6:bu:=dA
abbrev axy:=aK
def d224:Td 0 axy:= .c [] [0] (.r 0 1 (ec 0 (qp 0 0) en) (sb 0 34 (lg 34) sn) (λz=>z.2.1) (λx=>(((),()),(x,()))))
def aBG:=ln
def apq:An:= .no
def jv:axy:=
 aK.mk (1) (0) (0)
def aFX:bZ vp (aw6) 300 (apq) 224 (aBG.c ()) [] 0 d224.rd=V (jv):=aY
def QZ:=eL vp 224 O aBG d224 (λ_=>V (jv))
def kE:EO QZ:=λh=>kL (F:=aw6) (an:=apq) func224 aV aH h (c:=λ_=>aFX)
def lX:EP QZ:=λh=>kP h
def aH9:bu:=(QZ dA)
abbrev arc:=Bool
def d147:Td 0 arc:= .c [] [2] (.r 0 0 (ec 2 qb en) sn (λz=>z.1.1) (λx=>((x,()),(()))))
def awS:=(lc (qg 34) ln)
def aos:An:= .no
def fB(a0:aK):arc:=
 bif vn (a0.ah=jv.ah)then bif vn (a0.ag=jv.ag)then bif vn (a0.aj=jv.aj)then J else O else O else O
def aFF(a0:aK):bZ vp (aH9) 300 (aos) 147 (awS.c (a0,())) [] 0 d147.rd=V (fB a0):=by
 refine Eq.trans (b:=(
  V (bif vn (a0.ah=jv.ah)then bif vn (a0.ag=jv.ag)then bif vn (a0.aj=jv.aj)then J else O else O else O):aa arc)) aY ?_
 simp only[fB,cn,cO]
def Hs:=eL vp 147 O awS d147 (λg=>V (fB g.1))
def jt:EO Hs:=λh=>kL (an:=aos) func147 (kE aV) aH h (c:=λg=>aFF g.1)
def fC:EP Hs:=λh=>kP h
def aDl:bu:=(Hs (ZG dA))
abbrev axD:=Bool
def d144:Td 0 axD:= .c [] [2] (.r 0 0 (ec 2 qb en) sn (λz=>z.1.1) (λx=>((x,()),(()))))
def aoH:∀f∈([145]:af Nat),bA (aDl) f:=(aA (fC (j8 bG)) aH)
def AE(a0:aK):aa axD:=
 bif fB a0 then V J else match bif bif jA a0.ah then O else J then V J else bif bif jA a0.ag then O else J then V J else V (vn (a0.ag<a0.ah))with|G=>G|V r1=>bif r1 then V O else bif vn (a0.ah=a0.ag)then V (vn (a0.aj=0))else match bif vn (1<=a0.aj)then if¬a0.aj=0then V (vn ((ak (a0.ag-a0.ah)).tmod a0.aj=0))else G else V O with|G=>G|V r2=>V (r2)
def QX:=eL vp 144 O (lc (qg 34) ln) d144 (λg=>AE g.1)
def lH:EO QX:=λh=>kL (F:=aDl) (an:=(noTwo (noTwo (.two (.two (.rb [145] 21) .no) (noTwo (.two (.rb [145] 2) .no)))))) (l:=[(.skip,(.rb [145] 21)),(.skip,(.rb [145] 2))]) func144 (jt (Bj aV)) (aA aoH (aA aoH aH)) h
def fZ:EP QX:=λh=>kP h
abbrev ayd:=aK
def d149:Td 0 ayd:= .c [] [2] (.r 0 1 (ec 2 (qp 0 0) en) (sb 0 34 (lg 34) sn) (λz=>z.2.1) (λx=>(((),()),(x,()))))
def jc(a0:Int):ayd:=
 aK.mk a0 a0 (0)
def akc:=eL vp 149 O (aU ln) d149 (λg=>V (jc g.1))
def sS:EO akc:=λh=>kL (an:= .no) func149 aV aH h
def aaL:EP akc:=λh=>kP h
abbrev az2:=aK
def d225:Td 0 az2:= .c [] [6] (.r 0 1 (ec 6 (qp 0 0) en) (sb 0 34 (lg 34) sn) (λz=>z.2.1) (λx=>(((),()),(x,()))))
def oc(a0:Int)(a1:Int)(a2:Int):aa az2:=
 bif vn (a1<a0)then V (jv)else bif vn (a2=0)then V (jc a0)else if¬a2=0then bif vn (a0=ak (a0+ak (ak ((ak (a1-a0)).tdiv a2)*a2)))then V (jc a0)else V (aK.mk a0 (ak (a0+ak (ak ((ak (a1-a0)).tdiv a2)*a2))) a2)else G
def Uz:=eL vp 225 O (aU (aU (aU ln))) d225 (λg=>oc g.1 g.2.1 g.t.1)
def sR:EO Uz:=λh=>kL (an:= .no) func225 (kE (sS aV)) aH h
def jX:EP Uz:=λh=>kP h
def aAc:bu:=(Uz (QZ (Hs dA)))
abbrev ayA:=aK×aK
def d146:Td 0 ayA:= .c [] [4,5] (.r 0 2 (ec 4 (qp 0 0) (ec 5 (qp 1 0) en)) (sb 0 34 (lg 34) (sb 1 34 (lg 34) sn)) (λz=>(z.2.1,z.t.1)) (λx=>(((),(),()),(x.1,x.2,()))))
def az9:∀f∈([147]:af Nat),bA (aAc) f:=(aA (jX (lX (fC bG))) aH)
def Gq(a0:aK)(a1:Int):aa ayA:=
 match bif fB a0 then V (J)else V (vn (a1<a0.ah))with|G=>G|V r1=>bif r1 then V ((jv,a0))else bif vn (a0.ag<=a1)then V ((a0,jv))else match oc a0.ah a1 a0.aj with|G=>G|V r2=>match oc (ak (r2.ag+a0.aj)) a0.ag a0.aj with|G=>G|V r3=>V ((r2,r3))
def akd:=eL vp 146 O (lc (qg 34) (aU ln)) d146 (λg=>Gq g.1 g.2.1)
def Le:EO akd:=λh=>kL (F:=aAc) (an:=(noTwo (.two (.two (.rb [147] 7) .no) .no))) (l:=[(.skip,(.rb [147] 7))]) func146 (sR (kE (jt aV))) (aA az9 aH) h
def Y1:EP akd:=λh=>kP h
structure mM where
 (t3 t5:Int)
 t6:List Int
 (t7 t8:Int)
def RR:Td 0 mM:= .c [] [3,5,6,7,8] (.r 0 0 (ec 3 aP (ec 5 aP (ec 6 (ql 3) (ec 7 aP (ec 8 aP en))))) sn (λz=>⟨z.1.1,z.1.2.1,z.1.t.1,z.1.t.2.1,z.1.q.1⟩) (λx=>((x.t3,x.t5,x.t6,x.t7,x.t8,()),(()))))
def pN{α:Type}(p:mM)(go:mM->aa α)(e1:aa α):aa α:=
 bif bif vn (p.t5=0)then O else J then if¬p.t5=0then go (mM.mk p.t5 (p.t3.tmod p.t5) p.t6 p.t7 p.t8)else G else e1
def vS(p:mM):aa (aa mM):=
 pN p (λs=>V (V s)) (V G)
def Ff:=bI (vS)
structure pP where
 t3:Int
 t6:List Int
 (t7 t8:Int)
def TA:Td 0 pP:= .c [] [3,6,7,8] (.r 0 0 (ec 3 aP (ec 6 (ql 3) (ec 7 aP (ec 8 aP en)))) sn (λz=>⟨z.1.1,z.1.2.1,z.1.t.1,z.1.t.2.1⟩) (λx=>((x.t3,x.t6,x.t7,x.t8,()),(()))))
def vV{α:Type}(p:pP)(go:pP->aa α)(e1:aa α):aa α:=
 bif vn (p.t8<p.t7)then if 0<=p.t8/\p.t8<zY p.t6 then match Ff (mM.mk p.t3 p.t6[zq p.t8]! p.t6 p.t7 p.t8)with|G=>G|V r1=>pN r1 (λ_=>G) (go (pP.mk r1.t3 r1.t6 r1.t7 (ak (r1.t8+1))))else G else e1
def uJ(p:pP):aa (aa pP):=
 vV p (λs=>V (V s)) (V G)
def ab6:An:=(noTwo (noTwo (.two (noTwo (RR.lp Ff .no)) .no)))
def HI:=bI (uJ)
abbrev aAv:=Int
def d226:Td 0 aAv:= .c [] [2] (.r 0 0 (ec 2 aP en) sn (λz=>z.1.1) (λx=>((x,()),(()))))
def D4(a0:af Int):aa aAv:=
 match HI (pP.mk 0 a0 (zY a0) 0)with|G=>G|V r2=>vV r2 (λ_=>G) (V (r2.t3))
def aeL:=eL vp 226 O (lc (ql 3) ln) d226 (λg=>D4 g.1)
def EL:EO aeL:=λh=>kL (an:=(noTwo (noTwo (.two (noTwo (TA.lp HI ab6)) .no)))) (l:=[(bk f226 0,(TA.lp HI ab6)),(bk f226 1,(RR.lp Ff .no))]) func226 aV (aA (aO TA) (aA (aO RR) aH)) h
def oM:EP aeL:=λh=>kP h
def aG9:bu:=dA
abbrev asb:=Int
def d227:Td 0 asb:= .c [] [2] (.r 0 0 (ec 2 aP en) sn (λz=>z.1.1) (λx=>((x,()),(()))))
def aDk:=(aU ln)
def aqv:An:= .no
def jV(a0:Int):asb:=
 if a0<ak (0-a0)then ak (0-a0)else a0
def aEr(a0:Int):bZ vp (aG9) 300 (aqv) 227 (aDk.c (a0,())) [] 0 d227.rd=V (jV a0):=by
 refine Eq.trans (b:=(
  V (if a0<ak (0-a0)then ak (0-a0)else a0):aa asb)) aY ?_
 simp only[jV,cn,cO]
def ach:=eL vp 227 O aDk d227 (λg=>V (jV g.1))
def EV:EO ach:=λh=>kL (an:=aqv) func227 aV aH h (c:=λg=>aEr g.1)
def Jb:EP ach:=λh=>kP h
def azL:bu:=(ach (aeL (Uz (Hs dA))))
abbrev aBb:=aK
def d148:Td 0 aBb:= .c [] [4] (.r 0 1 (ec 4 (qp 0 0) en) (sb 0 34 (lg 34) sn) (λz=>z.2.1) (λx=>(((),()),(x,()))))
def aAT:∀f∈([147]:af Nat),bA (azL) f:=(aA (Jb (oM (jX (fC bG)))) aH)
def pn(a0:aK)(a1:aK):aa aBb:=
 bif fB a0 then V (a1)else match bif fB a1 then V (J)else V (bif vn (a0.ah=a1.ah)then bif vn (a0.ag=a1.ag)then bif vn (a0.aj=a1.aj)then J else O else O else O)with|G=>G|V r1=>bif r1 then V (a0)else match D4 [a0.aj,a1.aj,jV (ak (a0.ah-a1.ah))]with|G=>G|V r2=>match oc (if a1.ah<a0.ah then a1.ah else a0.ah) (if a0.ag<a1.ag then a1.ag else a0.ag) r2 with|G=>G|V r3=>V (r3)
def acr:=eL vp 148 O (lc (qg 34) (lc (qg 34) ln)) d148 (λg=>pn g.1 g.2.1)
def tL:EO acr:=λh=>kL (F:=azL) (an:=(noTwo (noTwo (.two (.two (.rb [147] 14) .no) .no)))) (l:=[(.skip,(.rb [147] 14))]) func148 (EV (EL (sR (jt aV)))) (aA aAT aH) h
def Kh:EP acr:=λh=>kP h
def F81:bu:=(akc (acr (Hs (akd (ZG (QX dA))))))
abbrev E81:=aK×Int
def d81:Td 0 E81:= .c [] [6,7] (.r 0 1 (ec 6 (qp 0 0) (ec 7 aP en)) (sb 0 34 (lg 34) sn) (λz=>(z.2.1,z.1.2.1)) (λx=>(((),x.2,()),(x.1,()))))
def aGN:∀f∈([145]:af Nat),bA (F81) f:=(aA (aaL (Kh (fC (Y1 (j8 (fZ bG)))))) aH)
def m81(a0:aK)(a1:Int)(a2:Int):aa E81:=
 match AE a0 with|G=>G|V r1=>bif bif r1 then O else J then V ((aK.mk (0) (0) (0),1))else match bif vn (a2<a1)then V (J)else bif bif jA a1 then O else J then V (J)else V (bif jA a2 then O else J)with|G=>G|V r2=>bif r2 then V ((aK.mk (0) (0) (0),3))else match Gq a0 (ak (a1-1))with|G=>G|V r3=>match Gq r3.snd a2 with|G=>G|V r4=>bif bif fB r3.fst then O else J then match pn r4.fst (jc a1)with|G=>G|V r5=>bif bif fB r4.snd then O else J then match pn r5 (jc a2)with|G=>G|V r6=>V ((r6,0))else V ((r5,0))else bif bif fB r4.snd then O else J then match pn r4.fst (jc a2)with|G=>G|V r7=>V ((r7,0))else V ((r4.fst,0))
def e81:=eL vp 81 O (lc (qg 34) (aU (aU ln))) d81 (λg=>m81 g.1 g.2.1 g.t.1)
def UY:EO e81:=λh=>kL (F:=F81) (an:=(noTwo (noTwo (.two (.two (.rb [145] 28) .no) .no)))) (l:=[(.skip,(.rb [145] 28))]) func81 (sS (tL (jt (Le (Bj (lH aV)))))) (aA aGN aH) h
def aDF:bu:=(Hs dA)
abbrev aCc:=Bool
def d177:Td 0 aCc:= .c [] [4] (.r 0 0 (ec 4 qb en) sn (λz=>z.1.1) (λx=>((x,()),(()))))
def aoV:∀f∈([147]:af Nat),bA (aDF) f:=(aA (fC bG) aH)
def Zq(a0:aK)(a1:Int):aa aCc:=
 match bif fB a0 then V J else bif vn (a1<a0.ah)then V J else V (vn (a0.ag<a1))with|G=>G|V r1=>bif r1 then V O else match bif vn (a0.aj=0)then V J else if¬a0.aj=0then V (vn ((ak (a1-a0.ah)).tmod a0.aj=0))else G with|G=>G|V r2=>V (r2)
def amE:=eL vp 177 O (lc (qg 34) (aU ln)) d177 (λg=>Zq g.1 g.2.1)
def KC:EO amE:=λh=>kL (F:=aDF) (an:=(noTwo (.two (.two (.rb [147] 18) .no) (.two (.rb [147] 4) .no)))) (l:=[(.skip,(.rb [147] 18)),(.skip,(.rb [147] 4))]) func177 (jt aV) (aA aoV (aA aoV aH)) h
def C4:EP amE:=λh=>kP h
def F92:bu:=(amE (QX dA))
abbrev E92:=Bool
def d92:Td 0 E92:= .c [] [4] (.r 0 0 (ec 4 qb en) sn (λz=>z.1.1) (λx=>((x,()),(()))))
def aFI:∀f∈([144,177]:af Nat),bA (F92) f:=(aA (C4 (fZ bG)) (aA (C4 (fZ bG)) aH))
def m92(a0:aK)(a1:Int):aa E92:=
 match match AE a0 with|G=>G|V r1=>bif r1 then match Zq a0 a1 with|G=>G|V r2=>V (r2)else V (O)with|G=>G|V r3=>V (r3)
def e92:=eL vp 92 O (lc (qg 34) (aU ln)) d92 (λg=>m92 g.1 g.2.1)
def Ty:EO e92:=λh=>kL (F:=F92) (an:=(noTwo (.two (.rb [144,177] 4) .no))) (l:=[(.skip,(.rb [144,177] 4))]) func92 (KC (lH aV)) (aA aFI aH) h
abbrev axR:=Int
def d176:Td 0 axR:= .c [] [2] (.r 0 0 (ec 2 aP en) sn (λz=>z.1.1) (λx=>((x,()),(()))))
def BZ(a0:aK):aa axR:=
 bif fB a0 then V 0 else bif vn (a0.aj=0)then V 1 else if¬a0.aj=0then V (ak (ak ((ak (a0.ag-a0.ah)).tdiv a0.aj)+1))else G
def avf:=eL vp 176 O (lc (qg 34) ln) d176 (λg=>BZ g.1)
def By:EO avf:=λh=>kL (an:= .no) func176 (jt aV) aH h
def aan:EP avf:=λh=>kP h
abbrev axk:=Bool×Bool
def d228:Td 0 axk:= .c [] [2,3] (.r 0 0 (ec 2 qb (ec 3 qb en)) sn (λz=>(z.1.1,z.1.2.1)) (λx=>((x.1,x.2,()),(()))))
def SZ(a0:aK):aa axk:=
 match Zq a0 (0)with|G=>G|V r1=>match BZ a0 with|G=>G|V r2=>bif vn (1<r2)then V ((r1,J))else match BZ a0 with|G=>G|V r3=>bif vn (r3=1)then V ((r1,bif vn (a0.ah=0)then O else J))else V ((r1,O))
def ajP:=eL vp 228 O (lc (qg 34) ln) d228 (λg=>SZ g.1)
def NC:EO ajP:=λh=>kL (an:= .no) func228 (KC (By aV)) aH h
def Jv:EP ajP:=λh=>kP h
abbrev aDt:=Bool×Bool
def d151:Td 0 aDt:= .c [] [2,3] (.r 0 0 (ec 2 qb (ec 3 qb en)) sn (λz=>(z.1.1,z.1.2.1)) (λx=>((x.1,x.2,()),(()))))
def SP(a0:aK):aa aDt:=
 match AE a0 with|G=>G|V r1=>bif bif r1 then O else J then V ((O,O))else match SZ a0 with|G=>G|V r2=>V (r2)
def alS:=eL vp 151 O (lc (qg 34) ln) d151 (λg=>SP g.1)
def Lr:EO alS:=λh=>kL (an:= .no) func151 (NC (lH aV)) aH h
def aCp:bu:=(acr (QX dA))
abbrev aB2:=aK×Int
def d229:Td 0 aB2:= .c [] [4,5] (.r 0 1 (ec 4 (qp 0 0) (ec 5 aP en)) (sb 0 34 (lg 34) sn) (λz=>(z.2.1,z.1.2.1)) (λx=>(((),x.2,()),(x.1,()))))
def aCl:∀f∈([144]:af Nat),bA (aCp) f:=(aA (Kh (fZ bG)) aH)
def ahe(a0:aK)(a1:aK):aa aB2:=
 match match AE a0 with|G=>G|V r1=>bif bif r1 then O else J then V (J)else match AE a1 with|G=>G|V r2=>V (bif r2 then O else J)with|G=>G|V r3=>bif r3 then V ((aK.mk (0) (0) (0),1))else match pn a0 a1 with|G=>G|V r4=>V ((r4,0))
def aIh:=eL vp 229 O (lc (qg 34) (lc (qg 34) ln)) d229 (λg=>ahe g.1 g.2.1)
def aka:EO aIh:=λh=>kL (F:=aCp) (an:=(noTwo (.two (.two (.rb [144] 13) .no) .no))) (l:=[(.skip,(.rb [144] 13))]) func229 (tL (lH aV)) (aA aCl aH) h
abbrev aC3:=aK
def d152:Td 0 aC3:= .c [] [4] (.r 0 1 (ec 4 (qp 0 0) en) (sb 0 34 (lg 34) sn) (λz=>z.2.1) (λx=>(((),()),(x,()))))
def G9(a0:aK)(a1:aK):aa aC3:=
 bif bif vn (a0.ah=a1.ah)then bif vn (a0.ag=a1.ag)then bif vn (a0.aj=a1.aj)then J else O else O else O then V (a0)else match ahe a0 a1 with|G=>G|V r1=>V (r1.fst)
def aBD:=eL vp 152 O (lc (qg 34) (lc (qg 34) ln)) d152 (λg=>G9 g.1 g.2.1)
def Lv:EO aBD:=λh=>kL (an:= .no) func152 (aka aV) aH h
def aBP:bu:=(QZ dA)
abbrev aCa:=aK
def d153:Td 0 aCa:= .c [] [0] (.r 0 1 (ec 0 (qp 0 0) en) (sb 0 34 (lg 34) sn) (λz=>z.2.1) (λx=>(((),()),(x,()))))
def aAN:=ln
def aqi:An:= .no
def ahm:aCa:=
 jv
def aGk:bZ vp (aBP) 300 (aqi) 153 (aAN.c ()) [] 0 d153.rd=V (ahm):=aY
def aCd:=eL vp 153 O aAN d153 (λ_=>V (ahm))
def amP:EO aCd:=λh=>kL (F:=aBP) (an:=aqi) func153 (kE aV) aH h (c:=λ_=>aGk)
abbrev aAK:=aK
def d230:Td 0 aAK:= .c [] [4] (.r 0 1 (ec 4 (qp 0 0) en) (sb 0 34 (lg 34) sn) (λz=>z.2.1) (λx=>(((),()),(x,()))))
def qm(a0:Bool)(a1:Bool):aa aAK:=
 bif a0 then match pn jv (jc (0))with|G=>G|V r1=>bif a1 then match pn r1 (jc (1))with|G=>G|V r2=>V (r2)else V (r1)else bif a1 then match pn jv (jc (1))with|G=>G|V r3=>V (r3)else V (jv)
def ahD:=eL vp 230 O (lc qb (lc qb ln)) d230 (λg=>qm g.1 g.2.1)
def WQ:EO ahD:=λh=>kL (an:= .no) func230 (kE (sS (tL aV))) aH h
def Jq:EP ahD:=λh=>kP h
def axU:bu:=(ahD (ajP (Hs (QX dA))))
abbrev ays:=aK×Int
def d154:Td 0 ays:= .c [] [4,5] (.r 0 1 (ec 4 (qp 0 0) (ec 5 aP en)) (sb 0 34 (lg 34) sn) (λz=>(z.2.1,z.1.2.1)) (λx=>(((),x.2,()),(x.1,()))))
def axW:∀f∈([144]:af Nat),bA (axU) f:=(aA (Jq (Jv (fC (fZ bG)))) aH)
def alT(a0:Int)(a1:aK):aa ays:=
 match match AE a1 with|G=>G|V r1=>bif bif r1 then O else J then V (J)else bif bif vn (a0=6)then O else J then V (bif vn (a0=7)then O else J)else V (O)with|G=>G|V r2=>bif r2 then V ((aK.mk (0) (0) (0),1))else bif fB a1 then V ((a1,0))else bif vn (a0=7)then match SZ a1 with|G=>G|V r3=>match qm r3.snd r3.fst with|G=>G|V r4=>V ((r4,0))else V ((aK.mk (ak (0-a1.ag)) (ak (0-a1.ah)) a1.aj,0))
def az7:=eL vp 154 O (aU (lc (qg 34) ln)) d154 (λg=>alT g.1 g.2.1)
def ahi:EO az7:=λh=>kL (F:=axU) (an:=(noTwo (.two (.two (.rb [144] 18) .no) .no))) (l:=[(.skip,(.rb [144] 18))]) func154 (WQ (NC (jt (lH aV)))) (aA axW aH) h
def aGb:bu:=dA
abbrev arZ:=Bool
def d231:Td 0 arZ:= .c [] [2] (.r 0 0 (ec 2 qb en) sn (λz=>z.1.1) (λx=>((x,()),(()))))
def aAD:=(aU ln)
def aqA:An:= .no
def Ec(a0:Int):arZ:=
 bif vn (a0=8)then J else bif vn (a0=9)then J else bif vn (a0=10)then J else bif vn (a0=11)then J else bif vn (a0=12)then J else bif vn (a0=13)then J else bif vn (a0=14)then J else bif vn (a0=15)then J else bif vn (a0=16)then J else bif vn (a0=17)then J else bif vn (a0=18)then J else bif vn (a0=19)then J else bif vn (a0=20)then J else bif vn (a0=21)then J else bif vn (a0=22)then J else O
def aGc(a0:Int):bZ vp (aGb) 300 (aqA) 231 (aAD.c (a0,())) [] 0 d231.rd=V (Ec a0):=by
 refine Eq.trans (b:=(
  bif vn (a0=8)then V (J)else bif vn (a0=9)then V (J)else bif vn (a0=10)then V (J)else bif vn (a0=11)then V (J)else bif vn (a0=12)then V (J)else bif vn (a0=13)then V (J)else bif vn (a0=14)then V (J)else bif vn (a0=15)then V (J)else bif vn (a0=16)then V (J)else bif vn (a0=17)then V (J)else bif vn (a0=18)then V (J)else bif vn (a0=19)then V (J)else bif vn (a0=20)then V (J)else bif vn (a0=21)then V (J)else bif vn (a0=22)then V (J)else V (O):aa arZ)) aY ?_
 simp only[Ec,cn,cO]
def avQ:=eL vp 231 O aAD d231 (λg=>V (Ec g.1))
def amS:EO avQ:=λh=>kL (an:=aqA) func231 aV aH h (c:=λg=>aGc g.1)
def tI:EP avQ:=λh=>kP h
def ay9:bu:=(ach dA)
abbrev aCi:=Int×Bool
def d274:Td 0 aCi:= .c [] [4,5] (.r 0 0 (ec 4 aP (ec 5 qb en)) sn (λz=>(z.1.1,z.1.2.1)) (λx=>((x.1,x.2,()),(()))))
def aCr:∀f∈([227]:af Nat),bA (ay9) f:=(aA (Jb bG) aH)
def Tv(a0:Int)(a1:Int):aa aCi:=
 match bif bif vn (a0=0)then O else J then if¬jV a0=0then V (vn (ak ((1099511627776:Int).tdiv (jV a0))<jV a1))else G else V O with|G=>G|V r1=>bif r1 then V (0,O)else V ((ak (a0*a1),J))
def aGL:=eL vp 274 O (aU (aU ln)) d274 (λg=>Tv g.1 g.2.1)
def agF:EO aGL:=λh=>kL (F:=ay9) (an:=(noTwo (.two (.two (.rb [227] 15) .no) .no))) (l:=[(.skip,(.rb [227] 15))]) func274 (EV aV) (aA aCr aH) h
structure o6 where
 t0:List Int
 (t3 t4:Int)
def Ul:Td 0 o6:= .c [] [0,3,4] (.r 0 0 (ec 0 (ql 3) (ec 3 aP (ec 4 aP en))) sn (λz=>⟨z.1.1,z.1.2.1,z.1.t.1⟩) (λx=>((x.t0,x.t3,x.t4,()),(()))))
def F1{α:Type}(p:o6)(go:o6->aa α)(e1:aa α):aa α:=
 bif vn (p.t4<zY p.t0)then if 0<=p.t4/\p.t4<zY p.t0 then go (o6.mk p.t0 (if((p.t0,p.t3,p.t4,()),()).fst.fst[((p.t0,p.t3,p.t4,()),()).fst.snd.snd.fst.toNat]! <((p.t0,p.t3,p.t4,()),()).fst.snd.fst then p.t0[zq p.t4]! else p.t3) (ak (p.t4+1)))else G else e1
def GH(p:o6):aa (aa o6):=
 F1 p (λs=>V (V s)) (V G)
def Li:=bI (GH)
abbrev axC:=Int
def d275:Td 0 axC:= .c [] [2] (.r 0 0 (ec 2 aP en) sn (λz=>z.1.1) (λx=>((x,()),(()))))
def anv(a0:af Int):aa axC:=
 bif vn ((zY a0:Int)<1)then G else if(0:Int)<=(0:Int)/\(0:Int)<zY a0 then match Li (o6.mk a0 a0[0]! (1))with|G=>G|V r1=>F1 r1 (λ_=>G) (V (r1.t3))else G
def aFm:=eL vp 275 O (lc (ql 3) ln) d275 (λg=>anv g.1)
def aik:EO aFm:=λh=>kL (an:=(noTwo (noTwo (noTwo (.two (noTwo (Ul.lp Li .no)) .no))))) (l:=[(bk f275 0,(Ul.lp Li .no))]) func275 aV (aA (aO Ul) aH) h
structure p8 where
 t0:List Int
 (t3 t4:Int)
def UG:Td 0 p8:= .c [] [0,3,4] (.r 0 0 (ec 0 (ql 3) (ec 3 aP (ec 4 aP en))) sn (λz=>⟨z.1.1,z.1.2.1,z.1.t.1⟩) (λx=>((x.t0,x.t3,x.t4,()),(()))))
def HP{α:Type}(p:p8)(go:p8->aa α)(e1:aa α):aa α:=
 bif vn (p.t4<zY p.t0)then if 0<=p.t4/\p.t4<zY p.t0 then go (p8.mk p.t0 (if((p.t0,p.t3,p.t4,()),()).fst.snd.fst<((p.t0,p.t3,p.t4,()),()).fst.fst[((p.t0,p.t3,p.t4,()),()).fst.snd.snd.fst.toNat]! then p.t0[zq p.t4]! else p.t3) (ak (p.t4+1)))else G else e1
def F6(p:p8):aa (aa p8):=
 HP p (λs=>V (V s)) (V G)
def KZ:=bI (F6)
abbrev aAQ:=Int
def d276:Td 0 aAQ:= .c [] [2] (.r 0 0 (ec 2 aP en) sn (λz=>z.1.1) (λx=>((x,()),(()))))
def ajE(a0:af Int):aa aAQ:=
 bif vn ((zY a0:Int)<1)then G else if(0:Int)<=(0:Int)/\(0:Int)<zY a0 then match KZ (p8.mk a0 a0[0]! (1))with|G=>G|V r1=>HP r1 (λ_=>G) (V (r1.t3))else G
def aE5:=eL vp 276 O (lc (ql 3) ln) d276 (λg=>ajE g.1)
def alb:EO aE5:=λh=>kL (an:=(noTwo (noTwo (noTwo (.two (noTwo (UG.lp KZ .no)) .no))))) (l:=[(bk f276 0,(UG.lp KZ .no))]) func276 aV (aA (aO UG) aH) h
abbrev ax1:=aK×Int
def d232:Td 0 ax1:= .c [] [4,5] (.r 0 1 (ec 4 (qp 0 0) (ec 5 aP en)) (sb 0 34 (lg 34) sn) (λz=>(z.2.1,z.1.2.1)) (λx=>(((),x.2,()),(x.1,()))))
def aaw(a0:aK)(a1:aK):aa ax1:=
 match Tv a0.ah a1.ah with|G=>G|V r1=>bif bif r1.snd then O else J then V ((aK.mk (0) (0) (0),3))else match Tv a0.ah a1.ag with|G=>G|V r2=>bif bif r2.snd then O else J then V ((aK.mk (0) (0) (0),3))else match Tv a0.ag a1.ah with|G=>G|V r3=>bif bif r3.snd then O else J then V ((aK.mk (0) (0) (0),3))else match Tv a0.ag a1.ag with|G=>G|V r4=>bif bif r4.snd then O else J then V ((aK.mk (0) (0) (0),3))else match D4 [ak (a0.aj*jV a1.ah),ak (a1.aj*jV a0.ah),ak (a0.aj*a1.aj)]with|G=>G|V r5=>match anv ([r1.fst]++[r2.fst]++[r3.fst]++[r4.fst])with|G=>G|V r6=>match ajE ([r1.fst]++[r2.fst]++[r3.fst]++[r4.fst])with|G=>G|V r7=>match oc r6 r7 r5 with|G=>G|V r8=>V ((r8,0))
def avp:=eL vp 232 O (lc (qg 34) (lc (qg 34) ln)) d232 (λg=>aaw g.1 g.2.1)
def ajR:EO avp:=λh=>kL (an:= .no) func232 (alb (aik (agF (EV (EL (sR aV)))))) aH h
def tF:EP avp:=λh=>kP h
def ayD:bu:=(ach (Uz (acr (akd dA))))
abbrev aAj:=aK
def d277:Td 0 aAj:= .c [] [6] (.r 0 1 (ec 6 (qp 0 0) en) (sb 0 34 (lg 34) sn) (λz=>z.2.1) (λx=>(((),()),(x,()))))
def aye:∀f∈([]:af Nat),bA (ayD) f:=aH
def aag(a0:Int)(a1:aK)(a2:aK):aa aAj:=
 bif vn (a0=11)then match bif vn (0<=a1.ah)then V (vn (0<=a2.ah))else V (O)with|G=>G|V r1=>bif r1 then match oc (0) (if jV a1.ah<jV a1.ag then jV a1.ag else jV a1.ah) (1)with|G=>G|V r2=>V (r2)else match oc (ak (0-if jV a1.ah<jV a1.ag then jV a1.ag else jV a1.ah)) (if jV a1.ah<jV a1.ag then jV a1.ag else jV a1.ah) (1)with|G=>G|V r3=>V (r3)else bif vn (a0=12)then match oc (if 0<ak (a2.ah+1)then 0 else ak (a2.ah+1)) (if ak (a2.ag-1)<0 then 0 else ak (a2.ag-1)) (1)with|G=>G|V r4=>V (r4)else bif vn (a0=21)then match pn a1 a2 with|G=>G|V r5=>match Gq r5 (if a2.ag<a1.ag then a2.ag else a1.ag)with|G=>G|V r6=>V (r6.fst)else match pn a1 a2 with|G=>G|V r7=>match Gq r7 (ak ((if a1.ah<a2.ah then a2.ah else a1.ah)-1))with|G=>G|V r8=>V (r8.snd)
def aE8:=eL vp 277 O (aU (lc (qg 34) (lc (qg 34) ln))) d277 (λg=>aag g.1 g.2.1 g.t.1)
def ane:EO aE8:=λh=>kL (F:=ayD) (an:=(noTwo (.two (noTwo (noTwo (.two (noTwo (.two (.two (.rb [] 29) .no) .no)) .no))) .no))) (l:=[(.skip,(.rb [] 29))]) func277 (EV (sR (tL (Le aV)))) (aA aye aH) h
structure nD where
 t3:List Int
 (t6 t7:Int)
 b0:aK
def RT:Td 0 nD:= .c [] [1,3,6,7] (.t (b6.s 3 [] 3) (.c [] [1,3,6,7] (.r 0 2 (ec 1 (qp 0 0) (ec 3 (qo 1) (ec 6 aP (ec 7 aP en)))) (sb 0 34 (lg 34) (sr 1 3 sn)) (λz=>⟨z.t.1,z.1.t.1,z.1.t.2.1,z.2.1⟩) (λx=>(((),(),x.t6,x.t7,()),(x.b0,x.t3,()))))))
def Il{α:Type}(p:nD)(go:nD->aa α)(e1:aa α):aa α:=
 bif vn (p.t7<p.t6)then if(p.t3++[ak (p.b0.ah+ak (p.t7*p.b0.aj))]).length<=1073741824 then go (nD.mk (p.t3++[ak (p.b0.ah+ak (p.t7*p.b0.aj))]) p.t6 (ak (p.t7+1)) p.b0)else G else e1
def Ce(p:nD):aa (aa nD):=
 Il p (λs=>V (V s)) (V G)
def M1:=bI (Ce)
abbrev azC:=af Int
def d278:Td 0 azC:= .c [] [2] (.r 0 1 (ec 2 (qo 0) en) (sr 0 3 sn) (λz=>z.2.1) (λx=>(((),()),(x,()))))
def adN(a0:aK):aa azC:=
 match BZ a0 with|G=>G|V r1=>match M1 (nD.mk [] r1 (0) a0)with|G=>G|V r2=>Il r2 (λ_=>G) (V (r2.t3))
def aE4:=eL vp 278 O (lc (qg 34) ln) d278 (λg=>adN g.1)
def akw:EO aE4:=λh=>kL (an:=(noTwo (noTwo (.two (noTwo (RT.lp M1 .no)) .no)))) (l:=[(bk f278 0,(RT.lp M1 .no))]) func278 (By aV) (aA (aO RT) aH) h
def aAs:bu:=dA
abbrev aA6:=Int
def d315:Td 0 aA6:= .c [] [4] (.r 0 0 (ec 4 aP en) sn (λz=>z.1.1) (λx=>((x,()),(()))))
def aBE:∀f∈([]:af Nat),bA (aAs) f:=aH
def afr(a0:Int)(a1:Int):aa aA6:=
 bif vn (a1=0)then V 0 else if¬a1=0then match if¬a1=0then bif bif vn (a0.tmod a1=0)then O else J then V (bif vn (a0<0)==vn (a1<0)then O else J)else V O else G with|G=>G|V r1=>bif r1 then V (ak (ak (a0.tdiv a1)-1))else V (ak (a0.tdiv a1))else G
def aEC:=eL vp 315 O (aU (aU ln)) d315 (λg=>afr g.1 g.2.1)
def anr:EO aEC:=λh=>kL (F:=aAs) (an:=(noTwo (noTwo (noTwo (.two (.two (.rb [] 21) .no) .no))))) (l:=[(.skip,(.rb [] 21))]) func315 aV (aA aBE aH) h
abbrev aAy:=Int
def d279:Td 0 aAy:= .c [] [6] (.r 0 0 (ec 6 aP en) sn (λz=>z.1.1) (λx=>((x,()),(()))))
def ajS(a0:Int)(a1:Int)(a2:Int):aa aAy:=
 bif vn (a0=11)then match afr a1 a2 with|G=>G|V r1=>V (r1)else bif vn (a0=12)then bif vn (a2=0)then V (0)else match afr a1 a2 with|G=>G|V r2=>V (ak (a1-ak (a2*r2)))else bif vn (a0=21)then V (if a2<a1 then a2 else a1)else V (if a1<a2 then a2 else a1)
def aGE:=eL vp 279 O (aU (aU (aU ln))) d279 (λg=>ajS g.1 g.2.1 g.t.1)
def ak4:EO aGE:=λh=>kL (an:= .no) func279 (anr aV) aH h
structure nW where
 (t0 t9:Int)
 t34:List Int
 (t35 t36:Int)
 t41:List Int
 (t42 t43:Int)
 (b0 b1 b2:aK)
def UK:Td 0 nW:= .c [] [0,5,6,7,9,34,35,36,41,42,43] (.r 0 5 (ec 0 aP (ec 5 (qp 0 0) (ec 6 (qp 1 0) (ec 7 (qp 2 0) (ec 9 aP (ec 34 (qo 3) (ec 35 aP (ec 36 aP (ec 41 (qo 4) (ec 42 aP (ec 43 aP en))))))))))) (sb 0 34 (lg 34) (sb 1 34 (lg 34) (sb 2 34 (lg 34) (sr 3 3 (sr 4 3 sn))))) (λz=>⟨z.1.1,z.1.q.1,z.q.1,z.1.q.t.1,z.1.q.t.2.1,z.q.2.1,z.1.q.q.2.1,z.1.q.q.t.1,z.2.1,z.t.1,z.t.2.1⟩) (λx=>((x.t0,(),(),(),x.t9,(),x.t35,x.t36,(),x.t42,x.t43,()),(x.b0,x.b1,x.b2,x.t34,x.t41,()))))
def sv{α:Type}(p:nW)(go:nW->aa α)(e1:aa α):aa α:=
 bif vn (p.t43<p.t42)then if 0<=p.t43/\p.t43<zY p.t41 then if 3=3/\zq p.t43<zY p.t41 then match ajS p.t0 p.t9 p.t41[zq p.t43]! with|G=>G|V r5=>match pn p.b2 (jc r5)with|G=>G|V r6=>go (nW.mk p.t0 p.t9 p.t34 p.t35 p.t36 p.t41 p.t42 (ak (p.t43+1)) p.b0 p.b1 r6)else G else G else e1
def Ms(p:nW):aa (aa nW):=
 sv p (λs=>V (V s)) (V G)
def ML:=bI (Ms)
structure nI where
 t0:Int
 t34:List Int
 (t35 t36:Int)
 (b0 b1 b2:aK)
def T2:Td 0 nI:= .c [] [0,5,6,7,34,35,36] (.r 0 4 (ec 0 aP (ec 5 (qp 0 0) (ec 6 (qp 1 0) (ec 7 (qp 2 0) (ec 34 (qo 3) (ec 35 aP (ec 36 aP en))))))) (sb 0 34 (lg 34) (sb 1 34 (lg 34) (sb 2 34 (lg 34) (sr 3 3 sn)))) (λz=>⟨z.1.1,z.q.1,z.1.q.2.1,z.1.q.t.1,z.2.1,z.t.1,z.t.2.1⟩) (λx=>((x.t0,(),(),(),(),x.t35,x.t36,()),(x.b0,x.b1,x.b2,x.t34,()))))
def C5{α:Type}(p:nI)(go:nI->aa α)(e1:aa α):aa α:=
 bif vn (p.t36<p.t35)then if 0<=p.t36/\p.t36<zY p.t34 then if 3=3/\zq p.t36<zY p.t34 then match adN p.b0 with|G=>G|V r1=>match ML (nW.mk p.t0 p.t34[zq p.t36]! p.t34 p.t35 p.t36 r1 (↑(zY r1):Int) 0 p.b0 p.b1 p.b2)with|G=>G|V r2=>sv r2 (λ_=>G) (go (nI.mk r2.t0 r2.t34 r2.t35 (ak (r2.t36+1)) r2.b0 r2.b1 r2.b2))else G else G else e1
def Ct(p:nI):aa (aa nI):=
 C5 p (λs=>V (V s)) (V G)
def ad4:An:=(noTwo (noTwo (.two (noTwo (noTwo (UK.lp ML .no))) .no)))
def MF:=bI (Ct)
abbrev aAP:=aK
def d233:Td 0 aAP:= .c [] [6] (.r 0 1 (ec 6 (qp 0 0) en) (sb 0 34 (lg 34) sn) (λz=>z.2.1) (λx=>(((),()),(x,()))))
def AW(a0:Int)(a1:aK)(a2:aK):aa aAP:=
 match BZ a1 with|G=>G|V r7=>bif vn (4096<r7)then match aag a0 a1 a2 with|G=>G|V r8=>V (r8)else match BZ a2 with|G=>G|V r9=>bif vn (4096<r9)then match aag a0 a1 a2 with|G=>G|V r10=>V (r10)else match BZ a1 with|G=>G|V r11=>match BZ a2 with|G=>G|V r12=>bif vn (4096<ak (r11*r12))then match aag a0 a1 a2 with|G=>G|V r13=>V (r13)else match adN a1 with|G=>G|V r14=>match MF (nI.mk a0 r14 (↑(zY r14):Int) 0 a2 (aK.mk 0 0 0) jv)with|G=>G|V r15=>C5 r15 (λ_=>G) (V (r15.b2))
def au5:=eL vp 233 O (aU (lc (qg 34) (lc (qg 34) ln))) d233 (λg=>AW g.1 g.2.1 g.t.1)
def aiH:EO au5:=λh=>kL (an:=(noTwo (noTwo (noTwo (.two (noTwo (T2.lp MF ad4)) .no))))) (l:=[(bk f233 0,(T2.lp MF ad4)),(bk f233 1,(UK.lp ML .no))]) func233 (ak4 (akw (ane (kE (By (sS (tL aV))))))) (aA (aO T2) (aA (aO UK) aH)) h
def tD:EP au5:=λh=>kP h
structure mj where
 (t1 t5 t6 t7 t8:Int)
def SS:Td 0 mj:= .c [] [1,5,6,7,8] (.r 0 0 (ec 1 aP (ec 5 aP (ec 6 aP (ec 7 aP (ec 8 aP en))))) sn (λz=>⟨z.1.1,z.1.2.1,z.1.t.1,z.1.t.2.1,z.1.q.1⟩) (λx=>((x.t1,x.t5,x.t6,x.t7,x.t8,()),(()))))
def FW{α:Type}(p:mj)(go:mj->aa α)(e1:aa α):aa α:=
 bif vn (1<p.t5)then if¬p.t5=0then go (mj.mk p.t1 (ak (p.t6-ak (ak (p.t6.tdiv p.t5)*p.t5))) p.t5 (ak (p.t8-ak (ak (p.t6.tdiv p.t5)*p.t7))) p.t7)else G else e1
def Kr(p:mj):aa (aa mj):=
 FW p (λs=>V (V s)) (V G)
def NQ:=bI (Kr)
abbrev axv:=Int
def d341:Td 0 axv:= .c [] [4] (.r 0 0 (ec 4 aP en) sn (λz=>z.1.1) (λx=>((x,()),(()))))
def alh(a0:Int)(a1:Int):aa axv:=
 if¬a1=0then match NQ (mj.mk a1 (a0.tmod a1) a1 1 0)with|G=>G|V r1=>FW r1 (λ_=>G) (if¬r1.t1=0then if¬r1.t1=0then V ((ak (r1.t7.tmod r1.t1+r1.t1)).tmod r1.t1)else G else G)else G
def ayl:=eL vp 341 O (aU (aU ln)) d341 (λg=>alh g.1 g.2.1)
def anH:EO ayl:=λh=>kL (an:=(noTwo (noTwo (.two (SS.lp NQ .no) .no)))) (l:=[(bk f341 0,(SS.lp NQ .no))]) func341 aV (aA (aO SS) aH) h
def ay2:bu:=(ayl (azc (aeL (QZ (akc dA)))))
abbrev aAg:=aK
def d316:Td 0 aAg:= .c [] [4] (.r 0 1 (ec 4 (qp 0 0) en) (sb 0 34 (lg 34) sn) (λz=>z.2.1) (λx=>(((),()),(x,()))))
def aCe:∀f∈([]:af Nat),bA (ay2) f:=aH
def anm(a0:aK)(a1:aK):aa aAg:=
 match D4 [a0.aj,a1.aj]with|G=>G|V r1=>match bif vn ((if a1.ag<a0.ag then a1.ag else a0.ag)<if a0.ah<a1.ah then a1.ah else a0.ah)then V J else if¬r1=0then V (bif vn ((ak (a1.ah-a0.ah)).tmod r1=0)then O else J)else G with|G=>G|V r2=>bif r2 then V (jv)else if¬r1=0then bif vn (1<ak (a1.aj.tdiv r1))then if¬r1=0then if¬ak (a1.aj.tdiv r1)=0then if¬ak (a1.aj.tdiv r1)=0then if¬r1=0then if¬ak (a1.aj.tdiv r1)=0then match alh ((ak (a0.aj.tdiv r1)).tmod (ak (a1.aj.tdiv r1))) (ak (a1.aj.tdiv r1))with|G=>G|V r3=>match ahv ((ak ((ak ((ak (a1.ah-a0.ah)).tdiv r1)).tmod (ak (a1.aj.tdiv r1))+ak (a1.aj.tdiv r1))).tmod (ak (a1.aj.tdiv r1))) r3 (ak (a1.aj.tdiv r1))with|G=>G|V r4=>if¬a0.aj=0then if¬a0.aj=0then bif vn (r4<ak ((ak (ak (ak ((if a0.ah<a1.ah then a1.ah else a0.ah)-a0.ah)+a0.aj)-1)).tdiv a0.aj))then if¬ak (a1.aj.tdiv r1)=0then bif vn (ak ((ak ((if a1.ag<a0.ag then a1.ag else a0.ag)-a0.ah)).tdiv a0.aj)<ak (r4+ak (ak ((ak (ak (ak (ak ((ak (ak (ak ((if a0.ah<a1.ah then a1.ah else a0.ah)-a0.ah)+a0.aj)-1)).tdiv a0.aj)-r4)+ak (a1.aj.tdiv r1))-1)).tdiv (ak (a1.aj.tdiv r1)))*ak (a1.aj.tdiv r1))))then V (jv)else if¬ak (a1.aj.tdiv r1)=0then bif vn (ak (r4+ak (ak ((ak (ak (ak (ak ((ak (ak (ak ((if a0.ah<a1.ah then a1.ah else a0.ah)-a0.ah)+a0.aj)-1)).tdiv a0.aj)-r4)+ak (a1.aj.tdiv r1))-1)).tdiv (ak (a1.aj.tdiv r1)))*ak (a1.aj.tdiv r1)))=ak (ak (r4+ak (ak ((ak (ak (ak (ak ((ak (ak (ak ((if a0.ah<a1.ah then a1.ah else a0.ah)-a0.ah)+a0.aj)-1)).tdiv a0.aj)-r4)+ak (a1.aj.tdiv r1))-1)).tdiv (ak (a1.aj.tdiv r1)))*ak (a1.aj.tdiv r1)))+ak (ak ((ak (ak ((ak ((if a1.ag<a0.ag then a1.ag else a0.ag)-a0.ah)).tdiv a0.aj)-ak (r4+ak (ak ((ak (ak (ak (ak ((ak (ak (ak ((if a0.ah<a1.ah then a1.ah else a0.ah)-a0.ah)+a0.aj)-1)).tdiv a0.aj)-r4)+ak (a1.aj.tdiv r1))-1)).tdiv (ak (a1.aj.tdiv r1)))*ak (a1.aj.tdiv r1))))).tdiv (ak (a1.aj.tdiv r1)))*ak (a1.aj.tdiv r1))))then V (jc (ak (a0.ah+ak (ak (r4+ak (ak ((ak (ak (ak (ak ((ak (ak (ak ((if a0.ah<a1.ah then a1.ah else a0.ah)-a0.ah)+a0.aj)-1)).tdiv a0.aj)-r4)+ak (a1.aj.tdiv r1))-1)).tdiv (ak (a1.aj.tdiv r1)))*ak (a1.aj.tdiv r1)))*a0.aj))))else V (aK.mk (ak (a0.ah+ak (ak (r4+ak (ak ((ak (ak (ak (ak ((ak (ak (ak ((if a0.ah<a1.ah then a1.ah else a0.ah)-a0.ah)+a0.aj)-1)).tdiv a0.aj)-r4)+ak (a1.aj.tdiv r1))-1)).tdiv (ak (a1.aj.tdiv r1)))*ak (a1.aj.tdiv r1)))*a0.aj))) (ak (a0.ah+ak (ak (ak (r4+ak (ak ((ak (ak (ak (ak ((ak (ak (ak ((if a0.ah<a1.ah then a1.ah else a0.ah)-a0.ah)+a0.aj)-1)).tdiv a0.aj)-r4)+ak (a1.aj.tdiv r1))-1)).tdiv (ak (a1.aj.tdiv r1)))*ak (a1.aj.tdiv r1)))+ak (ak ((ak (ak ((ak ((if a1.ag<a0.ag then a1.ag else a0.ag)-a0.ah)).tdiv a0.aj)-ak (r4+ak (ak ((ak (ak (ak (ak ((ak (ak (ak ((if a0.ah<a1.ah then a1.ah else a0.ah)-a0.ah)+a0.aj)-1)).tdiv a0.aj)-r4)+ak (a1.aj.tdiv r1))-1)).tdiv (ak (a1.aj.tdiv r1)))*ak (a1.aj.tdiv r1))))).tdiv (ak (a1.aj.tdiv r1)))*ak (a1.aj.tdiv r1)))*a0.aj))) (ak (ak (a1.aj.tdiv r1)*a0.aj)))else G else G else bif vn (ak ((ak ((if a1.ag<a0.ag then a1.ag else a0.ag)-a0.ah)).tdiv a0.aj)<r4)then V (jv)else if¬ak (a1.aj.tdiv r1)=0then bif vn (r4=ak (r4+ak (ak ((ak (ak ((ak ((if a1.ag<a0.ag then a1.ag else a0.ag)-a0.ah)).tdiv a0.aj)-r4)).tdiv (ak (a1.aj.tdiv r1)))*ak (a1.aj.tdiv r1))))then V (jc (ak (a0.ah+ak (r4*a0.aj))))else V (aK.mk (ak (a0.ah+ak (r4*a0.aj))) (ak (a0.ah+ak (ak (r4+ak (ak ((ak (ak ((ak ((if a1.ag<a0.ag then a1.ag else a0.ag)-a0.ah)).tdiv a0.aj)-r4)).tdiv (ak (a1.aj.tdiv r1)))*ak (a1.aj.tdiv r1)))*a0.aj))) (ak (ak (a1.aj.tdiv r1)*a0.aj)))else G else G else G else G else G else G else G else G else if¬a0.aj=0then if¬a0.aj=0then bif vn (0<ak ((ak (ak (ak ((if a0.ah<a1.ah then a1.ah else a0.ah)-a0.ah)+a0.aj)-1)).tdiv a0.aj))then if¬ak (a1.aj.tdiv r1)=0then bif vn (ak ((ak ((if a1.ag<a0.ag then a1.ag else a0.ag)-a0.ah)).tdiv a0.aj)<ak (0+ak (ak ((ak (ak (ak (ak ((ak (ak (ak ((if a0.ah<a1.ah then a1.ah else a0.ah)-a0.ah)+a0.aj)-1)).tdiv a0.aj)-0)+ak (a1.aj.tdiv r1))-1)).tdiv (ak (a1.aj.tdiv r1)))*ak (a1.aj.tdiv r1))))then V (jv)else if¬ak (a1.aj.tdiv r1)=0then bif vn (ak (0+ak (ak ((ak (ak (ak (ak ((ak (ak (ak ((if a0.ah<a1.ah then a1.ah else a0.ah)-a0.ah)+a0.aj)-1)).tdiv a0.aj)-0)+ak (a1.aj.tdiv r1))-1)).tdiv (ak (a1.aj.tdiv r1)))*ak (a1.aj.tdiv r1)))=ak (ak (0+ak (ak ((ak (ak (ak (ak ((ak (ak (ak ((if a0.ah<a1.ah then a1.ah else a0.ah)-a0.ah)+a0.aj)-1)).tdiv a0.aj)-0)+ak (a1.aj.tdiv r1))-1)).tdiv (ak (a1.aj.tdiv r1)))*ak (a1.aj.tdiv r1)))+ak (ak ((ak (ak ((ak ((if a1.ag<a0.ag then a1.ag else a0.ag)-a0.ah)).tdiv a0.aj)-ak (0+ak (ak ((ak (ak (ak (ak ((ak (ak (ak ((if a0.ah<a1.ah then a1.ah else a0.ah)-a0.ah)+a0.aj)-1)).tdiv a0.aj)-0)+ak (a1.aj.tdiv r1))-1)).tdiv (ak (a1.aj.tdiv r1)))*ak (a1.aj.tdiv r1))))).tdiv (ak (a1.aj.tdiv r1)))*ak (a1.aj.tdiv r1))))then V (jc (ak (a0.ah+ak (ak (0+ak (ak ((ak (ak (ak (ak ((ak (ak (ak ((if a0.ah<a1.ah then a1.ah else a0.ah)-a0.ah)+a0.aj)-1)).tdiv a0.aj)-0)+ak (a1.aj.tdiv r1))-1)).tdiv (ak (a1.aj.tdiv r1)))*ak (a1.aj.tdiv r1)))*a0.aj))))else V (aK.mk (ak (a0.ah+ak (ak (0+ak (ak ((ak (ak (ak (ak ((ak (ak (ak ((if a0.ah<a1.ah then a1.ah else a0.ah)-a0.ah)+a0.aj)-1)).tdiv a0.aj)-0)+ak (a1.aj.tdiv r1))-1)).tdiv (ak (a1.aj.tdiv r1)))*ak (a1.aj.tdiv r1)))*a0.aj))) (ak (a0.ah+ak (ak (ak (0+ak (ak ((ak (ak (ak (ak ((ak (ak (ak ((if a0.ah<a1.ah then a1.ah else a0.ah)-a0.ah)+a0.aj)-1)).tdiv a0.aj)-0)+ak (a1.aj.tdiv r1))-1)).tdiv (ak (a1.aj.tdiv r1)))*ak (a1.aj.tdiv r1)))+ak (ak ((ak (ak ((ak ((if a1.ag<a0.ag then a1.ag else a0.ag)-a0.ah)).tdiv a0.aj)-ak (0+ak (ak ((ak (ak (ak (ak ((ak (ak (ak ((if a0.ah<a1.ah then a1.ah else a0.ah)-a0.ah)+a0.aj)-1)).tdiv a0.aj)-0)+ak (a1.aj.tdiv r1))-1)).tdiv (ak (a1.aj.tdiv r1)))*ak (a1.aj.tdiv r1))))).tdiv (ak (a1.aj.tdiv r1)))*ak (a1.aj.tdiv r1)))*a0.aj))) (ak (ak (a1.aj.tdiv r1)*a0.aj)))else G else G else bif vn (ak ((ak ((if a1.ag<a0.ag then a1.ag else a0.ag)-a0.ah)).tdiv a0.aj)<0)then V (jv)else if¬ak (a1.aj.tdiv r1)=0then bif vn (0=ak (0+ak (ak ((ak (ak ((ak ((if a1.ag<a0.ag then a1.ag else a0.ag)-a0.ah)).tdiv a0.aj)-0)).tdiv (ak (a1.aj.tdiv r1)))*ak (a1.aj.tdiv r1))))then V (jc (ak (a0.ah+ak (0*a0.aj))))else V (aK.mk (ak (a0.ah+ak (0*a0.aj))) (ak (a0.ah+ak (ak (0+ak (ak ((ak (ak ((ak ((if a1.ag<a0.ag then a1.ag else a0.ag)-a0.ah)).tdiv a0.aj)-0)).tdiv (ak (a1.aj.tdiv r1)))*ak (a1.aj.tdiv r1)))*a0.aj))) (ak (ak (a1.aj.tdiv r1)*a0.aj)))else G else G else G else G
def at3:=eL vp 316 O (lc (qg 34) (lc (qg 34) ln)) d316 (λg=>anm g.1 g.2.1)
def ajb:EO at3:=λh=>kL (F:=ay2) (an:=(noTwo (noTwo (noTwo (.two (.two (.rb [] 41) .no) .no))))) (l:=[(.skip,(.rb [] 41))]) func316 (anH (ajB (EL (kE (sS aV))))) (aA aCe aH) h
def Y8:EP at3:=λh=>kP h
abbrev Ao:=aK
def d280:Td 0 Ao:= .c [] [4] (.r 0 1 (ec 4 (qp 0 0) en) (sb 0 34 (lg 34) sn) (λz=>z.2.1) (λx=>(((),()),(x,()))))
def awr:=(lc (qg 34) (lc (qg 34) ln))
def alI(M:aK->aK->aa Ao):bu->bu:=eL vp 280 O awr d280 (λg=>M g.1 g.2.1)
def Kf{M:aK->aK->aa Ao}{F:bu}{f:Nat}(h:bA F f):bA (alI M F) f:=gH h (λ_=>aY)
def amu(M:aK->aK->aa Ao):Prop:=HL vp 280 awr d280 (λg=>M g.1 g.2.1)
def XI{M:aK->aK->aa Ao}(hM:amu M){F:bu}(h:bE vp F):bE vp (alI M F):=gj (sc:=A9) ei hM ⟨_,func280,aY,aY⟩ (λ_=>aY) (λ_=>aY) h
def ajl(M280:aK->aK->aa Ao):bu:=(at3 (alI M280 (QZ (amE (Hs dA)))))
def agG{M280}(h280:amu M280):bE vp (ajl M280):=(ajb (XI h280 (kE (KC (jt aV)))))
def apb(M280:aK->aK->aa Ao):An:=(noTwo (.two (.two (.rb [147] 5) .no) .no))
def azH{M280}:∀f∈([147]:af Nat),bA (ajl M280) f:=(aA (Y8 (Kf (lX (C4 (fC bG))))) aH)
def azX(M280:aK->aK->aa Ao):gv vp (ajl M280) 0 300 280 (apb M280):=cH (l:=[(.skip,(.rb [147] 5))]) func280 (bT aY) aY (aA azH aH)
def Bc(M280:aK->aK->aa Ao)(a0:aK)(a1:aK):aa Ao:=
 match bif fB a0 then V (J)else V (fB a1)with|G=>G|V r1=>bif r1 then V (jv)else bif vn (a0.aj=0)then match Zq a1 a0.ah with|G=>G|V r2=>bif r2 then V (a0)else V (jv)else bif vn (a1.aj=0)then match M280 a1 a0 with|G=>G|V r3=>V (r3)else match anm a0 a1 with|G=>G|V r4=>V (r4)
def aHm(M280:aK->aK->aa Ao)(a0:aK)(a1:aK):bZ vp (ajl M280) 300 (apb M280) 280 (awr.c (a0,a1,())) [] 0 d280.rd=Bc M280 a0 a1:=aY
def DN:Nat->(aK->aK->aa Ao)
 |0=>(λ_ _=>G)
 |n+1=>(Bc (DN n))
def agc(n:Nat):aK->aK->aa Ao:=(DN n)
def O5:∀n,amu (agc n)
 |0=>λ_ _ h=>(by cases h)
 |n+1=>by
  have ih:=O5 n;have i280:=ih;exact(fe (agG i280) (azX (agc n)) (λ_=>aY) (λ_=>aY) λg=>aHm (agc n) g.1 g.2.1)
def agA:aK->aK->aa Ao:=λa0 a1=>lim (λn=>agc n a0 a1)
def ajs:amu agA:=λg b h=>by
 obtain⟨n,hn⟩:=dz (show lim (λn=>agc n g.1 g.2.1)=V b from h);exact(O5 n) g b hn
def avr(F:bu):bu:=alI agA F
def amf{F:bu}(h:bE vp F):bE vp (avr F):=XI ajs h
def aaq{F:bu}{f:Nat}(h:bA F f):bA (avr F) f:=Kf h
def ax8:bu:=(avr (ahD (ajP (avf (Hs dA)))))
abbrev aCm:=aK
def d234:Td 0 aCm:= .c [] [6] (.r 0 1 (ec 6 (qp 0 0) en) (sb 0 34 (lg 34) sn) (λz=>z.2.1) (λx=>(((),()),(x,()))))
def aAt:∀f∈([176]:af Nat),bA (ax8) f:=(aA (aaq (Jq (Jv (aan (fC bG))))) aH)
def aaX(a0:Int)(a1:aK)(a2:aK):aa aCm:=
 match agA a1 a2 with|G=>G|V r1=>match match BZ a1 with|G=>G|V r2=>bif vn (1<r2)then V (J)else match BZ a2 with|G=>G|V r3=>bif vn (1<r3)then V (J)else V (bif vn (a1.ah=a2.ah)then O else J)with|G=>G|V r4=>match SZ a1 with|G=>G|V r5=>match SZ a2 with|G=>G|V r6=>bif vn (a0=13)then match qm r4 (match fB r1 with|J=>O|O=>J)with|G=>G|V r7=>V (r7)else bif vn (a0=14)then match qm (match fB r1 with|J=>O|O=>J) r4 with|G=>G|V r8=>V (r8)else bif vn (a0=15)then match qm (vn (a2.ah<=a1.ag)) (vn (a1.ah<a2.ag))with|G=>G|V r9=>V (r9)else bif vn (a0=16)then match qm (vn (a2.ah<a1.ag)) (vn (a1.ah<=a2.ag))with|G=>G|V r10=>V (r10)else bif vn (a0=17)then match qm (vn (a1.ah<=a2.ag)) (vn (a2.ah<a1.ag))with|G=>G|V r11=>V (r11)else bif vn (a0=18)then match qm (vn (a1.ah<a2.ag)) (vn (a2.ah<=a1.ag))with|G=>G|V r12=>V (r12)else bif vn (a0=19)then bif r5.fst then bif r5.snd then match qm J r6.snd with|G=>G|V r13=>V (r13)else match qm J O with|G=>G|V r14=>V (r14)else bif r5.snd then match qm r6.fst r6.snd with|G=>G|V r15=>V (r15)else match qm r6.fst O with|G=>G|V r16=>V (r16)else bif r5.fst then bif r5.snd then match qm r6.fst J with|G=>G|V r17=>V (r17)else match qm r6.fst r6.snd with|G=>G|V r18=>V (r18)else bif r5.snd then match qm O J with|G=>G|V r19=>V (r19)else match qm O r6.snd with|G=>G|V r20=>V (r20)
def atY:=eL vp 234 O (aU (lc (qg 34) (lc (qg 34) ln))) d234 (λg=>aaX g.1 g.2.1 g.t.1)
def akJ:EO atY:=λh=>kL (F:=ax8) (an:=(noTwo (noTwo (.two (.rb [176] 8) .no)))) (l:=[(.skip,(.rb [176] 8))]) func234 (amf (WQ (NC (By (jt aV))))) (aA aAt aH) h
def sW:EP atY:=λh=>kP h
def ayO:bu:=(atY (au5 (avp (avQ (aeL (Uz (QZ (Hs (ZG (QX dA))))))))))
abbrev ayH:=aK×Int
def d155:Td 0 ayH:= .c [] [6,7] (.r 0 1 (ec 6 (qp 0 0) (ec 7 aP en)) (sb 0 34 (lg 34) sn) (λz=>(z.2.1,z.1.2.1)) (λx=>(((),x.2,()),(x.1,()))))
def afs:∀f∈([144,145,147,231]:af Nat),bA (ayO) f:=(aA (sW (tD (tF (tI (oM (jX (lX (fC (j8 (fZ bG)))))))))) (aA (sW (tD (tF (tI (oM (jX (lX (fC (j8 (fZ bG)))))))))) (aA (sW (tD (tF (tI (oM (jX (lX (fC (j8 (fZ bG)))))))))) (aA (sW (tD (tF (tI (oM (jX (lX (fC (j8 (fZ bG)))))))))) aH))))
def A5(a0:Int)(a1:aK)(a2:aK):aa ayH:=
 match match AE a1 with|G=>G|V r1=>bif bif r1 then O else J then V (J)else match AE a2 with|G=>G|V r2=>bif bif r2 then O else J then V (J)else V (bif Ec a0 then O else J)with|G=>G|V r3=>bif r3 then V ((aK.mk (0) (0) (0),1))else match bif fB a1 then V (J)else V (fB a2)with|G=>G|V r4=>bif r4 then V ((jv,0))else bif vn (a0=9)then match bif bif jA (ak (a1.ah+ak (0-a2.ag)))then O else J then V (J)else V (bif jA (ak (a1.ag+ak (0-a2.ah)))then O else J)with|G=>G|V r5=>bif r5 then V ((aK.mk (0) (0) (0),3))else match D4 [a1.aj,a2.aj]with|G=>G|V r6=>match oc (ak (a1.ah+ak (0-a2.ag))) (ak (a1.ag+ak (0-a2.ah))) r6 with|G=>G|V r7=>V ((r7,0))else bif vn (a0=8)then match bif bif jA (ak (a1.ah+a2.ah))then O else J then V (J)else V (bif jA (ak (a1.ag+a2.ag))then O else J)with|G=>G|V r8=>bif r8 then V ((aK.mk (0) (0) (0),3))else match D4 [a1.aj,a2.aj]with|G=>G|V r9=>match oc (ak (a1.ah+a2.ah)) (ak (a1.ag+a2.ag)) r9 with|G=>G|V r10=>V ((r10,0))else bif vn (a0=10)then match aaw a1 a2 with|G=>G|V r11=>V (r11)else bif vn (a0=11)then match AW a0 a1 a2 with|G=>G|V r12=>V ((r12,0))else bif vn (a0=12)then match AW a0 a1 a2 with|G=>G|V r13=>V ((r13,0))else bif vn (a0=21)then match AW a0 a1 a2 with|G=>G|V r14=>V ((r14,0))else bif vn (a0=22)then match AW a0 a1 a2 with|G=>G|V r15=>V ((r15,0))else match aaX a0 a1 a2 with|G=>G|V r16=>V ((r16,0))
def ax0:=eL vp 155 O (aU (lc (qg 34) (lc (qg 34) ln))) d155 (λg=>A5 g.1 g.2.1 g.t.1)
def ME:EO ax0:=λh=>kL (F:=ayO) (an:=(noTwo (.two (.two (.rb [144,145,147,231] 22) .no) (.two (.two (.rb [144,145,147,231] 29) .no) (.two (noTwo (.two (.two (noTwo (.two (noTwo (.two (.two (.rb [144,145,147,231] 69) .no) .no)) .no)) .no) .no)) .no))))) (l:=[(.skip,(.rb [144,145,147,231] 22)),(.skip,(.rb [144,145,147,231] 29)),(.skip,(.rb [144,145,147,231] 69))]) func155 (akJ (aiH (ajR (amS (EL (sR (kE (jt (Bj (lH aV)))))))))) (aA afs (aA afs (aA afs aH))) h
abbrev qY:=aK×ay
def d150:Td 2 qY:= .c [] [4] (.r 2 3 (ec 4 (qp 2 0) en) (sb 0 128 (lg 128) (sb 1 215 (lc (qf 150 (lc (qp 0 0) (lc (qp 1 0) ln))) ln) (sb 2 34 (lg 34) sn))) (λz=>(z.t.2.1,z.2.1)) (λx=>(((),()),(x.2,(((),(),()),()),x.1,()))))
def att:=(lc (qg 137) (lc (qp 0 0) (lc (qp 1 0) ln)))
def ato:=(sb 0 128 (lg 128) (sb 1 215 (lc (qf 150 (lc (qp 0 0) (lc (qp 1 0) ln))) ln) sn))
def x150(M:az->ay->aa qY):bu->bu:=eY vp 150 2 att ato d150 (λg=>M g.1.1 g.2.1)
def amr(M:az->ay->aa qY):Prop:=HY vp 150 2 att ato d150 (λg=>M g.1.1 g.2.1)
def V2{M:az->ay->aa qY}(hM:amr M){F:bu}(h:bE vp F):bE vp (x150 M F):=DB hM ⟨_,func150,aY,aY⟩ (λ_=>aY) h
def asn(M150:az->ay->aa qY):bu:=(ax0 (az7 (aCd (aBD (alS (x150 M150 (e92 (e81 (e80 dA)))))))))
def al3{M150}(h150:amr M150):bE vp (asn M150):=(ME (ahi (amP (Lv (Lr (V2 h150 (Ty (UY (MV aV)))))))))
structure CZ where
 t90:List az
 (t91 t92:Int)
 b0:ay
 (b2 b3 b4:aK)
def UR:Td 2 CZ:= .c [] [2,4,7,9,90,91,92] (.r 2 5 (ec 2 (qp 1 0) (ec 4 (qp 2 0) (ec 7 (qp 3 0) (ec 9 (qp 4 0) (ec 90 (ql 137) (ec 91 aP (ec 92 aP en))))))) (sb 0 128 (lg 128) (sb 1 215 (lc (qf 150 (lc (qp 0 0) (lc (qp 1 0) ln))) ln) (sb 2 34 (lg 34) (sb 3 34 (lg 34) (sb 4 34 (lg 34) sn))))) (λz=>⟨z.1.q.1,z.1.q.2.1,z.1.q.t.1,z.2.1,z.t.2.1,z.q.1,z.q.2.1⟩) (λx=>(((),(),(),(),x.t90,x.t91,x.t92,()),(x.b0,(((),(),()),()),x.b2,x.b3,x.b4,()))))
def L6(M150:az->ay->aa qY)(p:CZ):aa (aa CZ):=
 bif vn (p.t92<p.t91)then if 0<=p.t92/\p.t92<zY p.t90 then match m92 p.b3 p.t92 with|G=>G|V r1=>bif r1 then match M150 (az.mk p.t90[zq p.t92]!.bF p.t90[zq p.t92]!.fN p.t90[zq p.t92]!.aq) p.b0 with|G=>G|V r2=>match G9 p.b4 r2.fst with|G=>G|V r3=>V (V (CZ.mk p.t90 p.t91 (ak (p.t92+1)) r2.snd p.b2 p.b3 r3))else V (V (CZ.mk p.t90 p.t91 (ak (p.t92+1)) p.b0 p.b2 p.b3 p.b4))else G else V (G)
def L5(M150:az->ay->aa qY):=bI (L6 M150)
def aqW(M150:az->ay->aa qY):An:=(noTwo (.two (noTwo (noTwo (noTwo (noTwo (noTwo (noTwo (noTwo (noTwo (.two (noTwo (noTwo (.two (noTwo (UR.lp (L5 M150) .no)) .no))) .no))))))))) .no))
def axr(M150:az->ay->aa qY):gv vp (asn M150) 2 300 150 (aqW M150):=cH (l:=[(bk f150 0,(UR.lp (L5 M150) .no))]) func150 (bT aY) aY (aA (aO UR) aH)
def alC(M150:az->ay->aa qY)(a0:az)(b0:ay):aa qY:=
 bif vn (a0.bF=0)then V (m80 a0.fN,b0)else bif vn (a0.bF=24)then if 0<=a0.fN/\a0.fN<zY b0.ai then V (b0.ai[a0.fN.toNat]!,b0)else G else bif vn (a0.bF=23)then if(0:Int)<=(0:Int)/\(0:Int)<zY a0.aq then match M150 (az.mk a0.aq[0]!.bF a0.aq[0]!.fN a0.aq[0]!.aq) b0 with|G=>G|V r4=>match SP r4.fst with|G=>G|V r5=>bif bif r5.fst then O else J then if(0:Int)<=(1:Int)/\(1:Int)<zY a0.aq then match M150 (az.mk a0.aq[1]!.bF a0.aq[1]!.fN a0.aq[1]!.aq) r4.snd with|G=>G|V r6=>V (r6)else G else bif bif r5.snd then O else J then if(0:Int)<=(2:Int)/\(2:Int)<zY a0.aq then match M150 (az.mk a0.aq[2]!.bF a0.aq[2]!.fN a0.aq[2]!.aq) r4.snd with|G=>G|V r7=>V (r7)else G else if(0:Int)<=(1:Int)/\(1:Int)<zY a0.aq then match M150 (az.mk a0.aq[1]!.bF a0.aq[1]!.fN a0.aq[1]!.aq) r4.snd with|G=>G|V r8=>if(0:Int)<=(2:Int)/\(2:Int)<zY a0.aq then match M150 (az.mk a0.aq[2]!.bF a0.aq[2]!.fN a0.aq[2]!.aq) r8.snd with|G=>G|V r9=>match G9 r8.fst r9.fst with|G=>G|V r10=>V (r10,r9.snd)else G else G else G else bif vn (a0.bF=25)then if(0:Int)<=(0:Int)/\(0:Int)<zY a0.aq then match M150 (az.mk a0.aq[0]!.bF a0.aq[0]!.fN a0.aq[0]!.aq) b0 with|G=>G|V r11=>match m81 r11.fst 0 (ak ((zY a0.aq:Int)-2))with|G=>G|V r12=>if(0:Int)<=(1:Int)/\(1:Int)<=zY a0.aq then match L5 M150 (CZ.mk (ya 1 a0.aq) (↑(ya 1 a0.aq).length:Int) 0 r11.snd (aK.mk 0 0 0) r12.fst ahm)with|G=>G|V r13=>bif vn (r13.t92<r13.t91)then if 0<=r13.t92/\r13.t92<zY r13.t90 then match m92 r13.b3 r13.t92 with|G=>G|V r14=>bif r14 then match M150 (az.mk r13.t90[zq r13.t92]!.bF r13.t90[zq r13.t92]!.fN r13.t90[zq r13.t92]!.aq) r13.b0 with|G=>G|V r15=>match G9 r13.b4 r15.fst with|G=>G|V r16=>G else G else G else V (r13.b4,r13.b0)else G else G else bif vn ((zY a0.aq:Int)=1)then if(0:Int)<=(0:Int)/\(0:Int)<zY a0.aq then match M150 (az.mk a0.aq[0]!.bF a0.aq[0]!.fN a0.aq[0]!.aq) b0 with|G=>G|V r17=>match alT a0.bF r17.fst with|G=>G|V r18=>V (r18.fst,r17.snd)else G else if(0:Int)<=(0:Int)/\(0:Int)<zY a0.aq then match M150 (az.mk a0.aq[0]!.bF a0.aq[0]!.fN a0.aq[0]!.aq) b0 with|G=>G|V r19=>if(0:Int)<=(1:Int)/\(1:Int)<zY a0.aq then match M150 (az.mk a0.aq[1]!.bF a0.aq[1]!.fN a0.aq[1]!.aq) r19.snd with|G=>G|V r20=>match A5 a0.bF r19.fst r20.fst with|G=>G|V r21=>V (r21.fst,r20.snd)else G else G
def aE1(M150:az->ay->aa qY)(a0:az)(b0:ay):bZ vp (asn M150) 300 (aqW M150) 150 (att.c (a0,(),(),())) (ato.d (b0,(((),(),()),()),())) 2 d150.rd=alC M150 a0 b0:=aY
def ap6:Nat->(az->ay->aa qY)
 |0=>(λ_ _=>G)
 |n+1=>(alC (ap6 n))
def Sj(n:Nat):az->ay->aa qY:=(ap6 n)
def Rt:∀n,amr (Sj n)
 |0=>λ_ _ h=>(by cases h)
 |n+1=>by
  have ih:=Rt n;have i150:=ih;exact(Wk (al3 i150) (axr (Sj n)) (λ_=>aY) (λ_=>aY) (λ_=>aY) λg=>aE1 (Sj n) g.1.1 g.2.1)
def aiA:az->ay->aa qY:=λa0 b0=>lim (λn=>Sj n a0 b0)
def alX:amr aiA:=λg b h=>by
 obtain⟨n,hn⟩:=dz (show lim (λn=>Sj n g.1.1 g.2.1)=V b from h);exact(Rt n) g b hn
def aGM(F:bu):bu:=x150 aiA F
def ajA{F:bu}(h:bE vp F):bE vp (aGM F):=V2 alX h
abbrev E91:=Int
def d91:Td 0 E91:= .c [] [2] (.r 0 0 (ec 2 aP en) sn (λz=>z.1.1) (λx=>((x,()),(()))))
def XN(a0:aK):aa E91:=
 match AE a0 with|G=>G|V r1=>bif bif r1 then O else J then V (0)else match BZ a0 with|G=>G|V r2=>V (r2)
def e91:=eL vp 91 O (lc (qg 34) ln) d91 (λg=>XN g.1)
def UQ:EO e91:=λh=>kL (an:= .no) func91 (By (lH aV)) aH h
def Fj:EP e91:=λh=>kP h
def aGo:bu:=dA
abbrev awi:=Int
def d174:Td 0 awi:= .c [] [4] (.r 0 0 (ec 4 aP en) sn (λz=>z.1.1) (λx=>((x,()),(()))))
def awR:=(aU (aU ln))
def apB:An:= .no
def lR(a0:Int)(a1:Int):awi:=
 bif vn (a1<a0)then a0 else a1
def aF9(a0:Int)(a1:Int):bZ vp (aGo) 300 (apB) 174 (awR.c (a0,a1,())) [] 0 d174.rd=V (lR a0 a1):=by
 refine Eq.trans (b:=(
  bif vn (a1<a0)then V (a0)else V (a1):aa awi)) aY ?_
 simp only[lR,cn,cO]
def Z6:=eL vp 174 O awR d174 (λg=>V (lR g.1 g.2.1))
def LH:EO Z6:=λh=>kL (an:=apB) func174 aV aH h (c:=λg=>aF9 g.1 g.2.1)
def aHP:bu:=dA
abbrev ar9:=Int
def d175:Td 0 ar9:= .c [] [4] (.r 0 0 (ec 4 aP en) sn (λz=>z.1.1) (λx=>((x,()),(()))))
def azm:=(aU (aU ln))
def aoA:An:= .no
def jS(a0:Int)(a1:Int):ar9:=
 bif vn (a0<a1)then a0 else a1
def aE0(a0:Int)(a1:Int):bZ vp (aHP) 300 (aoA) 175 (azm.c (a0,a1,())) [] 0 d175.rd=V (jS a0 a1):=by
 refine Eq.trans (b:=(
  bif vn (a0<a1)then V (a0)else V (a1):aa ar9)) aY ?_
 simp only[jS,cn,cO]
def agw:=eL vp 175 O azm d175 (λg=>V (jS g.1 g.2.1))
def NF:EO agw:=λh=>kL (an:=aoA) func175 aV aH h (c:=λg=>aE0 g.1 g.2.1)
abbrev QG:=Int×Int×Int
def d90:Td 0 QG:= .c [] [2,3,4] (.r 0 0 (ec 2 aP (ec 3 aP (ec 4 aP en))) sn (λz=>(z.1.1,z.1.2.1,z.1.t.1)) (λx=>((x.1,x.2.1,x.t,()),(()))))
def A90:=(lc (ql 166) ln)
def x90(M:(af aB)->aa QG):bu->bu:=eL vp 90 O A90 d90 (λg=>M g.1)
def aeG{M:(af aB)->aa QG}{F:bu}{f:Nat}(h:bA F f):bA (x90 M F) f:=gH h (λ_=>aY)
def H90(M:(af aB)->aa QG):Prop:=HL vp 90 A90 d90 (λg=>M g.1)
def ac9{M:(af aB)->aa QG}(hM:H90 M){F:bu}(h:bE vp F):bE vp (x90 M F):=gj (sc:=A9) ei hM ⟨_,func90,aY,aY⟩ (λ_=>aY) (λ_=>aY) h
def F90(M90:(af aB)->aa QG):bu:=(agw (Z6 (x90 M90 dA)))
def ari{M90}(h90:H90 M90):bE vp (F90 M90):=(NF (LH (ac9 h90 aV)))
structure DJ where
 t0:List aB
 (t5 t6 t7 t8:Int)
def af8:Td 0 DJ:= .c [] [0,5,6,7,8] (.r 0 0 (ec 0 (ql 166) (ec 5 aP (ec 6 aP (ec 7 aP (ec 8 aP en))))) sn (λz=>⟨z.1.1,z.1.2.1,z.1.t.1,z.1.t.2.1,z.1.q.1⟩) (λx=>((x.t0,x.t5,x.t6,x.t7,x.t8,()),(()))))
def Wi(M90:(af aB)->aa QG)(p:DJ):aa (aa DJ):=
 bif vn (p.t8<zY p.t0)then if 0<=p.t8/\p.t8<zY p.t0 then match M90 p.t0[zq p.t8]!.aQ with|G=>G|V r1=>match M90 p.t0[zq p.t8]!.aX with|G=>G|V r2=>bif vn (p.t0[zq p.t8]!.b9=4)then bif vn (p.t0[zq p.t8]!.b9=1)then V (V (DJ.mk p.t0 (jS (ak (p.t5+ak (1+ak (p.t0[zq p.t8]!.fN*ak (1+r1.fst))))) 4097) (jS (ak (p.t6+1)) 9) (jS (ak (p.t7+ak (p.t0[zq p.t8]!.fN*ak (p.t0[zq p.t8]!.bg+r1.snd.snd)))) 67108865) (ak (p.t8+1))))else V (V (DJ.mk p.t0 (jS (ak (p.t5+ak (1+ak (p.t0[zq p.t8]!.fN*ak (1+r1.fst))))) 4097) (jS (ak (p.t6+ak (p.t0[zq p.t8]!.fN*r1.snd.fst))) 9) (jS (ak (p.t7+ak (p.t0[zq p.t8]!.fN*ak (p.t0[zq p.t8]!.bg+r1.snd.snd)))) 67108865) (ak (p.t8+1))))else bif vn (p.t0[zq p.t8]!.b9=1)then V (V (DJ.mk p.t0 (jS (ak (p.t5+ak (1+lR r1.fst r2.fst))) 4097) (jS (ak (p.t6+1)) 9) (jS (ak (p.t7+ak (p.t0[zq p.t8]!.bg+lR r1.snd.snd r2.snd.snd))) 67108865) (ak (p.t8+1))))else V (V (DJ.mk p.t0 (jS (ak (p.t5+ak (1+lR r1.fst r2.fst))) 4097) (jS (ak (p.t6+lR r1.snd.fst r2.snd.fst)) 9) (jS (ak (p.t7+ak (p.t0[zq p.t8]!.bg+lR r1.snd.snd r2.snd.snd))) 67108865) (ak (p.t8+1))))else G else V (G)
def WC(M90:(af aB)->aa QG):=bI (Wi M90)
def azh(M90:(af aB)->aa QG):An:=(noTwo (noTwo (.two (noTwo (af8.lp (WC M90) .no)) .no)))
def aGD(M90:(af aB)->aa QG):gv vp (F90 M90) 0 300 90 (azh M90):=cH (l:=[(bk f90 0,(af8.lp (WC M90) .no))]) func90 (bT aY) aY (aA (aO af8) aH)
def s90(M90:(af aB)->aa QG)(a0:af aB):aa QG:=
 match WC M90 (DJ.mk a0 0 0 0 0)with|G=>G|V r3=>bif vn (r3.t8<zY r3.t0)then if 0<=r3.t8/\r3.t8<zY r3.t0 then match M90 r3.t0[zq r3.t8]!.aQ with|G=>G|V r4=>match M90 r3.t0[zq r3.t8]!.aX with|G=>G|V r5=>bif vn (r3.t0[zq r3.t8]!.b9=4)then bif vn (r3.t0[zq r3.t8]!.b9=1)then G else G else bif vn (r3.t0[zq r3.t8]!.b9=1)then G else G else G else V (r3.t5,r3.t6,r3.t7)
def c90(M90:(af aB)->aa QG)(a0:af aB):bZ vp (F90 M90) 300 (azh M90) 90 (A90.c (a0,())) [] 0 d90.rd=s90 M90 a0:=aY
def ayW:Nat->((af aB)->aa QG)
 |0=>(λ_=>G)
 |n+1=>(s90 (ayW n))
def m90(n:Nat):(af aB)->aa QG:=(ayW n)
def Xn:∀n,H90 (m90 n)
 |0=>λ_ _ h=>(by cases h)
 |n+1=>by
  have ih:=Xn n;have i90:=ih;exact(fe (ari i90) (aGD (m90 n)) (λ_=>aY) (λ_=>aY) λg=>c90 (m90 n) g.1)
def r90:(af aB)->aa QG:=λa0=>lim (λn=>m90 n a0)
def avx:H90 r90:=λg b h=>by
 obtain⟨n,hn⟩:=dz (show lim (λn=>m90 n g.1)=V b from h);exact(Xn n) g b hn
def e90(F:bu):bu:=x90 r90 F
def aeV{F:bu}(h:bE vp F):bE vp (e90 F):=ac9 avx h
def QJ{F:bu}{f:Nat}(h:bA F f):bA (e90 F) f:=aeG h
abbrev qL:=Int
def d216:Td 0 qL:= .c [] [2] (.r 0 0 (ec 2 aP en) sn (λz=>z.1.1) (λx=>((x,()),(()))))
def auo:=(lc (qg 137) ln)
def ak7(M:az->aa qL):bu->bu:=eL vp 216 O auo d216 (λg=>M g.1)
def aaz{M:az->aa qL}{F:bu}{f:Nat}(h:bA F f):bA (ak7 M F) f:=gH h (λ_=>aY)
def aji(M:az->aa qL):Prop:=HL vp 216 auo d216 (λg=>M g.1)
def Xp{M:az->aa qL}(hM:aji M){F:bu}(h:bE vp F):bE vp (ak7 M F):=gj (sc:=A9) ei hM ⟨_,func216,aY,aY⟩ (λ_=>aY) (λ_=>aY) h
def avD(M216:az->aa qL):bu:=(ak7 M216 dA)
def ajN{M216}(h216:aji M216):bE vp (avD M216):=(Xp h216 aV)
structure Im where
 (t3 t4:Int)
 b0:az
def Uf:Td 0 Im:= .c [] [1,3,4] (.r 0 1 (ec 1 (qp 0 0) (ec 3 aP (ec 4 aP en))) (sb 0 137 (lg 137) sn) (λz=>⟨z.1.2.1,z.1.t.1,z.2.1⟩) (λx=>(((),x.t3,x.t4,()),(x.b0,()))))
def MK(M216:az->aa qL)(p:Im):aa (aa Im):=
 bif vn (p.t4<zY p.b0.aq)then if 0<=p.t4/\p.t4<zY p.b0.aq then match M216 (az.mk p.b0.aq[zq p.t4]!.bF p.b0.aq[zq p.t4]!.fN p.b0.aq[zq p.t4]!.aq)with|G=>G|V r1=>V (V (Im.mk (ak (p.t3+r1)) (ak (p.t4+1)) (az.mk p.b0.bF p.b0.fN p.b0.aq)))else G else V (G)
def MX(M216:az->aa qL):=bI (MK M216)
def aqm(M216:az->aa qL):An:=(noTwo (noTwo (.two (noTwo (Uf.lp (MX M216) .no)) .no)))
def axN(M216:az->aa qL):gv vp (avD M216) 0 300 216 (aqm M216):=cH (l:=[(bk f216 0,(Uf.lp (MX M216) .no))]) func216 (bT aY) aY (aA (aO Uf) aH)
def am3(M216:az->aa qL)(a0:az):aa qL:=
 match MX M216 (Im.mk 1 0 (az.mk a0.bF a0.fN a0.aq))with|G=>G|V r2=>bif vn (r2.t4<zY r2.b0.aq)then if 0<=r2.t4/\r2.t4<zY r2.b0.aq then match M216 (az.mk r2.b0.aq[zq r2.t4]!.bF r2.b0.aq[zq r2.t4]!.fN r2.b0.aq[zq r2.t4]!.aq)with|G=>G|V r3=>G else G else V (r2.t3)
def aE2(M216:az->aa qL)(a0:az):bZ vp (avD M216) 300 (aqm M216) 216 (auo.c (a0,())) [] 0 d216.rd=am3 M216 a0:=aY
def apl:Nat->(az->aa qL)
 |0=>(λ_=>G)
 |n+1=>(am3 (apl n))
def Ux(n:Nat):az->aa qL:=(apl n)
def OZ:∀n,aji (Ux n)
 |0=>λ_ _ h=>(by cases h)
 |n+1=>by
  have ih:=OZ n;have i216:=ih;exact(fe (ajN i216) (axN (Ux n)) (λ_=>aY) (λ_=>aY) λg=>aE2 (Ux n) g.1)
def aaH:az->aa qL:=λa0=>lim (λn=>Ux n a0)
def aiE:aji aaH:=λg b h=>by
 obtain⟨n,hn⟩:=dz (show lim (λn=>Ux n g.1)=V b from h);exact(OZ n) g b hn
def akF(F:bu):bu:=ak7 aaH F
def Wp{F:bu}(h:bE vp F):bE vp (akF F):=Xp aiE h
def Js{F:bu}{f:Nat}(h:bA F f):bA (akF F) f:=aaz h
abbrev qM:=Int
def d215:Td 0 qM:= .c [] [2] (.r 0 0 (ec 2 aP en) sn (λz=>z.1.1) (λx=>((x,()),(()))))
def av0:=(lc (ql 166) ln)
def ai1(M:(af aB)->aa qM):bu->bu:=eL vp 215 O av0 d215 (λg=>M g.1)
def ZN{M:(af aB)->aa qM}{F:bu}{f:Nat}(h:bA F f):bA (ai1 M F) f:=gH h (λ_=>aY)
def ahL(M:(af aB)->aa qM):Prop:=HL vp 215 av0 d215 (λg=>M g.1)
def Xz{M:(af aB)->aa qM}(hM:ahL M){F:bu}(h:bE vp F):bE vp (ai1 M F):=gj (sc:=A9) ei hM ⟨_,func215,aY,aY⟩ (λ_=>aY) (λ_=>aY) h
def atT(M215:(af aB)->aa qM):bu:=(akF (ai1 M215 dA))
def an0{M215}(h215:ahL M215):bE vp (atT M215):=(Wp (Xz h215 aV))
structure FI where
 t0:List aB
 (t3 t4:Int)
def Th:Td 0 FI:= .c [] [0,3,4] (.r 0 0 (ec 0 (ql 166) (ec 3 aP (ec 4 aP en))) sn (λz=>⟨z.1.1,z.1.2.1,z.1.t.1⟩) (λx=>((x.t0,x.t3,x.t4,()),(()))))
def LZ(M215:(af aB)->aa qM)(p:FI):aa (aa FI):=
 bif vn (p.t4<zY p.t0)then if 0<=p.t4/\p.t4<zY p.t0 then match aaH (az.mk p.t0[zq p.t4]!.aF.bF p.t0[zq p.t4]!.aF.fN p.t0[zq p.t4]!.aF.aq)with|G=>G|V r1=>if 0<=p.t4/\p.t4<zY p.t0 then match M215 p.t0[zq p.t4]!.aQ with|G=>G|V r2=>if 0<=p.t4/\p.t4<zY p.t0 then match M215 p.t0[zq p.t4]!.aX with|G=>G|V r3=>V (V (FI.mk p.t0 (ak (ak (ak (ak (p.t3+1)+r1)+r2)+r3)) (ak (p.t4+1))))else G else G else G else V (G)
def Ml(M215:(af aB)->aa qM):=bI (LZ M215)
def apj(M215:(af aB)->aa qM):An:=(noTwo (noTwo (.two (noTwo (Th.lp (Ml M215) .no)) .no)))
def aB8(M215:(af aB)->aa qM):gv vp (atT M215) 0 300 215 (apj M215):=cH (l:=[(bk f215 0,(Th.lp (Ml M215) .no))]) func215 (bT aY) aY (aA (aO Th) aH)
def amR(M215:(af aB)->aa qM)(a0:af aB):aa qM:=
 match Ml M215 (FI.mk a0 0 0)with|G=>G|V r4=>bif vn (r4.t4<zY r4.t0)then if 0<=r4.t4/\r4.t4<zY r4.t0 then match aaH (az.mk r4.t0[zq r4.t4]!.aF.bF r4.t0[zq r4.t4]!.aF.fN r4.t0[zq r4.t4]!.aF.aq)with|G=>G|V r5=>if 0<=r4.t4/\r4.t4<zY r4.t0 then match M215 r4.t0[zq r4.t4]!.aQ with|G=>G|V r6=>if 0<=r4.t4/\r4.t4<zY r4.t0 then match M215 r4.t0[zq r4.t4]!.aX with|G=>G|V r7=>G else G else G else G else V (r4.t3)
def aF3(M215:(af aB)->aa qM)(a0:af aB):bZ vp (atT M215) 300 (apj M215) 215 (av0.c (a0,())) [] 0 d215.rd=amR M215 a0:=aY
def aqn:Nat->((af aB)->aa qM)
 |0=>(λ_=>G)
 |n+1=>(amR (aqn n))
def TT(n:Nat):(af aB)->aa qM:=(aqn n)
def Pf:∀n,ahL (TT n)
 |0=>λ_ _ h=>(by cases h)
 |n+1=>by
  have ih:=Pf n;have i215:=ih;exact(fe (an0 i215) (aB8 (TT n)) (λ_=>aY) (λ_=>aY) λg=>aF3 (TT n) g.1)
def ani:(af aB)->aa qM:=λa0=>lim (λn=>TT n a0)
def akK:ahL ani:=λg b h=>by
 obtain⟨n,hn⟩:=dz (show lim (λn=>TT n g.1)=V b from h);exact(Pf n) g b hn
def aq7(F:bu):bu:=ai1 ani F
def amM{F:bu}(h:bE vp F):bE vp (aq7 F):=Xz akK h
def JV{F:bu}{f:Nat}(h:bA F f):bA (aq7 F) f:=ZN h
abbrev qP:=Int
def d217:Td 0 qP:= .c [] [2] (.r 0 0 (ec 2 aP en) sn (λz=>z.1.1) (λx=>((x,()),(()))))
def asM:=(lc (qg 137) ln)
def anA(M:az->aa qP):bu->bu:=eL vp 217 O asM d217 (λg=>M g.1)
def Z8{M:az->aa qP}{F:bu}{f:Nat}(h:bA F f):bA (anA M F) f:=gH h (λ_=>aY)
def an2(M:az->aa qP):Prop:=HL vp 217 asM d217 (λg=>M g.1)
def Xk{M:az->aa qP}(hM:an2 M){F:bu}(h:bE vp F):bE vp (anA M F):=gj (sc:=A9) ei hM ⟨_,func217,aY,aY⟩ (λ_=>aY) (λ_=>aY) h
def avi(M217:az->aa qP):bu:=(anA M217 dA)
def ahu{M217}(h217:an2 M217):bE vp (avi M217):=(Xk h217 aV)
structure CR where
 (t3 t4:Int)
 b0:az
def UL:Td 0 CR:= .c [] [1,3,4] (.r 0 1 (ec 1 (qp 0 0) (ec 3 aP (ec 4 aP en))) (sb 0 137 (lg 137) sn) (λz=>⟨z.1.2.1,z.1.t.1,z.2.1⟩) (λx=>(((),x.t3,x.t4,()),(x.b0,()))))
def LJ(M217:az->aa qP)(p:CR):aa (aa CR):=
 bif vn (p.t4<zY p.b0.aq)then if 0<=p.t4/\p.t4<zY p.b0.aq then match M217 (az.mk p.b0.aq[zq p.t4]!.bF p.b0.aq[zq p.t4]!.fN p.b0.aq[zq p.t4]!.aq)with|G=>G|V r1=>bif vn (p.t3<r1)then V (V (CR.mk r1 (ak (p.t4+1)) (az.mk p.b0.bF p.b0.fN p.b0.aq)))else V (V (CR.mk p.t3 (ak (p.t4+1)) (az.mk p.b0.bF p.b0.fN p.b0.aq)))else G else V (G)
def KO(M217:az->aa qP):=bI (LJ M217)
def apY(M217:az->aa qP):An:=(noTwo (noTwo (.two (noTwo (UL.lp (KO M217) .no)) .no)))
def awV(M217:az->aa qP):gv vp (avi M217) 0 300 217 (apY M217):=cH (l:=[(bk f217 0,(UL.lp (KO M217) .no))]) func217 (bT aY) aY (aA (aO UL) aH)
def akj(M217:az->aa qP)(a0:az):aa qP:=
 match KO M217 (CR.mk 0 0 (az.mk a0.bF a0.fN a0.aq))with|G=>G|V r2=>bif vn (r2.t4<zY r2.b0.aq)then if 0<=r2.t4/\r2.t4<zY r2.b0.aq then match M217 (az.mk r2.b0.aq[zq r2.t4]!.bF r2.b0.aq[zq r2.t4]!.fN r2.b0.aq[zq r2.t4]!.aq)with|G=>G|V r3=>bif vn (r2.t3<r3)then G else G else G else V (ak (r2.t3+1))
def aHn(M217:az->aa qP)(a0:az):bZ vp (avi M217) 300 (apY M217) 217 (asM.c (a0,())) [] 0 d217.rd=akj M217 a0:=aY
def apy:Nat->(az->aa qP)
 |0=>(λ_=>G)
 |n+1=>(akj (apy n))
def SX(n:Nat):az->aa qP:=(apy n)
def Qj:∀n,an2 (SX n)
 |0=>λ_ _ h=>(by cases h)
 |n+1=>by
  have ih:=Qj n;have i217:=ih;exact(fe (ahu i217) (awV (SX n)) (λ_=>aY) (λ_=>aY) λg=>aHn (SX n) g.1)
def TY:az->aa qP:=λa0=>lim (λn=>SX n a0)
def ai3:an2 TY:=λg b h=>by
 obtain⟨n,hn⟩:=dz (show lim (λn=>SX n g.1)=V b from h);exact(Qj n) g b hn
def ahn(F:bu):bu:=anA TY F
def Yx{F:bu}(h:bE vp F):bE vp (ahn F):=Xk ai3 h
def th{F:bu}{f:Nat}(h:bA F f):bA (ahn F) f:=Z8 h
abbrev rI:=Int
def d218:Td 0 rI:= .c [] [2] (.r 0 0 (ec 2 aP en) sn (λz=>z.1.1) (λx=>((x,()),(()))))
def avE:=(lc (ql 166) ln)
def aoc(M:(af aB)->aa rI):bu->bu:=eL vp 218 O avE d218 (λg=>M g.1)
def ZU{M:(af aB)->aa rI}{F:bu}{f:Nat}(h:bA F f):bA (aoc M F) f:=gH h (λ_=>aY)
def anJ(M:(af aB)->aa rI):Prop:=HL vp 218 avE d218 (λg=>M g.1)
def W8{M:(af aB)->aa rI}(hM:anJ M){F:bu}(h:bE vp F):bE vp (aoc M F):=gj (sc:=A9) ei hM ⟨_,func218,aY,aY⟩ (λ_=>aY) (λ_=>aY) h
def asd(M218:(af aB)->aa rI):bu:=(aoc M218 dA)
def akL{M218}(h218:anJ M218):bE vp (asd M218):=(W8 h218 aV)
structure qQ where
 t0:List aB
 (t3 t4:Int)
def R9:Td 0 qQ:= .c [] [0,3,4] (.r 0 0 (ec 0 (ql 166) (ec 3 aP (ec 4 aP en))) sn (λz=>⟨z.1.1,z.1.2.1,z.1.t.1⟩) (λx=>((x.t0,x.t3,x.t4,()),(()))))
def NB(M218:(af aB)->aa rI)(p:qQ):aa (aa qQ):=
 bif vn (p.t4<zY p.t0)then if 0<=p.t4/\p.t4<zY p.t0 then match M218 p.t0[zq p.t4]!.aQ with|G=>G|V r1=>if 0<=p.t4/\p.t4<zY p.t0 then match M218 p.t0[zq p.t4]!.aX with|G=>G|V r2=>bif vn (p.t3<ak (r1+1))then bif vn (ak (r1+1)<ak (r2+1))then V (V (qQ.mk p.t0 (ak (r2+1)) (ak (p.t4+1))))else V (V (qQ.mk p.t0 (ak (r1+1)) (ak (p.t4+1))))else bif vn (p.t3<ak (r2+1))then V (V (qQ.mk p.t0 (ak (r2+1)) (ak (p.t4+1))))else V (V (qQ.mk p.t0 p.t3 (ak (p.t4+1))))else G else G else V (G)
def KT(M218:(af aB)->aa rI):=bI (NB M218)
def aqE(M218:(af aB)->aa rI):An:=(noTwo (noTwo (.two (noTwo (R9.lp (KT M218) .no)) .no)))
def awY(M218:(af aB)->aa rI):gv vp (asd M218) 0 300 218 (aqE M218):=cH (l:=[(bk f218 0,(R9.lp (KT M218) .no))]) func218 (bT aY) aY (aA (aO R9) aH)
def am9(M218:(af aB)->aa rI)(a0:af aB):aa rI:=
 match KT M218 (qQ.mk a0 0 0)with|G=>G|V r3=>bif vn (r3.t4<zY r3.t0)then if 0<=r3.t4/\r3.t4<zY r3.t0 then match M218 r3.t0[zq r3.t4]!.aQ with|G=>G|V r4=>if 0<=r3.t4/\r3.t4<zY r3.t0 then match M218 r3.t0[zq r3.t4]!.aX with|G=>G|V r5=>bif vn (r3.t3<ak (r4+1))then bif vn (ak (r4+1)<ak (r5+1))then G else G else bif vn (r3.t3<ak (r5+1))then G else G else G else G else V (r3.t3)
def aF2(M218:(af aB)->aa rI)(a0:af aB):bZ vp (asd M218) 300 (aqE M218) 218 (avE.c (a0,())) [] 0 d218.rd=am9 M218 a0:=aY
def ao4:Nat->((af aB)->aa rI)
 |0=>(λ_=>G)
 |n+1=>(am9 (ao4 n))
def SJ(n:Nat):(af aB)->aa rI:=(ao4 n)
def Qy:∀n,anJ (SJ n)
 |0=>λ_ _ h=>(by cases h)
 |n+1=>by
  have ih:=Qy n;have i218:=ih;exact(fe (akL i218) (awY (SJ n)) (λ_=>aY) (λ_=>aY) λg=>aF2 (SJ n) g.1)
def amB:(af aB)->aa rI:=λa0=>lim (λn=>SJ n a0)
def anw:anJ amB:=λg b h=>by
 obtain⟨n,hn⟩:=dz (show lim (λn=>SJ n g.1)=V b from h);exact(Qy n) g b hn
def aso(F:bu):bu:=aoc amB F
def agX{F:bu}(h:bE vp F):bE vp (aso F):=W8 anw h
def JD{F:bu}{f:Nat}(h:bA F f):bA (aso F) f:=ZU h
abbrev qk:=Bool
def d219:Td 0 qk:= .c [] [2] (.r 0 0 (ec 2 qb en) sn (λz=>z.1.1) (λx=>((x,()),(()))))
def avK:=(lc (ql 166) ln)
def ahg(M:(af aB)->aa qk):bu->bu:=eL vp 219 O avK d219 (λg=>M g.1)
def Dn{M:(af aB)->aa qk}{F:bu}{f:Nat}(h:bA F f):bA (ahg M F) f:=gH h (λ_=>aY)
def ak2(M:(af aB)->aa qk):Prop:=HL vp 219 avK d219 (λg=>M g.1)
def Wm{M:(af aB)->aa qk}(hM:ak2 M){F:bu}(h:bE vp F):bE vp (ahg M F):=gj (sc:=A9) ei hM ⟨_,func219,aY,aY⟩ (λ_=>aY) (λ_=>aY) h
def ah0(M219:(af aB)->aa qk):bu:=(ahg M219 (ahn dA))
def ano{M219}(h219:ak2 M219):bE vp (ah0 M219):=(Wm h219 (Yx aV))
structure GV where
 t0:List aB
 t3:Int
def Sv:Td 0 GV:= .c [] [0,3] (.r 0 0 (ec 0 (ql 166) (ec 3 aP en)) sn (λz=>⟨z.1.1,z.1.2.1⟩) (λx=>((x.t0,x.t3,()),(()))))
def L1(M219:(af aB)->aa qk)(p:GV):aa (aa GV):=
 bif vn (p.t3<zY p.t0)then match if 0<=p.t3/\p.t3<zY p.t0 then match TY (az.mk p.t0[zq p.t3]!.aF.bF p.t0[zq p.t3]!.aF.fN p.t0[zq p.t3]!.aF.aq)with|G=>G|V r1=>bif vn (12<r1)then V J else if 0<=p.t3/\p.t3<zY p.t0 then match M219 p.t0[zq p.t3]!.aQ with|G=>G|V r2=>bif r2 then V J else if 0<=p.t3/\p.t3<zY p.t0 then match M219 p.t0[zq p.t3]!.aX with|G=>G|V r3=>V (r3)else G else G else G with|G=>G|V r4=>bif r4 then V (G)else V (V (GV.mk p.t0 (ak (p.t3+1))))else V (G)
def ae8(M219:(af aB)->aa qk):An:=(noTwo (.two (.two (.rb [217,219] 32) .no) .no))
def KJ(M219:(af aB)->aa qk):=bI (L1 M219)
def aoP(M219:(af aB)->aa qk):An:=(noTwo (.two (noTwo (Sv.lp (KJ M219) (ae8 M219))) .no))
def aAG{M219}:∀f∈([217,219]:af Nat),bA (ah0 M219) f:=(aA (Dn (th bG)) (aA (Dn (th bG)) aH))
def axK(M219:(af aB)->aa qk):gv vp (ah0 M219) 0 300 219 (aoP M219):=cH (l:=[(bk f219 0,(Sv.lp (KJ M219) (ae8 M219))),(.skip,(.rb [217,219] 32))]) func219 (bT aY) aY (aA (aO Sv) (aA aAG aH))
def an4(M219:(af aB)->aa qk)(a0:af aB):aa qk:=
 match KJ M219 (GV.mk a0 0)with|G=>G|V r5=>bif vn (r5.t3<zY r5.t0)then match if 0<=r5.t3/\r5.t3<zY r5.t0 then match TY (az.mk r5.t0[zq r5.t3]!.aF.bF r5.t0[zq r5.t3]!.aF.fN r5.t0[zq r5.t3]!.aF.aq)with|G=>G|V r6=>bif vn (12<r6)then V J else if 0<=r5.t3/\r5.t3<zY r5.t0 then match M219 r5.t0[zq r5.t3]!.aQ with|G=>G|V r7=>bif r7 then V J else if 0<=r5.t3/\r5.t3<zY r5.t0 then match M219 r5.t0[zq r5.t3]!.aX with|G=>G|V r8=>V (r8)else G else G else G with|G=>G|V r9=>bif r9 then V J else G else V O
def aFt(M219:(af aB)->aa qk)(a0:af aB):bZ vp (ah0 M219) 300 (aoP M219) 219 (avK.c (a0,())) [] 0 d219.rd=an4 M219 a0:=aY
def aqc:Nat->((af aB)->aa qk)
 |0=>(λ_=>G)
 |n+1=>(an4 (aqc n))
def SR(n:Nat):(af aB)->aa qk:=(aqc n)
def Qs:∀n,ak2 (SR n)
 |0=>λ_ _ h=>(by cases h)
 |n+1=>by
  have ih:=Qs n;have i219:=ih;exact(fe (ano i219) (axK (SR n)) (λ_=>aY) (λ_=>aY) λg=>aFt (SR n) g.1)
def ai4:(af aB)->aa qk:=λa0=>lim (λn=>SR n a0)
def alq:ak2 ai4:=λg b h=>by
 obtain⟨n,hn⟩:=dz (show lim (λn=>SR n g.1)=V b from h);exact(Qs n) g b hn
def aug(F:bu):bu:=ahg ai4 F
def akg{F:bu}(h:bE vp F):bE vp (aug F):=Wm alq h
def Je{F:bu}{f:Nat}(h:bA F f):bA (aug F) f:=Dn h
def ay7:bu:=(aug (aso (ahn (akF (aq7 dA)))))
structure uG where
 (t3 t4:Int)
 b0:aS
def Te:Td 0 uG:= .c [] [1,3,4] (.r 0 1 (ec 1 (qp 0 0) (ec 3 aP (ec 4 aP en))) (sb 0 26 (lg 26) sn) (λz=>⟨z.1.2.1,z.1.t.1,z.2.1⟩) (λx=>(((),x.t3,x.t4,()),(x.b0,()))))
def BX{α:Type}(p:uG)(go:uG->aa α)(e1 e2:aa α):aa α:=
 bif vn (p.t4<zY p.b0.ax)then if 0<=p.t4/\p.t4<zY p.b0.ax then match aaH (az.mk p.b0.ax[zq p.t4]!.aF.bF p.b0.ax[zq p.t4]!.aF.fN p.b0.ax[zq p.t4]!.aF.aq)with|G=>G|V r1=>if 0<=p.t4/\p.t4<zY p.b0.ax then match TY (az.mk p.b0.ax[zq p.t4]!.aF.bF p.b0.ax[zq p.t4]!.aF.fN p.b0.ax[zq p.t4]!.aF.aq)with|G=>G|V r2=>bif vn (12<r2)then e1 else go (uG.mk (ak (p.t3+r1)) (ak (p.t4+1)) p.b0)else G else G else e2
def Hf(p:uG):aa (aa uG):=
 BX p (λs=>V (V s)) (V G) (V G)
def LS:=bI (Hf)
abbrev aAq:=Bool
def d138:Td 0 aAq:= .c [] [2] (.r 0 0 (ec 2 qb en) sn (λz=>z.1.1) (λx=>((x,()),(()))))
def ap0:∀f∈([218,219]:af Nat),bA (ay7) f:=(aA (Je (JD (th (Js (JV bG))))) (aA (Je (JD (th (Js (JV bG))))) aH))
def ahj(a0:aS):aa aAq:=
 match (bif vn (64<(zY a0.ai:Int))then V J else V (vn (8<(zY a0.ax:Int))))with|G=>G|V r3=>bif r3 then V O else match ani a0.bM with|G=>G|V r4=>match LS (uG.mk r4 0 a0)with|G=>G|V r5=>BX r5 (λ_=>G) (V O) (match (bif vn (r5.t3<=1024)then match amB r5.b0.bM with|G=>G|V r8=>bif vn (r8<=12)then match ai4 r5.b0.bM with|G=>G|V r9=>V (bif r9 then O else J)else V O else V O)with|G=>G|V r10=>V (r10))
def aDw:=eL vp 138 O (lc (qg 26) ln) d138 (λg=>ahj g.1)
def ah4:EO aDw:=λh=>kL (F:=ay7) (an:=(noTwo (.two (.two (.rb [218,219] 14) .no) (noTwo (.two (noTwo (Te.lp LS .no)) (.two (.rb [218,219] 2) .no)))))) (l:=[(.skip,(.rb [218,219] 14)),(bk f138 0,(Te.lp LS .no)),(.skip,(.rb [218,219] 2))]) func138 (akg (agX (Yx (Wp (amM aV))))) (aA ap0 (aA (aO Te) (aA ap0 aH))) h
def aAM:bu:=dA
structure Ae where
 t0:ByteArray
 t3:Int
def RQ:Td 0 Ae:= .c [] [0,3] (.r 0 0 (ec 0 qs (ec 3 aP en)) sn (λz=>⟨z.1.1,z.1.2.1⟩) (λx=>((x.t0,x.t3,()),(()))))
def GU{α:Type}(p:Ae)(go:Ae->aa α)(e1 e2:aa α):aa α:=
 bif vn (p.t3<p.t0.size)then if 0<=p.t3/\p.t3<p.t0.size then match (bif vn (97<=di p.t0 p.t3.toNat)then V (vn (di p.t0 p.t3.toNat<=122))else V O)with|G=>G|V r1=>match (bif vn (48<=di p.t0 p.t3.toNat)then bif vn (di p.t0 p.t3.toNat<=57)then V J else bif vn (di p.t0 p.t3.toNat=46)then V J else V (vn (di p.t0 p.t3.toNat=95))else bif vn (di p.t0 p.t3.toNat=46)then V J else V (vn (di p.t0 p.t3.toNat=95)))with|G=>G|V r2=>match (bif bif r1 then O else J then bif vn (p.t3=0)then V J else V (bif r2 then O else J)else V O)with|G=>G|V r3=>bif r3 then e1 else go (Ae.mk p.t0 (ak (p.t3+1)))else G else e2
def KD(p:Ae):aa (aa Ae):=
 GU p (λs=>V (V s)) (V G) (V G)
def afZ:An:=(noTwo (.two (noTwo (.two (.rb [] 5) (.two (.rb [] 6) (.two (.rb [] 53) .no)))) .no))
def KS:=bI (KD)
abbrev aBR:=Bool
def d140:Td 0 aBR:= .c [] [2] (.r 0 0 (ec 2 qb en) sn (λz=>z.1.1) (λx=>((x,()),(()))))
def VI:∀f∈([]:af Nat),bA (aAM) f:=aH
def Z9(a0:ByteArray):aa aBR:=
 match (bif vn ((a0.size:Int)<1)then V J else V (vn (40<(a0.size:Int))))with|G=>G|V r4=>bif r4 then V O else match KS (Ae.mk a0 0)with|G=>G|V r5=>GU r5 (λ_=>G) (V O) (V J)
def amQ:=eL vp 140 O (lc qs ln) d140 (λg=>Z9 g.1)
def Ya:EO amQ:=λh=>kL (F:=aAM) (an:=(noTwo (.two (.two (.rb [] 14) .no) (.two (noTwo (RQ.lp KS afZ)) .no)))) (l:=[(.skip,(.rb [] 14)),(bk f140 0,(RQ.lp KS afZ)),(.skip,(.rb [] 5)),(.skip,(.rb [] 6)),(.skip,(.rb [] 53))]) func140 aV (aA VI (aA (aO RQ) (aA VI (aA VI (aA VI aH))))) h
def ZX:EP amQ:=λh=>kP h
def auY:bu:=dA
abbrev asA:=Bool
def d141:Td 0 asA:= .c [] [4] (.r 0 0 (ec 4 qb en) sn (λz=>z.1.1) (λx=>((x,()),(()))))
def axe:=(aU (aU ln))
def apT:An:=(noTwo (.two (.rb [] 4) .no))
def axa:∀f∈([]:af Nat),bA (auY) f:=aH
def OF(a0:Int)(a1:Int):asA:=
 let r1:Bool:=bif vn (a0<=a1)then bif vn (-1048576<=a0)then vn (a1<=1048576)else O else O;r1
def aGJ(a0:Int)(a1:Int):bZ vp (auY) 300 (apT) 141 (axe.c (a0,a1,())) [] 0 d141.rd=V (OF a0 a1):=by
 refine Eq.trans (b:=(
  match bif vn (a0<=a1)then bif vn (-1048576<=a0)then V (vn (a1<=1048576))else V (O)else V (O)with|G=>G|V r1=>V (r1):aa asA)) aY ?_
 simp only[OF,cn,cO]
def akq:=eL vp 141 O axe d141 (λg=>V (OF g.1 g.2.1))
def Yj:EO akq:=λh=>kL (F:=auY) (an:=apT) (l:=[(.skip,(.rb [] 4))]) func141 aV (aA axa aH) h (c:=λg=>aGJ g.1 g.2.1)
def Zl:EP akq:=λh=>kP h
structure sJ where
 t0:List bh
 (t1 t5 t6:Int)
def Uh:Td 0 sJ:= .c [] [0,1,5,6] (.r 0 0 (ec 0 (ql 131) (ec 1 aP (ec 5 aP (ec 6 aP en)))) sn (λz=>⟨z.1.1,z.1.2.1,z.1.t.1,z.1.t.2.1⟩) (λx=>((x.t0,x.t1,x.t5,x.t6,()),(()))))
def H9{α:Type}(p:sJ)(go:sJ->aa α)(e1 e2:aa α):aa α:=
 bif vn (p.t6<zY p.t0)then if 0<=p.t6/\p.t6<zY p.t0 then bif bif vn (p.t0[zq p.t6]!.bS=p.t1)then O else J then go (sJ.mk p.t0 p.t1 p.t5 (ak (p.t6+1)))else if 0<=p.t6/\p.t6<zY p.t0 then if 0<=p.t6/\p.t6<zY p.t0 then bif vn (4096<ak (p.t5*ak (ak (p.t0[zq p.t6]!.ag-p.t0[zq p.t6]!.ah)+1)))then e1 else go (sJ.mk p.t0 p.t1 (ak (p.t5*ak (ak (p.t0[zq p.t6]!.ag-p.t0[zq p.t6]!.ah)+1))) (ak (p.t6+1)))else G else G else G else e2
def LC(p:sJ):aa (aa sJ):=
 H9 p (λs=>V (V s)) (V G) (V G)
def L7:=bI (LC)
abbrev aBF:=Int
def d220:Td 0 aBF:= .c [] [4] (.r 0 0 (ec 4 aP en) sn (λz=>z.1.1) (λx=>((x,()),(()))))
def aac(a0:af bh)(a1:Int):aa aBF:=
 match L7 (sJ.mk a0 a1 (1) (0))with|G=>G|V r1=>H9 r1 (λ_=>G) (V (4097)) (V (r1.t5))
def auV:=eL vp 220 O (lc (ql 131) (aU ln)) d220 (λg=>aac g.1 g.2.1)
def aho:EO auV:=λh=>kL (an:=(noTwo (noTwo (.two (noTwo (Uh.lp L7 .no)) .no)))) (l:=[(bk f220 0,(Uh.lp L7 .no))]) func220 aV (aA (aO Uh) aH) h
def ZH:EP auV:=λh=>kP h
def aA9:bu:=(auV (akq (amQ dA)))
structure Af where
 t0:List bh
 (t3 t5:Int)
 b0:bh
def Vf:Td 0 Af:= .c [] [0,3,4,5] (.r 0 1 (ec 0 (ql 131) (ec 3 aP (ec 4 (qp 0 0) (ec 5 aP en)))) (sb 0 131 (lg 131) sn) (λz=>⟨z.1.1,z.1.2.1,z.1.t.2.1,z.2.1⟩) (λx=>((x.t0,x.t3,(),x.t5,()),(x.b0,()))))
def vN{α:Type}(p:Af)(go:Af->aa α)(e1 e2:aa α):aa α:=
 bif vn (p.t5<p.t3)then if 0<=p.t5/\p.t5<zY p.t0 then bif p.t0[zq p.t5]!.fName.toList==p.b0.fName.toList then e1 else go (Af.mk p.t0 p.t3 (ak (p.t5+1)) p.b0)else G else e2
def L2(p:Af):aa (aa Af):=
 vN p (λs=>V (V s)) (V G) (V G)
def MB:=bI (L2)
structure uW where
 t0:List bh
 t3:Int
def SH:Td 0 uW:= .c [] [0,3] (.r 0 0 (ec 0 (ql 131) (ec 3 aP en)) sn (λz=>⟨z.1.1,z.1.2.1⟩) (λx=>((x.t0,x.t3,()),(()))))
def Fk{α:Type}(p:uW)(go:uW->aa α)(e1 e2 e3 e4 e5:aa α):aa α:=
 bif vn (p.t3<zY p.t0)then if 0<=p.t3/\p.t3<zY p.t0 then match Z9 p.t0[zq p.t3]!.fName with|G=>G|V r1=>bif bif r1 then O else J then e1 else match MB (Af.mk p.t0 p.t3 0 p.t0[zq p.t3]!)with|G=>G|V r2=>vN r2 (λ_=>G) e2 (match (bif bif vn (r2.b0.bS=0)then O else J then bif bif vn (r2.b0.bS=1)then O else J then bif bif vn (r2.b0.bS=2)then O else J then V (bif vn (r2.b0.bS=3)then O else J)else V O else V O else V O)with|G=>G|V r3=>bif r3 then e3 else bif bif OF r2.b0.ah r2.b0.ag then O else J then e4 else match (bif vn (r2.b0.bS=0)then bif vn (r2.b0.gD<r2.b0.ah)then V J else bif vn (r2.b0.ag<r2.b0.gD)then V J else bif bif vn (r2.b0.bS=0)then O else J then V (bif vn (r2.b0.gD=0)then O else J)else V O else bif bif vn (r2.b0.bS=0)then O else J then V (bif vn (r2.b0.gD=0)then O else J)else V O)with|G=>G|V r4=>bif r4 then e4 else go (uW.mk r2.t0 (ak (r2.t3+1))))else G else e5
def Cc(p:uW):aa (aa uW):=
 Fk p (λs=>V (V s)) (V G) (V G) (V G) (V G) (V G)
def adP:An:=(noTwo (.two (noTwo (noTwo (.two (noTwo (Vf.lp MB .no)) (.two (.two (.rb [220] 50) .no) (noTwo (.two (.rb [220] 83) .no)))))) .no))
def NP:=bI (Cc)
abbrev aB7:=Int
def d139:Td 0 aB7:= .c [] [2] (.r 0 0 (ec 2 aP en) sn (λz=>z.1.1) (λx=>((x,()),(()))))
def afm:∀f∈([220]:af Nat),bA (aA9) f:=(aA (ZH (Zl (ZX bG))) aH)
def aj3(a0:af bh):aa aB7:=
 match NP (uW.mk a0 (0))with|G=>G|V r5=>Fk r5 (λ_=>G) (V (7)) (V (8)) (V (1)) (V (3)) (match (match aac r5.t0 (1)with|G=>G|V r10=>bif vn (4096<r10)then V (J)else match aac r5.t0 (2)with|G=>G|V r11=>bif vn (4096<r11)then V (J)else match aac r5.t0 (3)with|G=>G|V r12=>V (vn (256<r12)))with|G=>G|V r13=>bif r13 then V (4)else V (0))
def awT:=eL vp 139 O (lc (ql 131) ln) d139 (λg=>aj3 g.1)
def akn:EO awT:=λh=>kL (F:=aA9) (an:=(noTwo (.two (noTwo (SH.lp NP adP)) (.two (.two (.rb [220] 96) .no) .no)))) (l:=[(bk f139 0,(SH.lp NP adP)),(bk f139 1,(Vf.lp MB .no)),(.skip,(.rb [220] 50)),(.skip,(.rb [220] 83)),(.skip,(.rb [220] 96))]) func139 (aho (Yj (Ya aV))) (aA (aO SH) (aA (aO Vf) (aA afm (aA afm (aA afm aH))))) h
def aFd:bu:=dA
abbrev as5:=Int
def d270:Td 0 as5:= .c [] [2] (.r 0 0 (ec 2 aP en) sn (λz=>z.1.1) (λx=>((x,()),(()))))
def ayt:=(aU ln)
def aqR:An:= .no
def IJ(a0:Int):as5:=
 bif vn (a0=0)then 0 else bif vn (a0=24)then 0 else bif vn (a0=6)then 1 else bif vn (a0=7)then 1 else bif vn (a0=8)then 2 else bif vn (a0=9)then 2 else bif vn (a0=10)then 2 else bif vn (a0=11)then 2 else bif vn (a0=12)then 2 else bif vn (a0=13)then 2 else bif vn (a0=14)then 2 else bif vn (a0=15)then 2 else bif vn (a0=16)then 2 else bif vn (a0=17)then 2 else bif vn (a0=18)then 2 else bif vn (a0=19)then 2 else bif vn (a0=20)then 2 else bif vn (a0=21)then 2 else bif vn (a0=22)then 2 else bif vn (a0=23)then 3 else bif vn (a0=25)then-2 else-1
def aEP(a0:Int):bZ vp (aFd) 300 (aqR) 270 (ayt.c (a0,())) [] 0 d270.rd=V (IJ a0):=by
 refine Eq.trans (b:=(
  bif vn (a0=0)then V (0)else bif vn (a0=24)then V (0)else bif vn (a0=6)then V (1)else bif vn (a0=7)then V (1)else bif vn (a0=8)then V (2)else bif vn (a0=9)then V (2)else bif vn (a0=10)then V (2)else bif vn (a0=11)then V (2)else bif vn (a0=12)then V (2)else bif vn (a0=13)then V (2)else bif vn (a0=14)then V (2)else bif vn (a0=15)then V (2)else bif vn (a0=16)then V (2)else bif vn (a0=17)then V (2)else bif vn (a0=18)then V (2)else bif vn (a0=19)then V (2)else bif vn (a0=20)then V (2)else bif vn (a0=21)then V (2)else bif vn (a0=22)then V (2)else bif vn (a0=23)then V (3)else bif vn (a0=25)then V (-2)else V (-1):aa as5)) aY ?_
 simp only[IJ,cn,cO]
def aCV:=eL vp 270 O ayt d270 (λg=>V (IJ g.1))
def akZ:EO aCV:=λh=>kL (an:=aqR) func270 aV aH h (c:=λg=>aEP g.1)
abbrev tO:=Bool
def d221:Td 0 tO:= .c [] [6] (.r 0 0 (ec 6 qb en) sn (λz=>z.1.1) (λx=>((x,()),(()))))
def avF:=(lc (ql 131) (lc (qg 137) (lc qb ln)))
def asQ(M:(af bh)->az->Bool->aa tO):bu->bu:=eL vp 221 O avF d221 (λg=>M g.1 g.2.1 g.2.2.1)
def an5(M:(af bh)->az->Bool->aa tO):Prop:=HL vp 221 avF d221 (λg=>M g.1 g.2.1 g.2.2.1)
def VK{M:(af bh)->az->Bool->aa tO}(hM:an5 M){F:bu}(h:bE vp F):bE vp (asQ M F):=gj (sc:=A9) ei hM ⟨_,func221,aY,aY⟩ (λ_=>aY) (λ_=>aY) h
def agJ(M221:(af bh)->az->Bool->aa tO):bu:=(aCV (asQ M221 dA))
def anz{M221}(h221:an5 M221):bE vp (agJ M221):=(akZ (VK h221 aV))
structure CT where
 t0:List bh
 t2:Bool
 t8:Int
 b0:az
def S9:Td 0 CT:= .c [] [0,2,4,8] (.r 0 1 (ec 0 (ql 131) (ec 2 qb (ec 4 (qp 0 0) (ec 8 aP en)))) (sb 0 137 (lg 137) sn) (λz=>⟨z.1.1,z.1.2.1,z.1.t.2.1,z.2.1⟩) (λx=>((x.t0,x.t2,(),x.t8,()),(x.b0,()))))
def Lt(M221:(af bh)->az->Bool->aa tO)(p:CT):aa (aa CT):=
 bif vn (p.t8<zY p.b0.aq)then if 0<=p.t8/\p.t8<zY p.b0.aq then match M221 p.t0 (az.mk p.b0.aq[zq p.t8]!.bF p.b0.aq[zq p.t8]!.fN p.b0.aq[zq p.t8]!.aq) p.t2 with|G=>G|V r1=>bif bif r1 then O else J then V (G)else V (V (CT.mk p.t0 p.t2 (ak (p.t8+1)) (az.mk p.b0.bF p.b0.fN p.b0.aq)))else G else V (G)
def Hg(M221:(af bh)->az->Bool->aa tO):=bI (Lt M221)
def aoO(M221:(af bh)->az->Bool->aa tO):An:=(noTwo (noTwo (.two (.two (.rb [] 40) .no) (.two (noTwo (.two (.two (.rb [] 65) .no) (.two (.rb [] 73) .no))) (.two (noTwo (S9.lp (Hg M221) .no)) .no)))))
def acm{M221}:∀f∈([]:af Nat),bA (agJ M221) f:=aH
def aA3(M221:(af bh)->az->Bool->aa tO):gv vp (agJ M221) 0 300 221 (aoO M221):=cH (l:=[(.skip,(.rb [] 40)),(.skip,(.rb [] 65)),(.skip,(.rb [] 73)),(bk f221 0,(S9.lp (Hg M221) .no))]) func221 (bT aY) aY (aA acm (aA acm (aA acm (aA (aO S9) aH))))
def ahs(M221:(af bh)->az->Bool->aa tO)(a0:af bh)(a1:az)(a2:Bool):aa tO:=
 match bif vn (IJ a1.bF= -1)then V J else bif vn (0<=IJ a1.bF)then bif bif vn (zY a1.aq=IJ a1.bF)then O else J then V J else bif vn (IJ a1.bF= -2)then bif vn ((zY a1.aq:Int)<2)then V J else V (vn (33<(zY a1.aq:Int)))else V O else bif vn (IJ a1.bF= -2)then bif vn ((zY a1.aq:Int)<2)then V J else V (vn (33<(zY a1.aq:Int)))else V O with|G=>G|V r2=>bif r2 then V O else bif vn (a1.bF=24)then match bif vn (a1.fN<0)then V J else bif vn (zY a0<=a1.fN)then V J else bif a2 then if 0<=a1.fN/\a1.fN<zY a0 then V (vn (a0[a1.fN.toNat]!.bS=0))else G else V O with|G=>G|V r3=>bif r3 then V O else match Hg M221 (CT.mk a0 a2 0 (az.mk a1.bF a1.fN a1.aq))with|G=>G|V r4=>bif vn (r4.t8<zY r4.b0.aq)then if 0<=r4.t8/\r4.t8<zY r4.b0.aq then match M221 r4.t0 (az.mk r4.b0.aq[zq r4.t8]!.bF r4.b0.aq[zq r4.t8]!.fN r4.b0.aq[zq r4.t8]!.aq) r4.t2 with|G=>G|V r5=>bif bif r5 then O else J then V O else G else G else V J else match bif bif vn (a1.bF=0)then O else J then V (bif vn (a1.fN=0)then O else J)else V O with|G=>G|V r6=>bif r6 then V O else match Hg M221 (CT.mk a0 a2 0 (az.mk a1.bF a1.fN a1.aq))with|G=>G|V r7=>bif vn (r7.t8<zY r7.b0.aq)then if 0<=r7.t8/\r7.t8<zY r7.b0.aq then match M221 r7.t0 (az.mk r7.b0.aq[zq r7.t8]!.bF r7.b0.aq[zq r7.t8]!.fN r7.b0.aq[zq r7.t8]!.aq) r7.t2 with|G=>G|V r8=>bif bif r8 then O else J then V O else G else G else V J
def aGt(M221:(af bh)->az->Bool->aa tO)(a0:af bh)(a1:az)(a2:Bool):bZ vp (agJ M221) 300 (aoO M221) 221 (avF.c (a0,a1,a2,())) [] 0 d221.rd=ahs M221 a0 a1 a2:=aY
def ao7:Nat->((af bh)->az->Bool->aa tO)
 |0=>(λ_ _ _=>G)
 |n+1=>(ahs (ao7 n))
def UB(n:Nat):(af bh)->az->Bool->aa tO:=(ao7 n)
def RF:∀n,an5 (UB n)
 |0=>λ_ _ h=>(by cases h)
 |n+1=>by
  have ih:=RF n;have i221:=ih;exact(fe (anz i221) (aA3 (UB n)) (λ_=>aY) (λ_=>aY) λg=>aGt (UB n) g.1 g.2.1 g.2.2.1)
def anE:(af bh)->az->Bool->aa tO:=λa0 a1 a2=>lim (λn=>UB n a0 a1 a2)
def ahV:an5 anE:=λg b h=>by
 obtain⟨n,hn⟩:=dz (show lim (λn=>UB n g.1 g.2.1 g.2.2.1)=V b from h);exact(RF n) g b hn
def aHC(F:bu):bu:=asQ anE F
def ak5{F:bu}(h:bE vp F):bE vp (aHC F):=VK ahV h
def aIk:bu:=dA
abbrev asR:=Int
def d313:Td 0 asR:= .c [] [2] (.r 0 0 (ec 2 aP en) sn (λz=>z.1.1) (λx=>((x,()),(()))))
def azP:=(aU ln)
def ao0:An:= .no
def Cu(a0:Int):asR:=
 bif vn (a0<0)then ak (0-a0)else a0
def aEu(a0:Int):bZ vp (aIk) 300 (ao0) 313 (azP.c (a0,())) [] 0 d313.rd=V (Cu a0):=by
 refine Eq.trans (b:=(
  bif vn (a0<0)then V (ak (0-a0))else V (a0):aa asR)) aY ?_
 simp only[Cu,cn,cO]
def ad2:=eL vp 313 O azP d313 (λg=>V (Cu g.1))
def amz:EO ad2:=λh=>kL (an:=ao0) func313 aV aH h (c:=λg=>aEu g.1)
def aEx:bu:=(agw (Z6 dA))
abbrev arE:=Int×Int
def d314:Td 0 arE:= .c [] [4,5] (.r 0 0 (ec 4 aP (ec 5 aP en)) sn (λz=>(z.1.1,z.1.2.1)) (λx=>((x.1,x.2,()),(()))))
def azw:=(aU (aU ln))
def aoM:An:= .no
def abd(a0:Int)(a1:Int):arE:=
 bif vn (a0<0)then bif vn (0<a1)then(jS (0) (ak (a0+1)),lR (0) (ak (a1-1)))else(jS (0) (ak (a0+1)),0)else bif vn (0<a1)then(0,lR (0) (ak (a1-1)))else(0,0)
def aFr(a0:Int)(a1:Int):bZ vp (aEx) 300 (aoM) 314 (azw.c (a0,a1,())) [] 0 d314.rd=V (abd a0 a1):=by
 refine Eq.trans (b:=(
  bif vn (a0<0)then bif vn (0<a1)then V ((jS (0) (ak (a0+1)),lR (0) (ak (a1-1))))else V ((jS (0) (ak (a0+1)),0))else bif vn (0<a1)then V ((0,lR (0) (ak (a1-1))))else V ((0,0)):aa arE)) aY ?_
 simp only[abd,cn,cO]
def ayR:=eL vp 314 O azw d314 (λg=>V (abd g.1 g.2.1))
def ahq:EO ayR:=λh=>kL (an:=aoM) func314 (NF (LH aV)) aH h (c:=λg=>aFr g.1 g.2.1)
def aC2:bu:=(ayR (ad2 (agw (Z6 dA))))
structure rY where
 (t2 t3:List Int)
 (t15 t16 t17:Int)
def TN:Td 0 rY:= .c [] [2,3,15,16,17] (.r 0 0 (ec 2 (ql 3) (ec 3 (ql 3) (ec 15 aP (ec 16 aP (ec 17 aP en))))) sn (λz=>⟨z.1.1,z.1.2.1,z.1.t.1,z.1.t.2.1,z.1.q.1⟩) (λx=>((x.t2,x.t3,x.t15,x.t16,x.t17,()),(()))))
def C7{α:Type}(p:rY)(go:rY->aa α)(e1:aa α):aa α:=
 bif vn (p.t17<zY p.t2)then if 0<=p.t17/\p.t17<zY p.t2 then if 0<=p.t17/\p.t17<zY p.t3 then go (rY.mk p.t2 p.t3 (jS p.t15 p.t2[zq p.t17]!) (lR p.t16 p.t3[zq p.t17]!) (ak (p.t17+1)))else G else G else e1
def Lu(p:rY):aa (aa rY):=
 C7 p (λs=>V (V s)) (V G)
def Hz:=bI (Lu)
abbrev ay4:=Int×Int
def d271:Td 0 ay4:= .c [] [8,9] (.r 0 0 (ec 8 aP (ec 9 aP en)) sn (λz=>(z.1.1,z.1.2.1)) (λx=>((x.1,x.2,()),(()))))
def aq2:∀f∈([]:af Nat),bA (aC2) f:=aH
def anQ(a0:af bh)(a1:az)(a2:af Int)(a3:af Int):aa ay4:=
 bif vn (a1.bF=0)then match (bif vn (a1.fN< -1048576)then V J else V (vn (1048576<a1.fN)))with|G=>G|V r1=>bif r1 then V (-1048577,1048577)else V (a1.fN,a1.fN)else bif vn (a1.bF=24)then if 0<=a1.fN/\a1.fN<zY a0 then if 0<=a1.fN/\a1.fN<zY a0 then V (a0[a1.fN.toNat]!.ah,a0[a1.fN.toNat]!.ag)else G else G else bif vn (a1.bF=6)then if(0:Int)<=(0:Int)/\(0:Int)<zY a3 then if(0:Int)<=(0:Int)/\(0:Int)<zY a2 then V ((ak (0-a3[0]!),ak (0-a2[0]!)))else G else G else bif vn (a1.bF=8)then if(0:Int)<=(0:Int)/\(0:Int)<zY a2 then if(0:Int)<=(1:Int)/\(1:Int)<zY a2 then if(0:Int)<=(0:Int)/\(0:Int)<zY a3 then if(0:Int)<=(1:Int)/\(1:Int)<zY a3 then V ((ak (a2[0]! +a2[1]!),ak (a3[0]! +a3[1]!)))else G else G else G else G else bif vn (a1.bF=9)then if(0:Int)<=(0:Int)/\(0:Int)<zY a2 then if(0:Int)<=(1:Int)/\(1:Int)<zY a3 then if(0:Int)<=(0:Int)/\(0:Int)<zY a3 then if(0:Int)<=(1:Int)/\(1:Int)<zY a2 then V ((ak (a2[0]! -a3[1]!),ak (a3[0]! -a2[1]!)))else G else G else G else G else bif vn (a1.bF=10)then if(0:Int)<=(0:Int)/\(0:Int)<zY a2 then if(0:Int)<=(1:Int)/\(1:Int)<zY a2 then if(0:Int)<=(0:Int)/\(0:Int)<zY a2 then if(0:Int)<=(1:Int)/\(1:Int)<zY a3 then if(0:Int)<=(0:Int)/\(0:Int)<zY a3 then if(0:Int)<=(1:Int)/\(1:Int)<zY a2 then if(0:Int)<=(0:Int)/\(0:Int)<zY a3 then if(0:Int)<=(1:Int)/\(1:Int)<zY a3 then V ((jS (jS (ak (a2[0]! *a2[1]!)) (ak (a2[0]! *a3[1]!))) (jS (ak (a3[0]! *a2[1]!)) (ak (a3[0]! *a3[1]!))),lR (lR (ak (a2[0]! *a2[1]!)) (ak (a2[0]! *a3[1]!))) (lR (ak (a3[0]! *a2[1]!)) (ak (a3[0]! *a3[1]!)))))else G else G else G else G else G else G else G else G else bif vn (a1.bF=11)then if(0:Int)<=(0:Int)/\(0:Int)<zY a2 then if(0:Int)<=(0:Int)/\(0:Int)<zY a3 then match (if(0:Int)<=(0:Int)/\(0:Int)<zY a2 then bif vn (0<=a2[zq 0]!)then if(0:Int)<=(1:Int)/\(1:Int)<zY a2 then V (vn (0<=a2[zq 1]!))else G else V O else G)with|G=>G|V r2=>bif r2 then V ((0,lR (Cu a2[0]!) (Cu a3[0]!)))else V ((ak (0-lR (Cu a2[0]!) (Cu a3[0]!)),lR (Cu a2[0]!) (Cu a3[0]!)))else G else G else bif vn (a1.bF=12)then if(0:Int)<=(1:Int)/\(1:Int)<zY a2 then if(0:Int)<=(1:Int)/\(1:Int)<zY a3 then V (abd a2[1]! a3[1]!)else G else G else bif vn (a1.bF=21)then if(0:Int)<=(0:Int)/\(0:Int)<zY a2 then if(0:Int)<=(1:Int)/\(1:Int)<zY a2 then if(0:Int)<=(0:Int)/\(0:Int)<zY a3 then if(0:Int)<=(1:Int)/\(1:Int)<zY a3 then V (jS a2[0]! a2[1]!,jS a3[0]! a3[1]!)else G else G else G else G else bif vn (a1.bF=22)then if(0:Int)<=(0:Int)/\(0:Int)<zY a2 then if(0:Int)<=(1:Int)/\(1:Int)<zY a2 then if(0:Int)<=(0:Int)/\(0:Int)<zY a3 then if(0:Int)<=(1:Int)/\(1:Int)<zY a3 then V (lR a2[0]! a2[1]!,lR a3[0]! a3[1]!)else G else G else G else G else bif vn (a1.bF=23)then if(0:Int)<=(1:Int)/\(1:Int)<zY a2 then if(0:Int)<=(1:Int)/\(1:Int)<zY a3 then match Hz (rY.mk a2 a3 a2[1]! a3[1]! (2))with|G=>G|V r3=>C7 r3 (λ_=>G) (V (r3.t15,r3.t16))else G else G else bif vn (a1.bF=25)then if(0:Int)<=(1:Int)/\(1:Int)<zY a2 then if(0:Int)<=(1:Int)/\(1:Int)<zY a3 then match Hz (rY.mk a2 a3 a2[1]! a3[1]! (2))with|G=>G|V r4=>C7 r4 (λ_=>G) (V (r4.t15,r4.t16))else G else G else V (0,1)
def axu:=eL vp 271 O (lc (ql 131) (lc (qg 137) (lc (ql 3) (lc (ql 3) ln)))) d271 (λg=>anQ g.1 g.2.1 g.t.1 g.t.2.1)
def ali:EO axu:=λh=>kL (F:=aC2) (an:=(noTwo (.two (noTwo (noTwo (.two (.two (.two (.rb [] 29) .no) .no) (noTwo (noTwo (noTwo (noTwo (noTwo (noTwo (noTwo (noTwo (noTwo (noTwo (noTwo (.two (noTwo (.two (.two (.rb [] 154) .no) .no)) (noTwo (noTwo (noTwo (noTwo (noTwo (noTwo (noTwo (.two (noTwo (.two (noTwo (TN.lp Hz .no)) .no)) .no))))))))))))))))))))))) .no))) (l:=[(.skip,(.rb [] 29)),(.skip,(.rb [] 154)),(bk f271 0,(TN.lp Hz .no))]) func271 (ahq (amz (NF (LH aV)))) (aA aq2 (aA aq2 (aA (aO TN) aH))) h
abbrev tY:=Int×Int×Bool
def d222:Td 0 tY:= .c [] [4,5,6] (.r 0 0 (ec 4 aP (ec 5 aP (ec 6 qb en))) sn (λz=>(z.1.1,z.1.2.1,z.1.t.1)) (λx=>((x.1,x.2.1,x.t,()),(()))))
def ati:=(lc (ql 131) (lc (qg 137) ln))
def asi(M:(af bh)->az->aa tY):bu->bu:=eL vp 222 O ati d222 (λg=>M g.1 g.2.1)
def ag1(M:(af bh)->az->aa tY):Prop:=HL vp 222 ati d222 (λg=>M g.1 g.2.1)
def VN{M:(af bh)->az->aa tY}(hM:ag1 M){F:bu}(h:bE vp F):bE vp (asi M F):=gj (sc:=A9) ei hM ⟨_,func222,aY,aY⟩ (λ_=>aY) (λ_=>aY) h
def avU(M222:(af bh)->az->aa tY):bu:=(axu (asi M222 dA))
def amn{M222}(h222:ag1 M222):bE vp (avU M222):=(ali (VN h222 aV))
structure HA where
 t0:List bh
 (t7 t8:List Int)
 t9:Int
 b0:az
def U3:Td 0 HA:= .c [] [0,3,7,8,9] (.r 0 3 (ec 0 (ql 131) (ec 3 (qp 0 0) (ec 7 (qo 1) (ec 8 (qo 2) (ec 9 aP en))))) (sb 0 137 (lg 137) (sr 1 3 (sr 2 3 sn))) (λz=>⟨z.1.1,z.t.1,z.t.2.1,z.1.q.1,z.2.1⟩) (λx=>((x.t0,(),(),(),x.t9,()),(x.b0,x.t7,x.t8,()))))
def Ft(M222:(af bh)->az->aa tY)(p:HA):aa (aa HA):=
 bif vn (p.t9<zY p.b0.aq)then if 0<=p.t9/\p.t9<zY p.b0.aq then match M222 p.t0 (az.mk p.b0.aq[zq p.t9]!.bF p.b0.aq[zq p.t9]!.fN p.b0.aq[zq p.t9]!.aq)with|G=>G|V r1=>bif bif r1.snd.snd then O else J then V (G)else if(p.t7++[r1.fst]).length<=1073741824 then if(p.t8++[r1.snd.fst]).length<=1073741824 then V (V (HA.mk p.t0 (p.t7++[r1.fst]) (p.t8++[r1.snd.fst]) (ak (p.t9+1)) (az.mk p.b0.bF p.b0.fN p.b0.aq)))else G else G else G else V (G)
def LG(M222:(af bh)->az->aa tY):=bI (Ft M222)
def aqP(M222:(af bh)->az->aa tY):An:=(noTwo (noTwo (noTwo (.two (noTwo (U3.lp (LG M222) .no)) .no))))
def aCs(M222:(af bh)->az->aa tY):gv vp (avU M222) 0 300 222 (aqP M222):=cH (l:=[(bk f222 0,(U3.lp (LG M222) .no))]) func222 (bT aY) aY (aA (aO U3) aH)
def an1(M222:(af bh)->az->aa tY)(a0:af bh)(a1:az):aa tY:=
 match LG M222 (HA.mk a0 [] [] (0) (az.mk a1.bF a1.fN a1.aq))with|G=>G|V r2=>bif vn (r2.t9<zY r2.b0.aq)then if 0<=r2.t9/\r2.t9<zY r2.b0.aq then match M222 r2.t0 (az.mk r2.b0.aq[zq r2.t9]!.bF r2.b0.aq[zq r2.t9]!.fN r2.b0.aq[zq r2.t9]!.aq)with|G=>G|V r3=>bif bif r3.snd.snd then O else J then V (0,0,O)else if(r2.t7++[r3.fst]).length<=1073741824 then if(r2.t8++[r3.snd.fst]).length<=1073741824 then G else G else G else G else match anQ r2.t0 (az.mk r2.b0.bF r2.b0.fN r2.b0.aq) r2.t7 r2.t8 with|G=>G|V r4=>bif vn (-1048576<=r4.fst)then V ((r4.fst,r4.snd,vn (r4.snd<=1048576)))else V (r4.fst,r4.snd,O)
def aH3(M222:(af bh)->az->aa tY)(a0:af bh)(a1:az):bZ vp (avU M222) 300 (aqP M222) 222 (ati.c (a0,a1,())) [] 0 d222.rd=an1 M222 a0 a1:=aY
def apm:Nat->((af bh)->az->aa tY)
 |0=>(λ_ _=>G)
 |n+1=>(an1 (apm n))
def Tb(n:Nat):(af bh)->az->aa tY:=(apm n)
def Qw:∀n,ag1 (Tb n)
 |0=>λ_ _ h=>(by cases h)
 |n+1=>by
  have ih:=Qw n;have i222:=ih;exact(fe (amn i222) (aCs (Tb n)) (λ_=>aY) (λ_=>aY) λg=>aH3 (Tb n) g.1 g.2.1)
def anR:(af bh)->az->aa tY:=λa0 a1=>lim (λn=>Tb n a0 a1)
def amN:ag1 anR:=λg b h=>by
 obtain⟨n,hn⟩:=dz (show lim (λn=>Tb n g.1 g.2.1)=V b from h);exact(Qw n) g b hn
def aEJ(F:bu):bu:=asi anR F
def al0{F:bu}(h:bE vp F):bE vp (aEJ F):=VN amN h
abbrev aw7:=Int
def d142:Td 0 aw7:= .c [] [6] (.r 0 0 (ec 6 aP en) sn (λz=>z.1.1) (λx=>((x,()),(()))))
def MN(a0:af bh)(a1:az)(a2:Bool):aa aw7:=
 match anE a0 (az.mk a1.bF a1.fN a1.aq) a2 with|G=>G|V r1=>bif bif r1 then O else J then V (1)else match anR a0 (az.mk a1.bF a1.fN a1.aq)with|G=>G|V r2=>bif bif r2.snd.snd then O else J then V (3)else V (0)
def aiN:=eL vp 142 O (lc (ql 131) (lc (qg 137) (lc qb ln))) d142 (λg=>MN g.1 g.2.1 g.t.1)
def VZ:EO aiN:=λh=>kL (an:= .no) func142 (al0 (ak5 aV)) aH h
def aax:EP aiN:=λh=>kP h
def aro:bu:=dA
abbrev auE:=Bool
def d272:Td 0 auE:= .c [] [2] (.r 0 0 (ec 2 qb en) sn (λz=>z.1.1) (λx=>((x,()),(()))))
def aA7:=(lc (qg 137) ln)
def apw:An:=(noTwo (.two (.rb [] 2) .no))
def axA:∀f∈([]:af Nat),bA (aro) f:=aH
def P6(a0:az):auE:=
 let r1:Bool:=bif vn (a0.bF=0)then bif vn (a0.fN=0)then vn ((zY a0.aq:Int)=0)else O else O;r1
def aEp(a0:az):bZ vp (aro) 300 (apw) 272 (aA7.c (a0,())) [] 0 d272.rd=V (P6 a0):=by
 refine Eq.trans (b:=(
  match bif vn (a0.bF=0)then bif vn (a0.fN=0)then V (vn ((zY a0.aq:Int)=0))else V (O)else V (O)with|G=>G|V r1=>V (r1):aa auE)) aY ?_
 simp only[P6,cn,cO]
def au4:=eL vp 272 O aA7 d272 (λg=>V (P6 g.1))
def am5:EO au4:=λh=>kL (F:=aro) (an:=apw) (l:=[(.skip,(.rb [] 2))]) func272 aV (aA axA aH) h (c:=λg=>aEp g.1)
def Jf:EP au4:=λh=>kP h
def aAe:bu:=dA
structure uA where
 t0:List Int
 t3:Int
def TK:Td 0 uA:= .c [] [0,3] (.r 0 0 (ec 0 (ql 3) (ec 3 aP en)) sn (λz=>⟨z.1.1,z.1.2.1⟩) (λx=>((x.t0,x.t3,()),(()))))
def Ik{α:Type}(p:uA)(go:uA->aa α)(e1 e2:aa α):aa α:=
 bif vn (p.t3<zY p.t0)then if 0<=p.t3/\p.t3<zY p.t0 then if 0<=ak (p.t3-1)/\ak (p.t3-1)<zY p.t0 then bif vn (((p.t0,p.t3,()),()).fst.fst[((p.t0,p.t3,()),()).fst.snd.fst.toNat]!<=((p.t0,p.t3,()),()).fst.fst[(ak (((p.t0,p.t3,()),()).fst.snd.fst-1)).toNat]!)then e1 else go (uA.mk p.t0 (ak (p.t3+1)))else G else G else e2
def MR(p:uA):aa (aa uA):=
 Ik p (λs=>V (V s)) (V G) (V G)
def Np:=bI (MR)
abbrev aB5:=Bool
def d273:Td 0 aB5:= .c [] [2] (.r 0 0 (ec 2 qb en) sn (λz=>z.1.1) (λx=>((x,()),(()))))
def aDo:∀f∈([]:af Nat),bA (aAe) f:=aH
def aiG(a0:af Int):aa aB5:=
 match (bif vn ((zY a0:Int)<1)then V J else bif vn (32<(zY a0:Int))then V J else if(0:Int)<=(0:Int)/\(0:Int)<zY a0 then V (vn (a0[zq 0]! <0))else G)with|G=>G|V r1=>bif r1 then V O else match Np (uA.mk a0 1)with|G=>G|V r2=>Ik r2 (λ_=>G) (V O) (V J)
def arW:=eL vp 273 O (lc (ql 3) ln) d273 (λg=>aiG g.1)
def aj2:EO arW:=λh=>kL (F:=aAe) (an:=(noTwo (.two (.two (.rb [] 17) .no) (.two (noTwo (TK.lp Np .no)) .no)))) (l:=[(.skip,(.rb [] 17)),(bk f273 0,(TK.lp Np .no))]) func273 aV (aA aDo (aA (aO TK) aH)) h
def Jx:EP arW:=λh=>kP h
def azk:bu:=(arW (au4 dA))
abbrev aCq:=Bool
def d223:Td 0 aCq:= .c [] [6] (.r 0 0 (ec 6 qb en) sn (λz=>z.1.1) (λx=>((x,()),(()))))
def Br:∀f∈([272,273]:af Nat),bA (azk) f:=(aA (Jx (Jf bG)) (aA (Jx (Jf bG)) aH))
def Sf(a0:aS)(a1:aB)(a2:Bool):aa aCq:=
 match bif vn ((zY a1.aQ:Int)=0)then V (vn ((zY a1.aX:Int)=0))else V O with|G=>G|V r1=>match bif vn (0<=a1.dL)then bif vn (a1.dL<zY a0.ai)then if 0<=a1.dL/\a1.dL<zY a0.ai then V (vn (a0.ai[a1.dL.toNat]!.bS=0))else G else V O else V O with|G=>G|V r2=>bif vn (a1.b9=0)then match bif r1 then bif r2 then bif vn (a1.fN=0)then V (vn ((zY a1.aR:Int)=0))else V O else V O else V O with|G=>G|V r3=>V (r3)else bif vn (a1.b9=1)then match bif r1 then bif vn (a1.dL=0)then bif vn (a1.fN=0)then V (vn ((zY a1.aR:Int)=0))else V O else V O else V O with|G=>G|V r4=>V (r4)else bif vn (a1.b9=2)then match bif r1 then bif vn (a1.dL=0)then bif vn (a1.fN=0)then bif vn ((zY a1.aR:Int)=0)then V (P6 (az.mk a1.aF.bF a1.aF.fN a1.aF.aq))else V O else V O else V O else V O with|G=>G|V r5=>V (r5)else bif vn (a1.b9=3)then match bif vn (a1.dL=0)then bif vn (a1.fN=0)then V (vn ((zY a1.aR:Int)=0))else V O else V O with|G=>G|V r6=>V (r6)else bif vn (a1.b9=4)then match bif vn (a1.dL=0)then bif vn ((zY a1.aX:Int)=0)then V (vn ((zY a1.aR:Int)=0))else V O else V O with|G=>G|V r7=>V (r7)else bif vn (a1.b9=5)then match bif r1 then bif r2 then bif vn (0<=a1.fN)then bif vn (a1.fN<zY a0.ax)then bif vn ((zY a1.aR:Int)=0)then V (P6 (az.mk a1.aF.bF a1.aF.fN a1.aF.aq))else V O else V O else V O else V O else V O with|G=>G|V r8=>V (r8)else bif vn (a1.b9=6)then match bif r1 then bif a2 then bif vn (a1.dL=0)then bif vn (a1.fN=0)then bif P6 (az.mk a1.aF.bF a1.aF.fN a1.aF.aq)then match aiG a1.aR with|G=>G|V r9=>V (r9)else V O else V O else V O else V O else V O with|G=>G|V r10=>V (r10)else V O
def auz:=eL vp 223 O (lc (qg 26) (lc (qg 166) (lc qb ln))) d223 (λg=>Sf g.1 g.2.1 g.t.1)
def an6:EO auz:=λh=>kL (F:=azk) (an:=(noTwo (.two (.rb [272,273] 7) (.two (.rb [272,273] 8) (.two (noTwo (noTwo (.two (.two (.rb [272,273] 6) .no) (noTwo (.two (.two (.rb [272,273] 6) .no) (noTwo (.two (.two (.rb [272,273] 6) .no) (noTwo (.two (.two (.rb [272,273] 6) .no) (noTwo (.two (.two (.rb [272,273] 6) .no) (noTwo (.two (.two (.rb [272,273] 6) .no) (noTwo (.two (.two (.rb [272,273] 6) .no) .no))))))))))))))) .no))))) (l:=[(.skip,(.rb [272,273] 7)),(.skip,(.rb [272,273] 8)),(.skip,(.rb [272,273] 6)),(.skip,(.rb [272,273] 6)),(.skip,(.rb [272,273] 6)),(.skip,(.rb [272,273] 6)),(.skip,(.rb [272,273] 6)),(.skip,(.rb [272,273] 6)),(.skip,(.rb [272,273] 6))]) func223 (aj2 (am5 aV)) (aA Br (aA Br (aA Br (aA Br (aA Br (aA Br (aA Br (aA Br (aA Br aH))))))))) h
def ZZ:EP auz:=λh=>kP h
abbrev pY:=Int
def d143:Td 0 pY:= .c [] [6] (.r 0 0 (ec 6 aP en) sn (λz=>z.1.1) (λx=>((x,()),(()))))
def as9:=(lc (qg 26) (lc (ql 166) (lc qb ln)))
def agM(M:aS->(af aB)->Bool->aa pY):bu->bu:=eL vp 143 O as9 d143 (λg=>M g.1 g.2.1 g.2.2.1)
def YY{M:aS->(af aB)->Bool->aa pY}{F:bu}{f:Nat}(h:bA F f):bA (agM M F) f:=gH h (λ_=>aY)
def akh(M:aS->(af aB)->Bool->aa pY):Prop:=HL vp 143 as9 d143 (λg=>M g.1 g.2.1 g.2.2.1)
def YB{M:aS->(af aB)->Bool->aa pY}(hM:akh M){F:bu}(h:bE vp F):bE vp (agM M F):=gj (sc:=A9) ei hM ⟨_,func143,aY,aY⟩ (λ_=>aY) (λ_=>aY) h
def akV(M143:aS->(af aB)->Bool->aa pY):bu:=(auz (agM M143 (aiN dA)))
def anX{M143}(h143:akh M143):bE vp (akV M143):=(an6 (YB h143 (VZ aV)))
structure B8 where
 t1:List aB
 t2:Bool
 t7:Int
 b0:aS
def RP:Td 0 B8:= .c [] [1,2,3,7] (.r 0 1 (ec 1 (ql 166) (ec 2 qb (ec 3 (qp 0 0) (ec 7 aP en)))) (sb 0 26 (lg 26) sn) (λz=>⟨z.1.1,z.1.2.1,z.1.t.2.1,z.2.1⟩) (λx=>((x.t1,x.t2,(),x.t7,()),(x.b0,()))))
def B0(M143:aS->(af aB)->Bool->aa pY)(p:B8):aa (aa B8):=
 bif vn (p.t7<zY p.t1)then if 0<=p.t7/\p.t7<zY p.t1 then match bif p.t2 then match Sf p.b0 (aB.mk p.t1[zq p.t7]!.b9 p.t1[zq p.t7]!.bg p.t1[zq p.t7]!.dL p.t1[zq p.t7]!.fN (az.mk p.t1[zq p.t7]!.aF.bF p.t1[zq p.t7]!.aF.fN p.t1[zq p.t7]!.aF.aq) p.t1[zq p.t7]!.aQ p.t1[zq p.t7]!.aX p.t1[zq p.t7]!.aR) (vn (((p.t1,p.t2,(),p.t7,()),p.b0,()).fst.snd.snd.snd.fst=ak ((↑((p.t1,p.t2,(),p.t7,()),p.b0,()).fst.fst.length:Int)-1)))with|G=>G|V r1=>V (bif r1 then O else J)else match Sf p.b0 (aB.mk p.t1[zq p.t7]!.b9 p.t1[zq p.t7]!.bg p.t1[zq p.t7]!.dL p.t1[zq p.t7]!.fN (az.mk p.t1[zq p.t7]!.aF.bF p.t1[zq p.t7]!.aF.fN p.t1[zq p.t7]!.aF.aq) p.t1[zq p.t7]!.aQ p.t1[zq p.t7]!.aX p.t1[zq p.t7]!.aR) O with|G=>G|V r2=>V (bif r2 then O else J)with|G=>G|V r3=>bif r3 then V (G)else bif vn (p.t1[zq p.t7]!.b9=2)then match bif vn (p.t1[zq p.t7]!.bg<0)then V J else bif vn (67108864<p.t1[zq p.t7]!.bg)then V J else bif vn (p.t1[zq p.t7]!.fN<0)then V J else bif vn (p.t1[zq p.t7]!.b9=4)then V (vn (4096<p.t1[zq p.t7]!.fN))else V O with|G=>G|V r4=>bif r4 then V (G)else match bif vn (0<(↑p.t1[zq p.t7]!.aR.length:Int))then if 0<=ak ((↑p.t1[zq p.t7]!.aR.length:Int)-(1:Int))/\ak ((↑p.t1[zq p.t7]!.aR.length:Int)-(1:Int))<(↑p.t1[zq p.t7]!.aR.length:Int)then V (vn (67108864<((p.t1,p.t2,(),p.t7,()),p.b0,()).fst.fst[((p.t1,p.t2,(),p.t7,()),p.b0,()).fst.snd.snd.snd.fst.toNat]!.aR[(ak ((↑((p.t1,p.t2,(),p.t7,()),p.b0,()).fst.fst[((p.t1,p.t2,(),p.t7,()),p.b0,()).fst.snd.snd.snd.fst.toNat]!.aR.length:Int)-1)).toNat]!))else G else V O with|G=>G|V r5=>bif r5 then V (G)else match MN p.b0.ai (az.mk p.t1[zq p.t7]!.aF.bF p.t1[zq p.t7]!.aF.fN p.t1[zq p.t7]!.aF.aq) O with|G=>G|V r6=>bif bif vn (r6=0)then O else J then V (G)else match M143 p.b0 p.t1[zq p.t7]!.aQ O with|G=>G|V r7=>bif bif vn (r7=0)then O else J then V (G)else match M143 p.b0 p.t1[zq p.t7]!.aX O with|G=>G|V r8=>bif bif vn (r8=0)then O else J then V (G)else V (V (B8.mk p.t1 p.t2 (ak (p.t7+1)) p.b0))else match bif vn (p.t1[zq p.t7]!.bg<0)then V J else bif vn (10000<p.t1[zq p.t7]!.bg)then V J else bif vn (p.t1[zq p.t7]!.fN<0)then V J else bif vn (p.t1[zq p.t7]!.b9=4)then V (vn (4096<p.t1[zq p.t7]!.fN))else V O with|G=>G|V r9=>bif r9 then V (G)else match bif vn (0<(↑p.t1[zq p.t7]!.aR.length:Int))then if 0<=ak ((↑p.t1[zq p.t7]!.aR.length:Int)-(1:Int))/\ak ((↑p.t1[zq p.t7]!.aR.length:Int)-(1:Int))<(↑p.t1[zq p.t7]!.aR.length:Int)then V (vn (67108864<((p.t1,p.t2,(),p.t7,()),p.b0,()).fst.fst[((p.t1,p.t2,(),p.t7,()),p.b0,()).fst.snd.snd.snd.fst.toNat]!.aR[(ak ((↑((p.t1,p.t2,(),p.t7,()),p.b0,()).fst.fst[((p.t1,p.t2,(),p.t7,()),p.b0,()).fst.snd.snd.snd.fst.toNat]!.aR.length:Int)-1)).toNat]!))else G else V O with|G=>G|V r10=>bif r10 then V (G)else match MN p.b0.ai (az.mk p.t1[zq p.t7]!.aF.bF p.t1[zq p.t7]!.aF.fN p.t1[zq p.t7]!.aF.aq) O with|G=>G|V r11=>bif bif vn (r11=0)then O else J then V (G)else match M143 p.b0 p.t1[zq p.t7]!.aQ O with|G=>G|V r12=>bif bif vn (r12=0)then O else J then V (G)else match M143 p.b0 p.t1[zq p.t7]!.aX O with|G=>G|V r13=>bif bif vn (r13=0)then O else J then V (G)else V (V (B8.mk p.t1 p.t2 (ak (p.t7+1)) p.b0))else G else V (G)
def acC(M143:aS->(af aB)->Bool->aa pY):An:=(noTwo (.two (noTwo (.two (.two (.rb [223] 32) .no) (noTwo (noTwo (.two (.two (.rb [223] 59) .no) (.two (.two (.rb [223] 74) .no) .no)))))) .no))
def Ny(M143:aS->(af aB)->Bool->aa pY):=bI (B0 M143)
def ap9(M143:aS->(af aB)->Bool->aa pY):An:=(noTwo (.two (noTwo (RP.lp (Ny M143) (acC M143))) .no))
def adk{M143}:∀f∈([223]:af Nat),bA (akV M143) f:=(aA (ZZ (YY (aax bG))) aH)
def aB3(M143:aS->(af aB)->Bool->aa pY):gv vp (akV M143) 0 300 143 (ap9 M143):=cH (l:=[(bk f143 0,(RP.lp (Ny M143) (acC M143))),(.skip,(.rb [223] 32)),(.skip,(.rb [223] 59)),(.skip,(.rb [223] 74))]) func143 (bT aY) aY (aA (aO RP) (aA adk (aA adk (aA adk aH))))
def agO(M143:aS->(af aB)->Bool->aa pY)(a0:aS)(a1:af aB)(a2:Bool):aa pY:=
 match Ny M143 (B8.mk a1 a2 0 a0)with|G=>G|V r14=>bif vn (r14.t7<zY r14.t1)then if 0<=r14.t7/\r14.t7<zY r14.t1 then match bif r14.t2 then match Sf r14.b0 (aB.mk r14.t1[zq r14.t7]!.b9 r14.t1[zq r14.t7]!.bg r14.t1[zq r14.t7]!.dL r14.t1[zq r14.t7]!.fN (az.mk r14.t1[zq r14.t7]!.aF.bF r14.t1[zq r14.t7]!.aF.fN r14.t1[zq r14.t7]!.aF.aq) r14.t1[zq r14.t7]!.aQ r14.t1[zq r14.t7]!.aX r14.t1[zq r14.t7]!.aR) (vn (((r14.t1,r14.t2,(),r14.t7,()),r14.b0,()).fst.snd.snd.snd.fst=ak ((↑((r14.t1,r14.t2,(),r14.t7,()),r14.b0,()).fst.fst.length:Int)-1)))with|G=>G|V r15=>V (bif r15 then O else J)else match Sf r14.b0 (aB.mk r14.t1[zq r14.t7]!.b9 r14.t1[zq r14.t7]!.bg r14.t1[zq r14.t7]!.dL r14.t1[zq r14.t7]!.fN (az.mk r14.t1[zq r14.t7]!.aF.bF r14.t1[zq r14.t7]!.aF.fN r14.t1[zq r14.t7]!.aF.aq) r14.t1[zq r14.t7]!.aQ r14.t1[zq r14.t7]!.aX r14.t1[zq r14.t7]!.aR) O with|G=>G|V r16=>V (bif r16 then O else J)with|G=>G|V r17=>bif r17 then V 1 else bif vn (r14.t1[zq r14.t7]!.b9=2)then match bif vn (r14.t1[zq r14.t7]!.bg<0)then V J else bif vn (67108864<r14.t1[zq r14.t7]!.bg)then V J else bif vn (r14.t1[zq r14.t7]!.fN<0)then V J else bif vn (r14.t1[zq r14.t7]!.b9=4)then V (vn (4096<r14.t1[zq r14.t7]!.fN))else V O with|G=>G|V r18=>bif r18 then V 3 else match bif vn (0<(↑r14.t1[zq r14.t7]!.aR.length:Int))then if 0<=ak ((↑r14.t1[zq r14.t7]!.aR.length:Int)-(1:Int))/\ak ((↑r14.t1[zq r14.t7]!.aR.length:Int)-(1:Int))<(↑r14.t1[zq r14.t7]!.aR.length:Int)then V (vn (67108864<((r14.t1,r14.t2,(),r14.t7,()),r14.b0,()).fst.fst[((r14.t1,r14.t2,(),r14.t7,()),r14.b0,()).fst.snd.snd.snd.fst.toNat]!.aR[(ak ((↑((r14.t1,r14.t2,(),r14.t7,()),r14.b0,()).fst.fst[((r14.t1,r14.t2,(),r14.t7,()),r14.b0,()).fst.snd.snd.snd.fst.toNat]!.aR.length:Int)-1)).toNat]!))else G else V O with|G=>G|V r19=>bif r19 then V 3 else match MN r14.b0.ai (az.mk r14.t1[zq r14.t7]!.aF.bF r14.t1[zq r14.t7]!.aF.fN r14.t1[zq r14.t7]!.aF.aq) O with|G=>G|V r20=>bif bif vn (r20=0)then O else J then V (r20)else match M143 r14.b0 r14.t1[zq r14.t7]!.aQ O with|G=>G|V r21=>bif bif vn (r21=0)then O else J then V (r21)else match M143 r14.b0 r14.t1[zq r14.t7]!.aX O with|G=>G|V r22=>bif bif vn (r22=0)then O else J then V (r22)else G else match bif vn (r14.t1[zq r14.t7]!.bg<0)then V J else bif vn (10000<r14.t1[zq r14.t7]!.bg)then V J else bif vn (r14.t1[zq r14.t7]!.fN<0)then V J else bif vn (r14.t1[zq r14.t7]!.b9=4)then V (vn (4096<r14.t1[zq r14.t7]!.fN))else V O with|G=>G|V r23=>bif r23 then V 3 else match bif vn (0<(↑r14.t1[zq r14.t7]!.aR.length:Int))then if 0<=ak ((↑r14.t1[zq r14.t7]!.aR.length:Int)-(1:Int))/\ak ((↑r14.t1[zq r14.t7]!.aR.length:Int)-(1:Int))<(↑r14.t1[zq r14.t7]!.aR.length:Int)then V (vn (67108864<((r14.t1,r14.t2,(),r14.t7,()),r14.b0,()).fst.fst[((r14.t1,r14.t2,(),r14.t7,()),r14.b0,()).fst.snd.snd.snd.fst.toNat]!.aR[(ak ((↑((r14.t1,r14.t2,(),r14.t7,()),r14.b0,()).fst.fst[((r14.t1,r14.t2,(),r14.t7,()),r14.b0,()).fst.snd.snd.snd.fst.toNat]!.aR.length:Int)-1)).toNat]!))else G else V O with|G=>G|V r24=>bif r24 then V 3 else match MN r14.b0.ai (az.mk r14.t1[zq r14.t7]!.aF.bF r14.t1[zq r14.t7]!.aF.fN r14.t1[zq r14.t7]!.aF.aq) O with|G=>G|V r25=>bif bif vn (r25=0)then O else J then V (r25)else match M143 r14.b0 r14.t1[zq r14.t7]!.aQ O with|G=>G|V r26=>bif bif vn (r26=0)then O else J then V (r26)else match M143 r14.b0 r14.t1[zq r14.t7]!.aX O with|G=>G|V r27=>bif bif vn (r27=0)then O else J then V (r27)else G else G else V 0
def aGT(M143:aS->(af aB)->Bool->aa pY)(a0:aS)(a1:af aB)(a2:Bool):bZ vp (akV M143) 300 (ap9 M143) 143 (as9.c (a0,a1,a2,())) [] 0 d143.rd=agO M143 a0 a1 a2:=aY
def ap1:Nat->(aS->(af aB)->Bool->aa pY)
 |0=>(λ_ _ _=>G)
 |n+1=>(agO (ap1 n))
def Vl(n:Nat):aS->(af aB)->Bool->aa pY:=(ap1 n)
def PA:∀n,akh (Vl n)
 |0=>λ_ _ h=>(by cases h)
 |n+1=>by
  have ih:=PA n;have i143:=ih;exact(fe (anX i143) (aB3 (Vl n)) (λ_=>aY) (λ_=>aY) λg=>aGT (Vl n) g.1 g.2.1 g.2.2.1)
def aiv:aS->(af aB)->Bool->aa pY:=λa0 a1 a2=>lim (λn=>Vl n a0 a1 a2)
def am4:akh aiv:=λg b h=>by
 obtain⟨n,hn⟩:=dz (show lim (λn=>Vl n g.1 g.2.1 g.2.2.1)=V b from h);exact(PA n) g b hn
def aCt(F:bu):bu:=agM aiv F
def ai9{F:bu}(h:bE vp F):bE vp (aCt F):=YB am4 h
def F78:bu:=(aCt (aiN (akq (amQ (awT (aDw (e90 dA)))))))
structure DC where
 (t4 t6:Int)
 b0:aS
 b1:dN
def aa1:Td 0 DC:= .c [] [1,4,5,6] (.r 0 2 (ec 1 (qp 0 0) (ec 4 aP (ec 5 (qp 1 0) (ec 6 aP en)))) (sb 0 26 (lg 26) (sb 1 139 (lg 139) sn)) (λz=>⟨z.1.2.1,z.1.t.2.1,z.2.1,z.t.1⟩) (λx=>(((),x.t4,(),x.t6,()),(x.b0,x.b1,()))))
def DF{α:Type}(p:DC)(go:DC->aa α)(e1 e2:aa α):aa α:=
 bif vn (p.t6<p.t4)then if 0<=p.t6/\p.t6<zY p.b0.ax then bif p.b0.ax[zq p.t6]!.fName.toList==p.b1.fName.toList then e1 else go (DC.mk p.t4 (ak (p.t6+1)) p.b0 (dN.mk p.b1.fName p.b1.ah p.b1.ag (az.mk p.b1.aF.bF p.b1.aF.fN p.b1.aF.aq)))else G else e2
def Xt(p:DC):aa (aa DC):=
 DF p (λs=>V (V s)) (V G) (V G)
def Ot:=bI (Xt)
structure Qf where
 t4:Int
 b0:aS
def adA:Td 0 Qf:= .c [] [1,4] (.r 0 1 (ec 1 (qp 0 0) (ec 4 aP en)) (sb 0 26 (lg 26) sn) (λz=>⟨z.1.2.1,z.2.1⟩) (λx=>(((),x.t4,()),(x.b0,()))))
def JG(p:Qf):aa (aa Qf):=
 bif vn (p.t4<zY p.b0.ax)then if 0<=p.t4/\p.t4<zY p.b0.ax then match Z9 p.b0.ax[zq p.t4]!.fName with|G=>G|V r1=>bif bif r1 then O else J then V (G)else match Ot (DC.mk p.t4 0 p.b0 (dN.mk p.b0.ax[zq p.t4]!.fName p.b0.ax[zq p.t4]!.ah p.b0.ax[zq p.t4]!.ag (az.mk p.b0.ax[zq p.t4]!.aF.bF p.b0.ax[zq p.t4]!.aF.fN p.b0.ax[zq p.t4]!.aF.aq)))with|G=>G|V r2=>DF r2 (λ_=>G) (V (G)) (bif bif OF r2.b1.ah r2.b1.ag then O else J then V (G)else match MN r2.b0.ai (az.mk r2.b1.aF.bF r2.b1.aF.fN r2.b1.aF.aq) J with|G=>G|V r3=>bif bif vn (r3=0)then O else J then V (G)else V (V (Qf.mk (ak (r2.t4+1)) r2.b0)))else G else V (G)
def aoX:An:=(noTwo (.two (noTwo (noTwo (.two (noTwo (aa1.lp Ot .no)) .no))) .no))
def Yl:=bI (JG)
abbrev E78:=Int
def d78:Td 0 E78:= .c [] [2] (.r 0 0 (ec 2 aP en) sn (λz=>z.1.1) (λx=>((x,()),(()))))
def aHu:∀f∈([]:af Nat),bA (F78) f:=aH
def m78(a0:aS):aa E78:=
 match ahj a0 with|G=>G|V r4=>bif bif r4 then O else J then V 4 else match aj3 a0.ai with|G=>G|V r5=>bif bif vn (r5=0)then O else J then V (r5)else match Yl (Qf.mk 0 a0)with|G=>G|V r6=>bif vn (r6.t4<zY r6.b0.ax)then if 0<=r6.t4/\r6.t4<zY r6.b0.ax then match Z9 r6.b0.ax[zq r6.t4]!.fName with|G=>G|V r7=>bif bif r7 then O else J then V 7 else match Ot (DC.mk r6.t4 0 r6.b0 (dN.mk r6.b0.ax[zq r6.t4]!.fName r6.b0.ax[zq r6.t4]!.ah r6.b0.ax[zq r6.t4]!.ag (az.mk r6.b0.ax[zq r6.t4]!.aF.bF r6.b0.ax[zq r6.t4]!.aF.fN r6.b0.ax[zq r6.t4]!.aF.aq)))with|G=>G|V r8=>DF r8 (λ_=>G) (V 8) (bif bif OF r8.b1.ah r8.b1.ag then O else J then V 3 else match MN r8.b0.ai (az.mk r8.b1.aF.bF r8.b1.aF.fN r8.b1.aF.aq) J with|G=>G|V r9=>bif bif vn (r9=0)then O else J then V (r9)else G)else G else match aiv r6.b0 r6.b0.bM J with|G=>G|V r10=>bif bif vn (r10=0)then O else J then V (r10)else match r90 r6.b0.bM with|G=>G|V r11=>match (bif vn (4096<r11.fst)then V J else bif vn (8<r11.snd.fst)then V J else V (vn (67108864<r11.snd.snd)))with|G=>G|V r12=>bif r12 then V 4 else V 0
def e78:=eL vp 78 O (lc (qg 26) ln) d78 (λg=>m78 g.1)
def ael:EO e78:=λh=>kL (F:=F78) (an:=(noTwo (noTwo (noTwo (noTwo (.two (noTwo (adA.lp Yl aoX)) (noTwo (noTwo (noTwo (.two (.two (.rb [] 86) .no) .no)))))))))) (l:=[(bk f78 0,(adA.lp Yl aoX)),(bk f78 1,(aa1.lp Ot .no)),(.skip,(.rb [] 86))]) func78 (ai9 (VZ (Yj (Ya (akn (ah4 (aeV aV))))))) (aA (aO adA) (aA (aO aa1) (aA aHu aH))) h
def Bp:EP e78:=λh=>kP h
def aBj:bu:=dA
abbrev aDx:=aK
def d103:Td 0 aDx:= .c [] [0] (.r 0 1 (ec 0 (qp 0 0) en) (sb 0 34 (lg 34) sn) (λz=>z.2.1) (λx=>(((),()),(x,()))))
def aAr:=ln
def apL:An:= .no
def qD:aDx:=
 aK.mk (1) (0) (0)
def aEt:bZ vp (aBj) 300 (apL) 103 (aAr.c ()) [] 0 d103.rd=V (qD):=aY
def Ll:=eL vp 103 O aAr d103 (λ_=>V (qD))
def lT:EO Ll:=λh=>kL (F:=aBj) (an:=apL) func103 aV aH h (c:=λ_=>aEt)
def jf:EP Ll:=λh=>kP h
def arD:bu:=dA
abbrev atX:=Bool
def d162:Td 0 atX:= .c [] [2] (.r 0 0 (ec 2 qb en) sn (λz=>z.1.1) (λx=>((x,()),(()))))
def ayB:=(aU ln)
def aqg:An:=(noTwo (.two (.rb [] 2) .no))
def axm:∀f∈([]:af Nat),bA (arD) f:=aH
def sA(a0:Int):atX:=
 let r1:Bool:=bif vn (-1099511627776<=a0)then vn (a0<=1099511627776)else O;r1
def aF5(a0:Int):bZ vp (arD) 300 (aqg) 162 (ayB.c (a0,())) [] 0 d162.rd=V (sA a0):=by
 refine Eq.trans (b:=(
  match bif vn (-1099511627776<=a0)then V (vn (a0<=1099511627776))else V (O)with|G=>G|V r1=>V (r1):aa atX)) aY ?_
 simp only[sA,cn,cO]
def af2:=eL vp 162 O ayB d162 (λg=>V (sA g.1))
def sZ:EO af2:=λh=>kL (F:=arD) (an:=aqg) (l:=[(.skip,(.rb [] 2))]) func162 aV (aA axm aH) h (c:=λg=>aF5 g.1)
def BR:EP af2:=λh=>kP h
def F84:bu:=(af2 (Ll dA))
abbrev E84:=Bool
def d84:Td 0 E84:= .c [] [2] (.r 0 0 (ec 2 qb en) sn (λz=>z.1.1) (λx=>((x,()),(()))))
def axg:∀f∈([162]:af Nat),bA (F84) f:=(aA (BR (jf bG)) aH)
def m84(a0:aK):aa E84:=
 bif bif vn (a0.ah=qD.ah)then bif vn (a0.ag=qD.ag)then bif vn (a0.aj=qD.aj)then J else O else O else O then V J else match bif bif sA a0.ah then O else J then V J else V (bif sA a0.ag then O else J)with|G=>G|V r1=>bif r1 then V O else bif vn (a0.ah=a0.ag)then V (vn (a0.aj=0))else match bif vn (a0.ah<a0.ag)then bif vn (1<=a0.aj)then if¬a0.aj=0then V (vn ((ak (a0.ag-a0.ah)).tmod a0.aj=0))else G else V O else V O with|G=>G|V r2=>V (r2)
def e84:=eL vp 84 O (lc (qg 34) ln) d84 (λg=>m84 g.1)
def u9:EO e84:=λh=>kL (F:=F84) (an:=(noTwo (noTwo (.two (.two (.rb [162] 15) .no) (noTwo (.two (.rb [162] 2) .no)))))) (l:=[(.skip,(.rb [162] 15)),(.skip,(.rb [162] 2))]) func84 (sZ (lT aV)) (aA axg (aA axg aH)) h
def iR:EP e84:=λh=>kP h
def F32:bu:=(e84 dA)
abbrev E32:=Bool
def d32:Td 0 E32:= .c [] [4] (.r 0 0 (ec 4 qb en) sn (λz=>z.1.1) (λx=>((x,()),(()))))
def pu32:∀f∈([84]:af Nat),bA (F32) f:=(aA (iR bG) aH)
def m32(a0:aK)(a1:Int):aa E32:=
 match match m84 a0 with|G=>G|V r1=>bif bif r1 then O else J then V J else bif vn (a1<a0.ah)then V J else V (vn (a0.ag<a1))with|G=>G|V r2=>bif r2 then V O else match bif vn (a0.aj=0)then V J else if¬a0.aj=0then V (vn ((ak (a1-a0.ah)).tmod a0.aj=0))else G with|G=>G|V r3=>V (r3)
def e32:=eL vp 32 O (lc (qg 34) (aU ln)) d32 (λg=>m32 g.1 g.2.1)
def Iy:EO e32:=λh=>kL (F:=F32) (an:=(noTwo (.two (.two (.rb [84] 19) .no) (.two (.rb [84] 4) .no)))) (l:=[(.skip,(.rb [84] 19)),(.skip,(.rb [84] 4))]) func32 (u9 aV) (aA pu32 (aA pu32 aH)) h
def agb:EP e32:=λh=>kP h
abbrev E36:=aK
def d36:Td 0 E36:= .c [] [2] (.r 0 1 (ec 2 (qp 0 0) en) (sb 0 34 (lg 34) sn) (λz=>z.2.1) (λx=>(((),()),(x,()))))
def m36(a0:Int):E36:=
 aK.mk a0 a0 (0)
def e36:=eL vp 36 O (aU ln) d36 (λg=>V (m36 g.1))
def LP:EO e36:=λh=>kL (an:= .no) func36 aV aH h
def axi:bu:=(af2 (Ll dA))
abbrev aAB:=aK×Int
def d101:Td 0 aAB:= .c [] [6,7] (.r 0 1 (ec 6 (qp 0 0) (ec 7 aP en)) (sb 0 34 (lg 34) sn) (λz=>(z.2.1,z.1.2.1)) (λx=>(((),x.2,()),(x.1,()))))
def az3:∀f∈([162]:af Nat),bA (axi) f:=(aA (BR (jf bG)) aH)
def j4(a0:Int)(a1:Int)(a2:Int):aa aAB:=
 match bif bif sA a0 then O else J then V J else bif bif sA a1 then O else J then V J else V (vn (a2<1))with|G=>G|V r1=>bif r1 then V (aK.mk 0 0 0,3)else bif vn (a1<a0)then V (qD,0)else if¬a2=0then bif vn (a0=ak (a0+ak (ak ((ak (a1-a0)).tdiv a2)*a2)))then V ((aK.mk a0 (ak (a0+ak (ak ((ak (a1-a0)).tdiv a2)*a2))) 0,0))else V ((aK.mk a0 (ak (a0+ak (ak ((ak (a1-a0)).tdiv a2)*a2))) a2,0))else G
def acG:=eL vp 101 O (aU (aU (aU ln))) d101 (λg=>j4 g.1 g.2.1 g.t.1)
def Eg:EO acG:=λh=>kL (F:=axi) (an:=(noTwo (.two (.two (.rb [162] 19) .no) .no))) (l:=[(.skip,(.rb [162] 19))]) func101 (sZ (lT aV)) (aA az3 aH) h
def oK:EP acG:=λh=>kP h
abbrev az0:=Bool
def d102:Td 0 az0:= .c [] [2] (.r 0 0 (ec 2 qb en) sn (λz=>z.1.1) (λx=>((x,()),(()))))
def l9(a0:aK):az0:=
 vn (a0.ag<a0.ah)
def Qv:=eL vp 102 O (lc (qg 34) ln) d102 (λg=>V (l9 g.1))
def nu:EO Qv:=λh=>kL (an:= .no) func102 aV aH h
def iC:EP Qv:=λh=>kP h
def F41:bu:=(Ll (Qv (acG dA)))
abbrev E41:=aK
def d41:Td 0 E41:= .c [] [4] (.r 0 1 (ec 4 (qp 0 0) en) (sb 0 34 (lg 34) sn) (λz=>z.2.1) (λx=>(((),()),(x,()))))
def aHp:∀f∈([102]:af Nat),bA (F41) f:=(aA (jf (iC (oK bG))) aH)
def m41(a0:aK)(a1:Int):aa E41:=
 match bif l9 a0 then V (J)else V (vn (a1<a0.ah))with|G=>G|V r1=>bif r1 then V (qD)else bif vn (a0.ag<=a1)then V (a0)else match j4 a0.ah a1 a0.aj with|G=>G|V r2=>V (r2.fst)
def e41:=eL vp 41 O (lc (qg 34) (aU ln)) d41 (λg=>m41 g.1 g.2.1)
def acT:EO e41:=λh=>kL (F:=F41) (an:=(noTwo (.two (.two (.rb [102] 14) .no) .no))) (l:=[(.skip,(.rb [102] 14))]) func41 (lT (nu (Eg aV))) (aA aHp aH) h
def AY:EP e41:=λh=>kP h
def F42:bu:=(Ll (Qv (acG dA)))
abbrev E42:=aK
def d42:Td 0 E42:= .c [] [4] (.r 0 1 (ec 4 (qp 0 0) en) (sb 0 34 (lg 34) sn) (λz=>z.2.1) (λx=>(((),()),(x,()))))
def aGa:∀f∈([102]:af Nat),bA (F42) f:=(aA (jf (iC (oK bG))) aH)
def m42(a0:aK)(a1:Int):aa E42:=
 match bif l9 a0 then V J else V (vn (a0.ag<=a1))with|G=>G|V r1=>bif r1 then V (qD)else bif vn (a1<a0.ah)then V (a0)else if¬a0.aj=0then match j4 (ak (a0.ah+ak (ak (ak ((ak (a1-a0.ah)).tdiv a0.aj)+1)*a0.aj))) a0.ag a0.aj with|G=>G|V r2=>V (r2.fst)else G
def e42:=eL vp 42 O (lc (qg 34) (aU ln)) d42 (λg=>m42 g.1 g.2.1)
def Un:EO e42:=λh=>kL (F:=F42) (an:=(noTwo (.two (.two (.rb [102] 14) .no) .no))) (l:=[(.skip,(.rb [102] 14))]) func42 (lT (nu (Eg aV))) (aA aGa aH) h
def AH:EP e42:=λh=>kP h
structure mc where
 (t0 t1:Int)
def Vo:Td 0 mc:= .c [] [0,1] (.r 0 0 (ec 0 aP (ec 1 aP en)) sn (λz=>⟨z.1.1,z.1.2.1⟩) (λx=>((x.t0,x.t1,()),(()))))
def Fc{α:Type}(p:mc)(go:mc->aa α)(e1:aa α):aa α:=
 bif bif vn (p.t1=0)then O else J then if¬p.t1=0then go (mc.mk p.t1 (p.t0.tmod p.t1))else G else e1
def uI(p:mc):aa (aa mc):=
 Fc p (λs=>V (V s)) (V G)
def GO:=bI (uI)
abbrev axH:=Int
def d239:Td 0 axH:= .c [] [4] (.r 0 0 (ec 4 aP en) sn (λz=>z.1.1) (λx=>((x,()),(()))))
def G8(a0:Int)(a1:Int):aa axH:=
 match GO (mc.mk a0 a1)with|G=>G|V r1=>Fc r1 (λ_=>G) (V (r1.t0))
def awp:=eL vp 239 O (aU (aU ln)) d239 (λg=>G8 g.1 g.2.1)
def Mx:EO awp:=λh=>kL (an:=(noTwo (.two (Vo.lp GO .no) .no))) (l:=[(bk f239 0,(Vo.lp GO .no))]) func239 aV (aA (aO Vo) aH) h
def Zk:EP awp:=λh=>kP h
def aGn:bu:=dA
abbrev aq4:=Int
def d240:Td 0 aq4:= .c [] [4] (.r 0 0 (ec 4 aP en) sn (λz=>z.1.1) (λx=>((x,()),(()))))
def aw1:=(aU (aU ln))
def aqu:An:= .no
def jN(a0:Int)(a1:Int):aq4:=
 bif vn (a0<a1)then ak (a1-a0)else ak (a0-a1)
def aFo(a0:Int)(a1:Int):bZ vp (aGn) 300 (aqu) 240 (aw1.c (a0,a1,())) [] 0 d240.rd=V (jN a0 a1):=by
 refine Eq.trans (b:=(
  bif vn (a0<a1)then V (ak (a1-a0))else V (ak (a0-a1)):aa aq4)) aY ?_
 simp only[jN,cn,cO]
def ago:=eL vp 240 O aw1 d240 (λg=>V (jN g.1 g.2.1))
def AB:EO ago:=λh=>kL (an:=aqu) func240 aV aH h (c:=λg=>aFo g.1 g.2.1)
def om:EP ago:=λh=>kP h
structure iX where
 t0:List Int
 t6:Int
 (b0 b1:aK)
def Va:Td 0 iX:= .c [] [0,2,5,6] (.r 0 2 (ec 0 (ql 3) (ec 2 (qp 0 0) (ec 5 (qp 1 0) (ec 6 aP en)))) (sb 0 34 (lg 34) (sb 1 34 (lg 34) sn)) (λz=>⟨z.1.1,z.1.t.2.1,z.2.1,z.t.1⟩) (λx=>((x.t0,(),(),x.t6,()),(x.b0,x.b1,()))))
def Gt{α:Type}(p:iX)(go:iX->aa α)(e1:aa α):aa α:=
 bif vn (p.t6<zY p.t0)then if 0<=p.t6/\p.t6<zY p.t0 then if(0:Int)<=(0:Int)/\(0:Int)<zY p.t0 then match G8 p.b1.aj (jN p.t0[zq p.t6]! p.t0[0]!)with|G=>G|V r1=>if 0<=p.t6/\p.t6<zY p.t0 then bif vn (((p.t0,(),(),p.t6,()),p.b0,p.b1,()).fst.fst[((p.t0,(),(),p.t6,()),p.b0,p.b1,()).fst.snd.snd.snd.fst.toNat]! <((p.t0,(),(),p.t6,()),p.b0,p.b1,()).snd.snd.fst.ah)then if 0<=p.t6/\p.t6<zY p.t0 then if 0<=p.t6/\p.t6<zY p.t0 then bif vn (((p.t0,(),(),p.t6,()),p.b0,p.b1,()).snd.snd.fst.ag<((p.t0,(),(),p.t6,()),p.b0,p.b1,()).fst.fst[((p.t0,(),(),p.t6,()),p.b0,p.b1,()).fst.snd.snd.snd.fst.toNat]!)then if 0<=p.t6/\p.t6<zY p.t0 then go (iX.mk p.t0 (ak (p.t6+1)) p.b0 (aK.mk p.t0[zq p.t6]! p.t0[zq p.t6]! r1))else G else go (iX.mk p.t0 (ak (p.t6+1)) p.b0 (aK.mk p.t0[zq p.t6]! p.b1.ag r1))else G else G else if 0<=p.t6/\p.t6<zY p.t0 then bif vn (((p.t0,(),(),p.t6,()),p.b0,p.b1,()).snd.snd.fst.ag<((p.t0,(),(),p.t6,()),p.b0,p.b1,()).fst.fst[((p.t0,(),(),p.t6,()),p.b0,p.b1,()).fst.snd.snd.snd.fst.toNat]!)then if 0<=p.t6/\p.t6<zY p.t0 then go (iX.mk p.t0 (ak (p.t6+1)) p.b0 (aK.mk p.b1.ah p.t0[zq p.t6]! r1))else G else go (iX.mk p.t0 (ak (p.t6+1)) p.b0 (aK.mk p.b1.ah p.b1.ag r1))else G else G else G else G else e1
def vU(p:iX):aa (aa iX):=
 Gt p (λs=>V (V s)) (V G)
def MQ:=bI (vU)
structure nM where
 t0:List Int
 t4:Int
 b0:aK
def Vj:Td 0 nM:= .c [] [0,2,4] (.r 0 1 (ec 0 (ql 3) (ec 2 (qp 0 0) (ec 4 aP en))) (sb 0 34 (lg 34) sn) (λz=>⟨z.1.1,z.1.t.1,z.2.1⟩) (λx=>((x.t0,(),x.t4,()),(x.b0,()))))
def Is{α:Type}(p:nM)(go:nM->aa α)(e1 e2:aa α):aa α:=
 bif vn (p.t4<zY p.t0)then if 0<=p.t4/\p.t4<zY p.t0 then bif bif sA p.t0[zq p.t4]! then O else J then e1 else go (nM.mk p.t0 (ak (p.t4+1)) p.b0)else G else e2
def C8(p:nM):aa (aa nM):=
 Is p (λs=>V (V s)) (V G) (V G)
def Ma:=bI (C8)
abbrev ayw:=aK×Int
def d238:Td 0 ayw:= .c [] [2,3] (.r 0 1 (ec 2 (qp 0 0) (ec 3 aP en)) (sb 0 34 (lg 34) sn) (λz=>(z.2.1,z.1.2.1)) (λx=>(((),x.2,()),(x.1,()))))
def aal(a0:af Int):aa ayw:=
 match Ma (nM.mk a0 0 (aK.mk 0 0 0))with|G=>G|V r2=>Is r2 (λ_=>G) (V (aK.mk 0 0 0,3)) (bif vn ((zY r2.t0:Int)=0)then V (qD,0)else if(0:Int)<=(0:Int)/\(0:Int)<zY r2.t0 then if(0:Int)<=(0:Int)/\(0:Int)<zY r2.t0 then match MQ (iX.mk r2.t0 1 r2.b0 (aK.mk r2.t0[0]! r2.t0[0]! (0)))with|G=>G|V r3=>Gt r3 (λ_=>G) (V (r3.b1,0))else G else G)
def aEQ:=eL vp 238 O (lc (ql 3) ln) d238 (λg=>aal g.1)
def No:EO aEQ:=λh=>kL (an:=(noTwo (.two (noTwo (Vj.lp Ma .no)) (noTwo (noTwo (.two (noTwo (Va.lp MQ .no)) .no)))))) (l:=[(bk f238 0,(Vj.lp Ma .no)),(bk f238 1,(Va.lp MQ .no))]) func238 (AB (Mx (sZ (lT aV)))) (aA (aO Vj) (aA (aO Va) aH)) h
abbrev ay0:=aK
def d163:Td 0 ay0:= .c [] [4] (.r 0 1 (ec 4 (qp 0 0) en) (sb 0 34 (lg 34) sn) (λz=>z.2.1) (λx=>(((),()),(x,()))))
def nG(a0:aK)(a1:aK):aa ay0:=
 bif l9 a0 then V (a1)else bif l9 a1 then V (a0)else match aal [a0.ah,a0.ag,a1.ah,a1.ag]with|G=>G|V r1=>bif vn (r1.fst.ah<r1.fst.ag)then match G8 a0.aj a1.aj with|G=>G|V r2=>match G8 r2 (jN a0.ah a1.ah)with|G=>G|V r3=>V (aK.mk r1.fst.ah r1.fst.ag r3)else V (r1.fst)
def adb:=eL vp 163 O (lc (qg 34) (lc (qg 34) ln)) d163 (λg=>nG g.1 g.2.1)
def sO:EO adb:=λh=>kL (an:= .no) func163 (AB (Mx (No (nu aV)))) aH h
def tv:EP adb:=λh=>kP h
def F86:bu:=(adb (af2 (Qv (e84 (e42 (e41 dA))))))
abbrev E86:=aK×Int
def d86:Td 0 E86:= .c [] [6,7] (.r 0 1 (ec 6 (qp 0 0) (ec 7 aP en)) (sb 0 34 (lg 34) sn) (λz=>(z.2.1,z.1.2.1)) (λx=>(((),x.2,()),(x.1,()))))
def aHH:∀f∈([162]:af Nat),bA (F86) f:=(aA (tv (BR (iC (iR (AH (AY bG)))))) aH)
def m86(a0:aK)(a1:Int)(a2:Int):aa E86:=
 match m84 a0 with|G=>G|V r1=>bif bif r1 then O else J then V ((aK.mk (0) (0) (0),1))else match bif bif sA a1 then O else J then V (J)else bif bif sA a2 then O else J then V (J)else V (vn (a2<a1))with|G=>G|V r2=>bif r2 then V ((aK.mk (0) (0) (0),3))else match m42 a0 (ak (a1-1))with|G=>G|V r3=>match m41 r3 a2 with|G=>G|V r4=>match m41 a0 a1 with|G=>G|V r5=>bif bif l9 r5 then O else J then match nG r4 (aK.mk a1 a1 (0))with|G=>G|V r6=>match m42 a0 a2 with|G=>G|V r7=>bif bif l9 r7 then O else J then match nG r6 (aK.mk a2 a2 (0))with|G=>G|V r8=>V ((r8,0))else V ((r6,0))else match m42 a0 a2 with|G=>G|V r9=>bif bif l9 r9 then O else J then match nG r4 (aK.mk a2 a2 (0))with|G=>G|V r10=>V ((r10,0))else V ((r4,0))
def e86:=eL vp 86 O (lc (qg 34) (aU (aU ln))) d86 (λg=>m86 g.1 g.2.1 g.t.1)
def TU:EO e86:=λh=>kL (F:=F86) (an:=(noTwo (noTwo (.two (.two (.rb [162] 25) .no) .no)))) (l:=[(.skip,(.rb [162] 25))]) func86 (sO (sZ (nu (u9 (Un (acT aV)))))) (aA aHH aH) h
def F43:bu:=(Qv (e84 dA))
abbrev E43:=Int
def d43:Td 0 E43:= .c [] [2] (.r 0 0 (ec 2 aP en) sn (λz=>z.1.1) (λx=>((x,()),(()))))
def aFH:∀f∈([84,102]:af Nat),bA (F43) f:=(aA (iC (iR bG)) (aA (iC (iR bG)) aH))
def DZ(a0:aK):aa E43:=
 match match m84 a0 with|G=>G|V r1=>bif bif r1 then O else J then V J else V (l9 a0)with|G=>G|V r2=>bif r2 then V 0 else bif vn (a0.aj=0)then V 1 else if¬a0.aj=0then V (ak (ak ((ak (a0.ag-a0.ah)).tdiv a0.aj)+1))else G
def e43:=eL vp 43 O (lc (qg 34) ln) d43 (λg=>DZ g.1)
def pU:EO e43:=λh=>kL (F:=F43) (an:=(noTwo (.two (.two (.rb [84,102] 9) .no) .no))) (l:=[(.skip,(.rb [84,102] 9))]) func43 (nu (u9 aV)) (aA aFH aH) h
def mR:EP e43:=λh=>kP h
abbrev ayK:=Bool×Bool
def d165:Td 0 ayK:= .c [] [2,3] (.r 0 0 (ec 2 qb (ec 3 qb en)) sn (λz=>(z.1.1,z.1.2.1)) (λx=>((x.1,x.2,()),(()))))
def Fe(a0:aK):aa ayK:=
 match m32 a0 (0)with|G=>G|V r1=>match DZ a0 with|G=>G|V r2=>bif vn (1<r2)then V ((r1,J))else match DZ a0 with|G=>G|V r3=>bif vn (r3=1)then V ((r1,bif r1 then O else J))else V ((r1,O))
def ZC:=eL vp 165 O (lc (qg 34) ln) d165 (λg=>Fe g.1)
def BN:EO ZC:=λh=>kL (an:= .no) func165 (pU (Iy aV)) aH h
def ZT:EP ZC:=λh=>kP h
def ar8:bu:=dA
abbrev av3:=aK
def d241:Td 0 av3:= .c [] [4] (.r 0 1 (ec 4 (qp 0 0) en) (sb 0 34 (lg 34) sn) (λz=>z.2.1) (λx=>(((),()),(x,()))))
def az5:=(lc qb (lc qb ln))
def aqq:An:=(noTwo (.two (.two (.rb [] 8) .no) .no))
def ayI:∀f∈([]:af Nat),bA (ar8) f:=aH
def jF(a0:Bool)(a1:Bool):av3:=
 let r1:Bool:=bif a0 then a1 else O;bif r1 then aK.mk (0) (1) (1)else bif a1 then aK.mk (1) (1) (0)else aK.mk (0) (0) (0)
def aGG(a0:Bool)(a1:Bool):bZ vp (ar8) 300 (aqq) 241 (az5.c (a0,a1,())) [] 0 d241.rd=V (jF a0 a1):=by
 refine Eq.trans (b:=(
  match bif a0 then V (a1)else V (O)with|G=>G|V r1=>bif r1 then V (aK.mk (0) (1) (1))else bif a1 then V (aK.mk (1) (1) (0))else V (aK.mk (0) (0) (0)):aa av3)) aY ?_
 simp only[jF,cn,cO]
def as7:=eL vp 241 O az5 d241 (λg=>V (jF g.1 g.2.1))
def Vx:EO as7:=λh=>kL (F:=ar8) (an:=aqq) (l:=[(.skip,(.rb [] 8))]) func241 aV (aA ayI aH) h (c:=λg=>aGG g.1 g.2.1)
def ZR:EP as7:=λh=>kP h
def aw2:bu:=(as7 (ZC (Ll (Qv (e84 dA)))))
abbrev ax5:=aK×Int
def d164:Td 0 ax5:= .c [] [4,5] (.r 0 1 (ec 4 (qp 0 0) (ec 5 aP en)) (sb 0 34 (lg 34) sn) (λz=>(z.2.1,z.1.2.1)) (λx=>(((),x.2,()),(x.1,()))))
def aBf:∀f∈([84]:af Nat),bA (aw2) f:=(aA (ZR (ZT (jf (iC (iR bG))))) aH)
def ab3(a0:Int)(a1:aK):aa ax5:=
 match match m84 a1 with|G=>G|V r1=>bif bif r1 then O else J then V (J)else bif bif vn (a0=6)then O else J then V (bif vn (a0=7)then O else J)else V (O)with|G=>G|V r2=>bif r2 then V ((aK.mk (0) (0) (0),1))else bif l9 a1 then V ((qD,0))else bif vn (a0=6)then V ((aK.mk (ak (0-a1.ag)) (ak (0-a1.ah)) a1.aj,0))else match Fe a1 with|G=>G|V r3=>V ((jF r3.snd r3.fst,0))
def aCG:=eL vp 164 O (aU (lc (qg 34) ln)) d164 (λg=>ab3 g.1 g.2.1)
def amk:EO aCG:=λh=>kL (F:=aw2) (an:=(noTwo (.two (.two (.rb [84] 18) .no) .no))) (l:=[(.skip,(.rb [84] 18))]) func164 (Vx (BN (lT (nu (u9 aV))))) (aA aBf aH) h
def aEH:bu:=dA
abbrev av9:=Bool
def d242:Td 0 av9:= .c [] [2] (.r 0 0 (ec 2 qb en) sn (λz=>z.1.1) (λx=>((x,()),(()))))
def azD:=(aU ln)
def aor:An:= .no
def I5(a0:Int):av9:=
 bif vn (a0=8)then J else bif vn (a0=9)then J else bif vn (a0=10)then J else bif vn (a0=11)then J else bif vn (a0=12)then J else bif vn (a0=13)then J else bif vn (a0=14)then J else bif vn (a0=15)then J else bif vn (a0=16)then J else bif vn (a0=17)then J else bif vn (a0=18)then J else bif vn (a0=19)then J else bif vn (a0=20)then J else bif vn (a0=21)then J else bif vn (a0=22)then J else O
def aEI(a0:Int):bZ vp (aEH) 300 (aor) 242 (azD.c (a0,())) [] 0 d242.rd=V (I5 a0):=by
 refine Eq.trans (b:=(
  bif vn (a0=8)then V (J)else bif vn (a0=9)then V (J)else bif vn (a0=10)then V (J)else bif vn (a0=11)then V (J)else bif vn (a0=12)then V (J)else bif vn (a0=13)then V (J)else bif vn (a0=14)then V (J)else bif vn (a0=15)then V (J)else bif vn (a0=16)then V (J)else bif vn (a0=17)then V (J)else bif vn (a0=18)then V (J)else bif vn (a0=19)then V (J)else bif vn (a0=20)then V (J)else bif vn (a0=21)then V (J)else bif vn (a0=22)then V (J)else V (O):aa av9)) aY ?_
 simp only[I5,cn,cO]
def atv:=eL vp 242 O azD d242 (λg=>V (I5 g.1))
def ajq:EO atv:=λh=>kL (an:=aor) func242 aV aH h (c:=λg=>aEI g.1)
def C0:EP atv:=λh=>kP h
def ayY:bu:=(ago dA)
abbrev aCZ:=Int×Bool
def d283:Td 0 aCZ:= .c [] [4,5] (.r 0 0 (ec 4 aP (ec 5 qb en)) sn (λz=>(z.1.1,z.1.2.1)) (λx=>((x.1,x.2,()),(()))))
def axb:∀f∈([240]:af Nat),bA (ayY) f:=(aA (om bG) aH)
def ant(a0:Int)(a1:Int):aa aCZ:=
 match bif bif vn (a0=0)then O else J then bif bif vn (a1=0)then O else J then if¬jN a1 ((0:Int))=0then V (vn (ak ((1099511627776:Int).tdiv (jN a1 0))<jN a0 0))else G else V O else V O with|G=>G|V r1=>bif r1 then V (0,O)else V ((ak (a0*a1),J))
def aGS:=eL vp 283 O (aU (aU ln)) d283 (λg=>ant g.1 g.2.1)
def agK:EO aGS:=λh=>kL (F:=ayY) (an:=(noTwo (.two (.two (.rb [240] 19) .no) .no))) (l:=[(.skip,(.rb [240] 19))]) func283 (AB aV) (aA axb aH) h
def ayr:bu:=dA
abbrev aC1:=Int
def d284:Td 0 aC1:= .c [] [4] (.r 0 0 (ec 4 aP en) sn (λz=>z.1.1) (λx=>((x,()),(()))))
def azU:∀f∈([]:af Nat),bA (ayr) f:=aH
def ajH(a0:Int)(a1:Int):aa aC1:=
 bif vn (a1=0)then V 0 else if¬a1=0then match if¬a1=0then bif bif vn (a0.tmod a1=0)then O else J then V (bif vn (a0<0)==vn (a1<0)then O else J)else V O else G with|G=>G|V r1=>bif r1 then V (ak (ak (a0.tdiv a1)-1))else V (ak (a0.tdiv a1))else G
def aGV:=eL vp 284 O (aU (aU ln)) d284 (λg=>ajH g.1 g.2.1)
def ak3:EO aGV:=λh=>kL (F:=ayr) (an:=(noTwo (noTwo (noTwo (.two (.two (.rb [] 21) .no) .no))))) (l:=[(.skip,(.rb [] 21))]) func284 aV (aA azU aH) h
def aF8:bu:=dA
abbrev av6:=Int
def d285:Td 0 av6:= .c [] [2] (.r 0 0 (ec 2 aP en) sn (λz=>z.1.1) (λx=>((x,()),(()))))
def aBO:=(lc qb ln)
def ap5:An:= .no
def Bh(a0:Bool):av6:=
 bif a0 then 1 else 0
def aH6(a0:Bool):bZ vp (aF8) 300 (ap5) 285 (aBO.c (a0,())) [] 0 d285.rd=V (Bh a0):=by
 refine Eq.trans (b:=(
  bif a0 then V (1)else V (0):aa av6)) aY ?_
 simp only[Bh,cn,cO]
def aHq:=eL vp 285 O aBO d285 (λg=>V (Bh g.1))
def agU:EO aHq:=λh=>kL (an:=ap5) func285 aV aH h (c:=λg=>aH6 g.1)
abbrev aBK:=Int×Bool
def d245:Td 0 aBK:= .c [] [6,7] (.r 0 0 (ec 6 aP (ec 7 qb en)) sn (λz=>(z.1.1,z.1.2.1)) (λx=>((x.1,x.2,()),(()))))
def T9(a0:Int)(a1:Int)(a2:Int):aa aBK:=
 bif vn (a0=8)then V ((ak (a1+a2),sA (ak (a1+a2))))else bif vn (a0=9)then V ((ak (a1-a2),sA (ak (a1-a2))))else bif vn (a0=10)then match ant a1 a2 with|G=>G|V r1=>V (r1)else bif vn (a0=11)then match ajH a1 a2 with|G=>G|V r2=>V ((r2,J))else bif vn (a0=12)then bif vn (a2=0)then V ((0,J))else match ajH a1 a2 with|G=>G|V r3=>V ((ak (a1-ak (a2*r3)),J))else bif vn (a0=13)then V ((Bh (vn (a1=a2)),J))else bif vn (a0=14)then V ((Bh (bif vn (a1=a2)then O else J),J))else bif vn (a0=15)then V ((Bh (vn (a1<a2)),J))else bif vn (a0=16)then V ((Bh (vn (a1<=a2)),J))else bif vn (a0=17)then V ((Bh (vn (a2<a1)),J))else bif vn (a0=18)then V ((Bh (vn (a2<=a1)),J))else bif vn (a0=19)then bif bif vn (a1=0)then O else J then V ((Bh (bif vn (a2=0)then O else J),J))else V ((Bh O,J))else bif vn (a0=20)then bif bif vn (a1=0)then O else J then V ((Bh J,J))else V ((Bh (bif vn (a2=0)then O else J),J))else bif vn (a0=21)then bif vn (a1<a2)then V ((a1,J))else V ((a2,J))else bif vn (a2<a1)then V ((a1,J))else V ((a2,J))
def aun:=eL vp 245 O (aU (aU (aU ln))) d245 (λg=>T9 g.1 g.2.1 g.t.1)
def Lj:EO aun:=λh=>kL (an:= .no) func245 (agU (ak3 (agK (sZ aV)))) aH h
def C9:EP aun:=λh=>kP h
abbrev aBI:=Int
def d282:Td 0 aBI:= .c [] [4] (.r 0 0 (ec 4 aP en) sn (λz=>z.1.1) (λx=>((x,()),(()))))
def ZB(a0:aK)(a1:Int):aBI:=
 ak (a0.ah+ak (a1*a0.aj))
def aFx:=eL vp 282 O (lc (qg 34) (aU ln)) d282 (λg=>V (ZB g.1 g.2.1))
def amp:EO aFx:=λh=>kL (an:= .no) func282 aV aH h
structure jy where
 t0:Int
 t8:List Int
 (t9 t10:Int)
 (b0 b1 b2:aK)
def UC:Td 0 jy:= .c [] [0,4,5,6,8,9,10] (.r 0 4 (ec 0 aP (ec 4 (qp 0 0) (ec 5 (qp 1 0) (ec 6 (qp 2 0) (ec 8 (qo 3) (ec 9 aP (ec 10 aP en))))))) (sb 0 34 (lg 34) (sb 1 34 (lg 34) (sb 2 34 (lg 34) (sr 3 3 sn)))) (λz=>⟨z.1.1,z.q.1,z.1.q.2.1,z.1.q.t.1,z.2.1,z.t.1,z.t.2.1⟩) (λx=>((x.t0,(),(),(),(),x.t9,x.t10,()),(x.b0,x.b1,x.b2,x.t8,()))))
def vH{α:Type}(p:jy)(go:jy->aa α)(e1 e2:aa α):aa α:=
 match DZ p.b1 with|G=>G|V r5=>bif vn (p.t10<r5)then match T9 p.t0 (ZB p.b0 p.t9) (ZB p.b1 p.t10)with|G=>G|V r6=>bif bif r6.snd then O else J then e1 else if(p.t8++[r6.fst]).length<=1073741824 then go (jy.mk p.t0 (p.t8++[r6.fst]) p.t9 (ak (p.t10+1)) p.b0 p.b1 p.b2)else G else e2
def L8(p:jy):aa (aa jy):=
 vH p (λs=>V (V s)) (V G) (V G)
def Co:=bI (L8)
structure nO where
 t0:Int
 t8:List Int
 t9:Int
 (b0 b1 b2:aK)
def Tt:Td 0 nO:= .c [] [0,4,5,6,8,9] (.r 0 4 (ec 0 aP (ec 4 (qp 0 0) (ec 5 (qp 1 0) (ec 6 (qp 2 0) (ec 8 (qo 3) (ec 9 aP en)))))) (sb 0 34 (lg 34) (sb 1 34 (lg 34) (sb 2 34 (lg 34) (sr 3 3 sn)))) (λz=>⟨z.1.1,z.q.1,z.1.q.2.1,z.2.1,z.t.1,z.t.2.1⟩) (λx=>((x.t0,(),(),(),(),x.t9,()),(x.b0,x.b1,x.b2,x.t8,()))))
def Fm{α:Type}(p:nO)(go:nO->aa α)(e1 e2:aa α):aa α:=
 match DZ p.b0 with|G=>G|V r1=>bif vn (p.t9<r1)then match Co (jy.mk p.t0 p.t8 p.t9 (0) p.b0 p.b1 p.b2)with|G=>G|V r2=>vH r2 (λ_=>G) e1 (go (nO.mk r2.t0 r2.t8 (ak (r2.t9+1)) r2.b0 r2.b1 r2.b2))else e2
def CN(p:nO):aa (aa nO):=
 Fm p (λs=>V (V s)) (V G) (V G)
def af3:An:=(noTwo (.two (noTwo (UC.lp Co .no)) .no))
def KW:=bI (CN)
abbrev aAI:=aK×Int
def d243:Td 0 aAI:= .c [] [6,7] (.r 0 1 (ec 6 (qp 0 0) (ec 7 aP en)) (sb 0 34 (lg 34) sn) (λz=>(z.2.1,z.1.2.1)) (λx=>(((),x.2,()),(x.1,()))))
def Z7(a0:Int)(a1:aK)(a2:aK):aa aAI:=
 match KW (nO.mk a0 [] (0) a1 a2 (aK.mk (0) (0) (0)))with|G=>G|V r7=>Fm r7 (λ_=>G) (V ((aK.mk (0) (0) (0),3))) (match aal r7.t8 with|G=>G|V r12=>V (r12))
def awl:=eL vp 243 O (aU (lc (qg 34) (lc (qg 34) ln))) d243 (λg=>Z7 g.1 g.2.1 g.t.1)
def aoe:EO awl:=λh=>kL (an:=(noTwo (noTwo (.two (noTwo (Tt.lp KW af3)) .no)))) (l:=[(bk f243 0,(Tt.lp KW af3)),(bk f243 1,(UC.lp Co .no))]) func243 (amp (Lj (No (pU aV)))) (aA (aO Tt) (aA (aO UC) aH)) h
def Dl:EP awl:=λh=>kP h
structure jM where
 t0:Int
 (t8 t9 t10:List Int)
 (t11 t12:Int)
 b0:aK
def Vg:Td 0 jM:= .c [] [0,6,8,9,10,11,12] (.r 0 4 (ec 0 aP (ec 6 (qp 0 0) (ec 8 (qo 1) (ec 9 (qo 2) (ec 10 (qo 3) (ec 11 aP (ec 12 aP en))))))) (sb 0 34 (lg 34) (sr 1 3 (sr 2 3 (sr 3 3 sn)))) (λz=>⟨z.1.1,z.t.1,z.t.2.1,z.q.1,z.1.q.2.1,z.1.q.t.1,z.2.1⟩) (λx=>((x.t0,(),(),(),(),x.t11,x.t12,()),(x.b0,x.t8,x.t9,x.t10,()))))
def Hi{α:Type}(p:jM)(go:jM->aa α)(e1 e2:aa α):aa α:=
 bif vn (p.t12<3)then if 0<=p.t11/\p.t11<zY p.t9 then if 3=3/\zq p.t11<zY p.t9 then if 0<=p.t12/\p.t12<zY p.t10 then if 3=3/\zq p.t12<zY p.t10 then match T9 p.t0 p.t9[zq p.t11]! p.t10[zq p.t12]! with|G=>G|V r3=>bif bif r3.snd then O else J then e1 else if(p.t8++[r3.fst]).length<=1073741824 then go (jM.mk p.t0 (p.t8++[r3.fst]) p.t9 p.t10 p.t11 (ak (p.t12+1)) p.b0)else G else G else G else G else G else e2
def Sz(p:jM):aa (aa jM):=
 Hi p (λs=>V (V s)) (V G) (V G)
def Dg:=bI (Sz)
structure nV where
 t0:Int
 (t8 t9 t10:List Int)
 t11:Int
 b0:aK
def Tq:Td 0 nV:= .c [] [0,6,8,9,10,11] (.r 0 4 (ec 0 aP (ec 6 (qp 0 0) (ec 8 (qo 1) (ec 9 (qo 2) (ec 10 (qo 3) (ec 11 aP en)))))) (sb 0 34 (lg 34) (sr 1 3 (sr 2 3 (sr 3 3 sn)))) (λz=>⟨z.1.1,z.t.1,z.t.2.1,z.q.1,z.1.q.2.1,z.2.1⟩) (λx=>((x.t0,(),(),(),(),x.t11,()),(x.b0,x.t8,x.t9,x.t10,()))))
def NO{α:Type}(p:nV)(go:nV->aa α)(e1 e2:aa α):aa α:=
 bif vn (p.t11<3)then match Dg (jM.mk p.t0 p.t8 p.t9 p.t10 p.t11 (0) p.b0)with|G=>G|V r1=>Hi r1 (λ_=>G) e1 (go (nV.mk r1.t0 r1.t8 r1.t9 r1.t10 (ak (r1.t11+1)) r1.b0))else e2
def HU(p:nV):aa (aa nV):=
 NO p (λs=>V (V s)) (V G) (V G)
def adn:An:=(noTwo (.two (noTwo (Vg.lp Dg .no)) .no))
def K6:=bI (HU)
abbrev aDH:=aK×Int
def d244:Td 0 aDH:= .c [] [6,7] (.r 0 1 (ec 6 (qp 0 0) (ec 7 aP en)) (sb 0 34 (lg 34) sn) (λz=>(z.2.1,z.1.2.1)) (λx=>(((),x.2,()),(x.1,()))))
def Aj(a0:Int)(a1:aK)(a2:aK):aa aDH:=
 match K6 (nV.mk a0 [] [a1.ah,ak (a1.ah+a1.aj),a1.ag] [a2.ah,ak (a2.ah+a2.aj),a2.ag] (0) (aK.mk (0) (0) (0)))with|G=>G|V r4=>NO r4 (λ_=>G) (V ((aK.mk (0) (0) (0),3))) (match aal r4.t8 with|G=>G|V r7=>V (r7))
def are:=eL vp 244 O (aU (lc (qg 34) (lc (qg 34) ln))) d244 (λg=>Aj g.1 g.2.1 g.t.1)
def am6:EO are:=λh=>kL (an:=(noTwo (noTwo (noTwo (noTwo (.two (noTwo (Tq.lp K6 adn)) .no)))))) (l:=[(bk f244 0,(Tq.lp K6 adn)),(bk f244 1,(Vg.lp Dg .no))]) func244 (Lj (No aV)) (aA (aO Tq) (aA (aO Vg) aH)) h
def CU:EP are:=λh=>kP h
abbrev q9:=Bool
def d286:Td 0 q9:= .c [] [4] (.r 0 0 (ec 4 qb en) sn (λz=>z.1.1) (λx=>((x,()),(()))))
def arv:=(lc (qg 34) (lc (qg 34) ln))
def alK(M:aK->aK->aa q9):bu->bu:=eL vp 286 O arv d286 (λg=>M g.1 g.2.1)
def aav{M:aK->aK->aa q9}{F:bu}{f:Nat}(h:bA F f):bA (alK M F) f:=gH h (λ_=>aY)
def aj6(M:aK->aK->aa q9):Prop:=HL vp 286 arv d286 (λg=>M g.1 g.2.1)
def X9{M:aK->aK->aa q9}(hM:aj6 M){F:bu}(h:bE vp F):bE vp (alK M F):=gj (sc:=A9) ei hM ⟨_,func286,aY,aY⟩ (λ_=>aY) (λ_=>aY) h
def an7(M286:aK->aK->aa q9):bu:=(alK M286 (ago (awp (e43 (e32 dA)))))
def akO{M286}(h286:aj6 M286):bE vp (an7 M286):=(X9 h286 (AB (Mx (pU (Iy aV)))))
structure jJ where
 (t6 t7 t8 t9:Int)
 (b0 b1:aK)
def RS:Td 0 jJ:= .c [] [2,3,6,7,8,9] (.r 0 2 (ec 2 (qp 0 0) (ec 3 (qp 1 0) (ec 6 aP (ec 7 aP (ec 8 aP (ec 9 aP en)))))) (sb 0 34 (lg 34) (sb 1 34 (lg 34) sn)) (λz=>⟨z.1.t.1,z.1.t.2.1,z.1.q.1,z.1.q.2.1,z.2.1,z.t.1⟩) (λx=>(((),(),x.t6,x.t7,x.t8,x.t9,()),(x.b0,x.b1,()))))
def CP(M286:aK->aK->aa q9)(p:jJ):aa (aa jJ):=
 match if¬p.t7=0then bif vn (p.t9<ak (p.b1.aj.tdiv p.t7))then V (vn (p.t8<=p.t6))else V O else G with|G=>G|V r1=>bif r1 then match m32 p.b1 p.t8 with|G=>G|V r2=>bif r2 then V (G)else V (V (jJ.mk p.t6 p.t7 (ak (p.t8+p.b0.aj)) (ak (p.t9+1)) p.b0 p.b1))else V (G)
def aga(M286:aK->aK->aa q9):An:=(.two (.two (.rb [240] 86) .no) .no)
def pK(M286:aK->aK->aa q9):=bI (CP M286)
def ao8(M286:aK->aK->aa q9):An:=(noTwo (noTwo (noTwo (noTwo (noTwo (noTwo (noTwo (.two (.two (.rb [240] 58) .no) (noTwo (.two (noTwo (RS.lp (pK M286) (aga M286))) .no))))))))))
def apX{M286}:∀f∈([240]:af Nat),bA (an7 M286) f:=(aA (aav (om (Zk (mR (agb bG))))) aH)
def aAX(M286:aK->aK->aa q9):gv vp (an7 M286) 0 300 286 (ao8 M286):=cH (l:=[(.skip,(.rb [240] 58)),(bk f286 0,(RS.lp (pK M286) (aga M286))),(.skip,(.rb [240] 86))]) func286 (bT aY) aY (aA apX (aA (aO RS) (aA apX aH)))
def ZS(M286:aK->aK->aa q9)(a0:aK)(a1:aK):aa q9:=
 match DZ a0 with|G=>G|V r3=>match DZ a1 with|G=>G|V r4=>bif vn (r4<r3)then match M286 a1 a0 with|G=>G|V r5=>V (r5)else match DZ a0 with|G=>G|V r6=>bif vn (r6=1)then match m32 a1 a0.ah with|G=>G|V r7=>V (r7)else bif vn (a0.ah<a1.ah)then bif vn (a1.ag<a0.ag)then match G8 a0.aj a1.aj with|G=>G|V r8=>match bif vn (a1.ag<a1.ah)then V J else if¬r8=0then V (bif vn (Int.tmod (jN a0.ah a1.ah) r8=0)then O else J)else G with|G=>G|V r9=>bif r9 then V O else if¬a0.aj=0then match pK M286 (jJ.mk a1.ag r8 (ak (a0.ah+ak (ak ((ak (ak (ak (a1.ah-a0.ah)+a0.aj)-1)).tdiv a0.aj)*a0.aj))) 0 a0 a1)with|G=>G|V r10=>match if¬r10.t7=0then bif vn (r10.t9<ak (r10.b1.aj.tdiv r10.t7))then V (vn (r10.t8<=r10.t6))else V O else G with|G=>G|V r11=>bif r11 then match m32 r10.b1 r10.t8 with|G=>G|V r12=>bif r12 then V J else G else V O else G else match G8 a0.aj a1.aj with|G=>G|V r13=>match bif vn (a0.ag<a1.ah)then V J else if¬r13=0then V (bif vn (Int.tmod (jN a0.ah a1.ah) r13=0)then O else J)else G with|G=>G|V r14=>bif r14 then V O else if¬a0.aj=0then match pK M286 (jJ.mk a0.ag r13 (ak (a0.ah+ak (ak ((ak (ak (ak (a1.ah-a0.ah)+a0.aj)-1)).tdiv a0.aj)*a0.aj))) 0 a0 a1)with|G=>G|V r15=>match if¬r15.t7=0then bif vn (r15.t9<ak (r15.b1.aj.tdiv r15.t7))then V (vn (r15.t8<=r15.t6))else V O else G with|G=>G|V r16=>bif r16 then match m32 r15.b1 r15.t8 with|G=>G|V r17=>bif r17 then V J else G else V O else G else bif vn (a1.ag<a0.ag)then match G8 a0.aj a1.aj with|G=>G|V r18=>match bif vn (a1.ag<a0.ah)then V J else if¬r18=0then V (bif vn (Int.tmod (jN a0.ah a1.ah) r18=0)then O else J)else G with|G=>G|V r19=>bif r19 then V O else if¬a0.aj=0then match pK M286 (jJ.mk a1.ag r18 (ak (a0.ah+ak (ak ((ak (ak (ak (a0.ah-a0.ah)+a0.aj)-1)).tdiv a0.aj)*a0.aj))) 0 a0 a1)with|G=>G|V r20=>match if¬r20.t7=0then bif vn (r20.t9<ak (r20.b1.aj.tdiv r20.t7))then V (vn (r20.t8<=r20.t6))else V O else G with|G=>G|V r21=>bif r21 then match m32 r20.b1 r20.t8 with|G=>G|V r22=>bif r22 then V J else G else V O else G else match G8 a0.aj a1.aj with|G=>G|V r23=>match bif vn (a0.ag<a0.ah)then V J else if¬r23=0then V (bif vn (Int.tmod (jN a0.ah a1.ah) r23=0)then O else J)else G with|G=>G|V r24=>bif r24 then V O else if¬a0.aj=0then match pK M286 (jJ.mk a0.ag r23 (ak (a0.ah+ak (ak ((ak (ak (ak (a0.ah-a0.ah)+a0.aj)-1)).tdiv a0.aj)*a0.aj))) 0 a0 a1)with|G=>G|V r25=>match if¬r25.t7=0then bif vn (r25.t9<ak (r25.b1.aj.tdiv r25.t7))then V (vn (r25.t8<=r25.t6))else V O else G with|G=>G|V r26=>bif r26 then match m32 r25.b1 r25.t8 with|G=>G|V r27=>bif r27 then V J else G else V O else G
def aFu(M286:aK->aK->aa q9)(a0:aK)(a1:aK):bZ vp (an7 M286) 300 (ao8 M286) 286 (arv.c (a0,a1,())) [] 0 d286.rd=ZS M286 a0 a1:=aY
def J6:Nat->(aK->aK->aa q9)
 |0=>(λ_ _=>G)
 |n+1=>(ZS (J6 n))
def abt(n:Nat):aK->aK->aa q9:=(J6 n)
def PV:∀n,aj6 (abt n)
 |0=>λ_ _ h=>(by cases h)
 |n+1=>by
  have ih:=PV n;have i286:=ih;exact(fe (akO i286) (aAX (abt n)) (λ_=>aY) (λ_=>aY) λg=>aFu (abt n) g.1 g.2.1)
def aed:aK->aK->aa q9:=λa0 a1=>lim (λn=>abt n a0 a1)
def amx:aj6 aed:=λg b h=>by
 obtain⟨n,hn⟩:=dz (show lim (λn=>abt n g.1 g.2.1)=V b from h);exact(PV n) g b hn
def aFP(F:bu):bu:=alK aed F
def ai2{F:bu}(h:bE vp F):bE vp (aFP F):=X9 amx h
abbrev aBM:=aK
def d246:Td 0 aBM:= .c [] [6] (.r 0 1 (ec 6 (qp 0 0) en) (sb 0 34 (lg 34) sn) (λz=>z.2.1) (λx=>(((),()),(x,()))))
def afG(a0:Int)(a1:aK)(a2:aK):aa aBM:=
 bif vn (a0=13)then match aed a1 a2 with|G=>G|V r1=>bif bif bif vn (a1.ah=a2.ah)then bif vn (a1.ag=a2.ag)then bif vn (a1.aj=a2.aj)then J else O else O else O then O else J then bif vn (a0=14)then V (jF r1 J)else V (jF J r1)else match DZ a1 with|G=>G|V r2=>bif vn (a0=14)then V (jF r1 (vn (1<((r2,()),()).fst.fst)))else V (jF (vn (1<((r2,()),()).fst.fst)) r1)else bif vn (a0=14)then match aed a1 a2 with|G=>G|V r3=>bif bif bif vn (a1.ah=a2.ah)then bif vn (a1.ag=a2.ag)then bif vn (a1.aj=a2.aj)then J else O else O else O then O else J then bif vn (a0=14)then V (jF r3 J)else V (jF J r3)else match DZ a1 with|G=>G|V r4=>bif vn (a0=14)then V (jF r3 (vn (1<((r4,()),()).fst.fst)))else V (jF (vn (1<((r4,()),()).fst.fst)) r3)else bif vn (a0=15)then V (jF (vn (a2.ah<=a1.ag)) (vn (a1.ah<a2.ag)))else bif vn (a0=16)then V (jF (vn (a2.ah<a1.ag)) (vn (a1.ah<=a2.ag)))else bif vn (a0=17)then V (jF (vn (a1.ah<=a2.ag)) (vn (a2.ah<a1.ag)))else bif vn (a0=18)then V (jF (vn (a1.ah<a2.ag)) (vn (a2.ah<=a1.ag)))else match Fe a1 with|G=>G|V r5=>match Fe a2 with|G=>G|V r6=>bif vn (a0=19)then bif r5.snd then bif r5.fst then V (jF J r6.snd)else V (jF r6.fst r6.snd)else bif r5.fst then V (jF J O)else V (jF r6.fst O)else bif r5.snd then bif r5.fst then V (jF r6.fst J)else V (jF O J)else bif r5.fst then V (jF r6.fst r6.snd)else V (jF O r6.snd)
def at7:=eL vp 246 O (aU (lc (qg 34) (lc (qg 34) ln))) d246 (λg=>afG g.1 g.2.1 g.t.1)
def aml:EO at7:=λh=>kL (an:= .no) func246 (ai2 (Vx (BN (pU aV)))) aH h
def Df:EP at7:=λh=>kP h
def aDE:bu:=(at7 (aun (are (awl (atv (ago (adb (Ll (Qv (acG (e84 (e43 (e42 (e41 dA))))))))))))))
abbrev aCn:=aK×Int
def d166:Td 0 aCn:= .c [] [6,7] (.r 0 1 (ec 6 (qp 0 0) (ec 7 aP en)) (sb 0 34 (lg 34) sn) (λz=>(z.2.1,z.1.2.1)) (λx=>(((),x.2,()),(x.1,()))))
def abS:∀f∈([84,102,242]:af Nat),bA (aDE) f:=(aA (Df (C9 (CU (Dl (C0 (om (tv (jf (iC (oK (iR (mR (AH (AY bG)))))))))))))) (aA (Df (C9 (CU (Dl (C0 (om (tv (jf (iC (oK (iR (mR (AH (AY bG)))))))))))))) (aA (Df (C9 (CU (Dl (C0 (om (tv (jf (iC (oK (iR (mR (AH (AY bG)))))))))))))) aH)))
def pO(a0:Int)(a1:aK)(a2:aK):aa aCn:=
 match match m84 a1 with|G=>G|V r1=>bif bif r1 then O else J then V J else match m84 a2 with|G=>G|V r2=>bif bif r2 then O else J then V J else V (bif I5 a0 then O else J)with|G=>G|V r3=>bif r3 then V (aK.mk 0 0 0,1)else match bif l9 a1 then V J else V (l9 a2)with|G=>G|V r4=>bif r4 then V (qD,0)else match DZ a1 with|G=>G|V r5=>match DZ a2 with|G=>G|V r6=>if¬r6=0then bif vn (r5<=ak ((4096:Int).tdiv r6))then match Z7 a0 a1 a2 with|G=>G|V r7=>V (r7)else bif vn (a0=8)then match Aj a0 a1 a2 with|G=>G|V r8=>V (r8)else bif vn (a0=9)then match Aj a0 a1 a2 with|G=>G|V r9=>V (r9)else bif vn (a0=10)then match Aj a0 a1 a2 with|G=>G|V r10=>V (r10)else bif vn (a0=11)then bif vn (jN a1.ah 0<jN a1.ag 0)then match bif vn (0<=a1.ah)then V (vn (0<=a2.ah))else V O with|G=>G|V r11=>bif r11 then match j4 0 (jN a1.ag 0) 1with|G=>G|V r12=>V (r12)else match j4 (ak (0-jN a1.ag 0)) (jN a1.ag 0) 1with|G=>G|V r13=>V (r13)else match bif vn (0<=a1.ah)then V (vn (0<=a2.ah))else V O with|G=>G|V r14=>bif r14 then match j4 0 (jN a1.ah 0) 1with|G=>G|V r15=>V (r15)else match j4 (ak (0-jN a1.ah 0)) (jN a1.ah 0) 1with|G=>G|V r16=>V (r16)else bif vn (a0=12)then bif vn (a2.ah<0)then bif vn (0<a2.ag)then match j4 (ak (a2.ah+1)) (ak (a2.ag-1)) 1with|G=>G|V r17=>V (r17)else match j4 (ak (a2.ah+1)) 0 1with|G=>G|V r18=>V (r18)else bif vn (0<a2.ag)then match j4 0 (ak (a2.ag-1)) 1with|G=>G|V r19=>V (r19)else match j4 0 0 1with|G=>G|V r20=>V (r20)else bif vn (a0=21)then match T9 a0 a1.ag a2.ag with|G=>G|V r21=>match nG a1 a2 with|G=>G|V r22=>match m41 r22 r21.fst with|G=>G|V r23=>V (r23,0)else bif vn (a0=22)then match T9 a0 a1.ah a2.ah with|G=>G|V r24=>match nG a1 a2 with|G=>G|V r25=>match m42 r25 (ak (r24.fst-1))with|G=>G|V r26=>V (r26,0)else match afG a0 a1 a2 with|G=>G|V r27=>V (r27,0)else G
def aCk:=eL vp 166 O (aU (lc (qg 34) (lc (qg 34) ln))) d166 (λg=>pO g.1 g.2.1 g.t.1)
def WJ:EO aCk:=λh=>kL (F:=aDE) (an:=(noTwo (.two (.two (.rb [84,102,242] 27) .no) (.two (.two (.rb [84,102,242] 34) .no) (noTwo (.two (noTwo (noTwo (noTwo (noTwo (.two (noTwo (noTwo (.two (.two (.rb [84,102,242] 79) .no) .no))) .no))))) .no)))))) (l:=[(.skip,(.rb [84,102,242] 27)),(.skip,(.rb [84,102,242] 34)),(.skip,(.rb [84,102,242] 79))]) func166 (aml (Lj (am6 (aoe (ajq (AB (sO (lT (nu (Eg (u9 (pU (Un (acT aV)))))))))))))) (aA abS (aA abS (aA abS aH))) h
abbrev OP:=aK
def d87:Td 0 OP:= .c [] [4] (.r 0 1 (ec 4 (qp 0 0) en) (sb 0 34 (lg 34) sn) (λz=>z.2.1) (λx=>(((),()),(x,()))))
def A87:=(lc (qg 147) (lc (qg 137) ln))
def x87(M:aJ->az->aa OP):bu->bu:=eL vp 87 O A87 d87 (λg=>M g.1 g.2.1)
def H87(M:aJ->az->aa OP):Prop:=HL vp 87 A87 d87 (λg=>M g.1 g.2.1)
def aeu{M:aJ->az->aa OP}(hM:H87 M){F:bu}(h:bE vp F):bE vp (x87 M F):=gj (sc:=A9) ei hM ⟨_,func87,aY,aY⟩ (λ_=>aY) (λ_=>aY) h
def F87(M87:aJ->az->aa OP):bu:=(aCk (ZC (aCG (adb (Ll (x87 M87 (e86 (e36 (e32 dA)))))))))
def auJ{M87}(h87:H87 M87):bE vp (F87 M87):=(WJ (BN (amk (sO (lT (aeu h87 (TU (LP (Iy aV)))))))))
structure Jo where
 (t107 t108:Int)
 b0:aJ
 b1:az
 (b2 b3 b4:aK)
def abU:Td 0 Jo:= .c [] [2,3,4,9,11,107,108] (.r 0 5 (ec 2 (qp 0 0) (ec 3 (qp 1 0) (ec 4 (qp 2 0) (ec 9 (qp 3 0) (ec 11 (qp 4 0) (ec 107 aP (ec 108 aP en))))))) (sb 0 147 (lg 147) (sb 1 137 (lg 137) (sb 2 34 (lg 34) (sb 3 34 (lg 34) (sb 4 34 (lg 34) sn))))) (λz=>⟨z.1.q.2.1,z.1.q.t.1,z.2.1,z.t.1,z.t.2.1,z.q.1,z.q.2.1⟩) (λx=>(((),(),(),(),(),x.t107,x.t108,()),(x.b0,x.b1,x.b2,x.b3,x.b4,()))))
def XU(M87:aJ->az->aa OP)(p:Jo):aa (aa Jo):=
 bif vn (p.t108<p.t107)then match m32 p.b3 p.t108 with|G=>G|V r1=>bif r1 then if 0<=ak ((1:Int)+p.t108)/\ak ((1:Int)+p.t108)<zY p.b1.aq then match M87 p.b0 (az.mk p.b1.aq[(ak (1+p.t108)).toNat]!.bF p.b1.aq[(ak (1+p.t108)).toNat]!.fN p.b1.aq[(ak (1+p.t108)).toNat]!.aq)with|G=>G|V r2=>match nG p.b4 r2 with|G=>G|V r3=>V (V (Jo.mk p.t107 (ak (p.t108+1)) p.b0 (az.mk p.b1.bF p.b1.fN p.b1.aq) p.b2 p.b3 r3))else G else V (V (Jo.mk p.t107 (ak (p.t108+1)) p.b0 (az.mk p.b1.bF p.b1.fN p.b1.aq) p.b2 p.b3 p.b4))else V (G)
def Py(M87:aJ->az->aa OP):=bI (XU M87)
def aDq(M87:aJ->az->aa OP):An:=(noTwo (.two (noTwo (noTwo (noTwo (noTwo (noTwo (noTwo (noTwo (noTwo (noTwo (noTwo (.two (noTwo (noTwo (.two (noTwo (abU.lp (Py M87) .no)) .no))) .no))))))))))) .no))
def aF1(M87:aJ->az->aa OP):gv vp (F87 M87) 0 300 87 (aDq M87):=cH (l:=[(bk f87 0,(abU.lp (Py M87) .no))]) func87 (bT aY) aY (aA (aO abU) aH)
def s87(M87:aJ->az->aa OP)(a0:aJ)(a1:az):aa OP:=
 bif vn (a1.bF=0)then V (m36 a1.fN)else bif vn (a1.bF=24)then if 0<=a1.fN/\a1.fN<zY a0.ai then V (a0.ai[a1.fN.toNat]!)else G else bif vn (a1.bF=6)then if(0:Int)<=(0:Int)/\(0:Int)<zY a1.aq then match M87 a0 (az.mk a1.aq[0]!.bF a1.aq[0]!.fN a1.aq[0]!.aq)with|G=>G|V r4=>match ab3 a1.bF r4 with|G=>G|V r5=>V (r5.fst)else G else bif vn (a1.bF=7)then if(0:Int)<=(0:Int)/\(0:Int)<zY a1.aq then match M87 a0 (az.mk a1.aq[0]!.bF a1.aq[0]!.fN a1.aq[0]!.aq)with|G=>G|V r6=>match ab3 a1.bF r6 with|G=>G|V r7=>V (r7.fst)else G else bif vn (a1.bF=23)then if(0:Int)<=(0:Int)/\(0:Int)<zY a1.aq then match M87 a0 (az.mk a1.aq[0]!.bF a1.aq[0]!.fN a1.aq[0]!.aq)with|G=>G|V r8=>match Fe r8 with|G=>G|V r9=>bif bif r9.fst then O else J then if(0:Int)<=(1:Int)/\(1:Int)<zY a1.aq then match M87 a0 (az.mk a1.aq[1]!.bF a1.aq[1]!.fN a1.aq[1]!.aq)with|G=>G|V r10=>V (r10)else G else bif bif r9.snd then O else J then if(0:Int)<=(2:Int)/\(2:Int)<zY a1.aq then match M87 a0 (az.mk a1.aq[2]!.bF a1.aq[2]!.fN a1.aq[2]!.aq)with|G=>G|V r11=>V (r11)else G else if(0:Int)<=(1:Int)/\(1:Int)<zY a1.aq then match M87 a0 (az.mk a1.aq[1]!.bF a1.aq[1]!.fN a1.aq[1]!.aq)with|G=>G|V r12=>if(0:Int)<=(2:Int)/\(2:Int)<zY a1.aq then match M87 a0 (az.mk a1.aq[2]!.bF a1.aq[2]!.fN a1.aq[2]!.aq)with|G=>G|V r13=>match nG r12 r13 with|G=>G|V r14=>V (r14)else G else G else G else bif vn (a1.bF=25)then if(0:Int)<=(0:Int)/\(0:Int)<zY a1.aq then match M87 a0 (az.mk a1.aq[0]!.bF a1.aq[0]!.fN a1.aq[0]!.aq)with|G=>G|V r15=>match m86 r15 0 (ak ((zY a1.aq:Int)-2))with|G=>G|V r16=>match Py M87 (Jo.mk (ak ((zY a1.aq:Int)-1)) 0 a0 (az.mk a1.bF a1.fN a1.aq) (aK.mk 0 0 0) r16.fst qD)with|G=>G|V r17=>bif vn (r17.t108<r17.t107)then match m32 r17.b3 r17.t108 with|G=>G|V r18=>bif r18 then if 0<=ak ((1:Int)+r17.t108)/\ak ((1:Int)+r17.t108)<zY r17.b1.aq then match M87 r17.b0 (az.mk r17.b1.aq[(ak (1+r17.t108)).toNat]!.bF r17.b1.aq[(ak (1+r17.t108)).toNat]!.fN r17.b1.aq[(ak (1+r17.t108)).toNat]!.aq)with|G=>G|V r19=>match nG r17.b4 r19 with|G=>G|V r20=>G else G else G else V (r17.b4)else G else if(0:Int)<=(0:Int)/\(0:Int)<zY a1.aq then match M87 a0 (az.mk a1.aq[0]!.bF a1.aq[0]!.fN a1.aq[0]!.aq)with|G=>G|V r21=>if(0:Int)<=(1:Int)/\(1:Int)<zY a1.aq then match M87 a0 (az.mk a1.aq[1]!.bF a1.aq[1]!.fN a1.aq[1]!.aq)with|G=>G|V r22=>match pO a1.bF r21 r22 with|G=>G|V r23=>V (r23.fst)else G else G
def c87(M87:aJ->az->aa OP)(a0:aJ)(a1:az):bZ vp (F87 M87) 300 (aDq M87) 87 (A87.c (a0,a1,())) [] 0 d87.rd=s87 M87 a0 a1:=aY
def azj:Nat->(aJ->az->aa OP)
 |0=>(λ_ _=>G)
 |n+1=>(s87 (azj n))
def m87(n:Nat):aJ->az->aa OP:=(azj n)
def WA:∀n,H87 (m87 n)
 |0=>λ_ _ h=>(by cases h)
 |n+1=>by
  have ih:=WA n;have i87:=ih;exact(fe (auJ i87) (aF1 (m87 n)) (λ_=>aY) (λ_=>aY) λg=>c87 (m87 n) g.1 g.2.1)
def RJ:aJ->az->aa OP:=λa0 a1=>lim (λn=>m87 n a0 a1)
def atg:H87 RJ:=λg b h=>by
 obtain⟨n,hn⟩:=dz (show lim (λn=>m87 n g.1 g.2.1)=V b from h);exact(WA n) g b hn
def e87(F:bu):bu:=x87 RJ F
def Uw{F:bu}(h:bE vp F):bE vp (e87 F):=aeu atg h
end Go.Proofs.YtnfljbehcffmcaaGreat
end
noncomputable section
namespace Go.Iv
open Go
variable [U:EY] [L:DX]
def aL{n:Int}(h1: -9223372036854775808<=n:=by omega)(h2:n<9223372036854775808:=by omega):ak n=n:=by
 simp[ak,bJ,IntKind.wrap,IntKind.bits,IntKind.signed];omega
def PB{γ:Type}{rnd:γ->aa (aa γ)}(f:Nat->γ)(n:Nat)(h1:∀i,i<n->rnd (f i)=V (V (f (i+1))))(h2:∀r,rnd (f n)≠V (V r)):bI rnd (f 0)=V (f n):=by
 have key:∀k i,i+k=n->bI rnd (f i)=V (f n):=by
  intro k;induction k with
  |zero=>
   intro i hi;have:i=n:=au
   subst this;exact cq h2
  |succ k ih=>intro i hi;rw[bP (h1 i au)];exact ih (i+1) au
 simp_all
def lG{α β ρ:Type}(step:β->α->aa β)(ret:β->α->ρ)(fin:β->ρ):af α->β->ρ
 |[],b=>fin b
 |x::xs,b=>match step b x with
  |some b'=>lG step ret fin xs b'
  |none=>ret b x
def Jn{γ α β ρ:Type}{rnd:γ->aa (aa γ)}(l:af α)(mk:Nat->β->γ)(step:β->α->aa β)(ret:β->α->ρ)(fin:β->ρ)(I:Nat->β->Prop)
  (h1:∀i b (hi:i<zY l),I i b->∀b',step b l[i]=V b'->rnd (mk i b)=V (V (mk (i+1) b'))/\I (i+1) b')
  (h2:∀i b (hi:i<zY l),I i b->step b l[i]=G->∀r,rnd (mk i b)≠V (V r)) (h3:∀b,I (zY l) b->∀r,rnd (mk (zY l) b)≠V (V r)) {b:β} (hb:I 0 b):
  ∃i v,i<=zY l/\bI rnd (mk 0 b)=V (mk i v)/\I i v/\((i=zY l/\lG step ret fin l b=fin v)\/∃hi:i<zY l,step v l[i]=G/\lG step ret fin l b=ret v l[i]):=by
 have key:∀(xs:af α) (i:Nat) (b:β),l.drop i=xs->i<=zY l->I i b->∃j v,j<=zY l/\bI rnd (mk i b)=V (mk j v)/\I j v/\((j=zY l/\lG step ret fin xs b=fin v)\/∃hi:j<zY l,step v l[j]=G/\lG step ret fin xs b=ret v l[j]):=by
  intro xs;induction xs with
  |nil=>
   intro i b hd hi hb;have:i=zY l:=by have:=congrArg zY hd;simp at this;omega
   subst this;exact⟨_,b,zl _,cq (h3 b hb),hb, .inl ⟨rfl,rfl⟩⟩
  |cons x xs ih=>
   intro i b hd hi hb;have hil:i<zY l:=by have:=congrArg zY hd;simp at this;omega
   have hx:l[i]=x:=by
    have:=congrArg List.head? hd;rw[List.head?_drop,zm hil]at this;simp_all
   have hd':l.drop (i+1)=xs:=by
    have:=congrArg List.tail hd;rw[List.tail_drop]at this
    assumption
   cases hs:step b x with
   |some b'=>
    obtain⟨q1,q2⟩:=h1 i b hil hb b' (by rw[hx];exact hs);obtain⟨j,v,e1,e2,e3,e4⟩:=ih (i+1) b' hd' hil q2;have er:lG step ret fin (x::xs) b=lG step ret fin xs b':=by simp only[lG,hs]
    exact⟨j,v,e1,by rw[bP q1];exact e2,e3,by rw[er];exact e4⟩
   |none=>
    have er:lG step ret fin (x::xs) b=ret b x:=by simp only[lG,hs]
    exact⟨i,b,hi,cq (h2 i b hil hb (by rw[hx];exact hs)),hb, .inr ⟨hil,by rw[hx];exact hs,by rw[er,hx]⟩⟩
 exact key l 0 b rfl (yU _) hb
end Go.Iv
end
noncomputable section
set_option maxRecDepth 100000
namespace Go.Proofs.YtnfljbehcffmcaaGreat
open Go Go.Iv
open Go.IntKind (i64 u64)
def gU{n:Int}(h1:0<=n:=by omega)(h2:n<18446744073709551616:=by omega):bJ n=n:=by
 simp only[ak,bJ,IntKind.wrap,IntKind.signed,IntKind.bits]at*;simp;omega
def Tu(n:Int):bJ n=n%18446744073709551616:=by
 simp only[ak,bJ,IntKind.wrap,IntKind.signed,IntKind.bits]at*;simp
structure ig (y1 y0 u d q r:Int):Prop where
 r0:0<=r
 r1:r<4294967296
 q0:0<=q
 q1:q<=4294967297
 e:u=q*y1+r
 hi:u*4294967296+d<(q+1)*(y1*4294967296+y0)
 top:q=4294967297->r+y1<4294967296
structure tW (y1 y0 u d:Int):Prop where
 ha:2147483648<=y1
 hb:y1<4294967296
 hc:0<=y0
 hd:y0<4294967296
 he:0<=u
 hf:u<y1*4294967296+y0
 hg:0<=d
 hh:d<4294967296
def ig.start{y1 y0 u d:Int}(h:tW y1 y0 u d):ig y1 y0 u d (u/y1) (u%y1):=by
 obtain⟨ha,hb,hc,hd,he,hf,hg,hh⟩:=h;have e1:=yW u y1;have m0:=yX u (b:=y1) au;have m1:=y6 u (b:=y1) au;have q0:0<=u/y1:=zS he au;have q1:u/y1<=4294967297:=by
  have:u/y1<4294967298:=wZ au au;omega
 rw[zQ]at e1;refine⟨m0,au,q0,q1,au,?_,λhq=> ?_⟩
 ·have k1:(u/y1+1)*(y1*4294967296+y0)=((u/y1)*y1)*4294967296+y1*4294967296+(u/y1)*y0+y0:=by
   rw[zU,xF,yc,yb];omega
  have k2:0<=u/y1*y0:=zJ q0 hc;rw[k1];omega
 ·rw[hq]at e1;omega
def ig.stop{y1 y0 u d q r:Int}(H:tW y1 y0 u d)(h:ig y1 y0 u d q r)(h1:q<4294967296)(h2:¬4294967296*r+d<q*y0):q*(y1*4294967296+y0)<=u*4294967296+d:=by
 have k:q*(y1*4294967296+y0)=(q*y1)*4294967296+q*y0:=by rw[xF,yb]
 have:=h.e;rw[k];omega
def ig.big{y1 y0 u d q r:Int}(H:tW y1 y0 u d)(h:ig y1 y0 u d q r)(h1:4294967296<=q\/4294967296*r+d<q*y0):u*4294967296+d<q*(y1*4294967296+y0):=by
 have k:q*(y1*4294967296+y0)=(q*y1)*4294967296+q*y0:=by rw[xF,yb]
 have e:=h.e;rcases h1 with h1|h1
 ·have k2:4294967296*(y1*4294967296+y0)<=q*(y1*4294967296+y0):=zN h1 (by have:=H.ha;have:=H.hc;omega);have:=H.hf;have:=H.hh;omega
 ·rw[k];omega
def ig.pos{y1 y0 u d q r:Int}(H:tW y1 y0 u d)(h:ig y1 y0 u d q r)(h1:4294967296<=q\/4294967296*r+d<q*y0):1<=q:=by
 have k:=ig.big H h h1;have:=h.q0;rcases (show q=0\/1<=q by omega)with rfl|h2
 ·rw[Int.zero_mul]at k;have:=H.he;have:=H.hg;omega
 ·exact h2
def ig.next{y1 y0 u d q r:Int}(H:tW y1 y0 u d)(h:ig y1 y0 u d q r)(h1:4294967296<=q\/4294967296*r+d<q*y0)(h2:r+y1<4294967296):ig y1 y0 u d (q-1) (r+y1):=by
 have hb:=ig.big H h h1;have hp:=ig.pos H h h1;have:=H.ha;have:=h.r0;have:=h.q1;refine⟨au,h2,au,au,?_,?_,λhq=>au⟩
 ·rw[yD,yc];have:=h.e;omega
 ·rw[show q-1+1=q by omega];exact hb
def ig.brk{y1 y0 u d q r:Int}(H:tW y1 y0 u d)(h:ig y1 y0 u d q r)(h1:4294967296<=q\/4294967296*r+d<q*y0)(h2:4294967296<=r+y1):(q-1)*(y1*4294967296+y0)<=u*4294967296+d:=by
 have hp:=ig.pos H h h1;have hq:q<=4294967296:=by
  have:=h.q1;have:=h.top;omega
 have k:(q-1)*(y1*4294967296+y0)=(q*y1)*4294967296-y1*4294967296+(q-1)*y0:=by
  rw[xF,<-yb,yD q 1 y1,yc,yD]
 have k2:(q-1)*y0<=4294967296*y0:=zN au H.hc;have:=h.e;have:=H.hd;have:=H.hg;rw[k];omega
def Qd(y1 y0 u d q:Int):Prop:=0<=q/\q<=4294967297/\q*(y1*4294967296+y0)<=u*4294967296+d/\u*4294967296+d<(q+1)*(y1*4294967296+y0)
def ig.y0q{y1 y0 u d q r:Int}(H:tW y1 y0 u d)(h:ig y1 y0 u d q r)(h1:q<4294967296):bJ (q*y0)=q*y0:=by
 have k1:0<=q*y0:=zJ h.q0 H.hc;have k2:q*y0<=4294967295*y0:=zN au H.hc;have:=H.hd;exact gU k1 au
def ig.rr{y1 y0 u d q r:Int}(H:tW y1 y0 u d)(h:ig y1 y0 u d q r):bJ (bJ (4294967296*r)+d)=4294967296*r+d:=by
 have:=h.r0;have:=h.r1;have:=H.hg;have:=H.hh;rw[gU (n:=4294967296*r),gU]
def ig.cnd{y1 y0 u d q r:Int}(H:tW y1 y0 u d)(h:ig y1 y0 u d q r):(bif vn (4294967296<=q)then V J else V (vn (bJ (bJ (4294967296*r)+d)<bJ (q*y0))))=V (vn (4294967296<=q\/4294967296*r+d<q*y0)):=by
 by_cases hq:4294967296<=q
 ·rw[bX hq,bX (Or.inl hq),cK]
 ·rw[bW hq,ct,ig.rr H h,ig.y0q H h au];by_cases hc:4294967296*r+d<q*y0
  ·rw[bX hc,bX (Or.inr hc)]
  ·rw[bW hc,bW (λk=>k.elim hq hc)]
def ig.done{y1 y0 u d q r:Int}(H:tW y1 y0 u d)(h:ig y1 y0 u d q r)(hr:4294967296<=q\/4294967296*r+d<q*y0->4294967296<=r+y1):Qd y1 y0 u d (bif vn (4294967296<=q\/4294967296*r+d<q*y0)then q-1 else q):=by
 have h0:=h.q0;have h1:=h.q1;by_cases hc:4294967296<=q\/4294967296*r+d<q*y0
 ·rw[bX hc,cK];have:=ig.pos H h hc;refine⟨au,au,ig.brk H h hc (hr hc),?_⟩;rw[show q-1+1=q by omega];exact ig.big H h hc
 ·rw[bW hc,ct];exact⟨h0,au,ig.stop H h au (λk=>hc (.inr k)),h.hi⟩
def ig.wr1{y1 y0 u d q r:Int}(H:tW y1 y0 u d)(h:ig y1 y0 u d q r):bJ (r+y1)=r+y1:=by
 have:=h.r0;have:=h.r1;have:=H.ha;have:=H.hb;exact gU
def ig.wq1{y1 y0 u d q r:Int}(H:tW y1 y0 u d)(h:ig y1 y0 u d q r)(hc:4294967296<=q\/4294967296*r+d<q*y0):bJ (q-1)=q-1:=by
 have:=h.q1;have:=ig.pos H h hc;exact gU
def ae5{y s y1 y0 u d e q r:Int}(H:tW y1 y0 u d)(h:ig y1 y0 u d q r):∃q' r',MC (mT.mk y s y1 y0 u d e q r)=V (mT.mk y s y1 y0 u d e q' r')/\ig y1 y0 u d q' r'/\(4294967296<=q'\/4294967296*r'+d<q'*y0->4294967296<=r'+y1):=by
 obtain⟨z,e1,⟨q',r',rfl,hI⟩,hs⟩:=mQ (rnd:=CA) (λp=>∃q r,p=mT.mk y s y1 y0 u d e q r/\ig y1 y0 u d q r) (λp=>zq p.t15) (λp p' ⟨q,r,hp,hI⟩ hn=>by
  subst hp;have hn:CA (mT.mk y s y1 y0 u d e q r)=V (V p'):=hn;simp only[CA,B7]at hn;rw[ig.cnd H hI]at hn;by_cases hc:4294967296<=q\/4294967296*r+d<q*y0
  ·rw[bX hc]at hn;simp only[cK,ig.wr1 H hI,ig.wq1 H hI hc]at hn;by_cases hb:4294967296<=r+y1
   ·rw[bX hb]at hn;cases hn
   ·rw[bW hb]at hn;simp only[ct,zF.injEq]at hn;have hp:=ig.pos H hI hc;subst hn;exact⟨⟨q-1,r+y1,rfl,ig.next H hI hc au⟩,by show (q-1).toNat<q.toNat;omega⟩
  ·rw[bW hc]at hn;cases hn) ⟨q,r,rfl,h⟩
 refine⟨q',r',e1,hI,λhc=> ?_⟩;by_cases hb:4294967296<=r'+y1
 ·exact hb
 ·exact dU (show CA _=V (V _)by
   simp only[CA,B7];rw[ig.cnd H hI,bX hc];simp only[cK,ig.wr1 H hI];rw[bW hb];rfl) (hs _)
def N2{y s y1 y0 u d e q r:Int}(H:tW y1 y0 u d)(h:ig y1 y0 u d q r):∃q' r',FV (lB.mk y s y1 y0 d e r u q)=V (lB.mk y s y1 y0 d e r' u q')/\ig y1 y0 u d q' r'/\(4294967296<=q'\/4294967296*r'+d<q'*y0->4294967296<=r'+y1):=by
 obtain⟨z,e1,⟨q',r',rfl,hI⟩,hs⟩:=mQ (rnd:=C3) (λp=>∃q r,p=lB.mk y s y1 y0 d e r u q/\ig y1 y0 u d q r) (λp=>zq p.t18) (λp p' ⟨q,r,hp,hI⟩ hn=>by
  subst hp;have hn:C3 (lB.mk y s y1 y0 d e r u q)=V (V p'):=hn;simp only[C3,vY]at hn;rw[ig.cnd H hI]at hn;by_cases hc:4294967296<=q\/4294967296*r+d<q*y0
  ·rw[bX hc]at hn;simp only[cK,ig.wr1 H hI,ig.wq1 H hI hc]at hn;by_cases hb:4294967296<=r+y1
   ·rw[bX hb]at hn;cases hn
   ·rw[bW hb]at hn;simp only[ct,zF.injEq]at hn;have hp:=ig.pos H hI hc;subst hn;exact⟨⟨q-1,r+y1,rfl,ig.next H hI hc au⟩,by show (q-1).toNat<q.toNat;omega⟩
  ·rw[bW hc]at hn;cases hn) ⟨q,r,rfl,h⟩
 refine⟨q',r',e1,hI,λhc=> ?_⟩;by_cases hb:4294967296<=r'+y1
 ·exact hb
 ·exact dU (show C3 _=V (V _)by
   simp only[C3,vY];rw[ig.cnd H hI,bX hc];simp only[cK,ig.wr1 H hI];rw[bW hb];rfl) (hs _)
def aqe{n:Int}(h1:0<=n)(h2:n<256):IntKind.u8.wrap n=n:=by
 simp only[ak,bJ,IntKind.wrap,IntKind.signed,IntKind.bits]at*;simp;omega
def acQ{x:Int}(k:Nat)(hk:k<=64):cT u64 x (k:Int)=x/2^k:=by
 unfold cT;rw[show min ((k:Int)).toNat u64.bits=k from by simp only[zg,IntKind.bits];omega];exact Int.fdiv_eq_ediv_of_nonneg _ (xU (Int.pow_pos au))
def aqN(i:Nat):Bool:=i==0||((zH 9).any λt=>(mG.data[i]!).toNat==t&&vn (1<=t)&&vn (2^(t-1)<=i)&&vn (i<2^t))
def alG:(zH 256).all aqN=J:=aY
def ajk{x:Int}(h1:1<=x)(h2:x<256):∃t:Nat,1<=t/\t<=8/\di mG (IntKind.u8.wrap x).toNat=(t:Int)/\2^(t-1)<=x/\x<2^t:=by
 rw[aqe au h2];have h:=zw.mp alG x.toNat (List.mem_range.mpr au);simp only[aqN,yC,beq_iff_eq,wN,List.mem_range,zi,decide_eq_true_eq]at h;rcases h with h|⟨t,ht,⟨⟨h3,h4⟩,h5⟩,h6⟩
 ·omega
 ·have h5':((2^(t-1):Nat):Int)<=(x.toNat:Int):=Int.ofNat_le.mpr h5;have h6':((x.toNat:Nat):Int)<((2^t:Nat):Int):=Int.ofNat_lt.mpr h6;rw[Int.toNat_of_nonneg au,Int.natCast_pow]at h5' h6';exact⟨t,h4,au,by unfold di;rw[h3],h5',h6'⟩
def ado{a x:Int}{n t:Nat}(h1:1<=t)(h2:t<=8)(hx1:2^(t-1)<=x)(hx2:x<2^t)(hn:n<=56)(ha1:x*2^n<=a)(ha2:a<(x+1)*2^n):
  2^63<=a*2^(64-(n+t))/\a*2^(64-(n+t))<2^64:=by
 have p0:∀k:Nat,(0:Int)<2^k:=λk=>Int.pow_pos au;have e1:(2:Int)^63=2^(t-1)*2^n*2^(64-(n+t)):=by
  rw[<-Int.pow_add,<-Int.pow_add];congr 1;omega
 have e2:(2:Int)^64=2^t*2^n*2^(64-(n+t)):=by
  rw[<-Int.pow_add,<-Int.pow_add];congr 1;omega
 rw[e1,e2];refine⟨zN (xV (zN hx1 (xU (p0 n))) ha1) (xU (p0 _)),?_⟩;refine Int.mul_lt_mul_of_pos_right (Int.lt_of_lt_of_le ha2 ?_) (p0 _);exact zN au (xU (p0 n))
def Vp(x:Int):cT u64 x 32=x/4294967296:=acQ (x:=x) 32 au
def aCJ(x:Int):cT u64 x 16=x/65536:=acQ (x:=x) 16 au
def aGq(x:Int):cT u64 x 8=x/256:=acQ (x:=x) 8 au
def ac4(a:Int)(r:aa Int):Prop:=∃s:Nat,s<=63/\(match r with|G=>G|V r1=>V (ak (64-r1)))=V (s:Int)/\2^63<=a*2^s/\a*2^s<2^64
def jq{a x:Int}(n:Nat)(hn:n<=56)(hx1:1<=x)(hx2:x<256)(ha1:x*2^n<=a)(ha2:a<(x+1)*2^n):
  ac4 a (if(0:Int)<=IntKind.u8.wrap x/\IntKind.u8.wrap x<(256:Int)then V (ak ((n:Int)+ak (di mG (IntKind.u8.wrap x).toNat)))else G):=by
 obtain⟨t,h1,h2,h3,h4,h5⟩:=ajk hx1 hx2;rw[bC (by rw[aqe au hx2];omega),h3];refine⟨64-(n+t),au,?_,ado h1 h2 h4 h5 hn ha1 ha2⟩;rw[aL (n:=(t:Int)),aL (n:=(n:Int)+t)];show V _=_;rw[aL]
 congr 1
 omega
def ame{a:Int}(h1:1<=a)(h2:a<18446744073709551616):∃s:Nat,s<=63/\awh a=V (s:Int)/\2^63<=a*2^s/\a*2^s<2^64:=by
 show ac4 a (aiP a);unfold aiP;simp only[Vp,aCJ,aGq];by_cases c1:4294967296<=a
 ·rw[bX c1,cK];by_cases c2:65536<=a/4294967296
  ·rw[bX c2,cK];by_cases c3:256<=a/4294967296/65536
   ·rw[bX c3,cK];exact jq 56 au au au au au
   ·rw[bW c3,ct];exact jq 48 au au au au au
  ·rw[bW c2,ct];by_cases c3:256<=a/4294967296
   ·rw[bX c3,cK];exact jq 40 au au au au au
   ·rw[bW c3,ct];exact jq 32 au au au au au
 ·rw[bW c1,ct];by_cases c2:65536<=a
  ·rw[bX c2,cK];by_cases c3:256<=a/65536
   ·rw[bX c3,cK];exact jq 24 au au au au au
   ·rw[bW c3,ct];exact jq 16 au au au au au
  ·rw[bW c2,ct];by_cases c3:256<=a
   ·rw[bX c3,cK];exact jq 8 au au au au au
   ·rw[bW c3,ct];exact jq 0 au au au au au
def avX{x:Int}(k:Nat)(hk:k<=64):n9 u64 x (k:Int)=(x*2^k)%18446744073709551616:=by
 unfold n9;rw[show min ((k:Int)).toNat u64.bits=k from by simp only[zg,IntKind.bits];omega];exact Tu _
def Mo{x:Int}(h1:0<=x)(h2:x<18446744073709551616):(BitVec.ofInt 64 x).toNat=x.toNat:=by
 rw[BitVec.toNat_ofInt]
 congr 1
 omega
def aeE{x:Int}(h1:0<=x)(h2:x<18446744073709551616):vO u64 x 4294967295=x%4294967296:=by
 unfold vO;show bJ ((BitVec.ofInt 64 x&&&BitVec.ofInt 64 4294967295).toNat:Int)=_;rw[BitVec.toNat_and,Mo h1 h2,Mo au au,show (4294967295:Int).toNat=2^32-1 from rfl,Nat.and_two_pow_sub_one_eq_mod,gU];omega
def orU{a b:Nat}{k:Nat}(hb:b<2^k)(h:2^k*a+b<18446744073709551616):bOr u64 ((2^k*a:Nat):Int) (b:Int)=((2^k*a+b:Nat):Int):=by
 unfold bOr;show bJ ((BitVec.ofInt 64 ((2^k*a:Nat):Int)|||BitVec.ofInt 64 (b:Int)).toNat:Int)=_;rw[BitVec.toNat_or,Mo au au,Mo au au,zg,zg,<-Nat.two_pow_add_eq_or_of_lt hb,gU]
def kK{a b:Int}(h1:0<=a:=by omega):a.tdiv b=a/b:=Int.tdiv_eq_ediv_of_nonneg h1
def lD{a b:Int}(h1:0<=a:=by omega):a.tmod b=a%b:=Int.tmod_eq_emod_of_nonneg h1
def wq0{u y1:Int}(h1:0<=u)(h2:u<18446744073709551616)(h3:2<=y1):bJ (u.tdiv y1)=u/y1:=by
 rw[kK h1];have:u/y1<=u:=yl _ h1;exact gU (zS h1 au) au
def wr0{u y1:Int}(h1:0<=u)(h2:u<18446744073709551616)(h3:2<=y1):bJ (u-bJ (u/y1*y1))=u%y1:=by
 have e:=yW u y1;have m0:=yX u (b:=y1) au;rw[zQ]at e;have q0:0<=u/y1*y1:=zJ (zS h1 au) au;rw[gU (n:=u/y1*y1) q0 au,gU];omega
def aqY{u d q y:Int}(h1:q*y<=u*4294967296+d)(h2:u*4294967296+d<(q+1)*y)(hy:y<18446744073709551616):
  bJ (bJ (bJ (u*4294967296)+d)-bJ (q*y))=u*4294967296+d-q*y:=by
 rw[zU,yc]at h2;generalize q*y=z at*;simp only[Tu];omega
def atf{hi lo y:Int}(h0:0<=hi)(h1:hi<y)(h2:y<18446744073709551616)(h3:0<=lo)(h4:lo<18446744073709551616):∃q,ad7 hi lo y=V (q,(hi*18446744073709551616+lo)%y):=by
 by_cases hz:hi=0
 ·subst hz;refine⟨bJ (lo.tdiv y),?_⟩;unfold ad7 B7 vY;rw[fE,fE,bX rfl,ct,ct,cK,gM,gM,lD h3];rw[show (0:Int)*18446744073709551616+lo=lo by omega]
 obtain⟨s,hs,es,b1,b2⟩:=ame (a:=y) au h2;have hP:(0:Int)<2^s:=Int.pow_pos au;have hQ:(0:Int)<2^(64-s):=Int.pow_pos au;have hPQ:(2:Int)^(64-s)*2^s=18446744073709551616:=by rw[<-Int.pow_add,show 64-s+s=64 by omega];rfl
 have b1:(9223372036854775808:Int)<=y*2^s:=b1;have b2:y*2^s<18446744073709551616:=b2;have eY:n9 u64 y (s:Int)=y*2^s:=by rw[avX s au,Int.emod_eq_of_lt au b2]
 have lb:lo/2^(64-s)<2^s:=wZ hQ (by rw[zQ,hPQ];exact h4);have lb0:0<=lo/2^(64-s):=zS h3 au;have hy1:(hi+1)*2^s<=y*2^s:=zN au au;have hy2:(hi+1)*2^s=hi*2^s+2^s:=by rw[zU,yc]
 have hp0:0<=hi*2^s:=zJ h0 au;have eU:bOr u64 (n9 u64 hi (s:Int)) (cT u64 lo (bJ (64-(s:Int))))=hi*2^s+lo/2^(64-s):=by
  rw[avX s au,Int.emod_eq_of_lt hp0 au,gU (n:=64-(s:Int)),show (64-(s:Int))=((64-s:Nat):Int)by omega,acQ (64-s) au];obtain⟨a,rfl⟩:=w9 h0;obtain⟨b,hb⟩:=w9 lb0;rw[hb]at lb ⊢;have e:(a:Int)*2^s=((2^s*a:Nat):Int):=by rw[wK,Int.natCast_pow,zQ];rfl
  have lb':b<2^s:=by
   have:((b:Nat):Int)<((2^s:Nat):Int):=by rw[Int.natCast_pow];exact lb
   exact Int.ofNat_lt.mp this
  rw[e]at hp0 hy2 ⊢;rw[orU lb' au];omega
 have eD:n9 u64 lo (s:Int)=(lo*2^s)%18446744073709551616:=avX s au;have key:(hi*18446744073709551616+lo)*2^s=(hi*2^s+lo/2^(64-s))*18446744073709551616+(lo*2^s)%18446744073709551616:=by
  have k1:=yW (lo*2^s) 18446744073709551616;have k2:lo*2^s/18446744073709551616=lo/2^(64-s):=by rw[<-hPQ];exact Int.mul_ediv_mul_of_pos_left _ _ hP
  rw[k2]at k1;rw[zU,yb,zQ 18446744073709551616 (2^s),<-yb];omega
 have hD0:0<=(lo*2^s)%18446744073709551616:=au;have hD1:(lo*2^s)%18446744073709551616<18446744073709551616:=au;have hU0:0<=hi*2^s+lo/2^(64-s):=au;have hU1:hi*2^s+lo/2^(64-s)<y*2^s:=au;have res:∀Q,Q*(y*2^s)<=(hi*18446744073709551616+lo)*2^s->(hi*18446744073709551616+lo)*2^s<(Q+1)*(y*2^s)->((hi*18446744073709551616+lo)*2^s-Q*(y*2^s))/2^s=(hi*18446744073709551616+lo)%y:=λQ q1 q2=>by
  rw[<-yb,<-yD,Int.mul_ediv_cancel _ au];rw[<-yb]at q1 q2;have q1:=Int.le_of_mul_le_mul_right q1 hP;have q2:=wO q2 (xU hP);rw[zU,yc]at q2;have e:=yW (hi*18446744073709551616+lo) y;generalize hi*18446744073709551616+lo=X at*;have:X/y=Q:=by
   apply Int.le_antisymm
   ·have:X/y<Q+1:=wZ au (by rw[zU,yc];exact q2);omega
   ·exact Int.le_ediv_of_mul_le au q1
  rw[this,zQ]at e;omega
 rw[key]at res;unfold ad7 B7 vY;rw[bW (show ¬y=0 by omega),bW (show ¬y<=hi by omega),bW hz,ct,ct,ct,es];simp only[gU (n:=(s:Int))];rw[eY,eU,eD,gU (n:=64-(s:Int)),gM,gM,gM,gM];generalize hi*2^s+lo/2^(64-s)=U at*;generalize (lo*2^s)%18446744073709551616=D at*;generalize y*2^s=Y at*;clear eY eU eD key hy1 hy2 hp0 lb lb0 hPQ hQ h1 hz;have eY1:Y/4294967296*4294967296+Y%4294967296=Y:=au;have H0:tW (Y/4294967296) (Y%4294967296) U (D/4294967296):=⟨au,au,au,au,hU0,au,au,au⟩;have hU2:U<18446744073709551616:=au;rw[Vp,Vp,aeE hD0 hD1,aeE au b2,gM,wq0 hU0 hU2 au,wr0 hU0 hU2 au];obtain⟨q1,r1,e1,I1,s1⟩:=ae5 (y:=Y) (s:=(s:Int)) (e:=D%4294967296) H0 (ig.start H0);rw[e1];have D1:=ig.done H0 I1 s1;simp only[ig.cnd H0 I1,ig.wr1 H0 I1];have second:∀Q1,Qd (Y/4294967296) (Y%4294967296) U (D/4294967296) Q1->∃W,tW (Y/4294967296) (Y%4294967296) W (D%4294967296)/\bJ (bJ (bJ (U*4294967296)+D/4294967296)-bJ (Q1*Y))=W/\W=U*4294967296+D/4294967296-Q1*Y/\0<=W/\W<Y:=λQ1 hk=>by
  unfold Qd at hk;rw[eY1]at hk;obtain⟨k0,k1,k2,k3⟩:=hk;have k4:=k3;rw[zU,yc]at k4;exact⟨_,⟨au,au,au,au,au,au,au,au⟩,aqY k2 k3 b2,rfl,au,au⟩
 have fin:∀Q1 Q2 W,W=U*4294967296+D/4294967296-Q1*Y->Qd (Y/4294967296) (Y%4294967296) W (D%4294967296) Q2->cT u64 (bJ (bJ (bJ (W*4294967296)+D%4294967296)-bJ (Q2*Y))) (s:Int)=(hi*18446744073709551616+lo)%y:=λQ1 Q2 W hW hk=>by
  unfold Qd at hk;rw[eY1]at hk;obtain⟨k0,k1,k2,k3⟩:=hk;rw[aqY k2 k3 b2,acQ s au];have e:U*18446744073709551616+D=W*4294967296+D%4294967296+Q1*4294967296*Y:=by
   rw[hW,yb,zQ 4294967296 Y,<-yb];omega
  rw[<-res (Q1*4294967296+Q2)]
  ·congr 1
   rw[zU];omega
  ·rw[zU];omega
  ·rw[zU,yc]at k3;rw[Int.add_assoc,zU,zU Q2,yc];omega
 by_cases c1:4294967296<=q1\/4294967296*r1+D/4294967296<q1*(Y%4294967296)
 ·rw[bX c1]at D1 ⊢;rw[cK]at D1;rw[cK,bX (s1 c1),cK,gM,ig.wq1 H0 I1 c1];obtain⟨W,H1,w1,w2,w3,w4⟩:=second _ D1;rw[w1,wq0 w3 au au,wr0 w3 au au];obtain⟨q2,r2,e2,I2,s2⟩:=N2 (y:=Y) (s:=(s:Int)) (e:=q1-1) H1 (ig.start H1);rw[e2];have D2:=ig.done H1 I2 s2;simp only[ig.cnd H1 I2,ig.wr1 H1 I2];by_cases c2:4294967296<=q2\/4294967296*r2+D%4294967296<q2*(Y%4294967296)
  ·rw[bX c2]at D2 ⊢;rw[cK]at D2;rw[cK,bX (s2 c2),cK,gM,ig.wq1 H1 I2 c2,fin _ _ W w2 D2];exact⟨_,rfl⟩
  ·rw[bW c2]at D2 ⊢;rw[ct]at D2;rw[ct,gM,fin _ _ W w2 D2];exact⟨_,rfl⟩
 ·rw[bW c1]at D1 ⊢;rw[ct]at D1;rw[ct,gM];obtain⟨W,H1,w1,w2,w3,w4⟩:=second _ D1;rw[w1,wq0 w3 au au,wr0 w3 au au];obtain⟨q2,r2,e2,I2,s2⟩:=N2 (y:=Y) (s:=(s:Int)) (e:=q1) H1 (ig.start H1);rw[e2];have D2:=ig.done H1 I2 s2;simp only[ig.cnd H1 I2,ig.wr1 H1 I2];by_cases c2:4294967296<=q2\/4294967296*r2+D%4294967296<q2*(Y%4294967296)
  ·rw[bX c2]at D2 ⊢;rw[cK]at D2;rw[cK,bX (s2 c2),cK,gM,ig.wq1 H1 I2 c2,fin _ _ W w2 D2];exact⟨_,rfl⟩
  ·rw[bW c2]at D2 ⊢;rw[ct]at D2;rw[ct,gM,fin _ _ W w2 D2];exact⟨_,rfl⟩
def mul_lt{a b m n:Int}(h1:0<=a)(h2:a<=m)(h3:0<=b)(h4:b<=n):0<=a*b/\a*b<=m*n:=
 ⟨zJ h1 h3,yY h2 h4 h3 au⟩
def atW{x y:Int}(h1:0<=x)(h2:x<18446744073709551616)(h3:0<=y)(h4:y<18446744073709551616):afJ x y=(x*y/18446744073709551616,x*y%18446744073709551616):=by
 unfold afJ;simp only[Vp,aeE h1 h2,aeE h3 h4];have e:x*y=(x/4294967296*(y/4294967296))*18446744073709551616+(x/4294967296*(y%4294967296))*4294967296+(x%4294967296*(y/4294967296))*4294967296+x%4294967296*(y%4294967296):=by
  conv=>lhs;rw[show x=x/4294967296*4294967296+x%4294967296 by omega,show y=y/4294967296*4294967296+y%4294967296 by omega]
  generalize x/4294967296=a;generalize x%4294967296=b;generalize y/4294967296=c;generalize y%4294967296=d;rw[zU,xF,xF,yb,Int.mul_left_comm 4294967296 c,yb,zQ 4294967296 d,<-yb b,<-yb a d,<-yb a c];omega
 obtain⟨a0,a1⟩:=mul_lt (a:=x/4294967296) (b:=y/4294967296) (m:=4294967295) (n:=4294967295) au au au au;obtain⟨b0,b1⟩:=mul_lt (a:=x/4294967296) (b:=y%4294967296) (m:=4294967295) (n:=4294967295) au au au au;obtain⟨c0,c1⟩:=mul_lt (a:=x%4294967296) (b:=y/4294967296) (m:=4294967295) (n:=4294967295) au au au au;obtain⟨d0,d1⟩:=mul_lt (a:=x%4294967296) (b:=y%4294967296) (m:=4294967295) (n:=4294967295) au au au au;rw[e];generalize x/4294967296*(y/4294967296)=A at*;generalize x/4294967296*(y%4294967296)=B at*;generalize x%4294967296*(y/4294967296)=C at*;generalize x%4294967296*(y%4294967296)=D at*;rw[gU (n:=A),gU (n:=B),gU (n:=C),gU (n:=D),
  gU (n:=B+D/4294967296),aeE au au,gU (n:=(B+D/4294967296)%4294967296+C)]
 rw[gU (n:=A+(B+D/4294967296)/4294967296),gU,Tu]
 congr 1
 omega
def auj{x y m:Int}(h1:0<=x)(h2:x<m)(h3:0<=y)(h4:y<m)(h5:m<9223372036854775808):ahv x y m=V (x*y%m):=by
 unfold ahv;rw[gU h1 au,gU h3 au,gU (n:=m),atW h1 au h3 au];simp only;obtain⟨k0,k1⟩:=mul_lt (a:=x) (b:=y) (m:=m) (n:=m-1) h1 au h3 au;have hx:x*y<m*18446744073709551616:=by
  have:m*(m-1)<=m*18446744073709551615:=va au au;omega
 unfold avZ;have hh:x*y/18446744073709551616<m:=wZ au hx;have hh0:0<=x*y/18446744073709551616:=au;rw[gM,lD hh0,Int.emod_eq_of_lt hh0 hh];obtain⟨q,e⟩:=atf hh0 hh au (show 0<=x*y%18446744073709551616 by omega) au;rw[e,show x*y/18446744073709551616*18446744073709551616+x*y%18446744073709551616=x*y by omega];simp only;have r0:=yX (x*y) (b:=m) au;have r1:=y6 (x*y) (b:=m) au;rw[aL]
def cv(a b:Int):Int:=((yE a b:Nat):Int)
def rK{a b:Int}(h1:0<=a)(h2:0<=b):yE b (a.tmod b)=yE a b:=by
 obtain⟨x,rfl⟩:=w9 h1;obtain⟨y,rfl⟩:=w9 h2;rw[lD h1];show Nat.gcd y ((x:Int)%(y:Int)).natAbs=Nat.gcd x y;rw[<-Int.natCast_emod,Int.natAbs_natCast,Nat.gcd_comm,<-Nat.gcd_rec,Nat.gcd_comm]
def aqx{a:Int}(h:0<=a):((yE a 0:Nat):Int)=a:=by
 rw[Int.gcd_zero_right];omega
def DW{x:Int}:(bif vn (x=0)then O else J)=vn (¬x=0):=by
 by_cases h:x=0
 ·rw[bX h,bW (λk=>k h)];rfl
 ·rw[bW h,bX h];rfl
def auu{a b:Int}(h1:0<=a)(h2:0<=b):GO (mc.mk a b)=V (mc.mk (yE a b) 0):=by
 obtain⟨z,e,⟨x,y,rfl,hx,hy,hg⟩,hs⟩:=mQ (rnd:=uI) (λp=>∃x y,p=mc.mk x y/\0<=x/\0<=y/\yE x y=yE a b) (λp=>zq p.t1) (λp p' ⟨x,y,hp,hx,hy,hg⟩ hn=>by
  subst hp;have hn:uI (mc.mk x y)=V (V p'):=hn;simp only[uI,Fc,DW]at hn;by_cases h0:y=0
  ·rw[fE,ct]at hn;cases hn
  ·rw[bX h0,cK,bC h0]at hn;simp only[zF.injEq]at hn;subst hn;have m0:=yX x (b:=y) h0;have m1:=y6 x (b:=y) au;refine⟨⟨y,x.tmod y,rfl,hy,by rw[lD hx];exact m0,by rw[rK hx hy,hg]⟩,?_⟩;show (x.tmod y).toNat<y.toNat
   rw[lD hx];omega) ⟨a,b,rfl,h1,h2,rfl⟩
 have h0:y=0:=Decidable.byContradiction λh0=>hs _ (show uI _=V (V _)by
  simp only[uI,Fc,DW];rw[bX h0,cK,bC h0])
 subst h0;rw[show GO=bI uI from rfl,e,<-hg,aqx hx]
def EF{a b:Int}(h1:0<=a)(h2:0<=b):G8 a b=V (cv a b):=by
 unfold G8 Fc;rw[auu h1 h2];rfl
def avL{a b k n:Int}{l:af Int}(h1:0<=a)(h2:0<=b):Ff (mM.mk a b l n k)=V (mM.mk (yE a b) 0 l n k):=by
 obtain⟨z,e,⟨x,y,rfl,hx,hy,hg⟩,hs⟩:=mQ (rnd:=vS) (λp=>∃x y,p=mM.mk x y l n k/\0<=x/\0<=y/\yE x y=yE a b) (λp=>zq p.t5) (λp p' ⟨x,y,hp,hx,hy,hg⟩ hn=>by
  subst hp;have hn:vS (mM.mk x y l n k)=V (V p'):=hn;simp only[vS,pN,DW]at hn;by_cases h0:y=0
  ·rw[fE,ct]at hn;cases hn
  ·rw[bX h0,cK,bC h0]at hn;simp only[zF.injEq]at hn;subst hn;have m0:=yX x (b:=y) h0;have m1:=y6 x (b:=y) au;refine⟨⟨y,x.tmod y,rfl,hy,by rw[lD hx];exact m0,by rw[rK hx hy,hg]⟩,?_⟩;show (x.tmod y).toNat<y.toNat
   rw[lD hx];omega) ⟨a,b,rfl,h1,h2,rfl⟩
 have h0:y=0:=Decidable.byContradiction λh0=>hs _ (show vS _=V (V _)by
  simp only[vS,pN,DW];rw[bX h0,cK,bC h0])
 subst h0;rw[show Ff=bI vS from rfl,e,<-hg,aqx hx]
def F4{a k k1:Int}{l:af Int}(i:Nat)(h1:0<=a)(hk:k=i)(hk1:k1=i+1)(hi:i<zY l)(hl:zY l<=1000)(h2:0<=l[i]!):uJ (pP.mk a l (zY l) k)=V (V (pP.mk (cv a l[i]!) l (zY l) k1)):=by
 subst hk hk1;unfold uJ vV pN;simp only;rw[oR,cK,gM,zg,avL h1 h2];simp only;rw[bX trivial,cK,ct,aL];rfl
def GN{a b:Int}(h1:0<=a)(h2:0<=b):D4 [a,b]=V (cv a b):=by
 unfold D4 vV pN;rw[show HI=bI uJ from rfl,
  bP (F4 (l:=[a,b]) (k:=0) (k1:=1) 0 (zj 0) rfl rfl (by simp) (by simp) h1),bP (F4 (l:=[a,b]) (k:=1) (k1:=2) 1 (by unfold cv;omega) rfl rfl (by simp) (by simp) h2)]
 rw[cq (by intro r hr;simp[uJ,vV,pN]at hr)];simp only;rw[bW (by simp),ct];show V (cv (cv 0 a) b)=_;unfold cv;rw[Int.gcd_zero_left,show ((a.natAbs:Nat):Int)=a by omega]
def HX{a b c:Int}(h1:0<=a)(h2:0<=b)(h3:0<=c):D4 [a,b,c]=V (cv (cv a b) c):=by
 unfold D4 vV pN;rw[show HI=bI uJ from rfl,
  bP (F4 (l:=[a,b,c]) (k:=0) (k1:=1) 0 (zj 0) rfl rfl (by simp) (by simp) h1),bP (F4 (l:=[a,b,c]) (k:=1) (k1:=2) 1 (by unfold cv;omega) rfl rfl (by simp) (by simp) h2),
  bP (F4 (l:=[a,b,c]) (k:=2) (k1:=3) 2 (by unfold cv;omega) rfl rfl (by simp) (by simp) h3)]
 rw[cq (by intro r hr;simp[uJ,vV,pN]at hr)];simp only;rw[bW (by simp),ct];show V (cv (cv (cv 0 a) b) c)=_;rw[show cv 0 a=a from by unfold cv;rw[Int.gcd_zero_left];omega]
end Go.Proofs.YtnfljbehcffmcaaGreat
end
noncomputable section
namespace Go.Iv
open Go
variable [U:EY] [L:DX]
def Qg{α β ρ u:Type}(step:Nat->β->α->β ⊕ ρ)(out:ρ->u)(fin:β->u):af α->Nat->β->u
 |[],_,b=>fin b
 |x::xs,i,b=>match step i b x with
  | .inl b'=>Qg step out fin xs (i+1) b'
  | .inr r=>out r
def tK{α β ρ u:Type}{step:Nat->β->α->β ⊕ ρ}{out:ρ->u}{fin:β->u}{x:α}{xs:af α}{i:Nat}{b b':β}(h:step i b x= .inl b'):Qg step out fin (x::xs) i b=Qg step out fin xs (i+1) b':=by
 simp only[Qg,h]
def pV{α β ρ u:Type}{step:Nat->β->α->β ⊕ ρ}{out:ρ->u}{fin:β->u}{x:α}{xs:af α}{i:Nat}{b:β}{r:ρ}(h:step i b x= .inr r):Qg step out fin (x::xs) i b=out r:=by
 simp only[Qg,h]
def YJ{γ α β ρ u:Type}[Inhabited α]{rnd:γ->aa (aa γ)}(l:af α)(mk:Nat->β->γ)(step:Nat->β->α->β ⊕ ρ)(out:ρ->u)(fin:β->u)(I:Nat->β->Prop)
  (h1:∀i b,i<zY l->I i b->(∀b',step i b l[i]! = .inl b'->rnd (mk i b)=V (V (mk (i+1) b'))/\I (i+1) b')/\∀r,step i b l[i]! = .inr r->rnd (mk i b)=V G)
  (h2:∀b,I (zY l) b->rnd (mk (zY l) b)=V G) {b:β} (hb:I 0 b):
  ∃i v,bI rnd (mk 0 b)=V (mk i v)/\I i v/\((i=zY l/\Qg step out fin l 0 b=fin v)\/(i<zY l/\∃r,step i v l[i]! = .inr r/\Qg step out fin l 0 b=out r)):=by
 have key:∀(xs:af α) (i:Nat) (b:β),l.drop i=xs->i<=zY l->I i b->∃j v,bI rnd (mk i b)=V (mk j v)/\I j v/\((j=zY l/\Qg step out fin xs i b=fin v)\/(j<zY l/\∃r,step j v l[j]! = .inr r/\Qg step out fin xs i b=out r)):=by
  intro xs;induction xs with
  |nil=>
   intro i b hd hi hb;have:i=zY l:=by have:=congrArg zY hd;simp at this;omega
   subst this;exact⟨_,b,cq (λr=>by rw[h2 b hb];simp),hb, .inl ⟨rfl,rfl⟩⟩
  |cons x xs ih=>
   intro i b hd hi hb;have hil:i<zY l:=by have:=congrArg zY hd;simp at this;omega
   have hx:l[i]! =x:=by
    have:=congrArg List.head? hd;rw[List.head?_drop,zm hil]at this;simp_all
   have hd':l.drop (i+1)=xs:=by
    have:=congrArg List.tail hd;rw[List.tail_drop]at this
    assumption
   obtain⟨p1,p2⟩:=h1 i b hil hb;cases hs:step i b x with
   |inl b'=>
    obtain⟨q1,q2⟩:=p1 b' (by rw[hx];exact hs);obtain⟨j,v,e2,e3,e4⟩:=ih (i+1) b' hd' hil q2;rw[tK hs];exact⟨j,v,by rw[bP q1];exact e2,e3,e4⟩
   |inr r=>
    rw[pV hs];exact⟨i,b,cq (λr'=>by rw[p2 r (by rw[hx];exact hs)];simp),hb, .inr ⟨hil,r,by rw[hx];exact hs,rfl⟩⟩
 exact key l 0 b rfl (yU _) hb
def bf{α:Type}[Inhabited α]{l:af α}{i:Nat}(h:i<zY l):l[i]!∈l:=by rw[getElem!_pos l i h];exact xP h
def jQ{i n:Nat}(h:i<n)(hn:n<=1000000):ak ((i:Int)+1)=((i+1:Nat):Int):=by rw[aL];omega
def jj{γ β:Type}{rnd:γ->aa (aa γ)}(n:Nat)(mk:Nat->β->γ)(I S:Nat->β->Prop)
  (h1:∀i b,i<n->I i b->(∃b',rnd (mk i b)=V (V (mk (i+1) b'))/\I (i+1) b')\/(rnd (mk i b)=V G/\S i b))
  (h2:∀b,I n b->rnd (mk n b)=V G) {b:β} (hb:I 0 b):
  ∃i v,bI rnd (mk 0 b)=V (mk i v)/\I i v/\(i=n\/(i<n/\S i v)):=by
 have key:∀(k i:Nat) (b:β),i+k=n->I i b->∃j v,bI rnd (mk i b)=V (mk j v)/\I j v/\(j=n\/(j<n/\S j v)):=by
  intro k;induction k with
  |zero=>
   intro i b hi hb;have:i=n:=au;subst this;exact⟨_,b,cq (λr=>by rw[h2 b hb];simp),hb, .inl rfl⟩
  |succ k ih=>
   intro i b hi hb;rcases h1 i b au hb with ⟨b',q1,q2⟩|⟨q1,q2⟩
   ·rw[bP q1];grind
   ·exact⟨i,b,cq (λr=>by rw[q1];simp),hb, .inr ⟨au,q2⟩⟩
 simp_all
def cS{γ β:Type}{rnd:γ->aa (aa γ)}(n:Nat)(mk:Nat->β->γ)(I:Nat->β->Prop)
  (h1:∀i b,i<n->I i b->∃b',rnd (mk i b)=V (V (mk (i+1) b'))/\I (i+1) b')
  (h2:∀b,I n b->rnd (mk n b)=V G) {b:β} (hb:I 0 b):∃v,bI rnd (mk 0 b)=V (mk n v)/\I n v:=by
 obtain⟨i,v,e,hi,h⟩:=jj n mk I (λ_ _=>False) (λi b hi hb=> .inl (h1 i b hi hb)) h2 hb;rcases h with rfl|⟨_,h⟩
 ·exact⟨v,e,hi⟩
 ·simp_all
def cu{α:Type}(c:Nat->α->Int):af α->Nat->Int
 |[],_=>0
 |x::xs,i=>if c i x=0 then cu c xs (i+1)else c i x
def ud{γ α:Type}[Inhabited α]{rnd:γ->aa (aa γ)}(l:af α)(mk:Nat->γ)(c:Nat->α->Int)
  (h1:∀i,i<zY l->(c i l[i]! =0->rnd (mk i)=V (V (mk (i+1))))/\(c i l[i]!≠0->rnd (mk i)=V G))
  (h2:rnd (mk (zY l))=V G):
  ∃i,bI rnd (mk 0)=V (mk i)/\((i=zY l/\cu c l 0=0)\/(i<zY l/\c i l[i]!≠0/\cu c l 0=c i l[i]!)):=by
 have key:∀(xs:af α) (i:Nat),l.drop i=xs->i<=zY l->∃j,bI rnd (mk i)=V (mk j)/\((j=zY l/\cu c xs i=0)\/(j<zY l/\c j l[j]!≠0/\cu c xs i=c j l[j]!)):=by
  intro xs;induction xs with
  |nil=>
   intro i hd hi;have:i=zY l:=by have:=congrArg zY hd;simp at this;omega
   subst this;exact⟨_,cq (λr=>by rw[h2];simp), .inl ⟨rfl,rfl⟩⟩
  |cons x xs ih=>
   intro i hd hi;have hil:i<zY l:=by have:=congrArg zY hd;simp at this;omega
   have hx:l[i]! =x:=by
    have:=congrArg List.head? hd;rw[List.head?_drop,zm hil]at this;simp_all
   have hd':l.drop (i+1)=xs:=by
    have:=congrArg List.tail hd;rw[List.tail_drop]at this
    assumption
   obtain⟨p1,p2⟩:=h1 i hil;unfold cu;rw[hx]at p1 p2;by_cases hc:c i x=0
   ·rw[bC hc,bP (p1 hc)];exact ih (i+1) hd' hil
   ·rw[bL hc];exact⟨i,cq (λr=>by rw[p2 hc];simp), .inr ⟨hil,by rw[hx];exact hc,by rw[hx]⟩⟩
 exact key l 0 rfl (yU _)
def ox{γ α:Type}[Inhabited α]{rnd:γ->aa (aa γ)}(l:af α)(mk:Nat->γ)(c:Nat->α->Bool)
  (h1:∀i,i<zY l->(c i l[i]! =J->rnd (mk i)=V (V (mk (i+1))))/\(c i l[i]! =O->rnd (mk i)=V G))
  (h2:rnd (mk (zY l))=V G):
  ∃i,bI rnd (mk 0)=V (mk i)/\((i=zY l/\∀j,j<zY l->c j l[j]! =J)\/(i<zY l/\c i l[i]! =O)):=by
 obtain⟨i,v,e,hI,h⟩:=jj (β:=Unit) (rnd:=rnd) (zY l) (λi _=>mk i) (λi _=>∀j,j<i->c j l[j]! =J) (λi _=>c i l[i]! =O) (λi b hi hI=>by
   obtain⟨p1,p2⟩:=h1 i hi;cases hc:c i l[i]! with
   |true=>exact .inl ⟨(),p1 hc,λj hj=>by
     rcases xk.1 hj with h|h
     ·exact hI j h
     ·subst h;exact hc⟩
   |false=>exact .inr ⟨p2 hc,rfl⟩) (λb _=>h2) (b:=()) (λj hj=>dU hj au)
 refine⟨i,e,?_⟩;rcases h with h|h
 ·subst h;exact .inl ⟨rfl,hI⟩
 ·exact .inr h
def Gi{α:Type}[Inhabited α]{l:af α}{p:α->Bool}(h:∀j,j<zY l->p l[j]! =J):l.all p=J:=by
 rw[zw];intro x hx;obtain⟨i,hi,e⟩:=xd hx;have:=h i hi;simp_all
def Bv{α:Type}[Inhabited α]{l:af α}{p:α->Bool}{i:Nat}(hi:i<zY l)(h:p l[i]! =O):l.all p=O:=by
 cases ha:l.all p with
 |false=>rfl
 |true=>
  rw[zw]at ha;rw[ha _ (bf hi)]at h;omega
def AU{α:Type}[Inhabited α]{l:af α}{p:α->Bool}(h:∀j,j<zY l->p l[j]! =O):l.any p=O:=by
 cases ha:l.any p with
 |false=>rfl
 |true=>
  obtain⟨x,hx,e⟩:=wN.1 ha;obtain⟨i,hi,e2⟩:=xd hx;have:=h i hi;rw[getElem!_pos l i hi,e2,e]at this;omega
def Nc{α:Type}[Inhabited α]{l:af α}{p:α->Bool}{i:Nat}(hi:i<zY l)(h:p l[i]! =J):l.any p=J:=
 wN.2 ⟨_,bf hi,h⟩
def bD{α:Type}[Inhabited α]{l:af α}{i:Nat}(h:i<zY l):l.take (i+1)=l.take i++[l[i]!]:=by
 rw[getElem!_pos l i h];simp
end Go.Iv
end
noncomputable section
set_option maxRecDepth 100000
namespace Go.Proofs.YtnfljbehcffmcaaGreat
open Go Go.Iv
open Go.IntKind (i64 u64)
def cM:aK:=aK.mk 1 0 0
structure NN (a:aK):Prop where
 lo: -1099511627776<=a.ah
 hi:a.ag<=1099511627776
 le:a.ah<=a.ag
 st:(a.ah=a.ag/\a.aj=0)\/(a.ah<a.ag/\1<=a.aj/\(a.ag-a.ah)%a.aj=0)
def NV(a:aK):Prop:=a=cM\/NN a
def NN.s0{a:aK}(h:NN a):0<=a.aj:=by rcases h.st with ⟨_,h⟩|⟨_,h,_⟩<;>omega
def NN.dvd{a:aK}(h:NN a):a.aj∣a.ag-a.ah:=by
 rcases h.st with ⟨h1,h2⟩|⟨_,_,h3⟩
 ·simp_all
 ·omega
def NN.sle{a:aK}(h:NN a):a.aj<=a.ag-a.ah:=by
 rcases h.st with ⟨h1,h2⟩|⟨h1,_,h3⟩
 ·omega
 ·exact Int.le_of_dvd au (ve h3)
def NN.ne{a:aK}(h:NN a):a≠cM:=λe=>by
 have:=h.le;rw[e]at this;exact dU this (by decide)
def EA{a b:aK}(h1:a.ah=b.ah)(h2:a.ag=b.ag)(h3:a.aj=b.aj):a=b:=by
 cases a;cases b;simp only at h1 h2 h3;subst h1 h2 h3;rfl
def eE(x:Int):aK:=aK.mk x x 0
def NN.one{x:Int}(h1: -1099511627776<=x)(h2:x<=1099511627776):NN (eE x):=⟨h1,h2,zj _, .inl ⟨rfl,rfl⟩⟩
structure dy (P:Int->Prop) (c:aK):Prop where
 lo:P c.ah
 hi:P c.ag
 all:∀x,P x->c.ah<=x/\x<=c.ag/\c.aj∣x-c.ah
 nn:0<=c.aj
 best:∀d,(∀x,P x->d∣x-c.ah)->d∣c.aj
def dy.uniq{P:Int->Prop}{c d:aK}(h:dy P c)(k:dy P d):c=d:=by
 have e1:c.ah=d.ah:=Int.le_antisymm (h.all _ k.lo).1 (k.all _ h.lo).1;have e2:c.ag=d.ag:=Int.le_antisymm (k.all _ h.hi).2.1 (h.all _ k.hi).2.1;refine EA e1 e2 (Int.dvd_antisymm h.nn k.nn (k.best _ λx hx=>by rw[<-e1];exact(h.all x hx).2.2) (h.best _ λx hx=>by rw[e1];exact(k.all x hx).2.2))
def dy.congr{P Q:Int->Prop}{c:aK}(h:dy P c)(k:∀x,P x↔Q x):dy Q c:=
 ⟨(k _).mp h.lo,(k _).mp h.hi,λx hx=>h.all x ((k x).mpr hx),h.nn,λd hd=>h.best d λx hx=>hd x ((k x).mp hx)⟩
def dy.valid{P:Int->Prop}{c:aK}(h:dy P c)(hP:∀x,P x-> -1099511627776<=x/\x<=1099511627776):NN c:=by
 have h1:=hP _ h.lo;have h2:=hP _ h.hi;obtain⟨h3,_,h4⟩:=h.all _ h.hi;refine⟨h1.1,h2.2,h3,?_⟩;have h5:=h.nn;rcases Int.lt_or_eq_of_le h3 with h6|h6
 ·refine .inr ⟨h6,?_,Int.emod_eq_zero_of_dvd h4⟩;rcases Int.lt_or_eq_of_le h5 with h7|h7
  ·omega
  ·rw[<-h7]at h4;omega
 ·refine .inl ⟨h6,?_⟩;have:=h.best 0 λx hx=>by
   obtain⟨a1,a2,_⟩:=h.all x hx;grind
  omega
def bR(a:aK)(x:Int):Prop:=a.ah<=x/\x<=a.ag/\a.aj∣x-a.ah
def NN.gh{a:aK}(h:NN a):dy (bR a) a:=by
 refine⟨⟨zj _,h.le,⟨0,au⟩⟩,⟨h.le,zj _,h.dvd⟩,λx hx=>hx,h.s0,λd hd=> ?_⟩;rcases h.st with ⟨h1,h2⟩|⟨h1,h2,h3⟩
 ·simp_all
 ·have:=hd (a.ah+a.aj) ⟨au,by have:=h.sle;omega,⟨1,au⟩⟩;grind
def FB(x:Int):dy (· =x) (eE x):=
 ⟨rfl,rfl,λy hy=>⟨Int.le_of_eq hy.symm,Int.le_of_eq hy,⟨0,by rw[hy];simp[eE]⟩⟩,zj _,λd _=>xM d⟩
def kI(a b:Int):cv a b∣a:=Int.gcd_dvd_left ..
def ry(a b:Int):cv a b∣b:=Int.gcd_dvd_right ..
def jL{d a b:Int}(h1:d∣a)(h2:d∣b):d∣cv a b:=Int.dvd_coe_gcd h1 h2
def mb(a b:Int):0<=cv a b:=by unfold cv;omega
def gcd_neg(a b:Int):cv a (-b)=cv a b:=by unfold cv;rw[Int.gcd_neg]
def jn(a b:aK):aK:=aK.mk (min a.ah b.ah) (max a.ag b.ag) (cv (cv a.aj b.aj) (a.ah-b.ah))
def cE(a b:aK):aK:=open Classical in if a=cM then b else if b=cM then a else jn a b
def dy.join{P Q:Int->Prop}{a b:aK}(h:dy P a)(k:dy Q b):dy (λx=>P x\/Q x) (jn a b):=by
 have g1:cv (cv a.aj b.aj) (a.ah-b.ah)∣a.aj:=zZ (kI _ _) (kI _ _);have g2:cv (cv a.aj b.aj) (a.ah-b.ah)∣b.aj:=zZ (kI _ _) (ry _ _);have g3:cv (cv a.aj b.aj) (a.ah-b.ah)∣a.ah-b.ah:=ry _ _;refine⟨?_,?_,λx hx=> ?_,mb _ _,λd hd=> ?_⟩
 ·show P (min a.ah b.ah)\/Q (min a.ah b.ah);rcases Int.le_total a.ah b.ah with e|e
  ·rw[Int.min_eq_left e];exact .inl h.lo
  ·rw[Int.min_eq_right e];exact .inr k.lo
 ·show P (max a.ag b.ag)\/Q (max a.ag b.ag);rcases Int.le_total a.ag b.ag with e|e
  ·rw[Int.max_eq_right e];exact .inr k.hi
  ·rw[Int.max_eq_left e];exact .inl h.hi
 ·show min a.ah b.ah<=x/\x<=max a.ag b.ag/\cv (cv a.aj b.aj) (a.ah-b.ah)∣x-min a.ah b.ah;have both:cv (cv a.aj b.aj) (a.ah-b.ah)∣x-a.ah/\cv (cv a.aj b.aj) (a.ah-b.ah)∣x-b.ah:=by
   rcases hx with hx|hx
   ·have e:=zZ g1 (h.all x hx).2.2;have:=yZ e g3;grind
   ·have e:=zZ g2 (k.all x hx).2.2;have:=yz e g3;grind
  refine⟨?_,?_,?_⟩
  ·rcases hx with hx|hx
   ·have:=(h.all x hx).1;omega
   ·have:=(k.all x hx).1;omega
  ·rcases hx with hx|hx
   ·have:=(h.all x hx).2.1;omega
   ·have:=(k.all x hx).2.1;omega
  ·grind
 ·show d∣cv (cv a.aj b.aj) (a.ah-b.ah);have d1:=hd _ (.inl h.lo);have d2:=hd _ (.inr k.lo);refine jL (jL (h.best d λx hx=> ?_) (k.best d λx hx=> ?_)) ?_
  ·have:=yz (hd x (.inl hx)) d1;grind
  ·have:=yz (hd x (.inr hx)) d2;grind
  ·have:=yz d1 d2;grind
def gF{a b:aK}(h:NN a)(k:NN b):cE a b=jn a b:=by
 unfold cE;rw[bL h.ne,bL k.ne]
def GJ{b:aK}:cE cM b=b:=by unfold cE;rw[bC rfl]
def Bi{a:aK}:cE a cM=a:=by
 unfold cE;simp_all
def mK{a b:aK}(h:NN a)(k:NN b):NN (jn a b):=(h.gh.join k.gh).valid λx hx=>by
 have:=h.lo;have:=h.hi;have:=k.lo;have:=k.hi
 rcases hx with ⟨h1,h2,_⟩|⟨h1,h2,_⟩<;>omega
def eW{a b:aK}(h:NV a)(k:NV b):NV (cE a b):=by
 rcases h with rfl|h
 ·assumption
 ·rcases k with rfl|k
  ·rw[Bi];exact .inr h
  ·rw[gF h k];exact .inr (mK h k)
def V9{a:aK}(h:NN a):jn a a=a:=
 ((h.gh.join h.gh).congr (λx=>⟨λk=>k.elim id id, .inl⟩)).uniq h.gh
def Ka(a:aK):(bif vn (a.ah=a.ah)then bif vn (a.ag=a.ag)then bif vn (a.aj=a.aj)then J else O else O else O)=J:=by
 simp
def Jp{a b:aK}(h:a≠b):(bif vn (a.ah=b.ah)then bif vn (a.ag=b.ag)then bif vn (a.aj=b.aj)then J else O else O else O)=O:=by
 by_cases h1:a.ah=b.ah
 ·by_cases h2:a.ag=b.ag
  ·by_cases h3:a.aj=b.aj
   ·exact dU (EA h1 h2 h3) h
   ·rw[bX h1,bX h2,bW h3];rfl
  ·rw[bX h1,bW h2];rfl
 ·rw[bW h1];rfl
def k9:fB cM=J:=Ka cM
def eN{a:aK}(h:a≠cM):fB a=O:=Jp (b:=cM) h
def uE:l9 cM=J:=rfl
def iw{a:aK}(h:NN a):l9 a=O:=bW (by have:=h.le;omega)
def kj(x:Int):jA x=vn (-1099511627776<=x/\x<=1099511627776):=by
 unfold jA;simp
def Bn(x:Int):sA x=vn (-1099511627776<=x/\x<=1099511627776):=kj x
def Y4(a:aK):Bool:=open Classical in vn (NV a)
def W3{a:aK}:Y4 a=J↔NV a:=by unfold Y4;exact @decide_eq_true_iff _ (Classical.propDecidable _)
def dZ{a:aK}(h:NV a):Y4 a=J:=W3.mpr h
def Am{a:aK}(h:¬NV a):Y4 a=O:=by
 cases e:Y4 a with
 |false=>rfl
 |true=>exact dU (W3.mp e) h
def Vr{a:aK}(h0:a≠cM):(match bif bif jA a.ah then O else J then V J else bif bif jA a.ag then O else J then V J else V (vn (a.ag<a.ah))with|G=>G|V r1=>bif r1 then V O else bif vn (a.ah=a.ag)then V (vn (a.aj=0))else match bif vn (1<=a.aj)then if¬a.aj=(0:Int)then V (vn ((ak (a.ag-a.ah)).tmod a.aj=0))else G else V O with|G=>G|V r2=>V r2)=V (Y4 a):=by
 rw[kj,kj];by_cases h1: -1099511627776<=a.ah/\a.ah<=1099511627776
 ·by_cases h2: -1099511627776<=a.ag/\a.ag<=1099511627776
  ·by_cases h3:a.ag<a.ah
   ·rw[bX h1,bX h2,bX h3,Am (λk=>by rcases k with k|k;exact h0 k;have:=k.le;omega)];rfl
   ·rw[bX h1,bX h2,bW h3];simp only[cD];by_cases h4:a.ah=a.ag
    ·rw[bX h4,cK];by_cases h5:a.aj=0
     ·rw[bX h5,dZ (.inr ⟨h1.1,h2.2,au, .inl ⟨h4,h5⟩⟩)]
     ·rw[bW h5,Am (λk=>by rcases k with k|k;exact h0 k;rcases k.st with k|k<;>omega)]
    ·rw[bW h4,ct];by_cases h5:1<=a.aj
     ·rw[bX h5,cK,gM,aL,lD];by_cases h6:(a.ag-a.ah)%a.aj=0
      ·rw[bX h6,dZ (.inr ⟨h1.1,h2.2,au, .inr ⟨au,h5,h6⟩⟩)]
      ·rw[bW h6,Am (λk=>by rcases k with k|k;exact h0 k;rcases k.st with k|k;omega;exact h6 k.2.2)]
     ·rw[bW h5,ct];rw[Am (λk=>by rcases k with k|k;exact h0 k;rcases k.st with k|k<;>omega)]
  ·rw[bX h1,bW h2,Am (λk=>by rcases k with k|k;exact h0 k;have:=k.lo;have:=k.hi;have:=k.le;omega)];rfl
 ·rw[bW h1,Am (λk=>by rcases k with k|k;exact h0 k;have:=k.lo;have:=k.hi;have:=k.le;omega)];rfl
def eV(a:aK):AE a=V (Y4 a):=by
 unfold AE;by_cases h0:a=cM
 ·subst h0;rw[k9,cK,dZ (.inl rfl)]
 ·rw[eN h0,ct];exact Vr h0
def gp(a:aK):m84 a=V (Y4 a):=by
 unfold m84;by_cases h0:a=cM
 ·subst h0;rw[show qD=cM from rfl,Ka,cK,dZ (.inl rfl)]
 ·rw[show qD=cM from rfl,Jp h0,ct,<-Vr h0,show sA=jA from rfl,kj,kj];by_cases h1: -1099511627776<=a.ah/\a.ah<=1099511627776
  ·by_cases h2: -1099511627776<=a.ag/\a.ag<=1099511627776
   ·rw[bX h1,bX h2];simp only[cK];by_cases h3:a.ag<a.ah
    ·rw[bW (show ¬a.ah=a.ag by omega),bX h3,bW (show ¬a.ah<a.ag by omega)];rfl
    ·rw[bW h3,ct];by_cases h4:a.ah=a.ag
     ·rw[bX h4];rfl
     ·rw[bW h4,ct,ct,bX (show a.ah<a.ag by omega),cK]<;>rfl
   ·rw[bX h1,bW h2];rfl
  ·rw[bW h1];rfl
def bY(a:aK):Int:=open Classical in if a=cM then 0 else if a.aj=0 then 1 else(a.ag-a.ah)/a.aj+1
def wsz{a:aK}(h:NN a)(h0:a.aj≠0):ak (ak ((ak (a.ag-a.ah)).tdiv a.aj)+1)=(a.ag-a.ah)/a.aj+1:=by
 have:=h.lo;have:=h.hi;have:=h.le;have:=h.s0
 have q0:0<=(a.ag-a.ah)/a.aj:=zS au au;have q1:(a.ag-a.ah)/a.aj<=a.ag-a.ah:=yl _ au;rw[aL (n:=a.ag-a.ah),kK,aL (n:=(a.ag-a.ah)/a.aj),aL]
def lJ{a:aK}(h:NV a):BZ a=V (bY a):=by
 unfold BZ bY;rcases h with rfl|h
 ·rfl
 ·rw[eN h.ne,bL h.ne,ct];by_cases h0:a.aj=0
  ·rw[bX h0,bC h0];rfl
  ·rw[bW h0,bL h0,ct,bC h0,wsz h h0]
def ew{a:aK}(h:NV a):DZ a=V (bY a):=by
 unfold DZ bY;rw[gp,dZ h];simp only[cD];rcases h with rfl|h
 ·rfl
 ·rw[iw h,bL h.ne,ct];by_cases h0:a.aj=0
  ·rw[bX h0,bC h0];rfl
  ·rw[bW h0,bL h0,ct,bC h0,wsz h h0]
def aht{a:aK}(h:¬NV a):DZ a=V 0:=by
 unfold DZ;rw[gp,Am h];rfl
def qC{a:aK}(h:NV a):XN a=V (bY a):=by
 unfold XN;rw[eV,dZ h];simp only[cD];rw[lJ h]
def anB{a:aK}(h:¬NV a):XN a=V 0:=by
 unfold XN;rw[eV,Am h];rfl
def cR(a:aK)(x:Int):Bool:=open Classical in vn (bR a x)
def oh{a:aK}{x:Int}:cR a x=J↔bR a x:=by unfold cR;exact @decide_eq_true_iff _ (Classical.propDecidable _)
def jx{a:aK}{x:Int}(h:¬bR a x):cR a x=O:=by
 cases e:cR a x with
 |false=>rfl
 |true=>exact dU (oh.mp e) h
def nL{a:aK}{x:Int}(h:bR a x):cR a x=J:=oh.mpr h
def Ed{x:Int}:¬bR cM x:=λh=>by
 obtain⟨h1,h2,_⟩:=h;have h1:(1:Int)<=x:=h1;have h2:x<=0:=h2;omega
def PE{a:aK}(h:NN a)(x:Int)(h1:a.ah<=x)(h2:x<=a.ag):(match bif vn (a.aj=0)then V J else if¬a.aj=(0:Int)then V (vn ((ak (x-a.ah)).tmod a.aj=0))else G with|G=>G|V r2=>V r2)=V (cR a x):=by
 have:=h.lo;have:=h.hi
 by_cases h0:a.aj=0
 ·rw[bX h0,cK,nL ⟨h1,h2,by rcases h.st with k|k;(rw[h0];exact⟨0,au⟩);omega⟩]
 ·rw[bW h0,ct,bC h0,aL,lD];by_cases k:(x-a.ah)%a.aj=0
  ·rw[bX k,nL ⟨h1,h2,ve k⟩]
  ·rw[bW k,jx (λe=>k (Int.emod_eq_zero_of_dvd e.2.2))]
def KP{a:aK}(h:NV a)(x:Int):Zq a x=V (cR a x):=by
 unfold Zq;rcases h with rfl|h
 ·rw[k9,jx Ed];rfl
 ·rw[eN h.ne,ct];by_cases h1:x<a.ah
  ·rw[bX h1,jx (λk=>by have:=k.1;omega)];rfl
  ·by_cases h2:a.ag<x
   ·rw[bW h1,bX h2,jx (λk=>by have:=k.2.1;omega)];rfl
   ·rw[bW h1,bW h2];exact PE h x au au
def j9{a:aK}(h:NV a)(x:Int):m32 a x=V (cR a x):=by
 unfold m32;rw[gp,dZ h];rcases h with rfl|h
 ·by_cases h1:x<1
  ·rw[show cM.ah=1 from rfl,bX h1,jx Ed];rfl
  ·rw[show cM.ah=1 from rfl,show cM.ag=0 from rfl,bW h1,bX (show 0<x by omega),jx Ed];rfl
 ·by_cases h1:x<a.ah
  ·rw[bX h1,jx (λk=>by have:=k.1;omega)];rfl
  ·by_cases h2:a.ag<x
   ·rw[bW h1,bX h2,jx (λk=>by have:=k.2.1;omega)];rfl
   ·rw[bW h1,bW h2];exact PE h x au au
def sw{a:aK}(h:NV a)(x:Int):m92 a x=V (cR a x):=by
 unfold m92;rw[eV,dZ h];simp only[cK];rw[KP h]
def jR(lo hi st:Int):aK:=if hi<lo then cM else if st=0 then eE lo else if lo=lo+(hi-lo)/st*st then eE lo else aK.mk lo (lo+(hi-lo)/st*st) st
def apn{lo hi st:Int}(h1: -2305843009213693952<=lo)(h2:hi<=2305843009213693952)(h3:lo<=hi)(h4:1<=st):ak (lo+ak (ak ((ak (hi-lo)).tdiv st)*st))=lo+(hi-lo)/st*st:=by
 have q0:0<=(hi-lo)/st:=zS au au;have q1:(hi-lo)/st<=hi-lo:=yl _ au;have q2:(hi-lo)/st*st<=hi-lo:=xo _ au;have q3:0<=(hi-lo)/st*st:=zJ q0 au;rw[aL (n:=hi-lo),kK,aL (n:=(hi-lo)/st),aL (n:=(hi-lo)/st*st),aL]
def pL{lo hi st:Int}(h1: -2305843009213693952<=lo)(h2:hi<=2305843009213693952)(h4:0<=st):oc lo hi st=V (jR lo hi st):=by
 unfold oc jR;by_cases c1:hi<lo
 ·rw[bX c1,bC c1];rfl
 ·rw[bW c1,bL c1,ct];by_cases c2:st=0
  ·rw[bX c2,bC c2];rfl
  ·rw[bW c2,bL c2,ct,bC c2,apn h1 h2 au au];by_cases c3:lo=lo+(hi-lo)/st*st
   ·rw[bX c3,bC c3];rfl
   ·simp_all
def mZ{lo hi st:Int}(h1: -1099511627776<=lo/\lo<=1099511627776)(h2: -1099511627776<=hi/\hi<=1099511627776)(h4:1<=st):j4 lo hi st=V (jR lo hi st,0):=by
 unfold j4 jR;rw[Bn,Bn,bX h1,bX h2,bW (show ¬st<1 by omega)];by_cases c1:hi<lo
 ·rw[bX c1,bC c1];rfl
 ·rw[bW c1,bL c1,ct,bL (show ¬st=0 by omega),gM,apn au au au h4];by_cases c3:lo=lo+(hi-lo)/st*st
  ·rw[<-c3,bX rfl,bC rfl];rfl
  ·simp_all
def OO{lo hi st:Int}(h1:lo<=hi)(h2:0<=st)(h3:st∣hi-lo)(h4:lo=hi->st=0):jR lo hi st=aK.mk lo hi st:=by
 unfold jR;rw[qE];by_cases c:st=0
 ·rw[bC c];subst c;unfold eE;rw[show hi=lo by omega]
 ·rw[bL c,wm h3,show lo+(hi-lo)=hi by omega,bL (λe=>c (h4 e))]
def nh{lo hi st:Int}(h1: -1099511627776<=lo)(h2:hi<=1099511627776)(h3:lo<=hi)(h4:0<=st):NN (jR lo hi st):=by
 unfold jR;rw[qE];by_cases c:st=0
 ·rw[bC c];exact NN.one h1 au
 ·rw[bL c];have q0:0<=(hi-lo)/st:=zS au au;have q2:(hi-lo)/st*st<=hi-lo:=xo _ au;have q3:0<=(hi-lo)/st*st:=zJ q0 au;by_cases c3:lo=lo+(hi-lo)/st*st
  ·rw[bC c3];exact NN.one h1 au
  ·rw[bL c3];refine⟨h1,by show lo+(hi-lo)/st*st<=_;omega,by show lo<=lo+(hi-lo)/st*st;omega, .inr ⟨by show lo<lo+(hi-lo)/st*st;omega,by show 1<=st;omega,?_⟩⟩;rw[show lo+(hi-lo)/st*st-lo=(hi-lo)/st*st by omega];simp
def Qm{lo hi st x:Int}(h3:lo<=hi)(h4:1<=st):bR (jR lo hi st) x↔lo<=x/\x<=hi/\st∣x-lo:=by
 unfold jR;rw[qE,qE];have q2:(hi-lo)/st*st<=hi-lo:=xo _ au;have q4:=vf (hi-lo) (show 0<st by omega);rw[zU,yc]at q4;by_cases c3:lo=lo+(hi-lo)/st*st
 ·rw[bC c3];constructor
  ·rintro⟨k1,k2,_⟩;have k1:lo<=x:=k1;have k2:x<=lo:=k2;exact⟨k1,au,⟨0,au⟩⟩
  ·rintro⟨k1,k2,k3⟩;have e:x-lo=0:=Decidable.byContradiction λh=>dU (Int.le_of_dvd au k3) au;exact⟨k1,by show x<=lo;omega,by show 0∣x-lo;rw[e];exact⟨0,rfl⟩⟩
 ·rw[bL c3];constructor
  ·rintro⟨k1,k2,k3⟩;have k2:x<=lo+(hi-lo)/st*st:=k2;exact⟨k1,au,k3⟩
  ·rintro⟨k1,k2,k3⟩;refine⟨k1,?_,k3⟩;show x<=lo+(hi-lo)/st*st;obtain⟨q,hq⟩:=k3;rw[zQ]at hq;have:q<(hi-lo)/st+1:=wO (a:=st) (by rw[zU,yc];omega) au;have:q*st<=(hi-lo)/st*st:=zN au au;omega
def PG(g x v:Int)(hx: -1099511627776<=x/\x<=1099511627776)(hv: -1099511627776<=v/\v<=1099511627776):(0:Int)<=jN x v/\cv g (jN x v)=cv g (x-v):=by
 unfold jN;by_cases c:x<v
 ·rw[bX c,cK,aL];exact⟨au,by rw[<-gcd_neg,show-(v-x)=x-v by omega]⟩
 ·rw[bW c,ct,aL];omega
def dy.snoc{P:Int->Prop}{c:aK}{v:Int}(h:dy P c)(hv:P v)(x:Int):dy (λy=>P y\/y=x) (aK.mk (min c.ah x) (max c.ag x) (cv c.aj (x-v))):=by
 have e:cv (cv c.aj 0) (c.ah-x)=cv c.aj (x-v):=by
  have d:=(h.all v hv).2.2;refine Int.dvd_antisymm (mb _ _) (mb _ _) (jL (zZ (kI _ _) (kI _ _)) ?_) (jL (jL (kI _ _) (xM _)) ?_)
  ·have k1:cv (cv c.aj 0) (c.ah-x)∣c.ah-x:=ry _ _;have k2:cv (cv c.aj 0) (c.ah-x)∣v-c.ah:=zZ (zZ (kI _ _) (kI _ _)) d;have:=Int.dvd_neg.mpr (yZ k1 k2)
   rwa [show-(c.ah-x+(v-c.ah))=x-v by omega]at this
  ·have k1:cv c.aj (x-v)∣x-v:=ry _ _;have k2:cv c.aj (x-v)∣v-c.ah:=zZ (kI _ _) d;have:=Int.dvd_neg.mpr (yZ k1 k2)
   rwa [show-(x-v+(v-c.ah))=c.ah-x by omega]at this
 have:=h.join (FB x);unfold jn eE at this;simp_all
def cA(x:Int):Prop:= -1099511627776<=x/\x<=1099511627776
instance (x:Int):Decidable (cA x):=inferInstanceAs (Decidable (_/\_))
def FN(x:Int):sA x=vn (cA x):=Bn x
def asU{l:af Int}{b0 c:aK}(i:Nat)(hi:i+1<zY l)(hl:zY l<=1000000)(hr:∀x∈l,cA x)(hc:dy (· ∈l.take (i+1)) c):
  ∃c',vU (iX.mk l (i+1:Nat) b0 c)=V (V (iX.mk l (i+1+1:Nat) b0 c'))/\dy (· ∈l.take (i+1+1)) c':=by
 have hx:cA l[i+1]! :=hr _ (bf hi);have h0:cA l[0]! :=hr _ (bf au);have hm:l[0]!∈l.take (i+1):=by
  have:(l.take (i+1))[0]! =l[0]! :=by
   rw[getElem!_pos _ 0 (by rw[zD];omega),getElem!_pos l 0 au,xK]
  rw[<-this];exact bf (by rw[zD];omega)
 have hs:=hc.snoc hm l[i+1]!;obtain⟨g0,g1⟩:=PG c.aj l[i+1]! l[0]! hx h0;refine⟨_,?_,hs.congr λy=> ?_⟩
 ·unfold vU Gt;simp only;rw[oR,cK,gM,gM,zg,EF hc.nn g0,g1];simp only;rw[aL,show ((i+1:Nat):Int)+1=((i+1+1:Nat):Int)by omega];have hci:(0:Int)<=((i+1:Nat):Int)/\((i+1:Nat):Int)<(zY l:Int):=au;by_cases c1:l[i+1]! <c.ah
  ·rw[Int.min_eq_right au];by_cases c2:c.ag<l[i+1]!
   ·have:=(hc.all _ hc.lo).2.1;omega
   ·rw[Int.max_eq_left au];simp only[cD,bX c1,bW c2,bC hci]
  ·rw[Int.min_eq_left au];by_cases c2:c.ag<l[i+1]!
   ·rw[Int.max_eq_right au];simp only[cD,bW c1,bX c2,bC hci]
   ·rw[Int.max_eq_left au];simp only[bW c1,bW c2,bC hci,ct]
 ·rw[bD (i:=i+1) hi,zP,zo]
def Nj{l:af Int}(hn:l≠[])(hl:zY l<=1000000)(hr:∀x∈l,cA x):∃c,aal l=V (c,0)/\dy (· ∈l) c:=by
 have hp:0<zY l:=wH.mpr hn;obtain⟨c,e1,hc⟩:=cS (rnd:=vU) (zY l-1) (λi (c:aK)=>iX.mk l (i+1:Nat) (aK.mk 0 0 0) c) (λi c=>dy (· ∈l.take (i+1)) c)
  (λi c hi hI=>asU i au hl hr hI)
  (λc hI=>by
   unfold vU Gt;simp only;rw[fE];rfl) (b:=eE l[0]!) ((FB l[0]!).congr λx=>by
   rw[bD hp];simp)
 have e0:bI C8 (nM.mk l 0 (aK.mk 0 0 0))=V (nM.mk l (zY l:Nat) (aK.mk 0 0 0)):=PB (rnd:=C8) (λi=>nM.mk l (i:Nat) (aK.mk 0 0 0)) (zY l) (λi hi=>by
  unfold C8 Is;simp only;rw[oR,cK,gM,zg,FN,bX (hr _ (bf hi)),jQ hi hl];rfl) (λr=>by
  unfold C8 Is;simp only;rw[fE];intro h;cases h)
 refine⟨c,?_,hc.congr λx=>by rw[show zY l-1+1=zY l by omega,zy]⟩;unfold aal Is Gt;rw[show Ma=bI C8 from rfl,e0];simp only;rw[fE,ct,fE,ct,gM,gM];have e1:bI vU (iX.mk l 1 (aK.mk 0 0 0) (aK.mk l[0]! l[0]! 0))=V (iX.mk l ((zY l-1+1:Nat):Int) (aK.mk 0 0 0) c):=e1;rw[show MQ=bI vU from rfl,e1];simp only;rw[fE];rfl
def NN.ux{a:aK}(h:NN a):cA a.ah:=⟨h.lo,by have:=h.le;have:=h.hi;omega⟩
def NN.DL{a:aK}(h:NN a):cA a.ag:=⟨by have:=h.le;have:=h.lo;omega,h.hi⟩
def KN{x:Int}(h1: -2199023255552<=x)(h2:x<=2199023255552):(0:Int)<=jV x/\((jV x:Int)=x\/(jV x:Int)= -x):=by
 unfold jV;rw[aL (n:=0-x)];by_cases c:x<0-x
 ·rw[bC c];exact⟨au, .inr (show (0:Int)-x= -x by omega)⟩
 ·rw[bL c];exact⟨au, .inl rfl⟩
def afq(g:Int){x:Int}(h1: -2199023255552<=x)(h2:x<=2199023255552):cv g (jV x)=cv g x:=by
 rcases (KN h1 h2).2 with e|e
 ·rw[e]
 ·rw[e,gcd_neg]
def ku{a b:aK}(ha:NV a)(hb:NV b):pn a b=V (cE a b):=by
 unfold pn;rcases ha with rfl|ha
 ·rfl
 rw[eN ha.ne,ct];rcases hb with rfl|hb
 ·rw[k9,Bi];rfl
 rw[eN hb.ne,ct];by_cases e:a=b
 ·subst e;rw[Ka,gF ha ha,V9 ha];rfl
 ·rw[Jp e];have:=ha.lo;have:=ha.hi;have:=ha.le;have:=hb.lo;have:=hb.hi;have:=hb.le
  rw[aL (n:=a.ah-b.ah),HX ha.s0 hb.s0 (KN au au).1,afq _ au au];simp only;rw[show (if b.ah<a.ah then b.ah else a.ah)=min a.ah b.ah by split<;>omega,show (if a.ag<b.ag then b.ag else a.ag)=max a.ag b.ag by split<;>omega,pL au au (mb _ _)];have hj:=mK ha hb;rw[gF ha hb];exact congrArg some (OO hj.le hj.s0 hj.dvd (λk=>by rcases hj.st with h|h;exact h.2;exact dU k (Int.ne_of_lt h.1)))
def gu{a b:aK}(ha:NV a)(hb:NV b):nG a b=V (cE a b):=by
 unfold nG;rcases ha with rfl|ha
 ·rfl
 rw[iw ha,ct];rcases hb with rfl|hb
 ·rw[uE,Bi];rfl
 rw[iw hb,ct];obtain⟨c,e,hc⟩:=Nj (l:=[a.ah,a.ag,b.ah,b.ag]) (by simp) (by simp) (λx hx=>by
  simp only[zx,List.not_mem_nil,or_false]at hx;rcases hx with rfl|rfl|rfl|rfl
  ·exact ha.ux
  ·exact ha.DL
  ·exact hb.ux
  ·exact hb.DL)
 rw[e];simp only;have m:∀x,(x=a.ah\/x=a.ag\/x=b.ah\/x=b.ag)->x∈[a.ah,a.ag,b.ah,b.ag]:=λx hx=>by simpa using hx
 have h1:=hc.lo;have h2:=hc.hi;simp only[zx,List.not_mem_nil,or_false]at h1 h2;have p1:=hc.all _ (m a.ah (by simp));have p2:=hc.all _ (m a.ag (by simp));have p3:=hc.all _ (m b.ah (by simp));have p4:=hc.all _ (m b.ag (by simp));have:=ha.le;have:=hb.le;have e1:c.ah=min a.ah b.ah:=au;have e2:c.ag=max a.ag b.ag:=au;have hj:=mK ha hb;rw[gF ha hb];by_cases k:c.ah<c.ag
 ·rw[bX k,cK,EF ha.s0 hb.s0];simp only;obtain⟨g0,g1⟩:=PG (cv a.aj b.aj) a.ah b.ah ha.ux hb.ux;rw[EF (mb _ _) g0,g1,e1,e2];rfl
 ·rw[bW k,ct]
  congr 1
  refine EA e1 e2 ?_;have hcv:NN c:=hc.valid (λx hx=>by
   simp only[zx,List.not_mem_nil,or_false]at hx;rcases hx with rfl|rfl|rfl|rfl
   ·exact ha.ux
   ·exact ha.DL
   ·exact hb.ux
   ·exact hb.DL)
  have s1:c.aj=0:=by rcases hcv.st with h|h;exact h.2;omega
  have s2:(jn a b).aj=0:=by
   rcases hj.st with h|h
   ·omega
   ·have:min a.ah b.ah<max a.ag b.ag:=h.1;omega
  omega
def aiR{a b:aK}(ha:NV a)(hb:NV b):ahe a b=V (cE a b,0):=by
 unfold ahe;rw[eV,eV,dZ ha,dZ hb];simp only[cD];rw[ku ha hb]
def RW{a:aK}(h:NV a):cE a a=a:=by
 rcases h with rfl|h
 ·rfl
 ·rw[gF h h,V9 h]
def pZ{a b:aK}(ha:NV a)(hb:NV b):G9 a b=V (cE a b):=by
 unfold G9;by_cases e:a=b
 ·subst e;rw[Ka,RW ha];rfl
 ·rw[Jp e,ct,aiR ha hb]
def cC(a:aK):Bool:=if 1<bY a then J else if bY a=1 then !cR a 0 else O
def BE{a:aK}(h:NN a):bY a=if a.aj=0 then 1 else(a.ag-a.ah)/a.aj+1:=by
 unfold bY;rw[bL h.ne]
def size_pos{a:aK}(h:NN a):1<=bY a:=by
 rw[BE h];split
 ·omega
 ·have:0<=(a.ag-a.ah)/a.aj:=zS (by have:=h.le;omega) h.s0;omega
def l7{a:aK}(h:NN a):bY a=1↔a.ah=a.ag:=by
 rw[BE h];rcases h.st with ⟨h1,h2⟩|⟨h1,h2,h3⟩
 ·omega
 ·rw[qE];constructor
  ·intro k;have:=wm (ve h3);grind
  ·omega
def El{a:aK}(h:NV a):SZ a=V (cR a 0,cC a):=by
 unfold SZ cC;rw[KP h,lJ h];simp only;by_cases c:1<bY a
 ·rw[bX c,bC c];rfl
 ·rw[bW c,bL c,ct];by_cases c1:bY a=1
  ·rw[bX c1,bC c1,cK];rcases h with rfl|h
   ·exfalso;unfold bY at c1;simp_all
   ·have e:=(l7 h).mp c1;by_cases c2:a.ah=0
    ·rw[bX c2,nL (show bR a 0 from⟨au,au,⟨0,au⟩⟩)];rfl
    ·rw[bW c2,jx (show ¬bR a 0 from λk=>by have:=k.1;have:=k.2.1;omega)];rfl
  ·rw[bW c1,bL c1];rfl
def pE{a:aK}(h:NV a):Fe a=V (cR a 0,cC a):=by
 unfold Fe cC;rw[j9 h,ew h];simp only;by_cases c:1<bY a
 ·rw[bX c,bC c];rfl
 ·rw[bW c,bL c,ct];by_cases c1:bY a=1
  ·rw[bX c1,bC c1,cK];rfl
  ·rw[bW c1,bL c1];rfl
def ED{a:aK}(h:NV a):SP a=V (cR a 0,cC a):=by
 unfold SP;rw[eV,dZ h];simp only[cD];rw[El h]
def jb:Bool->Bool->aK
 |true,J=>aK.mk 0 1 1
 |true,O=>aK.mk 0 0 0
 |false,J=>aK.mk 1 1 0
 |false,O=>cM
def V4{a b:Bool}(h:(a||b)=J):jF a b=jb a b:=by
 cases a<;>cases b<;>first|rfl|cases h
def Xe(a b:Bool):qm a b=V (jb a b):=by
 have v0:NN (eE 0):=NN.one au au;have v1:NN (eE 1):=NN.one au au;have e:cE (eE 0) (eE 1)=aK.mk 0 1 1:=by rw[gF v0 v1];rfl
 unfold qm;cases a<;>cases b
 ·rfl
 ·rfl
 ·rfl
 ·simp only[cK];rw[show jv=cM from rfl,ku (.inl rfl) (.inr (show NN (jc 0)from v0)),GJ];simp only;rw[ku (.inr (show NN (jc 0)from v0)) (.inr (show NN (jc 1)from v1)),show cE (jc 0) (jc 1)=cE (eE 0) (eE 1)from rfl,e];rfl
def AJ(a b:Bool):NV (jb a b):=by
 cases a<;>cases b
 ·exact .inl rfl
 ·exact .inr (NN.one (x:=1) au au)
 ·exact .inr (NN.one (x:=0) au au)
 ·exact .inr ⟨by decide,by decide,by decide, .inr ⟨by decide,by decide,by decide⟩⟩
def nC(P:Int->Prop)(c:aK):Prop:=(c=cM/\∀x,¬P x)\/(dy P c)
def nC.uniq{P:Int->Prop}{c d:aK}(h:nC P c)(k:nC P d):c=d:=by
 rcases h with ⟨h1,h2⟩|h<;>rcases k with ⟨k1,k2⟩|k
 ·grind
 ·exact dU k.lo (h2 _)
 ·exact dU h.lo (k2 _)
 ·exact h.uniq k
def nC.congr{P Q:Int->Prop}{c:aK}(h:nC P c)(k:∀x,P x↔Q x):nC Q c:=by
 rcases h with ⟨h1,h2⟩|h
 ·exact .inl ⟨h1,λx hx=>h2 x ((k x).mpr hx)⟩
 ·exact .inr (h.congr k)
def nC.valid{P:Int->Prop}{c:aK}(h:nC P c)(hP:∀x,P x->cA x):NV c:=by
 rcases h with ⟨h1,h2⟩|h
 ·exact .inl h1
 ·exact .inr (h.valid hP)
def nC.none{P:Int->Prop}(h:∀x,¬P x):nC P cM:= .inl ⟨rfl,h⟩
def nC.join{P Q:Int->Prop}{a b:aK}(h:nC P a)(k:nC Q b)(ha:NV a)(hb:NV b):nC (λx=>P x\/Q x) (cE a b):=by
 rcases h with ⟨rfl,h2⟩|h
 ·rw[GJ];simp_all
 ·rcases k with ⟨rfl,k2⟩|k
  ·rw[Bi];exact .inr (h.congr λx=>⟨.inl,λe=>e.elim id (λe=>dU e (k2 x))⟩)
  ·have hn:∀{P:Int->Prop} {c:aK},dy P c->NV c->NN c:=λ{P c} e v=>by
    rcases v with rfl|v
    ·have:=(e.all _ e.lo).2.1;exact dU this (by decide)
    ·exact v
   rw[gF (hn h ha) (hn k hb)];exact .inr (h.join k)
def nC.mem{a:aK}(h:NV a):nC (bR a) a:=by
 rcases h with rfl|h
 ·exact .inl ⟨rfl,λx=>Ed⟩
 ·exact .inr h.gh
def ZV{a:aK}(h:NV a){x:Int}(hx:bR a x):cA x:=by
 rcases h with rfl|h
 ·exact dU hx Ed
 ·have:=h.lo;have:=h.hi;have:=hx.1;have:=hx.2.1
  exact⟨au,au⟩
def alL{lo hi st:Int}(h1:lo<=hi)(h2:1<=st):(jR lo hi st).ag=lo+(hi-lo)/st*st:=by
 unfold jR;rw[qE,qE];by_cases c3:lo=lo+(hi-lo)/st*st
 ·rw[bC c3];exact c3
 ·simp_all
def NN.st1{a:aK}(h:NN a)(k:a.ah<a.ag):1<=a.aj:=by rcases h.st with h|h<;>omega
def Ex(P:Int->Prop)(c:aK):Prop:=NV c/\∀x,bR c x↔P x
def Ex.rep{P:Int->Prop}{c:aK}(h:Ex P c):nC P c:=(nC.mem h.1).congr h.2
def W7{a:aK}(h:NN a){at_:Int}(h1:a.ah<=at_)(h2:at_<a.ag):Ex (λx=>bR a x/\x<=at_) (jR a.ah at_ a.aj):=by
 have hs:=h.st1 au;have hl:=h.lo;have hh:=h.hi
 refine⟨.inr (nh hl au h1 h.s0),λx=> ?_⟩;rw[Qm h1 hs];exact⟨λ⟨k1,k2,k3⟩=>⟨⟨k1,au,k3⟩,k2⟩,λ⟨⟨k1,_,k3⟩,k2⟩=>⟨k1,k2,k3⟩⟩
def QD{a:aK}(h:NN a){at_:Int}(h1:a.ah<=at_)(h2:at_<a.ag):
  Ex (λx=>bR a x/\at_<x) (jR (a.ah+((at_-a.ah)/a.aj+1)*a.aj) a.ag a.aj)/\a.ah<a.ah+((at_-a.ah)/a.aj+1)*a.aj/\a.ah+((at_-a.ah)/a.aj+1)*a.aj<=a.ag:=by
 have hs:=h.st1 au;have hl:=h.lo;have hh:=h.hi
 have q2:(at_-a.ah)/a.aj*a.aj<=at_-a.ah:=xo _ au;have q4:=vf (at_-a.ah) (show 0<a.aj by omega);have up:∀x,a.aj∣x-a.ah->at_<x->a.ah+((at_-a.ah)/a.aj+1)*a.aj<=x:=λx hd hx=>by
  obtain⟨q,hq⟩:=hd;rw[zQ]at hq;have:(at_-a.ah)/a.aj<q:=wO (a:=a.aj) au au;have:((at_-a.ah)/a.aj+1)*a.aj<=q*a.aj:=zN au au;omega
 have hle:=up a.ag h.dvd h2;have hd:a.aj∣((at_-a.ah)/a.aj+1)*a.aj:=xG ..;refine⟨⟨.inr (nh au hh hle h.s0),λx=> ?_⟩,au,hle⟩;rw[Qm hle hs];constructor
 ·rintro⟨k1,k2,k3⟩;have:=yZ k3 hd;rw[show x-(a.ah+((at_-a.ah)/a.aj+1)*a.aj)+((at_-a.ah)/a.aj+1)*a.aj=x-a.ah by omega]at this;exact⟨⟨au,k2,this⟩,au⟩
 ·rintro⟨⟨k1,k2,k3⟩,k4⟩;have:=yz k3 hd;rw[show x-a.ah-((at_-a.ah)/a.aj+1)*a.aj=x-(a.ah+((at_-a.ah)/a.aj+1)*a.aj)by omega]at this;simp_all
def E4{a:aK}(h:NV a){Q:Int->Prop}(k:∀x,bR a x->Q x):Ex (λx=>bR a x/\Q x) a:=⟨h,λx=>⟨λe=>⟨e,k x e⟩,λe=>e.1⟩⟩
def qN{a:aK}{Q:Int->Prop}(k:∀x,bR a x->¬Q x):Ex (λx=>bR a x/\Q x) cM:=⟨.inl rfl,λx=>⟨λe=>dU e Ed,λe=>dU e.2 (k x e.1)⟩⟩
def Bq{a:aK}(h:NV a)(at_:Int):∃l u,Gq a at_=V (l,u)/\Ex (λx=>bR a x/\x<=at_) l/\Ex (λx=>bR a x/\at_<x) u:=by
 unfold Gq;rcases h with rfl|h
 ·refine⟨cM,cM,?_,qN λx hx=>dU hx Ed,qN λx hx=>dU hx Ed⟩;rfl
 ·rw[eN h.ne,ct];have hle:=h.le;have hl:=h.lo;have hh:=h.hi
  by_cases c1:at_<a.ah
  ·rw[bX c1];exact⟨cM,a,rfl,qN λx hx k=>by have:=hx.1;omega,E4 (.inr h) λx hx=>by have:=hx.1;omega⟩
  ·rw[bW c1];by_cases c2:a.ag<=at_
   ·rw[bX c2];exact⟨a,cM,rfl,E4 (.inr h) λx hx=>by have:=hx.2.1;omega,qN λx hx k=>by have:=hx.2.1;omega⟩
   ·have hs:=h.st1 au;obtain⟨r1,r2,r3⟩:=QD h (at_:=at_) au au;have e:a.ah+((at_-a.ah)/a.aj+1)*a.aj=a.ah+(at_-a.ah)/a.aj*a.aj+a.aj:=by rw[zU,yc];omega
    rw[e]at r1 r2 r3;rw[bW c2,ct,pL au au h.s0];simp only;rw[alL au hs,aL,pL au au h.s0];exact⟨_,_,rfl,W7 h au au,r1⟩
def KQ{a:aK}(h:NV a)(at_:Int):∃l,m41 a at_=V l/\Ex (λx=>bR a x/\x<=at_) l:=by
 unfold m41;rcases h with rfl|h
 ·exact⟨cM,rfl,qN λx hx=>dU hx Ed⟩
 ·rw[iw h,ct];have hle:=h.le;have hl:=h.lo;have hh:=h.hi
  by_cases c1:at_<a.ah
  ·rw[bX c1];exact⟨cM,rfl,qN λx hx k=>by have:=hx.1;omega⟩
  ·rw[bW c1];by_cases c2:a.ag<=at_
   ·rw[bX c2];exact⟨a,rfl,E4 (.inr h) λx hx=>by have:=hx.2.1;omega⟩
   ·rw[bW c2,ct,mZ h.ux ⟨au,au⟩ (h.st1 au)];exact⟨_,rfl,W7 h au au⟩
def Cb{a:aK}(h:NV a)(at_:Int):∃u,m42 a at_=V u/\Ex (λx=>bR a x/\at_<x) u:=by
 unfold m42;rcases h with rfl|h
 ·refine⟨cM,?_,qN λx hx=>dU hx Ed⟩;rfl
 ·rw[iw h,ct];have hle:=h.le;have hl:=h.lo;have hh:=h.hi
  by_cases c1:a.ag<=at_
  ·rw[bX c1];exact⟨cM,rfl,qN λx hx k=>by have:=hx.2.1;omega⟩
  ·rw[bW c1];by_cases c2:at_<a.ah
   ·rw[bX c2];exact⟨a,rfl,E4 (.inr h) λx hx=>by have:=hx.1;omega⟩
   ·have hs:=h.st1 au;obtain⟨r1,r2,r3⟩:=QD h (at_:=at_) au au;have q0:0<=(at_-a.ah)/a.aj:=zS au au;have q1:(at_-a.ah)/a.aj<=at_-a.ah:=yl _ au;rw[bW c2,ct,gM,aL (n:=at_-a.ah),kK,aL (n:=(at_-a.ah)/a.aj),aL (n:=(at_-a.ah)/a.aj+1),
     aL (n:=((at_-a.ah)/a.aj+1)*a.aj),aL,mZ ⟨au,au⟩ h.DL hs]
    exact⟨_,rfl,r1⟩
def nC.empty{P:Int->Prop}{c:aK}(h:nC P c)(hv:NV c):fB c=l9 c/\((fB c=J/\c=cM/\∀x,¬P x)\/(fB c=O/\NN c/\dy P c)):=by
 rcases h with ⟨rfl,h⟩|h
 ·exact⟨by rw[k9];rfl, .inl ⟨k9,rfl,h⟩⟩
 ·rcases hv with rfl|hv
  ·exact dU (h.all _ h.lo).2.1 (by decide)
  ·exact⟨by rw[eN hv.ne,iw hv], .inr ⟨eN hv.ne,hv,h⟩⟩
def uP(a:aK)(lo hi:Int)(y:Int):Prop:=∃x,bR a x/\y=max lo (min x hi)
def agq{a:aK}{lo hi y:Int}(h1:cA lo)(h2:cA hi)(h3:lo<=hi)(h:uP a lo hi y):cA y:=by
 obtain⟨x,_,rfl⟩:=h;obtain⟨a1,a2⟩:=h1;obtain⟨b1,b2⟩:=h2;exact⟨au,au⟩
def Mm(x:Int):nC (· =x) (eE x):= .inr (FB x)
def sM{x:Int}(h:cA x):NV (eE x):= .inr (NN.one h.1 h.2)
def og{Q R:Int->Prop}{c d:aK}{b:Int}(hc:nC Q c)(vc:NV c)(hb:cA b)(hd:nC R d)(vd:NV d):
  (fB d=J->nC (λy=>Q y\/(y=b/\∃x,R x)) c)/\(fB d=O->nC (λy=>Q y\/(y=b/\∃x,R x)) (cE c (eE b))):=by
 rcases (hd.empty vd).2 with ⟨e1,rfl,e3⟩|⟨e1,e2,e3⟩
 ·simp_all
 ·refine⟨λh=> ?_,λ_=>((hc.join (Mm b) vc (sM hb)).congr λx=>⟨λh=>h.elim .inl λh=> .inr ⟨h,_,e3.lo⟩,λh=>h.elim .inl λh=> .inr h.1⟩)⟩;simp_all
def T7{a:aK}(h:NV a)(lo hi:Int):(∃c,m81 a lo hi=V (c,0)/\m86 a lo hi=V (c,0)/\nC (uP a lo hi) c/\NV c/\cA lo/\cA hi/\lo<=hi)\/
  (m81 a lo hi=V (aK.mk 0 0 0,3)/\m86 a lo hi=V (aK.mk 0 0 0,3)/\¬(cA lo/\cA hi/\lo<=hi)):=by
 unfold m81 m86;rw[eV,gp,dZ h,kj,kj,Bn,Bn];simp only;by_cases h1: -1099511627776<=lo/\lo<=1099511627776
 ·by_cases h2: -1099511627776<=hi/\hi<=1099511627776
  ·by_cases h3:hi<lo
   ·right;rw[bX h1,bX h2,bX h3];exact⟨rfl,rfl,λk=>by have:=k.2.2;omega⟩
   ·left;rw[bX h1,bX h2,bW h3];simp only[cK];rw[aL (n:=lo-1)];obtain⟨un,re,e1,r1,r2⟩:=Bq h (lo-1);obtain⟨ins,ov,e2,r3,r4⟩:=Bq r2.1 hi;have mi:∀x,bR ins x↔bR a x/\lo<=x/\x<=hi:=λx=>⟨λk=>let ⟨k1,k2⟩:=(r3.2 x).mp k;let ⟨k3,k4⟩:=(r2.2 x).mp k1;⟨k3,au,k2⟩,λ⟨k1,k2,k3⟩=>(r3.2 x).mpr ⟨(r2.2 x).mpr ⟨k1,au⟩,k3⟩⟩;have mo:∀x,bR ov x↔bR a x/\hi<x:=λx=>⟨λk=>let ⟨k1,k2⟩:=(r4.2 x).mp k;let ⟨k3,k4⟩:=(r2.2 x).mp k1;⟨k3,k2⟩,λ⟨k1,k2⟩=>(r4.2 x).mpr ⟨(r2.2 x).mpr ⟨k1,au⟩,k2⟩⟩;obtain⟨x1,f1,s1⟩:=Cb h (lo-1);obtain⟨x2,f2,s2⟩:=KQ s1.1 hi;obtain⟨x3,f3,s3⟩:=KQ h lo;obtain⟨x4,f4,s4⟩:=Cb h hi;have m2:∀x,bR x2 x↔bR a x/\lo<=x/\x<=hi:=λx=>⟨λk=>let ⟨k1,k2⟩:=(s2.2 x).mp k;let ⟨k3,k4⟩:=(s1.2 x).mp k1;⟨k3,au,k2⟩,λ⟨k1,k2,k3⟩=>(s2.2 x).mpr ⟨(s1.2 x).mpr ⟨k1,au⟩,k3⟩⟩;have rlo:cA lo:=h1;have rhi:cA hi:=h2;have nb:∀b:Bool,(match b with|true=>true|false=>false)=b:=λb=>by cases b<;>rfl
    obtain⟨t1,t2⟩:=og (Ex.rep ⟨r3.1,mi⟩) r3.1 rlo r1.rep r1.1;have P:∃c,(match Gq a (lo-1)with|G=>G|V r3=>match Gq r3.snd hi with|G=>G|V r4=>bif bif fB r3.fst then O else J then match pn r4.fst (jc lo)with|G=>G|V r5=>bif bif fB r4.snd then O else J then match pn r5 (jc hi)with|G=>G|V r6=>V (r6,(0:Int))else V (r5,0)else bif bif fB r4.snd then O else J then match pn r4.fst (jc hi)with|G=>G|V r7=>V (r7,0)else V (r4.fst,0))=V (c,0)/\nC (uP a lo hi) c:=by
     have fin:∀c,NV c->nC (λy=>(bR a y/\lo<=y/\y<=hi)\/(y=lo/\∃x,bR a x/\x<=lo-1)) c->∃d,(bif bif fB ov then O else J then match pn c (jc hi)with|G=>G|V r6=>V (r6,(0:Int))else V (c,0))=V (d,0)/\nC (uP a lo hi) d:=λc vc hc=>by
      obtain⟨u1,u2⟩:=og hc vc rhi (Ex.rep ⟨r4.1,mo⟩) r4.1;have eq:∀y,(((bR a y/\lo<=y/\y<=hi)\/(y=lo/\∃x,bR a x/\x<=lo-1))\/(y=hi/\∃x,bR a x/\hi<x))↔uP a lo hi y:=λy=>by
       constructor
       ·rintro((⟨k1,k2,k3⟩|⟨rfl,x,k1,k2⟩)|⟨rfl,x,k1,k2⟩)
        ·exact⟨y,k1,au⟩
        ·exact⟨x,k1,au⟩
        ·exact⟨x,k1,au⟩
       ·rintro⟨x,k1,rfl⟩;rcases (show x<lo\/hi<x\/(lo<=x/\x<=hi)by omega)with k|k|k
        ·exact .inl (.inr ⟨au,x,k1,au⟩)
        ·exact .inr ⟨au,x,k1,k⟩
        ·rw[show max lo (min x hi)=x by omega];simp_all
      cases ho:fB ov with
      |true=>exact⟨c,rfl,(u1 ho).congr eq⟩
      |false=>
       simp only[ct];rw[ku vc (.inr (show NN (jc hi)from NN.one h2.1 h2.2))];exact⟨_,rfl,(u2 ho).congr eq⟩
     rw[e1];simp only;rw[e2];simp only;cases hu:fB un with
     |true=>
      simp only[cK];exact fin ins r3.1 (t1 hu)
     |false=>
      simp only[ct];rw[ku r3.1 (.inr (show NN (jc lo)from NN.one h1.1 h1.2))];exact fin (cE ins (eE lo)) (eW r3.1 (sM rlo)) (t2 hu)
    obtain⟨c,P1,P2⟩:=P;have vc:NV c:=P2.valid λx hx=>agq rlo rhi au hx;refine⟨c,P1,?_,P2,vc,rlo,rhi,au⟩;have fin:∀c',NV c'->nC (λy=>(bR a y/\lo<=y/\y<=hi)\/(y=lo/\∃x,bR a x/\x<=lo)) c'->(match m42 a hi with|G=>G|V r7=>bif bif l9 r7 then O else J then match nG c' (aK.mk hi hi 0)with|G=>G|V r8=>V (r8,(0:Int))else V (c',0))=V (c,0):=λc' vc' hc'=>by
     obtain⟨u1,u2⟩:=og hc' vc' rhi s4.rep s4.1;have eq:∀y,(((bR a y/\lo<=y/\y<=hi)\/(y=lo/\∃x,bR a x/\x<=lo))\/(y=hi/\∃x,bR a x/\hi<x))↔uP a lo hi y:=λy=>by
      constructor
      ·rintro((⟨k1,k2,k3⟩|⟨rfl,x,k1,k2⟩)|⟨rfl,x,k1,k2⟩)
       ·exact⟨y,k1,au⟩
       ·exact⟨x,k1,au⟩
       ·exact⟨x,k1,au⟩
      ·rintro⟨x,k1,rfl⟩;rcases (show x<lo\/hi<x\/(lo<=x/\x<=hi)by omega)with k|k|k
       ·exact .inl (.inr ⟨au,x,k1,au⟩)
       ·exact .inr ⟨au,x,k1,k⟩
       ·rw[show max lo (min x hi)=x by omega];exact .inl (.inl ⟨k1,k.1,k.2⟩)
     rw[f4];simp only;rw[<-(s4.rep.empty s4.1).1];cases ho:fB x4 with
     |true=>
      rw[((u1 ho).congr eq).uniq P2];rfl
     |false=>
      simp only[cD];rw[gu vc' (.inr (show NN (aK.mk hi hi 0)from NN.one h2.1 h2.2))];rw[show cE c' (aK.mk hi hi 0)=c from((u2 ho).congr eq).uniq P2]
    obtain⟨t1,t2⟩:=og (Ex.rep ⟨s2.1,m2⟩) s2.1 rlo s3.rep s3.1;rw[f1];simp only;rw[f2];rw[f3];simp only;rw[<-(s3.rep.empty s3.1).1];cases hu:fB x3 with
    |true=>
     exact fin x2 s2.1 (t1 hu)
    |false=>
     rw[gu s2.1 (.inr (show NN (aK.mk lo lo 0)from NN.one h1.1 h1.2))];exact fin _ (eW s2.1 (sM rlo)) (t2 hu)
  ·right;rw[bX h1,bW h2];refine⟨?_,rfl,λk=>h2 k.2.1⟩;cases vn (hi<lo)<;>rfl
 ·right;rw[bW h1];refine⟨?_,rfl,λk=>h1 k.1⟩;cases vn (hi<lo)<;>rfl
def mC{a:aK}(h:NV a):cC a=J↔∃x,bR a x/\x≠0:=by
 unfold cC;rcases h with rfl|h
 ·rw[show bY cM=0 from by unfold bY;rw[bC rfl],qE,qE];exact⟨λk=>(by cases k),λ⟨x,k,_⟩=>dU k Ed⟩
 ·have hp:=size_pos h;have h1:=l7 h;have hle:=h.le;have mlo:bR a a.ah:=⟨zj _,h.le,⟨0,au⟩⟩;have mhi:bR a a.ag:=⟨h.le,zj _,h.dvd⟩;by_cases c:1<bY a
  ·rw[bC c];refine⟨λ_=> ?_,λ_=>rfl⟩;by_cases z:a.ah=0
   ·exact⟨a.ag,mhi,λk=>by have:=h1.mpr au;omega⟩
   ·exact⟨a.ah,mlo,z⟩
  ·rw[bL c,bC (show bY a=1 by omega)];have e:=h1.mp au;constructor
   ·intro k;refine⟨a.ah,mlo,λz=> ?_⟩;rw[nL (show bR a 0 by rw[<-z];exact mlo)]at k;cases k
   ·rintro⟨x,k1,k2⟩;rw[jx (show ¬bR a 0 from λk=>by have:=k.1;have:=k.2.1;have:=k1.1;have:=k1.2.1;omega)];rfl
def zero_or{a:aK}(h:NN a):(cC a||cR a 0)=J:=by
 have mlo:bR a a.ah:=⟨zj _,h.le,⟨0,au⟩⟩;by_cases z:a.ah=0
 ·rw[nL (show bR a 0 by rw[<-z];exact mlo),Bool.or_true]
 ·rw[(mC (.inr h)).mpr ⟨_,mlo,z⟩,Bool.true_or]
def ayn(a:aK):aK:=aK.mk (-a.ag) (-a.ah) a.aj
def amm{a:aK}(h:NN a):NN (ayn a):=by
 have:=h.lo;have:=h.hi;have:=h.le
 refine⟨by show _<= -a.ag;omega,by show-a.ah<=_;omega,by show-a.ag<= -a.ah;omega,?_⟩;rcases h.st with ⟨h1,h2⟩|⟨h1,h2,h3⟩
 ·exact .inl ⟨by show-a.ag= -a.ah;omega,h2⟩
 ·refine .inr ⟨by show-a.ag< -a.ah;omega,h2,?_⟩;show (-a.ah- -a.ag)%a.aj=0;rw[show-a.ah- -a.ag=a.ag-a.ah by omega];exact h3
def si(op:Int)(a:aK):aK×Int:=open Classical in
 if¬NV a\/(op≠6/\op≠7)then(aK.mk 0 0 0,1)else if a=cM then(cM,0)else if op=7 then(jb (cC a) (cR a 0),0)else(ayn a,0)
def J2(op:Int):(bif bif vn (op=6)then O else J then V (bif vn (op=7)then O else J)else V O)=V (vn (op≠6/\op≠7)):=by
 by_cases h:op=6
 ·rw[bX h,bW (show ¬(op≠6/\op≠7)from λk=>k.1 h)];rfl
 ·by_cases k:op=7
  ·rw[bW h,bX k,bW (show ¬(op≠6/\op≠7)from λe=>e.2 k)];rfl
  ·rw[bW h,bW k,bX (show op≠6/\op≠7 from⟨h,k⟩)];rfl
def YU{a:aK}(h:NV a)(op:Int):alT op a=V (si op a):=by
 unfold alT si;rw[eV,dZ h];simp only[cD];rw[J2];by_cases ho:op≠6/\op≠7
 ·rw[bX ho,bC (.inr ho)];rfl
 ·rw[bW ho,bL (λk=>k.elim (λe=>e h) ho)];simp only[ct];rcases h with rfl|h
  ·rw[k9,bC rfl];rfl
  ·rw[eN h.ne,bL h.ne,ct];by_cases h7:op=7
   ·rw[bX h7,bC h7,cK,El (.inr h)];simp only;rw[Xe]
   ·rw[bW h7,bL h7,ct];have:=h.lo;have:=h.hi;have:=h.le
    rw[aL (n:=0-a.ag),aL (n:=0-a.ah),xW,xW];rfl
def WZ{a:aK}(h:NV a)(op:Int):ab3 op a=V (si op a):=by
 unfold ab3 si;rw[gp,dZ h];simp only[cD];rw[J2];by_cases ho:op≠6/\op≠7
 ·rw[bX ho,bC (.inr ho)];rfl
 ·rw[bW ho,bL (λk=>k.elim (λe=>e h) ho)];simp only[ct];rcases h with rfl|h
  ·rw[uE,bC rfl];rfl
  ·rw[iw h,bL h.ne,ct];by_cases h7:op=7
   ·rw[bW (show ¬op=6 by omega),bC h7,ct,pE (.inr h)];simp only;rw[V4 (zero_or h)]
   ·rw[bX (show op=6 by omega),bL h7,cK];have:=h.lo;have:=h.hi;have:=h.le
    rw[aL (n:=0-a.ag),aL (n:=0-a.ah),xW,xW];rfl
def Uv:NV (aK.mk 0 0 0):= .inr (NN.one (x:=0) au au)
def o5(x y:Int):Int:=if y=0 then 0 else if x.tmod y≠0/\(vn (x<0))≠(vn (y<0))then x.tdiv y-1 else x.tdiv y
def vJ{x y:Int}(hy:y≠0):∃q r:Int,x.tdiv y=q/\x.tmod y=r/\y*q+r=x/\r.natAbs<y.natAbs/\q.natAbs<=x.natAbs/\(0<=x->0<=r)/\(x<=0->r<=0)/\(r≠0->q.natAbs<x.natAbs):=by
 refine⟨_,_,rfl,rfl,Int.mul_tdiv_add_tmod x y,?_,?_,λh=>Int.tmod_nonneg _ h,λh=> ?_,λh=> ?_⟩
 ·rw[Int.natAbs_tmod];exact xe _ au
 ·rw[Int.natAbs_tdiv];exact Nat.div_le_self _ _
 ·have:=Int.tmod_nonneg (a:= -x) y au;rw[Int.neg_tmod]at this;omega
 ·have e:=Nat.div_add_mod x.natAbs y.natAbs;have hr:(x.tmod y).natAbs≠0:=au;rw[Int.natAbs_tmod]at hr;rw[Int.natAbs_tdiv];have h1:x.natAbs/y.natAbs<=y.natAbs*(x.natAbs/y.natAbs):=Nat.le_mul_of_pos_left _ au;show x.natAbs/y.natAbs<x.natAbs;omega
def R3{x y:Int}(hx:cA x):cA (o5 x y)/\(o5 x y).natAbs<=x.natAbs:=by
 unfold o5;obtain⟨h1,h2⟩:=hx;by_cases hy:y=0
 ·rw[bC hy];exact⟨⟨au,au⟩,au⟩
 ·rw[bL hy];obtain⟨q,r,e1,e2,e3,e4,e5,_,_,e6⟩:=vJ (x:=x) hy;split
  ·rename_i h;exact⟨⟨au,au⟩,au⟩
  ·exact⟨⟨au,au⟩,au⟩
def Uj{x y:Int}(hy:cA y)(h0:y≠0):cA (x-y*o5 x y)/\(0<y->0<=x-y*o5 x y/\x-y*o5 x y<y)/\(y<0->x-y*o5 x y<=0/\y<x-y*o5 x y):=by
 unfold o5;rw[bL h0];obtain⟨h1,h2⟩:=hy;obtain⟨q,r,e1,e2,e3,e4,e5,e7,e8,e6⟩:=vJ (x:=x) h0;rw[e1,e2];by_cases h:r≠0/\vn (x<0)≠vn (y<0)
 ·rw[bC h,Int.mul_sub,Int.mul_one];obtain⟨k1,k2⟩:=h;by_cases c:x<0
  ·have c2:¬y<0:=λk=>k2 (by rw[bX c,bX k]);exact⟨⟨au,au⟩,λ_=>au,λ_=>au⟩
  ·have c2:y<0:=Decidable.byContradiction λk=>k2 (by rw[bW c,bW k]);exact⟨⟨au,au⟩,λ_=>au,λ_=>au⟩
 ·rw[bL h];by_cases k1:r=0
  ·exact⟨⟨au,au⟩,λ_=>au,λ_=>au⟩
  ·have k2:vn (x<0)=vn (y<0):=Decidable.byContradiction λk=>h ⟨k1,k⟩;by_cases c:x<0
   ·have c2:y<0:=by
     simp_all
    exact⟨⟨au,au⟩,λ_=>au,λ_=>au⟩
   ·have c2:¬y<0:=by
     rw[bW c]at k2;exact of_decide_eq_false k2.symm
    exact⟨⟨au,au⟩,λ_=>au,λ_=>au⟩
def Mf{x y:Int}(hx:cA x)(hy:cA y):afr x y=V (o5 x y):=by
 have hR:=R3 (y:=y) hx;unfold afr;unfold o5 at hR ⊢;obtain⟨h1,h2⟩:=hx;by_cases h0:y=0
 ·rw[bX h0,bC h0];rfl
 ·rw[bL h0]at hR;rw[bW h0,bL h0,ct,bC h0,bC h0,DW];obtain⟨q,r,e1,e2,e3,e4,e5,e7,e8,e6⟩:=vJ (x:=x) h0;rw[e1,e2]at hR ⊢;by_cases k1:r=0
  ·rw[bW (show ¬¬r=0 by omega),bL (λk=>k.1 k1)];simp only[ct];rw[aL]
  ·rw[bX k1];simp only[cK];by_cases k2:vn (x<0)=vn (y<0)
   ·rw[bL (λk=>k.2 k2),k2];have:(bif vn (y<0)==vn (y<0)then false else true)=false:=by cases vn (y<0)<;>rfl
    rw[this];simp only[ct];rw[aL]
   ·rw[bC ⟨k1,k2⟩]at hR ⊢;have:(bif vn (x<0)==vn (y<0)then O else J)=J:=by
     revert k2;simp
    rw[this];simp only[cK];rw[aL (n:=q),aL (n:=q-1)]
def Ym{x y:Int}(hx:cA x)(hy:cA y):ajH x y=V (o5 x y):=Mf hx hy
def oT(b:Bool):Int:=if b then 1 else 0
def fO(op x y:Int):Int:=
 if op=8 then x+y else if op=9 then x-y else if op=10 then x*y else if op=11 then o5 x y else if op=12 then(if y=0 then 0 else x-y*o5 x y)
 else if op=13 then oT (vn (x=y))else if op=14 then oT (!vn (x=y))else if op=15 then oT (vn (x<y))else if op=16 then oT (vn (x<=y))else if op=17 then oT (vn (y<x))else if op=18 then oT (vn (y<=x))
 else if op=19 then oT (vn (x≠0/\y≠0))else if op=20 then oT (vn (x≠0\/y≠0))else if op=21 then min x y else max x y
def ug(b:Bool):cA (oT b):=by cases b<;>exact⟨by decide,by decide⟩
def alU{op x y:Int}(hx:cA x)(hy:cA y)(ho:op=11\/op=12\/op=21\/op=22):ajS op x y=V (fO op x y):=by
 unfold ajS fO;rcases ho with rfl|rfl|rfl|rfl
 ·rw[bX rfl,cK,Mf hx hy];rfl
 ·rw[bW (by decide),bX rfl,ct,cK];show _=V (if y=0 then 0 else x-y*o5 x y);by_cases h0:y=0
  ·simp_all
  ·rw[bW h0,bL h0,ct,Mf hx hy];simp only;have hm:=Uj (x:=x) hy h0;obtain⟨a1,a2⟩:=hx;obtain⟨b1,b2⟩:=hy;rw[aL (n:=y*o5 x y),aL]
 ·rw[bW (by decide),bW (by decide),bX rfl];rw[show (if y<x then y else x)=min x y by split<;>omega];rfl
 ·rw[bW (show ¬(22:Int)=11 by decide),bW (show ¬(22:Int)=12 by decide),bW (show ¬(22:Int)=21 by decide)];rw[show (if x<y then y else x)=max x y by split<;>omega];rfl
def binop(op:Int):Prop:=8<=op/\op<=22
def Al{x:Int}(hx:cA x):@Eq Int (jN x 0) ((x.natAbs:Nat):Int):=by
 unfold jN;obtain⟨h1,h2⟩:=hx;by_cases c:x<0
 ·rw[bX c,cK,aL];show @Eq Int (0-x) ((x.natAbs:Nat):Int);omega
 ·rw[bW c,ct,aL];show @Eq Int (x-0) ((x.natAbs:Nat):Int);omega
def ob{x:Int}(hx:cA x):@Eq Int (jV x) ((x.natAbs:Nat):Int):=by
 obtain⟨h1,h2⟩:=hx;obtain⟨k1,k2⟩:=KN (x:=x) au au;grind
def Rb{x y:Int}(h0:x≠0):((1099511627776:Int)/x.natAbs<y.natAbs)↔¬cA (x*y):=by
 have hp:(0:Int)<(x.natAbs:Int):=au;have e:((x*y).natAbs:Int)=(y.natAbs:Int)*(x.natAbs:Int):=by rw[Int.natAbs_mul,wK,zQ]
 have hi:cA (x*y)↔((x*y).natAbs:Int)<=1099511627776:=⟨λ⟨h1,h2⟩=>au,λh=>⟨au,au⟩⟩;rw[hi,e,<-Int.le_ediv_iff_mul_le hp];omega
end Go.Proofs.YtnfljbehcffmcaaGreat
end
