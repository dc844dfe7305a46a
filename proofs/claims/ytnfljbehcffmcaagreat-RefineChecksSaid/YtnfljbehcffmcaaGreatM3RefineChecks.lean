/- Merged: Hn, Gd, Ho, Pl, Nd, Nd2, Nd3, Nd4, Nd5, Nd6, Nd7, Ne1, Pl2, Ne2, Ne3, Ne4, Ne5, Ne6, Ne7, Ne8, Ne11, Ne12. -/
import Derived.Test.YtnfljbehcffmcaaGreatM1RefineChecks
import Derived.Test.YtnfljbehcffmcaaGreatM2RefineChecks
import Derived.KernelRfl
open Nat renaming le_refl -> zl, zero_le -> yU, mod_lt -> xe, lt_succ_iff_lt_or_eq -> xk
open List renaming getElem?_eq_getElem -> zm, mem_singleton -> zo, all_eq_true -> zw, mem_cons -> zx, take_length -> zy, length_take -> zD, range -> zH, mem_append -> zP, length -> zY, drop -> ya, getElem_of_mem -> xd, getElem_take -> xK, getElem_mem -> xP, length_pos_iff -> wH, any_eq_true -> wN
open Int renaming toNat_natCast -> zg, le_refl -> zj, toNat -> zq, mul_nonneg -> zJ, mul_le_mul_of_nonneg_right -> zN, mul_comm -> zQ, ediv_nonneg -> zS, add_mul -> zU, dvd_trans -> zZ, mul_assoc -> yb, one_mul -> yc, ediv_le_self -> yl, dvd_sub -> yz, sub_mul -> yD, gcd -> yE, mul_ediv_add_emod -> yW, emod_nonneg -> yX, mul_le_mul -> yY, dvd_add -> yZ, emod_lt_of_pos -> y6, ediv_mul_le -> xo, mul_add -> xF, dvd_mul_left -> xG, dvd_zero -> xM, le_of_lt -> xU, le_trans -> xV, zero_sub -> xW, ediv_mul_cancel -> wm, natCast_mul -> wK, lt_of_mul_lt_mul_right -> wO, ediv_lt_of_lt_mul -> wZ, eq_ofNat_of_zero_le -> w9, mul_le_mul_of_nonneg_left -> va, dvd_of_emod_eq_zero -> ve, lt_ediv_add_one_mul_self -> vf
open Bool renaming and_eq_true -> zi, or_eq_true -> yC, true -> J, false -> O
open Option renaming some -> zF, some -> V, none -> G
open Decidable renaming decide -> vn
open Go.Proofs.Tryz renaming prog -> vp
open Go.Proofs.Tryz
set_option linter.unusedSectionVars false
set_option linter.unusedVariables false
set_option linter.unusedSimpArgs false
set_option linter.defProp false
noncomputable section
set_option maxRecDepth 100000
namespace Go.Proofs.YtnfljbehcffmcaaGreat
open Go Go.Iv
open Go.IntKind (i64 u64)
abbrev E80:=aK
def d80:Td 0 E80:= .c [] [2] (.r 0 1 (ec 2 (qp 0 0) en) (sb 0 34 (lg 34) sn) (λz=>z.2.1) (λx=>(((),()),(x,()))))
def m80(a0:Int):E80:=
 aK.mk a0 a0 (0)
def e80:=eL vp 80 O (aU ln) d80 (λg=>V (m80 g.1))
def MJ:EO e80:=λh=>kL (an:= .no) func80 aV aH h
def as7:bu:=dA
abbrev arv:=Bool
def d145:Td 0 arv:= .c [] [2] (.r 0 0 (ec 2 qb en) sn (λz=>z.1.1) (λx=>((x,()),(()))))
def axH:=(aU ln)
def apJ:An:=(noTwo (.two (.rb [] 2) .no))
def aAe:∀f∈([]:af Nat),bA (as7) f:=aH
def jy(a0:Int):arv:=
 let r1:Bool:=bif vn (-1099511627776<=a0)then vn (a0<=1099511627776)else O;r1
def aIg(a0:Int):bZ vp (as7) 300 (apJ) 145 (axH.c (a0,())) [] 0 d145.rd=V (jy a0):=by
 refine Eq.trans (b:=(
  match bif vn (-1099511627776<=a0)then V (vn (a0<=1099511627776))else V (O)with|G=>G|V r1=>V (r1):aa arv)) aY ?_
 simp only[jy,cq,cO]
def ZC:=eL vp 145 O axH d145 (λg=>V (jy g.1))
def BR:EO ZC:=λh=>kL (F:=as7) (an:=apJ) (l:=[(.skip,(.rb [] 2))]) func145 aV (aA aAe aH) h (c:=λg=>aIg g.1)
def jX:EP ZC:=λh=>kP h
def ax0:bu:=dA
abbrev ax8:=aK
def d224:Td 0 ax8:= .c [] [0] (.r 0 1 (ec 0 (qp 0 0) en) (sb 0 34 (lg 34) sn) (λz=>z.2.1) (λx=>(((),()),(x,()))))
def aw2:=ln
def ao3:An:= .no
def jt:ax8:=
 aK.mk (1) (0) (0)
def aEt:bZ vp (ax0) 300 (ao3) 224 (aw2.c ()) [] 0 d224.rd=V (jt):=aY
def RN:=eL vp 224 O aw2 d224 (λ_=>V (jt))
def kG:EO RN:=λh=>kL (F:=ax0) (an:=ao3) func224 aV aH h (c:=λ_=>aEt)
def lX:EP RN:=λh=>kP h
def aEW:bu:=(RN dA)
abbrev as8:=Bool
def d147:Td 0 as8:= .c [] [2] (.r 0 0 (ec 2 qb en) sn (λz=>z.1.1) (λx=>((x,()),(()))))
def aCT:=(lc (qg 34) ln)
def aow:An:= .no
def fB(a0:aK):as8:=
 bif vn (a0.ah=jt.ah)then bif vn (a0.ag=jt.ag)then bif vn (a0.aj=jt.aj)then J else O else O else O
def aHu(a0:aK):bZ vp (aEW) 300 (aow) 147 (aCT.c (a0,())) [] 0 d147.rd=V (fB a0):=by
 refine Eq.trans (b:=(
  V (bif vn (a0.ah=jt.ah)then bif vn (a0.ag=jt.ag)then bif vn (a0.aj=jt.aj)then J else O else O else O):aa as8)) aY ?_
 simp only[fB,cq,cO]
def Gf:=eL vp 147 O aCT d147 (λg=>V (fB g.1))
def jC:EO Gf:=λh=>kL (an:=aow) func147 (kG aV) aH h (c:=λg=>aHu g.1)
def fC:EP Gf:=λh=>kP h
def ayk:bu:=(Gf (ZC dA))
abbrev ayd:=Bool
def d144:Td 0 ayd:= .c [] [2] (.r 0 0 (ec 2 qb en) sn (λz=>z.1.1) (λx=>((x,()),(()))))
def aoF:∀f∈([145]:af Nat),bA (ayk) f:=(aA (fC (jX bG)) aH)
def Bb(a0:aK):aa ayd:=
 bif fB a0 then V J else match bif bif jy a0.ah then O else J then V J else bif bif jy a0.ag then O else J then V J else V (vn (a0.ag<a0.ah))with|G=>G|V r1=>bif r1 then V O else bif vn (a0.ah=a0.ag)then V (vn (a0.aj=0))else match bif vn (1<=a0.aj)then if¬a0.aj=0then V (vn ((ak (a0.ag-a0.ah)).tmod a0.aj=0))else G else V O with|G=>G|V r2=>V (r2)
def Oz:=eL vp 144 O (lc (qg 34) ln) d144 (λg=>Bb g.1)
def lN:EO Oz:=λh=>kL (F:=ayk) (an:=(noTwo (noTwo (.two (.two (.rb [145] 21) .no) (noTwo (.two (.rb [145] 2) .no)))))) (l:=[(.skip,(.rb [145] 21)),(.skip,(.rb [145] 2))]) func144 (jC (BR aV)) (aA aoF (aA aoF aH)) h
def gj:EP Oz:=λh=>kP h
abbrev aDs:=aK
def d149:Td 0 aDs:= .c [] [2] (.r 0 1 (ec 2 (qp 0 0) en) (sb 0 34 (lg 34) sn) (λz=>z.2.1) (λx=>(((),()),(x,()))))
def iY(a0:Int):aDs:=
 aK.mk a0 a0 (0)
def anS:=eL vp 149 O (aU ln) d149 (λg=>V (iY g.1))
def tG:EO anS:=λh=>kL (an:= .no) func149 aV aH h
def aav:EP anS:=λh=>kP h
abbrev aAh:=aK
def d225:Td 0 aAh:= .c [] [6] (.r 0 1 (ec 6 (qp 0 0) en) (sb 0 34 (lg 34) sn) (λz=>z.2.1) (λx=>(((),()),(x,()))))
def oA(a0:Int)(a1:Int)(a2:Int):aa aAh:=
 bif vn (a1<a0)then V (jt)else bif vn (a2=0)then V (iY a0)else if¬a2=0then bif vn (a0=ak (a0+ak (ak ((ak (a1-a0)).tdiv a2)*a2)))then V (iY a0)else V (aK.mk a0 (ak (a0+ak (ak ((ak (a1-a0)).tdiv a2)*a2))) a2)else G
def Ta:=eL vp 225 O (aU (aU (aU ln))) d225 (λg=>oA g.1 g.2.1 g.t.1)
def tu:EO Ta:=λh=>kL (an:= .no) func225 (kG (tG aV)) aH h
def j5:EP Ta:=λh=>kP h
def aw5:bu:=(Ta (RN (Gf dA)))
abbrev ay6:=aK×aK
def d146:Td 0 ay6:= .c [] [4,5] (.r 0 2 (ec 4 (qp 0 0) (ec 5 (qp 1 0) en)) (sb 0 34 (lg 34) (sb 1 34 (lg 34) sn)) (λz=>(z.2.1,z.t.1)) (λx=>(((),(),()),(x.1,x.2,()))))
def aCs:∀f∈([147]:af Nat),bA (aw5) f:=(aA (j5 (lX (fC bG))) aH)
def HH(a0:aK)(a1:Int):aa ay6:=
 match bif fB a0 then V (J)else V (vn (a1<a0.ah))with|G=>G|V r1=>bif r1 then V ((jt,a0))else bif vn (a0.ag<=a1)then V ((a0,jt))else match oA a0.ah a1 a0.aj with|G=>G|V r2=>match oA (ak (r2.ag+a0.aj)) a0.ag a0.aj with|G=>G|V r3=>V ((r2,r3))
def aim:=eL vp 146 O (lc (qg 34) (aU ln)) d146 (λg=>HH g.1 g.2.1)
def LM:EO aim:=λh=>kL (F:=aw5) (an:=(noTwo (.two (.two (.rb [147] 7) .no) .no))) (l:=[(.skip,(.rb [147] 7))]) func146 (tu (kG (jC aV))) (aA aCs aH) h
def Z8:EP aim:=λh=>kP h
structure mg where
 (t3 t5:Int)
 t6:List Int
 (t7 t8:Int)
def TR:Td 0 mg:= .c [] [3,5,6,7,8] (.r 0 0 (ec 3 aP (ec 5 aP (ec 6 (ql 3) (ec 7 aP (ec 8 aP en))))) sn (λz=>⟨z.1.1,z.1.2.1,z.1.t.1,z.1.t.2.1,z.1.q.1⟩) (λx=>((x.t3,x.t5,x.t6,x.t7,x.t8,()),(()))))
def qd{α:Type}(p:mg)(go:mg->aa α)(e1:aa α):aa α:=
 bif bif vn (p.t5=0)then O else J then if¬p.t5=0then go (mg.mk p.t5 (p.t3.tmod p.t5) p.t6 p.t7 p.t8)else G else e1
def uC(p:mg):aa (aa mg):=
 qd p (λs=>V (V s)) (V G)
def IM:=bI (uC)
structure pV where
 t3:Int
 t6:List Int
 (t7 t8:Int)
def SO:Td 0 pV:= .c [] [3,6,7,8] (.r 0 0 (ec 3 aP (ec 6 (ql 3) (ec 7 aP (ec 8 aP en)))) sn (λz=>⟨z.1.1,z.1.2.1,z.1.t.1,z.1.t.2.1⟩) (λx=>((x.t3,x.t6,x.t7,x.t8,()),(()))))
def vL{α:Type}(p:pV)(go:pV->aa α)(e1:aa α):aa α:=
 bif vn (p.t8<p.t7)then if 0<=p.t8/\p.t8<zY p.t6 then match IM (mg.mk p.t3 p.t6[zq p.t8]! p.t6 p.t7 p.t8)with|G=>G|V r1=>qd r1 (λ_=>G) (go (pV.mk r1.t3 r1.t6 r1.t7 (ak (r1.t8+1))))else G else e1
def vv(p:pV):aa (aa pV):=
 vL p (λs=>V (V s)) (V G)
def aa4:An:=(noTwo (noTwo (.two (noTwo (TR.lp IM .no)) .no)))
def GB:=bI (vv)
abbrev aDg:=Int
def d226:Td 0 aDg:= .c [] [2] (.r 0 0 (ec 2 aP en) sn (λz=>z.1.1) (λx=>((x,()),(()))))
def Eg(a0:af Int):aa aDg:=
 match GB (pV.mk 0 a0 (zY a0) 0)with|G=>G|V r2=>vL r2 (λ_=>G) (V (r2.t3))
def aeZ:=eL vp 226 O (lc (ql 3) ln) d226 (λg=>Eg g.1)
def EE:EO aeZ:=λh=>kL (an:=(noTwo (noTwo (.two (noTwo (SO.lp GB aa4)) .no)))) (l:=[(bk f226 0,(SO.lp GB aa4)),(bk f226 1,(TR.lp IM .no))]) func226 aV (aA (aO SO) (aA (aO TR) aH)) h
def oc:EP aeZ:=λh=>kP h
def aFl:bu:=dA
abbrev asQ:=Int
def d227:Td 0 asQ:= .c [] [2] (.r 0 0 (ec 2 aP en) sn (λz=>z.1.1) (λx=>((x,()),(()))))
def aAI:=(aU ln)
def ao0:An:= .no
def j8(a0:Int):asQ:=
 if a0<ak (0-a0)then ak (0-a0)else a0
def aGV(a0:Int):bZ vp (aFl) 300 (ao0) 227 (aAI.c (a0,())) [] 0 d227.rd=V (j8 a0):=by
 refine Eq.trans (b:=(
  V (if a0<ak (0-a0)then ak (0-a0)else a0):aa asQ)) aY ?_
 simp only[j8,cq,cO]
def acL:=eL vp 227 O aAI d227 (λg=>V (j8 g.1))
def EF:EO acL:=λh=>kL (an:=ao0) func227 aV aH h (c:=λg=>aGV g.1)
def J7:EP acL:=λh=>kP h
def aC0:bu:=(acL (aeZ (Ta (Gf dA))))
abbrev aCz:=aK
def d148:Td 0 aCz:= .c [] [4] (.r 0 1 (ec 4 (qp 0 0) en) (sb 0 34 (lg 34) sn) (λz=>z.2.1) (λx=>(((),()),(x,()))))
def ayQ:∀f∈([147]:af Nat),bA (aC0) f:=(aA (J7 (oc (j5 (fC bG)))) aH)
def pT(a0:aK)(a1:aK):aa aCz:=
 bif fB a0 then V (a1)else match bif fB a1 then V (J)else V (bif vn (a0.ah=a1.ah)then bif vn (a0.ag=a1.ag)then bif vn (a0.aj=a1.aj)then J else O else O else O)with|G=>G|V r1=>bif r1 then V (a0)else match Eg [a0.aj,a1.aj,j8 (ak (a0.ah-a1.ah))]with|G=>G|V r2=>match oA (if a1.ah<a0.ah then a1.ah else a0.ah) (if a0.ag<a1.ag then a1.ag else a0.ag) r2 with|G=>G|V r3=>V (r3)
def aed:=eL vp 148 O (lc (qg 34) (lc (qg 34) ln)) d148 (λg=>pT g.1 g.2.1)
def tw:EO aed:=λh=>kL (F:=aC0) (an:=(noTwo (noTwo (.two (.two (.rb [147] 14) .no) .no)))) (l:=[(.skip,(.rb [147] 14))]) func148 (EF (EE (tu (jC aV)))) (aA ayQ aH) h
def Kl:EP aed:=λh=>kP h
def F81:bu:=(anS (aed (Gf (aim (ZC (Oz dA))))))
abbrev E81:=aK×Int
def d81:Td 0 E81:= .c [] [6,7] (.r 0 1 (ec 6 (qp 0 0) (ec 7 aP en)) (sb 0 34 (lg 34) sn) (λz=>(z.2.1,z.1.2.1)) (λx=>(((),x.2,()),(x.1,()))))
def aG3:∀f∈([145]:af Nat),bA (F81) f:=(aA (aav (Kl (fC (Z8 (jX (gj bG)))))) aH)
def m81(a0:aK)(a1:Int)(a2:Int):aa E81:=
 match Bb a0 with|G=>G|V r1=>bif bif r1 then O else J then V ((aK.mk (0) (0) (0),1))else match bif vn (a2<a1)then V (J)else bif bif jy a1 then O else J then V (J)else V (bif jy a2 then O else J)with|G=>G|V r2=>bif r2 then V ((aK.mk (0) (0) (0),3))else match HH a0 (ak (a1-1))with|G=>G|V r3=>match HH r3.snd a2 with|G=>G|V r4=>bif bif fB r3.fst then O else J then match pT r4.fst (iY a1)with|G=>G|V r5=>bif bif fB r4.snd then O else J then match pT r5 (iY a2)with|G=>G|V r6=>V ((r6,0))else V ((r5,0))else bif bif fB r4.snd then O else J then match pT r4.fst (iY a2)with|G=>G|V r7=>V ((r7,0))else V ((r4.fst,0))
def e81:=eL vp 81 O (lc (qg 34) (aU (aU ln))) d81 (λg=>m81 g.1 g.2.1 g.t.1)
def Ut:EO e81:=λh=>kL (F:=F81) (an:=(noTwo (noTwo (.two (.two (.rb [145] 28) .no) .no)))) (l:=[(.skip,(.rb [145] 28))]) func81 (tG (tw (jC (LM (BR (lN aV)))))) (aA aG3 aH) h
def aza:bu:=(Gf dA)
abbrev aDp:=Bool
def d177:Td 0 aDp:= .c [] [4] (.r 0 0 (ec 4 qb en) sn (λz=>z.1.1) (λx=>((x,()),(()))))
def aoL:∀f∈([147]:af Nat),bA (aza) f:=(aA (fC bG) aH)
def Ze(a0:aK)(a1:Int):aa aDp:=
 match bif fB a0 then V J else bif vn (a1<a0.ah)then V J else V (vn (a0.ag<a1))with|G=>G|V r1=>bif r1 then V O else match bif vn (a0.aj=0)then V J else if¬a0.aj=0then V (vn ((ak (a1-a0.ah)).tmod a0.aj=0))else G with|G=>G|V r2=>V (r2)
def ahy:=eL vp 177 O (lc (qg 34) (aU ln)) d177 (λg=>Ze g.1 g.2.1)
def MY:EO ahy:=λh=>kL (F:=aza) (an:=(noTwo (.two (.two (.rb [147] 18) .no) (.two (.rb [147] 4) .no)))) (l:=[(.skip,(.rb [147] 18)),(.skip,(.rb [147] 4))]) func177 (jC aV) (aA aoL (aA aoL aH)) h
def C9:EP ahy:=λh=>kP h
def F92:bu:=(ahy (Oz dA))
abbrev E92:=Bool
def d92:Td 0 E92:= .c [] [4] (.r 0 0 (ec 4 qb en) sn (λz=>z.1.1) (λx=>((x,()),(()))))
def aGU:∀f∈([144,177]:af Nat),bA (F92) f:=(aA (C9 (gj bG)) (aA (C9 (gj bG)) aH))
def m92(a0:aK)(a1:Int):aa E92:=
 match match Bb a0 with|G=>G|V r1=>bif r1 then match Ze a0 a1 with|G=>G|V r2=>V (r2)else V (O)with|G=>G|V r3=>V (r3)
def e92:=eL vp 92 O (lc (qg 34) (aU ln)) d92 (λg=>m92 g.1 g.2.1)
def UX:EO e92:=λh=>kL (F:=F92) (an:=(noTwo (.two (.rb [144,177] 4) .no))) (l:=[(.skip,(.rb [144,177] 4))]) func92 (MY (lN aV)) (aA aGU aH) h
abbrev aB7:=Int
def d176:Td 0 aB7:= .c [] [2] (.r 0 0 (ec 2 aP en) sn (λz=>z.1.1) (λx=>((x,()),(()))))
def Cm(a0:aK):aa aB7:=
 bif fB a0 then V 0 else bif vn (a0.aj=0)then V 1 else if¬a0.aj=0then V (ak (ak ((ak (a0.ag-a0.ah)).tdiv a0.aj)+1))else G
def arp:=eL vp 176 O (lc (qg 34) ln) d176 (λg=>Cm g.1)
def Bh:EO arp:=λh=>kL (an:= .no) func176 (jC aV) aH h
def Zl:EP arp:=λh=>kP h
abbrev aAT:=Bool×Bool
def d228:Td 0 aAT:= .c [] [2,3] (.r 0 0 (ec 2 qb (ec 3 qb en)) sn (λz=>(z.1.1,z.1.2.1)) (λx=>((x.1,x.2,()),(()))))
def UG(a0:aK):aa aAT:=
 match Ze a0 (0)with|G=>G|V r1=>match Cm a0 with|G=>G|V r2=>bif vn (1<r2)then V ((r1,J))else match Cm a0 with|G=>G|V r3=>bif vn (r3=1)then V ((r1,bif vn (a0.ah=0)then O else J))else V ((r1,O))
def aj5:=eL vp 228 O (lc (qg 34) ln) d228 (λg=>UG g.1)
def LU:EO aj5:=λh=>kL (an:= .no) func228 (MY (Bh aV)) aH h
def Kb:EP aj5:=λh=>kP h
abbrev ayS:=Bool×Bool
def d151:Td 0 ayS:= .c [] [2,3] (.r 0 0 (ec 2 qb (ec 3 qb en)) sn (λz=>(z.1.1,z.1.2.1)) (λx=>((x.1,x.2,()),(()))))
def T9(a0:aK):aa ayS:=
 match Bb a0 with|G=>G|V r1=>bif bif r1 then O else J then V ((O,O))else match UG a0 with|G=>G|V r2=>V (r2)
def agJ:=eL vp 151 O (lc (qg 34) ln) d151 (λg=>T9 g.1)
def Lu:EO agJ:=λh=>kL (an:= .no) func151 (LU (lN aV)) aH h
def axg:bu:=(aed (Oz dA))
abbrev azD:=aK×Int
def d229:Td 0 azD:= .c [] [4,5] (.r 0 1 (ec 4 (qp 0 0) (ec 5 aP en)) (sb 0 34 (lg 34) sn) (λz=>(z.2.1,z.1.2.1)) (λx=>(((),x.2,()),(x.1,()))))
def aBY:∀f∈([144]:af Nat),bA (axg) f:=(aA (Kl (gj bG)) aH)
def aii(a0:aK)(a1:aK):aa azD:=
 match match Bb a0 with|G=>G|V r1=>bif bif r1 then O else J then V (J)else match Bb a1 with|G=>G|V r2=>V (bif r2 then O else J)with|G=>G|V r3=>bif r3 then V ((aK.mk (0) (0) (0),1))else match pT a0 a1 with|G=>G|V r4=>V ((r4,0))
def aFx:=eL vp 229 O (lc (qg 34) (lc (qg 34) ln)) d229 (λg=>aii g.1 g.2.1)
def akm:EO aFx:=λh=>kL (F:=axg) (an:=(noTwo (.two (.two (.rb [144] 13) .no) .no))) (l:=[(.skip,(.rb [144] 13))]) func229 (tw (lN aV)) (aA aBY aH) h
abbrev aCr:=aK
def d152:Td 0 aCr:= .c [] [4] (.r 0 1 (ec 4 (qp 0 0) en) (sb 0 34 (lg 34) sn) (λz=>z.2.1) (λx=>(((),()),(x,()))))
def FM(a0:aK)(a1:aK):aa aCr:=
 bif bif vn (a0.ah=a1.ah)then bif vn (a0.ag=a1.ag)then bif vn (a0.aj=a1.aj)then J else O else O else O then V (a0)else match aii a0 a1 with|G=>G|V r1=>V (r1.fst)
def axx:=eL vp 152 O (lc (qg 34) (lc (qg 34) ln)) d152 (λg=>FM g.1 g.2.1)
def MG:EO axx:=λh=>kL (an:= .no) func152 (akm aV) aH h
def aB5:bu:=(RN dA)
abbrev aBd:=aK
def d153:Td 0 aBd:= .c [] [0] (.r 0 1 (ec 0 (qp 0 0) en) (sb 0 34 (lg 34) sn) (λz=>z.2.1) (λx=>(((),()),(x,()))))
def axC:=ln
def aqh:An:= .no
def ak3:aBd:=
 jt
def aFZ:bZ vp (aB5) 300 (aqh) 153 (axC.c ()) [] 0 d153.rd=V (ak3):=aY
def aDy:=eL vp 153 O axC d153 (λ_=>V (ak3))
def ahu:EO aDy:=λh=>kL (F:=aB5) (an:=aqh) func153 (kG aV) aH h (c:=λ_=>aFZ)
abbrev aC7:=aK
def d230:Td 0 aC7:= .c [] [4] (.r 0 1 (ec 4 (qp 0 0) en) (sb 0 34 (lg 34) sn) (λz=>z.2.1) (λx=>(((),()),(x,()))))
def qu(a0:Bool)(a1:Bool):aa aC7:=
 bif a0 then match pT jt (iY (0))with|G=>G|V r1=>bif a1 then match pT r1 (iY (1))with|G=>G|V r2=>V (r2)else V (r1)else bif a1 then match pT jt (iY (1))with|G=>G|V r3=>V (r3)else V (jt)
def ai0:=eL vp 230 O (lc qb (lc qb ln)) d230 (λg=>qu g.1 g.2.1)
def WY:EO ai0:=λh=>kL (an:= .no) func230 (kG (tG (tw aV))) aH h
def Kv:EP ai0:=λh=>kP h
def aCq:bu:=(ai0 (aj5 (Gf (Oz dA))))
abbrev azC:=aK×Int
def d154:Td 0 azC:= .c [] [4,5] (.r 0 1 (ec 4 (qp 0 0) (ec 5 aP en)) (sb 0 34 (lg 34) sn) (λz=>(z.2.1,z.1.2.1)) (λx=>(((),x.2,()),(x.1,()))))
def aBj:∀f∈([144]:af Nat),bA (aCq) f:=(aA (Kv (Kb (fC (gj bG)))) aH)
def anh(a0:Int)(a1:aK):aa azC:=
 match match Bb a1 with|G=>G|V r1=>bif bif r1 then O else J then V (J)else bif bif vn (a0=6)then O else J then V (bif vn (a0=7)then O else J)else V (O)with|G=>G|V r2=>bif r2 then V ((aK.mk (0) (0) (0),1))else bif fB a1 then V ((a1,0))else bif vn (a0=7)then match UG a1 with|G=>G|V r3=>match qu r3.snd r3.fst with|G=>G|V r4=>V ((r4,0))else V ((aK.mk (ak (0-a1.ag)) (ak (0-a1.ah)) a1.aj,0))
def ay3:=eL vp 154 O (aU (lc (qg 34) ln)) d154 (λg=>anh g.1 g.2.1)
def al6:EO ay3:=λh=>kL (F:=aCq) (an:=(noTwo (.two (.two (.rb [144] 18) .no) .no))) (l:=[(.skip,(.rb [144] 18))]) func154 (WY (LU (jC (lN aV)))) (aA aBj aH) h
def aG4:bu:=dA
abbrev awf:=Bool
def d231:Td 0 awf:= .c [] [2] (.r 0 0 (ec 2 qb en) sn (λz=>z.1.1) (λx=>((x,()),(()))))
def aAG:=(aU ln)
def aqP:An:= .no
def Ee(a0:Int):awf:=
 bif vn (a0=8)then J else bif vn (a0=9)then J else bif vn (a0=10)then J else bif vn (a0=11)then J else bif vn (a0=12)then J else bif vn (a0=13)then J else bif vn (a0=14)then J else bif vn (a0=15)then J else bif vn (a0=16)then J else bif vn (a0=17)then J else bif vn (a0=18)then J else bif vn (a0=19)then J else bif vn (a0=20)then J else bif vn (a0=21)then J else bif vn (a0=22)then J else O
def aFp(a0:Int):bZ vp (aG4) 300 (aqP) 231 (aAG.c (a0,())) [] 0 d231.rd=V (Ee a0):=by
 refine Eq.trans (b:=(
  bif vn (a0=8)then V (J)else bif vn (a0=9)then V (J)else bif vn (a0=10)then V (J)else bif vn (a0=11)then V (J)else bif vn (a0=12)then V (J)else bif vn (a0=13)then V (J)else bif vn (a0=14)then V (J)else bif vn (a0=15)then V (J)else bif vn (a0=16)then V (J)else bif vn (a0=17)then V (J)else bif vn (a0=18)then V (J)else bif vn (a0=19)then V (J)else bif vn (a0=20)then V (J)else bif vn (a0=21)then V (J)else bif vn (a0=22)then V (J)else V (O):aa awf)) aY ?_
 simp only[Ee,cq,cO]
def asx:=eL vp 231 O aAG d231 (λg=>V (Ee g.1))
def akL:EO asx:=λh=>kL (an:=aqP) func231 aV aH h (c:=λg=>aFp g.1)
def tK:EP asx:=λh=>kP h
def axz:bu:=(acL dA)
abbrev azr:=Int×Bool
def d274:Td 0 azr:= .c [] [4,5] (.r 0 0 (ec 4 aP (ec 5 qb en)) sn (λz=>(z.1.1,z.1.2.1)) (λx=>((x.1,x.2,()),(()))))
def aA4:∀f∈([227]:af Nat),bA (axz) f:=(aA (J7 bG) aH)
def Su(a0:Int)(a1:Int):aa azr:=
 match bif bif vn (a0=0)then O else J then if¬j8 a0=0then V (vn (ak ((1099511627776:Int).tdiv (j8 a0))<j8 a1))else G else V O with|G=>G|V r1=>bif r1 then V (0,O)else V ((ak (a0*a1),J))
def aH8:=eL vp 274 O (aU (aU ln)) d274 (λg=>Su g.1 g.2.1)
def ana:EO aH8:=λh=>kL (F:=axz) (an:=(noTwo (.two (.two (.rb [227] 15) .no) .no))) (l:=[(.skip,(.rb [227] 15))]) func274 (EF aV) (aA aA4 aH) h
structure pE where
 t0:List Int
 (t3 t4:Int)
def Vz:Td 0 pE:= .c [] [0,3,4] (.r 0 0 (ec 0 (ql 3) (ec 3 aP (ec 4 aP en))) sn (λz=>⟨z.1.1,z.1.2.1,z.1.t.1⟩) (λx=>((x.t0,x.t3,x.t4,()),(()))))
def F8{α:Type}(p:pE)(go:pE->aa α)(e1:aa α):aa α:=
 bif vn (p.t4<zY p.t0)then if 0<=p.t4/\p.t4<zY p.t0 then go (pE.mk p.t0 (if((p.t0,p.t3,p.t4,()),()).fst.fst[((p.t0,p.t3,p.t4,()),()).fst.snd.snd.fst.toNat]! <((p.t0,p.t3,p.t4,()),()).fst.snd.fst then p.t0[zq p.t4]! else p.t3) (ak (p.t4+1)))else G else e1
def G2(p:pE):aa (aa pE):=
 F8 p (λs=>V (V s)) (V G)
def KQ:=bI (G2)
abbrev axu:=Int
def d275:Td 0 axu:= .c [] [2] (.r 0 0 (ec 2 aP en) sn (λz=>z.1.1) (λx=>((x,()),(()))))
def alQ(a0:af Int):aa axu:=
 bif vn ((zY a0:Int)<1)then G else if(0:Int)<=(0:Int)/\(0:Int)<zY a0 then match KQ (pE.mk a0 a0[0]! (1))with|G=>G|V r1=>F8 r1 (λ_=>G) (V (r1.t3))else G
def aGF:=eL vp 275 O (lc (ql 3) ln) d275 (λg=>alQ g.1)
def ai3:EO aGF:=λh=>kL (an:=(noTwo (noTwo (noTwo (.two (noTwo (Vz.lp KQ .no)) .no))))) (l:=[(bk f275 0,(Vz.lp KQ .no))]) func275 aV (aA (aO Vz) aH) h
structure pM where
 t0:List Int
 (t3 t4:Int)
def Ss:Td 0 pM:= .c [] [0,3,4] (.r 0 0 (ec 0 (ql 3) (ec 3 aP (ec 4 aP en))) sn (λz=>⟨z.1.1,z.1.2.1,z.1.t.1⟩) (λx=>((x.t0,x.t3,x.t4,()),(()))))
def Io{α:Type}(p:pM)(go:pM->aa α)(e1:aa α):aa α:=
 bif vn (p.t4<zY p.t0)then if 0<=p.t4/\p.t4<zY p.t0 then go (pM.mk p.t0 (if((p.t0,p.t3,p.t4,()),()).fst.snd.fst<((p.t0,p.t3,p.t4,()),()).fst.fst[((p.t0,p.t3,p.t4,()),()).fst.snd.snd.fst.toNat]! then p.t0[zq p.t4]! else p.t3) (ak (p.t4+1)))else G else e1
def FI(p:pM):aa (aa pM):=
 Io p (λs=>V (V s)) (V G)
def La:=bI (FI)
abbrev ayj:=Int
def d276:Td 0 ayj:= .c [] [2] (.r 0 0 (ec 2 aP en) sn (λz=>z.1.1) (λx=>((x,()),(()))))
def aih(a0:af Int):aa ayj:=
 bif vn ((zY a0:Int)<1)then G else if(0:Int)<=(0:Int)/\(0:Int)<zY a0 then match La (pM.mk a0 a0[0]! (1))with|G=>G|V r1=>Io r1 (λ_=>G) (V (r1.t3))else G
def aGN:=eL vp 276 O (lc (ql 3) ln) d276 (λg=>aih g.1)
def akN:EO aGN:=λh=>kL (an:=(noTwo (noTwo (noTwo (.two (noTwo (Ss.lp La .no)) .no))))) (l:=[(bk f276 0,(Ss.lp La .no))]) func276 aV (aA (aO Ss) aH) h
abbrev aCB:=aK×Int
def d232:Td 0 aCB:= .c [] [4,5] (.r 0 1 (ec 4 (qp 0 0) (ec 5 aP en)) (sb 0 34 (lg 34) sn) (λz=>(z.2.1,z.1.2.1)) (λx=>(((),x.2,()),(x.1,()))))
def aaP(a0:aK)(a1:aK):aa aCB:=
 match Su a0.ah a1.ah with|G=>G|V r1=>bif bif r1.snd then O else J then V ((aK.mk (0) (0) (0),3))else match Su a0.ah a1.ag with|G=>G|V r2=>bif bif r2.snd then O else J then V ((aK.mk (0) (0) (0),3))else match Su a0.ag a1.ah with|G=>G|V r3=>bif bif r3.snd then O else J then V ((aK.mk (0) (0) (0),3))else match Su a0.ag a1.ag with|G=>G|V r4=>bif bif r4.snd then O else J then V ((aK.mk (0) (0) (0),3))else match Eg [ak (a0.aj*j8 a1.ah),ak (a1.aj*j8 a0.ah),ak (a0.aj*a1.aj)]with|G=>G|V r5=>match alQ ([r1.fst]++[r2.fst]++[r3.fst]++[r4.fst])with|G=>G|V r6=>match aih ([r1.fst]++[r2.fst]++[r3.fst]++[r4.fst])with|G=>G|V r7=>match oA r6 r7 r5 with|G=>G|V r8=>V ((r8,0))
def av9:=eL vp 232 O (lc (qg 34) (lc (qg 34) ln)) d232 (λg=>aaP g.1 g.2.1)
def akx:EO av9:=λh=>kL (an:= .no) func232 (akN (ai3 (ana (EF (EE (tu aV)))))) aH h
def sW:EP av9:=λh=>kP h
def ayo:bu:=(acL (Ta (aed (aim dA))))
abbrev aCv:=aK
def d277:Td 0 aCv:= .c [] [6] (.r 0 1 (ec 6 (qp 0 0) en) (sb 0 34 (lg 34) sn) (λz=>z.2.1) (λx=>(((),()),(x,()))))
def aDA:∀f∈([]:af Nat),bA (ayo) f:=aH
def ZQ(a0:Int)(a1:aK)(a2:aK):aa aCv:=
 bif vn (a0=11)then match bif vn (0<=a1.ah)then V (vn (0<=a2.ah))else V (O)with|G=>G|V r1=>bif r1 then match oA (0) (if j8 a1.ah<j8 a1.ag then j8 a1.ag else j8 a1.ah) (1)with|G=>G|V r2=>V (r2)else match oA (ak (0-if j8 a1.ah<j8 a1.ag then j8 a1.ag else j8 a1.ah)) (if j8 a1.ah<j8 a1.ag then j8 a1.ag else j8 a1.ah) (1)with|G=>G|V r3=>V (r3)else bif vn (a0=12)then match oA (if 0<ak (a2.ah+1)then 0 else ak (a2.ah+1)) (if ak (a2.ag-1)<0 then 0 else ak (a2.ag-1)) (1)with|G=>G|V r4=>V (r4)else bif vn (a0=21)then match pT a1 a2 with|G=>G|V r5=>match HH r5 (if a2.ag<a1.ag then a2.ag else a1.ag)with|G=>G|V r6=>V (r6.fst)else match pT a1 a2 with|G=>G|V r7=>match HH r7 (ak ((if a1.ah<a2.ah then a2.ah else a1.ah)-1))with|G=>G|V r8=>V (r8.snd)
def aEZ:=eL vp 277 O (aU (lc (qg 34) (lc (qg 34) ln))) d277 (λg=>ZQ g.1 g.2.1 g.t.1)
def anj:EO aEZ:=λh=>kL (F:=ayo) (an:=(noTwo (.two (noTwo (noTwo (.two (noTwo (.two (.two (.rb [] 29) .no) .no)) .no))) .no))) (l:=[(.skip,(.rb [] 29))]) func277 (EF (tu (tw (LM aV)))) (aA aDA aH) h
structure nM where
 t3:List Int
 (t6 t7:Int)
 b0:aK
def TI:Td 0 nM:= .c [] [1,3,6,7] (.t (b6.s 3 [] 3) (.c [] [1,3,6,7] (.r 0 2 (ec 1 (qp 0 0) (ec 3 (qo 1) (ec 6 aP (ec 7 aP en)))) (sb 0 34 (lg 34) (sr 1 3 sn)) (λz=>⟨z.t.1,z.1.t.1,z.1.t.2.1,z.2.1⟩) (λx=>(((),(),x.t6,x.t7,()),(x.b0,x.t3,()))))))
def GI{α:Type}(p:nM)(go:nM->aa α)(e1:aa α):aa α:=
 bif vn (p.t7<p.t6)then if(p.t3++[ak (p.b0.ah+ak (p.t7*p.b0.aj))]).length<=1073741824 then go (nM.mk (p.t3++[ak (p.b0.ah+ak (p.t7*p.b0.aj))]) p.t6 (ak (p.t7+1)) p.b0)else G else e1
def CL(p:nM):aa (aa nM):=
 GI p (λs=>V (V s)) (V G)
def KJ:=bI (CL)
abbrev aBc:=af Int
def d278:Td 0 aBc:= .c [] [2] (.r 0 1 (ec 2 (qo 0) en) (sr 0 3 sn) (λz=>z.2.1) (λx=>(((),()),(x,()))))
def aco(a0:aK):aa aBc:=
 match Cm a0 with|G=>G|V r1=>match KJ (nM.mk [] r1 (0) a0)with|G=>G|V r2=>GI r2 (λ_=>G) (V (r2.t3))
def aEy:=eL vp 278 O (lc (qg 34) ln) d278 (λg=>aco g.1)
def ain:EO aEy:=λh=>kL (an:=(noTwo (noTwo (.two (noTwo (TI.lp KJ .no)) .no)))) (l:=[(bk f278 0,(TI.lp KJ .no))]) func278 (Bh aV) (aA (aO TI) aH) h
def aAc:bu:=dA
abbrev aAd:=Int
def d315:Td 0 aAd:= .c [] [4] (.r 0 0 (ec 4 aP en) sn (λz=>z.1.1) (λx=>((x,()),(()))))
def aAy:∀f∈([]:af Nat),bA (aAc) f:=aH
def abz(a0:Int)(a1:Int):aa aAd:=
 bif vn (a1=0)then V 0 else if¬a1=0then match if¬a1=0then bif bif vn (a0.tmod a1=0)then O else J then V (bif vn (a0<0)==vn (a1<0)then O else J)else V O else G with|G=>G|V r1=>bif r1 then V (ak (ak (a0.tdiv a1)-1))else V (ak (a0.tdiv a1))else G
def aFM:=eL vp 315 O (aU (aU ln)) d315 (λg=>abz g.1 g.2.1)
def akX:EO aFM:=λh=>kL (F:=aAc) (an:=(noTwo (noTwo (noTwo (.two (.two (.rb [] 21) .no) .no))))) (l:=[(.skip,(.rb [] 21))]) func315 aV (aA aAy aH) h
abbrev aDn:=Int
def d279:Td 0 aDn:= .c [] [6] (.r 0 0 (ec 6 aP en) sn (λz=>z.1.1) (λx=>((x,()),(()))))
def amm(a0:Int)(a1:Int)(a2:Int):aa aDn:=
 bif vn (a0=11)then match abz a1 a2 with|G=>G|V r1=>V (r1)else bif vn (a0=12)then bif vn (a2=0)then V (0)else match abz a1 a2 with|G=>G|V r2=>V (ak (a1-ak (a2*r2)))else bif vn (a0=21)then V (if a2<a1 then a2 else a1)else V (if a1<a2 then a2 else a1)
def aEV:=eL vp 279 O (aU (aU (aU ln))) d279 (λg=>amm g.1 g.2.1 g.t.1)
def al7:EO aEV:=λh=>kL (an:= .no) func279 (akX aV) aH h
structure nL where
 (t0 t9:Int)
 t34:List Int
 (t35 t36:Int)
 t41:List Int
 (t42 t43:Int)
 (b0 b1 b2:aK)
def TQ:Td 0 nL:= .c [] [0,5,6,7,9,34,35,36,41,42,43] (.r 0 5 (ec 0 aP (ec 5 (qp 0 0) (ec 6 (qp 1 0) (ec 7 (qp 2 0) (ec 9 aP (ec 34 (qo 3) (ec 35 aP (ec 36 aP (ec 41 (qo 4) (ec 42 aP (ec 43 aP en))))))))))) (sb 0 34 (lg 34) (sb 1 34 (lg 34) (sb 2 34 (lg 34) (sr 3 3 (sr 4 3 sn))))) (λz=>⟨z.1.1,z.1.q.1,z.q.1,z.1.q.t.1,z.1.q.t.2.1,z.q.2.1,z.1.q.q.2.1,z.1.q.q.t.1,z.2.1,z.t.1,z.t.2.1⟩) (λx=>((x.t0,(),(),(),x.t9,(),x.t35,x.t36,(),x.t42,x.t43,()),(x.b0,x.b1,x.b2,x.t34,x.t41,()))))
def rQ{α:Type}(p:nL)(go:nL->aa α)(e1:aa α):aa α:=
 bif vn (p.t43<p.t42)then if 0<=p.t43/\p.t43<zY p.t41 then if 3=3/\zq p.t43<zY p.t41 then match amm p.t0 p.t9 p.t41[zq p.t43]! with|G=>G|V r5=>match pT p.b2 (iY r5)with|G=>G|V r6=>go (nL.mk p.t0 p.t9 p.t34 p.t35 p.t36 p.t41 p.t42 (ak (p.t43+1)) p.b0 p.b1 r6)else G else G else e1
def Ng(p:nL):aa (aa nL):=
 rQ p (λs=>V (V s)) (V G)
def LX:=bI (Ng)
structure oa where
 t0:Int
 t34:List Int
 (t35 t36:Int)
 (b0 b1 b2:aK)
def To:Td 0 oa:= .c [] [0,5,6,7,34,35,36] (.r 0 4 (ec 0 aP (ec 5 (qp 0 0) (ec 6 (qp 1 0) (ec 7 (qp 2 0) (ec 34 (qo 3) (ec 35 aP (ec 36 aP en))))))) (sb 0 34 (lg 34) (sb 1 34 (lg 34) (sb 2 34 (lg 34) (sr 3 3 sn)))) (λz=>⟨z.1.1,z.q.1,z.1.q.2.1,z.1.q.t.1,z.2.1,z.t.1,z.t.2.1⟩) (λx=>((x.t0,(),(),(),(),x.t35,x.t36,()),(x.b0,x.b1,x.b2,x.t34,()))))
def Cb{α:Type}(p:oa)(go:oa->aa α)(e1:aa α):aa α:=
 bif vn (p.t36<p.t35)then if 0<=p.t36/\p.t36<zY p.t34 then if 3=3/\zq p.t36<zY p.t34 then match aco p.b0 with|G=>G|V r1=>match LX (nL.mk p.t0 p.t34[zq p.t36]! p.t34 p.t35 p.t36 r1 (↑(zY r1):Int) 0 p.b0 p.b1 p.b2)with|G=>G|V r2=>rQ r2 (λ_=>G) (go (oa.mk r2.t0 r2.t34 r2.t35 (ak (r2.t36+1)) r2.b0 r2.b1 r2.b2))else G else G else e1
def Cs(p:oa):aa (aa oa):=
 Cb p (λs=>V (V s)) (V G)
def ab8:An:=(noTwo (noTwo (.two (noTwo (noTwo (TQ.lp LX .no))) .no)))
def LD:=bI (Cs)
abbrev aAi:=aK
def d233:Td 0 aAi:= .c [] [6] (.r 0 1 (ec 6 (qp 0 0) en) (sb 0 34 (lg 34) sn) (λz=>z.2.1) (λx=>(((),()),(x,()))))
def A5(a0:Int)(a1:aK)(a2:aK):aa aAi:=
 match Cm a1 with|G=>G|V r7=>bif vn (4096<r7)then match ZQ a0 a1 a2 with|G=>G|V r8=>V (r8)else match Cm a2 with|G=>G|V r9=>bif vn (4096<r9)then match ZQ a0 a1 a2 with|G=>G|V r10=>V (r10)else match Cm a1 with|G=>G|V r11=>match Cm a2 with|G=>G|V r12=>bif vn (4096<ak (r11*r12))then match ZQ a0 a1 a2 with|G=>G|V r13=>V (r13)else match aco a1 with|G=>G|V r14=>match LD (oa.mk a0 r14 (↑(zY r14):Int) 0 a2 (aK.mk 0 0 0) jt)with|G=>G|V r15=>Cb r15 (λ_=>G) (V (r15.b2))
def avr:=eL vp 233 O (aU (lc (qg 34) (lc (qg 34) ln))) d233 (λg=>A5 g.1 g.2.1 g.t.1)
def alc:EO avr:=λh=>kL (an:=(noTwo (noTwo (noTwo (.two (noTwo (To.lp LD ab8)) .no))))) (l:=[(bk f233 0,(To.lp LD ab8)),(bk f233 1,(TQ.lp LX .no))]) func233 (al7 (ain (anj (kG (Bh (tG (tw aV))))))) (aA (aO To) (aA (aO TQ) aH)) h
def sQ:EP avr:=λh=>kP h
structure mQ where
 (t1 t5 t6 t7 t8:Int)
def UT:Td 0 mQ:= .c [] [1,5,6,7,8] (.r 0 0 (ec 1 aP (ec 5 aP (ec 6 aP (ec 7 aP (ec 8 aP en))))) sn (λz=>⟨z.1.1,z.1.2.1,z.1.t.1,z.1.t.2.1,z.1.q.1⟩) (λx=>((x.t1,x.t5,x.t6,x.t7,x.t8,()),(()))))
def Gx{α:Type}(p:mQ)(go:mQ->aa α)(e1:aa α):aa α:=
 bif vn (1<p.t5)then if¬p.t5=0then go (mQ.mk p.t1 (ak (p.t6-ak (ak (p.t6.tdiv p.t5)*p.t5))) p.t5 (ak (p.t8-ak (ak (p.t6.tdiv p.t5)*p.t7))) p.t7)else G else e1
def LS(p:mQ):aa (aa mQ):=
 Gx p (λs=>V (V s)) (V G)
def LL:=bI (LS)
abbrev ayT:=Int
def d341:Td 0 ayT:= .c [] [4] (.r 0 0 (ec 4 aP en) sn (λz=>z.1.1) (λx=>((x,()),(()))))
def ahx(a0:Int)(a1:Int):aa ayT:=
 if¬a1=0then match LL (mQ.mk a1 (a0.tmod a1) a1 1 0)with|G=>G|V r1=>Gx r1 (λ_=>G) (if¬r1.t1=0then if¬r1.t1=0then V ((ak (r1.t7.tmod r1.t1+r1.t1)).tmod r1.t1)else G else G)else G
def axk:=eL vp 341 O (aU (aU ln)) d341 (λg=>ahx g.1 g.2.1)
def aj6:EO axk:=λh=>kL (an:=(noTwo (noTwo (.two (UT.lp LL .no) .no)))) (l:=[(bk f341 0,(UT.lp LL .no))]) func341 aV (aA (aO UT) aH) h
def ayK:bu:=(axk (aA5 (aeZ (RN (anS dA)))))
abbrev aBE:=aK
def d316:Td 0 aBE:= .c [] [4] (.r 0 1 (ec 4 (qp 0 0) en) (sb 0 34 (lg 34) sn) (λz=>z.2.1) (λx=>(((),()),(x,()))))
def aCL:∀f∈([]:af Nat),bA (ayK) f:=aH
def ahX(a0:aK)(a1:aK):aa aBE:=
 match Eg [a0.aj,a1.aj]with|G=>G|V r1=>match bif vn ((if a1.ag<a0.ag then a1.ag else a0.ag)<if a0.ah<a1.ah then a1.ah else a0.ah)then V J else if¬r1=0then V (bif vn ((ak (a1.ah-a0.ah)).tmod r1=0)then O else J)else G with|G=>G|V r2=>bif r2 then V (jt)else if¬r1=0then bif vn (1<ak (a1.aj.tdiv r1))then if¬r1=0then if¬ak (a1.aj.tdiv r1)=0then if¬ak (a1.aj.tdiv r1)=0then if¬r1=0then if¬ak (a1.aj.tdiv r1)=0then match ahx ((ak (a0.aj.tdiv r1)).tmod (ak (a1.aj.tdiv r1))) (ak (a1.aj.tdiv r1))with|G=>G|V r3=>match am2 ((ak ((ak ((ak (a1.ah-a0.ah)).tdiv r1)).tmod (ak (a1.aj.tdiv r1))+ak (a1.aj.tdiv r1))).tmod (ak (a1.aj.tdiv r1))) r3 (ak (a1.aj.tdiv r1))with|G=>G|V r4=>if¬a0.aj=0then if¬a0.aj=0then bif vn (r4<ak ((ak (ak (ak ((if a0.ah<a1.ah then a1.ah else a0.ah)-a0.ah)+a0.aj)-1)).tdiv a0.aj))then if¬ak (a1.aj.tdiv r1)=0then bif vn (ak ((ak ((if a1.ag<a0.ag then a1.ag else a0.ag)-a0.ah)).tdiv a0.aj)<ak (r4+ak (ak ((ak (ak (ak (ak ((ak (ak (ak ((if a0.ah<a1.ah then a1.ah else a0.ah)-a0.ah)+a0.aj)-1)).tdiv a0.aj)-r4)+ak (a1.aj.tdiv r1))-1)).tdiv (ak (a1.aj.tdiv r1)))*ak (a1.aj.tdiv r1))))then V (jt)else if¬ak (a1.aj.tdiv r1)=0then bif vn (ak (r4+ak (ak ((ak (ak (ak (ak ((ak (ak (ak ((if a0.ah<a1.ah then a1.ah else a0.ah)-a0.ah)+a0.aj)-1)).tdiv a0.aj)-r4)+ak (a1.aj.tdiv r1))-1)).tdiv (ak (a1.aj.tdiv r1)))*ak (a1.aj.tdiv r1)))=ak (ak (r4+ak (ak ((ak (ak (ak (ak ((ak (ak (ak ((if a0.ah<a1.ah then a1.ah else a0.ah)-a0.ah)+a0.aj)-1)).tdiv a0.aj)-r4)+ak (a1.aj.tdiv r1))-1)).tdiv (ak (a1.aj.tdiv r1)))*ak (a1.aj.tdiv r1)))+ak (ak ((ak (ak ((ak ((if a1.ag<a0.ag then a1.ag else a0.ag)-a0.ah)).tdiv a0.aj)-ak (r4+ak (ak ((ak (ak (ak (ak ((ak (ak (ak ((if a0.ah<a1.ah then a1.ah else a0.ah)-a0.ah)+a0.aj)-1)).tdiv a0.aj)-r4)+ak (a1.aj.tdiv r1))-1)).tdiv (ak (a1.aj.tdiv r1)))*ak (a1.aj.tdiv r1))))).tdiv (ak (a1.aj.tdiv r1)))*ak (a1.aj.tdiv r1))))then V (iY (ak (a0.ah+ak (ak (r4+ak (ak ((ak (ak (ak (ak ((ak (ak (ak ((if a0.ah<a1.ah then a1.ah else a0.ah)-a0.ah)+a0.aj)-1)).tdiv a0.aj)-r4)+ak (a1.aj.tdiv r1))-1)).tdiv (ak (a1.aj.tdiv r1)))*ak (a1.aj.tdiv r1)))*a0.aj))))else V (aK.mk (ak (a0.ah+ak (ak (r4+ak (ak ((ak (ak (ak (ak ((ak (ak (ak ((if a0.ah<a1.ah then a1.ah else a0.ah)-a0.ah)+a0.aj)-1)).tdiv a0.aj)-r4)+ak (a1.aj.tdiv r1))-1)).tdiv (ak (a1.aj.tdiv r1)))*ak (a1.aj.tdiv r1)))*a0.aj))) (ak (a0.ah+ak (ak (ak (r4+ak (ak ((ak (ak (ak (ak ((ak (ak (ak ((if a0.ah<a1.ah then a1.ah else a0.ah)-a0.ah)+a0.aj)-1)).tdiv a0.aj)-r4)+ak (a1.aj.tdiv r1))-1)).tdiv (ak (a1.aj.tdiv r1)))*ak (a1.aj.tdiv r1)))+ak (ak ((ak (ak ((ak ((if a1.ag<a0.ag then a1.ag else a0.ag)-a0.ah)).tdiv a0.aj)-ak (r4+ak (ak ((ak (ak (ak (ak ((ak (ak (ak ((if a0.ah<a1.ah then a1.ah else a0.ah)-a0.ah)+a0.aj)-1)).tdiv a0.aj)-r4)+ak (a1.aj.tdiv r1))-1)).tdiv (ak (a1.aj.tdiv r1)))*ak (a1.aj.tdiv r1))))).tdiv (ak (a1.aj.tdiv r1)))*ak (a1.aj.tdiv r1)))*a0.aj))) (ak (ak (a1.aj.tdiv r1)*a0.aj)))else G else G else bif vn (ak ((ak ((if a1.ag<a0.ag then a1.ag else a0.ag)-a0.ah)).tdiv a0.aj)<r4)then V (jt)else if¬ak (a1.aj.tdiv r1)=0then bif vn (r4=ak (r4+ak (ak ((ak (ak ((ak ((if a1.ag<a0.ag then a1.ag else a0.ag)-a0.ah)).tdiv a0.aj)-r4)).tdiv (ak (a1.aj.tdiv r1)))*ak (a1.aj.tdiv r1))))then V (iY (ak (a0.ah+ak (r4*a0.aj))))else V (aK.mk (ak (a0.ah+ak (r4*a0.aj))) (ak (a0.ah+ak (ak (r4+ak (ak ((ak (ak ((ak ((if a1.ag<a0.ag then a1.ag else a0.ag)-a0.ah)).tdiv a0.aj)-r4)).tdiv (ak (a1.aj.tdiv r1)))*ak (a1.aj.tdiv r1)))*a0.aj))) (ak (ak (a1.aj.tdiv r1)*a0.aj)))else G else G else G else G else G else G else G else G else if¬a0.aj=0then if¬a0.aj=0then bif vn (0<ak ((ak (ak (ak ((if a0.ah<a1.ah then a1.ah else a0.ah)-a0.ah)+a0.aj)-1)).tdiv a0.aj))then if¬ak (a1.aj.tdiv r1)=0then bif vn (ak ((ak ((if a1.ag<a0.ag then a1.ag else a0.ag)-a0.ah)).tdiv a0.aj)<ak (0+ak (ak ((ak (ak (ak (ak ((ak (ak (ak ((if a0.ah<a1.ah then a1.ah else a0.ah)-a0.ah)+a0.aj)-1)).tdiv a0.aj)-0)+ak (a1.aj.tdiv r1))-1)).tdiv (ak (a1.aj.tdiv r1)))*ak (a1.aj.tdiv r1))))then V (jt)else if¬ak (a1.aj.tdiv r1)=0then bif vn (ak (0+ak (ak ((ak (ak (ak (ak ((ak (ak (ak ((if a0.ah<a1.ah then a1.ah else a0.ah)-a0.ah)+a0.aj)-1)).tdiv a0.aj)-0)+ak (a1.aj.tdiv r1))-1)).tdiv (ak (a1.aj.tdiv r1)))*ak (a1.aj.tdiv r1)))=ak (ak (0+ak (ak ((ak (ak (ak (ak ((ak (ak (ak ((if a0.ah<a1.ah then a1.ah else a0.ah)-a0.ah)+a0.aj)-1)).tdiv a0.aj)-0)+ak (a1.aj.tdiv r1))-1)).tdiv (ak (a1.aj.tdiv r1)))*ak (a1.aj.tdiv r1)))+ak (ak ((ak (ak ((ak ((if a1.ag<a0.ag then a1.ag else a0.ag)-a0.ah)).tdiv a0.aj)-ak (0+ak (ak ((ak (ak (ak (ak ((ak (ak (ak ((if a0.ah<a1.ah then a1.ah else a0.ah)-a0.ah)+a0.aj)-1)).tdiv a0.aj)-0)+ak (a1.aj.tdiv r1))-1)).tdiv (ak (a1.aj.tdiv r1)))*ak (a1.aj.tdiv r1))))).tdiv (ak (a1.aj.tdiv r1)))*ak (a1.aj.tdiv r1))))then V (iY (ak (a0.ah+ak (ak (0+ak (ak ((ak (ak (ak (ak ((ak (ak (ak ((if a0.ah<a1.ah then a1.ah else a0.ah)-a0.ah)+a0.aj)-1)).tdiv a0.aj)-0)+ak (a1.aj.tdiv r1))-1)).tdiv (ak (a1.aj.tdiv r1)))*ak (a1.aj.tdiv r1)))*a0.aj))))else V (aK.mk (ak (a0.ah+ak (ak (0+ak (ak ((ak (ak (ak (ak ((ak (ak (ak ((if a0.ah<a1.ah then a1.ah else a0.ah)-a0.ah)+a0.aj)-1)).tdiv a0.aj)-0)+ak (a1.aj.tdiv r1))-1)).tdiv (ak (a1.aj.tdiv r1)))*ak (a1.aj.tdiv r1)))*a0.aj))) (ak (a0.ah+ak (ak (ak (0+ak (ak ((ak (ak (ak (ak ((ak (ak (ak ((if a0.ah<a1.ah then a1.ah else a0.ah)-a0.ah)+a0.aj)-1)).tdiv a0.aj)-0)+ak (a1.aj.tdiv r1))-1)).tdiv (ak (a1.aj.tdiv r1)))*ak (a1.aj.tdiv r1)))+ak (ak ((ak (ak ((ak ((if a1.ag<a0.ag then a1.ag else a0.ag)-a0.ah)).tdiv a0.aj)-ak (0+ak (ak ((ak (ak (ak (ak ((ak (ak (ak ((if a0.ah<a1.ah then a1.ah else a0.ah)-a0.ah)+a0.aj)-1)).tdiv a0.aj)-0)+ak (a1.aj.tdiv r1))-1)).tdiv (ak (a1.aj.tdiv r1)))*ak (a1.aj.tdiv r1))))).tdiv (ak (a1.aj.tdiv r1)))*ak (a1.aj.tdiv r1)))*a0.aj))) (ak (ak (a1.aj.tdiv r1)*a0.aj)))else G else G else bif vn (ak ((ak ((if a1.ag<a0.ag then a1.ag else a0.ag)-a0.ah)).tdiv a0.aj)<0)then V (jt)else if¬ak (a1.aj.tdiv r1)=0then bif vn (0=ak (0+ak (ak ((ak (ak ((ak ((if a1.ag<a0.ag then a1.ag else a0.ag)-a0.ah)).tdiv a0.aj)-0)).tdiv (ak (a1.aj.tdiv r1)))*ak (a1.aj.tdiv r1))))then V (iY (ak (a0.ah+ak (0*a0.aj))))else V (aK.mk (ak (a0.ah+ak (0*a0.aj))) (ak (a0.ah+ak (ak (0+ak (ak ((ak (ak ((ak ((if a1.ag<a0.ag then a1.ag else a0.ag)-a0.ah)).tdiv a0.aj)-0)).tdiv (ak (a1.aj.tdiv r1)))*ak (a1.aj.tdiv r1)))*a0.aj))) (ak (ak (a1.aj.tdiv r1)*a0.aj)))else G else G else G else G
def arF:=eL vp 316 O (lc (qg 34) (lc (qg 34) ln)) d316 (λg=>ahX g.1 g.2.1)
def akU:EO arF:=λh=>kL (F:=ayK) (an:=(noTwo (noTwo (noTwo (.two (.two (.rb [] 41) .no) .no))))) (l:=[(.skip,(.rb [] 41))]) func316 (aj6 (anY (EE (kG (tG aV))))) (aA aCL aH) h
def ZX:EP arF:=λh=>kP h
abbrev Az:=aK
def d280:Td 0 Az:= .c [] [4] (.r 0 1 (ec 4 (qp 0 0) en) (sb 0 34 (lg 34) sn) (λz=>z.2.1) (λx=>(((),()),(x,()))))
def att:=(lc (qg 34) (lc (qg 34) ln))
def anb(M:aK->aK->aa Az):bu->bu:=eL vp 280 O att d280 (λg=>M g.1 g.2.1)
def Kh{M:aK->aK->aa Az}{F:bu}{f:Nat}(h:bA F f):bA (anb M F) f:=gF h (λ_=>aY)
def ajQ(M:aK->aK->aa Az):Prop:=HL vp 280 att d280 (λg=>M g.1 g.2.1)
def YR{M:aK->aK->aa Az}(hM:ajQ M){F:bu}(h:bD vp F):bD vp (anb M F):=gm (sc:=Bf) eo hM ⟨_,func280,aY,aY⟩ (λ_=>aY) (λ_=>aY) h
def akE(M280:aK->aK->aa Az):bu:=(arF (anb M280 (RN (ahy (Gf dA)))))
def am8{M280}(h280:ajQ M280):bD vp (akE M280):=(akU (YR h280 (kG (MY (jC aV)))))
def apX(M280:aK->aK->aa Az):An:=(noTwo (.two (.two (.rb [147] 5) .no) .no))
def axW{M280}:∀f∈([147]:af Nat),bA (akE M280) f:=(aA (ZX (Kh (lX (C9 (fC bG))))) aH)
def azd(M280:aK->aK->aa Az):gu vp (akE M280) 0 300 280 (apX M280):=cH (l:=[(.skip,(.rb [147] 5))]) func280 (bT aY) aY (aA axW aH)
def Be(M280:aK->aK->aa Az)(a0:aK)(a1:aK):aa Az:=
 match bif fB a0 then V (J)else V (fB a1)with|G=>G|V r1=>bif r1 then V (jt)else bif vn (a0.aj=0)then match Ze a1 a0.ah with|G=>G|V r2=>bif r2 then V (a0)else V (jt)else bif vn (a1.aj=0)then match M280 a1 a0 with|G=>G|V r3=>V (r3)else match ahX a0 a1 with|G=>G|V r4=>V (r4)
def aGT(M280:aK->aK->aa Az)(a0:aK)(a1:aK):bZ vp (akE M280) 300 (apX M280) 280 (att.c (a0,a1,())) [] 0 d280.rd=Be M280 a0 a1:=aY
def DF:Nat->(aK->aK->aa Az)
 |0=>(λ_ _=>G)
 |n+1=>(Be (DF n))
def af0(n:Nat):aK->aK->aa Az:=(DF n)
def Rw:∀n,ajQ (af0 n)
 |0=>λ_ _ h=>(by cases h)
 |n+1=>by
  have ih:=Rw n;have i280:=ih;exact(fe (am8 i280) (azd (af0 n)) (λ_=>aY) (λ_=>aY) λg=>aGT (af0 n) g.1 g.2.1)
def amh:aK->aK->aa Az:=λa0 a1=>lim (λn=>af0 n a0 a1)
def amb:ajQ amh:=λg b h=>by
 obtain⟨n,hn⟩:=dy (show lim (λn=>af0 n g.1 g.2.1)=V b from h);exact(Rw n) g b hn
def arW(F:bu):bu:=anb amh F
def amS{F:bu}(h:bD vp F):bD vp (arW F):=YR amb h
def aaf{F:bu}{f:Nat}(h:bA F f):bA (arW F) f:=Kh h
def aCf:bu:=(arW (ai0 (aj5 (arp (Gf dA)))))
abbrev axS:=aK
def d234:Td 0 axS:= .c [] [6] (.r 0 1 (ec 6 (qp 0 0) en) (sb 0 34 (lg 34) sn) (λz=>z.2.1) (λx=>(((),()),(x,()))))
def azz:∀f∈([176]:af Nat),bA (aCf) f:=(aA (aaf (Kv (Kb (Zl (fC bG))))) aH)
def adu(a0:Int)(a1:aK)(a2:aK):aa axS:=
 match amh a1 a2 with|G=>G|V r1=>match match Cm a1 with|G=>G|V r2=>bif vn (1<r2)then V (J)else match Cm a2 with|G=>G|V r3=>bif vn (1<r3)then V (J)else V (bif vn (a1.ah=a2.ah)then O else J)with|G=>G|V r4=>match UG a1 with|G=>G|V r5=>match UG a2 with|G=>G|V r6=>bif vn (a0=13)then match qu r4 (match fB r1 with|J=>O|O=>J)with|G=>G|V r7=>V (r7)else bif vn (a0=14)then match qu (match fB r1 with|J=>O|O=>J) r4 with|G=>G|V r8=>V (r8)else bif vn (a0=15)then match qu (vn (a2.ah<=a1.ag)) (vn (a1.ah<a2.ag))with|G=>G|V r9=>V (r9)else bif vn (a0=16)then match qu (vn (a2.ah<a1.ag)) (vn (a1.ah<=a2.ag))with|G=>G|V r10=>V (r10)else bif vn (a0=17)then match qu (vn (a1.ah<=a2.ag)) (vn (a2.ah<a1.ag))with|G=>G|V r11=>V (r11)else bif vn (a0=18)then match qu (vn (a1.ah<a2.ag)) (vn (a2.ah<=a1.ag))with|G=>G|V r12=>V (r12)else bif vn (a0=19)then bif r5.fst then bif r5.snd then match qu J r6.snd with|G=>G|V r13=>V (r13)else match qu J O with|G=>G|V r14=>V (r14)else bif r5.snd then match qu r6.fst r6.snd with|G=>G|V r15=>V (r15)else match qu r6.fst O with|G=>G|V r16=>V (r16)else bif r5.fst then bif r5.snd then match qu r6.fst J with|G=>G|V r17=>V (r17)else match qu r6.fst r6.snd with|G=>G|V r18=>V (r18)else bif r5.snd then match qu O J with|G=>G|V r19=>V (r19)else match qu O r6.snd with|G=>G|V r20=>V (r20)
def awi:=eL vp 234 O (aU (lc (qg 34) (lc (qg 34) ln))) d234 (λg=>adu g.1 g.2.1 g.t.1)
def amQ:EO awi:=λh=>kL (F:=aCf) (an:=(noTwo (noTwo (.two (.rb [176] 8) .no)))) (l:=[(.skip,(.rb [176] 8))]) func234 (amS (WY (LU (Bh (jC aV))))) (aA azz aH) h
def tf:EP awi:=λh=>kP h
def aCF:bu:=(awi (avr (av9 (asx (aeZ (Ta (RN (Gf (ZC (Oz dA))))))))))
abbrev ayf:=aK×Int
def d155:Td 0 ayf:= .c [] [6,7] (.r 0 1 (ec 6 (qp 0 0) (ec 7 aP en)) (sb 0 34 (lg 34) sn) (λz=>(z.2.1,z.1.2.1)) (λx=>(((),x.2,()),(x.1,()))))
def adH:∀f∈([144,145,147,231]:af Nat),bA (aCF) f:=(aA (tf (sQ (sW (tK (oc (j5 (lX (fC (jX (gj bG)))))))))) (aA (tf (sQ (sW (tK (oc (j5 (lX (fC (jX (gj bG)))))))))) (aA (tf (sQ (sW (tK (oc (j5 (lX (fC (jX (gj bG)))))))))) (aA (tf (sQ (sW (tK (oc (j5 (lX (fC (jX (gj bG)))))))))) aH))))
def AD(a0:Int)(a1:aK)(a2:aK):aa ayf:=
 match match Bb a1 with|G=>G|V r1=>bif bif r1 then O else J then V (J)else match Bb a2 with|G=>G|V r2=>bif bif r2 then O else J then V (J)else V (bif Ee a0 then O else J)with|G=>G|V r3=>bif r3 then V ((aK.mk (0) (0) (0),1))else match bif fB a1 then V (J)else V (fB a2)with|G=>G|V r4=>bif r4 then V ((jt,0))else bif vn (a0=9)then match bif bif jy (ak (a1.ah+ak (0-a2.ag)))then O else J then V (J)else V (bif jy (ak (a1.ag+ak (0-a2.ah)))then O else J)with|G=>G|V r5=>bif r5 then V ((aK.mk (0) (0) (0),3))else match Eg [a1.aj,a2.aj]with|G=>G|V r6=>match oA (ak (a1.ah+ak (0-a2.ag))) (ak (a1.ag+ak (0-a2.ah))) r6 with|G=>G|V r7=>V ((r7,0))else bif vn (a0=8)then match bif bif jy (ak (a1.ah+a2.ah))then O else J then V (J)else V (bif jy (ak (a1.ag+a2.ag))then O else J)with|G=>G|V r8=>bif r8 then V ((aK.mk (0) (0) (0),3))else match Eg [a1.aj,a2.aj]with|G=>G|V r9=>match oA (ak (a1.ah+a2.ah)) (ak (a1.ag+a2.ag)) r9 with|G=>G|V r10=>V ((r10,0))else bif vn (a0=10)then match aaP a1 a2 with|G=>G|V r11=>V (r11)else bif vn (a0=11)then match A5 a0 a1 a2 with|G=>G|V r12=>V ((r12,0))else bif vn (a0=12)then match A5 a0 a1 a2 with|G=>G|V r13=>V ((r13,0))else bif vn (a0=21)then match A5 a0 a1 a2 with|G=>G|V r14=>V ((r14,0))else bif vn (a0=22)then match A5 a0 a1 a2 with|G=>G|V r15=>V ((r15,0))else match adu a0 a1 a2 with|G=>G|V r16=>V ((r16,0))
def az9:=eL vp 155 O (aU (lc (qg 34) (lc (qg 34) ln))) d155 (λg=>AD g.1 g.2.1 g.t.1)
def MZ:EO az9:=λh=>kL (F:=aCF) (an:=(noTwo (.two (.two (.rb [144,145,147,231] 22) .no) (.two (.two (.rb [144,145,147,231] 29) .no) (.two (noTwo (.two (.two (noTwo (.two (noTwo (.two (.two (.rb [144,145,147,231] 69) .no) .no)) .no)) .no) .no)) .no))))) (l:=[(.skip,(.rb [144,145,147,231] 22)),(.skip,(.rb [144,145,147,231] 29)),(.skip,(.rb [144,145,147,231] 69))]) func155 (amQ (alc (akx (akL (EE (tu (kG (jC (BR (lN aV)))))))))) (aA adH (aA adH (aA adH aH))) h
abbrev sq:=aK×ay
def d150:Td 2 sq:= .c [] [4] (.r 2 3 (ec 4 (qp 2 0) en) (sb 0 128 (lg 128) (sb 1 215 (lc (qf 150 (lc (qp 0 0) (lc (qp 1 0) ln))) ln) (sb 2 34 (lg 34) sn))) (λz=>(z.t.2.1,z.2.1)) (λx=>(((),()),(x.2,(((),(),()),()),x.1,()))))
def aq7:=(lc (qg 137) (lc (qp 0 0) (lc (qp 1 0) ln)))
def av5:=(sb 0 128 (lg 128) (sb 1 215 (lc (qf 150 (lc (qp 0 0) (lc (qp 1 0) ln))) ln) sn))
def x150(M:az->ay->aa sq):bu->bu:=eY vp 150 2 aq7 av5 d150 (λg=>M g.1.1 g.2.1)
def ahr(M:az->ay->aa sq):Prop:=HY vp 150 2 aq7 av5 d150 (λg=>M g.1.1 g.2.1)
def YM{M:az->ay->aa sq}(hM:ahr M){F:bu}(h:bD vp F):bD vp (x150 M F):=Dy hM ⟨_,func150,aY,aY⟩ (λ_=>aY) h
def avn(M150:az->ay->aa sq):bu:=(az9 (ay3 (aDy (axx (agJ (x150 M150 (e92 (e81 (e80 dA)))))))))
def anp{M150}(h150:ahr M150):bD vp (avn M150):=(MZ (al6 (ahu (MG (Lu (YM h150 (UX (Ut (MJ aV)))))))))
structure CD where
 t90:List az
 (t91 t92:Int)
 b0:ay
 (b2 b3 b4:aK)
def Vc:Td 2 CD:= .c [] [2,4,7,9,90,91,92] (.r 2 5 (ec 2 (qp 1 0) (ec 4 (qp 2 0) (ec 7 (qp 3 0) (ec 9 (qp 4 0) (ec 90 (ql 137) (ec 91 aP (ec 92 aP en))))))) (sb 0 128 (lg 128) (sb 1 215 (lc (qf 150 (lc (qp 0 0) (lc (qp 1 0) ln))) ln) (sb 2 34 (lg 34) (sb 3 34 (lg 34) (sb 4 34 (lg 34) sn))))) (λz=>⟨z.1.q.1,z.1.q.2.1,z.1.q.t.1,z.2.1,z.t.2.1,z.q.1,z.q.2.1⟩) (λx=>(((),(),(),(),x.t90,x.t91,x.t92,()),(x.b0,(((),(),()),()),x.b2,x.b3,x.b4,()))))
def LW(M150:az->ay->aa sq)(p:CD):aa (aa CD):=
 bif vn (p.t92<p.t91)then if 0<=p.t92/\p.t92<zY p.t90 then match m92 p.b3 p.t92 with|G=>G|V r1=>bif r1 then match M150 (az.mk p.t90[zq p.t92]!.bF p.t90[zq p.t92]!.fN p.t90[zq p.t92]!.aq) p.b0 with|G=>G|V r2=>match FM p.b4 r2.fst with|G=>G|V r3=>V (V (CD.mk p.t90 p.t91 (ak (p.t92+1)) r2.snd p.b2 p.b3 r3))else V (V (CD.mk p.t90 p.t91 (ak (p.t92+1)) p.b0 p.b2 p.b3 p.b4))else G else V (G)
def Mp(M150:az->ay->aa sq):=bI (LW M150)
def apg(M150:az->ay->aa sq):An:=(noTwo (.two (noTwo (noTwo (noTwo (noTwo (noTwo (noTwo (noTwo (noTwo (.two (noTwo (noTwo (.two (noTwo (Vc.lp (Mp M150) .no)) .no))) .no))))))))) .no))
def ayH(M150:az->ay->aa sq):gu vp (avn M150) 2 300 150 (apg M150):=cH (l:=[(bk f150 0,(Vc.lp (Mp M150) .no))]) func150 (bT aY) aY (aA (aO Vc) aH)
def agO(M150:az->ay->aa sq)(a0:az)(b0:ay):aa sq:=
 bif vn (a0.bF=0)then V (m80 a0.fN,b0)else bif vn (a0.bF=24)then if 0<=a0.fN/\a0.fN<zY b0.ai then V (b0.ai[a0.fN.toNat]!,b0)else G else bif vn (a0.bF=23)then if(0:Int)<=(0:Int)/\(0:Int)<zY a0.aq then match M150 (az.mk a0.aq[0]!.bF a0.aq[0]!.fN a0.aq[0]!.aq) b0 with|G=>G|V r4=>match T9 r4.fst with|G=>G|V r5=>bif bif r5.fst then O else J then if(0:Int)<=(1:Int)/\(1:Int)<zY a0.aq then match M150 (az.mk a0.aq[1]!.bF a0.aq[1]!.fN a0.aq[1]!.aq) r4.snd with|G=>G|V r6=>V (r6)else G else bif bif r5.snd then O else J then if(0:Int)<=(2:Int)/\(2:Int)<zY a0.aq then match M150 (az.mk a0.aq[2]!.bF a0.aq[2]!.fN a0.aq[2]!.aq) r4.snd with|G=>G|V r7=>V (r7)else G else if(0:Int)<=(1:Int)/\(1:Int)<zY a0.aq then match M150 (az.mk a0.aq[1]!.bF a0.aq[1]!.fN a0.aq[1]!.aq) r4.snd with|G=>G|V r8=>if(0:Int)<=(2:Int)/\(2:Int)<zY a0.aq then match M150 (az.mk a0.aq[2]!.bF a0.aq[2]!.fN a0.aq[2]!.aq) r8.snd with|G=>G|V r9=>match FM r8.fst r9.fst with|G=>G|V r10=>V (r10,r9.snd)else G else G else G else bif vn (a0.bF=25)then if(0:Int)<=(0:Int)/\(0:Int)<zY a0.aq then match M150 (az.mk a0.aq[0]!.bF a0.aq[0]!.fN a0.aq[0]!.aq) b0 with|G=>G|V r11=>match m81 r11.fst 0 (ak ((zY a0.aq:Int)-2))with|G=>G|V r12=>if(0:Int)<=(1:Int)/\(1:Int)<=zY a0.aq then match Mp M150 (CD.mk (ya 1 a0.aq) (↑(ya 1 a0.aq).length:Int) 0 r11.snd (aK.mk 0 0 0) r12.fst ak3)with|G=>G|V r13=>bif vn (r13.t92<r13.t91)then if 0<=r13.t92/\r13.t92<zY r13.t90 then match m92 r13.b3 r13.t92 with|G=>G|V r14=>bif r14 then match M150 (az.mk r13.t90[zq r13.t92]!.bF r13.t90[zq r13.t92]!.fN r13.t90[zq r13.t92]!.aq) r13.b0 with|G=>G|V r15=>match FM r13.b4 r15.fst with|G=>G|V r16=>G else G else G else V (r13.b4,r13.b0)else G else G else bif vn ((zY a0.aq:Int)=1)then if(0:Int)<=(0:Int)/\(0:Int)<zY a0.aq then match M150 (az.mk a0.aq[0]!.bF a0.aq[0]!.fN a0.aq[0]!.aq) b0 with|G=>G|V r17=>match anh a0.bF r17.fst with|G=>G|V r18=>V (r18.fst,r17.snd)else G else if(0:Int)<=(0:Int)/\(0:Int)<zY a0.aq then match M150 (az.mk a0.aq[0]!.bF a0.aq[0]!.fN a0.aq[0]!.aq) b0 with|G=>G|V r19=>if(0:Int)<=(1:Int)/\(1:Int)<zY a0.aq then match M150 (az.mk a0.aq[1]!.bF a0.aq[1]!.fN a0.aq[1]!.aq) r19.snd with|G=>G|V r20=>match AD a0.bF r19.fst r20.fst with|G=>G|V r21=>V (r21.fst,r20.snd)else G else G
def aF0(M150:az->ay->aa sq)(a0:az)(b0:ay):bZ vp (avn M150) 300 (apg M150) 150 (aq7.c (a0,(),(),())) (av5.d (b0,(((),(),()),()),())) 2 d150.rd=agO M150 a0 b0:=aY
def aqC:Nat->(az->ay->aa sq)
 |0=>(λ_ _=>G)
 |n+1=>(agO (aqC n))
def T6(n:Nat):az->ay->aa sq:=(aqC n)
def PV:∀n,ahr (T6 n)
 |0=>λ_ _ h=>(by cases h)
 |n+1=>by
  have ih:=PV n;have i150:=ih;exact(Wv (anp i150) (ayH (T6 n)) (λ_=>aY) (λ_=>aY) (λ_=>aY) λg=>aF0 (T6 n) g.1.1 g.2.1)
def alo:az->ay->aa sq:=λa0 b0=>lim (λn=>T6 n a0 b0)
def aof:ahr alo:=λg b h=>by
 obtain⟨n,hn⟩:=dy (show lim (λn=>T6 n g.1.1 g.2.1)=V b from h);exact(PV n) g b hn
def aFj(F:bu):bu:=x150 alo F
def ang{F:bu}(h:bD vp F):bD vp (aFj F):=YM aof h
abbrev E91:=Int
def d91:Td 0 E91:= .c [] [2] (.r 0 0 (ec 2 aP en) sn (λz=>z.1.1) (λx=>((x,()),(()))))
def YH(a0:aK):aa E91:=
 match Bb a0 with|G=>G|V r1=>bif bif r1 then O else J then V (0)else match Cm a0 with|G=>G|V r2=>V (r2)
def e91:=eL vp 91 O (lc (qg 34) ln) d91 (λg=>YH g.1)
def Uj:EO e91:=λh=>kL (an:= .no) func91 (Bh (lN aV)) aH h
def H9:EP e91:=λh=>kP h
def aEs:bu:=dA
abbrev avT:=Int
def d174:Td 0 avT:= .c [] [4] (.r 0 0 (ec 4 aP en) sn (λz=>z.1.1) (λx=>((x,()),(()))))
def aA2:=(aU (aU ln))
def apH:An:= .no
def lM(a0:Int)(a1:Int):avT:=
 bif vn (a1<a0)then a0 else a1
def aEx(a0:Int)(a1:Int):bZ vp (aEs) 300 (apH) 174 (aA2.c (a0,a1,())) [] 0 d174.rd=V (lM a0 a1):=by
 refine Eq.trans (b:=(
  bif vn (a1<a0)then V (a0)else V (a1):aa avT)) aY ?_
 simp only[lM,cq,cO]
def aab:=eL vp 174 O aA2 d174 (λg=>V (lM g.1 g.2.1))
def Na:EO aab:=λh=>kL (an:=apH) func174 aV aH h (c:=λg=>aEx g.1 g.2.1)
def aEv:bu:=dA
abbrev auu:=Int
def d175:Td 0 auu:= .c [] [4] (.r 0 0 (ec 4 aP en) sn (λz=>z.1.1) (λx=>((x,()),(()))))
def azv:=(aU (aU ln))
def ao2:An:= .no
def j9(a0:Int)(a1:Int):auu:=
 bif vn (a0<a1)then a0 else a1
def aFC(a0:Int)(a1:Int):bZ vp (aEv) 300 (ao2) 175 (azv.c (a0,a1,())) [] 0 d175.rd=V (j9 a0 a1):=by
 refine Eq.trans (b:=(
  bif vn (a0<a1)then V (a0)else V (a1):aa auu)) aY ?_
 simp only[j9,cq,cO]
def ak0:=eL vp 175 O azv d175 (λg=>V (j9 g.1 g.2.1))
def MH:EO ak0:=λh=>kL (an:=ao2) func175 aV aH h (c:=λg=>aFC g.1 g.2.1)
abbrev Qt:=Int×Int×Int
def d90:Td 0 Qt:= .c [] [2,3,4] (.r 0 0 (ec 2 aP (ec 3 aP (ec 4 aP en))) sn (λz=>(z.1.1,z.1.2.1,z.1.t.1)) (λx=>((x.1,x.2.1,x.t,()),(()))))
def A90:=(lc (ql 166) ln)
def x90(M:(af aB)->aa Qt):bu->bu:=eL vp 90 O A90 d90 (λg=>M g.1)
def abW{M:(af aB)->aa Qt}{F:bu}{f:Nat}(h:bA F f):bA (x90 M F) f:=gF h (λ_=>aY)
def H90(M:(af aB)->aa Qt):Prop:=HL vp 90 A90 d90 (λg=>M g.1)
def afd{M:(af aB)->aa Qt}(hM:H90 M){F:bu}(h:bD vp F):bD vp (x90 M F):=gm (sc:=Bf) eo hM ⟨_,func90,aY,aY⟩ (λ_=>aY) (λ_=>aY) h
def F90(M90:(af aB)->aa Qt):bu:=(ak0 (aab (x90 M90 dA)))
def aq4{M90}(h90:H90 M90):bD vp (F90 M90):=(MH (Na (afd h90 aV)))
structure D3 where
 t0:List aB
 (t5 t6 t7 t8:Int)
def acW:Td 0 D3:= .c [] [0,5,6,7,8] (.r 0 0 (ec 0 (ql 166) (ec 5 aP (ec 6 aP (ec 7 aP (ec 8 aP en))))) sn (λz=>⟨z.1.1,z.1.2.1,z.1.t.1,z.1.t.2.1,z.1.q.1⟩) (λx=>((x.t0,x.t5,x.t6,x.t7,x.t8,()),(()))))
def WK(M90:(af aB)->aa Qt)(p:D3):aa (aa D3):=
 bif vn (p.t8<zY p.t0)then if 0<=p.t8/\p.t8<zY p.t0 then match M90 p.t0[zq p.t8]!.aQ with|G=>G|V r1=>match M90 p.t0[zq p.t8]!.aX with|G=>G|V r2=>bif vn (p.t0[zq p.t8]!.b9=4)then bif vn (p.t0[zq p.t8]!.b9=1)then V (V (D3.mk p.t0 (j9 (ak (p.t5+ak (1+ak (p.t0[zq p.t8]!.fN*ak (1+r1.fst))))) 4097) (j9 (ak (p.t6+1)) 9) (j9 (ak (p.t7+ak (p.t0[zq p.t8]!.fN*ak (p.t0[zq p.t8]!.bg+r1.snd.snd)))) 67108865) (ak (p.t8+1))))else V (V (D3.mk p.t0 (j9 (ak (p.t5+ak (1+ak (p.t0[zq p.t8]!.fN*ak (1+r1.fst))))) 4097) (j9 (ak (p.t6+ak (p.t0[zq p.t8]!.fN*r1.snd.fst))) 9) (j9 (ak (p.t7+ak (p.t0[zq p.t8]!.fN*ak (p.t0[zq p.t8]!.bg+r1.snd.snd)))) 67108865) (ak (p.t8+1))))else bif vn (p.t0[zq p.t8]!.b9=1)then V (V (D3.mk p.t0 (j9 (ak (p.t5+ak (1+lM r1.fst r2.fst))) 4097) (j9 (ak (p.t6+1)) 9) (j9 (ak (p.t7+ak (p.t0[zq p.t8]!.bg+lM r1.snd.snd r2.snd.snd))) 67108865) (ak (p.t8+1))))else V (V (D3.mk p.t0 (j9 (ak (p.t5+ak (1+lM r1.fst r2.fst))) 4097) (j9 (ak (p.t6+lM r1.snd.fst r2.snd.fst)) 9) (j9 (ak (p.t7+ak (p.t0[zq p.t8]!.bg+lM r1.snd.snd r2.snd.snd))) 67108865) (ak (p.t8+1))))else G else V (G)
def Wj(M90:(af aB)->aa Qt):=bI (WK M90)
def aDf(M90:(af aB)->aa Qt):An:=(noTwo (noTwo (.two (noTwo (acW.lp (Wj M90) .no)) .no)))
def aER(M90:(af aB)->aa Qt):gu vp (F90 M90) 0 300 90 (aDf M90):=cH (l:=[(bk f90 0,(acW.lp (Wj M90) .no))]) func90 (bT aY) aY (aA (aO acW) aH)
def s90(M90:(af aB)->aa Qt)(a0:af aB):aa Qt:=
 match Wj M90 (D3.mk a0 0 0 0 0)with|G=>G|V r3=>bif vn (r3.t8<zY r3.t0)then if 0<=r3.t8/\r3.t8<zY r3.t0 then match M90 r3.t0[zq r3.t8]!.aQ with|G=>G|V r4=>match M90 r3.t0[zq r3.t8]!.aX with|G=>G|V r5=>bif vn (r3.t0[zq r3.t8]!.b9=4)then bif vn (r3.t0[zq r3.t8]!.b9=1)then G else G else bif vn (r3.t0[zq r3.t8]!.b9=1)then G else G else G else V (r3.t5,r3.t6,r3.t7)
def c90(M90:(af aB)->aa Qt)(a0:af aB):bZ vp (F90 M90) 300 (aDf M90) 90 (A90.c (a0,())) [] 0 d90.rd=s90 M90 a0:=aY
def aDG:Nat->((af aB)->aa Qt)
 |0=>(λ_=>G)
 |n+1=>(s90 (aDG n))
def m90(n:Nat):(af aB)->aa Qt:=(aDG n)
def VH:∀n,H90 (m90 n)
 |0=>λ_ _ h=>(by cases h)
 |n+1=>by
  have ih:=VH n;have i90:=ih;exact(fe (aq4 i90) (aER (m90 n)) (λ_=>aY) (λ_=>aY) λg=>c90 (m90 n) g.1)
def r90:(af aB)->aa Qt:=λa0=>lim (λn=>m90 n a0)
def avw:H90 r90:=λg b h=>by
 obtain⟨n,hn⟩:=dy (show lim (λn=>m90 n g.1)=V b from h);exact(VH n) g b hn
def e90(F:bu):bu:=x90 r90 F
def acH{F:bu}(h:bD vp F):bD vp (e90 F):=afd avw h
def Q4{F:bu}{f:Nat}(h:bA F f):bA (e90 F) f:=abW h
abbrev rT:=Int
def d216:Td 0 rT:= .c [] [2] (.r 0 0 (ec 2 aP en) sn (λz=>z.1.1) (λx=>((x,()),(()))))
def avi:=(lc (qg 137) ln)
def alD(M:az->aa rT):bu->bu:=eL vp 216 O avi d216 (λg=>M g.1)
def aaA{M:az->aa rT}{F:bu}{f:Nat}(h:bA F f):bA (alD M F) f:=gF h (λ_=>aY)
def ahH(M:az->aa rT):Prop:=HL vp 216 avi d216 (λg=>M g.1)
def Yo{M:az->aa rT}(hM:ahH M){F:bu}(h:bD vp F):bD vp (alD M F):=gm (sc:=Bf) eo hM ⟨_,func216,aY,aY⟩ (λ_=>aY) (λ_=>aY) h
def arN(M216:az->aa rT):bu:=(alD M216 dA)
def ak6{M216}(h216:ahH M216):bD vp (arN M216):=(Yo h216 aV)
structure FD where
 (t3 t4:Int)
 b0:az
def Vu:Td 0 FD:= .c [] [1,3,4] (.r 0 1 (ec 1 (qp 0 0) (ec 3 aP (ec 4 aP en))) (sb 0 137 (lg 137) sn) (λz=>⟨z.1.2.1,z.1.t.1,z.2.1⟩) (λx=>(((),x.t3,x.t4,()),(x.b0,()))))
def NY(M216:az->aa rT)(p:FD):aa (aa FD):=
 bif vn (p.t4<zY p.b0.aq)then if 0<=p.t4/\p.t4<zY p.b0.aq then match M216 (az.mk p.b0.aq[zq p.t4]!.bF p.b0.aq[zq p.t4]!.fN p.b0.aq[zq p.t4]!.aq)with|G=>G|V r1=>V (V (FD.mk (ak (p.t3+r1)) (ak (p.t4+1)) (az.mk p.b0.bF p.b0.fN p.b0.aq)))else G else V (G)
def Lp(M216:az->aa rT):=bI (NY M216)
def aqX(M216:az->aa rT):An:=(noTwo (noTwo (.two (noTwo (Vu.lp (Lp M216) .no)) .no)))
def axl(M216:az->aa rT):gu vp (arN M216) 0 300 216 (aqX M216):=cH (l:=[(bk f216 0,(Vu.lp (Lp M216) .no))]) func216 (bT aY) aY (aA (aO Vu) aH)
def ah3(M216:az->aa rT)(a0:az):aa rT:=
 match Lp M216 (FD.mk 1 0 (az.mk a0.bF a0.fN a0.aq))with|G=>G|V r2=>bif vn (r2.t4<zY r2.b0.aq)then if 0<=r2.t4/\r2.t4<zY r2.b0.aq then match M216 (az.mk r2.b0.aq[zq r2.t4]!.bF r2.b0.aq[zq r2.t4]!.fN r2.b0.aq[zq r2.t4]!.aq)with|G=>G|V r3=>G else G else V (r2.t3)
def aHK(M216:az->aa rT)(a0:az):bZ vp (arN M216) 300 (aqX M216) 216 (avi.c (a0,())) [] 0 d216.rd=ah3 M216 a0:=aY
def aqG:Nat->(az->aa rT)
 |0=>(λ_=>G)
 |n+1=>(ah3 (aqG n))
def Tp(n:Nat):az->aa rT:=(aqG n)
def Qd:∀n,ahH (Tp n)
 |0=>λ_ _ h=>(by cases h)
 |n+1=>by
  have ih:=Qd n;have i216:=ih;exact(fe (ak6 i216) (axl (Tp n)) (λ_=>aY) (λ_=>aY) λg=>aHK (Tp n) g.1)
def aaR:az->aa rT:=λa0=>lim (λn=>Tp n a0)
def agX:ahH aaR:=λg b h=>by
 obtain⟨n,hn⟩:=dy (show lim (λn=>Tp n g.1)=V b from h);exact(Qd n) g b hn
def ahA(F:bu):bu:=alD aaR F
def VU{F:bu}(h:bD vp F):bD vp (ahA F):=Yo agX h
def JT{F:bu}{f:Nat}(h:bA F f):bA (ahA F) f:=aaA h
abbrev rP:=Int
def d215:Td 0 rP:= .c [] [2] (.r 0 0 (ec 2 aP en) sn (λz=>z.1.1) (λx=>((x,()),(()))))
def ar8:=(lc (ql 166) ln)
def amE(M:(af aB)->aa rP):bu->bu:=eL vp 215 O ar8 d215 (λg=>M g.1)
def aas{M:(af aB)->aa rP}{F:bu}{f:Nat}(h:bA F f):bA (amE M F) f:=gF h (λ_=>aY)
def amG(M:(af aB)->aa rP):Prop:=HL vp 215 ar8 d215 (λg=>M g.1)
def XV{M:(af aB)->aa rP}(hM:amG M){F:bu}(h:bD vp F):bD vp (amE M F):=gm (sc:=Bf) eo hM ⟨_,func215,aY,aY⟩ (λ_=>aY) (λ_=>aY) h
def avC(M215:(af aB)->aa rP):bu:=(ahA (amE M215 dA))
def agR{M215}(h215:amG M215):bD vp (avC M215):=(VU (XV h215 aV))
structure HR where
 t0:List aB
 (t3 t4:Int)
def Ux:Td 0 HR:= .c [] [0,3,4] (.r 0 0 (ec 0 (ql 166) (ec 3 aP (ec 4 aP en))) sn (λz=>⟨z.1.1,z.1.2.1,z.1.t.1⟩) (λx=>((x.t0,x.t3,x.t4,()),(()))))
def L7(M215:(af aB)->aa rP)(p:HR):aa (aa HR):=
 bif vn (p.t4<zY p.t0)then if 0<=p.t4/\p.t4<zY p.t0 then match aaR (az.mk p.t0[zq p.t4]!.aF.bF p.t0[zq p.t4]!.aF.fN p.t0[zq p.t4]!.aF.aq)with|G=>G|V r1=>if 0<=p.t4/\p.t4<zY p.t0 then match M215 p.t0[zq p.t4]!.aQ with|G=>G|V r2=>if 0<=p.t4/\p.t4<zY p.t0 then match M215 p.t0[zq p.t4]!.aX with|G=>G|V r3=>V (V (HR.mk p.t0 (ak (ak (ak (ak (p.t3+1)+r1)+r2)+r3)) (ak (p.t4+1))))else G else G else G else V (G)
def Lc(M215:(af aB)->aa rP):=bI (L7 M215)
def aqb(M215:(af aB)->aa rP):An:=(noTwo (noTwo (.two (noTwo (Ux.lp (Lc M215) .no)) .no)))
def ay4(M215:(af aB)->aa rP):gu vp (avC M215) 0 300 215 (aqb M215):=cH (l:=[(bk f215 0,(Ux.lp (Lc M215) .no))]) func215 (bT aY) aY (aA (aO Ux) aH)
def ahn(M215:(af aB)->aa rP)(a0:af aB):aa rP:=
 match Lc M215 (HR.mk a0 0 0)with|G=>G|V r4=>bif vn (r4.t4<zY r4.t0)then if 0<=r4.t4/\r4.t4<zY r4.t0 then match aaR (az.mk r4.t0[zq r4.t4]!.aF.bF r4.t0[zq r4.t4]!.aF.fN r4.t0[zq r4.t4]!.aF.aq)with|G=>G|V r5=>if 0<=r4.t4/\r4.t4<zY r4.t0 then match M215 r4.t0[zq r4.t4]!.aQ with|G=>G|V r6=>if 0<=r4.t4/\r4.t4<zY r4.t0 then match M215 r4.t0[zq r4.t4]!.aX with|G=>G|V r7=>G else G else G else G else V (r4.t3)
def aHM(M215:(af aB)->aa rP)(a0:af aB):bZ vp (avC M215) 300 (aqb M215) 215 (ar8.c (a0,())) [] 0 d215.rd=ahn M215 a0:=aY
def apf:Nat->((af aB)->aa rP)
 |0=>(λ_=>G)
 |n+1=>(ahn (apf n))
def TE(n:Nat):(af aB)->aa rP:=(apf n)
def Oj:∀n,amG (TE n)
 |0=>λ_ _ h=>(by cases h)
 |n+1=>by
  have ih:=Oj n;have i215:=ih;exact(fe (agR i215) (ay4 (TE n)) (λ_=>aY) (λ_=>aY) λg=>aHM (TE n) g.1)
def an1:(af aB)->aa rP:=λa0=>lim (λn=>TE n a0)
def aj8:amG an1:=λg b h=>by
 obtain⟨n,hn⟩:=dy (show lim (λn=>TE n g.1)=V b from h);exact(Oj n) g b hn
def auW(F:bu):bu:=amE an1 F
def amJ{F:bu}(h:bD vp F):bD vp (auW F):=XV aj8 h
def JP{F:bu}{f:Nat}(h:bA F f):bA (auW F) f:=aas h
abbrev rD:=Int
def d217:Td 0 rD:= .c [] [2] (.r 0 0 (ec 2 aP en) sn (λz=>z.1.1) (λx=>((x,()),(()))))
def auR:=(lc (qg 137) ln)
def ait(M:az->aa rD):bu->bu:=eL vp 217 O auR d217 (λg=>M g.1)
def ZI{M:az->aa rD}{F:bu}{f:Nat}(h:bA F f):bA (ait M F) f:=gF h (λ_=>aY)
def ahB(M:az->aa rD):Prop:=HL vp 217 auR d217 (λg=>M g.1)
def WR{M:az->aa rD}(hM:ahB M){F:bu}(h:bD vp F):bD vp (ait M F):=gm (sc:=Bf) eo hM ⟨_,func217,aY,aY⟩ (λ_=>aY) (λ_=>aY) h
def atg(M217:az->aa rD):bu:=(ait M217 dA)
def an3{M217}(h217:ahB M217):bD vp (atg M217):=(WR h217 aV)
structure Cd where
 (t3 t4:Int)
 b0:az
def Se:Td 0 Cd:= .c [] [1,3,4] (.r 0 1 (ec 1 (qp 0 0) (ec 3 aP (ec 4 aP en))) (sb 0 137 (lg 137) sn) (λz=>⟨z.1.2.1,z.1.t.1,z.2.1⟩) (λx=>(((),x.t3,x.t4,()),(x.b0,()))))
def KV(M217:az->aa rD)(p:Cd):aa (aa Cd):=
 bif vn (p.t4<zY p.b0.aq)then if 0<=p.t4/\p.t4<zY p.b0.aq then match M217 (az.mk p.b0.aq[zq p.t4]!.bF p.b0.aq[zq p.t4]!.fN p.b0.aq[zq p.t4]!.aq)with|G=>G|V r1=>bif vn (p.t3<r1)then V (V (Cd.mk r1 (ak (p.t4+1)) (az.mk p.b0.bF p.b0.fN p.b0.aq)))else V (V (Cd.mk p.t3 (ak (p.t4+1)) (az.mk p.b0.bF p.b0.fN p.b0.aq)))else G else V (G)
def Mv(M217:az->aa rD):=bI (KV M217)
def aoV(M217:az->aa rD):An:=(noTwo (noTwo (.two (noTwo (Se.lp (Mv M217) .no)) .no)))
def aAf(M217:az->aa rD):gu vp (atg M217) 0 300 217 (aoV M217):=cH (l:=[(bk f217 0,(Se.lp (Mv M217) .no))]) func217 (bT aY) aY (aA (aO Se) aH)
def am4(M217:az->aa rD)(a0:az):aa rD:=
 match Mv M217 (Cd.mk 0 0 (az.mk a0.bF a0.fN a0.aq))with|G=>G|V r2=>bif vn (r2.t4<zY r2.b0.aq)then if 0<=r2.t4/\r2.t4<zY r2.b0.aq then match M217 (az.mk r2.b0.aq[zq r2.t4]!.bF r2.b0.aq[zq r2.t4]!.fN r2.b0.aq[zq r2.t4]!.aq)with|G=>G|V r3=>bif vn (r2.t3<r3)then G else G else G else V (ak (r2.t3+1))
def aGd(M217:az->aa rD)(a0:az):bZ vp (atg M217) 300 (aoV M217) 217 (auR.c (a0,())) [] 0 d217.rd=am4 M217 a0:=aY
def apG:Nat->(az->aa rD)
 |0=>(λ_=>G)
 |n+1=>(am4 (apG n))
def U3(n:Nat):az->aa rD:=(apG n)
def Q8:∀n,ahB (U3 n)
 |0=>λ_ _ h=>(by cases h)
 |n+1=>by
  have ih:=Q8 n;have i217:=ih;exact(fe (an3 i217) (aAf (U3 n)) (λ_=>aY) (λ_=>aY) λg=>aGd (U3 n) g.1)
def Sv:az->aa rD:=λa0=>lim (λn=>U3 n a0)
def aiQ:ahB Sv:=λg b h=>by
 obtain⟨n,hn⟩:=dy (show lim (λn=>U3 n g.1)=V b from h);exact(Q8 n) g b hn
def ajr(F:bu):bu:=ait Sv F
def YN{F:bu}(h:bD vp F):bD vp (ajr F):=WR aiQ h
def td{F:bu}{f:Nat}(h:bA F f):bA (ajr F) f:=ZI h
abbrev rJ:=Int
def d218:Td 0 rJ:= .c [] [2] (.r 0 0 (ec 2 aP en) sn (λz=>z.1.1) (λx=>((x,()),(()))))
def atW:=(lc (ql 166) ln)
def ald(M:(af aB)->aa rJ):bu->bu:=eL vp 218 O atW d218 (λg=>M g.1)
def aaT{M:(af aB)->aa rJ}{F:bu}{f:Nat}(h:bA F f):bA (ald M F) f:=gF h (λ_=>aY)
def al3(M:(af aB)->aa rJ):Prop:=HL vp 218 atW d218 (λg=>M g.1)
def WG{M:(af aB)->aa rJ}(hM:al3 M){F:bu}(h:bD vp F):bD vp (ald M F):=gm (sc:=Bf) eo hM ⟨_,func218,aY,aY⟩ (λ_=>aY) (λ_=>aY) h
def ar3(M218:(af aB)->aa rJ):bu:=(ald M218 dA)
def ajC{M218}(h218:al3 M218):bD vp (ar3 M218):=(WG h218 aV)
structure rV where
 t0:List aB
 (t3 t4:Int)
def SZ:Td 0 rV:= .c [] [0,3,4] (.r 0 0 (ec 0 (ql 166) (ec 3 aP (ec 4 aP en))) sn (λz=>⟨z.1.1,z.1.2.1,z.1.t.1⟩) (λx=>((x.t0,x.t3,x.t4,()),(()))))
def K0(M218:(af aB)->aa rJ)(p:rV):aa (aa rV):=
 bif vn (p.t4<zY p.t0)then if 0<=p.t4/\p.t4<zY p.t0 then match M218 p.t0[zq p.t4]!.aQ with|G=>G|V r1=>if 0<=p.t4/\p.t4<zY p.t0 then match M218 p.t0[zq p.t4]!.aX with|G=>G|V r2=>bif vn (p.t3<ak (r1+1))then bif vn (ak (r1+1)<ak (r2+1))then V (V (rV.mk p.t0 (ak (r2+1)) (ak (p.t4+1))))else V (V (rV.mk p.t0 (ak (r1+1)) (ak (p.t4+1))))else bif vn (p.t3<ak (r2+1))then V (V (rV.mk p.t0 (ak (r2+1)) (ak (p.t4+1))))else V (V (rV.mk p.t0 p.t3 (ak (p.t4+1))))else G else G else V (G)
def NQ(M218:(af aB)->aa rJ):=bI (K0 M218)
def aqZ(M218:(af aB)->aa rJ):An:=(noTwo (noTwo (.two (noTwo (SZ.lp (NQ M218) .no)) .no)))
def aw9(M218:(af aB)->aa rJ):gu vp (ar3 M218) 0 300 218 (aqZ M218):=cH (l:=[(bk f218 0,(SZ.lp (NQ M218) .no))]) func218 (bT aY) aY (aA (aO SZ) aH)
def ajs(M218:(af aB)->aa rJ)(a0:af aB):aa rJ:=
 match NQ M218 (rV.mk a0 0 0)with|G=>G|V r3=>bif vn (r3.t4<zY r3.t0)then if 0<=r3.t4/\r3.t4<zY r3.t0 then match M218 r3.t0[zq r3.t4]!.aQ with|G=>G|V r4=>if 0<=r3.t4/\r3.t4<zY r3.t0 then match M218 r3.t0[zq r3.t4]!.aX with|G=>G|V r5=>bif vn (r3.t3<ak (r4+1))then bif vn (ak (r4+1)<ak (r5+1))then G else G else bif vn (r3.t3<ak (r5+1))then G else G else G else G else V (r3.t3)
def aFL(M218:(af aB)->aa rJ)(a0:af aB):bZ vp (ar3 M218) 300 (aqZ M218) 218 (atW.c (a0,())) [] 0 d218.rd=ajs M218 a0:=aY
def aoP:Nat->((af aB)->aa rJ)
 |0=>(λ_=>G)
 |n+1=>(ajs (aoP n))
def T7(n:Nat):(af aB)->aa rJ:=(aoP n)
def Pm:∀n,al3 (T7 n)
 |0=>λ_ _ h=>(by cases h)
 |n+1=>by
  have ih:=Pm n;have i218:=ih;exact(fe (ajC i218) (aw9 (T7 n)) (λ_=>aY) (λ_=>aY) λg=>aFL (T7 n) g.1)
def akf:(af aB)->aa rJ:=λa0=>lim (λn=>T7 n a0)
def ahP:al3 akf:=λg b h=>by
 obtain⟨n,hn⟩:=dy (show lim (λn=>T7 n g.1)=V b from h);exact(Pm n) g b hn
def asF(F:bu):bu:=ald akf F
def ans{F:bu}(h:bD vp F):bD vp (asF F):=WG ahP h
def Kw{F:bu}{f:Nat}(h:bA F f):bA (asF F) f:=aaT h
abbrev qm:=Bool
def d219:Td 0 qm:= .c [] [2] (.r 0 0 (ec 2 qb en) sn (λz=>z.1.1) (λx=>((x,()),(()))))
def asK:=(lc (ql 166) ln)
def alC(M:(af aB)->aa qm):bu->bu:=eL vp 219 O asK d219 (λg=>M g.1)
def Dg{M:(af aB)->aa qm}{F:bu}{f:Nat}(h:bA F f):bA (alC M F) f:=gF h (λ_=>aY)
def aiA(M:(af aB)->aa qm):Prop:=HL vp 219 asK d219 (λg=>M g.1)
def Xu{M:(af aB)->aa qm}(hM:aiA M){F:bu}(h:bD vp F):bD vp (alC M F):=gm (sc:=Bf) eo hM ⟨_,func219,aY,aY⟩ (λ_=>aY) (λ_=>aY) h
def alv(M219:(af aB)->aa qm):bu:=(alC M219 (ajr dA))
def ahh{M219}(h219:aiA M219):bD vp (alv M219):=(Xu h219 (YN aV))
structure Fw where
 t0:List aB
 t3:Int
def T1:Td 0 Fw:= .c [] [0,3] (.r 0 0 (ec 0 (ql 166) (ec 3 aP en)) sn (λz=>⟨z.1.1,z.1.2.1⟩) (λx=>((x.t0,x.t3,()),(()))))
def Nf(M219:(af aB)->aa qm)(p:Fw):aa (aa Fw):=
 bif vn (p.t3<zY p.t0)then match if 0<=p.t3/\p.t3<zY p.t0 then match Sv (az.mk p.t0[zq p.t3]!.aF.bF p.t0[zq p.t3]!.aF.fN p.t0[zq p.t3]!.aF.aq)with|G=>G|V r1=>bif vn (12<r1)then V J else if 0<=p.t3/\p.t3<zY p.t0 then match M219 p.t0[zq p.t3]!.aQ with|G=>G|V r2=>bif r2 then V J else if 0<=p.t3/\p.t3<zY p.t0 then match M219 p.t0[zq p.t3]!.aX with|G=>G|V r3=>V (r3)else G else G else G with|G=>G|V r4=>bif r4 then V (G)else V (V (Fw.mk p.t0 (ak (p.t3+1))))else V (G)
def aba(M219:(af aB)->aa qm):An:=(noTwo (.two (.two (.rb [217,219] 32) .no) .no))
def Nu(M219:(af aB)->aa qm):=bI (Nf M219)
def apW(M219:(af aB)->aa qm):An:=(noTwo (.two (noTwo (T1.lp (Nu M219) (aba M219))) .no))
def aDj{M219}:∀f∈([217,219]:af Nat),bA (alv M219) f:=(aA (Dg (td bG)) (aA (Dg (td bG)) aH))
def aAE(M219:(af aB)->aa qm):gu vp (alv M219) 0 300 219 (apW M219):=cH (l:=[(bk f219 0,(T1.lp (Nu M219) (aba M219))),(.skip,(.rb [217,219] 32))]) func219 (bT aY) aY (aA (aO T1) (aA aDj aH))
def akV(M219:(af aB)->aa qm)(a0:af aB):aa qm:=
 match Nu M219 (Fw.mk a0 0)with|G=>G|V r5=>bif vn (r5.t3<zY r5.t0)then match if 0<=r5.t3/\r5.t3<zY r5.t0 then match Sv (az.mk r5.t0[zq r5.t3]!.aF.bF r5.t0[zq r5.t3]!.aF.fN r5.t0[zq r5.t3]!.aF.aq)with|G=>G|V r6=>bif vn (12<r6)then V J else if 0<=r5.t3/\r5.t3<zY r5.t0 then match M219 r5.t0[zq r5.t3]!.aQ with|G=>G|V r7=>bif r7 then V J else if 0<=r5.t3/\r5.t3<zY r5.t0 then match M219 r5.t0[zq r5.t3]!.aX with|G=>G|V r8=>V (r8)else G else G else G with|G=>G|V r9=>bif r9 then V J else G else V O
def aFA(M219:(af aB)->aa qm)(a0:af aB):bZ vp (alv M219) 300 (apW M219) 219 (asK.c (a0,())) [] 0 d219.rd=akV M219 a0:=aY
def aqM:Nat->((af aB)->aa qm)
 |0=>(λ_=>G)
 |n+1=>(akV (aqM n))
def TZ(n:Nat):(af aB)->aa qm:=(aqM n)
def PY:∀n,aiA (TZ n)
 |0=>λ_ _ h=>(by cases h)
 |n+1=>by
  have ih:=PY n;have i219:=ih;exact(fe (ahh i219) (aAE (TZ n)) (λ_=>aY) (λ_=>aY) λg=>aFA (TZ n) g.1)
def akl:(af aB)->aa qm:=λa0=>lim (λn=>TZ n a0)
def anG:aiA akl:=λg b h=>by
 obtain⟨n,hn⟩:=dy (show lim (λn=>TZ n g.1)=V b from h);exact(PY n) g b hn
def atQ(F:bu):bu:=alC akl F
def ai2{F:bu}(h:bD vp F):bD vp (atQ F):=Xu anG h
def Jh{F:bu}{f:Nat}(h:bA F f):bA (atQ F) f:=Dg h
def ayZ:bu:=(atQ (asF (ajr (ahA (auW dA)))))
structure vV where
 (t3 t4:Int)
 b0:aS
def US:Td 0 vV:= .c [] [1,3,4] (.r 0 1 (ec 1 (qp 0 0) (ec 3 aP (ec 4 aP en))) (sb 0 26 (lg 26) sn) (λz=>⟨z.1.2.1,z.1.t.1,z.2.1⟩) (λx=>(((),x.t3,x.t4,()),(x.b0,()))))
def C1{α:Type}(p:vV)(go:vV->aa α)(e1 e2:aa α):aa α:=
 bif vn (p.t4<zY p.b0.ax)then if 0<=p.t4/\p.t4<zY p.b0.ax then match aaR (az.mk p.b0.ax[zq p.t4]!.aF.bF p.b0.ax[zq p.t4]!.aF.fN p.b0.ax[zq p.t4]!.aF.aq)with|G=>G|V r1=>if 0<=p.t4/\p.t4<zY p.b0.ax then match Sv (az.mk p.b0.ax[zq p.t4]!.aF.bF p.b0.ax[zq p.t4]!.aF.fN p.b0.ax[zq p.t4]!.aF.aq)with|G=>G|V r2=>bif vn (12<r2)then e1 else go (vV.mk (ak (p.t3+r1)) (ak (p.t4+1)) p.b0)else G else G else e2
def Hs(p:vV):aa (aa vV):=
 C1 p (λs=>V (V s)) (V G) (V G)
def Nt:=bI (Hs)
abbrev aBk:=Bool
def d138:Td 0 aBk:= .c [] [2] (.r 0 0 (ec 2 qb en) sn (λz=>z.1.1) (λx=>((x,()),(()))))
def aoM:∀f∈([218,219]:af Nat),bA (ayZ) f:=(aA (Jh (Kw (td (JT (JP bG))))) (aA (Jh (Kw (td (JT (JP bG))))) aH))
def akt(a0:aS):aa aBk:=
 match (bif vn (64<(zY a0.ai:Int))then V J else V (vn (8<(zY a0.ax:Int))))with|G=>G|V r3=>bif r3 then V O else match an1 a0.bM with|G=>G|V r4=>match Nt (vV.mk r4 0 a0)with|G=>G|V r5=>C1 r5 (λ_=>G) (V O) (match (bif vn (r5.t3<=1024)then match akf r5.b0.bM with|G=>G|V r8=>bif vn (r8<=12)then match akl r5.b0.bM with|G=>G|V r9=>V (bif r9 then O else J)else V O else V O)with|G=>G|V r10=>V (r10))
def aCn:=eL vp 138 O (lc (qg 26) ln) d138 (λg=>akt g.1)
def aia:EO aCn:=λh=>kL (F:=ayZ) (an:=(noTwo (.two (.two (.rb [218,219] 14) .no) (noTwo (.two (noTwo (US.lp Nt .no)) (.two (.rb [218,219] 2) .no)))))) (l:=[(.skip,(.rb [218,219] 14)),(bk f138 0,(US.lp Nt .no)),(.skip,(.rb [218,219] 2))]) func138 (ai2 (ans (YN (VU (amJ aV))))) (aA aoM (aA (aO US) (aA aoM aH))) h
def azS:bu:=dA
structure vD where
 t0:ByteArray
 t3:Int
def Tu:Td 0 vD:= .c [] [0,3] (.r 0 0 (ec 0 qs (ec 3 aP en)) sn (λz=>⟨z.1.1,z.1.2.1⟩) (λx=>((x.t0,x.t3,()),(()))))
def Im{α:Type}(p:vD)(go:vD->aa α)(e1 e2:aa α):aa α:=
 bif vn (p.t3<p.t0.size)then if 0<=p.t3/\p.t3<p.t0.size then match (bif vn (97<=dh p.t0 p.t3.toNat)then V (vn (dh p.t0 p.t3.toNat<=122))else V O)with|G=>G|V r1=>match (bif vn (48<=dh p.t0 p.t3.toNat)then bif vn (dh p.t0 p.t3.toNat<=57)then V J else bif vn (dh p.t0 p.t3.toNat=46)then V J else V (vn (dh p.t0 p.t3.toNat=95))else bif vn (dh p.t0 p.t3.toNat=46)then V J else V (vn (dh p.t0 p.t3.toNat=95)))with|G=>G|V r2=>match (bif bif r1 then O else J then bif vn (p.t3=0)then V J else V (bif r2 then O else J)else V O)with|G=>G|V r3=>bif r3 then e1 else go (vD.mk p.t0 (ak (p.t3+1)))else G else e2
def Md(p:vD):aa (aa vD):=
 Im p (λs=>V (V s)) (V G) (V G)
def aeW:An:=(noTwo (.two (noTwo (.two (.rb [] 5) (.two (.rb [] 6) (.two (.rb [] 53) .no)))) .no))
def NH:=bI (Md)
abbrev aAS:=Bool
def d140:Td 0 aAS:= .c [] [2] (.r 0 0 (ec 2 qb en) sn (λz=>z.1.1) (λx=>((x,()),(()))))
def Wy:∀f∈([]:af Nat),bA (azS) f:=aH
def aaj(a0:ByteArray):aa aAS:=
 match (bif vn ((a0.size:Int)<1)then V J else V (vn (40<(a0.size:Int))))with|G=>G|V r4=>bif r4 then V O else match NH (vD.mk a0 0)with|G=>G|V r5=>Im r5 (λ_=>G) (V O) (V J)
def aiL:=eL vp 140 O (lc qs ln) d140 (λg=>aaj g.1)
def XA:EO aiL:=λh=>kL (F:=azS) (an:=(noTwo (.two (.two (.rb [] 14) .no) (.two (noTwo (Tu.lp NH aeW)) .no)))) (l:=[(.skip,(.rb [] 14)),(bk f140 0,(Tu.lp NH aeW)),(.skip,(.rb [] 5)),(.skip,(.rb [] 6)),(.skip,(.rb [] 53))]) func140 aV (aA Wy (aA (aO Tu) (aA Wy (aA Wy (aA Wy aH))))) h
def Zn:EP aiL:=λh=>kP h
def asw:bu:=dA
abbrev atv:=Bool
def d141:Td 0 atv:= .c [] [4] (.r 0 0 (ec 4 qb en) sn (λz=>z.1.1) (λx=>((x,()),(()))))
def aCM:=(aU (aU ln))
def aps:An:=(noTwo (.two (.rb [] 4) .no))
def aAz:∀f∈([]:af Nat),bA (asw) f:=aH
def P6(a0:Int)(a1:Int):atv:=
 let r1:Bool:=bif vn (a0<=a1)then bif vn (-1048576<=a0)then vn (a1<=1048576)else O else O;r1
def aFa(a0:Int)(a1:Int):bZ vp (asw) 300 (aps) 141 (aCM.c (a0,a1,())) [] 0 d141.rd=V (P6 a0 a1):=by
 refine Eq.trans (b:=(
  match bif vn (a0<=a1)then bif vn (-1048576<=a0)then V (vn (a1<=1048576))else V (O)else V (O)with|G=>G|V r1=>V (r1):aa atv)) aY ?_
 simp only[P6,cq,cO]
def akR:=eL vp 141 O aCM d141 (λg=>V (P6 g.1 g.2.1))
def XU:EO akR:=λh=>kL (F:=asw) (an:=aps) (l:=[(.skip,(.rb [] 4))]) func141 aV (aA aAz aH) h (c:=λg=>aFa g.1 g.2.1)
def aao:EP akR:=λh=>kP h
structure qL where
 t0:List bh
 (t1 t5 t6:Int)
def U0:Td 0 qL:= .c [] [0,1,5,6] (.r 0 0 (ec 0 (ql 131) (ec 1 aP (ec 5 aP (ec 6 aP en)))) sn (λz=>⟨z.1.1,z.1.2.1,z.1.t.1,z.1.t.2.1⟩) (λx=>((x.t0,x.t1,x.t5,x.t6,()),(()))))
def GV{α:Type}(p:qL)(go:qL->aa α)(e1 e2:aa α):aa α:=
 bif vn (p.t6<zY p.t0)then if 0<=p.t6/\p.t6<zY p.t0 then bif bif vn (p.t0[zq p.t6]!.bS=p.t1)then O else J then go (qL.mk p.t0 p.t1 p.t5 (ak (p.t6+1)))else if 0<=p.t6/\p.t6<zY p.t0 then if 0<=p.t6/\p.t6<zY p.t0 then bif vn (4096<ak (p.t5*ak (ak (p.t0[zq p.t6]!.ag-p.t0[zq p.t6]!.ah)+1)))then e1 else go (qL.mk p.t0 p.t1 (ak (p.t5*ak (ak (p.t0[zq p.t6]!.ag-p.t0[zq p.t6]!.ah)+1))) (ak (p.t6+1)))else G else G else G else e2
def Mi(p:qL):aa (aa qL):=
 GV p (λs=>V (V s)) (V G) (V G)
def LV:=bI (Mi)
abbrev aBu:=Int
def d220:Td 0 aBu:= .c [] [4] (.r 0 0 (ec 4 aP en) sn (λz=>z.1.1) (λx=>((x,()),(()))))
def Z4(a0:af bh)(a1:Int):aa aBu:=
 match LV (qL.mk a0 a1 (1) (0))with|G=>G|V r1=>GV r1 (λ_=>G) (V (4097)) (V (r1.t5))
def av3:=eL vp 220 O (lc (ql 131) (aU ln)) d220 (λg=>Z4 g.1 g.2.1)
def ahw:EO av3:=λh=>kL (an:=(noTwo (noTwo (.two (noTwo (U0.lp LV .no)) .no)))) (l:=[(bk f220 0,(U0.lp LV .no))]) func220 aV (aA (aO U0) aH) h
def aaO:EP av3:=λh=>kP h
def aCG:bu:=(av3 (akR (aiL dA)))
structure vt where
 t0:List bh
 (t3 t5:Int)
 b0:bh
def Uv:Td 0 vt:= .c [] [0,3,4,5] (.r 0 1 (ec 0 (ql 131) (ec 3 aP (ec 4 (qp 0 0) (ec 5 aP en)))) (sb 0 131 (lg 131) sn) (λz=>⟨z.1.1,z.1.2.1,z.1.t.2.1,z.2.1⟩) (λx=>((x.t0,x.t3,(),x.t5,()),(x.b0,()))))
def uS{α:Type}(p:vt)(go:vt->aa α)(e1 e2:aa α):aa α:=
 bif vn (p.t5<p.t3)then if 0<=p.t5/\p.t5<zY p.t0 then bif p.t0[zq p.t5]!.fName.toList==p.b0.fName.toList then e1 else go (vt.mk p.t0 p.t3 (ak (p.t5+1)) p.b0)else G else e2
def KE(p:vt):aa (aa vt):=
 uS p (λs=>V (V s)) (V G) (V G)
def MC:=bI (KE)
structure Aa where
 t0:List bh
 t3:Int
def U7:Td 0 Aa:= .c [] [0,3] (.r 0 0 (ec 0 (ql 131) (ec 3 aP en)) sn (λz=>⟨z.1.1,z.1.2.1⟩) (λx=>((x.t0,x.t3,()),(()))))
def Is{α:Type}(p:Aa)(go:Aa->aa α)(e1 e2 e3 e4 e5:aa α):aa α:=
 bif vn (p.t3<zY p.t0)then if 0<=p.t3/\p.t3<zY p.t0 then match aaj p.t0[zq p.t3]!.fName with|G=>G|V r1=>bif bif r1 then O else J then e1 else match MC (vt.mk p.t0 p.t3 0 p.t0[zq p.t3]!)with|G=>G|V r2=>uS r2 (λ_=>G) e2 (match (bif bif vn (r2.b0.bS=0)then O else J then bif bif vn (r2.b0.bS=1)then O else J then bif bif vn (r2.b0.bS=2)then O else J then V (bif vn (r2.b0.bS=3)then O else J)else V O else V O else V O)with|G=>G|V r3=>bif r3 then e3 else bif bif P6 r2.b0.ah r2.b0.ag then O else J then e4 else match (bif vn (r2.b0.bS=0)then bif vn (r2.b0.gJ<r2.b0.ah)then V J else bif vn (r2.b0.ag<r2.b0.gJ)then V J else bif bif vn (r2.b0.bS=0)then O else J then V (bif vn (r2.b0.gJ=0)then O else J)else V O else bif bif vn (r2.b0.bS=0)then O else J then V (bif vn (r2.b0.gJ=0)then O else J)else V O)with|G=>G|V r4=>bif r4 then e4 else go (Aa.mk r2.t0 (ak (r2.t3+1))))else G else e5
def CQ(p:Aa):aa (aa Aa):=
 Is p (λs=>V (V s)) (V G) (V G) (V G) (V G) (V G)
def acv:An:=(noTwo (.two (noTwo (noTwo (.two (noTwo (Uv.lp MC .no)) (.two (.two (.rb [220] 50) .no) (noTwo (.two (.rb [220] 83) .no)))))) .no))
def Lf:=bI (CQ)
abbrev aw0:=Int
def d139:Td 0 aw0:= .c [] [2] (.r 0 0 (ec 2 aP en) sn (λz=>z.1.1) (λx=>((x,()),(()))))
def acO:∀f∈([220]:af Nat),bA (aCG) f:=(aA (aaO (aao (Zn bG))) aH)
def aip(a0:af bh):aa aw0:=
 match Lf (Aa.mk a0 (0))with|G=>G|V r5=>Is r5 (λ_=>G) (V (7)) (V (8)) (V (1)) (V (3)) (match (match Z4 r5.t0 (1)with|G=>G|V r10=>bif vn (4096<r10)then V (J)else match Z4 r5.t0 (2)with|G=>G|V r11=>bif vn (4096<r11)then V (J)else match Z4 r5.t0 (3)with|G=>G|V r12=>V (vn (256<r12)))with|G=>G|V r13=>bif r13 then V (4)else V (0))
def aBK:=eL vp 139 O (lc (ql 131) ln) d139 (λg=>aip g.1)
def agK:EO aBK:=λh=>kL (F:=aCG) (an:=(noTwo (.two (noTwo (U7.lp Lf acv)) (.two (.two (.rb [220] 96) .no) .no)))) (l:=[(bk f139 0,(U7.lp Lf acv)),(bk f139 1,(Uv.lp MC .no)),(.skip,(.rb [220] 50)),(.skip,(.rb [220] 83)),(.skip,(.rb [220] 96))]) func139 (ahw (XU (XA aV))) (aA (aO U7) (aA (aO Uv) (aA acO (aA acO (aA acO aH))))) h
def aHh:bu:=dA
abbrev aup:=Int
def d270:Td 0 aup:= .c [] [2] (.r 0 0 (ec 2 aP en) sn (λz=>z.1.1) (λx=>((x,()),(()))))
def azb:=(aU ln)
def aoY:An:= .no
def IS(a0:Int):aup:=
 bif vn (a0=0)then 0 else bif vn (a0=24)then 0 else bif vn (a0=6)then 1 else bif vn (a0=7)then 1 else bif vn (a0=8)then 2 else bif vn (a0=9)then 2 else bif vn (a0=10)then 2 else bif vn (a0=11)then 2 else bif vn (a0=12)then 2 else bif vn (a0=13)then 2 else bif vn (a0=14)then 2 else bif vn (a0=15)then 2 else bif vn (a0=16)then 2 else bif vn (a0=17)then 2 else bif vn (a0=18)then 2 else bif vn (a0=19)then 2 else bif vn (a0=20)then 2 else bif vn (a0=21)then 2 else bif vn (a0=22)then 2 else bif vn (a0=23)then 3 else bif vn (a0=25)then-2 else-1
def aE0(a0:Int):bZ vp (aHh) 300 (aoY) 270 (azb.c (a0,())) [] 0 d270.rd=V (IS a0):=by
 refine Eq.trans (b:=(
  bif vn (a0=0)then V (0)else bif vn (a0=24)then V (0)else bif vn (a0=6)then V (1)else bif vn (a0=7)then V (1)else bif vn (a0=8)then V (2)else bif vn (a0=9)then V (2)else bif vn (a0=10)then V (2)else bif vn (a0=11)then V (2)else bif vn (a0=12)then V (2)else bif vn (a0=13)then V (2)else bif vn (a0=14)then V (2)else bif vn (a0=15)then V (2)else bif vn (a0=16)then V (2)else bif vn (a0=17)then V (2)else bif vn (a0=18)then V (2)else bif vn (a0=19)then V (2)else bif vn (a0=20)then V (2)else bif vn (a0=21)then V (2)else bif vn (a0=22)then V (2)else bif vn (a0=23)then V (3)else bif vn (a0=25)then V (-2)else V (-1):aa aup)) aY ?_
 simp only[IS,cq,cO]
def ayW:=eL vp 270 O azb d270 (λg=>V (IS g.1))
def akv:EO ayW:=λh=>kL (an:=aoY) func270 aV aH h (c:=λg=>aE0 g.1)
abbrev ud:=Bool
def d221:Td 0 ud:= .c [] [6] (.r 0 0 (ec 6 qb en) sn (λz=>z.1.1) (λx=>((x,()),(()))))
def au9:=(lc (ql 131) (lc (qg 137) (lc qb ln)))
def avI(M:(af bh)->az->Bool->aa ud):bu->bu:=eL vp 221 O au9 d221 (λg=>M g.1 g.2.1 g.2.2.1)
def alG(M:(af bh)->az->Bool->aa ud):Prop:=HL vp 221 au9 d221 (λg=>M g.1 g.2.1 g.2.2.1)
def WM{M:(af bh)->az->Bool->aa ud}(hM:alG M){F:bu}(h:bD vp F):bD vp (avI M F):=gm (sc:=Bf) eo hM ⟨_,func221,aY,aY⟩ (λ_=>aY) (λ_=>aY) h
def aki(M221:(af bh)->az->Bool->aa ud):bu:=(ayW (avI M221 dA))
def ajc{M221}(h221:alG M221):bD vp (aki M221):=(akv (WM h221 aV))
structure B0 where
 t0:List bh
 t2:Bool
 t8:Int
 b0:az
def SX:Td 0 B0:= .c [] [0,2,4,8] (.r 0 1 (ec 0 (ql 131) (ec 2 qb (ec 4 (qp 0 0) (ec 8 aP en)))) (sb 0 137 (lg 137) sn) (λz=>⟨z.1.1,z.1.2.1,z.1.t.2.1,z.2.1⟩) (λx=>((x.t0,x.t2,(),x.t8,()),(x.b0,()))))
def Mw(M221:(af bh)->az->Bool->aa ud)(p:B0):aa (aa B0):=
 bif vn (p.t8<zY p.b0.aq)then if 0<=p.t8/\p.t8<zY p.b0.aq then match M221 p.t0 (az.mk p.b0.aq[zq p.t8]!.bF p.b0.aq[zq p.t8]!.fN p.b0.aq[zq p.t8]!.aq) p.t2 with|G=>G|V r1=>bif bif r1 then O else J then V (G)else V (V (B0.mk p.t0 p.t2 (ak (p.t8+1)) (az.mk p.b0.bF p.b0.fN p.b0.aq)))else G else V (G)
def HZ(M221:(af bh)->az->Bool->aa ud):=bI (Mw M221)
def aqD(M221:(af bh)->az->Bool->aa ud):An:=(noTwo (noTwo (.two (.two (.rb [] 40) .no) (.two (noTwo (.two (.two (.rb [] 65) .no) (.two (.rb [] 73) .no))) (.two (noTwo (SX.lp (HZ M221) .no)) .no)))))
def ab0{M221}:∀f∈([]:af Nat),bA (aki M221) f:=aH
def aCu(M221:(af bh)->az->Bool->aa ud):gu vp (aki M221) 0 300 221 (aqD M221):=cH (l:=[(.skip,(.rb [] 40)),(.skip,(.rb [] 65)),(.skip,(.rb [] 73)),(bk f221 0,(SX.lp (HZ M221) .no))]) func221 (bT aY) aY (aA ab0 (aA ab0 (aA ab0 (aA (aO SX) aH))))
def ajF(M221:(af bh)->az->Bool->aa ud)(a0:af bh)(a1:az)(a2:Bool):aa ud:=
 match bif vn (IS a1.bF= -1)then V J else bif vn (0<=IS a1.bF)then bif bif vn (zY a1.aq=IS a1.bF)then O else J then V J else bif vn (IS a1.bF= -2)then bif vn ((zY a1.aq:Int)<2)then V J else V (vn (33<(zY a1.aq:Int)))else V O else bif vn (IS a1.bF= -2)then bif vn ((zY a1.aq:Int)<2)then V J else V (vn (33<(zY a1.aq:Int)))else V O with|G=>G|V r2=>bif r2 then V O else bif vn (a1.bF=24)then match bif vn (a1.fN<0)then V J else bif vn (zY a0<=a1.fN)then V J else bif a2 then if 0<=a1.fN/\a1.fN<zY a0 then V (vn (a0[a1.fN.toNat]!.bS=0))else G else V O with|G=>G|V r3=>bif r3 then V O else match HZ M221 (B0.mk a0 a2 0 (az.mk a1.bF a1.fN a1.aq))with|G=>G|V r4=>bif vn (r4.t8<zY r4.b0.aq)then if 0<=r4.t8/\r4.t8<zY r4.b0.aq then match M221 r4.t0 (az.mk r4.b0.aq[zq r4.t8]!.bF r4.b0.aq[zq r4.t8]!.fN r4.b0.aq[zq r4.t8]!.aq) r4.t2 with|G=>G|V r5=>bif bif r5 then O else J then V O else G else G else V J else match bif bif vn (a1.bF=0)then O else J then V (bif vn (a1.fN=0)then O else J)else V O with|G=>G|V r6=>bif r6 then V O else match HZ M221 (B0.mk a0 a2 0 (az.mk a1.bF a1.fN a1.aq))with|G=>G|V r7=>bif vn (r7.t8<zY r7.b0.aq)then if 0<=r7.t8/\r7.t8<zY r7.b0.aq then match M221 r7.t0 (az.mk r7.b0.aq[zq r7.t8]!.bF r7.b0.aq[zq r7.t8]!.fN r7.b0.aq[zq r7.t8]!.aq) r7.t2 with|G=>G|V r8=>bif bif r8 then O else J then V O else G else G else V J
def aFE(M221:(af bh)->az->Bool->aa ud)(a0:af bh)(a1:az)(a2:Bool):bZ vp (aki M221) 300 (aqD M221) 221 (au9.c (a0,a1,a2,())) [] 0 d221.rd=ajF M221 a0 a1 a2:=aY
def aqS:Nat->((af bh)->az->Bool->aa ud)
 |0=>(λ_ _ _=>G)
 |n+1=>(ajF (aqS n))
def T4(n:Nat):(af bh)->az->Bool->aa ud:=(aqS n)
def OU:∀n,alG (T4 n)
 |0=>λ_ _ h=>(by cases h)
 |n+1=>by
  have ih:=OU n;have i221:=ih;exact(fe (ajc i221) (aCu (T4 n)) (λ_=>aY) (λ_=>aY) λg=>aFE (T4 n) g.1 g.2.1 g.2.2.1)
def anr:(af bh)->az->Bool->aa ud:=λa0 a1 a2=>lim (λn=>T4 n a0 a1 a2)
def ajB:alG anr:=λg b h=>by
 obtain⟨n,hn⟩:=dy (show lim (λn=>T4 n g.1 g.2.1 g.2.2.1)=V b from h);exact(OU n) g b hn
def aFd(F:bu):bu:=avI anr F
def ai4{F:bu}(h:bD vp F):bD vp (aFd F):=WM ajB h
def aGf:bu:=dA
abbrev asY:=Int
def d313:Td 0 asY:= .c [] [2] (.r 0 0 (ec 2 aP en) sn (λz=>z.1.1) (λx=>((x,()),(()))))
def aCN:=(aU ln)
def apq:An:= .no
def Ck(a0:Int):asY:=
 bif vn (a0<0)then ak (0-a0)else a0
def aGt(a0:Int):bZ vp (aGf) 300 (apq) 313 (aCN.c (a0,())) [] 0 d313.rd=V (Ck a0):=by
 refine Eq.trans (b:=(
  bif vn (a0<0)then V (ak (0-a0))else V (a0):aa asY)) aY ?_
 simp only[Ck,cq,cO]
def aeR:=eL vp 313 O aCN d313 (λg=>V (Ck g.1))
def ah0:EO aeR:=λh=>kL (an:=apq) func313 aV aH h (c:=λg=>aGt g.1)
def aGr:bu:=(ak0 (aab dA))
abbrev atr:=Int×Int
def d314:Td 0 atr:= .c [] [4,5] (.r 0 0 (ec 4 aP (ec 5 aP en)) sn (λz=>(z.1.1,z.1.2.1)) (λx=>((x.1,x.2,()),(()))))
def aDc:=(aU (aU ln))
def apI:An:= .no
def aeM(a0:Int)(a1:Int):atr:=
 bif vn (a0<0)then bif vn (0<a1)then(j9 (0) (ak (a0+1)),lM (0) (ak (a1-1)))else(j9 (0) (ak (a0+1)),0)else bif vn (0<a1)then(0,lM (0) (ak (a1-1)))else(0,0)
def aHw(a0:Int)(a1:Int):bZ vp (aGr) 300 (apI) 314 (aDc.c (a0,a1,())) [] 0 d314.rd=V (aeM a0 a1):=by
 refine Eq.trans (b:=(
  bif vn (a0<0)then bif vn (0<a1)then V ((j9 (0) (ak (a0+1)),lM (0) (ak (a1-1))))else V ((j9 (0) (ak (a0+1)),0))else bif vn (0<a1)then V ((0,lM (0) (ak (a1-1))))else V ((0,0)):aa atr)) aY ?_
 simp only[aeM,cq,cO]
def aAZ:=eL vp 314 O aDc d314 (λg=>V (aeM g.1 g.2.1))
def alP:EO aAZ:=λh=>kL (an:=apI) func314 (MH (Na aV)) aH h (c:=λg=>aHw g.1 g.2.1)
def ayz:bu:=(aAZ (aeR (ak0 (aab dA))))
structure sM where
 (t2 t3:List Int)
 (t15 t16 t17:Int)
def RV:Td 0 sM:= .c [] [2,3,15,16,17] (.r 0 0 (ec 2 (ql 3) (ec 3 (ql 3) (ec 15 aP (ec 16 aP (ec 17 aP en))))) sn (λz=>⟨z.1.1,z.1.2.1,z.1.t.1,z.1.t.2.1,z.1.q.1⟩) (λx=>((x.t2,x.t3,x.t15,x.t16,x.t17,()),(()))))
def Ci{α:Type}(p:sM)(go:sM->aa α)(e1:aa α):aa α:=
 bif vn (p.t17<zY p.t2)then if 0<=p.t17/\p.t17<zY p.t2 then if 0<=p.t17/\p.t17<zY p.t3 then go (sM.mk p.t2 p.t3 (j9 p.t15 p.t2[zq p.t17]!) (lM p.t16 p.t3[zq p.t17]!) (ak (p.t17+1)))else G else G else e1
def K9(p:sM):aa (aa sM):=
 Ci p (λs=>V (V s)) (V G)
def G4:=bI (K9)
abbrev aDw:=Int×Int
def d271:Td 0 aDw:= .c [] [8,9] (.r 0 0 (ec 8 aP (ec 9 aP en)) sn (λz=>(z.1.1,z.1.2.1)) (λx=>((x.1,x.2,()),(()))))
def apx:∀f∈([]:af Nat),bA (ayz) f:=aH
def alp(a0:af bh)(a1:az)(a2:af Int)(a3:af Int):aa aDw:=
 bif vn (a1.bF=0)then match (bif vn (a1.fN< -1048576)then V J else V (vn (1048576<a1.fN)))with|G=>G|V r1=>bif r1 then V (-1048577,1048577)else V (a1.fN,a1.fN)else bif vn (a1.bF=24)then if 0<=a1.fN/\a1.fN<zY a0 then if 0<=a1.fN/\a1.fN<zY a0 then V (a0[a1.fN.toNat]!.ah,a0[a1.fN.toNat]!.ag)else G else G else bif vn (a1.bF=6)then if(0:Int)<=(0:Int)/\(0:Int)<zY a3 then if(0:Int)<=(0:Int)/\(0:Int)<zY a2 then V ((ak (0-a3[0]!),ak (0-a2[0]!)))else G else G else bif vn (a1.bF=8)then if(0:Int)<=(0:Int)/\(0:Int)<zY a2 then if(0:Int)<=(1:Int)/\(1:Int)<zY a2 then if(0:Int)<=(0:Int)/\(0:Int)<zY a3 then if(0:Int)<=(1:Int)/\(1:Int)<zY a3 then V ((ak (a2[0]! +a2[1]!),ak (a3[0]! +a3[1]!)))else G else G else G else G else bif vn (a1.bF=9)then if(0:Int)<=(0:Int)/\(0:Int)<zY a2 then if(0:Int)<=(1:Int)/\(1:Int)<zY a3 then if(0:Int)<=(0:Int)/\(0:Int)<zY a3 then if(0:Int)<=(1:Int)/\(1:Int)<zY a2 then V ((ak (a2[0]! -a3[1]!),ak (a3[0]! -a2[1]!)))else G else G else G else G else bif vn (a1.bF=10)then if(0:Int)<=(0:Int)/\(0:Int)<zY a2 then if(0:Int)<=(1:Int)/\(1:Int)<zY a2 then if(0:Int)<=(0:Int)/\(0:Int)<zY a2 then if(0:Int)<=(1:Int)/\(1:Int)<zY a3 then if(0:Int)<=(0:Int)/\(0:Int)<zY a3 then if(0:Int)<=(1:Int)/\(1:Int)<zY a2 then if(0:Int)<=(0:Int)/\(0:Int)<zY a3 then if(0:Int)<=(1:Int)/\(1:Int)<zY a3 then V ((j9 (j9 (ak (a2[0]! *a2[1]!)) (ak (a2[0]! *a3[1]!))) (j9 (ak (a3[0]! *a2[1]!)) (ak (a3[0]! *a3[1]!))),lM (lM (ak (a2[0]! *a2[1]!)) (ak (a2[0]! *a3[1]!))) (lM (ak (a3[0]! *a2[1]!)) (ak (a3[0]! *a3[1]!)))))else G else G else G else G else G else G else G else G else bif vn (a1.bF=11)then if(0:Int)<=(0:Int)/\(0:Int)<zY a2 then if(0:Int)<=(0:Int)/\(0:Int)<zY a3 then match (if(0:Int)<=(0:Int)/\(0:Int)<zY a2 then bif vn (0<=a2[zq 0]!)then if(0:Int)<=(1:Int)/\(1:Int)<zY a2 then V (vn (0<=a2[zq 1]!))else G else V O else G)with|G=>G|V r2=>bif r2 then V ((0,lM (Ck a2[0]!) (Ck a3[0]!)))else V ((ak (0-lM (Ck a2[0]!) (Ck a3[0]!)),lM (Ck a2[0]!) (Ck a3[0]!)))else G else G else bif vn (a1.bF=12)then if(0:Int)<=(1:Int)/\(1:Int)<zY a2 then if(0:Int)<=(1:Int)/\(1:Int)<zY a3 then V (aeM a2[1]! a3[1]!)else G else G else bif vn (a1.bF=21)then if(0:Int)<=(0:Int)/\(0:Int)<zY a2 then if(0:Int)<=(1:Int)/\(1:Int)<zY a2 then if(0:Int)<=(0:Int)/\(0:Int)<zY a3 then if(0:Int)<=(1:Int)/\(1:Int)<zY a3 then V (j9 a2[0]! a2[1]!,j9 a3[0]! a3[1]!)else G else G else G else G else bif vn (a1.bF=22)then if(0:Int)<=(0:Int)/\(0:Int)<zY a2 then if(0:Int)<=(1:Int)/\(1:Int)<zY a2 then if(0:Int)<=(0:Int)/\(0:Int)<zY a3 then if(0:Int)<=(1:Int)/\(1:Int)<zY a3 then V (lM a2[0]! a2[1]!,lM a3[0]! a3[1]!)else G else G else G else G else bif vn (a1.bF=23)then if(0:Int)<=(1:Int)/\(1:Int)<zY a2 then if(0:Int)<=(1:Int)/\(1:Int)<zY a3 then match G4 (sM.mk a2 a3 a2[1]! a3[1]! (2))with|G=>G|V r3=>Ci r3 (λ_=>G) (V (r3.t15,r3.t16))else G else G else bif vn (a1.bF=25)then if(0:Int)<=(1:Int)/\(1:Int)<zY a2 then if(0:Int)<=(1:Int)/\(1:Int)<zY a3 then match G4 (sM.mk a2 a3 a2[1]! a3[1]! (2))with|G=>G|V r4=>Ci r4 (λ_=>G) (V (r4.t15,r4.t16))else G else G else V (0,1)
def axI:=eL vp 271 O (lc (ql 131) (lc (qg 137) (lc (ql 3) (lc (ql 3) ln)))) d271 (λg=>alp g.1 g.2.1 g.t.1 g.t.2.1)
def aib:EO axI:=λh=>kL (F:=ayz) (an:=(noTwo (.two (noTwo (noTwo (.two (.two (.two (.rb [] 29) .no) .no) (noTwo (noTwo (noTwo (noTwo (noTwo (noTwo (noTwo (noTwo (noTwo (noTwo (noTwo (.two (noTwo (.two (.two (.rb [] 154) .no) .no)) (noTwo (noTwo (noTwo (noTwo (noTwo (noTwo (noTwo (.two (noTwo (.two (noTwo (RV.lp G4 .no)) .no)) .no))))))))))))))))))))))) .no))) (l:=[(.skip,(.rb [] 29)),(.skip,(.rb [] 154)),(bk f271 0,(RV.lp G4 .no))]) func271 (alP (ah0 (MH (Na aV)))) (aA apx (aA apx (aA (aO RV) aH))) h
abbrev tP:=Int×Int×Bool
def d222:Td 0 tP:= .c [] [4,5,6] (.r 0 0 (ec 4 aP (ec 5 aP (ec 6 qb en))) sn (λz=>(z.1.1,z.1.2.1,z.1.t.1)) (λx=>((x.1,x.2.1,x.t,()),(()))))
def auw:=(lc (ql 131) (lc (qg 137) ln))
def awc(M:(af bh)->az->aa tP):bu->bu:=eL vp 222 O auw d222 (λg=>M g.1 g.2.1)
def amj(M:(af bh)->az->aa tP):Prop:=HL vp 222 auw d222 (λg=>M g.1 g.2.1)
def WD{M:(af bh)->az->aa tP}(hM:amj M){F:bu}(h:bD vp F):bD vp (awc M F):=gm (sc:=Bf) eo hM ⟨_,func222,aY,aY⟩ (λ_=>aY) (λ_=>aY) h
def awh(M222:(af bh)->az->aa tP):bu:=(axI (awc M222 dA))
def anO{M222}(h222:amj M222):bD vp (awh M222):=(aib (WD h222 aV))
structure GW where
 t0:List bh
 (t7 t8:List Int)
 t9:Int
 b0:az
def U6:Td 0 GW:= .c [] [0,3,7,8,9] (.r 0 3 (ec 0 (ql 131) (ec 3 (qp 0 0) (ec 7 (qo 1) (ec 8 (qo 2) (ec 9 aP en))))) (sb 0 137 (lg 137) (sr 1 3 (sr 2 3 sn))) (λz=>⟨z.1.1,z.t.1,z.t.2.1,z.1.q.1,z.2.1⟩) (λx=>((x.t0,(),(),(),x.t9,()),(x.b0,x.t7,x.t8,()))))
def Fl(M222:(af bh)->az->aa tP)(p:GW):aa (aa GW):=
 bif vn (p.t9<zY p.b0.aq)then if 0<=p.t9/\p.t9<zY p.b0.aq then match M222 p.t0 (az.mk p.b0.aq[zq p.t9]!.bF p.b0.aq[zq p.t9]!.fN p.b0.aq[zq p.t9]!.aq)with|G=>G|V r1=>bif bif r1.snd.snd then O else J then V (G)else if(p.t7++[r1.fst]).length<=1073741824 then if(p.t8++[r1.snd.fst]).length<=1073741824 then V (V (GW.mk p.t0 (p.t7++[r1.fst]) (p.t8++[r1.snd.fst]) (ak (p.t9+1)) (az.mk p.b0.bF p.b0.fN p.b0.aq)))else G else G else G else V (G)
def Nh(M222:(af bh)->az->aa tP):=bI (Fl M222)
def aoU(M222:(af bh)->az->aa tP):An:=(noTwo (noTwo (noTwo (.two (noTwo (U6.lp (Nh M222) .no)) .no))))
def azE(M222:(af bh)->az->aa tP):gu vp (awh M222) 0 300 222 (aoU M222):=cH (l:=[(bk f222 0,(U6.lp (Nh M222) .no))]) func222 (bT aY) aY (aA (aO U6) aH)
def ag8(M222:(af bh)->az->aa tP)(a0:af bh)(a1:az):aa tP:=
 match Nh M222 (GW.mk a0 [] [] (0) (az.mk a1.bF a1.fN a1.aq))with|G=>G|V r2=>bif vn (r2.t9<zY r2.b0.aq)then if 0<=r2.t9/\r2.t9<zY r2.b0.aq then match M222 r2.t0 (az.mk r2.b0.aq[zq r2.t9]!.bF r2.b0.aq[zq r2.t9]!.fN r2.b0.aq[zq r2.t9]!.aq)with|G=>G|V r3=>bif bif r3.snd.snd then O else J then V (0,0,O)else if(r2.t7++[r3.fst]).length<=1073741824 then if(r2.t8++[r3.snd.fst]).length<=1073741824 then G else G else G else G else match alp r2.t0 (az.mk r2.b0.bF r2.b0.fN r2.b0.aq) r2.t7 r2.t8 with|G=>G|V r4=>bif vn (-1048576<=r4.fst)then V ((r4.fst,r4.snd,vn (r4.snd<=1048576)))else V (r4.fst,r4.snd,O)
def aH4(M222:(af bh)->az->aa tP)(a0:af bh)(a1:az):bZ vp (awh M222) 300 (aoU M222) 222 (auw.c (a0,a1,())) [] 0 d222.rd=ag8 M222 a0 a1:=aY
def aqg:Nat->((af bh)->az->aa tP)
 |0=>(λ_ _=>G)
 |n+1=>(ag8 (aqg n))
def Tb(n:Nat):(af bh)->az->aa tP:=(aqg n)
def O9:∀n,amj (Tb n)
 |0=>λ_ _ h=>(by cases h)
 |n+1=>by
  have ih:=O9 n;have i222:=ih;exact(fe (anO i222) (azE (Tb n)) (λ_=>aY) (λ_=>aY) λg=>aH4 (Tb n) g.1 g.2.1)
def alY:(af bh)->az->aa tP:=λa0 a1=>lim (λn=>Tb n a0 a1)
def anV:amj alY:=λg b h=>by
 obtain⟨n,hn⟩:=dy (show lim (λn=>Tb n g.1 g.2.1)=V b from h);exact(O9 n) g b hn
def aH5(F:bu):bu:=awc alY F
def ajo{F:bu}(h:bD vp F):bD vp (aH5 F):=WD anV h
abbrev axZ:=Int
def d142:Td 0 axZ:= .c [] [6] (.r 0 0 (ec 6 aP en) sn (λz=>z.1.1) (λx=>((x,()),(()))))
def NA(a0:af bh)(a1:az)(a2:Bool):aa axZ:=
 match anr a0 (az.mk a1.bF a1.fN a1.aq) a2 with|G=>G|V r1=>bif bif r1 then O else J then V (1)else match alY a0 (az.mk a1.bF a1.fN a1.aq)with|G=>G|V r2=>bif bif r2.snd.snd then O else J then V (3)else V (0)
def amW:=eL vp 142 O (lc (ql 131) (lc (qg 137) (lc qb ln))) d142 (λg=>NA g.1 g.2.1 g.t.1)
def Xh:EO amW:=λh=>kL (an:= .no) func142 (ajo (ai4 aV)) aH h
def ZF:EP amW:=λh=>kP h
def arX:bu:=dA
abbrev arb:=Bool
def d272:Td 0 arb:= .c [] [2] (.r 0 0 (ec 2 qb en) sn (λz=>z.1.1) (λx=>((x,()),(()))))
def axt:=(lc (qg 137) ln)
def aoK:An:=(noTwo (.two (.rb [] 2) .no))
def aBS:∀f∈([]:af Nat),bA (arX) f:=aH
def Oi(a0:az):arb:=
 let r1:Bool:=bif vn (a0.bF=0)then bif vn (a0.fN=0)then vn ((zY a0.aq:Int)=0)else O else O;r1
def aHP(a0:az):bZ vp (arX) 300 (aoK) 272 (axt.c (a0,())) [] 0 d272.rd=V (Oi a0):=by
 refine Eq.trans (b:=(
  match bif vn (a0.bF=0)then bif vn (a0.fN=0)then V (vn ((zY a0.aq:Int)=0))else V (O)else V (O)with|G=>G|V r1=>V (r1):aa arb)) aY ?_
 simp only[Oi,cq,cO]
def asu:=eL vp 272 O axt d272 (λg=>V (Oi g.1))
def agT:EO asu:=λh=>kL (F:=arX) (an:=aoK) (l:=[(.skip,(.rb [] 2))]) func272 aV (aA aBS aH) h (c:=λg=>aHP g.1)
def Kj:EP asu:=λh=>kP h
def axn:bu:=dA
structure Ag where
 t0:List Int
 t3:Int
def Te:Td 0 Ag:= .c [] [0,3] (.r 0 0 (ec 0 (ql 3) (ec 3 aP en)) sn (λz=>⟨z.1.1,z.1.2.1⟩) (λx=>((x.t0,x.t3,()),(()))))
def Ig{α:Type}(p:Ag)(go:Ag->aa α)(e1 e2:aa α):aa α:=
 bif vn (p.t3<zY p.t0)then if 0<=p.t3/\p.t3<zY p.t0 then if 0<=ak (p.t3-1)/\ak (p.t3-1)<zY p.t0 then bif vn (((p.t0,p.t3,()),()).fst.fst[((p.t0,p.t3,()),()).fst.snd.fst.toNat]!<=((p.t0,p.t3,()),()).fst.fst[(ak (((p.t0,p.t3,()),()).fst.snd.fst-1)).toNat]!)then e1 else go (Ag.mk p.t0 (ak (p.t3+1)))else G else G else e2
def Nz(p:Ag):aa (aa Ag):=
 Ig p (λs=>V (V s)) (V G) (V G)
def Mg:=bI (Nz)
abbrev aDd:=Bool
def d273:Td 0 aDd:= .c [] [2] (.r 0 0 (ec 2 qb en) sn (λz=>z.1.1) (λx=>((x,()),(()))))
def aCC:∀f∈([]:af Nat),bA (axn) f:=aH
def an7(a0:af Int):aa aDd:=
 match (bif vn ((zY a0:Int)<1)then V J else bif vn (32<(zY a0:Int))then V J else if(0:Int)<=(0:Int)/\(0:Int)<zY a0 then V (vn (a0[zq 0]! <0))else G)with|G=>G|V r1=>bif r1 then V O else match Mg (Ag.mk a0 1)with|G=>G|V r2=>Ig r2 (λ_=>G) (V O) (V J)
def at7:=eL vp 273 O (lc (ql 3) ln) d273 (λg=>an7 g.1)
def ali:EO at7:=λh=>kL (F:=axn) (an:=(noTwo (.two (.two (.rb [] 17) .no) (.two (noTwo (Te.lp Mg .no)) .no)))) (l:=[(.skip,(.rb [] 17)),(bk f273 0,(Te.lp Mg .no))]) func273 aV (aA aCC (aA (aO Te) aH)) h
def Jp:EP at7:=λh=>kP h
def aA1:bu:=(at7 (asu dA))
abbrev azL:=Bool
def d223:Td 0 azL:= .c [] [6] (.r 0 0 (ec 6 qb en) sn (λz=>z.1.1) (λx=>((x,()),(()))))
def Bg:∀f∈([272,273]:af Nat),bA (aA1) f:=(aA (Jp (Kj bG)) (aA (Jp (Kj bG)) aH))
def Vp(a0:aS)(a1:aB)(a2:Bool):aa azL:=
 match bif vn ((zY a1.aQ:Int)=0)then V (vn ((zY a1.aX:Int)=0))else V O with|G=>G|V r1=>match bif vn (0<=a1.dJ)then bif vn (a1.dJ<zY a0.ai)then if 0<=a1.dJ/\a1.dJ<zY a0.ai then V (vn (a0.ai[a1.dJ.toNat]!.bS=0))else G else V O else V O with|G=>G|V r2=>bif vn (a1.b9=0)then match bif r1 then bif r2 then bif vn (a1.fN=0)then V (vn ((zY a1.aR:Int)=0))else V O else V O else V O with|G=>G|V r3=>V (r3)else bif vn (a1.b9=1)then match bif r1 then bif vn (a1.dJ=0)then bif vn (a1.fN=0)then V (vn ((zY a1.aR:Int)=0))else V O else V O else V O with|G=>G|V r4=>V (r4)else bif vn (a1.b9=2)then match bif r1 then bif vn (a1.dJ=0)then bif vn (a1.fN=0)then bif vn ((zY a1.aR:Int)=0)then V (Oi (az.mk a1.aF.bF a1.aF.fN a1.aF.aq))else V O else V O else V O else V O with|G=>G|V r5=>V (r5)else bif vn (a1.b9=3)then match bif vn (a1.dJ=0)then bif vn (a1.fN=0)then V (vn ((zY a1.aR:Int)=0))else V O else V O with|G=>G|V r6=>V (r6)else bif vn (a1.b9=4)then match bif vn (a1.dJ=0)then bif vn ((zY a1.aX:Int)=0)then V (vn ((zY a1.aR:Int)=0))else V O else V O with|G=>G|V r7=>V (r7)else bif vn (a1.b9=5)then match bif r1 then bif r2 then bif vn (0<=a1.fN)then bif vn (a1.fN<zY a0.ax)then bif vn ((zY a1.aR:Int)=0)then V (Oi (az.mk a1.aF.bF a1.aF.fN a1.aF.aq))else V O else V O else V O else V O else V O with|G=>G|V r8=>V (r8)else bif vn (a1.b9=6)then match bif r1 then bif a2 then bif vn (a1.dJ=0)then bif vn (a1.fN=0)then bif Oi (az.mk a1.aF.bF a1.aF.fN a1.aF.aq)then match an7 a1.aR with|G=>G|V r9=>V (r9)else V O else V O else V O else V O else V O with|G=>G|V r10=>V (r10)else V O
def ave:=eL vp 223 O (lc (qg 26) (lc (qg 166) (lc qb ln))) d223 (λg=>Vp g.1 g.2.1 g.t.1)
def aji:EO ave:=λh=>kL (F:=aA1) (an:=(noTwo (.two (.rb [272,273] 7) (.two (.rb [272,273] 8) (.two (noTwo (noTwo (.two (.two (.rb [272,273] 6) .no) (noTwo (.two (.two (.rb [272,273] 6) .no) (noTwo (.two (.two (.rb [272,273] 6) .no) (noTwo (.two (.two (.rb [272,273] 6) .no) (noTwo (.two (.two (.rb [272,273] 6) .no) (noTwo (.two (.two (.rb [272,273] 6) .no) (noTwo (.two (.two (.rb [272,273] 6) .no) .no))))))))))))))) .no))))) (l:=[(.skip,(.rb [272,273] 7)),(.skip,(.rb [272,273] 8)),(.skip,(.rb [272,273] 6)),(.skip,(.rb [272,273] 6)),(.skip,(.rb [272,273] 6)),(.skip,(.rb [272,273] 6)),(.skip,(.rb [272,273] 6)),(.skip,(.rb [272,273] 6)),(.skip,(.rb [272,273] 6))]) func223 (ali (agT aV)) (aA Bg (aA Bg (aA Bg (aA Bg (aA Bg (aA Bg (aA Bg (aA Bg (aA Bg aH))))))))) h
def ZA:EP ave:=λh=>kP h
abbrev pe:=Int
def d143:Td 0 pe:= .c [] [6] (.r 0 0 (ec 6 aP en) sn (λz=>z.1.1) (λx=>((x,()),(()))))
def avc:=(lc (qg 26) (lc (ql 166) (lc qb ln)))
def ajD(M:aS->(af aB)->Bool->aa pe):bu->bu:=eL vp 143 O avc d143 (λg=>M g.1 g.2.1 g.2.2.1)
def aay{M:aS->(af aB)->Bool->aa pe}{F:bu}{f:Nat}(h:bA F f):bA (ajD M F) f:=gF h (λ_=>aY)
def aiv(M:aS->(af aB)->Bool->aa pe):Prop:=HL vp 143 avc d143 (λg=>M g.1 g.2.1 g.2.2.1)
def W3{M:aS->(af aB)->Bool->aa pe}(hM:aiv M){F:bu}(h:bD vp F):bD vp (ajD M F):=gm (sc:=Bf) eo hM ⟨_,func143,aY,aY⟩ (λ_=>aY) (λ_=>aY) h
def am1(M143:aS->(af aB)->Bool->aa pe):bu:=(ave (ajD M143 (amW dA)))
def ame{M143}(h143:aiv M143):bD vp (am1 M143):=(aji (W3 h143 (Xh aV)))
structure Dk where
 t1:List aB
 t2:Bool
 t7:Int
 b0:aS
def TW:Td 0 Dk:= .c [] [1,2,3,7] (.r 0 1 (ec 1 (ql 166) (ec 2 qb (ec 3 (qp 0 0) (ec 7 aP en)))) (sb 0 26 (lg 26) sn) (λz=>⟨z.1.1,z.1.2.1,z.1.t.2.1,z.2.1⟩) (λx=>((x.t1,x.t2,(),x.t7,()),(x.b0,()))))
def Cp(M143:aS->(af aB)->Bool->aa pe)(p:Dk):aa (aa Dk):=
 bif vn (p.t7<zY p.t1)then if 0<=p.t7/\p.t7<zY p.t1 then match bif p.t2 then match Vp p.b0 (aB.mk p.t1[zq p.t7]!.b9 p.t1[zq p.t7]!.bg p.t1[zq p.t7]!.dJ p.t1[zq p.t7]!.fN (az.mk p.t1[zq p.t7]!.aF.bF p.t1[zq p.t7]!.aF.fN p.t1[zq p.t7]!.aF.aq) p.t1[zq p.t7]!.aQ p.t1[zq p.t7]!.aX p.t1[zq p.t7]!.aR) (vn (((p.t1,p.t2,(),p.t7,()),p.b0,()).fst.snd.snd.snd.fst=ak ((↑((p.t1,p.t2,(),p.t7,()),p.b0,()).fst.fst.length:Int)-1)))with|G=>G|V r1=>V (bif r1 then O else J)else match Vp p.b0 (aB.mk p.t1[zq p.t7]!.b9 p.t1[zq p.t7]!.bg p.t1[zq p.t7]!.dJ p.t1[zq p.t7]!.fN (az.mk p.t1[zq p.t7]!.aF.bF p.t1[zq p.t7]!.aF.fN p.t1[zq p.t7]!.aF.aq) p.t1[zq p.t7]!.aQ p.t1[zq p.t7]!.aX p.t1[zq p.t7]!.aR) O with|G=>G|V r2=>V (bif r2 then O else J)with|G=>G|V r3=>bif r3 then V (G)else bif vn (p.t1[zq p.t7]!.b9=2)then match bif vn (p.t1[zq p.t7]!.bg<0)then V J else bif vn (67108864<p.t1[zq p.t7]!.bg)then V J else bif vn (p.t1[zq p.t7]!.fN<0)then V J else bif vn (p.t1[zq p.t7]!.b9=4)then V (vn (4096<p.t1[zq p.t7]!.fN))else V O with|G=>G|V r4=>bif r4 then V (G)else match bif vn (0<(↑p.t1[zq p.t7]!.aR.length:Int))then if 0<=ak ((↑p.t1[zq p.t7]!.aR.length:Int)-(1:Int))/\ak ((↑p.t1[zq p.t7]!.aR.length:Int)-(1:Int))<(↑p.t1[zq p.t7]!.aR.length:Int)then V (vn (67108864<((p.t1,p.t2,(),p.t7,()),p.b0,()).fst.fst[((p.t1,p.t2,(),p.t7,()),p.b0,()).fst.snd.snd.snd.fst.toNat]!.aR[(ak ((↑((p.t1,p.t2,(),p.t7,()),p.b0,()).fst.fst[((p.t1,p.t2,(),p.t7,()),p.b0,()).fst.snd.snd.snd.fst.toNat]!.aR.length:Int)-1)).toNat]!))else G else V O with|G=>G|V r5=>bif r5 then V (G)else match NA p.b0.ai (az.mk p.t1[zq p.t7]!.aF.bF p.t1[zq p.t7]!.aF.fN p.t1[zq p.t7]!.aF.aq) O with|G=>G|V r6=>bif bif vn (r6=0)then O else J then V (G)else match M143 p.b0 p.t1[zq p.t7]!.aQ O with|G=>G|V r7=>bif bif vn (r7=0)then O else J then V (G)else match M143 p.b0 p.t1[zq p.t7]!.aX O with|G=>G|V r8=>bif bif vn (r8=0)then O else J then V (G)else V (V (Dk.mk p.t1 p.t2 (ak (p.t7+1)) p.b0))else match bif vn (p.t1[zq p.t7]!.bg<0)then V J else bif vn (10000<p.t1[zq p.t7]!.bg)then V J else bif vn (p.t1[zq p.t7]!.fN<0)then V J else bif vn (p.t1[zq p.t7]!.b9=4)then V (vn (4096<p.t1[zq p.t7]!.fN))else V O with|G=>G|V r9=>bif r9 then V (G)else match bif vn (0<(↑p.t1[zq p.t7]!.aR.length:Int))then if 0<=ak ((↑p.t1[zq p.t7]!.aR.length:Int)-(1:Int))/\ak ((↑p.t1[zq p.t7]!.aR.length:Int)-(1:Int))<(↑p.t1[zq p.t7]!.aR.length:Int)then V (vn (67108864<((p.t1,p.t2,(),p.t7,()),p.b0,()).fst.fst[((p.t1,p.t2,(),p.t7,()),p.b0,()).fst.snd.snd.snd.fst.toNat]!.aR[(ak ((↑((p.t1,p.t2,(),p.t7,()),p.b0,()).fst.fst[((p.t1,p.t2,(),p.t7,()),p.b0,()).fst.snd.snd.snd.fst.toNat]!.aR.length:Int)-1)).toNat]!))else G else V O with|G=>G|V r10=>bif r10 then V (G)else match NA p.b0.ai (az.mk p.t1[zq p.t7]!.aF.bF p.t1[zq p.t7]!.aF.fN p.t1[zq p.t7]!.aF.aq) O with|G=>G|V r11=>bif bif vn (r11=0)then O else J then V (G)else match M143 p.b0 p.t1[zq p.t7]!.aQ O with|G=>G|V r12=>bif bif vn (r12=0)then O else J then V (G)else match M143 p.b0 p.t1[zq p.t7]!.aX O with|G=>G|V r13=>bif bif vn (r13=0)then O else J then V (G)else V (V (Dk.mk p.t1 p.t2 (ak (p.t7+1)) p.b0))else G else V (G)
def agq(M143:aS->(af aB)->Bool->aa pe):An:=(noTwo (.two (noTwo (.two (.two (.rb [223] 32) .no) (noTwo (noTwo (.two (.two (.rb [223] 59) .no) (.two (.two (.rb [223] 74) .no) .no)))))) .no))
def Nd(M143:aS->(af aB)->Bool->aa pe):=bI (Cp M143)
def apr(M143:aS->(af aB)->Bool->aa pe):An:=(noTwo (.two (noTwo (TW.lp (Nd M143) (agq M143))) .no))
def afp{M143}:∀f∈([223]:af Nat),bA (am1 M143) f:=(aA (ZA (aay (ZF bG))) aH)
def aCx(M143:aS->(af aB)->Bool->aa pe):gu vp (am1 M143) 0 300 143 (apr M143):=cH (l:=[(bk f143 0,(TW.lp (Nd M143) (agq M143))),(.skip,(.rb [223] 32)),(.skip,(.rb [223] 59)),(.skip,(.rb [223] 74))]) func143 (bT aY) aY (aA (aO TW) (aA afp (aA afp (aA afp aH))))
def ajV(M143:aS->(af aB)->Bool->aa pe)(a0:aS)(a1:af aB)(a2:Bool):aa pe:=
 match Nd M143 (Dk.mk a1 a2 0 a0)with|G=>G|V r14=>bif vn (r14.t7<zY r14.t1)then if 0<=r14.t7/\r14.t7<zY r14.t1 then match bif r14.t2 then match Vp r14.b0 (aB.mk r14.t1[zq r14.t7]!.b9 r14.t1[zq r14.t7]!.bg r14.t1[zq r14.t7]!.dJ r14.t1[zq r14.t7]!.fN (az.mk r14.t1[zq r14.t7]!.aF.bF r14.t1[zq r14.t7]!.aF.fN r14.t1[zq r14.t7]!.aF.aq) r14.t1[zq r14.t7]!.aQ r14.t1[zq r14.t7]!.aX r14.t1[zq r14.t7]!.aR) (vn (((r14.t1,r14.t2,(),r14.t7,()),r14.b0,()).fst.snd.snd.snd.fst=ak ((↑((r14.t1,r14.t2,(),r14.t7,()),r14.b0,()).fst.fst.length:Int)-1)))with|G=>G|V r15=>V (bif r15 then O else J)else match Vp r14.b0 (aB.mk r14.t1[zq r14.t7]!.b9 r14.t1[zq r14.t7]!.bg r14.t1[zq r14.t7]!.dJ r14.t1[zq r14.t7]!.fN (az.mk r14.t1[zq r14.t7]!.aF.bF r14.t1[zq r14.t7]!.aF.fN r14.t1[zq r14.t7]!.aF.aq) r14.t1[zq r14.t7]!.aQ r14.t1[zq r14.t7]!.aX r14.t1[zq r14.t7]!.aR) O with|G=>G|V r16=>V (bif r16 then O else J)with|G=>G|V r17=>bif r17 then V 1 else bif vn (r14.t1[zq r14.t7]!.b9=2)then match bif vn (r14.t1[zq r14.t7]!.bg<0)then V J else bif vn (67108864<r14.t1[zq r14.t7]!.bg)then V J else bif vn (r14.t1[zq r14.t7]!.fN<0)then V J else bif vn (r14.t1[zq r14.t7]!.b9=4)then V (vn (4096<r14.t1[zq r14.t7]!.fN))else V O with|G=>G|V r18=>bif r18 then V 3 else match bif vn (0<(↑r14.t1[zq r14.t7]!.aR.length:Int))then if 0<=ak ((↑r14.t1[zq r14.t7]!.aR.length:Int)-(1:Int))/\ak ((↑r14.t1[zq r14.t7]!.aR.length:Int)-(1:Int))<(↑r14.t1[zq r14.t7]!.aR.length:Int)then V (vn (67108864<((r14.t1,r14.t2,(),r14.t7,()),r14.b0,()).fst.fst[((r14.t1,r14.t2,(),r14.t7,()),r14.b0,()).fst.snd.snd.snd.fst.toNat]!.aR[(ak ((↑((r14.t1,r14.t2,(),r14.t7,()),r14.b0,()).fst.fst[((r14.t1,r14.t2,(),r14.t7,()),r14.b0,()).fst.snd.snd.snd.fst.toNat]!.aR.length:Int)-1)).toNat]!))else G else V O with|G=>G|V r19=>bif r19 then V 3 else match NA r14.b0.ai (az.mk r14.t1[zq r14.t7]!.aF.bF r14.t1[zq r14.t7]!.aF.fN r14.t1[zq r14.t7]!.aF.aq) O with|G=>G|V r20=>bif bif vn (r20=0)then O else J then V (r20)else match M143 r14.b0 r14.t1[zq r14.t7]!.aQ O with|G=>G|V r21=>bif bif vn (r21=0)then O else J then V (r21)else match M143 r14.b0 r14.t1[zq r14.t7]!.aX O with|G=>G|V r22=>bif bif vn (r22=0)then O else J then V (r22)else G else match bif vn (r14.t1[zq r14.t7]!.bg<0)then V J else bif vn (10000<r14.t1[zq r14.t7]!.bg)then V J else bif vn (r14.t1[zq r14.t7]!.fN<0)then V J else bif vn (r14.t1[zq r14.t7]!.b9=4)then V (vn (4096<r14.t1[zq r14.t7]!.fN))else V O with|G=>G|V r23=>bif r23 then V 3 else match bif vn (0<(↑r14.t1[zq r14.t7]!.aR.length:Int))then if 0<=ak ((↑r14.t1[zq r14.t7]!.aR.length:Int)-(1:Int))/\ak ((↑r14.t1[zq r14.t7]!.aR.length:Int)-(1:Int))<(↑r14.t1[zq r14.t7]!.aR.length:Int)then V (vn (67108864<((r14.t1,r14.t2,(),r14.t7,()),r14.b0,()).fst.fst[((r14.t1,r14.t2,(),r14.t7,()),r14.b0,()).fst.snd.snd.snd.fst.toNat]!.aR[(ak ((↑((r14.t1,r14.t2,(),r14.t7,()),r14.b0,()).fst.fst[((r14.t1,r14.t2,(),r14.t7,()),r14.b0,()).fst.snd.snd.snd.fst.toNat]!.aR.length:Int)-1)).toNat]!))else G else V O with|G=>G|V r24=>bif r24 then V 3 else match NA r14.b0.ai (az.mk r14.t1[zq r14.t7]!.aF.bF r14.t1[zq r14.t7]!.aF.fN r14.t1[zq r14.t7]!.aF.aq) O with|G=>G|V r25=>bif bif vn (r25=0)then O else J then V (r25)else match M143 r14.b0 r14.t1[zq r14.t7]!.aQ O with|G=>G|V r26=>bif bif vn (r26=0)then O else J then V (r26)else match M143 r14.b0 r14.t1[zq r14.t7]!.aX O with|G=>G|V r27=>bif bif vn (r27=0)then O else J then V (r27)else G else G else V 0
def aEG(M143:aS->(af aB)->Bool->aa pe)(a0:aS)(a1:af aB)(a2:Bool):bZ vp (am1 M143) 300 (apr M143) 143 (avc.c (a0,a1,a2,())) [] 0 d143.rd=ajV M143 a0 a1 a2:=aY
def aqT:Nat->(aS->(af aB)->Bool->aa pe)
 |0=>(λ_ _ _=>G)
 |n+1=>(ajV (aqT n))
def Vt(n:Nat):aS->(af aB)->Bool->aa pe:=(aqT n)
def Qu:∀n,aiv (Vt n)
 |0=>λ_ _ h=>(by cases h)
 |n+1=>by
  have ih:=Qu n;have i143:=ih;exact(fe (ame i143) (aCx (Vt n)) (λ_=>aY) (λ_=>aY) λg=>aEG (Vt n) g.1 g.2.1 g.2.2.1)
def ajt:aS->(af aB)->Bool->aa pe:=λa0 a1 a2=>lim (λn=>Vt n a0 a1 a2)
def ah8:aiv ajt:=λg b h=>by
 obtain⟨n,hn⟩:=dy (show lim (λn=>Vt n g.1 g.2.1 g.2.2.1)=V b from h);exact(Qu n) g b hn
def aC5(F:bu):bu:=ajD ajt F
def akd{F:bu}(h:bD vp F):bD vp (aC5 F):=W3 ah8 h
def F78:bu:=(aC5 (amW (akR (aiL (aBK (aCn (e90 dA)))))))
structure DI where
 (t4 t6:Int)
 b0:aS
 b1:dN
def agt:Td 0 DI:= .c [] [1,4,5,6] (.r 0 2 (ec 1 (qp 0 0) (ec 4 aP (ec 5 (qp 1 0) (ec 6 aP en)))) (sb 0 26 (lg 26) (sb 1 139 (lg 139) sn)) (λz=>⟨z.1.2.1,z.1.t.2.1,z.2.1,z.t.1⟩) (λx=>(((),x.t4,(),x.t6,()),(x.b0,x.b1,()))))
def DS{α:Type}(p:DI)(go:DI->aa α)(e1 e2:aa α):aa α:=
 bif vn (p.t6<p.t4)then if 0<=p.t6/\p.t6<zY p.b0.ax then bif p.b0.ax[zq p.t6]!.fName.toList==p.b1.fName.toList then e1 else go (DI.mk p.t4 (ak (p.t6+1)) p.b0 (dN.mk p.b1.fName p.b1.ah p.b1.ag (az.mk p.b1.aF.bF p.b1.aF.fN p.b1.aF.aq)))else G else e2
def W9(p:DI):aa (aa DI):=
 DS p (λs=>V (V s)) (V G) (V G)
def O3:=bI (W9)
structure OJ where
 t4:Int
 b0:aS
def acS:Td 0 OJ:= .c [] [1,4] (.r 0 1 (ec 1 (qp 0 0) (ec 4 aP en)) (sb 0 26 (lg 26) sn) (λz=>⟨z.1.2.1,z.2.1⟩) (λx=>(((),x.t4,()),(x.b0,()))))
def J1(p:OJ):aa (aa OJ):=
 bif vn (p.t4<zY p.b0.ax)then if 0<=p.t4/\p.t4<zY p.b0.ax then match aaj p.b0.ax[zq p.t4]!.fName with|G=>G|V r1=>bif bif r1 then O else J then V (G)else match O3 (DI.mk p.t4 0 p.b0 (dN.mk p.b0.ax[zq p.t4]!.fName p.b0.ax[zq p.t4]!.ah p.b0.ax[zq p.t4]!.ag (az.mk p.b0.ax[zq p.t4]!.aF.bF p.b0.ax[zq p.t4]!.aF.fN p.b0.ax[zq p.t4]!.aF.aq)))with|G=>G|V r2=>DS r2 (λ_=>G) (V (G)) (bif bif P6 r2.b1.ah r2.b1.ag then O else J then V (G)else match NA r2.b0.ai (az.mk r2.b1.aF.bF r2.b1.aF.fN r2.b1.aF.aq) J with|G=>G|V r3=>bif bif vn (r3=0)then O else J then V (G)else V (V (OJ.mk (ak (r2.t4+1)) r2.b0)))else G else V (G)
def aqk:An:=(noTwo (.two (noTwo (noTwo (.two (noTwo (agt.lp O3 .no)) .no))) .no))
def V1:=bI (J1)
abbrev E78:=Int
def d78:Td 0 E78:= .c [] [2] (.r 0 0 (ec 2 aP en) sn (λz=>z.1.1) (λx=>((x,()),(()))))
def aHJ:∀f∈([]:af Nat),bA (F78) f:=aH
def m78(a0:aS):aa E78:=
 match akt a0 with|G=>G|V r4=>bif bif r4 then O else J then V 4 else match aip a0.ai with|G=>G|V r5=>bif bif vn (r5=0)then O else J then V (r5)else match V1 (OJ.mk 0 a0)with|G=>G|V r6=>bif vn (r6.t4<zY r6.b0.ax)then if 0<=r6.t4/\r6.t4<zY r6.b0.ax then match aaj r6.b0.ax[zq r6.t4]!.fName with|G=>G|V r7=>bif bif r7 then O else J then V 7 else match O3 (DI.mk r6.t4 0 r6.b0 (dN.mk r6.b0.ax[zq r6.t4]!.fName r6.b0.ax[zq r6.t4]!.ah r6.b0.ax[zq r6.t4]!.ag (az.mk r6.b0.ax[zq r6.t4]!.aF.bF r6.b0.ax[zq r6.t4]!.aF.fN r6.b0.ax[zq r6.t4]!.aF.aq)))with|G=>G|V r8=>DS r8 (λ_=>G) (V 8) (bif bif P6 r8.b1.ah r8.b1.ag then O else J then V 3 else match NA r8.b0.ai (az.mk r8.b1.aF.bF r8.b1.aF.fN r8.b1.aF.aq) J with|G=>G|V r9=>bif bif vn (r9=0)then O else J then V (r9)else G)else G else match ajt r6.b0 r6.b0.bM J with|G=>G|V r10=>bif bif vn (r10=0)then O else J then V (r10)else match r90 r6.b0.bM with|G=>G|V r11=>match (bif vn (4096<r11.fst)then V J else bif vn (8<r11.snd.fst)then V J else V (vn (67108864<r11.snd.snd)))with|G=>G|V r12=>bif r12 then V 4 else V 0
def e78:=eL vp 78 O (lc (qg 26) ln) d78 (λg=>m78 g.1)
def aeb:EO e78:=λh=>kL (F:=F78) (an:=(noTwo (noTwo (noTwo (noTwo (.two (noTwo (acS.lp V1 aqk)) (noTwo (noTwo (noTwo (.two (.two (.rb [] 86) .no) .no)))))))))) (l:=[(bk f78 0,(acS.lp V1 aqk)),(bk f78 1,(agt.lp O3 .no)),(.skip,(.rb [] 86))]) func78 (akd (Xh (XU (XA (agK (aia (acH aV))))))) (aA (aO acS) (aA (aO agt) (aA aHJ aH))) h
def AX:EP e78:=λh=>kP h
def aw1:bu:=dA
abbrev aDz:=aK
def d103:Td 0 aDz:= .c [] [0] (.r 0 1 (ec 0 (qp 0 0) en) (sb 0 34 (lg 34) sn) (λz=>z.2.1) (λx=>(((),()),(x,()))))
def azq:=ln
def aqn:An:= .no
def sN:aDz:=
 aK.mk (1) (0) (0)
def aEA:bZ vp (aw1) 300 (aqn) 103 (azq.c ()) [] 0 d103.rd=V (sN):=aY
def LC:=eL vp 103 O azq d103 (λ_=>V (sN))
def lI:EO LC:=λh=>kL (F:=aw1) (an:=aqn) func103 aV aH h (c:=λ_=>aEA)
def jj:EP LC:=λh=>kP h
def avV:bu:=dA
abbrev auJ:=Bool
def d162:Td 0 auJ:= .c [] [2] (.r 0 0 (ec 2 qb en) sn (λz=>z.1.1) (λx=>((x,()),(()))))
def aB6:=(aU ln)
def apl:An:=(noTwo (.two (.rb [] 2) .no))
def aAK:∀f∈([]:af Nat),bA (avV) f:=aH
def sF(a0:Int):auJ:=
 let r1:Bool:=bif vn (-1099511627776<=a0)then vn (a0<=1099511627776)else O;r1
def aHY(a0:Int):bZ vp (avV) 300 (apl) 162 (aB6.c (a0,())) [] 0 d162.rd=V (sF a0):=by
 refine Eq.trans (b:=(
  match bif vn (-1099511627776<=a0)then V (vn (a0<=1099511627776))else V (O)with|G=>G|V r1=>V (r1):aa auJ)) aY ?_
 simp only[sF,cq,cO]
def afg:=eL vp 162 O aB6 d162 (λg=>V (sF g.1))
def sV:EO afg:=λh=>kL (F:=avV) (an:=apl) (l:=[(.skip,(.rb [] 2))]) func162 aV (aA aAK aH) h (c:=λg=>aHY g.1)
def Cj:EP afg:=λh=>kP h
def F84:bu:=(afg (LC dA))
abbrev E84:=Bool
def d84:Td 0 E84:= .c [] [2] (.r 0 0 (ec 2 qb en) sn (λz=>z.1.1) (λx=>((x,()),(()))))
def azp:∀f∈([162]:af Nat),bA (F84) f:=(aA (Cj (jj bG)) aH)
def m84(a0:aK):aa E84:=
 bif bif vn (a0.ah=sN.ah)then bif vn (a0.ag=sN.ag)then bif vn (a0.aj=sN.aj)then J else O else O else O then V J else match bif bif sF a0.ah then O else J then V J else V (bif sF a0.ag then O else J)with|G=>G|V r1=>bif r1 then V O else bif vn (a0.ah=a0.ag)then V (vn (a0.aj=0))else match bif vn (a0.ah<a0.ag)then bif vn (1<=a0.aj)then if¬a0.aj=0then V (vn ((ak (a0.ag-a0.ah)).tmod a0.aj=0))else G else V O else V O with|G=>G|V r2=>V (r2)
def e84:=eL vp 84 O (lc (qg 34) ln) d84 (λg=>m84 g.1)
def Ae:EO e84:=λh=>kL (F:=F84) (an:=(noTwo (noTwo (.two (.two (.rb [162] 15) .no) (noTwo (.two (.rb [162] 2) .no)))))) (l:=[(.skip,(.rb [162] 15)),(.skip,(.rb [162] 2))]) func84 (sV (lI aV)) (aA azp (aA azp aH)) h
def iS:EP e84:=λh=>kP h
def F32:bu:=(e84 dA)
abbrev E32:=Bool
def d32:Td 0 E32:= .c [] [4] (.r 0 0 (ec 4 qb en) sn (λz=>z.1.1) (λx=>((x,()),(()))))
def pu32:∀f∈([84]:af Nat),bA (F32) f:=(aA (iS bG) aH)
def m32(a0:aK)(a1:Int):aa E32:=
 match match m84 a0 with|G=>G|V r1=>bif bif r1 then O else J then V J else bif vn (a1<a0.ah)then V J else V (vn (a0.ag<a1))with|G=>G|V r2=>bif r2 then V O else match bif vn (a0.aj=0)then V J else if¬a0.aj=0then V (vn ((ak (a1-a0.ah)).tmod a0.aj=0))else G with|G=>G|V r3=>V (r3)
def e32:=eL vp 32 O (lc (qg 34) (aU ln)) d32 (λg=>m32 g.1 g.2.1)
def FO:EO e32:=λh=>kL (F:=F32) (an:=(noTwo (.two (.two (.rb [84] 19) .no) (.two (.rb [84] 4) .no)))) (l:=[(.skip,(.rb [84] 19)),(.skip,(.rb [84] 4))]) func32 (Ae aV) (aA pu32 (aA pu32 aH)) h
def afS:EP e32:=λh=>kP h
abbrev E36:=aK
def d36:Td 0 E36:= .c [] [2] (.r 0 1 (ec 2 (qp 0 0) en) (sb 0 34 (lg 34) sn) (λz=>z.2.1) (λx=>(((),()),(x,()))))
def m36(a0:Int):E36:=
 aK.mk a0 a0 (0)
def e36:=eL vp 36 O (aU ln) d36 (λg=>V (m36 g.1))
def Lm:EO e36:=λh=>kL (an:= .no) func36 aV aH h
def ayl:bu:=(afg (LC dA))
abbrev aBN:=aK×Int
def d101:Td 0 aBN:= .c [] [6,7] (.r 0 1 (ec 6 (qp 0 0) (ec 7 aP en)) (sb 0 34 (lg 34) sn) (λz=>(z.2.1,z.1.2.1)) (λx=>(((),x.2,()),(x.1,()))))
def azI:∀f∈([162]:af Nat),bA (ayl) f:=(aA (Cj (jj bG)) aH)
def j4(a0:Int)(a1:Int)(a2:Int):aa aBN:=
 match bif bif sF a0 then O else J then V J else bif bif sF a1 then O else J then V J else V (vn (a2<1))with|G=>G|V r1=>bif r1 then V (aK.mk 0 0 0,3)else bif vn (a1<a0)then V (sN,0)else if¬a2=0then bif vn (a0=ak (a0+ak (ak ((ak (a1-a0)).tdiv a2)*a2)))then V ((aK.mk a0 (ak (a0+ak (ak ((ak (a1-a0)).tdiv a2)*a2))) 0,0))else V ((aK.mk a0 (ak (a0+ak (ak ((ak (a1-a0)).tdiv a2)*a2))) a2,0))else G
def agu:=eL vp 101 O (aU (aU (aU ln))) d101 (λg=>j4 g.1 g.2.1 g.t.1)
def EN:EO agu:=λh=>kL (F:=ayl) (an:=(noTwo (.two (.two (.rb [162] 19) .no) .no))) (l:=[(.skip,(.rb [162] 19))]) func101 (sV (lI aV)) (aA azI aH) h
def ox:EP agu:=λh=>kP h
abbrev ayt:=Bool
def d102:Td 0 ayt:= .c [] [2] (.r 0 0 (ec 2 qb en) sn (λz=>z.1.1) (λx=>((x,()),(()))))
def l6(a0:aK):ayt:=
 vn (a0.ag<a0.ah)
def Pt:=eL vp 102 O (lc (qg 34) ln) d102 (λg=>V (l6 g.1))
def ni:EO Pt:=λh=>kL (an:= .no) func102 aV aH h
def iF:EP Pt:=λh=>kP h
def F41:bu:=(LC (Pt (agu dA)))
abbrev E41:=aK
def d41:Td 0 E41:= .c [] [4] (.r 0 1 (ec 4 (qp 0 0) en) (sb 0 34 (lg 34) sn) (λz=>z.2.1) (λx=>(((),()),(x,()))))
def aHm:∀f∈([102]:af Nat),bA (F41) f:=(aA (jj (iF (ox bG))) aH)
def m41(a0:aK)(a1:Int):aa E41:=
 match bif l6 a0 then V (J)else V (vn (a1<a0.ah))with|G=>G|V r1=>bif r1 then V (sN)else bif vn (a0.ag<=a1)then V (a0)else match j4 a0.ah a1 a0.aj with|G=>G|V r2=>V (r2.fst)
def e41:=eL vp 41 O (lc (qg 34) (aU ln)) d41 (λg=>m41 g.1 g.2.1)
def aa2:EO e41:=λh=>kL (F:=F41) (an:=(noTwo (.two (.two (.rb [102] 14) .no) .no))) (l:=[(.skip,(.rb [102] 14))]) func41 (lI (ni (EN aV))) (aA aHm aH) h
def A7:EP e41:=λh=>kP h
def F42:bu:=(LC (Pt (agu dA)))
abbrev E42:=aK
def d42:Td 0 E42:= .c [] [4] (.r 0 1 (ec 4 (qp 0 0) en) (sb 0 34 (lg 34) sn) (λz=>z.2.1) (λx=>(((),()),(x,()))))
def aHB:∀f∈([102]:af Nat),bA (F42) f:=(aA (jj (iF (ox bG))) aH)
def m42(a0:aK)(a1:Int):aa E42:=
 match bif l6 a0 then V J else V (vn (a0.ag<=a1))with|G=>G|V r1=>bif r1 then V (sN)else bif vn (a1<a0.ah)then V (a0)else if¬a0.aj=0then match j4 (ak (a0.ah+ak (ak (ak ((ak (a1-a0.ah)).tdiv a0.aj)+1)*a0.aj))) a0.ag a0.aj with|G=>G|V r2=>V (r2.fst)else G
def e42:=eL vp 42 O (lc (qg 34) (aU ln)) d42 (λg=>m42 g.1 g.2.1)
def Si:EO e42:=λh=>kL (F:=F42) (an:=(noTwo (.two (.two (.rb [102] 14) .no) .no))) (l:=[(.skip,(.rb [102] 14))]) func42 (lI (ni (EN aV))) (aA aHB aH) h
def Bo:EP e42:=λh=>kP h
structure mH where
 (t0 t1:Int)
def Ur:Td 0 mH:= .c [] [0,1] (.r 0 0 (ec 0 aP (ec 1 aP en)) sn (λz=>⟨z.1.1,z.1.2.1⟩) (λx=>((x.t0,x.t1,()),(()))))
def Gv{α:Type}(p:mH)(go:mH->aa α)(e1:aa α):aa α:=
 bif bif vn (p.t1=0)then O else J then if¬p.t1=0then go (mH.mk p.t1 (p.t0.tmod p.t1))else G else e1
def uT(p:mH):aa (aa mH):=
 Gv p (λs=>V (V s)) (V G)
def IL:=bI (uT)
abbrev ayY:=Int
def d239:Td 0 ayY:= .c [] [4] (.r 0 0 (ec 4 aP en) sn (λz=>z.1.1) (λx=>((x,()),(()))))
def FQ(a0:Int)(a1:Int):aa ayY:=
 match IL (mH.mk a0 a1)with|G=>G|V r1=>Gv r1 (λ_=>G) (V (r1.t0))
def asq:=eL vp 239 O (aU (aU ln)) d239 (λg=>FQ g.1 g.2.1)
def LZ:EO asq:=λh=>kL (an:=(noTwo (.two (Ur.lp IL .no) .no))) (l:=[(bk f239 0,(Ur.lp IL .no))]) func239 aV (aA (aO Ur) aH) h
def Y4:EP asq:=λh=>kP h
def aGm:bu:=dA
abbrev avD:=Int
def d240:Td 0 avD:= .c [] [4] (.r 0 0 (ec 4 aP en) sn (λz=>z.1.1) (λx=>((x,()),(()))))
def aAu:=(aU (aU ln))
def ap9:An:= .no
def jO(a0:Int)(a1:Int):avD:=
 bif vn (a0<a1)then ak (a1-a0)else ak (a0-a1)
def aGl(a0:Int)(a1:Int):bZ vp (aGm) 300 (ap9) 240 (aAu.c (a0,a1,())) [] 0 d240.rd=V (jO a0 a1):=by
 refine Eq.trans (b:=(
  bif vn (a0<a1)then V (ak (a1-a0))else V (ak (a0-a1)):aa avD)) aY ?_
 simp only[jO,cq,cO]
def adE:=eL vp 240 O aAu d240 (λg=>V (jO g.1 g.2.1))
def Al:EO adE:=λh=>kL (an:=ap9) func240 aV aH h (c:=λg=>aGl g.1 g.2.1)
def oE:EP adE:=λh=>kP h
structure jd where
 t0:List Int
 t6:Int
 (b0 b1:aK)
def Ua:Td 0 jd:= .c [] [0,2,5,6] (.r 0 2 (ec 0 (ql 3) (ec 2 (qp 0 0) (ec 5 (qp 1 0) (ec 6 aP en)))) (sb 0 34 (lg 34) (sb 1 34 (lg 34) sn)) (λz=>⟨z.1.1,z.1.t.2.1,z.2.1,z.t.1⟩) (λx=>((x.t0,(),(),x.t6,()),(x.b0,x.b1,()))))
def Hi{α:Type}(p:jd)(go:jd->aa α)(e1:aa α):aa α:=
 bif vn (p.t6<zY p.t0)then if 0<=p.t6/\p.t6<zY p.t0 then if(0:Int)<=(0:Int)/\(0:Int)<zY p.t0 then match FQ p.b1.aj (jO p.t0[zq p.t6]! p.t0[0]!)with|G=>G|V r1=>if 0<=p.t6/\p.t6<zY p.t0 then bif vn (((p.t0,(),(),p.t6,()),p.b0,p.b1,()).fst.fst[((p.t0,(),(),p.t6,()),p.b0,p.b1,()).fst.snd.snd.snd.fst.toNat]! <((p.t0,(),(),p.t6,()),p.b0,p.b1,()).snd.snd.fst.ah)then if 0<=p.t6/\p.t6<zY p.t0 then if 0<=p.t6/\p.t6<zY p.t0 then bif vn (((p.t0,(),(),p.t6,()),p.b0,p.b1,()).snd.snd.fst.ag<((p.t0,(),(),p.t6,()),p.b0,p.b1,()).fst.fst[((p.t0,(),(),p.t6,()),p.b0,p.b1,()).fst.snd.snd.snd.fst.toNat]!)then if 0<=p.t6/\p.t6<zY p.t0 then go (jd.mk p.t0 (ak (p.t6+1)) p.b0 (aK.mk p.t0[zq p.t6]! p.t0[zq p.t6]! r1))else G else go (jd.mk p.t0 (ak (p.t6+1)) p.b0 (aK.mk p.t0[zq p.t6]! p.b1.ag r1))else G else G else if 0<=p.t6/\p.t6<zY p.t0 then bif vn (((p.t0,(),(),p.t6,()),p.b0,p.b1,()).snd.snd.fst.ag<((p.t0,(),(),p.t6,()),p.b0,p.b1,()).fst.fst[((p.t0,(),(),p.t6,()),p.b0,p.b1,()).fst.snd.snd.snd.fst.toNat]!)then if 0<=p.t6/\p.t6<zY p.t0 then go (jd.mk p.t0 (ak (p.t6+1)) p.b0 (aK.mk p.b1.ah p.t0[zq p.t6]! r1))else G else go (jd.mk p.t0 (ak (p.t6+1)) p.b0 (aK.mk p.b1.ah p.b1.ag r1))else G else G else G else G else e1
def uN(p:jd):aa (aa jd):=
 Hi p (λs=>V (V s)) (V G)
def LP:=bI (uN)
structure nw where
 t0:List Int
 t4:Int
 b0:aK
def Vy:Td 0 nw:= .c [] [0,2,4] (.r 0 1 (ec 0 (ql 3) (ec 2 (qp 0 0) (ec 4 aP en))) (sb 0 34 (lg 34) sn) (λz=>⟨z.1.1,z.1.t.1,z.2.1⟩) (λx=>((x.t0,(),x.t4,()),(x.b0,()))))
def HQ{α:Type}(p:nw)(go:nw->aa α)(e1 e2:aa α):aa α:=
 bif vn (p.t4<zY p.t0)then if 0<=p.t4/\p.t4<zY p.t0 then bif bif sF p.t0[zq p.t4]! then O else J then e1 else go (nw.mk p.t0 (ak (p.t4+1)) p.b0)else G else e2
def Cq(p:nw):aa (aa nw):=
 HQ p (λs=>V (V s)) (V G) (V G)
def Ma:=bI (Cq)
abbrev aAM:=aK×Int
def d238:Td 0 aAM:= .c [] [2,3] (.r 0 1 (ec 2 (qp 0 0) (ec 3 aP en)) (sb 0 34 (lg 34) sn) (λz=>(z.2.1,z.1.2.1)) (λx=>(((),x.2,()),(x.1,()))))
def aaG(a0:af Int):aa aAM:=
 match Ma (nw.mk a0 0 (aK.mk 0 0 0))with|G=>G|V r2=>HQ r2 (λ_=>G) (V (aK.mk 0 0 0,3)) (bif vn ((zY r2.t0:Int)=0)then V (sN,0)else if(0:Int)<=(0:Int)/\(0:Int)<zY r2.t0 then if(0:Int)<=(0:Int)/\(0:Int)<zY r2.t0 then match LP (jd.mk r2.t0 1 r2.b0 (aK.mk r2.t0[0]! r2.t0[0]! (0)))with|G=>G|V r3=>Hi r3 (λ_=>G) (V (r3.b1,0))else G else G)
def aIi:=eL vp 238 O (lc (ql 3) ln) d238 (λg=>aaG g.1)
def Ls:EO aIi:=λh=>kL (an:=(noTwo (.two (noTwo (Vy.lp Ma .no)) (noTwo (noTwo (.two (noTwo (Ua.lp LP .no)) .no)))))) (l:=[(bk f238 0,(Vy.lp Ma .no)),(bk f238 1,(Ua.lp LP .no))]) func238 (Al (LZ (sV (lI aV)))) (aA (aO Vy) (aA (aO Ua) aH)) h
abbrev aBX:=aK
def d163:Td 0 aBX:= .c [] [4] (.r 0 1 (ec 4 (qp 0 0) en) (sb 0 34 (lg 34) sn) (λz=>z.2.1) (λx=>(((),()),(x,()))))
def nv(a0:aK)(a1:aK):aa aBX:=
 bif l6 a0 then V (a1)else bif l6 a1 then V (a0)else match aaG [a0.ah,a0.ag,a1.ah,a1.ag]with|G=>G|V r1=>bif vn (r1.fst.ah<r1.fst.ag)then match FQ a0.aj a1.aj with|G=>G|V r2=>match FQ r2 (jO a0.ah a1.ah)with|G=>G|V r3=>V (aK.mk r1.fst.ah r1.fst.ag r3)else V (r1.fst)
def acu:=eL vp 163 O (lc (qg 34) (lc (qg 34) ln)) d163 (λg=>nv g.1 g.2.1)
def tJ:EO acu:=λh=>kL (an:= .no) func163 (Al (LZ (Ls (ni aV)))) aH h
def tc:EP acu:=λh=>kP h
def F86:bu:=(acu (afg (Pt (e84 (e42 (e41 dA))))))
abbrev E86:=aK×Int
def d86:Td 0 E86:= .c [] [6,7] (.r 0 1 (ec 6 (qp 0 0) (ec 7 aP en)) (sb 0 34 (lg 34) sn) (λz=>(z.2.1,z.1.2.1)) (λx=>(((),x.2,()),(x.1,()))))
def aHL:∀f∈([162]:af Nat),bA (F86) f:=(aA (tc (Cj (iF (iS (Bo (A7 bG)))))) aH)
def m86(a0:aK)(a1:Int)(a2:Int):aa E86:=
 match m84 a0 with|G=>G|V r1=>bif bif r1 then O else J then V ((aK.mk (0) (0) (0),1))else match bif bif sF a1 then O else J then V (J)else bif bif sF a2 then O else J then V (J)else V (vn (a2<a1))with|G=>G|V r2=>bif r2 then V ((aK.mk (0) (0) (0),3))else match m42 a0 (ak (a1-1))with|G=>G|V r3=>match m41 r3 a2 with|G=>G|V r4=>match m41 a0 a1 with|G=>G|V r5=>bif bif l6 r5 then O else J then match nv r4 (aK.mk a1 a1 (0))with|G=>G|V r6=>match m42 a0 a2 with|G=>G|V r7=>bif bif l6 r7 then O else J then match nv r6 (aK.mk a2 a2 (0))with|G=>G|V r8=>V ((r8,0))else V ((r6,0))else match m42 a0 a2 with|G=>G|V r9=>bif bif l6 r9 then O else J then match nv r4 (aK.mk a2 a2 (0))with|G=>G|V r10=>V ((r10,0))else V ((r4,0))
def e86:=eL vp 86 O (lc (qg 34) (aU (aU ln))) d86 (λg=>m86 g.1 g.2.1 g.t.1)
def SL:EO e86:=λh=>kL (F:=F86) (an:=(noTwo (noTwo (.two (.two (.rb [162] 25) .no) .no)))) (l:=[(.skip,(.rb [162] 25))]) func86 (tJ (sV (ni (Ae (Si (aa2 aV)))))) (aA aHL aH) h
def F43:bu:=(Pt (e84 dA))
abbrev E43:=Int
def d43:Td 0 E43:= .c [] [2] (.r 0 0 (ec 2 aP en) sn (λz=>z.1.1) (λx=>((x,()),(()))))
def aHx:∀f∈([84,102]:af Nat),bA (F43) f:=(aA (iF (iS bG)) (aA (iF (iS bG)) aH))
def Eh(a0:aK):aa E43:=
 match match m84 a0 with|G=>G|V r1=>bif bif r1 then O else J then V J else V (l6 a0)with|G=>G|V r2=>bif r2 then V 0 else bif vn (a0.aj=0)then V 1 else if¬a0.aj=0then V (ak (ak ((ak (a0.ag-a0.ah)).tdiv a0.aj)+1))else G
def e43:=eL vp 43 O (lc (qg 34) ln) d43 (λg=>Eh g.1)
def pP:EO e43:=λh=>kL (F:=F43) (an:=(noTwo (.two (.two (.rb [84,102] 9) .no) .no))) (l:=[(.skip,(.rb [84,102] 9))]) func43 (ni (Ae aV)) (aA aHx aH) h
def mJ:EP e43:=λh=>kP h
abbrev aAk:=Bool×Bool
def d165:Td 0 aAk:= .c [] [2,3] (.r 0 0 (ec 2 qb (ec 3 qb en)) sn (λz=>(z.1.1,z.1.2.1)) (λx=>((x.1,x.2,()),(()))))
def GF(a0:aK):aa aAk:=
 match m32 a0 (0)with|G=>G|V r1=>match Eh a0 with|G=>G|V r2=>bif vn (1<r2)then V ((r1,J))else match Eh a0 with|G=>G|V r3=>bif vn (r3=1)then V ((r1,bif r1 then O else J))else V ((r1,O))
def Zw:=eL vp 165 O (lc (qg 34) ln) d165 (λg=>GF g.1)
def AL:EO Zw:=λh=>kL (an:= .no) func165 (pP (FO aV)) aH h
def aaE:EP Zw:=λh=>kP h
def av2:bu:=dA
abbrev auA:=aK
def d241:Td 0 auA:= .c [] [4] (.r 0 1 (ec 4 (qp 0 0) en) (sb 0 34 (lg 34) sn) (λz=>z.2.1) (λx=>(((),()),(x,()))))
def axK:=(lc qb (lc qb ln))
def aoy:An:=(noTwo (.two (.two (.rb [] 8) .no) .no))
def aCc:∀f∈([]:af Nat),bA (av2) f:=aH
def jF(a0:Bool)(a1:Bool):auA:=
 let r1:Bool:=bif a0 then a1 else O;bif r1 then aK.mk (0) (1) (1)else bif a1 then aK.mk (1) (1) (0)else aK.mk (0) (0) (0)
def aGi(a0:Bool)(a1:Bool):bZ vp (av2) 300 (aoy) 241 (axK.c (a0,a1,())) [] 0 d241.rd=V (jF a0 a1):=by
 refine Eq.trans (b:=(
  match bif a0 then V (a1)else V (O)with|G=>G|V r1=>bif r1 then V (aK.mk (0) (1) (1))else bif a1 then V (aK.mk (1) (1) (0))else V (aK.mk (0) (0) (0)):aa auA)) aY ?_
 simp only[jF,cq,cO]
def asd:=eL vp 241 O axK d241 (λg=>V (jF g.1 g.2.1))
def WB:EO asd:=λh=>kL (F:=av2) (an:=aoy) (l:=[(.skip,(.rb [] 8))]) func241 aV (aA aCc aH) h (c:=λg=>aGi g.1 g.2.1)
def ZB:EP asd:=λh=>kP h
def ay2:bu:=(asd (Zw (LC (Pt (e84 dA)))))
abbrev aC8:=aK×Int
def d164:Td 0 aC8:= .c [] [4,5] (.r 0 1 (ec 4 (qp 0 0) (ec 5 aP en)) (sb 0 34 (lg 34) sn) (λz=>(z.2.1,z.1.2.1)) (λx=>(((),x.2,()),(x.1,()))))
def aw7:∀f∈([84]:af Nat),bA (ay2) f:=(aA (ZB (aaE (jj (iF (iS bG))))) aH)
def af8(a0:Int)(a1:aK):aa aC8:=
 match match m84 a1 with|G=>G|V r1=>bif bif r1 then O else J then V (J)else bif bif vn (a0=6)then O else J then V (bif vn (a0=7)then O else J)else V (O)with|G=>G|V r2=>bif r2 then V ((aK.mk (0) (0) (0),1))else bif l6 a1 then V ((sN,0))else bif vn (a0=6)then V ((aK.mk (ak (0-a1.ag)) (ak (0-a1.ah)) a1.aj,0))else match GF a1 with|G=>G|V r3=>V ((jF r3.snd r3.fst,0))
def aB2:=eL vp 164 O (aU (lc (qg 34) ln)) d164 (λg=>af8 g.1 g.2.1)
def agz:EO aB2:=λh=>kL (F:=ay2) (an:=(noTwo (.two (.two (.rb [84] 18) .no) .no))) (l:=[(.skip,(.rb [84] 18))]) func164 (WB (AL (lI (ni (Ae aV))))) (aA aw7 aH) h
def aGz:bu:=dA
abbrev aut:=Bool
def d242:Td 0 aut:= .c [] [2] (.r 0 0 (ec 2 qb en) sn (λz=>z.1.1) (λx=>((x,()),(()))))
def aDk:=(aU ln)
def ao1:An:= .no
def IU(a0:Int):aut:=
 bif vn (a0=8)then J else bif vn (a0=9)then J else bif vn (a0=10)then J else bif vn (a0=11)then J else bif vn (a0=12)then J else bif vn (a0=13)then J else bif vn (a0=14)then J else bif vn (a0=15)then J else bif vn (a0=16)then J else bif vn (a0=17)then J else bif vn (a0=18)then J else bif vn (a0=19)then J else bif vn (a0=20)then J else bif vn (a0=21)then J else bif vn (a0=22)then J else O
def aEP(a0:Int):bZ vp (aGz) 300 (ao1) 242 (aDk.c (a0,())) [] 0 d242.rd=V (IU a0):=by
 refine Eq.trans (b:=(
  bif vn (a0=8)then V (J)else bif vn (a0=9)then V (J)else bif vn (a0=10)then V (J)else bif vn (a0=11)then V (J)else bif vn (a0=12)then V (J)else bif vn (a0=13)then V (J)else bif vn (a0=14)then V (J)else bif vn (a0=15)then V (J)else bif vn (a0=16)then V (J)else bif vn (a0=17)then V (J)else bif vn (a0=18)then V (J)else bif vn (a0=19)then V (J)else bif vn (a0=20)then V (J)else bif vn (a0=21)then V (J)else bif vn (a0=22)then V (J)else V (O):aa aut)) aY ?_
 simp only[IU,cq,cO]
def aq6:=eL vp 242 O aDk d242 (λg=>V (IU g.1))
def aj7:EO aq6:=λh=>kL (an:=ao1) func242 aV aH h (c:=λg=>aEP g.1)
def CU:EP aq6:=λh=>kP h
def azV:bu:=(adE dA)
abbrev aA0:=Int×Bool
def d283:Td 0 aA0:= .c [] [4,5] (.r 0 0 (ec 4 aP (ec 5 qb en)) sn (λz=>(z.1.1,z.1.2.1)) (λx=>((x.1,x.2,()),(()))))
def aAX:∀f∈([240]:af Nat),bA (azV) f:=(aA (oE bG) aH)
def air(a0:Int)(a1:Int):aa aA0:=
 match bif bif vn (a0=0)then O else J then bif bif vn (a1=0)then O else J then if¬jO a1 ((0:Int))=0then V (vn (ak ((1099511627776:Int).tdiv (jO a1 0))<jO a0 0))else G else V O else V O with|G=>G|V r1=>bif r1 then V (0,O)else V ((ak (a0*a1),J))
def aGE:=eL vp 283 O (aU (aU ln)) d283 (λg=>air g.1 g.2.1)
def ag1:EO aGE:=λh=>kL (F:=azV) (an:=(noTwo (.two (.two (.rb [240] 19) .no) .no))) (l:=[(.skip,(.rb [240] 19))]) func283 (Al aV) (aA aAX aH) h
def axP:bu:=dA
abbrev aBn:=Int
def d284:Td 0 aBn:= .c [] [4] (.r 0 0 (ec 4 aP en) sn (λz=>z.1.1) (λx=>((x,()),(()))))
def ayw:∀f∈([]:af Nat),bA (axP) f:=aH
def alL(a0:Int)(a1:Int):aa aBn:=
 bif vn (a1=0)then V 0 else if¬a1=0then match if¬a1=0then bif bif vn (a0.tmod a1=0)then O else J then V (bif vn (a0<0)==vn (a1<0)then O else J)else V O else G with|G=>G|V r1=>bif r1 then V (ak (ak (a0.tdiv a1)-1))else V (ak (a0.tdiv a1))else G
def aHW:=eL vp 284 O (aU (aU ln)) d284 (λg=>alL g.1 g.2.1)
def amN:EO aHW:=λh=>kL (F:=axP) (an:=(noTwo (noTwo (noTwo (.two (.two (.rb [] 21) .no) .no))))) (l:=[(.skip,(.rb [] 21))]) func284 aV (aA ayw aH) h
def aHl:bu:=dA
abbrev arP:=Int
def d285:Td 0 arP:= .c [] [2] (.r 0 0 (ec 2 aP en) sn (λz=>z.1.1) (λx=>((x,()),(()))))
def ayP:=(lc qb ln)
def aqR:An:= .no
def AZ(a0:Bool):arP:=
 bif a0 then 1 else 0
def aEz(a0:Bool):bZ vp (aHl) 300 (aqR) 285 (ayP.c (a0,())) [] 0 d285.rd=V (AZ a0):=by
 refine Eq.trans (b:=(
  bif a0 then V (1)else V (0):aa arP)) aY ?_
 simp only[AZ,cq,cO]
def aHU:=eL vp 285 O ayP d285 (λg=>V (AZ g.1))
def aiZ:EO aHU:=λh=>kL (an:=aqR) func285 aV aH h (c:=λg=>aEz g.1)
abbrev aDb:=Int×Bool
def d245:Td 0 aDb:= .c [] [6,7] (.r 0 0 (ec 6 aP (ec 7 qb en)) sn (λz=>(z.1.1,z.1.2.1)) (λx=>((x.1,x.2,()),(()))))
def Sw(a0:Int)(a1:Int)(a2:Int):aa aDb:=
 bif vn (a0=8)then V ((ak (a1+a2),sF (ak (a1+a2))))else bif vn (a0=9)then V ((ak (a1-a2),sF (ak (a1-a2))))else bif vn (a0=10)then match air a1 a2 with|G=>G|V r1=>V (r1)else bif vn (a0=11)then match alL a1 a2 with|G=>G|V r2=>V ((r2,J))else bif vn (a0=12)then bif vn (a2=0)then V ((0,J))else match alL a1 a2 with|G=>G|V r3=>V ((ak (a1-ak (a2*r3)),J))else bif vn (a0=13)then V ((AZ (vn (a1=a2)),J))else bif vn (a0=14)then V ((AZ (bif vn (a1=a2)then O else J),J))else bif vn (a0=15)then V ((AZ (vn (a1<a2)),J))else bif vn (a0=16)then V ((AZ (vn (a1<=a2)),J))else bif vn (a0=17)then V ((AZ (vn (a2<a1)),J))else bif vn (a0=18)then V ((AZ (vn (a2<=a1)),J))else bif vn (a0=19)then bif bif vn (a1=0)then O else J then V ((AZ (bif vn (a2=0)then O else J),J))else V ((AZ O,J))else bif vn (a0=20)then bif bif vn (a1=0)then O else J then V ((AZ J,J))else V ((AZ (bif vn (a2=0)then O else J),J))else bif vn (a0=21)then bif vn (a1<a2)then V ((a1,J))else V ((a2,J))else bif vn (a2<a1)then V ((a1,J))else V ((a2,J))
def asT:=eL vp 245 O (aU (aU (aU ln))) d245 (λg=>Sw g.1 g.2.1 g.t.1)
def Nr:EO asT:=λh=>kL (an:= .no) func245 (aiZ (amN (ag1 (sV aV)))) aH h
def CT:EP asT:=λh=>kP h
abbrev aAg:=Int
def d282:Td 0 aAg:= .c [] [4] (.r 0 0 (ec 4 aP en) sn (λz=>z.1.1) (λx=>((x,()),(()))))
def aat(a0:aK)(a1:Int):aAg:=
 ak (a0.ah+ak (a1*a0.aj))
def aIe:=eL vp 282 O (lc (qg 34) (aU ln)) d282 (λg=>V (aat g.1 g.2.1))
def aiG:EO aIe:=λh=>kL (an:= .no) func282 aV aH h
structure jJ where
 t0:Int
 t8:List Int
 (t9 t10:Int)
 (b0 b1 b2:aK)
def Vr:Td 0 jJ:= .c [] [0,4,5,6,8,9,10] (.r 0 4 (ec 0 aP (ec 4 (qp 0 0) (ec 5 (qp 1 0) (ec 6 (qp 2 0) (ec 8 (qo 3) (ec 9 aP (ec 10 aP en))))))) (sb 0 34 (lg 34) (sb 1 34 (lg 34) (sb 2 34 (lg 34) (sr 3 3 sn)))) (λz=>⟨z.1.1,z.q.1,z.1.q.2.1,z.1.q.t.1,z.2.1,z.t.1,z.t.2.1⟩) (λx=>((x.t0,(),(),(),(),x.t9,x.t10,()),(x.b0,x.b1,x.b2,x.t8,()))))
def uE{α:Type}(p:jJ)(go:jJ->aa α)(e1 e2:aa α):aa α:=
 match Eh p.b1 with|G=>G|V r5=>bif vn (p.t10<r5)then match Sw p.t0 (aat p.b0 p.t9) (aat p.b1 p.t10)with|G=>G|V r6=>bif bif r6.snd then O else J then e1 else if(p.t8++[r6.fst]).length<=1073741824 then go (jJ.mk p.t0 (p.t8++[r6.fst]) p.t9 (ak (p.t10+1)) p.b0 p.b1 p.b2)else G else e2
def Nw(p:jJ):aa (aa jJ):=
 uE p (λs=>V (V s)) (V G) (V G)
def Cf:=bI (Nw)
structure nH where
 t0:Int
 t8:List Int
 t9:Int
 (b0 b1 b2:aK)
def Ub:Td 0 nH:= .c [] [0,4,5,6,8,9] (.r 0 4 (ec 0 aP (ec 4 (qp 0 0) (ec 5 (qp 1 0) (ec 6 (qp 2 0) (ec 8 (qo 3) (ec 9 aP en)))))) (sb 0 34 (lg 34) (sb 1 34 (lg 34) (sb 2 34 (lg 34) (sr 3 3 sn)))) (λz=>⟨z.1.1,z.q.1,z.1.q.2.1,z.2.1,z.t.1,z.t.2.1⟩) (λx=>((x.t0,(),(),(),(),x.t9,()),(x.b0,x.b1,x.b2,x.t8,()))))
def F4{α:Type}(p:nH)(go:nH->aa α)(e1 e2:aa α):aa α:=
 match Eh p.b0 with|G=>G|V r1=>bif vn (p.t9<r1)then match Cf (jJ.mk p.t0 p.t8 p.t9 (0) p.b0 p.b1 p.b2)with|G=>G|V r2=>uE r2 (λ_=>G) e1 (go (nH.mk r2.t0 r2.t8 (ak (r2.t9+1)) r2.b0 r2.b1 r2.b2))else e2
def CX(p:nH):aa (aa nH):=
 F4 p (λs=>V (V s)) (V G) (V G)
def af9:An:=(noTwo (.two (noTwo (Vr.lp Cf .no)) .no))
def L5:=bI (CX)
abbrev aBD:=aK×Int
def d243:Td 0 aBD:= .c [] [6,7] (.r 0 1 (ec 6 (qp 0 0) (ec 7 aP en)) (sb 0 34 (lg 34) sn) (λz=>(z.2.1,z.1.2.1)) (λx=>(((),x.2,()),(x.1,()))))
def Za(a0:Int)(a1:aK)(a2:aK):aa aBD:=
 match L5 (nH.mk a0 [] (0) a1 a2 (aK.mk (0) (0) (0)))with|G=>G|V r7=>F4 r7 (λ_=>G) (V ((aK.mk (0) (0) (0),3))) (match aaG r7.t8 with|G=>G|V r12=>V (r12))
def awg:=eL vp 243 O (aU (lc (qg 34) (lc (qg 34) ln))) d243 (λg=>Za g.1 g.2.1 g.t.1)
def aiP:EO awg:=λh=>kL (an:=(noTwo (noTwo (.two (noTwo (Ub.lp L5 af9)) .no)))) (l:=[(bk f243 0,(Ub.lp L5 af9)),(bk f243 1,(Vr.lp Cf .no))]) func243 (aiG (Nr (Ls (pP aV)))) (aA (aO Ub) (aA (aO Vr) aH)) h
def C7:EP awg:=λh=>kP h
structure jr where
 t0:Int
 (t8 t9 t10:List Int)
 (t11 t12:Int)
 b0:aK
def Vx:Td 0 jr:= .c [] [0,6,8,9,10,11,12] (.r 0 4 (ec 0 aP (ec 6 (qp 0 0) (ec 8 (qo 1) (ec 9 (qo 2) (ec 10 (qo 3) (ec 11 aP (ec 12 aP en))))))) (sb 0 34 (lg 34) (sr 1 3 (sr 2 3 (sr 3 3 sn)))) (λz=>⟨z.1.1,z.t.1,z.t.2.1,z.q.1,z.1.q.2.1,z.1.q.t.1,z.2.1⟩) (λx=>((x.t0,(),(),(),(),x.t11,x.t12,()),(x.b0,x.t8,x.t9,x.t10,()))))
def H6{α:Type}(p:jr)(go:jr->aa α)(e1 e2:aa α):aa α:=
 bif vn (p.t12<3)then if 0<=p.t11/\p.t11<zY p.t9 then if 3=3/\zq p.t11<zY p.t9 then if 0<=p.t12/\p.t12<zY p.t10 then if 3=3/\zq p.t12<zY p.t10 then match Sw p.t0 p.t9[zq p.t11]! p.t10[zq p.t12]! with|G=>G|V r3=>bif bif r3.snd then O else J then e1 else if(p.t8++[r3.fst]).length<=1073741824 then go (jr.mk p.t0 (p.t8++[r3.fst]) p.t9 p.t10 p.t11 (ak (p.t12+1)) p.b0)else G else G else G else G else G else e2
def S7(p:jr):aa (aa jr):=
 H6 p (λs=>V (V s)) (V G) (V G)
def Cy:=bI (S7)
structure nN where
 t0:Int
 (t8 t9 t10:List Int)
 t11:Int
 b0:aK
def TA:Td 0 nN:= .c [] [0,6,8,9,10,11] (.r 0 4 (ec 0 aP (ec 6 (qp 0 0) (ec 8 (qo 1) (ec 9 (qo 2) (ec 10 (qo 3) (ec 11 aP en)))))) (sb 0 34 (lg 34) (sr 1 3 (sr 2 3 (sr 3 3 sn)))) (λz=>⟨z.1.1,z.t.1,z.t.2.1,z.q.1,z.1.q.2.1,z.2.1⟩) (λx=>((x.t0,(),(),(),(),x.t11,()),(x.b0,x.t8,x.t9,x.t10,()))))
def Nv{α:Type}(p:nN)(go:nN->aa α)(e1 e2:aa α):aa α:=
 bif vn (p.t11<3)then match Cy (jr.mk p.t0 p.t8 p.t9 p.t10 p.t11 (0) p.b0)with|G=>G|V r1=>H6 r1 (λ_=>G) e1 (go (nN.mk r1.t0 r1.t8 r1.t9 r1.t10 (ak (r1.t11+1)) r1.b0))else e2
def Hv(p:nN):aa (aa nN):=
 Nv p (λs=>V (V s)) (V G) (V G)
def abw:An:=(noTwo (.two (noTwo (Vx.lp Cy .no)) .no))
def MO:=bI (Hv)
abbrev ay9:=aK×Int
def d244:Td 0 ay9:= .c [] [6,7] (.r 0 1 (ec 6 (qp 0 0) (ec 7 aP en)) (sb 0 34 (lg 34) sn) (λz=>(z.2.1,z.1.2.1)) (λx=>(((),x.2,()),(x.1,()))))
def BO(a0:Int)(a1:aK)(a2:aK):aa ay9:=
 match MO (nN.mk a0 [] [a1.ah,ak (a1.ah+a1.aj),a1.ag] [a2.ah,ak (a2.ah+a2.aj),a2.ag] (0) (aK.mk (0) (0) (0)))with|G=>G|V r4=>Nv r4 (λ_=>G) (V ((aK.mk (0) (0) (0),3))) (match aaG r4.t8 with|G=>G|V r7=>V (r7))
def atN:=eL vp 244 O (aU (lc (qg 34) (lc (qg 34) ln))) d244 (λg=>BO g.1 g.2.1 g.t.1)
def ah4:EO atN:=λh=>kL (an:=(noTwo (noTwo (noTwo (noTwo (.two (noTwo (TA.lp MO abw)) .no)))))) (l:=[(bk f244 0,(TA.lp MO abw)),(bk f244 1,(Vx.lp Cy .no))]) func244 (Nr (Ls aV)) (aA (aO TA) (aA (aO Vx) aH)) h
def C6:EP atN:=λh=>kP h
abbrev rI:=Bool
def d286:Td 0 rI:= .c [] [4] (.r 0 0 (ec 4 qb en) sn (λz=>z.1.1) (λx=>((x,()),(()))))
def ar2:=(lc (qg 34) (lc (qg 34) ln))
def ahJ(M:aK->aK->aa rI):bu->bu:=eL vp 286 O ar2 d286 (λg=>M g.1 g.2.1)
def aak{M:aK->aK->aa rI}{F:bu}{f:Nat}(h:bA F f):bA (ahJ M F) f:=gF h (λ_=>aY)
def alE(M:aK->aK->aa rI):Prop:=HL vp 286 ar2 d286 (λg=>M g.1 g.2.1)
def V8{M:aK->aK->aa rI}(hM:alE M){F:bu}(h:bD vp F):bD vp (ahJ M F):=gm (sc:=Bf) eo hM ⟨_,func286,aY,aY⟩ (λ_=>aY) (λ_=>aY) h
def ahU(M286:aK->aK->aa rI):bu:=(ahJ M286 (adE (asq (e43 (e32 dA)))))
def ajT{M286}(h286:alE M286):bD vp (ahU M286):=(V8 h286 (Al (LZ (pP (FO aV)))))
structure jA where
 (t6 t7 t8 t9:Int)
 (b0 b1:aK)
def TX:Td 0 jA:= .c [] [2,3,6,7,8,9] (.r 0 2 (ec 2 (qp 0 0) (ec 3 (qp 1 0) (ec 6 aP (ec 7 aP (ec 8 aP (ec 9 aP en)))))) (sb 0 34 (lg 34) (sb 1 34 (lg 34) sn)) (λz=>⟨z.1.t.1,z.1.t.2.1,z.1.q.1,z.1.q.2.1,z.2.1,z.t.1⟩) (λx=>(((),(),x.t6,x.t7,x.t8,x.t9,()),(x.b0,x.b1,()))))
def Dv(M286:aK->aK->aa rI)(p:jA):aa (aa jA):=
 match if¬p.t7=0then bif vn (p.t9<ak (p.b1.aj.tdiv p.t7))then V (vn (p.t8<=p.t6))else V O else G with|G=>G|V r1=>bif r1 then match m32 p.b1 p.t8 with|G=>G|V r2=>bif r2 then V (G)else V (V (jA.mk p.t6 p.t7 (ak (p.t8+p.b0.aj)) (ak (p.t9+1)) p.b0 p.b1))else V (G)
def afO(M286:aK->aK->aa rI):An:=(.two (.two (.rb [240] 86) .no) .no)
def pX(M286:aK->aK->aa rI):=bI (Dv M286)
def ap5(M286:aK->aK->aa rI):An:=(noTwo (noTwo (noTwo (noTwo (noTwo (noTwo (noTwo (.two (.two (.rb [240] 58) .no) (noTwo (.two (noTwo (TX.lp (pX M286) (afO M286))) .no))))))))))
def apo{M286}:∀f∈([240]:af Nat),bA (ahU M286) f:=(aA (aak (oE (Y4 (mJ (afS bG))))) aH)
def aCV(M286:aK->aK->aa rI):gu vp (ahU M286) 0 300 286 (ap5 M286):=cH (l:=[(.skip,(.rb [240] 58)),(bk f286 0,(TX.lp (pX M286) (afO M286))),(.skip,(.rb [240] 86))]) func286 (bT aY) aY (aA apo (aA (aO TX) (aA apo aH)))
def ZE(M286:aK->aK->aa rI)(a0:aK)(a1:aK):aa rI:=
 match Eh a0 with|G=>G|V r3=>match Eh a1 with|G=>G|V r4=>bif vn (r4<r3)then match M286 a1 a0 with|G=>G|V r5=>V (r5)else match Eh a0 with|G=>G|V r6=>bif vn (r6=1)then match m32 a1 a0.ah with|G=>G|V r7=>V (r7)else bif vn (a0.ah<a1.ah)then bif vn (a1.ag<a0.ag)then match FQ a0.aj a1.aj with|G=>G|V r8=>match bif vn (a1.ag<a1.ah)then V J else if¬r8=0then V (bif vn (Int.tmod (jO a0.ah a1.ah) r8=0)then O else J)else G with|G=>G|V r9=>bif r9 then V O else if¬a0.aj=0then match pX M286 (jA.mk a1.ag r8 (ak (a0.ah+ak (ak ((ak (ak (ak (a1.ah-a0.ah)+a0.aj)-1)).tdiv a0.aj)*a0.aj))) 0 a0 a1)with|G=>G|V r10=>match if¬r10.t7=0then bif vn (r10.t9<ak (r10.b1.aj.tdiv r10.t7))then V (vn (r10.t8<=r10.t6))else V O else G with|G=>G|V r11=>bif r11 then match m32 r10.b1 r10.t8 with|G=>G|V r12=>bif r12 then V J else G else V O else G else match FQ a0.aj a1.aj with|G=>G|V r13=>match bif vn (a0.ag<a1.ah)then V J else if¬r13=0then V (bif vn (Int.tmod (jO a0.ah a1.ah) r13=0)then O else J)else G with|G=>G|V r14=>bif r14 then V O else if¬a0.aj=0then match pX M286 (jA.mk a0.ag r13 (ak (a0.ah+ak (ak ((ak (ak (ak (a1.ah-a0.ah)+a0.aj)-1)).tdiv a0.aj)*a0.aj))) 0 a0 a1)with|G=>G|V r15=>match if¬r15.t7=0then bif vn (r15.t9<ak (r15.b1.aj.tdiv r15.t7))then V (vn (r15.t8<=r15.t6))else V O else G with|G=>G|V r16=>bif r16 then match m32 r15.b1 r15.t8 with|G=>G|V r17=>bif r17 then V J else G else V O else G else bif vn (a1.ag<a0.ag)then match FQ a0.aj a1.aj with|G=>G|V r18=>match bif vn (a1.ag<a0.ah)then V J else if¬r18=0then V (bif vn (Int.tmod (jO a0.ah a1.ah) r18=0)then O else J)else G with|G=>G|V r19=>bif r19 then V O else if¬a0.aj=0then match pX M286 (jA.mk a1.ag r18 (ak (a0.ah+ak (ak ((ak (ak (ak (a0.ah-a0.ah)+a0.aj)-1)).tdiv a0.aj)*a0.aj))) 0 a0 a1)with|G=>G|V r20=>match if¬r20.t7=0then bif vn (r20.t9<ak (r20.b1.aj.tdiv r20.t7))then V (vn (r20.t8<=r20.t6))else V O else G with|G=>G|V r21=>bif r21 then match m32 r20.b1 r20.t8 with|G=>G|V r22=>bif r22 then V J else G else V O else G else match FQ a0.aj a1.aj with|G=>G|V r23=>match bif vn (a0.ag<a0.ah)then V J else if¬r23=0then V (bif vn (Int.tmod (jO a0.ah a1.ah) r23=0)then O else J)else G with|G=>G|V r24=>bif r24 then V O else if¬a0.aj=0then match pX M286 (jA.mk a0.ag r23 (ak (a0.ah+ak (ak ((ak (ak (ak (a0.ah-a0.ah)+a0.aj)-1)).tdiv a0.aj)*a0.aj))) 0 a0 a1)with|G=>G|V r25=>match if¬r25.t7=0then bif vn (r25.t9<ak (r25.b1.aj.tdiv r25.t7))then V (vn (r25.t8<=r25.t6))else V O else G with|G=>G|V r26=>bif r26 then match m32 r25.b1 r25.t8 with|G=>G|V r27=>bif r27 then V J else G else V O else G
def aFK(M286:aK->aK->aa rI)(a0:aK)(a1:aK):bZ vp (ahU M286) 300 (ap5 M286) 286 (ar2.c (a0,a1,())) [] 0 d286.rd=ZE M286 a0 a1:=aY
def Jx:Nat->(aK->aK->aa rI)
 |0=>(λ_ _=>G)
 |n+1=>(ZE (Jx n))
def adZ(n:Nat):aK->aK->aa rI:=(Jx n)
def Pb:∀n,alE (adZ n)
 |0=>λ_ _ h=>(by cases h)
 |n+1=>by
  have ih:=Pb n;have i286:=ih;exact(fe (ajT i286) (aCV (adZ n)) (λ_=>aY) (λ_=>aY) λg=>aFK (adZ n) g.1 g.2.1)
def aep:aK->aK->aa rI:=λa0 a1=>lim (λn=>adZ n a0 a1)
def akK:alE aep:=λg b h=>by
 obtain⟨n,hn⟩:=dy (show lim (λn=>adZ n g.1 g.2.1)=V b from h);exact(Pb n) g b hn
def aHH(F:bu):bu:=ahJ aep F
def ajM{F:bu}(h:bD vp F):bD vp (aHH F):=V8 akK h
abbrev az2:=aK
def d246:Td 0 az2:= .c [] [6] (.r 0 1 (ec 6 (qp 0 0) en) (sb 0 34 (lg 34) sn) (λz=>z.2.1) (λx=>(((),()),(x,()))))
def acq(a0:Int)(a1:aK)(a2:aK):aa az2:=
 bif vn (a0=13)then match aep a1 a2 with|G=>G|V r1=>bif bif bif vn (a1.ah=a2.ah)then bif vn (a1.ag=a2.ag)then bif vn (a1.aj=a2.aj)then J else O else O else O then O else J then bif vn (a0=14)then V (jF r1 J)else V (jF J r1)else match Eh a1 with|G=>G|V r2=>bif vn (a0=14)then V (jF r1 (vn (1<((r2,()),()).fst.fst)))else V (jF (vn (1<((r2,()),()).fst.fst)) r1)else bif vn (a0=14)then match aep a1 a2 with|G=>G|V r3=>bif bif bif vn (a1.ah=a2.ah)then bif vn (a1.ag=a2.ag)then bif vn (a1.aj=a2.aj)then J else O else O else O then O else J then bif vn (a0=14)then V (jF r3 J)else V (jF J r3)else match Eh a1 with|G=>G|V r4=>bif vn (a0=14)then V (jF r3 (vn (1<((r4,()),()).fst.fst)))else V (jF (vn (1<((r4,()),()).fst.fst)) r3)else bif vn (a0=15)then V (jF (vn (a2.ah<=a1.ag)) (vn (a1.ah<a2.ag)))else bif vn (a0=16)then V (jF (vn (a2.ah<a1.ag)) (vn (a1.ah<=a2.ag)))else bif vn (a0=17)then V (jF (vn (a1.ah<=a2.ag)) (vn (a2.ah<a1.ag)))else bif vn (a0=18)then V (jF (vn (a1.ah<a2.ag)) (vn (a2.ah<=a1.ag)))else match GF a1 with|G=>G|V r5=>match GF a2 with|G=>G|V r6=>bif vn (a0=19)then bif r5.snd then bif r5.fst then V (jF J r6.snd)else V (jF r6.fst r6.snd)else bif r5.fst then V (jF J O)else V (jF r6.fst O)else bif r5.snd then bif r5.fst then V (jF r6.fst J)else V (jF O J)else bif r5.fst then V (jF r6.fst r6.snd)else V (jF O r6.snd)
def avz:=eL vp 246 O (aU (lc (qg 34) (lc (qg 34) ln))) d246 (λg=>acq g.1 g.2.1 g.t.1)
def aj9:EO avz:=λh=>kL (an:= .no) func246 (ajM (WB (AL (pP aV)))) aH h
def De:EP avz:=λh=>kP h
def aCS:bu:=(avz (asT (atN (awg (aq6 (adE (acu (LC (Pt (agu (e84 (e43 (e42 (e41 dA))))))))))))))
abbrev aDl:=aK×Int
def d166:Td 0 aDl:= .c [] [6,7] (.r 0 1 (ec 6 (qp 0 0) (ec 7 aP en)) (sb 0 34 (lg 34) sn) (λz=>(z.2.1,z.1.2.1)) (λx=>(((),x.2,()),(x.1,()))))
def ae7:∀f∈([84,102,242]:af Nat),bA (aCS) f:=(aA (De (CT (C6 (C7 (CU (oE (tc (jj (iF (ox (iS (mJ (Bo (A7 bG)))))))))))))) (aA (De (CT (C6 (C7 (CU (oE (tc (jj (iF (ox (iS (mJ (Bo (A7 bG)))))))))))))) (aA (De (CT (C6 (C7 (CU (oE (tc (jj (iF (ox (iS (mJ (Bo (A7 bG)))))))))))))) aH)))
def oW(a0:Int)(a1:aK)(a2:aK):aa aDl:=
 match match m84 a1 with|G=>G|V r1=>bif bif r1 then O else J then V J else match m84 a2 with|G=>G|V r2=>bif bif r2 then O else J then V J else V (bif IU a0 then O else J)with|G=>G|V r3=>bif r3 then V (aK.mk 0 0 0,1)else match bif l6 a1 then V J else V (l6 a2)with|G=>G|V r4=>bif r4 then V (sN,0)else match Eh a1 with|G=>G|V r5=>match Eh a2 with|G=>G|V r6=>if¬r6=0then bif vn (r5<=ak ((4096:Int).tdiv r6))then match Za a0 a1 a2 with|G=>G|V r7=>V (r7)else bif vn (a0=8)then match BO a0 a1 a2 with|G=>G|V r8=>V (r8)else bif vn (a0=9)then match BO a0 a1 a2 with|G=>G|V r9=>V (r9)else bif vn (a0=10)then match BO a0 a1 a2 with|G=>G|V r10=>V (r10)else bif vn (a0=11)then bif vn (jO a1.ah 0<jO a1.ag 0)then match bif vn (0<=a1.ah)then V (vn (0<=a2.ah))else V O with|G=>G|V r11=>bif r11 then match j4 0 (jO a1.ag 0) 1with|G=>G|V r12=>V (r12)else match j4 (ak (0-jO a1.ag 0)) (jO a1.ag 0) 1with|G=>G|V r13=>V (r13)else match bif vn (0<=a1.ah)then V (vn (0<=a2.ah))else V O with|G=>G|V r14=>bif r14 then match j4 0 (jO a1.ah 0) 1with|G=>G|V r15=>V (r15)else match j4 (ak (0-jO a1.ah 0)) (jO a1.ah 0) 1with|G=>G|V r16=>V (r16)else bif vn (a0=12)then bif vn (a2.ah<0)then bif vn (0<a2.ag)then match j4 (ak (a2.ah+1)) (ak (a2.ag-1)) 1with|G=>G|V r17=>V (r17)else match j4 (ak (a2.ah+1)) 0 1with|G=>G|V r18=>V (r18)else bif vn (0<a2.ag)then match j4 0 (ak (a2.ag-1)) 1with|G=>G|V r19=>V (r19)else match j4 0 0 1with|G=>G|V r20=>V (r20)else bif vn (a0=21)then match Sw a0 a1.ag a2.ag with|G=>G|V r21=>match nv a1 a2 with|G=>G|V r22=>match m41 r22 r21.fst with|G=>G|V r23=>V (r23,0)else bif vn (a0=22)then match Sw a0 a1.ah a2.ah with|G=>G|V r24=>match nv a1 a2 with|G=>G|V r25=>match m42 r25 (ak (r24.fst-1))with|G=>G|V r26=>V (r26,0)else match acq a0 a1 a2 with|G=>G|V r27=>V (r27,0)else G
def aDF:=eL vp 166 O (aU (lc (qg 34) (lc (qg 34) ln))) d166 (λg=>oW g.1 g.2.1 g.t.1)
def Yl:EO aDF:=λh=>kL (F:=aCS) (an:=(noTwo (.two (.two (.rb [84,102,242] 27) .no) (.two (.two (.rb [84,102,242] 34) .no) (noTwo (.two (noTwo (noTwo (noTwo (noTwo (.two (noTwo (noTwo (.two (.two (.rb [84,102,242] 79) .no) .no))) .no))))) .no)))))) (l:=[(.skip,(.rb [84,102,242] 27)),(.skip,(.rb [84,102,242] 34)),(.skip,(.rb [84,102,242] 79))]) func166 (aj9 (Nr (ah4 (aiP (aj7 (Al (tJ (lI (ni (EN (Ae (pP (Si (aa2 aV)))))))))))))) (aA ae7 (aA ae7 (aA ae7 aH))) h
abbrev Ph:=aK
def d87:Td 0 Ph:= .c [] [4] (.r 0 1 (ec 4 (qp 0 0) en) (sb 0 34 (lg 34) sn) (λz=>z.2.1) (λx=>(((),()),(x,()))))
def A87:=(lc (qg 147) (lc (qg 137) ln))
def x87(M:aJ->az->aa Ph):bu->bu:=eL vp 87 O A87 d87 (λg=>M g.1 g.2.1)
def H87(M:aJ->az->aa Ph):Prop:=HL vp 87 A87 d87 (λg=>M g.1 g.2.1)
def acA{M:aJ->az->aa Ph}(hM:H87 M){F:bu}(h:bD vp F):bD vp (x87 M F):=gm (sc:=Bf) eo hM ⟨_,func87,aY,aY⟩ (λ_=>aY) (λ_=>aY) h
def F87(M87:aJ->az->aa Ph):bu:=(aDF (Zw (aB2 (acu (LC (x87 M87 (e86 (e36 (e32 dA)))))))))
def awo{M87}(h87:H87 M87):bD vp (F87 M87):=(Yl (AL (agz (tJ (lI (acA h87 (SL (Lm (FO aV)))))))))
structure J3 where
 (t107 t108:Int)
 b0:aJ
 b1:az
 (b2 b3 b4:aK)
def aeF:Td 0 J3:= .c [] [2,3,4,9,11,107,108] (.r 0 5 (ec 2 (qp 0 0) (ec 3 (qp 1 0) (ec 4 (qp 2 0) (ec 9 (qp 3 0) (ec 11 (qp 4 0) (ec 107 aP (ec 108 aP en))))))) (sb 0 147 (lg 147) (sb 1 137 (lg 137) (sb 2 34 (lg 34) (sb 3 34 (lg 34) (sb 4 34 (lg 34) sn))))) (λz=>⟨z.1.q.2.1,z.1.q.t.1,z.2.1,z.t.1,z.t.2.1,z.q.1,z.q.2.1⟩) (λx=>(((),(),(),(),(),x.t107,x.t108,()),(x.b0,x.b1,x.b2,x.b3,x.b4,()))))
def Ya(M87:aJ->az->aa Ph)(p:J3):aa (aa J3):=
 bif vn (p.t108<p.t107)then match m32 p.b3 p.t108 with|G=>G|V r1=>bif r1 then if 0<=ak ((1:Int)+p.t108)/\ak ((1:Int)+p.t108)<zY p.b1.aq then match M87 p.b0 (az.mk p.b1.aq[(ak (1+p.t108)).toNat]!.bF p.b1.aq[(ak (1+p.t108)).toNat]!.fN p.b1.aq[(ak (1+p.t108)).toNat]!.aq)with|G=>G|V r2=>match nv p.b4 r2 with|G=>G|V r3=>V (V (J3.mk p.t107 (ak (p.t108+1)) p.b0 (az.mk p.b1.bF p.b1.fN p.b1.aq) p.b2 p.b3 r3))else G else V (V (J3.mk p.t107 (ak (p.t108+1)) p.b0 (az.mk p.b1.bF p.b1.fN p.b1.aq) p.b2 p.b3 p.b4))else V (G)
def PG(M87:aJ->az->aa Ph):=bI (Ya M87)
def aAx(M87:aJ->az->aa Ph):An:=(noTwo (.two (noTwo (noTwo (noTwo (noTwo (noTwo (noTwo (noTwo (noTwo (noTwo (noTwo (.two (noTwo (noTwo (.two (noTwo (aeF.lp (PG M87) .no)) .no))) .no))))))))))) .no))
def aGA(M87:aJ->az->aa Ph):gu vp (F87 M87) 0 300 87 (aAx M87):=cH (l:=[(bk f87 0,(aeF.lp (PG M87) .no))]) func87 (bT aY) aY (aA (aO aeF) aH)
def s87(M87:aJ->az->aa Ph)(a0:aJ)(a1:az):aa Ph:=
 bif vn (a1.bF=0)then V (m36 a1.fN)else bif vn (a1.bF=24)then if 0<=a1.fN/\a1.fN<zY a0.ai then V (a0.ai[a1.fN.toNat]!)else G else bif vn (a1.bF=6)then if(0:Int)<=(0:Int)/\(0:Int)<zY a1.aq then match M87 a0 (az.mk a1.aq[0]!.bF a1.aq[0]!.fN a1.aq[0]!.aq)with|G=>G|V r4=>match af8 a1.bF r4 with|G=>G|V r5=>V (r5.fst)else G else bif vn (a1.bF=7)then if(0:Int)<=(0:Int)/\(0:Int)<zY a1.aq then match M87 a0 (az.mk a1.aq[0]!.bF a1.aq[0]!.fN a1.aq[0]!.aq)with|G=>G|V r6=>match af8 a1.bF r6 with|G=>G|V r7=>V (r7.fst)else G else bif vn (a1.bF=23)then if(0:Int)<=(0:Int)/\(0:Int)<zY a1.aq then match M87 a0 (az.mk a1.aq[0]!.bF a1.aq[0]!.fN a1.aq[0]!.aq)with|G=>G|V r8=>match GF r8 with|G=>G|V r9=>bif bif r9.fst then O else J then if(0:Int)<=(1:Int)/\(1:Int)<zY a1.aq then match M87 a0 (az.mk a1.aq[1]!.bF a1.aq[1]!.fN a1.aq[1]!.aq)with|G=>G|V r10=>V (r10)else G else bif bif r9.snd then O else J then if(0:Int)<=(2:Int)/\(2:Int)<zY a1.aq then match M87 a0 (az.mk a1.aq[2]!.bF a1.aq[2]!.fN a1.aq[2]!.aq)with|G=>G|V r11=>V (r11)else G else if(0:Int)<=(1:Int)/\(1:Int)<zY a1.aq then match M87 a0 (az.mk a1.aq[1]!.bF a1.aq[1]!.fN a1.aq[1]!.aq)with|G=>G|V r12=>if(0:Int)<=(2:Int)/\(2:Int)<zY a1.aq then match M87 a0 (az.mk a1.aq[2]!.bF a1.aq[2]!.fN a1.aq[2]!.aq)with|G=>G|V r13=>match nv r12 r13 with|G=>G|V r14=>V (r14)else G else G else G else bif vn (a1.bF=25)then if(0:Int)<=(0:Int)/\(0:Int)<zY a1.aq then match M87 a0 (az.mk a1.aq[0]!.bF a1.aq[0]!.fN a1.aq[0]!.aq)with|G=>G|V r15=>match m86 r15 0 (ak ((zY a1.aq:Int)-2))with|G=>G|V r16=>match PG M87 (J3.mk (ak ((zY a1.aq:Int)-1)) 0 a0 (az.mk a1.bF a1.fN a1.aq) (aK.mk 0 0 0) r16.fst sN)with|G=>G|V r17=>bif vn (r17.t108<r17.t107)then match m32 r17.b3 r17.t108 with|G=>G|V r18=>bif r18 then if 0<=ak ((1:Int)+r17.t108)/\ak ((1:Int)+r17.t108)<zY r17.b1.aq then match M87 r17.b0 (az.mk r17.b1.aq[(ak (1+r17.t108)).toNat]!.bF r17.b1.aq[(ak (1+r17.t108)).toNat]!.fN r17.b1.aq[(ak (1+r17.t108)).toNat]!.aq)with|G=>G|V r19=>match nv r17.b4 r19 with|G=>G|V r20=>G else G else G else V (r17.b4)else G else if(0:Int)<=(0:Int)/\(0:Int)<zY a1.aq then match M87 a0 (az.mk a1.aq[0]!.bF a1.aq[0]!.fN a1.aq[0]!.aq)with|G=>G|V r21=>if(0:Int)<=(1:Int)/\(1:Int)<zY a1.aq then match M87 a0 (az.mk a1.aq[1]!.bF a1.aq[1]!.fN a1.aq[1]!.aq)with|G=>G|V r22=>match oW a1.bF r21 r22 with|G=>G|V r23=>V (r23.fst)else G else G
def c87(M87:aJ->az->aa Ph)(a0:aJ)(a1:az):bZ vp (F87 M87) 300 (aAx M87) 87 (A87.c (a0,a1,())) [] 0 d87.rd=s87 M87 a0 a1:=aY
def aya:Nat->(aJ->az->aa Ph)
 |0=>(λ_ _=>G)
 |n+1=>(s87 (aya n))
def m87(n:Nat):aJ->az->aa Ph:=(aya n)
def YJ:∀n,H87 (m87 n)
 |0=>λ_ _ h=>(by cases h)
 |n+1=>by
  have ih:=YJ n;have i87:=ih;exact(fe (awo i87) (aGA (m87 n)) (λ_=>aY) (λ_=>aY) λg=>c87 (m87 n) g.1 g.2.1)
def Ue:aJ->az->aa Ph:=λa0 a1=>lim (λn=>m87 n a0 a1)
def ar5:H87 Ue:=λg b h=>by
 obtain⟨n,hn⟩:=dy (show lim (λn=>m87 n g.1 g.2.1)=V b from h);exact(YJ n) g b hn
def e87(F:bu):bu:=x87 Ue F
def Tq{F:bu}(h:bD vp F):bD vp (e87 F):=acA ar5 h
end Go.Proofs.YtnfljbehcffmcaaGreat
end
noncomputable section
namespace Go.Iv
open Go
variable [U:EU] [L:Ec]
def aL{n:Int}(h1: -9223372036854775808<=n:=by omega)(h2:n<9223372036854775808:=by omega):ak n=n:=by
 simp[ak,bJ,IntKind.wrap,IntKind.bits,IntKind.signed];omega
def Ox{γ:Type}{rnd:γ->aa (aa γ)}(f:Nat->γ)(n:Nat)(h1:∀i,i<n->rnd (f i)=V (V (f (i+1))))(h2:∀r,rnd (f n)≠V (V r)):bI rnd (f 0)=V (f n):=by
 have key:∀k i,i+k=n->bI rnd (f i)=V (f n):=by
  intro k;induction k with
  |zero=>
   intro i hi;have:i=n:=au
   subst this;exact cn h2
  |succ k ih=>intro i hi;rw[bP (h1 i au)];exact ih (i+1) au
 simp_all
def lG{α β ρ:Type}(step:β->α->aa β)(ret:β->α->ρ)(fin:β->ρ):af α->β->ρ
 |[],b=>fin b
 |x::xs,b=>match step b x with
  |some b'=>lG step ret fin xs b'
  |none=>ret b x
def KC{γ α β ρ:Type}{rnd:γ->aa (aa γ)}(l:af α)(mk:Nat->β->γ)(step:β->α->aa β)(ret:β->α->ρ)(fin:β->ρ)(I:Nat->β->Prop)
  (h1:∀i b (hi:i<zY l),I i b->∀b',step b l[i]=V b'->rnd (mk i b)=V (V (mk (i+1) b'))/\I (i+1) b')
  (h2:∀i b (hi:i<zY l),I i b->step b l[i]=G->∀r,rnd (mk i b)≠V (V r)) (h3:∀b,I (zY l) b->∀r,rnd (mk (zY l) b)≠V (V r)) {b:β} (hb:I 0 b):
  ∃i v,i<=zY l/\bI rnd (mk 0 b)=V (mk i v)/\I i v/\((i=zY l/\lG step ret fin l b=fin v)\/∃hi:i<zY l,step v l[i]=G/\lG step ret fin l b=ret v l[i]):=by
 have key:∀(xs:af α) (i:Nat) (b:β),l.drop i=xs->i<=zY l->I i b->∃j v,j<=zY l/\bI rnd (mk i b)=V (mk j v)/\I j v/\((j=zY l/\lG step ret fin xs b=fin v)\/∃hi:j<zY l,step v l[j]=G/\lG step ret fin xs b=ret v l[j]):=by
  intro xs;induction xs with
  |nil=>
   intro i b hd hi hb;have:i=zY l:=by have:=congrArg zY hd;simp at this;omega
   subst this;exact⟨_,b,zl _,cn (h3 b hb),hb, .inl ⟨rfl,rfl⟩⟩
  |cons x xs ih=>
   intro i b hd hi hb;have hil:i<zY l:=by have:=congrArg zY hd;simp at this;omega
   have hx:l[i]=x:=by
    have:=congrArg List.head? hd;rw[List.head?_drop,zm hil]at this;simp_all
   have hd':l.drop (i+1)=xs:=by
    have:=congrArg List.tail hd;rw[List.tail_drop]at this
    assumption
   cases hs:step b x with
   |some b'=>
    obtain⟨q1,q2⟩:=h1 i b hil hb b' (by rw[hx];exact hs);obtain⟨j,v,e1,e2,e3,e4⟩:=ih (i+1) b' hd' hil q2;have er:lG step ret fin (x::xs) b=lG step ret fin xs b':=by simp only[lG,hs]
    exact⟨j,v,e1,by rw[bP q1];exact e2,e3,by rw[er];exact e4⟩
   |none=>
    have er:lG step ret fin (x::xs) b=ret b x:=by simp only[lG,hs]
    exact⟨i,b,hi,cn (h2 i b hil hb (by rw[hx];exact hs)),hb, .inr ⟨hil,by rw[hx];exact hs,by rw[er,hx]⟩⟩
 exact key l 0 b rfl (yU _) hb
end Go.Iv
end
noncomputable section
set_option maxRecDepth 100000
namespace Go.Proofs.YtnfljbehcffmcaaGreat
open Go Go.Iv
open Go.IntKind (i64 u64)
def gW{n:Int}(h1:0<=n:=by omega)(h2:n<18446744073709551616:=by omega):bJ n=n:=by
 simp only[ak,bJ,IntKind.wrap,IntKind.signed,IntKind.bits]at*;simp;omega
def Ud(n:Int):bJ n=n%18446744073709551616:=by
 simp only[ak,bJ,IntKind.wrap,IntKind.signed,IntKind.bits]at*;simp
structure ij (y1 y0 u d q r:Int):Prop where
 r0:0<=r
 r1:r<4294967296
 q0:0<=q
 q1:q<=4294967297
 e:u=q*y1+r
 hi:u*4294967296+d<(q+1)*(y1*4294967296+y0)
 top:q=4294967297->r+y1<4294967296
structure ua (y1 y0 u d:Int):Prop where
 ha:2147483648<=y1
 hb:y1<4294967296
 hc:0<=y0
 hd:y0<4294967296
 he:0<=u
 hf:u<y1*4294967296+y0
 hg:0<=d
 hh:d<4294967296
def ij.start{y1 y0 u d:Int}(h:ua y1 y0 u d):ij y1 y0 u d (u/y1) (u%y1):=by
 obtain⟨ha,hb,hc,hd,he,hf,hg,hh⟩:=h;have e1:=yW u y1;have m0:=yX u (b:=y1) au;have m1:=y6 u (b:=y1) au;have q0:0<=u/y1:=zS he au;have q1:u/y1<=4294967297:=by
  have:u/y1<4294967298:=wZ au au;omega
 rw[zQ]at e1;refine⟨m0,au,q0,q1,au,?_,λhq=> ?_⟩
 ·have k1:(u/y1+1)*(y1*4294967296+y0)=((u/y1)*y1)*4294967296+y1*4294967296+(u/y1)*y0+y0:=by
   rw[zU,xF,yc,yb];omega
  have k2:0<=u/y1*y0:=zJ q0 hc;rw[k1];omega
 ·rw[hq]at e1;omega
def ij.stop{y1 y0 u d q r:Int}(H:ua y1 y0 u d)(h:ij y1 y0 u d q r)(h1:q<4294967296)(h2:¬4294967296*r+d<q*y0):q*(y1*4294967296+y0)<=u*4294967296+d:=by
 have k:q*(y1*4294967296+y0)=(q*y1)*4294967296+q*y0:=by rw[xF,yb]
 have:=h.e;rw[k];omega
def ij.big{y1 y0 u d q r:Int}(H:ua y1 y0 u d)(h:ij y1 y0 u d q r)(h1:4294967296<=q\/4294967296*r+d<q*y0):u*4294967296+d<q*(y1*4294967296+y0):=by
 have k:q*(y1*4294967296+y0)=(q*y1)*4294967296+q*y0:=by rw[xF,yb]
 have e:=h.e;rcases h1 with h1|h1
 ·have k2:4294967296*(y1*4294967296+y0)<=q*(y1*4294967296+y0):=zN h1 (by have:=H.ha;have:=H.hc;omega);have:=H.hf;have:=H.hh;omega
 ·rw[k];omega
def ij.pos{y1 y0 u d q r:Int}(H:ua y1 y0 u d)(h:ij y1 y0 u d q r)(h1:4294967296<=q\/4294967296*r+d<q*y0):1<=q:=by
 have k:=ij.big H h h1;have:=h.q0;rcases (show q=0\/1<=q by omega)with rfl|h2
 ·rw[Int.zero_mul]at k;have:=H.he;have:=H.hg;omega
 ·exact h2
def ij.next{y1 y0 u d q r:Int}(H:ua y1 y0 u d)(h:ij y1 y0 u d q r)(h1:4294967296<=q\/4294967296*r+d<q*y0)(h2:r+y1<4294967296):ij y1 y0 u d (q-1) (r+y1):=by
 have hb:=ij.big H h h1;have hp:=ij.pos H h h1;have:=H.ha;have:=h.r0;have:=h.q1;refine⟨au,h2,au,au,?_,?_,λhq=>au⟩
 ·rw[yD,yc];have:=h.e;omega
 ·rw[show q-1+1=q by omega];exact hb
def ij.brk{y1 y0 u d q r:Int}(H:ua y1 y0 u d)(h:ij y1 y0 u d q r)(h1:4294967296<=q\/4294967296*r+d<q*y0)(h2:4294967296<=r+y1):(q-1)*(y1*4294967296+y0)<=u*4294967296+d:=by
 have hp:=ij.pos H h h1;have hq:q<=4294967296:=by
  have:=h.q1;have:=h.top;omega
 have k:(q-1)*(y1*4294967296+y0)=(q*y1)*4294967296-y1*4294967296+(q-1)*y0:=by
  rw[xF,<-yb,yD q 1 y1,yc,yD]
 have k2:(q-1)*y0<=4294967296*y0:=zN au H.hc;have:=h.e;have:=H.hd;have:=H.hg;rw[k];omega
def RE(y1 y0 u d q:Int):Prop:=0<=q/\q<=4294967297/\q*(y1*4294967296+y0)<=u*4294967296+d/\u*4294967296+d<(q+1)*(y1*4294967296+y0)
def ij.y0q{y1 y0 u d q r:Int}(H:ua y1 y0 u d)(h:ij y1 y0 u d q r)(h1:q<4294967296):bJ (q*y0)=q*y0:=by
 have k1:0<=q*y0:=zJ h.q0 H.hc;have k2:q*y0<=4294967295*y0:=zN au H.hc;have:=H.hd;exact gW k1 au
def ij.rr{y1 y0 u d q r:Int}(H:ua y1 y0 u d)(h:ij y1 y0 u d q r):bJ (bJ (4294967296*r)+d)=4294967296*r+d:=by
 have:=h.r0;have:=h.r1;have:=H.hg;have:=H.hh;rw[gW (n:=4294967296*r),gW]
def ij.cnd{y1 y0 u d q r:Int}(H:ua y1 y0 u d)(h:ij y1 y0 u d q r):(bif vn (4294967296<=q)then V J else V (vn (bJ (bJ (4294967296*r)+d)<bJ (q*y0))))=V (vn (4294967296<=q\/4294967296*r+d<q*y0)):=by
 by_cases hq:4294967296<=q
 ·rw[bX hq,bX (Or.inl hq),cK]
 ·rw[bW hq,ct,ij.rr H h,ij.y0q H h au];by_cases hc:4294967296*r+d<q*y0
  ·rw[bX hc,bX (Or.inr hc)]
  ·rw[bW hc,bW (λk=>k.elim hq hc)]
def ij.done{y1 y0 u d q r:Int}(H:ua y1 y0 u d)(h:ij y1 y0 u d q r)(hr:4294967296<=q\/4294967296*r+d<q*y0->4294967296<=r+y1):RE y1 y0 u d (bif vn (4294967296<=q\/4294967296*r+d<q*y0)then q-1 else q):=by
 have h0:=h.q0;have h1:=h.q1;by_cases hc:4294967296<=q\/4294967296*r+d<q*y0
 ·rw[bX hc,cK];have:=ij.pos H h hc;refine⟨au,au,ij.brk H h hc (hr hc),?_⟩;rw[show q-1+1=q by omega];exact ij.big H h hc
 ·rw[bW hc,ct];exact⟨h0,au,ij.stop H h au (λk=>hc (.inr k)),h.hi⟩
def ij.wr1{y1 y0 u d q r:Int}(H:ua y1 y0 u d)(h:ij y1 y0 u d q r):bJ (r+y1)=r+y1:=by
 have:=h.r0;have:=h.r1;have:=H.ha;have:=H.hb;exact gW
def ij.wq1{y1 y0 u d q r:Int}(H:ua y1 y0 u d)(h:ij y1 y0 u d q r)(hc:4294967296<=q\/4294967296*r+d<q*y0):bJ (q-1)=q-1:=by
 have:=h.q1;have:=ij.pos H h hc;exact gW
def afb{y s y1 y0 u d e q r:Int}(H:ua y1 y0 u d)(h:ij y1 y0 u d q r):∃q' r',LG (mc.mk y s y1 y0 u d e q r)=V (mc.mk y s y1 y0 u d e q' r')/\ij y1 y0 u d q' r'/\(4294967296<=q'\/4294967296*r'+d<q'*y0->4294967296<=r'+y1):=by
 obtain⟨z,e1,⟨q',r',rfl,hI⟩,hs⟩:=mG (rnd:=Da) (λp=>∃q r,p=mc.mk y s y1 y0 u d e q r/\ij y1 y0 u d q r) (λp=>zq p.t15) (λp p' ⟨q,r,hp,hI⟩ hn=>by
  subst hp;have hn:Da (mc.mk y s y1 y0 u d e q r)=V (V p'):=hn;simp only[Da,CC]at hn;rw[ij.cnd H hI]at hn;by_cases hc:4294967296<=q\/4294967296*r+d<q*y0
  ·rw[bX hc]at hn;simp only[cK,ij.wr1 H hI,ij.wq1 H hI hc]at hn;by_cases hb:4294967296<=r+y1
   ·rw[bX hb]at hn;cases hn
   ·rw[bW hb]at hn;simp only[ct,zF.injEq]at hn;have hp:=ij.pos H hI hc;subst hn;exact⟨⟨q-1,r+y1,rfl,ij.next H hI hc au⟩,by show (q-1).toNat<q.toNat;omega⟩
  ·rw[bW hc]at hn;cases hn) ⟨q,r,rfl,h⟩
 refine⟨q',r',e1,hI,λhc=> ?_⟩;by_cases hb:4294967296<=r'+y1
 ·exact hb
 ·exact dS (show Da _=V (V _)by
   simp only[Da,CC];rw[ij.cnd H hI,bX hc];simp only[cK,ij.wr1 H hI];rw[bW hb];rfl) (hs _)
def OS{y s y1 y0 u d e q r:Int}(H:ua y1 y0 u d)(h:ij y1 y0 u d q r):∃q' r',G7 (lC.mk y s y1 y0 d e r u q)=V (lC.mk y s y1 y0 d e r' u q')/\ij y1 y0 u d q' r'/\(4294967296<=q'\/4294967296*r'+d<q'*y0->4294967296<=r'+y1):=by
 obtain⟨z,e1,⟨q',r',rfl,hI⟩,hs⟩:=mG (rnd:=B4) (λp=>∃q r,p=lC.mk y s y1 y0 d e r u q/\ij y1 y0 u d q r) (λp=>zq p.t18) (λp p' ⟨q,r,hp,hI⟩ hn=>by
  subst hp;have hn:B4 (lC.mk y s y1 y0 d e r u q)=V (V p'):=hn;simp only[B4,uU]at hn;rw[ij.cnd H hI]at hn;by_cases hc:4294967296<=q\/4294967296*r+d<q*y0
  ·rw[bX hc]at hn;simp only[cK,ij.wr1 H hI,ij.wq1 H hI hc]at hn;by_cases hb:4294967296<=r+y1
   ·rw[bX hb]at hn;cases hn
   ·rw[bW hb]at hn;simp only[ct,zF.injEq]at hn;have hp:=ij.pos H hI hc;subst hn;exact⟨⟨q-1,r+y1,rfl,ij.next H hI hc au⟩,by show (q-1).toNat<q.toNat;omega⟩
  ·rw[bW hc]at hn;cases hn) ⟨q,r,rfl,h⟩
 refine⟨q',r',e1,hI,λhc=> ?_⟩;by_cases hb:4294967296<=r'+y1
 ·exact hb
 ·exact dS (show B4 _=V (V _)by
   simp only[B4,uU];rw[ij.cnd H hI,bX hc];simp only[cK,ij.wr1 H hI];rw[bW hb];rfl) (hs _)
def aq3{n:Int}(h1:0<=n)(h2:n<256):IntKind.u8.wrap n=n:=by
 simp only[ak,bJ,IntKind.wrap,IntKind.signed,IntKind.bits]at*;simp;omega
def ael{x:Int}(k:Nat)(hk:k<=64):cT u64 x (k:Int)=x/2^k:=by
 unfold cT;rw[show min ((k:Int)).toNat u64.bits=k from by simp only[zg,IntKind.bits];omega];exact Int.fdiv_eq_ediv_of_nonneg _ (xU (Int.pow_pos au))
def aqq(i:Nat):Bool:=i==0||((zH 9).any λt=>(mb.data[i]!).toNat==t&&vn (1<=t)&&vn (2^(t-1)<=i)&&vn (i<2^t))
def aln:(zH 256).all aqq=J:=aY
def ajL{x:Int}(h1:1<=x)(h2:x<256):∃t:Nat,1<=t/\t<=8/\dh mb (IntKind.u8.wrap x).toNat=(t:Int)/\2^(t-1)<=x/\x<2^t:=by
 rw[aq3 au h2];have h:=zw.mp aln x.toNat (List.mem_range.mpr au);simp only[aqq,yC,beq_iff_eq,wN,List.mem_range,zi,decide_eq_true_eq]at h;rcases h with h|⟨t,ht,⟨⟨h3,h4⟩,h5⟩,h6⟩
 ·omega
 ·have h5':((2^(t-1):Nat):Int)<=(x.toNat:Int):=Int.ofNat_le.mpr h5;have h6':((x.toNat:Nat):Int)<((2^t:Nat):Int):=Int.ofNat_lt.mpr h6;rw[Int.toNat_of_nonneg au,Int.natCast_pow]at h5' h6';exact⟨t,h4,au,by unfold dh;rw[h3],h5',h6'⟩
def afB{a x:Int}{n t:Nat}(h1:1<=t)(h2:t<=8)(hx1:2^(t-1)<=x)(hx2:x<2^t)(hn:n<=56)(ha1:x*2^n<=a)(ha2:a<(x+1)*2^n):
  2^63<=a*2^(64-(n+t))/\a*2^(64-(n+t))<2^64:=by
 have p0:∀k:Nat,(0:Int)<2^k:=λk=>Int.pow_pos au;have e1:(2:Int)^63=2^(t-1)*2^n*2^(64-(n+t)):=by
  rw[<-Int.pow_add,<-Int.pow_add];congr 1;omega
 have e2:(2:Int)^64=2^t*2^n*2^(64-(n+t)):=by
  rw[<-Int.pow_add,<-Int.pow_add];congr 1;omega
 rw[e1,e2];refine⟨zN (xV (zN hx1 (xU (p0 n))) ha1) (xU (p0 _)),?_⟩;refine Int.mul_lt_mul_of_pos_right (Int.lt_of_lt_of_le ha2 ?_) (p0 _);exact zN au (xU (p0 n))
def WU(x:Int):cT u64 x 32=x/4294967296:=ael (x:=x) 32 au
def ayy(x:Int):cT u64 x 16=x/65536:=ael (x:=x) 16 au
def aGO(x:Int):cT u64 x 8=x/256:=ael (x:=x) 8 au
def agm(a:Int)(r:aa Int):Prop:=∃s:Nat,s<=63/\(match r with|G=>G|V r1=>V (ak (64-r1)))=V (s:Int)/\2^63<=a*2^s/\a*2^s<2^64
def jf{a x:Int}(n:Nat)(hn:n<=56)(hx1:1<=x)(hx2:x<256)(ha1:x*2^n<=a)(ha2:a<(x+1)*2^n):
  agm a (if(0:Int)<=IntKind.u8.wrap x/\IntKind.u8.wrap x<(256:Int)then V (ak ((n:Int)+ak (dh mb (IntKind.u8.wrap x).toNat)))else G):=by
 obtain⟨t,h1,h2,h3,h4,h5⟩:=ajL hx1 hx2;rw[bB (by rw[aq3 au hx2];omega),h3];refine⟨64-(n+t),au,?_,afB h1 h2 h4 h5 hn ha1 ha2⟩;rw[aL (n:=(t:Int)),aL (n:=(n:Int)+t)];show V _=_;rw[aL]
 congr 1
 omega
def ahl{a:Int}(h1:1<=a)(h2:a<18446744073709551616):∃s:Nat,s<=63/\au7 a=V (s:Int)/\2^63<=a*2^s/\a*2^s<2^64:=by
 show agm a (anC a);unfold anC;simp only[WU,ayy,aGO];by_cases c1:4294967296<=a
 ·rw[bX c1,cK];by_cases c2:65536<=a/4294967296
  ·rw[bX c2,cK];by_cases c3:256<=a/4294967296/65536
   ·rw[bX c3,cK];exact jf 56 au au au au au
   ·rw[bW c3,ct];exact jf 48 au au au au au
  ·rw[bW c2,ct];by_cases c3:256<=a/4294967296
   ·rw[bX c3,cK];exact jf 40 au au au au au
   ·rw[bW c3,ct];exact jf 32 au au au au au
 ·rw[bW c1,ct];by_cases c2:65536<=a
  ·rw[bX c2,cK];by_cases c3:256<=a/65536
   ·rw[bX c3,cK];exact jf 24 au au au au au
   ·rw[bW c3,ct];exact jf 16 au au au au au
  ·rw[bW c2,ct];by_cases c3:256<=a
   ·rw[bX c3,cK];exact jf 8 au au au au au
   ·rw[bW c3,ct];exact jf 0 au au au au au
def atI{x:Int}(k:Nat)(hk:k<=64):nW u64 x (k:Int)=(x*2^k)%18446744073709551616:=by
 unfold nW;rw[show min ((k:Int)).toNat u64.bits=k from by simp only[zg,IntKind.bits];omega];exact Ud _
def Mj{x:Int}(h1:0<=x)(h2:x<18446744073709551616):(BitVec.ofInt 64 x).toNat=x.toNat:=by
 rw[BitVec.toNat_ofInt]
 congr 1
 omega
def afL{x:Int}(h1:0<=x)(h2:x<18446744073709551616):uR u64 x 4294967295=x%4294967296:=by
 unfold uR;show bJ ((BitVec.ofInt 64 x&&&BitVec.ofInt 64 4294967295).toNat:Int)=_;rw[BitVec.toNat_and,Mj h1 h2,Mj au au,show (4294967295:Int).toNat=2^32-1 from rfl,Nat.and_two_pow_sub_one_eq_mod,gW];omega
def orU{a b:Nat}{k:Nat}(hb:b<2^k)(h:2^k*a+b<18446744073709551616):bOr u64 ((2^k*a:Nat):Int) (b:Int)=((2^k*a+b:Nat):Int):=by
 unfold bOr;show bJ ((BitVec.ofInt 64 ((2^k*a:Nat):Int)|||BitVec.ofInt 64 (b:Int)).toNat:Int)=_;rw[BitVec.toNat_or,Mj au au,Mj au au,zg,zg,<-Nat.two_pow_add_eq_or_of_lt hb,gW]
def kM{a b:Int}(h1:0<=a:=by omega):a.tdiv b=a/b:=Int.tdiv_eq_ediv_of_nonneg h1
def lE{a b:Int}(h1:0<=a:=by omega):a.tmod b=a%b:=Int.tmod_eq_emod_of_nonneg h1
def wq0{u y1:Int}(h1:0<=u)(h2:u<18446744073709551616)(h3:2<=y1):bJ (u.tdiv y1)=u/y1:=by
 rw[kM h1];have:u/y1<=u:=yl _ h1;exact gW (zS h1 au) au
def wr0{u y1:Int}(h1:0<=u)(h2:u<18446744073709551616)(h3:2<=y1):bJ (u-bJ (u/y1*y1))=u%y1:=by
 have e:=yW u y1;have m0:=yX u (b:=y1) au;rw[zQ]at e;have q0:0<=u/y1*y1:=zJ (zS h1 au) au;rw[gW (n:=u/y1*y1) q0 au,gW];omega
def apD{u d q y:Int}(h1:q*y<=u*4294967296+d)(h2:u*4294967296+d<(q+1)*y)(hy:y<18446744073709551616):
  bJ (bJ (bJ (u*4294967296)+d)-bJ (q*y))=u*4294967296+d-q*y:=by
 rw[zU,yc]at h2;generalize q*y=z at*;simp only[Ud];omega
def ari{hi lo y:Int}(h0:0<=hi)(h1:hi<y)(h2:y<18446744073709551616)(h3:0<=lo)(h4:lo<18446744073709551616):∃q,abX hi lo y=V (q,(hi*18446744073709551616+lo)%y):=by
 by_cases hz:hi=0
 ·subst hz;refine⟨bJ (lo.tdiv y),?_⟩;unfold abX CC uU;rw[fD,fD,bX rfl,ct,ct,cK,gM,gM,lE h3];rw[show (0:Int)*18446744073709551616+lo=lo by omega]
 obtain⟨s,hs,es,b1,b2⟩:=ahl (a:=y) au h2;have hP:(0:Int)<2^s:=Int.pow_pos au;have hQ:(0:Int)<2^(64-s):=Int.pow_pos au;have hPQ:(2:Int)^(64-s)*2^s=18446744073709551616:=by rw[<-Int.pow_add,show 64-s+s=64 by omega];rfl
 have b1:(9223372036854775808:Int)<=y*2^s:=b1;have b2:y*2^s<18446744073709551616:=b2;have eY:nW u64 y (s:Int)=y*2^s:=by rw[atI s au,Int.emod_eq_of_lt au b2]
 have lb:lo/2^(64-s)<2^s:=wZ hQ (by rw[zQ,hPQ];exact h4);have lb0:0<=lo/2^(64-s):=zS h3 au;have hy1:(hi+1)*2^s<=y*2^s:=zN au au;have hy2:(hi+1)*2^s=hi*2^s+2^s:=by rw[zU,yc]
 have hp0:0<=hi*2^s:=zJ h0 au;have eU:bOr u64 (nW u64 hi (s:Int)) (cT u64 lo (bJ (64-(s:Int))))=hi*2^s+lo/2^(64-s):=by
  rw[atI s au,Int.emod_eq_of_lt hp0 au,gW (n:=64-(s:Int)),show (64-(s:Int))=((64-s:Nat):Int)by omega,ael (64-s) au];obtain⟨a,rfl⟩:=w9 h0;obtain⟨b,hb⟩:=w9 lb0;rw[hb]at lb ⊢;have e:(a:Int)*2^s=((2^s*a:Nat):Int):=by rw[wK,Int.natCast_pow,zQ];rfl
  have lb':b<2^s:=by
   have:((b:Nat):Int)<((2^s:Nat):Int):=by rw[Int.natCast_pow];exact lb
   exact Int.ofNat_lt.mp this
  rw[e]at hp0 hy2 ⊢;rw[orU lb' au];omega
 have eD:nW u64 lo (s:Int)=(lo*2^s)%18446744073709551616:=atI s au;have key:(hi*18446744073709551616+lo)*2^s=(hi*2^s+lo/2^(64-s))*18446744073709551616+(lo*2^s)%18446744073709551616:=by
  have k1:=yW (lo*2^s) 18446744073709551616;have k2:lo*2^s/18446744073709551616=lo/2^(64-s):=by rw[<-hPQ];exact Int.mul_ediv_mul_of_pos_left _ _ hP
  rw[k2]at k1;rw[zU,yb,zQ 18446744073709551616 (2^s),<-yb];omega
 have hD0:0<=(lo*2^s)%18446744073709551616:=au;have hD1:(lo*2^s)%18446744073709551616<18446744073709551616:=au;have hU0:0<=hi*2^s+lo/2^(64-s):=au;have hU1:hi*2^s+lo/2^(64-s)<y*2^s:=au;have res:∀Q,Q*(y*2^s)<=(hi*18446744073709551616+lo)*2^s->(hi*18446744073709551616+lo)*2^s<(Q+1)*(y*2^s)->((hi*18446744073709551616+lo)*2^s-Q*(y*2^s))/2^s=(hi*18446744073709551616+lo)%y:=λQ q1 q2=>by
  rw[<-yb,<-yD,Int.mul_ediv_cancel _ au];rw[<-yb]at q1 q2;have q1:=Int.le_of_mul_le_mul_right q1 hP;have q2:=wO q2 (xU hP);rw[zU,yc]at q2;have e:=yW (hi*18446744073709551616+lo) y;generalize hi*18446744073709551616+lo=X at*;have:X/y=Q:=by
   apply Int.le_antisymm
   ·have:X/y<Q+1:=wZ au (by rw[zU,yc];exact q2);omega
   ·exact Int.le_ediv_of_mul_le au q1
  rw[this,zQ]at e;omega
 rw[key]at res;unfold abX CC uU;rw[bW (show ¬y=0 by omega),bW (show ¬y<=hi by omega),bW hz,ct,ct,ct,es];simp only[gW (n:=(s:Int))];rw[eY,eU,eD,gW (n:=64-(s:Int)),gM,gM,gM,gM];generalize hi*2^s+lo/2^(64-s)=U at*;generalize (lo*2^s)%18446744073709551616=D at*;generalize y*2^s=Y at*;clear eY eU eD key hy1 hy2 hp0 lb lb0 hPQ hQ h1 hz;have eY1:Y/4294967296*4294967296+Y%4294967296=Y:=au;have H0:ua (Y/4294967296) (Y%4294967296) U (D/4294967296):=⟨au,au,au,au,hU0,au,au,au⟩;have hU2:U<18446744073709551616:=au;rw[WU,WU,afL hD0 hD1,afL au b2,gM,wq0 hU0 hU2 au,wr0 hU0 hU2 au];obtain⟨q1,r1,e1,I1,s1⟩:=afb (y:=Y) (s:=(s:Int)) (e:=D%4294967296) H0 (ij.start H0);rw[e1];have D1:=ij.done H0 I1 s1;simp only[ij.cnd H0 I1,ij.wr1 H0 I1];have second:∀Q1,RE (Y/4294967296) (Y%4294967296) U (D/4294967296) Q1->∃W,ua (Y/4294967296) (Y%4294967296) W (D%4294967296)/\bJ (bJ (bJ (U*4294967296)+D/4294967296)-bJ (Q1*Y))=W/\W=U*4294967296+D/4294967296-Q1*Y/\0<=W/\W<Y:=λQ1 hk=>by
  unfold RE at hk;rw[eY1]at hk;obtain⟨k0,k1,k2,k3⟩:=hk;have k4:=k3;rw[zU,yc]at k4;exact⟨_,⟨au,au,au,au,au,au,au,au⟩,apD k2 k3 b2,rfl,au,au⟩
 have fin:∀Q1 Q2 W,W=U*4294967296+D/4294967296-Q1*Y->RE (Y/4294967296) (Y%4294967296) W (D%4294967296) Q2->cT u64 (bJ (bJ (bJ (W*4294967296)+D%4294967296)-bJ (Q2*Y))) (s:Int)=(hi*18446744073709551616+lo)%y:=λQ1 Q2 W hW hk=>by
  unfold RE at hk;rw[eY1]at hk;obtain⟨k0,k1,k2,k3⟩:=hk;rw[apD k2 k3 b2,ael s au];have e:U*18446744073709551616+D=W*4294967296+D%4294967296+Q1*4294967296*Y:=by
   rw[hW,yb,zQ 4294967296 Y,<-yb];omega
  rw[<-res (Q1*4294967296+Q2)]
  ·congr 1
   rw[zU];omega
  ·rw[zU];omega
  ·rw[zU,yc]at k3;rw[Int.add_assoc,zU,zU Q2,yc];omega
 by_cases c1:4294967296<=q1\/4294967296*r1+D/4294967296<q1*(Y%4294967296)
 ·rw[bX c1]at D1 ⊢;rw[cK]at D1;rw[cK,bX (s1 c1),cK,gM,ij.wq1 H0 I1 c1];obtain⟨W,H1,w1,w2,w3,w4⟩:=second _ D1;rw[w1,wq0 w3 au au,wr0 w3 au au];obtain⟨q2,r2,e2,I2,s2⟩:=OS (y:=Y) (s:=(s:Int)) (e:=q1-1) H1 (ij.start H1);rw[e2];have D2:=ij.done H1 I2 s2;simp only[ij.cnd H1 I2,ij.wr1 H1 I2];by_cases c2:4294967296<=q2\/4294967296*r2+D%4294967296<q2*(Y%4294967296)
  ·rw[bX c2]at D2 ⊢;rw[cK]at D2;rw[cK,bX (s2 c2),cK,gM,ij.wq1 H1 I2 c2,fin _ _ W w2 D2];exact⟨_,rfl⟩
  ·rw[bW c2]at D2 ⊢;rw[ct]at D2;rw[ct,gM,fin _ _ W w2 D2];exact⟨_,rfl⟩
 ·rw[bW c1]at D1 ⊢;rw[ct]at D1;rw[ct,gM];obtain⟨W,H1,w1,w2,w3,w4⟩:=second _ D1;rw[w1,wq0 w3 au au,wr0 w3 au au];obtain⟨q2,r2,e2,I2,s2⟩:=OS (y:=Y) (s:=(s:Int)) (e:=q1) H1 (ij.start H1);rw[e2];have D2:=ij.done H1 I2 s2;simp only[ij.cnd H1 I2,ij.wr1 H1 I2];by_cases c2:4294967296<=q2\/4294967296*r2+D%4294967296<q2*(Y%4294967296)
  ·rw[bX c2]at D2 ⊢;rw[cK]at D2;rw[cK,bX (s2 c2),cK,gM,ij.wq1 H1 I2 c2,fin _ _ W w2 D2];exact⟨_,rfl⟩
  ·rw[bW c2]at D2 ⊢;rw[ct]at D2;rw[ct,gM,fin _ _ W w2 D2];exact⟨_,rfl⟩
def mul_lt{a b m n:Int}(h1:0<=a)(h2:a<=m)(h3:0<=b)(h4:b<=n):0<=a*b/\a*b<=m*n:=
 ⟨zJ h1 h3,yY h2 h4 h3 au⟩
def atC{x y:Int}(h1:0<=x)(h2:x<18446744073709551616)(h3:0<=y)(h4:y<18446744073709551616):acQ x y=(x*y/18446744073709551616,x*y%18446744073709551616):=by
 unfold acQ;simp only[WU,afL h1 h2,afL h3 h4];have e:x*y=(x/4294967296*(y/4294967296))*18446744073709551616+(x/4294967296*(y%4294967296))*4294967296+(x%4294967296*(y/4294967296))*4294967296+x%4294967296*(y%4294967296):=by
  conv=>lhs;rw[show x=x/4294967296*4294967296+x%4294967296 by omega,show y=y/4294967296*4294967296+y%4294967296 by omega]
  generalize x/4294967296=a;generalize x%4294967296=b;generalize y/4294967296=c;generalize y%4294967296=d;rw[zU,xF,xF,yb,Int.mul_left_comm 4294967296 c,yb,zQ 4294967296 d,<-yb b,<-yb a d,<-yb a c];omega
 obtain⟨a0,a1⟩:=mul_lt (a:=x/4294967296) (b:=y/4294967296) (m:=4294967295) (n:=4294967295) au au au au;obtain⟨b0,b1⟩:=mul_lt (a:=x/4294967296) (b:=y%4294967296) (m:=4294967295) (n:=4294967295) au au au au;obtain⟨c0,c1⟩:=mul_lt (a:=x%4294967296) (b:=y/4294967296) (m:=4294967295) (n:=4294967295) au au au au;obtain⟨d0,d1⟩:=mul_lt (a:=x%4294967296) (b:=y%4294967296) (m:=4294967295) (n:=4294967295) au au au au;rw[e];generalize x/4294967296*(y/4294967296)=A at*;generalize x/4294967296*(y%4294967296)=B at*;generalize x%4294967296*(y/4294967296)=C at*;generalize x%4294967296*(y%4294967296)=D at*;rw[gW (n:=A),gW (n:=B),gW (n:=C),gW (n:=D),
  gW (n:=B+D/4294967296),afL au au,gW (n:=(B+D/4294967296)%4294967296+C)]
 rw[gW (n:=A+(B+D/4294967296)/4294967296),gW,Ud]
 congr 1
 omega
def auP{x y m:Int}(h1:0<=x)(h2:x<m)(h3:0<=y)(h4:y<m)(h5:m<9223372036854775808):am2 x y m=V (x*y%m):=by
 unfold am2;rw[gW h1 au,gW h3 au,gW (n:=m),atC h1 au h3 au];simp only;obtain⟨k0,k1⟩:=mul_lt (a:=x) (b:=y) (m:=m) (n:=m-1) h1 au h3 au;have hx:x*y<m*18446744073709551616:=by
  have:m*(m-1)<=m*18446744073709551615:=va au au;omega
 unfold atF;have hh:x*y/18446744073709551616<m:=wZ au hx;have hh0:0<=x*y/18446744073709551616:=au;rw[gM,lE hh0,Int.emod_eq_of_lt hh0 hh];obtain⟨q,e⟩:=ari hh0 hh au (show 0<=x*y%18446744073709551616 by omega) au;rw[e,show x*y/18446744073709551616*18446744073709551616+x*y%18446744073709551616=x*y by omega];simp only;have r0:=yX (x*y) (b:=m) au;have r1:=y6 (x*y) (b:=m) au;rw[aL]
def cz(a b:Int):Int:=((yE a b:Nat):Int)
def qY{a b:Int}(h1:0<=a)(h2:0<=b):yE b (a.tmod b)=yE a b:=by
 obtain⟨x,rfl⟩:=w9 h1;obtain⟨y,rfl⟩:=w9 h2;rw[lE h1];show Nat.gcd y ((x:Int)%(y:Int)).natAbs=Nat.gcd x y;rw[<-Int.natCast_emod,Int.natAbs_natCast,Nat.gcd_comm,<-Nat.gcd_rec,Nat.gcd_comm]
def api{a:Int}(h:0<=a):((yE a 0:Nat):Int)=a:=by
 rw[Int.gcd_zero_right];omega
def D6{x:Int}:(bif vn (x=0)then O else J)=vn (¬x=0):=by
 by_cases h:x=0
 ·rw[bX h,bW (λk=>k h)];rfl
 ·rw[bW h,bX h];rfl
def avE{a b:Int}(h1:0<=a)(h2:0<=b):IL (mH.mk a b)=V (mH.mk (yE a b) 0):=by
 obtain⟨z,e,⟨x,y,rfl,hx,hy,hg⟩,hs⟩:=mG (rnd:=uT) (λp=>∃x y,p=mH.mk x y/\0<=x/\0<=y/\yE x y=yE a b) (λp=>zq p.t1) (λp p' ⟨x,y,hp,hx,hy,hg⟩ hn=>by
  subst hp;have hn:uT (mH.mk x y)=V (V p'):=hn;simp only[uT,Gv,D6]at hn;by_cases h0:y=0
  ·rw[fD,ct]at hn;cases hn
  ·rw[bX h0,cK,bB h0]at hn;simp only[zF.injEq]at hn;subst hn;have m0:=yX x (b:=y) h0;have m1:=y6 x (b:=y) au;refine⟨⟨y,x.tmod y,rfl,hy,by rw[lE hx];exact m0,by rw[qY hx hy,hg]⟩,?_⟩;show (x.tmod y).toNat<y.toNat
   rw[lE hx];omega) ⟨a,b,rfl,h1,h2,rfl⟩
 have h0:y=0:=Decidable.byContradiction λh0=>hs _ (show uT _=V (V _)by
  simp only[uT,Gv,D6];rw[bX h0,cK,bB h0])
 subst h0;rw[show IL=bI uT from rfl,e,<-hg,api hx]
def Eo{a b:Int}(h1:0<=a)(h2:0<=b):FQ a b=V (cz a b):=by
 unfold FQ Gv;rw[avE h1 h2];rfl
def at1{a b k n:Int}{l:af Int}(h1:0<=a)(h2:0<=b):IM (mg.mk a b l n k)=V (mg.mk (yE a b) 0 l n k):=by
 obtain⟨z,e,⟨x,y,rfl,hx,hy,hg⟩,hs⟩:=mG (rnd:=uC) (λp=>∃x y,p=mg.mk x y l n k/\0<=x/\0<=y/\yE x y=yE a b) (λp=>zq p.t5) (λp p' ⟨x,y,hp,hx,hy,hg⟩ hn=>by
  subst hp;have hn:uC (mg.mk x y l n k)=V (V p'):=hn;simp only[uC,qd,D6]at hn;by_cases h0:y=0
  ·rw[fD,ct]at hn;cases hn
  ·rw[bX h0,cK,bB h0]at hn;simp only[zF.injEq]at hn;subst hn;have m0:=yX x (b:=y) h0;have m1:=y6 x (b:=y) au;refine⟨⟨y,x.tmod y,rfl,hy,by rw[lE hx];exact m0,by rw[qY hx hy,hg]⟩,?_⟩;show (x.tmod y).toNat<y.toNat
   rw[lE hx];omega) ⟨a,b,rfl,h1,h2,rfl⟩
 have h0:y=0:=Decidable.byContradiction λh0=>hs _ (show uC _=V (V _)by
  simp only[uC,qd,D6];rw[bX h0,cK,bB h0])
 subst h0;rw[show IM=bI uC from rfl,e,<-hg,api hx]
def F1{a k k1:Int}{l:af Int}(i:Nat)(h1:0<=a)(hk:k=i)(hk1:k1=i+1)(hi:i<zY l)(hl:zY l<=1000)(h2:0<=l[i]!):vv (pV.mk a l (zY l) k)=V (V (pV.mk (cz a l[i]!) l (zY l) k1)):=by
 subst hk hk1;unfold vv vL qd;simp only;rw[oV,cK,gM,zg,at1 h1 h2];simp only;rw[bX trivial,cK,ct,aL];rfl
def HB{a b:Int}(h1:0<=a)(h2:0<=b):Eg [a,b]=V (cz a b):=by
 unfold Eg vL qd;rw[show GB=bI vv from rfl,
  bP (F1 (l:=[a,b]) (k:=0) (k1:=1) 0 (zj 0) rfl rfl (by simp) (by simp) h1),bP (F1 (l:=[a,b]) (k:=1) (k1:=2) 1 (by unfold cz;omega) rfl rfl (by simp) (by simp) h2)]
 rw[cn (by intro r hr;simp[vv,vL,qd]at hr)];simp only;rw[bW (by simp),ct];show V (cz (cz 0 a) b)=_;unfold cz;rw[Int.gcd_zero_left,show ((a.natAbs:Nat):Int)=a by omega]
def GO{a b c:Int}(h1:0<=a)(h2:0<=b)(h3:0<=c):Eg [a,b,c]=V (cz (cz a b) c):=by
 unfold Eg vL qd;rw[show GB=bI vv from rfl,
  bP (F1 (l:=[a,b,c]) (k:=0) (k1:=1) 0 (zj 0) rfl rfl (by simp) (by simp) h1),bP (F1 (l:=[a,b,c]) (k:=1) (k1:=2) 1 (by unfold cz;omega) rfl rfl (by simp) (by simp) h2),
  bP (F1 (l:=[a,b,c]) (k:=2) (k1:=3) 2 (by unfold cz;omega) rfl rfl (by simp) (by simp) h3)]
 rw[cn (by intro r hr;simp[vv,vL,qd]at hr)];simp only;rw[bW (by simp),ct];show V (cz (cz (cz 0 a) b) c)=_;rw[show cz 0 a=a from by unfold cz;rw[Int.gcd_zero_left];omega]
end Go.Proofs.YtnfljbehcffmcaaGreat
end
noncomputable section
namespace Go.Iv
open Go
variable [U:EU] [L:Ec]
def OQ{α β ρ u:Type}(step:Nat->β->α->β ⊕ ρ)(out:ρ->u)(fin:β->u):af α->Nat->β->u
 |[],_,b=>fin b
 |x::xs,i,b=>match step i b x with
  | .inl b'=>OQ step out fin xs (i+1) b'
  | .inr r=>out r
def tM{α β ρ u:Type}{step:Nat->β->α->β ⊕ ρ}{out:ρ->u}{fin:β->u}{x:α}{xs:af α}{i:Nat}{b b':β}(h:step i b x= .inl b'):OQ step out fin (x::xs) i b=OQ step out fin xs (i+1) b':=by
 simp only[OQ,h]
def pU{α β ρ u:Type}{step:Nat->β->α->β ⊕ ρ}{out:ρ->u}{fin:β->u}{x:α}{xs:af α}{i:Nat}{b:β}{r:ρ}(h:step i b x= .inr r):OQ step out fin (x::xs) i b=out r:=by
 simp only[OQ,h]
def XF{γ α β ρ u:Type}[Inhabited α]{rnd:γ->aa (aa γ)}(l:af α)(mk:Nat->β->γ)(step:Nat->β->α->β ⊕ ρ)(out:ρ->u)(fin:β->u)(I:Nat->β->Prop)
  (h1:∀i b,i<zY l->I i b->(∀b',step i b l[i]! = .inl b'->rnd (mk i b)=V (V (mk (i+1) b'))/\I (i+1) b')/\∀r,step i b l[i]! = .inr r->rnd (mk i b)=V G)
  (h2:∀b,I (zY l) b->rnd (mk (zY l) b)=V G) {b:β} (hb:I 0 b):
  ∃i v,bI rnd (mk 0 b)=V (mk i v)/\I i v/\((i=zY l/\OQ step out fin l 0 b=fin v)\/(i<zY l/\∃r,step i v l[i]! = .inr r/\OQ step out fin l 0 b=out r)):=by
 have key:∀(xs:af α) (i:Nat) (b:β),l.drop i=xs->i<=zY l->I i b->∃j v,bI rnd (mk i b)=V (mk j v)/\I j v/\((j=zY l/\OQ step out fin xs i b=fin v)\/(j<zY l/\∃r,step j v l[j]! = .inr r/\OQ step out fin xs i b=out r)):=by
  intro xs;induction xs with
  |nil=>
   intro i b hd hi hb;have:i=zY l:=by have:=congrArg zY hd;simp at this;omega
   subst this;exact⟨_,b,cn (λr=>by rw[h2 b hb];simp),hb, .inl ⟨rfl,rfl⟩⟩
  |cons x xs ih=>
   intro i b hd hi hb;have hil:i<zY l:=by have:=congrArg zY hd;simp at this;omega
   have hx:l[i]! =x:=by
    have:=congrArg List.head? hd;rw[List.head?_drop,zm hil]at this;simp_all
   have hd':l.drop (i+1)=xs:=by
    have:=congrArg List.tail hd;rw[List.tail_drop]at this
    assumption
   obtain⟨p1,p2⟩:=h1 i b hil hb;cases hs:step i b x with
   |inl b'=>
    obtain⟨q1,q2⟩:=p1 b' (by rw[hx];exact hs);obtain⟨j,v,e2,e3,e4⟩:=ih (i+1) b' hd' hil q2;rw[tM hs];exact⟨j,v,by rw[bP q1];exact e2,e3,e4⟩
   |inr r=>
    rw[pU hs];exact⟨i,b,cn (λr'=>by rw[p2 r (by rw[hx];exact hs)];simp),hb, .inr ⟨hil,r,by rw[hx];exact hs,rfl⟩⟩
 exact key l 0 b rfl (yU _) hb
def bf{α:Type}[Inhabited α]{l:af α}{i:Nat}(h:i<zY l):l[i]!∈l:=by rw[getElem!_pos l i h];exact xP h
def jR{i n:Nat}(h:i<n)(hn:n<=1000000):ak ((i:Int)+1)=((i+1:Nat):Int):=by rw[aL];omega
def jq{γ β:Type}{rnd:γ->aa (aa γ)}(n:Nat)(mk:Nat->β->γ)(I S:Nat->β->Prop)
  (h1:∀i b,i<n->I i b->(∃b',rnd (mk i b)=V (V (mk (i+1) b'))/\I (i+1) b')\/(rnd (mk i b)=V G/\S i b))
  (h2:∀b,I n b->rnd (mk n b)=V G) {b:β} (hb:I 0 b):
  ∃i v,bI rnd (mk 0 b)=V (mk i v)/\I i v/\(i=n\/(i<n/\S i v)):=by
 have key:∀(k i:Nat) (b:β),i+k=n->I i b->∃j v,bI rnd (mk i b)=V (mk j v)/\I j v/\(j=n\/(j<n/\S j v)):=by
  intro k;induction k with
  |zero=>
   intro i b hi hb;have:i=n:=au;subst this;exact⟨_,b,cn (λr=>by rw[h2 b hb];simp),hb, .inl rfl⟩
  |succ k ih=>
   intro i b hi hb;rcases h1 i b au hb with ⟨b',q1,q2⟩|⟨q1,q2⟩
   ·rw[bP q1];grind
   ·exact⟨i,b,cn (λr=>by rw[q1];simp),hb, .inr ⟨au,q2⟩⟩
 simp_all
def cS{γ β:Type}{rnd:γ->aa (aa γ)}(n:Nat)(mk:Nat->β->γ)(I:Nat->β->Prop)
  (h1:∀i b,i<n->I i b->∃b',rnd (mk i b)=V (V (mk (i+1) b'))/\I (i+1) b')
  (h2:∀b,I n b->rnd (mk n b)=V G) {b:β} (hb:I 0 b):∃v,bI rnd (mk 0 b)=V (mk n v)/\I n v:=by
 obtain⟨i,v,e,hi,h⟩:=jq n mk I (λ_ _=>False) (λi b hi hb=> .inl (h1 i b hi hb)) h2 hb;rcases h with rfl|⟨_,h⟩
 ·exact⟨v,e,hi⟩
 ·simp_all
def cu{α:Type}(c:Nat->α->Int):af α->Nat->Int
 |[],_=>0
 |x::xs,i=>if c i x=0 then cu c xs (i+1)else c i x
def ux{γ α:Type}[Inhabited α]{rnd:γ->aa (aa γ)}(l:af α)(mk:Nat->γ)(c:Nat->α->Int)
  (h1:∀i,i<zY l->(c i l[i]! =0->rnd (mk i)=V (V (mk (i+1))))/\(c i l[i]!≠0->rnd (mk i)=V G))
  (h2:rnd (mk (zY l))=V G):
  ∃i,bI rnd (mk 0)=V (mk i)/\((i=zY l/\cu c l 0=0)\/(i<zY l/\c i l[i]!≠0/\cu c l 0=c i l[i]!)):=by
 have key:∀(xs:af α) (i:Nat),l.drop i=xs->i<=zY l->∃j,bI rnd (mk i)=V (mk j)/\((j=zY l/\cu c xs i=0)\/(j<zY l/\c j l[j]!≠0/\cu c xs i=c j l[j]!)):=by
  intro xs;induction xs with
  |nil=>
   intro i hd hi;have:i=zY l:=by have:=congrArg zY hd;simp at this;omega
   subst this;exact⟨_,cn (λr=>by rw[h2];simp), .inl ⟨rfl,rfl⟩⟩
  |cons x xs ih=>
   intro i hd hi;have hil:i<zY l:=by have:=congrArg zY hd;simp at this;omega
   have hx:l[i]! =x:=by
    have:=congrArg List.head? hd;rw[List.head?_drop,zm hil]at this;simp_all
   have hd':l.drop (i+1)=xs:=by
    have:=congrArg List.tail hd;rw[List.tail_drop]at this
    assumption
   obtain⟨p1,p2⟩:=h1 i hil;unfold cu;rw[hx]at p1 p2;by_cases hc:c i x=0
   ·rw[bB hc,bP (p1 hc)];exact ih (i+1) hd' hil
   ·rw[bL hc];exact⟨i,cn (λr=>by rw[p2 hc];simp), .inr ⟨hil,by rw[hx];exact hc,by rw[hx]⟩⟩
 exact key l 0 rfl (yU _)
def oy{γ α:Type}[Inhabited α]{rnd:γ->aa (aa γ)}(l:af α)(mk:Nat->γ)(c:Nat->α->Bool)
  (h1:∀i,i<zY l->(c i l[i]! =J->rnd (mk i)=V (V (mk (i+1))))/\(c i l[i]! =O->rnd (mk i)=V G))
  (h2:rnd (mk (zY l))=V G):
  ∃i,bI rnd (mk 0)=V (mk i)/\((i=zY l/\∀j,j<zY l->c j l[j]! =J)\/(i<zY l/\c i l[i]! =O)):=by
 obtain⟨i,v,e,hI,h⟩:=jq (β:=Unit) (rnd:=rnd) (zY l) (λi _=>mk i) (λi _=>∀j,j<i->c j l[j]! =J) (λi _=>c i l[i]! =O) (λi b hi hI=>by
   obtain⟨p1,p2⟩:=h1 i hi;cases hc:c i l[i]! with
   |true=>exact .inl ⟨(),p1 hc,λj hj=>by
     rcases xk.1 hj with h|h
     ·exact hI j h
     ·subst h;exact hc⟩
   |false=>exact .inr ⟨p2 hc,rfl⟩) (λb _=>h2) (b:=()) (λj hj=>dS hj au)
 refine⟨i,e,?_⟩;rcases h with h|h
 ·subst h;exact .inl ⟨rfl,hI⟩
 ·exact .inr h
def Gd{α:Type}[Inhabited α]{l:af α}{p:α->Bool}(h:∀j,j<zY l->p l[j]! =J):l.all p=J:=by
 rw[zw];intro x hx;obtain⟨i,hi,e⟩:=xd hx;have:=h i hi;simp_all
def Bv{α:Type}[Inhabited α]{l:af α}{p:α->Bool}{i:Nat}(hi:i<zY l)(h:p l[i]! =O):l.all p=O:=by
 cases ha:l.all p with
 |false=>rfl
 |true=>
  rw[zw]at ha;rw[ha _ (bf hi)]at h;omega
def BJ{α:Type}[Inhabited α]{l:af α}{p:α->Bool}(h:∀j,j<zY l->p l[j]! =O):l.any p=O:=by
 cases ha:l.any p with
 |false=>rfl
 |true=>
  obtain⟨x,hx,e⟩:=wN.1 ha;obtain⟨i,hi,e2⟩:=xd hx;have:=h i hi;rw[getElem!_pos l i hi,e2,e]at this;omega
def MQ{α:Type}[Inhabited α]{l:af α}{p:α->Bool}{i:Nat}(hi:i<zY l)(h:p l[i]! =J):l.any p=J:=
 wN.2 ⟨_,bf hi,h⟩
def bE{α:Type}[Inhabited α]{l:af α}{i:Nat}(h:i<zY l):l.take (i+1)=l.take i++[l[i]!]:=by
 rw[getElem!_pos l i h];simp
end Go.Iv
end
noncomputable section
set_option maxRecDepth 100000
namespace Go.Proofs.YtnfljbehcffmcaaGreat
open Go Go.Iv
open Go.IntKind (i64 u64)
def cM:aK:=aK.mk 1 0 0
structure NN (a:aK):Prop where
 lo: -1099511627776<=a.ah
 hi:a.ag<=1099511627776
 le:a.ah<=a.ag
 st:(a.ah=a.ag/\a.aj=0)\/(a.ah<a.ag/\1<=a.aj/\(a.ag-a.ah)%a.aj=0)
def NV(a:aK):Prop:=a=cM\/NN a
def NN.s0{a:aK}(h:NN a):0<=a.aj:=by rcases h.st with ⟨_,h⟩|⟨_,h,_⟩<;>omega
def NN.dvd{a:aK}(h:NN a):a.aj∣a.ag-a.ah:=by
 rcases h.st with ⟨h1,h2⟩|⟨_,_,h3⟩
 ·simp_all
 ·omega
def NN.sle{a:aK}(h:NN a):a.aj<=a.ag-a.ah:=by
 rcases h.st with ⟨h1,h2⟩|⟨h1,_,h3⟩
 ·omega
 ·exact Int.le_of_dvd au (ve h3)
def NN.ne{a:aK}(h:NN a):a≠cM:=λe=>by
 have:=h.le;rw[e]at this;exact dS this (by decide)
def EA{a b:aK}(h1:a.ah=b.ah)(h2:a.ag=b.ag)(h3:a.aj=b.aj):a=b:=by
 cases a;cases b;simp only at h1 h2 h3;subst h1 h2 h3;rfl
def eC(x:Int):aK:=aK.mk x x 0
def NN.one{x:Int}(h1: -1099511627776<=x)(h2:x<=1099511627776):NN (eC x):=⟨h1,h2,zj _, .inl ⟨rfl,rfl⟩⟩
structure dz (P:Int->Prop) (c:aK):Prop where
 lo:P c.ah
 hi:P c.ag
 all:∀x,P x->c.ah<=x/\x<=c.ag/\c.aj∣x-c.ah
 nn:0<=c.aj
 best:∀d,(∀x,P x->d∣x-c.ah)->d∣c.aj
def dz.uniq{P:Int->Prop}{c d:aK}(h:dz P c)(k:dz P d):c=d:=by
 have e1:c.ah=d.ah:=Int.le_antisymm (h.all _ k.lo).1 (k.all _ h.lo).1;have e2:c.ag=d.ag:=Int.le_antisymm (k.all _ h.hi).2.1 (h.all _ k.hi).2.1;refine EA e1 e2 (Int.dvd_antisymm h.nn k.nn (k.best _ λx hx=>by rw[<-e1];exact(h.all x hx).2.2) (h.best _ λx hx=>by rw[e1];exact(k.all x hx).2.2))
def dz.congr{P Q:Int->Prop}{c:aK}(h:dz P c)(k:∀x,P x↔Q x):dz Q c:=
 ⟨(k _).mp h.lo,(k _).mp h.hi,λx hx=>h.all x ((k x).mpr hx),h.nn,λd hd=>h.best d λx hx=>hd x ((k x).mp hx)⟩
def dz.valid{P:Int->Prop}{c:aK}(h:dz P c)(hP:∀x,P x-> -1099511627776<=x/\x<=1099511627776):NN c:=by
 have h1:=hP _ h.lo;have h2:=hP _ h.hi;obtain⟨h3,_,h4⟩:=h.all _ h.hi;refine⟨h1.1,h2.2,h3,?_⟩;have h5:=h.nn;rcases Int.lt_or_eq_of_le h3 with h6|h6
 ·refine .inr ⟨h6,?_,Int.emod_eq_zero_of_dvd h4⟩;rcases Int.lt_or_eq_of_le h5 with h7|h7
  ·omega
  ·rw[<-h7]at h4;omega
 ·refine .inl ⟨h6,?_⟩;have:=h.best 0 λx hx=>by
   obtain⟨a1,a2,_⟩:=h.all x hx;grind
  omega
def bR(a:aK)(x:Int):Prop:=a.ah<=x/\x<=a.ag/\a.aj∣x-a.ah
def NN.ga{a:aK}(h:NN a):dz (bR a) a:=by
 refine⟨⟨zj _,h.le,⟨0,au⟩⟩,⟨h.le,zj _,h.dvd⟩,λx hx=>hx,h.s0,λd hd=> ?_⟩;rcases h.st with ⟨h1,h2⟩|⟨h1,h2,h3⟩
 ·simp_all
 ·have:=hd (a.ah+a.aj) ⟨au,by have:=h.sle;omega,⟨1,au⟩⟩;grind
def F9(x:Int):dz (· =x) (eC x):=
 ⟨rfl,rfl,λy hy=>⟨Int.le_of_eq hy.symm,Int.le_of_eq hy,⟨0,by rw[hy];simp[eC]⟩⟩,zj _,λd _=>xM d⟩
def kI(a b:Int):cz a b∣a:=Int.gcd_dvd_left ..
def rY(a b:Int):cz a b∣b:=Int.gcd_dvd_right ..
def jx{d a b:Int}(h1:d∣a)(h2:d∣b):d∣cz a b:=Int.dvd_coe_gcd h1 h2
def lZ(a b:Int):0<=cz a b:=by unfold cz;omega
def gcd_neg(a b:Int):cz a (-b)=cz a b:=by unfold cz;rw[Int.gcd_neg]
def jn(a b:aK):aK:=aK.mk (min a.ah b.ah) (max a.ag b.ag) (cz (cz a.aj b.aj) (a.ah-b.ah))
def cF(a b:aK):aK:=open Classical in if a=cM then b else if b=cM then a else jn a b
def dz.join{P Q:Int->Prop}{a b:aK}(h:dz P a)(k:dz Q b):dz (λx=>P x\/Q x) (jn a b):=by
 have g1:cz (cz a.aj b.aj) (a.ah-b.ah)∣a.aj:=zZ (kI _ _) (kI _ _);have g2:cz (cz a.aj b.aj) (a.ah-b.ah)∣b.aj:=zZ (kI _ _) (rY _ _);have g3:cz (cz a.aj b.aj) (a.ah-b.ah)∣a.ah-b.ah:=rY _ _;refine⟨?_,?_,λx hx=> ?_,lZ _ _,λd hd=> ?_⟩
 ·show P (min a.ah b.ah)\/Q (min a.ah b.ah);rcases Int.le_total a.ah b.ah with e|e
  ·rw[Int.min_eq_left e];exact .inl h.lo
  ·rw[Int.min_eq_right e];exact .inr k.lo
 ·show P (max a.ag b.ag)\/Q (max a.ag b.ag);rcases Int.le_total a.ag b.ag with e|e
  ·rw[Int.max_eq_right e];exact .inr k.hi
  ·rw[Int.max_eq_left e];exact .inl h.hi
 ·show min a.ah b.ah<=x/\x<=max a.ag b.ag/\cz (cz a.aj b.aj) (a.ah-b.ah)∣x-min a.ah b.ah;have both:cz (cz a.aj b.aj) (a.ah-b.ah)∣x-a.ah/\cz (cz a.aj b.aj) (a.ah-b.ah)∣x-b.ah:=by
   rcases hx with hx|hx
   ·have e:=zZ g1 (h.all x hx).2.2;have:=yZ e g3;grind
   ·have e:=zZ g2 (k.all x hx).2.2;have:=yz e g3;grind
  refine⟨?_,?_,?_⟩
  ·rcases hx with hx|hx
   ·have:=(h.all x hx).1;omega
   ·have:=(k.all x hx).1;omega
  ·rcases hx with hx|hx
   ·have:=(h.all x hx).2.1;omega
   ·have:=(k.all x hx).2.1;omega
  ·grind
 ·show d∣cz (cz a.aj b.aj) (a.ah-b.ah);have d1:=hd _ (.inl h.lo);have d2:=hd _ (.inr k.lo);refine jx (jx (h.best d λx hx=> ?_) (k.best d λx hx=> ?_)) ?_
  ·have:=yz (hd x (.inl hx)) d1;grind
  ·have:=yz (hd x (.inr hx)) d2;grind
  ·have:=yz d1 d2;grind
def gG{a b:aK}(h:NN a)(k:NN b):cF a b=jn a b:=by
 unfold cF;rw[bL h.ne,bL k.ne]
def Ik{b:aK}:cF cM b=b:=by unfold cF;rw[bB rfl]
def Bi{a:aK}:cF a cM=a:=by
 unfold cF;simp_all
def mq{a b:aK}(h:NN a)(k:NN b):NN (jn a b):=(h.ga.join k.ga).valid λx hx=>by
 have:=h.lo;have:=h.hi;have:=k.lo;have:=k.hi
 rcases hx with ⟨h1,h2,_⟩|⟨h1,h2,_⟩<;>omega
def eW{a b:aK}(h:NV a)(k:NV b):NV (cF a b):=by
 rcases h with rfl|h
 ·assumption
 ·rcases k with rfl|k
  ·rw[Bi];exact .inr h
  ·rw[gG h k];exact .inr (mq h k)
def YG{a:aK}(h:NN a):jn a a=a:=
 ((h.ga.join h.ga).congr (λx=>⟨λk=>k.elim id id, .inl⟩)).uniq h.ga
def J9(a:aK):(bif vn (a.ah=a.ah)then bif vn (a.ag=a.ag)then bif vn (a.aj=a.aj)then J else O else O else O)=J:=by
 simp
def JQ{a b:aK}(h:a≠b):(bif vn (a.ah=b.ah)then bif vn (a.ag=b.ag)then bif vn (a.aj=b.aj)then J else O else O else O)=O:=by
 by_cases h1:a.ah=b.ah
 ·by_cases h2:a.ag=b.ag
  ·by_cases h3:a.aj=b.aj
   ·exact dS (EA h1 h2 h3) h
   ·rw[bX h1,bX h2,bW h3];rfl
  ·rw[bX h1,bW h2];rfl
 ·rw[bW h1];rfl
def kT:fB cM=J:=J9 cM
def eM{a:aK}(h:a≠cM):fB a=O:=JQ (b:=cM) h
def vJ:l6 cM=J:=rfl
def iu{a:aK}(h:NN a):l6 a=O:=bW (by have:=h.le;omega)
def kF(x:Int):jy x=vn (-1099511627776<=x/\x<=1099511627776):=by
 unfold jy;simp
def Am(x:Int):sF x=vn (-1099511627776<=x/\x<=1099511627776):=kF x
def Z2(a:aK):Bool:=open Classical in vn (NV a)
def XY{a:aK}:Z2 a=J↔NV a:=by unfold Z2;exact @decide_eq_true_iff _ (Classical.propDecidable _)
def dZ{a:aK}(h:NV a):Z2 a=J:=XY.mpr h
def AB{a:aK}(h:¬NV a):Z2 a=O:=by
 cases e:Z2 a with
 |false=>rfl
 |true=>exact dS (XY.mp e) h
def Yf{a:aK}(h0:a≠cM):(match bif bif jy a.ah then O else J then V J else bif bif jy a.ag then O else J then V J else V (vn (a.ag<a.ah))with|G=>G|V r1=>bif r1 then V O else bif vn (a.ah=a.ag)then V (vn (a.aj=0))else match bif vn (1<=a.aj)then if¬a.aj=(0:Int)then V (vn ((ak (a.ag-a.ah)).tmod a.aj=0))else G else V O with|G=>G|V r2=>V r2)=V (Z2 a):=by
 rw[kF,kF];by_cases h1: -1099511627776<=a.ah/\a.ah<=1099511627776
 ·by_cases h2: -1099511627776<=a.ag/\a.ag<=1099511627776
  ·by_cases h3:a.ag<a.ah
   ·rw[bX h1,bX h2,bX h3,AB (λk=>by rcases k with k|k;exact h0 k;have:=k.le;omega)];rfl
   ·rw[bX h1,bX h2,bW h3];simp only[cD];by_cases h4:a.ah=a.ag
    ·rw[bX h4,cK];by_cases h5:a.aj=0
     ·rw[bX h5,dZ (.inr ⟨h1.1,h2.2,au, .inl ⟨h4,h5⟩⟩)]
     ·rw[bW h5,AB (λk=>by rcases k with k|k;exact h0 k;rcases k.st with k|k<;>omega)]
    ·rw[bW h4,ct];by_cases h5:1<=a.aj
     ·rw[bX h5,cK,gM,aL,lE];by_cases h6:(a.ag-a.ah)%a.aj=0
      ·rw[bX h6,dZ (.inr ⟨h1.1,h2.2,au, .inr ⟨au,h5,h6⟩⟩)]
      ·rw[bW h6,AB (λk=>by rcases k with k|k;exact h0 k;rcases k.st with k|k;omega;exact h6 k.2.2)]
     ·rw[bW h5,ct];rw[AB (λk=>by rcases k with k|k;exact h0 k;rcases k.st with k|k<;>omega)]
  ·rw[bX h1,bW h2,AB (λk=>by rcases k with k|k;exact h0 k;have:=k.lo;have:=k.hi;have:=k.le;omega)];rfl
 ·rw[bW h1,AB (λk=>by rcases k with k|k;exact h0 k;have:=k.lo;have:=k.hi;have:=k.le;omega)];rfl
def eV(a:aK):Bb a=V (Z2 a):=by
 unfold Bb;by_cases h0:a=cM
 ·subst h0;rw[kT,cK,dZ (.inl rfl)]
 ·rw[eM h0,ct];exact Yf h0
def fW(a:aK):m84 a=V (Z2 a):=by
 unfold m84;by_cases h0:a=cM
 ·subst h0;rw[show sN=cM from rfl,J9,cK,dZ (.inl rfl)]
 ·rw[show sN=cM from rfl,JQ h0,ct,<-Yf h0,show sF=jy from rfl,kF,kF];by_cases h1: -1099511627776<=a.ah/\a.ah<=1099511627776
  ·by_cases h2: -1099511627776<=a.ag/\a.ag<=1099511627776
   ·rw[bX h1,bX h2];simp only[cK];by_cases h3:a.ag<a.ah
    ·rw[bW (show ¬a.ah=a.ag by omega),bX h3,bW (show ¬a.ah<a.ag by omega)];rfl
    ·rw[bW h3,ct];by_cases h4:a.ah=a.ag
     ·rw[bX h4];rfl
     ·rw[bW h4,ct,ct,bX (show a.ah<a.ag by omega),cK]<;>rfl
   ·rw[bX h1,bW h2];rfl
  ·rw[bW h1];rfl
def bY(a:aK):Int:=open Classical in if a=cM then 0 else if a.aj=0 then 1 else(a.ag-a.ah)/a.aj+1
def wsz{a:aK}(h:NN a)(h0:a.aj≠0):ak (ak ((ak (a.ag-a.ah)).tdiv a.aj)+1)=(a.ag-a.ah)/a.aj+1:=by
 have:=h.lo;have:=h.hi;have:=h.le;have:=h.s0
 have q0:0<=(a.ag-a.ah)/a.aj:=zS au au;have q1:(a.ag-a.ah)/a.aj<=a.ag-a.ah:=yl _ au;rw[aL (n:=a.ag-a.ah),kM,aL (n:=(a.ag-a.ah)/a.aj),aL]
def lR{a:aK}(h:NV a):Cm a=V (bY a):=by
 unfold Cm bY;rcases h with rfl|h
 ·rfl
 ·rw[eM h.ne,bL h.ne,ct];by_cases h0:a.aj=0
  ·rw[bX h0,bB h0];rfl
  ·rw[bW h0,bL h0,ct,bB h0,wsz h h0]
def eE{a:aK}(h:NV a):Eh a=V (bY a):=by
 unfold Eh bY;rw[fW,dZ h];simp only[cD];rcases h with rfl|h
 ·rfl
 ·rw[iu h,bL h.ne,ct];by_cases h0:a.aj=0
  ·rw[bX h0,bB h0];rfl
  ·rw[bW h0,bL h0,ct,bB h0,wsz h h0]
def alk{a:aK}(h:¬NV a):Eh a=V 0:=by
 unfold Eh;rw[fW,AB h];rfl
def si{a:aK}(h:NV a):YH a=V (bY a):=by
 unfold YH;rw[eV,dZ h];simp only[cD];rw[lR h]
def amO{a:aK}(h:¬NV a):YH a=V 0:=by
 unfold YH;rw[eV,AB h];rfl
def cR(a:aK)(x:Int):Bool:=open Classical in vn (bR a x)
def oS{a:aK}{x:Int}:cR a x=J↔bR a x:=by unfold cR;exact @decide_eq_true_iff _ (Classical.propDecidable _)
def jH{a:aK}{x:Int}(h:¬bR a x):cR a x=O:=by
 cases e:cR a x with
 |false=>rfl
 |true=>exact dS (oS.mp e) h
def nX{a:aK}{x:Int}(h:bR a x):cR a x=J:=oS.mpr h
def Em{x:Int}:¬bR cM x:=λh=>by
 obtain⟨h1,h2,_⟩:=h;have h1:(1:Int)<=x:=h1;have h2:x<=0:=h2;omega
def Ov{a:aK}(h:NN a)(x:Int)(h1:a.ah<=x)(h2:x<=a.ag):(match bif vn (a.aj=0)then V J else if¬a.aj=(0:Int)then V (vn ((ak (x-a.ah)).tmod a.aj=0))else G with|G=>G|V r2=>V r2)=V (cR a x):=by
 have:=h.lo;have:=h.hi
 by_cases h0:a.aj=0
 ·rw[bX h0,cK,nX ⟨h1,h2,by rcases h.st with k|k;(rw[h0];exact⟨0,au⟩);omega⟩]
 ·rw[bW h0,ct,bB h0,aL,lE];by_cases k:(x-a.ah)%a.aj=0
  ·rw[bX k,nX ⟨h1,h2,ve k⟩]
  ·rw[bW k,jH (λe=>k (Int.emod_eq_zero_of_dvd e.2.2))]
def ME{a:aK}(h:NV a)(x:Int):Ze a x=V (cR a x):=by
 unfold Ze;rcases h with rfl|h
 ·rw[kT,jH Em];rfl
 ·rw[eM h.ne,ct];by_cases h1:x<a.ah
  ·rw[bX h1,jH (λk=>by have:=k.1;omega)];rfl
  ·by_cases h2:a.ag<x
   ·rw[bW h1,bX h2,jH (λk=>by have:=k.2.1;omega)];rfl
   ·rw[bW h1,bW h2];exact Ov h x au au
def jV{a:aK}(h:NV a)(x:Int):m32 a x=V (cR a x):=by
 unfold m32;rw[fW,dZ h];rcases h with rfl|h
 ·by_cases h1:x<1
  ·rw[show cM.ah=1 from rfl,bX h1,jH Em];rfl
  ·rw[show cM.ah=1 from rfl,show cM.ag=0 from rfl,bW h1,bX (show 0<x by omega),jH Em];rfl
 ·by_cases h1:x<a.ah
  ·rw[bX h1,jH (λk=>by have:=k.1;omega)];rfl
  ·by_cases h2:a.ag<x
   ·rw[bW h1,bX h2,jH (λk=>by have:=k.2.1;omega)];rfl
   ·rw[bW h1,bW h2];exact Ov h x au au
def qM{a:aK}(h:NV a)(x:Int):m92 a x=V (cR a x):=by
 unfold m92;rw[eV,dZ h];simp only[cK];rw[ME h]
def jP(lo hi st:Int):aK:=if hi<lo then cM else if st=0 then eC lo else if lo=lo+(hi-lo)/st*st then eC lo else aK.mk lo (lo+(hi-lo)/st*st) st
def aqE{lo hi st:Int}(h1: -2305843009213693952<=lo)(h2:hi<=2305843009213693952)(h3:lo<=hi)(h4:1<=st):ak (lo+ak (ak ((ak (hi-lo)).tdiv st)*st))=lo+(hi-lo)/st*st:=by
 have q0:0<=(hi-lo)/st:=zS au au;have q1:(hi-lo)/st<=hi-lo:=yl _ au;have q2:(hi-lo)/st*st<=hi-lo:=xo _ au;have q3:0<=(hi-lo)/st*st:=zJ q0 au;rw[aL (n:=hi-lo),kM,aL (n:=(hi-lo)/st),aL (n:=(hi-lo)/st*st),aL]
def pK{lo hi st:Int}(h1: -2305843009213693952<=lo)(h2:hi<=2305843009213693952)(h4:0<=st):oA lo hi st=V (jP lo hi st):=by
 unfold oA jP;by_cases c1:hi<lo
 ·rw[bX c1,bB c1];rfl
 ·rw[bW c1,bL c1,ct];by_cases c2:st=0
  ·rw[bX c2,bB c2];rfl
  ·rw[bW c2,bL c2,ct,bB c2,aqE h1 h2 au au];by_cases c3:lo=lo+(hi-lo)/st*st
   ·rw[bX c3,bB c3];rfl
   ·simp_all
def nc{lo hi st:Int}(h1: -1099511627776<=lo/\lo<=1099511627776)(h2: -1099511627776<=hi/\hi<=1099511627776)(h4:1<=st):j4 lo hi st=V (jP lo hi st,0):=by
 unfold j4 jP;rw[Am,Am,bX h1,bX h2,bW (show ¬st<1 by omega)];by_cases c1:hi<lo
 ·rw[bX c1,bB c1];rfl
 ·rw[bW c1,bL c1,ct,bL (show ¬st=0 by omega),gM,aqE au au au h4];by_cases c3:lo=lo+(hi-lo)/st*st
  ·rw[<-c3,bX rfl,bB rfl];rfl
  ·simp_all
def Qx{lo hi st:Int}(h1:lo<=hi)(h2:0<=st)(h3:st∣hi-lo)(h4:lo=hi->st=0):jP lo hi st=aK.mk lo hi st:=by
 unfold jP;rw[qZ];by_cases c:st=0
 ·rw[bB c];subst c;unfold eC;rw[show hi=lo by omega]
 ·rw[bL c,wm h3,show lo+(hi-lo)=hi by omega,bL (λe=>c (h4 e))]
def nh{lo hi st:Int}(h1: -1099511627776<=lo)(h2:hi<=1099511627776)(h3:lo<=hi)(h4:0<=st):NN (jP lo hi st):=by
 unfold jP;rw[qZ];by_cases c:st=0
 ·rw[bB c];exact NN.one h1 au
 ·rw[bL c];have q0:0<=(hi-lo)/st:=zS au au;have q2:(hi-lo)/st*st<=hi-lo:=xo _ au;have q3:0<=(hi-lo)/st*st:=zJ q0 au;by_cases c3:lo=lo+(hi-lo)/st*st
  ·rw[bB c3];exact NN.one h1 au
  ·rw[bL c3];refine⟨h1,by show lo+(hi-lo)/st*st<=_;omega,by show lo<=lo+(hi-lo)/st*st;omega, .inr ⟨by show lo<lo+(hi-lo)/st*st;omega,by show 1<=st;omega,?_⟩⟩;rw[show lo+(hi-lo)/st*st-lo=(hi-lo)/st*st by omega];simp
def OR{lo hi st x:Int}(h3:lo<=hi)(h4:1<=st):bR (jP lo hi st) x↔lo<=x/\x<=hi/\st∣x-lo:=by
 unfold jP;rw[qZ,qZ];have q2:(hi-lo)/st*st<=hi-lo:=xo _ au;have q4:=vf (hi-lo) (show 0<st by omega);rw[zU,yc]at q4;by_cases c3:lo=lo+(hi-lo)/st*st
 ·rw[bB c3];constructor
  ·rintro⟨k1,k2,_⟩;have k1:lo<=x:=k1;have k2:x<=lo:=k2;exact⟨k1,au,⟨0,au⟩⟩
  ·rintro⟨k1,k2,k3⟩;have e:x-lo=0:=Decidable.byContradiction λh=>dS (Int.le_of_dvd au k3) au;exact⟨k1,by show x<=lo;omega,by show 0∣x-lo;rw[e];exact⟨0,rfl⟩⟩
 ·rw[bL c3];constructor
  ·rintro⟨k1,k2,k3⟩;have k2:x<=lo+(hi-lo)/st*st:=k2;exact⟨k1,au,k3⟩
  ·rintro⟨k1,k2,k3⟩;refine⟨k1,?_,k3⟩;show x<=lo+(hi-lo)/st*st;obtain⟨q,hq⟩:=k3;rw[zQ]at hq;have:q<(hi-lo)/st+1:=wO (a:=st) (by rw[zU,yc];omega) au;have:q*st<=(hi-lo)/st*st:=zN au au;omega
def Pn(g x v:Int)(hx: -1099511627776<=x/\x<=1099511627776)(hv: -1099511627776<=v/\v<=1099511627776):(0:Int)<=jO x v/\cz g (jO x v)=cz g (x-v):=by
 unfold jO;by_cases c:x<v
 ·rw[bX c,cK,aL];exact⟨au,by rw[<-gcd_neg,show-(v-x)=x-v by omega]⟩
 ·rw[bW c,ct,aL];omega
def dz.snoc{P:Int->Prop}{c:aK}{v:Int}(h:dz P c)(hv:P v)(x:Int):dz (λy=>P y\/y=x) (aK.mk (min c.ah x) (max c.ag x) (cz c.aj (x-v))):=by
 have e:cz (cz c.aj 0) (c.ah-x)=cz c.aj (x-v):=by
  have d:=(h.all v hv).2.2;refine Int.dvd_antisymm (lZ _ _) (lZ _ _) (jx (zZ (kI _ _) (kI _ _)) ?_) (jx (jx (kI _ _) (xM _)) ?_)
  ·have k1:cz (cz c.aj 0) (c.ah-x)∣c.ah-x:=rY _ _;have k2:cz (cz c.aj 0) (c.ah-x)∣v-c.ah:=zZ (zZ (kI _ _) (kI _ _)) d;have:=Int.dvd_neg.mpr (yZ k1 k2)
   rwa [show-(c.ah-x+(v-c.ah))=x-v by omega]at this
  ·have k1:cz c.aj (x-v)∣x-v:=rY _ _;have k2:cz c.aj (x-v)∣v-c.ah:=zZ (kI _ _) d;have:=Int.dvd_neg.mpr (yZ k1 k2)
   rwa [show-(x-v+(v-c.ah))=c.ah-x by omega]at this
 have:=h.join (F9 x);unfold jn eC at this;simp_all
def cC(x:Int):Prop:= -1099511627776<=x/\x<=1099511627776
instance (x:Int):Decidable (cC x):=inferInstanceAs (Decidable (_/\_))
def Gt(x:Int):sF x=vn (cC x):=Am x
def arI{l:af Int}{b0 c:aK}(i:Nat)(hi:i+1<zY l)(hl:zY l<=1000000)(hr:∀x∈l,cC x)(hc:dz (· ∈l.take (i+1)) c):
  ∃c',uN (jd.mk l (i+1:Nat) b0 c)=V (V (jd.mk l (i+1+1:Nat) b0 c'))/\dz (· ∈l.take (i+1+1)) c':=by
 have hx:cC l[i+1]! :=hr _ (bf hi);have h0:cC l[0]! :=hr _ (bf au);have hm:l[0]!∈l.take (i+1):=by
  have:(l.take (i+1))[0]! =l[0]! :=by
   rw[getElem!_pos _ 0 (by rw[zD];omega),getElem!_pos l 0 au,xK]
  rw[<-this];exact bf (by rw[zD];omega)
 have hs:=hc.snoc hm l[i+1]!;obtain⟨g0,g1⟩:=Pn c.aj l[i+1]! l[0]! hx h0;refine⟨_,?_,hs.congr λy=> ?_⟩
 ·unfold uN Hi;simp only;rw[oV,cK,gM,gM,zg,Eo hc.nn g0,g1];simp only;rw[aL,show ((i+1:Nat):Int)+1=((i+1+1:Nat):Int)by omega];have hci:(0:Int)<=((i+1:Nat):Int)/\((i+1:Nat):Int)<(zY l:Int):=au;by_cases c1:l[i+1]! <c.ah
  ·rw[Int.min_eq_right au];by_cases c2:c.ag<l[i+1]!
   ·have:=(hc.all _ hc.lo).2.1;omega
   ·rw[Int.max_eq_left au];simp only[cD,bX c1,bW c2,bB hci]
  ·rw[Int.min_eq_left au];by_cases c2:c.ag<l[i+1]!
   ·rw[Int.max_eq_right au];simp only[cD,bW c1,bX c2,bB hci]
   ·rw[Int.max_eq_left au];simp only[bW c1,bW c2,bB hci,ct]
 ·rw[bE (i:=i+1) hi,zP,zo]
def M7{l:af Int}(hn:l≠[])(hl:zY l<=1000000)(hr:∀x∈l,cC x):∃c,aaG l=V (c,0)/\dz (· ∈l) c:=by
 have hp:0<zY l:=wH.mpr hn;obtain⟨c,e1,hc⟩:=cS (rnd:=uN) (zY l-1) (λi (c:aK)=>jd.mk l (i+1:Nat) (aK.mk 0 0 0) c) (λi c=>dz (· ∈l.take (i+1)) c)
  (λi c hi hI=>arI i au hl hr hI)
  (λc hI=>by
   unfold uN Hi;simp only;rw[fD];rfl) (b:=eC l[0]!) ((F9 l[0]!).congr λx=>by
   rw[bE hp];simp)
 have e0:bI Cq (nw.mk l 0 (aK.mk 0 0 0))=V (nw.mk l (zY l:Nat) (aK.mk 0 0 0)):=Ox (rnd:=Cq) (λi=>nw.mk l (i:Nat) (aK.mk 0 0 0)) (zY l) (λi hi=>by
  unfold Cq HQ;simp only;rw[oV,cK,gM,zg,Gt,bX (hr _ (bf hi)),jR hi hl];rfl) (λr=>by
  unfold Cq HQ;simp only;rw[fD];intro h;cases h)
 refine⟨c,?_,hc.congr λx=>by rw[show zY l-1+1=zY l by omega,zy]⟩;unfold aaG HQ Hi;rw[show Ma=bI Cq from rfl,e0];simp only;rw[fD,ct,fD,ct,gM,gM];have e1:bI uN (jd.mk l 1 (aK.mk 0 0 0) (aK.mk l[0]! l[0]! 0))=V (jd.mk l ((zY l-1+1:Nat):Int) (aK.mk 0 0 0) c):=e1;rw[show LP=bI uN from rfl,e1];simp only;rw[fD];rfl
def NN.um{a:aK}(h:NN a):cC a.ah:=⟨h.lo,by have:=h.le;have:=h.hi;omega⟩
def NN.DO{a:aK}(h:NN a):cC a.ag:=⟨by have:=h.le;have:=h.lo;omega,h.hi⟩
def NR{x:Int}(h1: -2199023255552<=x)(h2:x<=2199023255552):(0:Int)<=j8 x/\((j8 x:Int)=x\/(j8 x:Int)= -x):=by
 unfold j8;rw[aL (n:=0-x)];by_cases c:x<0-x
 ·rw[bB c];exact⟨au, .inr (show (0:Int)-x= -x by omega)⟩
 ·rw[bL c];exact⟨au, .inl rfl⟩
def abG(g:Int){x:Int}(h1: -2199023255552<=x)(h2:x<=2199023255552):cz g (j8 x)=cz g x:=by
 rcases (NR h1 h2).2 with e|e
 ·rw[e]
 ·rw[e,gcd_neg]
def kg{a b:aK}(ha:NV a)(hb:NV b):pT a b=V (cF a b):=by
 unfold pT;rcases ha with rfl|ha
 ·rfl
 rw[eM ha.ne,ct];rcases hb with rfl|hb
 ·rw[kT,Bi];rfl
 rw[eM hb.ne,ct];by_cases e:a=b
 ·subst e;rw[J9,gG ha ha,YG ha];rfl
 ·rw[JQ e];have:=ha.lo;have:=ha.hi;have:=ha.le;have:=hb.lo;have:=hb.hi;have:=hb.le
  rw[aL (n:=a.ah-b.ah),GO ha.s0 hb.s0 (NR au au).1,abG _ au au];simp only;rw[show (if b.ah<a.ah then b.ah else a.ah)=min a.ah b.ah by split<;>omega,show (if a.ag<b.ag then b.ag else a.ag)=max a.ag b.ag by split<;>omega,pK au au (lZ _ _)];have hj:=mq ha hb;rw[gG ha hb];exact congrArg some (Qx hj.le hj.s0 hj.dvd (λk=>by rcases hj.st with h|h;exact h.2;exact dS k (Int.ne_of_lt h.1)))
def gA{a b:aK}(ha:NV a)(hb:NV b):nv a b=V (cF a b):=by
 unfold nv;rcases ha with rfl|ha
 ·rfl
 rw[iu ha,ct];rcases hb with rfl|hb
 ·rw[vJ,Bi];rfl
 rw[iu hb,ct];obtain⟨c,e,hc⟩:=M7 (l:=[a.ah,a.ag,b.ah,b.ag]) (by simp) (by simp) (λx hx=>by
  simp only[zx,List.not_mem_nil,or_false]at hx;rcases hx with rfl|rfl|rfl|rfl
  ·exact ha.um
  ·exact ha.DO
  ·exact hb.um
  ·exact hb.DO)
 rw[e];simp only;have m:∀x,(x=a.ah\/x=a.ag\/x=b.ah\/x=b.ag)->x∈[a.ah,a.ag,b.ah,b.ag]:=λx hx=>by simpa using hx
 have h1:=hc.lo;have h2:=hc.hi;simp only[zx,List.not_mem_nil,or_false]at h1 h2;have p1:=hc.all _ (m a.ah (by simp));have p2:=hc.all _ (m a.ag (by simp));have p3:=hc.all _ (m b.ah (by simp));have p4:=hc.all _ (m b.ag (by simp));have:=ha.le;have:=hb.le;have e1:c.ah=min a.ah b.ah:=au;have e2:c.ag=max a.ag b.ag:=au;have hj:=mq ha hb;rw[gG ha hb];by_cases k:c.ah<c.ag
 ·rw[bX k,cK,Eo ha.s0 hb.s0];simp only;obtain⟨g0,g1⟩:=Pn (cz a.aj b.aj) a.ah b.ah ha.um hb.um;rw[Eo (lZ _ _) g0,g1,e1,e2];rfl
 ·rw[bW k,ct]
  congr 1
  refine EA e1 e2 ?_;have hcv:NN c:=hc.valid (λx hx=>by
   simp only[zx,List.not_mem_nil,or_false]at hx;rcases hx with rfl|rfl|rfl|rfl
   ·exact ha.um
   ·exact ha.DO
   ·exact hb.um
   ·exact hb.DO)
  have s1:c.aj=0:=by rcases hcv.st with h|h;exact h.2;omega
  have s2:(jn a b).aj=0:=by
   rcases hj.st with h|h
   ·omega
   ·have:min a.ah b.ah<max a.ag b.ag:=h.1;omega
  omega
def al1{a b:aK}(ha:NV a)(hb:NV b):aii a b=V (cF a b,0):=by
 unfold aii;rw[eV,eV,dZ ha,dZ hb];simp only[cD];rw[kg ha hb]
def Uf{a:aK}(h:NV a):cF a a=a:=by
 rcases h with rfl|h
 ·rfl
 ·rw[gG h h,YG h]
def pq{a b:aK}(ha:NV a)(hb:NV b):FM a b=V (cF a b):=by
 unfold FM;by_cases e:a=b
 ·subst e;rw[J9,Uf ha];rfl
 ·rw[JQ e,ct,al1 ha hb]
def cA(a:aK):Bool:=if 1<bY a then J else if bY a=1 then !cR a 0 else O
def BF{a:aK}(h:NN a):bY a=if a.aj=0 then 1 else(a.ag-a.ah)/a.aj+1:=by
 unfold bY;rw[bL h.ne]
def size_pos{a:aK}(h:NN a):1<=bY a:=by
 rw[BF h];split
 ·omega
 ·have:0<=(a.ag-a.ah)/a.aj:=zS (by have:=h.le;omega) h.s0;omega
def mK{a:aK}(h:NN a):bY a=1↔a.ah=a.ag:=by
 rw[BF h];rcases h.st with ⟨h1,h2⟩|⟨h1,h2,h3⟩
 ·omega
 ·rw[qZ];constructor
  ·intro k;have:=wm (ve h3);grind
  ·omega
def EG{a:aK}(h:NV a):UG a=V (cR a 0,cA a):=by
 unfold UG cA;rw[ME h,lR h];simp only;by_cases c:1<bY a
 ·rw[bX c,bB c];rfl
 ·rw[bW c,bL c,ct];by_cases c1:bY a=1
  ·rw[bX c1,bB c1,cK];rcases h with rfl|h
   ·exfalso;unfold bY at c1;simp_all
   ·have e:=(mK h).mp c1;by_cases c2:a.ah=0
    ·rw[bX c2,nX (show bR a 0 from⟨au,au,⟨0,au⟩⟩)];rfl
    ·rw[bW c2,jH (show ¬bR a 0 from λk=>by have:=k.1;have:=k.2.1;omega)];rfl
  ·rw[bW c1,bL c1];rfl
def pn{a:aK}(h:NV a):GF a=V (cR a 0,cA a):=by
 unfold GF cA;rw[jV h,eE h];simp only;by_cases c:1<bY a
 ·rw[bX c,bB c];rfl
 ·rw[bW c,bL c,ct];by_cases c1:bY a=1
  ·rw[bX c1,bB c1,cK];rfl
  ·rw[bW c1,bL c1];rfl
def E9{a:aK}(h:NV a):T9 a=V (cR a 0,cA a):=by
 unfold T9;rw[eV,dZ h];simp only[cD];rw[EG h]
def iZ:Bool->Bool->aK
 |true,J=>aK.mk 0 1 1
 |true,O=>aK.mk 0 0 0
 |false,J=>aK.mk 1 1 0
 |false,O=>cM
def Y1{a b:Bool}(h:(a||b)=J):jF a b=iZ a b:=by
 cases a<;>cases b<;>first|rfl|cases h
def VF(a b:Bool):qu a b=V (iZ a b):=by
 have v0:NN (eC 0):=NN.one au au;have v1:NN (eC 1):=NN.one au au;have e:cF (eC 0) (eC 1)=aK.mk 0 1 1:=by rw[gG v0 v1];rfl
 unfold qu;cases a<;>cases b
 ·rfl
 ·rfl
 ·rfl
 ·simp only[cK];rw[show jt=cM from rfl,kg (.inl rfl) (.inr (show NN (iY 0)from v0)),Ik];simp only;rw[kg (.inr (show NN (iY 0)from v0)) (.inr (show NN (iY 1)from v1)),show cF (iY 0) (iY 1)=cF (eC 0) (eC 1)from rfl,e];rfl
def BS(a b:Bool):NV (iZ a b):=by
 cases a<;>cases b
 ·exact .inl rfl
 ·exact .inr (NN.one (x:=1) au au)
 ·exact .inr (NN.one (x:=0) au au)
 ·exact .inr ⟨by decide,by decide,by decide, .inr ⟨by decide,by decide,by decide⟩⟩
def nZ(P:Int->Prop)(c:aK):Prop:=(c=cM/\∀x,¬P x)\/(dz P c)
def nZ.uniq{P:Int->Prop}{c d:aK}(h:nZ P c)(k:nZ P d):c=d:=by
 rcases h with ⟨h1,h2⟩|h<;>rcases k with ⟨k1,k2⟩|k
 ·grind
 ·exact dS k.lo (h2 _)
 ·exact dS h.lo (k2 _)
 ·exact h.uniq k
def nZ.congr{P Q:Int->Prop}{c:aK}(h:nZ P c)(k:∀x,P x↔Q x):nZ Q c:=by
 rcases h with ⟨h1,h2⟩|h
 ·exact .inl ⟨h1,λx hx=>h2 x ((k x).mpr hx)⟩
 ·exact .inr (h.congr k)
def nZ.valid{P:Int->Prop}{c:aK}(h:nZ P c)(hP:∀x,P x->cC x):NV c:=by
 rcases h with ⟨h1,h2⟩|h
 ·exact .inl h1
 ·exact .inr (h.valid hP)
def nZ.none{P:Int->Prop}(h:∀x,¬P x):nZ P cM:= .inl ⟨rfl,h⟩
def nZ.join{P Q:Int->Prop}{a b:aK}(h:nZ P a)(k:nZ Q b)(ha:NV a)(hb:NV b):nZ (λx=>P x\/Q x) (cF a b):=by
 rcases h with ⟨rfl,h2⟩|h
 ·rw[Ik];simp_all
 ·rcases k with ⟨rfl,k2⟩|k
  ·rw[Bi];exact .inr (h.congr λx=>⟨.inl,λe=>e.elim id (λe=>dS e (k2 x))⟩)
  ·have hn:∀{P:Int->Prop} {c:aK},dz P c->NV c->NN c:=λ{P c} e v=>by
    rcases v with rfl|v
    ·have:=(e.all _ e.lo).2.1;exact dS this (by decide)
    ·exact v
   rw[gG (hn h ha) (hn k hb)];exact .inr (h.join k)
def nZ.mem{a:aK}(h:NV a):nZ (bR a) a:=by
 rcases h with rfl|h
 ·exact .inl ⟨rfl,λx=>Em⟩
 ·exact .inr h.ga
def Zy{a:aK}(h:NV a){x:Int}(hx:bR a x):cC x:=by
 rcases h with rfl|h
 ·exact dS hx Em
 ·have:=h.lo;have:=h.hi;have:=hx.1;have:=hx.2.1
  exact⟨au,au⟩
def akC{lo hi st:Int}(h1:lo<=hi)(h2:1<=st):(jP lo hi st).ag=lo+(hi-lo)/st*st:=by
 unfold jP;rw[qZ,qZ];by_cases c3:lo=lo+(hi-lo)/st*st
 ·rw[bB c3];exact c3
 ·simp_all
def NN.st1{a:aK}(h:NN a)(k:a.ah<a.ag):1<=a.aj:=by rcases h.st with h|h<;>omega
def Ex(P:Int->Prop)(c:aK):Prop:=NV c/\∀x,bR c x↔P x
def Ex.rep{P:Int->Prop}{c:aK}(h:Ex P c):nZ P c:=(nZ.mem h.1).congr h.2
def Xa{a:aK}(h:NN a){at_:Int}(h1:a.ah<=at_)(h2:at_<a.ag):Ex (λx=>bR a x/\x<=at_) (jP a.ah at_ a.aj):=by
 have hs:=h.st1 au;have hl:=h.lo;have hh:=h.hi
 refine⟨.inr (nh hl au h1 h.s0),λx=> ?_⟩;rw[OR h1 hs];exact⟨λ⟨k1,k2,k3⟩=>⟨⟨k1,au,k3⟩,k2⟩,λ⟨⟨k1,_,k3⟩,k2⟩=>⟨k1,k2,k3⟩⟩
def Qr{a:aK}(h:NN a){at_:Int}(h1:a.ah<=at_)(h2:at_<a.ag):
  Ex (λx=>bR a x/\at_<x) (jP (a.ah+((at_-a.ah)/a.aj+1)*a.aj) a.ag a.aj)/\a.ah<a.ah+((at_-a.ah)/a.aj+1)*a.aj/\a.ah+((at_-a.ah)/a.aj+1)*a.aj<=a.ag:=by
 have hs:=h.st1 au;have hl:=h.lo;have hh:=h.hi
 have q2:(at_-a.ah)/a.aj*a.aj<=at_-a.ah:=xo _ au;have q4:=vf (at_-a.ah) (show 0<a.aj by omega);have up:∀x,a.aj∣x-a.ah->at_<x->a.ah+((at_-a.ah)/a.aj+1)*a.aj<=x:=λx hd hx=>by
  obtain⟨q,hq⟩:=hd;rw[zQ]at hq;have:(at_-a.ah)/a.aj<q:=wO (a:=a.aj) au au;have:((at_-a.ah)/a.aj+1)*a.aj<=q*a.aj:=zN au au;omega
 have hle:=up a.ag h.dvd h2;have hd:a.aj∣((at_-a.ah)/a.aj+1)*a.aj:=xG ..;refine⟨⟨.inr (nh au hh hle h.s0),λx=> ?_⟩,au,hle⟩;rw[OR hle hs];constructor
 ·rintro⟨k1,k2,k3⟩;have:=yZ k3 hd;rw[show x-(a.ah+((at_-a.ah)/a.aj+1)*a.aj)+((at_-a.ah)/a.aj+1)*a.aj=x-a.ah by omega]at this;exact⟨⟨au,k2,this⟩,au⟩
 ·rintro⟨⟨k1,k2,k3⟩,k4⟩;have:=yz k3 hd;rw[show x-a.ah-((at_-a.ah)/a.aj+1)*a.aj=x-(a.ah+((at_-a.ah)/a.aj+1)*a.aj)by omega]at this;simp_all
def EJ{a:aK}(h:NV a){Q:Int->Prop}(k:∀x,bR a x->Q x):Ex (λx=>bR a x/\Q x) a:=⟨h,λx=>⟨λe=>⟨e,k x e⟩,λe=>e.1⟩⟩
def qI{a:aK}{Q:Int->Prop}(k:∀x,bR a x->¬Q x):Ex (λx=>bR a x/\Q x) cM:=⟨.inl rfl,λx=>⟨λe=>dS e Em,λe=>dS e.2 (k x e.1)⟩⟩
def AW{a:aK}(h:NV a)(at_:Int):∃l u,HH a at_=V (l,u)/\Ex (λx=>bR a x/\x<=at_) l/\Ex (λx=>bR a x/\at_<x) u:=by
 unfold HH;rcases h with rfl|h
 ·refine⟨cM,cM,?_,qI λx hx=>dS hx Em,qI λx hx=>dS hx Em⟩;rfl
 ·rw[eM h.ne,ct];have hle:=h.le;have hl:=h.lo;have hh:=h.hi
  by_cases c1:at_<a.ah
  ·rw[bX c1];exact⟨cM,a,rfl,qI λx hx k=>by have:=hx.1;omega,EJ (.inr h) λx hx=>by have:=hx.1;omega⟩
  ·rw[bW c1];by_cases c2:a.ag<=at_
   ·rw[bX c2];exact⟨a,cM,rfl,EJ (.inr h) λx hx=>by have:=hx.2.1;omega,qI λx hx k=>by have:=hx.2.1;omega⟩
   ·have hs:=h.st1 au;obtain⟨r1,r2,r3⟩:=Qr h (at_:=at_) au au;have e:a.ah+((at_-a.ah)/a.aj+1)*a.aj=a.ah+(at_-a.ah)/a.aj*a.aj+a.aj:=by rw[zU,yc];omega
    rw[e]at r1 r2 r3;rw[bW c2,ct,pK au au h.s0];simp only;rw[akC au hs,aL,pK au au h.s0];exact⟨_,_,rfl,Xa h au au,r1⟩
def KT{a:aK}(h:NV a)(at_:Int):∃l,m41 a at_=V l/\Ex (λx=>bR a x/\x<=at_) l:=by
 unfold m41;rcases h with rfl|h
 ·exact⟨cM,rfl,qI λx hx=>dS hx Em⟩
 ·rw[iu h,ct];have hle:=h.le;have hl:=h.lo;have hh:=h.hi
  by_cases c1:at_<a.ah
  ·rw[bX c1];exact⟨cM,rfl,qI λx hx k=>by have:=hx.1;omega⟩
  ·rw[bW c1];by_cases c2:a.ag<=at_
   ·rw[bX c2];exact⟨a,rfl,EJ (.inr h) λx hx=>by have:=hx.2.1;omega⟩
   ·rw[bW c2,ct,nc h.um ⟨au,au⟩ (h.st1 au)];exact⟨_,rfl,Xa h au au⟩
def BW{a:aK}(h:NV a)(at_:Int):∃u,m42 a at_=V u/\Ex (λx=>bR a x/\at_<x) u:=by
 unfold m42;rcases h with rfl|h
 ·refine⟨cM,?_,qI λx hx=>dS hx Em⟩;rfl
 ·rw[iu h,ct];have hle:=h.le;have hl:=h.lo;have hh:=h.hi
  by_cases c1:a.ag<=at_
  ·rw[bX c1];exact⟨cM,rfl,qI λx hx k=>by have:=hx.2.1;omega⟩
  ·rw[bW c1];by_cases c2:at_<a.ah
   ·rw[bX c2];exact⟨a,rfl,EJ (.inr h) λx hx=>by have:=hx.1;omega⟩
   ·have hs:=h.st1 au;obtain⟨r1,r2,r3⟩:=Qr h (at_:=at_) au au;have q0:0<=(at_-a.ah)/a.aj:=zS au au;have q1:(at_-a.ah)/a.aj<=at_-a.ah:=yl _ au;rw[bW c2,ct,gM,aL (n:=at_-a.ah),kM,aL (n:=(at_-a.ah)/a.aj),aL (n:=(at_-a.ah)/a.aj+1),
     aL (n:=((at_-a.ah)/a.aj+1)*a.aj),aL,nc ⟨au,au⟩ h.DO hs]
    exact⟨_,rfl,r1⟩
def nZ.empty{P:Int->Prop}{c:aK}(h:nZ P c)(hv:NV c):fB c=l6 c/\((fB c=J/\c=cM/\∀x,¬P x)\/(fB c=O/\NN c/\dz P c)):=by
 rcases h with ⟨rfl,h⟩|h
 ·exact⟨by rw[kT];rfl, .inl ⟨kT,rfl,h⟩⟩
 ·rcases hv with rfl|hv
  ·exact dS (h.all _ h.lo).2.1 (by decide)
  ·exact⟨by rw[eM hv.ne,iu hv], .inr ⟨eM hv.ne,hv,h⟩⟩
def vB(a:aK)(lo hi:Int)(y:Int):Prop:=∃x,bR a x/\y=max lo (min x hi)
def agp{a:aK}{lo hi y:Int}(h1:cC lo)(h2:cC hi)(h3:lo<=hi)(h:vB a lo hi y):cC y:=by
 obtain⟨x,_,rfl⟩:=h;obtain⟨a1,a2⟩:=h1;obtain⟨b1,b2⟩:=h2;exact⟨au,au⟩
def KL(x:Int):nZ (· =x) (eC x):= .inr (F9 x)
def se{x:Int}(h:cC x):NV (eC x):= .inr (NN.one h.1 h.2)
def oQ{Q R:Int->Prop}{c d:aK}{b:Int}(hc:nZ Q c)(vc:NV c)(hb:cC b)(hd:nZ R d)(vd:NV d):
  (fB d=J->nZ (λy=>Q y\/(y=b/\∃x,R x)) c)/\(fB d=O->nZ (λy=>Q y\/(y=b/\∃x,R x)) (cF c (eC b))):=by
 rcases (hd.empty vd).2 with ⟨e1,rfl,e3⟩|⟨e1,e2,e3⟩
 ·simp_all
 ·refine⟨λh=> ?_,λ_=>((hc.join (KL b) vc (se hb)).congr λx=>⟨λh=>h.elim .inl λh=> .inr ⟨h,_,e3.lo⟩,λh=>h.elim .inl λh=> .inr h.1⟩)⟩;simp_all
def R7{a:aK}(h:NV a)(lo hi:Int):(∃c,m81 a lo hi=V (c,0)/\m86 a lo hi=V (c,0)/\nZ (vB a lo hi) c/\NV c/\cC lo/\cC hi/\lo<=hi)\/
  (m81 a lo hi=V (aK.mk 0 0 0,3)/\m86 a lo hi=V (aK.mk 0 0 0,3)/\¬(cC lo/\cC hi/\lo<=hi)):=by
 unfold m81 m86;rw[eV,fW,dZ h,kF,kF,Am,Am];simp only;by_cases h1: -1099511627776<=lo/\lo<=1099511627776
 ·by_cases h2: -1099511627776<=hi/\hi<=1099511627776
  ·by_cases h3:hi<lo
   ·right;rw[bX h1,bX h2,bX h3];exact⟨rfl,rfl,λk=>by have:=k.2.2;omega⟩
   ·left;rw[bX h1,bX h2,bW h3];simp only[cK];rw[aL (n:=lo-1)];obtain⟨un,re,e1,r1,r2⟩:=AW h (lo-1);obtain⟨ins,ov,e2,r3,r4⟩:=AW r2.1 hi;have mi:∀x,bR ins x↔bR a x/\lo<=x/\x<=hi:=λx=>⟨λk=>let ⟨k1,k2⟩:=(r3.2 x).mp k;let ⟨k3,k4⟩:=(r2.2 x).mp k1;⟨k3,au,k2⟩,λ⟨k1,k2,k3⟩=>(r3.2 x).mpr ⟨(r2.2 x).mpr ⟨k1,au⟩,k3⟩⟩;have mo:∀x,bR ov x↔bR a x/\hi<x:=λx=>⟨λk=>let ⟨k1,k2⟩:=(r4.2 x).mp k;let ⟨k3,k4⟩:=(r2.2 x).mp k1;⟨k3,k2⟩,λ⟨k1,k2⟩=>(r4.2 x).mpr ⟨(r2.2 x).mpr ⟨k1,au⟩,k2⟩⟩;obtain⟨x1,f1,s1⟩:=BW h (lo-1);obtain⟨x2,f2,s2⟩:=KT s1.1 hi;obtain⟨x3,f3,s3⟩:=KT h lo;obtain⟨x4,f4,s4⟩:=BW h hi;have m2:∀x,bR x2 x↔bR a x/\lo<=x/\x<=hi:=λx=>⟨λk=>let ⟨k1,k2⟩:=(s2.2 x).mp k;let ⟨k3,k4⟩:=(s1.2 x).mp k1;⟨k3,au,k2⟩,λ⟨k1,k2,k3⟩=>(s2.2 x).mpr ⟨(s1.2 x).mpr ⟨k1,au⟩,k3⟩⟩;have rlo:cC lo:=h1;have rhi:cC hi:=h2;have nb:∀b:Bool,(match b with|true=>true|false=>false)=b:=λb=>by cases b<;>rfl
    obtain⟨t1,t2⟩:=oQ (Ex.rep ⟨r3.1,mi⟩) r3.1 rlo r1.rep r1.1;have P:∃c,(match HH a (lo-1)with|G=>G|V r3=>match HH r3.snd hi with|G=>G|V r4=>bif bif fB r3.fst then O else J then match pT r4.fst (iY lo)with|G=>G|V r5=>bif bif fB r4.snd then O else J then match pT r5 (iY hi)with|G=>G|V r6=>V (r6,(0:Int))else V (r5,0)else bif bif fB r4.snd then O else J then match pT r4.fst (iY hi)with|G=>G|V r7=>V (r7,0)else V (r4.fst,0))=V (c,0)/\nZ (vB a lo hi) c:=by
     have fin:∀c,NV c->nZ (λy=>(bR a y/\lo<=y/\y<=hi)\/(y=lo/\∃x,bR a x/\x<=lo-1)) c->∃d,(bif bif fB ov then O else J then match pT c (iY hi)with|G=>G|V r6=>V (r6,(0:Int))else V (c,0))=V (d,0)/\nZ (vB a lo hi) d:=λc vc hc=>by
      obtain⟨u1,u2⟩:=oQ hc vc rhi (Ex.rep ⟨r4.1,mo⟩) r4.1;have eq:∀y,(((bR a y/\lo<=y/\y<=hi)\/(y=lo/\∃x,bR a x/\x<=lo-1))\/(y=hi/\∃x,bR a x/\hi<x))↔vB a lo hi y:=λy=>by
       constructor
       ·rintro((⟨k1,k2,k3⟩|⟨rfl,x,k1,k2⟩)|⟨rfl,x,k1,k2⟩)
        ·exact⟨y,k1,au⟩
        ·exact⟨x,k1,au⟩
        ·exact⟨x,k1,au⟩
       ·rintro⟨x,k1,rfl⟩;rcases (show x<lo\/hi<x\/(lo<=x/\x<=hi)by omega)with k|k|k
        ·exact .inl (.inr ⟨au,x,k1,au⟩)
        ·exact .inr ⟨au,x,k1,k⟩
        ·rw[show max lo (min x hi)=x by omega];simp_all
      cases ho:fB ov with
      |true=>exact⟨c,rfl,(u1 ho).congr eq⟩
      |false=>
       simp only[ct];rw[kg vc (.inr (show NN (iY hi)from NN.one h2.1 h2.2))];exact⟨_,rfl,(u2 ho).congr eq⟩
     rw[e1];simp only;rw[e2];simp only;cases hu:fB un with
     |true=>
      simp only[cK];exact fin ins r3.1 (t1 hu)
     |false=>
      simp only[ct];rw[kg r3.1 (.inr (show NN (iY lo)from NN.one h1.1 h1.2))];exact fin (cF ins (eC lo)) (eW r3.1 (se rlo)) (t2 hu)
    obtain⟨c,P1,P2⟩:=P;have vc:NV c:=P2.valid λx hx=>agp rlo rhi au hx;refine⟨c,P1,?_,P2,vc,rlo,rhi,au⟩;have fin:∀c',NV c'->nZ (λy=>(bR a y/\lo<=y/\y<=hi)\/(y=lo/\∃x,bR a x/\x<=lo)) c'->(match m42 a hi with|G=>G|V r7=>bif bif l6 r7 then O else J then match nv c' (aK.mk hi hi 0)with|G=>G|V r8=>V (r8,(0:Int))else V (c',0))=V (c,0):=λc' vc' hc'=>by
     obtain⟨u1,u2⟩:=oQ hc' vc' rhi s4.rep s4.1;have eq:∀y,(((bR a y/\lo<=y/\y<=hi)\/(y=lo/\∃x,bR a x/\x<=lo))\/(y=hi/\∃x,bR a x/\hi<x))↔vB a lo hi y:=λy=>by
      constructor
      ·rintro((⟨k1,k2,k3⟩|⟨rfl,x,k1,k2⟩)|⟨rfl,x,k1,k2⟩)
       ·exact⟨y,k1,au⟩
       ·exact⟨x,k1,au⟩
       ·exact⟨x,k1,au⟩
      ·rintro⟨x,k1,rfl⟩;rcases (show x<lo\/hi<x\/(lo<=x/\x<=hi)by omega)with k|k|k
       ·exact .inl (.inr ⟨au,x,k1,au⟩)
       ·exact .inr ⟨au,x,k1,k⟩
       ·rw[show max lo (min x hi)=x by omega];exact .inl (.inl ⟨k1,k.1,k.2⟩)
     rw[f4];simp only;rw[<-(s4.rep.empty s4.1).1];cases ho:fB x4 with
     |true=>
      rw[((u1 ho).congr eq).uniq P2];rfl
     |false=>
      simp only[cD];rw[gA vc' (.inr (show NN (aK.mk hi hi 0)from NN.one h2.1 h2.2))];rw[show cF c' (aK.mk hi hi 0)=c from((u2 ho).congr eq).uniq P2]
    obtain⟨t1,t2⟩:=oQ (Ex.rep ⟨s2.1,m2⟩) s2.1 rlo s3.rep s3.1;rw[f1];simp only;rw[f2];rw[f3];simp only;rw[<-(s3.rep.empty s3.1).1];cases hu:fB x3 with
    |true=>
     exact fin x2 s2.1 (t1 hu)
    |false=>
     rw[gA s2.1 (.inr (show NN (aK.mk lo lo 0)from NN.one h1.1 h1.2))];exact fin _ (eW s2.1 (se rlo)) (t2 hu)
  ·right;rw[bX h1,bW h2];refine⟨?_,rfl,λk=>h2 k.2.1⟩;cases vn (hi<lo)<;>rfl
 ·right;rw[bW h1];refine⟨?_,rfl,λk=>h1 k.1⟩;cases vn (hi<lo)<;>rfl
def mw{a:aK}(h:NV a):cA a=J↔∃x,bR a x/\x≠0:=by
 unfold cA;rcases h with rfl|h
 ·rw[show bY cM=0 from by unfold bY;rw[bB rfl],qZ,qZ];exact⟨λk=>(by cases k),λ⟨x,k,_⟩=>dS k Em⟩
 ·have hp:=size_pos h;have h1:=mK h;have hle:=h.le;have mlo:bR a a.ah:=⟨zj _,h.le,⟨0,au⟩⟩;have mhi:bR a a.ag:=⟨h.le,zj _,h.dvd⟩;by_cases c:1<bY a
  ·rw[bB c];refine⟨λ_=> ?_,λ_=>rfl⟩;by_cases z:a.ah=0
   ·exact⟨a.ag,mhi,λk=>by have:=h1.mpr au;omega⟩
   ·exact⟨a.ah,mlo,z⟩
  ·rw[bL c,bB (show bY a=1 by omega)];have e:=h1.mp au;constructor
   ·intro k;refine⟨a.ah,mlo,λz=> ?_⟩;rw[nX (show bR a 0 by rw[<-z];exact mlo)]at k;cases k
   ·rintro⟨x,k1,k2⟩;rw[jH (show ¬bR a 0 from λk=>by have:=k.1;have:=k.2.1;have:=k1.1;have:=k1.2.1;omega)];rfl
def zero_or{a:aK}(h:NN a):(cA a||cR a 0)=J:=by
 have mlo:bR a a.ah:=⟨zj _,h.le,⟨0,au⟩⟩;by_cases z:a.ah=0
 ·rw[nX (show bR a 0 by rw[<-z];exact mlo),Bool.or_true]
 ·rw[(mw (.inr h)).mpr ⟨_,mlo,z⟩,Bool.true_or]
def aBZ(a:aK):aK:=aK.mk (-a.ag) (-a.ah) a.aj
def aiR{a:aK}(h:NN a):NN (aBZ a):=by
 have:=h.lo;have:=h.hi;have:=h.le
 refine⟨by show _<= -a.ag;omega,by show-a.ah<=_;omega,by show-a.ag<= -a.ah;omega,?_⟩;rcases h.st with ⟨h1,h2⟩|⟨h1,h2,h3⟩
 ·exact .inl ⟨by show-a.ag= -a.ah;omega,h2⟩
 ·refine .inr ⟨by show-a.ag< -a.ah;omega,h2,?_⟩;show (-a.ah- -a.ag)%a.aj=0;rw[show-a.ah- -a.ag=a.ag-a.ah by omega];exact h3
def rH(op:Int)(a:aK):aK×Int:=open Classical in
 if¬NV a\/(op≠6/\op≠7)then(aK.mk 0 0 0,1)else if a=cM then(cM,0)else if op=7 then(iZ (cA a) (cR a 0),0)else(aBZ a,0)
def JZ(op:Int):(bif bif vn (op=6)then O else J then V (bif vn (op=7)then O else J)else V O)=V (vn (op≠6/\op≠7)):=by
 by_cases h:op=6
 ·rw[bX h,bW (show ¬(op≠6/\op≠7)from λk=>k.1 h)];rfl
 ·by_cases k:op=7
  ·rw[bW h,bX k,bW (show ¬(op≠6/\op≠7)from λe=>e.2 k)];rfl
  ·rw[bW h,bW k,bX (show op≠6/\op≠7 from⟨h,k⟩)];rfl
def Yk{a:aK}(h:NV a)(op:Int):anh op a=V (rH op a):=by
 unfold anh rH;rw[eV,dZ h];simp only[cD];rw[JZ];by_cases ho:op≠6/\op≠7
 ·rw[bX ho,bB (.inr ho)];rfl
 ·rw[bW ho,bL (λk=>k.elim (λe=>e h) ho)];simp only[ct];rcases h with rfl|h
  ·rw[kT,bB rfl];rfl
  ·rw[eM h.ne,bL h.ne,ct];by_cases h7:op=7
   ·rw[bX h7,bB h7,cK,EG (.inr h)];simp only;rw[VF]
   ·rw[bW h7,bL h7,ct];have:=h.lo;have:=h.hi;have:=h.le
    rw[aL (n:=0-a.ag),aL (n:=0-a.ah),xW,xW];rfl
def WQ{a:aK}(h:NV a)(op:Int):af8 op a=V (rH op a):=by
 unfold af8 rH;rw[fW,dZ h];simp only[cD];rw[JZ];by_cases ho:op≠6/\op≠7
 ·rw[bX ho,bB (.inr ho)];rfl
 ·rw[bW ho,bL (λk=>k.elim (λe=>e h) ho)];simp only[ct];rcases h with rfl|h
  ·rw[vJ,bB rfl];rfl
  ·rw[iu h,bL h.ne,ct];by_cases h7:op=7
   ·rw[bW (show ¬op=6 by omega),bB h7,ct,pn (.inr h)];simp only;rw[Y1 (zero_or h)]
   ·rw[bX (show op=6 by omega),bL h7,cK];have:=h.lo;have:=h.hi;have:=h.le
    rw[aL (n:=0-a.ag),aL (n:=0-a.ah),xW,xW];rfl
def SF:NV (aK.mk 0 0 0):= .inr (NN.one (x:=0) au au)
def qc(x y:Int):Int:=if y=0 then 0 else if x.tmod y≠0/\(vn (x<0))≠(vn (y<0))then x.tdiv y-1 else x.tdiv y
def u9{x y:Int}(hy:y≠0):∃q r:Int,x.tdiv y=q/\x.tmod y=r/\y*q+r=x/\r.natAbs<y.natAbs/\q.natAbs<=x.natAbs/\(0<=x->0<=r)/\(x<=0->r<=0)/\(r≠0->q.natAbs<x.natAbs):=by
 refine⟨_,_,rfl,rfl,Int.mul_tdiv_add_tmod x y,?_,?_,λh=>Int.tmod_nonneg _ h,λh=> ?_,λh=> ?_⟩
 ·rw[Int.natAbs_tmod];exact xe _ au
 ·rw[Int.natAbs_tdiv];exact Nat.div_le_self _ _
 ·have:=Int.tmod_nonneg (a:= -x) y au;rw[Int.neg_tmod]at this;omega
 ·have e:=Nat.div_add_mod x.natAbs y.natAbs;have hr:(x.tmod y).natAbs≠0:=au;rw[Int.natAbs_tmod]at hr;rw[Int.natAbs_tdiv];have h1:x.natAbs/y.natAbs<=y.natAbs*(x.natAbs/y.natAbs):=Nat.le_mul_of_pos_left _ au;show x.natAbs/y.natAbs<x.natAbs;omega
def Vg{x y:Int}(hx:cC x):cC (qc x y)/\(qc x y).natAbs<=x.natAbs:=by
 unfold qc;obtain⟨h1,h2⟩:=hx;by_cases hy:y=0
 ·rw[bB hy];exact⟨⟨au,au⟩,au⟩
 ·rw[bL hy];obtain⟨q,r,e1,e2,e3,e4,e5,_,_,e6⟩:=u9 (x:=x) hy;split
  ·rename_i h;exact⟨⟨au,au⟩,au⟩
  ·exact⟨⟨au,au⟩,au⟩
def TG{x y:Int}(hy:cC y)(h0:y≠0):cC (x-y*qc x y)/\(0<y->0<=x-y*qc x y/\x-y*qc x y<y)/\(y<0->x-y*qc x y<=0/\y<x-y*qc x y):=by
 unfold qc;rw[bL h0];obtain⟨h1,h2⟩:=hy;obtain⟨q,r,e1,e2,e3,e4,e5,e7,e8,e6⟩:=u9 (x:=x) h0;rw[e1,e2];by_cases h:r≠0/\vn (x<0)≠vn (y<0)
 ·rw[bB h,Int.mul_sub,Int.mul_one];obtain⟨k1,k2⟩:=h;by_cases c:x<0
  ·have c2:¬y<0:=λk=>k2 (by rw[bX c,bX k]);exact⟨⟨au,au⟩,λ_=>au,λ_=>au⟩
  ·have c2:y<0:=Decidable.byContradiction λk=>k2 (by rw[bW c,bW k]);exact⟨⟨au,au⟩,λ_=>au,λ_=>au⟩
 ·rw[bL h];by_cases k1:r=0
  ·exact⟨⟨au,au⟩,λ_=>au,λ_=>au⟩
  ·have k2:vn (x<0)=vn (y<0):=Decidable.byContradiction λk=>h ⟨k1,k⟩;by_cases c:x<0
   ·have c2:y<0:=by
     simp_all
    exact⟨⟨au,au⟩,λ_=>au,λ_=>au⟩
   ·have c2:¬y<0:=by
     rw[bW c]at k2;exact of_decide_eq_false k2.symm
    exact⟨⟨au,au⟩,λ_=>au,λ_=>au⟩
def MV{x y:Int}(hx:cC x)(hy:cC y):abz x y=V (qc x y):=by
 have hR:=Vg (y:=y) hx;unfold abz;unfold qc at hR ⊢;obtain⟨h1,h2⟩:=hx;by_cases h0:y=0
 ·rw[bX h0,bB h0];rfl
 ·rw[bL h0]at hR;rw[bW h0,bL h0,ct,bB h0,bB h0,D6];obtain⟨q,r,e1,e2,e3,e4,e5,e7,e8,e6⟩:=u9 (x:=x) h0;rw[e1,e2]at hR ⊢;by_cases k1:r=0
  ·rw[bW (show ¬¬r=0 by omega),bL (λk=>k.1 k1)];simp only[ct];rw[aL]
  ·rw[bX k1];simp only[cK];by_cases k2:vn (x<0)=vn (y<0)
   ·rw[bL (λk=>k.2 k2),k2];have:(bif vn (y<0)==vn (y<0)then false else true)=false:=by cases vn (y<0)<;>rfl
    rw[this];simp only[ct];rw[aL]
   ·rw[bB ⟨k1,k2⟩]at hR ⊢;have:(bif vn (x<0)==vn (y<0)then O else J)=J:=by
     revert k2;simp
    rw[this];simp only[cK];rw[aL (n:=q),aL (n:=q-1)]
def VT{x y:Int}(hx:cC x)(hy:cC y):alL x y=V (qc x y):=MV hx hy
def oT(b:Bool):Int:=if b then 1 else 0
def fP(op x y:Int):Int:=
 if op=8 then x+y else if op=9 then x-y else if op=10 then x*y else if op=11 then qc x y else if op=12 then(if y=0 then 0 else x-y*qc x y)
 else if op=13 then oT (vn (x=y))else if op=14 then oT (!vn (x=y))else if op=15 then oT (vn (x<y))else if op=16 then oT (vn (x<=y))else if op=17 then oT (vn (y<x))else if op=18 then oT (vn (y<=x))
 else if op=19 then oT (vn (x≠0/\y≠0))else if op=20 then oT (vn (x≠0\/y≠0))else if op=21 then min x y else max x y
def uo(b:Bool):cC (oT b):=by cases b<;>exact⟨by decide,by decide⟩
def ann{op x y:Int}(hx:cC x)(hy:cC y)(ho:op=11\/op=12\/op=21\/op=22):amm op x y=V (fP op x y):=by
 unfold amm fP;rcases ho with rfl|rfl|rfl|rfl
 ·rw[bX rfl,cK,MV hx hy];rfl
 ·rw[bW (by decide),bX rfl,ct,cK];show _=V (if y=0 then 0 else x-y*qc x y);by_cases h0:y=0
  ·simp_all
  ·rw[bW h0,bL h0,ct,MV hx hy];simp only;have hm:=TG (x:=x) hy h0;obtain⟨a1,a2⟩:=hx;obtain⟨b1,b2⟩:=hy;rw[aL (n:=y*qc x y),aL]
 ·rw[bW (by decide),bW (by decide),bX rfl];rw[show (if y<x then y else x)=min x y by split<;>omega];rfl
 ·rw[bW (show ¬(22:Int)=11 by decide),bW (show ¬(22:Int)=12 by decide),bW (show ¬(22:Int)=21 by decide)];rw[show (if x<y then y else x)=max x y by split<;>omega];rfl
def binop(op:Int):Prop:=8<=op/\op<=22
def Bj{x:Int}(hx:cC x):@Eq Int (jO x 0) ((x.natAbs:Nat):Int):=by
 unfold jO;obtain⟨h1,h2⟩:=hx;by_cases c:x<0
 ·rw[bX c,cK,aL];show @Eq Int (0-x) ((x.natAbs:Nat):Int);omega
 ·rw[bW c,ct,aL];show @Eq Int (x-0) ((x.natAbs:Nat):Int);omega
def og{x:Int}(hx:cC x):@Eq Int (j8 x) ((x.natAbs:Nat):Int):=by
 obtain⟨h1,h2⟩:=hx;obtain⟨k1,k2⟩:=NR (x:=x) au au;grind
def Of{x y:Int}(h0:x≠0):((1099511627776:Int)/x.natAbs<y.natAbs)↔¬cC (x*y):=by
 have hp:(0:Int)<(x.natAbs:Int):=au;have e:((x*y).natAbs:Int)=(y.natAbs:Int)*(x.natAbs:Int):=by rw[Int.natAbs_mul,wK,zQ]
 have hi:cC (x*y)↔((x*y).natAbs:Int)<=1099511627776:=⟨λ⟨h1,h2⟩=>au,λh=>⟨au,au⟩⟩;rw[hi,e,<-Int.le_ediv_iff_mul_le hp];omega
end Go.Proofs.YtnfljbehcffmcaaGreat
end
