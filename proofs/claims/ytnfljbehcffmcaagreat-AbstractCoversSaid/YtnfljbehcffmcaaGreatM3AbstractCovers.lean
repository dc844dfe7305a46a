/- Merged: Hn, Gd, Ho, Pl, Nd, Nd2, Nd3, Nd4, Nd5, Nd6, Nd7, Ne1, Pl2, Ne2, Ne3, Ne4, Ne5, Ne6, Ne7, Ne8. -/
import Derived.Test.YtnfljbehcffmcaaGreatM2AbstractCovers
import Derived.KernelRfl
open Int renaming toNat_natCast → za, le_refl → zg, mul_nonneg → zq, mul_comm → zA, mul_le_mul_of_nonneg_right → zG, add_mul → zI, mul_assoc → zN, ediv_nonneg → zQ, one_mul → zR, dvd_trans → zS, ediv_le_self → ye, sub_mul → yl, dvd_sub → ym, gcd → yy, toNat → yC, mul_ediv_add_emod → yL, emod_nonneg → yM, le_of_lt → yN, dvd_add → yO, emod_lt_of_pos → yR, mul_add → yS, dvd_zero → yU, ediv_mul_le → yV, le_trans → y6, dvd_mul_left → y7, natCast_mul → xh, zero_mul → xG, zero_dvd → xH, le_total → xI, min_eq_right → xJ, ediv_mul_cancel → x9, lt_of_mul_lt_mul_right → wo, dvd_of_emod_eq_zero → wq, min_eq_left → wu, ediv_lt_of_lt_mul → wF, eq_ofNat_of_zero_le → wG, lt_ediv_add_one_mul_self → wH
open Nat renaming le_refl → zD, lt_succ_iff_lt_or_eq → yT, zero_le → xm
open List renaming length → zc, getElem?_eq_getElem → zk, all_eq_true → zo, mem_cons → zy, mem_singleton → zC, range → zH, take_length → zM, mem_append → zU, length_take → zZ, drop → z7, getElem_mem → xx, getElem_of_mem → xS
open Bool renaming and_eq_true → zf, or_eq_true → yJ, true → wO, false → wN
open Option renaming some → zF, some → V, none → O
open Decidable renaming decide → wP
open Go.Proofs.Tryz renaming prog → wQ
open Go.Proofs.Tryz
set_option linter.unusedSectionVars false
set_option linter.unusedVariables false
set_option linter.unusedSimpArgs false
set_option linter.defProp false
noncomputable section
set_option maxRecDepth 100000
namespace Go.Proofs.YtnfljbehcffmcaaGreat
open Go Go.Iv
open Go.IntKind (i64 u64)
abbrev E80:Type:=aI
def d80:Td 0 E80:= .c [] [2] (.r 0 1 (ec 2 (qp 0 0) en) (sb 0 34 (lg 34) sn) (fun z=>z.2.1) (fun x=>(((),()),(x,()))))
def Qx(a0:Int):E80:=
 aI.mk a0 a0 (0)
def e80:aK->aK:=eL wQ 80 wN (aN ln) d80 (fun g=>V (Qx g.1))
def IB:EO e80:=fun h=>kL (an:= .no) func80 aR aB h
def anK:aK:=dg
abbrev akJ:Type:=Bool
def d145:Td 0 akJ:= .c [] [2] (.r 0 0 (ec 2 qb en) sn (fun z=>z.1.1) (fun x=>((x,()),(()))))
def auR:=(aN ln)
def ah5:An:=(noTwo (.two (.rb [] 2) .no))
def arA:∀f∈([]:List Nat),bh (anK) f:=aB
def jL(a0:Int):akJ:=
 let r1:Bool:=bif wP (-1099511627776<=a0)then wP (a0<=1099511627776)else wN;r1
def azE(a0:Int):bU wQ (anK) 300 (ah5) 145 (auR.c (a0,())) [] 0 d145.rd=V (jL a0):=by
 refine Eq.trans (b:=(
  match bif wP (-1099511627776<=a0)then V (wP (a0<=1099511627776))else V (wN)with|O=>O|V r1=>V (r1):Option akJ)) (by kernel_rfl) ?_
 simp only[jL,cv,cF]
def Y3:aK->aK:=eL wQ 145 wN auR d145 (fun g=>V (jL g.1))
def Cw:EO Y3:=fun h=>kL (F:=anK) (an:=ah5) (l:=[(.skip,(.rb [] 2))]) func145 aR (ay arA aB) h (c:=fun g=>azE g.1)
def kU:EP Y3:=fun h=>kP h
def aqp:aK:=dg
abbrev aqu:Type:=aI
def d224:Td 0 aqu:= .c [] [0] (.r 0 1 (ec 0 (qp 0 0) en) (sb 0 34 (lg 34) sn) (fun z=>z.2.1) (fun x=>(((),()),(x,()))))
def atO:=ln
def ahM:An:= .no
def iR:aqu:=
 aI.mk (1) (0) (0)
def aAd:bU wQ (aqp) 300 (ahM) 224 (atO.c ()) [] 0 d224.rd=V (iR):=by kernel_rfl
def Lq:aK->aK:=eL wQ 224 wN atO d224 (fun _=>V (iR))
def jW:EO Lq:=fun h=>kL (F:=aqp) (an:=ahM) func224 aR aB h (c:=fun _=>aAd)
def kX:EP Lq:=fun h=>kP h
def ayj:aK:=(Lq dg)
abbrev anB:Type:=Bool
def d147:Td 0 anB:= .c [] [2] (.r 0 0 (ec 2 qb en) sn (fun z=>z.1.1) (fun x=>((x,()),(()))))
def auq:=(lc (qg 34) ln)
def aiV:An:= .no
def fm(a0:aI):anB:=
 bif wP (a0.af=iR.af)then bif wP (a0.aa=iR.aa)then bif wP (a0.ai=iR.ai)then wO else wN else wN else wN
def axC(a0:aI):bU wQ (ayj) 300 (aiV) 147 (auq.c (a0,())) [] 0 d147.rd=V (fm a0):=by
 refine Eq.trans (b:=(
  V (bif wP (a0.af=iR.af)then bif wP (a0.aa=iR.aa)then bif wP (a0.ai=iR.ai)then wO else wN else wN else wN):Option anB)) (by kernel_rfl) ?_
 simp only[fm,cv,cF]
def EZ:aK->aK:=eL wQ 147 wN auq d147 (fun g=>V (fm g.1))
def ju:EO EZ:=fun h=>kL (an:=aiV) func147 (jW aR) aB h (c:=fun g=>axC g.1)
def fC:EP EZ:=fun h=>kP h
def ap2:aK:=(EZ (Y3 dg))
abbrev auu:Type:=Bool
def d144:Td 0 auu:= .c [] [2] (.r 0 0 (ec 2 qb en) sn (fun z=>z.1.1) (fun x=>((x,()),(()))))
def ahR:∀f∈([145]:List Nat),bh (ap2) f:=(ay (fC (kU bB)) aB)
def tV(a0:aI):Option auu:=
 bif fm a0 then V wO else match bif bif jL a0.af then wN else wO then V wO else bif bif jL a0.aa then wN else wO then V wO else V (wP (a0.aa<a0.af))with|O=>O|V r1=>bif r1 then V wN else bif wP (a0.af=a0.aa)then V (wP (a0.ai=0))else match bif wP (1<=a0.ai)then if¬a0.ai=0then V (wP ((i64.wrap (a0.aa-a0.af)).tmod a0.ai=0))else O else V wN with|O=>O|V r2=>V (r2)
def L6:aK->aK:=eL wQ 144 wN (lc (qg 34) ln) d144 (fun g=>tV g.1)
def kQ:EO L6:=fun h=>kL (F:=ap2) (an:=(noTwo (noTwo (.two (.two (.rb [145] 21) .no) (noTwo (.two (.rb [145] 2) .no)))))) (l:=[(.skip,(.rb [145] 21)),(.skip,(.rb [145] 2))]) func144 (ju (Cw aR)) (ay ahR (ay ahR aB)) h
def fP:EP L6:=fun h=>kP h
abbrev as6:Type:=aI
def d149:Td 0 as6:= .c [] [2] (.r 0 1 (ec 2 (qp 0 0) en) (sb 0 34 (lg 34) sn) (fun z=>z.2.1) (fun x=>(((),()),(x,()))))
def gJ(a0:Int):as6:=
 aI.mk a0 a0 (0)
def acB:aK->aK:=eL wQ 149 wN (aN ln) d149 (fun g=>V (gJ g.1))
def rM:EO acB:=fun h=>kL (an:= .no) func149 aR aB h
def TP:EP acB:=fun h=>kP h
abbrev asX:Type:=aI
def d225:Td 0 asX:= .c [] [6] (.r 0 1 (ec 6 (qp 0 0) en) (sb 0 34 (lg 34) sn) (fun z=>z.2.1) (fun x=>(((),()),(x,()))))
def nC(a0:Int)(a1:Int)(a2:Int):Option asX:=
 bif wP (a1<a0)then V (iR)else bif wP (a2=0)then V (gJ a0)else if¬a2=0then bif wP (a0=i64.wrap (a0+i64.wrap (i64.wrap ((i64.wrap (a1-a0)).tdiv a2)*a2)))then V (gJ a0)else V (aI.mk a0 (i64.wrap (a0+i64.wrap (i64.wrap ((i64.wrap (a1-a0)).tdiv a2)*a2))) a2)else O
def Uc:aK->aK:=eL wQ 225 wN (aN (aN (aN ln))) d225 (fun g=>nC g.1 g.2.1 g.2.2.1)
def vT:EO Uc:=fun h=>kL (an:= .no) func225 (jW (rM aR)) aB h
def kV:EP Uc:=fun h=>kP h
def avi:aK:=(Uc (Lq (EZ dg)))
abbrev apC:Type:=aI×aI
def d146:Td 0 apC:= .c [] [4,5] (.r 0 2 (ec 4 (qp 0 0) (ec 5 (qp 1 0) en)) (sb 0 34 (lg 34) (sb 1 34 (lg 34) sn)) (fun z=>(z.2.1,z.2.2.1)) (fun x=>(((),(),()),(x.1,x.2,()))))
def asp:∀f∈([147]:List Nat),bh (avi) f:=(ay (kV (kX (fC bB))) aB)
def BZ(a0:aI)(a1:Int):Option apC:=
 match bif fm a0 then V (wO)else V (wP (a1<a0.af))with|O=>O|V r1=>bif r1 then V ((iR,a0))else bif wP (a0.aa<=a1)then V ((a0,iR))else match nC a0.af a1 a0.ai with|O=>O|V r2=>match nC (i64.wrap (r2.aa+a0.ai)) a0.aa a0.ai with|O=>O|V r3=>V ((r2,r3))
def ahf:aK->aK:=eL wQ 146 wN (lc (qg 34) (aN ln)) d146 (fun g=>BZ g.1 g.2.1)
def Iy:EO ahf:=fun h=>kL (F:=avi) (an:=(noTwo (.two (.two (.rb [147] 7) .no) .no))) (l:=[(.skip,(.rb [147] 7))]) func146 (vT (jW (ju aR))) (ay asp aB) h
def Uy:EP ahf:=fun h=>kP h
structure ke where
 (t3 t5:Int)
 t6:List Int
 (t7 t8:Int)
def NO:Td 0 ke:= .c [] [3,5,6,7,8] (.r 0 0 (ec 3 aM (ec 5 aM (ec 6 (ql 3) (ec 7 aM (ec 8 aM en))))) sn (fun z=>⟨z.1.1,z.1.2.1,z.1.2.2.1,z.1.2.2.2.1,z.1.2.2.2.2.1⟩) (fun x=>((x.t3,x.t5,x.t6,x.t7,x.t8,()),(()))))
def tK(p:ke):Option (Option ke):=
 bif bif wP (p.t5=0)then wN else wO then if¬p.t5=0then V (V (ke.mk p.t5 (p.t3.tmod p.t5) p.t6 p.t7 p.t8))else O else V (O)
def AG:ke->Option ke:=bI (tK)
structure nV where
 t3:Int
 t6:List Int
 (t7 t8:Int)
def NC:Td 0 nV:= .c [] [3,6,7,8] (.r 0 0 (ec 3 aM (ec 6 (ql 3) (ec 7 aM (ec 8 aM en)))) sn (fun z=>⟨z.1.1,z.1.2.1,z.1.2.2.1,z.1.2.2.2.1⟩) (fun x=>((x.t3,x.t6,x.t7,x.t8,()),(()))))
def ud(p:nV):Option (Option nV):=
 bif wP (p.t8<p.t7)then if 0<=p.t8/\p.t8<p.t6.length then match AG (ke.mk p.t3 p.t6[p.t8.toNat]! p.t6 p.t7 p.t8)with|O=>O|V r1=>bif bif wP (r1.t5=0)then wN else wO then if¬r1.t5=0then O else O else V (V (nV.mk r1.t3 r1.t6 r1.t7 (i64.wrap (r1.t8+1))))else O else V (O)
def W3:An:=(noTwo (noTwo (.two (noTwo (NO.lp AG .no)) .no)))
def C8:nV->Option nV:=bI (ud)
abbrev au0:Type:=Int
def d226:Td 0 au0:= .c [] [2] (.r 0 0 (ec 2 aM en) sn (fun z=>z.1.1) (fun x=>((x,()),(()))))
def Ce(a0:List Int):Option au0:=
 match C8 (nV.mk 0 a0 a0.length 0)with|O=>O|V r2=>bif wP (r2.t8<r2.t7)then if 0<=r2.t8/\r2.t8<r2.t6.length then match AG (ke.mk r2.t3 r2.t6[r2.t8.toNat]! r2.t6 r2.t7 r2.t8)with|O=>O|V r3=>bif bif wP (r3.t5=0)then wN else wO then if¬r3.t5=0then O else O else O else O else V (r2.t3)
def ZA:aK->aK:=eL wQ 226 wN (lc (ql 3) ln) d226 (fun g=>Ce g.1)
def CX:EO ZA:=fun h=>kL (an:=(noTwo (noTwo (.two (noTwo (NC.lp C8 W3)) .no)))) (l:=[(bg f226 0,(NC.lp C8 W3)),(bg f226 1,(NO.lp AG .no))]) func226 aR (ay (aO NC) (ay (aO NO) aB)) h
def mU:EP ZA:=fun h=>kP h
def ayg:aK:=dg
abbrev alb:Type:=Int
def d227:Td 0 alb:= .c [] [2] (.r 0 0 (ec 2 aM en) sn (fun z=>z.1.1) (fun x=>((x,()),(()))))
def aup:=(aN ln)
def ajs:An:= .no
def jD(a0:Int):alb:=
 if a0<i64.wrap (0-a0)then i64.wrap (0-a0)else a0
def azv(a0:Int):bU wQ (ayg) 300 (ajs) 227 (aup.c (a0,())) [] 0 d227.rd=V (jD a0):=by
 refine Eq.trans (b:=(
  V (if a0<i64.wrap (0-a0)then i64.wrap (0-a0)else a0):Option alb)) (by kernel_rfl) ?_
 simp only[jD,cv,cF]
def VP:aK->aK:=eL wQ 227 wN aup d227 (fun g=>V (jD g.1))
def CQ:EO VP:=fun h=>kL (an:=ajs) func227 aR aB h (c:=fun g=>azv g.1)
def GK:EP VP:=fun h=>kP h
def au5:aK:=(VP (ZA (Uc (EZ dg))))
abbrev avq:Type:=aI
def d148:Td 0 avq:= .c [] [4] (.r 0 1 (ec 4 (qp 0 0) en) (sb 0 34 (lg 34) sn) (fun z=>z.2.1) (fun x=>(((),()),(x,()))))
def asE:∀f∈([147]:List Nat),bh (au5) f:=(ay (GK (mU (kV (fC bB)))) aB)
def lZ(a0:aI)(a1:aI):Option avq:=
 bif fm a0 then V (a1)else match bif fm a1 then V (wO)else V (bif wP (a0.af=a1.af)then bif wP (a0.aa=a1.aa)then bif wP (a0.ai=a1.ai)then wO else wN else wN else wN)with|O=>O|V r1=>bif r1 then V (a0)else match Ce [a0.ai,a1.ai,jD (i64.wrap (a0.af-a1.af))]with|O=>O|V r2=>match nC (if a1.af<a0.af then a1.af else a0.af) (if a0.aa<a1.aa then a1.aa else a0.aa) r2 with|O=>O|V r3=>V (r3)
def VY:aK->aK:=eL wQ 148 wN (lc (qg 34) (lc (qg 34) ln)) d148 (fun g=>lZ g.1 g.2.1)
def si:EO VY:=fun h=>kL (F:=au5) (an:=(noTwo (noTwo (.two (.two (.rb [147] 14) .no) .no)))) (l:=[(.skip,(.rb [147] 14))]) func148 (CQ (CX (vT (ju aR)))) (ay asE aB) h
def Gu:EP VY:=fun h=>kP h
def F81:aK:=(acB (VY (EZ (ahf (Y3 (L6 dg))))))
abbrev E81:Type:=aI×Int
def d81:Td 0 E81:= .c [] [6,7] (.r 0 1 (ec 6 (qp 0 0) (ec 7 aM en)) (sb 0 34 (lg 34) sn) (fun z=>(z.2.1,z.1.2.1)) (fun x=>(((),x.2,()),(x.1,()))))
def ayr:∀f∈([145]:List Nat),bh (F81) f:=(ay (TP (Gu (fC (Uy (kU (fP bB)))))) aB)
def m81(a0:aI)(a1:Int)(a2:Int):Option E81:=
 match tV a0 with|O=>O|V r1=>bif bif r1 then wN else wO then V ((aI.mk (0) (0) (0),1))else match bif wP (a2<a1)then V (wO)else bif bif jL a1 then wN else wO then V (wO)else V (bif jL a2 then wN else wO)with|O=>O|V r2=>bif r2 then V ((aI.mk (0) (0) (0),3))else match BZ a0 (i64.wrap (a1-1))with|O=>O|V r3=>match BZ r3.snd a2 with|O=>O|V r4=>bif bif fm r3.fst then wN else wO then match lZ r4.fst (gJ a1)with|O=>O|V r5=>bif bif fm r4.snd then wN else wO then match lZ r5 (gJ a2)with|O=>O|V r6=>V ((r6,0))else V ((r5,0))else bif bif fm r4.snd then wN else wO then match lZ r4.fst (gJ a2)with|O=>O|V r7=>V ((r7,0))else V ((r4.fst,0))
def e81:aK->aK:=eL wQ 81 wN (lc (qg 34) (aN (aN ln))) d81 (fun g=>m81 g.1 g.2.1 g.2.2.1)
def M9:EO e81:=fun h=>kL (F:=F81) (an:=(noTwo (noTwo (.two (.two (.rb [145] 28) .no) .no)))) (l:=[(.skip,(.rb [145] 28))]) func81 (rM (si (ju (Iy (Cw (kQ aR)))))) (ay ayr aB) h
def avB:aK:=(EZ dg)
abbrev aqF:Type:=Bool
def d177:Td 0 aqF:= .c [] [4] (.r 0 0 (ec 4 qb en) sn (fun z=>z.1.1) (fun x=>((x,()),(()))))
def aix:∀f∈([147]:List Nat),bh (avB) f:=(ay (fC bB) aB)
def UL(a0:aI)(a1:Int):Option aqF:=
 match bif fm a0 then V wO else bif wP (a1<a0.af)then V wO else V (wP (a0.aa<a1))with|O=>O|V r1=>bif r1 then V wN else match bif wP (a0.ai=0)then V wO else if¬a0.ai=0then V (wP ((i64.wrap (a1-a0.af)).tmod a0.ai=0))else O with|O=>O|V r2=>V (r2)
def ab1:aK->aK:=eL wQ 177 wN (lc (qg 34) (aN ln)) d177 (fun g=>UL g.1 g.2.1)
def G8:EO ab1:=fun h=>kL (F:=avB) (an:=(noTwo (.two (.two (.rb [147] 18) .no) (.two (.rb [147] 4) .no)))) (l:=[(.skip,(.rb [147] 18)),(.skip,(.rb [147] 4))]) func177 (ju aR) (ay aix (ay aix aB)) h
def AP:EP ab1:=fun h=>kP h
def F92:aK:=(ab1 (L6 dg))
abbrev E92:Type:=Bool
def d92:Td 0 E92:= .c [] [4] (.r 0 0 (ec 4 qb en) sn (fun z=>z.1.1) (fun x=>((x,()),(()))))
def azR:∀f∈([144,177]:List Nat),bh (F92) f:=(ay (AP (fP bB)) (ay (AP (fP bB)) aB))
def UO(a0:aI)(a1:Int):Option E92:=
 match match tV a0 with|O=>O|V r1=>bif r1 then match UL a0 a1 with|O=>O|V r2=>V (r2)else V (wN)with|O=>O|V r3=>V (r3)
def e92:aK->aK:=eL wQ 92 wN (lc (qg 34) (aN ln)) d92 (fun g=>UO g.1 g.2.1)
def Ho:EO e92:=fun h=>kL (F:=F92) (an:=(noTwo (.two (.rb [144,177] 4) .no))) (l:=[(.skip,(.rb [144,177] 4))]) func92 (G8 (kQ aR)) (ay azR aB) h
def VV:EP e92:=fun h=>kP h
abbrev aqj:Type:=Int
def d176:Td 0 aqj:= .c [] [2] (.r 0 0 (ec 2 aM en) sn (fun z=>z.1.1) (fun x=>((x,()),(()))))
def Bv(a0:aI):Option aqj:=
 bif fm a0 then V 0 else bif wP (a0.ai=0)then V 1 else if¬a0.ai=0then V (i64.wrap (i64.wrap ((i64.wrap (a0.aa-a0.af)).tdiv a0.ai)+1))else O
def amW:aK->aK:=eL wQ 176 wN (lc (qg 34) ln) d176 (fun g=>Bv g.1)
def vE:EO amW:=fun h=>kL (an:= .no) func176 (ju aR) aB h
def U1:EP amW:=fun h=>kP h
abbrev atm:Type:=Bool×Bool
def d228:Td 0 atm:= .c [] [2,3] (.r 0 0 (ec 2 qb (ec 3 qb en)) sn (fun z=>(z.1.1,z.1.2.1)) (fun x=>((x.1,x.2,()),(()))))
def O9(a0:aI):Option atm:=
 match UL a0 (0)with|O=>O|V r1=>match Bv a0 with|O=>O|V r2=>bif wP (1<r2)then V ((r1,wO))else match Bv a0 with|O=>O|V r3=>bif wP (r3=1)then V ((r1,bif wP (a0.af=0)then wN else wO))else V ((r1,wN))
def agE:aK->aK:=eL wQ 228 wN (lc (qg 34) ln) d228 (fun g=>O9 g.1)
def Hj:EO agE:=fun h=>kL (an:= .no) func228 (G8 (vE aR)) aB h
def Gl:EP agE:=fun h=>kP h
abbrev asN:Type:=Bool×Bool
def d151:Td 0 asN:= .c [] [2,3] (.r 0 0 (ec 2 qb (ec 3 qb en)) sn (fun z=>(z.1.1,z.1.2.1)) (fun x=>((x.1,x.2,()),(()))))
def Pq(a0:aI):Option asN:=
 match tV a0 with|O=>O|V r1=>bif bif r1 then wN else wO then V ((wN,wN))else match O9 a0 with|O=>O|V r2=>V (r2)
def aeC:aK->aK:=eL wQ 151 wN (lc (qg 34) ln) d151 (fun g=>Pq g.1)
def Ii:EO aeC:=fun h=>kL (an:= .no) func151 (Hj (kQ aR)) aB h
def ate:aK:=(VY (L6 dg))
abbrev asV:Type:=aI×Int
def d229:Td 0 asV:= .c [] [4,5] (.r 0 1 (ec 4 (qp 0 0) (ec 5 aM en)) (sb 0 34 (lg 34) sn) (fun z=>(z.2.1,z.1.2.1)) (fun x=>(((),x.2,()),(x.1,()))))
def avk:∀f∈([144]:List Nat),bh (ate) f:=(ay (Gu (fP bB)) aB)
def adj(a0:aI)(a1:aI):Option asV:=
 match match tV a0 with|O=>O|V r1=>bif bif r1 then wN else wO then V (wO)else match tV a1 with|O=>O|V r2=>V (bif r2 then wN else wO)with|O=>O|V r3=>bif r3 then V ((aI.mk (0) (0) (0),1))else match lZ a0 a1 with|O=>O|V r4=>V ((r4,0))
def axu:aK->aK:=eL wQ 229 wN (lc (qg 34) (lc (qg 34) ln)) d229 (fun g=>adj g.1 g.2.1)
def aeb:EO axu:=fun h=>kL (F:=ate) (an:=(noTwo (.two (.two (.rb [144] 13) .no) .no))) (l:=[(.skip,(.rb [144] 13))]) func229 (si (kQ aR)) (ay avk aB) h
abbrev asW:Type:=aI
def d152:Td 0 asW:= .c [] [4] (.r 0 1 (ec 4 (qp 0 0) en) (sb 0 34 (lg 34) sn) (fun z=>z.2.1) (fun x=>(((),()),(x,()))))
def vR(a0:aI)(a1:aI):Option asW:=
 bif bif wP (a0.af=a1.af)then bif wP (a0.aa=a1.aa)then bif wP (a0.ai=a1.ai)then wO else wN else wN else wN then V (a0)else match adj a0 a1 with|O=>O|V r1=>V (r1.fst)
def apH:aK->aK:=eL wQ 152 wN (lc (qg 34) (lc (qg 34) ln)) d152 (fun g=>vR g.1 g.2.1)
def J5:EO apH:=fun h=>kL (an:= .no) func152 (aeb aR) aB h
def apM:aK:=(Lq dg)
abbrev atK:Type:=aI
def d153:Td 0 atK:= .c [] [0] (.r 0 1 (ec 0 (qp 0 0) en) (sb 0 34 (lg 34) sn) (fun z=>z.2.1) (fun x=>(((),()),(x,()))))
def auf:=ln
def ajy:An:= .no
def af4:atK:=
 iR
def ayk:bU wQ (apM) 300 (ajy) 153 (auf.c ()) [] 0 d153.rd=V (af4):=by kernel_rfl
def ave:aK->aK:=eL wQ 153 wN auf d153 (fun _=>V (af4))
def agT:EO ave:=fun h=>kL (F:=apM) (an:=ajy) func153 (jW aR) aB h (c:=fun _=>ayk)
abbrev ard:Type:=aI
def d230:Td 0 ard:= .c [] [4] (.r 0 1 (ec 4 (qp 0 0) en) (sb 0 34 (lg 34) sn) (fun z=>z.2.1) (fun x=>(((),()),(x,()))))
def oO(a0:Bool)(a1:Bool):Option ard:=
 bif a0 then match lZ iR (gJ (0))with|O=>O|V r1=>bif a1 then match lZ r1 (gJ (1))with|O=>O|V r2=>V (r2)else V (r1)else bif a1 then match lZ iR (gJ (1))with|O=>O|V r3=>V (r3)else V (iR)
def adX:aK->aK:=eL wQ 230 wN (lc qb (lc qb ln)) d230 (fun g=>oO g.1 g.2.1)
def RF:EO adX:=fun h=>kL (an:= .no) func230 (jW (rM (si aR))) aB h
def GI:EP adX:=fun h=>kP h
def apB:aK:=(adX (agE (EZ (L6 dg))))
abbrev asC:Type:=aI×Int
def d154:Td 0 asC:= .c [] [4,5] (.r 0 1 (ec 4 (qp 0 0) (ec 5 aM en)) (sb 0 34 (lg 34) sn) (fun z=>(z.2.1,z.1.2.1)) (fun x=>(((),x.2,()),(x.1,()))))
def atc:∀f∈([144]:List Nat),bh (apB) f:=(ay (GI (Gl (fC (fP bB)))) aB)
def aeV(a0:Int)(a1:aI):Option asC:=
 match match tV a1 with|O=>O|V r1=>bif bif r1 then wN else wO then V (wO)else bif bif wP (a0=6)then wN else wO then V (bif wP (a0=7)then wN else wO)else V (wN)with|O=>O|V r2=>bif r2 then V ((aI.mk (0) (0) (0),1))else bif fm a1 then V ((a1,0))else bif wP (a0=7)then match O9 a1 with|O=>O|V r3=>match oO r3.snd r3.fst with|O=>O|V r4=>V ((r4,0))else V ((aI.mk (i64.wrap (0-a1.aa)) (i64.wrap (0-a1.af)) a1.ai,0))
def atE:aK->aK:=eL wQ 154 wN (aN (lc (qg 34) ln)) d154 (fun g=>aeV g.1 g.2.1)
def ae4:EO atE:=fun h=>kL (F:=apB) (an:=(noTwo (.two (.two (.rb [144] 18) .no) .no))) (l:=[(.skip,(.rb [144] 18))]) func154 (RF (Hj (ju (kQ aR)))) (ay atc aB) h
def ayU:aK:=dg
abbrev anO:Type:=Bool
def d231:Td 0 anO:= .c [] [2] (.r 0 0 (ec 2 qb en) sn (fun z=>z.1.1) (fun x=>((x,()),(()))))
def aqd:=(aN ln)
def ah9:An:= .no
def B8(a0:Int):anO:=
 bif wP (a0=8)then wO else bif wP (a0=9)then wO else bif wP (a0=10)then wO else bif wP (a0=11)then wO else bif wP (a0=12)then wO else bif wP (a0=13)then wO else bif wP (a0=14)then wO else bif wP (a0=15)then wO else bif wP (a0=16)then wO else bif wP (a0=17)then wO else bif wP (a0=18)then wO else bif wP (a0=19)then wO else bif wP (a0=20)then wO else bif wP (a0=21)then wO else bif wP (a0=22)then wO else wN
def azp(a0:Int):bU wQ (ayU) 300 (ah9) 231 (aqd.c (a0,())) [] 0 d231.rd=V (B8 a0):=by
 refine Eq.trans (b:=(
  bif wP (a0=8)then V (wO)else bif wP (a0=9)then V (wO)else bif wP (a0=10)then V (wO)else bif wP (a0=11)then V (wO)else bif wP (a0=12)then V (wO)else bif wP (a0=13)then V (wO)else bif wP (a0=14)then V (wO)else bif wP (a0=15)then V (wO)else bif wP (a0=16)then V (wO)else bif wP (a0=17)then V (wO)else bif wP (a0=18)then V (wO)else bif wP (a0=19)then V (wO)else bif wP (a0=20)then V (wO)else bif wP (a0=21)then V (wO)else bif wP (a0=22)then V (wO)else V (wN):Option anO)) (by kernel_rfl) ?_
 simp only[B8,cv,cF]
def alK:aK->aK:=eL wQ 231 wN aqd d231 (fun g=>V (B8 g.1))
def acO:EO alK:=fun h=>kL (an:=ah9) func231 aR aB h (c:=fun g=>azp g.1)
def rO:EP alK:=fun h=>kP h
def ava:aK:=(VP dg)
abbrev arB:Type:=Int×Bool
def d274:Td 0 arB:= .c [] [4,5] (.r 0 0 (ec 4 aM (ec 5 qb en)) sn (fun z=>(z.1.1,z.1.2.1)) (fun x=>((x.1,x.2,()),(()))))
def apD:∀f∈([227]:List Nat),bh (ava) f:=(ay (GK bB) aB)
def Od(a0:Int)(a1:Int):Option arB:=
 match bif bif wP (a0=0)then wN else wO then if¬jD a0=0then V (wP (i64.wrap ((1099511627776:Int).tdiv (jD a0))<jD a1))else O else V wN with|O=>O|V r1=>bif r1 then V (0,wN)else V ((i64.wrap (a0*a1),wO))
def ay7:aK->aK:=eL wQ 274 wN (aN (aN ln)) d274 (fun g=>Od g.1 g.2.1)
def aef:EO ay7:=fun h=>kL (F:=ava) (an:=(noTwo (.two (.two (.rb [227] 15) .no) .no))) (l:=[(.skip,(.rb [227] 15))]) func274 (CQ aR) (ay apD aB) h
structure nP where
 t0:List Int
 (t3 t4:Int)
def PG:Td 0 nP:= .c [] [0,3,4] (.r 0 0 (ec 0 (ql 3) (ec 3 aM (ec 4 aM en))) sn (fun z=>⟨z.1.1,z.1.2.1,z.1.2.2.1⟩) (fun x=>((x.t0,x.t3,x.t4,()),(()))))
def Dr(p:nP):Option (Option nP):=
 bif wP (p.t4<p.t0.length)then if 0<=p.t4/\p.t4<p.t0.length then V (V (nP.mk p.t0 (if((p.t0,p.t3,p.t4,()),()).fst.fst[((p.t0,p.t3,p.t4,()),()).fst.snd.snd.fst.toNat]! <((p.t0,p.t3,p.t4,()),()).fst.snd.fst then p.t0[p.t4.toNat]! else p.t3) (i64.wrap (p.t4+1))))else O else V (O)
def Hx:nP->Option nP:=bI (Dr)
abbrev auJ:Type:=Int
def d275:Td 0 auJ:= .c [] [2] (.r 0 0 (ec 2 aM en) sn (fun z=>z.1.1) (fun x=>((x,()),(()))))
def aee(a0:List Int):Option auJ:=
 bif wP ((↑a0.length:Int)<1)then O else if(0:Int)<=(0:Int)/\(0:Int)<a0.length then match Hx (nP.mk a0 a0[0]! (1))with|O=>O|V r1=>bif wP (r1.t4<r1.t0.length)then if 0<=r1.t4/\r1.t4<r1.t0.length then O else O else V (r1.t3)else O
def azY:aK->aK:=eL wQ 275 wN (lc (ql 3) ln) d275 (fun g=>aee g.1)
def ab9:EO azY:=fun h=>kL (an:=(noTwo (noTwo (noTwo (.two (noTwo (PG.lp Hx .no)) .no))))) (l:=[(bg f275 0,(PG.lp Hx .no))]) func275 aR (ay (aO PG) aB) h
structure n6 where
 t0:List Int
 (t3 t4:Int)
def Nw:Td 0 n6:= .c [] [0,3,4] (.r 0 0 (ec 0 (ql 3) (ec 3 aM (ec 4 aM en))) sn (fun z=>⟨z.1.1,z.1.2.1,z.1.2.2.1⟩) (fun x=>((x.t0,x.t3,x.t4,()),(()))))
def Em(p:n6):Option (Option n6):=
 bif wP (p.t4<p.t0.length)then if 0<=p.t4/\p.t4<p.t0.length then V (V (n6.mk p.t0 (if((p.t0,p.t3,p.t4,()),()).fst.snd.fst<((p.t0,p.t3,p.t4,()),()).fst.fst[((p.t0,p.t3,p.t4,()),()).fst.snd.snd.fst.toNat]! then p.t0[p.t4.toNat]! else p.t3) (i64.wrap (p.t4+1))))else O else V (O)
def Iu:n6->Option n6:=bI (Em)
abbrev aps:Type:=Int
def d276:Td 0 aps:= .c [] [2] (.r 0 0 (ec 2 aM en) sn (fun z=>z.1.1) (fun x=>((x,()),(()))))
def aew(a0:List Int):Option aps:=
 bif wP ((↑a0.length:Int)<1)then O else if(0:Int)<=(0:Int)/\(0:Int)<a0.length then match Iu (n6.mk a0 a0[0]! (1))with|O=>O|V r1=>bif wP (r1.t4<r1.t0.length)then if 0<=r1.t4/\r1.t4<r1.t0.length then O else O else V (r1.t3)else O
def axP:aK->aK:=eL wQ 276 wN (lc (ql 3) ln) d276 (fun g=>aew g.1)
def af5:EO axP:=fun h=>kL (an:=(noTwo (noTwo (noTwo (.two (noTwo (Nw.lp Iu .no)) .no))))) (l:=[(bg f276 0,(Nw.lp Iu .no))]) func276 aR (ay (aO Nw) aB) h
abbrev auj:Type:=aI×Int
def d232:Td 0 auj:= .c [] [4,5] (.r 0 1 (ec 4 (qp 0 0) (ec 5 aM en)) (sb 0 34 (lg 34) sn) (fun z=>(z.2.1,z.1.2.1)) (fun x=>(((),x.2,()),(x.1,()))))
def Vh(a0:aI)(a1:aI):Option auj:=
 match Od a0.af a1.af with|O=>O|V r1=>bif bif r1.snd then wN else wO then V ((aI.mk (0) (0) (0),3))else match Od a0.af a1.aa with|O=>O|V r2=>bif bif r2.snd then wN else wO then V ((aI.mk (0) (0) (0),3))else match Od a0.aa a1.af with|O=>O|V r3=>bif bif r3.snd then wN else wO then V ((aI.mk (0) (0) (0),3))else match Od a0.aa a1.aa with|O=>O|V r4=>bif bif r4.snd then wN else wO then V ((aI.mk (0) (0) (0),3))else match Ce [i64.wrap (a0.ai*jD a1.af),i64.wrap (a1.ai*jD a0.af),i64.wrap (a0.ai*a1.ai)]with|O=>O|V r5=>match aee ([r1.fst]++[r2.fst]++[r3.fst]++[r4.fst])with|O=>O|V r6=>match aew ([r1.fst]++[r2.fst]++[r3.fst]++[r4.fst])with|O=>O|V r7=>match nC r6 r7 r5 with|O=>O|V r8=>V ((r8,0))
def ao5:aK->aK:=eL wQ 232 wN (lc (qg 34) (lc (qg 34) ln)) d232 (fun g=>Vh g.1 g.2.1)
def abu:EO ao5:=fun h=>kL (an:= .no) func232 (af5 (ab9 (aef (CQ (CX (vT aR)))))) aB h
def rC:EP ao5:=fun h=>kP h
def avP:aK:=(VP (Uc (VY (ahf dg))))
abbrev at4:Type:=aI
def d277:Td 0 at4:= .c [] [6] (.r 0 1 (ec 6 (qp 0 0) en) (sb 0 34 (lg 34) sn) (fun z=>z.2.1) (fun x=>(((),()),(x,()))))
def ase:∀f∈([]:List Nat),bh (avP) f:=aB
def UN(a0:Int)(a1:aI)(a2:aI):Option at4:=
 bif wP (a0=11)then match bif wP (0<=a1.af)then V (wP (0<=a2.af))else V (wN)with|O=>O|V r1=>bif r1 then match nC (0) (if jD a1.af<jD a1.aa then jD a1.aa else jD a1.af) (1)with|O=>O|V r2=>V (r2)else match nC (i64.wrap (0-if jD a1.af<jD a1.aa then jD a1.aa else jD a1.af)) (if jD a1.af<jD a1.aa then jD a1.aa else jD a1.af) (1)with|O=>O|V r3=>V (r3)else bif wP (a0=12)then match nC (if 0<i64.wrap (a2.af+1)then 0 else i64.wrap (a2.af+1)) (if i64.wrap (a2.aa-1)<0 then 0 else i64.wrap (a2.aa-1)) (1)with|O=>O|V r4=>V (r4)else bif wP (a0=21)then match lZ a1 a2 with|O=>O|V r5=>match BZ r5 (if a2.aa<a1.aa then a2.aa else a1.aa)with|O=>O|V r6=>V (r6.fst)else match lZ a1 a2 with|O=>O|V r7=>match BZ r7 (i64.wrap ((if a1.af<a2.af then a2.af else a1.af)-1))with|O=>O|V r8=>V (r8.snd)
def axS:aK->aK:=eL wQ 277 wN (aN (lc (qg 34) (lc (qg 34) ln))) d277 (fun g=>UN g.1 g.2.1 g.2.2.1)
def aaZ:EO axS:=fun h=>kL (F:=avP) (an:=(noTwo (.two (noTwo (noTwo (.two (noTwo (.two (.two (.rb [] 29) .no) .no)) .no))) .no))) (l:=[(.skip,(.rb [] 29))]) func277 (CQ (vT (si (Iy aR)))) (ay ase aB) h
structure kf where
 t3:List Int
 (t6 t7:Int)
 b0:aI
def Pn:Td 0 kf:= .c [] [1,3,6,7] (.t (cj.s 3 [] 3) (.c [] [1,3,6,7] (.r 0 2 (ec 1 (qp 0 0) (ec 3 (qo 1) (ec 6 aM (ec 7 aM en)))) (sb 0 34 (lg 34) (sr 1 3 sn)) (fun z=>⟨z.2.2.1,z.1.2.2.1,z.1.2.2.2.1,z.2.1⟩) (fun x=>(((),(),x.t6,x.t7,()),(x.b0,x.t3,()))))))
def tD(p:kf):Option (Option kf):=
 bif wP (p.t7<p.t6)then if(p.t3++[i64.wrap (p.b0.af+i64.wrap (p.t7*p.b0.ai))]).length<=1073741824 then V (V (kf.mk (p.t3++[i64.wrap (p.b0.af+i64.wrap (p.t7*p.b0.ai))]) p.t6 (i64.wrap (p.t7+1)) p.b0))else O else V (O)
def HD:kf->Option kf:=bI (tD)
abbrev apz:Type:=List Int
def d278:Td 0 apz:= .c [] [2] (.r 0 1 (ec 2 (qo 0) en) (sr 0 3 sn) (fun z=>z.2.1) (fun x=>(((),()),(x,()))))
def Ux(a0:aI):Option apz:=
 match Bv a0 with|O=>O|V r1=>match HD (kf.mk [] r1 (0) a0)with|O=>O|V r2=>bif wP (r2.t7<r2.t6)then if(r2.t3++[i64.wrap (r2.b0.af+i64.wrap (r2.t7*r2.b0.ai))]).length<=1073741824 then O else O else V (r2.t3)
def ax9:aK->aK:=eL wQ 278 wN (lc (qg 34) ln) d278 (fun g=>Ux g.1)
def afz:EO ax9:=fun h=>kL (an:=(noTwo (noTwo (.two (noTwo (Pn.lp HD .no)) .no)))) (l:=[(bg f278 0,(Pn.lp HD .no))]) func278 (vE aR) (ay (aO Pn) aB) h
def atp:aK:=dg
abbrev aqm:Type:=Int
def d315:Td 0 aqm:= .c [] [4] (.r 0 0 (ec 4 aM en) sn (fun z=>z.1.1) (fun x=>((x,()),(()))))
def aqS:∀f∈([]:List Nat),bh (atp) f:=aB
def We(a0:Int)(a1:Int):Option aqm:=
 bif wP (a1=0)then V 0 else if¬a1=0then match if¬a1=0then bif bif wP (a0.tmod a1=0)then wN else wO then V (bif wP (a0<0)==wP (a1<0)then wN else wO)else V wN else O with|O=>O|V r1=>bif r1 then V (i64.wrap (i64.wrap (a0.tdiv a1)-1))else V (i64.wrap (a0.tdiv a1))else O
def azX:aK->aK:=eL wQ 315 wN (aN (aN ln)) d315 (fun g=>We g.1 g.2.1)
def adP:EO azX:=fun h=>kL (F:=atp) (an:=(noTwo (noTwo (noTwo (.two (.two (.rb [] 21) .no) .no))))) (l:=[(.skip,(.rb [] 21))]) func315 aR (ay aqS aB) h
abbrev auk:Type:=Int
def d279:Td 0 auk:= .c [] [6] (.r 0 0 (ec 6 aM en) sn (fun z=>z.1.1) (fun x=>((x,()),(()))))
def T9(a0:Int)(a1:Int)(a2:Int):Option auk:=
 bif wP (a0=11)then match We a1 a2 with|O=>O|V r1=>V (r1)else bif wP (a0=12)then bif wP (a2=0)then V (0)else match We a1 a2 with|O=>O|V r2=>V (i64.wrap (a1-i64.wrap (a2*r2)))else bif wP (a0=21)then V (if a2<a1 then a2 else a1)else V (if a1<a2 then a2 else a1)
def ayR:aK->aK:=eL wQ 279 wN (aN (aN (aN ln))) d279 (fun g=>T9 g.1 g.2.1 g.2.2.1)
def abF:EO ayR:=fun h=>kL (an:= .no) func279 (adP aR) aB h
structure lE where
 (t0 t9:Int)
 t34:List Int
 (t35 t36:Int)
 t41:List Int
 (t42 t43:Int)
 (b0 b1 b2:aI)
def NT:Td 0 lE:= .c [] [0,5,6,7,9,34,35,36,41,42,43] (.r 0 5 (ec 0 aM (ec 5 (qp 0 0) (ec 6 (qp 1 0) (ec 7 (qp 2 0) (ec 9 aM (ec 34 (qo 3) (ec 35 aM (ec 36 aM (ec 41 (qo 4) (ec 42 aM (ec 43 aM en))))))))))) (sb 0 34 (lg 34) (sb 1 34 (lg 34) (sb 2 34 (lg 34) (sr 3 3 (sr 4 3 sn))))) (fun z=>⟨z.1.1,z.1.2.2.2.2.1,z.2.2.2.2.1,z.1.2.2.2.2.2.2.1,z.1.2.2.2.2.2.2.2.1,z.2.2.2.2.2.1,z.1.2.2.2.2.2.2.2.2.2.1,z.1.2.2.2.2.2.2.2.2.2.2.1,z.2.1,z.2.2.1,z.2.2.2.1⟩) (fun x=>((x.t0,(),(),(),x.t9,(),x.t35,x.t36,(),x.t42,x.t43,()),(x.b0,x.b1,x.b2,x.t34,x.t41,()))))
def Je(p:lE):Option (Option lE):=
 bif wP (p.t43<p.t42)then if 0<=p.t43/\p.t43<p.t41.length then if 3=3/\p.t43.toNat<p.t41.length then match T9 p.t0 p.t9 p.t41[p.t43.toNat]! with|O=>O|V r5=>match lZ p.b2 (gJ r5)with|O=>O|V r6=>V (V (lE.mk p.t0 p.t9 p.t34 p.t35 p.t36 p.t41 p.t42 (i64.wrap (p.t43+1)) p.b0 p.b1 r6))else O else O else V (O)
def Ey:lE->Option lE:=bI (Je)
structure mE where
 t0:Int
 t34:List Int
 (t35 t36:Int)
 (b0 b1 b2:aI)
def Pv:Td 0 mE:= .c [] [0,5,6,7,34,35,36] (.r 0 4 (ec 0 aM (ec 5 (qp 0 0) (ec 6 (qp 1 0) (ec 7 (qp 2 0) (ec 34 (qo 3) (ec 35 aM (ec 36 aM en))))))) (sb 0 34 (lg 34) (sb 1 34 (lg 34) (sb 2 34 (lg 34) (sr 3 3 sn)))) (fun z=>⟨z.1.1,z.2.2.2.2.1,z.1.2.2.2.2.2.1,z.1.2.2.2.2.2.2.1,z.2.1,z.2.2.1,z.2.2.2.1⟩) (fun x=>((x.t0,(),(),(),(),x.t35,x.t36,()),(x.b0,x.b1,x.b2,x.t34,()))))
def AB(p:mE):Option (Option mE):=
 bif wP (p.t36<p.t35)then if 0<=p.t36/\p.t36<p.t34.length then if 3=3/\p.t36.toNat<p.t34.length then match Ux p.b0 with|O=>O|V r1=>match Ey (lE.mk p.t0 p.t34[p.t36.toNat]! p.t34 p.t35 p.t36 r1 (↑(zc r1):Int) 0 p.b0 p.b1 p.b2)with|O=>O|V r2=>bif wP (r2.t43<r2.t42)then if 0<=r2.t43/\r2.t43<r2.t41.length then if 3=3/\r2.t43.toNat<r2.t41.length then match T9 r2.t0 r2.t9 r2.t41[r2.t43.toNat]! with|O=>O|V r3=>match lZ r2.b2 (gJ r3)with|O=>O|V r4=>O else O else O else V (V (mE.mk r2.t0 r2.t34 r2.t35 (i64.wrap (r2.t36+1)) r2.b0 r2.b1 r2.b2))else O else O else V (O)
def V6:An:=(noTwo (noTwo (.two (noTwo (noTwo (NT.lp Ey .no))) .no)))
def Ia:mE->Option mE:=bI (AB)
abbrev auA:Type:=aI
def d233:Td 0 auA:= .c [] [6] (.r 0 1 (ec 6 (qp 0 0) en) (sb 0 34 (lg 34) sn) (fun z=>z.2.1) (fun x=>(((),()),(x,()))))
def vD(a0:Int)(a1:aI)(a2:aI):Option auA:=
 match Bv a1 with|O=>O|V r7=>bif wP (4096<r7)then match UN a0 a1 a2 with|O=>O|V r8=>V (r8)else match Bv a2 with|O=>O|V r9=>bif wP (4096<r9)then match UN a0 a1 a2 with|O=>O|V r10=>V (r10)else match Bv a1 with|O=>O|V r11=>match Bv a2 with|O=>O|V r12=>bif wP (4096<i64.wrap (r11*r12))then match UN a0 a1 a2 with|O=>O|V r13=>V (r13)else match Ux a1 with|O=>O|V r14=>match Ia (mE.mk a0 r14 (↑(zc r14):Int) 0 a2 (aI.mk 0 0 0) iR)with|O=>O|V r15=>bif wP (r15.t36<r15.t35)then if 0<=r15.t36/\r15.t36<r15.t34.length then if 3=3/\r15.t36.toNat<r15.t34.length then match Ux r15.b0 with|O=>O|V r16=>match Ey (lE.mk r15.t0 r15.t34[r15.t36.toNat]! r15.t34 r15.t35 r15.t36 r16 (↑(zc r16):Int) 0 r15.b0 r15.b1 r15.b2)with|O=>O|V r17=>bif wP (r17.t43<r17.t42)then if 0<=r17.t43/\r17.t43<r17.t41.length then if 3=3/\r17.t43.toNat<r17.t41.length then match T9 r17.t0 r17.t9 r17.t41[r17.t43.toNat]! with|O=>O|V r18=>match lZ r17.b2 (gJ r18)with|O=>O|V r19=>O else O else O else O else O else O else V (r15.b2)
def aoI:aK->aK:=eL wQ 233 wN (aN (lc (qg 34) (lc (qg 34) ln))) d233 (fun g=>vD g.1 g.2.1 g.2.2.1)
def afS:EO aoI:=fun h=>kL (an:=(noTwo (noTwo (noTwo (.two (noTwo (Pv.lp Ia V6)) .no))))) (l:=[(bg f233 0,(Pv.lp Ia V6)),(bg f233 1,(NT.lp Ey .no))]) func233 (abF (afz (aaZ (jW (vE (rM (si aR))))))) (ay (aO Pv) (ay (aO NT) aB)) h
def rF:EP aoI:=fun h=>kP h
structure ko where
 (t1 t5 t6 t7 t8:Int)
def Qd:Td 0 ko:= .c [] [1,5,6,7,8] (.r 0 0 (ec 1 aM (ec 5 aM (ec 6 aM (ec 7 aM (ec 8 aM en))))) sn (fun z=>⟨z.1.1,z.1.2.1,z.1.2.2.1,z.1.2.2.2.1,z.1.2.2.2.2.1⟩) (fun x=>((x.t1,x.t5,x.t6,x.t7,x.t8,()),(()))))
def Fg(p:ko):Option (Option ko):=
 bif wP (1<p.t5)then if¬p.t5=0then V (V (ko.mk p.t1 (i64.wrap (p.t6-i64.wrap (i64.wrap (p.t6.tdiv p.t5)*p.t5))) p.t5 (i64.wrap (p.t8-i64.wrap (i64.wrap (p.t6.tdiv p.t5)*p.t7))) p.t7))else O else V (O)
def HQ:ko->Option ko:=bI (Fg)
abbrev arK:Type:=Int
def d341:Td 0 arK:= .c [] [4] (.r 0 0 (ec 4 aM en) sn (fun z=>z.1.1) (fun x=>((x,()),(()))))
def agM(a0:Int)(a1:Int):Option arK:=
 if¬a1=0then match HQ (ko.mk a1 (a0.tmod a1) a1 1 0)with|O=>O|V r1=>bif wP (1<r1.t5)then if¬r1.t5=0then O else O else if¬r1.t1=0then if¬r1.t1=0then V ((i64.wrap (r1.t7.tmod r1.t1+r1.t1)).tmod r1.t1)else O else O else O
def avL:aK->aK:=eL wQ 341 wN (aN (aN ln)) d341 (fun g=>agM g.1 g.2.1)
def ahi:EO avL:=fun h=>kL (an:=(noTwo (noTwo (.two (Qd.lp HQ .no) .no)))) (l:=[(bg f341 0,(Qd.lp HQ .no))]) func341 aR (ay (aO Qd) aB) h
def ap6:aK:=(avL (avI (ZA (Lq (acB dg)))))
abbrev avy:Type:=aI
def d316:Td 0 avy:= .c [] [4] (.r 0 1 (ec 4 (qp 0 0) en) (sb 0 34 (lg 34) sn) (fun z=>z.2.1) (fun x=>(((),()),(x,()))))
def arj:∀f∈([]:List Nat),bh (ap6) f:=aB
def aeJ(a0:aI)(a1:aI):Option avy:=
 match Ce [a0.ai,a1.ai]with|O=>O|V r1=>match bif wP ((if a1.aa<a0.aa then a1.aa else a0.aa)<if a0.af<a1.af then a1.af else a0.af)then V wO else if¬r1=0then V (bif wP ((i64.wrap (a1.af-a0.af)).tmod r1=0)then wN else wO)else O with|O=>O|V r2=>bif r2 then V (iR)else if¬r1=0then bif wP (1<i64.wrap (a1.ai.tdiv r1))then if¬r1=0then if¬i64.wrap (a1.ai.tdiv r1)=0then if¬i64.wrap (a1.ai.tdiv r1)=0then if¬r1=0then if¬i64.wrap (a1.ai.tdiv r1)=0then match agM ((i64.wrap (a0.ai.tdiv r1)).tmod (i64.wrap (a1.ai.tdiv r1))) (i64.wrap (a1.ai.tdiv r1))with|O=>O|V r3=>match ac0 ((i64.wrap ((i64.wrap ((i64.wrap (a1.af-a0.af)).tdiv r1)).tmod (i64.wrap (a1.ai.tdiv r1))+i64.wrap (a1.ai.tdiv r1))).tmod (i64.wrap (a1.ai.tdiv r1))) r3 (i64.wrap (a1.ai.tdiv r1))with|O=>O|V r4=>if¬a0.ai=0then if¬a0.ai=0then bif wP (r4<i64.wrap ((i64.wrap (i64.wrap (i64.wrap ((if a0.af<a1.af then a1.af else a0.af)-a0.af)+a0.ai)-1)).tdiv a0.ai))then if¬i64.wrap (a1.ai.tdiv r1)=0then bif wP (i64.wrap ((i64.wrap ((if a1.aa<a0.aa then a1.aa else a0.aa)-a0.af)).tdiv a0.ai)<i64.wrap (r4+i64.wrap (i64.wrap ((i64.wrap (i64.wrap (i64.wrap (i64.wrap ((i64.wrap (i64.wrap (i64.wrap ((if a0.af<a1.af then a1.af else a0.af)-a0.af)+a0.ai)-1)).tdiv a0.ai)-r4)+i64.wrap (a1.ai.tdiv r1))-1)).tdiv (i64.wrap (a1.ai.tdiv r1)))*i64.wrap (a1.ai.tdiv r1))))then V (iR)else if¬i64.wrap (a1.ai.tdiv r1)=0then bif wP (i64.wrap (r4+i64.wrap (i64.wrap ((i64.wrap (i64.wrap (i64.wrap (i64.wrap ((i64.wrap (i64.wrap (i64.wrap ((if a0.af<a1.af then a1.af else a0.af)-a0.af)+a0.ai)-1)).tdiv a0.ai)-r4)+i64.wrap (a1.ai.tdiv r1))-1)).tdiv (i64.wrap (a1.ai.tdiv r1)))*i64.wrap (a1.ai.tdiv r1)))=i64.wrap (i64.wrap (r4+i64.wrap (i64.wrap ((i64.wrap (i64.wrap (i64.wrap (i64.wrap ((i64.wrap (i64.wrap (i64.wrap ((if a0.af<a1.af then a1.af else a0.af)-a0.af)+a0.ai)-1)).tdiv a0.ai)-r4)+i64.wrap (a1.ai.tdiv r1))-1)).tdiv (i64.wrap (a1.ai.tdiv r1)))*i64.wrap (a1.ai.tdiv r1)))+i64.wrap (i64.wrap ((i64.wrap (i64.wrap ((i64.wrap ((if a1.aa<a0.aa then a1.aa else a0.aa)-a0.af)).tdiv a0.ai)-i64.wrap (r4+i64.wrap (i64.wrap ((i64.wrap (i64.wrap (i64.wrap (i64.wrap ((i64.wrap (i64.wrap (i64.wrap ((if a0.af<a1.af then a1.af else a0.af)-a0.af)+a0.ai)-1)).tdiv a0.ai)-r4)+i64.wrap (a1.ai.tdiv r1))-1)).tdiv (i64.wrap (a1.ai.tdiv r1)))*i64.wrap (a1.ai.tdiv r1))))).tdiv (i64.wrap (a1.ai.tdiv r1)))*i64.wrap (a1.ai.tdiv r1))))then V (gJ (i64.wrap (a0.af+i64.wrap (i64.wrap (r4+i64.wrap (i64.wrap ((i64.wrap (i64.wrap (i64.wrap (i64.wrap ((i64.wrap (i64.wrap (i64.wrap ((if a0.af<a1.af then a1.af else a0.af)-a0.af)+a0.ai)-1)).tdiv a0.ai)-r4)+i64.wrap (a1.ai.tdiv r1))-1)).tdiv (i64.wrap (a1.ai.tdiv r1)))*i64.wrap (a1.ai.tdiv r1)))*a0.ai))))else V (aI.mk (i64.wrap (a0.af+i64.wrap (i64.wrap (r4+i64.wrap (i64.wrap ((i64.wrap (i64.wrap (i64.wrap (i64.wrap ((i64.wrap (i64.wrap (i64.wrap ((if a0.af<a1.af then a1.af else a0.af)-a0.af)+a0.ai)-1)).tdiv a0.ai)-r4)+i64.wrap (a1.ai.tdiv r1))-1)).tdiv (i64.wrap (a1.ai.tdiv r1)))*i64.wrap (a1.ai.tdiv r1)))*a0.ai))) (i64.wrap (a0.af+i64.wrap (i64.wrap (i64.wrap (r4+i64.wrap (i64.wrap ((i64.wrap (i64.wrap (i64.wrap (i64.wrap ((i64.wrap (i64.wrap (i64.wrap ((if a0.af<a1.af then a1.af else a0.af)-a0.af)+a0.ai)-1)).tdiv a0.ai)-r4)+i64.wrap (a1.ai.tdiv r1))-1)).tdiv (i64.wrap (a1.ai.tdiv r1)))*i64.wrap (a1.ai.tdiv r1)))+i64.wrap (i64.wrap ((i64.wrap (i64.wrap ((i64.wrap ((if a1.aa<a0.aa then a1.aa else a0.aa)-a0.af)).tdiv a0.ai)-i64.wrap (r4+i64.wrap (i64.wrap ((i64.wrap (i64.wrap (i64.wrap (i64.wrap ((i64.wrap (i64.wrap (i64.wrap ((if a0.af<a1.af then a1.af else a0.af)-a0.af)+a0.ai)-1)).tdiv a0.ai)-r4)+i64.wrap (a1.ai.tdiv r1))-1)).tdiv (i64.wrap (a1.ai.tdiv r1)))*i64.wrap (a1.ai.tdiv r1))))).tdiv (i64.wrap (a1.ai.tdiv r1)))*i64.wrap (a1.ai.tdiv r1)))*a0.ai))) (i64.wrap (i64.wrap (a1.ai.tdiv r1)*a0.ai)))else O else O else bif wP (i64.wrap ((i64.wrap ((if a1.aa<a0.aa then a1.aa else a0.aa)-a0.af)).tdiv a0.ai)<r4)then V (iR)else if¬i64.wrap (a1.ai.tdiv r1)=0then bif wP (r4=i64.wrap (r4+i64.wrap (i64.wrap ((i64.wrap (i64.wrap ((i64.wrap ((if a1.aa<a0.aa then a1.aa else a0.aa)-a0.af)).tdiv a0.ai)-r4)).tdiv (i64.wrap (a1.ai.tdiv r1)))*i64.wrap (a1.ai.tdiv r1))))then V (gJ (i64.wrap (a0.af+i64.wrap (r4*a0.ai))))else V (aI.mk (i64.wrap (a0.af+i64.wrap (r4*a0.ai))) (i64.wrap (a0.af+i64.wrap (i64.wrap (r4+i64.wrap (i64.wrap ((i64.wrap (i64.wrap ((i64.wrap ((if a1.aa<a0.aa then a1.aa else a0.aa)-a0.af)).tdiv a0.ai)-r4)).tdiv (i64.wrap (a1.ai.tdiv r1)))*i64.wrap (a1.ai.tdiv r1)))*a0.ai))) (i64.wrap (i64.wrap (a1.ai.tdiv r1)*a0.ai)))else O else O else O else O else O else O else O else O else if¬a0.ai=0then if¬a0.ai=0then bif wP (0<i64.wrap ((i64.wrap (i64.wrap (i64.wrap ((if a0.af<a1.af then a1.af else a0.af)-a0.af)+a0.ai)-1)).tdiv a0.ai))then if¬i64.wrap (a1.ai.tdiv r1)=0then bif wP (i64.wrap ((i64.wrap ((if a1.aa<a0.aa then a1.aa else a0.aa)-a0.af)).tdiv a0.ai)<i64.wrap (0+i64.wrap (i64.wrap ((i64.wrap (i64.wrap (i64.wrap (i64.wrap ((i64.wrap (i64.wrap (i64.wrap ((if a0.af<a1.af then a1.af else a0.af)-a0.af)+a0.ai)-1)).tdiv a0.ai)-0)+i64.wrap (a1.ai.tdiv r1))-1)).tdiv (i64.wrap (a1.ai.tdiv r1)))*i64.wrap (a1.ai.tdiv r1))))then V (iR)else if¬i64.wrap (a1.ai.tdiv r1)=0then bif wP (i64.wrap (0+i64.wrap (i64.wrap ((i64.wrap (i64.wrap (i64.wrap (i64.wrap ((i64.wrap (i64.wrap (i64.wrap ((if a0.af<a1.af then a1.af else a0.af)-a0.af)+a0.ai)-1)).tdiv a0.ai)-0)+i64.wrap (a1.ai.tdiv r1))-1)).tdiv (i64.wrap (a1.ai.tdiv r1)))*i64.wrap (a1.ai.tdiv r1)))=i64.wrap (i64.wrap (0+i64.wrap (i64.wrap ((i64.wrap (i64.wrap (i64.wrap (i64.wrap ((i64.wrap (i64.wrap (i64.wrap ((if a0.af<a1.af then a1.af else a0.af)-a0.af)+a0.ai)-1)).tdiv a0.ai)-0)+i64.wrap (a1.ai.tdiv r1))-1)).tdiv (i64.wrap (a1.ai.tdiv r1)))*i64.wrap (a1.ai.tdiv r1)))+i64.wrap (i64.wrap ((i64.wrap (i64.wrap ((i64.wrap ((if a1.aa<a0.aa then a1.aa else a0.aa)-a0.af)).tdiv a0.ai)-i64.wrap (0+i64.wrap (i64.wrap ((i64.wrap (i64.wrap (i64.wrap (i64.wrap ((i64.wrap (i64.wrap (i64.wrap ((if a0.af<a1.af then a1.af else a0.af)-a0.af)+a0.ai)-1)).tdiv a0.ai)-0)+i64.wrap (a1.ai.tdiv r1))-1)).tdiv (i64.wrap (a1.ai.tdiv r1)))*i64.wrap (a1.ai.tdiv r1))))).tdiv (i64.wrap (a1.ai.tdiv r1)))*i64.wrap (a1.ai.tdiv r1))))then V (gJ (i64.wrap (a0.af+i64.wrap (i64.wrap (0+i64.wrap (i64.wrap ((i64.wrap (i64.wrap (i64.wrap (i64.wrap ((i64.wrap (i64.wrap (i64.wrap ((if a0.af<a1.af then a1.af else a0.af)-a0.af)+a0.ai)-1)).tdiv a0.ai)-0)+i64.wrap (a1.ai.tdiv r1))-1)).tdiv (i64.wrap (a1.ai.tdiv r1)))*i64.wrap (a1.ai.tdiv r1)))*a0.ai))))else V (aI.mk (i64.wrap (a0.af+i64.wrap (i64.wrap (0+i64.wrap (i64.wrap ((i64.wrap (i64.wrap (i64.wrap (i64.wrap ((i64.wrap (i64.wrap (i64.wrap ((if a0.af<a1.af then a1.af else a0.af)-a0.af)+a0.ai)-1)).tdiv a0.ai)-0)+i64.wrap (a1.ai.tdiv r1))-1)).tdiv (i64.wrap (a1.ai.tdiv r1)))*i64.wrap (a1.ai.tdiv r1)))*a0.ai))) (i64.wrap (a0.af+i64.wrap (i64.wrap (i64.wrap (0+i64.wrap (i64.wrap ((i64.wrap (i64.wrap (i64.wrap (i64.wrap ((i64.wrap (i64.wrap (i64.wrap ((if a0.af<a1.af then a1.af else a0.af)-a0.af)+a0.ai)-1)).tdiv a0.ai)-0)+i64.wrap (a1.ai.tdiv r1))-1)).tdiv (i64.wrap (a1.ai.tdiv r1)))*i64.wrap (a1.ai.tdiv r1)))+i64.wrap (i64.wrap ((i64.wrap (i64.wrap ((i64.wrap ((if a1.aa<a0.aa then a1.aa else a0.aa)-a0.af)).tdiv a0.ai)-i64.wrap (0+i64.wrap (i64.wrap ((i64.wrap (i64.wrap (i64.wrap (i64.wrap ((i64.wrap (i64.wrap (i64.wrap ((if a0.af<a1.af then a1.af else a0.af)-a0.af)+a0.ai)-1)).tdiv a0.ai)-0)+i64.wrap (a1.ai.tdiv r1))-1)).tdiv (i64.wrap (a1.ai.tdiv r1)))*i64.wrap (a1.ai.tdiv r1))))).tdiv (i64.wrap (a1.ai.tdiv r1)))*i64.wrap (a1.ai.tdiv r1)))*a0.ai))) (i64.wrap (i64.wrap (a1.ai.tdiv r1)*a0.ai)))else O else O else bif wP (i64.wrap ((i64.wrap ((if a1.aa<a0.aa then a1.aa else a0.aa)-a0.af)).tdiv a0.ai)<0)then V (iR)else if¬i64.wrap (a1.ai.tdiv r1)=0then bif wP (0=i64.wrap (0+i64.wrap (i64.wrap ((i64.wrap (i64.wrap ((i64.wrap ((if a1.aa<a0.aa then a1.aa else a0.aa)-a0.af)).tdiv a0.ai)-0)).tdiv (i64.wrap (a1.ai.tdiv r1)))*i64.wrap (a1.ai.tdiv r1))))then V (gJ (i64.wrap (a0.af+i64.wrap (0*a0.ai))))else V (aI.mk (i64.wrap (a0.af+i64.wrap (0*a0.ai))) (i64.wrap (a0.af+i64.wrap (i64.wrap (0+i64.wrap (i64.wrap ((i64.wrap (i64.wrap ((i64.wrap ((if a1.aa<a0.aa then a1.aa else a0.aa)-a0.af)).tdiv a0.ai)-0)).tdiv (i64.wrap (a1.ai.tdiv r1)))*i64.wrap (a1.ai.tdiv r1)))*a0.ai))) (i64.wrap (i64.wrap (a1.ai.tdiv r1)*a0.ai)))else O else O else O else O
def akw:aK->aK:=eL wQ 316 wN (lc (qg 34) (lc (qg 34) ln)) d316 (fun g=>aeJ g.1 g.2.1)
def aaz:EO akw:=fun h=>kL (F:=ap6) (an:=(noTwo (noTwo (noTwo (.two (.two (.rb [] 41) .no) .no))))) (l:=[(.skip,(.rb [] 41))]) func316 (ahi (ahA (CX (jW (rM aR))))) (ay arj aB) h
def Un:EP akw:=fun h=>kP h
abbrev Ai:Type:=aI
def d280:Td 0 Ai:= .c [] [4] (.r 0 1 (ec 4 (qp 0 0) en) (sb 0 34 (lg 34) sn) (fun z=>z.2.1) (fun x=>(((),()),(x,()))))
def alW:=(lc (qg 34) (lc (qg 34) ln))
def afc(M:aI->aI->Option Ai):aK->aK:=eL wQ 280 wN alW d280 (fun g=>M g.1 g.2.1)
def GZ{M:aI->aI->Option Ai}{F:aK}{f:Nat}(h:bh F f):bh (afc M F) f:=gP h (fun _=>by kernel_rfl)
def abx(M:aI->aI->Option Ai):Prop:=HL wQ 280 alW d280 (fun g=>M g.1 g.2.1)
def RA{M:aI->aI->Option Ai}(hM:abx M){F:aK}(h:bq wQ F):bq wQ (afc M F):=gI (sc:=Cc) eW hM ⟨_,func280,by kernel_rfl,by kernel_rfl⟩ (fun _=>by kernel_rfl) (fun _=>by kernel_rfl) h
def aa1(M280:aI->aI->Option Ai):aK:=(akw (afc M280 (Lq (ab1 (EZ dg)))))
def adQ{M280}(h280:abx M280):bq wQ (aa1 M280):=(aaz (RA h280 (jW (G8 (ju aR)))))
def aiR(M280:aI->aI->Option Ai):An:=(noTwo (.two (.two (.rb [147] 5) .no) .no))
def aus{M280}:∀f∈([147]:List Nat),bh (aa1 M280) f:=(ay (Un (GZ (kX (AP (fC bB))))) aB)
def aqJ(M280:aI->aI->Option Ai):eG wQ (aa1 M280) 0 300 280 (aiR M280):=bV (l:=[(.skip,(.rb [147] 5))]) func280 (bG (by kernel_rfl)) (by kernel_rfl) (ay aus aB)
def Ah(M280:aI->aI->Option Ai)(a0:aI)(a1:aI):Option Ai:=
 match bif fm a0 then V (wO)else V (fm a1)with|O=>O|V r1=>bif r1 then V (iR)else bif wP (a0.ai=0)then match UL a1 a0.af with|O=>O|V r2=>bif r2 then V (a0)else V (iR)else bif wP (a1.ai=0)then match M280 a1 a0 with|O=>O|V r3=>V (r3)else match aeJ a0 a1 with|O=>O|V r4=>V (r4)
def awN(M280:aI->aI->Option Ai)(a0:aI)(a1:aI):bU wQ (aa1 M280) 300 (aiR M280) 280 (alW.c (a0,a1,())) [] 0 d280.rd=Ah M280 a0 a1:=by kernel_rfl
def BI:Nat->(aI->aI->Option Ai)
 |0=>(fun _ _=>O)
 |n+1=>(Ah (BI n))
def ZS(n:Nat):aI->aI->Option Ai:=(BI n)
def Kt:∀n,abx (ZS n)
 |0=>fun _ _ h=>(by cases h)
 |n+1=>by
  have ih:=Kt n
  have i280:=ih
  exact(dG (adQ i280) (aqJ (ZS n)) (fun _=>by kernel_rfl) (fun _=>by kernel_rfl) fun g=>awN (ZS n) g.1 g.2.1)
def aeN:aI->aI->Option Ai:=fun a0 a1=>lim (fun n=>ZS n a0 a1)
def afH:abx aeN:=fun g b h=>by
 obtain⟨n,hn⟩:=cT (show lim (fun n=>ZS n g.1 g.2.1)=V b from h)
 exact(Kt n) g b hn
def amP(F:aK):aK:=afc aeN F
def agP{F:aK}(h:bq wQ F):bq wQ (amP F):=RA afH h
def T4{F:aK}{f:Nat}(h:bh F f):bh (amP F) f:=GZ h
def arh:aK:=(amP (adX (agE (amW (EZ dg)))))
abbrev arq:Type:=aI
def d234:Td 0 arq:= .c [] [6] (.r 0 1 (ec 6 (qp 0 0) en) (sb 0 34 (lg 34) sn) (fun z=>z.2.1) (fun x=>(((),()),(x,()))))
def auC:∀f∈([176]:List Nat),bh (arh) f:=(ay (T4 (GI (Gl (U1 (fC bB))))) aB)
def YF(a0:Int)(a1:aI)(a2:aI):Option arq:=
 match aeN a1 a2 with|O=>O|V r1=>match match Bv a1 with|O=>O|V r2=>bif wP (1<r2)then V (wO)else match Bv a2 with|O=>O|V r3=>bif wP (1<r3)then V (wO)else V (bif wP (a1.af=a2.af)then wN else wO)with|O=>O|V r4=>match O9 a1 with|O=>O|V r5=>match O9 a2 with|O=>O|V r6=>bif wP (a0=13)then match oO r4 (match fm r1 with|wO=>wN|wN=>wO)with|O=>O|V r7=>V (r7)else bif wP (a0=14)then match oO (match fm r1 with|wO=>wN|wN=>wO) r4 with|O=>O|V r8=>V (r8)else bif wP (a0=15)then match oO (wP (a2.af<=a1.aa)) (wP (a1.af<a2.aa))with|O=>O|V r9=>V (r9)else bif wP (a0=16)then match oO (wP (a2.af<a1.aa)) (wP (a1.af<=a2.aa))with|O=>O|V r10=>V (r10)else bif wP (a0=17)then match oO (wP (a1.af<=a2.aa)) (wP (a2.af<a1.aa))with|O=>O|V r11=>V (r11)else bif wP (a0=18)then match oO (wP (a1.af<a2.aa)) (wP (a2.af<=a1.aa))with|O=>O|V r12=>V (r12)else bif wP (a0=19)then bif r5.fst then bif r5.snd then match oO wO r6.snd with|O=>O|V r13=>V (r13)else match oO wO wN with|O=>O|V r14=>V (r14)else bif r5.snd then match oO r6.fst r6.snd with|O=>O|V r15=>V (r15)else match oO r6.fst wN with|O=>O|V r16=>V (r16)else bif r5.fst then bif r5.snd then match oO r6.fst wO with|O=>O|V r17=>V (r17)else match oO r6.fst r6.snd with|O=>O|V r18=>V (r18)else bif r5.snd then match oO wN wO with|O=>O|V r19=>V (r19)else match oO wN r6.snd with|O=>O|V r20=>V (r20)
def alQ:aK->aK:=eL wQ 234 wN (aN (lc (qg 34) (lc (qg 34) ln))) d234 (fun g=>YF g.1 g.2.1 g.2.2.1)
def ae8:EO alQ:=fun h=>kL (F:=arh) (an:=(noTwo (noTwo (.two (.rb [176] 8) .no)))) (l:=[(.skip,(.rb [176] 8))]) func234 (agP (RF (Hj (vE (ju aR))))) (ay auC aB) h
def rR:EP alQ:=fun h=>kP h
def auo:aK:=(alQ (aoI (ao5 (alK (ZA (Uc (Lq (EZ (Y3 (L6 dg))))))))))
abbrev aul:Type:=aI×Int
def d155:Td 0 aul:= .c [] [6,7] (.r 0 1 (ec 6 (qp 0 0) (ec 7 aM en)) (sb 0 34 (lg 34) sn) (fun z=>(z.2.1,z.1.2.1)) (fun x=>(((),x.2,()),(x.1,()))))
def YL:∀f∈([144,145,147,231]:List Nat),bh (auo) f:=(ay (rR (rF (rC (rO (mU (kV (kX (fC (kU (fP bB)))))))))) (ay (rR (rF (rC (rO (mU (kV (kX (fC (kU (fP bB)))))))))) (ay (rR (rF (rC (rO (mU (kV (kX (fC (kU (fP bB)))))))))) (ay (rR (rF (rC (rO (mU (kV (kX (fC (kU (fP bB)))))))))) aB))))
def uX(a0:Int)(a1:aI)(a2:aI):Option aul:=
 match match tV a1 with|O=>O|V r1=>bif bif r1 then wN else wO then V (wO)else match tV a2 with|O=>O|V r2=>bif bif r2 then wN else wO then V (wO)else V (bif B8 a0 then wN else wO)with|O=>O|V r3=>bif r3 then V ((aI.mk (0) (0) (0),1))else match bif fm a1 then V (wO)else V (fm a2)with|O=>O|V r4=>bif r4 then V ((iR,0))else bif wP (a0=9)then match bif bif jL (i64.wrap (a1.af+i64.wrap (0-a2.aa)))then wN else wO then V (wO)else V (bif jL (i64.wrap (a1.aa+i64.wrap (0-a2.af)))then wN else wO)with|O=>O|V r5=>bif r5 then V ((aI.mk (0) (0) (0),3))else match Ce [a1.ai,a2.ai]with|O=>O|V r6=>match nC (i64.wrap (a1.af+i64.wrap (0-a2.aa))) (i64.wrap (a1.aa+i64.wrap (0-a2.af))) r6 with|O=>O|V r7=>V ((r7,0))else bif wP (a0=8)then match bif bif jL (i64.wrap (a1.af+a2.af))then wN else wO then V (wO)else V (bif jL (i64.wrap (a1.aa+a2.aa))then wN else wO)with|O=>O|V r8=>bif r8 then V ((aI.mk (0) (0) (0),3))else match Ce [a1.ai,a2.ai]with|O=>O|V r9=>match nC (i64.wrap (a1.af+a2.af)) (i64.wrap (a1.aa+a2.aa)) r9 with|O=>O|V r10=>V ((r10,0))else bif wP (a0=10)then match Vh a1 a2 with|O=>O|V r11=>V (r11)else bif wP (a0=11)then match vD a0 a1 a2 with|O=>O|V r12=>V ((r12,0))else bif wP (a0=12)then match vD a0 a1 a2 with|O=>O|V r13=>V ((r13,0))else bif wP (a0=21)then match vD a0 a1 a2 with|O=>O|V r14=>V ((r14,0))else bif wP (a0=22)then match vD a0 a1 a2 with|O=>O|V r15=>V ((r15,0))else match YF a0 a1 a2 with|O=>O|V r16=>V ((r16,0))
def anz:aK->aK:=eL wQ 155 wN (aN (lc (qg 34) (lc (qg 34) ln))) d155 (fun g=>uX g.1 g.2.1 g.2.2.1)
def JU:EO anz:=fun h=>kL (F:=auo) (an:=(noTwo (.two (.two (.rb [144,145,147,231] 22) .no) (.two (.two (.rb [144,145,147,231] 29) .no) (.two (noTwo (.two (.two (noTwo (.two (noTwo (.two (.two (.rb [144,145,147,231] 69) .no) .no)) .no)) .no) .no)) .no))))) (l:=[(.skip,(.rb [144,145,147,231] 22)),(.skip,(.rb [144,145,147,231] 29)),(.skip,(.rb [144,145,147,231] 69))]) func155 (ae8 (afS (abu (acO (CX (vT (jW (ju (Cw (kQ aR)))))))))) (ay YL (ay YL (ay YL aB))) h
abbrev qy:Type:=aI×ax
def d150:Td 2 qy:= .c [] [4] (.r 2 3 (ec 4 (qp 2 0) en) (sb 0 128 (lg 128) (sb 1 215 (lc (qf 150 (lc (qp 0 0) (lc (qp 1 0) ln))) ln) (sb 2 34 (lg 34) sn))) (fun z=>(z.2.2.2.1,z.2.1)) (fun x=>(((),()),(x.2,(((),(),()),()),x.1,()))))
def alO:=(lc (qg 137) (lc (qp 0 0) (lc (qp 1 0) ln)))
def aoh:=(sb 0 128 (lg 128) (sb 1 215 (lc (qf 150 (lc (qp 0 0) (lc (qp 1 0) ln))) ln) sn))
def aka(M:aq->ax->Option qy):aK->aK:=eY wQ 150 2 alO aoh d150 (fun g=>M g.1.1 g.2.1)
def abP(M:aq->ax->Option qy):Prop:=HY wQ 150 2 alO aoh d150 (fun g=>M g.1.1 g.2.1)
def TF{M:aq->ax->Option qy}(hM:abP M){F:aK}(h:bq wQ F):bq wQ (aka M F):=LK hM ⟨_,func150,by kernel_rfl,by kernel_rfl⟩ (fun _=>by kernel_rfl) h
def al9(M150:aq->ax->Option qy):aK:=(anz (atE (ave (apH (aeC (aka M150 (e92 (e81 (e80 dg)))))))))
def ag9{M150}(h150:abP M150):bq wQ (al9 M150):=(JU (ae4 (agT (J5 (Ii (TF h150 (Ho (M9 (IB aR)))))))))
structure qV where
 t90:List aq
 (t91 t92:Int)
 b0:ax
 (b2 b3 b4:aI)
def NX:Td 2 qV:= .c [] [2,4,7,9,90,91,92] (.r 2 5 (ec 2 (qp 1 0) (ec 4 (qp 2 0) (ec 7 (qp 3 0) (ec 9 (qp 4 0) (ec 90 (ql 137) (ec 91 aM (ec 92 aM en))))))) (sb 0 128 (lg 128) (sb 1 215 (lc (qf 150 (lc (qp 0 0) (lc (qp 1 0) ln))) ln) (sb 2 34 (lg 34) (sb 3 34 (lg 34) (sb 4 34 (lg 34) sn))))) (fun z=>⟨z.1.2.2.2.2.1,z.1.2.2.2.2.2.1,z.1.2.2.2.2.2.2.1,z.2.1,z.2.2.2.1,z.2.2.2.2.1,z.2.2.2.2.2.1⟩) (fun x=>(((),(),(),(),x.t90,x.t91,x.t92,()),(x.b0,(((),(),()),()),x.b2,x.b3,x.b4,()))))
def HI(M150:aq->ax->Option qy)(p:qV):Option (Option qV):=
 bif wP (p.t92<p.t91)then if 0<=p.t92/\p.t92<p.t90.length then match UO p.b3 p.t92 with|O=>O|V r1=>bif r1 then match M150 (aq.mk p.t90[p.t92.toNat]!.bf p.t90[p.t92.toNat]!.fN p.t90[p.t92.toNat]!.ak) p.b0 with|O=>O|V r2=>match vR p.b4 r2.fst with|O=>O|V r3=>V (V (qV.mk p.t90 p.t91 (i64.wrap (p.t92+1)) r2.snd p.b2 p.b3 r3))else V (V (qV.mk p.t90 p.t91 (i64.wrap (p.t92+1)) p.b0 p.b2 p.b3 p.b4))else O else V (O)
def Jo(M150:aq->ax->Option qy):qV->Option qV:=bI (HI M150)
def ahI(M150:aq->ax->Option qy):An:=(noTwo (.two (noTwo (noTwo (noTwo (noTwo (noTwo (noTwo (noTwo (noTwo (.two (noTwo (noTwo (.two (noTwo (NX.lp (Jo M150) .no)) .no))) .no))))))))) .no))
def avY(M150:aq->ax->Option qy):eG wQ (al9 M150) 2 300 150 (ahI M150):=bV (l:=[(bg f150 0,(NX.lp (Jo M150) .no))]) func150 (bG (by kernel_rfl)) (by kernel_rfl) (ay (aO NX) aB)
def acH(M150:aq->ax->Option qy)(a0:aq)(b0:ax):Option qy:=
 bif wP (a0.bf=0)then V (Qx a0.fN,b0)else bif wP (a0.bf=24)then if 0<=a0.fN/\a0.fN<b0.ah.length then V (b0.ah[a0.fN.toNat]!,b0)else O else bif wP (a0.bf=23)then if(0:Int)<=(0:Int)/\(0:Int)<a0.ak.length then match M150 (aq.mk a0.ak[0]!.bf a0.ak[0]!.fN a0.ak[0]!.ak) b0 with|O=>O|V r4=>match Pq r4.fst with|O=>O|V r5=>bif bif r5.fst then wN else wO then if(0:Int)<=(1:Int)/\(1:Int)<a0.ak.length then match M150 (aq.mk a0.ak[1]!.bf a0.ak[1]!.fN a0.ak[1]!.ak) r4.snd with|O=>O|V r6=>V (r6)else O else bif bif r5.snd then wN else wO then if(0:Int)<=(2:Int)/\(2:Int)<a0.ak.length then match M150 (aq.mk a0.ak[2]!.bf a0.ak[2]!.fN a0.ak[2]!.ak) r4.snd with|O=>O|V r7=>V (r7)else O else if(0:Int)<=(1:Int)/\(1:Int)<a0.ak.length then match M150 (aq.mk a0.ak[1]!.bf a0.ak[1]!.fN a0.ak[1]!.ak) r4.snd with|O=>O|V r8=>if(0:Int)<=(2:Int)/\(2:Int)<a0.ak.length then match M150 (aq.mk a0.ak[2]!.bf a0.ak[2]!.fN a0.ak[2]!.ak) r8.snd with|O=>O|V r9=>match vR r8.fst r9.fst with|O=>O|V r10=>V (r10,r9.snd)else O else O else O else bif wP (a0.bf=25)then if(0:Int)<=(0:Int)/\(0:Int)<a0.ak.length then match M150 (aq.mk a0.ak[0]!.bf a0.ak[0]!.fN a0.ak[0]!.ak) b0 with|O=>O|V r11=>match m81 r11.fst 0 (i64.wrap ((↑a0.ak.length:Int)-2))with|O=>O|V r12=>if(0:Int)<=(1:Int)/\(1:Int)<=a0.ak.length then match Jo M150 (qV.mk (z7 1 a0.ak) (↑(z7 1 a0.ak).length:Int) 0 r11.snd (aI.mk 0 0 0) r12.fst af4)with|O=>O|V r13=>bif wP (r13.t92<r13.t91)then if 0<=r13.t92/\r13.t92<r13.t90.length then match UO r13.b3 r13.t92 with|O=>O|V r14=>bif r14 then match M150 (aq.mk r13.t90[r13.t92.toNat]!.bf r13.t90[r13.t92.toNat]!.fN r13.t90[r13.t92.toNat]!.ak) r13.b0 with|O=>O|V r15=>match vR r13.b4 r15.fst with|O=>O|V r16=>O else O else O else V (r13.b4,r13.b0)else O else O else bif wP ((↑a0.ak.length:Int)=1)then if(0:Int)<=(0:Int)/\(0:Int)<a0.ak.length then match M150 (aq.mk a0.ak[0]!.bf a0.ak[0]!.fN a0.ak[0]!.ak) b0 with|O=>O|V r17=>match aeV a0.bf r17.fst with|O=>O|V r18=>V (r18.fst,r17.snd)else O else if(0:Int)<=(0:Int)/\(0:Int)<a0.ak.length then match M150 (aq.mk a0.ak[0]!.bf a0.ak[0]!.fN a0.ak[0]!.ak) b0 with|O=>O|V r19=>if(0:Int)<=(1:Int)/\(1:Int)<a0.ak.length then match M150 (aq.mk a0.ak[1]!.bf a0.ak[1]!.fN a0.ak[1]!.ak) r19.snd with|O=>O|V r20=>match uX a0.bf r19.fst r20.fst with|O=>O|V r21=>V (r21.fst,r20.snd)else O else O
def azl(M150:aq->ax->Option qy)(a0:aq)(b0:ax):bU wQ (al9 M150) 300 (ahI M150) 150 (alO.c (a0,(),(),())) (aoh.d (b0,(((),(),()),()),())) 2 d150.rd=acH M150 a0 b0:=by kernel_rfl
def ajE:Nat->(aq->ax->Option qy)
 |0=>(fun _ _=>O)
 |n+1=>(acH (ajE n))
def PF(n:Nat):aq->ax->Option qy:=(ajE n)
def Lx:∀n,abP (PF n)
 |0=>fun _ _ h=>(by cases h)
 |n+1=>by
  have ih:=Lx n
  have i150:=ih
  exact(R6 (ag9 i150) (avY (PF n)) (fun _=>by kernel_rfl) (fun _=>by kernel_rfl) (fun _=>by kernel_rfl) fun g=>azl (PF n) g.1.1 g.2.1)
def ahu:aq->ax->Option qy:=fun a0 b0=>lim (fun n=>PF n a0 b0)
def aci:abP ahu:=fun g b h=>by
 obtain⟨n,hn⟩:=cT (show lim (fun n=>PF n g.1.1 g.2.1)=V b from h)
 exact(Lx n) g b hn
def awJ(F:aK):aK:=aka ahu F
def adH{F:aK}(h:bq wQ F):bq wQ (awJ F):=TF aci h
abbrev E91:Type:=Int
def d91:Td 0 E91:= .c [] [2] (.r 0 0 (ec 2 aM en) sn (fun z=>z.1.1) (fun x=>((x,()),(()))))
def HJ(a0:aI):Option E91:=
 match tV a0 with|O=>O|V r1=>bif bif r1 then wN else wO then V (0)else match Bv a0 with|O=>O|V r2=>V (r2)
def e91:aK->aK:=eL wQ 91 wN (lc (qg 34) ln) d91 (fun g=>HJ g.1)
def Py:EO e91:=fun h=>kL (an:= .no) func91 (vE (kQ aR)) aB h
def Dh:EP e91:=fun h=>kP h
def azq:aK:=dg
abbrev akN:Type:=Int
def d174:Td 0 akN:= .c [] [4] (.r 0 0 (ec 4 aM en) sn (fun z=>z.1.1) (fun x=>((x,()),(()))))
def avX:=(aN (aN ln))
def ajC:An:= .no
def ku(a0:Int)(a1:Int):akN:=
 bif wP (a1<a0)then a0 else a1
def ayv(a0:Int)(a1:Int):bU wQ (azq) 300 (ajC) 174 (avX.c (a0,a1,())) [] 0 d174.rd=V (ku a0 a1):=by
 refine Eq.trans (b:=(
  bif wP (a1<a0)then V (a0)else V (a1):Option akN)) (by kernel_rfl) ?_
 simp only[ku,cv,cF]
def TT:aK->aK:=eL wQ 174 wN avX d174 (fun g=>V (ku g.1 g.2.1))
def Co:EO TT:=fun h=>kL (an:=ajC) func174 aR aB h (c:=fun g=>ayv g.1 g.2.1)
def azj:aK:=dg
abbrev akU:Type:=Int
def d175:Td 0 akU:= .c [] [4] (.r 0 0 (ec 4 aM en) sn (fun z=>z.1.1) (fun x=>((x,()),(()))))
def asy:=(aN (aN ln))
def ahJ:An:= .no
def jF(a0:Int)(a1:Int):akU:=
 bif wP (a0<a1)then a0 else a1
def ay2(a0:Int)(a1:Int):bU wQ (azj) 300 (ahJ) 175 (asy.c (a0,a1,())) [] 0 d175.rd=V (jF a0 a1):=by
 refine Eq.trans (b:=(
  bif wP (a0<a1)then V (a0)else V (a1):Option akU)) (by kernel_rfl) ?_
 simp only[jF,cv,cF]
def af7:aK->aK:=eL wQ 175 wN asy d175 (fun g=>V (jF g.1 g.2.1))
def Cp:EO af7:=fun h=>kL (an:=ahJ) func175 aR aB h (c:=fun g=>ay2 g.1 g.2.1)
abbrev Mx:Type:=Int×Int×Int
def d90:Td 0 Mx:= .c [] [2,3,4] (.r 0 0 (ec 2 aM (ec 3 aM (ec 4 aM en))) sn (fun z=>(z.1.1,z.1.2.1,z.1.2.2.1)) (fun x=>((x.1,x.2.1,x.2.2,()),(()))))
def A90:=(lc (ql 166) ln)
def x90(M:(List au)->Option Mx):aK->aK:=eL wQ 90 wN A90 d90 (fun g=>M g.1)
def Xf{M:(List au)->Option Mx}{F:aK}{f:Nat}(h:bh F f):bh (x90 M F) f:=gP h (fun _=>by kernel_rfl)
def H90(M:(List au)->Option Mx):Prop:=HL wQ 90 A90 d90 (fun g=>M g.1)
def ZZ{M:(List au)->Option Mx}(hM:H90 M){F:aK}(h:bq wQ F):bq wQ (x90 M F):=gI (sc:=Cc) eW hM ⟨_,func90,by kernel_rfl,by kernel_rfl⟩ (fun _=>by kernel_rfl) (fun _=>by kernel_rfl) h
def F90(M90:(List au)->Option Mx):aK:=(af7 (TT (x90 M90 dg)))
def ams{M90}(h90:H90 M90):bq wQ (F90 M90):=(Cp (Co (ZZ h90 aR)))
structure sP where
 t0:List au
 (t5 t6 t7 t8:Int)
def Y2:Td 0 sP:= .c [] [0,5,6,7,8] (.r 0 0 (ec 0 (ql 166) (ec 5 aM (ec 6 aM (ec 7 aM (ec 8 aM en))))) sn (fun z=>⟨z.1.1,z.1.2.1,z.1.2.2.1,z.1.2.2.2.1,z.1.2.2.2.2.1⟩) (fun x=>((x.t0,x.t5,x.t6,x.t7,x.t8,()),(()))))
def Sd(M90:(List au)->Option Mx)(p:sP):Option (Option sP):=
 bif wP (p.t8<p.t0.length)then if 0<=p.t8/\p.t8<p.t0.length then match M90 p.t0[p.t8.toNat]!.aH with|O=>O|V r1=>match M90 p.t0[p.t8.toNat]!.aL with|O=>O|V r2=>bif wP (p.t0[p.t8.toNat]!.bN=4)then bif wP (p.t0[p.t8.toNat]!.bN=1)then V (V (sP.mk p.t0 (jF (i64.wrap (p.t5+i64.wrap (1+i64.wrap (p.t0[p.t8.toNat]!.fN*i64.wrap (1+r1.fst))))) 4097) (jF (i64.wrap (p.t6+1)) 9) (jF (i64.wrap (p.t7+i64.wrap (p.t0[p.t8.toNat]!.fN*i64.wrap (p.t0[p.t8.toNat]!.aQ+r1.snd.snd)))) 67108865) (i64.wrap (p.t8+1))))else V (V (sP.mk p.t0 (jF (i64.wrap (p.t5+i64.wrap (1+i64.wrap (p.t0[p.t8.toNat]!.fN*i64.wrap (1+r1.fst))))) 4097) (jF (i64.wrap (p.t6+i64.wrap (p.t0[p.t8.toNat]!.fN*r1.snd.fst))) 9) (jF (i64.wrap (p.t7+i64.wrap (p.t0[p.t8.toNat]!.fN*i64.wrap (p.t0[p.t8.toNat]!.aQ+r1.snd.snd)))) 67108865) (i64.wrap (p.t8+1))))else bif wP (p.t0[p.t8.toNat]!.bN=1)then V (V (sP.mk p.t0 (jF (i64.wrap (p.t5+i64.wrap (1+ku r1.fst r2.fst))) 4097) (jF (i64.wrap (p.t6+1)) 9) (jF (i64.wrap (p.t7+i64.wrap (p.t0[p.t8.toNat]!.aQ+ku r1.snd.snd r2.snd.snd))) 67108865) (i64.wrap (p.t8+1))))else V (V (sP.mk p.t0 (jF (i64.wrap (p.t5+i64.wrap (1+ku r1.fst r2.fst))) 4097) (jF (i64.wrap (p.t6+ku r1.snd.fst r2.snd.fst)) 9) (jF (i64.wrap (p.t7+i64.wrap (p.t0[p.t8.toNat]!.aQ+ku r1.snd.snd r2.snd.snd))) 67108865) (i64.wrap (p.t8+1))))else O else V (O)
def Rv(M90:(List au)->Option Mx):sP->Option sP:=bI (Sd M90)
def auL(M90:(List au)->Option Mx):An:=(noTwo (noTwo (.two (noTwo (Y2.lp (Rv M90) .no)) .no)))
def ayn(M90:(List au)->Option Mx):eG wQ (F90 M90) 0 300 90 (auL M90):=bV (l:=[(bg f90 0,(Y2.lp (Rv M90) .no))]) func90 (bG (by kernel_rfl)) (by kernel_rfl) (ay (aO Y2) aB)
def s90(M90:(List au)->Option Mx)(a0:List au):Option Mx:=
 match Rv M90 (sP.mk a0 0 0 0 0)with|O=>O|V r3=>bif wP (r3.t8<r3.t0.length)then if 0<=r3.t8/\r3.t8<r3.t0.length then match M90 r3.t0[r3.t8.toNat]!.aH with|O=>O|V r4=>match M90 r3.t0[r3.t8.toNat]!.aL with|O=>O|V r5=>bif wP (r3.t0[r3.t8.toNat]!.bN=4)then bif wP (r3.t0[r3.t8.toNat]!.bN=1)then O else O else bif wP (r3.t0[r3.t8.toNat]!.bN=1)then O else O else O else V (r3.t5,r3.t6,r3.t7)
def c90(M90:(List au)->Option Mx)(a0:List au):bU wQ (F90 M90) 300 (auL M90) 90 (A90.c (a0,())) [] 0 d90.rd=s90 M90 a0:=by kernel_rfl
def aqc:Nat->((List au)->Option Mx)
 |0=>(fun _=>O)
 |n+1=>(s90 (aqc n))
def m90(n:Nat):(List au)->Option Mx:=(aqc n)
def Ty:∀n,H90 (m90 n)
 |0=>fun _ _ h=>(by cases h)
 |n+1=>by
  have ih:=Ty n
  have i90:=ih
  exact(dG (ams i90) (ayn (m90 n)) (fun _=>by kernel_rfl) (fun _=>by kernel_rfl) fun g=>c90 (m90 n) g.1)
def r90:(List au)->Option Mx:=fun a0=>lim (fun n=>m90 n a0)
def amu:H90 r90:=fun g b h=>by
 obtain⟨n,hn⟩:=cT (show lim (fun n=>m90 n g.1)=V b from h)
 exact(Ty n) g b hn
def e90(F:aK):aK:=x90 r90 F
def Xn{F:aK}(h:bq wQ F):bq wQ (e90 F):=ZZ amu h
def Kw{F:aK}{f:Nat}(h:bh F f):bh (e90 F) f:=Xf h
abbrev qE:Type:=Int
def d216:Td 0 qE:= .c [] [2] (.r 0 0 (ec 2 aM en) sn (fun z=>z.1.1) (fun x=>((x,()),(()))))
def akH:=(lc (qg 137) ln)
def abC(M:aq->Option qE):aK->aK:=eL wQ 216 wN akH d216 (fun g=>M g.1)
def TV{M:aq->Option qE}{F:aK}{f:Nat}(h:bh F f):bh (abC M F) f:=gP h (fun _=>by kernel_rfl)
def af0(M:aq->Option qE):Prop:=HL wQ 216 akH d216 (fun g=>M g.1)
def RE{M:aq->Option qE}(hM:af0 M){F:aK}(h:bq wQ F):bq wQ (abC M F):=gI (sc:=Cc) eW hM ⟨_,func216,by kernel_rfl,by kernel_rfl⟩ (fun _=>by kernel_rfl) (fun _=>by kernel_rfl) h
def aoH(M216:aq->Option qE):aK:=(abC M216 dg)
def aga{M216}(h216:af0 M216):bq wQ (aoH M216):=(RE h216 aR)
structure um where
 (t3 t4:Int)
 b0:aq
def N1:Td 0 um:= .c [] [1,3,4] (.r 0 1 (ec 1 (qp 0 0) (ec 3 aM (ec 4 aM en))) (sb 0 137 (lg 137) sn) (fun z=>⟨z.1.2.1,z.1.2.2.1,z.2.1⟩) (fun x=>(((),x.t3,x.t4,()),(x.b0,()))))
def Ht(M216:aq->Option qE)(p:um):Option (Option um):=
 bif wP (p.t4<p.b0.ak.length)then if 0<=p.t4/\p.t4<p.b0.ak.length then match M216 (aq.mk p.b0.ak[p.t4.toNat]!.bf p.b0.ak[p.t4.toNat]!.fN p.b0.ak[p.t4.toNat]!.ak)with|O=>O|V r1=>V (V (um.mk (i64.wrap (p.t3+r1)) (i64.wrap (p.t4+1)) (aq.mk p.b0.bf p.b0.fN p.b0.ak)))else O else V (O)
def II(M216:aq->Option qE):um->Option um:=bI (Ht M216)
def ail(M216:aq->Option qE):An:=(noTwo (noTwo (.two (noTwo (N1.lp (II M216) .no)) .no)))
def asT(M216:aq->Option qE):eG wQ (aoH M216) 0 300 216 (ail M216):=bV (l:=[(bg f216 0,(N1.lp (II M216) .no))]) func216 (bG (by kernel_rfl)) (by kernel_rfl) (ay (aO N1) aB)
def aes(M216:aq->Option qE)(a0:aq):Option qE:=
 match II M216 (um.mk 1 0 (aq.mk a0.bf a0.fN a0.ak))with|O=>O|V r2=>bif wP (r2.t4<r2.b0.ak.length)then if 0<=r2.t4/\r2.t4<r2.b0.ak.length then match M216 (aq.mk r2.b0.ak[r2.t4.toNat]!.bf r2.b0.ak[r2.t4.toNat]!.fN r2.b0.ak[r2.t4.toNat]!.ak)with|O=>O|V r3=>O else O else V (r2.t3)
def ayt(M216:aq->Option qE)(a0:aq):bU wQ (aoH M216) 300 (ail M216) 216 (akH.c (a0,())) [] 0 d216.rd=aes M216 a0:=by kernel_rfl
def ajG:Nat->(aq->Option qE)
 |0=>(fun _=>O)
 |n+1=>(aes (ajG n))
def MW(n:Nat):aq->Option qE:=(ajG n)
def K2:∀n,af0 (MW n)
 |0=>fun _ _ h=>(by cases h)
 |n+1=>by
  have ih:=K2 n
  have i216:=ih
  exact(dG (aga i216) (asT (MW n)) (fun _=>by kernel_rfl) (fun _=>by kernel_rfl) fun g=>ayt (MW n) g.1)
def N5:aq->Option qE:=fun a0=>lim (fun n=>MW n a0)
def afr:af0 N5:=fun g b h=>by
 obtain⟨n,hn⟩:=cT (show lim (fun n=>MW n g.1)=V b from h)
 exact(K2 n) g b hn
def afX(F:aK):aK:=abC N5 F
def Qt{F:aK}(h:bq wQ F):bq wQ (afX F):=RE afr h
def Gg{F:aK}{f:Nat}(h:bh F f):bh (afX F) f:=TV h
abbrev qS:Type:=Int
def d215:Td 0 qS:= .c [] [2] (.r 0 0 (ec 2 aM en) sn (fun z=>z.1.1) (fun x=>((x,()),(()))))
def amH:=(lc (ql 166) ln)
def afx(M:(List au)->Option qS):aK->aK:=eL wQ 215 wN amH d215 (fun g=>M g.1)
def Ud{M:(List au)->Option qS}{F:aK}{f:Nat}(h:bh F f):bh (afx M F) f:=gP h (fun _=>by kernel_rfl)
def agO(M:(List au)->Option qS):Prop:=HL wQ 215 amH d215 (fun g=>M g.1)
def Rk{M:(List au)->Option qS}(hM:agO M){F:aK}(h:bq wQ F):bq wQ (afx M F):=gI (sc:=Cc) eW hM ⟨_,func215,by kernel_rfl,by kernel_rfl⟩ (fun _=>by kernel_rfl) (fun _=>by kernel_rfl) h
def ajZ(M215:(List au)->Option qS):aK:=(afX (afx M215 dg))
def aeY{M215}(h215:agO M215):bq wQ (ajZ M215):=(Qt (Rk h215 aR))
structure th where
 t0:List au
 (t3 t4:Int)
def N4:Td 0 th:= .c [] [0,3,4] (.r 0 0 (ec 0 (ql 166) (ec 3 aM (ec 4 aM en))) sn (fun z=>⟨z.1.1,z.1.2.1,z.1.2.2.1⟩) (fun x=>((x.t0,x.t3,x.t4,()),(()))))
def I5(M215:(List au)->Option qS)(p:th):Option (Option th):=
 bif wP (p.t4<p.t0.length)then if 0<=p.t4/\p.t4<p.t0.length then match N5 (aq.mk p.t0[p.t4.toNat]!.az.bf p.t0[p.t4.toNat]!.az.fN p.t0[p.t4.toNat]!.az.ak)with|O=>O|V r1=>if 0<=p.t4/\p.t4<p.t0.length then match M215 p.t0[p.t4.toNat]!.aH with|O=>O|V r2=>if 0<=p.t4/\p.t4<p.t0.length then match M215 p.t0[p.t4.toNat]!.aL with|O=>O|V r3=>V (V (th.mk p.t0 (i64.wrap (i64.wrap (i64.wrap (i64.wrap (p.t3+1)+r1)+r2)+r3)) (i64.wrap (p.t4+1))))else O else O else O else V (O)
def IM(M215:(List au)->Option qS):th->Option th:=bI (I5 M215)
def ajK(M215:(List au)->Option qS):An:=(noTwo (noTwo (.two (noTwo (N4.lp (IM M215) .no)) .no)))
def aqH(M215:(List au)->Option qS):eG wQ (ajZ M215) 0 300 215 (ajK M215):=bV (l:=[(bg f215 0,(N4.lp (IM M215) .no))]) func215 (bG (by kernel_rfl)) (by kernel_rfl) (ay (aO N4) aB)
def aaQ(M215:(List au)->Option qS)(a0:List au):Option qS:=
 match IM M215 (th.mk a0 0 0)with|O=>O|V r4=>bif wP (r4.t4<r4.t0.length)then if 0<=r4.t4/\r4.t4<r4.t0.length then match N5 (aq.mk r4.t0[r4.t4.toNat]!.az.bf r4.t0[r4.t4.toNat]!.az.fN r4.t0[r4.t4.toNat]!.az.ak)with|O=>O|V r5=>if 0<=r4.t4/\r4.t4<r4.t0.length then match M215 r4.t0[r4.t4.toNat]!.aH with|O=>O|V r6=>if 0<=r4.t4/\r4.t4<r4.t0.length then match M215 r4.t0[r4.t4.toNat]!.aL with|O=>O|V r7=>O else O else O else O else V (r4.t3)
def ayO(M215:(List au)->Option qS)(a0:List au):bU wQ (ajZ M215) 300 (ajK M215) 215 (amH.c (a0,())) [] 0 d215.rd=aaQ M215 a0:=by kernel_rfl
def ajF:Nat->((List au)->Option qS)
 |0=>(fun _=>O)
 |n+1=>(aaQ (ajF n))
def NW(n:Nat):(List au)->Option qS:=(ajF n)
def KJ:∀n,agO (NW n)
 |0=>fun _ _ h=>(by cases h)
 |n+1=>by
  have ih:=KJ n
  have i215:=ih
  exact(dG (aeY i215) (aqH (NW n)) (fun _=>by kernel_rfl) (fun _=>by kernel_rfl) fun g=>ayO (NW n) g.1)
def agd:(List au)->Option qS:=fun a0=>lim (fun n=>NW n a0)
def ad9:agO agd:=fun g b h=>by
 obtain⟨n,hn⟩:=cT (show lim (fun n=>NW n g.1)=V b from h)
 exact(KJ n) g b hn
def amF(F:aK):aK:=afx agd F
def abL{F:aK}(h:bq wQ F):bq wQ (amF F):=Rk ad9 h
def F5{F:aK}{f:Nat}(h:bh F f):bh (amF F) f:=Ud h
abbrev qR:Type:=Int
def d217:Td 0 qR:= .c [] [2] (.r 0 0 (ec 2 aM en) sn (fun z=>z.1.1) (fun x=>((x,()),(()))))
def aki:=(lc (qg 137) ln)
def ad4(M:aq->Option qR):aK->aK:=eL wQ 217 wN aki d217 (fun g=>M g.1)
def U4{M:aq->Option qR}{F:aK}{f:Nat}(h:bh F f):bh (ad4 M F) f:=gP h (fun _=>by kernel_rfl)
def aaF(M:aq->Option qR):Prop:=HL wQ 217 aki d217 (fun g=>M g.1)
def QT{M:aq->Option qR}(hM:aaF M){F:aK}(h:bq wQ F):bq wQ (ad4 M F):=gI (sc:=Cc) eW hM ⟨_,func217,by kernel_rfl,by kernel_rfl⟩ (fun _=>by kernel_rfl) (fun _=>by kernel_rfl) h
def akV(M217:aq->Option qR):aK:=(ad4 M217 dg)
def acv{M217}(h217:aaF M217):bq wQ (akV M217):=(QT h217 aR)
structure qc where
 (t3 t4:Int)
 b0:aq
def PT:Td 0 qc:= .c [] [1,3,4] (.r 0 1 (ec 1 (qp 0 0) (ec 3 aM (ec 4 aM en))) (sb 0 137 (lg 137) sn) (fun z=>⟨z.1.2.1,z.1.2.2.1,z.2.1⟩) (fun x=>(((),x.t3,x.t4,()),(x.b0,()))))
def H7(M217:aq->Option qR)(p:qc):Option (Option qc):=
 bif wP (p.t4<p.b0.ak.length)then if 0<=p.t4/\p.t4<p.b0.ak.length then match M217 (aq.mk p.b0.ak[p.t4.toNat]!.bf p.b0.ak[p.t4.toNat]!.fN p.b0.ak[p.t4.toNat]!.ak)with|O=>O|V r1=>bif wP (p.t3<r1)then V (V (qc.mk r1 (i64.wrap (p.t4+1)) (aq.mk p.b0.bf p.b0.fN p.b0.ak)))else V (V (qc.mk p.t3 (i64.wrap (p.t4+1)) (aq.mk p.b0.bf p.b0.fN p.b0.ak)))else O else V (O)
def IS(M217:aq->Option qR):qc->Option qc:=bI (H7 M217)
def ahD(M217:aq->Option qR):An:=(noTwo (noTwo (.two (noTwo (PT.lp (IS M217) .no)) .no)))
def aqK(M217:aq->Option qR):eG wQ (akV M217) 0 300 217 (ahD M217):=bV (l:=[(bg f217 0,(PT.lp (IS M217) .no))]) func217 (bG (by kernel_rfl)) (by kernel_rfl) (ay (aO PT) aB)
def aha(M217:aq->Option qR)(a0:aq):Option qR:=
 match IS M217 (qc.mk 0 0 (aq.mk a0.bf a0.fN a0.ak))with|O=>O|V r2=>bif wP (r2.t4<r2.b0.ak.length)then if 0<=r2.t4/\r2.t4<r2.b0.ak.length then match M217 (aq.mk r2.b0.ak[r2.t4.toNat]!.bf r2.b0.ak[r2.t4.toNat]!.fN r2.b0.ak[r2.t4.toNat]!.ak)with|O=>O|V r3=>bif wP (r2.t3<r3)then O else O else O else V (i64.wrap (r2.t3+1))
def awY(M217:aq->Option qR)(a0:aq):bU wQ (akV M217) 300 (ahD M217) 217 (aki.c (a0,())) [] 0 d217.rd=aha M217 a0:=by kernel_rfl
def ahO:Nat->(aq->Option qR)
 |0=>(fun _=>O)
 |n+1=>(aha (ahO n))
def OF(n:Nat):aq->Option qR:=(ahO n)
def Mm:∀n,aaF (OF n)
 |0=>fun _ _ h=>(by cases h)
 |n+1=>by
  have ih:=Mm n
  have i217:=ih
  exact(dG (acv i217) (aqK (OF n)) (fun _=>by kernel_rfl) (fun _=>by kernel_rfl) fun g=>awY (OF n) g.1)
def ME:aq->Option qR:=fun a0=>lim (fun n=>OF n a0)
def ael:aaF ME:=fun g b h=>by
 obtain⟨n,hn⟩:=cT (show lim (fun n=>OF n g.1)=V b from h)
 exact(Mm n) g b hn
def ab3(F:aK):aK:=ad4 ME F
def QH{F:aK}(h:bq wQ F):bq wQ (ab3 F):=QT ael h
def rY{F:aK}{f:Nat}(h:bh F f):bh (ab3 F) f:=U4 h
abbrev rz:Type:=Int
def d218:Td 0 rz:= .c [] [2] (.r 0 0 (ec 2 aM en) sn (fun z=>z.1.1) (fun x=>((x,()),(()))))
def ani:=(lc (ql 166) ln)
def abT(M:(List au)->Option rz):aK->aK:=eL wQ 218 wN ani d218 (fun g=>M g.1)
def Um{M:(List au)->Option rz}{F:aK}{f:Nat}(h:bh F f):bh (abT M F) f:=gP h (fun _=>by kernel_rfl)
def aaE(M:(List au)->Option rz):Prop:=HL wQ 218 ani d218 (fun g=>M g.1)
def Tg{M:(List au)->Option rz}(hM:aaE M){F:aK}(h:bq wQ F):bq wQ (abT M F):=gI (sc:=Cc) eW hM ⟨_,func218,by kernel_rfl,by kernel_rfl⟩ (fun _=>by kernel_rfl) (fun _=>by kernel_rfl) h
def alC(M218:(List au)->Option rz):aK:=(abT M218 dg)
def aaD{M218}(h218:aaE M218):bq wQ (alC M218):=(Tg h218 aR)
structure mD where
 t0:List au
 (t3 t4:Int)
def Nu:Td 0 mD:= .c [] [0,3,4] (.r 0 0 (ec 0 (ql 166) (ec 3 aM (ec 4 aM en))) sn (fun z=>⟨z.1.1,z.1.2.1,z.1.2.2.1⟩) (fun x=>((x.t0,x.t3,x.t4,()),(()))))
def HM(M218:(List au)->Option rz)(p:mD):Option (Option mD):=
 bif wP (p.t4<p.t0.length)then if 0<=p.t4/\p.t4<p.t0.length then match M218 p.t0[p.t4.toNat]!.aH with|O=>O|V r1=>if 0<=p.t4/\p.t4<p.t0.length then match M218 p.t0[p.t4.toNat]!.aL with|O=>O|V r2=>bif wP (p.t3<i64.wrap (r1+1))then bif wP (i64.wrap (r1+1)<i64.wrap (r2+1))then V (V (mD.mk p.t0 (i64.wrap (r2+1)) (i64.wrap (p.t4+1))))else V (V (mD.mk p.t0 (i64.wrap (r1+1)) (i64.wrap (p.t4+1))))else bif wP (p.t3<i64.wrap (r2+1))then V (V (mD.mk p.t0 (i64.wrap (r2+1)) (i64.wrap (p.t4+1))))else V (V (mD.mk p.t0 p.t3 (i64.wrap (p.t4+1))))else O else O else V (O)
def HV(M218:(List au)->Option rz):mD->Option mD:=bI (HM M218)
def ahY(M218:(List au)->Option rz):An:=(noTwo (noTwo (.two (noTwo (Nu.lp (HV M218) .no)) .no)))
def atC(M218:(List au)->Option rz):eG wQ (alC M218) 0 300 218 (ahY M218):=bV (l:=[(bg f218 0,(Nu.lp (HV M218) .no))]) func218 (bG (by kernel_rfl)) (by kernel_rfl) (ay (aO Nu) aB)
def aaM(M218:(List au)->Option rz)(a0:List au):Option rz:=
 match HV M218 (mD.mk a0 0 0)with|O=>O|V r3=>bif wP (r3.t4<r3.t0.length)then if 0<=r3.t4/\r3.t4<r3.t0.length then match M218 r3.t0[r3.t4.toNat]!.aH with|O=>O|V r4=>if 0<=r3.t4/\r3.t4<r3.t0.length then match M218 r3.t0[r3.t4.toNat]!.aL with|O=>O|V r5=>bif wP (r3.t3<i64.wrap (r4+1))then bif wP (i64.wrap (r4+1)<i64.wrap (r5+1))then O else O else bif wP (r3.t3<i64.wrap (r5+1))then O else O else O else O else V (r3.t3)
def aw6(M218:(List au)->Option rz)(a0:List au):bU wQ (alC M218) 300 (ahY M218) 218 (ani.c (a0,())) [] 0 d218.rd=aaM M218 a0:=by kernel_rfl
def ajH:Nat->((List au)->Option rz)
 |0=>(fun _=>O)
 |n+1=>(aaM (ajH n))
def OI(n:Nat):(List au)->Option rz:=(ajH n)
def LS:∀n,aaE (OI n)
 |0=>fun _ _ h=>(by cases h)
 |n+1=>by
  have ih:=LS n
  have i218:=ih
  exact(dG (aaD i218) (atC (OI n)) (fun _=>by kernel_rfl) (fun _=>by kernel_rfl) fun g=>aw6 (OI n) g.1)
def acY:(List au)->Option rz:=fun a0=>lim (fun n=>OI n a0)
def adC:aaE acY:=fun g b h=>by
 obtain⟨n,hn⟩:=cT (show lim (fun n=>OI n g.1)=V b from h)
 exact(LS n) g b hn
def ajU(F:aK):aK:=abT acY F
def acj{F:aK}(h:bq wQ F):bq wQ (ajU F):=Tg adC h
def GV{F:aK}{f:Nat}(h:bh F f):bh (ajU F) f:=Um h
abbrev oQ:Type:=Bool
def d219:Td 0 oQ:= .c [] [2] (.r 0 0 (ec 2 qb en) sn (fun z=>z.1.1) (fun x=>((x,()),(()))))
def akf:=(lc (ql 166) ln)
def ags(M:(List au)->Option oQ):aK->aK:=eL wQ 219 wN akf d219 (fun g=>M g.1)
def AF{M:(List au)->Option oQ}{F:aK}{f:Nat}(h:bh F f):bh (ags M F) f:=gP h (fun _=>by kernel_rfl)
def acN(M:(List au)->Option oQ):Prop:=HL wQ 219 akf d219 (fun g=>M g.1)
def RZ{M:(List au)->Option oQ}(hM:acN M){F:aK}(h:bq wQ F):bq wQ (ags M F):=gI (sc:=Cc) eW hM ⟨_,func219,by kernel_rfl,by kernel_rfl⟩ (fun _=>by kernel_rfl) (fun _=>by kernel_rfl) h
def acK(M219:(List au)->Option oQ):aK:=(ags M219 (ab3 dg))
def abJ{M219}(h219:acN M219):bq wQ (acK M219):=(RZ h219 (QH aR))
structure tG where
 t0:List au
 t3:Int
def Oa:Td 0 tG:= .c [] [0,3] (.r 0 0 (ec 0 (ql 166) (ec 3 aM en)) sn (fun z=>⟨z.1.1,z.1.2.1⟩) (fun x=>((x.t0,x.t3,()),(()))))
def Jn(M219:(List au)->Option oQ)(p:tG):Option (Option tG):=
 bif wP (p.t3<p.t0.length)then match if 0<=p.t3/\p.t3<p.t0.length then match ME (aq.mk p.t0[p.t3.toNat]!.az.bf p.t0[p.t3.toNat]!.az.fN p.t0[p.t3.toNat]!.az.ak)with|O=>O|V r1=>bif wP (12<r1)then V wO else if 0<=p.t3/\p.t3<p.t0.length then match M219 p.t0[p.t3.toNat]!.aH with|O=>O|V r2=>bif r2 then V wO else if 0<=p.t3/\p.t3<p.t0.length then match M219 p.t0[p.t3.toNat]!.aL with|O=>O|V r3=>V (r3)else O else O else O with|O=>O|V r4=>bif r4 then V (O)else V (V (tG.mk p.t0 (i64.wrap (p.t3+1))))else V (O)
def Xa(M219:(List au)->Option oQ):An:=(noTwo (.two (.two (.rb [217,219] 32) .no) .no))
def JI(M219:(List au)->Option oQ):tG->Option tG:=bI (Jn M219)
def aiN(M219:(List au)->Option oQ):An:=(noTwo (.two (noTwo (Oa.lp (JI M219) (Xa M219))) .no))
def atH{M219}:∀f∈([217,219]:List Nat),bh (acK M219) f:=(ay (AF (rY bB)) (ay (AF (rY bB)) aB))
def asq(M219:(List au)->Option oQ):eG wQ (acK M219) 0 300 219 (aiN M219):=bV (l:=[(bg f219 0,(Oa.lp (JI M219) (Xa M219))),(.skip,(.rb [217,219] 32))]) func219 (bG (by kernel_rfl)) (by kernel_rfl) (ay (aO Oa) (ay atH aB))
def aeR(M219:(List au)->Option oQ)(a0:List au):Option oQ:=
 match JI M219 (tG.mk a0 0)with|O=>O|V r5=>bif wP (r5.t3<r5.t0.length)then match if 0<=r5.t3/\r5.t3<r5.t0.length then match ME (aq.mk r5.t0[r5.t3.toNat]!.az.bf r5.t0[r5.t3.toNat]!.az.fN r5.t0[r5.t3.toNat]!.az.ak)with|O=>O|V r6=>bif wP (12<r6)then V wO else if 0<=r5.t3/\r5.t3<r5.t0.length then match M219 r5.t0[r5.t3.toNat]!.aH with|O=>O|V r7=>bif r7 then V wO else if 0<=r5.t3/\r5.t3<r5.t0.length then match M219 r5.t0[r5.t3.toNat]!.aL with|O=>O|V r8=>V (r8)else O else O else O with|O=>O|V r9=>bif r9 then V wO else O else V wN
def az4(M219:(List au)->Option oQ)(a0:List au):bU wQ (acK M219) 300 (aiN M219) 219 (akf.c (a0,())) [] 0 d219.rd=aeR M219 a0:=by kernel_rfl
def ah2:Nat->((List au)->Option oQ)
 |0=>(fun _=>O)
 |n+1=>(aeR (ah2 n))
def P3(n:Nat):(List au)->Option oQ:=(ah2 n)
def Lf:∀n,acN (P3 n)
 |0=>fun _ _ h=>(by cases h)
 |n+1=>by
  have ih:=Lf n
  have i219:=ih
  exact(dG (abJ i219) (asq (P3 n)) (fun _=>by kernel_rfl) (fun _=>by kernel_rfl) fun g=>az4 (P3 n) g.1)
def afv:(List au)->Option oQ:=fun a0=>lim (fun n=>P3 n a0)
def adM:acN afv:=fun g b h=>by
 obtain⟨n,hn⟩:=cT (show lim (fun n=>P3 n g.1)=V b from h)
 exact(Lf n) g b hn
def aln(F:aK):aK:=ags afv F
def abl{F:aK}(h:bq wQ F):bq wQ (aln F):=RZ adM h
def FW{F:aK}{f:Nat}(h:bh F f):bh (aln F) f:=AF h
def avv:aK:=(aln (ajU (ab3 (afX (amF dg)))))
structure tP where
 (t3 t4:Int)
 b0:aP
def PR:Td 0 tP:= .c [] [1,3,4] (.r 0 1 (ec 1 (qp 0 0) (ec 3 aM (ec 4 aM en))) (sb 0 26 (lg 26) sn) (fun z=>⟨z.1.2.1,z.1.2.2.1,z.2.1⟩) (fun x=>(((),x.t3,x.t4,()),(x.b0,()))))
def Fi(p:tP):Option (Option tP):=
 bif wP (p.t4<p.b0.aj.length)then if 0<=p.t4/\p.t4<p.b0.aj.length then match N5 (aq.mk p.b0.aj[p.t4.toNat]!.az.bf p.b0.aj[p.t4.toNat]!.az.fN p.b0.aj[p.t4.toNat]!.az.ak)with|O=>O|V r1=>if 0<=p.t4/\p.t4<p.b0.aj.length then match ME (aq.mk p.b0.aj[p.t4.toNat]!.az.bf p.b0.aj[p.t4.toNat]!.az.fN p.b0.aj[p.t4.toNat]!.az.ak)with|O=>O|V r2=>bif wP (12<r2)then V (O)else V (V (tP.mk (i64.wrap (p.t3+r1)) (i64.wrap (p.t4+1)) p.b0))else O else O else V (O)
def J4:tP->Option tP:=bI (Fi)
abbrev as7:Type:=Bool
def d138:Td 0 as7:= .c [] [2] (.r 0 0 (ec 2 qb en) sn (fun z=>z.1.1) (fun x=>((x,()),(()))))
def aiS:∀f∈([218,219]:List Nat),bh (avv) f:=(ay (FW (GV (rY (Gg (F5 bB))))) (ay (FW (GV (rY (Gg (F5 bB))))) aB))
def adS(a0:aP):Option as7:=
 match bif wP (64<(↑a0.ah.length:Int))then V wO else V (wP (8<(↑a0.aj.length:Int)))with|O=>O|V r3=>bif r3 then V wN else match agd a0.bJ with|O=>O|V r4=>match J4 (tP.mk r4 0 a0)with|O=>O|V r5=>bif wP (r5.t4<r5.b0.aj.length)then if 0<=r5.t4/\r5.t4<r5.b0.aj.length then match N5 (aq.mk r5.b0.aj[r5.t4.toNat]!.az.bf r5.b0.aj[r5.t4.toNat]!.az.fN r5.b0.aj[r5.t4.toNat]!.az.ak)with|O=>O|V r6=>if 0<=r5.t4/\r5.t4<r5.b0.aj.length then match ME (aq.mk r5.b0.aj[r5.t4.toNat]!.az.bf r5.b0.aj[r5.t4.toNat]!.az.fN r5.b0.aj[r5.t4.toNat]!.az.ak)with|O=>O|V r7=>bif wP (12<r7)then V wN else O else O else O else match bif wP (r5.t3<=1024)then match acY r5.b0.bJ with|O=>O|V r8=>bif wP (r8<=12)then match afv r5.b0.bJ with|O=>O|V r9=>V (bif r9 then wN else wO)else V wN else V wN with|O=>O|V r10=>V (r10)
def arQ:aK->aK:=eL wQ 138 wN (lc (qg 26) ln) d138 (fun g=>adS g.1)
def agR:EO arQ:=fun h=>kL (F:=avv) (an:=(noTwo (.two (.two (.rb [218,219] 14) .no) (noTwo (.two (noTwo (PR.lp J4 .no)) (.two (.rb [218,219] 2) .no)))))) (l:=[(.skip,(.rb [218,219] 14)),(bg f138 0,(PR.lp J4 .no)),(.skip,(.rb [218,219] 2))]) func138 (abl (acj (QH (Qt (abL aR))))) (ay aiS (ay (aO PR) (ay aiS aB))) h
def asF:aK:=dg
structure uh where
 t0:ByteArray
 t3:Int
def Pp:Td 0 uh:= .c [] [0,3] (.r 0 0 (ec 0 qs (ec 3 aM en)) sn (fun z=>⟨z.1.1,z.1.2.1⟩) (fun x=>((x.t0,x.t3,()),(()))))
def JD(p:uh):Option (Option uh):=
 bif wP (p.t3<p.t0.size)then if 0<=p.t3/\p.t3<p.t0.size then match bif wP (97<=cl p.t0 p.t3.toNat)then V (wP (cl p.t0 p.t3.toNat<=122))else V wN with|O=>O|V r1=>match bif wP (48<=cl p.t0 p.t3.toNat)then bif wP (cl p.t0 p.t3.toNat<=57)then V wO else bif wP (cl p.t0 p.t3.toNat=46)then V wO else V (wP (cl p.t0 p.t3.toNat=95))else bif wP (cl p.t0 p.t3.toNat=46)then V wO else V (wP (cl p.t0 p.t3.toNat=95))with|O=>O|V r2=>match bif bif r1 then wN else wO then bif wP (p.t3=0)then V wO else V (bif r2 then wN else wO)else V wN with|O=>O|V r3=>bif r3 then V (O)else V (V (uh.mk p.t0 (i64.wrap (p.t3+1))))else O else V (O)
def W0:An:=(noTwo (.two (noTwo (.two (.rb [] 5) (.two (.rb [] 6) (.two (.rb [] 53) .no)))) .no))
def I4:uh->Option uh:=bI (JD)
abbrev au4:Type:=Bool
def d140:Td 0 au4:= .c [] [2] (.r 0 0 (ec 2 qb en) sn (fun z=>z.1.1) (fun x=>((x,()),(()))))
def SO:∀f∈([]:List Nat),bh (asF) f:=aB
def N9(a0:ByteArray):Option au4:=
 match bif wP ((↑a0.size:Int)<1)then V wO else V (wP (40<(↑a0.size:Int)))with|O=>O|V r4=>bif r4 then V wN else match I4 (uh.mk a0 0)with|O=>O|V r5=>bif wP (r5.t3<r5.t0.size)then if 0<=r5.t3/\r5.t3<r5.t0.size then match bif wP (97<=cl r5.t0 r5.t3.toNat)then V (wP (cl r5.t0 r5.t3.toNat<=122))else V wN with|O=>O|V r6=>match bif wP (48<=cl r5.t0 r5.t3.toNat)then bif wP (cl r5.t0 r5.t3.toNat<=57)then V wO else bif wP (cl r5.t0 r5.t3.toNat=46)then V wO else V (wP (cl r5.t0 r5.t3.toNat=95))else bif wP (cl r5.t0 r5.t3.toNat=46)then V wO else V (wP (cl r5.t0 r5.t3.toNat=95))with|O=>O|V r7=>match bif bif r6 then wN else wO then bif wP (r5.t3=0)then V wO else V (bif r7 then wN else wO)else V wN with|O=>O|V r8=>bif r8 then V wN else O else O else V wO
def ad1:aK->aK:=eL wQ 140 wN (lc qs ln) d140 (fun g=>N9 g.1)
def Ta:EO ad1:=fun h=>kL (F:=asF) (an:=(noTwo (.two (.two (.rb [] 14) .no) (.two (noTwo (Pp.lp I4 W0)) .no)))) (l:=[(.skip,(.rb [] 14)),(bg f140 0,(Pp.lp I4 W0)),(.skip,(.rb [] 5)),(.skip,(.rb [] 6)),(.skip,(.rb [] 53))]) func140 aR (ay SO (ay (aO Pp) (ay SO (ay SO (ay SO aB))))) h
def UT:EP ad1:=fun h=>kP h
def ao8:aK:=dg
abbrev amx:Type:=Bool
def d141:Td 0 amx:= .c [] [4] (.r 0 0 (ec 4 qb en) sn (fun z=>z.1.1) (fun x=>((x,()),(()))))
def avt:=(aN (aN ln))
def aju:An:=(noTwo (.two (.rb [] 4) .no))
def ast:∀f∈([]:List Nat),bh (ao8) f:=aB
def IG(a0:Int)(a1:Int):amx:=
 let r1:Bool:=bif wP (a0<=a1)then bif wP (-1048576<=a0)then wP (a1<=1048576)else wN else wN;r1
def azW(a0:Int)(a1:Int):bU wQ (ao8) 300 (aju) 141 (avt.c (a0,a1,())) [] 0 d141.rd=V (IG a0 a1):=by
 refine Eq.trans (b:=(
  match bif wP (a0<=a1)then bif wP (-1048576<=a0)then V (wP (a1<=1048576))else V (wN)else V (wN)with|O=>O|V r1=>V (r1):Option amx)) (by kernel_rfl) ?_
 simp only[IG,cv,cF]
def ac7:aK->aK:=eL wQ 141 wN avt d141 (fun g=>V (IG g.1 g.2.1))
def Sv:EO ac7:=fun h=>kL (F:=ao8) (an:=aju) (l:=[(.skip,(.rb [] 4))]) func141 aR (ay ast aB) h (c:=fun g=>azW g.1 g.2.1)
def UR:EP ac7:=fun h=>kP h
structure pX where
 t0:List aS
 (t1 t5 t6:Int)
def O3:Td 0 pX:= .c [] [0,1,5,6] (.r 0 0 (ec 0 (ql 131) (ec 1 aM (ec 5 aM (ec 6 aM en)))) sn (fun z=>⟨z.1.1,z.1.2.1,z.1.2.2.1,z.1.2.2.2.1⟩) (fun x=>((x.t0,x.t1,x.t5,x.t6,()),(()))))
def Im(p:pX):Option (Option pX):=
 bif wP (p.t6<p.t0.length)then if 0<=p.t6/\p.t6<p.t0.length then bif bif wP (p.t0[p.t6.toNat]!.bk=p.t1)then wN else wO then V (V (pX.mk p.t0 p.t1 p.t5 (i64.wrap (p.t6+1))))else if 0<=p.t6/\p.t6<p.t0.length then if 0<=p.t6/\p.t6<p.t0.length then bif wP (4096<i64.wrap (p.t5*i64.wrap (i64.wrap (p.t0[p.t6.toNat]!.aa-p.t0[p.t6.toNat]!.af)+1)))then V (O)else V (V (pX.mk p.t0 p.t1 (i64.wrap (p.t5*i64.wrap (i64.wrap (p.t0[p.t6.toNat]!.aa-p.t0[p.t6.toNat]!.af)+1))) (i64.wrap (p.t6+1))))else O else O else O else V (O)
def Hp:pX->Option pX:=bI (Im)
abbrev asf:Type:=Int
def d220:Td 0 asf:= .c [] [4] (.r 0 0 (ec 4 aM en) sn (fun z=>z.1.1) (fun x=>((x,()),(()))))
def Vg(a0:List aS)(a1:Int):Option asf:=
 match Hp (pX.mk a0 a1 1 0)with|O=>O|V r1=>bif wP (r1.t6<r1.t0.length)then if 0<=r1.t6/\r1.t6<r1.t0.length then bif bif wP (r1.t0[r1.t6.toNat]!.bk=r1.t1)then wN else wO then O else if 0<=r1.t6/\r1.t6<r1.t0.length then if 0<=r1.t6/\r1.t6<r1.t0.length then bif wP (4096<i64.wrap (r1.t5*i64.wrap (i64.wrap (r1.t0[r1.t6.toNat]!.aa-r1.t0[r1.t6.toNat]!.af)+1)))then V 4097 else O else O else O else O else V (r1.t5)
def alE:aK->aK:=eL wQ 220 wN (lc (ql 131) (aN ln)) d220 (fun g=>Vg g.1 g.2.1)
def agm:EO alE:=fun h=>kL (an:=(noTwo (noTwo (.two (noTwo (O3.lp Hp .no)) .no)))) (l:=[(bg f220 0,(O3.lp Hp .no))]) func220 aR (ay (aO O3) aB) h
def T8:EP alE:=fun h=>kP h
def atd:aK:=(alE (ac7 (ad1 dg)))
structure rB where
 t0:List aS
 (t3 t5:Int)
 b0:aS
def NJ:Td 0 rB:= .c [] [0,3,4,5] (.r 0 1 (ec 0 (ql 131) (ec 3 aM (ec 4 (qp 0 0) (ec 5 aM en)))) (sb 0 131 (lg 131) sn) (fun z=>⟨z.1.1,z.1.2.1,z.1.2.2.2.1,z.2.1⟩) (fun x=>((x.t0,x.t3,(),x.t5,()),(x.b0,()))))
def Hh(p:rB):Option (Option rB):=
 bif wP (p.t5<p.t3)then if 0<=p.t5/\p.t5<p.t0.length then bif p.t0[p.t5.toNat]!.fName.toList==p.b0.fName.toList then V (O)else V (V (rB.mk p.t0 p.t3 (i64.wrap (p.t5+1)) p.b0))else O else V (O)
def DQ:rB->Option rB:=bI (Hh)
structure uG where
 t0:List aS
 t3:Int
def Ni:Td 0 uG:= .c [] [0,3] (.r 0 0 (ec 0 (ql 131) (ec 3 aM en)) sn (fun z=>⟨z.1.1,z.1.2.1⟩) (fun x=>((x.t0,x.t3,()),(()))))
def Bc(p:uG):Option (Option uG):=
 bif wP (p.t3<p.t0.length)then if 0<=p.t3/\p.t3<p.t0.length then match N9 p.t0[p.t3.toNat]!.fName with|O=>O|V r1=>bif bif r1 then wN else wO then V (O)else match DQ (rB.mk p.t0 p.t3 0 p.t0[p.t3.toNat]!)with|O=>O|V r2=>bif wP (r2.t5<r2.t3)then if 0<=r2.t5/\r2.t5<r2.t0.length then bif r2.t0[r2.t5.toNat]!.fName.toList==r2.b0.fName.toList then V (O)else O else O else match bif bif wP (r2.b0.bk=0)then wN else wO then bif bif wP (r2.b0.bk=1)then wN else wO then bif bif wP (r2.b0.bk=2)then wN else wO then V (bif wP (r2.b0.bk=3)then wN else wO)else V wN else V wN else V wN with|O=>O|V r3=>bif r3 then V (O)else bif bif IG r2.b0.af r2.b0.aa then wN else wO then V (O)else match bif wP (r2.b0.bk=0)then bif wP (r2.b0.dz<r2.b0.af)then V wO else bif wP (r2.b0.aa<r2.b0.dz)then V wO else bif bif wP (r2.b0.bk=0)then wN else wO then V (bif wP (r2.b0.dz=0)then wN else wO)else V wN else bif bif wP (r2.b0.bk=0)then wN else wO then V (bif wP (r2.b0.dz=0)then wN else wO)else V wN with|O=>O|V r4=>bif r4 then V (O)else V (V (uG.mk r2.t0 (i64.wrap (r2.t3+1))))else O else V (O)
def Yg:An:=(noTwo (.two (noTwo (noTwo (.two (noTwo (NJ.lp DQ .no)) (.two (.two (.rb [220] 50) .no) (noTwo (.two (.rb [220] 83) .no)))))) .no))
def HS:uG->Option uG:=bI (Bc)
abbrev aq1:Type:=Int
def d139:Td 0 aq1:= .c [] [2] (.r 0 0 (ec 2 aM en) sn (fun z=>z.1.1) (fun x=>((x,()),(()))))
def Zl:∀f∈([220]:List Nat),bh (atd) f:=(ay (T8 (UR (UT bB))) aB)
def agx(a0:List aS):Option aq1:=
 match HS (uG.mk a0 0)with|O=>O|V r5=>bif wP (r5.t3<r5.t0.length)then if 0<=r5.t3/\r5.t3<r5.t0.length then match N9 r5.t0[r5.t3.toNat]!.fName with|O=>O|V r6=>bif bif r6 then wN else wO then V 7 else match DQ (rB.mk r5.t0 r5.t3 0 r5.t0[r5.t3.toNat]!)with|O=>O|V r7=>bif wP (r7.t5<r7.t3)then if 0<=r7.t5/\r7.t5<r7.t0.length then bif r7.t0[r7.t5.toNat]!.fName.toList==r7.b0.fName.toList then V 8 else O else O else match bif bif wP (r7.b0.bk=0)then wN else wO then bif bif wP (r7.b0.bk=1)then wN else wO then bif bif wP (r7.b0.bk=2)then wN else wO then V (bif wP (r7.b0.bk=3)then wN else wO)else V wN else V wN else V wN with|O=>O|V r8=>bif r8 then V 1 else bif bif IG r7.b0.af r7.b0.aa then wN else wO then V 3 else match bif wP (r7.b0.bk=0)then bif wP (r7.b0.dz<r7.b0.af)then V wO else bif wP (r7.b0.aa<r7.b0.dz)then V wO else bif bif wP (r7.b0.bk=0)then wN else wO then V (bif wP (r7.b0.dz=0)then wN else wO)else V wN else bif bif wP (r7.b0.bk=0)then wN else wO then V (bif wP (r7.b0.dz=0)then wN else wO)else V wN with|O=>O|V r9=>bif r9 then V 3 else O else O else match match Vg r5.t0 1with|O=>O|V r10=>bif wP (4096<r10)then V wO else match Vg r5.t0 2with|O=>O|V r11=>bif wP (4096<r11)then V wO else match Vg r5.t0 3with|O=>O|V r12=>V (wP (256<r12))with|O=>O|V r13=>bif r13 then V 4 else V 0
def asQ:aK->aK:=eL wQ 139 wN (lc (ql 131) ln) d139 (fun g=>agx g.1)
def aaC:EO asQ:=fun h=>kL (F:=atd) (an:=(noTwo (.two (noTwo (Ni.lp HS Yg)) (.two (.two (.rb [220] 96) .no) .no)))) (l:=[(bg f139 0,(Ni.lp HS Yg)),(bg f139 1,(NJ.lp DQ .no)),(.skip,(.rb [220] 50)),(.skip,(.rb [220] 83)),(.skip,(.rb [220] 96))]) func139 (agm (Sv (Ta aR))) (ay (aO Ni) (ay (aO NJ) (ay Zl (ay Zl (ay Zl aB))))) h
def axZ:aK:=dg
abbrev ali:Type:=Int
def d270:Td 0 ali:= .c [] [2] (.r 0 0 (ec 2 aM en) sn (fun z=>z.1.1) (fun x=>((x,()),(()))))
def avm:=(aN ln)
def aiX:An:= .no
def FQ(a0:Int):ali:=
 bif wP (a0=0)then 0 else bif wP (a0=24)then 0 else bif wP (a0=6)then 1 else bif wP (a0=7)then 1 else bif wP (a0=8)then 2 else bif wP (a0=9)then 2 else bif wP (a0=10)then 2 else bif wP (a0=11)then 2 else bif wP (a0=12)then 2 else bif wP (a0=13)then 2 else bif wP (a0=14)then 2 else bif wP (a0=15)then 2 else bif wP (a0=16)then 2 else bif wP (a0=17)then 2 else bif wP (a0=18)then 2 else bif wP (a0=19)then 2 else bif wP (a0=20)then 2 else bif wP (a0=21)then 2 else bif wP (a0=22)then 2 else bif wP (a0=23)then 3 else bif wP (a0=25)then-2 else-1
def azV(a0:Int):bU wQ (axZ) 300 (aiX) 270 (avm.c (a0,())) [] 0 d270.rd=V (FQ a0):=by
 refine Eq.trans (b:=(
  bif wP (a0=0)then V (0)else bif wP (a0=24)then V (0)else bif wP (a0=6)then V (1)else bif wP (a0=7)then V (1)else bif wP (a0=8)then V (2)else bif wP (a0=9)then V (2)else bif wP (a0=10)then V (2)else bif wP (a0=11)then V (2)else bif wP (a0=12)then V (2)else bif wP (a0=13)then V (2)else bif wP (a0=14)then V (2)else bif wP (a0=15)then V (2)else bif wP (a0=16)then V (2)else bif wP (a0=17)then V (2)else bif wP (a0=18)then V (2)else bif wP (a0=19)then V (2)else bif wP (a0=20)then V (2)else bif wP (a0=21)then V (2)else bif wP (a0=22)then V (2)else bif wP (a0=23)then V (3)else bif wP (a0=25)then V (-2)else V (-1):Option ali)) (by kernel_rfl) ?_
 simp only[FQ,cv,cF]
def apX:aK->aK:=eL wQ 270 wN avm d270 (fun g=>V (FQ g.1))
def acs:EO apX:=fun h=>kL (an:=aiX) func270 aR aB h (c:=fun g=>azV g.1)
abbrev sA:Type:=Bool
def d221:Td 0 sA:= .c [] [6] (.r 0 0 (ec 6 qb en) sn (fun z=>z.1.1) (fun x=>((x,()),(()))))
def anA:=(lc (ql 131) (lc (qg 137) (lc qb ln)))
def aj5(M:(List aS)->aq->Bool->Option sA):aK->aK:=eL wQ 221 wN anA d221 (fun g=>M g.1 g.2.1 g.2.2.1)
def aaG(M:(List aS)->aq->Bool->Option sA):Prop:=HL wQ 221 anA d221 (fun g=>M g.1 g.2.1 g.2.2.1)
def R8{M:(List aS)->aq->Bool->Option sA}(hM:aaG M){F:aK}(h:bq wQ F):bq wQ (aj5 M F):=gI (sc:=Cc) eW hM ⟨_,func221,by kernel_rfl,by kernel_rfl⟩ (fun _=>by kernel_rfl) (fun _=>by kernel_rfl) h
def agB(M221:(List aS)->aq->Bool->Option sA):aK:=(apX (aj5 M221 dg))
def abX{M221}(h221:aaG M221):bq wQ (agB M221):=(acs (R8 h221 aR))
structure qK where
 t0:List aS
 t2:Bool
 t8:Int
 b0:aq
def Pc:Td 0 qK:= .c [] [0,2,4,8] (.r 0 1 (ec 0 (ql 131) (ec 2 qb (ec 4 (qp 0 0) (ec 8 aM en)))) (sb 0 137 (lg 137) sn) (fun z=>⟨z.1.1,z.1.2.1,z.1.2.2.2.1,z.2.1⟩) (fun x=>((x.t0,x.t2,(),x.t8,()),(x.b0,()))))
def HC(M221:(List aS)->aq->Bool->Option sA)(p:qK):Option (Option qK):=
 bif wP (p.t8<p.b0.ak.length)then if 0<=p.t8/\p.t8<p.b0.ak.length then match M221 p.t0 (aq.mk p.b0.ak[p.t8.toNat]!.bf p.b0.ak[p.t8.toNat]!.fN p.b0.ak[p.t8.toNat]!.ak) p.t2 with|O=>O|V r1=>bif bif r1 then wN else wO then V (O)else V (V (qK.mk p.t0 p.t2 (i64.wrap (p.t8+1)) (aq.mk p.b0.bf p.b0.fN p.b0.ak)))else O else V (O)
def C7(M221:(List aS)->aq->Bool->Option sA):qK->Option qK:=bI (HC M221)
def ahK(M221:(List aS)->aq->Bool->Option sA):An:=(noTwo (noTwo (.two (.two (.rb [] 40) .no) (.two (noTwo (.two (.two (.rb [] 65) .no) (.two (.rb [] 73) .no))) (.two (noTwo (Pc.lp (C7 M221) .no)) .no)))))
def ZR{M221}:∀f∈([]:List Nat),bh (agB M221) f:=aB
def auU(M221:(List aS)->aq->Bool->Option sA):eG wQ (agB M221) 0 300 221 (ahK M221):=bV (l:=[(.skip,(.rb [] 40)),(.skip,(.rb [] 65)),(.skip,(.rb [] 73)),(bg f221 0,(Pc.lp (C7 M221) .no))]) func221 (bG (by kernel_rfl)) (by kernel_rfl) (ay ZR (ay ZR (ay ZR (ay (aO Pc) aB))))
def adb(M221:(List aS)->aq->Bool->Option sA)(a0:List aS)(a1:aq)(a2:Bool):Option sA:=
 match bif wP (FQ a1.bf= -1)then V wO else bif wP (0<=FQ a1.bf)then bif bif wP (a1.ak.length=FQ a1.bf)then wN else wO then V wO else bif wP (FQ a1.bf= -2)then bif wP ((↑a1.ak.length:Int)<2)then V wO else V (wP (33<(↑a1.ak.length:Int)))else V wN else bif wP (FQ a1.bf= -2)then bif wP ((↑a1.ak.length:Int)<2)then V wO else V (wP (33<(↑a1.ak.length:Int)))else V wN with|O=>O|V r2=>bif r2 then V wN else bif wP (a1.bf=24)then match bif wP (a1.fN<0)then V wO else bif wP (a0.length<=a1.fN)then V wO else bif a2 then if 0<=a1.fN/\a1.fN<a0.length then V (wP (a0[a1.fN.toNat]!.bk=0))else O else V wN with|O=>O|V r3=>bif r3 then V wN else match C7 M221 (qK.mk a0 a2 0 (aq.mk a1.bf a1.fN a1.ak))with|O=>O|V r4=>bif wP (r4.t8<r4.b0.ak.length)then if 0<=r4.t8/\r4.t8<r4.b0.ak.length then match M221 r4.t0 (aq.mk r4.b0.ak[r4.t8.toNat]!.bf r4.b0.ak[r4.t8.toNat]!.fN r4.b0.ak[r4.t8.toNat]!.ak) r4.t2 with|O=>O|V r5=>bif bif r5 then wN else wO then V wN else O else O else V wO else match bif bif wP (a1.bf=0)then wN else wO then V (bif wP (a1.fN=0)then wN else wO)else V wN with|O=>O|V r6=>bif r6 then V wN else match C7 M221 (qK.mk a0 a2 0 (aq.mk a1.bf a1.fN a1.ak))with|O=>O|V r7=>bif wP (r7.t8<r7.b0.ak.length)then if 0<=r7.t8/\r7.t8<r7.b0.ak.length then match M221 r7.t0 (aq.mk r7.b0.ak[r7.t8.toNat]!.bf r7.b0.ak[r7.t8.toNat]!.fN r7.b0.ak[r7.t8.toNat]!.ak) r7.t2 with|O=>O|V r8=>bif bif r8 then wN else wO then V wN else O else O else V wO
def awT(M221:(List aS)->aq->Bool->Option sA)(a0:List aS)(a1:aq)(a2:Bool):bU wQ (agB M221) 300 (ahK M221) 221 (anA.c (a0,a1,a2,())) [] 0 d221.rd=adb M221 a0 a1 a2:=by kernel_rfl
def aiU:Nat->((List aS)->aq->Bool->Option sA)
 |0=>(fun _ _ _=>O)
 |n+1=>(adb (aiU n))
def ND(n:Nat):(List aS)->aq->Bool->Option sA:=(aiU n)
def L9:∀n,aaG (ND n)
 |0=>fun _ _ h=>(by cases h)
 |n+1=>by
  have ih:=L9 n
  have i221:=ih
  exact(dG (abX i221) (auU (ND n)) (fun _=>by kernel_rfl) (fun _=>by kernel_rfl) fun g=>awT (ND n) g.1 g.2.1 g.2.2.1)
def agb:(List aS)->aq->Bool->Option sA:=fun a0 a1 a2=>lim (fun n=>ND n a0 a1 a2)
def ag0:aaG agb:=fun g b h=>by
 obtain⟨n,hn⟩:=cT (show lim (fun n=>ND n g.1 g.2.1 g.2.2.1)=V b from h)
 exact(L9 n) g b hn
def azC(F:aK):aK:=aj5 agb F
def ac1{F:aK}(h:bq wQ F):bq wQ (azC F):=R8 ag0 h
def ayw:aK:=dg
abbrev alL:Type:=Int
def d313:Td 0 alL:= .c [] [2] (.r 0 0 (ec 2 aM en) sn (fun z=>z.1.1) (fun x=>((x,()),(()))))
def ark:=(aN ln)
def aiQ:An:= .no
def Bw(a0:Int):alL:=
 bif wP (a0<0)then i64.wrap (0-a0)else a0
def azM(a0:Int):bU wQ (ayw) 300 (aiQ) 313 (ark.c (a0,())) [] 0 d313.rd=V (Bw a0):=by
 refine Eq.trans (b:=(
  bif wP (a0<0)then V (i64.wrap (0-a0))else V (a0):Option alL)) (by kernel_rfl) ?_
 simp only[Bw,cv,cF]
def VQ:aK->aK:=eL wQ 313 wN ark d313 (fun g=>V (Bw g.1))
def aeW:EO VQ:=fun h=>kL (an:=aiQ) func313 aR aB h (c:=fun g=>azM g.1)
def ay9:aK:=(af7 (TT dg))
abbrev aon:Type:=Int×Int
def d314:Td 0 aon:= .c [] [4,5] (.r 0 0 (ec 4 aM (ec 5 aM en)) sn (fun z=>(z.1.1,z.1.2.1)) (fun x=>((x.1,x.2,()),(()))))
def apL:=(aN (aN ln))
def ajl:An:= .no
def Z9(a0:Int)(a1:Int):aon:=
 bif wP (a0<0)then bif wP (0<a1)then(jF (0) (i64.wrap (a0+1)),ku (0) (i64.wrap (a1-1)))else(jF (0) (i64.wrap (a0+1)),0)else bif wP (0<a1)then(0,ku (0) (i64.wrap (a1-1)))else(0,0)
def axH(a0:Int)(a1:Int):bU wQ (ay9) 300 (ajl) 314 (apL.c (a0,a1,())) [] 0 d314.rd=V (Z9 a0 a1):=by
 refine Eq.trans (b:=(
  bif wP (a0<0)then bif wP (0<a1)then V ((jF (0) (i64.wrap (a0+1)),ku (0) (i64.wrap (a1-1))))else V ((jF (0) (i64.wrap (a0+1)),0))else bif wP (0<a1)then V ((0,ku (0) (i64.wrap (a1-1))))else V ((0,0)):Option aon)) (by kernel_rfl) ?_
 simp only[Z9,cv,cF]
def aqW:aK->aK:=eL wQ 314 wN apL d314 (fun g=>V (Z9 g.1 g.2.1))
def ahr:EO aqW:=fun h=>kL (an:=ajl) func314 (Cp (Co aR)) aB h (c:=fun g=>axH g.1 g.2.1)
def asj:aK:=(aqW (VQ (af7 (TT dg))))
structure rq where
 (t2 t3:List Int)
 (t15 t16 t17:Int)
def OD:Td 0 rq:= .c [] [2,3,15,16,17] (.r 0 0 (ec 2 (ql 3) (ec 3 (ql 3) (ec 15 aM (ec 16 aM (ec 17 aM en))))) sn (fun z=>⟨z.1.1,z.1.2.1,z.1.2.2.1,z.1.2.2.2.1,z.1.2.2.2.2.1⟩) (fun x=>((x.t2,x.t3,x.t15,x.t16,x.t17,()),(()))))
def Ic(p:rq):Option (Option rq):=
 bif wP (p.t17<p.t2.length)then if 0<=p.t17/\p.t17<p.t2.length then if 0<=p.t17/\p.t17<p.t3.length then V (V (rq.mk p.t2 p.t3 (jF p.t15 p.t2[p.t17.toNat]!) (ku p.t16 p.t3[p.t17.toNat]!) (i64.wrap (p.t17+1))))else O else O else V (O)
def Ew:rq->Option rq:=bI (Ic)
abbrev asc:Type:=Int×Int
def d271:Td 0 asc:= .c [] [8,9] (.r 0 0 (ec 8 aM (ec 9 aM en)) sn (fun z=>(z.1.1,z.1.2.1)) (fun x=>((x.1,x.2,()),(()))))
def aij:∀f∈([]:List Nat),bh (asj) f:=aB
def aeB(a0:List aS)(a1:aq)(a2:List Int)(a3:List Int):Option asc:=
 bif wP (a1.bf=0)then match bif wP (a1.fN< -1048576)then V wO else V (wP (1048576<a1.fN))with|O=>O|V r1=>bif r1 then V (-1048577,1048577)else V (a1.fN,a1.fN)else bif wP (a1.bf=24)then if 0<=a1.fN/\a1.fN<a0.length then if 0<=a1.fN/\a1.fN<a0.length then V (a0[a1.fN.toNat]!.af,a0[a1.fN.toNat]!.aa)else O else O else bif wP (a1.bf=6)then if(0:Int)<=(0:Int)/\(0:Int)<a3.length then if(0:Int)<=(0:Int)/\(0:Int)<a2.length then V ((i64.wrap (0-a3[0]!),i64.wrap (0-a2[0]!)))else O else O else bif wP (a1.bf=8)then if(0:Int)<=(0:Int)/\(0:Int)<a2.length then if(0:Int)<=(1:Int)/\(1:Int)<a2.length then if(0:Int)<=(0:Int)/\(0:Int)<a3.length then if(0:Int)<=(1:Int)/\(1:Int)<a3.length then V ((i64.wrap (a2[0]! +a2[1]!),i64.wrap (a3[0]! +a3[1]!)))else O else O else O else O else bif wP (a1.bf=9)then if(0:Int)<=(0:Int)/\(0:Int)<a2.length then if(0:Int)<=(1:Int)/\(1:Int)<a3.length then if(0:Int)<=(0:Int)/\(0:Int)<a3.length then if(0:Int)<=(1:Int)/\(1:Int)<a2.length then V ((i64.wrap (a2[0]! -a3[1]!),i64.wrap (a3[0]! -a2[1]!)))else O else O else O else O else bif wP (a1.bf=10)then if(0:Int)<=(0:Int)/\(0:Int)<a2.length then if(0:Int)<=(1:Int)/\(1:Int)<a2.length then if(0:Int)<=(0:Int)/\(0:Int)<a2.length then if(0:Int)<=(1:Int)/\(1:Int)<a3.length then if(0:Int)<=(0:Int)/\(0:Int)<a3.length then if(0:Int)<=(1:Int)/\(1:Int)<a2.length then if(0:Int)<=(0:Int)/\(0:Int)<a3.length then if(0:Int)<=(1:Int)/\(1:Int)<a3.length then V ((jF (jF (i64.wrap (a2[0]! *a2[1]!)) (i64.wrap (a2[0]! *a3[1]!))) (jF (i64.wrap (a3[0]! *a2[1]!)) (i64.wrap (a3[0]! *a3[1]!))),ku (ku (i64.wrap (a2[0]! *a2[1]!)) (i64.wrap (a2[0]! *a3[1]!))) (ku (i64.wrap (a3[0]! *a2[1]!)) (i64.wrap (a3[0]! *a3[1]!)))))else O else O else O else O else O else O else O else O else bif wP (a1.bf=11)then if(0:Int)<=(0:Int)/\(0:Int)<a2.length then if(0:Int)<=(0:Int)/\(0:Int)<a3.length then match if(0:Int)<=(0:Int)/\(0:Int)<a2.length then bif wP (0<=a2[yC 0]!)then if(0:Int)<=(1:Int)/\(1:Int)<a2.length then V (wP (0<=a2[yC 1]!))else O else V wN else O with|O=>O|V r2=>bif r2 then V ((0,ku (Bw a2[0]!) (Bw a3[0]!)))else V ((i64.wrap (0-ku (Bw a2[0]!) (Bw a3[0]!)),ku (Bw a2[0]!) (Bw a3[0]!)))else O else O else bif wP (a1.bf=12)then if(0:Int)<=(1:Int)/\(1:Int)<a2.length then if(0:Int)<=(1:Int)/\(1:Int)<a3.length then V (Z9 a2[1]! a3[1]!)else O else O else bif wP (a1.bf=21)then if(0:Int)<=(0:Int)/\(0:Int)<a2.length then if(0:Int)<=(1:Int)/\(1:Int)<a2.length then if(0:Int)<=(0:Int)/\(0:Int)<a3.length then if(0:Int)<=(1:Int)/\(1:Int)<a3.length then V (jF a2[0]! a2[1]!,jF a3[0]! a3[1]!)else O else O else O else O else bif wP (a1.bf=22)then if(0:Int)<=(0:Int)/\(0:Int)<a2.length then if(0:Int)<=(1:Int)/\(1:Int)<a2.length then if(0:Int)<=(0:Int)/\(0:Int)<a3.length then if(0:Int)<=(1:Int)/\(1:Int)<a3.length then V (ku a2[0]! a2[1]!,ku a3[0]! a3[1]!)else O else O else O else O else bif wP (a1.bf=23)then if(0:Int)<=(1:Int)/\(1:Int)<a2.length then if(0:Int)<=(1:Int)/\(1:Int)<a3.length then match Ew (rq.mk a2 a3 a2[1]! a3[1]! (2))with|O=>O|V r3=>bif wP (r3.t17<r3.t2.length)then if 0<=r3.t17/\r3.t17<r3.t2.length then if 0<=r3.t17/\r3.t17<r3.t3.length then O else O else O else V (r3.t15,r3.t16)else O else O else bif wP (a1.bf=25)then if(0:Int)<=(1:Int)/\(1:Int)<a2.length then if(0:Int)<=(1:Int)/\(1:Int)<a3.length then match Ew (rq.mk a2 a3 a2[1]! a3[1]! (2))with|O=>O|V r4=>bif wP (r4.t17<r4.t2.length)then if 0<=r4.t17/\r4.t17<r4.t2.length then if 0<=r4.t17/\r4.t17<r4.t3.length then O else O else O else V (r4.t15,r4.t16)else O else O else V (0,1)
def asi:aK->aK:=eL wQ 271 wN (lc (ql 131) (lc (qg 137) (lc (ql 3) (lc (ql 3) ln)))) d271 (fun g=>aeB g.1 g.2.1 g.2.2.1 g.2.2.2.1)
def agG:EO asi:=fun h=>kL (F:=asj) (an:=(noTwo (.two (noTwo (noTwo (.two (.two (.two (.rb [] 29) .no) .no) (noTwo (noTwo (noTwo (noTwo (noTwo (noTwo (noTwo (noTwo (noTwo (noTwo (noTwo (.two (noTwo (.two (.two (.rb [] 154) .no) .no)) (noTwo (noTwo (noTwo (noTwo (noTwo (noTwo (noTwo (.two (noTwo (.two (noTwo (OD.lp Ew .no)) .no)) .no))))))))))))))))))))))) .no))) (l:=[(.skip,(.rb [] 29)),(.skip,(.rb [] 154)),(bg f271 0,(OD.lp Ew .no))]) func271 (ahr (aeW (Cp (Co aR)))) (ay aij (ay aij (ay (aO OD) aB))) h
abbrev sG:Type:=Int×Int×Bool
def d222:Td 0 sG:= .c [] [4,5,6] (.r 0 0 (ec 4 aM (ec 5 aM (ec 6 qb en))) sn (fun z=>(z.1.1,z.1.2.1,z.1.2.2.1)) (fun x=>((x.1,x.2.1,x.2.2,()),(()))))
def anl:=(lc (ql 131) (lc (qg 137) ln))
def aky(M:(List aS)->aq->Option sG):aK->aK:=eL wQ 222 wN anl d222 (fun g=>M g.1 g.2.1)
def abr(M:(List aS)->aq->Option sG):Prop:=HL wQ 222 anl d222 (fun g=>M g.1 g.2.1)
def RQ{M:(List aS)->aq->Option sG}(hM:abr M){F:aK}(h:bq wQ F):bq wQ (aky M F):=gI (sc:=Cc) eW hM ⟨_,func222,by kernel_rfl,by kernel_rfl⟩ (fun _=>by kernel_rfl) (fun _=>by kernel_rfl) h
def anp(M222:(List aS)->aq->Option sG):aK:=(asi (aky M222 dg))
def aa9{M222}(h222:abr M222):bq wQ (anp M222):=(agG (RQ h222 aR))
structure tY where
 t0:List aS
 (t7 t8:List Int)
 t9:Int
 b0:aq
def Nt:Td 0 tY:= .c [] [0,3,7,8,9] (.r 0 3 (ec 0 (ql 131) (ec 3 (qp 0 0) (ec 7 (qo 1) (ec 8 (qo 2) (ec 9 aM en))))) (sb 0 137 (lg 137) (sr 1 3 (sr 2 3 sn))) (fun z=>⟨z.1.1,z.2.2.1,z.2.2.2.1,z.1.2.2.2.2.1,z.2.1⟩) (fun x=>((x.t0,(),(),(),x.t9,()),(x.b0,x.t7,x.t8,()))))
def Dp(M222:(List aS)->aq->Option sG)(p:tY):Option (Option tY):=
 bif wP (p.t9<p.b0.ak.length)then if 0<=p.t9/\p.t9<p.b0.ak.length then match M222 p.t0 (aq.mk p.b0.ak[p.t9.toNat]!.bf p.b0.ak[p.t9.toNat]!.fN p.b0.ak[p.t9.toNat]!.ak)with|O=>O|V r1=>bif bif r1.snd.snd then wN else wO then V (O)else if(p.t7++[r1.fst]).length<=1073741824 then if(p.t8++[r1.snd.fst]).length<=1073741824 then V (V (tY.mk p.t0 (p.t7++[r1.fst]) (p.t8++[r1.snd.fst]) (i64.wrap (p.t9+1)) (aq.mk p.b0.bf p.b0.fN p.b0.ak)))else O else O else O else V (O)
def Jd(M222:(List aS)->aq->Option sG):tY->Option tY:=bI (Dp M222)
def ajx(M222:(List aS)->aq->Option sG):An:=(noTwo (noTwo (noTwo (.two (noTwo (Nt.lp (Jd M222) .no)) .no))))
def atb(M222:(List aS)->aq->Option sG):eG wQ (anp M222) 0 300 222 (ajx M222):=bV (l:=[(bg f222 0,(Nt.lp (Jd M222) .no))]) func222 (bG (by kernel_rfl)) (by kernel_rfl) (ay (aO Nt) aB)
def agZ(M222:(List aS)->aq->Option sG)(a0:List aS)(a1:aq):Option sG:=
 match Jd M222 (tY.mk a0 [] [] (0) (aq.mk a1.bf a1.fN a1.ak))with|O=>O|V r2=>bif wP (r2.t9<r2.b0.ak.length)then if 0<=r2.t9/\r2.t9<r2.b0.ak.length then match M222 r2.t0 (aq.mk r2.b0.ak[r2.t9.toNat]!.bf r2.b0.ak[r2.t9.toNat]!.fN r2.b0.ak[r2.t9.toNat]!.ak)with|O=>O|V r3=>bif bif r3.snd.snd then wN else wO then V (0,0,wN)else if(r2.t7++[r3.fst]).length<=1073741824 then if(r2.t8++[r3.snd.fst]).length<=1073741824 then O else O else O else O else match aeB r2.t0 (aq.mk r2.b0.bf r2.b0.fN r2.b0.ak) r2.t7 r2.t8 with|O=>O|V r4=>bif wP (-1048576<=r4.fst)then V ((r4.fst,r4.snd,wP (r4.snd<=1048576)))else V (r4.fst,r4.snd,wN)
def axi(M222:(List aS)->aq->Option sG)(a0:List aS)(a1:aq):bU wQ (anp M222) 300 (ajx M222) 222 (anl.c (a0,a1,())) [] 0 d222.rd=agZ M222 a0 a1:=by kernel_rfl
def ajd:Nat->((List aS)->aq->Option sG)
 |0=>(fun _ _=>O)
 |n+1=>(agZ (ajd n))
def PE(n:Nat):(List aS)->aq->Option sG:=(ajd n)
def Lv:∀n,abr (PE n)
 |0=>fun _ _ h=>(by cases h)
 |n+1=>by
  have ih:=Lv n
  have i222:=ih
  exact(dG (aa9 i222) (atb (PE n)) (fun _=>by kernel_rfl) (fun _=>by kernel_rfl) fun g=>axi (PE n) g.1 g.2.1)
def aaK:(List aS)->aq->Option sG:=fun a0 a1=>lim (fun n=>PE n a0 a1)
def aaR:abr aaK:=fun g b h=>by
 obtain⟨n,hn⟩:=cT (show lim (fun n=>PE n g.1 g.2.1)=V b from h)
 exact(Lv n) g b hn
def aye(F:aK):aK:=aky aaK F
def abq{F:aK}(h:bq wQ F):bq wQ (aye F):=RQ aaR h
abbrev auB:Type:=Int
def d142:Td 0 auB:= .c [] [6] (.r 0 0 (ec 6 aM en) sn (fun z=>z.1.1) (fun x=>((x,()),(()))))
def Hs(a0:List aS)(a1:aq)(a2:Bool):Option auB:=
 match agb a0 (aq.mk a1.bf a1.fN a1.ak) a2 with|O=>O|V r1=>bif bif r1 then wN else wO then V (1)else match aaK a0 (aq.mk a1.bf a1.fN a1.ak)with|O=>O|V r2=>bif bif r2.snd.snd then wN else wO then V (3)else V (0)
def afC:aK->aK:=eL wQ 142 wN (lc (ql 131) (lc (qg 137) (lc qb ln))) d142 (fun g=>Hs g.1 g.2.1 g.2.2.1)
def Rw:EO afC:=fun h=>kL (an:= .no) func142 (abq (ac1 aR)) aB h
def UX:EP afC:=fun h=>kP h
def akI:aK:=dg
abbrev akq:Type:=Bool
def d272:Td 0 akq:= .c [] [2] (.r 0 0 (ec 2 qb en) sn (fun z=>z.1.1) (fun x=>((x,()),(()))))
def arE:=(lc (qg 137) ln)
def aiJ:An:=(noTwo (.two (.rb [] 2) .no))
def ari:∀f∈([]:List Nat),bh (akI) f:=aB
def LY(a0:aq):akq:=
 let r1:Bool:=bif wP (a0.bf=0)then bif wP (a0.fN=0)then wP ((↑a0.ak.length:Int)=0)else wN else wN;r1
def ayK(a0:aq):bU wQ (akI) 300 (aiJ) 272 (arE.c (a0,())) [] 0 d272.rd=V (LY a0):=by
 refine Eq.trans (b:=(
  match bif wP (a0.bf=0)then bif wP (a0.fN=0)then V (wP ((↑a0.ak.length:Int)=0))else V (wN)else V (wN)with|O=>O|V r1=>V (r1):Option akq)) (by kernel_rfl) ?_
 simp only[LY,cv,cF]
def akb:aK->aK:=eL wQ 272 wN arE d272 (fun g=>V (LY g.1))
def ad8:EO akb:=fun h=>kL (F:=akI) (an:=aiJ) (l:=[(.skip,(.rb [] 2))]) func272 aR (ay ari aB) h (c:=fun g=>ayK g.1)
def GF:EP akb:=fun h=>kP h
def atM:aK:=dg
structure ua where
 t0:List Int
 t3:Int
def Nf:Td 0 ua:= .c [] [0,3] (.r 0 0 (ec 0 (ql 3) (ec 3 aM en)) sn (fun z=>⟨z.1.1,z.1.2.1⟩) (fun x=>((x.t0,x.t3,()),(()))))
def G4(p:ua):Option (Option ua):=
 bif wP (p.t3<p.t0.length)then if 0<=p.t3/\p.t3<p.t0.length then if 0<=i64.wrap (p.t3-1)/\i64.wrap (p.t3-1)<p.t0.length then bif wP (((p.t0,p.t3,()),()).fst.fst[((p.t0,p.t3,()),()).fst.snd.fst.toNat]!<=((p.t0,p.t3,()),()).fst.fst[(i64.wrap (((p.t0,p.t3,()),()).fst.snd.fst-1)).toNat]!)then V (O)else V (V (ua.mk p.t0 (i64.wrap (p.t3+1))))else O else O else V (O)
def Jc:ua->Option ua:=bI (G4)
abbrev apu:Type:=Bool
def d273:Td 0 apu:= .c [] [2] (.r 0 0 (ec 2 qb en) sn (fun z=>z.1.1) (fun x=>((x,()),(()))))
def auK:∀f∈([]:List Nat),bh (atM) f:=aB
def aa2(a0:List Int):Option apu:=
 match bif wP ((↑a0.length:Int)<1)then V wO else bif wP (32<(↑a0.length:Int))then V wO else if(0:Int)<=(0:Int)/\(0:Int)<a0.length then V (wP (a0[yC 0]! <0))else O with|O=>O|V r1=>bif r1 then V wN else match Jc (ua.mk a0 1)with|O=>O|V r2=>bif wP (r2.t3<r2.t0.length)then if 0<=r2.t3/\r2.t3<r2.t0.length then if 0<=i64.wrap (r2.t3-1)/\i64.wrap (r2.t3-1)<r2.t0.length then bif wP (((r2.t0,r2.t3,()),()).fst.fst[((r2.t0,r2.t3,()),()).fst.snd.fst.toNat]!<=((r2.t0,r2.t3,()),()).fst.fst[(i64.wrap (((r2.t0,r2.t3,()),()).fst.snd.fst-1)).toNat]!)then V wN else O else O else O else V wO
def alR:aK->aK:=eL wQ 273 wN (lc (ql 3) ln) d273 (fun g=>aa2 g.1)
def ahm:EO alR:=fun h=>kL (F:=atM) (an:=(noTwo (.two (.two (.rb [] 17) .no) (.two (noTwo (Nf.lp Jc .no)) .no)))) (l:=[(.skip,(.rb [] 17)),(bg f273 0,(Nf.lp Jc .no))]) func273 aR (ay auK (ay (aO Nf) aB)) h
def FY:EP alR:=fun h=>kP h
def as8:aK:=(alR (akb dg))
abbrev aqC:Type:=Bool
def d223:Td 0 aqC:= .c [] [6] (.r 0 0 (ec 6 qb en) sn (fun z=>z.1.1) (fun x=>((x,()),(()))))
def wR:∀f∈([272,273]:List Nat),bh (as8) f:=(ay (FY (GF bB)) (ay (FY (GF bB)) aB))
def PU(a0:aP)(a1:au)(a2:Bool):Option aqC:=
 match bif wP ((↑a1.aH.length:Int)=0)then V (wP ((↑a1.aL.length:Int)=0))else V wN with|O=>O|V r1=>match bif wP (0<=a1.cP)then bif wP (a1.cP<a0.ah.length)then if 0<=a1.cP/\a1.cP<a0.ah.length then V (wP (a0.ah[a1.cP.toNat]!.bk=0))else O else V wN else V wN with|O=>O|V r2=>bif wP (a1.bN=0)then match bif r1 then bif r2 then bif wP (a1.fN=0)then V (wP ((↑a1.aJ.length:Int)=0))else V wN else V wN else V wN with|O=>O|V r3=>V (r3)else bif wP (a1.bN=1)then match bif r1 then bif wP (a1.cP=0)then bif wP (a1.fN=0)then V (wP ((↑a1.aJ.length:Int)=0))else V wN else V wN else V wN with|O=>O|V r4=>V (r4)else bif wP (a1.bN=2)then match bif r1 then bif wP (a1.cP=0)then bif wP (a1.fN=0)then bif wP ((↑a1.aJ.length:Int)=0)then V (LY (aq.mk a1.az.bf a1.az.fN a1.az.ak))else V wN else V wN else V wN else V wN with|O=>O|V r5=>V (r5)else bif wP (a1.bN=3)then match bif wP (a1.cP=0)then bif wP (a1.fN=0)then V (wP ((↑a1.aJ.length:Int)=0))else V wN else V wN with|O=>O|V r6=>V (r6)else bif wP (a1.bN=4)then match bif wP (a1.cP=0)then bif wP ((↑a1.aL.length:Int)=0)then V (wP ((↑a1.aJ.length:Int)=0))else V wN else V wN with|O=>O|V r7=>V (r7)else bif wP (a1.bN=5)then match bif r1 then bif r2 then bif wP (0<=a1.fN)then bif wP (a1.fN<a0.aj.length)then bif wP ((↑a1.aJ.length:Int)=0)then V (LY (aq.mk a1.az.bf a1.az.fN a1.az.ak))else V wN else V wN else V wN else V wN else V wN with|O=>O|V r8=>V (r8)else bif wP (a1.bN=6)then match bif r1 then bif a2 then bif wP (a1.cP=0)then bif wP (a1.fN=0)then bif LY (aq.mk a1.az.bf a1.az.fN a1.az.ak)then match aa2 a1.aJ with|O=>O|V r9=>V (r9)else V wN else V wN else V wN else V wN else V wN with|O=>O|V r10=>V (r10)else V wN
def ami:aK->aK:=eL wQ 223 wN (lc (qg 26) (lc (qg 166) (lc qb ln))) d223 (fun g=>PU g.1 g.2.1 g.2.2.1)
def agl:EO ami:=fun h=>kL (F:=as8) (an:=(noTwo (.two (.rb [272,273] 7) (.two (.rb [272,273] 8) (.two (noTwo (noTwo (.two (.two (.rb [272,273] 6) .no) (noTwo (.two (.two (.rb [272,273] 6) .no) (noTwo (.two (.two (.rb [272,273] 6) .no) (noTwo (.two (.two (.rb [272,273] 6) .no) (noTwo (.two (.two (.rb [272,273] 6) .no) (noTwo (.two (.two (.rb [272,273] 6) .no) (noTwo (.two (.two (.rb [272,273] 6) .no) .no))))))))))))))) .no))))) (l:=[(.skip,(.rb [272,273] 7)),(.skip,(.rb [272,273] 8)),(.skip,(.rb [272,273] 6)),(.skip,(.rb [272,273] 6)),(.skip,(.rb [272,273] 6)),(.skip,(.rb [272,273] 6)),(.skip,(.rb [272,273] 6)),(.skip,(.rb [272,273] 6)),(.skip,(.rb [272,273] 6))]) func223 (ahm (ad8 aR)) (ay wR (ay wR (ay wR (ay wR (ay wR (ay wR (ay wR (ay wR (ay wR aB))))))))) h
def TN:EP ami:=fun h=>kP h
abbrev oo:Type:=Int
def d143:Td 0 oo:= .c [] [6] (.r 0 0 (ec 6 aM en) sn (fun z=>z.1.1) (fun x=>((x,()),(()))))
def anX:=(lc (qg 26) (lc (ql 166) (lc qb ln)))
def ahb(M:aP->(List au)->Bool->Option oo):aK->aK:=eL wQ 143 wN anX d143 (fun g=>M g.1 g.2.1 g.2.2.1)
def TM{M:aP->(List au)->Bool->Option oo}{F:aK}{f:Nat}(h:bh F f):bh (ahb M F) f:=gP h (fun _=>by kernel_rfl)
def ac5(M:aP->(List au)->Bool->Option oo):Prop:=HL wQ 143 anX d143 (fun g=>M g.1 g.2.1 g.2.2.1)
def Qp{M:aP->(List au)->Bool->Option oo}(hM:ac5 M){F:aK}(h:bq wQ F):bq wQ (ahb M F):=gI (sc:=Cc) eW hM ⟨_,func143,by kernel_rfl,by kernel_rfl⟩ (fun _=>by kernel_rfl) (fun _=>by kernel_rfl) h
def acJ(M143:aP->(List au)->Bool->Option oo):aK:=(ami (ahb M143 (afC dg)))
def afU{M143}(h143:ac5 M143):bq wQ (acJ M143):=(agl (Qp h143 (Rw aR)))
structure pW where
 t1:List au
 t2:Bool
 t7:Int
 b0:aP
def Qe:Td 0 pW:= .c [] [1,2,3,7] (.r 0 1 (ec 1 (ql 166) (ec 2 qb (ec 3 (qp 0 0) (ec 7 aM en)))) (sb 0 26 (lg 26) sn) (fun z=>⟨z.1.1,z.1.2.1,z.1.2.2.2.1,z.2.1⟩) (fun x=>((x.t1,x.t2,(),x.t7,()),(x.b0,()))))
def Bg(M143:aP->(List au)->Bool->Option oo)(p:pW):Option (Option pW):=
 bif wP (p.t7<p.t1.length)then if 0<=p.t7/\p.t7<p.t1.length then match bif p.t2 then match PU p.b0 (au.mk p.t1[p.t7.toNat]!.bN p.t1[p.t7.toNat]!.aQ p.t1[p.t7.toNat]!.cP p.t1[p.t7.toNat]!.fN (aq.mk p.t1[p.t7.toNat]!.az.bf p.t1[p.t7.toNat]!.az.fN p.t1[p.t7.toNat]!.az.ak) p.t1[p.t7.toNat]!.aH p.t1[p.t7.toNat]!.aL p.t1[p.t7.toNat]!.aJ) (wP (((p.t1,p.t2,(),p.t7,()),p.b0,()).fst.snd.snd.snd.fst=i64.wrap ((↑((p.t1,p.t2,(),p.t7,()),p.b0,()).fst.fst.length:Int)-1)))with|O=>O|V r1=>V (bif r1 then wN else wO)else match PU p.b0 (au.mk p.t1[p.t7.toNat]!.bN p.t1[p.t7.toNat]!.aQ p.t1[p.t7.toNat]!.cP p.t1[p.t7.toNat]!.fN (aq.mk p.t1[p.t7.toNat]!.az.bf p.t1[p.t7.toNat]!.az.fN p.t1[p.t7.toNat]!.az.ak) p.t1[p.t7.toNat]!.aH p.t1[p.t7.toNat]!.aL p.t1[p.t7.toNat]!.aJ) wN with|O=>O|V r2=>V (bif r2 then wN else wO)with|O=>O|V r3=>bif r3 then V (O)else bif wP (p.t1[p.t7.toNat]!.bN=2)then match bif wP (p.t1[p.t7.toNat]!.aQ<0)then V wO else bif wP (67108864<p.t1[p.t7.toNat]!.aQ)then V wO else bif wP (p.t1[p.t7.toNat]!.fN<0)then V wO else bif wP (p.t1[p.t7.toNat]!.bN=4)then V (wP (4096<p.t1[p.t7.toNat]!.fN))else V wN with|O=>O|V r4=>bif r4 then V (O)else match bif wP (0<(↑p.t1[p.t7.toNat]!.aJ.length:Int))then if 0<=i64.wrap ((↑p.t1[p.t7.toNat]!.aJ.length:Int)-(1:Int))/\i64.wrap ((↑p.t1[p.t7.toNat]!.aJ.length:Int)-(1:Int))<(↑p.t1[p.t7.toNat]!.aJ.length:Int)then V (wP (67108864<((p.t1,p.t2,(),p.t7,()),p.b0,()).fst.fst[((p.t1,p.t2,(),p.t7,()),p.b0,()).fst.snd.snd.snd.fst.toNat]!.aJ[(i64.wrap ((↑((p.t1,p.t2,(),p.t7,()),p.b0,()).fst.fst[((p.t1,p.t2,(),p.t7,()),p.b0,()).fst.snd.snd.snd.fst.toNat]!.aJ.length:Int)-1)).toNat]!))else O else V wN with|O=>O|V r5=>bif r5 then V (O)else match Hs p.b0.ah (aq.mk p.t1[p.t7.toNat]!.az.bf p.t1[p.t7.toNat]!.az.fN p.t1[p.t7.toNat]!.az.ak) wN with|O=>O|V r6=>bif bif wP (r6=0)then wN else wO then V (O)else match M143 p.b0 p.t1[p.t7.toNat]!.aH wN with|O=>O|V r7=>bif bif wP (r7=0)then wN else wO then V (O)else match M143 p.b0 p.t1[p.t7.toNat]!.aL wN with|O=>O|V r8=>bif bif wP (r8=0)then wN else wO then V (O)else V (V (pW.mk p.t1 p.t2 (i64.wrap (p.t7+1)) p.b0))else match bif wP (p.t1[p.t7.toNat]!.aQ<0)then V wO else bif wP (10000<p.t1[p.t7.toNat]!.aQ)then V wO else bif wP (p.t1[p.t7.toNat]!.fN<0)then V wO else bif wP (p.t1[p.t7.toNat]!.bN=4)then V (wP (4096<p.t1[p.t7.toNat]!.fN))else V wN with|O=>O|V r9=>bif r9 then V (O)else match bif wP (0<(↑p.t1[p.t7.toNat]!.aJ.length:Int))then if 0<=i64.wrap ((↑p.t1[p.t7.toNat]!.aJ.length:Int)-(1:Int))/\i64.wrap ((↑p.t1[p.t7.toNat]!.aJ.length:Int)-(1:Int))<(↑p.t1[p.t7.toNat]!.aJ.length:Int)then V (wP (67108864<((p.t1,p.t2,(),p.t7,()),p.b0,()).fst.fst[((p.t1,p.t2,(),p.t7,()),p.b0,()).fst.snd.snd.snd.fst.toNat]!.aJ[(i64.wrap ((↑((p.t1,p.t2,(),p.t7,()),p.b0,()).fst.fst[((p.t1,p.t2,(),p.t7,()),p.b0,()).fst.snd.snd.snd.fst.toNat]!.aJ.length:Int)-1)).toNat]!))else O else V wN with|O=>O|V r10=>bif r10 then V (O)else match Hs p.b0.ah (aq.mk p.t1[p.t7.toNat]!.az.bf p.t1[p.t7.toNat]!.az.fN p.t1[p.t7.toNat]!.az.ak) wN with|O=>O|V r11=>bif bif wP (r11=0)then wN else wO then V (O)else match M143 p.b0 p.t1[p.t7.toNat]!.aH wN with|O=>O|V r12=>bif bif wP (r12=0)then wN else wO then V (O)else match M143 p.b0 p.t1[p.t7.toNat]!.aL wN with|O=>O|V r13=>bif bif wP (r13=0)then wN else wO then V (O)else V (V (pW.mk p.t1 p.t2 (i64.wrap (p.t7+1)) p.b0))else O else V (O)
def VC(M143:aP->(List au)->Bool->Option oo):An:=(noTwo (.two (noTwo (.two (.two (.rb [223] 32) .no) (noTwo (noTwo (.two (.two (.rb [223] 59) .no) (.two (.two (.rb [223] 74) .no) .no)))))) .no))
def Hw(M143:aP->(List au)->Bool->Option oo):pW->Option pW:=bI (Bg M143)
def aim(M143:aP->(List au)->Bool->Option oo):An:=(noTwo (.two (noTwo (Qe.lp (Hw M143) (VC M143))) .no))
def WT{M143}:∀f∈([223]:List Nat),bh (acJ M143) f:=(ay (TN (TM (UX bB))) aB)
def apA(M143:aP->(List au)->Bool->Option oo):eG wQ (acJ M143) 0 300 143 (aim M143):=bV (l:=[(bg f143 0,(Qe.lp (Hw M143) (VC M143))),(.skip,(.rb [223] 32)),(.skip,(.rb [223] 59)),(.skip,(.rb [223] 74))]) func143 (bG (by kernel_rfl)) (by kernel_rfl) (ay (aO Qe) (ay WT (ay WT (ay WT aB))))
def agX(M143:aP->(List au)->Bool->Option oo)(a0:aP)(a1:List au)(a2:Bool):Option oo:=
 match Hw M143 (pW.mk a1 a2 0 a0)with|O=>O|V r14=>bif wP (r14.t7<r14.t1.length)then if 0<=r14.t7/\r14.t7<r14.t1.length then match bif r14.t2 then match PU r14.b0 (au.mk r14.t1[r14.t7.toNat]!.bN r14.t1[r14.t7.toNat]!.aQ r14.t1[r14.t7.toNat]!.cP r14.t1[r14.t7.toNat]!.fN (aq.mk r14.t1[r14.t7.toNat]!.az.bf r14.t1[r14.t7.toNat]!.az.fN r14.t1[r14.t7.toNat]!.az.ak) r14.t1[r14.t7.toNat]!.aH r14.t1[r14.t7.toNat]!.aL r14.t1[r14.t7.toNat]!.aJ) (wP (((r14.t1,r14.t2,(),r14.t7,()),r14.b0,()).fst.snd.snd.snd.fst=i64.wrap ((↑((r14.t1,r14.t2,(),r14.t7,()),r14.b0,()).fst.fst.length:Int)-1)))with|O=>O|V r15=>V (bif r15 then wN else wO)else match PU r14.b0 (au.mk r14.t1[r14.t7.toNat]!.bN r14.t1[r14.t7.toNat]!.aQ r14.t1[r14.t7.toNat]!.cP r14.t1[r14.t7.toNat]!.fN (aq.mk r14.t1[r14.t7.toNat]!.az.bf r14.t1[r14.t7.toNat]!.az.fN r14.t1[r14.t7.toNat]!.az.ak) r14.t1[r14.t7.toNat]!.aH r14.t1[r14.t7.toNat]!.aL r14.t1[r14.t7.toNat]!.aJ) wN with|O=>O|V r16=>V (bif r16 then wN else wO)with|O=>O|V r17=>bif r17 then V 1 else bif wP (r14.t1[r14.t7.toNat]!.bN=2)then match bif wP (r14.t1[r14.t7.toNat]!.aQ<0)then V wO else bif wP (67108864<r14.t1[r14.t7.toNat]!.aQ)then V wO else bif wP (r14.t1[r14.t7.toNat]!.fN<0)then V wO else bif wP (r14.t1[r14.t7.toNat]!.bN=4)then V (wP (4096<r14.t1[r14.t7.toNat]!.fN))else V wN with|O=>O|V r18=>bif r18 then V 3 else match bif wP (0<(↑r14.t1[r14.t7.toNat]!.aJ.length:Int))then if 0<=i64.wrap ((↑r14.t1[r14.t7.toNat]!.aJ.length:Int)-(1:Int))/\i64.wrap ((↑r14.t1[r14.t7.toNat]!.aJ.length:Int)-(1:Int))<(↑r14.t1[r14.t7.toNat]!.aJ.length:Int)then V (wP (67108864<((r14.t1,r14.t2,(),r14.t7,()),r14.b0,()).fst.fst[((r14.t1,r14.t2,(),r14.t7,()),r14.b0,()).fst.snd.snd.snd.fst.toNat]!.aJ[(i64.wrap ((↑((r14.t1,r14.t2,(),r14.t7,()),r14.b0,()).fst.fst[((r14.t1,r14.t2,(),r14.t7,()),r14.b0,()).fst.snd.snd.snd.fst.toNat]!.aJ.length:Int)-1)).toNat]!))else O else V wN with|O=>O|V r19=>bif r19 then V 3 else match Hs r14.b0.ah (aq.mk r14.t1[r14.t7.toNat]!.az.bf r14.t1[r14.t7.toNat]!.az.fN r14.t1[r14.t7.toNat]!.az.ak) wN with|O=>O|V r20=>bif bif wP (r20=0)then wN else wO then V (r20)else match M143 r14.b0 r14.t1[r14.t7.toNat]!.aH wN with|O=>O|V r21=>bif bif wP (r21=0)then wN else wO then V (r21)else match M143 r14.b0 r14.t1[r14.t7.toNat]!.aL wN with|O=>O|V r22=>bif bif wP (r22=0)then wN else wO then V (r22)else O else match bif wP (r14.t1[r14.t7.toNat]!.aQ<0)then V wO else bif wP (10000<r14.t1[r14.t7.toNat]!.aQ)then V wO else bif wP (r14.t1[r14.t7.toNat]!.fN<0)then V wO else bif wP (r14.t1[r14.t7.toNat]!.bN=4)then V (wP (4096<r14.t1[r14.t7.toNat]!.fN))else V wN with|O=>O|V r23=>bif r23 then V 3 else match bif wP (0<(↑r14.t1[r14.t7.toNat]!.aJ.length:Int))then if 0<=i64.wrap ((↑r14.t1[r14.t7.toNat]!.aJ.length:Int)-(1:Int))/\i64.wrap ((↑r14.t1[r14.t7.toNat]!.aJ.length:Int)-(1:Int))<(↑r14.t1[r14.t7.toNat]!.aJ.length:Int)then V (wP (67108864<((r14.t1,r14.t2,(),r14.t7,()),r14.b0,()).fst.fst[((r14.t1,r14.t2,(),r14.t7,()),r14.b0,()).fst.snd.snd.snd.fst.toNat]!.aJ[(i64.wrap ((↑((r14.t1,r14.t2,(),r14.t7,()),r14.b0,()).fst.fst[((r14.t1,r14.t2,(),r14.t7,()),r14.b0,()).fst.snd.snd.snd.fst.toNat]!.aJ.length:Int)-1)).toNat]!))else O else V wN with|O=>O|V r24=>bif r24 then V 3 else match Hs r14.b0.ah (aq.mk r14.t1[r14.t7.toNat]!.az.bf r14.t1[r14.t7.toNat]!.az.fN r14.t1[r14.t7.toNat]!.az.ak) wN with|O=>O|V r25=>bif bif wP (r25=0)then wN else wO then V (r25)else match M143 r14.b0 r14.t1[r14.t7.toNat]!.aH wN with|O=>O|V r26=>bif bif wP (r26=0)then wN else wO then V (r26)else match M143 r14.b0 r14.t1[r14.t7.toNat]!.aL wN with|O=>O|V r27=>bif bif wP (r27=0)then wN else wO then V (r27)else O else O else V 0
def azN(M143:aP->(List au)->Bool->Option oo)(a0:aP)(a1:List au)(a2:Bool):bU wQ (acJ M143) 300 (aim M143) 143 (anX.c (a0,a1,a2,())) [] 0 d143.rd=agX M143 a0 a1 a2:=by kernel_rfl
def ajD:Nat->(aP->(List au)->Bool->Option oo)
 |0=>(fun _ _ _=>O)
 |n+1=>(agX (ajD n))
def N2(n:Nat):aP->(List au)->Bool->Option oo:=(ajD n)
def Lb:∀n,ac5 (N2 n)
 |0=>fun _ _ h=>(by cases h)
 |n+1=>by
  have ih:=Lb n
  have i143:=ih
  exact(dG (afU i143) (apA (N2 n)) (fun _=>by kernel_rfl) (fun _=>by kernel_rfl) fun g=>azN (N2 n) g.1 g.2.1 g.2.2.1)
def afM:aP->(List au)->Bool->Option oo:=fun a0 a1 a2=>lim (fun n=>N2 n a0 a1 a2)
def afw:ac5 afM:=fun g b h=>by
 obtain⟨n,hn⟩:=cT (show lim (fun n=>N2 n g.1 g.2.1 g.2.2.1)=V b from h)
 exact(Lb n) g b hn
def aq7(F:aK):aK:=ahb afM F
def aar{F:aK}(h:bq wQ F):bq wQ (aq7 F):=Qp afw h
def F78:aK:=(aq7 (afC (ac7 (ad1 (asQ (arQ (e90 dg)))))))
structure BR where
 (t4 t6:Int)
 b0:aP
 b1:dc
def Vv:Td 0 BR:= .c [] [1,4,5,6] (.r 0 2 (ec 1 (qp 0 0) (ec 4 aM (ec 5 (qp 1 0) (ec 6 aM en)))) (sb 0 26 (lg 26) (sb 1 139 (lg 139) sn)) (fun z=>⟨z.1.2.1,z.1.2.2.2.1,z.2.1,z.2.2.1⟩) (fun x=>(((),x.t4,(),x.t6,()),(x.b0,x.b1,()))))
def TD(p:BR):Option (Option BR):=
 bif wP (p.t6<p.t4)then if 0<=p.t6/\p.t6<p.b0.aj.length then bif p.b0.aj[p.t6.toNat]!.fName.toList==p.b1.fName.toList then V (O)else V (V (BR.mk p.t4 (i64.wrap (p.t6+1)) p.b0 (dc.mk p.b1.fName p.b1.af p.b1.aa (aq.mk p.b1.az.bf p.b1.az.fN p.b1.az.ak))))else O else V (O)
def KA:BR->Option BR:=bI (TD)
structure EF where
 t4:Int
 b0:aP
def Zp:Td 0 EF:= .c [] [1,4] (.r 0 1 (ec 1 (qp 0 0) (ec 4 aM en)) (sb 0 26 (lg 26) sn) (fun z=>⟨z.1.2.1,z.2.1⟩) (fun x=>(((),x.t4,()),(x.b0,()))))
def Gf(p:EF):Option (Option EF):=
 bif wP (p.t4<p.b0.aj.length)then if 0<=p.t4/\p.t4<p.b0.aj.length then match N9 p.b0.aj[p.t4.toNat]!.fName with|O=>O|V r1=>bif bif r1 then wN else wO then V (O)else match KA (BR.mk p.t4 0 p.b0 (dc.mk p.b0.aj[p.t4.toNat]!.fName p.b0.aj[p.t4.toNat]!.af p.b0.aj[p.t4.toNat]!.aa (aq.mk p.b0.aj[p.t4.toNat]!.az.bf p.b0.aj[p.t4.toNat]!.az.fN p.b0.aj[p.t4.toNat]!.az.ak)))with|O=>O|V r2=>bif wP (r2.t6<r2.t4)then if 0<=r2.t6/\r2.t6<r2.b0.aj.length then bif r2.b0.aj[r2.t6.toNat]!.fName.toList==r2.b1.fName.toList then V (O)else O else O else bif bif IG r2.b1.af r2.b1.aa then wN else wO then V (O)else match Hs r2.b0.ah (aq.mk r2.b1.az.bf r2.b1.az.fN r2.b1.az.ak) wO with|O=>O|V r3=>bif bif wP (r3=0)then wN else wO then V (O)else V (V (EF.mk (i64.wrap (r2.t4+1)) r2.b0))else O else V (O)
def ah1:An:=(noTwo (.two (noTwo (noTwo (.two (noTwo (Vv.lp KA .no)) .no))) .no))
def S4:EF->Option EF:=bI (Gf)
abbrev E78:Type:=Int
def d78:Td 0 E78:= .c [] [2] (.r 0 0 (ec 2 aM en) sn (fun z=>z.1.1) (fun x=>((x,()),(()))))
def azo:∀f∈([]:List Nat),bh (F78) f:=aB
def m78(a0:aP):Option E78:=
 match adS a0 with|O=>O|V r4=>bif bif r4 then wN else wO then V 4 else match agx a0.ah with|O=>O|V r5=>bif bif wP (r5=0)then wN else wO then V (r5)else match S4 (EF.mk 0 a0)with|O=>O|V r6=>bif wP (r6.t4<r6.b0.aj.length)then if 0<=r6.t4/\r6.t4<r6.b0.aj.length then match N9 r6.b0.aj[r6.t4.toNat]!.fName with|O=>O|V r7=>bif bif r7 then wN else wO then V 7 else match KA (BR.mk r6.t4 0 r6.b0 (dc.mk r6.b0.aj[r6.t4.toNat]!.fName r6.b0.aj[r6.t4.toNat]!.af r6.b0.aj[r6.t4.toNat]!.aa (aq.mk r6.b0.aj[r6.t4.toNat]!.az.bf r6.b0.aj[r6.t4.toNat]!.az.fN r6.b0.aj[r6.t4.toNat]!.az.ak)))with|O=>O|V r8=>bif wP (r8.t6<r8.t4)then if 0<=r8.t6/\r8.t6<r8.b0.aj.length then bif r8.b0.aj[r8.t6.toNat]!.fName.toList==r8.b1.fName.toList then V 8 else O else O else bif bif IG r8.b1.af r8.b1.aa then wN else wO then V 3 else match Hs r8.b0.ah (aq.mk r8.b1.az.bf r8.b1.az.fN r8.b1.az.ak) wO with|O=>O|V r9=>bif bif wP (r9=0)then wN else wO then V (r9)else O else O else match afM r6.b0 r6.b0.bJ wO with|O=>O|V r10=>bif bif wP (r10=0)then wN else wO then V (r10)else match r90 r6.b0.bJ with|O=>O|V r11=>match bif wP (4096<r11.fst)then V wO else bif wP (8<r11.snd.fst)then V wO else V (wP (67108864<r11.snd.snd))with|O=>O|V r12=>bif r12 then V 4 else V 0
def e78:aK->aK:=eL wQ 78 wN (lc (qg 26) ln) d78 (fun g=>m78 g.1)
def J8:EO e78:=fun h=>kL (F:=F78) (an:=(noTwo (noTwo (noTwo (noTwo (.two (noTwo (Zp.lp S4 ah1)) (noTwo (noTwo (noTwo (.two (.two (.rb [] 86) .no) .no)))))))))) (l:=[(bg f78 0,(Zp.lp S4 ah1)),(bg f78 1,(Vv.lp KA .no)),(.skip,(.rb [] 86))]) func78 (aar (Rw (Sv (Ta (aaC (agR (Xn aR))))))) (ay (aO Zp) (ay (aO Vv) (ay azo aB))) h
def lT:EP e78:=fun h=>kP h
def au2:aK:=dg
abbrev as3:Type:=aI
def d103:Td 0 as3:= .c [] [0] (.r 0 1 (ec 0 (qp 0 0) en) (sb 0 34 (lg 34) sn) (fun z=>z.2.1) (fun x=>(((),()),(x,()))))
def avW:=ln
def ahE:An:= .no
def sI:as3:=
 aI.mk (1) (0) (0)
def ayI:bU wQ (au2) 300 (ahE) 103 (avW.c ()) [] 0 d103.rd=V (sI):=by kernel_rfl
def J9:aK->aK:=eL wQ 103 wN avW d103 (fun _=>V (sI))
def kJ:EO J9:=fun h=>kL (F:=au2) (an:=ahE) func103 aR aB h (c:=fun _=>ayI)
def ja:EP J9:=fun h=>kP h
def alq:aK:=dg
abbrev aom:Type:=Bool
def d162:Td 0 aom:= .c [] [2] (.r 0 0 (ec 2 qb en) sn (fun z=>z.1.1) (fun x=>((x,()),(()))))
def atv:=(aN ln)
def ahW:An:=(noTwo (.two (.rb [] 2) .no))
def arD:∀f∈([]:List Nat),bh (alq) f:=aB
def oR(a0:Int):aom:=
 let r1:Bool:=bif wP (-1099511627776<=a0)then wP (a0<=1099511627776)else wN;r1
def ayz(a0:Int):bU wQ (alq) 300 (ahW) 162 (atv.c (a0,())) [] 0 d162.rd=V (oR a0):=by
 refine Eq.trans (b:=(
  match bif wP (-1099511627776<=a0)then V (wP (a0<=1099511627776))else V (wN)with|O=>O|V r1=>V (r1):Option aom)) (by kernel_rfl) ?_
 simp only[oR,cv,cF]
def Zs:aK->aK:=eL wQ 162 wN atv d162 (fun g=>V (oR g.1))
def rV:EO Zs:=fun h=>kL (F:=alq) (an:=ahW) (l:=[(.skip,(.rb [] 2))]) func162 aR (ay arD aB) h (c:=fun g=>ayz g.1)
def BB:EP Zs:=fun h=>kP h
def F84:aK:=(Zs (J9 dg))
abbrev E84:Type:=Bool
def d84:Td 0 E84:= .c [] [2] (.r 0 0 (ec 2 qb en) sn (fun z=>z.1.1) (fun x=>((x,()),(()))))
def ara:∀f∈([162]:List Nat),bh (F84) f:=(ay (BB (ja bB)) aB)
def Vp(a0:aI):Option E84:=
 bif bif wP (a0.af=sI.af)then bif wP (a0.aa=sI.aa)then bif wP (a0.ai=sI.ai)then wO else wN else wN else wN then V wO else match bif bif oR a0.af then wN else wO then V wO else V (bif oR a0.aa then wN else wO)with|O=>O|V r1=>bif r1 then V wN else bif wP (a0.af=a0.aa)then V (wP (a0.ai=0))else match bif wP (a0.af<a0.aa)then bif wP (1<=a0.ai)then if¬a0.ai=0then V (wP ((i64.wrap (a0.aa-a0.af)).tmod a0.ai=0))else O else V wN else V wN with|O=>O|V r2=>V (r2)
def e84:aK->aK:=eL wQ 84 wN (lc (qg 34) ln) d84 (fun g=>Vp g.1)
def tO:EO e84:=fun h=>kL (F:=F84) (an:=(noTwo (noTwo (.two (.two (.rb [162] 15) .no) (noTwo (.two (.rb [162] 2) .no)))))) (l:=[(.skip,(.rb [162] 15)),(.skip,(.rb [162] 2))]) func84 (rV (kJ aR)) (ay ara (ay ara aB)) h
def iI:EP e84:=fun h=>kP h
def F32:aK:=(e84 dg)
abbrev E32:Type:=Bool
def d32:Td 0 E32:= .c [] [4] (.r 0 0 (ec 4 qb en) sn (fun z=>z.1.1) (fun x=>((x,()),(()))))
def pu32:∀f∈([84]:List Nat),bh (F32) f:=(ay (iI bB) aB)
def m32(a0:aI)(a1:Int):Option E32:=
 match match Vp a0 with|O=>O|V r1=>bif bif r1 then wN else wO then V wO else bif wP (a1<a0.af)then V wO else V (wP (a0.aa<a1))with|O=>O|V r2=>bif r2 then V wN else match bif wP (a0.ai=0)then V wO else if¬a0.ai=0then V (wP ((i64.wrap (a1-a0.af)).tmod a0.ai=0))else O with|O=>O|V r3=>V (r3)
def e32:aK->aK:=eL wQ 32 wN (lc (qg 34) (aN ln)) d32 (fun g=>m32 g.1 g.2.1)
def Bj:EO e32:=fun h=>kL (F:=F32) (an:=(noTwo (.two (.two (.rb [84] 19) .no) (.two (.rb [84] 4) .no)))) (l:=[(.skip,(.rb [84] 19)),(.skip,(.rb [84] 4))]) func32 (tO aR) (ay pu32 (ay pu32 aB)) h
def Xu:EP e32:=fun h=>kP h
abbrev E36:Type:=aI
def d36:Td 0 E36:= .c [] [2] (.r 0 1 (ec 2 (qp 0 0) en) (sb 0 34 (lg 34) sn) (fun z=>z.2.1) (fun x=>(((),()),(x,()))))
def m36(a0:Int):E36:=
 aI.mk a0 a0 (0)
def e36:aK->aK:=eL wQ 36 wN (aN ln) d36 (fun g=>V (m36 g.1))
def Io:EO e36:=fun h=>kL (an:= .no) func36 aR aB h
def apU:aK:=(Zs (J9 dg))
abbrev auZ:Type:=aI×Int
def d101:Td 0 auZ:= .c [] [6,7] (.r 0 1 (ec 6 (qp 0 0) (ec 7 aM en)) (sb 0 34 (lg 34) sn) (fun z=>(z.2.1,z.1.2.1)) (fun x=>(((),x.2,()),(x.1,()))))
def auE:∀f∈([162]:List Nat),bh (apU) f:=(ay (BB (ja bB)) aB)
def iQ(a0:Int)(a1:Int)(a2:Int):Option auZ:=
 match bif bif oR a0 then wN else wO then V wO else bif bif oR a1 then wN else wO then V wO else V (wP (a2<1))with|O=>O|V r1=>bif r1 then V (aI.mk 0 0 0,3)else bif wP (a1<a0)then V (sI,0)else if¬a2=0then bif wP (a0=i64.wrap (a0+i64.wrap (i64.wrap ((i64.wrap (a1-a0)).tdiv a2)*a2)))then V ((aI.mk a0 (i64.wrap (a0+i64.wrap (i64.wrap ((i64.wrap (a1-a0)).tdiv a2)*a2))) 0,0))else V ((aI.mk a0 (i64.wrap (a0+i64.wrap (i64.wrap ((i64.wrap (a1-a0)).tdiv a2)*a2))) a2,0))else O
def MZ:aK->aK:=eL wQ 101 wN (aN (aN (aN ln))) d101 (fun g=>iQ g.1 g.2.1 g.2.2.1)
def Cu:EO MZ:=fun h=>kL (F:=apU) (an:=(noTwo (.two (.two (.rb [162] 19) .no) .no))) (l:=[(.skip,(.rb [162] 19))]) func101 (rV (kJ aR)) (ay auE aB) h
def mZ:EP MZ:=fun h=>kP h
abbrev aq0:Type:=Bool
def d102:Td 0 aq0:= .c [] [2] (.r 0 0 (ec 2 qb en) sn (fun z=>z.1.1) (fun x=>((x,()),(()))))
def lz(a0:aI):aq0:=
 wP (a0.aa<a0.af)
def Ki:aK->aK:=eL wQ 102 wN (lc (qg 34) ln) d102 (fun g=>V (lz g.1))
def l8:EO Ki:=fun h=>kL (an:= .no) func102 aR aB h
def hO:EP Ki:=fun h=>kP h
def F41:aK:=(J9 (Ki (MZ dg)))
abbrev E41:Type:=aI
def d41:Td 0 E41:= .c [] [4] (.r 0 1 (ec 4 (qp 0 0) en) (sb 0 34 (lg 34) sn) (fun z=>z.2.1) (fun x=>(((),()),(x,()))))
def azc:∀f∈([102]:List Nat),bh (F41) f:=(ay (ja (hO (mZ bB))) aB)
def m41(a0:aI)(a1:Int):Option E41:=
 match bif lz a0 then V (wO)else V (wP (a1<a0.af))with|O=>O|V r1=>bif r1 then V (sI)else bif wP (a0.aa<=a1)then V (a0)else match iQ a0.af a1 a0.ai with|O=>O|V r2=>V (r2.fst)
def e41:aK->aK:=eL wQ 41 wN (lc (qg 34) (aN ln)) d41 (fun g=>m41 g.1 g.2.1)
def Pj:EO e41:=fun h=>kL (F:=F41) (an:=(noTwo (.two (.two (.rb [102] 14) .no) .no))) (l:=[(.skip,(.rb [102] 14))]) func41 (kJ (l8 (Cu aR))) (ay azc aB) h
def lP:EP e41:=fun h=>kP h
def F42:aK:=(J9 (Ki (MZ dg)))
abbrev E42:Type:=aI
def d42:Td 0 E42:= .c [] [4] (.r 0 1 (ec 4 (qp 0 0) en) (sb 0 34 (lg 34) sn) (fun z=>z.2.1) (fun x=>(((),()),(x,()))))
def az6:∀f∈([102]:List Nat),bh (F42) f:=(ay (ja (hO (mZ bB))) aB)
def Rf(a0:aI)(a1:Int):Option E42:=
 match bif lz a0 then V wO else V (wP (a0.aa<=a1))with|O=>O|V r1=>bif r1 then V (sI)else bif wP (a1<a0.af)then V (a0)else if¬a0.ai=0then match iQ (i64.wrap (a0.af+i64.wrap (i64.wrap (i64.wrap ((i64.wrap (a1-a0.af)).tdiv a0.ai)+1)*a0.ai))) a0.aa a0.ai with|O=>O|V r2=>V (r2.fst)else O
def e42:aK->aK:=eL wQ 42 wN (lc (qg 34) (aN ln)) d42 (fun g=>Rf g.1 g.2.1)
def Jm:EO e42:=fun h=>kL (F:=F42) (an:=(noTwo (.two (.two (.rb [102] 14) .no) .no))) (l:=[(.skip,(.rb [102] 14))]) func42 (kJ (l8 (Cu aR))) (ay az6 aB) h
def lB:EP e42:=fun h=>kP h
structure lN where
 (t0 t1:Int)
def MT:Td 0 lN:= .c [] [0,1] (.r 0 0 (ec 0 aM (ec 1 aM en)) sn (fun z=>⟨z.1.1,z.1.2.1⟩) (fun x=>((x.t0,x.t1,()),(()))))
def uc(p:lN):Option (Option lN):=
 bif bif wP (p.t1=0)then wN else wO then if¬p.t1=0then V (V (lN.mk p.t1 (p.t0.tmod p.t1)))else O else V (O)
def Eo:lN->Option lN:=bI (uc)
abbrev apT:Type:=Int
def d239:Td 0 apT:= .c [] [4] (.r 0 0 (ec 4 aM en) sn (fun z=>z.1.1) (fun x=>((x,()),(()))))
def B5(a0:Int)(a1:Int):Option apT:=
 match Eo (lN.mk a0 a1)with|O=>O|V r1=>bif bif wP (r1.t1=0)then wN else wO then if¬r1.t1=0then O else O else V (r1.t0)
def aoJ:aK->aK:=eL wQ 239 wN (aN (aN ln)) d239 (fun g=>B5 g.1 g.2.1)
def G3:EO aoJ:=fun h=>kL (an:=(noTwo (.two (MT.lp Eo .no) .no))) (l:=[(bg f239 0,(MT.lp Eo .no))]) func239 aR (ay (aO MT) aB) h
def UY:EP aoJ:=fun h=>kP h
def azf:aK:=dg
abbrev anR:Type:=Int
def d240:Td 0 anR:= .c [] [4] (.r 0 0 (ec 4 aM en) sn (fun z=>z.1.1) (fun x=>((x,()),(()))))
def avM:=(aN (aN ln))
def aia:An:= .no
def jz(a0:Int)(a1:Int):anR:=
 bif wP (a0<a1)then i64.wrap (a1-a0)else i64.wrap (a0-a1)
def awZ(a0:Int)(a1:Int):bU wQ (azf) 300 (aia) 240 (avM.c (a0,a1,())) [] 0 d240.rd=V (jz a0 a1):=by
 refine Eq.trans (b:=(
  bif wP (a0<a1)then V (i64.wrap (a1-a0))else V (i64.wrap (a0-a1)):Option anR)) (by kernel_rfl) ?_
 simp only[jz,cv,cF]
def Yz:aK->aK:=eL wQ 240 wN avM d240 (fun g=>V (jz g.1 g.2.1))
def uN:EO Yz:=fun h=>kL (an:=aia) func240 aR aB h (c:=fun g=>awZ g.1 g.2.1)
def nI:EP Yz:=fun h=>kP h
structure iV where
 t0:List Int
 t6:Int
 (b0 b1:aI)
def Qg:Td 0 iV:= .c [] [0,2,5,6] (.r 0 2 (ec 0 (ql 3) (ec 2 (qp 0 0) (ec 5 (qp 1 0) (ec 6 aM en)))) (sb 0 34 (lg 34) (sb 1 34 (lg 34) sn)) (fun z=>⟨z.1.1,z.1.2.2.2.1,z.2.1,z.2.2.1⟩) (fun x=>((x.t0,(),(),x.t6,()),(x.b0,x.b1,()))))
def tS(p:iV):Option (Option iV):=
 bif wP (p.t6<p.t0.length)then if 0<=p.t6/\p.t6<p.t0.length then if(0:Int)<=(0:Int)/\(0:Int)<p.t0.length then match B5 p.b1.ai (jz p.t0[p.t6.toNat]! p.t0[0]!)with|O=>O|V r1=>if 0<=p.t6/\p.t6<p.t0.length then bif wP (((p.t0,(),(),p.t6,()),p.b0,p.b1,()).fst.fst[((p.t0,(),(),p.t6,()),p.b0,p.b1,()).fst.snd.snd.snd.fst.toNat]! <((p.t0,(),(),p.t6,()),p.b0,p.b1,()).snd.snd.fst.af)then if 0<=p.t6/\p.t6<p.t0.length then if 0<=p.t6/\p.t6<p.t0.length then bif wP (((p.t0,(),(),p.t6,()),p.b0,p.b1,()).snd.snd.fst.aa<((p.t0,(),(),p.t6,()),p.b0,p.b1,()).fst.fst[((p.t0,(),(),p.t6,()),p.b0,p.b1,()).fst.snd.snd.snd.fst.toNat]!)then if 0<=p.t6/\p.t6<p.t0.length then V (V (iV.mk p.t0 (i64.wrap (p.t6+1)) p.b0 (aI.mk p.t0[p.t6.toNat]! p.t0[p.t6.toNat]! r1)))else O else V (V (iV.mk p.t0 (i64.wrap (p.t6+1)) p.b0 (aI.mk p.t0[p.t6.toNat]! p.b1.aa r1)))else O else O else if 0<=p.t6/\p.t6<p.t0.length then bif wP (((p.t0,(),(),p.t6,()),p.b0,p.b1,()).snd.snd.fst.aa<((p.t0,(),(),p.t6,()),p.b0,p.b1,()).fst.fst[((p.t0,(),(),p.t6,()),p.b0,p.b1,()).fst.snd.snd.snd.fst.toNat]!)then if 0<=p.t6/\p.t6<p.t0.length then V (V (iV.mk p.t0 (i64.wrap (p.t6+1)) p.b0 (aI.mk p.b1.af p.t0[p.t6.toNat]! r1)))else O else V (V (iV.mk p.t0 (i64.wrap (p.t6+1)) p.b0 (aI.mk p.b1.af p.b1.aa r1)))else O else O else O else O else V (O)
def IQ:iV->Option iV:=bI (tS)
structure mS where
 t0:List Int
 t4:Int
 b0:aI
def Ou:Td 0 mS:= .c [] [0,2,4] (.r 0 1 (ec 0 (ql 3) (ec 2 (qp 0 0) (ec 4 aM en))) (sb 0 34 (lg 34) sn) (fun z=>⟨z.1.1,z.1.2.2.1,z.2.1⟩) (fun x=>((x.t0,(),x.t4,()),(x.b0,()))))
def BE(p:mS):Option (Option mS):=
 bif wP (p.t4<p.t0.length)then if 0<=p.t4/\p.t4<p.t0.length then bif bif oR p.t0[p.t4.toNat]! then wN else wO then V (O)else V (V (mS.mk p.t0 (i64.wrap (p.t4+1)) p.b0))else O else V (O)
def J6:mS->Option mS:=bI (BE)
abbrev apP:Type:=aI×Int
def d238:Td 0 apP:= .c [] [2,3] (.r 0 1 (ec 2 (qp 0 0) (ec 3 aM en)) (sb 0 34 (lg 34) sn) (fun z=>(z.2.1,z.1.2.1)) (fun x=>(((),x.2,()),(x.1,()))))
def U5(a0:List Int):Option apP:=
 match J6 (mS.mk a0 0 (aI.mk 0 0 0))with|O=>O|V r2=>bif wP (r2.t4<r2.t0.length)then if 0<=r2.t4/\r2.t4<r2.t0.length then bif bif oR r2.t0[r2.t4.toNat]! then wN else wO then V (aI.mk 0 0 0,3)else O else O else bif wP ((↑r2.t0.length:Int)=0)then V (sI,0)else if(0:Int)<=(0:Int)/\(0:Int)<r2.t0.length then if(0:Int)<=(0:Int)/\(0:Int)<r2.t0.length then match IQ (iV.mk r2.t0 1 r2.b0 (aI.mk r2.t0[0]! r2.t0[0]! (0)))with|O=>O|V r3=>bif wP (r3.t6<r3.t0.length)then if 0<=r3.t6/\r3.t6<r3.t0.length then if(0:Int)<=(0:Int)/\(0:Int)<r3.t0.length then match B5 r3.b1.ai (jz r3.t0[r3.t6.toNat]! r3.t0[0]!)with|O=>O|V r4=>if 0<=r3.t6/\r3.t6<r3.t0.length then bif wP (((r3.t0,(),(),r3.t6,()),r3.b0,r3.b1,()).fst.fst[((r3.t0,(),(),r3.t6,()),r3.b0,r3.b1,()).fst.snd.snd.snd.fst.toNat]! <((r3.t0,(),(),r3.t6,()),r3.b0,r3.b1,()).snd.snd.fst.af)then if 0<=r3.t6/\r3.t6<r3.t0.length then if 0<=r3.t6/\r3.t6<r3.t0.length then bif wP (((r3.t0,(),(),r3.t6,()),r3.b0,r3.b1,()).snd.snd.fst.aa<((r3.t0,(),(),r3.t6,()),r3.b0,r3.b1,()).fst.fst[((r3.t0,(),(),r3.t6,()),r3.b0,r3.b1,()).fst.snd.snd.snd.fst.toNat]!)then if 0<=r3.t6/\r3.t6<r3.t0.length then O else O else O else O else O else if 0<=r3.t6/\r3.t6<r3.t0.length then bif wP (((r3.t0,(),(),r3.t6,()),r3.b0,r3.b1,()).snd.snd.fst.aa<((r3.t0,(),(),r3.t6,()),r3.b0,r3.b1,()).fst.fst[((r3.t0,(),(),r3.t6,()),r3.b0,r3.b1,()).fst.snd.snd.snd.fst.toNat]!)then if 0<=r3.t6/\r3.t6<r3.t0.length then O else O else O else O else O else O else O else V (r3.b1,0)else O else O
def ay8:aK->aK:=eL wQ 238 wN (lc (ql 3) ln) d238 (fun g=>U5 g.1)
def HH:EO ay8:=fun h=>kL (an:=(noTwo (.two (noTwo (Ou.lp J6 .no)) (noTwo (noTwo (.two (noTwo (Qg.lp IQ .no)) .no)))))) (l:=[(bg f238 0,(Ou.lp J6 .no)),(bg f238 1,(Qg.lp IQ .no))]) func238 (uN (G3 (rV (kJ aR)))) (ay (aO Ou) (ay (aO Qg) aB)) h
abbrev atr:Type:=aI
def d163:Td 0 atr:= .c [] [4] (.r 0 1 (ec 4 (qp 0 0) en) (sb 0 34 (lg 34) sn) (fun z=>z.2.1) (fun x=>(((),()),(x,()))))
def kH(a0:aI)(a1:aI):Option atr:=
 bif lz a0 then V (a1)else bif lz a1 then V (a0)else match U5 [a0.af,a0.aa,a1.af,a1.aa]with|O=>O|V r1=>bif wP (r1.fst.af<r1.fst.aa)then match B5 a0.ai a1.ai with|O=>O|V r2=>match B5 r2 (jz a0.af a1.af)with|O=>O|V r3=>V (aI.mk r1.fst.af r1.fst.aa r3)else V (r1.fst)
def T2:aK->aK:=eL wQ 163 wN (lc (qg 34) (lc (qg 34) ln)) d163 (fun g=>kH g.1 g.2.1)
def rL:EO T2:=fun h=>kL (an:= .no) func163 (uN (G3 (HH (l8 aR)))) aB h
def rW:EP T2:=fun h=>kP h
def F86:aK:=(T2 (Zs (Ki (e84 (e42 (e41 dg))))))
abbrev E86:Type:=aI×Int
def d86:Td 0 E86:= .c [] [6,7] (.r 0 1 (ec 6 (qp 0 0) (ec 7 aM en)) (sb 0 34 (lg 34) sn) (fun z=>(z.2.1,z.1.2.1)) (fun x=>(((),x.2,()),(x.1,()))))
def azG:∀f∈([162]:List Nat),bh (F86) f:=(ay (rW (BB (hO (iI (lB (lP bB)))))) aB)
def m86(a0:aI)(a1:Int)(a2:Int):Option E86:=
 match Vp a0 with|O=>O|V r1=>bif bif r1 then wN else wO then V ((aI.mk (0) (0) (0),1))else match bif bif oR a1 then wN else wO then V (wO)else bif bif oR a2 then wN else wO then V (wO)else V (wP (a2<a1))with|O=>O|V r2=>bif r2 then V ((aI.mk (0) (0) (0),3))else match Rf a0 (i64.wrap (a1-1))with|O=>O|V r3=>match m41 r3 a2 with|O=>O|V r4=>match m41 a0 a1 with|O=>O|V r5=>bif bif lz r5 then wN else wO then match kH r4 (aI.mk a1 a1 (0))with|O=>O|V r6=>match Rf a0 a2 with|O=>O|V r7=>bif bif lz r7 then wN else wO then match kH r6 (aI.mk a2 a2 (0))with|O=>O|V r8=>V ((r8,0))else V ((r6,0))else match Rf a0 a2 with|O=>O|V r9=>bif bif lz r9 then wN else wO then match kH r4 (aI.mk a2 a2 (0))with|O=>O|V r10=>V ((r10,0))else V ((r4,0))
def e86:aK->aK:=eL wQ 86 wN (lc (qg 34) (aN (aN ln))) d86 (fun g=>m86 g.1 g.2.1 g.2.2.1)
def O2:EO e86:=fun h=>kL (F:=F86) (an:=(noTwo (noTwo (.two (.two (.rb [162] 25) .no) .no)))) (l:=[(.skip,(.rb [162] 25))]) func86 (rL (rV (l8 (tO (Jm (Pj aR)))))) (ay azG aB) h
def F43:aK:=(Ki (e84 dg))
abbrev E43:Type:=Int
def d43:Td 0 E43:= .c [] [2] (.r 0 0 (ec 2 aM en) sn (fun z=>z.1.1) (fun x=>((x,()),(()))))
def awD:∀f∈([84,102]:List Nat),bh (F43) f:=(ay (hO (iI bB)) (ay (hO (iI bB)) aB))
def pJ(a0:aI):Option E43:=
 match match Vp a0 with|O=>O|V r1=>bif bif r1 then wN else wO then V wO else V (lz a0)with|O=>O|V r2=>bif r2 then V 0 else bif wP (a0.ai=0)then V 1 else if¬a0.ai=0then V (i64.wrap (i64.wrap ((i64.wrap (a0.aa-a0.af)).tdiv a0.ai)+1))else O
def e43:aK->aK:=eL wQ 43 wN (lc (qg 34) ln) d43 (fun g=>pJ g.1)
def mQ:EO e43:=fun h=>kL (F:=F43) (an:=(noTwo (.two (.two (.rb [84,102] 9) .no) .no))) (l:=[(.skip,(.rb [84,102] 9))]) func43 (l8 (tO aR)) (ay awD aB) h
def iE:EP e43:=fun h=>kP h
abbrev are:Type:=Bool×Bool
def d165:Td 0 are:= .c [] [2,3] (.r 0 0 (ec 2 qb (ec 3 qb en)) sn (fun z=>(z.1.1,z.1.2.1)) (fun x=>((x.1,x.2,()),(()))))
def EJ(a0:aI):Option are:=
 match m32 a0 (0)with|O=>O|V r1=>match pJ a0 with|O=>O|V r2=>bif wP (1<r2)then V ((r1,wO))else match pJ a0 with|O=>O|V r3=>bif wP (r3=1)then V ((r1,bif r1 then wN else wO))else V ((r1,wN))
def UZ:aK->aK:=eL wQ 165 wN (lc (qg 34) ln) d165 (fun g=>EJ g.1)
def vp:EO UZ:=fun h=>kL (an:= .no) func165 (mQ (Bj aR)) aB h
def Ur:EP UZ:=fun h=>kP h
def aoO:aK:=dg
abbrev ak5:Type:=aI
def d241:Td 0 ak5:= .c [] [4] (.r 0 1 (ec 4 (qp 0 0) en) (sb 0 34 (lg 34) sn) (fun z=>z.2.1) (fun x=>(((),()),(x,()))))
def auF:=(lc qb (lc qb ln))
def aiH:An:=(noTwo (.two (.two (.rb [] 8) .no) .no))
def avC:∀f∈([]:List Nat),bh (aoO) f:=aB
def jl(a0:Bool)(a1:Bool):ak5:=
 let r1:Bool:=bif a0 then a1 else wN;bif r1 then aI.mk (0) (1) (1)else bif a1 then aI.mk (1) (1) (0)else aI.mk (0) (0) (0)
def axy(a0:Bool)(a1:Bool):bU wQ (aoO) 300 (aiH) 241 (auF.c (a0,a1,())) [] 0 d241.rd=V (jl a0 a1):=by
 refine Eq.trans (b:=(
  match bif a0 then V (a1)else V (wN)with|O=>O|V r1=>bif r1 then V (aI.mk (0) (1) (1))else bif a1 then V (aI.mk (1) (1) (0))else V (aI.mk (0) (0) (0)):Option ak5)) (by kernel_rfl) ?_
 simp only[jl,cv,cF]
def aow:aK->aK:=eL wQ 241 wN auF d241 (fun g=>V (jl g.1 g.2.1))
def Rt:EO aow:=fun h=>kL (F:=aoO) (an:=aiH) (l:=[(.skip,(.rb [] 8))]) func241 aR (ay avC aB) h (c:=fun g=>axy g.1 g.2.1)
def Ve:EP aow:=fun h=>kP h
def atJ:aK:=(aow (UZ (J9 (Ki (e84 dg)))))
abbrev ash:Type:=aI×Int
def d164:Td 0 ash:= .c [] [4,5] (.r 0 1 (ec 4 (qp 0 0) (ec 5 aM en)) (sb 0 34 (lg 34) sn) (fun z=>(z.2.1,z.1.2.1)) (fun x=>(((),x.2,()),(x.1,()))))
def at2:∀f∈([84]:List Nat),bh (atJ) f:=(ay (Ve (Ur (ja (hO (iI bB))))) aB)
def anP(a0:Int)(a1:aI):Option ash:=
 match match Vp a1 with|O=>O|V r1=>bif bif r1 then wN else wO then V (wO)else bif bif wP (a0=6)then wN else wO then V (bif wP (a0=7)then wN else wO)else V (wN)with|O=>O|V r2=>bif r2 then V ((aI.mk (0) (0) (0),1))else bif lz a1 then V ((sI,0))else bif wP (a0=6)then V ((aI.mk (i64.wrap (0-a1.aa)) (i64.wrap (0-a1.af)) a1.ai,0))else match EJ a1 with|O=>O|V r3=>V ((jl r3.snd r3.fst,0))
def aqO:aK->aK:=eL wQ 164 wN (aN (lc (qg 34) ln)) d164 (fun g=>anP g.1 g.2.1)
def abo:EO aqO:=fun h=>kL (F:=atJ) (an:=(noTwo (.two (.two (.rb [84] 18) .no) .no))) (l:=[(.skip,(.rb [84] 18))]) func164 (Rt (vp (kJ (l8 (tO aR))))) (ay at2 aB) h
def awX:aK:=dg
abbrev anQ:Type:=Bool
def d242:Td 0 anQ:= .c [] [2] (.r 0 0 (ec 2 qb en) sn (fun z=>z.1.1) (fun x=>((x,()),(()))))
def aqt:=(aN ln)
def ahN:An:= .no
def Fz(a0:Int):anQ:=
 bif wP (a0=8)then wO else bif wP (a0=9)then wO else bif wP (a0=10)then wO else bif wP (a0=11)then wO else bif wP (a0=12)then wO else bif wP (a0=13)then wO else bif wP (a0=14)then wO else bif wP (a0=15)then wO else bif wP (a0=16)then wO else bif wP (a0=17)then wO else bif wP (a0=18)then wO else bif wP (a0=19)then wO else bif wP (a0=20)then wO else bif wP (a0=21)then wO else bif wP (a0=22)then wO else wN
def ayP(a0:Int):bU wQ (awX) 300 (ahN) 242 (aqt.c (a0,())) [] 0 d242.rd=V (Fz a0):=by
 refine Eq.trans (b:=(
  bif wP (a0=8)then V (wO)else bif wP (a0=9)then V (wO)else bif wP (a0=10)then V (wO)else bif wP (a0=11)then V (wO)else bif wP (a0=12)then V (wO)else bif wP (a0=13)then V (wO)else bif wP (a0=14)then V (wO)else bif wP (a0=15)then V (wO)else bif wP (a0=16)then V (wO)else bif wP (a0=17)then V (wO)else bif wP (a0=18)then V (wO)else bif wP (a0=19)then V (wO)else bif wP (a0=20)then V (wO)else bif wP (a0=21)then V (wO)else bif wP (a0=22)then V (wO)else V (wN):Option anQ)) (by kernel_rfl) ?_
 simp only[Fz,cv,cF]
def akm:aK->aK:=eL wQ 242 wN aqt d242 (fun g=>V (Fz g.1))
def ab7:EO akm:=fun h=>kL (an:=ahN) func242 aR aB h (c:=fun g=>ayP g.1)
def Bd:EP akm:=fun h=>kP h
def arL:aK:=(Yz dg)
abbrev auc:Type:=Int×Bool
def d283:Td 0 auc:= .c [] [4,5] (.r 0 0 (ec 4 aM (ec 5 qb en)) sn (fun z=>(z.1.1,z.1.2.1)) (fun x=>((x.1,x.2,()),(()))))
def ap4:∀f∈([240]:List Nat),bh (arL) f:=(ay (nI bB) aB)
def afB(a0:Int)(a1:Int):Option auc:=
 match bif bif wP (a0=0)then wN else wO then bif bif wP (a1=0)then wN else wO then if¬jz a1 ((0:Int))=0then V (wP (i64.wrap ((1099511627776:Int).tdiv (jz a1 0))<jz a0 0))else O else V wN else V wN with|O=>O|V r1=>bif r1 then V (0,wN)else V ((i64.wrap (a0*a1),wO))
def aAe:aK->aK:=eL wQ 283 wN (aN (aN ln)) d283 (fun g=>afB g.1 g.2.1)
def aa3:EO aAe:=fun h=>kL (F:=arL) (an:=(noTwo (.two (.two (.rb [240] 19) .no) .no))) (l:=[(.skip,(.rb [240] 19))]) func283 (uN aR) (ay ap4 aB) h
def aq4:aK:=dg
abbrev aqo:Type:=Int
def d284:Td 0 aqo:= .c [] [4] (.r 0 0 (ec 4 aM en) sn (fun z=>z.1.1) (fun x=>((x,()),(()))))
def ar8:∀f∈([]:List Nat),bh (aq4) f:=aB
def adN(a0:Int)(a1:Int):Option aqo:=
 bif wP (a1=0)then V 0 else if¬a1=0then match if¬a1=0then bif bif wP (a0.tmod a1=0)then wN else wO then V (bif wP (a0<0)==wP (a1<0)then wN else wO)else V wN else O with|O=>O|V r1=>bif r1 then V (i64.wrap (i64.wrap (a0.tdiv a1)-1))else V (i64.wrap (a0.tdiv a1))else O
def awQ:aK->aK:=eL wQ 284 wN (aN (aN ln)) d284 (fun g=>adN g.1 g.2.1)
def acn:EO awQ:=fun h=>kL (F:=aq4) (an:=(noTwo (noTwo (noTwo (.two (.two (.rb [] 21) .no) .no))))) (l:=[(.skip,(.rb [] 21))]) func284 aR (ay ar8 aB) h
def ayo:aK:=dg
abbrev ak2:Type:=Int
def d285:Td 0 ak2:= .c [] [2] (.r 0 0 (ec 2 aM en) sn (fun z=>z.1.1) (fun x=>((x,()),(()))))
def aqG:=(lc qb ln)
def ajw:An:= .no
def u5(a0:Bool):ak2:=
 bif a0 then 1 else 0
def azn(a0:Bool):bU wQ (ayo) 300 (ajw) 285 (aqG.c (a0,())) [] 0 d285.rd=V (u5 a0):=by
 refine Eq.trans (b:=(
  bif a0 then V (1)else V (0):Option ak2)) (by kernel_rfl) ?_
 simp only[u5,cv,cF]
def awW:aK->aK:=eL wQ 285 wN aqG d285 (fun g=>V (u5 g.1))
def ahy:EO awW:=fun h=>kL (an:=ajw) func285 aR aB h (c:=fun g=>azn g.1)
abbrev atB:Type:=Int×Bool
def d245:Td 0 atB:= .c [] [6,7] (.r 0 0 (ec 6 aM (ec 7 qb en)) sn (fun z=>(z.1.1,z.1.2.1)) (fun x=>((x.1,x.2,()),(()))))
def Dc(a0:Int)(a1:Int)(a2:Int):Option atB:=
 bif wP (a0=8)then V ((i64.wrap (a1+a2),oR (i64.wrap (a1+a2))))else bif wP (a0=9)then V ((i64.wrap (a1-a2),oR (i64.wrap (a1-a2))))else bif wP (a0=10)then match afB a1 a2 with|O=>O|V r1=>V (r1)else bif wP (a0=11)then match adN a1 a2 with|O=>O|V r2=>V ((r2,wO))else bif wP (a0=12)then bif wP (a2=0)then V ((0,wO))else match adN a1 a2 with|O=>O|V r3=>V ((i64.wrap (a1-i64.wrap (a2*r3)),wO))else bif wP (a0=13)then V ((u5 (wP (a1=a2)),wO))else bif wP (a0=14)then V ((u5 (bif wP (a1=a2)then wN else wO),wO))else bif wP (a0=15)then V ((u5 (wP (a1<a2)),wO))else bif wP (a0=16)then V ((u5 (wP (a1<=a2)),wO))else bif wP (a0=17)then V ((u5 (wP (a2<a1)),wO))else bif wP (a0=18)then V ((u5 (wP (a2<=a1)),wO))else bif wP (a0=19)then bif bif wP (a1=0)then wN else wO then V ((u5 (bif wP (a2=0)then wN else wO),wO))else V ((u5 wN,wO))else bif wP (a0=20)then bif bif wP (a1=0)then wN else wO then V ((u5 wO,wO))else V ((u5 (bif wP (a2=0)then wN else wO),wO))else bif wP (a0=21)then bif wP (a1<a2)then V ((a1,wO))else V ((a2,wO))else bif wP (a2<a1)then V ((a1,wO))else V ((a2,wO))
def amD:aK->aK:=eL wQ 245 wN (aN (aN (aN ln))) d245 (fun g=>Dc g.1 g.2.1 g.2.2.1)
def Hu:EO amD:=fun h=>kL (an:= .no) func245 (ahy (acn (aa3 (rV aR)))) aB h
def Ao:EP amD:=fun h=>kP h
abbrev arI:Type:=Int
def d282:Td 0 arI:= .c [] [4] (.r 0 0 (ec 4 aM en) sn (fun z=>z.1.1) (fun x=>((x,()),(()))))
def FF(a0:aI)(a1:Int):arI:=
 i64.wrap (a0.af+i64.wrap (a1*a0.ai))
def azB:aK->aK:=eL wQ 282 wN (lc (qg 34) (aN ln)) d282 (fun g=>V (FF g.1 g.2.1))
def af9:EO azB:=fun h=>kL (an:= .no) func282 aR aB h
structure gQ where
 t0:Int
 t8:List Int
 (t9 t10:Int)
 (b0 b1 b2:aI)
def OU:Td 0 gQ:= .c [] [0,4,5,6,8,9,10] (.r 0 4 (ec 0 aM (ec 4 (qp 0 0) (ec 5 (qp 1 0) (ec 6 (qp 2 0) (ec 8 (qo 3) (ec 9 aM (ec 10 aM en))))))) (sb 0 34 (lg 34) (sb 1 34 (lg 34) (sb 2 34 (lg 34) (sr 3 3 sn)))) (fun z=>⟨z.1.1,z.2.2.2.2.1,z.1.2.2.2.2.2.1,z.1.2.2.2.2.2.2.1,z.2.1,z.2.2.1,z.2.2.2.1⟩) (fun x=>((x.t0,(),(),(),(),x.t9,x.t10,()),(x.b0,x.b1,x.b2,x.t8,()))))
def Fb(p:gQ):Option (Option gQ):=
 match pJ p.b1 with|O=>O|V r5=>bif wP (p.t10<r5)then match Dc p.t0 (FF p.b0 p.t9) (FF p.b1 p.t10)with|O=>O|V r6=>bif bif r6.snd then wN else wO then V (O)else if(p.t8++[r6.fst]).length<=1073741824 then V (V (gQ.mk p.t0 (p.t8++[r6.fst]) p.t9 (i64.wrap (p.t10+1)) p.b0 p.b1 p.b2))else O else V (O)
def uq:gQ->Option gQ:=bI (Fb)
structure mJ where
 t0:Int
 t8:List Int
 t9:Int
 (b0 b1 b2:aI)
def P4:Td 0 mJ:= .c [] [0,4,5,6,8,9] (.r 0 4 (ec 0 aM (ec 4 (qp 0 0) (ec 5 (qp 1 0) (ec 6 (qp 2 0) (ec 8 (qo 3) (ec 9 aM en)))))) (sb 0 34 (lg 34) (sb 1 34 (lg 34) (sb 2 34 (lg 34) (sr 3 3 sn)))) (fun z=>⟨z.1.1,z.2.2.2.2.1,z.1.2.2.2.2.2.1,z.2.1,z.2.2.1,z.2.2.2.1⟩) (fun x=>((x.t0,(),(),(),(),x.t9,()),(x.b0,x.b1,x.b2,x.t8,()))))
def AN(p:mJ):Option (Option mJ):=
 match pJ p.b0 with|O=>O|V r1=>bif wP (p.t9<r1)then match uq (gQ.mk p.t0 p.t8 p.t9 (0) p.b0 p.b1 p.b2)with|O=>O|V r2=>match pJ r2.b1 with|O=>O|V r3=>bif wP (r2.t10<r3)then match Dc r2.t0 (FF r2.b0 r2.t9) (FF r2.b1 r2.t10)with|O=>O|V r4=>bif bif r4.snd then wN else wO then V (O)else if(r2.t8++[r4.fst]).length<=1073741824 then O else O else V (V (mJ.mk r2.t0 r2.t8 (i64.wrap (r2.t9+1)) r2.b0 r2.b1 r2.b2))else V (O)
def aag:An:=(noTwo (.two (noTwo (OU.lp uq .no)) .no))
def IW:mJ->Option mJ:=bI (AN)
abbrev avl:Type:=aI×Int
def d243:Td 0 avl:= .c [] [6,7] (.r 0 1 (ec 6 (qp 0 0) (ec 7 aM en)) (sb 0 34 (lg 34) sn) (fun z=>(z.2.1,z.1.2.1)) (fun x=>(((),x.2,()),(x.1,()))))
def OR(a0:Int)(a1:aI)(a2:aI):Option avl:=
 match IW (mJ.mk a0 [] (0) a1 a2 (aI.mk (0) (0) (0)))with|O=>O|V r7=>match pJ r7.b0 with|O=>O|V r8=>bif wP (r7.t9<r8)then match uq (gQ.mk r7.t0 r7.t8 r7.t9 (0) r7.b0 r7.b1 r7.b2)with|O=>O|V r9=>match pJ r9.b1 with|O=>O|V r10=>bif wP (r9.t10<r10)then match Dc r9.t0 (FF r9.b0 r9.t9) (FF r9.b1 r9.t10)with|O=>O|V r11=>bif bif r11.snd then wN else wO then V ((aI.mk (0) (0) (0),3))else if(r9.t8++[r11.fst]).length<=1073741824 then O else O else O else match U5 r7.t8 with|O=>O|V r12=>V (r12)
def aoF:aK->aK:=eL wQ 243 wN (aN (lc (qg 34) (lc (qg 34) ln))) d243 (fun g=>OR g.1 g.2.1 g.2.2.1)
def abI:EO aoF:=fun h=>kL (an:=(noTwo (noTwo (.two (noTwo (P4.lp IW aag)) .no)))) (l:=[(bg f243 0,(P4.lp IW aag)),(bg f243 1,(OU.lp uq .no))]) func243 (af9 (Hu (HH (mQ aR)))) (ay (aO P4) (ay (aO OU) aB)) h
def AQ:EP aoF:=fun h=>kP h
structure gS where
 t0:Int
 (t8 t9 t10:List Int)
 (t11 t12:Int)
 b0:aI
def PY:Td 0 gS:= .c [] [0,6,8,9,10,11,12] (.r 0 4 (ec 0 aM (ec 6 (qp 0 0) (ec 8 (qo 1) (ec 9 (qo 2) (ec 10 (qo 3) (ec 11 aM (ec 12 aM en))))))) (sb 0 34 (lg 34) (sr 1 3 (sr 2 3 (sr 3 3 sn)))) (fun z=>⟨z.1.1,z.2.2.1,z.2.2.2.1,z.2.2.2.2.1,z.1.2.2.2.2.2.1,z.1.2.2.2.2.2.2.1,z.2.1⟩) (fun x=>((x.t0,(),(),(),(),x.t11,x.t12,()),(x.b0,x.t8,x.t9,x.t10,()))))
def DR(p:gS):Option (Option gS):=
 bif wP (p.t12<3)then if 0<=p.t11/\p.t11<p.t9.length then if 3=3/\p.t11.toNat<p.t9.length then if 0<=p.t12/\p.t12<p.t10.length then if 3=3/\p.t12.toNat<p.t10.length then match Dc p.t0 p.t9[p.t11.toNat]! p.t10[p.t12.toNat]! with|O=>O|V r3=>bif bif r3.snd then wN else wO then V (O)else if(p.t8++[r3.fst]).length<=1073741824 then V (V (gS.mk p.t0 (p.t8++[r3.fst]) p.t9 p.t10 p.t11 (i64.wrap (p.t12+1)) p.b0))else O else O else O else O else O else V (O)
def uw:gS->Option gS:=bI (DR)
structure mw where
 t0:Int
 (t8 t9 t10:List Int)
 t11:Int
 b0:aI
def Pb:Td 0 mw:= .c [] [0,6,8,9,10,11] (.r 0 4 (ec 0 aM (ec 6 (qp 0 0) (ec 8 (qo 1) (ec 9 (qo 2) (ec 10 (qo 3) (ec 11 aM en)))))) (sb 0 34 (lg 34) (sr 1 3 (sr 2 3 (sr 3 3 sn)))) (fun z=>⟨z.1.1,z.2.2.1,z.2.2.2.1,z.2.2.2.2.1,z.1.2.2.2.2.2.1,z.2.1⟩) (fun x=>((x.t0,(),(),(),(),x.t11,()),(x.b0,x.t8,x.t9,x.t10,()))))
def Aw(p:mw):Option (Option mw):=
 bif wP (p.t11<3)then match uw (gS.mk p.t0 p.t8 p.t9 p.t10 p.t11 0 p.b0)with|O=>O|V r1=>bif wP (r1.t12<3)then if 0<=r1.t11/\r1.t11<r1.t9.length then if 3=3/\r1.t11.toNat<r1.t9.length then if 0<=r1.t12/\r1.t12<r1.t10.length then if 3=3/\r1.t12.toNat<r1.t10.length then match Dc r1.t0 r1.t9[r1.t11.toNat]! r1.t10[r1.t12.toNat]! with|O=>O|V r2=>bif bif r2.snd then wN else wO then V (O)else if(r1.t8++[r2.fst]).length<=1073741824 then O else O else O else O else O else O else V (V (mw.mk r1.t0 r1.t8 r1.t9 r1.t10 (i64.wrap (r1.t11+1)) r1.b0))else V (O)
def Wz:An:=(noTwo (.two (noTwo (PY.lp uw .no)) .no))
def IV:mw->Option mw:=bI (Aw)
abbrev aqk:Type:=aI×Int
def d244:Td 0 aqk:= .c [] [6,7] (.r 0 1 (ec 6 (qp 0 0) (ec 7 aM en)) (sb 0 34 (lg 34) sn) (fun z=>(z.2.1,z.1.2.1)) (fun x=>(((),x.2,()),(x.1,()))))
def pV(a0:Int)(a1:aI)(a2:aI):Option aqk:=
 match IV (mw.mk a0 [] [a1.af,i64.wrap (a1.af+a1.ai),a1.aa] [a2.af,i64.wrap (a2.af+a2.ai),a2.aa] (0) (aI.mk 0 0 0))with|O=>O|V r4=>bif wP (r4.t11<3)then match uw (gS.mk r4.t0 r4.t8 r4.t9 r4.t10 r4.t11 0 r4.b0)with|O=>O|V r5=>bif wP (r5.t12<3)then if 0<=r5.t11/\r5.t11<r5.t9.length then if 3=3/\r5.t11.toNat<r5.t9.length then if 0<=r5.t12/\r5.t12<r5.t10.length then if 3=3/\r5.t12.toNat<r5.t10.length then match Dc r5.t0 r5.t9[r5.t11.toNat]! r5.t10[r5.t12.toNat]! with|O=>O|V r6=>bif bif r6.snd then wN else wO then V (aI.mk 0 0 0,3)else if(r5.t8++[r6.fst]).length<=1073741824 then O else O else O else O else O else O else O else match U5 r4.t8 with|O=>O|V r7=>V (r7)
def ao4:aK->aK:=eL wQ 244 wN (aN (lc (qg 34) (lc (qg 34) ln))) d244 (fun g=>pV g.1 g.2.1 g.2.2.1)
def aek:EO ao4:=fun h=>kL (an:=(noTwo (noTwo (noTwo (noTwo (.two (noTwo (Pb.lp IV Wz)) .no)))))) (l:=[(bg f244 0,(Pb.lp IV Wz)),(bg f244 1,(PY.lp uw .no))]) func244 (Hu (HH aR)) (ay (aO Pb) (ay (aO PY) aB)) h
def AA:EP ao4:=fun h=>kP h
abbrev pT:Type:=Bool
def d286:Td 0 pT:= .c [] [4] (.r 0 0 (ec 4 qb en) sn (fun z=>z.1.1) (fun x=>((x,()),(()))))
def amr:=(lc (qg 34) (lc (qg 34) ln))
def ahl(M:aI->aI->Option pT):aK->aK:=eL wQ 286 wN amr d286 (fun g=>M g.1 g.2.1)
def T5{M:aI->aI->Option pT}{F:aK}{f:Nat}(h:bh F f):bh (ahl M F) f:=gP h (fun _=>by kernel_rfl)
def afN(M:aI->aI->Option pT):Prop:=HL wQ 286 amr d286 (fun g=>M g.1 g.2.1)
def QL{M:aI->aI->Option pT}(hM:afN M){F:aK}(h:bq wQ F):bq wQ (ahl M F):=gI (sc:=Cc) eW hM ⟨_,func286,by kernel_rfl,by kernel_rfl⟩ (fun _=>by kernel_rfl) (fun _=>by kernel_rfl) h
def ahp(M286:aI->aI->Option pT):aK:=(ahl M286 (Yz (aoJ (e43 (e32 dg)))))
def aeq{M286}(h286:afN M286):bq wQ (ahp M286):=(QL h286 (uN (G3 (mQ (Bj aR)))))
structure iC where
 (t6 t7 t8 t9:Int)
 (b0 b1:aI)
def Ns:Td 0 iC:= .c [] [2,3,6,7,8,9] (.r 0 2 (ec 2 (qp 0 0) (ec 3 (qp 1 0) (ec 6 aM (ec 7 aM (ec 8 aM (ec 9 aM en)))))) (sb 0 34 (lg 34) (sb 1 34 (lg 34) sn)) (fun z=>⟨z.1.2.2.1,z.1.2.2.2.1,z.1.2.2.2.2.1,z.1.2.2.2.2.2.1,z.2.1,z.2.2.1⟩) (fun x=>(((),(),x.t6,x.t7,x.t8,x.t9,()),(x.b0,x.b1,()))))
def Bt(M286:aI->aI->Option pT)(p:iC):Option (Option iC):=
 match if¬p.t7=0then bif wP (p.t9<i64.wrap (p.b1.ai.tdiv p.t7))then V (wP (p.t8<=p.t6))else V wN else O with|O=>O|V r1=>bif r1 then match m32 p.b1 p.t8 with|O=>O|V r2=>bif r2 then V (O)else V (V (iC.mk p.t6 p.t7 (i64.wrap (p.t8+p.b0.ai)) (i64.wrap (p.t9+1)) p.b0 p.b1))else V (O)
def XQ(M286:aI->aI->Option pT):An:=(.two (.two (.rb [240] 86) .no) .no)
def ox(M286:aI->aI->Option pT):iC->Option iC:=bI (Bt M286)
def aiD(M286:aI->aI->Option pT):An:=(noTwo (noTwo (noTwo (noTwo (noTwo (noTwo (noTwo (.two (.two (.rb [240] 58) .no) (noTwo (.two (noTwo (Ns.lp (ox M286) (XQ M286))) .no))))))))))
def ajb{M286}:∀f∈([240]:List Nat),bh (ahp M286) f:=(ay (T5 (nI (UY (iE (Xu bB))))) aB)
def avT(M286:aI->aI->Option pT):eG wQ (ahp M286) 0 300 286 (aiD M286):=bV (l:=[(.skip,(.rb [240] 58)),(bg f286 0,(Ns.lp (ox M286) (XQ M286))),(.skip,(.rb [240] 86))]) func286 (bG (by kernel_rfl)) (by kernel_rfl) (ay ajb (ay (aO Ns) (ay ajb aB)))
def UB(M286:aI->aI->Option pT)(a0:aI)(a1:aI):Option pT:=
 match pJ a0 with|O=>O|V r3=>match pJ a1 with|O=>O|V r4=>bif wP (r4<r3)then match M286 a1 a0 with|O=>O|V r5=>V (r5)else match pJ a0 with|O=>O|V r6=>bif wP (r6=1)then match m32 a1 a0.af with|O=>O|V r7=>V (r7)else bif wP (a0.af<a1.af)then bif wP (a1.aa<a0.aa)then match B5 a0.ai a1.ai with|O=>O|V r8=>match bif wP (a1.aa<a1.af)then V wO else if¬r8=0then V (bif wP (Int.tmod (jz a0.af a1.af) r8=0)then wN else wO)else O with|O=>O|V r9=>bif r9 then V wN else if¬a0.ai=0then match ox M286 (iC.mk a1.aa r8 (i64.wrap (a0.af+i64.wrap (i64.wrap ((i64.wrap (i64.wrap (i64.wrap (a1.af-a0.af)+a0.ai)-1)).tdiv a0.ai)*a0.ai))) 0 a0 a1)with|O=>O|V r10=>match if¬r10.t7=0then bif wP (r10.t9<i64.wrap (r10.b1.ai.tdiv r10.t7))then V (wP (r10.t8<=r10.t6))else V wN else O with|O=>O|V r11=>bif r11 then match m32 r10.b1 r10.t8 with|O=>O|V r12=>bif r12 then V wO else O else V wN else O else match B5 a0.ai a1.ai with|O=>O|V r13=>match bif wP (a0.aa<a1.af)then V wO else if¬r13=0then V (bif wP (Int.tmod (jz a0.af a1.af) r13=0)then wN else wO)else O with|O=>O|V r14=>bif r14 then V wN else if¬a0.ai=0then match ox M286 (iC.mk a0.aa r13 (i64.wrap (a0.af+i64.wrap (i64.wrap ((i64.wrap (i64.wrap (i64.wrap (a1.af-a0.af)+a0.ai)-1)).tdiv a0.ai)*a0.ai))) 0 a0 a1)with|O=>O|V r15=>match if¬r15.t7=0then bif wP (r15.t9<i64.wrap (r15.b1.ai.tdiv r15.t7))then V (wP (r15.t8<=r15.t6))else V wN else O with|O=>O|V r16=>bif r16 then match m32 r15.b1 r15.t8 with|O=>O|V r17=>bif r17 then V wO else O else V wN else O else bif wP (a1.aa<a0.aa)then match B5 a0.ai a1.ai with|O=>O|V r18=>match bif wP (a1.aa<a0.af)then V wO else if¬r18=0then V (bif wP (Int.tmod (jz a0.af a1.af) r18=0)then wN else wO)else O with|O=>O|V r19=>bif r19 then V wN else if¬a0.ai=0then match ox M286 (iC.mk a1.aa r18 (i64.wrap (a0.af+i64.wrap (i64.wrap ((i64.wrap (i64.wrap (i64.wrap (a0.af-a0.af)+a0.ai)-1)).tdiv a0.ai)*a0.ai))) 0 a0 a1)with|O=>O|V r20=>match if¬r20.t7=0then bif wP (r20.t9<i64.wrap (r20.b1.ai.tdiv r20.t7))then V (wP (r20.t8<=r20.t6))else V wN else O with|O=>O|V r21=>bif r21 then match m32 r20.b1 r20.t8 with|O=>O|V r22=>bif r22 then V wO else O else V wN else O else match B5 a0.ai a1.ai with|O=>O|V r23=>match bif wP (a0.aa<a0.af)then V wO else if¬r23=0then V (bif wP (Int.tmod (jz a0.af a1.af) r23=0)then wN else wO)else O with|O=>O|V r24=>bif r24 then V wN else if¬a0.ai=0then match ox M286 (iC.mk a0.aa r23 (i64.wrap (a0.af+i64.wrap (i64.wrap ((i64.wrap (i64.wrap (i64.wrap (a0.af-a0.af)+a0.ai)-1)).tdiv a0.ai)*a0.ai))) 0 a0 a1)with|O=>O|V r25=>match if¬r25.t7=0then bif wP (r25.t9<i64.wrap (r25.b1.ai.tdiv r25.t7))then V (wP (r25.t8<=r25.t6))else V wN else O with|O=>O|V r26=>bif r26 then match m32 r25.b1 r25.t8 with|O=>O|V r27=>bif r27 then V wO else O else V wN else O
def ay6(M286:aI->aI->Option pT)(a0:aI)(a1:aI):bU wQ (ahp M286) 300 (aiD M286) 286 (amr.c (a0,a1,())) [] 0 d286.rd=UB M286 a0 a1:=by kernel_rfl
def Gb:Nat->(aI->aI->Option pT)
 |0=>(fun _ _=>O)
 |n+1=>(UB (Gb n))
def XN(n:Nat):aI->aI->Option pT:=(Gb n)
def L2:∀n,afN (XN n)
 |0=>fun _ _ h=>(by cases h)
 |n+1=>by
  have ih:=L2 n
  have i286:=ih
  exact(dG (aeq i286) (avT (XN n)) (fun _=>by kernel_rfl) (fun _=>by kernel_rfl) fun g=>ay6 (XN n) g.1 g.2.1)
def Wn:aI->aI->Option pT:=fun a0 a1=>lim (fun n=>XN n a0 a1)
def ab2:afN Wn:=fun g b h=>by
 obtain⟨n,hn⟩:=cT (show lim (fun n=>XN n g.1 g.2.1)=V b from h)
 exact(L2 n) g b hn
def ax4(F:aK):aK:=ahl Wn F
def abB{F:aK}(h:bq wQ F):bq wQ (ax4 F):=QL ab2 h
abbrev at3:Type:=aI
def d246:Td 0 at3:= .c [] [6] (.r 0 1 (ec 6 (qp 0 0) en) (sb 0 34 (lg 34) sn) (fun z=>z.2.1) (fun x=>(((),()),(x,()))))
def By(a0:Int)(a1:aI)(a2:aI):Option at3:=
 bif wP (a0=13)then match Wn a1 a2 with|O=>O|V r1=>bif bif bif wP (a1.af=a2.af)then bif wP (a1.aa=a2.aa)then bif wP (a1.ai=a2.ai)then wO else wN else wN else wN then wN else wO then bif wP (a0=14)then V (jl r1 wO)else V (jl wO r1)else match pJ a1 with|O=>O|V r2=>bif wP (a0=14)then V (jl r1 (wP (1<((r2,()),()).fst.fst)))else V (jl (wP (1<((r2,()),()).fst.fst)) r1)else bif wP (a0=14)then match Wn a1 a2 with|O=>O|V r3=>bif bif bif wP (a1.af=a2.af)then bif wP (a1.aa=a2.aa)then bif wP (a1.ai=a2.ai)then wO else wN else wN else wN then wN else wO then bif wP (a0=14)then V (jl r3 wO)else V (jl wO r3)else match pJ a1 with|O=>O|V r4=>bif wP (a0=14)then V (jl r3 (wP (1<((r4,()),()).fst.fst)))else V (jl (wP (1<((r4,()),()).fst.fst)) r3)else bif wP (a0=15)then V (jl (wP (a2.af<=a1.aa)) (wP (a1.af<a2.aa)))else bif wP (a0=16)then V (jl (wP (a2.af<a1.aa)) (wP (a1.af<=a2.aa)))else bif wP (a0=17)then V (jl (wP (a1.af<=a2.aa)) (wP (a2.af<a1.aa)))else bif wP (a0=18)then V (jl (wP (a1.af<a2.aa)) (wP (a2.af<=a1.aa)))else match EJ a1 with|O=>O|V r5=>match EJ a2 with|O=>O|V r6=>bif wP (a0=19)then bif r5.snd then bif r5.fst then V (jl wO r6.snd)else V (jl r6.fst r6.snd)else bif r5.fst then V (jl wO wN)else V (jl r6.fst wN)else bif r5.snd then bif r5.fst then V (jl r6.fst wO)else V (jl wN wO)else bif r5.fst then V (jl r6.fst r6.snd)else V (jl wN r6.snd)
def aoy:aK->aK:=eL wQ 246 wN (aN (lc (qg 34) (lc (qg 34) ln))) d246 (fun g=>By g.1 g.2.1 g.2.2.1)
def afs:EO aoy:=fun h=>kL (an:= .no) func246 (abB (Rt (vp (mQ aR)))) aB h
def Av:EP aoy:=fun h=>kP h
def arN:aK:=(aoy (amD (ao4 (aoF (akm (Yz (T2 (J9 (Ki (MZ (e84 (e43 (e42 (e41 dg))))))))))))))
abbrev avJ:Type:=aI×Int
def d166:Td 0 avJ:= .c [] [6,7] (.r 0 1 (ec 6 (qp 0 0) (ec 7 aM en)) (sb 0 34 (lg 34) sn) (fun z=>(z.2.1,z.1.2.1)) (fun x=>(((),x.2,()),(x.1,()))))
def WJ:∀f∈([84,102,242]:List Nat),bh (arN) f:=(ay (Av (Ao (AA (AQ (Bd (nI (rW (ja (hO (mZ (iI (iE (lB (lP bB)))))))))))))) (ay (Av (Ao (AA (AQ (Bd (nI (rW (ja (hO (mZ (iI (iE (lB (lP bB)))))))))))))) (ay (Av (Ao (AA (AQ (Bd (nI (rW (ja (hO (mZ (iI (iE (lB (lP bB)))))))))))))) aB)))
def ow(a0:Int)(a1:aI)(a2:aI):Option avJ:=
 match match Vp a1 with|O=>O|V r1=>bif bif r1 then wN else wO then V wO else match Vp a2 with|O=>O|V r2=>bif bif r2 then wN else wO then V wO else V (bif Fz a0 then wN else wO)with|O=>O|V r3=>bif r3 then V (aI.mk 0 0 0,1)else match bif lz a1 then V wO else V (lz a2)with|O=>O|V r4=>bif r4 then V (sI,0)else match pJ a1 with|O=>O|V r5=>match pJ a2 with|O=>O|V r6=>if¬r6=0then bif wP (r5<=i64.wrap ((4096:Int).tdiv r6))then match OR a0 a1 a2 with|O=>O|V r7=>V (r7)else bif wP (a0=8)then match pV a0 a1 a2 with|O=>O|V r8=>V (r8)else bif wP (a0=9)then match pV a0 a1 a2 with|O=>O|V r9=>V (r9)else bif wP (a0=10)then match pV a0 a1 a2 with|O=>O|V r10=>V (r10)else bif wP (a0=11)then bif wP (jz a1.af 0<jz a1.aa 0)then match bif wP (0<=a1.af)then V (wP (0<=a2.af))else V wN with|O=>O|V r11=>bif r11 then match iQ 0 (jz a1.aa 0) 1with|O=>O|V r12=>V (r12)else match iQ (i64.wrap (0-jz a1.aa 0)) (jz a1.aa 0) 1with|O=>O|V r13=>V (r13)else match bif wP (0<=a1.af)then V (wP (0<=a2.af))else V wN with|O=>O|V r14=>bif r14 then match iQ 0 (jz a1.af 0) 1with|O=>O|V r15=>V (r15)else match iQ (i64.wrap (0-jz a1.af 0)) (jz a1.af 0) 1with|O=>O|V r16=>V (r16)else bif wP (a0=12)then bif wP (a2.af<0)then bif wP (0<a2.aa)then match iQ (i64.wrap (a2.af+1)) (i64.wrap (a2.aa-1)) 1with|O=>O|V r17=>V (r17)else match iQ (i64.wrap (a2.af+1)) 0 1with|O=>O|V r18=>V (r18)else bif wP (0<a2.aa)then match iQ 0 (i64.wrap (a2.aa-1)) 1with|O=>O|V r19=>V (r19)else match iQ 0 0 1with|O=>O|V r20=>V (r20)else bif wP (a0=21)then match Dc a0 a1.aa a2.aa with|O=>O|V r21=>match kH a1 a2 with|O=>O|V r22=>match m41 r22 r21.fst with|O=>O|V r23=>V (r23,0)else bif wP (a0=22)then match Dc a0 a1.af a2.af with|O=>O|V r24=>match kH a1 a2 with|O=>O|V r25=>match Rf r25 (i64.wrap (r24.fst-1))with|O=>O|V r26=>V (r26,0)else match By a0 a1 a2 with|O=>O|V r27=>V (r27,0)else O
def ap1:aK->aK:=eL wQ 166 wN (aN (lc (qg 34) (lc (qg 34) ln))) d166 (fun g=>ow g.1 g.2.1 g.2.2.1)
def SD:EO ap1:=fun h=>kL (F:=arN) (an:=(noTwo (.two (.two (.rb [84,102,242] 27) .no) (.two (.two (.rb [84,102,242] 34) .no) (noTwo (.two (noTwo (noTwo (noTwo (noTwo (.two (noTwo (noTwo (.two (.two (.rb [84,102,242] 79) .no) .no))) .no))))) .no)))))) (l:=[(.skip,(.rb [84,102,242] 27)),(.skip,(.rb [84,102,242] 34)),(.skip,(.rb [84,102,242] 79))]) func166 (afs (Hu (aek (abI (ab7 (uN (rL (kJ (l8 (Cu (tO (mQ (Jm (Pj aR)))))))))))))) (ay WJ (ay WJ (ay WJ aB))) h
abbrev Oo:Type:=aI
def d87:Td 0 Oo:= .c [] [4] (.r 0 1 (ec 4 (qp 0 0) en) (sb 0 34 (lg 34) sn) (fun z=>z.2.1) (fun x=>(((),()),(x,()))))
def A87:=(lc (qg 147) (lc (qg 137) ln))
def x87(M:aG->aq->Option Oo):aK->aK:=eL wQ 87 wN A87 d87 (fun g=>M g.1 g.2.1)
def H87(M:aG->aq->Option Oo):Prop:=HL wQ 87 A87 d87 (fun g=>M g.1 g.2.1)
def Zt{M:aG->aq->Option Oo}(hM:H87 M){F:aK}(h:bq wQ F):bq wQ (x87 M F):=gI (sc:=Cc) eW hM ⟨_,func87,by kernel_rfl,by kernel_rfl⟩ (fun _=>by kernel_rfl) (fun _=>by kernel_rfl) h
def F87(M87:aG->aq->Option Oo):aK:=(ap1 (UZ (aqO (T2 (J9 (x87 M87 (e86 (e36 (e32 dg)))))))))
def anZ{M87}(h87:H87 M87):bq wQ (F87 M87):=(SD (vp (abo (rL (kJ (Zt h87 (O2 (Io (Bj aR)))))))))
structure BW where
 (t107 t108:Int)
 b0:aG
 b1:aq
 (b2 b3 b4:aI)
def V0:Td 0 BW:= .c [] [2,3,4,9,11,107,108] (.r 0 5 (ec 2 (qp 0 0) (ec 3 (qp 1 0) (ec 4 (qp 2 0) (ec 9 (qp 3 0) (ec 11 (qp 4 0) (ec 107 aM (ec 108 aM en))))))) (sb 0 147 (lg 147) (sb 1 137 (lg 137) (sb 2 34 (lg 34) (sb 3 34 (lg 34) (sb 4 34 (lg 34) sn))))) (fun z=>⟨z.1.2.2.2.2.2.1,z.1.2.2.2.2.2.2.1,z.2.1,z.2.2.1,z.2.2.2.1,z.2.2.2.2.1,z.2.2.2.2.2.1⟩) (fun x=>(((),(),(),(),(),x.t107,x.t108,()),(x.b0,x.b1,x.b2,x.b3,x.b4,()))))
def atT(M87:aG->aq->Option Oo)(p:BW):Option (Option BW):=
 bif wP (p.t108<p.t107)then match m32 p.b3 p.t108 with|O=>O|V r1=>bif r1 then if 0<=i64.wrap ((1:Int)+p.t108)/\i64.wrap ((1:Int)+p.t108)<p.b1.ak.length then match M87 p.b0 (aq.mk p.b1.ak[(i64.wrap (1+p.t108)).toNat]!.bf p.b1.ak[(i64.wrap (1+p.t108)).toNat]!.fN p.b1.ak[(i64.wrap (1+p.t108)).toNat]!.ak)with|O=>O|V r2=>match kH p.b4 r2 with|O=>O|V r3=>V (V (BW.mk p.t107 (i64.wrap (p.t108+1)) p.b0 (aq.mk p.b1.bf p.b1.fN p.b1.ak) p.b2 p.b3 r3))else O else V (V (BW.mk p.t107 (i64.wrap (p.t108+1)) p.b0 (aq.mk p.b1.bf p.b1.fN p.b1.ak) p.b2 p.b3 p.b4))else V (O)
def W2(M87:aG->aq->Option Oo):BW->Option BW:=bI (atT M87)
def auv(M87:aG->aq->Option Oo):An:=(noTwo (.two (noTwo (noTwo (noTwo (noTwo (noTwo (noTwo (noTwo (noTwo (noTwo (noTwo (.two (noTwo (noTwo (.two (noTwo (V0.lp (W2 M87) .no)) .no))) .no))))))))))) .no))
def axT(M87:aG->aq->Option Oo):eG wQ (F87 M87) 0 300 87 (auv M87):=bV (l:=[(bg f87 0,(V0.lp (W2 M87) .no))]) func87 (bG (by kernel_rfl)) (by kernel_rfl) (ay (aO V0) aB)
def s87(M87:aG->aq->Option Oo)(a0:aG)(a1:aq):Option Oo:=
 bif wP (a1.bf=0)then V (m36 a1.fN)else bif wP (a1.bf=24)then if 0<=a1.fN/\a1.fN<a0.ah.length then V (a0.ah[a1.fN.toNat]!)else O else bif wP (a1.bf=6)then if(0:Int)<=(0:Int)/\(0:Int)<a1.ak.length then match M87 a0 (aq.mk a1.ak[0]!.bf a1.ak[0]!.fN a1.ak[0]!.ak)with|O=>O|V r4=>match anP a1.bf r4 with|O=>O|V r5=>V (r5.fst)else O else bif wP (a1.bf=7)then if(0:Int)<=(0:Int)/\(0:Int)<a1.ak.length then match M87 a0 (aq.mk a1.ak[0]!.bf a1.ak[0]!.fN a1.ak[0]!.ak)with|O=>O|V r6=>match anP a1.bf r6 with|O=>O|V r7=>V (r7.fst)else O else bif wP (a1.bf=23)then if(0:Int)<=(0:Int)/\(0:Int)<a1.ak.length then match M87 a0 (aq.mk a1.ak[0]!.bf a1.ak[0]!.fN a1.ak[0]!.ak)with|O=>O|V r8=>match EJ r8 with|O=>O|V r9=>bif bif r9.fst then wN else wO then if(0:Int)<=(1:Int)/\(1:Int)<a1.ak.length then match M87 a0 (aq.mk a1.ak[1]!.bf a1.ak[1]!.fN a1.ak[1]!.ak)with|O=>O|V r10=>V (r10)else O else bif bif r9.snd then wN else wO then if(0:Int)<=(2:Int)/\(2:Int)<a1.ak.length then match M87 a0 (aq.mk a1.ak[2]!.bf a1.ak[2]!.fN a1.ak[2]!.ak)with|O=>O|V r11=>V (r11)else O else if(0:Int)<=(1:Int)/\(1:Int)<a1.ak.length then match M87 a0 (aq.mk a1.ak[1]!.bf a1.ak[1]!.fN a1.ak[1]!.ak)with|O=>O|V r12=>if(0:Int)<=(2:Int)/\(2:Int)<a1.ak.length then match M87 a0 (aq.mk a1.ak[2]!.bf a1.ak[2]!.fN a1.ak[2]!.ak)with|O=>O|V r13=>match kH r12 r13 with|O=>O|V r14=>V (r14)else O else O else O else bif wP (a1.bf=25)then if(0:Int)<=(0:Int)/\(0:Int)<a1.ak.length then match M87 a0 (aq.mk a1.ak[0]!.bf a1.ak[0]!.fN a1.ak[0]!.ak)with|O=>O|V r15=>match m86 r15 0 (i64.wrap ((↑a1.ak.length:Int)-2))with|O=>O|V r16=>match W2 M87 (BW.mk (i64.wrap ((↑a1.ak.length:Int)-1)) 0 a0 (aq.mk a1.bf a1.fN a1.ak) (aI.mk 0 0 0) r16.fst sI)with|O=>O|V r17=>bif wP (r17.t108<r17.t107)then match m32 r17.b3 r17.t108 with|O=>O|V r18=>bif r18 then if 0<=i64.wrap ((1:Int)+r17.t108)/\i64.wrap ((1:Int)+r17.t108)<r17.b1.ak.length then match M87 r17.b0 (aq.mk r17.b1.ak[(i64.wrap (1+r17.t108)).toNat]!.bf r17.b1.ak[(i64.wrap (1+r17.t108)).toNat]!.fN r17.b1.ak[(i64.wrap (1+r17.t108)).toNat]!.ak)with|O=>O|V r19=>match kH r17.b4 r19 with|O=>O|V r20=>O else O else O else V (r17.b4)else O else if(0:Int)<=(0:Int)/\(0:Int)<a1.ak.length then match M87 a0 (aq.mk a1.ak[0]!.bf a1.ak[0]!.fN a1.ak[0]!.ak)with|O=>O|V r21=>if(0:Int)<=(1:Int)/\(1:Int)<a1.ak.length then match M87 a0 (aq.mk a1.ak[1]!.bf a1.ak[1]!.fN a1.ak[1]!.ak)with|O=>O|V r22=>match ow a1.bf r21 r22 with|O=>O|V r23=>V (r23.fst)else O else O
def c87(M87:aG->aq->Option Oo)(a0:aG)(a1:aq):bU wQ (F87 M87) 300 (auv M87) 87 (A87.c (a0,a1,())) [] 0 d87.rd=s87 M87 a0 a1:=by kernel_rfl
def arz:Nat->(aG->aq->Option Oo)
 |0=>(fun _ _=>O)
 |n+1=>(s87 (arz n))
def m87(n:Nat):aG->aq->Option Oo:=(arz n)
def Sc:∀n,H87 (m87 n)
 |0=>fun _ _ h=>(by cases h)
 |n+1=>by
  have ih:=Sc n
  have i87:=ih
  exact(dG (anZ i87) (axT (m87 n)) (fun _=>by kernel_rfl) (fun _=>by kernel_rfl) fun g=>c87 (m87 n) g.1 g.2.1)
def Vq:aG->aq->Option Oo:=fun a0 a1=>lim (fun n=>m87 n a0 a1)
def al6:H87 Vq:=fun g b h=>by
 obtain⟨n,hn⟩:=cT (show lim (fun n=>m87 n g.1 g.2.1)=V b from h)
 exact(Sc n) g b hn
def e87(F:aK):aK:=x87 Vq F
def O6{F:aK}(h:bq wQ F):bq wQ (e87 F):=Zt al6 h
end Go.Proofs.YtnfljbehcffmcaaGreat
end
noncomputable section
namespace Go.Iv
open Go
variable [U:sX] [L:nQ]
def aF{n:Int}(h1: -9223372036854775808<=n:=by omega)(h2:n<9223372036854775808:=by omega):IntKind.i64.wrap n=n:=by
 simp[IntKind.wrap,IntKind.bits,IntKind.signed]
 omega
def KG{γ:Type}{cO:γ->Option (Option γ)}(f:Nat->γ)(n:Nat)(h1:∀i,i<n->cO (f i)=V (V (f (i+1))))(h2:∀r,cO (f n)≠V (V r)):bI cO (f 0)=V (f n):=by
 have key:∀k i,i+k=n->bI cO (f i)=V (f n):=by
  intro k
  induction k with
  |zero=>
   intro i hi;have:i=n:=by omega
   subst this;exact cu h2
  |succ k ih=>intro i hi;rw[bQ (h1 i (by omega))];exact ih (i+1) (by omega)
 exact key n 0 (by omega)
def kB{α β ρ:Type}(step:β->α->Option β)(ret:β->α->ρ)(fin:β->ρ):List α->β->ρ
 |[],b=>fin b
 |x::xs,b=>match step b x with
  |some b'=>kB step ret fin xs b'
  |none=>ret b x
def GM{γ α β ρ:Type}{cO:γ->Option (Option γ)}(l:List α)(mk:Nat->β->γ)(step:β->α->Option β)(ret:β->α->ρ)(fin:β->ρ)(I:Nat->β->Prop)
  (h1:∀i b (hi:i<l.length),I i b->∀b',step b l[i]=V b'->cO (mk i b)=V (V (mk (i+1) b'))/\I (i+1) b')
  (h2:∀i b (hi:i<l.length),I i b->step b l[i]=O->∀r,cO (mk i b)≠V (V r)) (h3:∀b,I l.length b->∀r,cO (mk l.length b)≠V (V r)) {b:β} (hb:I 0 b):
  ∃i v,i<=l.length/\bI cO (mk 0 b)=V (mk i v)/\I i v/\((i=l.length/\kB step ret fin l b=fin v)\/∃hi:i<l.length,step v l[i]=O/\kB step ret fin l b=ret v l[i]):=by
 have key:∀(xs:List α) (i:Nat) (b:β),l.drop i=xs->i<=l.length->I i b->∃j v,j<=l.length/\bI cO (mk i b)=V (mk j v)/\I j v/\((j=l.length/\kB step ret fin xs b=fin v)\/∃hi:j<l.length,step v l[j]=O/\kB step ret fin xs b=ret v l[j]):=by
  intro xs
  induction xs with
  |nil=>
   intro i b hd hi hb
   have:i=l.length:=by have:=congrArg zc hd;simp at this;omega
   subst this
   exact⟨_,b,zD _,cu (h3 b hb),hb, .inl ⟨rfl,rfl⟩⟩
  |cons x xs ih=>
   intro i b hd hi hb
   have hil:i<l.length:=by have:=congrArg zc hd;simp at this;omega
   have hx:l[i]=x:=by
    have:=congrArg List.head? hd
    rw[List.head?_drop,zk hil]at this
    simpa using this
   have hd':l.drop (i+1)=xs:=by
    have:=congrArg List.tail hd
    rw[List.tail_drop]at this
    simpa using this
   cases hs:step b x with
   |some b'=>
    obtain⟨q1,q2⟩:=h1 i b hil hb b' (by rw[hx];exact hs)
    obtain⟨j,v,e1,e2,e3,e4⟩:=ih (i+1) b' hd' hil q2
    have er:kB step ret fin (x::xs) b=kB step ret fin xs b':=by simp only[kB,hs]
    exact⟨j,v,e1,by rw[bQ q1];exact e2,e3,by rw[er];exact e4⟩
   |none=>
    have er:kB step ret fin (x::xs) b=ret b x:=by simp only[kB,hs]
    exact⟨i,b,hi,cu (h2 i b hil hb (by rw[hx];exact hs)),hb, .inr ⟨hil,by rw[hx];exact hs,by rw[er,hx]⟩⟩
 exact key l 0 b rfl (xm _) hb
end Go.Iv
end
noncomputable section
set_option maxRecDepth 100000
namespace Go.Proofs.YtnfljbehcffmcaaGreat
open Go Go.Iv
open Go.IntKind (i64 u64)
def gG{n:Int}(h1:0<=n:=by omega)(h2:n<18446744073709551616:=by omega):IntKind.u64.wrap n=n:=by
 simp only[IntKind.wrap,IntKind.signed,IntKind.bits]at*
 simp
 omega
def MS(n:Int):IntKind.u64.wrap n=n%18446744073709551616:=by
 simp only[IntKind.wrap,IntKind.signed,IntKind.bits]at*
 simp
structure gL (y1 y0 u d q r:Int):Prop where
 r0:0<=r
 r1:r<4294967296
 q0:0<=q
 q1:q<=4294967297
 e:u=q*y1+r
 hi:u*4294967296+d<(q+1)*(y1*4294967296+y0)
 top:q=4294967297->r+y1<4294967296
structure sD (y1 y0 u d:Int):Prop where
 ha:2147483648<=y1
 hb:y1<4294967296
 hc:0<=y0
 hd:y0<4294967296
 he:0<=u
 hf:u<y1*4294967296+y0
 hg:0<=d
 hh:d<4294967296
def gL.start{y1 y0 u d:Int}(h:sD y1 y0 u d):gL y1 y0 u d (u/y1) (u%y1):=by
 obtain⟨ha,hb,hc,hd,he,hf,hg,hh⟩:=h
 have e1:=yL u y1
 have m0:=yM u (b:=y1) (by omega)
 have m1:=yR u (b:=y1) (by omega)
 have q0:0<=u/y1:=zQ he (by omega)
 have q1:u/y1<=4294967297:=by
  have:u/y1<4294967298:=wF (by omega) (by omega)
  omega
 rw[zA]at e1
 refine⟨m0,by omega,q0,q1,by omega,?_,fun hq=> ?_⟩
 ·have k1:(u/y1+1)*(y1*4294967296+y0)=((u/y1)*y1)*4294967296+y1*4294967296+(u/y1)*y0+y0:=by
   rw[zI,yS,zR,zN];omega
  have k2:0<=u/y1*y0:=zq q0 hc
  rw[k1]
  omega
 ·rw[hq]at e1
  omega
def gL.stop{y1 y0 u d q r:Int}(H:sD y1 y0 u d)(h:gL y1 y0 u d q r)(h1:q<4294967296)(h2:¬4294967296*r+d<q*y0):q*(y1*4294967296+y0)<=u*4294967296+d:=by
 have k:q*(y1*4294967296+y0)=(q*y1)*4294967296+q*y0:=by rw[yS,zN]
 have:=h.e
 rw[k]
 omega
def gL.big{y1 y0 u d q r:Int}(H:sD y1 y0 u d)(h:gL y1 y0 u d q r)(h1:4294967296<=q\/4294967296*r+d<q*y0):u*4294967296+d<q*(y1*4294967296+y0):=by
 have k:q*(y1*4294967296+y0)=(q*y1)*4294967296+q*y0:=by rw[yS,zN]
 have e:=h.e
 rcases h1 with h1|h1
 ·have k2:4294967296*(y1*4294967296+y0)<=q*(y1*4294967296+y0):=zG h1 (by have:=H.ha;have:=H.hc;omega)
  have:=H.hf
  have:=H.hh
  omega
 ·rw[k]
  omega
def gL.pos{y1 y0 u d q r:Int}(H:sD y1 y0 u d)(h:gL y1 y0 u d q r)(h1:4294967296<=q\/4294967296*r+d<q*y0):1<=q:=by
 have k:=gL.big H h h1
 have:=h.q0
 rcases (show q=0\/1<=q by omega)with rfl|h2
 ·rw[xG]at k
  have:=H.he
  have:=H.hg
  omega
 ·exact h2
def gL.next{y1 y0 u d q r:Int}(H:sD y1 y0 u d)(h:gL y1 y0 u d q r)(h1:4294967296<=q\/4294967296*r+d<q*y0)(h2:r+y1<4294967296):gL y1 y0 u d (q-1) (r+y1):=by
 have hb:=gL.big H h h1
 have hp:=gL.pos H h h1
 have:=H.ha
 have:=h.r0
 have:=h.q1
 refine⟨by omega,h2,by omega,by omega,?_,?_,fun hq=>by omega⟩
 ·rw[yl,zR]
  have:=h.e
  omega
 ·rw[show q-1+1=q by omega]
  exact hb
def gL.brk{y1 y0 u d q r:Int}(H:sD y1 y0 u d)(h:gL y1 y0 u d q r)(h1:4294967296<=q\/4294967296*r+d<q*y0)(h2:4294967296<=r+y1):(q-1)*(y1*4294967296+y0)<=u*4294967296+d:=by
 have hp:=gL.pos H h h1
 have hq:q<=4294967296:=by
  have:=h.q1
  have:=h.top
  omega
 have k:(q-1)*(y1*4294967296+y0)=(q*y1)*4294967296-y1*4294967296+(q-1)*y0:=by
  rw[yS,<-zN,yl q 1 y1,zR,yl]
 have k2:(q-1)*y0<=4294967296*y0:=zG (by omega) H.hc
 have:=h.e
 have:=H.hd
 have:=H.hg
 rw[k]
 omega
def KF(y1 y0 u d q:Int):Prop:=0<=q/\q<=4294967297/\q*(y1*4294967296+y0)<=u*4294967296+d/\u*4294967296+d<(q+1)*(y1*4294967296+y0)
def gL.y0q{y1 y0 u d q r:Int}(H:sD y1 y0 u d)(h:gL y1 y0 u d q r)(h1:q<4294967296):IntKind.u64.wrap (q*y0)=q*y0:=by
 have k1:0<=q*y0:=zq h.q0 H.hc
 have k2:q*y0<=4294967295*y0:=zG (by omega) H.hc
 have:=H.hd
 exact gG k1 (by omega)
def gL.rr{y1 y0 u d q r:Int}(H:sD y1 y0 u d)(h:gL y1 y0 u d q r):IntKind.u64.wrap (IntKind.u64.wrap (4294967296*r)+d)=4294967296*r+d:=by
 have:=h.r0
 have:=h.r1
 have:=H.hg
 have:=H.hh
 rw[gG (n:=4294967296*r),gG]
def gL.cnd{y1 y0 u d q r:Int}(H:sD y1 y0 u d)(h:gL y1 y0 u d q r):(bif wP (4294967296<=q)then V wO else V (wP (IntKind.u64.wrap (IntKind.u64.wrap (4294967296*r)+d)<IntKind.u64.wrap (q*y0))))=V (wP (4294967296<=q\/4294967296*r+d<q*y0)):=by
 by_cases hq:4294967296<=q
 ·rw[bP hq,bP (Or.inl hq),bE]
 ·rw[bO hq,bA,gL.rr H h,gL.y0q H h (by omega)]
  by_cases hc:4294967296*r+d<q*y0
  ·rw[bP hc,bP (Or.inr hc)]
  ·rw[bO hc,bO (fun k=>k.elim hq hc)]
def gL.done{y1 y0 u d q r:Int}(H:sD y1 y0 u d)(h:gL y1 y0 u d q r)(hr:4294967296<=q\/4294967296*r+d<q*y0->4294967296<=r+y1):KF y1 y0 u d (bif wP (4294967296<=q\/4294967296*r+d<q*y0)then q-1 else q):=by
 have h0:=h.q0
 have h1:=h.q1
 by_cases hc:4294967296<=q\/4294967296*r+d<q*y0
 ·rw[bP hc,bE]
  have:=gL.pos H h hc
  refine⟨by omega,by omega,gL.brk H h hc (hr hc),?_⟩
  rw[show q-1+1=q by omega]
  exact gL.big H h hc
 ·rw[bO hc,bA]
  exact⟨h0,by omega,gL.stop H h (by omega) (fun k=>hc (.inr k)),h.hi⟩
def gL.wr1{y1 y0 u d q r:Int}(H:sD y1 y0 u d)(h:gL y1 y0 u d q r):IntKind.u64.wrap (r+y1)=r+y1:=by
 have:=h.r0
 have:=h.r1
 have:=H.ha
 have:=H.hb
 exact gG
def gL.wq1{y1 y0 u d q r:Int}(H:sD y1 y0 u d)(h:gL y1 y0 u d q r)(hc:4294967296<=q\/4294967296*r+d<q*y0):IntKind.u64.wrap (q-1)=q-1:=by
 have:=h.q1
 have:=gL.pos H h hc
 exact gG
def Wk{y s y1 y0 u d e q r:Int}(H:sD y1 y0 u d)(h:gL y1 y0 u d q r):∃q' r',ID (lF.mk y s y1 y0 u d e q r)=V (lF.mk y s y1 y0 u d e q' r')/\gL y1 y0 u d q' r'/\(4294967296<=q'\/4294967296*r'+d<q'*y0->4294967296<=r'+y1):=by
 obtain⟨z,e1,⟨q',r',rfl,hI⟩,hs⟩:=lH (cO:=AM) (fun p=>∃q r,p=lF.mk y s y1 y0 u d e q r/\gL y1 y0 u d q r) (fun p=>p.t15.toNat) (fun p p' ⟨q,r,hp,hI⟩ hn=>by
  subst hp
  have hn:AM (lF.mk y s y1 y0 u d e q r)=V (V p'):=hn
  simp only[AM]at hn
  rw[gL.cnd H hI]at hn
  by_cases hc:4294967296<=q\/4294967296*r+d<q*y0
  ·rw[bP hc]at hn
   simp only[bE,gL.wr1 H hI,gL.wq1 H hI hc]at hn
   by_cases hb:4294967296<=r+y1
   ·rw[bP hb]at hn
    cases hn
   ·rw[bO hb]at hn
    simp only[bA,zF.injEq]at hn
    have hp:=gL.pos H hI hc
    subst hn
    exact⟨⟨q-1,r+y1,rfl,gL.next H hI hc (by omega)⟩,by show (q-1).toNat<q.toNat;omega⟩
  ·rw[bO hc]at hn
   cases hn) ⟨q,r,rfl,h⟩
 refine⟨q',r',e1,hI,fun hc=> ?_⟩
 by_cases hb:4294967296<=r'+y1
 ·exact hb
 ·exact cQ (show AM _=V (V _)by
   simp only[AM]
   rw[gL.cnd H hI,bP hc]
   simp only[bE,gL.wr1 H hI]
   rw[bO hb]
   rfl) (hs _)
def L0{y s y1 y0 u d e q r:Int}(H:sD y1 y0 u d)(h:gL y1 y0 u d q r):∃q' r',Ec (kA.mk y s y1 y0 d e r u q)=V (kA.mk y s y1 y0 d e r' u q')/\gL y1 y0 u d q' r'/\(4294967296<=q'\/4294967296*r'+d<q'*y0->4294967296<=r'+y1):=by
 obtain⟨z,e1,⟨q',r',rfl,hI⟩,hs⟩:=lH (cO:=AH) (fun p=>∃q r,p=kA.mk y s y1 y0 d e r u q/\gL y1 y0 u d q r) (fun p=>p.t18.toNat) (fun p p' ⟨q,r,hp,hI⟩ hn=>by
  subst hp
  have hn:AH (kA.mk y s y1 y0 d e r u q)=V (V p'):=hn
  simp only[AH]at hn
  rw[gL.cnd H hI]at hn
  by_cases hc:4294967296<=q\/4294967296*r+d<q*y0
  ·rw[bP hc]at hn
   simp only[bE,gL.wr1 H hI,gL.wq1 H hI hc]at hn
   by_cases hb:4294967296<=r+y1
   ·rw[bP hb]at hn
    cases hn
   ·rw[bO hb]at hn
    simp only[bA,zF.injEq]at hn
    have hp:=gL.pos H hI hc
    subst hn
    exact⟨⟨q-1,r+y1,rfl,gL.next H hI hc (by omega)⟩,by show (q-1).toNat<q.toNat;omega⟩
  ·rw[bO hc]at hn
   cases hn) ⟨q,r,rfl,h⟩
 refine⟨q',r',e1,hI,fun hc=> ?_⟩
 by_cases hb:4294967296<=r'+y1
 ·exact hb
 ·exact cQ (show AH _=V (V _)by
   simp only[AH]
   rw[gL.cnd H hI,bP hc]
   simp only[bE,gL.wr1 H hI]
   rw[bO hb]
   rfl) (hs _)
def ahC{n:Int}(h1:0<=n)(h2:n<256):IntKind.u8.wrap n=n:=by
 simp only[IntKind.wrap,IntKind.signed,IntKind.bits]at*
 simp
 omega
def Wy{x:Int}(k:Nat)(hk:k<=64):cW IntKind.u64 x (k:Int)=x/2^k:=by
 unfold cW
 rw[show min ((k:Int)).toNat IntKind.u64.bits=k from by simp only[za,IntKind.bits];omega]
 exact Int.fdiv_eq_ediv_of_nonneg _ (yN (Int.pow_pos (by omega)))
def ah3(i:Nat):Bool:=i==0||((zH 9).any fun t=>(lS.data[i]!).toNat==t&&wP (1<=t)&&wP (2^(t-1)<=i)&&wP (i<2^t))
def ae6:(zH 256).all ah3=wO:=by kernel_rfl
def abh{x:Int}(h1:1<=x)(h2:x<256):∃t:Nat,1<=t/\t<=8/\cl lS (IntKind.u8.wrap x).toNat=(t:Int)/\2^(t-1)<=x/\x<2^t:=by
 rw[ahC (by omega) h2]
 have h:=zo.mp ae6 x.toNat (List.mem_range.mpr (by omega))
 simp only[ah3,yJ,beq_iff_eq,List.any_eq_true,List.mem_range,zf,decide_eq_true_eq]at h
 rcases h with h|⟨t,ht,⟨⟨h3,h4⟩,h5⟩,h6⟩
 ·omega
 ·have h5':((2^(t-1):Nat):Int)<=(x.toNat:Int):=Int.ofNat_le.mpr h5
  have h6':((x.toNat:Nat):Int)<((2^t:Nat):Int):=Int.ofNat_lt.mpr h6
  rw[Int.toNat_of_nonneg (by omega),Int.natCast_pow]at h5' h6'
  exact⟨t,h4,by omega,by unfold cl;rw[h3],h5',h6'⟩
def Xh{a x:Int}{n t:Nat}(h1:1<=t)(h2:t<=8)(hx1:2^(t-1)<=x)(hx2:x<2^t)(hn:n<=56)(ha1:x*2^n<=a)(ha2:a<(x+1)*2^n):
  2^63<=a*2^(64-(n+t))/\a*2^(64-(n+t))<2^64:=by
 have p0:∀k:Nat,(0:Int)<2^k:=fun k=>Int.pow_pos (by omega)
 have e1:(2:Int)^63=2^(t-1)*2^n*2^(64-(n+t)):=by
  rw[<-Int.pow_add,<-Int.pow_add];congr 1;omega
 have e2:(2:Int)^64=2^t*2^n*2^(64-(n+t)):=by
  rw[<-Int.pow_add,<-Int.pow_add];congr 1;omega
 rw[e1,e2]
 refine⟨zG (y6 (zG hx1 (yN (p0 n))) ha1) (yN (p0 _)),?_⟩
 refine Int.mul_lt_mul_of_pos_right (Int.lt_of_lt_of_le ha2 ?_) (p0 _)
 exact zG (by omega) (yN (p0 n))
def Rh(x:Int):cW IntKind.u64 x 32=x/4294967296:=Wy (x:=x) 32 (by omega)
def aro(x:Int):cW IntKind.u64 x 16=x/65536:=Wy (x:=x) 16 (by omega)
def ayQ(x:Int):cW IntKind.u64 x 8=x/256:=Wy (x:=x) 8 (by omega)
def Y8(a:Int)(r:Option Int):Prop:=∃s:Nat,s<=63/\(match r with|O=>O|V r1=>V (i64.wrap (64-r1)))=V (s:Int)/\2^63<=a*2^s/\a*2^s<2^64
def iZ{a x:Int}(n:Nat)(hn:n<=56)(hx1:1<=x)(hx2:x<256)(ha1:x*2^n<=a)(ha2:a<(x+1)*2^n):
  Y8 a (if(0:Int)<=IntKind.u8.wrap x/\IntKind.u8.wrap x<(256:Int)then V (i64.wrap ((n:Int)+i64.wrap (cl lS (IntKind.u8.wrap x).toNat)))else O):=by
 obtain⟨t,h1,h2,h3,h4,h5⟩:=abh hx1 hx2
 rw[bw (by rw[ahC (by omega) hx2];omega),h3]
 refine⟨64-(n+t),by omega,?_,Xh h1 h2 h4 h5 hn ha1 ha2⟩
 rw[aF (n:=(t:Int)),aF (n:=(n:Int)+t)]
 show V _=_
 rw[aF]
 congr 1
 omega
def adm{a:Int}(h1:1<=a)(h2:a<18446744073709551616):∃s:Nat,s<=63/\am2 a=V (s:Int)/\2^63<=a*2^s/\a*2^s<2^64:=by
 show Y8 a (ag2 a)
 unfold ag2
 simp only[Rh,aro,ayQ]
 by_cases c1:4294967296<=a
 ·rw[bP c1,bE]
  by_cases c2:65536<=a/4294967296
  ·rw[bP c2,bE]
   by_cases c3:256<=a/4294967296/65536
   ·rw[bP c3,bE]
    exact iZ 56 (by omega) (by omega) (by omega) (by omega) (by omega)
   ·rw[bO c3,bA]
    exact iZ 48 (by omega) (by omega) (by omega) (by omega) (by omega)
  ·rw[bO c2,bA]
   by_cases c3:256<=a/4294967296
   ·rw[bP c3,bE]
    exact iZ 40 (by omega) (by omega) (by omega) (by omega) (by omega)
   ·rw[bO c3,bA]
    exact iZ 32 (by omega) (by omega) (by omega) (by omega) (by omega)
 ·rw[bO c1,bA]
  by_cases c2:65536<=a
  ·rw[bP c2,bE]
   by_cases c3:256<=a/65536
   ·rw[bP c3,bE]
    exact iZ 24 (by omega) (by omega) (by omega) (by omega) (by omega)
   ·rw[bO c3,bA]
    exact iZ 16 (by omega) (by omega) (by omega) (by omega) (by omega)
  ·rw[bO c2,bA]
   by_cases c3:256<=a
   ·rw[bP c3,bE]
    exact iZ 8 (by omega) (by omega) (by omega) (by omega) (by omega)
   ·rw[bO c3,bA]
    exact iZ 0 (by omega) (by omega) (by omega) (by omega) (by omega)
def aob{x:Int}(k:Nat)(hk:k<=64):mO IntKind.u64 x (k:Int)=(x*2^k)%18446744073709551616:=by
 unfold mO
 rw[show min ((k:Int)).toNat IntKind.u64.bits=k from by simp only[za,IntKind.bits];omega]
 exact MS _
def JF{x:Int}(h1:0<=x)(h2:x<18446744073709551616):(BitVec.ofInt 64 x).toNat=x.toNat:=by
 rw[BitVec.toNat_ofInt]
 congr 1
 omega
def Zj{x:Int}(h1:0<=x)(h2:x<18446744073709551616):uA IntKind.u64 x 4294967295=x%4294967296:=by
 unfold uA
 show IntKind.u64.wrap ((BitVec.ofInt 64 x&&&BitVec.ofInt 64 4294967295).toNat:Int)=_
 rw[BitVec.toNat_and,JF h1 h2,JF (by omega) (by omega),show (4294967295:Int).toNat=2^32-1 from rfl,Nat.and_two_pow_sub_one_eq_mod,gG]
 omega
def orU{a b:Nat}{k:Nat}(hb:b<2^k)(h:2^k*a+b<18446744073709551616):bOr IntKind.u64 ((2^k*a:Nat):Int) (b:Int)=((2^k*a+b:Nat):Int):=by
 unfold bOr
 show IntKind.u64.wrap ((BitVec.ofInt 64 ((2^k*a:Nat):Int)|||BitVec.ofInt 64 (b:Int)).toNat:Int)=_
 rw[BitVec.toNat_or,JF (by omega) (by omega),JF (by omega) (by omega),za,za,<-Nat.two_pow_add_eq_or_of_lt hb,gG]
def j6{a b:Int}(h1:0<=a:=by omega):a.tdiv b=a/b:=Int.tdiv_eq_ediv_of_nonneg h1
def kC{a b:Int}(h1:0<=a:=by omega):a.tmod b=a%b:=Int.tmod_eq_emod_of_nonneg h1
def wq0{u y1:Int}(h1:0<=u)(h2:u<18446744073709551616)(h3:2<=y1):IntKind.u64.wrap (u.tdiv y1)=u/y1:=by
 rw[j6 h1]
 have:u/y1<=u:=ye _ h1
 exact gG (zQ h1 (by omega)) (by omega)
def wr0{u y1:Int}(h1:0<=u)(h2:u<18446744073709551616)(h3:2<=y1):IntKind.u64.wrap (u-IntKind.u64.wrap (u/y1*y1))=u%y1:=by
 have e:=yL u y1
 have m0:=yM u (b:=y1) (by omega)
 rw[zA]at e
 have q0:0<=u/y1*y1:=zq (zQ h1 (by omega)) (by omega)
 rw[gG (n:=u/y1*y1) q0 (by omega),gG]
 omega
def ahX{u d q y:Int}(h1:q*y<=u*4294967296+d)(h2:u*4294967296+d<(q+1)*y)(hy:y<18446744073709551616):
  IntKind.u64.wrap (IntKind.u64.wrap (IntKind.u64.wrap (u*4294967296)+d)-IntKind.u64.wrap (q*y))=u*4294967296+d-q*y:=by
 rw[zI,zR]at h2
 generalize q*y=z at*
 simp only[MS]
 omega
def alS{hi lo y:Int}(h0:0<=hi)(h1:hi<y)(h2:y<18446744073709551616)(h3:0<=lo)(h4:lo<18446744073709551616):∃q,Y0 hi lo y=V (q,(hi*18446744073709551616+lo)%y):=by
 by_cases hz:hi=0
 ·subst hz
  refine⟨IntKind.u64.wrap (lo.tdiv y),?_⟩
  unfold Y0
  rw[fy,fy,bP rfl,bA,bA,bE,gC,gC,kC h3]
  rw[show (0:Int)*18446744073709551616+lo=lo by omega]
 obtain⟨s,hs,es,b1,b2⟩:=adm (a:=y) (by omega) h2
 have hP:(0:Int)<2^s:=Int.pow_pos (by omega)
 have hQ:(0:Int)<2^(64-s):=Int.pow_pos (by omega)
 have hPQ:(2:Int)^(64-s)*2^s=18446744073709551616:=by rw[<-Int.pow_add,show 64-s+s=64 by omega];rfl
 have b1:(9223372036854775808:Int)<=y*2^s:=b1
 have b2:y*2^s<18446744073709551616:=b2
 have eY:mO IntKind.u64 y (s:Int)=y*2^s:=by rw[aob s (by omega),Int.emod_eq_of_lt (by omega) b2]
 have lb:lo/2^(64-s)<2^s:=wF hQ (by rw[zA,hPQ];exact h4)
 have lb0:0<=lo/2^(64-s):=zQ h3 (by omega)
 have hy1:(hi+1)*2^s<=y*2^s:=zG (by omega) (by omega)
 have hy2:(hi+1)*2^s=hi*2^s+2^s:=by rw[zI,zR]
 have hp0:0<=hi*2^s:=zq h0 (by omega)
 have eU:bOr IntKind.u64 (mO IntKind.u64 hi (s:Int)) (cW IntKind.u64 lo (IntKind.u64.wrap (64-(s:Int))))=hi*2^s+lo/2^(64-s):=by
  rw[aob s (by omega),Int.emod_eq_of_lt hp0 (by omega),gG (n:=64-(s:Int)),show (64-(s:Int))=((64-s:Nat):Int)by omega,Wy (64-s) (by omega)]
  obtain⟨a,rfl⟩:=wG h0
  obtain⟨b,hb⟩:=wG lb0
  rw[hb]at lb ⊢
  have e:(a:Int)*2^s=((2^s*a:Nat):Int):=by rw[xh,Int.natCast_pow,zA];rfl
  have lb':b<2^s:=by
   have:((b:Nat):Int)<((2^s:Nat):Int):=by rw[Int.natCast_pow];exact lb
   exact Int.ofNat_lt.mp this
  rw[e]at hp0 hy2 ⊢
  rw[orU lb' (by omega)]
  omega
 have eD:mO IntKind.u64 lo (s:Int)=(lo*2^s)%18446744073709551616:=aob s (by omega)
 have key:(hi*18446744073709551616+lo)*2^s=(hi*2^s+lo/2^(64-s))*18446744073709551616+(lo*2^s)%18446744073709551616:=by
  have k1:=yL (lo*2^s) 18446744073709551616
  have k2:lo*2^s/18446744073709551616=lo/2^(64-s):=by rw[<-hPQ];exact Int.mul_ediv_mul_of_pos_left _ _ hP
  rw[k2]at k1
  rw[zI,zN,zA 18446744073709551616 (2^s),<-zN]
  omega
 have hD0:0<=(lo*2^s)%18446744073709551616:=by omega
 have hD1:(lo*2^s)%18446744073709551616<18446744073709551616:=by omega
 have hU0:0<=hi*2^s+lo/2^(64-s):=by omega
 have hU1:hi*2^s+lo/2^(64-s)<y*2^s:=by omega
 have res:∀Q,Q*(y*2^s)<=(hi*18446744073709551616+lo)*2^s->(hi*18446744073709551616+lo)*2^s<(Q+1)*(y*2^s)->((hi*18446744073709551616+lo)*2^s-Q*(y*2^s))/2^s=(hi*18446744073709551616+lo)%y:=fun Q q1 q2=>by
  rw[<-zN,<-yl,Int.mul_ediv_cancel _ (by omega)]
  rw[<-zN]at q1 q2
  have q1:=Int.le_of_mul_le_mul_right q1 hP
  have q2:=wo q2 (yN hP)
  rw[zI,zR]at q2
  have e:=yL (hi*18446744073709551616+lo) y
  generalize hi*18446744073709551616+lo=X at*
  have:X/y=Q:=by
   apply Int.le_antisymm
   ·have:X/y<Q+1:=wF (by omega) (by rw[zI,zR];exact q2)
    omega
   ·exact Int.le_ediv_of_mul_le (by omega) q1
  rw[this,zA]at e
  omega
 rw[key]at res
 unfold Y0
 rw[bO (show ¬y=0 by omega),bO (show ¬y<=hi by omega),bO hz,bA,bA,bA,es]
 simp only[gG (n:=(s:Int))]
 rw[eY,eU,eD,gG (n:=64-(s:Int)),gC,gC,gC,gC]
 generalize hi*2^s+lo/2^(64-s)=U at*
 generalize (lo*2^s)%18446744073709551616=D at*
 generalize y*2^s=Y at*
 clear eY eU eD key hy1 hy2 hp0 lb lb0 hPQ hQ h1 hz
 have eY1:Y/4294967296*4294967296+Y%4294967296=Y:=by omega
 have H0:sD (Y/4294967296) (Y%4294967296) U (D/4294967296):=⟨by omega,by omega,by omega,by omega,hU0,by omega,by omega,by omega⟩
 have hU2:U<18446744073709551616:=by omega
 rw[Rh,Rh,Zj hD0 hD1,Zj (by omega) b2,gC,wq0 hU0 hU2 (by omega),wr0 hU0 hU2 (by omega)]
 obtain⟨q1,r1,e1,I1,s1⟩:=Wk (y:=Y) (s:=(s:Int)) (e:=D%4294967296) H0 (gL.start H0)
 rw[e1]
 have D1:=gL.done H0 I1 s1
 simp only[gL.cnd H0 I1,gL.wr1 H0 I1]
 have second:∀Q1,KF (Y/4294967296) (Y%4294967296) U (D/4294967296) Q1->∃W,sD (Y/4294967296) (Y%4294967296) W (D%4294967296)/\IntKind.u64.wrap (IntKind.u64.wrap (IntKind.u64.wrap (U*4294967296)+D/4294967296)-IntKind.u64.wrap (Q1*Y))=W/\W=U*4294967296+D/4294967296-Q1*Y/\0<=W/\W<Y:=fun Q1 hk=>by
  unfold KF at hk
  rw[eY1]at hk
  obtain⟨k0,k1,k2,k3⟩:=hk
  have k4:=k3
  rw[zI,zR]at k4
  exact⟨_,⟨by omega,by omega,by omega,by omega,by omega,by omega,by omega,by omega⟩,ahX k2 k3 b2,rfl,by omega,by omega⟩
 have fin:∀Q1 Q2 W,W=U*4294967296+D/4294967296-Q1*Y->KF (Y/4294967296) (Y%4294967296) W (D%4294967296) Q2->cW IntKind.u64 (IntKind.u64.wrap (IntKind.u64.wrap (IntKind.u64.wrap (W*4294967296)+D%4294967296)-IntKind.u64.wrap (Q2*Y))) (s:Int)=(hi*18446744073709551616+lo)%y:=fun Q1 Q2 W hW hk=>by
  unfold KF at hk
  rw[eY1]at hk
  obtain⟨k0,k1,k2,k3⟩:=hk
  rw[ahX k2 k3 b2,Wy s (by omega)]
  have e:U*18446744073709551616+D=W*4294967296+D%4294967296+Q1*4294967296*Y:=by
   rw[hW,zN,zA 4294967296 Y,<-zN]
   omega
  rw[<-res (Q1*4294967296+Q2)]
  ·congr 1
   rw[zI]
   omega
  ·rw[zI]
   omega
  ·rw[zI,zR]at k3
   rw[Int.add_assoc,zI,zI Q2,zR]
   omega
 by_cases c1:4294967296<=q1\/4294967296*r1+D/4294967296<q1*(Y%4294967296)
 ·rw[bP c1]at D1 ⊢
  rw[bE]at D1
  rw[bE,bP (s1 c1),bE,gC,gL.wq1 H0 I1 c1]
  obtain⟨W,H1,w1,w2,w3,w4⟩:=second _ D1
  rw[w1,wq0 w3 (by omega) (by omega),wr0 w3 (by omega) (by omega)]
  obtain⟨q2,r2,e2,I2,s2⟩:=L0 (y:=Y) (s:=(s:Int)) (e:=q1-1) H1 (gL.start H1)
  rw[e2]
  have D2:=gL.done H1 I2 s2
  simp only[gL.cnd H1 I2,gL.wr1 H1 I2]
  by_cases c2:4294967296<=q2\/4294967296*r2+D%4294967296<q2*(Y%4294967296)
  ·rw[bP c2]at D2 ⊢
   rw[bE]at D2
   rw[bE,bP (s2 c2),bE,gC,gL.wq1 H1 I2 c2,fin _ _ W w2 D2]
   exact⟨_,rfl⟩
  ·rw[bO c2]at D2 ⊢
   rw[bA]at D2
   rw[bA,gC,fin _ _ W w2 D2]
   exact⟨_,rfl⟩
 ·rw[bO c1]at D1 ⊢
  rw[bA]at D1
  rw[bA,gC]
  obtain⟨W,H1,w1,w2,w3,w4⟩:=second _ D1
  rw[w1,wq0 w3 (by omega) (by omega),wr0 w3 (by omega) (by omega)]
  obtain⟨q2,r2,e2,I2,s2⟩:=L0 (y:=Y) (s:=(s:Int)) (e:=q1) H1 (gL.start H1)
  rw[e2]
  have D2:=gL.done H1 I2 s2
  simp only[gL.cnd H1 I2,gL.wr1 H1 I2]
  by_cases c2:4294967296<=q2\/4294967296*r2+D%4294967296<q2*(Y%4294967296)
  ·rw[bP c2]at D2 ⊢
   rw[bE]at D2
   rw[bE,bP (s2 c2),bE,gC,gL.wq1 H1 I2 c2,fin _ _ W w2 D2]
   exact⟨_,rfl⟩
  ·rw[bO c2]at D2 ⊢
   rw[bA]at D2
   rw[bA,gC,fin _ _ W w2 D2]
   exact⟨_,rfl⟩
def mul_lt{a b m n:Int}(h1:0<=a)(h2:a<=m)(h3:0<=b)(h4:b<=n):0<=a*b/\a*b<=m*n:=
 ⟨zq h1 h3,Int.mul_le_mul h2 h4 h3 (by omega)⟩
def am8{x y:Int}(h1:0<=x)(h2:x<18446744073709551616)(h3:0<=y)(h4:y<18446744073709551616):YI x y=(x*y/18446744073709551616,x*y%18446744073709551616):=by
 unfold YI
 simp only[Rh,Zj h1 h2,Zj h3 h4]
 have e:x*y=(x/4294967296*(y/4294967296))*18446744073709551616+(x/4294967296*(y%4294967296))*4294967296+(x%4294967296*(y/4294967296))*4294967296+x%4294967296*(y%4294967296):=by
  conv=>lhs;rw[show x=x/4294967296*4294967296+x%4294967296 by omega,show y=y/4294967296*4294967296+y%4294967296 by omega]
  generalize x/4294967296=a
  generalize x%4294967296=b
  generalize y/4294967296=c
  generalize y%4294967296=d
  rw[zI,yS,yS,zN,Int.mul_left_comm 4294967296 c,zN,zA 4294967296 d,<-zN b,<-zN a d,<-zN a c]
  omega
 obtain⟨a0,a1⟩:=mul_lt (a:=x/4294967296) (b:=y/4294967296) (m:=4294967295) (n:=4294967295) (by omega) (by omega) (by omega) (by omega)
 obtain⟨b0,b1⟩:=mul_lt (a:=x/4294967296) (b:=y%4294967296) (m:=4294967295) (n:=4294967295) (by omega) (by omega) (by omega) (by omega)
 obtain⟨c0,c1⟩:=mul_lt (a:=x%4294967296) (b:=y/4294967296) (m:=4294967295) (n:=4294967295) (by omega) (by omega) (by omega) (by omega)
 obtain⟨d0,d1⟩:=mul_lt (a:=x%4294967296) (b:=y%4294967296) (m:=4294967295) (n:=4294967295) (by omega) (by omega) (by omega) (by omega)
 rw[e]
 generalize x/4294967296*(y/4294967296)=A at*
 generalize x/4294967296*(y%4294967296)=B at*
 generalize x%4294967296*(y/4294967296)=C at*
 generalize x%4294967296*(y%4294967296)=D at*
 rw[gG (n:=A),gG (n:=B),gG (n:=C),gG (n:=D),
  gG (n:=B+D/4294967296),Zj (by omega) (by omega),gG (n:=(B+D/4294967296)%4294967296+C)]
 rw[gG (n:=A+(B+D/4294967296)/4294967296),gG,MS]
 congr 1
 omega
def aoZ{x y m:Int}(h1:0<=x)(h2:x<m)(h3:0<=y)(h4:y<m)(h5:m<9223372036854775808):ac0 x y m=V (x*y%m):=by
 unfold ac0
 rw[gG h1 (by omega),gG h3 (by omega),gG (n:=m),am8 h1 (by omega) h3 (by omega)]
 simp only
 obtain⟨k0,k1⟩:=mul_lt (a:=x) (b:=y) (m:=m) (n:=m-1) h1 (by omega) h3 (by omega)
 have hx:x*y<m*18446744073709551616:=by
  have:m*(m-1)<=m*18446744073709551615:=Int.mul_le_mul_of_nonneg_left (by omega) (by omega)
  omega
 unfold alu
 have hh:x*y/18446744073709551616<m:=wF (by omega) hx
 have hh0:0<=x*y/18446744073709551616:=by omega
 rw[gC,kC hh0,Int.emod_eq_of_lt hh0 hh]
 obtain⟨q,e⟩:=alS hh0 hh (by omega) (show 0<=x*y%18446744073709551616 by omega) (by omega)
 rw[e,show x*y/18446744073709551616*18446744073709551616+x*y%18446744073709551616=x*y by omega]
 simp only
 have r0:=yM (x*y) (b:=m) (by omega)
 have r1:=yR (x*y) (b:=m) (by omega)
 rw[aF]
def bZ(a b:Int):Int:=((yy a b:Nat):Int)
def p9{a b:Int}(h1:0<=a)(h2:0<=b):yy b (a.tmod b)=yy a b:=by
 obtain⟨x,rfl⟩:=wG h1
 obtain⟨y,rfl⟩:=wG h2
 rw[kC h1]
 show Nat.gcd y ((x:Int)%(y:Int)).natAbs=Nat.gcd x y
 rw[<-Int.natCast_emod,Int.natAbs_natCast,Nat.gcd_comm,<-Nat.gcd_rec,Nat.gcd_comm]
def aiF{a:Int}(h:0<=a):((yy a 0:Nat):Int)=a:=by
 rw[Int.gcd_zero_right];omega
def Cd{x:Int}:(bif wP (x=0)then wN else wO)=wP (¬x=0):=by
 by_cases h:x=0
 ·rw[bP h,bO (fun k=>k h)];rfl
 ·rw[bO h,bP h];rfl
def amt{a b:Int}(h1:0<=a)(h2:0<=b):Eo (lN.mk a b)=V (lN.mk (yy a b) 0):=by
 obtain⟨z,e,⟨x,y,rfl,hx,hy,hg⟩,hs⟩:=lH (cO:=uc) (fun p=>∃x y,p=lN.mk x y/\0<=x/\0<=y/\yy x y=yy a b) (fun p=>p.t1.toNat) (fun p p' ⟨x,y,hp,hx,hy,hg⟩ hn=>by
  subst hp
  have hn:uc (lN.mk x y)=V (V p'):=hn
  simp only[uc,Cd]at hn
  by_cases h0:y=0
  ·rw[fy,bA]at hn;cases hn
  ·rw[bP h0,bE,bw h0]at hn
   simp only[zF.injEq]at hn
   subst hn
   have m0:=yM x (b:=y) h0
   have m1:=yR x (b:=y) (by omega)
   refine⟨⟨y,x.tmod y,rfl,hy,by rw[kC hx];exact m0,by rw[p9 hx hy,hg]⟩,?_⟩
   show (x.tmod y).toNat<y.toNat
   rw[kC hx];omega) ⟨a,b,rfl,h1,h2,rfl⟩
 have h0:y=0:=Decidable.byContradiction fun h0=>hs _ (show uc _=V (V _)by
  simp only[uc,Cd]
  rw[bP h0,bE,bw h0])
 subst h0
 rw[show Eo=bI uc from rfl,e,<-hg,aiF hx]
def Ci{a b:Int}(h1:0<=a)(h2:0<=b):B5 a b=V (bZ a b):=by
 unfold B5
 rw[amt h1 h2]
 rfl
def aoP{a b k n:Int}{l:List Int}(h1:0<=a)(h2:0<=b):AG (ke.mk a b l n k)=V (ke.mk (yy a b) 0 l n k):=by
 obtain⟨z,e,⟨x,y,rfl,hx,hy,hg⟩,hs⟩:=lH (cO:=tK) (fun p=>∃x y,p=ke.mk x y l n k/\0<=x/\0<=y/\yy x y=yy a b) (fun p=>p.t5.toNat) (fun p p' ⟨x,y,hp,hx,hy,hg⟩ hn=>by
  subst hp
  have hn:tK (ke.mk x y l n k)=V (V p'):=hn
  simp only[tK,Cd]at hn
  by_cases h0:y=0
  ·rw[fy,bA]at hn;cases hn
  ·rw[bP h0,bE,bw h0]at hn
   simp only[zF.injEq]at hn
   subst hn
   have m0:=yM x (b:=y) h0
   have m1:=yR x (b:=y) (by omega)
   refine⟨⟨y,x.tmod y,rfl,hy,by rw[kC hx];exact m0,by rw[p9 hx hy,hg]⟩,?_⟩
   show (x.tmod y).toNat<y.toNat
   rw[kC hx];omega) ⟨a,b,rfl,h1,h2,rfl⟩
 have h0:y=0:=Decidable.byContradiction fun h0=>hs _ (show tK _=V (V _)by
  simp only[tK,Cd]
  rw[bP h0,bE,bw h0])
 subst h0
 rw[show AG=bI tK from rfl,e,<-hg,aiF hx]
def Ej{a k k1:Int}{l:List Int}(i:Nat)(h1:0<=a)(hk:k=i)(hk1:k1=i+1)(hi:i<l.length)(hl:l.length<=1000)(h2:0<=l[i]!):ud (nV.mk a l l.length k)=V (V (nV.mk (bZ a l[i]!) l l.length k1)):=by
 subst hk hk1
 unfold ud
 simp only
 rw[sw,bE,gC,za,aoP h1 h2]
 simp only
 rw[bP trivial,bE,bA,aF]
 rfl
def Fk{a b:Int}(h1:0<=a)(h2:0<=b):Ce [a,b]=V (bZ a b):=by
 unfold Ce
 rw[show C8=bI ud from rfl,
  bQ (Ej (l:=[a,b]) (k:=0) (k1:=1) 0 (zg 0) rfl rfl (by simp) (by simp) h1),bQ (Ej (l:=[a,b]) (k:=1) (k1:=2) 1 (by unfold bZ;omega) rfl rfl (by simp) (by simp) h2)]
 rw[cu (by intro r hr;simp[ud]at hr)]
 simp only
 rw[bO (by simp),bA]
 show V (bZ (bZ 0 a) b)=_
 unfold bZ
 rw[Int.gcd_zero_left,show ((a.natAbs:Nat):Int)=a by omega]
def D5{a b c:Int}(h1:0<=a)(h2:0<=b)(h3:0<=c):Ce [a,b,c]=V (bZ (bZ a b) c):=by
 unfold Ce
 rw[show C8=bI ud from rfl,
  bQ (Ej (l:=[a,b,c]) (k:=0) (k1:=1) 0 (zg 0) rfl rfl (by simp) (by simp) h1),bQ (Ej (l:=[a,b,c]) (k:=1) (k1:=2) 1 (by unfold bZ;omega) rfl rfl (by simp) (by simp) h2),
  bQ (Ej (l:=[a,b,c]) (k:=2) (k1:=3) 2 (by unfold bZ;omega) rfl rfl (by simp) (by simp) h3)]
 rw[cu (by intro r hr;simp[ud]at hr)]
 simp only
 rw[bO (by simp),bA]
 show V (bZ (bZ (bZ 0 a) b) c)=_
 rw[show bZ 0 a=a from by unfold bZ;rw[Int.gcd_zero_left];omega]
end Go.Proofs.YtnfljbehcffmcaaGreat
end
noncomputable section
namespace Go.Iv
open Go
variable [U:sX] [L:nQ]
def OW{α β ρ τ:Type}(step:Nat->β->α->β ⊕ ρ)(out:ρ->τ)(fin:β->τ):List α->Nat->β->τ
 |[],_,b=>fin b
 |x::xs,i,b=>match step i b x with
  | .inl b'=>OW step out fin xs (i+1) b'
  | .inr r=>out r
def Aa{α β ρ τ:Type}{step:Nat->β->α->β ⊕ ρ}{out:ρ->τ}{fin:β->τ}{x:α}{xs:List α}{i:Nat}{b b':β}(h:step i b x= .inl b'):OW step out fin (x::xs) i b=OW step out fin xs (i+1) b':=by
 simp only[OW,h]
def CJ{α β ρ τ:Type}{step:Nat->β->α->β ⊕ ρ}{out:ρ->τ}{fin:β->τ}{x:α}{xs:List α}{i:Nat}{b:β}{r:ρ}(h:step i b x= .inr r):OW step out fin (x::xs) i b=out r:=by
 simp only[OW,h]
def Y7{γ α β ρ τ:Type}[Inhabited α]{cO:γ->Option (Option γ)}(l:List α)(mk:Nat->β->γ)(step:Nat->β->α->β ⊕ ρ)(out:ρ->τ)(fin:β->τ)(I:Nat->β->Prop)
  (h1:∀i b,i<l.length->I i b->(∀b',step i b l[i]! = .inl b'->cO (mk i b)=V (V (mk (i+1) b'))/\I (i+1) b')/\∀r,step i b l[i]! = .inr r->cO (mk i b)=V O)
  (h2:∀b,I l.length b->cO (mk l.length b)=V O) {b:β} (hb:I 0 b):
  ∃i v,bI cO (mk 0 b)=V (mk i v)/\I i v/\((i=l.length/\OW step out fin l 0 b=fin v)\/(i<l.length/\∃r,step i v l[i]! = .inr r/\OW step out fin l 0 b=out r)):=by
 have key:∀(xs:List α) (i:Nat) (b:β),l.drop i=xs->i<=l.length->I i b->∃j v,bI cO (mk i b)=V (mk j v)/\I j v/\((j=l.length/\OW step out fin xs i b=fin v)\/(j<l.length/\∃r,step j v l[j]! = .inr r/\OW step out fin xs i b=out r)):=by
  intro xs
  induction xs with
  |nil=>
   intro i b hd hi hb
   have:i=l.length:=by have:=congrArg zc hd;simp at this;omega
   subst this
   exact⟨_,b,cu (fun r=>by rw[h2 b hb];simp),hb, .inl ⟨rfl,rfl⟩⟩
  |cons x xs ih=>
   intro i b hd hi hb
   have hil:i<l.length:=by have:=congrArg zc hd;simp at this;omega
   have hx:l[i]! =x:=by
    have:=congrArg List.head? hd
    rw[List.head?_drop,zk hil]at this
    rw[getElem!_pos l i hil]
    simpa using this
   have hd':l.drop (i+1)=xs:=by
    have:=congrArg List.tail hd
    rw[List.tail_drop]at this
    simpa using this
   obtain⟨p1,p2⟩:=h1 i b hil hb
   cases hs:step i b x with
   |inl b'=>
    obtain⟨q1,q2⟩:=p1 b' (by rw[hx];exact hs)
    obtain⟨j,v,e2,e3,e4⟩:=ih (i+1) b' hd' hil q2
    rw[Aa hs]
    exact⟨j,v,by rw[bQ q1];exact e2,e3,e4⟩
   |inr r=>
    rw[CJ hs]
    exact⟨i,b,cu (fun r'=>by rw[p2 r (by rw[hx];exact hs)];simp),hb, .inr ⟨hil,r,by rw[hx];exact hs,rfl⟩⟩
 exact key l 0 b rfl (xm _) hb
def aX{α:Type}[Inhabited α]{l:List α}{i:Nat}(h:i<l.length):l[i]!∈l:=by rw[getElem!_pos l i h];exact xx h
def gF{i n:Nat}(h:i<n)(hn:n<=1000000):IntKind.i64.wrap ((i:Int)+1)=((i+1:Nat):Int):=by rw[aF];omega
def oK{γ β:Type}{cO:γ->Option (Option γ)}(n:Nat)(mk:Nat->β->γ)(I S:Nat->β->Prop)
  (h1:∀i b,i<n->I i b->(∃b',cO (mk i b)=V (V (mk (i+1) b'))/\I (i+1) b')\/(cO (mk i b)=V O/\S i b))
  (h2:∀b,I n b->cO (mk n b)=V O) {b:β} (hb:I 0 b):
  ∃i v,bI cO (mk 0 b)=V (mk i v)/\I i v/\(i=n\/(i<n/\S i v)):=by
 have key:∀(k i:Nat) (b:β),i+k=n->I i b->∃j v,bI cO (mk i b)=V (mk j v)/\I j v/\(j=n\/(j<n/\S j v)):=by
  intro k
  induction k with
  |zero=>
   intro i b hi hb
   have:i=n:=by omega
   subst this
   exact⟨_,b,cu (fun r=>by rw[h2 b hb];simp),hb, .inl rfl⟩
  |succ k ih=>
   intro i b hi hb
   rcases h1 i b (by omega) hb with ⟨b',q1,q2⟩|⟨q1,q2⟩
   ·rw[bQ q1]
    exact ih (i+1) b' (by omega) q2
   ·exact⟨i,b,cu (fun r=>by rw[q1];simp),hb, .inr ⟨by omega,q2⟩⟩
 exact key n 0 b (by omega) hb
def dH{γ β:Type}{cO:γ->Option (Option γ)}(n:Nat)(mk:Nat->β->γ)(I:Nat->β->Prop)
  (h1:∀i b,i<n->I i b->∃b',cO (mk i b)=V (V (mk (i+1) b'))/\I (i+1) b')
  (h2:∀b,I n b->cO (mk n b)=V O) {b:β} (hb:I 0 b):∃v,bI cO (mk 0 b)=V (mk n v)/\I n v:=by
 obtain⟨i,v,e,hi,h⟩:=oK n mk I (fun _ _=>False) (fun i b hi hb=> .inl (h1 i b hi hb)) h2 hb
 rcases h with rfl|⟨_,h⟩
 ·exact⟨v,e,hi⟩
 ·exact h.elim
def cw{α:Type}(c:Nat->α->Int):List α->Nat->Int
 |[],_=>0
 |x::xs,i=>if c i x=0 then cw c xs (i+1)else c i x
def sU{γ α:Type}[Inhabited α]{cO:γ->Option (Option γ)}(l:List α)(mk:Nat->γ)(c:Nat->α->Int)
  (h1:∀i,i<l.length->(c i l[i]! =0->cO (mk i)=V (V (mk (i+1))))/\(c i l[i]!≠0->cO (mk i)=V O))
  (h2:cO (mk l.length)=V O):
  ∃i,bI cO (mk 0)=V (mk i)/\((i=l.length/\cw c l 0=0)\/(i<l.length/\c i l[i]!≠0/\cw c l 0=c i l[i]!)):=by
 have key:∀(xs:List α) (i:Nat),l.drop i=xs->i<=l.length->∃j,bI cO (mk i)=V (mk j)/\((j=l.length/\cw c xs i=0)\/(j<l.length/\c j l[j]!≠0/\cw c xs i=c j l[j]!)):=by
  intro xs
  induction xs with
  |nil=>
   intro i hd hi
   have:i=l.length:=by have:=congrArg zc hd;simp at this;omega
   subst this
   exact⟨_,cu (fun r=>by rw[h2];simp), .inl ⟨rfl,rfl⟩⟩
  |cons x xs ih=>
   intro i hd hi
   have hil:i<l.length:=by have:=congrArg zc hd;simp at this;omega
   have hx:l[i]! =x:=by
    have:=congrArg List.head? hd
    rw[List.head?_drop,zk hil]at this
    rw[getElem!_pos l i hil]
    simpa using this
   have hd':l.drop (i+1)=xs:=by
    have:=congrArg List.tail hd
    rw[List.tail_drop]at this
    simpa using this
   obtain⟨p1,p2⟩:=h1 i hil
   unfold cw
   rw[hx]at p1 p2
   by_cases hc:c i x=0
   ·rw[bw hc,bQ (p1 hc)]
    exact ih (i+1) hd' hil
   ·rw[bF hc]
    exact⟨i,cu (fun r=>by rw[p2 hc];simp), .inr ⟨hil,by rw[hx];exact hc,by rw[hx]⟩⟩
 exact key l 0 rfl (xm _)
def oI{γ α:Type}[Inhabited α]{cO:γ->Option (Option γ)}(l:List α)(mk:Nat->γ)(c:Nat->α->Bool)
  (h1:∀i,i<l.length->(c i l[i]! =wO->cO (mk i)=V (V (mk (i+1))))/\(c i l[i]! =wN->cO (mk i)=V O))
  (h2:cO (mk l.length)=V O):
  ∃i,bI cO (mk 0)=V (mk i)/\((i=l.length/\∀j,j<l.length->c j l[j]! =wO)\/(i<l.length/\c i l[i]! =wN)):=by
 obtain⟨i,v,e,hI,h⟩:=oK (β:=Unit) (cO:=cO) l.length (fun i _=>mk i) (fun i _=>∀j,j<i->c j l[j]! =wO) (fun i _=>c i l[i]! =wN) (fun i b hi hI=>by
   obtain⟨p1,p2⟩:=h1 i hi
   cases hc:c i l[i]! with
   |true=>exact .inl ⟨(),p1 hc,fun j hj=>by
     rcases yT.1 hj with h|h
     ·exact hI j h
     ·subst h;exact hc⟩
   |false=>exact .inr ⟨p2 hc,rfl⟩) (fun b _=>h2) (b:=()) (fun j hj=>cQ hj (by omega))
 refine⟨i,e,?_⟩
 rcases h with h|h
 ·subst h;exact .inl ⟨rfl,hI⟩
 ·exact .inr h
def DM{α:Type}[Inhabited α]{l:List α}{p:α->Bool}(h:∀j,j<l.length->p l[j]! =wO):l.all p=wO:=by
 rw[zo]
 intro x hx
 obtain⟨i,hi,e⟩:=xS hx
 have:=h i hi
 rw[getElem!_pos l i hi,e]at this
 exact this
def wY{α:Type}[Inhabited α]{l:List α}{p:α->Bool}{i:Nat}(hi:i<l.length)(h:p l[i]! =wN):l.all p=wN:=by
 cases ha:l.all p with
 |false=>rfl
 |true=>
  rw[zo]at ha
  rw[ha _ (aX hi)]at h
  exact cQ h (by decide)
def vz{α:Type}[Inhabited α]{l:List α}{p:α->Bool}(h:∀j,j<l.length->p l[j]! =wN):l.any p=wN:=by
 cases ha:l.any p with
 |false=>rfl
 |true=>
  obtain⟨x,hx,e⟩:=List.any_eq_true.1 ha
  obtain⟨i,hi,e2⟩:=xS hx
  have:=h i hi
  rw[getElem!_pos l i hi,e2,e]at this
  exact cQ this (by decide)
def Dd{α:Type}[Inhabited α]{l:List α}{p:α->Bool}{i:Nat}(hi:i<l.length)(h:p l[i]! =wO):l.any p=wO:=
 List.any_eq_true.2 ⟨_,aX hi,h⟩
def bS{α:Type}[Inhabited α]{l:List α}{i:Nat}(h:i<l.length):l.take (i+1)=l.take i++[l[i]!]:=by
 rw[getElem!_pos l i h]
 exact(List.take_append_getElem h).symm
end Go.Iv
end
noncomputable section
set_option maxRecDepth 100000
namespace Go.Proofs.YtnfljbehcffmcaaGreat
open Go Go.Iv
open Go.IntKind (i64 u64)
def cy:aI:=aI.mk 1 0 0
structure NN (a:aI):Prop where
 lo: -1099511627776<=a.af
 hi:a.aa<=1099511627776
 le:a.af<=a.aa
 st:(a.af=a.aa/\a.ai=0)\/(a.af<a.aa/\1<=a.ai/\(a.aa-a.af)%a.ai=0)
def NV(a:aI):Prop:=a=cy\/NN a
def NN.s0{a:aI}(h:NN a):0<=a.ai:=by rcases h.st with ⟨_,h⟩|⟨_,h,_⟩<;>omega
def NN.dvd{a:aI}(h:NN a):a.ai∣a.aa-a.af:=by
 rcases h.st with ⟨h1,h2⟩|⟨_,_,h3⟩
 ·rw[h2,h1];exact⟨0,by omega⟩
 ·exact wq h3
def NN.sle{a:aI}(h:NN a):a.ai<=a.aa-a.af:=by
 rcases h.st with ⟨h1,h2⟩|⟨h1,_,h3⟩
 ·omega
 ·exact Int.le_of_dvd (by omega) (wq h3)
def NN.ne{a:aI}(h:NN a):a≠cy:=fun e=>by
 have:=h.le
 rw[e]at this
 exact cQ this (by decide)
def Ct{a b:aI}(h1:a.af=b.af)(h2:a.aa=b.aa)(h3:a.ai=b.ai):a=b:=by
 cases a;cases b;simp only at h1 h2 h3;subst h1 h2 h3;rfl
def dL(x:Int):aI:=aI.mk x x 0
def NN.one{x:Int}(h1: -1099511627776<=x)(h2:x<=1099511627776):NN (dL x):=⟨h1,h2,zg _, .inl ⟨rfl,rfl⟩⟩
structure cS (P:Int->Prop) (c:aI):Prop where
 lo:P c.af
 hi:P c.aa
 all:∀x,P x->c.af<=x/\x<=c.aa/\c.ai∣x-c.af
 nn:0<=c.ai
 best:∀d,(∀x,P x->d∣x-c.af)->d∣c.ai
def cS.uniq{P:Int->Prop}{c d:aI}(h:cS P c)(k:cS P d):c=d:=by
 have e1:c.af=d.af:=Int.le_antisymm (h.all _ k.lo).1 (k.all _ h.lo).1
 have e2:c.aa=d.aa:=Int.le_antisymm (k.all _ h.hi).2.1 (h.all _ k.hi).2.1
 refine Ct e1 e2 (Int.dvd_antisymm h.nn k.nn (k.best _ fun x hx=>by rw[<-e1];exact(h.all x hx).2.2) (h.best _ fun x hx=>by rw[e1];exact(k.all x hx).2.2))
def cS.congr{P Q:Int->Prop}{c:aI}(h:cS P c)(k:∀x,P x↔Q x):cS Q c:=
 ⟨(k _).mp h.lo,(k _).mp h.hi,fun x hx=>h.all x ((k x).mpr hx),h.nn,fun d hd=>h.best d fun x hx=>hd x ((k x).mp hx)⟩
def cS.valid{P:Int->Prop}{c:aI}(h:cS P c)(hP:∀x,P x-> -1099511627776<=x/\x<=1099511627776):NN c:=by
 have h1:=hP _ h.lo
 have h2:=hP _ h.hi
 obtain⟨h3,_,h4⟩:=h.all _ h.hi
 refine⟨h1.1,h2.2,h3,?_⟩
 have h5:=h.nn
 rcases Int.lt_or_eq_of_le h3 with h6|h6
 ·refine .inr ⟨h6,?_,Int.emod_eq_zero_of_dvd h4⟩
  rcases Int.lt_or_eq_of_le h5 with h7|h7
  ·omega
  ·rw[<-h7]at h4
   have:=xH.mp h4
   omega
 ·refine .inl ⟨h6,?_⟩
  have:=h.best 0 fun x hx=>by
   obtain⟨a1,a2,_⟩:=h.all x hx
   exact⟨0,by omega⟩
  exact xH.mp this
def bz(a:aI)(x:Int):Prop:=a.af<=x/\x<=a.aa/\a.ai∣x-a.af
def NN.dA{a:aI}(h:NN a):cS (bz a) a:=by
 refine⟨⟨zg _,h.le,⟨0,by omega⟩⟩,⟨h.le,zg _,h.dvd⟩,fun x hx=>hx,h.s0,fun d hd=> ?_⟩
 rcases h.st with ⟨h1,h2⟩|⟨h1,h2,h3⟩
 ·rw[h2];exact yU d
 ·have:=hd (a.af+a.ai) ⟨by omega,by have:=h.sle;omega,⟨1,by omega⟩⟩
  rwa [show a.af+a.ai-a.af=a.ai by omega]at this
def jt(x:Int):cS (· =x) (dL x):=
 ⟨rfl,rfl,fun y hy=>⟨Int.le_of_eq hy.symm,Int.le_of_eq hy,⟨0,by rw[hy];simp[dL]⟩⟩,zg _,fun d _=>yU d⟩
def jY(a b:Int):bZ a b∣a:=Int.gcd_dvd_left ..
def qB(a b:Int):bZ a b∣b:=Int.gcd_dvd_right ..
def jh{d a b:Int}(h1:d∣a)(h2:d∣b):d∣bZ a b:=Int.dvd_coe_gcd h1 h2
def ld(a b:Int):0<=bZ a b:=by unfold bZ;omega
def gcd_neg(a b:Int):bZ a (-b)=bZ a b:=by unfold bZ;rw[Int.gcd_neg]
def jn(a b:aI):aI:=aI.mk (min a.af b.af) (max a.aa b.aa) (bZ (bZ a.ai b.ai) (a.af-b.af))
def cn(a b:aI):aI:=open Classical in if a=cy then b else if b=cy then a else jn a b
def cS.join{P Q:Int->Prop}{a b:aI}(h:cS P a)(k:cS Q b):cS (fun x=>P x\/Q x) (jn a b):=by
 have g1:bZ (bZ a.ai b.ai) (a.af-b.af)∣a.ai:=zS (jY _ _) (jY _ _)
 have g2:bZ (bZ a.ai b.ai) (a.af-b.af)∣b.ai:=zS (jY _ _) (qB _ _)
 have g3:bZ (bZ a.ai b.ai) (a.af-b.af)∣a.af-b.af:=qB _ _
 refine⟨?_,?_,fun x hx=> ?_,ld _ _,fun d hd=> ?_⟩
 ·show P (min a.af b.af)\/Q (min a.af b.af)
  rcases xI a.af b.af with e|e
  ·rw[wu e];exact .inl h.lo
  ·rw[xJ e];exact .inr k.lo
 ·show P (max a.aa b.aa)\/Q (max a.aa b.aa)
  rcases xI a.aa b.aa with e|e
  ·rw[Int.max_eq_right e];exact .inr k.hi
  ·rw[Int.max_eq_left e];exact .inl h.hi
 ·show min a.af b.af<=x/\x<=max a.aa b.aa/\bZ (bZ a.ai b.ai) (a.af-b.af)∣x-min a.af b.af
  have h0:=Int.min_le_left a.af b.af
  have h1:=Int.min_le_right a.af b.af
  have h2:=Int.le_max_left a.aa b.aa
  have h3:=Int.le_max_right a.aa b.aa
  have both:bZ (bZ a.ai b.ai) (a.af-b.af)∣x-a.af/\bZ (bZ a.ai b.ai) (a.af-b.af)∣x-b.af:=by
   rcases hx with hx|hx
   ·have e:=zS g1 (h.all x hx).2.2
    refine⟨e,?_⟩
    have:=yO e g3
    rwa [show x-a.af+(a.af-b.af)=x-b.af by omega]at this
   ·have e:=zS g2 (k.all x hx).2.2
    refine⟨?_,e⟩
    have:=ym e g3
    rwa [show x-b.af-(a.af-b.af)=x-a.af by omega]at this
  refine⟨?_,?_,?_⟩
  ·rcases hx with hx|hx
   ·have:=(h.all x hx).1;omega
   ·have:=(k.all x hx).1;omega
  ·rcases hx with hx|hx
   ·have:=(h.all x hx).2.1;omega
   ·have:=(k.all x hx).2.1;omega
  ·rcases xI a.af b.af with e|e
   ·rw[wu e];exact both.1
   ·rw[xJ e];exact both.2
 ·show d∣bZ (bZ a.ai b.ai) (a.af-b.af)
  have hd:∀x,P x\/Q x->d∣x-min a.af b.af:=hd
  have d1:=hd _ (.inl h.lo)
  have d2:=hd _ (.inr k.lo)
  refine jh (jh (h.best d fun x hx=> ?_) (k.best d fun x hx=> ?_)) ?_
  ·have:=ym (hd x (.inl hx)) d1
   rwa [show x-min a.af b.af-(a.af-min a.af b.af)=x-a.af by omega]at this
  ·have:=ym (hd x (.inr hx)) d2
   rwa [show x-min a.af b.af-(b.af-min a.af b.af)=x-b.af by omega]at this
  ·have:=ym d1 d2
   rwa [show a.af-min a.af b.af-(b.af-min a.af b.af)=a.af-b.af by omega]at this
def cE{a b:aI}(h:NN a)(k:NN b):cn a b=jn a b:=by
 unfold cn
 rw[bF h.ne,bF k.ne]
def gV{b:aI}:cn cy b=b:=by unfold cn;rw[bw rfl]
def q9{a:aI}:cn a cy=a:=by
 unfold cn
 by_cases h:a=cy
 ·rw[bw h,h]
 ·rw[bF h,bw rfl]
def jo{a b:aI}(h:NN a)(k:NN b):NN (jn a b):=(h.dA.join k.dA).valid fun x hx=>by
 have:=h.lo;have:=h.hi;have:=k.lo;have:=k.hi
 rcases hx with ⟨h1,h2,_⟩|⟨h1,h2,_⟩<;>omega
def dU{a b:aI}(h:NV a)(k:NV b):NV (cn a b):=by
 rcases h with rfl|h
 ·rw[gV];exact k
 ·rcases k with rfl|k
  ·rw[q9];exact .inr h
  ·rw[cE h k];exact .inr (jo h k)
def R3{a:aI}(h:NN a):jn a a=a:=
 ((h.dA.join h.dA).congr (fun x=>⟨fun k=>k.elim id id, .inl⟩)).uniq h.dA
def GU(a:aI):(bif wP (a.af=a.af)then bif wP (a.aa=a.aa)then bif wP (a.ai=a.ai)then wO else wN else wN else wN)=wO:=by
 rw[bP rfl,bP rfl,bP rfl];rfl
def F9{a b:aI}(h:a≠b):(bif wP (a.af=b.af)then bif wP (a.aa=b.aa)then bif wP (a.ai=b.ai)then wO else wN else wN else wN)=wN:=by
 by_cases h1:a.af=b.af
 ·by_cases h2:a.aa=b.aa
  ·by_cases h3:a.ai=b.ai
   ·exact cQ (Ct h1 h2 h3) h
   ·rw[bP h1,bP h2,bO h3];rfl
  ·rw[bP h1,bO h2];rfl
 ·rw[bO h1];rfl
def iT:fm cy=wO:=GU cy
def eF{a:aI}(h:a≠cy):fm a=wN:=F9 (b:=cy) h
def n9:lz cy=wO:=rfl
def iB{a:aI}(h:NN a):lz a=wN:=bO (by have:=h.le;omega)
def jR(x:Int):jL x=wP (-1099511627776<=x/\x<=1099511627776):=by
 unfold jL
 by_cases h: -1099511627776<=x
 ·by_cases k:x<=1099511627776
  ·rw[bP h,bP k,bP ⟨h,k⟩];rfl
  ·rw[bP h,bO k,bO (show ¬(-1099511627776<=x/\x<=1099511627776)from fun e=>k e.2)];rfl
 ·rw[bO h,bO (show ¬(-1099511627776<=x/\x<=1099511627776)from fun e=>h e.1)];rfl
def vg(x:Int):oR x=wP (-1099511627776<=x/\x<=1099511627776):=jR x
def Vd(a:aI):Bool:=open Classical in wP (NV a)
def SF{a:aI}:Vd a=wO↔NV a:=by unfold Vd;exact @decide_eq_true_iff _ (Classical.propDecidable _)
def dX{a:aI}(h:NV a):Vd a=wO:=SF.mpr h
def uW{a:aI}(h:¬NV a):Vd a=wN:=by
 cases e:Vd a with
 |false=>rfl
 |true=>exact cQ (SF.mp e) h
def QK{a:aI}(h0:a≠cy):(match bif bif jL a.af then wN else wO then V wO else bif bif jL a.aa then wN else wO then V wO else V (wP (a.aa<a.af))with|O=>O|V r1=>bif r1 then V wN else bif wP (a.af=a.aa)then V (wP (a.ai=0))else match bif wP (1<=a.ai)then if¬a.ai=(0:Int)then V (wP ((i64.wrap (a.aa-a.af)).tmod a.ai=0))else O else V wN with|O=>O|V r2=>V r2)=V (Vd a):=by
 rw[jR,jR]
 by_cases h1: -1099511627776<=a.af/\a.af<=1099511627776
 ·by_cases h2: -1099511627776<=a.aa/\a.aa<=1099511627776
  ·by_cases h3:a.aa<a.af
   ·rw[bP h1,bP h2,bP h3,uW (fun k=>by rcases k with k|k;exact h0 k;have:=k.le;omega)];rfl
   ·rw[bP h1,bP h2,bO h3]
    simp only[bE,bA]
    by_cases h4:a.af=a.aa
    ·rw[bP h4,bE]
     congr 1
     by_cases h5:a.ai=0
     ·rw[bP h5,dX (.inr ⟨h1.1,h2.2,by omega, .inl ⟨h4,h5⟩⟩)]
     ·rw[bO h5,uW (fun k=>by rcases k with k|k;exact h0 k;rcases k.st with k|k<;>omega)]
    ·rw[bO h4,bA]
     by_cases h5:1<=a.ai
     ·rw[bP h5,bE,gC,aF,kC]
      simp only
      congr 1
      by_cases h6:(a.aa-a.af)%a.ai=0
      ·rw[bP h6,dX (.inr ⟨h1.1,h2.2,by omega, .inr ⟨by omega,h5,h6⟩⟩)]
      ·rw[bO h6,uW (fun k=>by rcases k with k|k;exact h0 k;rcases k.st with k|k;omega;exact h6 k.2.2)]
     ·rw[bO h5,bA]
      simp only
      rw[uW (fun k=>by rcases k with k|k;exact h0 k;rcases k.st with k|k<;>omega)]
  ·rw[bP h1,bO h2,uW (fun k=>by rcases k with k|k;exact h0 k;have:=k.lo;have:=k.hi;have:=k.le;omega)];rfl
 ·rw[bO h1,uW (fun k=>by rcases k with k|k;exact h0 k;have:=k.lo;have:=k.hi;have:=k.le;omega)];rfl
def eR(a:aI):tV a=V (Vd a):=by
 unfold tV
 by_cases h0:a=cy
 ·subst h0;rw[iT,bE,dX (.inl rfl)]
 ·rw[eF h0,bA];exact QK h0
def gp(a:aI):Vp a=V (Vd a):=by
 unfold Vp
 by_cases h0:a=cy
 ·subst h0;rw[show sI=cy from rfl,GU,bE,dX (.inl rfl)]
 ·rw[show sI=cy from rfl,F9 h0,bA,<-QK h0,show oR=jL from rfl,jR,jR]
  by_cases h1: -1099511627776<=a.af/\a.af<=1099511627776
  ·by_cases h2: -1099511627776<=a.aa/\a.aa<=1099511627776
   ·rw[bP h1,bP h2]
    simp only[bE,bA]
    by_cases h3:a.aa<a.af
    ·rw[bO (show ¬a.af=a.aa by omega),bP h3,bO (show ¬a.af<a.aa by omega)];rfl
    ·rw[bO h3,bA]
     by_cases h4:a.af=a.aa
     ·rw[bP h4];rfl
     ·rw[bO h4,bA,bA,bP (show a.af<a.aa by omega),bE]<;>rfl
   ·rw[bP h1,bO h2];rfl
  ·rw[bO h1];rfl
def cV(a:aI):Int:=open Classical in if a=cy then 0 else if a.ai=0 then 1 else(a.aa-a.af)/a.ai+1
def wsz{a:aI}(h:NN a)(h0:a.ai≠0):i64.wrap (i64.wrap ((i64.wrap (a.aa-a.af)).tdiv a.ai)+1)=(a.aa-a.af)/a.ai+1:=by
 have:=h.lo;have:=h.hi;have:=h.le;have:=h.s0
 have q0:0<=(a.aa-a.af)/a.ai:=zQ (by omega) (by omega)
 have q1:(a.aa-a.af)/a.ai<=a.aa-a.af:=ye _ (by omega)
 rw[aF (n:=a.aa-a.af),j6,aF (n:=(a.aa-a.af)/a.ai),aF]
def kR{a:aI}(h:NV a):Bv a=V (cV a):=by
 unfold Bv cV
 rcases h with rfl|h
 ·rw[iT,bw rfl];rfl
 ·rw[eF h.ne,bF h.ne,bA]
  by_cases h0:a.ai=0
  ·rw[bP h0,bw h0];rfl
  ·rw[bO h0,bF h0,bA,bw h0,wsz h h0]
def gi{a:aI}(h:NV a):pJ a=V (cV a):=by
 unfold pJ cV
 rw[gp,dX h]
 simp only[bE,bA]
 rcases h with rfl|h
 ·rw[n9,bw rfl];rfl
 ·rw[iB h,bF h.ne,bA]
  by_cases h0:a.ai=0
  ·rw[bP h0,bw h0];rfl
  ·rw[bO h0,bF h0,bA,bw h0,wsz h h0]
def aaU{a:aI}(h:¬NV a):pJ a=V 0:=by
 unfold pJ
 rw[gp,uW h];rfl
def aoz{a:aI}(h:NV a):HJ a=V (cV a):=by
 unfold HJ
 rw[eR,dX h]
 simp only[bE,bA]
 rw[kR h]
def afy{a:aI}(h:¬NV a):HJ a=V 0:=by
 unfold HJ
 rw[eR,uW h];rfl
def cG(a:aI)(x:Int):Bool:=open Classical in wP (bz a x)
def lX{a:aI}{x:Int}:cG a x=wO↔bz a x:=by unfold cG;exact @decide_eq_true_iff _ (Classical.propDecidable _)
def jq{a:aI}{x:Int}(h:¬bz a x):cG a x=wN:=by
 cases e:cG a x with
 |false=>rfl
 |true=>exact cQ (lX.mp e) h
def fQ{a:aI}{x:Int}(h:bz a x):cG a x=wO:=lX.mpr h
def uV{x:Int}:¬bz cy x:=fun h=>by
 obtain⟨h1,h2,_⟩:=h
 have h1:(1:Int)<=x:=h1
 have h2:x<=0:=h2
 omega
def KM{a:aI}(h:NN a)(x:Int)(h1:a.af<=x)(h2:x<=a.aa):(match bif wP (a.ai=0)then V wO else if¬a.ai=(0:Int)then V (wP ((i64.wrap (x-a.af)).tmod a.ai=0))else O with|O=>O|V r2=>V r2)=V (cG a x):=by
 have:=h.lo;have:=h.hi
 by_cases h0:a.ai=0
 ·rw[bP h0,bE,fQ ⟨h1,h2,by rcases h.st with k|k;(rw[h0];exact⟨0,by omega⟩);omega⟩]
 ·rw[bO h0,bA,bw h0,aF,kC]
  simp only
  congr 1
  by_cases k:(x-a.af)%a.ai=0
  ·rw[bP k,fQ ⟨h1,h2,wq k⟩]
  ·rw[bO k,jq (fun e=>k (Int.emod_eq_zero_of_dvd e.2.2))]
def Ir{a:aI}(h:NV a)(x:Int):UL a x=V (cG a x):=by
 unfold UL
 rcases h with rfl|h
 ·rw[iT,jq uV];rfl
 ·rw[eF h.ne,bA]
  by_cases h1:x<a.af
  ·rw[bP h1,jq (fun k=>by have:=k.1;omega)];rfl
  ·by_cases h2:a.aa<x
   ·rw[bO h1,bP h2,jq (fun k=>by have:=k.2.1;omega)];rfl
   ·rw[bO h1,bO h2]
    simp only[bA]
    exact KM h x (by omega) (by omega)
def qI{a:aI}(h:NV a)(x:Int):m32 a x=V (cG a x):=by
 unfold m32
 rw[gp,dX h]
 simp only[bE,bA]
 rcases h with rfl|h
 ·by_cases h1:x<1
  ·rw[show cy.af=1 from rfl,bP h1,jq uV];rfl
  ·rw[show cy.af=1 from rfl,show cy.aa=0 from rfl,bO h1,bP (show 0<x by omega),jq uV];rfl
 ·by_cases h1:x<a.af
  ·rw[bP h1,jq (fun k=>by have:=k.1;omega)];rfl
  ·by_cases h2:a.aa<x
   ·rw[bO h1,bP h2,jq (fun k=>by have:=k.2.1;omega)];rfl
   ·rw[bO h1,bO h2]
    simp only[bA]
    exact KM h x (by omega) (by omega)
def tU{a:aI}(h:NV a)(x:Int):UO a x=V (cG a x):=by
 unfold UO
 rw[eR,dX h]
 simp only[bE]
 rw[Ir h]
def fL(lo hi st:Int):aI:=if hi<lo then cy else if st=0 then dL lo else if lo=lo+(hi-lo)/st*st then dL lo else aI.mk lo (lo+(hi-lo)/st*st) st
def air{lo hi st:Int}(h1: -2305843009213693952<=lo)(h2:hi<=2305843009213693952)(h3:lo<=hi)(h4:1<=st):i64.wrap (lo+i64.wrap (i64.wrap ((i64.wrap (hi-lo)).tdiv st)*st))=lo+(hi-lo)/st*st:=by
 have q0:0<=(hi-lo)/st:=zQ (by omega) (by omega)
 have q1:(hi-lo)/st<=hi-lo:=ye _ (by omega)
 have q2:(hi-lo)/st*st<=hi-lo:=yV _ (by omega)
 have q3:0<=(hi-lo)/st*st:=zq q0 (by omega)
 rw[aF (n:=hi-lo),j6,aF (n:=(hi-lo)/st),aF (n:=(hi-lo)/st*st),aF]
def nU{lo hi st:Int}(h1: -2305843009213693952<=lo)(h2:hi<=2305843009213693952)(h4:0<=st):nC lo hi st=V (fL lo hi st):=by
 unfold nC fL
 by_cases c1:hi<lo
 ·rw[bP c1,bw c1];rfl
 ·rw[bO c1,bF c1,bA]
  by_cases c2:st=0
  ·rw[bP c2,bw c2];rfl
  ·rw[bO c2,bF c2,bA,bw c2,air h1 h2 (by omega) (by omega)]
   by_cases c3:lo=lo+(hi-lo)/st*st
   ·rw[bP c3,bw c3];rfl
   ·rw[bO c3,bF c3];rfl
def iM{lo hi st:Int}(h1: -1099511627776<=lo/\lo<=1099511627776)(h2: -1099511627776<=hi/\hi<=1099511627776)(h4:1<=st):iQ lo hi st=V (fL lo hi st,0):=by
 unfold iQ fL
 rw[vg,vg,bP h1,bP h2,bO (show ¬st<1 by omega)]
 simp only[bE,bA]
 by_cases c1:hi<lo
 ·rw[bP c1,bw c1];rfl
 ·rw[bO c1,bF c1,bA,bF (show ¬st=0 by omega),gC,air (by omega) (by omega) (by omega) h4]
  by_cases c3:lo=lo+(hi-lo)/st*st
  ·rw[<-c3,bP rfl,bw rfl];rfl
  ·rw[bO c3,bF c3];rfl
def Mf{lo hi st:Int}(h1:lo<=hi)(h2:0<=st)(h3:st∣hi-lo)(h4:lo=hi->st=0):fL lo hi st=aI.mk lo hi st:=by
 unfold fL
 rw[jC]
 by_cases c:st=0
 ·rw[bw c]
  subst c
  have:=xH.mp h3
  unfold dL
  rw[show hi=lo by omega]
 ·rw[bF c,x9 h3,show lo+(hi-lo)=hi by omega,bF (fun e=>c (h4 e))]
def ji{lo hi st:Int}(h1: -1099511627776<=lo)(h2:hi<=1099511627776)(h3:lo<=hi)(h4:0<=st):NN (fL lo hi st):=by
 unfold fL
 rw[jC]
 by_cases c:st=0
 ·rw[bw c];exact NN.one h1 (by omega)
 ·rw[bF c]
  have q0:0<=(hi-lo)/st:=zQ (by omega) (by omega)
  have q2:(hi-lo)/st*st<=hi-lo:=yV _ (by omega)
  have q3:0<=(hi-lo)/st*st:=zq q0 (by omega)
  by_cases c3:lo=lo+(hi-lo)/st*st
  ·rw[bw c3];exact NN.one h1 (by omega)
  ·rw[bF c3]
   refine⟨h1,by show lo+(hi-lo)/st*st<=_;omega,by show lo<=lo+(hi-lo)/st*st;omega, .inr ⟨by show lo<lo+(hi-lo)/st*st;omega,by show 1<=st;omega,?_⟩⟩
   show (lo+(hi-lo)/st*st-lo)%st=0
   rw[show lo+(hi-lo)/st*st-lo=(hi-lo)/st*st by omega]
   exact Int.mul_emod_left _ _
def j0{lo hi st x:Int}(h3:lo<=hi)(h4:1<=st):bz (fL lo hi st) x↔lo<=x/\x<=hi/\st∣x-lo:=by
 unfold fL
 rw[jC,jC]
 have q2:(hi-lo)/st*st<=hi-lo:=yV _ (by omega)
 have q4:=wH (hi-lo) (show 0<st by omega)
 rw[zI,zR]at q4
 by_cases c3:lo=lo+(hi-lo)/st*st
 ·rw[bw c3]
  constructor
  ·rintro⟨k1,k2,_⟩
   have k1:lo<=x:=k1
   have k2:x<=lo:=k2
   exact⟨k1,by omega,⟨0,by omega⟩⟩
  ·rintro⟨k1,k2,k3⟩
   have:x-lo<st:=by omega
   have e:x-lo=0:=Decidable.byContradiction fun h=>cQ (Int.le_of_dvd (by omega) k3) (by omega)
   exact⟨k1,by show x<=lo;omega,by show 0∣x-lo;rw[e];exact⟨0,rfl⟩⟩
 ·rw[bF c3]
  constructor
  ·rintro⟨k1,k2,k3⟩
   have k2:x<=lo+(hi-lo)/st*st:=k2
   exact⟨k1,by omega,k3⟩
  ·rintro⟨k1,k2,k3⟩
   refine⟨k1,?_,k3⟩
   show x<=lo+(hi-lo)/st*st
   obtain⟨q,hq⟩:=k3
   rw[zA]at hq
   have:q<(hi-lo)/st+1:=wo (a:=st) (by rw[zI,zR];omega) (by omega)
   have:q*st<=(hi-lo)/st*st:=zG (by omega) (by omega)
   omega
def Mz(g x v:Int)(hx: -1099511627776<=x/\x<=1099511627776)(hv: -1099511627776<=v/\v<=1099511627776):(0:Int)<=jz x v/\bZ g (jz x v)=bZ g (x-v):=by
 unfold jz
 by_cases c:x<v
 ·rw[bP c,bE,aF]
  exact⟨by omega,by rw[<-gcd_neg,show-(v-x)=x-v by omega]⟩
 ·rw[bO c,bA,aF]
  exact⟨by omega,rfl⟩
def cS.snoc{P:Int->Prop}{c:aI}{v:Int}(h:cS P c)(hv:P v)(x:Int):cS (fun y=>P y\/y=x) (aI.mk (min c.af x) (max c.aa x) (bZ c.ai (x-v))):=by
 have e:bZ (bZ c.ai 0) (c.af-x)=bZ c.ai (x-v):=by
  have d:=(h.all v hv).2.2
  refine Int.dvd_antisymm (ld _ _) (ld _ _) (jh (zS (jY _ _) (jY _ _)) ?_) (jh (jh (jY _ _) (yU _)) ?_)
  ·have k1:bZ (bZ c.ai 0) (c.af-x)∣c.af-x:=qB _ _
   have k2:bZ (bZ c.ai 0) (c.af-x)∣v-c.af:=zS (zS (jY _ _) (jY _ _)) d
   have:=Int.dvd_neg.mpr (yO k1 k2)
   rwa [show-(c.af-x+(v-c.af))=x-v by omega]at this
  ·have k1:bZ c.ai (x-v)∣x-v:=qB _ _
   have k2:bZ c.ai (x-v)∣v-c.af:=zS (jY _ _) d
   have:=Int.dvd_neg.mpr (yO k1 k2)
   rwa [show-(x-v+(v-c.af))=c.af-x by omega]at this
 have:=h.join (jt x)
 unfold jn dL at this
 rw[e]at this
 exact this
def bY(x:Int):Prop:= -1099511627776<=x/\x<=1099511627776
instance (x:Int):Decidable (bY x):=inferInstanceAs (Decidable (_/\_))
def Dv(x:Int):oR x=wP (bY x):=vg x
def anU{l:List Int}{b0 c:aI}(i:Nat)(hi:i+1<l.length)(hl:l.length<=1000000)(hr:∀x∈l,bY x)(hc:cS (· ∈l.take (i+1)) c):
  ∃c',tS (iV.mk l (i+1:Nat) b0 c)=V (V (iV.mk l (i+1+1:Nat) b0 c'))/\cS (· ∈l.take (i+1+1)) c':=by
 have hx:bY l[i+1]! :=hr _ (aX hi)
 have h0:bY l[0]! :=hr _ (aX (by omega))
 have hm:l[0]!∈l.take (i+1):=by
  have:(l.take (i+1))[0]! =l[0]! :=by
   rw[getElem!_pos _ 0 (by rw[zZ];omega),getElem!_pos l 0 (by omega),List.getElem_take]
  rw[<-this]
  exact aX (by rw[zZ];omega)
 have hs:=hc.snoc hm l[i+1]!
 obtain⟨g0,g1⟩:=Mz c.ai l[i+1]! l[0]! hx h0
 refine⟨_,?_,hs.congr fun y=> ?_⟩
 ·unfold tS
  simp only
  rw[sw,bE,gC,gC,za,Ci hc.nn g0,g1]
  simp only
  rw[aF,show ((i+1:Nat):Int)+1=((i+1+1:Nat):Int)by omega]
  have hci:(0:Int)<=((i+1:Nat):Int)/\((i+1:Nat):Int)<(l.length:Int):=by omega
  by_cases c1:l[i+1]! <c.af
  ·rw[xJ (by omega)]
   by_cases c2:c.aa<l[i+1]!
   ·have:=(hc.all _ hc.lo).2.1
    omega
   ·rw[Int.max_eq_left (by omega)]
    simp only[bP c1,bO c2,bw hci,bE,bA]
  ·rw[wu (by omega)]
   by_cases c2:c.aa<l[i+1]!
   ·rw[Int.max_eq_right (by omega)]
    simp only[bO c1,bP c2,bw hci,bE,bA]
   ·rw[Int.max_eq_left (by omega)]
    simp only[bO c1,bO c2,bw hci,bA]
 ·rw[bS (i:=i+1) hi,zU,zC]
def G5{l:List Int}(hn:l≠[])(hl:l.length<=1000000)(hr:∀x∈l,bY x):∃c,U5 l=V (c,0)/\cS (· ∈l) c:=by
 have hp:0<l.length:=List.length_pos_iff.mpr hn
 obtain⟨c,e1,hc⟩:=dH (cO:=tS) (l.length-1) (fun i (c:aI)=>iV.mk l (i+1:Nat) (aI.mk 0 0 0) c) (fun i c=>cS (· ∈l.take (i+1)) c)
  (fun i c hi hI=>anU i (by omega) hl hr hI)
  (fun c hI=>by
   unfold tS
   simp only
   rw[fy]
   rfl) (b:=dL l[0]!) ((jt l[0]!).congr fun x=>by
   rw[bS hp]
   simp)
 have e0:bI BE (mS.mk l 0 (aI.mk 0 0 0))=V (mS.mk l (l.length:Nat) (aI.mk 0 0 0)):=KG (cO:=BE) (fun i=>mS.mk l (i:Nat) (aI.mk 0 0 0)) l.length (fun i hi=>by
  unfold BE
  simp only
  rw[sw,bE,gC,za,Dv,bP (hr _ (aX hi)),gF hi hl]
  rfl) (fun r=>by
  unfold BE
  simp only
  rw[fy]
  intro h
  cases h)
 refine⟨c,?_,hc.congr fun x=>by rw[show l.length-1+1=l.length by omega,zM]⟩
 unfold U5
 rw[show J6=bI BE from rfl,e0]
 simp only
 rw[fy,bA,fy,bA,gC,gC]
 have e1:bI tS (iV.mk l 1 (aI.mk 0 0 0) (aI.mk l[0]! l[0]! 0))=V (iV.mk l ((l.length-1+1:Nat):Int) (aI.mk 0 0 0) c):=e1
 rw[show IQ=bI tS from rfl,e1]
 simp only
 rw[fy]
 rfl
def NN.qO{a:aI}(h:NN a):bY a.af:=⟨h.lo,by have:=h.le;have:=h.hi;omega⟩
def NN.A5{a:aI}(h:NN a):bY a.aa:=⟨by have:=h.le;have:=h.lo;omega,h.hi⟩
def Is{x:Int}(h1: -2199023255552<=x)(h2:x<=2199023255552):(0:Int)<=jD x/\((jD x:Int)=x\/(jD x:Int)= -x):=by
 unfold jD
 rw[aF (n:=0-x)]
 by_cases c:x<0-x
 ·rw[bw c];exact⟨by omega, .inr (show (0:Int)-x= -x by omega)⟩
 ·rw[bF c];exact⟨by omega, .inl rfl⟩
def Yh(g:Int){x:Int}(h1: -2199023255552<=x)(h2:x<=2199023255552):bZ g (jD x)=bZ g x:=by
 rcases (Is h1 h2).2 with e|e
 ·rw[e]
 ·rw[e,gcd_neg]
def iP{a b:aI}(ha:NV a)(hb:NV b):lZ a b=V (cn a b):=by
 unfold lZ
 rcases ha with rfl|ha
 ·rw[iT,gV];rfl
 rw[eF ha.ne,bA]
 rcases hb with rfl|hb
 ·rw[iT,q9];rfl
 rw[eF hb.ne,bA]
 by_cases e:a=b
 ·subst e
  rw[GU,cE ha ha,R3 ha];rfl
 ·rw[F9 e]
  simp only[bA]
  have:=ha.lo;have:=ha.hi;have:=ha.le;have:=hb.lo;have:=hb.hi;have:=hb.le
  rw[aF (n:=a.af-b.af),D5 ha.s0 hb.s0 (Is (by omega) (by omega)).1,Yh _ (by omega) (by omega)]
  simp only
  rw[show (if b.af<a.af then b.af else a.af)=min a.af b.af by split<;>omega,show (if a.aa<b.aa then b.aa else a.aa)=max a.aa b.aa by split<;>omega,nU (by omega) (by omega) (ld _ _)]
  simp only
  have hj:=jo ha hb
  rw[cE ha hb]
  exact congrArg some (Mf hj.le hj.s0 hj.dvd (fun k=>by rcases hj.st with h|h;exact h.2;exact cQ k (Int.ne_of_lt h.1)))
def l9{a b:aI}(ha:NV a)(hb:NV b):kH a b=V (cn a b):=by
 unfold kH
 rcases ha with rfl|ha
 ·rw[n9,gV];rfl
 rw[iB ha,bA]
 rcases hb with rfl|hb
 ·rw[n9,q9];rfl
 rw[iB hb,bA]
 obtain⟨c,e,hc⟩:=G5 (l:=[a.af,a.aa,b.af,b.aa]) (by simp) (by simp) (fun x hx=>by
  simp only[zy,List.not_mem_nil,or_false]at hx
  rcases hx with rfl|rfl|rfl|rfl
  ·exact ha.qO
  ·exact ha.A5
  ·exact hb.qO
  ·exact hb.A5)
 rw[e]
 simp only
 have m:∀x,(x=a.af\/x=a.aa\/x=b.af\/x=b.aa)->x∈[a.af,a.aa,b.af,b.aa]:=fun x hx=>by simpa using hx
 have h1:=hc.lo
 have h2:=hc.hi
 simp only[zy,List.not_mem_nil,or_false]at h1 h2
 have p1:=hc.all _ (m a.af (by simp))
 have p2:=hc.all _ (m a.aa (by simp))
 have p3:=hc.all _ (m b.af (by simp))
 have p4:=hc.all _ (m b.aa (by simp))
 have:=ha.le
 have:=hb.le
 have e1:c.af=min a.af b.af:=by omega
 have e2:c.aa=max a.aa b.aa:=by omega
 have hj:=jo ha hb
 rw[cE ha hb]
 by_cases k:c.af<c.aa
 ·rw[bP k,bE,Ci ha.s0 hb.s0]
  simp only
  obtain⟨g0,g1⟩:=Mz (bZ a.ai b.ai) a.af b.af ha.qO hb.qO
  rw[Ci (ld _ _) g0,g1,e1,e2]
  rfl
 ·rw[bO k,bA]
  congr 1
  refine Ct e1 e2 ?_
  have hcv:NN c:=hc.valid (fun x hx=>by
   simp only[zy,List.not_mem_nil,or_false]at hx
   rcases hx with rfl|rfl|rfl|rfl
   ·exact ha.qO
   ·exact ha.A5
   ·exact hb.qO
   ·exact hb.A5)
  have s1:c.ai=0:=by rcases hcv.st with h|h;exact h.2;omega
  have s2:(jn a b).ai=0:=by
   rcases hj.st with h|h
   ·exact h.2
   ·have:min a.af b.af<max a.aa b.aa:=h.1
    omega
  rw[s1,s2]
def abM{a b:aI}(ha:NV a)(hb:NV b):adj a b=V (cn a b,0):=by
 unfold adj
 rw[eR,eR,dX ha,dX hb]
 simp only[bE,bA]
 rw[iP ha hb]
def PD{a:aI}(h:NV a):cn a a=a:=by
 rcases h with rfl|h
 ·exact gV
 ·rw[cE h h,R3 h]
def n7{a b:aI}(ha:NV a)(hb:NV b):vR a b=V (cn a b):=by
 unfold vR
 by_cases e:a=b
 ·subst e
  rw[GU,PD ha];rfl
 ·rw[F9 e,bA,abM ha hb]
def cq(a:aI):Bool:=if 1<cV a then wO else if cV a=1 then !cG a 0 else wN
def CE{a:aI}(h:NN a):cV a=if a.ai=0 then 1 else(a.aa-a.af)/a.ai+1:=by
 unfold cV
 rw[bF h.ne]
def size_pos{a:aI}(h:NN a):1<=cV a:=by
 rw[CE h]
 split
 ·omega
 ·have:0<=(a.aa-a.af)/a.ai:=zQ (by have:=h.le;omega) h.s0
  omega
def j5{a:aI}(h:NN a):cV a=1↔a.af=a.aa:=by
 rw[CE h]
 have hl:=h.le
 rcases h.st with ⟨h1,h2⟩|⟨h1,h2,h3⟩
 ·rw[bw h2];exact⟨fun _=>h1,fun _=>rfl⟩
 ·rw[jC]
  constructor
  ·intro k
   have:=x9 (wq h3)
   rw[show (a.aa-a.af)/a.ai=0 by omega,xG]at this
   omega
  ·omega
def CT{a:aI}(h:NV a):O9 a=V (cG a 0,cq a):=by
 unfold O9 cq
 rw[Ir h,kR h]
 simp only
 by_cases c:1<cV a
 ·rw[bP c,bw c];rfl
 ·rw[bO c,bF c,bA]
  by_cases c1:cV a=1
  ·rw[bP c1,bw c1,bE]
   rcases h with rfl|h
   ·exfalso
    unfold cV at c1
    rw[bw rfl]at c1
    omega
   ·have e:=(j5 h).mp c1
    have s:a.ai=0:=by rcases h.st with k|k;exact k.2;omega
    by_cases c2:a.af=0
    ·rw[bP c2,fQ (show bz a 0 from⟨by omega,by omega,⟨0,by omega⟩⟩)];rfl
    ·rw[bO c2,jq (show ¬bz a 0 from fun k=>by have:=k.1;have:=k.2.1;omega)];rfl
  ·rw[bO c1,bF c1];rfl
def Se{a:aI}(h:NV a):EJ a=V (cG a 0,cq a):=by
 unfold EJ cq
 rw[qI h,gi h]
 simp only
 by_cases c:1<cV a
 ·rw[bP c,bw c];rfl
 ·rw[bO c,bF c,bA]
  by_cases c1:cV a=1
  ·rw[bP c1,bw c1,bE]
   cases cG a 0<;>rfl
  ·rw[bO c1,bF c1];rfl
def Cj{a:aI}(h:NV a):Pq a=V (cG a 0,cq a):=by
 unfold Pq
 rw[eR,dX h]
 simp only[bE,bA]
 rw[CT h]
def fS:Bool->Bool->aI
 |true,wO=>aI.mk 0 1 1
 |true,wN=>aI.mk 0 0 0
 |false,wO=>aI.mk 1 1 0
 |false,wN=>cy
def ahj{a b:Bool}(h:(a||b)=wO):jl a b=fS a b:=by
 cases a<;>cases b<;>first|rfl|cases h
def Qr(a b:Bool):oO a b=V (fS a b):=by
 have v0:NN (dL 0):=NN.one (by omega) (by omega)
 have v1:NN (dL 1):=NN.one (by omega) (by omega)
 have e:cn (dL 0) (dL 1)=aI.mk 0 1 1:=by rw[cE v0 v1];rfl
 unfold oO
 cases a<;>cases b
 ·rfl
 ·simp only[bA,bE]
  rw[show iR=cy from rfl,iP (.inl rfl) (.inr (show NN (gJ 1)from v1)),gV]
  rfl
 ·simp only[bA,bE]
  rw[show iR=cy from rfl,iP (.inl rfl) (.inr (show NN (gJ 0)from v0)),gV]
  rfl
 ·simp only[bE]
  rw[show iR=cy from rfl,iP (.inl rfl) (.inr (show NN (gJ 0)from v0)),gV]
  simp only
  rw[iP (.inr (show NN (gJ 0)from v0)) (.inr (show NN (gJ 1)from v1)),show cn (gJ 0) (gJ 1)=cn (dL 0) (dL 1)from rfl,e]
  rfl
def vU(a b:Bool):NV (fS a b):=by
 cases a<;>cases b
 ·exact .inl rfl
 ·exact .inr (NN.one (x:=1) (by omega) (by omega))
 ·exact .inr (NN.one (x:=0) (by omega) (by omega))
 ·exact .inr ⟨by decide,by decide,by decide, .inr ⟨by decide,by decide,by decide⟩⟩
def mF(P:Int->Prop)(c:aI):Prop:=(c=cy/\∀x,¬P x)\/(cS P c)
def mF.uniq{P:Int->Prop}{c d:aI}(h:mF P c)(k:mF P d):c=d:=by
 rcases h with ⟨h1,h2⟩|h<;>rcases k with ⟨k1,k2⟩|k
 ·rw[h1,k1]
 ·exact cQ k.lo (h2 _)
 ·exact cQ h.lo (k2 _)
 ·exact h.uniq k
def mF.congr{P Q:Int->Prop}{c:aI}(h:mF P c)(k:∀x,P x↔Q x):mF Q c:=by
 rcases h with ⟨h1,h2⟩|h
 ·exact .inl ⟨h1,fun x hx=>h2 x ((k x).mpr hx)⟩
 ·exact .inr (h.congr k)
def mF.valid{P:Int->Prop}{c:aI}(h:mF P c)(hP:∀x,P x->bY x):NV c:=by
 rcases h with ⟨h1,h2⟩|h
 ·exact .inl h1
 ·exact .inr (h.valid hP)
def mF.none{P:Int->Prop}(h:∀x,¬P x):mF P cy:= .inl ⟨rfl,h⟩
def mF.join{P Q:Int->Prop}{a b:aI}(h:mF P a)(k:mF Q b)(ha:NV a)(hb:NV b):mF (fun x=>P x\/Q x) (cn a b):=by
 rcases h with ⟨rfl,h2⟩|h
 ·rw[gV]
  exact k.congr fun x=>⟨.inr,fun e=>e.elim (fun e=>cQ e (h2 x)) id⟩
 ·rcases k with ⟨rfl,k2⟩|k
  ·rw[q9]
   exact .inr (h.congr fun x=>⟨.inl,fun e=>e.elim id (fun e=>cQ e (k2 x))⟩)
  ·have hn:∀{P:Int->Prop} {c:aI},cS P c->NV c->NN c:=fun{P c} e v=>by
    rcases v with rfl|v
    ·have:=(e.all _ e.lo).2.1
     exact cQ this (by decide)
    ·exact v
   rw[cE (hn h ha) (hn k hb)]
   exact .inr (h.join k)
def mF.mem{a:aI}(h:NV a):mF (bz a) a:=by
 rcases h with rfl|h
 ·exact .inl ⟨rfl,fun x=>uV⟩
 ·exact .inr h.dA
def T6{a:aI}(h:NV a){x:Int}(hx:bz a x):bY x:=by
 rcases h with rfl|h
 ·exact cQ hx uV
 ·have:=h.lo;have:=h.hi;have:=hx.1;have:=hx.2.1
  exact⟨by omega,by omega⟩
def CC{lo hi st:Int}(h1:lo<=hi)(h2:1<=st):(fL lo hi st).aa=lo+(hi-lo)/st*st:=by
 unfold fL
 rw[jC,jC]
 by_cases c3:lo=lo+(hi-lo)/st*st
 ·rw[bw c3];exact c3
 ·rw[bF c3]
def NN.st1{a:aI}(h:NN a)(k:a.af<a.aa):1<=a.ai:=by rcases h.st with h|h<;>omega
def Ex(P:Int->Prop)(c:aI):Prop:=NV c/\∀x,bz c x↔P x
def Ex.rep{P:Int->Prop}{c:aI}(h:Ex P c):mF P c:=(mF.mem h.1).congr h.2
def Ti{a:aI}(h:NN a){at_:Int}(h1:a.af<=at_)(h2:at_<a.aa):Ex (fun x=>bz a x/\x<=at_) (fL a.af at_ a.ai):=by
 have hs:=h.st1 (by omega)
 have hl:=h.lo;have hh:=h.hi
 refine⟨.inr (ji hl (by omega) h1 h.s0),fun x=> ?_⟩
 rw[j0 h1 hs]
 exact⟨fun⟨k1,k2,k3⟩=>⟨⟨k1,by omega,k3⟩,k2⟩,fun⟨⟨k1,_,k3⟩,k2⟩=>⟨k1,k2,k3⟩⟩
def MD{a:aI}(h:NN a){at_:Int}(h1:a.af<=at_)(h2:at_<a.aa):
  Ex (fun x=>bz a x/\at_<x) (fL (a.af+((at_-a.af)/a.ai+1)*a.ai) a.aa a.ai)/\a.af<a.af+((at_-a.af)/a.ai+1)*a.ai/\a.af+((at_-a.af)/a.ai+1)*a.ai<=a.aa:=by
 have hs:=h.st1 (by omega)
 have hl:=h.lo;have hh:=h.hi
 have q2:(at_-a.af)/a.ai*a.ai<=at_-a.af:=yV _ (by omega)
 have q4:=wH (at_-a.af) (show 0<a.ai by omega)
 have up:∀x,a.ai∣x-a.af->at_<x->a.af+((at_-a.af)/a.ai+1)*a.ai<=x:=fun x hd hx=>by
  obtain⟨q,hq⟩:=hd
  rw[zA]at hq
  have:(at_-a.af)/a.ai<q:=wo (a:=a.ai) (by omega) (by omega)
  have:((at_-a.af)/a.ai+1)*a.ai<=q*a.ai:=zG (by omega) (by omega)
  omega
 have hle:=up a.aa h.dvd h2
 have hd:a.ai∣((at_-a.af)/a.ai+1)*a.ai:=y7 ..
 refine⟨⟨.inr (ji (by omega) hh hle h.s0),fun x=> ?_⟩,by omega,hle⟩
 rw[j0 hle hs]
 constructor
 ·rintro⟨k1,k2,k3⟩
  have:=yO k3 hd
  rw[show x-(a.af+((at_-a.af)/a.ai+1)*a.ai)+((at_-a.af)/a.ai+1)*a.ai=x-a.af by omega]at this
  exact⟨⟨by omega,k2,this⟩,by omega⟩
 ·rintro⟨⟨k1,k2,k3⟩,k4⟩
  have:=ym k3 hd
  rw[show x-a.af-((at_-a.af)/a.ai+1)*a.ai=x-(a.af+((at_-a.af)/a.ai+1)*a.ai)by omega]at this
  exact⟨up x k3 k4,k2,this⟩
def CP{a:aI}(h:NV a){Q:Int->Prop}(k:∀x,bz a x->Q x):Ex (fun x=>bz a x/\Q x) a:=⟨h,fun x=>⟨fun e=>⟨e,k x e⟩,fun e=>e.1⟩⟩
def rA{a:aI}{Q:Int->Prop}(k:∀x,bz a x->¬Q x):Ex (fun x=>bz a x/\Q x) cy:=⟨.inl rfl,fun x=>⟨fun e=>cQ e uV,fun e=>cQ e.2 (k x e.1)⟩⟩
def vX{a:aI}(h:NV a)(at_:Int):∃l u,BZ a at_=V (l,u)/\Ex (fun x=>bz a x/\x<=at_) l/\Ex (fun x=>bz a x/\at_<x) u:=by
 unfold BZ
 rcases h with rfl|h
 ·refine⟨cy,cy,?_,rA fun x hx=>cQ hx uV,rA fun x hx=>cQ hx uV⟩
  rw[iT];rfl
 ·rw[eF h.ne,bA]
  have hle:=h.le;have hl:=h.lo;have hh:=h.hi
  by_cases c1:at_<a.af
  ·rw[bP c1]
   exact⟨cy,a,rfl,rA fun x hx k=>by have:=hx.1;omega,CP (.inr h) fun x hx=>by have:=hx.1;omega⟩
  ·rw[bO c1]
   simp only[bA]
   by_cases c2:a.aa<=at_
   ·rw[bP c2]
    exact⟨a,cy,rfl,CP (.inr h) fun x hx=>by have:=hx.2.1;omega,rA fun x hx k=>by have:=hx.2.1;omega⟩
   ·have hs:=h.st1 (by omega)
    obtain⟨r1,r2,r3⟩:=MD h (at_:=at_) (by omega) (by omega)
    have e:a.af+((at_-a.af)/a.ai+1)*a.ai=a.af+(at_-a.af)/a.ai*a.ai+a.ai:=by rw[zI,zR];omega
    rw[e]at r1 r2 r3
    rw[bO c2,bA,nU (by omega) (by omega) h.s0]
    simp only
    rw[CC (by omega) hs,aF,nU (by omega) (by omega) h.s0]
    exact⟨_,_,rfl,Ti h (by omega) (by omega),r1⟩
def AE{a:aI}(h:NV a)(at_:Int):∃l,m41 a at_=V l/\Ex (fun x=>bz a x/\x<=at_) l:=by
 unfold m41
 rcases h with rfl|h
 ·exact⟨cy,rfl,rA fun x hx=>cQ hx uV⟩
 ·rw[iB h,bA]
  have hle:=h.le;have hl:=h.lo;have hh:=h.hi
  by_cases c1:at_<a.af
  ·rw[bP c1]
   exact⟨cy,rfl,rA fun x hx k=>by have:=hx.1;omega⟩
  ·rw[bO c1]
   simp only[bA]
   by_cases c2:a.aa<=at_
   ·rw[bP c2]
    exact⟨a,rfl,CP (.inr h) fun x hx=>by have:=hx.2.1;omega⟩
   ·rw[bO c2,bA,iM h.qO ⟨by omega,by omega⟩ (h.st1 (by omega))]
    exact⟨_,rfl,Ti h (by omega) (by omega)⟩
def p8{a:aI}(h:NV a)(at_:Int):∃u,Rf a at_=V u/\Ex (fun x=>bz a x/\at_<x) u:=by
 unfold Rf
 rcases h with rfl|h
 ·refine⟨cy,?_,rA fun x hx=>cQ hx uV⟩
  rw[n9];rfl
 ·rw[iB h,bA]
  have hle:=h.le;have hl:=h.lo;have hh:=h.hi
  by_cases c1:a.aa<=at_
  ·rw[bP c1]
   exact⟨cy,rfl,rA fun x hx k=>by have:=hx.2.1;omega⟩
  ·rw[bO c1]
   simp only[bA]
   by_cases c2:at_<a.af
   ·rw[bP c2]
    exact⟨a,rfl,CP (.inr h) fun x hx=>by have:=hx.1;omega⟩
   ·have hs:=h.st1 (by omega)
    obtain⟨r1,r2,r3⟩:=MD h (at_:=at_) (by omega) (by omega)
    have q0:0<=(at_-a.af)/a.ai:=zQ (by omega) (by omega)
    have q1:(at_-a.af)/a.ai<=at_-a.af:=ye _ (by omega)
    rw[bO c2,bA,gC,aF (n:=at_-a.af),j6,aF (n:=(at_-a.af)/a.ai),aF (n:=(at_-a.af)/a.ai+1),
     aF (n:=((at_-a.af)/a.ai+1)*a.ai),aF,iM ⟨by omega,by omega⟩ h.A5 hs]
    exact⟨_,rfl,r1⟩
def mF.empty{P:Int->Prop}{c:aI}(h:mF P c)(hv:NV c):fm c=lz c/\((fm c=wO/\c=cy/\∀x,¬P x)\/(fm c=wN/\NN c/\cS P c)):=by
 rcases h with ⟨rfl,h⟩|h
 ·exact⟨by rw[iT];rfl, .inl ⟨iT,rfl,h⟩⟩
 ·rcases hv with rfl|hv
  ·exact cQ (h.all _ h.lo).2.1 (by decide)
  ·exact⟨by rw[eF hv.ne,iB hv], .inr ⟨eF hv.ne,hv,h⟩⟩
def tL(a:aI)(lo hi:Int)(y:Int):Prop:=∃x,bz a x/\y=max lo (min x hi)
def YC{a:aI}{lo hi y:Int}(h1:bY lo)(h2:bY hi)(h3:lo<=hi)(h:tL a lo hi y):bY y:=by
 obtain⟨x,_,rfl⟩:=h
 obtain⟨a1,a2⟩:=h1
 obtain⟨b1,b2⟩:=h2
 exact⟨by omega,by omega⟩
def Ip(x:Int):mF (· =x) (dL x):= .inr (jt x)
def pQ{x:Int}(h:bY x):NV (dL x):= .inr (NN.one h.1 h.2)
def nB{Q R:Int->Prop}{c d:aI}{b:Int}(hc:mF Q c)(vc:NV c)(hb:bY b)(hd:mF R d)(vd:NV d):
  (fm d=wO->mF (fun y=>Q y\/(y=b/\∃x,R x)) c)/\(fm d=wN->mF (fun y=>Q y\/(y=b/\∃x,R x)) (cn c (dL b))):=by
 rcases (hd.empty vd).2 with ⟨e1,rfl,e3⟩|⟨e1,e2,e3⟩
 ·refine⟨fun _=>hc.congr fun x=>⟨.inl,fun h=>h.elim id fun h=>cQ h.2.choose_spec (e3 _)⟩,fun h=> ?_⟩
  rw[e1]at h;cases h
 ·refine⟨fun h=> ?_,fun _=>((hc.join (Ip b) vc (pQ hb)).congr fun x=>⟨fun h=>h.elim .inl fun h=> .inr ⟨h,_,e3.lo⟩,fun h=>h.elim .inl fun h=> .inr h.1⟩)⟩
  rw[e1]at h;cases h
def No{a:aI}(h:NV a)(lo hi:Int):(∃c,m81 a lo hi=V (c,0)/\m86 a lo hi=V (c,0)/\mF (tL a lo hi) c/\NV c/\bY lo/\bY hi/\lo<=hi)\/
  (m81 a lo hi=V (aI.mk 0 0 0,3)/\m86 a lo hi=V (aI.mk 0 0 0,3)/\¬(bY lo/\bY hi/\lo<=hi)):=by
 unfold m81 m86
 rw[eR,gp,dX h,jR,jR,vg,vg]
 simp only[bE,bA]
 by_cases h1: -1099511627776<=lo/\lo<=1099511627776
 ·by_cases h2: -1099511627776<=hi/\hi<=1099511627776
  ·by_cases h3:hi<lo
   ·right
    rw[bP h1,bP h2,bP h3]
    exact⟨rfl,rfl,fun k=>by have:=k.2.2;omega⟩
   ·left
    rw[bP h1,bP h2,bO h3]
    simp only[bE,bA]
    rw[aF (n:=lo-1)]
    obtain⟨un,re,e1,r1,r2⟩:=vX h (lo-1)
    obtain⟨ins,ov,e2,r3,r4⟩:=vX r2.1 hi
    have mi:∀x,bz ins x↔bz a x/\lo<=x/\x<=hi:=fun x=>⟨fun k=>let ⟨k1,k2⟩:=(r3.2 x).mp k;let ⟨k3,k4⟩:=(r2.2 x).mp k1;⟨k3,by omega,k2⟩,fun⟨k1,k2,k3⟩=>(r3.2 x).mpr ⟨(r2.2 x).mpr ⟨k1,by omega⟩,k3⟩⟩
    have mo:∀x,bz ov x↔bz a x/\hi<x:=fun x=>⟨fun k=>let ⟨k1,k2⟩:=(r4.2 x).mp k;let ⟨k3,k4⟩:=(r2.2 x).mp k1;⟨k3,k2⟩,fun⟨k1,k2⟩=>(r4.2 x).mpr ⟨(r2.2 x).mpr ⟨k1,by omega⟩,k2⟩⟩
    obtain⟨x1,f1,s1⟩:=p8 h (lo-1)
    obtain⟨x2,f2,s2⟩:=AE s1.1 hi
    obtain⟨x3,f3,s3⟩:=AE h lo
    obtain⟨x4,f4,s4⟩:=p8 h hi
    have m2:∀x,bz x2 x↔bz a x/\lo<=x/\x<=hi:=fun x=>⟨fun k=>let ⟨k1,k2⟩:=(s2.2 x).mp k;let ⟨k3,k4⟩:=(s1.2 x).mp k1;⟨k3,by omega,k2⟩,fun⟨k1,k2,k3⟩=>(s2.2 x).mpr ⟨(s1.2 x).mpr ⟨k1,by omega⟩,k3⟩⟩
    have rlo:bY lo:=h1
    have rhi:bY hi:=h2
    have nb:∀b:Bool,(match b with|true=>true|false=>false)=b:=fun b=>by cases b<;>rfl
    obtain⟨t1,t2⟩:=nB (Ex.rep ⟨r3.1,mi⟩) r3.1 rlo r1.rep r1.1
    have P:∃c,(match BZ a (lo-1)with|O=>O|V r3=>match BZ r3.snd hi with|O=>O|V r4=>bif bif fm r3.fst then wN else wO then match lZ r4.fst (gJ lo)with|O=>O|V r5=>bif bif fm r4.snd then wN else wO then match lZ r5 (gJ hi)with|O=>O|V r6=>V (r6,(0:Int))else V (r5,0)else bif bif fm r4.snd then wN else wO then match lZ r4.fst (gJ hi)with|O=>O|V r7=>V (r7,0)else V (r4.fst,0))=V (c,0)/\mF (tL a lo hi) c:=by
     have fin:∀c,NV c->mF (fun y=>(bz a y/\lo<=y/\y<=hi)\/(y=lo/\∃x,bz a x/\x<=lo-1)) c->∃d,(bif bif fm ov then wN else wO then match lZ c (gJ hi)with|O=>O|V r6=>V (r6,(0:Int))else V (c,0))=V (d,0)/\mF (tL a lo hi) d:=fun c vc hc=>by
      obtain⟨u1,u2⟩:=nB hc vc rhi (Ex.rep ⟨r4.1,mo⟩) r4.1
      have eq:∀y,(((bz a y/\lo<=y/\y<=hi)\/(y=lo/\∃x,bz a x/\x<=lo-1))\/(y=hi/\∃x,bz a x/\hi<x))↔tL a lo hi y:=fun y=>by
       constructor
       ·rintro((⟨k1,k2,k3⟩|⟨rfl,x,k1,k2⟩)|⟨rfl,x,k1,k2⟩)
        ·exact⟨y,k1,by omega⟩
        ·exact⟨x,k1,by omega⟩
        ·exact⟨x,k1,by omega⟩
       ·rintro⟨x,k1,rfl⟩
        rcases (show x<lo\/hi<x\/(lo<=x/\x<=hi)by omega)with k|k|k
        ·exact .inl (.inr ⟨by omega,x,k1,by omega⟩)
        ·exact .inr ⟨by omega,x,k1,k⟩
        ·rw[show max lo (min x hi)=x by omega]
         exact .inl (.inl ⟨k1,k.1,k.2⟩)
      cases ho:fm ov with
      |true=>exact⟨c,rfl,(u1 ho).congr eq⟩
      |false=>
       simp only[bA,bE]
       rw[iP vc (.inr (show NN (gJ hi)from NN.one h2.1 h2.2))]
       exact⟨_,rfl,(u2 ho).congr eq⟩
     rw[e1]
     simp only
     rw[e2]
     simp only
     cases hu:fm un with
     |true=>
      simp only[bA,bE]
      exact fin ins r3.1 (t1 hu)
     |false=>
      simp only[bA,bE]
      rw[iP r3.1 (.inr (show NN (gJ lo)from NN.one h1.1 h1.2))]
      exact fin (cn ins (dL lo)) (dU r3.1 (pQ rlo)) (t2 hu)
    obtain⟨c,P1,P2⟩:=P
    have vc:NV c:=P2.valid fun x hx=>YC rlo rhi (by omega) hx
    refine⟨c,P1,?_,P2,vc,rlo,rhi,by omega⟩
    have fin:∀c',NV c'->mF (fun y=>(bz a y/\lo<=y/\y<=hi)\/(y=lo/\∃x,bz a x/\x<=lo)) c'->(match Rf a hi with|O=>O|V r7=>bif bif lz r7 then wN else wO then match kH c' (aI.mk hi hi 0)with|O=>O|V r8=>V (r8,(0:Int))else V (c',0))=V (c,0):=fun c' vc' hc'=>by
     obtain⟨u1,u2⟩:=nB hc' vc' rhi s4.rep s4.1
     have eq:∀y,(((bz a y/\lo<=y/\y<=hi)\/(y=lo/\∃x,bz a x/\x<=lo))\/(y=hi/\∃x,bz a x/\hi<x))↔tL a lo hi y:=fun y=>by
      constructor
      ·rintro((⟨k1,k2,k3⟩|⟨rfl,x,k1,k2⟩)|⟨rfl,x,k1,k2⟩)
       ·exact⟨y,k1,by omega⟩
       ·exact⟨x,k1,by omega⟩
       ·exact⟨x,k1,by omega⟩
      ·rintro⟨x,k1,rfl⟩
       rcases (show x<lo\/hi<x\/(lo<=x/\x<=hi)by omega)with k|k|k
       ·exact .inl (.inr ⟨by omega,x,k1,by omega⟩)
       ·exact .inr ⟨by omega,x,k1,k⟩
       ·rw[show max lo (min x hi)=x by omega]
        exact .inl (.inl ⟨k1,k.1,k.2⟩)
     rw[f4]
     simp only
     rw[<-(s4.rep.empty s4.1).1]
     cases ho:fm x4 with
     |true=>
      rw[((u1 ho).congr eq).uniq P2];rfl
     |false=>
      simp only[bA,bE]
      rw[l9 vc' (.inr (show NN (aI.mk hi hi 0)from NN.one h2.1 h2.2))]
      simp only
      rw[show cn c' (aI.mk hi hi 0)=c from((u2 ho).congr eq).uniq P2]
    obtain⟨t1,t2⟩:=nB (Ex.rep ⟨s2.1,m2⟩) s2.1 rlo s3.rep s3.1
    rw[f1]
    simp only
    rw[f2]
    simp only
    rw[f3]
    simp only
    rw[<-(s3.rep.empty s3.1).1]
    cases hu:fm x3 with
    |true=>
     simp only[bA,bE]
     exact fin x2 s2.1 (t1 hu)
    |false=>
     simp only[bA,bE]
     rw[l9 s2.1 (.inr (show NN (aI.mk lo lo 0)from NN.one h1.1 h1.2))]
     exact fin _ (dU s2.1 (pQ rlo)) (t2 hu)
  ·right
   rw[bP h1,bO h2]
   refine⟨?_,rfl,fun k=>h2 k.2.1⟩
   cases wP (hi<lo)<;>rfl
 ·right
  rw[bO h1]
  refine⟨?_,rfl,fun k=>h1 k.1⟩
  cases wP (hi<lo)<;>rfl
end Go.Proofs.YtnfljbehcffmcaaGreat
end
