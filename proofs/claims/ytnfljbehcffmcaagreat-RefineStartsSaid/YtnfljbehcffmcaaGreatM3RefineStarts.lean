/- Merged: Hn, Gd, Ho, Pl, Nd, Nd2, Nd3, Nd4, Nd5, Nd6, Nd7, Ne1, Pl2, Ne2, Ne3, Ne4, Ne5, Ne6, Ne7, Ne8. -/
import Derived.Test.YtnfljbehcffmcaaGreatM2RefineStarts
import Derived.KernelRfl
open Int renaming toNat_natCast → zf, le_refl → zw, mul_nonneg → zx, mul_comm → zC, mul_le_mul_of_nonneg_right → zM, mul_assoc → zN, ediv_nonneg → zP, add_mul → zQ, dvd_trans → zS, one_mul → zX, ediv_le_self → yc, sub_mul → ym, dvd_sub → yq, gcd → yy, toNat → yM, mul_ediv_add_emod → yR, emod_nonneg → yS, mul_le_mul → yT, dvd_add → yU, emod_lt_of_pos → yV, mul_add → yW, le_of_lt → yZ, ediv_mul_le → y5, dvd_zero → xg, dvd_mul_left → xh, natCast_mul → xq, zero_mul → xF, le_trans → xG, zero_dvd → xH, min_eq_right → xI, ediv_mul_cancel → xZ, lt_of_mul_lt_mul_right → wj, dvd_of_emod_eq_zero → wk, min_eq_left → wm, ediv_lt_of_lt_mul → wD, eq_ofNat_of_zero_le → wE, mul_le_mul_of_nonneg_left → wF, lt_ediv_add_one_mul_self → wG
open Nat renaming le_refl → zG, lt_succ_iff_lt_or_eq → y4, zero_le → xu
open Bool renaming and_eq_true → zj, or_eq_true → yL, true → J, false → G
open Option renaming some → zD, some → I, none → S
open List renaming getElem?_eq_getElem → zq, all_eq_true → zu, mem_cons → zF, take_length → zI, mem_singleton → zJ, range → zO, length_take → zR, mem_append → zU, drop → yb, length → yG, getElem_mem → xy, getElem_of_mem → xR
open Decidable renaming decide → O
open Go.Proofs.Tryz renaming prog → wJ
open Go.Proofs.Tryz
set_option linter.unusedSectionVars false
set_option linter.unusedVariables false
set_option linter.unusedSimpArgs false
set_option linter.defProp false
noncomputable section
set_option maxRecDepth 100000
namespace Go.Proofs.YtnfljbehcffmcaaGreat
open Go Go.Iv
open Go.IntKind (i64 u64)
abbrev E80:=aH
def d80:Td 0 E80:= .c [] [2] (.r 0 1 (ec 2 (qp 0 0) en) (sb 0 34 (lg 34) sn) (λz=>z.2.1) (λx=>(((),()),(x,()))))
def Pj(a0:Int):E80:=
 aH.mk a0 a0 (0)
def e80:=eL wJ 80 G (aM ln) d80 (λg=>I (Pj g.1))
def Hx:EO e80:=λh=>kL (an:= .no) func80 aQ aG h
def amh:aW:=cZ
abbrev aku:=Bool
def d145:Td 0 aku:= .c [] [2] (.r 0 0 (ec 2 qb en) sn (λz=>z.1.1) (λx=>((x,()),(()))))
def atK:=(aM ln)
def afL:An:=(noTwo (.two (.rb [] 2) .no))
def arI:∀f∈([]:aa Nat),bC (amh) f:=aG
def iw(a0:Int):aku:=
 let r1:Bool:=bif O (-1099511627776<=a0)then O (a0<=1099511627776)else G;r1
def av8(a0:Int):bQ wJ (amh) 300 (afL) 145 (atK.c (a0,())) [] 0 d145.rd=I (iw a0):=by
 refine Eq.trans (b:=(
  match bif O (-1099511627776<=a0)then I (O (a0<=1099511627776))else I (G)with|S=>S|I r1=>I (r1):af aku)) (by kernel_rfl) ?_
 simp only[iw,ct,cF]
def R4:=eL wJ 145 G atK d145 (λg=>I (iw g.1))
def tP:EO R4:=λh=>kL (F:=amh) (an:=afL) (l:=[(.skip,(.rb [] 2))]) func145 aQ (aC arI aG) h (c:=λg=>av8 g.1)
def jc:EP R4:=λh=>kP h
def aro:aW:=cZ
abbrev aqh:=aH
def d224:Td 0 aqh:= .c [] [0] (.r 0 1 (ec 0 (qp 0 0) en) (sb 0 34 (lg 34) sn) (λz=>z.2.1) (λx=>(((),()),(x,()))))
def atu:=ln
def ahh:An:= .no
def gX:aqh:=
 aH.mk (1) (0) (0)
def awW:bQ wJ (aro) 300 (ahh) 224 (atu.c ()) [] 0 d224.rd=I (gX):=by kernel_rfl
def Jz:=eL wJ 224 G atu d224 (λ_=>I (gX))
def jk:EO Jz:=λh=>kL (F:=aro) (an:=ahh) func224 aQ aG h (c:=λ_=>awW)
def jV:EP Jz:=λh=>kP h
def avv:aW:=(Jz cZ)
abbrev aiZ:=Bool
def d147:Td 0 aiZ:= .c [] [2] (.r 0 0 (ec 2 qb en) sn (λz=>z.1.1) (λx=>((x,()),(()))))
def arc:=(lc (qg 34) ln)
def af8:An:= .no
def eG(a0:aH):aiZ:=
 bif O (a0.ag=gX.ag)then bif O (a0.ah=gX.ah)then bif O (a0.aj=gX.aj)then J else G else G else G
def aww(a0:aH):bQ wJ (avv) 300 (af8) 147 (arc.c (a0,())) [] 0 d147.rd=I (eG a0):=by
 refine Eq.trans (b:=(
  I (bif O (a0.ag=gX.ag)then bif O (a0.ah=gX.ah)then bif O (a0.aj=gX.aj)then J else G else G else G):af aiZ)) (by kernel_rfl) ?_
 simp only[eG,ct,cF]
def A4:=eL wJ 147 G arc d147 (λg=>I (eG g.1))
def iH:EO A4:=λh=>kL (an:=af8) func147 (jk aQ) aG h (c:=λg=>aww g.1)
def eM:EP A4:=λh=>kP h
def at3:aW:=(A4 (R4 cZ))
abbrev atc:=Bool
def d144:Td 0 atc:= .c [] [2] (.r 0 0 (ec 2 qb en) sn (λz=>z.1.1) (λx=>((x,()),(()))))
def ah3:∀f∈([145]:aa Nat),bC (at3) f:=(aC (eM (jc bH)) aG)
def rS(a0:aH):af atc:=
 bif eG a0 then I J else match bif bif iw a0.ag then G else J then I J else bif bif iw a0.ah then G else J then I J else I (O (a0.ah<a0.ag))with|S=>S|I r1=>bif r1 then I G else bif O (a0.ag=a0.ah)then I (O (a0.aj=0))else match bif O (1<=a0.aj)then if¬a0.aj=0then I (O ((i64.wrap (a0.ah-a0.ag)).tmod a0.aj=0))else S else I G with|S=>S|I r2=>I (r2)
def Jf:=eL wJ 144 G (lc (qg 34) ln) d144 (λg=>rS g.1)
def jK:EO Jf:=λh=>kL (F:=at3) (an:=(noTwo (noTwo (.two (.two (.rb [145] 21) .no) (noTwo (.two (.rb [145] 2) .no)))))) (l:=[(.skip,(.rb [145] 21)),(.skip,(.rb [145] 2))]) func144 (iH (tP aQ)) (aC ah3 (aC ah3 aG)) h
def fh:EP Jf:=λh=>kP h
abbrev an9:=aH
def d149:Td 0 an9:= .c [] [2] (.r 0 1 (ec 2 (qp 0 0) en) (sb 0 34 (lg 34) sn) (λz=>z.2.1) (λx=>(((),()),(x,()))))
def fX(a0:Int):an9:=
 aH.mk a0 a0 (0)
def afx:=eL wJ 149 G (aM ln) d149 (λg=>I (fX g.1))
def pL:EO afx:=λh=>kL (an:= .no) func149 aQ aG h
def Sw:EP afx:=λh=>kP h
abbrev aue:=aH
def d225:Td 0 aue:= .c [] [6] (.r 0 1 (ec 6 (qp 0 0) en) (sb 0 34 (lg 34) sn) (λz=>z.2.1) (λx=>(((),()),(x,()))))
def kE(a0:Int)(a1:Int)(a2:Int):af aue:=
 bif O (a1<a0)then I (gX)else bif O (a2=0)then I (fX a0)else if¬a2=0then bif O (a0=i64.wrap (a0+i64.wrap (i64.wrap ((i64.wrap (a1-a0)).tdiv a2)*a2)))then I (fX a0)else I (aH.mk a0 (i64.wrap (a0+i64.wrap (i64.wrap ((i64.wrap (a1-a0)).tdiv a2)*a2))) a2)else S
def L7:=eL wJ 225 G (aM (aM (aM ln))) d225 (λg=>kE g.1 g.2.1 g.t.1)
def pG:EO L7:=λh=>kL (an:= .no) func225 (jk (pL aQ)) aG h
def jd:EP L7:=λh=>kP h
def atj:aW:=(L7 (Jz (A4 cZ)))
abbrev api:=aH×aH
def d146:Td 0 api:= .c [] [4,5] (.r 0 2 (ec 4 (qp 0 0) (ec 5 (qp 1 0) en)) (sb 0 34 (lg 34) (sb 1 34 (lg 34) sn)) (λz=>(z.2.1,z.t.1)) (λx=>(((),(),()),(x.1,x.2,()))))
def anL:∀f∈([147]:aa Nat),bC (atj) f:=(aC (jd (jV (eM bH))) aG)
def wS(a0:aH)(a1:Int):af api:=
 match bif eG a0 then I (J)else I (O (a1<a0.ag))with|S=>S|I r1=>bif r1 then I ((gX,a0))else bif O (a0.ah<=a1)then I ((a0,gX))else match kE a0.ag a1 a0.aj with|S=>S|I r2=>match kE (i64.wrap (r2.ah+a0.aj)) a0.ah a0.aj with|S=>S|I r3=>I ((r2,r3))
def adS:=eL wJ 146 G (lc (qg 34) (aM ln)) d146 (λg=>wS g.1 g.2.1)
def HE:EO adS:=λh=>kL (F:=atj) (an:=(noTwo (.two (.two (.rb [147] 7) .no) .no))) (l:=[(.skip,(.rb [147] 7))]) func146 (pG (jk (iH aQ))) (aC anL aG) h
def Tf:EP adS:=λh=>kP h
structure kR where
 (t3 t5:Int)
 t6:List Int
 (t7 t8:Int)
def LX:Td 0 kR:= .c [] [3,5,6,7,8] (.r 0 0 (ec 3 aL (ec 5 aL (ec 6 (ql 3) (ec 7 aL (ec 8 aL en))))) sn (λz=>⟨z.1.1,z.1.2.1,z.1.t.1,z.1.t.2.1,z.1.q.1⟩) (λx=>((x.t3,x.t5,x.t6,x.t7,x.t8,()),(()))))
def rB(p:kR):af (af kR):=
 bif bif O (p.t5=0)then G else J then if¬p.t5=0then I (I (kR.mk p.t5 (p.t3.tmod p.t5) p.t6 p.t7 p.t8))else S else I (S)
def vi:=bG (rB)
structure ri where
 t3:Int
 t6:List Int
 (t7 t8:Int)
def Oh:Td 0 ri:= .c [] [3,6,7,8] (.r 0 0 (ec 3 aL (ec 6 (ql 3) (ec 7 aL (ec 8 aL en)))) sn (λz=>⟨z.1.1,z.1.2.1,z.1.t.1,z.1.t.2.1⟩) (λx=>((x.t3,x.t6,x.t7,x.t8,()),(()))))
def rO(p:ri):af (af ri):=
 bif O (p.t8<p.t7)then if 0<=p.t8/\p.t8<p.t6.length then match vi (kR.mk p.t3 p.t6[p.t8.toNat]! p.t6 p.t7 p.t8)with|S=>S|I r1=>bif bif O (r1.t5=0)then G else J then if¬r1.t5=0then S else S else I (I (ri.mk r1.t3 r1.t6 r1.t7 (i64.wrap (r1.t8+1))))else S else I (S)
def X0:An:=(noTwo (noTwo (.two (noTwo (LX.lp vi .no)) .no)))
def B8:=bG (rO)
abbrev aqN:=Int
def d226:Td 0 aqN:= .c [] [2] (.r 0 0 (ec 2 aL en) sn (λz=>z.1.1) (λx=>((x,()),(()))))
def Aa(a0:aa Int):af aqN:=
 match B8 (ri.mk 0 a0 a0.length 0)with|S=>S|I r2=>bif O (r2.t8<r2.t7)then if 0<=r2.t8/\r2.t8<r2.t6.length then match vi (kR.mk r2.t3 r2.t6[r2.t8.toNat]! r2.t6 r2.t7 r2.t8)with|S=>S|I r3=>bif bif O (r3.t5=0)then G else J then if¬r3.t5=0then S else S else S else S else I (r2.t3)
def WV:=eL wJ 226 G (lc (ql 3) ln) d226 (λg=>Aa g.1)
def Ap:EO WV:=λh=>kL (an:=(noTwo (noTwo (.two (noTwo (Oh.lp B8 X0)) .no)))) (l:=[(bg f226 0,(Oh.lp B8 X0)),(bg f226 1,(LX.lp vi .no))]) func226 aQ (aC (aO Oh) (aC (aO LX) aG)) h
def lS:EP WV:=λh=>kP h
def axk:aW:=cZ
abbrev ajL:=Int
def d227:Td 0 ajL:= .c [] [2] (.r 0 0 (ec 2 aL en) sn (λz=>z.1.1) (λx=>((x,()),(()))))
def apa:=(aM ln)
def ahc:An:= .no
def iN(a0:Int):ajL:=
 if a0<i64.wrap (0-a0)then i64.wrap (0-a0)else a0
def avO(a0:Int):bQ wJ (axk) 300 (ahc) 227 (apa.c (a0,())) [] 0 d227.rd=I (iN a0):=by
 refine Eq.trans (b:=(
  I (if a0<i64.wrap (0-a0)then i64.wrap (0-a0)else a0):af ajL)) (by kernel_rfl) ?_
 simp only[iN,ct,cF]
def Wc:=eL wJ 227 G apa d227 (λg=>I (iN g.1))
def Az:EO Wc:=λh=>kL (an:=ahc) func227 aQ aG h (c:=λg=>avO g.1)
def Ej:EP Wc:=λh=>kP h
def aps:aW:=(Wc (WV (L7 (A4 cZ))))
abbrev apw:=aH
def d148:Td 0 apw:= .c [] [4] (.r 0 1 (ec 4 (qp 0 0) en) (sb 0 34 (lg 34) sn) (λz=>z.2.1) (λx=>(((),()),(x,()))))
def arn:∀f∈([147]:aa Nat),bC (aps) f:=(aC (Ej (lS (jd (eM bH)))) aG)
def kC(a0:aH)(a1:aH):af apw:=
 bif eG a0 then I (a1)else match bif eG a1 then I (J)else I (bif O (a0.ag=a1.ag)then bif O (a0.ah=a1.ah)then bif O (a0.aj=a1.aj)then J else G else G else G)with|S=>S|I r1=>bif r1 then I (a0)else match Aa [a0.aj,a1.aj,iN (i64.wrap (a0.ag-a1.ag))]with|S=>S|I r2=>match kE (if a1.ag<a0.ag then a1.ag else a0.ag) (if a0.ah<a1.ah then a1.ah else a0.ah) r2 with|S=>S|I r3=>I (r3)
def Xo:=eL wJ 148 G (lc (qg 34) (lc (qg 34) ln)) d148 (λg=>kC g.1 g.2.1)
def pF:EO Xo:=λh=>kL (F:=aps) (an:=(noTwo (noTwo (.two (.two (.rb [147] 14) .no) .no)))) (l:=[(.skip,(.rb [147] 14))]) func148 (Az (Ap (pG (iH aQ)))) (aC arn aG) h
def Ep:EP Xo:=λh=>kP h
def F81:aW:=(afx (Xo (A4 (adS (R4 (Jf cZ))))))
abbrev E81:=aH×Int
def d81:Td 0 E81:= .c [] [6,7] (.r 0 1 (ec 6 (qp 0 0) (ec 7 aL en)) (sb 0 34 (lg 34) sn) (λz=>(z.2.1,z.1.2.1)) (λx=>(((),x.2,()),(x.1,()))))
def ax0:∀f∈([145]:aa Nat),bC (F81) f:=(aC (Sw (Ep (eM (Tf (jc (fh bH)))))) aG)
def m81(a0:aH)(a1:Int)(a2:Int):af E81:=
 match rS a0 with|S=>S|I r1=>bif bif r1 then G else J then I ((aH.mk (0) (0) (0),1))else match bif O (a2<a1)then I (J)else bif bif iw a1 then G else J then I (J)else I (bif iw a2 then G else J)with|S=>S|I r2=>bif r2 then I ((aH.mk (0) (0) (0),3))else match wS a0 (i64.wrap (a1-1))with|S=>S|I r3=>match wS r3.snd a2 with|S=>S|I r4=>bif bif eG r3.fst then G else J then match kC r4.fst (fX a1)with|S=>S|I r5=>bif bif eG r4.snd then G else J then match kC r5 (fX a2)with|S=>S|I r6=>I ((r6,0))else I ((r5,0))else bif bif eG r4.snd then G else J then match kC r4.fst (fX a2)with|S=>S|I r7=>I ((r7,0))else I ((r4.fst,0))
def e81:=eL wJ 81 G (lc (qg 34) (aM (aM ln))) d81 (λg=>m81 g.1 g.2.1 g.t.1)
def Lk:EO e81:=λh=>kL (F:=F81) (an:=(noTwo (noTwo (.two (.two (.rb [145] 28) .no) .no)))) (l:=[(.skip,(.rb [145] 28))]) func81 (pL (pF (iH (HE (tP (jK aQ)))))) (aC ax0 aG) h
def asu:aW:=(A4 cZ)
abbrev asE:=Bool
def d177:Td 0 asE:= .c [] [4] (.r 0 0 (ec 4 qb en) sn (λz=>z.1.1) (λx=>((x,()),(()))))
def ahF:∀f∈([147]:aa Nat),bC (asu) f:=(aC (eM bH) aG)
def Sd(a0:aH)(a1:Int):af asE:=
 match bif eG a0 then I J else bif O (a1<a0.ag)then I J else I (O (a0.ah<a1))with|S=>S|I r1=>bif r1 then I G else match bif O (a0.aj=0)then I J else if¬a0.aj=0then I (O ((i64.wrap (a1-a0.ag)).tmod a0.aj=0))else S with|S=>S|I r2=>I (r2)
def aed:=eL wJ 177 G (lc (qg 34) (aM ln)) d177 (λg=>Sd g.1 g.2.1)
def FR:EO aed:=λh=>kL (F:=asu) (an:=(noTwo (.two (.two (.rb [147] 18) .no) (.two (.rb [147] 4) .no)))) (l:=[(.skip,(.rb [147] 18)),(.skip,(.rb [147] 4))]) func177 (iH aQ) (aC ahF (aC ahF aG)) h
def uv:EP aed:=λh=>kP h
def F92:aW:=(aed (Jf cZ))
abbrev E92:=Bool
def d92:Td 0 E92:= .c [] [4] (.r 0 0 (ec 4 qb en) sn (λz=>z.1.1) (λx=>((x,()),(()))))
def av0:∀f∈([144,177]:aa Nat),bC (F92) f:=(aC (uv (fh bH)) (aC (uv (fh bH)) aG))
def m92(a0:aH)(a1:Int):af E92:=
 match match rS a0 with|S=>S|I r1=>bif r1 then match Sd a0 a1 with|S=>S|I r2=>I (r2)else I (G)with|S=>S|I r3=>I (r3)
def e92:=eL wJ 92 G (lc (qg 34) (aM ln)) d92 (λg=>m92 g.1 g.2.1)
def N4:EO e92:=λh=>kL (F:=F92) (an:=(noTwo (.two (.rb [144,177] 4) .no))) (l:=[(.skip,(.rb [144,177] 4))]) func92 (FR (jK aQ)) (aC av0 aG) h
abbrev aun:=Int
def d176:Td 0 aun:= .c [] [2] (.r 0 0 (ec 2 aL en) sn (λz=>z.1.1) (λx=>((x,()),(()))))
def vm(a0:aH):af aun:=
 bif eG a0 then I 0 else bif O (a0.aj=0)then I 1 else if¬a0.aj=0then I (i64.wrap (i64.wrap ((i64.wrap (a0.ah-a0.ag)).tdiv a0.aj)+1))else S
def amJ:=eL wJ 176 G (lc (qg 34) ln) d176 (λg=>vm g.1)
def sB:EO amJ:=λh=>kL (an:= .no) func176 (iH aQ) aG h
def RV:EP amJ:=λh=>kP h
abbrev atI:=Bool×Bool
def d228:Td 0 atI:= .c [] [2,3] (.r 0 0 (ec 2 qb (ec 3 qb en)) sn (λz=>(z.1.1,z.1.2.1)) (λx=>((x.1,x.2,()),(()))))
def Nv(a0:aH):af atI:=
 match Sd a0 (0)with|S=>S|I r1=>match vm a0 with|S=>S|I r2=>bif O (1<r2)then I ((r1,J))else match vm a0 with|S=>S|I r3=>bif O (r3=1)then I ((r1,bif O (a0.ag=0)then G else J))else I ((r1,G))
def YC:=eL wJ 228 G (lc (qg 34) ln) d228 (λg=>Nv g.1)
def Gd:EO YC:=λh=>kL (an:= .no) func228 (FR (sB aQ)) aG h
def EV:EP YC:=λh=>kP h
abbrev aov:=Bool×Bool
def d151:Td 0 aov:= .c [] [2,3] (.r 0 0 (ec 2 qb (ec 3 qb en)) sn (λz=>(z.1.1,z.1.2.1)) (λx=>((x.1,x.2,()),(()))))
def Lp(a0:aH):af aov:=
 match rS a0 with|S=>S|I r1=>bif bif r1 then G else J then I ((G,G))else match Nv a0 with|S=>S|I r2=>I (r2)
def Zt:=eL wJ 151 G (lc (qg 34) ln) d151 (λg=>Lp g.1)
def Hl:EO Zt:=λh=>kL (an:= .no) func151 (Gd (jK aQ)) aG h
def arj:aW:=(Xo (Jf cZ))
abbrev aqj:=aH×Int
def d229:Td 0 aqj:= .c [] [4,5] (.r 0 1 (ec 4 (qp 0 0) (ec 5 aL en)) (sb 0 34 (lg 34) sn) (λz=>(z.2.1,z.1.2.1)) (λx=>(((),x.2,()),(x.1,()))))
def aop:∀f∈([144]:aa Nat),bC (arj) f:=(aC (Ep (fh bH)) aG)
def adX(a0:aH)(a1:aH):af aqj:=
 match match rS a0 with|S=>S|I r1=>bif bif r1 then G else J then I (J)else match rS a1 with|S=>S|I r2=>I (bif r2 then G else J)with|S=>S|I r3=>bif r3 then I ((aH.mk (0) (0) (0),1))else match kC a0 a1 with|S=>S|I r4=>I ((r4,0))
def ayo:=eL wJ 229 G (lc (qg 34) (lc (qg 34) ln)) d229 (λg=>adX g.1 g.2.1)
def Z6:EO ayo:=λh=>kL (F:=arj) (an:=(noTwo (.two (.two (.rb [144] 13) .no) .no))) (l:=[(.skip,(.rb [144] 13))]) func229 (pF (jK aQ)) (aC aop aG) h
abbrev aqw:=aH
def d152:Td 0 aqw:= .c [] [4] (.r 0 1 (ec 4 (qp 0 0) en) (sb 0 34 (lg 34) sn) (λz=>z.2.1) (λx=>(((),()),(x,()))))
def sX(a0:aH)(a1:aH):af aqw:=
 bif bif O (a0.ag=a1.ag)then bif O (a0.ah=a1.ah)then bif O (a0.aj=a1.aj)then J else G else G else G then I (a0)else match adX a0 a1 with|S=>S|I r1=>I (r1.fst)
def apF:=eL wJ 152 G (lc (qg 34) (lc (qg 34) ln)) d152 (λg=>sX g.1 g.2.1)
def FK:EO apF:=λh=>kL (an:= .no) func152 (Z6 aQ) aG h
def asp:aW:=(Jz cZ)
abbrev at1:=aH
def d153:Td 0 at1:= .c [] [0] (.r 0 1 (ec 0 (qp 0 0) en) (sb 0 34 (lg 34) sn) (λz=>z.2.1) (λx=>(((),()),(x,()))))
def aqK:=ln
def ahi:An:= .no
def ZG:at1:=
 gX
def av7:bQ wJ (asp) 300 (ahi) 153 (aqK.c ()) [] 0 d153.rd=I (ZG):=by kernel_rfl
def ark:=eL wJ 153 G aqK d153 (λ_=>I (ZG))
def acM:EO ark:=λh=>kL (F:=asp) (an:=ahi) func153 (jk aQ) aG h (c:=λ_=>av7)
abbrev atC:=aH
def d230:Td 0 atC:= .c [] [4] (.r 0 1 (ec 4 (qp 0 0) en) (sb 0 34 (lg 34) sn) (λz=>z.2.1) (λx=>(((),()),(x,()))))
def nI(a0:Bool)(a1:Bool):af atC:=
 bif a0 then match kC gX (fX (0))with|S=>S|I r1=>bif a1 then match kC r1 (fX (1))with|S=>S|I r2=>I (r2)else I (r1)else bif a1 then match kC gX (fX (1))with|S=>S|I r3=>I (r3)else I (gX)
def afc:=eL wJ 230 G (lc qb (lc qb ln)) d230 (λg=>nI g.1 g.2.1)
def Py:EO afc:=λh=>kL (an:= .no) func230 (jk (pL (pF aQ))) aG h
def Ei:EP afc:=λh=>kP h
def ap0:aW:=(afc (YC (A4 (Jf cZ))))
abbrev aug:=aH×Int
def d154:Td 0 aug:= .c [] [4,5] (.r 0 1 (ec 4 (qp 0 0) (ec 5 aL en)) (sb 0 34 (lg 34) sn) (λz=>(z.2.1,z.1.2.1)) (λx=>(((),x.2,()),(x.1,()))))
def anF:∀f∈([144]:aa Nat),bC (ap0) f:=(aC (Ei (EV (eM (fh bH)))) aG)
def acV(a0:Int)(a1:aH):af aug:=
 match match rS a1 with|S=>S|I r1=>bif bif r1 then G else J then I (J)else bif bif O (a0=6)then G else J then I (bif O (a0=7)then G else J)else I (G)with|S=>S|I r2=>bif r2 then I ((aH.mk (0) (0) (0),1))else bif eG a1 then I ((a1,0))else bif O (a0=7)then match Nv a1 with|S=>S|I r3=>match nI r3.snd r3.fst with|S=>S|I r4=>I ((r4,0))else I ((aH.mk (i64.wrap (0-a1.ah)) (i64.wrap (0-a1.ag)) a1.aj,0))
def aum:=eL wJ 154 G (aM (lc (qg 34) ln)) d154 (λg=>acV g.1 g.2.1)
def ZF:EO aum:=λh=>kL (F:=ap0) (an:=(noTwo (.two (.two (.rb [144] 18) .no) .no))) (l:=[(.skip,(.rb [144] 18))]) func154 (Py (Gd (iH (jK aQ)))) (aC anF aG) h
def axc:aW:=cZ
abbrev ajc:=Bool
def d231:Td 0 ajc:= .c [] [2] (.r 0 0 (ec 2 qb en) sn (λz=>z.1.1) (λx=>((x,()),(()))))
def aok:=(aM ln)
def ah2:An:= .no
def wV(a0:Int):ajc:=
 bif O (a0=8)then J else bif O (a0=9)then J else bif O (a0=10)then J else bif O (a0=11)then J else bif O (a0=12)then J else bif O (a0=13)then J else bif O (a0=14)then J else bif O (a0=15)then J else bif O (a0=16)then J else bif O (a0=17)then J else bif O (a0=18)then J else bif O (a0=19)then J else bif O (a0=20)then J else bif O (a0=21)then J else bif O (a0=22)then J else G
def awu(a0:Int):bQ wJ (axc) 300 (ah2) 231 (aok.c (a0,())) [] 0 d231.rd=I (wV a0):=by
 refine Eq.trans (b:=(
  bif O (a0=8)then I (J)else bif O (a0=9)then I (J)else bif O (a0=10)then I (J)else bif O (a0=11)then I (J)else bif O (a0=12)then I (J)else bif O (a0=13)then I (J)else bif O (a0=14)then I (J)else bif O (a0=15)then I (J)else bif O (a0=16)then I (J)else bif O (a0=17)then I (J)else bif O (a0=18)then I (J)else bif O (a0=19)then I (J)else bif O (a0=20)then I (J)else bif O (a0=21)then I (J)else bif O (a0=22)then I (J)else I (G):af ajc)) (by kernel_rfl) ?_
 simp only[wV,ct,cF]
def aiR:=eL wJ 231 G aok d231 (λg=>I (wV g.1))
def YO:EO aiR:=λh=>kL (an:=ah2) func231 aQ aG h (c:=λg=>awu g.1)
def pX:EP aiR:=λh=>kP h
def aow:aW:=(Wc cZ)
abbrev anT:=Int×Bool
def d274:Td 0 anT:= .c [] [4,5] (.r 0 0 (ec 4 aL (ec 5 qb en)) sn (λz=>(z.1.1,z.1.2.1)) (λx=>((x.1,x.2,()),(()))))
def ap8:∀f∈([227]:aa Nat),bC (aow) f:=(aC (Ej bH) aG)
def Mo(a0:Int)(a1:Int):af anT:=
 match bif bif O (a0=0)then G else J then if¬iN a0=0then I (O (i64.wrap ((1099511627776:Int).tdiv (iN a0))<iN a1))else S else I G with|S=>S|I r1=>bif r1 then I (0,G)else I ((i64.wrap (a0*a1),J))
def axu:=eL wJ 274 G (aM (aM ln)) d274 (λg=>Mo g.1 g.2.1)
def Yn:EO axu:=λh=>kL (F:=aow) (an:=(noTwo (.two (.two (.rb [227] 15) .no) .no))) (l:=[(.skip,(.rb [227] 15))]) func274 (Az aQ) (aC ap8 aG) h
structure qQ where
 t0:List Int
 (t3 t4:Int)
def Mh:Td 0 qQ:= .c [] [0,3,4] (.r 0 0 (ec 0 (ql 3) (ec 3 aL (ec 4 aL en))) sn (λz=>⟨z.1.1,z.1.2.1,z.1.t.1⟩) (λx=>((x.t0,x.t3,x.t4,()),(()))))
def BS(p:qQ):af (af qQ):=
 bif O (p.t4<p.t0.length)then if 0<=p.t4/\p.t4<p.t0.length then I (I (qQ.mk p.t0 (if((p.t0,p.t3,p.t4,()),()).fst.fst[((p.t0,p.t3,p.t4,()),()).fst.snd.snd.fst.toNat]! <((p.t0,p.t3,p.t4,()),()).fst.snd.fst then p.t0[p.t4.toNat]! else p.t3) (i64.wrap (p.t4+1))))else S else I (S)
def G3:=bG (BS)
abbrev atr:=Int
def d275:Td 0 atr:= .c [] [2] (.r 0 0 (ec 2 aL en) sn (λz=>z.1.1) (λx=>((x,()),(()))))
def adA(a0:aa Int):af atr:=
 bif O ((a0.length:Int)<1)then S else if(0:Int)<=(0:Int)/\(0:Int)<a0.length then match G3 (qQ.mk a0 a0[0]! (1))with|S=>S|I r1=>bif O (r1.t4<r1.t0.length)then if 0<=r1.t4/\r1.t4<r1.t0.length then S else S else I (r1.t3)else S
def ayz:=eL wJ 275 G (lc (ql 3) ln) d275 (λg=>adA g.1)
def acq:EO ayz:=λh=>kL (an:=(noTwo (noTwo (noTwo (.two (noTwo (Mh.lp G3 .no)) .no))))) (l:=[(bg f275 0,(Mh.lp G3 .no))]) func275 aQ (aC (aO Mh) aG) h
structure qU where
 t0:List Int
 (t3 t4:Int)
def MU:Td 0 qU:= .c [] [0,3,4] (.r 0 0 (ec 0 (ql 3) (ec 3 aL (ec 4 aL en))) sn (λz=>⟨z.1.1,z.1.2.1,z.1.t.1⟩) (λx=>((x.t0,x.t3,x.t4,()),(()))))
def Cp(p:qU):af (af qU):=
 bif O (p.t4<p.t0.length)then if 0<=p.t4/\p.t4<p.t0.length then I (I (qU.mk p.t0 (if((p.t0,p.t3,p.t4,()),()).fst.snd.fst<((p.t0,p.t3,p.t4,()),()).fst.fst[((p.t0,p.t3,p.t4,()),()).fst.snd.snd.fst.toNat]! then p.t0[p.t4.toNat]! else p.t3) (i64.wrap (p.t4+1))))else S else I (S)
def GZ:=bG (Cp)
abbrev anZ:=Int
def d276:Td 0 anZ:= .c [] [2] (.r 0 0 (ec 2 aL en) sn (λz=>z.1.1) (λx=>((x,()),(()))))
def aaJ(a0:aa Int):af anZ:=
 bif O ((a0.length:Int)<1)then S else if(0:Int)<=(0:Int)/\(0:Int)<a0.length then match GZ (qU.mk a0 a0[0]! (1))with|S=>S|I r1=>bif O (r1.t4<r1.t0.length)then if 0<=r1.t4/\r1.t4<r1.t0.length then S else S else I (r1.t3)else S
def ayj:=eL wJ 276 G (lc (ql 3) ln) d276 (λg=>aaJ g.1)
def aak:EO ayj:=λh=>kL (an:=(noTwo (noTwo (noTwo (.two (noTwo (MU.lp GZ .no)) .no))))) (l:=[(bg f276 0,(MU.lp GZ .no))]) func276 aQ (aC (aO MU) aG) h
abbrev aty:=aH×Int
def d232:Td 0 aty:= .c [] [4,5] (.r 0 1 (ec 4 (qp 0 0) (ec 5 aL en)) (sb 0 34 (lg 34) sn) (λz=>(z.2.1,z.1.2.1)) (λx=>(((),x.2,()),(x.1,()))))
def S8(a0:aH)(a1:aH):af aty:=
 match Mo a0.ag a1.ag with|S=>S|I r1=>bif bif r1.snd then G else J then I ((aH.mk (0) (0) (0),3))else match Mo a0.ag a1.ah with|S=>S|I r2=>bif bif r2.snd then G else J then I ((aH.mk (0) (0) (0),3))else match Mo a0.ah a1.ag with|S=>S|I r3=>bif bif r3.snd then G else J then I ((aH.mk (0) (0) (0),3))else match Mo a0.ah a1.ah with|S=>S|I r4=>bif bif r4.snd then G else J then I ((aH.mk (0) (0) (0),3))else match Aa [i64.wrap (a0.aj*iN a1.ag),i64.wrap (a1.aj*iN a0.ag),i64.wrap (a0.aj*a1.aj)]with|S=>S|I r5=>match adA ([r1.fst]++[r2.fst]++[r3.fst]++[r4.fst])with|S=>S|I r6=>match aaJ ([r1.fst]++[r2.fst]++[r3.fst]++[r4.fst])with|S=>S|I r7=>match kE r6 r7 r5 with|S=>S|I r8=>I ((r8,0))
def al0:=eL wJ 232 G (lc (qg 34) (lc (qg 34) ln)) d232 (λg=>S8 g.1 g.2.1)
def ZS:EO al0:=λh=>kL (an:= .no) func232 (aak (acq (Yn (Az (Ap (pG aQ)))))) aG h
def p6:EP al0:=λh=>kP h
def aqM:aW:=(Wc (L7 (Xo (adS cZ))))
abbrev aoa:=aH
def d277:Td 0 aoa:= .c [] [6] (.r 0 1 (ec 6 (qp 0 0) en) (sb 0 34 (lg 34) sn) (λz=>z.2.1) (λx=>(((),()),(x,()))))
def aor:∀f∈([]:aa Nat),bC (aqM) f:=aG
def S2(a0:Int)(a1:aH)(a2:aH):af aoa:=
 bif O (a0=11)then match bif O (0<=a1.ag)then I (O (0<=a2.ag))else I (G)with|S=>S|I r1=>bif r1 then match kE (0) (if iN a1.ag<iN a1.ah then iN a1.ah else iN a1.ag) (1)with|S=>S|I r2=>I (r2)else match kE (i64.wrap (0-if iN a1.ag<iN a1.ah then iN a1.ah else iN a1.ag)) (if iN a1.ag<iN a1.ah then iN a1.ah else iN a1.ag) (1)with|S=>S|I r3=>I (r3)else bif O (a0=12)then match kE (if 0<i64.wrap (a2.ag+1)then 0 else i64.wrap (a2.ag+1)) (if i64.wrap (a2.ah-1)<0 then 0 else i64.wrap (a2.ah-1)) (1)with|S=>S|I r4=>I (r4)else bif O (a0=21)then match kC a1 a2 with|S=>S|I r5=>match wS r5 (if a2.ah<a1.ah then a2.ah else a1.ah)with|S=>S|I r6=>I (r6.fst)else match kC a1 a2 with|S=>S|I r7=>match wS r7 (i64.wrap ((if a1.ag<a2.ag then a2.ag else a1.ag)-1))with|S=>S|I r8=>I (r8.snd)
def awJ:=eL wJ 277 G (aM (lc (qg 34) (lc (qg 34) ln))) d277 (λg=>S2 g.1 g.2.1 g.t.1)
def adm:EO awJ:=λh=>kL (F:=aqM) (an:=(noTwo (.two (noTwo (noTwo (.two (noTwo (.two (.two (.rb [] 29) .no) .no)) .no))) .no))) (l:=[(.skip,(.rb [] 29))]) func277 (Az (pG (pF (HE aQ)))) (aC aor aG) h
structure kQ where
 t3:List Int
 (t6 t7:Int)
 b0:aH
def Mx:Td 0 kQ:= .c [] [1,3,6,7] (.t (cE.s 3 [] 3) (.c [] [1,3,6,7] (.r 0 2 (ec 1 (qp 0 0) (ec 3 (qo 1) (ec 6 aL (ec 7 aL en)))) (sb 0 34 (lg 34) (sr 1 3 sn)) (λz=>⟨z.t.1,z.1.t.1,z.1.t.2.1,z.2.1⟩) (λx=>(((),(),x.t6,x.t7,()),(x.b0,x.t3,()))))))
def qZ(p:kQ):af (af kQ):=
 bif O (p.t7<p.t6)then if(p.t3++[i64.wrap (p.b0.ag+i64.wrap (p.t7*p.b0.aj))]).length<=1073741824 then I (I (kQ.mk (p.t3++[i64.wrap (p.b0.ag+i64.wrap (p.t7*p.b0.aj))]) p.t6 (i64.wrap (p.t7+1)) p.b0))else S else I (S)
def G9:=bG (qZ)
abbrev asX:=aa Int
def d278:Td 0 asX:= .c [] [2] (.r 0 1 (ec 2 (qo 0) en) (sr 0 3 sn) (λz=>z.2.1) (λx=>(((),()),(x,()))))
def Tt(a0:aH):af asX:=
 match vm a0 with|S=>S|I r1=>match G9 (kQ.mk [] r1 (0) a0)with|S=>S|I r2=>bif O (r2.t7<r2.t6)then if(r2.t3++[i64.wrap (r2.b0.ag+i64.wrap (r2.t7*r2.b0.aj))]).length<=1073741824 then S else S else I (r2.t3)
def aw2:=eL wJ 278 G (lc (qg 34) ln) d278 (λg=>Tt g.1)
def abw:EO aw2:=λh=>kL (an:=(noTwo (noTwo (.two (noTwo (Mx.lp G9 .no)) .no)))) (l:=[(bg f278 0,(Mx.lp G9 .no))]) func278 (sB aQ) (aC (aO Mx) aG) h
def aoB:aW:=cZ
abbrev ao1:=Int
def d315:Td 0 ao1:= .c [] [4] (.r 0 0 (ec 4 aL en) sn (λz=>z.1.1) (λx=>((x,()),(()))))
def apW:∀f∈([]:aa Nat),bC (aoB) f:=aG
def VC(a0:Int)(a1:Int):af ao1:=
 bif O (a1=0)then I 0 else if¬a1=0then match if¬a1=0then bif bif O (a0.tmod a1=0)then G else J then I (bif O (a0<0)==O (a1<0)then G else J)else I G else S with|S=>S|I r1=>bif r1 then I (i64.wrap (i64.wrap (a0.tdiv a1)-1))else I (i64.wrap (a0.tdiv a1))else S
def axl:=eL wJ 315 G (aM (aM ln)) d315 (λg=>VC g.1 g.2.1)
def aaH:EO axl:=λh=>kL (F:=aoB) (an:=(noTwo (noTwo (noTwo (.two (.two (.rb [] 21) .no) .no))))) (l:=[(.skip,(.rb [] 21))]) func315 aQ (aC apW aG) h
abbrev aoI:=Int
def d279:Td 0 aoI:= .c [] [6] (.r 0 0 (ec 6 aL en) sn (λz=>z.1.1) (λx=>((x,()),(()))))
def To(a0:Int)(a1:Int)(a2:Int):af aoI:=
 bif O (a0=11)then match VC a1 a2 with|S=>S|I r1=>I (r1)else bif O (a0=12)then bif O (a2=0)then I (0)else match VC a1 a2 with|S=>S|I r2=>I (i64.wrap (a1-i64.wrap (a2*r2)))else bif O (a0=21)then I (if a2<a1 then a2 else a1)else I (if a1<a2 then a2 else a1)
def ayc:=eL wJ 279 G (aM (aM (aM ln))) d279 (λg=>To g.1 g.2.1 g.t.1)
def adD:EO ayc:=λh=>kL (an:= .no) func279 (aaH aQ) aG h
structure mM where
 (t0 t9:Int)
 t34:List Int
 (t35 t36:Int)
 t41:List Int
 (t42 t43:Int)
 (b0 b1 b2:aH)
def N7:Td 0 mM:= .c [] [0,5,6,7,9,34,35,36,41,42,43] (.r 0 5 (ec 0 aL (ec 5 (qp 0 0) (ec 6 (qp 1 0) (ec 7 (qp 2 0) (ec 9 aL (ec 34 (qo 3) (ec 35 aL (ec 36 aL (ec 41 (qo 4) (ec 42 aL (ec 43 aL en))))))))))) (sb 0 34 (lg 34) (sb 1 34 (lg 34) (sb 2 34 (lg 34) (sr 3 3 (sr 4 3 sn))))) (λz=>⟨z.1.1,z.1.q.1,z.q.1,z.1.q.t.1,z.1.q.t.2.1,z.q.2.1,z.1.q.q.2.1,z.1.q.q.t.1,z.2.1,z.t.1,z.t.2.1⟩) (λx=>((x.t0,(),(),(),x.t9,(),x.t35,x.t36,(),x.t42,x.t43,()),(x.b0,x.b1,x.b2,x.t34,x.t41,()))))
def E4(p:mM):af (af mM):=
 bif O (p.t43<p.t42)then if 0<=p.t43/\p.t43<p.t41.length then if 3=3/\p.t43.toNat<p.t41.length then match To p.t0 p.t9 p.t41[p.t43.toNat]! with|S=>S|I r5=>match kC p.b2 (fX r5)with|S=>S|I r6=>I (I (mM.mk p.t0 p.t9 p.t34 p.t35 p.t36 p.t41 p.t42 (i64.wrap (p.t43+1)) p.b0 p.b1 r6))else S else S else I (S)
def C4:=bG (E4)
structure oF where
 t0:Int
 t34:List Int
 (t35 t36:Int)
 (b0 b1 b2:aH)
def LQ:Td 0 oF:= .c [] [0,5,6,7,34,35,36] (.r 0 4 (ec 0 aL (ec 5 (qp 0 0) (ec 6 (qp 1 0) (ec 7 (qp 2 0) (ec 34 (qo 3) (ec 35 aL (ec 36 aL en))))))) (sb 0 34 (lg 34) (sb 1 34 (lg 34) (sb 2 34 (lg 34) (sr 3 3 sn)))) (λz=>⟨z.1.1,z.q.1,z.1.q.2.1,z.1.q.t.1,z.2.1,z.t.1,z.t.2.1⟩) (λx=>((x.t0,(),(),(),(),x.t35,x.t36,()),(x.b0,x.b1,x.b2,x.t34,()))))
def uC(p:oF):af (af oF):=
 bif O (p.t36<p.t35)then if 0<=p.t36/\p.t36<p.t34.length then if 3=3/\p.t36.toNat<p.t34.length then match Tt p.b0 with|S=>S|I r1=>match C4 (mM.mk p.t0 p.t34[p.t36.toNat]! p.t34 p.t35 p.t36 r1 (↑(yG r1):Int) 0 p.b0 p.b1 p.b2)with|S=>S|I r2=>bif O (r2.t43<r2.t42)then if 0<=r2.t43/\r2.t43<r2.t41.length then if 3=3/\r2.t43.toNat<r2.t41.length then match To r2.t0 r2.t9 r2.t41[r2.t43.toNat]! with|S=>S|I r3=>match kC r2.b2 (fX r3)with|S=>S|I r4=>S else S else S else I (I (oF.mk r2.t0 r2.t34 r2.t35 (i64.wrap (r2.t36+1)) r2.b0 r2.b1 r2.b2))else S else S else I (S)
def T4:An:=(noTwo (noTwo (.two (noTwo (noTwo (N7.lp C4 .no))) .no)))
def GK:=bG (uC)
abbrev asa:=aH
def d233:Td 0 asa:= .c [] [6] (.r 0 1 (ec 6 (qp 0 0) en) (sb 0 34 (lg 34) sn) (λz=>z.2.1) (λx=>(((),()),(x,()))))
def tv(a0:Int)(a1:aH)(a2:aH):af asa:=
 match vm a1 with|S=>S|I r7=>bif O (4096<r7)then match S2 a0 a1 a2 with|S=>S|I r8=>I (r8)else match vm a2 with|S=>S|I r9=>bif O (4096<r9)then match S2 a0 a1 a2 with|S=>S|I r10=>I (r10)else match vm a1 with|S=>S|I r11=>match vm a2 with|S=>S|I r12=>bif O (4096<i64.wrap (r11*r12))then match S2 a0 a1 a2 with|S=>S|I r13=>I (r13)else match Tt a1 with|S=>S|I r14=>match GK (oF.mk a0 r14 (↑(yG r14):Int) 0 a2 (aH.mk 0 0 0) gX)with|S=>S|I r15=>bif O (r15.t36<r15.t35)then if 0<=r15.t36/\r15.t36<r15.t34.length then if 3=3/\r15.t36.toNat<r15.t34.length then match Tt r15.b0 with|S=>S|I r16=>match C4 (mM.mk r15.t0 r15.t34[r15.t36.toNat]! r15.t34 r15.t35 r15.t36 r16 (↑(yG r16):Int) 0 r15.b0 r15.b1 r15.b2)with|S=>S|I r17=>bif O (r17.t43<r17.t42)then if 0<=r17.t43/\r17.t43<r17.t41.length then if 3=3/\r17.t43.toNat<r17.t41.length then match To r17.t0 r17.t9 r17.t41[r17.t43.toNat]! with|S=>S|I r18=>match kC r17.b2 (fX r18)with|S=>S|I r19=>S else S else S else S else S else S else I (r15.b2)
def alk:=eL wJ 233 G (aM (lc (qg 34) (lc (qg 34) ln))) d233 (λg=>tv g.1 g.2.1 g.t.1)
def adp:EO alk:=λh=>kL (an:=(noTwo (noTwo (noTwo (.two (noTwo (LQ.lp GK T4)) .no))))) (l:=[(bg f233 0,(LQ.lp GK T4)),(bg f233 1,(N7.lp C4 .no))]) func233 (adD (abw (adm (jk (sB (pL (pF aQ))))))) (aC (aO LQ) (aC (aO N7) aG)) h
def pE:EP alk:=λh=>kP h
structure kY where
 (t1 t5 t6 t7 t8:Int)
def Me:Td 0 kY:= .c [] [1,5,6,7,8] (.r 0 0 (ec 1 aL (ec 5 aL (ec 6 aL (ec 7 aL (ec 8 aL en))))) sn (λz=>⟨z.1.1,z.1.2.1,z.1.t.1,z.1.t.2.1,z.1.q.1⟩) (λx=>((x.t1,x.t5,x.t6,x.t7,x.t8,()),(()))))
def C5(p:kY):af (af kY):=
 bif O (1<p.t5)then if¬p.t5=0then I (I (kY.mk p.t1 (i64.wrap (p.t6-i64.wrap (i64.wrap (p.t6.tdiv p.t5)*p.t5))) p.t5 (i64.wrap (p.t8-i64.wrap (i64.wrap (p.t6.tdiv p.t5)*p.t7))) p.t7))else S else I (S)
def H6:=bG (C5)
abbrev aqP:=Int
def d341:Td 0 aqP:= .c [] [4] (.r 0 0 (ec 4 aL en) sn (λz=>z.1.1) (λx=>((x,()),(()))))
def aa4(a0:Int)(a1:Int):af aqP:=
 if¬a1=0then match H6 (kY.mk a1 (a0.tmod a1) a1 1 0)with|S=>S|I r1=>bif O (1<r1.t5)then if¬r1.t5=0then S else S else if¬r1.t1=0then if¬r1.t1=0then I ((i64.wrap (r1.t7.tmod r1.t1+r1.t1)).tmod r1.t1)else S else S else S
def auw:=eL wJ 341 G (aM (aM ln)) d341 (λg=>aa4 g.1 g.2.1)
def adb:EO auw:=λh=>kL (an:=(noTwo (noTwo (.two (Me.lp H6 .no) .no)))) (l:=[(bg f341 0,(Me.lp H6 .no))]) func341 aQ (aC (aO Me) aG) h
def ap6:aW:=(auw (anP (WV (Jz (afx cZ)))))
abbrev ash:=aH
def d316:Td 0 ash:= .c [] [4] (.r 0 1 (ec 4 (qp 0 0) en) (sb 0 34 (lg 34) sn) (λz=>z.2.1) (λx=>(((),()),(x,()))))
def aqE:∀f∈([]:aa Nat),bC (ap6) f:=aG
def adC(a0:aH)(a1:aH):af ash:=
 match Aa [a0.aj,a1.aj]with|S=>S|I r1=>match bif O ((if a1.ah<a0.ah then a1.ah else a0.ah)<if a0.ag<a1.ag then a1.ag else a0.ag)then I J else if¬r1=0then I (bif O ((i64.wrap (a1.ag-a0.ag)).tmod r1=0)then G else J)else S with|S=>S|I r2=>bif r2 then I (gX)else if¬r1=0then bif O (1<i64.wrap (a1.aj.tdiv r1))then if¬r1=0then if¬i64.wrap (a1.aj.tdiv r1)=0then if¬i64.wrap (a1.aj.tdiv r1)=0then if¬r1=0then if¬i64.wrap (a1.aj.tdiv r1)=0then match aa4 ((i64.wrap (a0.aj.tdiv r1)).tmod (i64.wrap (a1.aj.tdiv r1))) (i64.wrap (a1.aj.tdiv r1))with|S=>S|I r3=>match aei ((i64.wrap ((i64.wrap ((i64.wrap (a1.ag-a0.ag)).tdiv r1)).tmod (i64.wrap (a1.aj.tdiv r1))+i64.wrap (a1.aj.tdiv r1))).tmod (i64.wrap (a1.aj.tdiv r1))) r3 (i64.wrap (a1.aj.tdiv r1))with|S=>S|I r4=>if¬a0.aj=0then if¬a0.aj=0then bif O (r4<i64.wrap ((i64.wrap (i64.wrap (i64.wrap ((if a0.ag<a1.ag then a1.ag else a0.ag)-a0.ag)+a0.aj)-1)).tdiv a0.aj))then if¬i64.wrap (a1.aj.tdiv r1)=0then bif O (i64.wrap ((i64.wrap ((if a1.ah<a0.ah then a1.ah else a0.ah)-a0.ag)).tdiv a0.aj)<i64.wrap (r4+i64.wrap (i64.wrap ((i64.wrap (i64.wrap (i64.wrap (i64.wrap ((i64.wrap (i64.wrap (i64.wrap ((if a0.ag<a1.ag then a1.ag else a0.ag)-a0.ag)+a0.aj)-1)).tdiv a0.aj)-r4)+i64.wrap (a1.aj.tdiv r1))-1)).tdiv (i64.wrap (a1.aj.tdiv r1)))*i64.wrap (a1.aj.tdiv r1))))then I (gX)else if¬i64.wrap (a1.aj.tdiv r1)=0then bif O (i64.wrap (r4+i64.wrap (i64.wrap ((i64.wrap (i64.wrap (i64.wrap (i64.wrap ((i64.wrap (i64.wrap (i64.wrap ((if a0.ag<a1.ag then a1.ag else a0.ag)-a0.ag)+a0.aj)-1)).tdiv a0.aj)-r4)+i64.wrap (a1.aj.tdiv r1))-1)).tdiv (i64.wrap (a1.aj.tdiv r1)))*i64.wrap (a1.aj.tdiv r1)))=i64.wrap (i64.wrap (r4+i64.wrap (i64.wrap ((i64.wrap (i64.wrap (i64.wrap (i64.wrap ((i64.wrap (i64.wrap (i64.wrap ((if a0.ag<a1.ag then a1.ag else a0.ag)-a0.ag)+a0.aj)-1)).tdiv a0.aj)-r4)+i64.wrap (a1.aj.tdiv r1))-1)).tdiv (i64.wrap (a1.aj.tdiv r1)))*i64.wrap (a1.aj.tdiv r1)))+i64.wrap (i64.wrap ((i64.wrap (i64.wrap ((i64.wrap ((if a1.ah<a0.ah then a1.ah else a0.ah)-a0.ag)).tdiv a0.aj)-i64.wrap (r4+i64.wrap (i64.wrap ((i64.wrap (i64.wrap (i64.wrap (i64.wrap ((i64.wrap (i64.wrap (i64.wrap ((if a0.ag<a1.ag then a1.ag else a0.ag)-a0.ag)+a0.aj)-1)).tdiv a0.aj)-r4)+i64.wrap (a1.aj.tdiv r1))-1)).tdiv (i64.wrap (a1.aj.tdiv r1)))*i64.wrap (a1.aj.tdiv r1))))).tdiv (i64.wrap (a1.aj.tdiv r1)))*i64.wrap (a1.aj.tdiv r1))))then I (fX (i64.wrap (a0.ag+i64.wrap (i64.wrap (r4+i64.wrap (i64.wrap ((i64.wrap (i64.wrap (i64.wrap (i64.wrap ((i64.wrap (i64.wrap (i64.wrap ((if a0.ag<a1.ag then a1.ag else a0.ag)-a0.ag)+a0.aj)-1)).tdiv a0.aj)-r4)+i64.wrap (a1.aj.tdiv r1))-1)).tdiv (i64.wrap (a1.aj.tdiv r1)))*i64.wrap (a1.aj.tdiv r1)))*a0.aj))))else I (aH.mk (i64.wrap (a0.ag+i64.wrap (i64.wrap (r4+i64.wrap (i64.wrap ((i64.wrap (i64.wrap (i64.wrap (i64.wrap ((i64.wrap (i64.wrap (i64.wrap ((if a0.ag<a1.ag then a1.ag else a0.ag)-a0.ag)+a0.aj)-1)).tdiv a0.aj)-r4)+i64.wrap (a1.aj.tdiv r1))-1)).tdiv (i64.wrap (a1.aj.tdiv r1)))*i64.wrap (a1.aj.tdiv r1)))*a0.aj))) (i64.wrap (a0.ag+i64.wrap (i64.wrap (i64.wrap (r4+i64.wrap (i64.wrap ((i64.wrap (i64.wrap (i64.wrap (i64.wrap ((i64.wrap (i64.wrap (i64.wrap ((if a0.ag<a1.ag then a1.ag else a0.ag)-a0.ag)+a0.aj)-1)).tdiv a0.aj)-r4)+i64.wrap (a1.aj.tdiv r1))-1)).tdiv (i64.wrap (a1.aj.tdiv r1)))*i64.wrap (a1.aj.tdiv r1)))+i64.wrap (i64.wrap ((i64.wrap (i64.wrap ((i64.wrap ((if a1.ah<a0.ah then a1.ah else a0.ah)-a0.ag)).tdiv a0.aj)-i64.wrap (r4+i64.wrap (i64.wrap ((i64.wrap (i64.wrap (i64.wrap (i64.wrap ((i64.wrap (i64.wrap (i64.wrap ((if a0.ag<a1.ag then a1.ag else a0.ag)-a0.ag)+a0.aj)-1)).tdiv a0.aj)-r4)+i64.wrap (a1.aj.tdiv r1))-1)).tdiv (i64.wrap (a1.aj.tdiv r1)))*i64.wrap (a1.aj.tdiv r1))))).tdiv (i64.wrap (a1.aj.tdiv r1)))*i64.wrap (a1.aj.tdiv r1)))*a0.aj))) (i64.wrap (i64.wrap (a1.aj.tdiv r1)*a0.aj)))else S else S else bif O (i64.wrap ((i64.wrap ((if a1.ah<a0.ah then a1.ah else a0.ah)-a0.ag)).tdiv a0.aj)<r4)then I (gX)else if¬i64.wrap (a1.aj.tdiv r1)=0then bif O (r4=i64.wrap (r4+i64.wrap (i64.wrap ((i64.wrap (i64.wrap ((i64.wrap ((if a1.ah<a0.ah then a1.ah else a0.ah)-a0.ag)).tdiv a0.aj)-r4)).tdiv (i64.wrap (a1.aj.tdiv r1)))*i64.wrap (a1.aj.tdiv r1))))then I (fX (i64.wrap (a0.ag+i64.wrap (r4*a0.aj))))else I (aH.mk (i64.wrap (a0.ag+i64.wrap (r4*a0.aj))) (i64.wrap (a0.ag+i64.wrap (i64.wrap (r4+i64.wrap (i64.wrap ((i64.wrap (i64.wrap ((i64.wrap ((if a1.ah<a0.ah then a1.ah else a0.ah)-a0.ag)).tdiv a0.aj)-r4)).tdiv (i64.wrap (a1.aj.tdiv r1)))*i64.wrap (a1.aj.tdiv r1)))*a0.aj))) (i64.wrap (i64.wrap (a1.aj.tdiv r1)*a0.aj)))else S else S else S else S else S else S else S else S else if¬a0.aj=0then if¬a0.aj=0then bif O (0<i64.wrap ((i64.wrap (i64.wrap (i64.wrap ((if a0.ag<a1.ag then a1.ag else a0.ag)-a0.ag)+a0.aj)-1)).tdiv a0.aj))then if¬i64.wrap (a1.aj.tdiv r1)=0then bif O (i64.wrap ((i64.wrap ((if a1.ah<a0.ah then a1.ah else a0.ah)-a0.ag)).tdiv a0.aj)<i64.wrap (0+i64.wrap (i64.wrap ((i64.wrap (i64.wrap (i64.wrap (i64.wrap ((i64.wrap (i64.wrap (i64.wrap ((if a0.ag<a1.ag then a1.ag else a0.ag)-a0.ag)+a0.aj)-1)).tdiv a0.aj)-0)+i64.wrap (a1.aj.tdiv r1))-1)).tdiv (i64.wrap (a1.aj.tdiv r1)))*i64.wrap (a1.aj.tdiv r1))))then I (gX)else if¬i64.wrap (a1.aj.tdiv r1)=0then bif O (i64.wrap (0+i64.wrap (i64.wrap ((i64.wrap (i64.wrap (i64.wrap (i64.wrap ((i64.wrap (i64.wrap (i64.wrap ((if a0.ag<a1.ag then a1.ag else a0.ag)-a0.ag)+a0.aj)-1)).tdiv a0.aj)-0)+i64.wrap (a1.aj.tdiv r1))-1)).tdiv (i64.wrap (a1.aj.tdiv r1)))*i64.wrap (a1.aj.tdiv r1)))=i64.wrap (i64.wrap (0+i64.wrap (i64.wrap ((i64.wrap (i64.wrap (i64.wrap (i64.wrap ((i64.wrap (i64.wrap (i64.wrap ((if a0.ag<a1.ag then a1.ag else a0.ag)-a0.ag)+a0.aj)-1)).tdiv a0.aj)-0)+i64.wrap (a1.aj.tdiv r1))-1)).tdiv (i64.wrap (a1.aj.tdiv r1)))*i64.wrap (a1.aj.tdiv r1)))+i64.wrap (i64.wrap ((i64.wrap (i64.wrap ((i64.wrap ((if a1.ah<a0.ah then a1.ah else a0.ah)-a0.ag)).tdiv a0.aj)-i64.wrap (0+i64.wrap (i64.wrap ((i64.wrap (i64.wrap (i64.wrap (i64.wrap ((i64.wrap (i64.wrap (i64.wrap ((if a0.ag<a1.ag then a1.ag else a0.ag)-a0.ag)+a0.aj)-1)).tdiv a0.aj)-0)+i64.wrap (a1.aj.tdiv r1))-1)).tdiv (i64.wrap (a1.aj.tdiv r1)))*i64.wrap (a1.aj.tdiv r1))))).tdiv (i64.wrap (a1.aj.tdiv r1)))*i64.wrap (a1.aj.tdiv r1))))then I (fX (i64.wrap (a0.ag+i64.wrap (i64.wrap (0+i64.wrap (i64.wrap ((i64.wrap (i64.wrap (i64.wrap (i64.wrap ((i64.wrap (i64.wrap (i64.wrap ((if a0.ag<a1.ag then a1.ag else a0.ag)-a0.ag)+a0.aj)-1)).tdiv a0.aj)-0)+i64.wrap (a1.aj.tdiv r1))-1)).tdiv (i64.wrap (a1.aj.tdiv r1)))*i64.wrap (a1.aj.tdiv r1)))*a0.aj))))else I (aH.mk (i64.wrap (a0.ag+i64.wrap (i64.wrap (0+i64.wrap (i64.wrap ((i64.wrap (i64.wrap (i64.wrap (i64.wrap ((i64.wrap (i64.wrap (i64.wrap ((if a0.ag<a1.ag then a1.ag else a0.ag)-a0.ag)+a0.aj)-1)).tdiv a0.aj)-0)+i64.wrap (a1.aj.tdiv r1))-1)).tdiv (i64.wrap (a1.aj.tdiv r1)))*i64.wrap (a1.aj.tdiv r1)))*a0.aj))) (i64.wrap (a0.ag+i64.wrap (i64.wrap (i64.wrap (0+i64.wrap (i64.wrap ((i64.wrap (i64.wrap (i64.wrap (i64.wrap ((i64.wrap (i64.wrap (i64.wrap ((if a0.ag<a1.ag then a1.ag else a0.ag)-a0.ag)+a0.aj)-1)).tdiv a0.aj)-0)+i64.wrap (a1.aj.tdiv r1))-1)).tdiv (i64.wrap (a1.aj.tdiv r1)))*i64.wrap (a1.aj.tdiv r1)))+i64.wrap (i64.wrap ((i64.wrap (i64.wrap ((i64.wrap ((if a1.ah<a0.ah then a1.ah else a0.ah)-a0.ag)).tdiv a0.aj)-i64.wrap (0+i64.wrap (i64.wrap ((i64.wrap (i64.wrap (i64.wrap (i64.wrap ((i64.wrap (i64.wrap (i64.wrap ((if a0.ag<a1.ag then a1.ag else a0.ag)-a0.ag)+a0.aj)-1)).tdiv a0.aj)-0)+i64.wrap (a1.aj.tdiv r1))-1)).tdiv (i64.wrap (a1.aj.tdiv r1)))*i64.wrap (a1.aj.tdiv r1))))).tdiv (i64.wrap (a1.aj.tdiv r1)))*i64.wrap (a1.aj.tdiv r1)))*a0.aj))) (i64.wrap (i64.wrap (a1.aj.tdiv r1)*a0.aj)))else S else S else bif O (i64.wrap ((i64.wrap ((if a1.ah<a0.ah then a1.ah else a0.ah)-a0.ag)).tdiv a0.aj)<0)then I (gX)else if¬i64.wrap (a1.aj.tdiv r1)=0then bif O (0=i64.wrap (0+i64.wrap (i64.wrap ((i64.wrap (i64.wrap ((i64.wrap ((if a1.ah<a0.ah then a1.ah else a0.ah)-a0.ag)).tdiv a0.aj)-0)).tdiv (i64.wrap (a1.aj.tdiv r1)))*i64.wrap (a1.aj.tdiv r1))))then I (fX (i64.wrap (a0.ag+i64.wrap (0*a0.aj))))else I (aH.mk (i64.wrap (a0.ag+i64.wrap (0*a0.aj))) (i64.wrap (a0.ag+i64.wrap (i64.wrap (0+i64.wrap (i64.wrap ((i64.wrap (i64.wrap ((i64.wrap ((if a1.ah<a0.ah then a1.ah else a0.ah)-a0.ag)).tdiv a0.aj)-0)).tdiv (i64.wrap (a1.aj.tdiv r1)))*i64.wrap (a1.aj.tdiv r1)))*a0.aj))) (i64.wrap (i64.wrap (a1.aj.tdiv r1)*a0.aj)))else S else S else S else S
def amw:=eL wJ 316 G (lc (qg 34) (lc (qg 34) ln)) d316 (λg=>adC g.1 g.2.1)
def aay:EO amw:=λh=>kL (F:=ap6) (an:=(noTwo (noTwo (noTwo (.two (.two (.rb [] 41) .no) .no))))) (l:=[(.skip,(.rb [] 41))]) func316 (adb (aaF (Ap (jk (pL aQ))))) (aC aqE aG) h
def Sr:EP amw:=λh=>kP h
abbrev tD:=aH
def d280:Td 0 tD:= .c [] [4] (.r 0 1 (ec 4 (qp 0 0) en) (sb 0 34 (lg 34) sn) (λz=>z.2.1) (λx=>(((),()),(x,()))))
def akr:=(lc (qg 34) (lc (qg 34) ln))
def aet(M:aH->aH->af tD):aW->aW:=eL wJ 280 G akr d280 (λg=>M g.1 g.2.1)
def D9{M:aH->aH->af tD}{F:aW}{f:Nat}(h:bC F f):bC (aet M F) f:=gM h (λ_=>by kernel_rfl)
def afH(M:aH->aH->af tD):Prop:=HL wJ 280 akr d280 (λg=>M g.1 g.2.1)
def RA{M:aH->aH->af tD}(hM:afH M){F:aW}(h:aV wJ F):aV wJ (aet M F):=dU (sc:=jR) cy hM ⟨_,func280,by kernel_rfl,by kernel_rfl⟩ (λ_=>by kernel_rfl) (λ_=>by kernel_rfl) h
def adN(M280:aH->aH->af tD):aW:=(amw (aet M280 (Jz (aed (A4 cZ)))))
def acK{M280}(h280:afH M280):aV wJ (adN M280):=(aay (RA h280 (jk (FR (iH aQ)))))
def af9(M280:aH->aH->af tD):An:=(noTwo (.two (.two (.rb [147] 5) .no) .no))
def arb{M280}:∀f∈([147]:aa Nat),bC (adN M280) f:=(aC (Sr (D9 (jV (uv (eM bH))))) aG)
def apL(M280:aH->aH->af tD):dB wJ (adN M280) 0 300 280 (af9 M280):=bO (l:=[(.skip,(.rb [147] 5))]) func280 (bq (by kernel_rfl)) (by kernel_rfl) (aC arb aG)
def sS(M280:aH->aH->af tD)(a0:aH)(a1:aH):af tD:=
 match bif eG a0 then I (J)else I (eG a1)with|S=>S|I r1=>bif r1 then I (gX)else bif O (a0.aj=0)then match Sd a1 a0.ag with|S=>S|I r2=>bif r2 then I (a0)else I (gX)else bif O (a1.aj=0)then match M280 a1 a0 with|S=>S|I r3=>I (r3)else match adC a0 a1 with|S=>S|I r4=>I (r4)
def awi(M280:aH->aH->af tD)(a0:aH)(a1:aH):bQ wJ (adN M280) 300 (af9 M280) 280 (akr.c (a0,a1,())) [] 0 d280.rd=sS M280 a0 a1:=by kernel_rfl
def vX:Nat->(aH->aH->af tD)
 |0=>(λ_ _=>S)
 |n+1=>(sS (vX n))
def Wb(n:Nat):aH->aH->af tD:=(vX n)
def K4:∀n,afH (Wb n)
 |0=>λ_ _ h=>(by cases h)
 |n+1=>by
  have ih:=K4 n;have i280:=ih;exact(cS (acK i280) (apL (Wb n)) (λ_=>by kernel_rfl) (λ_=>by kernel_rfl) λg=>awi (Wb n) g.1 g.2.1)
def afB:aH->aH->af tD:=λa0 a1=>lim (λn=>Wb n a0 a1)
def afu:afH afB:=λg b h=>by
 obtain⟨n,hn⟩:=cT (show lim (λn=>Wb n g.1 g.2.1)=I b from h);exact(K4 n) g b hn
def ajM(F:aW):aW:=aet afB F
def abH{F:aW}(h:aV wJ F):aV wJ (ajM F):=RA afu h
def RI{F:aW}{f:Nat}(h:bC F f):bC (ajM F) f:=D9 h
def aq4:aW:=(ajM (afc (YC (amJ (A4 cZ)))))
abbrev an0:=aH
def d234:Td 0 an0:= .c [] [6] (.r 0 1 (ec 6 (qp 0 0) en) (sb 0 34 (lg 34) sn) (λz=>z.2.1) (λx=>(((),()),(x,()))))
def atE:∀f∈([176]:aa Nat),bC (aq4) f:=(aC (RI (Ei (EV (RV (eM bH))))) aG)
def Uc(a0:Int)(a1:aH)(a2:aH):af an0:=
 match afB a1 a2 with|S=>S|I r1=>match match vm a1 with|S=>S|I r2=>bif O (1<r2)then I (J)else match vm a2 with|S=>S|I r3=>bif O (1<r3)then I (J)else I (bif O (a1.ag=a2.ag)then G else J)with|S=>S|I r4=>match Nv a1 with|S=>S|I r5=>match Nv a2 with|S=>S|I r6=>bif O (a0=13)then match nI r4 (match eG r1 with|J=>G|G=>J)with|S=>S|I r7=>I (r7)else bif O (a0=14)then match nI (match eG r1 with|J=>G|G=>J) r4 with|S=>S|I r8=>I (r8)else bif O (a0=15)then match nI (O (a2.ag<=a1.ah)) (O (a1.ag<a2.ah))with|S=>S|I r9=>I (r9)else bif O (a0=16)then match nI (O (a2.ag<a1.ah)) (O (a1.ag<=a2.ah))with|S=>S|I r10=>I (r10)else bif O (a0=17)then match nI (O (a1.ag<=a2.ah)) (O (a2.ag<a1.ah))with|S=>S|I r11=>I (r11)else bif O (a0=18)then match nI (O (a1.ag<a2.ah)) (O (a2.ag<=a1.ah))with|S=>S|I r12=>I (r12)else bif O (a0=19)then bif r5.fst then bif r5.snd then match nI J r6.snd with|S=>S|I r13=>I (r13)else match nI J G with|S=>S|I r14=>I (r14)else bif r5.snd then match nI r6.fst r6.snd with|S=>S|I r15=>I (r15)else match nI r6.fst G with|S=>S|I r16=>I (r16)else bif r5.fst then bif r5.snd then match nI r6.fst J with|S=>S|I r17=>I (r17)else match nI r6.fst r6.snd with|S=>S|I r18=>I (r18)else bif r5.snd then match nI G J with|S=>S|I r19=>I (r19)else match nI G r6.snd with|S=>S|I r20=>I (r20)
def al6:=eL wJ 234 G (aM (lc (qg 34) (lc (qg 34) ln))) d234 (λg=>Uc g.1 g.2.1 g.t.1)
def Zu:EO al6:=λh=>kL (F:=aq4) (an:=(noTwo (noTwo (.two (.rb [176] 8) .no)))) (l:=[(.skip,(.rb [176] 8))]) func234 (abH (Py (Gd (sB (iH aQ))))) (aC atE aG) h
def pO:EP al6:=λh=>kP h
def arQ:aW:=(al6 (alk (al0 (aiR (WV (L7 (Jz (A4 (R4 (Jf cZ))))))))))
abbrev anG:=aH×Int
def d155:Td 0 anG:= .c [] [6,7] (.r 0 1 (ec 6 (qp 0 0) (ec 7 aL en)) (sb 0 34 (lg 34) sn) (λz=>(z.2.1,z.1.2.1)) (λx=>(((),x.2,()),(x.1,()))))
def XE:∀f∈([144,145,147,231]:aa Nat),bC (arQ) f:=(aC (pO (pE (p6 (pX (lS (jd (jV (eM (jc (fh bH)))))))))) (aC (pO (pE (p6 (pX (lS (jd (jV (eM (jc (fh bH)))))))))) (aC (pO (pE (p6 (pX (lS (jd (jV (eM (jc (fh bH)))))))))) (aC (pO (pE (p6 (pX (lS (jd (jV (eM (jc (fh bH)))))))))) aG))))
def sF(a0:Int)(a1:aH)(a2:aH):af anG:=
 match match rS a1 with|S=>S|I r1=>bif bif r1 then G else J then I (J)else match rS a2 with|S=>S|I r2=>bif bif r2 then G else J then I (J)else I (bif wV a0 then G else J)with|S=>S|I r3=>bif r3 then I ((aH.mk (0) (0) (0),1))else match bif eG a1 then I (J)else I (eG a2)with|S=>S|I r4=>bif r4 then I ((gX,0))else bif O (a0=9)then match bif bif iw (i64.wrap (a1.ag+i64.wrap (0-a2.ah)))then G else J then I (J)else I (bif iw (i64.wrap (a1.ah+i64.wrap (0-a2.ag)))then G else J)with|S=>S|I r5=>bif r5 then I ((aH.mk (0) (0) (0),3))else match Aa [a1.aj,a2.aj]with|S=>S|I r6=>match kE (i64.wrap (a1.ag+i64.wrap (0-a2.ah))) (i64.wrap (a1.ah+i64.wrap (0-a2.ag))) r6 with|S=>S|I r7=>I ((r7,0))else bif O (a0=8)then match bif bif iw (i64.wrap (a1.ag+a2.ag))then G else J then I (J)else I (bif iw (i64.wrap (a1.ah+a2.ah))then G else J)with|S=>S|I r8=>bif r8 then I ((aH.mk (0) (0) (0),3))else match Aa [a1.aj,a2.aj]with|S=>S|I r9=>match kE (i64.wrap (a1.ag+a2.ag)) (i64.wrap (a1.ah+a2.ah)) r9 with|S=>S|I r10=>I ((r10,0))else bif O (a0=10)then match S8 a1 a2 with|S=>S|I r11=>I (r11)else bif O (a0=11)then match tv a0 a1 a2 with|S=>S|I r12=>I ((r12,0))else bif O (a0=12)then match tv a0 a1 a2 with|S=>S|I r13=>I ((r13,0))else bif O (a0=21)then match tv a0 a1 a2 with|S=>S|I r14=>I ((r14,0))else bif O (a0=22)then match tv a0 a1 a2 with|S=>S|I r15=>I ((r15,0))else match Uc a0 a1 a2 with|S=>S|I r16=>I ((r16,0))
def aiA:=eL wJ 155 G (aM (lc (qg 34) (lc (qg 34) ln))) d155 (λg=>sF g.1 g.2.1 g.t.1)
def FH:EO aiA:=λh=>kL (F:=arQ) (an:=(noTwo (.two (.two (.rb [144,145,147,231] 22) .no) (.two (.two (.rb [144,145,147,231] 29) .no) (.two (noTwo (.two (.two (noTwo (.two (noTwo (.two (.two (.rb [144,145,147,231] 69) .no) .no)) .no)) .no) .no)) .no))))) (l:=[(.skip,(.rb [144,145,147,231] 22)),(.skip,(.rb [144,145,147,231] 29)),(.skip,(.rb [144,145,147,231] 69))]) func155 (Zu (adp (ZS (YO (Ap (pG (jk (iH (tP (jK aQ)))))))))) (aC XE (aC XE (aC XE aG))) h
abbrev oX:=aH×au
def d150:Td 2 oX:= .c [] [4] (.r 2 3 (ec 4 (qp 2 0) en) (sb 0 128 (lg 128) (sb 1 215 (lc (qf 150 (lc (qp 0 0) (lc (qp 1 0) ln))) ln) (sb 2 34 (lg 34) sn))) (λz=>(z.t.2.1,z.2.1)) (λx=>(((),()),(x.2,(((),(),()),()),x.1,()))))
def ai6:=(lc (qg 137) (lc (qp 0 0) (lc (qp 1 0) ln)))
def ajl:=(sb 0 128 (lg 128) (sb 1 215 (lc (qf 150 (lc (qp 0 0) (lc (qp 1 0) ln))) ln) sn))
def aiI(M:ax->au->af oX):aW->aW:=eY wJ 150 2 ai6 ajl d150 (λg=>M g.1.1 g.2.1)
def Zd(M:ax->au->af oX):Prop:=HY wJ 150 2 ai6 ajl d150 (λg=>M g.1.1 g.2.1)
def Pq{M:ax->au->af oX}(hM:Zd M){F:aW}(h:aV wJ F):aV wJ (aiI M F):=Kz hM ⟨_,func150,by kernel_rfl,by kernel_rfl⟩ (λ_=>by kernel_rfl) h
def ajz(M150:ax->au->af oX):aW:=(aiA (aum (ark (apF (Zt (aiI M150 (e92 (e81 (e80 cZ)))))))))
def Yz{M150}(h150:Zd M150):aV wJ (ajz M150):=(FH (ZF (acM (FK (Hl (Pq h150 (N4 (Lk (Hx aQ)))))))))
structure vF where
 t90:List ax
 (t91 t92:Int)
 b0:au
 (b2 b3 b4:aH)
def Ln:Td 2 vF:= .c [] [2,4,7,9,90,91,92] (.r 2 5 (ec 2 (qp 1 0) (ec 4 (qp 2 0) (ec 7 (qp 3 0) (ec 9 (qp 4 0) (ec 90 (ql 137) (ec 91 aL (ec 92 aL en))))))) (sb 0 128 (lg 128) (sb 1 215 (lc (qf 150 (lc (qp 0 0) (lc (qp 1 0) ln))) ln) (sb 2 34 (lg 34) (sb 3 34 (lg 34) (sb 4 34 (lg 34) sn))))) (λz=>⟨z.1.q.1,z.1.q.2.1,z.1.q.t.1,z.2.1,z.t.2.1,z.q.1,z.q.2.1⟩) (λx=>(((),(),(),(),x.t90,x.t91,x.t92,()),(x.b0,(((),(),()),()),x.b2,x.b3,x.b4,()))))
def FJ(M150:ax->au->af oX)(p:vF):af (af vF):=
 bif O (p.t92<p.t91)then if 0<=p.t92/\p.t92<p.t90.length then match m92 p.b3 p.t92 with|S=>S|I r1=>bif r1 then match M150 (ax.mk p.t90[p.t92.toNat]!.bt p.t90[p.t92.toNat]!.fN p.t90[p.t92.toNat]!.aq) p.b0 with|S=>S|I r2=>match sX p.b4 r2.fst with|S=>S|I r3=>I (I (vF.mk p.t90 p.t91 (i64.wrap (p.t92+1)) r2.snd p.b2 p.b3 r3))else I (I (vF.mk p.t90 p.t91 (i64.wrap (p.t92+1)) p.b0 p.b2 p.b3 p.b4))else S else I (S)
def E9(M150:ax->au->af oX):=bG (FJ M150)
def agG(M150:ax->au->af oX):An:=(noTwo (.two (noTwo (noTwo (noTwo (noTwo (noTwo (noTwo (noTwo (noTwo (.two (noTwo (noTwo (.two (noTwo (Ln.lp (E9 M150) .no)) .no))) .no))))))))) .no))
def aq1(M150:ax->au->af oX):dB wJ (ajz M150) 2 300 150 (agG M150):=bO (l:=[(bg f150 0,(Ln.lp (E9 M150) .no))]) func150 (bq (by kernel_rfl)) (by kernel_rfl) (aC (aO Ln) aG)
def aee(M150:ax->au->af oX)(a0:ax)(b0:au):af oX:=
 bif O (a0.bt=0)then I (Pj a0.fN,b0)else bif O (a0.bt=24)then if 0<=a0.fN/\a0.fN<b0.ai.length then I (b0.ai[a0.fN.toNat]!,b0)else S else bif O (a0.bt=23)then if(0:Int)<=(0:Int)/\(0:Int)<a0.aq.length then match M150 (ax.mk a0.aq[0]!.bt a0.aq[0]!.fN a0.aq[0]!.aq) b0 with|S=>S|I r4=>match Lp r4.fst with|S=>S|I r5=>bif bif r5.fst then G else J then if(0:Int)<=(1:Int)/\(1:Int)<a0.aq.length then match M150 (ax.mk a0.aq[1]!.bt a0.aq[1]!.fN a0.aq[1]!.aq) r4.snd with|S=>S|I r6=>I (r6)else S else bif bif r5.snd then G else J then if(0:Int)<=(2:Int)/\(2:Int)<a0.aq.length then match M150 (ax.mk a0.aq[2]!.bt a0.aq[2]!.fN a0.aq[2]!.aq) r4.snd with|S=>S|I r7=>I (r7)else S else if(0:Int)<=(1:Int)/\(1:Int)<a0.aq.length then match M150 (ax.mk a0.aq[1]!.bt a0.aq[1]!.fN a0.aq[1]!.aq) r4.snd with|S=>S|I r8=>if(0:Int)<=(2:Int)/\(2:Int)<a0.aq.length then match M150 (ax.mk a0.aq[2]!.bt a0.aq[2]!.fN a0.aq[2]!.aq) r8.snd with|S=>S|I r9=>match sX r8.fst r9.fst with|S=>S|I r10=>I (r10,r9.snd)else S else S else S else bif O (a0.bt=25)then if(0:Int)<=(0:Int)/\(0:Int)<a0.aq.length then match M150 (ax.mk a0.aq[0]!.bt a0.aq[0]!.fN a0.aq[0]!.aq) b0 with|S=>S|I r11=>match m81 r11.fst 0 (i64.wrap ((a0.aq.length:Int)-2))with|S=>S|I r12=>if(0:Int)<=(1:Int)/\(1:Int)<=a0.aq.length then match E9 M150 (vF.mk (yb 1 a0.aq) (↑(yb 1 a0.aq).length:Int) 0 r11.snd (aH.mk 0 0 0) r12.fst ZG)with|S=>S|I r13=>bif O (r13.t92<r13.t91)then if 0<=r13.t92/\r13.t92<r13.t90.length then match m92 r13.b3 r13.t92 with|S=>S|I r14=>bif r14 then match M150 (ax.mk r13.t90[r13.t92.toNat]!.bt r13.t90[r13.t92.toNat]!.fN r13.t90[r13.t92.toNat]!.aq) r13.b0 with|S=>S|I r15=>match sX r13.b4 r15.fst with|S=>S|I r16=>S else S else S else I (r13.b4,r13.b0)else S else S else bif O ((a0.aq.length:Int)=1)then if(0:Int)<=(0:Int)/\(0:Int)<a0.aq.length then match M150 (ax.mk a0.aq[0]!.bt a0.aq[0]!.fN a0.aq[0]!.aq) b0 with|S=>S|I r17=>match acV a0.bt r17.fst with|S=>S|I r18=>I (r18.fst,r17.snd)else S else if(0:Int)<=(0:Int)/\(0:Int)<a0.aq.length then match M150 (ax.mk a0.aq[0]!.bt a0.aq[0]!.fN a0.aq[0]!.aq) b0 with|S=>S|I r19=>if(0:Int)<=(1:Int)/\(1:Int)<a0.aq.length then match M150 (ax.mk a0.aq[1]!.bt a0.aq[1]!.fN a0.aq[1]!.aq) r19.snd with|S=>S|I r20=>match sF a0.bt r19.fst r20.fst with|S=>S|I r21=>I (r21.fst,r20.snd)else S else S
def ax4(M150:ax->au->af oX)(a0:ax)(b0:au):bQ wJ (ajz M150) 300 (agG M150) 150 (ai6.c (a0,(),(),())) (ajl.d (b0,(((),(),()),()),())) 2 d150.rd=aee M150 a0 b0:=by kernel_rfl
def age:Nat->(ax->au->af oX)
 |0=>(λ_ _=>S)
 |n+1=>(aee (age n))
def LP(n:Nat):ax->au->af oX:=(age n)
def Ja:∀n,Zd (LP n)
 |0=>λ_ _ h=>(by cases h)
 |n+1=>by
  have ih:=Ja n;have i150:=ih;exact(Ra (Yz i150) (aq1 (LP n)) (λ_=>by kernel_rfl) (λ_=>by kernel_rfl) (λ_=>by kernel_rfl) λg=>ax4 (LP n) g.1.1 g.2.1)
def Y0:ax->au->af oX:=λa0 b0=>lim (λn=>LP n a0 b0)
def aeA:Zd Y0:=λg b h=>by
 obtain⟨n,hn⟩:=cT (show lim (λn=>LP n g.1.1 g.2.1)=I b from h);exact(Ja n) g b hn
def ax9(F:aW):aW:=aiI Y0 F
def Y2{F:aW}(h:aV wJ F):aV wJ (ax9 F):=Pq aeA h
abbrev E91:=Int
def d91:Td 0 E91:= .c [] [2] (.r 0 0 (ec 2 aL en) sn (λz=>z.1.1) (λx=>((x,()),(()))))
def HX(a0:aH):af E91:=
 match rS a0 with|S=>S|I r1=>bif bif r1 then G else J then I (0)else match vm a0 with|S=>S|I r2=>I (r2)
def e91:=eL wJ 91 G (lc (qg 34) ln) d91 (λg=>HX g.1)
def ML:EO e91:=λh=>kL (an:= .no) func91 (sB (jK aQ)) aG h
def CP:EP e91:=λh=>kP h
def awq:aW:=cZ
abbrev ain:=Int
def d174:Td 0 ain:= .c [] [4] (.r 0 0 (ec 4 aL en) sn (λz=>z.1.1) (λx=>((x,()),(()))))
def auv:=(aM (aM ln))
def af0:An:= .no
def jG(a0:Int)(a1:Int):ain:=
 bif O (a1<a0)then a0 else a1
def awh(a0:Int)(a1:Int):bQ wJ (awq) 300 (af0) 174 (auv.c (a0,a1,())) [] 0 d174.rd=I (jG a0 a1):=by
 refine Eq.trans (b:=(
  bif O (a1<a0)then I (a0)else I (a1):af ain)) (by kernel_rfl) ?_
 simp only[jG,ct,cF]
def RZ:=eL wJ 174 G auv d174 (λg=>I (jG g.1 g.2.1))
def Fb:EO RZ:=λh=>kL (an:=af0) func174 aQ aG h (c:=λg=>awh g.1 g.2.1)
def ayt:aW:=cZ
abbrev aiX:=Int
def d175:Td 0 aiX:= .c [] [4] (.r 0 0 (ec 4 aL en) sn (λz=>z.1.1) (λx=>((x,()),(()))))
def aox:=(aM (aM ln))
def ah4:An:= .no
def iV(a0:Int)(a1:Int):aiX:=
 bif O (a0<a1)then a0 else a1
def axS(a0:Int)(a1:Int):bQ wJ (ayt) 300 (ah4) 175 (aox.c (a0,a1,())) [] 0 d175.rd=I (iV a0 a1):=by
 refine Eq.trans (b:=(
  bif O (a0<a1)then I (a0)else I (a1):af aiX)) (by kernel_rfl) ?_
 simp only[iV,ct,cF]
def aeO:=eL wJ 175 G aox d175 (λg=>I (iV g.1 g.2.1))
def HK:EO aeO:=λh=>kL (an:=ah4) func175 aQ aG h (c:=λg=>axS g.1 g.2.1)
abbrev Ld:=Int×Int×Int
def d90:Td 0 Ld:= .c [] [2,3,4] (.r 0 0 (ec 2 aL (ec 3 aL (ec 4 aL en))) sn (λz=>(z.1.1,z.1.2.1,z.1.t.1)) (λx=>((x.1,x.2.1,x.t,()),(()))))
def A90:=(lc (ql 166) ln)
def x90(M:(aa ay)->af Ld):aW->aW:=eL wJ 90 G A90 d90 (λg=>M g.1)
def H90(M:(aa ay)->af Ld):Prop:=HL wJ 90 A90 d90 (λg=>M g.1)
def Wt{M:(aa ay)->af Ld}(hM:H90 M){F:aW}(h:aV wJ F):aV wJ (x90 M F):=dU (sc:=jR) cy hM ⟨_,func90,by kernel_rfl,by kernel_rfl⟩ (λ_=>by kernel_rfl) (λ_=>by kernel_rfl) h
def F90(M90:(aa ay)->af Ld):aW:=(aeO (RZ (x90 M90 cZ)))
def ak4{M90}(h90:H90 M90):aV wJ (F90 M90):=(HK (Fb (Wt h90 aQ)))
structure wO where
 t0:List ay
 (t5 t6 t7 t8:Int)
def Wk:Td 0 wO:= .c [] [0,5,6,7,8] (.r 0 0 (ec 0 (ql 166) (ec 5 aL (ec 6 aL (ec 7 aL (ec 8 aL en))))) sn (λz=>⟨z.1.1,z.1.2.1,z.1.t.1,z.1.t.2.1,z.1.q.1⟩) (λx=>((x.t0,x.t5,x.t6,x.t7,x.t8,()),(()))))
def PM(M90:(aa ay)->af Ld)(p:wO):af (af wO):=
 bif O (p.t8<p.t0.length)then if 0<=p.t8/\p.t8<p.t0.length then match M90 p.t0[p.t8.toNat]!.aK with|S=>S|I r1=>match M90 p.t0[p.t8.toNat]!.aN with|S=>S|I r2=>bif O (p.t0[p.t8.toNat]!.bX=4)then bif O (p.t0[p.t8.toNat]!.bX=1)then I (I (wO.mk p.t0 (iV (i64.wrap (p.t5+i64.wrap (1+i64.wrap (p.t0[p.t8.toNat]!.fN*i64.wrap (1+r1.fst))))) 4097) (iV (i64.wrap (p.t6+1)) 9) (iV (i64.wrap (p.t7+i64.wrap (p.t0[p.t8.toNat]!.fN*i64.wrap (p.t0[p.t8.toNat]!.aR+r1.snd.snd)))) 67108865) (i64.wrap (p.t8+1))))else I (I (wO.mk p.t0 (iV (i64.wrap (p.t5+i64.wrap (1+i64.wrap (p.t0[p.t8.toNat]!.fN*i64.wrap (1+r1.fst))))) 4097) (iV (i64.wrap (p.t6+i64.wrap (p.t0[p.t8.toNat]!.fN*r1.snd.fst))) 9) (iV (i64.wrap (p.t7+i64.wrap (p.t0[p.t8.toNat]!.fN*i64.wrap (p.t0[p.t8.toNat]!.aR+r1.snd.snd)))) 67108865) (i64.wrap (p.t8+1))))else bif O (p.t0[p.t8.toNat]!.bX=1)then I (I (wO.mk p.t0 (iV (i64.wrap (p.t5+i64.wrap (1+jG r1.fst r2.fst))) 4097) (iV (i64.wrap (p.t6+1)) 9) (iV (i64.wrap (p.t7+i64.wrap (p.t0[p.t8.toNat]!.aR+jG r1.snd.snd r2.snd.snd))) 67108865) (i64.wrap (p.t8+1))))else I (I (wO.mk p.t0 (iV (i64.wrap (p.t5+i64.wrap (1+jG r1.fst r2.fst))) 4097) (iV (i64.wrap (p.t6+jG r1.snd.fst r2.snd.fst)) 9) (iV (i64.wrap (p.t7+i64.wrap (p.t0[p.t8.toNat]!.aR+jG r1.snd.snd r2.snd.snd))) 67108865) (i64.wrap (p.t8+1))))else S else I (S)
def PC(M90:(aa ay)->af Ld):=bG (PM M90)
def asG(M90:(aa ay)->af Ld):An:=(noTwo (noTwo (.two (noTwo (Wk.lp (PC M90) .no)) .no)))
def awL(M90:(aa ay)->af Ld):dB wJ (F90 M90) 0 300 90 (asG M90):=bO (l:=[(bg f90 0,(Wk.lp (PC M90) .no))]) func90 (bq (by kernel_rfl)) (by kernel_rfl) (aC (aO Wk) aG)
def s90(M90:(aa ay)->af Ld)(a0:aa ay):af Ld:=
 match PC M90 (wO.mk a0 0 0 0 0)with|S=>S|I r3=>bif O (r3.t8<r3.t0.length)then if 0<=r3.t8/\r3.t8<r3.t0.length then match M90 r3.t0[r3.t8.toNat]!.aK with|S=>S|I r4=>match M90 r3.t0[r3.t8.toNat]!.aN with|S=>S|I r5=>bif O (r3.t0[r3.t8.toNat]!.bX=4)then bif O (r3.t0[r3.t8.toNat]!.bX=1)then S else S else bif O (r3.t0[r3.t8.toNat]!.bX=1)then S else S else S else I (r3.t5,r3.t6,r3.t7)
def c90(M90:(aa ay)->af Ld)(a0:aa ay):bQ wJ (F90 M90) 300 (asG M90) 90 (A90.c (a0,())) [] 0 d90.rd=s90 M90 a0:=by kernel_rfl
def aoU:Nat->((aa ay)->af Ld)
 |0=>(λ_=>S)
 |n+1=>(s90 (aoU n))
def m90(n:Nat):(aa ay)->af Ld:=(aoU n)
def QL:∀n,H90 (m90 n)
 |0=>λ_ _ h=>(by cases h)
 |n+1=>by
  have ih:=QL n;have i90:=ih;exact(cS (ak4 i90) (awL (m90 n)) (λ_=>by kernel_rfl) (λ_=>by kernel_rfl) λg=>c90 (m90 n) g.1)
def r90:(aa ay)->af Ld:=λa0=>lim (λn=>m90 n a0)
def aj6:H90 r90:=λg b h=>by
 obtain⟨n,hn⟩:=cT (show lim (λn=>m90 n g.1)=I b from h);exact(QL n) g b hn
def e90(F:aW):aW:=x90 r90 F
def ai9{F:aW}(h:aV wJ F):aV wJ (e90 F):=Wt aj6 h
abbrev oI:=Int
def d216:Td 0 oI:= .c [] [2] (.r 0 0 (ec 2 aL en) sn (λz=>z.1.1) (λx=>((x,()),(()))))
def amS:=(lc (qg 137) ln)
def acg(M:ax->af oI):aW->aW:=eL wJ 216 G amS d216 (λg=>M g.1)
def SH{M:ax->af oI}{F:aW}{f:Nat}(h:bC F f):bC (acg M F) f:=gM h (λ_=>by kernel_rfl)
def aey(M:ax->af oI):Prop:=HL wJ 216 amS d216 (λg=>M g.1)
def Q3{M:ax->af oI}(hM:aey M){F:aW}(h:aV wJ F):aV wJ (acg M F):=dU (sc:=jR) cy hM ⟨_,func216,by kernel_rfl,by kernel_rfl⟩ (λ_=>by kernel_rfl) (λ_=>by kernel_rfl) h
def akz(M216:ax->af oI):aW:=(acg M216 cZ)
def abm{M216}(h216:aey M216):aV wJ (akz M216):=(Q3 h216 aQ)
structure Dh where
 (t3 t4:Int)
 b0:ax
def Mq:Td 0 Dh:= .c [] [1,3,4] (.r 0 1 (ec 1 (qp 0 0) (ec 3 aL (ec 4 aL en))) (sb 0 137 (lg 137) sn) (λz=>⟨z.1.2.1,z.1.t.1,z.2.1⟩) (λx=>(((),x.t3,x.t4,()),(x.b0,()))))
def FZ(M216:ax->af oI)(p:Dh):af (af Dh):=
 bif O (p.t4<p.b0.aq.length)then if 0<=p.t4/\p.t4<p.b0.aq.length then match M216 (ax.mk p.b0.aq[p.t4.toNat]!.bt p.b0.aq[p.t4.toNat]!.fN p.b0.aq[p.t4.toNat]!.aq)with|S=>S|I r1=>I (I (Dh.mk (i64.wrap (p.t3+r1)) (i64.wrap (p.t4+1)) (ax.mk p.b0.bt p.b0.fN p.b0.aq)))else S else I (S)
def Gx(M216:ax->af oI):=bG (FZ M216)
def agt(M216:ax->af oI):An:=(noTwo (noTwo (.two (noTwo (Mq.lp (Gx M216) .no)) .no)))
def aqL(M216:ax->af oI):dB wJ (akz M216) 0 300 216 (agt M216):=bO (l:=[(bg f216 0,(Mq.lp (Gx M216) .no))]) func216 (bq (by kernel_rfl)) (by kernel_rfl) (aC (aO Mq) aG)
def YK(M216:ax->af oI)(a0:ax):af oI:=
 match Gx M216 (Dh.mk 1 0 (ax.mk a0.bt a0.fN a0.aq))with|S=>S|I r2=>bif O (r2.t4<r2.b0.aq.length)then if 0<=r2.t4/\r2.t4<r2.b0.aq.length then match M216 (ax.mk r2.b0.aq[r2.t4.toNat]!.bt r2.b0.aq[r2.t4.toNat]!.fN r2.b0.aq[r2.t4.toNat]!.aq)with|S=>S|I r3=>S else S else I (r2.t3)
def avw(M216:ax->af oI)(a0:ax):bQ wJ (akz M216) 300 (agt M216) 216 (amS.c (a0,())) [] 0 d216.rd=YK M216 a0:=by kernel_rfl
def afM:Nat->(ax->af oI)
 |0=>(λ_=>S)
 |n+1=>(YK (afM n))
def MH(n:Nat):ax->af oI:=(afM n)
def J9:∀n,aey (MH n)
 |0=>λ_ _ h=>(by cases h)
 |n+1=>by
  have ih:=J9 n;have i216:=ih;exact(cS (abm i216) (aqL (MH n)) (λ_=>by kernel_rfl) (λ_=>by kernel_rfl) λg=>avw (MH n) g.1)
def M1:ax->af oI:=λa0=>lim (λn=>MH n a0)
def abI:aey M1:=λg b h=>by
 obtain⟨n,hn⟩:=cT (show lim (λn=>MH n g.1)=I b from h);exact(J9 n) g b hn
def aev(F:aW):aW:=acg M1 F
def Oy{F:aW}(h:aV wJ F):aV wJ (aev F):=Q3 abI h
def EL{F:aW}{f:Nat}(h:bC F f):bC (aev F) f:=SH h
abbrev ox:=Int
def d215:Td 0 ox:= .c [] [2] (.r 0 0 (ec 2 aL en) sn (λz=>z.1.1) (λx=>((x,()),(()))))
def alY:=(lc (ql 166) ln)
def ac7(M:(aa ay)->af ox):aW->aW:=eL wJ 215 G alY d215 (λg=>M g.1)
def Sh{M:(aa ay)->af ox}{F:aW}{f:Nat}(h:bC F f):bC (ac7 M F) f:=gM h (λ_=>by kernel_rfl)
def YV(M:(aa ay)->af ox):Prop:=HL wJ 215 alY d215 (λg=>M g.1)
def PV{M:(aa ay)->af ox}(hM:YV M){F:aW}(h:aV wJ F):aV wJ (ac7 M F):=dU (sc:=jR) cy hM ⟨_,func215,by kernel_rfl,by kernel_rfl⟩ (λ_=>by kernel_rfl) (λ_=>by kernel_rfl) h
def ajh(M215:(aa ay)->af ox):aW:=(aev (ac7 M215 cZ))
def abG{M215}(h215:YV M215):aV wJ (ajh M215):=(Oy (PV h215 aQ))
structure BK where
 t0:List ay
 (t3 t4:Int)
def MV:Td 0 BK:= .c [] [0,3,4] (.r 0 0 (ec 0 (ql 166) (ec 3 aL (ec 4 aL en))) sn (λz=>⟨z.1.1,z.1.2.1,z.1.t.1⟩) (λx=>((x.t0,x.t3,x.t4,()),(()))))
def FF(M215:(aa ay)->af ox)(p:BK):af (af BK):=
 bif O (p.t4<p.t0.length)then if 0<=p.t4/\p.t4<p.t0.length then match M1 (ax.mk p.t0[p.t4.toNat]!.aB.bt p.t0[p.t4.toNat]!.aB.fN p.t0[p.t4.toNat]!.aB.aq)with|S=>S|I r1=>if 0<=p.t4/\p.t4<p.t0.length then match M215 p.t0[p.t4.toNat]!.aK with|S=>S|I r2=>if 0<=p.t4/\p.t4<p.t0.length then match M215 p.t0[p.t4.toNat]!.aN with|S=>S|I r3=>I (I (BK.mk p.t0 (i64.wrap (i64.wrap (i64.wrap (i64.wrap (p.t3+1)+r1)+r2)+r3)) (i64.wrap (p.t4+1))))else S else S else S else I (S)
def FM(M215:(aa ay)->af ox):=bG (FF M215)
def ahW(M215:(aa ay)->af ox):An:=(noTwo (noTwo (.two (noTwo (MV.lp (FM M215) .no)) .no)))
def atJ(M215:(aa ay)->af ox):dB wJ (ajh M215) 0 300 215 (ahW M215):=bO (l:=[(bg f215 0,(MV.lp (FM M215) .no))]) func215 (bq (by kernel_rfl)) (by kernel_rfl) (aC (aO MV) aG)
def Zr(M215:(aa ay)->af ox)(a0:aa ay):af ox:=
 match FM M215 (BK.mk a0 0 0)with|S=>S|I r4=>bif O (r4.t4<r4.t0.length)then if 0<=r4.t4/\r4.t4<r4.t0.length then match M1 (ax.mk r4.t0[r4.t4.toNat]!.aB.bt r4.t0[r4.t4.toNat]!.aB.fN r4.t0[r4.t4.toNat]!.aB.aq)with|S=>S|I r5=>if 0<=r4.t4/\r4.t4<r4.t0.length then match M215 r4.t0[r4.t4.toNat]!.aK with|S=>S|I r6=>if 0<=r4.t4/\r4.t4<r4.t0.length then match M215 r4.t0[r4.t4.toNat]!.aN with|S=>S|I r7=>S else S else S else S else I (r4.t3)
def ayC(M215:(aa ay)->af ox)(a0:aa ay):bQ wJ (ajh M215) 300 (ahW M215) 215 (alY.c (a0,())) [] 0 d215.rd=Zr M215 a0:=by kernel_rfl
def afK:Nat->((aa ay)->af ox)
 |0=>(λ_=>S)
 |n+1=>(Zr (afK n))
def MG(n:Nat):(aa ay)->af ox:=(afK n)
def JZ:∀n,YV (MG n)
 |0=>λ_ _ h=>(by cases h)
 |n+1=>by
  have ih:=JZ n;have i215:=ih;exact(cS (abG i215) (atJ (MG n)) (λ_=>by kernel_rfl) (λ_=>by kernel_rfl) λg=>ayC (MG n) g.1)
def adH:(aa ay)->af ox:=λa0=>lim (λn=>MG n a0)
def aeR:YV adH:=λg b h=>by
 obtain⟨n,hn⟩:=cT (show lim (λn=>MG n g.1)=I b from h);exact(JZ n) g b hn
def aj5(F:aW):aW:=ac7 adH F
def Z7{F:aW}(h:aV wJ F):aV wJ (aj5 F):=PV aeR h
def El{F:aW}{f:Nat}(h:bC F f):bC (aj5 F) f:=Sh h
abbrev nZ:=Int
def d217:Td 0 nZ:= .c [] [2] (.r 0 0 (ec 2 aL en) sn (λz=>z.1.1) (λx=>((x,()),(()))))
def ail:=(lc (qg 137) ln)
def Y7(M:ax->af nZ):aW->aW:=eL wJ 217 G ail d217 (λg=>M g.1)
def Te{M:ax->af nZ}{F:aW}{f:Nat}(h:bC F f):bC (Y7 M F) f:=gM h (λ_=>by kernel_rfl)
def aaZ(M:ax->af nZ):Prop:=HL wJ 217 ail d217 (λg=>M g.1)
def O3{M:ax->af nZ}(hM:aaZ M){F:aW}(h:aV wJ F):aV wJ (Y7 M F):=dU (sc:=jR) cy hM ⟨_,func217,by kernel_rfl,by kernel_rfl⟩ (λ_=>by kernel_rfl) (λ_=>by kernel_rfl) h
def aim(M217:ax->af nZ):aW:=(Y7 M217 cZ)
def abL{M217}(h217:aaZ M217):aV wJ (aim M217):=(O3 h217 aQ)
structure tZ where
 (t3 t4:Int)
 b0:ax
def NA:Td 0 tZ:= .c [] [1,3,4] (.r 0 1 (ec 1 (qp 0 0) (ec 3 aL (ec 4 aL en))) (sb 0 137 (lg 137) sn) (λz=>⟨z.1.2.1,z.1.t.1,z.2.1⟩) (λx=>(((),x.t3,x.t4,()),(x.b0,()))))
def HH(M217:ax->af nZ)(p:tZ):af (af tZ):=
 bif O (p.t4<p.b0.aq.length)then if 0<=p.t4/\p.t4<p.b0.aq.length then match M217 (ax.mk p.b0.aq[p.t4.toNat]!.bt p.b0.aq[p.t4.toNat]!.fN p.b0.aq[p.t4.toNat]!.aq)with|S=>S|I r1=>bif O (p.t3<r1)then I (I (tZ.mk r1 (i64.wrap (p.t4+1)) (ax.mk p.b0.bt p.b0.fN p.b0.aq)))else I (I (tZ.mk p.t3 (i64.wrap (p.t4+1)) (ax.mk p.b0.bt p.b0.fN p.b0.aq)))else S else I (S)
def FL(M217:ax->af nZ):=bG (HH M217)
def agx(M217:ax->af nZ):An:=(noTwo (noTwo (.two (noTwo (NA.lp (FL M217) .no)) .no)))
def aqn(M217:ax->af nZ):dB wJ (aim M217) 0 300 217 (agx M217):=bO (l:=[(bg f217 0,(NA.lp (FL M217) .no))]) func217 (bq (by kernel_rfl)) (by kernel_rfl) (aC (aO NA) aG)
def afq(M217:ax->af nZ)(a0:ax):af nZ:=
 match FL M217 (tZ.mk 0 0 (ax.mk a0.bt a0.fN a0.aq))with|S=>S|I r2=>bif O (r2.t4<r2.b0.aq.length)then if 0<=r2.t4/\r2.t4<r2.b0.aq.length then match M217 (ax.mk r2.b0.aq[r2.t4.toNat]!.bt r2.b0.aq[r2.t4.toNat]!.fN r2.b0.aq[r2.t4.toNat]!.aq)with|S=>S|I r3=>bif O (r2.t3<r3)then S else S else S else I (i64.wrap (r2.t3+1))
def awO(M217:ax->af nZ)(a0:ax):bQ wJ (aim M217) 300 (agx M217) 217 (ail.c (a0,())) [] 0 d217.rd=afq M217 a0:=by kernel_rfl
def ahb:Nat->(ax->af nZ)
 |0=>(λ_=>S)
 |n+1=>(afq (ahb n))
def MS(n:Nat):ax->af nZ:=(ahb n)
def JL:∀n,aaZ (MS n)
 |0=>λ_ _ h=>(by cases h)
 |n+1=>by
  have ih:=JL n;have i217:=ih;exact(cS (abL i217) (aqn (MS n)) (λ_=>by kernel_rfl) (λ_=>by kernel_rfl) λg=>awO (MS n) g.1)
def IB:ax->af nZ:=λa0=>lim (λn=>MS n a0)
def Yw:aaZ IB:=λg b h=>by
 obtain⟨n,hn⟩:=cT (show lim (λn=>MS n g.1)=I b from h);exact(JL n) g b hn
def ZN(F:aW):aW:=Y7 IB F
def O1{F:aW}(h:aV wJ F):aV wJ (ZN F):=O3 Yw h
def pN{F:aW}{f:Nat}(h:bC F f):bC (ZN F) f:=Te h
abbrev oG:=Int
def d218:Td 0 oG:= .c [] [2] (.r 0 0 (ec 2 aL en) sn (λz=>z.1.1) (λx=>((x,()),(()))))
def ajS:=(lc (ql 166) ln)
def aco(M:(aa ay)->af oG):aW->aW:=eL wJ 218 G ajS d218 (λg=>M g.1)
def Sj{M:(aa ay)->af oG}{F:aW}{f:Nat}(h:bC F f):bC (aco M F) f:=gM h (λ_=>by kernel_rfl)
def afe(M:(aa ay)->af oG):Prop:=HL wJ 218 ajS d218 (λg=>M g.1)
def QA{M:(aa ay)->af oG}(hM:afe M){F:aW}(h:aV wJ F):aV wJ (aco M F):=dU (sc:=jR) cy hM ⟨_,func218,by kernel_rfl,by kernel_rfl⟩ (λ_=>by kernel_rfl) (λ_=>by kernel_rfl) h
def aiS(M218:(aa ay)->af oG):aW:=(aco M218 cZ)
def abz{M218}(h218:afe M218):aV wJ (aiS M218):=(QA h218 aQ)
structure oU where
 t0:List ay
 (t3 t4:Int)
def Od:Td 0 oU:= .c [] [0,3,4] (.r 0 0 (ec 0 (ql 166) (ec 3 aL (ec 4 aL en))) sn (λz=>⟨z.1.1,z.1.2.1,z.1.t.1⟩) (λx=>((x.t0,x.t3,x.t4,()),(()))))
def GR(M218:(aa ay)->af oG)(p:oU):af (af oU):=
 bif O (p.t4<p.t0.length)then if 0<=p.t4/\p.t4<p.t0.length then match M218 p.t0[p.t4.toNat]!.aK with|S=>S|I r1=>if 0<=p.t4/\p.t4<p.t0.length then match M218 p.t0[p.t4.toNat]!.aN with|S=>S|I r2=>bif O (p.t3<i64.wrap (r1+1))then bif O (i64.wrap (r1+1)<i64.wrap (r2+1))then I (I (oU.mk p.t0 (i64.wrap (r2+1)) (i64.wrap (p.t4+1))))else I (I (oU.mk p.t0 (i64.wrap (r1+1)) (i64.wrap (p.t4+1))))else bif O (p.t3<i64.wrap (r2+1))then I (I (oU.mk p.t0 (i64.wrap (r2+1)) (i64.wrap (p.t4+1))))else I (I (oU.mk p.t0 p.t3 (i64.wrap (p.t4+1))))else S else S else I (S)
def GI(M218:(aa ay)->af oG):=bG (GR M218)
def agS(M218:(aa ay)->af oG):An:=(noTwo (noTwo (.two (noTwo (Od.lp (GI M218) .no)) .no)))
def apm(M218:(aa ay)->af oG):dB wJ (aiS M218) 0 300 218 (agS M218):=bO (l:=[(bg f218 0,(Od.lp (GI M218) .no))]) func218 (bq (by kernel_rfl)) (by kernel_rfl) (aC (aO Od) aG)
def ae6(M218:(aa ay)->af oG)(a0:aa ay):af oG:=
 match GI M218 (oU.mk a0 0 0)with|S=>S|I r3=>bif O (r3.t4<r3.t0.length)then if 0<=r3.t4/\r3.t4<r3.t0.length then match M218 r3.t0[r3.t4.toNat]!.aK with|S=>S|I r4=>if 0<=r3.t4/\r3.t4<r3.t0.length then match M218 r3.t0[r3.t4.toNat]!.aN with|S=>S|I r5=>bif O (r3.t3<i64.wrap (r4+1))then bif O (i64.wrap (r4+1)<i64.wrap (r5+1))then S else S else bif O (r3.t3<i64.wrap (r5+1))then S else S else S else S else I (r3.t3)
def axe(M218:(aa ay)->af oG)(a0:aa ay):bQ wJ (aiS M218) 300 (agS M218) 218 (ajS.c (a0,())) [] 0 d218.rd=ae6 M218 a0:=by kernel_rfl
def ahk:Nat->((aa ay)->af oG)
 |0=>(λ_=>S)
 |n+1=>(ae6 (ahk n))
def Oa(n:Nat):(aa ay)->af oG:=(ahk n)
def Ks:∀n,afe (Oa n)
 |0=>λ_ _ h=>(by cases h)
 |n+1=>by
  have ih:=Ks n;have i218:=ih;exact(cS (abz i218) (apm (Oa n)) (λ_=>by kernel_rfl) (λ_=>by kernel_rfl) λg=>axe (Oa n) g.1)
def ac3:(aa ay)->af oG:=λa0=>lim (λn=>Oa n a0)
def aat:afe ac3:=λg b h=>by
 obtain⟨n,hn⟩:=cT (show lim (λn=>Oa n g.1)=I b from h);exact(Ks n) g b hn
def al7(F:aW):aW:=aco ac3 F
def ab6{F:aW}(h:aV wJ F):aV wJ (al7 F):=QA aat h
def Es{F:aW}{f:Nat}(h:bC F f):bC (al7 F) f:=Sj h
abbrev nD:=Bool
def d219:Td 0 nD:= .c [] [2] (.r 0 0 (ec 2 qb en) sn (λz=>z.1.1) (λx=>((x,()),(()))))
def alx:=(lc (ql 166) ln)
def ae9(M:(aa ay)->af nD):aW->aW:=eL wJ 219 G alx d219 (λg=>M g.1)
def ug{M:(aa ay)->af nD}{F:aW}{f:Nat}(h:bC F f):bC (ae9 M F) f:=gM h (λ_=>by kernel_rfl)
def afA(M:(aa ay)->af nD):Prop:=HL wJ 219 alx d219 (λg=>M g.1)
def P5{M:(aa ay)->af nD}(hM:afA M){F:aW}(h:aV wJ F):aV wJ (ae9 M F):=dU (sc:=jR) cy hM ⟨_,func219,by kernel_rfl,by kernel_rfl⟩ (λ_=>by kernel_rfl) (λ_=>by kernel_rfl) h
def acN(M219:(aa ay)->af nD):aW:=(ae9 M219 (ZN cZ))
def adY{M219}(h219:afA M219):aV wJ (acN M219):=(P5 h219 (O1 aQ))
structure BX where
 t0:List ay
 t3:Int
def Li:Td 0 BX:= .c [] [0,3] (.r 0 0 (ec 0 (ql 166) (ec 3 aL en)) sn (λz=>⟨z.1.1,z.1.2.1⟩) (λx=>((x.t0,x.t3,()),(()))))
def Gj(M219:(aa ay)->af nD)(p:BX):af (af BX):=
 bif O (p.t3<p.t0.length)then match if 0<=p.t3/\p.t3<p.t0.length then match IB (ax.mk p.t0[p.t3.toNat]!.aB.bt p.t0[p.t3.toNat]!.aB.fN p.t0[p.t3.toNat]!.aB.aq)with|S=>S|I r1=>bif O (12<r1)then I J else if 0<=p.t3/\p.t3<p.t0.length then match M219 p.t0[p.t3.toNat]!.aK with|S=>S|I r2=>bif r2 then I J else if 0<=p.t3/\p.t3<p.t0.length then match M219 p.t0[p.t3.toNat]!.aN with|S=>S|I r3=>I (r3)else S else S else S with|S=>S|I r4=>bif r4 then I (S)else I (I (BX.mk p.t0 (i64.wrap (p.t3+1))))else I (S)
def Vi(M219:(aa ay)->af nD):An:=(noTwo (.two (.two (.rb [217,219] 32) .no) .no))
def FV(M219:(aa ay)->af nD):=bG (Gj M219)
def agb(M219:(aa ay)->af nD):An:=(noTwo (.two (noTwo (Li.lp (FV M219) (Vi M219))) .no))
def arH{M219}:∀f∈([217,219]:aa Nat),bC (acN M219) f:=(aC (ug (pN bH)) (aC (ug (pN bH)) aG))
def arh(M219:(aa ay)->af nD):dB wJ (acN M219) 0 300 219 (agb M219):=bO (l:=[(bg f219 0,(Li.lp (FV M219) (Vi M219))),(.skip,(.rb [217,219] 32))]) func219 (bq (by kernel_rfl)) (by kernel_rfl) (aC (aO Li) (aC arH aG))
def abq(M219:(aa ay)->af nD)(a0:aa ay):af nD:=
 match FV M219 (BX.mk a0 0)with|S=>S|I r5=>bif O (r5.t3<r5.t0.length)then match if 0<=r5.t3/\r5.t3<r5.t0.length then match IB (ax.mk r5.t0[r5.t3.toNat]!.aB.bt r5.t0[r5.t3.toNat]!.aB.fN r5.t0[r5.t3.toNat]!.aB.aq)with|S=>S|I r6=>bif O (12<r6)then I J else if 0<=r5.t3/\r5.t3<r5.t0.length then match M219 r5.t0[r5.t3.toNat]!.aK with|S=>S|I r7=>bif r7 then I J else if 0<=r5.t3/\r5.t3<r5.t0.length then match M219 r5.t0[r5.t3.toNat]!.aN with|S=>S|I r8=>I (r8)else S else S else S with|S=>S|I r9=>bif r9 then I J else S else I G
def avN(M219:(aa ay)->af nD)(a0:aa ay):bQ wJ (acN M219) 300 (agb M219) 219 (alx.c (a0,())) [] 0 d219.rd=abq M219 a0:=by kernel_rfl
def ahD:Nat->((aa ay)->af nD)
 |0=>(λ_=>S)
 |n+1=>(abq (ahD n))
def Le(n:Nat):(aa ay)->af nD:=(ahD n)
def Ih:∀n,afA (Le n)
 |0=>λ_ _ h=>(by cases h)
 |n+1=>by
  have ih:=Ih n;have i219:=ih;exact(cS (adY i219) (arh (Le n)) (λ_=>by kernel_rfl) (λ_=>by kernel_rfl) λg=>avN (Le n) g.1)
def adR:(aa ay)->af nD:=λa0=>lim (λn=>Le n a0)
def Zy:afA adR:=λg b h=>by
 obtain⟨n,hn⟩:=cT (show lim (λn=>Le n g.1)=I b from h);exact(Ih n) g b hn
def amQ(F:aW):aW:=ae9 adR F
def afE{F:aW}(h:aV wJ F):aV wJ (amQ F):=P5 Zy h
def EG{F:aW}{f:Nat}(h:bC F f):bC (amQ F) f:=ug h
def aqW:aW:=(amQ (al7 (ZN (aev (aj5 cZ)))))
structure AZ where
 (t3 t4:Int)
 b0:aP
def LZ:Td 0 AZ:= .c [] [1,3,4] (.r 0 1 (ec 1 (qp 0 0) (ec 3 aL (ec 4 aL en))) (sb 0 26 (lg 26) sn) (λz=>⟨z.1.2.1,z.1.t.1,z.2.1⟩) (λx=>(((),x.t3,x.t4,()),(x.b0,()))))
def BZ(p:AZ):af (af AZ):=
 bif O (p.t4<p.b0.ak.length)then if 0<=p.t4/\p.t4<p.b0.ak.length then match M1 (ax.mk p.b0.ak[p.t4.toNat]!.aB.bt p.b0.ak[p.t4.toNat]!.aB.fN p.b0.ak[p.t4.toNat]!.aB.aq)with|S=>S|I r1=>if 0<=p.t4/\p.t4<p.b0.ak.length then match IB (ax.mk p.b0.ak[p.t4.toNat]!.aB.bt p.b0.ak[p.t4.toNat]!.aB.fN p.b0.ak[p.t4.toNat]!.aB.aq)with|S=>S|I r2=>bif O (12<r2)then I (S)else I (I (AZ.mk (i64.wrap (p.t3+r1)) (i64.wrap (p.t4+1)) p.b0))else S else S else I (S)
def FT:=bG (BZ)
abbrev apP:=Bool
def d138:Td 0 apP:= .c [] [2] (.r 0 0 (ec 2 qb en) sn (λz=>z.1.1) (λx=>((x,()),(()))))
def ahw:∀f∈([218,219]:aa Nat),bC (aqW) f:=(aC (EG (Es (pN (EL (El bH))))) (aC (EG (Es (pN (EL (El bH))))) aG))
def ZO(a0:aP):af apP:=
 match bif O (64<(a0.ai.length:Int))then I J else I (O (8<(a0.ak.length:Int)))with|S=>S|I r3=>bif r3 then I G else match adH a0.bK with|S=>S|I r4=>match FT (AZ.mk r4 0 a0)with|S=>S|I r5=>bif O (r5.t4<r5.b0.ak.length)then if 0<=r5.t4/\r5.t4<r5.b0.ak.length then match M1 (ax.mk r5.b0.ak[r5.t4.toNat]!.aB.bt r5.b0.ak[r5.t4.toNat]!.aB.fN r5.b0.ak[r5.t4.toNat]!.aB.aq)with|S=>S|I r6=>if 0<=r5.t4/\r5.t4<r5.b0.ak.length then match IB (ax.mk r5.b0.ak[r5.t4.toNat]!.aB.bt r5.b0.ak[r5.t4.toNat]!.aB.fN r5.b0.ak[r5.t4.toNat]!.aB.aq)with|S=>S|I r7=>bif O (12<r7)then I G else S else S else S else match bif O (r5.t3<=1024)then match ac3 r5.b0.bK with|S=>S|I r8=>bif O (r8<=12)then match adR r5.b0.bK with|S=>S|I r9=>I (bif r9 then G else J)else I G else I G with|S=>S|I r10=>I (r10)
def apv:=eL wJ 138 G (lc (qg 26) ln) d138 (λg=>ZO g.1)
def ZZ:EO apv:=λh=>kL (F:=aqW) (an:=(noTwo (.two (.two (.rb [218,219] 14) .no) (noTwo (.two (noTwo (LZ.lp FT .no)) (.two (.rb [218,219] 2) .no)))))) (l:=[(.skip,(.rb [218,219] 14)),(bg f138 0,(LZ.lp FT .no)),(.skip,(.rb [218,219] 2))]) func138 (afE (ab6 (O1 (Oy (Z7 aQ))))) (aC ahw (aC (aO LZ) (aC ahw aG))) h
def aon:aW:=cZ
structure AT where
 t0:ByteArray
 t3:Int
def M9:Td 0 AT:= .c [] [0,3] (.r 0 0 (ec 0 qs (ec 3 aL en)) sn (λz=>⟨z.1.1,z.1.2.1⟩) (λx=>((x.t0,x.t3,()),(()))))
def Fz(p:AT):af (af AT):=
 bif O (p.t3<p.t0.size)then if 0<=p.t3/\p.t3<p.t0.size then match bif O (97<=cg p.t0 p.t3.toNat)then I (O (cg p.t0 p.t3.toNat<=122))else I G with|S=>S|I r1=>match bif O (48<=cg p.t0 p.t3.toNat)then bif O (cg p.t0 p.t3.toNat<=57)then I J else bif O (cg p.t0 p.t3.toNat=46)then I J else I (O (cg p.t0 p.t3.toNat=95))else bif O (cg p.t0 p.t3.toNat=46)then I J else I (O (cg p.t0 p.t3.toNat=95))with|S=>S|I r2=>match bif bif r1 then G else J then bif O (p.t3=0)then I J else I (bif r2 then G else J)else I G with|S=>S|I r3=>bif r3 then I (S)else I (I (AT.mk p.t0 (i64.wrap (p.t3+1))))else S else I (S)
def Xm:An:=(noTwo (.two (noTwo (.two (.rb [] 5) (.two (.rb [] 6) (.two (.rb [] 53) .no)))) .no))
def HJ:=bG (Fz)
abbrev ao3:=Bool
def d140:Td 0 ao3:= .c [] [2] (.r 0 0 (ec 2 qb en) sn (λz=>z.1.1) (λx=>((x,()),(()))))
def Ou:∀f∈([]:aa Nat),bC (aon) f:=aG
def Nc(a0:ByteArray):af ao3:=
 match bif O ((a0.size:Int)<1)then I J else I (O (40<(a0.size:Int)))with|S=>S|I r4=>bif r4 then I G else match HJ (AT.mk a0 0)with|S=>S|I r5=>bif O (r5.t3<r5.t0.size)then if 0<=r5.t3/\r5.t3<r5.t0.size then match bif O (97<=cg r5.t0 r5.t3.toNat)then I (O (cg r5.t0 r5.t3.toNat<=122))else I G with|S=>S|I r6=>match bif O (48<=cg r5.t0 r5.t3.toNat)then bif O (cg r5.t0 r5.t3.toNat<=57)then I J else bif O (cg r5.t0 r5.t3.toNat=46)then I J else I (O (cg r5.t0 r5.t3.toNat=95))else bif O (cg r5.t0 r5.t3.toNat=46)then I J else I (O (cg r5.t0 r5.t3.toNat=95))with|S=>S|I r7=>match bif bif r6 then G else J then bif O (r5.t3=0)then I J else I (bif r7 then G else J)else I G with|S=>S|I r8=>bif r8 then I G else S else S else I J
def acH:=eL wJ 140 G (lc qs ln) d140 (λg=>Nc g.1)
def PJ:EO acH:=λh=>kL (F:=aon) (an:=(noTwo (.two (.two (.rb [] 14) .no) (.two (noTwo (M9.lp HJ Xm)) .no)))) (l:=[(.skip,(.rb [] 14)),(bg f140 0,(M9.lp HJ Xm)),(.skip,(.rb [] 5)),(.skip,(.rb [] 6)),(.skip,(.rb [] 53))]) func140 aQ (aC Ou (aC (aO M9) (aC Ou (aC Ou (aC Ou aG))))) h
def SQ:EP acH:=λh=>kP h
def alg:aW:=cZ
abbrev aiP:=Bool
def d141:Td 0 aiP:= .c [] [4] (.r 0 0 (ec 4 qb en) sn (λz=>z.1.1) (λx=>((x,()),(()))))
def aom:=(aM (aM ln))
def ahr:An:=(noTwo (.two (.rb [] 4) .no))
def ao9:∀f∈([]:aa Nat),bC (alg) f:=aG
def Fq(a0:Int)(a1:Int):aiP:=
 let r1:Bool:=bif O (a0<=a1)then bif O (-1048576<=a0)then O (a1<=1048576)else G else G;r1
def ayl(a0:Int)(a1:Int):bQ wJ (alg) 300 (ahr) 141 (aom.c (a0,a1,())) [] 0 d141.rd=I (Fq a0 a1):=by
 refine Eq.trans (b:=(
  match bif O (a0<=a1)then bif O (-1048576<=a0)then I (O (a1<=1048576))else I (G)else I (G)with|S=>S|I r1=>I (r1):af aiP)) (by kernel_rfl) ?_
 simp only[Fq,ct,cF]
def aeb:=eL wJ 141 G aom d141 (λg=>I (Fq g.1 g.2.1))
def PK:EO aeb:=λh=>kL (F:=alg) (an:=ahr) (l:=[(.skip,(.rb [] 4))]) func141 aQ (aC ao9 aG) h (c:=λg=>ayl g.1 g.2.1)
def Sq:EP aeb:=λh=>kP h
structure ud where
 t0:List aS
 (t1 t5 t6:Int)
def MZ:Td 0 ud:= .c [] [0,1,5,6] (.r 0 0 (ec 0 (ql 131) (ec 1 aL (ec 5 aL (ec 6 aL en)))) sn (λz=>⟨z.1.1,z.1.2.1,z.1.t.1,z.1.t.2.1⟩) (λx=>((x.t0,x.t1,x.t5,x.t6,()),(()))))
def Fg(p:ud):af (af ud):=
 bif O (p.t6<p.t0.length)then if 0<=p.t6/\p.t6<p.t0.length then bif bif O (p.t0[p.t6.toNat]!.bw=p.t1)then G else J then I (I (ud.mk p.t0 p.t1 p.t5 (i64.wrap (p.t6+1))))else if 0<=p.t6/\p.t6<p.t0.length then if 0<=p.t6/\p.t6<p.t0.length then bif O (4096<i64.wrap (p.t5*i64.wrap (i64.wrap (p.t0[p.t6.toNat]!.ah-p.t0[p.t6.toNat]!.ag)+1)))then I (S)else I (I (ud.mk p.t0 p.t1 (i64.wrap (p.t5*i64.wrap (i64.wrap (p.t0[p.t6.toNat]!.ah-p.t0[p.t6.toNat]!.ag)+1))) (i64.wrap (p.t6+1))))else S else S else S else I (S)
def Gw:=bG (Fg)
abbrev apn:=Int
def d220:Td 0 apn:= .c [] [4] (.r 0 0 (ec 4 aL en) sn (λz=>z.1.1) (λx=>((x,()),(()))))
def RF(a0:aa aS)(a1:Int):af apn:=
 match Gw (ud.mk a0 a1 1 0)with|S=>S|I r1=>bif O (r1.t6<r1.t0.length)then if 0<=r1.t6/\r1.t6<r1.t0.length then bif bif O (r1.t0[r1.t6.toNat]!.bw=r1.t1)then G else J then S else if 0<=r1.t6/\r1.t6<r1.t0.length then if 0<=r1.t6/\r1.t6<r1.t0.length then bif O (4096<i64.wrap (r1.t5*i64.wrap (i64.wrap (r1.t0[r1.t6.toNat]!.ah-r1.t0[r1.t6.toNat]!.ag)+1)))then I 4097 else S else S else S else S else I (r1.t5)
def aiK:=eL wJ 220 G (lc (ql 131) (aM ln)) d220 (λg=>RF g.1 g.2.1)
def ac5:EO aiK:=λh=>kL (an:=(noTwo (noTwo (.two (noTwo (MZ.lp Gw .no)) .no)))) (l:=[(bg f220 0,(MZ.lp Gw .no))]) func220 aQ (aC (aO MZ) aG) h
def Ss:EP aiK:=λh=>kP h
def auh:aW:=(aiK (aeb (acH cZ)))
structure uB where
 t0:List aS
 (t3 t5:Int)
 b0:aS
def L4:Td 0 uB:= .c [] [0,3,4,5] (.r 0 1 (ec 0 (ql 131) (ec 3 aL (ec 4 (qp 0 0) (ec 5 aL en)))) (sb 0 131 (lg 131) sn) (λz=>⟨z.1.1,z.1.2.1,z.1.t.2.1,z.2.1⟩) (λx=>((x.t0,x.t3,(),x.t5,()),(x.b0,()))))
def G4(p:uB):af (af uB):=
 bif O (p.t5<p.t3)then if 0<=p.t5/\p.t5<p.t0.length then bif p.t0[p.t5.toNat]!.fName.toList==p.b0.fName.toList then I (S)else I (I (uB.mk p.t0 p.t3 (i64.wrap (p.t5+1)) p.b0))else S else I (S)
def Db:=bG (G4)
structure Ci where
 t0:List aS
 t3:Int
def Nn:Td 0 Ci:= .c [] [0,3] (.r 0 0 (ec 0 (ql 131) (ec 3 aL en)) sn (λz=>⟨z.1.1,z.1.2.1⟩) (λx=>((x.t0,x.t3,()),(()))))
def uz(p:Ci):af (af Ci):=
 bif O (p.t3<p.t0.length)then if 0<=p.t3/\p.t3<p.t0.length then match Nc p.t0[p.t3.toNat]!.fName with|S=>S|I r1=>bif bif r1 then G else J then I (S)else match Db (uB.mk p.t0 p.t3 0 p.t0[p.t3.toNat]!)with|S=>S|I r2=>bif O (r2.t5<r2.t3)then if 0<=r2.t5/\r2.t5<r2.t0.length then bif r2.t0[r2.t5.toNat]!.fName.toList==r2.b0.fName.toList then I (S)else S else S else match bif bif O (r2.b0.bw=0)then G else J then bif bif O (r2.b0.bw=1)then G else J then bif bif O (r2.b0.bw=2)then G else J then I (bif O (r2.b0.bw=3)then G else J)else I G else I G else I G with|S=>S|I r3=>bif r3 then I (S)else bif bif Fq r2.b0.ag r2.b0.ah then G else J then I (S)else match bif O (r2.b0.bw=0)then bif O (r2.b0.dM<r2.b0.ag)then I J else bif O (r2.b0.ah<r2.b0.dM)then I J else bif bif O (r2.b0.bw=0)then G else J then I (bif O (r2.b0.dM=0)then G else J)else I G else bif bif O (r2.b0.bw=0)then G else J then I (bif O (r2.b0.dM=0)then G else J)else I G with|S=>S|I r4=>bif r4 then I (S)else I (I (Ci.mk r2.t0 (i64.wrap (r2.t3+1))))else S else I (S)
def UE:An:=(noTwo (.two (noTwo (noTwo (.two (noTwo (L4.lp Db .no)) (.two (.two (.rb [220] 50) .no) (noTwo (.two (.rb [220] 83) .no)))))) .no))
def F3:=bG (uz)
abbrev atO:=Int
def d139:Td 0 atO:= .c [] [2] (.r 0 0 (ec 2 aL en) sn (λz=>z.1.1) (λx=>((x,()),(()))))
def Uz:∀f∈([220]:aa Nat),bC (auh) f:=(aC (Ss (Sq (SQ bH))) aG)
def adQ(a0:aa aS):af atO:=
 match F3 (Ci.mk a0 0)with|S=>S|I r5=>bif O (r5.t3<r5.t0.length)then if 0<=r5.t3/\r5.t3<r5.t0.length then match Nc r5.t0[r5.t3.toNat]!.fName with|S=>S|I r6=>bif bif r6 then G else J then I 7 else match Db (uB.mk r5.t0 r5.t3 0 r5.t0[r5.t3.toNat]!)with|S=>S|I r7=>bif O (r7.t5<r7.t3)then if 0<=r7.t5/\r7.t5<r7.t0.length then bif r7.t0[r7.t5.toNat]!.fName.toList==r7.b0.fName.toList then I 8 else S else S else match bif bif O (r7.b0.bw=0)then G else J then bif bif O (r7.b0.bw=1)then G else J then bif bif O (r7.b0.bw=2)then G else J then I (bif O (r7.b0.bw=3)then G else J)else I G else I G else I G with|S=>S|I r8=>bif r8 then I 1 else bif bif Fq r7.b0.ag r7.b0.ah then G else J then I 3 else match bif O (r7.b0.bw=0)then bif O (r7.b0.dM<r7.b0.ag)then I J else bif O (r7.b0.ah<r7.b0.dM)then I J else bif bif O (r7.b0.bw=0)then G else J then I (bif O (r7.b0.dM=0)then G else J)else I G else bif bif O (r7.b0.bw=0)then G else J then I (bif O (r7.b0.dM=0)then G else J)else I G with|S=>S|I r9=>bif r9 then I 3 else S else S else match match RF r5.t0 1with|S=>S|I r10=>bif O (4096<r10)then I J else match RF r5.t0 2with|S=>S|I r11=>bif O (4096<r11)then I J else match RF r5.t0 3with|S=>S|I r12=>I (O (256<r12))with|S=>S|I r13=>bif r13 then I 4 else I 0
def atS:=eL wJ 139 G (lc (ql 131) ln) d139 (λg=>adQ g.1)
def adV:EO atS:=λh=>kL (F:=auh) (an:=(noTwo (.two (noTwo (Nn.lp F3 UE)) (.two (.two (.rb [220] 96) .no) .no)))) (l:=[(bg f139 0,(Nn.lp F3 UE)),(bg f139 1,(L4.lp Db .no)),(.skip,(.rb [220] 50)),(.skip,(.rb [220] 83)),(.skip,(.rb [220] 96))]) func139 (ac5 (PK (PJ aQ))) (aC (aO Nn) (aC (aO L4) (aC Uz (aC Uz (aC Uz aG))))) h
def aw0:aW:=cZ
abbrev ake:=Int
def d270:Td 0 ake:= .c [] [2] (.r 0 0 (ec 2 aL en) sn (λz=>z.1.1) (λx=>((x,()),(()))))
def asq:=(aM ln)
def ahf:An:= .no
def Dx(a0:Int):ake:=
 bif O (a0=0)then 0 else bif O (a0=24)then 0 else bif O (a0=6)then 1 else bif O (a0=7)then 1 else bif O (a0=8)then 2 else bif O (a0=9)then 2 else bif O (a0=10)then 2 else bif O (a0=11)then 2 else bif O (a0=12)then 2 else bif O (a0=13)then 2 else bif O (a0=14)then 2 else bif O (a0=15)then 2 else bif O (a0=16)then 2 else bif O (a0=17)then 2 else bif O (a0=18)then 2 else bif O (a0=19)then 2 else bif O (a0=20)then 2 else bif O (a0=21)then 2 else bif O (a0=22)then 2 else bif O (a0=23)then 3 else bif O (a0=25)then-2 else-1
def axf(a0:Int):bQ wJ (aw0) 300 (ahf) 270 (asq.c (a0,())) [] 0 d270.rd=I (Dx a0):=by
 refine Eq.trans (b:=(
  bif O (a0=0)then I (0)else bif O (a0=24)then I (0)else bif O (a0=6)then I (1)else bif O (a0=7)then I (1)else bif O (a0=8)then I (2)else bif O (a0=9)then I (2)else bif O (a0=10)then I (2)else bif O (a0=11)then I (2)else bif O (a0=12)then I (2)else bif O (a0=13)then I (2)else bif O (a0=14)then I (2)else bif O (a0=15)then I (2)else bif O (a0=16)then I (2)else bif O (a0=17)then I (2)else bif O (a0=18)then I (2)else bif O (a0=19)then I (2)else bif O (a0=20)then I (2)else bif O (a0=21)then I (2)else bif O (a0=22)then I (2)else bif O (a0=23)then I (3)else bif O (a0=25)then I (-2)else I (-1):af ake)) (by kernel_rfl) ?_
 simp only[Dx,ct,cF]
def apH:=eL wJ 270 G asq d270 (λg=>I (Dx g.1))
def aeG:EO apH:=λh=>kL (an:=ahf) func270 aQ aG h (c:=λg=>axf g.1)
abbrev qC:=Bool
def d221:Td 0 qC:= .c [] [6] (.r 0 0 (ec 6 qb en) sn (λz=>z.1.1) (λx=>((x,()),(()))))
def amP:=(lc (ql 131) (lc (qg 137) (lc qb ln)))
def akY(M:(aa aS)->ax->Bool->af qC):aW->aW:=eL wJ 221 G amP d221 (λg=>M g.1 g.2.1 g.2.2.1)
def aa6(M:(aa aS)->ax->Bool->af qC):Prop:=HL wJ 221 amP d221 (λg=>M g.1 g.2.1 g.2.2.1)
def Pc{M:(aa aS)->ax->Bool->af qC}(hM:aa6 M){F:aW}(h:aV wJ F):aV wJ (akY M F):=dU (sc:=jR) cy hM ⟨_,func221,by kernel_rfl,by kernel_rfl⟩ (λ_=>by kernel_rfl) (λ_=>by kernel_rfl) h
def aar(M221:(aa aS)->ax->Bool->af qC):aW:=(apH (akY M221 cZ))
def aaT{M221}(h221:aa6 M221):aV wJ (aar M221):=(aeG (Pc h221 aQ))
structure vK where
 t0:List aS
 t2:Bool
 t8:Int
 b0:ax
def Nk:Td 0 vK:= .c [] [0,2,4,8] (.r 0 1 (ec 0 (ql 131) (ec 2 qb (ec 4 (qp 0 0) (ec 8 aL en)))) (sb 0 137 (lg 137) sn) (λz=>⟨z.1.1,z.1.2.1,z.1.t.2.1,z.2.1⟩) (λx=>((x.t0,x.t2,(),x.t8,()),(x.b0,()))))
def GQ(M221:(aa aS)->ax->Bool->af qC)(p:vK):af (af vK):=
 bif O (p.t8<p.b0.aq.length)then if 0<=p.t8/\p.t8<p.b0.aq.length then match M221 p.t0 (ax.mk p.b0.aq[p.t8.toNat]!.bt p.b0.aq[p.t8.toNat]!.fN p.b0.aq[p.t8.toNat]!.aq) p.t2 with|S=>S|I r1=>bif bif r1 then G else J then I (S)else I (I (vK.mk p.t0 p.t2 (i64.wrap (p.t8+1)) (ax.mk p.b0.bt p.b0.fN p.b0.aq)))else S else I (S)
def Dl(M221:(aa aS)->ax->Bool->af qC):=bG (GQ M221)
def agi(M221:(aa aS)->ax->Bool->af qC):An:=(noTwo (noTwo (.two (.two (.rb [] 40) .no) (.two (noTwo (.two (.two (.rb [] 65) .no) (.two (.rb [] 73) .no))) (.two (noTwo (Nk.lp (Dl M221) .no)) .no)))))
def Xu{M221}:∀f∈([]:aa Nat),bC (aar M221) f:=aG
def apd(M221:(aa aS)->ax->Bool->af qC):dB wJ (aar M221) 0 300 221 (agi M221):=bO (l:=[(.skip,(.rb [] 40)),(.skip,(.rb [] 65)),(.skip,(.rb [] 73)),(bg f221 0,(Nk.lp (Dl M221) .no))]) func221 (bq (by kernel_rfl)) (by kernel_rfl) (aC Xu (aC Xu (aC Xu (aC (aO Nk) aG))))
def afG(M221:(aa aS)->ax->Bool->af qC)(a0:aa aS)(a1:ax)(a2:Bool):af qC:=
 match bif O (Dx a1.bt= -1)then I J else bif O (0<=Dx a1.bt)then bif bif O (a1.aq.length=Dx a1.bt)then G else J then I J else bif O (Dx a1.bt= -2)then bif O ((a1.aq.length:Int)<2)then I J else I (O (33<(a1.aq.length:Int)))else I G else bif O (Dx a1.bt= -2)then bif O ((a1.aq.length:Int)<2)then I J else I (O (33<(a1.aq.length:Int)))else I G with|S=>S|I r2=>bif r2 then I G else bif O (a1.bt=24)then match bif O (a1.fN<0)then I J else bif O (a0.length<=a1.fN)then I J else bif a2 then if 0<=a1.fN/\a1.fN<a0.length then I (O (a0[a1.fN.toNat]!.bw=0))else S else I G with|S=>S|I r3=>bif r3 then I G else match Dl M221 (vK.mk a0 a2 0 (ax.mk a1.bt a1.fN a1.aq))with|S=>S|I r4=>bif O (r4.t8<r4.b0.aq.length)then if 0<=r4.t8/\r4.t8<r4.b0.aq.length then match M221 r4.t0 (ax.mk r4.b0.aq[r4.t8.toNat]!.bt r4.b0.aq[r4.t8.toNat]!.fN r4.b0.aq[r4.t8.toNat]!.aq) r4.t2 with|S=>S|I r5=>bif bif r5 then G else J then I G else S else S else I J else match bif bif O (a1.bt=0)then G else J then I (bif O (a1.fN=0)then G else J)else I G with|S=>S|I r6=>bif r6 then I G else match Dl M221 (vK.mk a0 a2 0 (ax.mk a1.bt a1.fN a1.aq))with|S=>S|I r7=>bif O (r7.t8<r7.b0.aq.length)then if 0<=r7.t8/\r7.t8<r7.b0.aq.length then match M221 r7.t0 (ax.mk r7.b0.aq[r7.t8.toNat]!.bt r7.b0.aq[r7.t8.toNat]!.fN r7.b0.aq[r7.t8.toNat]!.aq) r7.t2 with|S=>S|I r8=>bif bif r8 then G else J then I G else S else S else I J
def av9(M221:(aa aS)->ax->Bool->af qC)(a0:aa aS)(a1:ax)(a2:Bool):bQ wJ (aar M221) 300 (agi M221) 221 (amP.c (a0,a1,a2,())) [] 0 d221.rd=afG M221 a0 a1 a2:=by kernel_rfl
def agL:Nat->((aa aS)->ax->Bool->af qC)
 |0=>(λ_ _ _=>S)
 |n+1=>(afG (agL n))
def Nl(n:Nat):(aa aS)->ax->Bool->af qC:=(agL n)
def IQ:∀n,aa6 (Nl n)
 |0=>λ_ _ h=>(by cases h)
 |n+1=>by
  have ih:=IQ n;have i221:=ih;exact(cS (aaT i221) (apd (Nl n)) (λ_=>by kernel_rfl) (λ_=>by kernel_rfl) λg=>av9 (Nl n) g.1 g.2.1 g.2.2.1)
def ael:(aa aS)->ax->Bool->af qC:=λa0 a1 a2=>lim (λn=>Nl n a0 a1 a2)
def adw:aa6 ael:=λg b h=>by
 obtain⟨n,hn⟩:=cT (show lim (λn=>Nl n g.1 g.2.1 g.2.2.1)=I b from h);exact(IQ n) g b hn
def awg(F:aW):aW:=akY ael F
def aaG{F:aW}(h:aV wJ F):aV wJ (awg F):=Pc adw h
def awF:aW:=cZ
abbrev aiF:=Int
def d313:Td 0 aiF:= .c [] [2] (.r 0 0 (ec 2 aL en) sn (λz=>z.1.1) (λx=>((x,()),(()))))
def at6:=(aM ln)
def ahN:An:= .no
def ua(a0:Int):aiF:=
 bif O (a0<0)then i64.wrap (0-a0)else a0
def awc(a0:Int):bQ wJ (awF) 300 (ahN) 313 (at6.c (a0,())) [] 0 d313.rd=I (ua a0):=by
 refine Eq.trans (b:=(
  bif O (a0<0)then I (i64.wrap (0-a0))else I (a0):af aiF)) (by kernel_rfl) ?_
 simp only[ua,ct,cF]
def U9:=eL wJ 313 G at6 d313 (λg=>I (ua g.1))
def aai:EO U9:=λh=>kL (an:=ahN) func313 aQ aG h (c:=λg=>awc g.1)
def axd:aW:=(aeO (RZ cZ))
abbrev ajN:=Int×Int
def d314:Td 0 ajN:= .c [] [4,5] (.r 0 0 (ec 4 aL (ec 5 aL en)) sn (λz=>(z.1.1,z.1.2.1)) (λx=>((x.1,x.2,()),(()))))
def aol:=(aM (aM ln))
def ahY:An:= .no
def UO(a0:Int)(a1:Int):ajN:=
 bif O (a0<0)then bif O (0<a1)then(iV (0) (i64.wrap (a0+1)),jG (0) (i64.wrap (a1-1)))else(iV (0) (i64.wrap (a0+1)),0)else bif O (0<a1)then(0,jG (0) (i64.wrap (a1-1)))else(0,0)
def aym(a0:Int)(a1:Int):bQ wJ (axd) 300 (ahY) 314 (aol.c (a0,a1,())) [] 0 d314.rd=I (UO a0 a1):=by
 refine Eq.trans (b:=(
  bif O (a0<0)then bif O (0<a1)then I ((iV (0) (i64.wrap (a0+1)),jG (0) (i64.wrap (a1-1))))else I ((iV (0) (i64.wrap (a0+1)),0))else bif O (0<a1)then I ((0,jG (0) (i64.wrap (a1-1))))else I ((0,0)):af ajN)) (by kernel_rfl) ?_
 simp only[UO,ct,cF]
def anW:=eL wJ 314 G aol d314 (λg=>I (UO g.1 g.2.1))
def ZP:EO anW:=λh=>kL (an:=ahY) func314 (HK (Fb aQ)) aG h (c:=λg=>aym g.1 g.2.1)
def asF:aW:=(anW (U9 (aeO (RZ cZ))))
structure vM where
 (t2 t3:List Int)
 (t15 t16 t17:Int)
def MY:Td 0 vM:= .c [] [2,3,15,16,17] (.r 0 0 (ec 2 (ql 3) (ec 3 (ql 3) (ec 15 aL (ec 16 aL (ec 17 aL en))))) sn (λz=>⟨z.1.1,z.1.2.1,z.1.t.1,z.1.t.2.1,z.1.q.1⟩) (λx=>((x.t2,x.t3,x.t15,x.t16,x.t17,()),(()))))
def GG(p:vM):af (af vM):=
 bif O (p.t17<p.t2.length)then if 0<=p.t17/\p.t17<p.t2.length then if 0<=p.t17/\p.t17<p.t3.length then I (I (vM.mk p.t2 p.t3 (iV p.t15 p.t2[p.t17.toNat]!) (jG p.t16 p.t3[p.t17.toNat]!) (i64.wrap (p.t17+1))))else S else S else I (S)
def Dd:=bG (GG)
abbrev aqB:=Int×Int
def d271:Td 0 aqB:= .c [] [8,9] (.r 0 0 (ec 8 aL (ec 9 aL en)) sn (λz=>(z.1.1,z.1.2.1)) (λx=>((x.1,x.2,()),(()))))
def afW:∀f∈([]:aa Nat),bC (asF) f:=aG
def afw(a0:aa aS)(a1:ax)(a2:aa Int)(a3:aa Int):af aqB:=
 bif O (a1.bt=0)then match bif O (a1.fN< -1048576)then I J else I (O (1048576<a1.fN))with|S=>S|I r1=>bif r1 then I (-1048577,1048577)else I (a1.fN,a1.fN)else bif O (a1.bt=24)then if 0<=a1.fN/\a1.fN<a0.length then if 0<=a1.fN/\a1.fN<a0.length then I (a0[a1.fN.toNat]!.ag,a0[a1.fN.toNat]!.ah)else S else S else bif O (a1.bt=6)then if(0:Int)<=(0:Int)/\(0:Int)<a3.length then if(0:Int)<=(0:Int)/\(0:Int)<a2.length then I ((i64.wrap (0-a3[0]!),i64.wrap (0-a2[0]!)))else S else S else bif O (a1.bt=8)then if(0:Int)<=(0:Int)/\(0:Int)<a2.length then if(0:Int)<=(1:Int)/\(1:Int)<a2.length then if(0:Int)<=(0:Int)/\(0:Int)<a3.length then if(0:Int)<=(1:Int)/\(1:Int)<a3.length then I ((i64.wrap (a2[0]! +a2[1]!),i64.wrap (a3[0]! +a3[1]!)))else S else S else S else S else bif O (a1.bt=9)then if(0:Int)<=(0:Int)/\(0:Int)<a2.length then if(0:Int)<=(1:Int)/\(1:Int)<a3.length then if(0:Int)<=(0:Int)/\(0:Int)<a3.length then if(0:Int)<=(1:Int)/\(1:Int)<a2.length then I ((i64.wrap (a2[0]! -a3[1]!),i64.wrap (a3[0]! -a2[1]!)))else S else S else S else S else bif O (a1.bt=10)then if(0:Int)<=(0:Int)/\(0:Int)<a2.length then if(0:Int)<=(1:Int)/\(1:Int)<a2.length then if(0:Int)<=(0:Int)/\(0:Int)<a2.length then if(0:Int)<=(1:Int)/\(1:Int)<a3.length then if(0:Int)<=(0:Int)/\(0:Int)<a3.length then if(0:Int)<=(1:Int)/\(1:Int)<a2.length then if(0:Int)<=(0:Int)/\(0:Int)<a3.length then if(0:Int)<=(1:Int)/\(1:Int)<a3.length then I ((iV (iV (i64.wrap (a2[0]! *a2[1]!)) (i64.wrap (a2[0]! *a3[1]!))) (iV (i64.wrap (a3[0]! *a2[1]!)) (i64.wrap (a3[0]! *a3[1]!))),jG (jG (i64.wrap (a2[0]! *a2[1]!)) (i64.wrap (a2[0]! *a3[1]!))) (jG (i64.wrap (a3[0]! *a2[1]!)) (i64.wrap (a3[0]! *a3[1]!)))))else S else S else S else S else S else S else S else S else bif O (a1.bt=11)then if(0:Int)<=(0:Int)/\(0:Int)<a2.length then if(0:Int)<=(0:Int)/\(0:Int)<a3.length then match if(0:Int)<=(0:Int)/\(0:Int)<a2.length then bif O (0<=a2[yM 0]!)then if(0:Int)<=(1:Int)/\(1:Int)<a2.length then I (O (0<=a2[yM 1]!))else S else I G else S with|S=>S|I r2=>bif r2 then I ((0,jG (ua a2[0]!) (ua a3[0]!)))else I ((i64.wrap (0-jG (ua a2[0]!) (ua a3[0]!)),jG (ua a2[0]!) (ua a3[0]!)))else S else S else bif O (a1.bt=12)then if(0:Int)<=(1:Int)/\(1:Int)<a2.length then if(0:Int)<=(1:Int)/\(1:Int)<a3.length then I (UO a2[1]! a3[1]!)else S else S else bif O (a1.bt=21)then if(0:Int)<=(0:Int)/\(0:Int)<a2.length then if(0:Int)<=(1:Int)/\(1:Int)<a2.length then if(0:Int)<=(0:Int)/\(0:Int)<a3.length then if(0:Int)<=(1:Int)/\(1:Int)<a3.length then I (iV a2[0]! a2[1]!,iV a3[0]! a3[1]!)else S else S else S else S else bif O (a1.bt=22)then if(0:Int)<=(0:Int)/\(0:Int)<a2.length then if(0:Int)<=(1:Int)/\(1:Int)<a2.length then if(0:Int)<=(0:Int)/\(0:Int)<a3.length then if(0:Int)<=(1:Int)/\(1:Int)<a3.length then I (jG a2[0]! a2[1]!,jG a3[0]! a3[1]!)else S else S else S else S else bif O (a1.bt=23)then if(0:Int)<=(1:Int)/\(1:Int)<a2.length then if(0:Int)<=(1:Int)/\(1:Int)<a3.length then match Dd (vM.mk a2 a3 a2[1]! a3[1]! (2))with|S=>S|I r3=>bif O (r3.t17<r3.t2.length)then if 0<=r3.t17/\r3.t17<r3.t2.length then if 0<=r3.t17/\r3.t17<r3.t3.length then S else S else S else I (r3.t15,r3.t16)else S else S else bif O (a1.bt=25)then if(0:Int)<=(1:Int)/\(1:Int)<a2.length then if(0:Int)<=(1:Int)/\(1:Int)<a3.length then match Dd (vM.mk a2 a3 a2[1]! a3[1]! (2))with|S=>S|I r4=>bif O (r4.t17<r4.t2.length)then if 0<=r4.t17/\r4.t17<r4.t2.length then if 0<=r4.t17/\r4.t17<r4.t3.length then S else S else S else I (r4.t15,r4.t16)else S else S else I (0,1)
def aqu:=eL wJ 271 G (lc (ql 131) (lc (qg 137) (lc (ql 3) (lc (ql 3) ln)))) d271 (λg=>afw g.1 g.2.1 g.t.1 g.t.2.1)
def Y3:EO aqu:=λh=>kL (F:=asF) (an:=(noTwo (.two (noTwo (noTwo (.two (.two (.two (.rb [] 29) .no) .no) (noTwo (noTwo (noTwo (noTwo (noTwo (noTwo (noTwo (noTwo (noTwo (noTwo (noTwo (.two (noTwo (.two (.two (.rb [] 154) .no) .no)) (noTwo (noTwo (noTwo (noTwo (noTwo (noTwo (noTwo (.two (noTwo (.two (noTwo (MY.lp Dd .no)) .no)) .no))))))))))))))))))))))) .no))) (l:=[(.skip,(.rb [] 29)),(.skip,(.rb [] 154)),(bg f271 0,(MY.lp Dd .no))]) func271 (ZP (aai (HK (Fb aQ)))) (aC afW (aC afW (aC (aO MY) aG))) h
abbrev qm:=Int×Int×Bool
def d222:Td 0 qm:= .c [] [4,5,6] (.r 0 0 (ec 4 aL (ec 5 aL (ec 6 qb en))) sn (λz=>(z.1.1,z.1.2.1,z.1.t.1)) (λx=>((x.1,x.2.1,x.t,()),(()))))
def ak2:=(lc (ql 131) (lc (qg 137) ln))
def alE(M:(aa aS)->ax->af qm):aW->aW:=eL wJ 222 G ak2 d222 (λg=>M g.1 g.2.1)
def acn(M:(aa aS)->ax->af qm):Prop:=HL wJ 222 ak2 d222 (λg=>M g.1 g.2.1)
def Rj{M:(aa aS)->ax->af qm}(hM:acn M){F:aW}(h:aV wJ F):aV wJ (alE M F):=dU (sc:=jR) cy hM ⟨_,func222,by kernel_rfl,by kernel_rfl⟩ (λ_=>by kernel_rfl) (λ_=>by kernel_rfl) h
def aiH(M222:(aa aS)->ax->af qm):aW:=(aqu (alE M222 cZ))
def afy{M222}(h222:acn M222):aV wJ (aiH M222):=(Y3 (Rj h222 aQ))
structure CT where
 t0:List aS
 (t7 t8:List Int)
 t9:Int
 b0:ax
def MC:Td 0 CT:= .c [] [0,3,7,8,9] (.r 0 3 (ec 0 (ql 131) (ec 3 (qp 0 0) (ec 7 (qo 1) (ec 8 (qo 2) (ec 9 aL en))))) (sb 0 137 (lg 137) (sr 1 3 (sr 2 3 sn))) (λz=>⟨z.1.1,z.t.1,z.t.2.1,z.1.q.1,z.2.1⟩) (λx=>((x.t0,(),(),(),x.t9,()),(x.b0,x.t7,x.t8,()))))
def Dc(M222:(aa aS)->ax->af qm)(p:CT):af (af CT):=
 bif O (p.t9<p.b0.aq.length)then if 0<=p.t9/\p.t9<p.b0.aq.length then match M222 p.t0 (ax.mk p.b0.aq[p.t9.toNat]!.bt p.b0.aq[p.t9.toNat]!.fN p.b0.aq[p.t9.toNat]!.aq)with|S=>S|I r1=>bif bif r1.snd.snd then G else J then I (S)else if(p.t7++[r1.fst]).length<=1073741824 then if(p.t8++[r1.snd.fst]).length<=1073741824 then I (I (CT.mk p.t0 (p.t7++[r1.fst]) (p.t8++[r1.snd.fst]) (i64.wrap (p.t9+1)) (ax.mk p.b0.bt p.b0.fN p.b0.aq)))else S else S else S else I (S)
def Fy(M222:(aa aS)->ax->af qm):=bG (Dc M222)
def ah6(M222:(aa aS)->ax->af qm):An:=(noTwo (noTwo (noTwo (.two (noTwo (MC.lp (Fy M222) .no)) .no))))
def asj(M222:(aa aS)->ax->af qm):dB wJ (aiH M222) 0 300 222 (ah6 M222):=bO (l:=[(bg f222 0,(MC.lp (Fy M222) .no))]) func222 (bq (by kernel_rfl)) (by kernel_rfl) (aC (aO MC) aG)
def afi(M222:(aa aS)->ax->af qm)(a0:aa aS)(a1:ax):af qm:=
 match Fy M222 (CT.mk a0 [] [] (0) (ax.mk a1.bt a1.fN a1.aq))with|S=>S|I r2=>bif O (r2.t9<r2.b0.aq.length)then if 0<=r2.t9/\r2.t9<r2.b0.aq.length then match M222 r2.t0 (ax.mk r2.b0.aq[r2.t9.toNat]!.bt r2.b0.aq[r2.t9.toNat]!.fN r2.b0.aq[r2.t9.toNat]!.aq)with|S=>S|I r3=>bif bif r3.snd.snd then G else J then I (0,0,G)else if(r2.t7++[r3.fst]).length<=1073741824 then if(r2.t8++[r3.snd.fst]).length<=1073741824 then S else S else S else S else match afw r2.t0 (ax.mk r2.b0.bt r2.b0.fN r2.b0.aq) r2.t7 r2.t8 with|S=>S|I r4=>bif O (-1048576<=r4.fst)then I ((r4.fst,r4.snd,O (r4.snd<=1048576)))else I (r4.fst,r4.snd,G)
def axp(M222:(aa aS)->ax->af qm)(a0:aa aS)(a1:ax):bQ wJ (aiH M222) 300 (ah6 M222) 222 (ak2.c (a0,a1,())) [] 0 d222.rd=afi M222 a0 a1:=by kernel_rfl
def afU:Nat->((aa aS)->ax->af qm)
 |0=>(λ_ _=>S)
 |n+1=>(afi (afU n))
def No(n:Nat):(aa aS)->ax->af qm:=(afU n)
def KB:∀n,acn (No n)
 |0=>λ_ _ h=>(by cases h)
 |n+1=>by
  have ih:=KB n;have i222:=ih;exact(cS (afy i222) (asj (No n)) (λ_=>by kernel_rfl) (λ_=>by kernel_rfl) λg=>axp (No n) g.1 g.2.1)
def acI:(aa aS)->ax->af qm:=λa0 a1=>lim (λn=>No n a0 a1)
def acC:acn acI:=λg b h=>by
 obtain⟨n,hn⟩:=cT (show lim (λn=>No n g.1 g.2.1)=I b from h);exact(KB n) g b hn
def axm(F:aW):aW:=alE acI F
def ZH{F:aW}(h:aV wJ F):aV wJ (axm F):=Rj acC h
abbrev asQ:=Int
def d142:Td 0 asQ:= .c [] [6] (.r 0 0 (ec 6 aL en) sn (λz=>z.1.1) (λx=>((x,()),(()))))
def Fw(a0:aa aS)(a1:ax)(a2:Bool):af asQ:=
 match ael a0 (ax.mk a1.bt a1.fN a1.aq) a2 with|S=>S|I r1=>bif bif r1 then G else J then I (1)else match acI a0 (ax.mk a1.bt a1.fN a1.aq)with|S=>S|I r2=>bif bif r2.snd.snd then G else J then I (3)else I (0)
def aci:=eL wJ 142 G (lc (ql 131) (lc (qg 137) (lc qb ln))) d142 (λg=>Fw g.1 g.2.1 g.t.1)
def Ow:EO aci:=λh=>kL (an:= .no) func142 (ZH (aaG aQ)) aG h
def Tv:EP aci:=λh=>kP h
def akg:aW:=cZ
abbrev aja:=Bool
def d272:Td 0 aja:= .c [] [2] (.r 0 0 (ec 2 qb en) sn (λz=>z.1.1) (λx=>((x,()),(()))))
def aoQ:=(lc (qg 137) ln)
def ah8:An:=(noTwo (.two (.rb [] 2) .no))
def apC:∀f∈([]:aa Nat),bC (akg) f:=aG
def Jr(a0:ax):aja:=
 let r1:Bool:=bif O (a0.bt=0)then bif O (a0.fN=0)then O ((a0.aq.length:Int)=0)else G else G;r1
def axN(a0:ax):bQ wJ (akg) 300 (ah8) 272 (aoQ.c (a0,())) [] 0 d272.rd=I (Jr a0):=by
 refine Eq.trans (b:=(
  match bif O (a0.bt=0)then bif O (a0.fN=0)then I (O ((a0.aq.length:Int)=0))else I (G)else I (G)with|S=>S|I r1=>I (r1):af aja)) (by kernel_rfl) ?_
 simp only[Jr,ct,cF]
def ajm:=eL wJ 272 G aoQ d272 (λg=>I (Jr g.1))
def aaf:EO ajm:=λh=>kL (F:=akg) (an:=ah8) (l:=[(.skip,(.rb [] 2))]) func272 aQ (aC apC aG) h (c:=λg=>axN g.1)
def DR:EP ajm:=λh=>kP h
def at9:aW:=cZ
structure CU where
 t0:List Int
 t3:Int
def Lh:Td 0 CU:= .c [] [0,3] (.r 0 0 (ec 0 (ql 3) (ec 3 aL en)) sn (λz=>⟨z.1.1,z.1.2.1⟩) (λx=>((x.t0,x.t3,()),(()))))
def HB(p:CU):af (af CU):=
 bif O (p.t3<p.t0.length)then if 0<=p.t3/\p.t3<p.t0.length then if 0<=i64.wrap (p.t3-1)/\i64.wrap (p.t3-1)<p.t0.length then bif O (((p.t0,p.t3,()),()).fst.fst[((p.t0,p.t3,()),()).fst.snd.fst.toNat]!<=((p.t0,p.t3,()),()).fst.fst[(i64.wrap (((p.t0,p.t3,()),()).fst.snd.fst-1)).toNat]!)then I (S)else I (I (CU.mk p.t0 (i64.wrap (p.t3+1))))else S else S else I (S)
def FG:=bG (HB)
abbrev aoi:=Bool
def d273:Td 0 aoi:= .c [] [2] (.r 0 0 (ec 2 qb en) sn (λz=>z.1.1) (λx=>((x,()),(()))))
def asC:∀f∈([]:aa Nat),bC (at9) f:=aG
def acW(a0:aa Int):af aoi:=
 match bif O ((a0.length:Int)<1)then I J else bif O (32<(a0.length:Int))then I J else if(0:Int)<=(0:Int)/\(0:Int)<a0.length then I (O (a0[yM 0]! <0))else S with|S=>S|I r1=>bif r1 then I G else match FG (CU.mk a0 1)with|S=>S|I r2=>bif O (r2.t3<r2.t0.length)then if 0<=r2.t3/\r2.t3<r2.t0.length then if 0<=i64.wrap (r2.t3-1)/\i64.wrap (r2.t3-1)<r2.t0.length then bif O (((r2.t0,r2.t3,()),()).fst.fst[((r2.t0,r2.t3,()),()).fst.snd.fst.toNat]!<=((r2.t0,r2.t3,()),()).fst.fst[(i64.wrap (((r2.t0,r2.t3,()),()).fst.snd.fst-1)).toNat]!)then I G else S else S else S else I J
def alN:=eL wJ 273 G (lc (ql 3) ln) d273 (λg=>acW g.1)
def aeI:EO alN:=λh=>kL (F:=at9) (an:=(noTwo (.two (.two (.rb [] 17) .no) (.two (noTwo (Lh.lp FG .no)) .no)))) (l:=[(.skip,(.rb [] 17)),(bg f273 0,(Lh.lp FG .no))]) func273 aQ (aC asC (aC (aO Lh) aG)) h
def Eh:EP alN:=λh=>kP h
def apq:aW:=(alN (ajm cZ))
abbrev anX:=Bool
def d223:Td 0 anX:= .c [] [6] (.r 0 0 (ec 6 qb en) sn (λz=>z.1.1) (λx=>((x,()),(()))))
def tM:∀f∈([272,273]:aa Nat),bC (apq) f:=(aC (Eh (DR bH)) (aC (Eh (DR bH)) aG))
def NH(a0:aP)(a1:ay)(a2:Bool):af anX:=
 match bif O ((a1.aK.length:Int)=0)then I (O ((a1.aN.length:Int)=0))else I G with|S=>S|I r1=>match bif O (0<=a1.cX)then bif O (a1.cX<a0.ai.length)then if 0<=a1.cX/\a1.cX<a0.ai.length then I (O (a0.ai[a1.cX.toNat]!.bw=0))else S else I G else I G with|S=>S|I r2=>bif O (a1.bX=0)then match bif r1 then bif r2 then bif O (a1.fN=0)then I (O ((a1.aJ.length:Int)=0))else I G else I G else I G with|S=>S|I r3=>I (r3)else bif O (a1.bX=1)then match bif r1 then bif O (a1.cX=0)then bif O (a1.fN=0)then I (O ((a1.aJ.length:Int)=0))else I G else I G else I G with|S=>S|I r4=>I (r4)else bif O (a1.bX=2)then match bif r1 then bif O (a1.cX=0)then bif O (a1.fN=0)then bif O ((a1.aJ.length:Int)=0)then I (Jr (ax.mk a1.aB.bt a1.aB.fN a1.aB.aq))else I G else I G else I G else I G with|S=>S|I r5=>I (r5)else bif O (a1.bX=3)then match bif O (a1.cX=0)then bif O (a1.fN=0)then I (O ((a1.aJ.length:Int)=0))else I G else I G with|S=>S|I r6=>I (r6)else bif O (a1.bX=4)then match bif O (a1.cX=0)then bif O ((a1.aN.length:Int)=0)then I (O ((a1.aJ.length:Int)=0))else I G else I G with|S=>S|I r7=>I (r7)else bif O (a1.bX=5)then match bif r1 then bif r2 then bif O (0<=a1.fN)then bif O (a1.fN<a0.ak.length)then bif O ((a1.aJ.length:Int)=0)then I (Jr (ax.mk a1.aB.bt a1.aB.fN a1.aB.aq))else I G else I G else I G else I G else I G with|S=>S|I r8=>I (r8)else bif O (a1.bX=6)then match bif r1 then bif a2 then bif O (a1.cX=0)then bif O (a1.fN=0)then bif Jr (ax.mk a1.aB.bt a1.aB.fN a1.aB.aq)then match acW a1.aJ with|S=>S|I r9=>I (r9)else I G else I G else I G else I G else I G with|S=>S|I r10=>I (r10)else I G
def amT:=eL wJ 223 G (lc (qg 26) (lc (qg 166) (lc qb ln))) d223 (λg=>NH g.1 g.2.1 g.t.1)
def ady:EO amT:=λh=>kL (F:=apq) (an:=(noTwo (.two (.rb [272,273] 7) (.two (.rb [272,273] 8) (.two (noTwo (noTwo (.two (.two (.rb [272,273] 6) .no) (noTwo (.two (.two (.rb [272,273] 6) .no) (noTwo (.two (.two (.rb [272,273] 6) .no) (noTwo (.two (.two (.rb [272,273] 6) .no) (noTwo (.two (.two (.rb [272,273] 6) .no) (noTwo (.two (.two (.rb [272,273] 6) .no) (noTwo (.two (.two (.rb [272,273] 6) .no) .no))))))))))))))) .no))))) (l:=[(.skip,(.rb [272,273] 7)),(.skip,(.rb [272,273] 8)),(.skip,(.rb [272,273] 6)),(.skip,(.rb [272,273] 6)),(.skip,(.rb [272,273] 6)),(.skip,(.rb [272,273] 6)),(.skip,(.rb [272,273] 6)),(.skip,(.rb [272,273] 6)),(.skip,(.rb [272,273] 6))]) func223 (aeI (aaf aQ)) (aC tM (aC tM (aC tM (aC tM (aC tM (aC tM (aC tM (aC tM (aC tM aG))))))))) h
def S7:EP amT:=λh=>kP h
abbrev mG:=Int
def d143:Td 0 mG:= .c [] [6] (.r 0 0 (ec 6 aL en) sn (λz=>z.1.1) (λx=>((x,()),(()))))
def am0:=(lc (qg 26) (lc (ql 166) (lc qb ln)))
def YY(M:aP->(aa ay)->Bool->af mG):aW->aW:=eL wJ 143 G am0 d143 (λg=>M g.1 g.2.1 g.2.2.1)
def Tm{M:aP->(aa ay)->Bool->af mG}{F:aW}{f:Nat}(h:bC F f):bC (YY M F) f:=gM h (λ_=>by kernel_rfl)
def afz(M:aP->(aa ay)->Bool->af mG):Prop:=HL wJ 143 am0 d143 (λg=>M g.1 g.2.1 g.2.2.1)
def Q6{M:aP->(aa ay)->Bool->af mG}(hM:afz M){F:aW}(h:aV wJ F):aV wJ (YY M F):=dU (sc:=jR) cy hM ⟨_,func143,by kernel_rfl,by kernel_rfl⟩ (λ_=>by kernel_rfl) (λ_=>by kernel_rfl) h
def afp(M143:aP->(aa ay)->Bool->af mG):aW:=(amT (YY M143 (aci cZ)))
def Yt{M143}(h143:afz M143):aV wJ (afp M143):=(ady (Q6 h143 (Ow aQ)))
structure vN where
 t1:List ay
 t2:Bool
 t7:Int
 b0:aP
def MK:Td 0 vN:= .c [] [1,2,3,7] (.r 0 1 (ec 1 (ql 166) (ec 2 qb (ec 3 (qp 0 0) (ec 7 aL en)))) (sb 0 26 (lg 26) sn) (λz=>⟨z.1.1,z.1.2.1,z.1.t.2.1,z.2.1⟩) (λx=>((x.t1,x.t2,(),x.t7,()),(x.b0,()))))
def uR(M143:aP->(aa ay)->Bool->af mG)(p:vN):af (af vN):=
 bif O (p.t7<p.t1.length)then if 0<=p.t7/\p.t7<p.t1.length then match bif p.t2 then match NH p.b0 (ay.mk p.t1[p.t7.toNat]!.bX p.t1[p.t7.toNat]!.aR p.t1[p.t7.toNat]!.cX p.t1[p.t7.toNat]!.fN (ax.mk p.t1[p.t7.toNat]!.aB.bt p.t1[p.t7.toNat]!.aB.fN p.t1[p.t7.toNat]!.aB.aq) p.t1[p.t7.toNat]!.aK p.t1[p.t7.toNat]!.aN p.t1[p.t7.toNat]!.aJ) (O (((p.t1,p.t2,(),p.t7,()),p.b0,()).fst.snd.snd.snd.fst=i64.wrap ((↑((p.t1,p.t2,(),p.t7,()),p.b0,()).fst.fst.length:Int)-1)))with|S=>S|I r1=>I (bif r1 then G else J)else match NH p.b0 (ay.mk p.t1[p.t7.toNat]!.bX p.t1[p.t7.toNat]!.aR p.t1[p.t7.toNat]!.cX p.t1[p.t7.toNat]!.fN (ax.mk p.t1[p.t7.toNat]!.aB.bt p.t1[p.t7.toNat]!.aB.fN p.t1[p.t7.toNat]!.aB.aq) p.t1[p.t7.toNat]!.aK p.t1[p.t7.toNat]!.aN p.t1[p.t7.toNat]!.aJ) G with|S=>S|I r2=>I (bif r2 then G else J)with|S=>S|I r3=>bif r3 then I (S)else bif O (p.t1[p.t7.toNat]!.bX=2)then match bif O (p.t1[p.t7.toNat]!.aR<0)then I J else bif O (67108864<p.t1[p.t7.toNat]!.aR)then I J else bif O (p.t1[p.t7.toNat]!.fN<0)then I J else bif O (p.t1[p.t7.toNat]!.bX=4)then I (O (4096<p.t1[p.t7.toNat]!.fN))else I G with|S=>S|I r4=>bif r4 then I (S)else match bif O (0<(↑p.t1[p.t7.toNat]!.aJ.length:Int))then if 0<=i64.wrap ((↑p.t1[p.t7.toNat]!.aJ.length:Int)-(1:Int))/\i64.wrap ((↑p.t1[p.t7.toNat]!.aJ.length:Int)-(1:Int))<(↑p.t1[p.t7.toNat]!.aJ.length:Int)then I (O (67108864<((p.t1,p.t2,(),p.t7,()),p.b0,()).fst.fst[((p.t1,p.t2,(),p.t7,()),p.b0,()).fst.snd.snd.snd.fst.toNat]!.aJ[(i64.wrap ((↑((p.t1,p.t2,(),p.t7,()),p.b0,()).fst.fst[((p.t1,p.t2,(),p.t7,()),p.b0,()).fst.snd.snd.snd.fst.toNat]!.aJ.length:Int)-1)).toNat]!))else S else I G with|S=>S|I r5=>bif r5 then I (S)else match Fw p.b0.ai (ax.mk p.t1[p.t7.toNat]!.aB.bt p.t1[p.t7.toNat]!.aB.fN p.t1[p.t7.toNat]!.aB.aq) G with|S=>S|I r6=>bif bif O (r6=0)then G else J then I (S)else match M143 p.b0 p.t1[p.t7.toNat]!.aK G with|S=>S|I r7=>bif bif O (r7=0)then G else J then I (S)else match M143 p.b0 p.t1[p.t7.toNat]!.aN G with|S=>S|I r8=>bif bif O (r8=0)then G else J then I (S)else I (I (vN.mk p.t1 p.t2 (i64.wrap (p.t7+1)) p.b0))else match bif O (p.t1[p.t7.toNat]!.aR<0)then I J else bif O (10000<p.t1[p.t7.toNat]!.aR)then I J else bif O (p.t1[p.t7.toNat]!.fN<0)then I J else bif O (p.t1[p.t7.toNat]!.bX=4)then I (O (4096<p.t1[p.t7.toNat]!.fN))else I G with|S=>S|I r9=>bif r9 then I (S)else match bif O (0<(↑p.t1[p.t7.toNat]!.aJ.length:Int))then if 0<=i64.wrap ((↑p.t1[p.t7.toNat]!.aJ.length:Int)-(1:Int))/\i64.wrap ((↑p.t1[p.t7.toNat]!.aJ.length:Int)-(1:Int))<(↑p.t1[p.t7.toNat]!.aJ.length:Int)then I (O (67108864<((p.t1,p.t2,(),p.t7,()),p.b0,()).fst.fst[((p.t1,p.t2,(),p.t7,()),p.b0,()).fst.snd.snd.snd.fst.toNat]!.aJ[(i64.wrap ((↑((p.t1,p.t2,(),p.t7,()),p.b0,()).fst.fst[((p.t1,p.t2,(),p.t7,()),p.b0,()).fst.snd.snd.snd.fst.toNat]!.aJ.length:Int)-1)).toNat]!))else S else I G with|S=>S|I r10=>bif r10 then I (S)else match Fw p.b0.ai (ax.mk p.t1[p.t7.toNat]!.aB.bt p.t1[p.t7.toNat]!.aB.fN p.t1[p.t7.toNat]!.aB.aq) G with|S=>S|I r11=>bif bif O (r11=0)then G else J then I (S)else match M143 p.b0 p.t1[p.t7.toNat]!.aK G with|S=>S|I r12=>bif bif O (r12=0)then G else J then I (S)else match M143 p.b0 p.t1[p.t7.toNat]!.aN G with|S=>S|I r13=>bif bif O (r13=0)then G else J then I (S)else I (I (vN.mk p.t1 p.t2 (i64.wrap (p.t7+1)) p.b0))else S else I (S)
def Xp(M143:aP->(aa ay)->Bool->af mG):An:=(noTwo (.two (noTwo (.two (.two (.rb [223] 32) .no) (noTwo (noTwo (.two (.two (.rb [223] 59) .no) (.two (.two (.rb [223] 74) .no) .no)))))) .no))
def FY(M143:aP->(aa ay)->Bool->af mG):=bG (uR M143)
def agd(M143:aP->(aa ay)->Bool->af mG):An:=(noTwo (.two (noTwo (MK.lp (FY M143) (Xp M143))) .no))
def TI{M143}:∀f∈([223]:aa Nat),bC (afp M143) f:=(aC (S7 (Tm (Tv bH))) aG)
def aqm(M143:aP->(aa ay)->Bool->af mG):dB wJ (afp M143) 0 300 143 (agd M143):=bO (l:=[(bg f143 0,(MK.lp (FY M143) (Xp M143))),(.skip,(.rb [223] 32)),(.skip,(.rb [223] 59)),(.skip,(.rb [223] 74))]) func143 (bq (by kernel_rfl)) (by kernel_rfl) (aC (aO MK) (aC TI (aC TI (aC TI aG))))
def acv(M143:aP->(aa ay)->Bool->af mG)(a0:aP)(a1:aa ay)(a2:Bool):af mG:=
 match FY M143 (vN.mk a1 a2 0 a0)with|S=>S|I r14=>bif O (r14.t7<r14.t1.length)then if 0<=r14.t7/\r14.t7<r14.t1.length then match bif r14.t2 then match NH r14.b0 (ay.mk r14.t1[r14.t7.toNat]!.bX r14.t1[r14.t7.toNat]!.aR r14.t1[r14.t7.toNat]!.cX r14.t1[r14.t7.toNat]!.fN (ax.mk r14.t1[r14.t7.toNat]!.aB.bt r14.t1[r14.t7.toNat]!.aB.fN r14.t1[r14.t7.toNat]!.aB.aq) r14.t1[r14.t7.toNat]!.aK r14.t1[r14.t7.toNat]!.aN r14.t1[r14.t7.toNat]!.aJ) (O (((r14.t1,r14.t2,(),r14.t7,()),r14.b0,()).fst.snd.snd.snd.fst=i64.wrap ((↑((r14.t1,r14.t2,(),r14.t7,()),r14.b0,()).fst.fst.length:Int)-1)))with|S=>S|I r15=>I (bif r15 then G else J)else match NH r14.b0 (ay.mk r14.t1[r14.t7.toNat]!.bX r14.t1[r14.t7.toNat]!.aR r14.t1[r14.t7.toNat]!.cX r14.t1[r14.t7.toNat]!.fN (ax.mk r14.t1[r14.t7.toNat]!.aB.bt r14.t1[r14.t7.toNat]!.aB.fN r14.t1[r14.t7.toNat]!.aB.aq) r14.t1[r14.t7.toNat]!.aK r14.t1[r14.t7.toNat]!.aN r14.t1[r14.t7.toNat]!.aJ) G with|S=>S|I r16=>I (bif r16 then G else J)with|S=>S|I r17=>bif r17 then I 1 else bif O (r14.t1[r14.t7.toNat]!.bX=2)then match bif O (r14.t1[r14.t7.toNat]!.aR<0)then I J else bif O (67108864<r14.t1[r14.t7.toNat]!.aR)then I J else bif O (r14.t1[r14.t7.toNat]!.fN<0)then I J else bif O (r14.t1[r14.t7.toNat]!.bX=4)then I (O (4096<r14.t1[r14.t7.toNat]!.fN))else I G with|S=>S|I r18=>bif r18 then I 3 else match bif O (0<(↑r14.t1[r14.t7.toNat]!.aJ.length:Int))then if 0<=i64.wrap ((↑r14.t1[r14.t7.toNat]!.aJ.length:Int)-(1:Int))/\i64.wrap ((↑r14.t1[r14.t7.toNat]!.aJ.length:Int)-(1:Int))<(↑r14.t1[r14.t7.toNat]!.aJ.length:Int)then I (O (67108864<((r14.t1,r14.t2,(),r14.t7,()),r14.b0,()).fst.fst[((r14.t1,r14.t2,(),r14.t7,()),r14.b0,()).fst.snd.snd.snd.fst.toNat]!.aJ[(i64.wrap ((↑((r14.t1,r14.t2,(),r14.t7,()),r14.b0,()).fst.fst[((r14.t1,r14.t2,(),r14.t7,()),r14.b0,()).fst.snd.snd.snd.fst.toNat]!.aJ.length:Int)-1)).toNat]!))else S else I G with|S=>S|I r19=>bif r19 then I 3 else match Fw r14.b0.ai (ax.mk r14.t1[r14.t7.toNat]!.aB.bt r14.t1[r14.t7.toNat]!.aB.fN r14.t1[r14.t7.toNat]!.aB.aq) G with|S=>S|I r20=>bif bif O (r20=0)then G else J then I (r20)else match M143 r14.b0 r14.t1[r14.t7.toNat]!.aK G with|S=>S|I r21=>bif bif O (r21=0)then G else J then I (r21)else match M143 r14.b0 r14.t1[r14.t7.toNat]!.aN G with|S=>S|I r22=>bif bif O (r22=0)then G else J then I (r22)else S else match bif O (r14.t1[r14.t7.toNat]!.aR<0)then I J else bif O (10000<r14.t1[r14.t7.toNat]!.aR)then I J else bif O (r14.t1[r14.t7.toNat]!.fN<0)then I J else bif O (r14.t1[r14.t7.toNat]!.bX=4)then I (O (4096<r14.t1[r14.t7.toNat]!.fN))else I G with|S=>S|I r23=>bif r23 then I 3 else match bif O (0<(↑r14.t1[r14.t7.toNat]!.aJ.length:Int))then if 0<=i64.wrap ((↑r14.t1[r14.t7.toNat]!.aJ.length:Int)-(1:Int))/\i64.wrap ((↑r14.t1[r14.t7.toNat]!.aJ.length:Int)-(1:Int))<(↑r14.t1[r14.t7.toNat]!.aJ.length:Int)then I (O (67108864<((r14.t1,r14.t2,(),r14.t7,()),r14.b0,()).fst.fst[((r14.t1,r14.t2,(),r14.t7,()),r14.b0,()).fst.snd.snd.snd.fst.toNat]!.aJ[(i64.wrap ((↑((r14.t1,r14.t2,(),r14.t7,()),r14.b0,()).fst.fst[((r14.t1,r14.t2,(),r14.t7,()),r14.b0,()).fst.snd.snd.snd.fst.toNat]!.aJ.length:Int)-1)).toNat]!))else S else I G with|S=>S|I r24=>bif r24 then I 3 else match Fw r14.b0.ai (ax.mk r14.t1[r14.t7.toNat]!.aB.bt r14.t1[r14.t7.toNat]!.aB.fN r14.t1[r14.t7.toNat]!.aB.aq) G with|S=>S|I r25=>bif bif O (r25=0)then G else J then I (r25)else match M143 r14.b0 r14.t1[r14.t7.toNat]!.aK G with|S=>S|I r26=>bif bif O (r26=0)then G else J then I (r26)else match M143 r14.b0 r14.t1[r14.t7.toNat]!.aN G with|S=>S|I r27=>bif bif O (r27=0)then G else J then I (r27)else S else S else I 0
def avJ(M143:aP->(aa ay)->Bool->af mG)(a0:aP)(a1:aa ay)(a2:Bool):bQ wJ (afp M143) 300 (agd M143) 143 (am0.c (a0,a1,a2,())) [] 0 d143.rd=acv M143 a0 a1 a2:=by kernel_rfl
def agF:Nat->(aP->(aa ay)->Bool->af mG)
 |0=>(λ_ _ _=>S)
 |n+1=>(acv (agF n))
def N9(n:Nat):aP->(aa ay)->Bool->af mG:=(agF n)
def JE:∀n,afz (N9 n)
 |0=>λ_ _ h=>(by cases h)
 |n+1=>by
  have ih:=JE n;have i143:=ih;exact(cS (Yt i143) (aqm (N9 n)) (λ_=>by kernel_rfl) (λ_=>by kernel_rfl) λg=>avJ (N9 n) g.1 g.2.1 g.2.2.1)
def acs:aP->(aa ay)->Bool->af mG:=λa0 a1 a2=>lim (λn=>N9 n a0 a1 a2)
def ZK:afz acs:=λg b h=>by
 obtain⟨n,hn⟩:=cT (show lim (λn=>N9 n g.1 g.2.1 g.2.2.1)=I b from h);exact(JE n) g b hn
def auf(F:aW):aW:=YY acs F
def Zw{F:aW}(h:aV wJ F):aV wJ (auf F):=Q6 ZK h
def F78:aW:=(auf (aci (aeb (acH (atS (apv (e90 cZ)))))))
structure EI where
 (t4 t6:Int)
 b0:aP
 b1:cV
def We:Td 0 EI:= .c [] [1,4,5,6] (.r 0 2 (ec 1 (qp 0 0) (ec 4 aL (ec 5 (qp 1 0) (ec 6 aL en)))) (sb 0 26 (lg 26) (sb 1 139 (lg 139) sn)) (λz=>⟨z.1.2.1,z.1.t.2.1,z.2.1,z.t.1⟩) (λx=>(((),x.t4,(),x.t6,()),(x.b0,x.b1,()))))
def Rf(p:EI):af (af EI):=
 bif O (p.t6<p.t4)then if 0<=p.t6/\p.t6<p.b0.ak.length then bif p.b0.ak[p.t6.toNat]!.fName.toList==p.b1.fName.toList then I (S)else I (I (EI.mk p.t4 (i64.wrap (p.t6+1)) p.b0 (cV.mk p.b1.fName p.b1.ag p.b1.ah (ax.mk p.b1.aB.bt p.b1.aB.fN p.b1.aB.aq))))else S else I (S)
def Kb:=bG (Rf)
structure Il where
 t4:Int
 b0:aP
def W6:Td 0 Il:= .c [] [1,4] (.r 0 1 (ec 1 (qp 0 0) (ec 4 aL en)) (sb 0 26 (lg 26) sn) (λz=>⟨z.1.2.1,z.2.1⟩) (λx=>(((),x.t4,()),(x.b0,()))))
def En(p:Il):af (af Il):=
 bif O (p.t4<p.b0.ak.length)then if 0<=p.t4/\p.t4<p.b0.ak.length then match Nc p.b0.ak[p.t4.toNat]!.fName with|S=>S|I r1=>bif bif r1 then G else J then I (S)else match Kb (EI.mk p.t4 0 p.b0 (cV.mk p.b0.ak[p.t4.toNat]!.fName p.b0.ak[p.t4.toNat]!.ag p.b0.ak[p.t4.toNat]!.ah (ax.mk p.b0.ak[p.t4.toNat]!.aB.bt p.b0.ak[p.t4.toNat]!.aB.fN p.b0.ak[p.t4.toNat]!.aB.aq)))with|S=>S|I r2=>bif O (r2.t6<r2.t4)then if 0<=r2.t6/\r2.t6<r2.b0.ak.length then bif r2.b0.ak[r2.t6.toNat]!.fName.toList==r2.b1.fName.toList then I (S)else S else S else bif bif Fq r2.b1.ag r2.b1.ah then G else J then I (S)else match Fw r2.b0.ai (ax.mk r2.b1.aB.bt r2.b1.aB.fN r2.b1.aB.aq) J with|S=>S|I r3=>bif bif O (r3=0)then G else J then I (S)else I (I (Il.mk (i64.wrap (r2.t4+1)) r2.b0))else S else I (S)
def afX:An:=(noTwo (.two (noTwo (noTwo (.two (noTwo (We.lp Kb .no)) .no))) .no))
def QI:=bG (En)
abbrev E78:=Int
def d78:Td 0 E78:= .c [] [2] (.r 0 0 (ec 2 aL en) sn (λz=>z.1.1) (λx=>((x,()),(()))))
def ave:∀f∈([]:aa Nat),bC (F78) f:=aG
def m78(a0:aP):af E78:=
 match ZO a0 with|S=>S|I r4=>bif bif r4 then G else J then I 4 else match adQ a0.ai with|S=>S|I r5=>bif bif O (r5=0)then G else J then I (r5)else match QI (Il.mk 0 a0)with|S=>S|I r6=>bif O (r6.t4<r6.b0.ak.length)then if 0<=r6.t4/\r6.t4<r6.b0.ak.length then match Nc r6.b0.ak[r6.t4.toNat]!.fName with|S=>S|I r7=>bif bif r7 then G else J then I 7 else match Kb (EI.mk r6.t4 0 r6.b0 (cV.mk r6.b0.ak[r6.t4.toNat]!.fName r6.b0.ak[r6.t4.toNat]!.ag r6.b0.ak[r6.t4.toNat]!.ah (ax.mk r6.b0.ak[r6.t4.toNat]!.aB.bt r6.b0.ak[r6.t4.toNat]!.aB.fN r6.b0.ak[r6.t4.toNat]!.aB.aq)))with|S=>S|I r8=>bif O (r8.t6<r8.t4)then if 0<=r8.t6/\r8.t6<r8.b0.ak.length then bif r8.b0.ak[r8.t6.toNat]!.fName.toList==r8.b1.fName.toList then I 8 else S else S else bif bif Fq r8.b1.ag r8.b1.ah then G else J then I 3 else match Fw r8.b0.ai (ax.mk r8.b1.aB.bt r8.b1.aB.fN r8.b1.aB.aq) J with|S=>S|I r9=>bif bif O (r9=0)then G else J then I (r9)else S else S else match acs r6.b0 r6.b0.bK J with|S=>S|I r10=>bif bif O (r10=0)then G else J then I (r10)else match r90 r6.b0.bK with|S=>S|I r11=>match bif O (4096<r11.fst)then I J else bif O (8<r11.snd.fst)then I J else I (O (67108864<r11.snd.snd))with|S=>S|I r12=>bif r12 then I 4 else I 0
def e78:=eL wJ 78 G (lc (qg 26) ln) d78 (λg=>m78 g.1)
def akH:EO e78:=λh=>kL (F:=F78) (an:=(noTwo (noTwo (noTwo (noTwo (.two (noTwo (W6.lp QI afX)) (noTwo (noTwo (noTwo (.two (.two (.rb [] 86) .no) .no)))))))))) (l:=[(bg f78 0,(W6.lp QI afX)),(bg f78 1,(We.lp Kb .no)),(.skip,(.rb [] 86))]) func78 (Zw (Ow (PK (PJ (adV (ZZ (ai9 aQ))))))) (aC (aO W6) (aC (aO We) (aC ave aG))) h
def Iu:EP e78:=λh=>kP h
def arS:aW:=cZ
abbrev ap7:=aH
def d103:Td 0 ap7:= .c [] [0] (.r 0 1 (ec 0 (qp 0 0) en) (sb 0 34 (lg 34) sn) (λz=>z.2.1) (λx=>(((),()),(x,()))))
def aoJ:=ln
def ahH:An:= .no
def oD:ap7:=
 aH.mk (1) (0) (0)
def awZ:bQ wJ (arS) 300 (ahH) 103 (aoJ.c ()) [] 0 d103.rd=I (oD):=by kernel_rfl
def Fe:=eL wJ 103 G aoJ d103 (λ_=>I (oD))
def jQ:EO Fe:=λh=>kL (F:=arS) (an:=ahH) func103 aQ aG h (c:=λ_=>awZ)
def iu:EP Fe:=λh=>kP h
def ai3:aW:=cZ
abbrev ajJ:=Bool
def d162:Td 0 ajJ:= .c [] [2] (.r 0 0 (ec 2 qb en) sn (λz=>z.1.1) (λx=>((x,()),(()))))
def ar3:=(aM ln)
def afQ:An:=(noTwo (.two (.rb [] 2) .no))
def aoe:∀f∈([]:aa Nat),bC (ai3) f:=aG
def mC(a0:Int):ajJ:=
 let r1:Bool:=bif O (-1099511627776<=a0)then O (a0<=1099511627776)else G;r1
def awl(a0:Int):bQ wJ (ai3) 300 (afQ) 162 (ar3.c (a0,())) [] 0 d162.rd=I (mC a0):=by
 refine Eq.trans (b:=(
  match bif O (-1099511627776<=a0)then I (O (a0<=1099511627776))else I (G)with|S=>S|I r1=>I (r1):af ajJ)) (by kernel_rfl) ?_
 simp only[mC,ct,cF]
def VI:=eL wJ 162 G ar3 d162 (λg=>I (mC g.1))
def pH:EO VI:=λh=>kL (F:=ai3) (an:=afQ) (l:=[(.skip,(.rb [] 2))]) func162 aQ (aC aoe aG) h (c:=λg=>awl g.1)
def uw:EP VI:=λh=>kP h
def F84:aW:=(VI (Fe cZ))
abbrev E84:=Bool
def d84:Td 0 E84:= .c [] [2] (.r 0 0 (ec 2 qb en) sn (λz=>z.1.1) (λx=>((x,()),(()))))
def aoT:∀f∈([162]:aa Nat),bC (F84) f:=(aC (uw (iu bH)) aG)
def Tz(a0:aH):af E84:=
 bif bif O (a0.ag=oD.ag)then bif O (a0.ah=oD.ah)then bif O (a0.aj=oD.aj)then J else G else G else G then I J else match bif bif mC a0.ag then G else J then I J else I (bif mC a0.ah then G else J)with|S=>S|I r1=>bif r1 then I G else bif O (a0.ag=a0.ah)then I (O (a0.aj=0))else match bif O (a0.ag<a0.ah)then bif O (1<=a0.aj)then if¬a0.aj=0then I (O ((i64.wrap (a0.ah-a0.ag)).tmod a0.aj=0))else S else I G else I G with|S=>S|I r2=>I (r2)
def e84:=eL wJ 84 G (lc (qg 34) ln) d84 (λg=>Tz g.1)
def rA:EO e84:=λh=>kL (F:=F84) (an:=(noTwo (noTwo (.two (.two (.rb [162] 15) .no) (noTwo (.two (.rb [162] 2) .no)))))) (l:=[(.skip,(.rb [162] 15)),(.skip,(.rb [162] 2))]) func84 (pH (jQ aQ)) (aC aoT (aC aoT aG)) h
def gK:EP e84:=λh=>kP h
def F32:aW:=(e84 cZ)
abbrev E32:=Bool
def d32:Td 0 E32:= .c [] [4] (.r 0 0 (ec 4 qb en) sn (λz=>z.1.1) (λx=>((x,()),(()))))
def pu32:∀f∈([84]:aa Nat),bC (F32) f:=(aC (gK bH) aG)
def m32(a0:aH)(a1:Int):af E32:=
 match match Tz a0 with|S=>S|I r1=>bif bif r1 then G else J then I J else bif O (a1<a0.ag)then I J else I (O (a0.ah<a1))with|S=>S|I r2=>bif r2 then I G else match bif O (a0.aj=0)then I J else if¬a0.aj=0then I (O ((i64.wrap (a1-a0.ag)).tmod a0.aj=0))else S with|S=>S|I r3=>I (r3)
def e32:=eL wJ 32 G (lc (qg 34) (aM ln)) d32 (λg=>m32 g.1 g.2.1)
def BN:EO e32:=λh=>kL (F:=F32) (an:=(noTwo (.two (.two (.rb [84] 19) .no) (.two (.rb [84] 4) .no)))) (l:=[(.skip,(.rb [84] 19)),(.skip,(.rb [84] 4))]) func32 (rA aQ) (aC pu32 (aC pu32 aG)) h
def Vg:EP e32:=λh=>kP h
abbrev E36:=aH
def d36:Td 0 E36:= .c [] [2] (.r 0 1 (ec 2 (qp 0 0) en) (sb 0 34 (lg 34) sn) (λz=>z.2.1) (λx=>(((),()),(x,()))))
def TD(a0:Int):E36:=
 aH.mk a0 a0 (0)
def e36:=eL wJ 36 G (aM ln) d36 (λg=>I (TD g.1))
def H8:EO e36:=λh=>kL (an:= .no) func36 aQ aG h
def apK:aW:=(VI (Fe cZ))
abbrev aoj:=aH×Int
def d101:Td 0 aoj:= .c [] [6,7] (.r 0 1 (ec 6 (qp 0 0) (ec 7 aL en)) (sb 0 34 (lg 34) sn) (λz=>(z.2.1,z.1.2.1)) (λx=>(((),x.2,()),(x.1,()))))
def aoN:∀f∈([162]:aa Nat),bC (apK) f:=(aC (uw (iu bH)) aG)
def iF(a0:Int)(a1:Int)(a2:Int):af aoj:=
 match bif bif mC a0 then G else J then I J else bif bif mC a1 then G else J then I J else I (O (a2<1))with|S=>S|I r1=>bif r1 then I (aH.mk 0 0 0,3)else bif O (a1<a0)then I (oD,0)else if¬a2=0then bif O (a0=i64.wrap (a0+i64.wrap (i64.wrap ((i64.wrap (a1-a0)).tdiv a2)*a2)))then I ((aH.mk a0 (i64.wrap (a0+i64.wrap (i64.wrap ((i64.wrap (a1-a0)).tdiv a2)*a2))) 0,0))else I ((aH.mk a0 (i64.wrap (a0+i64.wrap (i64.wrap ((i64.wrap (a1-a0)).tdiv a2)*a2))) a2,0))else S
def S1:=eL wJ 101 G (aM (aM (aM ln))) d101 (λg=>iF g.1 g.2.1 g.t.1)
def AD:EO S1:=λh=>kL (F:=apK) (an:=(noTwo (.two (.two (.rb [162] 19) .no) .no))) (l:=[(.skip,(.rb [162] 19))]) func101 (pH (jQ aQ)) (aC aoN aG) h
def l5:EP S1:=λh=>kP h
abbrev aoc:=Bool
def d102:Td 0 aoc:= .c [] [2] (.r 0 0 (ec 2 qb en) sn (λz=>z.1.1) (λx=>((x,()),(()))))
def kg(a0:aH):aoc:=
 O (a0.ah<a0.ag)
def Ig:=eL wJ 102 G (lc (qg 34) ln) d102 (λg=>I (kg g.1))
def kI:EO Ig:=λh=>kL (an:= .no) func102 aQ aG h
def gx:EP Ig:=λh=>kP h
def F41:aW:=(Fe (Ig (S1 cZ)))
abbrev E41:=aH
def d41:Td 0 E41:= .c [] [4] (.r 0 1 (ec 4 (qp 0 0) en) (sb 0 34 (lg 34) sn) (λz=>z.2.1) (λx=>(((),()),(x,()))))
def axD:∀f∈([102]:aa Nat),bC (F41) f:=(aC (iu (gx (l5 bH))) aG)
def m41(a0:aH)(a1:Int):af E41:=
 match bif kg a0 then I (J)else I (O (a1<a0.ag))with|S=>S|I r1=>bif r1 then I (oD)else bif O (a0.ah<=a1)then I (a0)else match iF a0.ag a1 a0.aj with|S=>S|I r2=>I (r2.fst)
def e41:=eL wJ 41 G (lc (qg 34) (aM ln)) d41 (λg=>m41 g.1 g.2.1)
def Vc:EO e41:=λh=>kL (F:=F41) (an:=(noTwo (.two (.two (.rb [102] 14) .no) .no))) (l:=[(.skip,(.rb [102] 14))]) func41 (jQ (kI (AD aQ))) (aC axD aG) h
def tg:EP e41:=λh=>kP h
def F42:aW:=(Fe (Ig (S1 cZ)))
abbrev E42:=aH
def d42:Td 0 E42:= .c [] [4] (.r 0 1 (ec 4 (qp 0 0) en) (sb 0 34 (lg 34) sn) (λz=>z.2.1) (λx=>(((),()),(x,()))))
def avU:∀f∈([102]:aa Nat),bC (F42) f:=(aC (iu (gx (l5 bH))) aG)
def TA(a0:aH)(a1:Int):af E42:=
 match bif kg a0 then I J else I (O (a0.ah<=a1))with|S=>S|I r1=>bif r1 then I (oD)else bif O (a1<a0.ag)then I (a0)else if¬a0.aj=0then match iF (i64.wrap (a0.ag+i64.wrap (i64.wrap (i64.wrap ((i64.wrap (a1-a0.ag)).tdiv a0.aj)+1)*a0.aj))) a0.ah a0.aj with|S=>S|I r2=>I (r2.fst)else S
def e42:=eL wJ 42 G (lc (qg 34) (aM ln)) d42 (λg=>TA g.1 g.2.1)
def NS:EO e42:=λh=>kL (F:=F42) (an:=(noTwo (.two (.two (.rb [102] 14) .no) .no))) (l:=[(.skip,(.rb [102] 14))]) func42 (jQ (kI (AD aQ))) (aC avU aG) h
def sL:EP e42:=λh=>kP h
structure mS where
 (t0 t1:Int)
def Nw:Td 0 mS:= .c [] [0,1] (.r 0 0 (ec 0 aL (ec 1 aL en)) sn (λz=>⟨z.1.1,z.1.2.1⟩) (λx=>((x.t0,x.t1,()),(()))))
def rf(p:mS):af (af mS):=
 bif bif O (p.t1=0)then G else J then if¬p.t1=0then I (I (mS.mk p.t1 (p.t0.tmod p.t1)))else S else I (S)
def B5:=bG (rf)
abbrev atY:=Int
def d239:Td 0 atY:= .c [] [4] (.r 0 0 (ec 4 aL en) sn (λz=>z.1.1) (λx=>((x,()),(()))))
def wX(a0:Int)(a1:Int):af atY:=
 match B5 (mS.mk a0 a1)with|S=>S|I r1=>bif bif O (r1.t1=0)then G else J then if¬r1.t1=0then S else S else I (r1.t0)
def amf:=eL wJ 239 G (aM (aM ln)) d239 (λg=>wX g.1 g.2.1)
def Gf:EO amf:=λh=>kL (an:=(noTwo (.two (Nw.lp B5 .no) .no))) (l:=[(bg f239 0,(Nw.lp B5 .no))]) func239 aQ (aC (aO Nw) aG) h
def Tj:EP amf:=λh=>kP h
def avf:aW:=cZ
abbrev amO:=Int
def d240:Td 0 amO:= .c [] [4] (.r 0 0 (ec 4 aL en) sn (λz=>z.1.1) (λx=>((x,()),(()))))
def ati:=(aM (aM ln))
def agW:An:= .no
def iB(a0:Int)(a1:Int):amO:=
 bif O (a0<a1)then i64.wrap (a1-a0)else i64.wrap (a0-a1)
def axR(a0:Int)(a1:Int):bQ wJ (avf) 300 (agW) 240 (ati.c (a0,a1,())) [] 0 d240.rd=I (iB a0 a1):=by
 refine Eq.trans (b:=(
  bif O (a0<a1)then I (i64.wrap (a1-a0))else I (i64.wrap (a0-a1)):af amO)) (by kernel_rfl) ?_
 simp only[iB,ct,cF]
def XO:=eL wJ 240 G ati d240 (λg=>I (iB g.1 g.2.1))
def tR:EO XO:=λh=>kL (an:=agW) func240 aQ aG h (c:=λg=>axR g.1 g.2.1)
def lF:EP XO:=λh=>kP h
structure iU where
 t0:List Int
 t6:Int
 (b0 b1:aH)
def NJ:Td 0 iU:= .c [] [0,2,5,6] (.r 0 2 (ec 0 (ql 3) (ec 2 (qp 0 0) (ec 5 (qp 1 0) (ec 6 aL en)))) (sb 0 34 (lg 34) (sb 1 34 (lg 34) sn)) (λz=>⟨z.1.1,z.1.t.2.1,z.2.1,z.t.1⟩) (λx=>((x.t0,(),(),x.t6,()),(x.b0,x.b1,()))))
def rL(p:iU):af (af iU):=
 bif O (p.t6<p.t0.length)then if 0<=p.t6/\p.t6<p.t0.length then if(0:Int)<=(0:Int)/\(0:Int)<p.t0.length then match wX p.b1.aj (iB p.t0[p.t6.toNat]! p.t0[0]!)with|S=>S|I r1=>if 0<=p.t6/\p.t6<p.t0.length then bif O (((p.t0,(),(),p.t6,()),p.b0,p.b1,()).fst.fst[((p.t0,(),(),p.t6,()),p.b0,p.b1,()).fst.snd.snd.snd.fst.toNat]! <((p.t0,(),(),p.t6,()),p.b0,p.b1,()).snd.snd.fst.ag)then if 0<=p.t6/\p.t6<p.t0.length then if 0<=p.t6/\p.t6<p.t0.length then bif O (((p.t0,(),(),p.t6,()),p.b0,p.b1,()).snd.snd.fst.ah<((p.t0,(),(),p.t6,()),p.b0,p.b1,()).fst.fst[((p.t0,(),(),p.t6,()),p.b0,p.b1,()).fst.snd.snd.snd.fst.toNat]!)then if 0<=p.t6/\p.t6<p.t0.length then I (I (iU.mk p.t0 (i64.wrap (p.t6+1)) p.b0 (aH.mk p.t0[p.t6.toNat]! p.t0[p.t6.toNat]! r1)))else S else I (I (iU.mk p.t0 (i64.wrap (p.t6+1)) p.b0 (aH.mk p.t0[p.t6.toNat]! p.b1.ah r1)))else S else S else if 0<=p.t6/\p.t6<p.t0.length then bif O (((p.t0,(),(),p.t6,()),p.b0,p.b1,()).snd.snd.fst.ah<((p.t0,(),(),p.t6,()),p.b0,p.b1,()).fst.fst[((p.t0,(),(),p.t6,()),p.b0,p.b1,()).fst.snd.snd.snd.fst.toNat]!)then if 0<=p.t6/\p.t6<p.t0.length then I (I (iU.mk p.t0 (i64.wrap (p.t6+1)) p.b0 (aH.mk p.b1.ag p.t0[p.t6.toNat]! r1)))else S else I (I (iU.mk p.t0 (i64.wrap (p.t6+1)) p.b0 (aH.mk p.b1.ag p.b1.ah r1)))else S else S else S else S else I (S)
def GL:=bG (rL)
structure nY where
 t0:List Int
 t4:Int
 b0:aH
def Lj:Td 0 nY:= .c [] [0,2,4] (.r 0 1 (ec 0 (ql 3) (ec 2 (qp 0 0) (ec 4 aL en))) (sb 0 34 (lg 34) sn) (λz=>⟨z.1.1,z.1.t.1,z.2.1⟩) (λx=>((x.t0,(),x.t4,()),(x.b0,()))))
def vz(p:nY):af (af nY):=
 bif O (p.t4<p.t0.length)then if 0<=p.t4/\p.t4<p.t0.length then bif bif mC p.t0[p.t4.toNat]! then G else J then I (S)else I (I (nY.mk p.t0 (i64.wrap (p.t4+1)) p.b0))else S else I (S)
def Hq:=bG (vz)
abbrev atV:=aH×Int
def d238:Td 0 atV:= .c [] [2,3] (.r 0 1 (ec 2 (qp 0 0) (ec 3 aL en)) (sb 0 34 (lg 34) sn) (λz=>(z.2.1,z.1.2.1)) (λx=>(((),x.2,()),(x.1,()))))
def SS(a0:aa Int):af atV:=
 match Hq (nY.mk a0 0 (aH.mk 0 0 0))with|S=>S|I r2=>bif O (r2.t4<r2.t0.length)then if 0<=r2.t4/\r2.t4<r2.t0.length then bif bif mC r2.t0[r2.t4.toNat]! then G else J then I (aH.mk 0 0 0,3)else S else S else bif O ((r2.t0.length:Int)=0)then I (oD,0)else if(0:Int)<=(0:Int)/\(0:Int)<r2.t0.length then if(0:Int)<=(0:Int)/\(0:Int)<r2.t0.length then match GL (iU.mk r2.t0 1 r2.b0 (aH.mk r2.t0[0]! r2.t0[0]! (0)))with|S=>S|I r3=>bif O (r3.t6<r3.t0.length)then if 0<=r3.t6/\r3.t6<r3.t0.length then if(0:Int)<=(0:Int)/\(0:Int)<r3.t0.length then match wX r3.b1.aj (iB r3.t0[r3.t6.toNat]! r3.t0[0]!)with|S=>S|I r4=>if 0<=r3.t6/\r3.t6<r3.t0.length then bif O (((r3.t0,(),(),r3.t6,()),r3.b0,r3.b1,()).fst.fst[((r3.t0,(),(),r3.t6,()),r3.b0,r3.b1,()).fst.snd.snd.snd.fst.toNat]! <((r3.t0,(),(),r3.t6,()),r3.b0,r3.b1,()).snd.snd.fst.ag)then if 0<=r3.t6/\r3.t6<r3.t0.length then if 0<=r3.t6/\r3.t6<r3.t0.length then bif O (((r3.t0,(),(),r3.t6,()),r3.b0,r3.b1,()).snd.snd.fst.ah<((r3.t0,(),(),r3.t6,()),r3.b0,r3.b1,()).fst.fst[((r3.t0,(),(),r3.t6,()),r3.b0,r3.b1,()).fst.snd.snd.snd.fst.toNat]!)then if 0<=r3.t6/\r3.t6<r3.t0.length then S else S else S else S else S else if 0<=r3.t6/\r3.t6<r3.t0.length then bif O (((r3.t0,(),(),r3.t6,()),r3.b0,r3.b1,()).snd.snd.fst.ah<((r3.t0,(),(),r3.t6,()),r3.b0,r3.b1,()).fst.fst[((r3.t0,(),(),r3.t6,()),r3.b0,r3.b1,()).fst.snd.snd.snd.fst.toNat]!)then if 0<=r3.t6/\r3.t6<r3.t0.length then S else S else S else S else S else S else S else I (r3.b1,0)else S else S
def av2:=eL wJ 238 G (lc (ql 3) ln) d238 (λg=>SS g.1)
def GP:EO av2:=λh=>kL (an:=(noTwo (.two (noTwo (Lj.lp Hq .no)) (noTwo (noTwo (.two (noTwo (NJ.lp GL .no)) .no)))))) (l:=[(bg f238 0,(Lj.lp Hq .no)),(bg f238 1,(NJ.lp GL .no))]) func238 (tR (Gf (pH (jQ aQ)))) (aC (aO Lj) (aC (aO NJ) aG)) h
abbrev ase:=aH
def d163:Td 0 ase:= .c [] [4] (.r 0 1 (ec 4 (qp 0 0) en) (sb 0 34 (lg 34) sn) (λz=>z.2.1) (λx=>(((),()),(x,()))))
def jH(a0:aH)(a1:aH):af ase:=
 bif kg a0 then I (a1)else bif kg a1 then I (a0)else match SS [a0.ag,a0.ah,a1.ag,a1.ah]with|S=>S|I r1=>bif O (r1.fst.ag<r1.fst.ah)then match wX a0.aj a1.aj with|S=>S|I r2=>match wX r2 (iB a0.ag a1.ag)with|S=>S|I r3=>I (aH.mk r1.fst.ag r1.fst.ah r3)else I (r1.fst)
def RL:=eL wJ 163 G (lc (qg 34) (lc (qg 34) ln)) d163 (λg=>jH g.1 g.2.1)
def p7:EO RL:=λh=>kL (an:= .no) func163 (tR (Gf (GP (kI aQ)))) aG h
def pR:EP RL:=λh=>kP h
def F86:aW:=(RL (VI (Ig (e84 (e42 (e41 cZ))))))
abbrev E86:=aH×Int
def d86:Td 0 E86:= .c [] [6,7] (.r 0 1 (ec 6 (qp 0 0) (ec 7 aL en)) (sb 0 34 (lg 34) sn) (λz=>(z.2.1,z.1.2.1)) (λx=>(((),x.2,()),(x.1,()))))
def awj:∀f∈([162]:aa Nat),bC (F86) f:=(aC (pR (uw (gx (gK (sL (tg bH)))))) aG)
def X5(a0:aH)(a1:Int)(a2:Int):af E86:=
 match Tz a0 with|S=>S|I r1=>bif bif r1 then G else J then I ((aH.mk (0) (0) (0),1))else match bif bif mC a1 then G else J then I (J)else bif bif mC a2 then G else J then I (J)else I (O (a2<a1))with|S=>S|I r2=>bif r2 then I ((aH.mk (0) (0) (0),3))else match TA a0 (i64.wrap (a1-1))with|S=>S|I r3=>match m41 r3 a2 with|S=>S|I r4=>match m41 a0 a1 with|S=>S|I r5=>bif bif kg r5 then G else J then match jH r4 (aH.mk a1 a1 (0))with|S=>S|I r6=>match TA a0 a2 with|S=>S|I r7=>bif bif kg r7 then G else J then match jH r6 (aH.mk a2 a2 (0))with|S=>S|I r8=>I ((r8,0))else I ((r6,0))else match TA a0 a2 with|S=>S|I r9=>bif bif kg r9 then G else J then match jH r4 (aH.mk a2 a2 (0))with|S=>S|I r10=>I ((r10,0))else I ((r4,0))
def e86:=eL wJ 86 G (lc (qg 34) (aM (aM ln))) d86 (λg=>X5 g.1 g.2.1 g.t.1)
def NY:EO e86:=λh=>kL (F:=F86) (an:=(noTwo (noTwo (.two (.two (.rb [162] 25) .no) .no)))) (l:=[(.skip,(.rb [162] 25))]) func86 (p7 (pH (kI (rA (NS (Vc aQ)))))) (aC awj aG) h
def F43:aW:=(Ig (e84 cZ))
abbrev E43:=Int
def d43:Td 0 E43:= .c [] [2] (.r 0 0 (ec 2 aL en) sn (λz=>z.1.1) (λx=>((x,()),(()))))
def axa:∀f∈([84,102]:aa Nat),bC (F43) f:=(aC (gx (gK bH)) (aC (gx (gK bH)) aG))
def qy(a0:aH):af E43:=
 match match Tz a0 with|S=>S|I r1=>bif bif r1 then G else J then I J else I (kg a0)with|S=>S|I r2=>bif r2 then I 0 else bif O (a0.aj=0)then I 1 else if¬a0.aj=0then I (i64.wrap (i64.wrap ((i64.wrap (a0.ah-a0.ag)).tdiv a0.aj)+1))else S
def e43:=eL wJ 43 G (lc (qg 34) ln) d43 (λg=>qy g.1)
def m7:EO e43:=λh=>kL (F:=F43) (an:=(noTwo (.two (.two (.rb [84,102] 9) .no) .no))) (l:=[(.skip,(.rb [84,102] 9))]) func43 (kI (rA aQ)) (aC axa aG) h
def kr:EP e43:=λh=>kP h
abbrev an1:=Bool×Bool
def d165:Td 0 an1:= .c [] [2,3] (.r 0 0 (ec 2 qb (ec 3 qb en)) sn (λz=>(z.1.1,z.1.2.1)) (λx=>((x.1,x.2,()),(()))))
def BG(a0:aH):af an1:=
 match m32 a0 (0)with|S=>S|I r1=>match qy a0 with|S=>S|I r2=>bif O (1<r2)then I ((r1,J))else match qy a0 with|S=>S|I r3=>bif O (r3=1)then I ((r1,bif r1 then G else J))else I ((r1,G))
def Ta:=eL wJ 165 G (lc (qg 34) ln) d165 (λg=>BG g.1)
def sk:EO Ta:=λh=>kL (an:= .no) func165 (m7 (BN aQ)) aG h
def Sa:EP Ta:=λh=>kP h
def aiv:aW:=cZ
abbrev akj:=aH
def d241:Td 0 akj:= .c [] [4] (.r 0 1 (ec 4 (qp 0 0) en) (sb 0 34 (lg 34) sn) (λz=>z.2.1) (λx=>(((),()),(x,()))))
def aq2:=(lc qb (lc qb ln))
def agI:An:=(noTwo (.two (.two (.rb [] 8) .no) .no))
def atk:∀f∈([]:aa Nat),bC (aiv) f:=aG
def iy(a0:Bool)(a1:Bool):akj:=
 let r1:Bool:=bif a0 then a1 else G;bif r1 then aH.mk (0) (1) (1)else bif a1 then aH.mk (1) (1) (0)else aH.mk (0) (0) (0)
def axr(a0:Bool)(a1:Bool):bQ wJ (aiv) 300 (agI) 241 (aq2.c (a0,a1,())) [] 0 d241.rd=I (iy a0 a1):=by
 refine Eq.trans (b:=(
  match bif a0 then I (a1)else I (G)with|S=>S|I r1=>bif r1 then I (aH.mk (0) (1) (1))else bif a1 then I (aH.mk (1) (1) (0))else I (aH.mk (0) (0) (0)):af akj)) (by kernel_rfl) ?_
 simp only[iy,ct,cF]
def aln:=eL wJ 241 G aq2 d241 (λg=>I (iy g.1 g.2.1))
def Qe:EO aln:=λh=>kL (F:=aiv) (an:=agI) (l:=[(.skip,(.rb [] 8))]) func241 aQ (aC atk aG) h (c:=λg=>axr g.1 g.2.1)
def Sf:EP aln:=λh=>kP h
def apM:aW:=(aln (Ta (Fe (Ig (e84 cZ)))))
abbrev aqs:=aH×Int
def d164:Td 0 aqs:= .c [] [4,5] (.r 0 1 (ec 4 (qp 0 0) (ec 5 aL en)) (sb 0 34 (lg 34) sn) (λz=>(z.2.1,z.1.2.1)) (λx=>(((),x.2,()),(x.1,()))))
def as7:∀f∈([84]:aa Nat),bC (apM) f:=(aC (Sf (Sa (iu (gx (gK bH))))) aG)
def Vp(a0:Int)(a1:aH):af aqs:=
 match match Tz a1 with|S=>S|I r1=>bif bif r1 then G else J then I (J)else bif bif O (a0=6)then G else J then I (bif O (a0=7)then G else J)else I (G)with|S=>S|I r2=>bif r2 then I ((aH.mk (0) (0) (0),1))else bif kg a1 then I ((oD,0))else bif O (a0=6)then I ((aH.mk (i64.wrap (0-a1.ah)) (i64.wrap (0-a1.ag)) a1.aj,0))else match BG a1 with|S=>S|I r3=>I ((iy r3.snd r3.fst,0))
def aqX:=eL wJ 164 G (aM (lc (qg 34) ln)) d164 (λg=>Vp g.1 g.2.1)
def Z9:EO aqX:=λh=>kL (F:=apM) (an:=(noTwo (.two (.two (.rb [84] 18) .no) .no))) (l:=[(.skip,(.rb [84] 18))]) func164 (Qe (sk (jQ (kI (rA aQ))))) (aC as7 aG) h
def axE:aW:=cZ
abbrev ak3:=Bool
def d242:Td 0 ak3:= .c [] [2] (.r 0 0 (ec 2 qb en) sn (λz=>z.1.1) (λx=>((x,()),(()))))
def apV:=(aM ln)
def afT:An:= .no
def DC(a0:Int):ak3:=
 bif O (a0=8)then J else bif O (a0=9)then J else bif O (a0=10)then J else bif O (a0=11)then J else bif O (a0=12)then J else bif O (a0=13)then J else bif O (a0=14)then J else bif O (a0=15)then J else bif O (a0=16)then J else bif O (a0=17)then J else bif O (a0=18)then J else bif O (a0=19)then J else bif O (a0=20)then J else bif O (a0=21)then J else bif O (a0=22)then J else G
def avl(a0:Int):bQ wJ (axE) 300 (afT) 242 (apV.c (a0,())) [] 0 d242.rd=I (DC a0):=by
 refine Eq.trans (b:=(
  bif O (a0=8)then I (J)else bif O (a0=9)then I (J)else bif O (a0=10)then I (J)else bif O (a0=11)then I (J)else bif O (a0=12)then I (J)else bif O (a0=13)then I (J)else bif O (a0=14)then I (J)else bif O (a0=15)then I (J)else bif O (a0=16)then I (J)else bif O (a0=17)then I (J)else bif O (a0=18)then I (J)else bif O (a0=19)then I (J)else bif O (a0=20)then I (J)else bif O (a0=21)then I (J)else bif O (a0=22)then I (J)else I (G):af ak3)) (by kernel_rfl) ?_
 simp only[DC,ct,cF]
def akO:=eL wJ 242 G apV d242 (λg=>I (DC g.1))
def Zc:EO akO:=λh=>kL (an:=afT) func242 aQ aG h (c:=λg=>avl g.1)
def uW:EP akO:=λh=>kP h
def at5:aW:=(XO cZ)
abbrev apE:=Int×Bool
def d283:Td 0 apE:= .c [] [4,5] (.r 0 0 (ec 4 aL (ec 5 qb en)) sn (λz=>(z.1.1,z.1.2.1)) (λx=>((x.1,x.2,()),(()))))
def atp:∀f∈([240]:aa Nat),bC (at5) f:=(aC (lF bH) aG)
def Z4(a0:Int)(a1:Int):af apE:=
 match bif bif O (a0=0)then G else J then bif bif O (a1=0)then G else J then if¬iB a1 ((0:Int))=0then I (O (i64.wrap ((1099511627776:Int).tdiv (iB a1 0))<iB a0 0))else S else I G else I G with|S=>S|I r1=>bif r1 then I (0,G)else I ((i64.wrap (a0*a1),J))
def axB:=eL wJ 283 G (aM (aM ln)) d283 (λg=>Z4 g.1 g.2.1)
def YI:EO axB:=λh=>kL (F:=at5) (an:=(noTwo (.two (.two (.rb [240] 19) .no) .no))) (l:=[(.skip,(.rb [240] 19))]) func283 (tR aQ) (aC atp aG) h
def auk:aW:=cZ
abbrev arz:=Int
def d284:Td 0 arz:= .c [] [4] (.r 0 0 (ec 4 aL en) sn (λz=>z.1.1) (λx=>((x,()),(()))))
def apy:∀f∈([]:aa Nat),bC (auk) f:=aG
def ae1(a0:Int)(a1:Int):af arz:=
 bif O (a1=0)then I 0 else if¬a1=0then match if¬a1=0then bif bif O (a0.tmod a1=0)then G else J then I (bif O (a0<0)==O (a1<0)then G else J)else I G else S with|S=>S|I r1=>bif r1 then I (i64.wrap (i64.wrap (a0.tdiv a1)-1))else I (i64.wrap (a0.tdiv a1))else S
def axQ:=eL wJ 284 G (aM (aM ln)) d284 (λg=>ae1 g.1 g.2.1)
def YH:EO axQ:=λh=>kL (F:=auk) (an:=(noTwo (noTwo (noTwo (.two (.two (.rb [] 21) .no) .no))))) (l:=[(.skip,(.rb [] 21))]) func284 aQ (aC apy aG) h
def av6:aW:=cZ
abbrev am5:=Int
def d285:Td 0 am5:= .c [] [2] (.r 0 0 (ec 2 aL en) sn (λz=>z.1.1) (λx=>((x,()),(()))))
def aqa:=(lc qb ln)
def af4:An:= .no
def sv(a0:Bool):am5:=
 bif a0 then 1 else 0
def ayd(a0:Bool):bQ wJ (av6) 300 (af4) 285 (aqa.c (a0,())) [] 0 d285.rd=I (sv a0):=by
 refine Eq.trans (b:=(
  bif a0 then I (1)else I (0):af am5)) (by kernel_rfl) ?_
 simp only[sv,ct,cF]
def avM:=eL wJ 285 G aqa d285 (λg=>I (sv g.1))
def aft:EO avM:=λh=>kL (an:=af4) func285 aQ aG h (c:=λg=>ayd g.1)
abbrev atF:=Int×Bool
def d245:Td 0 atF:= .c [] [6,7] (.r 0 0 (ec 6 aL (ec 7 qb en)) sn (λz=>(z.1.1,z.1.2.1)) (λx=>((x.1,x.2,()),(()))))
def Cz(a0:Int)(a1:Int)(a2:Int):af atF:=
 bif O (a0=8)then I ((i64.wrap (a1+a2),mC (i64.wrap (a1+a2))))else bif O (a0=9)then I ((i64.wrap (a1-a2),mC (i64.wrap (a1-a2))))else bif O (a0=10)then match Z4 a1 a2 with|S=>S|I r1=>I (r1)else bif O (a0=11)then match ae1 a1 a2 with|S=>S|I r2=>I ((r2,J))else bif O (a0=12)then bif O (a2=0)then I ((0,J))else match ae1 a1 a2 with|S=>S|I r3=>I ((i64.wrap (a1-i64.wrap (a2*r3)),J))else bif O (a0=13)then I ((sv (O (a1=a2)),J))else bif O (a0=14)then I ((sv (bif O (a1=a2)then G else J),J))else bif O (a0=15)then I ((sv (O (a1<a2)),J))else bif O (a0=16)then I ((sv (O (a1<=a2)),J))else bif O (a0=17)then I ((sv (O (a2<a1)),J))else bif O (a0=18)then I ((sv (O (a2<=a1)),J))else bif O (a0=19)then bif bif O (a1=0)then G else J then I ((sv (bif O (a2=0)then G else J),J))else I ((sv G,J))else bif O (a0=20)then bif bif O (a1=0)then G else J then I ((sv J,J))else I ((sv (bif O (a2=0)then G else J),J))else bif O (a0=21)then bif O (a1<a2)then I ((a1,J))else I ((a2,J))else bif O (a2<a1)then I ((a1,J))else I ((a2,J))
def am7:=eL wJ 245 G (aM (aM (aM ln))) d245 (λg=>Cz g.1 g.2.1 g.t.1)
def Ht:EO am7:=λh=>kL (an:= .no) func245 (aft (YH (YI (pH aQ)))) aG h
def vB:EP am7:=λh=>kP h
abbrev aob:=Int
def d282:Td 0 aob:= .c [] [4] (.r 0 0 (ec 4 aL en) sn (λz=>z.1.1) (λx=>((x,()),(()))))
def DB(a0:aH)(a1:Int):aob:=
 i64.wrap (a0.ag+i64.wrap (a1*a0.aj))
def ayG:=eL wJ 282 G (lc (qg 34) (aM ln)) d282 (λg=>I (DB g.1 g.2.1))
def abn:EO ayG:=λh=>kL (an:= .no) func282 aQ aG h
structure gZ where
 t0:Int
 t8:List Int
 (t9 t10:Int)
 (b0 b1 b2:aH)
def Oi:Td 0 gZ:= .c [] [0,4,5,6,8,9,10] (.r 0 4 (ec 0 aL (ec 4 (qp 0 0) (ec 5 (qp 1 0) (ec 6 (qp 2 0) (ec 8 (qo 3) (ec 9 aL (ec 10 aL en))))))) (sb 0 34 (lg 34) (sb 1 34 (lg 34) (sb 2 34 (lg 34) (sr 3 3 sn)))) (λz=>⟨z.1.1,z.q.1,z.1.q.2.1,z.1.q.t.1,z.2.1,z.t.1,z.t.2.1⟩) (λx=>((x.t0,(),(),(),(),x.t9,x.t10,()),(x.b0,x.b1,x.b2,x.t8,()))))
def CJ(p:gZ):af (af gZ):=
 match qy p.b1 with|S=>S|I r5=>bif O (p.t10<r5)then match Cz p.t0 (DB p.b0 p.t9) (DB p.b1 p.t10)with|S=>S|I r6=>bif bif r6.snd then G else J then I (S)else if(p.t8++[r6.fst]).length<=1073741824 then I (I (gZ.mk p.t0 (p.t8++[r6.fst]) p.t9 (i64.wrap (p.t10+1)) p.b0 p.b1 p.b2))else S else I (S)
def ru:=bG (CJ)
structure oa where
 t0:Int
 t8:List Int
 t9:Int
 (b0 b1 b2:aH)
def L0:Td 0 oa:= .c [] [0,4,5,6,8,9] (.r 0 4 (ec 0 aL (ec 4 (qp 0 0) (ec 5 (qp 1 0) (ec 6 (qp 2 0) (ec 8 (qo 3) (ec 9 aL en)))))) (sb 0 34 (lg 34) (sb 1 34 (lg 34) (sb 2 34 (lg 34) (sr 3 3 sn)))) (λz=>⟨z.1.1,z.q.1,z.1.q.2.1,z.2.1,z.t.1,z.t.2.1⟩) (λx=>((x.t0,(),(),(),(),x.t9,()),(x.b0,x.b1,x.b2,x.t8,()))))
def uG(p:oa):af (af oa):=
 match qy p.b0 with|S=>S|I r1=>bif O (p.t9<r1)then match ru (gZ.mk p.t0 p.t8 p.t9 (0) p.b0 p.b1 p.b2)with|S=>S|I r2=>match qy r2.b1 with|S=>S|I r3=>bif O (r2.t10<r3)then match Cz r2.t0 (DB r2.b0 r2.t9) (DB r2.b1 r2.t10)with|S=>S|I r4=>bif bif r4.snd then G else J then I (S)else if(r2.t8++[r4.fst]).length<=1073741824 then S else S else I (I (oa.mk r2.t0 r2.t8 (i64.wrap (r2.t9+1)) r2.b0 r2.b1 r2.b2))else I (S)
def Us:An:=(noTwo (.two (noTwo (Oi.lp ru .no)) .no))
def HQ:=bG (uG)
abbrev asR:=aH×Int
def d243:Td 0 asR:= .c [] [6,7] (.r 0 1 (ec 6 (qp 0 0) (ec 7 aL en)) (sb 0 34 (lg 34) sn) (λz=>(z.2.1,z.1.2.1)) (λx=>(((),x.2,()),(x.1,()))))
def MB(a0:Int)(a1:aH)(a2:aH):af asR:=
 match HQ (oa.mk a0 [] (0) a1 a2 (aH.mk (0) (0) (0)))with|S=>S|I r7=>match qy r7.b0 with|S=>S|I r8=>bif O (r7.t9<r8)then match ru (gZ.mk r7.t0 r7.t8 r7.t9 (0) r7.b0 r7.b1 r7.b2)with|S=>S|I r9=>match qy r9.b1 with|S=>S|I r10=>bif O (r9.t10<r10)then match Cz r9.t0 (DB r9.b0 r9.t9) (DB r9.b1 r9.t10)with|S=>S|I r11=>bif bif r11.snd then G else J then I ((aH.mk (0) (0) (0),3))else if(r9.t8++[r11.fst]).length<=1073741824 then S else S else S else match SS r7.t8 with|S=>S|I r12=>I (r12)
def alm:=eL wJ 243 G (aM (lc (qg 34) (lc (qg 34) ln))) d243 (λg=>MB g.1 g.2.1 g.t.1)
def adj:EO alm:=λh=>kL (an:=(noTwo (noTwo (.two (noTwo (L0.lp HQ Us)) .no)))) (l:=[(bg f243 0,(L0.lp HQ Us)),(bg f243 1,(Oi.lp ru .no))]) func243 (abn (Ht (GP (m7 aQ)))) (aC (aO L0) (aC (aO Oi) aG)) h
def uP:EP alm:=λh=>kP h
structure gV where
 t0:Int
 (t8 t9 t10:List Int)
 (t11 t12:Int)
 b0:aH
def Lf:Td 0 gV:= .c [] [0,6,8,9,10,11,12] (.r 0 4 (ec 0 aL (ec 6 (qp 0 0) (ec 8 (qo 1) (ec 9 (qo 2) (ec 10 (qo 3) (ec 11 aL (ec 12 aL en))))))) (sb 0 34 (lg 34) (sr 1 3 (sr 2 3 (sr 3 3 sn)))) (λz=>⟨z.1.1,z.t.1,z.t.2.1,z.q.1,z.1.q.2.1,z.1.q.t.1,z.2.1⟩) (λx=>((x.t0,(),(),(),(),x.t11,x.t12,()),(x.b0,x.t8,x.t9,x.t10,()))))
def C3(p:gV):af (af gV):=
 bif O (p.t12<3)then if 0<=p.t11/\p.t11<p.t9.length then if 3=3/\p.t11.toNat<p.t9.length then if 0<=p.t12/\p.t12<p.t10.length then if 3=3/\p.t12.toNat<p.t10.length then match Cz p.t0 p.t9[p.t11.toNat]! p.t10[p.t12.toNat]! with|S=>S|I r3=>bif bif r3.snd then G else J then I (S)else if(p.t8++[r3.fst]).length<=1073741824 then I (I (gV.mk p.t0 (p.t8++[r3.fst]) p.t9 p.t10 p.t11 (i64.wrap (p.t12+1)) p.b0))else S else S else S else S else S else I (S)
def qR:=bG (C3)
structure oM where
 t0:Int
 (t8 t9 t10:List Int)
 t11:Int
 b0:aH
def MR:Td 0 oM:= .c [] [0,6,8,9,10,11] (.r 0 4 (ec 0 aL (ec 6 (qp 0 0) (ec 8 (qo 1) (ec 9 (qo 2) (ec 10 (qo 3) (ec 11 aL en)))))) (sb 0 34 (lg 34) (sr 1 3 (sr 2 3 (sr 3 3 sn)))) (λz=>⟨z.1.1,z.t.1,z.t.2.1,z.q.1,z.1.q.2.1,z.2.1⟩) (λx=>((x.t0,(),(),(),(),x.t11,()),(x.b0,x.t8,x.t9,x.t10,()))))
def tY(p:oM):af (af oM):=
 bif O (p.t11<3)then match qR (gV.mk p.t0 p.t8 p.t9 p.t10 p.t11 0 p.b0)with|S=>S|I r1=>bif O (r1.t12<3)then if 0<=r1.t11/\r1.t11<r1.t9.length then if 3=3/\r1.t11.toNat<r1.t9.length then if 0<=r1.t12/\r1.t12<r1.t10.length then if 3=3/\r1.t12.toNat<r1.t10.length then match Cz r1.t0 r1.t9[r1.t11.toNat]! r1.t10[r1.t12.toNat]! with|S=>S|I r2=>bif bif r2.snd then G else J then I (S)else if(r1.t8++[r2.fst]).length<=1073741824 then S else S else S else S else S else S else I (I (oM.mk r1.t0 r1.t8 r1.t9 r1.t10 (i64.wrap (r1.t11+1)) r1.b0))else I (S)
def UY:An:=(noTwo (.two (noTwo (Lf.lp qR .no)) .no))
def HM:=bG (tY)
abbrev ari:=aH×Int
def d244:Td 0 ari:= .c [] [6,7] (.r 0 1 (ec 6 (qp 0 0) (ec 7 aL en)) (sb 0 34 (lg 34) sn) (λz=>(z.2.1,z.1.2.1)) (λx=>(((),x.2,()),(x.1,()))))
def tN(a0:Int)(a1:aH)(a2:aH):af ari:=
 match HM (oM.mk a0 [] [a1.ag,i64.wrap (a1.ag+a1.aj),a1.ah] [a2.ag,i64.wrap (a2.ag+a2.aj),a2.ah] (0) (aH.mk 0 0 0))with|S=>S|I r4=>bif O (r4.t11<3)then match qR (gV.mk r4.t0 r4.t8 r4.t9 r4.t10 r4.t11 0 r4.b0)with|S=>S|I r5=>bif O (r5.t12<3)then if 0<=r5.t11/\r5.t11<r5.t9.length then if 3=3/\r5.t11.toNat<r5.t9.length then if 0<=r5.t12/\r5.t12<r5.t10.length then if 3=3/\r5.t12.toNat<r5.t10.length then match Cz r5.t0 r5.t9[r5.t11.toNat]! r5.t10[r5.t12.toNat]! with|S=>S|I r6=>bif bif r6.snd then G else J then I (aH.mk 0 0 0,3)else if(r5.t8++[r6.fst]).length<=1073741824 then S else S else S else S else S else S else S else match SS r4.t8 with|S=>S|I r7=>I (r7)
def akR:=eL wJ 244 G (aM (lc (qg 34) (lc (qg 34) ln))) d244 (λg=>tN g.1 g.2.1 g.t.1)
def abx:EO akR:=λh=>kL (an:=(noTwo (noTwo (noTwo (noTwo (.two (noTwo (MR.lp HM UY)) .no)))))) (l:=[(bg f244 0,(MR.lp HM UY)),(bg f244 1,(Lf.lp qR .no))]) func244 (Ht (GP aQ)) (aC (aO MR) (aC (aO Lf) aG)) h
def uX:EP akR:=λh=>kP h
abbrev nW:=Bool
def d286:Td 0 nW:= .c [] [4] (.r 0 0 (ec 4 qb en) sn (λz=>z.1.1) (λx=>((x,()),(()))))
def am3:=(lc (qg 34) (lc (qg 34) ln))
def ack(M:aH->aH->af nW):aW->aW:=eL wJ 286 G am3 d286 (λg=>M g.1 g.2.1)
def Tc{M:aH->aH->af nW}{F:aW}{f:Nat}(h:bC F f):bC (ack M F) f:=gM h (λ_=>by kernel_rfl)
def ZQ(M:aH->aH->af nW):Prop:=HL wJ 286 am3 d286 (λg=>M g.1 g.2.1)
def O2{M:aH->aH->af nW}(hM:ZQ M){F:aW}(h:aV wJ F):aV wJ (ack M F):=dU (sc:=jR) cy hM ⟨_,func286,by kernel_rfl,by kernel_rfl⟩ (λ_=>by kernel_rfl) (λ_=>by kernel_rfl) h
def aeP(M286:aH->aH->af nW):aW:=(ack M286 (XO (amf (e43 (e32 cZ)))))
def Zz{M286}(h286:ZQ M286):aV wJ (aeP M286):=(O2 h286 (tR (Gf (m7 (BN aQ)))))
structure iz where
 (t6 t7 t8 t9:Int)
 (b0 b1:aH)
def Mn:Td 0 iz:= .c [] [2,3,6,7,8,9] (.r 0 2 (ec 2 (qp 0 0) (ec 3 (qp 1 0) (ec 6 aL (ec 7 aL (ec 8 aL (ec 9 aL en)))))) (sb 0 34 (lg 34) (sb 1 34 (lg 34) sn)) (λz=>⟨z.1.t.1,z.1.t.2.1,z.1.q.1,z.1.q.2.1,z.2.1,z.t.1⟩) (λx=>(((),(),x.t6,x.t7,x.t8,x.t9,()),(x.b0,x.b1,()))))
def uD(M286:aH->aH->af nW)(p:iz):af (af iz):=
 match if¬p.t7=0then bif O (p.t9<i64.wrap (p.b1.aj.tdiv p.t7))then I (O (p.t8<=p.t6))else I G else S with|S=>S|I r1=>bif r1 then match m32 p.b1 p.t8 with|S=>S|I r2=>bif r2 then I (S)else I (I (iz.mk p.t6 p.t7 (i64.wrap (p.t8+p.b0.aj)) (i64.wrap (p.t9+1)) p.b0 p.b1))else I (S)
def XX(M286:aH->aH->af nW):An:=(.two (.two (.rb [240] 86) .no) .no)
def m5(M286:aH->aH->af nW):=bG (uD M286)
def ahI(M286:aH->aH->af nW):An:=(noTwo (noTwo (noTwo (noTwo (noTwo (noTwo (noTwo (.two (.two (.rb [240] 58) .no) (noTwo (.two (noTwo (Mn.lp (m5 M286) (XX M286))) .no))))))))))
def ahE{M286}:∀f∈([240]:aa Nat),bC (aeP M286) f:=(aC (Tc (lF (Tj (kr (Vg bH))))) aG)
def anE(M286:aH->aH->af nW):dB wJ (aeP M286) 0 300 286 (ahI M286):=bO (l:=[(.skip,(.rb [240] 58)),(bg f286 0,(Mn.lp (m5 M286) (XX M286))),(.skip,(.rb [240] 86))]) func286 (bq (by kernel_rfl)) (by kernel_rfl) (aC ahE (aC (aO Mn) (aC ahE aG)))
def Tl(M286:aH->aH->af nW)(a0:aH)(a1:aH):af nW:=
 match qy a0 with|S=>S|I r3=>match qy a1 with|S=>S|I r4=>bif O (r4<r3)then match M286 a1 a0 with|S=>S|I r5=>I (r5)else match qy a0 with|S=>S|I r6=>bif O (r6=1)then match m32 a1 a0.ag with|S=>S|I r7=>I (r7)else bif O (a0.ag<a1.ag)then bif O (a1.ah<a0.ah)then match wX a0.aj a1.aj with|S=>S|I r8=>match bif O (a1.ah<a1.ag)then I J else if¬r8=0then I (bif O (Int.tmod (iB a0.ag a1.ag) r8=0)then G else J)else S with|S=>S|I r9=>bif r9 then I G else if¬a0.aj=0then match m5 M286 (iz.mk a1.ah r8 (i64.wrap (a0.ag+i64.wrap (i64.wrap ((i64.wrap (i64.wrap (i64.wrap (a1.ag-a0.ag)+a0.aj)-1)).tdiv a0.aj)*a0.aj))) 0 a0 a1)with|S=>S|I r10=>match if¬r10.t7=0then bif O (r10.t9<i64.wrap (r10.b1.aj.tdiv r10.t7))then I (O (r10.t8<=r10.t6))else I G else S with|S=>S|I r11=>bif r11 then match m32 r10.b1 r10.t8 with|S=>S|I r12=>bif r12 then I J else S else I G else S else match wX a0.aj a1.aj with|S=>S|I r13=>match bif O (a0.ah<a1.ag)then I J else if¬r13=0then I (bif O (Int.tmod (iB a0.ag a1.ag) r13=0)then G else J)else S with|S=>S|I r14=>bif r14 then I G else if¬a0.aj=0then match m5 M286 (iz.mk a0.ah r13 (i64.wrap (a0.ag+i64.wrap (i64.wrap ((i64.wrap (i64.wrap (i64.wrap (a1.ag-a0.ag)+a0.aj)-1)).tdiv a0.aj)*a0.aj))) 0 a0 a1)with|S=>S|I r15=>match if¬r15.t7=0then bif O (r15.t9<i64.wrap (r15.b1.aj.tdiv r15.t7))then I (O (r15.t8<=r15.t6))else I G else S with|S=>S|I r16=>bif r16 then match m32 r15.b1 r15.t8 with|S=>S|I r17=>bif r17 then I J else S else I G else S else bif O (a1.ah<a0.ah)then match wX a0.aj a1.aj with|S=>S|I r18=>match bif O (a1.ah<a0.ag)then I J else if¬r18=0then I (bif O (Int.tmod (iB a0.ag a1.ag) r18=0)then G else J)else S with|S=>S|I r19=>bif r19 then I G else if¬a0.aj=0then match m5 M286 (iz.mk a1.ah r18 (i64.wrap (a0.ag+i64.wrap (i64.wrap ((i64.wrap (i64.wrap (i64.wrap (a0.ag-a0.ag)+a0.aj)-1)).tdiv a0.aj)*a0.aj))) 0 a0 a1)with|S=>S|I r20=>match if¬r20.t7=0then bif O (r20.t9<i64.wrap (r20.b1.aj.tdiv r20.t7))then I (O (r20.t8<=r20.t6))else I G else S with|S=>S|I r21=>bif r21 then match m32 r20.b1 r20.t8 with|S=>S|I r22=>bif r22 then I J else S else I G else S else match wX a0.aj a1.aj with|S=>S|I r23=>match bif O (a0.ah<a0.ag)then I J else if¬r23=0then I (bif O (Int.tmod (iB a0.ag a1.ag) r23=0)then G else J)else S with|S=>S|I r24=>bif r24 then I G else if¬a0.aj=0then match m5 M286 (iz.mk a0.ah r23 (i64.wrap (a0.ag+i64.wrap (i64.wrap ((i64.wrap (i64.wrap (i64.wrap (a0.ag-a0.ag)+a0.aj)-1)).tdiv a0.aj)*a0.aj))) 0 a0 a1)with|S=>S|I r25=>match if¬r25.t7=0then bif O (r25.t9<i64.wrap (r25.b1.aj.tdiv r25.t7))then I (O (r25.t8<=r25.t6))else I G else S with|S=>S|I r26=>bif r26 then match m32 r25.b1 r25.t8 with|S=>S|I r27=>bif r27 then I J else S else I G else S
def ax3(M286:aH->aH->af nW)(a0:aH)(a1:aH):bQ wJ (aeP M286) 300 (ahI M286) 286 (am3.c (a0,a1,())) [] 0 d286.rd=Tl M286 a0 a1:=by kernel_rfl
def Eg:Nat->(aH->aH->af nW)
 |0=>(λ_ _=>S)
 |n+1=>(Tl (Eg n))
def Vy(n:Nat):aH->aH->af nW:=(Eg n)
def Ji:∀n,ZQ (Vy n)
 |0=>λ_ _ h=>(by cases h)
 |n+1=>by
  have ih:=Ji n;have i286:=ih;exact(cS (Zz i286) (anE (Vy n)) (λ_=>by kernel_rfl) (λ_=>by kernel_rfl) λg=>ax3 (Vy n) g.1 g.2.1)
def VV:aH->aH->af nW:=λa0 a1=>lim (λn=>Vy n a0 a1)
def abQ:ZQ VV:=λg b h=>by
 obtain⟨n,hn⟩:=cT (show lim (λn=>Vy n g.1 g.2.1)=I b from h);exact(Ji n) g b hn
def axq(F:aW):aW:=ack VV F
def abA{F:aW}(h:aV wJ F):aV wJ (axq F):=O2 abQ h
abbrev ar9:=aH
def d246:Td 0 ar9:= .c [] [6] (.r 0 1 (ec 6 (qp 0 0) en) (sb 0 34 (lg 34) sn) (λz=>z.2.1) (λx=>(((),()),(x,()))))
def uU(a0:Int)(a1:aH)(a2:aH):af ar9:=
 bif O (a0=13)then match VV a1 a2 with|S=>S|I r1=>bif bif bif O (a1.ag=a2.ag)then bif O (a1.ah=a2.ah)then bif O (a1.aj=a2.aj)then J else G else G else G then G else J then bif O (a0=14)then I (iy r1 J)else I (iy J r1)else match qy a1 with|S=>S|I r2=>bif O (a0=14)then I (iy r1 (O (1<((r2,()),()).fst.fst)))else I (iy (O (1<((r2,()),()).fst.fst)) r1)else bif O (a0=14)then match VV a1 a2 with|S=>S|I r3=>bif bif bif O (a1.ag=a2.ag)then bif O (a1.ah=a2.ah)then bif O (a1.aj=a2.aj)then J else G else G else G then G else J then bif O (a0=14)then I (iy r3 J)else I (iy J r3)else match qy a1 with|S=>S|I r4=>bif O (a0=14)then I (iy r3 (O (1<((r4,()),()).fst.fst)))else I (iy (O (1<((r4,()),()).fst.fst)) r3)else bif O (a0=15)then I (iy (O (a2.ag<=a1.ah)) (O (a1.ag<a2.ah)))else bif O (a0=16)then I (iy (O (a2.ag<a1.ah)) (O (a1.ag<=a2.ah)))else bif O (a0=17)then I (iy (O (a1.ag<=a2.ah)) (O (a2.ag<a1.ah)))else bif O (a0=18)then I (iy (O (a1.ag<a2.ah)) (O (a2.ag<=a1.ah)))else match BG a1 with|S=>S|I r5=>match BG a2 with|S=>S|I r6=>bif O (a0=19)then bif r5.snd then bif r5.fst then I (iy J r6.snd)else I (iy r6.fst r6.snd)else bif r5.fst then I (iy J G)else I (iy r6.fst G)else bif r5.snd then bif r5.fst then I (iy r6.fst J)else I (iy G J)else bif r5.fst then I (iy r6.fst r6.snd)else I (iy G r6.snd)
def al8:=eL wJ 246 G (aM (lc (qg 34) (lc (qg 34) ln))) d246 (λg=>uU g.1 g.2.1 g.t.1)
def afm:EO al8:=λh=>kL (an:= .no) func246 (abA (Qe (sk (m7 aQ)))) aG h
def uc:EP al8:=λh=>kP h
def aoZ:aW:=(al8 (am7 (akR (alm (akO (XO (RL (Fe (Ig (S1 (e84 (e43 (e42 (e41 cZ))))))))))))))
abbrev aoR:=aH×Int
def d166:Td 0 aoR:= .c [] [6,7] (.r 0 1 (ec 6 (qp 0 0) (ec 7 aL en)) (sb 0 34 (lg 34) sn) (λz=>(z.2.1,z.1.2.1)) (λx=>(((),x.2,()),(x.1,()))))
def Ui:∀f∈([84,102,242]:aa Nat),bC (aoZ) f:=(aC (uc (vB (uX (uP (uW (lF (pR (iu (gx (l5 (gK (kr (sL (tg bH)))))))))))))) (aC (uc (vB (uX (uP (uW (lF (pR (iu (gx (l5 (gK (kr (sL (tg bH)))))))))))))) (aC (uc (vB (uX (uP (uW (lF (pR (iu (gx (l5 (gK (kr (sL (tg bH)))))))))))))) aG)))
def nj(a0:Int)(a1:aH)(a2:aH):af aoR:=
 match match Tz a1 with|S=>S|I r1=>bif bif r1 then G else J then I J else match Tz a2 with|S=>S|I r2=>bif bif r2 then G else J then I J else I (bif DC a0 then G else J)with|S=>S|I r3=>bif r3 then I (aH.mk 0 0 0,1)else match bif kg a1 then I J else I (kg a2)with|S=>S|I r4=>bif r4 then I (oD,0)else match qy a1 with|S=>S|I r5=>match qy a2 with|S=>S|I r6=>if¬r6=0then bif O (r5<=i64.wrap ((4096:Int).tdiv r6))then match MB a0 a1 a2 with|S=>S|I r7=>I (r7)else bif O (a0=8)then match tN a0 a1 a2 with|S=>S|I r8=>I (r8)else bif O (a0=9)then match tN a0 a1 a2 with|S=>S|I r9=>I (r9)else bif O (a0=10)then match tN a0 a1 a2 with|S=>S|I r10=>I (r10)else bif O (a0=11)then bif O (iB a1.ag 0<iB a1.ah 0)then match bif O (0<=a1.ag)then I (O (0<=a2.ag))else I G with|S=>S|I r11=>bif r11 then match iF 0 (iB a1.ah 0) 1with|S=>S|I r12=>I (r12)else match iF (i64.wrap (0-iB a1.ah 0)) (iB a1.ah 0) 1with|S=>S|I r13=>I (r13)else match bif O (0<=a1.ag)then I (O (0<=a2.ag))else I G with|S=>S|I r14=>bif r14 then match iF 0 (iB a1.ag 0) 1with|S=>S|I r15=>I (r15)else match iF (i64.wrap (0-iB a1.ag 0)) (iB a1.ag 0) 1with|S=>S|I r16=>I (r16)else bif O (a0=12)then bif O (a2.ag<0)then bif O (0<a2.ah)then match iF (i64.wrap (a2.ag+1)) (i64.wrap (a2.ah-1)) 1with|S=>S|I r17=>I (r17)else match iF (i64.wrap (a2.ag+1)) 0 1with|S=>S|I r18=>I (r18)else bif O (0<a2.ah)then match iF 0 (i64.wrap (a2.ah-1)) 1with|S=>S|I r19=>I (r19)else match iF 0 0 1with|S=>S|I r20=>I (r20)else bif O (a0=21)then match Cz a0 a1.ah a2.ah with|S=>S|I r21=>match jH a1 a2 with|S=>S|I r22=>match m41 r22 r21.fst with|S=>S|I r23=>I (r23,0)else bif O (a0=22)then match Cz a0 a1.ag a2.ag with|S=>S|I r24=>match jH a1 a2 with|S=>S|I r25=>match TA r25 (i64.wrap (r24.fst-1))with|S=>S|I r26=>I (r26,0)else match uU a0 a1 a2 with|S=>S|I r27=>I (r27,0)else S
def asi:=eL wJ 166 G (aM (lc (qg 34) (lc (qg 34) ln))) d166 (λg=>nj g.1 g.2.1 g.t.1)
def O6:EO asi:=λh=>kL (F:=aoZ) (an:=(noTwo (.two (.two (.rb [84,102,242] 27) .no) (.two (.two (.rb [84,102,242] 34) .no) (noTwo (.two (noTwo (noTwo (noTwo (noTwo (.two (noTwo (noTwo (.two (.two (.rb [84,102,242] 79) .no) .no))) .no))))) .no)))))) (l:=[(.skip,(.rb [84,102,242] 27)),(.skip,(.rb [84,102,242] 34)),(.skip,(.rb [84,102,242] 79))]) func166 (afm (Ht (abx (adj (Zc (tR (p7 (jQ (kI (AD (rA (m7 (NS (Vc aQ)))))))))))))) (aC Ui (aC Ui (aC Ui aG))) h
abbrev Kv:=aH
def d87:Td 0 Kv:= .c [] [4] (.r 0 1 (ec 4 (qp 0 0) en) (sb 0 34 (lg 34) sn) (λz=>z.2.1) (λx=>(((),()),(x,()))))
def A87:=(lc (qg 147) (lc (qg 137) ln))
def x87(M:aF->ax->af Kv):aW->aW:=eL wJ 87 G A87 d87 (λg=>M g.1 g.2.1)
def H87(M:aF->ax->af Kv):Prop:=HL wJ 87 A87 d87 (λg=>M g.1 g.2.1)
def Un{M:aF->ax->af Kv}(hM:H87 M){F:aW}(h:aV wJ F):aV wJ (x87 M F):=dU (sc:=jR) cy hM ⟨_,func87,by kernel_rfl,by kernel_rfl⟩ (λ_=>by kernel_rfl) (λ_=>by kernel_rfl) h
def F87(M87:aF->ax->af Kv):aW:=(asi (Ta (aqX (RL (Fe (x87 M87 (e86 (e36 (e32 cZ)))))))))
def alG{M87}(h87:H87 M87):aV wJ (F87 M87):=(O6 (sk (Z9 (p7 (jQ (Un h87 (NY (H8 (BN aQ)))))))))
structure Ed where
 (t107 t108:Int)
 b0:aF
 b1:ax
 (b2 b3 b4:aH)
def U7:Td 0 Ed:= .c [] [2,3,4,9,11,107,108] (.r 0 5 (ec 2 (qp 0 0) (ec 3 (qp 1 0) (ec 4 (qp 2 0) (ec 9 (qp 3 0) (ec 11 (qp 4 0) (ec 107 aL (ec 108 aL en))))))) (sb 0 147 (lg 147) (sb 1 137 (lg 137) (sb 2 34 (lg 34) (sb 3 34 (lg 34) (sb 4 34 (lg 34) sn))))) (λz=>⟨z.1.q.2.1,z.1.q.t.1,z.2.1,z.t.1,z.t.2.1,z.q.1,z.q.2.1⟩) (λx=>(((),(),(),(),(),x.t107,x.t108,()),(x.b0,x.b1,x.b2,x.b3,x.b4,()))))
def QC(M87:aF->ax->af Kv)(p:Ed):af (af Ed):=
 bif O (p.t108<p.t107)then match m32 p.b3 p.t108 with|S=>S|I r1=>bif r1 then if 0<=i64.wrap ((1:Int)+p.t108)/\i64.wrap ((1:Int)+p.t108)<p.b1.aq.length then match M87 p.b0 (ax.mk p.b1.aq[(i64.wrap (1+p.t108)).toNat]!.bt p.b1.aq[(i64.wrap (1+p.t108)).toNat]!.fN p.b1.aq[(i64.wrap (1+p.t108)).toNat]!.aq)with|S=>S|I r2=>match jH p.b4 r2 with|S=>S|I r3=>I (I (Ed.mk p.t107 (i64.wrap (p.t108+1)) p.b0 (ax.mk p.b1.bt p.b1.fN p.b1.aq) p.b2 p.b3 r3))else S else I (I (Ed.mk p.t107 (i64.wrap (p.t108+1)) p.b0 (ax.mk p.b1.bt p.b1.fN p.b1.aq) p.b2 p.b3 p.b4))else I (S)
def JN(M87:aF->ax->af Kv):=bG (QC M87)
def as3(M87:aF->ax->af Kv):An:=(noTwo (.two (noTwo (noTwo (noTwo (noTwo (noTwo (noTwo (noTwo (noTwo (noTwo (noTwo (.two (noTwo (noTwo (.two (noTwo (U7.lp (JN M87) .no)) .no))) .no))))))))))) .no))
def axW(M87:aF->ax->af Kv):dB wJ (F87 M87) 0 300 87 (as3 M87):=bO (l:=[(bg f87 0,(U7.lp (JN M87) .no))]) func87 (bq (by kernel_rfl)) (by kernel_rfl) (aC (aO U7) aG)
def s87(M87:aF->ax->af Kv)(a0:aF)(a1:ax):af Kv:=
 bif O (a1.bt=0)then I (TD a1.fN)else bif O (a1.bt=24)then if 0<=a1.fN/\a1.fN<a0.ai.length then I (a0.ai[a1.fN.toNat]!)else S else bif O (a1.bt=6)then if(0:Int)<=(0:Int)/\(0:Int)<a1.aq.length then match M87 a0 (ax.mk a1.aq[0]!.bt a1.aq[0]!.fN a1.aq[0]!.aq)with|S=>S|I r4=>match Vp a1.bt r4 with|S=>S|I r5=>I (r5.fst)else S else bif O (a1.bt=7)then if(0:Int)<=(0:Int)/\(0:Int)<a1.aq.length then match M87 a0 (ax.mk a1.aq[0]!.bt a1.aq[0]!.fN a1.aq[0]!.aq)with|S=>S|I r6=>match Vp a1.bt r6 with|S=>S|I r7=>I (r7.fst)else S else bif O (a1.bt=23)then if(0:Int)<=(0:Int)/\(0:Int)<a1.aq.length then match M87 a0 (ax.mk a1.aq[0]!.bt a1.aq[0]!.fN a1.aq[0]!.aq)with|S=>S|I r8=>match BG r8 with|S=>S|I r9=>bif bif r9.fst then G else J then if(0:Int)<=(1:Int)/\(1:Int)<a1.aq.length then match M87 a0 (ax.mk a1.aq[1]!.bt a1.aq[1]!.fN a1.aq[1]!.aq)with|S=>S|I r10=>I (r10)else S else bif bif r9.snd then G else J then if(0:Int)<=(2:Int)/\(2:Int)<a1.aq.length then match M87 a0 (ax.mk a1.aq[2]!.bt a1.aq[2]!.fN a1.aq[2]!.aq)with|S=>S|I r11=>I (r11)else S else if(0:Int)<=(1:Int)/\(1:Int)<a1.aq.length then match M87 a0 (ax.mk a1.aq[1]!.bt a1.aq[1]!.fN a1.aq[1]!.aq)with|S=>S|I r12=>if(0:Int)<=(2:Int)/\(2:Int)<a1.aq.length then match M87 a0 (ax.mk a1.aq[2]!.bt a1.aq[2]!.fN a1.aq[2]!.aq)with|S=>S|I r13=>match jH r12 r13 with|S=>S|I r14=>I (r14)else S else S else S else bif O (a1.bt=25)then if(0:Int)<=(0:Int)/\(0:Int)<a1.aq.length then match M87 a0 (ax.mk a1.aq[0]!.bt a1.aq[0]!.fN a1.aq[0]!.aq)with|S=>S|I r15=>match X5 r15 0 (i64.wrap ((a1.aq.length:Int)-2))with|S=>S|I r16=>match JN M87 (Ed.mk (i64.wrap ((a1.aq.length:Int)-1)) 0 a0 (ax.mk a1.bt a1.fN a1.aq) (aH.mk 0 0 0) r16.fst oD)with|S=>S|I r17=>bif O (r17.t108<r17.t107)then match m32 r17.b3 r17.t108 with|S=>S|I r18=>bif r18 then if 0<=i64.wrap ((1:Int)+r17.t108)/\i64.wrap ((1:Int)+r17.t108)<r17.b1.aq.length then match M87 r17.b0 (ax.mk r17.b1.aq[(i64.wrap (1+r17.t108)).toNat]!.bt r17.b1.aq[(i64.wrap (1+r17.t108)).toNat]!.fN r17.b1.aq[(i64.wrap (1+r17.t108)).toNat]!.aq)with|S=>S|I r19=>match jH r17.b4 r19 with|S=>S|I r20=>S else S else S else I (r17.b4)else S else if(0:Int)<=(0:Int)/\(0:Int)<a1.aq.length then match M87 a0 (ax.mk a1.aq[0]!.bt a1.aq[0]!.fN a1.aq[0]!.aq)with|S=>S|I r21=>if(0:Int)<=(1:Int)/\(1:Int)<a1.aq.length then match M87 a0 (ax.mk a1.aq[1]!.bt a1.aq[1]!.fN a1.aq[1]!.aq)with|S=>S|I r22=>match nj a1.bt r21 r22 with|S=>S|I r23=>I (r23.fst)else S else S
def c87(M87:aF->ax->af Kv)(a0:aF)(a1:ax):bQ wJ (F87 M87) 300 (as3 M87) 87 (A87.c (a0,a1,())) [] 0 d87.rd=s87 M87 a0 a1:=by kernel_rfl
def as8:Nat->(aF->ax->af Kv)
 |0=>(λ_ _=>S)
 |n+1=>(s87 (as8 n))
def m87(n:Nat):aF->ax->af Kv:=(as8 n)
def PD:∀n,H87 (m87 n)
 |0=>λ_ _ h=>(by cases h)
 |n+1=>by
  have ih:=PD n;have i87:=ih;exact(cS (alG i87) (axW (m87 n)) (λ_=>by kernel_rfl) (λ_=>by kernel_rfl) λg=>c87 (m87 n) g.1 g.2.1)
def Lc:aF->ax->af Kv:=λa0 a1=>lim (λn=>m87 n a0 a1)
def aiw:H87 Lc:=λg b h=>by
 obtain⟨n,hn⟩:=cT (show lim (λn=>m87 n g.1 g.2.1)=I b from h);exact(PD n) g b hn
def e87(F:aW):aW:=x87 Lc F
def Ms{F:aW}(h:aV wJ F):aV wJ (e87 F):=Un aiw h
end Go.Proofs.YtnfljbehcffmcaaGreat
end
noncomputable section
namespace Go.Iv
open Go
variable [U:qz] [L:mO]
def aI{n:Int}(h1: -9223372036854775808<=n:=by omega)(h2:n<9223372036854775808:=by omega):IntKind.i64.wrap n=n:=by
 simp[IntKind.wrap,IntKind.bits,IntKind.signed];omega
def Iz{γ:Type}{rnd:γ->af (af γ)}(f:Nat->γ)(n:Nat)(h1:∀i,i<n->rnd (f i)=I (I (f (i+1))))(h2:∀r,rnd (f n)≠I (I r)):bG rnd (f 0)=I (f n):=by
 have key:∀k i,i+k=n->bG rnd (f i)=I (f n):=by
  intro k;induction k with
  |zero=>
   intro i hi;have:i=n:=by omega
   subst this;exact cu h2
  |succ k ih=>intro i hi;rw[bP (h1 i (by omega))];exact ih (i+1) (by omega)
 exact key n 0 (by omega)
def jE{α β ρ:Type}(step:β->α->af β)(ret:β->α->ρ)(fin:β->ρ):aa α->β->ρ
 |[],b=>fin b
 |x::xs,b=>match step b x with
  |some b'=>jE step ret fin xs b'
  |none=>ret b x
def Et{γ α β ρ:Type}{rnd:γ->af (af γ)}(l:aa α)(mk:Nat->β->γ)(step:β->α->af β)(ret:β->α->ρ)(fin:β->ρ)(ze:Nat->β->Prop)
  (h1:∀i b (hi:i<l.length),ze i b->∀b',step b l[i]=I b'->rnd (mk i b)=I (I (mk (i+1) b'))/\ze (i+1) b')
  (h2:∀i b (hi:i<l.length),ze i b->step b l[i]=S->∀r,rnd (mk i b)≠I (I r)) (h3:∀b,ze l.length b->∀r,rnd (mk l.length b)≠I (I r)) {b:β} (hb:ze 0 b):
  ∃i v,i<=l.length/\bG rnd (mk 0 b)=I (mk i v)/\ze i v/\((i=l.length/\jE step ret fin l b=fin v)\/∃hi:i<l.length,step v l[i]=S/\jE step ret fin l b=ret v l[i]):=by
 have key:∀(xs:aa α) (i:Nat) (b:β),l.drop i=xs->i<=l.length->ze i b->∃j v,j<=l.length/\bG rnd (mk i b)=I (mk j v)/\ze j v/\((j=l.length/\jE step ret fin xs b=fin v)\/∃hi:j<l.length,step v l[j]=S/\jE step ret fin xs b=ret v l[j]):=by
  intro xs;induction xs with
  |nil=>
   intro i b hd hi hb;have:i=l.length:=by have:=congrArg yG hd;simp at this;omega
   subst this;exact⟨_,b,zG _,cu (h3 b hb),hb, .inl ⟨rfl,rfl⟩⟩
  |cons x xs ih=>
   intro i b hd hi hb;have hil:i<l.length:=by have:=congrArg yG hd;simp at this;omega
   have hx:l[i]=x:=by
    have:=congrArg List.head? hd;rw[List.head?_drop,zq hil]at this;simpa using this
   have hd':l.drop (i+1)=xs:=by
    have:=congrArg List.tail hd;rw[List.tail_drop]at this;simpa using this
   cases hs:step b x with
   |some b'=>
    obtain⟨q1,q2⟩:=h1 i b hil hb b' (by rw[hx];exact hs);obtain⟨j,v,e1,e2,e3,e4⟩:=ih (i+1) b' hd' hil q2;have er:jE step ret fin (x::xs) b=jE step ret fin xs b':=by simp only[jE,hs]
    exact⟨j,v,e1,by rw[bP q1];exact e2,e3,by rw[er];exact e4⟩
   |none=>
    have er:jE step ret fin (x::xs) b=ret b x:=by simp only[jE,hs]
    exact⟨i,b,hi,cu (h2 i b hil hb (by rw[hx];exact hs)),hb, .inr ⟨hil,by rw[hx];exact hs,by rw[er,hx]⟩⟩
 exact key l 0 b rfl (xu _) hb
end Go.Iv
end
noncomputable section
set_option maxRecDepth 100000
namespace Go.Proofs.YtnfljbehcffmcaaGreat
open Go Go.Iv
open Go.IntKind (i64 u64)
def fU{n:Int}(h1:0<=n:=by omega)(h2:n<18446744073709551616:=by omega):IntKind.u64.wrap n=n:=by
 simp only[IntKind.wrap,IntKind.signed,IntKind.bits]at*;simp;omega
def NB(n:Int):IntKind.u64.wrap n=n%18446744073709551616:=by
 simp only[IntKind.wrap,IntKind.signed,IntKind.bits]at*;simp
structure gu (y1 y0 u d q r:Int):Prop where
 r0:0<=r
 r1:r<4294967296
 q0:0<=q
 q1:q<=4294967297
 e:u=q*y1+r
 hi:u*4294967296+d<(q+1)*(y1*4294967296+y0)
 top:q=4294967297->r+y1<4294967296
structure qB (y1 y0 u d:Int):Prop where
 ha:2147483648<=y1
 hb:y1<4294967296
 hc:0<=y0
 hd:y0<4294967296
 he:0<=u
 hf:u<y1*4294967296+y0
 hg:0<=d
 hh:d<4294967296
def gu.start{y1 y0 u d:Int}(h:qB y1 y0 u d):gu y1 y0 u d (u/y1) (u%y1):=by
 obtain⟨ha,hb,hc,hd,he,hf,hg,hh⟩:=h;have e1:=yR u y1;have m0:=yS u (b:=y1) (by omega);have m1:=yV u (b:=y1) (by omega);have q0:0<=u/y1:=zP he (by omega);have q1:u/y1<=4294967297:=by
  have:u/y1<4294967298:=wD (by omega) (by omega);omega
 rw[zC]at e1;refine⟨m0,by omega,q0,q1,by omega,?_,λhq=> ?_⟩
 ·have k1:(u/y1+1)*(y1*4294967296+y0)=((u/y1)*y1)*4294967296+y1*4294967296+(u/y1)*y0+y0:=by
   rw[zQ,yW,zX,zN];omega
  have k2:0<=u/y1*y0:=zx q0 hc;rw[k1];omega
 ·rw[hq]at e1;omega
def gu.stop{y1 y0 u d q r:Int}(H:qB y1 y0 u d)(h:gu y1 y0 u d q r)(h1:q<4294967296)(h2:¬4294967296*r+d<q*y0):q*(y1*4294967296+y0)<=u*4294967296+d:=by
 have k:q*(y1*4294967296+y0)=(q*y1)*4294967296+q*y0:=by rw[yW,zN]
 have:=h.e;rw[k];omega
def gu.big{y1 y0 u d q r:Int}(H:qB y1 y0 u d)(h:gu y1 y0 u d q r)(h1:4294967296<=q\/4294967296*r+d<q*y0):u*4294967296+d<q*(y1*4294967296+y0):=by
 have k:q*(y1*4294967296+y0)=(q*y1)*4294967296+q*y0:=by rw[yW,zN]
 have e:=h.e;rcases h1 with h1|h1
 ·have k2:4294967296*(y1*4294967296+y0)<=q*(y1*4294967296+y0):=zM h1 (by have:=H.ha;have:=H.hc;omega);have:=H.hf;have:=H.hh;omega
 ·rw[k];omega
def gu.pos{y1 y0 u d q r:Int}(H:qB y1 y0 u d)(h:gu y1 y0 u d q r)(h1:4294967296<=q\/4294967296*r+d<q*y0):1<=q:=by
 have k:=gu.big H h h1;have:=h.q0;rcases (show q=0\/1<=q by omega)with rfl|h2
 ·rw[xF]at k;have:=H.he;have:=H.hg;omega
 ·exact h2
def gu.next{y1 y0 u d q r:Int}(H:qB y1 y0 u d)(h:gu y1 y0 u d q r)(h1:4294967296<=q\/4294967296*r+d<q*y0)(h2:r+y1<4294967296):gu y1 y0 u d (q-1) (r+y1):=by
 have hb:=gu.big H h h1;have hp:=gu.pos H h h1;have:=H.ha;have:=h.r0;have:=h.q1;refine⟨by omega,h2,by omega,by omega,?_,?_,λhq=>by omega⟩
 ·rw[ym,zX];have:=h.e;omega
 ·rw[show q-1+1=q by omega];exact hb
def gu.brk{y1 y0 u d q r:Int}(H:qB y1 y0 u d)(h:gu y1 y0 u d q r)(h1:4294967296<=q\/4294967296*r+d<q*y0)(h2:4294967296<=r+y1):(q-1)*(y1*4294967296+y0)<=u*4294967296+d:=by
 have hp:=gu.pos H h h1;have hq:q<=4294967296:=by
  have:=h.q1;have:=h.top;omega
 have k:(q-1)*(y1*4294967296+y0)=(q*y1)*4294967296-y1*4294967296+(q-1)*y0:=by
  rw[yW,<-zN,ym q 1 y1,zX,ym]
 have k2:(q-1)*y0<=4294967296*y0:=zM (by omega) H.hc;have:=h.e;have:=H.hd;have:=H.hg;rw[k];omega
def KI(y1 y0 u d q:Int):Prop:=0<=q/\q<=4294967297/\q*(y1*4294967296+y0)<=u*4294967296+d/\u*4294967296+d<(q+1)*(y1*4294967296+y0)
def gu.y0q{y1 y0 u d q r:Int}(H:qB y1 y0 u d)(h:gu y1 y0 u d q r)(h1:q<4294967296):IntKind.u64.wrap (q*y0)=q*y0:=by
 have k1:0<=q*y0:=zx h.q0 H.hc;have k2:q*y0<=4294967295*y0:=zM (by omega) H.hc;have:=H.hd;exact fU k1 (by omega)
def gu.rr{y1 y0 u d q r:Int}(H:qB y1 y0 u d)(h:gu y1 y0 u d q r):IntKind.u64.wrap (IntKind.u64.wrap (4294967296*r)+d)=4294967296*r+d:=by
 have:=h.r0;have:=h.r1;have:=H.hg;have:=H.hh;rw[fU (n:=4294967296*r),fU]
def gu.X7{y1 y0 u d q r:Int}(H:qB y1 y0 u d)(h:gu y1 y0 u d q r):(bif O (4294967296<=q)then I J else I (O (IntKind.u64.wrap (IntKind.u64.wrap (4294967296*r)+d)<IntKind.u64.wrap (q*y0))))=I (O (4294967296<=q\/4294967296*r+d<q*y0)):=by
 by_cases hq:4294967296<=q
 ·rw[bV hq,bV (Or.inl hq),bB]
 ·rw[bT hq,bz,gu.rr H h,gu.y0q H h (by omega)];by_cases hc:4294967296*r+d<q*y0
  ·rw[bV hc,bV (Or.inr hc)]
  ·rw[bT hc,bT (λk=>k.elim hq hc)]
def gu.done{y1 y0 u d q r:Int}(H:qB y1 y0 u d)(h:gu y1 y0 u d q r)(hr:4294967296<=q\/4294967296*r+d<q*y0->4294967296<=r+y1):KI y1 y0 u d (bif O (4294967296<=q\/4294967296*r+d<q*y0)then q-1 else q):=by
 have h0:=h.q0;have h1:=h.q1;by_cases hc:4294967296<=q\/4294967296*r+d<q*y0
 ·rw[bV hc,bB];have:=gu.pos H h hc;refine⟨by omega,by omega,gu.brk H h hc (hr hc),?_⟩;rw[show q-1+1=q by omega];exact gu.big H h hc
 ·rw[bT hc,bz];exact⟨h0,by omega,gu.stop H h (by omega) (λk=>hc (.inr k)),h.hi⟩
def gu.wr1{y1 y0 u d q r:Int}(H:qB y1 y0 u d)(h:gu y1 y0 u d q r):IntKind.u64.wrap (r+y1)=r+y1:=by
 have:=h.r0;have:=h.r1;have:=H.ha;have:=H.hb;exact fU
def gu.wq1{y1 y0 u d q r:Int}(H:qB y1 y0 u d)(h:gu y1 y0 u d q r)(hc:4294967296<=q\/4294967296*r+d<q*y0):IntKind.u64.wrap (q-1)=q-1:=by
 have:=h.q1;have:=gu.pos H h hc;exact fU
def UR{y s y1 y0 u d e q r:Int}(H:qB y1 y0 u d)(h:gu y1 y0 u d q r):∃q' r',E8 (mU.mk y s y1 y0 u d e q r)=I (mU.mk y s y1 y0 u d e q' r')/\gu y1 y0 u d q' r'/\(4294967296<=q'\/4294967296*r'+d<q'*y0->4294967296<=r'+y1):=by
 obtain⟨z,e1,⟨q',r',rfl,hI⟩,hs⟩:=j9 (rnd:=vq) (λp=>∃q r,p=mU.mk y s y1 y0 u d e q r/\gu y1 y0 u d q r) (λp=>p.t15.toNat) (λp p' ⟨q,r,hp,hI⟩ hn=>by
  subst hp;have hn:vq (mU.mk y s y1 y0 u d e q r)=I (I p'):=hn;simp only[vq]at hn;rw[gu.X7 H hI]at hn;by_cases hc:4294967296<=q\/4294967296*r+d<q*y0
  ·rw[bV hc]at hn;simp only[bB,gu.wr1 H hI,gu.wq1 H hI hc]at hn;by_cases hb:4294967296<=r+y1
   ·rw[bV hb]at hn;cases hn
   ·rw[bT hb]at hn;simp only[bz,zD.injEq]at hn;have hp:=gu.pos H hI hc;subst hn;exact⟨⟨q-1,r+y1,rfl,gu.next H hI hc (by omega)⟩,by show (q-1).toNat<q.toNat;omega⟩
  ·rw[bT hc]at hn;cases hn) ⟨q,r,rfl,h⟩
 refine⟨q',r',e1,hI,λhc=> ?_⟩;by_cases hb:4294967296<=r'+y1
 ·exact hb
 ·exact dg (show vq _=I (I _)by
   simp only[vq];rw[gu.X7 H hI,bV hc];simp only[bB,gu.wr1 H hI];rw[bT hb];rfl) (hs _)
def K2{y s y1 y0 u d e q r:Int}(H:qB y1 y0 u d)(h:gu y1 y0 u d q r):∃q' r',Bv (kU.mk y s y1 y0 d e r u q)=I (kU.mk y s y1 y0 d e r' u q')/\gu y1 y0 u d q' r'/\(4294967296<=q'\/4294967296*r'+d<q'*y0->4294967296<=r'+y1):=by
 obtain⟨z,e1,⟨q',r',rfl,hI⟩,hs⟩:=j9 (rnd:=vL) (λp=>∃q r,p=kU.mk y s y1 y0 d e r u q/\gu y1 y0 u d q r) (λp=>p.t18.toNat) (λp p' ⟨q,r,hp,hI⟩ hn=>by
  subst hp;have hn:vL (kU.mk y s y1 y0 d e r u q)=I (I p'):=hn;simp only[vL]at hn;rw[gu.X7 H hI]at hn;by_cases hc:4294967296<=q\/4294967296*r+d<q*y0
  ·rw[bV hc]at hn;simp only[bB,gu.wr1 H hI,gu.wq1 H hI hc]at hn;by_cases hb:4294967296<=r+y1
   ·rw[bV hb]at hn;cases hn
   ·rw[bT hb]at hn;simp only[bz,zD.injEq]at hn;have hp:=gu.pos H hI hc;subst hn;exact⟨⟨q-1,r+y1,rfl,gu.next H hI hc (by omega)⟩,by show (q-1).toNat<q.toNat;omega⟩
  ·rw[bT hc]at hn;cases hn) ⟨q,r,rfl,h⟩
 refine⟨q',r',e1,hI,λhc=> ?_⟩;by_cases hb:4294967296<=r'+y1
 ·exact hb
 ·exact dg (show vL _=I (I _)by
   simp only[vL];rw[gu.X7 H hI,bV hc];simp only[bB,gu.wr1 H hI];rw[bT hb];rfl) (hs _)
def ag7{n:Int}(h1:0<=n)(h2:n<256):IntKind.u8.wrap n=n:=by
 simp only[IntKind.wrap,IntKind.signed,IntKind.bits]at*;simp;omega
def WU{x:Int}(k:Nat)(hk:k<=64):cP IntKind.u64 x (k:Int)=x/2^k:=by
 unfold cP;rw[show min ((k:Int)).toNat IntKind.u64.bits=k from by simp only[zf,IntKind.bits];omega];exact Int.fdiv_eq_ediv_of_nonneg _ (yZ (Int.pow_pos (by omega)))
def agZ(i:Nat):Bool:=i==0||((zO 9).any λt=>(kf.data[i]!).toNat==t&&O (1<=t)&&O (2^(t-1)<=i)&&O (i<2^t))
def ad3:(zO 256).all agZ=J:=by kernel_rfl
def aew{x:Int}(h1:1<=x)(h2:x<256):∃t:Nat,1<=t/\t<=8/\cg kf (IntKind.u8.wrap x).toNat=(t:Int)/\2^(t-1)<=x/\x<2^t:=by
 rw[ag7 (by omega) h2];have h:=zu.mp ad3 x.toNat (List.mem_range.mpr (by omega));simp only[agZ,yL,beq_iff_eq,List.any_eq_true,List.mem_range,zj,decide_eq_true_eq]at h;rcases h with h|⟨t,ht,⟨⟨h3,h4⟩,h5⟩,h6⟩
 ·omega
 ·have h5':((2^(t-1):Nat):Int)<=(x.toNat:Int):=Int.ofNat_le.mpr h5;have h6':((x.toNat:Nat):Int)<((2^t:Nat):Int):=Int.ofNat_lt.mpr h6;rw[Int.toNat_of_nonneg (by omega),Int.natCast_pow]at h5' h6';exact⟨t,h4,by omega,by unfold cg;rw[h3],h5',h6'⟩
def XA{a x:Int}{n t:Nat}(h1:1<=t)(h2:t<=8)(hx1:2^(t-1)<=x)(hx2:x<2^t)(hn:n<=56)(ha1:x*2^n<=a)(ha2:a<(x+1)*2^n):
  2^63<=a*2^(64-(n+t))/\a*2^(64-(n+t))<2^64:=by
 have p0:∀k:Nat,(0:Int)<2^k:=λk=>Int.pow_pos (by omega);have e1:(2:Int)^63=2^(t-1)*2^n*2^(64-(n+t)):=by
  rw[<-Int.pow_add,<-Int.pow_add];congr 1;omega
 have e2:(2:Int)^64=2^t*2^n*2^(64-(n+t)):=by
  rw[<-Int.pow_add,<-Int.pow_add];congr 1;omega
 rw[e1,e2];refine⟨zM (xG (zM hx1 (yZ (p0 n))) ha1) (yZ (p0 _)),?_⟩;refine Int.mul_lt_mul_of_pos_right (Int.lt_of_lt_of_le ha2 ?_) (p0 _);exact zM (by omega) (yZ (p0 n))
def QW(x:Int):cP IntKind.u64 x 32=x/4294967296:=WU (x:=x) 32 (by omega)
def as1(x:Int):cP IntKind.u64 x 16=x/65536:=WU (x:=x) 16 (by omega)
def axj(x:Int):cP IntKind.u64 x 8=x/256:=WU (x:=x) 8 (by omega)
def Wl(a:Int)(r:af Int):Prop:=∃s:Nat,s<=63/\(match r with|S=>S|I r1=>I (i64.wrap (64-r1)))=I (s:Int)/\2^63<=a*2^s/\a*2^s<2^64
def iq{a x:Int}(n:Nat)(hn:n<=56)(hx1:1<=x)(hx2:x<256)(ha1:x*2^n<=a)(ha2:a<(x+1)*2^n):
  Wl a (if(0:Int)<=IntKind.u8.wrap x/\IntKind.u8.wrap x<(256:Int)then I (i64.wrap ((n:Int)+i64.wrap (cg kf (IntKind.u8.wrap x).toNat)))else S):=by
 obtain⟨t,h1,h2,h3,h4,h5⟩:=aew hx1 hx2;rw[bD (by rw[ag7 (by omega) hx2];omega),h3];refine⟨64-(n+t),by omega,?_,XA h1 h2 h4 h5 hn ha1 ha2⟩;rw[aI (n:=(t:Int)),aI (n:=(n:Int)+t)];show I _=_;rw[aI]
 congr 1
 omega
def Zi{a:Int}(h1:1<=a)(h2:a<18446744073709551616):∃s:Nat,s<=63/\aju a=I (s:Int)/\2^63<=a*2^s/\a*2^s<2^64:=by
 show Wl a (Yi a);unfold Yi;simp only[QW,as1,axj];by_cases c1:4294967296<=a
 ·rw[bV c1,bB];by_cases c2:65536<=a/4294967296
  ·rw[bV c2,bB];by_cases c3:256<=a/4294967296/65536
   ·rw[bV c3,bB];exact iq 56 (by omega) (by omega) (by omega) (by omega) (by omega)
   ·rw[bT c3,bz];exact iq 48 (by omega) (by omega) (by omega) (by omega) (by omega)
  ·rw[bT c2,bz];by_cases c3:256<=a/4294967296
   ·rw[bV c3,bB];exact iq 40 (by omega) (by omega) (by omega) (by omega) (by omega)
   ·rw[bT c3,bz];exact iq 32 (by omega) (by omega) (by omega) (by omega) (by omega)
 ·rw[bT c1,bz];by_cases c2:65536<=a
  ·rw[bV c2,bB];by_cases c3:256<=a/65536
   ·rw[bV c3,bB];exact iq 24 (by omega) (by omega) (by omega) (by omega) (by omega)
   ·rw[bT c3,bz];exact iq 16 (by omega) (by omega) (by omega) (by omega) (by omega)
  ·rw[bT c2,bz];by_cases c3:256<=a
   ·rw[bV c3,bB];exact iq 8 (by omega) (by omega) (by omega) (by omega) (by omega)
   ·rw[bT c3,bz];exact iq 0 (by omega) (by omega) (by omega) (by omega) (by omega)
def ana{x:Int}(k:Nat)(hk:k<=64):lu IntKind.u64 x (k:Int)=(x*2^k)%18446744073709551616:=by
 unfold lu;rw[show min ((k:Int)).toNat IntKind.u64.bits=k from by simp only[zf,IntKind.bits];omega];exact NB _
def Ga{x:Int}(h1:0<=x)(h2:x<18446744073709551616):(BitVec.ofInt 64 x).toNat=x.toNat:=by
 rw[BitVec.toNat_ofInt]
 congr 1
 omega
def VF{x:Int}(h1:0<=x)(h2:x<18446744073709551616):rG IntKind.u64 x 4294967295=x%4294967296:=by
 unfold rG;show IntKind.u64.wrap ((BitVec.ofInt 64 x&&&BitVec.ofInt 64 4294967295).toNat:Int)=_;rw[BitVec.toNat_and,Ga h1 h2,Ga (by omega) (by omega),show (4294967295:Int).toNat=2^32-1 from rfl,Nat.and_two_pow_sub_one_eq_mod,fU];omega
def orU{a b:Nat}{k:Nat}(hb:b<2^k)(h:2^k*a+b<18446744073709551616):X9 IntKind.u64 ((2^k*a:Nat):Int) (b:Int)=((2^k*a+b:Nat):Int):=by
 unfold X9;show IntKind.u64.wrap ((BitVec.ofInt 64 ((2^k*a:Nat):Int)|||BitVec.ofInt 64 (b:Int)).toNat:Int)=_;rw[BitVec.toNat_or,Ga (by omega) (by omega),Ga (by omega) (by omega),zf,zf,<-Nat.two_pow_add_eq_or_of_lt hb,fU]
def jq{a b:Int}(h1:0<=a:=by omega):a.tdiv b=a/b:=Int.tdiv_eq_ediv_of_nonneg h1
def jC{a b:Int}(h1:0<=a:=by omega):a.tmod b=a%b:=Int.tmod_eq_emod_of_nonneg h1
def wq0{u y1:Int}(h1:0<=u)(h2:u<18446744073709551616)(h3:2<=y1):IntKind.u64.wrap (u.tdiv y1)=u/y1:=by
 rw[jq h1];have:u/y1<=u:=yc _ h1;exact fU (zP h1 (by omega)) (by omega)
def wr0{u y1:Int}(h1:0<=u)(h2:u<18446744073709551616)(h3:2<=y1):IntKind.u64.wrap (u-IntKind.u64.wrap (u/y1*y1))=u%y1:=by
 have e:=yR u y1;have m0:=yS u (b:=y1) (by omega);rw[zC]at e;have q0:0<=u/y1*y1:=zx (zP h1 (by omega)) (by omega);rw[fU (n:=u/y1*y1) q0 (by omega),fU];omega
def afP{u d q y:Int}(h1:q*y<=u*4294967296+d)(h2:u*4294967296+d<(q+1)*y)(hy:y<18446744073709551616):
  IntKind.u64.wrap (IntKind.u64.wrap (IntKind.u64.wrap (u*4294967296)+d)-IntKind.u64.wrap (q*y))=u*4294967296+d-q*y:=by
 rw[zQ,zX]at h2;generalize q*y=z at*;simp only[NB];omega
def aih{hi lo y:Int}(h0:0<=hi)(h1:hi<y)(h2:y<18446744073709551616)(h3:0<=lo)(h4:lo<18446744073709551616):∃q,Ve hi lo y=I (q,(hi*18446744073709551616+lo)%y):=by
 by_cases hz:hi=0
 ·subst hz;refine⟨IntKind.u64.wrap (lo.tdiv y),?_⟩;unfold Ve;rw[eH,eH,bV rfl,bz,bz,bB,ga,ga,jC h3];rw[show (0:Int)*18446744073709551616+lo=lo by omega]
 obtain⟨s,hs,es,b1,b2⟩:=Zi (a:=y) (by omega) h2;have hP:(0:Int)<2^s:=Int.pow_pos (by omega);have hQ:(0:Int)<2^(64-s):=Int.pow_pos (by omega);have hPQ:(2:Int)^(64-s)*2^s=18446744073709551616:=by rw[<-Int.pow_add,show 64-s+s=64 by omega];rfl
 have b1:(9223372036854775808:Int)<=y*2^s:=b1;have b2:y*2^s<18446744073709551616:=b2;have eY:lu IntKind.u64 y (s:Int)=y*2^s:=by rw[ana s (by omega),Int.emod_eq_of_lt (by omega) b2]
 have lb:lo/2^(64-s)<2^s:=wD hQ (by rw[zC,hPQ];exact h4);have lb0:0<=lo/2^(64-s):=zP h3 (by omega);have hy1:(hi+1)*2^s<=y*2^s:=zM (by omega) (by omega);have hy2:(hi+1)*2^s=hi*2^s+2^s:=by rw[zQ,zX]
 have hp0:0<=hi*2^s:=zx h0 (by omega);have eU:X9 IntKind.u64 (lu IntKind.u64 hi (s:Int)) (cP IntKind.u64 lo (IntKind.u64.wrap (64-(s:Int))))=hi*2^s+lo/2^(64-s):=by
  rw[ana s (by omega),Int.emod_eq_of_lt hp0 (by omega),fU (n:=64-(s:Int)),show (64-(s:Int))=((64-s:Nat):Int)by omega,WU (64-s) (by omega)];obtain⟨a,rfl⟩:=wE h0;obtain⟨b,hb⟩:=wE lb0;rw[hb]at lb ⊢;have e:(a:Int)*2^s=((2^s*a:Nat):Int):=by rw[xq,Int.natCast_pow,zC];rfl
  have lb':b<2^s:=by
   have:((b:Nat):Int)<((2^s:Nat):Int):=by rw[Int.natCast_pow];exact lb
   exact Int.ofNat_lt.mp this
  rw[e]at hp0 hy2 ⊢;rw[orU lb' (by omega)];omega
 have eD:lu IntKind.u64 lo (s:Int)=(lo*2^s)%18446744073709551616:=ana s (by omega);have key:(hi*18446744073709551616+lo)*2^s=(hi*2^s+lo/2^(64-s))*18446744073709551616+(lo*2^s)%18446744073709551616:=by
  have k1:=yR (lo*2^s) 18446744073709551616;have k2:lo*2^s/18446744073709551616=lo/2^(64-s):=by rw[<-hPQ];exact Int.mul_ediv_mul_of_pos_left _ _ hP
  rw[k2]at k1;rw[zQ,zN,zC 18446744073709551616 (2^s),<-zN];omega
 have hD0:0<=(lo*2^s)%18446744073709551616:=by omega
 have hD1:(lo*2^s)%18446744073709551616<18446744073709551616:=by omega
 have hU0:0<=hi*2^s+lo/2^(64-s):=by omega
 have hU1:hi*2^s+lo/2^(64-s)<y*2^s:=by omega
 have res:∀Q,Q*(y*2^s)<=(hi*18446744073709551616+lo)*2^s->(hi*18446744073709551616+lo)*2^s<(Q+1)*(y*2^s)->((hi*18446744073709551616+lo)*2^s-Q*(y*2^s))/2^s=(hi*18446744073709551616+lo)%y:=λQ q1 q2=>by
  rw[<-zN,<-ym,Int.mul_ediv_cancel _ (by omega)];rw[<-zN]at q1 q2;have q1:=Int.le_of_mul_le_mul_right q1 hP;have q2:=wj q2 (yZ hP);rw[zQ,zX]at q2;have e:=yR (hi*18446744073709551616+lo) y;generalize hi*18446744073709551616+lo=X at*;have:X/y=Q:=by
   apply Int.le_antisymm
   ·have:X/y<Q+1:=wD (by omega) (by rw[zQ,zX];exact q2);omega
   ·exact Int.le_ediv_of_mul_le (by omega) q1
  rw[this,zC]at e;omega
 rw[key]at res;unfold Ve;rw[bT (show ¬y=0 by omega),bT (show ¬y<=hi by omega),bT hz,bz,bz,bz,es];simp only[fU (n:=(s:Int))];rw[eY,eU,eD,fU (n:=64-(s:Int)),ga,ga,ga,ga];generalize hi*2^s+lo/2^(64-s)=U at*;generalize (lo*2^s)%18446744073709551616=D at*;generalize y*2^s=Y at*;clear eY eU eD key hy1 hy2 hp0 lb lb0 hPQ hQ h1 hz;have eY1:Y/4294967296*4294967296+Y%4294967296=Y:=by omega
 have H0:qB (Y/4294967296) (Y%4294967296) U (D/4294967296):=⟨by omega,by omega,by omega,by omega,hU0,by omega,by omega,by omega⟩;have hU2:U<18446744073709551616:=by omega
 rw[QW,QW,VF hD0 hD1,VF (by omega) b2,ga,wq0 hU0 hU2 (by omega),wr0 hU0 hU2 (by omega)];obtain⟨q1,r1,e1,I1,s1⟩:=UR (y:=Y) (s:=(s:Int)) (e:=D%4294967296) H0 (gu.start H0);rw[e1];have D1:=gu.done H0 I1 s1;simp only[gu.X7 H0 I1,gu.wr1 H0 I1];have second:∀Q1,KI (Y/4294967296) (Y%4294967296) U (D/4294967296) Q1->∃W,qB (Y/4294967296) (Y%4294967296) W (D%4294967296)/\IntKind.u64.wrap (IntKind.u64.wrap (IntKind.u64.wrap (U*4294967296)+D/4294967296)-IntKind.u64.wrap (Q1*Y))=W/\W=U*4294967296+D/4294967296-Q1*Y/\0<=W/\W<Y:=λQ1 hk=>by
  unfold KI at hk;rw[eY1]at hk;obtain⟨k0,k1,k2,k3⟩:=hk;have k4:=k3;rw[zQ,zX]at k4;exact⟨_,⟨by omega,by omega,by omega,by omega,by omega,by omega,by omega,by omega⟩,afP k2 k3 b2,rfl,by omega,by omega⟩
 have fin:∀Q1 Q2 W,W=U*4294967296+D/4294967296-Q1*Y->KI (Y/4294967296) (Y%4294967296) W (D%4294967296) Q2->cP IntKind.u64 (IntKind.u64.wrap (IntKind.u64.wrap (IntKind.u64.wrap (W*4294967296)+D%4294967296)-IntKind.u64.wrap (Q2*Y))) (s:Int)=(hi*18446744073709551616+lo)%y:=λQ1 Q2 W hW hk=>by
  unfold KI at hk;rw[eY1]at hk;obtain⟨k0,k1,k2,k3⟩:=hk;rw[afP k2 k3 b2,WU s (by omega)];have e:U*18446744073709551616+D=W*4294967296+D%4294967296+Q1*4294967296*Y:=by
   rw[hW,zN,zC 4294967296 Y,<-zN];omega
  rw[<-res (Q1*4294967296+Q2)]
  ·congr 1
   rw[zQ];omega
  ·rw[zQ];omega
  ·rw[zQ,zX]at k3;rw[Int.add_assoc,zQ,zQ Q2,zX];omega
 by_cases c1:4294967296<=q1\/4294967296*r1+D/4294967296<q1*(Y%4294967296)
 ·rw[bV c1]at D1 ⊢;rw[bB]at D1;rw[bB,bV (s1 c1),bB,ga,gu.wq1 H0 I1 c1];obtain⟨W,H1,w1,w2,w3,w4⟩:=second _ D1;rw[w1,wq0 w3 (by omega) (by omega),wr0 w3 (by omega) (by omega)];obtain⟨q2,r2,e2,I2,s2⟩:=K2 (y:=Y) (s:=(s:Int)) (e:=q1-1) H1 (gu.start H1);rw[e2];have D2:=gu.done H1 I2 s2;simp only[gu.X7 H1 I2,gu.wr1 H1 I2];by_cases c2:4294967296<=q2\/4294967296*r2+D%4294967296<q2*(Y%4294967296)
  ·rw[bV c2]at D2 ⊢;rw[bB]at D2;rw[bB,bV (s2 c2),bB,ga,gu.wq1 H1 I2 c2,fin _ _ W w2 D2];exact⟨_,rfl⟩
  ·rw[bT c2]at D2 ⊢;rw[bz]at D2;rw[bz,ga,fin _ _ W w2 D2];exact⟨_,rfl⟩
 ·rw[bT c1]at D1 ⊢;rw[bz]at D1;rw[bz,ga];obtain⟨W,H1,w1,w2,w3,w4⟩:=second _ D1;rw[w1,wq0 w3 (by omega) (by omega),wr0 w3 (by omega) (by omega)];obtain⟨q2,r2,e2,I2,s2⟩:=K2 (y:=Y) (s:=(s:Int)) (e:=q1) H1 (gu.start H1);rw[e2];have D2:=gu.done H1 I2 s2;simp only[gu.X7 H1 I2,gu.wr1 H1 I2];by_cases c2:4294967296<=q2\/4294967296*r2+D%4294967296<q2*(Y%4294967296)
  ·rw[bV c2]at D2 ⊢;rw[bB]at D2;rw[bB,bV (s2 c2),bB,ga,gu.wq1 H1 I2 c2,fin _ _ W w2 D2];exact⟨_,rfl⟩
  ·rw[bT c2]at D2 ⊢;rw[bz]at D2;rw[bz,ga,fin _ _ W w2 D2];exact⟨_,rfl⟩
def mul_lt{a b m n:Int}(h1:0<=a)(h2:a<=m)(h3:0<=b)(h4:b<=n):0<=a*b/\a*b<=m*n:=
 ⟨zx h1 h3,yT h2 h4 h3 (by omega)⟩
def akl{x y:Int}(h1:0<=x)(h2:x<18446744073709551616)(h3:0<=y)(h4:y<18446744073709551616):Ws x y=(x*y/18446744073709551616,x*y%18446744073709551616):=by
 unfold Ws;simp only[QW,VF h1 h2,VF h3 h4];have e:x*y=(x/4294967296*(y/4294967296))*18446744073709551616+(x/4294967296*(y%4294967296))*4294967296+(x%4294967296*(y/4294967296))*4294967296+x%4294967296*(y%4294967296):=by
  conv=>lhs;rw[show x=x/4294967296*4294967296+x%4294967296 by omega,show y=y/4294967296*4294967296+y%4294967296 by omega]
  generalize x/4294967296=a;generalize x%4294967296=b;generalize y/4294967296=c;generalize y%4294967296=d;rw[zQ,yW,yW,zN,Int.mul_left_comm 4294967296 c,zN,zC 4294967296 d,<-zN b,<-zN a d,<-zN a c];omega
 obtain⟨a0,a1⟩:=mul_lt (a:=x/4294967296) (b:=y/4294967296) (m:=4294967295) (n:=4294967295) (by omega) (by omega) (by omega) (by omega);obtain⟨b0,b1⟩:=mul_lt (a:=x/4294967296) (b:=y%4294967296) (m:=4294967295) (n:=4294967295) (by omega) (by omega) (by omega) (by omega);obtain⟨c0,c1⟩:=mul_lt (a:=x%4294967296) (b:=y/4294967296) (m:=4294967295) (n:=4294967295) (by omega) (by omega) (by omega) (by omega);obtain⟨d0,d1⟩:=mul_lt (a:=x%4294967296) (b:=y%4294967296) (m:=4294967295) (n:=4294967295) (by omega) (by omega) (by omega) (by omega);rw[e];generalize x/4294967296*(y/4294967296)=A at*;generalize x/4294967296*(y%4294967296)=B at*;generalize x%4294967296*(y/4294967296)=C at*;generalize x%4294967296*(y%4294967296)=D at*;rw[fU (n:=A),fU (n:=B),fU (n:=C),fU (n:=D),
  fU (n:=B+D/4294967296),VF (by omega) (by omega),fU (n:=(B+D/4294967296)%4294967296+C)]
 rw[fU (n:=A+(B+D/4294967296)/4294967296),fU,NB]
 congr 1
 omega
def ajx{x y m:Int}(h1:0<=x)(h2:x<m)(h3:0<=y)(h4:y<m)(h5:m<9223372036854775808):aei x y m=I (x*y%m):=by
 unfold aei;rw[fU h1 (by omega),fU h3 (by omega),fU (n:=m),akl h1 (by omega) h3 (by omega)];simp only;obtain⟨k0,k1⟩:=mul_lt (a:=x) (b:=y) (m:=m) (n:=m-1) h1 (by omega) h3 (by omega);have hx:x*y<m*18446744073709551616:=by
  have:m*(m-1)<=m*18446744073709551615:=wF (by omega) (by omega);omega
 unfold amE;have hh:x*y/18446744073709551616<m:=wD (by omega) hx;have hh0:0<=x*y/18446744073709551616:=by omega
 rw[ga,jC hh0,Int.emod_eq_of_lt hh0 hh];obtain⟨q,e⟩:=aih hh0 hh (by omega) (show 0<=x*y%18446744073709551616 by omega) (by omega);rw[e,show x*y/18446744073709551616*18446744073709551616+x*y%18446744073709551616=x*y by omega];simp only;have r0:=yS (x*y) (b:=m) (by omega);have r1:=yV (x*y) (b:=m) (by omega);rw[aI]
def bZ(a b:Int):Int:=((yy a b:Nat):Int)
def oA{a b:Int}(h1:0<=a)(h2:0<=b):yy b (a.tmod b)=yy a b:=by
 obtain⟨x,rfl⟩:=wE h1;obtain⟨y,rfl⟩:=wE h2;rw[jC h1];show Nat.gcd y ((x:Int)%(y:Int)).natAbs=Nat.gcd x y;rw[<-Int.natCast_emod,Int.natAbs_natCast,Nat.gcd_comm,<-Nat.gcd_rec,Nat.gcd_comm]
def ag0{a:Int}(h:0<=a):((yy a 0:Nat):Int)=a:=by
 rw[Int.gcd_zero_right];omega
def wY{x:Int}:(bif O (x=0)then G else J)=O (¬x=0):=by
 by_cases h:x=0
 ·rw[bV h,bT (λk=>k h)];rfl
 ·rw[bT h,bV h];rfl
def alA{a b:Int}(h1:0<=a)(h2:0<=b):B5 (mS.mk a b)=I (mS.mk (yy a b) 0):=by
 obtain⟨z,e,⟨x,y,rfl,hx,hy,hg⟩,hs⟩:=j9 (rnd:=rf) (λp=>∃x y,p=mS.mk x y/\0<=x/\0<=y/\yy x y=yy a b) (λp=>p.t1.toNat) (λp p' ⟨x,y,hp,hx,hy,hg⟩ hn=>by
  subst hp;have hn:rf (mS.mk x y)=I (I p'):=hn;simp only[rf,wY]at hn;by_cases h0:y=0
  ·rw[eH,bz]at hn;cases hn
  ·rw[bV h0,bB,bD h0]at hn;simp only[zD.injEq]at hn;subst hn;have m0:=yS x (b:=y) h0;have m1:=yV x (b:=y) (by omega);refine⟨⟨y,x.tmod y,rfl,hy,by rw[jC hx];exact m0,by rw[oA hx hy,hg]⟩,?_⟩;show (x.tmod y).toNat<y.toNat
   rw[jC hx];omega) ⟨a,b,rfl,h1,h2,rfl⟩
 have h0:y=0:=Decidable.byContradiction λh0=>hs _ (show rf _=I (I _)by
  simp only[rf,wY];rw[bV h0,bB,bD h0])
 subst h0;rw[show B5=bG rf from rfl,e,<-hg,ag0 hx]
def Ae{a b:Int}(h1:0<=a)(h2:0<=b):wX a b=I (bZ a b):=by
 unfold wX;rw[alA h1 h2];rfl
def aic{a b k n:Int}{l:aa Int}(h1:0<=a)(h2:0<=b):vi (kR.mk a b l n k)=I (kR.mk (yy a b) 0 l n k):=by
 obtain⟨z,e,⟨x,y,rfl,hx,hy,hg⟩,hs⟩:=j9 (rnd:=rB) (λp=>∃x y,p=kR.mk x y l n k/\0<=x/\0<=y/\yy x y=yy a b) (λp=>p.t5.toNat) (λp p' ⟨x,y,hp,hx,hy,hg⟩ hn=>by
  subst hp;have hn:rB (kR.mk x y l n k)=I (I p'):=hn;simp only[rB,wY]at hn;by_cases h0:y=0
  ·rw[eH,bz]at hn;cases hn
  ·rw[bV h0,bB,bD h0]at hn;simp only[zD.injEq]at hn;subst hn;have m0:=yS x (b:=y) h0;have m1:=yV x (b:=y) (by omega);refine⟨⟨y,x.tmod y,rfl,hy,by rw[jC hx];exact m0,by rw[oA hx hy,hg]⟩,?_⟩;show (x.tmod y).toNat<y.toNat
   rw[jC hx];omega) ⟨a,b,rfl,h1,h2,rfl⟩
 have h0:y=0:=Decidable.byContradiction λh0=>hs _ (show rB _=I (I _)by
  simp only[rB,wY];rw[bV h0,bB,bD h0])
 subst h0;rw[show vi=bG rB from rfl,e,<-hg,ag0 hx]
def Ce{a k k1:Int}{l:aa Int}(i:Nat)(h1:0<=a)(hk:k=i)(hk1:k1=i+1)(hi:i<l.length)(hl:l.length<=1000)(h2:0<=l[i]!):rO (ri.mk a l l.length k)=I (I (ri.mk (bZ a l[i]!) l l.length k1)):=by
 subst hk hk1;unfold rO;simp only;rw[mg,bB,ga,zf,aic h1 h2];simp only;rw[bV trivial,bB,bz,aI];rfl
def Be{a b:Int}(h1:0<=a)(h2:0<=b):Aa [a,b]=I (bZ a b):=by
 unfold Aa;rw[show B8=bG rO from rfl,
  bP (Ce (l:=[a,b]) (k:=0) (k1:=1) 0 (zw 0) rfl rfl (by simp) (by simp) h1),bP (Ce (l:=[a,b]) (k:=1) (k1:=2) 1 (by unfold bZ;omega) rfl rfl (by simp) (by simp) h2)]
 rw[cu (by intro r hr;simp[rO]at hr)];simp only;rw[bT (by simp),bz];show I (bZ (bZ 0 a) b)=_;unfold bZ;rw[Int.gcd_zero_left,show ((a.natAbs:Nat):Int)=a by omega]
def BY{a b c:Int}(h1:0<=a)(h2:0<=b)(h3:0<=c):Aa [a,b,c]=I (bZ (bZ a b) c):=by
 unfold Aa;rw[show B8=bG rO from rfl,
  bP (Ce (l:=[a,b,c]) (k:=0) (k1:=1) 0 (zw 0) rfl rfl (by simp) (by simp) h1),bP (Ce (l:=[a,b,c]) (k:=1) (k1:=2) 1 (by unfold bZ;omega) rfl rfl (by simp) (by simp) h2),
  bP (Ce (l:=[a,b,c]) (k:=2) (k1:=3) 2 (by unfold bZ;omega) rfl rfl (by simp) (by simp) h3)]
 rw[cu (by intro r hr;simp[rO]at hr)];simp only;rw[bT (by simp),bz];show I (bZ (bZ (bZ 0 a) b) c)=_;rw[show bZ 0 a=a from by unfold bZ;rw[Int.gcd_zero_left];omega]
end Go.Proofs.YtnfljbehcffmcaaGreat
end
noncomputable section
namespace Go.Iv
open Go
variable [U:qz] [L:mO]
def NG{α β ρ τ:Type}(step:Nat->β->α->β ⊕ ρ)(out:ρ->τ)(fin:β->τ):aa α->Nat->β->τ
 |[],_,b=>fin b
 |x::xs,i,b=>match step i b x with
  | .inl b'=>NG step out fin xs (i+1) b'
  | .inr r=>out r
def s9{α β ρ τ:Type}{step:Nat->β->α->β ⊕ ρ}{out:ρ->τ}{fin:β->τ}{x:α}{xs:aa α}{i:Nat}{b b':β}(h:step i b x= .inl b'):NG step out fin (x::xs) i b=NG step out fin xs (i+1) b':=by
 simp only[NG,h]
def AO{α β ρ τ:Type}{step:Nat->β->α->β ⊕ ρ}{out:ρ->τ}{fin:β->τ}{x:α}{xs:aa α}{i:Nat}{b:β}{r:ρ}(h:step i b x= .inr r):NG step out fin (x::xs) i b=out r:=by
 simp only[NG,h]
def Vt{γ α β ρ τ:Type}[Inhabited α]{rnd:γ->af (af γ)}(l:aa α)(mk:Nat->β->γ)(step:Nat->β->α->β ⊕ ρ)(out:ρ->τ)(fin:β->τ)(ze:Nat->β->Prop)
  (h1:∀i b,i<l.length->ze i b->(∀b',step i b l[i]! = .inl b'->rnd (mk i b)=I (I (mk (i+1) b'))/\ze (i+1) b')/\∀r,step i b l[i]! = .inr r->rnd (mk i b)=I S)
  (h2:∀b,ze l.length b->rnd (mk l.length b)=I S) {b:β} (hb:ze 0 b):
  ∃i v,bG rnd (mk 0 b)=I (mk i v)/\ze i v/\((i=l.length/\NG step out fin l 0 b=fin v)\/(i<l.length/\∃r,step i v l[i]! = .inr r/\NG step out fin l 0 b=out r)):=by
 have key:∀(xs:aa α) (i:Nat) (b:β),l.drop i=xs->i<=l.length->ze i b->∃j v,bG rnd (mk i b)=I (mk j v)/\ze j v/\((j=l.length/\NG step out fin xs i b=fin v)\/(j<l.length/\∃r,step j v l[j]! = .inr r/\NG step out fin xs i b=out r)):=by
  intro xs;induction xs with
  |nil=>
   intro i b hd hi hb;have:i=l.length:=by have:=congrArg yG hd;simp at this;omega
   subst this;exact⟨_,b,cu (λr=>by rw[h2 b hb];simp),hb, .inl ⟨rfl,rfl⟩⟩
  |cons x xs ih=>
   intro i b hd hi hb;have hil:i<l.length:=by have:=congrArg yG hd;simp at this;omega
   have hx:l[i]! =x:=by
    have:=congrArg List.head? hd;rw[List.head?_drop,zq hil]at this;rw[getElem!_pos l i hil];simpa using this
   have hd':l.drop (i+1)=xs:=by
    have:=congrArg List.tail hd;rw[List.tail_drop]at this;simpa using this
   obtain⟨p1,p2⟩:=h1 i b hil hb;cases hs:step i b x with
   |inl b'=>
    obtain⟨q1,q2⟩:=p1 b' (by rw[hx];exact hs);obtain⟨j,v,e2,e3,e4⟩:=ih (i+1) b' hd' hil q2;rw[s9 hs];exact⟨j,v,by rw[bP q1];exact e2,e3,e4⟩
   |inr r=>
    rw[AO hs];exact⟨i,b,cu (λr'=>by rw[p2 r (by rw[hx];exact hs)];simp),hb, .inr ⟨hil,r,by rw[hx];exact hs,rfl⟩⟩
 exact key l 0 b rfl (xu _) hb
def bh{α:Type}[Inhabited α]{l:aa α}{i:Nat}(h:i<l.length):l[i]!∈l:=by rw[getElem!_pos l i h];exact xy h
def fD{i n:Nat}(h:i<n)(hn:n<=1000000):IntKind.i64.wrap ((i:Int)+1)=((i+1:Nat):Int):=by rw[aI];omega
def oO{γ β:Type}{rnd:γ->af (af γ)}(n:Nat)(mk:Nat->β->γ)(ze zc:Nat->β->Prop)
  (h1:∀i b,i<n->ze i b->(∃b',rnd (mk i b)=I (I (mk (i+1) b'))/\ze (i+1) b')\/(rnd (mk i b)=I S/\zc i b))
  (h2:∀b,ze n b->rnd (mk n b)=I S) {b:β} (hb:ze 0 b):
  ∃i v,bG rnd (mk 0 b)=I (mk i v)/\ze i v/\(i=n\/(i<n/\zc i v)):=by
 have key:∀(k i:Nat) (b:β),i+k=n->ze i b->∃j v,bG rnd (mk i b)=I (mk j v)/\ze j v/\(j=n\/(j<n/\zc j v)):=by
  intro k;induction k with
  |zero=>
   intro i b hi hb;have:i=n:=by omega
   subst this;exact⟨_,b,cu (λr=>by rw[h2 b hb];simp),hb, .inl rfl⟩
  |succ k ih=>
   intro i b hi hb;rcases h1 i b (by omega) hb with ⟨b',q1,q2⟩|⟨q1,q2⟩
   ·rw[bP q1];exact ih (i+1) b' (by omega) q2
   ·exact⟨i,b,cu (λr=>by rw[q1];simp),hb, .inr ⟨by omega,q2⟩⟩
 exact key n 0 b (by omega) hb
def cO{γ β:Type}{rnd:γ->af (af γ)}(n:Nat)(mk:Nat->β->γ)(ze:Nat->β->Prop)
  (h1:∀i b,i<n->ze i b->∃b',rnd (mk i b)=I (I (mk (i+1) b'))/\ze (i+1) b')
  (h2:∀b,ze n b->rnd (mk n b)=I S) {b:β} (hb:ze 0 b):∃v,bG rnd (mk 0 b)=I (mk n v)/\ze n v:=by
 obtain⟨i,v,e,hi,h⟩:=oO n mk ze (λ_ _=>False) (λi b hi hb=> .inl (h1 i b hi hb)) h2 hb;rcases h with rfl|⟨_,h⟩
 ·exact⟨v,e,hi⟩
 ·exact h.elim
def b9{α:Type}(c:Nat->α->Int):aa α->Nat->Int
 |[],_=>0
 |x::xs,i=>if c i x=0 then b9 c xs (i+1)else c i x
def qJ{γ α:Type}[Inhabited α]{rnd:γ->af (af γ)}(l:aa α)(mk:Nat->γ)(c:Nat->α->Int)
  (h1:∀i,i<l.length->(c i l[i]! =0->rnd (mk i)=I (I (mk (i+1))))/\(c i l[i]!≠0->rnd (mk i)=I S))
  (h2:rnd (mk l.length)=I S):
  ∃i,bG rnd (mk 0)=I (mk i)/\((i=l.length/\b9 c l 0=0)\/(i<l.length/\c i l[i]!≠0/\b9 c l 0=c i l[i]!)):=by
 have key:∀(xs:aa α) (i:Nat),l.drop i=xs->i<=l.length->∃j,bG rnd (mk i)=I (mk j)/\((j=l.length/\b9 c xs i=0)\/(j<l.length/\c j l[j]!≠0/\b9 c xs i=c j l[j]!)):=by
  intro xs;induction xs with
  |nil=>
   intro i hd hi;have:i=l.length:=by have:=congrArg yG hd;simp at this;omega
   subst this;exact⟨_,cu (λr=>by rw[h2];simp), .inl ⟨rfl,rfl⟩⟩
  |cons x xs ih=>
   intro i hd hi;have hil:i<l.length:=by have:=congrArg yG hd;simp at this;omega
   have hx:l[i]! =x:=by
    have:=congrArg List.head? hd;rw[List.head?_drop,zq hil]at this;rw[getElem!_pos l i hil];simpa using this
   have hd':l.drop (i+1)=xs:=by
    have:=congrArg List.tail hd;rw[List.tail_drop]at this;simpa using this
   obtain⟨p1,p2⟩:=h1 i hil;unfold b9;rw[hx]at p1 p2;by_cases hc:c i x=0
   ·rw[bD hc,bP (p1 hc)];exact ih (i+1) hd' hil
   ·rw[bL hc];exact⟨i,cu (λr=>by rw[p2 hc];simp), .inr ⟨hil,by rw[hx];exact hc,by rw[hx]⟩⟩
 exact key l 0 rfl (xu _)
def oy{γ α:Type}[Inhabited α]{rnd:γ->af (af γ)}(l:aa α)(mk:Nat->γ)(c:Nat->α->Bool)
  (h1:∀i,i<l.length->(c i l[i]! =J->rnd (mk i)=I (I (mk (i+1))))/\(c i l[i]! =G->rnd (mk i)=I S))
  (h2:rnd (mk l.length)=I S):
  ∃i,bG rnd (mk 0)=I (mk i)/\((i=l.length/\∀j,j<l.length->c j l[j]! =J)\/(i<l.length/\c i l[i]! =G)):=by
 obtain⟨i,v,e,hI,h⟩:=oO (β:=Unit) (rnd:=rnd) l.length (λi _=>mk i) (λi _=>∀j,j<i->c j l[j]! =J) (λi _=>c i l[i]! =G) (λi b hi hI=>by
   obtain⟨p1,p2⟩:=h1 i hi;cases hc:c i l[i]! with
   |true=>exact .inl ⟨(),p1 hc,λj hj=>by
     rcases y4.1 hj with h|h
     ·exact hI j h
     ·subst h;exact hc⟩
   |false=>exact .inr ⟨p2 hc,rfl⟩) (λb _=>h2) (b:=()) (λj hj=>dg hj (by omega))
 refine⟨i,e,?_⟩;rcases h with h|h
 ·subst h;exact .inl ⟨rfl,hI⟩
 ·exact .inr h
def Cq{α:Type}[Inhabited α]{l:aa α}{p:α->Bool}(h:∀j,j<l.length->p l[j]! =J):l.all p=J:=by
 rw[zu];intro x hx;obtain⟨i,hi,e⟩:=xR hx;have:=h i hi;rw[getElem!_pos l i hi,e]at this;exact this
def sN{α:Type}[Inhabited α]{l:aa α}{p:α->Bool}{i:Nat}(hi:i<l.length)(h:p l[i]! =G):l.all p=G:=by
 cases ha:l.all p with
 |false=>rfl
 |true=>
  rw[zu]at ha;rw[ha _ (bh hi)]at h;exact dg h (by decide)
def tW{α:Type}[Inhabited α]{l:aa α}{p:α->Bool}(h:∀j,j<l.length->p l[j]! =G):l.any p=G:=by
 cases ha:l.any p with
 |false=>rfl
 |true=>
  obtain⟨x,hx,e⟩:=List.any_eq_true.1 ha;obtain⟨i,hi,e2⟩:=xR hx;have:=h i hi;rw[getElem!_pos l i hi,e2,e]at this;exact dg this (by decide)
def A6{α:Type}[Inhabited α]{l:aa α}{p:α->Bool}{i:Nat}(hi:i<l.length)(h:p l[i]! =J):l.any p=J:=
 List.any_eq_true.2 ⟨_,bh hi,h⟩
def bM{α:Type}[Inhabited α]{l:aa α}{i:Nat}(h:i<l.length):l.take (i+1)=l.take i++[l[i]!]:=by
 rw[getElem!_pos l i h];exact(List.take_append_getElem h).symm
end Go.Iv
end
noncomputable section
set_option maxRecDepth 100000
namespace Go.Proofs.YtnfljbehcffmcaaGreat
open Go Go.Iv
open Go.IntKind (i64 u64)
def cw:aH:=aH.mk 1 0 0
structure NN (a:aH):Prop where
 lo: -1099511627776<=a.ag
 hi:a.ah<=1099511627776
 le:a.ag<=a.ah
 st:(a.ag=a.ah/\a.aj=0)\/(a.ag<a.ah/\1<=a.aj/\(a.ah-a.ag)%a.aj=0)
def NV(a:aH):Prop:=a=cw\/NN a
def NN.s0{a:aH}(h:NN a):0<=a.aj:=by rcases h.st with ⟨_,h⟩|⟨_,h,_⟩<;>omega
def NN.dvd{a:aH}(h:NN a):a.aj∣a.ah-a.ag:=by
 rcases h.st with ⟨h1,h2⟩|⟨_,_,h3⟩
 ·rw[h2,h1];exact⟨0,by omega⟩
 ·exact wk h3
def NN.sle{a:aH}(h:NN a):a.aj<=a.ah-a.ag:=by
 rcases h.st with ⟨h1,h2⟩|⟨h1,_,h3⟩
 ·omega
 ·exact Int.le_of_dvd (by omega) (wk h3)
def NN.ne{a:aH}(h:NN a):a≠cw:=λe=>by
 have:=h.le;rw[e]at this;exact dg this (by decide)
def AG{a b:aH}(h1:a.ag=b.ag)(h2:a.ah=b.ah)(h3:a.aj=b.aj):a=b:=by
 cases a;cases b;simp only at h1 h2 h3;subst h1 h2 h3;rfl
def dJ(x:Int):aH:=aH.mk x x 0
def NN.one{x:Int}(h1: -1099511627776<=x)(h2:x<=1099511627776):NN (dJ x):=⟨h1,h2,zw _, .inl ⟨rfl,rfl⟩⟩
structure cW (P:Int->Prop) (c:aH):Prop where
 lo:P c.ag
 hi:P c.ah
 all:∀x,P x->c.ag<=x/\x<=c.ah/\c.aj∣x-c.ag
 nn:0<=c.aj
 best:∀d,(∀x,P x->d∣x-c.ag)->d∣c.aj
def cW.uniq{P:Int->Prop}{c d:aH}(h:cW P c)(k:cW P d):c=d:=by
 have e1:c.ag=d.ag:=Int.le_antisymm (h.all _ k.lo).1 (k.all _ h.lo).1;have e2:c.ah=d.ah:=Int.le_antisymm (k.all _ h.hi).2.1 (h.all _ k.hi).2.1;refine AG e1 e2 (Int.dvd_antisymm h.nn k.nn (k.best _ λx hx=>by rw[<-e1];exact(h.all x hx).2.2) (h.best _ λx hx=>by rw[e1];exact(k.all x hx).2.2))
def cW.congr{P Q:Int->Prop}{c:aH}(h:cW P c)(k:∀x,P x↔Q x):cW Q c:=
 ⟨(k _).mp h.lo,(k _).mp h.hi,λx hx=>h.all x ((k x).mpr hx),h.nn,λd hd=>h.best d λx hx=>hd x ((k x).mp hx)⟩
def cW.valid{P:Int->Prop}{c:aH}(h:cW P c)(hP:∀x,P x-> -1099511627776<=x/\x<=1099511627776):NN c:=by
 have h1:=hP _ h.lo;have h2:=hP _ h.hi;obtain⟨h3,_,h4⟩:=h.all _ h.hi;refine⟨h1.1,h2.2,h3,?_⟩;have h5:=h.nn;rcases Int.lt_or_eq_of_le h3 with h6|h6
 ·refine .inr ⟨h6,?_,Int.emod_eq_zero_of_dvd h4⟩;rcases Int.lt_or_eq_of_le h5 with h7|h7
  ·omega
  ·rw[<-h7]at h4;have:=xH.mp h4;omega
 ·refine .inl ⟨h6,?_⟩;have:=h.best 0 λx hx=>by
   obtain⟨a1,a2,_⟩:=h.all x hx;exact⟨0,by omega⟩
  exact xH.mp this
def bN(a:aH)(x:Int):Prop:=a.ag<=x/\x<=a.ah/\a.aj∣x-a.ag
def NN.fA{a:aH}(h:NN a):cW (bN a) a:=by
 refine⟨⟨zw _,h.le,⟨0,by omega⟩⟩,⟨h.le,zw _,h.dvd⟩,λx hx=>hx,h.s0,λd hd=> ?_⟩;rcases h.st with ⟨h1,h2⟩|⟨h1,h2,h3⟩
 ·rw[h2];exact xg d
 ·have:=hd (a.ag+a.aj) ⟨by omega,by have:=h.sle;omega,⟨1,by omega⟩⟩
  rwa [show a.ag+a.aj-a.ag=a.aj by omega]at this
def Cm(x:Int):cW (· =x) (dJ x):=
 ⟨rfl,rfl,λy hy=>⟨Int.le_of_eq hy.symm,Int.le_of_eq hy,⟨0,by rw[hy];simp[dJ]⟩⟩,zw _,λd _=>xg d⟩
def jo(a b:Int):bZ a b∣a:=Int.gcd_dvd_left ..
def om(a b:Int):bZ a b∣b:=Int.gcd_dvd_right ..
def iG{d a b:Int}(h1:d∣a)(h2:d∣b):d∣bZ a b:=Int.dvd_coe_gcd h1 h2
def kA(a b:Int):0<=bZ a b:=by unfold bZ;omega
def gcd_neg(a b:Int):bZ a (-b)=bZ a b:=by unfold bZ;rw[Int.gcd_neg]
def jn(a b:aH):aH:=aH.mk (min a.ag b.ag) (max a.ah b.ah) (bZ (bZ a.aj b.aj) (a.ag-b.ag))
def cq(a b:aH):aH:=open Classical in if a=cw then b else if b=cw then a else jn a b
def cW.join{P Q:Int->Prop}{a b:aH}(h:cW P a)(k:cW Q b):cW (λx=>P x\/Q x) (jn a b):=by
 have g1:bZ (bZ a.aj b.aj) (a.ag-b.ag)∣a.aj:=zS (jo _ _) (jo _ _);have g2:bZ (bZ a.aj b.aj) (a.ag-b.ag)∣b.aj:=zS (jo _ _) (om _ _);have g3:bZ (bZ a.aj b.aj) (a.ag-b.ag)∣a.ag-b.ag:=om _ _;refine⟨?_,?_,λx hx=> ?_,kA _ _,λd hd=> ?_⟩
 ·show P (min a.ag b.ag)\/Q (min a.ag b.ag);rcases Int.le_total a.ag b.ag with e|e
  ·rw[wm e];exact .inl h.lo
  ·rw[xI e];exact .inr k.lo
 ·show P (max a.ah b.ah)\/Q (max a.ah b.ah);rcases Int.le_total a.ah b.ah with e|e
  ·rw[Int.max_eq_right e];exact .inr k.hi
  ·rw[Int.max_eq_left e];exact .inl h.hi
 ·show min a.ag b.ag<=x/\x<=max a.ah b.ah/\bZ (bZ a.aj b.aj) (a.ag-b.ag)∣x-min a.ag b.ag;have h0:=Int.min_le_left a.ag b.ag;have h1:=Int.min_le_right a.ag b.ag;have h2:=Int.le_max_left a.ah b.ah;have h3:=Int.le_max_right a.ah b.ah;have both:bZ (bZ a.aj b.aj) (a.ag-b.ag)∣x-a.ag/\bZ (bZ a.aj b.aj) (a.ag-b.ag)∣x-b.ag:=by
   rcases hx with hx|hx
   ·have e:=zS g1 (h.all x hx).2.2;refine⟨e,?_⟩;have:=yU e g3
    rwa [show x-a.ag+(a.ag-b.ag)=x-b.ag by omega]at this
   ·have e:=zS g2 (k.all x hx).2.2;refine⟨?_,e⟩;have:=yq e g3
    rwa [show x-b.ag-(a.ag-b.ag)=x-a.ag by omega]at this
  refine⟨?_,?_,?_⟩
  ·rcases hx with hx|hx
   ·have:=(h.all x hx).1;omega
   ·have:=(k.all x hx).1;omega
  ·rcases hx with hx|hx
   ·have:=(h.all x hx).2.1;omega
   ·have:=(k.all x hx).2.1;omega
  ·rcases Int.le_total a.ag b.ag with e|e
   ·rw[wm e];exact both.1
   ·rw[xI e];exact both.2
 ·show d∣bZ (bZ a.aj b.aj) (a.ag-b.ag);have hd:∀x,P x\/Q x->d∣x-min a.ag b.ag:=hd;have d1:=hd _ (.inl h.lo);have d2:=hd _ (.inr k.lo);refine iG (iG (h.best d λx hx=> ?_) (k.best d λx hx=> ?_)) ?_
  ·have:=yq (hd x (.inl hx)) d1
   rwa [show x-min a.ag b.ag-(a.ag-min a.ag b.ag)=x-a.ag by omega]at this
  ·have:=yq (hd x (.inr hx)) d2
   rwa [show x-min a.ag b.ag-(b.ag-min a.ag b.ag)=x-b.ag by omega]at this
  ·have:=yq d1 d2
   rwa [show a.ag-min a.ag b.ag-(b.ag-min a.ag b.ag)=a.ag-b.ag by omega]at this
def fK{a b:aH}(h:NN a)(k:NN b):cq a b=jn a b:=by
 unfold cq;rw[bL h.ne,bL k.ne]
def iI{b:aH}:cq cw b=b:=by unfold cq;rw[bD rfl]
def sK{a:aH}:cq a cw=a:=by
 unfold cq;by_cases h:a=cw
 ·rw[bD h,h]
 ·rw[bL h,bD rfl]
def ki{a b:aH}(h:NN a)(k:NN b):NN (jn a b):=(h.fA.join k.fA).valid λx hx=>by
 have:=h.lo;have:=h.hi;have:=k.lo;have:=k.hi
 rcases hx with ⟨h1,h2,_⟩|⟨h1,h2,_⟩<;>omega
def dZ{a b:aH}(h:NV a)(k:NV b):NV (cq a b):=by
 rcases h with rfl|h
 ·rw[iI];exact k
 ·rcases k with rfl|k
  ·rw[sK];exact .inr h
  ·rw[fK h k];exact .inr (ki h k)
def PU{a:aH}(h:NN a):jn a a=a:=
 ((h.fA.join h.fA).congr (λx=>⟨λk=>k.elim id id, .inl⟩)).uniq h.fA
def DN(a:aH):(bif O (a.ag=a.ag)then bif O (a.ah=a.ah)then bif O (a.aj=a.aj)then J else G else G else G)=J:=by
 rw[bV rfl,bV rfl,bV rfl];rfl
def EJ{a b:aH}(h:a≠b):(bif O (a.ag=b.ag)then bif O (a.ah=b.ah)then bif O (a.aj=b.aj)then J else G else G else G)=G:=by
 by_cases h1:a.ag=b.ag
 ·by_cases h2:a.ah=b.ah
  ·by_cases h3:a.aj=b.aj
   ·exact dg (AG h1 h2 h3) h
   ·rw[bV h1,bV h2,bT h3];rfl
  ·rw[bV h1,bT h2];rfl
 ·rw[bT h1];rfl
def gY:eG cw=J:=DN cw
def dP{a:aH}(h:a≠cw):eG a=G:=EJ (b:=cw) h
def kS:kg cw=J:=rfl
def gp{a:aH}(h:NN a):kg a=G:=bT (by have:=h.le;omega)
def jj(x:Int):iw x=O (-1099511627776<=x/\x<=1099511627776):=by
 unfold iw;by_cases h: -1099511627776<=x
 ·by_cases k:x<=1099511627776
  ·rw[bV h,bV k,bV ⟨h,k⟩];rfl
  ·rw[bV h,bT k,bT (show ¬(-1099511627776<=x/\x<=1099511627776)from λe=>k e.2)];rfl
 ·rw[bT h,bT (show ¬(-1099511627776<=x/\x<=1099511627776)from λe=>h e.1)];rfl
def si(x:Int):mC x=O (-1099511627776<=x/\x<=1099511627776):=jj x
def SV(a:aH):Bool:=open Classical in O (NV a)
def PS{a:aH}:SV a=J↔NV a:=by unfold SV;exact @decide_eq_true_iff _ (Classical.propDecidable _)
def dD{a:aH}(h:NV a):SV a=J:=PS.mpr h
def s8{a:aH}(h:¬NV a):SV a=G:=by
 cases e:SV a with
 |false=>rfl
 |true=>exact dg (PS.mp e) h
def PL{a:aH}(h0:a≠cw):(match bif bif iw a.ag then G else J then I J else bif bif iw a.ah then G else J then I J else I (O (a.ah<a.ag))with|S=>S|I r1=>bif r1 then I G else bif O (a.ag=a.ah)then I (O (a.aj=0))else match bif O (1<=a.aj)then if¬a.aj=(0:Int)then I (O ((i64.wrap (a.ah-a.ag)).tmod a.aj=0))else S else I G with|S=>S|I r2=>I r2)=I (SV a):=by
 rw[jj,jj];by_cases h1: -1099511627776<=a.ag/\a.ag<=1099511627776
 ·by_cases h2: -1099511627776<=a.ah/\a.ah<=1099511627776
  ·by_cases h3:a.ah<a.ag
   ·rw[bV h1,bV h2,bV h3,s8 (λk=>by rcases k with k|k;exact h0 k;have:=k.le;omega)];rfl
   ·rw[bV h1,bV h2,bT h3];simp only[bB,bz];by_cases h4:a.ag=a.ah
    ·rw[bV h4,bB]
     congr 1
     by_cases h5:a.aj=0
     ·rw[bV h5,dD (.inr ⟨h1.1,h2.2,by omega, .inl ⟨h4,h5⟩⟩)]
     ·rw[bT h5,s8 (λk=>by rcases k with k|k;exact h0 k;rcases k.st with k|k<;>omega)]
    ·rw[bT h4,bz];by_cases h5:1<=a.aj
     ·rw[bV h5,bB,ga,aI,jC];simp only
      congr 1
      by_cases h6:(a.ah-a.ag)%a.aj=0
      ·rw[bV h6,dD (.inr ⟨h1.1,h2.2,by omega, .inr ⟨by omega,h5,h6⟩⟩)]
      ·rw[bT h6,s8 (λk=>by rcases k with k|k;exact h0 k;rcases k.st with k|k;omega;exact h6 k.2.2)]
     ·rw[bT h5,bz];simp only;rw[s8 (λk=>by rcases k with k|k;exact h0 k;rcases k.st with k|k<;>omega)]
  ·rw[bV h1,bT h2,s8 (λk=>by rcases k with k|k;exact h0 k;have:=k.lo;have:=k.hi;have:=k.le;omega)];rfl
 ·rw[bT h1,s8 (λk=>by rcases k with k|k;exact h0 k;have:=k.lo;have:=k.hi;have:=k.le;omega)];rfl
def dX(a:aH):rS a=I (SV a):=by
 unfold rS;by_cases h0:a=cw
 ·subst h0;rw[gY,bB,dD (.inl rfl)]
 ·rw[dP h0,bz];exact PL h0
def fq(a:aH):Tz a=I (SV a):=by
 unfold Tz;by_cases h0:a=cw
 ·subst h0;rw[show oD=cw from rfl,DN,bB,dD (.inl rfl)]
 ·rw[show oD=cw from rfl,EJ h0,bz,<-PL h0,show mC=iw from rfl,jj,jj];by_cases h1: -1099511627776<=a.ag/\a.ag<=1099511627776
  ·by_cases h2: -1099511627776<=a.ah/\a.ah<=1099511627776
   ·rw[bV h1,bV h2];simp only[bB,bz];by_cases h3:a.ah<a.ag
    ·rw[bT (show ¬a.ag=a.ah by omega),bV h3,bT (show ¬a.ag<a.ah by omega)];rfl
    ·rw[bT h3,bz];by_cases h4:a.ag=a.ah
     ·rw[bV h4];rfl
     ·rw[bT h4,bz,bz,bV (show a.ag<a.ah by omega),bB]<;>rfl
   ·rw[bV h1,bT h2];rfl
  ·rw[bT h1];rfl
def bU(a:aH):Int:=open Classical in if a=cw then 0 else if a.aj=0 then 1 else(a.ah-a.ag)/a.aj+1
def wsz{a:aH}(h:NN a)(h0:a.aj≠0):i64.wrap (i64.wrap ((i64.wrap (a.ah-a.ag)).tdiv a.aj)+1)=(a.ah-a.ag)/a.aj+1:=by
 have:=h.lo;have:=h.hi;have:=h.le;have:=h.s0
 have q0:0<=(a.ah-a.ag)/a.aj:=zP (by omega) (by omega);have q1:(a.ah-a.ag)/a.aj<=a.ah-a.ag:=yc _ (by omega);rw[aI (n:=a.ah-a.ag),jq,aI (n:=(a.ah-a.ag)/a.aj),aI]
def jM{a:aH}(h:NV a):vm a=I (bU a):=by
 unfold vm bU;rcases h with rfl|h
 ·rw[gY,bD rfl];rfl
 ·rw[dP h.ne,bL h.ne,bz];by_cases h0:a.aj=0
  ·rw[bV h0,bD h0];rfl
  ·rw[bT h0,bL h0,bz,bD h0,wsz h h0]
def dL{a:aH}(h:NV a):qy a=I (bU a):=by
 unfold qy bU;rw[fq,dD h];simp only[bB,bz];rcases h with rfl|h
 ·rw[kS,bD rfl];rfl
 ·rw[gp h,bL h.ne,bz];by_cases h0:a.aj=0
  ·rw[bV h0,bD h0];rfl
  ·rw[bT h0,bL h0,bz,bD h0,wsz h h0]
def aae{a:aH}(h:¬NV a):qy a=I 0:=by
 unfold qy;rw[fq,s8 h];rfl
def o4{a:aH}(h:NV a):HX a=I (bU a):=by
 unfold HX;rw[dX,dD h];simp only[bB,bz];rw[jM h]
def adx{a:aH}(h:¬NV a):HX a=I 0:=by
 unfold HX;rw[dX,s8 h];rfl
def cC(a:aH)(x:Int):Bool:=open Classical in O (bN a x)
def lE{a:aH}{x:Int}:cC a x=J↔bN a x:=by unfold cC;exact @decide_eq_true_iff _ (Classical.propDecidable _)
def iK{a:aH}{x:Int}(h:¬bN a x):cC a x=G:=by
 cases e:cC a x with
 |false=>rfl
 |true=>exact dg (lE.mp e) h
def kO{a:aH}{x:Int}(h:bN a x):cC a x=J:=lE.mpr h
def wW{x:Int}:¬bN cw x:=λh=>by
 obtain⟨h1,h2,_⟩:=h;have h1:(1:Int)<=x:=h1;have h2:x<=0:=h2;omega
def Jv{a:aH}(h:NN a)(x:Int)(h1:a.ag<=x)(h2:x<=a.ah):(match bif O (a.aj=0)then I J else if¬a.aj=(0:Int)then I (O ((i64.wrap (x-a.ag)).tmod a.aj=0))else S with|S=>S|I r2=>I r2)=I (cC a x):=by
 have:=h.lo;have:=h.hi
 by_cases h0:a.aj=0
 ·rw[bV h0,bB,kO ⟨h1,h2,by rcases h.st with k|k;(rw[h0];exact⟨0,by omega⟩);omega⟩]
 ·rw[bT h0,bz,bD h0,aI,jC];simp only
  congr 1
  by_cases k:(x-a.ag)%a.aj=0
  ·rw[bV k,kO ⟨h1,h2,wk k⟩]
  ·rw[bT k,iK (λe=>k (Int.emod_eq_zero_of_dvd e.2.2))]
def HS{a:aH}(h:NV a)(x:Int):Sd a x=I (cC a x):=by
 unfold Sd;rcases h with rfl|h
 ·rw[gY,iK wW];rfl
 ·rw[dP h.ne,bz];by_cases h1:x<a.ag
  ·rw[bV h1,iK (λk=>by have:=k.1;omega)];rfl
  ·by_cases h2:a.ah<x
   ·rw[bT h1,bV h2,iK (λk=>by have:=k.2.1;omega)];rfl
   ·rw[bT h1,bT h2];simp only[bz];exact Jv h x (by omega) (by omega)
def ja{a:aH}(h:NV a)(x:Int):m32 a x=I (cC a x):=by
 unfold m32;rw[fq,dD h];simp only[bB,bz];rcases h with rfl|h
 ·by_cases h1:x<1
  ·rw[show cw.ag=1 from rfl,bV h1,iK wW];rfl
  ·rw[show cw.ag=1 from rfl,show cw.ah=0 from rfl,bT h1,bV (show 0<x by omega),iK wW];rfl
 ·by_cases h1:x<a.ag
  ·rw[bV h1,iK (λk=>by have:=k.1;omega)];rfl
  ·by_cases h2:a.ah<x
   ·rw[bT h1,bV h2,iK (λk=>by have:=k.2.1;omega)];rfl
   ·rw[bT h1,bT h2];simp only[bz];exact Jv h x (by omega) (by omega)
def oq{a:aH}(h:NV a)(x:Int):m92 a x=I (cC a x):=by
 unfold m92;rw[dX,dD h];simp only[bB];rw[HS h]
def iQ(lo hi st:Int):aH:=if hi<lo then cw else if st=0 then dJ lo else if lo=lo+(hi-lo)/st*st then dJ lo else aH.mk lo (lo+(hi-lo)/st*st) st
def ahu{lo hi st:Int}(h1: -2305843009213693952<=lo)(h2:hi<=2305843009213693952)(h3:lo<=hi)(h4:1<=st):i64.wrap (lo+i64.wrap (i64.wrap ((i64.wrap (hi-lo)).tdiv st)*st))=lo+(hi-lo)/st*st:=by
 have q0:0<=(hi-lo)/st:=zP (by omega) (by omega);have q1:(hi-lo)/st<=hi-lo:=yc _ (by omega);have q2:(hi-lo)/st*st<=hi-lo:=y5 _ (by omega);have q3:0<=(hi-lo)/st*st:=zx q0 (by omega);rw[aI (n:=hi-lo),jq,aI (n:=(hi-lo)/st),aI (n:=(hi-lo)/st*st),aI]
def mK{lo hi st:Int}(h1: -2305843009213693952<=lo)(h2:hi<=2305843009213693952)(h4:0<=st):kE lo hi st=I (iQ lo hi st):=by
 unfold kE iQ;by_cases c1:hi<lo
 ·rw[bV c1,bD c1];rfl
 ·rw[bT c1,bL c1,bz];by_cases c2:st=0
  ·rw[bV c2,bD c2];rfl
  ·rw[bT c2,bL c2,bz,bD c2,ahu h1 h2 (by omega) (by omega)];by_cases c3:lo=lo+(hi-lo)/st*st
   ·rw[bV c3,bD c3];rfl
   ·rw[bT c3,bL c3];rfl
def kM{lo hi st:Int}(h1: -1099511627776<=lo/\lo<=1099511627776)(h2: -1099511627776<=hi/\hi<=1099511627776)(h4:1<=st):iF lo hi st=I (iQ lo hi st,0):=by
 unfold iF iQ;rw[si,si,bV h1,bV h2,bT (show ¬st<1 by omega)];simp only[bB,bz];by_cases c1:hi<lo
 ·rw[bV c1,bD c1];rfl
 ·rw[bT c1,bL c1,bz,bL (show ¬st=0 by omega),ga,ahu (by omega) (by omega) (by omega) h4];by_cases c3:lo=lo+(hi-lo)/st*st
  ·rw[<-c3,bV rfl,bD rfl];rfl
  ·rw[bT c3,bL c3];rfl
def IX{lo hi st:Int}(h1:lo<=hi)(h2:0<=st)(h3:st∣hi-lo)(h4:lo=hi->st=0):iQ lo hi st=aH.mk lo hi st:=by
 unfold iQ;rw[ux];by_cases c:st=0
 ·rw[bD c];subst c;have:=xH.mp h3;unfold dJ;rw[show hi=lo by omega]
 ·rw[bL c,xZ h3,show lo+(hi-lo)=hi by omega,bL (λe=>c (h4 e))]
def kN{lo hi st:Int}(h1: -1099511627776<=lo)(h2:hi<=1099511627776)(h3:lo<=hi)(h4:0<=st):NN (iQ lo hi st):=by
 unfold iQ;rw[ux];by_cases c:st=0
 ·rw[bD c];exact NN.one h1 (by omega)
 ·rw[bL c];have q0:0<=(hi-lo)/st:=zP (by omega) (by omega);have q2:(hi-lo)/st*st<=hi-lo:=y5 _ (by omega);have q3:0<=(hi-lo)/st*st:=zx q0 (by omega);by_cases c3:lo=lo+(hi-lo)/st*st
  ·rw[bD c3];exact NN.one h1 (by omega)
  ·rw[bL c3];refine⟨h1,by show lo+(hi-lo)/st*st<=_;omega,by show lo<=lo+(hi-lo)/st*st;omega, .inr ⟨by show lo<lo+(hi-lo)/st*st;omega,by show 1<=st;omega,?_⟩⟩;show (lo+(hi-lo)/st*st-lo)%st=0;rw[show lo+(hi-lo)/st*st-lo=(hi-lo)/st*st by omega];exact Int.mul_emod_left _ _
def IE{lo hi st x:Int}(h3:lo<=hi)(h4:1<=st):bN (iQ lo hi st) x↔lo<=x/\x<=hi/\st∣x-lo:=by
 unfold iQ;rw[ux,ux];have q2:(hi-lo)/st*st<=hi-lo:=y5 _ (by omega);have q4:=wG (hi-lo) (show 0<st by omega);rw[zQ,zX]at q4;by_cases c3:lo=lo+(hi-lo)/st*st
 ·rw[bD c3];constructor
  ·rintro⟨k1,k2,_⟩;have k1:lo<=x:=k1;have k2:x<=lo:=k2;exact⟨k1,by omega,⟨0,by omega⟩⟩
  ·rintro⟨k1,k2,k3⟩;have:x-lo<st:=by omega
   have e:x-lo=0:=Decidable.byContradiction λh=>dg (Int.le_of_dvd (by omega) k3) (by omega);exact⟨k1,by show x<=lo;omega,by show 0∣x-lo;rw[e];exact⟨0,rfl⟩⟩
 ·rw[bL c3];constructor
  ·rintro⟨k1,k2,k3⟩;have k2:x<=lo+(hi-lo)/st*st:=k2;exact⟨k1,by omega,k3⟩
  ·rintro⟨k1,k2,k3⟩;refine⟨k1,?_,k3⟩;show x<=lo+(hi-lo)/st*st;obtain⟨q,hq⟩:=k3;rw[zC]at hq;have:q<(hi-lo)/st+1:=wj (a:=st) (by rw[zQ,zX];omega) (by omega);have:q*st<=(hi-lo)/st*st:=zM (by omega) (by omega);omega
def Jx(g x v:Int)(hx: -1099511627776<=x/\x<=1099511627776)(hv: -1099511627776<=v/\v<=1099511627776):(0:Int)<=iB x v/\bZ g (iB x v)=bZ g (x-v):=by
 unfold iB;by_cases c:x<v
 ·rw[bV c,bB,aI];exact⟨by omega,by rw[<-gcd_neg,show-(v-x)=x-v by omega]⟩
 ·rw[bT c,bz,aI];exact⟨by omega,rfl⟩
def cW.snoc{P:Int->Prop}{c:aH}{v:Int}(h:cW P c)(hv:P v)(x:Int):cW (λy=>P y\/y=x) (aH.mk (min c.ag x) (max c.ah x) (bZ c.aj (x-v))):=by
 have e:bZ (bZ c.aj 0) (c.ag-x)=bZ c.aj (x-v):=by
  have d:=(h.all v hv).2.2;refine Int.dvd_antisymm (kA _ _) (kA _ _) (iG (zS (jo _ _) (jo _ _)) ?_) (iG (iG (jo _ _) (xg _)) ?_)
  ·have k1:bZ (bZ c.aj 0) (c.ag-x)∣c.ag-x:=om _ _;have k2:bZ (bZ c.aj 0) (c.ag-x)∣v-c.ag:=zS (zS (jo _ _) (jo _ _)) d;have:=Int.dvd_neg.mpr (yU k1 k2)
   rwa [show-(c.ag-x+(v-c.ag))=x-v by omega]at this
  ·have k1:bZ c.aj (x-v)∣x-v:=om _ _;have k2:bZ c.aj (x-v)∣v-c.ag:=zS (jo _ _) d;have:=Int.dvd_neg.mpr (yU k1 k2)
   rwa [show-(x-v+(v-c.ag))=c.ag-x by omega]at this
 have:=h.join (Cm x);unfold jn dJ at this;rw[e]at this;exact this
def cj(x:Int):Prop:= -1099511627776<=x/\x<=1099511627776
instance (x:Int):Decidable (cj x):=inferInstanceAs (Decidable (_/\_))
def Dj(x:Int):mC x=O (cj x):=si x
def ais{l:aa Int}{b0 c:aH}(i:Nat)(hi:i+1<l.length)(hl:l.length<=1000000)(hr:∀x∈l,cj x)(hc:cW (· ∈l.take (i+1)) c):
  ∃c',rL (iU.mk l (i+1:Nat) b0 c)=I (I (iU.mk l (i+1+1:Nat) b0 c'))/\cW (· ∈l.take (i+1+1)) c':=by
 have hx:cj l[i+1]! :=hr _ (bh hi);have h0:cj l[0]! :=hr _ (bh (by omega));have hm:l[0]!∈l.take (i+1):=by
  have:(l.take (i+1))[0]! =l[0]! :=by
   rw[getElem!_pos _ 0 (by rw[zR];omega),getElem!_pos l 0 (by omega),List.getElem_take]
  rw[<-this];exact bh (by rw[zR];omega)
 have hs:=hc.snoc hm l[i+1]!;obtain⟨g0,g1⟩:=Jx c.aj l[i+1]! l[0]! hx h0;refine⟨_,?_,hs.congr λy=> ?_⟩
 ·unfold rL;simp only;rw[mg,bB,ga,ga,zf,Ae hc.nn g0,g1];simp only;rw[aI,show ((i+1:Nat):Int)+1=((i+1+1:Nat):Int)by omega];have hci:(0:Int)<=((i+1:Nat):Int)/\((i+1:Nat):Int)<(l.length:Int):=by omega
  by_cases c1:l[i+1]! <c.ag
  ·rw[xI (by omega)];by_cases c2:c.ah<l[i+1]!
   ·have:=(hc.all _ hc.lo).2.1;omega
   ·rw[Int.max_eq_left (by omega)];simp only[bV c1,bT c2,bD hci,bB,bz]
  ·rw[wm (by omega)];by_cases c2:c.ah<l[i+1]!
   ·rw[Int.max_eq_right (by omega)];simp only[bT c1,bV c2,bD hci,bB,bz]
   ·rw[Int.max_eq_left (by omega)];simp only[bT c1,bT c2,bD hci,bz]
 ·rw[bM (i:=i+1) hi,zU,zJ]
def Hw{l:aa Int}(hn:l≠[])(hl:l.length<=1000000)(hr:∀x∈l,cj x):∃c,SS l=I (c,0)/\cW (· ∈l) c:=by
 have hp:0<l.length:=List.length_pos_iff.mpr hn;obtain⟨c,e1,hc⟩:=cO (rnd:=rL) (l.length-1) (λi (c:aH)=>iU.mk l (i+1:Nat) (aH.mk 0 0 0) c) (λi c=>cW (· ∈l.take (i+1)) c)
  (λi c hi hI=>ais i (by omega) hl hr hI)
  (λc hI=>by
   unfold rL;simp only;rw[eH];rfl) (b:=dJ l[0]!) ((Cm l[0]!).congr λx=>by
   rw[bM hp];simp)
 have e0:bG vz (nY.mk l 0 (aH.mk 0 0 0))=I (nY.mk l (l.length:Nat) (aH.mk 0 0 0)):=Iz (rnd:=vz) (λi=>nY.mk l (i:Nat) (aH.mk 0 0 0)) l.length (λi hi=>by
  unfold vz;simp only;rw[mg,bB,ga,zf,Dj,bV (hr _ (bh hi)),fD hi hl];rfl) (λr=>by
  unfold vz;simp only;rw[eH];intro h;cases h)
 refine⟨c,?_,hc.congr λx=>by rw[show l.length-1+1=l.length by omega,zI]⟩;unfold SS;rw[show Hq=bG vz from rfl,e0];simp only;rw[eH,bz,eH,bz,ga,ga];have e1:bG rL (iU.mk l 1 (aH.mk 0 0 0) (aH.mk l[0]! l[0]! 0))=I (iU.mk l ((l.length-1+1:Nat):Int) (aH.mk 0 0 0) c):=e1;rw[show GL=bG rL from rfl,e1];simp only;rw[eH];rfl
def NN.pW{a:aH}(h:NN a):cj a.ag:=⟨h.lo,by have:=h.le;have:=h.hi;omega⟩
def NN.vU{a:aH}(h:NN a):cj a.ah:=⟨by have:=h.le;have:=h.lo;omega,h.hi⟩
def HT{x:Int}(h1: -2199023255552<=x)(h2:x<=2199023255552):(0:Int)<=iN x/\((iN x:Int)=x\/(iN x:Int)= -x):=by
 unfold iN;rw[aI (n:=0-x)];by_cases c:x<0-x
 ·rw[bD c];exact⟨by omega, .inr (show (0:Int)-x= -x by omega)⟩
 ·rw[bL c];exact⟨by omega, .inl rfl⟩
def Wp(g:Int){x:Int}(h1: -2199023255552<=x)(h2:x<=2199023255552):bZ g (iN x)=bZ g x:=by
 rcases (HT h1 h2).2 with e|e
 ·rw[e]
 ·rw[e,gcd_neg]
def gS{a b:aH}(ha:NV a)(hb:NV b):kC a b=I (cq a b):=by
 unfold kC;rcases ha with rfl|ha
 ·rw[gY,iI];rfl
 rw[dP ha.ne,bz];rcases hb with rfl|hb
 ·rw[gY,sK];rfl
 rw[dP hb.ne,bz];by_cases e:a=b
 ·subst e;rw[DN,fK ha ha,PU ha];rfl
 ·rw[EJ e];simp only[bz];have:=ha.lo;have:=ha.hi;have:=ha.le;have:=hb.lo;have:=hb.hi;have:=hb.le
  rw[aI (n:=a.ag-b.ag),BY ha.s0 hb.s0 (HT (by omega) (by omega)).1,Wp _ (by omega) (by omega)];simp only;rw[show (if b.ag<a.ag then b.ag else a.ag)=min a.ag b.ag by split<;>omega,show (if a.ah<b.ah then b.ah else a.ah)=max a.ah b.ah by split<;>omega,mK (by omega) (by omega) (kA _ _)];simp only;have hj:=ki ha hb;rw[fK ha hb];exact congrArg some (IX hj.le hj.s0 hj.dvd (λk=>by rcases hj.st with h|h;exact h.2;exact dg k (Int.ne_of_lt h.1)))
def fJ{a b:aH}(ha:NV a)(hb:NV b):jH a b=I (cq a b):=by
 unfold jH;rcases ha with rfl|ha
 ·rw[kS,iI];rfl
 rw[gp ha,bz];rcases hb with rfl|hb
 ·rw[kS,sK];rfl
 rw[gp hb,bz];obtain⟨c,e,hc⟩:=Hw (l:=[a.ag,a.ah,b.ag,b.ah]) (by simp) (by simp) (λx hx=>by
  simp only[zF,List.not_mem_nil,or_false]at hx;rcases hx with rfl|rfl|rfl|rfl
  ·exact ha.pW
  ·exact ha.vU
  ·exact hb.pW
  ·exact hb.vU)
 rw[e];simp only;have m:∀x,(x=a.ag\/x=a.ah\/x=b.ag\/x=b.ah)->x∈[a.ag,a.ah,b.ag,b.ah]:=λx hx=>by simpa using hx
 have h1:=hc.lo;have h2:=hc.hi;simp only[zF,List.not_mem_nil,or_false]at h1 h2;have p1:=hc.all _ (m a.ag (by simp));have p2:=hc.all _ (m a.ah (by simp));have p3:=hc.all _ (m b.ag (by simp));have p4:=hc.all _ (m b.ah (by simp));have:=ha.le;have:=hb.le;have e1:c.ag=min a.ag b.ag:=by omega
 have e2:c.ah=max a.ah b.ah:=by omega
 have hj:=ki ha hb;rw[fK ha hb];by_cases k:c.ag<c.ah
 ·rw[bV k,bB,Ae ha.s0 hb.s0];simp only;obtain⟨g0,g1⟩:=Jx (bZ a.aj b.aj) a.ag b.ag ha.pW hb.pW;rw[Ae (kA _ _) g0,g1,e1,e2];rfl
 ·rw[bT k,bz]
  congr 1
  refine AG e1 e2 ?_;have hcv:NN c:=hc.valid (λx hx=>by
   simp only[zF,List.not_mem_nil,or_false]at hx;rcases hx with rfl|rfl|rfl|rfl
   ·exact ha.pW
   ·exact ha.vU
   ·exact hb.pW
   ·exact hb.vU)
  have s1:c.aj=0:=by rcases hcv.st with h|h;exact h.2;omega
  have s2:(jn a b).aj=0:=by
   rcases hj.st with h|h
   ·exact h.2
   ·have:min a.ag b.ag<max a.ah b.ah:=h.1;omega
  rw[s1,s2]
def acO{a b:aH}(ha:NV a)(hb:NV b):adX a b=I (cq a b,0):=by
 unfold adX;rw[dX,dX,dD ha,dD hb];simp only[bB,bz];rw[gS ha hb]
def Ma{a:aH}(h:NV a):cq a a=a:=by
 rcases h with rfl|h
 ·exact iI
 ·rw[fK h h,PU h]
def mF{a b:aH}(ha:NV a)(hb:NV b):sX a b=I (cq a b):=by
 unfold sX;by_cases e:a=b
 ·subst e;rw[DN,Ma ha];rfl
 ·rw[EJ e,bz,acO ha hb]
def cl(a:aH):Bool:=if 1<bU a then J else if bU a=1 then !cC a 0 else G
def rY{a:aH}(h:NN a):bU a=if a.aj=0 then 1 else(a.ah-a.ag)/a.aj+1:=by
 unfold bU;rw[bL h.ne]
def size_pos{a:aH}(h:NN a):1<=bU a:=by
 rw[rY h];split
 ·omega
 ·have:0<=(a.ah-a.ag)/a.aj:=zP (by have:=h.le;omega) h.s0;omega
def jm{a:aH}(h:NN a):bU a=1↔a.ag=a.ah:=by
 rw[rY h];have hl:=h.le;rcases h.st with ⟨h1,h2⟩|⟨h1,h2,h3⟩
 ·rw[bD h2];exact⟨λ_=>h1,λ_=>rfl⟩
 ·rw[ux];constructor
  ·intro k;have:=xZ (wk h3);rw[show (a.ah-a.ag)/a.aj=0 by omega,xF]at this;omega
  ·omega
def Ai{a:aH}(h:NV a):Nv a=I (cC a 0,cl a):=by
 unfold Nv cl;rw[HS h,jM h];simp only;by_cases c:1<bU a
 ·rw[bV c,bD c];rfl
 ·rw[bT c,bL c,bz];by_cases c1:bU a=1
  ·rw[bV c1,bD c1,bB];rcases h with rfl|h
   ·exfalso;unfold bU at c1;rw[bD rfl]at c1;omega
   ·have e:=(jm h).mp c1;have s:a.aj=0:=by rcases h.st with k|k;exact k.2;omega
    by_cases c2:a.ag=0
    ·rw[bV c2,kO (show bN a 0 from⟨by omega,by omega,⟨0,by omega⟩⟩)];rfl
    ·rw[bT c2,iK (show ¬bN a 0 from λk=>by have:=k.1;have:=k.2.1;omega)];rfl
  ·rw[bT c1,bL c1];rfl
def ng{a:aH}(h:NV a):BG a=I (cC a 0,cl a):=by
 unfold BG cl;rw[ja h,dL h];simp only;by_cases c:1<bU a
 ·rw[bV c,bD c];rfl
 ·rw[bT c,bL c,bz];by_cases c1:bU a=1
  ·rw[bV c1,bD c1,bB];cases cC a 0<;>rfl
  ·rw[bT c1,bL c1];rfl
def Au{a:aH}(h:NV a):Lp a=I (cC a 0,cl a):=by
 unfold Lp;rw[dX,dD h];simp only[bB,bz];rw[Ai h]
def gU:Bool->Bool->aH
 |true,J=>aH.mk 0 1 1
 |true,G=>aH.mk 0 0 0
 |false,J=>aH.mk 1 1 0
 |false,G=>cw
def Qg{a b:Bool}(h:(a||b)=J):iy a b=gU a b:=by
 cases a<;>cases b<;>first|rfl|cases h
def P7(a b:Bool):nI a b=I (gU a b):=by
 have v0:NN (dJ 0):=NN.one (by omega) (by omega);have v1:NN (dJ 1):=NN.one (by omega) (by omega);have e:cq (dJ 0) (dJ 1)=aH.mk 0 1 1:=by rw[fK v0 v1];rfl
 unfold nI;cases a<;>cases b
 ·rfl
 ·simp only[bz,bB];rw[show gX=cw from rfl,gS (.inl rfl) (.inr (show NN (fX 1)from v1)),iI];rfl
 ·simp only[bz,bB];rw[show gX=cw from rfl,gS (.inl rfl) (.inr (show NN (fX 0)from v0)),iI];rfl
 ·simp only[bB];rw[show gX=cw from rfl,gS (.inl rfl) (.inr (show NN (fX 0)from v0)),iI];simp only;rw[gS (.inr (show NN (fX 0)from v0)) (.inr (show NN (fX 1)from v1)),show cq (fX 0) (fX 1)=cq (dJ 0) (dJ 1)from rfl,e];rfl
def sJ(a b:Bool):NV (gU a b):=by
 cases a<;>cases b
 ·exact .inl rfl
 ·exact .inr (NN.one (x:=1) (by omega) (by omega))
 ·exact .inr (NN.one (x:=0) (by omega) (by omega))
 ·exact .inr ⟨by decide,by decide,by decide, .inr ⟨by decide,by decide,by decide⟩⟩
def k9(P:Int->Prop)(c:aH):Prop:=(c=cw/\∀x,¬P x)\/(cW P c)
def k9.uniq{P:Int->Prop}{c d:aH}(h:k9 P c)(k:k9 P d):c=d:=by
 rcases h with ⟨h1,h2⟩|h<;>rcases k with ⟨k1,k2⟩|k
 ·rw[h1,k1]
 ·exact dg k.lo (h2 _)
 ·exact dg h.lo (k2 _)
 ·exact h.uniq k
def k9.congr{P Q:Int->Prop}{c:aH}(h:k9 P c)(k:∀x,P x↔Q x):k9 Q c:=by
 rcases h with ⟨h1,h2⟩|h
 ·exact .inl ⟨h1,λx hx=>h2 x ((k x).mpr hx)⟩
 ·exact .inr (h.congr k)
def k9.valid{P:Int->Prop}{c:aH}(h:k9 P c)(hP:∀x,P x->cj x):NV c:=by
 rcases h with ⟨h1,h2⟩|h
 ·exact .inl h1
 ·exact .inr (h.valid hP)
def k9.none{P:Int->Prop}(h:∀x,¬P x):k9 P cw:= .inl ⟨rfl,h⟩
def k9.join{P Q:Int->Prop}{a b:aH}(h:k9 P a)(k:k9 Q b)(ha:NV a)(hb:NV b):k9 (λx=>P x\/Q x) (cq a b):=by
 rcases h with ⟨rfl,h2⟩|h
 ·rw[iI];exact k.congr λx=>⟨.inr,λe=>e.elim (λe=>dg e (h2 x)) id⟩
 ·rcases k with ⟨rfl,k2⟩|k
  ·rw[sK];exact .inr (h.congr λx=>⟨.inl,λe=>e.elim id (λe=>dg e (k2 x))⟩)
  ·have hn:∀{P:Int->Prop} {c:aH},cW P c->NV c->NN c:=λ{P c} e v=>by
    rcases v with rfl|v
    ·have:=(e.all _ e.lo).2.1;exact dg this (by decide)
    ·exact v
   rw[fK (hn h ha) (hn k hb)];exact .inr (h.join k)
def k9.mem{a:aH}(h:NV a):k9 (bN a) a:=by
 rcases h with rfl|h
 ·exact .inl ⟨rfl,λx=>wW⟩
 ·exact .inr h.fA
def RP{a:aH}(h:NV a){x:Int}(hx:bN a x):cj x:=by
 rcases h with rfl|h
 ·exact dg hx wW
 ·have:=h.lo;have:=h.hi;have:=hx.1;have:=hx.2.1
  exact⟨by omega,by omega⟩
def aaP{lo hi st:Int}(h1:lo<=hi)(h2:1<=st):(iQ lo hi st).ah=lo+(hi-lo)/st*st:=by
 unfold iQ;rw[ux,ux];by_cases c3:lo=lo+(hi-lo)/st*st
 ·rw[bD c3];exact c3
 ·rw[bL c3]
def NN.st1{a:aH}(h:NN a)(k:a.ag<a.ah):1<=a.aj:=by rcases h.st with h|h<;>omega
def Ex(P:Int->Prop)(c:aH):Prop:=NV c/\∀x,bN c x↔P x
def Ex.rep{P:Int->Prop}{c:aH}(h:Ex P c):k9 P c:=(k9.mem h.1).congr h.2
def P3{a:aH}(h:NN a){at_:Int}(h1:a.ag<=at_)(h2:at_<a.ah):Ex (λx=>bN a x/\x<=at_) (iQ a.ag at_ a.aj):=by
 have hs:=h.st1 (by omega);have hl:=h.lo;have hh:=h.hi
 refine⟨.inr (kN hl (by omega) h1 h.s0),λx=> ?_⟩;rw[IE h1 hs];exact⟨λ⟨k1,k2,k3⟩=>⟨⟨k1,by omega,k3⟩,k2⟩,λ⟨⟨k1,_,k3⟩,k2⟩=>⟨k1,k2,k3⟩⟩
def Ii{a:aH}(h:NN a){at_:Int}(h1:a.ag<=at_)(h2:at_<a.ah):
  Ex (λx=>bN a x/\at_<x) (iQ (a.ag+((at_-a.ag)/a.aj+1)*a.aj) a.ah a.aj)/\a.ag<a.ag+((at_-a.ag)/a.aj+1)*a.aj/\a.ag+((at_-a.ag)/a.aj+1)*a.aj<=a.ah:=by
 have hs:=h.st1 (by omega);have hl:=h.lo;have hh:=h.hi
 have q2:(at_-a.ag)/a.aj*a.aj<=at_-a.ag:=y5 _ (by omega);have q4:=wG (at_-a.ag) (show 0<a.aj by omega);have up:∀x,a.aj∣x-a.ag->at_<x->a.ag+((at_-a.ag)/a.aj+1)*a.aj<=x:=λx hd hx=>by
  obtain⟨q,hq⟩:=hd;rw[zC]at hq;have:(at_-a.ag)/a.aj<q:=wj (a:=a.aj) (by omega) (by omega);have:((at_-a.ag)/a.aj+1)*a.aj<=q*a.aj:=zM (by omega) (by omega);omega
 have hle:=up a.ah h.dvd h2;have hd:a.aj∣((at_-a.ag)/a.aj+1)*a.aj:=xh ..;refine⟨⟨.inr (kN (by omega) hh hle h.s0),λx=> ?_⟩,by omega,hle⟩;rw[IE hle hs];constructor
 ·rintro⟨k1,k2,k3⟩;have:=yU k3 hd;rw[show x-(a.ag+((at_-a.ag)/a.aj+1)*a.aj)+((at_-a.ag)/a.aj+1)*a.aj=x-a.ag by omega]at this;exact⟨⟨by omega,k2,this⟩,by omega⟩
 ·rintro⟨⟨k1,k2,k3⟩,k4⟩;have:=yq k3 hd;rw[show x-a.ag-((at_-a.ag)/a.aj+1)*a.aj=x-(a.ag+((at_-a.ag)/a.aj+1)*a.aj)by omega]at this;exact⟨up x k3 k4,k2,this⟩
def AJ{a:aH}(h:NV a){Q:Int->Prop}(k:∀x,bN a x->Q x):Ex (λx=>bN a x/\Q x) a:=⟨h,λx=>⟨λe=>⟨e,k x e⟩,λe=>e.1⟩⟩
def nX{a:aH}{Q:Int->Prop}(k:∀x,bN a x->¬Q x):Ex (λx=>bN a x/\Q x) cw:=⟨.inl rfl,λx=>⟨λe=>dg e wW,λe=>dg e.2 (k x e.1)⟩⟩
def tC{a:aH}(h:NV a)(at_:Int):∃l u,wS a at_=I (l,u)/\Ex (λx=>bN a x/\x<=at_) l/\Ex (λx=>bN a x/\at_<x) u:=by
 unfold wS;rcases h with rfl|h
 ·refine⟨cw,cw,?_,nX λx hx=>dg hx wW,nX λx hx=>dg hx wW⟩;rw[gY];rfl
 ·rw[dP h.ne,bz];have hle:=h.le;have hl:=h.lo;have hh:=h.hi
  by_cases c1:at_<a.ag
  ·rw[bV c1];exact⟨cw,a,rfl,nX λx hx k=>by have:=hx.1;omega,AJ (.inr h) λx hx=>by have:=hx.1;omega⟩
  ·rw[bT c1];simp only[bz];by_cases c2:a.ah<=at_
   ·rw[bV c2];exact⟨a,cw,rfl,AJ (.inr h) λx hx=>by have:=hx.2.1;omega,nX λx hx k=>by have:=hx.2.1;omega⟩
   ·have hs:=h.st1 (by omega);obtain⟨r1,r2,r3⟩:=Ii h (at_:=at_) (by omega) (by omega);have e:a.ag+((at_-a.ag)/a.aj+1)*a.aj=a.ag+(at_-a.ag)/a.aj*a.aj+a.aj:=by rw[zQ,zX];omega
    rw[e]at r1 r2 r3;rw[bT c2,bz,mK (by omega) (by omega) h.s0];simp only;rw[aaP (by omega) hs,aI,mK (by omega) (by omega) h.s0];exact⟨_,_,rfl,P3 h (by omega) (by omega),r1⟩
def F7{a:aH}(h:NV a)(at_:Int):∃l,m41 a at_=I l/\Ex (λx=>bN a x/\x<=at_) l:=by
 unfold m41;rcases h with rfl|h
 ·exact⟨cw,rfl,nX λx hx=>dg hx wW⟩
 ·rw[gp h,bz];have hle:=h.le;have hl:=h.lo;have hh:=h.hi
  by_cases c1:at_<a.ag
  ·rw[bV c1];exact⟨cw,rfl,nX λx hx k=>by have:=hx.1;omega⟩
  ·rw[bT c1];simp only[bz];by_cases c2:a.ah<=at_
   ·rw[bV c2];exact⟨a,rfl,AJ (.inr h) λx hx=>by have:=hx.2.1;omega⟩
   ·rw[bT c2,bz,kM h.pW ⟨by omega,by omega⟩ (h.st1 (by omega))];exact⟨_,rfl,P3 h (by omega) (by omega)⟩
def vI{a:aH}(h:NV a)(at_:Int):∃u,TA a at_=I u/\Ex (λx=>bN a x/\at_<x) u:=by
 unfold TA;rcases h with rfl|h
 ·refine⟨cw,?_,nX λx hx=>dg hx wW⟩;rw[kS];rfl
 ·rw[gp h,bz];have hle:=h.le;have hl:=h.lo;have hh:=h.hi
  by_cases c1:a.ah<=at_
  ·rw[bV c1];exact⟨cw,rfl,nX λx hx k=>by have:=hx.2.1;omega⟩
  ·rw[bT c1];simp only[bz];by_cases c2:at_<a.ag
   ·rw[bV c2];exact⟨a,rfl,AJ (.inr h) λx hx=>by have:=hx.1;omega⟩
   ·have hs:=h.st1 (by omega);obtain⟨r1,r2,r3⟩:=Ii h (at_:=at_) (by omega) (by omega);have q0:0<=(at_-a.ag)/a.aj:=zP (by omega) (by omega);have q1:(at_-a.ag)/a.aj<=at_-a.ag:=yc _ (by omega);rw[bT c2,bz,ga,aI (n:=at_-a.ag),jq,aI (n:=(at_-a.ag)/a.aj),aI (n:=(at_-a.ag)/a.aj+1),
     aI (n:=((at_-a.ag)/a.aj+1)*a.aj),aI,kM ⟨by omega,by omega⟩ h.vU hs]
    exact⟨_,rfl,r1⟩
def k9.empty{P:Int->Prop}{c:aH}(h:k9 P c)(hv:NV c):eG c=kg c/\((eG c=J/\c=cw/\∀x,¬P x)\/(eG c=G/\NN c/\cW P c)):=by
 rcases h with ⟨rfl,h⟩|h
 ·exact⟨by rw[gY];rfl, .inl ⟨gY,rfl,h⟩⟩
 ·rcases hv with rfl|hv
  ·exact dg (h.all _ h.lo).2.1 (by decide)
  ·exact⟨by rw[dP hv.ne,gp hv], .inr ⟨dP hv.ne,hv,h⟩⟩
def qS(a:aH)(lo hi:Int)(y:Int):Prop:=∃x,bN a x/\y=max lo (min x hi)
def Uk{a:aH}{lo hi y:Int}(h1:cj lo)(h2:cj hi)(h3:lo<=hi)(h:qS a lo hi y):cj y:=by
 obtain⟨x,_,rfl⟩:=h;obtain⟨a1,a2⟩:=h1;obtain⟨b1,b2⟩:=h2;exact⟨by omega,by omega⟩
def HA(x:Int):k9 (· =x) (dJ x):= .inr (Cm x)
def o7{x:Int}(h:cj x):NV (dJ x):= .inr (NN.one h.1 h.2)
def lB{Q R:Int->Prop}{c d:aH}{b:Int}(hc:k9 Q c)(vc:NV c)(hb:cj b)(hd:k9 R d)(vd:NV d):
  (eG d=J->k9 (λy=>Q y\/(y=b/\∃x,R x)) c)/\(eG d=G->k9 (λy=>Q y\/(y=b/\∃x,R x)) (cq c (dJ b))):=by
 rcases (hd.empty vd).2 with ⟨e1,rfl,e3⟩|⟨e1,e2,e3⟩
 ·refine⟨λ_=>hc.congr λx=>⟨.inl,λh=>h.elim id λh=>dg h.2.choose_spec (e3 _)⟩,λh=> ?_⟩;rw[e1]at h;cases h
 ·refine⟨λh=> ?_,λ_=>((hc.join (HA b) vc (o7 hb)).congr λx=>⟨λh=>h.elim .inl λh=> .inr ⟨h,_,e3.lo⟩,λh=>h.elim .inl λh=> .inr h.1⟩)⟩;rw[e1]at h;cases h
def M4{a:aH}(h:NV a)(lo hi:Int):(∃c,m81 a lo hi=I (c,0)/\X5 a lo hi=I (c,0)/\k9 (qS a lo hi) c/\NV c/\cj lo/\cj hi/\lo<=hi)\/
  (m81 a lo hi=I (aH.mk 0 0 0,3)/\X5 a lo hi=I (aH.mk 0 0 0,3)/\¬(cj lo/\cj hi/\lo<=hi)):=by
 unfold m81 X5;rw[dX,fq,dD h,jj,jj,si,si];simp only[bB,bz];by_cases h1: -1099511627776<=lo/\lo<=1099511627776
 ·by_cases h2: -1099511627776<=hi/\hi<=1099511627776
  ·by_cases h3:hi<lo
   ·right;rw[bV h1,bV h2,bV h3];exact⟨rfl,rfl,λk=>by have:=k.2.2;omega⟩
   ·left;rw[bV h1,bV h2,bT h3];simp only[bB,bz];rw[aI (n:=lo-1)];obtain⟨un,re,e1,r1,r2⟩:=tC h (lo-1);obtain⟨ins,ov,e2,r3,r4⟩:=tC r2.1 hi;have mi:∀x,bN ins x↔bN a x/\lo<=x/\x<=hi:=λx=>⟨λk=>let ⟨k1,k2⟩:=(r3.2 x).mp k;let ⟨k3,k4⟩:=(r2.2 x).mp k1;⟨k3,by omega,k2⟩,λ⟨k1,k2,k3⟩=>(r3.2 x).mpr ⟨(r2.2 x).mpr ⟨k1,by omega⟩,k3⟩⟩;have mo:∀x,bN ov x↔bN a x/\hi<x:=λx=>⟨λk=>let ⟨k1,k2⟩:=(r4.2 x).mp k;let ⟨k3,k4⟩:=(r2.2 x).mp k1;⟨k3,k2⟩,λ⟨k1,k2⟩=>(r4.2 x).mpr ⟨(r2.2 x).mpr ⟨k1,by omega⟩,k2⟩⟩;obtain⟨x1,f1,s1⟩:=vI h (lo-1);obtain⟨x2,f2,s2⟩:=F7 s1.1 hi;obtain⟨x3,f3,s3⟩:=F7 h lo;obtain⟨x4,f4,s4⟩:=vI h hi;have m2:∀x,bN x2 x↔bN a x/\lo<=x/\x<=hi:=λx=>⟨λk=>let ⟨k1,k2⟩:=(s2.2 x).mp k;let ⟨k3,k4⟩:=(s1.2 x).mp k1;⟨k3,by omega,k2⟩,λ⟨k1,k2,k3⟩=>(s2.2 x).mpr ⟨(s1.2 x).mpr ⟨k1,by omega⟩,k3⟩⟩;have rlo:cj lo:=h1;have rhi:cj hi:=h2;have nb:∀b:Bool,(match b with|true=>true|false=>false)=b:=λb=>by cases b<;>rfl
    obtain⟨t1,t2⟩:=lB (Ex.rep ⟨r3.1,mi⟩) r3.1 rlo r1.rep r1.1;have P:∃c,(match wS a (lo-1)with|S=>S|I r3=>match wS r3.snd hi with|S=>S|I r4=>bif bif eG r3.fst then G else J then match kC r4.fst (fX lo)with|S=>S|I r5=>bif bif eG r4.snd then G else J then match kC r5 (fX hi)with|S=>S|I r6=>I (r6,(0:Int))else I (r5,0)else bif bif eG r4.snd then G else J then match kC r4.fst (fX hi)with|S=>S|I r7=>I (r7,0)else I (r4.fst,0))=I (c,0)/\k9 (qS a lo hi) c:=by
     have fin:∀c,NV c->k9 (λy=>(bN a y/\lo<=y/\y<=hi)\/(y=lo/\∃x,bN a x/\x<=lo-1)) c->∃d,(bif bif eG ov then G else J then match kC c (fX hi)with|S=>S|I r6=>I (r6,(0:Int))else I (c,0))=I (d,0)/\k9 (qS a lo hi) d:=λc vc hc=>by
      obtain⟨u1,u2⟩:=lB hc vc rhi (Ex.rep ⟨r4.1,mo⟩) r4.1;have eq:∀y,(((bN a y/\lo<=y/\y<=hi)\/(y=lo/\∃x,bN a x/\x<=lo-1))\/(y=hi/\∃x,bN a x/\hi<x))↔qS a lo hi y:=λy=>by
       constructor
       ·rintro((⟨k1,k2,k3⟩|⟨rfl,x,k1,k2⟩)|⟨rfl,x,k1,k2⟩)
        ·exact⟨y,k1,by omega⟩
        ·exact⟨x,k1,by omega⟩
        ·exact⟨x,k1,by omega⟩
       ·rintro⟨x,k1,rfl⟩;rcases (show x<lo\/hi<x\/(lo<=x/\x<=hi)by omega)with k|k|k
        ·exact .inl (.inr ⟨by omega,x,k1,by omega⟩)
        ·exact .inr ⟨by omega,x,k1,k⟩
        ·rw[show max lo (min x hi)=x by omega];exact .inl (.inl ⟨k1,k.1,k.2⟩)
      cases ho:eG ov with
      |true=>exact⟨c,rfl,(u1 ho).congr eq⟩
      |false=>
       simp only[bz,bB];rw[gS vc (.inr (show NN (fX hi)from NN.one h2.1 h2.2))];exact⟨_,rfl,(u2 ho).congr eq⟩
     rw[e1];simp only;rw[e2];simp only;cases hu:eG un with
     |true=>
      simp only[bz,bB];exact fin ins r3.1 (t1 hu)
     |false=>
      simp only[bz,bB];rw[gS r3.1 (.inr (show NN (fX lo)from NN.one h1.1 h1.2))];exact fin (cq ins (dJ lo)) (dZ r3.1 (o7 rlo)) (t2 hu)
    obtain⟨c,P1,P2⟩:=P;have vc:NV c:=P2.valid λx hx=>Uk rlo rhi (by omega) hx;refine⟨c,P1,?_,P2,vc,rlo,rhi,by omega⟩;have fin:∀c',NV c'->k9 (λy=>(bN a y/\lo<=y/\y<=hi)\/(y=lo/\∃x,bN a x/\x<=lo)) c'->(match TA a hi with|S=>S|I r7=>bif bif kg r7 then G else J then match jH c' (aH.mk hi hi 0)with|S=>S|I r8=>I (r8,(0:Int))else I (c',0))=I (c,0):=λc' vc' hc'=>by
     obtain⟨u1,u2⟩:=lB hc' vc' rhi s4.rep s4.1;have eq:∀y,(((bN a y/\lo<=y/\y<=hi)\/(y=lo/\∃x,bN a x/\x<=lo))\/(y=hi/\∃x,bN a x/\hi<x))↔qS a lo hi y:=λy=>by
      constructor
      ·rintro((⟨k1,k2,k3⟩|⟨rfl,x,k1,k2⟩)|⟨rfl,x,k1,k2⟩)
       ·exact⟨y,k1,by omega⟩
       ·exact⟨x,k1,by omega⟩
       ·exact⟨x,k1,by omega⟩
      ·rintro⟨x,k1,rfl⟩;rcases (show x<lo\/hi<x\/(lo<=x/\x<=hi)by omega)with k|k|k
       ·exact .inl (.inr ⟨by omega,x,k1,by omega⟩)
       ·exact .inr ⟨by omega,x,k1,k⟩
       ·rw[show max lo (min x hi)=x by omega];exact .inl (.inl ⟨k1,k.1,k.2⟩)
     rw[f4];simp only;rw[<-(s4.rep.empty s4.1).1];cases ho:eG x4 with
     |true=>
      rw[((u1 ho).congr eq).uniq P2];rfl
     |false=>
      simp only[bz,bB];rw[fJ vc' (.inr (show NN (aH.mk hi hi 0)from NN.one h2.1 h2.2))];simp only;rw[show cq c' (aH.mk hi hi 0)=c from((u2 ho).congr eq).uniq P2]
    obtain⟨t1,t2⟩:=lB (Ex.rep ⟨s2.1,m2⟩) s2.1 rlo s3.rep s3.1;rw[f1];simp only;rw[f2];simp only;rw[f3];simp only;rw[<-(s3.rep.empty s3.1).1];cases hu:eG x3 with
    |true=>
     simp only[bz,bB];exact fin x2 s2.1 (t1 hu)
    |false=>
     simp only[bz,bB];rw[fJ s2.1 (.inr (show NN (aH.mk lo lo 0)from NN.one h1.1 h1.2))];exact fin _ (dZ s2.1 (o7 rlo)) (t2 hu)
  ·right;rw[bV h1,bT h2];refine⟨?_,rfl,λk=>h2 k.2.1⟩;cases O (hi<lo)<;>rfl
 ·right;rw[bT h1];refine⟨?_,rfl,λk=>h1 k.1⟩;cases O (hi<lo)<;>rfl
end Go.Proofs.YtnfljbehcffmcaaGreat
end
