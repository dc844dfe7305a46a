/- Merged: Ho, Hp, Gn, Gt1, Pl2, Zv, Zw, Zx, Zy0, Gt2, Gt3. -/
import Derived.Test.YtghilkcphindjaaGreatM3SymbolicDomain
open Nat renaming beq -> zh, zero_le -> yy
open Int renaming toNat_natCast -> zi, toNat -> zB, lt_irrefl -> zJ
open Bool renaming and_eq_true -> zj, or_eq_true -> yL, true -> O, false -> V
open Option renaming map_eq_some_iff -> zk, some -> zG, getD_some -> yl, some -> Q, none -> J
open List renaming getElem?_eq_getElem -> zm, mem_cons_self -> zq, mem_cons -> zu, all_eq_true -> zx, mem_map -> zy, length_append -> zF, length_map -> zI, map_cons -> zO, getElem?_eq_some_iff -> zQ, mem_append -> zV, mem_append_left -> zZ, idxOf_lt_length_of_mem -> yt, nodup_append -> yx, length -> yz, getElem_mem -> yJ, map_nil -> yU, take_of_length_le -> yX, nodup_nil -> yY, not_mem_nil -> xe, idxOf_append -> xQ, getElem_map -> x9, nodup_iff_pairwise_ne -> we, getElem_of_mem -> wh, filter_sublist -> wB, length_singleton -> wN
open Decidable renaming decide -> Z
open Go.Proofs.Tryz renaming prog -> wR
open Go.Proofs.Tryz
set_option linter.unusedSectionVars false
set_option linter.unusedVariables false
set_option linter.unusedSimpArgs false
set_option linter.defProp false
noncomputable section
set_option maxRecDepth 100000
namespace Go.Proofs.YtghilkcphindjaaGreat
open Go Go.Iv
open Go.IntKind (i64 u64)
def akI:aI:=cw
def ada:ak wR akI:=aQ
abbrev anG:=Int
def d242:Td 0 anG:= .c [] [2] (.r 0 0 (ec 2 aL en) sn (λz=>z.1.1) (λx=>((x,()),(()))))
def atC:=(lc qb ln)
def ajh:An:= .no
def aqL:bx wR (akI) 0 300 242 (ajh):=aD (l:=[]) func242 (aq (by kernel_rfl)) (by kernel_rfl) aC
def Gk(a0:Bool):anG:=
 bif a0 then 1 else 0
def aBa(a0:Bool):aO wR (akI) 300 (ajh) 242 (atC.c (a0,())) [] 0 d242.rd=Q (Gk a0):=by
 refine Eq.trans (b:=(
  bif a0 then Q (1)else Q (0):af anG)) (by kernel_rfl) ?_
 simp only[Gk,bV,cv]
def RR:=eL wR 242 V atC d242 (λg=>Q (Gk g.1))
def uN{F:aI}(h:ak wR F):ak wR (RR F):=bA (sc:=dM) aX (bq ada aqL (λ_=>by kernel_rfl) (λ_=>by kernel_rfl) λg=>aBa g.1) ⟨_,func242,by kernel_rfl,by kernel_rfl⟩ (λ_=>by kernel_rfl) (λ_=>by kernel_rfl) h
def akY:aI:=cw
def aa8:ak wR akY:=aQ
abbrev avs:=Int
def d280:Td 0 avs:= .c [] [4] (.r 0 0 (ec 4 aL en) sn (λz=>z.1.1) (λx=>((x,()),(()))))
def aq2:=(aW (aW ln))
def ahy:An:= .no
def ay4:bx wR (akY) 0 300 280 (ahy):=aD (l:=[]) func280 (aq (by kernel_rfl)) (by kernel_rfl) aC
def QI(a0:Int)(a1:Int):avs:=
 i64.wrap (a0+a1)
def aCX(a0:Int)(a1:Int):aO wR (akY) 300 (ahy) 280 (aq2.c (a0,a1,())) [] 0 d280.rd=Q (QI a0 a1):=by kernel_rfl
def anp:=eL wR 280 V aq2 d280 (λg=>Q (QI g.1 g.2.1))
def NL{F:aI}(h:ak wR F):ak wR (anp F):=bA (sc:=dM) aX (bq aa8 ay4 (λ_=>by kernel_rfl) (λ_=>by kernel_rfl) λg=>aCX g.1 g.2.1) ⟨_,func280,by kernel_rfl,by kernel_rfl⟩ (λ_=>by kernel_rfl) (λ_=>by kernel_rfl) h
def anz:aI:=cw
def Zf:ak wR anz:=aQ
abbrev aqz:=Int
def d281:Td 0 aqz:= .c [] [4] (.r 0 0 (ec 4 aL en) sn (λz=>z.1.1) (λx=>((x,()),(()))))
def arF:=(aW (aW ln))
def aic:An:= .no
def ayu:bx wR (anz) 0 300 281 (aic):=aD (l:=[]) func281 (aq (by kernel_rfl)) (by kernel_rfl) aC
def afN(a0:Int)(a1:Int):aqz:=
 i64.wrap (a0-a1)
def aA8(a0:Int)(a1:Int):aO wR (anz) 300 (aic) 281 (arF.c (a0,a1,())) [] 0 d281.rd=Q (afN a0 a1):=by kernel_rfl
def al6:=eL wR 281 V arF d281 (λg=>Q (afN g.1 g.2.1))
def Ou{F:aI}(h:ak wR F):ak wR (al6 F):=bA (sc:=dM) aX (bq Zf ayu (λ_=>by kernel_rfl) (λ_=>by kernel_rfl) λg=>aA8 g.1 g.2.1) ⟨_,func281,by kernel_rfl,by kernel_rfl⟩ (λ_=>by kernel_rfl) (λ_=>by kernel_rfl) h
def Z8:aI:=cw
def afp:ak wR Z8:=aQ
abbrev at7:=Int
def d282:Td 0 at7:= .c [] [4] (.r 0 0 (ec 4 aL en) sn (λz=>z.1.1) (λx=>((x,()),(()))))
def axH:=(aW (aW ln))
def ah5:An:=(noTwo (.two (.two (.rb [] 18) .no) .no))
def av1:∀f∈([]:aa Nat),aZ (Z8) f:=aC
def ayE:bx wR (Z8) 0 300 282 (ah5):=aD (l:=[(.skip,(.rb [] 18))]) func282 (aq (by kernel_rfl)) (by kernel_rfl) (aA av1 aC)
def ad9(a0:Int)(a1:Int):af at7:=
 match bif bif Z (a0=0)then V else O then if¬(if a0<i64.wrap ((0:Int)-a0)then i64.wrap ((0:Int)-a0)else a0)=0then Q (Z (i64.wrap ((1099511627776:Int).tdiv (if a0<i64.wrap (0-a0)then i64.wrap (0-a0)else a0))<if a1<i64.wrap (0-a1)then i64.wrap (0-a1)else a1))else J else Q V with|J=>J|Q r1=>bif r1 then Q 1099511627777 else Q (i64.wrap (a0*a1))
def aC7(a0:Int)(a1:Int):aO wR (Z8) 300 (ah5) 282 (axH.c (a0,a1,())) [] 0 d282.rd=ad9 a0 a1:=by kernel_rfl
def anl:=eL wR 282 V axH d282 (λg=>ad9 g.1 g.2.1)
def N7{F:aI}(h:ak wR F):ak wR (anl F):=bA (sc:=dM) aX (bq afp ayE (λ_=>by kernel_rfl) (λ_=>by kernel_rfl) λg=>aC7 g.1 g.2.1) ⟨_,func282,by kernel_rfl,by kernel_rfl⟩ (λ_=>by kernel_rfl) (λ_=>by kernel_rfl) h
def acW:aI:=cw
def ab2:ak wR acW:=aQ
abbrev aqJ:=Int
def d283:Td 0 aqJ:= .c [] [4] (.r 0 0 (ec 4 aL en) sn (λz=>z.1.1) (λx=>((x,()),(()))))
def ast:=(aW (aW ln))
def agY:An:=(noTwo (noTwo (noTwo (.two (.two (.rb [] 21) .no) .no))))
def ax2:∀f∈([]:aa Nat),aZ (acW) f:=aC
def aw8:bx wR (acW) 0 300 283 (agY):=aD (l:=[(.skip,(.rb [] 21))]) func283 (aq (by kernel_rfl)) (by kernel_rfl) (aA ax2 aC)
def XJ(a0:Int)(a1:Int):af aqJ:=
 bif Z (a1=0)then Q 0 else if¬a1=0then match if¬a1=0then bif bif Z (a0.tmod a1=0)then V else O then Q (bif Z (a0<0)==Z (a1<0)then V else O)else Q V else J with|J=>J|Q r1=>bif r1 then Q (i64.wrap (i64.wrap (a0.tdiv a1)-1))else Q (i64.wrap (a0.tdiv a1))else J
def aBD(a0:Int)(a1:Int):aO wR (acW) 300 (agY) 283 (ast.c (a0,a1,())) [] 0 d283.rd=XJ a0 a1:=by kernel_rfl
def abf:=eL wR 283 V ast d283 (λg=>XJ g.1 g.2.1)
def Ft{F:aI}(h:ak wR F):ak wR (abf F):=bA (sc:=dM) aX (bq ab2 aw8 (λ_=>by kernel_rfl) (λ_=>by kernel_rfl) λg=>aBD g.1 g.2.1) ⟨_,func283,by kernel_rfl,by kernel_rfl⟩ (λ_=>by kernel_rfl) (λ_=>by kernel_rfl) h
def ala:aI:=(abf (RR cw))
def afy:ak wR ala:=(Ft (uN aQ))
abbrev aua:=Int
def d284:Td 0 aua:= .c [] [4] (.r 0 0 (ec 4 aL en) sn (λz=>z.1.1) (λx=>((x,()),(()))))
def ayq:=(aW (aW ln))
def ahv:An:= .no
def arJ:bx wR (ala) 0 300 284 (ahv):=aD (l:=[]) func284 (aq (by kernel_rfl)) (by kernel_rfl) aC
def aet(a0:Int)(a1:Int):af aua:=
 match XJ a0 a1 with|J=>J|Q r1=>Q (i64.wrap (Gk (bif Z (a1=0)then V else O)*i64.wrap (a0-i64.wrap (a1*r1))))
def aDq(a0:Int)(a1:Int):aO wR (ala) 300 (ahv) 284 (ayq.c (a0,a1,())) [] 0 d284.rd=aet a0 a1:=by kernel_rfl
def anb:=eL wR 284 V ayq d284 (λg=>aet g.1 g.2.1)
def OD{F:aI}(h:ak wR F):ak wR (anb F):=bA (sc:=dM) aX (bq afy arJ (λ_=>by kernel_rfl) (λ_=>by kernel_rfl) λg=>aDq g.1 g.2.1) ⟨_,func284,by kernel_rfl,by kernel_rfl⟩ (λ_=>by kernel_rfl) (λ_=>by kernel_rfl) h
def ap7:aI:=cw
def aes:ak wR ap7:=aQ
abbrev alw:=Int
def d285:Td 0 alw:= .c [] [4] (.r 0 0 (ec 4 aL en) sn (λz=>z.1.1) (λx=>((x,()),(()))))
def axY:=(aW (aW ln))
def agx:An:= .no
def awF:bx wR (ap7) 0 300 285 (agx):=aD (l:=[]) func285 (aq (by kernel_rfl)) (by kernel_rfl) aC
def SB(a0:Int)(a1:Int):alw:=
 if a1<a0 then a1 else a0
def aBw(a0:Int)(a1:Int):aO wR (ap7) 300 (agx) 285 (axY.c (a0,a1,())) [] 0 d285.rd=Q (SB a0 a1):=by
 refine Eq.trans (b:=(
  Q (if a1<a0 then a1 else a0):af alw)) (by kernel_rfl) ?_
 simp only[SB,bV,cv]
def ajJ:=eL wR 285 V axY d285 (λg=>Q (SB g.1 g.2.1))
def Om{F:aI}(h:ak wR F):ak wR (ajJ F):=bA (sc:=dM) aX (bq aes awF (λ_=>by kernel_rfl) (λ_=>by kernel_rfl) λg=>aBw g.1 g.2.1) ⟨_,func285,by kernel_rfl,by kernel_rfl⟩ (λ_=>by kernel_rfl) (λ_=>by kernel_rfl) h
def anr:aI:=cw
def afa:ak wR anr:=aQ
abbrev amr:=Int
def d286:Td 0 amr:= .c [] [4] (.r 0 0 (ec 4 aL en) sn (λz=>z.1.1) (λx=>((x,()),(()))))
def atx:=(aW (aW ln))
def ai6:An:= .no
def ayG:bx wR (anr) 0 300 286 (ai6):=aD (l:=[]) func286 (aq (by kernel_rfl)) (by kernel_rfl) aC
def Wi(a0:Int)(a1:Int):amr:=
 if a0<a1 then a1 else a0
def aDK(a0:Int)(a1:Int):aO wR (anr) 300 (ai6) 286 (atx.c (a0,a1,())) [] 0 d286.rd=Q (Wi a0 a1):=by
 refine Eq.trans (b:=(
  Q (if a0<a1 then a1 else a0):af amr)) (by kernel_rfl) ?_
 simp only[Wi,bV,cv]
def akB:=eL wR 286 V atx d286 (λg=>Q (Wi g.1 g.2.1))
def MP{F:aI}(h:ak wR F):ak wR (akB F):=bA (sc:=dM) aX (bq afa ayG (λ_=>by kernel_rfl) (λ_=>by kernel_rfl) λg=>aDK g.1 g.2.1) ⟨_,func286,by kernel_rfl,by kernel_rfl⟩ (λ_=>by kernel_rfl) (λ_=>by kernel_rfl) h
def apu:aI:=(RR cw)
def Zv:ak wR apu:=(uN aQ)
abbrev auX:=Int
def d287:Td 0 auX:= .c [] [4] (.r 0 0 (ec 4 aL en) sn (λz=>z.1.1) (λx=>((x,()),(()))))
def aub:=(aW (aW ln))
def agy:An:= .no
def ax4:bx wR (apu) 0 300 287 (agy):=aD (l:=[]) func287 (aq (by kernel_rfl)) (by kernel_rfl) aC
def RH(a0:Int)(a1:Int):auX:=
 Gk (Z (a0<a1))
def aAk(a0:Int)(a1:Int):aO wR (apu) 300 (agy) 287 (aub.c (a0,a1,())) [] 0 d287.rd=Q (RH a0 a1):=by kernel_rfl
def akt:=eL wR 287 V aub d287 (λg=>Q (RH g.1 g.2.1))
def Oo{F:aI}(h:ak wR F):ak wR (akt F):=bA (sc:=dM) aX (bq Zv ax4 (λ_=>by kernel_rfl) (λ_=>by kernel_rfl) λg=>aAk g.1 g.2.1) ⟨_,func287,by kernel_rfl,by kernel_rfl⟩ (λ_=>by kernel_rfl) (λ_=>by kernel_rfl) h
def alz:aI:=(RR cw)
def aee:ak wR alz:=(uN aQ)
abbrev aqu:=Int
def d288:Td 0 aqu:= .c [] [4] (.r 0 0 (ec 4 aL en) sn (λz=>z.1.1) (λx=>((x,()),(()))))
def ayw:=(aW (aW ln))
def agX:An:= .no
def avY:bx wR (alz) 0 300 288 (agX):=aD (l:=[]) func288 (aq (by kernel_rfl)) (by kernel_rfl) aC
def afH(a0:Int)(a1:Int):aqu:=
 Gk (Z (a0=a1))
def aDD(a0:Int)(a1:Int):aO wR (alz) 300 (agX) 288 (ayw.c (a0,a1,())) [] 0 d288.rd=Q (afH a0 a1):=by kernel_rfl
def akd:=eL wR 288 V ayw d288 (λg=>Q (afH g.1 g.2.1))
def NP{F:aI}(h:ak wR F):ak wR (akd F):=bA (sc:=dM) aX (bq aee avY (λ_=>by kernel_rfl) (λ_=>by kernel_rfl) λg=>aDD g.1 g.2.1) ⟨_,func288,by kernel_rfl,by kernel_rfl⟩ (λ_=>by kernel_rfl) (λ_=>by kernel_rfl) h
def aoV:aI:=(akd (akt (akB (ajJ (anb (abf (anl (al6 (anp cw)))))))))
def Y3:ak wR aoV:=(NP (Oo (MP (Om (OD (Ft (N7 (Ou (NL aQ)))))))))
abbrev au9:=aa Nat
def d237:Td 0 au9:= .c [] [0] (.r 0 1 (ec 0 (qo 0) en) (sr 0 175 sn) (λz=>z.2.1) (λx=>(((),()),(x,()))))
def avZ:=ln
def aha:An:= .no
def atg:bx wR (aoV) 0 300 237 (aha):=aD (l:=[]) func237 (aq (by kernel_rfl)) (by kernel_rfl) aC
def Fy:au9:=
 [280,281,282,283,284,285,286,287,288]
def aC2:aO wR (aoV) 300 (aha) 237 (avZ.c ()) [] 0 d237.rd=Q (Fy):=by kernel_rfl
def ay2:aI->aI:=eZ wR 237 avZ d237 (λ_=>Q (Fy))
def abz{F:aI}(h:ak wR F):ak wR (ay2 F):=gh (bq Y3 atg (λ_=>by kernel_rfl) (λ_=>by kernel_rfl) λ_=>aC2) ⟨_,func237,by kernel_rfl,by kernel_rfl⟩ (λ_=>by kernel_rfl) h
abbrev au5:=Int×Nat
def d238:Td 1 au5:= .c [] [3] (.r 1 1 (ec 3 aL en) (sb 0 175 (lg 175) sn) (λz=>(z.1.1,z.2.1)) (λx=>((x.1,()),(x.2,()))))
def sk:=(lc (qa (aW (aW (aW ln)))) (lc (qp 0 0) ln))
def sA:=(sb 0 175 (lg 175) sn)
def uE:aI:=anp (al6 (anl (abf (anb (ajJ (akB (akt (akd cw))))))))
def afX:ak wR uE:=NL (Ou (N7 (Ft (OD (Om (MP (Oo (NP aQ))))))))
def awY:bx wR uE 1 300 238 .no:=aD (l:=[]) func238 (aq (by kernel_rfl)) (by kernel_rfl) aC
def iQ(k:Nat)(x y:Int):af Int:=if k=280 then Q (QI x y)else if k=281 then Q (afN x y)else if k=282 then ad9 x y else if k=283 then XJ x y else if k=284 then aet x y else if k=285 then Q (SB x y)else if k=286 then Q (Wi x y)else if k=287 then Q (RH x y)else if k=288 then Q (afH x y)else J
def UG(a0_0 a0_1 a0_2:Int)(b0:Nat):af au5:=(iQ b0 a0_0 a0_1).map λr=>(r,b0)
def WC(g:(Int×Int×Int×Unit)×Unit×Unit):aO wR uE 300 .no 238 (sk.c g) (sA.d ((280:Nat),())) 1 d238.rd=Q (QI g.1.1 g.1.2.1,280):=by kernel_rfl
def SC(g:(Int×Int×Int×Unit)×Unit×Unit):aO wR uE 300 .no 238 (sk.c g) (sA.d ((281:Nat),())) 1 d238.rd=Q (afN g.1.1 g.1.2.1,281):=by kernel_rfl
def X8(g:(Int×Int×Int×Unit)×Unit×Unit):aO wR uE 300 .no 238 (sk.c g) (sA.d ((282:Nat),())) 1 d238.rd=(match ad9 g.1.1 g.1.2.1 with|J=>J|Q r=>Q (r,282)):=by kernel_rfl
def Yz(g:(Int×Int×Int×Unit)×Unit×Unit):aO wR uE 300 .no 238 (sk.c g) (sA.d ((283:Nat),())) 1 d238.rd=(match XJ g.1.1 g.1.2.1 with|J=>J|Q r=>Q (r,283)):=by kernel_rfl
def Xr(g:(Int×Int×Int×Unit)×Unit×Unit):aO wR uE 300 .no 238 (sk.c g) (sA.d ((284:Nat),())) 1 d238.rd=(match aet g.1.1 g.1.2.1 with|J=>J|Q r=>Q (r,284)):=by kernel_rfl
def Wf(g:(Int×Int×Int×Unit)×Unit×Unit):aO wR uE 300 .no 238 (sk.c g) (sA.d ((285:Nat),())) 1 d238.rd=Q (SB g.1.1 g.1.2.1,285):=by kernel_rfl
def Yy(g:(Int×Int×Int×Unit)×Unit×Unit):aO wR uE 300 .no 238 (sk.c g) (sA.d ((286:Nat),())) 1 d238.rd=Q (Wi g.1.1 g.1.2.1,286):=by kernel_rfl
def T8(g:(Int×Int×Int×Unit)×Unit×Unit):aO wR uE 300 .no 238 (sk.c g) (sA.d ((287:Nat),())) 1 d238.rd=Q (RH g.1.1 g.1.2.1,287):=by kernel_rfl
def VF(g:(Int×Int×Int×Unit)×Unit×Unit):aO wR uE 300 .no 238 (sk.c g) (sA.d ((288:Nat),())) 1 d238.rd=Q (afH g.1.1 g.1.2.1,288):=by kernel_rfl
def aw0:HY wR 238 1 sk sA d238 (λg=>UG g.1.1.1 g.1.1.2.1 g.1.1.2.2.1 g.2.1):=by
 intro g b hb;obtain⟨g1,k,⟨⟩⟩:=g;have hgo:aO wR uE 300 .no 238 (sk.c g1) (sA.d (k,())) 1 d238.rd=Q b->Gu wR 238 (sk.c g1) (sA.d (k,())) 1 (gE wR 238 1 (d238.pat b)):=λh=>
  (gL (p:=b) (out:=gE wR 238 1 ∘ d238.pat) afX awY d238.ok (λ_=>by kernel_rfl) (gm (by kernel_rfl)) (fL (by kernel_rfl)) h).2
 have hm:(iQ k g1.1.1 g1.1.2.1).map (λr=>(r,k))=Q b:=hb;refine hgo ?_;have hk:∀{o:af Int} {n:Nat},o.map (λr=>(r,n))=some b->(match o with|none=>none|some r=>some (r,n))=some b:=λ{o n} h=>by cases o<;>exact h
 unfold iQ at hm;split at hm
 ·rename_i e;subst e;exact(WC g1).trans hm
 split at hm
 ·rename_i e;subst e;exact(SC g1).trans hm
 split at hm
 ·rename_i e;subst e;exact(X8 g1).trans (hk hm)
 split at hm
 ·rename_i e;subst e;exact(Yz g1).trans (hk hm)
 split at hm
 ·rename_i e;subst e;exact(Xr g1).trans (hk hm)
 split at hm
 ·rename_i e;subst e;exact(Wf g1).trans hm
 split at hm
 ·rename_i e;subst e;exact(Yy g1).trans hm
 split at hm
 ·rename_i e;subst e;exact(T8 g1).trans hm
 split at hm
 ·rename_i e;subst e;exact(VF g1).trans hm
 ·cases hm
def aaE:aI->aI:=eY wR 238 1 sk sA d238 (λg=>UG g.1.1.1 g.1.1.2.1 g.1.1.t.1 g.2.1)
def rF{F:aI}(h:ak wR F):ak wR (aaE F):=dG aw0 ⟨_,func238,by kernel_rfl,by kernel_rfl⟩ (λ_=>by kernel_rfl) h
def F16:aI:=cw
def aph:ak wR F16:=aQ
structure rI where
 t2:List Slot
 (t3 t4 t6 t7 t9:Int)
 t10:List Int
 (t11 t12:Int)
 t17:List aT
 (t18 t19:Int)
 b0:bB
 b2:aT
def Hz:Td 0 rI:= .c [] [1,2,3,4,6,7,8,9,10,11,12,17,18,19] (.r 0 4 (ec 1 (qp 0 0) (ec 2 (qo 1) (ec 3 aL (ec 4 aL (ec 6 aL (ec 7 aL (ec 8 (qp 2 0) (ec 9 aL (ec 10 (qo 3) (ec 11 aL (ec 12 aL (ec 17 (ql 108) (ec 18 aL (ec 19 aL en)))))))))))))) (sb 0 26 (lg 26) (sr 1 38 (sb 2 108 (lg 108) (sr 3 65 sn)))) (λz=>⟨z.t.1,z.1.t.1,z.1.t.2.1,z.1.q.1,z.1.q.2.1,z.1.q.t.2.1,z.q.1,z.1.q.q.2.1,z.1.q.q.t.1,z.1.q.q.t.2.1,z.1.q.q.q.1,z.1.q.q.q.2.1,z.2.1,z.t.2.1⟩) (λx=>(((),(),x.t3,x.t4,x.t6,x.t7,(),x.t9,(),x.t11,x.t12,x.t17,x.t18,x.t19,()),(x.b0,x.t2,x.b2,x.t10,()))))
def GU(p:rI):af (af rI):=
 if 0<=p.t9 then bif Z (qF IntKind.i64 1 p.t9<i64.wrap (i64.wrap (p.b2.au-p.b2.aG)+1))then Q (Q (rI.mk p.t2 p.t3 p.t4 p.t6 p.t7 (i64.wrap (p.t9+1)) p.t10 p.t11 p.t12 p.t17 p.t18 p.t19 p.b0 p.b2))else Q (J)else J
def axG(p:rI):bK wR (F16) f16.ntmps 300 (aN f16 2) .no (af rI) (Hz.pat p) (fR Hz.rd)=GU p:=by kernel_rfl
def Dp:=b6 (GU)
structure qE where
 t2:List Slot
 (t3 t4 t6:Int)
 t10:List Int
 (t11 t12:Int)
 t17:List aT
 (t18 t19:Int)
 b0:bB
def JW:Td 0 qE:= .c [] [1,2,3,4,6,10,11,12,17,18,19] (.r 0 3 (ec 1 (qp 0 0) (ec 2 (qo 1) (ec 3 aL (ec 4 aL (ec 6 aL (ec 10 (qo 2) (ec 11 aL (ec 12 aL (ec 17 (ql 108) (ec 18 aL (ec 19 aL en))))))))))) (sb 0 26 (lg 26) (sr 1 38 (sr 2 65 sn))) (λz=>⟨z.t.1,z.1.t.1,z.1.t.2.1,z.1.q.1,z.t.2.1,z.1.q.t.1,z.1.q.t.2.1,z.1.q.q.1,z.1.q.q.2.1,z.1.q.q.t.1,z.2.1⟩) (λx=>(((),(),x.t3,x.t4,x.t6,(),x.t11,x.t12,x.t17,x.t18,x.t19,()),(x.b0,x.t2,x.t10,()))))
def DH(p:qE):af (af qE):=
 bif Z (p.t19<p.t18)then if 0<=p.t19/\p.t19<yz p.t17 then bif bif Z (p.t17[zB p.t19]!.bU=p.t6)then V else O then Q (Q (qE.mk p.t2 p.t3 p.t4 p.t6 p.t10 p.t11 p.t12 p.t17 p.t18 (i64.wrap (p.t19+1)) p.b0))else match Dp (rI.mk p.t2 p.t3 p.t4 p.t6 p.t19 0 p.t10 p.t11 p.t12 p.t17 p.t18 p.t19 p.b0 p.t17[zB p.t19]!)with|J=>J|Q r3=>if 0<=r3.t9 then bif Z (qF IntKind.i64 1 r3.t9<i64.wrap (i64.wrap (r3.b2.au-r3.b2.aG)+1))then J else if(r3.t2++[Slot.mk r3.t7 r3.t3 r3.t9]).length<=1073741824 then Q (Q (qE.mk (r3.t2++[Slot.mk r3.t7 r3.t3 r3.t9]) (i64.wrap (r3.t3+r3.t9)) r3.t4 r3.t6 r3.t10 r3.t11 r3.t12 r3.t17 r3.t18 (i64.wrap (r3.t19+1)) r3.b0))else J else J else J else Q (J)
def Sd:An:=(noTwo (noTwo (.two (noTwo (noTwo (noTwo (.two (Hz.lp Dp .no) .no)))) .no)))
def arb(p:qE):bK wR (F16) f16.ntmps 300 (aN f16 1) Sd (af qE) (JW.pat p) (fR JW.rd)=DH p:=by kernel_rfl
def GL:=b6 (DH)
structure tX where
 t2:List Slot
 (t3 t4:Int)
 t10:List Int
 (t11 t12:Int)
 b0:bB
def IT:Td 0 tX:= .c [] [1,2,3,4,10,11,12] (.t (cq.s 2 [] 38) (.c [] [1,2,3,4,10,11,12] (.r 0 3 (ec 1 (qp 0 0) (ec 2 (qo 1) (ec 3 aL (ec 4 aL (ec 10 (qo 2) (ec 11 aL (ec 12 aL en))))))) (sb 0 26 (lg 26) (sr 1 38 (sr 2 65 sn))) (λz=>⟨z.t.1,z.1.t.1,z.1.t.2.1,z.t.2.1,z.1.q.2.1,z.1.q.t.1,z.2.1⟩) (λx=>(((),(),x.t3,x.t4,(),x.t11,x.t12,()),(x.b0,x.t2,x.t10,()))))))
def vg(p:tX):af (af tX):=
 bif Z (p.t12<p.t11)then if 0<=p.t12/\p.t12<yz p.t10 then if 65=65/\zB p.t12<yz p.t10 then match GL (qE.mk p.t2 p.t3 p.t4 p.t10[zB p.t12]! p.t10 p.t11 p.t12 p.b0.ah (yz p.b0.ah) 0 p.b0)with|J=>J|Q r1=>bif Z (r1.t19<r1.t18)then if 0<=r1.t19/\r1.t19<yz r1.t17 then bif bif Z (r1.t17[zB r1.t19]!.bU=r1.t6)then V else O then J else match Dp (rI.mk r1.t2 r1.t3 r1.t4 r1.t6 r1.t19 0 r1.t10 r1.t11 r1.t12 r1.t17 r1.t18 r1.t19 r1.b0 r1.t17[zB r1.t19]!)with|J=>J|Q r2=>if 0<=r2.t9 then bif Z (qF IntKind.i64 1 r2.t9<i64.wrap (i64.wrap (r2.b2.au-r2.b2.aG)+1))then J else if(r2.t2++[Slot.mk r2.t7 r2.t3 r2.t9]).length<=1073741824 then J else J else J else J else bif Z (r1.t6=1)then Q (Q (tX.mk r1.t2 r1.t3 r1.t3 r1.t10 r1.t11 (i64.wrap (r1.t12+1)) r1.b0))else Q (Q (tX.mk r1.t2 r1.t3 r1.t4 r1.t10 r1.t11 (i64.wrap (r1.t12+1)) r1.b0))else J else J else Q (J)
def Ut:An:=(noTwo (noTwo (.two (noTwo (.two (noTwo (JW.lp GL Sd)) .no)) .no)))
def aqT(p:tX):bK wR (F16) f16.ntmps 300 (aN f16 0) Ut (af tX) (IT.pat p) (fR IT.rd)=vg p:=by kernel_rfl
def Jl:=b6 (vg)
abbrev E16:=(aa Slot)×Int×Int
def d16:Td 0 E16:= .c [] [2,3,4] (.r 0 1 (ec 2 (qo 0) (ec 3 aL (ec 4 aL en))) (sr 0 38 sn) (λz=>(z.2.1,z.1.2.1,z.1.t.1)) (λx=>(((),x.2.1,x.t,()),(x.1,()))))
def A16:=(lc (qg 26) ln)
def avL:An:=(noTwo (.two (noTwo (IT.lp Jl Ut)) .no))
def aBu:bx wR (F16) 0 300 16 (avL):=aD (l:=[(aN f16 0,(IT.lp Jl Ut)),(aN f16 1,(JW.lp GL Sd)),(aN f16 2,(Hz.lp Dp .no))]) func16 (aq (by kernel_rfl)) (by kernel_rfl) (aA ⟨IT.ok _,bt (aqT)⟩ (aA ⟨JW.ok _,bt (arb)⟩ (aA ⟨Hz.ok _,bt (axG)⟩ aC)))
def m16(a0:bB):af E16:=
 match Jl (tX.mk [] (0) 0 [1,3] (2:Int) 0 a0)with|J=>J|Q r4=>bif Z (r4.t12<r4.t11)then if 0<=r4.t12/\r4.t12<yz r4.t10 then if 65=65/\zB r4.t12<yz r4.t10 then match GL (qE.mk r4.t2 r4.t3 r4.t4 r4.t10[zB r4.t12]! r4.t10 r4.t11 r4.t12 r4.b0.ah (yz r4.b0.ah) 0 r4.b0)with|J=>J|Q r5=>bif Z (r5.t19<r5.t18)then if 0<=r5.t19/\r5.t19<yz r5.t17 then bif bif Z (r5.t17[zB r5.t19]!.bU=r5.t6)then V else O then J else match Dp (rI.mk r5.t2 r5.t3 r5.t4 r5.t6 r5.t19 0 r5.t10 r5.t11 r5.t12 r5.t17 r5.t18 r5.t19 r5.b0 r5.t17[zB r5.t19]!)with|J=>J|Q r6=>if 0<=r6.t9 then bif Z (qF IntKind.i64 1 r6.t9<i64.wrap (i64.wrap (r6.b2.au-r6.b2.aG)+1))then J else if(r6.t2++[Slot.mk r6.t7 r6.t3 r6.t9]).length<=1073741824 then J else J else J else J else bif Z (r5.t6=1)then J else J else J else J else Q (r4.t2,r4.t3,r4.t4)
def c16(a0:bB):aO wR (F16) 300 (avL) 16 (A16.c (a0,())) [] 0 d16.rd=m16 a0:=by kernel_rfl
def h16:HL wR 16 A16 d16 (λg=>m16 g.1):=(bq aph aBu (λ_=>by kernel_rfl) (λ_=>by kernel_rfl) λg=>c16 g.1)
def e16:=eL wR 16 V A16 d16 (λg=>m16 g.1)
def V0{F:aI}(h:ak wR F):ak wR (e16 F):=bA (sc:=dM) aX h16 ⟨_,func16,by kernel_rfl,by kernel_rfl⟩ (λ_=>by kernel_rfl) (λ_=>by kernel_rfl) h
def F19:aI:=(e16 cw)
def amU:ak wR F19:=(V0 aQ)
structure rG where
 t1:List Bool
 t9:List Int
 t10:Bool
 t13:Int
 t22:List Slot
 (t23 t24 t29 t30:Int)
 b0:bB
 b2:Slot
def Gz:Td 0 rG:= .c [] [1,2,9,10,12,13,22,23,24,29,30] (.r 0 4 (ec 1 (ql 4) (ec 2 (qp 0 0) (ec 9 (qo 1) (ec 10 qb (ec 12 (qp 2 0) (ec 13 aL (ec 22 (qo 3) (ec 23 aL (ec 24 aL (ec 29 aL (ec 30 aL en))))))))))) (sb 0 26 (lg 26) (sr 1 3 (sb 2 38 (lg 38) (sr 3 38 sn)))) (λz=>⟨z.1.1,z.t.1,z.1.t.2.1,z.1.q.2.1,z.q.1,z.1.q.t.2.1,z.1.q.q.1,z.1.q.q.2.1,z.1.q.q.t.1,z.2.1,z.t.2.1⟩) (λx=>((x.t1,(),(),x.t10,(),x.t13,(),x.t23,x.t24,x.t29,x.t30,()),(x.b0,x.t9,x.b2,x.t22,()))))
def Ie(p:rG):af (af rG):=
 bif Z (p.t30<p.t29)then if 0<=i64.wrap (p.b2.cK+p.t30)/\i64.wrap (p.b2.cK+p.t30)<yz p.t1 then bif p.t1[(i64.wrap (p.b2.cK+p.t30)).toNat]! then Q (Q (rG.mk p.t1 p.t9 p.t10 (i64.wrap (i64.wrap (2*p.t13)+1)) p.t22 p.t23 p.t24 p.t29 (i64.wrap (p.t30+1)) p.b0 p.b2))else Q (Q (rG.mk p.t1 p.t9 p.t10 (i64.wrap (2*p.t13)) p.t22 p.t23 p.t24 p.t29 (i64.wrap (p.t30+1)) p.b0 p.b2))else J else Q (J)
def arS(p:rG):bK wR (F19) f19.ntmps 300 (aN f19 1) .no (af rG) (Gz.pat p) (fR Gz.rd)=Ie p:=by kernel_rfl
def HE:=b6 (Ie)
structure tD where
 t1:List Bool
 t9:List Int
 t10:Bool
 t22:List Slot
 (t23 t24:Int)
 b0:bB
def HQ:Td 0 tD:= .c [] [1,2,9,10,22,23,24] (.t (cq.s 9 [] 3) (.c [] [1,2,9,10,22,23,24] (.r 0 3 (ec 1 (ql 4) (ec 2 (qp 0 0) (ec 9 (qo 1) (ec 10 qb (ec 22 (qo 2) (ec 23 aL (ec 24 aL en))))))) (sb 0 26 (lg 26) (sr 1 3 (sr 2 38 sn))) (λz=>⟨z.1.1,z.t.1,z.1.t.2.1,z.t.2.1,z.1.q.2.1,z.1.q.t.1,z.2.1⟩) (λx=>((x.t1,(),(),x.t10,(),x.t23,x.t24,()),(x.b0,x.t9,x.t22,()))))))
def H8(p:tD):af (af tD):=
 bif Z (p.t24<p.t23)then if 0<=p.t24/\p.t24<yz p.t22 then if 38=38/\zB p.t24<yz p.t22 then match HE (rG.mk p.t1 p.t9 p.t10 0 p.t22 p.t23 p.t24 p.t22[zB p.t24]!.cR 0 p.b0 p.t22[zB p.t24]!)with|J=>J|Q r1=>bif Z (r1.t30<r1.t29)then if 0<=i64.wrap (r1.b2.cK+r1.t30)/\i64.wrap (r1.b2.cK+r1.t30)<yz r1.t1 then bif r1.t1[(i64.wrap (r1.b2.cK+r1.t30)).toNat]! then J else J else J else if 0<=r1.b2.bz/\r1.b2.bz<yz r1.b0.ah then if(r1.t9++[i64.wrap (r1.b0.ah[zB r1.b2.bz]!.aG+r1.t13)]).length<=1073741824 then bif Z (r1.b0.ah[zB r1.b2.bz]!.au<i64.wrap (r1.b0.ah[zB r1.b2.bz]!.aG+r1.t13))then Q (Q (tD.mk r1.t1 (r1.t9++[i64.wrap (r1.b0.ah[zB r1.b2.bz]!.aG+r1.t13)]) V r1.t22 r1.t23 (i64.wrap (r1.t24+1)) r1.b0))else Q (Q (tD.mk r1.t1 (r1.t9++[i64.wrap (r1.b0.ah[zB r1.b2.bz]!.aG+r1.t13)]) r1.t10 r1.t22 r1.t23 (i64.wrap (r1.t24+1)) r1.b0))else J else J else J else J else Q (J)
def XQ:An:=(noTwo (noTwo (.two (noTwo (noTwo (.two (noTwo (Gz.lp HE .no)) .no))) .no)))
def axF(p:tD):bK wR (F19) f19.ntmps 300 (aN f19 0) XQ (af tD) (HQ.pat p) (fR HQ.rd)=H8 p:=by kernel_rfl
def OV:=b6 (H8)
abbrev E19:=(aa Int)×Bool
def d19:Td 0 E19:= .c [] [4,5] (.r 0 1 (ec 4 (qo 0) (ec 5 qb en)) (sr 0 3 sn) (λz=>(z.2.1,z.1.2.1)) (λx=>(((),x.2,()),(x.1,()))))
def A19:=(lc (qg 26) (lc (ql 4) ln))
def asf:An:=(noTwo (noTwo (noTwo (noTwo (.two (noTwo (HQ.lp OV XQ)) .no)))))
def aBZ:bx wR (F19) 0 300 19 (asf):=aD (l:=[(aN f19 0,(HQ.lp OV XQ)),(aN f19 1,(Gz.lp HE .no))]) func19 (aq (by kernel_rfl)) (by kernel_rfl) (aA ⟨HQ.ok _,bt (axF)⟩ (aA ⟨Gz.ok _,bt (arS)⟩ aC))
def m19(a0:bB)(a1:aa Bool):af E19:=
 match m16 a0 with|J=>J|Q r2=>match OV (tD.mk a1 [] O r2.fst (yz r2.fst) 0 a0)with|J=>J|Q r3=>bif Z (r3.t24<r3.t23)then if 0<=r3.t24/\r3.t24<yz r3.t22 then if 38=38/\zB r3.t24<yz r3.t22 then match HE (rG.mk r3.t1 r3.t9 r3.t10 0 r3.t22 r3.t23 r3.t24 r3.t22[zB r3.t24]!.cR 0 r3.b0 r3.t22[zB r3.t24]!)with|J=>J|Q r4=>bif Z (r4.t30<r4.t29)then if 0<=i64.wrap (r4.b2.cK+r4.t30)/\i64.wrap (r4.b2.cK+r4.t30)<yz r4.t1 then bif r4.t1[(i64.wrap (r4.b2.cK+r4.t30)).toNat]! then J else J else J else if 0<=r4.b2.bz/\r4.b2.bz<yz r4.b0.ah then if(r4.t9++[i64.wrap (r4.b0.ah[zB r4.b2.bz]!.aG+r4.t13)]).length<=1073741824 then bif Z (r4.b0.ah[zB r4.b2.bz]!.au<i64.wrap (r4.b0.ah[zB r4.b2.bz]!.aG+r4.t13))then J else J else J else J else J else J else Q (r3.t9,r3.t10)
def c19(a0:bB)(a1:aa Bool):aO wR (F19) 300 (asf) 19 (A19.c (a0,a1,())) [] 0 d19.rd=m19 a0 a1:=by kernel_rfl
def e19:=eL wR 19 V A19 d19 (λg=>m19 g.1 g.2.1)
def alJ{F:aI}(h:ak wR F):ak wR (e19 F):=bA (sc:=dM) aX (bq amU aBZ (λ_=>by kernel_rfl) (λ_=>by kernel_rfl) λg=>c19 g.1 g.2.1) ⟨_,func19,by kernel_rfl,by kernel_rfl⟩ (λ_=>by kernel_rfl) (λ_=>by kernel_rfl) h
structure aFh where
 (t0 t1:List Bool)
 (t12 t13:Int)
def F32:aI:=cw
def aj5:ak wR F32:=aQ
structure Cp where
 (t0 t1:List Int)
 (t12 t13:Int)
def Kj:Td 0 Cp:= .c [] [0,1,12,13] (.r 0 0 (ec 0 (ql 3) (ec 1 (ql 3) (ec 12 aL (ec 13 aL en)))) sn (λz=>⟨z.1.1,z.1.2.1,z.1.t.1,z.1.t.2.1⟩) (λx=>((x.t0,x.t1,x.t12,x.t13,()),(()))))
def JQ(p:Cp):af (af Cp):=
 bif Z (p.t13<p.t12)then if 0<=p.t13/\p.t13<yz p.t0 then if 0<=p.t13/\p.t13<yz p.t1 then bif bif Z (p.t0[zB p.t13]! =p.t1[zB p.t13]!)then V else O then Q (J)else Q (Q (Cp.mk p.t0 p.t1 p.t12 (i64.wrap (p.t13+1))))else J else J else Q (J)
def atE(p:Cp):bK wR (F32) f32.ntmps 300 (aN f32 0) .no (af Cp) (Kj.pat p) (fR Kj.rd)=JQ p:=by kernel_rfl
def OI:=b6 (JQ)
abbrev E32:=Bool
def d32:Td 0 E32:= .c [] [4] (.r 0 0 (ec 4 qb en) sn (λz=>z.1.1) (λx=>((x,()),(()))))
def A32:=(lc (ql 3) (lc (ql 3) ln))
def awS:An:=(noTwo (noTwo (.two (noTwo (Kj.lp OI .no)) .no)))
def aDv:bx wR (F32) 0 300 32 (awS):=aD (l:=[(aN f32 0,(Kj.lp OI .no))]) func32 (aq (by kernel_rfl)) (by kernel_rfl) (aA ⟨Kj.ok _,bt (atE)⟩ aC)
def m32(a0:aa Int)(a1:aa Int):af E32:=
 bif bif Z ((yz a0:Int)=(yz a1:Int))then V else O then Q V else match OI (Cp.mk a0 a1 (yz a0) 0)with|J=>J|Q r1=>bif Z (r1.t13<r1.t12)then if 0<=r1.t13/\r1.t13<yz r1.t0 then if 0<=r1.t13/\r1.t13<yz r1.t1 then bif bif Z (r1.t0[zB r1.t13]! =r1.t1[zB r1.t13]!)then V else O then Q V else J else J else J else Q O
def c32(a0:aa Int)(a1:aa Int):aO wR (F32) 300 (awS) 32 (A32.c (a0,a1,())) [] 0 d32.rd=m32 a0 a1:=by kernel_rfl
def e32:=eL wR 32 V A32 d32 (λg=>m32 g.1 g.2.1)
def aou{F:aI}(h:ak wR F):ak wR (e32 F):=bA (sc:=dM) aX (bq aj5 aDv (λ_=>by kernel_rfl) (λ_=>by kernel_rfl) λg=>c32 g.1 g.2.1) ⟨_,func32,by kernel_rfl,by kernel_rfl⟩ (λ_=>by kernel_rfl) (λ_=>by kernel_rfl) h
def vn{F:aI}{f:Nat}(h:aZ F f):aZ (e32 F) f:=cg h (λ_=>by kernel_rfl)
structure aFA where
 (t0 t1:List Slot)
 (t12 t13:Int)
structure aEJ where
 t1:List Int
 t8:List Bool
 (t11 t12:Int)
 t19:List Slot
 (t20 t21:Int)
 b0:bB
structure aDS where
 t1:List Int
 t8:List Bool
 t19:List Slot
 (t20 t21:Int)
 b0:bB
structure aDQ where
 t0:List aT
 t1:Int
 t5:List aT
 t6:Int
structure aFv where
 t6:List aT
 (t8 t9:Int)
structure aEC where
 t6:List aT
 t7:Int
structure aFt where
 t2:List Int
 t10:List aT
 (t11 t12:Int)
def acV:aI:=cw
def YJ:ak wR acV:=aQ
abbrev akk:=bO×Int
def d114:Td 0 akk:= .c [] [4,5] (.r 0 1 (ec 4 (qp 0 0) (ec 5 aL en)) (sb 0 42 (aW (lc qn (aW ln))) sn) (λz=>((bO.mk z.2.1.1 [] z.2.1.t.1),z.1.2.1)) (λx=>(((),x.2,()),((x.1.ah,(),x.1.bu,()),()))))
def ax0:=(aW (lc qb ln))
def af1:An:=(noTwo (.two (.two (.rb [] 12) .no) .no))
def ary:∀f∈([]:aa Nat),aZ (acV) f:=aC
def av7:bx wR (acV) 0 300 114 (af1):=aD (l:=[(.skip,(.rb [] 12))]) func114 (aq (by kernel_rfl)) (by kernel_rfl) (aA ary aC)
def H7(a0:Int)(a1:Bool):akk:=
 let r1:Bool:=bif Z (a0<0)then O else Z (40<a0);bif r1 then(bO.mk (0) [] (0),3)else bif a1 then(bO.mk a0 [] (1),0)else(bO.mk a0 [] (0),0)
def aBl(a0:Int)(a1:Bool):aO wR (acV) 300 (af1) 114 (ax0.c (a0,a1,())) [] 0 d114.rd=Q (H7 a0 a1):=by
 refine Eq.trans (b:=(
  match bif Z (a0<0)then Q (O)else Q (Z (40<a0))with|J=>J|Q r1=>bif r1 then Q ((bO.mk (0) [] (0),3))else bif a1 then Q ((bO.mk a0 [] (1),0))else Q ((bO.mk a0 [] (0),0)):af akk)) (by kernel_rfl) ?_
 simp only[H7,bV,cv]
def auv:=eL wR 114 V ax0 d114 (λg=>Q (H7 g.1 g.2.1))
def YQ{F:aI}(h:ak wR F):ak wR (auv F):=bA (sc:=dM) aX (bq YJ av7 (λ_=>by kernel_rfl) (λ_=>by kernel_rfl) λg=>aBl g.1 g.2.1) ⟨_,func114,by kernel_rfl,by kernel_rfl⟩ (λ_=>by kernel_rfl) (λ_=>by kernel_rfl) h
def ajT:aI:=cw
def ady:ak wR ajT:=aQ
abbrev arH:=(aa Int)×(aa aF)×(aa (Int×Int))×(aa ((Int×Int×Int)×Int))×Bool
def d156:Td 0 arH:= .c [] [0] (.t (cq.c 0 0 [] 3) (.t (cq.c 0 1 [] 113) (.c [] [0] (.r 0 5 (ec 0 (qp 0 0) en) (sb 0 296 (lc (qo 1) (lc (qo 2) (lc (qo 3) (lc (qo 4) (lc qb ln))))) (sr 1 3 (sr 2 113 (sm 3 .k1 .i (sm 4 .k3 .i sn))))) (λz=>(z.t.1,z.t.2.1,z.q.1,z.q.2.1,z.2.1.q.1)) (λx=>(((),()),(((),(),(),(),x.q,()),x.1,x.2.1,x.t.1,x.t.2.1,())))))))
def asX:=ln
def agI:An:= .no
def auH:bx wR (ajT) 0 300 156 (agI):=aD (l:=[]) func156 (aq (by kernel_rfl)) (by kernel_rfl) aC
def gx:arH:=
 ([],[],[],[],V)
def aDt:aO wR (ajT) 300 (agI) 156 (asX.c ()) [] 0 d156.rd=Q (gx):=by kernel_rfl
def P8:aI->aI:=eZ wR 156 asX d156 (λ_=>Q (gx))
def fZ{F:aI}(h:ak wR F):ak wR (P8 F):=gh (bq ady auH (λ_=>by kernel_rfl) (λ_=>by kernel_rfl) λ_=>aDt) ⟨_,func156,by kernel_rfl,by kernel_rfl⟩ (λ_=>by kernel_rfl) h
def alc:aI:=(avG (ajf (ane cw)))
def afT:ak wR alc:=(WS aqS (Tm (M4 aQ)))
abbrev awg:=(aa Int)×(aa Int)×(aa Int)×(aa aF)×(aa (Int×Int))×(aa ((Int×Int×Int)×Int))×Bool
def d224:Td 5 awg:= .c [] [4,5] (.r 5 9 (ec 4 (qp 5 0) (ec 5 (qp 6 0) en)) (sb 0 296 (lc (qo 1) (lc (qo 2) (lc (qo 3) (lc (qo 4) (lc qb ln))))) (sr 1 3 (sr 2 113 (sm 3 .k1 .i (sm 4 .k3 .i (sb 5 46 (lc (qo 7) ln) (sb 6 46 (lc (qo 8) ln) (sr 7 3 (sr 8 3 sn))))))))) (λz=>(z.q.q.1,z.q.q.2.1,z.t.1,z.t.2.1,z.q.1,z.q.2.1,z.2.1.q.1)) (λx=>(((),(),()),(((),(),(),(),x.q.t,()),x.t.1,x.t.2.1,x.q.1,x.q.2.1,((),()),((),()),x.1,x.2.1,()))))
def aqs:=(lc (qp 0 0) (aW ln))
def atT:=(sb 0 296 (lc (qo 1) (lc (qo 2) (lc (qo 3) (lc (qo 4) (lc qb ln))))) (sr 1 3 (sr 2 113 (sm 3 .k1 .i (sm 4 .k3 .i sn)))))
def agU:An:= .no
def av3:bx wR (alc) 5 300 224 (agU):=aD (l:=[]) func224 (aq (by kernel_rfl)) (by kernel_rfl) aC
def QD(a1:Int)(aS:aa Int)(cz:aa aF)(eR:aa (Int×Int))(eP:aa ((Int×Int×Int)×Int))(fe:Bool):af awg:=
 match OL a1 [] aS cz eR eP fe with|J=>J|Q r1=>match P4 r1.snd.fst r1.snd.snd.snd.fst r1.snd.snd.snd.snd.fst r1.snd.snd.snd.snd.snd.fst r1.snd.snd.snd.snd.snd.snd.fst r1.snd.snd.snd.snd.snd.snd.snd with|J=>J|Q r2=>Q ((r1.snd.snd.fst,r2))
def aBO(a1:Int)(aS:aa Int)(cz:aa aF)(eR:aa (Int×Int))(eP:aa ((Int×Int×Int)×Int))(fe:Bool):aO wR (alc) 300 (agU) 224 (aqs.c ((),a1,())) (atT.d (((),(),(),(),fe,()),aS,cz,eR,eP,())) 5 d224.rd=QD a1 aS cz eR eP fe:=by kernel_rfl
def ao7:aI->aI:=eY wR 224 5 aqs atT d224 (λg=>QD g.1.2.1 g.t.1 g.t.2.1 g.q.1 g.q.2.1 g.2.1.q.1)
def Np{F:aI}(h:ak wR F):ak wR (ao7 F):=dG (dN afT av3 (λ_=>by kernel_rfl) (λ_=>by kernel_rfl) (λ_=>by kernel_rfl) λg=>aBO g.1.2.1 g.t.1 g.t.2.1 g.q.1 g.q.2.1 g.2.1.q.1) ⟨_,func224,by kernel_rfl,by kernel_rfl⟩ (λ_=>by kernel_rfl) h
def QK:aI:=(ao7 cw)
def afS:ak wR QK:=(Np aQ)
structure oW where
 t2:Int
 t9:List Int
 t10:List (Int×Int)
 t64:List Int
 (t65 t66:Int)
 aS:List Int
 cz:List aF
 eR:List (Int×Int)
 eP:List ((Int×Int×Int)×Int)
 fe:Bool
 (b5 b8:aH)
def vP:Td 5 oW:= .c [] [0,2,6,9,10,11,64,65,66] (.t (cq.c 8 2 [] 113) (.c [] [0,2,6,9,10,11,64,65,66] (.r 5 12 (ec 0 (qp 0 0) (ec 2 aL (ec 6 (qp 5 0) (ec 9 (qo 6) (ec 10 (qo 7) (ec 11 (qp 8 0) (ec 64 (qo 9) (ec 65 aL (ec 66 aL en))))))))) (sb 0 296 (lc (qo 1) (lc (qo 2) (lc (qo 3) (lc (qo 4) (lc qb ln))))) (sr 1 3 (sr 2 113 (sm 3 .k1 .i (sm 4 .k3 .i (sb 5 80 (aW (lc qn (lc qn (aW ln)))) (sr 6 3 (sm 7 .k1 .i (sb 8 80 (aW (lc (qo 10) (lc (qo 11) (aW ln)))) (sr 9 3 (sr 10 3 (sr 11 113 sn)))))))))))) (λz=>⟨z.1.2.1,z.q.t.2.1,z.q.q.1,z.q.q.t.1,z.1.q.t.2.1,z.1.q.q.1,z.t.1,z.t.2.1,z.q.1,z.q.2.1,z.2.1.q.1,(aH.mk z.q.t.1.1 [] [] z.q.t.1.t.2.1),(aH.mk z.q.q.2.1.1 z.q.q.t.2.1 z.q.q.q.1 z.q.q.2.1.t.2.1)⟩) (λx=>(((),x.t2,(),(),(),(),(),x.t65,x.t66,()),(((),(),(),(),x.fe,()),x.aS,x.cz,x.eR,x.eP,(x.b5.ah,(),(),x.b5.bu,()),x.t9,x.t10,(x.b8.ah,(),(),x.b8.bu,()),x.t64,x.b8.aR,x.b8.az,()))))))
def vw(p:oW):af (af oW):=
 bif Z (p.t66<p.t65)then if 0<=p.t66/\p.t66<yz p.t64 then if 3=3/\zB p.t66<yz p.t64 then if 0<=p.t64[zB p.t66]!/\p.t64[zB p.t66]! <(yz p.cz:Int)then if 113=113/\zB p.t64[zB p.t66]! <yz p.cz then if(p.b8.az++[aF.mk p.cz[zB p.t64[zB p.t66]!]!.bz ((dA p.t10 p.cz[zB p.t64[zB p.t66]!]!.aG).getD ((0:Int))) ((dA p.t10 p.cz[zB p.t64[zB p.t66]!]!.au).getD ((0:Int)))]).length<=1073741824 then Q (Q (oW.mk p.t2 p.t9 (fQ p.t10 (i64.wrap (i64.wrap (2*p.t64[zB p.t66]!)+1)) (i64.wrap (yz p.t9+p.t66))) p.t64 p.t65 (i64.wrap (p.t66+1)) p.aS p.cz p.eR p.eP p.fe (aH.mk p.b5.ah [] [] p.b5.bu) (aH.mk p.b8.ah p.b8.aR (p.b8.az++[aF.mk p.cz[zB p.t64[zB p.t66]!]!.bz ((dA p.t10 p.cz[zB p.t64[zB p.t66]!]!.aG).getD 0) ((dA p.t10 p.cz[zB p.t64[zB p.t66]!]!.au).getD 0)]) p.b8.bu)))else J else J else J else J else J else Q (J)
def apX(p:oW):bK wR (QK) f160.ntmps 300 (aN f160 1) .no (af oW) (vP.pat p) (fR vP.rd)=vw p:=by kernel_rfl
def Er:=b6 (vw)
structure oB where
 t2:Int
 (t8 t9:List Int)
 t10:List (Int×Int)
 t40:List Int
 (t41 t42:Int)
 aS:List Int
 cz:List aF
 eR:List (Int×Int)
 eP:List ((Int×Int×Int)×Int)
 fe:Bool
 (b5 b9:aH)
def Bu:Td 5 oB:= .c [] [0,2,6,8,9,10,11,40,41,42] (.t (cq.c 9 1 [] 3) (.c [] [0,2,6,8,9,10,11,40,41,42] (.r 5 11 (ec 0 (qp 0 0) (ec 2 aL (ec 6 (qp 5 0) (ec 8 (qo 6) (ec 9 (qo 7) (ec 10 (qo 8) (ec 11 (qp 9 0) (ec 40 (qo 7) (ec 41 aL (ec 42 aL en)))))))))) (sb 0 296 (lc (qo 1) (lc (qo 2) (lc (qo 3) (lc (qo 4) (lc qb ln))))) (sr 1 3 (sr 2 113 (sm 3 .k1 .i (sm 4 .k3 .i (sb 5 80 (aW (lc qn (lc qn (aW ln)))) (sr 6 3 (sr 7 3 (sm 8 .k1 .i (sb 9 80 (aW (lc (qo 10) (lc qn (aW ln)))) (sr 10 3 sn))))))))))) (λz=>⟨z.1.2.1,z.q.t.2.1,z.q.q.1,z.q.q.2.1,z.q.q.1,z.1.q.q.1,z.1.q.q.2.1,z.t.1,z.t.2.1,z.q.1,z.q.2.1,z.2.1.q.1,(aH.mk z.q.t.1.1 [] [] z.q.t.1.t.2.1),(aH.mk z.q.q.t.1.1 z.q.q.t.2.1 [] z.q.q.t.1.t.2.1)⟩) (λx=>(((),x.t2,(),(),(),(),(),(),x.t41,x.t42,()),(((),(),(),(),x.fe,()),x.aS,x.cz,x.eR,x.eP,(x.b5.ah,(),(),x.b5.bu,()),x.t8,x.t40,x.t10,(x.b9.ah,(),(),x.b9.bu,()),x.b9.aR,()))))))
def v7(p:oB):af (af oB):=
 bif Z (p.t42<p.t41)then if 0<=p.t42/\p.t42<yz p.t40 then if 3=3/\zB p.t42<yz p.t40 then if 0<=p.t40[zB p.t42]!/\p.t40[zB p.t42]! <(yz p.aS:Int)then if 3=3/\zB p.t40[zB p.t42]! <yz p.aS then if(p.b9.aR++[p.aS[zB p.t40[zB p.t42]!]!]).length<=1073741824 then Q (Q (oB.mk p.t2 p.t8 p.t40 (fQ p.t10 (i64.wrap (2*p.t40[zB p.t42]!)) p.t42) p.t40 p.t41 (i64.wrap (p.t42+1)) p.aS p.cz p.eR p.eP p.fe (aH.mk p.b5.ah [] [] p.b5.bu) (aH.mk p.b9.ah (p.b9.aR++[p.aS[zB p.t40[zB p.t42]!]!]) [] p.b9.bu)))else J else J else J else J else J else Q (J)
def aor(p:oB):bK wR (QK) f160.ntmps 300 (aN f160 0) .no (af oB) (Bu.pat p) (fR Bu.rd)=v7 p:=by kernel_rfl
def Ej:=b6 (v7)
abbrev awk:=aH×Int×(aa Int)×(aa aF)×(aa (Int×Int))×(aa ((Int×Int×Int)×Int))×Bool
def d160:Td 5 awk:= .c [] [6,7] (.r 5 6 (ec 6 (qp 5 0) (ec 7 aL en)) (sb 0 296 (lc (qo 1) (lc (qo 2) (lc (qo 3) (lc (qo 4) (lc qb ln))))) (sr 1 3 (sr 2 113 (sm 3 .k1 .i (sm 4 .k3 .i (sb 5 80 (lg 80) sn)))))) (λz=>(z.q.t.1,z.1.2.1,z.t.1,z.t.2.1,z.q.1,z.q.2.1,z.2.1.q.1)) (λx=>(((),x.2.1,()),(((),(),(),(),x.q.t,()),x.t.1,x.t.2.1,x.q.1,x.q.2.1,x.1,()))))
def awL:=(lc (qp 0 0) (aW (aW ln)))
def ayU:=(sb 0 296 (lc (qo 1) (lc (qo 2) (lc (qo 3) (lc (qo 4) (lc qb ln))))) (sr 1 3 (sr 2 113 (sm 3 .k1 .i (sm 4 .k3 .i sn)))))
def aiJ:An:=(noTwo (noTwo (noTwo (.two (.two (.rb [] 35) .no) (noTwo (noTwo (.two (noTwo (Bu.lp Ej .no)) (.two (noTwo (vP.lp Er .no)) .no))))))))
def ayK:∀f∈([]:aa Nat),aZ (QK) f:=aC
def avp:bx wR (QK) 5 300 160 (aiJ):=aD (l:=[(.skip,(.rb [] 35)),(aN f160 0,(Bu.lp Ej .no)),(aN f160 1,(vP.lp Er .no))]) func160 (aq (by kernel_rfl)) (by kernel_rfl) (aA ayK (aA ⟨Bu.ok _,bt (aor)⟩ (aA ⟨vP.ok _,bt (apX)⟩ aC)))
def Gy(a1:Int)(a2:Int)(aS:aa Int)(cz:aa aF)(eR:aa (Int×Int))(eP:aa ((Int×Int×Int)×Int))(fe:Bool):af awk:=
 bif fe then Q ((aH.mk 0 [] [] (0),3,aS,cz,eR,eP,fe))else match QD a2 aS cz eR eP fe with|J=>J|Q r1=>match bif Z (4096<(yz r1.snd.fst:Int))then Q O else Q (Z (4096<(yz r1.fst:Int)))with|J=>J|Q r2=>bif r2 then Q ((aH.mk 0 [] [] (0),4,r1.snd.snd))else match Ej (oB.mk a2 r1.fst r1.snd.fst [] r1.snd.fst (yz r1.snd.fst) 0 r1.snd.snd.fst r1.snd.snd.snd.fst r1.snd.snd.snd.snd.fst r1.snd.snd.snd.snd.snd.fst r1.snd.snd.snd.snd.snd.snd (aH.mk 0 [] [] (0)) (aH.mk a1 [] [] (0)))with|J=>J|Q r3=>bif Z (r3.t42<r3.t41)then if 0<=r3.t42/\r3.t42<yz r3.t40 then if 3=3/\zB r3.t42<yz r3.t40 then if 0<=r3.t40[zB r3.t42]!/\r3.t40[zB r3.t42]! <(yz r3.aS:Int)then if 3=3/\zB r3.t40[zB r3.t42]! <yz r3.aS then if(r3.b9.aR++[r3.aS[zB r3.t40[zB r3.t42]!]!]).length<=1073741824 then J else J else J else J else J else J else match Er (oW.mk r3.t2 r3.t40 r3.t10 r3.t8 (yz r3.t8) 0 r3.aS r3.cz r3.eR r3.eP r3.fe (aH.mk r3.b5.ah [] [] r3.b5.bu) (aH.mk r3.b9.ah r3.b9.aR [] r3.b9.bu))with|J=>J|Q r4=>bif Z (r4.t66<r4.t65)then if 0<=r4.t66/\r4.t66<yz r4.t64 then if 3=3/\zB r4.t66<yz r4.t64 then if 0<=r4.t64[zB r4.t66]!/\r4.t64[zB r4.t66]! <(yz r4.cz:Int)then if 113=113/\zB r4.t64[zB r4.t66]! <yz r4.cz then if(r4.b8.az++[aF.mk r4.cz[zB r4.t64[zB r4.t66]!]!.bz ((dA r4.t10 r4.cz[zB r4.t64[zB r4.t66]!]!.aG).getD ((0:Int))) ((dA r4.t10 r4.cz[zB r4.t64[zB r4.t66]!]!.au).getD ((0:Int)))]).length<=1073741824 then J else J else J else J else J else J else Q ((aH.mk r4.b8.ah r4.b8.aR r4.b8.az ((dA r4.t10 r4.t2).getD 0),0,r4.aS,r4.cz,r4.eR,r4.eP,r4.fe))
def aBs(a1:Int)(a2:Int)(aS:aa Int)(cz:aa aF)(eR:aa (Int×Int))(eP:aa ((Int×Int×Int)×Int))(fe:Bool):aO wR (QK) 300 (aiJ) 160 (awL.c ((),a1,a2,())) (ayU.d (((),(),(),(),fe,()),aS,cz,eR,eP,())) 5 d160.rd=Gy a1 a2 aS cz eR eP fe:=by kernel_rfl
def Vj:aI->aI:=eY wR 160 5 awL ayU d160 (λg=>Gy g.1.2.1 g.1.t.1 g.t.1 g.t.2.1 g.q.1 g.q.2.1 g.2.1.q.1)
def ig{F:aI}(h:ak wR F):ak wR (Vj F):=dG (dN afS avp (λ_=>by kernel_rfl) (λ_=>by kernel_rfl) (λ_=>by kernel_rfl) λg=>aBs g.1.2.1 g.1.t.1 g.t.1 g.t.2.1 g.q.1 g.q.2.1 g.2.1.q.1) ⟨_,func160,by kernel_rfl,by kernel_rfl⟩ (λ_=>by kernel_rfl) h
def VD:aI:=(jr wR (Vk (uc (Vj (P8 cw)))) (λf=>zh f 156||zh f 160||zh f 263||zh f 294) 300 10)
def Si:ak wR VD:=⟨gM (ak.ok (p8 (dZ (ig (fZ aQ))))) (ak.nat (P:=wR) (p8 (dZ (ig (fZ aQ))))) 300 10,ga (ak.nat (P:=wR) (p8 (dZ (ig (fZ aQ))))) 300 10⟩
abbrev ajq:=aH×Int
def ahA:Td 0 ajq:= .c [] [4,5] (.r 0 1 (ec 4 (qp 0 0) (ec 5 aL en)) (sb 0 80 (lg 80) sn) (λz=>(z.2.1,z.1.2.1)) (λx=>(((),x.2,()),(x.1,()))))
def aiL:=(lc (qf 294 ln) (lc (qk 80 1) ln))
def SZ:An:= .no
def anZ:bx wR (VD) 0 300 189 (SZ):=aD (l:=[]) func189 (aq (by kernel_rfl)) (by kernel_rfl) aC
def IX(a1_0:aH):af ajq:=
 match NG [a1_0][0]!.bu (0) (0) [] a1_0 gx.fst gx.snd.fst gx.snd.snd.fst gx.snd.snd.snd.fst gx.snd.snd.snd.snd with|J=>J|Q r1=>match Gy [a1_0][0]!.ah r1.fst r1.snd.snd.snd.fst r1.snd.snd.snd.snd.fst r1.snd.snd.snd.snd.snd.fst r1.snd.snd.snd.snd.snd.snd.fst r1.snd.snd.snd.snd.snd.snd.snd with|J=>J|Q r2=>Q ((r2.fst,r2.snd.fst))
def axA(a1_0:aH):aO wR (VD) 300 (SZ) 189 (aiL.c ((()),(a1_0,()),())) [] 0 ahA.rd=IX a1_0:=by kernel_rfl
def GR:aI->aI:=eZ wR 189 aiL ahA (λg=>IX g.2.1.1)
def Ab{F:aI}(h:ak wR F):ak wR (GR F):=gh (bq Si anZ (λ_=>by kernel_rfl) (λ_=>by kernel_rfl) λg=>axA g.2.1.1) ⟨_,func189,by kernel_rfl,by kernel_rfl⟩ (λ_=>by kernel_rfl) h
def kR{F:aI}{f:Nat}(hne:zh f 189=V)(h:aZ F f):aZ (GR F) f:=qP hne h
def F59:aI:=cw
def ams:ak wR F59:=aQ
structure AF where
 (t0 t1:List aF)
 (t12 t13:Int)
def JM:Td 0 AF:= .c [] [0,1,12,13] (.r 0 0 (ec 0 (ql 113) (ec 1 (ql 113) (ec 12 aL (ec 13 aL en)))) sn (λz=>⟨z.1.1,z.1.2.1,z.1.t.1,z.1.t.2.1⟩) (λx=>((x.t0,x.t1,x.t12,x.t13,()),(()))))
def GI(p:AF):af (af AF):=
 bif Z (p.t13<p.t12)then if 0<=p.t13/\p.t13<yz p.t0 then if 0<=p.t13/\p.t13<yz p.t1 then bif bif bif Z (p.t0[zB p.t13]!.bz=p.t1[zB p.t13]!.bz)then bif Z (p.t0[zB p.t13]!.aG=p.t1[zB p.t13]!.aG)then bif Z (p.t0[zB p.t13]!.au=p.t1[zB p.t13]!.au)then O else V else V else V then V else O then Q (J)else Q (Q (AF.mk p.t0 p.t1 p.t12 (i64.wrap (p.t13+1))))else J else J else Q (J)
def atl(p:AF):bK wR (F59) f59.ntmps 300 (aN f59 0) .no (af AF) (JM.pat p) (fR JM.rd)=GI p:=by kernel_rfl
def Pm:=b6 (GI)
abbrev E59:=Bool
def d59:Td 0 E59:= .c [] [4] (.r 0 0 (ec 4 qb en) sn (λz=>z.1.1) (λx=>((x,()),(()))))
def A59:=(lc (ql 113) (lc (ql 113) ln))
def asz:An:=(noTwo (noTwo (.two (noTwo (JM.lp Pm .no)) .no)))
def aB1:bx wR (F59) 0 300 59 (asz):=aD (l:=[(aN f59 0,(JM.lp Pm .no))]) func59 (aq (by kernel_rfl)) (by kernel_rfl) (aA ⟨JM.ok _,bt (atl)⟩ aC)
def m59(a0:aa aF)(a1:aa aF):af E59:=
 bif bif Z ((yz a0:Int)=(yz a1:Int))then V else O then Q V else match Pm (AF.mk a0 a1 (yz a0) 0)with|J=>J|Q r1=>bif Z (r1.t13<r1.t12)then if 0<=r1.t13/\r1.t13<yz r1.t0 then if 0<=r1.t13/\r1.t13<yz r1.t1 then bif bif bif Z (r1.t0[zB r1.t13]!.bz=r1.t1[zB r1.t13]!.bz)then bif Z (r1.t0[zB r1.t13]!.aG=r1.t1[zB r1.t13]!.aG)then bif Z (r1.t0[zB r1.t13]!.au=r1.t1[zB r1.t13]!.au)then O else V else V else V then V else O then Q V else J else J else J else Q O
def c59(a0:aa aF)(a1:aa aF):aO wR (F59) 300 (asz) 59 (A59.c (a0,a1,())) [] 0 d59.rd=m59 a0 a1:=by kernel_rfl
def e59:=eL wR 59 V A59 d59 (λg=>m59 g.1 g.2.1)
def Ll{F:aI}(h:ak wR F):ak wR (e59 F):=bA (sc:=dM) aX (bq ams aB1 (λ_=>by kernel_rfl) (λ_=>by kernel_rfl) λg=>c59 g.1 g.2.1) ⟨_,func59,by kernel_rfl,by kernel_rfl⟩ (λ_=>by kernel_rfl) (λ_=>by kernel_rfl) h
def nc{F:aI}{f:Nat}(h:aZ F f):aZ (e59 F) f:=cg h (λ_=>by kernel_rfl)
def QH:aI:=(Vk (GW (GR (QE (e59 (e32 cw))))))
def acS:ak wR QH:=(p8 (nX (Ab (u7 (Ll (aou aQ))))))
structure oC where
 t5:List ((Int×Int×Int)×Bool)
 t39:List aF
 (t40 t41:Int)
 b0:aH
def vH:Td 0 oC:= .c [] [1,5,39,40,41] (.r 0 2 (ec 1 (qp 0 0) (ec 5 (qo 1) (ec 39 (ql 113) (ec 40 aL (ec 41 aL en))))) (sb 0 80 (lg 80) (sm 1 .k3 .b sn)) (λz=>⟨z.t.1,z.1.t.1,z.1.t.2.1,z.1.q.1,z.2.1⟩) (λx=>(((),(),x.t39,x.t40,x.t41,()),(x.b0,x.t5,()))))
def wW(p:oC):af (af oC):=
 bif Z (p.t41<p.t40)then if 0<=p.t41/\p.t41<yz p.t39 then bif Z (p.t39[zB p.t41]!.aG<0)then Q (J)else bif Z (i64.wrap (yz p.b0.aR+p.t41)<=p.t39[zB p.t41]!.aG)then Q (J)else bif Z (p.t39[zB p.t41]!.au<0)then Q (J)else bif Z (i64.wrap (yz p.b0.aR+p.t41)<=p.t39[zB p.t41]!.au)then Q (J)else bif Z (p.t39[zB p.t41]!.aG=p.t39[zB p.t41]!.au)then Q (J)else bif(dA p.t5 (p.t39[zB p.t41]!.bz,p.t39[zB p.t41]!.aG,p.t39[zB p.t41]!.au)).getD V then Q (J)else bif Z (p.t39[zB p.t41]!.bz<0)then Q (J)else match jt p.b0 p.t39[zB p.t41]!.aG with|J=>J|Q r2=>bif Z (r2<=p.t39[zB p.t41]!.bz)then Q (J)else match jt p.b0 p.t39[zB p.t41]!.au with|J=>J|Q r3=>bif Z (r3<=p.t39[zB p.t41]!.bz)then Q (J)else Q (Q (oC.mk (fQ p.t5 (p.t39[zB p.t41]!.bz,p.t39[zB p.t41]!.aG,p.t39[zB p.t41]!.au) O) p.t39 p.t40 (i64.wrap (p.t41+1)) p.b0))else J else Q (J)
def akZ(p:oC):bK wR (QH) f267.ntmps 300 (aN f267 1) .no (af oC) (vH.pat p) (fR vH.rd)=wW p:=by kernel_rfl
def Ew:=b6 (wW)
structure oS where
 t12:List Int
 (t13 t14:Int)
 b0:aH
def B7:Td 0 oS:= .c [] [1,12,13,14] (.r 0 1 (ec 1 (qp 0 0) (ec 12 (ql 3) (ec 13 aL (ec 14 aL en)))) (sb 0 80 (lg 80) sn) (λz=>⟨z.1.2.1,z.1.t.1,z.1.t.2.1,z.2.1⟩) (λx=>(((),x.t12,x.t13,x.t14,()),(x.b0,()))))
def BX(p:oS):af (af oS):=
 bif Z (p.t14<p.t13)then if 0<=p.t14/\p.t14<yz p.t12 then match bif bif jK p.t12[zB p.t14]! then V else O then Q O else bif Z (0<p.t14)then if 0<=i64.wrap (p.t14-1)/\i64.wrap (p.t14-1)<yz p.b0.aR then Q (Z (p.t12[zB p.t14]!<=p.b0.aR[(i64.wrap (p.t14-1)).toNat]!))else J else Q V with|J=>J|Q r1=>bif r1 then Q (J)else Q (Q (oS.mk p.t12 p.t13 (i64.wrap (p.t14+1)) p.b0))else J else Q (J)
def Mk:An:=(noTwo (noTwo (.two (noTwo (.two (.rb [32,59,188] 35) .no)) .no)))
def apk(p:oS):bK wR (QH) f267.ntmps 300 (aN f267 0) Mk (af oS) (B7.pat p) (fR B7.rd)=BX p:=by kernel_rfl
def E3:=b6 (BX)
abbrev ar7:=Bool
def d267:Td 0 ar7:= .c [] [2] (.r 0 0 (ec 2 qb en) sn (λz=>z.1.1) (λx=>((x,()),(()))))
def au8:=(lc (qg 80) ln)
def af3:An:=(noTwo (.two (noTwo (B7.lp E3 Mk)) (noTwo (.two (noTwo (vH.lp Ew .no)) (.two (.two (.rb [32,59,188] 121) .no) (noTwo (.two (.rb [32,59,188] 2) .no)))))))
def Ww:∀f∈([32,59,188]:aa Nat),aZ (QH) f:=(aA (rR (sZ (kR (f:=32) rfl (j8 (nc (vn cS)))))) (aA (rR (sZ (kR (f:=59) rfl (j8 (nc (vn cS)))))) (aA (rR (sZ (kR (f:=188) rfl (j8 (nc (vn cS)))))) aC)))
def axn:bx wR (QH) 0 300 267 (af3):=aD (l:=[(aN f267 0,(B7.lp E3 Mk)),(.skip,(.rb [32,59,188] 35)),(aN f267 1,(vH.lp Ew .no)),(.skip,(.rb [32,59,188] 121)),(.skip,(.rb [32,59,188] 2))]) func267 (aq (by kernel_rfl)) (by kernel_rfl) (aA ⟨B7.ok _,bt (apk)⟩ (aA Ww (aA ⟨vH.ok _,bt (akZ)⟩ (aA Ww (aA Ww aC)))))
def Wa(a0:aH):af ar7:=
 match E3 (oS.mk a0.aR (yz a0.aR) 0 a0)with|J=>J|Q r4=>bif Z (r4.t14<r4.t13)then if 0<=r4.t14/\r4.t14<yz r4.t12 then match bif bif jK r4.t12[zB r4.t14]! then V else O then Q O else bif Z (0<r4.t14)then if 0<=i64.wrap (r4.t14-1)/\i64.wrap (r4.t14-1)<yz r4.b0.aR then Q (Z (r4.t12[zB r4.t14]!<=r4.b0.aR[(i64.wrap (r4.t14-1)).toNat]!))else J else Q V with|J=>J|Q r5=>bif r5 then Q V else J else J else match Ew (oC.mk [] r4.b0.az (yz r4.b0.az) 0 r4.b0)with|J=>J|Q r6=>bif Z (r6.t41<r6.t40)then if 0<=r6.t41/\r6.t41<yz r6.t39 then bif Z (r6.t39[zB r6.t41]!.aG<0)then Q V else bif Z (i64.wrap (yz r6.b0.aR+r6.t41)<=r6.t39[zB r6.t41]!.aG)then Q V else bif Z (r6.t39[zB r6.t41]!.au<0)then Q V else bif Z (i64.wrap (yz r6.b0.aR+r6.t41)<=r6.t39[zB r6.t41]!.au)then Q V else bif Z (r6.t39[zB r6.t41]!.aG=r6.t39[zB r6.t41]!.au)then Q V else bif(dA r6.t5 (r6.t39[zB r6.t41]!.bz,r6.t39[zB r6.t41]!.aG,r6.t39[zB r6.t41]!.au)).getD V then Q V else bif Z (r6.t39[zB r6.t41]!.bz<0)then Q V else match jt r6.b0 r6.t39[zB r6.t41]!.aG with|J=>J|Q r7=>bif Z (r7<=r6.t39[zB r6.t41]!.bz)then Q V else match jt r6.b0 r6.t39[zB r6.t41]!.au with|J=>J|Q r8=>bif Z (r8<=r6.t39[zB r6.t41]!.bz)then Q V else J else J else match bif Z (r6.b0.bu<0)then Q O else Q (Z (i64.wrap ((yz r6.b0.aR:Int)+(yz r6.b0.az:Int))<=r6.b0.bu))with|J=>J|Q r9=>bif r9 then Q V else match IX r6.b0 with|J=>J|Q r10=>match bif Z (r10.snd=0)then match m32 r6.b0.aR r10.fst.aR with|J=>J|Q r11=>bif r11 then match m59 r6.b0.az r10.fst.az with|J=>J|Q r12=>bif r12 then Q (Z (r6.b0.bu=r10.fst.bu))else Q V else Q V else Q V with|J=>J|Q r13=>Q (r13)
def aA1(a0:aH):aO wR (QH) 300 (af3) 267 (au8.c (a0,())) [] 0 d267.rd=Wa a0:=by kernel_rfl
def ave:=eL wR 267 V au8 d267 (λg=>Wa g.1)
def acm{F:aI}(h:ak wR F):ak wR (ave F):=bA (sc:=dM) aX (bq acS axn (λ_=>by kernel_rfl) (λ_=>by kernel_rfl) λg=>aA1 g.1) ⟨_,func267,by kernel_rfl,by kernel_rfl⟩ (λ_=>by kernel_rfl) (λ_=>by kernel_rfl) h
def adJ:aI:=(ave cw)
def afr:ak wR adJ:=(acm aQ)
abbrev arC:=Int
def d210:Td 0 arC:= .c [] [2] (.r 0 0 (ec 2 aL en) sn (λz=>z.1.1) (λx=>((x,()),(()))))
def aqQ:=(lc (qg 80) ln)
def agp:An:=(noTwo (.two (.two (.rb [] 10) .no) (.two (.two (.rb [] 20) .no) .no)))
def ahU:∀f∈([]:aa Nat),aZ (adJ) f:=aC
def arn:bx wR (adJ) 0 300 210 (agp):=aD (l:=[(.skip,(.rb [] 10)),(.skip,(.rb [] 20))]) func210 (aq (by kernel_rfl)) (by kernel_rfl) (aA ahU (aA ahU aC))
def KP(a0:aH):af arC:=
 match bif Z (a0.ah<0)then Q O else Q (Z (40<a0.ah))with|J=>J|Q r1=>bif r1 then Q 3 else match bif Z (4096<(yz a0.aR:Int))then Q O else Q (Z (4096<(yz a0.az:Int)))with|J=>J|Q r2=>bif r2 then Q 4 else match Wa a0 with|J=>J|Q r3=>bif bif r3 then V else O then Q 1 else Q 0
def aB0(a0:aH):aO wR (adJ) 300 (agp) 210 (aqQ.c (a0,())) [] 0 d210.rd=KP a0:=by kernel_rfl
def ass:=eL wR 210 V aqQ d210 (λg=>KP g.1)
def abw{F:aI}(h:ak wR F):ak wR (ass F):=bA (sc:=dM) aX (bq afr arn (λ_=>by kernel_rfl) (λ_=>by kernel_rfl) λg=>aB0 g.1) ⟨_,func210,by kernel_rfl,by kernel_rfl⟩ (λ_=>by kernel_rfl) (λ_=>by kernel_rfl) h
def R6:aI:=(ass cw)
def abt:ak wR R6:=(abw aQ)
structure pF where
 (t0 t17:List aH)
 (t18 t19:Int)
def Ce:Td 0 pF:= .c [] [0,17,18,19] (.r 0 0 (ec 0 (ql 80) (ec 17 (ql 80) (ec 18 aL (ec 19 aL en)))) sn (λz=>⟨z.1.1,z.1.2.1,z.1.t.1,z.1.t.2.1⟩) (λx=>((x.t0,x.t17,x.t18,x.t19,()),(()))))
def vi(p:pF):af (af pF):=
 bif Z (p.t19<p.t18)then if 0<=p.t19/\p.t19<yz p.t17 then if(0:Int)<=(0:Int)/\(0:Int)<yz p.t0 then bif bif Z (p.t17[zB p.t19]!.ah=p.t0[0]!.ah)then V else O then Q (J)else Q (Q (pF.mk p.t0 p.t17 p.t18 (i64.wrap (p.t19+1))))else J else J else Q (J)
def akL(p:pF):bK wR (R6) f149.ntmps 300 (aN f149 1) .no (af pF) (Ce.pat p) (fR Ce.rd)=vi p:=by kernel_rfl
def FU:=b6 (vi)
structure oH where
 (t0 t7:List aH)
 (t8 t9:Int)
def Bx:Td 0 oH:= .c [] [0,7,8,9] (.r 0 0 (ec 0 (ql 80) (ec 7 (ql 80) (ec 8 aL (ec 9 aL en)))) sn (λz=>⟨z.1.1,z.1.2.1,z.1.t.1,z.1.t.2.1⟩) (λx=>((x.t0,x.t7,x.t8,x.t9,()),(()))))
def vh(p:oH):af (af oH):=
 bif Z (p.t9<p.t8)then if 0<=p.t9/\p.t9<yz p.t7 then match KP p.t7[zB p.t9]! with|J=>J|Q r1=>bif bif Z (r1=0)then V else O then Q (J)else Q (Q (oH.mk p.t0 p.t7 p.t8 (i64.wrap (p.t9+1))))else J else Q (J)
def aoB(p:oH):bK wR (R6) f149.ntmps 300 (aN f149 0) .no (af oH) (Bx.pat p) (fR Bx.rd)=vh p:=by kernel_rfl
def Fz:=b6 (vh)
abbrev avS:=Int
def d149:Td 0 avS:= .c [] [2] (.r 0 0 (ec 2 aL en) sn (λz=>z.1.1) (λx=>((x,()),(()))))
def awf:=(lc (ql 80) ln)
def ai7:An:=(noTwo (.two (noTwo (Bx.lp Fz .no)) (.two (noTwo (Ce.lp FU .no)) .no)))
def ax9:bx wR (R6) 0 300 149 (ai7):=aD (l:=[(aN f149 0,(Bx.lp Fz .no)),(aN f149 1,(Ce.lp FU .no))]) func149 (aq (by kernel_rfl)) (by kernel_rfl) (aA ⟨Bx.ok _,bt (aoB)⟩ (aA ⟨Ce.ok _,bt (akL)⟩ aC))
def Ru(a0:aa aH):af avS:=
 match Fz (oH.mk a0 a0 (yz a0) 0)with|J=>J|Q r2=>bif Z (r2.t9<r2.t8)then if 0<=r2.t9/\r2.t9<yz r2.t7 then match KP r2.t7[zB r2.t9]! with|J=>J|Q r3=>bif bif Z (r3=0)then V else O then Q 1 else J else J else match FU (pF.mk r2.t0 r2.t0 (yz r2.t0) 0)with|J=>J|Q r4=>bif Z (r4.t19<r4.t18)then if 0<=r4.t19/\r4.t19<yz r4.t17 then if(0:Int)<=(0:Int)/\(0:Int)<yz r4.t0 then bif bif Z (r4.t17[zB r4.t19]!.ah=r4.t0[0]!.ah)then V else O then Q 2 else J else J else J else Q 0
def aDM(a0:aa aH):aO wR (R6) 300 (ai7) 149 (awf.c (a0,())) [] 0 d149.rd=Ru a0:=by kernel_rfl
def apc:=eL wR 149 V awf d149 (λg=>Ru g.1)
def uS{F:aI}(h:ak wR F):ak wR (apc F):=bA (sc:=dM) aX (bq abt ax9 (λ_=>by kernel_rfl) (λ_=>by kernel_rfl) λg=>aDM g.1) ⟨_,func149,by kernel_rfl,by kernel_rfl⟩ (λ_=>by kernel_rfl) (λ_=>by kernel_rfl) h
abbrev jU:=Int×(aa ((Int×Int×Int)×Int))×aH×aH×(aa Int)×(aa aF)×(aa (Int×Int))×(aa ((Int×Int×Int)×Int))×Bool×Nat
def VP:Td 12 jU:= .c [8,9] [7] (.r 12 14 (ec 7 aL en) (sb 0 327 (lc (qo 5) ln) (sb 1 136 (lc (qk 80 2) ln) (sb 2 239 (lc (qp 6 0) ln) (sb 3 226 (lc (qf 238 (lc (qp 7 0) ln)) ln) (sb 4 226 (lc (qf 263 (lc (qp 0 0) (lc (qp 1 0) (lc (qp 2 0) (lc (qp 3 0) (lc (qp 4 0) ln)))))) ln) (sm 5 .k3 .i (sb 6 296 (lc (qo 12) (lc (qo 13) (lc (qo 10) (lc (qo 11) (lc qb ln))))) (sb 7 175 (lg 175) (sm 10 .k1 .i (sm 11 .k3 .i (sr 12 3 (sr 13 113 sn)))))))))))) (λz=>(z.1.1,z.q.t.1,z.t.1.1.1,z.t.1.1.2.1,z.q.q.t.2.1,z.q.q.q.1,z.q.q.2.1,z.q.q.t.1,z.q.t.2.1.q.1,z.q.q.1)) (λx=>((x.1,()),(((),()),((x.t.1,x.t.2.1,()),()),((),()),(((),()),()),(((),(),(),(),(),()),()),x.2.1,((),(),(),(),x.q.q.1,()),x.q.q.2,x.q.t.1,x.q.t.2.1,x.q.1,x.q.2.1,()))))
def WV:=(lc (qa (aW (aW (aW ln)))) (lc (qp 0 0) (lc (qp 1 0) (lc (qp 2 0) (lc (qp 3 0) (lc (qp 4 0) ln))))))
def W6:=(sb 0 327 (lc (qo 5) ln) (sb 1 136 (lc (qk 80 2) ln) (sb 2 239 (lc (qp 6 0) ln) (sb 3 226 (lc (qf 238 (lc (qp 7 0) ln)) ln) (sb 4 226 (lc (qf 263 (lc (qp 0 0) (lc (qp 1 0) (lc (qp 2 0) (lc (qp 3 0) (lc (qp 4 0) ln)))))) ln) (sm 5 .k3 .i (sb 6 296 (lc (qo 8) (lc (qo 9) (lc (qo 10) (lc (qo 11) (lc qb ln))))) (sb 7 175 (lg 175) (sr 8 3 (sr 9 113 (sm 10 .k1 .i (sm 11 .k3 .i sn))))))))))))
def VU(M:Int->Int->Int->(aa ((Int×Int×Int)×Int))->aH->aH->(aa Int)->(aa aF)->(aa (Int×Int))->(aa ((Int×Int×Int)×Int))->Bool->Nat->af jU):aI->aI:=eY wR 263 12 WV W6 VP (λg=>M g.1.1.1 g.1.1.2.1 g.1.1.2.2.1 g.2.2.2.2.2.2.1 g.2.2.1.1.1 g.2.2.1.1.2.1 g.2.2.2.2.2.2.2.2.2.1 g.2.2.2.2.2.2.2.2.2.2.1 g.2.2.2.2.2.2.2.2.2.2.2.1 g.2.2.2.2.2.2.2.2.2.2.2.2.1 g.2.2.2.2.2.2.2.1.2.2.2.2.1 g.2.2.2.2.2.2.2.2.1)
def Nu(M:Int->Int->Int->(aa ((Int×Int×Int)×Int))->aH->aH->(aa Int)->(aa aF)->(aa (Int×Int))->(aa ((Int×Int×Int)×Int))->Bool->Nat->af jU):Prop:=HY wR 263 12 WV W6 VP (λg=>M g.1.1.1 g.1.1.2.1 g.1.1.2.2.1 g.2.2.2.2.2.2.1 g.2.2.1.1.1 g.2.2.1.1.2.1 g.2.2.2.2.2.2.2.2.2.1 g.2.2.2.2.2.2.2.2.2.2.1 g.2.2.2.2.2.2.2.2.2.2.2.1 g.2.2.2.2.2.2.2.2.2.2.2.2.1 g.2.2.2.2.2.2.2.1.2.2.2.2.1 g.2.2.2.2.2.2.2.2.1)
def I8{M:Int->Int->Int->(aa ((Int×Int×Int)×Int))->aH->aH->(aa Int)->(aa aF)->(aa (Int×Int))->(aa ((Int×Int×Int)×Int))->Bool->Nat->af jU}(hM:Nu M){F:aI}(h:ak wR F):ak wR (VU M F):=dG hM ⟨_,func263,by kernel_rfl,by kernel_rfl⟩ (λ_=>by kernel_rfl) h
def Yx(M263P:Int->Int->Int->(aa ((Int×Int×Int)×Int))->aH->aH->(aa Int)->(aa aF)->(aa (Int×Int))->(aa ((Int×Int×Int)×Int))->Bool->Nat->af jU):aI:=(VU M263P (uc (aaE (VS (GW (Rw (L6 cw)))))))
def V5{M263P}(h263P:Nu M263P):ak wR (Yx M263P):=(I8 h263P (dZ (rF (ve (nX (ru (nH aQ)))))))
def SF(M263P:Int->Int->Int->(aa ((Int×Int×Int)×Int))->aH->aH->(aa Int)->(aa aF)->(aa (Int×Int))->(aa ((Int×Int×Int)×Int))->Bool->Nat->af jU):An:= .no
def akl(M263P:Int->Int->Int->(aa ((Int×Int×Int)×Int))->aH->aH->(aa Int)->(aa aF)->(aa (Int×Int))->(aa ((Int×Int×Int)×Int))->Bool->Nat->af jU):bx wR (Yx M263P) 12 300 263 (SF M263P):=aD (l:=[]) func263 (aq (by kernel_rfl)) (by kernel_rfl) aC
def tH(M263P:Int->Int->Int->(aa ((Int×Int×Int)×Int))->aH->aH->(aa Int)->(aa aF)->(aa (Int×Int))->(aa ((Int×Int×Int)×Int))->Bool->Nat->af jU)(a0_0:Int)(a0_1:Int)(a0_2:Int)(aS:aa ((Int×Int×Int)×Int))(b1_0_0:aH)(b1_0_1:aH)(b6_0:aa Int)(b6_1:aa aF)(b6_2:aa (Int×Int))(b6_3:aa ((Int×Int×Int)×Int))(b6_4:Bool)(b7:Nat):af jU:=
 bif(dA aS (a0_0,a0_1,a0_2)).isSome then Q (((dA aS (a0_0,a0_1,a0_2)).getD 0,aS,b1_0_0,b1_0_1,b6_0,b6_1,b6_2,b6_3,b6_4,b7))else match jt [b1_0_0,b1_0_1][0]! a0_0 with|J=>J|Q r1=>match jt [b1_0_0,b1_0_1][1]! a0_1 with|J=>J|Q r2=>bif Z ((if r2<if r1<[b1_0_0,b1_0_1][0]!.ah then r1 else[b1_0_0,b1_0_1][0]!.ah then r2 else if r1<[b1_0_0,b1_0_1][0]!.ah then r1 else[b1_0_0,b1_0_1][0]!.ah)=[b1_0_0,b1_0_1][0]!.ah)then if 0<=a0_0/\a0_0<(↑[b1_0_0,b1_0_1][0]!.aR.length:Int)then if 0<=a0_1/\a0_1<(↑[b1_0_0,b1_0_1][1]!.aR.length:Int)then match UG [b1_0_0,b1_0_1][0]!.aR[a0_0.toNat]! [b1_0_0,b1_0_1][1]!.aR[a0_1.toNat]! (0) b7 with|J=>J|Q r3=>match sy r3.fst b6_0 b6_1 b6_2 b6_3 b6_4 with|J=>J|Q r4=>Q ((r4.fst,fQ aS (a0_0,a0_1,a0_2) r4.fst,b1_0_0,b1_0_1,r4.snd.fst,r4.snd.snd.fst,r4.snd.snd.snd.fst,r4.snd.snd.snd.snd.fst,r4.snd.snd.snd.snd.snd,r3.snd))else J else J else match oF [b1_0_0,b1_0_1][0]! a0_0 (if r2<if r1<[b1_0_0,b1_0_1][0]!.ah then r1 else[b1_0_0,b1_0_1][0]!.ah then r2 else if r1<[b1_0_0,b1_0_1][0]!.ah then r1 else[b1_0_0,b1_0_1][0]!.ah) V with|J=>J|Q r5=>match oF [b1_0_0,b1_0_1][0]! a0_0 (if r2<if r1<[b1_0_0,b1_0_1][0]!.ah then r1 else[b1_0_0,b1_0_1][0]!.ah then r2 else if r1<[b1_0_0,b1_0_1][0]!.ah then r1 else[b1_0_0,b1_0_1][0]!.ah) O with|J=>J|Q r6=>match oF [b1_0_0,b1_0_1][1]! a0_1 (if r2<if r1<[b1_0_0,b1_0_1][0]!.ah then r1 else[b1_0_0,b1_0_1][0]!.ah then r2 else if r1<[b1_0_0,b1_0_1][0]!.ah then r1 else[b1_0_0,b1_0_1][0]!.ah) V with|J=>J|Q r7=>match oF [b1_0_0,b1_0_1][1]! a0_1 (if r2<if r1<[b1_0_0,b1_0_1][0]!.ah then r1 else[b1_0_0,b1_0_1][0]!.ah then r2 else if r1<[b1_0_0,b1_0_1][0]!.ah then r1 else[b1_0_0,b1_0_1][0]!.ah) O with|J=>J|Q r8=>match M263P r5 r7 0 aS b1_0_0 b1_0_1 b6_0 b6_1 b6_2 b6_3 b6_4 b7 with|J=>J|Q r9=>match M263P r6 r8 0 r9.snd.fst r9.snd.snd.fst r9.snd.snd.snd.fst r9.snd.snd.snd.snd.fst r9.snd.snd.snd.snd.snd.fst r9.snd.snd.snd.snd.snd.snd.fst r9.snd.snd.snd.snd.snd.snd.snd.fst r9.snd.snd.snd.snd.snd.snd.snd.snd.fst r9.snd.snd.snd.snd.snd.snd.snd.snd.snd with|J=>J|Q r10=>match Bw (if r2<if r1<[b1_0_0,b1_0_1][0]!.ah then r1 else[b1_0_0,b1_0_1][0]!.ah then r2 else if r1<[b1_0_0,b1_0_1][0]!.ah then r1 else[b1_0_0,b1_0_1][0]!.ah) r9.fst r10.fst r10.snd.snd.snd.snd.fst r10.snd.snd.snd.snd.snd.fst r10.snd.snd.snd.snd.snd.snd.fst r10.snd.snd.snd.snd.snd.snd.snd.fst r10.snd.snd.snd.snd.snd.snd.snd.snd.fst with|J=>J|Q r11=>Q ((r11.fst,fQ r10.snd.fst (a0_0,a0_1,a0_2) r11.fst,r10.snd.snd.fst,r10.snd.snd.snd.fst,r11.snd.fst,r11.snd.snd.fst,r11.snd.snd.snd.fst,r11.snd.snd.snd.snd.fst,r11.snd.snd.snd.snd.snd,r10.snd.snd.snd.snd.snd.snd.snd.snd.snd))
def ayH(M263P:Int->Int->Int->(aa ((Int×Int×Int)×Int))->aH->aH->(aa Int)->(aa aF)->(aa (Int×Int))->(aa ((Int×Int×Int)×Int))->Bool->Nat->af jU)(a0_0:Int)(a0_1:Int)(a0_2:Int)(aS:aa ((Int×Int×Int)×Int))(b1_0_0:aH)(b1_0_1:aH)(b6_0:aa Int)(b6_1:aa aF)(b6_2:aa (Int×Int))(b6_3:aa ((Int×Int×Int)×Int))(b6_4:Bool)(b7:Nat):aO wR (Yx M263P) 300 (SF M263P) 263 (WV.c ((a0_0,a0_1,a0_2,()),(),(),(),(),(),())) (W6.d (((),()),((b1_0_0,b1_0_1,()),()),((),()),(((),()),()),(((),(),(),(),(),()),()),aS,((),(),(),(),b6_4,()),b7,b6_0,b6_1,b6_2,b6_3,())) 12 VP.rd=tH M263P a0_0 a0_1 a0_2 aS b1_0_0 b1_0_1 b6_0 b6_1 b6_2 b6_3 b6_4 b7:=by kernel_rfl
def pe:Nat->(Int->Int->Int->(aa ((Int×Int×Int)×Int))->aH->aH->(aa Int)->(aa aF)->(aa (Int×Int))->(aa ((Int×Int×Int)×Int))->Bool->Nat->af jU)
 |0=>(λ_ _ _ _ _ _ _ _ _ _ _ _=>J)
 |n+1=>(tH (pe n))
def JU(n:Nat):Int->Int->Int->(aa ((Int×Int×Int)×Int))->aH->aH->(aa Int)->(aa aF)->(aa (Int×Int))->(aa ((Int×Int×Int)×Int))->Bool->Nat->af jU:=(pe n)
def Dy:∀n,Nu (JU n)
 |0=>λ_ _ h=>(by cases h)
 |n+1=>by
  have ih:=Dy n;have i263P:=ih;exact(dN (V5 i263P) (akl (JU n)) (λ_=>by kernel_rfl) (λ_=>by kernel_rfl) (λ_=>by kernel_rfl) λg=>ayH (JU n) g.1.1.1 g.1.1.2.1 g.1.1.2.2.1 g.2.2.2.2.2.2.1 g.2.2.1.1.1 g.2.2.1.1.2.1 g.2.2.2.2.2.2.2.2.2.1 g.2.2.2.2.2.2.2.2.2.2.1 g.2.2.2.2.2.2.2.2.2.2.2.1 g.2.2.2.2.2.2.2.2.2.2.2.2.1 g.2.2.2.2.2.2.2.1.2.2.2.2.1 g.2.2.2.2.2.2.2.2.1)
def OG:Int->Int->Int->(aa ((Int×Int×Int)×Int))->aH->aH->(aa Int)->(aa aF)->(aa (Int×Int))->(aa ((Int×Int×Int)×Int))->Bool->Nat->af jU:=λa0_0 a0_1 a0_2 aS b1_0_0 b1_0_1 b6_0 b6_1 b6_2 b6_3 b6_4 b7=>lim (λn=>JU n a0_0 a0_1 a0_2 aS b1_0_0 b1_0_1 b6_0 b6_1 b6_2 b6_3 b6_4 b7)
def TA:Nu OG:=λg b h=>by
 obtain⟨n,hn⟩:=bX (show lim (λn=>JU n g.1.1.1 g.1.1.2.1 g.1.1.2.2.1 g.2.2.2.2.2.2.1 g.2.2.1.1.1 g.2.2.1.1.2.1 g.2.2.2.2.2.2.2.2.2.1 g.2.2.2.2.2.2.2.2.2.2.1 g.2.2.2.2.2.2.2.2.2.2.2.1 g.2.2.2.2.2.2.2.2.2.2.2.2.1 g.2.2.2.2.2.2.2.1.2.2.2.2.1 g.2.2.2.2.2.2.2.2.1)=Q b from h);exact(Dy n) g b hn
def ahh(F:aI):aI:=VU OG F
def w5{F:aI}(h:ak wR F):ak wR (ahh F):=I8 TA h
def TU:aI:=(jr wR (ahh (uc (aaE (Vj (P8 cw))))) (λf=>zh f 156||zh f 160||zh f 238||zh f 263) 300 10)
def XX:ak wR TU:=⟨gM (ak.ok (w5 (dZ (rF (ig (fZ aQ)))))) (ak.nat (P:=wR) (w5 (dZ (rF (ig (fZ aQ)))))) 300 10,ga (ak.nat (P:=wR) (w5 (dZ (rF (ig (fZ aQ)))))) 300 10⟩
abbrev agk:=aH×Int×Nat
def ahL:Td 1 agk:= .c [] [4,5] (.r 1 2 (ec 4 (qp 1 0) (ec 5 aL en)) (sb 0 175 (lg 175) (sb 1 80 (lg 80) sn)) (λz=>(z.t.1,z.1.2.1,z.2.1)) (λx=>(((),x.2.1,()),(x.t,x.1,()))))
def ahD:=(lc (qf 238 (lc (qp 0 0) ln)) (lc (qk 80 2) ln))
def aiX:=(sb 0 175 (lg 175) sn)
def Wp:An:= .no
def akz:bx wR (TU) 1 300 189 (Wp):=aD (l:=[]) func189 (aq (by kernel_rfl)) (by kernel_rfl) aC
def Km(a1_0:aH)(a1_1:aH)(b0:Nat):af agk:=
 match OG [a1_0,a1_1][0]!.bu [a1_0,a1_1][1]!.bu (0) [] a1_0 a1_1 gx.fst gx.snd.fst gx.snd.snd.fst gx.snd.snd.snd.fst gx.snd.snd.snd.snd b0 with|J=>J|Q r1=>match Gy [a1_0,a1_1][0]!.ah r1.fst r1.snd.snd.snd.snd.fst r1.snd.snd.snd.snd.snd.fst r1.snd.snd.snd.snd.snd.snd.fst r1.snd.snd.snd.snd.snd.snd.snd.fst r1.snd.snd.snd.snd.snd.snd.snd.snd.fst with|J=>J|Q r2=>Q ((r2.fst,r2.snd.fst,r1.snd.snd.snd.snd.snd.snd.snd.snd.snd))
def axp(a1_0:aH)(a1_1:aH)(b0:Nat):aO wR (TU) 300 (Wp) 189 (ahD.c (((),()),(a1_0,a1_1,()),())) (aiX.d (b0,())) 1 ahL.rd=Km a1_0 a1_1 b0:=by kernel_rfl
def ahC:aI->aI:=eY wR 189 1 ahD aiX ahL (λg=>Km g.1.2.1.1 g.1.2.1.2.1 g.2.1)
def Wr{F:aI}(h:ak wR F):ak wR (ahC F):=dG (dN XX akz (λ_=>by kernel_rfl) (λ_=>by kernel_rfl) (λ_=>by kernel_rfl) λg=>axp g.1.2.1.1 g.1.2.1.2.1 g.2.1) ⟨_,func189,by kernel_rfl,by kernel_rfl⟩ (λ_=>by kernel_rfl) h
def abJ:aI:=(aaE (ay2 (ahC (GR (apc cw)))))
def ad0:ak wR abJ:=(rF (abz (Wr (Ab (uS aQ)))))
abbrev ayz:=aH×Int
def d178:Td 0 ayz:= .c [] [6,7] (.r 0 1 (ec 6 (qp 0 0) (ec 7 aL en)) (sb 0 80 (lg 80) sn) (λz=>(z.2.1,z.1.2.1)) (λx=>(((),x.2,()),(x.1,()))))
def aqK:=(aW (lc (qg 80) (lc (qg 80) ln)))
def ahr:An:=(noTwo (noTwo (.two (.two (.rb [] 23) .no) .no)))
def arD:∀f∈([]:aa Nat),aZ (abJ) f:=aC
def avt:bx wR (abJ) 0 300 178 (ahr):=aD (l:=[(.skip,(.rb [] 23))]) func178 (aq (by kernel_rfl)) (by kernel_rfl) (aA arD aC)
def Hf(a0:Int)(a1:aH)(a2:aH):af ayz:=
 match Ru [a1,a2]with|J=>J|Q r1=>bif bif Z (r1=0)then V else O then Q ((aH.mk 0 [] [] (0),r1))else match bif Z (a0<0)then Q O else Q (Z (9<=a0))with|J=>J|Q r2=>bif r2 then Q ((aH.mk 0 [] [] (0),3))else if 0<=a0/\a0<(↑(yz Fy):Int)then if 175=175/\a0.toNat<yz Fy then match Km a1 a2 Fy[a0.toNat]! with|J=>J|Q r3=>Q (r3.fst,r3.snd.fst)else J else J
def aAi(a0:Int)(a1:aH)(a2:aH):aO wR (abJ) 300 (ahr) 178 (aqK.c (a0,a1,a2,())) [] 0 d178.rd=Hf a0 a1 a2:=by kernel_rfl
def arE:aI->aI:=eZ wR 178 aqK d178 (λg=>Hf g.1 g.2.1 g.t.1)
def aeE{F:aI}(h:ak wR F):ak wR (arE F):=gh (bq ad0 avt (λ_=>by kernel_rfl) (λ_=>by kernel_rfl) λg=>aAi g.1 g.2.1 g.t.1) ⟨_,func178,by kernel_rfl,by kernel_rfl⟩ (λ_=>by kernel_rfl) h
def apB:aI:=(arE cw)
def aep:ak wR apB:=(aeE aQ)
abbrev arQ:=aH×cc
def d115:Td 1 arQ:= .c [] [8] (.r 1 2 (ec 8 (qp 1 0) en) (sb 0 138 (lg 138) (sb 1 80 (lg 80) sn)) (λz=>(z.t.1,z.2.1)) (λx=>(((),()),(x.2,x.1,()))))
def awR:=(lc (qp 0 0) (aW (lc (qg 80) (lc (qg 80) ln))))
def axV:=(sb 0 138 (lg 138) sn)
def ajo:An:= .no
def av8:bx wR (apB) 1 300 115 (ajo):=aD (l:=[]) func115 (aq (by kernel_rfl)) (by kernel_rfl) aC
def JN(a1:Int)(a2:aH)(a3:aH)(b0:cc):af arQ:=
 match Hf a1 a2 a3 with|J=>J|Q r1=>Q ((r1.fst,b0))
def aCj(a1:Int)(a2:aH)(a3:aH)(b0:cc):aO wR (apB) 300 (ajo) 115 (awR.c ((),a1,a2,a3,())) (axV.d (b0,())) 1 d115.rd=JN a1 a2 a3 b0:=by kernel_rfl
def anN:aI->aI:=eY wR 115 1 awR axV d115 (λg=>JN g.1.2.1 g.1.t.1 g.1.t.2.1 g.2.1)
def Py{F:aI}(h:ak wR F):ak wR (anN F):=dG (dN aep av8 (λ_=>by kernel_rfl) (λ_=>by kernel_rfl) (λ_=>by kernel_rfl) λg=>aCj g.1.2.1 g.1.t.1 g.1.t.2.1 g.2.1) ⟨_,func115,by kernel_rfl,by kernel_rfl⟩ (λ_=>by kernel_rfl) h
abbrev rU:=Int×(aa (Int×Int))×(aa aF)×bO
def d245:Td 6 rU:= .c [5] [6] (.r 6 7 (ec 6 aL en) (sb 0 293 (lc (qo 4) ln) (sb 1 40 (lc (ql 113) ln) (sb 2 241 (lc (qf 245 (lc (qp 0 0) (lc (qp 1 0) (lc (qp 2 0) (lc (qp 3 0) ln))))) ln) (sb 3 42 (aW (lc (qo 6) (aW ln))) (sm 4 .k1 .i (sr 6 113 sn)))))) (λz=>(z.1.1,z.q.2.1,z.t.1.1,(bO.mk z.q.1.1 z.q.t.1 z.q.1.t.1))) (λx=>((x.1,()),(((),()),(x.t.1,()),(((),(),(),(),()),()),(x.t.2.ah,(),x.t.2.bu,()),x.2.1,x.t.2.az,()))))
def ajs:=(aW (lc (qp 0 0) (lc (qp 1 0) (lc (qp 2 0) (lc (qp 3 0) ln)))))
def aoF:=(sb 0 293 (lc (qo 4) ln) (sb 1 40 (lc (ql 113) ln) (sb 2 241 (lc (qf 245 (lc (qp 0 0) (lc (qp 1 0) (lc (qp 2 0) (lc (qp 3 0) ln))))) ln) (sb 3 42 (aW (lc (qo 5) (aW ln))) (sm 4 .k1 .i (sr 5 113 sn))))))
def ajB(M:Int->(aa (Int×Int))->(aa aF)->Int->(aa aF)->Int->af rU):aI->aI:=eY wR 245 6 ajs aoF d245 (λg=>M g.1.1 g.2.2.2.2.2.1 g.2.2.1.1 g.2.2.2.2.1.1 g.2.2.2.2.2.2.1 g.2.2.2.2.1.2.2.1)
def afs(M:Int->(aa (Int×Int))->(aa aF)->Int->(aa aF)->Int->af rU):Prop:=HY wR 245 6 ajs aoF d245 (λg=>M g.1.1 g.2.2.2.2.2.1 g.2.2.1.1 g.2.2.2.2.1.1 g.2.2.2.2.2.2.1 g.2.2.2.2.1.2.2.1)
def On{M:Int->(aa (Int×Int))->(aa aF)->Int->(aa aF)->Int->af rU}(hM:afs M){F:aI}(h:ak wR F):ak wR (ajB M F):=dG hM ⟨_,func245,by kernel_rfl,by kernel_rfl⟩ (λ_=>by kernel_rfl) h
def akO(M245:Int->(aa (Int×Int))->(aa aF)->Int->(aa aF)->Int->af rU):aI:=(ajB M245 cw)
def aaf{M245}(h245:afs M245):ak wR (akO M245):=(On h245 aQ)
def af5(M245:Int->(aa (Int×Int))->(aa aF)->Int->(aa aF)->Int->af rU):An:= .no
def ava(M245:Int->(aa (Int×Int))->(aa aF)->Int->(aa aF)->Int->af rU):bx wR (akO M245) 6 300 245 (af5 M245):=aD (l:=[]) func245 (aq (by kernel_rfl)) (by kernel_rfl) aC
def Rn(M245:Int->(aa (Int×Int))->(aa aF)->Int->(aa aF)->Int->af rU)(a0:Int)(aS:aa (Int×Int))(b1_0:aa aF)(b3_0:Int)(b3_1:aa aF)(b3_2:Int):af rU:=
 bif(dA aS a0).isSome then Q (((dA aS a0).getD 0,aS,b1_0,bO.mk b3_0 b3_1 b3_2))else if 0<=i64.wrap (a0-2)/\i64.wrap (a0-2)<yz b1_0 then match M245 b1_0[(i64.wrap (a0-2)).toNat]!.aG aS b1_0 b3_0 b3_1 b3_2 with|J=>J|Q r1=>match M245 b1_0[(i64.wrap (a0-2)).toNat]!.au r1.snd.fst r1.snd.snd.fst r1.snd.snd.snd.ah r1.snd.snd.snd.az r1.snd.snd.snd.bu with|J=>J|Q r2=>if(r2.snd.snd.snd.az++[aF.mk b1_0[(i64.wrap (a0-2)).toNat]!.bz r1.fst r2.fst]).length<=1073741824 then Q (((dA (fQ r2.snd.fst a0 (i64.wrap (i64.wrap (2+(↑(r2.snd.snd.snd.az++[aF.mk b1_0[(i64.wrap (a0-2)).toNat]!.bz r1.fst r2.fst]).length:Int))-1))) a0).getD 0,fQ r2.snd.fst a0 (i64.wrap (i64.wrap (2+(↑(r2.snd.snd.snd.az++[aF.mk b1_0[(i64.wrap (a0-2)).toNat]!.bz r1.fst r2.fst]).length:Int))-1)),r2.snd.snd.fst,bO.mk r2.snd.snd.snd.ah (r2.snd.snd.snd.az++[aF.mk b1_0[(i64.wrap (a0-2)).toNat]!.bz r1.fst r2.fst]) r2.snd.snd.snd.bu))else J else J
def aCt(M245:Int->(aa (Int×Int))->(aa aF)->Int->(aa aF)->Int->af rU)(a0:Int)(aS:aa (Int×Int))(b1_0:aa aF)(b3_0:Int)(b3_1:aa aF)(b3_2:Int):aO wR (akO M245) 300 (af5 M245) 245 (ajs.c (a0,(),(),(),(),())) (aoF.d (((),()),(b1_0,()),(((),(),(),(),()),()),(b3_0,(),b3_2,()),aS,b3_1,())) 6 d245.rd=Rn M245 a0 aS b1_0 b3_0 b3_1 b3_2:=by kernel_rfl
def C2:Nat->(Int->(aa (Int×Int))->(aa aF)->Int->(aa aF)->Int->af rU)
 |0=>(λ_ _ _ _ _ _=>J)
 |n+1=>(Rn (C2 n))
def Wq(n:Nat):Int->(aa (Int×Int))->(aa aF)->Int->(aa aF)->Int->af rU:=(C2 n)
def Jm:∀n,afs (Wq n)
 |0=>λ_ _ h=>(by cases h)
 |n+1=>by
  have ih:=Jm n;have i245:=ih;exact(dN (aaf i245) (ava (Wq n)) (λ_=>by kernel_rfl) (λ_=>by kernel_rfl) (λ_=>by kernel_rfl) λg=>aCt (Wq n) g.1.1 g.2.2.2.2.2.1 g.2.2.1.1 g.2.2.2.2.1.1 g.2.2.2.2.2.2.1 g.2.2.2.2.1.2.2.1)
def Sz:Int->(aa (Int×Int))->(aa aF)->Int->(aa aF)->Int->af rU:=λa0 aS b1_0 b3_0 b3_1 b3_2=>lim (λn=>Wq n a0 aS b1_0 b3_0 b3_1 b3_2)
def acu:afs Sz:=λg b h=>by
 obtain⟨n,hn⟩:=bX (show lim (λn=>Wq n g.1.1 g.2.2.2.2.2.1 g.2.2.1.1 g.2.2.2.2.1.1 g.2.2.2.2.2.2.1 g.2.2.2.2.1.2.2.1)=Q b from h);exact(Jm n) g b hn
def Qg(F:aI):aI:=ajB Sz F
def rj{F:aI}(h:ak wR F):ak wR (Qg F):=On acu h
end Go.Proofs.YtghilkcphindjaaGreat
end
noncomputable section
namespace Go.Iv
open Go
variable [U:tQ] [L:sG]
def Kc{α β ρ w:Type}(step:Nat->β->α->β ⊕ ρ)(out:ρ->w)(fin:β->w):aa α->Nat->β->w
 |[],_,b=>fin b
 |x::xs,i,b=>match step i b x with
  | .inl b'=>Kc step out fin xs (i+1) b'
  | .inr r=>out r
def nG{α β ρ w:Type}{step:Nat->β->α->β ⊕ ρ}{out:ρ->w}{fin:β->w}{x:α}{xs:aa α}{i:Nat}{b b':β}(h:step i b x= .inl b'):Kc step out fin (x::xs) i b=Kc step out fin xs (i+1) b':=by
 simp only[Kc,h]
def lJ{α β ρ w:Type}{step:Nat->β->α->β ⊕ ρ}{out:ρ->w}{fin:β->w}{x:α}{xs:aa α}{i:Nat}{b:β}{r:ρ}(h:step i b x= .inr r):Kc step out fin (x::xs) i b=out r:=by
 simp only[Kc,h]
def M5{γ α β ρ w:Type}[Inhabited α]{rnd:γ->af (af γ)}(l:aa α)(mk:Nat->β->γ)(step:Nat->β->α->β ⊕ ρ)(out:ρ->w)(fin:β->w)(I:Nat->β->Prop)
  (h1:∀i b,i<yz l->I i b->(∀b',step i b l[i]! = .inl b'->rnd (mk i b)=Q (Q (mk (i+1) b'))/\I (i+1) b')/\∀r,step i b l[i]! = .inr r->rnd (mk i b)=Q J)
  (h2:∀b,I (yz l) b->rnd (mk (yz l) b)=Q J) {b:β} (hb:I 0 b):
  ∃i v,b6 rnd (mk 0 b)=Q (mk i v)/\I i v/\((i=yz l/\Kc step out fin l 0 b=fin v)\/(i<yz l/\∃r,step i v l[i]! = .inr r/\Kc step out fin l 0 b=out r)):=by
 have key:∀(xs:aa α) (i:Nat) (b:β),l.drop i=xs->i<=yz l->I i b->∃j v,b6 rnd (mk i b)=Q (mk j v)/\I j v/\((j=yz l/\Kc step out fin xs i b=fin v)\/(j<yz l/\∃r,step j v l[j]! = .inr r/\Kc step out fin xs i b=out r)):=by
  intro xs;induction xs with
  |nil=>
   intro i b hd hi hb;have:i=yz l:=by have:=congrArg yz hd;simp at this;omega
   subst this;exact⟨_,b,cE (λr=>by rw[h2 b hb];simp),hb, .inl ⟨rfl,rfl⟩⟩
  |cons x xs ih=>
   intro i b hd hi hb;have hil:i<yz l:=by have:=congrArg yz hd;simp at this;omega
   have hx:l[i]! =x:=by
    have:=congrArg List.head? hd;rw[List.head?_drop,zm hil]at this;simp_all
   have hd':l.drop (i+1)=xs:=by
    have:=congrArg List.tail hd;rw[List.tail_drop]at this
    assumption
   obtain⟨p1,p2⟩:=h1 i b hil hb;cases hs:step i b x with
   |inl b'=>
    obtain⟨q1,q2⟩:=p1 b' (by rw[hx];exact hs);obtain⟨j,v,e2,e3,e4⟩:=ih (i+1) b' hd' hil q2;rw[nG hs];exact⟨j,v,by rw[cB q1];exact e2,e3,e4⟩
   |inr r=>
    rw[lJ hs];exact⟨i,b,cE (λr'=>by rw[p2 r (by rw[hx];exact hs)];simp),hb, .inr ⟨hil,r,by rw[hx];exact hs,rfl⟩⟩
 exact key l 0 b rfl (yy _) hb
def bD{α:Type}[Inhabited α]{l:aa α}{i:Nat}(h:i<yz l):l[i]!∈l:=by rw[getElem!_pos l i h];exact yJ h
def iF{i n:Nat}(h:i<n)(hn:n<=1000000):IntKind.i64.wrap ((i:Int)+1)=((i+1:Nat):Int):=by rw[aJ (by omega) (by omega)];omega
def AB{γ β:Type}{rnd:γ->af (af γ)}(n:Nat)(mk:Nat->β->γ)(I S:Nat->β->Prop)
  (h1:∀i b,i<n->I i b->(∃b',rnd (mk i b)=Q (Q (mk (i+1) b'))/\I (i+1) b')\/(rnd (mk i b)=Q J/\S i b))
  (h2:∀b,I n b->rnd (mk n b)=Q J) {b:β} (hb:I 0 b):
  ∃i v,b6 rnd (mk 0 b)=Q (mk i v)/\I i v/\(i=n\/(i<n/\S i v)):=by
 have key:∀(k i:Nat) (b:β),i+k=n->I i b->∃j v,b6 rnd (mk i b)=Q (mk j v)/\I j v/\(j=n\/(j<n/\S j v)):=by
  intro k;induction k with
  |zero=>
   intro i b hi hb;have:i=n:=by omega
   subst this;exact⟨_,b,cE (λr=>by rw[h2 b hb];simp),hb, .inl rfl⟩
  |succ k ih=>
   intro i b hi hb;rcases h1 i b (by omega) hb with ⟨b',q1,q2⟩|⟨q1,q2⟩
   ·rw[cB q1];grind
   ·exact⟨i,b,cE (λr=>by rw[q1];simp),hb, .inr ⟨by omega,q2⟩⟩
 simp_all
def dL{γ β:Type}{rnd:γ->af (af γ)}(n:Nat)(mk:Nat->β->γ)(I:Nat->β->Prop)
  (h1:∀i b,i<n->I i b->∃b',rnd (mk i b)=Q (Q (mk (i+1) b'))/\I (i+1) b')
  (h2:∀b,I n b->rnd (mk n b)=Q J) {b:β} (hb:I 0 b):∃v,b6 rnd (mk 0 b)=Q (mk n v)/\I n v:=by
 obtain⟨i,v,e,hi,h⟩:=AB n mk I (λ_ _=>False) (λi b hi hb=> .inl (h1 i b hi hb)) h2 hb;rcases h with rfl|⟨_,h⟩
 ·exact⟨v,e,hi⟩
 ·simp_all
def eE{α:Type}(c:Nat->α->Int):aa α->Nat->Int
 |[],_=>0
 |x::xs,i=>if c i x=0 then eE c xs (i+1)else c i x
def C3{γ α:Type}[Inhabited α]{rnd:γ->af (af γ)}(l:aa α)(mk:Nat->γ)(c:Nat->α->Int)
  (h1:∀i,i<yz l->(c i l[i]! =0->rnd (mk i)=Q (Q (mk (i+1))))/\(c i l[i]!≠0->rnd (mk i)=Q J))
  (h2:rnd (mk (yz l))=Q J):
  ∃i,b6 rnd (mk 0)=Q (mk i)/\((i=yz l/\eE c l 0=0)\/(i<yz l/\c i l[i]!≠0/\eE c l 0=c i l[i]!)):=by
 have key:∀(xs:aa α) (i:Nat),l.drop i=xs->i<=yz l->∃j,b6 rnd (mk i)=Q (mk j)/\((j=yz l/\eE c xs i=0)\/(j<yz l/\c j l[j]!≠0/\eE c xs i=c j l[j]!)):=by
  intro xs;induction xs with
  |nil=>
   intro i hd hi;have:i=yz l:=by have:=congrArg yz hd;simp at this;omega
   subst this;exact⟨_,cE (λr=>by rw[h2];simp), .inl ⟨rfl,rfl⟩⟩
  |cons x xs ih=>
   intro i hd hi;have hil:i<yz l:=by have:=congrArg yz hd;simp at this;omega
   have hx:l[i]! =x:=by
    have:=congrArg List.head? hd;rw[List.head?_drop,zm hil]at this;simp_all
   have hd':l.drop (i+1)=xs:=by
    have:=congrArg List.tail hd;rw[List.tail_drop]at this
    assumption
   obtain⟨p1,p2⟩:=h1 i hil;unfold eE;rw[hx]at p1 p2;by_cases hc:c i x=0
   ·rw[bS hc,cB (p1 hc)];exact ih (i+1) hd' hil
   ·rw[bT hc];exact⟨i,cE (λr=>by rw[p2 hc];simp), .inr ⟨hil,by rw[hx];exact hc,by rw[hx]⟩⟩
 exact key l 0 rfl (yy _)
def mP{γ α:Type}[Inhabited α]{rnd:γ->af (af γ)}(l:aa α)(mk:Nat->γ)(c:Nat->α->Bool)
  (h1:∀i,i<yz l->(c i l[i]! =O->rnd (mk i)=Q (Q (mk (i+1))))/\(c i l[i]! =V->rnd (mk i)=Q J))
  (h2:rnd (mk (yz l))=Q J):
  ∃i,b6 rnd (mk 0)=Q (mk i)/\((i=yz l/\∀j,j<yz l->c j l[j]! =O)\/(i<yz l/\c i l[i]! =V)):=by
 obtain⟨i,v,e,hI,h⟩:=AB (β:=Unit) (rnd:=rnd) (yz l) (λi _=>mk i) (λi _=>∀j,j<i->c j l[j]! =O) (λi _=>c i l[i]! =V) (λi b hi hI=>by
   obtain⟨p1,p2⟩:=h1 i hi;cases hc:c i l[i]! with
   |true=>exact .inl ⟨(),p1 hc,λj hj=>by
     rcases Nat.lt_succ_iff_lt_or_eq.1 hj with h|h
     ·exact hI j h
     ·subst h;exact hc⟩
   |false=>exact .inr ⟨p2 hc,rfl⟩) (λb _=>h2) (b:=()) (λj hj=>gI hj (by omega))
 refine⟨i,e,?_⟩;rcases h with h|h
 ·subst h;exact .inl ⟨rfl,hI⟩
 ·exact .inr h
def wZ{α:Type}[Inhabited α]{l:aa α}{p:α->Bool}(h:∀j,j<yz l->p l[j]! =O):l.all p=O:=by
 rw[zx];intro x hx;obtain⟨i,hi,e⟩:=wh hx;have:=h i hi;simp_all
def qh{α:Type}[Inhabited α]{l:aa α}{p:α->Bool}{i:Nat}(hi:i<yz l)(h:p l[i]! =V):l.all p=V:=by
 cases ha:l.all p with
 |false=>rfl
 |true=>
  rw[zx]at ha;rw[ha _ (bD hi)]at h;omega
def qQ{α:Type}[Inhabited α]{l:aa α}{p:α->Bool}(h:∀j,j<yz l->p l[j]! =V):l.any p=V:=by
 cases ha:l.any p with
 |false=>rfl
 |true=>
  obtain⟨x,hx,e⟩:=List.any_eq_true.1 ha;obtain⟨i,hi,e2⟩:=wh hx;have:=h i hi;rw[getElem!_pos l i hi,e2,e]at this;omega
def E8{α:Type}[Inhabited α]{l:aa α}{p:α->Bool}{i:Nat}(hi:i<yz l)(h:p l[i]! =O):l.any p=O:=
 List.any_eq_true.2 ⟨_,bD hi,h⟩
def bQ{α:Type}[Inhabited α]{l:aa α}{i:Nat}(h:i<yz l):l.take (i+1)=l.take i++[l[i]!]:=by
 rw[getElem!_pos l i h];simp
end Go.Iv
end
noncomputable section
namespace Go.Proofs.YtghilkcphindjaaGreat
open Go Go.Iv BT
def tm0(k:Nat):((2*(k:Int)).tmod 2=0)/\((2*(k:Int)).tdiv 2=(k:Int)):=by
 rw[Int.tmod_eq_emod_of_nonneg (by omega),Int.tdiv_eq_ediv_of_nonneg (by omega)];constructor<;>omega
def tm1(k:Nat):((2*(k:Int)+1).tmod 2=1)/\((2*(k:Int)+1).tdiv 2=(k:Int)):=by
 rw[Int.tmod_eq_emod_of_nonneg (by omega),Int.tdiv_eq_ediv_of_nonneg (by omega)];constructor<;>omega
open Classical in
def Zj(b:Bd)(k:Nat)(r:Int)(S:aa (Int×Bool))(lv nd:aa Int):af (aa (Int×Bool)×aa Int×aa Int):=match Ck k r S lv nd b.L b.N b.mL b.mN b.w with
 |some x=>if x.2.2.2=(b.L,b.N,b.mL,b.mN,b.w)then Q (x.1,x.2.1,x.2.2.1)else J
 |none=>J
def u5{b:Bd}{k:Nat}{r:Int}{S:aa (Int×Bool)}{lv nd:aa Int}{x:aa (Int×Bool)×aa Int×aa Int}:Zj b k r S lv nd=Q x↔Ck k r S lv nd b.L b.N b.mL b.mN b.w=Q (x.1,x.2.1,x.2.2,b.L,b.N,b.mL,b.mN,b.w):=by
 unfold Zj;constructor
 ·intro h;split at h
  ·rename_i y hy;split at h
   ·rename_i hb;cases h;rw[hy];obtain⟨y1,y2,y3,y4⟩:=y;simp only at hb;rw[hb]
   ·cases h
  ·cases h
 ·intro h;rw[h];simp
def get_some{α:Type}[Inhabited α]{l:aa α}{k:Nat}{x:α}(h:l[k]? =Q x):k<yz l/\l[k]! =x:=by
 obtain⟨h1,h2⟩:=zQ.1 h;exact⟨h1,by rw[getElem!_pos l k h1];exact h2⟩
def ZT{b:Bd}(hb:yz b.L+yz b.N<4000000000000000000):OK1 b.g (Zj b) where
 hit:=λk r S lv nd h=>by
  rw[u5];show Ki (Ck k) r S lv nd b.L b.N b.mL b.mN b.w=_;unfold Ki;rw[h];rfl
 leaf:=λk r S lv nd x h hr hl=>by
  rw[u5];show Ki (Ck k) r S lv nd b.L b.N b.mL b.mN b.w=_;obtain⟨i,rfl,hi⟩:=gD.1 hr;obtain⟨h1,h2⟩:=get_some hi;unfold Ki;rw[h,(tm0 i).1,(tm0 i).2,aJ (by omega) (by omega)];simp only[fO,dh,cL];rw[bS (by simp;omega),show 2*(i:Int)/2=i by omega]
 node:=λk r S lv nd v p q S1 lv1 nd1 S2 lv2 nd2 h hr w1 w2 hn=>by
  rw[u5]at w1 w2 ⊢;show Ki (Ck k) r S lv nd b.L b.N b.mL b.mN b.w=_;obtain⟨i,rfl,hi⟩:=iu.1 hr;obtain⟨h1,h2⟩:=get_some hi;unfold Ki;rw[h,(tm1 i).1,(tm1 i).2,aJ (by omega) (by omega)];simp only[cL,zi,h2];rw[show (Z ((1:Int)=0))=V from rfl];simp only[cL];rw[bS (by omega),bS ⟨trivial,h1⟩,w1];simp only;rw[w2];simp only;rw[bS (by simp;omega),show (2*(i:Int)+1)/2=i by omega]
def Zz{b:Bd}{r:Int}{S:aa (Int×Bool)}{lv nd:aa Int}{x:aa (Int×Bool)×aa Int×aa Int}(n:Nat)(h:∀k,n<=k->Zj b k r S lv nd=Q x):adn r S lv nd b.L b.N b.mL b.mN b.w=Q (x.1,x.2.1,x.2.2,b.L,b.N,b.mL,b.mN,b.w):=
 dg n λk hk=>u5.1 (h k hk)
def Zx{b:Bd}(hG:b.g.Inj)(hb:yz b.L+yz b.N<4000000000000000000):∀{t:BT} {r:Int},Den b.g r t->∀{P:aa BT} {S:aa (Int×Bool)},(∀u∈P,t.sz<u.sz)->SO b.g [] P S->yz (bE (bf t []))<=1000000000->yz (iZ (bf t []))<=1000000000->∃S',SO b.g (bf t []) P S'/\∀k,t.sz<=k->vr k r S b.L b.N b.mL b.mN b.w=Q (S',ixs b.g (iZ (bf t [])),ixs b.g (bE (bf t [])),b.L,b.N,b.mL,b.mN,b.w):=by
 have hfalse:∀{t:BT} {r:Int},Den b.g r t->∀{P:aa BT} {S:aa (Int×Bool)},(∀u∈P,t.sz<u.sz)->SO b.g [] P S->(dA S r).getD V=V:=by
  intro t r hd P S hP hS;cases e:(dA S r).getD false with
  |false=>rfl
  |true=>
   rcases (hS r t hd).1 e with h|h
   ·cases h
   ·have:=hP t h;omega
 intro t;induction t with
 |leaf x=>
  intro r hd P S hP hS hn hl;have hf:=hfalse hd hP hS;have hrf:=nt hG hd;have hde:bf (.leaf x) []=[.leaf x]:=rfl;refine⟨fQ S r O,?_,λk hk=> ?_⟩
  ·intro r' u hu;rw[dD];by_cases e:r'=r
   ·subst e;have:=hu.ur hd;subst this;simp[hde]
   ·have hne:u≠ .leaf x:=λe2=>e (by subst e2;exact hu.inj hG hd);rw[bT e,hS r' u hu];simp[hde,hne]
  ·obtain⟨k,rfl⟩:∃j,k=j+1:=⟨k-1,by simp only[sz]at hk;omega⟩;cases hd with
   |leaf hr=>
    show Dj (vr k) r S b.L b.N b.mL b.mN b.w=_;obtain⟨i,rfl,hi⟩:=gD.1 hr;obtain⟨h1,h2⟩:=get_some hi;unfold Dj;rw[hf,(tm0 i).1,(tm0 i).2,aJ (by omega) (by omega),hde];simp only[fO,dh,cL];rw[show iZ [BT.leaf x]=[.leaf x]from rfl,show bE [BT.leaf x]=[]from rfl];simp only[ixs,zO,yU,hrf];rw[show 2*(i:Int)/2=i by omega]
 |node v p0 q0 ia ib=>
  intro r hd P S hP hS hn hl;have hf:=hfalse hd hP hS;have hrf:=nt hG hd;cases hd with
  |@node _ _ p q _ _ hr hp hq=>
   have hd':Den b.g r (.node v p0 q0):= .node hr hp hq;have hnin:BT.node v p0 q0∉bf q0 (bf p0 []):=λhx=>by
    rcases fu hx with hx|hx
    ·rcases fu hx with hx|hx
     ·cases hx
     ·have:=hx.ow;simp only[sz]at this;omega
    ·have:=hx.ow;simp only[sz]at this;omega
   have hde:bf (.node v p0 q0) []=bf q0 (bf p0 [])++[.node v p0 q0]:=by
    conv=>lhs;unfold bf
    rw[bT hnin]
   have hnl:yz (bE (bf (.node v p0 q0) []))=yz (bE (bf q0 (bf p0 [])))+1:=by
    rw[hde,dW,zF];rfl
   have hll:yz (iZ (bf (.node v p0 q0) []))=yz (iZ (bf q0 (bf p0 []))):=by
    rw[hde,qT]
   have hc0:Cl []:=λm v a b k e=>by cases m<;>cases e
   have hc1:=dR p0 hc0;have p1:=EU q0 (bf p0 []);have p2:=TQ q0 (bf p0 []);have hS0:SO b.g [] (.node v p0 q0::P) (fQ S r O):=by
    intro r' u hu;rw[dD];by_cases e:r'=r
    ·subst e;have:=hu.ur hd';subst this;simp
    ·have hne:u≠ .node v p0 q0:=λe2=>e (by subst e2;exact hu.inj hG hd');rw[bT e,hS r' u hu];simp[hne]
   have hPP:∀w:BT,w.sz<=p0.sz+q0.sz->∀u∈BT.node v p0 q0::P,w.sz<u.sz:=λw hw u hu=>by
    rcases zu.1 hu with h|h
    ·rw[h];simp only[sz];omega
    ·have:=hP u h;simp only[sz]at this;omega
   obtain⟨S1,hS1,w1⟩:=ia hp (hPP p0 (by omega)) hS0 (by omega) (by omega);obtain⟨S2,hS2,w2⟩:=apK hG (ZT hb) hq hc1 (hPP q0 (by omega)) hS1 (by omega) (by omega);have w2':=Zz _ w2;refine⟨S2,?_,λk hk=> ?_⟩
   ·intro r' u hu;rw[hS2 r' u hu,hde];simp only[zu,zV,xe,or_false,or_assoc]
   ·obtain⟨k,rfl⟩:∃j,k=j+1:=⟨k-1,by simp only[sz]at hk;omega⟩;simp only[sz]at hk;show Dj (vr k) r S b.L b.N b.mL b.mN b.w=_;obtain⟨i,rfl,hi⟩:=iu.1 hr;obtain⟨h1,h2⟩:=get_some hi;unfold Dj;rw[hf,(tm1 i).1,(tm1 i).2,aJ (by omega) (by omega)];simp only[cL,zi,h2];rw[show (Z ((1:Int)=0))=V from rfl];simp only[cL];rw[bS (by omega),bS ⟨trivial,h1⟩,w1 k (by omega)];simp only;rw[w2'];simp only;rw[bS (by simp only[zF,wN,fV];omega),hde,qT,dW,EB];simp only[ixs,zO,yU,hrf];rw[show (2*(i:Int)+1)/2=i by omega]
structure iS (n:Int) (t:BT) (d:aH):Prop where
 v:d.ah=n
 asc:Asc d.aR
 mem:∀x,x∈d.aR↔BT.leaf x∈bf t []
 nodes:d.az=fT d.aR (bE (bf t []))
 root:d.bu=num d.aR (bE (bf t [])) t
def iS.eq{n:Int}{t:BT}{d d':aH}(h:iS n t d)(h':iS n t d'):d=d':=by
 have e:d.aR=d'.aR:=MX h.asc h'.asc λx=>(h.mem x).trans (h'.mem x).symm;obtain⟨v,L,N,r⟩:=d;obtain⟨v',L',N',r'⟩:=d';have h1:=h.v;have h2:=h.nodes;have h3:=h.root
 have h1':=h'.v;have h2':=h'.nodes;have h3':=h'.root
 simp only at e h1 h2 h3 h1' h2' h3';subst e h1 h1' h2 h2' h3 h3';rfl
def p6{G:Gr}{u:BT}:∀{t:BT} {r:Int},Den G r t->u.Sub t->∃r',Den G r' u
 | .leaf x,r,hd,h=>by rw[h];exact⟨r,hd⟩
 | .node v a b,r,hd,h=>by
  cases hd with
  |node h1 ha hb=>
   rcases h with h|h|h
   ·rw[h];exact⟨r, .node h1 ha hb⟩
   ·exact p6 ha h
   ·exact p6 hb h
def kX:Cl []:=λm v a b k e=>by cases m<;>cases e
def adY{l:aa BT}{u:BT}(h:u∈iZ l):∃x,u= .leaf x/\BT.leaf x∈l:=by
 obtain⟨h1,h2⟩:=DZ.1 h;cases u with
 |leaf x=>exact⟨x,rfl,h1⟩
 |node v a b=>cases h2
def D9{l:aa BT}{u:BT}(h:u∈bE l):∃v a b,u= .node v a b/\BT.node v a b∈l:=by
 obtain⟨h1,h2⟩:=dc.1 h;cases u with
 |leaf x=>cases h2
 |node v a b=>exact⟨v,a,b,rfl,h1⟩
def BU{l:aa BT}(hc:Cl l)(hn:l.Nodup){v:Int}{a b c:BT}(h:BT.node v a b∈l)(hp:c=a\/c=b)(hi:c.Kv=O):c∈bE l/\(bE l).idxOf c<(bE l).idxOf (.node v a b):=by
 obtain⟨m,k,e⟩:=List.append_of_mem h;obtain⟨ha,hb⟩:=hc m v a b k e;have hcm:c∈m:=by rcases hp with rfl|rfl<;>assumption
 have hcn:c∈bE m:=dc.2 ⟨hcm,hi⟩;have hnm:BT.node v a b∉bE m:=λhx=>by
  have h1:=(dc.1 hx).1;rw[e,yx]at hn;exact hn.2.2 _ h1 _ zq rfl
 have he:bE l=bE m++bE (BT.node v a b::k):=by rw[e,sH]
 rw[he];refine⟨zZ _ hcn,?_⟩;rw[xQ,xQ,bS hcn,bT hnm];have:=yt hcn;omega
def o5{α:Type}[DecidableEq α][Inhabited α]{l:aa α}(hn:l.Nodup){i:Nat}(h:i<yz l):l.idxOf l[i]! =i:=by
 have h1:l.idxOf l[i]! <yz l:=by
  rw[getElem!_pos l i h];exact yt (yJ h)
 have h2:l[l.idxOf l[i]!]'h1=l[i]:=by
  have:=List.getElem_idxOf h1;rw[this,getElem!_pos l i h]
 exact(List.getElem_inj hn).1 h2
instance:Inhabited BT:=⟨.leaf 0⟩
def take_succ!{α:Type}[Inhabited α]{l:aa α}{i:Nat}(h:i<yz l):l.take (i+1)=l.take i++[l[i]!]:=by
 rw[List.take_add_one,getElem!_pos l i h,zm h];rfl
def map_get!{α β:Type}[Inhabited α][Inhabited β](f:α->β){l:aa α}{i:Nat}(h:i<yz l):(l.map f)[i]! =f l[i]! :=by
 rw[getElem!_pos (l.map f) i (by simpa using h),getElem!_pos l i h,x9]
structure aCz (b:Bd) (l:List BT) (SL:List Int):Prop where
 len:yz SL=yz (iZ l)
 rng:∀i∈SL,0<=i/\i<(yz b.L:Int)
 nd:SL.Nodup
 asc:Asc (SL.map λi=>b.L[i.toNat]!)
 mem:∀x,x∈(SL.map λi=>b.L[i.toNat]!)↔BT.leaf x∈l
def G3{P:Int->Prop}(hPr:∀x,P x-> -1099511627776<=x/\x<=1099511627776){b:Bd}(hb:BI P b)(hs:yz b.L+yz b.N<=1000000000){t:BT}{r:Int}(hd:Den b.g r t)(hN:yz (bE (bf t []))<=1000000)(hL:yz (iZ (bf t []))<=1000000):∃SL,QD r b.L b.N b.mL b.mN b.w=Q (ixs b.g (bE (bf t [])),SL,b.L,b.N,b.mL,b.mN,b.w)/\aCz b (bf t []) SL:=by
 have hG:=hb.inj;obtain⟨S',hS',w⟩:=Zx hG (by omega) hd (P:=[]) (S:=[]) (λu hu=>by cases hu) (λr u _=>by simp[jo]) (by omega) (by omega);have w':OL r [] b.L b.N b.mL b.mN b.w=Q (S',ixs b.g (iZ (bf t [])),ixs b.g (bE (bf t [])),b.L,b.N,b.mL,b.mN,b.w):=dg _ w;have hlf:∀u∈iZ (bf t []),∃x k,u= .leaf x/\rf b.g u=2*((k:Nat):Int)/\b.L[k]? =Q x:=λu hu=>by
  obtain⟨x,rfl,hx⟩:=adY hu;rcases fu hx with h|h
  ·cases h
  ·obtain⟨r',hr'⟩:=p6 hd h;have h3:=nt hG hr';cases hr' with
   |leaf h4=>
    obtain⟨k,rfl,h5⟩:=gD.1 h4;exact⟨x,k,rfl,h3,h5⟩
 have hnd:(bf t []).Nodup:=mJ t yY;have hlnd:(iZ (bf t [])).Nodup:=hnd.sublist wB;have hixr:∀i∈ixs b.g (iZ (bf t [])),0<=i/\i<(yz b.L:Int):=λi hi=>by
  obtain⟨u,hu,rfl⟩:=zy.1 hi;obtain⟨x,k,rfl,h1,h2⟩:=hlf u hu;have:=(get_some h2).1;rw[h1];omega
 have hLn:b.L.Nodup:=by
  rw[we,List.pairwise_iff_getElem];intro i j hi hj hij e;have h1:=(hb.l b.L[i] i).2 ⟨i,rfl,zm hi⟩;have h2:=(hb.l b.L[i] j).2 ⟨j,rfl,by rw[zm hj,e]⟩;rw[h1]at h2;simp only[zG.injEq]at h2;omega
 have hixn:(ixs b.g (iZ (bf t []))).Nodup:=by
  unfold ixs;rw[we,List.pairwise_map];refine List.Pairwise.imp_of_mem ?_ hlnd;intro u u' hu hu' hne e;obtain⟨x,k,rfl,h1,h2⟩:=hlf u hu;obtain⟨x',k',rfl,h1',h2'⟩:=hlf u' hu';rw[h1,h1']at e;have:k=k':=by omega
  subst this;rw[h2]at h2';cases h2';exact hne rfl
 have hok:Ny (ixs b.g (iZ (bf t []))) b.L=O:=by
  unfold Ny;simp only[zj,decide_eq_true_eq,zx];refine⟨⟨⟨by rw[fV];omega,λx hx=>hixr x hx⟩,λx hx=> ?_⟩,hLn⟩;have:=hPr x (hb.P x hx);omega
 refine⟨kM (ixs b.g (iZ (bf t []))) b.L,?_,?_⟩
 ·unfold QD P4;rw[w'];simp only;rw[bS hok]
 ·have hp:(kM (ixs b.g (iZ (bf t []))) b.L).Perm (ixs b.g (iZ (bf t []))):=List.mergeSort_perm _ _;have hrng:∀i∈kM (ixs b.g (iZ (bf t []))) b.L,0<=i/\i<(yz b.L:Int):=λi hi=>hixr i (hp.mem_iff.1 hi);have hsn:(kM (ixs b.g (iZ (bf t []))) b.L).Nodup:=hp.nodup_iff.2 hixn;have hsr:(kM (ixs b.g (iZ (bf t []))) b.L).Pairwise λx y=>(Z (b.L[x.toNat]!<=b.L[y.toNat]!))=O:=List.pairwise_mergeSort (λa b c h1 h2=>by simp only[decide_eq_true_eq]at*;omega) (λa b=>by simp only[yL,decide_eq_true_eq];omega) _;refine⟨by rw[hp.length_eq,fV],hrng,hsn,?_,λx=> ?_⟩
  ·unfold Asc;rw[List.pairwise_map];refine List.Pairwise.imp_of_mem ?_ (List.pairwise_and_iff.2 ⟨hsr,we.1 hsn⟩);intro i j hi hj ⟨h1,h2⟩;have r1:=hrng i hi;have r2:=hrng j hj;simp only[decide_eq_true_eq]at h1;have:b.L[i.toNat]!≠b.L[j.toNat]! :=λe=>by
    rw[getElem!_pos b.L _ (by omega),getElem!_pos b.L _ (by omega)]at e;have:=(List.getElem_inj hLn).1 e;omega
   omega
  ·constructor
   ·intro hx;obtain⟨i,hi,rfl⟩:=zy.1 hx;obtain⟨u,hu,rfl⟩:=zy.1 (hp.mem_iff.1 hi);obtain⟨x,k,rfl,h1,h2⟩:=hlf u hu;rw[h1,show (2*(k:Int)/2).toNat=k by omega,(get_some h2).2];exact(DZ.1 hu).1
   ·intro hx;have hu:BT.leaf x∈iZ (bf t []):=DZ.2 ⟨hx,rfl⟩;obtain⟨x',k,e,h1,h2⟩:=hlf _ hu;cases e;refine zy.2 ⟨rf b.g (.leaf x)/2,hp.mem_iff.2 (zy.2 ⟨_,hu,rfl⟩),?_⟩;rw[h1,show (2*(k:Int)/2).toNat=k by omega,(get_some h2).2]
def mem_get!{α:Type}[Inhabited α]{l:aa α}{i:Nat}(h:i<yz l):l[i]!∈l:=by
 rw[getElem!_pos l i h];exact yJ h
def nd_get!{α:Type}[Inhabited α]{l:aa α}(hn:l.Nodup){i j:Nat}(hi:i<yz l)(hj:j<yz l)(h:l[i]! =l[j]!):i=j:=by
 rw[getElem!_pos l i hi,getElem!_pos l j hj]at h;exact(List.getElem_inj hn).1 h
def nE{P:Int->Prop}(hPr:∀x,P x->jK x=O/\ -1099511627776<=x/\x<=1099511627776){b:Bd}(hb:BI P b)(hs:yz b.L+yz b.N<=1000000000){t:BT}{r n:Int}(hd:Den b.g r t)(hN:yz (bE (bf t []))<=4096)(hL:yz (iZ (bf t []))<=4096):∃d,Gy n r b.L b.N b.mL b.mN b.w=Q (d,0,b.L,b.N,b.mL,b.mN,b.w)/\iS n t d:=by
 have hG:=hb.inj;have hw:b.w=V:=by
  cases e:b.w with
  |false=>rfl
  |true=>
   obtain⟨x,h1,h2⟩:=hb.w e;rw[(hPr x (hb.P x h1)).1]at h2;cases h2
 obtain⟨SL,ho,hO⟩:=G3 (λx hx=>(hPr x hx).2) hb hs hd (by omega) (by omega);have hcl:Cl (bf t []):=dR t kX;have hnd:(bf t []).Nodup:=mJ t yY;have hNd:(bE (bf t [])).Nodup:=hnd.sublist wB;have hden:∀u∈bf t [],∃r',Den b.g r' u:=λu hu=>by
  rcases fu hu with h|h
  ·cases h
  ·exact p6 hd h
 have hdr:∀u∈bf t [],Den b.g (rf b.g u) u:=λu hu=>by
  obtain⟨r',h⟩:=hden u hu;rw[nt hG h];exact h
 have hrt:rf b.g t=r:=nt hG hd;generalize hacc:bf t []=acc at*;have hta:t∈acc:=by rw[<-hacc];exact bY _ _
 generalize hVL:(SL.map λi=>b.L[i.toNat]!)=VL at*;have hasc:=hO.asc;have hmem:=hO.mem;rw[hVL]at hasc hmem;have hvn:yz VL=yz SL:=by rw[<-hVL,zI]
 have hLv:Lv VL acc:=λx hx=>(hmem x).2 hx;have hsl:=hO.len;have hSr:∀i,i<yz SL->0<=SL[i]!/\SL[i]! <(yz b.L:Int):=λi hi=>hO.rng _ (mem_get! hi);obtain⟨n0,e0,i0⟩:=dL (rnd:=v7) (yz SL) (λi (num:aa (Int×Int))=>⟨r,ixs b.g (bE acc),SL,num,SL,(yz SL:Int),(i:Int),b.L,b.N,b.mL,b.mN,b.w,⟨0,[],[],0⟩,⟨n,VL.take i,[],0⟩⟩) (λi num=>∀j,j<i->dA num (2*SL[j]!)=Q (j:Int)) (λi num hi hI=>by
  obtain⟨h1,h2⟩:=hSr i hi;have i1:(i:Int)<(yz SL:Int):=by omega
  have i2:(0:Int)<=(i:Int):=by omega
  have i3:SL[i]!.toNat<yz b.L:=by omega
  have hw2:IntKind.i64.wrap ((i:Int)+1)=((i+1:Nat):Int):=iF hi (by omega);have hwk:IntKind.i64.wrap (2*SL[i]!)=2*SL[i]! :=aJ (by omega) (by omega);have hv:b.L[SL[i]!.toNat]! =VL[i]! :=by rw[<-hVL,map_get! _ hi]
  have hlen:yz (VL.take i++[VL[i]!])<=1073741824:=by simp;omega
  refine⟨fQ num (2*SL[i]!) (i:Int),?_,λj hj=> ?_⟩
  ·unfold v7;simp only[zi,i1,i2,fO,dh,gd,dU,hi,h1,h2,i3,hw2,hwk,hv,hlen];rw[take_succ! (by omega)]
  ·rw[dD];by_cases e:j=i
   ·subst e;rw[bS rfl]
   ·rw[bT λh=>e (nd_get! hO.nd (by omega) hi (by omega)),hI j (by omega)]) (λnum _=>by unfold v7;simp) (b:=[]) (λj hj=>by omega)
 have e0':Ej ⟨r,ixs b.g (bE acc),SL,[],SL,(yz SL:Int),0,b.L,b.N,b.mL,b.mN,b.w,⟨0,[],[],0⟩,⟨n,[],[],0⟩⟩=Q ⟨r,ixs b.g (bE acc),SL,n0,SL,(yz SL:Int),(yz SL:Int),b.L,b.N,b.mL,b.mN,b.w,⟨0,[],[],0⟩,⟨n,VL,[],0⟩⟩:=by
  have:VL.take SL.length=VL:=yX (by omega);rw[this]at e0;exact e0
 have hleaf:∀x,BT.leaf x∈acc->dA n0 (rf b.g (.leaf x))=Q (num VL (bE acc) (.leaf x)):=λx hx=>by
  have hdx:=hdr _ hx;cases hdx with
  |leaf h=>
   obtain⟨k,e,hk⟩:=gD.1 h;have hxv:x∈VL:=(hmem x).2 hx;have hi:VL.idxOf x<yz VL:=yt hxv;have hvi:VL[VL.idxOf x]! =x:=dz hxv;have hsi:SL[VL.idxOf x]! =(k:Int):=by
    obtain⟨h1,h2⟩:=hSr (VL.idxOf x) (by omega);have h3:b.L[SL[VL.idxOf x]!.toNat]! =x:=by rw[<-map_get! (λi:Int=>b.L[i.toNat]!) (by omega:VL.idxOf x<yz SL),hVL,hvi]
    have h4:b.L[SL[VL.idxOf x]!.toNat]? =Q x:=by
     rw[zm (by omega:SL[VL.idxOf x]!.toNat<yz b.L),<-getElem!_pos b.L _ (by omega),h3]
    have h5:=(hb.l x _).2 ⟨_,rfl,h4⟩;rw[(hb.l x _).2 ⟨_,rfl,hk⟩]at h5;simp only[zG.injEq]at h5;omega
   rw[e,<-hsi,i0 _ (by omega)];rfl
 have hixl:∀i,i<yz (bE acc)->∃v p q k,(bE acc)[i]! = .node v p q/\p∈acc/\q∈acc/\rf b.g (.node v p q)=2*((k:Nat):Int)+1/\b.N[k]? =Q ⟨v,rf b.g p,rf b.g q⟩/\(ixs b.g (bE acc))[i]! =(k:Int):=λi hi=>by
  obtain⟨v,p,q,e,hm⟩:=D9 (mem_get! hi);obtain⟨hp,hq⟩:=hcl.parts hm;have hdx:=hdr _ hm;cases hdx with
  |@node _ _ a c _ _ h ha hc=>
   obtain⟨k,e2,hk⟩:=iu.1 h;refine⟨v,p,q,k,e,hp,hq,e2,by rw[nt hG ha,nt hG hc];exact hk,?_⟩;unfold ixs;rw[map_get! _ hi,e,e2];omega
 obtain⟨n1,e1,i1⟩:=dL (rnd:=vw) (bE acc).length (λi (nu:aa (Int×Int))=>⟨r,SL,nu,ixs b.g (bE acc),(yz (bE acc):Int),(i:Int),b.L,b.N,b.mL,b.mN,b.w,⟨0,[],[],0⟩,⟨n,VL,(fT VL (bE acc)).take i,0⟩⟩) (λi nu=>(∀x,BT.leaf x∈acc->dA nu (rf b.g (.leaf x))=Q (num VL (bE acc) (.leaf x)))/\∀j,j<i->dA nu (rf b.g (bE acc)[j]!)=Q ((yz VL+j:Nat):Int)) (λi nu hi hI=>by
  obtain⟨v,p,q,k,e,hp,hq,hr,hk,hix⟩:=hixl i hi;have hm:BT.node v p q∈acc:=by rw[<-e];exact(dc.1 (mem_get! hi)).1
  obtain⟨hk1,hk2⟩:=get_some hk;have i1:(i:Int)<(yz (bE acc):Int):=by omega
  have i1':(i:Int)<(yz (ixs b.g (bE acc)):Int):=by rw[fV];exact i1
  have i2:(0:Int)<=(i:Int):=by omega
  have i3:i<yz (ixs b.g (bE acc)):=by rw[fV];exact hi
  have i4:(0:Int)<=(k:Int):=by omega
  have i5:(k:Int)<(yz b.N:Int):=by omega
  have hw2:IntKind.i64.wrap ((i:Int)+1)=((i+1:Nat):Int):=iF hi (by omega);have hwk:IntKind.i64.wrap (IntKind.i64.wrap (2*(k:Int))+1)=2*(k:Int)+1:=by
   rw[aJ (n:=2*(k:Int)) (by omega) (by omega)];exact aJ (by omega) (by omega)
  have hws:IntKind.i64.wrap ((yz SL:Int)+(i:Int))=((yz VL+i:Nat):Int):=by
   rw[aJ (by omega) (by omega)];omega
  have hnum:∀c,(c=p\/c=q)->dA nu (rf b.g c)=Q (num VL (bE acc) c):=λc hc=>by
   cases c with
   |leaf x=>
    refine hI.1 x ?_;rcases hc with h|h
    ·rw[h];exact hp
    ·rw[h];exact hq
   |node v' p' q'=>
    obtain⟨h1,h2⟩:=BU hcl hnd hm hc rfl;rw[<-e,o5 hNd hi]at h2;have h3:=hI.2 _ h2;rw[dz h1]at h3;rw[h3];rfl
  have hfi:(fT VL (bE acc))[i]! =⟨v,num VL (bE acc) p,num VL (bE acc) q⟩:=by
   unfold fT;rw[map_get! _ hi,e];rfl
  have hfl:i<yz (fT VL (bE acc)):=by rw[fK];exact hi
  have hlen:yz ((fT VL (bE acc)).take i++[(⟨v,num VL (bE acc) p,num VL (bE acc) q⟩:aF)])<=1073741824:=by simp;omega
  refine⟨fQ nu (2*(k:Int)+1) ((yz VL+i:Nat):Int),?_,λx hx=> ?_,λj hj=> ?_⟩
  ·unfold vw;simp only[zi,i1,i1',i2,fO,dh,gd,dU,i3,hix,i4,i5,hk1,hk2,hw2,hwk,hws,hnum p (.inl rfl),hnum q (.inr rfl),yl,hlen];rw[take_succ! hfl,hfi]
  ·rw[dD,bT,hI.1 x hx];intro h;have hdx:=hdr _ hx;rw[h]at hdx;cases hdx with
   |leaf h=>
    obtain⟨k',e,_⟩:=gD.1 h;omega
  ·rw[dD];by_cases e3:j=i
   ·subst e3;rw[e,hr,bS rfl]
   ·rw[bT,hI.2 j (by omega)];intro h;rw[<-hr,<-e]at h;have h1:=hdr _ (dc.1 (mem_get! (by omega:j<yz (bE acc)))).1;have h2:=hdr _ (dc.1 (mem_get! hi)).1;rw[h]at h1;exact e3 (nd_get! hNd (by omega) hi (h1.ur h2))) (λnu _=>by unfold vw;simp) (b:=n0) ⟨hleaf,λj hj=>by omega⟩
 have e1':Er ⟨r,SL,n0,ixs b.g (bE acc),(yz (ixs b.g (bE acc)):Int),0,b.L,b.N,b.mL,b.mN,b.w,⟨0,[],[],0⟩,⟨n,VL,[],0⟩⟩=Q ⟨r,SL,n1,ixs b.g (bE acc),(yz (bE acc):Int),(yz (bE acc):Int),b.L,b.N,b.mL,b.mN,b.w,⟨0,[],[],0⟩,⟨n,VL,fT VL (bE acc),0⟩⟩:=by
  have:(fT VL (bE acc)).take (bE acc).length=fT VL (bE acc):=yX (by rw[fK];omega);rw[this]at e1;rw[fV];exact e1
 have hroot:dA n1 r=Q (num VL (bE acc) t):=by
  rw[<-hrt];cases t with
  |leaf x=>exact i1.1 x hta
  |node v p q=>
   have hm:BT.node v p q∈bE acc:=dc.2 ⟨hta,rfl⟩;have:=i1.2 _ (yt hm);rw[dz hm]at this;exact this
 refine⟨⟨n,VL,fT VL (bE acc),num VL (bE acc) t⟩,?_,⟨rfl,hasc,by rw[hacc];exact hmem,by rw[hacc],by rw[hacc]⟩⟩;unfold Gy;rw[hw]at ho e0' e1' ⊢;have c1:Z ((4096:Int)<(yz SL:Int))=V:=dw (by omega);have c2:Z ((4096:Int)<(yz (ixs b.g (bE acc)):Int))=V:=dw (by rw[fV];omega);simp only[cL,ho,c1,c2,e0',zJ,jk,e1',hroot,yl]
def D8{L:aa Int}{N:aa aF}{r x:Int}(h:Gm L N r=Q (.inl x)):0<=r/\r<(yz L:Int)/\L[r.toNat]! =x:=by
 unfold Gm at h;split at h
 ·cases h
 split at h
 ·cases h;exact⟨by omega,by omega,rfl⟩
 split at h<;>cases h
def Ea{L:aa Int}{N:aa aF}{r v p q:Int}(h:Gm L N r=Q (.inr (v,p,q))):(yz L:Int)<=r/\r<(yz L:Int)+(yz N:Int)/\N[(r-(yz L:Int)).toNat]! =⟨v,p,q⟩:=by
 unfold Gm at h;split at h
 ·cases h
 split at h
 ·cases h
 split at h
 ·cases h;exact⟨by omega,by omega,rfl⟩
 ·cases h
structure Arg (n:Int) (d:aH):Prop where
 v:d.ah=n
 s:yz d.aR+yz d.az<=1000000000
abbrev aH.g(d:aH):Gr:=Gm d.aR d.az
def gK{n:Int}{d:aH}(hd:Arg n d){r:Int}{u:BT}(h:Den d.g r u):jt d r=Q (u.top n):=by
 have hs:=hd.s;unfold jt;cases h with
 |leaf h=>
  obtain⟨h1,h2,h3⟩:=D8 h;rw[iN h2,hd.v];rfl
 |node h ha hb=>
  obtain⟨h1,h2,h3⟩:=Ea h;rw[dw (by omega),aJ (by omega) (by omega)];simp only[cL];rw[bS (by omega),h3];rfl
def ij{n:Int}{d:aH}(hd:Arg n d){r:Int}{u:BT}(h:Den d.g r u){v:Int}(hv:v<n)(hi:Bool):∃r',oF d r v hi=Q r'/\Den d.g r' (u.pV v hi):=by
 have hs:=hd.s;cases h with
 |leaf h=>
  have ht:jt d r=Q n:=gK hd (.leaf h);unfold oF;rw[ht];refine⟨r,?_, .leaf h⟩;have e:Z (n=v)=V:=dw (by omega);simp only;rw[e];rfl
 |@node _ w p q s t h ha hb=>
  obtain⟨h1,h2,h3⟩:=Ea h;have ht:jt d r=Q w:=gK hd (.node h ha hb);unfold oF;rw[ht];simp only[pV];by_cases e:w=v
  ·rw[iN e,bS e,aJ (by omega) (by omega)];simp only[dh,cL];rw[bS (by omega),h3];cases hi
   ·exact⟨p,rfl,ha⟩
   ·exact⟨q,rfl,hb⟩
  ·rw[dw e,bT e];exact⟨r,rfl, .node h ha hb⟩
def mW{d:aH}{r x:Int}(h:Den d.g r (.leaf x)):0<=r/\r<(yz d.aR:Int)/\d.aR[r.toNat]! =x:=by
 cases h with
 |leaf h=>exact D8 h
abbrev WG:Gr:=Gm [0] []
def n5{r:Int}{u:BT}(h:Den WG r u):r=0/\u= .leaf 0:=by
 cases h with
 |leaf h=>
  obtain⟨h1,h2,h3⟩:=D8 h;have:r=0:=by simp at h2;omega
  subst this;exact⟨rfl,by rw[<-h3];rfl⟩
 |node h=>
  obtain⟨h1,h2,h3⟩:=Ea h;simp at h1 h2;omega
def fm:Den WG 0 (.leaf 0):= .leaf rfl
def mU{x r:Int}{b b':Bd}(h:b.lf x=Q (r,b')):sy x b.L b.N b.mL b.mN b.w=Q (r,b'.L,b'.N,b'.mL,b'.mN,b'.w):=by
 unfold Bd.lf at h;obtain⟨y,h1,h2⟩:=zk.1 h;obtain⟨y1,y2,y3,y4,y5,y6⟩:=y;cases h2;exact h1
def vD{v p q r:Int}{b b':Bd}(h:b.nd v p q=Q (r,b')):Bw v p q b.L b.N b.mL b.mN b.w=Q (r,b'.L,b'.N,b'.mL,b'.mN,b'.w):=by
 unfold Bd.nd at h;obtain⟨y,h1,h2⟩:=zk.1 h;obtain⟨y1,y2,y3,y4,y5,y6⟩:=y;cases h2;exact h1
end Go.Proofs.YtghilkcphindjaaGreat
end
noncomputable section
set_option maxRecDepth 100000
namespace Go.Proofs.YtghilkcphindjaaGreat
open Go Go.Iv
open Go.IntKind (i64 u64)
abbrev kg:=Int×(aa (Int×Int))×(aa aF)×bO
def XC:Td 5 kg:= .c [] [6] (.t (cq.c 3 1 [] 113) (.c [] [6] (.r 5 6 (ec 6 aL en) (sb 0 293 (lc (qo 4) ln) (sb 1 40 (lc (ql 113) ln) (sb 2 241 (lc (qf 245 (lc (qp 0 0) (lc (qp 1 0) (lc (qp 2 0) (lc (qp 3 0) ln))))) ln) (sb 3 42 (aW (lc (qo 5) (aW ln))) (sm 4 .k1 .i (sr 5 113 sn)))))) (λz=>(z.1.1,z.q.2.1,z.t.1.1,(bO.mk z.q.1.1 z.q.t.1 z.q.1.t.1))) (λx=>((x.1,()),(((),()),(x.t.1,()),(((),(),(),(),()),()),(x.t.2.ah,(),x.t.2.bu,()),x.2.1,x.t.2.az,()))))))
def Yd:=(aW (lc (qp 0 0) (lc (qp 1 0) (lc (qp 2 0) (lc (qp 3 0) ln)))))
def Tc:=(sb 0 293 (lc (qo 4) ln) (sb 1 40 (lc (ql 113) ln) (sb 2 241 (lc (qf 245 (lc (qp 0 0) (lc (qp 1 0) (lc (qp 2 0) (lc (qp 3 0) ln))))) ln) (sb 3 42 (aW (lc qn (aW ln))) (sm 4 .k1 .i sn)))))
def Yk(M:Int->(aa (Int×Int))->(aa aF)->Int->Int->af kg):aI->aI:=eY wR 245 5 Yd Tc XC (λg=>M g.1.1 g.2.2.2.2.2.1 g.2.2.1.1 g.2.2.2.2.1.1 g.2.2.2.2.1.2.2.1)
def NO(M:Int->(aa (Int×Int))->(aa aF)->Int->Int->af kg):Prop:=HY wR 245 5 Yd Tc XC (λg=>M g.1.1 g.2.2.2.2.2.1 g.2.2.1.1 g.2.2.2.2.1.1 g.2.2.2.2.1.2.2.1)
def HN{M:Int->(aa (Int×Int))->(aa aF)->Int->Int->af kg}(hM:NO M){F:aI}(h:ak wR F):ak wR (Yk M F):=dG hM ⟨_,func245,by kernel_rfl,by kernel_rfl⟩ (λ_=>by kernel_rfl) h
def Tj(M245n:Int->(aa (Int×Int))->(aa aF)->Int->Int->af kg):aI:=(Yk M245n (Qg cw))
def XF{M245n}(h245n:NO M245n):ak wR (Tj M245n):=(HN h245n (rj aQ))
def UD(M245n:Int->(aa (Int×Int))->(aa aF)->Int->Int->af kg):An:= .no
def am9(M245n:Int->(aa (Int×Int))->(aa aF)->Int->Int->af kg):bx wR (Tj M245n) 5 300 245 (UD M245n):=aD (l:=[]) func245 (aq (by kernel_rfl)) (by kernel_rfl) aC
def DD(M245n:Int->(aa (Int×Int))->(aa aF)->Int->Int->af kg)(a0:Int)(aS:aa (Int×Int))(b1_0:aa aF)(b3_0:Int)(b3_2:Int):af kg:=
 bif(dA aS a0).isSome then Q (((dA aS a0).getD 0,aS,b1_0,bO.mk b3_0 [] b3_2))else if 0<=i64.wrap (a0-2)/\i64.wrap (a0-2)<yz b1_0 then match M245n b1_0[(i64.wrap (a0-2)).toNat]!.aG aS b1_0 b3_0 b3_2 with|J=>J|Q r1=>match Sz b1_0[(i64.wrap (a0-2)).toNat]!.au r1.snd.fst r1.snd.snd.fst r1.snd.snd.snd.ah r1.snd.snd.snd.az r1.snd.snd.snd.bu with|J=>J|Q r2=>if(r2.snd.snd.snd.az++[aF.mk b1_0[(i64.wrap (a0-2)).toNat]!.bz r1.fst r2.fst]).length<=1073741824 then Q (((dA (fQ r2.snd.fst a0 (i64.wrap (i64.wrap (2+(↑(r2.snd.snd.snd.az++[aF.mk b1_0[(i64.wrap (a0-2)).toNat]!.bz r1.fst r2.fst]).length:Int))-1))) a0).getD 0,fQ r2.snd.fst a0 (i64.wrap (i64.wrap (2+(↑(r2.snd.snd.snd.az++[aF.mk b1_0[(i64.wrap (a0-2)).toNat]!.bz r1.fst r2.fst]).length:Int))-1)),r2.snd.snd.fst,bO.mk r2.snd.snd.snd.ah (r2.snd.snd.snd.az++[aF.mk b1_0[(i64.wrap (a0-2)).toNat]!.bz r1.fst r2.fst]) r2.snd.snd.snd.bu))else J else J
def ax1(M245n:Int->(aa (Int×Int))->(aa aF)->Int->Int->af kg)(a0:Int)(aS:aa (Int×Int))(b1_0:aa aF)(b3_0:Int)(b3_2:Int):aO wR (Tj M245n) 300 (UD M245n) 245 (Yd.c (a0,(),(),(),(),())) (Tc.d (((),()),(b1_0,()),(((),(),(),(),()),()),(b3_0,(),b3_2,()),aS,())) 5 XC.rd=DD M245n a0 aS b1_0 b3_0 b3_2:=by kernel_rfl
def sq:Nat->(Int->(aa (Int×Int))->(aa aF)->Int->Int->af kg)
 |0=>(λ_ _ _ _ _=>J)
 |n+1=>(DD (sq n))
def Jt(n:Nat):Int->(aa (Int×Int))->(aa aF)->Int->Int->af kg:=(sq n)
def Dh:∀n,NO (Jt n)
 |0=>λ_ _ h=>(by cases h)
 |n+1=>by
  have ih:=Dh n;have i245n:=ih;exact(dN (XF i245n) (am9 (Jt n)) (λ_=>by kernel_rfl) (λ_=>by kernel_rfl) (λ_=>by kernel_rfl) λg=>ax1 (Jt n) g.1.1 g.2.2.2.2.2.1 g.2.2.1.1 g.2.2.2.2.1.1 g.2.2.2.2.1.2.2.1)
def MF:Int->(aa (Int×Int))->(aa aF)->Int->Int->af kg:=λa0 aS b1_0 b3_0 b3_2=>lim (λn=>Jt n a0 aS b1_0 b3_0 b3_2)
def TN:NO MF:=λg b h=>by
 obtain⟨n,hn⟩:=bX (show lim (λn=>Jt n g.1.1 g.2.2.2.2.2.1 g.2.2.1.1 g.2.2.2.2.1.1 g.2.2.2.2.1.2.2.1)=Q b from h);exact(Dh n) g b hn
def Jh(F:aI):aI:=Yk MF F
def qx{F:aI}(h:ak wR F):ak wR (Jh F):=HN TN h
def amv:aI:=(Jh (Qg cw))
def abH:ak wR amv:=(qx (rj aQ))
abbrev auL:=bO
def d186:Td 0 auL:= .c [] [6] (.r 0 1 (ec 6 (qp 0 0) en) (sb 0 42 (lg 42) sn) (λz=>z.2.1) (λx=>(((),()),(x,()))))
def awI:=(aW (lc (ql 113) (aW ln)))
def ags:An:= .no
def asx:bx wR (amv) 0 300 186 (ags):=aD (l:=[]) func186 (aq (by kernel_rfl)) (by kernel_rfl) aC
def QC(a0:Int)(a1:aa aF)(a2:Int):af auL:=
 match MF a2 [(0,0),(1,1)] a1 a0 (0)with|J=>J|Q r1=>Q (bO.mk r1.snd.snd.snd.ah r1.snd.snd.snd.az r1.fst)
def aBN(a0:Int)(a1:aa aF)(a2:Int):aO wR (amv) 300 (ags) 186 (awI.c (a0,a1,a2,())) [] 0 d186.rd=QC a0 a1 a2:=by kernel_rfl
def aae:aI->aI:=eZ wR 186 awI d186 (λg=>QC g.1 g.2.1 g.t.1)
def N6{F:aI}(h:ak wR F):ak wR (aae F):=gh (bq abH asx (λ_=>by kernel_rfl) (λ_=>by kernel_rfl) λg=>aBN g.1 g.2.1 g.t.1) ⟨_,func186,by kernel_rfl,by kernel_rfl⟩ (λ_=>by kernel_rfl) h
def Qp{F:aI}{f:Nat}(hne:zh f 186=V)(h:aZ F f):aZ (aae F) f:=qP hne h
def anK:aI:=cw
def aeI:ak wR anK:=aQ
abbrev auK:=Int
def d214:Td 0 auK:= .c [] [4] (.r 0 0 (ec 4 aL en) sn (λz=>z.1.1) (λx=>((x,()),(()))))
def asb:=(lc (qg 42) (aW ln))
def ahH:An:= .no
def ato:bx wR (anK) 0 300 214 (ahH):=aD (l:=[]) func214 (aq (by kernel_rfl)) (by kernel_rfl) aC
def lE(a0:bO)(a1:Int):af auK:=
 bif Z (a1<2)then Q (a0.ah)else if 0<=i64.wrap (a1-2)/\i64.wrap (a1-2)<yz a0.az then Q (a0.az[(i64.wrap (a1-2)).toNat]!.bz)else J
def aBM(a0:bO)(a1:Int):aO wR (anK) 300 (ahH) 214 (asb.c (a0,a1,())) [] 0 d214.rd=lE a0 a1:=by kernel_rfl
def RY:=eL wR 214 V asb d214 (λg=>lE g.1 g.2.1)
def va{F:aI}(h:ak wR F):ak wR (RY F):=bA (sc:=dM) aX (bq aeI ato (λ_=>by kernel_rfl) (λ_=>by kernel_rfl) λg=>aBM g.1 g.2.1) ⟨_,func214,by kernel_rfl,by kernel_rfl⟩ (λ_=>by kernel_rfl) (λ_=>by kernel_rfl) h
def Tt:aI:=(RY cw)
def aa5:ak wR Tt:=(va aQ)
structure oG where
 t3:List ((Int×Int×Int)×Bool)
 t13:List aF
 (t14 t15:Int)
 b0:bO
def B8:Td 0 oG:= .c [] [1,3,13,14,15] (.r 0 2 (ec 1 (qp 0 0) (ec 3 (qo 1) (ec 13 (ql 113) (ec 14 aL (ec 15 aL en))))) (sb 0 42 (lg 42) (sm 1 .k3 .b sn)) (λz=>⟨z.t.1,z.1.t.1,z.1.t.2.1,z.1.q.1,z.2.1⟩) (λx=>(((),(),x.t13,x.t14,x.t15,()),(x.b0,x.t3,()))))
def A6(p:oG):af (af oG):=
 bif Z (p.t15<p.t14)then if 0<=p.t15/\p.t15<yz p.t13 then bif Z (p.t13[zB p.t15]!.bz<0)then Q (J)else bif Z (p.b0.ah<=p.t13[zB p.t15]!.bz)then Q (J)else bif Z (p.t13[zB p.t15]!.aG=p.t13[zB p.t15]!.au)then Q (J)else bif(dA p.t3 (p.t13[zB p.t15]!.bz,p.t13[zB p.t15]!.aG,p.t13[zB p.t15]!.au)).getD V then Q (J)else bif Z (p.t13[zB p.t15]!.aG<0)then Q (J)else bif Z (i64.wrap (1+p.t15)<p.t13[zB p.t15]!.aG)then Q (J)else match lE p.b0 p.t13[zB p.t15]!.aG with|J=>J|Q r1=>bif Z (r1<=p.t13[zB p.t15]!.bz)then Q (J)else bif Z (p.t13[zB p.t15]!.au<0)then Q (J)else bif Z (i64.wrap (1+p.t15)<p.t13[zB p.t15]!.au)then Q (J)else match lE p.b0 p.t13[zB p.t15]!.au with|J=>J|Q r2=>bif Z (r2<=p.t13[zB p.t15]!.bz)then Q (J)else Q (Q (oG.mk (fQ p.t3 (p.t13[zB p.t15]!.bz,p.t13[zB p.t15]!.aG,p.t13[zB p.t15]!.au) O) p.t13 p.t14 (i64.wrap (p.t15+1)) p.b0))else J else Q (J)
def ana(p:oG):bK wR (Tt) f213.ntmps 300 (aN f213 0) .no (af oG) (B8.pat p) (fR B8.rd)=A6 p:=by kernel_rfl
def FC:=b6 (A6)
abbrev art:=Bool
def d213:Td 0 art:= .c [] [2] (.r 0 0 (ec 2 qb en) sn (λz=>z.1.1) (λx=>((x,()),(()))))
def aqN:=(lc (qg 42) ln)
def aiM:An:=(noTwo (noTwo (.two (noTwo (B8.lp FC .no)) (.two (.rb [] 2) .no))))
def avI:∀f∈([]:aa Nat),aZ (Tt) f:=aC
def axi:bx wR (Tt) 0 300 213 (aiM):=aD (l:=[(aN f213 0,(B8.lp FC .no)),(.skip,(.rb [] 2))]) func213 (aq (by kernel_rfl)) (by kernel_rfl) (aA ⟨B8.ok _,bt (ana)⟩ (aA avI aC))
def Wd(a0:bO):af art:=
 match FC (oG.mk [] a0.az (yz a0.az) 0 a0)with|J=>J|Q r3=>bif Z (r3.t15<r3.t14)then if 0<=r3.t15/\r3.t15<yz r3.t13 then bif Z (r3.t13[zB r3.t15]!.bz<0)then Q V else bif Z (r3.b0.ah<=r3.t13[zB r3.t15]!.bz)then Q V else bif Z (r3.t13[zB r3.t15]!.aG=r3.t13[zB r3.t15]!.au)then Q V else bif(dA r3.t3 (r3.t13[zB r3.t15]!.bz,r3.t13[zB r3.t15]!.aG,r3.t13[zB r3.t15]!.au)).getD V then Q V else bif Z (r3.t13[zB r3.t15]!.aG<0)then Q V else bif Z (i64.wrap (1+r3.t15)<r3.t13[zB r3.t15]!.aG)then Q V else match lE r3.b0 r3.t13[zB r3.t15]!.aG with|J=>J|Q r4=>bif Z (r4<=r3.t13[zB r3.t15]!.bz)then Q V else bif Z (r3.t13[zB r3.t15]!.au<0)then Q V else bif Z (i64.wrap (1+r3.t15)<r3.t13[zB r3.t15]!.au)then Q V else match lE r3.b0 r3.t13[zB r3.t15]!.au with|J=>J|Q r5=>bif Z (r5<=r3.t13[zB r3.t15]!.bz)then Q V else J else J else match bif Z (0<=r3.b0.bu)then Q (Z (r3.b0.bu<=i64.wrap (1+(yz r3.b0.az:Int))))else Q V with|J=>J|Q r6=>Q (r6)
def aCR(a0:bO):aO wR (Tt) 300 (aiM) 213 (aqN.c (a0,())) [] 0 d213.rd=Wd a0:=by kernel_rfl
def ann:=eL wR 213 V aqN d213 (λg=>Wd g.1)
def afO{F:aI}(h:ak wR F):ak wR (ann F):=bA (sc:=dM) aX (bq aa5 axi (λ_=>by kernel_rfl) (λ_=>by kernel_rfl) λg=>aCR g.1) ⟨_,func213,by kernel_rfl,by kernel_rfl⟩ (λ_=>by kernel_rfl) (λ_=>by kernel_rfl) h
def P3{F:aI}{f:Nat}(h:aZ F f):aZ (ann F) f:=cg h (λ_=>by kernel_rfl)
def aaW:aI:=(ann (aae (e59 cw)))
def aco:ak wR aaW:=(afO (N6 (Ll aQ)))
abbrev awq:=Int
def d151:Td 0 awq:= .c [] [2] (.r 0 0 (ec 2 aL en) sn (λz=>z.1.1) (λx=>((x,()),(()))))
def avg:=(lc (qg 42) ln)
def ai2:An:=(noTwo (.two (.two (.rb [59] 11) .no) (noTwo (noTwo (noTwo (.two (.two (.rb [59] 38) .no) .no))))))
def ahq:∀f∈([59]:aa Nat),aZ (aaW) f:=(aA (P3 (Qp (f:=59) rfl (nc cS))) aC)
def axv:bx wR (aaW) 0 300 151 (ai2):=aD (l:=[(.skip,(.rb [59] 11)),(.skip,(.rb [59] 38))]) func151 (aq (by kernel_rfl)) (by kernel_rfl) (aA ahq (aA ahq aC))
def HJ(a0:bO):af awq:=
 match bif Z (a0.ah<0)then Q O else Q (Z (40<a0.ah))with|J=>J|Q r1=>bif r1 then Q 3 else bif Z (4096<(yz a0.az:Int))then Q 4 else match Wd a0 with|J=>J|Q r2=>bif bif r2 then V else O then Q 1 else match QC a0.ah a0.az a0.bu with|J=>J|Q r3=>match bif bif Z (r3.bu=a0.bu)then V else O then Q O else match m59 r3.az a0.az with|J=>J|Q r4=>Q (bif r4 then V else O)with|J=>J|Q r5=>bif r5 then Q 1 else Q 0
def aBd(a0:bO):aO wR (aaW) 300 (ai2) 151 (avg.c (a0,())) [] 0 d151.rd=HJ a0:=by kernel_rfl
def YR:=eL wR 151 V avg d151 (λg=>HJ g.1)
def Oi{F:aI}(h:ak wR F):ak wR (YR F):=bA (sc:=dM) aX (bq aco axv (λ_=>by kernel_rfl) (λ_=>by kernel_rfl) λg=>aBd g.1) ⟨_,func151,by kernel_rfl,by kernel_rfl⟩ (λ_=>by kernel_rfl) (λ_=>by kernel_rfl) h
def Qs{F:aI}{f:Nat}(h:aZ F f):aZ (YR F) f:=cg h (λ_=>by kernel_rfl)
def anf:aI:=cw
def adB:ak wR anf:=aQ
abbrev akD:=Int×Int×Int
def d202:Td 2 akD:= .c [] [4] (.r 2 2 (ec 4 aL en) (sb 0 3 (aW ln) (sb 1 3 (aW ln) sn)) (λz=>(z.1.1,z.2.1.1,z.t.1.1)) (λx=>((x.1,()),((x.2.1,()),(x.t,()),()))))
def at6:=(lc (qa (aW (aW (aW ln)))) (lc (qp 0 0) (lc (qp 1 0) ln)))
def au6:=(sb 0 3 (aW ln) (sb 1 3 (aW ln) sn))
def ai4:An:= .no
def axN:bx wR (anf) 2 300 202 (ai4):=aD (l:=[]) func202 (aq (by kernel_rfl)) (by kernel_rfl) aC
def KM(a0_0:Int)(a0_1:Int)(a0_2:Int)(aS:Int)(b1_0:Int):akD:=
 bif Z (a0_0=1)then(aS,aS,b1_0)else(b1_0,aS,b1_0)
def aAv(a0_0:Int)(a0_1:Int)(a0_2:Int)(aS:Int)(b1_0:Int):aO wR (anf) 300 (ai4) 202 (at6.c ((a0_0,a0_1,a0_2,()),(),(),())) (au6.d ((aS,()),(b1_0,()),())) 2 d202.rd=Q (KM a0_0 a0_1 a0_2 aS b1_0):=by
 refine Eq.trans (b:=(
  bif Z (a0_0=1)then Q ((aS,aS,b1_0))else Q ((b1_0,aS,b1_0)):af akD)) (by kernel_rfl) ?_
 simp only[KM,bV,cv]
def alo:aI->aI:=eY wR 202 2 at6 au6 d202 (λg=>Q (KM g.1.1.1 g.1.1.2.1 g.1.1.t.1 g.2.1.1 g.t.1.1))
def uR{F:aI}(h:ak wR F):ak wR (alo F):=dG (dN adB axN (λ_=>by kernel_rfl) (λ_=>by kernel_rfl) (λ_=>by kernel_rfl) λg=>aAv g.1.1.1 g.1.1.2.1 g.1.1.t.1 g.2.1.1 g.t.1.1) ⟨_,func202,by kernel_rfl,by kernel_rfl⟩ (λ_=>by kernel_rfl) h
abbrev kA:=Int×(aa ((Int×Int×Int)×Int))×aH×(aa Int)×(aa aF)×(aa (Int×Int))×(aa ((Int×Int×Int)×Int))×Bool×Int×Int
def T3:Td 13 kA:= .c [9,10] [7] (.r 13 15 (ec 7 aL en) (sb 0 327 (lc (qo 5) ln) (sb 1 136 (lc (qk 80 1) ln) (sb 2 239 (lc (qp 6 0) ln) (sb 3 226 (lc (qf 202 (lc (qp 7 0) (lc (qp 8 0) ln))) ln) (sb 4 226 (lc (qf 263 (lc (qp 0 0) (lc (qp 1 0) (lc (qp 2 0) (lc (qp 3 0) (lc (qp 4 0) ln)))))) ln) (sm 5 .k3 .i (sb 6 296 (lc (qo 13) (lc (qo 14) (lc (qo 11) (lc (qo 12) (lc qb ln))))) (sb 7 3 (aW ln) (sb 8 3 (aW ln) (sm 11 .k1 .i (sm 12 .k3 .i (sr 13 3 (sr 14 113 sn))))))))))))) (λz=>(z.1.1,z.q.t.1,z.t.1.1.1,z.q.q.q.1,z.q.q.q.2.1,z.q.q.t.1,z.q.q.t.2.1,z.q.t.2.1.q.1,z.q.q.1.1,z.q.q.2.1.1)) (λx=>((x.1,()),(((),()),((x.t.1,()),()),((),()),(((),(),()),()),(((),(),(),(),(),()),()),x.2.1,((),(),(),(),x.q.t.2.1,()),(x.q.q.1,()),(x.q.q.2,()),x.q.2.1,x.q.t.1,x.t.2.1,x.q.1,()))))
def Sv:=(lc (qa (aW (aW (aW ln)))) (lc (qp 0 0) (lc (qp 1 0) (lc (qp 2 0) (lc (qp 3 0) (lc (qp 4 0) ln))))))
def Uz:=(sb 0 327 (lc (qo 5) ln) (sb 1 136 (lc (qk 80 1) ln) (sb 2 239 (lc (qp 6 0) ln) (sb 3 226 (lc (qf 202 (lc (qp 7 0) (lc (qp 8 0) ln))) ln) (sb 4 226 (lc (qf 263 (lc (qp 0 0) (lc (qp 1 0) (lc (qp 2 0) (lc (qp 3 0) (lc (qp 4 0) ln)))))) ln) (sm 5 .k3 .i (sb 6 296 (lc (qo 9) (lc (qo 10) (lc (qo 11) (lc (qo 12) (lc qb ln))))) (sb 7 3 (aW ln) (sb 8 3 (aW ln) (sr 9 3 (sr 10 113 (sm 11 .k1 .i (sm 12 .k3 .i sn)))))))))))))
def Xp(M:Int->Int->Int->(aa ((Int×Int×Int)×Int))->aH->(aa Int)->(aa aF)->(aa (Int×Int))->(aa ((Int×Int×Int)×Int))->Bool->Int->Int->af kA):aI->aI:=eY wR 263 13 Sv Uz T3 (λg=>M g.1.1.1 g.1.1.2.1 g.1.1.2.2.1 g.2.2.2.2.2.2.1 g.2.2.1.1.1 g.2.2.2.2.2.2.2.2.2.2.1 g.2.2.2.2.2.2.2.2.2.2.2.1 g.2.2.2.2.2.2.2.2.2.2.2.2.1 g.2.2.2.2.2.2.2.2.2.2.2.2.2.1 g.2.2.2.2.2.2.2.1.2.2.2.2.1 g.2.2.2.2.2.2.2.2.1.1 g.2.2.2.2.2.2.2.2.2.1.1)
def PD(M:Int->Int->Int->(aa ((Int×Int×Int)×Int))->aH->(aa Int)->(aa aF)->(aa (Int×Int))->(aa ((Int×Int×Int)×Int))->Bool->Int->Int->af kA):Prop:=HY wR 263 13 Sv Uz T3 (λg=>M g.1.1.1 g.1.1.2.1 g.1.1.2.2.1 g.2.2.2.2.2.2.1 g.2.2.1.1.1 g.2.2.2.2.2.2.2.2.2.2.1 g.2.2.2.2.2.2.2.2.2.2.2.1 g.2.2.2.2.2.2.2.2.2.2.2.2.1 g.2.2.2.2.2.2.2.2.2.2.2.2.2.1 g.2.2.2.2.2.2.2.1.2.2.2.2.1 g.2.2.2.2.2.2.2.2.1.1 g.2.2.2.2.2.2.2.2.2.1.1)
def I5{M:Int->Int->Int->(aa ((Int×Int×Int)×Int))->aH->(aa Int)->(aa aF)->(aa (Int×Int))->(aa ((Int×Int×Int)×Int))->Bool->Int->Int->af kA}(hM:PD M){F:aI}(h:ak wR F):ak wR (Xp M F):=dG hM ⟨_,func263,by kernel_rfl,by kernel_rfl⟩ (λ_=>by kernel_rfl) h
def VA(M263O:Int->Int->Int->(aa ((Int×Int×Int)×Int))->aH->(aa Int)->(aa aF)->(aa (Int×Int))->(aa ((Int×Int×Int)×Int))->Bool->Int->Int->af kA):aI:=(Xp M263O (uc (VS (GW (alo (Rw (L6 cw)))))))
def Tu{M263O}(h263O:PD M263O):ak wR (VA M263O):=(I5 h263O (dZ (ve (nX (uR (ru (nH aQ)))))))
def Ym(M263O:Int->Int->Int->(aa ((Int×Int×Int)×Int))->aH->(aa Int)->(aa aF)->(aa (Int×Int))->(aa ((Int×Int×Int)×Int))->Bool->Int->Int->af kA):An:= .no
def amV(M263O:Int->Int->Int->(aa ((Int×Int×Int)×Int))->aH->(aa Int)->(aa aF)->(aa (Int×Int))->(aa ((Int×Int×Int)×Int))->Bool->Int->Int->af kA):bx wR (VA M263O) 13 300 263 (Ym M263O):=aD (l:=[]) func263 (aq (by kernel_rfl)) (by kernel_rfl) aC
def um(M263O:Int->Int->Int->(aa ((Int×Int×Int)×Int))->aH->(aa Int)->(aa aF)->(aa (Int×Int))->(aa ((Int×Int×Int)×Int))->Bool->Int->Int->af kA)(a0_0:Int)(a0_1:Int)(a0_2:Int)(aS:aa ((Int×Int×Int)×Int))(b1_0_0:aH)(b6_0:aa Int)(b6_1:aa aF)(b6_2:aa (Int×Int))(b6_3:aa ((Int×Int×Int)×Int))(b6_4:Bool)(b7_0:Int)(b8_0:Int):af kA:=
 bif(dA aS (a0_0,a0_1,a0_2)).isSome then Q (((dA aS (a0_0,a0_1,a0_2)).getD 0,aS,b1_0_0,b6_0,b6_1,b6_2,b6_3,b6_4,b7_0,b8_0))else match jt [b1_0_0][0]! a0_0 with|J=>J|Q r1=>bif Z ((if r1<[b1_0_0][0]!.ah then r1 else[b1_0_0][0]!.ah)=[b1_0_0][0]!.ah)then if 0<=a0_0/\a0_0<(↑[b1_0_0][0]!.aR.length:Int)then match sy (KM [b1_0_0][0]!.aR[a0_0.toNat]! (0) 0 b7_0 b8_0).fst b6_0 b6_1 b6_2 b6_3 b6_4 with|J=>J|Q r2=>Q ((r2.fst,fQ aS (a0_0,a0_1,a0_2) r2.fst,b1_0_0,r2.snd.fst,r2.snd.snd.fst,r2.snd.snd.snd.fst,r2.snd.snd.snd.snd.fst,r2.snd.snd.snd.snd.snd,(KM [b1_0_0][0]!.aR[a0_0.toNat]! (0) 0 b7_0 b8_0).snd))else J else match oF [b1_0_0][0]! a0_0 (if r1<[b1_0_0][0]!.ah then r1 else[b1_0_0][0]!.ah) V with|J=>J|Q r3=>match oF [b1_0_0][0]! a0_0 (if r1<[b1_0_0][0]!.ah then r1 else[b1_0_0][0]!.ah) O with|J=>J|Q r4=>match M263O r3 0 0 aS b1_0_0 b6_0 b6_1 b6_2 b6_3 b6_4 b7_0 b8_0 with|J=>J|Q r5=>match M263O r4 0 0 r5.snd.fst r5.snd.snd.fst r5.snd.snd.snd.fst r5.snd.snd.snd.snd.fst r5.snd.snd.snd.snd.snd.fst r5.snd.snd.snd.snd.snd.snd.fst r5.snd.snd.snd.snd.snd.snd.snd.fst r5.snd.snd.snd.snd.snd.snd.snd.snd.fst r5.snd.snd.snd.snd.snd.snd.snd.snd.snd with|J=>J|Q r6=>match Bw (if r1<[b1_0_0][0]!.ah then r1 else[b1_0_0][0]!.ah) r5.fst r6.fst r6.snd.snd.snd.fst r6.snd.snd.snd.snd.fst r6.snd.snd.snd.snd.snd.fst r6.snd.snd.snd.snd.snd.snd.fst r6.snd.snd.snd.snd.snd.snd.snd.fst with|J=>J|Q r7=>Q ((r7.fst,fQ r6.snd.fst (a0_0,a0_1,a0_2) r7.fst,r6.snd.snd.fst,r7.snd.fst,r7.snd.snd.fst,r7.snd.snd.snd.fst,r7.snd.snd.snd.snd.fst,r7.snd.snd.snd.snd.snd,r6.snd.snd.snd.snd.snd.snd.snd.snd))
def aro(M263O:Int->Int->Int->(aa ((Int×Int×Int)×Int))->aH->(aa Int)->(aa aF)->(aa (Int×Int))->(aa ((Int×Int×Int)×Int))->Bool->Int->Int->af kA)(a0_0:Int)(a0_1:Int)(a0_2:Int)(aS:aa ((Int×Int×Int)×Int))(b1_0_0:aH)(b6_0:aa Int)(b6_1:aa aF)(b6_2:aa (Int×Int))(b6_3:aa ((Int×Int×Int)×Int))(b6_4:Bool)(b7_0:Int)(b8_0:Int):aO wR (VA M263O) 300 (Ym M263O) 263 (Sv.c ((a0_0,a0_1,a0_2,()),(),(),(),(),(),())) (Uz.d (((),()),((b1_0_0,()),()),((),()),(((),(),()),()),(((),(),(),(),(),()),()),aS,((),(),(),(),b6_4,()),(b7_0,()),(b8_0,()),b6_0,b6_1,b6_2,b6_3,())) 13 T3.rd=um M263O a0_0 a0_1 a0_2 aS b1_0_0 b6_0 b6_1 b6_2 b6_3 b6_4 b7_0 b8_0:=by kernel_rfl
def o6:Nat->(Int->Int->Int->(aa ((Int×Int×Int)×Int))->aH->(aa Int)->(aa aF)->(aa (Int×Int))->(aa ((Int×Int×Int)×Int))->Bool->Int->Int->af kA)
 |0=>(λ_ _ _ _ _ _ _ _ _ _ _ _=>J)
 |n+1=>(um (o6 n))
def Kl(n:Nat):Int->Int->Int->(aa ((Int×Int×Int)×Int))->aH->(aa Int)->(aa aF)->(aa (Int×Int))->(aa ((Int×Int×Int)×Int))->Bool->Int->Int->af kA:=(o6 n)
def Dk:∀n,PD (Kl n)
 |0=>λ_ _ h=>(by cases h)
 |n+1=>by
  have ih:=Dk n;have i263O:=ih;exact(dN (Tu i263O) (amV (Kl n)) (λ_=>by kernel_rfl) (λ_=>by kernel_rfl) (λ_=>by kernel_rfl) λg=>aro (Kl n) g.1.1.1 g.1.1.2.1 g.1.1.2.2.1 g.2.2.2.2.2.2.1 g.2.2.1.1.1 g.2.2.2.2.2.2.2.2.2.2.1 g.2.2.2.2.2.2.2.2.2.2.2.1 g.2.2.2.2.2.2.2.2.2.2.2.2.1 g.2.2.2.2.2.2.2.2.2.2.2.2.2.1 g.2.2.2.2.2.2.2.1.2.2.2.2.1 g.2.2.2.2.2.2.2.2.1.1 g.2.2.2.2.2.2.2.2.2.1.1)
def NR:Int->Int->Int->(aa ((Int×Int×Int)×Int))->aH->(aa Int)->(aa aF)->(aa (Int×Int))->(aa ((Int×Int×Int)×Int))->Bool->Int->Int->af kA:=λa0_0 a0_1 a0_2 aS b1_0_0 b6_0 b6_1 b6_2 b6_3 b6_4 b7_0 b8_0=>lim (λn=>Kl n a0_0 a0_1 a0_2 aS b1_0_0 b6_0 b6_1 b6_2 b6_3 b6_4 b7_0 b8_0)
def XM:PD NR:=λg b h=>by
 obtain⟨n,hn⟩:=bX (show lim (λn=>Kl n g.1.1.1 g.1.1.2.1 g.1.1.2.2.1 g.2.2.2.2.2.2.1 g.2.2.1.1.1 g.2.2.2.2.2.2.2.2.2.2.1 g.2.2.2.2.2.2.2.2.2.2.2.1 g.2.2.2.2.2.2.2.2.2.2.2.2.1 g.2.2.2.2.2.2.2.2.2.2.2.2.2.1 g.2.2.2.2.2.2.2.1.2.2.2.2.1 g.2.2.2.2.2.2.2.2.1.1 g.2.2.2.2.2.2.2.2.2.1.1)=Q b from h);exact(Dk n) g b hn
def agh(F:aI):aI:=Xp NR F
def vT{F:aI}(h:ak wR F):ak wR (agh F):=I5 XM h
def UF:aI:=(jr wR (agh (uc (alo (Vj (P8 cw))))) (λf=>zh f 156||zh f 160||zh f 202||zh f 263) 300 10)
def WU:ak wR UF:=⟨gM (ak.ok (vT (dZ (uR (ig (fZ aQ)))))) (ak.nat (P:=wR) (vT (dZ (uR (ig (fZ aQ)))))) 300 10,ga (ak.nat (P:=wR) (vT (dZ (uR (ig (fZ aQ)))))) 300 10⟩
abbrev agt:=aH×Int×Int×Int
def ah2:Td 2 agt:= .c [] [4,5] (.r 2 3 (ec 4 (qp 2 0) (ec 5 aL en)) (sb 0 3 (aW ln) (sb 1 3 (aW ln) (sb 2 80 (lg 80) sn))) (λz=>(z.t.2.1,z.1.2.1,z.2.1.1,z.t.1.1)) (λx=>(((),x.2.1,()),((x.t.1,()),(x.t.2,()),x.1,()))))
def ai1:=(lc (qf 202 (lc (qp 0 0) (lc (qp 1 0) ln))) (lc (qk 80 1) ln))
def aiT:=(sb 0 3 (aW ln) (sb 1 3 (aW ln) sn))
def Va:An:= .no
def anx:bx wR (UF) 2 300 189 (Va):=aD (l:=[]) func189 (aq (by kernel_rfl)) (by kernel_rfl) aC
def Hs(a1_0:aH)(aS:Int)(b1_0:Int):af agt:=
 match NR [a1_0][0]!.bu (0) (0) [] a1_0 gx.fst gx.snd.fst gx.snd.snd.fst gx.snd.snd.snd.fst gx.snd.snd.snd.snd aS b1_0 with|J=>J|Q r1=>match Gy [a1_0][0]!.ah r1.fst r1.snd.snd.snd.fst r1.snd.snd.snd.snd.fst r1.snd.snd.snd.snd.snd.fst r1.snd.snd.snd.snd.snd.snd.fst r1.snd.snd.snd.snd.snd.snd.snd.fst with|J=>J|Q r2=>Q ((r2.fst,r2.snd.fst,r1.snd.snd.snd.snd.snd.snd.snd.snd))
def ar1(a1_0:aH)(aS:Int)(b1_0:Int):aO wR (UF) 300 (Va) 189 (ai1.c (((),(),()),(a1_0,()),())) (aiT.d ((aS,()),(b1_0,()),())) 2 ah2.rd=Hs a1_0 aS b1_0:=by kernel_rfl
def Tq:aI->aI:=eY wR 189 2 ai1 aiT ah2 (λg=>Hs g.1.2.1.1 g.2.1.1 g.t.1.1)
def V7{F:aI}(h:ak wR F):ak wR (Tq F):=dG (dN WU anx (λ_=>by kernel_rfl) (λ_=>by kernel_rfl) (λ_=>by kernel_rfl) λg=>ar1 g.1.2.1.1 g.2.1.1 g.t.1.1) ⟨_,func189,by kernel_rfl,by kernel_rfl⟩ (λ_=>by kernel_rfl) h
def LZ{F:aI}{f:Nat}(hne:zh f 189=V)(h:aZ F f):aZ (Tq F) f:=qP hne h
def afF:aI:=(Vj (Rw (L6 (P8 cw))))
def adC:ak wR afF:=(ig (ru (nH (fZ aQ))))
structure oZ where
 t4:List Int
 t16:List aF
 (t17 t18:Int)
 b0:bO
 b1:aH
 aef:List Int
 YP:List aF
 YU:List (Int×Int)
 aaH:List ((Int×Int×Int)×Int)
 adl:Bool
def vM:Td 0 oZ:= .c [] [1,2,3,4,16,17,18] (.r 0 8 (ec 1 (qp 0 0) (ec 2 (qp 1 0) (ec 3 (qp 2 0) (ec 4 (qo 3) (ec 16 (ql 113) (ec 17 aL (ec 18 aL en))))))) (sb 0 42 (lg 42) (sb 1 80 (aW (lc qn (lc qn (aW ln)))) (sb 2 296 (lc (qo 4) (lc (qo 5) (lc (qo 6) (lc (qo 7) (lc qb ln))))) (sr 3 3 (sr 4 3 (sr 5 113 (sm 6 .k1 .i (sm 7 .k3 .i sn)))))))) (λz=>⟨z.q.1,z.1.q.1,z.1.q.2.1,z.1.q.t.1,z.2.1,(aH.mk z.t.1.1 [] [] z.t.1.t.2.1),z.q.2.1,z.q.t.1,z.q.t.2.1,z.q.q.1,z.t.2.1.q.1⟩) (λx=>(((),(),(),(),x.t16,x.t17,x.t18,()),(x.b0,(x.b1.ah,(),(),x.b1.bu,()),((),(),(),(),x.adl,()),x.t4,x.aef,x.YP,x.YU,x.aaH,()))))
def BJ(p:oZ):af (af oZ):=
 bif Z (p.t18<p.t17)then if 0<=p.t18/\p.t18<yz p.t16 then if 0<=p.t16[zB p.t18]!.aG/\p.t16[zB p.t18]!.aG<yz p.t4 then if 3=3/\p.t16[zB p.t18]!.aG.toNat<yz p.t4 then if 0<=p.t16[zB p.t18]!.au/\p.t16[zB p.t18]!.au<yz p.t4 then if 3=3/\p.t16[zB p.t18]!.au.toNat<yz p.t4 then match Bw p.t16[zB p.t18]!.bz p.t4[p.t16[zB p.t18]!.aG.toNat]! p.t4[p.t16[zB p.t18]!.au.toNat]! p.aef p.YP p.YU p.aaH p.adl with|J=>J|Q r1=>if(p.t4++[r1.fst]).length<=1073741824 then Q (Q (oZ.mk (p.t4++[r1.fst]) p.t16 p.t17 (i64.wrap (p.t18+1)) p.b0 (aH.mk p.b1.ah [] [] p.b1.bu) r1.snd.fst r1.snd.snd.fst r1.snd.snd.snd.fst r1.snd.snd.snd.snd.fst r1.snd.snd.snd.snd.snd))else J else J else J else J else J else J else Q (J)
def amY(p:oZ):bK wR (afF) f197.ntmps 300 (aN f197 0) .no (af oZ) (vM.pat p) (fR vM.rd)=BJ p:=by kernel_rfl
def Fq:=b6 (BJ)
abbrev axB:=aH
def d197:Td 0 axB:= .c [] [2] (.r 0 1 (ec 2 (qp 0 0) en) (sb 0 80 (lg 80) sn) (λz=>z.2.1) (λx=>(((),()),(x,()))))
def atk:=(lc (qg 42) ln)
def aih:An:=(noTwo (noTwo (noTwo (.two (noTwo (vM.lp Fq .no)) .no))))
def asv:bx wR (afF) 0 300 197 (aih):=aD (l:=[(aN f197 0,(vM.lp Fq .no))]) func197 (aq (by kernel_rfl)) (by kernel_rfl) (aA ⟨vM.ok _,bt (amY)⟩ aC)
def U7(a0:bO):af axB:=
 match sy 0 gx.fst gx.snd.fst gx.snd.snd.fst gx.snd.snd.snd.fst gx.snd.snd.snd.snd with|J=>J|Q r2=>match sy 1 r2.snd.fst r2.snd.snd.fst r2.snd.snd.snd.fst r2.snd.snd.snd.snd.fst r2.snd.snd.snd.snd.snd with|J=>J|Q r3=>match Fq (oZ.mk [r2.fst,r3.fst] a0.az (yz a0.az) 0 a0 (aH.mk 0 [] [] (0)) r3.snd.fst r3.snd.snd.fst r3.snd.snd.snd.fst r3.snd.snd.snd.snd.fst r3.snd.snd.snd.snd.snd)with|J=>J|Q r4=>bif Z (r4.t18<r4.t17)then if 0<=r4.t18/\r4.t18<yz r4.t16 then if 0<=r4.t16[zB r4.t18]!.aG/\r4.t16[zB r4.t18]!.aG<yz r4.t4 then if 3=3/\r4.t16[zB r4.t18]!.aG.toNat<yz r4.t4 then if 0<=r4.t16[zB r4.t18]!.au/\r4.t16[zB r4.t18]!.au<yz r4.t4 then if 3=3/\r4.t16[zB r4.t18]!.au.toNat<yz r4.t4 then match Bw r4.t16[zB r4.t18]!.bz r4.t4[r4.t16[zB r4.t18]!.aG.toNat]! r4.t4[r4.t16[zB r4.t18]!.au.toNat]! r4.aef r4.YP r4.YU r4.aaH r4.adl with|J=>J|Q r5=>if(r4.t4++[r5.fst]).length<=1073741824 then J else J else J else J else J else J else J else if 0<=r4.b0.bu/\r4.b0.bu<yz r4.t4 then if 3=3/\zB r4.b0.bu<yz r4.t4 then match Gy r4.b0.ah r4.t4[zB r4.b0.bu]! r4.aef r4.YP r4.YU r4.aaH r4.adl with|J=>J|Q r6=>Q (r6.fst)else J else J
def aBz(a0:bO):aO wR (afF) 300 (aih) 197 (atk.c (a0,())) [] 0 d197.rd=U7 a0:=by kernel_rfl
def al5:aI->aI:=eZ wR 197 atk d197 (λg=>U7 g.1)
def adm{F:aI}(h:ak wR F):ak wR (al5 F):=gh (bq adC asv (λ_=>by kernel_rfl) (λ_=>by kernel_rfl) λg=>aBz g.1) ⟨_,func197,by kernel_rfl,by kernel_rfl⟩ (λ_=>by kernel_rfl) h
def Qx{F:aI}{f:Nat}(hne:zh f 197=V)(h:aZ F f):aZ (al5 F) f:=qP hne h
def aaF:aI:=(al5 (GR (Tq (QE (YR cw)))))
def aad:ak wR aaF:=(adm (Ab (V7 (u7 (Oi aQ)))))
abbrev arp:=aH×Int
def d145:Td 0 arp:= .c [] [6,7] (.r 0 1 (ec 6 (qp 0 0) (ec 7 aL en)) (sb 0 80 (lg 80) sn) (λz=>(z.2.1,z.1.2.1)) (λx=>(((),x.2,()),(x.1,()))))
def axK:=(lc (qg 42) (aW (aW ln)))
def aib:An:=(noTwo (noTwo (.two (.two (.rb [188] 19) .no) .no)))
def auA:∀f∈([188]:aa Nat),aZ (aaF) f:=(aA (Qx (f:=188) rfl (kR (f:=188) rfl (LZ (f:=188) rfl (j8 (Qs cS))))) aC)
def axr:bx wR (aaF) 0 300 145 (aib):=aD (l:=[(.skip,(.rb [188] 19))]) func145 (aq (by kernel_rfl)) (by kernel_rfl) (aA auA aC)
def Me(a0:bO)(a1:Int)(a2:Int):af arp:=
 match HJ a0 with|J=>J|Q r1=>bif bif Z (r1=0)then V else O then Q ((aH.mk (0) [] [] (0),1))else match bif bif jK a1 then V else O then Q (O)else Q (bif jK a2 then V else O)with|J=>J|Q r2=>bif r2 then Q ((aH.mk (0) [] [] (0),3))else match U7 a0 with|J=>J|Q r3=>match Hs r3 a2 a1 with|J=>J|Q r4=>Q ((r4.fst,r4.snd.fst))
def azZ(a0:bO)(a1:Int)(a2:Int):aO wR (aaF) 300 (aib) 145 (axK.c (a0,a1,a2,())) [] 0 d145.rd=Me a0 a1 a2:=by kernel_rfl
def ay0:aI->aI:=eZ wR 145 axK d145 (λg=>Me g.1 g.2.1 g.t.1)
def acZ{F:aI}(h:ak wR F):ak wR (ay0 F):=gh (bq aad axr (λ_=>by kernel_rfl) (λ_=>by kernel_rfl) λg=>azZ g.1 g.2.1 g.t.1) ⟨_,func145,by kernel_rfl,by kernel_rfl⟩ (λ_=>by kernel_rfl) h
def Y8:aI:=cw
def aaY:ak wR Y8:=aQ
abbrev anC:=bO×Int
def d179:Td 0 anC:= .c [] [4,5] (.r 0 1 (ec 4 (qp 0 0) (ec 5 aL en)) (sb 0 42 (lg 42) sn) (λz=>(z.2.1,z.1.2.1)) (λx=>(((),x.2,()),(x.1,()))))
def avD:=(aW (aW ln))
def ahp:An:=(noTwo (.two (.two (.rb [] 20) .no) .no))
def att:∀f∈([]:aa Nat),aZ (Y8) f:=aC
def ayy:bx wR (Y8) 0 300 179 (ahp):=aD (l:=[(.skip,(.rb [] 20))]) func179 (aq (by kernel_rfl)) (by kernel_rfl) (aA att aC)
def J6(a0:Int)(a1:Int):anC:=
 let r1:Bool:=bif Z (a0<0)then O else bif Z (40<a0)then O else bif Z (a1<0)then O else Z (a0<=a1);bif r1 then(bO.mk (0) [] (0),3)else(bO.mk a0 [aF.mk a1 (0) (1)] (2),0)
def aDe(a0:Int)(a1:Int):aO wR (Y8) 300 (ahp) 179 (avD.c (a0,a1,())) [] 0 d179.rd=Q (J6 a0 a1):=by
 refine Eq.trans (b:=(
  match bif Z (a0<0)then Q (O)else bif Z (40<a0)then Q (O)else bif Z (a1<0)then Q (O)else Q (Z (a0<=a1))with|J=>J|Q r1=>bif r1 then Q ((bO.mk (0) [] (0),3))else Q ((bO.mk a0 [aF.mk a1 (0) (1)] (2),0)):af anC)) (by kernel_rfl) ?_
 simp only[J6,bV,cv]
def arR:aI->aI:=eZ wR 179 avD d179 (λg=>Q (J6 g.1 g.2.1))
def aaO{F:aI}(h:ak wR F):ak wR (arR F):=gh (bq aaY ayy (λ_=>by kernel_rfl) (λ_=>by kernel_rfl) λg=>aDe g.1 g.2.1) ⟨_,func179,by kernel_rfl,by kernel_rfl⟩ (λ_=>by kernel_rfl) h
def abq:aI:=(QE cw)
def ad3:ak wR abq:=(u7 aQ)
abbrev anD:=aH×Int
def d135:Td 0 anD:= .c [] [4,5] (.r 0 1 (ec 4 (qp 0 0) (ec 5 aL en)) (sb 0 80 (aW (lc (ql 3) (lc qn (aW ln)))) sn) (λz=>((aH.mk z.2.1.1 z.2.1.2.1 [] z.2.1.t.2.1),z.1.2.1)) (λx=>(((),x.2,()),((x.1.ah,x.1.aR,(),x.1.bu,()),()))))
def awj:=(aW (aW ln))
def agm:An:=(noTwo (.two (.two (.rb [188] 16) .no) .no))
def avb:∀f∈([188]:aa Nat),aZ (abq) f:=(aA (j8 cS) aC)
def aq3:bx wR (abq) 0 300 135 (agm):=aD (l:=[(.skip,(.rb [188] 16))]) func135 (aq (by kernel_rfl)) (by kernel_rfl) (aA avb aC)
def Fv(a0:Int)(a1:Int):anD:=
 let r1:Bool:=bif Z (a0<0)then O else bif Z (40<a0)then O else bif jK a1 then V else O;bif r1 then(aH.mk (0) [] [] (0),3)else(aH.mk a0 [a1] [] (0),0)
def az3(a0:Int)(a1:Int):aO wR (abq) 300 (agm) 135 (awj.c (a0,a1,())) [] 0 d135.rd=Q (Fv a0 a1):=by
 refine Eq.trans (b:=(
  match bif Z (a0<0)then Q (O)else bif Z (40<a0)then Q (O)else Q (bif jK a1 then V else O)with|J=>J|Q r1=>bif r1 then Q ((aH.mk (0) [] [] (0),3))else Q ((aH.mk a0 [a1] [] (0),0)):af anD)) (by kernel_rfl) ?_
 simp only[Fv,bV,cv]
def awp:aI->aI:=eZ wR 135 awj d135 (λg=>Q (Fv g.1 g.2.1))
def Zl{F:aI}(h:ak wR F):ak wR (awp F):=gh (bq ad3 aq3 (λ_=>by kernel_rfl) (λ_=>by kernel_rfl) λg=>az3 g.1 g.2.1) ⟨_,func135,by kernel_rfl,by kernel_rfl⟩ (λ_=>by kernel_rfl) h
def F75:aI:=(awp cw)
def amG:ak wR F75:=(Zl aQ)
abbrev E75:=aH×cc
def d75:Td 1 E75:= .c [] [4] (.r 1 2 (ec 4 (qp 1 0) en) (sb 0 138 (lg 138) (sb 1 80 (aW (lc (ql 3) (lc qn (aW ln)))) sn)) (λz=>((aH.mk z.t.1.1 z.t.1.2.1 [] z.t.1.t.2.1),z.2.1)) (λx=>(((),()),(x.2,(x.1.ah,x.1.aR,(),x.1.bu,()),()))))
def A75:=(lc (qp 0 0) (aW ln))
def B75:=(sb 0 138 (lg 138) sn)
def asD:An:= .no
def aBk:bx wR (F75) 1 300 75 (asD):=aD (l:=[]) func75 (aq (by kernel_rfl)) (by kernel_rfl) aC
def Kr(a1:Int)(b0:cc):E75:=
 (aH.mk (Fv b0.ah a1).fst.ah (Fv b0.ah a1).fst.aR [] (Fv b0.ah a1).fst.bu,b0)
def c75(a1:Int)(b0:cc):aO wR (F75) 300 (asD) 75 (A75.c ((),a1,())) (B75.d (b0,())) 1 d75.rd=Q (Kr a1 b0):=by kernel_rfl
def e75:aI->aI:=eY wR 75 1 A75 B75 d75 (λg=>Q (Kr g.1.2.1 g.2.1))
def XN{F:aI}(h:ak wR F):ak wR (e75 F):=dG (dN amG aBk (λ_=>by kernel_rfl) (λ_=>by kernel_rfl) (λ_=>by kernel_rfl) λg=>c75 g.1.2.1 g.2.1) ⟨_,func75,by kernel_rfl,by kernel_rfl⟩ (λ_=>by kernel_rfl) h
def adS:aI:=(arR (ay0 (anN (e75 cw))))
def adx:ak wR adS:=(aaO (acZ (Py (XN aQ))))
structure oP where
 (t14 t15:Int)
 b0:cc
 b1:Slot
 (b2 b3:aH)
def Cb:Td 1 oP:= .c [] [0,3,4,5,14,15] (.r 1 4 (ec 0 (qp 0 0) (ec 3 (qp 1 0) (ec 4 (qp 2 0) (ec 5 (qp 3 0) (ec 14 aL (ec 15 aL en)))))) (sb 0 138 (lg 138) (sb 1 38 (lg 38) (sb 2 80 (aW (lc qn (lc qn (aW ln)))) (sb 3 80 (lg 80) sn)))) (λz=>⟨z.1.q.1,z.1.q.2.1,z.2.1,z.t.1,(aH.mk z.t.2.1.1 [] [] z.t.2.1.t.2.1),z.q.1⟩) (λx=>(((),(),(),(),x.t14,x.t15,()),(x.b0,x.b1,(x.b2.ah,(),(),x.b2.bu,()),x.b3,()))))
def wX(p:oP):af (af oP):=
 bif Z (p.t15<p.t14)then if 0<=i64.wrap (i64.wrap (p.b1.cR-1)-p.t15)then match Me (J6 p.b0.ah (i64.wrap (p.b1.cK+p.t15))).fst 0 (qF IntKind.i64 1 (i64.wrap (i64.wrap (p.b1.cR-1)-p.t15)))with|J=>J|Q r1=>match JN 0 p.b3 r1.fst p.b0 with|J=>J|Q r2=>Q (Q (oP.mk p.t14 (i64.wrap (p.t15+1)) r2.snd p.b1 (aH.mk p.b2.ah [] [] p.b2.bu) r2.fst))else J else Q (J)
def aoG(p:oP):bK wR (adS) f116.ntmps 300 (aN f116 0) .no (af oP) (Cb.pat p) (fR Cb.rd)=wX p:=by kernel_rfl
def FA:=b6 (wX)
abbrev auz:=aH×cc
def d116:Td 1 auz:= .c [] [4] (.r 1 2 (ec 4 (qp 1 0) en) (sb 0 138 (lg 138) (sb 1 80 (lg 80) sn)) (λz=>(z.t.1,z.2.1)) (λx=>(((),()),(x.2,x.1,()))))
def arY:=(lc (qp 0 0) (lc (qg 38) ln))
def auD:=(sb 0 138 (lg 138) sn)
def ahF:An:=(noTwo (noTwo (.two (noTwo (Cb.lp FA .no)) .no)))
def aqH:bx wR (adS) 1 300 116 (ahF):=aD (l:=[(aN f116 0,(Cb.lp FA .no))]) func116 (aq (by kernel_rfl)) (by kernel_rfl) (aA ⟨Cb.ok _,bt (aoG)⟩ aC)
def QV(a1:Slot)(b0:cc):af auz:=
 match FA (oP.mk a1.cR 0 (Kr 0 b0).snd a1 (aH.mk 0 [] [] (0)) (aH.mk (Kr 0 b0).fst.ah (Kr 0 b0).fst.aR [] (Kr 0 b0).fst.bu))with|J=>J|Q r3=>bif Z (r3.t15<r3.t14)then if 0<=i64.wrap (i64.wrap (r3.b1.cR-1)-r3.t15)then match Me (J6 r3.b0.ah (i64.wrap (r3.b1.cK+r3.t15))).fst 0 (qF IntKind.i64 1 (i64.wrap (i64.wrap (r3.b1.cR-1)-r3.t15)))with|J=>J|Q r4=>match JN 0 r3.b3 r4.fst r3.b0 with|J=>J|Q r5=>J else J else Q (r3.b3,r3.b0)
def aCG(a1:Slot)(b0:cc):aO wR (adS) 300 (ahF) 116 (arY.c ((),a1,())) (auD.d (b0,())) 1 d116.rd=QV a1 b0:=by kernel_rfl
def ays:aI->aI:=eY wR 116 1 arY auD d116 (λg=>QV g.1.2.1 g.2.1)
def ae9{F:aI}(h:ak wR F):ak wR (ays F):=dG (dN adx aqH (λ_=>by kernel_rfl) (λ_=>by kernel_rfl) (λ_=>by kernel_rfl) λg=>aCG g.1.2.1 g.2.1) ⟨_,func116,by kernel_rfl,by kernel_rfl⟩ (λ_=>by kernel_rfl) h
def X5:aI:=(YR cw)
def Zn:ak wR X5:=(Oi aQ)
structure pn where
 (t0 t17:List bO)
 (t18 t19:Int)
def AK:Td 0 pn:= .c [] [0,17,18,19] (.r 0 0 (ec 0 (ql 42) (ec 17 (ql 42) (ec 18 aL (ec 19 aL en)))) sn (λz=>⟨z.1.1,z.1.2.1,z.1.t.1,z.1.t.2.1⟩) (λx=>((x.t0,x.t17,x.t18,x.t19,()),(()))))
def vu(p:pn):af (af pn):=
 bif Z (p.t19<p.t18)then if 0<=p.t19/\p.t19<yz p.t17 then if(0:Int)<=(0:Int)/\(0:Int)<yz p.t0 then bif bif Z (p.t17[zB p.t19]!.ah=p.t0[0]!.ah)then V else O then Q (J)else Q (Q (pn.mk p.t0 p.t17 p.t18 (i64.wrap (p.t19+1))))else J else J else Q (J)
def amw(p:pn):bK wR (X5) f180.ntmps 300 (aN f180 1) .no (af pn) (AK.pat p) (fR AK.rd)=vu p:=by kernel_rfl
def DW:=b6 (vu)
structure pH where
 (t0 t7:List bO)
 (t8 t9:Int)
def A5:Td 0 pH:= .c [] [0,7,8,9] (.r 0 0 (ec 0 (ql 42) (ec 7 (ql 42) (ec 8 aL (ec 9 aL en)))) sn (λz=>⟨z.1.1,z.1.2.1,z.1.t.1,z.1.t.2.1⟩) (λx=>((x.t0,x.t7,x.t8,x.t9,()),(()))))
def B4(p:pH):af (af pH):=
 bif Z (p.t9<p.t8)then if 0<=p.t9/\p.t9<yz p.t7 then match HJ p.t7[zB p.t9]! with|J=>J|Q r1=>bif bif Z (r1=0)then V else O then Q (J)else Q (Q (pH.mk p.t0 p.t7 p.t8 (i64.wrap (p.t9+1))))else J else Q (J)
def ake(p:pH):bK wR (X5) f180.ntmps 300 (aN f180 0) .no (af pH) (A5.pat p) (fR A5.rd)=B4 p:=by kernel_rfl
def EX:=b6 (B4)
abbrev axk:=Int
def d180:Td 0 axk:= .c [] [2] (.r 0 0 (ec 2 aL en) sn (λz=>z.1.1) (λx=>((x,()),(()))))
def ars:=(lc (ql 42) ln)
def ajn:An:=(noTwo (.two (noTwo (A5.lp EX .no)) (.two (noTwo (AK.lp DW .no)) .no)))
def au4:bx wR (X5) 0 300 180 (ajn):=aD (l:=[(aN f180 0,(A5.lp EX .no)),(aN f180 1,(AK.lp DW .no))]) func180 (aq (by kernel_rfl)) (by kernel_rfl) (aA ⟨A5.ok _,bt (ake)⟩ (aA ⟨AK.ok _,bt (amw)⟩ aC))
def Te(a0:aa bO):af axk:=
 match EX (pH.mk a0 a0 (yz a0) 0)with|J=>J|Q r2=>bif Z (r2.t9<r2.t8)then if 0<=r2.t9/\r2.t9<yz r2.t7 then match HJ r2.t7[zB r2.t9]! with|J=>J|Q r3=>bif bif Z (r3=0)then V else O then Q 1 else J else J else match DW (pn.mk r2.t0 r2.t0 (yz r2.t0) 0)with|J=>J|Q r4=>bif Z (r4.t19<r4.t18)then if 0<=r4.t19/\r4.t19<yz r4.t17 then if(0:Int)<=(0:Int)/\(0:Int)<yz r4.t0 then bif bif Z (r4.t17[zB r4.t19]!.ah=r4.t0[0]!.ah)then V else O then Q 2 else J else J else J else Q 0
def aAV(a0:aa bO):aO wR (X5) 300 (ajn) 180 (ars.c (a0,())) [] 0 d180.rd=Te a0:=by kernel_rfl
def atU:=eL wR 180 V ars d180 (λg=>Te g.1)
def afL{F:aI}(h:ak wR F):ak wR (atU F):=bA (sc:=dM) aX (bq Zn au4 (λ_=>by kernel_rfl) (λ_=>by kernel_rfl) λg=>aAV g.1) ⟨_,func180,by kernel_rfl,by kernel_rfl⟩ (λ_=>by kernel_rfl) (λ_=>by kernel_rfl) h
def alr:aI:=cw
def ae8:ak wR alr:=aQ
abbrev ajC:=bO×Int
def d181:Td 0 ajC:= .c [] [2,3] (.r 0 1 (ec 2 (qp 0 0) (ec 3 aL en)) (sb 0 42 (lg 42) sn) (λz=>(z.2.1,z.1.2.1)) (λx=>(((),x.2,()),(x.1,()))))
def at9:=(lc (qg 42) ln)
def ag2:An:= .no
def awK:bx wR (alr) 0 300 181 (ag2):=aD (l:=[]) func181 (aq (by kernel_rfl)) (by kernel_rfl) aC
def SH(a0:bO):ajC:=
 bif Z (4096<(yz a0.az:Int))then(bO.mk 0 [] (0),4)else(a0,0)
def aAO(a0:bO):aO wR (alr) 300 (ag2) 181 (at9.c (a0,())) [] 0 d181.rd=Q (SH a0):=by
 refine Eq.trans (b:=(
  bif Z (4096<(yz a0.az:Int))then Q ((bO.mk (0) [] (0),4))else Q ((a0,0)):af ajC)) (by kernel_rfl) ?_
 simp only[SH,bV,cv]
def asQ:aI->aI:=eZ wR 181 at9 d181 (λg=>Q (SH g.1))
def adA{F:aI}(h:ak wR F):ak wR (asQ F):=gh (bq ae8 awK (λ_=>by kernel_rfl) (λ_=>by kernel_rfl) λg=>aAO g.1) ⟨_,func181,by kernel_rfl,by kernel_rfl⟩ (λ_=>by kernel_rfl) h
def akE:aI:=cw
def ZN:ak wR akE:=aQ
abbrev amH:=Bool×Int
def d183:Td 1 amH:= .c [] [3] (.r 1 1 (ec 3 qb en) (sb 0 3 (aW ln) sn) (λz=>(z.1.1,z.2.1.1)) (λx=>((x.1,()),((x.2,()),()))))
def asa:=(lc (qa (lc qb (lc qb (lc qb ln)))) (lc (qp 0 0) ln))
def aud:=(sb 0 3 (aW ln) sn)
def agb:An:= .no
def auU:bx wR (akE) 1 300 183 (agb):=aD (l:=[]) func183 (aq (by kernel_rfl)) (by kernel_rfl) aC
def rN(a0_0:Bool)(a0_1:Bool)(a0_2:Bool)(aS:Int):amH:=
 bif a0_0 then bif a0_1 then(Z (mS IntKind.i64 (cF IntKind.i64 aS (3)) (1)=1),aS)else(Z (mS IntKind.i64 (cF IntKind.i64 aS (2)) (1)=1),aS)else bif a0_1 then(Z (mS IntKind.i64 (cF IntKind.i64 aS (1)) (1)=1),aS)else(Z (mS IntKind.i64 (cF IntKind.i64 aS (0)) (1)=1),aS)
def aAC(a0_0:Bool)(a0_1:Bool)(a0_2:Bool)(aS:Int):aO wR (akE) 300 (agb) 183 (asa.c ((a0_0,a0_1,a0_2,()),(),())) (aud.d ((aS,()),())) 1 d183.rd=Q (rN a0_0 a0_1 a0_2 aS):=by
 refine Eq.trans (b:=(
  bif a0_0 then bif a0_1 then Q ((Z (mS IntKind.i64 (cF IntKind.i64 aS (3)) (1)=1),aS))else Q ((Z (mS IntKind.i64 (cF IntKind.i64 aS (2)) (1)=1),aS))else bif a0_1 then Q ((Z (mS IntKind.i64 (cF IntKind.i64 aS (1)) (1)=1),aS))else Q ((Z (mS IntKind.i64 (cF IntKind.i64 aS (0)) (1)=1),aS)):af amH)) (by kernel_rfl) ?_
 simp only[rN,bV,cv]
def abF:aI->aI:=eY wR 183 1 asa aud d183 (λg=>Q (rN g.1.1.1 g.1.1.2.1 g.1.1.t.1 g.2.1.1))
def EN{F:aI}(h:ak wR F):ak wR (abF F):=dG (dN ZN auU (λ_=>by kernel_rfl) (λ_=>by kernel_rfl) (λ_=>by kernel_rfl) λg=>aAC g.1.1.1 g.1.1.2.1 g.1.1.t.1 g.2.1.1) ⟨_,func183,by kernel_rfl,by kernel_rfl⟩ (λ_=>by kernel_rfl) h
abbrev j7:=Int×(aa (Int×Int))×(aa aF)×bO
def Xk:Td 7 j7:= .c [6] [6] (.r 7 8 (ec 6 aL en) (sb 0 293 (lc (qo 4) ln) (sb 1 40 (lc (qo 5) ln) (sb 2 241 (lc (qf 245 (lc (qp 0 0) (lc (qp 1 0) (lc (qp 2 0) (lc (qp 3 0) ln))))) ln) (sb 3 42 (aW (lc (qo 7) (aW ln))) (sm 4 .k1 .i (sr 5 113 (sr 7 113 sn))))))) (λz=>(z.1.1,z.q.2.1,z.q.t.1,(bO.mk z.q.1.1 z.q.t.2.1 z.q.1.t.1))) (λx=>((x.1,()),(((),()),((),()),(((),(),(),(),()),()),(x.t.2.ah,(),x.t.2.bu,()),x.2.1,x.t.1,x.t.2.az,()))))
def WN:=(aW (lc (qp 0 0) (lc (qp 1 0) (lc (qp 2 0) (lc (qp 3 0) ln)))))
def W5:=(sb 0 293 (lc (qo 4) ln) (sb 1 40 (lc (qo 5) ln) (sb 2 241 (lc (qf 245 (lc (qp 0 0) (lc (qp 1 0) (lc (qp 2 0) (lc (qp 3 0) ln))))) ln) (sb 3 42 (aW (lc (qo 6) (aW ln))) (sm 4 .k1 .i (sr 5 113 (sr 6 113 sn)))))))
def Sh(M:Int->(aa (Int×Int))->(aa aF)->Int->(aa aF)->Int->af j7):aI->aI:=eY wR 245 7 WN W5 Xk (λg=>M g.1.1 g.2.2.2.2.2.1 g.2.2.2.2.2.2.1 g.2.2.2.2.1.1 g.2.2.2.2.2.2.2.1 g.2.2.2.2.1.2.2.1)
def NU(M:Int->(aa (Int×Int))->(aa aF)->Int->(aa aF)->Int->af j7):Prop:=HY wR 245 7 WN W5 Xk (λg=>M g.1.1 g.2.2.2.2.2.1 g.2.2.2.2.2.2.1 g.2.2.2.2.1.1 g.2.2.2.2.2.2.2.1 g.2.2.2.2.1.2.2.1)
def G6{M:Int->(aa (Int×Int))->(aa aF)->Int->(aa aF)->Int->af j7}(hM:NU M){F:aI}(h:ak wR F):ak wR (Sh M F):=dG hM ⟨_,func245,by kernel_rfl,by kernel_rfl⟩ (λ_=>by kernel_rfl) h
def Wb(M245o:Int->(aa (Int×Int))->(aa aF)->Int->(aa aF)->Int->af j7):aI:=(Sh M245o (Jh (Qg cw)))
def Sg{M245o}(h245o:NU M245o):ak wR (Wb M245o):=(G6 h245o (qx (rj aQ)))
def Th(M245o:Int->(aa (Int×Int))->(aa aF)->Int->(aa aF)->Int->af j7):An:= .no
def ajN(M245o:Int->(aa (Int×Int))->(aa aF)->Int->(aa aF)->Int->af j7):bx wR (Wb M245o) 7 300 245 (Th M245o):=aD (l:=[]) func245 (aq (by kernel_rfl)) (by kernel_rfl) aC
def CT(M245o:Int->(aa (Int×Int))->(aa aF)->Int->(aa aF)->Int->af j7)(a0:Int)(aS:aa (Int×Int))(b1_0:aa aF)(b3_0:Int)(b3_1:aa aF)(b3_2:Int):af j7:=
 bif(dA aS a0).isSome then Q (((dA aS a0).getD 0,aS,b1_0,bO.mk b3_0 b3_1 b3_2))else if 0<=i64.wrap (a0-2)/\i64.wrap (a0-2)<yz b1_0 then if 113=113/\(i64.wrap (a0-2)).toNat<yz b1_0 then match M245o b1_0[(i64.wrap (a0-2)).toNat]!.aG aS b1_0 b3_0 b3_1 b3_2 with|J=>J|Q r1=>match M245o b1_0[(i64.wrap (a0-2)).toNat]!.au r1.snd.fst r1.snd.snd.fst r1.snd.snd.snd.ah r1.snd.snd.snd.az r1.snd.snd.snd.bu with|J=>J|Q r2=>if(r2.snd.snd.snd.az++[aF.mk b1_0[(i64.wrap (a0-2)).toNat]!.bz r1.fst r2.fst]).length<=1073741824 then Q (((dA (fQ r2.snd.fst a0 (i64.wrap (i64.wrap (2+(↑(r2.snd.snd.snd.az++[aF.mk b1_0[(i64.wrap (a0-2)).toNat]!.bz r1.fst r2.fst]).length:Int))-1))) a0).getD 0,fQ r2.snd.fst a0 (i64.wrap (i64.wrap (2+(↑(r2.snd.snd.snd.az++[aF.mk b1_0[(i64.wrap (a0-2)).toNat]!.bz r1.fst r2.fst]).length:Int))-1)),r2.snd.snd.fst,bO.mk r2.snd.snd.snd.ah (r2.snd.snd.snd.az++[aF.mk b1_0[(i64.wrap (a0-2)).toNat]!.bz r1.fst r2.fst]) r2.snd.snd.snd.bu))else J else J else J
def aqG(M245o:Int->(aa (Int×Int))->(aa aF)->Int->(aa aF)->Int->af j7)(a0:Int)(aS:aa (Int×Int))(b1_0:aa aF)(b3_0:Int)(b3_1:aa aF)(b3_2:Int):aO wR (Wb M245o) 300 (Th M245o) 245 (WN.c (a0,(),(),(),(),())) (W5.d (((),()),((),()),(((),(),(),(),()),()),(b3_0,(),b3_2,()),aS,b1_0,b3_1,())) 7 Xk.rd=CT M245o a0 aS b1_0 b3_0 b3_1 b3_2:=by kernel_rfl
def sV:Nat->(Int->(aa (Int×Int))->(aa aF)->Int->(aa aF)->Int->af j7)
 |0=>(λ_ _ _ _ _ _=>J)
 |n+1=>(CT (sV n))
def JH(n:Nat):Int->(aa (Int×Int))->(aa aF)->Int->(aa aF)->Int->af j7:=(sV n)
def De:∀n,NU (JH n)
 |0=>λ_ _ h=>(by cases h)
 |n+1=>by
  have ih:=De n;have i245o:=ih;exact(dN (Sg i245o) (ajN (JH n)) (λ_=>by kernel_rfl) (λ_=>by kernel_rfl) (λ_=>by kernel_rfl) λg=>aqG (JH n) g.1.1 g.2.2.2.2.2.1 g.2.2.2.2.2.2.1 g.2.2.2.2.1.1 g.2.2.2.2.2.2.2.1 g.2.2.2.2.1.2.2.1)
def F9:Int->(aa (Int×Int))->(aa aF)->Int->(aa aF)->Int->af j7:=λa0 aS b1_0 b3_0 b3_1 b3_2=>lim (λn=>JH n a0 aS b1_0 b3_0 b3_1 b3_2)
def V9:NU F9:=λg b h=>by
 obtain⟨n,hn⟩:=bX (show lim (λn=>JH n g.1.1 g.2.2.2.2.2.1 g.2.2.2.2.2.2.1 g.2.2.2.2.1.1 g.2.2.2.2.2.2.2.1 g.2.2.2.2.1.2.2.1)=Q b from h);exact(De n) g b hn
def WH(F:aI):aI:=Sh F9 F
def Ip{F:aI}(h:ak wR F):ak wR (WH F):=G6 V9 h
abbrev gY:=Int×(aa (Int×Int))×(aa aF)×bO
def Mf:Td 6 gY:= .c [] [6] (.t (cq.c 3 1 [] 113) (.c [] [6] (.r 6 7 (ec 6 aL en) (sb 0 293 (lc (qo 4) ln) (sb 1 40 (lc (qo 5) ln) (sb 2 241 (lc (qf 245 (lc (qp 0 0) (lc (qp 1 0) (lc (qp 2 0) (lc (qp 3 0) ln))))) ln) (sb 3 42 (aW (lc (qo 6) (aW ln))) (sm 4 .k1 .i (sr 5 113 (sr 6 113 sn))))))) (λz=>(z.1.1,z.q.2.1,z.q.t.1,(bO.mk z.q.1.1 z.q.t.2.1 z.q.1.t.1))) (λx=>((x.1,()),(((),()),((),()),(((),(),(),(),()),()),(x.t.2.ah,(),x.t.2.bu,()),x.2.1,x.t.1,x.t.2.az,()))))))
def LL:=(aW (lc (qp 0 0) (lc (qp 1 0) (lc (qp 2 0) (lc (qp 3 0) ln)))))
def K8:=(sb 0 293 (lc (qo 4) ln) (sb 1 40 (lc (qo 5) ln) (sb 2 241 (lc (qf 245 (lc (qp 0 0) (lc (qp 1 0) (lc (qp 2 0) (lc (qp 3 0) ln))))) ln) (sb 3 42 (aW (lc qn (aW ln))) (sm 4 .k1 .i (sr 5 113 sn))))))
def Lf(M:Int->(aa (Int×Int))->(aa aF)->Int->Int->af gY):aI->aI:=eY wR 245 6 LL K8 Mf (λg=>M g.1.1 g.2.2.2.2.2.1 g.2.2.2.2.2.2.1 g.2.2.2.2.1.1 g.2.2.2.2.1.2.2.1)
def Fx(M:Int->(aa (Int×Int))->(aa aF)->Int->Int->af gY):Prop:=HY wR 245 6 LL K8 Mf (λg=>M g.1.1 g.2.2.2.2.2.1 g.2.2.2.2.2.2.1 g.2.2.2.2.1.1 g.2.2.2.2.1.2.2.1)
def DB{M:Int->(aa (Int×Int))->(aa aF)->Int->Int->af gY}(hM:Fx M){F:aI}(h:ak wR F):ak wR (Lf M F):=dG hM ⟨_,func245,by kernel_rfl,by kernel_rfl⟩ (λ_=>by kernel_rfl) h
def K3(M245on:Int->(aa (Int×Int))->(aa aF)->Int->Int->af gY):aI:=(Lf M245on (Jh (Qg (WH cw))))
def Rj{M245on}(h245on:Fx M245on):ak wR (K3 M245on):=(DB h245on (qx (rj (Ip aQ))))
def Po(M245on:Int->(aa (Int×Int))->(aa aF)->Int->Int->af gY):An:= .no
def abi(M245on:Int->(aa (Int×Int))->(aa aF)->Int->Int->af gY):bx wR (K3 M245on) 6 300 245 (Po M245on):=aD (l:=[]) func245 (aq (by kernel_rfl)) (by kernel_rfl) aC
def sg(M245on:Int->(aa (Int×Int))->(aa aF)->Int->Int->af gY)(a0:Int)(aS:aa (Int×Int))(b1_0:aa aF)(b3_0:Int)(b3_2:Int):af gY:=
 bif(dA aS a0).isSome then Q (((dA aS a0).getD 0,aS,b1_0,bO.mk b3_0 [] b3_2))else if 0<=i64.wrap (a0-2)/\i64.wrap (a0-2)<yz b1_0 then if 113=113/\(i64.wrap (a0-2)).toNat<yz b1_0 then match M245on b1_0[(i64.wrap (a0-2)).toNat]!.aG aS b1_0 b3_0 b3_2 with|J=>J|Q r1=>match F9 b1_0[(i64.wrap (a0-2)).toNat]!.au r1.snd.fst r1.snd.snd.fst r1.snd.snd.snd.ah r1.snd.snd.snd.az r1.snd.snd.snd.bu with|J=>J|Q r2=>if(r2.snd.snd.snd.az++[aF.mk b1_0[(i64.wrap (a0-2)).toNat]!.bz r1.fst r2.fst]).length<=1073741824 then Q (((dA (fQ r2.snd.fst a0 (i64.wrap (i64.wrap (2+(↑(r2.snd.snd.snd.az++[aF.mk b1_0[(i64.wrap (a0-2)).toNat]!.bz r1.fst r2.fst]).length:Int))-1))) a0).getD 0,fQ r2.snd.fst a0 (i64.wrap (i64.wrap (2+(↑(r2.snd.snd.snd.az++[aF.mk b1_0[(i64.wrap (a0-2)).toNat]!.bz r1.fst r2.fst]).length:Int))-1)),r2.snd.snd.fst,bO.mk r2.snd.snd.snd.ah (r2.snd.snd.snd.az++[aF.mk b1_0[(i64.wrap (a0-2)).toNat]!.bz r1.fst r2.fst]) r2.snd.snd.snd.bu))else J else J else J
def aoa(M245on:Int->(aa (Int×Int))->(aa aF)->Int->Int->af gY)(a0:Int)(aS:aa (Int×Int))(b1_0:aa aF)(b3_0:Int)(b3_2:Int):aO wR (K3 M245on) 300 (Po M245on) 245 (LL.c (a0,(),(),(),(),())) (K8.d (((),()),((),()),(((),(),(),(),()),()),(b3_0,(),b3_2,()),aS,b1_0,())) 6 Mf.rd=sg M245on a0 aS b1_0 b3_0 b3_2:=by kernel_rfl
def nI:Nat->(Int->(aa (Int×Int))->(aa aF)->Int->Int->af gY)
 |0=>(λ_ _ _ _ _=>J)
 |n+1=>(sg (nI n))
def vz(n:Nat):Int->(aa (Int×Int))->(aa aF)->Int->Int->af gY:=(nI n)
def Aw:∀n,Fx (vz n)
 |0=>λ_ _ h=>(by cases h)
 |n+1=>by
  have ih:=Aw n;have i245on:=ih;exact(dN (Rj i245on) (abi (vz n)) (λ_=>by kernel_rfl) (λ_=>by kernel_rfl) (λ_=>by kernel_rfl) λg=>aoa (vz n) g.1.1 g.2.2.2.2.2.1 g.2.2.2.2.2.2.1 g.2.2.2.2.1.1 g.2.2.2.2.1.2.2.1)
def F3:Int->(aa (Int×Int))->(aa aF)->Int->Int->af gY:=λa0 aS b1_0 b3_0 b3_2=>lim (λn=>vz n a0 aS b1_0 b3_0 b3_2)
def P5:Fx F3:=λg b h=>by
 obtain⟨n,hn⟩:=bX (show lim (λn=>vz n g.1.1 g.2.2.2.2.2.1 g.2.2.2.2.2.2.1 g.2.2.2.2.1.1 g.2.2.2.2.1.2.2.1)=Q b from h);exact(Aw n) g b hn
def XY(F:aI):aI:=Lf F3 F
def QS{F:aI}(h:ak wR F):ak wR (XY F):=DB P5 h
def SS:aI:=(Jh (Qg (WH (XY cw))))
def Xu:ak wR SS:=(qx (rj (Ip (QS aQ))))
abbrev aiW:=bO×(aa aF)
def ahG:Td 1 aiW:= .c [] [6] (.r 1 2 (ec 6 (qp 1 0) en) (sr 0 113 (sb 1 42 (lg 42) sn)) (λz=>(z.t.1,z.2.1)) (λx=>(((),()),(x.2,x.1,()))))
def agP:=(aW (lc (qo 0) (aW ln)))
def agi:=(sr 0 113 sn)
def Uu:An:= .no
def am7:bx wR (SS) 1 300 186 (Uu):=aD (l:=[]) func186 (aq (by kernel_rfl)) (by kernel_rfl) aC
def GH(a0:Int)(a2:Int)(b0:aa aF):af aiW:=
 match F3 a2 [(0,0),(1,1)] b0 a0 (0)with|J=>J|Q r1=>Q ((bO.mk r1.snd.snd.snd.ah r1.snd.snd.snd.az r1.fst,r1.snd.snd.fst))
def aut(a0:Int)(a2:Int)(b0:aa aF):aO wR (SS) 300 (Uu) 186 (agP.c (a0,(),a2,())) (agi.d (b0,())) 1 ahG.rd=GH a0 a2 b0:=by kernel_rfl
def agN:aI->aI:=eY wR 186 1 agP agi ahG (λg=>GH g.1.1 g.1.t.1 g.2.1)
def Sc{F:aI}(h:ak wR F):ak wR (agN F):=dG (dN Xu am7 (λ_=>by kernel_rfl) (λ_=>by kernel_rfl) (λ_=>by kernel_rfl) λg=>aut g.1.1 g.1.t.1 g.2.1) ⟨_,func186,by kernel_rfl,by kernel_rfl⟩ (λ_=>by kernel_rfl) h
def alZ:aI:=(RY cw)
def abX:ak wR alZ:=(va aQ)
abbrev aqr:=Int
def d153:Td 0 aqr:= .c [] [8] (.r 0 0 (ec 8 aL en) sn (λz=>z.1.1) (λx=>((x,()),(()))))
def avN:=(lc (qg 42) (aW (aW (lc qb ln))))
def ahY:An:= .no
def asd:bx wR (alZ) 0 300 153 (ahY):=aD (l:=[]) func153 (aq (by kernel_rfl)) (by kernel_rfl) aC
def td(a0:bO)(a1:Int)(a2:Int)(a3:Bool):af aqr:=
 match lE a0 a1 with|J=>J|Q r1=>bif bif Z (r1=a2)then V else O then Q (a1)else bif a3 then if 0<=i64.wrap (a1-2)/\i64.wrap (a1-2)<yz a0.az then Q (a0.az[(i64.wrap (a1-2)).toNat]!.au)else J else if 0<=i64.wrap (a1-2)/\i64.wrap (a1-2)<yz a0.az then Q (a0.az[(i64.wrap (a1-2)).toNat]!.aG)else J
def az7(a0:bO)(a1:Int)(a2:Int)(a3:Bool):aO wR (alZ) 300 (ahY) 153 (avN.c (a0,a1,a2,a3,())) [] 0 d153.rd=td a0 a1 a2 a3:=by kernel_rfl
def ao8:=eL wR 153 V avN d153 (λg=>td g.1 g.2.1 g.t.1 g.t.2.1)
def PB{F:aI}(h:ak wR F):ak wR (ao8 F):=bA (sc:=dM) aX (bq abX asd (λ_=>by kernel_rfl) (λ_=>by kernel_rfl) λg=>az7 g.1 g.2.1 g.t.1 g.t.2.1) ⟨_,func153,by kernel_rfl,by kernel_rfl⟩ (λ_=>by kernel_rfl) (λ_=>by kernel_rfl) h
def aov:aI:=cw
def adw:ak wR aov:=aQ
abbrev auY:=Int×(aa aF)×(aa ((Int×Int×Int)×Int))
def d240:Td 3 auY:= .c [1] [8] (.r 3 4 (ec 8 aL en) (sb 0 326 (lc (qo 3) (lc (qo 2) ln)) (sm 2 .k3 .i (sr 3 113 sn))) (λz=>(z.1.1,z.t.2.1,z.t.1)) (λx=>((x.1,()),(((),(),()),x.t,x.2.1,()))))
def awX:=(lc (qp 0 0) (aW (aW (aW ln))))
def av2:=(sb 0 326 (lc (qo 1) (lc (qo 2) ln)) (sr 1 113 (sm 2 .k3 .i sn)))
def aii:An:= .no
def ayg:bx wR (aov) 3 300 240 (aii):=aD (l:=[]) func240 (aq (by kernel_rfl)) (by kernel_rfl) aC
def LI(a1:Int)(a2:Int)(a3:Int)(aS:aa aF)(cz:aa ((Int×Int×Int)×Int)):af auY:=
 bif Z (a2=a3)then Q (a2,aS,cz)else bif(dA cz (a1,a2,a3)).isSome then Q (((dA cz (a1,a2,a3)).getD 0,aS,cz))else if(aS++[aF.mk a1 a2 a3]).length<=1073741824 then Q (((dA (fQ cz (a1,a2,a3) (i64.wrap (i64.wrap (2+(↑(aS++[aF.mk a1 a2 a3]).length:Int))-1))) (a1,a2,a3)).getD 0,aS++[aF.mk a1 a2 a3],fQ cz (a1,a2,a3) (i64.wrap (i64.wrap (2+(↑(aS++[aF.mk a1 a2 a3]).length:Int))-1))))else J
def aDB(a1:Int)(a2:Int)(a3:Int)(aS:aa aF)(cz:aa ((Int×Int×Int)×Int)):aO wR (aov) 300 (aii) 240 (awX.c ((),a1,a2,a3,())) (av2.d (((),(),()),aS,cz,())) 3 d240.rd=LI a1 a2 a3 aS cz:=by kernel_rfl
def api:aI->aI:=eY wR 240 3 awX av2 d240 (λg=>LI g.1.2.1 g.1.t.1 g.1.t.2.1 g.t.1 g.t.2.1)
def Pt{F:aI}(h:ak wR F):ak wR (api F):=dG (dN adw ayg (λ_=>by kernel_rfl) (λ_=>by kernel_rfl) (λ_=>by kernel_rfl) λg=>aDB g.1.2.1 g.1.t.1 g.1.t.2.1 g.t.1 g.t.2.1) ⟨_,func240,by kernel_rfl,by kernel_rfl⟩ (λ_=>by kernel_rfl) h
abbrev kF:=Int×(aa ((Int×Int×Int)×Int))×Int×bO×bO×Int×(aa aF)×(aa ((Int×Int×Int)×Int))
def TZ:Td 11 kF:= .c [9] [8] (.r 11 12 (ec 8 aL en) (sb 0 327 (lc (qo 6) ln) (sb 1 3 (aW ln) (sb 2 264 (lc (qk 42 2) ln) (sb 3 201 (lc (qf 183 (lc (qp 7 0) ln)) ln) (sb 4 226 (lc (qf 239 (lc (qp 0 0) (lc (qp 1 0) (lc (qp 2 0) (lc (qp 3 0) (lc (qp 4 0) (lc (qp 5 0) ln))))))) ln) (sb 5 324 (lc (qp 8 0) ln) (sm 6 .k3 .i (sb 7 3 (aW ln) (sb 8 326 (lc (qo 11) (lc (qo 10) ln)) (sm 10 .k3 .i (sr 11 113 sn))))))))))) (λz=>(z.1.1,z.q.t.2.1,z.t.1.1,z.t.2.1.1.1,z.t.2.1.1.2.1,z.q.q.1.1,z.q.q.t.2.1,z.q.q.t.1)) (λx=>((x.1,()),(((),()),(x.t.1,()),((x.t.2.1,x.q.1,()),()),(((),()),()),(((),(),(),(),(),(),()),()),((),()),x.2.1,(x.q.2.1,()),((),(),()),x.q.t.2,x.q.t.1,()))))
def Vp:=(lc (qa (aW (aW (aW ln)))) (lc (qp 0 0) (lc (qp 1 0) (lc (qp 2 0) (lc (qp 3 0) (lc (qp 4 0) (lc (qp 5 0) ln)))))))
def UP:=(sb 0 327 (lc (qo 6) ln) (sb 1 3 (aW ln) (sb 2 264 (lc (qk 42 2) ln) (sb 3 201 (lc (qf 183 (lc (qp 7 0) ln)) ln) (sb 4 226 (lc (qf 239 (lc (qp 0 0) (lc (qp 1 0) (lc (qp 2 0) (lc (qp 3 0) (lc (qp 4 0) (lc (qp 5 0) ln))))))) ln) (sb 5 324 (lc (qp 8 0) ln) (sm 6 .k3 .i (sb 7 3 (aW ln) (sb 8 326 (lc (qo 9) (lc (qo 10) ln)) (sr 9 113 (sm 10 .k3 .i sn)))))))))))
def WD(M:Int->Int->Int->(aa ((Int×Int×Int)×Int))->Int->bO->bO->Int->(aa aF)->(aa ((Int×Int×Int)×Int))->af kF):aI->aI:=eY wR 239 11 Vp UP TZ (λg=>M g.1.1.1 g.1.1.2.1 g.1.1.2.2.1 g.2.2.2.2.2.2.2.1 g.2.2.1.1 g.2.2.2.1.1.1 g.2.2.2.1.1.2.1 g.2.2.2.2.2.2.2.2.1.1 g.2.2.2.2.2.2.2.2.2.2.1 g.2.2.2.2.2.2.2.2.2.2.2.1)
def Nl(M:Int->Int->Int->(aa ((Int×Int×Int)×Int))->Int->bO->bO->Int->(aa aF)->(aa ((Int×Int×Int)×Int))->af kF):Prop:=HY wR 239 11 Vp UP TZ (λg=>M g.1.1.1 g.1.1.2.1 g.1.1.2.2.1 g.2.2.2.2.2.2.2.1 g.2.2.1.1 g.2.2.2.1.1.1 g.2.2.2.1.1.2.1 g.2.2.2.2.2.2.2.2.1.1 g.2.2.2.2.2.2.2.2.2.2.1 g.2.2.2.2.2.2.2.2.2.2.2.1)
def HV{M:Int->Int->Int->(aa ((Int×Int×Int)×Int))->Int->bO->bO->Int->(aa aF)->(aa ((Int×Int×Int)×Int))->af kF}(hM:Nl M){F:aI}(h:ak wR F):ak wR (WD M F):=dG hM ⟨_,func239,by kernel_rfl,by kernel_rfl⟩ (λ_=>by kernel_rfl) h
def T4(M239A:Int->Int->Int->(aa ((Int×Int×Int)×Int))->Int->bO->bO->Int->(aa aF)->(aa ((Int×Int×Int)×Int))->af kF):aI:=(api (WD M239A (RY (abF (ao8 cw)))))
def S9{M239A}(h239A:Nl M239A):ak wR (T4 M239A):=(Pt (HV h239A (va (EN (PB aQ)))))
def SQ(M239A:Int->Int->Int->(aa ((Int×Int×Int)×Int))->Int->bO->bO->Int->(aa aF)->(aa ((Int×Int×Int)×Int))->af kF):An:= .no
def ajt(M239A:Int->Int->Int->(aa ((Int×Int×Int)×Int))->Int->bO->bO->Int->(aa aF)->(aa ((Int×Int×Int)×Int))->af kF):bx wR (T4 M239A) 11 300 239 (SQ M239A):=aD (l:=[]) func239 (aq (by kernel_rfl)) (by kernel_rfl) aC
def uq(M239A:Int->Int->Int->(aa ((Int×Int×Int)×Int))->Int->bO->bO->Int->(aa aF)->(aa ((Int×Int×Int)×Int))->af kF)(a0_0:Int)(a0_1:Int)(a0_2:Int)(aS:aa ((Int×Int×Int)×Int))(b1_0:Int)(b2_0_0:bO)(b2_0_1:bO)(b7_0:Int)(b8_0:aa aF)(b8_1:aa ((Int×Int×Int)×Int)):af kF:=
 bif(dA aS (a0_0,a0_1,a0_2)).isSome then Q (((dA aS (a0_0,a0_1,a0_2)).getD (0),aS,b1_0,b2_0_0,b2_0_1,b7_0,b8_0,b8_1))else match lE [b2_0_0,b2_0_1][0]! a0_0 with|J=>J|Q r1=>match lE [b2_0_0,b2_0_1][1]! a0_1 with|J=>J|Q r2=>bif Z ((if r2<if r1<b1_0 then r1 else b1_0 then r2 else if r1<b1_0 then r1 else b1_0)=b1_0)then bif(rN (Z (a0_0=1)) (Z (a0_1=1)) V b7_0).fst then Q ((1,fQ aS (a0_0,a0_1,a0_2) (1),b1_0,b2_0_0,b2_0_1,(rN (Z (a0_0=1)) (Z (a0_1=1)) V b7_0).snd,b8_0,b8_1))else Q ((0,fQ aS (a0_0,a0_1,a0_2) (0),b1_0,b2_0_0,b2_0_1,(rN (Z (a0_0=1)) (Z (a0_1=1)) V b7_0).snd,b8_0,b8_1))else match td [b2_0_0,b2_0_1][0]! a0_0 (if r2<if r1<b1_0 then r1 else b1_0 then r2 else if r1<b1_0 then r1 else b1_0) V with|J=>J|Q r3=>match td [b2_0_0,b2_0_1][0]! a0_0 (if r2<if r1<b1_0 then r1 else b1_0 then r2 else if r1<b1_0 then r1 else b1_0) O with|J=>J|Q r4=>match td [b2_0_0,b2_0_1][1]! a0_1 (if r2<if r1<b1_0 then r1 else b1_0 then r2 else if r1<b1_0 then r1 else b1_0) V with|J=>J|Q r5=>match td [b2_0_0,b2_0_1][1]! a0_1 (if r2<if r1<b1_0 then r1 else b1_0 then r2 else if r1<b1_0 then r1 else b1_0) O with|J=>J|Q r6=>match M239A r3 r5 a0_2 aS b1_0 b2_0_0 b2_0_1 b7_0 b8_0 b8_1 with|J=>J|Q r7=>match M239A r4 r6 a0_2 r7.snd.fst r7.snd.snd.fst r7.snd.snd.snd.fst r7.snd.snd.snd.snd.fst r7.snd.snd.snd.snd.snd.fst r7.snd.snd.snd.snd.snd.snd.fst r7.snd.snd.snd.snd.snd.snd.snd with|J=>J|Q r8=>match LI (if r2<if r1<b1_0 then r1 else b1_0 then r2 else if r1<b1_0 then r1 else b1_0) r7.fst r8.fst r8.snd.snd.snd.snd.snd.snd.fst r8.snd.snd.snd.snd.snd.snd.snd with|J=>J|Q r9=>Q ((r9.fst,fQ r8.snd.fst (a0_0,a0_1,a0_2) r9.fst,r8.snd.snd.fst,r8.snd.snd.snd.fst,r8.snd.snd.snd.snd.fst,r8.snd.snd.snd.snd.snd.fst,r9.snd))
def at1(M239A:Int->Int->Int->(aa ((Int×Int×Int)×Int))->Int->bO->bO->Int->(aa aF)->(aa ((Int×Int×Int)×Int))->af kF)(a0_0:Int)(a0_1:Int)(a0_2:Int)(aS:aa ((Int×Int×Int)×Int))(b1_0:Int)(b2_0_0:bO)(b2_0_1:bO)(b7_0:Int)(b8_0:aa aF)(b8_1:aa ((Int×Int×Int)×Int)):aO wR (T4 M239A) 300 (SQ M239A) 239 (Vp.c ((a0_0,a0_1,a0_2,()),(),(),(),(),(),(),())) (UP.d (((),()),(b1_0,()),((b2_0_0,b2_0_1,()),()),(((),()),()),(((),(),(),(),(),(),()),()),((),()),aS,(b7_0,()),((),(),()),b8_0,b8_1,())) 11 TZ.rd=uq M239A a0_0 a0_1 a0_2 aS b1_0 b2_0_0 b2_0_1 b7_0 b8_0 b8_1:=by kernel_rfl
def pT:Nat->(Int->Int->Int->(aa ((Int×Int×Int)×Int))->Int->bO->bO->Int->(aa aF)->(aa ((Int×Int×Int)×Int))->af kF)
 |0=>(λ_ _ _ _ _ _ _ _ _ _=>J)
 |n+1=>(uq (pT n))
def HX(n:Nat):Int->Int->Int->(aa ((Int×Int×Int)×Int))->Int->bO->bO->Int->(aa aF)->(aa ((Int×Int×Int)×Int))->af kF:=(pT n)
def C6:∀n,Nl (HX n)
 |0=>λ_ _ h=>(by cases h)
 |n+1=>by
  have ih:=C6 n;have i239A:=ih;exact(dN (S9 i239A) (ajt (HX n)) (λ_=>by kernel_rfl) (λ_=>by kernel_rfl) (λ_=>by kernel_rfl) λg=>at1 (HX n) g.1.1.1 g.1.1.2.1 g.1.1.2.2.1 g.2.2.2.2.2.2.2.1 g.2.2.1.1 g.2.2.2.1.1.1 g.2.2.2.1.1.2.1 g.2.2.2.2.2.2.2.2.1.1 g.2.2.2.2.2.2.2.2.2.2.1 g.2.2.2.2.2.2.2.2.2.2.2.1)
def He:Int->Int->Int->(aa ((Int×Int×Int)×Int))->Int->bO->bO->Int->(aa aF)->(aa ((Int×Int×Int)×Int))->af kF:=λa0_0 a0_1 a0_2 aS b1_0 b2_0_0 b2_0_1 b7_0 b8_0 b8_1=>lim (λn=>HX n a0_0 a0_1 a0_2 aS b1_0 b2_0_0 b2_0_1 b7_0 b8_0 b8_1)
def XV:Nl He:=λg b h=>by
 obtain⟨n,hn⟩:=bX (show lim (λn=>HX n g.1.1.1 g.1.1.2.1 g.1.1.2.2.1 g.2.2.2.2.2.2.2.1 g.2.2.1.1 g.2.2.2.1.1.1 g.2.2.2.1.1.2.1 g.2.2.2.2.2.2.2.2.1.1 g.2.2.2.2.2.2.2.2.2.2.1 g.2.2.2.2.2.2.2.2.2.2.2.1)=Q b from h);exact(C6 n) g b hn
def Vs(F:aI):aI:=WD He F
def HR{F:aI}(h:ak wR F):ak wR (Vs F):=HV XV h
abbrev gV:=Int×(aa ((Int×Int×Int)×Int))×Int×bO×bO×Int×(aa aF)×(aa ((Int×Int×Int)×Int))
def L7:Td 10 gV:= .c [] [8] (.t (cq.c 8 0 [] 113) (.c [] [8] (.r 10 11 (ec 8 aL en) (sb 0 327 (lc (qo 6) ln) (sb 1 3 (aW ln) (sb 2 264 (lc (qk 42 2) ln) (sb 3 201 (lc (qf 183 (lc (qp 7 0) ln)) ln) (sb 4 226 (lc (qf 239 (lc (qp 0 0) (lc (qp 1 0) (lc (qp 2 0) (lc (qp 3 0) (lc (qp 4 0) (lc (qp 5 0) ln))))))) ln) (sb 5 324 (lc (qp 8 0) ln) (sm 6 .k3 .i (sb 7 3 (aW ln) (sb 8 326 (lc (qo 10) (lc (qo 9) ln)) (sm 9 .k3 .i (sr 10 113 sn))))))))))) (λz=>(z.1.1,z.q.t.2.1,z.t.1.1,z.t.2.1.1.1,z.t.2.1.1.2.1,z.q.q.1.1,z.q.q.t.2.1,z.q.q.t.1)) (λx=>((x.1,()),(((),()),(x.t.1,()),((x.t.2.1,x.q.1,()),()),(((),()),()),(((),(),(),(),(),(),()),()),((),()),x.2.1,(x.q.2.1,()),((),(),()),x.q.t.2,x.q.t.1,()))))))
def MB:=(lc (qa (aW (aW (aW ln)))) (lc (qp 0 0) (lc (qp 1 0) (lc (qp 2 0) (lc (qp 3 0) (lc (qp 4 0) (lc (qp 5 0) ln)))))))
def Lb:=(sb 0 327 (lc (qo 6) ln) (sb 1 3 (aW ln) (sb 2 264 (lc (qk 42 2) ln) (sb 3 201 (lc (qf 183 (lc (qp 7 0) ln)) ln) (sb 4 226 (lc (qf 239 (lc (qp 0 0) (lc (qp 1 0) (lc (qp 2 0) (lc (qp 3 0) (lc (qp 4 0) (lc (qp 5 0) ln))))))) ln) (sb 5 324 (lc (qp 8 0) ln) (sm 6 .k3 .i (sb 7 3 (aW ln) (sb 8 326 (lc qn (lc (qo 9) ln)) (sm 9 .k3 .i sn))))))))))
def K7(M:Int->Int->Int->(aa ((Int×Int×Int)×Int))->Int->bO->bO->Int->(aa ((Int×Int×Int)×Int))->af gV):aI->aI:=eY wR 239 10 MB Lb L7 (λg=>M g.1.1.1 g.1.1.2.1 g.1.1.2.2.1 g.2.2.2.2.2.2.2.1 g.2.2.1.1 g.2.2.2.1.1.1 g.2.2.2.1.1.2.1 g.2.2.2.2.2.2.2.2.1.1 g.2.2.2.2.2.2.2.2.2.2.1)
def FI(M:Int->Int->Int->(aa ((Int×Int×Int)×Int))->Int->bO->bO->Int->(aa ((Int×Int×Int)×Int))->af gV):Prop:=HY wR 239 10 MB Lb L7 (λg=>M g.1.1.1 g.1.1.2.1 g.1.1.2.2.1 g.2.2.2.2.2.2.2.1 g.2.2.1.1 g.2.2.2.1.1.1 g.2.2.2.1.1.2.1 g.2.2.2.2.2.2.2.2.1.1 g.2.2.2.2.2.2.2.2.2.2.1)
def DT{M:Int->Int->Int->(aa ((Int×Int×Int)×Int))->Int->bO->bO->Int->(aa ((Int×Int×Int)×Int))->af gV}(hM:FI M){F:aI}(h:ak wR F):ak wR (K7 M F):=dG hM ⟨_,func239,by kernel_rfl,by kernel_rfl⟩ (λ_=>by kernel_rfl) h
def LR(M239An:Int->Int->Int->(aa ((Int×Int×Int)×Int))->Int->bO->bO->Int->(aa ((Int×Int×Int)×Int))->af gV):aI:=(api (K7 M239An (Vs (RY (abF (ao8 cw))))))
def Rf{M239An}(h239An:FI M239An):ak wR (LR M239An):=(Pt (DT h239An (HR (va (EN (PB aQ))))))
def Pq(M239An:Int->Int->Int->(aa ((Int×Int×Int)×Int))->Int->bO->bO->Int->(aa ((Int×Int×Int)×Int))->af gV):An:= .no
def adp(M239An:Int->Int->Int->(aa ((Int×Int×Int)×Int))->Int->bO->bO->Int->(aa ((Int×Int×Int)×Int))->af gV):bx wR (LR M239An) 10 300 239 (Pq M239An):=aD (l:=[]) func239 (aq (by kernel_rfl)) (by kernel_rfl) aC
def nj(M239An:Int->Int->Int->(aa ((Int×Int×Int)×Int))->Int->bO->bO->Int->(aa ((Int×Int×Int)×Int))->af gV)(a0_0:Int)(a0_1:Int)(a0_2:Int)(aS:aa ((Int×Int×Int)×Int))(b1_0:Int)(b2_0_0:bO)(b2_0_1:bO)(b7_0:Int)(b8_1:aa ((Int×Int×Int)×Int)):af gV:=
 bif(dA aS (a0_0,a0_1,a0_2)).isSome then Q (((dA aS (a0_0,a0_1,a0_2)).getD (0),aS,b1_0,b2_0_0,b2_0_1,b7_0,[],b8_1))else match lE [b2_0_0,b2_0_1][0]! a0_0 with|J=>J|Q r1=>match lE [b2_0_0,b2_0_1][1]! a0_1 with|J=>J|Q r2=>bif Z ((if r2<if r1<b1_0 then r1 else b1_0 then r2 else if r1<b1_0 then r1 else b1_0)=b1_0)then bif(rN (Z (a0_0=1)) (Z (a0_1=1)) V b7_0).fst then Q ((1,fQ aS (a0_0,a0_1,a0_2) (1),b1_0,b2_0_0,b2_0_1,(rN (Z (a0_0=1)) (Z (a0_1=1)) V b7_0).snd,[],b8_1))else Q ((0,fQ aS (a0_0,a0_1,a0_2) (0),b1_0,b2_0_0,b2_0_1,(rN (Z (a0_0=1)) (Z (a0_1=1)) V b7_0).snd,[],b8_1))else match td [b2_0_0,b2_0_1][0]! a0_0 (if r2<if r1<b1_0 then r1 else b1_0 then r2 else if r1<b1_0 then r1 else b1_0) V with|J=>J|Q r3=>match td [b2_0_0,b2_0_1][0]! a0_0 (if r2<if r1<b1_0 then r1 else b1_0 then r2 else if r1<b1_0 then r1 else b1_0) O with|J=>J|Q r4=>match td [b2_0_0,b2_0_1][1]! a0_1 (if r2<if r1<b1_0 then r1 else b1_0 then r2 else if r1<b1_0 then r1 else b1_0) V with|J=>J|Q r5=>match td [b2_0_0,b2_0_1][1]! a0_1 (if r2<if r1<b1_0 then r1 else b1_0 then r2 else if r1<b1_0 then r1 else b1_0) O with|J=>J|Q r6=>match M239An r3 r5 a0_2 aS b1_0 b2_0_0 b2_0_1 b7_0 b8_1 with|J=>J|Q r7=>match He r4 r6 a0_2 r7.snd.fst r7.snd.snd.fst r7.snd.snd.snd.fst r7.snd.snd.snd.snd.fst r7.snd.snd.snd.snd.snd.fst r7.snd.snd.snd.snd.snd.snd.fst r7.snd.snd.snd.snd.snd.snd.snd with|J=>J|Q r8=>match LI (if r2<if r1<b1_0 then r1 else b1_0 then r2 else if r1<b1_0 then r1 else b1_0) r7.fst r8.fst r8.snd.snd.snd.snd.snd.snd.fst r8.snd.snd.snd.snd.snd.snd.snd with|J=>J|Q r9=>Q ((r9.fst,fQ r8.snd.fst (a0_0,a0_1,a0_2) r9.fst,r8.snd.snd.fst,r8.snd.snd.snd.fst,r8.snd.snd.snd.snd.fst,r8.snd.snd.snd.snd.snd.fst,r9.snd))
def ajP(M239An:Int->Int->Int->(aa ((Int×Int×Int)×Int))->Int->bO->bO->Int->(aa ((Int×Int×Int)×Int))->af gV)(a0_0:Int)(a0_1:Int)(a0_2:Int)(aS:aa ((Int×Int×Int)×Int))(b1_0:Int)(b2_0_0:bO)(b2_0_1:bO)(b7_0:Int)(b8_1:aa ((Int×Int×Int)×Int)):aO wR (LR M239An) 300 (Pq M239An) 239 (MB.c ((a0_0,a0_1,a0_2,()),(),(),(),(),(),(),())) (Lb.d (((),()),(b1_0,()),((b2_0_0,b2_0_1,()),()),(((),()),()),(((),(),(),(),(),(),()),()),((),()),aS,(b7_0,()),((),(),()),b8_1,())) 10 L7.rd=nj M239An a0_0 a0_1 a0_2 aS b1_0 b2_0_0 b2_0_1 b7_0 b8_1:=by kernel_rfl
def lH:Nat->(Int->Int->Int->(aa ((Int×Int×Int)×Int))->Int->bO->bO->Int->(aa ((Int×Int×Int)×Int))->af gV)
 |0=>(λ_ _ _ _ _ _ _ _ _=>J)
 |n+1=>(nj (lH n))
def Ci(n:Nat):Int->Int->Int->(aa ((Int×Int×Int)×Int))->Int->bO->bO->Int->(aa ((Int×Int×Int)×Int))->af gV:=(lH n)
def BC:∀n,FI (Ci n)
 |0=>λ_ _ h=>(by cases h)
 |n+1=>by
  have ih:=BC n;have i239An:=ih;exact(dN (Rf i239An) (adp (Ci n)) (λ_=>by kernel_rfl) (λ_=>by kernel_rfl) (λ_=>by kernel_rfl) λg=>ajP (Ci n) g.1.1.1 g.1.1.2.1 g.1.1.2.2.1 g.2.2.2.2.2.2.2.1 g.2.2.1.1 g.2.2.2.1.1.1 g.2.2.2.1.1.2.1 g.2.2.2.2.2.2.2.2.1.1 g.2.2.2.2.2.2.2.2.2.2.1)
def FT:Int->Int->Int->(aa ((Int×Int×Int)×Int))->Int->bO->bO->Int->(aa ((Int×Int×Int)×Int))->af gV:=λa0_0 a0_1 a0_2 aS b1_0 b2_0_0 b2_0_1 b7_0 b8_1=>lim (λn=>Ci n a0_0 a0_1 a0_2 aS b1_0 b2_0_0 b2_0_1 b7_0 b8_1)
def P9:FI FT:=λg b h=>by
 obtain⟨n,hn⟩:=bX (show lim (λn=>Ci n g.1.1.1 g.1.1.2.1 g.1.1.2.2.1 g.2.2.2.2.2.2.2.1 g.2.2.1.1 g.2.2.2.1.1.1 g.2.2.2.1.1.2.1 g.2.2.2.2.2.2.2.2.1.1 g.2.2.2.2.2.2.2.2.2.2.1)=Q b from h);exact(BC n) g b hn
def Vq(F:aI):aI:=K7 FT F
def Q7{F:aI}(h:ak wR F):ak wR (Vq F):=DT P9 h
def V6:aI:=(Vq (Vs (agN (aae (abF cw)))))
def Yw:ak wR V6:=(Q7 (HR (Sc (N6 (EN aQ)))))
abbrev aiw:=bO×Int
def aif:Td 1 aiw:= .c [] [4] (.r 1 2 (ec 4 (qp 1 0) en) (sb 0 3 (aW ln) (sb 1 42 (lg 42) sn)) (λz=>(z.t.1,z.2.1.1)) (λx=>(((),()),((x.2,()),x.1,()))))
def ag5:=(lc (qk 42 2) (lc (qf 183 (lc (qp 0 0) ln)) ln))
def agG:=(sb 0 3 (aW ln) sn)
def UA:An:= .no
def al1:bx wR (V6) 1 300 182 (UA):=aD (l:=[]) func182 (aq (by kernel_rfl)) (by kernel_rfl) aC
def OX(a0_0:bO)(a0_1:bO)(aS:Int):af aiw:=
 match FT [a0_0,a0_1][0]!.bu [a0_0,a0_1][1]!.bu (0) [] [a0_0,a0_1][0]!.ah a0_0 a0_1 aS []with|J=>J|Q r1=>match GH r1.snd.snd.fst r1.fst r1.snd.snd.snd.snd.snd.snd.fst with|J=>J|Q r2=>Q ((r2.fst,r1.snd.snd.snd.snd.snd.fst))
def as3(a0_0:bO)(a0_1:bO)(aS:Int):aO wR (V6) 300 (UA) 182 (ag5.c ((a0_0,a0_1,()),((),()),())) (agG.d ((aS,()),())) 1 aif.rd=OX a0_0 a0_1 aS:=by kernel_rfl
def aje:aI->aI:=eY wR 182 1 ag5 agG aif (λg=>OX g.1.1.1 g.1.1.2.1 g.2.1.1)
def RX{F:aI}(h:ak wR F):ak wR (aje F):=dG (dN Yw al1 (λ_=>by kernel_rfl) (λ_=>by kernel_rfl) (λ_=>by kernel_rfl) λg=>as3 g.1.1.1 g.1.1.2.1 g.2.1.1) ⟨_,func182,by kernel_rfl,by kernel_rfl⟩ (λ_=>by kernel_rfl) h
def adV:aI:=(aje (asQ (atU cw)))
def Y4:ak wR adV:=(RX (adA (afL aQ)))
abbrev asj:=bO×Int
def d117:Td 0 asj:= .c [] [6,7] (.r 0 1 (ec 6 (qp 0 0) (ec 7 aL en)) (sb 0 42 (lg 42) sn) (λz=>(z.2.1,z.1.2.1)) (λx=>(((),x.2,()),(x.1,()))))
def at8:=(aW (lc (qg 42) (lc (qg 42) ln)))
def aiC:An:=(noTwo (noTwo (.two (.two (.rb [] 22) .no) .no)))
def ati:∀f∈([]:aa Nat),aZ (adV) f:=aC
def avy:bx wR (adV) 0 300 117 (aiC):=aD (l:=[(.skip,(.rb [] 22))]) func117 (aq (by kernel_rfl)) (by kernel_rfl) (aA ati aC)
def LO(a0:Int)(a1:bO)(a2:bO):af asj:=
 match Te [a1,a2]with|J=>J|Q r1=>bif bif Z (r1=0)then V else O then Q ((bO.mk (0) [] (0),r1))else match bif Z (a0<0)then Q (O)else Q (Z (15<a0))with|J=>J|Q r2=>bif r2 then Q ((bO.mk (0) [] (0),3))else match OX a1 a2 a0 with|J=>J|Q r3=>Q (SH r3.fst)
def aB6(a0:Int)(a1:bO)(a2:bO):aO wR (adV) 300 (aiC) 117 (at8.c (a0,a1,a2,())) [] 0 d117.rd=LO a0 a1 a2:=by kernel_rfl
def avk:aI->aI:=eZ wR 117 at8 d117 (λg=>LO g.1 g.2.1 g.t.1)
def afu{F:aI}(h:ak wR F):ak wR (avk F):=gh (bq Y4 avy (λ_=>by kernel_rfl) (λ_=>by kernel_rfl) λg=>aB6 g.1 g.2.1 g.t.1) ⟨_,func117,by kernel_rfl,by kernel_rfl⟩ (λ_=>by kernel_rfl) h
def Ze:aI:=(ao7 (L6 cw))
def ZX:ak wR Ze:=(Np (nH aQ))
structure o7 where
 t2:Int
 t10:List (Int×Int)
 t33:List Int
 (t34 t35:Int)
 aS:List Int
 cz:List aF
 eR:List (Int×Int)
 eP:List ((Int×Int×Int)×Int)
 fe:Bool
 (b5 b7:bO)
def A7:Td 5 o7:= .c [] [0,2,6,10,11,33,34,35] (.t (cq.c 7 1 [] 113) (.c [] [0,2,6,10,11,33,34,35] (.r 5 11 (ec 0 (qp 0 0) (ec 2 aL (ec 6 (qp 5 0) (ec 10 (qo 6) (ec 11 (qp 7 0) (ec 33 (qo 8) (ec 34 aL (ec 35 aL en)))))))) (sb 0 296 (lc (qo 9) (lc (qo 2) (lc (qo 3) (lc (qo 4) (lc qb ln))))) (sr 2 113 (sm 3 .k1 .i (sm 4 .k3 .i (sb 5 42 (aW (lc qn (aW ln))) (sm 6 .k1 .i (sb 7 42 (aW (lc (qo 10) (aW ln))) (sr 8 3 (sr 9 3 (sr 10 113 sn)))))))))) (λz=>⟨z.1.2.1,z.q.t.1,z.q.q.1,z.1.q.t.1,z.1.q.t.2.1,z.q.q.2.1,z.t.1,z.t.2.1,z.q.1,z.2.1.q.1,(bO.mk z.q.2.1.1 [] z.q.2.1.t.1),(bO.mk z.q.t.2.1.1 z.q.q.t.1 z.q.t.2.1.t.1)⟩) (λx=>(((),x.t2,(),(),(),(),x.t34,x.t35,()),(((),(),(),(),x.fe,()),x.cz,x.eR,x.eP,(x.b5.ah,(),x.b5.bu,()),x.t10,(x.b7.ah,(),x.b7.bu,()),x.t33,x.aS,x.b7.az,()))))))
def Aa(p:o7):af (af o7):=
 bif Z (p.t35<p.t34)then if 0<=p.t35/\p.t35<yz p.t33 then if 3=3/\zB p.t35<yz p.t33 then if 0<=p.t33[zB p.t35]!/\p.t33[zB p.t35]! <(yz p.cz:Int)then if 113=113/\zB p.t33[zB p.t35]! <yz p.cz then if(p.b7.az++[aF.mk p.cz[zB p.t33[zB p.t35]!]!.bz ((dA p.t10 p.cz[zB p.t33[zB p.t35]!]!.aG).getD ((0:Int))) ((dA p.t10 p.cz[zB p.t33[zB p.t35]!]!.au).getD ((0:Int)))]).length<=1073741824 then Q (Q (o7.mk p.t2 (fQ p.t10 (i64.wrap (i64.wrap (2*p.t33[zB p.t35]!)+1)) (i64.wrap (2+p.t35))) p.t33 p.t34 (i64.wrap (p.t35+1)) p.aS p.cz p.eR p.eP p.fe (bO.mk p.b5.ah [] p.b5.bu) (bO.mk p.b7.ah (p.b7.az++[aF.mk p.cz[zB p.t33[zB p.t35]!]!.bz ((dA p.t10 p.cz[zB p.t33[zB p.t35]!]!.aG).getD 0) ((dA p.t10 p.cz[zB p.t33[zB p.t35]!]!.au).getD 0)]) p.b7.bu)))else J else J else J else J else J else Q (J)
def anT(p:o7):bK wR (Ze) f243.ntmps 300 (aN f243 0) .no (af o7) (A7.pat p) (fR A7.rd)=Aa p:=by kernel_rfl
def FY:=b6 (Aa)
abbrev ayL:=bO×Int×(aa Int)×(aa aF)×(aa (Int×Int))×(aa ((Int×Int×Int)×Int))×Bool
def d243:Td 5 ayL:= .c [1] [6,7] (.r 5 7 (ec 6 (qp 5 0) (ec 7 aL en)) (sb 0 296 (lc (qo 6) (lc (qo 2) (lc (qo 3) (lc (qo 4) (lc qb ln))))) (sr 2 113 (sm 3 .k1 .i (sm 4 .k3 .i (sb 5 42 (lg 42) (sr 6 3 sn)))))) (λz=>(z.q.2.1,z.1.2.1,z.q.t.1,z.t.1,z.t.2.1,z.q.1,z.2.1.q.1)) (λx=>(((),x.2.1,()),(((),(),(),(),x.q.t,()),x.t.2.1,x.q.1,x.q.2.1,x.1,x.t.1,()))))
def aw2:=(lc (qp 0 0) (aW (aW ln)))
def av0:=(sb 0 296 (lc (qo 1) (lc (qo 2) (lc (qo 3) (lc (qo 4) (lc qb ln))))) (sr 1 3 (sr 2 113 (sm 3 .k1 .i (sm 4 .k3 .i sn)))))
def ahJ:An:=(noTwo (noTwo (noTwo (noTwo (noTwo (.two (noTwo (A7.lp FY .no)) .no))))))
def asM:bx wR (Ze) 5 300 243 (ahJ):=aD (l:=[(aN f243 0,(A7.lp FY .no))]) func243 (aq (by kernel_rfl)) (by kernel_rfl) (aA ⟨A7.ok _,bt (anT)⟩ aC)
def Sw(a1:Int)(a2:Int)(aS:aa Int)(cz:aa aF)(eR:aa (Int×Int))(eP:aa ((Int×Int×Int)×Int))(fe:Bool):af ayL:=
 match QD a2 aS cz eR eP fe with|J=>J|Q r1=>bif Z (4096<(yz r1.fst:Int))then Q ((bO.mk 0 [] (0),4,r1.snd.snd))else match sy 0 r1.snd.snd.fst r1.snd.snd.snd.fst r1.snd.snd.snd.snd.fst r1.snd.snd.snd.snd.snd.fst r1.snd.snd.snd.snd.snd.snd with|J=>J|Q r2=>match sy 1 r2.snd.fst r2.snd.snd.fst r2.snd.snd.snd.fst r2.snd.snd.snd.snd.fst r2.snd.snd.snd.snd.snd with|J=>J|Q r3=>bif bif Z (r2.fst=r3.fst)then V else O then bif bif bif bif Z (r2.fst=r3.fst)then V else O then bif Z (r3.fst=r2.fst)then V else O else V then O else V then match FY (o7.mk a2 [(r2.fst,0),(r3.fst,1)] r1.fst (yz r1.fst) 0 r3.snd.fst r3.snd.snd.fst r3.snd.snd.snd.fst r3.snd.snd.snd.snd.fst r3.snd.snd.snd.snd.snd (bO.mk 0 [] (0)) (bO.mk a1 [] (0)))with|J=>J|Q r4=>bif Z (r4.t35<r4.t34)then if 0<=r4.t35/\r4.t35<yz r4.t33 then if 3=3/\zB r4.t35<yz r4.t33 then if 0<=r4.t33[zB r4.t35]!/\r4.t33[zB r4.t35]! <(yz r4.cz:Int)then if 113=113/\zB r4.t33[zB r4.t35]! <yz r4.cz then if(r4.b7.az++[aF.mk r4.cz[zB r4.t33[zB r4.t35]!]!.bz ((dA r4.t10 r4.cz[zB r4.t33[zB r4.t35]!]!.aG).getD ((0:Int))) ((dA r4.t10 r4.cz[zB r4.t33[zB r4.t35]!]!.au).getD ((0:Int)))]).length<=1073741824 then J else J else J else J else J else J else Q ((bO.mk r4.b7.ah r4.b7.az ((dA r4.t10 r4.t2).getD 0),0,r4.aS,r4.cz,r4.eR,r4.eP,r4.fe))else J else J
def aBx(a1:Int)(a2:Int)(aS:aa Int)(cz:aa aF)(eR:aa (Int×Int))(eP:aa ((Int×Int×Int)×Int))(fe:Bool):aO wR (Ze) 300 (ahJ) 243 (aw2.c ((),a1,a2,())) (av0.d (((),(),(),(),fe,()),aS,cz,eR,eP,())) 5 d243.rd=Sw a1 a2 aS cz eR eP fe:=by kernel_rfl
def arq:aI->aI:=eY wR 243 5 aw2 av0 d243 (λg=>Sw g.1.2.1 g.1.t.1 g.t.1 g.t.2.1 g.q.1 g.q.2.1 g.2.1.q.1)
def EV{F:aI}(h:ak wR F):ak wR (arq F):=dG (dN ZX asM (λ_=>by kernel_rfl) (λ_=>by kernel_rfl) (λ_=>by kernel_rfl) λg=>aBx g.1.2.1 g.1.t.1 g.t.1 g.t.2.1 g.q.1 g.q.2.1 g.2.1.q.1) ⟨_,func243,by kernel_rfl,by kernel_rfl⟩ (λ_=>by kernel_rfl) h
def anA:aI:=(RR cw)
def aeo:ak wR anA:=(uN aQ)
abbrev ayQ:=Int×Int
def d241:Td 1 ayQ:= .c [] [3] (.r 1 1 (ec 3 aL en) (sb 0 3 (aW ln) sn) (λz=>(z.1.1,z.2.1.1)) (λx=>((x.1,()),((x.2,()),()))))
def atF:=(lc (qa (aW (aW (aW ln)))) (lc (qp 0 0) ln))
def aqB:=(sb 0 3 (aW ln) sn)
def agv:An:= .no
def ayA:bx wR (anA) 1 300 241 (agv):=aD (l:=[]) func241 (aq (by kernel_rfl)) (by kernel_rfl) aC
def PO(a0_0:Int)(a0_1:Int)(a0_2:Int)(aS:Int):ayQ:=
 (Gk (Z (a0_0=aS)),aS)
def aDC(a0_0:Int)(a0_1:Int)(a0_2:Int)(aS:Int):aO wR (anA) 300 (agv) 241 (atF.c ((a0_0,a0_1,a0_2,()),(),())) (aqB.d ((aS,()),())) 1 d241.rd=Q (PO a0_0 a0_1 a0_2 aS):=by kernel_rfl
def awJ:aI->aI:=eY wR 241 1 atF aqB d241 (λg=>Q (PO g.1.1.1 g.1.1.2.1 g.1.1.t.1 g.2.1.1))
def aeU{F:aI}(h:ak wR F):ak wR (awJ F):=dG (dN aeo ayA (λ_=>by kernel_rfl) (λ_=>by kernel_rfl) (λ_=>by kernel_rfl) λg=>aDC g.1.1.1 g.1.1.2.1 g.1.1.t.1 g.2.1.1) ⟨_,func241,by kernel_rfl,by kernel_rfl⟩ (λ_=>by kernel_rfl) h
abbrev kr:=Int×(aa ((Int×Int×Int)×Int))×aH×(aa Int)×(aa aF)×(aa (Int×Int))×(aa ((Int×Int×Int)×Int))×Bool×Int
def Ua:Td 12 kr:= .c [8,9] [7] (.r 12 14 (ec 7 aL en) (sb 0 327 (lc (qo 5) ln) (sb 1 136 (lc (qk 80 1) ln) (sb 2 239 (lc (qp 6 0) ln) (sb 3 226 (lc (qf 241 (lc (qp 7 0) ln)) ln) (sb 4 226 (lc (qf 263 (lc (qp 0 0) (lc (qp 1 0) (lc (qp 2 0) (lc (qp 3 0) (lc (qp 4 0) ln)))))) ln) (sm 5 .k3 .i (sb 6 296 (lc (qo 12) (lc (qo 13) (lc (qo 10) (lc (qo 11) (lc qb ln))))) (sb 7 3 (aW ln) (sm 10 .k1 .i (sm 11 .k3 .i (sr 12 3 (sr 13 113 sn)))))))))))) (λz=>(z.1.1,z.q.t.1,z.t.1.1.1,z.q.q.t.2.1,z.q.q.q.1,z.q.q.2.1,z.q.q.t.1,z.q.t.2.1.q.1,z.q.q.1.1)) (λx=>((x.1,()),(((),()),((x.t.1,()),()),((),()),(((),()),()),(((),(),(),(),(),()),()),x.2.1,((),(),(),(),x.q.t.2.1,()),(x.q.q,()),x.q.2.1,x.q.t.1,x.t.2.1,x.q.1,()))))
def Tf:=(lc (qa (aW (aW (aW ln)))) (lc (qp 0 0) (lc (qp 1 0) (lc (qp 2 0) (lc (qp 3 0) (lc (qp 4 0) ln))))))
def Su:=(sb 0 327 (lc (qo 5) ln) (sb 1 136 (lc (qk 80 1) ln) (sb 2 239 (lc (qp 6 0) ln) (sb 3 226 (lc (qf 241 (lc (qp 7 0) ln)) ln) (sb 4 226 (lc (qf 263 (lc (qp 0 0) (lc (qp 1 0) (lc (qp 2 0) (lc (qp 3 0) (lc (qp 4 0) ln)))))) ln) (sm 5 .k3 .i (sb 6 296 (lc (qo 8) (lc (qo 9) (lc (qo 10) (lc (qo 11) (lc qb ln))))) (sb 7 3 (aW ln) (sr 8 3 (sr 9 113 (sm 10 .k1 .i (sm 11 .k3 .i sn))))))))))))
def US(M:Int->Int->Int->(aa ((Int×Int×Int)×Int))->aH->(aa Int)->(aa aF)->(aa (Int×Int))->(aa ((Int×Int×Int)×Int))->Bool->Int->af kr):aI->aI:=eY wR 263 12 Tf Su Ua (λg=>M g.1.1.1 g.1.1.2.1 g.1.1.2.2.1 g.2.2.2.2.2.2.1 g.2.2.1.1.1 g.2.2.2.2.2.2.2.2.2.1 g.2.2.2.2.2.2.2.2.2.2.1 g.2.2.2.2.2.2.2.2.2.2.2.1 g.2.2.2.2.2.2.2.2.2.2.2.2.1 g.2.2.2.2.2.2.2.1.2.2.2.2.1 g.2.2.2.2.2.2.2.2.1.1)
def MG(M:Int->Int->Int->(aa ((Int×Int×Int)×Int))->aH->(aa Int)->(aa aF)->(aa (Int×Int))->(aa ((Int×Int×Int)×Int))->Bool->Int->af kr):Prop:=HY wR 263 12 Tf Su Ua (λg=>M g.1.1.1 g.1.1.2.1 g.1.1.2.2.1 g.2.2.2.2.2.2.1 g.2.2.1.1.1 g.2.2.2.2.2.2.2.2.2.1 g.2.2.2.2.2.2.2.2.2.2.1 g.2.2.2.2.2.2.2.2.2.2.2.1 g.2.2.2.2.2.2.2.2.2.2.2.2.1 g.2.2.2.2.2.2.2.1.2.2.2.2.1 g.2.2.2.2.2.2.2.2.1.1)
def Hg{M:Int->Int->Int->(aa ((Int×Int×Int)×Int))->aH->(aa Int)->(aa aF)->(aa (Int×Int))->(aa ((Int×Int×Int)×Int))->Bool->Int->af kr}(hM:MG M){F:aI}(h:ak wR F):ak wR (US M F):=dG hM ⟨_,func263,by kernel_rfl,by kernel_rfl⟩ (λ_=>by kernel_rfl) h
def Us(M263L:Int->Int->Int->(aa ((Int×Int×Int)×Int))->aH->(aa Int)->(aa aF)->(aa (Int×Int))->(aa ((Int×Int×Int)×Int))->Bool->Int->af kr):aI:=(US M263L (uc (awJ (VS (GW (Rw (L6 cw)))))))
def S8{M263L}(h263L:MG M263L):ak wR (Us M263L):=(Hg h263L (dZ (aeU (ve (nX (ru (nH aQ)))))))
def UR(M263L:Int->Int->Int->(aa ((Int×Int×Int)×Int))->aH->(aa Int)->(aa aF)->(aa (Int×Int))->(aa ((Int×Int×Int)×Int))->Bool->Int->af kr):An:= .no
def aoA(M263L:Int->Int->Int->(aa ((Int×Int×Int)×Int))->aH->(aa Int)->(aa aF)->(aa (Int×Int))->(aa ((Int×Int×Int)×Int))->Bool->Int->af kr):bx wR (Us M263L) 12 300 263 (UR M263L):=aD (l:=[]) func263 (aq (by kernel_rfl)) (by kernel_rfl) aC
def ue(M263L:Int->Int->Int->(aa ((Int×Int×Int)×Int))->aH->(aa Int)->(aa aF)->(aa (Int×Int))->(aa ((Int×Int×Int)×Int))->Bool->Int->af kr)(a0_0:Int)(a0_1:Int)(a0_2:Int)(aS:aa ((Int×Int×Int)×Int))(b1_0_0:aH)(b6_0:aa Int)(b6_1:aa aF)(b6_2:aa (Int×Int))(b6_3:aa ((Int×Int×Int)×Int))(b6_4:Bool)(b7_0:Int):af kr:=
 bif(dA aS (a0_0,a0_1,a0_2)).isSome then Q (((dA aS (a0_0,a0_1,a0_2)).getD 0,aS,b1_0_0,b6_0,b6_1,b6_2,b6_3,b6_4,b7_0))else match jt [b1_0_0][0]! a0_0 with|J=>J|Q r1=>bif Z ((if r1<[b1_0_0][0]!.ah then r1 else[b1_0_0][0]!.ah)=[b1_0_0][0]!.ah)then if 0<=a0_0/\a0_0<(↑[b1_0_0][0]!.aR.length:Int)then match sy (PO [b1_0_0][0]!.aR[a0_0.toNat]! (0) 0 b7_0).fst b6_0 b6_1 b6_2 b6_3 b6_4 with|J=>J|Q r2=>Q ((r2.fst,fQ aS (a0_0,a0_1,a0_2) r2.fst,b1_0_0,r2.snd.fst,r2.snd.snd.fst,r2.snd.snd.snd.fst,r2.snd.snd.snd.snd.fst,r2.snd.snd.snd.snd.snd,(PO [b1_0_0][0]!.aR[a0_0.toNat]! (0) 0 b7_0).snd))else J else match oF [b1_0_0][0]! a0_0 (if r1<[b1_0_0][0]!.ah then r1 else[b1_0_0][0]!.ah) V with|J=>J|Q r3=>match oF [b1_0_0][0]! a0_0 (if r1<[b1_0_0][0]!.ah then r1 else[b1_0_0][0]!.ah) O with|J=>J|Q r4=>match M263L r3 0 0 aS b1_0_0 b6_0 b6_1 b6_2 b6_3 b6_4 b7_0 with|J=>J|Q r5=>match M263L r4 0 0 r5.snd.fst r5.snd.snd.fst r5.snd.snd.snd.fst r5.snd.snd.snd.snd.fst r5.snd.snd.snd.snd.snd.fst r5.snd.snd.snd.snd.snd.snd.fst r5.snd.snd.snd.snd.snd.snd.snd.fst r5.snd.snd.snd.snd.snd.snd.snd.snd with|J=>J|Q r6=>match Bw (if r1<[b1_0_0][0]!.ah then r1 else[b1_0_0][0]!.ah) r5.fst r6.fst r6.snd.snd.snd.fst r6.snd.snd.snd.snd.fst r6.snd.snd.snd.snd.snd.fst r6.snd.snd.snd.snd.snd.snd.fst r6.snd.snd.snd.snd.snd.snd.snd.fst with|J=>J|Q r7=>Q ((r7.fst,fQ r6.snd.fst (a0_0,a0_1,a0_2) r7.fst,r6.snd.snd.fst,r7.snd.fst,r7.snd.snd.fst,r7.snd.snd.snd.fst,r7.snd.snd.snd.snd.fst,r7.snd.snd.snd.snd.snd,r6.snd.snd.snd.snd.snd.snd.snd.snd))
def ark(M263L:Int->Int->Int->(aa ((Int×Int×Int)×Int))->aH->(aa Int)->(aa aF)->(aa (Int×Int))->(aa ((Int×Int×Int)×Int))->Bool->Int->af kr)(a0_0:Int)(a0_1:Int)(a0_2:Int)(aS:aa ((Int×Int×Int)×Int))(b1_0_0:aH)(b6_0:aa Int)(b6_1:aa aF)(b6_2:aa (Int×Int))(b6_3:aa ((Int×Int×Int)×Int))(b6_4:Bool)(b7_0:Int):aO wR (Us M263L) 300 (UR M263L) 263 (Tf.c ((a0_0,a0_1,a0_2,()),(),(),(),(),(),())) (Su.d (((),()),((b1_0_0,()),()),((),()),(((),()),()),(((),(),(),(),(),()),()),aS,((),(),(),(),b6_4,()),(b7_0,()),b6_0,b6_1,b6_2,b6_3,())) 12 Ua.rd=ue M263L a0_0 a0_1 a0_2 aS b1_0_0 b6_0 b6_1 b6_2 b6_3 b6_4 b7_0:=by kernel_rfl
def pI:Nat->(Int->Int->Int->(aa ((Int×Int×Int)×Int))->aH->(aa Int)->(aa aF)->(aa (Int×Int))->(aa ((Int×Int×Int)×Int))->Bool->Int->af kr)
 |0=>(λ_ _ _ _ _ _ _ _ _ _ _=>J)
 |n+1=>(ue (pI n))
def Je(n:Nat):Int->Int->Int->(aa ((Int×Int×Int)×Int))->aH->(aa Int)->(aa aF)->(aa (Int×Int))->(aa ((Int×Int×Int)×Int))->Bool->Int->af kr:=(pI n)
def CZ:∀n,MG (Je n)
 |0=>λ_ _ h=>(by cases h)
 |n+1=>by
  have ih:=CZ n;have i263L:=ih;exact(dN (S8 i263L) (aoA (Je n)) (λ_=>by kernel_rfl) (λ_=>by kernel_rfl) (λ_=>by kernel_rfl) λg=>ark (Je n) g.1.1.1 g.1.1.2.1 g.1.1.2.2.1 g.2.2.2.2.2.2.1 g.2.2.1.1.1 g.2.2.2.2.2.2.2.2.2.1 g.2.2.2.2.2.2.2.2.2.2.1 g.2.2.2.2.2.2.2.2.2.2.2.1 g.2.2.2.2.2.2.2.2.2.2.2.2.1 g.2.2.2.2.2.2.2.1.2.2.2.2.1 g.2.2.2.2.2.2.2.2.1.1)
def MU:Int->Int->Int->(aa ((Int×Int×Int)×Int))->aH->(aa Int)->(aa aF)->(aa (Int×Int))->(aa ((Int×Int×Int)×Int))->Bool->Int->af kr:=λa0_0 a0_1 a0_2 aS b1_0_0 b6_0 b6_1 b6_2 b6_3 b6_4 b7_0=>lim (λn=>Je n a0_0 a0_1 a0_2 aS b1_0_0 b6_0 b6_1 b6_2 b6_3 b6_4 b7_0)
def VV:MG MU:=λg b h=>by
 obtain⟨n,hn⟩:=bX (show lim (λn=>Je n g.1.1.1 g.1.1.2.1 g.1.1.2.2.1 g.2.2.2.2.2.2.1 g.2.2.1.1.1 g.2.2.2.2.2.2.2.2.2.1 g.2.2.2.2.2.2.2.2.2.2.1 g.2.2.2.2.2.2.2.2.2.2.2.1 g.2.2.2.2.2.2.2.2.2.2.2.2.1 g.2.2.2.2.2.2.2.1.2.2.2.2.1 g.2.2.2.2.2.2.2.2.1.1)=Q b from h);exact(CZ n) g b hn
def agA(F:aI):aI:=US MU F
def vE{F:aI}(h:ak wR F):ak wR (agA F):=Hg VV h
def apJ:aI:=(jr wR (agA (uc (arq (P8 (apc cw))))) (λf=>zh f 149||zh f 156||zh f 243||zh f 263) 300 10)
def acM:ak wR apJ:=⟨gM (ak.ok (vE (dZ (EV (fZ (uS aQ)))))) (ak.nat (P:=wR) (vE (dZ (EV (fZ (uS aQ)))))) 300 10,ga (ak.nat (P:=wR) (vE (dZ (EV (fZ (uS aQ)))))) 300 10⟩
abbrev ar3:=bO×Int
def d184:Td 0 ar3:= .c [] [4,5] (.r 0 1 (ec 4 (qp 0 0) (ec 5 aL en)) (sb 0 42 (lg 42) sn) (λz=>(z.2.1,z.1.2.1)) (λx=>(((),x.2,()),(x.1,()))))
def auo:=(lc (qg 80) (aW ln))
def aio:An:= .no
def avK:bx wR (apJ) 0 300 184 (aio):=aD (l:=[]) func184 (aq (by kernel_rfl)) (by kernel_rfl) aC
def PV(a0:aH)(a1:Int):af ar3:=
 match Ru [a0]with|J=>J|Q r1=>bif bif Z (r1=0)then V else O then Q ((bO.mk (0) [] (0),r1))else match MU [a0][0]!.bu (0) (0) [] a0 gx.fst gx.snd.fst gx.snd.snd.fst gx.snd.snd.snd.fst gx.snd.snd.snd.snd a1 with|J=>J|Q r2=>match Sw a0.ah r2.fst r2.snd.snd.snd.fst r2.snd.snd.snd.snd.fst r2.snd.snd.snd.snd.snd.fst r2.snd.snd.snd.snd.snd.snd.fst r2.snd.snd.snd.snd.snd.snd.snd.fst with|J=>J|Q r3=>Q ((r3.fst,r3.snd.fst))
def aAt(a0:aH)(a1:Int):aO wR (apJ) 300 (aio) 184 (auo.c (a0,a1,())) [] 0 d184.rd=PV a0 a1:=by kernel_rfl
def atD:aI->aI:=eZ wR 184 auo d184 (λg=>PV g.1 g.2.1)
def aeg{F:aI}(h:ak wR F):ak wR (atD F):=gh (bq acM avK (λ_=>by kernel_rfl) (λ_=>by kernel_rfl) λg=>aAt g.1 g.2.1) ⟨_,func184,by kernel_rfl,by kernel_rfl⟩ (λ_=>by kernel_rfl) h
end Go.Proofs.YtghilkcphindjaaGreat
end
