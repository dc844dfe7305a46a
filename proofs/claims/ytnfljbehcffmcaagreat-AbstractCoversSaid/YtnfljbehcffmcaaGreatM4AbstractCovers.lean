/- Merged: Ne11, Ne12, Ne13, Ne14, Ne15, Ne16, Ne17, Ne18, Ne19, Ne20, Ne21, Ne22, Ne23, Ne24, Ne25, Ne26, Ne27, Ne28, Ne29, Ga, Pfew, Pd, Gb, Pv1, Pv3, Pv1b. -/
import Derived.Test.YtnfljbehcffmcaaGreatM3AbstractCovers
import Derived.Test.YtnfljbehcffmcaaGreatM2AbstractCovers
open Int renaming toNat_natCast → za, le_refl → zg, mul_nonneg → zq, mul_comm → zA, mul_le_mul_of_nonneg_right → zG, add_mul → zI, mul_assoc → zN, ediv_nonneg → zQ, one_mul → zR, dvd_trans → zS, ediv_le_self → ye, sub_mul → yl, dvd_sub → ym, gcd → yy, toNat → yC, mul_ediv_add_emod → yL, emod_nonneg → yM, dvd_add → yO, emod_lt_of_pos → yR, mul_add → yS, dvd_zero → yU, ediv_mul_le → yV, le_trans → y6, dvd_mul_left → y7, mul_one → y8, dvd_mul_right → y9, natCast_mul → xh, zero_mul → xG, zero_dvd → xH, le_total → xI, min_eq_right → xJ, natAbs_tmod → xK, mul_sub → xL, mul_neg → xN, ediv_mul_cancel → x9, lt_of_mul_lt_mul_right → wo, dvd_of_emod_eq_zero → wq, min_eq_left → wu, tmod_nonneg → wv, lt_ediv_add_one_mul_self → wH, mul_tdiv_add_tmod → wI, mul_le_mul_of_nonpos_right → wJ
open Nat renaming lt_succ_self → zw, le_trans → zx, le_refl → zD, add_mul → yb, not_lt_zero → yD, mul_le_mul_right → yF, mod_lt → yP, lt_succ_iff_lt_or_eq → yT, one_mul → xM, div_add_mod → wk
open List renaming length_append → zh, mem_cons_self → zi, mem_cons → zy, mem_singleton → zC, range → zH, take_length → zM, mem_append → zU, length_take → zZ, mem_filter → z6, drop → z7, map_append → yc, nil_append → yg, map_cons → yh, append_nil → yj, getElem_map → yo, length_filter_le → yp, map_nil → y5, length_range → xb, take_append_drop → xe, filter_append → xk, drop_of_length_le → xo, cons_append → xw, getElem_mem → xx, take_zero → xE, attach_map_val → xO, drop_eq_getElem_cons → xR, getElem_of_mem → xS, getElem_range → wz, sizeOf_lt_of_mem → wK
open Bool renaming cond_decide → ze, and_eq_true → zf, or_eq_true → yJ, true → wO, false → wN
open Option renaming some → zF, some → V, none → O
open Decidable renaming decide → wP
open Go.Proofs.Tryz renaming prog → wQ
open Go.Proofs.Tryz
set_option linter.unusedSectionVars false
set_option linter.unusedVariables false
set_option linter.unusedSimpArgs false
set_option linter.defProp false
noncomputable section
set_option maxRecDepth 100000
namespace Go.Proofs.YtnfljbehcffmcaaGreat
open Go Go.Iv
open Go.IntKind (i64 u64)
def gv{a:aI}(h:NV a):cq a=wO↔∃x,bz a x/\x≠0:=by
 unfold cq
 rcases h with rfl|h
 ·rw[show cV cy=0 from by unfold cV;rw[bw rfl],jC,jC]
  exact⟨fun k=>(by cases k),fun⟨x,k,_⟩=>cQ k uV⟩
 ·have hp:=size_pos h
  have h1:=j5 h
  have hle:=h.le
  have mlo:bz a a.af:=⟨zg _,h.le,⟨0,by omega⟩⟩
  have mhi:bz a a.aa:=⟨h.le,zg _,h.dvd⟩
  by_cases c:1<cV a
  ·rw[bw c]
   refine⟨fun _=> ?_,fun _=>rfl⟩
   by_cases z:a.af=0
   ·exact⟨a.aa,mhi,fun k=>by have:=h1.mpr (by omega);omega⟩
   ·exact⟨a.af,mlo,z⟩
  ·rw[bF c,bw (show cV a=1 by omega)]
   have e:=h1.mp (by omega)
   constructor
   ·intro k
    refine⟨a.af,mlo,fun z=> ?_⟩
    rw[fQ (show bz a 0 by rw[<-z];exact mlo)]at k
    cases k
   ·rintro⟨x,k1,k2⟩
    rw[jq (show ¬bz a 0 from fun k=>by have:=k.1;have:=k.2.1;have:=k1.1;have:=k1.2.1;omega)]
    rfl
def zero_or{a:aI}(h:NN a):(cq a||cG a 0)=wO:=by
 have mlo:bz a a.af:=⟨zg _,h.le,⟨0,by omega⟩⟩
 by_cases z:a.af=0
 ·rw[fQ (show bz a 0 by rw[<-z];exact mlo),Bool.or_true]
 ·rw[(gv (.inr h)).mpr ⟨_,mlo,z⟩,Bool.true_or]
def agn(a:aI):aI:=aI.mk (-a.aa) (-a.af) a.ai
def acU{a:aI}(h:NN a):NN (agn a):=by
 have:=h.lo;have:=h.hi;have:=h.le
 refine⟨by show _<= -a.aa;omega,by show-a.af<=_;omega,by show-a.aa<= -a.af;omega,?_⟩
 rcases h.st with ⟨h1,h2⟩|⟨h1,h2,h3⟩
 ·exact .inl ⟨by show-a.aa= -a.af;omega,h2⟩
 ·refine .inr ⟨by show-a.aa< -a.af;omega,h2,?_⟩
  show (-a.af- -a.aa)%a.ai=0
  rw[show-a.af- -a.aa=a.aa-a.af by omega]
  exact h3
def mI(op:Int)(a:aI):aI×Int:=open Classical in
 if¬NV a\/(op≠6/\op≠7)then(aI.mk 0 0 0,1)else if a=cy then(cy,0)else if op=7 then(fS (cq a) (cG a 0),0)else(agn a,0)
def Vf(op:Int):(bif bif wP (op=6)then wN else wO then V (bif wP (op=7)then wN else wO)else V wN)=V (wP (op≠6/\op≠7)):=by
 by_cases h:op=6
 ·rw[bP h,bO (show ¬(op≠6/\op≠7)from fun k=>k.1 h)];rfl
 ·by_cases k:op=7
  ·rw[bO h,bP k,bO (show ¬(op≠6/\op≠7)from fun e=>e.2 k)];rfl
  ·rw[bO h,bO k,bP (show op≠6/\op≠7 from⟨h,k⟩)];rfl
def Ry{a:aI}(h:NV a)(op:Int):aeV op a=V (mI op a):=by
 unfold aeV mI
 rw[eR,dX h]
 simp only[bE,bA]
 rw[Vf]
 by_cases ho:op≠6/\op≠7
 ·rw[bP ho,bw (.inr ho)];rfl
 ·rw[bO ho,bF (fun k=>k.elim (fun e=>e h) ho)]
  simp only[bA]
  rcases h with rfl|h
  ·rw[iT,bw rfl];rfl
  ·rw[eF h.ne,bF h.ne,bA]
   by_cases h7:op=7
   ·rw[bP h7,bw h7,bE,CT (.inr h)]
    simp only
    rw[Qr]
   ·rw[bO h7,bF h7,bA]
    have:=h.lo;have:=h.hi;have:=h.le
    rw[aF (n:=0-a.aa),aF (n:=0-a.af),Int.zero_sub,Int.zero_sub]
    rfl
def Pz:NV (aI.mk 0 0 0):= .inr (NN.one (x:=0) (by omega) (by omega))
def ni(x y:Int):Int:=if y=0 then 0 else if x.tmod y≠0/\(wP (x<0))≠(wP (y<0))then x.tdiv y-1 else x.tdiv y
def tJ{x y:Int}(hy:y≠0):∃q r:Int,x.tdiv y=q/\x.tmod y=r/\y*q+r=x/\r.natAbs<y.natAbs/\q.natAbs<=x.natAbs/\(0<=x->0<=r)/\(x<=0->r<=0)/\(r≠0->q.natAbs<x.natAbs):=by
 refine⟨_,_,rfl,rfl,wI x y,?_,?_,fun h=>wv _ h,fun h=> ?_,fun h=> ?_⟩
 ·rw[xK];exact yP _ (by omega)
 ·rw[Int.natAbs_tdiv];exact Nat.div_le_self _ _
 ·have:=wv (a:= -x) y (by omega)
  rw[Int.neg_tmod]at this
  omega
 ·have e:=wk x.natAbs y.natAbs
  have hr:(x.tmod y).natAbs≠0:=by omega
  rw[xK]at hr
  rw[Int.natAbs_tdiv]
  have h1:x.natAbs/y.natAbs<=y.natAbs*(x.natAbs/y.natAbs):=Nat.le_mul_of_pos_left _ (by omega)
  show x.natAbs/y.natAbs<x.natAbs
  omega
def Pe{x y:Int}(hx:bY x):bY (ni x y)/\(ni x y).natAbs<=x.natAbs:=by
 unfold ni
 obtain⟨h1,h2⟩:=hx
 by_cases hy:y=0
 ·rw[bw hy];exact⟨⟨by omega,by omega⟩,by omega⟩
 ·rw[bF hy]
  obtain⟨q,r,e1,e2,e3,e4,e5,_,_,e6⟩:=tJ (x:=x) hy
  rw[e1,e2]
  split
  ·rename_i h
   have:=e6 h.1
   exact⟨⟨by omega,by omega⟩,by omega⟩
  ·exact⟨⟨by omega,by omega⟩,by omega⟩
def P6{x y:Int}(hy:bY y)(h0:y≠0):bY (x-y*ni x y)/\(0<y->0<=x-y*ni x y/\x-y*ni x y<y)/\(y<0->x-y*ni x y<=0/\y<x-y*ni x y):=by
 unfold ni
 rw[bF h0]
 obtain⟨h1,h2⟩:=hy
 obtain⟨q,r,e1,e2,e3,e4,e5,e7,e8,e6⟩:=tJ (x:=x) h0
 rw[e1,e2]
 by_cases h:r≠0/\wP (x<0)≠wP (y<0)
 ·rw[bw h,xL,y8]
  obtain⟨k1,k2⟩:=h
  by_cases c:x<0
  ·have c2:¬y<0:=fun k=>k2 (by rw[bP c,bP k])
   have:=e8 (by omega)
   exact⟨⟨by omega,by omega⟩,fun _=>by omega,fun _=>by omega⟩
  ·have c2:y<0:=Decidable.byContradiction fun k=>k2 (by rw[bO c,bO k])
   have:=e7 (by omega)
   exact⟨⟨by omega,by omega⟩,fun _=>by omega,fun _=>by omega⟩
 ·rw[bF h]
  by_cases k1:r=0
  ·exact⟨⟨by omega,by omega⟩,fun _=>by omega,fun _=>by omega⟩
  ·have k2:wP (x<0)=wP (y<0):=Decidable.byContradiction fun k=>h ⟨k1,k⟩
   by_cases c:x<0
   ·have c2:y<0:=by
     rw[bP c]at k2
     exact of_decide_eq_true k2.symm
    have:=e8 (by omega)
    exact⟨⟨by omega,by omega⟩,fun _=>by omega,fun _=>by omega⟩
   ·have c2:¬y<0:=by
     rw[bO c]at k2
     exact of_decide_eq_false k2.symm
    have:=e7 (by omega)
    exact⟨⟨by omega,by omega⟩,fun _=>by omega,fun _=>by omega⟩
def IU{x y:Int}(hx:bY x)(hy:bY y):We x y=V (ni x y):=by
 have hR:=Pe (y:=y) hx
 unfold We
 unfold ni at hR ⊢
 obtain⟨h1,h2⟩:=hx
 by_cases h0:y=0
 ·rw[bP h0,bw h0];rfl
 ·rw[bF h0]at hR
  rw[bO h0,bF h0,bA,bw h0,bw h0,Cd]
  obtain⟨q,r,e1,e2,e3,e4,e5,e7,e8,e6⟩:=tJ (x:=x) h0
  rw[e1,e2]at hR ⊢
  by_cases k1:r=0
  ·rw[bO (show ¬¬r=0 by omega),bF (fun k=>k.1 k1)]
   simp only[bA]
   rw[aF]
  ·rw[bP k1]
   simp only[bE]
   by_cases k2:wP (x<0)=wP (y<0)
   ·rw[bF (fun k=>k.2 k2),k2]
    have:(bif wP (y<0)==wP (y<0)then false else true)=false:=by cases wP (y<0)<;>rfl
    rw[this]
    simp only[bA]
    rw[aF]
   ·rw[bw ⟨k1,k2⟩]at hR ⊢
    have:(bif wP (x<0)==wP (y<0)then wN else wO)=wO:=by
     revert k2
     cases wP (x<0)<;>cases wP (y<0)<;>first|(intro k2;exact cQ rfl k2)|(intro _;rfl)
    rw[this]
    simp only[bE]
    rw[aF (n:=q),aF (n:=q-1)]
def Sy{x y:Int}(hx:bY x)(hy:bY y):adN x y=V (ni x y):=IU hx hy
def mT(b:Bool):Int:=if b then 1 else 0
def fo(op x y:Int):Int:=
 if op=8 then x+y else if op=9 then x-y else if op=10 then x*y else if op=11 then ni x y else if op=12 then(if y=0 then 0 else x-y*ni x y)
 else if op=13 then mT (wP (x=y))else if op=14 then mT (!wP (x=y))else if op=15 then mT (wP (x<y))else if op=16 then mT (wP (x<=y))else if op=17 then mT (wP (y<x))else if op=18 then mT (wP (y<=x))
 else if op=19 then mT (wP (x≠0/\y≠0))else if op=20 then mT (wP (x≠0\/y≠0))else if op=21 then min x y else max x y
def s8(b:Bool):bY (mT b):=by cases b<;>exact⟨by decide,by decide⟩
def agw{op x y:Int}(hx:bY x)(hy:bY y)(ho:op=11\/op=12\/op=21\/op=22):T9 op x y=V (fo op x y):=by
 unfold T9 fo
 rcases ho with rfl|rfl|rfl|rfl
 ·rw[bP rfl,bE,IU hx hy];rfl
 ·rw[bO (by decide),bP rfl,bA,bE]
  show _=V (if y=0 then 0 else x-y*ni x y)
  by_cases h0:y=0
  ·rw[bP h0,bw h0];rfl
  ·rw[bO h0,bF h0,bA,IU hx hy]
   simp only
   have hm:=P6 (x:=x) hy h0
   obtain⟨a1,a2⟩:=hx
   obtain⟨b1,b2⟩:=hy
   obtain⟨⟨c1,c2⟩,_⟩:=hm
   rw[aF (n:=y*ni x y),aF]
 ·rw[bO (by decide),bO (by decide),bP rfl]
  simp only[bA,bE]
  rw[show (if y<x then y else x)=min x y by split<;>omega]
  rfl
 ·rw[bO (show ¬(22:Int)=11 by decide),bO (show ¬(22:Int)=12 by decide),bO (show ¬(22:Int)=21 by decide)]
  simp only[bA]
  rw[show (if x<y then y else x)=max x y by split<;>omega]
  rfl
def binop(op:Int):Prop:=8<=op/\op<=22
def vQ{x:Int}(hx:bY x):@Eq Int (jz x 0) ((x.natAbs:Nat):Int):=by
 unfold jz
 obtain⟨h1,h2⟩:=hx
 by_cases c:x<0
 ·rw[bP c,bE,aF];show @Eq Int (0-x) ((x.natAbs:Nat):Int);omega
 ·rw[bO c,bA,aF];show @Eq Int (x-0) ((x.natAbs:Nat):Int);omega
def m5{x:Int}(hx:bY x):@Eq Int (jD x) ((x.natAbs:Nat):Int):=by
 obtain⟨h1,h2⟩:=hx
 obtain⟨k1,k2⟩:=Is (x:=x) (by omega) (by omega)
 generalize jD x=z at*
 have k1:(0:Int)<=z:=k1
 have k2:@Eq Int z x\/@Eq Int z (-x):=k2
 show @Eq Int z ((x.natAbs:Nat):Int)
 omega
def MC{x y:Int}(h0:x≠0):((1099511627776:Int)/x.natAbs<y.natAbs)↔¬bY (x*y):=by
 have hp:(0:Int)<(x.natAbs:Int):=by omega
 have e:((x*y).natAbs:Int)=(y.natAbs:Int)*(x.natAbs:Int):=by rw[Int.natAbs_mul,xh,zA]
 have hi:bY (x*y)↔((x*y).natAbs:Int)<=1099511627776:=⟨fun⟨h1,h2⟩=>by omega,fun h=>⟨by omega,by omega⟩⟩
 rw[hi,e,<-Int.le_ediv_iff_mul_le hp]
 omega
def aeU(b:Bool):u5 b=mT b:=by cases b<;>rfl
def dZ{op x y v:Int}(h:v=fo op x y)(hr:bY (fo op x y)):∃w,V (v,wO)=V (w,wP (bY (fo op x y)))/\(bY (fo op x y)->w=fo op x y):=⟨v,by rw[bP hr],fun _=>h⟩
def afa{x y:Int}(hx:bY x)(hy:bY y):∃v,afB x y=V (v,wP (bY (x*y)))/\(bY (x*y)->v=x*y):=by
 unfold afB
 rw[Cd,Cd,vQ hx,vQ hy]
 by_cases h0:x=0
 ·subst h0
  rw[bO (show ¬¬(0:Int)=0 from fun k=>k rfl)]
  simp only[bA]
  rw[xG,aF,bP (show bY 0 from⟨by omega,by omega⟩)]
  exact⟨0,rfl,fun _=>rfl⟩
 ·rw[bP h0,bE]
  by_cases h1:y=0
  ·subst h1
   rw[bO (show ¬¬(0:Int)=0 from fun k=>k rfl)]
   simp only[bA]
   rw[Int.mul_zero,aF,bP (show bY 0 from⟨by omega,by omega⟩)]
   exact⟨0,rfl,fun _=>rfl⟩
  ·rw[bP h1,bE,bw (show ¬@Eq Int ((y.natAbs:Nat):Int) 0 by omega),j6]
   have q0:0<=(1099511627776:Int)/((y.natAbs:Nat):Int):=zQ (by omega) (by omega)
   have q1:(1099511627776:Int)/((y.natAbs:Nat):Int)<=1099511627776:=ye _ (by omega)
   rw[aF]
   simp only
   have k:=MC (x:=y) (y:=x) h1
   rw[zA]at k
   by_cases c:(1099511627776:Int)/((y.natAbs:Nat):Int)<((x.natAbs:Nat):Int)
   ·rw[bP c,bO (k.mp c)]
    exact⟨0,rfl,fun e=>cQ e (k.mp c)⟩
   ·have hR:bY (x*y):=Decidable.byContradiction fun e=>c (k.mpr e)
    rw[bO c,bP hR,aF (by have:=hR.1;omega) (by have:=hR.2;omega)]
    exact⟨x*y,rfl,fun _=>rfl⟩
def CH{x y:Int}(hx:bY x)(hy:bY y):∃v,Od x y=V (v,wP (bY (x*y)))/\(bY (x*y)->v=x*y):=by
 unfold Od
 rw[Cd,m5 hx,m5 hy]
 by_cases h0:x=0
 ·subst h0
  rw[bO (show ¬¬(0:Int)=0 from fun k=>k rfl)]
  simp only[bA]
  rw[xG,aF,bP (show bY 0 from⟨by omega,by omega⟩)]
  exact⟨0,rfl,fun _=>rfl⟩
 ·rw[bP h0,bE,bw (show ¬@Eq Int ((x.natAbs:Nat):Int) 0 by omega),j6]
  have q0:0<=(1099511627776:Int)/((x.natAbs:Nat):Int):=zQ (by omega) (by omega)
  have q1:(1099511627776:Int)/((x.natAbs:Nat):Int)<=1099511627776:=ye _ (by omega)
  rw[aF]
  simp only
  have k:=MC (x:=x) (y:=y) h0
  by_cases c:(1099511627776:Int)/((x.natAbs:Nat):Int)<((y.natAbs:Nat):Int)
  ·rw[bP c,bO (k.mp c)]
   exact⟨0,rfl,fun e=>cQ e (k.mp c)⟩
  ·have hR:bY (x*y):=Decidable.byContradiction fun e=>c (k.mpr e)
   rw[bO c,bP hR,aF (by have:=hR.1;omega) (by have:=hR.2;omega)]
   exact⟨x*y,rfl,fun _=>rfl⟩
def me{op x y:Int}(hx:bY x)(hy:bY y)(ho:binop op):∃v,Dc op x y=V (v,wP (bY (fo op x y)))/\(bY (fo op x y)->v=fo op x y):=by
 obtain⟨o1,o2⟩:=ho
 have hx':=hx
 have hy':=hy
 obtain⟨a1,a2⟩:=hx'
 obtain⟨b1,b2⟩:=hy'
 have cases15:op=8\/op=9\/op=10\/op=11\/op=12\/op=13\/op=14\/op=15\/op=16\/op=17\/op=18\/op=19\/op=20\/op=21\/op=22:=by omega
 unfold Dc
 simp only[Dv,aeU]
 rcases cases15 with rfl|rfl|rfl|rfl|rfl|rfl|rfl|rfl|rfl|rfl|rfl|rfl|rfl|rfl|rfl
 all_goals simp only[Int.reduceEq,gh,dx,bA,bE]
 ·rw[aF]
  exact⟨x+y,rfl,fun _=>rfl⟩
 ·rw[aF]
  exact⟨x-y,rfl,fun _=>rfl⟩
 ·obtain⟨v,e,h⟩:=afa hx hy
  rw[e]
  exact⟨v,rfl,h⟩
 ·rw[Sy hx hy]
  exact dZ (op:=11) rfl (Pe hx).1
 ·by_cases h0:y=0
  ·rw[bP h0]
   have e:fo 12 x y=0:=bw h0
   exact dZ (op:=12) e.symm (by rw[e];exact⟨by omega,by omega⟩)
  ·rw[bO h0,bA,Sy hx hy]
   simp only
   have e:fo 12 x y=x-y*ni x y:=bF h0
   have hm:=(P6 (x:=x) hy h0).1
   obtain⟨c1,c2⟩:=hm
   rw[aF (n:=y*ni x y),aF]
   exact dZ (op:=12) e.symm (by rw[e];exact⟨c1,c2⟩)
 ·exact dZ (op:=13) rfl (s8 _)
 ·refine dZ (op:=14) ?_ (s8 _)
  show mT _=mT _
  congr 1
 ·exact dZ (op:=15) rfl (s8 _)
 ·exact dZ (op:=16) rfl (s8 _)
 ·exact dZ (op:=17) rfl (s8 _)
 ·exact dZ (op:=18) rfl (s8 _)
 ·rw[Cd,Cd]
  by_cases h0:x=0
  ·rw[bO (show ¬¬x=0 from fun k=>k h0),bA]
   refine dZ (op:=19) ?_ (s8 _)
   show mT wN=mT (wP (x≠0/\y≠0))
   rw[bO (fun k=>k.1 h0)]
  ·rw[bP h0,bE]
   refine dZ (op:=19) ?_ (s8 _)
   show mT _=mT (wP (x≠0/\y≠0))
   congr 1
   exact decide_eq_decide.mpr ⟨fun k=>⟨h0,k⟩,fun k=>k.2⟩
 ·rw[Cd,Cd]
  by_cases h0:x=0
  ·rw[bO (show ¬¬x=0 from fun k=>k h0),bA]
   refine dZ (op:=20) ?_ (s8 _)
   show mT _=mT (wP (x≠0\/y≠0))
   congr 1
   exact decide_eq_decide.mpr ⟨.inr,fun k=>k.elim (fun e=>cQ h0 e) id⟩
  ·rw[bP h0,bE]
   refine dZ (op:=20) ?_ (s8 _)
   show mT wO=mT (wP (x≠0\/y≠0))
   rw[bP (.inl h0)]
 ·by_cases c:x<y
  ·rw[bP c]
   have e:fo 21 x y=x:=wu (by omega)
   exact dZ (op:=21) e.symm (by rw[e];exact hx)
  ·rw[bO c]
   have e:fo 21 x y=y:=xJ (by omega)
   exact dZ (op:=21) e.symm (by rw[e];exact hy)
 ·by_cases c:y<x
  ·rw[bP c]
   have e:fo 22 x y=x:=Int.max_eq_left (by omega)
   exact dZ (op:=22) e.symm (by rw[e];exact hx)
  ·rw[bO c]
   have e:fo 22 x y=y:=Int.max_eq_right (by omega)
   exact dZ (op:=22) e.symm (by rw[e];exact hy)
def kS(a:aI)(k:Nat):Int:=a.af+(k:Int)*a.ai
def cnt(a:aI):Nat:=(cV a).toNat
def gd{a:aI}(h:NN a):cV a=(cnt a:Int):=by have:=size_pos h;unfold cnt;omega
def iL{a:aI}(h:NN a):1<=cnt a:=by have:=size_pos h;unfold cnt;omega
def Ws{a:aI}(h:NN a){k:Nat}(hk:k<cnt a):a.af<=kS a k/\kS a k<=a.aa:=by
 have e:=gd h
 rw[CE h]at e
 have hs:=h.s0
 have k0:0<=(k:Int)*a.ai:=zq (by omega) hs
 unfold kS
 refine⟨by omega,?_⟩
 rcases h.st with ⟨h1,h2⟩|⟨h1,h2,h3⟩
 ·rw[h2,Int.mul_zero];omega
 ·rw[jC]at e
  have:(k:Int)*a.ai<=(a.aa-a.af)/a.ai*a.ai:=zG (by omega) hs
  rw[x9 (wq h3)]at this
  omega
def ic{a:aI}(h:NN a)(x:Int):bz a x↔∃k:Nat,k<cnt a/\x=kS a k:=by
 constructor
 ·rintro⟨h1,h2,q,hq⟩
  have e:=gd h
  rw[CE h]at e
  rcases h.st with ⟨k1,k2⟩|⟨k1,k2,k3⟩
  ·exact⟨0,iL h,by unfold kS;omega⟩
  ·rw[jC]at e
   rw[zA]at hq
   have q0:0<=q:=Decidable.byContradiction fun c=>by
    have:q*a.ai<= -1*a.ai:=zG (by omega) (by omega)
    omega
   have q1:q<=(a.aa-a.af)/a.ai:=Int.le_ediv_of_mul_le (by omega) (by omega)
   refine⟨q.toNat,by omega,?_⟩
   unfold kS
   rw[show ((q.toNat:Nat):Int)=q by omega,<-hq]
   omega
 ·rintro⟨k,hk,rfl⟩
  obtain⟨h1,h2⟩:=Ws h hk
  exact⟨h1,h2,by unfold kS;rw[show a.af+(k:Int)*a.ai-a.af=(k:Int)*a.ai by omega];exact y7 ..⟩
def sS{a:aI}(h:NN a){k:Nat}(hk:k<cnt a):bY (kS a k):=T6 (.inr h) ((ic h _).mpr ⟨k,hk,rfl⟩)
def oc{a:aI}(h:NN a){k:Nat}(hk:k<cnt a):FF a (k:Int)=kS a k:=by
 have:=Ws h hk
 have:=h.lo
 have:=h.hi
 have k0:0<=(k:Int)*a.ai:=zq (by omega) h.s0
 unfold FF
 unfold kS at*
 rw[aF (n:=(k:Int)*a.ai),aF]
def oU(op:Int)(a b:aI)(y:Int):Prop:=∃x z,bz a x/\bz b z/\y=fo op x z
def pref(op:Int)(a b:aI)(i:Nat)(l:List Int):Prop:=(∀y,y∈l↔∃k,k<i/\∃j,j<cnt b/\y=fo op (kS a k) (kS b j))/\l.length=i*cnt b/\∀y∈l,bY y
def ajq(op:Int)(a b:aI)(i j:Nat)(l:List Int):Prop:=(∀y,y∈l↔(∃k,k<i/\∃m,m<cnt b/\y=fo op (kS a k) (kS b m))\/∃m,m<j/\y=fo op (kS a i) (kS b m))/\l.length=i*cnt b+j/\∀y∈l,bY y
def TI{op:Int}{a b:aI}{i:Nat}{l:List Int}(h:ajq op a b i (cnt b) l):pref op a b (i+1) l:=by
 refine⟨fun y=>(h.1 y).trans ⟨?_,?_⟩,by rw[h.2.1,yb,xM],h.2.2⟩
 ·rintro(⟨k,hk,m,hm,e⟩|⟨m,hm,e⟩)
  ·exact⟨k,by omega,m,hm,e⟩
  ·exact⟨i,by omega,m,hm,e⟩
 ·rintro⟨k,hk,m,hm,e⟩
  rcases yT.mp hk with c|rfl
  ·exact .inl ⟨k,c,m,hm,e⟩
  ·exact .inr ⟨m,hm,e⟩
def Xb{op:Int}{a b c:aI}(ho:binop op)(ha:NN a)(hb:NN b)(hs:cnt a*cnt b<=1000000){i:Nat}(hi:i<cnt a){l:List Int}(hl:pref op a b i l):
  (∃l',uq (gQ.mk op l i 0 a b c)=V (gQ.mk op l' i (cnt b:Nat) a b c)/\pref op a b (i+1) l')\/
  (∃l' j,j<cnt b/\uq (gQ.mk op l i 0 a b c)=V (gQ.mk op l' i (j:Nat) a b c)/\¬bY (fo op (kS a i) (kS b j))):=by
 have hcb:cnt b<=1000000:=zx (Nat.le_mul_of_pos_left _ (iL ha)) hs
 have hlen:(i+1)*cnt b<=1000000:=zx (yF _ hi) hs
 rw[yb,xM]at hlen
 obtain⟨j,l',e,hI,h⟩:=oK (cO:=Fb) (cnt b) (fun j (l:List Int)=>gQ.mk op l i (j:Nat) a b c) (fun j l=>ajq op a b i j l) (fun j l=>¬bY (fo op (kS a i) (kS b j)))
  (fun j l hj hI=>by
   obtain⟨v,ev,hv⟩:=me (sS ha hi) (sS hb hj) ho
   unfold Fb
   simp only
   rw[gi (.inr hb),gd hb]
   simp only
   rw[sw,bE,oc ha hi,oc hb hj,ev]
   simp only
   by_cases hr:bY (fo op (kS a i) (kS b j))
   ·left
    rw[bP hr]
    simp only[bE,bA]
    rw[bw (by rw[zh,hI.2.1];simp;omega),gF hj hcb,hv hr]
    refine⟨_,rfl,fun y=> ?_,by rw[zh,hI.2.1];simp;omega,fun y hy=> ?_⟩
    ·rw[zU,zC,hI.1 y]
     constructor
     ·rintro((h|⟨m,hm,h⟩)|rfl)
      ·exact .inl h
      ·exact .inr ⟨m,by omega,h⟩
      ·exact .inr ⟨j,by omega,rfl⟩
     ·rintro(h|⟨m,hm,h⟩)
      ·exact .inl (.inl h)
      ·rcases yT.mp hm with c|rfl
       ·exact .inl (.inr ⟨m,c,h⟩)
       ·exact .inr h
    ·rcases zU.mp hy with hy|hy
     ·exact hI.2.2 y hy
     ·rw[zC.mp hy];exact hr
   ·right
    rw[bO hr]
    exact⟨rfl,hr⟩)
  (fun l hI=>by
   unfold Fb
   simp only
   rw[gi (.inr hb),gd hb]
   simp only
   rw[fy]
   rfl) (b:=l) ⟨fun y=>(hl.1 y).trans ⟨.inl,fun h=>h.elim id fun⟨m,hm,_⟩=>cQ hm (yD _)⟩,by rw[hl.2.1];rfl,hl.2.2⟩
 have e:bI Fb (gQ.mk op l i 0 a b c)=V (gQ.mk op l' i (j:Nat) a b c):=e
 rcases h with rfl|⟨hj,h⟩
 ·exact .inl ⟨l',e,TI hI⟩
 ·exact .inr ⟨l',j,hj,e,h⟩
def uZ{op:Int}{a b:aI}(ho:binop op)(ha:NN a)(hb:NN b)(hs:cnt a*cnt b<=1000000):
  ((∀y,oU op a b y->bY y)/\∃c,OR op a b=V (c,0)/\cS (oU op a b) c)\/((¬∀y,oU op a b y->bY y)/\OR op a b=V (aI.mk 0 0 0,3)):=by
 have hca:cnt a<=1000000:=zx (Nat.le_mul_of_pos_right _ (iL hb)) hs
 unfold OR
 obtain⟨i,l,e,hI,h⟩:=oK (cO:=AN) (cnt a) (fun i (l:List Int)=>mJ.mk op l (i:Nat) a b (aI.mk 0 0 0)) (fun i l=>pref op a b i l) (fun i l=>∃l' j,j<cnt b/\uq (gQ.mk op l i 0 a b (aI.mk 0 0 0))=V (gQ.mk op l' i (j:Nat) a b (aI.mk 0 0 0))/\¬bY (fo op (kS a i) (kS b j)))
  (fun i l hi hI=>by
   unfold AN
   simp only
   rw[gi (.inr ha),gd ha]
   simp only
   rw[sw,bE]
   rcases Xb (c:=aI.mk 0 0 0) ho ha hb hs hi hI with ⟨l',e,h⟩|⟨l',j,hj,e,h⟩
   ·left
    rw[e]
    simp only
    rw[gi (.inr hb),gd hb]
    simp only
    rw[fy,bA,gF hi hca]
    exact⟨l',rfl,h⟩
   ·right
    refine⟨?_,l',j,hj,e,h⟩
    rw[e]
    simp only
    rw[gi (.inr hb),gd hb]
    simp only
    obtain⟨v,ev,hv⟩:=me (sS ha hi) (sS hb hj) ho
    rw[sw,bE,oc ha hi,oc hb hj,ev]
    simp only
    rw[bO h]
    rfl)
  (fun l hI=>by
   unfold AN
   simp only
   rw[gi (.inr ha),gd ha]
   simp only
   rw[fy]
   rfl) (b:=[]) ⟨fun y=>⟨fun h=>cQ h (by simp),fun⟨k,hk,_⟩=>cQ hk (yD _)⟩,by simp,fun y hy=>cQ hy (by simp)⟩
 have e:bI AN (mJ.mk op [] 0 a b (aI.mk 0 0 0))=V (mJ.mk op l (i:Nat) a b (aI.mk 0 0 0)):=e
 rw[show IW=bI AN from rfl,e]
 simp only
 rw[gi (.inr ha),gd ha]
 simp only
 rcases h with rfl|⟨hi,l',j,hj,e1,h⟩
 ·left
  have mem:∀y,y∈l↔oU op a b y:=fun y=>(hI.1 y).trans ⟨fun⟨k,hk,m,hm,e⟩=>⟨_,_,(ic ha _).mpr ⟨k,hk,rfl⟩,(ic hb _).mpr ⟨m,hm,rfl⟩,e⟩,fun⟨x,z,hx,hz,e⟩=>by
   obtain⟨k,hk,rfl⟩:=(ic ha _).mp hx
   obtain⟨m,hm,rfl⟩:=(ic hb _).mp hz
   exact⟨k,hk,m,hm,e⟩⟩
  rw[fy,bA]
  have hne:l≠[]:=fun e=>by
   have:=hI.2.1
   rw[e]at this
   have:=Nat.mul_pos (iL ha) (iL hb)
   simp at*
   omega
  obtain⟨c,e2,hc⟩:=G5 hne (by rw[hI.2.1];exact hs) hI.2.2
  rw[e2]
  exact⟨fun y hy=>hI.2.2 y ((mem y).mpr hy),c,rfl,hc.congr mem⟩
 ·right
  refine⟨fun k=>h (k _ ⟨_,_,(ic ha _).mpr ⟨i,hi,rfl⟩,(ic hb _).mpr ⟨j,hj,rfl⟩,rfl⟩),?_⟩
  rw[sw,bE,e1]
  simp only
  rw[gi (.inr hb),gd hb]
  simp only
  obtain⟨v,ev,hv⟩:=me (sS ha hi) (sS hb hj) ho
  rw[sw,bE,oc ha hi,oc hb hj,ev]
  simp only
  rw[bO h]
  rfl
def Tw{a:aI}(h:NN a)(hs:cnt a<=1000000):Ux a=V ((zH (cnt a)).map (kS a)):=by
 unfold Ux
 rw[kR (.inr h),gd h]
 simp only
 have e:bI tD (kf.mk [] (cnt a:Nat) 0 a)=V (kf.mk ((zH (cnt a)).map (kS a)) (cnt a:Nat) (cnt a:Nat) a):=by
  obtain⟨l,e,hl⟩:=dH (cO:=tD) (cnt a) (fun i (l:List Int)=>kf.mk l (cnt a:Nat) (i:Nat) a) (fun i l=>l=(zH i).map (kS a))
   (fun i l hi hl=>by
    subst hl
    unfold tD
    simp only
    have:=oc h hi
    unfold FF at this
    rw[sw,bE,this,bw (by simp;omega),gF hi hs]
    exact⟨_,rfl,by rw[List.range_succ,yc];rfl⟩)
   (fun l hl=>by
    unfold tD
    simp only
    rw[fy]
    rfl) (b:=[]) rfl
  have e:bI tD (kf.mk [] (cnt a:Nat) 0 a)=V (kf.mk l (cnt a:Nat) (cnt a:Nat) a):=e
  rw[e,hl]
 rw[show HD=bI tD from rfl,e]
 simp only
 rw[fy]
 rfl
def qH(a:aI):((zH (cnt a)).map (kS a)).length=cnt a:=by simp
def Mo(a:aI){k:Nat}(h:k<cnt a):((zH (cnt a)).map (kS a))[k]! =kS a k:=by
 rw[getElem!_pos _ k (by rw[qH];exact h),yo,wz]
def Kx(op:Int):Prop:=op=11\/op=12\/op=21\/op=22
def KZ{op x y:Int}(hx:bY x)(hy:bY y)(ho:Kx op):bY (fo op x y):=by
 rcases ho with rfl|rfl|rfl|rfl
 ·exact(Pe hx).1
 ·show bY (if y=0 then 0 else x-y*ni x y)
  by_cases h0:y=0
  ·rw[bw h0];exact⟨by omega,by omega⟩
  ·rw[bF h0];exact(P6 hy h0).1
 ·show bY (min x y)
  obtain⟨h1,h2⟩:=hx
  obtain⟨h3,h4⟩:=hy
  exact⟨by omega,by omega⟩
 ·show bY (max x y)
  obtain⟨h1,h2⟩:=hx
  obtain⟨h3,h4⟩:=hy
  exact⟨by omega,by omega⟩
def WU(op:Int)(a b:aI)(i j:Nat)(y:Int):Prop:=(∃k,k<i/\∃m,m<cnt b/\y=fo op (kS a k) (kS b m))\/∃m,m<j/\y=fo op (kS a i) (kS b m)
def XE{op:Int}{a b c:aI}(ho:Kx op)(ha:NN a)(hb:NN b)(hs:cnt b<=1000000){i:Nat}(hi:i<cnt a){o:aI}{l:List Int}{n t:Int}(hr:mF (WU op a b i 0) o)(hv:NV o):
  ∃o',Ey (lE.mk op (kS a i) l n t ((zH (cnt b)).map (kS b)) (cnt b:Nat) 0 b c o)=V (lE.mk op (kS a i) l n t ((zH (cnt b)).map (kS b)) (cnt b:Nat) (cnt b:Nat) b c o')/\mF (WU op a b (i+1) 0) o'/\NV o':=by
 obtain⟨o',e,hI,hv'⟩:=dH (cO:=Je) (cnt b) (fun j (o:aI)=>lE.mk op (kS a i) l n t ((zH (cnt b)).map (kS b)) (cnt b:Nat) (j:Nat) b c o) (fun j o=>mF (WU op a b i j) o/\NV o)
  (fun j o hj hI=>by
   have hR:=KZ (sS ha hi) (sS hb hj) ho
   unfold Je
   simp only
   rw[sw,bE,qH,gC,za,bw ⟨trivial,hj⟩,Mo b hj,agw (sS ha hi) (sS hb hj) ho]
   simp only
   rw[iP hI.2 (.inr (show NN (gJ (fo op (kS a i) (kS b j)))from NN.one hR.1 hR.2)),gF hj hs]
   refine⟨_,rfl,(hI.1.join (Ip _) hI.2 (pQ hR)).congr fun y=> ?_,dU hI.2 (pQ hR)⟩
   constructor
   ·rintro((h|⟨m,hm,h⟩)|rfl)
    ·exact .inl h
    ·exact .inr ⟨m,by omega,h⟩
    ·exact .inr ⟨j,by omega,rfl⟩
   ·rintro(h|⟨m,hm,h⟩)
    ·exact .inl (.inl h)
    ·rcases yT.mp hm with c|rfl
     ·exact .inl (.inr ⟨m,c,h⟩)
     ·exact .inr h)
  (fun o hI=>by
   unfold Je
   simp only
   rw[fy]
   rfl) (b:=o) ⟨hr,hv⟩
 refine⟨o',e,hI.congr fun y=> ?_,hv'⟩
 constructor
 ·rintro(⟨k,hk,h⟩|⟨m,hm,h⟩)
  ·exact .inl ⟨k,by omega,h⟩
  ·exact .inl ⟨i,by omega,m,hm,h⟩
 ·rintro(⟨k,hk,h⟩|⟨m,hm,_⟩)
  ·rcases yT.mp hk with c|rfl
   ·exact .inl ⟨k,c,h⟩
   ·obtain⟨m,hm,h⟩:=h
    exact .inr ⟨m,hm,h⟩
  ·exact cQ hm (yD _)
def Np{op:Int}{a b:aI}(ho:Kx op)(ha:NN a)(hb:NN b)(hs:cnt a*cnt b<=4096):∃c,vD op a b=V c/\cS (oU op a b) c:=by
 have hca:cnt a<=4096:=zx (Nat.le_mul_of_pos_right _ (iL hb)) hs
 have hcb:cnt b<=4096:=zx (Nat.le_mul_of_pos_left _ (iL ha)) hs
 unfold vD
 rw[kR (.inr ha),kR (.inr hb),gd ha,gd hb]
 simp only
 have hp:((cnt a:Nat):Int)*((cnt b:Nat):Int)<=4096:=by rw[<-xh];omega
 have hp0:0<=((cnt a:Nat):Int)*((cnt b:Nat):Int):=by rw[<-xh];omega
 rw[bO (show ¬(4096:Int)<((cnt a:Nat):Int)by omega),bO (show ¬(4096:Int)<((cnt b:Nat):Int)by omega),bA,bA,aF,fy,bA,Tw ha (by omega)]
 simp only
 rw[qH]
 obtain⟨o,e,hI,hv⟩:=dH (cO:=AB) (cnt a) (fun i (o:aI)=>mE.mk op ((zH (cnt a)).map (kS a)) (cnt a:Nat) (i:Nat) b (aI.mk 0 0 0) o) (fun i o=>mF (WU op a b i 0) o/\NV o)
  (fun i o hi hI=>by
   unfold AB
   simp only
   rw[sw,bE,qH,gC,za,bw ⟨trivial,hi⟩,Mo a hi,Tw hb (by omega)]
   simp only
   rw[qH]
   obtain⟨o',e,h1,h2⟩:=XE (c:=aI.mk 0 0 0) (l:=(zH (cnt a)).map (kS a)) (n:=(cnt a:Nat)) (t:=(i:Nat)) ho ha hb (by omega) hi hI.1 hI.2
   rw[e]
   simp only
   rw[fy,bA,gF hi (by omega)]
   exact⟨o',rfl,h1,h2⟩)
  (fun o hI=>by
   unfold AB
   simp only
   rw[fy]
   rfl) (b:=cy) ⟨.none fun y h=>by
    rcases h with ⟨k,hk,_⟩|⟨m,hm,_⟩
    ·exact cQ hk (yD _)
    ·exact cQ hm (yD _), .inl rfl⟩
 have e:bI AB (mE.mk op ((zH (cnt a)).map (kS a)) (cnt a:Nat) 0 b (aI.mk 0 0 0) iR)=V (mE.mk op ((zH (cnt a)).map (kS a)) (cnt a:Nat) (cnt a:Nat) b (aI.mk 0 0 0) o):=e
 rw[show Ia=bI AB from rfl,e]
 simp only
 rw[fy,bA]
 refine⟨o,rfl,?_⟩
 have mem:∀y,WU op a b (cnt a) 0 y↔oU op a b y:=fun y=>⟨fun h=>by
  rcases h with ⟨k,hk,m,hm,e⟩|⟨m,hm,_⟩
  ·exact⟨_,_,(ic ha _).mpr ⟨k,hk,rfl⟩,(ic hb _).mpr ⟨m,hm,rfl⟩,e⟩
  ·exact cQ hm (yD _),fun⟨x,z,hx,hz,e⟩=>by
  obtain⟨k,hk,rfl⟩:=(ic ha _).mp hx
  obtain⟨m,hm,rfl⟩:=(ic hb _).mp hz
  exact .inl ⟨k,hk,m,hm,e⟩⟩
 rcases hI.congr mem with ⟨_,k⟩|k
 ·exact cQ ⟨_,_,(ic ha _).mpr ⟨0,iL ha,rfl⟩,(ic hb _).mpr ⟨0,iL hb,rfl⟩,rfl⟩ (k (fo op (kS a 0) (kS b 0)))
 ·exact k
def VN{op:Int}{a b:aI}(ha:NN a)(hb:NN b)(hs:¬cnt a*cnt b<=4096):vD op a b=UN op a b:=by
 have idm:∀r:Option aI,(match r with|none=>none|some r8=>some r8)=r:=fun r=>by cases r<;>rfl
 unfold vD
 rw[kR (.inr ha),kR (.inr hb),gd ha,gd hb]
 simp only
 by_cases c1:(4096:Int)<((cnt a:Nat):Int)
 ·rw[bP c1,bE]
  exact idm _
 ·rw[bO c1,bA]
  by_cases c2:(4096:Int)<((cnt b:Nat):Int)
  ·rw[bP c2,bE]
   exact idm _
  ·have hb':((cnt a:Nat):Int)*((cnt b:Nat):Int)<=4096*4096:=Int.mul_le_mul (by omega) (by omega) (by omega) (by omega)
   have hp:(4096:Int)<((cnt a:Nat):Int)*((cnt b:Nat):Int):=by rw[<-xh];omega
   rw[bO c2,bA,aF,bP hp,bE]
   exact idm _
instance (op:Int):Decidable (binop op):=inferInstanceAs (Decidable (_/\_))
def idm{α:Type}(r:Option α):(match r with|none=>none|some x=>some x)=r:=by cases r<;>rfl
def jV(op:Int):B8 op=wP (binop op):=by
 unfold B8
 by_cases h:binop op
 ·obtain⟨o1,o2⟩:=h
  have cases15:op=8\/op=9\/op=10\/op=11\/op=12\/op=13\/op=14\/op=15\/op=16\/op=17\/op=18\/op=19\/op=20\/op=21\/op=22:=by omega
  rcases cases15 with rfl|rfl|rfl|rfl|rfl|rfl|rfl|rfl|rfl|rfl|rfl|rfl|rfl|rfl|rfl<;>rfl
 ·have k:∀n:Int,8<=n->n<=22->¬op=n:=fun n h1 h2 e=>h (by unfold binop;omega)
  rw[show wP (binop op)=wN from bO h]
  rw[bO (k 8 (by decide) (by decide)),bO (k 9 (by decide) (by decide)),bO (k 10 (by decide) (by decide)),bO (k 11 (by decide) (by decide)),bO (k 12 (by decide) (by decide)),
   bO (k 13 (by decide) (by decide)),bO (k 14 (by decide) (by decide)),bO (k 15 (by decide) (by decide)),bO (k 16 (by decide) (by decide)),bO (k 17 (by decide) (by decide)),
   bO (k 18 (by decide) (by decide)),bO (k 19 (by decide) (by decide)),bO (k 20 (by decide) (by decide)),bO (k 21 (by decide) (by decide)),bO (k 22 (by decide) (by decide))]
  rfl
def FZ{a b:aI}(hb:NN b):((cnt a:Nat):Int)<=(4096:Int)/((cnt b:Nat):Int)↔cnt a*cnt b<=4096:=by
 have:=iL hb
 rw[Int.le_ediv_iff_mul_le (by omega),<-xh]
 omega
def lD{op:Int}{a b:aI}(ho:binop op)(ha:NN a)(hb:NN b)(hs:cnt a*cnt b<=4096):ow op a b=OR op a b:=by
 have:=iL hb
 unfold ow
 rw[gp,gp,dX (.inr ha),dX (.inr hb),show Fz op=B8 op from rfl,jV,bP ho]
 simp only[bE,bA]
 rw[iB ha,iB hb,gi (.inr ha),gi (.inr hb),gd ha,gd hb]
 simp only[bA]
 have q0:0<=(4096:Int)/((cnt b:Nat):Int):=zQ (by omega) (by omega)
 have q1:(4096:Int)/((cnt b:Nat):Int)<=4096:=ye _ (by omega)
 rw[bw (show ¬@Eq Int ((cnt b:Nat):Int) 0 by omega),j6,aF,bP ((FZ hb).mpr hs),bE]
 cases OR op a b<;>rfl
def OJ(a0:Int)(a1 a2:aI):Option (aI×Int):=
 bif wP (a0=8)then pV a0 a1 a2 else bif wP (a0=9)then pV a0 a1 a2 else bif wP (a0=10)then pV a0 a1 a2 else bif wP (a0=11)then
  (bif(wP (0<=a1.af)&&wP (0<=a2.af))then iQ 0 (max a1.af.natAbs a1.aa.natAbs:Nat) 1 else iQ (-((max a1.af.natAbs a1.aa.natAbs:Nat):Int)) (max a1.af.natAbs a1.aa.natAbs:Nat) 1)
 else bif wP (a0=12)then iQ (if a2.af<0 then a2.af+1 else 0) (if 0<a2.aa then a2.aa-1 else 0) 1
 else bif wP (a0=21)then(match m41 (cn a1 a2) (min a1.aa a2.aa)with|O=>O|V c=>V (c,0))
 else bif wP (a0=22)then(match Rf (cn a1 a2) (max a1.af a2.af-1)with|O=>O|V c=>V (c,0))
 else(match By a0 a1 a2 with|O=>O|V c=>V (c,0))
def o4{op:Int}{a b:aI}(ho:binop op)(ha:NN a)(hb:NN b)(hs:¬cnt a*cnt b<=4096):ow op a b=OJ op a b:=by
 have:=iL hb
 have r1:=ha.qO
 have r2:=ha.A5
 have r3:=hb.qO
 have r4:=hb.A5
 obtain⟨a1,a2⟩:=r1
 obtain⟨a3,a4⟩:=r2
 obtain⟨b1,b2⟩:=r3
 obtain⟨b3,b4⟩:=r4
 unfold ow OJ
 rw[gp,gp,dX (.inr ha),dX (.inr hb),show Fz op=B8 op from rfl,jV,bP ho]
 simp only[bE,bA]
 rw[iB ha,iB hb,gi (.inr ha),gi (.inr hb),gd ha,gd hb]
 simp only[bA]
 have q0:0<=(4096:Int)/((cnt b:Nat):Int):=zQ (by omega) (by omega)
 have q1:(4096:Int)/((cnt b:Nat):Int)<=4096:=ye _ (by omega)
 rw[bw (show ¬@Eq Int ((cnt b:Nat):Int) 0 by omega),j6,aF (n:=(4096:Int)/((cnt b:Nat):Int)),bO (fun k=>hs ((FZ hb).mp k)),bA]
 have cases15:op=8\/op=9\/op=10\/op=11\/op=12\/op=13\/op=14\/op=15\/op=16\/op=17\/op=18\/op=19\/op=20\/op=21\/op=22:=by
  obtain⟨o1,o2⟩:=ho
  omega
 have ez:(bif wP (0<=a.af)then some (wP (0<=b.af))else some false)=some (wP (0<=a.af)&&wP (0<=b.af)):=by cases wP (0<=a.af)<;>rfl
 rcases cases15 with rfl|rfl|rfl|rfl|rfl|rfl|rfl|rfl|rfl|rfl|rfl|rfl|rfl|rfl|rfl
 all_goals simp only[Int.reduceEq,gh,dx,bA,bE]
 ·cases pV 8 a b<;>rfl
 ·cases pV 9 a b<;>rfl
 ·cases pV 10 a b<;>rfl
 ·rw[vQ ha.qO,vQ ha.A5,ez]
  simp only
  by_cases c:((a.af.natAbs:Nat):Int)<((a.aa.natAbs:Nat):Int)
  ·rw[bP c,bE,aF,Int.zero_sub,Nat.max_eq_right (by omega)]
   cases (wP (0<=a.af)&&wP (0<=b.af))with
   |true=>(simp only[bE,bA];generalize iQ _ _ _=z;cases z<;>rfl)
   |false=>(simp only[bE,bA];generalize iQ _ _ _=z;cases z<;>rfl)
  ·rw[bO c,bA,aF,Int.zero_sub,Nat.max_eq_left (by omega)]
   cases (wP (0<=a.af)&&wP (0<=b.af))with
   |true=>(simp only[bE,bA];generalize iQ _ _ _=z;cases z<;>rfl)
   |false=>(simp only[bE,bA];generalize iQ _ _ _=z;cases z<;>rfl)
 ·rw[aF (n:=b.af+1),aF (n:=b.aa-1)]
  by_cases c:b.af<0<;>by_cases d:0<b.aa
  ·rw[bP c,bP d,bw c,bw d];(simp only[bE,bA];generalize iQ _ _ _=z;cases z<;>rfl)
  ·rw[bP c,bO d,bw c,bF d];(simp only[bE,bA];generalize iQ _ _ _=z;cases z<;>rfl)
  ·rw[bO c,bP d,bF c,bw d];(simp only[bE,bA];generalize iQ _ _ _=z;cases z<;>rfl)
  ·rw[bO c,bO d,bF c,bF d];(simp only[bE,bA];generalize iQ _ _ _=z;cases z<;>rfl)
 ·cases By 13 a b<;>rfl
 ·cases By 14 a b<;>rfl
 ·cases By 15 a b<;>rfl
 ·cases By 16 a b<;>rfl
 ·cases By 17 a b<;>rfl
 ·cases By 18 a b<;>rfl
 ·cases By 19 a b<;>rfl
 ·cases By 20 a b<;>rfl
 ·obtain⟨v,ev,hv⟩:=me (op:=21) ha.A5 hb.A5 ⟨by decide,by decide⟩
  have hv:v=min a.aa b.aa:=hv (KZ ha.A5 hb.A5 (.inr (.inr (.inl rfl))))
  rw[ev,l9 (.inr ha) (.inr hb)]
  simp only
  rw[hv]
  cases m41 (cn a b) (min a.aa b.aa)<;>rfl
 ·obtain⟨v,ev,hv⟩:=me (op:=22) ha.qO hb.qO ⟨by decide,by decide⟩
  have hv:v=max a.af b.af:=hv (KZ ha.qO hb.qO (.inr (.inr (.inr rfl))))
  rw[ev,l9 (.inr ha) (.inr hb)]
  simp only
  rw[hv,aF]
  cases Rf (cn a b) (max a.af b.af-1)<;>rfl
def YZ{op:Int}{a b:aI}(ho:Kx op)(ha:NN a)(hb:NN b):∃c,vD op a b=V c/\ow op a b=V (c,0)/\NV c:=by
 have hbin:binop op:=by unfold binop;rcases ho with rfl|rfl|rfl|rfl<;>decide
 have r1:=ha.qO
 have r2:=ha.A5
 have r3:=hb.qO
 have r4:=hb.A5
 by_cases hs:cnt a*cnt b<=4096
 ·obtain⟨c,e1,h1⟩:=Np ho ha hb hs
  have hR:∀y,oU op a b y->bY y:=fun y ⟨x,z,hx,hz,e⟩=>by rw[e];exact KZ (T6 (.inr ha) hx) (T6 (.inr hb) hz) ho
  rw[lD hbin ha hb hs]
  rcases uZ hbin ha hb (by omega)with ⟨_,d,e2,h2⟩|⟨k,_⟩
  ·rw[h2.uniq h1]at e2
   exact⟨c,e1,e2, .inr (h1.valid hR)⟩
  ·exact cQ hR k
 ·rw[VN ha hb hs,o4 hbin ha hb hs]
  obtain⟨a1,a2⟩:=r1
  obtain⟨a3,a4⟩:=r2
  obtain⟨b1,b2⟩:=r3
  obtain⟨b3,b4⟩:=r4
  unfold UN OJ
  rcases ho with rfl|rfl|rfl|rfl
  all_goals simp only[Int.reduceEq,gh,dx,bA,bE]
  ·rw[m5 ha.qO,m5 ha.A5]
   have em:(if((a.af.natAbs:Nat):Int)<((a.aa.natAbs:Nat):Int)then((a.aa.natAbs:Nat):Int)else((a.af.natAbs:Nat):Int))=((max a.af.natAbs a.aa.natAbs:Nat):Int):=by split<;>omega
   rw[em]
   have ez:(bif wP (0<=a.af)then some (wP (0<=b.af))else some false)=some (wP (0<=a.af)&&wP (0<=b.af)):=by cases wP (0<=a.af)<;>rfl
   rw[ez]
   simp only
   have hm:((max a.af.natAbs a.aa.natAbs:Nat):Int)<=1099511627776:=by omega
   generalize max a.af.natAbs a.aa.natAbs=m at*
   rw[aF,Int.zero_sub,nU (by omega) (by omega) (by omega),nU (by omega) (by omega) (by omega),iM ⟨by omega,by omega⟩ ⟨by omega,by omega⟩ (by omega),iM ⟨by omega,by omega⟩ ⟨by omega,by omega⟩ (by omega)]
   cases (wP (0<=a.af)&&wP (0<=b.af))with
   |true=>exact⟨_,rfl,rfl, .inr (ji (by omega) (by omega) (by omega) (by omega))⟩
   |false=>exact⟨_,rfl,rfl, .inr (ji (by omega) (by omega) (by omega) (by omega))⟩
  ·rw[aF (n:=b.af+1),aF (n:=b.aa-1)]
   rw[show (if 0<b.af+1 then 0 else b.af+1)=(if b.af<0 then b.af+1 else 0)by split<;>split<;>omega,show (if b.aa-1<0 then 0 else b.aa-1)=(if 0<b.aa then b.aa-1 else 0)by split<;>split<;>omega]
   have hp:(if b.af<0 then b.af+1 else 0)<=0/\ -1099511627776<=(if b.af<0 then b.af+1 else 0):=by split<;>omega
   have hq:0<=(if 0<b.aa then b.aa-1 else 0)/\(if 0<b.aa then b.aa-1 else 0)<=1099511627776:=by split<;>omega
   generalize (if b.af<0 then b.af+1 else 0)=p at*
   generalize (if 0<b.aa then b.aa-1 else 0)=q at*
   rw[nU (by omega) (by omega) (by omega),iM ⟨by omega,by omega⟩ ⟨by omega,by omega⟩ (by omega)]
   exact⟨_,rfl,rfl, .inr (ji (by omega) (by omega) (by omega) (by omega))⟩
  ·rw[iP (.inr ha) (.inr hb)]
   simp only
   rw[show (if b.aa<a.aa then b.aa else a.aa)=min a.aa b.aa by split<;>omega]
   have vj:=dU (.inr ha) (.inr hb)
   obtain⟨l,u,e1,h1,_⟩:=vX vj (min a.aa b.aa)
   obtain⟨l',e2,h2⟩:=AE vj (min a.aa b.aa)
   rw[e1,e2,h2.rep.uniq h1.rep]
   exact⟨l,rfl,rfl,h1.1⟩
  ·rw[iP (.inr ha) (.inr hb)]
   simp only
   rw[show (if a.af<b.af then b.af else a.af)=max a.af b.af by split<;>omega,aF]
   have vj:=dU (.inr ha) (.inr hb)
   obtain⟨l,u,e1,_,h1⟩:=vX vj (max a.af b.af-1)
   obtain⟨u',e2,h2⟩:=p8 vj (max a.af b.af-1)
   rw[e1,e2,h2.rep.uniq h1.rep]
   exact⟨u,rfl,rfl,h1.1⟩
def ssc(a b c:Int):a-c-(b-c)=a-b:=by omega
def cY{a:aI}(h:NN a):bz a a.af:=⟨zg _,h.le,⟨0,by omega⟩⟩
def gq{a:aI}(h:NN a):bz a a.aa:=⟨h.le,zg _,h.dvd⟩
def RV{a:aI}(h:NN a):bz a (a.af+a.ai):=⟨by have:=h.s0;omega,by have:=h.sle;omega,⟨1,by omega⟩⟩
def Kn(a:aI)(x:Int):Prop:=x=a.af\/x=a.af+a.ai\/x=a.aa
def pI{a:aI}(h:NN a){x:Int}(hx:Kn a x):bz a x:=by
 rcases hx with rfl|rfl|rfl
 ·exact cY h
 ·exact RV h
 ·exact gq h
structure Mid (op:Int) (a b:aI) (Q:Int->Prop):Prop where
 c:∀x z,Kn a x->Kn b z->Q (fo op x z)
 v:∀y,Q y->oU op a b y
def DI(op:Int)(a b:aI)(y:Int):Prop:=∃x z,Kn a x/\Kn b z/\y=fo op x z
def GQ{op:Int}{a b:aI}(ha:NN a)(hb:NN b):Mid op a b (oU op a b):=⟨fun x z hx hz=>⟨x,z,pI ha hx,pI hb hz,rfl⟩,fun _ h=>h⟩
def aiO{op:Int}{a b:aI}(ha:NN a)(hb:NN b):Mid op a b (DI op a b):=⟨fun x z hx hz=>⟨x,z,hx,hz,rfl⟩,fun _ ⟨x,z,hx,hz,e⟩=>⟨x,z,pI ha hx,pI hb hz,e⟩⟩
def lJ{a b:aI}(ha:NN a)(hb:NN b){Q:Int->Prop}(h:Mid 8 a b Q):cS Q (aI.mk (a.af+b.af) (a.aa+b.aa) (bZ a.ai b.ai)):=by
 refine⟨h.c a.af b.af (.inl rfl) (.inl rfl),h.c a.aa b.aa (.inr (.inr rfl)) (.inr (.inr rfl)),fun y hy=> ?_,ld _ _,fun d hd=>jh ?_ ?_⟩
 ·obtain⟨x,z,⟨x1,x2,x3⟩,⟨z1,z2,z3⟩,rfl⟩:=h.v y hy
  show a.af+b.af<=x+z/\x+z<=a.aa+b.aa/\bZ a.ai b.ai∣x+z-(a.af+b.af)
  refine⟨by omega,by omega,?_⟩
  have:=yO (zS (jY a.ai b.ai) x3) (zS (qB a.ai b.ai) z3)
  rwa [show x-a.af+(z-b.af)=x+z-(a.af+b.af)by omega]at this
 ·have:=hd _ (h.c (a.af+a.ai) b.af (.inr (.inl rfl)) (.inl rfl))
  have this:d∣a.af+a.ai+b.af-(a.af+b.af):=this
  rwa [show a.af+a.ai+b.af-(a.af+b.af)=a.ai by omega]at this
 ·have:=hd _ (h.c a.af (b.af+b.ai) (.inl rfl) (.inr (.inl rfl)))
  have this:d∣a.af+(b.af+b.ai)-(a.af+b.af):=this
  rwa [show a.af+(b.af+b.ai)-(a.af+b.af)=b.ai by omega]at this
def vF{a b:aI}(ha:NN a)(hb:NN b){Q:Int->Prop}(h:Mid 9 a b Q):cS Q (aI.mk (a.af-b.aa) (a.aa-b.af) (bZ a.ai b.ai)):=by
 refine⟨h.c a.af b.aa (.inl rfl) (.inr (.inr rfl)),h.c a.aa b.af (.inr (.inr rfl)) (.inl rfl),fun y hy=> ?_,ld _ _,fun d hd=>jh ?_ ?_⟩
 ·obtain⟨x,z,⟨x1,x2,x3⟩,⟨z1,z2,z3⟩,rfl⟩:=h.v y hy
  show a.af-b.aa<=x-z/\x-z<=a.aa-b.af/\bZ a.ai b.ai∣x-z-(a.af-b.aa)
  refine⟨by omega,by omega,?_⟩
  have k:=ym hb.dvd z3
  have:=yO (zS (jY a.ai b.ai) x3) (zS (qB a.ai b.ai) k)
  rwa [show x-a.af+(b.aa-b.af-(z-b.af))=x-z-(a.af-b.aa)by omega]at this
 ·have:=hd _ (h.c (a.af+a.ai) b.aa (.inr (.inl rfl)) (.inr (.inr rfl)))
  have this:d∣a.af+a.ai-b.aa-(a.af-b.aa):=this
  rwa [show a.af+a.ai-b.aa-(a.af-b.aa)=a.ai by omega]at this
 ·have k1:=hd _ (h.c a.af b.af (.inl rfl) (.inl rfl))
  have k2:=hd _ (h.c a.af (b.af+b.ai) (.inl rfl) (.inr (.inl rfl)))
  have k1:d∣a.af-b.af-(a.af-b.aa):=k1
  have k2:d∣a.af-(b.af+b.ai)-(a.af-b.aa):=k2
  have:=ym k1 k2
  rwa [show a.af-b.af-(a.af-b.aa)-(a.af-(b.af+b.ai)-(a.af-b.aa))=b.ai by omega]at this
def Pd{l h x z:Int}(h1:l<=x)(h2:x<=h):min (l*z) (h*z)<=x*z/\x*z<=max (l*z) (h*z):=by
 rcases xI 0 z with c|c
 ·have k1:=zG h1 c
  have k2:=zG h2 c
  omega
 ·have k1:=wJ h1 c
  have k2:=wJ h2 c
  omega
def TZ(p q r s:Int):Int:=min (min p q) (min r s)
def hi4(p q r s:Int):Int:=max (max p q) (max r s)
def QA{a b:aI}{x z:Int}(hx:a.af<=x/\x<=a.aa)(hz:b.af<=z/\z<=b.aa):
  TZ (a.af*b.af) (a.af*b.aa) (a.aa*b.af) (a.aa*b.aa)<=x*z/\x*z<=hi4 (a.af*b.af) (a.af*b.aa) (a.aa*b.af) (a.aa*b.aa):=by
 have k1:=Pd (z:=x) hz.1 hz.2
 have k2:=Pd (z:=b.af) hx.1 hx.2
 have k3:=Pd (z:=b.aa) hx.1 hx.2
 rw[zA b.af x,zA b.aa x,zA z x]at k1
 unfold TZ hi4
 omega
def ahP{P:Int->Prop}{p q r s:Int}(h1:P p)(h2:P q)(h3:P r)(h4:P s):P (TZ p q r s)/\P (hi4 p q r s):=by
 have e1:TZ p q r s=p\/TZ p q r s=q\/TZ p q r s=r\/TZ p q r s=s:=by unfold TZ;omega
 have e2:hi4 p q r s=p\/hi4 p q r s=q\/hi4 p q r s=r\/hi4 p q r s=s:=by unfold hi4;omega
 constructor
 ·rcases e1 with e|e|e|e<;>rw[e]<;>assumption
 ·rcases e2 with e|e|e|e<;>rw[e]<;>assumption
def anu(a b:aI):aI:=aI.mk (TZ (a.af*b.af) (a.af*b.aa) (a.aa*b.af) (a.aa*b.aa)) (hi4 (a.af*b.af) (a.af*b.aa) (a.aa*b.af) (a.aa*b.aa)) (bZ (bZ (a.ai*b.af) (b.ai*a.af)) (a.ai*b.ai))
def u7{a b:aI}(ha:NN a)(hb:NN b){Q:Int->Prop}(h:Mid 10 a b Q):cS Q (anu a b):=by
 have h00:Q (a.af*b.af):=h.c a.af b.af (.inl rfl) (.inl rfl)
 have h01:Q (a.af*b.aa):=h.c a.af b.aa (.inl rfl) (.inr (.inr rfl))
 have h10:Q (a.aa*b.af):=h.c a.aa b.af (.inr (.inr rfl)) (.inl rfl)
 have h11:Q (a.aa*b.aa):=h.c a.aa b.aa (.inr (.inr rfl)) (.inr (.inr rfl))
 obtain⟨q1,q2⟩:=ahP (P:=Q) h00 h01 h10 h11
 have g1:bZ (bZ (a.ai*b.af) (b.ai*a.af)) (a.ai*b.ai)∣a.ai*b.af:=zS (jY _ _) (jY _ _)
 have g2:bZ (bZ (a.ai*b.af) (b.ai*a.af)) (a.ai*b.ai)∣b.ai*a.af:=zS (jY _ _) (qB _ _)
 have g3:bZ (bZ (a.ai*b.af) (b.ai*a.af)) (a.ai*b.ai)∣a.ai*b.ai:=qB _ _
 have base:∀y,Q y->bZ (bZ (a.ai*b.af) (b.ai*a.af)) (a.ai*b.ai)∣y-a.af*b.af:=fun y hy=>by
  obtain⟨x,z,⟨_,_,i,x3⟩,⟨_,_,j,z3⟩,rfl⟩:=h.v y hy
  show _∣x*z-a.af*b.af
  have e:x*z-a.af*b.af=i*(a.ai*b.af)+j*(b.ai*a.af)+i*j*(a.ai*b.ai):=by
   have ex:x=a.af+a.ai*i:=by omega
   have ez:z=b.af+b.ai*j:=by omega
   rw[ex,ez,zI,yS,yS]
   have t1:a.af*(b.ai*j)=j*(b.ai*a.af):=by rw[<-zN,zA (a.af*b.ai) j,zA a.af b.ai]
   have t2:a.ai*i*b.af=i*(a.ai*b.af):=by rw[zA a.ai i,zN]
   have t3:a.ai*i*(b.ai*j)=i*j*(a.ai*b.ai):=by
    rw[zA a.ai i,zA b.ai j,zN,Int.mul_left_comm a.ai j,<-zN]
   rw[t1,t2,t3]
   omega
  rw[e]
  exact yO (yO (zS g1 (y7 ..)) (zS g2 (y7 ..))) (zS g3 (y7 ..))
 refine⟨q1,q2,fun y hy=> ?_,ld _ _,fun d hd=> ?_⟩
 ·obtain⟨x,z,hx,hz,e⟩:=h.v y hy
  have e:y=x*z:=e
  have k:=QA ⟨hx.1,hx.2.1⟩ ⟨hz.1,hz.2.1⟩
  refine⟨by rw[e];exact k.1,by rw[e];exact k.2,?_⟩
  have:=ym (base y hy) (base _ q1)
  rwa [ssc]at this
 ·have diff:∀y y',Q y->Q y'->d∣y-y':=fun y y' hy hy'=>by
   have:=ym (hd y hy) (hd y' hy')
   rwa [ssc]at this
  have p10:Q ((a.af+a.ai)*b.af):=h.c _ _ (.inr (.inl rfl)) (.inl rfl)
  have p01:Q (a.af*(b.af+b.ai)):=h.c _ _ (.inl rfl) (.inr (.inl rfl))
  have p11:Q ((a.af+a.ai)*(b.af+b.ai)):=h.c _ _ (.inr (.inl rfl)) (.inr (.inl rfl))
  have d1:=diff _ _ p10 h00
  rw[zI,Int.add_comm (a.af*b.af),Int.add_sub_cancel]at d1
  have d2:=diff _ _ p01 h00
  rw[yS,Int.add_comm (a.af*b.af),Int.add_sub_cancel,zA]at d2
  have d3:=ym (diff _ _ p11 p10) d2
  rw[yS (a.af+a.ai),Int.add_comm ((a.af+a.ai)*b.af),Int.add_sub_cancel,zI,zA b.ai a.af,Int.add_comm (a.af*b.ai),Int.add_sub_cancel]at d3
  exact jh (jh d1 d2) d3
def fU(a:aI):List Int:=[a.af,a.af+a.ai,a.aa]
def nW(a:aI)(x:Int):Kn a x↔∃k,k<3/\x=(fU a)[k]! :=by
 constructor
 ·rintro(rfl|rfl|rfl)
  ·exact⟨0,by omega,rfl⟩
  ·exact⟨1,by omega,rfl⟩
  ·exact⟨2,by omega,rfl⟩
 ·rintro⟨k,hk,rfl⟩
  rcases (show k=0\/k=1\/k=2 by omega)with rfl|rfl|rfl
  ·exact .inl rfl
  ·exact .inr (.inl rfl)
  ·exact .inr (.inr rfl)
def G0{a:aI}(h:NN a){k:Nat}(hk:k<3):bY (fU a)[k]! :=T6 (.inr h) (pI h ((nW a _).mpr ⟨k,hk,rfl⟩))
def prC(op:Int)(a b:aI)(i j:Nat)(l:List Int):Prop:=(∀y,y∈l↔(∃k,k<i/\∃m,m<3/\y=fo op (fU a)[k]! (fU b)[m]!)\/∃m,m<j/\y=fo op (fU a)[i]! (fU b)[m]!)/\l.length=i*3+j/\∀y∈l,bY y
def acP{op:Int}{a b:aI}{i:Nat}{l:List Int}(h:prC op a b i 3 l):prC op a b (i+1) 0 l:=by
 refine⟨fun y=>(h.1 y).trans ⟨?_,?_⟩,by rw[h.2.1];omega,h.2.2⟩
 ·rintro(⟨k,hk,m,hm,e⟩|⟨m,hm,e⟩)
  ·exact .inl ⟨k,by omega,m,hm,e⟩
  ·exact .inl ⟨i,by omega,m,hm,e⟩
 ·rintro(⟨k,hk,m,hm,e⟩|⟨m,hm,e⟩)
  ·rcases yT.mp hk with c|rfl
   ·exact .inl ⟨k,c,m,hm,e⟩
   ·exact .inr ⟨m,hm,e⟩
  ·exact cQ hm (yD _)
def Wa{op:Int}{a b c:aI}(ho:binop op)(ha:NN a)(hb:NN b){i:Nat}(hi:i<3){l:List Int}(hl:prC op a b i 0 l):
  (∃l',uw (gS.mk op l (fU a) (fU b) i 0 c)=V (gS.mk op l' (fU a) (fU b) i 3 c)/\prC op a b (i+1) 0 l')\/
  (∃l' j,j<3/\uw (gS.mk op l (fU a) (fU b) i 0 c)=V (gS.mk op l' (fU a) (fU b) i (j:Nat) c)/\¬bY (fo op (fU a)[i]! (fU b)[j]!)):=by
 have ll:∀a:aI,(fU a).length=3:=fun _=>rfl
 obtain⟨j,l',e,hI,h⟩:=oK (cO:=DR) 3 (fun j (l:List Int)=>gS.mk op l (fU a) (fU b) i (j:Nat) c) (fun j l=>prC op a b i j l) (fun j l=>¬bY (fo op (fU a)[i]! (fU b)[j]!))
  (fun j l hj hI=>by
   obtain⟨v,ev,hv⟩:=me (G0 ha hi) (G0 hb hj) ho
   unfold DR
   simp only
   rw[sw,bE,ll,ll,gC,za,bw ⟨trivial,hi⟩,gC,za,bw ⟨trivial,hj⟩,ev]
   simp only
   by_cases hr:bY (fo op (fU a)[i]! (fU b)[j]!)
   ·left
    rw[bP hr]
    simp only[bE,bA]
    rw[bw (by rw[zh,hI.2.1];simp;omega),gF hj (by omega),hv hr]
    refine⟨_,rfl,fun y=> ?_,by rw[zh,hI.2.1];simp;omega,fun y hy=> ?_⟩
    ·rw[zU,zC,hI.1 y]
     constructor
     ·rintro((h|⟨m,hm,h⟩)|rfl)
      ·exact .inl h
      ·exact .inr ⟨m,by omega,h⟩
      ·exact .inr ⟨j,by omega,rfl⟩
     ·rintro(h|⟨m,hm,h⟩)
      ·exact .inl (.inl h)
      ·rcases yT.mp hm with c|rfl
       ·exact .inl (.inr ⟨m,c,h⟩)
       ·exact .inr h
    ·rcases zU.mp hy with hy|hy
     ·exact hI.2.2 y hy
     ·rw[zC.mp hy];exact hr
   ·right
    rw[bO hr]
    exact⟨rfl,hr⟩)
  (fun l hI=>by
   unfold DR
   simp only
   rw[fy]
   rfl) (b:=l) hl
 have e:bI DR (gS.mk op l (fU a) (fU b) i 0 c)=V (gS.mk op l' (fU a) (fU b) i (j:Nat) c):=e
 rcases h with rfl|⟨hj,h⟩
 ·exact .inl ⟨l',e,acP hI⟩
 ·exact .inr ⟨l',j,hj,e,h⟩
def abv{op:Int}{a b:aI}(ho:binop op)(ha:NN a)(hb:NN b):
  ((∀y,DI op a b y->bY y)/\∃c,pV op a b=V (c,0)/\cS (DI op a b) c)\/((¬∀y,DI op a b y->bY y)/\pV op a b=V (aI.mk 0 0 0,3)):=by
 have ll:∀a:aI,(fU a).length=3:=fun _=>rfl
 have wc:∀{a:aI},NN a->[a.af,i64.wrap (a.af+a.ai),a.aa]=fU a:=fun{a} h=>by
  have:=T6 (.inr h) (RV h)
  rw[aF (by have:=this.1;omega) (by have:=this.2;omega)]
  rfl
 unfold pV
 rw[wc ha,wc hb]
 obtain⟨i,l,e,hI,h⟩:=oK (cO:=Aw) 3 (fun i (l:List Int)=>mw.mk op l (fU a) (fU b) (i:Nat) (aI.mk 0 0 0)) (fun i l=>prC op a b i 0 l) (fun i l=>∃l' j,j<3/\uw (gS.mk op l (fU a) (fU b) i 0 (aI.mk 0 0 0))=V (gS.mk op l' (fU a) (fU b) i (j:Nat) (aI.mk 0 0 0))/\¬bY (fo op (fU a)[i]! (fU b)[j]!))
  (fun i l hi hI=>by
   unfold Aw
   simp only
   rw[sw,bE]
   rcases Wa (c:=aI.mk 0 0 0) ho ha hb hi hI with ⟨l',e,h⟩|⟨l',j,hj,e,h⟩
   ·left
    rw[e]
    simp only
    rw[fy,bA,gF hi (by omega)]
    exact⟨l',rfl,h⟩
   ·right
    refine⟨?_,l',j,hj,e,h⟩
    rw[e]
    simp only
    obtain⟨v,ev,hv⟩:=me (G0 ha hi) (G0 hb hj) ho
    rw[sw,bE,ll,ll,gC,za,bw ⟨trivial,hi⟩,gC,za,bw ⟨trivial,hj⟩,ev]
    simp only
    rw[bO h]
    rfl)
  (fun l hI=>by
   unfold Aw
   simp only
   rw[fy]
   rfl) (b:=[]) ⟨fun y=>⟨fun h=>cQ h (by simp),fun h=>by
    rcases h with ⟨k,hk,_⟩|⟨m,hm,_⟩
    ·exact cQ hk (yD _)
    ·exact cQ hm (yD _)⟩,by simp,fun y hy=>cQ hy (by simp)⟩
 have e:bI Aw (mw.mk op [] (fU a) (fU b) 0 (aI.mk 0 0 0))=V (mw.mk op l (fU a) (fU b) (i:Nat) (aI.mk 0 0 0)):=e
 rw[show IV=bI Aw from rfl,e]
 simp only
 rcases h with rfl|⟨hi,l',j,hj,e1,h⟩
 ·left
  have mem:∀y,y∈l↔DI op a b y:=fun y=>(hI.1 y).trans ⟨fun h=>by
   rcases h with ⟨k,hk,m,hm,e⟩|⟨m,hm,_⟩
   ·exact⟨_,_,(nW a _).mpr ⟨k,hk,rfl⟩,(nW b _).mpr ⟨m,hm,rfl⟩,e⟩
   ·exact cQ hm (yD _),fun⟨x,z,hx,hz,e⟩=>by
   obtain⟨k,hk,rfl⟩:=(nW a _).mp hx
   obtain⟨m,hm,rfl⟩:=(nW b _).mp hz
   exact .inl ⟨k,hk,m,hm,e⟩⟩
  rw[fy,bA]
  have hne:l≠[]:=fun e=>by
   have:=hI.2.1
   rw[e]at this
   simp at this
  obtain⟨c,e2,hc⟩:=G5 hne (by rw[hI.2.1];omega) hI.2.2
  rw[e2]
  exact⟨fun y hy=>hI.2.2 y ((mem y).mpr hy),c,rfl,hc.congr mem⟩
 ·right
  refine⟨fun k=>h (k _ ⟨_,_,(nW a _).mpr ⟨i,hi,rfl⟩,(nW b _).mpr ⟨j,hj,rfl⟩,rfl⟩),?_⟩
  rw[sw,bE,e1]
  simp only
  obtain⟨v,ev,hv⟩:=me (G0 ha hi) (G0 hb hj) ho
  rw[sw,bE,ll,ll,gC,za,bw ⟨trivial,hi⟩,gC,za,bw ⟨trivial,hj⟩,ev]
  simp only
  rw[bO h]
  rfl
def eV{op:Int}{a b c:aI}(ho:op=8\/op=9\/op=10)(ha:NN a)(hb:NN b)(hc:∀Q,Mid op a b Q->cS Q c)(hR:(∀y,DI op a b y->bY y)->∀y,oU op a b y->bY y):
  ((∀y,oU op a b y->bY y)/\ow op a b=V (c,0)/\NN c)\/((¬∀y,oU op a b y->bY y)/\ow op a b=V (aI.mk 0 0 0,3)):=by
 have hbin:binop op:=by unfold binop;omega
 by_cases hs:cnt a*cnt b<=4096
 ·rw[lD hbin ha hb hs]
  rcases uZ hbin ha hb (by omega)with ⟨h1,d,e,h2⟩|⟨h1,e⟩
  ·have k:=hc _ (GQ ha hb)
   rw[h2.uniq k]at e
   exact .inl ⟨h1,e,k.valid h1⟩
  ·exact .inr ⟨h1,e⟩
 ·have e0:ow op a b=pV op a b:=by
   rw[o4 hbin ha hb hs]
   unfold OJ
   rcases ho with rfl|rfl|rfl<;>rfl
  rw[e0]
  rcases abv hbin ha hb with ⟨h1,d,e,h2⟩|⟨h1,e⟩
  ·rw[h2.uniq (hc _ (aiO ha hb))]at e
   exact .inl ⟨hR h1,e,(hc _ (GQ ha hb)).valid (hR h1)⟩
  ·exact .inr ⟨fun k=>h1 fun y hy=>k y ((aiO ha hb).v y hy),e⟩
def UC{c:aI}(h:NN c):fL c.af c.aa c.ai=c:=by
 rw[Mf h.le h.s0 h.dvd (fun k=>by rcases h.st with e|e;exact e.2;omega)]
def Bx{c:aI}(h:NN c):nC c.af c.aa c.ai=V c:=by
 have:=h.lo;have:=h.hi
 rw[nU (by omega) (by omega) h.s0,UC h]
def nw{op:Int}{a b:aI}(ho:binop op)(ha:NN a)(hb:NN b){r:Option (aI×Int)}
  (h:(bif wP (op=9)then
   match bif bif jL (i64.wrap (a.af+i64.wrap (0-b.aa)))then wN else wO then V wO else V (bif jL (i64.wrap (a.aa+i64.wrap (0-b.af)))then wN else wO)with
   |none=>O
   |some r5=>bif r5 then V (aI.mk 0 0 0,3)else match Ce [a.ai,b.ai]with
    |none=>O
    |some r6=>match nC (i64.wrap (a.af+i64.wrap (0-b.aa))) (i64.wrap (a.aa+i64.wrap (0-b.af))) r6 with
     |none=>O
     |some r7=>V (r7,0)
  else bif wP (op=8)then
   match bif bif jL (i64.wrap (a.af+b.af))then wN else wO then V wO else V (bif jL (i64.wrap (a.aa+b.aa))then wN else wO)with
   |none=>O
   |some r8=>bif r8 then V (aI.mk 0 0 0,3)else match Ce [a.ai,b.ai]with
    |none=>O
    |some r9=>match nC (i64.wrap (a.af+b.af)) (i64.wrap (a.aa+b.aa)) r9 with
     |none=>O
     |some r10=>V (r10,0)
  else bif wP (op=10)then match Vh a b with
   |none=>O
   |some r11=>V r11
  else bif wP (op=11)then match vD op a b with
   |none=>O
   |some r12=>V (r12,0)
  else bif wP (op=12)then match vD op a b with
   |none=>O
   |some r13=>V (r13,0)
  else bif wP (op=21)then match vD op a b with
   |none=>O
   |some r14=>V (r14,0)
  else bif wP (op=22)then match vD op a b with
   |none=>O
   |some r15=>V (r15,0)
  else match YF op a b with
   |none=>O
   |some r16=>V (r16,0))=r):uX op a b=r:=by
 unfold uX
 rw[eR,eR,dX (.inr ha),dX (.inr hb),jV,bP ho]
 simp only[bE,bA]
 rw[eF ha.ne,eF hb.ne]
 simp only[bA]
 exact h
def jI{a b:aI}(ha:NN a)(hb:NN b):(∀y,oU 8 a b y->bY y)↔bY (a.af+b.af)/\bY (a.aa+b.aa):=by
 constructor
 ·intro h
  exact⟨h _ ⟨_,_,cY ha,cY hb,rfl⟩,h _ ⟨_,_,gq ha,gq hb,rfl⟩⟩
 ·rintro⟨⟨h1,h2⟩,⟨h3,h4⟩⟩ y ⟨x,z,⟨x1,x2,_⟩,⟨z1,z2,_⟩,rfl⟩
  exact⟨by show _<=x+z;omega,by show x+z<=_;omega⟩
def nc{a b:aI}(ha:NN a)(hb:NN b):(∀y,oU 9 a b y->bY y)↔bY (a.af-b.aa)/\bY (a.aa-b.af):=by
 constructor
 ·intro h
  exact⟨h _ ⟨_,_,cY ha,gq hb,rfl⟩,h _ ⟨_,_,gq ha,cY hb,rfl⟩⟩
 ·rintro⟨⟨h1,h2⟩,⟨h3,h4⟩⟩ y ⟨x,z,⟨x1,x2,_⟩,⟨z1,z2,_⟩,rfl⟩
  exact⟨by show _<=x-z;omega,by show x-z<=_;omega⟩
def jg{a b:aI}(ha:NN a)(hb:NN b):(∀y,oU 10 a b y->bY y)↔bY (a.af*b.af)/\bY (a.af*b.aa)/\bY (a.aa*b.af)/\bY (a.aa*b.aa):=by
 constructor
 ·intro h
  exact⟨h _ ⟨_,_,cY ha,cY hb,rfl⟩,h _ ⟨_,_,cY ha,gq hb,rfl⟩,h _ ⟨_,_,gq ha,cY hb,rfl⟩,h _ ⟨_,_,gq ha,gq hb,rfl⟩⟩
 ·rintro⟨h1,h2,h3,h4⟩ y ⟨x,z,⟨x1,x2,_⟩,⟨z1,z2,_⟩,rfl⟩
  have k:=QA (a:=a) (b:=b) ⟨x1,x2⟩ ⟨z1,z2⟩
  obtain⟨⟨p1,p2⟩,⟨p3,p4⟩⟩:=ahP (P:=bY) h1 h2 h3 h4
  exact⟨by show _<=x*z;omega,by show x*z<=_;omega⟩
def adg{x y u v:Int}(h1:x.natAbs=u.natAbs)(h2:y.natAbs=v.natAbs):bZ x y=bZ u v:=by
 unfold bZ yy
 rw[h1,h2]
def UF(p q r s:Int):aee ([p]++[q]++[r]++[s])=V (TZ p q r s):=by
 unfold aee
 rw[bO (by simp),bA,bw (by simp),show Hx=bI Dr from rfl]
 have st:∀m k,k=1\/k=2\/k=3->Dr (nP.mk ([p]++[q]++[r]++[s]) m k)=V (V (nP.mk ([p]++[q]++[r]++[s]) (min m ([p]++[q]++[r]++[s])[k.toNat]!) (k+1))):=fun m k hk=>by
  unfold Dr
  simp only
  rw[bP (by simp;omega),bE,bw (by simp;omega),aF]
  have e:∀w:Int,(if w<m then w else m)=min m w:=fun w=>by split<;>omega
  rw[e]
 rw[bQ (st _ 1 (.inl rfl)),bQ (st _ (1+1) (.inr (.inl rfl))),bQ (st _ (1+1+1) (.inr (.inr rfl))),cu (by intro x hx;simp[Dr]at hx)]
 simp only
 rw[bO (by simp),bA]
 show V (min (min (min p q) r) s)=V (TZ p q r s)
 unfold TZ
 congr 1
 omega
def TL(p q r s:Int):aew ([p]++[q]++[r]++[s])=V (hi4 p q r s):=by
 unfold aew
 rw[bO (by simp),bA,bw (by simp),show Iu=bI Em from rfl]
 have st:∀m k,k=1\/k=2\/k=3->Em (n6.mk ([p]++[q]++[r]++[s]) m k)=V (V (n6.mk ([p]++[q]++[r]++[s]) (max m ([p]++[q]++[r]++[s])[k.toNat]!) (k+1))):=fun m k hk=>by
  unfold Em
  simp only
  rw[bP (by simp;omega),bE,bw (by simp;omega),aF]
  have e:∀w:Int,(if m<w then w else m)=max m w:=fun w=>by split<;>omega
  rw[e]
 rw[bQ (st _ 1 (.inl rfl)),bQ (st _ (1+1) (.inr (.inl rfl))),bQ (st _ (1+1+1) (.inr (.inr rfl))),cu (by intro x hx;simp[Em]at hx)]
 simp only
 rw[bO (by simp),bA]
 show V (max (max (max p q) r) s)=V (hi4 p q r s)
 unfold hi4
 congr 1
 omega
def avs(x y:Int):(bif bif jL x then wN else wO then V wO else V (bif jL y then wN else wO))=V (!(wP (bY x)&&wP (bY y))):=by
 rw[show jL x=wP (bY x)from jR x,show jL y=wP (bY y)from jR y]
 cases wP (bY x)<;>cases wP (bY y)<;>rfl
def cZ{op:Int}{a b:aI}(h:∀y,DI op a b y->bY y){x z:Int}(hx:Kn a x)(hz:Kn b z):bY (fo op x z):=h _ ⟨x,z,hx,hz,rfl⟩
def Qk(op:Int)(a b:aI):Prop:=∃r,uX op a b=V r/\ow op a b=V r/\NV r.1
def WL{a b:aI}(ha:NN a)(hb:NN b):Qk 8 a b:=by
 have r1:=ha.qO
 have r2:=ha.A5
 have r3:=hb.qO
 have r4:=hb.A5
 obtain⟨a1,a2⟩:=r1
 obtain⟨a3,a4⟩:=r2
 obtain⟨b1,b2⟩:=r3
 obtain⟨b3,b4⟩:=r4
 have key:=eV (op:=8) (.inl rfl) ha hb (fun Q h=>lJ ha hb h) (fun h=>(jI ha hb).mpr ⟨cZ h (.inl rfl) (.inl rfl),cZ h (.inr (.inr rfl)) (.inr (.inr rfl))⟩)
 have prog:∀r,(match V (!(wP (bY (a.af+b.af))&&wP (bY (a.aa+b.aa))))with
   |none=>O
   |some r8=>bif r8 then V (aI.mk 0 0 0,(3:Int))else match nC (a.af+b.af) (a.aa+b.aa) (bZ a.ai b.ai)with
     |none=>O
     |some r10=>V (r10,0))=r->uX 8 a b=r:=fun r h=>nw ⟨by decide,by decide⟩ ha hb (by
  simp only[Int.reduceEq,gh,dx,bA,bE]
  rw[avs,aF (n:=a.af+b.af),aF (n:=a.aa+b.aa),Fk ha.s0 hb.s0]
  exact h)
 rcases key with ⟨h1,e,hv⟩|⟨h1,e⟩
 ·obtain⟨k1,k2⟩:=(jI ha hb).mp h1
  refine⟨_,prog _ ?_,e, .inr hv⟩
  rw[bP k1,bP k2]
  have:=Bx hv
  have this:nC (a.af+b.af) (a.aa+b.aa) (bZ a.ai b.ai)=V _:=this
  rw[this]
  rfl
 ·refine⟨_,prog _ ?_,e,Pz⟩
  have:(wP (bY (a.af+b.af))&&wP (bY (a.aa+b.aa)))=wN:=by
   cases c1:wP (bY (a.af+b.af))<;>cases c2:wP (bY (a.aa+b.aa))<;>first|rfl|exact cQ ((jI ha hb).mpr ⟨of_decide_eq_true c1,of_decide_eq_true c2⟩) h1
  rw[this]
  rfl
def Zo{a b:aI}(ha:NN a)(hb:NN b):Qk 9 a b:=by
 have r1:=ha.qO
 have r2:=ha.A5
 have r3:=hb.qO
 have r4:=hb.A5
 obtain⟨a1,a2⟩:=r1
 obtain⟨a3,a4⟩:=r2
 obtain⟨b1,b2⟩:=r3
 obtain⟨b3,b4⟩:=r4
 have key:=eV (op:=9) (.inr (.inl rfl)) ha hb (fun Q h=>vF ha hb h) (fun h=>(nc ha hb).mpr ⟨cZ h (.inl rfl) (.inr (.inr rfl)),cZ h (.inr (.inr rfl)) (.inl rfl)⟩)
 have prog:∀r,(match V (!(wP (bY (a.af-b.aa))&&wP (bY (a.aa-b.af))))with
   |none=>O
   |some r8=>bif r8 then V (aI.mk 0 0 0,(3:Int))else match nC (a.af-b.aa) (a.aa-b.af) (bZ a.ai b.ai)with
     |none=>O
     |some r10=>V (r10,0))=r->uX 9 a b=r:=fun r h=>nw ⟨by decide,by decide⟩ ha hb (by
  simp only[Int.reduceEq,gh,dx,bA,bE]
  rw[avs,aF (n:=0-b.aa),aF (n:=0-b.af),aF (n:=a.af+(0-b.aa)),aF (n:=a.aa+(0-b.af)),Fk ha.s0 hb.s0,
   show a.af+(0-b.aa)=a.af-b.aa by omega,show a.aa+(0-b.af)=a.aa-b.af by omega]
  exact h)
 rcases key with ⟨h1,e,hv⟩|⟨h1,e⟩
 ·obtain⟨k1,k2⟩:=(nc ha hb).mp h1
  refine⟨_,prog _ ?_,e, .inr hv⟩
  rw[bP k1,bP k2]
  have:=Bx hv
  have this:nC (a.af-b.aa) (a.aa-b.af) (bZ a.ai b.ai)=V _:=this
  rw[this]
  rfl
 ·refine⟨_,prog _ ?_,e,Pz⟩
  have:(wP (bY (a.af-b.aa))&&wP (bY (a.aa-b.af)))=wN:=by
   cases c1:wP (bY (a.af-b.aa))<;>cases c2:wP (bY (a.aa-b.af))<;>first|rfl|exact cQ ((nc ha hb).mpr ⟨of_decide_eq_true c1,of_decide_eq_true c2⟩) h1
  rw[this]
  rfl
def WB{a b:aI}(ha:NN a)(hb:NN b):Qk 10 a b:=by
 have key:=eV (op:=10) (.inr (.inr rfl)) ha hb (fun Q h=>u7 ha hb h) (fun h=>(jg ha hb).mpr ⟨cZ h (.inl rfl) (.inl rfl),cZ h (.inl rfl) (.inr (.inr rfl)),cZ h (.inr (.inr rfl)) (.inl rfl),cZ h (.inr (.inr rfl)) (.inr (.inr rfl))⟩)
 have prog:uX 10 a b=Vh a b:=nw ⟨by decide,by decide⟩ ha hb (by
  simp only[Int.reduceEq,gh,dx,bA,bE]
  cases Vh a b<;>rfl)
 unfold Qk
 rw[prog]
 obtain⟨v1,e1,q1⟩:=CH ha.qO hb.qO
 obtain⟨v2,e2,q2⟩:=CH ha.qO hb.A5
 obtain⟨v3,e3,q3⟩:=CH ha.A5 hb.qO
 obtain⟨v4,e4,q4⟩:=CH ha.A5 hb.A5
 unfold Vh
 rw[e1]
 simp only
 by_cases c1:bY (a.af*b.af)
 ·rw[bP c1,e2]
  simp only[bE,bA]
  by_cases c2:bY (a.af*b.aa)
  ·rw[bP c2,e3]
   simp only[bE,bA]
   by_cases c3:bY (a.aa*b.af)
   ·rw[bP c3,e4]
    simp only[bE,bA]
    by_cases c4:bY (a.aa*b.aa)
    ·rw[bP c4]
     simp only[bE,bA]
     have hr:=(jg ha hb).mpr ⟨c1,c2,c3,c4⟩
     rcases key with ⟨_,e,hv⟩|⟨h1,_⟩
     ·have r1:=ha.qO
      have r3:=hb.qO
      obtain⟨a1,a2⟩:=r1
      obtain⟨b1,b2⟩:=r3
      have s1:=ha.s0
      have s2:=hb.s0
      have l1:=ha.sle
      have l2:=hb.sle
      obtain⟨w1,w2⟩:=c1
      obtain⟨w3,w4⟩:=c2
      obtain⟨w5,w6⟩:=c3
      obtain⟨w7,w8⟩:=c4
      have n1:0<=a.ai*((b.af.natAbs:Nat):Int):=zq s1 (by omega)
      have n2:0<=b.ai*((a.af.natAbs:Nat):Int):=zq s2 (by omega)
      have n3:0<=a.ai*b.ai:=zq s1 s2
      have k1:a.ai*((b.af.natAbs:Nat):Int)<=2199023255552:=by
       have t:=zG l1 (show 0<=((b.af.natAbs:Nat):Int)by omega)
       have t2:(a.aa-a.af)*((b.af.natAbs:Nat):Int)<=2199023255552:=by
        rcases xI 0 b.af with c|c
        ·rw[show ((b.af.natAbs:Nat):Int)=b.af by omega,yl];omega
        ·rw[show ((b.af.natAbs:Nat):Int)= -b.af by omega,xN,yl];omega
       omega
      have k2:b.ai*((a.af.natAbs:Nat):Int)<=2199023255552:=by
       have t:=zG l2 (show 0<=((a.af.natAbs:Nat):Int)by omega)
       have t2:(b.aa-b.af)*((a.af.natAbs:Nat):Int)<=2199023255552:=by
        rcases xI 0 a.af with c|c
        ·rw[show ((a.af.natAbs:Nat):Int)=a.af by omega,yl,zA b.aa,zA b.af];omega
        ·rw[show ((a.af.natAbs:Nat):Int)= -a.af by omega,xN,yl,zA b.aa,zA b.af];omega
       omega
      have k3:a.ai*b.ai<=4398046511104:=by
       have t:=Int.mul_le_mul l1 l2 s2 (by omega)
       rw[yl,xL,xL]at t
       omega
      rw[m5 hb.qO,m5 ha.qO,aF (n:=a.ai*((b.af.natAbs:Nat):Int)),aF (n:=b.ai*((a.af.natAbs:Nat):Int)),aF (n:=a.ai*b.ai),
       D5 n1 n2 n3,UF,TL,q1 ⟨w1,w2⟩,q2 ⟨w3,w4⟩,q3 ⟨w5,w6⟩,q4 ⟨w7,w8⟩]
      simp only
      have eg:bZ (bZ (a.ai*((b.af.natAbs:Nat):Int)) (b.ai*((a.af.natAbs:Nat):Int))) (a.ai*b.ai)=(anu a b).ai:=by
       show _=bZ (bZ (a.ai*b.af) (b.ai*a.af)) (a.ai*b.ai)
       rw[adg (x:=a.ai*((b.af.natAbs:Nat):Int)) (u:=a.ai*b.af) (by rw[Int.natAbs_mul,Int.natAbs_mul,Int.natAbs_natCast]) (y:=b.ai*((a.af.natAbs:Nat):Int)) (v:=b.ai*a.af) (by rw[Int.natAbs_mul,Int.natAbs_mul,Int.natAbs_natCast])]
      rw[eg]
      have:=Bx hv
      have this:nC (TZ (a.af*b.af) (a.af*b.aa) (a.aa*b.af) (a.aa*b.aa)) (hi4 (a.af*b.af) (a.af*b.aa) (a.aa*b.af) (a.aa*b.aa)) (anu a b).ai=V _:=this
      rw[this]
      exact⟨_,rfl,e, .inr hv⟩
     ·exact cQ hr h1
    ·rcases key with ⟨h1,_⟩|⟨_,e⟩
     ·exact cQ ((jg ha hb).mp h1).2.2.2 c4
     ·rw[bO c4];exact⟨_,rfl,e,Pz⟩
   ·rcases key with ⟨h1,_⟩|⟨_,e⟩
    ·exact cQ ((jg ha hb).mp h1).2.2.1 c3
    ·rw[bO c3];exact⟨_,rfl,e,Pz⟩
  ·rcases key with ⟨h1,_⟩|⟨_,e⟩
   ·exact cQ ((jg ha hb).mp h1).2.1 c2
   ·rw[bO c2];exact⟨_,rfl,e,Pz⟩
 ·rcases key with ⟨h1,_⟩|⟨_,e⟩
  ·exact cQ ((jg ha hb).mp h1).1 c1
  ·rw[bO c1];exact⟨_,rfl,e,Pz⟩
structure Eu (x m a b u v:Int):Prop where
 a0:0<=a
 b2:2<=b
 ab:a<b
 g:yy a b=1
 du:m∣u*x-a
 dv:m∣v*x-b
 s:(0<=u/\v<=0/\b*u-a*v=m)\/(u<=0/\0<=v/\a*v-b*u=m)
def Eu.next{x m a b u v:Int}(h:Eu x m a b u v)(ha:1<a):Eu x m (b%a) a (v-b/a*u) u:=by
 have e:=yL b a
 have m0:=yM b (b:=a) (by omega)
 have m1:=yR b (b:=a) (by omega)
 refine⟨m0,by omega,m1,?_,?_,h.du,?_⟩
 ·have:=p9 (a:=b) (b:=a) (by have:=h.b2;omega) (by omega)
  rw[kC (by have:=h.b2;omega)]at this
  rw[Int.gcd_comm,this,Int.gcd_comm]
  exact h.g
 ·have k:=ym h.dv (zS h.du (y7 (b/a) _))
  have:v*x-b-b/a*(u*x-a)=(v-b/a*u)*x-b%a:=by
   rw[xL,yl,zN,zA (b/a) a]
   omega
  rwa [this]at k
 ·have t1:(b%a)*u=b*u-a*(b/a*u):=by
   rw[<-zN,<-yl]
   congr 1
   omega
  have t2:a*(v-b/a*u)=a*v-a*(b/a*u):=xL ..
  have q0:0<=b/a:=zQ (by have:=h.b2;omega) (by omega)
  rcases h.s with ⟨s1,s2,s3⟩|⟨s1,s2,s3⟩
  ·have:=zq q0 s1
   exact .inr ⟨by omega,s1,by omega⟩
  ·have:=zq q0 (show 0<= -u by omega)
   rw[xN]at this
   exact .inl ⟨by omega,s1,by omega⟩
def Eu.bd{x m a b u v:Int}(h:Eu x m a b u v): -m<=u/\u<=m:=by
 have hb:=h.b2
 have ha:=h.a0
 rcases h.s with ⟨s1,s2,s3⟩|⟨s1,s2,s3⟩
 ·have k1:=zq ha (show 0<= -v by omega)
  rw[xN]at k1
  have k2:1*u<=b*u:=zG (by omega) s1
  omega
 ·have k1:=zq ha s2
  have k2:1*(-u)<=b*(-u):=zG (by omega) (by omega)
  simp only[xN,zR]at k2
  omega
def Eu.bv{x m a b u v:Int}(h:Eu x m a b u v)(ha:1<a): -m<=v/\v<=m:=by
 have hb:=h.b2
 rcases h.s with ⟨s1,s2,s3⟩|⟨s1,s2,s3⟩
 ·have k1:=zq (show 0<=b by omega) s1
  have k2:1*(-v)<=a*(-v):=zG (by omega) (by omega)
  simp only[xN,zR]at k2
  omega
 ·have k1:=zq (show 0<=b by omega) (show 0<= -u by omega)
  rw[xN]at k1
  have k2:1*v<=a*v:=zG (by omega) s2
  omega
def alJ{x m a b u v:Int}(hm:m<1152921504606846976)(hbm:b<=m)(h:Eu x m a b u v):∃b' u' v',HQ (ko.mk m a b u v)=V (ko.mk m 1 b' u' v')/\m∣u'*x-1/\ -m<=u'/\u'<=m:=by
 obtain⟨z,e1,⟨a',b',u',v',rfl,hI,hb⟩,hs⟩:=lH (cO:=Fg) (fun p=>∃a b u v,p=ko.mk m a b u v/\Eu x m a b u v/\b<=m) (fun p=>p.t5.toNat) (fun p p' ⟨a,b,u,v,hp,hI,hbm⟩ hn=>by
  subst hp
  have hn:Fg (ko.mk m a b u v)=V (V p'):=hn
  unfold Fg at hn
  simp only at hn
  by_cases c:1<a
  ·have hN:=hI.next c
   have q0:0<=b/a:=zQ (by have:=hI.b2;omega) (by omega)
   have q1:b/a<=b:=ye _ (by have:=hI.b2;omega)
   have e:=yL b a
   rw[zA]at e
   have m0:=hN.a0
   have m1:=hN.ab
   have bu:=hI.bd
   have bv:=hI.bv c
   have bn:=hN.bd
   have hb2:=hI.b2
   have hab:=hI.ab
   rw[bP c,bE,gC,j6,aF (n:=b/a),aF (n:=b/a*a),aF (n:=b-b/a*a),aF (n:=b/a*u),aF (n:=v-b/a*u)]at hn
   simp only[zF.injEq]at hn
   subst hn
   rw[show b-b/a*a=b%a by omega]
   exact⟨⟨b%a,a,_,_,rfl,hN,by have:=hI.ab;omega⟩,by show (b%a).toNat<a.toNat;omega⟩
  ·rw[bO c]at hn;cases hn) ⟨a,b,u,v,rfl,h,hbm⟩
 have hle:¬1<a':=fun c=>by
  have hN:=hI.next c
  have q0:0<=b'/a':=zQ (by have:=hI.b2;omega) (by omega)
  refine hs (ko.mk m (i64.wrap (b'-i64.wrap (i64.wrap (b'.tdiv a')*a'))) a' (i64.wrap (v'-i64.wrap (i64.wrap (b'.tdiv a')*u'))) u') ?_
  unfold Fg
  simp only
  rw[bP c,bE,gC]
 have a1:a'=1:=by
  have:=hI.a0
  rcases (show a'=0\/a'=1 by omega)with rfl|rfl
  ·have g:=hI.g
   rw[Int.gcd_zero_left]at g
   have:=hI.b2
   omega
  ·rfl
 subst a1
 exact⟨b',u',v',e1,hI.du,hI.bd⟩
def afk{x m:Int}(h0:0<=x)(h1:2<=m)(h2:m<1152921504606846976)(hg:yy x m=1):∃v:Int,agM x m=V v/\0<=v/\v<m/\m∣v*x-1:=by
 have m0:=yM x (b:=m) (by omega)
 have m1:=yR x (b:=m) (by omega)
 have e:=yL x m
 obtain⟨b',u',v',e1,d1,d2,d3⟩:=alJ (x:=x) (m:=m) (a:=x%m) (b:=m) (u:=1) (v:=0) h2 (zg _) ⟨m0,h1,m1,by
   have:=p9 (a:=x) (b:=m) h0 (by omega)
   rw[kC h0]at this
   rw[Int.gcd_comm,this,hg],⟨x/m,by omega⟩,⟨-1,by omega⟩, .inl ⟨by omega,by omega,by omega⟩⟩
 unfold agM
 rw[gC,kC h0,e1]
 simp only
 rw[fy,bA,gC,gC]
 have t:=wI u' m
 have tb:(u'.tmod m).natAbs<m.natAbs:=by rw[xK];exact yP _ (by omega)
 rw[aF,kC]
 have ev:(u'.tmod m+m)%m=u'%m:=by
  rw[Int.add_emod_right]
  conv=>rhs;rw[<-t]
  rw[Int.mul_add_emod_self_left]
 rw[ev]
 refine⟨u'%m,rfl,yM _ (by omega),yR _ (by omega),?_⟩
 have e2:=yL u' m
 have:u'%m*x-1=u'*x-1-m*(u'/m*x):=by
  rw[<-zN]
  have:u'%m*x=u'*x-m*(u'/m)*x:=by
   rw[<-yl]
   congr 1
   omega
  omega
 rw[this]
 exact ym d1 (y9 ..)
def VL{x m:Int}(hm:1<=m):(x.tmod m+m).tmod m=x%m/\0<=x.tmod m+m/\x.tmod m+m<2*m/\ -m<x.tmod m:=by
 have t:=wI x m
 have tb:(x.tmod m).natAbs<m.natAbs:=by rw[xK];exact yP _ (by omega)
 refine⟨?_,by omega,by omega,by omega⟩
 rw[kC,Int.add_emod_right]
 conv=>rhs;rw[<-t]
 rw[Int.mul_add_emod_self_left]
def IF(X Y Z:Int->Int)(sa P M K:Int):Option aI:=
 bif wP (M<K)then V iR else if¬P=(0:Int)then bif wP (K=i64.wrap (K+i64.wrap (i64.wrap ((i64.wrap (M-K)).tdiv P)*P)))then V (gJ (X K))else V (aI.mk (Y K) (Z K) (i64.wrap (P*sa)))else O
def Gw{X Y Z:Int->Int}{sa P M K:Int}(h1:1<=sa)(h2:1<=P)(h3:0<=K)(h4:M<=4398046511104)(h5:M*sa<=4398046511104):∃c,IF X Y Z sa P M K=V c/\fm c=wP (M<K):=by
 unfold IF
 by_cases c:M<K
 ·rw[bP c]
  exact⟨cy,rfl,iT⟩
 ·rw[bO c,bA,gC]
  have q0:0<=(M-K)/P:=zQ (by omega) (by omega)
  have q1:(M-K)/P<=M-K:=ye _ (by omega)
  have q2:(M-K)/P*P<=M-K:=yV _ (by omega)
  have q3:0<=(M-K)/P*P:=zq q0 (by omega)
  rw[aF (n:=M-K),j6,aF (n:=(M-K)/P),aF (n:=(M-K)/P*P),aF (n:=K+(M-K)/P*P)]
  by_cases e:K=K+(M-K)/P*P
  ·rw[bP e]
   refine⟨gJ (X K),rfl,eF fun k=> ?_⟩
   have k1:X K=1:=congrArg aI.af k
   have k2:X K=0:=congrArg aI.aa k
   omega
  ·rw[bO e]
   refine⟨_,rfl,eF fun k=> ?_⟩
   have k3:i64.wrap (P*sa)=0:=congrArg aI.ai k
   have q5:1<=(M-K)/P:=by
    rcases (show (M-K)/P=0\/1<=(M-K)/P by omega)with z|z
    ·rw[z,xG]at e;omega
    ·exact z
   have q6:1*P<=(M-K)/P*P:=zG q5 (by omega)
   have q7:P*sa<=M*sa:=zG (by omega) (by omega)
   have q8:1*1<=P*sa:=Int.mul_le_mul h2 h1 (by omega) (by omega)
   rw[aF]at k3
   omega
def S7(X Y Z:Int->Int)(sa P M L k:Int):Option aI:=
 if¬sa=(0:Int)then if¬sa=(0:Int)then bif wP (k<L)then if¬P=(0:Int)then IF X Y Z sa P M (i64.wrap (k+i64.wrap (i64.wrap ((i64.wrap (i64.wrap (i64.wrap (L-k)+P)-1)).tdiv P)*P)))else O else IF X Y Z sa P M k else O else O
def DK{X Y Z:Int->Int}{sa P M L k:Int}(h1:1<=sa)(h2:1<=P)(h3:0<=k)(hk:k<P)(hP:P<=4398046511104)(h4:M<=4398046511104)(h5:M*sa<=4398046511104)(hL:0<=L)(hL2:L<=4398046511104):
  ∃c,S7 X Y Z sa P M L k=V c/\(fm c=wN↔∃j,L<=j/\j<=M/\P∣j-k):=by
 unfold S7
 rw[gC,gC]
 by_cases c:k<L
 ·have q0:0<=(L-k+P-1)/P:=zQ (by omega) (by omega)
  have q2:(L-k+P-1)/P*P<=L-k+P-1:=yV _ (by omega)
  have q1:(L-k+P-1)/P<=L-k+P-1:=ye _ (by omega)
  have q3:0<=(L-k+P-1)/P*P:=zq q0 (by omega)
  have q4:=wH (L-k+P-1) (show 0<P by omega)
  rw[zI,zR]at q4
  rw[bP c,bE,gC,aF (n:=L-k),aF (n:=L-k+P),aF (n:=L-k+P-1),j6,aF (n:=(L-k+P-1)/P),aF (n:=(L-k+P-1)/P*P),aF (n:=k+(L-k+P-1)/P*P)]
  obtain⟨r,e,hr⟩:=Gw (X:=X) (Y:=Y) (Z:=Z) (K:=k+(L-k+P-1)/P*P) h1 h2 (by omega) h4 h5
  refine⟨r,e,?_⟩
  rw[hr]
  constructor
  ·intro hd
   have:=of_decide_eq_false hd
   exact⟨k+(L-k+P-1)/P*P,by omega,by omega,by rw[show k+(L-k+P-1)/P*P-k=(L-k+P-1)/P*P by omega];exact y7 ..⟩
  ·rintro⟨j,j1,j2,t,j3⟩
   rw[zA]at j3
   refine bO ?_
   have:(L-k+P-1)/P<=t:=by
    have:(L-k+P-1)/P<t+1:=wo (a:=P) (by rw[zI,zR];omega) (by omega)
    omega
   have:=zG this (show 0<=P by omega)
   omega
 ·rw[bO c,bA]
  obtain⟨r,e,hr⟩:=Gw (X:=X) (Y:=Y) (Z:=Z) (K:=k) h1 h2 h3 h4 h5
  refine⟨r,e,?_⟩
  rw[hr]
  constructor
  ·intro hd
   have:=of_decide_eq_false hd
   exact⟨k,by omega,by omega,⟨0,by omega⟩⟩
  ·rintro⟨j,j1,j2,t,j3⟩
   rw[zA]at j3
   refine bO ?_
   have:0<=t:=Decidable.byContradiction fun h=>by
    have:t*P<= -1*P:=zG (by omega) (by omega)
    omega
   have:=zq this (show 0<=P by omega)
   omega
def lY{a b:aI}(ha:NN a)(hb:NN b)(h1:1<=a.ai)(x:Int):(bz a x/\bz b x)↔∃j:Int,x=a.af+j*a.ai/\max a.af b.af<=x/\x<=min a.aa b.aa/\b.ai∣j*a.ai-(b.af-a.af):=by
 constructor
 ·rintro⟨⟨x1,x2,j,x3⟩,⟨z1,z2,z3⟩⟩
  rw[zA]at x3
  exact⟨j,by omega,by omega,by omega,by rw[<-x3,show x-a.af-(b.af-a.af)=x-b.af by omega];exact z3⟩
 ·rintro⟨j,e,h2,h3,h4⟩
  refine⟨⟨by omega,by omega,⟨j,by rw[zA];omega⟩⟩,⟨by omega,by omega,?_⟩⟩
  rw[show x-b.af=j*a.ai-(b.af-a.af)by omega]
  exact h4
def mY{lo s x low high j:Int}(hs:1<=s)(hl:lo<=low)(hx:x=lo+j*s):(low<=x/\x<=high)↔((low-lo+s-1)/s<=j/\j<=(high-lo)/s):=by
 have q2:(low-lo+s-1)/s*s<=low-lo+s-1:=yV _ (by omega)
 have q4:=wH (low-lo+s-1) (show 0<s by omega)
 rw[zI,zR]at q4
 constructor
 ·rintro⟨h1,h2⟩
  refine⟨?_,Int.le_ediv_of_mul_le (by omega) (by omega)⟩
  have:(low-lo+s-1)/s<j+1:=wo (a:=s) (by rw[zI,zR];omega) (by omega)
  omega
 ·rintro⟨h1,h2⟩
  have k1:=zG h1 (show 0<=s by omega)
  have k2:j*s<=high-lo:=y6 (zG h2 (by omega)) (yV _ (by omega))
  exact⟨by omega,by omega⟩
def ae7{a b:aI}(ha:NN a)(hb:NN b)(h1:1<=a.ai)(h2:1<=b.ai):∃c,aeJ a b=V c/\(fm c=wN↔∃x,bz a x/\bz b x):=by
 have a1:=ha.lo
 have a2:=ha.hi
 have a3:=ha.le
 have a4:=ha.sle
 have b1:=hb.lo
 have b2:=hb.hi
 have b3:=hb.le
 have b4:=hb.sle
 have g0:=ld a.ai b.ai
 have gl:=jY a.ai b.ai
 have gr:=qB a.ai b.ai
 have gpos:1<=bZ a.ai b.ai:=by
  rcases (show bZ a.ai b.ai=0\/1<=bZ a.ai b.ai by omega)with z|z
  ·rw[z]at gl
   have:=xH.mp gl
   omega
  ·exact z
 have hcop:yy (a.ai/bZ a.ai b.ai) (b.ai/bZ a.ai b.ai)=1:=Int.gcd_ediv_gcd_ediv_gcd (show 0<yy a.ai b.ai by unfold bZ at gpos;omega)
 unfold aeJ
 rw[Fk (by omega) (by omega)]
 simp only
 generalize bZ a.ai b.ai=g at*
 rw[show (if b.aa<a.aa then b.aa else a.aa)=min a.aa b.aa by split<;>omega,show (if a.af<b.af then b.af else a.af)=max a.af b.af by split<;>omega]
 by_cases c1:min a.aa b.aa<max a.af b.af
 ·rw[bP c1]
  refine⟨cy,rfl,?_⟩
  rw[iT]
  exact⟨fun k=>(by cases k),fun⟨x,x1,x2⟩=>by have:=x1.1;have:=x1.2.1;have:=x2.1;have:=x2.2.1;omega⟩
 ·rw[bO c1,bA,bw (show ¬@Eq Int g 0 by omega),aF (n:=b.af-a.af)]
  simp only
  by_cases c2:(b.af-a.af).tmod g=0
  ·rw[bP c2]
   simp only[bE,bA]
   have eA:i64.wrap (a.ai.tdiv g)=a.ai/g:=by
    have:=ye (a:=a.ai) g (by omega)
    have:=zQ (a:=a.ai) (b:=g) (by omega) (by omega)
    rw[j6,aF]
   have eP:i64.wrap (b.ai.tdiv g)=b.ai/g:=by
    have:=ye (a:=b.ai) g (by omega)
    have:=zQ (a:=b.ai) (b:=g) (by omega) (by omega)
    rw[j6,aF]
   have mA:a.ai/g*g=a.ai:=x9 gl
   have mP:b.ai/g*g=b.ai:=x9 gr
   have hA0:0<=a.ai/g:=zQ (by omega) (by omega)
   have hA1:a.ai/g<=a.ai:=ye _ (by omega)
   have hP1:b.ai/g<=b.ai:=ye _ (by omega)
   have hP0:1<=b.ai/g:=by
    have:0<=b.ai/g:=zQ (by omega) (by omega)
    rcases (show b.ai/g=0\/1<=b.ai/g by omega)with z|z
    ·rw[z,xG]at mP;omega
    ·exact z
   rw[eA,eP]
   obtain⟨D,hD⟩:=Int.dvd_of_tmod_eq_zero c2
   have eD:(b.af-a.af).tdiv g=D:=by rw[hD];exact Int.mul_tdiv_cancel_left _ (by omega)
   have dnat:D.natAbs<=(b.af-a.af).natAbs:=by rw[<-eD,Int.natAbs_tdiv];exact Nat.div_le_self _ _
   rw[eD]
   generalize a.ai/g=A at*
   generalize b.ai/g=P at*
   have el:i64.wrap (i64.wrap (i64.wrap (max a.af b.af-a.af)+a.ai)-1)=max a.af b.af-a.af+a.ai-1:=by
    rw[aF (n:=max a.af b.af-a.af),aF (n:=max a.af b.af-a.af+a.ai),aF]
   have l0:0<=(max a.af b.af-a.af+a.ai-1)/a.ai:=zQ (by omega) (by omega)
   have l1:(max a.af b.af-a.af+a.ai-1)/a.ai<=max a.af b.af-a.af+a.ai-1:=ye _ (by omega)
   have h0:0<=(min a.aa b.aa-a.af)/a.ai:=zQ (by omega) (by omega)
   have hh1:(min a.aa b.aa-a.af)/a.ai<=min a.aa b.aa-a.af:=ye _ (by omega)
   have hh2:(min a.aa b.aa-a.af)/a.ai*a.ai<=min a.aa b.aa-a.af:=yV _ (by omega)
   rw[el,aF (n:=min a.aa b.aa-a.af),j6 (a:=max a.af b.af-a.af+a.ai-1) (by omega),j6 (a:=min a.aa b.aa-a.af) (by omega),
    aF (n:=(max a.af b.af-a.af+a.ai-1)/a.ai),aF (n:=(min a.aa b.aa-a.af)/a.ai)]
   have cm:∀k,P∣k*A-D↔b.ai∣k*a.ai-(b.af-a.af):=fun k=>by
    have e:k*a.ai-(b.af-a.af)=(k*A-D)*g:=by rw[hD,<-mA,yl,zN,zA D g]
    rw[e,<-mP]
    exact⟨fun h=>Int.mul_dvd_mul_right _ h,fun h=>Int.dvd_of_mul_dvd_mul_right (by omega) h⟩
   have fin:∀k0,(∀k,P∣k*A-D↔P∣k-k0)->((∃j,(max a.af b.af-a.af+a.ai-1)/a.ai<=j/\j<=(min a.aa b.aa-a.af)/a.ai/\P∣j-k0)↔∃x,bz a x/\bz b x):=fun k0 hk=>by
    constructor
    ·rintro⟨j,j1,j2,j3⟩
     have r:=(mY (lo:=a.af) (s:=a.ai) (low:=max a.af b.af) (high:=min a.aa b.aa) (j:=j) h1 (by omega) rfl).mpr ⟨j1,j2⟩
     exact⟨_,(lY ha hb h1 _).mpr ⟨j,rfl,r.1,r.2,(cm j).mp ((hk j).mpr j3)⟩⟩
    ·rintro⟨x,hx⟩
     obtain⟨j,e,x1,x2,x3⟩:=(lY ha hb h1 x).mp hx
     have r:=(mY (lo:=a.af) (s:=a.ai) (low:=max a.af b.af) (high:=min a.aa b.aa) (j:=j) h1 (by omega) e).mp ⟨x1,x2⟩
     exact⟨j,r.1,r.2,(hk j).mp ((cm j).mpr x3)⟩
   rw[bw (show ¬@Eq Int g 0 by omega)]
   by_cases c3:1<P
   ·rw[bP c3,bE,bw (show ¬@Eq Int g 0 by omega),gC,gC,bw (show ¬@Eq Int g 0 by omega),gC]
    have m0:=yM A (b:=P) (by omega)
    have m1:=yR A (b:=P) (by omega)
    have hg:yy (A%P) P=1:=by
     have:=p9 (a:=A) (b:=P) hA0 (by omega)
     rw[kC hA0]at this
     rw[Int.gcd_comm,this,hcop]
    obtain⟨v,e1,v0,v1,v2⟩:=afk (x:=A%P) (m:=P) m0 (by omega) (by omega) hg
    rw[kC hA0,e1]
    simp only
    obtain⟨f1,f2,f3,f4⟩:=VL (x:=D) (m:=P) (by omega)
    have d0:=yM D (b:=P) (by omega)
    have d1:=yR D (b:=P) (by omega)
    rw[aF (n:=D),aF (n:=D.tmod P+P),f1,aoZ d0 d1 v0 v1 (by omega)]
    simp only
    have k0:=yM (D%P*v) (b:=P) (by omega)
    have k1:=yR (D%P*v) (b:=P) (by omega)
    have vA:P∣v*A-1:=by
     have e:=yL A P
     have t:v*A-1=v*(A%P)-1+P*(v*(A/P)):=by
      conv=>lhs;rw[<-e]
      rw[yS,Int.mul_left_comm v P]
      omega
     rw[t]
     exact yO v2 (y9 ..)
    have hk:∀k,P∣k*A-D↔P∣k-D%P*v%P:=fun k=>by
     have e1:P∣D*v-D%P*v%P:=by
      have t1:=yL (D%P*v) P
      have t2:=yL D P
      have:D*v-D%P*v%P=P*(D/P*v)+P*(D%P*v/P):=by
       have:D*v=P*(D/P*v)+D%P*v:=by
        conv=>lhs;rw[<-t2]
        rw[zI,zN]
       omega
      rw[this]
      exact yO (y9 ..) (y9 ..)
     constructor
     ·intro h
      have t:=ym (zS h (y9 _ v)) (zS vA (y9 _ k))
      have t2:(k*A-D)*v-(v*A-1)*k=k-D*v:=by
       rw[yl,yl,zR,zN,zA (v*A) k,zA A v]
       omega
      rw[t2]at t
      have:=yO t e1
      rwa [show k-D*v+(D*v-D%P*v%P)=k-D%P*v%P by omega]at this
     ·intro h
      have t:=ym h e1
      rw[show k-D%P*v%P-(D*v-D%P*v%P)=k-D*v by omega]at t
      have t2:=yO (zS t (y9 _ A)) (zS vA (y9 _ D))
      have t3:(k-D*v)*A+(v*A-1)*D=k*A-D:=by
       rw[yl,yl,zR,zN,zA (v*A) D]
       omega
      rwa [t3]at t2
    obtain⟨c,e,hc⟩:=DK (X:=fun K=>i64.wrap (a.af+i64.wrap (K*a.ai))) (Y:=fun K=>i64.wrap (a.af+i64.wrap (K*a.ai))) (Z:=fun K=>i64.wrap (a.af+i64.wrap (i64.wrap (K+i64.wrap (i64.wrap ((i64.wrap ((min a.aa b.aa-a.af)/a.ai-K)).tdiv P)*P))*a.ai)))
     h1 hP0 k0 k1 (by omega) (M:=(min a.aa b.aa-a.af)/a.ai) (by omega) (by omega) l0 (by omega)
    exact⟨c,e,hc.trans (fin _ hk)⟩
   ·have p1:P=1:=by omega
    rw[bO c3,bA]
    obtain⟨c,e,hc⟩:=DK (X:=fun K=>i64.wrap (a.af+i64.wrap (K*a.ai))) (Y:=fun K=>i64.wrap (a.af+i64.wrap (K*a.ai))) (Z:=fun K=>i64.wrap (a.af+i64.wrap (i64.wrap (K+i64.wrap (i64.wrap ((i64.wrap ((min a.aa b.aa-a.af)/a.ai-K)).tdiv P)*P))*a.ai)))
     h1 hP0 (k:=0) (by omega) (by omega) (by omega) (M:=(min a.aa b.aa-a.af)/a.ai) (by omega) (by omega) l0 (by omega)
    exact⟨c,e,hc.trans (fin 0 fun k=>by subst p1;exact⟨fun _=>Int.one_dvd _,fun _=>Int.one_dvd _⟩)⟩
  ·rw[bO c2]
   refine⟨cy,rfl,?_⟩
   rw[iT]
   refine⟨fun k=>(by cases k),fun⟨x,hx⟩=> ?_⟩
   obtain⟨j,e,x1,x2,x3⟩:=(lY ha hb h1 x).mp hx
   exfalso
   apply c2
   have k1:=zS gr x3
   have k2:=ym (zS gl (y7 j _)) k1
   rw[show j*a.ai-(j*a.ai-(b.af-a.af))=b.af-a.af by omega]at k2
   exact Int.tmod_eq_zero_of_dvd k2
def EN{a:aI}(h:NN a)(h0:a.ai=0)(x:Int):bz a x↔x=a.af:=by
 constructor
 ·rintro⟨h1,h2,h3⟩
  rw[h0]at h3
  have:=xH.mp h3
  omega
 ·rintro rfl
  exact cY h
def C5{M:aI->aI->Option aI}{a b:aI}(ha:NN a)(hb:NN b)(h0:a.ai=0):∃c,Ah M a b=V c/\(fm c=wN↔∃x,bz a x/\bz b x):=by
 unfold Ah
 rw[eF ha.ne,eF hb.ne]
 simp only[bA]
 rw[bP h0,bE,Ir (.inr hb)]
 simp only
 by_cases h:bz b a.af
 ·rw[fQ h]
  exact⟨a,rfl,fun _=>⟨_,cY ha,h⟩,fun _=>eF ha.ne⟩
 ·rw[jq h]
  refine⟨cy,rfl,fun k=> ?_,fun⟨x,h1,h2⟩=> ?_⟩
  ·rw[iT]at k;cases k
  ·rw[(EN ha h0 x).mp h1]at h2
   exact cQ h2 h
def aei{a b:aI}(ha:NN a)(hb:NN b):∃c,aeN a b=V c/\(fm c=wN↔∃x,bz a x/\bz b x):=by
 have cm:(∃x,bz b x/\bz a x)↔∃x,bz a x/\bz b x:=⟨fun⟨x,h1,h2⟩=>⟨x,h2,h1⟩,fun⟨x,h1,h2⟩=>⟨x,h2,h1⟩⟩
 have s0:=ha.s0
 have t0:=hb.s0
 by_cases h0:a.ai=0
 ·obtain⟨c,e,h⟩:=C5 (M:=fun _ _=>O) ha hb h0
  refine⟨c,eE 1 fun n hn=> ?_,h⟩
  obtain⟨k,rfl⟩:∃k,n=k+1:=⟨n-1,by omega⟩
  obtain⟨c',e',h'⟩:=C5 (M:=BI k) ha hb h0
  have:Ah (BI k) a b=Ah (fun _ _=>O) a b:=by
   unfold Ah
   rw[eF ha.ne,eF hb.ne]
   simp only[bA]
   rw[bP h0]
   simp only[bE]
  exact this.trans e
 ·by_cases k0:b.ai=0
  ·obtain⟨c,e,h⟩:=C5 (M:=fun _ _=>O) hb ha k0
   refine⟨c,eE 2 fun n hn=> ?_,h.trans cm⟩
   obtain⟨k,rfl⟩:∃k,n=k+1+1:=⟨n-2,by omega⟩
   have:Ah (BI k) b a=Ah (fun _ _=>O) b a:=by
    unfold Ah
    rw[eF ha.ne,eF hb.ne]
    simp only[bA]
    rw[bP k0]
    simp only[bE]
   have e1:BI (k+1) b a=V c:=this.trans e
   show Ah (BI (k+1)) a b=V c
   unfold Ah
   rw[eF ha.ne,eF hb.ne]
   simp only[bA]
   rw[bO h0,bA,bP k0,bE,e1]
  ·obtain⟨c,e,h⟩:=ae7 ha hb (by omega) (by omega)
   refine⟨c,eE 1 fun n hn=> ?_,h⟩
   obtain⟨k,rfl⟩:∃k,n=k+1:=⟨n-1,by omega⟩
   show Ah (BI k) a b=V c
   unfold Ah
   rw[eF ha.ne,eF hb.ne]
   simp only[bA]
   rw[bO h0,bA,bO k0,bA,e]
def Sj{a:aI}(h:NN a)(k:1<cV a):1<=a.ai:=by
 have:=j5 h
 have:=h.le
 rcases h.st with ⟨e,_⟩|⟨_,e,_⟩
 ·have:=(j5 h).mpr e;omega
 ·exact e
def early{a b:aI}(ha:NN a)(hb:NN b)(h1:1<=a.ai)(h2:1<=b.ai){low high:Int}(el:low=max a.af b.af)(eh:high=min a.aa b.aa):
  (∃x,bz a x/\bz b x)↔∃k:Nat,(k:Int)<b.ai/bZ a.ai b.ai/\a.af+((low-a.af+a.ai-1)/a.ai)*a.ai+(k:Int)*a.ai<=high/\bz b (a.af+((low-a.af+a.ai-1)/a.ai)*a.ai+(k:Int)*a.ai):=by
 have gl:=jY a.ai b.ai
 have gr:=qB a.ai b.ai
 have g0:=ld a.ai b.ai
 have mP:b.ai/bZ a.ai b.ai*bZ a.ai b.ai=b.ai:=x9 gr
 have gpos:1<=bZ a.ai b.ai:=by
  rcases (show bZ a.ai b.ai=0\/1<=bZ a.ai b.ai by omega)with z|z
  ·rw[z]at gl
   have:=xH.mp gl
   omega
  ·exact z
 have hP0:1<=b.ai/bZ a.ai b.ai:=by
  have:0<=b.ai/bZ a.ai b.ai:=zQ (by omega) (by omega)
  rcases (show b.ai/bZ a.ai b.ai=0\/1<=b.ai/bZ a.ai b.ai by omega)with z|z
  ·rw[z,xG]at mP;omega
  ·exact z
 have per:b.ai∣b.ai/bZ a.ai b.ai*a.ai:=by
  obtain⟨q,hq⟩:=gl
  generalize bZ a.ai b.ai=g at*
  rw[hq,<-zN,mP]
  exact y9 ..
 generalize b.ai/bZ a.ai b.ai=P at*
 subst el eh
 generalize hL:(max a.af b.af-a.af+a.ai-1)/a.ai=L
 constructor
 ·rintro⟨x,hx⟩
  obtain⟨j,e,x1,x2,x3⟩:=(lY ha hb h1 x).mp hx
  have r:=(mY (lo:=a.af) (s:=a.ai) (low:=max a.af b.af) (high:=min a.aa b.aa) (j:=j) h1 (by omega) e).mp ⟨x1,x2⟩
  rw[hL]at r
  have m0:=yM (j-L) (b:=P) (by omega)
  have m1:=yR (j-L) (b:=P) (by omega)
  have m2:=yL (j-L) P
  have q0:0<=(j-L)/P:=zQ (by omega) (by omega)
  have ex:a.af+L*a.ai+(j-L)%P*a.ai=x-(j-L)/P*(P*a.ai):=by
   have:j*a.ai=(P*((j-L)/P)+(j-L)%P+L)*a.ai:=by congr 1;omega
   rw[zI,zI,zA P,zN]at this
   omega
  have hp:0<=(j-L)/P*(P*a.ai):=zq q0 (zq (by omega) (by omega))
  have r2:=(mY (lo:=a.af) (s:=a.ai) (low:=max a.af b.af) (high:=min a.aa b.aa) (x:=a.af+(L+(j-L)%P)*a.ai) (j:=L+(j-L)%P) h1 (by omega) rfl).mpr
   ⟨by rw[hL];omega,by
    have:(j-L)%P<=j-L:=by
     have:=zq (show 0<=P by omega) q0
     omega
    omega⟩
  rw[zI,<-Int.add_assoc]at r2
  refine⟨((j-L)%P).toNat,by omega,?_⟩
  rw[Int.toNat_of_nonneg m0]
  refine⟨r2.2,by omega,by omega,?_⟩
  rw[ex,show x-(j-L)/P*(P*a.ai)-b.af=x-b.af-(j-L)/P*(P*a.ai)by omega]
  exact ym hx.2.2.2 (zS per (y7 ..))
 ·rintro⟨k,k1,k2,k3⟩
  have e:a.af+L*a.ai+(k:Int)*a.ai=a.af+(L+(k:Int))*a.ai:=by rw[zI];omega
  rw[e]at k2 k3
  have l0:=(mY (lo:=a.af) (s:=a.ai) (low:=max a.af b.af) (high:=a.af+(L+(k:Int))*a.ai) (x:=a.af+(L+(k:Int))*a.ai) (j:=L+(k:Int)) h1 (by omega) rfl).mpr
   ⟨by rw[hL];omega,by rw[show a.af+(L+(k:Int))*a.ai-a.af=(L+(k:Int))*a.ai by omega,Int.mul_ediv_cancel _ (by omega)];exact zg _⟩
  exact⟨_,(lY ha hb h1 _).mpr ⟨_,rfl,l0.1,k2,by
   have:=k3.2.2
   rwa [show a.af+(L+(k:Int))*a.ai-b.af=(L+(k:Int))*a.ai-(b.af-a.af)by omega]at this⟩⟩
def OA{g P k n high sb:Int}(hg:1<=g)(hP:i64.wrap (sb.tdiv g)=P):(if¬g=(0:Int)then bif wP (k<i64.wrap (sb.tdiv g))then V (wP (n<=high))else V wN else O)=V (wP (k<P/\n<=high)):=by
 rw[gC,hP]
 by_cases c:k<P
 ·rw[bP c,bE]
  by_cases d:n<=high
  ·rw[bP d,bP ⟨c,d⟩]
  ·rw[bO d,bO (fun e=>d e.2)]
 ·rw[bO c,bA,bO (fun e=>c e.1)]
def agA{M:aI->aI->Option Bool}{a b:aI}(hb:NN b){g P high n0:Int}(hg:1<=g)(hP:i64.wrap (b.ai.tdiv g)=P)(hP1:P<=4398046511104)(hs:1<=a.ai)(hs2:a.ai<=4398046511104)(hh:high<=1099511627776)(hn: -1099511627776<=n0)(hP0:0<=P):
  (match ox M (iC.mk high g n0 0 a b)with
   |none=>O
   |some r10=>match if¬r10.t7=(0:Int)then bif wP (r10.t9<i64.wrap (r10.b1.ai.tdiv r10.t7))then V (wP (r10.t8<=r10.t6))else V wN else O with
    |none=>O
    |some r11=>bif r11 then match m32 r10.b1 r10.t8 with
     |none=>O
     |some r12=>bif r12 then V wO else O
     else V wN)=V (open Classical in wP (∃k:Nat,(k:Int)<P/\n0+(k:Int)*a.ai<=high/\bz b (n0+(k:Int)*a.ai))):=by
 obtain⟨z,e1,⟨k,rfl,hk,hI⟩,hstop⟩:=lH (cO:=Bt M) (fun p=>∃k:Nat,p=iC.mk high g (n0+(k:Int)*a.ai) (k:Int) a b/\(k:Int)<=P/\∀i:Nat,i<k->¬bz b (n0+(i:Int)*a.ai))
  (fun p=>(P-p.t9).toNat) (fun p p' ⟨k,hp,hk,hI⟩ hq=>by
   subst hp
   have hq:Bt M (iC.mk high g (n0+(k:Int)*a.ai) (k:Int) a b)=V (V p'):=hq
   unfold Bt at hq
   simp only at hq
   rw[OA hg hP]at hq
   by_cases c:(k:Int)<P/\n0+(k:Int)*a.ai<=high
   ·rw[bP c]at hq
    simp only[bE]at hq
    rw[qI (.inr hb)]at hq
    simp only at hq
    by_cases d:bz b (n0+(k:Int)*a.ai)
    ·rw[fQ d]at hq;cases hq
    ·rw[jq d]at hq
     have k0:0<=(k:Int)*a.ai:=zq (by omega) (by omega)
     rw[bA,aF (n:=n0+(k:Int)*a.ai+a.ai),aF (n:=(k:Int)+1)]at hq
     simp only[zF.injEq]at hq
     subst hq
     refine⟨⟨k+1,?_,by omega,fun i hi=> ?_⟩,by show (P-((k:Int)+1)).toNat<(P-(k:Int)).toNat;omega⟩
     ·rw[show ((k+1:Nat):Int)=(k:Int)+1 by omega,zI,zR,Int.add_assoc]
     ·rcases yT.mp hi with q|rfl
      ·exact hI i q
      ·exact d
   ·rw[bO c]at hq
    cases hq) (p:=iC.mk high g n0 0 a b) ⟨0,by simp,by simpa using hP0,fun i hi=>cQ hi (yD _)⟩
 rw[show ox M=bI (Bt M)from rfl,e1]
 simp only
 rw[OA hg hP]
 by_cases c:(k:Int)<P/\n0+(k:Int)*a.ai<=high
 ·rw[bP c]
  simp only[bE]
  rw[qI (.inr hb)]
  simp only
  by_cases d:bz b (n0+(k:Int)*a.ai)
  ·rw[fQ d,bE]
   congr 1
   exact(@decide_eq_true _ (Classical.propDecidable _) ⟨k,c.1,c.2,d⟩).symm
  ·exfalso
   refine hstop (iC.mk high g (i64.wrap (n0+(k:Int)*a.ai+a.ai)) (i64.wrap ((k:Int)+1)) a b) ?_
   unfold Bt
   simp only
   rw[OA hg hP,bP c]
   simp only[bE]
   rw[qI (.inr hb),jq d]
   rfl
 ·rw[bO c]
  simp only[bA]
  congr 1
  refine(@decide_eq_false _ (Classical.propDecidable _) ?_).symm
  rintro⟨i,i1,i2,i3⟩
  rcases Nat.lt_or_ge i k with q|q
  ·exact hI i q i3
  ·apply c
   have:(k:Int)*a.ai<=(i:Int)*a.ai:=zG (by omega) (by omega)
   exact⟨by omega,by omega⟩
def iH(a b:aI):Bool:=open Classical in wP (∃x,bz a x/\bz b x)
def iY{a b:aI}:iH a b=wO↔∃x,bz a x/\bz b x:=by unfold iH;exact @decide_eq_true_iff _ (Classical.propDecidable _)
def nO{a b:aI}(h:¬∃x,bz a x/\bz b x):iH a b=wN:=by
 cases e:iH a b with
 |false=>rfl
 |true=>exact cQ (iY.mp e) h
def M4(a b:aI):iH a b=iH b a:=by
 by_cases h:∃x,bz a x/\bz b x
 ·obtain⟨x,h1,h2⟩:=h
  rw[iY.mpr ⟨x,h1,h2⟩,iY.mpr ⟨x,h2,h1⟩]
 ·rw[nO h,nO (fun⟨x,h1,h2⟩=>h ⟨x,h2,h1⟩)]
def Cs{M:aI->aI->Option Bool}{a b:aI}(ha:NN a)(hb:NN b)(h1:1<=a.ai)(h2:1<=b.ai){low high:Int}(el:low=max a.af b.af)(eh:high=min a.aa b.aa):
  (match B5 a.ai b.ai with
   |none=>O
   |some r8=>match bif wP (high<low)then V wO else if¬r8=(0:Int)then V (bif wP (Int.tmod (jz a.af b.af) r8=0)then wN else wO)else O with
    |none=>O
    |some r9=>bif r9 then V wN else if¬a.ai=(0:Int)then
     match ox M (iC.mk high r8 (i64.wrap (a.af+i64.wrap (i64.wrap ((i64.wrap (i64.wrap (i64.wrap (low-a.af)+a.ai)-1)).tdiv a.ai)*a.ai))) 0 a b)with
     |none=>O
     |some r10=>match if¬r10.t7=(0:Int)then bif wP (r10.t9<i64.wrap (r10.b1.ai.tdiv r10.t7))then V (wP (r10.t8<=r10.t6))else V wN else O with
      |none=>O
      |some r11=>bif r11 then match m32 r10.b1 r10.t8 with
       |none=>O
       |some r12=>bif r12 then V wO else O
       else V wN
     else O)=V (iH a b):=by
 have a1:=ha.lo
 have a2:=ha.hi
 have a3:=ha.le
 have a4:=ha.sle
 have b1:=hb.lo
 have b2:=hb.hi
 have b3:=hb.le
 have b4:=hb.sle
 have gl:=jY a.ai b.ai
 have gr:=qB a.ai b.ai
 have g0:=ld a.ai b.ai
 have gpos:1<=bZ a.ai b.ai:=by
  rcases (show bZ a.ai b.ai=0\/1<=bZ a.ai b.ai by omega)with z|z
  ·rw[z]at gl
   have:=xH.mp gl
   omega
  ·exact z
 have hE:=early ha hb h1 h2 el eh
 rw[Ci (by omega) (by omega)]
 simp only
 by_cases c1:high<low
 ·rw[bP c1,nO (fun⟨x,x1,x2⟩=>by have:=x1.1;have:=x1.2.1;have:=x2.1;have:=x2.2.1;omega)]
  rfl
 ·rw[bO c1,bA,bw (show ¬@Eq Int (bZ a.ai b.ai) 0 by omega)]
  simp only
  by_cases c2:Int.tmod (jz a.af b.af) (bZ a.ai b.ai)=0
  ·rw[bP c2]
   simp only[bE,bA]
   have l1:(low-a.af+a.ai-1)/a.ai<=low-a.af+a.ai-1:=ye _ (by omega)
   have l0:0<=(low-a.af+a.ai-1)/a.ai:=zQ (by omega) (by omega)
   have l2:(low-a.af+a.ai-1)/a.ai*a.ai<=low-a.af+a.ai-1:=yV _ (by omega)
   have l3:0<=(low-a.af+a.ai-1)/a.ai*a.ai:=zq l0 (by omega)
   have p0:0<=b.ai/bZ a.ai b.ai:=zQ (by omega) (by omega)
   have p1:b.ai/bZ a.ai b.ai<=b.ai:=ye _ (by omega)
   have eP:i64.wrap (b.ai.tdiv (bZ a.ai b.ai))=b.ai/bZ a.ai b.ai:=by
    rw[j6,aF]
   rw[gC,aF (n:=low-a.af),aF (n:=low-a.af+a.ai),aF (n:=low-a.af+a.ai-1),j6,
    aF (n:=(low-a.af+a.ai-1)/a.ai),aF (n:=(low-a.af+a.ai-1)/a.ai*a.ai),aF (n:=a.af+(low-a.af+a.ai-1)/a.ai*a.ai)]
   refine(agA hb gpos eP (by omega) h1 (by omega) (by omega) (by omega) p0).trans ?_
   congr 1
   by_cases h:∃x,bz a x/\bz b x
   ·rw[iY.mpr h]
    exact @decide_eq_true _ (Classical.propDecidable _) (hE.mp h)
   ·rw[nO h]
    exact @decide_eq_false _ (Classical.propDecidable _) (fun k=>h (hE.mpr k))
  ·have hno:¬∃x,bz a x/\bz b x:=by
    rintro⟨x,x1,x2⟩
    apply c2
    have k1:=zS gl x1.2.2
    have k2:=zS gr x2.2.2
    have k3:=ym k2 k1
    rw[show x-b.af-(x-a.af)=a.af-b.af by omega]at k3
    apply Int.tmod_eq_zero_of_dvd
    obtain⟨r1,r2⟩:=ha.qO
    obtain⟨r3,r4⟩:=hb.qO
    unfold jz
    by_cases c:a.af<b.af
    ·rw[bP c,bE,aF]
     have:=Int.dvd_neg.mpr k3
     rwa [show-(a.af-b.af)=b.af-a.af by omega]at this
    ·rw[bO c,bA,aF]
     exact k3
   rw[bO c2,nO hno]
   rfl
def SE{M:aI->aI->Option Bool}{a b:aI}(ha:NN a)(hb:NN b)(hs:cV a<=cV b):UB M a b=V (iH a b):=by
 unfold UB
 rw[gi (.inr ha),gi (.inr hb)]
 simp only
 rw[bO (show ¬@LT.lt Int _ (cV b) (cV a)by omega),bA]
 have hp:=size_pos ha
 by_cases c:cV a=1
 ·rw[bP c,bE,qI (.inr hb)]
  simp only
  congr 1
  have e:=(j5 ha).mp c
  have s:a.ai=0:=by rcases ha.st with k|k;exact k.2;omega
  by_cases h:bz b a.af
  ·rw[fQ h,iY.mpr ⟨_,cY ha,h⟩]
  ·rw[jq h,nO (fun⟨x,x1,x2⟩=>h (by rw[<-(EN ha s x).mp x1];exact x2))]
 ·rw[bO c,bA]
  have h1:=Sj ha (by omega)
  have h2:=Sj hb (by omega)
  by_cases d:a.af<b.af<;>by_cases e:b.aa<a.aa
  ·rw[bP d,bP e]
   exact Cs ha hb h1 h2 (by omega) (by omega)
  ·rw[bP d,bO e]
   exact Cs ha hb h1 h2 (by omega) (by omega)
  ·rw[bO d,bP e]
   exact Cs ha hb h1 h2 (by omega) (by omega)
  ·rw[bO d,bO e]
   exact Cs ha hb h1 h2 (by omega) (by omega)
def acp{a b:aI}(ha:NN a)(hb:NN b):Wn a b=V (iH a b):=eE 2 fun n hn=>by
 obtain⟨k,rfl⟩:∃k,n=k+1+1:=⟨n-2,by omega⟩
 by_cases hs:cV a<=cV b
 ·exact SE (M:=Gb (k+1)) ha hb hs
 ·have e1:Gb (k+1) b a=V (iH b a):=SE (M:=Gb k) hb ha (by omega)
  show UB (Gb (k+1)) a b=_
  unfold UB
  rw[gi (.inr ha),gi (.inr hb)]
  simp only
  rw[bP (show @LT.lt Int _ (cV b) (cV a)by omega),bE,e1,M4]
def kF(a b:aI):Bool:=wP (1<cV a)||wP (1<cV b)||wP (a.af≠b.af)
def rX{a:aI}(h:NN a)(k:¬1<cV a):a.af=a.aa:=(j5 h).mp (by have:=size_pos h;omega)
def F1{a b:aI}(ha:NN a)(hb:NN b):kF a b=wO↔∃x z,bz a x/\bz b z/\x≠z:=by
 have a3:=ha.le
 have b3:=hb.le
 unfold kF
 by_cases c1:1<cV a
 ·rw[bP c1]
  refine⟨fun _=> ?_,fun _=>rfl⟩
  have:a.af≠a.aa:=fun e=>by have:=(j5 ha).mpr e;omega
  by_cases e:a.af=b.af
  ·exact⟨_,_,gq ha,cY hb,by omega⟩
  ·exact⟨_,_,cY ha,cY hb,e⟩
 ·by_cases c2:1<cV b
  ·rw[bO c1,bP c2]
   refine⟨fun _=> ?_,fun _=>rfl⟩
   have:b.af≠b.aa:=fun e=>by have:=(j5 hb).mpr e;omega
   by_cases e:a.af=b.af
   ·exact⟨_,_,cY ha,gq hb,by omega⟩
   ·exact⟨_,_,cY ha,cY hb,e⟩
  ·have e1:=rX ha c1
   have e2:=rX hb c2
   by_cases e:a.af=b.af
   ·rw[bO c1,bO c2,bO (fun k=>k e)]
    exact⟨fun k=>(by cases k),fun⟨x,z,hx,hz,k⟩=>by have:=hx.1;have:=hx.2.1;have:=hz.1;have:=hz.2.1;omega⟩
   ·rw[bO c1,bO c2,bP e]
    exact⟨fun _=>⟨_,_,cY ha,cY hb,e⟩,fun _=>rfl⟩
def oW(op:Int)(a b:aI):Bool×Bool:=
 if op=13 then(kF a b,iH a b)else if op=14 then(iH a b,kF a b)
 else if op=15 then(wP (b.af<=a.aa),wP (a.af<b.aa))else if op=16 then(wP (b.af<a.aa),wP (a.af<=b.aa))
 else if op=17 then(wP (a.af<=b.aa),wP (b.af<a.aa))else if op=18 then(wP (a.af<b.aa),wP (b.af<=a.aa))
 else if op=19 then(cG a 0||cG b 0,cq a&&cq b)else(cG a 0&&cG b 0,cq a||cq b)
def Ak(op:Int):Prop:=13<=op/\op<=20
def qh(p:Bool):mT p=1↔p=true:=by cases p<;>decide
def qG(p:Bool):mT p=0↔p=false:=by cases p<;>decide
def gZ{op:Int}(h:Ak op):op=13\/op=14\/op=15\/op=16\/op=17\/op=18\/op=19\/op=20:=by
 obtain⟨h1,h2⟩:=h
 omega
def wZ{op:Int}(h:Ak op)(x z:Int):fo op x z=0\/fo op x z=1:=by
 have k:∀p:Bool,mT p=0\/mT p=1:=fun p=>by cases p<;>decide
 rcases gZ h with rfl|rfl|rfl|rfl|rfl|rfl|rfl|rfl<;>exact k _
def Q3{op:Int}{a b:aI}(h:Ak op)(ha:NN a)(hb:NN b):(oW op a b).2=wO↔∃x z,bz a x/\bz b z/\fo op x z=1:=by
 rcases gZ h with rfl|rfl|rfl|rfl|rfl|rfl|rfl|rfl
 ·show iH a b=wO↔∃x z,bz a x/\bz b z/\mT (wP (x=z))=1
  rw[iY]
  exact⟨fun⟨x,h1,h2⟩=>⟨x,x,h1,h2,by rw[qh];exact bP rfl⟩,fun⟨x,z,h1,h2,h3⟩=>by
   rw[qh]at h3
   have:=of_decide_eq_true h3
   subst this
   exact⟨x,h1,h2⟩⟩
 ·show kF a b=wO↔∃x z,bz a x/\bz b z/\mT (!wP (x=z))=1
  rw[F1 ha hb]
  exact⟨fun⟨x,z,h1,h2,h3⟩=>⟨x,z,h1,h2,by rw[qh,bO h3];rfl⟩,fun⟨x,z,h1,h2,h3⟩=>⟨x,z,h1,h2,fun e=>by rw[qh,bP e]at h3;cases h3⟩⟩
 ·show wP (a.af<b.aa)=wO↔∃x z,bz a x/\bz b z/\mT (wP (x<z))=1
  refine⟨fun k=>⟨_,_,cY ha,gq hb,by rw[qh];exact k⟩,fun⟨x,z,h1,h2,h3⟩=> ?_⟩
  rw[qh]at h3
  have:=of_decide_eq_true h3
  exact bP (by have:=h1.1;have:=h2.2.1;omega)
 ·show wP (a.af<=b.aa)=wO↔∃x z,bz a x/\bz b z/\mT (wP (x<=z))=1
  refine⟨fun k=>⟨_,_,cY ha,gq hb,by rw[qh];exact k⟩,fun⟨x,z,h1,h2,h3⟩=> ?_⟩
  rw[qh]at h3
  have:=of_decide_eq_true h3
  exact bP (by have:=h1.1;have:=h2.2.1;omega)
 ·show wP (b.af<a.aa)=wO↔∃x z,bz a x/\bz b z/\mT (wP (z<x))=1
  refine⟨fun k=>⟨_,_,gq ha,cY hb,by rw[qh];exact k⟩,fun⟨x,z,h1,h2,h3⟩=> ?_⟩
  rw[qh]at h3
  have:=of_decide_eq_true h3
  exact bP (by have:=h1.2.1;have:=h2.1;omega)
 ·show wP (b.af<=a.aa)=wO↔∃x z,bz a x/\bz b z/\mT (wP (z<=x))=1
  refine⟨fun k=>⟨_,_,gq ha,cY hb,by rw[qh];exact k⟩,fun⟨x,z,h1,h2,h3⟩=> ?_⟩
  rw[qh]at h3
  have:=of_decide_eq_true h3
  exact bP (by have:=h1.2.1;have:=h2.1;omega)
 ·show (cq a&&cq b)=wO↔∃x z,bz a x/\bz b z/\mT (wP (x≠0/\z≠0))=1
  rw[zf,gv (.inr ha),gv (.inr hb)]
  constructor
  ·rintro⟨⟨x,h1,h2⟩,⟨z,h3,h4⟩⟩
   exact⟨x,z,h1,h3,by rw[qh];exact bP ⟨h2,h4⟩⟩
  ·rintro⟨x,z,h1,h2,h3⟩
   rw[qh]at h3
   have:=of_decide_eq_true h3
   exact⟨⟨x,h1,this.1⟩,⟨z,h2,this.2⟩⟩
 ·show (cq a||cq b)=wO↔∃x z,bz a x/\bz b z/\mT (wP (x≠0\/z≠0))=1
  rw[yJ,gv (.inr ha),gv (.inr hb)]
  constructor
  ·rintro(⟨x,h1,h2⟩|⟨z,h3,h4⟩)
   ·exact⟨x,_,h1,cY hb,by rw[qh];exact bP (.inl h2)⟩
   ·exact⟨_,z,cY ha,h3,by rw[qh];exact bP (.inr h4)⟩
  ·rintro⟨x,z,h1,h2,h3⟩
   rw[qh]at h3
   rcases of_decide_eq_true h3 with k|k
   ·exact .inl ⟨x,h1,k⟩
   ·exact .inr ⟨z,h2,k⟩
def Wg{op:Int}{a b:aI}(h:Ak op)(ha:NN a)(hb:NN b):(oW op a b).1=wO↔∃x z,bz a x/\bz b z/\fo op x z=0:=by
 rcases gZ h with rfl|rfl|rfl|rfl|rfl|rfl|rfl|rfl
 ·show kF a b=wO↔∃x z,bz a x/\bz b z/\mT (wP (x=z))=0
  rw[F1 ha hb]
  exact⟨fun⟨x,z,h1,h2,h3⟩=>⟨x,z,h1,h2,by rw[qG];exact bO h3⟩,fun⟨x,z,h1,h2,h3⟩=>⟨x,z,h1,h2,fun e=>by rw[qG,bP e]at h3;cases h3⟩⟩
 ·show iH a b=wO↔∃x z,bz a x/\bz b z/\mT (!wP (x=z))=0
  rw[iY]
  exact⟨fun⟨x,h1,h2⟩=>⟨x,x,h1,h2,by rw[qG,bP rfl];rfl⟩,fun⟨x,z,h1,h2,h3⟩=>by
   rw[qG]at h3
   by_cases e:x=z
   ·subst e;exact⟨x,h1,h2⟩
   ·rw[bO e]at h3;cases h3⟩
 ·show wP (b.af<=a.aa)=wO↔∃x z,bz a x/\bz b z/\mT (wP (x<z))=0
  refine⟨fun k=>⟨_,_,gq ha,cY hb,by rw[qG];exact bO (by have:=of_decide_eq_true k;omega)⟩,fun⟨x,z,h1,h2,h3⟩=> ?_⟩
  rw[qG]at h3
  have:=of_decide_eq_false h3
  exact bP (by have:=h1.2.1;have:=h2.1;omega)
 ·show wP (b.af<a.aa)=wO↔∃x z,bz a x/\bz b z/\mT (wP (x<=z))=0
  refine⟨fun k=>⟨_,_,gq ha,cY hb,by rw[qG];exact bO (by have:=of_decide_eq_true k;omega)⟩,fun⟨x,z,h1,h2,h3⟩=> ?_⟩
  rw[qG]at h3
  have:=of_decide_eq_false h3
  exact bP (by have:=h1.2.1;have:=h2.1;omega)
 ·show wP (a.af<=b.aa)=wO↔∃x z,bz a x/\bz b z/\mT (wP (z<x))=0
  refine⟨fun k=>⟨_,_,cY ha,gq hb,by rw[qG];exact bO (by have:=of_decide_eq_true k;omega)⟩,fun⟨x,z,h1,h2,h3⟩=> ?_⟩
  rw[qG]at h3
  have:=of_decide_eq_false h3
  exact bP (by have:=h1.1;have:=h2.2.1;omega)
 ·show wP (a.af<b.aa)=wO↔∃x z,bz a x/\bz b z/\mT (wP (z<=x))=0
  refine⟨fun k=>⟨_,_,cY ha,gq hb,by rw[qG];exact bO (by have:=of_decide_eq_true k;omega)⟩,fun⟨x,z,h1,h2,h3⟩=> ?_⟩
  rw[qG]at h3
  have:=of_decide_eq_false h3
  exact bP (by have:=h1.1;have:=h2.2.1;omega)
 ·show (cG a 0||cG b 0)=wO↔∃x z,bz a x/\bz b z/\mT (wP (x≠0/\z≠0))=0
  rw[yJ,lX,lX]
  constructor
  ·rintro(h1|h1)
   ·exact⟨0,_,h1,cY hb,by rw[qG];exact bO (fun k=>k.1 rfl)⟩
   ·exact⟨_,0,cY ha,h1,by rw[qG];exact bO (fun k=>k.2 rfl)⟩
  ·rintro⟨x,z,h1,h2,h3⟩
   rw[qG]at h3
   have:=of_decide_eq_false h3
   by_cases e:x=0
   ·subst e;exact .inl h1
   ·by_cases e2:z=0
    ·subst e2;exact .inr h2
    ·exact cQ ⟨e,e2⟩ this
 ·show (cG a 0&&cG b 0)=wO↔∃x z,bz a x/\bz b z/\mT (wP (x≠0\/z≠0))=0
  rw[zf,lX,lX]
  constructor
  ·rintro⟨h1,h2⟩
   exact⟨0,0,h1,h2,by rw[qG];exact bO (fun k=>k.elim (fun e=>e rfl) (fun e=>e rfl))⟩
  ·rintro⟨x,z,h1,h2,h3⟩
   rw[qG]at h3
   have:=of_decide_eq_false h3
   by_cases e:x=0
   ·by_cases e2:z=0
    ·subst e e2;exact⟨h1,h2⟩
    ·exact cQ (.inr e2) this
   ·exact cQ (.inl e) this
def PO{op:Int}{a b:aI}(h:Ak op)(ha:NN a)(hb:NN b):((oW op a b).1||(oW op a b).2)=wO:=by
 rw[yJ]
 rcases wZ h a.af b.af with e|e
 ·exact .inl ((Wg h ha hb).mpr ⟨_,_,cY ha,cY hb,e⟩)
 ·exact .inr ((Q3 h ha hb).mpr ⟨_,_,cY ha,cY hb,e⟩)
def Nd{P:Int->Prop}{no yes:Bool}(h:∀y,P y->y=0\/y=1)(h0:no=wO↔P 0)(h1:yes=wO↔P 1)(ho:(no||yes)=wO):cS P (fS no yes):=by
 cases no with
 |true=>
  have p0:=h0.mp rfl
  cases yes with
  |true=>
   have p1:=h1.mp rfl
   refine⟨p0,p1,fun y hy=> ?_,by decide,fun d hd=> ?_⟩
   ·rcases h y hy with rfl|rfl
    ·exact⟨by decide,by decide,⟨0,rfl⟩⟩
    ·exact⟨by decide,by decide,⟨1,rfl⟩⟩
   ·exact hd 1 p1
  |false=>
   refine⟨p0,p0,fun y hy=> ?_,by decide,fun d _=>yU d⟩
   rcases h y hy with rfl|rfl
   ·exact⟨by decide,by decide,⟨0,rfl⟩⟩
   ·exact cQ (h1.mpr hy) (by decide)
 |false=>
  cases yes with
  |true=>
   have p1:=h1.mp rfl
   refine⟨p1,p1,fun y hy=> ?_,by decide,fun d _=>yU d⟩
   rcases h y hy with rfl|rfl
   ·exact cQ (h0.mpr hy) (by decide)
   ·exact⟨by decide,by decide,⟨0,rfl⟩⟩
  |false=>cases ho
def Ma{op:Int}{a b:aI}(h:Ak op)(ha:NN a)(hb:NN b):cS (oU op a b) (fS (oW op a b).1 (oW op a b).2):=
 Nd (fun y ⟨x,z,_,_,e⟩=>by rw[e];exact wZ h x z)
  ((Wg h ha hb).trans ⟨fun⟨x,z,h1,h2,e⟩=>⟨x,z,h1,h2,e.symm⟩,fun⟨x,z,h1,h2,e⟩=>⟨x,z,h1,h2,e.symm⟩⟩)
  ((Q3 h ha hb).trans ⟨fun⟨x,z,h1,h2,e⟩=>⟨x,z,h1,h2,e.symm⟩,fun⟨x,z,h1,h2,e⟩=>⟨x,z,h1,h2,e.symm⟩⟩) (PO h ha hb)
def azs{x y:Int}:(bif wP (x=y)then wN else wO)=wP (x≠y):=by
 by_cases h:x=y
 ·rw[bP h,bO (fun k=>k h)];rfl
 ·rw[bO h,bP h];rfl
def adz{op:Int}{a b:aI}(h:Ak op)(ha:NN a)(hb:NN b):YF op a b=V (fS (oW op a b).1 (oW op a b).2):=by
 obtain⟨c,e,hc⟩:=aei ha hb
 have em:fm c= !iH a b:=by
  cases k:fm c with
  |true=>rw[nO (fun x=>by have:=hc.mpr x;rw[k]at this;cases this)];rfl
  |false=>rw[iY.mpr (hc.mp k)];rfl
 have ed:(bif wP (1<cV a)then V wO else bif wP (1<cV b)then V wO else V (wP (a.af≠b.af)))=V (kF a b):=by
  unfold kF
  cases wP (1<cV a)<;>cases wP (1<cV b)<;>rfl
 unfold YF
 rw[e]
 simp only
 rw[kR (.inr ha),kR (.inr hb)]
 simp only
 rw[azs,ed,CT (.inr ha),CT (.inr hb)]
 simp only
 rw[em]
 simp only[Qr]
 rcases gZ h with rfl|rfl|rfl|rfl|rfl|rfl|rfl|rfl
 all_goals simp only[Int.reduceEq,gh,dx,bA,bE]
 ·show _=V (fS (kF a b) (iH a b))
  cases iH a b<;>rfl
 ·show _=V (fS (iH a b) (kF a b))
  cases iH a b<;>rfl
 ·rfl
 ·rfl
 ·rfl
 ·rfl
 ·show _=V (fS (cG a 0||cG b 0) (cq a&&cq b))
  cases cG a 0<;>cases cq a<;>cases cG b 0<;>cases cq b<;>rfl
 ·show _=V (fS (cG a 0&&cG b 0) (cq a||cq b))
  cases cG a 0<;>cases cq a<;>cases cG b 0<;>cases cq b<;>rfl
def diff_eq{a:aI}(h:NN a):kF a a=wP (1<cV a):=by
 unfold kF
 rw[bO (show ¬a.af≠a.af from fun k=>k rfl)]
 cases wP (1<cV a)<;>rfl
def R5{a b:aI}(ha:NN a)(hb:NN b)(h:a≠b):kF a b=wO:=by
 unfold kF
 by_cases c1:1<cV a
 ·rw[bP c1];rfl
 ·by_cases c2:1<cV b
  ·rw[bO c1,bP c2];rfl
  ·by_cases c3:a.af=b.af
   ·exfalso
    have e1:=rX ha c1
    have e2:=rX hb c2
    exact h (Ct c3 (by omega) (by rcases ha.st with k|k<;>rcases hb.st with l|l<;>omega))
   ·rw[bP c3,Bool.or_true]
def Ij{op:Int}{a b:aI}(h:Ak op)(ha:NN a)(hb:NN b):By op a b=V (fS (oW op a b).1 (oW op a b).2):=by
 have ho:=PO h ha hb
 rw[<-ahj ho]
 unfold By
 rw[acp ha hb,Se (.inr ha),Se (.inr hb)]
 simp only
 rw[gi (.inr ha)]
 simp only
 rcases gZ h with rfl|rfl|rfl|rfl|rfl|rfl|rfl|rfl
 all_goals simp only[Int.reduceEq,gh,dx,bA,bE]
 ·show _=V (jl (kF a b) (iH a b))
  by_cases e:a=b
  ·subst e;rw[GU,diff_eq ha];rfl
  ·rw[F9 e,R5 ha hb e];rfl
 ·show _=V (jl (iH a b) (kF a b))
  by_cases e:a=b
  ·subst e;rw[GU,diff_eq ha];rfl
  ·rw[F9 e,R5 ha hb e];rfl
 ·rfl
 ·rfl
 ·rfl
 ·rfl
 ·show _=V (jl (cG a 0||cG b 0) (cq a&&cq b))
  cases cG a 0<;>cases cq a<;>cases cG b 0<;>cases cq b<;>rfl
 ·show _=V (jl (cG a 0&&cG b 0) (cq a||cq b))
  cases cG a 0<;>cases cq a<;>cases cG b 0<;>cases cq b<;>rfl
def Vt{op:Int}{a b:aI}(h:Ak op)(ha:NN a)(hb:NN b):Qk op a b:=by
 have hbin:binop op:=by
  obtain⟨h1,h2⟩:=h
  exact⟨by omega,by omega⟩
 refine⟨(fS (oW op a b).1 (oW op a b).2,0),nw hbin ha hb ?_,?_,vU _ _⟩
 ·rw[adz h ha hb]
  rcases gZ h with rfl|rfl|rfl|rfl|rfl|rfl|rfl|rfl<;>rfl
 ·by_cases hs:cnt a*cnt b<=4096
  ·rw[lD hbin ha hb hs]
   rcases uZ hbin ha hb (by omega)with ⟨_,c,e,k⟩|⟨k,_⟩
   ·rw[e,k.uniq (Ma h ha hb)]
   ·exact cQ (fun y ⟨x,z,_,_,e⟩=>by rw[e];rcases wZ h x z with q|q<;>rw[q]<;>exact⟨by decide,by decide⟩) k
  ·rw[o4 hbin ha hb hs]
   unfold OJ
   rw[Ij h ha hb]
   rcases gZ h with rfl|rfl|rfl|rfl|rfl|rfl|rfl|rfl<;>rfl
def X0{op:Int}{a b:aI}(h:Kx op)(ha:NN a)(hb:NN b):Qk op a b:=by
 obtain⟨c,e1,e2,hv⟩:=YZ h ha hb
 have hbin:binop op:=by unfold binop;rcases h with rfl|rfl|rfl|rfl<;>decide
 refine⟨(c,0),nw hbin ha hb ?_,e2,hv⟩
 rw[e1]
 rcases h with rfl|rfl|rfl|rfl<;>rfl
def LX(op:Int){a b:aI}(ha:NV a)(hb:NV b):Qk op a b:=by
 by_cases ho:binop op
 ·rcases ha with rfl|ha
  ·refine⟨(cy,0),?_,?_, .inl rfl⟩
   ·unfold uX
    rw[eR,eR,dX (.inl rfl),dX hb,jV,bP ho,iT]
    rfl
   ·unfold ow
    rw[gp,gp,dX (.inl rfl),dX hb,show Fz op=B8 op from rfl,jV,bP ho,n9]
    rfl
  ·rcases hb with rfl|hb
   ·refine⟨(cy,0),?_,?_, .inl rfl⟩
    ·unfold uX
     rw[eR,eR,dX (.inl rfl),dX (.inr ha),jV,bP ho,iT,eF ha.ne]
     rfl
    ·unfold ow
     rw[gp,gp,dX (.inl rfl),dX (.inr ha),show Fz op=B8 op from rfl,jV,bP ho,n9,iB ha]
     rfl
   ·obtain⟨o1,o2⟩:=ho
    rcases (show op=8\/op=9\/op=10\/(op=11\/op=12\/op=21\/op=22)\/(13<=op/\op<=20)by omega)with rfl|rfl|rfl|h|h
    ·exact WL ha hb
    ·exact Zo ha hb
    ·exact WB ha hb
    ·exact X0 h ha hb
    ·exact Vt h ha hb
 ·refine⟨(aI.mk 0 0 0,1),?_,?_,Pz⟩
  ·unfold uX
   rw[eR,eR,dX ha,dX hb,jV,bO ho]
   rfl
  ·unfold ow
   rw[gp,gp,dX ha,dX hb,show Fz op=B8 op from rfl,jV,bO ho]
   rfl
abbrev oP:Type:=Int
def d117:Td 0 oP:= .c [] [4] (.r 0 0 (ec 4 aM en) sn (fun z=>z.1.1) (fun x=>((x,()),(()))))
def alA:=(lc (qg 137) (aN ln))
def amy(M:aq->Int->Option oP):aK->aK:=eL wQ 117 wN alA d117 (fun g=>M g.1 g.2.1)
def aaA(M:aq->Int->Option oP):Prop:=HL wQ 117 alA d117 (fun g=>M g.1 g.2.1)
def SN{M:aq->Int->Option oP}(hM:aaA M){F:aK}(h:bq wQ F):bq wQ (amy M F):=gI (sc:=Cc) eW hM ⟨_,func117,by kernel_rfl,by kernel_rfl⟩ (fun _=>by kernel_rfl) (fun _=>by kernel_rfl) h
def acI(M117:aq->Int->Option oP):aK:=(amy M117 dg)
def agr{M117}(h117:aaA M117):bq wQ (acI M117):=(SN h117 aR)
structure tN where
 (t1 t5:Int)
 b0:aq
def Oh:Td 0 tN:= .c [] [1,2,5] (.r 0 1 (ec 1 aM (ec 2 (qp 0 0) (ec 5 aM en))) (sb 0 137 (lg 137) sn) (fun z=>⟨z.1.1,z.1.2.2.1,z.2.1⟩) (fun x=>((x.t1,(),x.t5,()),(x.b0,()))))
def HP(M117:aq->Int->Option oP)(p:tN):Option (Option tN):=
 match bif wP (p.t5<p.b0.ak.length)then V (wP (0<=p.t1))else V wN with|O=>O|V r1=>bif r1 then if 0<=p.t5/\p.t5<p.b0.ak.length then match M117 (aq.mk p.b0.ak[p.t5.toNat]!.bf p.b0.ak[p.t5.toNat]!.fN p.b0.ak[p.t5.toNat]!.ak) p.t1 with|O=>O|V r2=>V (V (tN.mk r2 (i64.wrap (p.t5+1)) (aq.mk p.b0.bf p.b0.fN p.b0.ak)))else O else V (O)
def Xd(M117:aq->Int->Option oP):An:=(.two (.two (.rb [] 16) .no) .no)
def H6(M117:aq->Int->Option oP):tN->Option tN:=bI (HP M117)
def aiA(M117:aq->Int->Option oP):An:=(noTwo (noTwo (.two (noTwo (Oh.lp (H6 M117) (Xd M117))) .no)))
def arF{M117}:∀f∈([]:List Nat),bh (acI M117) f:=aB
def atF(M117:aq->Int->Option oP):eG wQ (acI M117) 0 300 117 (aiA M117):=bV (l:=[(bg f117 0,(Oh.lp (H6 M117) (Xd M117))),(.skip,(.rb [] 16))]) func117 (bG (by kernel_rfl)) (by kernel_rfl) (ay (aO Oh) (ay arF aB))
def ado(M117:aq->Int->Option oP)(a0:aq)(a1:Int):Option oP:=
 match H6 M117 (tN.mk (i64.wrap (a1-1)) 0 (aq.mk a0.bf a0.fN a0.ak))with|O=>O|V r3=>match bif wP (r3.t5<r3.b0.ak.length)then V (wP (0<=r3.t1))else V wN with|O=>O|V r4=>bif r4 then if 0<=r3.t5/\r3.t5<r3.b0.ak.length then match M117 (aq.mk r3.b0.ak[r3.t5.toNat]!.bf r3.b0.ak[r3.t5.toNat]!.fN r3.b0.ak[r3.t5.toNat]!.ak) r3.t1 with|O=>O|V r5=>O else O else V (r3.t1)
def azr(M117:aq->Int->Option oP)(a0:aq)(a1:Int):bU wQ (acI M117) 300 (aiA M117) 117 (alA.c (a0,a1,())) [] 0 d117.rd=ado M117 a0 a1:=by kernel_rfl
def ajj:Nat->(aq->Int->Option oP)
 |0=>(fun _ _=>O)
 |n+1=>(ado (ajj n))
def Qa(n:Nat):aq->Int->Option oP:=(ajj n)
def K8:∀n,aaA (Qa n)
 |0=>fun _ _ h=>(by cases h)
 |n+1=>by
  have ih:=K8 n
  have i117:=ih
  exact(dG (agr i117) (atF (Qa n)) (fun _=>by kernel_rfl) (fun _=>by kernel_rfl) fun g=>azr (Qa n) g.1 g.2.1)
def Pm:aq->Int->Option oP:=fun a0 a1=>lim (fun n=>Qa n a0 a1)
def aaX:aaA Pm:=fun g b h=>by
 obtain⟨n,hn⟩:=cT (show lim (fun n=>Qa n g.1 g.2.1)=V b from h)
 exact(K8 n) g b hn
def akR(F:aK):aK:=amy Pm F
def QS{F:aK}(h:bq wQ F):bq wQ (akR F):=SN aaX h
abbrev ri:Type:=Int
def d116:Td 0 ri:= .c [] [4] (.r 0 0 (ec 4 aM en) sn (fun z=>z.1.1) (fun x=>((x,()),(()))))
def alH:=(lc (ql 166) (aN ln))
def aot(M:(List au)->Int->Option ri):aK->aK:=eL wQ 116 wN alH d116 (fun g=>M g.1 g.2.1)
def aaO(M:(List au)->Int->Option ri):Prop:=HL wQ 116 alH d116 (fun g=>M g.1 g.2.1)
def Tx{M:(List au)->Int->Option ri}(hM:aaO M){F:aK}(h:bq wQ F):bq wQ (aot M F):=gI (sc:=Cc) eW hM ⟨_,func116,by kernel_rfl,by kernel_rfl⟩ (fun _=>by kernel_rfl) (fun _=>by kernel_rfl) h
def aeg(M116:(List au)->Int->Option ri):aK:=(akR (aot M116 dg))
def abD{M116}(h116:aaO M116):bq wQ (aeg M116):=(QS (Tx h116 aR))
structure uI where
 t0:List au
 (t1 t5:Int)
def P8:Td 0 uI:= .c [] [0,1,5] (.r 0 0 (ec 0 (ql 166) (ec 1 aM (ec 5 aM en))) sn (fun z=>⟨z.1.1,z.1.2.1,z.1.2.2.1⟩) (fun x=>((x.t0,x.t1,x.t5,()),(()))))
def El(M116:(List au)->Int->Option ri)(p:uI):Option (Option uI):=
 match bif wP (p.t5<p.t0.length)then V (wP (0<=p.t1))else V wN with|O=>O|V r1=>bif r1 then if 0<=p.t5/\p.t5<p.t0.length then match Pm (aq.mk p.t0[p.t5.toNat]!.az.bf p.t0[p.t5.toNat]!.az.fN p.t0[p.t5.toNat]!.az.ak) (i64.wrap (p.t1-1))with|O=>O|V r2=>if 0<=p.t5/\p.t5<p.t0.length then bif wP (r2<(↑p.t0[p.t5.toNat]!.aJ.length:Int))then V (O)else if 0<=p.t5/\p.t5<p.t0.length then if 0<=p.t5/\p.t5<p.t0.length then if 0<=p.t5/\p.t5<p.t0.length then match M116 p.t0[p.t5.toNat]!.aH (i64.wrap (r2-(↑p.t0[p.t5.toNat]!.aJ.length:Int)))with|O=>O|V r3=>match M116 p.t0[p.t5.toNat]!.aL r3 with|O=>O|V r4=>V (V (uI.mk p.t0 r4 (i64.wrap (p.t5+1))))else O else O else O else O else O else V (O)
def Y1(M116:(List au)->Int->Option ri):An:=(.two (.two (.rb [] 13) .no) .no)
def Jl(M116:(List au)->Int->Option ri):uI->Option uI:=bI (El M116)
def ai6(M116:(List au)->Int->Option ri):An:=(noTwo (.two (noTwo (P8.lp (Jl M116) (Y1 M116))) .no))
def asg{M116}:∀f∈([]:List Nat),bh (aeg M116) f:=aB
def arY(M116:(List au)->Int->Option ri):eG wQ (aeg M116) 0 300 116 (ai6 M116):=bV (l:=[(bg f116 0,(P8.lp (Jl M116) (Y1 M116))),(.skip,(.rb [] 13))]) func116 (bG (by kernel_rfl)) (by kernel_rfl) (ay (aO P8) (ay asg aB))
def aas(M116:(List au)->Int->Option ri)(a0:List au)(a1:Int):Option ri:=
 match Jl M116 (uI.mk a0 a1 0)with|O=>O|V r5=>match bif wP (r5.t5<r5.t0.length)then V (wP (0<=r5.t1))else V wN with|O=>O|V r6=>bif r6 then if 0<=r5.t5/\r5.t5<r5.t0.length then match Pm (aq.mk r5.t0[r5.t5.toNat]!.az.bf r5.t0[r5.t5.toNat]!.az.fN r5.t0[r5.t5.toNat]!.az.ak) (i64.wrap (r5.t1-1))with|O=>O|V r7=>if 0<=r5.t5/\r5.t5<r5.t0.length then bif wP (r7<(↑r5.t0[r5.t5.toNat]!.aJ.length:Int))then V (-1)else if 0<=r5.t5/\r5.t5<r5.t0.length then if 0<=r5.t5/\r5.t5<r5.t0.length then if 0<=r5.t5/\r5.t5<r5.t0.length then match M116 r5.t0[r5.t5.toNat]!.aH (i64.wrap (r7-(↑r5.t0[r5.t5.toNat]!.aJ.length:Int)))with|O=>O|V r8=>match M116 r5.t0[r5.t5.toNat]!.aL r8 with|O=>O|V r9=>O else O else O else O else O else O else V (r5.t1)
def awB(M116:(List au)->Int->Option ri)(a0:List au)(a1:Int):bU wQ (aeg M116) 300 (ai6 M116) 116 (alH.c (a0,a1,())) [] 0 d116.rd=aas M116 a0 a1:=by kernel_rfl
def aji:Nat->((List au)->Int->Option ri)
 |0=>(fun _ _=>O)
 |n+1=>(aas (aji n))
def Pr(n:Nat):(List au)->Int->Option ri:=(aji n)
def MM:∀n,aaO (Pr n)
 |0=>fun _ _ h=>(by cases h)
 |n+1=>by
  have ih:=MM n
  have i116:=ih
  exact(dG (abD i116) (arY (Pr n)) (fun _=>by kernel_rfl) (fun _=>by kernel_rfl) fun g=>awB (Pr n) g.1 g.2.1)
def afO:(List au)->Int->Option ri:=fun a0 a1=>lim (fun n=>Pr n a0 a1)
def ac3:aaO afO:=fun g b h=>by
 obtain⟨n,hn⟩:=cT (show lim (fun n=>Pr n g.1 g.2.1)=V b from h)
 exact(MM n) g b hn
def ap8(F:aK):aK:=aot afO F
def ahq{F:aK}(h:bq wQ F):bq wQ (ap8 F):=Tx ac3 h
def F53:aK:=(akR (ap8 dg))
structure D6 where
 t7:Int
 t27:List dc
 (t28 t29:Int)
def VH:Td 0 D6:= .c [] [7,27,28,29] (.r 0 0 (ec 7 aM (ec 27 (ql 139) (ec 28 aM (ec 29 aM en)))) sn (fun z=>⟨z.1.1,z.1.2.1,z.1.2.2.1,z.1.2.2.2.1⟩) (fun x=>((x.t7,x.t27,x.t28,x.t29,()),(()))))
def KB(p:D6):Option (Option D6):=
 bif wP (p.t29<p.t28)then if 0<=p.t29/\p.t29<p.t27.length then match Pm (aq.mk p.t27[p.t29.toNat]!.az.bf p.t27[p.t29.toNat]!.az.fN p.t27[p.t29.toNat]!.az.ak) p.t7 with|O=>O|V r1=>V (V (D6.mk r1 p.t27 p.t28 (i64.wrap (p.t29+1))))else O else V (O)
def Tk:D6->Option D6:=bI (KB)
abbrev E53:Type:=Bool
def d53:Td 0 E53:= .c [] [6] (.r 0 0 (ec 6 qb en) sn (fun z=>z.1.1) (fun x=>((x,()),(()))))
def awK:∀f∈([]:List Nat),bh (F53) f:=aB
def m53(a0:aP)(a1:Int)(a2:Int):Option E53:=
 match bif wP (a1<a0.ah.length)then V wO else V (wP (a1<a0.aj.length))with|O=>O|V r2=>bif r2 then V wN else match afO a0.bJ a2 with|O=>O|V r3=>match Tk (D6.mk r3 a0.aj a0.aj.length 0)with|O=>O|V r4=>bif wP (r4.t29<r4.t28)then if 0<=r4.t29/\r4.t29<r4.t27.length then match Pm (aq.mk r4.t27[r4.t29.toNat]!.az.bf r4.t27[r4.t29.toNat]!.az.fN r4.t27[r4.t29.toNat]!.az.ak) r4.t7 with|O=>O|V r5=>O else O else V (wP (0<=r4.t7))
def e53:aK->aK:=eL wQ 53 wN (lc (qg 26) (aN (aN ln))) d53 (fun g=>m53 g.1 g.2.1 g.2.2.1)
def V7:EO e53:=fun h=>kL (F:=F53) (an:=(noTwo (.two (.two (.rb [] 21) .no) (noTwo (.two (noTwo (VH.lp Tk .no)) .no))))) (l:=[(.skip,(.rb [] 21)),(bg f53 0,(VH.lp Tk .no))]) func53 (QS (ahq aR)) (ay awK (ay (aO VH) aB)) h
def qz:EP e53:=fun h=>kP h
def aq.eta(t:aq):aq.mk t.bf t.fN t.ak=t:=by cases t;rfl
def aq.dV{t k:aq}(h:k∈t.ak):SizeOf.sizeOf k<SizeOf.sizeOf t:=by
 cases t
 have:=wK h
 simp only[aq.mk.sizeOf_spec]
 simp only at this
 omega
def nT(t:aq):Nat:=1+(t.ak.attach.map fun k=>nT k.1).sum
termination_by SizeOf.sizeOf t
decreasing_by exact aq.dV k.2
def jK(l:List aq):Nat:=(l.map nT).sum
def wU(t:aq):nT t=1+jK t.ak:=by
 rw[nT,jK]
 congr 2
 exact xO (f:=nT)
def qM(k:aq)(ks:List aq):jK (k::ks)=nT k+jK ks:=by simp[jK]
def TC{k:aq}{ks:List aq}(h:k∈ks):nT k<=jK ks:=by
 induction ks with
 |nil=>cases h
 |cons a ks ih=>
  rw[qM]
  rcases zy.1 h with rfl|h
  ·omega
  ·have:=ih h;omega
def HU(t:aq):0<nT t:=by rw[wU];omega
def tl(t:aq)(left:Int):Int:=if(nT t:Int)<=left then left-nT t else if 0<=left then-1 else left-1
def tls:List aq->Int->Int
 |[],l=>l
 |k::ks,l=>if 0<=l then tls ks (tl k l)else l
def YT:∀(ks:List aq) (l:Int),tls ks l=if 0<=l then(if(jK ks:Int)<=l then l-jK ks else-1)else l
 |[],l=>by simp[tls,jK];omega
 |k::ks,l=>by
  have e:=qM k ks
  have:=HU k
  unfold tls
  by_cases h:0<=l
  ·rw[bw h,bw h,YT ks,e]
   unfold tl
   grind
  ·rw[bF h,bF h]
def arO(t:aq)(left:Int):tl t left=tls t.ak (left-1):=by
 rw[YT,tl,wU]
 grind
def YQ(t:aq)(l:Int):(0<=l-> -1<=tl t l/\tl t l<=l-1)/\(l<0->tl t l=l-1):=by
 have:=HU t
 unfold tl
 grind
def Yb(M:aq->Int->Option oP)(t:aq)(hM:∀k∈t.ak,∀l:Int,0<=l->l<=1000->M k l=V (tl k l)):
  ∀(ks:List aq) (i:Nat) (l:Int),t.ak.drop i=ks->i+ks.length=t.ak.length->l<=1000-i->∃q,H6 M ⟨l,i,t⟩=V q/\q.t1=tls ks l/\q.b0=t/\(q.t5<t.ak.length->q.t1<0)
 |[],i,l,hd,hl,_=>by
  refine⟨_,cu fun r=> ?_,rfl,rfl,fun h=> ?_⟩
  ·have:¬((i:Int)<t.ak.length):=by simp at hl;omega
   simp[HP,this]
  ·simp at hl h;omega
 |k::ks,i,l,hd,hl,h2=>by
  have hil:i<t.ak.length:=by simp at hl;omega
  have hki:t.ak[i]! =k:=by
   have:t.ak[i]? =V k:=by
    have:=congrArg List.head? hd
    rw[List.head?_drop]at this
    simpa using this
   rw[List.getElem!_eq_getElem?_getD,this];rfl
  have hmem:k∈t.ak:=by rw[<-hki,getElem!_pos t.ak i hil];exact xx hil
  by_cases h0:0<=l
  ·have hd':t.ak.drop (i+1)=ks:=by
    have:=congrArg List.tail hd
    rw[List.tail_drop]at this
    simpa using this
   have b3:=((YQ k l).1 h0).2
   obtain⟨q,e1,e2,e3,e4⟩:=Yb M t hM ks (i+1) (tl k l) hd' (by simp at hl;omega) (by omega)
   refine⟨q,?_,?_,e3,e4⟩
   ·rw[<-e1]
    refine bQ ?_
    have hw:i64.wrap ((i:Int)+1)=((i+1:Nat):Int):=by rw[aF];omega
    have hk2:t.ak[i]=k:=by rw[<-hki,getElem!_pos t.ak i hil]
    simp[HP,hil,h0,hk2,aq.eta,hM k hmem l h0 (by omega)]
    exact hw
   ·rw[e2]
    show _=if 0<=l then _ else _
    rw[bw h0]
  ·refine⟨_,cu fun r=> ?_,?_,rfl,fun h=> ?_⟩
   ·simp[HP,hil,h0]
   ·show l=if 0<=l then _ else l
    rw[bF h0]
   ·simp only;omega
def aa5(M:aq->Int->Option oP)(t:aq)(hM:∀k∈t.ak,∀l:Int,0<=l->l<=1000->M k l=V (tl k l))(l:Int)(h1: -1000000<=l)(h2:l<=1000):ado M t l=V (tl t l):=by
 obtain⟨q,e1,e2,e3,e4⟩:=Yb M t hM t.ak 0 (l-1) rfl (by simp) (by omega)
 have hw:i64.wrap (l-1)=l-1:=aF
 rw[arO,<-e2]
 unfold ado
 rw[hw,aq.eta,show ((0:Nat):Int)=0 from rfl]at*
 rw[e1]
 obtain⟨q1,q5,qb⟩:=q
 subst e3
 dsimp only at*
 by_cases h5:q5<(qb.ak.length:Int)
 ·have:=e4 h5
  simp[h5,show ¬(0<=q1)by omega]
 ·simp[h5]
def SJ:∀(n:Nat) (t:aq) (l:Int),SizeOf.sizeOf t<n-> -1000000<=l->l<=1000->Qa n t l=V (tl t l)
 |0,_,_,h,_,_=>by omega
 |n+1,t,l,h,h1,h2=>aa5 (Qa n) t (fun k hk l h3 h4=>SJ n k l (by have:=aq.dV hk;omega) (by omega) h4) l h1 h2
def JP(t:aq)(l:Int)(h1: -1000000<=l)(h2:l<=1000):Pm t l=V (tl t l):=eE (SizeOf.sizeOf t+1) fun n hn=>SJ n t l (by omega) h1 h2
def au.then_lt{s k:au}(h:k∈s.aH):SizeOf.sizeOf k<SizeOf.sizeOf s:=by
 cases s
 have:=wK h
 simp only[au.mk.sizeOf_spec]
 simp only at this
 omega
def au.agS{s k:au}(h:k∈s.aL):SizeOf.sizeOf k<SizeOf.sizeOf s:=by
 cases s
 have:=wK h
 simp only[au.mk.sizeOf_spec]
 simp only at this
 omega
def au.eta(s:au):au.mk s.bN s.aQ s.cP s.fN s.az s.aH s.aL s.aJ=s:=by cases s;rfl
def nS(s:au):Nat:=1+nT s.az+s.aJ.length+(s.aH.attach.map fun k=>nS k.1).sum+(s.aL.attach.map fun k=>nS k.1).sum
termination_by SizeOf.sizeOf s
decreasing_by
 ·exact au.then_lt k.2
 ·exact au.agS k.2
def fO(l:List au):Nat:=(l.map nS).sum
def oH(s:au):nS s=1+nT s.az+s.aJ.length+fO s.aH+fO s.aL:=by
 rw[nS,fO,fO]
 congr 2
 ·congr 1
  exact xO (f:=nS)
 ·exact xO (f:=nS)
def nH(k:au)(ks:List au):fO (k::ks)=nS k+fO ks:=by simp[fO]
def sl(l:List au)(left:Int):Int:=if left<0 then left else if(fO l:Int)<=left then left-fO l else-1
def s9(left:Int)(s:au):Option Int:=if left<0 then O else if tl s.az (left-1)<s.aJ.length then O else V (sl s.aL (sl s.aH (tl s.az (left-1)-s.aJ.length)))
def LO{left x:Int}{s:au}(h:s9 left s=V x):0<=left/\ -1<=x/\x<=left-1/\x=if(nS s:Int)<=left then left-nS s else-1:=by
 unfold s9 at h
 have e:=oH s
 unfold tl sl at h
 grind
def P7{left:Int}{s:au}(h:s9 left s=O)(h0:0<=left):left<nS s:=by
 unfold s9 at h
 have e:=oH s
 unfold tl at h
 grind
def aiZ:∀(l:List au) (left:Int),kB s9 (fun v _=>if v<0 then v else-1) id l left=sl l left
 |[],left=>by unfold sl;simp[fO,kB];omega
 |s::l,left=>by
  have e:=nH s l
  unfold kB
  cases hs:s9 left s with
  |none=>
   have:=P7 hs
   unfold sl
   grind
  |some x=>
   obtain⟨h1,h2,h3,h4⟩:=LO hs
   dsimp only
   rw[aiZ l x]
   unfold sl
   grind
def abN(M:List au->Int->Option ri)(l:List au)(hM:∀s∈l,(∀x:Int,-1<=x->x<=1000->M s.aH x=V (sl s.aH x))/\(∀x:Int,-1<=x->x<=1000->M s.aL x=V (sl s.aL x)))(left:Int)(h1: -1<=left)(h2:left<=1000):
  aas M l left=V (sl l left):=by
 have hstep:∀(i:Nat) (b:Int) (hi:i<l.length),b<=1000-i-> -1<=b->El M ⟨l,b,i⟩=if b<0 then V O else if tl l[i].az (b-1)<l[i].aJ.length then V O else V (V ⟨l,sl l[i].aL (sl l[i].aH (tl l[i].az (b-1)-l[i].aJ.length)),((i+1:Nat):Int)⟩):=fun i b hi hb hb2=>by
  obtain⟨m1,m2⟩:=hM l[i] (xx hi)
  unfold El
  by_cases h0:b<0
  ·simp[hi,h0,show ¬0<=b by omega]
  ·have e1:i64.wrap (b-1)=b-1:=aF
   have e2:=JP l[i].az (b-1) (by omega) (by omega)
   have e3:=YQ l[i].az (b-1)
   have hT: -2<=tl l[i].az (b-1)/\tl l[i].az (b-1)<=1000:=by grind
   by_cases h4:tl l[i].az (b-1)<l[i].aJ.length
   ·simp[hi,h0,e1,aq.eta,e2,h4,show 0<=b by omega]
   ·have e5:i64.wrap (tl l[i].az (b-1)-l[i].aJ.length)=tl l[i].az (b-1)-l[i].aJ.length:=aF
    have e6:=m1 (tl l[i].az (b-1)-l[i].aJ.length) (by omega) (by omega)
    have hS: -1<=sl l[i].aH (tl l[i].az (b-1)-l[i].aJ.length)/\sl l[i].aH (tl l[i].az (b-1)-l[i].aJ.length)<=1000:=by unfold sl;grind
    have e7:=m2 _ hS.1 hS.2
    have e8:i64.wrap ((i:Int)+1)=((i+1:Nat):Int):=by rw[aF];omega
    simp[hi,h0,e1,aq.eta,e2,h4,e5,e6,e7,show 0<=b by omega]
    exact e8
 obtain⟨i,v,hi,e1,⟨e2,e3⟩,e4⟩:=GM (cO:=El M) l (fun i b=>⟨l,b,(i:Int)⟩) s9 (fun v _=>if v<0 then v else-1) id (fun i b=>b<=1000-i/\ -1<=b) (fun i b hi hI b' hs=>by
   obtain⟨q1,q2,q3,q4⟩:=LO hs
   refine⟨?_,by omega,q2⟩
   rw[hstep i b hi hI.1 hI.2]
   unfold s9 at hs
   grind) (fun i b hi hI hs r=>by
   rw[hstep i b hi hI.1 hI.2]
   unfold s9 at hs
   grind) (fun b hI r=>by simp[El]) (b:=left) ⟨by omega,h1⟩
 have e1':Jl M ⟨l,left,0⟩=V ⟨l,v,i⟩:=e1
 unfold aas
 rw[e1']
 rw[aiZ]at e4
 rcases e4 with ⟨h5,e4⟩|⟨h5,hn,e4⟩
 ·simp[h5,e4]
 ·rw[e4]
  by_cases h0:v<0
  ·simp[h5,h0,show ¬(0<=v)by omega]
  ·have e1:i64.wrap (v-1)=v-1:=aF
   have e2:=JP l[i].az (v-1) (by omega) (by omega)
   have h4:tl l[i].az (v-1)<l[i].aJ.length:=by unfold s9 at hn;grind
   simp[h5,h0,show 0<=v by omega,e1,aq.eta,e2,h4]
def aV{s:au}{l:List au}(h:s∈l):SizeOf.sizeOf s.aH<SizeOf.sizeOf l/\SizeOf.sizeOf s.aL<SizeOf.sizeOf l:=by
 have:=wK h
 cases s
 simp only[au.mk.sizeOf_spec]at this
 simp only
 omega
def Jf:∀(n:Nat) (l:List au) (x:Int),SizeOf.sizeOf l<n-> -1<=x->x<=1000->Pr n l x=V (sl l x)
 |0,_,_,h,_,_=>by omega
 |n+1,l,x,h,h1,h2=>abN (Pr n) l (fun s hs=>⟨fun x h3 h4=>Jf n _ x (by have:=aV hs;omega) h3 h4,fun x h3 h4=>Jf n _ x (by have:=aV hs;omega) h3 h4⟩) x h1 h2
def acf(l:List au)(x:Int)(h1: -1<=x)(h2:x<=1000):afO l x=V (sl l x):=eE (SizeOf.sizeOf l+1) fun n hn=>Jf n l x (by omega) h1 h2
def few(f:aP)(vars nodes:Int):Bool:=wP ((f.ah.length:Int)<=vars/\(f.aj.length:Int)<=vars/\(fO f.bJ+jK (f.aj.map (·.az)):Int)<=nodes)
def anS(f:aP)(vars nodes:Int)(h1:0<=vars)(h2:vars<=1000)(h3:0<=nodes)(h4:nodes<=1000):m53 f vars nodes=V (few f vars nodes):=by
 unfold m53
 by_cases q1:vars<f.ah.length
 ·simp[q1,few];omega
 ·by_cases q2:vars<f.aj.length
  ·simp[q1,q2,few];omega
  ·rw[acf _ _ (by omega) (by omega)]
   have hb:sl f.bJ nodes<=1000/\ -1<=sl f.bJ nodes:=by unfold sl;grind
   have hstep:∀(i:Nat) (b:Int) (hi:i<f.aj.length),b<=1000-> -1-(i:Int)<=b->KB ⟨b,f.aj,f.aj.length,i⟩=V (V ⟨tl f.aj[i].az b,f.aj,f.aj.length,((i+1:Nat):Int)⟩):=fun i b hi hb hb2=>by
    have e2:=JP f.aj[i].az b (by omega) (by omega)
    have e8:i64.wrap ((i:Int)+1)=((i+1:Nat):Int):=by rw[aF];omega
    unfold KB
    simp[hi,aq.eta,e2]
    exact e8
   obtain⟨i,v,hi,e1,_,e4⟩:=GM (cO:=KB) f.aj (fun i b=>⟨b,f.aj,f.aj.length,(i:Int)⟩) (fun b h=>V (tl h.az b)) (fun v _=>v) id (fun i b=>b<=1000/\ -1-(i:Int)<=b) (fun i b hi hI b' hs=>by
     cases hs
     refine⟨hstep i b hi hI.1 hI.2,?_⟩
     have:=YQ f.aj[i].az b
     grind) (fun i b hi hI hs r=>by cases hs) (fun b hI r=>by simp[KB]) (b:=sl f.bJ nodes) ⟨hb.1,by omega⟩
   have e1':Tk ⟨sl f.bJ nodes,f.aj,f.aj.length,0⟩=V ⟨v,f.aj,f.aj.length,i⟩:=e1
   rcases e4 with ⟨h5,e4⟩|⟨_,hn,_⟩
   case inr=>cases hn
   have key:∀(l:List dc) (b:Int),0<=kB (ρ:=Int) (fun b h=>V (tl h.az b)) (fun v _=>v) id l b↔(jK (l.map (·.az)):Int)<=b:=fun l=>by
    induction l with
    |nil=>intro b;simp[kB,jK]
    |cons h l ih=>
     intro b
     unfold kB
     dsimp only
     rw[ih,yh,qM]
     have:=HU h.az
     unfold tl
     grind
   have k2:=key f.aj (sl f.bJ nodes)
   rw[e4]at k2
   have k3:(0<=v)↔(jK (f.aj.map (·.az)):Int)<=sl f.bJ nodes:=k2
   simp only[q1,q2,gh,bA,e1',h5,Int.lt_irrefl,few]
   congr 1
   rw[decide_eq_decide,k3]
   unfold sl
   grind
def Z0:((0:Nat):Int)=(0:Int):=rfl
def okc(i:Nat)(c:Int):Bool:=wP ((97<=c/\c<=122)\/(i≠0/\((48<=c/\c<=57)\/c=46\/c=95)))
def je(s:ByteArray):Bool:=wP (1<=s.size)&&wP (s.size<=40)&&(zH s.size).all fun i=>okc i (cl s i)
def gM(low high:Int):Bool:=wP (low<=high/\ -1048576<=low/\high<=1048576)
def mK(vars:List aS)(i:Nat)(v:aS):Int:=
 if je v.fName=wN then 7
 else if((vars.take i).any fun w=>w.fName.toList==v.fName.toList)=wO then 8
 else if v.bk<0\/3<v.bk then 1
 else if gM v.af v.aa=wN then 3
 else if v.bk=0 then(if v.dz<v.af\/v.aa<v.dz then 3 else 0)
 else if v.dz=0 then 0 else 3
def uJ(kind:Int):List aS->Int->Option Int
 |[],n=>V n
 |v::vs,n=>if v.bk=kind then(if 4096<n*(v.aa-v.af+1)then O else uJ kind vs (n*(v.aa-v.af+1)))else uJ kind vs n
def Bu(vars:List aS):Bool:=(uJ 1 vars 1).isSome&&(uJ 2 vars 1).isSome&&(match uJ 3 vars 1 with|V n=>wP (n<=256)|O=>wN)
def kD(vars:List aS):Int:=if cw (mK vars) vars 0≠0 then cw (mK vars) vars 0 else if Bu vars=wO then 0 else 4
def bW(o:Int):Int×Int:=if o=0\/o=24 then(0,0)else if o=6\/o=7 then(1,1)else if 8<=o/\o<=22 then(2,2)else if o=23 then(3,3)else if o=25 then(2,33)else(-1,-1)
def BK(vars:List aS)(inp:Bool)(t:aq):Bool:=wP (0<=(bW t.bf).1/\(bW t.bf).1<=t.ak.length/\(t.ak.length:Int)<=(bW t.bf).2)&&
 (if t.bf=0 then wO else if t.bf=24 then wP (0<=t.fN/\t.fN<vars.length)&& !(inp&&wP (vars[t.fN.toNat]!.bk=0))else wP (t.fN=0))
def cU(vars:List aS)(inp:Bool)(t:aq):Bool:=BK vars inp t&&t.ak.attach.all fun k=>cU vars inp k.1
termination_by SizeOf.sizeOf t
decreasing_by exact aq.dV k.2
def lC(vars:List aS)(inp:Bool)(t:aq):cU vars inp t=(BK vars inp t&&t.ak.all (cU vars inp)):=by
 rw[cU]
 congr 1
 rw[List.all_eq,List.all_eq]
 simp
def dA(a b:Span):Span:=⟨if b.af<a.af then b.af else a.af,if a.aa<b.aa then b.aa else a.aa⟩
def dR(vars:List aS)(t:aq)(k:List Span):Span:=
 if t.bf=0 then⟨t.fN,t.fN⟩
 else if t.bf=24 then⟨vars[t.fN.toNat]!.af,vars[t.fN.toNat]!.aa⟩
 else if t.bf=6 then⟨-k[0]!.aa,-k[0]!.af⟩
 else if t.bf=8 then⟨k[0]!.af+k[1]!.af,k[0]!.aa+k[1]!.aa⟩
 else if t.bf=9 then⟨k[0]!.af-k[1]!.aa,k[0]!.aa-k[1]!.af⟩
 else if t.bf=10 then
  dA (dA (dA ⟨k[0]!.af*k[1]!.af,k[0]!.af*k[1]!.af⟩ ⟨k[0]!.af*k[1]!.aa,k[0]!.af*k[1]!.aa⟩) ⟨k[0]!.aa*k[1]!.af,k[0]!.aa*k[1]!.af⟩) ⟨k[0]!.aa*k[1]!.aa,k[0]!.aa*k[1]!.aa⟩
 else if t.bf=11 then
  (if(0:Int)<=k[0]!.af/\(0:Int)<=k[1]!.af then⟨0,if k[0]!.aa< -k[0]!.af then-k[0]!.af else k[0]!.aa⟩else⟨-(if k[0]!.aa< -k[0]!.af then-k[0]!.af else k[0]!.aa),if k[0]!.aa< -k[0]!.af then-k[0]!.af else k[0]!.aa⟩)
 else if t.bf=12 then⟨if k[1]!.af<0 then k[1]!.af+1 else 0,if(0:Int)<k[1]!.aa then k[1]!.aa-1 else 0⟩
 else if t.bf=21 then⟨if k[1]!.af<k[0]!.af then k[1]!.af else k[0]!.af,if k[1]!.aa<k[0]!.aa then k[1]!.aa else k[0]!.aa⟩
 else if t.bf=22 then⟨if k[0]!.af<k[1]!.af then k[1]!.af else k[0]!.af,if k[0]!.aa<k[1]!.aa then k[1]!.aa else k[0]!.aa⟩
 else if t.bf=23\/t.bf=25 then(k.drop 2).foldl dA k[1]!
 else⟨0,1⟩
def sC(s:Span):Bool:=wP (-1048576<=s.af/\s.aa<=1048576)
def jE:List (Option Span)->Option (List Span)
 |[]=>V []
 |none::_=>O
 |some s::xs=>match jE xs with|V l=>V (s::l)|O=>O
def eB(vars:List aS)(t:aq):Option Span:=match jE (t.ak.attach.map fun k=>eB vars k.1)with
 |none=>O
 |some l=>if sC (dR vars t l)=wO then V (dR vars t l)else O
termination_by SizeOf.sizeOf t
decreasing_by exact aq.dV k.2
def kN(vars:List aS)(t:aq):eB vars t=match jE (t.ak.map (eB vars))with
 |none=>O
 |some l=>if sC (dR vars t l)=wO then V (dR vars t l)else O:=by
 rw[eB]
 rw[show (t.ak.attach.map fun k=>eB vars k.1)=t.ak.map (eB vars)from xO (f:=eB vars)]
def eH(vars:List aS)(inp:Bool)(t:aq):Int:=if cU vars inp t=wN then 1 else if(eB vars t).isSome then 0 else 3
def lU(f:aP)(i:Nat)(h:dc):Int:=
 if je h.fName=wN then 7
 else if((f.aj.take i).any fun w=>w.fName.toList==h.fName.toList)=wO then 8
 else if gM h.af h.aa=wN then 3
 else eH f.ah wO h.az
def dT(t:aq):Int:=1+(t.ak.attach.map fun k=>dT k.1).foldl max 0
termination_by SizeOf.sizeOf t
decreasing_by exact aq.dV k.2
def MO(l:List aq):Int:=(l.map dT).foldl max 0
def Sm(t:aq):dT t=1+MO t.ak:=by
 rw[dT,MO]
 rw[show (t.ak.attach.map fun k=>dT k.1)=t.ak.map dT from xO (f:=dT)]
def Bz(l:List Int)(a x:Int):(l++[x]).foldl max a=max (l.foldl max a) x:=by simp[List.foldl_append]
def Fw(l:List aq)(k:aq):MO (l++[k])=max (MO l) (dT k):=by
 unfold MO
 rw[yc,yh,y5,Bz]
def qv(l:List aq)(k:aq):jK (l++[k])=jK l+nT k:=by
 simp[jK]
def uL:∀(l:List Int) (a:Int),a<=l.foldl max a
 |[],a=>zg _
 |x::l,a=>y6 (Int.le_max_left a x) (uL l (max a x))
def Hi(l:List aq):0<=MO l:=uL _ _
def akS(t:aq):1<=dT t:=by have:=Hi t.ak;rw[Sm];omega
def dh(s:au)(l:List au):SizeOf.sizeOf l<SizeOf.sizeOf (s::l):=by
 rw[List.cons.sizeOf_spec]
 omega
def jG:List au->Int
 |[]=>0
 |s::l=>max (max (jG s.aH+1) (jG s.aL+1)) (jG l)
termination_by l=>SizeOf.sizeOf l
decreasing_by
 ·exact(aV (zi ..)).1
 ·exact(aV (zi ..)).2
 ·exact dh _ _
def fI:List au->Bool
 |[]=>wN
 |s::l=>wP (12<dT s.az)||fI s.aH||fI s.aL||fI l
termination_by l=>SizeOf.sizeOf l
decreasing_by
 ·exact(aV (zi ..)).1
 ·exact(aV (zi ..)).2
 ·exact dh _ _
def rZ(l:List au):0<=jG l:=by
 induction l with
 |nil=>rw[jG];omega
 |cons s l ih=>rw[jG];omega
def Yi(l:List au)(s:au):jG (l++[s])=max (jG l) (max (jG s.aH+1) (jG s.aL+1)):=by
 induction l with
 |nil=>
  have:=rZ s.aH
  rw[yg,show jG []=0 by rw[jG],jG,show jG []=0 by rw[jG]]
  omega
 |cons a l ih=>rw[xw,jG,jG,ih];omega
def Lu(l:List au)(k:au):fO (l++[k])=fO l+nS k:=by simp[fO]
def pK(f:aP):Bool:=wP (f.ah.length<=64)&&wP (f.aj.length<=8)&&f.aj.all (fun h=>wP (dT h.az<=12))&&wP (jG f.bJ<=12)&& !fI f.bJ
def fJ:List Int->Bool
 |a::b::l=>wP (a<b)&&fJ (b::l)
 |_=>wO
def u9(t:aq):Bool:=wP (t.bf=0/\t.fN=0/\t.ak.length=0)
def tX(f:aP)(s:au):Bool:=wP (0<=s.cP/\s.cP<f.ah.length)&&wP (f.ah[s.cP.toNat]!.bk=0)
def dy(f:aP)(s:au)(last:Bool):Bool:=
 let free:=wP (s.aH.length=0/\s.aL.length=0)
 let nob:=wP (s.aJ.length=0)
 if s.bN=0 then free&&tX f s&&wP (s.fN=0)&&nob
 else if s.bN=1 then free&&wP (s.cP=0)&&wP (s.fN=0)&&nob
 else if s.bN=2 then free&&wP (s.cP=0)&&wP (s.fN=0)&&nob&&u9 s.az
 else if s.bN=3 then wP (s.cP=0)&&wP (s.fN=0)&&nob
 else if s.bN=4 then wP (s.cP=0)&&wP (s.aL.length=0)&&nob
 else if s.bN=5 then free&&tX f s&&wP (0<=s.fN/\s.fN<f.aj.length)&&nob&&u9 s.az
 else if s.bN=6 then free&&last&&wP (s.cP=0)&&wP (s.fN=0)&&u9 s.az&&(wP (1<=s.aJ.length/\s.aJ.length<=32)&&wP ((0:Int)<=s.aJ[0]!)&&fJ s.aJ)
 else wN
def tA(s:au):Bool:=wP (0<=s.aQ/\s.aQ<=(if s.bN=2 then 67108864 else 10000))&&(if s.bN=4 then wP (0<=s.fN/\s.fN<=4096)else wO)&&(if s.bN=6 then wP (s.aJ[s.aJ.length-1]!<=67108864)else wO)
def oT(f:aP)(last:Bool)(s:au):Int:=if dy f s last=wN then 1 else if tA s=wN then 3 else eH f.ah wN s.az
def b9(f:aP)(top:Bool):List au->Int
 |[]=>0
 |s::l=>if oT f (top&&l.isEmpty) s≠0 then oT f (top&&l.isEmpty) s else if b9 f wN s.aH≠0 then b9 f wN s.aH else if b9 f wN s.aL≠0 then b9 f wN s.aL else b9 f top l
termination_by l=>SizeOf.sizeOf l
decreasing_by
 all_goals first|exact(aV (zi ..)).1|exact(aV (zi ..)).2|exact dh _ _
def Vn(f:aP)(top:Bool)(n i:Nat)(s:au):Int:=if oT f (top&&wP (i+1=n)) s≠0 then oT f (top&&wP (i+1=n)) s else if b9 f wN s.aH≠0 then b9 f wN s.aH else b9 f wN s.aL
def qQ(f:aP)(top:Bool)(n:Nat):∀(l:List au) (i:Nat),i+l.length=n->cw (Vn f top n) l i=b9 f top l
 |[],i,_=>by rw[b9];rfl
 |s::l,i,h=>by
  have ih:=qQ f top n l (i+1) (by simp at h;omega)
  have he:l.isEmpty=wP (i+1=n):=by
   cases l with
   |nil=>simp at h;simp[h]
   |cons a l=>simp at h;simp;omega
  unfold cw
  rw[b9,ih,he]
  unfold Vn
  grind
def cA:List au->Int×Int×Int
 |[]=>(0,0,0)
 |s::l=>match cA s.aH,cA s.aL,cA l with
  |a,b,c=>if s.bN=1 then(1+c.1,1+c.2.1,s.aQ+c.2.2)
   else if s.bN=3 then(1+max a.1 b.1+c.1,max a.2.1 b.2.1+c.2.1,s.aQ+max a.2.2 b.2.2+c.2.2)
   else if s.bN=4 then(1+s.fN*(1+a.1)+c.1,s.fN*a.2.1+c.2.1,s.fN*(s.aQ+a.2.2)+c.2.2)
   else(1+c.1,c.2.1,s.aQ+c.2.2)
termination_by l=>SizeOf.sizeOf l
decreasing_by
 ·exact(aV (zi ..)).1
 ·exact(aV (zi ..)).2
 ·exact dh _ _
def Tu(f:aP):Bool:=wP (4096<(cA f.bJ).1\/8<(cA f.bJ).2.1\/67108864<(cA f.bJ).2.2)
def B7(f:aP):Int:=if pK f=wN then 4 else if kD f.ah≠0 then kD f.ah else if cw (lU f) f.aj 0≠0 then cw (lU f) f.aj 0 else if b9 f wO f.bJ≠0 then b9 f wO f.bJ else if Tu f=wO then 4 else 0
def aed:aK:=dg
def acX:bq wQ aed:=aR
abbrev anG:Type:=Bool×aU
def d208:Td 1 anG:= .c [] [2] (.r 1 1 (ec 2 qb en) (sb 0 256 (lg 256) sn) (fun z=>(z.1.1,z.2.1)) (fun x=>((x.1,()),(x.2,()))))
def avg:=(lc (qp 0 0) ln)
def atw:=(sb 0 256 (lg 256) sn)
def ahQ:An:=(noTwo (.two (.rb [] 2) .no))
def aqE:∀f∈([]:List Nat),bh (aed) f:=aB
def ap5:eG wQ (aed) 1 300 208 (ahQ):=bV (l:=[(.skip,(.rb [] 2))]) func208 (bG (by kernel_rfl)) (by kernel_rfl) (ay aqE aB)
def jA(b0:aU):anG:=
 let r1:Bool:=bif b0.fG then wO else wP (1024<b0.bC);(r1,b0)
def awG(b0:aU):bU wQ (aed) 300 (ahQ) 208 (avg.c ((),())) (atw.d (b0,())) 1 d208.rd=V (jA b0):=by
 refine Eq.trans (b:=(
  match bif b0.fG then V (wO)else V (wP (1024<b0.bC))with|O=>O|V r1=>V ((r1,b0)):Option anG)) (by kernel_rfl) ?_
 simp only[jA,cv,cF]
def aaP:aK->aK:=eY wQ 208 1 avg atw d208 (fun g=>V (jA g.2.1))
def Ja{F:aK}(h:bq wQ F):bq wQ (aaP F):=LK (R6 acX ap5 (fun _=>by kernel_rfl) (fun _=>by kernel_rfl) (fun _=>by kernel_rfl) fun g=>awG g.2.1) ⟨_,func208,by kernel_rfl,by kernel_rfl⟩ (fun _=>by kernel_rfl) h
abbrev sK:Type:=aU
def d209:Td 1 sK:= .c [] [] (.r 1 1 en (sb 0 256 (lg 256) sn) (fun z=>z.2.1) (fun x=>((()),(x,()))))
def ajT:=(lc (qp 0 0) (lc (qg 137) (aN ln)))
def aoX:=(sb 0 256 (lg 256) sn)
def anj(M:aq->Int->aU->Option sK):aK->aK:=eY wQ 209 1 ajT aoX d209 (fun g=>M g.1.2.1 g.1.2.2.1 g.2.1)
def aeD(M:aq->Int->aU->Option sK):Prop:=HY wQ 209 1 ajT aoX d209 (fun g=>M g.1.2.1 g.1.2.2.1 g.2.1)
def S0{M:aq->Int->aU->Option sK}(hM:aeD M){F:aK}(h:bq wQ F):bq wQ (anj M F):=LK hM ⟨_,func209,by kernel_rfl,by kernel_rfl⟩ (fun _=>by kernel_rfl) h
def ajX(M209:aq->Int->aU->Option sK):aK:=(anj M209 (aaP dg))
def adY{M209}(h209:aeD M209):bq wQ (ajX M209):=(S0 h209 (Ja aR))
structure pU where
 t2:Int
 t29:List aq
 (t30 t31:Int)
 b0:aU
def Ol:Td 1 pU:= .c [] [0,2,29,30,31] (.r 1 1 (ec 0 (qp 0 0) (ec 2 aM (ec 29 (ql 137) (ec 30 aM (ec 31 aM en))))) (sb 0 256 (lg 256) sn) (fun z=>⟨z.1.2.1,z.1.2.2.1,z.1.2.2.2.1,z.1.2.2.2.2.1,z.2.1⟩) (fun x=>(((),x.t2,x.t29,x.t30,x.t31,()),(x.b0,()))))
def G9(M209:aq->Int->aU->Option sK)(p:pU):Option (Option pU):=
 bif wP (p.t31<p.t30)then if 0<=p.t31/\p.t31<p.t29.length then match M209 (aq.mk p.t29[p.t31.toNat]!.bf p.t29[p.t31.toNat]!.fN p.t29[p.t31.toNat]!.ak) (i64.wrap (p.t2+1)) p.b0 with|O=>O|V r1=>V (V (pU.mk p.t2 p.t29 p.t30 (i64.wrap (p.t31+1)) r1))else O else V (O)
def Ek(M209:aq->Int->aU->Option sK):pU->Option pU:=bI (G9 M209)
def ain(M209:aq->Int->aU->Option sK):An:=(noTwo (noTwo (noTwo (noTwo (noTwo (Ol.lp (Ek M209) .no))))))
def au3(M209:aq->Int->aU->Option sK):eG wQ (ajX M209) 1 300 209 (ain M209):=bV (l:=[(bg f209 0,(Ol.lp (Ek M209) .no))]) func209 (bG (by kernel_rfl)) (by kernel_rfl) (ay (aO Ol) aB)
def aeL(M209:aq->Int->aU->Option sK)(a1:aq)(a2:Int)(b0:aU):Option sK:=
 bif b0.fG then bif(jA (aU.mk (i64.wrap (b0.bC+1)) wO)).fst then V ((jA (aU.mk (i64.wrap (b0.bC+1)) wO)).snd)else match Ek M209 (pU.mk a2 a1.ak a1.ak.length 0 (jA (aU.mk (i64.wrap (b0.bC+1)) wO)).snd)with|O=>O|V r2=>bif wP (r2.t31<r2.t30)then if 0<=r2.t31/\r2.t31<r2.t29.length then match M209 (aq.mk r2.t29[r2.t31.toNat]!.bf r2.t29[r2.t31.toNat]!.fN r2.t29[r2.t31.toNat]!.ak) (i64.wrap (r2.t2+1)) r2.b0 with|O=>O|V r3=>O else O else V (r2.b0)else bif(jA (aU.mk (i64.wrap (b0.bC+1)) (wP (12<a2)))).fst then V ((jA (aU.mk (i64.wrap (b0.bC+1)) (wP (12<a2)))).snd)else match Ek M209 (pU.mk a2 a1.ak a1.ak.length 0 (jA (aU.mk (i64.wrap (b0.bC+1)) (wP (12<a2)))).snd)with|O=>O|V r4=>bif wP (r4.t31<r4.t30)then if 0<=r4.t31/\r4.t31<r4.t29.length then match M209 (aq.mk r4.t29[r4.t31.toNat]!.bf r4.t29[r4.t31.toNat]!.fN r4.t29[r4.t31.toNat]!.ak) (i64.wrap (r4.t2+1)) r4.b0 with|O=>O|V r5=>O else O else V (r4.b0)
def axR(M209:aq->Int->aU->Option sK)(a1:aq)(a2:Int)(b0:aU):bU wQ (ajX M209) 300 (ain M209) 209 (ajT.c ((),a1,a2,())) (aoX.d (b0,())) 1 d209.rd=aeL M209 a1 a2 b0:=by kernel_rfl
def ahG:Nat->(aq->Int->aU->Option sK)
 |0=>(fun _ _ _=>O)
 |n+1=>(aeL (ahG n))
def OM(n:Nat):aq->Int->aU->Option sK:=(ahG n)
def Mh:∀n,aeD (OM n)
 |0=>fun _ _ h=>(by cases h)
 |n+1=>by
  have ih:=Mh n
  have i209:=ih
  exact(R6 (adY i209) (au3 (OM n)) (fun _=>by kernel_rfl) (fun _=>by kernel_rfl) (fun _=>by kernel_rfl) fun g=>axR (OM n) g.1.2.1 g.1.2.2.1 g.2.1)
def FD:aq->Int->aU->Option sK:=fun a1 a2 b0=>lim (fun n=>OM n a1 a2 b0)
def aa0:aeD FD:=fun g b h=>by
 obtain⟨n,hn⟩:=cT (show lim (fun n=>OM n g.1.2.1 g.1.2.2.1 g.2.1)=V b from h)
 exact(Mh n) g b hn
def aoQ(F:aK):aK:=anj FD F
def SZ{F:aK}(h:bq wQ F):bq wQ (aoQ F):=S0 aa0 h
abbrev sB:Type:=aU
def d207:Td 1 sB:= .c [] [] (.r 1 1 en (sb 0 256 (lg 256) sn) (fun z=>z.2.1) (fun x=>((()),(x,()))))
def al4:=(lc (qp 0 0) (lc (ql 166) (aN ln)))
def aoE:=(sb 0 256 (lg 256) sn)
def amb(M:(List au)->Int->aU->Option sB):aK->aK:=eY wQ 207 1 al4 aoE d207 (fun g=>M g.1.2.1 g.1.2.2.1 g.2.1)
def ady(M:(List au)->Int->aU->Option sB):Prop:=HY wQ 207 1 al4 aoE d207 (fun g=>M g.1.2.1 g.1.2.2.1 g.2.1)
def S1{M:(List au)->Int->aU->Option sB}(hM:ady M){F:aK}(h:bq wQ F):bq wQ (amb M F):=LK hM ⟨_,func207,by kernel_rfl,by kernel_rfl⟩ (fun _=>by kernel_rfl) h
def am1(M207:(List au)->Int->aU->Option sB):aK:=(aoQ (aaP (amb M207 dg)))
def agk{M207}(h207:ady M207):bq wQ (am1 M207):=(SZ (Ja (S1 h207 aR)))
structure pM where
 t2:Int
 t8:List au
 (t9 t10:Int)
 b0:aU
def OP:Td 1 pM:= .c [] [0,2,8,9,10] (.r 1 1 (ec 0 (qp 0 0) (ec 2 aM (ec 8 (ql 166) (ec 9 aM (ec 10 aM en))))) (sb 0 256 (lg 256) sn) (fun z=>⟨z.1.2.1,z.1.2.2.1,z.1.2.2.2.1,z.1.2.2.2.2.1,z.2.1⟩) (fun x=>(((),x.t2,x.t8,x.t9,x.t10,()),(x.b0,()))))
def DO(M207:(List au)->Int->aU->Option sB)(p:pM):Option (Option pM):=
 bif wP (p.t10<p.t9)then if 0<=p.t10/\p.t10<p.t8.length then bif p.b0.fG then bif(jA (aU.mk (i64.wrap (p.b0.bC+1)) wO)).fst then V (O)else match FD (aq.mk p.t8[p.t10.toNat]!.az.bf p.t8[p.t10.toNat]!.az.fN p.t8[p.t10.toNat]!.az.ak) 1 (jA (aU.mk (i64.wrap (p.b0.bC+1)) wO)).snd with|O=>O|V r1=>match M207 p.t8[p.t10.toNat]!.aH (i64.wrap (p.t2+1)) r1 with|O=>O|V r2=>match M207 p.t8[p.t10.toNat]!.aL (i64.wrap (p.t2+1)) r2 with|O=>O|V r3=>V (V (pM.mk p.t2 p.t8 p.t9 (i64.wrap (p.t10+1)) r3))else bif(jA (aU.mk (i64.wrap (p.b0.bC+1)) (wP (12<(((),p.t2,p.t8,p.t9,p.t10,()),p.b0,()).fst.snd.fst)))).fst then V (O)else match FD (aq.mk p.t8[p.t10.toNat]!.az.bf p.t8[p.t10.toNat]!.az.fN p.t8[p.t10.toNat]!.az.ak) 1 (jA (aU.mk (i64.wrap (p.b0.bC+1)) (wP (12<(((),p.t2,p.t8,p.t9,p.t10,()),p.b0,()).fst.snd.fst)))).snd with|O=>O|V r4=>match M207 p.t8[p.t10.toNat]!.aH (i64.wrap (p.t2+1)) r4 with|O=>O|V r5=>match M207 p.t8[p.t10.toNat]!.aL (i64.wrap (p.t2+1)) r5 with|O=>O|V r6=>V (V (pM.mk p.t2 p.t8 p.t9 (i64.wrap (p.t10+1)) r6))else O else V (O)
def JY(M207:(List au)->Int->aU->Option sB):pM->Option pM:=bI (DO M207)
def aiB(M207:(List au)->Int->aU->Option sB):An:=(noTwo (OP.lp (JY M207) .no))
def au8(M207:(List au)->Int->aU->Option sB):eG wQ (am1 M207) 1 300 207 (aiB M207):=bV (l:=[(bg f207 0,(OP.lp (JY M207) .no))]) func207 (bG (by kernel_rfl)) (by kernel_rfl) (ay (aO OP) aB)
def agV(M207:(List au)->Int->aU->Option sB)(a1:List au)(a2:Int)(b0:aU):Option sB:=
 match JY M207 (pM.mk a2 a1 a1.length 0 b0)with|O=>O|V r7=>bif wP (r7.t10<r7.t9)then if 0<=r7.t10/\r7.t10<r7.t8.length then bif r7.b0.fG then bif(jA (aU.mk (i64.wrap (r7.b0.bC+1)) wO)).fst then V ((jA (aU.mk (i64.wrap (r7.b0.bC+1)) wO)).snd)else match FD (aq.mk r7.t8[r7.t10.toNat]!.az.bf r7.t8[r7.t10.toNat]!.az.fN r7.t8[r7.t10.toNat]!.az.ak) 1 (jA (aU.mk (i64.wrap (r7.b0.bC+1)) wO)).snd with|O=>O|V r8=>match M207 r7.t8[r7.t10.toNat]!.aH (i64.wrap (r7.t2+1)) r8 with|O=>O|V r9=>match M207 r7.t8[r7.t10.toNat]!.aL (i64.wrap (r7.t2+1)) r9 with|O=>O|V r10=>O else bif(jA (aU.mk (i64.wrap (r7.b0.bC+1)) (wP (12<(((),r7.t2,r7.t8,r7.t9,r7.t10,()),r7.b0,()).fst.snd.fst)))).fst then V ((jA (aU.mk (i64.wrap (r7.b0.bC+1)) (wP (12<(((),r7.t2,r7.t8,r7.t9,r7.t10,()),r7.b0,()).fst.snd.fst)))).snd)else match FD (aq.mk r7.t8[r7.t10.toNat]!.az.bf r7.t8[r7.t10.toNat]!.az.fN r7.t8[r7.t10.toNat]!.az.ak) 1 (jA (aU.mk (i64.wrap (r7.b0.bC+1)) (wP (12<(((),r7.t2,r7.t8,r7.t9,r7.t10,()),r7.b0,()).fst.snd.fst)))).snd with|O=>O|V r11=>match M207 r7.t8[r7.t10.toNat]!.aH (i64.wrap (r7.t2+1)) r11 with|O=>O|V r12=>match M207 r7.t8[r7.t10.toNat]!.aL (i64.wrap (r7.t2+1)) r12 with|O=>O|V r13=>O else O else V (r7.b0)
def azZ(M207:(List au)->Int->aU->Option sB)(a1:List au)(a2:Int)(b0:aU):bU wQ (am1 M207) 300 (aiB M207) 207 (al4.c ((),a1,a2,())) (aoE.d (b0,())) 1 d207.rd=agV M207 a1 a2 b0:=by kernel_rfl
def ajk:Nat->((List au)->Int->aU->Option sB)
 |0=>(fun _ _ _=>O)
 |n+1=>(agV (ajk n))
def Ql(n:Nat):(List au)->Int->aU->Option sB:=(ajk n)
def Ln:∀n,ady (Ql n)
 |0=>fun _ _ h=>(by cases h)
 |n+1=>by
  have ih:=Ln n
  have i207:=ih
  exact(R6 (agk i207) (au8 (Ql n)) (fun _=>by kernel_rfl) (fun _=>by kernel_rfl) (fun _=>by kernel_rfl) fun g=>azZ (Ql n) g.1.2.1 g.1.2.2.1 g.2.1)
def Wp:(List au)->Int->aU->Option sB:=fun a1 a2 b0=>lim (fun n=>Ql n a1 a2 b0)
def ad2:ady Wp:=fun g b h=>by
 obtain⟨n,hn⟩:=cT (show lim (fun n=>Ql n g.1.2.1 g.1.2.2.1 g.2.1)=V b from h)
 exact(Ln n) g b hn
def aqI(F:aK):aK:=amb Wp F
def ach{F:aK}(h:bq wQ F):bq wQ (aqI F):=S1 ad2 h
abbrev aut:Type:=Bool
def d260:Td 0 aut:= .c [] [3] (.r 0 0 (ec 3 qb en) sn (fun z=>z.1.1) (fun x=>((x,()),(()))))
def X4(a0:aS)(c0:aS):aut:=
 a0.fName.toList==c0.fName.toList
def axd:aK->aK:=eL wQ 260 wN (lc (qg 131) (lc (qr (lg 131)) ln)) d260 (fun g=>V (X4 g.1 g.2.1))
def Tp:EO axd:=fun h=>kL (an:= .no) func260 aR aB h
def asR:aK:=dg
structure tg where
 t0:ByteArray
 (t14 t15:Int)
def N7:Td 0 tg:= .c [] [0,14,15] (.r 0 0 (ec 0 qs (ec 14 aM (ec 15 aM en))) sn (fun z=>⟨z.1.1,z.1.2.1,z.1.2.2.1⟩) (fun x=>((x.t0,x.t14,x.t15,()),(()))))
def JK(p:tg):Option (Option tg):=
 bif wP (p.t15<p.t14)then if 0<=p.t15/\p.t15<p.t0.size then match bif wP (97<=cl p.t0 p.t15.toNat)then V (wP (cl p.t0 p.t15.toNat<=122))else V wN with|O=>O|V r1=>match bif bif r1 then wN else wO then bif wP (p.t15=0)then V wO else bif wP (cl p.t0 p.t15.toNat<48)then bif bif wP (cl p.t0 p.t15.toNat=46)then wN else wO then V (bif wP (cl p.t0 p.t15.toNat=95)then wN else wO)else V wN else bif wP (57<cl p.t0 p.t15.toNat)then bif bif wP (cl p.t0 p.t15.toNat=46)then wN else wO then V (bif wP (cl p.t0 p.t15.toNat=95)then wN else wO)else V wN else V wN else V wN with|O=>O|V r2=>bif r2 then V (O)else V (V (tg.mk p.t0 p.t14 (i64.wrap (p.t15+1))))else O else V (O)
def YB:An:=(noTwo (noTwo (.two (noTwo (noTwo (.two (.rb [] 5) (.two (.rb [] 48) .no)))) .no)))
def HG:tg->Option tg:=bI (JK)
abbrev ass:Type:=Bool
def d261:Td 0 ass:= .c [] [2] (.r 0 0 (ec 2 qb en) sn (fun z=>z.1.1) (fun x=>((x,()),(()))))
def Zz:∀f∈([]:List Nat),bh (asR) f:=aB
def Ng(a0:ByteArray):Option ass:=
 match bif a0.toList==(ByteArray.mk (Array.mk [])).toList then V wO else V (wP (40<(↑a0.size:Int)))with|O=>O|V r3=>bif r3 then V wN else match HG (tg.mk a0 a0.size 0)with|O=>O|V r4=>bif wP (r4.t15<r4.t14)then if 0<=r4.t15/\r4.t15<r4.t0.size then match bif wP (97<=cl r4.t0 r4.t15.toNat)then V (wP (cl r4.t0 r4.t15.toNat<=122))else V wN with|O=>O|V r5=>match bif bif r5 then wN else wO then bif wP (r4.t15=0)then V wO else bif wP (cl r4.t0 r4.t15.toNat<48)then bif bif wP (cl r4.t0 r4.t15.toNat=46)then wN else wO then V (bif wP (cl r4.t0 r4.t15.toNat=95)then wN else wO)else V wN else bif wP (57<cl r4.t0 r4.t15.toNat)then bif bif wP (cl r4.t0 r4.t15.toNat=46)then wN else wO then V (bif wP (cl r4.t0 r4.t15.toNat=95)then wN else wO)else V wN else V wN else V wN with|O=>O|V r6=>bif r6 then V wN else O else O else V wO
def auV:aK->aK:=eL wQ 261 wN (lc qs ln) d261 (fun g=>Ng g.1)
def QX:EO auV:=fun h=>kL (F:=asR) (an:=(noTwo (.two (.two (.rb [] 12) .no) (.two (noTwo (N7.lp HG YB)) .no)))) (l:=[(.skip,(.rb [] 12)),(bg f261 0,(N7.lp HG YB)),(.skip,(.rb [] 5)),(.skip,(.rb [] 48))]) func261 aR (ay Zz (ay (aO N7) (ay Zz (ay Zz aB)))) h
structure tW where
 t0:List aS
 oB:ByteArray
 (od oD ot om t7 t8:Int)
def Ot:Td 0 tW:= .c [] [0,1,7,8] (.r 0 0 (ec 0 (ql 131) (ec 1 (qf 260 (lc (qr (lc qs (aN (aN (aN (aN ln)))))) ln)) (ec 7 aM (ec 8 aM en)))) sn (fun z=>⟨z.1.1,z.1.2.1.1.1,z.1.2.1.1.2.1,z.1.2.1.1.2.2.1,z.1.2.1.1.2.2.2.1,z.1.2.1.1.2.2.2.2.1,z.1.2.2.1,z.1.2.2.2.1⟩) (fun x=>((x.t0,((x.oB,x.od,x.oD,x.ot,x.om,()),()),x.t7,x.t8,()),(()))))
def G6(p:tW):Option (Option tW):=
 bif wP (p.t8<p.t7)then if 0<=p.t8/\p.t8<p.t0.length then bif X4 p.t0[p.t8.toNat]! (aS.mk p.oB p.od p.oD p.ot p.om)then V (O)else V (V (tW.mk p.t0 p.oB p.od p.oD p.ot p.om p.t7 (i64.wrap (p.t8+1))))else O else V (O)
def Hz:tW->Option tW:=bI (G6)
abbrev atV:Type:=Int
def d303:Td 0 atV:= .c [] [4] (.r 0 0 (ec 4 aM en) sn (fun z=>z.1.1) (fun x=>((x,()),(()))))
def akl(a0:List aS)(a1_0:aS):Option atV:=
 match Hz (tW.mk a0 a1_0.fName a1_0.bk a1_0.af a1_0.aa a1_0.dz a0.length 0)with|O=>O|V r1=>bif wP (r1.t8<r1.t7)then if 0<=r1.t8/\r1.t8<r1.t0.length then bif X4 r1.t0[r1.t8.toNat]! (aS.mk r1.oB r1.od r1.oD r1.ot r1.om)then V (r1.t8)else O else O else V (-1)
def axN:aK->aK:=eL wQ 303 wO (lc (ql 131) (lc (qf 260 (lc (qr (lg 131)) ln)) ln)) d303 (fun g=>akl g.1 g.2.1.1)
def aaS:EO axN:=fun h=>kL (an:=(noTwo (.two (noTwo (Ot.lp Hz .no)) .no))) (l:=[(bg f303 0,(Ot.lp Hz .no))]) func303 (Tp aR) (ay (aO Ot) aB) h
abbrev arf:Type:=Bool
def d262:Td 0 arf:= .c [] [4] (.r 0 0 (ec 4 qb en) sn (fun z=>z.1.1) (fun x=>((x,()),(()))))
def WN(a0:List aS)(a1_0:aS):Option arf:=
 match akl a0 a1_0 with|O=>O|V r1=>V (wP (0<=r1))
def apV:aK->aK:=eL wQ 262 wO (lc (ql 131) (lc (qf 260 (lc (qr (lg 131)) ln)) ln)) d262 (fun g=>WN g.1 g.2.1.1)
def afh:EO apV:=fun h=>kL (an:= .no) func262 (aaS (Tp aR)) aB h
def anv:aK:=dg
abbrev alD:Type:=Bool
def d263:Td 0 alD:= .c [] [4] (.r 0 0 (ec 4 qb en) sn (fun z=>z.1.1) (fun x=>((x,()),(()))))
def apK:=(aN (aN ln))
def aiw:An:=(noTwo (.two (.rb [] 4) .no))
def arX:∀f∈([]:List Nat),bh (anv) f:=aB
def JM(a0:Int)(a1:Int):alD:=
 let r1:Bool:=bif wP (a0<=a1)then bif wP (-1048576<=a0)then wP (a1<=1048576)else wN else wN;r1
def ayd(a0:Int)(a1:Int):bU wQ (anv) 300 (aiw) 263 (apK.c (a0,a1,())) [] 0 d263.rd=V (JM a0 a1):=by
 refine Eq.trans (b:=(
  match bif wP (a0<=a1)then bif wP (-1048576<=a0)then V (wP (a1<=1048576))else V (wN)else V (wN)with|O=>O|V r1=>V (r1):Option alD)) (by kernel_rfl) ?_
 simp only[JM,cv,cF]
def aq8:aK->aK:=eL wQ 263 wN apK d263 (fun g=>V (JM g.1 g.2.1))
def S9:EO aq8:=fun h=>kL (F:=anv) (an:=aiw) (l:=[(.skip,(.rb [] 4))]) func263 aR (ay arX aB) h (c:=fun g=>ayd g.1 g.2.1)
abbrev auM:Type:=Int
def d337:Td 0 auM:= .c [] [2] (.r 0 0 (ec 2 aM en) sn (fun z=>z.1.1) (fun x=>((x,()),(()))))
def FP(a0:aS):auM:=
 i64.wrap (i64.wrap (a0.aa-a0.af)+1)
def ar6:aK->aK:=eL wQ 337 wN (lc (qg 131) ln) d337 (fun g=>V (FP g.1))
def aeT:EO ar6:=fun h=>kL (an:= .no) func337 aR aB h
def avd:aK:=(ar6 dg)
structure mR where
 t7:List aS
 t10:Int
 t49:List aS
 (t50 t51:Int)
def Nj:Td 0 mR:= .c [] [7,10,49,50,51] (.r 0 1 (ec 7 (qo 0) (ec 10 aM (ec 49 (qo 0) (ec 50 aM (ec 51 aM en))))) (sr 0 131 sn) (fun z=>⟨z.2.1,z.1.2.1,z.2.1,z.1.2.2.2.1,z.1.2.2.2.2.1⟩) (fun x=>(((),x.t10,(),x.t50,x.t51,()),(x.t49,()))))
def JR(p:mR):Option (Option mR):=
 bif wP (p.t51<p.t50)then if 0<=p.t51/\p.t51<p.t49.length then if 131=131/\p.t51.toNat<p.t49.length then bif wP (4096<i64.wrap (p.t10*FP p.t49[p.t51.toNat]!))then V (O)else V (V (mR.mk p.t49 (i64.wrap (p.t10*FP p.t49[p.t51.toNat]!)) p.t49 p.t50 (i64.wrap (p.t51+1))))else O else O else V (O)
def tZ:mR->Option mR:=bI (JR)
structure lV where
 t1:Int
 (t7 t19:List aS)
 (t20 t21:Int)
def Oj:Td 0 lV:= .c [] [1,7,19,20,21] (.t (cj.s 7 [] 131) (.c [] [1,7,19,20,21] (.r 0 1 (ec 1 aM (ec 7 (qo 0) (ec 19 (ql 131) (ec 20 aM (ec 21 aM en))))) (sr 0 131 sn) (fun z=>⟨z.1.1,z.2.1,z.1.2.2.1,z.1.2.2.2.1,z.1.2.2.2.2.1⟩) (fun x=>((x.t1,(),x.t19,x.t20,x.t21,()),(x.t7,()))))))
def DU(p:lV):Option (Option lV):=
 bif wP (p.t21<p.t20)then if 0<=p.t21/\p.t21<p.t19.length then bif bif wP (p.t19[p.t21.toNat]!.bk=p.t1)then wN else wO then V (V (lV.mk p.t1 p.t7 p.t19 p.t20 (i64.wrap (p.t21+1))))else match bif wP (p.t19[p.t21.toNat]!.aa<p.t19[p.t21.toNat]!.af)then V wO else bif wP (p.t19[p.t21.toNat]!.af< -1048576)then V wO else V (wP (1048576<p.t19[p.t21.toNat]!.aa))with|O=>O|V r1=>bif r1 then V (O)else if(p.t7++[p.t19[p.t21.toNat]!]).length<=1073741824 then V (V (lV.mk p.t1 (p.t7++[p.t19[p.t21.toNat]!]) p.t19 p.t20 (i64.wrap (p.t21+1))))else O else O else V (O)
def Xe:An:=(noTwo (noTwo (.two (noTwo (noTwo (.two (.two (.rb [] 43) .no) .no))) .no)))
def tj:lV->Option lV:=bI (DU)
abbrev aun:Type:=(List aS)×Int×Int
def d304:Td 0 aun:= .c [] [4,5,6] (.t (cj.s 4 [] 131) (.c [] [4,5,6] (.r 0 1 (ec 4 (qo 0) (ec 5 aM (ec 6 aM en))) (sr 0 131 sn) (fun z=>(z.2.1,z.1.2.1,z.1.2.2.1)) (fun x=>(((),x.2.1,x.2.2,()),(x.1,()))))))
def ar3:∀f∈([]:List Nat),bh (avd) f:=aB
def anm(a0:List aS)(a1:Int):Option aun:=
 bif wP (a1=0)then match tj (lV.mk a1 [] a0 a0.length 0)with|O=>O|V r2=>bif wP (r2.t21<r2.t20)then if 0<=r2.t21/\r2.t21<r2.t19.length then bif bif wP (r2.t19[r2.t21.toNat]!.bk=r2.t1)then wN else wO then O else match bif wP (r2.t19[r2.t21.toNat]!.aa<r2.t19[r2.t21.toNat]!.af)then V wO else bif wP (r2.t19[r2.t21.toNat]!.af< -1048576)then V wO else V (wP (1048576<r2.t19[r2.t21.toNat]!.aa))with|O=>O|V r3=>bif r3 then V ([],0,3)else if(r2.t7++[r2.t19[r2.t21.toNat]!]).length<=1073741824 then O else O else O else match tZ (mR.mk r2.t7 1 r2.t7 r2.t7.length 0)with|O=>O|V r4=>bif wP (r4.t51<r4.t50)then if 0<=r4.t51/\r4.t51<r4.t49.length then if 131=131/\r4.t51.toNat<r4.t49.length then bif wP (4096<i64.wrap (r4.t10*FP r4.t49[r4.t51.toNat]!))then V ([],0,4)else O else O else O else V (r4.t49,r4.t10,0)else bif wP (a1=1)then match tj (lV.mk a1 [] a0 a0.length 0)with|O=>O|V r5=>bif wP (r5.t21<r5.t20)then if 0<=r5.t21/\r5.t21<r5.t19.length then bif bif wP (r5.t19[r5.t21.toNat]!.bk=r5.t1)then wN else wO then O else match bif wP (r5.t19[r5.t21.toNat]!.aa<r5.t19[r5.t21.toNat]!.af)then V wO else bif wP (r5.t19[r5.t21.toNat]!.af< -1048576)then V wO else V (wP (1048576<r5.t19[r5.t21.toNat]!.aa))with|O=>O|V r6=>bif r6 then V ([],0,3)else if(r5.t7++[r5.t19[r5.t21.toNat]!]).length<=1073741824 then O else O else O else match tZ (mR.mk r5.t7 1 r5.t7 r5.t7.length 0)with|O=>O|V r7=>bif wP (r7.t51<r7.t50)then if 0<=r7.t51/\r7.t51<r7.t49.length then if 131=131/\r7.t51.toNat<r7.t49.length then bif wP (4096<i64.wrap (r7.t10*FP r7.t49[r7.t51.toNat]!))then V ([],0,4)else O else O else O else V (r7.t49,r7.t10,0)else bif wP (a1=2)then match tj (lV.mk a1 [] a0 a0.length 0)with|O=>O|V r8=>bif wP (r8.t21<r8.t20)then if 0<=r8.t21/\r8.t21<r8.t19.length then bif bif wP (r8.t19[r8.t21.toNat]!.bk=r8.t1)then wN else wO then O else match bif wP (r8.t19[r8.t21.toNat]!.aa<r8.t19[r8.t21.toNat]!.af)then V wO else bif wP (r8.t19[r8.t21.toNat]!.af< -1048576)then V wO else V (wP (1048576<r8.t19[r8.t21.toNat]!.aa))with|O=>O|V r9=>bif r9 then V ([],0,3)else if(r8.t7++[r8.t19[r8.t21.toNat]!]).length<=1073741824 then O else O else O else match tZ (mR.mk r8.t7 1 r8.t7 r8.t7.length 0)with|O=>O|V r10=>bif wP (r10.t51<r10.t50)then if 0<=r10.t51/\r10.t51<r10.t49.length then if 131=131/\r10.t51.toNat<r10.t49.length then bif wP (4096<i64.wrap (r10.t10*FP r10.t49[r10.t51.toNat]!))then V ([],0,4)else O else O else O else V (r10.t49,r10.t10,0)else bif wP (a1=3)then match tj (lV.mk a1 [] a0 a0.length 0)with|O=>O|V r11=>bif wP (r11.t21<r11.t20)then if 0<=r11.t21/\r11.t21<r11.t19.length then bif bif wP (r11.t19[r11.t21.toNat]!.bk=r11.t1)then wN else wO then O else match bif wP (r11.t19[r11.t21.toNat]!.aa<r11.t19[r11.t21.toNat]!.af)then V wO else bif wP (r11.t19[r11.t21.toNat]!.af< -1048576)then V wO else V (wP (1048576<r11.t19[r11.t21.toNat]!.aa))with|O=>O|V r12=>bif r12 then V ([],0,3)else if(r11.t7++[r11.t19[r11.t21.toNat]!]).length<=1073741824 then O else O else O else match tZ (mR.mk r11.t7 1 r11.t7 r11.t7.length 0)with|O=>O|V r13=>bif wP (r13.t51<r13.t50)then if 0<=r13.t51/\r13.t51<r13.t49.length then if 131=131/\r13.t51.toNat<r13.t49.length then bif wP (4096<i64.wrap (r13.t10*FP r13.t49[r13.t51.toNat]!))then V ([],0,4)else O else O else O else V (r13.t49,r13.t10,0)else V ([],0,1)
def axp:aK->aK:=eL wQ 304 wN (lc (ql 131) (aN ln)) d304 (fun g=>anm g.1 g.2.1)
def acL:EO axp:=fun h=>kL (F:=avd) (an:=(noTwo (noTwo (noTwo (.two (noTwo (Oj.lp tj Xe)) (noTwo (.two (noTwo (Nj.lp tZ .no)) .no))))))) (l:=[(bg f304 0,(Oj.lp tj Xe)),(.skip,(.rb [] 43)),(bg f304 1,(Nj.lp tZ .no))]) func304 (aeT aR) (ay (aO Oj) (ay ar3 (ay (aO Nj) aB))) h
abbrev arS:Type:=Int×Int
def d264:Td 0 arS:= .c [] [4,5] (.r 0 0 (ec 4 aM (ec 5 aM en)) sn (fun z=>(z.1.1,z.1.2.1)) (fun x=>((x.1,x.2,()),(()))))
def Zf(a0:List aS)(a1:Int):Option arS:=
 match anm a0 a1 with|O=>O|V r1=>V (r1.snd)
def asn:aK->aK:=eL wQ 264 wN (lc (ql 131) (aN ln)) d264 (fun g=>Zf g.1 g.2.1)
def afu:EO asn:=fun h=>kL (an:= .no) func264 (acL aR) aB h
def atg:aK:=(asn (aq8 (apV (auV dg))))
structure uE where
 t0:List aS
 t71:List Int
 (t72 t73:Int)
def OX:Td 0 uE:= .c [] [0,71,72,73] (.r 0 1 (ec 0 (ql 131) (ec 71 (qo 0) (ec 72 aM (ec 73 aM en)))) (sr 0 129 sn) (fun z=>⟨z.1.1,z.2.1,z.1.2.2.1,z.1.2.2.2.1⟩) (fun x=>((x.t0,(),x.t72,x.t73,()),(x.t71,()))))
def qu(p:uE):Option (Option uE):=
 bif wP (p.t73<p.t72)then if 0<=p.t73/\p.t73<p.t71.length then if 129=129/\p.t73.toNat<p.t71.length then match Zf p.t0 p.t71[p.t73.toNat]! with|O=>O|V r6=>match bif bif wP (r6.snd=0)then wN else wO then V wO else bif wP (((p.t0,(),p.t72,p.t73,()),p.t71,()).snd.fst[((p.t0,(),p.t72,p.t73,()),p.t71,()).fst.snd.snd.snd.fst.toNat]! =3)then V (wP (256<r6.fst))else V wN with|O=>O|V r7=>bif r7 then V (O)else V (V (uE.mk p.t0 p.t71 p.t72 (i64.wrap (p.t73+1))))else O else O else V (O)
def VX:An:=(noTwo (noTwo (.two (noTwo (noTwo (.two (.rb [] 92) .no))) .no)))
def qY:uE->Option uE:=bI (qu)
structure uH where
 (t0 t10:List aS)
 (t11 t12:Int)
def On:Td 0 uH:= .c [] [0,10,11,12] (.r 0 0 (ec 0 (ql 131) (ec 10 (ql 131) (ec 11 aM (ec 12 aM en)))) sn (fun z=>⟨z.1.1,z.1.2.1,z.1.2.2.1,z.1.2.2.2.1⟩) (fun x=>((x.t0,x.t10,x.t11,x.t12,()),(()))))
def As(p:uH):Option (Option uH):=
 bif wP (p.t12<p.t11)then if 0<=p.t12/\p.t12<p.t10.length then match Ng p.t10[p.t12.toNat]!.fName with|O=>O|V r1=>bif bif r1 then wN else wO then V (O)else if 0<=p.t12/\p.t12<=p.t0.length then match WN (List.take p.t12.toNat p.t0) p.t10[p.t12.toNat]! with|O=>O|V r2=>bif r2 then V (O)else match bif wP (p.t10[p.t12.toNat]!.bk<0)then V wO else V (wP (3<p.t10[p.t12.toNat]!.bk))with|O=>O|V r3=>bif r3 then V (O)else bif bif JM p.t10[p.t12.toNat]!.af p.t10[p.t12.toNat]!.aa then wN else wO then V (O)else match bif bif wP (p.t10[p.t12.toNat]!.bk=0)then wN else wO then V (bif wP (p.t10[p.t12.toNat]!.dz=0)then wN else wO)else V wN with|O=>O|V r4=>bif r4 then V (O)else match bif wP (p.t10[p.t12.toNat]!.bk=0)then bif wP (p.t10[p.t12.toNat]!.dz<p.t10[p.t12.toNat]!.af)then V wO else V (wP (p.t10[p.t12.toNat]!.aa<p.t10[p.t12.toNat]!.dz))else V wN with|O=>O|V r5=>bif r5 then V (O)else V (V (uH.mk p.t0 p.t10 p.t11 (i64.wrap (p.t12+1))))else O else O else V (O)
def Xc:An:=(noTwo (noTwo (.two (noTwo (noTwo (noTwo (noTwo (noTwo (noTwo (.two (.rb [] 29) (noTwo (.two (noTwo (noTwo (.two (.rb [] 38) (noTwo (.rb [] 38))))) .no))))))))) .no)))
def HK:uH->Option uH:=bI (As)
abbrev apy:Type:=Int
def d210:Td 0 apy:= .c [] [2] (.r 0 0 (ec 2 aM en) sn (fun z=>z.1.1) (fun x=>((x,()),(()))))
def Q7:∀f∈([]:List Nat),bh (atg) f:=aB
def abb(a0:List aS):Option apy:=
 match HK (uH.mk a0 a0 a0.length 0)with|O=>O|V r8=>bif wP (r8.t12<r8.t11)then if 0<=r8.t12/\r8.t12<r8.t10.length then match Ng r8.t10[r8.t12.toNat]!.fName with|O=>O|V r9=>bif bif r9 then wN else wO then V 7 else if 0<=r8.t12/\r8.t12<=r8.t0.length then match WN (List.take r8.t12.toNat r8.t0) r8.t10[r8.t12.toNat]! with|O=>O|V r10=>bif r10 then V 8 else match bif wP (r8.t10[r8.t12.toNat]!.bk<0)then V wO else V (wP (3<r8.t10[r8.t12.toNat]!.bk))with|O=>O|V r11=>bif r11 then V 1 else bif bif JM r8.t10[r8.t12.toNat]!.af r8.t10[r8.t12.toNat]!.aa then wN else wO then V 3 else match bif bif wP (r8.t10[r8.t12.toNat]!.bk=0)then wN else wO then V (bif wP (r8.t10[r8.t12.toNat]!.dz=0)then wN else wO)else V wN with|O=>O|V r12=>bif r12 then V 3 else match bif wP (r8.t10[r8.t12.toNat]!.bk=0)then bif wP (r8.t10[r8.t12.toNat]!.dz<r8.t10[r8.t12.toNat]!.af)then V wO else V (wP (r8.t10[r8.t12.toNat]!.aa<r8.t10[r8.t12.toNat]!.dz))else V wN with|O=>O|V r13=>bif r13 then V 3 else O else O else O else match qY (uE.mk r8.t0 [1,2,3] (↑3:Int) 0)with|O=>O|V r14=>bif wP (r14.t73<r14.t72)then if 0<=r14.t73/\r14.t73<r14.t71.length then if 129=129/\r14.t73.toNat<r14.t71.length then match Zf r14.t0 r14.t71[r14.t73.toNat]! with|O=>O|V r15=>match bif bif wP (r15.snd=0)then wN else wO then V wO else bif wP (((r14.t0,(),r14.t72,r14.t73,()),r14.t71,()).snd.fst[((r14.t0,(),r14.t72,r14.t73,()),r14.t71,()).fst.snd.snd.snd.fst.toNat]! =3)then V (wP (256<r15.fst))else V wN with|O=>O|V r16=>bif r16 then V 4 else O else O else O else V 0
def atq:aK->aK:=eL wQ 210 wN (lc (ql 131) ln) d210 (fun g=>abb g.1)
def abU:EO atq:=fun h=>kL (F:=atg) (an:=(noTwo (.two (noTwo (On.lp HK Xc)) (.two (noTwo (OX.lp qY VX)) .no)))) (l:=[(bg f210 0,(On.lp HK Xc)),(.skip,(.rb [] 29)),(.skip,(.rb [] 38)),(.skip,(.rb [] 38)),(bg f210 1,(OX.lp qY VX)),(.skip,(.rb [] 92))]) func210 (afu (S9 (afh (QX aR)))) (ay (aO On) (ay Q7 (ay Q7 (ay Q7 (ay (aO OX) (ay Q7 aB)))))) h
abbrev aqY:Type:=Bool
def d265:Td 0 aqY:= .c [] [3] (.r 0 0 (ec 3 qb en) sn (fun z=>z.1.1) (fun x=>((x,()),(()))))
def V4(a0:dc)(c0:dc):aqY:=
 a0.fName.toList==c0.fName.toList
def ayu:aK->aK:=eL wQ 265 wN (lc (qg 139) (lc (qr (lg 139)) ln)) d265 (fun g=>V (V4 g.1 g.2.1))
def RP:EO ayu:=fun h=>kL (an:= .no) func265 aR aB h
structure uu where
 t0:List dc
 oB:ByteArray
 (od oD ot om:Int)
 Iz:List aq
 (t7 t8:Int)
def OE:Td 0 uu:= .c [] [0,1,7,8] (.r 0 0 (ec 0 (ql 139) (ec 1 (qf 265 (lc (qr (lc qs (aN (aN (aN (aN (lc (ql 137) ln))))))) ln)) (ec 7 aM (ec 8 aM en)))) sn (fun z=>⟨z.1.1,z.1.2.1.1.1,z.1.2.1.1.2.1,z.1.2.1.1.2.2.1,z.1.2.1.1.2.2.2.1,z.1.2.1.1.2.2.2.2.1,z.1.2.1.1.2.2.2.2.2.1,z.1.2.2.1,z.1.2.2.2.1⟩) (fun x=>((x.t0,((x.oB,x.od,x.oD,x.ot,x.om,x.Iz,()),()),x.t7,x.t8,()),(()))))
def JS(p:uu):Option (Option uu):=
 bif wP (p.t8<p.t7)then if 0<=p.t8/\p.t8<p.t0.length then bif V4 (dc.mk p.t0[p.t8.toNat]!.fName p.t0[p.t8.toNat]!.af p.t0[p.t8.toNat]!.aa (aq.mk p.t0[p.t8.toNat]!.az.bf p.t0[p.t8.toNat]!.az.fN p.t0[p.t8.toNat]!.az.ak)) (dc.mk p.oB p.od p.oD (aq.mk p.ot p.om p.Iz))then V (O)else V (V (uu.mk p.t0 p.oB p.od p.oD p.ot p.om p.Iz p.t7 (i64.wrap (p.t8+1))))else O else V (O)
def Jq:uu->Option uu:=bI (JS)
abbrev aum:Type:=Int
def d305:Td 0 aum:= .c [] [4] (.r 0 0 (ec 4 aM en) sn (fun z=>z.1.1) (fun x=>((x,()),(()))))
def ao0(a0:List dc)(a1_0:dc):Option aum:=
 match Jq (uu.mk a0 a1_0.fName a1_0.af a1_0.aa a1_0.az.bf a1_0.az.fN a1_0.az.ak a0.length 0)with|O=>O|V r1=>bif wP (r1.t8<r1.t7)then if 0<=r1.t8/\r1.t8<r1.t0.length then bif V4 (dc.mk r1.t0[r1.t8.toNat]!.fName r1.t0[r1.t8.toNat]!.af r1.t0[r1.t8.toNat]!.aa (aq.mk r1.t0[r1.t8.toNat]!.az.bf r1.t0[r1.t8.toNat]!.az.fN r1.t0[r1.t8.toNat]!.az.ak)) (dc.mk r1.oB r1.od r1.oD (aq.mk r1.ot r1.om r1.Iz))then V (r1.t8)else O else O else V (-1)
def axb:aK->aK:=eL wQ 305 wO (lc (ql 139) (lc (qf 265 (lc (qr (lg 139)) ln)) ln)) d305 (fun g=>ao0 g.1 g.2.1.1)
def acF:EO axb:=fun h=>kL (an:=(noTwo (.two (noTwo (OE.lp Jq .no)) .no))) (l:=[(bg f305 0,(OE.lp Jq .no))]) func305 (RP aR) (ay (aO OE) aB) h
abbrev ap7:Type:=Bool
def d266:Td 0 ap7:= .c [] [4] (.r 0 0 (ec 4 qb en) sn (fun z=>z.1.1) (fun x=>((x,()),(()))))
def Zv(a0:List dc)(a1_0:dc):Option ap7:=
 match ao0 a0 (dc.mk a1_0.fName a1_0.af a1_0.aa (aq.mk a1_0.az.bf a1_0.az.fN a1_0.az.ak))with|O=>O|V r1=>V (wP (0<=r1))
def ay5:aK->aK:=eL wQ 266 wO (lc (ql 139) (lc (qf 265 (lc (qr (lg 139)) ln)) ln)) d266 (fun g=>Zv g.1 g.2.1.1)
def agv:EO ay5:=fun h=>kL (an:= .no) func266 (acF (RP aR)) aB h
def amM:aK:=dg
abbrev amL:Type:=Int×Int
def d338:Td 0 amL:= .c [] [2,3] (.r 0 0 (ec 2 aM (ec 3 aM en)) sn (fun z=>(z.1.1,z.1.2.1)) (fun x=>((x.1,x.2,()),(()))))
def avF:=(aN ln)
def aie:An:=(noTwo (.two (.two (.rb [] 4) (noTwo (.two (.rb [] 11) (noTwo (.two (.rb [] 18) .no))))) .no))
def Zu:∀f∈([]:List Nat),bh (amM) f:=aB
def KO(a0:Int):amL:=
 let r1:Bool:=bif wP (a0=0)then wO else wP (a0=24);bif r1 then(0,0)else let r2:Bool:=bif wP (a0=6)then wO else wP (a0=7);bif r2 then(1,1)else let r3:Bool:=bif wP (8<=a0)then wP (a0<=22)else wN;bif r3 then(2,2)else bif wP (a0=23)then(3,3)else bif wP (a0=25)then(2,33)else(-1,-1)
def ayl(a0:Int):bU wQ (amM) 300 (aie) 338 (avF.c (a0,())) [] 0 d338.rd=V (KO a0):=by
 refine Eq.trans (b:=(
  match bif wP (a0=0)then V (wO)else V (wP (a0=24))with|O=>O|V r1=>bif r1 then V ((0,0))else match bif wP (a0=6)then V (wO)else V (wP (a0=7))with|O=>O|V r2=>bif r2 then V ((1,1))else match bif wP (8<=a0)then V (wP (a0<=22))else V (wN)with|O=>O|V r3=>bif r3 then V ((2,2))else bif wP (a0=23)then V ((3,3))else bif wP (a0=25)then V ((2,33))else V ((-1,-1)):Option amL)) (by kernel_rfl) ?_
 simp only[KO,cv,cF]
def avr:aK->aK:=eL wQ 338 wN avF d338 (fun g=>V (KO g.1))
def afp:EO avr:=fun h=>kL (F:=amM) (an:=aie) (l:=[(.skip,(.rb [] 4)),(.skip,(.rb [] 11)),(.skip,(.rb [] 18))]) func338 aR (ay Zu (ay Zu (ay Zu aB))) h (c:=fun g=>ayl g.1)
abbrev sx:Type:=Bool
def d306:Td 0 sx:= .c [] [6] (.r 0 0 (ec 6 qb en) sn (fun z=>z.1.1) (fun x=>((x,()),(()))))
def aol:=(lc (ql 131) (lc (qg 137) (lc qb ln)))
def alj(M:(List aS)->aq->Bool->Option sx):aK->aK:=eL wQ 306 wN aol d306 (fun g=>M g.1 g.2.1 g.2.2.1)
def aho(M:(List aS)->aq->Bool->Option sx):Prop:=HL wQ 306 aol d306 (fun g=>M g.1 g.2.1 g.2.2.1)
def Tj{M:(List aS)->aq->Bool->Option sx}(hM:aho M){F:aK}(h:bq wQ F):bq wQ (alj M F):=gI (sc:=Cc) eW hM ⟨_,func306,by kernel_rfl,by kernel_rfl⟩ (fun _=>by kernel_rfl) (fun _=>by kernel_rfl) h
def ag1(M306:(List aS)->aq->Bool->Option sx):aK:=(avr (alj M306 dg))
def ahx{M306}(h306:aho M306):bq wQ (ag1 M306):=(afp (Tj h306 aR))
structure oh where
 t0:List aS
 t2:Bool
 t65:List aq
 (t66 t67:Int)
def ON:Td 0 oh:= .c [] [0,2,65,66,67] (.r 0 0 (ec 0 (ql 131) (ec 2 qb (ec 65 (ql 137) (ec 66 aM (ec 67 aM en))))) sn (fun z=>⟨z.1.1,z.1.2.1,z.1.2.2.1,z.1.2.2.2.1,z.1.2.2.2.2.1⟩) (fun x=>((x.t0,x.t2,x.t65,x.t66,x.t67,()),(()))))
def HF(M306:(List aS)->aq->Bool->Option sx)(p:oh):Option (Option oh):=
 bif wP (p.t67<p.t66)then if 0<=p.t67/\p.t67<p.t65.length then match M306 p.t0 (aq.mk p.t65[p.t67.toNat]!.bf p.t65[p.t67.toNat]!.fN p.t65[p.t67.toNat]!.ak) p.t2 with|O=>O|V r1=>bif bif r1 then wN else wO then V (O)else V (V (oh.mk p.t0 p.t2 p.t65 p.t66 (i64.wrap (p.t67+1))))else O else V (O)
def Au(M306:(List aS)->aq->Bool->Option sx):oh->Option oh:=bI (HF M306)
def aib(M306:(List aS)->aq->Bool->Option sx):An:=(noTwo (noTwo (.two (.two (.rb [] 32) .no) (.two (noTwo (noTwo (noTwo (noTwo (.two (.two (.rb [] 63) .no) .no))))) (.two (noTwo (ON.lp (Au M306) .no)) .no)))))
def ah6{M306}:∀f∈([]:List Nat),bh (ag1 M306) f:=aB
def arn(M306:(List aS)->aq->Bool->Option sx):eG wQ (ag1 M306) 0 300 306 (aib M306):=bV (l:=[(.skip,(.rb [] 32)),(.skip,(.rb [] 63)),(bg f306 0,(ON.lp (Au M306) .no))]) func306 (bG (by kernel_rfl)) (by kernel_rfl) (ay ah6 (ay ah6 (ay (aO ON) aB)))
def aaJ(M306:(List aS)->aq->Bool->Option sx)(a0:List aS)(a1:aq)(a2:Bool):Option sx:=
 match bif wP ((KO a1.bf).fst<0)then V wO else bif wP ((↑a1.ak.length:Int)<(KO a1.bf).fst)then V wO else V (wP ((KO a1.bf).snd<a1.ak.length))with|O=>O|V r2=>bif r2 then V wN else bif wP (a1.bf=0)then match Au M306 (oh.mk a0 a2 a1.ak a1.ak.length 0)with|O=>O|V r3=>bif wP (r3.t67<r3.t66)then if 0<=r3.t67/\r3.t67<r3.t65.length then match M306 r3.t0 (aq.mk r3.t65[r3.t67.toNat]!.bf r3.t65[r3.t67.toNat]!.fN r3.t65[r3.t67.toNat]!.ak) r3.t2 with|O=>O|V r4=>bif bif r4 then wN else wO then V wN else O else O else V wO else bif wP (a1.bf=24)then match bif wP (a1.fN<0)then V wO else bif wP (a0.length<=a1.fN)then V wO else bif a2 then if 0<=a1.fN/\a1.fN<a0.length then V (wP (a0[a1.fN.toNat]!.bk=0))else O else V wN with|O=>O|V r5=>bif r5 then V wN else match Au M306 (oh.mk a0 a2 a1.ak a1.ak.length 0)with|O=>O|V r6=>bif wP (r6.t67<r6.t66)then if 0<=r6.t67/\r6.t67<r6.t65.length then match M306 r6.t0 (aq.mk r6.t65[r6.t67.toNat]!.bf r6.t65[r6.t67.toNat]!.fN r6.t65[r6.t67.toNat]!.ak) r6.t2 with|O=>O|V r7=>bif bif r7 then wN else wO then V wN else O else O else V wO else bif bif wP (a1.fN=0)then wN else wO then V wN else match Au M306 (oh.mk a0 a2 a1.ak a1.ak.length 0)with|O=>O|V r8=>bif wP (r8.t67<r8.t66)then if 0<=r8.t67/\r8.t67<r8.t65.length then match M306 r8.t0 (aq.mk r8.t65[r8.t67.toNat]!.bf r8.t65[r8.t67.toNat]!.fN r8.t65[r8.t67.toNat]!.ak) r8.t2 with|O=>O|V r9=>bif bif r9 then wN else wO then V wN else O else O else V wO
def ax1(M306:(List aS)->aq->Bool->Option sx)(a0:List aS)(a1:aq)(a2:Bool):bU wQ (ag1 M306) 300 (aib M306) 306 (aol.c (a0,a1,a2,())) [] 0 d306.rd=aaJ M306 a0 a1 a2:=by kernel_rfl
def aje:Nat->((List aS)->aq->Bool->Option sx)
 |0=>(fun _ _ _=>O)
 |n+1=>(aaJ (aje n))
def Nq(n:Nat):(List aS)->aq->Bool->Option sx:=(aje n)
def Kg:∀n,aho (Nq n)
 |0=>fun _ _ h=>(by cases h)
 |n+1=>by
  have ih:=Kg n
  have i306:=ih
  exact(dG (ahx i306) (arn (Nq n)) (fun _=>by kernel_rfl) (fun _=>by kernel_rfl) fun g=>ax1 (Nq n) g.1 g.2.1 g.2.2.1)
def adV:(List aS)->aq->Bool->Option sx:=fun a0 a1 a2=>lim (fun n=>Nq n a0 a1 a2)
def aeh:aho adV:=fun g b h=>by
 obtain⟨n,hn⟩:=cT (show lim (fun n=>Nq n g.1 g.2.1 g.2.2.1)=V b from h)
 exact(Kg n) g b hn
def azT(F:aK):aK:=alj adV F
def aeE{F:aK}(h:bq wQ F):bq wQ (azT F):=Tj aeh h
abbrev asY:Type:=Int
def d350:Td 0 asY:= .c [] [4] (.r 0 0 (ec 4 aM en) sn (fun z=>z.1.1) (fun x=>((x,()),(()))))
def Az(a0:Int)(a1:Int):asY:=
 i64.wrap (a0*a1)
def atI:aK->aK:=eL wQ 350 wN (aN (aN ln)) d350 (fun g=>V (Az g.1 g.2.1))
def Tl:EO atI:=fun h=>kL (an:= .no) func350 aR aB h
def ayx:aK:=dg
abbrev aog:Type:=Span
def d351:Td 0 aog:= .c [] [4] (.r 0 1 (ec 4 (qp 0 0) en) (sb 0 331 (lg 331) sn) (fun z=>z.2.1) (fun x=>(((),()),(x,()))))
def asK:=(lc (qg 331) (lc (qg 331) ln))
def ai1:An:= .no
def Ui(a0:Span)(a1:Span):aog:=
 Span.mk (if a1.af<a0.af then a1.af else a0.af) (if a0.aa<a1.aa then a1.aa else a0.aa)
def ax0(a0:Span)(a1:Span):bU wQ (ayx) 300 (ai1) 351 (asK.c (a0,a1,())) [] 0 d351.rd=V (Ui a0 a1):=by
 refine Eq.trans (b:=(
  V (Span.mk (if a1.af<a0.af then a1.af else a0.af) (if a0.aa<a1.aa then a1.aa else a0.aa)):Option aog)) (by kernel_rfl) ?_
 simp only[Ui,cv,cF]
def aqU:aK->aK:=eL wQ 351 wN asK d351 (fun g=>V (Ui g.1 g.2.1))
def Ri:EO aqU:=fun h=>kL (an:=ai1) func351 aR aB h (c:=fun g=>ax0 g.1 g.2.1)
structure ur where
 t38:List Int
 (t39 t40:Int)
 (b0 b1:Span)
def PJ:Td 0 ur:= .c [] [6,8,38,39,40] (.r 0 3 (ec 6 (qp 0 0) (ec 8 (qp 1 0) (ec 38 (qo 2) (ec 39 aM (ec 40 aM en))))) (sb 0 331 (lg 331) (sb 1 331 (lg 331) (sr 2 3 sn))) (fun z=>⟨z.2.2.2.1,z.1.2.2.2.1,z.1.2.2.2.2.1,z.2.1,z.2.2.1⟩) (fun x=>(((),(),(),x.t39,x.t40,()),(x.b0,x.b1,x.t38,()))))
def qA(p:ur):Option (Option ur):=
 bif wP (p.t40<p.t39)then if 0<=p.t40/\p.t40<p.t38.length then if 3=3/\p.t40.toNat<p.t38.length then V (V (ur.mk p.t38 p.t39 (i64.wrap (p.t40+1)) p.b0 (Ui p.b1 (Span.mk p.t38[p.t40.toNat]! p.t38[p.t40.toNat]!))))else O else O else V (O)
def C3:ur->Option ur:=bI (qA)
abbrev apE:Type:=Span
def d349:Td 0 apE:= .c [] [6] (.r 0 1 (ec 6 (qp 0 0) en) (sb 0 331 (lg 331) sn) (fun z=>z.2.1) (fun x=>(((),()),(x,()))))
def adK(a0:Span)(a1:Span):Option apE:=
 match C3 (ur.mk [Az a0.af a1.aa,Az a0.aa a1.af,Az a0.aa a1.aa] (↑[Az a0.af a1.aa,Az a0.aa a1.af,Az a0.aa a1.aa].length:Int) 0 (Span.mk 0 0) (Span.mk (Az a0.af a1.af) (Az a0.af a1.af)))with|O=>O|V r1=>bif wP (r1.t40<r1.t39)then if 0<=r1.t40/\r1.t40<r1.t38.length then if 3=3/\r1.t40.toNat<r1.t38.length then O else O else O else V (r1.b1)
def aui:aK->aK:=eL wQ 349 wN (lc (qg 331) (lc (qg 331) (lc (qf 350 ln) ln))) d349 (fun g=>adK g.1 g.2.1)
def adF:EO aui:=fun h=>kL (an:=(noTwo (noTwo (noTwo (.two (noTwo (PJ.lp C3 .no)) .no))))) (l:=[(bg f349 0,(PJ.lp C3 .no))]) func349 (Ri (Tl aR)) (ay (aO PJ) aB) h
def atQ:aK:=(aqU (atI (aui dg)))
structure pP where
 t207:List Span
 (t208 t209:Int)
 (b0 b1:Span)
def Nc:Td 0 pP:= .c [] [6,9,207,208,209] (.r 0 2 (ec 6 (qp 0 0) (ec 9 (qp 1 0) (ec 207 (ql 331) (ec 208 aM (ec 209 aM en))))) (sb 0 331 (lg 331) (sb 1 331 (lg 331) sn)) (fun z=>⟨z.1.2.2.1,z.1.2.2.2.1,z.1.2.2.2.2.1,z.2.1,z.2.2.1⟩) (fun x=>(((),(),x.t207,x.t208,x.t209,()),(x.b0,x.b1,()))))
def Jh(p:pP):Option (Option pP):=
 bif wP (p.t209<p.t208)then if 0<=p.t209/\p.t209<p.t207.length then V (V (pP.mk p.t207 p.t208 (i64.wrap (p.t209+1)) p.b0 (Ui p.b1 p.t207[p.t209.toNat]!)))else O else V (O)
def DN:pP->Option pP:=bI (Jh)
abbrev asH:Type:=Span
def d339:Td 0 asH:= .c [] [6] (.r 0 1 (ec 6 (qp 0 0) en) (sb 0 331 (lg 331) sn) (fun z=>z.2.1) (fun x=>(((),()),(x,()))))
def ato:∀f∈([]:List Nat),bh (atQ) f:=aB
def aaT(a0:List aS)(a1:aq)(a2:List Span):Option asH:=
 bif wP (a1.bf=0)then V (Span.mk a1.fN a1.fN)else bif wP (a1.bf=24)then if 0<=a1.fN/\a1.fN<a0.length then if 0<=a1.fN/\a1.fN<a0.length then V (Span.mk a0[a1.fN.toNat]!.af a0[a1.fN.toNat]!.aa)else O else O else bif wP (a1.bf=6)then if(0:Int)<=(0:Int)/\(0:Int)<a2.length then if(0:Int)<=(0:Int)/\(0:Int)<a2.length then V (Span.mk (i64.wrap (0-a2[0]!.aa)) (i64.wrap (0-a2[0]!.af)))else O else O else bif wP (a1.bf=8)then if(0:Int)<=(0:Int)/\(0:Int)<a2.length then if(0:Int)<=(1:Int)/\(1:Int)<a2.length then if(0:Int)<=(0:Int)/\(0:Int)<a2.length then if(0:Int)<=(1:Int)/\(1:Int)<a2.length then V (Span.mk (i64.wrap (a2[0]!.af+a2[1]!.af)) (i64.wrap (a2[0]!.aa+a2[1]!.aa)))else O else O else O else O else bif wP (a1.bf=9)then if(0:Int)<=(0:Int)/\(0:Int)<a2.length then if(0:Int)<=(1:Int)/\(1:Int)<a2.length then if(0:Int)<=(0:Int)/\(0:Int)<a2.length then if(0:Int)<=(1:Int)/\(1:Int)<a2.length then V (Span.mk (i64.wrap (a2[0]!.af-a2[1]!.aa)) (i64.wrap (a2[0]!.aa-a2[1]!.af)))else O else O else O else O else bif wP (a1.bf=10)then if(0:Int)<=(0:Int)/\(0:Int)<a2.length then if(0:Int)<=(1:Int)/\(1:Int)<a2.length then match adK a2[0]! a2[1]! with|O=>O|V r1=>V (r1)else O else O else bif wP (a1.bf=11)then if(0:Int)<=(0:Int)/\(0:Int)<a2.length then if(0:Int)<=(0:Int)/\(0:Int)<a2.length then match if(0:Int)<=(0:Int)/\(0:Int)<a2.length then bif wP (0<=a2[0]!.af)then if(0:Int)<=(1:Int)/\(1:Int)<a2.length then V (wP (0<=a2[1]!.af))else O else V wN else O with|O=>O|V r2=>bif r2 then V (Span.mk 0 (if a2[0]!.aa<i64.wrap (0-a2[0]!.af)then i64.wrap (0-a2[0]!.af)else a2[0]!.aa))else V (Span.mk (i64.wrap (0-if a2[0]!.aa<i64.wrap (0-a2[0]!.af)then i64.wrap (0-a2[0]!.af)else a2[0]!.aa)) (if a2[0]!.aa<i64.wrap (0-a2[0]!.af)then i64.wrap (0-a2[0]!.af)else a2[0]!.aa))else O else O else bif wP (a1.bf=12)then if(0:Int)<=(1:Int)/\(1:Int)<a2.length then bif wP (a2[1]!.af<0)then if(0:Int)<=(1:Int)/\(1:Int)<a2.length then if(0:Int)<=(1:Int)/\(1:Int)<a2.length then bif wP (0<a2[1]!.aa)then if(0:Int)<=(1:Int)/\(1:Int)<a2.length then V (Span.mk (if 0<i64.wrap (a2[1]!.af+1)then 0 else i64.wrap (a2[1]!.af+1)) (if i64.wrap (a2[1]!.aa-1)<0 then 0 else i64.wrap (a2[1]!.aa-1)))else O else V (Span.mk (if 0<i64.wrap (a2[1]!.af+1)then 0 else i64.wrap (a2[1]!.af+1)) 0)else O else O else if(0:Int)<=(1:Int)/\(1:Int)<a2.length then bif wP (0<a2[1]!.aa)then if(0:Int)<=(1:Int)/\(1:Int)<a2.length then V (Span.mk 0 (if i64.wrap (a2[1]!.aa-1)<0 then 0 else i64.wrap (a2[1]!.aa-1)))else O else V (Span.mk 0 0)else O else O else bif wP (a1.bf=21)then if(0:Int)<=(0:Int)/\(0:Int)<a2.length then if(0:Int)<=(1:Int)/\(1:Int)<a2.length then if(0:Int)<=(0:Int)/\(0:Int)<a2.length then if(0:Int)<=(1:Int)/\(1:Int)<a2.length then V (Span.mk (if a2[1]!.af<a2[0]!.af then a2[1]!.af else a2[0]!.af) (if a2[1]!.aa<a2[0]!.aa then a2[1]!.aa else a2[0]!.aa))else O else O else O else O else bif wP (a1.bf=22)then if(0:Int)<=(0:Int)/\(0:Int)<a2.length then if(0:Int)<=(1:Int)/\(1:Int)<a2.length then if(0:Int)<=(0:Int)/\(0:Int)<a2.length then if(0:Int)<=(1:Int)/\(1:Int)<a2.length then V (Span.mk (if a2[0]!.af<a2[1]!.af then a2[1]!.af else a2[0]!.af) (if a2[0]!.aa<a2[1]!.aa then a2[1]!.aa else a2[0]!.aa))else O else O else O else O else bif wP (a1.bf=23)then if(0:Int)<=(1:Int)/\(1:Int)<a2.length then if(0:Int)<=(2:Int)/\(2:Int)<=a2.length then match DN (pP.mk (z7 2 a2) (↑(z7 2 a2).length:Int) 0 (Span.mk 0 0) a2[1]!)with|O=>O|V r3=>bif wP (r3.t209<r3.t208)then if 0<=r3.t209/\r3.t209<r3.t207.length then O else O else V (r3.b1)else O else O else bif wP (a1.bf=25)then if(0:Int)<=(1:Int)/\(1:Int)<a2.length then if(0:Int)<=(2:Int)/\(2:Int)<=a2.length then match DN (pP.mk (z7 2 a2) (↑(z7 2 a2).length:Int) 0 (Span.mk 0 0) a2[1]!)with|O=>O|V r4=>bif wP (r4.t209<r4.t208)then if 0<=r4.t209/\r4.t209<r4.t207.length then O else O else V (r4.b1)else O else O else V (Span.mk 0 1)
def atf:aK->aK:=eL wQ 339 wN (lc (ql 131) (lc (qg 137) (lc (ql 331) ln))) d339 (fun g=>aaT g.1 g.2.1 g.2.2.1)
def ac2:EO atf:=fun h=>kL (F:=atQ) (an:=(noTwo (.two (noTwo (noTwo (noTwo (noTwo (noTwo (noTwo (noTwo (noTwo (noTwo (noTwo (noTwo (noTwo (noTwo (noTwo (.two (noTwo (.two (.two (.rb [] 123) .no) .no)) (noTwo (noTwo (noTwo (noTwo (noTwo (noTwo (noTwo (.two (noTwo (.two (noTwo (Nc.lp DN .no)) .no)) .no))))))))))))))))))))))) .no))) (l:=[(.skip,(.rb [] 123)),(bg f339 0,(Nc.lp DN .no))]) func339 (Ri (Tl (adF aR))) (ay ato (ay (aO Nc) aB)) h
abbrev sF:Type:=Span×Bool
def d307:Td 0 sF:= .c [] [4,5] (.r 0 1 (ec 4 (qp 0 0) (ec 5 qb en)) (sb 0 331 (lg 331) sn) (fun z=>(z.2.1,z.1.2.1)) (fun x=>(((),x.2,()),(x.1,()))))
def akv:=(lc (ql 131) (lc (qg 137) ln))
def am5(M:(List aS)->aq->Option sF):aK->aK:=eL wQ 307 wN akv d307 (fun g=>M g.1 g.2.1)
def acS(M:(List aS)->aq->Option sF):Prop:=HL wQ 307 akv d307 (fun g=>M g.1 g.2.1)
def Tt{M:(List aS)->aq->Option sF}(hM:acS M){F:aK}(h:bq wQ F):bq wQ (am5 M F):=gI (sc:=Cc) eW hM ⟨_,func307,by kernel_rfl,by kernel_rfl⟩ (fun _=>by kernel_rfl) (fun _=>by kernel_rfl) h
def akD(M307:(List aS)->aq->Option sF):aK:=(atf (am5 M307 dg))
def aet{M307}(h307:acS M307):bq wQ (akD M307):=(ac2 (Tt h307 aR))
structure tu where
 t0:List aS
 t6:List Span
 t13:List aq
 (t14 t15:Int)
 b0:aq
 b1:Span
def NR:Td 0 tu:= .c [] [0,3,4,6,13,14,15] (.t (cj.s 6 [] 331) (.c [] [0,3,4,6,13,14,15] (.r 0 3 (ec 0 (ql 131) (ec 3 (qp 0 0) (ec 4 (qp 1 0) (ec 6 (qo 2) (ec 13 (ql 137) (ec 14 aM (ec 15 aM en))))))) (sb 0 137 (lg 137) (sb 1 331 (lg 331) (sr 2 331 sn))) (fun z=>⟨z.1.1,z.2.2.2.1,z.1.2.2.2.2.1,z.1.2.2.2.2.2.1,z.1.2.2.2.2.2.2.1,z.2.1,z.2.2.1⟩) (fun x=>((x.t0,(),(),(),x.t13,x.t14,x.t15,()),(x.b0,x.b1,x.t6,()))))))
def Ep(M307:(List aS)->aq->Option sF)(p:tu):Option (Option tu):=
 bif wP (p.t15<p.t14)then if 0<=p.t15/\p.t15<p.t13.length then match M307 p.t0 (aq.mk p.t13[p.t15.toNat]!.bf p.t13[p.t15.toNat]!.fN p.t13[p.t15.toNat]!.ak)with|O=>O|V r1=>bif bif r1.snd then wN else wO then V (O)else if(p.t6++[r1.fst]).length<=1073741824 then V (V (tu.mk p.t0 (p.t6++[r1.fst]) p.t13 p.t14 (i64.wrap (p.t15+1)) (aq.mk p.b0.bf p.b0.fN p.b0.ak) p.b1))else O else O else V (O)
def HX(M307:(List aS)->aq->Option sF):tu->Option tu:=bI (Ep M307)
def aja(M307:(List aS)->aq->Option sF):An:=(noTwo (noTwo (.two (noTwo (NR.lp (HX M307) .no)) .no)))
def asw(M307:(List aS)->aq->Option sF):eG wQ (akD M307) 0 300 307 (aja M307):=bV (l:=[(bg f307 0,(NR.lp (HX M307) .no))]) func307 (bG (by kernel_rfl)) (by kernel_rfl) (ay (aO NR) aB)
def abS(M307:(List aS)->aq->Option sF)(a0:List aS)(a1:aq):Option sF:=
 match HX M307 (tu.mk a0 [] a1.ak a1.ak.length 0 (aq.mk a1.bf a1.fN a1.ak) (Span.mk 0 0))with|O=>O|V r2=>bif wP (r2.t15<r2.t14)then if 0<=r2.t15/\r2.t15<r2.t13.length then match M307 r2.t0 (aq.mk r2.t13[r2.t15.toNat]!.bf r2.t13[r2.t15.toNat]!.fN r2.t13[r2.t15.toNat]!.ak)with|O=>O|V r3=>bif bif r3.snd then wN else wO then V (Span.mk 0 0,wN)else if(r2.t6++[r3.fst]).length<=1073741824 then O else O else O else match aaT r2.t0 (aq.mk r2.b0.bf r2.b0.fN r2.b0.ak) r2.t6 with|O=>O|V r4=>bif wP (-1048576<=r4.af)then V ((r4,wP (r4.aa<=1048576)))else V (r4,wN)
def aAc(M307:(List aS)->aq->Option sF)(a0:List aS)(a1:aq):bU wQ (akD M307) 300 (aja M307) 307 (akv.c (a0,a1,())) [] 0 d307.rd=abS M307 a0 a1:=by kernel_rfl
def aic:Nat->((List aS)->aq->Option sF)
 |0=>(fun _ _=>O)
 |n+1=>(abS (aic n))
def OK(n:Nat):(List aS)->aq->Option sF:=(aic n)
def MK:∀n,acS (OK n)
 |0=>fun _ _ h=>(by cases h)
 |n+1=>by
  have ih:=MK n
  have i307:=ih
  exact(dG (aet i307) (asw (OK n)) (fun _=>by kernel_rfl) (fun _=>by kernel_rfl) fun g=>aAc (OK n) g.1 g.2.1)
def ad3:(List aS)->aq->Option sF:=fun a0 a1=>lim (fun n=>OK n a0 a1)
def abi:acS ad3:=fun g b h=>by
 obtain⟨n,hn⟩:=cT (show lim (fun n=>OK n g.1 g.2.1)=V b from h)
 exact(MK n) g b hn
def awF(F:aK):aK:=am5 ad3 F
def ahd{F:aK}(h:bq wQ F):bq wQ (awF F):=Tt abi h
abbrev auz:Type:=Int
def d267:Td 0 auz:= .c [] [6] (.r 0 0 (ec 6 aM en) sn (fun z=>z.1.1) (fun x=>((x,()),(()))))
def Pf(a0:List aS)(a1:aq)(a2:Bool):Option auz:=
 match adV a0 (aq.mk a1.bf a1.fN a1.ak) a2 with|O=>O|V r1=>bif bif r1 then wN else wO then V (1)else match ad3 a0 (aq.mk a1.bf a1.fN a1.ak)with|O=>O|V r2=>bif bif r2.snd then wN else wO then V (3)else V (0)
def ala:aK->aK:=eL wQ 267 wN (lc (ql 131) (lc (qg 137) (lc qb ln))) d267 (fun g=>Pf g.1 g.2.1 g.2.2.1)
def Ts:EO ala:=fun h=>kL (an:= .no) func267 (ahd (aeE aR)) aB h
def TK:EP ala:=fun h=>kP h
structure tB where
 t8:List dc
 (t9 t10:Int)
 b0:aP
def N3:Td 0 tB:= .c [] [1,8,9,10] (.r 0 1 (ec 1 (qp 0 0) (ec 8 (ql 139) (ec 9 aM (ec 10 aM en)))) (sb 0 26 (lg 26) sn) (fun z=>⟨z.1.2.1,z.1.2.2.1,z.1.2.2.2.1,z.2.1⟩) (fun x=>(((),x.t8,x.t9,x.t10,()),(x.b0,()))))
def AD(p:tB):Option (Option tB):=
 bif wP (p.t10<p.t9)then if 0<=p.t10/\p.t10<p.t8.length then match Ng p.t8[p.t10.toNat]!.fName with|O=>O|V r1=>bif bif r1 then wN else wO then V (O)else if 0<=p.t10/\p.t10<=p.b0.aj.length then match Zv (List.take p.t10.toNat p.b0.aj) (dc.mk p.t8[p.t10.toNat]!.fName p.t8[p.t10.toNat]!.af p.t8[p.t10.toNat]!.aa (aq.mk p.t8[p.t10.toNat]!.az.bf p.t8[p.t10.toNat]!.az.fN p.t8[p.t10.toNat]!.az.ak))with|O=>O|V r2=>bif r2 then V (O)else bif bif JM p.t8[p.t10.toNat]!.af p.t8[p.t10.toNat]!.aa then wN else wO then V (O)else match Pf p.b0.ah (aq.mk p.t8[p.t10.toNat]!.az.bf p.t8[p.t10.toNat]!.az.fN p.t8[p.t10.toNat]!.az.ak) wO with|O=>O|V r3=>bif bif wP (r3=0)then wN else wO then V (O)else V (V (tB.mk p.t8 p.t9 (i64.wrap (p.t10+1)) p.b0))else O else O else V (O)
def Hq:tB->Option tB:=bI (AD)
abbrev arv:Type:=Int
def d211:Td 0 arv:= .c [] [2] (.r 0 0 (ec 2 aM en) sn (fun z=>z.1.1) (fun x=>((x,()),(()))))
def aaW(a0:aP):Option arv:=
 match Hq (tB.mk a0.aj a0.aj.length 0 a0)with|O=>O|V r4=>bif wP (r4.t10<r4.t9)then if 0<=r4.t10/\r4.t10<r4.t8.length then match Ng r4.t8[r4.t10.toNat]!.fName with|O=>O|V r5=>bif bif r5 then wN else wO then V 7 else if 0<=r4.t10/\r4.t10<=r4.b0.aj.length then match Zv (List.take r4.t10.toNat r4.b0.aj) (dc.mk r4.t8[r4.t10.toNat]!.fName r4.t8[r4.t10.toNat]!.af r4.t8[r4.t10.toNat]!.aa (aq.mk r4.t8[r4.t10.toNat]!.az.bf r4.t8[r4.t10.toNat]!.az.fN r4.t8[r4.t10.toNat]!.az.ak))with|O=>O|V r6=>bif r6 then V 8 else bif bif JM r4.t8[r4.t10.toNat]!.af r4.t8[r4.t10.toNat]!.aa then wN else wO then V 3 else match Pf r4.b0.ah (aq.mk r4.t8[r4.t10.toNat]!.az.bf r4.t8[r4.t10.toNat]!.az.fN r4.t8[r4.t10.toNat]!.az.ak) wO with|O=>O|V r7=>bif bif wP (r7=0)then wN else wO then V (r7)else O else O else O else V 0
def aqA:aK->aK:=eL wQ 211 wN (lc (qg 26) ln) d211 (fun g=>aaW g.1)
def aeX:EO aqA:=fun h=>kL (an:=(noTwo (.two (noTwo (N3.lp Hq .no)) .no))) (l:=[(bg f211 0,(N3.lp Hq .no))]) func211 (Ts (agv (S9 (QX aR)))) (ay (aO N3) aB) h
def amJ:aK:=dg
abbrev aoD:Type:=Bool
def d308:Td 0 aoD:= .c [] [2] (.r 0 0 (ec 2 qb en) sn (fun z=>z.1.1) (fun x=>((x,()),(()))))
def ar4:=(aN ln)
def ais:An:=(noTwo (.two (.rb [] 2) .no))
def arb:∀f∈([]:List Nat),bh (amJ) f:=aB
def TX(a0:Int):aoD:=
 let r1:Bool:=bif wP (a0=0)then wO else wP (a0=5);r1
def azw(a0:Int):bU wQ (amJ) 300 (ais) 308 (ar4.c (a0,())) [] 0 d308.rd=V (TX a0):=by
 refine Eq.trans (b:=(
  match bif wP (a0=0)then V (wO)else V (wP (a0=5))with|O=>O|V r1=>V (r1):Option aoD)) (by kernel_rfl) ?_
 simp only[TX,cv,cF]
def amQ:aK->aK:=eL wQ 308 wN ar4 d308 (fun g=>V (TX g.1))
def abf:EO amQ:=fun h=>kL (F:=amJ) (an:=ais) (l:=[(.skip,(.rb [] 2))]) func308 aR (ay arb aB) h (c:=fun g=>azw g.1)
def nE:EP amQ:=fun h=>kP h
def aov:aK:=dg
abbrev akZ:Type:=Bool
def d309:Td 0 akZ:= .c [] [2] (.r 0 0 (ec 2 qb en) sn (fun z=>z.1.1) (fun x=>((x,()),(()))))
def aqr:=(aN ln)
def ajc:An:=(noTwo (.two (.rb [] 2) .no))
def auD:∀f∈([]:List Nat),bh (aov) f:=aB
def Zn(a0:Int):akZ:=
 let r1:Bool:=bif wP (a0=4)then wO else wP (a0=5);r1
def azL(a0:Int):bU wQ (aov) 300 (ajc) 309 (aqr.c (a0,())) [] 0 d309.rd=V (Zn a0):=by
 refine Eq.trans (b:=(
  match bif wP (a0=4)then V (wO)else V (wP (a0=5))with|O=>O|V r1=>V (r1):Option akZ)) (by kernel_rfl) ?_
 simp only[Zn,cv,cF]
def anT:aK->aK:=eL wQ 309 wN aqr d309 (fun g=>V (Zn g.1))
def afn:EO anT:=fun h=>kL (F:=aov) (an:=ajc) (l:=[(.skip,(.rb [] 2))]) func309 aR (ay auD aB) h (c:=fun g=>azL g.1)
def mV:EP anT:=fun h=>kP h
def alN:aK:=dg
abbrev alY:Type:=Bool
def d310:Td 0 alY:= .c [] [2] (.r 0 0 (ec 2 qb en) sn (fun z=>z.1.1) (fun x=>((x,()),(()))))
def atP:=(aN ln)
def ai0:An:=(noTwo (.two (.rb [] 2) .no))
def asd:∀f∈([]:List Nat),bh (alN) f:=aB
def YN(a0:Int):alY:=
 let r1:Bool:=bif wP (a0=0)then wO else bif wP (a0=1)then wO else bif wP (a0=3)then wO else wP (a0=4);r1
def axx(a0:Int):bU wQ (alN) 300 (ai0) 310 (atP.c (a0,())) [] 0 d310.rd=V (YN a0):=by
 refine Eq.trans (b:=(
  match bif wP (a0=0)then V (wO)else bif wP (a0=1)then V (wO)else bif wP (a0=3)then V (wO)else V (wP (a0=4))with|O=>O|V r1=>V (r1):Option alY)) (by kernel_rfl) ?_
 simp only[YN,cv,cF]
def akP:aK->aK:=eL wQ 310 wN atP d310 (fun g=>V (YN g.1))
def af6:EO akP:=fun h=>kL (F:=alN) (an:=ai0) (l:=[(.skip,(.rb [] 2))]) func310 aR (ay asd aB) h (c:=fun g=>axx g.1)
def nG:EP akP:=fun h=>kP h
def aoj:aK:=dg
abbrev aoq:Type:=Bool
def d311:Td 0 aoq:= .c [] [2] (.r 0 0 (ec 2 qb en) sn (fun z=>z.1.1) (fun x=>((x,()),(()))))
def asm:=(lc (qg 137) ln)
def ajh:An:=(noTwo (.two (.rb [] 2) .no))
def at6:∀f∈([]:List Nat),bh (aoj) f:=aB
def Up(a0:aq):aoq:=
 let r1:Bool:=bif wP (a0.bf=0)then bif wP (a0.fN=0)then wP ((↑a0.ak.length:Int)=0)else wN else wN;r1
def ayp(a0:aq):bU wQ (aoj) 300 (ajh) 311 (asm.c (a0,())) [] 0 d311.rd=V (Up a0):=by
 refine Eq.trans (b:=(
  match bif wP (a0.bf=0)then bif wP (a0.fN=0)then V (wP ((↑a0.ak.length:Int)=0))else V (wN)else V (wN)with|O=>O|V r1=>V (r1):Option aoq)) (by kernel_rfl) ?_
 simp only[Up,cv,cF]
def anw:aK->aK:=eL wQ 311 wN asm d311 (fun g=>V (Up g.1))
def aej:EO anw:=fun h=>kL (F:=aoj) (an:=ajh) (l:=[(.skip,(.rb [] 2))]) func311 aR (ay at6 aB) h (c:=fun g=>ayp g.1)
def nv:EP anw:=fun h=>kP h
structure qe where
 t0:List Int
 (t5 t6:Int)
def Oe:Td 0 qe:= .c [] [0,5,6] (.r 0 0 (ec 0 (ql 3) (ec 5 aM (ec 6 aM en))) sn (fun z=>⟨z.1.1,z.1.2.1,z.1.2.2.1⟩) (fun x=>((x.t0,x.t5,x.t6,()),(()))))
def J3(p:qe):Option (Option qe):=
 bif wP (p.t6<p.t5)then bif wP (0<p.t6)then if 0<=p.t6/\p.t6<p.t0.length then if 0<=i64.wrap (p.t6-1)/\i64.wrap (p.t6-1)<p.t0.length then bif wP (((p.t0,p.t5,p.t6,()),()).fst.fst[((p.t0,p.t5,p.t6,()),()).fst.snd.snd.fst.toNat]!<=((p.t0,p.t5,p.t6,()),()).fst.fst[(i64.wrap (((p.t0,p.t5,p.t6,()),()).fst.snd.snd.fst-1)).toNat]!)then V (O)else V (V (qe.mk p.t0 p.t5 (i64.wrap (p.t6+1))))else O else O else V (V (qe.mk p.t0 p.t5 (i64.wrap (p.t6+1))))else V (O)
def Jx:qe->Option qe:=bI (J3)
abbrev avA:Type:=Bool
def d312:Td 0 avA:= .c [] [2] (.r 0 0 (ec 2 qb en) sn (fun z=>z.1.1) (fun x=>((x,()),(()))))
def Ub(a0:List Int):Option avA:=
 match Jx (qe.mk a0 a0.length 0)with|O=>O|V r1=>bif wP (r1.t6<r1.t5)then bif wP (0<r1.t6)then if 0<=r1.t6/\r1.t6<r1.t0.length then if 0<=i64.wrap (r1.t6-1)/\i64.wrap (r1.t6-1)<r1.t0.length then bif wP (((r1.t0,r1.t5,r1.t6,()),()).fst.fst[((r1.t0,r1.t5,r1.t6,()),()).fst.snd.snd.fst.toNat]!<=((r1.t0,r1.t5,r1.t6,()),()).fst.fst[(i64.wrap (((r1.t0,r1.t5,r1.t6,()),()).fst.snd.snd.fst-1)).toNat]!)then V wN else O else O else O else O else V wO
def aly:aK->aK:=eL wQ 312 wN (lc (ql 3) ln) d312 (fun g=>Ub g.1)
def afW:EO aly:=fun h=>kL (an:=(noTwo (.two (noTwo (Oe.lp Jx .no)) .no))) (l:=[(bg f312 0,(Oe.lp Jx .no))]) func312 aR (ay (aO Oe) aB) h
def m9:EP aly:=fun h=>kP h
def ap3:aK:=(aly (anw (akP (anT (amQ dg)))))
abbrev avo:Type:=Bool
def d268:Td 0 avo:= .c [] [6] (.r 0 0 (ec 6 qb en) sn (fun z=>z.1.1) (fun x=>((x,()),(()))))
def tf:∀f∈([308,309,310,311,312]:List Nat),bh (ap3) f:=(ay (m9 (nv (nG (mV (nE bB))))) (ay (m9 (nv (nG (mV (nE bB))))) (ay (m9 (nv (nG (mV (nE bB))))) (ay (m9 (nv (nG (mV (nE bB))))) (ay (m9 (nv (nG (mV (nE bB))))) aB)))))
def O7(a0:aP)(a1:au)(a2:Bool):Option avo:=
 match bif wP (a1.bN<0)then V wO else V (wP (6<a1.bN))with|O=>O|V r1=>bif r1 then V wN else match bif bif TX a1.bN then wN else wO then V (bif wP (a1.cP=0)then wN else wO)else V wN with|O=>O|V r2=>bif r2 then V wN else match bif bif Zn a1.bN then wN else wO then V (bif wP (a1.fN=0)then wN else wO)else V wN with|O=>O|V r3=>bif r3 then V wN else match bif bif YN a1.bN then wN else wO then V (bif Up (aq.mk a1.az.bf a1.az.fN a1.az.ak)then wN else wO)else V wN with|O=>O|V r4=>bif r4 then V wN else match bif bif wP (a1.bN=3)then wN else wO then bif bif wP (a1.bN=4)then wN else wO then V (wP (0<(↑a1.aH.length:Int)))else V wN else V wN with|O=>O|V r5=>bif r5 then V wN else match bif bif wP (a1.bN=3)then wN else wO then V (wP (0<(↑a1.aL.length:Int)))else V wN with|O=>O|V r6=>bif r6 then V wN else match bif bif wP (a1.bN=6)then wN else wO then V (wP (0<(↑a1.aJ.length:Int)))else V wN with|O=>O|V r7=>bif r7 then V wN else match bif TX a1.bN then bif wP (a1.cP<0)then V wO else bif wP (a0.ah.length<=a1.cP)then V wO else if 0<=a1.cP/\a1.cP<a0.ah.length then V (bif wP (a0.ah[a1.cP.toNat]!.bk=0)then wN else wO)else O else V wN with|O=>O|V r8=>bif r8 then V wN else match bif wP (a1.bN=5)then bif wP (a1.fN<0)then V wO else V (wP (a0.aj.length<=a1.fN))else V wN with|O=>O|V r9=>bif r9 then V wN else match bif bif wP (a1.bN=6)then wN else wO then V wO else bif a2 then bif wP (0<(↑a1.aJ.length:Int))then bif wP ((↑a1.aJ.length:Int)<=32)then if(0:Int)<=(0:Int)/\(0:Int)<a1.aJ.length then bif wP (0<=a1.aJ[yC 0]!)then match Ub a1.aJ with|O=>O|V r10=>V (r10)else V wN else O else V wN else V wN else V wN with|O=>O|V r11=>V (r11)
def ajS:aK->aK:=eL wQ 268 wN (lc (qg 26) (lc (qg 166) (lc qb ln))) d268 (fun g=>O7 g.1 g.2.1 g.2.2.1)
def aaB:EO ajS:=fun h=>kL (F:=ap3) (an:=(noTwo (noTwo (.two (.two (.two (.rb [308,309,310,311,312] 10) (noTwo (.two (.rb [308,309,310,311,312] 10) (noTwo (.two (.rb [308,309,310,311,312] 10) (noTwo (.two (.rb [308,309,310,311,312] 10) (noTwo (.two (.rb [308,309,310,311,312] 10) (noTwo (.two (.rb [308,309,310,311,312] 10) (noTwo (.two (.rb [308,309,310,311,312] 10) (noTwo (.two (.rb [308,309,310,311,312] 10) (noTwo (.rb [308,309,310,311,312] 10))))))))))))))))) .no) (.two (.rb [308,309,310,311,312] 6) .no))))) (l:=[(.skip,(.rb [308,309,310,311,312] 10)),(.skip,(.rb [308,309,310,311,312] 10)),(.skip,(.rb [308,309,310,311,312] 10)),(.skip,(.rb [308,309,310,311,312] 10)),(.skip,(.rb [308,309,310,311,312] 10)),(.skip,(.rb [308,309,310,311,312] 10)),(.skip,(.rb [308,309,310,311,312] 10)),(.skip,(.rb [308,309,310,311,312] 10)),(.skip,(.rb [308,309,310,311,312] 10)),(.skip,(.rb [308,309,310,311,312] 6))]) func268 (afW (aej (af6 (afn (abf aR))))) (ay tf (ay tf (ay tf (ay tf (ay tf (ay tf (ay tf (ay tf (ay tf (ay tf aB)))))))))) h
def UQ:EP ajS:=fun h=>kP h
def arx:aK:=dg
abbrev aue:Type:=Bool
def d269:Td 0 aue:= .c [] [2] (.r 0 0 (ec 2 qb en) sn (fun z=>z.1.1) (fun x=>((x,()),(()))))
def ah7:∀f∈([]:List Nat),bh (arx) f:=aB
def O5(a0:au):Option aue:=
 bif wP (a0.bN=2)then match bif wP (a0.aQ<0)then V wO else bif wP (67108864<a0.aQ)then V wO else bif wP (a0.bN=4)then bif wP (a0.fN<0)then V wO else V (wP (4096<a0.fN))else V wN with|O=>O|V r1=>bif r1 then V wN else match bif bif wP (a0.bN=6)then wN else wO then V wO else if 0<=i64.wrap ((↑a0.aJ.length:Int)-(1:Int))/\i64.wrap ((↑a0.aJ.length:Int)-(1:Int))<a0.aJ.length then V (wP (a0.aJ[(i64.wrap ((↑a0.aJ.length:Int)-1)).toNat]!<=67108864))else O with|O=>O|V r2=>V (r2)else match bif wP (a0.aQ<0)then V wO else bif wP (10000<a0.aQ)then V wO else bif wP (a0.bN=4)then bif wP (a0.fN<0)then V wO else V (wP (4096<a0.fN))else V wN with|O=>O|V r3=>bif r3 then V wN else match bif bif wP (a0.bN=6)then wN else wO then V wO else if 0<=i64.wrap ((↑a0.aJ.length:Int)-(1:Int))/\i64.wrap ((↑a0.aJ.length:Int)-(1:Int))<a0.aJ.length then V (wP (a0.aJ[(i64.wrap ((↑a0.aJ.length:Int)-1)).toNat]!<=67108864))else O with|O=>O|V r4=>V (r4)
def ajQ:aK->aK:=eL wQ 269 wN (lc (qg 166) ln) d269 (fun g=>O5 g.1)
def acM:EO ajQ:=fun h=>kL (F:=arx) (an:=(noTwo (noTwo (noTwo (.two (.two (.rb [] 30) .no) (.two (.rb [] 2) .no)))))) (l:=[(.skip,(.rb [] 30)),(.skip,(.rb [] 2))]) func269 aR (ay ah7 (ay ah7 aB)) h
def Uw:EP ajQ:=fun h=>kP h
abbrev l5:Type:=Int
def d212:Td 0 l5:= .c [] [6] (.r 0 0 (ec 6 aM en) sn (fun z=>z.1.1) (fun x=>((x,()),(()))))
def aou:=(lc (qg 26) (lc (ql 166) (lc qb ln)))
def aeZ(M:aP->(List au)->Bool->Option l5):aK->aK:=eL wQ 212 wN aou d212 (fun g=>M g.1 g.2.1 g.2.2.1)
def TU{M:aP->(List au)->Bool->Option l5}{F:aK}{f:Nat}(h:bh F f):bh (aeZ M F) f:=gP h (fun _=>by kernel_rfl)
def adu(M:aP->(List au)->Bool->Option l5):Prop:=HL wQ 212 aou d212 (fun g=>M g.1 g.2.1 g.2.2.1)
def Sl{M:aP->(List au)->Bool->Option l5}(hM:adu M){F:aK}(h:bq wQ F):bq wQ (aeZ M F):=gI (sc:=Cc) eW hM ⟨_,func212,by kernel_rfl,by kernel_rfl⟩ (fun _=>by kernel_rfl) (fun _=>by kernel_rfl) h
def ahk(M212:aP->(List au)->Bool->Option l5):aK:=(ajQ (ajS (ala (aeZ M212 dg))))
def acQ{M212}(h212:adu M212):bq wQ (ahk M212):=(acM (aaB (Ts (Sl h212 aR))))
structure qd where
 t1:List au
 t2:Bool
 t13:List au
 (t14 t15:Int)
 t47:List (List au)
 (t48 t49:Int)
 b0:aP
def OZ:Td 0 qd:= .c [] [1,2,3,13,14,15,47,48,49] (.r 0 2 (ec 1 (ql 166) (ec 2 qb (ec 3 (qp 0 0) (ec 13 (ql 166) (ec 14 aM (ec 15 aM (ec 47 (qo 1) (ec 48 aM (ec 49 aM en))))))))) (sb 0 26 (lg 26) (sr 1 24 sn)) (fun z=>⟨z.1.1,z.1.2.1,z.1.2.2.2.1,z.1.2.2.2.2.1,z.1.2.2.2.2.2.1,z.2.2.1,z.1.2.2.2.2.2.2.2.1,z.1.2.2.2.2.2.2.2.2.1,z.2.1⟩) (fun x=>((x.t1,x.t2,(),x.t13,x.t14,x.t15,(),x.t48,x.t49,()),(x.b0,x.t47,()))))
def uD(M212:aP->(List au)->Bool->Option l5)(p:qd):Option (Option qd):=
 bif wP (p.t49<p.t48)then if 0<=p.t49/\p.t49<p.t47.length then if 24=24/\p.t49.toNat<p.t47.length then match M212 p.b0 p.t47[p.t49.toNat]! wN with|O=>O|V r8=>bif bif wP (r8=0)then wN else wO then V (O)else V (V (qd.mk p.t1 p.t2 p.t13 p.t14 p.t15 p.t47 p.t48 (i64.wrap (p.t49+1)) p.b0))else O else O else V (O)
def AT(M212:aP->(List au)->Bool->Option l5):qd->Option qd:=bI (uD M212)
structure tI where
 t1:List au
 t2:Bool
 t13:List au
 (t14 t15:Int)
 b0:aP
def PA:Td 0 tI:= .c [] [1,2,3,13,14,15] (.r 0 1 (ec 1 (ql 166) (ec 2 qb (ec 3 (qp 0 0) (ec 13 (ql 166) (ec 14 aM (ec 15 aM en)))))) (sb 0 26 (lg 26) sn) (fun z=>⟨z.1.1,z.1.2.1,z.1.2.2.2.1,z.1.2.2.2.2.1,z.1.2.2.2.2.2.1,z.2.1⟩) (fun x=>((x.t1,x.t2,(),x.t13,x.t14,x.t15,()),(x.b0,()))))
def AL(M212:aP->(List au)->Bool->Option l5)(p:tI):Option (Option tI):=
 bif wP (p.t15<p.t14)then if 0<=p.t15/\p.t15<p.t13.length then match bif p.t2 then match O7 p.b0 (au.mk p.t13[p.t15.toNat]!.bN p.t13[p.t15.toNat]!.aQ p.t13[p.t15.toNat]!.cP p.t13[p.t15.toNat]!.fN (aq.mk p.t13[p.t15.toNat]!.az.bf p.t13[p.t15.toNat]!.az.fN p.t13[p.t15.toNat]!.az.ak) p.t13[p.t15.toNat]!.aH p.t13[p.t15.toNat]!.aL p.t13[p.t15.toNat]!.aJ) (wP (((p.t1,p.t2,(),p.t13,p.t14,p.t15,()),p.b0,()).fst.snd.snd.snd.snd.snd.fst=i64.wrap ((↑((p.t1,p.t2,(),p.t13,p.t14,p.t15,()),p.b0,()).fst.fst.length:Int)-1)))with|O=>O|V r1=>V (bif r1 then wN else wO)else match O7 p.b0 (au.mk p.t13[p.t15.toNat]!.bN p.t13[p.t15.toNat]!.aQ p.t13[p.t15.toNat]!.cP p.t13[p.t15.toNat]!.fN (aq.mk p.t13[p.t15.toNat]!.az.bf p.t13[p.t15.toNat]!.az.fN p.t13[p.t15.toNat]!.az.ak) p.t13[p.t15.toNat]!.aH p.t13[p.t15.toNat]!.aL p.t13[p.t15.toNat]!.aJ) wN with|O=>O|V r2=>V (bif r2 then wN else wO)with|O=>O|V r3=>bif r3 then V (O)else match O5 (au.mk p.t13[p.t15.toNat]!.bN p.t13[p.t15.toNat]!.aQ p.t13[p.t15.toNat]!.cP p.t13[p.t15.toNat]!.fN (aq.mk p.t13[p.t15.toNat]!.az.bf p.t13[p.t15.toNat]!.az.fN p.t13[p.t15.toNat]!.az.ak) p.t13[p.t15.toNat]!.aH p.t13[p.t15.toNat]!.aL p.t13[p.t15.toNat]!.aJ)with|O=>O|V r4=>bif bif r4 then wN else wO then V (O)else match Pf p.b0.ah (aq.mk p.t13[p.t15.toNat]!.az.bf p.t13[p.t15.toNat]!.az.fN p.t13[p.t15.toNat]!.az.ak) wN with|O=>O|V r5=>bif bif wP (r5=0)then wN else wO then V (O)else match AT M212 (qd.mk p.t1 p.t2 p.t13 p.t14 p.t15 [p.t13[p.t15.toNat]!.aH,p.t13[p.t15.toNat]!.aL] (↑[p.t13[p.t15.toNat]!.aH,p.t13[p.t15.toNat]!.aL].length:Int) 0 p.b0)with|O=>O|V r6=>bif wP (r6.t49<r6.t48)then if 0<=r6.t49/\r6.t49<r6.t47.length then if 24=24/\r6.t49.toNat<r6.t47.length then match M212 r6.b0 r6.t47[r6.t49.toNat]! wN with|O=>O|V r7=>bif bif wP (r7=0)then wN else wO then V (O)else O else O else O else V (V (tI.mk r6.t1 r6.t2 r6.t13 r6.t14 (i64.wrap (r6.t15+1)) r6.b0))else O else V (O)
def XC(M212:aP->(List au)->Bool->Option l5):An:=(noTwo (noTwo (.two (noTwo (.two (.two (.rb [268] 31) .no) (noTwo (noTwo (noTwo (OZ.lp (AT M212) .no)))))) .no)))
def HA(M212:aP->(List au)->Bool->Option l5):tI->Option tI:=bI (AL M212)
def ai5(M212:aP->(List au)->Bool->Option l5):An:=(noTwo (.two (noTwo (PA.lp (HA M212) (XC M212))) .no))
def auI{M212}:∀f∈([268]:List Nat),bh (ahk M212) f:=(ay (Uw (UQ (TK (TU bB)))) aB)
def avK(M212:aP->(List au)->Bool->Option l5):eG wQ (ahk M212) 0 300 212 (ai5 M212):=bV (l:=[(bg f212 0,(PA.lp (HA M212) (XC M212))),(.skip,(.rb [268] 31)),(bg f212 1,(OZ.lp (AT M212) .no))]) func212 (bG (by kernel_rfl)) (by kernel_rfl) (ay (aO PA) (ay auI (ay (aO OZ) aB)))
def acm(M212:aP->(List au)->Bool->Option l5)(a0:aP)(a1:List au)(a2:Bool):Option l5:=
 match HA M212 (tI.mk a1 a2 a1 a1.length 0 a0)with|O=>O|V r9=>bif wP (r9.t15<r9.t14)then if 0<=r9.t15/\r9.t15<r9.t13.length then match bif r9.t2 then match O7 r9.b0 (au.mk r9.t13[r9.t15.toNat]!.bN r9.t13[r9.t15.toNat]!.aQ r9.t13[r9.t15.toNat]!.cP r9.t13[r9.t15.toNat]!.fN (aq.mk r9.t13[r9.t15.toNat]!.az.bf r9.t13[r9.t15.toNat]!.az.fN r9.t13[r9.t15.toNat]!.az.ak) r9.t13[r9.t15.toNat]!.aH r9.t13[r9.t15.toNat]!.aL r9.t13[r9.t15.toNat]!.aJ) (wP (((r9.t1,r9.t2,(),r9.t13,r9.t14,r9.t15,()),r9.b0,()).fst.snd.snd.snd.snd.snd.fst=i64.wrap ((↑((r9.t1,r9.t2,(),r9.t13,r9.t14,r9.t15,()),r9.b0,()).fst.fst.length:Int)-1)))with|O=>O|V r10=>V (bif r10 then wN else wO)else match O7 r9.b0 (au.mk r9.t13[r9.t15.toNat]!.bN r9.t13[r9.t15.toNat]!.aQ r9.t13[r9.t15.toNat]!.cP r9.t13[r9.t15.toNat]!.fN (aq.mk r9.t13[r9.t15.toNat]!.az.bf r9.t13[r9.t15.toNat]!.az.fN r9.t13[r9.t15.toNat]!.az.ak) r9.t13[r9.t15.toNat]!.aH r9.t13[r9.t15.toNat]!.aL r9.t13[r9.t15.toNat]!.aJ) wN with|O=>O|V r11=>V (bif r11 then wN else wO)with|O=>O|V r12=>bif r12 then V 1 else match O5 (au.mk r9.t13[r9.t15.toNat]!.bN r9.t13[r9.t15.toNat]!.aQ r9.t13[r9.t15.toNat]!.cP r9.t13[r9.t15.toNat]!.fN (aq.mk r9.t13[r9.t15.toNat]!.az.bf r9.t13[r9.t15.toNat]!.az.fN r9.t13[r9.t15.toNat]!.az.ak) r9.t13[r9.t15.toNat]!.aH r9.t13[r9.t15.toNat]!.aL r9.t13[r9.t15.toNat]!.aJ)with|O=>O|V r13=>bif bif r13 then wN else wO then V 3 else match Pf r9.b0.ah (aq.mk r9.t13[r9.t15.toNat]!.az.bf r9.t13[r9.t15.toNat]!.az.fN r9.t13[r9.t15.toNat]!.az.ak) wN with|O=>O|V r14=>bif bif wP (r14=0)then wN else wO then V (r14)else match AT M212 (qd.mk r9.t1 r9.t2 r9.t13 r9.t14 r9.t15 [r9.t13[r9.t15.toNat]!.aH,r9.t13[r9.t15.toNat]!.aL] (↑[r9.t13[r9.t15.toNat]!.aH,r9.t13[r9.t15.toNat]!.aL].length:Int) 0 r9.b0)with|O=>O|V r15=>bif wP (r15.t49<r15.t48)then if 0<=r15.t49/\r15.t49<r15.t47.length then if 24=24/\r15.t49.toNat<r15.t47.length then match M212 r15.b0 r15.t47[r15.t49.toNat]! wN with|O=>O|V r16=>bif bif wP (r16=0)then wN else wO then V (r16)else O else O else O else O else O else V 0
def awL(M212:aP->(List au)->Bool->Option l5)(a0:aP)(a1:List au)(a2:Bool):bU wQ (ahk M212) 300 (ai5 M212) 212 (aou.c (a0,a1,a2,())) [] 0 d212.rd=acm M212 a0 a1 a2:=by kernel_rfl
def ajP:Nat->(aP->(List au)->Bool->Option l5)
 |0=>(fun _ _ _=>O)
 |n+1=>(acm (ajP n))
def M0(n:Nat):aP->(List au)->Bool->Option l5:=(ajP n)
def LP:∀n,adu (M0 n)
 |0=>fun _ _ h=>(by cases h)
 |n+1=>by
  have ih:=LP n
  have i212:=ih
  exact(dG (acQ i212) (avK (M0 n)) (fun _=>by kernel_rfl) (fun _=>by kernel_rfl) fun g=>awL (M0 n) g.1 g.2.1 g.2.2.1)
def abd:aP->(List au)->Bool->Option l5:=fun a0 a1 a2=>lim (fun n=>M0 n a0 a1 a2)
def aft:adu abd:=fun g b h=>by
 obtain⟨n,hn⟩:=cT (show lim (fun n=>M0 n g.1 g.2.1 g.2.2.1)=V b from h)
 exact(LP n) g b hn
def auP(F:aK):aK:=aeZ abd F
def ade{F:aK}(h:bq wQ F):bq wQ (auP F):=Sl aft h
abbrev sL:Type:=qC
def d213:Td 0 sL:= .c [] [2] (.r 0 1 (ec 2 (qp 0 0) en) (sb 0 260 (lg 260) sn) (fun z=>z.2.1) (fun x=>(((),()),(x,()))))
def amp:=(lc (ql 166) ln)
def al7(M:(List au)->Option sL):aK->aK:=eL wQ 213 wN amp d213 (fun g=>M g.1)
def abW(M:(List au)->Option sL):Prop:=HL wQ 213 amp d213 (fun g=>M g.1)
def SB{M:(List au)->Option sL}(hM:abW M){F:aK}(h:bq wQ F):bq wQ (al7 M F):=gI (sc:=Cc) eW hM ⟨_,func213,by kernel_rfl,by kernel_rfl⟩ (fun _=>by kernel_rfl) (fun _=>by kernel_rfl) h
def akk(M213:(List au)->Option sL):aK:=(al7 M213 dg)
def acV{M213}(h213:abW M213):bq wQ (akk M213):=(SB h213 aR)
structure mH where
 t9:List au
 (t10 t11:Int)
 (b0 b1:qC)
def MR:Td 0 mH:= .c [] [2,3,9,10,11] (.r 0 2 (ec 2 (qp 0 0) (ec 3 (qp 1 0) (ec 9 (ql 166) (ec 10 aM (ec 11 aM en))))) (sb 0 260 (lg 260) (sb 1 260 (lg 260) sn)) (fun z=>⟨z.1.2.2.1,z.1.2.2.2.1,z.1.2.2.2.2.1,z.2.1,z.2.2.1⟩) (fun x=>(((),(),x.t9,x.t10,x.t11,()),(x.b0,x.b1,()))))
def Jk(M213:(List au)->Option sL)(p:mH):Option (Option mH):=
 bif wP (p.t11<p.t10)then if 0<=p.t11/\p.t11<p.t9.length then match M213 p.t9[p.t11.toNat]!.aH with|O=>O|V r1=>match M213 p.t9[p.t11.toNat]!.aL with|O=>O|V r2=>bif wP (p.t9[p.t11.toNat]!.bN=1)then V (V (mH.mk p.t9 p.t10 (i64.wrap (p.t11+1)) p.b0 (qC.mk (if 1099511627776<i64.wrap (p.b1.fY+1)then 1099511627776 else i64.wrap (p.b1.fY+1)) (if 1099511627776<i64.wrap (p.b1.aZ+1)then 1099511627776 else i64.wrap (p.b1.aZ+1)) (if 1099511627776<i64.wrap (p.b1.aD+p.t9[p.t11.toNat]!.aQ)then 1099511627776 else i64.wrap (p.b1.aD+p.t9[p.t11.toNat]!.aQ)))))else bif wP (p.t9[p.t11.toNat]!.bN=3)then V (V (mH.mk p.t9 p.t10 (i64.wrap (p.t11+1)) p.b0 (qC.mk (if 1099511627776<i64.wrap (p.b1.fY+i64.wrap (1+if r1.fY<r2.fY then r2.fY else r1.fY))then 1099511627776 else i64.wrap (p.b1.fY+i64.wrap (1+if r1.fY<r2.fY then r2.fY else r1.fY))) (if 1099511627776<i64.wrap (p.b1.aZ+if r1.aZ<r2.aZ then r2.aZ else r1.aZ)then 1099511627776 else i64.wrap (p.b1.aZ+if r1.aZ<r2.aZ then r2.aZ else r1.aZ)) (if 1099511627776<i64.wrap (p.b1.aD+i64.wrap (p.t9[p.t11.toNat]!.aQ+if r1.aD<r2.aD then r2.aD else r1.aD))then 1099511627776 else i64.wrap (p.b1.aD+i64.wrap (p.t9[p.t11.toNat]!.aQ+if r1.aD<r2.aD then r2.aD else r1.aD))))))else bif wP (p.t9[p.t11.toNat]!.bN=4)then V (V (mH.mk p.t9 p.t10 (i64.wrap (p.t11+1)) p.b0 (qC.mk (if 1099511627776<i64.wrap (p.b1.fY+i64.wrap (1+i64.wrap (p.t9[p.t11.toNat]!.fN*i64.wrap (1+r1.fY))))then 1099511627776 else i64.wrap (p.b1.fY+i64.wrap (1+i64.wrap (p.t9[p.t11.toNat]!.fN*i64.wrap (1+r1.fY))))) (if 1099511627776<i64.wrap (p.b1.aZ+i64.wrap (p.t9[p.t11.toNat]!.fN*r1.aZ))then 1099511627776 else i64.wrap (p.b1.aZ+i64.wrap (p.t9[p.t11.toNat]!.fN*r1.aZ))) (if 1099511627776<i64.wrap (p.b1.aD+i64.wrap (p.t9[p.t11.toNat]!.fN*i64.wrap (p.t9[p.t11.toNat]!.aQ+r1.aD)))then 1099511627776 else i64.wrap (p.b1.aD+i64.wrap (p.t9[p.t11.toNat]!.fN*i64.wrap (p.t9[p.t11.toNat]!.aQ+r1.aD)))))))else V (V (mH.mk p.t9 p.t10 (i64.wrap (p.t11+1)) p.b0 (qC.mk (if 1099511627776<i64.wrap (p.b1.fY+1)then 1099511627776 else i64.wrap (p.b1.fY+1)) (if 1099511627776<i64.wrap (p.b1.aZ+0)then 1099511627776 else i64.wrap (p.b1.aZ+0)) (if 1099511627776<i64.wrap (p.b1.aD+p.t9[p.t11.toNat]!.aQ)then 1099511627776 else i64.wrap (p.b1.aD+p.t9[p.t11.toNat]!.aQ)))))else O else V (O)
def IE(M213:(List au)->Option sL):mH->Option mH:=bI (Jk M213)
def aih(M213:(List au)->Option sL):An:=(noTwo (noTwo (.two (noTwo (MR.lp (IE M213) .no)) .no)))
def aqg(M213:(List au)->Option sL):eG wQ (akk M213) 0 300 213 (aih M213):=bV (l:=[(bg f213 0,(MR.lp (IE M213) .no))]) func213 (bG (by kernel_rfl)) (by kernel_rfl) (ay (aO MR) aB)
def af2(M213:(List au)->Option sL)(a0:List au):Option sL:=
 match IE M213 (mH.mk a0 a0.length 0 (qC.mk 0 0 0) (qC.mk 0 0 0))with|O=>O|V r3=>bif wP (r3.t11<r3.t10)then if 0<=r3.t11/\r3.t11<r3.t9.length then match M213 r3.t9[r3.t11.toNat]!.aH with|O=>O|V r4=>match M213 r3.t9[r3.t11.toNat]!.aL with|O=>O|V r5=>bif wP (r3.t9[r3.t11.toNat]!.bN=1)then O else bif wP (r3.t9[r3.t11.toNat]!.bN=3)then O else bif wP (r3.t9[r3.t11.toNat]!.bN=4)then O else O else O else V (r3.b1)
def azA(M213:(List au)->Option sL)(a0:List au):bU wQ (akk M213) 300 (aih M213) 213 (amp.c (a0,())) [] 0 d213.rd=af2 M213 a0:=by kernel_rfl
def ahB:Nat->((List au)->Option sL)
 |0=>(fun _=>O)
 |n+1=>(af2 (ahB n))
def PC(n:Nat):(List au)->Option sL:=(ahB n)
def LW:∀n,abW (PC n)
 |0=>fun _ _ h=>(by cases h)
 |n+1=>by
  have ih:=LW n
  have i213:=ih
  exact(dG (acV i213) (aqg (PC n)) (fun _=>by kernel_rfl) (fun _=>by kernel_rfl) fun g=>azA (PC n) g.1)
def ZJ:(List au)->Option sL:=fun a0=>lim (fun n=>PC n a0)
def adp:abW ZJ:=fun g b h=>by
 obtain⟨n,hn⟩:=cT (show lim (fun n=>PC n g.1)=V b from h)
 exact(LW n) g b hn
def aqb(F:aK):aK:=al7 ZJ F
def ahv{F:aK}(h:bq wQ F):bq wQ (aqb F):=SB adp h
def apO:aK:=(aqb (auP (aqA (atq (aoQ (aaP (aqI dg)))))))
structure p7 where
 t14:List dc
 (t15 t16:Int)
 b0:aP
 b1:aU
def MX:Td 0 p7:= .c [] [1,3,14,15,16] (.r 0 2 (ec 1 (qp 0 0) (ec 3 (qp 1 0) (ec 14 (ql 139) (ec 15 aM (ec 16 aM en))))) (sb 0 26 (lg 26) (sb 1 256 (lg 256) sn)) (fun z=>⟨z.1.2.2.1,z.1.2.2.2.1,z.1.2.2.2.2.1,z.2.1,z.2.2.1⟩) (fun x=>(((),(),x.t14,x.t15,x.t16,()),(x.b0,x.b1,()))))
def E5(p:p7):Option (Option p7):=
 bif wP (p.t16<p.t15)then if 0<=p.t16/\p.t16<p.t14.length then bif bif(jA p.b1).fst then wN else wO then match FD (aq.mk p.t14[p.t16.toNat]!.az.bf p.t14[p.t16.toNat]!.az.fN p.t14[p.t16.toNat]!.az.ak) 1 (jA p.b1).snd with|O=>O|V r1=>V (V (p7.mk p.t14 p.t15 (i64.wrap (p.t16+1)) p.b0 r1))else V (V (p7.mk p.t14 p.t15 (i64.wrap (p.t16+1)) p.b0 (jA p.b1).snd))else O else V (O)
def DX:p7->Option p7:=bI (E5)
abbrev avx:Type:=Int
def d136:Td 0 avx:= .c [] [2] (.r 0 0 (ec 2 aM en) sn (fun z=>z.1.1) (fun x=>((x,()),(()))))
def aqh:∀f∈([]:List Nat),bh (apO) f:=aB
def aey(a0:aP):Option avx:=
 match Wp a0.bJ 1 (aU.mk 0 wN)with|O=>O|V r2=>match DX (p7.mk a0.aj a0.aj.length 0 a0 r2)with|O=>O|V r3=>bif wP (r3.t16<r3.t15)then if 0<=r3.t16/\r3.t16<r3.t14.length then bif bif(jA r3.b1).fst then wN else wO then match FD (aq.mk r3.t14[r3.t16.toNat]!.az.bf r3.t14[r3.t16.toNat]!.az.fN r3.t14[r3.t16.toNat]!.az.ak) 1 (jA r3.b1).snd with|O=>O|V r4=>O else O else O else bif wP (64<(↑r3.b0.ah.length:Int))then V 4 else bif wP (8<(↑r3.b0.aj.length:Int))then V 4 else bif(jA r3.b1).fst then V 4 else match abb r3.b0.ah with|O=>O|V r5=>bif bif wP (r5=0)then wN else wO then V (r5)else match aaW r3.b0 with|O=>O|V r6=>bif bif wP (r6=0)then wN else wO then V (r6)else match abd r3.b0 r3.b0.bJ wO with|O=>O|V r7=>bif bif wP (r7=0)then wN else wO then V (r7)else match ZJ r3.b0.bJ with|O=>O|V r8=>match bif wP (4096<r8.fY)then V wO else bif wP (8<r8.aZ)then V wO else V (wP (67108864<r8.aD))with|O=>O|V r9=>bif r9 then V 4 else V 0
def akh:aK->aK:=eL wQ 136 wN (lc (qg 26) ln) d136 (fun g=>aey g.1)
def aem:EO akh:=fun h=>kL (F:=apO) (an:=(noTwo (noTwo (noTwo (.two (noTwo (MX.lp DX .no)) (noTwo (noTwo (noTwo (noTwo (.two (noTwo (.two (.rb [] 72) .no)) .no)))))))))) (l:=[(bg f136 0,(MX.lp DX .no)),(.skip,(.rb [] 72))]) func136 (ahv (ade (aeX (abU (SZ (Ja (ach aR))))))) (ay (aO MX) (ay aqh aB)) h
def Gp:EP akh:=fun h=>kP h
def XR(l:List UInt8):(ByteArray.mk (Array.mk l)).toList=l:=by
 have key:∀(k i:Nat) (acc:List UInt8),i+k=l.length->ByteArray.toList.loop (ByteArray.mk (Array.mk l)) i acc=acc.reverse++l.drop i:=by
  intro k
  induction k with
  |zero=>
   intro i acc h
   rw[ByteArray.toList.loop]
   have hs:(ByteArray.mk (Array.mk l)).size=l.length:=rfl
   rw[bF (by rw[hs];omega)]
   rw[xo (by omega),yj]
  |succ k ih=>
   intro i acc h
   rw[ByteArray.toList.loop]
   have hs:(ByteArray.mk (Array.mk l)).size=l.length:=rfl
   rw[bw (by rw[hs];omega),ih (i+1) _ (by omega)]
   have hi:i<l.length:=by omega
   rw[xR hi]
   have:(ByteArray.mk (Array.mk l)).get! i=l[i]:=by
    show (Array.mk l)[i]! =_
    rw[getElem!_pos (Array.mk l) i hi]
    rfl
   rw[this]
   simp
 have:=key l.length 0 [] (by omega)
 simpa [ByteArray.toList]using this
def an8(s:ByteArray):(s.toList==(ByteArray.mk (Array.mk [])).toList)=wP (s.size=0):=by
 obtain⟨⟨l⟩⟩:=s
 rw[XR,XR]
 have hs:(ByteArray.mk (Array.mk l)).size=l.length:=rfl
 rw[hs]
 cases l with
 |nil=>rfl
 |cons a l=>simp
def sq{n i:Nat}(h:i<n):(zH n)[i]! =i:=by rw[getElem!_pos _ i (by simpa using h)];simp
def CR(s:ByteArray):Ng s=V (je s):=by
 unfold Ng
 rw[an8]
 by_cases h0:s.size=0
 ·simp[h0,je]
 by_cases h1:40<(s.size:Int)
 ·have h1':¬s.size<=40:=by omega
  simp[h0,h1,h1',je]
 rw[bO h0,bO h1]
 dsimp only[bA]
 obtain⟨i,e1,hc⟩:=oI (cO:=JK) (zH s.size) (fun i=>⟨s,(s.size:Int),(i:Int)⟩) (fun i j=>okc j (cl s j)) (fun i hi=>by
  rw[xb]at hi
  have hw:=gF hi (by omega)
  rw[sq hi]
  unfold JK okc
  dsimp only
  simp only[ze,za]
  grind) (by unfold JK;simp)
 have e1':HG ⟨s,(s.size:Int),0⟩=V ⟨s,(s.size:Int),(i:Int)⟩:=e1
 rw[e1']
 have h2:je s=(zH s.size).all fun i=>okc i (cl s i):=by
  unfold je
  rw[sw,sw]
  simp
 rw[h2]
 dsimp only
 rcases hc with ⟨rfl,hc⟩|⟨hi,hc⟩
 ·rw[DM hc]
  simp
 ·rw[wY hi hc]
  rw[xb]at hi
  rw[sq hi]at hc
  unfold okc at hc
  simp only[ze,za]
  grind
def CB(s:ByteArray):N9 s=V (je s):=by
 unfold N9
 by_cases h0:s.size<1
 ·have h0':¬1<=s.size:=by omega
  have h0'':(s.size:Int)<1:=by omega
  simp[h0'',h0',je]
 by_cases h1:40<(s.size:Int)
 ·have h1':¬s.size<=40:=by omega
  have h0'':¬(s.size:Int)<1:=by omega
  simp[h0'',h1,h1',je]
 rw[bO (show ¬(s.size:Int)<1 by omega),bO h1]
 dsimp only[bA]
 obtain⟨i,e1,hc⟩:=oI (cO:=JD) (zH s.size) (fun i=>⟨s,(i:Int)⟩) (fun i j=>okc j (cl s j)) (fun i hi=>by
  rw[xb]at hi
  have hw:=gF hi (by omega)
  rw[sq hi]
  unfold JD okc
  dsimp only
  simp only[ze,za]
  grind) (by unfold JD;simp)
 have e1':I4 ⟨s,0⟩=V ⟨s,(i:Int)⟩:=e1
 rw[e1']
 have h2:je s=(zH s.size).all fun i=>okc i (cl s i):=by
  unfold je
  rw[sw,sw]
  simp
 rw[h2]
 dsimp only
 rcases hc with ⟨rfl,hc⟩|⟨hi,hc⟩
 ·rw[DM hc]
  simp
 ·rw[wY hi hc]
  rw[xb]at hi
  rw[sq hi]at hc
  unfold okc at hc
  simp only[ze,za]
  grind
def Ck(a b:Int):JM a b=gM a b:=by
 unfold JM gM
 simp only[ze]
 grind
def CA(a b:Int):IG a b=gM a b:=by
 unfold IG gM
 simp only[ze]
 grind
def Q8(l:List aS)(hl:l.length<=1000000)(v:aS):WN l v=V (l.any fun w=>w.fName.toList==v.fName.toList):=by
 obtain⟨i,e1,hc⟩:=oI (cO:=G6) l (fun i=>⟨l,v.fName,v.bk,v.af,v.aa,v.dz,(l.length:Int),(i:Int)⟩) (fun _ w=> !(w.fName.toList==v.fName.toList)) (fun i hi=>by
  have hw:=gF hi hl
  unfold G6 X4
  dsimp only
  simp only[ze,za]
  grind) (by unfold G6;simp)
 have e1':Hz ⟨l,v.fName,v.bk,v.af,v.aa,v.dz,(l.length:Int),0⟩=V ⟨l,v.fName,v.bk,v.af,v.aa,v.dz,(l.length:Int),(i:Int)⟩:=e1
 unfold WN akl
 rw[e1']
 dsimp only
 rcases hc with ⟨rfl,hc⟩|⟨hi,hc⟩
 ·rw[vz fun j hj=>by have:=hc j hj;simpa using this]
  simp
 ·have hc':(l[i]!.fName.toList==v.fName.toList)=wO:=by simpa using hc
  rw[Dd hi hc']
  unfold X4
  simp only[za,hc',bE]
  simp[hi]
def FT(l:List aS)(hl:l.length<=1000000)(n:Nat)(hn:n<=l.length)(v:aS):
  ∃i:Nat,DQ ⟨l,n,0,v⟩=V ⟨l,n,(i:Int),v⟩/\((i=n/\((l.take n).any fun w=>w.fName.toList==v.fName.toList)=wN)\/(i<n/\(l[i]!.fName.toList==v.fName.toList)=wO/\((l.take n).any fun w=>w.fName.toList==v.fName.toList)=wO)):=by
 have hlen:(l.take n).length=n:=by rw[zZ];omega
 have hget:∀i,i<n->(l.take n)[i]! =l[i]! :=fun i hi=>by
  rw[getElem!_pos _ i (by omega),getElem!_pos _ i (by omega),List.getElem_take]
 obtain⟨i,e1,hc⟩:=oI (cO:=Hh) (l.take n) (fun i=>⟨l,(n:Int),(i:Int),v⟩) (fun _ w=> !(w.fName.toList==v.fName.toList)) (fun i hi=>by
  rw[hlen]at hi
  have hw:=gF hi (by omega)
  rw[hget i hi]
  unfold Hh
  dsimp only
  simp only[ze,za]
  grind) (by rw[hlen];unfold Hh;simp)
 refine⟨i,e1,?_⟩
 rw[hlen]at hc
 rcases hc with ⟨rfl,hc⟩|⟨hi,hc⟩
 ·exact .inl ⟨rfl,vz fun j hj=>by have:=hc j (by omega);simpa using this⟩
 ·have hc':((l.take n)[i]!.fName.toList==v.fName.toList)=wO:=by simpa using hc
  exact .inr ⟨hi,by rw[<-hget i hi];exact hc',Dd (by omega) hc'⟩
def CO(a b:List aq):jK (a++b)=jK a+jK b:=by simp[jK]
def EX(l:List aq)(i:Nat):jK (l.take i)<=jK l:=by
 have:=CO (l.take i) (l.drop i)
 rw[xe]at this
 omega
def HB(l:List aq):l.length<=jK l:=by
 induction l with
 |nil=>simp
 |cons a l ih=>rw[qM];have:=HU a;simp;omega
def agC(a b:List au):fO (a++b)=fO a+fO b:=by simp[fO]
def VB(l:List au)(i:Nat):fO (l.take i)<=fO l:=by
 have:=agC (l.take i) (l.drop i)
 rw[xe]at this
 omega
def amU(s:au):0<nS s:=by rw[oH];omega
def jQ(l:List au):l.length<=fO l:=by
 induction l with
 |nil=>simp
 |cons a l ih=>rw[nH];have:=amU a;simp;omega
def Er{l:List aq}{i:Nat}(hi:i<l.length):jK (l.take i)+nT l[i]!<=jK l:=by
 have:=EX l (i+1)
 rw[bS hi,qv]at this
 exact this
def Fp{l:List au}{i:Nat}(hi:i<l.length):fO (l.take i)+nS l[i]!<=fO l:=by
 have:=VB l (i+1)
 rw[bS hi,Lu]at this
 exact this
def Px(l:List aq)(h:∀k∈l,dT k<=nT k):∀i,i<=l.length->MO (l.take i)<=jK (l.take i):=by
 intro i
 induction i with
 |zero=>intro _;simp[MO,jK]
 |succ i ih=>
  intro hi
  have:=ih (by omega)
  have h2:=h _ (aX (show i<l.length by omega))
  rw[bS (by omega),Fw,qv]
  omega
def ajg(t:aq):dT t<=nT t:=by
 have key:∀(n:Nat) (t:aq),SizeOf.sizeOf t<n->dT t<=nT t:=by
  intro n
  induction n with
  |zero=>intro t h;omega
  |succ n ih=>
   intro t h
   have:=Px t.ak (fun k hk=>ih k (by have:=aq.dV hk;omega)) t.ak.length (zD _)
   rw[zM]at this
   rw[Sm,wU]
   omega
 exact key _ t (zw _)
def W9(l:List aq)(i:Nat):MO (l.take i)<=jK l:=by
 have h1:=EX l i
 by_cases h:i<=l.length
 ·have:=Px l (fun k _=>ajg k) i h
  omega
 ·have:=Px l (fun k _=>ajg k) l.length (zD _)
  rw[zM]at this
  rw[List.take_of_length_le (by omega)]
  omega
def WY(l:List au):jG l<=fO l:=by
 have key:∀(n:Nat) (l:List au),SizeOf.sizeOf l<n->jG l<=fO l:=by
  intro n
  induction n with
  |zero=>intro t h;omega
  |succ n ih=>
   intro l h
   cases l with
   |nil=>rw[jG];simp[fO]
   |cons s l=>
    have q1:=ih s.aH (by have:=aV (l:=s::l) (zi ..);omega)
    have q2:=ih s.aL (by have:=aV (l:=s::l) (zi ..);omega)
    have q3:=ih l (by have:=dh s l;omega)
    rw[jG,nH,oH]
    omega
 exact key _ l (zw _)
def afm(M:aq->Option qE)(t:aq)(hM:∀k∈t.ak,M k=V (nT k:Int))(h:nT t<=1000):aes M t=V (nT t:Int):=by
 have hN:=wU t
 have hL:=HB t.ak
 obtain⟨v,e1,hv⟩:=dH (cO:=Ht M) t.ak.length (fun i (b:Int)=>⟨b,(i:Int),t⟩) (fun i b=>b=1+jK (t.ak.take i)) (fun i b hi hb=>by
   have hs:=Er hi
   refine⟨b+nT t.ak[i]!,?_,?_⟩
   ·have hk:=hM _ (aX hi)
    have hw:=gF hi (by omega)
    have hw2:i64.wrap (b+nT t.ak[i]!)=b+nT t.ak[i]! :=aF
    unfold Ht
    dsimp only
    simp only[ze,za,aq.eta,hk]
    grind
   ·rw[bS hi,qv];omega) (fun b _=>by unfold Ht;simp) (b:=1) (by simp[jK])
 have e1':II M ⟨1,0,t⟩=V ⟨v,(t.ak.length:Int),t⟩:=e1
 unfold aes
 rw[aq.eta,e1',hN]
 rw[zM]at hv
 simp[hv]
def Qw:∀(n:Nat) (t:aq),SizeOf.sizeOf t<n->nT t<=1000->MW n t=V (nT t:Int)
 |0,_,h,_=>by omega
 |n+1,t,h,h2=>afm (MW n) t (fun k hk=>Qw n k (by have:=aq.dV hk;omega) (by have:=TC hk;have:=wU t;omega)) h2
def Ih(t:aq)(h:nT t<=1000):N5 t=V (nT t:Int):=eE (SizeOf.sizeOf t+1) fun n hn=>Qw n t (by omega) h
def ahs(M:aq->Option qR)(t:aq)(hM:∀k∈t.ak,M k=V (dT k))(h:nT t<=1000):aha M t=V (dT t):=by
 have hN:=wU t
 have hL:=HB t.ak
 obtain⟨v,e1,hv⟩:=dH (cO:=H7 M) t.ak.length (fun i (b:Int)=>⟨b,(i:Int),t⟩) (fun i b=>b=MO (t.ak.take i)) (fun i b hi hb=>by
   refine⟨max b (dT t.ak[i]!),?_,?_⟩
   ·have hk:=hM _ (aX hi)
    have hw:=gF hi (by omega)
    unfold H7
    dsimp only
    simp only[ze,za,aq.eta,hk]
    grind
   ·rw[bS hi,Fw,hb]) (fun b _=>by unfold H7;simp) (b:=0) (by simp[MO])
 have e1':IS M ⟨0,0,t⟩=V ⟨v,(t.ak.length:Int),t⟩:=e1
 unfold aha
 rw[aq.eta,e1',Sm]
 have hd:=W9 t.ak t.ak.length
 have hp:=Hi t.ak
 rw[zM]at hv hd
 subst hv
 have hw2:i64.wrap (MO t.ak+1)=MO t.ak+1:=aF
 dsimp only
 rw[fy]
 show V (i64.wrap (MO t.ak+1))=_
 rw[hw2]
 congr 1
 omega
def Q6:∀(n:Nat) (t:aq),SizeOf.sizeOf t<n->nT t<=1000->OF n t=V (dT t)
 |0,_,h,_=>by omega
 |n+1,t,h,h2=>ahs (OF n) t (fun k hk=>Q6 n k (by have:=aq.dV hk;omega) (by have:=TC hk;have:=wU t;omega)) h2
def HW(t:aq)(h:nT t<=1000):ME t=V (dT t):=eE (SizeOf.sizeOf t+1) fun n hn=>Q6 n t (by omega) h
def CZ{s:au}{l:List au}(h:s∈l):nS s<=fO l:=by
 induction l with
 |nil=>cases h
 |cons a l ih=>
  rw[nH]
  rcases zy.1 h with rfl|h
  ·omega
  ·have:=ih h;omega
def gD:List au->Int
 |[]=>0
 |s::l=>1+nT s.az+gD s.aH+gD s.aL+gD l
termination_by l=>SizeOf.sizeOf l
decreasing_by
 ·exact(aV (zi ..)).1
 ·exact(aV (zi ..)).2
 ·exact dh _ _
def CK(l:List au):0<=gD l/\gD l<=fO l:=by
 have key:∀(n:Nat) (l:List au),SizeOf.sizeOf l<n->0<=gD l/\gD l<=fO l:=by
  intro n
  induction n with
  |zero=>intro t h;omega
  |succ n ih=>
   intro l h
   cases l with
   |nil=>rw[gD];simp[fO]
   |cons s l=>
    have q1:=ih s.aH (by have:=aV (l:=s::l) (zi ..);omega)
    have q2:=ih s.aL (by have:=aV (l:=s::l) (zi ..);omega)
    have q3:=ih l (by have:=dh s l;omega)
    rw[gD,nH,oH]
    omega
 exact key _ l (zw _)
def U0(l:List au)(s:au):gD (l++[s])=gD l+(1+nT s.az+gD s.aH+gD s.aL):=by
 induction l with
 |nil=>rw[yg,show gD []=0 by rw[gD],gD,show gD []=0 by rw[gD]];omega
 |cons a l ih=>rw[xw,gD,gD,ih];omega
def adL(M:List au->Option qS)(l:List au)(hM:∀s∈l,M s.aH=V (gD s.aH)/\M s.aL=V (gD s.aL))(h:fO l<=1000):aaQ M l=V (gD l):=by
 have hL:=jQ l
 obtain⟨v,e1,hv⟩:=dH (cO:=I5 M) l.length (fun i (b:Int)=>⟨l,b,(i:Int)⟩) (fun i b=>b=gD (l.take i)) (fun i b hi hb=>by
   have hs:=Fp hi
   have hE:=oH l[i]!
   obtain⟨k1,k4⟩:=hM _ (aX hi)
   have k2:=CK l[i]!.aH
   have k3:=CK l[i]!.aL
   have k5:=CK (l.take i)
   have hk:=Ih l[i]!.az (by omega)
   have hw:=gF hi (by omega)
   refine⟨b+(1+nT l[i]!.az+gD l[i]!.aH+gD l[i]!.aL),?_,?_⟩
   ·have w1:i64.wrap (b+1)=b+1:=aF
    have w2:i64.wrap (b+1+nT l[i]!.az)=b+1+nT l[i]!.az:=aF
    have w3:i64.wrap (b+1+nT l[i]!.az+gD l[i]!.aH)=b+1+nT l[i]!.az+gD l[i]!.aH:=aF
    have w4:i64.wrap (b+1+nT l[i]!.az+gD l[i]!.aH+gD l[i]!.aL)=b+(1+nT l[i]!.az+gD l[i]!.aH+gD l[i]!.aL):=by rw[aF];omega
    unfold I5
    dsimp only
    simp only[ze,za,aq.eta,hk,k1,k4,w1,w2,w3,w4,hw]
    grind
   ·rw[bS hi,U0];omega) (fun b _=>by unfold I5;simp) (b:=0) (by simp[gD])
 have e1':IM M ⟨l,0,0⟩=V ⟨l,v,(l.length:Int)⟩:=e1
 unfold aaQ
 rw[e1']
 rw[zM]at hv
 simp[hv]
def ga{s:au}{l:List au}(h:s∈l):fO s.aH<=fO l/\fO s.aL<=fO l:=by
 have:=CZ h
 have:=oH s
 omega
def JE:∀(n:Nat) (l:List au),SizeOf.sizeOf l<n->fO l<=1000->NW n l=V (gD l)
 |0,_,h,_=>by omega
 |n+1,l,h,h2=>adL (NW n) l (fun s hs=>⟨JE n _ (by have:=aV hs;omega) (by have:=ga hs;omega),JE n _ (by have:=aV hs;omega) (by have:=ga hs;omega)⟩) h2
def ac6(l:List au)(h:fO l<=1000):agd l=V (gD l):=eE (SizeOf.sizeOf l+1) fun n hn=>JE n l (by omega) h
def afL(M:List au->Option rz)(l:List au)(hM:∀s∈l,M s.aH=V (jG s.aH)/\M s.aL=V (jG s.aL))(h:fO l<=1000):aaM M l=V (jG l):=by
 have hL:=jQ l
 obtain⟨v,e1,hv⟩:=dH (cO:=HM M) l.length (fun i (b:Int)=>⟨l,b,(i:Int)⟩) (fun i b=>b=jG (l.take i)) (fun i b hi hb=>by
   obtain⟨k1,k4⟩:=hM _ (aX hi)
   have k2:=WY l[i]!.aH
   have k3:=WY l[i]!.aL
   have k5:=ga (aX hi)
   have k6:=rZ l[i]!.aH
   have k7:=rZ l[i]!.aL
   have hw:=gF hi (by omega)
   refine⟨max b (max (jG l[i]!.aH+1) (jG l[i]!.aL+1)),?_,?_⟩
   ·have w1:i64.wrap (jG l[i]!.aH+1)=jG l[i]!.aH+1:=aF
    have w2:i64.wrap (jG l[i]!.aL+1)=jG l[i]!.aL+1:=aF
    unfold HM
    dsimp only
    simp only[ze,za,k1,k4,w1,w2,hw]
    grind
   ·rw[bS hi,Yi];omega) (fun b _=>by unfold HM;simp) (b:=0) (by simp[jG])
 have e1':HV M ⟨l,0,0⟩=V ⟨l,v,(l.length:Int)⟩:=e1
 unfold aaM
 rw[e1']
 rw[zM]at hv
 simp[hv]
def IK:∀(n:Nat) (l:List au),SizeOf.sizeOf l<n->fO l<=1000->OI n l=V (jG l)
 |0,_,h,_=>by omega
 |n+1,l,h,h2=>afL (OI n) l (fun s hs=>⟨IK n _ (by have:=aV hs;omega) (by have:=ga hs;omega),IK n _ (by have:=aV hs;omega) (by have:=ga hs;omega)⟩) h2
def adD(l:List au)(h:fO l<=1000):acY l=V (jG l):=eE (SizeOf.sizeOf l+1) fun n hn=>IK n l (by omega) h
def ML(s:au):Bool:=wP (12<dT s.az)||fI s.aH||fI s.aL
def Vb(l:List au):fI l=l.any ML:=by
 induction l with
 |nil=>rw[fI];rfl
 |cons s l ih=>rw[fI,ih,List.any_cons];rfl
def agK(M:List au->Option oQ)(l:List au)(hM:∀s∈l,M s.aH=V (fI s.aH)/\M s.aL=V (fI s.aL))(h:fO l<=1000):aeR M l=V (fI l):=by
 have hL:=jQ l
 have hT:∀i,i<l.length->ME l[i]!.az=V (dT l[i]!.az):=fun i hi=>HW _ (by have:=CZ (aX hi);have:=oH l[i]!;omega)
 obtain⟨i,e1,hc⟩:=oI (cO:=Jn M) l (fun i=>⟨l,(i:Int)⟩) (fun _ s=> !ML s) (fun i hi=>by
   obtain⟨k1,k4⟩:=hM _ (aX hi)
   have hk:=hT i hi
   have hw:=gF hi (by omega)
   unfold Jn ML
   dsimp only
   simp only[ze,za,aq.eta,hk,k1,k4,hw]
   cases fI l[i]!.aH<;>cases fI l[i]!.aL<;>grind) (by unfold Jn;simp)
 have e1':JI M ⟨l,0⟩=V ⟨l,(i:Int)⟩:=e1
 unfold aeR
 rw[e1',Vb]
 dsimp only
 rcases hc with ⟨rfl,hc⟩|⟨hi,hc⟩
 ·rw[vz fun j hj=>by have:=hc j hj;simpa using this]
  simp
 ·have hc':ML l[i]! =wO:=by simpa using hc
  rw[Dd hi hc']
  obtain⟨k1,k4⟩:=hM _ (aX hi)
  have hk:=hT i hi
  unfold ML at hc'
  simp only[ze,za,aq.eta,hk,k1,k4]
  revert hc'
  cases fI l[i]!.aH<;>cases fI l[i]!.aL<;>grind
def H8:∀(n:Nat) (l:List au),SizeOf.sizeOf l<n->fO l<=1000->P3 n l=V (fI l)
 |0,_,h,_=>by omega
 |n+1,l,h,h2=>agK (P3 n) l (fun s hs=>⟨H8 n _ (by have:=aV hs;omega) (by have:=ga hs;omega),H8 n _ (by have:=aV hs;omega) (by have:=ga hs;omega)⟩) h2
def adh(l:List au)(h:fO l<=1000):afv l=V (fI l):=eE (SizeOf.sizeOf l+1) fun n hn=>H8 n l (by omega) h
def eX(b:aU):Bool:=b.fG||wP (1024<b.bC)
def wT(b:aU):jA b=(eX b,b):=by
 unfold jA eX
 cases b.fG<;>rfl
def de(d:Int)(b:aU):aU:=⟨b.bC+1,b.fG||wP (12<d)⟩
def uo(t:aq)(d:Int)(b:aU):aU:=if eX (de d b)=wO then de d b else t.ak.attach.foldl (fun b k=>uo k.1 (d+1) b) (de d b)
termination_by SizeOf.sizeOf t
decreasing_by exact aq.dV k.2
def FB(l:List aq)(d:Int)(b:aU):aU:=l.foldl (fun b k=>uo k d b) b
def Wv(t:aq)(d:Int)(b:aU):uo t d b=if eX (de d b)=wO then de d b else FB t.ak (d+1) (de d b):=by
 rw[uo,FB]
 rw[show t.ak.attach.foldl (fun b k=>uo k.1 (d+1) b) (de d b)=t.ak.foldl (fun b k=>uo k (d+1) b) (de d b)from List.foldl_attach (f:=fun b k=>uo k (d+1) b)]
def Gj(l:List aq)(k:aq)(d:Int)(b:aU):FB (l++[k]) d b=uo k d (FB l d b):=by simp[FB]
def MsP(d0:Int)(n:Int)(b r:aU):Prop:=r.fG=(b.fG||wP (12<d0))/\b.bC<=r.bC/\r.bC<=b.bC+n
def JX(t:aq)(d:Int)(b:aU)(h0:0<=d)(h1:0<=b.bC)(h2:b.bC+nT t<=1000):MsP (d-1+dT t) (nT t) b (uo t d b):=by
 have key:∀(n:Nat) (t:aq) (d:Int) (b:aU),SizeOf.sizeOf t<n->0<=d->0<=b.bC->b.bC+nT t<=1000->MsP (d-1+dT t) (nT t) b (uo t d b):=by
  intro n
  induction n with
  |zero=>intro t d b h;omega
  |succ n ih=>
   intro t d b h h0 h1 h2
   have hN:=wU t
   have hD:=Sm t
   have hd0:=Hi t.ak
   rw[Wv]
   by_cases ho:eX (de d b)=wO
   ·rw[bw ho]
    unfold eX de at ho
    unfold MsP de
    grind
   ·rw[bF ho]
    have hi:∀i,i<=t.ak.length->MsP (d+MO (t.ak.take i)) (jK (t.ak.take i)) (de d b) (FB (t.ak.take i) (d+1) (de d b)):=by
     intro i
     induction i with
     |zero=>
      intro _
      unfold eX de at ho
      simp only[xE,FB,List.foldl_nil,MsP,MO,jK,y5,de]
      grind
     |succ i ihi=>
      intro hi
      have q:=ihi (by omega)
      have hs:=Er (show i<t.ak.length by omega)
      have hm:t.ak[i]!∈t.ak:=aX (by omega)
      have hp:(de d b).bC=b.bC+1:=rfl
      have q2:=ih t.ak[i]! (d+1) (FB (t.ak.take i) (d+1) (de d b)) (by have:=aq.dV hm;omega) (by omega) (by have:=q.2.1;omega) (by have:=q.2.2;omega)
      rw[bS (by omega),Gj,Fw,qv]
      unfold MsP at q q2 ⊢
      obtain⟨a1,a2,a3⟩:=q
      obtain⟨c1,c2,c3⟩:=q2
      refine⟨?_,by omega,by omega⟩
      rw[c1,a1]
      rw[Bool.or_assoc]
      congr 1
      rw[<-Bool.decide_or]
      apply decide_eq_decide.2
      omega
    have q:=hi t.ak.length (zD _)
    rw[zM]at q
    unfold MsP at q ⊢
    obtain⟨a1,a2,a3⟩:=q
    unfold eX at ho
    have hp:(de d b).bC=b.bC+1:=rfl
    have hp2:(de d b).fG=(b.fG||wP (12<d)):=rfl
    refine⟨?_,by omega,by omega⟩
    rw[a1,hD,hp2]
    rw[hp2]at ho
    grind
 exact key _ t d b (zw _) h0 h1 h2
def aay(M:aq->Int->aU->Option sK)(t:aq)(hM:∀k∈t.ak,∀(d:Int) (b:aU),0<=d->d<=13->0<=b.bC->b.bC+nT k<=1000->M k d b=V (uo k d b))(d:Int)(b:aU)(h0:0<=d)(hd:d<=13)(h1:0<=b.bC)(h2:b.bC+nT t<=1000):aeL M t d b=V (uo t d b):=by
 have hN:=wU t
 have hL:=HB t.ak
 have hw0:i64.wrap (b.bC+1)=b.bC+1:=aF
 have hw1:i64.wrap (d+1)=d+1:=aF
 have hinc:∀x,(⟨b.bC+1,x⟩:aU)=de d b↔x=(b.fG||wP (12<d)):=fun x=>by unfold de;simp
 have key:eX (de d b)=wN->d<=12/\Ek M ⟨d,t.ak,(t.ak.length:Int),0,de d b⟩=V ⟨d,t.ak,(t.ak.length:Int),(t.ak.length:Int),FB t.ak (d+1) (de d b)⟩:=fun ho=>by
  have hd2:d<=12:=by unfold eX de at ho;grind
  refine⟨hd2,?_⟩
  obtain⟨v,e1,hv,_⟩:=dH (cO:=G9 M) t.ak.length (fun i (x:aU)=>⟨d,t.ak,(t.ak.length:Int),(i:Int),x⟩) (fun i x=>x=FB (t.ak.take i) (d+1) (de d b)/\b.bC+1<=x.bC/\x.bC<=b.bC+1+jK (t.ak.take i)) (fun i x hi hx=>by
    have hs:=Er hi
    have hk:=hM _ (aX hi) (d+1) x (by omega) (by omega) (by omega) (by omega)
    have hp:=JX t.ak[i]! (d+1) x (by omega) (by omega) (by omega)
    have hw:=gF hi (by omega)
    refine⟨uo t.ak[i]! (d+1) x,?_,?_⟩
    ·unfold G9
     dsimp only
     simp only[ze,za,aq.eta,hw1,hk,hw]
     grind
    ·unfold MsP at hp
     rw[bS hi,Gj,<-hx.1,qv]
     exact⟨rfl,by omega,by omega⟩) (fun x _=>by unfold G9;simp) (b:=de d b) ⟨rfl,zg _,by show b.bC+1<=_;simp[jK]⟩
  rw[zM]at hv
  rw[<-hv]
  exact e1
 rw[Wv]
 unfold aeL
 rw[hw0]
 have hm:∀x,x=(b.fG||wP (12<d))->jA ⟨b.bC+1,x⟩=(eX (de d b),de d b):=fun x hx=>by rw[wT,(hinc x).2 hx]
 cases hb:b.fG with
 |true=>
  rw[hm wO (by rw[hb];rfl)]
  have ho:eX (de d b)=wO:=by unfold eX de;simp[hb]
  simp[ho]
 |false=>
  rw[hm (wP (12<d)) (by rw[hb];rfl)]
  cases ho:eX (de d b)with
  |true=>simp
  |false=>
   obtain⟨_,e⟩:=key ho
   rw[e]
   simp
def Sq:∀(n:Nat) (t:aq) (d:Int) (b:aU),SizeOf.sizeOf t<n->0<=d->d<=13->0<=b.bC->b.bC+nT t<=1000->OM n t d b=V (uo t d b)
 |0,_,_,_,h,_,_,_,_=>by omega
 |n+1,t,d,b,h,h0,hd,h1,h2=>aay (OM n) t (fun k hk d b a1 a2 a3 a4=>Sq n k d b (by have:=aq.dV hk;omega) a1 a2 a3 a4) d b h0 hd h1 h2
def RG(t:aq)(d:Int)(b:aU)(h0:0<=d)(hd:d<=13)(h1:0<=b.bC)(h2:b.bC+nT t<=1000):FD t d b=V (uo t d b):=eE (SizeOf.sizeOf t+1) fun n hn=>Sq n t d b (by omega) h0 hd h1 h2
def nN(d:Int):List au->aU->aU
 |[],b=>b
 |s::l,b=>if eX (de d b)=wO then de d b else nN d l (nN (d+1) s.aL (nN (d+1) s.aH (uo s.az 1 (de d b))))
termination_by l=>SizeOf.sizeOf l
decreasing_by
 ·exact(aV (zi ..)).1
 ·exact(aV (zi ..)).2
 ·exact dh _ _
def Qf(d:Int)(l:List au)(b:aU)(h0:0<=d)(hd:d<=13)(h1:0<=b.bC)(h2:b.bC+fO l<=1000):(nN d l b).fG=(b.fG||(wP (12<d-1+jG l)||fI l))/\b.bC<=(nN d l b).bC/\(nN d l b).bC<=b.bC+fO l:=by
 have key:∀(n:Nat) (d:Int) (l:List au) (b:aU),SizeOf.sizeOf l<n->0<=d->d<=13->0<=b.bC->b.bC+fO l<=1000->(nN d l b).fG=(b.fG||(wP (12<d-1+jG l)||fI l))/\b.bC<=(nN d l b).bC/\(nN d l b).bC<=b.bC+fO l:=by
  intro n
  induction n with
  |zero=>intro d l b h;omega
  |succ n ih=>
   intro d l b h h0 hd h1 h2
   cases l with
   |nil=>
    rw[nN,jG,fI]
    refine⟨?_,by omega,by simp[fO]⟩
    rw[fy]
    simp
   |cons s l=>
    have hz:=aV (l:=s::l) (zi ..)
    have hz2:=dh s l
    have hN:=oH s
    have hC:=nH s l
    have p1:=rZ s.aH
    have p2:=rZ s.aL
    have p3:=rZ l
    have p4:=akS s.az
    have hp:(de d b).bC=b.bC+1:=rfl
    have hp2:(de d b).fG=(b.fG||wP (12<d)):=rfl
    rw[nN,jG,fI]
    by_cases ho:eX (de d b)=wO
    ·rw[bw ho]
     unfold eX de at ho
     unfold de
     dsimp only at ho ⊢
     refine⟨?_,by omega,by omega⟩
     grind
    ·rw[bF ho]
     unfold eX at ho
     rw[hp,hp2]at ho
     have hb:b.fG=wN:=by grind
     have hd2:d<=12:=by grind
     obtain⟨a1,a2,a3⟩:=JX s.az 1 (de d b) (by omega) (by omega) (by omega)
     obtain⟨c1,c2,c3⟩:=ih (d+1) s.aH (uo s.az 1 (de d b)) (by omega) (by omega) (by omega) (by omega) (by omega)
     obtain⟨g1,g2,g3⟩:=ih (d+1) s.aL _ (by omega) (by omega) (by omega) (y6 (by omega) c2) (by omega)
     obtain⟨k1,k2,k3⟩:=ih d l _ (by omega) h0 hd (y6 (by omega) g2) (by omega)
     refine⟨?_,by omega,by omega⟩
     rw[k1,g1,c1,a1,hp2,hb]
     rw[bO (show ¬12<d by omega)]
     have e1:wP (12<1-1+dT s.az)=wP (12<dT s.az):=by congr 1;rw[show (1:Int)-1+dT s.az=dT s.az by omega]
     rw[e1]
     have e2:wP (12<d-1+max (max (jG s.aH+1) (jG s.aL+1)) (jG l))=(wP (12<d+1-1+jG s.aH)||(wP (12<d+1-1+jG s.aL)||wP (12<d-1+jG l))):=by
      rw[<-Bool.decide_or,<-Bool.decide_or]
      apply decide_eq_decide.2
      omega
     rw[e2]
     generalize wP (12<dT s.az)=x1
     generalize wP (12<d+1-1+jG s.aH)=x2
     generalize wP (12<d+1-1+jG s.aL)=x3
     generalize wP (12<d-1+jG l)=x4
     generalize fI s.aH=x5
     generalize fI s.aL=x6
     generalize fI l=x7
     revert x1 x2 x3 x4 x5 x6 x7
     decide
 exact key _ d l b (zw _) h0 hd h1 h2
def BM{α:Type}[Inhabited α]{c:Nat->α->Int}:∀(l:List α) (i:Nat),cw c l i=0->∀j,j<l.length->c (i+j) l[j]! =0
 |[],i,_,j,hj=>by simp at hj
 |x::xs,i,h,j,hj=>by
  unfold cw at h
  split at h
  ·rename_i hx
   cases j with
   |zero=>exact hx
   |succ j=>
    have:=BM xs (i+1) h j (by simpa using hj)
    rw[show i+1+j=i+(j+1)by omega]at this
    simpa using this
  ·rename_i hx;exact cQ h hx
def bX(vars:List aS):Prop:=∀v∈vars,-1048576<=v.af/\v.af<=v.aa/\v.aa<=1048576
def TO{vars:List aS}{i:Nat}{v:aS}(h:mK vars i v=0): -1048576<=v.af/\v.af<=v.aa/\v.aa<=1048576:=by
 unfold mK gM at h
 grind
def nM{vars:List aS}(h:cw (mK vars) vars 0=0):bX vars:=fun v hv=>by
 obtain⟨i,hi,e⟩:=xS hv
 have:=BM _ _ h i hi
 rw[getElem!_pos vars i hi,e]at this
 exact TO this
def tE(kind:Int):∀(l:List aS) (i:Nat) (n:Int),OW (fun _ (n:Int) (v:aS)=>if 4096<n*(v.aa-v.af+1)then(.inr ():Int ⊕ Unit)else .inl (n*(v.aa-v.af+1))) (fun _=>(O:Option Int)) V (l.filter fun v=>wP (v.bk=kind)) i n=uJ kind l n
 |[],i,n=>rfl
 |v::vs,i,n=>by
  unfold uJ
  by_cases hv:v.bk=kind
  ·rw[List.filter_cons_of_pos (by simpa using hv),bw hv]
   by_cases h:4096<n*(v.aa-v.af+1)
   ·rw[bw h,CJ (r:=()) (by rw[bw h])]
   ·rw[bF h,Aa (by rw[bF h])]
    exact tE kind vs (i+1) _
  ·rw[List.filter_cons_of_neg (by simpa using hv),bF hv]
   exact tE kind vs i n
def DB(kind:Int):∀(l:List aS) (i:Nat) (n:Int),OW (fun _ (n:Int) (v:aS)=>if v.bk=kind then(if 4096<n*(v.aa-v.af+1)then(.inr ():Int ⊕ Unit)else .inl (n*(v.aa-v.af+1)))else .inl n) (fun _=>(O:Option Int)) V l i n=uJ kind l n
 |[],i,n=>rfl
 |v::vs,i,n=>by
  unfold uJ
  by_cases hv:v.bk=kind
  ·rw[bw hv]
   by_cases h:4096<n*(v.aa-v.af+1)
   ·rw[bw h,CJ (r:=()) (by rw[bw hv,bw h])]
   ·rw[bF h,Aa (b':=n*(v.aa-v.af+1)) (by rw[bw hv,bF h])]
    exact DB kind vs (i+1) _
  ·rw[bF hv,Aa (b':=n) (by rw[bF hv])]
   exact DB kind vs (i+1) n
def CG{v:aS}(h: -1048576<=v.af/\v.af<=v.aa/\v.aa<=1048576){n:Int}(h1:1<=n)(h2:n<=4096):
  1<=n*(v.aa-v.af+1)/\i64.wrap (v.aa-v.af)=v.aa-v.af/\i64.wrap (v.aa-v.af+1)=v.aa-v.af+1/\i64.wrap (n*(v.aa-v.af+1))=n*(v.aa-v.af+1):=by
 have e1:0<=(n-1)*(v.aa-v.af+1):=zq (by omega) (by omega)
 have e2:n*(v.aa-v.af+1)<=4096*(v.aa-v.af+1):=zG h2 (by omega)
 have e3:(n-1)*(v.aa-v.af+1)=n*(v.aa-v.af+1)-(v.aa-v.af+1):=by rw[yl,zR]
 exact⟨by omega,aF,aF,aF⟩
def Uu(vars:List aS)(hv:bX vars)(hl:vars.length<=1000000)(kind:Int):tj ⟨kind,[],vars,(vars.length:Int),0⟩=V ⟨kind,vars.filter (fun v=>wP (v.bk=kind)),vars,(vars.length:Int),(vars.length:Int)⟩:=by
 obtain⟨v,e1,hV⟩:=dH (cO:=DU) vars.length (fun i (b:List aS)=>⟨kind,b,vars,(vars.length:Int),(i:Int)⟩) (fun i b=>b=(vars.take i).filter fun v=>wP (v.bk=kind)) (fun i b hi hb=>by
  have hw:=gF hi hl
  have hv:=hv _ (aX hi)
  have hb2:b.length<=i:=by rw[hb];exact zx (yp _ _) (by rw[zZ];omega)
  rw[bS hi,xk,<-hb]
  by_cases hk:vars[i]!.bk=kind
  ·refine⟨b++[vars[i]!],?_,?_⟩
   ·have hl2:(b++[vars[i]!]).length<=1073741824:=by simp;omega
    unfold DU
    dsimp only
    simp only[ze,za]
    grind
   ·revert hk
    generalize vars[i]! =x
    intro hk
    simp[hk]
  ·refine⟨b,?_,?_⟩
   ·unfold DU
    dsimp only
    simp only[ze,za]
    grind
   ·revert hk
    generalize vars[i]! =x
    intro hk
    simp[hk]) (fun b _=>by unfold DU;simp) (b:=[]) rfl
 rw[zM]at hV
 rw[<-hV]
 exact e1
def UU(F:List aS)(hv:bX F)(hl:F.length<=1000000):
  ∃(i:Nat) (n:Int),tZ ⟨F,1,F,(F.length:Int),0⟩=V ⟨F,n,F,(F.length:Int),(i:Int)⟩/\((i=F.length/\OW (fun _ (n:Int) (v:aS)=>if 4096<n*(v.aa-v.af+1)then(.inr ():Int ⊕ Unit)else .inl (n*(v.aa-v.af+1))) (fun _=>(O:Option Int)) V F 0 1=V n)\/
   (i<F.length/\4096<i64.wrap (n*FP F[i]!)/\OW (fun _ (n:Int) (v:aS)=>if 4096<n*(v.aa-v.af+1)then(.inr ():Int ⊕ Unit)else .inl (n*(v.aa-v.af+1))) (fun _=>(O:Option Int)) V F 0 1=O)):=by
 have hm:∀(i:Nat) (n:Int),i<F.length->1<=n->n<=4096->i64.wrap (n*FP F[i]!)=n*(F[i]!.aa-F[i]!.af+1):=fun i n hi h1 h2=>by
  obtain⟨a,b,c,d⟩:=CG (hv _ (aX hi)) h1 h2
  unfold FP
  rw[b,c,d]
 obtain⟨i,n,e1,hI,hc⟩:=Y7 (cO:=JR) F (fun i (n:Int)=>⟨F,n,F,(F.length:Int),(i:Int)⟩) (fun _ (n:Int) (v:aS)=>if 4096<n*(v.aa-v.af+1)then(.inr ():Int ⊕ Unit)else .inl (n*(v.aa-v.af+1))) (fun _=>(O:Option Int)) V (fun i n=>1<=n/\n<=4096) (fun i n hi hI=>by
  have hw:=gF hi hl
  have h1:=hm i n hi hI.1 hI.2
  have h2:=(CG (hv _ (aX hi)) hI.1 hI.2).1
  unfold JR
  dsimp only
  simp only[ze,za,h1]
  grind) (fun b _=>by unfold JR;simp) (b:=1) ⟨by omega,by omega⟩
 refine⟨i,n,e1,?_⟩
 rcases hc with ⟨h1,h2⟩|⟨h1,r,h2,h3⟩
 ·exact .inl ⟨h1,h2⟩
 ·refine .inr ⟨h1,?_,h3⟩
  rw[hm i n h1 hI.1 hI.2]
  by_cases h:4096<n*(F[i]!.aa-F[i]!.af+1)
  ·exact h
  ·rw[bF h]at h2
   cases h2
def IT(vars:List aS)(hv:bX vars)(hl:vars.length<=1000000)(kind:Int)(hk:kind=1\/kind=2\/kind=3):Zf vars kind=V (match uJ kind vars 1 with|V n=>(n,0)|O=>(0,4)):=by
 have e0:=Uu vars hv hl kind
 obtain⟨i,n,e1,hc⟩:=UU (vars.filter fun v=>wP (v.bk=kind)) (fun v h=>hv v (z6.1 h).1) (zx (yp _ _) hl)
 rw[tE]at hc
 unfold Zf anm
 rcases hk with rfl|rfl|rfl
 all_goals
  simp only[ze,e0,e1,Int.reduceEq,cz,dS,reduceIte]
  rcases hc with ⟨rfl,hc⟩|⟨hi,h2,hc⟩
  ·simp[hc]
  ·simp only[za,h2,cz,hc]
   simp[hi]
def JO(vars:List aS)(hv:bX vars)(hl:vars.length<=1000000)(kind:Int):Vg vars kind=V (match uJ kind vars 1 with|V n=>n|O=>4097):=by
 have hm:∀(i:Nat) (n:Int),i<vars.length->1<=n->n<=4096->i64.wrap (n*i64.wrap (i64.wrap (vars[i]!.aa-vars[i]!.af)+1))=n*(vars[i]!.aa-vars[i]!.af+1):=fun i n hi h1 h2=>by
  obtain⟨a,b,c,d⟩:=CG (hv _ (aX hi)) h1 h2
  rw[b,c,d]
 obtain⟨i,n,e1,hI,hc⟩:=Y7 (cO:=Im) vars (fun i (n:Int)=>⟨vars,kind,n,(i:Int)⟩) (fun _ (n:Int) (v:aS)=>if v.bk=kind then(if 4096<n*(v.aa-v.af+1)then(.inr ():Int ⊕ Unit)else .inl (n*(v.aa-v.af+1)))else .inl n) (fun _=>(O:Option Int)) V (fun i n=>1<=n/\n<=4096) (fun i n hi hI=>by
  have hw:=gF hi hl
  have h1:=hm i n hi hI.1 hI.2
  have h2:=(CG (hv _ (aX hi)) hI.1 hI.2).1
  unfold Im
  dsimp only
  simp only[ze,za,h1]
  grind) (fun b _=>by unfold Im;simp) (b:=1) ⟨by omega,by omega⟩
 rw[DB]at hc
 have e1':Hp ⟨vars,kind,1,0⟩=V ⟨vars,kind,n,(i:Int)⟩:=e1
 unfold Vg
 rw[e1']
 dsimp only
 rcases hc with ⟨rfl,hc⟩|⟨hi,r,h2,hc⟩
 ·simp[hc]
 ·have h1:=hm i n hi hI.1 hI.2
  simp only[ze,za,h1,hc]
  grind
def BA(kind:Int):∀(l:List aS) (n m:Int),n<=4096->uJ kind l n=V m->m<=4096
 |[],n,m,h,e=>by unfold uJ at e;cases e;exact h
 |v::vs,n,m,h,e=>by
  unfold uJ at e
  split at e
  ·split at e
   ·cases e
   ·exact BA kind vs _ m (by omega) e
  ·exact BA kind vs n m h e
def Yd(vars:List aS)(hl:vars.length<=1000000)(i:Nat)(hi:i<vars.length):(mK vars i vars[i]! =0->As ⟨vars,vars,(vars.length:Int),(i:Int)⟩=V (V ⟨vars,vars,(vars.length:Int),((i+1:Nat):Int)⟩))/\(mK vars i vars[i]!≠0->As ⟨vars,vars,(vars.length:Int),(i:Int)⟩=V O):=by
 have hw:=gF hi hl
 have h1:=CR vars[i]!.fName
 have h2:=Q8 (vars.take i) (by rw[zZ];omega) vars[i]!
 unfold As mK
 dsimp only
 simp only[ze,za,Ck,h1,h2]
 generalize je vars[i]!.fName=B
 generalize ((vars.take i).any fun w=>w.fName.toList==vars[i]!.fName.toList)=A
 generalize gM vars[i]!.af vars[i]!.aa=C
 cases A<;>cases B<;>cases C<;>simp only[bE,bA]<;>grind
def acy(vars:List aS)(hl:vars.length<=1000000):abb vars=V (kD vars):=by
 obtain⟨i,e1,hc⟩:=sU (cO:=As) vars (fun i=>⟨vars,vars,(vars.length:Int),(i:Int)⟩) (mK vars) (fun i hi=>Yd vars hl i hi) (by unfold As;simp)
 have e1':HK ⟨vars,vars,(vars.length:Int),0⟩=V ⟨vars,vars,(vars.length:Int),(i:Int)⟩:=e1
 unfold abb kD
 rw[e1']
 dsimp only
 rcases hc with ⟨rfl,hc⟩|⟨hi,h0,hc⟩
 ·have hv:=nM hc
  rw[fy,bA,bF (by rw[hc];simp)]
  have hr:∀k:Nat,k<3->i64.wrap ((k:Int)+1)=((k+1:Nat):Int):=fun k hk=>gF hk (by decide)
  have k1:=IT vars hv hl 1 (.inl rfl)
  have k2:=IT vars hv hl 2 (.inr (.inl rfl))
  have k3:=IT vars hv hl 3 (.inr (.inr rfl))
  have r1:qu ⟨vars,[1,2,3],3,0⟩=match uJ 1 vars 1 with|V _=>V (V ⟨vars,[1,2,3],3,1⟩)|O=>V O:=by
   unfold qu
   simp[k1]
   cases uJ 1 vars 1 with
   |none=>simp
   |some n=>simp;exact hr 0 (by decide)
  have r2:qu ⟨vars,[1,2,3],3,1⟩=match uJ 2 vars 1 with|V _=>V (V ⟨vars,[1,2,3],3,2⟩)|O=>V O:=by
   unfold qu
   simp[k2]
   cases uJ 2 vars 1 with
   |none=>simp
   |some n=>simp;exact hr 1 (by decide)
  have r3:qu ⟨vars,[1,2,3],3,2⟩=match uJ 3 vars 1 with|V n=>if 256<n then V O else V (V ⟨vars,[1,2,3],3,3⟩)|O=>V O:=by
   unfold qu
   simp[k3]
   cases uJ 3 vars 1 with
   |none=>simp
   |some n=>
    by_cases h:256<n
    ·simp[h]
    ·simp[h];exact hr 2 (by decide)
  unfold Bu
  cases s1:uJ 1 vars 1 with
  |none=>
   rw[s1]at r1 k1
   have e:qY ⟨vars,[1,2,3],3,0⟩=V ⟨vars,[1,2,3],3,0⟩:=cu fun r=>by rw[r1];simp
   rw[show ((↑(3:Int):Int))=3 from rfl,e]
   simp[k1]
  |some n1=>
   rw[s1]at r1 k1
   cases s2:uJ 2 vars 1 with
   |none=>
    rw[s2]at r2 k2
    have e:qY ⟨vars,[1,2,3],3,0⟩=V ⟨vars,[1,2,3],3,1⟩:=(bQ r1).trans (cu fun r=>by rw[r2];simp)
    rw[show ((↑(3:Int):Int))=3 from rfl,e]
    simp[k2]
   |some n2=>
    rw[s2]at r2 k2
    cases s3:uJ 3 vars 1 with
    |none=>
     rw[s3]at r3 k3
     have e:qY ⟨vars,[1,2,3],3,0⟩=V ⟨vars,[1,2,3],3,2⟩:=(bQ r1).trans ((bQ r2).trans (cu fun r=>by rw[r3];simp))
     rw[show ((↑(3:Int):Int))=3 from rfl,e]
     simp[k3]
    |some n3=>
     rw[s3]at r3 k3
     dsimp only at r3
     by_cases h:256<n3
     ·rw[bw h]at r3
      have e:qY ⟨vars,[1,2,3],3,0⟩=V ⟨vars,[1,2,3],3,2⟩:=(bQ r1).trans ((bQ r2).trans (cu fun r=>by rw[r3];simp))
      rw[show ((↑(3:Int):Int))=3 from rfl,e]
      simp[k3,h]
     ·rw[bF h]at r3
      have e:qY ⟨vars,[1,2,3],3,0⟩=V ⟨vars,[1,2,3],3,3⟩:=(bQ r1).trans ((bQ r2).trans ((bQ r3).trans (cu fun r=>by unfold qu;simp)))
      rw[show ((↑(3:Int):Int))=3 from rfl,e]
      simp[h]
 ·have h1:=CR vars[i]!.fName
  have h2:=Q8 (vars.take i) (by rw[zZ];omega) vars[i]!
  rw[hc,bw h0]
  rw[sw,bE,bw ⟨by omega,by omega⟩]
  revert h0
  unfold mK
  simp only[ze,za,Ck,h1,h2]
  generalize je vars[i]!.fName=B
  generalize ((vars.take i).any fun w=>w.fName.toList==vars[i]!.fName.toList)=A
  generalize gM vars[i]!.af vars[i]!.aa=C
  intro h0
  cases A<;>cases B<;>cases C<;>simp only[bE,bA]at h0 ⊢ <;>grind
def afj(vars:List aS)(hl:vars.length<=1000000)(i:Nat)(hi:i<vars.length):(mK vars i vars[i]! =0->Bc ⟨vars,(i:Int)⟩=V (V ⟨vars,((i+1:Nat):Int)⟩))/\(mK vars i vars[i]!≠0->Bc ⟨vars,(i:Int)⟩=V O):=by
 have hw:=gF hi hl
 have h1:=CB vars[i]!.fName
 obtain⟨j,h2,h3⟩:=FT vars hl i (by omega) vars[i]!
 unfold Bc mK
 dsimp only
 simp only[ze,za,CA,h1,h2]
 generalize je vars[i]!.fName=B
 generalize ((vars.take i).any fun w=>w.fName.toList==vars[i]!.fName.toList)=A at h3
 generalize gM vars[i]!.af vars[i]!.aa=C
 rcases h3 with ⟨rfl,rfl⟩|⟨hj,h4,rfl⟩
 ·cases B<;>cases C<;>simp only[bE,bA]<;>grind
 ·simp only[h4]
  cases B<;>cases C<;>simp only[bE,bA]<;>grind
def ag8(vars:List aS)(hl:vars.length<=1000000):agx vars=V (kD vars):=by
 obtain⟨i,e1,hc⟩:=sU (cO:=Bc) vars (fun i=>⟨vars,(i:Int)⟩) (mK vars) (fun i hi=>afj vars hl i hi) (by unfold Bc;simp)
 have e1':HS ⟨vars,0⟩=V ⟨vars,(i:Int)⟩:=e1
 unfold agx kD
 rw[e1']
 dsimp only
 rcases hc with ⟨rfl,hc⟩|⟨hi,h0,hc⟩
 ·have hv:=nM hc
  rw[fy,bA,bF (by rw[hc];simp)]
  rw[JO vars hv hl 1,JO vars hv hl 2,JO vars hv hl 3]
  have b1:=BA 1 vars 1
  have b2:=BA 2 vars 1
  unfold Bu
  revert b1 b2
  cases uJ 1 vars 1<;>cases uJ 2 vars 1<;>cases uJ 3 vars 1<;>intro b1 b2<;>simp only[ze,Option.isSome_none,Option.isSome_some,Bool.and_true,Bool.and_false,Bool.true_and,Bool.false_and]<;>(try have c1:=b1 _ (by omega) rfl)<;>(try have c2:=b2 _ (by omega) rfl)<;>grind
 ·have h1:=CB vars[i]!.fName
  obtain⟨j,h2,h3⟩:=FT vars hl i (by omega) vars[i]!
  rw[hc,bw h0]
  rw[sw,bE,bw ⟨by omega,by omega⟩]
  revert h0
  unfold mK
  simp only[ze,za,CA,h1,h2]
  generalize je vars[i]!.fName=B
  generalize ((vars.take i).any fun w=>w.fName.toList==vars[i]!.fName.toList)=A at h3
  generalize gM vars[i]!.af vars[i]!.aa=C
  intro h0
  rcases h3 with ⟨rfl,rfl⟩|⟨hj,h4,rfl⟩
  ·cases B<;>cases C<;>simp only[bE,bA]at h0 ⊢ <;>grind
  ·simp only[h4]
   cases B<;>cases C<;>simp only[bE,bA]at h0 ⊢ <;>grind
end Go.Proofs.YtnfljbehcffmcaaGreat
end
