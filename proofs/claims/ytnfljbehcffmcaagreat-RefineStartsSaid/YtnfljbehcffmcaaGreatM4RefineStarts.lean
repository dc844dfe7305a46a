/- Merged: Ne11, Ne12, Ne13, Ne14, Ne15, Ne16, Ne17, Ne18, Ne19, Ne20, Ne21, Ne22, Ne23, Ne24, Ne25, Ne26, Ne27, Ne28, Ne29, Ga, Pfew, Pd, Gb, Pv1, Pv3, Pv1b. -/
import Derived.Test.YtnfljbehcffmcaaGreatM3RefineStarts
import Derived.Test.YtnfljbehcffmcaaGreatM2RefineStarts
open Int renaming toNat_natCast → zf, le_refl → zw, mul_nonneg → zx, mul_comm → zC, mul_le_mul_of_nonneg_right → zM, mul_assoc → zN, ediv_nonneg → zP, add_mul → zQ, dvd_trans → zS, one_mul → zX, ediv_le_self → yc, sub_mul → ym, dvd_sub → yq, gcd → yy, toNat → yM, mul_ediv_add_emod → yR, emod_nonneg → yS, mul_le_mul → yT, dvd_add → yU, emod_lt_of_pos → yV, mul_add → yW, ediv_mul_le → y5, dvd_zero → xg, dvd_mul_left → xh, dvd_mul_right → xj, natCast_mul → xq, lt_irrefl → xw, zero_mul → xF, le_trans → xG, zero_dvd → xH, min_eq_right → xI, zero_sub → xJ, mul_neg → xL, ediv_mul_cancel → xZ, lt_of_mul_lt_mul_right → wj, dvd_of_emod_eq_zero → wk, min_eq_left → wm, lt_ediv_add_one_mul_self → wG
open Nat renaming lt_succ_self → zB, le_refl → zG, le_trans → zH, add_mul → yf, mul_le_mul_right → yB, not_lt_zero → yC, lt_succ_iff_lt_or_eq → y4, mod_lt → xb, one_mul → xK
open SizeOf renaming sizeOf → zh
open Bool renaming cond_decide → zi, and_eq_true → zj, or_eq_true → yL, true_and → xN, true → J, false → G
open Option renaming some → zD, some → I, none → S
open List renaming length_append → zl, mem_cons_self → zm, mem_cons → zF, take_length → zI, mem_singleton → zJ, range → zO, length_take → zR, mem_append → zU, map_append → z6, map_cons → z7, mem_filter → z8, drop → yb, nil_append → yg, append_nil → yp, getElem_map → yH, map_nil → yK, length_filter_le → yN, length_range → xk, cons_append → xo, take_append_drop → xp, getElem_mem → xy, take_zero → xD, filter_append → xE, drop_of_length_le → xM, drop_eq_getElem_cons → xQ, getElem_of_mem → xR, attach_map_val → x8, sizeOf_lt_of_mem → wH
open Array renaming mk → y6
open Decidable renaming decide → O
open Go.Proofs.Tryz renaming prog → wJ
open Go.Proofs.Tryz
set_option linter.unusedSectionVars false
set_option linter.unusedVariables false
set_option linter.unusedSimpArgs false
set_option linter.defProp false
noncomputable section
set_option maxRecDepth 100000
namespace Go.Proofs.YtnfljbehcffmcaaGreat
open Go Go.Iv
open Go.IntKind (i64 u64)
def j6{a:aH}(h:NV a):cl a=J↔∃x,bN a x/\x≠0:=by
 unfold cl;rcases h with rfl|h
 ·rw[show bU cw=0 from by unfold bU;rw[bD rfl],ux,ux];exact⟨λk=>(by cases k),λ⟨x,k,_⟩=>dg k wW⟩
 ·have hp:=size_pos h;have h1:=jm h;have hle:=h.le;have mlo:bN a a.ag:=⟨zw _,h.le,⟨0,by omega⟩⟩;have mhi:bN a a.ah:=⟨h.le,zw _,h.dvd⟩;by_cases c:1<bU a
  ·rw[bD c];refine⟨λ_=> ?_,λ_=>rfl⟩;by_cases z:a.ag=0
   ·exact⟨a.ah,mhi,λk=>by have:=h1.mpr (by omega);omega⟩
   ·exact⟨a.ag,mlo,z⟩
  ·rw[bL c,bD (show bU a=1 by omega)];have e:=h1.mp (by omega);constructor
   ·intro k;refine⟨a.ag,mlo,λz=> ?_⟩;rw[kO (show bN a 0 by rw[<-z];exact mlo)]at k;cases k
   ·rintro⟨x,k1,k2⟩;rw[iK (show ¬bN a 0 from λk=>by have:=k.1;have:=k.2.1;have:=k1.1;have:=k1.2.1;omega)];rfl
def zero_or{a:aH}(h:NN a):(cl a||cC a 0)=J:=by
 have mlo:bN a a.ag:=⟨zw _,h.le,⟨0,by omega⟩⟩;by_cases z:a.ag=0
 ·rw[kO (show bN a 0 by rw[<-z];exact mlo),Bool.or_true]
 ·rw[(j6 (.inr h)).mpr ⟨_,mlo,z⟩,Bool.true_or]
def apG(a:aH):aH:=aH.mk (-a.ah) (-a.ag) a.aj
def acR{a:aH}(h:NN a):NN (apG a):=by
 have:=h.lo;have:=h.hi;have:=h.le
 refine⟨by show _<= -a.ah;omega,by show-a.ag<=_;omega,by show-a.ah<= -a.ag;omega,?_⟩;rcases h.st with ⟨h1,h2⟩|⟨h1,h2,h3⟩
 ·exact .inl ⟨by show-a.ah= -a.ag;omega,h2⟩
 ·refine .inr ⟨by show-a.ah< -a.ag;omega,h2,?_⟩;show (-a.ag- -a.ah)%a.aj=0;rw[show-a.ag- -a.ah=a.ah-a.ag by omega];exact h3
def oQ(op:Int)(a:aH):aH×Int:=open Classical in
 if¬NV a\/(op≠6/\op≠7)then(aH.mk 0 0 0,1)else if a=cw then(cw,0)else if op=7 then(gU (cl a) (cC a 0),0)else(apG a,0)
def D3(op:Int):(bif bif O (op=6)then G else J then I (bif O (op=7)then G else J)else I G)=I (O (op≠6/\op≠7)):=by
 by_cases h:op=6
 ·rw[bV h,bT (show ¬(op≠6/\op≠7)from λk=>k.1 h)];rfl
 ·by_cases k:op=7
  ·rw[bT h,bV k,bT (show ¬(op≠6/\op≠7)from λe=>e.2 k)];rfl
  ·rw[bT h,bT k,bV (show op≠6/\op≠7 from⟨h,k⟩)];rfl
def RD{a:aH}(h:NV a)(op:Int):acV op a=I (oQ op a):=by
 unfold acV oQ;rw[dX,dD h];simp only[bB,bz];rw[D3];by_cases ho:op≠6/\op≠7
 ·rw[bV ho,bD (.inr ho)];rfl
 ·rw[bT ho,bL (λk=>k.elim (λe=>e h) ho)];simp only[bz];rcases h with rfl|h
  ·rw[gY,bD rfl];rfl
  ·rw[dP h.ne,bL h.ne,bz];by_cases h7:op=7
   ·rw[bV h7,bD h7,bB,Ai (.inr h)];simp only;rw[P7]
   ·rw[bT h7,bL h7,bz];have:=h.lo;have:=h.hi;have:=h.le
    rw[aI (n:=0-a.ah),aI (n:=0-a.ag),xJ,xJ];rfl
def Px{a:aH}(h:NV a)(op:Int):Vp op a=I (oQ op a):=by
 unfold Vp oQ;rw[fq,dD h];simp only[bB,bz];rw[D3];by_cases ho:op≠6/\op≠7
 ·rw[bV ho,bD (.inr ho)];rfl
 ·rw[bT ho,bL (λk=>k.elim (λe=>e h) ho)];simp only[bz];rcases h with rfl|h
  ·rw[kS,bD rfl];rfl
  ·rw[gp h,bL h.ne,bz];by_cases h7:op=7
   ·rw[bT (show ¬op=6 by omega),bD h7,bz,ng (.inr h)];simp only;rw[Qg (zero_or h)]
   ·rw[bV (show op=6 by omega),bL h7,bB];have:=h.lo;have:=h.hi;have:=h.le
    rw[aI (n:=0-a.ah),aI (n:=0-a.ag),xJ,xJ];rfl
def NX:NV (aH.mk 0 0 0):= .inr (NN.one (x:=0) (by omega) (by omega))
def mW(x y:Int):Int:=if y=0 then 0 else if x.tmod y≠0/\(O (x<0))≠(O (y<0))then x.tdiv y-1 else x.tdiv y
def rE{x y:Int}(hy:y≠0):∃q r:Int,x.tdiv y=q/\x.tmod y=r/\y*q+r=x/\r.natAbs<y.natAbs/\q.natAbs<=x.natAbs/\(0<=x->0<=r)/\(x<=0->r<=0)/\(r≠0->q.natAbs<x.natAbs):=by
 refine⟨_,_,rfl,rfl,Int.mul_tdiv_add_tmod x y,?_,?_,λh=>Int.tmod_nonneg _ h,λh=> ?_,λh=> ?_⟩
 ·rw[Int.natAbs_tmod];exact xb _ (by omega)
 ·rw[Int.natAbs_tdiv];exact Nat.div_le_self _ _
 ·have:=Int.tmod_nonneg (a:= -x) y (by omega);rw[Int.neg_tmod]at this;omega
 ·have e:=Nat.div_add_mod x.natAbs y.natAbs;have hr:(x.tmod y).natAbs≠0:=by omega
  rw[Int.natAbs_tmod]at hr;rw[Int.natAbs_tdiv];have h1:x.natAbs/y.natAbs<=y.natAbs*(x.natAbs/y.natAbs):=Nat.le_mul_of_pos_left _ (by omega);show x.natAbs/y.natAbs<x.natAbs;omega
def Nq{x y:Int}(hx:cj x):cj (mW x y)/\(mW x y).natAbs<=x.natAbs:=by
 unfold mW;obtain⟨h1,h2⟩:=hx;by_cases hy:y=0
 ·rw[bD hy];exact⟨⟨by omega,by omega⟩,by omega⟩
 ·rw[bL hy];obtain⟨q,r,e1,e2,e3,e4,e5,_,_,e6⟩:=rE (x:=x) hy;rw[e1,e2];split
  ·rename_i h;have:=e6 h.1;exact⟨⟨by omega,by omega⟩,by omega⟩
  ·exact⟨⟨by omega,by omega⟩,by omega⟩
def N3{x y:Int}(hy:cj y)(h0:y≠0):cj (x-y*mW x y)/\(0<y->0<=x-y*mW x y/\x-y*mW x y<y)/\(y<0->x-y*mW x y<=0/\y<x-y*mW x y):=by
 unfold mW;rw[bL h0];obtain⟨h1,h2⟩:=hy;obtain⟨q,r,e1,e2,e3,e4,e5,e7,e8,e6⟩:=rE (x:=x) h0;rw[e1,e2];by_cases h:r≠0/\O (x<0)≠O (y<0)
 ·rw[bD h,Int.mul_sub,Int.mul_one];obtain⟨k1,k2⟩:=h;by_cases c:x<0
  ·have c2:¬y<0:=λk=>k2 (by rw[bV c,bV k]);have:=e8 (by omega);exact⟨⟨by omega,by omega⟩,λ_=>by omega,λ_=>by omega⟩
  ·have c2:y<0:=Decidable.byContradiction λk=>k2 (by rw[bT c,bT k]);have:=e7 (by omega);exact⟨⟨by omega,by omega⟩,λ_=>by omega,λ_=>by omega⟩
 ·rw[bL h];by_cases k1:r=0
  ·exact⟨⟨by omega,by omega⟩,λ_=>by omega,λ_=>by omega⟩
  ·have k2:O (x<0)=O (y<0):=Decidable.byContradiction λk=>h ⟨k1,k⟩;by_cases c:x<0
   ·have c2:y<0:=by
     rw[bV c]at k2;exact of_decide_eq_true k2.symm
    have:=e8 (by omega);exact⟨⟨by omega,by omega⟩,λ_=>by omega,λ_=>by omega⟩
   ·have c2:¬y<0:=by
     rw[bT c]at k2;exact of_decide_eq_false k2.symm
    have:=e7 (by omega);exact⟨⟨by omega,by omega⟩,λ_=>by omega,λ_=>by omega⟩
def E7{x y:Int}(hx:cj x)(hy:cj y):VC x y=I (mW x y):=by
 have hR:=Nq (y:=y) hx;unfold VC;unfold mW at hR ⊢;obtain⟨h1,h2⟩:=hx;by_cases h0:y=0
 ·rw[bV h0,bD h0];rfl
 ·rw[bL h0]at hR;rw[bT h0,bL h0,bz,bD h0,bD h0,wY];obtain⟨q,r,e1,e2,e3,e4,e5,e7,e8,e6⟩:=rE (x:=x) h0;rw[e1,e2]at hR ⊢;by_cases k1:r=0
  ·rw[bT (show ¬¬r=0 by omega),bL (λk=>k.1 k1)];simp only[bz];rw[aI]
  ·rw[bV k1];simp only[bB];by_cases k2:O (x<0)=O (y<0)
   ·rw[bL (λk=>k.2 k2),k2];have:(bif O (y<0)==O (y<0)then false else true)=false:=by cases O (y<0)<;>rfl
    rw[this];simp only[bz];rw[aI]
   ·rw[bD ⟨k1,k2⟩]at hR ⊢;have:(bif O (x<0)==O (y<0)then G else J)=J:=by
     revert k2;cases O (x<0)<;>cases O (y<0)<;>first|(intro k2;exact dg rfl k2)|(intro _;rfl)
    rw[this];simp only[bB];rw[aI (n:=q),aI (n:=q-1)]
def OH{x y:Int}(hx:cj x)(hy:cj y):ae1 x y=I (mW x y):=E7 hx hy
def mj(b:Bool):Int:=if b then 1 else 0
def e9(op x y:Int):Int:=
 if op=8 then x+y else if op=9 then x-y else if op=10 then x*y else if op=11 then mW x y else if op=12 then(if y=0 then 0 else x-y*mW x y)
 else if op=13 then mj (O (x=y))else if op=14 then mj (!O (x=y))else if op=15 then mj (O (x<y))else if op=16 then mj (O (x<=y))else if op=17 then mj (O (y<x))else if op=18 then mj (O (y<=x))
 else if op=19 then mj (O (x≠0/\y≠0))else if op=20 then mj (O (x≠0\/y≠0))else if op=21 then min x y else max x y
def qH(b:Bool):cj (mj b):=by cases b<;>exact⟨by decide,by decide⟩
def YQ{op x y:Int}(hx:cj x)(hy:cj y)(ho:op=11\/op=12\/op=21\/op=22):To op x y=I (e9 op x y):=by
 unfold To e9;rcases ho with rfl|rfl|rfl|rfl
 ·rw[bV rfl,bB,E7 hx hy];rfl
 ·rw[bT (by decide),bV rfl,bz,bB];show _=I (if y=0 then 0 else x-y*mW x y);by_cases h0:y=0
  ·rw[bV h0,bD h0];rfl
  ·rw[bT h0,bL h0,bz,E7 hx hy];simp only;have hm:=N3 (x:=x) hy h0;obtain⟨a1,a2⟩:=hx;obtain⟨b1,b2⟩:=hy;obtain⟨⟨c1,c2⟩,_⟩:=hm;rw[aI (n:=y*mW x y),aI]
 ·rw[bT (by decide),bT (by decide),bV rfl];simp only[bz,bB];rw[show (if y<x then y else x)=min x y by split<;>omega];rfl
 ·rw[bT (show ¬(22:Int)=11 by decide),bT (show ¬(22:Int)=12 by decide),bT (show ¬(22:Int)=21 by decide)];simp only[bz];rw[show (if x<y then y else x)=max x y by split<;>omega];rfl
def binop(op:Int):Prop:=8<=op/\op<=22
def tU{x:Int}(hx:cj x):@Eq Int (iB x 0) ((x.natAbs:Nat):Int):=by
 unfold iB;obtain⟨h1,h2⟩:=hx;by_cases c:x<0
 ·rw[bV c,bB,aI];show @Eq Int (0-x) ((x.natAbs:Nat):Int);omega
 ·rw[bT c,bz,aI];show @Eq Int (x-0) ((x.natAbs:Nat):Int);omega
def lN{x:Int}(hx:cj x):@Eq Int (iN x) ((x.natAbs:Nat):Int):=by
 obtain⟨h1,h2⟩:=hx;obtain⟨k1,k2⟩:=HT (x:=x) (by omega) (by omega);generalize iN x=z at*;have k1:(0:Int)<=z:=k1;have k2:@Eq Int z x\/@Eq Int z (-x):=k2;show @Eq Int z ((x.natAbs:Nat):Int);omega
def Ke{x y:Int}(h0:x≠0):((1099511627776:Int)/x.natAbs<y.natAbs)↔¬cj (x*y):=by
 have hp:(0:Int)<(x.natAbs:Int):=by omega
 have e:((x*y).natAbs:Int)=(y.natAbs:Int)*(x.natAbs:Int):=by rw[Int.natAbs_mul,xq,zC]
 have hi:cj (x*y)↔((x*y).natAbs:Int)<=1099511627776:=⟨λ⟨h1,h2⟩=>by omega,λh=>⟨by omega,by omega⟩⟩;rw[hi,e,<-Int.le_ediv_iff_mul_le hp];omega
def acp(b:Bool):sv b=mj b:=by cases b<;>rfl
def dI{op x y v:Int}(h:v=e9 op x y)(hr:cj (e9 op x y)):∃w,I (v,J)=I (w,O (cj (e9 op x y)))/\(cj (e9 op x y)->w=e9 op x y):=⟨v,by rw[bV hr],λ_=>h⟩
def ZW{x y:Int}(hx:cj x)(hy:cj y):∃v,Z4 x y=I (v,O (cj (x*y)))/\(cj (x*y)->v=x*y):=by
 unfold Z4;rw[wY,wY,tU hx,tU hy];by_cases h0:x=0
 ·subst h0;rw[bT (show ¬¬(0:Int)=0 from λk=>k rfl)];simp only[bz];rw[xF,aI,bV (show cj 0 from⟨by omega,by omega⟩)];exact⟨0,rfl,λ_=>rfl⟩
 ·rw[bV h0,bB];by_cases h1:y=0
  ·subst h1;rw[bT (show ¬¬(0:Int)=0 from λk=>k rfl)];simp only[bz];rw[Int.mul_zero,aI,bV (show cj 0 from⟨by omega,by omega⟩)];exact⟨0,rfl,λ_=>rfl⟩
  ·rw[bV h1,bB,bD (show ¬@Eq Int ((y.natAbs:Nat):Int) 0 by omega),jq];have q0:0<=(1099511627776:Int)/((y.natAbs:Nat):Int):=zP (by omega) (by omega);have q1:(1099511627776:Int)/((y.natAbs:Nat):Int)<=1099511627776:=yc _ (by omega);rw[aI];simp only;have k:=Ke (x:=y) (y:=x) h1;rw[zC]at k;by_cases c:(1099511627776:Int)/((y.natAbs:Nat):Int)<((x.natAbs:Nat):Int)
   ·rw[bV c,bT (k.mp c)];exact⟨0,rfl,λe=>dg e (k.mp c)⟩
   ·have hR:cj (x*y):=Decidable.byContradiction λe=>c (k.mpr e);rw[bT c,bV hR,aI (by have:=hR.1;omega) (by have:=hR.2;omega)];exact⟨x*y,rfl,λ_=>rfl⟩
def Al{x y:Int}(hx:cj x)(hy:cj y):∃v,Mo x y=I (v,O (cj (x*y)))/\(cj (x*y)->v=x*y):=by
 unfold Mo;rw[wY,lN hx,lN hy];by_cases h0:x=0
 ·subst h0;rw[bT (show ¬¬(0:Int)=0 from λk=>k rfl)];simp only[bz];rw[xF,aI,bV (show cj 0 from⟨by omega,by omega⟩)];exact⟨0,rfl,λ_=>rfl⟩
 ·rw[bV h0,bB,bD (show ¬@Eq Int ((x.natAbs:Nat):Int) 0 by omega),jq];have q0:0<=(1099511627776:Int)/((x.natAbs:Nat):Int):=zP (by omega) (by omega);have q1:(1099511627776:Int)/((x.natAbs:Nat):Int)<=1099511627776:=yc _ (by omega);rw[aI];simp only;have k:=Ke (x:=x) (y:=y) h0;by_cases c:(1099511627776:Int)/((x.natAbs:Nat):Int)<((y.natAbs:Nat):Int)
  ·rw[bV c,bT (k.mp c)];exact⟨0,rfl,λe=>dg e (k.mp c)⟩
  ·have hR:cj (x*y):=Decidable.byContradiction λe=>c (k.mpr e);rw[bT c,bV hR,aI (by have:=hR.1;omega) (by have:=hR.2;omega)];exact⟨x*y,rfl,λ_=>rfl⟩
def kK{op x y:Int}(hx:cj x)(hy:cj y)(ho:binop op):∃v,Cz op x y=I (v,O (cj (e9 op x y)))/\(cj (e9 op x y)->v=e9 op x y):=by
 obtain⟨o1,o2⟩:=ho;have hx':=hx;have hy':=hy;obtain⟨a1,a2⟩:=hx';obtain⟨b1,b2⟩:=hy';have cases15:op=8\/op=9\/op=10\/op=11\/op=12\/op=13\/op=14\/op=15\/op=16\/op=17\/op=18\/op=19\/op=20\/op=21\/op=22:=by omega
 unfold Cz;simp only[Dj,acp];rcases cases15 with rfl|rfl|rfl|rfl|rfl|rfl|rfl|rfl|rfl|rfl|rfl|rfl|rfl|rfl|rfl
 all_goals simp only[Int.reduceEq,fS,cR,bz,bB]
 ·rw[aI];exact⟨x+y,rfl,λ_=>rfl⟩
 ·rw[aI];exact⟨x-y,rfl,λ_=>rfl⟩
 ·obtain⟨v,e,h⟩:=ZW hx hy;rw[e];exact⟨v,rfl,h⟩
 ·rw[OH hx hy];exact dI (op:=11) rfl (Nq hx).1
 ·by_cases h0:y=0
  ·rw[bV h0];have e:e9 12 x y=0:=bD h0;exact dI (op:=12) e.symm (by rw[e];exact⟨by omega,by omega⟩)
  ·rw[bT h0,bz,OH hx hy];simp only;have e:e9 12 x y=x-y*mW x y:=bL h0;have hm:=(N3 (x:=x) hy h0).1;obtain⟨c1,c2⟩:=hm;rw[aI (n:=y*mW x y),aI];exact dI (op:=12) e.symm (by rw[e];exact⟨c1,c2⟩)
 ·exact dI (op:=13) rfl (qH _)
 ·refine dI (op:=14) ?_ (qH _);show mj _=mj _
  congr 1
 ·exact dI (op:=15) rfl (qH _)
 ·exact dI (op:=16) rfl (qH _)
 ·exact dI (op:=17) rfl (qH _)
 ·exact dI (op:=18) rfl (qH _)
 ·rw[wY,wY];by_cases h0:x=0
  ·rw[bT (show ¬¬x=0 from λk=>k h0),bz];refine dI (op:=19) ?_ (qH _);show mj G=mj (O (x≠0/\y≠0));rw[bT (λk=>k.1 h0)]
  ·rw[bV h0,bB];refine dI (op:=19) ?_ (qH _);show mj _=mj (O (x≠0/\y≠0))
   congr 1
   exact decide_eq_decide.mpr ⟨λk=>⟨h0,k⟩,λk=>k.2⟩
 ·rw[wY,wY];by_cases h0:x=0
  ·rw[bT (show ¬¬x=0 from λk=>k h0),bz];refine dI (op:=20) ?_ (qH _);show mj _=mj (O (x≠0\/y≠0))
   congr 1
   exact decide_eq_decide.mpr ⟨.inr,λk=>k.elim (λe=>dg h0 e) id⟩
  ·rw[bV h0,bB];refine dI (op:=20) ?_ (qH _);show mj J=mj (O (x≠0\/y≠0));rw[bV (.inl h0)]
 ·by_cases c:x<y
  ·rw[bV c];have e:e9 21 x y=x:=wm (by omega);exact dI (op:=21) e.symm (by rw[e];exact hx)
  ·rw[bT c];have e:e9 21 x y=y:=xI (by omega);exact dI (op:=21) e.symm (by rw[e];exact hy)
 ·by_cases c:y<x
  ·rw[bV c];have e:e9 22 x y=x:=Int.max_eq_left (by omega);exact dI (op:=22) e.symm (by rw[e];exact hx)
  ·rw[bT c];have e:e9 22 x y=y:=Int.max_eq_right (by omega);exact dI (op:=22) e.symm (by rw[e];exact hy)
def jU(a:aH)(k:Nat):Int:=a.ag+(k:Int)*a.aj
def cnt(a:aH):Nat:=(bU a).toNat
def fE{a:aH}(h:NN a):bU a=(cnt a:Int):=by have:=size_pos h;unfold cnt;omega
def gP{a:aH}(h:NN a):1<=cnt a:=by have:=size_pos h;unfold cnt;omega
def Xy{a:aH}(h:NN a){k:Nat}(hk:k<cnt a):a.ag<=jU a k/\jU a k<=a.ah:=by
 have e:=fE h;rw[rY h]at e;have hs:=h.s0;have k0:0<=(k:Int)*a.aj:=zx (by omega) hs;unfold jU;refine⟨by omega,?_⟩;rcases h.st with ⟨h1,h2⟩|⟨h1,h2,h3⟩
 ·rw[h2,Int.mul_zero];omega
 ·rw[ux]at e;have:(k:Int)*a.aj<=(a.ah-a.ag)/a.aj*a.aj:=zM (by omega) hs;rw[xZ (wk h3)]at this;omega
def gz{a:aH}(h:NN a)(x:Int):bN a x↔∃k:Nat,k<cnt a/\x=jU a k:=by
 constructor
 ·rintro⟨h1,h2,q,hq⟩;have e:=fE h;rw[rY h]at e;rcases h.st with ⟨k1,k2⟩|⟨k1,k2,k3⟩
  ·exact⟨0,gP h,by unfold jU;omega⟩
  ·rw[ux]at e;rw[zC]at hq;have q0:0<=q:=Decidable.byContradiction λc=>by
    have:q*a.aj<= -1*a.aj:=zM (by omega) (by omega);omega
   have q1:q<=(a.ah-a.ag)/a.aj:=Int.le_ediv_of_mul_le (by omega) (by omega);refine⟨q.toNat,by omega,?_⟩;unfold jU;rw[show ((q.toNat:Nat):Int)=q by omega,<-hq];omega
 ·rintro⟨k,hk,rfl⟩;obtain⟨h1,h2⟩:=Xy h hk;exact⟨h1,h2,by unfold jU;rw[show a.ag+(k:Int)*a.aj-a.ag=(k:Int)*a.aj by omega];exact xh ..⟩
def qI{a:aH}(h:NN a){k:Nat}(hk:k<cnt a):cj (jU a k):=RP (.inr h) ((gz h _).mpr ⟨k,hk,rfl⟩)
def mQ{a:aH}(h:NN a){k:Nat}(hk:k<cnt a):DB a (k:Int)=jU a k:=by
 have:=Xy h hk;have:=h.lo;have:=h.hi;have k0:0<=(k:Int)*a.aj:=zx (by omega) h.s0;unfold DB;unfold jU at*;rw[aI (n:=(k:Int)*a.aj),aI]
def qA(op:Int)(a b:aH)(y:Int):Prop:=∃x z,bN a x/\bN b z/\y=e9 op x z
def pref(op:Int)(a b:aH)(i:Nat)(l:aa Int):Prop:=(∀y,y∈l↔∃k,k<i/\∃j,j<cnt b/\y=e9 op (jU a k) (jU b j))/\l.length=i*cnt b/\∀y∈l,cj y
def afR(op:Int)(a b:aH)(i j:Nat)(l:aa Int):Prop:=(∀y,y∈l↔(∃k,k<i/\∃m,m<cnt b/\y=e9 op (jU a k) (jU b m))\/∃m,m<j/\y=e9 op (jU a i) (jU b m))/\l.length=i*cnt b+j/\∀y∈l,cj y
def RO{op:Int}{a b:aH}{i:Nat}{l:aa Int}(h:afR op a b i (cnt b) l):pref op a b (i+1) l:=by
 refine⟨λy=>(h.1 y).trans ⟨?_,?_⟩,by rw[h.2.1,yf,xK],h.2.2⟩
 ·rintro(⟨k,hk,m,hm,e⟩|⟨m,hm,e⟩)
  ·exact⟨k,by omega,m,hm,e⟩
  ·exact⟨i,by omega,m,hm,e⟩
 ·rintro⟨k,hk,m,hm,e⟩;rcases y4.mp hk with c|rfl
  ·exact .inl ⟨k,c,m,hm,e⟩
  ·exact .inr ⟨m,hm,e⟩
def VJ{op:Int}{a b c:aH}(ho:binop op)(ha:NN a)(hb:NN b)(hs:cnt a*cnt b<=1000000){i:Nat}(hi:i<cnt a){l:aa Int}(hl:pref op a b i l):
  (∃l',ru (gZ.mk op l i 0 a b c)=I (gZ.mk op l' i (cnt b:Nat) a b c)/\pref op a b (i+1) l')\/
  (∃l' j,j<cnt b/\ru (gZ.mk op l i 0 a b c)=I (gZ.mk op l' i (j:Nat) a b c)/\¬cj (e9 op (jU a i) (jU b j))):=by
 have hcb:cnt b<=1000000:=zH (Nat.le_mul_of_pos_left _ (gP ha)) hs;have hlen:(i+1)*cnt b<=1000000:=zH (yB _ hi) hs;rw[yf,xK]at hlen;obtain⟨j,l',e,hI,h⟩:=oO (rnd:=CJ) (cnt b) (λj (l:aa Int)=>gZ.mk op l i (j:Nat) a b c) (λj l=>afR op a b i j l) (λj l=>¬cj (e9 op (jU a i) (jU b j)))
  (λj l hj hI=>by
   obtain⟨v,ev,hv⟩:=kK (qI ha hi) (qI hb hj) ho;unfold CJ;simp only;rw[dL (.inr hb),fE hb];simp only;rw[mg,bB,mQ ha hi,mQ hb hj,ev];simp only;by_cases hr:cj (e9 op (jU a i) (jU b j))
   ·left;rw[bV hr];simp only[bB,bz];rw[bD (by rw[zl,hI.2.1];simp;omega),fD hj hcb,hv hr];refine⟨_,rfl,λy=> ?_,by rw[zl,hI.2.1];simp;omega,λy hy=> ?_⟩
    ·rw[zU,zJ,hI.1 y];constructor
     ·rintro((h|⟨m,hm,h⟩)|rfl)
      ·exact .inl h
      ·exact .inr ⟨m,by omega,h⟩
      ·exact .inr ⟨j,by omega,rfl⟩
     ·rintro(h|⟨m,hm,h⟩)
      ·exact .inl (.inl h)
      ·rcases y4.mp hm with c|rfl
       ·exact .inl (.inr ⟨m,c,h⟩)
       ·exact .inr h
    ·rcases zU.mp hy with hy|hy
     ·exact hI.2.2 y hy
     ·rw[zJ.mp hy];exact hr
   ·right;rw[bT hr];exact⟨rfl,hr⟩)
  (λl hI=>by
   unfold CJ;simp only;rw[dL (.inr hb),fE hb];simp only;rw[eH];rfl) (b:=l) ⟨λy=>(hl.1 y).trans ⟨.inl,λh=>h.elim id λ⟨m,hm,_⟩=>dg hm (yC _)⟩,by rw[hl.2.1];rfl,hl.2.2⟩
 have e:bG CJ (gZ.mk op l i 0 a b c)=I (gZ.mk op l' i (j:Nat) a b c):=e;rcases h with rfl|⟨hj,h⟩
 ·exact .inl ⟨l',e,RO hI⟩
 ·exact .inr ⟨l',j,hj,e,h⟩
def Ar{op:Int}{a b:aH}(ho:binop op)(ha:NN a)(hb:NN b)(hs:cnt a*cnt b<=1000000):
  ((∀y,qA op a b y->cj y)/\∃c,MB op a b=I (c,0)/\cW (qA op a b) c)\/((¬∀y,qA op a b y->cj y)/\MB op a b=I (aH.mk 0 0 0,3)):=by
 have hca:cnt a<=1000000:=zH (Nat.le_mul_of_pos_right _ (gP hb)) hs;unfold MB;obtain⟨i,l,e,hI,h⟩:=oO (rnd:=uG) (cnt a) (λi (l:aa Int)=>oa.mk op l (i:Nat) a b (aH.mk 0 0 0)) (λi l=>pref op a b i l) (λi l=>∃l' j,j<cnt b/\ru (gZ.mk op l i 0 a b (aH.mk 0 0 0))=I (gZ.mk op l' i (j:Nat) a b (aH.mk 0 0 0))/\¬cj (e9 op (jU a i) (jU b j)))
  (λi l hi hI=>by
   unfold uG;simp only;rw[dL (.inr ha),fE ha];simp only;rw[mg,bB];rcases VJ (c:=aH.mk 0 0 0) ho ha hb hs hi hI with ⟨l',e,h⟩|⟨l',j,hj,e,h⟩
   ·left;rw[e];simp only;rw[dL (.inr hb),fE hb];simp only;rw[eH,bz,fD hi hca];exact⟨l',rfl,h⟩
   ·right;refine⟨?_,l',j,hj,e,h⟩;rw[e];simp only;rw[dL (.inr hb),fE hb];simp only;obtain⟨v,ev,hv⟩:=kK (qI ha hi) (qI hb hj) ho;rw[mg,bB,mQ ha hi,mQ hb hj,ev];simp only;rw[bT h];rfl)
  (λl hI=>by
   unfold uG;simp only;rw[dL (.inr ha),fE ha];simp only;rw[eH];rfl) (b:=[]) ⟨λy=>⟨λh=>dg h (by simp),λ⟨k,hk,_⟩=>dg hk (yC _)⟩,by simp,λy hy=>dg hy (by simp)⟩
 have e:bG uG (oa.mk op [] 0 a b (aH.mk 0 0 0))=I (oa.mk op l (i:Nat) a b (aH.mk 0 0 0)):=e;rw[show HQ=bG uG from rfl,e];simp only;rw[dL (.inr ha),fE ha];simp only;rcases h with rfl|⟨hi,l',j,hj,e1,h⟩
 ·left;have mem:∀y,y∈l↔qA op a b y:=λy=>(hI.1 y).trans ⟨λ⟨k,hk,m,hm,e⟩=>⟨_,_,(gz ha _).mpr ⟨k,hk,rfl⟩,(gz hb _).mpr ⟨m,hm,rfl⟩,e⟩,λ⟨x,z,hx,hz,e⟩=>by
   obtain⟨k,hk,rfl⟩:=(gz ha _).mp hx;obtain⟨m,hm,rfl⟩:=(gz hb _).mp hz;exact⟨k,hk,m,hm,e⟩⟩
  rw[eH,bz];have hne:l≠[]:=λe=>by
   have:=hI.2.1;rw[e]at this;have:=Nat.mul_pos (gP ha) (gP hb);simp at*;omega
  obtain⟨c,e2,hc⟩:=Hw hne (by rw[hI.2.1];exact hs) hI.2.2;rw[e2];exact⟨λy hy=>hI.2.2 y ((mem y).mpr hy),c,rfl,hc.congr mem⟩
 ·right;refine⟨λk=>h (k _ ⟨_,_,(gz ha _).mpr ⟨i,hi,rfl⟩,(gz hb _).mpr ⟨j,hj,rfl⟩,rfl⟩),?_⟩;rw[mg,bB,e1];simp only;rw[dL (.inr hb),fE hb];simp only;obtain⟨v,ev,hv⟩:=kK (qI ha hi) (qI hb hj) ho;rw[mg,bB,mQ ha hi,mQ hb hj,ev];simp only;rw[bT h];rfl
def PE{a:aH}(h:NN a)(hs:cnt a<=1000000):Tt a=I ((zO (cnt a)).map (jU a)):=by
 unfold Tt;rw[jM (.inr h),fE h];simp only;have e:bG qZ (kQ.mk [] (cnt a:Nat) 0 a)=I (kQ.mk ((zO (cnt a)).map (jU a)) (cnt a:Nat) (cnt a:Nat) a):=by
  obtain⟨l,e,hl⟩:=cO (rnd:=qZ) (cnt a) (λi (l:aa Int)=>kQ.mk l (cnt a:Nat) (i:Nat) a) (λi l=>l=(zO i).map (jU a))
   (λi l hi hl=>by
    subst hl;unfold qZ;simp only;have:=mQ h hi;unfold DB at this;rw[mg,bB,this,bD (by simp;omega),fD hi hs];exact⟨_,rfl,by rw[List.range_succ,z6];rfl⟩)
   (λl hl=>by
    unfold qZ;simp only;rw[eH];rfl) (b:=[]) rfl
  have e:bG qZ (kQ.mk [] (cnt a:Nat) 0 a)=I (kQ.mk l (cnt a:Nat) (cnt a:Nat) a):=e;rw[e,hl]
 rw[show G9=bG qZ from rfl,e];simp only;rw[eH];rfl
def n7(a:aH):((zO (cnt a)).map (jU a)).length=cnt a:=by simp
def Ko(a:aH){k:Nat}(h:k<cnt a):((zO (cnt a)).map (jU a))[k]! =jU a k:=by
 rw[getElem!_pos _ k (by rw[n7];exact h),yH,List.getElem_range]
def Kq(op:Int):Prop:=op=11\/op=12\/op=21\/op=22
def Q0{op x y:Int}(hx:cj x)(hy:cj y)(ho:Kq op):cj (e9 op x y):=by
 rcases ho with rfl|rfl|rfl|rfl
 ·exact(Nq hx).1
 ·show cj (if y=0 then 0 else x-y*mW x y);by_cases h0:y=0
  ·rw[bD h0];exact⟨by omega,by omega⟩
  ·rw[bL h0];exact(N3 hy h0).1
 ·show cj (min x y);obtain⟨h1,h2⟩:=hx;obtain⟨h3,h4⟩:=hy;exact⟨by omega,by omega⟩
 ·show cj (max x y);obtain⟨h1,h2⟩:=hx;obtain⟨h3,h4⟩:=hy;exact⟨by omega,by omega⟩
def XR(op:Int)(a b:aH)(i j:Nat)(y:Int):Prop:=(∃k,k<i/\∃m,m<cnt b/\y=e9 op (jU a k) (jU b m))\/∃m,m<j/\y=e9 op (jU a i) (jU b m)
def Wd{op:Int}{a b c:aH}(ho:Kq op)(ha:NN a)(hb:NN b)(hs:cnt b<=1000000){i:Nat}(hi:i<cnt a){o:aH}{l:aa Int}{n t:Int}(hr:k9 (XR op a b i 0) o)(hv:NV o):
  ∃o',C4 (mM.mk op (jU a i) l n t ((zO (cnt b)).map (jU b)) (cnt b:Nat) 0 b c o)=I (mM.mk op (jU a i) l n t ((zO (cnt b)).map (jU b)) (cnt b:Nat) (cnt b:Nat) b c o')/\k9 (XR op a b (i+1) 0) o'/\NV o':=by
 obtain⟨o',e,hI,hv'⟩:=cO (rnd:=E4) (cnt b) (λj (o:aH)=>mM.mk op (jU a i) l n t ((zO (cnt b)).map (jU b)) (cnt b:Nat) (j:Nat) b c o) (λj o=>k9 (XR op a b i j) o/\NV o)
  (λj o hj hI=>by
   have hR:=Q0 (qI ha hi) (qI hb hj) ho;unfold E4;simp only;rw[mg,bB,n7,ga,zf,bD ⟨trivial,hj⟩,Ko b hj,YQ (qI ha hi) (qI hb hj) ho];simp only;rw[gS hI.2 (.inr (show NN (fX (e9 op (jU a i) (jU b j)))from NN.one hR.1 hR.2)),fD hj hs];refine⟨_,rfl,(hI.1.join (HA _) hI.2 (o7 hR)).congr λy=> ?_,dZ hI.2 (o7 hR)⟩;constructor
   ·rintro((h|⟨m,hm,h⟩)|rfl)
    ·exact .inl h
    ·exact .inr ⟨m,by omega,h⟩
    ·exact .inr ⟨j,by omega,rfl⟩
   ·rintro(h|⟨m,hm,h⟩)
    ·exact .inl (.inl h)
    ·rcases y4.mp hm with c|rfl
     ·exact .inl (.inr ⟨m,c,h⟩)
     ·exact .inr h)
  (λo hI=>by
   unfold E4;simp only;rw[eH];rfl) (b:=o) ⟨hr,hv⟩
 refine⟨o',e,hI.congr λy=> ?_,hv'⟩;constructor
 ·rintro(⟨k,hk,h⟩|⟨m,hm,h⟩)
  ·exact .inl ⟨k,by omega,h⟩
  ·exact .inl ⟨i,by omega,m,hm,h⟩
 ·rintro(⟨k,hk,h⟩|⟨m,hm,_⟩)
  ·rcases y4.mp hk with c|rfl
   ·exact .inl ⟨k,c,h⟩
   ·obtain⟨m,hm,h⟩:=h;exact .inr ⟨m,hm,h⟩
  ·exact dg hm (yC _)
def Nd{op:Int}{a b:aH}(ho:Kq op)(ha:NN a)(hb:NN b)(hs:cnt a*cnt b<=4096):∃c,tv op a b=I c/\cW (qA op a b) c:=by
 have hca:cnt a<=4096:=zH (Nat.le_mul_of_pos_right _ (gP hb)) hs;have hcb:cnt b<=4096:=zH (Nat.le_mul_of_pos_left _ (gP ha)) hs;unfold tv;rw[jM (.inr ha),jM (.inr hb),fE ha,fE hb];simp only;have hp:((cnt a:Nat):Int)*((cnt b:Nat):Int)<=4096:=by rw[<-xq];omega
 have hp0:0<=((cnt a:Nat):Int)*((cnt b:Nat):Int):=by rw[<-xq];omega
 rw[bT (show ¬(4096:Int)<((cnt a:Nat):Int)by omega),bT (show ¬(4096:Int)<((cnt b:Nat):Int)by omega),bz,bz,aI,eH,bz,PE ha (by omega)];simp only;rw[n7];obtain⟨o,e,hI,hv⟩:=cO (rnd:=uC) (cnt a) (λi (o:aH)=>oF.mk op ((zO (cnt a)).map (jU a)) (cnt a:Nat) (i:Nat) b (aH.mk 0 0 0) o) (λi o=>k9 (XR op a b i 0) o/\NV o)
  (λi o hi hI=>by
   unfold uC;simp only;rw[mg,bB,n7,ga,zf,bD ⟨trivial,hi⟩,Ko a hi,PE hb (by omega)];simp only;rw[n7];obtain⟨o',e,h1,h2⟩:=Wd (c:=aH.mk 0 0 0) (l:=(zO (cnt a)).map (jU a)) (n:=(cnt a:Nat)) (t:=(i:Nat)) ho ha hb (by omega) hi hI.1 hI.2;rw[e];simp only;rw[eH,bz,fD hi (by omega)];exact⟨o',rfl,h1,h2⟩)
  (λo hI=>by
   unfold uC;simp only;rw[eH];rfl) (b:=cw) ⟨.none λy h=>by
    rcases h with ⟨k,hk,_⟩|⟨m,hm,_⟩
    ·exact dg hk (yC _)
    ·exact dg hm (yC _), .inl rfl⟩
 have e:bG uC (oF.mk op ((zO (cnt a)).map (jU a)) (cnt a:Nat) 0 b (aH.mk 0 0 0) gX)=I (oF.mk op ((zO (cnt a)).map (jU a)) (cnt a:Nat) (cnt a:Nat) b (aH.mk 0 0 0) o):=e;rw[show GK=bG uC from rfl,e];simp only;rw[eH,bz];refine⟨o,rfl,?_⟩;have mem:∀y,XR op a b (cnt a) 0 y↔qA op a b y:=λy=>⟨λh=>by
  rcases h with ⟨k,hk,m,hm,e⟩|⟨m,hm,_⟩
  ·exact⟨_,_,(gz ha _).mpr ⟨k,hk,rfl⟩,(gz hb _).mpr ⟨m,hm,rfl⟩,e⟩
  ·exact dg hm (yC _),λ⟨x,z,hx,hz,e⟩=>by
  obtain⟨k,hk,rfl⟩:=(gz ha _).mp hx;obtain⟨m,hm,rfl⟩:=(gz hb _).mp hz;exact .inl ⟨k,hk,m,hm,e⟩⟩
 rcases hI.congr mem with ⟨_,k⟩|k
 ·exact dg ⟨_,_,(gz ha _).mpr ⟨0,gP ha,rfl⟩,(gz hb _).mpr ⟨0,gP hb,rfl⟩,rfl⟩ (k (e9 op (jU a 0) (jU b 0)))
 ·exact k
def UJ{op:Int}{a b:aH}(ha:NN a)(hb:NN b)(hs:¬cnt a*cnt b<=4096):tv op a b=S2 op a b:=by
 have idm:∀r:af aH,(match r with|none=>none|some r8=>some r8)=r:=λr=>by cases r<;>rfl
 unfold tv;rw[jM (.inr ha),jM (.inr hb),fE ha,fE hb];simp only;by_cases c1:(4096:Int)<((cnt a:Nat):Int)
 ·rw[bV c1,bB];exact idm _
 ·rw[bT c1,bz];by_cases c2:(4096:Int)<((cnt b:Nat):Int)
  ·rw[bV c2,bB];exact idm _
  ·have hb':((cnt a:Nat):Int)*((cnt b:Nat):Int)<=4096*4096:=yT (by omega) (by omega) (by omega) (by omega);have hp:(4096:Int)<((cnt a:Nat):Int)*((cnt b:Nat):Int):=by rw[<-xq];omega
   rw[bT c2,bz,aI,bV hp,bB];exact idm _
instance (op:Int):Decidable (binop op):=inferInstanceAs (Decidable (_/\_))
def idm{α:Type}(r:af α):(match r with|none=>none|some x=>some x)=r:=by cases r<;>rfl
def jl(op:Int):wV op=O (binop op):=by
 unfold wV;by_cases h:binop op
 ·obtain⟨o1,o2⟩:=h;have cases15:op=8\/op=9\/op=10\/op=11\/op=12\/op=13\/op=14\/op=15\/op=16\/op=17\/op=18\/op=19\/op=20\/op=21\/op=22:=by omega
  rcases cases15 with rfl|rfl|rfl|rfl|rfl|rfl|rfl|rfl|rfl|rfl|rfl|rfl|rfl|rfl|rfl<;>rfl
 ·have k:∀n:Int,8<=n->n<=22->¬op=n:=λn h1 h2 e=>h (by unfold binop;omega);rw[show O (binop op)=G from bT h];rw[bT (k 8 (by decide) (by decide)),bT (k 9 (by decide) (by decide)),bT (k 10 (by decide) (by decide)),bT (k 11 (by decide) (by decide)),bT (k 12 (by decide) (by decide)),
   bT (k 13 (by decide) (by decide)),bT (k 14 (by decide) (by decide)),bT (k 15 (by decide) (by decide)),bT (k 16 (by decide) (by decide)),bT (k 17 (by decide) (by decide)),
   bT (k 18 (by decide) (by decide)),bT (k 19 (by decide) (by decide)),bT (k 20 (by decide) (by decide)),bT (k 21 (by decide) (by decide)),bT (k 22 (by decide) (by decide))]
  rfl
def D0{a b:aH}(hb:NN b):((cnt a:Nat):Int)<=(4096:Int)/((cnt b:Nat):Int)↔cnt a*cnt b<=4096:=by
 have:=gP hb;rw[Int.le_ediv_iff_mul_le (by omega),<-xq];omega
def mz{op:Int}{a b:aH}(ho:binop op)(ha:NN a)(hb:NN b)(hs:cnt a*cnt b<=4096):nj op a b=MB op a b:=by
 have:=gP hb;unfold nj;rw[fq,fq,dD (.inr ha),dD (.inr hb),show DC op=wV op from rfl,jl,bV ho];simp only[bB,bz];rw[gp ha,gp hb,dL (.inr ha),dL (.inr hb),fE ha,fE hb];simp only[bz];have q0:0<=(4096:Int)/((cnt b:Nat):Int):=zP (by omega) (by omega);have q1:(4096:Int)/((cnt b:Nat):Int)<=4096:=yc _ (by omega);rw[bD (show ¬@Eq Int ((cnt b:Nat):Int) 0 by omega),jq,aI,bV ((D0 hb).mpr hs),bB];cases MB op a b<;>rfl
def RQ(a0:Int)(a1 a2:aH):af (aH×Int):=
 bif O (a0=8)then tN a0 a1 a2 else bif O (a0=9)then tN a0 a1 a2 else bif O (a0=10)then tN a0 a1 a2 else bif O (a0=11)then
  (bif(O (0<=a1.ag)&&O (0<=a2.ag))then iF 0 (max a1.ag.natAbs a1.ah.natAbs:Nat) 1 else iF (-((max a1.ag.natAbs a1.ah.natAbs:Nat):Int)) (max a1.ag.natAbs a1.ah.natAbs:Nat) 1)
 else bif O (a0=12)then iF (if a2.ag<0 then a2.ag+1 else 0) (if 0<a2.ah then a2.ah-1 else 0) 1
 else bif O (a0=21)then(match m41 (cq a1 a2) (min a1.ah a2.ah)with|S=>S|I c=>I (c,0))
 else bif O (a0=22)then(match TA (cq a1 a2) (max a1.ag a2.ag-1)with|S=>S|I c=>I (c,0))
 else(match uU a0 a1 a2 with|S=>S|I c=>I (c,0))
def rX{op:Int}{a b:aH}(ho:binop op)(ha:NN a)(hb:NN b)(hs:¬cnt a*cnt b<=4096):nj op a b=RQ op a b:=by
 have:=gP hb;have r1:=ha.pW;have r2:=ha.vU;have r3:=hb.pW;have r4:=hb.vU;obtain⟨a1,a2⟩:=r1;obtain⟨a3,a4⟩:=r2;obtain⟨b1,b2⟩:=r3;obtain⟨b3,b4⟩:=r4;unfold nj RQ;rw[fq,fq,dD (.inr ha),dD (.inr hb),show DC op=wV op from rfl,jl,bV ho];simp only[bB,bz];rw[gp ha,gp hb,dL (.inr ha),dL (.inr hb),fE ha,fE hb];simp only[bz];have q0:0<=(4096:Int)/((cnt b:Nat):Int):=zP (by omega) (by omega);have q1:(4096:Int)/((cnt b:Nat):Int)<=4096:=yc _ (by omega);rw[bD (show ¬@Eq Int ((cnt b:Nat):Int) 0 by omega),jq,aI (n:=(4096:Int)/((cnt b:Nat):Int)),bT (λk=>hs ((D0 hb).mp k)),bz];have cases15:op=8\/op=9\/op=10\/op=11\/op=12\/op=13\/op=14\/op=15\/op=16\/op=17\/op=18\/op=19\/op=20\/op=21\/op=22:=by
  obtain⟨o1,o2⟩:=ho;omega
 have ez:(bif O (0<=a.ag)then some (O (0<=b.ag))else some false)=some (O (0<=a.ag)&&O (0<=b.ag)):=by cases O (0<=a.ag)<;>rfl
 rcases cases15 with rfl|rfl|rfl|rfl|rfl|rfl|rfl|rfl|rfl|rfl|rfl|rfl|rfl|rfl|rfl
 all_goals simp only[Int.reduceEq,fS,cR,bz,bB]
 ·cases tN 8 a b<;>rfl
 ·cases tN 9 a b<;>rfl
 ·cases tN 10 a b<;>rfl
 ·rw[tU ha.pW,tU ha.vU,ez];simp only;by_cases c:((a.ag.natAbs:Nat):Int)<((a.ah.natAbs:Nat):Int)
  ·rw[bV c,bB,aI,xJ,Nat.max_eq_right (by omega)];cases (O (0<=a.ag)&&O (0<=b.ag))with
   |true=>(simp only[bB,bz];generalize iF _ _ _=z;cases z<;>rfl)
   |false=>(simp only[bB,bz];generalize iF _ _ _=z;cases z<;>rfl)
  ·rw[bT c,bz,aI,xJ,Nat.max_eq_left (by omega)];cases (O (0<=a.ag)&&O (0<=b.ag))with
   |true=>(simp only[bB,bz];generalize iF _ _ _=z;cases z<;>rfl)
   |false=>(simp only[bB,bz];generalize iF _ _ _=z;cases z<;>rfl)
 ·rw[aI (n:=b.ag+1),aI (n:=b.ah-1)];by_cases c:b.ag<0<;>by_cases d:0<b.ah
  ·rw[bV c,bV d,bD c,bD d];(simp only[bB,bz];generalize iF _ _ _=z;cases z<;>rfl)
  ·rw[bV c,bT d,bD c,bL d];(simp only[bB,bz];generalize iF _ _ _=z;cases z<;>rfl)
  ·rw[bT c,bV d,bL c,bD d];(simp only[bB,bz];generalize iF _ _ _=z;cases z<;>rfl)
  ·rw[bT c,bT d,bL c,bL d];(simp only[bB,bz];generalize iF _ _ _=z;cases z<;>rfl)
 ·cases uU 13 a b<;>rfl
 ·cases uU 14 a b<;>rfl
 ·cases uU 15 a b<;>rfl
 ·cases uU 16 a b<;>rfl
 ·cases uU 17 a b<;>rfl
 ·cases uU 18 a b<;>rfl
 ·cases uU 19 a b<;>rfl
 ·cases uU 20 a b<;>rfl
 ·obtain⟨v,ev,hv⟩:=kK (op:=21) ha.vU hb.vU ⟨by decide,by decide⟩;have hv:v=min a.ah b.ah:=hv (Q0 ha.vU hb.vU (.inr (.inr (.inl rfl))));rw[ev,fJ (.inr ha) (.inr hb)];simp only;rw[hv];cases m41 (cq a b) (min a.ah b.ah)<;>rfl
 ·obtain⟨v,ev,hv⟩:=kK (op:=22) ha.pW hb.pW ⟨by decide,by decide⟩;have hv:v=max a.ag b.ag:=hv (Q0 ha.pW hb.pW (.inr (.inr (.inr rfl))));rw[ev,fJ (.inr ha) (.inr hb)];simp only;rw[hv,aI];cases TA (cq a b) (max a.ag b.ag-1)<;>rfl
def VX{op:Int}{a b:aH}(ho:Kq op)(ha:NN a)(hb:NN b):∃c,tv op a b=I c/\nj op a b=I (c,0)/\NV c:=by
 have hbin:binop op:=by unfold binop;rcases ho with rfl|rfl|rfl|rfl<;>decide
 have r1:=ha.pW;have r2:=ha.vU;have r3:=hb.pW;have r4:=hb.vU;by_cases hs:cnt a*cnt b<=4096
 ·obtain⟨c,e1,h1⟩:=Nd ho ha hb hs;have hR:∀y,qA op a b y->cj y:=λy ⟨x,z,hx,hz,e⟩=>by rw[e];exact Q0 (RP (.inr ha) hx) (RP (.inr hb) hz) ho
  rw[mz hbin ha hb hs];rcases Ar hbin ha hb (by omega)with ⟨_,d,e2,h2⟩|⟨k,_⟩
  ·rw[h2.uniq h1]at e2;exact⟨c,e1,e2, .inr (h1.valid hR)⟩
  ·exact dg hR k
 ·rw[UJ ha hb hs,rX hbin ha hb hs];obtain⟨a1,a2⟩:=r1;obtain⟨a3,a4⟩:=r2;obtain⟨b1,b2⟩:=r3;obtain⟨b3,b4⟩:=r4;unfold S2 RQ;rcases ho with rfl|rfl|rfl|rfl
  all_goals simp only[Int.reduceEq,fS,cR,bz,bB]
  ·rw[lN ha.pW,lN ha.vU];have em:(if((a.ag.natAbs:Nat):Int)<((a.ah.natAbs:Nat):Int)then((a.ah.natAbs:Nat):Int)else((a.ag.natAbs:Nat):Int))=((max a.ag.natAbs a.ah.natAbs:Nat):Int):=by split<;>omega
   rw[em];have ez:(bif O (0<=a.ag)then some (O (0<=b.ag))else some false)=some (O (0<=a.ag)&&O (0<=b.ag)):=by cases O (0<=a.ag)<;>rfl
   rw[ez];simp only;have hm:((max a.ag.natAbs a.ah.natAbs:Nat):Int)<=1099511627776:=by omega
   generalize max a.ag.natAbs a.ah.natAbs=m at*;rw[aI,xJ,mK (by omega) (by omega) (by omega),mK (by omega) (by omega) (by omega),kM ⟨by omega,by omega⟩ ⟨by omega,by omega⟩ (by omega),kM ⟨by omega,by omega⟩ ⟨by omega,by omega⟩ (by omega)];cases (O (0<=a.ag)&&O (0<=b.ag))with
   |true=>exact⟨_,rfl,rfl, .inr (kN (by omega) (by omega) (by omega) (by omega))⟩
   |false=>exact⟨_,rfl,rfl, .inr (kN (by omega) (by omega) (by omega) (by omega))⟩
  ·rw[aI (n:=b.ag+1),aI (n:=b.ah-1)];rw[show (if 0<b.ag+1 then 0 else b.ag+1)=(if b.ag<0 then b.ag+1 else 0)by split<;>split<;>omega,show (if b.ah-1<0 then 0 else b.ah-1)=(if 0<b.ah then b.ah-1 else 0)by split<;>split<;>omega];have hp:(if b.ag<0 then b.ag+1 else 0)<=0/\ -1099511627776<=(if b.ag<0 then b.ag+1 else 0):=by split<;>omega
   have hq:0<=(if 0<b.ah then b.ah-1 else 0)/\(if 0<b.ah then b.ah-1 else 0)<=1099511627776:=by split<;>omega
   generalize (if b.ag<0 then b.ag+1 else 0)=p at*;generalize (if 0<b.ah then b.ah-1 else 0)=q at*;rw[mK (by omega) (by omega) (by omega),kM ⟨by omega,by omega⟩ ⟨by omega,by omega⟩ (by omega)];exact⟨_,rfl,rfl, .inr (kN (by omega) (by omega) (by omega) (by omega))⟩
  ·rw[gS (.inr ha) (.inr hb)];simp only;rw[show (if b.ah<a.ah then b.ah else a.ah)=min a.ah b.ah by split<;>omega];have vj:=dZ (.inr ha) (.inr hb);obtain⟨l,u,e1,h1,_⟩:=tC vj (min a.ah b.ah);obtain⟨l',e2,h2⟩:=F7 vj (min a.ah b.ah);rw[e1,e2,h2.rep.uniq h1.rep];exact⟨l,rfl,rfl,h1.1⟩
  ·rw[gS (.inr ha) (.inr hb)];simp only;rw[show (if a.ag<b.ag then b.ag else a.ag)=max a.ag b.ag by split<;>omega,aI];have vj:=dZ (.inr ha) (.inr hb);obtain⟨l,u,e1,_,h1⟩:=tC vj (max a.ag b.ag-1);obtain⟨u',e2,h2⟩:=vI vj (max a.ag b.ag-1);rw[e1,e2,h2.rep.uniq h1.rep];exact⟨u,rfl,rfl,h1.1⟩
def ssc(a b c:Int):a-c-(b-c)=a-b:=by omega
def cQ{a:aH}(h:NN a):bN a a.ag:=⟨zw _,h.le,⟨0,by omega⟩⟩
def fI{a:aH}(h:NN a):bN a a.ah:=⟨h.le,zw _,h.dvd⟩
def OI{a:aH}(h:NN a):bN a (a.ag+a.aj):=⟨by have:=h.s0;omega,by have:=h.sle;omega,⟨1,by omega⟩⟩
def Kl(a:aH)(x:Int):Prop:=x=a.ag\/x=a.ag+a.aj\/x=a.ah
def nU{a:aH}(h:NN a){x:Int}(hx:Kl a x):bN a x:=by
 rcases hx with rfl|rfl|rfl
 ·exact cQ h
 ·exact OI h
 ·exact fI h
structure Mid (op:Int) (a b:aH) (Q:Int->Prop):Prop where
 c:∀x z,Kl a x->Kl b z->Q (e9 op x z)
 v:∀y,Q y->qA op a b y
def BF(op:Int)(a b:aH)(y:Int):Prop:=∃x z,Kl a x/\Kl b z/\y=e9 op x z
def ahl{op:Int}{a b:aH}(ha:NN a)(hb:NN b):Mid op a b (qA op a b):=⟨λx z hx hz=>⟨x,z,nU ha hx,nU hb hz,rfl⟩,λ_ h=>h⟩
def ahV{op:Int}{a b:aH}(ha:NN a)(hb:NN b):Mid op a b (BF op a b):=⟨λx z hx hz=>⟨x,z,hx,hz,rfl⟩,λ_ ⟨x,z,hx,hz,e⟩=>⟨x,z,nU ha hx,nU hb hz,e⟩⟩
def I4{a b:aH}(ha:NN a)(hb:NN b){Q:Int->Prop}(h:Mid 8 a b Q):cW Q (aH.mk (a.ag+b.ag) (a.ah+b.ah) (bZ a.aj b.aj)):=by
 refine⟨h.c a.ag b.ag (.inl rfl) (.inl rfl),h.c a.ah b.ah (.inr (.inr rfl)) (.inr (.inr rfl)),λy hy=> ?_,kA _ _,λd hd=>iG ?_ ?_⟩
 ·obtain⟨x,z,⟨x1,x2,x3⟩,⟨z1,z2,z3⟩,rfl⟩:=h.v y hy;show a.ag+b.ag<=x+z/\x+z<=a.ah+b.ah/\bZ a.aj b.aj∣x+z-(a.ag+b.ag);refine⟨by omega,by omega,?_⟩;have:=yU (zS (jo a.aj b.aj) x3) (zS (om a.aj b.aj) z3)
  rwa [show x-a.ag+(z-b.ag)=x+z-(a.ag+b.ag)by omega]at this
 ·have:=hd _ (h.c (a.ag+a.aj) b.ag (.inr (.inl rfl)) (.inl rfl));have this:d∣a.ag+a.aj+b.ag-(a.ag+b.ag):=this
  rwa [show a.ag+a.aj+b.ag-(a.ag+b.ag)=a.aj by omega]at this
 ·have:=hd _ (h.c a.ag (b.ag+b.aj) (.inl rfl) (.inr (.inl rfl)));have this:d∣a.ag+(b.ag+b.aj)-(a.ag+b.ag):=this
  rwa [show a.ag+(b.ag+b.aj)-(a.ag+b.ag)=b.aj by omega]at this
def KW{a b:aH}(ha:NN a)(hb:NN b){Q:Int->Prop}(h:Mid 9 a b Q):cW Q (aH.mk (a.ag-b.ah) (a.ah-b.ag) (bZ a.aj b.aj)):=by
 refine⟨h.c a.ag b.ah (.inl rfl) (.inr (.inr rfl)),h.c a.ah b.ag (.inr (.inr rfl)) (.inl rfl),λy hy=> ?_,kA _ _,λd hd=>iG ?_ ?_⟩
 ·obtain⟨x,z,⟨x1,x2,x3⟩,⟨z1,z2,z3⟩,rfl⟩:=h.v y hy;show a.ag-b.ah<=x-z/\x-z<=a.ah-b.ag/\bZ a.aj b.aj∣x-z-(a.ag-b.ah);refine⟨by omega,by omega,?_⟩;have k:=yq hb.dvd z3;have:=yU (zS (jo a.aj b.aj) x3) (zS (om a.aj b.aj) k)
  rwa [show x-a.ag+(b.ah-b.ag-(z-b.ag))=x-z-(a.ag-b.ah)by omega]at this
 ·have:=hd _ (h.c (a.ag+a.aj) b.ah (.inr (.inl rfl)) (.inr (.inr rfl)));have this:d∣a.ag+a.aj-b.ah-(a.ag-b.ah):=this
  rwa [show a.ag+a.aj-b.ah-(a.ag-b.ah)=a.aj by omega]at this
 ·have k1:=hd _ (h.c a.ag b.ag (.inl rfl) (.inl rfl));have k2:=hd _ (h.c a.ag (b.ag+b.aj) (.inl rfl) (.inr (.inl rfl)));have k1:d∣a.ag-b.ag-(a.ag-b.ah):=k1;have k2:d∣a.ag-(b.ag+b.aj)-(a.ag-b.ah):=k2;have:=yq k1 k2
  rwa [show a.ag-b.ag-(a.ag-b.ah)-(a.ag-(b.ag+b.aj)-(a.ag-b.ah))=b.aj by omega]at this
def MX{l h x z:Int}(h1:l<=x)(h2:x<=h):min (l*z) (h*z)<=x*z/\x*z<=max (l*z) (h*z):=by
 rcases Int.le_total 0 z with c|c
 ·have k1:=zM h1 c;have k2:=zM h2 c;omega
 ·have k1:=Int.mul_le_mul_of_nonpos_right h1 c;have k2:=Int.mul_le_mul_of_nonpos_right h2 c;omega
def Sl(p q r s:Int):Int:=min (min p q) (min r s)
def hi4(p q r s:Int):Int:=max (max p q) (max r s)
def Rv{a b:aH}{x z:Int}(hx:a.ag<=x/\x<=a.ah)(hz:b.ag<=z/\z<=b.ah):
  Sl (a.ag*b.ag) (a.ag*b.ah) (a.ah*b.ag) (a.ah*b.ah)<=x*z/\x*z<=hi4 (a.ag*b.ag) (a.ag*b.ah) (a.ah*b.ag) (a.ah*b.ah):=by
 have k1:=MX (z:=x) hz.1 hz.2;have k2:=MX (z:=b.ag) hx.1 hx.2;have k3:=MX (z:=b.ah) hx.1 hx.2;rw[zC b.ag x,zC b.ah x,zC z x]at k1;unfold Sl hi4;omega
def afY{P:Int->Prop}{p q r s:Int}(h1:P p)(h2:P q)(h3:P r)(h4:P s):P (Sl p q r s)/\P (hi4 p q r s):=by
 have e1:Sl p q r s=p\/Sl p q r s=q\/Sl p q r s=r\/Sl p q r s=s:=by unfold Sl;omega
 have e2:hi4 p q r s=p\/hi4 p q r s=q\/hi4 p q r s=r\/hi4 p q r s=s:=by unfold hi4;omega
 constructor
 ·rcases e1 with e|e|e|e<;>rw[e]<;>assumption
 ·rcases e2 with e|e|e|e<;>rw[e]<;>assumption
def akw(a b:aH):aH:=aH.mk (Sl (a.ag*b.ag) (a.ag*b.ah) (a.ah*b.ag) (a.ah*b.ah)) (hi4 (a.ag*b.ag) (a.ag*b.ah) (a.ah*b.ag) (a.ah*b.ah)) (bZ (bZ (a.aj*b.ag) (b.aj*a.ag)) (a.aj*b.aj))
def JB{a b:aH}(ha:NN a)(hb:NN b){Q:Int->Prop}(h:Mid 10 a b Q):cW Q (akw a b):=by
 have h00:Q (a.ag*b.ag):=h.c a.ag b.ag (.inl rfl) (.inl rfl);have h01:Q (a.ag*b.ah):=h.c a.ag b.ah (.inl rfl) (.inr (.inr rfl));have h10:Q (a.ah*b.ag):=h.c a.ah b.ag (.inr (.inr rfl)) (.inl rfl);have h11:Q (a.ah*b.ah):=h.c a.ah b.ah (.inr (.inr rfl)) (.inr (.inr rfl));obtain⟨q1,q2⟩:=afY (P:=Q) h00 h01 h10 h11;have g1:bZ (bZ (a.aj*b.ag) (b.aj*a.ag)) (a.aj*b.aj)∣a.aj*b.ag:=zS (jo _ _) (jo _ _);have g2:bZ (bZ (a.aj*b.ag) (b.aj*a.ag)) (a.aj*b.aj)∣b.aj*a.ag:=zS (jo _ _) (om _ _);have g3:bZ (bZ (a.aj*b.ag) (b.aj*a.ag)) (a.aj*b.aj)∣a.aj*b.aj:=om _ _;have base:∀y,Q y->bZ (bZ (a.aj*b.ag) (b.aj*a.ag)) (a.aj*b.aj)∣y-a.ag*b.ag:=λy hy=>by
  obtain⟨x,z,⟨_,_,i,x3⟩,⟨_,_,j,z3⟩,rfl⟩:=h.v y hy;show _∣x*z-a.ag*b.ag;have e:x*z-a.ag*b.ag=i*(a.aj*b.ag)+j*(b.aj*a.ag)+i*j*(a.aj*b.aj):=by
   have ex:x=a.ag+a.aj*i:=by omega
   have ez:z=b.ag+b.aj*j:=by omega
   rw[ex,ez,zQ,yW,yW];have t1:a.ag*(b.aj*j)=j*(b.aj*a.ag):=by rw[<-zN,zC (a.ag*b.aj) j,zC a.ag b.aj]
   have t2:a.aj*i*b.ag=i*(a.aj*b.ag):=by rw[zC a.aj i,zN]
   have t3:a.aj*i*(b.aj*j)=i*j*(a.aj*b.aj):=by
    rw[zC a.aj i,zC b.aj j,zN,Int.mul_left_comm a.aj j,<-zN]
   rw[t1,t2,t3];omega
  rw[e];exact yU (yU (zS g1 (xh ..)) (zS g2 (xh ..))) (zS g3 (xh ..))
 refine⟨q1,q2,λy hy=> ?_,kA _ _,λd hd=> ?_⟩
 ·obtain⟨x,z,hx,hz,e⟩:=h.v y hy;have e:y=x*z:=e;have k:=Rv ⟨hx.1,hx.2.1⟩ ⟨hz.1,hz.2.1⟩;refine⟨by rw[e];exact k.1,by rw[e];exact k.2,?_⟩;have:=yq (base y hy) (base _ q1)
  rwa [ssc]at this
 ·have diff:∀y y',Q y->Q y'->d∣y-y':=λy y' hy hy'=>by
   have:=yq (hd y hy) (hd y' hy')
   rwa [ssc]at this
  have p10:Q ((a.ag+a.aj)*b.ag):=h.c _ _ (.inr (.inl rfl)) (.inl rfl);have p01:Q (a.ag*(b.ag+b.aj)):=h.c _ _ (.inl rfl) (.inr (.inl rfl));have p11:Q ((a.ag+a.aj)*(b.ag+b.aj)):=h.c _ _ (.inr (.inl rfl)) (.inr (.inl rfl));have d1:=diff _ _ p10 h00;rw[zQ,Int.add_comm (a.ag*b.ag),Int.add_sub_cancel]at d1;have d2:=diff _ _ p01 h00;rw[yW,Int.add_comm (a.ag*b.ag),Int.add_sub_cancel,zC]at d2;have d3:=yq (diff _ _ p11 p10) d2;rw[yW (a.ag+a.aj),Int.add_comm ((a.ag+a.aj)*b.ag),Int.add_sub_cancel,zQ,zC b.aj a.ag,Int.add_comm (a.ag*b.aj),Int.add_sub_cancel]at d3;exact iG (iG d1 d2) d3
def fm(a:aH):aa Int:=[a.ag,a.ag+a.aj,a.ah]
def mE(a:aH)(x:Int):Kl a x↔∃k,k<3/\x=(fm a)[k]! :=by
 constructor
 ·rintro(rfl|rfl|rfl)
  ·exact⟨0,by omega,rfl⟩
  ·exact⟨1,by omega,rfl⟩
  ·exact⟨2,by omega,rfl⟩
 ·rintro⟨k,hk,rfl⟩;rcases (show k=0\/k=1\/k=2 by omega)with rfl|rfl|rfl
  ·exact .inl rfl
  ·exact .inr (.inl rfl)
  ·exact .inr (.inr rfl)
def Er{a:aH}(h:NN a){k:Nat}(hk:k<3):cj (fm a)[k]! :=RP (.inr h) (nU h ((mE a _).mpr ⟨k,hk,rfl⟩))
def prC(op:Int)(a b:aH)(i j:Nat)(l:aa Int):Prop:=(∀y,y∈l↔(∃k,k<i/\∃m,m<3/\y=e9 op (fm a)[k]! (fm b)[m]!)\/∃m,m<j/\y=e9 op (fm a)[i]! (fm b)[m]!)/\l.length=i*3+j/\∀y∈l,cj y
def ace{op:Int}{a b:aH}{i:Nat}{l:aa Int}(h:prC op a b i 3 l):prC op a b (i+1) 0 l:=by
 refine⟨λy=>(h.1 y).trans ⟨?_,?_⟩,by rw[h.2.1];omega,h.2.2⟩
 ·rintro(⟨k,hk,m,hm,e⟩|⟨m,hm,e⟩)
  ·exact .inl ⟨k,by omega,m,hm,e⟩
  ·exact .inl ⟨i,by omega,m,hm,e⟩
 ·rintro(⟨k,hk,m,hm,e⟩|⟨m,hm,e⟩)
  ·rcases y4.mp hk with c|rfl
   ·exact .inl ⟨k,c,m,hm,e⟩
   ·exact .inr ⟨m,hm,e⟩
  ·exact dg hm (yC _)
def Xv{op:Int}{a b c:aH}(ho:binop op)(ha:NN a)(hb:NN b){i:Nat}(hi:i<3){l:aa Int}(hl:prC op a b i 0 l):
  (∃l',qR (gV.mk op l (fm a) (fm b) i 0 c)=I (gV.mk op l' (fm a) (fm b) i 3 c)/\prC op a b (i+1) 0 l')\/
  (∃l' j,j<3/\qR (gV.mk op l (fm a) (fm b) i 0 c)=I (gV.mk op l' (fm a) (fm b) i (j:Nat) c)/\¬cj (e9 op (fm a)[i]! (fm b)[j]!)):=by
 have ll:∀a:aH,(fm a).length=3:=λ_=>rfl;obtain⟨j,l',e,hI,h⟩:=oO (rnd:=C3) 3 (λj (l:aa Int)=>gV.mk op l (fm a) (fm b) i (j:Nat) c) (λj l=>prC op a b i j l) (λj l=>¬cj (e9 op (fm a)[i]! (fm b)[j]!))
  (λj l hj hI=>by
   obtain⟨v,ev,hv⟩:=kK (Er ha hi) (Er hb hj) ho;unfold C3;simp only;rw[mg,bB,ll,ll,ga,zf,bD ⟨trivial,hi⟩,ga,zf,bD ⟨trivial,hj⟩,ev];simp only;by_cases hr:cj (e9 op (fm a)[i]! (fm b)[j]!)
   ·left;rw[bV hr];simp only[bB,bz];rw[bD (by rw[zl,hI.2.1];simp;omega),fD hj (by omega),hv hr];refine⟨_,rfl,λy=> ?_,by rw[zl,hI.2.1];simp;omega,λy hy=> ?_⟩
    ·rw[zU,zJ,hI.1 y];constructor
     ·rintro((h|⟨m,hm,h⟩)|rfl)
      ·exact .inl h
      ·exact .inr ⟨m,by omega,h⟩
      ·exact .inr ⟨j,by omega,rfl⟩
     ·rintro(h|⟨m,hm,h⟩)
      ·exact .inl (.inl h)
      ·rcases y4.mp hm with c|rfl
       ·exact .inl (.inr ⟨m,c,h⟩)
       ·exact .inr h
    ·rcases zU.mp hy with hy|hy
     ·exact hI.2.2 y hy
     ·rw[zJ.mp hy];exact hr
   ·right;rw[bT hr];exact⟨rfl,hr⟩)
  (λl hI=>by
   unfold C3;simp only;rw[eH];rfl) (b:=l) hl
 have e:bG C3 (gV.mk op l (fm a) (fm b) i 0 c)=I (gV.mk op l' (fm a) (fm b) i (j:Nat) c):=e;rcases h with rfl|⟨hj,h⟩
 ·exact .inl ⟨l',e,ace hI⟩
 ·exact .inr ⟨l',j,hj,e,h⟩
def Yx{op:Int}{a b:aH}(ho:binop op)(ha:NN a)(hb:NN b):
  ((∀y,BF op a b y->cj y)/\∃c,tN op a b=I (c,0)/\cW (BF op a b) c)\/((¬∀y,BF op a b y->cj y)/\tN op a b=I (aH.mk 0 0 0,3)):=by
 have ll:∀a:aH,(fm a).length=3:=λ_=>rfl;have wc:∀{a:aH},NN a->[a.ag,i64.wrap (a.ag+a.aj),a.ah]=fm a:=λ{a} h=>by
  have:=RP (.inr h) (OI h);rw[aI (by have:=this.1;omega) (by have:=this.2;omega)];rfl
 unfold tN;rw[wc ha,wc hb];obtain⟨i,l,e,hI,h⟩:=oO (rnd:=tY) 3 (λi (l:aa Int)=>oM.mk op l (fm a) (fm b) (i:Nat) (aH.mk 0 0 0)) (λi l=>prC op a b i 0 l) (λi l=>∃l' j,j<3/\qR (gV.mk op l (fm a) (fm b) i 0 (aH.mk 0 0 0))=I (gV.mk op l' (fm a) (fm b) i (j:Nat) (aH.mk 0 0 0))/\¬cj (e9 op (fm a)[i]! (fm b)[j]!))
  (λi l hi hI=>by
   unfold tY;simp only;rw[mg,bB];rcases Xv (c:=aH.mk 0 0 0) ho ha hb hi hI with ⟨l',e,h⟩|⟨l',j,hj,e,h⟩
   ·left;rw[e];simp only;rw[eH,bz,fD hi (by omega)];exact⟨l',rfl,h⟩
   ·right;refine⟨?_,l',j,hj,e,h⟩;rw[e];simp only;obtain⟨v,ev,hv⟩:=kK (Er ha hi) (Er hb hj) ho;rw[mg,bB,ll,ll,ga,zf,bD ⟨trivial,hi⟩,ga,zf,bD ⟨trivial,hj⟩,ev];simp only;rw[bT h];rfl)
  (λl hI=>by
   unfold tY;simp only;rw[eH];rfl) (b:=[]) ⟨λy=>⟨λh=>dg h (by simp),λh=>by
    rcases h with ⟨k,hk,_⟩|⟨m,hm,_⟩
    ·exact dg hk (yC _)
    ·exact dg hm (yC _)⟩,by simp,λy hy=>dg hy (by simp)⟩
 have e:bG tY (oM.mk op [] (fm a) (fm b) 0 (aH.mk 0 0 0))=I (oM.mk op l (fm a) (fm b) (i:Nat) (aH.mk 0 0 0)):=e;rw[show HM=bG tY from rfl,e];simp only;rcases h with rfl|⟨hi,l',j,hj,e1,h⟩
 ·left;have mem:∀y,y∈l↔BF op a b y:=λy=>(hI.1 y).trans ⟨λh=>by
   rcases h with ⟨k,hk,m,hm,e⟩|⟨m,hm,_⟩
   ·exact⟨_,_,(mE a _).mpr ⟨k,hk,rfl⟩,(mE b _).mpr ⟨m,hm,rfl⟩,e⟩
   ·exact dg hm (yC _),λ⟨x,z,hx,hz,e⟩=>by
   obtain⟨k,hk,rfl⟩:=(mE a _).mp hx;obtain⟨m,hm,rfl⟩:=(mE b _).mp hz;exact .inl ⟨k,hk,m,hm,e⟩⟩
  rw[eH,bz];have hne:l≠[]:=λe=>by
   have:=hI.2.1;rw[e]at this;simp at this
  obtain⟨c,e2,hc⟩:=Hw hne (by rw[hI.2.1];omega) hI.2.2;rw[e2];exact⟨λy hy=>hI.2.2 y ((mem y).mpr hy),c,rfl,hc.congr mem⟩
 ·right;refine⟨λk=>h (k _ ⟨_,_,(mE a _).mpr ⟨i,hi,rfl⟩,(mE b _).mpr ⟨j,hj,rfl⟩,rfl⟩),?_⟩;rw[mg,bB,e1];simp only;obtain⟨v,ev,hv⟩:=kK (Er ha hi) (Er hb hj) ho;rw[mg,bB,ll,ll,ga,zf,bD ⟨trivial,hi⟩,ga,zf,bD ⟨trivial,hj⟩,ev];simp only;rw[bT h];rfl
def iY{op:Int}{a b c:aH}(ho:op=8\/op=9\/op=10)(ha:NN a)(hb:NN b)(hc:∀Q,Mid op a b Q->cW Q c)(hR:(∀y,BF op a b y->cj y)->∀y,qA op a b y->cj y):
  ((∀y,qA op a b y->cj y)/\nj op a b=I (c,0)/\NN c)\/((¬∀y,qA op a b y->cj y)/\nj op a b=I (aH.mk 0 0 0,3)):=by
 have hbin:binop op:=by unfold binop;omega
 by_cases hs:cnt a*cnt b<=4096
 ·rw[mz hbin ha hb hs];rcases Ar hbin ha hb (by omega)with ⟨h1,d,e,h2⟩|⟨h1,e⟩
  ·have k:=hc _ (ahl ha hb);rw[h2.uniq k]at e;exact .inl ⟨h1,e,k.valid h1⟩
  ·exact .inr ⟨h1,e⟩
 ·have e0:nj op a b=tN op a b:=by
   rw[rX hbin ha hb hs];unfold RQ;rcases ho with rfl|rfl|rfl<;>rfl
  rw[e0];rcases Yx hbin ha hb with ⟨h1,d,e,h2⟩|⟨h1,e⟩
  ·rw[h2.uniq (hc _ (ahV ha hb))]at e;exact .inl ⟨hR h1,e,(hc _ (ahl ha hb)).valid (hR h1)⟩
  ·exact .inr ⟨λk=>h1 λy hy=>k y ((ahV ha hb).v y hy),e⟩
def SF{c:aH}(h:NN c):iQ c.ag c.ah c.aj=c:=by
 rw[IX h.le h.s0 h.dvd (λk=>by rcases h.st with e|e;exact e.2;omega)]
def vC{c:aH}(h:NN c):kE c.ag c.ah c.aj=I c:=by
 have:=h.lo;have:=h.hi
 rw[mK (by omega) (by omega) h.s0,SF h]
def lJ{op:Int}{a b:aH}(ho:binop op)(ha:NN a)(hb:NN b){r:af (aH×Int)}
  (h:(bif O (op=9)then
   match bif bif iw (i64.wrap (a.ag+i64.wrap (0-b.ah)))then G else J then I J else I (bif iw (i64.wrap (a.ah+i64.wrap (0-b.ag)))then G else J)with
   |none=>S
   |some r5=>bif r5 then I (aH.mk 0 0 0,3)else match Aa [a.aj,b.aj]with
    |none=>S
    |some r6=>match kE (i64.wrap (a.ag+i64.wrap (0-b.ah))) (i64.wrap (a.ah+i64.wrap (0-b.ag))) r6 with
     |none=>S
     |some r7=>I (r7,0)
  else bif O (op=8)then
   match bif bif iw (i64.wrap (a.ag+b.ag))then G else J then I J else I (bif iw (i64.wrap (a.ah+b.ah))then G else J)with
   |none=>S
   |some r8=>bif r8 then I (aH.mk 0 0 0,3)else match Aa [a.aj,b.aj]with
    |none=>S
    |some r9=>match kE (i64.wrap (a.ag+b.ag)) (i64.wrap (a.ah+b.ah)) r9 with
     |none=>S
     |some r10=>I (r10,0)
  else bif O (op=10)then match S8 a b with
   |none=>S
   |some r11=>I r11
  else bif O (op=11)then match tv op a b with
   |none=>S
   |some r12=>I (r12,0)
  else bif O (op=12)then match tv op a b with
   |none=>S
   |some r13=>I (r13,0)
  else bif O (op=21)then match tv op a b with
   |none=>S
   |some r14=>I (r14,0)
  else bif O (op=22)then match tv op a b with
   |none=>S
   |some r15=>I (r15,0)
  else match Uc op a b with
   |none=>S
   |some r16=>I (r16,0))=r):sF op a b=r:=by
 unfold sF;rw[dX,dX,dD (.inr ha),dD (.inr hb),jl,bV ho];simp only[bB,bz];rw[dP ha.ne,dP hb.ne];simp only[bz];exact h
def pS{a b:aH}(ha:NN a)(hb:NN b):(∀y,qA 8 a b y->cj y)↔cj (a.ag+b.ag)/\cj (a.ah+b.ah):=by
 constructor
 ·intro h;exact⟨h _ ⟨_,_,cQ ha,cQ hb,rfl⟩,h _ ⟨_,_,fI ha,fI hb,rfl⟩⟩
 ·rintro⟨⟨h1,h2⟩,⟨h3,h4⟩⟩ y ⟨x,z,⟨x1,x2,_⟩,⟨z1,z2,_⟩,rfl⟩;exact⟨by show _<=x+z;omega,by show x+z<=_;omega⟩
def pQ{a b:aH}(ha:NN a)(hb:NN b):(∀y,qA 9 a b y->cj y)↔cj (a.ag-b.ah)/\cj (a.ah-b.ag):=by
 constructor
 ·intro h;exact⟨h _ ⟨_,_,cQ ha,fI hb,rfl⟩,h _ ⟨_,_,fI ha,cQ hb,rfl⟩⟩
 ·rintro⟨⟨h1,h2⟩,⟨h3,h4⟩⟩ y ⟨x,z,⟨x1,x2,_⟩,⟨z1,z2,_⟩,rfl⟩;exact⟨by show _<=x-z;omega,by show x-z<=_;omega⟩
def je{a b:aH}(ha:NN a)(hb:NN b):(∀y,qA 10 a b y->cj y)↔cj (a.ag*b.ag)/\cj (a.ag*b.ah)/\cj (a.ah*b.ag)/\cj (a.ah*b.ah):=by
 constructor
 ·intro h;exact⟨h _ ⟨_,_,cQ ha,cQ hb,rfl⟩,h _ ⟨_,_,cQ ha,fI hb,rfl⟩,h _ ⟨_,_,fI ha,cQ hb,rfl⟩,h _ ⟨_,_,fI ha,fI hb,rfl⟩⟩
 ·rintro⟨h1,h2,h3,h4⟩ y ⟨x,z,⟨x1,x2,_⟩,⟨z1,z2,_⟩,rfl⟩;have k:=Rv (a:=a) (b:=b) ⟨x1,x2⟩ ⟨z1,z2⟩;obtain⟨⟨p1,p2⟩,⟨p3,p4⟩⟩:=afY (P:=cj) h1 h2 h3 h4;exact⟨by show _<=x*z;omega,by show x*z<=_;omega⟩
def aeD{x y u v:Int}(h1:x.natAbs=u.natAbs)(h2:y.natAbs=v.natAbs):bZ x y=bZ u v:=by
 unfold bZ yy;rw[h1,h2]
def RM(p q r s:Int):adA ([p]++[q]++[r]++[s])=I (Sl p q r s):=by
 unfold adA;rw[bT (by simp),bz,bD (by simp),show G3=bG BS from rfl];have st:∀m k,k=1\/k=2\/k=3->BS (qQ.mk ([p]++[q]++[r]++[s]) m k)=I (I (qQ.mk ([p]++[q]++[r]++[s]) (min m ([p]++[q]++[r]++[s])[k.toNat]!) (k+1))):=λm k hk=>by
  unfold BS;simp only;rw[bV (by simp;omega),bB,bD (by simp;omega),aI];have e:∀w:Int,(if w<m then w else m)=min m w:=λw=>by split<;>omega
  rw[e]
 rw[bP (st _ 1 (.inl rfl)),bP (st _ (1+1) (.inr (.inl rfl))),bP (st _ (1+1+1) (.inr (.inr rfl))),cu (by intro x hx;simp[BS]at hx)];simp only;rw[bT (by simp),bz];show I (min (min (min p q) r) s)=I (Sl p q r s);unfold Sl
 congr 1
 omega
def SI(p q r s:Int):aaJ ([p]++[q]++[r]++[s])=I (hi4 p q r s):=by
 unfold aaJ;rw[bT (by simp),bz,bD (by simp),show GZ=bG Cp from rfl];have st:∀m k,k=1\/k=2\/k=3->Cp (qU.mk ([p]++[q]++[r]++[s]) m k)=I (I (qU.mk ([p]++[q]++[r]++[s]) (max m ([p]++[q]++[r]++[s])[k.toNat]!) (k+1))):=λm k hk=>by
  unfold Cp;simp only;rw[bV (by simp;omega),bB,bD (by simp;omega),aI];have e:∀w:Int,(if m<w then w else m)=max m w:=λw=>by split<;>omega
  rw[e]
 rw[bP (st _ 1 (.inl rfl)),bP (st _ (1+1) (.inr (.inl rfl))),bP (st _ (1+1+1) (.inr (.inr rfl))),cu (by intro x hx;simp[Cp]at hx)];simp only;rw[bT (by simp),bz];show I (max (max (max p q) r) s)=I (hi4 p q r s);unfold hi4
 congr 1
 omega
def apS(x y:Int):(bif bif iw x then G else J then I J else I (bif iw y then G else J))=I (!(O (cj x)&&O (cj y))):=by
 rw[show iw x=O (cj x)from jj x,show iw y=O (cj y)from jj y];cases O (cj x)<;>cases O (cj y)<;>rfl
def fe{op:Int}{a b:aH}(h:∀y,BF op a b y->cj y){x z:Int}(hx:Kl a x)(hz:Kl b z):cj (e9 op x z):=h _ ⟨x,z,hx,hz,rfl⟩
def NT(op:Int)(a b:aH):Prop:=∃r,sF op a b=I r/\nj op a b=I r/\NV r.1
def TU{a b:aH}(ha:NN a)(hb:NN b):NT 8 a b:=by
 have r1:=ha.pW;have r2:=ha.vU;have r3:=hb.pW;have r4:=hb.vU;obtain⟨a1,a2⟩:=r1;obtain⟨a3,a4⟩:=r2;obtain⟨b1,b2⟩:=r3;obtain⟨b3,b4⟩:=r4;have key:=iY (op:=8) (.inl rfl) ha hb (λQ h=>I4 ha hb h) (λh=>(pS ha hb).mpr ⟨fe h (.inl rfl) (.inl rfl),fe h (.inr (.inr rfl)) (.inr (.inr rfl))⟩);have prog:∀r,(match I (!(O (cj (a.ag+b.ag))&&O (cj (a.ah+b.ah))))with
   |none=>S
   |some r8=>bif r8 then I (aH.mk 0 0 0,(3:Int))else match kE (a.ag+b.ag) (a.ah+b.ah) (bZ a.aj b.aj)with
     |none=>S
     |some r10=>I (r10,0))=r->sF 8 a b=r:=λr h=>lJ ⟨by decide,by decide⟩ ha hb (by
  simp only[Int.reduceEq,fS,cR,bz,bB];rw[apS,aI (n:=a.ag+b.ag),aI (n:=a.ah+b.ah),Be ha.s0 hb.s0];exact h)
 rcases key with ⟨h1,e,hv⟩|⟨h1,e⟩
 ·obtain⟨k1,k2⟩:=(pS ha hb).mp h1;refine⟨_,prog _ ?_,e, .inr hv⟩;rw[bV k1,bV k2];have:=vC hv;have this:kE (a.ag+b.ag) (a.ah+b.ah) (bZ a.aj b.aj)=I _:=this;rw[this];rfl
 ·refine⟨_,prog _ ?_,e,NX⟩;have:(O (cj (a.ag+b.ag))&&O (cj (a.ah+b.ah)))=G:=by
   cases c1:O (cj (a.ag+b.ag))<;>cases c2:O (cj (a.ah+b.ah))<;>first|rfl|exact dg ((pS ha hb).mpr ⟨of_decide_eq_true c1,of_decide_eq_true c2⟩) h1
  rw[this];rfl
def WH{a b:aH}(ha:NN a)(hb:NN b):NT 9 a b:=by
 have r1:=ha.pW;have r2:=ha.vU;have r3:=hb.pW;have r4:=hb.vU;obtain⟨a1,a2⟩:=r1;obtain⟨a3,a4⟩:=r2;obtain⟨b1,b2⟩:=r3;obtain⟨b3,b4⟩:=r4;have key:=iY (op:=9) (.inr (.inl rfl)) ha hb (λQ h=>KW ha hb h) (λh=>(pQ ha hb).mpr ⟨fe h (.inl rfl) (.inr (.inr rfl)),fe h (.inr (.inr rfl)) (.inl rfl)⟩);have prog:∀r,(match I (!(O (cj (a.ag-b.ah))&&O (cj (a.ah-b.ag))))with
   |none=>S
   |some r8=>bif r8 then I (aH.mk 0 0 0,(3:Int))else match kE (a.ag-b.ah) (a.ah-b.ag) (bZ a.aj b.aj)with
     |none=>S
     |some r10=>I (r10,0))=r->sF 9 a b=r:=λr h=>lJ ⟨by decide,by decide⟩ ha hb (by
  simp only[Int.reduceEq,fS,cR,bz,bB];rw[apS,aI (n:=0-b.ah),aI (n:=0-b.ag),aI (n:=a.ag+(0-b.ah)),aI (n:=a.ah+(0-b.ag)),Be ha.s0 hb.s0,
   show a.ag+(0-b.ah)=a.ag-b.ah by omega,show a.ah+(0-b.ag)=a.ah-b.ag by omega]
  exact h)
 rcases key with ⟨h1,e,hv⟩|⟨h1,e⟩
 ·obtain⟨k1,k2⟩:=(pQ ha hb).mp h1;refine⟨_,prog _ ?_,e, .inr hv⟩;rw[bV k1,bV k2];have:=vC hv;have this:kE (a.ag-b.ah) (a.ah-b.ag) (bZ a.aj b.aj)=I _:=this;rw[this];rfl
 ·refine⟨_,prog _ ?_,e,NX⟩;have:(O (cj (a.ag-b.ah))&&O (cj (a.ah-b.ag)))=G:=by
   cases c1:O (cj (a.ag-b.ah))<;>cases c2:O (cj (a.ah-b.ag))<;>first|rfl|exact dg ((pQ ha hb).mpr ⟨of_decide_eq_true c1,of_decide_eq_true c2⟩) h1
  rw[this];rfl
def TR{a b:aH}(ha:NN a)(hb:NN b):NT 10 a b:=by
 have key:=iY (op:=10) (.inr (.inr rfl)) ha hb (λQ h=>JB ha hb h) (λh=>(je ha hb).mpr ⟨fe h (.inl rfl) (.inl rfl),fe h (.inl rfl) (.inr (.inr rfl)),fe h (.inr (.inr rfl)) (.inl rfl),fe h (.inr (.inr rfl)) (.inr (.inr rfl))⟩);have prog:sF 10 a b=S8 a b:=lJ ⟨by decide,by decide⟩ ha hb (by
  simp only[Int.reduceEq,fS,cR,bz,bB];cases S8 a b<;>rfl)
 unfold NT;rw[prog];obtain⟨v1,e1,q1⟩:=Al ha.pW hb.pW;obtain⟨v2,e2,q2⟩:=Al ha.pW hb.vU;obtain⟨v3,e3,q3⟩:=Al ha.vU hb.pW;obtain⟨v4,e4,q4⟩:=Al ha.vU hb.vU;unfold S8;rw[e1];simp only;by_cases c1:cj (a.ag*b.ag)
 ·rw[bV c1,e2];simp only[bB,bz];by_cases c2:cj (a.ag*b.ah)
  ·rw[bV c2,e3];simp only[bB,bz];by_cases c3:cj (a.ah*b.ag)
   ·rw[bV c3,e4];simp only[bB,bz];by_cases c4:cj (a.ah*b.ah)
    ·rw[bV c4];simp only[bB,bz];have hr:=(je ha hb).mpr ⟨c1,c2,c3,c4⟩;rcases key with ⟨_,e,hv⟩|⟨h1,_⟩
     ·have r1:=ha.pW;have r3:=hb.pW;obtain⟨a1,a2⟩:=r1;obtain⟨b1,b2⟩:=r3;have s1:=ha.s0;have s2:=hb.s0;have l1:=ha.sle;have l2:=hb.sle;obtain⟨w1,w2⟩:=c1;obtain⟨w3,w4⟩:=c2;obtain⟨w5,w6⟩:=c3;obtain⟨w7,w8⟩:=c4;have n1:0<=a.aj*((b.ag.natAbs:Nat):Int):=zx s1 (by omega);have n2:0<=b.aj*((a.ag.natAbs:Nat):Int):=zx s2 (by omega);have n3:0<=a.aj*b.aj:=zx s1 s2;have k1:a.aj*((b.ag.natAbs:Nat):Int)<=2199023255552:=by
       have t:=zM l1 (show 0<=((b.ag.natAbs:Nat):Int)by omega);have t2:(a.ah-a.ag)*((b.ag.natAbs:Nat):Int)<=2199023255552:=by
        rcases Int.le_total 0 b.ag with c|c
        ·rw[show ((b.ag.natAbs:Nat):Int)=b.ag by omega,ym];omega
        ·rw[show ((b.ag.natAbs:Nat):Int)= -b.ag by omega,xL,ym];omega
       omega
      have k2:b.aj*((a.ag.natAbs:Nat):Int)<=2199023255552:=by
       have t:=zM l2 (show 0<=((a.ag.natAbs:Nat):Int)by omega);have t2:(b.ah-b.ag)*((a.ag.natAbs:Nat):Int)<=2199023255552:=by
        rcases Int.le_total 0 a.ag with c|c
        ·rw[show ((a.ag.natAbs:Nat):Int)=a.ag by omega,ym,zC b.ah,zC b.ag];omega
        ·rw[show ((a.ag.natAbs:Nat):Int)= -a.ag by omega,xL,ym,zC b.ah,zC b.ag];omega
       omega
      have k3:a.aj*b.aj<=4398046511104:=by
       have t:=yT l1 l2 s2 (by omega);rw[ym,Int.mul_sub,Int.mul_sub]at t;omega
      rw[lN hb.pW,lN ha.pW,aI (n:=a.aj*((b.ag.natAbs:Nat):Int)),aI (n:=b.aj*((a.ag.natAbs:Nat):Int)),aI (n:=a.aj*b.aj),
       BY n1 n2 n3,RM,SI,q1 ⟨w1,w2⟩,q2 ⟨w3,w4⟩,q3 ⟨w5,w6⟩,q4 ⟨w7,w8⟩]
      simp only;have eg:bZ (bZ (a.aj*((b.ag.natAbs:Nat):Int)) (b.aj*((a.ag.natAbs:Nat):Int))) (a.aj*b.aj)=(akw a b).aj:=by
       show _=bZ (bZ (a.aj*b.ag) (b.aj*a.ag)) (a.aj*b.aj);rw[aeD (x:=a.aj*((b.ag.natAbs:Nat):Int)) (u:=a.aj*b.ag) (by rw[Int.natAbs_mul,Int.natAbs_mul,Int.natAbs_natCast]) (y:=b.aj*((a.ag.natAbs:Nat):Int)) (v:=b.aj*a.ag) (by rw[Int.natAbs_mul,Int.natAbs_mul,Int.natAbs_natCast])]
      rw[eg];have:=vC hv;have this:kE (Sl (a.ag*b.ag) (a.ag*b.ah) (a.ah*b.ag) (a.ah*b.ah)) (hi4 (a.ag*b.ag) (a.ag*b.ah) (a.ah*b.ag) (a.ah*b.ah)) (akw a b).aj=I _:=this;rw[this];exact⟨_,rfl,e, .inr hv⟩
     ·exact dg hr h1
    ·rcases key with ⟨h1,_⟩|⟨_,e⟩
     ·exact dg ((je ha hb).mp h1).2.2.2 c4
     ·rw[bT c4];exact⟨_,rfl,e,NX⟩
   ·rcases key with ⟨h1,_⟩|⟨_,e⟩
    ·exact dg ((je ha hb).mp h1).2.2.1 c3
    ·rw[bT c3];exact⟨_,rfl,e,NX⟩
  ·rcases key with ⟨h1,_⟩|⟨_,e⟩
   ·exact dg ((je ha hb).mp h1).2.1 c2
   ·rw[bT c2];exact⟨_,rfl,e,NX⟩
 ·rcases key with ⟨h1,_⟩|⟨_,e⟩
  ·exact dg ((je ha hb).mp h1).1 c1
  ·rw[bT c1];exact⟨_,rfl,e,NX⟩
structure Eu (x m a b u v:Int):Prop where
 a0:0<=a
 b2:2<=b
 ab:a<b
 g:yy a b=1
 du:m∣u*x-a
 dv:m∣v*x-b
 s:(0<=u/\v<=0/\b*u-a*v=m)\/(u<=0/\0<=v/\a*v-b*u=m)
def Eu.next{x m a b u v:Int}(h:Eu x m a b u v)(ha:1<a):Eu x m (b%a) a (v-b/a*u) u:=by
 have e:=yR b a;have m0:=yS b (b:=a) (by omega);have m1:=yV b (b:=a) (by omega);refine⟨m0,by omega,m1,?_,?_,h.du,?_⟩
 ·have:=oA (a:=b) (b:=a) (by have:=h.b2;omega) (by omega);rw[jC (by have:=h.b2;omega)]at this;rw[Int.gcd_comm,this,Int.gcd_comm];exact h.g
 ·have k:=yq h.dv (zS h.du (xh (b/a) _));have:v*x-b-b/a*(u*x-a)=(v-b/a*u)*x-b%a:=by
   rw[Int.mul_sub,ym,zN,zC (b/a) a];omega
  rwa [this]at k
 ·have t1:(b%a)*u=b*u-a*(b/a*u):=by
   rw[<-zN,<-ym]
   congr 1
   omega
  have t2:a*(v-b/a*u)=a*v-a*(b/a*u):=Int.mul_sub ..;have q0:0<=b/a:=zP (by have:=h.b2;omega) (by omega);rcases h.s with ⟨s1,s2,s3⟩|⟨s1,s2,s3⟩
  ·have:=zx q0 s1;exact .inr ⟨by omega,s1,by omega⟩
  ·have:=zx q0 (show 0<= -u by omega);rw[xL]at this;exact .inl ⟨by omega,s1,by omega⟩
def Eu.bd{x m a b u v:Int}(h:Eu x m a b u v): -m<=u/\u<=m:=by
 have hb:=h.b2;have ha:=h.a0;rcases h.s with ⟨s1,s2,s3⟩|⟨s1,s2,s3⟩
 ·have k1:=zx ha (show 0<= -v by omega);rw[xL]at k1;have k2:1*u<=b*u:=zM (by omega) s1;omega
 ·have k1:=zx ha s2;have k2:1*(-u)<=b*(-u):=zM (by omega) (by omega);simp only[xL,zX]at k2;omega
def Eu.bv{x m a b u v:Int}(h:Eu x m a b u v)(ha:1<a): -m<=v/\v<=m:=by
 have hb:=h.b2;rcases h.s with ⟨s1,s2,s3⟩|⟨s1,s2,s3⟩
 ·have k1:=zx (show 0<=b by omega) s1;have k2:1*(-v)<=a*(-v):=zM (by omega) (by omega);simp only[xL,zX]at k2;omega
 ·have k1:=zx (show 0<=b by omega) (show 0<= -u by omega);rw[xL]at k1;have k2:1*v<=a*v:=zM (by omega) s2;omega
def akG{x m a b u v:Int}(hm:m<1152921504606846976)(hbm:b<=m)(h:Eu x m a b u v):∃b' u' v',H6 (kY.mk m a b u v)=I (kY.mk m 1 b' u' v')/\m∣u'*x-1/\ -m<=u'/\u'<=m:=by
 obtain⟨z,e1,⟨a',b',u',v',rfl,hI,hb⟩,hs⟩:=j9 (rnd:=C5) (λp=>∃a b u v,p=kY.mk m a b u v/\Eu x m a b u v/\b<=m) (λp=>p.t5.toNat) (λp p' ⟨a,b,u,v,hp,hI,hbm⟩ hn=>by
  subst hp;have hn:C5 (kY.mk m a b u v)=I (I p'):=hn;unfold C5 at hn;simp only at hn;by_cases c:1<a
  ·have hN:=hI.next c;have q0:0<=b/a:=zP (by have:=hI.b2;omega) (by omega);have q1:b/a<=b:=yc _ (by have:=hI.b2;omega);have e:=yR b a;rw[zC]at e;have m0:=hN.a0;have m1:=hN.ab;have bu:=hI.bd;have bv:=hI.bv c;have bn:=hN.bd;have hb2:=hI.b2;have hab:=hI.ab;rw[bV c,bB,ga,jq,aI (n:=b/a),aI (n:=b/a*a),aI (n:=b-b/a*a),aI (n:=b/a*u),aI (n:=v-b/a*u)]at hn;simp only[zD.injEq]at hn;subst hn;rw[show b-b/a*a=b%a by omega];exact⟨⟨b%a,a,_,_,rfl,hN,by have:=hI.ab;omega⟩,by show (b%a).toNat<a.toNat;omega⟩
  ·rw[bT c]at hn;cases hn) ⟨a,b,u,v,rfl,h,hbm⟩
 have hle:¬1<a':=λc=>by
  have hN:=hI.next c;have q0:0<=b'/a':=zP (by have:=hI.b2;omega) (by omega);refine hs (kY.mk m (i64.wrap (b'-i64.wrap (i64.wrap (b'.tdiv a')*a'))) a' (i64.wrap (v'-i64.wrap (i64.wrap (b'.tdiv a')*u'))) u') ?_;unfold C5;simp only;rw[bV c,bB,ga]
 have a1:a'=1:=by
  have:=hI.a0;rcases (show a'=0\/a'=1 by omega)with rfl|rfl
  ·have g:=hI.g;rw[Int.gcd_zero_left]at g;have:=hI.b2;omega
  ·rfl
 subst a1;exact⟨b',u',v',e1,hI.du,hI.bd⟩
def afg{x m:Int}(h0:0<=x)(h1:2<=m)(h2:m<1152921504606846976)(hg:yy x m=1):∃v:Int,aa4 x m=I v/\0<=v/\v<m/\m∣v*x-1:=by
 have m0:=yS x (b:=m) (by omega);have m1:=yV x (b:=m) (by omega);have e:=yR x m;obtain⟨b',u',v',e1,d1,d2,d3⟩:=akG (x:=x) (m:=m) (a:=x%m) (b:=m) (u:=1) (v:=0) h2 (zw _) ⟨m0,h1,m1,by
   have:=oA (a:=x) (b:=m) h0 (by omega);rw[jC h0]at this;rw[Int.gcd_comm,this,hg],⟨x/m,by omega⟩,⟨-1,by omega⟩, .inl ⟨by omega,by omega,by omega⟩⟩
 unfold aa4;rw[ga,jC h0,e1];simp only;rw[eH,bz,ga,ga];have t:=Int.mul_tdiv_add_tmod u' m;have tb:(u'.tmod m).natAbs<m.natAbs:=by rw[Int.natAbs_tmod];exact xb _ (by omega)
 rw[aI,jC];have ev:(u'.tmod m+m)%m=u'%m:=by
  rw[Int.add_emod_right]
  conv=>rhs;rw[<-t]
  rw[Int.mul_add_emod_self_left]
 rw[ev];refine⟨u'%m,rfl,yS _ (by omega),yV _ (by omega),?_⟩;have e2:=yR u' m;have:u'%m*x-1=u'*x-1-m*(u'/m*x):=by
  rw[<-zN];have:u'%m*x=u'*x-m*(u'/m)*x:=by
   rw[<-ym]
   congr 1
   omega
  omega
 rw[this];exact yq d1 (xj ..)
def Uo{x m:Int}(hm:1<=m):(x.tmod m+m).tmod m=x%m/\0<=x.tmod m+m/\x.tmod m+m<2*m/\ -m<x.tmod m:=by
 have t:=Int.mul_tdiv_add_tmod x m;have tb:(x.tmod m).natAbs<m.natAbs:=by rw[Int.natAbs_tmod];exact xb _ (by omega)
 refine⟨?_,by omega,by omega,by omega⟩;rw[jC,Int.add_emod_right]
 conv=>rhs;rw[<-t]
 rw[Int.mul_add_emod_self_left]
def Ia(X Y Z:Int->Int)(sa P M K:Int):af aH:=
 bif O (M<K)then I gX else if¬P=(0:Int)then bif O (K=i64.wrap (K+i64.wrap (i64.wrap ((i64.wrap (M-K)).tdiv P)*P)))then I (fX (X K))else I (aH.mk (Y K) (Z K) (i64.wrap (P*sa)))else S
def EC{X Y Z:Int->Int}{sa P M K:Int}(h1:1<=sa)(h2:1<=P)(h3:0<=K)(h4:M<=4398046511104)(h5:M*sa<=4398046511104):∃c,Ia X Y Z sa P M K=I c/\eG c=O (M<K):=by
 unfold Ia;by_cases c:M<K
 ·rw[bV c];exact⟨cw,rfl,gY⟩
 ·rw[bT c,bz,ga];have q0:0<=(M-K)/P:=zP (by omega) (by omega);have q1:(M-K)/P<=M-K:=yc _ (by omega);have q2:(M-K)/P*P<=M-K:=y5 _ (by omega);have q3:0<=(M-K)/P*P:=zx q0 (by omega);rw[aI (n:=M-K),jq,aI (n:=(M-K)/P),aI (n:=(M-K)/P*P),aI (n:=K+(M-K)/P*P)];by_cases e:K=K+(M-K)/P*P
  ·rw[bV e];refine⟨fX (X K),rfl,dP λk=> ?_⟩;have k1:X K=1:=congrArg aH.ag k;have k2:X K=0:=congrArg aH.ah k;omega
  ·rw[bT e];refine⟨_,rfl,dP λk=> ?_⟩;have k3:i64.wrap (P*sa)=0:=congrArg aH.aj k;have q5:1<=(M-K)/P:=by
    rcases (show (M-K)/P=0\/1<=(M-K)/P by omega)with z|z
    ·rw[z,xF]at e;omega
    ·exact z
   have q6:1*P<=(M-K)/P*P:=zM q5 (by omega);have q7:P*sa<=M*sa:=zM (by omega) (by omega);have q8:1*1<=P*sa:=yT h2 h1 (by omega) (by omega);rw[aI]at k3;omega
def OF(X Y Z:Int->Int)(sa P M L k:Int):af aH:=
 if¬sa=(0:Int)then if¬sa=(0:Int)then bif O (k<L)then if¬P=(0:Int)then Ia X Y Z sa P M (i64.wrap (k+i64.wrap (i64.wrap ((i64.wrap (i64.wrap (i64.wrap (L-k)+P)-1)).tdiv P)*P)))else S else Ia X Y Z sa P M k else S else S
def Cn{X Y Z:Int->Int}{sa P M L k:Int}(h1:1<=sa)(h2:1<=P)(h3:0<=k)(hk:k<P)(hP:P<=4398046511104)(h4:M<=4398046511104)(h5:M*sa<=4398046511104)(hL:0<=L)(hL2:L<=4398046511104):
  ∃c,OF X Y Z sa P M L k=I c/\(eG c=G↔∃j,L<=j/\j<=M/\P∣j-k):=by
 unfold OF;rw[ga,ga];by_cases c:k<L
 ·have q0:0<=(L-k+P-1)/P:=zP (by omega) (by omega);have q2:(L-k+P-1)/P*P<=L-k+P-1:=y5 _ (by omega);have q1:(L-k+P-1)/P<=L-k+P-1:=yc _ (by omega);have q3:0<=(L-k+P-1)/P*P:=zx q0 (by omega);have q4:=wG (L-k+P-1) (show 0<P by omega);rw[zQ,zX]at q4;rw[bV c,bB,ga,aI (n:=L-k),aI (n:=L-k+P),aI (n:=L-k+P-1),jq,aI (n:=(L-k+P-1)/P),aI (n:=(L-k+P-1)/P*P),aI (n:=k+(L-k+P-1)/P*P)];obtain⟨r,e,hr⟩:=EC (X:=X) (Y:=Y) (Z:=Z) (K:=k+(L-k+P-1)/P*P) h1 h2 (by omega) h4 h5;refine⟨r,e,?_⟩;rw[hr];constructor
  ·intro hd;have:=of_decide_eq_false hd;exact⟨k+(L-k+P-1)/P*P,by omega,by omega,by rw[show k+(L-k+P-1)/P*P-k=(L-k+P-1)/P*P by omega];exact xh ..⟩
  ·rintro⟨j,j1,j2,t,j3⟩;rw[zC]at j3;refine bT ?_;have:(L-k+P-1)/P<=t:=by
    have:(L-k+P-1)/P<t+1:=wj (a:=P) (by rw[zQ,zX];omega) (by omega);omega
   have:=zM this (show 0<=P by omega);omega
 ·rw[bT c,bz];obtain⟨r,e,hr⟩:=EC (X:=X) (Y:=Y) (Z:=Z) (K:=k) h1 h2 h3 h4 h5;refine⟨r,e,?_⟩;rw[hr];constructor
  ·intro hd;have:=of_decide_eq_false hd;exact⟨k,by omega,by omega,⟨0,by omega⟩⟩
  ·rintro⟨j,j1,j2,t,j3⟩;rw[zC]at j3;refine bT ?_;have:0<=t:=Decidable.byContradiction λh=>by
    have:t*P<= -1*P:=zM (by omega) (by omega);omega
   have:=zx this (show 0<=P by omega);omega
def ku{a b:aH}(ha:NN a)(hb:NN b)(h1:1<=a.aj)(x:Int):(bN a x/\bN b x)↔∃j:Int,x=a.ag+j*a.aj/\max a.ag b.ag<=x/\x<=min a.ah b.ah/\b.aj∣j*a.aj-(b.ag-a.ag):=by
 constructor
 ·rintro⟨⟨x1,x2,j,x3⟩,⟨z1,z2,z3⟩⟩;rw[zC]at x3;exact⟨j,by omega,by omega,by omega,by rw[<-x3,show x-a.ag-(b.ag-a.ag)=x-b.ag by omega];exact z3⟩
 ·rintro⟨j,e,h2,h3,h4⟩;refine⟨⟨by omega,by omega,⟨j,by rw[zC];omega⟩⟩,⟨by omega,by omega,?_⟩⟩;rw[show x-b.ag=j*a.aj-(b.ag-a.ag)by omega];exact h4
def lZ{lo s x low high j:Int}(hs:1<=s)(hl:lo<=low)(hx:x=lo+j*s):(low<=x/\x<=high)↔((low-lo+s-1)/s<=j/\j<=(high-lo)/s):=by
 have q2:(low-lo+s-1)/s*s<=low-lo+s-1:=y5 _ (by omega);have q4:=wG (low-lo+s-1) (show 0<s by omega);rw[zQ,zX]at q4;constructor
 ·rintro⟨h1,h2⟩;refine⟨?_,Int.le_ediv_of_mul_le (by omega) (by omega)⟩;have:(low-lo+s-1)/s<j+1:=wj (a:=s) (by rw[zQ,zX];omega) (by omega);omega
 ·rintro⟨h1,h2⟩;have k1:=zM h1 (show 0<=s by omega);have k2:j*s<=high-lo:=xG (zM h2 (by omega)) (y5 _ (by omega));exact⟨by omega,by omega⟩
def aa8{a b:aH}(ha:NN a)(hb:NN b)(h1:1<=a.aj)(h2:1<=b.aj):∃c,adC a b=I c/\(eG c=G↔∃x,bN a x/\bN b x):=by
 have a1:=ha.lo;have a2:=ha.hi;have a3:=ha.le;have a4:=ha.sle;have b1:=hb.lo;have b2:=hb.hi;have b3:=hb.le;have b4:=hb.sle;have g0:=kA a.aj b.aj;have gl:=jo a.aj b.aj;have gr:=om a.aj b.aj;have gpos:1<=bZ a.aj b.aj:=by
  rcases (show bZ a.aj b.aj=0\/1<=bZ a.aj b.aj by omega)with z|z
  ·rw[z]at gl;have:=xH.mp gl;omega
  ·exact z
 have hcop:yy (a.aj/bZ a.aj b.aj) (b.aj/bZ a.aj b.aj)=1:=Int.gcd_ediv_gcd_ediv_gcd (show 0<yy a.aj b.aj by unfold bZ at gpos;omega);unfold adC;rw[Be (by omega) (by omega)];simp only;generalize bZ a.aj b.aj=g at*;rw[show (if b.ah<a.ah then b.ah else a.ah)=min a.ah b.ah by split<;>omega,show (if a.ag<b.ag then b.ag else a.ag)=max a.ag b.ag by split<;>omega];by_cases c1:min a.ah b.ah<max a.ag b.ag
 ·rw[bV c1];refine⟨cw,rfl,?_⟩;rw[gY];exact⟨λk=>(by cases k),λ⟨x,x1,x2⟩=>by have:=x1.1;have:=x1.2.1;have:=x2.1;have:=x2.2.1;omega⟩
 ·rw[bT c1,bz,bD (show ¬@Eq Int g 0 by omega),aI (n:=b.ag-a.ag)];simp only;by_cases c2:(b.ag-a.ag).tmod g=0
  ·rw[bV c2];simp only[bB,bz];have eA:i64.wrap (a.aj.tdiv g)=a.aj/g:=by
    have:=yc (a:=a.aj) g (by omega);have:=zP (a:=a.aj) (b:=g) (by omega) (by omega);rw[jq,aI]
   have eP:i64.wrap (b.aj.tdiv g)=b.aj/g:=by
    have:=yc (a:=b.aj) g (by omega);have:=zP (a:=b.aj) (b:=g) (by omega) (by omega);rw[jq,aI]
   have mA:a.aj/g*g=a.aj:=xZ gl;have mP:b.aj/g*g=b.aj:=xZ gr;have hA0:0<=a.aj/g:=zP (by omega) (by omega);have hA1:a.aj/g<=a.aj:=yc _ (by omega);have hP1:b.aj/g<=b.aj:=yc _ (by omega);have hP0:1<=b.aj/g:=by
    have:0<=b.aj/g:=zP (by omega) (by omega);rcases (show b.aj/g=0\/1<=b.aj/g by omega)with z|z
    ·rw[z,xF]at mP;omega
    ·exact z
   rw[eA,eP];obtain⟨D,hD⟩:=Int.dvd_of_tmod_eq_zero c2;have eD:(b.ag-a.ag).tdiv g=D:=by rw[hD];exact Int.mul_tdiv_cancel_left _ (by omega)
   have dnat:D.natAbs<=(b.ag-a.ag).natAbs:=by rw[<-eD,Int.natAbs_tdiv];exact Nat.div_le_self _ _
   rw[eD];generalize a.aj/g=A at*;generalize b.aj/g=P at*;have el:i64.wrap (i64.wrap (i64.wrap (max a.ag b.ag-a.ag)+a.aj)-1)=max a.ag b.ag-a.ag+a.aj-1:=by
    rw[aI (n:=max a.ag b.ag-a.ag),aI (n:=max a.ag b.ag-a.ag+a.aj),aI]
   have l0:0<=(max a.ag b.ag-a.ag+a.aj-1)/a.aj:=zP (by omega) (by omega);have l1:(max a.ag b.ag-a.ag+a.aj-1)/a.aj<=max a.ag b.ag-a.ag+a.aj-1:=yc _ (by omega);have h0:0<=(min a.ah b.ah-a.ag)/a.aj:=zP (by omega) (by omega);have hh1:(min a.ah b.ah-a.ag)/a.aj<=min a.ah b.ah-a.ag:=yc _ (by omega);have hh2:(min a.ah b.ah-a.ag)/a.aj*a.aj<=min a.ah b.ah-a.ag:=y5 _ (by omega);rw[el,aI (n:=min a.ah b.ah-a.ag),jq (a:=max a.ag b.ag-a.ag+a.aj-1) (by omega),jq (a:=min a.ah b.ah-a.ag) (by omega),
    aI (n:=(max a.ag b.ag-a.ag+a.aj-1)/a.aj),aI (n:=(min a.ah b.ah-a.ag)/a.aj)]
   have cm:∀k,P∣k*A-D↔b.aj∣k*a.aj-(b.ag-a.ag):=λk=>by
    have e:k*a.aj-(b.ag-a.ag)=(k*A-D)*g:=by rw[hD,<-mA,ym,zN,zC D g]
    rw[e,<-mP];exact⟨λh=>Int.mul_dvd_mul_right _ h,λh=>Int.dvd_of_mul_dvd_mul_right (by omega) h⟩
   have fin:∀k0,(∀k,P∣k*A-D↔P∣k-k0)->((∃j,(max a.ag b.ag-a.ag+a.aj-1)/a.aj<=j/\j<=(min a.ah b.ah-a.ag)/a.aj/\P∣j-k0)↔∃x,bN a x/\bN b x):=λk0 hk=>by
    constructor
    ·rintro⟨j,j1,j2,j3⟩;have r:=(lZ (lo:=a.ag) (s:=a.aj) (low:=max a.ag b.ag) (high:=min a.ah b.ah) (j:=j) h1 (by omega) rfl).mpr ⟨j1,j2⟩;exact⟨_,(ku ha hb h1 _).mpr ⟨j,rfl,r.1,r.2,(cm j).mp ((hk j).mpr j3)⟩⟩
    ·rintro⟨x,hx⟩;obtain⟨j,e,x1,x2,x3⟩:=(ku ha hb h1 x).mp hx;have r:=(lZ (lo:=a.ag) (s:=a.aj) (low:=max a.ag b.ag) (high:=min a.ah b.ah) (j:=j) h1 (by omega) e).mp ⟨x1,x2⟩;exact⟨j,r.1,r.2,(hk j).mp ((cm j).mpr x3)⟩
   rw[bD (show ¬@Eq Int g 0 by omega)];by_cases c3:1<P
   ·rw[bV c3,bB,bD (show ¬@Eq Int g 0 by omega),ga,ga,bD (show ¬@Eq Int g 0 by omega),ga];have m0:=yS A (b:=P) (by omega);have m1:=yV A (b:=P) (by omega);have hg:yy (A%P) P=1:=by
     have:=oA (a:=A) (b:=P) hA0 (by omega);rw[jC hA0]at this;rw[Int.gcd_comm,this,hcop]
    obtain⟨v,e1,v0,v1,v2⟩:=afg (x:=A%P) (m:=P) m0 (by omega) (by omega) hg;rw[jC hA0,e1];simp only;obtain⟨f1,f2,f3,f4⟩:=Uo (x:=D) (m:=P) (by omega);have d0:=yS D (b:=P) (by omega);have d1:=yV D (b:=P) (by omega);rw[aI (n:=D),aI (n:=D.tmod P+P),f1,ajx d0 d1 v0 v1 (by omega)];simp only;have k0:=yS (D%P*v) (b:=P) (by omega);have k1:=yV (D%P*v) (b:=P) (by omega);have vA:P∣v*A-1:=by
     have e:=yR A P;have t:v*A-1=v*(A%P)-1+P*(v*(A/P)):=by
      conv=>lhs;rw[<-e]
      rw[yW,Int.mul_left_comm v P];omega
     rw[t];exact yU v2 (xj ..)
    have hk:∀k,P∣k*A-D↔P∣k-D%P*v%P:=λk=>by
     have e1:P∣D*v-D%P*v%P:=by
      have t1:=yR (D%P*v) P;have t2:=yR D P;have:D*v-D%P*v%P=P*(D/P*v)+P*(D%P*v/P):=by
       have:D*v=P*(D/P*v)+D%P*v:=by
        conv=>lhs;rw[<-t2]
        rw[zQ,zN]
       omega
      rw[this];exact yU (xj ..) (xj ..)
     constructor
     ·intro h;have t:=yq (zS h (xj _ v)) (zS vA (xj _ k));have t2:(k*A-D)*v-(v*A-1)*k=k-D*v:=by
       rw[ym,ym,zX,zN,zC (v*A) k,zC A v];omega
      rw[t2]at t;have:=yU t e1
      rwa [show k-D*v+(D*v-D%P*v%P)=k-D%P*v%P by omega]at this
     ·intro h;have t:=yq h e1;rw[show k-D%P*v%P-(D*v-D%P*v%P)=k-D*v by omega]at t;have t2:=yU (zS t (xj _ A)) (zS vA (xj _ D));have t3:(k-D*v)*A+(v*A-1)*D=k*A-D:=by
       rw[ym,ym,zX,zN,zC (v*A) D];omega
      rwa [t3]at t2
    obtain⟨c,e,hc⟩:=Cn (X:=λK=>i64.wrap (a.ag+i64.wrap (K*a.aj))) (Y:=λK=>i64.wrap (a.ag+i64.wrap (K*a.aj))) (Z:=λK=>i64.wrap (a.ag+i64.wrap (i64.wrap (K+i64.wrap (i64.wrap ((i64.wrap ((min a.ah b.ah-a.ag)/a.aj-K)).tdiv P)*P))*a.aj)))
     h1 hP0 k0 k1 (by omega) (M:=(min a.ah b.ah-a.ag)/a.aj) (by omega) (by omega) l0 (by omega)
    exact⟨c,e,hc.trans (fin _ hk)⟩
   ·have p1:P=1:=by omega
    rw[bT c3,bz];obtain⟨c,e,hc⟩:=Cn (X:=λK=>i64.wrap (a.ag+i64.wrap (K*a.aj))) (Y:=λK=>i64.wrap (a.ag+i64.wrap (K*a.aj))) (Z:=λK=>i64.wrap (a.ag+i64.wrap (i64.wrap (K+i64.wrap (i64.wrap ((i64.wrap ((min a.ah b.ah-a.ag)/a.aj-K)).tdiv P)*P))*a.aj)))
     h1 hP0 (k:=0) (by omega) (by omega) (by omega) (M:=(min a.ah b.ah-a.ag)/a.aj) (by omega) (by omega) l0 (by omega)
    exact⟨c,e,hc.trans (fin 0 λk=>by subst p1;exact⟨λ_=>Int.one_dvd _,λ_=>Int.one_dvd _⟩)⟩
  ·rw[bT c2];refine⟨cw,rfl,?_⟩;rw[gY];refine⟨λk=>(by cases k),λ⟨x,hx⟩=> ?_⟩;obtain⟨j,e,x1,x2,x3⟩:=(ku ha hb h1 x).mp hx;exfalso;apply c2;have k1:=zS gr x3;have k2:=yq (zS gl (xh j _)) k1;rw[show j*a.aj-(j*a.aj-(b.ag-a.ag))=b.ag-a.ag by omega]at k2;exact Int.tmod_eq_zero_of_dvd k2
def BP{a:aH}(h:NN a)(h0:a.aj=0)(x:Int):bN a x↔x=a.ag:=by
 constructor
 ·rintro⟨h1,h2,h3⟩;rw[h0]at h3;have:=xH.mp h3;omega
 ·rintro rfl;exact cQ h
def Bo{M:aH->aH->af aH}{a b:aH}(ha:NN a)(hb:NN b)(h0:a.aj=0):∃c,sS M a b=I c/\(eG c=G↔∃x,bN a x/\bN b x):=by
 unfold sS;rw[dP ha.ne,dP hb.ne];simp only[bz];rw[bV h0,bB,HS (.inr hb)];simp only;by_cases h:bN b a.ag
 ·rw[kO h];exact⟨a,rfl,λ_=>⟨_,cQ ha,h⟩,λ_=>dP ha.ne⟩
 ·rw[iK h];refine⟨cw,rfl,λk=> ?_,λ⟨x,h1,h2⟩=> ?_⟩
  ·rw[gY]at k;cases k
  ·rw[(BP ha h0 x).mp h1]at h2;exact dg h2 h
def aeq{a b:aH}(ha:NN a)(hb:NN b):∃c,afB a b=I c/\(eG c=G↔∃x,bN a x/\bN b x):=by
 have cm:(∃x,bN b x/\bN a x)↔∃x,bN a x/\bN b x:=⟨λ⟨x,h1,h2⟩=>⟨x,h2,h1⟩,λ⟨x,h1,h2⟩=>⟨x,h2,h1⟩⟩;have s0:=ha.s0;have t0:=hb.s0;by_cases h0:a.aj=0
 ·obtain⟨c,e,h⟩:=Bo (M:=λ_ _=>S) ha hb h0;refine⟨c,dS 1 λn hn=> ?_,h⟩;obtain⟨k,rfl⟩:∃k,n=k+1:=⟨n-1,by omega⟩;obtain⟨c',e',h'⟩:=Bo (M:=vX k) ha hb h0;have:sS (vX k) a b=sS (λ_ _=>S) a b:=by
   unfold sS;rw[dP ha.ne,dP hb.ne];simp only[bz];rw[bV h0];simp only[bB]
  exact this.trans e
 ·by_cases k0:b.aj=0
  ·obtain⟨c,e,h⟩:=Bo (M:=λ_ _=>S) hb ha k0;refine⟨c,dS 2 λn hn=> ?_,h.trans cm⟩;obtain⟨k,rfl⟩:∃k,n=k+1+1:=⟨n-2,by omega⟩;have:sS (vX k) b a=sS (λ_ _=>S) b a:=by
    unfold sS;rw[dP ha.ne,dP hb.ne];simp only[bz];rw[bV k0];simp only[bB]
   have e1:vX (k+1) b a=I c:=this.trans e;show sS (vX (k+1)) a b=I c;unfold sS;rw[dP ha.ne,dP hb.ne];simp only[bz];rw[bT h0,bz,bV k0,bB,e1]
  ·obtain⟨c,e,h⟩:=aa8 ha hb (by omega) (by omega);refine⟨c,dS 1 λn hn=> ?_,h⟩;obtain⟨k,rfl⟩:∃k,n=k+1:=⟨n-1,by omega⟩;show sS (vX k) a b=I c;unfold sS;rw[dP ha.ne,dP hb.ne];simp only[bz];rw[bT h0,bz,bT k0,bz,e]
def Qo{a:aH}(h:NN a)(k:1<bU a):1<=a.aj:=by
 have:=jm h;have:=h.le;rcases h.st with ⟨e,_⟩|⟨_,e,_⟩
 ·have:=(jm h).mpr e;omega
 ·exact e
def early{a b:aH}(ha:NN a)(hb:NN b)(h1:1<=a.aj)(h2:1<=b.aj){low high:Int}(el:low=max a.ag b.ag)(eh:high=min a.ah b.ah):
  (∃x,bN a x/\bN b x)↔∃k:Nat,(k:Int)<b.aj/bZ a.aj b.aj/\a.ag+((low-a.ag+a.aj-1)/a.aj)*a.aj+(k:Int)*a.aj<=high/\bN b (a.ag+((low-a.ag+a.aj-1)/a.aj)*a.aj+(k:Int)*a.aj):=by
 have gl:=jo a.aj b.aj;have gr:=om a.aj b.aj;have g0:=kA a.aj b.aj;have mP:b.aj/bZ a.aj b.aj*bZ a.aj b.aj=b.aj:=xZ gr;have gpos:1<=bZ a.aj b.aj:=by
  rcases (show bZ a.aj b.aj=0\/1<=bZ a.aj b.aj by omega)with z|z
  ·rw[z]at gl;have:=xH.mp gl;omega
  ·exact z
 have hP0:1<=b.aj/bZ a.aj b.aj:=by
  have:0<=b.aj/bZ a.aj b.aj:=zP (by omega) (by omega);rcases (show b.aj/bZ a.aj b.aj=0\/1<=b.aj/bZ a.aj b.aj by omega)with z|z
  ·rw[z,xF]at mP;omega
  ·exact z
 have per:b.aj∣b.aj/bZ a.aj b.aj*a.aj:=by
  obtain⟨q,hq⟩:=gl;generalize bZ a.aj b.aj=g at*;rw[hq,<-zN,mP];exact xj ..
 generalize b.aj/bZ a.aj b.aj=P at*;subst el eh;generalize hL:(max a.ag b.ag-a.ag+a.aj-1)/a.aj=L;constructor
 ·rintro⟨x,hx⟩;obtain⟨j,e,x1,x2,x3⟩:=(ku ha hb h1 x).mp hx;have r:=(lZ (lo:=a.ag) (s:=a.aj) (low:=max a.ag b.ag) (high:=min a.ah b.ah) (j:=j) h1 (by omega) e).mp ⟨x1,x2⟩;rw[hL]at r;have m0:=yS (j-L) (b:=P) (by omega);have m1:=yV (j-L) (b:=P) (by omega);have m2:=yR (j-L) P;have q0:0<=(j-L)/P:=zP (by omega) (by omega);have ex:a.ag+L*a.aj+(j-L)%P*a.aj=x-(j-L)/P*(P*a.aj):=by
   have:j*a.aj=(P*((j-L)/P)+(j-L)%P+L)*a.aj:=by congr 1;omega
   rw[zQ,zQ,zC P,zN]at this;omega
  have hp:0<=(j-L)/P*(P*a.aj):=zx q0 (zx (by omega) (by omega));have r2:=(lZ (lo:=a.ag) (s:=a.aj) (low:=max a.ag b.ag) (high:=min a.ah b.ah) (x:=a.ag+(L+(j-L)%P)*a.aj) (j:=L+(j-L)%P) h1 (by omega) rfl).mpr
   ⟨by rw[hL];omega,by
    have:(j-L)%P<=j-L:=by
     have:=zx (show 0<=P by omega) q0;omega
    omega⟩
  rw[zQ,<-Int.add_assoc]at r2;refine⟨((j-L)%P).toNat,by omega,?_⟩;rw[Int.toNat_of_nonneg m0];refine⟨r2.2,by omega,by omega,?_⟩;rw[ex,show x-(j-L)/P*(P*a.aj)-b.ag=x-b.ag-(j-L)/P*(P*a.aj)by omega];exact yq hx.2.2.2 (zS per (xh ..))
 ·rintro⟨k,k1,k2,k3⟩;have e:a.ag+L*a.aj+(k:Int)*a.aj=a.ag+(L+(k:Int))*a.aj:=by rw[zQ];omega
  rw[e]at k2 k3;have l0:=(lZ (lo:=a.ag) (s:=a.aj) (low:=max a.ag b.ag) (high:=a.ag+(L+(k:Int))*a.aj) (x:=a.ag+(L+(k:Int))*a.aj) (j:=L+(k:Int)) h1 (by omega) rfl).mpr
   ⟨by rw[hL];omega,by rw[show a.ag+(L+(k:Int))*a.aj-a.ag=(L+(k:Int))*a.aj by omega,Int.mul_ediv_cancel _ (by omega)];exact zw _⟩
  exact⟨_,(ku ha hb h1 _).mpr ⟨_,rfl,l0.1,k2,by
   have:=k3.2.2
   rwa [show a.ag+(L+(k:Int))*a.aj-b.ag=(L+(k:Int))*a.aj-(b.ag-a.ag)by omega]at this⟩⟩
def Of{g P k n high sb:Int}(hg:1<=g)(hP:i64.wrap (sb.tdiv g)=P):(if¬g=(0:Int)then bif O (k<i64.wrap (sb.tdiv g))then I (O (n<=high))else I G else S)=I (O (k<P/\n<=high)):=by
 rw[ga,hP];by_cases c:k<P
 ·rw[bV c,bB];by_cases d:n<=high
  ·rw[bV d,bV ⟨c,d⟩]
  ·rw[bT d,bT (λe=>d e.2)]
 ·rw[bT c,bz,bT (λe=>c e.1)]
def ZX{M:aH->aH->af Bool}{a b:aH}(hb:NN b){g P high n0:Int}(hg:1<=g)(hP:i64.wrap (b.aj.tdiv g)=P)(hP1:P<=4398046511104)(hs:1<=a.aj)(hs2:a.aj<=4398046511104)(hh:high<=1099511627776)(hn: -1099511627776<=n0)(hP0:0<=P):
  (match m5 M (iz.mk high g n0 0 a b)with
   |none=>S
   |some r10=>match if¬r10.t7=(0:Int)then bif O (r10.t9<i64.wrap (r10.b1.aj.tdiv r10.t7))then I (O (r10.t8<=r10.t6))else I G else S with
    |none=>S
    |some r11=>bif r11 then match m32 r10.b1 r10.t8 with
     |none=>S
     |some r12=>bif r12 then I J else S
     else I G)=I (open Classical in O (∃k:Nat,(k:Int)<P/\n0+(k:Int)*a.aj<=high/\bN b (n0+(k:Int)*a.aj))):=by
 obtain⟨z,e1,⟨k,rfl,hk,hI⟩,hstop⟩:=j9 (rnd:=uD M) (λp=>∃k:Nat,p=iz.mk high g (n0+(k:Int)*a.aj) (k:Int) a b/\(k:Int)<=P/\∀i:Nat,i<k->¬bN b (n0+(i:Int)*a.aj))
  (λp=>(P-p.t9).toNat) (λp p' ⟨k,hp,hk,hI⟩ hq=>by
   subst hp;have hq:uD M (iz.mk high g (n0+(k:Int)*a.aj) (k:Int) a b)=I (I p'):=hq;unfold uD at hq;simp only at hq;rw[Of hg hP]at hq;by_cases c:(k:Int)<P/\n0+(k:Int)*a.aj<=high
   ·rw[bV c]at hq;simp only[bB]at hq;rw[ja (.inr hb)]at hq;simp only at hq;by_cases d:bN b (n0+(k:Int)*a.aj)
    ·rw[kO d]at hq;cases hq
    ·rw[iK d]at hq;have k0:0<=(k:Int)*a.aj:=zx (by omega) (by omega);rw[bz,aI (n:=n0+(k:Int)*a.aj+a.aj),aI (n:=(k:Int)+1)]at hq;simp only[zD.injEq]at hq;subst hq;refine⟨⟨k+1,?_,by omega,λi hi=> ?_⟩,by show (P-((k:Int)+1)).toNat<(P-(k:Int)).toNat;omega⟩
     ·rw[show ((k+1:Nat):Int)=(k:Int)+1 by omega,zQ,zX,Int.add_assoc]
     ·rcases y4.mp hi with q|rfl
      ·exact hI i q
      ·exact d
   ·rw[bT c]at hq;cases hq) (p:=iz.mk high g n0 0 a b) ⟨0,by simp,by simpa using hP0,λi hi=>dg hi (yC _)⟩
 rw[show m5 M=bG (uD M)from rfl,e1];simp only;rw[Of hg hP];by_cases c:(k:Int)<P/\n0+(k:Int)*a.aj<=high
 ·rw[bV c];simp only[bB];rw[ja (.inr hb)];simp only;by_cases d:bN b (n0+(k:Int)*a.aj)
  ·rw[kO d,bB]
   congr 1
   exact(@decide_eq_true _ (Classical.propDecidable _) ⟨k,c.1,c.2,d⟩).symm
  ·exfalso;refine hstop (iz.mk high g (i64.wrap (n0+(k:Int)*a.aj+a.aj)) (i64.wrap ((k:Int)+1)) a b) ?_;unfold uD;simp only;rw[Of hg hP,bV c];simp only[bB];rw[ja (.inr hb),iK d];rfl
 ·rw[bT c];simp only[bz]
  congr 1
  refine(@decide_eq_false _ (Classical.propDecidable _) ?_).symm;rintro⟨i,i1,i2,i3⟩;rcases Nat.lt_or_ge i k with q|q
  ·exact hI i q i3
  ·apply c;have:(k:Int)*a.aj<=(i:Int)*a.aj:=zM (by omega) (by omega);exact⟨by omega,by omega⟩
def gN(a b:aH):Bool:=open Classical in O (∃x,bN a x/\bN b x)
def ic{a b:aH}:gN a b=J↔∃x,bN a x/\bN b x:=by unfold gN;exact @decide_eq_true_iff _ (Classical.propDecidable _)
def mJ{a b:aH}(h:¬∃x,bN a x/\bN b x):gN a b=G:=by
 cases e:gN a b with
 |false=>rfl
 |true=>exact dg (ic.mp e) h
def N6(a b:aH):gN a b=gN b a:=by
 by_cases h:∃x,bN a x/\bN b x
 ·obtain⟨x,h1,h2⟩:=h;rw[ic.mpr ⟨x,h1,h2⟩,ic.mpr ⟨x,h2,h1⟩]
 ·rw[mJ h,mJ (λ⟨x,h1,h2⟩=>h ⟨x,h2,h1⟩)]
def AB{M:aH->aH->af Bool}{a b:aH}(ha:NN a)(hb:NN b)(h1:1<=a.aj)(h2:1<=b.aj){low high:Int}(el:low=max a.ag b.ag)(eh:high=min a.ah b.ah):
  (match wX a.aj b.aj with
   |none=>S
   |some r8=>match bif O (high<low)then I J else if¬r8=(0:Int)then I (bif O (Int.tmod (iB a.ag b.ag) r8=0)then G else J)else S with
    |none=>S
    |some r9=>bif r9 then I G else if¬a.aj=(0:Int)then
     match m5 M (iz.mk high r8 (i64.wrap (a.ag+i64.wrap (i64.wrap ((i64.wrap (i64.wrap (i64.wrap (low-a.ag)+a.aj)-1)).tdiv a.aj)*a.aj))) 0 a b)with
     |none=>S
     |some r10=>match if¬r10.t7=(0:Int)then bif O (r10.t9<i64.wrap (r10.b1.aj.tdiv r10.t7))then I (O (r10.t8<=r10.t6))else I G else S with
      |none=>S
      |some r11=>bif r11 then match m32 r10.b1 r10.t8 with
       |none=>S
       |some r12=>bif r12 then I J else S
       else I G
     else S)=I (gN a b):=by
 have a1:=ha.lo;have a2:=ha.hi;have a3:=ha.le;have a4:=ha.sle;have b1:=hb.lo;have b2:=hb.hi;have b3:=hb.le;have b4:=hb.sle;have gl:=jo a.aj b.aj;have gr:=om a.aj b.aj;have g0:=kA a.aj b.aj;have gpos:1<=bZ a.aj b.aj:=by
  rcases (show bZ a.aj b.aj=0\/1<=bZ a.aj b.aj by omega)with z|z
  ·rw[z]at gl;have:=xH.mp gl;omega
  ·exact z
 have hE:=early ha hb h1 h2 el eh;rw[Ae (by omega) (by omega)];simp only;by_cases c1:high<low
 ·rw[bV c1,mJ (λ⟨x,x1,x2⟩=>by have:=x1.1;have:=x1.2.1;have:=x2.1;have:=x2.2.1;omega)];rfl
 ·rw[bT c1,bz,bD (show ¬@Eq Int (bZ a.aj b.aj) 0 by omega)];simp only;by_cases c2:Int.tmod (iB a.ag b.ag) (bZ a.aj b.aj)=0
  ·rw[bV c2];simp only[bB,bz];have l1:(low-a.ag+a.aj-1)/a.aj<=low-a.ag+a.aj-1:=yc _ (by omega);have l0:0<=(low-a.ag+a.aj-1)/a.aj:=zP (by omega) (by omega);have l2:(low-a.ag+a.aj-1)/a.aj*a.aj<=low-a.ag+a.aj-1:=y5 _ (by omega);have l3:0<=(low-a.ag+a.aj-1)/a.aj*a.aj:=zx l0 (by omega);have p0:0<=b.aj/bZ a.aj b.aj:=zP (by omega) (by omega);have p1:b.aj/bZ a.aj b.aj<=b.aj:=yc _ (by omega);have eP:i64.wrap (b.aj.tdiv (bZ a.aj b.aj))=b.aj/bZ a.aj b.aj:=by
    rw[jq,aI]
   rw[ga,aI (n:=low-a.ag),aI (n:=low-a.ag+a.aj),aI (n:=low-a.ag+a.aj-1),jq,
    aI (n:=(low-a.ag+a.aj-1)/a.aj),aI (n:=(low-a.ag+a.aj-1)/a.aj*a.aj),aI (n:=a.ag+(low-a.ag+a.aj-1)/a.aj*a.aj)]
   refine(ZX hb gpos eP (by omega) h1 (by omega) (by omega) (by omega) p0).trans ?_
   congr 1
   by_cases h:∃x,bN a x/\bN b x
   ·rw[ic.mpr h];exact @decide_eq_true _ (Classical.propDecidable _) (hE.mp h)
   ·rw[mJ h];exact @decide_eq_false _ (Classical.propDecidable _) (λk=>h (hE.mpr k))
  ·have hno:¬∃x,bN a x/\bN b x:=by
    rintro⟨x,x1,x2⟩;apply c2;have k1:=zS gl x1.2.2;have k2:=zS gr x2.2.2;have k3:=yq k2 k1;rw[show x-b.ag-(x-a.ag)=a.ag-b.ag by omega]at k3;apply Int.tmod_eq_zero_of_dvd;obtain⟨r1,r2⟩:=ha.pW;obtain⟨r3,r4⟩:=hb.pW;unfold iB;by_cases c:a.ag<b.ag
    ·rw[bV c,bB,aI];have:=Int.dvd_neg.mpr k3
     rwa [show-(a.ag-b.ag)=b.ag-a.ag by omega]at this
    ·rw[bT c,bz,aI];exact k3
   rw[bT c2,mJ hno];rfl
def P9{M:aH->aH->af Bool}{a b:aH}(ha:NN a)(hb:NN b)(hs:bU a<=bU b):Tl M a b=I (gN a b):=by
 unfold Tl;rw[dL (.inr ha),dL (.inr hb)];simp only;rw[bT (show ¬@LT.lt Int _ (bU b) (bU a)by omega),bz];have hp:=size_pos ha;by_cases c:bU a=1
 ·rw[bV c,bB,ja (.inr hb)];simp only
  congr 1
  have e:=(jm ha).mp c;have s:a.aj=0:=by rcases ha.st with k|k;exact k.2;omega
  by_cases h:bN b a.ag
  ·rw[kO h,ic.mpr ⟨_,cQ ha,h⟩]
  ·rw[iK h,mJ (λ⟨x,x1,x2⟩=>h (by rw[<-(BP ha s x).mp x1];exact x2))]
 ·rw[bT c,bz];have h1:=Qo ha (by omega);have h2:=Qo hb (by omega);by_cases d:a.ag<b.ag<;>by_cases e:b.ah<a.ah
  ·rw[bV d,bV e];exact AB ha hb h1 h2 (by omega) (by omega)
  ·rw[bV d,bT e];exact AB ha hb h1 h2 (by omega) (by omega)
  ·rw[bT d,bV e];exact AB ha hb h1 h2 (by omega) (by omega)
  ·rw[bT d,bT e];exact AB ha hb h1 h2 (by omega) (by omega)
def aan{a b:aH}(ha:NN a)(hb:NN b):VV a b=I (gN a b):=dS 2 λn hn=>by
 obtain⟨k,rfl⟩:∃k,n=k+1+1:=⟨n-2,by omega⟩;by_cases hs:bU a<=bU b
 ·exact P9 (M:=Eg (k+1)) ha hb hs
 ·have e1:Eg (k+1) b a=I (gN b a):=P9 (M:=Eg k) hb ha (by omega);show Tl (Eg (k+1)) a b=_;unfold Tl;rw[dL (.inr ha),dL (.inr hb)];simp only;rw[bV (show @LT.lt Int _ (bU b) (bU a)by omega),bB,e1,N6]
def jF(a b:aH):Bool:=O (1<bU a)||O (1<bU b)||O (a.ag≠b.ag)
def pZ{a:aH}(h:NN a)(k:¬1<bU a):a.ag=a.ah:=(jm h).mp (by have:=size_pos h;omega)
def EA{a b:aH}(ha:NN a)(hb:NN b):jF a b=J↔∃x z,bN a x/\bN b z/\x≠z:=by
 have a3:=ha.le;have b3:=hb.le;unfold jF;by_cases c1:1<bU a
 ·rw[bV c1];refine⟨λ_=> ?_,λ_=>rfl⟩;have:a.ag≠a.ah:=λe=>by have:=(jm ha).mpr e;omega
  by_cases e:a.ag=b.ag
  ·exact⟨_,_,fI ha,cQ hb,by omega⟩
  ·exact⟨_,_,cQ ha,cQ hb,e⟩
 ·by_cases c2:1<bU b
  ·rw[bT c1,bV c2];refine⟨λ_=> ?_,λ_=>rfl⟩;have:b.ag≠b.ah:=λe=>by have:=(jm hb).mpr e;omega
   by_cases e:a.ag=b.ag
   ·exact⟨_,_,cQ ha,fI hb,by omega⟩
   ·exact⟨_,_,cQ ha,cQ hb,e⟩
  ·have e1:=pZ ha c1;have e2:=pZ hb c2;by_cases e:a.ag=b.ag
   ·rw[bT c1,bT c2,bT (λk=>k e)];exact⟨λk=>(by cases k),λ⟨x,z,hx,hz,k⟩=>by have:=hx.1;have:=hx.2.1;have:=hz.1;have:=hz.2.1;omega⟩
   ·rw[bT c1,bT c2,bV e];exact⟨λ_=>⟨_,_,cQ ha,cQ hb,e⟩,λ_=>rfl⟩
def sZ(op:Int)(a b:aH):Bool×Bool:=
 if op=13 then(jF a b,gN a b)else if op=14 then(gN a b,jF a b)
 else if op=15 then(O (b.ag<=a.ah),O (a.ag<b.ah))else if op=16 then(O (b.ag<a.ah),O (a.ag<=b.ah))
 else if op=17 then(O (a.ag<=b.ah),O (b.ag<a.ah))else if op=18 then(O (a.ag<b.ah),O (b.ag<=a.ah))
 else if op=19 then(cC a 0||cC b 0,cl a&&cl b)else(cC a 0&&cC b 0,cl a||cl b)
def sD(op:Int):Prop:=13<=op/\op<=20
def oY(p:Bool):mj p=1↔p=true:=by cases p<;>decide
def oE(p:Bool):mj p=0↔p=false:=by cases p<;>decide
def ig{op:Int}(h:sD op):op=13\/op=14\/op=15\/op=16\/op=17\/op=18\/op=19\/op=20:=by
 obtain⟨h1,h2⟩:=h;omega
def Dp{op:Int}(h:sD op)(x z:Int):e9 op x z=0\/e9 op x z=1:=by
 have k:∀p:Bool,mj p=0\/mj p=1:=λp=>by cases p<;>decide
 rcases ig h with rfl|rfl|rfl|rfl|rfl|rfl|rfl|rfl<;>exact k _
def Rb{op:Int}{a b:aH}(h:sD op)(ha:NN a)(hb:NN b):(sZ op a b).2=J↔∃x z,bN a x/\bN b z/\e9 op x z=1:=by
 rcases ig h with rfl|rfl|rfl|rfl|rfl|rfl|rfl|rfl
 ·show gN a b=J↔∃x z,bN a x/\bN b z/\mj (O (x=z))=1;rw[ic];exact⟨λ⟨x,h1,h2⟩=>⟨x,x,h1,h2,by rw[oY];exact bV rfl⟩,λ⟨x,z,h1,h2,h3⟩=>by
   rw[oY]at h3;have:=of_decide_eq_true h3;subst this;exact⟨x,h1,h2⟩⟩
 ·show jF a b=J↔∃x z,bN a x/\bN b z/\mj (!O (x=z))=1;rw[EA ha hb];exact⟨λ⟨x,z,h1,h2,h3⟩=>⟨x,z,h1,h2,by rw[oY,bT h3];rfl⟩,λ⟨x,z,h1,h2,h3⟩=>⟨x,z,h1,h2,λe=>by rw[oY,bV e]at h3;cases h3⟩⟩
 ·show O (a.ag<b.ah)=J↔∃x z,bN a x/\bN b z/\mj (O (x<z))=1;refine⟨λk=>⟨_,_,cQ ha,fI hb,by rw[oY];exact k⟩,λ⟨x,z,h1,h2,h3⟩=> ?_⟩;rw[oY]at h3;have:=of_decide_eq_true h3;exact bV (by have:=h1.1;have:=h2.2.1;omega)
 ·show O (a.ag<=b.ah)=J↔∃x z,bN a x/\bN b z/\mj (O (x<=z))=1;refine⟨λk=>⟨_,_,cQ ha,fI hb,by rw[oY];exact k⟩,λ⟨x,z,h1,h2,h3⟩=> ?_⟩;rw[oY]at h3;have:=of_decide_eq_true h3;exact bV (by have:=h1.1;have:=h2.2.1;omega)
 ·show O (b.ag<a.ah)=J↔∃x z,bN a x/\bN b z/\mj (O (z<x))=1;refine⟨λk=>⟨_,_,fI ha,cQ hb,by rw[oY];exact k⟩,λ⟨x,z,h1,h2,h3⟩=> ?_⟩;rw[oY]at h3;have:=of_decide_eq_true h3;exact bV (by have:=h1.2.1;have:=h2.1;omega)
 ·show O (b.ag<=a.ah)=J↔∃x z,bN a x/\bN b z/\mj (O (z<=x))=1;refine⟨λk=>⟨_,_,fI ha,cQ hb,by rw[oY];exact k⟩,λ⟨x,z,h1,h2,h3⟩=> ?_⟩;rw[oY]at h3;have:=of_decide_eq_true h3;exact bV (by have:=h1.2.1;have:=h2.1;omega)
 ·show (cl a&&cl b)=J↔∃x z,bN a x/\bN b z/\mj (O (x≠0/\z≠0))=1;rw[zj,j6 (.inr ha),j6 (.inr hb)];constructor
  ·rintro⟨⟨x,h1,h2⟩,⟨z,h3,h4⟩⟩;exact⟨x,z,h1,h3,by rw[oY];exact bV ⟨h2,h4⟩⟩
  ·rintro⟨x,z,h1,h2,h3⟩;rw[oY]at h3;have:=of_decide_eq_true h3;exact⟨⟨x,h1,this.1⟩,⟨z,h2,this.2⟩⟩
 ·show (cl a||cl b)=J↔∃x z,bN a x/\bN b z/\mj (O (x≠0\/z≠0))=1;rw[yL,j6 (.inr ha),j6 (.inr hb)];constructor
  ·rintro(⟨x,h1,h2⟩|⟨z,h3,h4⟩)
   ·exact⟨x,_,h1,cQ hb,by rw[oY];exact bV (.inl h2)⟩
   ·exact⟨_,z,cQ ha,h3,by rw[oY];exact bV (.inr h4)⟩
  ·rintro⟨x,z,h1,h2,h3⟩;rw[oY]at h3;rcases of_decide_eq_true h3 with k|k
   ·exact .inl ⟨x,h1,k⟩
   ·exact .inr ⟨z,h2,k⟩
def Vr{op:Int}{a b:aH}(h:sD op)(ha:NN a)(hb:NN b):(sZ op a b).1=J↔∃x z,bN a x/\bN b z/\e9 op x z=0:=by
 rcases ig h with rfl|rfl|rfl|rfl|rfl|rfl|rfl|rfl
 ·show jF a b=J↔∃x z,bN a x/\bN b z/\mj (O (x=z))=0;rw[EA ha hb];exact⟨λ⟨x,z,h1,h2,h3⟩=>⟨x,z,h1,h2,by rw[oE];exact bT h3⟩,λ⟨x,z,h1,h2,h3⟩=>⟨x,z,h1,h2,λe=>by rw[oE,bV e]at h3;cases h3⟩⟩
 ·show gN a b=J↔∃x z,bN a x/\bN b z/\mj (!O (x=z))=0;rw[ic];exact⟨λ⟨x,h1,h2⟩=>⟨x,x,h1,h2,by rw[oE,bV rfl];rfl⟩,λ⟨x,z,h1,h2,h3⟩=>by
   rw[oE]at h3;by_cases e:x=z
   ·subst e;exact⟨x,h1,h2⟩
   ·rw[bT e]at h3;cases h3⟩
 ·show O (b.ag<=a.ah)=J↔∃x z,bN a x/\bN b z/\mj (O (x<z))=0;refine⟨λk=>⟨_,_,fI ha,cQ hb,by rw[oE];exact bT (by have:=of_decide_eq_true k;omega)⟩,λ⟨x,z,h1,h2,h3⟩=> ?_⟩;rw[oE]at h3;have:=of_decide_eq_false h3;exact bV (by have:=h1.2.1;have:=h2.1;omega)
 ·show O (b.ag<a.ah)=J↔∃x z,bN a x/\bN b z/\mj (O (x<=z))=0;refine⟨λk=>⟨_,_,fI ha,cQ hb,by rw[oE];exact bT (by have:=of_decide_eq_true k;omega)⟩,λ⟨x,z,h1,h2,h3⟩=> ?_⟩;rw[oE]at h3;have:=of_decide_eq_false h3;exact bV (by have:=h1.2.1;have:=h2.1;omega)
 ·show O (a.ag<=b.ah)=J↔∃x z,bN a x/\bN b z/\mj (O (z<x))=0;refine⟨λk=>⟨_,_,cQ ha,fI hb,by rw[oE];exact bT (by have:=of_decide_eq_true k;omega)⟩,λ⟨x,z,h1,h2,h3⟩=> ?_⟩;rw[oE]at h3;have:=of_decide_eq_false h3;exact bV (by have:=h1.1;have:=h2.2.1;omega)
 ·show O (a.ag<b.ah)=J↔∃x z,bN a x/\bN b z/\mj (O (z<=x))=0;refine⟨λk=>⟨_,_,cQ ha,fI hb,by rw[oE];exact bT (by have:=of_decide_eq_true k;omega)⟩,λ⟨x,z,h1,h2,h3⟩=> ?_⟩;rw[oE]at h3;have:=of_decide_eq_false h3;exact bV (by have:=h1.1;have:=h2.2.1;omega)
 ·show (cC a 0||cC b 0)=J↔∃x z,bN a x/\bN b z/\mj (O (x≠0/\z≠0))=0;rw[yL,lE,lE];constructor
  ·rintro(h1|h1)
   ·exact⟨0,_,h1,cQ hb,by rw[oE];exact bT (λk=>k.1 rfl)⟩
   ·exact⟨_,0,cQ ha,h1,by rw[oE];exact bT (λk=>k.2 rfl)⟩
  ·rintro⟨x,z,h1,h2,h3⟩;rw[oE]at h3;have:=of_decide_eq_false h3;by_cases e:x=0
   ·subst e;exact .inl h1
   ·by_cases e2:z=0
    ·subst e2;exact .inr h2
    ·exact dg ⟨e,e2⟩ this
 ·show (cC a 0&&cC b 0)=J↔∃x z,bN a x/\bN b z/\mj (O (x≠0\/z≠0))=0;rw[zj,lE,lE];constructor
  ·rintro⟨h1,h2⟩;exact⟨0,0,h1,h2,by rw[oE];exact bT (λk=>k.elim (λe=>e rfl) (λe=>e rfl))⟩
  ·rintro⟨x,z,h1,h2,h3⟩;rw[oE]at h3;have:=of_decide_eq_false h3;by_cases e:x=0
   ·by_cases e2:z=0
    ·subst e e2;exact⟨h1,h2⟩
    ·exact dg (.inr e2) this
   ·exact dg (.inl e) this
def Nj{op:Int}{a b:aH}(h:sD op)(ha:NN a)(hb:NN b):((sZ op a b).1||(sZ op a b).2)=J:=by
 rw[yL];rcases Dp h a.ag b.ag with e|e
 ·exact .inl ((Vr h ha hb).mpr ⟨_,_,cQ ha,cQ hb,e⟩)
 ·exact .inr ((Rb h ha hb).mpr ⟨_,_,cQ ha,cQ hb,e⟩)
def NK{P:Int->Prop}{no yes:Bool}(h:∀y,P y->y=0\/y=1)(h0:no=J↔P 0)(h1:yes=J↔P 1)(ho:(no||yes)=J):cW P (gU no yes):=by
 cases no with
 |true=>
  have p0:=h0.mp rfl;cases yes with
  |true=>
   have p1:=h1.mp rfl;refine⟨p0,p1,λy hy=> ?_,by decide,λd hd=> ?_⟩
   ·rcases h y hy with rfl|rfl
    ·exact⟨by decide,by decide,⟨0,rfl⟩⟩
    ·exact⟨by decide,by decide,⟨1,rfl⟩⟩
   ·exact hd 1 p1
  |false=>
   refine⟨p0,p0,λy hy=> ?_,by decide,λd _=>xg d⟩;rcases h y hy with rfl|rfl
   ·exact⟨by decide,by decide,⟨0,rfl⟩⟩
   ·exact dg (h1.mpr hy) (by decide)
 |false=>
  cases yes with
  |true=>
   have p1:=h1.mp rfl;refine⟨p1,p1,λy hy=> ?_,by decide,λd _=>xg d⟩;rcases h y hy with rfl|rfl
   ·exact dg (h0.mpr hy) (by decide)
   ·exact⟨by decide,by decide,⟨0,rfl⟩⟩
  |false=>cases ho
def TJ{op:Int}{a b:aH}(h:sD op)(ha:NN a)(hb:NN b):cW (qA op a b) (gU (sZ op a b).1 (sZ op a b).2):=
 NK (λy ⟨x,z,_,_,e⟩=>by rw[e];exact Dp h x z)
  ((Vr h ha hb).trans ⟨λ⟨x,z,h1,h2,e⟩=>⟨x,z,h1,h2,e.symm⟩,λ⟨x,z,h1,h2,e⟩=>⟨x,z,h1,h2,e.symm⟩⟩)
  ((Rb h ha hb).trans ⟨λ⟨x,z,h1,h2,e⟩=>⟨x,z,h1,h2,e.symm⟩,λ⟨x,z,h1,h2,e⟩=>⟨x,z,h1,h2,e.symm⟩⟩) (Nj h ha hb)
def awm{x y:Int}:(bif O (x=y)then G else J)=O (x≠y):=by
 by_cases h:x=y
 ·rw[bV h,bT (λk=>k h)];rfl
 ·rw[bT h,bV h];rfl
def ab3{op:Int}{a b:aH}(h:sD op)(ha:NN a)(hb:NN b):Uc op a b=I (gU (sZ op a b).1 (sZ op a b).2):=by
 obtain⟨c,e,hc⟩:=aeq ha hb;have em:eG c= !gN a b:=by
  cases k:eG c with
  |true=>rw[mJ (λx=>by have:=hc.mpr x;rw[k]at this;cases this)];rfl
  |false=>rw[ic.mpr (hc.mp k)];rfl
 have ed:(bif O (1<bU a)then I J else bif O (1<bU b)then I J else I (O (a.ag≠b.ag)))=I (jF a b):=by
  unfold jF;cases O (1<bU a)<;>cases O (1<bU b)<;>rfl
 unfold Uc;rw[e];simp only;rw[jM (.inr ha),jM (.inr hb)];simp only;rw[awm,ed,Ai (.inr ha),Ai (.inr hb)];simp only;rw[em];simp only[P7];rcases ig h with rfl|rfl|rfl|rfl|rfl|rfl|rfl|rfl
 all_goals simp only[Int.reduceEq,fS,cR,bz,bB]
 ·show _=I (gU (jF a b) (gN a b));cases gN a b<;>rfl
 ·show _=I (gU (gN a b) (jF a b));cases gN a b<;>rfl
 ·rfl
 ·rfl
 ·rfl
 ·rfl
 ·show _=I (gU (cC a 0||cC b 0) (cl a&&cl b));cases cC a 0<;>cases cl a<;>cases cC b 0<;>cases cl b<;>rfl
 ·show _=I (gU (cC a 0&&cC b 0) (cl a||cl b));cases cC a 0<;>cases cl a<;>cases cC b 0<;>cases cl b<;>rfl
def diff_eq{a:aH}(h:NN a):jF a a=O (1<bU a):=by
 unfold jF;rw[bT (show ¬a.ag≠a.ag from λk=>k rfl)];cases O (1<bU a)<;>rfl
def QH{a b:aH}(ha:NN a)(hb:NN b)(h:a≠b):jF a b=J:=by
 unfold jF;by_cases c1:1<bU a
 ·rw[bV c1];rfl
 ·by_cases c2:1<bU b
  ·rw[bT c1,bV c2];rfl
  ·by_cases c3:a.ag=b.ag
   ·exfalso;have e1:=pZ ha c1;have e2:=pZ hb c2;exact h (AG c3 (by omega) (by rcases ha.st with k|k<;>rcases hb.st with l|l<;>omega))
   ·rw[bV c3,Bool.or_true]
def Rg{op:Int}{a b:aH}(h:sD op)(ha:NN a)(hb:NN b):uU op a b=I (gU (sZ op a b).1 (sZ op a b).2):=by
 have ho:=Nj h ha hb;rw[<-Qg ho];unfold uU;rw[aan ha hb,ng (.inr ha),ng (.inr hb)];simp only;rw[dL (.inr ha)];simp only;rcases ig h with rfl|rfl|rfl|rfl|rfl|rfl|rfl|rfl
 all_goals simp only[Int.reduceEq,fS,cR,bz,bB]
 ·show _=I (iy (jF a b) (gN a b));by_cases e:a=b
  ·subst e;rw[DN,diff_eq ha];rfl
  ·rw[EJ e,QH ha hb e];rfl
 ·show _=I (iy (gN a b) (jF a b));by_cases e:a=b
  ·subst e;rw[DN,diff_eq ha];rfl
  ·rw[EJ e,QH ha hb e];rfl
 ·rfl
 ·rfl
 ·rfl
 ·rfl
 ·show _=I (iy (cC a 0||cC b 0) (cl a&&cl b));cases cC a 0<;>cases cl a<;>cases cC b 0<;>cases cl b<;>rfl
 ·show _=I (iy (cC a 0&&cC b 0) (cl a||cl b));cases cC a 0<;>cases cl a<;>cases cC b 0<;>cases cl b<;>rfl
def Xb{op:Int}{a b:aH}(h:sD op)(ha:NN a)(hb:NN b):NT op a b:=by
 have hbin:binop op:=by
  obtain⟨h1,h2⟩:=h;exact⟨by omega,by omega⟩
 refine⟨(gU (sZ op a b).1 (sZ op a b).2,0),lJ hbin ha hb ?_,?_,sJ _ _⟩
 ·rw[ab3 h ha hb];rcases ig h with rfl|rfl|rfl|rfl|rfl|rfl|rfl|rfl<;>rfl
 ·by_cases hs:cnt a*cnt b<=4096
  ·rw[mz hbin ha hb hs];rcases Ar hbin ha hb (by omega)with ⟨_,c,e,k⟩|⟨k,_⟩
   ·rw[e,k.uniq (TJ h ha hb)]
   ·exact dg (λy ⟨x,z,_,_,e⟩=>by rw[e];rcases Dp h x z with q|q<;>rw[q]<;>exact⟨by decide,by decide⟩) k
  ·rw[rX hbin ha hb hs];unfold RQ;rw[Rg h ha hb];rcases ig h with rfl|rfl|rfl|rfl|rfl|rfl|rfl|rfl<;>rfl
def WN{op:Int}{a b:aH}(h:Kq op)(ha:NN a)(hb:NN b):NT op a b:=by
 obtain⟨c,e1,e2,hv⟩:=VX h ha hb;have hbin:binop op:=by unfold binop;rcases h with rfl|rfl|rfl|rfl<;>decide
 refine⟨(c,0),lJ hbin ha hb ?_,e2,hv⟩;rw[e1];rcases h with rfl|rfl|rfl|rfl<;>rfl
def Ip(op:Int){a b:aH}(ha:NV a)(hb:NV b):NT op a b:=by
 by_cases ho:binop op
 ·rcases ha with rfl|ha
  ·refine⟨(cw,0),?_,?_, .inl rfl⟩
   ·unfold sF;rw[dX,dX,dD (.inl rfl),dD hb,jl,bV ho,gY];rfl
   ·unfold nj;rw[fq,fq,dD (.inl rfl),dD hb,show DC op=wV op from rfl,jl,bV ho,kS];rfl
  ·rcases hb with rfl|hb
   ·refine⟨(cw,0),?_,?_, .inl rfl⟩
    ·unfold sF;rw[dX,dX,dD (.inl rfl),dD (.inr ha),jl,bV ho,gY,dP ha.ne];rfl
    ·unfold nj;rw[fq,fq,dD (.inl rfl),dD (.inr ha),show DC op=wV op from rfl,jl,bV ho,kS,gp ha];rfl
   ·obtain⟨o1,o2⟩:=ho;rcases (show op=8\/op=9\/op=10\/(op=11\/op=12\/op=21\/op=22)\/(13<=op/\op<=20)by omega)with rfl|rfl|rfl|h|h
    ·exact TU ha hb
    ·exact WH ha hb
    ·exact TR ha hb
    ·exact WN h ha hb
    ·exact Xb h ha hb
 ·refine⟨(aH.mk 0 0 0,1),?_,?_,NX⟩
  ·unfold sF;rw[dX,dX,dD ha,dD hb,jl,bT ho];rfl
  ·unfold nj;rw[fq,fq,dD ha,dD hb,show DC op=wV op from rfl,jl,bT ho];rfl
abbrev nC:=Int
def d117:Td 0 nC:= .c [] [4] (.r 0 0 (ec 4 aL en) sn (λz=>z.1.1) (λx=>((x,()),(()))))
def akX:=(lc (qg 137) (aM ln))
def alF(M:ax->Int->af nC):aW->aW:=eL wJ 117 G akX d117 (λg=>M g.1 g.2.1)
def aef(M:ax->Int->af nC):Prop:=HL wJ 117 akX d117 (λg=>M g.1 g.2.1)
def Pf{M:ax->Int->af nC}(hM:aef M){F:aW}(h:aV wJ F):aV wJ (alF M F):=dU (sc:=jR) cy hM ⟨_,func117,by kernel_rfl,by kernel_rfl⟩ (λ_=>by kernel_rfl) (λ_=>by kernel_rfl) h
def aba(M117:ax->Int->af nC):aW:=(alF M117 cZ)
def aep{M117}(h117:aef M117):aV wJ (aba M117):=(Pf h117 aQ)
structure Bd where
 (t1 t5:Int)
 b0:ax
def NZ:Td 0 Bd:= .c [] [1,2,5] (.r 0 1 (ec 1 aL (ec 2 (qp 0 0) (ec 5 aL en))) (sb 0 137 (lg 137) sn) (λz=>⟨z.1.1,z.1.t.1,z.2.1⟩) (λx=>((x.t1,(),x.t5,()),(x.b0,()))))
def FI(M117:ax->Int->af nC)(p:Bd):af (af Bd):=
 match bif O (p.t5<p.b0.aq.length)then I (O (0<=p.t1))else I G with|S=>S|I r1=>bif r1 then if 0<=p.t5/\p.t5<p.b0.aq.length then match M117 (ax.mk p.b0.aq[p.t5.toNat]!.bt p.b0.aq[p.t5.toNat]!.fN p.b0.aq[p.t5.toNat]!.aq) p.t1 with|S=>S|I r2=>I (I (Bd.mk r2 (i64.wrap (p.t5+1)) (ax.mk p.b0.bt p.b0.fN p.b0.aq)))else S else I (S)
def Uj(M117:ax->Int->af nC):An:=(.two (.two (.rb [] 16) .no) .no)
def Gi(M117:ax->Int->af nC):=bG (FI M117)
def ahq(M117:ax->Int->af nC):An:=(noTwo (noTwo (.two (noTwo (NZ.lp (Gi M117) (Uj M117))) .no)))
def aql{M117}:∀f∈([]:aa Nat),bC (aba M117) f:=aG
def arJ(M117:ax->Int->af nC):dB wJ (aba M117) 0 300 117 (ahq M117):=bO (l:=[(bg f117 0,(NZ.lp (Gi M117) (Uj M117))),(.skip,(.rb [] 16))]) func117 (bq (by kernel_rfl)) (by kernel_rfl) (aC (aO NZ) (aC aql aG))
def abk(M117:ax->Int->af nC)(a0:ax)(a1:Int):af nC:=
 match Gi M117 (Bd.mk (i64.wrap (a1-1)) 0 (ax.mk a0.bt a0.fN a0.aq))with|S=>S|I r3=>match bif O (r3.t5<r3.b0.aq.length)then I (O (0<=r3.t1))else I G with|S=>S|I r4=>bif r4 then if 0<=r3.t5/\r3.t5<r3.b0.aq.length then match M117 (ax.mk r3.b0.aq[r3.t5.toNat]!.bt r3.b0.aq[r3.t5.toNat]!.fN r3.b0.aq[r3.t5.toNat]!.aq) r3.t1 with|S=>S|I r5=>S else S else I (r3.t1)
def ayq(M117:ax->Int->af nC)(a0:ax)(a1:Int):bQ wJ (aba M117) 300 (ahq M117) 117 (akX.c (a0,a1,())) [] 0 d117.rd=abk M117 a0 a1:=by kernel_rfl
def afS:Nat->(ax->Int->af nC)
 |0=>(λ_ _=>S)
 |n+1=>(abk (afS n))
def Og(n:Nat):ax->Int->af nC:=(afS n)
def Jw:∀n,aef (Og n)
 |0=>λ_ _ h=>(by cases h)
 |n+1=>by
  have ih:=Jw n;have i117:=ih;exact(cS (aep i117) (arJ (Og n)) (λ_=>by kernel_rfl) (λ_=>by kernel_rfl) λg=>ayq (Og n) g.1 g.2.1)
def MJ:ax->Int->af nC:=λa0 a1=>lim (λn=>Og n a0 a1)
def abg:aef MJ:=λg b h=>by
 obtain⟨n,hn⟩:=cT (show lim (λn=>Og n g.1 g.2.1)=I b from h);exact(Jw n) g b hn
def alJ(F:aW):aW:=alF MJ F
def OO{F:aW}(h:aV wJ F):aV wJ (alJ F):=Pf abg h
abbrev oP:=Int
def d116:Td 0 oP:= .c [] [4] (.r 0 0 (ec 4 aL en) sn (λz=>z.1.1) (λx=>((x,()),(()))))
def ajG:=(lc (ql 166) (aM ln))
def akM(M:(aa ay)->Int->af oP):aW->aW:=eL wJ 116 G ajG d116 (λg=>M g.1 g.2.1)
def YL(M:(aa ay)->Int->af oP):Prop:=HL wJ 116 ajG d116 (λg=>M g.1 g.2.1)
def Ox{M:(aa ay)->Int->af oP}(hM:YL M){F:aW}(h:aV wJ F):aV wJ (akM M F):=dU (sc:=jR) cy hM ⟨_,func116,by kernel_rfl,by kernel_rfl⟩ (λ_=>by kernel_rfl) (λ_=>by kernel_rfl) h
def ad1(M116:(aa ay)->Int->af oP):aW:=(alJ (akM M116 cZ))
def Zs{M116}(h116:YL M116):aV wJ (ad1 M116):=(OO (Ox h116 aQ))
structure Bc where
 t0:List ay
 (t1 t5:Int)
def Lx:Td 0 Bc:= .c [] [0,1,5] (.r 0 0 (ec 0 (ql 166) (ec 1 aL (ec 5 aL en))) sn (λz=>⟨z.1.1,z.1.2.1,z.1.t.1⟩) (λx=>((x.t0,x.t1,x.t5,()),(()))))
def Cj(M116:(aa ay)->Int->af oP)(p:Bc):af (af Bc):=
 match bif O (p.t5<p.t0.length)then I (O (0<=p.t1))else I G with|S=>S|I r1=>bif r1 then if 0<=p.t5/\p.t5<p.t0.length then match MJ (ax.mk p.t0[p.t5.toNat]!.aB.bt p.t0[p.t5.toNat]!.aB.fN p.t0[p.t5.toNat]!.aB.aq) (i64.wrap (p.t1-1))with|S=>S|I r2=>if 0<=p.t5/\p.t5<p.t0.length then bif O (r2<(↑p.t0[p.t5.toNat]!.aJ.length:Int))then I (S)else if 0<=p.t5/\p.t5<p.t0.length then if 0<=p.t5/\p.t5<p.t0.length then if 0<=p.t5/\p.t5<p.t0.length then match M116 p.t0[p.t5.toNat]!.aK (i64.wrap (r2-(↑p.t0[p.t5.toNat]!.aJ.length:Int)))with|S=>S|I r3=>match M116 p.t0[p.t5.toNat]!.aN r3 with|S=>S|I r4=>I (I (Bc.mk p.t0 r4 (i64.wrap (p.t5+1))))else S else S else S else S else S else I (S)
def U1(M116:(aa ay)->Int->af oP):An:=(.two (.two (.rb [] 13) .no) .no)
def Hr(M116:(aa ay)->Int->af oP):=bG (Cj M116)
def ahe(M116:(aa ay)->Int->af oP):An:=(noTwo (.two (noTwo (Lx.lp (Hr M116) (U1 M116))) .no))
def aqd{M116}:∀f∈([]:aa Nat),bC (ad1 M116) f:=aG
def ar1(M116:(aa ay)->Int->af oP):dB wJ (ad1 M116) 0 300 116 (ahe M116):=bO (l:=[(bg f116 0,(Lx.lp (Hr M116) (U1 M116))),(.skip,(.rb [] 13))]) func116 (bq (by kernel_rfl)) (by kernel_rfl) (aC (aO Lx) (aC aqd aG))
def Y9(M116:(aa ay)->Int->af oP)(a0:aa ay)(a1:Int):af oP:=
 match Hr M116 (Bc.mk a0 a1 0)with|S=>S|I r5=>match bif O (r5.t5<r5.t0.length)then I (O (0<=r5.t1))else I G with|S=>S|I r6=>bif r6 then if 0<=r5.t5/\r5.t5<r5.t0.length then match MJ (ax.mk r5.t0[r5.t5.toNat]!.aB.bt r5.t0[r5.t5.toNat]!.aB.fN r5.t0[r5.t5.toNat]!.aB.aq) (i64.wrap (r5.t1-1))with|S=>S|I r7=>if 0<=r5.t5/\r5.t5<r5.t0.length then bif O (r7<(↑r5.t0[r5.t5.toNat]!.aJ.length:Int))then I (-1)else if 0<=r5.t5/\r5.t5<r5.t0.length then if 0<=r5.t5/\r5.t5<r5.t0.length then if 0<=r5.t5/\r5.t5<r5.t0.length then match M116 r5.t0[r5.t5.toNat]!.aK (i64.wrap (r7-(↑r5.t0[r5.t5.toNat]!.aJ.length:Int)))with|S=>S|I r8=>match M116 r5.t0[r5.t5.toNat]!.aN r8 with|S=>S|I r9=>S else S else S else S else S else S else I (r5.t1)
def avT(M116:(aa ay)->Int->af oP)(a0:aa ay)(a1:Int):bQ wJ (ad1 M116) 300 (ahe M116) 116 (ajG.c (a0,a1,())) [] 0 d116.rd=Y9 M116 a0 a1:=by kernel_rfl
def agT:Nat->((aa ay)->Int->af oP)
 |0=>(λ_ _=>S)
 |n+1=>(Y9 (agT n))
def Mw(n:Nat):(aa ay)->Int->af oP:=(agT n)
def Is:∀n,YL (Mw n)
 |0=>λ_ _ h=>(by cases h)
 |n+1=>by
  have ih:=Is n;have i116:=ih;exact(cS (Zs i116) (ar1 (Mw n)) (λ_=>by kernel_rfl) (λ_=>by kernel_rfl) λg=>avT (Mw n) g.1 g.2.1)
def adW:(aa ay)->Int->af oP:=λa0 a1=>lim (λn=>Mw n a0 a1)
def adi:YL adW:=λg b h=>by
 obtain⟨n,hn⟩:=cT (show lim (λn=>Mw n g.1 g.2.1)=I b from h);exact(Is n) g b hn
def apX(F:aW):aW:=akM adW F
def abY{F:aW}(h:aV wJ F):aV wJ (apX F):=Ox adi h
def F53:aW:=(alJ (apX cZ))
def akx:aV wJ F53:=(OO (abY aQ))
structure J7 where
 t7:Int
 t27:List cV
 (t28 t29:Int)
def XP:Td 0 J7:= .c [] [7,27,28,29] (.r 0 0 (ec 7 aL (ec 27 (ql 139) (ec 28 aL (ec 29 aL en)))) sn (λz=>⟨z.1.1,z.1.2.1,z.1.t.1,z.1.t.2.1⟩) (λx=>((x.t7,x.t27,x.t28,x.t29,()),(()))))
def IU(p:J7):af (af J7):=
 bif O (p.t29<p.t28)then if 0<=p.t29/\p.t29<p.t27.length then match MJ (ax.mk p.t27[p.t29.toNat]!.aB.bt p.t27[p.t29.toNat]!.aB.fN p.t27[p.t29.toNat]!.aB.aq) p.t7 with|S=>S|I r1=>I (I (J7.mk r1 p.t27 p.t28 (i64.wrap (p.t29+1))))else S else I (S)
def Rw:=bG (IU)
abbrev E53:=Bool
def d53:Td 0 E53:= .c [] [6] (.r 0 0 (ec 6 qb en) sn (λz=>z.1.1) (λx=>((x,()),(()))))
def A53:=(lc (qg 26) (aM (aM ln)))
def asn:An:=(noTwo (.two (.two (.rb [] 21) .no) (noTwo (.two (noTwo (XP.lp Rw .no)) .no))))
def ayg:∀f∈([]:aa Nat),bC (F53) f:=aG
def avD:dB wJ (F53) 0 300 53 (asn):=bO (l:=[(.skip,(.rb [] 21)),(bg f53 0,(XP.lp Rw .no))]) func53 (bq (by kernel_rfl)) (by kernel_rfl) (aC ayg (aC (aO XP) aG))
def Qf(a0:aP)(a1:Int)(a2:Int):af E53:=
 match bif O (a1<a0.ai.length)then I J else I (O (a1<a0.ak.length))with|S=>S|I r2=>bif r2 then I G else match adW a0.bK a2 with|S=>S|I r3=>match Rw (J7.mk r3 a0.ak a0.ak.length 0)with|S=>S|I r4=>bif O (r4.t29<r4.t28)then if 0<=r4.t29/\r4.t29<r4.t27.length then match MJ (ax.mk r4.t27[r4.t29.toNat]!.aB.bt r4.t27[r4.t29.toNat]!.aB.fN r4.t27[r4.t29.toNat]!.aB.aq) r4.t7 with|S=>S|I r5=>S else S else I (O (0<=r4.t7))
def c53(a0:aP)(a1:Int)(a2:Int):bQ wJ (F53) 300 (asn) 53 (A53.c (a0,a1,a2,())) [] 0 d53.rd=Qf a0 a1 a2:=by kernel_rfl
def e53:=eL wJ 53 G A53 d53 (λg=>Qf g.1 g.2.1 g.t.1)
def ax.eta(t:ax):ax.mk t.bt t.fN t.aq=t:=by cases t;rfl
def ax.dY{t k:ax}(h:k∈t.aq):zh k<zh t:=by
 cases t;have:=wH h;simp only[ax.mk.sizeOf_spec];simp only at this;omega
def nT(t:ax):Nat:=1+(t.aq.attach.map λk=>nT k.1).sum
termination_by zh t
decreasing_by exact ax.dY k.2
def iR(l:aa ax):Nat:=(l.map nT).sum
def sH(t:ax):nT t=1+iR t.aq:=by
 rw[nT,iR]
 congr 2
 exact x8 (f:=nT)
def oZ(k:ax)(ks:aa ax):iR (k::ks)=nT k+iR ks:=by simp[iR]
def OW{k:ax}{ks:aa ax}(h:k∈ks):nT k<=iR ks:=by
 induction ks with
 |nil=>cases h
 |cons a ks ih=>
  rw[oZ];rcases zF.1 h with rfl|h
  ·omega
  ·have:=ih h;omega
def H9(t:ax):0<nT t:=by rw[sH];omega
def tl(t:ax)(left:Int):Int:=if(nT t:Int)<=left then left-nT t else if 0<=left then-1 else left-1
def tls:aa ax->Int->Int
 |[],l=>l
 |k::ks,l=>if 0<=l then tls ks (tl k l)else l
def V3:∀(ks:aa ax) (l:Int),tls ks l=if 0<=l then(if(iR ks:Int)<=l then l-iR ks else-1)else l
 |[],l=>by simp[tls,iR];omega
 |k::ks,l=>by
  have e:=oZ k ks;have:=H9 k;unfold tls;by_cases h:0<=l
  ·rw[bD h,bD h,V3 ks,e];unfold tl;grind
  ·rw[bL h,bL h]
def ary(t:ax)(left:Int):tl t left=tls t.aq (left-1):=by
 rw[V3,tl,sH];grind
def Ul(t:ax)(l:Int):(0<=l-> -1<=tl t l/\tl t l<=l-1)/\(l<0->tl t l=l-1):=by
 have:=H9 t;unfold tl;grind
def Ug(M:ax->Int->af nC)(t:ax)(hM:∀k∈t.aq,∀l:Int,0<=l->l<=1000->M k l=I (tl k l)):
  ∀(ks:aa ax) (i:Nat) (l:Int),t.aq.drop i=ks->i+ks.length=t.aq.length->l<=1000-i->∃q,Gi M ⟨l,i,t⟩=I q/\q.t1=tls ks l/\q.b0=t/\(q.t5<t.aq.length->q.t1<0)
 |[],i,l,hd,hl,_=>by
  refine⟨_,cu λr=> ?_,rfl,rfl,λh=> ?_⟩
  ·have:¬((i:Int)<t.aq.length):=by simp at hl;omega
   simp[FI,this]
  ·simp at hl h;omega
 |k::ks,i,l,hd,hl,h2=>by
  have hil:i<t.aq.length:=by simp at hl;omega
  have hki:t.aq[i]! =k:=by
   have:t.aq[i]? =I k:=by
    have:=congrArg List.head? hd;rw[List.head?_drop]at this;simpa using this
   rw[List.getElem!_eq_getElem?_getD,this];rfl
  have hmem:k∈t.aq:=by rw[<-hki,getElem!_pos t.aq i hil];exact xy hil
  by_cases h0:0<=l
  ·have hd':t.aq.drop (i+1)=ks:=by
    have:=congrArg List.tail hd;rw[List.tail_drop]at this;simpa using this
   have b3:=((Ul k l).1 h0).2;obtain⟨q,e1,e2,e3,e4⟩:=Ug M t hM ks (i+1) (tl k l) hd' (by simp at hl;omega) (by omega);refine⟨q,?_,?_,e3,e4⟩
   ·rw[<-e1];refine bP ?_;have hw:i64.wrap ((i:Int)+1)=((i+1:Nat):Int):=by rw[aI];omega
    have hk2:t.aq[i]=k:=by rw[<-hki,getElem!_pos t.aq i hil]
    simp[FI,hil,h0,hk2,ax.eta,hM k hmem l h0 (by omega)];exact hw
   ·rw[e2];show _=if 0<=l then _ else _
    rw[bD h0]
  ·refine⟨_,cu λr=> ?_,?_,rfl,λh=> ?_⟩
   ·simp[FI,hil,h0]
   ·show l=if 0<=l then _ else l
    rw[bL h0]
   ·simp only;omega
def ad9(M:ax->Int->af nC)(t:ax)(hM:∀k∈t.aq,∀l:Int,0<=l->l<=1000->M k l=I (tl k l))(l:Int)(h1: -1000000<=l)(h2:l<=1000):abk M t l=I (tl t l):=by
 obtain⟨q,e1,e2,e3,e4⟩:=Ug M t hM t.aq 0 (l-1) rfl (by simp) (by omega);have hw:i64.wrap (l-1)=l-1:=aI;rw[ary,<-e2];unfold abk;rw[hw,ax.eta,show ((0:Nat):Int)=0 from rfl]at*;rw[e1];obtain⟨q1,q5,qb⟩:=q;subst e3;dsimp only at*;by_cases h5:q5<(qb.aq.length:Int)
 ·have:=e4 h5;simp[h5,show ¬(0<=q1)by omega]
 ·simp[h5]
def QX:∀(n:Nat) (t:ax) (l:Int),zh t<n-> -1000000<=l->l<=1000->Og n t l=I (tl t l)
 |0,_,_,h,_,_=>by omega
 |n+1,t,l,h,h1,h2=>ad9 (Og n) t (λk hk l h3 h4=>QX n k l (by have:=ax.dY hk;omega) (by omega) h4) l h1 h2
def Fk(t:ax)(l:Int)(h1: -1000000<=l)(h2:l<=1000):MJ t l=I (tl t l):=dS (zh t+1) λn hn=>QX n t l (by omega) h1 h2
def ay.then_lt{s k:ay}(h:k∈s.aK):zh k<zh s:=by
 cases s;have:=wH h;simp only[ay.mk.sizeOf_spec];simp only at this;omega
def ay.adl{s k:ay}(h:k∈s.aN):zh k<zh s:=by
 cases s;have:=wH h;simp only[ay.mk.sizeOf_spec];simp only at this;omega
def ay.eta(s:ay):ay.mk s.bX s.aR s.cX s.fN s.aB s.aK s.aN s.aJ=s:=by cases s;rfl
def nS(s:ay):Nat:=1+nT s.aB+s.aJ.length+(s.aK.attach.map λk=>nS k.1).sum+(s.aN.attach.map λk=>nS k.1).sum
termination_by zh s
decreasing_by
 ·exact ay.then_lt k.2
 ·exact ay.adl k.2
def eW(l:aa ay):Nat:=(l.map nS).sum
def nu(s:ay):nS s=1+nT s.aB+s.aJ.length+eW s.aK+eW s.aN:=by
 rw[nS,eW,eW]
 congr 2
 ·congr 1
  exact x8 (f:=nS)
 ·exact x8 (f:=nS)
def lX(k:ay)(ks:aa ay):eW (k::ks)=nS k+eW ks:=by simp[eW]
def sl(l:aa ay)(left:Int):Int:=if left<0 then left else if(eW l:Int)<=left then left-eW l else-1
def qE(left:Int)(s:ay):af Int:=if left<0 then S else if tl s.aB (left-1)<s.aJ.length then S else I (sl s.aN (sl s.aK (tl s.aB (left-1)-s.aJ.length)))
def I3{left x:Int}{s:ay}(h:qE left s=I x):0<=left/\ -1<=x/\x<=left-1/\x=if(nS s:Int)<=left then left-nS s else-1:=by
 unfold qE at h;have e:=nu s;unfold tl sl at h;grind
def MI{left:Int}{s:ay}(h:qE left s=S)(h0:0<=left):left<nS s:=by
 unfold qE at h;have e:=nu s;unfold tl at h;grind
def af7:∀(l:aa ay) (left:Int),jE qE (λv _=>if v<0 then v else-1) id l left=sl l left
 |[],left=>by unfold sl;simp[eW,jE];omega
 |s::l,left=>by
  have e:=lX s l;unfold jE;cases hs:qE left s with
  |none=>
   have:=MI hs;unfold sl;grind
  |some x=>
   obtain⟨h1,h2,h3,h4⟩:=I3 hs;dsimp only;rw[af7 l x];unfold sl;grind
def abr(M:aa ay->Int->af oP)(l:aa ay)(hM:∀s∈l,(∀x:Int,-1<=x->x<=1000->M s.aK x=I (sl s.aK x))/\(∀x:Int,-1<=x->x<=1000->M s.aN x=I (sl s.aN x)))(left:Int)(h1: -1<=left)(h2:left<=1000):
  Y9 M l left=I (sl l left):=by
 have hstep:∀(i:Nat) (b:Int) (hi:i<l.length),b<=1000-i-> -1<=b->Cj M ⟨l,b,i⟩=if b<0 then I S else if tl l[i].aB (b-1)<l[i].aJ.length then I S else I (I ⟨l,sl l[i].aN (sl l[i].aK (tl l[i].aB (b-1)-l[i].aJ.length)),((i+1:Nat):Int)⟩):=λi b hi hb hb2=>by
  obtain⟨m1,m2⟩:=hM l[i] (xy hi);unfold Cj;by_cases h0:b<0
  ·simp[hi,h0,show ¬0<=b by omega]
  ·have e1:i64.wrap (b-1)=b-1:=aI;have e2:=Fk l[i].aB (b-1) (by omega) (by omega);have e3:=Ul l[i].aB (b-1);have hT: -2<=tl l[i].aB (b-1)/\tl l[i].aB (b-1)<=1000:=by grind
   by_cases h4:tl l[i].aB (b-1)<l[i].aJ.length
   ·simp[hi,h0,e1,ax.eta,e2,h4,show 0<=b by omega]
   ·have e5:i64.wrap (tl l[i].aB (b-1)-l[i].aJ.length)=tl l[i].aB (b-1)-l[i].aJ.length:=aI;have e6:=m1 (tl l[i].aB (b-1)-l[i].aJ.length) (by omega) (by omega);have hS: -1<=sl l[i].aK (tl l[i].aB (b-1)-l[i].aJ.length)/\sl l[i].aK (tl l[i].aB (b-1)-l[i].aJ.length)<=1000:=by unfold sl;grind
    have e7:=m2 _ hS.1 hS.2;have e8:i64.wrap ((i:Int)+1)=((i+1:Nat):Int):=by rw[aI];omega
    simp[hi,h0,e1,ax.eta,e2,h4,e5,e6,e7,show 0<=b by omega];exact e8
 obtain⟨i,v,hi,e1,⟨e2,e3⟩,e4⟩:=Et (rnd:=Cj M) l (λi b=>⟨l,b,(i:Int)⟩) qE (λv _=>if v<0 then v else-1) id (λi b=>b<=1000-i/\ -1<=b) (λi b hi hI b' hs=>by
   obtain⟨q1,q2,q3,q4⟩:=I3 hs;refine⟨?_,by omega,q2⟩;rw[hstep i b hi hI.1 hI.2];unfold qE at hs;grind) (λi b hi hI hs r=>by
   rw[hstep i b hi hI.1 hI.2];unfold qE at hs;grind) (λb hI r=>by simp[Cj]) (b:=left) ⟨by omega,h1⟩
 have e1':Hr M ⟨l,left,0⟩=I ⟨l,v,i⟩:=e1;unfold Y9;rw[e1'];rw[af7]at e4;rcases e4 with ⟨h5,e4⟩|⟨h5,hn,e4⟩
 ·simp[h5,e4]
 ·rw[e4];by_cases h0:v<0
  ·simp[h5,h0,show ¬(0<=v)by omega]
  ·have e1:i64.wrap (v-1)=v-1:=aI;have e2:=Fk l[i].aB (v-1) (by omega) (by omega);have h4:tl l[i].aB (v-1)<l[i].aJ.length:=by unfold qE at hn;grind
   simp[h5,h0,show 0<=v by omega,e1,ax.eta,e2,h4]
def bf{s:ay}{l:aa ay}(h:s∈l):zh s.aK<zh l/\zh s.aN<zh l:=by
 have:=wH h;cases s;simp only[ay.mk.sizeOf_spec]at this;simp only;omega
def Fs:∀(n:Nat) (l:aa ay) (x:Int),zh l<n-> -1<=x->x<=1000->Mw n l x=I (sl l x)
 |0,_,_,h,_,_=>by omega
 |n+1,l,x,h,h1,h2=>abr (Mw n) l (λs hs=>⟨λx h3 h4=>Fs n _ x (by have:=bf hs;omega) h3 h4,λx h3 h4=>Fs n _ x (by have:=bf hs;omega) h3 h4⟩) x h1 h2
def adF(l:aa ay)(x:Int)(h1: -1<=x)(h2:x<=1000):adW l x=I (sl l x):=dS (zh l+1) λn hn=>Fs n l x (by omega) h1 h2
def few(f:aP)(vars nodes:Int):Bool:=O ((f.ai.length:Int)<=vars/\(f.ak.length:Int)<=vars/\(eW f.bK+iR (f.ak.map (·.aB)):Int)<=nodes)
def alp(f:aP)(vars nodes:Int)(h1:0<=vars)(h2:vars<=1000)(h3:0<=nodes)(h4:nodes<=1000):Qf f vars nodes=I (few f vars nodes):=by
 unfold Qf;by_cases q1:vars<f.ai.length
 ·simp[q1,few];omega
 ·by_cases q2:vars<f.ak.length
  ·simp[q1,q2,few];omega
  ·rw[adF _ _ (by omega) (by omega)];have hb:sl f.bK nodes<=1000/\ -1<=sl f.bK nodes:=by unfold sl;grind
   have hstep:∀(i:Nat) (b:Int) (hi:i<f.ak.length),b<=1000-> -1-(i:Int)<=b->IU ⟨b,f.ak,f.ak.length,i⟩=I (I ⟨tl f.ak[i].aB b,f.ak,f.ak.length,((i+1:Nat):Int)⟩):=λi b hi hb hb2=>by
    have e2:=Fk f.ak[i].aB b (by omega) (by omega);have e8:i64.wrap ((i:Int)+1)=((i+1:Nat):Int):=by rw[aI];omega
    unfold IU;simp[hi,ax.eta,e2];exact e8
   obtain⟨i,v,hi,e1,_,e4⟩:=Et (rnd:=IU) f.ak (λi b=>⟨b,f.ak,f.ak.length,(i:Int)⟩) (λb h=>I (tl h.aB b)) (λv _=>v) id (λi b=>b<=1000/\ -1-(i:Int)<=b) (λi b hi hI b' hs=>by
     cases hs;refine⟨hstep i b hi hI.1 hI.2,?_⟩;have:=Ul f.ak[i].aB b;grind) (λi b hi hI hs r=>by cases hs) (λb hI r=>by simp[IU]) (b:=sl f.bK nodes) ⟨hb.1,by omega⟩
   have e1':Rw ⟨sl f.bK nodes,f.ak,f.ak.length,0⟩=I ⟨v,f.ak,f.ak.length,i⟩:=e1;rcases e4 with ⟨h5,e4⟩|⟨_,hn,_⟩
   case inr=>cases hn
   have key:∀(l:aa cV) (b:Int),0<=jE (ρ:=Int) (λb h=>I (tl h.aB b)) (λv _=>v) id l b↔(iR (l.map (·.aB)):Int)<=b:=λl=>by
    induction l with
    |nil=>intro b;simp[jE,iR]
    |cons h l ih=>
     intro b;unfold jE;dsimp only;rw[ih,z7,oZ];have:=H9 h.aB;unfold tl;grind
   have k2:=key f.ak (sl f.bK nodes);rw[e4]at k2;have k3:(0<=v)↔(iR (f.ak.map (·.aB)):Int)<=sl f.bK nodes:=k2;simp only[q1,q2,fS,bz,e1',h5,xw,few]
   congr 1
   rw[decide_eq_decide,k3];unfold sl;grind
def Z0:((0:Nat):Int)=(0:Int):=rfl
def okc(i:Nat)(c:Int):Bool:=O ((97<=c/\c<=122)\/(i≠0/\((48<=c/\c<=57)\/c=46\/c=95)))
def ij(s:ByteArray):Bool:=O (1<=s.size)&&O (s.size<=40)&&(zO s.size).all λi=>okc i (cg s i)
def gj(low high:Int):Bool:=O (low<=high/\ -1048576<=low/\high<=1048576)
def kz(vars:aa aS)(i:Nat)(v:aS):Int:=
 if ij v.fName=G then 7
 else if((vars.take i).any λw=>w.fName.toList==v.fName.toList)=J then 8
 else if v.bw<0\/3<v.bw then 1
 else if gj v.ag v.ah=G then 3
 else if v.bw=0 then(if v.dM<v.ag\/v.ah<v.dM then 3 else 0)
 else if v.dM=0 then 0 else 3
def rT(kind:Int):aa aS->Int->af Int
 |[],n=>I n
 |v::vs,n=>if v.bw=kind then(if 4096<n*(v.ah-v.ag+1)then S else rT kind vs (n*(v.ah-v.ag+1)))else rT kind vs n
def u5(vars:aa aS):Bool:=(rT 1 vars 1).isSome&&(rT 2 vars 1).isSome&&(match rT 3 vars 1 with|I n=>O (n<=256)|S=>G)
def iP(vars:aa aS):Int:=if b9 (kz vars) vars 0≠0 then b9 (kz vars) vars 0 else if u5 vars=J then 0 else 4
def bY(o:Int):Int×Int:=if o=0\/o=24 then(0,0)else if o=6\/o=7 then(1,1)else if 8<=o/\o<=22 then(2,2)else if o=23 then(3,3)else if o=25 then(2,33)else(-1,-1)
def vR(vars:aa aS)(inp:Bool)(t:ax):Bool:=O (0<=(bY t.bt).1/\(bY t.bt).1<=t.aq.length/\(t.aq.length:Int)<=(bY t.bt).2)&&
 (if t.bt=0 then J else if t.bt=24 then O (0<=t.fN/\t.fN<vars.length)&& !(inp&&O (vars[t.fN.toNat]!.bw=0))else O (t.fN=0))
def cY(vars:aa aS)(inp:Bool)(t:ax):Bool:=vR vars inp t&&t.aq.attach.all λk=>cY vars inp k.1
termination_by zh t
decreasing_by exact ax.dY k.2
def j5(vars:aa aS)(inp:Bool)(t:ax):cY vars inp t=(vR vars inp t&&t.aq.all (cY vars inp)):=by
 rw[cY]
 congr 1
 rw[List.all_eq,List.all_eq];simp
def fA(a b:Span):Span:=⟨if b.ag<a.ag then b.ag else a.ag,if a.ah<b.ah then b.ah else a.ah⟩
def ia(vars:aa aS)(t:ax)(k:aa Span):Span:=
 if t.bt=0 then⟨t.fN,t.fN⟩
 else if t.bt=24 then⟨vars[t.fN.toNat]!.ag,vars[t.fN.toNat]!.ah⟩
 else if t.bt=6 then⟨-k[0]!.ah,-k[0]!.ag⟩
 else if t.bt=8 then⟨k[0]!.ag+k[1]!.ag,k[0]!.ah+k[1]!.ah⟩
 else if t.bt=9 then⟨k[0]!.ag-k[1]!.ah,k[0]!.ah-k[1]!.ag⟩
 else if t.bt=10 then
  fA (fA (fA ⟨k[0]!.ag*k[1]!.ag,k[0]!.ag*k[1]!.ag⟩ ⟨k[0]!.ag*k[1]!.ah,k[0]!.ag*k[1]!.ah⟩) ⟨k[0]!.ah*k[1]!.ag,k[0]!.ah*k[1]!.ag⟩) ⟨k[0]!.ah*k[1]!.ah,k[0]!.ah*k[1]!.ah⟩
 else if t.bt=11 then
  (if(0:Int)<=k[0]!.ag/\(0:Int)<=k[1]!.ag then⟨0,if k[0]!.ah< -k[0]!.ag then-k[0]!.ag else k[0]!.ah⟩else⟨-(if k[0]!.ah< -k[0]!.ag then-k[0]!.ag else k[0]!.ah),if k[0]!.ah< -k[0]!.ag then-k[0]!.ag else k[0]!.ah⟩)
 else if t.bt=12 then⟨if k[1]!.ag<0 then k[1]!.ag+1 else 0,if(0:Int)<k[1]!.ah then k[1]!.ah-1 else 0⟩
 else if t.bt=21 then⟨if k[1]!.ag<k[0]!.ag then k[1]!.ag else k[0]!.ag,if k[1]!.ah<k[0]!.ah then k[1]!.ah else k[0]!.ah⟩
 else if t.bt=22 then⟨if k[0]!.ag<k[1]!.ag then k[1]!.ag else k[0]!.ag,if k[0]!.ah<k[1]!.ah then k[1]!.ah else k[0]!.ah⟩
 else if t.bt=23\/t.bt=25 then(k.drop 2).foldl fA k[1]!
 else⟨0,1⟩
def sj(s:Span):Bool:=O (-1048576<=s.ag/\s.ah<=1048576)
def jL:aa (af Span)->af (aa Span)
 |[]=>I []
 |none::_=>S
 |some s::xs=>match jL xs with|I l=>I (s::l)|S=>S
def fR(vars:aa aS)(t:ax):af Span:=match jL (t.aq.attach.map λk=>fR vars k.1)with
 |none=>S
 |some l=>if sj (ia vars t l)=J then I (ia vars t l)else S
termination_by zh t
decreasing_by exact ax.dY k.2
def tu(vars:aa aS)(t:ax):fR vars t=match jL (t.aq.map (fR vars))with
 |none=>S
 |some l=>if sj (ia vars t l)=J then I (ia vars t l)else S:=by
 rw[fR];rw[show (t.aq.attach.map λk=>fR vars k.1)=t.aq.map (fR vars)from x8 (f:=fR vars)]
def dN(vars:aa aS)(inp:Bool)(t:ax):Int:=if cY vars inp t=G then 1 else if(fR vars t).isSome then 0 else 3
def jx(f:aP)(i:Nat)(h:cV):Int:=
 if ij h.fName=G then 7
 else if((f.ak.take i).any λw=>w.fName.toList==h.fName.toList)=J then 8
 else if gj h.ag h.ah=G then 3
 else dN f.ai J h.aB
def dT(t:ax):Int:=1+(t.aq.attach.map λk=>dT k.1).foldl max 0
termination_by zh t
decreasing_by exact ax.dY k.2
def K8(l:aa ax):Int:=(l.map dT).foldl max 0
def OA(t:ax):dT t=1+K8 t.aq:=by
 rw[dT,K8];rw[show (t.aq.attach.map λk=>dT k.1)=t.aq.map dT from x8 (f:=dT)]
def uu(l:aa Int)(a x:Int):(l++[x]).foldl max a=max (l.foldl max a) x:=by simp[List.foldl_append]
def Bw(l:aa ax)(k:ax):K8 (l++[k])=max (K8 l) (dT k):=by
 unfold K8;rw[z6,z7,yK,uu]
def oH(l:aa ax)(k:ax):iR (l++[k])=iR l+nT k:=by
 simp[iR]
def tI:∀(l:aa Int) (a:Int),a<=l.foldl max a
 |[],a=>zw _
 |x::l,a=>xG (Int.le_max_left a x) (tI l (max a x))
def Hh(l:aa ax):0<=K8 l:=tI _ _
def akT(t:ax):1<=dT t:=by have:=Hh t.aq;rw[OA];omega
def dA(s:ay)(l:aa ay):zh l<zh (s::l):=by
 rw[List.cons.sizeOf_spec];omega
def iZ:aa ay->Int
 |[]=>0
 |s::l=>max (max (iZ s.aK+1) (iZ s.aN+1)) (iZ l)
termination_by l=>zh l
decreasing_by
 ·exact(bf (zm ..)).1
 ·exact(bf (zm ..)).2
 ·exact dA _ _
def eS:aa ay->Bool
 |[]=>G
 |s::l=>O (12<dT s.aB)||eS s.aK||eS s.aN||eS l
termination_by l=>zh l
decreasing_by
 ·exact(bf (zm ..)).1
 ·exact(bf (zm ..)).2
 ·exact dA _ _
def pV(l:aa ay):0<=iZ l:=by
 induction l with
 |nil=>rw[iZ];omega
 |cons s l ih=>rw[iZ];omega
def Vd(l:aa ay)(s:ay):iZ (l++[s])=max (iZ l) (max (iZ s.aK+1) (iZ s.aN+1)):=by
 induction l with
 |nil=>
  have:=pV s.aK;rw[yg,show iZ []=0 by rw[iZ],iZ,show iZ []=0 by rw[iZ]];omega
 |cons a l ih=>rw[xo,iZ,iZ,ih];omega
def KY(l:aa ay)(k:ay):eW (l++[k])=eW l+nS k:=by simp[eW]
def oo(f:aP):Bool:=O (f.ai.length<=64)&&O (f.ak.length<=8)&&f.ak.all (λh=>O (dT h.aB<=12))&&O (iZ f.bK<=12)&& !eS f.bK
def fl:aa Int->Bool
 |a::b::l=>O (a<b)&&fl (b::l)
 |_=>J
def tc(t:ax):Bool:=O (t.bt=0/\t.fN=0/\t.aq.length=0)
def qV(f:aP)(s:ay):Bool:=O (0<=s.cX/\s.cX<f.ai.length)&&O (f.ai[s.cX.toNat]!.bw=0)
def de(f:aP)(s:ay)(last:Bool):Bool:=
 let free:=O (s.aK.length=0/\s.aN.length=0)
 let nob:=O (s.aJ.length=0)
 if s.bX=0 then free&&qV f s&&O (s.fN=0)&&nob
 else if s.bX=1 then free&&O (s.cX=0)&&O (s.fN=0)&&nob
 else if s.bX=2 then free&&O (s.cX=0)&&O (s.fN=0)&&nob&&tc s.aB
 else if s.bX=3 then O (s.cX=0)&&O (s.fN=0)&&nob
 else if s.bX=4 then O (s.cX=0)&&O (s.aN.length=0)&&nob
 else if s.bX=5 then free&&qV f s&&O (0<=s.fN/\s.fN<f.ak.length)&&nob&&tc s.aB
 else if s.bX=6 then free&&last&&O (s.cX=0)&&O (s.fN=0)&&tc s.aB&&(O (1<=s.aJ.length/\s.aJ.length<=32)&&O ((0:Int)<=s.aJ[0]!)&&fl s.aJ)
 else G
def rM(s:ay):Bool:=O (0<=s.aR/\s.aR<=(if s.bX=2 then 67108864 else 10000))&&(if s.bX=4 then O (0<=s.fN/\s.fN<=4096)else J)&&(if s.bX=6 then O (s.aJ[s.aJ.length-1]!<=67108864)else J)
def lz(f:aP)(last:Bool)(s:ay):Int:=if de f s last=G then 1 else if rM s=G then 3 else dN f.ai G s.aB
def bW(f:aP)(top:Bool):aa ay->Int
 |[]=>0
 |s::l=>if lz f (top&&l.isEmpty) s≠0 then lz f (top&&l.isEmpty) s else if bW f G s.aK≠0 then bW f G s.aK else if bW f G s.aN≠0 then bW f G s.aN else bW f top l
termination_by l=>zh l
decreasing_by
 all_goals first|exact(bf (zm ..)).1|exact(bf (zm ..)).2|exact dA _ _
def TB(f:aP)(top:Bool)(n i:Nat)(s:ay):Int:=if lz f (top&&O (i+1=n)) s≠0 then lz f (top&&O (i+1=n)) s else if bW f G s.aK≠0 then bW f G s.aK else bW f G s.aN
def ow(f:aP)(top:Bool)(n:Nat):∀(l:aa ay) (i:Nat),i+l.length=n->b9 (TB f top n) l i=bW f top l
 |[],i,_=>by rw[bW];rfl
 |s::l,i,h=>by
  have ih:=ow f top n l (i+1) (by simp at h;omega);have he:l.isEmpty=O (i+1=n):=by
   cases l with
   |nil=>simp at h;simp[h]
   |cons a l=>simp at h;simp;omega
  unfold b9;rw[bW,ih,he];unfold TB;grind
def ei:aa ay->Int×Int×Int
 |[]=>(0,0,0)
 |s::l=>match ei s.aK,ei s.aN,ei l with
  |a,b,c=>if s.bX=1 then(1+c.1,1+c.2.1,s.aR+c.2.2)
   else if s.bX=3 then(1+max a.1 b.1+c.1,max a.2.1 b.2.1+c.2.1,s.aR+max a.2.2 b.2.2+c.2.2)
   else if s.bX=4 then(1+s.fN*(1+a.1)+c.1,s.fN*a.2.1+c.2.1,s.fN*(s.aR+a.2.2)+c.2.2)
   else(1+c.1,c.2.1,s.aR+c.2.2)
termination_by l=>zh l
decreasing_by
 ·exact(bf (zm ..)).1
 ·exact(bf (zm ..)).2
 ·exact dA _ _
def OE(f:aP):Bool:=O (4096<(ei f.bK).1\/8<(ei f.bK).2.1\/67108864<(ei f.bK).2.2)
def qL(f:aP):Int:=if oo f=G then 4 else if iP f.ai≠0 then iP f.ai else if b9 (jx f) f.ak 0≠0 then b9 (jx f) f.ak 0 else if bW f J f.bK≠0 then bW f J f.bK else if OE f=J then 4 else 0
def aa7:aW:=cZ
def abN:aV wJ aa7:=aQ
abbrev ajD:=Bool×aU
def d208:Td 1 ajD:= .c [] [2] (.r 1 1 (ec 2 qb en) (sb 0 256 (lg 256) sn) (λz=>(z.1.1,z.2.1)) (λx=>((x.1,()),(x.2,()))))
def atP:=(lc (qp 0 0) ln)
def ap1:=(sb 0 256 (lg 256) sn)
def agP:An:=(noTwo (.two (.rb [] 2) .no))
def aoV:∀f∈([]:aa Nat),bC (aa7) f:=aG
def atG:dB wJ (aa7) 1 300 208 (agP):=bO (l:=[(.skip,(.rb [] 2))]) func208 (bq (by kernel_rfl)) (by kernel_rfl) (aC aoV aG)
def iJ(b0:aU):ajD:=
 let r1:Bool:=bif b0.eO then J else O (1024<b0.bA);(r1,b0)
def ayk(b0:aU):bQ wJ (aa7) 300 (agP) 208 (atP.c ((),())) (ap1.d (b0,())) 1 d208.rd=I (iJ b0):=by
 refine Eq.trans (b:=(
  match bif b0.eO then I (J)else I (O (1024<b0.bA))with|S=>S|I r1=>I ((r1,b0)):af ajD)) (by kernel_rfl) ?_
 simp only[iJ,ct,cF]
def Zn:aW->aW:=eY wJ 208 1 atP ap1 d208 (λg=>I (iJ g.2.1))
def FW{F:aW}(h:aV wJ F):aV wJ (Zn F):=Kz (Ra abN atG (λ_=>by kernel_rfl) (λ_=>by kernel_rfl) (λ_=>by kernel_rfl) λg=>ayk g.2.1) ⟨_,func208,by kernel_rfl,by kernel_rfl⟩ (λ_=>by kernel_rfl) h
abbrev qe:=aU
def d209:Td 1 qe:= .c [] [] (.r 1 1 en (sb 0 256 (lg 256) sn) (λz=>z.2.1) (λx=>((()),(x,()))))
def ajF:=(lc (qp 0 0) (lc (qg 137) (aM ln)))
def amb:=(sb 0 256 (lg 256) sn)
def amM(M:ax->Int->aU->af qe):aW->aW:=eY wJ 209 1 ajF amb d209 (λg=>M g.1.2.1 g.1.2.2.1 g.2.1)
def aaM(M:ax->Int->aU->af qe):Prop:=HY wJ 209 1 ajF amb d209 (λg=>M g.1.2.1 g.1.2.2.1 g.2.1)
def Qj{M:ax->Int->aU->af qe}(hM:aaM M){F:aW}(h:aV wJ F):aV wJ (amM M F):=Kz hM ⟨_,func209,by kernel_rfl,by kernel_rfl⟩ (λ_=>by kernel_rfl) h
def ait(M209:ax->Int->aU->af qe):aW:=(amM M209 (Zn cZ))
def acA{M209}(h209:aaM M209):aV wJ (ait M209):=(Qj h209 (FW aQ))
structure uI where
 t2:Int
 t29:List ax
 (t30 t31:Int)
 b0:aU
def Ol:Td 1 uI:= .c [] [0,2,29,30,31] (.r 1 1 (ec 0 (qp 0 0) (ec 2 aL (ec 29 (ql 137) (ec 30 aL (ec 31 aL en))))) (sb 0 256 (lg 256) sn) (λz=>⟨z.1.2.1,z.1.t.1,z.1.t.2.1,z.1.q.1,z.2.1⟩) (λx=>(((),x.t2,x.t29,x.t30,x.t31,()),(x.b0,()))))
def Gt(M209:ax->Int->aU->af qe)(p:uI):af (af uI):=
 bif O (p.t31<p.t30)then if 0<=p.t31/\p.t31<p.t29.length then match M209 (ax.mk p.t29[p.t31.toNat]!.bt p.t29[p.t31.toNat]!.fN p.t29[p.t31.toNat]!.aq) (i64.wrap (p.t2+1)) p.b0 with|S=>S|I r1=>I (I (uI.mk p.t2 p.t29 p.t30 (i64.wrap (p.t31+1)) r1))else S else I (S)
def C0(M209:ax->Int->aU->af qe):=bG (Gt M209)
def ahy(M209:ax->Int->aU->af qe):An:=(noTwo (noTwo (noTwo (noTwo (noTwo (Ol.lp (C0 M209) .no))))))
def apg(M209:ax->Int->aU->af qe):dB wJ (ait M209) 1 300 209 (ahy M209):=bO (l:=[(bg f209 0,(Ol.lp (C0 M209) .no))]) func209 (bq (by kernel_rfl)) (by kernel_rfl) (aC (aO Ol) aG)
def Zv(M209:ax->Int->aU->af qe)(a1:ax)(a2:Int)(b0:aU):af qe:=
 bif b0.eO then bif(iJ (aU.mk (i64.wrap (b0.bA+1)) J)).fst then I ((iJ (aU.mk (i64.wrap (b0.bA+1)) J)).snd)else match C0 M209 (uI.mk a2 a1.aq a1.aq.length 0 (iJ (aU.mk (i64.wrap (b0.bA+1)) J)).snd)with|S=>S|I r2=>bif O (r2.t31<r2.t30)then if 0<=r2.t31/\r2.t31<r2.t29.length then match M209 (ax.mk r2.t29[r2.t31.toNat]!.bt r2.t29[r2.t31.toNat]!.fN r2.t29[r2.t31.toNat]!.aq) (i64.wrap (r2.t2+1)) r2.b0 with|S=>S|I r3=>S else S else I (r2.b0)else bif(iJ (aU.mk (i64.wrap (b0.bA+1)) (O (12<a2)))).fst then I ((iJ (aU.mk (i64.wrap (b0.bA+1)) (O (12<a2)))).snd)else match C0 M209 (uI.mk a2 a1.aq a1.aq.length 0 (iJ (aU.mk (i64.wrap (b0.bA+1)) (O (12<a2)))).snd)with|S=>S|I r4=>bif O (r4.t31<r4.t30)then if 0<=r4.t31/\r4.t31<r4.t29.length then match M209 (ax.mk r4.t29[r4.t31.toNat]!.bt r4.t29[r4.t31.toNat]!.fN r4.t29[r4.t31.toNat]!.aq) (i64.wrap (r4.t2+1)) r4.b0 with|S=>S|I r5=>S else S else I (r4.b0)
def axJ(M209:ax->Int->aU->af qe)(a1:ax)(a2:Int)(b0:aU):bQ wJ (ait M209) 300 (ahy M209) 209 (ajF.c ((),a1,a2,())) (amb.d (b0,())) 1 d209.rd=Zv M209 a1 a2 b0:=by kernel_rfl
def agA:Nat->(ax->Int->aU->af qe)
 |0=>(λ_ _ _=>S)
 |n+1=>(Zv (agA n))
def Mg(n:Nat):ax->Int->aU->af qe:=(agA n)
def IJ:∀n,aaM (Mg n)
 |0=>λ_ _ h=>(by cases h)
 |n+1=>by
  have ih:=IJ n;have i209:=ih;exact(Ra (acA i209) (apg (Mg n)) (λ_=>by kernel_rfl) (λ_=>by kernel_rfl) (λ_=>by kernel_rfl) λg=>axJ (Mg n) g.1.2.1 g.1.2.2.1 g.2.1)
def DE:ax->Int->aU->af qe:=λa1 a2 b0=>lim (λn=>Mg n a1 a2 b0)
def aaI:aaM DE:=λg b h=>by
 obtain⟨n,hn⟩:=cT (show lim (λn=>Mg n g.1.2.1 g.1.2.2.1 g.2.1)=I b from h);exact(IJ n) g b hn
def ald(F:aW):aW:=amM DE F
def PB{F:aW}(h:aV wJ F):aV wJ (ald F):=Qj aaI h
abbrev qh:=aU
def d207:Td 1 qh:= .c [] [] (.r 1 1 en (sb 0 256 (lg 256) sn) (λz=>z.2.1) (λx=>((()),(x,()))))
def am2:=(lc (qp 0 0) (lc (ql 166) (aM ln)))
def amX:=(sb 0 256 (lg 256) sn)
def alc(M:(aa ay)->Int->aU->af qh):aW->aW:=eY wJ 207 1 am2 amX d207 (λg=>M g.1.2.1 g.1.2.2.1 g.2.1)
def ade(M:(aa ay)->Int->aU->af qh):Prop:=HY wJ 207 1 am2 amX d207 (λg=>M g.1.2.1 g.1.2.2.1 g.2.1)
def OX{M:(aa ay)->Int->aU->af qh}(hM:ade M){F:aW}(h:aV wJ F):aV wJ (alc M F):=Kz hM ⟨_,func207,by kernel_rfl,by kernel_rfl⟩ (λ_=>by kernel_rfl) h
def ama(M207:(aa ay)->Int->aU->af qh):aW:=(ald (Zn (alc M207 cZ)))
def adU{M207}(h207:ade M207):aV wJ (ama M207):=(PB (FW (OX h207 aQ)))
structure vh where
 t2:Int
 t8:List ay
 (t9 t10:Int)
 b0:aU
def Mp:Td 1 vh:= .c [] [0,2,8,9,10] (.r 1 1 (ec 0 (qp 0 0) (ec 2 aL (ec 8 (ql 166) (ec 9 aL (ec 10 aL en))))) (sb 0 256 (lg 256) sn) (λz=>⟨z.1.2.1,z.1.t.1,z.1.t.2.1,z.1.q.1,z.2.1⟩) (λx=>(((),x.t2,x.t8,x.t9,x.t10,()),(x.b0,()))))
def AQ(M207:(aa ay)->Int->aU->af qh)(p:vh):af (af vh):=
 bif O (p.t10<p.t9)then if 0<=p.t10/\p.t10<p.t8.length then bif p.b0.eO then bif(iJ (aU.mk (i64.wrap (p.b0.bA+1)) J)).fst then I (S)else match DE (ax.mk p.t8[p.t10.toNat]!.aB.bt p.t8[p.t10.toNat]!.aB.fN p.t8[p.t10.toNat]!.aB.aq) 1 (iJ (aU.mk (i64.wrap (p.b0.bA+1)) J)).snd with|S=>S|I r1=>match M207 p.t8[p.t10.toNat]!.aK (i64.wrap (p.t2+1)) r1 with|S=>S|I r2=>match M207 p.t8[p.t10.toNat]!.aN (i64.wrap (p.t2+1)) r2 with|S=>S|I r3=>I (I (vh.mk p.t2 p.t8 p.t9 (i64.wrap (p.t10+1)) r3))else bif(iJ (aU.mk (i64.wrap (p.b0.bA+1)) (O (12<(((),p.t2,p.t8,p.t9,p.t10,()),p.b0,()).fst.snd.fst)))).fst then I (S)else match DE (ax.mk p.t8[p.t10.toNat]!.aB.bt p.t8[p.t10.toNat]!.aB.fN p.t8[p.t10.toNat]!.aB.aq) 1 (iJ (aU.mk (i64.wrap (p.b0.bA+1)) (O (12<(((),p.t2,p.t8,p.t9,p.t10,()),p.b0,()).fst.snd.fst)))).snd with|S=>S|I r4=>match M207 p.t8[p.t10.toNat]!.aK (i64.wrap (p.t2+1)) r4 with|S=>S|I r5=>match M207 p.t8[p.t10.toNat]!.aN (i64.wrap (p.t2+1)) r5 with|S=>S|I r6=>I (I (vh.mk p.t2 p.t8 p.t9 (i64.wrap (p.t10+1)) r6))else S else I (S)
def GB(M207:(aa ay)->Int->aU->af qh):=bG (AQ M207)
def agw(M207:(aa ay)->Int->aU->af qh):An:=(noTwo (Mp.lp (GB M207) .no))
def as9(M207:(aa ay)->Int->aU->af qh):dB wJ (ama M207) 1 300 207 (agw M207):=bO (l:=[(bg f207 0,(Mp.lp (GB M207) .no))]) func207 (bq (by kernel_rfl)) (by kernel_rfl) (aC (aO Mp) aG)
def adL(M207:(aa ay)->Int->aU->af qh)(a1:aa ay)(a2:Int)(b0:aU):af qh:=
 match GB M207 (vh.mk a2 a1 a1.length 0 b0)with|S=>S|I r7=>bif O (r7.t10<r7.t9)then if 0<=r7.t10/\r7.t10<r7.t8.length then bif r7.b0.eO then bif(iJ (aU.mk (i64.wrap (r7.b0.bA+1)) J)).fst then I ((iJ (aU.mk (i64.wrap (r7.b0.bA+1)) J)).snd)else match DE (ax.mk r7.t8[r7.t10.toNat]!.aB.bt r7.t8[r7.t10.toNat]!.aB.fN r7.t8[r7.t10.toNat]!.aB.aq) 1 (iJ (aU.mk (i64.wrap (r7.b0.bA+1)) J)).snd with|S=>S|I r8=>match M207 r7.t8[r7.t10.toNat]!.aK (i64.wrap (r7.t2+1)) r8 with|S=>S|I r9=>match M207 r7.t8[r7.t10.toNat]!.aN (i64.wrap (r7.t2+1)) r9 with|S=>S|I r10=>S else bif(iJ (aU.mk (i64.wrap (r7.b0.bA+1)) (O (12<(((),r7.t2,r7.t8,r7.t9,r7.t10,()),r7.b0,()).fst.snd.fst)))).fst then I ((iJ (aU.mk (i64.wrap (r7.b0.bA+1)) (O (12<(((),r7.t2,r7.t8,r7.t9,r7.t10,()),r7.b0,()).fst.snd.fst)))).snd)else match DE (ax.mk r7.t8[r7.t10.toNat]!.aB.bt r7.t8[r7.t10.toNat]!.aB.fN r7.t8[r7.t10.toNat]!.aB.aq) 1 (iJ (aU.mk (i64.wrap (r7.b0.bA+1)) (O (12<(((),r7.t2,r7.t8,r7.t9,r7.t10,()),r7.b0,()).fst.snd.fst)))).snd with|S=>S|I r11=>match M207 r7.t8[r7.t10.toNat]!.aK (i64.wrap (r7.t2+1)) r11 with|S=>S|I r12=>match M207 r7.t8[r7.t10.toNat]!.aN (i64.wrap (r7.t2+1)) r12 with|S=>S|I r13=>S else S else I (r7.b0)
def ayu(M207:(aa ay)->Int->aU->af qh)(a1:aa ay)(a2:Int)(b0:aU):bQ wJ (ama M207) 300 (agw M207) 207 (am2.c ((),a1,a2,())) (amX.d (b0,())) 1 d207.rd=adL M207 a1 a2 b0:=by kernel_rfl
def agC:Nat->((aa ay)->Int->aU->af qh)
 |0=>(λ_ _ _=>S)
 |n+1=>(adL (agC n))
def Mb(n:Nat):(aa ay)->Int->aU->af qh:=(agC n)
def Jl:∀n,ade (Mb n)
 |0=>λ_ _ h=>(by cases h)
 |n+1=>by
  have ih:=Jl n;have i207:=ih;exact(Ra (adU i207) (as9 (Mb n)) (λ_=>by kernel_rfl) (λ_=>by kernel_rfl) (λ_=>by kernel_rfl) λg=>ayu (Mb n) g.1.2.1 g.1.2.2.1 g.2.1)
def Wi:(aa ay)->Int->aU->af qh:=λa1 a2 b0=>lim (λn=>Mb n a1 a2 b0)
def afj:ade Wi:=λg b h=>by
 obtain⟨n,hn⟩:=cT (show lim (λn=>Mb n g.1.2.1 g.1.2.2.1 g.2.1)=I b from h);exact(Jl n) g b hn
def asg(F:aW):aW:=alc Wi F
def YT{F:aW}(h:aV wJ F):aV wJ (asg F):=OX afj h
abbrev aqz:=Bool
def d260:Td 0 aqz:= .c [] [3] (.r 0 0 (ec 3 qb en) sn (λz=>z.1.1) (λx=>((x,()),(()))))
def XB(a0:aS)(c0:aS):aqz:=
 a0.fName.toList==c0.fName.toList
def avb:=eL wJ 260 G (lc (qg 131) (lc (qr (lg 131)) ln)) d260 (λg=>I (XB g.1 g.2.1))
def Om:EO avb:=λh=>kL (an:= .no) func260 aQ aG h
def aqi:aW:=cZ
structure CK where
 t0:ByteArray
 (t14 t15:Int)
def ND:Td 0 CK:= .c [] [0,14,15] (.r 0 0 (ec 0 qs (ec 14 aL (ec 15 aL en))) sn (λz=>⟨z.1.1,z.1.2.1,z.1.t.1⟩) (λx=>((x.t0,x.t14,x.t15,()),(()))))
def G6(p:CK):af (af CK):=
 bif O (p.t15<p.t14)then if 0<=p.t15/\p.t15<p.t0.size then match bif O (97<=cg p.t0 p.t15.toNat)then I (O (cg p.t0 p.t15.toNat<=122))else I G with|S=>S|I r1=>match bif bif r1 then G else J then bif O (p.t15=0)then I J else bif O (cg p.t0 p.t15.toNat<48)then bif bif O (cg p.t0 p.t15.toNat=46)then G else J then I (bif O (cg p.t0 p.t15.toNat=95)then G else J)else I G else bif O (57<cg p.t0 p.t15.toNat)then bif bif O (cg p.t0 p.t15.toNat=46)then G else J then I (bif O (cg p.t0 p.t15.toNat=95)then G else J)else I G else I G else I G with|S=>S|I r2=>bif r2 then I (S)else I (I (CK.mk p.t0 p.t14 (i64.wrap (p.t15+1))))else S else I (S)
def UX:An:=(noTwo (noTwo (.two (noTwo (noTwo (.two (.rb [] 5) (.two (.rb [] 48) .no)))) .no)))
def GX:=bG (G6)
abbrev an2:=Bool
def d261:Td 0 an2:= .c [] [2] (.r 0 0 (ec 2 qb en) sn (λz=>z.1.1) (λx=>((x,()),(()))))
def VU:∀f∈([]:aa Nat),bC (aqi) f:=aG
def Ny(a0:ByteArray):af an2:=
 match bif a0.toList==(ByteArray.mk (y6 [])).toList then I J else I (O (40<(a0.size:Int)))with|S=>S|I r3=>bif r3 then I G else match GX (CK.mk a0 a0.size 0)with|S=>S|I r4=>bif O (r4.t15<r4.t14)then if 0<=r4.t15/\r4.t15<r4.t0.size then match bif O (97<=cg r4.t0 r4.t15.toNat)then I (O (cg r4.t0 r4.t15.toNat<=122))else I G with|S=>S|I r5=>match bif bif r5 then G else J then bif O (r4.t15=0)then I J else bif O (cg r4.t0 r4.t15.toNat<48)then bif bif O (cg r4.t0 r4.t15.toNat=46)then G else J then I (bif O (cg r4.t0 r4.t15.toNat=95)then G else J)else I G else bif O (57<cg r4.t0 r4.t15.toNat)then bif bif O (cg r4.t0 r4.t15.toNat=46)then G else J then I (bif O (cg r4.t0 r4.t15.toNat=95)then G else J)else I G else I G else I G with|S=>S|I r6=>bif r6 then I G else S else S else I J
def aoX:=eL wJ 261 G (lc qs ln) d261 (λg=>Ny g.1)
def Qz:EO aoX:=λh=>kL (F:=aqi) (an:=(noTwo (.two (.two (.rb [] 12) .no) (.two (noTwo (ND.lp GX UX)) .no)))) (l:=[(.skip,(.rb [] 12)),(bg f261 0,(ND.lp GX UX)),(.skip,(.rb [] 5)),(.skip,(.rb [] 48))]) func261 aQ (aC VU (aC (aO ND) (aC VU (aC VU aG)))) h
structure Bg where
 t0:List aS
 mT:ByteArray
 (mq ni nc mD t7 t8:Int)
def LB:Td 0 Bg:= .c [] [0,1,7,8] (.r 0 0 (ec 0 (ql 131) (ec 1 (qf 260 (lc (qr (lc qs (aM (aM (aM (aM ln)))))) ln)) (ec 7 aL (ec 8 aL en)))) sn (λz=>⟨z.1.1,z.1.2.1.1.1,z.1.2.1.1.2.1,z.1.2.1.1.t.1,z.1.2.1.1.t.2.1,z.1.2.1.1.q.1,z.1.t.1,z.1.t.2.1⟩) (λx=>((x.t0,((x.mT,x.mq,x.ni,x.nc,x.mD,()),()),x.t7,x.t8,()),(()))))
def Fc(p:Bg):af (af Bg):=
 bif O (p.t8<p.t7)then if 0<=p.t8/\p.t8<p.t0.length then bif XB p.t0[p.t8.toNat]! (aS.mk p.mT p.mq p.ni p.nc p.mD)then I (S)else I (I (Bg.mk p.t0 p.mT p.mq p.ni p.nc p.mD p.t7 (i64.wrap (p.t8+1))))else S else I (S)
def FB:=bG (Fc)
abbrev apc:=Int
def d303:Td 0 apc:= .c [] [4] (.r 0 0 (ec 4 aL en) sn (λz=>z.1.1) (λx=>((x,()),(()))))
def ak0(a0:aa aS)(a1_0:aS):af apc:=
 match FB (Bg.mk a0 a1_0.fName a1_0.bw a1_0.ag a1_0.ah a1_0.dM a0.length 0)with|S=>S|I r1=>bif O (r1.t8<r1.t7)then if 0<=r1.t8/\r1.t8<r1.t0.length then bif XB r1.t0[r1.t8.toNat]! (aS.mk r1.mT r1.mq r1.ni r1.nc r1.mD)then I (r1.t8)else S else S else I (-1)
def axK:=eL wJ 303 J (lc (ql 131) (lc (qf 260 (lc (qr (lg 131)) ln)) ln)) d303 (λg=>ak0 g.1 g.2.1.1)
def ZL:EO axK:=λh=>kL (an:=(noTwo (.two (noTwo (LB.lp FB .no)) .no))) (l:=[(bg f303 0,(LB.lp FB .no))]) func303 (Om aQ) (aC (aO LB) aG) h
abbrev as4:=Bool
def d262:Td 0 as4:= .c [] [4] (.r 0 0 (ec 4 qb en) sn (λz=>z.1.1) (λx=>((x,()),(()))))
def W5(a0:aa aS)(a1_0:aS):af as4:=
 match ak0 a0 a1_0 with|S=>S|I r1=>I (O (0<=r1))
def aq0:=eL wJ 262 J (lc (ql 131) (lc (qf 260 (lc (qr (lg 131)) ln)) ln)) d262 (λg=>W5 g.1 g.2.1.1)
def abe:EO aq0:=λh=>kL (an:= .no) func262 (ZL (Om aQ)) aG h
def alI:aW:=cZ
abbrev akJ:=Bool
def d263:Td 0 akJ:= .c [] [4] (.r 0 0 (ec 4 qb en) sn (λz=>z.1.1) (λx=>((x,()),(()))))
def aub:=(aM (aM ln))
def ag4:An:=(noTwo (.two (.rb [] 4) .no))
def at4:∀f∈([]:aa Nat),bC (alI) f:=aG
def Gu(a0:Int)(a1:Int):akJ:=
 let r1:Bool:=bif O (a0<=a1)then bif O (-1048576<=a0)then O (a1<=1048576)else G else G;r1
def avh(a0:Int)(a1:Int):bQ wJ (alI) 300 (ag4) 263 (aub.c (a0,a1,())) [] 0 d263.rd=I (Gu a0 a1):=by
 refine Eq.trans (b:=(
  match bif O (a0<=a1)then bif O (-1048576<=a0)then I (O (a1<=1048576))else I (G)else I (G)with|S=>S|I r1=>I (r1):af akJ)) (by kernel_rfl) ?_
 simp only[Gu,ct,cF]
def auy:=eL wJ 263 G aub d263 (λg=>I (Gu g.1 g.2.1))
def Pt:EO auy:=λh=>kL (F:=alI) (an:=ag4) (l:=[(.skip,(.rb [] 4))]) func263 aQ (aC at4 aG) h (c:=λg=>avh g.1 g.2.1)
abbrev apJ:=Int
def d337:Td 0 apJ:= .c [] [2] (.r 0 0 (ec 2 aL en) sn (λz=>z.1.1) (λx=>((x,()),(()))))
def Dw(a0:aS):apJ:=
 i64.wrap (i64.wrap (a0.ah-a0.ag)+1)
def apo:=eL wJ 337 G (lc (qg 131) ln) d337 (λg=>I (Dw g.1))
def aaj:EO apo:=λh=>kL (an:= .no) func337 aQ aG h
def arZ:aW:=(apo cZ)
structure n8 where
 t7:List aS
 t10:Int
 t49:List aS
 (t50 t51:Int)
def Oe:Td 0 n8:= .c [] [7,10,49,50,51] (.r 0 1 (ec 7 (qo 0) (ec 10 aL (ec 49 (qo 0) (ec 50 aL (ec 51 aL en))))) (sr 0 131 sn) (λz=>⟨z.2.1,z.1.2.1,z.2.1,z.1.t.2.1,z.1.q.1⟩) (λx=>(((),x.t10,(),x.t50,x.t51,()),(x.t49,()))))
def HN(p:n8):af (af n8):=
 bif O (p.t51<p.t50)then if 0<=p.t51/\p.t51<p.t49.length then if 131=131/\p.t51.toNat<p.t49.length then bif O (4096<i64.wrap (p.t10*Dw p.t49[p.t51.toNat]!))then I (S)else I (I (n8.mk p.t49 (i64.wrap (p.t10*Dw p.t49[p.t51.toNat]!)) p.t49 p.t50 (i64.wrap (p.t51+1))))else S else S else I (S)
def rz:=bG (HN)
structure m8 where
 t1:Int
 (t7 t19:List aS)
 (t20 t21:Int)
def Lw:Td 0 m8:= .c [] [1,7,19,20,21] (.t (cE.s 7 [] 131) (.c [] [1,7,19,20,21] (.r 0 1 (ec 1 aL (ec 7 (qo 0) (ec 19 (ql 131) (ec 20 aL (ec 21 aL en))))) (sr 0 131 sn) (λz=>⟨z.1.1,z.2.1,z.1.t.1,z.1.t.2.1,z.1.q.1⟩) (λx=>((x.t1,(),x.t19,x.t20,x.t21,()),(x.t7,()))))))
def Ca(p:m8):af (af m8):=
 bif O (p.t21<p.t20)then if 0<=p.t21/\p.t21<p.t19.length then bif bif O (p.t19[p.t21.toNat]!.bw=p.t1)then G else J then I (I (m8.mk p.t1 p.t7 p.t19 p.t20 (i64.wrap (p.t21+1))))else match bif O (p.t19[p.t21.toNat]!.ah<p.t19[p.t21.toNat]!.ag)then I J else bif O (p.t19[p.t21.toNat]!.ag< -1048576)then I J else I (O (1048576<p.t19[p.t21.toNat]!.ah))with|S=>S|I r1=>bif r1 then I (S)else if(p.t7++[p.t19[p.t21.toNat]!]).length<=1073741824 then I (I (m8.mk p.t1 (p.t7++[p.t19[p.t21.toNat]!]) p.t19 p.t20 (i64.wrap (p.t21+1))))else S else S else I (S)
def Ut:An:=(noTwo (noTwo (.two (noTwo (noTwo (.two (.two (.rb [] 43) .no) .no))) .no)))
def rH:=bG (Ca)
abbrev ard:=(aa aS)×Int×Int
def d304:Td 0 ard:= .c [] [4,5,6] (.t (cE.s 4 [] 131) (.c [] [4,5,6] (.r 0 1 (ec 4 (qo 0) (ec 5 aL (ec 6 aL en))) (sr 0 131 sn) (λz=>(z.2.1,z.1.2.1,z.1.t.1)) (λx=>(((),x.2.1,x.t,()),(x.1,()))))))
def ath:∀f∈([]:aa Nat),bC (arZ) f:=aG
def air(a0:aa aS)(a1:Int):af ard:=
 bif O (a1=0)then match rH (m8.mk a1 [] a0 a0.length 0)with|S=>S|I r2=>bif O (r2.t21<r2.t20)then if 0<=r2.t21/\r2.t21<r2.t19.length then bif bif O (r2.t19[r2.t21.toNat]!.bw=r2.t1)then G else J then S else match bif O (r2.t19[r2.t21.toNat]!.ah<r2.t19[r2.t21.toNat]!.ag)then I J else bif O (r2.t19[r2.t21.toNat]!.ag< -1048576)then I J else I (O (1048576<r2.t19[r2.t21.toNat]!.ah))with|S=>S|I r3=>bif r3 then I ([],0,3)else if(r2.t7++[r2.t19[r2.t21.toNat]!]).length<=1073741824 then S else S else S else match rz (n8.mk r2.t7 1 r2.t7 r2.t7.length 0)with|S=>S|I r4=>bif O (r4.t51<r4.t50)then if 0<=r4.t51/\r4.t51<r4.t49.length then if 131=131/\r4.t51.toNat<r4.t49.length then bif O (4096<i64.wrap (r4.t10*Dw r4.t49[r4.t51.toNat]!))then I ([],0,4)else S else S else S else I (r4.t49,r4.t10,0)else bif O (a1=1)then match rH (m8.mk a1 [] a0 a0.length 0)with|S=>S|I r5=>bif O (r5.t21<r5.t20)then if 0<=r5.t21/\r5.t21<r5.t19.length then bif bif O (r5.t19[r5.t21.toNat]!.bw=r5.t1)then G else J then S else match bif O (r5.t19[r5.t21.toNat]!.ah<r5.t19[r5.t21.toNat]!.ag)then I J else bif O (r5.t19[r5.t21.toNat]!.ag< -1048576)then I J else I (O (1048576<r5.t19[r5.t21.toNat]!.ah))with|S=>S|I r6=>bif r6 then I ([],0,3)else if(r5.t7++[r5.t19[r5.t21.toNat]!]).length<=1073741824 then S else S else S else match rz (n8.mk r5.t7 1 r5.t7 r5.t7.length 0)with|S=>S|I r7=>bif O (r7.t51<r7.t50)then if 0<=r7.t51/\r7.t51<r7.t49.length then if 131=131/\r7.t51.toNat<r7.t49.length then bif O (4096<i64.wrap (r7.t10*Dw r7.t49[r7.t51.toNat]!))then I ([],0,4)else S else S else S else I (r7.t49,r7.t10,0)else bif O (a1=2)then match rH (m8.mk a1 [] a0 a0.length 0)with|S=>S|I r8=>bif O (r8.t21<r8.t20)then if 0<=r8.t21/\r8.t21<r8.t19.length then bif bif O (r8.t19[r8.t21.toNat]!.bw=r8.t1)then G else J then S else match bif O (r8.t19[r8.t21.toNat]!.ah<r8.t19[r8.t21.toNat]!.ag)then I J else bif O (r8.t19[r8.t21.toNat]!.ag< -1048576)then I J else I (O (1048576<r8.t19[r8.t21.toNat]!.ah))with|S=>S|I r9=>bif r9 then I ([],0,3)else if(r8.t7++[r8.t19[r8.t21.toNat]!]).length<=1073741824 then S else S else S else match rz (n8.mk r8.t7 1 r8.t7 r8.t7.length 0)with|S=>S|I r10=>bif O (r10.t51<r10.t50)then if 0<=r10.t51/\r10.t51<r10.t49.length then if 131=131/\r10.t51.toNat<r10.t49.length then bif O (4096<i64.wrap (r10.t10*Dw r10.t49[r10.t51.toNat]!))then I ([],0,4)else S else S else S else I (r10.t49,r10.t10,0)else bif O (a1=3)then match rH (m8.mk a1 [] a0 a0.length 0)with|S=>S|I r11=>bif O (r11.t21<r11.t20)then if 0<=r11.t21/\r11.t21<r11.t19.length then bif bif O (r11.t19[r11.t21.toNat]!.bw=r11.t1)then G else J then S else match bif O (r11.t19[r11.t21.toNat]!.ah<r11.t19[r11.t21.toNat]!.ag)then I J else bif O (r11.t19[r11.t21.toNat]!.ag< -1048576)then I J else I (O (1048576<r11.t19[r11.t21.toNat]!.ah))with|S=>S|I r12=>bif r12 then I ([],0,3)else if(r11.t7++[r11.t19[r11.t21.toNat]!]).length<=1073741824 then S else S else S else match rz (n8.mk r11.t7 1 r11.t7 r11.t7.length 0)with|S=>S|I r13=>bif O (r13.t51<r13.t50)then if 0<=r13.t51/\r13.t51<r13.t49.length then if 131=131/\r13.t51.toNat<r13.t49.length then bif O (4096<i64.wrap (r13.t10*Dw r13.t49[r13.t51.toNat]!))then I ([],0,4)else S else S else S else I (r13.t49,r13.t10,0)else I ([],0,1)
def awz:=eL wJ 304 G (lc (ql 131) (aM ln)) d304 (λg=>air g.1 g.2.1)
def aa1:EO awz:=λh=>kL (F:=arZ) (an:=(noTwo (noTwo (noTwo (.two (noTwo (Lw.lp rH Ut)) (noTwo (.two (noTwo (Oe.lp rz .no)) .no))))))) (l:=[(bg f304 0,(Lw.lp rH Ut)),(.skip,(.rb [] 43)),(bg f304 1,(Oe.lp rz .no))]) func304 (aaj aQ) (aC (aO Lw) (aC ath (aC (aO Oe) aG))) h
abbrev atg:=Int×Int
def d264:Td 0 atg:= .c [] [4,5] (.r 0 0 (ec 4 aL (ec 5 aL en)) sn (λz=>(z.1.1,z.1.2.1)) (λx=>((x.1,x.2,()),(()))))
def Vx(a0:aa aS)(a1:Int):af atg:=
 match air a0 a1 with|S=>S|I r1=>I (r1.snd)
def atl:=eL wJ 264 G (lc (ql 131) (aM ln)) d264 (λg=>Vx g.1 g.2.1)
def aa3:EO atl:=λh=>kL (an:= .no) func264 (aa1 aQ) aG h
def aq8:aW:=(atl (auy (aq0 (aoX cZ))))
structure Cd where
 t0:List aS
 t71:List Int
 (t72 t73:Int)
def Oj:Td 0 Cd:= .c [] [0,71,72,73] (.r 0 1 (ec 0 (ql 131) (ec 71 (qo 0) (ec 72 aL (ec 73 aL en)))) (sr 0 129 sn) (λz=>⟨z.1.1,z.2.1,z.1.t.1,z.1.t.2.1⟩) (λx=>((x.t0,(),x.t72,x.t73,()),(x.t71,()))))
def oC(p:Cd):af (af Cd):=
 bif O (p.t73<p.t72)then if 0<=p.t73/\p.t73<p.t71.length then if 129=129/\p.t73.toNat<p.t71.length then match Vx p.t0 p.t71[p.t73.toNat]! with|S=>S|I r6=>match bif bif O (r6.snd=0)then G else J then I J else bif O (((p.t0,(),p.t72,p.t73,()),p.t71,()).snd.fst[((p.t0,(),p.t72,p.t73,()),p.t71,()).fst.snd.snd.snd.fst.toNat]! =3)then I (O (256<r6.fst))else I G with|S=>S|I r7=>bif r7 then I (S)else I (I (Cd.mk p.t0 p.t71 p.t72 (i64.wrap (p.t73+1))))else S else S else I (S)
def U2:An:=(noTwo (noTwo (.two (noTwo (noTwo (.two (.rb [] 92) .no))) .no)))
def o9:=bG (oC)
structure Cs where
 (t0 t10:List aS)
 (t11 t12:Int)
def NP:Td 0 Cs:= .c [] [0,10,11,12] (.r 0 0 (ec 0 (ql 131) (ec 10 (ql 131) (ec 11 aL (ec 12 aL en)))) sn (λz=>⟨z.1.1,z.1.2.1,z.1.t.1,z.1.t.2.1⟩) (λx=>((x.t0,x.t10,x.t11,x.t12,()),(()))))
def uj(p:Cs):af (af Cs):=
 bif O (p.t12<p.t11)then if 0<=p.t12/\p.t12<p.t10.length then match Ny p.t10[p.t12.toNat]!.fName with|S=>S|I r1=>bif bif r1 then G else J then I (S)else if 0<=p.t12/\p.t12<=p.t0.length then match W5 (List.take p.t12.toNat p.t0) p.t10[p.t12.toNat]! with|S=>S|I r2=>bif r2 then I (S)else match bif O (p.t10[p.t12.toNat]!.bw<0)then I J else I (O (3<p.t10[p.t12.toNat]!.bw))with|S=>S|I r3=>bif r3 then I (S)else bif bif Gu p.t10[p.t12.toNat]!.ag p.t10[p.t12.toNat]!.ah then G else J then I (S)else match bif bif O (p.t10[p.t12.toNat]!.bw=0)then G else J then I (bif O (p.t10[p.t12.toNat]!.dM=0)then G else J)else I G with|S=>S|I r4=>bif r4 then I (S)else match bif O (p.t10[p.t12.toNat]!.bw=0)then bif O (p.t10[p.t12.toNat]!.dM<p.t10[p.t12.toNat]!.ag)then I J else I (O (p.t10[p.t12.toNat]!.ah<p.t10[p.t12.toNat]!.dM))else I G with|S=>S|I r5=>bif r5 then I (S)else I (I (Cs.mk p.t0 p.t10 p.t11 (i64.wrap (p.t12+1))))else S else S else I (S)
def V8:An:=(noTwo (noTwo (.two (noTwo (noTwo (noTwo (noTwo (noTwo (noTwo (.two (.rb [] 29) (noTwo (.two (noTwo (noTwo (.two (.rb [] 38) (noTwo (.rb [] 38))))) .no))))))))) .no)))
def Gm:=bG (uj)
abbrev atQ:=Int
def d210:Td 0 atQ:= .c [] [2] (.r 0 0 (ec 2 aL en) sn (λz=>z.1.1) (λx=>((x,()),(()))))
def OK:∀f∈([]:aa Nat),bC (aq8) f:=aG
def acF(a0:aa aS):af atQ:=
 match Gm (Cs.mk a0 a0 a0.length 0)with|S=>S|I r8=>bif O (r8.t12<r8.t11)then if 0<=r8.t12/\r8.t12<r8.t10.length then match Ny r8.t10[r8.t12.toNat]!.fName with|S=>S|I r9=>bif bif r9 then G else J then I 7 else if 0<=r8.t12/\r8.t12<=r8.t0.length then match W5 (List.take r8.t12.toNat r8.t0) r8.t10[r8.t12.toNat]! with|S=>S|I r10=>bif r10 then I 8 else match bif O (r8.t10[r8.t12.toNat]!.bw<0)then I J else I (O (3<r8.t10[r8.t12.toNat]!.bw))with|S=>S|I r11=>bif r11 then I 1 else bif bif Gu r8.t10[r8.t12.toNat]!.ag r8.t10[r8.t12.toNat]!.ah then G else J then I 3 else match bif bif O (r8.t10[r8.t12.toNat]!.bw=0)then G else J then I (bif O (r8.t10[r8.t12.toNat]!.dM=0)then G else J)else I G with|S=>S|I r12=>bif r12 then I 3 else match bif O (r8.t10[r8.t12.toNat]!.bw=0)then bif O (r8.t10[r8.t12.toNat]!.dM<r8.t10[r8.t12.toNat]!.ag)then I J else I (O (r8.t10[r8.t12.toNat]!.ah<r8.t10[r8.t12.toNat]!.dM))else I G with|S=>S|I r13=>bif r13 then I 3 else S else S else S else match o9 (Cd.mk r8.t0 [1,2,3] (3:Int) 0)with|S=>S|I r14=>bif O (r14.t73<r14.t72)then if 0<=r14.t73/\r14.t73<r14.t71.length then if 129=129/\r14.t73.toNat<r14.t71.length then match Vx r14.t0 r14.t71[r14.t73.toNat]! with|S=>S|I r15=>match bif bif O (r15.snd=0)then G else J then I J else bif O (((r14.t0,(),r14.t72,r14.t73,()),r14.t71,()).snd.fst[((r14.t0,(),r14.t72,r14.t73,()),r14.t71,()).fst.snd.snd.snd.fst.toNat]! =3)then I (O (256<r15.fst))else I G with|S=>S|I r16=>bif r16 then I 4 else S else S else S else I 0
def anU:=eL wJ 210 G (lc (ql 131) ln) d210 (λg=>acF g.1)
def Yr:EO anU:=λh=>kL (F:=aq8) (an:=(noTwo (.two (noTwo (NP.lp Gm V8)) (.two (noTwo (Oj.lp o9 U2)) .no)))) (l:=[(bg f210 0,(NP.lp Gm V8)),(.skip,(.rb [] 29)),(.skip,(.rb [] 38)),(.skip,(.rb [] 38)),(bg f210 1,(Oj.lp o9 U2)),(.skip,(.rb [] 92))]) func210 (aa3 (Pt (abe (Qz aQ)))) (aC (aO NP) (aC OK (aC OK (aC OK (aC (aO Oj) (aC OK aG)))))) h
abbrev ao4:=Bool
def d265:Td 0 ao4:= .c [] [3] (.r 0 0 (ec 3 qb en) sn (λz=>z.1.1) (λx=>((x,()),(()))))
def Ur(a0:cV)(c0:cV):ao4:=
 a0.fName.toList==c0.fName.toList
def avK:=eL wJ 265 G (lc (qg 139) (lc (qr (lg 139)) ln)) d265 (λg=>I (Ur g.1 g.2.1))
def QF:EO avK:=λh=>kL (an:= .no) func265 aQ aG h
structure Dn where
 t0:List cV
 mT:ByteArray
 (mq ni nc mD:Int)
 Hp:List ax
 (t7 t8:Int)
def MN:Td 0 Dn:= .c [] [0,1,7,8] (.r 0 0 (ec 0 (ql 139) (ec 1 (qf 265 (lc (qr (lc qs (aM (aM (aM (aM (lc (ql 137) ln))))))) ln)) (ec 7 aL (ec 8 aL en)))) sn (λz=>⟨z.1.1,z.1.2.1.1.1,z.1.2.1.1.2.1,z.1.2.1.1.t.1,z.1.2.1.1.t.2.1,z.1.2.1.1.q.1,z.1.2.1.1.q.2.1,z.1.t.1,z.1.t.2.1⟩) (λx=>((x.t0,((x.mT,x.mq,x.ni,x.nc,x.mD,x.Hp,()),()),x.t7,x.t8,()),(()))))
def Ff(p:Dn):af (af Dn):=
 bif O (p.t8<p.t7)then if 0<=p.t8/\p.t8<p.t0.length then bif Ur (cV.mk p.t0[p.t8.toNat]!.fName p.t0[p.t8.toNat]!.ag p.t0[p.t8.toNat]!.ah (ax.mk p.t0[p.t8.toNat]!.aB.bt p.t0[p.t8.toNat]!.aB.fN p.t0[p.t8.toNat]!.aB.aq)) (cV.mk p.mT p.mq p.ni (ax.mk p.nc p.mD p.Hp))then I (S)else I (I (Dn.mk p.t0 p.mT p.mq p.ni p.nc p.mD p.Hp p.t7 (i64.wrap (p.t8+1))))else S else I (S)
def FQ:=bG (Ff)
abbrev anH:=Int
def d305:Td 0 anH:= .c [] [4] (.r 0 0 (ec 4 aL en) sn (λz=>z.1.1) (λx=>((x,()),(()))))
def ai5(a0:aa cV)(a1_0:cV):af anH:=
 match FQ (Dn.mk a0 a1_0.fName a1_0.ag a1_0.ah a1_0.aB.bt a1_0.aB.fN a1_0.aB.aq a0.length 0)with|S=>S|I r1=>bif O (r1.t8<r1.t7)then if 0<=r1.t8/\r1.t8<r1.t0.length then bif Ur (cV.mk r1.t0[r1.t8.toNat]!.fName r1.t0[r1.t8.toNat]!.ag r1.t0[r1.t8.toNat]!.ah (ax.mk r1.t0[r1.t8.toNat]!.aB.bt r1.t0[r1.t8.toNat]!.aB.fN r1.t0[r1.t8.toNat]!.aB.aq)) (cV.mk r1.mT r1.mq r1.ni (ax.mk r1.nc r1.mD r1.Hp))then I (r1.t8)else S else S else I (-1)
def awX:=eL wJ 305 J (lc (ql 139) (lc (qf 265 (lc (qr (lg 139)) ln)) ln)) d305 (λg=>ai5 g.1 g.2.1.1)
def aaX:EO awX:=λh=>kL (an:=(noTwo (.two (noTwo (MN.lp FQ .no)) .no))) (l:=[(bg f305 0,(MN.lp FQ .no))]) func305 (QF aQ) (aC (aO MN) aG) h
abbrev ar6:=Bool
def d266:Td 0 ar6:= .c [] [4] (.r 0 0 (ec 4 qb en) sn (λz=>z.1.1) (λx=>((x,()),(()))))
def U5(a0:aa cV)(a1_0:cV):af ar6:=
 match ai5 a0 (cV.mk a1_0.fName a1_0.ag a1_0.ah (ax.mk a1_0.aB.bt a1_0.aB.fN a1_0.aB.aq))with|S=>S|I r1=>I (O (0<=r1))
def axh:=eL wJ 266 J (lc (ql 139) (lc (qf 265 (lc (qr (lg 139)) ln)) ln)) d266 (λg=>U5 g.1 g.2.1.1)
def Z1:EO axh:=λh=>kL (an:= .no) func266 (aaX (QF aQ)) aG h
def ak1:aW:=cZ
abbrev aiM:=Int×Int
def d338:Td 0 aiM:= .c [] [2,3] (.r 0 0 (ec 2 aL (ec 3 aL en)) sn (λz=>(z.1.1,z.1.2.1)) (λx=>((x.1,x.2,()),(()))))
def auB:=(aM ln)
def aho:An:=(noTwo (.two (.two (.rb [] 4) (noTwo (.two (.rb [] 11) (noTwo (.two (.rb [] 18) .no))))) .no))
def VH:∀f∈([]:aa Nat),bC (ak1) f:=aG
def Jd(a0:Int):aiM:=
 let r1:Bool:=bif O (a0=0)then J else O (a0=24);bif r1 then(0,0)else let r2:Bool:=bif O (a0=6)then J else O (a0=7);bif r2 then(1,1)else let r3:Bool:=bif O (8<=a0)then O (a0<=22)else G;bif r3 then(2,2)else bif O (a0=23)then(3,3)else bif O (a0=25)then(2,33)else(-1,-1)
def awS(a0:Int):bQ wJ (ak1) 300 (aho) 338 (auB.c (a0,())) [] 0 d338.rd=I (Jd a0):=by
 refine Eq.trans (b:=(
  match bif O (a0=0)then I (J)else I (O (a0=24))with|S=>S|I r1=>bif r1 then I ((0,0))else match bif O (a0=6)then I (J)else I (O (a0=7))with|S=>S|I r2=>bif r2 then I ((1,1))else match bif O (8<=a0)then I (O (a0<=22))else I (G)with|S=>S|I r3=>bif r3 then I ((2,2))else bif O (a0=23)then I ((3,3))else bif O (a0=25)then I ((2,33))else I ((-1,-1)):af aiM)) (by kernel_rfl) ?_
 simp only[Jd,ct,cF]
def aud:=eL wJ 338 G auB d338 (λg=>I (Jd g.1))
def abF:EO aud:=λh=>kL (F:=ak1) (an:=aho) (l:=[(.skip,(.rb [] 4)),(.skip,(.rb [] 11)),(.skip,(.rb [] 18))]) func338 aQ (aC VH (aC VH (aC VH aG))) h (c:=λg=>awS g.1)
abbrev qv:=Bool
def d306:Td 0 qv:= .c [] [6] (.r 0 0 (ec 6 qb en) sn (λz=>z.1.1) (λx=>((x,()),(()))))
def alH:=(lc (ql 131) (lc (qg 137) (lc qb ln)))
def alB(M:(aa aS)->ax->Bool->af qv):aW->aW:=eL wJ 306 G alH d306 (λg=>M g.1 g.2.1 g.2.2.1)
def Zk(M:(aa aS)->ax->Bool->af qv):Prop:=HL wJ 306 alH d306 (λg=>M g.1 g.2.1 g.2.2.1)
def PZ{M:(aa aS)->ax->Bool->af qv}(hM:Zk M){F:aW}(h:aV wJ F):aV wJ (alB M F):=dU (sc:=jR) cy hM ⟨_,func306,by kernel_rfl,by kernel_rfl⟩ (λ_=>by kernel_rfl) (λ_=>by kernel_rfl) h
def Yf(M306:(aa aS)->ax->Bool->af qv):aW:=(aud (alB M306 cZ))
def abZ{M306}(h306:Zk M306):aV wJ (Yf M306):=(abF (PZ h306 aQ))
structure rF where
 t0:List aS
 t2:Bool
 t65:List ax
 (t66 t67:Int)
def Mi:Td 0 rF:= .c [] [0,2,65,66,67] (.r 0 0 (ec 0 (ql 131) (ec 2 qb (ec 65 (ql 137) (ec 66 aL (ec 67 aL en))))) sn (λz=>⟨z.1.1,z.1.2.1,z.1.t.1,z.1.t.2.1,z.1.q.1⟩) (λx=>((x.t0,x.t2,x.t65,x.t66,x.t67,()),(()))))
def HZ(M306:(aa aS)->ax->Bool->af qv)(p:rF):af (af rF):=
 bif O (p.t67<p.t66)then if 0<=p.t67/\p.t67<p.t65.length then match M306 p.t0 (ax.mk p.t65[p.t67.toNat]!.bt p.t65[p.t67.toNat]!.fN p.t65[p.t67.toNat]!.aq) p.t2 with|S=>S|I r1=>bif bif r1 then G else J then I (S)else I (I (rF.mk p.t0 p.t2 p.t65 p.t66 (i64.wrap (p.t67+1))))else S else I (S)
def vn(M306:(aa aS)->ax->Bool->af qv):=bG (HZ M306)
def afJ(M306:(aa aS)->ax->Bool->af qv):An:=(noTwo (noTwo (.two (.two (.rb [] 32) .no) (.two (noTwo (noTwo (noTwo (noTwo (.two (.two (.rb [] 63) .no) .no))))) (.two (noTwo (Mi.lp (vn M306) .no)) .no)))))
def ahg{M306}:∀f∈([]:aa Nat),bC (Yf M306) f:=aG
def asY(M306:(aa aS)->ax->Bool->af qv):dB wJ (Yf M306) 0 300 306 (afJ M306):=bO (l:=[(.skip,(.rb [] 32)),(.skip,(.rb [] 63)),(bg f306 0,(Mi.lp (vn M306) .no))]) func306 (bq (by kernel_rfl)) (by kernel_rfl) (aC ahg (aC ahg (aC (aO Mi) aG)))
def abb(M306:(aa aS)->ax->Bool->af qv)(a0:aa aS)(a1:ax)(a2:Bool):af qv:=
 match bif O ((Jd a1.bt).fst<0)then I J else bif O ((a1.aq.length:Int)<(Jd a1.bt).fst)then I J else I (O ((Jd a1.bt).snd<a1.aq.length))with|S=>S|I r2=>bif r2 then I G else bif O (a1.bt=0)then match vn M306 (rF.mk a0 a2 a1.aq a1.aq.length 0)with|S=>S|I r3=>bif O (r3.t67<r3.t66)then if 0<=r3.t67/\r3.t67<r3.t65.length then match M306 r3.t0 (ax.mk r3.t65[r3.t67.toNat]!.bt r3.t65[r3.t67.toNat]!.fN r3.t65[r3.t67.toNat]!.aq) r3.t2 with|S=>S|I r4=>bif bif r4 then G else J then I G else S else S else I J else bif O (a1.bt=24)then match bif O (a1.fN<0)then I J else bif O (a0.length<=a1.fN)then I J else bif a2 then if 0<=a1.fN/\a1.fN<a0.length then I (O (a0[a1.fN.toNat]!.bw=0))else S else I G with|S=>S|I r5=>bif r5 then I G else match vn M306 (rF.mk a0 a2 a1.aq a1.aq.length 0)with|S=>S|I r6=>bif O (r6.t67<r6.t66)then if 0<=r6.t67/\r6.t67<r6.t65.length then match M306 r6.t0 (ax.mk r6.t65[r6.t67.toNat]!.bt r6.t65[r6.t67.toNat]!.fN r6.t65[r6.t67.toNat]!.aq) r6.t2 with|S=>S|I r7=>bif bif r7 then G else J then I G else S else S else I J else bif bif O (a1.fN=0)then G else J then I G else match vn M306 (rF.mk a0 a2 a1.aq a1.aq.length 0)with|S=>S|I r8=>bif O (r8.t67<r8.t66)then if 0<=r8.t67/\r8.t67<r8.t65.length then match M306 r8.t0 (ax.mk r8.t65[r8.t67.toNat]!.bt r8.t65[r8.t67.toNat]!.fN r8.t65[r8.t67.toNat]!.aq) r8.t2 with|S=>S|I r9=>bif bif r9 then G else J then I G else S else S else I J
def ava(M306:(aa aS)->ax->Bool->af qv)(a0:aa aS)(a1:ax)(a2:Bool):bQ wJ (Yf M306) 300 (afJ M306) 306 (alH.c (a0,a1,a2,())) [] 0 d306.rd=abb M306 a0 a1 a2:=by kernel_rfl
def agQ:Nat->((aa aS)->ax->Bool->af qv)
 |0=>(λ_ _ _=>S)
 |n+1=>(abb (agQ n))
def M7(n:Nat):(aa aS)->ax->Bool->af qv:=(agQ n)
def KK:∀n,Zk (M7 n)
 |0=>λ_ _ h=>(by cases h)
 |n+1=>by
  have ih:=KK n;have i306:=ih;exact(cS (abZ i306) (asY (M7 n)) (λ_=>by kernel_rfl) (λ_=>by kernel_rfl) λg=>ava (M7 n) g.1 g.2.1 g.2.2.1)
def acr:(aa aS)->ax->Bool->af qv:=λa0 a1 a2=>lim (λn=>M7 n a0 a1 a2)
def acS:Zk acr:=λg b h=>by
 obtain⟨n,hn⟩:=cT (show lim (λn=>M7 n g.1 g.2.1 g.2.2.1)=I b from h);exact(KK n) g b hn
def awM(F:aW):aW:=alB acr F
def aaN{F:aW}(h:aV wJ F):aV wJ (awM F):=PZ acS h
abbrev anD:=Int
def d350:Td 0 anD:= .c [] [4] (.r 0 0 (ec 4 aL en) sn (λz=>z.1.1) (λx=>((x,()),(()))))
def uY(a0:Int)(a1:Int):anD:=
 i64.wrap (a0*a1)
def aoY:=eL wJ 350 G (aM (aM ln)) d350 (λg=>I (uY g.1 g.2.1))
def O8:EO aoY:=λh=>kL (an:= .no) func350 aQ aG h
def ays:aW:=cZ
abbrev ale:=Span
def d351:Td 0 ale:= .c [] [4] (.r 0 1 (ec 4 (qp 0 0) en) (sb 0 331 (lg 331) sn) (λz=>z.2.1) (λx=>(((),()),(x,()))))
def ars:=(lc (qg 331) (lc (qg 331) ln))
def agu:An:= .no
def Sb(a0:Span)(a1:Span):ale:=
 Span.mk (if a1.ag<a0.ag then a1.ag else a0.ag) (if a0.ah<a1.ah then a1.ah else a0.ah)
def axg(a0:Span)(a1:Span):bQ wJ (ays) 300 (agu) 351 (ars.c (a0,a1,())) [] 0 d351.rd=I (Sb a0 a1):=by
 refine Eq.trans (b:=(
  I (Span.mk (if a1.ag<a0.ag then a1.ag else a0.ag) (if a0.ah<a1.ah then a1.ah else a0.ah)):af ale)) (by kernel_rfl) ?_
 simp only[Sb,ct,cF]
def aqG:=eL wJ 351 G ars d351 (λg=>I (Sb g.1 g.2.1))
def PO:EO aqG:=λh=>kL (an:=agu) func351 aQ aG h (c:=λg=>axg g.1 g.2.1)
structure BU where
 t38:List Int
 (t39 t40:Int)
 (b0 b1:Span)
def Mm:Td 0 BU:= .c [] [6,8,38,39,40] (.r 0 3 (ec 6 (qp 0 0) (ec 8 (qp 1 0) (ec 38 (qo 2) (ec 39 aL (ec 40 aL en))))) (sb 0 331 (lg 331) (sb 1 331 (lg 331) (sr 2 3 sn))) (λz=>⟨z.t.2.1,z.1.t.2.1,z.1.q.1,z.2.1,z.t.1⟩) (λx=>(((),(),(),x.t39,x.t40,()),(x.b0,x.b1,x.t38,()))))
def nO(p:BU):af (af BU):=
 bif O (p.t40<p.t39)then if 0<=p.t40/\p.t40<p.t38.length then if 3=3/\p.t40.toNat<p.t38.length then I (I (BU.mk p.t38 p.t39 (i64.wrap (p.t40+1)) p.b0 (Sb p.b1 (Span.mk p.t38[p.t40.toNat]! p.t38[p.t40.toNat]!))))else S else S else I (S)
def B4:=bG (nO)
abbrev atL:=Span
def d349:Td 0 atL:= .c [] [6] (.r 0 1 (ec 6 (qp 0 0) en) (sb 0 331 (lg 331) sn) (λz=>z.2.1) (λx=>(((),()),(x,()))))
def acG(a0:Span)(a1:Span):af atL:=
 match B4 (BU.mk [uY a0.ag a1.ah,uY a0.ah a1.ag,uY a0.ah a1.ah] (↑[uY a0.ag a1.ah,uY a0.ah a1.ag,uY a0.ah a1.ah].length:Int) 0 (Span.mk 0 0) (Span.mk (uY a0.ag a1.ag) (uY a0.ag a1.ag)))with|S=>S|I r1=>bif O (r1.t40<r1.t39)then if 0<=r1.t40/\r1.t40<r1.t38.length then if 3=3/\r1.t40.toNat<r1.t38.length then S else S else S else I (r1.b1)
def atn:=eL wJ 349 G (lc (qg 331) (lc (qg 331) (lc (qf 350 ln) ln))) d349 (λg=>acG g.1 g.2.1)
def afD:EO atn:=λh=>kL (an:=(noTwo (noTwo (noTwo (.two (noTwo (Mm.lp B4 .no)) .no))))) (l:=[(bg f349 0,(Mm.lp B4 .no))]) func349 (PO (O8 aQ)) (aC (aO Mm) aG) h
def arl:aW:=(aqG (aoY (atn cZ)))
structure uL where
 t207:List Span
 (t208 t209:Int)
 (b0 b1:Span)
def LM:Td 0 uL:= .c [] [6,9,207,208,209] (.r 0 2 (ec 6 (qp 0 0) (ec 9 (qp 1 0) (ec 207 (ql 331) (ec 208 aL (ec 209 aL en))))) (sb 0 331 (lg 331) (sb 1 331 (lg 331) sn)) (λz=>⟨z.1.t.1,z.1.t.2.1,z.1.q.1,z.2.1,z.t.1⟩) (λx=>(((),(),x.t207,x.t208,x.t209,()),(x.b0,x.b1,()))))
def F4(p:uL):af (af uL):=
 bif O (p.t209<p.t208)then if 0<=p.t209/\p.t209<p.t207.length then I (I (uL.mk p.t207 p.t208 (i64.wrap (p.t209+1)) p.b0 (Sb p.b1 p.t207[p.t209.toNat]!)))else S else I (S)
def BB:=bG (F4)
abbrev anJ:=Span
def d339:Td 0 anJ:= .c [] [6] (.r 0 1 (ec 6 (qp 0 0) en) (sb 0 331 (lg 331) sn) (λz=>z.2.1) (λx=>(((),()),(x,()))))
def arf:∀f∈([]:aa Nat),bC (arl) f:=aG
def aaD(a0:aa aS)(a1:ax)(a2:aa Span):af anJ:=
 bif O (a1.bt=0)then I (Span.mk a1.fN a1.fN)else bif O (a1.bt=24)then if 0<=a1.fN/\a1.fN<a0.length then if 0<=a1.fN/\a1.fN<a0.length then I (Span.mk a0[a1.fN.toNat]!.ag a0[a1.fN.toNat]!.ah)else S else S else bif O (a1.bt=6)then if(0:Int)<=(0:Int)/\(0:Int)<a2.length then if(0:Int)<=(0:Int)/\(0:Int)<a2.length then I (Span.mk (i64.wrap (0-a2[0]!.ah)) (i64.wrap (0-a2[0]!.ag)))else S else S else bif O (a1.bt=8)then if(0:Int)<=(0:Int)/\(0:Int)<a2.length then if(0:Int)<=(1:Int)/\(1:Int)<a2.length then if(0:Int)<=(0:Int)/\(0:Int)<a2.length then if(0:Int)<=(1:Int)/\(1:Int)<a2.length then I (Span.mk (i64.wrap (a2[0]!.ag+a2[1]!.ag)) (i64.wrap (a2[0]!.ah+a2[1]!.ah)))else S else S else S else S else bif O (a1.bt=9)then if(0:Int)<=(0:Int)/\(0:Int)<a2.length then if(0:Int)<=(1:Int)/\(1:Int)<a2.length then if(0:Int)<=(0:Int)/\(0:Int)<a2.length then if(0:Int)<=(1:Int)/\(1:Int)<a2.length then I (Span.mk (i64.wrap (a2[0]!.ag-a2[1]!.ah)) (i64.wrap (a2[0]!.ah-a2[1]!.ag)))else S else S else S else S else bif O (a1.bt=10)then if(0:Int)<=(0:Int)/\(0:Int)<a2.length then if(0:Int)<=(1:Int)/\(1:Int)<a2.length then match acG a2[0]! a2[1]! with|S=>S|I r1=>I (r1)else S else S else bif O (a1.bt=11)then if(0:Int)<=(0:Int)/\(0:Int)<a2.length then if(0:Int)<=(0:Int)/\(0:Int)<a2.length then match if(0:Int)<=(0:Int)/\(0:Int)<a2.length then bif O (0<=a2[0]!.ag)then if(0:Int)<=(1:Int)/\(1:Int)<a2.length then I (O (0<=a2[1]!.ag))else S else I G else S with|S=>S|I r2=>bif r2 then I (Span.mk 0 (if a2[0]!.ah<i64.wrap (0-a2[0]!.ag)then i64.wrap (0-a2[0]!.ag)else a2[0]!.ah))else I (Span.mk (i64.wrap (0-if a2[0]!.ah<i64.wrap (0-a2[0]!.ag)then i64.wrap (0-a2[0]!.ag)else a2[0]!.ah)) (if a2[0]!.ah<i64.wrap (0-a2[0]!.ag)then i64.wrap (0-a2[0]!.ag)else a2[0]!.ah))else S else S else bif O (a1.bt=12)then if(0:Int)<=(1:Int)/\(1:Int)<a2.length then bif O (a2[1]!.ag<0)then if(0:Int)<=(1:Int)/\(1:Int)<a2.length then if(0:Int)<=(1:Int)/\(1:Int)<a2.length then bif O (0<a2[1]!.ah)then if(0:Int)<=(1:Int)/\(1:Int)<a2.length then I (Span.mk (if 0<i64.wrap (a2[1]!.ag+1)then 0 else i64.wrap (a2[1]!.ag+1)) (if i64.wrap (a2[1]!.ah-1)<0 then 0 else i64.wrap (a2[1]!.ah-1)))else S else I (Span.mk (if 0<i64.wrap (a2[1]!.ag+1)then 0 else i64.wrap (a2[1]!.ag+1)) 0)else S else S else if(0:Int)<=(1:Int)/\(1:Int)<a2.length then bif O (0<a2[1]!.ah)then if(0:Int)<=(1:Int)/\(1:Int)<a2.length then I (Span.mk 0 (if i64.wrap (a2[1]!.ah-1)<0 then 0 else i64.wrap (a2[1]!.ah-1)))else S else I (Span.mk 0 0)else S else S else bif O (a1.bt=21)then if(0:Int)<=(0:Int)/\(0:Int)<a2.length then if(0:Int)<=(1:Int)/\(1:Int)<a2.length then if(0:Int)<=(0:Int)/\(0:Int)<a2.length then if(0:Int)<=(1:Int)/\(1:Int)<a2.length then I (Span.mk (if a2[1]!.ag<a2[0]!.ag then a2[1]!.ag else a2[0]!.ag) (if a2[1]!.ah<a2[0]!.ah then a2[1]!.ah else a2[0]!.ah))else S else S else S else S else bif O (a1.bt=22)then if(0:Int)<=(0:Int)/\(0:Int)<a2.length then if(0:Int)<=(1:Int)/\(1:Int)<a2.length then if(0:Int)<=(0:Int)/\(0:Int)<a2.length then if(0:Int)<=(1:Int)/\(1:Int)<a2.length then I (Span.mk (if a2[0]!.ag<a2[1]!.ag then a2[1]!.ag else a2[0]!.ag) (if a2[0]!.ah<a2[1]!.ah then a2[1]!.ah else a2[0]!.ah))else S else S else S else S else bif O (a1.bt=23)then if(0:Int)<=(1:Int)/\(1:Int)<a2.length then if(0:Int)<=(2:Int)/\(2:Int)<=a2.length then match BB (uL.mk (yb 2 a2) (↑(yb 2 a2).length:Int) 0 (Span.mk 0 0) a2[1]!)with|S=>S|I r3=>bif O (r3.t209<r3.t208)then if 0<=r3.t209/\r3.t209<r3.t207.length then S else S else I (r3.b1)else S else S else bif O (a1.bt=25)then if(0:Int)<=(1:Int)/\(1:Int)<a2.length then if(0:Int)<=(2:Int)/\(2:Int)<=a2.length then match BB (uL.mk (yb 2 a2) (↑(yb 2 a2).length:Int) 0 (Span.mk 0 0) a2[1]!)with|S=>S|I r4=>bif O (r4.t209<r4.t208)then if 0<=r4.t209/\r4.t209<r4.t207.length then S else S else I (r4.b1)else S else S else I (Span.mk 0 1)
def apz:=eL wJ 339 G (lc (ql 131) (lc (qg 137) (lc (ql 331) ln))) d339 (λg=>aaD g.1 g.2.1 g.t.1)
def aaY:EO apz:=λh=>kL (F:=arl) (an:=(noTwo (.two (noTwo (noTwo (noTwo (noTwo (noTwo (noTwo (noTwo (noTwo (noTwo (noTwo (noTwo (noTwo (noTwo (noTwo (.two (noTwo (.two (.two (.rb [] 123) .no) .no)) (noTwo (noTwo (noTwo (noTwo (noTwo (noTwo (noTwo (.two (noTwo (.two (noTwo (LM.lp BB .no)) .no)) .no))))))))))))))))))))))) .no))) (l:=[(.skip,(.rb [] 123)),(bg f339 0,(LM.lp BB .no))]) func339 (PO (O8 (afD aQ))) (aC arf (aC (aO LM) aG)) h
abbrev qj:=Span×Bool
def d307:Td 0 qj:= .c [] [4,5] (.r 0 1 (ec 4 (qp 0 0) (ec 5 qb en)) (sb 0 331 (lg 331) sn) (λz=>(z.2.1,z.1.2.1)) (λx=>(((),x.2,()),(x.1,()))))
def alM:=(lc (ql 131) (lc (qg 137) ln))
def alV(M:(aa aS)->ax->af qj):aW->aW:=eL wJ 307 G alM d307 (λg=>M g.1 g.2.1)
def abJ(M:(aa aS)->ax->af qj):Prop:=HL wJ 307 alM d307 (λg=>M g.1 g.2.1)
def Ru{M:(aa aS)->ax->af qj}(hM:abJ M){F:aW}(h:aV wJ F):aV wJ (alV M F):=dU (sc:=jR) cy hM ⟨_,func307,by kernel_rfl,by kernel_rfl⟩ (λ_=>by kernel_rfl) (λ_=>by kernel_rfl) h
def akK(M307:(aa aS)->ax->af qj):aW:=(apz (alV M307 cZ))
def aeQ{M307}(h307:abJ M307):aV wJ (akK M307):=(aaY (Ru h307 aQ))
structure Cf where
 t0:List aS
 t6:List Span
 t13:List ax
 (t14 t15:Int)
 b0:ax
 b1:Span
def MW:Td 0 Cf:= .c [] [0,3,4,6,13,14,15] (.t (cE.s 6 [] 331) (.c [] [0,3,4,6,13,14,15] (.r 0 3 (ec 0 (ql 131) (ec 3 (qp 0 0) (ec 4 (qp 1 0) (ec 6 (qo 2) (ec 13 (ql 137) (ec 14 aL (ec 15 aL en))))))) (sb 0 137 (lg 137) (sb 1 331 (lg 331) (sr 2 331 sn))) (λz=>⟨z.1.1,z.t.2.1,z.1.q.1,z.1.q.2.1,z.1.q.t.1,z.2.1,z.t.1⟩) (λx=>((x.t0,(),(),(),x.t13,x.t14,x.t15,()),(x.b0,x.b1,x.t6,()))))))
def AX(M307:(aa aS)->ax->af qj)(p:Cf):af (af Cf):=
 bif O (p.t15<p.t14)then if 0<=p.t15/\p.t15<p.t13.length then match M307 p.t0 (ax.mk p.t13[p.t15.toNat]!.bt p.t13[p.t15.toNat]!.fN p.t13[p.t15.toNat]!.aq)with|S=>S|I r1=>bif bif r1.snd then G else J then I (S)else if(p.t6++[r1.fst]).length<=1073741824 then I (I (Cf.mk p.t0 (p.t6++[r1.fst]) p.t13 p.t14 (i64.wrap (p.t15+1)) (ax.mk p.b0.bt p.b0.fN p.b0.aq) p.b1))else S else S else I (S)
def Hs(M307:(aa aS)->ax->af qj):=bG (AX M307)
def ahx(M307:(aa aS)->ax->af qj):An:=(noTwo (noTwo (.two (noTwo (MW.lp (Hs M307) .no)) .no)))
def aqq(M307:(aa aS)->ax->af qj):dB wJ (akK M307) 0 300 307 (ahx M307):=bO (l:=[(bg f307 0,(MW.lp (Hs M307) .no))]) func307 (bq (by kernel_rfl)) (by kernel_rfl) (aC (aO MW) aG)
def ac2(M307:(aa aS)->ax->af qj)(a0:aa aS)(a1:ax):af qj:=
 match Hs M307 (Cf.mk a0 [] a1.aq a1.aq.length 0 (ax.mk a1.bt a1.fN a1.aq) (Span.mk 0 0))with|S=>S|I r2=>bif O (r2.t15<r2.t14)then if 0<=r2.t15/\r2.t15<r2.t13.length then match M307 r2.t0 (ax.mk r2.t13[r2.t15.toNat]!.bt r2.t13[r2.t15.toNat]!.fN r2.t13[r2.t15.toNat]!.aq)with|S=>S|I r3=>bif bif r3.snd then G else J then I (Span.mk 0 0,G)else if(r2.t6++[r3.fst]).length<=1073741824 then S else S else S else match aaD r2.t0 (ax.mk r2.b0.bt r2.b0.fN r2.b0.aq) r2.t6 with|S=>S|I r4=>bif O (-1048576<=r4.ag)then I ((r4,O (r4.ah<=1048576)))else I (r4,G)
def avV(M307:(aa aS)->ax->af qj)(a0:aa aS)(a1:ax):bQ wJ (akK M307) 300 (ahx M307) 307 (alM.c (a0,a1,())) [] 0 d307.rd=ac2 M307 a0 a1:=by kernel_rfl
def ahA:Nat->((aa aS)->ax->af qj)
 |0=>(λ_ _=>S)
 |n+1=>(ac2 (ahA n))
def My(n:Nat):(aa aS)->ax->af qj:=(ahA n)
def Jk:∀n,abJ (My n)
 |0=>λ_ _ h=>(by cases h)
 |n+1=>by
  have ih:=Jk n;have i307:=ih;exact(cS (aeQ i307) (aqq (My n)) (λ_=>by kernel_rfl) (λ_=>by kernel_rfl) λg=>avV (My n) g.1 g.2.1)
def ac1:(aa aS)->ax->af qj:=λa0 a1=>lim (λn=>My n a0 a1)
def ae8:abJ ac1:=λg b h=>by
 obtain⟨n,hn⟩:=cT (show lim (λn=>My n g.1 g.2.1)=I b from h);exact(Jk n) g b hn
def ayr(F:aW):aW:=alV ac1 F
def Y5{F:aW}(h:aV wJ F):aV wJ (ayr F):=Ru ae8 h
abbrev apY:=Int
def d267:Td 0 apY:= .c [] [6] (.r 0 0 (ec 6 aL en) sn (λz=>z.1.1) (λx=>((x,()),(()))))
def Mz(a0:aa aS)(a1:ax)(a2:Bool):af apY:=
 match acr a0 (ax.mk a1.bt a1.fN a1.aq) a2 with|S=>S|I r1=>bif bif r1 then G else J then I (1)else match ac1 a0 (ax.mk a1.bt a1.fN a1.aq)with|S=>S|I r2=>bif bif r2.snd then G else J then I (3)else I (0)
def amj:=eL wJ 267 G (lc (ql 131) (lc (qg 137) (lc qb ln))) d267 (λg=>Mz g.1 g.2.1 g.t.1)
def Qx:EO amj:=λh=>kL (an:= .no) func267 (Y5 (aaN aQ)) aG h
def Th:EP amj:=λh=>kP h
structure Bm where
 t8:List cV
 (t9 t10:Int)
 b0:aP
def MT:Td 0 Bm:= .c [] [1,8,9,10] (.r 0 1 (ec 1 (qp 0 0) (ec 8 (ql 139) (ec 9 aL (ec 10 aL en)))) (sb 0 26 (lg 26) sn) (λz=>⟨z.1.2.1,z.1.t.1,z.1.t.2.1,z.2.1⟩) (λx=>(((),x.t8,x.t9,x.t10,()),(x.b0,()))))
def vt(p:Bm):af (af Bm):=
 bif O (p.t10<p.t9)then if 0<=p.t10/\p.t10<p.t8.length then match Ny p.t8[p.t10.toNat]!.fName with|S=>S|I r1=>bif bif r1 then G else J then I (S)else if 0<=p.t10/\p.t10<=p.b0.ak.length then match U5 (List.take p.t10.toNat p.b0.ak) (cV.mk p.t8[p.t10.toNat]!.fName p.t8[p.t10.toNat]!.ag p.t8[p.t10.toNat]!.ah (ax.mk p.t8[p.t10.toNat]!.aB.bt p.t8[p.t10.toNat]!.aB.fN p.t8[p.t10.toNat]!.aB.aq))with|S=>S|I r2=>bif r2 then I (S)else bif bif Gu p.t8[p.t10.toNat]!.ag p.t8[p.t10.toNat]!.ah then G else J then I (S)else match Mz p.b0.ai (ax.mk p.t8[p.t10.toNat]!.aB.bt p.t8[p.t10.toNat]!.aB.fN p.t8[p.t10.toNat]!.aB.aq) J with|S=>S|I r3=>bif bif O (r3=0)then G else J then I (S)else I (I (Bm.mk p.t8 p.t9 (i64.wrap (p.t10+1)) p.b0))else S else S else I (S)
def HC:=bG (vt)
abbrev aqo:=Int
def d211:Td 0 aqo:= .c [] [2] (.r 0 0 (ec 2 aL en) sn (λz=>z.1.1) (λx=>((x,()),(()))))
def aec(a0:aP):af aqo:=
 match HC (Bm.mk a0.ak a0.ak.length 0 a0)with|S=>S|I r4=>bif O (r4.t10<r4.t9)then if 0<=r4.t10/\r4.t10<r4.t8.length then match Ny r4.t8[r4.t10.toNat]!.fName with|S=>S|I r5=>bif bif r5 then G else J then I 7 else if 0<=r4.t10/\r4.t10<=r4.b0.ak.length then match U5 (List.take r4.t10.toNat r4.b0.ak) (cV.mk r4.t8[r4.t10.toNat]!.fName r4.t8[r4.t10.toNat]!.ag r4.t8[r4.t10.toNat]!.ah (ax.mk r4.t8[r4.t10.toNat]!.aB.bt r4.t8[r4.t10.toNat]!.aB.fN r4.t8[r4.t10.toNat]!.aB.aq))with|S=>S|I r6=>bif r6 then I 8 else bif bif Gu r4.t8[r4.t10.toNat]!.ag r4.t8[r4.t10.toNat]!.ah then G else J then I 3 else match Mz r4.b0.ai (ax.mk r4.t8[r4.t10.toNat]!.aB.bt r4.t8[r4.t10.toNat]!.aB.fN r4.t8[r4.t10.toNat]!.aB.aq) J with|S=>S|I r7=>bif bif O (r7=0)then G else J then I (r7)else S else S else S else I 0
def atU:=eL wJ 211 G (lc (qg 26) ln) d211 (λg=>aec g.1)
def aaE:EO atU:=λh=>kL (an:=(noTwo (.two (noTwo (MT.lp HC .no)) .no))) (l:=[(bg f211 0,(MT.lp HC .no))]) func211 (Qx (Z1 (Pt (Qz aQ)))) (aC (aO MT) aG) h
def ajV:aW:=cZ
abbrev ak6:=Bool
def d308:Td 0 ak6:= .c [] [2] (.r 0 0 (ec 2 qb en) sn (λz=>z.1.1) (λx=>((x,()),(()))))
def aq7:=(aM ln)
def agj:An:=(noTwo (.two (.rb [] 2) .no))
def arC:∀f∈([]:aa Nat),bC (ajV) f:=aG
def Sn(a0:Int):ak6:=
 let r1:Bool:=bif O (a0=0)then J else O (a0=5);r1
def awr(a0:Int):bQ wJ (ajV) 300 (agj) 308 (aq7.c (a0,())) [] 0 d308.rd=I (Sn a0):=by
 refine Eq.trans (b:=(
  match bif O (a0=0)then I (J)else I (O (a0=5))with|S=>S|I r1=>I (r1):af ak6)) (by kernel_rfl) ?_
 simp only[Sn,ct,cF]
def ai8:=eL wJ 308 G aq7 d308 (λg=>I (Sn g.1))
def Yd:EO ai8:=λh=>kL (F:=ajV) (an:=agj) (l:=[(.skip,(.rb [] 2))]) func308 aQ (aC arC aG) h (c:=λg=>awr g.1)
def lQ:EP ai8:=λh=>kP h
def akD:aW:=cZ
abbrev aii:=Bool
def d309:Td 0 aii:= .c [] [2] (.r 0 0 (ec 2 qb en) sn (λz=>z.1.1) (λx=>((x,()),(()))))
def aul:=(aM ln)
def ag2:An:=(noTwo (.two (.rb [] 2) .no))
def asl:∀f∈([]:aa Nat),bC (akD) f:=aG
def Wh(a0:Int):aii:=
 let r1:Bool:=bif O (a0=4)then J else O (a0=5);r1
def awQ(a0:Int):bQ wJ (akD) 300 (ag2) 309 (aul.c (a0,())) [] 0 d309.rd=I (Wh a0):=by
 refine Eq.trans (b:=(
  match bif O (a0=4)then I (J)else I (O (a0=5))with|S=>S|I r1=>I (r1):af aii)) (by kernel_rfl) ?_
 simp only[Wh,ct,cF]
def aka:=eL wJ 309 G aul d309 (λg=>I (Wh g.1))
def acT:EO aka:=λh=>kL (F:=akD) (an:=ag2) (l:=[(.skip,(.rb [] 2))]) func309 aQ (aC asl aG) h (c:=λg=>awQ g.1)
def l9:EP aka:=λh=>kP h
def akE:aW:=cZ
abbrev aik:=Bool
def d310:Td 0 aik:= .c [] [2] (.r 0 0 (ec 2 qb en) sn (λz=>z.1.1) (λx=>((x,()),(()))))
def asv:=(aM ln)
def agq:An:=(noTwo (.two (.rb [] 2) .no))
def aou:∀f∈([]:aa Nat),bC (akE) f:=aG
def Xf(a0:Int):aik:=
 let r1:Bool:=bif O (a0=0)then J else bif O (a0=1)then J else bif O (a0=3)then J else O (a0=4);r1
def awD(a0:Int):bQ wJ (akE) 300 (agq) 310 (asv.c (a0,())) [] 0 d310.rd=I (Xf a0):=by
 refine Eq.trans (b:=(
  match bif O (a0=0)then I (J)else bif O (a0=1)then I (J)else bif O (a0=3)then I (J)else I (O (a0=4))with|S=>S|I r1=>I (r1):af aik)) (by kernel_rfl) ?_
 simp only[Xf,ct,cF]
def ak9:=eL wJ 310 G asv d310 (λg=>I (Xf g.1))
def aby:EO ak9:=λh=>kL (F:=akE) (an:=agq) (l:=[(.skip,(.rb [] 2))]) func310 aQ (aC aou aG) h (c:=λg=>awD g.1)
def lT:EP ak9:=λh=>kP h
def aiD:aW:=cZ
abbrev akS:=Bool
def d311:Td 0 akS:= .c [] [2] (.r 0 0 (ec 2 qb en) sn (λz=>z.1.1) (λx=>((x,()),(()))))
def arR:=(lc (qg 137) ln)
def af2:An:=(noTwo (.two (.rb [] 2) .no))
def aqe:∀f∈([]:aa Nat),bC (aiD) f:=aG
def S6(a0:ax):akS:=
 let r1:Bool:=bif O (a0.bt=0)then bif O (a0.fN=0)then O ((a0.aq.length:Int)=0)else G else G;r1
def ayB(a0:ax):bQ wJ (aiD) 300 (af2) 311 (arR.c (a0,())) [] 0 d311.rd=I (S6 a0):=by
 refine Eq.trans (b:=(
  match bif O (a0.bt=0)then bif O (a0.fN=0)then I (O ((a0.aq.length:Int)=0))else I (G)else I (G)with|S=>S|I r1=>I (r1):af akS)) (by kernel_rfl) ?_
 simp only[S6,ct,cF]
def aky:=eL wJ 311 G arR d311 (λg=>I (S6 g.1))
def ZT:EO aky:=λh=>kL (F:=aiD) (an:=af2) (l:=[(.skip,(.rb [] 2))]) func311 aQ (aC aqe aG) h (c:=λg=>ayB g.1)
def lP:EP aky:=λh=>kP h
structure uK where
 t0:List Int
 (t5 t6:Int)
def Mr:Td 0 uK:= .c [] [0,5,6] (.r 0 0 (ec 0 (ql 3) (ec 5 aL (ec 6 aL en))) sn (λz=>⟨z.1.1,z.1.2.1,z.1.t.1⟩) (λx=>((x.t0,x.t5,x.t6,()),(()))))
def FP(p:uK):af (af uK):=
 bif O (p.t6<p.t5)then bif O (0<p.t6)then if 0<=p.t6/\p.t6<p.t0.length then if 0<=i64.wrap (p.t6-1)/\i64.wrap (p.t6-1)<p.t0.length then bif O (((p.t0,p.t5,p.t6,()),()).fst.fst[((p.t0,p.t5,p.t6,()),()).fst.snd.snd.fst.toNat]!<=((p.t0,p.t5,p.t6,()),()).fst.fst[(i64.wrap (((p.t0,p.t5,p.t6,()),()).fst.snd.snd.fst-1)).toNat]!)then I (S)else I (I (uK.mk p.t0 p.t5 (i64.wrap (p.t6+1))))else S else S else I (I (uK.mk p.t0 p.t5 (i64.wrap (p.t6+1))))else I (S)
def G2:=bG (FP)
abbrev aur:=Bool
def d312:Td 0 aur:= .c [] [2] (.r 0 0 (ec 2 qb en) sn (λz=>z.1.1) (λx=>((x,()),(()))))
def Se(a0:aa Int):af aur:=
 match G2 (uK.mk a0 a0.length 0)with|S=>S|I r1=>bif O (r1.t6<r1.t5)then bif O (0<r1.t6)then if 0<=r1.t6/\r1.t6<r1.t0.length then if 0<=i64.wrap (r1.t6-1)/\i64.wrap (r1.t6-1)<r1.t0.length then bif O (((r1.t0,r1.t5,r1.t6,()),()).fst.fst[((r1.t0,r1.t5,r1.t6,()),()).fst.snd.snd.fst.toNat]!<=((r1.t0,r1.t5,r1.t6,()),()).fst.fst[(i64.wrap (((r1.t0,r1.t5,r1.t6,()),()).fst.snd.snd.fst-1)).toNat]!)then I G else S else S else S else S else I J
def ajW:=eL wJ 312 G (lc (ql 3) ln) d312 (λg=>Se g.1)
def afs:EO ajW:=λh=>kL (an:=(noTwo (.two (noTwo (Mr.lp G2 .no)) .no))) (l:=[(bg f312 0,(Mr.lp G2 .no))]) func312 aQ (aC (aO Mr) aG) h
def lW:EP ajW:=λh=>kP h
def auj:aW:=(ajW (aky (ak9 (aka (ai8 cZ)))))
abbrev asA:=Bool
def d268:Td 0 asA:= .c [] [6] (.r 0 0 (ec 6 qb en) sn (λz=>z.1.1) (λx=>((x,()),(()))))
def qF:∀f∈([308,309,310,311,312]:aa Nat),bC (auj) f:=(aC (lW (lP (lT (l9 (lQ bH))))) (aC (lW (lP (lT (l9 (lQ bH))))) (aC (lW (lP (lT (l9 (lQ bH))))) (aC (lW (lP (lT (l9 (lQ bH))))) (aC (lW (lP (lT (l9 (lQ bH))))) aG)))))
def Ls(a0:aP)(a1:ay)(a2:Bool):af asA:=
 match bif O (a1.bX<0)then I J else I (O (6<a1.bX))with|S=>S|I r1=>bif r1 then I G else match bif bif Sn a1.bX then G else J then I (bif O (a1.cX=0)then G else J)else I G with|S=>S|I r2=>bif r2 then I G else match bif bif Wh a1.bX then G else J then I (bif O (a1.fN=0)then G else J)else I G with|S=>S|I r3=>bif r3 then I G else match bif bif Xf a1.bX then G else J then I (bif S6 (ax.mk a1.aB.bt a1.aB.fN a1.aB.aq)then G else J)else I G with|S=>S|I r4=>bif r4 then I G else match bif bif O (a1.bX=3)then G else J then bif bif O (a1.bX=4)then G else J then I (O (0<(a1.aK.length:Int)))else I G else I G with|S=>S|I r5=>bif r5 then I G else match bif bif O (a1.bX=3)then G else J then I (O (0<(a1.aN.length:Int)))else I G with|S=>S|I r6=>bif r6 then I G else match bif bif O (a1.bX=6)then G else J then I (O (0<(a1.aJ.length:Int)))else I G with|S=>S|I r7=>bif r7 then I G else match bif Sn a1.bX then bif O (a1.cX<0)then I J else bif O (a0.ai.length<=a1.cX)then I J else if 0<=a1.cX/\a1.cX<a0.ai.length then I (bif O (a0.ai[a1.cX.toNat]!.bw=0)then G else J)else S else I G with|S=>S|I r8=>bif r8 then I G else match bif O (a1.bX=5)then bif O (a1.fN<0)then I J else I (O (a0.ak.length<=a1.fN))else I G with|S=>S|I r9=>bif r9 then I G else match bif bif O (a1.bX=6)then G else J then I J else bif a2 then bif O (0<(a1.aJ.length:Int))then bif O ((a1.aJ.length:Int)<=32)then if(0:Int)<=(0:Int)/\(0:Int)<a1.aJ.length then bif O (0<=a1.aJ[yM 0]!)then match Se a1.aJ with|S=>S|I r10=>I (r10)else I G else S else I G else I G else I G with|S=>S|I r11=>I (r11)
def akV:=eL wJ 268 G (lc (qg 26) (lc (qg 166) (lc qb ln))) d268 (λg=>Ls g.1 g.2.1 g.t.1)
def acQ:EO akV:=λh=>kL (F:=auj) (an:=(noTwo (noTwo (.two (.two (.two (.rb [308,309,310,311,312] 10) (noTwo (.two (.rb [308,309,310,311,312] 10) (noTwo (.two (.rb [308,309,310,311,312] 10) (noTwo (.two (.rb [308,309,310,311,312] 10) (noTwo (.two (.rb [308,309,310,311,312] 10) (noTwo (.two (.rb [308,309,310,311,312] 10) (noTwo (.two (.rb [308,309,310,311,312] 10) (noTwo (.two (.rb [308,309,310,311,312] 10) (noTwo (.rb [308,309,310,311,312] 10))))))))))))))))) .no) (.two (.rb [308,309,310,311,312] 6) .no))))) (l:=[(.skip,(.rb [308,309,310,311,312] 10)),(.skip,(.rb [308,309,310,311,312] 10)),(.skip,(.rb [308,309,310,311,312] 10)),(.skip,(.rb [308,309,310,311,312] 10)),(.skip,(.rb [308,309,310,311,312] 10)),(.skip,(.rb [308,309,310,311,312] 10)),(.skip,(.rb [308,309,310,311,312] 10)),(.skip,(.rb [308,309,310,311,312] 10)),(.skip,(.rb [308,309,310,311,312] 10)),(.skip,(.rb [308,309,310,311,312] 6))]) func268 (afs (ZT (aby (acT (Yd aQ))))) (aC qF (aC qF (aC qF (aC qF (aC qF (aC qF (aC qF (aC qF (aC qF (aC qF aG)))))))))) h
def RX:EP akV:=λh=>kP h
def aqk:aW:=cZ
abbrev arM:=Bool
def d269:Td 0 arM:= .c [] [2] (.r 0 0 (ec 2 qb en) sn (λz=>z.1.1) (λx=>((x,()),(()))))
def ahP:∀f∈([]:aa Nat),bC (aqk) f:=aG
def L3(a0:ay):af arM:=
 bif O (a0.bX=2)then match bif O (a0.aR<0)then I J else bif O (67108864<a0.aR)then I J else bif O (a0.bX=4)then bif O (a0.fN<0)then I J else I (O (4096<a0.fN))else I G with|S=>S|I r1=>bif r1 then I G else match bif bif O (a0.bX=6)then G else J then I J else if 0<=i64.wrap ((a0.aJ.length:Int)-(1:Int))/\i64.wrap ((a0.aJ.length:Int)-(1:Int))<a0.aJ.length then I (O (a0.aJ[(i64.wrap ((a0.aJ.length:Int)-1)).toNat]!<=67108864))else S with|S=>S|I r2=>I (r2)else match bif O (a0.aR<0)then I J else bif O (10000<a0.aR)then I J else bif O (a0.bX=4)then bif O (a0.fN<0)then I J else I (O (4096<a0.fN))else I G with|S=>S|I r3=>bif r3 then I G else match bif bif O (a0.bX=6)then G else J then I J else if 0<=i64.wrap ((a0.aJ.length:Int)-(1:Int))/\i64.wrap ((a0.aJ.length:Int)-(1:Int))<a0.aJ.length then I (O (a0.aJ[(i64.wrap ((a0.aJ.length:Int)-1)).toNat]!<=67108864))else S with|S=>S|I r4=>I (r4)
def aiC:=eL wJ 269 G (lc (qg 166) ln) d269 (λg=>L3 g.1)
def YP:EO aiC:=λh=>kL (F:=aqk) (an:=(noTwo (noTwo (noTwo (.two (.two (.rb [] 30) .no) (.two (.rb [] 2) .no)))))) (l:=[(.skip,(.rb [] 30)),(.skip,(.rb [] 2))]) func269 aQ (aC ahP (aC ahP aG)) h
def SL:EP aiC:=λh=>kP h
abbrev kD:=Int
def d212:Td 0 kD:= .c [] [6] (.r 0 0 (ec 6 aL en) sn (λz=>z.1.1) (λx=>((x,()),(()))))
def ajC:=(lc (qg 26) (lc (ql 166) (lc qb ln)))
def abP(M:aP->(aa ay)->Bool->af kD):aW->aW:=eL wJ 212 G ajC d212 (λg=>M g.1 g.2.1 g.2.2.1)
def S3{M:aP->(aa ay)->Bool->af kD}{F:aW}{f:Nat}(h:bC F f):bC (abP M F) f:=gM h (λ_=>by kernel_rfl)
def adz(M:aP->(aa ay)->Bool->af kD):Prop:=HL wJ 212 ajC d212 (λg=>M g.1 g.2.1 g.2.2.1)
def Q5{M:aP->(aa ay)->Bool->af kD}(hM:adz M){F:aW}(h:aV wJ F):aV wJ (abP M F):=dU (sc:=jR) cy hM ⟨_,func212,by kernel_rfl,by kernel_rfl⟩ (λ_=>by kernel_rfl) (λ_=>by kernel_rfl) h
def ad5(M212:aP->(aa ay)->Bool->af kD):aW:=(aiC (akV (amj (abP M212 cZ))))
def YD{M212}(h212:adz M212):aV wJ (ad5 M212):=(YP (acQ (Qx (Q5 h212 aQ))))
structure ue where
 t1:List ay
 t2:Bool
 t13:List ay
 (t14 t15:Int)
 t47:List (List ay)
 (t48 t49:Int)
 b0:aP
def MP:Td 0 ue:= .c [] [1,2,3,13,14,15,47,48,49] (.r 0 2 (ec 1 (ql 166) (ec 2 qb (ec 3 (qp 0 0) (ec 13 (ql 166) (ec 14 aL (ec 15 aL (ec 47 (qo 1) (ec 48 aL (ec 49 aL en))))))))) (sb 0 26 (lg 26) (sr 1 24 sn)) (λz=>⟨z.1.1,z.1.2.1,z.1.t.2.1,z.1.q.1,z.1.q.2.1,z.t.1,z.1.q.t.2.1,z.1.q.q.1,z.2.1⟩) (λx=>((x.t1,x.t2,(),x.t13,x.t14,x.t15,(),x.t48,x.t49,()),(x.b0,x.t47,()))))
def rj(M212:aP->(aa ay)->Bool->af kD)(p:ue):af (af ue):=
 bif O (p.t49<p.t48)then if 0<=p.t49/\p.t49<p.t47.length then if 24=24/\p.t49.toNat<p.t47.length then match M212 p.b0 p.t47[p.t49.toNat]! G with|S=>S|I r8=>bif bif O (r8=0)then G else J then I (S)else I (I (ue.mk p.t1 p.t2 p.t13 p.t14 p.t15 p.t47 p.t48 (i64.wrap (p.t49+1)) p.b0))else S else S else I (S)
def ur(M212:aP->(aa ay)->Bool->af kD):=bG (rj M212)
structure CY where
 t1:List ay
 t2:Bool
 t13:List ay
 (t14 t15:Int)
 b0:aP
def MM:Td 0 CY:= .c [] [1,2,3,13,14,15] (.r 0 1 (ec 1 (ql 166) (ec 2 qb (ec 3 (qp 0 0) (ec 13 (ql 166) (ec 14 aL (ec 15 aL en)))))) (sb 0 26 (lg 26) sn) (λz=>⟨z.1.1,z.1.2.1,z.1.t.2.1,z.1.q.1,z.1.q.2.1,z.2.1⟩) (λx=>((x.t1,x.t2,(),x.t13,x.t14,x.t15,()),(x.b0,()))))
def u7(M212:aP->(aa ay)->Bool->af kD)(p:CY):af (af CY):=
 bif O (p.t15<p.t14)then if 0<=p.t15/\p.t15<p.t13.length then match bif p.t2 then match Ls p.b0 (ay.mk p.t13[p.t15.toNat]!.bX p.t13[p.t15.toNat]!.aR p.t13[p.t15.toNat]!.cX p.t13[p.t15.toNat]!.fN (ax.mk p.t13[p.t15.toNat]!.aB.bt p.t13[p.t15.toNat]!.aB.fN p.t13[p.t15.toNat]!.aB.aq) p.t13[p.t15.toNat]!.aK p.t13[p.t15.toNat]!.aN p.t13[p.t15.toNat]!.aJ) (O (((p.t1,p.t2,(),p.t13,p.t14,p.t15,()),p.b0,()).fst.snd.snd.snd.snd.snd.fst=i64.wrap ((↑((p.t1,p.t2,(),p.t13,p.t14,p.t15,()),p.b0,()).fst.fst.length:Int)-1)))with|S=>S|I r1=>I (bif r1 then G else J)else match Ls p.b0 (ay.mk p.t13[p.t15.toNat]!.bX p.t13[p.t15.toNat]!.aR p.t13[p.t15.toNat]!.cX p.t13[p.t15.toNat]!.fN (ax.mk p.t13[p.t15.toNat]!.aB.bt p.t13[p.t15.toNat]!.aB.fN p.t13[p.t15.toNat]!.aB.aq) p.t13[p.t15.toNat]!.aK p.t13[p.t15.toNat]!.aN p.t13[p.t15.toNat]!.aJ) G with|S=>S|I r2=>I (bif r2 then G else J)with|S=>S|I r3=>bif r3 then I (S)else match L3 (ay.mk p.t13[p.t15.toNat]!.bX p.t13[p.t15.toNat]!.aR p.t13[p.t15.toNat]!.cX p.t13[p.t15.toNat]!.fN (ax.mk p.t13[p.t15.toNat]!.aB.bt p.t13[p.t15.toNat]!.aB.fN p.t13[p.t15.toNat]!.aB.aq) p.t13[p.t15.toNat]!.aK p.t13[p.t15.toNat]!.aN p.t13[p.t15.toNat]!.aJ)with|S=>S|I r4=>bif bif r4 then G else J then I (S)else match Mz p.b0.ai (ax.mk p.t13[p.t15.toNat]!.aB.bt p.t13[p.t15.toNat]!.aB.fN p.t13[p.t15.toNat]!.aB.aq) G with|S=>S|I r5=>bif bif O (r5=0)then G else J then I (S)else match ur M212 (ue.mk p.t1 p.t2 p.t13 p.t14 p.t15 [p.t13[p.t15.toNat]!.aK,p.t13[p.t15.toNat]!.aN] (↑[p.t13[p.t15.toNat]!.aK,p.t13[p.t15.toNat]!.aN].length:Int) 0 p.b0)with|S=>S|I r6=>bif O (r6.t49<r6.t48)then if 0<=r6.t49/\r6.t49<r6.t47.length then if 24=24/\r6.t49.toNat<r6.t47.length then match M212 r6.b0 r6.t47[r6.t49.toNat]! G with|S=>S|I r7=>bif bif O (r7=0)then G else J then I (S)else S else S else S else I (I (CY.mk r6.t1 r6.t2 r6.t13 r6.t14 (i64.wrap (r6.t15+1)) r6.b0))else S else I (S)
def XN(M212:aP->(aa ay)->Bool->af kD):An:=(noTwo (noTwo (.two (noTwo (.two (.two (.rb [268] 31) .no) (noTwo (noTwo (noTwo (MP.lp (ur M212) .no)))))) .no)))
def Fa(M212:aP->(aa ay)->Bool->af kD):=bG (u7 M212)
def agk(M212:aP->(aa ay)->Bool->af kD):An:=(noTwo (.two (noTwo (MM.lp (Fa M212) (XN M212))) .no))
def apt{M212}:∀f∈([268]:aa Nat),bC (ad5 M212) f:=(aC (SL (RX (Th (S3 bH)))) aG)
def aq3(M212:aP->(aa ay)->Bool->af kD):dB wJ (ad5 M212) 0 300 212 (agk M212):=bO (l:=[(bg f212 0,(MM.lp (Fa M212) (XN M212))),(.skip,(.rb [268] 31)),(bg f212 1,(MP.lp (ur M212) .no))]) func212 (bq (by kernel_rfl)) (by kernel_rfl) (aC (aO MM) (aC apt (aC (aO MP) aG)))
def aah(M212:aP->(aa ay)->Bool->af kD)(a0:aP)(a1:aa ay)(a2:Bool):af kD:=
 match Fa M212 (CY.mk a1 a2 a1 a1.length 0 a0)with|S=>S|I r9=>bif O (r9.t15<r9.t14)then if 0<=r9.t15/\r9.t15<r9.t13.length then match bif r9.t2 then match Ls r9.b0 (ay.mk r9.t13[r9.t15.toNat]!.bX r9.t13[r9.t15.toNat]!.aR r9.t13[r9.t15.toNat]!.cX r9.t13[r9.t15.toNat]!.fN (ax.mk r9.t13[r9.t15.toNat]!.aB.bt r9.t13[r9.t15.toNat]!.aB.fN r9.t13[r9.t15.toNat]!.aB.aq) r9.t13[r9.t15.toNat]!.aK r9.t13[r9.t15.toNat]!.aN r9.t13[r9.t15.toNat]!.aJ) (O (((r9.t1,r9.t2,(),r9.t13,r9.t14,r9.t15,()),r9.b0,()).fst.snd.snd.snd.snd.snd.fst=i64.wrap ((↑((r9.t1,r9.t2,(),r9.t13,r9.t14,r9.t15,()),r9.b0,()).fst.fst.length:Int)-1)))with|S=>S|I r10=>I (bif r10 then G else J)else match Ls r9.b0 (ay.mk r9.t13[r9.t15.toNat]!.bX r9.t13[r9.t15.toNat]!.aR r9.t13[r9.t15.toNat]!.cX r9.t13[r9.t15.toNat]!.fN (ax.mk r9.t13[r9.t15.toNat]!.aB.bt r9.t13[r9.t15.toNat]!.aB.fN r9.t13[r9.t15.toNat]!.aB.aq) r9.t13[r9.t15.toNat]!.aK r9.t13[r9.t15.toNat]!.aN r9.t13[r9.t15.toNat]!.aJ) G with|S=>S|I r11=>I (bif r11 then G else J)with|S=>S|I r12=>bif r12 then I 1 else match L3 (ay.mk r9.t13[r9.t15.toNat]!.bX r9.t13[r9.t15.toNat]!.aR r9.t13[r9.t15.toNat]!.cX r9.t13[r9.t15.toNat]!.fN (ax.mk r9.t13[r9.t15.toNat]!.aB.bt r9.t13[r9.t15.toNat]!.aB.fN r9.t13[r9.t15.toNat]!.aB.aq) r9.t13[r9.t15.toNat]!.aK r9.t13[r9.t15.toNat]!.aN r9.t13[r9.t15.toNat]!.aJ)with|S=>S|I r13=>bif bif r13 then G else J then I 3 else match Mz r9.b0.ai (ax.mk r9.t13[r9.t15.toNat]!.aB.bt r9.t13[r9.t15.toNat]!.aB.fN r9.t13[r9.t15.toNat]!.aB.aq) G with|S=>S|I r14=>bif bif O (r14=0)then G else J then I (r14)else match ur M212 (ue.mk r9.t1 r9.t2 r9.t13 r9.t14 r9.t15 [r9.t13[r9.t15.toNat]!.aK,r9.t13[r9.t15.toNat]!.aN] (↑[r9.t13[r9.t15.toNat]!.aK,r9.t13[r9.t15.toNat]!.aN].length:Int) 0 r9.b0)with|S=>S|I r15=>bif O (r15.t49<r15.t48)then if 0<=r15.t49/\r15.t49<r15.t47.length then if 24=24/\r15.t49.toNat<r15.t47.length then match M212 r15.b0 r15.t47[r15.t49.toNat]! G with|S=>S|I r16=>bif bif O (r16=0)then G else J then I (r16)else S else S else S else S else S else I 0
def avG(M212:aP->(aa ay)->Bool->af kD)(a0:aP)(a1:aa ay)(a2:Bool):bQ wJ (ad5 M212) 300 (agk M212) 212 (ajC.c (a0,a1,a2,())) [] 0 d212.rd=aah M212 a0 a1 a2:=by kernel_rfl
def ahv:Nat->(aP->(aa ay)->Bool->af kD)
 |0=>(λ_ _ _=>S)
 |n+1=>(aah (ahv n))
def L2(n:Nat):aP->(aa ay)->Bool->af kD:=(ahv n)
def IK:∀n,adz (L2 n)
 |0=>λ_ _ h=>(by cases h)
 |n+1=>by
  have ih:=IK n;have i212:=ih;exact(cS (YD i212) (aq3 (L2 n)) (λ_=>by kernel_rfl) (λ_=>by kernel_rfl) λg=>avG (L2 n) g.1 g.2.1 g.2.2.1)
def Zx:aP->(aa ay)->Bool->af kD:=λa0 a1 a2=>lim (λn=>L2 n a0 a1 a2)
def Zh:adz Zx:=λg b h=>by
 obtain⟨n,hn⟩:=cT (show lim (λn=>L2 n g.1 g.2.1 g.2.2.1)=I b from h);exact(IK n) g b hn
def atN(F:aW):aW:=abP Zx F
def Yh{F:aW}(h:aV wJ F):aV wJ (atN F):=Q5 Zh h
abbrev qu:=nK
def d213:Td 0 qu:= .c [] [2] (.r 0 1 (ec 2 (qp 0 0) en) (sb 0 260 (lg 260) sn) (λz=>z.2.1) (λx=>(((),()),(x,()))))
def amB:=(lc (ql 166) ln)
def akC(M:(aa ay)->af qu):aW->aW:=eL wJ 213 G amB d213 (λg=>M g.1)
def YU(M:(aa ay)->af qu):Prop:=HL wJ 213 amB d213 (λg=>M g.1)
def Rn{M:(aa ay)->af qu}(hM:YU M){F:aW}(h:aV wJ F):aV wJ (akC M F):=dU (sc:=jR) cy hM ⟨_,func213,by kernel_rfl,by kernel_rfl⟩ (λ_=>by kernel_rfl) (λ_=>by kernel_rfl) h
def aiq(M213:(aa ay)->af qu):aW:=(akC M213 cZ)
def ZC{M213}(h213:YU M213):aV wJ (aiq M213):=(Rn h213 aQ)
structure nV where
 t9:List ay
 (t10 t11:Int)
 (b0 b1:nK)
def LV:Td 0 nV:= .c [] [2,3,9,10,11] (.r 0 2 (ec 2 (qp 0 0) (ec 3 (qp 1 0) (ec 9 (ql 166) (ec 10 aL (ec 11 aL en))))) (sb 0 260 (lg 260) (sb 1 260 (lg 260) sn)) (λz=>⟨z.1.t.1,z.1.t.2.1,z.1.q.1,z.2.1,z.t.1⟩) (λx=>(((),(),x.t9,x.t10,x.t11,()),(x.b0,x.b1,()))))
def F9(M213:(aa ay)->af qu)(p:nV):af (af nV):=
 bif O (p.t11<p.t10)then if 0<=p.t11/\p.t11<p.t9.length then match M213 p.t9[p.t11.toNat]!.aK with|S=>S|I r1=>match M213 p.t9[p.t11.toNat]!.aN with|S=>S|I r2=>bif O (p.t9[p.t11.toNat]!.bX=1)then I (I (nV.mk p.t9 p.t10 (i64.wrap (p.t11+1)) p.b0 (nK.mk (if 1099511627776<i64.wrap (p.b1.fo+1)then 1099511627776 else i64.wrap (p.b1.fo+1)) (if 1099511627776<i64.wrap (p.b1.bk+1)then 1099511627776 else i64.wrap (p.b1.bk+1)) (if 1099511627776<i64.wrap (p.b1.aD+p.t9[p.t11.toNat]!.aR)then 1099511627776 else i64.wrap (p.b1.aD+p.t9[p.t11.toNat]!.aR)))))else bif O (p.t9[p.t11.toNat]!.bX=3)then I (I (nV.mk p.t9 p.t10 (i64.wrap (p.t11+1)) p.b0 (nK.mk (if 1099511627776<i64.wrap (p.b1.fo+i64.wrap (1+if r1.fo<r2.fo then r2.fo else r1.fo))then 1099511627776 else i64.wrap (p.b1.fo+i64.wrap (1+if r1.fo<r2.fo then r2.fo else r1.fo))) (if 1099511627776<i64.wrap (p.b1.bk+if r1.bk<r2.bk then r2.bk else r1.bk)then 1099511627776 else i64.wrap (p.b1.bk+if r1.bk<r2.bk then r2.bk else r1.bk)) (if 1099511627776<i64.wrap (p.b1.aD+i64.wrap (p.t9[p.t11.toNat]!.aR+if r1.aD<r2.aD then r2.aD else r1.aD))then 1099511627776 else i64.wrap (p.b1.aD+i64.wrap (p.t9[p.t11.toNat]!.aR+if r1.aD<r2.aD then r2.aD else r1.aD))))))else bif O (p.t9[p.t11.toNat]!.bX=4)then I (I (nV.mk p.t9 p.t10 (i64.wrap (p.t11+1)) p.b0 (nK.mk (if 1099511627776<i64.wrap (p.b1.fo+i64.wrap (1+i64.wrap (p.t9[p.t11.toNat]!.fN*i64.wrap (1+r1.fo))))then 1099511627776 else i64.wrap (p.b1.fo+i64.wrap (1+i64.wrap (p.t9[p.t11.toNat]!.fN*i64.wrap (1+r1.fo))))) (if 1099511627776<i64.wrap (p.b1.bk+i64.wrap (p.t9[p.t11.toNat]!.fN*r1.bk))then 1099511627776 else i64.wrap (p.b1.bk+i64.wrap (p.t9[p.t11.toNat]!.fN*r1.bk))) (if 1099511627776<i64.wrap (p.b1.aD+i64.wrap (p.t9[p.t11.toNat]!.fN*i64.wrap (p.t9[p.t11.toNat]!.aR+r1.aD)))then 1099511627776 else i64.wrap (p.b1.aD+i64.wrap (p.t9[p.t11.toNat]!.fN*i64.wrap (p.t9[p.t11.toNat]!.aR+r1.aD)))))))else I (I (nV.mk p.t9 p.t10 (i64.wrap (p.t11+1)) p.b0 (nK.mk (if 1099511627776<i64.wrap (p.b1.fo+1)then 1099511627776 else i64.wrap (p.b1.fo+1)) (if 1099511627776<i64.wrap (p.b1.bk+0)then 1099511627776 else i64.wrap (p.b1.bk+0)) (if 1099511627776<i64.wrap (p.b1.aD+p.t9[p.t11.toNat]!.aR)then 1099511627776 else i64.wrap (p.b1.aD+p.t9[p.t11.toNat]!.aR)))))else S else I (S)
def GW(M213:(aa ay)->af qu):=bG (F9 M213)
def agr(M213:(aa ay)->af qu):An:=(noTwo (noTwo (.two (noTwo (LV.lp (GW M213) .no)) .no)))
def aoo(M213:(aa ay)->af qu):dB wJ (aiq M213) 0 300 213 (agr M213):=bO (l:=[(bg f213 0,(LV.lp (GW M213) .no))]) func213 (bq (by kernel_rfl)) (by kernel_rfl) (aC (aO LV) aG)
def aff(M213:(aa ay)->af qu)(a0:aa ay):af qu:=
 match GW M213 (nV.mk a0 a0.length 0 (nK.mk 0 0 0) (nK.mk 0 0 0))with|S=>S|I r3=>bif O (r3.t11<r3.t10)then if 0<=r3.t11/\r3.t11<r3.t9.length then match M213 r3.t9[r3.t11.toNat]!.aK with|S=>S|I r4=>match M213 r3.t9[r3.t11.toNat]!.aN with|S=>S|I r5=>bif O (r3.t9[r3.t11.toNat]!.bX=1)then S else bif O (r3.t9[r3.t11.toNat]!.bX=3)then S else bif O (r3.t9[r3.t11.toNat]!.bX=4)then S else S else S else I (r3.b1)
def aw1(M213:(aa ay)->af qu)(a0:aa ay):bQ wJ (aiq M213) 300 (agr M213) 213 (amB.c (a0,())) [] 0 d213.rd=aff M213 a0:=by kernel_rfl
def ahm:Nat->((aa ay)->af qu)
 |0=>(λ_=>S)
 |n+1=>(aff (ahm n))
def NO(n:Nat):(aa ay)->af qu:=(ahm n)
def JU:∀n,YU (NO n)
 |0=>λ_ _ h=>(by cases h)
 |n+1=>by
  have ih:=JU n;have i213:=ih;exact(cS (ZC i213) (aoo (NO n)) (λ_=>by kernel_rfl) (λ_=>by kernel_rfl) λg=>aw1 (NO n) g.1)
def UF:(aa ay)->af qu:=λa0=>lim (λn=>NO n a0)
def aeC:YU UF:=λg b h=>by
 obtain⟨n,hn⟩:=cT (show lim (λn=>NO n g.1)=I b from h);exact(JU n) g b hn
def ar2(F:aW):aW:=akC UF F
def abt{F:aW}(h:aV wJ F):aV wJ (ar2 F):=Rn aeC h
def arO:aW:=(ar2 (atN (atU (anU (ald (Zn (asg cZ)))))))
structure vp where
 t14:List cV
 (t15 t16:Int)
 b0:aP
 b1:aU
def L9:Td 0 vp:= .c [] [1,3,14,15,16] (.r 0 2 (ec 1 (qp 0 0) (ec 3 (qp 1 0) (ec 14 (ql 139) (ec 15 aL (ec 16 aL en))))) (sb 0 26 (lg 26) (sb 1 256 (lg 256) sn)) (λz=>⟨z.1.t.1,z.1.t.2.1,z.1.q.1,z.2.1,z.t.1⟩) (λx=>(((),(),x.t14,x.t15,x.t16,()),(x.b0,x.b1,()))))
def Dt(p:vp):af (af vp):=
 bif O (p.t16<p.t15)then if 0<=p.t16/\p.t16<p.t14.length then bif bif(iJ p.b1).fst then G else J then match DE (ax.mk p.t14[p.t16.toNat]!.aB.bt p.t14[p.t16.toNat]!.aB.fN p.t14[p.t16.toNat]!.aB.aq) 1 (iJ p.b1).snd with|S=>S|I r1=>I (I (vp.mk p.t14 p.t15 (i64.wrap (p.t16+1)) p.b0 r1))else I (I (vp.mk p.t14 p.t15 (i64.wrap (p.t16+1)) p.b0 (iJ p.b1).snd))else S else I (S)
def CO:=bG (Dt)
abbrev ao5:=Int
def d136:Td 0 ao5:= .c [] [2] (.r 0 0 (ec 2 aL en) sn (λz=>z.1.1) (λx=>((x,()),(()))))
def arU:∀f∈([]:aa Nat),bC (arO) f:=aG
def V4(a0:aP):af ao5:=
 match Wi a0.bK 1 (aU.mk 0 G)with|S=>S|I r2=>match CO (vp.mk a0.ak a0.ak.length 0 a0 r2)with|S=>S|I r3=>bif O (r3.t16<r3.t15)then if 0<=r3.t16/\r3.t16<r3.t14.length then bif bif(iJ r3.b1).fst then G else J then match DE (ax.mk r3.t14[r3.t16.toNat]!.aB.bt r3.t14[r3.t16.toNat]!.aB.fN r3.t14[r3.t16.toNat]!.aB.aq) 1 (iJ r3.b1).snd with|S=>S|I r4=>S else S else S else bif O (64<(r3.b0.ai.length:Int))then I 4 else bif O (8<(r3.b0.ak.length:Int))then I 4 else bif(iJ r3.b1).fst then I 4 else match acF r3.b0.ai with|S=>S|I r5=>bif bif O (r5=0)then G else J then I (r5)else match aec r3.b0 with|S=>S|I r6=>bif bif O (r6=0)then G else J then I (r6)else match Zx r3.b0 r3.b0.bK J with|S=>S|I r7=>bif bif O (r7=0)then G else J then I (r7)else match UF r3.b0.bK with|S=>S|I r8=>match bif O (4096<r8.fo)then I J else bif O (8<r8.bk)then I J else I (O (67108864<r8.aD))with|S=>S|I r9=>bif r9 then I 4 else I 0
def ab1:=eL wJ 136 G (lc (qg 26) ln) d136 (λg=>V4 g.1)
def Oo:EO ab1:=λh=>kL (F:=arO) (an:=(noTwo (noTwo (noTwo (.two (noTwo (L9.lp CO .no)) (noTwo (noTwo (noTwo (noTwo (.two (noTwo (.two (.rb [] 72) .no)) .no)))))))))) (l:=[(bg f136 0,(L9.lp CO .no)),(.skip,(.rb [] 72))]) func136 (abt (Yh (aaE (Yr (PB (FW (YT aQ))))))) (aC (aO L9) (aC arU aG)) h
def DU:EP ab1:=λh=>kP h
def WL(l:aa UInt8):(ByteArray.mk (y6 l)).toList=l:=by
 have key:∀(k i:Nat) (acc:aa UInt8),i+k=l.length->ByteArray.toList.loop (ByteArray.mk (y6 l)) i acc=acc.reverse++l.drop i:=by
  intro k;induction k with
  |zero=>
   intro i acc h;rw[ByteArray.toList.loop];have hs:(ByteArray.mk (y6 l)).size=l.length:=rfl;rw[bL (by rw[hs];omega)];rw[xM (by omega),yp]
  |succ k ih=>
   intro i acc h;rw[ByteArray.toList.loop];have hs:(ByteArray.mk (y6 l)).size=l.length:=rfl;rw[bD (by rw[hs];omega),ih (i+1) _ (by omega)];have hi:i<l.length:=by omega
   rw[xQ hi];have:(ByteArray.mk (y6 l)).get! i=l[i]:=by
    show (y6 l)[i]! =_;rw[getElem!_pos (y6 l) i hi];rfl
   rw[this];simp
 have:=key l.length 0 [] (by omega);simpa [ByteArray.toList]using this
def aiy(s:ByteArray):(s.toList==(ByteArray.mk (y6 [])).toList)=O (s.size=0):=by
 obtain⟨⟨l⟩⟩:=s;rw[WL,WL];have hs:(ByteArray.mk (y6 l)).size=l.length:=rfl;rw[hs];cases l with
 |nil=>rfl
 |cons a l=>simp
def pP{n i:Nat}(h:i<n):(zO n)[i]! =i:=by rw[getElem!_pos _ i (by simpa using h)];simp
def AF(s:ByteArray):Ny s=I (ij s):=by
 unfold Ny;rw[aiy];by_cases h0:s.size=0
 ·simp[h0,ij]
 by_cases h1:40<(s.size:Int)
 ·have h1':¬s.size<=40:=by omega
  simp[h0,h1,h1',ij]
 rw[bT h0,bT h1];dsimp only[bz];obtain⟨i,e1,hc⟩:=oy (rnd:=G6) (zO s.size) (λi=>⟨s,(s.size:Int),(i:Int)⟩) (λi j=>okc j (cg s j)) (λi hi=>by
  rw[xk]at hi;have hw:=fD hi (by omega);rw[pP hi];unfold G6 okc;dsimp only;simp only[zi,zf];grind) (by unfold G6;simp)
 have e1':GX ⟨s,(s.size:Int),0⟩=I ⟨s,(s.size:Int),(i:Int)⟩:=e1;rw[e1'];have h2:ij s=(zO s.size).all λi=>okc i (cg s i):=by
  unfold ij;rw[mg,mg];simp
 rw[h2];dsimp only;rcases hc with ⟨rfl,hc⟩|⟨hi,hc⟩
 ·rw[Cq hc];simp
 ·rw[sN hi hc];rw[xk]at hi;rw[pP hi]at hc;unfold okc at hc;simp only[zi,zf];grind
def Ay(s:ByteArray):Nc s=I (ij s):=by
 unfold Nc;by_cases h0:s.size<1
 ·have h0':¬1<=s.size:=by omega
  have h0'':(s.size:Int)<1:=by omega
  simp[h0'',h0',ij]
 by_cases h1:40<(s.size:Int)
 ·have h1':¬s.size<=40:=by omega
  have h0'':¬(s.size:Int)<1:=by omega
  simp[h0'',h1,h1',ij]
 rw[bT (show ¬(s.size:Int)<1 by omega),bT h1];dsimp only[bz];obtain⟨i,e1,hc⟩:=oy (rnd:=Fz) (zO s.size) (λi=>⟨s,(i:Int)⟩) (λi j=>okc j (cg s j)) (λi hi=>by
  rw[xk]at hi;have hw:=fD hi (by omega);rw[pP hi];unfold Fz okc;dsimp only;simp only[zi,zf];grind) (by unfold Fz;simp)
 have e1':HJ ⟨s,0⟩=I ⟨s,(i:Int)⟩:=e1;rw[e1'];have h2:ij s=(zO s.size).all λi=>okc i (cg s i):=by
  unfold ij;rw[mg,mg];simp
 rw[h2];dsimp only;rcases hc with ⟨rfl,hc⟩|⟨hi,hc⟩
 ·rw[Cq hc];simp
 ·rw[sN hi hc];rw[xk]at hi;rw[pP hi]at hc;unfold okc at hc;simp only[zi,zf];grind
def AE(a b:Int):Gu a b=gj a b:=by
 unfold Gu gj;simp only[zi];grind
def Aw(a b:Int):Fq a b=gj a b:=by
 unfold Fq gj;simp only[zi];grind
def O4(l:aa aS)(hl:l.length<=1000000)(v:aS):W5 l v=I (l.any λw=>w.fName.toList==v.fName.toList):=by
 obtain⟨i,e1,hc⟩:=oy (rnd:=Fc) l (λi=>⟨l,v.fName,v.bw,v.ag,v.ah,v.dM,(l.length:Int),(i:Int)⟩) (λ_ w=> !(w.fName.toList==v.fName.toList)) (λi hi=>by
  have hw:=fD hi hl;unfold Fc XB;dsimp only;simp only[zi,zf];grind) (by unfold Fc;simp)
 have e1':FB ⟨l,v.fName,v.bw,v.ag,v.ah,v.dM,(l.length:Int),0⟩=I ⟨l,v.fName,v.bw,v.ag,v.ah,v.dM,(l.length:Int),(i:Int)⟩:=e1;unfold W5 ak0;rw[e1'];dsimp only;rcases hc with ⟨rfl,hc⟩|⟨hi,hc⟩
 ·rw[tW λj hj=>by have:=hc j hj;simpa using this];simp
 ·have hc':(l[i]!.fName.toList==v.fName.toList)=J:=by simpa using hc
  rw[A6 hi hc'];unfold XB;simp only[zf,hc',bB];simp[hi]
def D7(l:aa aS)(hl:l.length<=1000000)(n:Nat)(hn:n<=l.length)(v:aS):
  ∃i:Nat,Db ⟨l,n,0,v⟩=I ⟨l,n,(i:Int),v⟩/\((i=n/\((l.take n).any λw=>w.fName.toList==v.fName.toList)=G)\/(i<n/\(l[i]!.fName.toList==v.fName.toList)=J/\((l.take n).any λw=>w.fName.toList==v.fName.toList)=J)):=by
 have hlen:(l.take n).length=n:=by rw[zR];omega
 have hget:∀i,i<n->(l.take n)[i]! =l[i]! :=λi hi=>by
  rw[getElem!_pos _ i (by omega),getElem!_pos _ i (by omega),List.getElem_take]
 obtain⟨i,e1,hc⟩:=oy (rnd:=G4) (l.take n) (λi=>⟨l,(n:Int),(i:Int),v⟩) (λ_ w=> !(w.fName.toList==v.fName.toList)) (λi hi=>by
  rw[hlen]at hi;have hw:=fD hi (by omega);rw[hget i hi];unfold G4;dsimp only;simp only[zi,zf];grind) (by rw[hlen];unfold G4;simp)
 refine⟨i,e1,?_⟩;rw[hlen]at hc;rcases hc with ⟨rfl,hc⟩|⟨hi,hc⟩
 ·exact .inl ⟨rfl,tW λj hj=>by have:=hc j (by omega);simpa using this⟩
 ·have hc':((l.take n)[i]!.fName.toList==v.fName.toList)=J:=by simpa using hc
  exact .inr ⟨hi,by rw[<-hget i hi];exact hc',A6 (by omega) hc'⟩
def As(a b:aa ax):iR (a++b)=iR a+iR b:=by simp[iR]
def Cv(l:aa ax)(i:Nat):iR (l.take i)<=iR l:=by
 have:=As (l.take i) (l.drop i);rw[xp]at this;omega
def FD(l:aa ax):l.length<=iR l:=by
 induction l with
 |nil=>simp
 |cons a l ih=>rw[oZ];have:=H9 a;simp;omega
def aaV(a b:aa ay):eW (a++b)=eW a+eW b:=by simp[eW]
def Xx(l:aa ay)(i:Nat):eW (l.take i)<=eW l:=by
 have:=aaV (l.take i) (l.drop i);rw[xp]at this;omega
def ams(s:ay):0<nS s:=by rw[nu];omega
def ji(l:aa ay):l.length<=eW l:=by
 induction l with
 |nil=>simp
 |cons a l ih=>rw[lX];have:=ams a;simp;omega
def A8{l:aa ax}{i:Nat}(hi:i<l.length):iR (l.take i)+nT l[i]!<=iR l:=by
 have:=Cv l (i+1);rw[bM hi,oH]at this;exact this
def Df{l:aa ay}{i:Nat}(hi:i<l.length):eW (l.take i)+nS l[i]!<=eW l:=by
 have:=Xx l (i+1);rw[bM hi,KY]at this;exact this
def Nf(l:aa ax)(h:∀k∈l,dT k<=nT k):∀i,i<=l.length->K8 (l.take i)<=iR (l.take i):=by
 intro i;induction i with
 |zero=>intro _;simp[K8,iR]
 |succ i ih=>
  intro hi;have:=ih (by omega);have h2:=h _ (bh (show i<l.length by omega));rw[bM (by omega),Bw,oH];omega
def ahS(t:ax):dT t<=nT t:=by
 have key:∀(n:Nat) (t:ax),zh t<n->dT t<=nT t:=by
  intro n;induction n with
  |zero=>intro t h;omega
  |succ n ih=>
   intro t h;have:=Nf t.aq (λk hk=>ih k (by have:=ax.dY hk;omega)) t.aq.length (zG _);rw[zI]at this;rw[OA,sH];omega
 exact key _ t (zB _)
def V5(l:aa ax)(i:Nat):K8 (l.take i)<=iR l:=by
 have h1:=Cv l i;by_cases h:i<=l.length
 ·have:=Nf l (λk _=>ahS k) i h;omega
 ·have:=Nf l (λk _=>ahS k) l.length (zG _);rw[zI]at this;rw[List.take_of_length_le (by omega)];omega
def Ue(l:aa ay):iZ l<=eW l:=by
 have key:∀(n:Nat) (l:aa ay),zh l<n->iZ l<=eW l:=by
  intro n;induction n with
  |zero=>intro t h;omega
  |succ n ih=>
   intro l h;cases l with
   |nil=>rw[iZ];simp[eW]
   |cons s l=>
    have q1:=ih s.aK (by have:=bf (l:=s::l) (zm ..);omega);have q2:=ih s.aN (by have:=bf (l:=s::l) (zm ..);omega);have q3:=ih l (by have:=dA s l;omega);rw[iZ,lX,nu];omega
 exact key _ l (zB _)
def afF(M:ax->af oI)(t:ax)(hM:∀k∈t.aq,M k=I (nT k:Int))(h:nT t<=1000):YK M t=I (nT t:Int):=by
 have hN:=sH t;have hL:=FD t.aq;obtain⟨v,e1,hv⟩:=cO (rnd:=FZ M) t.aq.length (λi (b:Int)=>⟨b,(i:Int),t⟩) (λi b=>b=1+iR (t.aq.take i)) (λi b hi hb=>by
   have hs:=A8 hi;refine⟨b+nT t.aq[i]!,?_,?_⟩
   ·have hk:=hM _ (bh hi);have hw:=fD hi (by omega);have hw2:i64.wrap (b+nT t.aq[i]!)=b+nT t.aq[i]! :=aI;unfold FZ;dsimp only;simp only[zi,zf,ax.eta,hk];grind
   ·rw[bM hi,oH];omega) (λb _=>by unfold FZ;simp) (b:=1) (by simp[iR])
 have e1':Gx M ⟨1,0,t⟩=I ⟨v,(t.aq.length:Int),t⟩:=e1;unfold YK;rw[ax.eta,e1',hN];rw[zI]at hv;simp[hv]
def Pe:∀(n:Nat) (t:ax),zh t<n->nT t<=1000->MH n t=I (nT t:Int)
 |0,_,h,_=>by omega
 |n+1,t,h,h2=>afF (MH n) t (λk hk=>Pe n k (by have:=ax.dY hk;omega) (by have:=OW hk;have:=sH t;omega)) h2
def Fl(t:ax)(h:nT t<=1000):M1 t=I (nT t:Int):=dS (zh t+1) λn hn=>Pe n t (by omega) h
def acj(M:ax->af nZ)(t:ax)(hM:∀k∈t.aq,M k=I (dT k))(h:nT t<=1000):afq M t=I (dT t):=by
 have hN:=sH t;have hL:=FD t.aq;obtain⟨v,e1,hv⟩:=cO (rnd:=HH M) t.aq.length (λi (b:Int)=>⟨b,(i:Int),t⟩) (λi b=>b=K8 (t.aq.take i)) (λi b hi hb=>by
   refine⟨max b (dT t.aq[i]!),?_,?_⟩
   ·have hk:=hM _ (bh hi);have hw:=fD hi (by omega);unfold HH;dsimp only;simp only[zi,zf,ax.eta,hk];grind
   ·rw[bM hi,Bw,hb]) (λb _=>by unfold HH;simp) (b:=0) (by simp[K8])
 have e1':FL M ⟨0,0,t⟩=I ⟨v,(t.aq.length:Int),t⟩:=e1;unfold afq;rw[ax.eta,e1',OA];have hd:=V5 t.aq t.aq.length;have hp:=Hh t.aq;rw[zI]at hv hd;subst hv;have hw2:i64.wrap (K8 t.aq+1)=K8 t.aq+1:=aI;dsimp only;rw[eH];show I (i64.wrap (K8 t.aq+1))=_;rw[hw2]
 congr 1
 omega
def PA:∀(n:Nat) (t:ax),zh t<n->nT t<=1000->MS n t=I (dT t)
 |0,_,h,_=>by omega
 |n+1,t,h,h2=>acj (MS n) t (λk hk=>PA n k (by have:=ax.dY hk;omega) (by have:=OW hk;have:=sH t;omega)) h2
def GF(t:ax)(h:nT t<=1000):IB t=I (dT t):=dS (zh t+1) λn hn=>PA n t (by omega) h
def Ak{s:ay}{l:aa ay}(h:s∈l):nS s<=eW l:=by
 induction l with
 |nil=>cases h
 |cons a l ih=>
  rw[lX];rcases zF.1 h with rfl|h
  ·omega
  ·have:=ih h;omega
def fQ:aa ay->Int
 |[]=>0
 |s::l=>1+nT s.aB+fQ s.aK+fQ s.aN+fQ l
termination_by l=>zh l
decreasing_by
 ·exact(bf (zm ..)).1
 ·exact(bf (zm ..)).2
 ·exact dA _ _
def AK(l:aa ay):0<=fQ l/\fQ l<=eW l:=by
 have key:∀(n:Nat) (l:aa ay),zh l<n->0<=fQ l/\fQ l<=eW l:=by
  intro n;induction n with
  |zero=>intro t h;omega
  |succ n ih=>
   intro l h;cases l with
   |nil=>rw[fQ];simp[eW]
   |cons s l=>
    have q1:=ih s.aK (by have:=bf (l:=s::l) (zm ..);omega);have q2:=ih s.aN (by have:=bf (l:=s::l) (zm ..);omega);have q3:=ih l (by have:=dA s l;omega);rw[fQ,lX,nu];omega
 exact key _ l (zB _)
def SD(l:aa ay)(s:ay):fQ (l++[s])=fQ l+(1+nT s.aB+fQ s.aK+fQ s.aN):=by
 induction l with
 |nil=>rw[yg,show fQ []=0 by rw[fQ],fQ,show fQ []=0 by rw[fQ]];omega
 |cons a l ih=>rw[xo,fQ,fQ,ih];omega
def ZV(M:aa ay->af ox)(l:aa ay)(hM:∀s∈l,M s.aK=I (fQ s.aK)/\M s.aN=I (fQ s.aN))(h:eW l<=1000):Zr M l=I (fQ l):=by
 have hL:=ji l;obtain⟨v,e1,hv⟩:=cO (rnd:=FF M) l.length (λi (b:Int)=>⟨l,b,(i:Int)⟩) (λi b=>b=fQ (l.take i)) (λi b hi hb=>by
   have hs:=Df hi;have hE:=nu l[i]!;obtain⟨k1,k4⟩:=hM _ (bh hi);have k2:=AK l[i]!.aK;have k3:=AK l[i]!.aN;have k5:=AK (l.take i);have hk:=Fl l[i]!.aB (by omega);have hw:=fD hi (by omega);refine⟨b+(1+nT l[i]!.aB+fQ l[i]!.aK+fQ l[i]!.aN),?_,?_⟩
   ·have w1:i64.wrap (b+1)=b+1:=aI;have w2:i64.wrap (b+1+nT l[i]!.aB)=b+1+nT l[i]!.aB:=aI;have w3:i64.wrap (b+1+nT l[i]!.aB+fQ l[i]!.aK)=b+1+nT l[i]!.aB+fQ l[i]!.aK:=aI;have w4:i64.wrap (b+1+nT l[i]!.aB+fQ l[i]!.aK+fQ l[i]!.aN)=b+(1+nT l[i]!.aB+fQ l[i]!.aK+fQ l[i]!.aN):=by rw[aI];omega
    unfold FF;dsimp only;simp only[zi,zf,ax.eta,hk,k1,k4,w1,w2,w3,w4,hw];grind
   ·rw[bM hi,SD];omega) (λb _=>by unfold FF;simp) (b:=0) (by simp[fQ])
 have e1':FM M ⟨l,0,0⟩=I ⟨l,v,(l.length:Int)⟩:=e1;unfold Zr;rw[e1'];rw[zI]at hv;simp[hv]
def fG{s:ay}{l:aa ay}(h:s∈l):eW s.aK<=eW l/\eW s.aN<=eW l:=by
 have:=Ak h;have:=nu s;omega
def GV:∀(n:Nat) (l:aa ay),zh l<n->eW l<=1000->MG n l=I (fQ l)
 |0,_,h,_=>by omega
 |n+1,l,h,h2=>ZV (MG n) l (λs hs=>⟨GV n _ (by have:=bf hs;omega) (by have:=fG hs;omega),GV n _ (by have:=bf hs;omega) (by have:=fG hs;omega)⟩) h2
def adE(l:aa ay)(h:eW l<=1000):adH l=I (fQ l):=dS (zh l+1) λn hn=>GV n l (by omega) h
def afk(M:aa ay->af oG)(l:aa ay)(hM:∀s∈l,M s.aK=I (iZ s.aK)/\M s.aN=I (iZ s.aN))(h:eW l<=1000):ae6 M l=I (iZ l):=by
 have hL:=ji l;obtain⟨v,e1,hv⟩:=cO (rnd:=GR M) l.length (λi (b:Int)=>⟨l,b,(i:Int)⟩) (λi b=>b=iZ (l.take i)) (λi b hi hb=>by
   obtain⟨k1,k4⟩:=hM _ (bh hi);have k2:=Ue l[i]!.aK;have k3:=Ue l[i]!.aN;have k5:=fG (bh hi);have k6:=pV l[i]!.aK;have k7:=pV l[i]!.aN;have hw:=fD hi (by omega);refine⟨max b (max (iZ l[i]!.aK+1) (iZ l[i]!.aN+1)),?_,?_⟩
   ·have w1:i64.wrap (iZ l[i]!.aK+1)=iZ l[i]!.aK+1:=aI;have w2:i64.wrap (iZ l[i]!.aN+1)=iZ l[i]!.aN+1:=aI;unfold GR;dsimp only;simp only[zi,zf,k1,k4,w1,w2,hw];grind
   ·rw[bM hi,Vd];omega) (λb _=>by unfold GR;simp) (b:=0) (by simp[iZ])
 have e1':GI M ⟨l,0,0⟩=I ⟨l,v,(l.length:Int)⟩:=e1;unfold ae6;rw[e1'];rw[zI]at hv;simp[hv]
def HG:∀(n:Nat) (l:aa ay),zh l<n->eW l<=1000->Oa n l=I (iZ l)
 |0,_,h,_=>by omega
 |n+1,l,h,h2=>afk (Oa n) l (λs hs=>⟨HG n _ (by have:=bf hs;omega) (by have:=fG hs;omega),HG n _ (by have:=bf hs;omega) (by have:=fG hs;omega)⟩) h2
def acz(l:aa ay)(h:eW l<=1000):ac3 l=I (iZ l):=dS (zh l+1) λn hn=>HG n l (by omega) h
def JD(s:ay):Bool:=O (12<dT s.aB)||eS s.aK||eS s.aN
def RH(l:aa ay):eS l=l.any JD:=by
 induction l with
 |nil=>rw[eS];rfl
 |cons s l ih=>rw[eS,ih,List.any_cons];rfl
def aeu(M:aa ay->af nD)(l:aa ay)(hM:∀s∈l,M s.aK=I (eS s.aK)/\M s.aN=I (eS s.aN))(h:eW l<=1000):abq M l=I (eS l):=by
 have hL:=ji l;have hT:∀i,i<l.length->IB l[i]!.aB=I (dT l[i]!.aB):=λi hi=>GF _ (by have:=Ak (bh hi);have:=nu l[i]!;omega);obtain⟨i,e1,hc⟩:=oy (rnd:=Gj M) l (λi=>⟨l,(i:Int)⟩) (λ_ s=> !JD s) (λi hi=>by
   obtain⟨k1,k4⟩:=hM _ (bh hi);have hk:=hT i hi;have hw:=fD hi (by omega);unfold Gj JD;dsimp only;simp only[zi,zf,ax.eta,hk,k1,k4,hw];cases eS l[i]!.aK<;>cases eS l[i]!.aN<;>grind) (by unfold Gj;simp)
 have e1':FV M ⟨l,0⟩=I ⟨l,(i:Int)⟩:=e1;unfold abq;rw[e1',RH];dsimp only;rcases hc with ⟨rfl,hc⟩|⟨hi,hc⟩
 ·rw[tW λj hj=>by have:=hc j hj;simpa using this];simp
 ·have hc':JD l[i]! =J:=by simpa using hc
  rw[A6 hi hc'];obtain⟨k1,k4⟩:=hM _ (bh hi);have hk:=hT i hi;unfold JD at hc';simp only[zi,zf,ax.eta,hk,k1,k4];revert hc';cases eS l[i]!.aK<;>cases eS l[i]!.aN<;>grind
def HU:∀(n:Nat) (l:aa ay),zh l<n->eW l<=1000->Le n l=I (eS l)
 |0,_,h,_=>by omega
 |n+1,l,h,h2=>aeu (Le n) l (λs hs=>⟨HU n _ (by have:=bf hs;omega) (by have:=fG hs;omega),HU n _ (by have:=bf hs;omega) (by have:=fG hs;omega)⟩) h2
def aao(l:aa ay)(h:eW l<=1000):adR l=I (eS l):=dS (zh l+1) λn hn=>HU n l (by omega) h
def ew(b:aU):Bool:=b.eO||O (1024<b.bA)
def tO(b:aU):iJ b=(ew b,b):=by
 unfold iJ ew;cases b.eO<;>rfl
def cU(d:Int)(b:aU):aU:=⟨b.bA+1,b.eO||O (12<d)⟩
def rC(t:ax)(d:Int)(b:aU):aU:=if ew (cU d b)=J then cU d b else t.aq.attach.foldl (λb k=>rC k.1 (d+1) b) (cU d b)
termination_by zh t
decreasing_by exact ax.dY k.2
def DK(l:aa ax)(d:Int)(b:aU):aU:=l.foldl (λb k=>rC k d b) b
def T2(t:ax)(d:Int)(b:aU):rC t d b=if ew (cU d b)=J then cU d b else DK t.aq (d+1) (cU d b):=by
 rw[rC,DK];rw[show t.aq.attach.foldl (λb k=>rC k.1 (d+1) b) (cU d b)=t.aq.foldl (λb k=>rC k (d+1) b) (cU d b)from List.foldl_attach (f:=λb k=>rC k (d+1) b)]
def Ew(l:aa ax)(k:ax)(d:Int)(b:aU):DK (l++[k]) d b=rC k d (DK l d b):=by simp[DK]
def MsP(d0:Int)(n:Int)(b r:aU):Prop:=r.eO=(b.eO||O (12<d0))/\b.bA<=r.bA/\r.bA<=b.bA+n
def HR(t:ax)(d:Int)(b:aU)(h0:0<=d)(h1:0<=b.bA)(h2:b.bA+nT t<=1000):MsP (d-1+dT t) (nT t) b (rC t d b):=by
 have key:∀(n:Nat) (t:ax) (d:Int) (b:aU),zh t<n->0<=d->0<=b.bA->b.bA+nT t<=1000->MsP (d-1+dT t) (nT t) b (rC t d b):=by
  intro n;induction n with
  |zero=>intro t d b h;omega
  |succ n ih=>
   intro t d b h h0 h1 h2;have hN:=sH t;have hD:=OA t;have hd0:=Hh t.aq;rw[T2];by_cases ho:ew (cU d b)=J
   ·rw[bD ho];unfold ew cU at ho;unfold MsP cU;grind
   ·rw[bL ho];have hi:∀i,i<=t.aq.length->MsP (d+K8 (t.aq.take i)) (iR (t.aq.take i)) (cU d b) (DK (t.aq.take i) (d+1) (cU d b)):=by
     intro i;induction i with
     |zero=>
      intro _;unfold ew cU at ho;simp only[xD,DK,List.foldl_nil,MsP,K8,iR,yK,cU];grind
     |succ i ihi=>
      intro hi;have q:=ihi (by omega);have hs:=A8 (show i<t.aq.length by omega);have hm:t.aq[i]!∈t.aq:=bh (by omega);have hp:(cU d b).bA=b.bA+1:=rfl;have q2:=ih t.aq[i]! (d+1) (DK (t.aq.take i) (d+1) (cU d b)) (by have:=ax.dY hm;omega) (by omega) (by have:=q.2.1;omega) (by have:=q.2.2;omega);rw[bM (by omega),Ew,Bw,oH];unfold MsP at q q2 ⊢;obtain⟨a1,a2,a3⟩:=q;obtain⟨c1,c2,c3⟩:=q2;refine⟨?_,by omega,by omega⟩;rw[c1,a1];rw[Bool.or_assoc]
      congr 1
      rw[<-Bool.decide_or];apply decide_eq_decide.2;omega
    have q:=hi t.aq.length (zG _);rw[zI]at q;unfold MsP at q ⊢;obtain⟨a1,a2,a3⟩:=q;unfold ew at ho;have hp:(cU d b).bA=b.bA+1:=rfl;have hp2:(cU d b).eO=(b.eO||O (12<d)):=rfl;refine⟨?_,by omega,by omega⟩;rw[a1,hD,hp2];rw[hp2]at ho;grind
 exact key _ t d b (zB _) h0 h1 h2
def Yy(M:ax->Int->aU->af qe)(t:ax)(hM:∀k∈t.aq,∀(d:Int) (b:aU),0<=d->d<=13->0<=b.bA->b.bA+nT k<=1000->M k d b=I (rC k d b))(d:Int)(b:aU)(h0:0<=d)(hd:d<=13)(h1:0<=b.bA)(h2:b.bA+nT t<=1000):Zv M t d b=I (rC t d b):=by
 have hN:=sH t;have hL:=FD t.aq;have hw0:i64.wrap (b.bA+1)=b.bA+1:=aI;have hw1:i64.wrap (d+1)=d+1:=aI;have hinc:∀x,(⟨b.bA+1,x⟩:aU)=cU d b↔x=(b.eO||O (12<d)):=λx=>by unfold cU;simp
 have key:ew (cU d b)=G->d<=12/\C0 M ⟨d,t.aq,(t.aq.length:Int),0,cU d b⟩=I ⟨d,t.aq,(t.aq.length:Int),(t.aq.length:Int),DK t.aq (d+1) (cU d b)⟩:=λho=>by
  have hd2:d<=12:=by unfold ew cU at ho;grind
  refine⟨hd2,?_⟩;obtain⟨v,e1,hv,_⟩:=cO (rnd:=Gt M) t.aq.length (λi (x:aU)=>⟨d,t.aq,(t.aq.length:Int),(i:Int),x⟩) (λi x=>x=DK (t.aq.take i) (d+1) (cU d b)/\b.bA+1<=x.bA/\x.bA<=b.bA+1+iR (t.aq.take i)) (λi x hi hx=>by
    have hs:=A8 hi;have hk:=hM _ (bh hi) (d+1) x (by omega) (by omega) (by omega) (by omega);have hp:=HR t.aq[i]! (d+1) x (by omega) (by omega) (by omega);have hw:=fD hi (by omega);refine⟨rC t.aq[i]! (d+1) x,?_,?_⟩
    ·unfold Gt;dsimp only;simp only[zi,zf,ax.eta,hw1,hk,hw];grind
    ·unfold MsP at hp;rw[bM hi,Ew,<-hx.1,oH];exact⟨rfl,by omega,by omega⟩) (λx _=>by unfold Gt;simp) (b:=cU d b) ⟨rfl,zw _,by show b.bA+1<=_;simp[iR]⟩
  rw[zI]at hv;rw[<-hv];exact e1
 rw[T2];unfold Zv;rw[hw0];have hm:∀x,x=(b.eO||O (12<d))->iJ ⟨b.bA+1,x⟩=(ew (cU d b),cU d b):=λx hx=>by rw[tO,(hinc x).2 hx]
 cases hb:b.eO with
 |true=>
  rw[hm J (by rw[hb];rfl)];have ho:ew (cU d b)=J:=by unfold ew cU;simp[hb]
  simp[ho]
 |false=>
  rw[hm (O (12<d)) (by rw[hb];rfl)];cases ho:ew (cU d b)with
  |true=>simp
  |false=>
   obtain⟨_,e⟩:=key ho;rw[e];simp
def RE:∀(n:Nat) (t:ax) (d:Int) (b:aU),zh t<n->0<=d->d<=13->0<=b.bA->b.bA+nT t<=1000->Mg n t d b=I (rC t d b)
 |0,_,_,_,h,_,_,_,_=>by omega
 |n+1,t,d,b,h,h0,hd,h1,h2=>Yy (Mg n) t (λk hk d b a1 a2 a3 a4=>RE n k d b (by have:=ax.dY hk;omega) a1 a2 a3 a4) d b h0 hd h1 h2
def ON(t:ax)(d:Int)(b:aU)(h0:0<=d)(hd:d<=13)(h1:0<=b.bA)(h2:b.bA+nT t<=1000):DE t d b=I (rC t d b):=dS (zh t+1) λn hn=>RE n t d b (by omega) h0 hd h1 h2
def mh(d:Int):aa ay->aU->aU
 |[],b=>b
 |s::l,b=>if ew (cU d b)=J then cU d b else mh d l (mh (d+1) s.aN (mh (d+1) s.aK (rC s.aB 1 (cU d b))))
termination_by l=>zh l
decreasing_by
 ·exact(bf (zm ..)).1
 ·exact(bf (zm ..)).2
 ·exact dA _ _
def Lr(d:Int)(l:aa ay)(b:aU)(h0:0<=d)(hd:d<=13)(h1:0<=b.bA)(h2:b.bA+eW l<=1000):(mh d l b).eO=(b.eO||(O (12<d-1+iZ l)||eS l))/\b.bA<=(mh d l b).bA/\(mh d l b).bA<=b.bA+eW l:=by
 have key:∀(n:Nat) (d:Int) (l:aa ay) (b:aU),zh l<n->0<=d->d<=13->0<=b.bA->b.bA+eW l<=1000->(mh d l b).eO=(b.eO||(O (12<d-1+iZ l)||eS l))/\b.bA<=(mh d l b).bA/\(mh d l b).bA<=b.bA+eW l:=by
  intro n;induction n with
  |zero=>intro d l b h;omega
  |succ n ih=>
   intro d l b h h0 hd h1 h2;cases l with
   |nil=>
    rw[mh,iZ,eS];refine⟨?_,by omega,by simp[eW]⟩;rw[eH];simp
   |cons s l=>
    have hz:=bf (l:=s::l) (zm ..);have hz2:=dA s l;have hN:=nu s;have hC:=lX s l;have p1:=pV s.aK;have p2:=pV s.aN;have p3:=pV l;have p4:=akT s.aB;have hp:(cU d b).bA=b.bA+1:=rfl;have hp2:(cU d b).eO=(b.eO||O (12<d)):=rfl;rw[mh,iZ,eS];by_cases ho:ew (cU d b)=J
    ·rw[bD ho];unfold ew cU at ho;unfold cU;dsimp only at ho ⊢;refine⟨?_,by omega,by omega⟩;grind
    ·rw[bL ho];unfold ew at ho;rw[hp,hp2]at ho;have hb:b.eO=G:=by grind
     have hd2:d<=12:=by grind
     obtain⟨a1,a2,a3⟩:=HR s.aB 1 (cU d b) (by omega) (by omega) (by omega);obtain⟨c1,c2,c3⟩:=ih (d+1) s.aK (rC s.aB 1 (cU d b)) (by omega) (by omega) (by omega) (by omega) (by omega);obtain⟨g1,g2,g3⟩:=ih (d+1) s.aN _ (by omega) (by omega) (by omega) (xG (by omega) c2) (by omega);obtain⟨k1,k2,k3⟩:=ih d l _ (by omega) h0 hd (xG (by omega) g2) (by omega);refine⟨?_,by omega,by omega⟩;rw[k1,g1,c1,a1,hp2,hb];rw[bT (show ¬12<d by omega)];have e1:O (12<1-1+dT s.aB)=O (12<dT s.aB):=by congr 1;rw[show (1:Int)-1+dT s.aB=dT s.aB by omega]
     rw[e1];have e2:O (12<d-1+max (max (iZ s.aK+1) (iZ s.aN+1)) (iZ l))=(O (12<d+1-1+iZ s.aK)||(O (12<d+1-1+iZ s.aN)||O (12<d-1+iZ l))):=by
      rw[<-Bool.decide_or,<-Bool.decide_or];apply decide_eq_decide.2;omega
     rw[e2];generalize O (12<dT s.aB)=x1;generalize O (12<d+1-1+iZ s.aK)=x2;generalize O (12<d+1-1+iZ s.aN)=x3;generalize O (12<d-1+iZ l)=x4;generalize eS s.aK=x5;generalize eS s.aN=x6;generalize eS l=x7;revert x1 x2 x3 x4 x5 x6 x7;decide
 exact key _ d l b (zB _) h0 hd h1 h2
def wM{α:Type}[Inhabited α]{c:Nat->α->Int}:∀(l:aa α) (i:Nat),b9 c l i=0->∀j,j<l.length->c (i+j) l[j]! =0
 |[],i,_,j,hj=>by simp at hj
 |x::xs,i,h,j,hj=>by
  unfold b9 at h;split at h
  ·rename_i hx;cases j with
   |zero=>exact hx
   |succ j=>
    have:=wM xs (i+1) h j (by simpa using hj);rw[show i+1+j=i+(j+1)by omega]at this;simpa using this
  ·rename_i hx;exact dg h hx
def cL(vars:aa aS):Prop:=∀v∈vars,-1048576<=v.ag/\v.ag<=v.ah/\v.ah<=1048576
def Ts{vars:aa aS}{i:Nat}{v:aS}(h:kz vars i v=0): -1048576<=v.ag/\v.ag<=v.ah/\v.ah<=1048576:=by
 unfold kz gj at h;grind
def lM{vars:aa aS}(h:b9 (kz vars) vars 0=0):cL vars:=λv hv=>by
 obtain⟨i,hi,e⟩:=xR hv;have:=wM _ _ h i hi;rw[getElem!_pos vars i hi,e]at this;exact Ts this
def rq(kind:Int):∀(l:aa aS) (i:Nat) (n:Int),NG (λ_ (n:Int) (v:aS)=>if 4096<n*(v.ah-v.ag+1)then(.inr ():Int ⊕ Unit)else .inl (n*(v.ah-v.ag+1))) (λ_=>(S:af Int)) I (l.filter λv=>O (v.bw=kind)) i n=rT kind l n
 |[],i,n=>rfl
 |v::vs,i,n=>by
  unfold rT;by_cases hv:v.bw=kind
  ·rw[List.filter_cons_of_pos (by simpa using hv),bD hv];by_cases h:4096<n*(v.ah-v.ag+1)
   ·rw[bD h,AO (r:=()) (by rw[bD h])]
   ·rw[bL h,s9 (by rw[bL h])];exact rq kind vs (i+1) _
  ·rw[List.filter_cons_of_neg (by simpa using hv),bL hv];exact rq kind vs i n
def C1(kind:Int):∀(l:aa aS) (i:Nat) (n:Int),NG (λ_ (n:Int) (v:aS)=>if v.bw=kind then(if 4096<n*(v.ah-v.ag+1)then(.inr ():Int ⊕ Unit)else .inl (n*(v.ah-v.ag+1)))else .inl n) (λ_=>(S:af Int)) I l i n=rT kind l n
 |[],i,n=>rfl
 |v::vs,i,n=>by
  unfold rT;by_cases hv:v.bw=kind
  ·rw[bD hv];by_cases h:4096<n*(v.ah-v.ag+1)
   ·rw[bD h,AO (r:=()) (by rw[bD hv,bD h])]
   ·rw[bL h,s9 (b':=n*(v.ah-v.ag+1)) (by rw[bD hv,bL h])];exact C1 kind vs (i+1) _
  ·rw[bL hv,s9 (b':=n) (by rw[bL hv])];exact C1 kind vs (i+1) n
def AI{v:aS}(h: -1048576<=v.ag/\v.ag<=v.ah/\v.ah<=1048576){n:Int}(h1:1<=n)(h2:n<=4096):
  1<=n*(v.ah-v.ag+1)/\i64.wrap (v.ah-v.ag)=v.ah-v.ag/\i64.wrap (v.ah-v.ag+1)=v.ah-v.ag+1/\i64.wrap (n*(v.ah-v.ag+1))=n*(v.ah-v.ag+1):=by
 have e1:0<=(n-1)*(v.ah-v.ag+1):=zx (by omega) (by omega);have e2:n*(v.ah-v.ag+1)<=4096*(v.ah-v.ag+1):=zM h2 (by omega);have e3:(n-1)*(v.ah-v.ag+1)=n*(v.ah-v.ag+1)-(v.ah-v.ag+1):=by rw[ym,zX]
 exact⟨by omega,aI,aI,aI⟩
def RW(vars:aa aS)(hv:cL vars)(hl:vars.length<=1000000)(kind:Int):rH ⟨kind,[],vars,(vars.length:Int),0⟩=I ⟨kind,vars.filter (λv=>O (v.bw=kind)),vars,(vars.length:Int),(vars.length:Int)⟩:=by
 obtain⟨v,e1,hV⟩:=cO (rnd:=Ca) vars.length (λi (b:aa aS)=>⟨kind,b,vars,(vars.length:Int),(i:Int)⟩) (λi b=>b=(vars.take i).filter λv=>O (v.bw=kind)) (λi b hi hb=>by
  have hw:=fD hi hl;have hv:=hv _ (bh hi);have hb2:b.length<=i:=by rw[hb];exact zH (yN _ _) (by rw[zR];omega)
  rw[bM hi,xE,<-hb];by_cases hk:vars[i]!.bw=kind
  ·refine⟨b++[vars[i]!],?_,?_⟩
   ·have hl2:(b++[vars[i]!]).length<=1073741824:=by simp;omega
    unfold Ca;dsimp only;simp only[zi,zf];grind
   ·revert hk;generalize vars[i]! =x;intro hk;simp[hk]
  ·refine⟨b,?_,?_⟩
   ·unfold Ca;dsimp only;simp only[zi,zf];grind
   ·revert hk;generalize vars[i]! =x;intro hk;simp[hk]) (λb _=>by unfold Ca;simp) (b:=[]) rfl
 rw[zI]at hV;rw[<-hV];exact e1
def SB(F:aa aS)(hv:cL F)(hl:F.length<=1000000):
  ∃(i:Nat) (n:Int),rz ⟨F,1,F,(F.length:Int),0⟩=I ⟨F,n,F,(F.length:Int),(i:Int)⟩/\((i=F.length/\NG (λ_ (n:Int) (v:aS)=>if 4096<n*(v.ah-v.ag+1)then(.inr ():Int ⊕ Unit)else .inl (n*(v.ah-v.ag+1))) (λ_=>(S:af Int)) I F 0 1=I n)\/
   (i<F.length/\4096<i64.wrap (n*Dw F[i]!)/\NG (λ_ (n:Int) (v:aS)=>if 4096<n*(v.ah-v.ag+1)then(.inr ():Int ⊕ Unit)else .inl (n*(v.ah-v.ag+1))) (λ_=>(S:af Int)) I F 0 1=S)):=by
 have hm:∀(i:Nat) (n:Int),i<F.length->1<=n->n<=4096->i64.wrap (n*Dw F[i]!)=n*(F[i]!.ah-F[i]!.ag+1):=λi n hi h1 h2=>by
  obtain⟨a,b,c,d⟩:=AI (hv _ (bh hi)) h1 h2;unfold Dw;rw[b,c,d]
 obtain⟨i,n,e1,hI,hc⟩:=Vt (rnd:=HN) F (λi (n:Int)=>⟨F,n,F,(F.length:Int),(i:Int)⟩) (λ_ (n:Int) (v:aS)=>if 4096<n*(v.ah-v.ag+1)then(.inr ():Int ⊕ Unit)else .inl (n*(v.ah-v.ag+1))) (λ_=>(S:af Int)) I (λi n=>1<=n/\n<=4096) (λi n hi hI=>by
  have hw:=fD hi hl;have h1:=hm i n hi hI.1 hI.2;have h2:=(AI (hv _ (bh hi)) hI.1 hI.2).1;unfold HN;dsimp only;simp only[zi,zf,h1];grind) (λb _=>by unfold HN;simp) (b:=1) ⟨by omega,by omega⟩
 refine⟨i,n,e1,?_⟩;rcases hc with ⟨h1,h2⟩|⟨h1,r,h2,h3⟩
 ·exact .inl ⟨h1,h2⟩
 ·refine .inr ⟨h1,?_,h3⟩;rw[hm i n h1 hI.1 hI.2];by_cases h:4096<n*(F[i]!.ah-F[i]!.ag+1)
  ·exact h
  ·rw[bL h]at h2;cases h2
def Gl(vars:aa aS)(hv:cL vars)(hl:vars.length<=1000000)(kind:Int)(hk:kind=1\/kind=2\/kind=3):Vx vars kind=I (match rT kind vars 1 with|I n=>(n,0)|S=>(0,4)):=by
 have e0:=RW vars hv hl kind;obtain⟨i,n,e1,hc⟩:=SB (vars.filter λv=>O (v.bw=kind)) (λv h=>hv v (z8.1 h).1) (zH (yN _ _) hl);rw[rq]at hc;unfold Vx air;rcases hk with rfl|rfl|rfl
 all_goals
  simp only[zi,e0,e1,Int.reduceEq,cD,ek,reduceIte];rcases hc with ⟨rfl,hc⟩|⟨hi,h2,hc⟩
  ·simp[hc]
  ·simp only[zf,h2,cD,hc];simp[hi]
def G8(vars:aa aS)(hv:cL vars)(hl:vars.length<=1000000)(kind:Int):RF vars kind=I (match rT kind vars 1 with|I n=>n|S=>4097):=by
 have hm:∀(i:Nat) (n:Int),i<vars.length->1<=n->n<=4096->i64.wrap (n*i64.wrap (i64.wrap (vars[i]!.ah-vars[i]!.ag)+1))=n*(vars[i]!.ah-vars[i]!.ag+1):=λi n hi h1 h2=>by
  obtain⟨a,b,c,d⟩:=AI (hv _ (bh hi)) h1 h2;rw[b,c,d]
 obtain⟨i,n,e1,hI,hc⟩:=Vt (rnd:=Fg) vars (λi (n:Int)=>⟨vars,kind,n,(i:Int)⟩) (λ_ (n:Int) (v:aS)=>if v.bw=kind then(if 4096<n*(v.ah-v.ag+1)then(.inr ():Int ⊕ Unit)else .inl (n*(v.ah-v.ag+1)))else .inl n) (λ_=>(S:af Int)) I (λi n=>1<=n/\n<=4096) (λi n hi hI=>by
  have hw:=fD hi hl;have h1:=hm i n hi hI.1 hI.2;have h2:=(AI (hv _ (bh hi)) hI.1 hI.2).1;unfold Fg;dsimp only;simp only[zi,zf,h1];grind) (λb _=>by unfold Fg;simp) (b:=1) ⟨by omega,by omega⟩
 rw[C1]at hc;have e1':Gw ⟨vars,kind,1,0⟩=I ⟨vars,kind,n,(i:Int)⟩:=e1;unfold RF;rw[e1'];dsimp only;rcases hc with ⟨rfl,hc⟩|⟨hi,r,h2,hc⟩
 ·simp[hc]
 ·have h1:=hm i n hi hI.1 hI.2;simp only[zi,zf,h1,hc];grind
def Cr(kind:Int):∀(l:aa aS) (n m:Int),n<=4096->rT kind l n=I m->m<=4096
 |[],n,m,h,e=>by unfold rT at e;cases e;exact h
 |v::vs,n,m,h,e=>by
  unfold rT at e;split at e
  ·split at e
   ·cases e
   ·exact Cr kind vs _ m (by omega) e
  ·exact Cr kind vs n m h e
def UZ(vars:aa aS)(hl:vars.length<=1000000)(i:Nat)(hi:i<vars.length):(kz vars i vars[i]! =0->uj ⟨vars,vars,(vars.length:Int),(i:Int)⟩=I (I ⟨vars,vars,(vars.length:Int),((i+1:Nat):Int)⟩))/\(kz vars i vars[i]!≠0->uj ⟨vars,vars,(vars.length:Int),(i:Int)⟩=I S):=by
 have hw:=fD hi hl;have h1:=AF vars[i]!.fName;have h2:=O4 (vars.take i) (by rw[zR];omega) vars[i]!;unfold uj kz;dsimp only;simp only[zi,zf,AE,h1,h2];generalize ij vars[i]!.fName=B;generalize ((vars.take i).any λw=>w.fName.toList==vars[i]!.fName.toList)=A;generalize gj vars[i]!.ag vars[i]!.ah=C;cases A<;>cases B<;>cases C<;>simp only[bB,bz]<;>grind
def aaw(vars:aa aS)(hl:vars.length<=1000000):acF vars=I (iP vars):=by
 obtain⟨i,e1,hc⟩:=qJ (rnd:=uj) vars (λi=>⟨vars,vars,(vars.length:Int),(i:Int)⟩) (kz vars) (λi hi=>UZ vars hl i hi) (by unfold uj;simp);have e1':Gm ⟨vars,vars,(vars.length:Int),0⟩=I ⟨vars,vars,(vars.length:Int),(i:Int)⟩:=e1;unfold acF iP;rw[e1'];dsimp only;rcases hc with ⟨rfl,hc⟩|⟨hi,h0,hc⟩
 ·have hv:=lM hc;rw[eH,bz,bL (by rw[hc];simp)];have hr:∀k:Nat,k<3->i64.wrap ((k:Int)+1)=((k+1:Nat):Int):=λk hk=>fD hk (by decide);have k1:=Gl vars hv hl 1 (.inl rfl);have k2:=Gl vars hv hl 2 (.inr (.inl rfl));have k3:=Gl vars hv hl 3 (.inr (.inr rfl));have r1:oC ⟨vars,[1,2,3],3,0⟩=match rT 1 vars 1 with|I _=>I (I ⟨vars,[1,2,3],3,1⟩)|S=>I S:=by
   unfold oC;simp[k1];cases rT 1 vars 1 with
   |none=>simp
   |some n=>simp;exact hr 0 (by decide)
  have r2:oC ⟨vars,[1,2,3],3,1⟩=match rT 2 vars 1 with|I _=>I (I ⟨vars,[1,2,3],3,2⟩)|S=>I S:=by
   unfold oC;simp[k2];cases rT 2 vars 1 with
   |none=>simp
   |some n=>simp;exact hr 1 (by decide)
  have r3:oC ⟨vars,[1,2,3],3,2⟩=match rT 3 vars 1 with|I n=>if 256<n then I S else I (I ⟨vars,[1,2,3],3,3⟩)|S=>I S:=by
   unfold oC;simp[k3];cases rT 3 vars 1 with
   |none=>simp
   |some n=>
    by_cases h:256<n
    ·simp[h]
    ·simp[h];exact hr 2 (by decide)
  unfold u5;cases s1:rT 1 vars 1 with
  |none=>
   rw[s1]at r1 k1;have e:o9 ⟨vars,[1,2,3],3,0⟩=I ⟨vars,[1,2,3],3,0⟩:=cu λr=>by rw[r1];simp
   rw[show ((↑(3:Int):Int))=3 from rfl,e];simp[k1]
  |some n1=>
   rw[s1]at r1 k1;cases s2:rT 2 vars 1 with
   |none=>
    rw[s2]at r2 k2;have e:o9 ⟨vars,[1,2,3],3,0⟩=I ⟨vars,[1,2,3],3,1⟩:=(bP r1).trans (cu λr=>by rw[r2];simp);rw[show ((↑(3:Int):Int))=3 from rfl,e];simp[k2]
   |some n2=>
    rw[s2]at r2 k2;cases s3:rT 3 vars 1 with
    |none=>
     rw[s3]at r3 k3;have e:o9 ⟨vars,[1,2,3],3,0⟩=I ⟨vars,[1,2,3],3,2⟩:=(bP r1).trans ((bP r2).trans (cu λr=>by rw[r3];simp));rw[show ((↑(3:Int):Int))=3 from rfl,e];simp[k3]
    |some n3=>
     rw[s3]at r3 k3;dsimp only at r3;by_cases h:256<n3
     ·rw[bD h]at r3;have e:o9 ⟨vars,[1,2,3],3,0⟩=I ⟨vars,[1,2,3],3,2⟩:=(bP r1).trans ((bP r2).trans (cu λr=>by rw[r3];simp));rw[show ((↑(3:Int):Int))=3 from rfl,e];simp[k3,h]
     ·rw[bL h]at r3;have e:o9 ⟨vars,[1,2,3],3,0⟩=I ⟨vars,[1,2,3],3,3⟩:=(bP r1).trans ((bP r2).trans ((bP r3).trans (cu λr=>by unfold oC;simp)));rw[show ((↑(3:Int):Int))=3 from rfl,e];simp[h]
 ·have h1:=AF vars[i]!.fName;have h2:=O4 (vars.take i) (by rw[zR];omega) vars[i]!;rw[hc,bD h0];rw[mg,bB,bD ⟨by omega,by omega⟩];revert h0;unfold kz;simp only[zi,zf,AE,h1,h2];generalize ij vars[i]!.fName=B;generalize ((vars.take i).any λw=>w.fName.toList==vars[i]!.fName.toList)=A;generalize gj vars[i]!.ag vars[i]!.ah=C;intro h0;cases A<;>cases B<;>cases C<;>simp only[bB,bz]at h0 ⊢ <;>grind
def afa(vars:aa aS)(hl:vars.length<=1000000)(i:Nat)(hi:i<vars.length):(kz vars i vars[i]! =0->uz ⟨vars,(i:Int)⟩=I (I ⟨vars,((i+1:Nat):Int)⟩))/\(kz vars i vars[i]!≠0->uz ⟨vars,(i:Int)⟩=I S):=by
 have hw:=fD hi hl;have h1:=Ay vars[i]!.fName;obtain⟨j,h2,h3⟩:=D7 vars hl i (by omega) vars[i]!;unfold uz kz;dsimp only;simp only[zi,zf,Aw,h1,h2];generalize ij vars[i]!.fName=B;generalize ((vars.take i).any λw=>w.fName.toList==vars[i]!.fName.toList)=A at h3;generalize gj vars[i]!.ag vars[i]!.ah=C;rcases h3 with ⟨rfl,rfl⟩|⟨hj,h4,rfl⟩
 ·cases B<;>cases C<;>simp only[bB,bz]<;>grind
 ·simp only[h4];cases B<;>cases C<;>simp only[bB,bz]<;>grind
def adB(vars:aa aS)(hl:vars.length<=1000000):adQ vars=I (iP vars):=by
 obtain⟨i,e1,hc⟩:=qJ (rnd:=uz) vars (λi=>⟨vars,(i:Int)⟩) (kz vars) (λi hi=>afa vars hl i hi) (by unfold uz;simp);have e1':F3 ⟨vars,0⟩=I ⟨vars,(i:Int)⟩:=e1;unfold adQ iP;rw[e1'];dsimp only;rcases hc with ⟨rfl,hc⟩|⟨hi,h0,hc⟩
 ·have hv:=lM hc;rw[eH,bz,bL (by rw[hc];simp)];rw[G8 vars hv hl 1,G8 vars hv hl 2,G8 vars hv hl 3];have b1:=Cr 1 vars 1;have b2:=Cr 2 vars 1;unfold u5;revert b1 b2;cases rT 1 vars 1<;>cases rT 2 vars 1<;>cases rT 3 vars 1<;>intro b1 b2<;>simp only[zi,Option.isSome_none,Option.isSome_some,Bool.and_true,Bool.and_false,xN,Bool.false_and]<;>(try have c1:=b1 _ (by omega) rfl)<;>(try have c2:=b2 _ (by omega) rfl)<;>grind
 ·have h1:=Ay vars[i]!.fName;obtain⟨j,h2,h3⟩:=D7 vars hl i (by omega) vars[i]!;rw[hc,bD h0];rw[mg,bB,bD ⟨by omega,by omega⟩];revert h0;unfold kz;simp only[zi,zf,Aw,h1,h2];generalize ij vars[i]!.fName=B;generalize ((vars.take i).any λw=>w.fName.toList==vars[i]!.fName.toList)=A at h3;generalize gj vars[i]!.ag vars[i]!.ah=C;intro h0;rcases h3 with ⟨rfl,rfl⟩|⟨hj,h4,rfl⟩
  ·cases B<;>cases C<;>simp only[bB,bz]at h0 ⊢ <;>grind
  ·simp only[h4];cases B<;>cases C<;>simp only[bB,bz]at h0 ⊢ <;>grind
end Go.Proofs.YtnfljbehcffmcaaGreat
end
