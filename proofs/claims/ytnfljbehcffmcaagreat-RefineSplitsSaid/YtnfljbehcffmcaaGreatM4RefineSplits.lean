/- Merged: Ne13, Ne14, Ne15, Ne16, Ne17, Ne18, Ne19, Ne20, Ne21, Ne22, Ne23, Ne24, Ne25, Ne26, Ne27, Ne28, Ne29, Ga, Pfew, Pd, Gb, Pv1, Pv3, Pv1b, Pv2. -/
import Derived.Test.YtnfljbehcffmcaaGreatM1RefineSplits
import Derived.Test.YtnfljbehcffmcaaGreatM3RefineSplits
import Derived.Test.YtnfljbehcffmcaaGreatM2RefineSplits
open Nat renaming le_refl -> zm, lt_succ_self -> zC, le_trans -> zH, add_mul -> zX, mul_le_mul_right -> ym, one_mul -> yK, mod_lt -> yV, not_lt_zero -> y9, lt_succ_iff_lt_or_eq -> xo
open SizeOf renaming sizeOf -> zf
open List renaming length_append -> zg, mem_cons_self -> zk, mem_singleton -> zq, all_eq_true -> zx, mem_cons -> zy, length_take -> zA, take_length -> zG, mem_cons_of_mem -> zJ, map_append -> zK, mem_map -> zL, range -> zN, mem_append -> zP, length -> zR, length_drop -> zV, mem_filter -> z7, drop -> ya, map_cons -> yc, length_filter_le -> yt, nil_append -> yz, getElem_map -> yL, getElem_of_mem -> yU, take_append_drop -> xg, filter_append -> xk, cons_append -> xz, mem_of_mem_drop -> xD, getElem_take -> xI, getElem_mem -> xN, length_range -> we, filter_cons_of_pos -> wL, filter_cons_of_neg -> wM, foldl_append -> wN, sizeOf_lt_of_mem -> vg
open Bool renaming and_eq_true -> zh, cond_decide -> zQ, or_eq_true -> yJ, true -> O, false -> G
open Int renaming toNat_natCast -> zi, le_refl -> zw, toNat -> zD, mul_nonneg -> zI, mul_le_mul_of_nonneg_right -> zM, mul_comm -> zO, ediv_nonneg -> zS, add_mul -> zU, dvd_trans -> zY, mul_assoc -> yb, one_mul -> yd, lt_irrefl -> yl, ediv_le_self -> yo, dvd_sub -> yA, sub_mul -> yB, gcd -> yC, mul_ediv_add_emod -> yY, emod_nonneg -> yZ, mul_le_mul -> y4, dvd_add -> y5, emod_lt_of_pos -> y8, ediv_mul_le -> xu, mul_add -> xF, dvd_mul_left -> xG, dvd_zero -> xK, dvd_mul_right -> xL, le_trans -> xV, zero_sub -> xW, mul_neg -> xX, ediv_mul_cancel -> wo, natCast_mul -> wG, lt_of_mul_lt_mul_right -> wK, dvd_of_emod_eq_zero -> ve, lt_ediv_add_one_mul_self -> vf
open Option renaming some -> zF, isSome_none -> vh, some -> V, none -> I
open Decidable renaming decide -> J
open Go.Proofs.Tryz renaming prog -> vn
open Go.Proofs.Tryz
set_option linter.unusedSectionVars false
set_option linter.unusedVariables false
set_option linter.unusedSimpArgs false
set_option linter.defProp false
noncomputable section
set_option maxRecDepth 100000
namespace Go.Proofs.YtnfljbehcffmcaaGreat
open Go Go.Iv
open Go.IntKind (i64 u64)
def akc(b:Bool):Ap b=oq b:=by cases b<;>rfl
def eF{op x y v:Int}(h:v=fR op x y)(hr:cC (fR op x y)):∃w,V (v,O)=V (w,J (cC (fR op x y)))/\(cC (fR op x y)->w=fR op x y):=⟨v,by rw[bZ hr],λ_=>h⟩
def agO{x y:Int}(hx:cC x)(hy:cC y):∃v,al2 x y=V (v,J (cC (x*y)))/\(cC (x*y)->v=x*y):=by
 unfold al2;rw[CL,CL,uK hx,uK hy];by_cases h0:x=0
 ·subst h0;rw[bY (show ¬¬(0:Int)=0 from λk=>k rfl)];simp only[cw];rw[Int.zero_mul,aM,bZ (show cC 0 from⟨aq,aq⟩)];exact⟨0,rfl,λ_=>rfl⟩
 ·rw[bZ h0,cI];by_cases h1:y=0
  ·subst h1;rw[bY (show ¬¬(0:Int)=0 from λk=>k rfl)];simp only[cw];rw[Int.mul_zero,aM,bZ (show cC 0 from⟨aq,aq⟩)];exact⟨0,rfl,λ_=>rfl⟩
  ·rw[bZ h1,cI,bI (show ¬@Eq Int ((y.natAbs:Nat):Int) 0 by omega),kF];have q0:0<=(1099511627776:Int)/((y.natAbs:Nat):Int):=zS aq aq;have q1:(1099511627776:Int)/((y.natAbs:Nat):Int)<=1099511627776:=yo _ aq;rw[aM];simp only;have k:=M5 (x:=y) (y:=x) h1;rw[zO]at k;by_cases c:(1099511627776:Int)/((y.natAbs:Nat):Int)<((x.natAbs:Nat):Int)
   ·rw[bZ c,bY (k.mp c)];exact⟨0,rfl,λe=>ei e (k.mp c)⟩
   ·have hR:cC (x*y):=Decidable.byContradiction λe=>c (k.mpr e);rw[bY c,bZ hR,aM (by have:=hR.1;omega) (by have:=hR.2;omega)];exact⟨x*y,rfl,λ_=>rfl⟩
def DH{x y:Int}(hx:cC x)(hy:cC y):∃v,Qn x y=V (v,J (cC (x*y)))/\(cC (x*y)->v=x*y):=by
 unfold Qn;rw[CL,nG hx,nG hy];by_cases h0:x=0
 ·subst h0;rw[bY (show ¬¬(0:Int)=0 from λk=>k rfl)];simp only[cw];rw[Int.zero_mul,aM,bZ (show cC 0 from⟨aq,aq⟩)];exact⟨0,rfl,λ_=>rfl⟩
 ·rw[bZ h0,cI,bI (show ¬@Eq Int ((x.natAbs:Nat):Int) 0 by omega),kF];have q0:0<=(1099511627776:Int)/((x.natAbs:Nat):Int):=zS aq aq;have q1:(1099511627776:Int)/((x.natAbs:Nat):Int)<=1099511627776:=yo _ aq;rw[aM];simp only;have k:=M5 (x:=x) (y:=y) h0;by_cases c:(1099511627776:Int)/((x.natAbs:Nat):Int)<((y.natAbs:Nat):Int)
  ·rw[bZ c,bY (k.mp c)];exact⟨0,rfl,λe=>ei e (k.mp c)⟩
  ·have hR:cC (x*y):=Decidable.byContradiction λe=>c (k.mpr e);rw[bY c,bZ hR,aM (by have:=hR.1;omega) (by have:=hR.2;omega)];exact⟨x*y,rfl,λ_=>rfl⟩
def mM{op x y:Int}(hx:cC x)(hy:cC y)(ho:binop op):∃v,Ei op x y=V (v,J (cC (fR op x y)))/\(cC (fR op x y)->v=fR op x y):=by
 obtain⟨o1,o2⟩:=ho;have hx':=hx;have hy':=hy;obtain⟨a1,a2⟩:=hx';obtain⟨b1,b2⟩:=hy';have cases15:op=8\/op=9\/op=10\/op=11\/op=12\/op=13\/op=14\/op=15\/op=16\/op=17\/op=18\/op=19\/op=20\/op=21\/op=22:=aq;unfold Ei;simp only[EG,akc];rcases cases15 with rfl|rfl|rfl|rfl|rfl|rfl|rfl|rfl|rfl|rfl|rfl|rfl|rfl|rfl|rfl
 all_goals simp only[cV,cT,Int.reduceEq]
 ·rw[aM];exact⟨x+y,rfl,λ_=>rfl⟩
 ·rw[aM];exact⟨x-y,rfl,λ_=>rfl⟩
 ·obtain⟨v,e,h⟩:=agO hx hy;rw[e];exact⟨v,rfl,h⟩
 ·rw[Xq hx hy];exact eF (op:=11) rfl (TG hx).1
 ·by_cases h0:y=0
  ·rw[bZ h0];have e:fR 12 x y=0:=bI h0;exact eF (op:=12) e.symm (by rw[e];exact⟨aq,aq⟩)
  ·rw[bY h0,cw,Xq hx hy];simp only;have e:fR 12 x y=x-y*oR x y:=bO h0;have hm:=(Tf (x:=x) hy h0).1;obtain⟨c1,c2⟩:=hm;rw[aM (n:=y*oR x y),aM];exact eF (op:=12) e.symm (by rw[e];exact⟨c1,c2⟩)
 ·exact eF (op:=13) rfl (th _)
 ·refine eF (op:=14) ?_ (th _);show oq _=oq _
  congr 1
 ·exact eF (op:=15) rfl (th _)
 ·exact eF (op:=16) rfl (th _)
 ·exact eF (op:=17) rfl (th _)
 ·exact eF (op:=18) rfl (th _)
 ·rw[CL,CL];by_cases h0:x=0
  ·rw[bY (show ¬¬x=0 from λk=>k h0),cw];refine eF (op:=19) ?_ (th _);show oq G=oq (J (x≠0/\y≠0));rw[bY (λk=>k.1 h0)]
  ·rw[bZ h0,cI];refine eF (op:=19) ?_ (th _);show oq _=oq (J (x≠0/\y≠0))
   congr 1
   exact decide_eq_decide.mpr ⟨λk=>⟨h0,k⟩,λk=>k.2⟩
 ·rw[CL,CL];by_cases h0:x=0
  ·rw[bY (show ¬¬x=0 from λk=>k h0),cw];refine eF (op:=20) ?_ (th _);show oq _=oq (J (x≠0\/y≠0))
   congr 1
   exact decide_eq_decide.mpr ⟨.inr,λk=>k.elim (λe=>ei h0 e) id⟩
  ·rw[bZ h0,cI];refine eF (op:=20) ?_ (th _);show oq O=oq (J (x≠0\/y≠0));rw[bZ (.inl h0)]
 ·by_cases c:x<y
  ·rw[bZ c];have e:fR 21 x y=x:=Int.min_eq_left aq;exact eF (op:=21) e.symm (by rw[e];exact hx)
  ·rw[bY c];have e:fR 21 x y=y:=Int.min_eq_right aq;exact eF (op:=21) e.symm (by rw[e];exact hy)
 ·by_cases c:y<x
  ·rw[bZ c];have e:fR 22 x y=x:=Int.max_eq_left aq;exact eF (op:=22) e.symm (by rw[e];exact hx)
  ·rw[bY c];have e:fR 22 x y=y:=Int.max_eq_right aq;exact eF (op:=22) e.symm (by rw[e];exact hy)
def lG(a:aL)(k:Nat):Int:=a.ah+(k:Int)*a.aj
def cnt(a:aL):Nat:=(b7 a).toNat
def gD{a:aL}(h:NN a):b7 a=(cnt a:Int):=by have:=size_pos h;unfold cnt;omega
def iU{a:aL}(h:NN a):1<=cnt a:=by have:=size_pos h;unfold cnt;omega
def abQ{a:aL}(h:NN a){k:Nat}(hk:k<cnt a):a.ah<=lG a k/\lG a k<=a.ag:=by
 have e:=gD h;rw[v7 h]at e;have hs:=h.s0;have k0:0<=(k:Int)*a.aj:=zI aq hs;unfold lG;rcases h.st with ⟨h1,h2⟩|⟨h1,h2,h3⟩
 ·simp_all
 ·rw[AS]at e;have:(k:Int)*a.aj<=(a.ag-a.ah)/a.aj*a.aj:=zM aq hs;rw[wo (ve h3)]at this;omega
def iy{a:aL}(h:NN a)(x:Int):bT a x↔∃k:Nat,k<cnt a/\x=lG a k:=by
 constructor
 ·rintro⟨h1,h2,q,hq⟩;have e:=gD h;rw[v7 h]at e;rcases h.st with ⟨k1,k2⟩|⟨k1,k2,k3⟩
  ·exact⟨0,iU h,by unfold lG;omega⟩
  ·rw[AS]at e;rw[zO]at hq;have q0:0<=q:=Decidable.byContradiction λc=>by
    have:q*a.aj<= -1*a.aj:=zM aq aq;omega
   have q1:q<=(a.ag-a.ah)/a.aj:=Int.le_ediv_of_mul_le aq aq;refine⟨q.toNat,aq,?_⟩;unfold lG;rw[show ((q.toNat:Nat):Int)=q by omega,<-hq];omega
 ·rintro⟨k,hk,rfl⟩;obtain⟨h1,h2⟩:=abQ h hk;exact⟨h1,h2,by unfold lG;rw[show a.ah+(k:Int)*a.aj-a.ah=(k:Int)*a.aj by omega];exact xG ..⟩
def tc{a:aL}(h:NN a){k:Nat}(hk:k<cnt a):cC (lG a k):=YX (.inr h) ((iy h _).mpr ⟨k,hk,rfl⟩)
def oz{a:aL}(h:NN a){k:Nat}(hk:k<cnt a):G2 a (k:Int)=lG a k:=by
 have:=abQ h hk;have:=h.lo;have:=h.hi;unfold G2;unfold lG at*;rw[aM (n:=(k:Int)*a.aj),aM]
def sW(op:Int)(a b:aL)(y:Int):Prop:=∃x z,bT a x/\bT b z/\y=fR op x z
def pref(op:Int)(a b:aL)(i:Nat)(l:aa Int):Prop:=(∀y,y∈l↔∃k,k<i/\∃j,j<cnt b/\y=fR op (lG a k) (lG b j))/\zR l=i*cnt b/\∀y∈l,cC y
def aoI(op:Int)(a b:aL)(i j:Nat)(l:aa Int):Prop:=(∀y,y∈l↔(∃k,k<i/\∃m,m<cnt b/\y=fR op (lG a k) (lG b m))\/∃m,m<j/\y=fR op (lG a i) (lG b m))/\zR l=i*cnt b+j/\∀y∈l,cC y
def YQ{op:Int}{a b:aL}{i:Nat}{l:aa Int}(h:aoI op a b i (cnt b) l):pref op a b (i+1) l:=by
 refine⟨λy=>(h.1 y).trans ⟨?_,?_⟩,by rw[h.2.1,zX,yK],h.2.2⟩
 ·grind
 ·rintro⟨k,hk,m,hm,e⟩;rcases xo.mp hk with c|rfl
  ·exact .inl ⟨k,c,m,hm,e⟩
  ·exact .inr ⟨m,hm,e⟩
def abH{op:Int}{a b c:aL}(ho:binop op)(ha:NN a)(hb:NN b)(hs:cnt a*cnt b<=1000000){i:Nat}(hi:i<cnt a){l:aa Int}(hl:pref op a b i l):
  (∃l',uo (jL.mk op l i 0 a b c)=V (jL.mk op l' i (cnt b:Nat) a b c)/\pref op a b (i+1) l')\/
  (∃l' j,j<cnt b/\uo (jL.mk op l i 0 a b c)=V (jL.mk op l' i (j:Nat) a b c)/\¬cC (fR op (lG a i) (lG b j))):=by
 have hcb:cnt b<=1000000:=zH (Nat.le_mul_of_pos_left _ (iU ha)) hs;have hlen:(i+1)*cnt b<=1000000:=zH (ym _ hi) hs;rw[zX,yK]at hlen;obtain⟨j,l',e,hI,h⟩:=lM (rnd:=LQ) (cnt b) (λj (l:aa Int)=>jL.mk op l i (j:Nat) a b c) (λj l=>aoI op a b i j l) (λj l=>¬cC (fR op (lG a i) (lG b j)))
  (λj l hj hI=>by
   obtain⟨v,ev,hv⟩:=mM (tc ha hi) (tc hb hj) ho;unfold LQ;rw[eE (.inr hb),gD hb];simp only;rw[oo,cI,oz ha hi,oz hb hj,ev];simp only;by_cases hr:cC (fR op (lG a i) (lG b j))
   ·left;rw[bZ hr];rw[bI (by rw[zg,hI.2.1];simp;omega),jJ hj hcb,hv hr];refine⟨_,rfl,λy=> ?_,by rw[zg,hI.2.1];simp;omega,λy hy=> ?_⟩
    ·rw[zP,zq,hI.1 y];constructor
     ·rintro((h|⟨m,hm,h⟩)|rfl)
      ·simp_all
      ·exact .inr ⟨m,aq,h⟩
      ·exact .inr ⟨j,aq,rfl⟩
     ·rintro(h|⟨m,hm,h⟩)
      ·simp_all
      ·rcases xo.mp hm with c|rfl
       ·exact .inl (.inr ⟨m,c,h⟩)
       ·omega
    ·rcases zP.mp hy with hy|hy
     ·exact hI.2.2 y hy
     ·simp_all
   ·right;rw[bY hr];exact⟨rfl,hr⟩)
  (λl hI=>by
   unfold LQ;rw[eE (.inr hb),gD hb];simp only;rw[fK];rfl) (b:=l) ⟨λy=>(hl.1 y).trans ⟨.inl,λh=>h.elim id λ⟨m,hm,_⟩=>ei hm (y9 _)⟩,by rw[hl.2.1];rfl,hl.2.2⟩
 rcases h with rfl|⟨hj,h⟩
 ·exact .inl ⟨l',e,YQ hI⟩
 ·exact .inr ⟨l',j,hj,e,h⟩
def Dl{op:Int}{a b:aL}(ho:binop op)(ha:NN a)(hb:NN b)(hs:cnt a*cnt b<=1000000):
  ((∀y,sW op a b y->cC y)/\∃c,YR op a b=V (c,0)/\dz (sW op a b) c)\/((¬∀y,sW op a b y->cC y)/\YR op a b=V (aL.mk 0 0 0,3)):=by
 have hca:cnt a<=1000000:=zH (Nat.le_mul_of_pos_right _ (iU hb)) hs;unfold YR;obtain⟨i,l,e,hI,h⟩:=lM (rnd:=A8) (cnt a) (λi (l:aa Int)=>qL.mk op l (i:Nat) a b (aL.mk 0 0 0)) (λi l=>pref op a b i l) (λi l=>∃l' j,j<cnt b/\uo (jL.mk op l i 0 a b (aL.mk 0 0 0))=V (jL.mk op l' i (j:Nat) a b (aL.mk 0 0 0))/\¬cC (fR op (lG a i) (lG b j)))
  (λi l hi hI=>by
   unfold A8;rw[eE (.inr ha),gD ha];simp only;rw[oo,cI];rcases abH (c:=aL.mk 0 0 0) ho ha hb hs hi hI with ⟨l',e,h⟩|⟨l',j,hj,e,h⟩
   ·left;rw[e];simp only;rw[eE (.inr hb),gD hb];simp only;rw[fK,cw,jJ hi hca];exact⟨l',rfl,h⟩
   ·right;refine⟨?_,l',j,hj,e,h⟩;rw[e];simp only;rw[eE (.inr hb),gD hb];simp only;obtain⟨v,ev,hv⟩:=mM (tc ha hi) (tc hb hj) ho;rw[oo,cI,oz ha hi,oz hb hj,ev];rw[bY h];rfl)
  (λl hI=>by
   unfold A8;rw[eE (.inr ha),gD ha];simp only;rw[fK];rfl) (b:=[]) ⟨λy=>⟨λh=>ei h (by simp),λ⟨k,hk,_⟩=>ei hk (y9 _)⟩,by simp,λy hy=>ei hy (by simp)⟩
 have e:bJ A8 (qL.mk op [] 0 a b (aL.mk 0 0 0))=V (qL.mk op l (i:Nat) a b (aL.mk 0 0 0)):=e;rw[show KL=bJ A8 from rfl,e];simp only;rw[eE (.inr ha),gD ha];simp only;rcases h with rfl|⟨hi,l',j,hj,e1,h⟩
 ·left;have mem:∀y,y∈l↔sW op a b y:=λy=>(hI.1 y).trans ⟨λ⟨k,hk,m,hm,e⟩=>⟨_,_,(iy ha _).mpr ⟨k,hk,rfl⟩,(iy hb _).mpr ⟨m,hm,rfl⟩,e⟩,λ⟨x,z,hx,hz,e⟩=>by
   obtain⟨k,hk,rfl⟩:=(iy ha _).mp hx;obtain⟨m,hm,rfl⟩:=(iy hb _).mp hz;exact⟨k,hk,m,hm,e⟩⟩
  rw[fK,cw];have hne:l≠[]:=λe=>by
   have:=hI.2.1;have:=Nat.mul_pos (iU ha) (iU hb);simp_all
  obtain⟨c,e2,hc⟩:=I9 hne (by rw[hI.2.1];exact hs) hI.2.2;rw[e2];exact⟨λy hy=>hI.2.2 y ((mem y).mpr hy),c,rfl,hc.congr mem⟩
 ·right;refine⟨λk=>h (k _ ⟨_,_,(iy ha _).mpr ⟨i,hi,rfl⟩,(iy hb _).mpr ⟨j,hj,rfl⟩,rfl⟩),?_⟩;rw[oo,cI,e1];simp only;rw[eE (.inr hb),gD hb];simp only;obtain⟨v,ev,hv⟩:=mM (tc ha hi) (tc hb hj) ho;rw[oo,cI,oz ha hi,oz hb hj,ev];rw[bY h];rfl
def Vz{a:aL}(h:NN a)(hs:cnt a<=1000000):XG a=V ((zN (cnt a)).map (lG a)):=by
 unfold XG;rw[lD (.inr h),gD h];simp only;have e:bJ AH (qH.mk [] (cnt a:Nat) 0 a)=V (qH.mk ((zN (cnt a)).map (lG a)) (cnt a:Nat) (cnt a:Nat) a):=by
  obtain⟨l,e,hl⟩:=cH (rnd:=AH) (cnt a) (λi (l:aa Int)=>qH.mk l (cnt a:Nat) (i:Nat) a) (λi l=>l=(zN i).map (lG a))
   (λi l hi hl=>by
    subst hl;unfold AH;simp only;have:=oz h hi;unfold G2 at this;rw[oo,cI,this,bI (by simp;omega),jJ hi hs];exact⟨_,rfl,by rw[List.range_succ,zK];rfl⟩)
   (λl hl=>by
    unfold AH;simp only;rw[fK];rfl) (b:=[]) rfl
  simp_all
 rw[show Jn=bJ AH from rfl,e];simp
def rK(a:aL):zR ((zN (cnt a)).map (lG a))=cnt a:=by simp
def M8(a:aL){k:Nat}(h:k<cnt a):((zN (cnt a)).map (lG a))[k]! =lG a k:=by
 rw[getElem!_pos _ k (by rw[rK];exact h),yL,List.getElem_range]
def N2(op:Int):Prop:=op=11\/op=12\/op=21\/op=22
def UP{op x y:Int}(hx:cC x)(hy:cC y)(ho:N2 op):cC (fR op x y):=by
 rcases ho with rfl|rfl|rfl|rfl
 ·exact(TG hx).1
 ·show cC (if y=0 then 0 else x-y*oR x y);by_cases h0:y=0
  ·simp_all
  ·rw[bO h0];exact(Tf hy h0).1
 ·show cC (min x y);grind
 ·show cC (max x y);grind
def aaT(op:Int)(a b:aL)(i j:Nat)(y:Int):Prop:=(∃k,k<i/\∃m,m<cnt b/\y=fR op (lG a k) (lG b m))\/∃m,m<j/\y=fR op (lG a i) (lG b m)
def abR{op:Int}{a b c:aL}(ho:N2 op)(ha:NN a)(hb:NN b)(hs:cnt b<=1000000){i:Nat}(hi:i<cnt a){o:aL}{l:aa Int}{n t:Int}(hr:mV (aaT op a b i 0) o)(hv:NV o):
  ∃o',FH (o4.mk op (lG a i) l n t ((zN (cnt b)).map (lG b)) (cnt b:Nat) 0 b c o)=V (o4.mk op (lG a i) l n t ((zN (cnt b)).map (lG b)) (cnt b:Nat) (cnt b:Nat) b c o')/\mV (aaT op a b (i+1) 0) o'/\NV o':=by
 obtain⟨o',e,hI,hv'⟩:=cH (rnd:=L1) (cnt b) (λj (o:aL)=>o4.mk op (lG a i) l n t ((zN (cnt b)).map (lG b)) (cnt b:Nat) (j:Nat) b c o) (λj o=>mV (aaT op a b i j) o/\NV o)
  (λj o hj hI=>by
   have hR:=UP (tc ha hi) (tc hb hj) ho;unfold L1;simp only;rw[oo,cI,rK,gW,zi,bI ⟨trivial,hj⟩,M8 b hj,aiz (tc ha hi) (tc hb hj) ho];simp only;rw[ki hI.2 (.inr (show NN (iz (fR op (lG a i) (lG b j)))from NN.one hR.1 hR.2)),jJ hj hs];refine⟨_,rfl,(hI.1.join (Ka _) hI.2 (rH hR)).congr λy=> ?_,fe hI.2 (rH hR)⟩;constructor
   ·rintro((h|⟨m,hm,h⟩)|rfl)
    ·exact .inl h
    ·exact .inr ⟨m,aq,h⟩
    ·exact .inr ⟨j,aq,rfl⟩
   ·rintro(h|⟨m,hm,h⟩)
    ·exact .inl (.inl h)
    ·rcases xo.mp hm with c|rfl
     ·exact .inl (.inr ⟨m,c,h⟩)
     ·exact .inr h)
  (λo hI=>by
   unfold L1;simp only;rw[fK];rfl) (b:=o) ⟨hr,hv⟩
 refine⟨o',e,hI.congr λy=> ?_,hv'⟩;constructor
 ·rintro(⟨k,hk,h⟩|⟨m,hm,h⟩)
  ·exact .inl ⟨k,aq,h⟩
  ·exact .inl ⟨i,aq,m,hm,h⟩
 ·rintro(⟨k,hk,h⟩|⟨m,hm,_⟩)
  ·rcases xo.mp hk with c|rfl
   ·exact .inl ⟨k,c,h⟩
   ·obtain⟨m,hm,h⟩:=h;exact .inr ⟨m,hm,h⟩
  ·omega
def RA{op:Int}{a b:aL}(ho:N2 op)(ha:NN a)(hb:NN b)(hs:cnt a*cnt b<=4096):∃c,vI op a b=V c/\dz (sW op a b) c:=by
 have hca:cnt a<=4096:=zH (Nat.le_mul_of_pos_right _ (iU hb)) hs;have hcb:cnt b<=4096:=zH (Nat.le_mul_of_pos_left _ (iU ha)) hs;unfold vI;rw[lD (.inr ha),lD (.inr hb),gD ha,gD hb];simp only;rw[bY (show ¬(4096:Int)<((cnt a:Nat):Int)by omega),bY (show ¬(4096:Int)<((cnt b:Nat):Int)by omega),cw,cw,aM,fK,cw,Vz ha aq];simp only;rw[rK];obtain⟨o,e,hI,hv⟩:=cH (rnd:=BY) (cnt a) (λi (o:aL)=>p8.mk op ((zN (cnt a)).map (lG a)) (cnt a:Nat) (i:Nat) b (aL.mk 0 0 0) o) (λi o=>mV (aaT op a b i 0) o/\NV o)
  (λi o hi hI=>by
   unfold BY;simp only;rw[oo,cI,rK,gW,zi,bI ⟨trivial,hi⟩,M8 a hi,Vz hb aq];simp only;rw[rK];obtain⟨o',e,h1,h2⟩:=abR (c:=aL.mk 0 0 0) (l:=(zN (cnt a)).map (lG a)) (n:=(cnt a:Nat)) (t:=(i:Nat)) ho ha hb aq hi hI.1 hI.2;rw[e];simp only;rw[fK,cw,jJ hi aq];exact⟨o',rfl,h1,h2⟩)
  (λo hI=>by
   unfold BY;simp only;rw[fK];rfl) (b:=cM) ⟨.none λy h=>by
    rcases h with ⟨k,hk,_⟩|⟨m,hm,_⟩
    ·omega
    ·exact ei hm (y9 _), .inl rfl⟩
 have e:bJ BY (p8.mk op ((zN (cnt a)).map (lG a)) (cnt a:Nat) 0 b (aL.mk 0 0 0) jA)=V (p8.mk op ((zN (cnt a)).map (lG a)) (cnt a:Nat) (cnt a:Nat) b (aL.mk 0 0 0) o):=e;rw[show LS=bJ BY from rfl,e];simp only;rw[fK,cw];refine⟨o,rfl,?_⟩;have mem:∀y,aaT op a b (cnt a) 0 y↔sW op a b y:=λy=>⟨λh=>by
  rcases h with ⟨k,hk,m,hm,e⟩|⟨m,hm,_⟩
  ·exact⟨_,_,(iy ha _).mpr ⟨k,hk,rfl⟩,(iy hb _).mpr ⟨m,hm,rfl⟩,e⟩
  ·exact ei hm (y9 _),λ⟨x,z,hx,hz,e⟩=>by
  obtain⟨k,hk,rfl⟩:=(iy ha _).mp hx;obtain⟨m,hm,rfl⟩:=(iy hb _).mp hz;exact .inl ⟨k,hk,m,hm,e⟩⟩
 rcases hI.congr mem with ⟨_,k⟩|k
 ·exact ei ⟨_,_,(iy ha _).mpr ⟨0,iU ha,rfl⟩,(iy hb _).mpr ⟨0,iU hb,rfl⟩,rfl⟩ (k (fR op (lG a 0) (lG b 0)))
 ·exact k
def abS{op:Int}{a b:aL}(ha:NN a)(hb:NN b)(hs:¬cnt a*cnt b<=4096):vI op a b=YU op a b:=by
 unfold vI;rw[lD (.inr ha),lD (.inr hb),gD ha,gD hb];simp only;by_cases c1:(4096:Int)<((cnt a:Nat):Int)
 ·rw[bZ c1,cI];grind
 ·rw[bY c1,cw];by_cases c2:(4096:Int)<((cnt b:Nat):Int)
  ·rw[bZ c2,cI];grind
  ·have hb':((cnt a:Nat):Int)*((cnt b:Nat):Int)<=4096*4096:=y4 aq aq aq aq;have hp:(4096:Int)<((cnt a:Nat):Int)*((cnt b:Nat):Int):=by rw[<-wG];omega
   rw[bY c2,cw,aM,bZ hp,cI];grind
instance (op:Int):Decidable (binop op):=inferInstanceAs (Decidable (_/\_))
def j6(op:Int):CK op=J (binop op):=by
 unfold CK;by_cases h:binop op
 ·obtain⟨o1,o2⟩:=h;have cases15:op=8\/op=9\/op=10\/op=11\/op=12\/op=13\/op=14\/op=15\/op=16\/op=17\/op=18\/op=19\/op=20\/op=21\/op=22:=aq;rcases cases15 with rfl|rfl|rfl|rfl|rfl|rfl|rfl|rfl|rfl|rfl|rfl|rfl|rfl|rfl|rfl<;>rfl
 ·have k:∀n:Int,8<=n->n<=22->¬op=n:=λn h1 h2 e=>h (by unfold binop;omega);rw[show J (binop op)=G from bY h];rw[bY (k 8 (by decide) (by decide)),bY (k 9 (by decide) (by decide)),bY (k 10 (by decide) (by decide)),bY (k 11 (by decide) (by decide)),bY (k 12 (by decide) (by decide)),
   bY (k 13 (by decide) (by decide)),bY (k 14 (by decide) (by decide)),bY (k 15 (by decide) (by decide)),bY (k 16 (by decide) (by decide)),bY (k 17 (by decide) (by decide)),
   bY (k 18 (by decide) (by decide)),bY (k 19 (by decide) (by decide)),bY (k 20 (by decide) (by decide)),bY (k 21 (by decide) (by decide)),bY (k 22 (by decide) (by decide))]
  rfl
def Io{a b:aL}(hb:NN b):((cnt a:Nat):Int)<=(4096:Int)/((cnt b:Nat):Int)↔cnt a*cnt b<=4096:=by
 have:=iU hb;rw[Int.le_ediv_iff_mul_le aq,<-wG];omega
def oO{op:Int}{a b:aL}(ho:binop op)(ha:NN a)(hb:NN b)(hs:cnt a*cnt b<=4096):oI op a b=YR op a b:=by
 have:=iU hb;unfold oI;rw[gj,gj,dZ (.inr ha),dZ (.inr hb),show GY op=CK op from rfl,j6,bZ ho];rw[gZ ha,gZ hb,eE (.inr ha),eE (.inr hb),gD ha,gD hb];simp only;have q0:0<=(4096:Int)/((cnt b:Nat):Int):=zS aq aq;have q1:(4096:Int)/((cnt b:Nat):Int)<=4096:=yo _ aq;rw[bI (show ¬@Eq Int ((cnt b:Nat):Int) 0 by omega),kF,aM,bZ ((Io hb).mpr hs),cI];grind
def aei(a0:Int)(a1 a2:aL):af (aL×Int):=
 bif J (a0=8)then uX a0 a1 a2 else bif J (a0=9)then uX a0 a1 a2 else bif J (a0=10)then uX a0 a1 a2 else bif J (a0=11)then
  (bif(J (0<=a1.ah)&&J (0<=a2.ah))then jB 0 (max a1.ah.natAbs a1.ag.natAbs:Nat) 1 else jB (-((max a1.ah.natAbs a1.ag.natAbs:Nat):Int)) (max a1.ah.natAbs a1.ag.natAbs:Nat) 1)
 else bif J (a0=12)then jB (if a2.ah<0 then a2.ah+1 else 0) (if 0<a2.ag then a2.ag-1 else 0) 1
 else bif J (a0=21)then(match m41 (cG a1 a2) (min a1.ag a2.ag)with|I=>I|V c=>V (c,0))
 else bif J (a0=22)then(match ZM (cG a1 a2) (max a1.ah a2.ah-1)with|I=>I|V c=>V (c,0))
 else(match abJ a0 a1 a2 with|I=>I|V c=>V (c,0))
def AB{op:Int}{a b:aL}(ho:binop op)(ha:NN a)(hb:NN b)(hs:¬cnt a*cnt b<=4096):oI op a b=aei op a b:=by
 have:=iU hb;have r1:=ha.tu;have r2:=ha.Cn;have r3:=hb.tu;have r4:=hb.Cn;obtain⟨a1,a2⟩:=r1;obtain⟨a3,a4⟩:=r2;obtain⟨b1,b2⟩:=r3;obtain⟨b3,b4⟩:=r4;unfold oI aei;rw[gj,gj,dZ (.inr ha),dZ (.inr hb),show GY op=CK op from rfl,j6,bZ ho];simp only;rw[gZ ha,gZ hb,eE (.inr ha),eE (.inr hb),gD ha,gD hb];simp only;have q0:0<=(4096:Int)/((cnt b:Nat):Int):=zS aq aq;have q1:(4096:Int)/((cnt b:Nat):Int)<=4096:=yo _ aq;rw[bI (show ¬@Eq Int ((cnt b:Nat):Int) 0 by omega),kF,aM (n:=(4096:Int)/((cnt b:Nat):Int)),bY (λk=>hs ((Io hb).mp k)),cw];have cases15:op=8\/op=9\/op=10\/op=11\/op=12\/op=13\/op=14\/op=15\/op=16\/op=17\/op=18\/op=19\/op=20\/op=21\/op=22:=by
  obtain⟨o1,o2⟩:=ho;omega
 have ez:(bif J (0<=a.ah)then some (J (0<=b.ah))else some false)=some (J (0<=a.ah)&&J (0<=b.ah)):=by cases J (0<=a.ah)<;>rfl
 rcases cases15 with rfl|rfl|rfl|rfl|rfl|rfl|rfl|rfl|rfl|rfl|rfl|rfl|rfl|rfl|rfl
 all_goals simp only[Int.reduceEq,CZ,cw]
 ·cases uX 8 a b<;>rfl
 ·cases uX 9 a b<;>rfl
 ·cases uX 10 a b<;>rfl
 ·rw[uK ha.tu,uK ha.Cn,ez];by_cases c:((a.ah.natAbs:Nat):Int)<((a.ag.natAbs:Nat):Int)
  ·rw[bZ c,cI,aM,xW,Nat.max_eq_right aq];cases (J (0<=a.ah)&&J (0<=b.ah))with
   |true=>(simp only;generalize jB _ _ _=z;cases z<;>rfl)
   |false=>(simp only[cw];generalize jB _ _ _=z;cases z<;>rfl)
  ·rw[bY c,cw,aM,xW,Nat.max_eq_left aq];cases (J (0<=a.ah)&&J (0<=b.ah))with
   |true=>(simp only;generalize jB _ _ _=z;cases z<;>rfl)
   |false=>(simp only[cT];generalize jB _ _ _=z;cases z<;>rfl)
 ·rw[aM (n:=b.ah+1),aM (n:=b.ag-1)];by_cases c:b.ah<0<;>by_cases d:0<b.ag
  ·rw[bZ c,bZ d,bI c,bI d];(simp only[cT];generalize jB _ _ _=z;cases z<;>rfl)
  ·rw[bZ c,bY d,bI c,bO d];(simp only[cT];generalize jB _ _ _=z;cases z<;>rfl)
  ·rw[bY c,bZ d,bO c,bI d];(simp only[cT];generalize jB _ _ _=z;cases z<;>rfl)
  ·rw[bY c,bY d,bO c,bO d];(simp only[cT];generalize jB _ _ _=z;cases z<;>rfl)
 ·rfl
 ·rfl
 ·rfl
 ·rfl
 ·rfl
 ·rfl
 ·rfl
 ·rfl
 ·obtain⟨v,ev,hv⟩:=mM (op:=21) ha.Cn hb.Cn ⟨by decide,by decide⟩;have hv:v=min a.ag b.ag:=hv (UP ha.Cn hb.Cn (.inr (.inr (.inl rfl))));rw[ev,gB (.inr ha) (.inr hb)];simp only;rw[hv];cases m41 (cG a b) (min a.ag b.ag)<;>rfl
 ·obtain⟨v,ev,hv⟩:=mM (op:=22) ha.tu hb.tu ⟨by decide,by decide⟩;have hv:v=max a.ah b.ah:=hv (UP ha.tu hb.tu (.inr (.inr (.inr rfl))));rw[ev,gB (.inr ha) (.inr hb)];simp only;rw[hv,aM];cases ZM (cG a b) (max a.ah b.ah-1)<;>rfl
def acZ{op:Int}{a b:aL}(ho:N2 op)(ha:NN a)(hb:NN b):∃c,vI op a b=V c/\oI op a b=V (c,0)/\NV c:=by
 have hbin:binop op:=by unfold binop;rcases ho with rfl|rfl|rfl|rfl<;>decide
 have r1:=ha.tu;have r2:=ha.Cn;have r3:=hb.tu;have r4:=hb.Cn;by_cases hs:cnt a*cnt b<=4096
 ·obtain⟨c,e1,h1⟩:=RA ho ha hb hs;have hR:∀y,sW op a b y->cC y:=λy ⟨x,z,hx,hz,e⟩=>by rw[e];exact UP (YX (.inr ha) hx) (YX (.inr hb) hz) ho
  rw[oO hbin ha hb hs];rcases Dl hbin ha hb aq with ⟨_,d,e2,h2⟩|⟨k,_⟩
  ·rw[h2.uniq h1]at e2;exact⟨c,e1,e2, .inr (h1.valid hR)⟩
  ·simp_all
 ·rw[abS ha hb hs,AB hbin ha hb hs];obtain⟨a1,a2⟩:=r1;obtain⟨a3,a4⟩:=r2;obtain⟨b1,b2⟩:=r3;obtain⟨b3,b4⟩:=r4;unfold YU aei;rcases ho with rfl|rfl|rfl|rfl
  all_goals simp only[Int.reduceEq,CZ,cw]
  ·rw[nG ha.tu,nG ha.Cn];have em:(if((a.ah.natAbs:Nat):Int)<((a.ag.natAbs:Nat):Int)then((a.ag.natAbs:Nat):Int)else((a.ah.natAbs:Nat):Int))=((max a.ah.natAbs a.ag.natAbs:Nat):Int):=by split<;>omega
   rw[em];have ez:(bif J (0<=a.ah)then some (J (0<=b.ah))else some false)=some (J (0<=a.ah)&&J (0<=b.ah)):=by cases J (0<=a.ah)<;>rfl
   rw[ez];simp only;have hm:((max a.ah.natAbs a.ag.natAbs:Nat):Int)<=1099511627776:=aq;generalize max a.ah.natAbs a.ag.natAbs=m at*;rw[aM,xW,oT aq aq aq,oT aq aq aq,mJ ⟨aq,aq⟩ ⟨aq,aq⟩ aq,mJ ⟨aq,aq⟩ ⟨aq,aq⟩ aq];cases (J (0<=a.ah)&&J (0<=b.ah))with
   |true=>exact⟨_,rfl,rfl, .inr (mO aq aq aq aq)⟩
   |false=>exact⟨_,rfl,rfl, .inr (mO aq aq aq aq)⟩
  ·rw[aM (n:=b.ah+1),aM (n:=b.ag-1)];rw[show (if 0<b.ah+1 then 0 else b.ah+1)=(if b.ah<0 then b.ah+1 else 0)by split<;>split<;>omega,show (if b.ag-1<0 then 0 else b.ag-1)=(if 0<b.ag then b.ag-1 else 0)by split<;>split<;>omega];rw[oT aq aq aq,mJ ⟨aq,aq⟩ ⟨aq,aq⟩ aq];exact⟨_,rfl,rfl, .inr (mO aq aq aq aq)⟩
  ·rw[ki (.inr ha) (.inr hb)];simp only;rw[show (if b.ag<a.ag then b.ag else a.ag)=min a.ag b.ag by split<;>omega];have vj:=fe (.inr ha) (.inr hb);obtain⟨l,u,e1,h1,_⟩:=Ai vj (min a.ag b.ag);obtain⟨l',e2,h2⟩:=K7 vj (min a.ag b.ag);rw[e1,e2,h2.rep.uniq h1.rep];exact⟨l,rfl,rfl,h1.1⟩
  ·rw[ki (.inr ha) (.inr hb)];simp only;rw[show (if a.ah<b.ah then b.ah else a.ah)=max a.ah b.ah by split<;>omega,aM];have vj:=fe (.inr ha) (.inr hb);obtain⟨l,u,e1,_,h1⟩:=Ai vj (max a.ah b.ah-1);obtain⟨u',e2,h2⟩:=Bl vj (max a.ah b.ah-1);rw[e1,e2,h2.rep.uniq h1.rep];exact⟨u,rfl,rfl,h1.1⟩
def ssc(a b c:Int):a-c-(b-c)=a-b:=aq
def dx{a:aL}(h:NN a):bT a a.ah:=⟨zw _,h.le,⟨0,aq⟩⟩
def gC{a:aL}(h:NN a):bT a a.ag:=⟨h.le,zw _,h.dvd⟩
def UK{a:aL}(h:NN a):bT a (a.ah+a.aj):=⟨by have:=h.s0;omega,by have:=h.sle;omega,⟨1,aq⟩⟩
def NB(a:aL)(x:Int):Prop:=x=a.ah\/x=a.ah+a.aj\/x=a.ag
def qh{a:aL}(h:NN a){x:Int}(hx:NB a x):bT a x:=by
 rcases hx with rfl|rfl|rfl
 ·exact dx h
 ·exact UK h
 ·exact gC h
structure Mid (op:Int) (a b:aL) (Q:Int->Prop):Prop where
 c:∀x z,NB a x->NB b z->Q (fR op x z)
 v:∀y,Q y->sW op a b y
def Ea(op:Int)(a b:aL)(y:Int):Prop:=∃x z,NB a x/\NB b z/\y=fR op x z
def an9{op:Int}{a b:aL}(ha:NN a)(hb:NN b):Mid op a b (sW op a b):=⟨λx z hx hz=>⟨x,z,qh ha hx,qh hb hz,rfl⟩,λ_ h=>h⟩
def anW{op:Int}{a b:aL}(ha:NN a)(hb:NN b):Mid op a b (Ea op a b):=⟨λx z hx hz=>⟨x,z,hx,hz,rfl⟩,λ_ ⟨x,z,hx,hz,e⟩=>⟨x,z,qh ha hx,qh hb hz,e⟩⟩
def M0{a b:aL}(ha:NN a)(hb:NN b){Q:Int->Prop}(h:Mid 8 a b Q):dz Q (aL.mk (a.ah+b.ah) (a.ag+b.ag) (cA a.aj b.aj)):=by
 refine⟨h.c a.ah b.ah (.inl rfl) (.inl rfl),h.c a.ag b.ag (.inr (.inr rfl)) (.inr (.inr rfl)),λy hy=> ?_,lQ _ _,λd hd=>jt ?_ ?_⟩
 ·obtain⟨x,z,⟨x1,x2,x3⟩,⟨z1,z2,z3⟩,rfl⟩:=h.v y hy;show a.ah+b.ah<=x+z/\x+z<=a.ag+b.ag/\cA a.aj b.aj∣x+z-(a.ah+b.ah);have:=y5 (zY (ko a.aj b.aj) x3) (zY (qR a.aj b.aj) z3);grind
 ·have:=hd _ (h.c (a.ah+a.aj) b.ah (.inr (.inl rfl)) (.inl rfl));have this:d∣a.ah+a.aj+b.ah-(a.ah+b.ah):=this
  rwa [show a.ah+a.aj+b.ah-(a.ah+b.ah)=a.aj by omega]at this
 ·have:=hd _ (h.c a.ah (b.ah+b.aj) (.inl rfl) (.inr (.inl rfl)));have this:d∣a.ah+(b.ah+b.aj)-(a.ah+b.ah):=this
  rwa [show a.ah+(b.ah+b.aj)-(a.ah+b.ah)=b.aj by omega]at this
def MT{a b:aL}(ha:NN a)(hb:NN b){Q:Int->Prop}(h:Mid 9 a b Q):dz Q (aL.mk (a.ah-b.ag) (a.ag-b.ah) (cA a.aj b.aj)):=by
 refine⟨h.c a.ah b.ag (.inl rfl) (.inr (.inr rfl)),h.c a.ag b.ah (.inr (.inr rfl)) (.inl rfl),λy hy=> ?_,lQ _ _,λd hd=>jt ?_ ?_⟩
 ·obtain⟨x,z,⟨x1,x2,x3⟩,⟨z1,z2,z3⟩,rfl⟩:=h.v y hy;show a.ah-b.ag<=x-z/\x-z<=a.ag-b.ah/\cA a.aj b.aj∣x-z-(a.ah-b.ag);have k:=yA hb.dvd z3;have:=y5 (zY (ko a.aj b.aj) x3) (zY (qR a.aj b.aj) k);grind
 ·have:=hd _ (h.c (a.ah+a.aj) b.ag (.inr (.inl rfl)) (.inr (.inr rfl)));have this:d∣a.ah+a.aj-b.ag-(a.ah-b.ag):=this
  rwa [show a.ah+a.aj-b.ag-(a.ah-b.ag)=a.aj by omega]at this
 ·have k1:=hd _ (h.c a.ah b.ah (.inl rfl) (.inl rfl));have k2:=hd _ (h.c a.ah (b.ah+b.aj) (.inl rfl) (.inr (.inl rfl)));have k1:d∣a.ah-b.ah-(a.ah-b.ag):=k1;have k2:d∣a.ah-(b.ah+b.aj)-(a.ah-b.ag):=k2;have:=yA k1 k2
  rwa [show a.ah-b.ah-(a.ah-b.ag)-(a.ah-(b.ah+b.aj)-(a.ah-b.ag))=b.aj by omega]at this
def TT{l h x z:Int}(h1:l<=x)(h2:x<=h):min (l*z) (h*z)<=x*z/\x*z<=max (l*z) (h*z):=by
 rcases Int.le_total 0 z with c|c
 ·have k1:=zM h1 c;have k2:=zM h2 c;omega
 ·have k1:=Int.mul_le_mul_of_nonpos_right h1 c;have k2:=Int.mul_le_mul_of_nonpos_right h2 c;omega
def Zy(p q r s:Int):Int:=min (min p q) (min r s)
def hi4(p q r s:Int):Int:=max (max p q) (max r s)
def Xh{a b:aL}{x z:Int}(hx:a.ah<=x/\x<=a.ag)(hz:b.ah<=z/\z<=b.ag):
  Zy (a.ah*b.ah) (a.ah*b.ag) (a.ag*b.ah) (a.ag*b.ag)<=x*z/\x*z<=hi4 (a.ah*b.ah) (a.ah*b.ag) (a.ag*b.ah) (a.ag*b.ag):=by
 have k1:=TT (z:=x) hz.1 hz.2;have k2:=TT (z:=b.ah) hx.1 hx.2;have k3:=TT (z:=b.ag) hx.1 hx.2;rw[zO b.ah x,zO b.ag x,zO z x]at k1;unfold Zy hi4;omega
def ap4{P:Int->Prop}{p q r s:Int}(h1:P p)(h2:P q)(h3:P r)(h4:P s):P (Zy p q r s)/\P (hi4 p q r s):=by
 have e1:Zy p q r s=p\/Zy p q r s=q\/Zy p q r s=r\/Zy p q r s=s:=by unfold Zy;omega
 have e2:hi4 p q r s=p\/hi4 p q r s=q\/hi4 p q r s=r\/hi4 p q r s=s:=by unfold hi4;omega
 grind
def aqi(a b:aL):aL:=aL.mk (Zy (a.ah*b.ah) (a.ah*b.ag) (a.ag*b.ah) (a.ag*b.ag)) (hi4 (a.ah*b.ah) (a.ah*b.ag) (a.ag*b.ah) (a.ag*b.ag)) (cA (cA (a.aj*b.ah) (b.aj*a.ah)) (a.aj*b.aj))
def PD{a b:aL}(ha:NN a)(hb:NN b){Q:Int->Prop}(h:Mid 10 a b Q):dz Q (aqi a b):=by
 have h00:Q (a.ah*b.ah):=h.c a.ah b.ah (.inl rfl) (.inl rfl);have h01:Q (a.ah*b.ag):=h.c a.ah b.ag (.inl rfl) (.inr (.inr rfl));have h10:Q (a.ag*b.ah):=h.c a.ag b.ah (.inr (.inr rfl)) (.inl rfl);have h11:Q (a.ag*b.ag):=h.c a.ag b.ag (.inr (.inr rfl)) (.inr (.inr rfl));obtain⟨q1,q2⟩:=ap4 (P:=Q) h00 h01 h10 h11;have g1:cA (cA (a.aj*b.ah) (b.aj*a.ah)) (a.aj*b.aj)∣a.aj*b.ah:=zY (ko _ _) (ko _ _);have g2:cA (cA (a.aj*b.ah) (b.aj*a.ah)) (a.aj*b.aj)∣b.aj*a.ah:=zY (ko _ _) (qR _ _);have g3:cA (cA (a.aj*b.ah) (b.aj*a.ah)) (a.aj*b.aj)∣a.aj*b.aj:=qR _ _;have base:∀y,Q y->cA (cA (a.aj*b.ah) (b.aj*a.ah)) (a.aj*b.aj)∣y-a.ah*b.ah:=λy hy=>by
  obtain⟨x,z,⟨_,_,i,x3⟩,⟨_,_,j,z3⟩,rfl⟩:=h.v y hy;show _∣x*z-a.ah*b.ah;have e:x*z-a.ah*b.ah=i*(a.aj*b.ah)+j*(b.aj*a.ah)+i*j*(a.aj*b.aj):=by
   grind
  rw[e];exact y5 (y5 (zY g1 (xG ..)) (zY g2 (xG ..))) (zY g3 (xG ..))
 refine⟨q1,q2,λy hy=> ?_,lQ _ _,λd hd=> ?_⟩
 ·obtain⟨x,z,hx,hz,e⟩:=h.v y hy;have k:=Xh ⟨hx.1,hx.2.1⟩ ⟨hz.1,hz.2.1⟩;refine⟨by rw[e];exact k.1,by rw[e];exact k.2,?_⟩;have:=yA (base y hy) (base _ q1)
  rwa [ssc]at this
 ·have diff:∀y y',Q y->Q y'->d∣y-y':=λy y' hy hy'=>by
   have:=yA (hd y hy) (hd y' hy');grind
  have p10:Q ((a.ah+a.aj)*b.ah):=h.c _ _ (.inr (.inl rfl)) (.inl rfl);have p01:Q (a.ah*(b.ah+b.aj)):=h.c _ _ (.inl rfl) (.inr (.inl rfl));have p11:Q ((a.ah+a.aj)*(b.ah+b.aj)):=h.c _ _ (.inr (.inl rfl)) (.inr (.inl rfl));have d1:=diff _ _ p10 h00;rw[zU,Int.add_comm (a.ah*b.ah),Int.add_sub_cancel]at d1;have d2:=diff _ _ p01 h00;rw[xF,Int.add_comm (a.ah*b.ah),Int.add_sub_cancel,zO]at d2;have d3:=yA (diff _ _ p11 p10) d2;rw[xF (a.ah+a.aj),Int.add_comm ((a.ah+a.aj)*b.ah),Int.add_sub_cancel,zU,zO b.aj a.ah,Int.add_comm (a.ah*b.aj),Int.add_sub_cancel]at d3;exact jt (jt d1 d2) d3
def gP(a:aL):aa Int:=[a.ah,a.ah+a.aj,a.ag]
def oV(a:aL)(x:Int):NB a x↔∃k,k<3/\x=(gP a)[k]! :=by
 constructor
 ·rintro(rfl|rfl|rfl)
  ·exact⟨0,aq,rfl⟩
  ·exact⟨1,aq,rfl⟩
  ·exact⟨2,aq,rfl⟩
 ·rintro⟨k,hk,rfl⟩;rcases (show k=0\/k=1\/k=2 by omega)with rfl|rfl|rfl
  ·exact .inl rfl
  ·exact .inr (.inl rfl)
  ·exact .inr (.inr rfl)
def G9{a:aL}(h:NN a){k:Nat}(hk:k<3):cC (gP a)[k]! :=YX (.inr h) (qh h ((oV a _).mpr ⟨k,hk,rfl⟩))
def prC(op:Int)(a b:aL)(i j:Nat)(l:aa Int):Prop:=(∀y,y∈l↔(∃k,k<i/\∃m,m<3/\y=fR op (gP a)[k]! (gP b)[m]!)\/∃m,m<j/\y=fR op (gP a)[i]! (gP b)[m]!)/\zR l=i*3+j/\∀y∈l,cC y
def alW{op:Int}{a b:aL}{i:Nat}{l:aa Int}(h:prC op a b i 3 l):prC op a b (i+1) 0 l:=by
 refine⟨λy=>(h.1 y).trans ⟨?_,?_⟩,by rw[h.2.1];omega,h.2.2⟩
 ·rintro(⟨k,hk,m,hm,e⟩|⟨m,hm,e⟩)
  ·exact .inl ⟨k,aq,m,hm,e⟩
  ·exact .inl ⟨i,aq,m,hm,e⟩
 ·rintro(⟨k,hk,m,hm,e⟩|⟨m,hm,e⟩)
  ·rcases xo.mp hk with c|rfl
   ·exact .inl ⟨k,c,m,hm,e⟩
   ·exact .inr ⟨m,hm,e⟩
  ·omega
def adV{op:Int}{a b c:aL}(ho:binop op)(ha:NN a)(hb:NN b){i:Nat}(hi:i<3){l:aa Int}(hl:prC op a b i 0 l):
  (∃l',uw (jZ.mk op l (gP a) (gP b) i 0 c)=V (jZ.mk op l' (gP a) (gP b) i 3 c)/\prC op a b (i+1) 0 l')\/
  (∃l' j,j<3/\uw (jZ.mk op l (gP a) (gP b) i 0 c)=V (jZ.mk op l' (gP a) (gP b) i (j:Nat) c)/\¬cC (fR op (gP a)[i]! (gP b)[j]!)):=by
 have ll:∀a:aL,zR (gP a)=3:=λ_=>rfl;obtain⟨j,l',e,hI,h⟩:=lM (rnd:=T4) 3 (λj (l:aa Int)=>jZ.mk op l (gP a) (gP b) i (j:Nat) c) (λj l=>prC op a b i j l) (λj l=>¬cC (fR op (gP a)[i]! (gP b)[j]!))
  (λj l hj hI=>by
   obtain⟨v,ev,hv⟩:=mM (G9 ha hi) (G9 hb hj) ho;unfold T4;simp only;rw[oo,cI,ll,ll,gW,zi,bI ⟨trivial,hi⟩,gW,zi,bI ⟨trivial,hj⟩,ev];simp only;by_cases hr:cC (fR op (gP a)[i]! (gP b)[j]!)
   ·left;rw[bZ hr];rw[bI (by rw[zg,hI.2.1];simp;omega),jJ hj aq,hv hr];refine⟨_,rfl,λy=> ?_,by rw[zg,hI.2.1];simp;omega,λy hy=> ?_⟩
    ·rw[zP,zq,hI.1 y];constructor
     ·rintro((h|⟨m,hm,h⟩)|rfl)
      ·exact .inl h
      ·exact .inr ⟨m,aq,h⟩
      ·exact .inr ⟨j,aq,rfl⟩
     ·rintro(h|⟨m,hm,h⟩)
      ·exact .inl (.inl h)
      ·rcases xo.mp hm with c|rfl
       ·exact .inl (.inr ⟨m,c,h⟩)
       ·omega
    ·rcases zP.mp hy with hy|hy
     ·exact hI.2.2 y hy
     ·simp_all
   ·right;rw[bY hr];exact⟨rfl,hr⟩)
  (λl hI=>by
   rfl) (b:=l) hl
 rcases h with rfl|⟨hj,h⟩
 ·exact .inl ⟨l',e,alW hI⟩
 ·exact .inr ⟨l',j,hj,e,h⟩
def ak5{op:Int}{a b:aL}(ho:binop op)(ha:NN a)(hb:NN b):
  ((∀y,Ea op a b y->cC y)/\∃c,uX op a b=V (c,0)/\dz (Ea op a b) c)\/((¬∀y,Ea op a b y->cC y)/\uX op a b=V (aL.mk 0 0 0,3)):=by
 have ll:∀a:aL,zR (gP a)=3:=λ_=>rfl;have wc:∀{a:aL},NN a->[a.ah,ak (a.ah+a.aj),a.ag]=gP a:=λ{a} h=>by
  have:=YX (.inr h) (UK h);rw[aM (by have:=this.1;omega) (by have:=this.2;omega)];rfl
 unfold uX;rw[wc ha,wc hb];obtain⟨i,l,e,hI,h⟩:=lM (rnd:=FN) 3 (λi (l:aa Int)=>qO.mk op l (gP a) (gP b) (i:Nat) (aL.mk 0 0 0)) (λi l=>prC op a b i 0 l) (λi l=>∃l' j,j<3/\uw (jZ.mk op l (gP a) (gP b) i 0 (aL.mk 0 0 0))=V (jZ.mk op l' (gP a) (gP b) i (j:Nat) (aL.mk 0 0 0))/\¬cC (fR op (gP a)[i]! (gP b)[j]!))
  (λi l hi hI=>by
   unfold FN;simp only;rw[oo,cI];rcases adV (c:=aL.mk 0 0 0) ho ha hb hi hI with ⟨l',e,h⟩|⟨l',j,hj,e,h⟩
   ·left;rw[e];simp only;rw[fK,cw,jJ hi aq];exact⟨l',rfl,h⟩
   ·right;refine⟨?_,l',j,hj,e,h⟩;rw[e];simp only;obtain⟨v,ev,hv⟩:=mM (G9 ha hi) (G9 hb hj) ho;rw[oo,cI,ll,ll,gW,zi,bI ⟨trivial,hi⟩,gW,zi,bI ⟨trivial,hj⟩,ev];rw[bY h];rfl)
  (λl hI=>by
   rfl) (b:=[]) ⟨λy=>⟨λh=>ei h (by simp),λh=>by
    rcases h with ⟨k,hk,_⟩|⟨m,hm,_⟩
    ·omega
    ·exact ei hm (y9 _)⟩,by simp,λy hy=>ei hy (by simp)⟩
 have e:bJ FN (qO.mk op [] (gP a) (gP b) 0 (aL.mk 0 0 0))=V (qO.mk op l (gP a) (gP b) (i:Nat) (aL.mk 0 0 0)):=e;rw[show JF=bJ FN from rfl,e];simp only;rcases h with rfl|⟨hi,l',j,hj,e1,h⟩
 ·left;have mem:∀y,y∈l↔Ea op a b y:=λy=>(hI.1 y).trans ⟨λh=>by
   rcases h with ⟨k,hk,m,hm,e⟩|⟨m,hm,_⟩
   ·exact⟨_,_,(oV a _).mpr ⟨k,hk,rfl⟩,(oV b _).mpr ⟨m,hm,rfl⟩,e⟩
   ·exact ei hm (y9 _),λ⟨x,z,hx,hz,e⟩=>by
   obtain⟨k,hk,rfl⟩:=(oV a _).mp hx;obtain⟨m,hm,rfl⟩:=(oV b _).mp hz;exact .inl ⟨k,hk,m,hm,e⟩⟩
  have hne:l≠[]:=λe=>by
   have:=hI.2.1;simp_all
  obtain⟨c,e2,hc⟩:=I9 hne (by rw[hI.2.1];omega) hI.2.2;rw[e2];exact⟨λy hy=>hI.2.2 y ((mem y).mpr hy),c,rfl,hc.congr mem⟩
 ·right;refine⟨λk=>h (k _ ⟨_,_,(oV a _).mpr ⟨i,hi,rfl⟩,(oV b _).mpr ⟨j,hj,rfl⟩,rfl⟩),?_⟩;rw[oo,cI,e1];simp only;obtain⟨v,ev,hv⟩:=mM (G9 ha hi) (G9 hb hj) ho;rw[oo,cI,ll,ll,gW,zi,bI ⟨trivial,hi⟩,gW,zi,bI ⟨trivial,hj⟩,ev];rw[bY h];rfl
def jP{op:Int}{a b c:aL}(ho:op=8\/op=9\/op=10)(ha:NN a)(hb:NN b)(hc:∀Q,Mid op a b Q->dz Q c)(hR:(∀y,Ea op a b y->cC y)->∀y,sW op a b y->cC y):
  ((∀y,sW op a b y->cC y)/\oI op a b=V (c,0)/\NN c)\/((¬∀y,sW op a b y->cC y)/\oI op a b=V (aL.mk 0 0 0,3)):=by
 have hbin:binop op:=by unfold binop;omega
 by_cases hs:cnt a*cnt b<=4096
 ·rw[oO hbin ha hb hs];rcases Dl hbin ha hb aq with ⟨h1,d,e,h2⟩|⟨h1,e⟩
  ·have k:=hc _ (an9 ha hb);rw[h2.uniq k]at e;exact .inl ⟨h1,e,k.valid h1⟩
  ·exact .inr ⟨h1,e⟩
 ·have e0:oI op a b=uX op a b:=by
   rw[AB hbin ha hb hs];rcases ho with rfl|rfl|rfl<;>rfl
  rw[e0];rcases ak5 hbin ha hb with ⟨h1,d,e,h2⟩|⟨h1,e⟩
  ·rw[h2.uniq (hc _ (anW ha hb))]at e;exact .inl ⟨hR h1,e,(hc _ (an9 ha hb)).valid (hR h1)⟩
  ·exact .inr ⟨λk=>h1 λy hy=>k y ((anW ha hb).v y hy),e⟩
def X8{c:aL}(h:NN c):jI c.ah c.ag c.aj=c:=by
 rw[Pf h.le h.s0 h.dvd (λk=>by rcases h.st with e|e;exact e.2;omega)]
def Bn{c:aL}(h:NN c):nK c.ah c.ag c.aj=V c:=by
 have:=h.lo;have:=h.hi
 rw[oT aq aq h.s0,X8 h]
def nM{op:Int}{a b:aL}(ho:binop op)(ha:NN a)(hb:NN b){r:af (aL×Int)}
  (h:(bif J (op=9)then
   match bif bif jh (ak (a.ah+ak (0-b.ag)))then G else O then V O else V (bif jh (ak (a.ag+ak (0-b.ah)))then G else O)with
   |none=>I
   |some r5=>bif r5 then V (aL.mk 0 0 0,3)else match C1 [a.aj,b.aj]with
    |none=>I
    |some r6=>match nK (ak (a.ah+ak (0-b.ag))) (ak (a.ag+ak (0-b.ah))) r6 with
     |none=>I
     |some r7=>V (r7,0)
  else bif J (op=8)then
   match bif bif jh (ak (a.ah+b.ah))then G else O then V O else V (bif jh (ak (a.ag+b.ag))then G else O)with
   |none=>I
   |some r8=>bif r8 then V (aL.mk 0 0 0,3)else match C1 [a.aj,b.aj]with
    |none=>I
    |some r9=>match nK (ak (a.ah+b.ah)) (ak (a.ag+b.ag)) r9 with
     |none=>I
     |some r10=>V (r10,0)
  else bif J (op=10)then match XS a b with
   |none=>I
   |some r11=>V r11
  else bif J (op=11)then match vI op a b with
   |none=>I
   |some r12=>V (r12,0)
  else bif J (op=12)then match vI op a b with
   |none=>I
   |some r13=>V (r13,0)
  else bif J (op=21)then match vI op a b with
   |none=>I
   |some r14=>V (r14,0)
  else bif J (op=22)then match vI op a b with
   |none=>I
   |some r15=>V (r15,0)
  else match aag op a b with
   |none=>I
   |some r16=>V (r16,0))=r):vK op a b=r:=by
 unfold vK;rw[eW,eW,dZ (.inr ha),dZ (.inr hb),j6,bZ ho];simp only[cT];rw[eO ha.ne,eO hb.ne];simp only[cw];exact h
def rM{a b:aL}(ha:NN a)(hb:NN b):(∀y,sW 8 a b y->cC y)↔cC (a.ah+b.ah)/\cC (a.ag+b.ag):=by
 constructor
 ·intro h;exact⟨h _ ⟨_,_,dx ha,dx hb,rfl⟩,h _ ⟨_,_,gC ha,gC hb,rfl⟩⟩
 ·rintro⟨⟨h1,h2⟩,⟨h3,h4⟩⟩ y ⟨x,z,⟨x1,x2,_⟩,⟨z1,z2,_⟩,rfl⟩;exact⟨by show _<=x+z;omega,by show x+z<=_;omega⟩
def rO{a b:aL}(ha:NN a)(hb:NN b):(∀y,sW 9 a b y->cC y)↔cC (a.ah-b.ag)/\cC (a.ag-b.ah):=by
 constructor
 ·intro h;exact⟨h _ ⟨_,_,dx ha,gC hb,rfl⟩,h _ ⟨_,_,gC ha,dx hb,rfl⟩⟩
 ·rintro⟨⟨h1,h2⟩,⟨h3,h4⟩⟩ y ⟨x,z,⟨x1,x2,_⟩,⟨z1,z2,_⟩,rfl⟩;exact⟨by show _<=x-z;omega,by show x-z<=_;omega⟩
def jV{a b:aL}(ha:NN a)(hb:NN b):(∀y,sW 10 a b y->cC y)↔cC (a.ah*b.ah)/\cC (a.ah*b.ag)/\cC (a.ag*b.ah)/\cC (a.ag*b.ag):=by
 constructor
 ·intro h;exact⟨h _ ⟨_,_,dx ha,dx hb,rfl⟩,h _ ⟨_,_,dx ha,gC hb,rfl⟩,h _ ⟨_,_,gC ha,dx hb,rfl⟩,h _ ⟨_,_,gC ha,gC hb,rfl⟩⟩
 ·rintro⟨h1,h2,h3,h4⟩ y ⟨x,z,⟨x1,x2,_⟩,⟨z1,z2,_⟩,rfl⟩;have k:=Xh (a:=a) (b:=b) ⟨x1,x2⟩ ⟨z1,z2⟩;obtain⟨⟨p1,p2⟩,⟨p3,p4⟩⟩:=ap4 (P:=cC) h1 h2 h3 h4;exact⟨by show _<=x*z;omega,by show x*z<=_;omega⟩
def afU{x y u v:Int}(h1:x.natAbs=u.natAbs)(h2:y.natAbs=v.natAbs):cA x y=cA u v:=by
 unfold cA yC;rw[h1,h2]
def Yk(p q r s:Int):ag5 ([p]++[q]++[r]++[s])=V (Zy p q r s):=by
 unfold ag5;rw[bY (by simp),cw,bI (by simp),show Ll=bJ DR from rfl];have st:∀m k,k=1\/k=2\/k=3->DR (uj.mk ([p]++[q]++[r]++[s]) m k)=V (V (uj.mk ([p]++[q]++[r]++[s]) (min m ([p]++[q]++[r]++[s])[k.toNat]!) (k+1))):=λm k hk=>by
  unfold DR;simp only;rw[bZ (by simp;omega),cI,bI (by simp;omega),aM];have e:∀w:Int,(if w<m then w else m)=min m w:=λw=>by split<;>omega
  rw[e]
 rw[bR (st _ 1 (.inl rfl)),bR (st _ (1+1) (.inr (.inl rfl))),bR (st _ (1+1+1) (.inr (.inr rfl))),ct (by intro x hx;simp[DR]at hx)];simp only;rw[bY (by simp),cw];show V (min (min (min p q) r) s)=V (Zy p q r s);unfold Zy
 congr 1
 omega
def YE(p q r s:Int):ajI ([p]++[q]++[r]++[s])=V (hi4 p q r s):=by
 unfold ajI;rw[bY (by simp),cw,bI (by simp),show KV=bJ FF from rfl];have st:∀m k,k=1\/k=2\/k=3->FF (tW.mk ([p]++[q]++[r]++[s]) m k)=V (V (tW.mk ([p]++[q]++[r]++[s]) (max m ([p]++[q]++[r]++[s])[k.toNat]!) (k+1))):=λm k hk=>by
  unfold FF;simp only;rw[bZ (by simp;omega),cI,bI (by simp;omega),aM];have e:∀w:Int,(if m<w then w else m)=max m w:=λw=>by split<;>omega
  rw[e]
 rw[bR (st _ 1 (.inl rfl)),bR (st _ (1+1) (.inr (.inl rfl))),bR (st _ (1+1+1) (.inr (.inr rfl))),ct (by intro x hx;simp[FF]at hx)];simp only;rw[bY (by simp),cw];show V (max (max (max p q) r) s)=V (hi4 p q r s);unfold hi4
 congr 1
 omega
def axt(x y:Int):(bif bif jh x then G else O then V O else V (bif jh y then G else O))=V (!(J (cC x)&&J (cC y))):=by
 rw[show jh x=J (cC x)from kj x,show jh y=J (cC y)from kj y];cases J (cC x)<;>cases J (cC y)<;>rfl
def fU{op:Int}{a b:aL}(h:∀y,Ea op a b y->cC y){x z:Int}(hx:NB a x)(hz:NB b z):cC (fR op x z):=h _ ⟨x,z,hx,hz,rfl⟩
def SD(op:Int)(a b:aL):Prop:=∃r,vK op a b=V r/\oI op a b=V r/\NV r.1
def ab5{a b:aL}(ha:NN a)(hb:NN b):SD 8 a b:=by
 have r1:=ha.tu;have r2:=ha.Cn;have r3:=hb.tu;have r4:=hb.Cn;obtain⟨a1,a2⟩:=r1;obtain⟨a3,a4⟩:=r2;obtain⟨b1,b2⟩:=r3;obtain⟨b3,b4⟩:=r4;have key:=jP (op:=8) (.inl rfl) ha hb (λQ h=>M0 ha hb h) (λh=>(rM ha hb).mpr ⟨fU h (.inl rfl) (.inl rfl),fU h (.inr (.inr rfl)) (.inr (.inr rfl))⟩);have prog:∀r,(match V (!(J (cC (a.ah+b.ah))&&J (cC (a.ag+b.ag))))with
   |none=>I
   |some r8=>bif r8 then V (aL.mk 0 0 0,(3:Int))else match nK (a.ah+b.ah) (a.ag+b.ag) (cA a.aj b.aj)with
     |none=>I
     |some r10=>V (r10,0))=r->vK 8 a b=r:=λr h=>nM ⟨by decide,by decide⟩ ha hb (by
  simp only[Int.reduceEq,CZ,cw];rw[axt,aM (n:=a.ah+b.ah),aM (n:=a.ag+b.ag),FY ha.s0 hb.s0];exact h)
 rcases key with ⟨h1,e,hv⟩|⟨h1,e⟩
 ·obtain⟨k1,k2⟩:=(rM ha hb).mp h1;refine⟨_,prog _ ?_,e, .inr hv⟩;rw[bZ k1,bZ k2];have:=Bn hv;rw[this];rfl
 ·refine⟨_,prog _ ?_,e,Tt⟩;have:(J (cC (a.ah+b.ah))&&J (cC (a.ag+b.ag)))=G:=by
   cases c1:J (cC (a.ah+b.ah))<;>cases c2:J (cC (a.ag+b.ag))<;>first|rfl|exact ei ((rM ha hb).mpr ⟨of_decide_eq_true c1,of_decide_eq_true c2⟩) h1
  rw[this];rfl
def aa1{a b:aL}(ha:NN a)(hb:NN b):SD 9 a b:=by
 have r1:=ha.tu;have r2:=ha.Cn;have r3:=hb.tu;have r4:=hb.Cn;obtain⟨a1,a2⟩:=r1;obtain⟨a3,a4⟩:=r2;obtain⟨b1,b2⟩:=r3;obtain⟨b3,b4⟩:=r4;have key:=jP (op:=9) (.inr (.inl rfl)) ha hb (λQ h=>MT ha hb h) (λh=>(rO ha hb).mpr ⟨fU h (.inl rfl) (.inr (.inr rfl)),fU h (.inr (.inr rfl)) (.inl rfl)⟩);have prog:∀r,(match V (!(J (cC (a.ah-b.ag))&&J (cC (a.ag-b.ah))))with
   |none=>I
   |some r8=>bif r8 then V (aL.mk 0 0 0,(3:Int))else match nK (a.ah-b.ag) (a.ag-b.ah) (cA a.aj b.aj)with
     |none=>I
     |some r10=>V (r10,0))=r->vK 9 a b=r:=λr h=>nM ⟨by decide,by decide⟩ ha hb (by
  rw[axt,aM (n:=0-b.ag),aM (n:=0-b.ah),aM (n:=a.ah+(0-b.ag)),aM (n:=a.ag+(0-b.ah)),FY ha.s0 hb.s0,
   show a.ah+(0-b.ag)=a.ah-b.ag by omega,show a.ag+(0-b.ah)=a.ag-b.ah by omega]
  exact h)
 rcases key with ⟨h1,e,hv⟩|⟨h1,e⟩
 ·obtain⟨k1,k2⟩:=(rO ha hb).mp h1;refine⟨_,prog _ ?_,e, .inr hv⟩;rw[bZ k1,bZ k2];have:=Bn hv;rw[this];rfl
 ·refine⟨_,prog _ ?_,e,Tt⟩;have:(J (cC (a.ah-b.ag))&&J (cC (a.ag-b.ah)))=G:=by
   cases c1:J (cC (a.ah-b.ag))<;>cases c2:J (cC (a.ag-b.ah))<;>first|rfl|exact ei ((rO ha hb).mpr ⟨of_decide_eq_true c1,of_decide_eq_true c2⟩) h1
  rw[this];rfl
def aen{a b:aL}(ha:NN a)(hb:NN b):SD 10 a b:=by
 have key:=jP (op:=10) (.inr (.inr rfl)) ha hb (λQ h=>PD ha hb h) (λh=>(jV ha hb).mpr ⟨fU h (.inl rfl) (.inl rfl),fU h (.inl rfl) (.inr (.inr rfl)),fU h (.inr (.inr rfl)) (.inl rfl),fU h (.inr (.inr rfl)) (.inr (.inr rfl))⟩);have prog:vK 10 a b=XS a b:=nM ⟨by decide,by decide⟩ ha hb (by
  simp only;cases XS a b<;>rfl)
 unfold SD;rw[prog];obtain⟨v1,e1,q1⟩:=DH ha.tu hb.tu;obtain⟨v2,e2,q2⟩:=DH ha.tu hb.Cn;obtain⟨v3,e3,q3⟩:=DH ha.Cn hb.tu;obtain⟨v4,e4,q4⟩:=DH ha.Cn hb.Cn;unfold XS;rw[e1];simp only;by_cases c1:cC (a.ah*b.ah)
 ·rw[bZ c1,e2];simp only;by_cases c2:cC (a.ah*b.ag)
  ·rw[bZ c2,e3];simp only;by_cases c3:cC (a.ag*b.ah)
   ·rw[bZ c3,e4];simp only;by_cases c4:cC (a.ag*b.ag)
    ·rw[bZ c4];simp only[cI];have hr:=(jV ha hb).mpr ⟨c1,c2,c3,c4⟩;rcases key with ⟨_,e,hv⟩|⟨h1,_⟩
     ·have r1:=ha.tu;have r3:=hb.tu;obtain⟨a1,a2⟩:=r1;obtain⟨b1,b2⟩:=r3;have s1:=ha.s0;have s2:=hb.s0;have l1:=ha.sle;have l2:=hb.sle;obtain⟨w1,w2⟩:=c1;obtain⟨w3,w4⟩:=c2;obtain⟨w5,w6⟩:=c3;obtain⟨w7,w8⟩:=c4;have n1:0<=a.aj*((b.ah.natAbs:Nat):Int):=zI s1 aq;have n2:0<=b.aj*((a.ah.natAbs:Nat):Int):=zI s2 aq;have n3:0<=a.aj*b.aj:=zI s1 s2;have k1:a.aj*((b.ah.natAbs:Nat):Int)<=2199023255552:=by
       have t:=zM l1 (show 0<=((b.ah.natAbs:Nat):Int)by omega);have t2:(a.ag-a.ah)*((b.ah.natAbs:Nat):Int)<=2199023255552:=by
        rcases Int.le_total 0 b.ah with c|c
        ·rw[show ((b.ah.natAbs:Nat):Int)=b.ah by omega,yB];omega
        ·rw[show ((b.ah.natAbs:Nat):Int)= -b.ah by omega,xX,yB];omega
       omega
      have k2:b.aj*((a.ah.natAbs:Nat):Int)<=2199023255552:=by
       have t:=zM l2 (show 0<=((a.ah.natAbs:Nat):Int)by omega);have t2:(b.ag-b.ah)*((a.ah.natAbs:Nat):Int)<=2199023255552:=by
        rcases Int.le_total 0 a.ah with c|c
        ·rw[show ((a.ah.natAbs:Nat):Int)=a.ah by omega,yB,zO b.ag,zO b.ah];omega
        ·rw[show ((a.ah.natAbs:Nat):Int)= -a.ah by omega,xX,yB,zO b.ag,zO b.ah];omega
       omega
      have k3:a.aj*b.aj<=4398046511104:=by
       have t:=y4 l1 l2 s2 aq;rw[yB,Int.mul_sub,Int.mul_sub]at t;omega
      rw[nG hb.tu,nG ha.tu,aM (n:=a.aj*((b.ah.natAbs:Nat):Int)),aM (n:=b.aj*((a.ah.natAbs:Nat):Int)),aM (n:=a.aj*b.aj),
       GA n1 n2 n3,Yk,YE,q1 ⟨w1,w2⟩,q2 ⟨w3,w4⟩,q3 ⟨w5,w6⟩,q4 ⟨w7,w8⟩]
      simp only;have eg:cA (cA (a.aj*((b.ah.natAbs:Nat):Int)) (b.aj*((a.ah.natAbs:Nat):Int))) (a.aj*b.aj)=(aqi a b).aj:=by
       show _=cA (cA (a.aj*b.ah) (b.aj*a.ah)) (a.aj*b.aj);rw[afU (x:=a.aj*((b.ah.natAbs:Nat):Int)) (u:=a.aj*b.ah) (by rw[Int.natAbs_mul,Int.natAbs_mul,Int.natAbs_natCast]) (y:=b.aj*((a.ah.natAbs:Nat):Int)) (v:=b.aj*a.ah) (by rw[Int.natAbs_mul,Int.natAbs_mul,Int.natAbs_natCast])]
      rw[eg];have:=Bn hv;have this:nK (Zy (a.ah*b.ah) (a.ah*b.ag) (a.ag*b.ah) (a.ag*b.ag)) (hi4 (a.ah*b.ah) (a.ah*b.ag) (a.ag*b.ah) (a.ag*b.ag)) (aqi a b).aj=V _:=this;rw[this];exact⟨_,rfl,e, .inr hv⟩
     ·exact ei hr h1
    ·rcases key with ⟨h1,_⟩|⟨_,e⟩
     ·exact ei ((jV ha hb).mp h1).2.2.2 c4
     ·rw[bY c4];exact⟨_,rfl,e,Tt⟩
   ·rcases key with ⟨h1,_⟩|⟨_,e⟩
    ·exact ei ((jV ha hb).mp h1).2.2.1 c3
    ·rw[bY c3];exact⟨_,rfl,e,Tt⟩
  ·rcases key with ⟨h1,_⟩|⟨_,e⟩
   ·exact ei ((jV ha hb).mp h1).2.1 c2
   ·rw[bY c2];exact⟨_,rfl,e,Tt⟩
 ·rcases key with ⟨h1,_⟩|⟨_,e⟩
  ·exact ei ((jV ha hb).mp h1).1 c1
  ·rw[bY c1];exact⟨_,rfl,e,Tt⟩
structure Eu (x m a b u v:Int):Prop where
 a0:0<=a
 b2:2<=b
 ab:a<b
 g:yC a b=1
 du:m∣u*x-a
 dv:m∣v*x-b
 s:(0<=u/\v<=0/\b*u-a*v=m)\/(u<=0/\0<=v/\a*v-b*u=m)
def Eu.next{x m a b u v:Int}(h:Eu x m a b u v)(ha:1<a):Eu x m (b%a) a (v-b/a*u) u:=by
 have e:=yY b a;have m0:=yZ b (b:=a) aq;have m1:=y8 b (b:=a) aq;refine⟨m0,aq,m1,?_,?_,h.du,?_⟩
 ·have:=qu (a:=b) (b:=a) (by have:=h.b2;omega) aq;rw[kU (by have:=h.b2;omega)]at this;rw[Int.gcd_comm,this,Int.gcd_comm];exact h.g
 ·have k:=yA h.dv (zY h.du (xG (b/a) _));grind
 ·have t1:(b%a)*u=b*u-a*(b/a*u):=by
   grind
  have t2:a*(v-b/a*u)=a*v-a*(b/a*u):=Int.mul_sub ..;have q0:0<=b/a:=zS (by have:=h.b2;omega) aq;rcases h.s with ⟨s1,s2,s3⟩|⟨s1,s2,s3⟩
  ·have:=zI q0 s1;omega
  ·have:=zI q0 (show 0<= -u by omega);rw[xX]at this;omega
def Eu.bd{x m a b u v:Int}(h:Eu x m a b u v): -m<=u/\u<=m:=by
 have hb:=h.b2;have ha:=h.a0;rcases h.s with ⟨s1,s2,s3⟩|⟨s1,s2,s3⟩
 ·have k1:=zI ha (show 0<= -v by omega);rw[xX]at k1;have k2:1*u<=b*u:=zM aq s1;omega
 ·have k1:=zI ha s2;have k2:1*(-u)<=b*(-u):=zM aq aq;simp only[xX]at k2;omega
def Eu.bv{x m a b u v:Int}(h:Eu x m a b u v)(ha:1<a): -m<=v/\v<=m:=by
 have hb:=h.b2;rcases h.s with ⟨s1,s2,s3⟩|⟨s1,s2,s3⟩
 ·have k1:=zI (show 0<=b by omega) s1;have k2:1*(-v)<=a*(-v):=zM aq aq;simp only[xX]at k2;omega
 ·have k1:=zI (show 0<=b by omega) (show 0<= -u by omega);rw[xX]at k1;have k2:1*v<=a*v:=zM aq s2;omega
def ark{x m a b u v:Int}(hm:m<1152921504606846976)(hbm:b<=m)(h:Eu x m a b u v):∃b' u' v',Lr (o8.mk m a b u v)=V (o8.mk m 1 b' u' v')/\m∣u'*x-1/\ -m<=u'/\u'<=m:=by
 obtain⟨z,e1,⟨a',b',u',v',rfl,hI,hb⟩,hs⟩:=mh (rnd:=Le) (λp=>∃a b u v,p=o8.mk m a b u v/\Eu x m a b u v/\b<=m) (λp=>zD p.t5) (λp p' ⟨a,b,u,v,hp,hI,hbm⟩ hn=>by
  subst hp;unfold Le at hn;simp only at hn;by_cases c:1<a
  ·have hN:=hI.next c;have q0:0<=b/a:=zS (by have:=hI.b2;omega) aq;have q1:b/a<=b:=yo _ (by have:=hI.b2;omega);have e:=yY b a;rw[zO]at e;have m0:=hN.a0;have m1:=hN.ab;have bv:=hI.bv c;have bn:=hN.bd;have hab:=hI.ab;rw[bZ c,cI,gW,kF,aM (n:=b/a),aM (n:=b/a*a),aM (n:=b-b/a*a),aM (n:=b/a*u),aM (n:=v-b/a*u)]at hn;simp only[zF.injEq]at hn;subst hn;rw[show b-b/a*a=b%a by omega];exact⟨⟨b%a,a,_,_,rfl,hN,by have:=hI.ab;omega⟩,by show (b%a).toNat<a.toNat;omega⟩
  ·rw[bY c]at hn;cases hn) ⟨a,b,u,v,rfl,h,hbm⟩
 have hle:¬1<a':=λc=>by
  refine hs (o8.mk m (ak (b'-ak (ak (b'.tdiv a')*a'))) a' (ak (v'-ak (ak (b'.tdiv a')*u'))) u') ?_;unfold Le;simp only;rw[bZ c,cI,gW]
 have a1:a'=1:=by
  have:=hI.a0;rcases (show a'=0\/a'=1 by omega)with rfl|rfl
  ·have g:=hI.g;rw[Int.gcd_zero_left]at g;have:=hI.b2;omega
  ·rfl
 subst a1;exact⟨b',u',v',e1,hI.du,hI.bd⟩
def amj{x m:Int}(h0:0<=x)(h1:2<=m)(h2:m<1152921504606846976)(hg:yC x m=1):∃v:Int,aip x m=V v/\0<=v/\v<m/\m∣v*x-1:=by
 have m0:=yZ x (b:=m) aq;have m1:=y8 x (b:=m) aq;have e:=yY x m;obtain⟨b',u',v',e1,d1,d2,d3⟩:=ark (x:=x) (m:=m) (a:=x%m) (b:=m) (u:=1) (v:=0) h2 (zw _) ⟨m0,h1,m1,by
   have:=qu (a:=x) (b:=m) h0 aq;rw[kU h0]at this;rw[Int.gcd_comm,this,hg],⟨x/m,aq⟩,⟨-1,aq⟩, .inl ⟨aq,aq,aq⟩⟩
 unfold aip;rw[gW,kU h0,e1];simp only;rw[fK,cw,gW,gW];have t:=Int.mul_tdiv_add_tmod u' m;have tb:(u'.tmod m).natAbs<m.natAbs:=by rw[Int.natAbs_tmod];exact yV _ aq
 rw[aM,kU];have ev:(u'.tmod m+m)%m=u'%m:=by
  conv=>rhs;rw[<-t]
  simp
 rw[ev];refine⟨u'%m,rfl,yZ _ aq,y8 _ aq,?_⟩;have e2:=yY u' m;have:u'%m*x-1=u'*x-1-m*(u'/m*x):=by
  rw[<-yb];have:u'%m*x=u'*x-m*(u'/m)*x:=by
   rw[<-yB]
   congr 1
   omega
  omega
 rw[this];exact yA d1 (xL ..)
def acw{x m:Int}(hm:1<=m):(x.tmod m+m).tmod m=x%m/\0<=x.tmod m+m/\x.tmod m+m<2*m/\ -m<x.tmod m:=by
 have t:=Int.mul_tdiv_add_tmod x m;have tb:(x.tmod m).natAbs<m.natAbs:=by rw[Int.natAbs_tmod];exact yV _ aq
 refine⟨?_,aq,aq,aq⟩;rw[kU,Int.add_emod_right]
 conv=>rhs;rw[<-t]
 simp
def LX(X Y Z:Int->Int)(sa P M K:Int):af aL:=
 bif J (M<K)then V jA else if¬P=(0:Int)then bif J (K=ak (K+ak (ak ((ak (M-K)).tdiv P)*P)))then V (iz (X K))else V (aL.mk (Y K) (Z K) (ak (P*sa)))else I
def ID{X Y Z:Int->Int}{sa P M K:Int}(h1:1<=sa)(h2:1<=P)(h3:0<=K)(h4:M<=4398046511104)(h5:M*sa<=4398046511104):∃c,LX X Y Z sa P M K=V c/\fu c=J (M<K):=by
 unfold LX;by_cases c:M<K
 ·rw[bZ c];exact⟨cM,rfl,kI⟩
 ·rw[bY c,cw,gW];have q0:0<=(M-K)/P:=zS aq aq;have q1:(M-K)/P<=M-K:=yo _ aq;have q2:(M-K)/P*P<=M-K:=xu _ aq;have q3:0<=(M-K)/P*P:=zI q0 aq;rw[aM (n:=M-K),kF,aM (n:=(M-K)/P),aM (n:=(M-K)/P*P),aM (n:=K+(M-K)/P*P)];by_cases e:K=K+(M-K)/P*P
  ·rw[bZ e];refine⟨iz (X K),rfl,eO λk=> ?_⟩;have k1:X K=1:=congrArg aL.ah k;have k2:X K=0:=congrArg aL.ag k;omega
  ·rw[bY e];refine⟨_,rfl,eO λk=> ?_⟩;have k3:ak (P*sa)=0:=congrArg aL.aj k;have q5:1<=(M-K)/P:=by
    rcases (show (M-K)/P=0\/1<=(M-K)/P by omega)with z|z
    ·simp_all
    ·exact z
   have q6:1*P<=(M-K)/P*P:=zM q5 aq;have q7:P*sa<=M*sa:=zM aq aq;have q8:1*1<=P*sa:=y4 h2 h1 aq aq;rw[aM]at k3;omega
def Ur(X Y Z:Int->Int)(sa P M L k:Int):af aL:=
 if¬sa=(0:Int)then if¬sa=(0:Int)then bif J (k<L)then if¬P=(0:Int)then LX X Y Z sa P M (ak (k+ak (ak ((ak (ak (ak (L-k)+P)-1)).tdiv P)*P)))else I else LX X Y Z sa P M k else I else I
def F8{X Y Z:Int->Int}{sa P M L k:Int}(h1:1<=sa)(h2:1<=P)(h3:0<=k)(hk:k<P)(hP:P<=4398046511104)(h4:M<=4398046511104)(h5:M*sa<=4398046511104)(hL:0<=L)(hL2:L<=4398046511104):
  ∃c,Ur X Y Z sa P M L k=V c/\(fu c=G↔∃j,L<=j/\j<=M/\P∣j-k):=by
 unfold Ur;rw[gW,gW];by_cases c:k<L
 ·have q0:0<=(L-k+P-1)/P:=zS aq aq;have q2:(L-k+P-1)/P*P<=L-k+P-1:=xu _ aq;have q1:(L-k+P-1)/P<=L-k+P-1:=yo _ aq;have q4:=vf (L-k+P-1) (show 0<P by omega);rw[zU,yd]at q4;rw[bZ c,cI,gW,aM (n:=L-k),aM (n:=L-k+P),aM (n:=L-k+P-1),kF,aM (n:=(L-k+P-1)/P),aM (n:=(L-k+P-1)/P*P),aM (n:=k+(L-k+P-1)/P*P)];obtain⟨r,e,hr⟩:=ID (X:=X) (Y:=Y) (Z:=Z) (K:=k+(L-k+P-1)/P*P) h1 h2 aq h4 h5;refine⟨r,e,?_⟩;rw[hr];constructor
  ·intro hd;have:=of_decide_eq_false hd;exact⟨k+(L-k+P-1)/P*P,aq,aq,by rw[show k+(L-k+P-1)/P*P-k=(L-k+P-1)/P*P by omega];exact xG ..⟩
  ·rintro⟨j,j1,j2,t,j3⟩;rw[zO]at j3;refine bY ?_;have:(L-k+P-1)/P<=t:=by
    have:(L-k+P-1)/P<t+1:=wK (a:=P) (by rw[zU,yd];omega) aq;omega
   have:=zM this (show 0<=P by omega);omega
 ·rw[bY c,cw];obtain⟨r,e,hr⟩:=ID (X:=X) (Y:=Y) (Z:=Z) (K:=k) h1 h2 h3 h4 h5;refine⟨r,e,?_⟩;rw[hr];constructor
  ·intro hd;have:=of_decide_eq_false hd;exact⟨k,aq,aq,⟨0,aq⟩⟩
  ·rintro⟨j,j1,j2,t,j3⟩;rw[zO]at j3;refine bY ?_;have:0<=t:=Decidable.byContradiction λh=>by
    have:t*P<= -1*P:=zM aq aq;omega
   have:=zI this (show 0<=P by omega);omega
def mj{a b:aL}(ha:NN a)(hb:NN b)(h1:1<=a.aj)(x:Int):(bT a x/\bT b x)↔∃j:Int,x=a.ah+j*a.aj/\max a.ah b.ah<=x/\x<=min a.ag b.ag/\b.aj∣j*a.aj-(b.ah-a.ah):=by
 constructor
 ·rintro⟨⟨x1,x2,j,x3⟩,⟨z1,z2,z3⟩⟩;rw[zO]at x3;grind
 ·rintro⟨j,e,h2,h3,h4⟩;refine⟨⟨aq,aq,⟨j,by rw[zO];omega⟩⟩,⟨aq,aq,?_⟩⟩;rw[show x-b.ah=j*a.aj-(b.ah-a.ah)by omega];exact h4
def oh{lo s x low high j:Int}(hs:1<=s)(hl:lo<=low)(hx:x=lo+j*s):(low<=x/\x<=high)↔((low-lo+s-1)/s<=j/\j<=(high-lo)/s):=by
 have q2:(low-lo+s-1)/s*s<=low-lo+s-1:=xu _ aq;have q4:=vf (low-lo+s-1) (show 0<s by omega);rw[zU,yd]at q4;constructor
 ·rintro⟨h1,h2⟩;refine⟨?_,Int.le_ediv_of_mul_le aq aq⟩;have:(low-lo+s-1)/s<j+1:=wK (a:=s) (by rw[zU,yd];omega) aq;omega
 ·rintro⟨h1,h2⟩;have k1:=zM h1 (show 0<=s by omega);have k2:j*s<=high-lo:=xV (zM h2 aq) (xu _ aq);omega
def alZ{a b:aL}(ha:NN a)(hb:NN b)(h1:1<=a.aj)(h2:1<=b.aj):∃c,afO a b=V c/\(fu c=G↔∃x,bT a x/\bT b x):=by
 have a1:=ha.lo;have a2:=ha.hi;have a3:=ha.le;have a4:=ha.sle;have b1:=hb.lo;have b2:=hb.hi;have b3:=hb.le;have b4:=hb.sle;have g0:=lQ a.aj b.aj;have gl:=ko a.aj b.aj;have gr:=qR a.aj b.aj;have gpos:1<=cA a.aj b.aj:=by
  rcases (show cA a.aj b.aj=0\/1<=cA a.aj b.aj by omega)with z|z
  ·simp_all
  ·exact z
 have hcop:yC (a.aj/cA a.aj b.aj) (b.aj/cA a.aj b.aj)=1:=Int.gcd_ediv_gcd_ediv_gcd (show 0<yC a.aj b.aj by unfold cA at gpos;omega);unfold afO;rw[FY aq aq];simp only;generalize cA a.aj b.aj=g at*;rw[show (if b.ag<a.ag then b.ag else a.ag)=min a.ag b.ag by split<;>omega,show (if a.ah<b.ah then b.ah else a.ah)=max a.ah b.ah by split<;>omega];by_cases c1:min a.ag b.ag<max a.ah b.ah
 ·rw[bZ c1];refine⟨cM,rfl,?_⟩;rw[kI];exact⟨λk=>(by cases k),λ⟨x,x1,x2⟩=>by have:=x1.1;have:=x1.2.1;have:=x2.1;have:=x2.2.1;omega⟩
 ·rw[bY c1,cw,bI (show ¬@Eq Int g 0 by omega),aM (n:=b.ah-a.ah)];simp only;by_cases c2:(b.ah-a.ah).tmod g=0
  ·rw[bZ c2];simp only[cI];have eA:ak (a.aj.tdiv g)=a.aj/g:=by
    have:=yo (a:=a.aj) g aq;have:=zS (a:=a.aj) (b:=g) aq aq;rw[kF,aM]
   have eP:ak (b.aj.tdiv g)=b.aj/g:=by
    have:=yo (a:=b.aj) g aq;have:=zS (a:=b.aj) (b:=g) aq aq;rw[kF,aM]
   have mA:a.aj/g*g=a.aj:=wo gl;have mP:b.aj/g*g=b.aj:=wo gr;have hA0:0<=a.aj/g:=zS aq aq;have hA1:a.aj/g<=a.aj:=yo _ aq;have hP1:b.aj/g<=b.aj:=yo _ aq;have hP0:1<=b.aj/g:=by
    have:0<=b.aj/g:=zS aq aq;rcases (show b.aj/g=0\/1<=b.aj/g by omega)with z|z
    ·rw[z,Int.zero_mul]at mP;omega
    ·exact z
   rw[eA,eP];obtain⟨D,hD⟩:=Int.dvd_of_tmod_eq_zero c2;have eD:(b.ah-a.ah).tdiv g=D:=by rw[hD];exact Int.mul_tdiv_cancel_left _ aq
   have dnat:D.natAbs<=(b.ah-a.ah).natAbs:=by rw[<-eD,Int.natAbs_tdiv];exact Nat.div_le_self _ _
   rw[eD];generalize a.aj/g=A at*;generalize b.aj/g=P at*;have el:ak (ak (ak (max a.ah b.ah-a.ah)+a.aj)-1)=max a.ah b.ah-a.ah+a.aj-1:=by
    rw[aM (n:=max a.ah b.ah-a.ah),aM (n:=max a.ah b.ah-a.ah+a.aj),aM]
   have l0:0<=(max a.ah b.ah-a.ah+a.aj-1)/a.aj:=zS aq aq;have l1:(max a.ah b.ah-a.ah+a.aj-1)/a.aj<=max a.ah b.ah-a.ah+a.aj-1:=yo _ aq;have h0:0<=(min a.ag b.ag-a.ah)/a.aj:=zS aq aq;have hh1:(min a.ag b.ag-a.ah)/a.aj<=min a.ag b.ag-a.ah:=yo _ aq;have hh2:(min a.ag b.ag-a.ah)/a.aj*a.aj<=min a.ag b.ag-a.ah:=xu _ aq;rw[el,aM (n:=min a.ag b.ag-a.ah),kF (a:=max a.ah b.ah-a.ah+a.aj-1) aq,kF (a:=min a.ag b.ag-a.ah) aq,
    aM (n:=(max a.ah b.ah-a.ah+a.aj-1)/a.aj),aM (n:=(min a.ag b.ag-a.ah)/a.aj)]
   have cm:∀k,P∣k*A-D↔b.aj∣k*a.aj-(b.ah-a.ah):=λk=>by
    have e:k*a.aj-(b.ah-a.ah)=(k*A-D)*g:=by rw[hD,<-mA,yB,yb,zO D g]
    rw[e,<-mP];exact⟨λh=>Int.mul_dvd_mul_right _ h,λh=>Int.dvd_of_mul_dvd_mul_right aq h⟩
   have fin:∀k0,(∀k,P∣k*A-D↔P∣k-k0)->((∃j,(max a.ah b.ah-a.ah+a.aj-1)/a.aj<=j/\j<=(min a.ag b.ag-a.ah)/a.aj/\P∣j-k0)↔∃x,bT a x/\bT b x):=λk0 hk=>by
    constructor
    ·rintro⟨j,j1,j2,j3⟩;have r:=(oh (lo:=a.ah) (s:=a.aj) (low:=max a.ah b.ah) (high:=min a.ag b.ag) (j:=j) h1 aq rfl).mpr ⟨j1,j2⟩;exact⟨_,(mj ha hb h1 _).mpr ⟨j,rfl,r.1,r.2,(cm j).mp ((hk j).mpr j3)⟩⟩
    ·rintro⟨x,hx⟩;obtain⟨j,e,x1,x2,x3⟩:=(mj ha hb h1 x).mp hx;have r:=(oh (lo:=a.ah) (s:=a.aj) (low:=max a.ah b.ah) (high:=min a.ag b.ag) (j:=j) h1 aq e).mp ⟨x1,x2⟩;exact⟨j,r.1,r.2,(hk j).mp ((cm j).mpr x3)⟩
   rw[bI (show ¬@Eq Int g 0 by omega)];by_cases c3:1<P
   ·rw[bZ c3,cI,bI (show ¬@Eq Int g 0 by omega),gW,gW,bI (show ¬@Eq Int g 0 by omega),gW];have m0:=yZ A (b:=P) aq;have m1:=y8 A (b:=P) aq;have hg:yC (A%P) P=1:=by
     have:=qu (a:=A) (b:=P) hA0 aq;rw[kU hA0]at this;rw[Int.gcd_comm,this,hcop]
    obtain⟨v,e1,v0,v1,v2⟩:=amj (x:=A%P) (m:=P) m0 aq aq hg;rw[kU hA0,e1];simp only;obtain⟨f1,f2,f3,f4⟩:=acw (x:=D) (m:=P) aq;have d0:=yZ D (b:=P) aq;have d1:=y8 D (b:=P) aq;rw[aM (n:=D),aM (n:=D.tmod P+P),f1,aqd d0 d1 v0 v1 aq];simp only;have k0:=yZ (D%P*v) (b:=P) aq;have k1:=y8 (D%P*v) (b:=P) aq;have vA:P∣v*A-1:=by
     have e:=yY A P;have t:v*A-1=v*(A%P)-1+P*(v*(A/P)):=by
      conv=>lhs;rw[<-e]
      rw[xF,Int.mul_left_comm v P];omega
     rw[t];exact y5 v2 (xL ..)
    have hk:∀k,P∣k*A-D↔P∣k-D%P*v%P:=λk=>by
     have e1:P∣D*v-D%P*v%P:=by
      have t1:=yY (D%P*v) P;have t2:=yY D P;have:D*v-D%P*v%P=P*(D/P*v)+P*(D%P*v/P):=by
       have:D*v=P*(D/P*v)+D%P*v:=by
        conv=>lhs;rw[<-t2]
        rw[zU,yb]
       omega
      rw[this];exact y5 (xL ..) (xL ..)
     constructor
     ·intro h;have t:=yA (zY h (xL _ v)) (zY vA (xL _ k));have t2:(k*A-D)*v-(v*A-1)*k=k-D*v:=by
       rw[yB,yB,yd,yb,zO (v*A) k,zO A v];omega
      rw[t2]at t;have:=y5 t e1
      rwa [show k-D*v+(D*v-D%P*v%P)=k-D%P*v%P by omega]at this
     ·intro h;have t:=yA h e1;rw[show k-D%P*v%P-(D*v-D%P*v%P)=k-D*v by omega]at t;have t2:=y5 (zY t (xL _ A)) (zY vA (xL _ D));have t3:(k-D*v)*A+(v*A-1)*D=k*A-D:=by
       rw[yB,yB,yd,yb,zO (v*A) D];omega
      rwa [t3]at t2
    obtain⟨c,e,hc⟩:=F8 (X:=λK=>ak (a.ah+ak (K*a.aj))) (Y:=λK=>ak (a.ah+ak (K*a.aj))) (Z:=λK=>ak (a.ah+ak (ak (K+ak (ak ((ak ((min a.ag b.ag-a.ah)/a.aj-K)).tdiv P)*P))*a.aj)))
     h1 hP0 k0 k1 aq (M:=(min a.ag b.ag-a.ah)/a.aj) aq aq l0 aq
    exact⟨c,e,hc.trans (fin _ hk)⟩
   ·have p1:P=1:=aq;rw[bY c3,cw];obtain⟨c,e,hc⟩:=F8 (X:=λK=>ak (a.ah+ak (K*a.aj))) (Y:=λK=>ak (a.ah+ak (K*a.aj))) (Z:=λK=>ak (a.ah+ak (ak (K+ak (ak ((ak ((min a.ag b.ag-a.ah)/a.aj-K)).tdiv P)*P))*a.aj)))
     h1 hP0 (k:=0) aq aq aq (M:=(min a.ag b.ag-a.ah)/a.aj) aq aq l0 aq
    exact⟨c,e,hc.trans (fin 0 λk=>by subst p1;exact⟨λ_=>Int.one_dvd _,λ_=>Int.one_dvd _⟩)⟩
  ·rw[bY c2];refine⟨cM,rfl,?_⟩;rw[kI];refine⟨λk=>(by cases k),λ⟨x,hx⟩=> ?_⟩;obtain⟨j,e,x1,x2,x3⟩:=(mj ha hb h1 x).mp hx;exfalso;apply c2;have k1:=zY gr x3;have k2:=yA (zY gl (xG j _)) k1;rw[show j*a.aj-(j*a.aj-(b.ah-a.ah))=b.ah-a.ah by omega]at k2;exact Int.tmod_eq_zero_of_dvd k2
def D3{a:aL}(h:NN a)(h0:a.aj=0)(x:Int):bT a x↔x=a.ah:=by
 constructor
 ·rintro⟨h1,h2,h3⟩;rw[h0]at h3;have:=Int.zero_dvd.mp h3;omega
 ·rintro rfl;exact dx h
def FW{M:aL->aL->af aL}{a b:aL}(ha:NN a)(hb:NN b)(h0:a.aj=0):∃c,Ag M a b=V c/\(fu c=G↔∃x,bT a x/\bT b x):=by
 unfold Ag;rw[eO ha.ne,eO hb.ne];simp only[cw];rw[bZ h0,cI,Jq (.inr hb)];simp only;by_cases h:bT b a.ah
 ·rw[nh h];exact⟨a,rfl,λ_=>⟨_,dx ha,h⟩,λ_=>eO ha.ne⟩
 ·rw[jC h];refine⟨cM,rfl,λk=> ?_,λ⟨x,h1,h2⟩=> ?_⟩
  ·rw[kI]at k;cases k
  ·rw[(D3 ha h0 x).mp h1]at h2;exact ei h2 h
def ahm{a b:aL}(ha:NN a)(hb:NN b):∃c,agU a b=V c/\(fu c=G↔∃x,bT a x/\bT b x):=by
 have cm:(∃x,bT b x/\bT a x)↔∃x,bT a x/\bT b x:=⟨λ⟨x,h1,h2⟩=>⟨x,h2,h1⟩,λ⟨x,h1,h2⟩=>⟨x,h2,h1⟩⟩;have s0:=ha.s0;have t0:=hb.s0;by_cases h0:a.aj=0
 ·obtain⟨c,e,h⟩:=FW (M:=λ_ _=>I) ha hb h0;refine⟨c,eM 1 λn hn=> ?_,h⟩;obtain⟨k,rfl⟩:∃k,n=k+1:=⟨n-1,aq⟩;obtain⟨c',e',h'⟩:=FW (M:=Cw k) ha hb h0;have:Ag (Cw k) a b=Ag (λ_ _=>I) a b:=by
   unfold Ag;rw[eO ha.ne,eO hb.ne];simp only[cw];rw[bZ h0];simp only[cI]
  exact this.trans e
 ·by_cases k0:b.aj=0
  ·obtain⟨c,e,h⟩:=FW (M:=λ_ _=>I) hb ha k0;refine⟨c,eM 2 λn hn=> ?_,h.trans cm⟩;obtain⟨k,rfl⟩:∃k,n=k+1+1:=⟨n-2,aq⟩;have:Ag (Cw k) b a=Ag (λ_ _=>I) b a:=by
    unfold Ag;rw[eO ha.ne,eO hb.ne];simp only[cw];rw[bZ k0];simp only[cI]
   have e1:Cw (k+1) b a=V c:=this.trans e;show Ag (Cw (k+1)) a b=V c;unfold Ag;rw[eO ha.ne,eO hb.ne];simp only[cw];rw[bY h0,cw,bZ k0,cI,e1]
  ·obtain⟨c,e,h⟩:=alZ ha hb aq aq;refine⟨c,eM 1 λn hn=> ?_,h⟩;obtain⟨k,rfl⟩:∃k,n=k+1:=⟨n-1,aq⟩;show Ag (Cw k) a b=V c;unfold Ag;rw[eO ha.ne,eO hb.ne];simp only[cw];rw[bY h0,cw,bY k0,cw,e]
def Wz{a:aL}(h:NN a)(k:1<b7 a):1<=a.aj:=by
 have:=lX h;rcases h.st with ⟨e,_⟩|⟨_,e,_⟩
 ·omega
 ·exact e
def early{a b:aL}(ha:NN a)(hb:NN b)(h1:1<=a.aj)(h2:1<=b.aj){low high:Int}(el:low=max a.ah b.ah)(eh:high=min a.ag b.ag):
  (∃x,bT a x/\bT b x)↔∃k:Nat,(k:Int)<b.aj/cA a.aj b.aj/\a.ah+((low-a.ah+a.aj-1)/a.aj)*a.aj+(k:Int)*a.aj<=high/\bT b (a.ah+((low-a.ah+a.aj-1)/a.aj)*a.aj+(k:Int)*a.aj):=by
 have gl:=ko a.aj b.aj;have gr:=qR a.aj b.aj;have g0:=lQ a.aj b.aj;have mP:b.aj/cA a.aj b.aj*cA a.aj b.aj=b.aj:=wo gr;have hP0:1<=b.aj/cA a.aj b.aj:=by
  have:0<=b.aj/cA a.aj b.aj:=zS aq aq;rcases (show b.aj/cA a.aj b.aj=0\/1<=b.aj/cA a.aj b.aj by omega)with z|z
  ·rw[z,Int.zero_mul]at mP;omega
  ·exact z
 have per:b.aj∣b.aj/cA a.aj b.aj*a.aj:=by
  obtain⟨q,hq⟩:=gl;generalize cA a.aj b.aj=g at*;rw[hq,<-yb,mP];simp
 generalize b.aj/cA a.aj b.aj=P at*;subst el eh;generalize hL:(max a.ah b.ah-a.ah+a.aj-1)/a.aj=L;constructor
 ·rintro⟨x,hx⟩;obtain⟨j,e,x1,x2,x3⟩:=(mj ha hb h1 x).mp hx;have r:=(oh (lo:=a.ah) (s:=a.aj) (low:=max a.ah b.ah) (high:=min a.ag b.ag) (j:=j) h1 aq e).mp ⟨x1,x2⟩;have m0:=yZ (j-L) (b:=P) aq;have m1:=y8 (j-L) (b:=P) aq;have m2:=yY (j-L) P;have q0:0<=(j-L)/P:=zS aq aq;have ex:a.ah+L*a.aj+(j-L)%P*a.aj=x-(j-L)/P*(P*a.aj):=by
   have:j*a.aj=(P*((j-L)/P)+(j-L)%P+L)*a.aj:=by congr 1;omega
   rw[zU,zU,zO P,yb]at this;omega
  have r2:=(oh (lo:=a.ah) (s:=a.aj) (low:=max a.ah b.ah) (high:=min a.ag b.ag) (x:=a.ah+(L+(j-L)%P)*a.aj) (j:=L+(j-L)%P) h1 aq rfl).mpr
   ⟨by rw[hL];omega,by
    have:(j-L)%P<=j-L:=by
     have:=zI (show 0<=P by omega) q0;omega
    omega⟩
  rw[zU,<-Int.add_assoc]at r2;refine⟨((j-L)%P).toNat,aq,?_⟩;rw[Int.toNat_of_nonneg m0];refine⟨r2.2,aq,aq,?_⟩;rw[ex,show x-(j-L)/P*(P*a.aj)-b.ah=x-b.ah-(j-L)/P*(P*a.aj)by omega];exact yA hx.2.2.2 (zY per (xG ..))
 ·rintro⟨k,k1,k2,k3⟩;have e:a.ah+L*a.aj+(k:Int)*a.aj=a.ah+(L+(k:Int))*a.aj:=by rw[zU];omega
  rw[e]at k2 k3;have l0:=(oh (lo:=a.ah) (s:=a.aj) (low:=max a.ah b.ah) (high:=a.ah+(L+(k:Int))*a.aj) (x:=a.ah+(L+(k:Int))*a.aj) (j:=L+(k:Int)) h1 aq rfl).mpr
   ⟨by rw[hL];omega,by rw[show a.ah+(L+(k:Int))*a.aj-a.ah=(L+(k:Int))*a.aj by omega,Int.mul_ediv_cancel _ aq];exact zw _⟩
  exact⟨_,(mj ha hb h1 _).mpr ⟨_,rfl,l0.1,k2,by
   have:=k3.2.2
   rwa [show a.ah+(L+(k:Int))*a.aj-b.ah=(L+(k:Int))*a.aj-(b.ah-a.ah)by omega]at this⟩⟩
def QX{g P k n high sb:Int}(hg:1<=g)(hP:ak (sb.tdiv g)=P):(if¬g=(0:Int)then bif J (k<ak (sb.tdiv g))then V (J (n<=high))else V G else I)=V (J (k<P/\n<=high)):=by
 rw[gW,hP];by_cases c:k<P
 ·rw[bZ c,cI];by_cases d:n<=high
  ·rw[bZ d,bZ ⟨c,d⟩]
  ·rw[bY d,bY (λe=>d e.2)]
 ·rw[bY c,cw,bY (λe=>c e.1)]
def aj7{M:aL->aL->af Bool}{a b:aL}(hb:NN b){g P high n0:Int}(hg:1<=g)(hP:ak (b.aj.tdiv g)=P)(hP1:P<=4398046511104)(hs:1<=a.aj)(hs2:a.aj<=4398046511104)(hh:high<=1099511627776)(hn: -1099511627776<=n0)(hP0:0<=P):
  (match pe M (jq.mk high g n0 0 a b)with
   |none=>I
   |some r10=>match if¬r10.t7=(0:Int)then bif J (r10.t9<ak (r10.b1.aj.tdiv r10.t7))then V (J (r10.t8<=r10.t6))else V G else I with
    |none=>I
    |some r11=>bif r11 then match m32 r10.b1 r10.t8 with
     |none=>I
     |some r12=>bif r12 then V O else I
     else V G)=V (open Classical in J (∃k:Nat,(k:Int)<P/\n0+(k:Int)*a.aj<=high/\bT b (n0+(k:Int)*a.aj))):=by
 obtain⟨z,e1,⟨k,rfl,hk,hI⟩,hstop⟩:=mh (rnd:=A6 M) (λp=>∃k:Nat,p=jq.mk high g (n0+(k:Int)*a.aj) (k:Int) a b/\(k:Int)<=P/\∀i:Nat,i<k->¬bT b (n0+(i:Int)*a.aj))
  (λp=>(P-p.t9).toNat) (λp p' ⟨k,hp,hk,hI⟩ hq=>by
   subst hp;have hq:A6 M (jq.mk high g (n0+(k:Int)*a.aj) (k:Int) a b)=V (V p'):=hq;unfold A6 at hq;simp only at hq;rw[QX hg hP]at hq;by_cases c:(k:Int)<P/\n0+(k:Int)*a.aj<=high
   ·rw[bZ c]at hq;simp only[cI]at hq;rw[jW (.inr hb)]at hq;simp only at hq;by_cases d:bT b (n0+(k:Int)*a.aj)
    ·rw[nh d]at hq;cases hq
    ·rw[jC d]at hq;have k0:0<=(k:Int)*a.aj:=zI aq aq;rw[cw,aM (n:=n0+(k:Int)*a.aj+a.aj),aM (n:=(k:Int)+1)]at hq;simp only[zF.injEq]at hq;subst hq;refine⟨⟨k+1,?_,aq,λi hi=> ?_⟩,by show (P-((k:Int)+1)).toNat<(P-(k:Int)).toNat;omega⟩
     ·rw[show ((k+1:Nat):Int)=(k:Int)+1 by omega,zU,yd,Int.add_assoc]
     ·rcases xo.mp hi with q|rfl
      ·exact hI i q
      ·exact d
   ·rw[bY c]at hq;cases hq) (p:=jq.mk high g n0 0 a b) ⟨0,by simp,by simpa using hP0,λi hi=>ei hi (y9 _)⟩
 rw[show pe M=bJ (A6 M)from rfl,e1];simp only;rw[QX hg hP];by_cases c:(k:Int)<P/\n0+(k:Int)*a.aj<=high
 ·rw[bZ c];simp only[cI];rw[jW (.inr hb)];simp only;by_cases d:bT b (n0+(k:Int)*a.aj)
  ·rw[nh d,cI]
   congr 1
   exact(@decide_eq_true _ (Classical.propDecidable _) ⟨k,c.1,c.2,d⟩).symm
  ·exfalso;refine hstop (jq.mk high g (ak (n0+(k:Int)*a.aj+a.aj)) (ak ((k:Int)+1)) a b) ?_;unfold A6;simp only;rw[QX hg hP,bZ c];simp only[cI];rw[jW (.inr hb),jC d];rfl
 ·rw[bY c];simp only[cw]
  congr 1
  refine(@decide_eq_false _ (Classical.propDecidable _) ?_).symm;rintro⟨i,i1,i2,i3⟩;rcases Nat.lt_or_ge i k with q|q
  ·exact hI i q i3
  ·apply c;have:(k:Int)*a.aj<=(i:Int)*a.aj:=zM aq aq;exact⟨aq,aq⟩
def iM(a b:aL):Bool:=open Classical in J (∃x,bT a x/\bT b x)
def jd{a b:aL}:iM a b=O↔∃x,bT a x/\bT b x:=by unfold iM;exact @decide_eq_true_iff _ (Classical.propDecidable _)
def oL{a b:aL}(h:¬∃x,bT a x/\bT b x):iM a b=G:=by
 cases e:iM a b with
 |false=>rfl
 |true=>exact ei (jd.mp e) h
def TI(a b:aL):iM a b=iM b a:=by
 by_cases h:∃x,bT a x/\bT b x
 ·obtain⟨x,h1,h2⟩:=h;rw[jd.mpr ⟨x,h1,h2⟩,jd.mpr ⟨x,h2,h1⟩]
 ·rw[oL h,oL (λ⟨x,h1,h2⟩=>h ⟨x,h2,h1⟩)]
def C3{M:aL->aL->af Bool}{a b:aL}(ha:NN a)(hb:NN b)(h1:1<=a.aj)(h2:1<=b.aj){low high:Int}(el:low=max a.ah b.ah)(eh:high=min a.ag b.ag):
  (match CT a.aj b.aj with
   |none=>I
   |some r8=>match bif J (high<low)then V O else if¬r8=(0:Int)then V (bif J (Int.tmod (jm a.ah b.ah) r8=0)then G else O)else I with
    |none=>I
    |some r9=>bif r9 then V G else if¬a.aj=(0:Int)then
     match pe M (jq.mk high r8 (ak (a.ah+ak (ak ((ak (ak (ak (low-a.ah)+a.aj)-1)).tdiv a.aj)*a.aj))) 0 a b)with
     |none=>I
     |some r10=>match if¬r10.t7=(0:Int)then bif J (r10.t9<ak (r10.b1.aj.tdiv r10.t7))then V (J (r10.t8<=r10.t6))else V G else I with
      |none=>I
      |some r11=>bif r11 then match m32 r10.b1 r10.t8 with
       |none=>I
       |some r12=>bif r12 then V O else I
       else V G
     else I)=V (iM a b):=by
 have a1:=ha.lo;have a2:=ha.hi;have a3:=ha.le;have a4:=ha.sle;have b1:=hb.lo;have b2:=hb.hi;have b3:=hb.le;have b4:=hb.sle;have gl:=ko a.aj b.aj;have gr:=qR a.aj b.aj;have g0:=lQ a.aj b.aj;have gpos:1<=cA a.aj b.aj:=by
  rcases (show cA a.aj b.aj=0\/1<=cA a.aj b.aj by omega)with z|z
  ·simp_all
  ·exact z
 have hE:=early ha hb h1 h2 el eh;rw[DD aq aq];simp only;by_cases c1:high<low
 ·rw[bZ c1,oL (λ⟨x,x1,x2⟩=>by have:=x1.1;have:=x1.2.1;have:=x2.1;have:=x2.2.1;omega)];rfl
 ·rw[bY c1,cw,bI (show ¬@Eq Int (cA a.aj b.aj) 0 by omega)];simp only;by_cases c2:Int.tmod (jm a.ah b.ah) (cA a.aj b.aj)=0
  ·rw[bZ c2];simp only[cI];have l1:(low-a.ah+a.aj-1)/a.aj<=low-a.ah+a.aj-1:=yo _ aq;have l0:0<=(low-a.ah+a.aj-1)/a.aj:=zS aq aq;have l2:(low-a.ah+a.aj-1)/a.aj*a.aj<=low-a.ah+a.aj-1:=xu _ aq;have l3:0<=(low-a.ah+a.aj-1)/a.aj*a.aj:=zI l0 aq;have p0:0<=b.aj/cA a.aj b.aj:=zS aq aq;have p1:b.aj/cA a.aj b.aj<=b.aj:=yo _ aq;have eP:ak (b.aj.tdiv (cA a.aj b.aj))=b.aj/cA a.aj b.aj:=by
    rw[kF,aM]
   rw[gW,aM (n:=low-a.ah),aM (n:=low-a.ah+a.aj),aM (n:=low-a.ah+a.aj-1),kF,
    aM (n:=(low-a.ah+a.aj-1)/a.aj),aM (n:=(low-a.ah+a.aj-1)/a.aj*a.aj),aM (n:=a.ah+(low-a.ah+a.aj-1)/a.aj*a.aj)]
   refine(aj7 hb gpos eP aq h1 aq aq aq p0).trans ?_
   congr 1
   by_cases h:∃x,bT a x/\bT b x
   ·rw[jd.mpr h];exact @decide_eq_true _ (Classical.propDecidable _) (hE.mp h)
   ·rw[oL h];exact @decide_eq_false _ (Classical.propDecidable _) (λk=>h (hE.mpr k))
  ·have hno:¬∃x,bT a x/\bT b x:=by
    rintro⟨x,x1,x2⟩;apply c2;have k1:=zY gl x1.2.2;have k2:=zY gr x2.2.2;have k3:=yA k2 k1;rw[show x-b.ah-(x-a.ah)=a.ah-b.ah by omega]at k3;apply Int.tmod_eq_zero_of_dvd;unfold jm;by_cases c:a.ah<b.ah
    ·rw[bZ c,cI,aM];have:=Int.dvd_neg.mpr k3
     rwa [show-(a.ah-b.ah)=b.ah-a.ah by omega]at this
    ·rw[bY c,cw,aM];exact k3
   rw[bY c2,oL hno];rfl
def WR{M:aL->aL->af Bool}{a b:aL}(ha:NN a)(hb:NN b)(hs:b7 a<=b7 b):Zm M a b=V (iM a b):=by
 unfold Zm;rw[eE (.inr ha),eE (.inr hb)];simp only;rw[bY (show ¬@LT.lt Int _ (b7 b) (b7 a)by omega),cw];have hp:=size_pos ha;by_cases c:b7 a=1
 ·rw[bZ c,cI,jW (.inr hb)];have e:=(lX ha).mp c;have s:a.aj=0:=by rcases ha.st with k|k;exact k.2;omega
  by_cases h:bT b a.ah
  ·rw[nh h,jd.mpr ⟨_,dx ha,h⟩]
  ·rw[jC h,oL (λ⟨x,x1,x2⟩=>h (by rw[<-(D3 ha s x).mp x1];exact x2))]
 ·rw[bY c,cw];have h1:=Wz ha aq;have h2:=Wz hb aq;by_cases d:a.ah<b.ah<;>by_cases e:b.ag<a.ag
  ·rw[bZ d,bZ e];exact C3 ha hb h1 h2 aq aq
  ·rw[bZ d,bY e];exact C3 ha hb h1 h2 aq aq
  ·rw[bY d,bZ e];exact C3 ha hb h1 h2 aq aq
  ·rw[bY d,bY e];exact C3 ha hb h1 h2 aq aq
def aht{a b:aL}(ha:NN a)(hb:NN b):aez a b=V (iM a b):=eM 2 λn hn=>by
 obtain⟨k,rfl⟩:∃k,n=k+1+1:=⟨n-2,aq⟩;by_cases hs:b7 a<=b7 b
 ·exact WR (M:=HA (k+1)) ha hb hs
 ·have e1:HA (k+1) b a=V (iM b a):=WR (M:=HA k) hb ha aq;show Zm (HA (k+1)) a b=_;unfold Zm;rw[eE (.inr ha),eE (.inr hb)];simp only;rw[bZ (show @LT.lt Int _ (b7 b) (b7 a)by omega),cI,e1,TI]
def kV(a b:aL):Bool:=J (1<b7 a)||J (1<b7 b)||J (a.ah≠b.ah)
def sw{a:aL}(h:NN a)(k:¬1<b7 a):a.ah=a.ag:=(lX h).mp (by have:=size_pos h;omega)
def Ho{a b:aL}(ha:NN a)(hb:NN b):kV a b=O↔∃x z,bT a x/\bT b z/\x≠z:=by
 unfold kV;by_cases c1:1<b7 a
 ·rw[bZ c1];refine⟨λ_=> ?_,λ_=>rfl⟩;have:a.ah≠a.ag:=λe=>by have:=(lX ha).mpr e;omega
  by_cases e:a.ah=b.ah
  ·exact⟨_,_,gC ha,dx hb,aq⟩
  ·exact⟨_,_,dx ha,dx hb,e⟩
 ·by_cases c2:1<b7 b
  ·rw[bY c1,bZ c2];refine⟨λ_=> ?_,λ_=>rfl⟩;have:b.ah≠b.ag:=λe=>by have:=(lX hb).mpr e;omega
   by_cases e:a.ah=b.ah
   ·exact⟨_,_,dx ha,gC hb,aq⟩
   ·exact⟨_,_,dx ha,dx hb,e⟩
  ·have e1:=sw ha c1;have e2:=sw hb c2;by_cases e:a.ah=b.ah
   ·rw[bY c1,bY c2,bY (λk=>k e)];exact⟨λk=>(by cases k),λ⟨x,z,hx,hz,k⟩=>by have:=hx.1;have:=hx.2.1;have:=hz.1;have:=hz.2.1;omega⟩
   ·rw[bY c1,bY c2,bZ e];exact⟨λ_=>⟨_,_,dx ha,dx hb,e⟩,λ_=>rfl⟩
def vB(op:Int)(a b:aL):Bool×Bool:=
 if op=13 then(kV a b,iM a b)else if op=14 then(iM a b,kV a b)
 else if op=15 then(J (b.ah<=a.ag),J (a.ah<b.ag))else if op=16 then(J (b.ah<a.ag),J (a.ah<=b.ag))
 else if op=17 then(J (a.ah<=b.ag),J (b.ah<a.ag))else if op=18 then(J (a.ah<b.ag),J (b.ah<=a.ag))
 else if op=19 then(cR a 0||cR b 0,cD a&&cD b)else(cR a 0&&cR b 0,cD a||cD b)
def uQ(op:Int):Prop:=13<=op/\op<=20
def rC(p:Bool):oq p=1↔p=true:=by cases p<;>decide
def sM(p:Bool):oq p=0↔p=false:=by cases p<;>decide
def jg{op:Int}(h:uQ op):op=13\/op=14\/op=15\/op=16\/op=17\/op=18\/op=19\/op=20:=by
 obtain⟨h1,h2⟩:=h;omega
def F9{op:Int}(h:uQ op)(x z:Int):fR op x z=0\/fR op x z=1:=by
 have k:∀p:Bool,oq p=0\/oq p=1:=λp=>by cases p<;>decide
 rcases jg h with rfl|rfl|rfl|rfl|rfl|rfl|rfl|rfl<;>exact k _
def Wx{op:Int}{a b:aL}(h:uQ op)(ha:NN a)(hb:NN b):(vB op a b).2=O↔∃x z,bT a x/\bT b z/\fR op x z=1:=by
 rcases jg h with rfl|rfl|rfl|rfl|rfl|rfl|rfl|rfl
 ·show iM a b=O↔∃x z,bT a x/\bT b z/\oq (J (x=z))=1;rw[jd];exact⟨λ⟨x,h1,h2⟩=>⟨x,x,h1,h2,by rw[rC];exact bZ rfl⟩,λ⟨x,z,h1,h2,h3⟩=>by
   rw[rC]at h3;have:=of_decide_eq_true h3;subst this;exact⟨x,h1,h2⟩⟩
 ·show kV a b=O↔∃x z,bT a x/\bT b z/\oq (!J (x=z))=1;rw[Ho ha hb];exact⟨λ⟨x,z,h1,h2,h3⟩=>⟨x,z,h1,h2,by rw[rC,bY h3];rfl⟩,λ⟨x,z,h1,h2,h3⟩=>⟨x,z,h1,h2,λe=>by rw[rC,bZ e]at h3;cases h3⟩⟩
 ·show J (a.ah<b.ag)=O↔∃x z,bT a x/\bT b z/\oq (J (x<z))=1;refine⟨λk=>⟨_,_,dx ha,gC hb,by rw[rC];exact k⟩,λ⟨x,z,h1,h2,h3⟩=> ?_⟩;rw[rC]at h3;have:=of_decide_eq_true h3;exact bZ (by have:=h1.1;have:=h2.2.1;omega)
 ·show J (a.ah<=b.ag)=O↔∃x z,bT a x/\bT b z/\oq (J (x<=z))=1;refine⟨λk=>⟨_,_,dx ha,gC hb,by rw[rC];exact k⟩,λ⟨x,z,h1,h2,h3⟩=> ?_⟩;rw[rC]at h3;have:=of_decide_eq_true h3;exact bZ (by have:=h1.1;have:=h2.2.1;omega)
 ·show J (b.ah<a.ag)=O↔∃x z,bT a x/\bT b z/\oq (J (z<x))=1;refine⟨λk=>⟨_,_,gC ha,dx hb,by rw[rC];exact k⟩,λ⟨x,z,h1,h2,h3⟩=> ?_⟩;rw[rC]at h3;have:=of_decide_eq_true h3;exact bZ (by have:=h1.2.1;have:=h2.1;omega)
 ·show J (b.ah<=a.ag)=O↔∃x z,bT a x/\bT b z/\oq (J (z<=x))=1;refine⟨λk=>⟨_,_,gC ha,dx hb,by rw[rC];exact k⟩,λ⟨x,z,h1,h2,h3⟩=> ?_⟩;rw[rC]at h3;have:=of_decide_eq_true h3;exact bZ (by have:=h1.2.1;have:=h2.1;omega)
 ·show (cD a&&cD b)=O↔∃x z,bT a x/\bT b z/\oq (J (x≠0/\z≠0))=1;rw[zh,lU (.inr ha),lU (.inr hb)];constructor
  ·rintro⟨⟨x,h1,h2⟩,⟨z,h3,h4⟩⟩;exact⟨x,z,h1,h3,by rw[rC];exact bZ ⟨h2,h4⟩⟩
  ·rintro⟨x,z,h1,h2,h3⟩;rw[rC]at h3;have:=of_decide_eq_true h3;exact⟨⟨x,h1,this.1⟩,⟨z,h2,this.2⟩⟩
 ·show (cD a||cD b)=O↔∃x z,bT a x/\bT b z/\oq (J (x≠0\/z≠0))=1;rw[yJ,lU (.inr ha),lU (.inr hb)];constructor
  ·rintro(⟨x,h1,h2⟩|⟨z,h3,h4⟩)
   ·exact⟨x,_,h1,dx hb,by rw[rC];exact bZ (.inl h2)⟩
   ·exact⟨_,z,dx ha,h3,by rw[rC];exact bZ (.inr h4)⟩
  ·rintro⟨x,z,h1,h2,h3⟩;rw[rC]at h3;rcases of_decide_eq_true h3 with k|k
   ·exact .inl ⟨x,h1,k⟩
   ·exact .inr ⟨z,h2,k⟩
def aa3{op:Int}{a b:aL}(h:uQ op)(ha:NN a)(hb:NN b):(vB op a b).1=O↔∃x z,bT a x/\bT b z/\fR op x z=0:=by
 rcases jg h with rfl|rfl|rfl|rfl|rfl|rfl|rfl|rfl
 ·show kV a b=O↔∃x z,bT a x/\bT b z/\oq (J (x=z))=0;rw[Ho ha hb];exact⟨λ⟨x,z,h1,h2,h3⟩=>⟨x,z,h1,h2,by rw[sM];exact bY h3⟩,λ⟨x,z,h1,h2,h3⟩=>⟨x,z,h1,h2,λe=>by rw[sM,bZ e]at h3;cases h3⟩⟩
 ·show iM a b=O↔∃x z,bT a x/\bT b z/\oq (!J (x=z))=0;rw[jd];exact⟨λ⟨x,h1,h2⟩=>⟨x,x,h1,h2,by rw[sM,bZ rfl];rfl⟩,λ⟨x,z,h1,h2,h3⟩=>by
   by_cases e:x=z
   ·subst e;exact⟨x,h1,h2⟩
   ·rw[bY e]at h3;cases h3⟩
 ·show J (b.ah<=a.ag)=O↔∃x z,bT a x/\bT b z/\oq (J (x<z))=0;refine⟨λk=>⟨_,_,gC ha,dx hb,by rw[sM];exact bY (by have:=of_decide_eq_true k;omega)⟩,λ⟨x,z,h1,h2,h3⟩=> ?_⟩;rw[sM]at h3;have:=of_decide_eq_false h3;exact bZ (by have:=h1.2.1;have:=h2.1;omega)
 ·show J (b.ah<a.ag)=O↔∃x z,bT a x/\bT b z/\oq (J (x<=z))=0;refine⟨λk=>⟨_,_,gC ha,dx hb,by rw[sM];exact bY (by have:=of_decide_eq_true k;omega)⟩,λ⟨x,z,h1,h2,h3⟩=> ?_⟩;rw[sM]at h3;have:=of_decide_eq_false h3;exact bZ (by have:=h1.2.1;have:=h2.1;omega)
 ·show J (a.ah<=b.ag)=O↔∃x z,bT a x/\bT b z/\oq (J (z<x))=0;refine⟨λk=>⟨_,_,dx ha,gC hb,by rw[sM];exact bY (by have:=of_decide_eq_true k;omega)⟩,λ⟨x,z,h1,h2,h3⟩=> ?_⟩;rw[sM]at h3;have:=of_decide_eq_false h3;exact bZ (by have:=h1.1;have:=h2.2.1;omega)
 ·show J (a.ah<b.ag)=O↔∃x z,bT a x/\bT b z/\oq (J (z<=x))=0;refine⟨λk=>⟨_,_,dx ha,gC hb,by rw[sM];exact bY (by have:=of_decide_eq_true k;omega)⟩,λ⟨x,z,h1,h2,h3⟩=> ?_⟩;rw[sM]at h3;have:=of_decide_eq_false h3;exact bZ (by have:=h1.1;have:=h2.2.1;omega)
 ·show (cR a 0||cR b 0)=O↔∃x z,bT a x/\bT b z/\oq (J (x≠0/\z≠0))=0;rw[yJ,oc,oc];constructor
  ·rintro(h1|h1)
   ·exact⟨0,_,h1,dx hb,by rw[sM];exact bY (λk=>k.1 rfl)⟩
   ·exact⟨_,0,dx ha,h1,by rw[sM];exact bY (λk=>k.2 rfl)⟩
  ·rintro⟨x,z,h1,h2,h3⟩;rw[sM]at h3;by_cases e:x=0
   ·simp_all
   ·simp_all
 ·show (cR a 0&&cR b 0)=O↔∃x z,bT a x/\bT b z/\oq (J (x≠0\/z≠0))=0;rw[zh,oc,oc];constructor
  ·rintro⟨h1,h2⟩;exact⟨0,0,h1,h2,by rw[sM];exact bY (λk=>k.elim (λe=>e rfl) (λe=>e rfl))⟩
  ·rintro⟨x,z,h1,h2,h3⟩;rw[sM]at h3;simp_all
def Rn{op:Int}{a b:aL}(h:uQ op)(ha:NN a)(hb:NN b):((vB op a b).1||(vB op a b).2)=O:=by
 rw[yJ];rcases F9 h a.ah b.ah with e|e
 ·exact .inl ((aa3 h ha hb).mpr ⟨_,_,dx ha,dx hb,e⟩)
 ·exact .inr ((Wx h ha hb).mpr ⟨_,_,dx ha,dx hb,e⟩)
def S6{P:Int->Prop}{no yes:Bool}(h:∀y,P y->y=0\/y=1)(h0:no=O↔P 0)(h1:yes=O↔P 1)(ho:(no||yes)=O):dz P (iY no yes):=by
 cases no with
 |true=>
  have p0:=h0.mp rfl;cases yes with
  |true=>
   have p1:=h1.mp rfl;refine⟨p0,p1,λy hy=> ?_,by decide,λd hd=> ?_⟩
   ·rcases h y hy with rfl|rfl
    ·exact⟨by decide,by decide,⟨0,rfl⟩⟩
    ·exact⟨by decide,by decide,⟨1,rfl⟩⟩
   ·exact hd 1 p1
  |false=>
   refine⟨p0,p0,λy hy=> ?_,by decide,λd _=>xK d⟩;rcases h y hy with rfl|rfl
   ·exact⟨by decide,by decide,⟨0,rfl⟩⟩
   ·simp_all
 |false=>
  cases yes with
  |true=>
   have p1:=h1.mp rfl;refine⟨p1,p1,λy hy=> ?_,by decide,λd _=>xK d⟩;rcases h y hy with rfl|rfl
   ·exact ei (h0.mpr hy) (by decide)
   ·exact⟨by decide,by decide,⟨0,rfl⟩⟩
  |false=>cases ho
def aet{op:Int}{a b:aL}(h:uQ op)(ha:NN a)(hb:NN b):dz (sW op a b) (iY (vB op a b).1 (vB op a b).2):=
 S6 (λy ⟨x,z,_,_,e⟩=>by rw[e];exact F9 h x z)
  ((aa3 h ha hb).trans ⟨λ⟨x,z,h1,h2,e⟩=>⟨x,z,h1,h2,e.symm⟩,λ⟨x,z,h1,h2,e⟩=>⟨x,z,h1,h2,e.symm⟩⟩)
  ((Wx h ha hb).trans ⟨λ⟨x,z,h1,h2,e⟩=>⟨x,z,h1,h2,e.symm⟩,λ⟨x,z,h1,h2,e⟩=>⟨x,z,h1,h2,e.symm⟩⟩) (Rn h ha hb)
def aHt{x y:Int}:(bif J (x=y)then G else O)=J (x≠y):=by
 simp
def amL{op:Int}{a b:aL}(h:uQ op)(ha:NN a)(hb:NN b):aag op a b=V (iY (vB op a b).1 (vB op a b).2):=by
 obtain⟨c,e,hc⟩:=ahm ha hb;have em:fu c= !iM a b:=by
  cases k:fu c with
  |true=>rw[oL (λx=>by have:=hc.mpr x;rw[k]at this;cases this)];rfl
  |false=>rw[jd.mpr (hc.mp k)];rfl
 have ed:(bif J (1<b7 a)then V O else bif J (1<b7 b)then V O else V (J (a.ah≠b.ah)))=V (kV a b):=by
  unfold kV;cases J (1<b7 a)<;>cases J (1<b7 b)<;>rfl
 unfold aag;rw[e];rw[lD (.inr ha),lD (.inr hb)];simp only;rw[aHt,ed,Di (.inr ha),Di (.inr hb)];rw[em];simp only[UU];rcases jg h with rfl|rfl|rfl|rfl|rfl|rfl|rfl|rfl
 ·show _=V (iY (kV a b) (iM a b));cases iM a b<;>rfl
 ·show _=V (iY (iM a b) (kV a b));cases iM a b<;>rfl
 ·rfl
 ·rfl
 ·rfl
 ·rfl
 ·show _=V (iY (cR a 0||cR b 0) (cD a&&cD b));cases cR a 0<;>cases cD a<;>cases cR b 0<;>cases cD b<;>rfl
 ·show _=V (iY (cR a 0&&cR b 0) (cD a||cD b));cases cR a 0<;>cases cD a<;>cases cR b 0<;>cases cD b<;>rfl
def diff_eq{a:aL}(h:NN a):kV a a=J (1<b7 a):=by
 unfold kV;simp
def US{a b:aL}(ha:NN a)(hb:NN b)(h:a≠b):kV a b=O:=by
 unfold kV;by_cases c1:1<b7 a
 ·rw[bZ c1];rfl
 ·by_cases c2:1<b7 b
  ·rw[bY c1,bZ c2];rfl
  ·by_cases c3:a.ah=b.ah
   ·exfalso;have e1:=sw ha c1;have e2:=sw hb c2;exact h (Dy c3 aq (by rcases ha.st with k|k<;>rcases hb.st with l|l<;>omega))
   ·rw[bZ c3,Bool.or_true]
def VS{op:Int}{a b:aL}(h:uQ op)(ha:NN a)(hb:NN b):abJ op a b=V (iY (vB op a b).1 (vB op a b).2):=by
 have ho:=Rn h ha hb;rw[<-Xx ho];unfold abJ;rw[aht ha hb,oP (.inr ha),oP (.inr hb)];rw[eE (.inr ha)];rcases jg h with rfl|rfl|rfl|rfl|rfl|rfl|rfl|rfl
 ·show _=V (ji (kV a b) (iM a b));by_cases e:a=b
  ·subst e;rw[Iu,diff_eq ha];rfl
  ·rw[Ip e,US ha hb e];rfl
 ·show _=V (ji (iM a b) (kV a b));by_cases e:a=b
  ·subst e;rw[Iu,diff_eq ha];rfl
  ·rw[Ip e,US ha hb e];rfl
 ·rfl
 ·rfl
 ·rfl
 ·rfl
 ·show _=V (ji (cR a 0||cR b 0) (cD a&&cD b));cases cR a 0<;>cases cD a<;>cases cR b 0<;>cases cD b<;>rfl
 ·show _=V (ji (cR a 0&&cR b 0) (cD a||cD b));cases cR a 0<;>cases cD a<;>cases cR b 0<;>cases cD b<;>rfl
def aci{op:Int}{a b:aL}(h:uQ op)(ha:NN a)(hb:NN b):SD op a b:=by
 have hbin:binop op:=by
  obtain⟨h1,h2⟩:=h;exact⟨aq,aq⟩
 refine⟨(iY (vB op a b).1 (vB op a b).2,0),nM hbin ha hb ?_,?_,vz _ _⟩
 ·rw[amL h ha hb];rcases jg h with rfl|rfl|rfl|rfl|rfl|rfl|rfl|rfl<;>rfl
 ·by_cases hs:cnt a*cnt b<=4096
  ·rw[oO hbin ha hb hs];rcases Dl hbin ha hb aq with ⟨_,c,e,k⟩|⟨k,_⟩
   ·rw[e,k.uniq (aet h ha hb)]
   ·exact ei (λy ⟨x,z,_,_,e⟩=>by rw[e];rcases F9 h x z with q|q<;>rw[q]<;>exact⟨by decide,by decide⟩) k
  ·rw[AB hbin ha hb hs];unfold aei;rw[VS h ha hb];rcases jg h with rfl|rfl|rfl|rfl|rfl|rfl|rfl|rfl<;>rfl
def aa6{op:Int}{a b:aL}(h:N2 op)(ha:NN a)(hb:NN b):SD op a b:=by
 obtain⟨c,e1,e2,hv⟩:=acZ h ha hb;have hbin:binop op:=by unfold binop;rcases h with rfl|rfl|rfl|rfl<;>decide
 refine⟨(c,0),nM hbin ha hb ?_,e2,hv⟩;rw[e1];rcases h with rfl|rfl|rfl|rfl<;>rfl
def OQ(op:Int){a b:aL}(ha:NV a)(hb:NV b):SD op a b:=by
 by_cases ho:binop op
 ·rcases ha with rfl|ha
  ·refine⟨(cM,0),?_,?_, .inl rfl⟩
   ·unfold vK;rw[eW,eW,dZ (.inl rfl),dZ hb,j6,bZ ho,kI];rfl
   ·unfold oI;rw[gj,gj,dZ (.inl rfl),dZ hb,show GY op=CK op from rfl,j6,bZ ho,tU];rfl
  ·rcases hb with rfl|hb
   ·refine⟨(cM,0),?_,?_, .inl rfl⟩
    ·unfold vK;rw[eW,eW,dZ (.inl rfl),dZ (.inr ha),j6,bZ ho,kI,eO ha.ne];rfl
    ·unfold oI;rw[gj,gj,dZ (.inl rfl),dZ (.inr ha),show GY op=CK op from rfl,j6,bZ ho,tU,gZ ha];rfl
   ·obtain⟨o1,o2⟩:=ho;rcases (show op=8\/op=9\/op=10\/(op=11\/op=12\/op=21\/op=22)\/(13<=op/\op<=20)by omega)with rfl|rfl|rfl|h|h
    ·exact ab5 ha hb
    ·exact aa1 ha hb
    ·exact aen ha hb
    ·exact aa6 h ha hb
    ·exact aci h ha hb
 ·refine⟨(aL.mk 0 0 0,1),?_,?_,Tt⟩
  ·unfold vK;rw[eW,eW,dZ ha,dZ hb,j6,bY ho];rfl
  ·unfold oI;rw[gj,gj,dZ ha,dZ hb,show GY op=CK op from rfl,j6,bY ho];rfl
abbrev pQ:=Int
def d117:Td 0 pQ:= .c [] [4] (.r 0 0 (ec 4 aN en) sn (λz=>z.1.1) (λx=>((x,()),(()))))
def avu:=(lc (qg 137) (aS ln))
def ar0(M:az->Int->af pQ):bu->bu:=eL vn 117 G avu d117 (λg=>M g.1 g.2.1)
def alq(M:az->Int->af pQ):Prop:=HL vn 117 avu d117 (λg=>M g.1 g.2.1)
def Vt{M:az->Int->af pQ}(hM:alq M){F:bu}(h:bz vn F):bz vn (ar0 M F):=ep (sc:=pF) dh hM ⟨_,func117,aV,aV⟩ (λ_=>aV) (λ_=>aV) h
def alr(M117:az->Int->af pQ):bu:=(ar0 M117 di)
def ahJ{M117}(h117:alq M117):bz vn (alr M117):=(Vt h117 aP)
structure Gv where
 (t1 t5:Int)
 b0:az
def RU:Td 0 Gv:= .c [] [1,2,5] (.r 0 1 (ec 1 aN (ec 2 (qp 0 0) (ec 5 aN en))) (sb 0 137 (lg 137) sn) (λz=>⟨z.1.1,z.1.t.1,z.2.1⟩) (λx=>((x.t1,(),x.t5,()),(x.b0,()))))
def K3(M117:az->Int->af pQ)(p:Gv):af (af Gv):=
 match bif J (p.t5<zR p.b0.ax)then V (J (0<=p.t1))else V G with|I=>I|V r1=>bif r1 then if 0<=p.t5/\p.t5<zR p.b0.ax then match M117 (az.mk p.b0.ax[zD p.t5]!.bE p.b0.ax[zD p.t5]!.fN p.b0.ax[zD p.t5]!.ax) p.t1 with|I=>I|V r2=>V (V (Gv.mk r2 (ak (p.t5+1)) (az.mk p.b0.bE p.b0.fN p.b0.ax)))else I else V (I)
def aba(M117:az->Int->af pQ):An:=(.two (.two (.rb [] 16) .no) .no)
def K4(M117:az->Int->af pQ):=bJ (K3 M117)
def aon(M117:az->Int->af pQ):An:=(noTwo (noTwo (.two (noTwo (RU.lp (K4 M117) (aba M117))) .no)))
def aAv{M117}:∀f∈([]:aa Nat),bA (alr M117) f:=aH
def aw1(M117:az->Int->af pQ):eX vn (alr M117) 0 300 117 (aon M117):=b6 (l:=[(aY f117 0,(RU.lp (K4 M117) (aba M117))),(.skip,(.rb [] 16))]) func117 (bN aV) aV (aA (aO RU) (aA aAv aH))
def ans(M117:az->Int->af pQ)(a0:az)(a1:Int):af pQ:=
 match K4 M117 (Gv.mk (ak (a1-1)) 0 (az.mk a0.bE a0.fN a0.ax))with|I=>I|V r3=>match bif J (r3.t5<zR r3.b0.ax)then V (J (0<=r3.t1))else V G with|I=>I|V r4=>bif r4 then if 0<=r3.t5/\r3.t5<zR r3.b0.ax then match M117 (az.mk r3.b0.ax[zD r3.t5]!.bE r3.b0.ax[zD r3.t5]!.fN r3.b0.ax[zD r3.t5]!.ax) r3.t1 with|I=>I|V r5=>I else I else V (r3.t1)
def aFh(M117:az->Int->af pQ)(a0:az)(a1:Int):bU vn (alr M117) 300 (aon M117) 117 (avu.c (a0,a1,())) [] 0 d117.rd=ans M117 a0 a1:=aV
def anS:Nat->(az->Int->af pQ)
 |0=>(λ_ _=>I)
 |n+1=>(ans (anS n))
def Su(n:Nat):az->Int->af pQ:=(anS n)
def ME:∀n,alq (Su n)
 |0=>λ_ _ h=>(by cases h)
 |n+1=>by
  have ih:=ME n;have i117:=ih;exact(dR (ahJ i117) (aw1 (Su n)) (λ_=>aV) (λ_=>aV) λg=>aFh (Su n) g.1 g.2.1)
def TN:az->Int->af pQ:=λa0 a1=>lim (λn=>Su n a0 a1)
def ang:alq TN:=λg b h=>by
 obtain⟨n,hn⟩:=dA (show lim (λn=>Su n g.1 g.2.1)=V b from h);exact(ME n) g b hn
def ar4(F:bu):bu:=ar0 TN F
def WZ{F:bu}(h:bz vn F):bz vn (ar4 F):=Vt ang h
abbrev qC:=Int
def d116:Td 0 qC:= .c [] [4] (.r 0 0 (ec 4 aN en) sn (λz=>z.1.1) (λx=>((x,()),(()))))
def avw:=(lc (ql 166) (aS ln))
def aqq(M:(aa aB)->Int->af qC):bu->bu:=eL vn 116 G avw d116 (λg=>M g.1 g.2.1)
def ahR(M:(aa aB)->Int->af qC):Prop:=HL vn 116 avw d116 (λg=>M g.1 g.2.1)
def Vg{M:(aa aB)->Int->af qC}(hM:ahR M){F:bu}(h:bz vn F):bz vn (aqq M F):=ep (sc:=pF) dh hM ⟨_,func116,aV,aV⟩ (λ_=>aV) (λ_=>aV) h
def amd(M116:(aa aB)->Int->af qC):bu:=(ar4 (aqq M116 di))
def aiM{M116}(h116:ahR M116):bz vn (amd M116):=(WZ (Vg h116 aP))
structure Ff where
 t0:List aB
 (t1 t5:Int)
def Qz:Td 0 Ff:= .c [] [0,1,5] (.r 0 0 (ec 0 (ql 166) (ec 1 aN (ec 5 aN en))) sn (λz=>⟨z.1.1,z.1.2.1,z.1.t.1⟩) (λx=>((x.t0,x.t1,x.t5,()),(()))))
def Gu(M116:(aa aB)->Int->af qC)(p:Ff):af (af Ff):=
 match bif J (p.t5<zR p.t0)then V (J (0<=p.t1))else V G with|I=>I|V r1=>bif r1 then if 0<=p.t5/\p.t5<zR p.t0 then match TN (az.mk p.t0[zD p.t5]!.aG.bE p.t0[zD p.t5]!.aG.fN p.t0[zD p.t5]!.aG.ax) (ak (p.t1-1))with|I=>I|V r2=>if 0<=p.t5/\p.t5<zR p.t0 then bif J (r2<(↑p.t0[zD p.t5]!.aR.length:Int))then V (I)else if 0<=p.t5/\p.t5<zR p.t0 then if 0<=p.t5/\p.t5<zR p.t0 then if 0<=p.t5/\p.t5<zR p.t0 then match M116 p.t0[zD p.t5]!.aQ (ak (r2-(↑p.t0[zD p.t5]!.aR.length:Int)))with|I=>I|V r3=>match M116 p.t0[zD p.t5]!.aW r3 with|I=>I|V r4=>V (V (Ff.mk p.t0 r4 (ak (p.t5+1))))else I else I else I else I else I else V (I)
def acA(M116:(aa aB)->Int->af qC):An:=(.two (.two (.rb [] 13) .no) .no)
def Lg(M116:(aa aB)->Int->af qC):=bJ (Gu M116)
def apg(M116:(aa aB)->Int->af qC):An:=(noTwo (.two (noTwo (Qz.lp (Lg M116) (acA M116))) .no))
def aCz{M116}:∀f∈([]:aa Nat),bA (amd M116) f:=aH
def azI(M116:(aa aB)->Int->af qC):eX vn (amd M116) 0 300 116 (apg M116):=b6 (l:=[(aY f116 0,(Qz.lp (Lg M116) (acA M116))),(.skip,(.rb [] 13))]) func116 (bN aV) aV (aA (aO Qz) (aA aCz aH))
def akS(M116:(aa aB)->Int->af qC)(a0:aa aB)(a1:Int):af qC:=
 match Lg M116 (Ff.mk a0 a1 0)with|I=>I|V r5=>match bif J (r5.t5<zR r5.t0)then V (J (0<=r5.t1))else V G with|I=>I|V r6=>bif r6 then if 0<=r5.t5/\r5.t5<zR r5.t0 then match TN (az.mk r5.t0[zD r5.t5]!.aG.bE r5.t0[zD r5.t5]!.aG.fN r5.t0[zD r5.t5]!.aG.ax) (ak (r5.t1-1))with|I=>I|V r7=>if 0<=r5.t5/\r5.t5<zR r5.t0 then bif J (r7<(↑r5.t0[zD r5.t5]!.aR.length:Int))then V (-1)else if 0<=r5.t5/\r5.t5<zR r5.t0 then if 0<=r5.t5/\r5.t5<zR r5.t0 then if 0<=r5.t5/\r5.t5<zR r5.t0 then match M116 r5.t0[zD r5.t5]!.aQ (ak (r7-(↑r5.t0[zD r5.t5]!.aR.length:Int)))with|I=>I|V r8=>match M116 r5.t0[zD r5.t5]!.aW r8 with|I=>I|V r9=>I else I else I else I else I else I else V (r5.t1)
def aGO(M116:(aa aB)->Int->af qC)(a0:aa aB)(a1:Int):bU vn (amd M116) 300 (apg M116) 116 (avw.c (a0,a1,())) [] 0 d116.rd=akS M116 a0 a1:=aV
def apu:Nat->((aa aB)->Int->af qC)
 |0=>(λ_ _=>I)
 |n+1=>(akS (apu n))
def RJ(n:Nat):(aa aB)->Int->af qC:=(apu n)
def Pb:∀n,ahR (RJ n)
 |0=>λ_ _ h=>(by cases h)
 |n+1=>by
  have ih:=Pb n;have i116:=ih;exact(dR (aiM i116) (azI (RJ n)) (λ_=>aV) (λ_=>aV) λg=>aGO (RJ n) g.1 g.2.1)
def af2:(aa aB)->Int->af qC:=λa0 a1=>lim (λn=>RJ n a0 a1)
def agW:ahR af2:=λg b h=>by
 obtain⟨n,hn⟩:=dA (show lim (λn=>RJ n g.1 g.2.1)=V b from h);exact(Pb n) g b hn
def aC1(F:bu):bu:=aqq af2 F
def akp{F:bu}(h:bz vn F):bz vn (aC1 F):=Vg agW h
def F53:bu:=(ar4 (aC1 di))
structure Nj where
 t7:Int
 t27:List dD
 (t28 t29:Int)
def adS:Td 0 Nj:= .c [] [7,27,28,29] (.r 0 0 (ec 7 aN (ec 27 (ql 139) (ec 28 aN (ec 29 aN en)))) sn (λz=>⟨z.1.1,z.1.2.1,z.1.t.1,z.1.t.2.1⟩) (λx=>((x.t7,x.t27,x.t28,x.t29,()),(()))))
def PO(p:Nj):af (af Nj):=
 bif J (p.t29<p.t28)then if 0<=p.t29/\p.t29<zR p.t27 then match TN (az.mk p.t27[zD p.t29]!.aG.bE p.t27[zD p.t29]!.aG.fN p.t27[zD p.t29]!.aG.ax) p.t7 with|I=>I|V r1=>V (V (Nj.mk r1 p.t27 p.t28 (ak (p.t29+1))))else I else V (I)
def UW:=bJ (PO)
abbrev E53:=Bool
def d53:Td 0 E53:= .c [] [6] (.r 0 0 (ec 6 qb en) sn (λz=>z.1.1) (λx=>((x,()),(()))))
def aGP:∀f∈([]:aa Nat),bA (F53) f:=aH
def m53(a0:aU)(a1:Int)(a2:Int):af E53:=
 match bif J (a1<zR a0.ai)then V O else V (J (a1<zR a0.au))with|I=>I|V r2=>bif r2 then V G else match af2 a0.bM a2 with|I=>I|V r3=>match UW (Nj.mk r3 a0.au a0.au.length 0)with|I=>I|V r4=>bif J (r4.t29<r4.t28)then if 0<=r4.t29/\r4.t29<zR r4.t27 then match TN (az.mk r4.t27[zD r4.t29]!.aG.bE r4.t27[zD r4.t29]!.aG.fN r4.t27[zD r4.t29]!.aG.ax) r4.t7 with|I=>I|V r5=>I else I else V (J (0<=r4.t7))
def e53:=eL vn 53 G (lc (qg 26) (aS (aS ln))) d53 (λg=>m53 g.1 g.2.1 g.t.1)
def asC:EO e53:=λh=>kL (F:=F53) (an:=(noTwo (.two (.two (.rb [] 21) .no) (noTwo (.two (noTwo (adS.lp UW .no)) .no))))) (l:=[(.skip,(.rb [] 21)),(aY f53 0,(adS.lp UW .no))]) func53 (WZ (akp aP)) (aA aGP (aA (aO adS) aH)) h
def Oa:EP e53:=λh=>kP h
def az.eta(t:az):az.mk t.bE t.fN t.ax=t:=by cases t;rfl
def az.eV{t k:az}(h:k∈t.ax):zf k<zf t:=by
 cases t;have:=vg h;simp only[az.mk.sizeOf_spec];simp only at this;omega
def nT(t:az):Nat:=1+(t.ax.attach.map λk=>nT k.1).sum
termination_by zf t
decreasing_by exact az.eV k.2
def kH(l:aa az):Nat:=(l.map nT).sum
def vS(t:az):nT t=1+kH t.ax:=by
 rw[nT,kH];simp
def rD(k:az)(ks:aa az):kH (k::ks)=nT k+kH ks:=by simp[kH]
def UC{k:az}{ks:aa az}(h:k∈ks):nT k<=kH ks:=by
 induction ks with
 |nil=>cases h
 |cons a ks ih=>
  rw[rD];rcases zy.1 h with rfl|h
  ·omega
  ·have:=ih h;omega
def aa5(t:az):0<nT t:=by rw[vS];omega
def tl(t:az)(left:Int):Int:=if(nT t:Int)<=left then left-nT t else if 0<=left then-1 else left-1
def tls:aa az->Int->Int
 |[],l=>l
 |k::ks,l=>if 0<=l then tls ks (tl k l)else l
def adO:∀(ks:aa az) (l:Int),tls ks l=if 0<=l then(if(kH ks:Int)<=l then l-kH ks else-1)else l
 |[],l=>by simp[tls,kH];omega
 |k::ks,l=>by
  have e:=rD k ks;unfold tls;by_cases h:0<=l
  ·rw[bI h,bI h,adO ks,e];unfold tl;grind
  ·omega
def azu(t:az)(left:Int):tl t left=tls t.ax (left-1):=by
 rw[adO,tl,vS];grind
def acs(t:az)(l:Int):(0<=l-> -1<=tl t l/\tl t l<=l-1)/\(l<0->tl t l=l-1):=by
 have:=aa5 t;unfold tl;grind
def ae9(M:az->Int->af pQ)(t:az)(hM:∀k∈t.ax,∀l:Int,0<=l->l<=1000->M k l=V (tl k l)):
  ∀(ks:aa az) (i:Nat) (l:Int),t.ax.drop i=ks->i+zR ks=zR t.ax->l<=1000-i->∃q,K4 M ⟨l,i,t⟩=V q/\q.t1=tls ks l/\q.b0=t/\(q.t5<zR t.ax->q.t1<0)
 |[],i,l,hd,hl,_=>by
  refine⟨_,ct λr=> ?_,rfl,rfl,λh=> ?_⟩
  ·have:¬((i:Int)<zR t.ax):=by simp at hl;omega
   simp[K3,this]
  ·simp at hl h;omega
 |k::ks,i,l,hd,hl,h2=>by
  have hil:i<zR t.ax:=by simp at hl;omega
  have hki:t.ax[i]! =k:=by
   have:t.ax[i]? =V k:=by
    have:=congrArg List.head? hd;rw[List.head?_drop]at this
    assumption
   rw[List.getElem!_eq_getElem?_getD,this];rfl
  have hmem:k∈t.ax:=by rw[<-hki,getElem!_pos t.ax i hil];exact xN hil
  by_cases h0:0<=l
  ·have hd':t.ax.drop (i+1)=ks:=by
    have:=congrArg List.tail hd;rw[List.tail_drop]at this
    assumption
   have b3:=((acs k l).1 h0).2;obtain⟨q,e1,e2,e3,e4⟩:=ae9 M t hM ks (i+1) (tl k l) hd' (by simp at hl;omega) aq;refine⟨q,?_,?_,e3,e4⟩
   ·rw[<-e1];refine bR ?_;have hw:ak ((i:Int)+1)=((i+1:Nat):Int):=by rw[aM];omega
    have hk2:t.ax[i]=k:=by rw[<-hki,getElem!_pos t.ax i hil]
    simp[K3,hil,h0,hk2,az.eta,hM k hmem l h0 aq];exact hw
   ·rw[e2];show _=if 0<=l then _ else _
    omega
  ·refine⟨_,ct λr=> ?_,?_,rfl,λh=> ?_⟩
   ·simp[K3,h0]
   ·show l=if 0<=l then _ else l
    omega
   ·simp only;omega
def ajy(M:az->Int->af pQ)(t:az)(hM:∀k∈t.ax,∀l:Int,0<=l->l<=1000->M k l=V (tl k l))(l:Int)(h1: -1000000<=l)(h2:l<=1000):ans M t l=V (tl t l):=by
 obtain⟨q,e1,e2,e3,e4⟩:=ae9 M t hM t.ax 0 (l-1) rfl (by simp) aq;have hw:ak (l-1)=l-1:=aM;rw[azu,<-e2];unfold ans;rw[hw,az.eta,show ((0:Nat):Int)=0 from rfl]at*;rw[e1];obtain⟨q1,q5,qb⟩:=q;subst e3;dsimp only at*;by_cases h5:q5<(zR qb.ax:Int)
 ·have:=e4 h5;simp[show ¬(0<=q1)by omega]
 ·simp[h5]
def Wc:∀(n:Nat) (t:az) (l:Int),zf t<n-> -1000000<=l->l<=1000->Su n t l=V (tl t l)
 |0,_,_,h,_,_=>aq
 |n+1,t,l,h,h1,h2=>ajy (Su n) t (λk hk l h3 h4=>Wc n k l (by have:=az.eV hk;omega) aq h4) l h1 h2
def Kx(t:az)(l:Int)(h1: -1000000<=l)(h2:l<=1000):TN t l=V (tl t l):=eM (zf t+1) λn hn=>Wc n t l aq h1 h2
def aB.then_lt{s k:aB}(h:k∈s.aQ):zf k<zf s:=by
 cases s;have:=vg h;simp only[aB.mk.sizeOf_spec];simp only at this;omega
def aB.agu{s k:aB}(h:k∈s.aW):zf k<zf s:=by
 cases s;have:=vg h;simp only[aB.mk.sizeOf_spec];simp only at this;omega
def aB.eta(s:aB):aB.mk s.cg s.bg s.dJ s.fN s.aG s.aQ s.aW s.aR=s:=by cases s;rfl
def nS(s:aB):Nat:=1+nT s.aG+zR s.aR+(s.aQ.attach.map λk=>nS k.1).sum+(s.aW.attach.map λk=>nS k.1).sum
termination_by zf s
decreasing_by
 ·exact aB.then_lt k.2
 ·exact aB.agu k.2
def fM(l:aa aB):Nat:=(l.map nS).sum
def pK(s:aB):nS s=1+nT s.aG+zR s.aR+fM s.aQ+fM s.aW:=by
 rw[nS,fM,fM];simp
def nu(k:aB)(ks:aa aB):fM (k::ks)=nS k+fM ks:=by simp[fM]
def sl(l:aa aB)(left:Int):Int:=if left<0 then left else if(fM l:Int)<=left then left-fM l else-1
def s8(left:Int)(s:aB):af Int:=if left<0 then I else if tl s.aG (left-1)<zR s.aR then I else V (sl s.aW (sl s.aQ (tl s.aG (left-1)-s.aR.length)))
def NZ{left x:Int}{s:aB}(h:s8 left s=V x):0<=left/\ -1<=x/\x<=left-1/\x=if(nS s:Int)<=left then left-nS s else-1:=by
 unfold s8 at h;have e:=pK s;unfold tl sl at h;grind
def Tz{left:Int}{s:aB}(h:s8 left s=I)(h0:0<=left):left<nS s:=by
 unfold s8 at h;have e:=pK s;unfold tl at h;grind
def aoA:∀(l:aa aB) (left:Int),kX s8 (λv _=>if v<0 then v else-1) id l left=sl l left
 |[],left=>by unfold sl;simp[fM,kX];omega
 |s::l,left=>by
  have e:=nu s l;unfold kX;cases hs:s8 left s with
  |none=>
   have:=Tz hs;unfold sl;grind
  |some x=>
   obtain⟨h1,h2,h3,h4⟩:=NZ hs;dsimp only;rw[aoA l x];unfold sl;grind
def akL(M:aa aB->Int->af qC)(l:aa aB)(hM:∀s∈l,(∀x:Int,-1<=x->x<=1000->M s.aQ x=V (sl s.aQ x))/\(∀x:Int,-1<=x->x<=1000->M s.aW x=V (sl s.aW x)))(left:Int)(h1: -1<=left)(h2:left<=1000):
  akS M l left=V (sl l left):=by
 have hstep:∀(i:Nat) (b:Int) (hi:i<zR l),b<=1000-i-> -1<=b->Gu M ⟨l,b,i⟩=if b<0 then V I else if tl l[i].aG (b-1)<zR l[i].aR then V I else V (V ⟨l,sl l[i].aW (sl l[i].aQ (tl l[i].aG (b-1)-l[i].aR.length)),((i+1:Nat):Int)⟩):=λi b hi hb hb2=>by
  obtain⟨m1,m2⟩:=hM l[i] (xN hi);unfold Gu;by_cases h0:b<0
  ·simp[show ¬0<=b by omega]
  ·have e1:ak (b-1)=b-1:=aM;have e2:=Kx l[i].aG (b-1) aq aq;have e3:=acs l[i].aG (b-1);have hT: -2<=tl l[i].aG (b-1)/\tl l[i].aG (b-1)<=1000:=by grind
   by_cases h4:tl l[i].aG (b-1)<zR l[i].aR
   ·simp[hi,e1,az.eta,e2,h4]
   ·have e5:ak (tl l[i].aG (b-1)-l[i].aR.length)=tl l[i].aG (b-1)-l[i].aR.length:=aM;have e6:=m1 (tl l[i].aG (b-1)-l[i].aR.length) aq aq;have hS: -1<=sl l[i].aQ (tl l[i].aG (b-1)-l[i].aR.length)/\sl l[i].aQ (tl l[i].aG (b-1)-l[i].aR.length)<=1000:=by unfold sl;grind
    have e7:=m2 _ hS.1 hS.2;have e8:ak ((i:Int)+1)=((i+1:Nat):Int):=by rw[aM];omega
    simp[hi,h0,e1,az.eta,e2,h4,e5,e6,e7,show 0<=b by omega];exact e8
 obtain⟨i,v,hi,e1,⟨e2,e3⟩,e4⟩:=HB (rnd:=Gu M) l (λi b=>⟨l,b,(i:Int)⟩) s8 (λv _=>if v<0 then v else-1) id (λi b=>b<=1000-i/\ -1<=b) (λi b hi hI b' hs=>by
   obtain⟨q1,q2,q3,q4⟩:=NZ hs;refine⟨?_,aq,q2⟩;unfold s8 at hs;grind) (λi b hi hI hs r=>by
   unfold s8 at hs;grind) (λb hI r=>by simp[Gu]) (b:=left) ⟨aq,h1⟩
 have e1':Lg M ⟨l,left,0⟩=V ⟨l,v,i⟩:=e1;unfold akS;rw[e1'];rw[aoA]at e4;rcases e4 with ⟨h5,e4⟩|⟨h5,hn,e4⟩
 ·simp[h5,e4]
 ·rw[e4];by_cases h0:v<0
  ·simp[h5,h0,show ¬(0<=v)by omega]
  ·have e1:ak (v-1)=v-1:=aM;have e2:=Kx l[i].aG (v-1) aq aq;have h4:tl l[i].aG (v-1)<zR l[i].aR:=by unfold s8 at hn;grind
   simp[h5,h0,show 0<=v by omega,e1,az.eta,e2,h4]
def bw{s:aB}{l:aa aB}(h:s∈l):zf s.aQ<zf l/\zf s.aW<zf l:=by
 have:=vg h;cases s;simp only[aB.mk.sizeOf_spec]at this;simp only;omega
def IU:∀(n:Nat) (l:aa aB) (x:Int),zf l<n-> -1<=x->x<=1000->RJ n l x=V (sl l x)
 |0,_,_,h,_,_=>aq
 |n+1,l,x,h,h1,h2=>akL (RJ n) l (λs hs=>⟨λx h3 h4=>IU n _ x (by have:=bw hs;omega) h3 h4,λx h3 h4=>IU n _ x (by have:=bw hs;omega) h3 h4⟩) x h1 h2
def agB(l:aa aB)(x:Int)(h1: -1<=x)(h2:x<=1000):af2 l x=V (sl l x):=eM (zf l+1) λn hn=>IU n l x aq h1 h2
def few(f:aU)(vars nodes:Int):Bool:=J ((zR f.ai:Int)<=vars/\(zR f.au:Int)<=vars/\(fM f.bM+kH (f.au.map (·.aG)):Int)<=nodes)
def arG(f:aU)(vars nodes:Int)(h1:0<=vars)(h2:vars<=1000)(h3:0<=nodes)(h4:nodes<=1000):m53 f vars nodes=V (few f vars nodes):=by
 unfold m53;by_cases q1:vars<zR f.ai
 ·simp[q1,few];omega
 ·by_cases q2:vars<zR f.au
  ·simp[q2,few];omega
  ·rw[agB _ _ aq aq];have hb:sl f.bM nodes<=1000/\ -1<=sl f.bM nodes:=by unfold sl;grind
   have hstep:∀(i:Nat) (b:Int) (hi:i<zR f.au),b<=1000-> -1-(i:Int)<=b->PO ⟨b,f.au,zR f.au,i⟩=V (V ⟨tl f.au[i].aG b,f.au,zR f.au,((i+1:Nat):Int)⟩):=λi b hi hb hb2=>by
    have e2:=Kx f.au[i].aG b aq aq;have e8:ak ((i:Int)+1)=((i+1:Nat):Int):=by rw[aM];omega
    unfold PO;simp[hi,az.eta,e2];exact e8
   obtain⟨i,v,hi,e1,_,e4⟩:=HB (rnd:=PO) f.au (λi b=>⟨b,f.au,zR f.au,(i:Int)⟩) (λb h=>V (tl h.aG b)) (λv _=>v) id (λi b=>b<=1000/\ -1-(i:Int)<=b) (λi b hi hI b' hs=>by
     have:=acs f.au[i].aG b;grind) (λi b hi hI hs r=>by cases hs) (λb hI r=>by simp[PO]) (b:=sl f.bM nodes) ⟨hb.1,aq⟩
   have e1':UW ⟨sl f.bM nodes,f.au,zR f.au,0⟩=V ⟨v,f.au,zR f.au,i⟩:=e1;rcases e4 with ⟨h5,e4⟩|⟨_,hn,_⟩
   case inr=>cases hn
   have key:∀(l:aa dD) (b:Int),0<=kX (ρ:=Int) (λb h=>V (tl h.aG b)) (λv _=>v) id l b↔(kH (l.map (·.aG)):Int)<=b:=λl=>by
    induction l with
    |nil=>intro b;simp[kX,kH]
    |cons h l ih=>
     intro b;unfold kX;rw[ih,yc,rD];unfold tl;grind
   have k2:=key f.au (sl f.bM nodes);rw[e4]at k2;have k3:(0<=v)↔(kH (f.au.map (·.aG)):Int)<=sl f.bM nodes:=k2;simp only[q1,q2,CZ,cw,e1',h5,yl,few]
   congr 1
   rw[decide_eq_decide,k3];unfold sl;grind
def Z0:((0:Nat):Int)=(0:Int):=rfl
def okc(i:Nat)(c:Int):Bool:=J ((97<=c/\c<=122)\/(i≠0/\((48<=c/\c<=57)\/c=46\/c=95)))
def kr(s:ByteArray):Bool:=J (1<=s.size)&&J (s.size<=40)&&(zN s.size).all λi=>okc i (cv s i)
def jj(low high:Int):Bool:=J (low<=high/\ -1048576<=low/\high<=1048576)
def ni(vars:aa bf)(i:Nat)(v:bf):Int:=
 if kr v.fName=G then 7
 else if((vars.take i).any λw=>w.fName.toList==v.fName.toList)=O then 8
 else if v.bB<0\/3<v.bB then 1
 else if jj v.ah v.ag=G then 3
 else if v.bB=0 then(if v.eG<v.ah\/v.ag<v.eG then 3 else 0)
 else if v.eG=0 then 0 else 3
def uE(kind:Int):aa bf->Int->af Int
 |[],n=>V n
 |v::vs,n=>if v.bB=kind then(if 4096<n*(v.ag-v.ah+1)then I else uE kind vs (n*(v.ag-v.ah+1)))else uE kind vs n
def Gm(vars:aa bf):Bool:=(uE 1 vars 1).isSome&&(uE 2 vars 1).isSome&&(match uE 3 vars 1 with|V n=>J (n<=256)|I=>G)
def jK(vars:aa bf):Int:=if cz (ni vars) vars 0≠0 then cz (ni vars) vars 0 else if Gm vars=O then 0 else 4
def cq(o:Int):Int×Int:=if o=0\/o=24 then(0,0)else if o=6\/o=7 then(1,1)else if 8<=o/\o<=22 then(2,2)else if o=23 then(3,3)else if o=25 then(2,33)else(-1,-1)
def CD(vars:aa bf)(inp:Bool)(t:az):Bool:=J (0<=(cq t.bE).1/\(cq t.bE).1<=zR t.ax/\(zR t.ax:Int)<=(cq t.bE).2)&&
 (if t.bE=0 then O else if t.bE=24 then J (0<=t.fN/\t.fN<zR vars)&& !(inp&&J (vars[t.fN.toNat]!.bB=0))else J (t.fN=0))
def dH(vars:aa bf)(inp:Bool)(t:az):Bool:=CD vars inp t&&t.ax.attach.all λk=>dH vars inp k.1
termination_by zf t
decreasing_by exact az.eV k.2
def mc(vars:aa bf)(inp:Bool)(t:az):dH vars inp t=(CD vars inp t&&t.ax.all (dH vars inp)):=by
 rw[dH];simp
def gu(a b:Span):Span:=⟨if b.ah<a.ah then b.ah else a.ah,if a.ag<b.ag then b.ag else a.ag⟩
def jy(vars:aa bf)(t:az)(k:aa Span):Span:=
 if t.bE=0 then⟨t.fN,t.fN⟩
 else if t.bE=24 then⟨vars[t.fN.toNat]!.ah,vars[t.fN.toNat]!.ag⟩
 else if t.bE=6 then⟨-k[0]!.ag,-k[0]!.ah⟩
 else if t.bE=8 then⟨k[0]!.ah+k[1]!.ah,k[0]!.ag+k[1]!.ag⟩
 else if t.bE=9 then⟨k[0]!.ah-k[1]!.ag,k[0]!.ag-k[1]!.ah⟩
 else if t.bE=10 then
  gu (gu (gu ⟨k[0]!.ah*k[1]!.ah,k[0]!.ah*k[1]!.ah⟩ ⟨k[0]!.ah*k[1]!.ag,k[0]!.ah*k[1]!.ag⟩) ⟨k[0]!.ag*k[1]!.ah,k[0]!.ag*k[1]!.ah⟩) ⟨k[0]!.ag*k[1]!.ag,k[0]!.ag*k[1]!.ag⟩
 else if t.bE=11 then
  (if(0:Int)<=k[0]!.ah/\(0:Int)<=k[1]!.ah then⟨0,if k[0]!.ag< -k[0]!.ah then-k[0]!.ah else k[0]!.ag⟩else⟨-(if k[0]!.ag< -k[0]!.ah then-k[0]!.ah else k[0]!.ag),if k[0]!.ag< -k[0]!.ah then-k[0]!.ah else k[0]!.ag⟩)
 else if t.bE=12 then⟨if k[1]!.ah<0 then k[1]!.ah+1 else 0,if(0:Int)<k[1]!.ag then k[1]!.ag-1 else 0⟩
 else if t.bE=21 then⟨if k[1]!.ah<k[0]!.ah then k[1]!.ah else k[0]!.ah,if k[1]!.ag<k[0]!.ag then k[1]!.ag else k[0]!.ag⟩
 else if t.bE=22 then⟨if k[0]!.ah<k[1]!.ah then k[1]!.ah else k[0]!.ah,if k[0]!.ag<k[1]!.ag then k[1]!.ag else k[0]!.ag⟩
 else if t.bE=23\/t.bE=25 then(k.drop 2).foldl gu k[1]!
 else⟨0,1⟩
def BZ(s:Span):Bool:=J (-1048576<=s.ah/\s.ag<=1048576)
def lN:aa (af Span)->af (aa Span)
 |[]=>V []
 |none::_=>I
 |some s::xs=>match lN xs with|V l=>V (s::l)|I=>I
def iN(vars:aa bf)(t:az):af Span:=match lN (t.ax.attach.map λk=>iN vars k.1)with
 |none=>I
 |some l=>if BZ (jy vars t l)=O then V (jy vars t l)else I
termination_by zf t
decreasing_by exact az.eV k.2
def vZ(vars:aa bf)(t:az):iN vars t=match lN (t.ax.map (iN vars))with
 |none=>I
 |some l=>if BZ (jy vars t l)=O then V (jy vars t l)else I:=by
 rw[iN];simp
def fA(vars:aa bf)(inp:Bool)(t:az):Int:=if dH vars inp t=G then 1 else if(iN vars t).isSome then 0 else 3
def kQ(f:aU)(i:Nat)(h:dD):Int:=
 if kr h.fName=G then 7
 else if((f.au.take i).any λw=>w.fName.toList==h.fName.toList)=O then 8
 else if jj h.ah h.ag=G then 3
 else fA f.ai O h.aG
def dT(t:az):Int:=1+(t.ax.attach.map λk=>dT k.1).foldl max 0
termination_by zf t
decreasing_by exact az.eV k.2
def Qg(l:aa az):Int:=(l.map dT).foldl max 0
def Us(t:az):dT t=1+Qg t.ax:=by
 rw[dT,Qg];simp
def DQ(l:aa az)(k:az):Qg (l++[k])=max (Qg l) (dT k):=by
 unfold Qg;simp
def qj(l:aa az)(k:az):kH (l++[k])=kH l+nT k:=by
 simp[kH]
def Ah:∀(l:aa Int) (a:Int),a<=l.foldl max a
 |[],a=>zw _
 |x::l,a=>xV (Int.le_max_left a x) (Ah l (max a x))
def KS(l:aa az):0<=Qg l:=Ah _ _
def aqe(t:az):1<=dT t:=by have:=KS t.ax;rw[Us];omega
def dY(s:aB)(l:aa aB):zf l<zf (s::l):=by
 rw[List.cons.sizeOf_spec];omega
def j0:aa aB->Int
 |[]=>0
 |s::l=>max (max (j0 s.aQ+1) (j0 s.aW+1)) (j0 l)
termination_by l=>zf l
decreasing_by
 ·exact(bw (zk ..)).1
 ·exact(bw (zk ..)).2
 ·exact dY _ _
def fI:aa aB->Bool
 |[]=>G
 |s::l=>J (12<dT s.aG)||fI s.aQ||fI s.aW||fI l
termination_by l=>zf l
decreasing_by
 ·exact(bw (zk ..)).1
 ·exact(bw (zk ..)).2
 ·exact dY _ _
def vM(l:aa aB):0<=j0 l:=by
 induction l with
 |nil=>rw[j0];omega
 |cons s l ih=>rw[j0];omega
def adL(l:aa aB)(s:aB):j0 (l++[s])=max (j0 l) (max (j0 s.aQ+1) (j0 s.aW+1)):=by
 induction l with
 |nil=>
  rw[yz,show j0 []=0 by rw[j0],j0,show j0 []=0 by rw[j0]];omega
 |cons a l ih=>rw[xz,j0,j0,ih];omega
def OS(l:aa aB)(k:aB):fM (l++[k])=fM l+nS k:=by simp[fM]
def qm(f:aU):Bool:=J (zR f.ai<=64)&&J (zR f.au<=8)&&f.au.all (λh=>J (dT h.aG<=12))&&J (j0 f.bM<=12)&& !fI f.bM
def gI:aa Int->Bool
 |a::b::l=>J (a<b)&&gI (b::l)
 |_=>O
def CG(t:az):Bool:=J (t.bE=0/\t.fN=0/\zR t.ax=0)
def Bu(f:aU)(s:aB):Bool:=J (0<=s.dJ/\s.dJ<zR f.ai)&&J (f.ai[s.dJ.toNat]!.bB=0)
def dL(f:aU)(s:aB)(last:Bool):Bool:=
 let free:=J (zR s.aQ=0/\zR s.aW=0)
 let nob:=J (zR s.aR=0)
 if s.cg=0 then free&&Bu f s&&J (s.fN=0)&&nob
 else if s.cg=1 then free&&J (s.dJ=0)&&J (s.fN=0)&&nob
 else if s.cg=2 then free&&J (s.dJ=0)&&J (s.fN=0)&&nob&&CG s.aG
 else if s.cg=3 then J (s.dJ=0)&&J (s.fN=0)&&nob
 else if s.cg=4 then J (s.dJ=0)&&J (zR s.aW=0)&&nob
 else if s.cg=5 then free&&Bu f s&&J (0<=s.fN/\s.fN<zR f.au)&&nob&&CG s.aG
 else if s.cg=6 then free&&last&&J (s.dJ=0)&&J (s.fN=0)&&CG s.aG&&(J (1<=zR s.aR/\zR s.aR<=32)&&J ((0:Int)<=s.aR[0]!)&&gI s.aR)
 else G
def ug(s:aB):Bool:=J (0<=s.bg/\s.bg<=(if s.cg=2 then 67108864 else 10000))&&(if s.cg=4 then J (0<=s.fN/\s.fN<=4096)else O)&&(if s.cg=6 then J (s.aR[zR s.aR-1]!<=67108864)else O)
def ox(f:aU)(last:Bool)(s:aB):Int:=if dL f s last=G then 1 else if ug s=G then 3 else fA f.ai G s.aG
def cc(f:aU)(top:Bool):aa aB->Int
 |[]=>0
 |s::l=>if ox f (top&&l.isEmpty) s≠0 then ox f (top&&l.isEmpty) s else if cc f G s.aQ≠0 then cc f G s.aQ else if cc f G s.aW≠0 then cc f G s.aW else cc f top l
termination_by l=>zf l
decreasing_by
 all_goals first|exact(bw (zk ..)).1|exact(bw (zk ..)).2|exact dY _ _
def ZK(f:aU)(top:Bool)(n i:Nat)(s:aB):Int:=if ox f (top&&J (i+1=n)) s≠0 then ox f (top&&J (i+1=n)) s else if cc f G s.aQ≠0 then cc f G s.aQ else cc f G s.aW
def rB(f:aU)(top:Bool)(n:Nat):∀(l:aa aB) (i:Nat),i+zR l=n->cz (ZK f top n) l i=cc f top l
 |[],i,_=>by rw[cc];rfl
 |s::l,i,h=>by
  have ih:=rB f top n l (i+1) (by simp at h;omega);have he:l.isEmpty=J (i+1=n):=by
   cases l with
   |nil=>simp at h;simp[h]
   |cons a l=>simp at h;simp;omega
  unfold cz;rw[cc,ih,he];unfold ZK;grind
def e9:aa aB->Int×Int×Int
 |[]=>(0,0,0)
 |s::l=>match e9 s.aQ,e9 s.aW,e9 l with
  |a,b,c=>if s.cg=1 then(1+c.1,1+c.2.1,s.bg+c.2.2)
   else if s.cg=3 then(1+max a.1 b.1+c.1,max a.2.1 b.2.1+c.2.1,s.bg+max a.2.2 b.2.2+c.2.2)
   else if s.cg=4 then(1+s.fN*(1+a.1)+c.1,s.fN*a.2.1+c.2.1,s.fN*(s.bg+a.2.2)+c.2.2)
   else(1+c.1,c.2.1,s.bg+c.2.2)
termination_by l=>zf l
decreasing_by
 ·exact(bw (zk ..)).1
 ·exact(bw (zk ..)).2
 ·exact dY _ _
def Xe(f:aU):Bool:=J (4096<(e9 f.bM).1\/8<(e9 f.bM).2.1\/67108864<(e9 f.bM).2.2)
def pL(f:aU):Int:=if qm f=G then 4 else if jK f.ai≠0 then jK f.ai else if cz (kQ f) f.au 0≠0 then cz (kQ f) f.au 0 else if cc f O f.bM≠0 then cc f O f.bM else if Xe f=O then 4 else 0
def auu:bu:=di
abbrev aul:=Bool×bh
def d208:Td 1 aul:= .c [] [2] (.r 1 1 (ec 2 qb en) (sb 0 256 (lg 256) sn) (λz=>(z.1.1,z.2.1)) (λx=>((x.1,()),(x.2,()))))
def axe:=(lc (qp 0 0) ln)
def awq:=(sb 0 256 (lg 256) sn)
def anD:An:=(noTwo (.two (.rb [] 2) .no))
def azb:∀f∈([]:aa Nat),bA (auu) f:=aH
def jG(b0:bh):aul:=
 let r1:Bool:=bif b0.fQ then O else J (1024<b0.bH);(r1,b0)
def aGz(b0:bh):bU vn (auu) 300 (anD) 208 (axe.c ((),())) (awq.d (b0,())) 1 d208.rd=V (jG b0):=by
 refine Eq.trans (b:=(
  match bif b0.fQ then V (O)else V (J (1024<b0.bH))with|I=>I|V r1=>V ((r1,b0)):af aul)) aV ?_
 simp only[jG,cu,cO]
def amC:bu->bu:=eY vn 208 1 axe awq d208 (λg=>V (jG g.2.1))
def Jv:EO amC:=λh=>kY (F:=auu) (an:=anD) (l:=[(.skip,(.rb [] 2))]) func208 aP (aA azb aH) h (c:=λg=>aGz g.2.1)
abbrev sR:=bh
def d209:Td 1 sR:= .c [] [] (.r 1 1 en (sb 0 256 (lg 256) sn) (λz=>z.2.1) (λx=>((()),(x,()))))
def atL:=(lc (qp 0 0) (lc (qg 137) (aS ln)))
def auB:=(sb 0 256 (lg 256) sn)
def aue(M:az->Int->bh->af sR):bu->bu:=eY vn 209 1 atL auB d209 (λg=>M g.1.2.1 g.1.2.2.1 g.2.1)
def aim(M:az->Int->bh->af sR):Prop:=HY vn 209 1 atL auB d209 (λg=>M g.1.2.1 g.1.2.2.1 g.2.1)
def XA{M:az->Int->bh->af sR}(hM:aim M){F:bu}(h:bz vn F):bz vn (aue M F):=CB hM ⟨_,func209,aV,aV⟩ (λ_=>aV) h
def arD(M209:az->Int->bh->af sR):bu:=(aue M209 (amC di))
def akq{M209}(h209:aim M209):bz vn (arD M209):=(XA h209 (Jv aP))
structure Cj where
 t2:Int
 t29:List az
 (t30 t31:Int)
 b0:bh
def Q0:Td 1 Cj:= .c [] [0,2,29,30,31] (.r 1 1 (ec 0 (qp 0 0) (ec 2 aN (ec 29 (ql 137) (ec 30 aN (ec 31 aN en))))) (sb 0 256 (lg 256) sn) (λz=>⟨z.1.2.1,z.1.t.1,z.1.t.2.1,z.1.q.1,z.2.1⟩) (λx=>(((),x.t2,x.t29,x.t30,x.t31,()),(x.b0,()))))
def Lt(M209:az->Int->bh->af sR)(p:Cj):af (af Cj):=
 bif J (p.t31<p.t30)then if 0<=p.t31/\p.t31<zR p.t29 then match M209 (az.mk p.t29[zD p.t31]!.bE p.t29[zD p.t31]!.fN p.t29[zD p.t31]!.ax) (ak (p.t2+1)) p.b0 with|I=>I|V r1=>V (V (Cj.mk p.t2 p.t29 p.t30 (ak (p.t31+1)) r1))else I else V (I)
def FA(M209:az->Int->bh->af sR):=bJ (Lt M209)
def anQ(M209:az->Int->bh->af sR):An:=(noTwo (noTwo (noTwo (noTwo (noTwo (Q0.lp (FA M209) .no))))))
def aCE(M209:az->Int->bh->af sR):eX vn (arD M209) 1 300 209 (anQ M209):=b6 (l:=[(aY f209 0,(Q0.lp (FA M209) .no))]) func209 (bN aV) aV (aA (aO Q0) aH)
def agC(M209:az->Int->bh->af sR)(a1:az)(a2:Int)(b0:bh):af sR:=
 bif b0.fQ then bif(jG (bh.mk (ak (b0.bH+1)) O)).fst then V ((jG (bh.mk (ak (b0.bH+1)) O)).snd)else match FA M209 (Cj.mk a2 a1.ax a1.ax.length 0 (jG (bh.mk (ak (b0.bH+1)) O)).snd)with|I=>I|V r2=>bif J (r2.t31<r2.t30)then if 0<=r2.t31/\r2.t31<zR r2.t29 then match M209 (az.mk r2.t29[zD r2.t31]!.bE r2.t29[zD r2.t31]!.fN r2.t29[zD r2.t31]!.ax) (ak (r2.t2+1)) r2.b0 with|I=>I|V r3=>I else I else V (r2.b0)else bif(jG (bh.mk (ak (b0.bH+1)) (J (12<a2)))).fst then V ((jG (bh.mk (ak (b0.bH+1)) (J (12<a2)))).snd)else match FA M209 (Cj.mk a2 a1.ax a1.ax.length 0 (jG (bh.mk (ak (b0.bH+1)) (J (12<a2)))).snd)with|I=>I|V r4=>bif J (r4.t31<r4.t30)then if 0<=r4.t31/\r4.t31<zR r4.t29 then match M209 (az.mk r4.t29[zD r4.t31]!.bE r4.t29[zD r4.t31]!.fN r4.t29[zD r4.t31]!.ax) (ak (r4.t2+1)) r4.b0 with|I=>I|V r5=>I else I else V (r4.b0)
def aHC(M209:az->Int->bh->af sR)(a1:az)(a2:Int)(b0:bh):bU vn (arD M209) 300 (anQ M209) 209 (atL.c ((),a1,a2,())) (auB.d (b0,())) 1 d209.rd=agC M209 a1 a2 b0:=aV
def apk:Nat->(az->Int->bh->af sR)
 |0=>(λ_ _ _=>I)
 |n+1=>(agC (apk n))
def T6(n:Nat):az->Int->bh->af sR:=(apk n)
def MO:∀n,aim (T6 n)
 |0=>λ_ _ h=>(by cases h)
 |n+1=>by
  have ih:=MO n;have i209:=ih;exact(VX (akq i209) (aCE (T6 n)) (λ_=>aV) (λ_=>aV) (λ_=>aV) λg=>aHC (T6 n) g.1.2.1 g.1.2.2.1 g.2.1)
def GQ:az->Int->bh->af sR:=λa1 a2 b0=>lim (λn=>T6 n a1 a2 b0)
def afS:aim GQ:=λg b h=>by
 obtain⟨n,hn⟩:=dA (show lim (λn=>T6 n g.1.2.1 g.1.2.2.1 g.2.1)=V b from h);exact(MO n) g b hn
def aqN(F:bu):bu:=aue GQ F
def Wr{F:bu}(h:bz vn F):bz vn (aqN F):=XA afS h
abbrev sX:=bh
def d207:Td 1 sX:= .c [] [] (.r 1 1 en (sb 0 256 (lg 256) sn) (λz=>z.2.1) (λx=>((()),(x,()))))
def asQ:=(lc (qp 0 0) (lc (ql 166) (aS ln)))
def aqZ:=(sb 0 256 (lg 256) sn)
def arp(M:(aa aB)->Int->bh->af sX):bu->bu:=eY vn 207 1 asQ aqZ d207 (λg=>M g.1.2.1 g.1.2.2.1 g.2.1)
def alM(M:(aa aB)->Int->bh->af sX):Prop:=HY vn 207 1 asQ aqZ d207 (λg=>M g.1.2.1 g.1.2.2.1 g.2.1)
def WX{M:(aa aB)->Int->bh->af sX}(hM:alM M){F:bu}(h:bz vn F):bz vn (arp M F):=CB hM ⟨_,func207,aV,aV⟩ (λ_=>aV) h
def aq7(M207:(aa aB)->Int->bh->af sX):bu:=(aqN (amC (arp M207 di)))
def ai8{M207}(h207:alM M207):bz vn (aq7 M207):=(Wr (Jv (WX h207 aP)))
structure BH where
 t2:Int
 t8:List aB
 (t9 t10:Int)
 b0:bh
def Ts:Td 1 BH:= .c [] [0,2,8,9,10] (.r 1 1 (ec 0 (qp 0 0) (ec 2 aN (ec 8 (ql 166) (ec 9 aN (ec 10 aN en))))) (sb 0 256 (lg 256) sn) (λz=>⟨z.1.2.1,z.1.t.1,z.1.t.2.1,z.1.q.1,z.2.1⟩) (λx=>(((),x.t2,x.t8,x.t9,x.t10,()),(x.b0,()))))
def Ef(M207:(aa aB)->Int->bh->af sX)(p:BH):af (af BH):=
 bif J (p.t10<p.t9)then if 0<=p.t10/\p.t10<zR p.t8 then bif p.b0.fQ then bif(jG (bh.mk (ak (p.b0.bH+1)) O)).fst then V (I)else match GQ (az.mk p.t8[zD p.t10]!.aG.bE p.t8[zD p.t10]!.aG.fN p.t8[zD p.t10]!.aG.ax) 1 (jG (bh.mk (ak (p.b0.bH+1)) O)).snd with|I=>I|V r1=>match M207 p.t8[zD p.t10]!.aQ (ak (p.t2+1)) r1 with|I=>I|V r2=>match M207 p.t8[zD p.t10]!.aW (ak (p.t2+1)) r2 with|I=>I|V r3=>V (V (BH.mk p.t2 p.t8 p.t9 (ak (p.t10+1)) r3))else bif(jG (bh.mk (ak (p.b0.bH+1)) (J (12<(((),p.t2,p.t8,p.t9,p.t10,()),p.b0,()).fst.snd.fst)))).fst then V (I)else match GQ (az.mk p.t8[zD p.t10]!.aG.bE p.t8[zD p.t10]!.aG.fN p.t8[zD p.t10]!.aG.ax) 1 (jG (bh.mk (ak (p.b0.bH+1)) (J (12<(((),p.t2,p.t8,p.t9,p.t10,()),p.b0,()).fst.snd.fst)))).snd with|I=>I|V r4=>match M207 p.t8[zD p.t10]!.aQ (ak (p.t2+1)) r4 with|I=>I|V r5=>match M207 p.t8[zD p.t10]!.aW (ak (p.t2+1)) r5 with|I=>I|V r6=>V (V (BH.mk p.t2 p.t8 p.t9 (ak (p.t10+1)) r6))else I else V (I)
def Jy(M207:(aa aB)->Int->bh->af sX):=bJ (Ef M207)
def ap6(M207:(aa aB)->Int->bh->af sX):An:=(noTwo (Ts.lp (Jy M207) .no))
def azE(M207:(aa aB)->Int->bh->af sX):eX vn (aq7 M207) 1 300 207 (ap6 M207):=b6 (l:=[(aY f207 0,(Ts.lp (Jy M207) .no))]) func207 (bN aV) aV (aA (aO Ts) aH)
def amt(M207:(aa aB)->Int->bh->af sX)(a1:aa aB)(a2:Int)(b0:bh):af sX:=
 match Jy M207 (BH.mk a2 a1 a1.length 0 b0)with|I=>I|V r7=>bif J (r7.t10<r7.t9)then if 0<=r7.t10/\r7.t10<zR r7.t8 then bif r7.b0.fQ then bif(jG (bh.mk (ak (r7.b0.bH+1)) O)).fst then V ((jG (bh.mk (ak (r7.b0.bH+1)) O)).snd)else match GQ (az.mk r7.t8[zD r7.t10]!.aG.bE r7.t8[zD r7.t10]!.aG.fN r7.t8[zD r7.t10]!.aG.ax) 1 (jG (bh.mk (ak (r7.b0.bH+1)) O)).snd with|I=>I|V r8=>match M207 r7.t8[zD r7.t10]!.aQ (ak (r7.t2+1)) r8 with|I=>I|V r9=>match M207 r7.t8[zD r7.t10]!.aW (ak (r7.t2+1)) r9 with|I=>I|V r10=>I else bif(jG (bh.mk (ak (r7.b0.bH+1)) (J (12<(((),r7.t2,r7.t8,r7.t9,r7.t10,()),r7.b0,()).fst.snd.fst)))).fst then V ((jG (bh.mk (ak (r7.b0.bH+1)) (J (12<(((),r7.t2,r7.t8,r7.t9,r7.t10,()),r7.b0,()).fst.snd.fst)))).snd)else match GQ (az.mk r7.t8[zD r7.t10]!.aG.bE r7.t8[zD r7.t10]!.aG.fN r7.t8[zD r7.t10]!.aG.ax) 1 (jG (bh.mk (ak (r7.b0.bH+1)) (J (12<(((),r7.t2,r7.t8,r7.t9,r7.t10,()),r7.b0,()).fst.snd.fst)))).snd with|I=>I|V r11=>match M207 r7.t8[zD r7.t10]!.aQ (ak (r7.t2+1)) r11 with|I=>I|V r12=>match M207 r7.t8[zD r7.t10]!.aW (ak (r7.t2+1)) r12 with|I=>I|V r13=>I else I else V (r7.b0)
def aG9(M207:(aa aB)->Int->bh->af sX)(a1:aa aB)(a2:Int)(b0:bh):bU vn (aq7 M207) 300 (ap6 M207) 207 (asQ.c ((),a1,a2,())) (aqZ.d (b0,())) 1 d207.rd=amt M207 a1 a2 b0:=aV
def apn:Nat->((aa aB)->Int->bh->af sX)
 |0=>(λ_ _ _=>I)
 |n+1=>(amt (apn n))
def Sm(n:Nat):(aa aB)->Int->bh->af sX:=(apn n)
def OK:∀n,alM (Sm n)
 |0=>λ_ _ h=>(by cases h)
 |n+1=>by
  have ih:=OK n;have i207:=ih;exact(VX (ai8 i207) (azE (Sm n)) (λ_=>aV) (λ_=>aV) (λ_=>aV) λg=>aG9 (Sm n) g.1.2.1 g.1.2.2.1 g.2.1)
def aeA:(aa aB)->Int->bh->af sX:=λa1 a2 b0=>lim (λn=>Sm n a1 a2 b0)
def amM:alM aeA:=λg b h=>by
 obtain⟨n,hn⟩:=dA (show lim (λn=>Sm n g.1.2.1 g.1.2.2.1 g.2.1)=V b from h);exact(OK n) g b hn
def aBq(F:bu):bu:=arp aeA F
def als{F:bu}(h:bz vn F):bz vn (aBq F):=WX amM h
abbrev axG:=Bool
def d260:Td 0 axG:= .c [] [3] (.r 0 0 (ec 3 qb en) sn (λz=>z.1.1) (λx=>((x,()),(()))))
def abY(a0:bf)(c0:bf):axG:=
 a0.fName.toList==c0.fName.toList
def aGD:=eL vn 260 G (lc (qg 131) (lc (qr (lg 131)) ln)) d260 (λg=>V (abY g.1 g.2.1))
def Wj:EO aGD:=λh=>kL (an:= .no) func260 aP aH h
def aAz:bu:=di
structure DS where
 t0:ByteArray
 (t14 t15:Int)
def QE:Td 0 DS:= .c [] [0,14,15] (.r 0 0 (ec 0 qs (ec 14 aN (ec 15 aN en))) sn (λz=>⟨z.1.1,z.1.2.1,z.1.t.1⟩) (λx=>((x.t0,x.t14,x.t15,()),(()))))
def IW(p:DS):af (af DS):=
 bif J (p.t15<p.t14)then if 0<=p.t15/\p.t15<p.t0.size then match bif J (97<=cv p.t0 p.t15.toNat)then V (J (cv p.t0 p.t15.toNat<=122))else V G with|I=>I|V r1=>match bif bif r1 then G else O then bif J (p.t15=0)then V O else bif J (cv p.t0 p.t15.toNat<48)then bif bif J (cv p.t0 p.t15.toNat=46)then G else O then V (bif J (cv p.t0 p.t15.toNat=95)then G else O)else V G else bif J (57<cv p.t0 p.t15.toNat)then bif bif J (cv p.t0 p.t15.toNat=46)then G else O then V (bif J (cv p.t0 p.t15.toNat=95)then G else O)else V G else V G else V G with|I=>I|V r2=>bif r2 then V (I)else V (V (DS.mk p.t0 p.t14 (ak (p.t15+1))))else I else V (I)
def adB:An:=(noTwo (noTwo (.two (noTwo (noTwo (.two (.rb [] 5) (.two (.rb [] 48) .no)))) .no)))
def JT:=bJ (IW)
abbrev av6:=Bool
def d261:Td 0 av6:= .c [] [2] (.r 0 0 (ec 2 qb en) sn (λz=>z.1.1) (λx=>((x,()),(()))))
def aaY:∀f∈([]:aa Nat),bA (aAz) f:=aH
def T3(a0:ByteArray):af av6:=
 match bif a0.toList==(ByteArray.mk (Array.mk [])).toList then V O else V (J (40<(a0.size:Int)))with|I=>I|V r3=>bif r3 then V G else match JT (DS.mk a0 a0.size 0)with|I=>I|V r4=>bif J (r4.t15<r4.t14)then if 0<=r4.t15/\r4.t15<r4.t0.size then match bif J (97<=cv r4.t0 r4.t15.toNat)then V (J (cv r4.t0 r4.t15.toNat<=122))else V G with|I=>I|V r5=>match bif bif r5 then G else O then bif J (r4.t15=0)then V O else bif J (cv r4.t0 r4.t15.toNat<48)then bif bif J (cv r4.t0 r4.t15.toNat=46)then G else O then V (bif J (cv r4.t0 r4.t15.toNat=95)then G else O)else V G else bif J (57<cv r4.t0 r4.t15.toNat)then bif bif J (cv r4.t0 r4.t15.toNat=46)then G else O then V (bif J (cv r4.t0 r4.t15.toNat=95)then G else O)else V G else V G else V G with|I=>I|V r6=>bif r6 then V G else I else I else V O
def awJ:=eL vn 261 G (lc qs ln) d261 (λg=>T3 g.1)
def Wp:EO awJ:=λh=>kL (F:=aAz) (an:=(noTwo (.two (.two (.rb [] 12) .no) (.two (noTwo (QE.lp JT adB)) .no)))) (l:=[(.skip,(.rb [] 12)),(aY f261 0,(QE.lp JT adB)),(.skip,(.rb [] 5)),(.skip,(.rb [] 48))]) func261 aP (aA aaY (aA (aO QE) (aA aaY (aA aaY aH)))) h
structure FC where
 t0:List bf
 pG:ByteArray
 (oE oQ pq pz t7 t8:Int)
def Qh:Td 0 FC:= .c [] [0,1,7,8] (.r 0 0 (ec 0 (ql 131) (ec 1 (qf 260 (lc (qr (lc qs (aS (aS (aS (aS ln)))))) ln)) (ec 7 aN (ec 8 aN en)))) sn (λz=>⟨z.1.1,z.1.2.1.1.1,z.1.2.1.1.2.1,z.1.2.1.1.t.1,z.1.2.1.1.t.2.1,z.1.2.1.1.q.1,z.1.t.1,z.1.t.2.1⟩) (λx=>((x.t0,((x.pG,x.oE,x.oQ,x.pq,x.pz,()),()),x.t7,x.t8,()),(()))))
def Jw(p:FC):af (af FC):=
 bif J (p.t8<p.t7)then if 0<=p.t8/\p.t8<zR p.t0 then bif abY p.t0[zD p.t8]! (bf.mk p.pG p.oE p.oQ p.pq p.pz)then V (I)else V (V (FC.mk p.t0 p.pG p.oE p.oQ p.pq p.pz p.t7 (ak (p.t8+1))))else I else V (I)
def J9:=bJ (Jw)
abbrev awd:=Int
def d303:Td 0 awd:= .c [] [4] (.r 0 0 (ec 4 aN en) sn (λz=>z.1.1) (λx=>((x,()),(()))))
def atN(a0:aa bf)(a1_0:bf):af awd:=
 match J9 (FC.mk a0 a1_0.fName a1_0.bB a1_0.ah a1_0.ag a1_0.eG a0.length 0)with|I=>I|V r1=>bif J (r1.t8<r1.t7)then if 0<=r1.t8/\r1.t8<zR r1.t0 then bif abY r1.t0[zD r1.t8]! (bf.mk r1.pG r1.oE r1.oQ r1.pq r1.pz)then V (r1.t8)else I else I else V (-1)
def aHG:=eL vn 303 O (lc (ql 131) (lc (qf 260 (lc (qr (lg 131)) ln)) ln)) d303 (λg=>atN g.1 g.2.1.1)
def afY:EO aHG:=λh=>kL (an:=(noTwo (.two (noTwo (Qh.lp J9 .no)) .no))) (l:=[(aY f303 0,(Qh.lp J9 .no))]) func303 (Wj aP) (aA (aO Qh) aH) h
abbrev aza:=Bool
def d262:Td 0 aza:= .c [] [4] (.r 0 0 (ec 4 qb en) sn (λz=>z.1.1) (λx=>((x,()),(()))))
def abf(a0:aa bf)(a1_0:bf):af aza:=
 match atN a0 a1_0 with|I=>I|V r1=>V (J (0<=r1))
def ayg:=eL vn 262 O (lc (ql 131) (lc (qf 260 (lc (qr (lg 131)) ln)) ln)) d262 (λg=>abf g.1 g.2.1.1)
def agD:EO ayg:=λh=>kL (an:= .no) func262 (afY (Wj aP)) aH h
def are:bu:=di
abbrev auS:=Bool
def d263:Td 0 auS:= .c [] [4] (.r 0 0 (ec 4 qb en) sn (λz=>z.1.1) (λx=>((x,()),(()))))
def aAY:=(aS (aS ln))
def ao4:An:=(noTwo (.two (.rb [] 4) .no))
def awV:∀f∈([]:aa Nat),bA (are) f:=aH
def Mc(a0:Int)(a1:Int):auS:=
 let r1:Bool:=bif J (a0<=a1)then bif J (-1048576<=a0)then J (a1<=1048576)else G else G;r1
def aFS(a0:Int)(a1:Int):bU vn (are) 300 (ao4) 263 (aAY.c (a0,a1,())) [] 0 d263.rd=V (Mc a0 a1):=by
 refine Eq.trans (b:=(
  match bif J (a0<=a1)then bif J (-1048576<=a0)then V (J (a1<=1048576))else V (G)else V (G)with|I=>I|V r1=>V (r1):af auS)) aV ?_
 simp only[Mc,cu,cO]
def azm:=eL vn 263 G aAY d263 (λg=>V (Mc g.1 g.2.1))
def Xf:EO azm:=λh=>kL (F:=are) (an:=ao4) (l:=[(.skip,(.rb [] 4))]) func263 aP (aA awV aH) h (c:=λg=>aFS g.1 g.2.1)
abbrev aBR:=Int
def d337:Td 0 aBR:= .c [] [2] (.r 0 0 (ec 2 aN en) sn (λz=>z.1.1) (λx=>((x,()),(()))))
def GN(a0:bf):aBR:=
 ak (ak (a0.ag-a0.ah)+1)
def aBK:=eL vn 337 G (lc (qg 131) ln) d337 (λg=>V (GN g.1))
def ahw:EO aBK:=λh=>kL (an:= .no) func337 aP aH h
def ays:bu:=(aBK di)
structure qF where
 t7:List bf
 t10:Int
 t49:List bf
 (t50 t51:Int)
def SY:Td 0 qF:= .c [] [7,10,49,50,51] (.r 0 1 (ec 7 (qo 0) (ec 10 aN (ec 49 (qo 0) (ec 50 aN (ec 51 aN en))))) (sr 0 131 sn) (λz=>⟨z.2.1,z.1.2.1,z.2.1,z.1.t.2.1,z.1.q.1⟩) (λx=>(((),x.t10,(),x.t50,x.t51,()),(x.t49,()))))
def KT(p:qF):af (af qF):=
 bif J (p.t51<p.t50)then if 0<=p.t51/\p.t51<zR p.t49 then if 131=131/\zD p.t51<zR p.t49 then bif J (4096<ak (p.t10*GN p.t49[zD p.t51]!))then V (I)else V (V (qF.mk p.t49 (ak (p.t10*GN p.t49[zD p.t51]!)) p.t49 p.t50 (ak (p.t51+1))))else I else I else V (I)
def tP:=bJ (KT)
structure oH where
 t1:Int
 (t7 t19:List bf)
 (t20 t21:Int)
def Tu:Td 0 oH:= .c [] [1,7,19,20,21] (.t (bX.s 7 [] 131) (.c [] [1,7,19,20,21] (.r 0 1 (ec 1 aN (ec 7 (qo 0) (ec 19 (ql 131) (ec 20 aN (ec 21 aN en))))) (sr 0 131 sn) (λz=>⟨z.1.1,z.2.1,z.1.t.1,z.1.t.2.1,z.1.q.1⟩) (λx=>((x.t1,(),x.t19,x.t20,x.t21,()),(x.t7,()))))))
def EA(p:oH):af (af oH):=
 bif J (p.t21<p.t20)then if 0<=p.t21/\p.t21<zR p.t19 then bif bif J (p.t19[zD p.t21]!.bB=p.t1)then G else O then V (V (oH.mk p.t1 p.t7 p.t19 p.t20 (ak (p.t21+1))))else match bif J (p.t19[zD p.t21]!.ag<p.t19[zD p.t21]!.ah)then V O else bif J (p.t19[zD p.t21]!.ah< -1048576)then V O else V (J (1048576<p.t19[zD p.t21]!.ag))with|I=>I|V r1=>bif r1 then V (I)else if(p.t7++[p.t19[zD p.t21]!]).length<=1073741824 then V (V (oH.mk p.t1 (p.t7++[p.t19[zD p.t21]!]) p.t19 p.t20 (ak (p.t21+1))))else I else I else V (I)
def ab8:An:=(noTwo (noTwo (.two (noTwo (noTwo (.two (.two (.rb [] 43) .no) .no))) .no)))
def tG:=bJ (EA)
abbrev aCi:=(aa bf)×Int×Int
def d304:Td 0 aCi:= .c [] [4,5,6] (.t (bX.s 4 [] 131) (.c [] [4,5,6] (.r 0 1 (ec 4 (qo 0) (ec 5 aN (ec 6 aN en))) (sr 0 131 sn) (λz=>(z.2.1,z.1.2.1,z.1.t.1)) (λx=>(((),x.2.1,x.t,()),(x.1,()))))))
def aA0:∀f∈([]:aa Nat),bA (ays) f:=aH
def ard(a0:aa bf)(a1:Int):af aCi:=
 bif J (a1=0)then match tG (oH.mk a1 [] a0 a0.length 0)with|I=>I|V r2=>bif J (r2.t21<r2.t20)then if 0<=r2.t21/\r2.t21<zR r2.t19 then bif bif J (r2.t19[zD r2.t21]!.bB=r2.t1)then G else O then I else match bif J (r2.t19[zD r2.t21]!.ag<r2.t19[zD r2.t21]!.ah)then V O else bif J (r2.t19[zD r2.t21]!.ah< -1048576)then V O else V (J (1048576<r2.t19[zD r2.t21]!.ag))with|I=>I|V r3=>bif r3 then V ([],0,3)else if(r2.t7++[r2.t19[zD r2.t21]!]).length<=1073741824 then I else I else I else match tP (qF.mk r2.t7 1 r2.t7 r2.t7.length 0)with|I=>I|V r4=>bif J (r4.t51<r4.t50)then if 0<=r4.t51/\r4.t51<zR r4.t49 then if 131=131/\zD r4.t51<zR r4.t49 then bif J (4096<ak (r4.t10*GN r4.t49[zD r4.t51]!))then V ([],0,4)else I else I else I else V (r4.t49,r4.t10,0)else bif J (a1=1)then match tG (oH.mk a1 [] a0 a0.length 0)with|I=>I|V r5=>bif J (r5.t21<r5.t20)then if 0<=r5.t21/\r5.t21<zR r5.t19 then bif bif J (r5.t19[zD r5.t21]!.bB=r5.t1)then G else O then I else match bif J (r5.t19[zD r5.t21]!.ag<r5.t19[zD r5.t21]!.ah)then V O else bif J (r5.t19[zD r5.t21]!.ah< -1048576)then V O else V (J (1048576<r5.t19[zD r5.t21]!.ag))with|I=>I|V r6=>bif r6 then V ([],0,3)else if(r5.t7++[r5.t19[zD r5.t21]!]).length<=1073741824 then I else I else I else match tP (qF.mk r5.t7 1 r5.t7 r5.t7.length 0)with|I=>I|V r7=>bif J (r7.t51<r7.t50)then if 0<=r7.t51/\r7.t51<zR r7.t49 then if 131=131/\zD r7.t51<zR r7.t49 then bif J (4096<ak (r7.t10*GN r7.t49[zD r7.t51]!))then V ([],0,4)else I else I else I else V (r7.t49,r7.t10,0)else bif J (a1=2)then match tG (oH.mk a1 [] a0 a0.length 0)with|I=>I|V r8=>bif J (r8.t21<r8.t20)then if 0<=r8.t21/\r8.t21<zR r8.t19 then bif bif J (r8.t19[zD r8.t21]!.bB=r8.t1)then G else O then I else match bif J (r8.t19[zD r8.t21]!.ag<r8.t19[zD r8.t21]!.ah)then V O else bif J (r8.t19[zD r8.t21]!.ah< -1048576)then V O else V (J (1048576<r8.t19[zD r8.t21]!.ag))with|I=>I|V r9=>bif r9 then V ([],0,3)else if(r8.t7++[r8.t19[zD r8.t21]!]).length<=1073741824 then I else I else I else match tP (qF.mk r8.t7 1 r8.t7 r8.t7.length 0)with|I=>I|V r10=>bif J (r10.t51<r10.t50)then if 0<=r10.t51/\r10.t51<zR r10.t49 then if 131=131/\zD r10.t51<zR r10.t49 then bif J (4096<ak (r10.t10*GN r10.t49[zD r10.t51]!))then V ([],0,4)else I else I else I else V (r10.t49,r10.t10,0)else bif J (a1=3)then match tG (oH.mk a1 [] a0 a0.length 0)with|I=>I|V r11=>bif J (r11.t21<r11.t20)then if 0<=r11.t21/\r11.t21<zR r11.t19 then bif bif J (r11.t19[zD r11.t21]!.bB=r11.t1)then G else O then I else match bif J (r11.t19[zD r11.t21]!.ag<r11.t19[zD r11.t21]!.ah)then V O else bif J (r11.t19[zD r11.t21]!.ah< -1048576)then V O else V (J (1048576<r11.t19[zD r11.t21]!.ag))with|I=>I|V r12=>bif r12 then V ([],0,3)else if(r11.t7++[r11.t19[zD r11.t21]!]).length<=1073741824 then I else I else I else match tP (qF.mk r11.t7 1 r11.t7 r11.t7.length 0)with|I=>I|V r13=>bif J (r13.t51<r13.t50)then if 0<=r13.t51/\r13.t51<zR r13.t49 then if 131=131/\zD r13.t51<zR r13.t49 then bif J (4096<ak (r13.t10*GN r13.t49[zD r13.t51]!))then V ([],0,4)else I else I else I else V (r13.t49,r13.t10,0)else V ([],0,1)
def aGJ:=eL vn 304 G (lc (ql 131) (aS ln)) d304 (λg=>ard g.1 g.2.1)
def aif:EO aGJ:=λh=>kL (F:=ays) (an:=(noTwo (noTwo (noTwo (.two (noTwo (Tu.lp tG ab8)) (noTwo (.two (noTwo (SY.lp tP .no)) .no))))))) (l:=[(aY f304 0,(Tu.lp tG ab8)),(.skip,(.rb [] 43)),(aY f304 1,(SY.lp tP .no))]) func304 (ahw aP) (aA (aO Tu) (aA aA0 (aA (aO SY) aH))) h
abbrev aCH:=Int×Int
def d264:Td 0 aCH:= .c [] [4,5] (.r 0 0 (ec 4 aN (ec 5 aN en)) sn (λz=>(z.1.1,z.1.2.1)) (λx=>((x.1,x.2,()),(()))))
def ael(a0:aa bf)(a1:Int):af aCH:=
 match ard a0 a1 with|I=>I|V r1=>V (r1.snd)
def awt:=eL vn 264 G (lc (ql 131) (aS ln)) d264 (λg=>ael g.1 g.2.1)
def aiD:EO awt:=λh=>kL (an:= .no) func264 (aif aP) aH h
def axr:bu:=(awt (azm (ayg (awJ di))))
structure Ge where
 t0:List bf
 t71:List Int
 (t72 t73:Int)
def Qk:Td 0 Ge:= .c [] [0,71,72,73] (.r 0 1 (ec 0 (ql 131) (ec 71 (qo 0) (ec 72 aN (ec 73 aN en)))) (sr 0 129 sn) (λz=>⟨z.1.1,z.2.1,z.1.t.1,z.1.t.2.1⟩) (λx=>((x.t0,(),x.t72,x.t73,()),(x.t71,()))))
def rL(p:Ge):af (af Ge):=
 bif J (p.t73<p.t72)then if 0<=p.t73/\p.t73<zR p.t71 then if 129=129/\zD p.t73<zR p.t71 then match ael p.t0 p.t71[zD p.t73]! with|I=>I|V r6=>match bif bif J (r6.snd=0)then G else O then V O else bif J (((p.t0,(),p.t72,p.t73,()),p.t71,()).snd.fst[((p.t0,(),p.t72,p.t73,()),p.t71,()).fst.snd.snd.snd.fst.toNat]! =3)then V (J (256<r6.fst))else V G with|I=>I|V r7=>bif r7 then V (I)else V (V (Ge.mk p.t0 p.t71 p.t72 (ak (p.t73+1))))else I else I else V (I)
def ab0:An:=(noTwo (noTwo (.two (noTwo (noTwo (.two (.rb [] 92) .no))) .no)))
def qz:=bJ (rL)
structure FD where
 (t0 t10:List bf)
 (t11 t12:Int)
def Q5:Td 0 FD:= .c [] [0,10,11,12] (.r 0 0 (ec 0 (ql 131) (ec 10 (ql 131) (ec 11 aN (ec 12 aN en)))) sn (λz=>⟨z.1.1,z.1.2.1,z.1.t.1,z.1.t.2.1⟩) (λx=>((x.t0,x.t10,x.t11,x.t12,()),(()))))
def BQ(p:FD):af (af FD):=
 bif J (p.t12<p.t11)then if 0<=p.t12/\p.t12<zR p.t10 then match T3 p.t10[zD p.t12]!.fName with|I=>I|V r1=>bif bif r1 then G else O then V (I)else if 0<=p.t12/\p.t12<=zR p.t0 then match abf (List.take p.t12.toNat p.t0) p.t10[zD p.t12]! with|I=>I|V r2=>bif r2 then V (I)else match bif J (p.t10[zD p.t12]!.bB<0)then V O else V (J (3<p.t10[zD p.t12]!.bB))with|I=>I|V r3=>bif r3 then V (I)else bif bif Mc p.t10[zD p.t12]!.ah p.t10[zD p.t12]!.ag then G else O then V (I)else match bif bif J (p.t10[zD p.t12]!.bB=0)then G else O then V (bif J (p.t10[zD p.t12]!.eG=0)then G else O)else V G with|I=>I|V r4=>bif r4 then V (I)else match bif J (p.t10[zD p.t12]!.bB=0)then bif J (p.t10[zD p.t12]!.eG<p.t10[zD p.t12]!.ah)then V O else V (J (p.t10[zD p.t12]!.ag<p.t10[zD p.t12]!.eG))else V G with|I=>I|V r5=>bif r5 then V (I)else V (V (FD.mk p.t0 p.t10 p.t11 (ak (p.t12+1))))else I else I else V (I)
def adI:An:=(noTwo (noTwo (.two (noTwo (noTwo (noTwo (noTwo (noTwo (noTwo (.two (.rb [] 29) (noTwo (.two (noTwo (noTwo (.two (.rb [] 38) (noTwo (.rb [] 38))))) .no))))))))) .no)))
def K6:=bJ (BQ)
abbrev axQ:=Int
def d210:Td 0 axQ:= .c [] [2] (.r 0 0 (ec 2 aN en) sn (λz=>z.1.1) (λx=>((x,()),(()))))
def Vh:∀f∈([]:aa Nat),bA (axr) f:=aH
def aky(a0:aa bf):af axQ:=
 match K6 (FD.mk a0 a0 a0.length 0)with|I=>I|V r8=>bif J (r8.t12<r8.t11)then if 0<=r8.t12/\r8.t12<zR r8.t10 then match T3 r8.t10[zD r8.t12]!.fName with|I=>I|V r9=>bif bif r9 then G else O then V 7 else if 0<=r8.t12/\r8.t12<=zR r8.t0 then match abf (List.take r8.t12.toNat r8.t0) r8.t10[zD r8.t12]! with|I=>I|V r10=>bif r10 then V 8 else match bif J (r8.t10[zD r8.t12]!.bB<0)then V O else V (J (3<r8.t10[zD r8.t12]!.bB))with|I=>I|V r11=>bif r11 then V 1 else bif bif Mc r8.t10[zD r8.t12]!.ah r8.t10[zD r8.t12]!.ag then G else O then V 3 else match bif bif J (r8.t10[zD r8.t12]!.bB=0)then G else O then V (bif J (r8.t10[zD r8.t12]!.eG=0)then G else O)else V G with|I=>I|V r12=>bif r12 then V 3 else match bif J (r8.t10[zD r8.t12]!.bB=0)then bif J (r8.t10[zD r8.t12]!.eG<r8.t10[zD r8.t12]!.ah)then V O else V (J (r8.t10[zD r8.t12]!.ag<r8.t10[zD r8.t12]!.eG))else V G with|I=>I|V r13=>bif r13 then V 3 else I else I else I else match qz (Ge.mk r8.t0 [1,2,3] (3:Int) 0)with|I=>I|V r14=>bif J (r14.t73<r14.t72)then if 0<=r14.t73/\r14.t73<zR r14.t71 then if 129=129/\zD r14.t73<zR r14.t71 then match ael r14.t0 r14.t71[zD r14.t73]! with|I=>I|V r15=>match bif bif J (r15.snd=0)then G else O then V O else bif J (((r14.t0,(),r14.t72,r14.t73,()),r14.t71,()).snd.fst[((r14.t0,(),r14.t72,r14.t73,()),r14.t71,()).fst.snd.snd.snd.fst.toNat]! =3)then V (J (256<r15.fst))else V G with|I=>I|V r16=>bif r16 then V 4 else I else I else I else V 0
def axc:=eL vn 210 G (lc (ql 131) ln) d210 (λg=>aky g.1)
def ajh:EO axc:=λh=>kL (F:=axr) (an:=(noTwo (.two (noTwo (Q5.lp K6 adI)) (.two (noTwo (Qk.lp qz ab0)) .no)))) (l:=[(aY f210 0,(Q5.lp K6 adI)),(.skip,(.rb [] 29)),(.skip,(.rb [] 38)),(.skip,(.rb [] 38)),(aY f210 1,(Qk.lp qz ab0)),(.skip,(.rb [] 92))]) func210 (aiD (Xf (agD (Wp aP)))) (aA (aO Q5) (aA Vh (aA Vh (aA Vh (aA (aO Qk) (aA Vh aH)))))) h
abbrev azv:=Bool
def d265:Td 0 azv:= .c [] [3] (.r 0 0 (ec 3 qb en) sn (λz=>z.1.1) (λx=>((x,()),(()))))
def ad9(a0:dD)(c0:dD):azv:=
 a0.fName.toList==c0.fName.toList
def aEL:=eL vn 265 G (lc (qg 139) (lc (qr (lg 139)) ln)) d265 (λg=>V (ad9 g.1 g.2.1))
def UI:EO aEL:=λh=>kL (an:= .no) func265 aP aH h
structure EJ where
 t0:List dD
 pG:ByteArray
 (oE oQ pq pz:Int)
 J6:List az
 (t7 t8:Int)
def RD:Td 0 EJ:= .c [] [0,1,7,8] (.r 0 0 (ec 0 (ql 139) (ec 1 (qf 265 (lc (qr (lc qs (aS (aS (aS (aS (lc (ql 137) ln))))))) ln)) (ec 7 aN (ec 8 aN en)))) sn (λz=>⟨z.1.1,z.1.2.1.1.1,z.1.2.1.1.2.1,z.1.2.1.1.t.1,z.1.2.1.1.t.2.1,z.1.2.1.1.q.1,z.1.2.1.1.q.2.1,z.1.t.1,z.1.t.2.1⟩) (λx=>((x.t0,((x.pG,x.oE,x.oQ,x.pq,x.pz,x.J6,()),()),x.t7,x.t8,()),(()))))
def Jz(p:EJ):af (af EJ):=
 bif J (p.t8<p.t7)then if 0<=p.t8/\p.t8<zR p.t0 then bif ad9 (dD.mk p.t0[zD p.t8]!.fName p.t0[zD p.t8]!.ah p.t0[zD p.t8]!.ag (az.mk p.t0[zD p.t8]!.aG.bE p.t0[zD p.t8]!.aG.fN p.t0[zD p.t8]!.aG.ax)) (dD.mk p.pG p.oE p.oQ (az.mk p.pq p.pz p.J6))then V (I)else V (V (EJ.mk p.t0 p.pG p.oE p.oQ p.pq p.pz p.J6 p.t7 (ak (p.t8+1))))else I else V (I)
def Kn:=bJ (Jz)
abbrev azd:=Int
def d305:Td 0 azd:= .c [] [4] (.r 0 0 (ec 4 aN en) sn (λz=>z.1.1) (λx=>((x,()),(()))))
def arN(a0:aa dD)(a1_0:dD):af azd:=
 match Kn (EJ.mk a0 a1_0.fName a1_0.ah a1_0.ag a1_0.aG.bE a1_0.aG.fN a1_0.aG.ax a0.length 0)with|I=>I|V r1=>bif J (r1.t8<r1.t7)then if 0<=r1.t8/\r1.t8<zR r1.t0 then bif ad9 (dD.mk r1.t0[zD r1.t8]!.fName r1.t0[zD r1.t8]!.ah r1.t0[zD r1.t8]!.ag (az.mk r1.t0[zD r1.t8]!.aG.bE r1.t0[zD r1.t8]!.aG.fN r1.t0[zD r1.t8]!.aG.ax)) (dD.mk r1.pG r1.oE r1.oQ (az.mk r1.pq r1.pz r1.J6))then V (r1.t8)else I else I else V (-1)
def aEB:=eL vn 305 O (lc (ql 139) (lc (qf 265 (lc (qr (lg 139)) ln)) ln)) d305 (λg=>arN g.1 g.2.1.1)
def anb:EO aEB:=λh=>kL (an:=(noTwo (.two (noTwo (RD.lp Kn .no)) .no))) (l:=[(aY f305 0,(RD.lp Kn .no))]) func305 (UI aP) (aA (aO RD) aH) h
abbrev aCs:=Bool
def d266:Td 0 aCs:= .c [] [4] (.r 0 0 (ec 4 qb en) sn (λz=>z.1.1) (λx=>((x,()),(()))))
def adk(a0:aa dD)(a1_0:dD):af aCs:=
 match arN a0 (dD.mk a1_0.fName a1_0.ah a1_0.ag (az.mk a1_0.aG.bE a1_0.aG.fN a1_0.aG.ax))with|I=>I|V r1=>V (J (0<=r1))
def aFx:=eL vn 266 O (lc (ql 139) (lc (qf 265 (lc (qr (lg 139)) ln)) ln)) d266 (λg=>adk g.1 g.2.1.1)
def alw:EO aFx:=λh=>kL (an:= .no) func266 (anb (UI aP)) aH h
def aum:bu:=di
abbrev aqK:=Int×Int
def d338:Td 0 aqK:= .c [] [2,3] (.r 0 0 (ec 2 aN (ec 3 aN en)) sn (λz=>(z.1.1,z.1.2.1)) (λx=>((x.1,x.2,()),(()))))
def aAe:=(aS ln)
def aot:An:=(noTwo (.two (.two (.rb [] 4) (noTwo (.two (.rb [] 11) (noTwo (.two (.rb [] 18) .no))))) .no))
def aco:∀f∈([]:aa Nat),bA (aum) f:=aH
def OI(a0:Int):aqK:=
 let r1:Bool:=bif J (a0=0)then O else J (a0=24);bif r1 then(0,0)else let r2:Bool:=bif J (a0=6)then O else J (a0=7);bif r2 then(1,1)else let r3:Bool:=bif J (8<=a0)then J (a0<=22)else G;bif r3 then(2,2)else bif J (a0=23)then(3,3)else bif J (a0=25)then(2,33)else(-1,-1)
def aFW(a0:Int):bU vn (aum) 300 (aot) 338 (aAe.c (a0,())) [] 0 d338.rd=V (OI a0):=by
 refine Eq.trans (b:=(
  match bif J (a0=0)then V (O)else V (J (a0=24))with|I=>I|V r1=>bif r1 then V ((0,0))else match bif J (a0=6)then V (O)else V (J (a0=7))with|I=>I|V r2=>bif r2 then V ((1,1))else match bif J (8<=a0)then V (J (a0<=22))else V (G)with|I=>I|V r3=>bif r3 then V ((2,2))else bif J (a0=23)then V ((3,3))else bif J (a0=25)then V ((2,33))else V ((-1,-1)):af aqK)) aV ?_
 simp only[OI,cu,cO]
def aAx:=eL vn 338 G aAe d338 (λg=>V (OI g.1))
def am3:EO aAx:=λh=>kL (F:=aum) (an:=aot) (l:=[(.skip,(.rb [] 4)),(.skip,(.rb [] 11)),(.skip,(.rb [] 18))]) func338 aP (aA aco (aA aco (aA aco aH))) h (c:=λg=>aFW g.1)
abbrev sZ:=Bool
def d306:Td 0 sZ:= .c [] [6] (.r 0 0 (ec 6 qb en) sn (λz=>z.1.1) (λx=>((x,()),(()))))
def aq0:=(lc (ql 131) (lc (qg 137) (lc qb ln)))
def auy(M:(aa bf)->az->Bool->af sZ):bu->bu:=eL vn 306 G aq0 d306 (λg=>M g.1 g.2.1 g.2.2.1)
def ajG(M:(aa bf)->az->Bool->af sZ):Prop:=HL vn 306 aq0 d306 (λg=>M g.1 g.2.1 g.2.2.1)
def UB{M:(aa bf)->az->Bool->af sZ}(hM:ajG M){F:bu}(h:bz vn F):bz vn (auy M F):=ep (sc:=pF) dh hM ⟨_,func306,aV,aV⟩ (λ_=>aV) (λ_=>aV) h
def agd(M306:(aa bf)->az->Bool->af sZ):bu:=(aAx (auy M306 di))
def afA{M306}(h306:ajG M306):bz vn (agd M306):=(am3 (UB h306 aP))
structure ux where
 t0:List bf
 t2:Bool
 t65:List az
 (t66 t67:Int)
def Te:Td 0 ux:= .c [] [0,2,65,66,67] (.r 0 0 (ec 0 (ql 131) (ec 2 qb (ec 65 (ql 137) (ec 66 aN (ec 67 aN en))))) sn (λz=>⟨z.1.1,z.1.2.1,z.1.t.1,z.1.t.2.1,z.1.q.1⟩) (λx=>((x.t0,x.t2,x.t65,x.t66,x.t67,()),(()))))
def Lv(M306:(aa bf)->az->Bool->af sZ)(p:ux):af (af ux):=
 bif J (p.t67<p.t66)then if 0<=p.t67/\p.t67<zR p.t65 then match M306 p.t0 (az.mk p.t65[zD p.t67]!.bE p.t65[zD p.t67]!.fN p.t65[zD p.t67]!.ax) p.t2 with|I=>I|V r1=>bif bif r1 then G else O then V (I)else V (V (ux.mk p.t0 p.t2 p.t65 p.t66 (ak (p.t67+1))))else I else V (I)
def AY(M306:(aa bf)->az->Bool->af sZ):=bJ (Lv M306)
def apH(M306:(aa bf)->az->Bool->af sZ):An:=(noTwo (noTwo (.two (.two (.rb [] 32) .no) (.two (noTwo (noTwo (noTwo (noTwo (.two (.two (.rb [] 63) .no) .no))))) (.two (noTwo (Te.lp (AY M306) .no)) .no)))))
def apE{M306}:∀f∈([]:aa Nat),bA (agd M306) f:=aH
def aBo(M306:(aa bf)->az->Bool->af sZ):eX vn (agd M306) 0 300 306 (apH M306):=b6 (l:=[(.skip,(.rb [] 32)),(.skip,(.rb [] 63)),(aY f306 0,(Te.lp (AY M306) .no))]) func306 (bN aV) aV (aA apE (aA apE (aA (aO Te) aH)))
def am4(M306:(aa bf)->az->Bool->af sZ)(a0:aa bf)(a1:az)(a2:Bool):af sZ:=
 match bif J ((OI a1.bE).fst<0)then V O else bif J ((zR a1.ax:Int)<(OI a1.bE).fst)then V O else V (J ((OI a1.bE).snd<zR a1.ax))with|I=>I|V r2=>bif r2 then V G else bif J (a1.bE=0)then match AY M306 (ux.mk a0 a2 a1.ax a1.ax.length 0)with|I=>I|V r3=>bif J (r3.t67<r3.t66)then if 0<=r3.t67/\r3.t67<zR r3.t65 then match M306 r3.t0 (az.mk r3.t65[zD r3.t67]!.bE r3.t65[zD r3.t67]!.fN r3.t65[zD r3.t67]!.ax) r3.t2 with|I=>I|V r4=>bif bif r4 then G else O then V G else I else I else V O else bif J (a1.bE=24)then match bif J (a1.fN<0)then V O else bif J (zR a0<=a1.fN)then V O else bif a2 then if 0<=a1.fN/\a1.fN<zR a0 then V (J (a0[a1.fN.toNat]!.bB=0))else I else V G with|I=>I|V r5=>bif r5 then V G else match AY M306 (ux.mk a0 a2 a1.ax a1.ax.length 0)with|I=>I|V r6=>bif J (r6.t67<r6.t66)then if 0<=r6.t67/\r6.t67<zR r6.t65 then match M306 r6.t0 (az.mk r6.t65[zD r6.t67]!.bE r6.t65[zD r6.t67]!.fN r6.t65[zD r6.t67]!.ax) r6.t2 with|I=>I|V r7=>bif bif r7 then G else O then V G else I else I else V O else bif bif J (a1.fN=0)then G else O then V G else match AY M306 (ux.mk a0 a2 a1.ax a1.ax.length 0)with|I=>I|V r8=>bif J (r8.t67<r8.t66)then if 0<=r8.t67/\r8.t67<zR r8.t65 then match M306 r8.t0 (az.mk r8.t65[zD r8.t67]!.bE r8.t65[zD r8.t67]!.fN r8.t65[zD r8.t67]!.ax) r8.t2 with|I=>I|V r9=>bif bif r9 then G else O then V G else I else I else V O
def aFs(M306:(aa bf)->az->Bool->af sZ)(a0:aa bf)(a1:az)(a2:Bool):bU vn (agd M306) 300 (apH M306) 306 (aq0.c (a0,a1,a2,())) [] 0 d306.rd=am4 M306 a0 a1 a2:=aV
def aow:Nat->((aa bf)->az->Bool->af sZ)
 |0=>(λ_ _ _=>I)
 |n+1=>(am4 (aow n))
def Tv(n:Nat):(aa bf)->az->Bool->af sZ:=(aow n)
def NW:∀n,ajG (Tv n)
 |0=>λ_ _ h=>(by cases h)
 |n+1=>by
  have ih:=NW n;have i306:=ih;exact(dR (afA i306) (aBo (Tv n)) (λ_=>aV) (λ_=>aV) λg=>aFs (Tv n) g.1 g.2.1 g.2.2.1)
def ajF:(aa bf)->az->Bool->af sZ:=λa0 a1 a2=>lim (λn=>Tv n a0 a1 a2)
def aja:ajG ajF:=λg b h=>by
 obtain⟨n,hn⟩:=dA (show lim (λn=>Tv n g.1 g.2.1 g.2.2.1)=V b from h);exact(NW n) g b hn
def aFY(F:bu):bu:=auy ajF F
def ana{F:bu}(h:bz vn F):bz vn (aFY F):=UB aja h
abbrev aCJ:=Int
def d350:Td 0 aCJ:= .c [] [4] (.r 0 0 (ec 4 aN en) sn (λz=>z.1.1) (λx=>((x,()),(()))))
def Bi(a0:Int)(a1:Int):aCJ:=
 ak (a0*a1)
def aC0:=eL vn 350 G (aS (aS ln)) d350 (λg=>V (Bi g.1 g.2.1))
def UY:EO aC0:=λh=>kL (an:= .no) func350 aP aH h
def aGY:bu:=di
abbrev aug:=Span
def d351:Td 0 aug:= .c [] [4] (.r 0 1 (ec 4 (qp 0 0) en) (sb 0 331 (lg 331) sn) (λz=>z.2.1) (λx=>(((),()),(x,()))))
def ay3:=(lc (qg 331) (lc (qg 331) ln))
def apY:An:= .no
def Y5(a0:Span)(a1:Span):aug:=
 Span.mk (if a1.ah<a0.ah then a1.ah else a0.ah) (if a0.ag<a1.ag then a1.ag else a0.ag)
def aF1(a0:Span)(a1:Span):bU vn (aGY) 300 (apY) 351 (ay3.c (a0,a1,())) [] 0 d351.rd=V (Y5 a0 a1):=by
 refine Eq.trans (b:=(
  V (Span.mk (if a1.ah<a0.ah then a1.ah else a0.ah) (if a0.ag<a1.ag then a1.ag else a0.ag)):af aug)) aV ?_
 simp only[Y5,cu,cO]
def azP:=eL vn 351 G ay3 d351 (λg=>V (Y5 g.1 g.2.1))
def Wh:EO azP:=λh=>kL (an:=apY) func351 aP aH h (c:=λg=>aF1 g.1 g.2.1)
structure Ed where
 t38:List Int
 (t39 t40:Int)
 (b0 b1:Span)
def TD:Td 0 Ed:= .c [] [6,8,38,39,40] (.r 0 3 (ec 6 (qp 0 0) (ec 8 (qp 1 0) (ec 38 (qo 2) (ec 39 aN (ec 40 aN en))))) (sb 0 331 (lg 331) (sb 1 331 (lg 331) (sr 2 3 sn))) (λz=>⟨z.t.2.1,z.1.t.2.1,z.1.q.1,z.2.1,z.t.1⟩) (λx=>(((),(),(),x.t39,x.t40,()),(x.b0,x.b1,x.t38,()))))
def qI(p:Ed):af (af Ed):=
 bif J (p.t40<p.t39)then if 0<=p.t40/\p.t40<zR p.t38 then if 3=3/\zD p.t40<zR p.t38 then V (V (Ed.mk p.t38 p.t39 (ak (p.t40+1)) p.b0 (Y5 p.b1 (Span.mk p.t38[zD p.t40]! p.t38[zD p.t40]!))))else I else I else V (I)
def F5:=bJ (qI)
abbrev aBO:=Span
def d349:Td 0 aBO:= .c [] [6] (.r 0 1 (ec 6 (qp 0 0) en) (sb 0 331 (lg 331) sn) (λz=>z.2.1) (λx=>(((),()),(x,()))))
def afs(a0:Span)(a1:Span):af aBO:=
 match F5 (Ed.mk [Bi a0.ah a1.ag,Bi a0.ag a1.ah,Bi a0.ag a1.ag] (↑[Bi a0.ah a1.ag,Bi a0.ag a1.ah,Bi a0.ag a1.ag].length:Int) 0 (Span.mk 0 0) (Span.mk (Bi a0.ah a1.ah) (Bi a0.ah a1.ah)))with|I=>I|V r1=>bif J (r1.t40<r1.t39)then if 0<=r1.t40/\r1.t40<zR r1.t38 then if 3=3/\zD r1.t40<zR r1.t38 then I else I else I else V (r1.b1)
def aCG:=eL vn 349 G (lc (qg 331) (lc (qg 331) (lc (qf 350 ln) ln))) d349 (λg=>afs g.1 g.2.1)
def aiB:EO aCG:=λh=>kL (an:=(noTwo (noTwo (noTwo (.two (noTwo (TD.lp F5 .no)) .no))))) (l:=[(aY f349 0,(TD.lp F5 .no))]) func349 (Wh (UY aP)) (aA (aO TD) aH) h
def aBc:bu:=(azP (aC0 (aCG di)))
structure BK where
 t207:List Span
 (t208 t209:Int)
 (b0 b1:Span)
def Q3:Td 0 BK:= .c [] [6,9,207,208,209] (.r 0 2 (ec 6 (qp 0 0) (ec 9 (qp 1 0) (ec 207 (ql 331) (ec 208 aN (ec 209 aN en))))) (sb 0 331 (lg 331) (sb 1 331 (lg 331) sn)) (λz=>⟨z.1.t.1,z.1.t.2.1,z.1.q.1,z.2.1,z.t.1⟩) (λx=>(((),(),x.t207,x.t208,x.t209,()),(x.b0,x.b1,()))))
def Jb(p:BK):af (af BK):=
 bif J (p.t209<p.t208)then if 0<=p.t209/\p.t209<zR p.t207 then V (V (BK.mk p.t207 p.t208 (ak (p.t209+1)) p.b0 (Y5 p.b1 p.t207[zD p.t209]!)))else I else V (I)
def FX:=bJ (Jb)
abbrev aBz:=Span
def d339:Td 0 aBz:= .c [] [6] (.r 0 1 (ec 6 (qp 0 0) en) (sb 0 331 (lg 331) sn) (λz=>z.2.1) (λx=>(((),()),(x,()))))
def aDg:∀f∈([]:aa Nat),bA (aBc) f:=aH
def akP(a0:aa bf)(a1:az)(a2:aa Span):af aBz:=
 bif J (a1.bE=0)then V (Span.mk a1.fN a1.fN)else bif J (a1.bE=24)then if 0<=a1.fN/\a1.fN<zR a0 then if 0<=a1.fN/\a1.fN<zR a0 then V (Span.mk a0[a1.fN.toNat]!.ah a0[a1.fN.toNat]!.ag)else I else I else bif J (a1.bE=6)then if(0:Int)<=(0:Int)/\(0:Int)<zR a2 then if(0:Int)<=(0:Int)/\(0:Int)<zR a2 then V (Span.mk (ak (0-a2[0]!.ag)) (ak (0-a2[0]!.ah)))else I else I else bif J (a1.bE=8)then if(0:Int)<=(0:Int)/\(0:Int)<zR a2 then if(0:Int)<=(1:Int)/\(1:Int)<zR a2 then if(0:Int)<=(0:Int)/\(0:Int)<zR a2 then if(0:Int)<=(1:Int)/\(1:Int)<zR a2 then V (Span.mk (ak (a2[0]!.ah+a2[1]!.ah)) (ak (a2[0]!.ag+a2[1]!.ag)))else I else I else I else I else bif J (a1.bE=9)then if(0:Int)<=(0:Int)/\(0:Int)<zR a2 then if(0:Int)<=(1:Int)/\(1:Int)<zR a2 then if(0:Int)<=(0:Int)/\(0:Int)<zR a2 then if(0:Int)<=(1:Int)/\(1:Int)<zR a2 then V (Span.mk (ak (a2[0]!.ah-a2[1]!.ag)) (ak (a2[0]!.ag-a2[1]!.ah)))else I else I else I else I else bif J (a1.bE=10)then if(0:Int)<=(0:Int)/\(0:Int)<zR a2 then if(0:Int)<=(1:Int)/\(1:Int)<zR a2 then match afs a2[0]! a2[1]! with|I=>I|V r1=>V (r1)else I else I else bif J (a1.bE=11)then if(0:Int)<=(0:Int)/\(0:Int)<zR a2 then if(0:Int)<=(0:Int)/\(0:Int)<zR a2 then match if(0:Int)<=(0:Int)/\(0:Int)<zR a2 then bif J (0<=a2[0]!.ah)then if(0:Int)<=(1:Int)/\(1:Int)<zR a2 then V (J (0<=a2[1]!.ah))else I else V G else I with|I=>I|V r2=>bif r2 then V (Span.mk 0 (if a2[0]!.ag<ak (0-a2[0]!.ah)then ak (0-a2[0]!.ah)else a2[0]!.ag))else V (Span.mk (ak (0-if a2[0]!.ag<ak (0-a2[0]!.ah)then ak (0-a2[0]!.ah)else a2[0]!.ag)) (if a2[0]!.ag<ak (0-a2[0]!.ah)then ak (0-a2[0]!.ah)else a2[0]!.ag))else I else I else bif J (a1.bE=12)then if(0:Int)<=(1:Int)/\(1:Int)<zR a2 then bif J (a2[1]!.ah<0)then if(0:Int)<=(1:Int)/\(1:Int)<zR a2 then if(0:Int)<=(1:Int)/\(1:Int)<zR a2 then bif J (0<a2[1]!.ag)then if(0:Int)<=(1:Int)/\(1:Int)<zR a2 then V (Span.mk (if 0<ak (a2[1]!.ah+1)then 0 else ak (a2[1]!.ah+1)) (if ak (a2[1]!.ag-1)<0 then 0 else ak (a2[1]!.ag-1)))else I else V (Span.mk (if 0<ak (a2[1]!.ah+1)then 0 else ak (a2[1]!.ah+1)) 0)else I else I else if(0:Int)<=(1:Int)/\(1:Int)<zR a2 then bif J (0<a2[1]!.ag)then if(0:Int)<=(1:Int)/\(1:Int)<zR a2 then V (Span.mk 0 (if ak (a2[1]!.ag-1)<0 then 0 else ak (a2[1]!.ag-1)))else I else V (Span.mk 0 0)else I else I else bif J (a1.bE=21)then if(0:Int)<=(0:Int)/\(0:Int)<zR a2 then if(0:Int)<=(1:Int)/\(1:Int)<zR a2 then if(0:Int)<=(0:Int)/\(0:Int)<zR a2 then if(0:Int)<=(1:Int)/\(1:Int)<zR a2 then V (Span.mk (if a2[1]!.ah<a2[0]!.ah then a2[1]!.ah else a2[0]!.ah) (if a2[1]!.ag<a2[0]!.ag then a2[1]!.ag else a2[0]!.ag))else I else I else I else I else bif J (a1.bE=22)then if(0:Int)<=(0:Int)/\(0:Int)<zR a2 then if(0:Int)<=(1:Int)/\(1:Int)<zR a2 then if(0:Int)<=(0:Int)/\(0:Int)<zR a2 then if(0:Int)<=(1:Int)/\(1:Int)<zR a2 then V (Span.mk (if a2[0]!.ah<a2[1]!.ah then a2[1]!.ah else a2[0]!.ah) (if a2[0]!.ag<a2[1]!.ag then a2[1]!.ag else a2[0]!.ag))else I else I else I else I else bif J (a1.bE=23)then if(0:Int)<=(1:Int)/\(1:Int)<zR a2 then if(0:Int)<=(2:Int)/\(2:Int)<=zR a2 then match FX (BK.mk (ya 2 a2) (↑(ya 2 a2).length:Int) 0 (Span.mk 0 0) a2[1]!)with|I=>I|V r3=>bif J (r3.t209<r3.t208)then if 0<=r3.t209/\r3.t209<zR r3.t207 then I else I else V (r3.b1)else I else I else bif J (a1.bE=25)then if(0:Int)<=(1:Int)/\(1:Int)<zR a2 then if(0:Int)<=(2:Int)/\(2:Int)<=zR a2 then match FX (BK.mk (ya 2 a2) (↑(ya 2 a2).length:Int) 0 (Span.mk 0 0) a2[1]!)with|I=>I|V r4=>bif J (r4.t209<r4.t208)then if 0<=r4.t209/\r4.t209<zR r4.t207 then I else I else V (r4.b1)else I else I else V (Span.mk 0 1)
def awf:=eL vn 339 G (lc (ql 131) (lc (qg 137) (lc (ql 331) ln))) d339 (λg=>akP g.1 g.2.1 g.t.1)
def ajJ:EO awf:=λh=>kL (F:=aBc) (an:=(noTwo (.two (noTwo (noTwo (noTwo (noTwo (noTwo (noTwo (noTwo (noTwo (noTwo (noTwo (noTwo (noTwo (noTwo (noTwo (.two (noTwo (.two (.two (.rb [] 123) .no) .no)) (noTwo (noTwo (noTwo (noTwo (noTwo (noTwo (noTwo (.two (noTwo (.two (noTwo (Q3.lp FX .no)) .no)) .no))))))))))))))))))))))) .no))) (l:=[(.skip,(.rb [] 123)),(aY f339 0,(Q3.lp FX .no))]) func339 (Wh (UY (aiB aP))) (aA aDg (aA (aO Q3) aH)) h
abbrev sQ:=Span×Bool
def d307:Td 0 sQ:= .c [] [4,5] (.r 0 1 (ec 4 (qp 0 0) (ec 5 qb en)) (sb 0 331 (lg 331) sn) (λz=>(z.2.1,z.1.2.1)) (λx=>(((),x.2,()),(x.1,()))))
def arZ:=(lc (ql 131) (lc (qg 137) ln))
def aqx(M:(aa bf)->az->af sQ):bu->bu:=eL vn 307 G arZ d307 (λg=>M g.1 g.2.1)
def ani(M:(aa bf)->az->af sQ):Prop:=HL vn 307 arZ d307 (λg=>M g.1 g.2.1)
def WU{M:(aa bf)->az->af sQ}(hM:ani M){F:bu}(h:bz vn F):bz vn (aqx M F):=ep (sc:=pF) dh hM ⟨_,func307,aV,aV⟩ (λ_=>aV) (λ_=>aV) h
def at4(M307:(aa bf)->az->af sQ):bu:=(awf (aqx M307 di))
def amp{M307}(h307:ani M307):bz vn (at4 M307):=(ajJ (WU h307 aP))
structure En where
 t0:List bf
 t6:List Span
 t13:List az
 (t14 t15:Int)
 b0:az
 b1:Span
def RY:Td 0 En:= .c [] [0,3,4,6,13,14,15] (.t (bX.s 6 [] 331) (.c [] [0,3,4,6,13,14,15] (.r 0 3 (ec 0 (ql 131) (ec 3 (qp 0 0) (ec 4 (qp 1 0) (ec 6 (qo 2) (ec 13 (ql 137) (ec 14 aN (ec 15 aN en))))))) (sb 0 137 (lg 137) (sb 1 331 (lg 331) (sr 2 331 sn))) (λz=>⟨z.1.1,z.t.2.1,z.1.q.1,z.1.q.2.1,z.1.q.t.1,z.2.1,z.t.1⟩) (λx=>((x.t0,(),(),(),x.t13,x.t14,x.t15,()),(x.b0,x.b1,x.t6,()))))))
def Gn(M307:(aa bf)->az->af sQ)(p:En):af (af En):=
 bif J (p.t15<p.t14)then if 0<=p.t15/\p.t15<zR p.t13 then match M307 p.t0 (az.mk p.t13[zD p.t15]!.bE p.t13[zD p.t15]!.fN p.t13[zD p.t15]!.ax)with|I=>I|V r1=>bif bif r1.snd then G else O then V (I)else if(p.t6++[r1.fst]).length<=1073741824 then V (V (En.mk p.t0 (p.t6++[r1.fst]) p.t13 p.t14 (ak (p.t15+1)) (az.mk p.b0.bE p.b0.fN p.b0.ax) p.b1))else I else I else V (I)
def K9(M307:(aa bf)->az->af sQ):=bJ (Gn M307)
def anO(M307:(aa bf)->az->af sQ):An:=(noTwo (noTwo (.two (noTwo (RY.lp (K9 M307) .no)) .no)))
def axK(M307:(aa bf)->az->af sQ):eX vn (at4 M307) 0 300 307 (anO M307):=b6 (l:=[(aY f307 0,(RY.lp (K9 M307) .no))]) func307 (bN aV) aV (aA (aO RY) aH)
def alJ(M307:(aa bf)->az->af sQ)(a0:aa bf)(a1:az):af sQ:=
 match K9 M307 (En.mk a0 [] a1.ax a1.ax.length 0 (az.mk a1.bE a1.fN a1.ax) (Span.mk 0 0))with|I=>I|V r2=>bif J (r2.t15<r2.t14)then if 0<=r2.t15/\r2.t15<zR r2.t13 then match M307 r2.t0 (az.mk r2.t13[zD r2.t15]!.bE r2.t13[zD r2.t15]!.fN r2.t13[zD r2.t15]!.ax)with|I=>I|V r3=>bif bif r3.snd then G else O then V (Span.mk 0 0,G)else if(r2.t6++[r3.fst]).length<=1073741824 then I else I else I else match akP r2.t0 (az.mk r2.b0.bE r2.b0.fN r2.b0.ax) r2.t6 with|I=>I|V r4=>bif J (-1048576<=r4.ah)then V ((r4,J (r4.ag<=1048576)))else V (r4,G)
def aGb(M307:(aa bf)->az->af sQ)(a0:aa bf)(a1:az):bU vn (at4 M307) 300 (anO M307) 307 (arZ.c (a0,a1,())) [] 0 d307.rd=alJ M307 a0 a1:=aV
def apd:Nat->((aa bf)->az->af sQ)
 |0=>(λ_ _=>I)
 |n+1=>(alJ (apd n))
def TC(n:Nat):(aa bf)->az->af sQ:=(apd n)
def Nf:∀n,ani (TC n)
 |0=>λ_ _ h=>(by cases h)
 |n+1=>by
  have ih:=Nf n;have i307:=ih;exact(dR (amp i307) (axK (TC n)) (λ_=>aV) (λ_=>aV) λg=>aGb (TC n) g.1 g.2.1)
def amS:(aa bf)->az->af sQ:=λa0 a1=>lim (λn=>TC n a0 a1)
def alF:ani amS:=λg b h=>by
 obtain⟨n,hn⟩:=dA (show lim (λn=>TC n g.1 g.2.1)=V b from h);exact(Nf n) g b hn
def aGH(F:bu):bu:=aqx amS F
def agj{F:bu}(h:bz vn F):bz vn (aGH F):=WU alF h
abbrev az1:=Int
def d267:Td 0 az1:= .c [] [6] (.r 0 0 (ec 6 aN en) sn (λz=>z.1.1) (λx=>((x,()),(()))))
def Qp(a0:aa bf)(a1:az)(a2:Bool):af az1:=
 match ajF a0 (az.mk a1.bE a1.fN a1.ax) a2 with|I=>I|V r1=>bif bif r1 then G else O then V (1)else match amS a0 (az.mk a1.bE a1.fN a1.ax)with|I=>I|V r2=>bif bif r2.snd then G else O then V (3)else V (0)
def aq1:=eL vn 267 G (lc (ql 131) (lc (qg 137) (lc qb ln))) d267 (λg=>Qp g.1 g.2.1 g.t.1)
def Wv:EO aq1:=λh=>kL (an:= .no) func267 (agj (ana aP)) aH h
def Y4:EP aq1:=λh=>kP h
structure EL where
 t8:List dD
 (t9 t10:Int)
 b0:aU
def T8:Td 0 EL:= .c [] [1,8,9,10] (.r 0 1 (ec 1 (qp 0 0) (ec 8 (ql 139) (ec 9 aN (ec 10 aN en)))) (sb 0 26 (lg 26) sn) (λz=>⟨z.1.2.1,z.1.t.1,z.1.t.2.1,z.2.1⟩) (λx=>(((),x.t8,x.t9,x.t10,()),(x.b0,()))))
def BE(p:EL):af (af EL):=
 bif J (p.t10<p.t9)then if 0<=p.t10/\p.t10<zR p.t8 then match T3 p.t8[zD p.t10]!.fName with|I=>I|V r1=>bif bif r1 then G else O then V (I)else if 0<=p.t10/\p.t10<=zR p.b0.au then match adk (List.take p.t10.toNat p.b0.au) (dD.mk p.t8[zD p.t10]!.fName p.t8[zD p.t10]!.ah p.t8[zD p.t10]!.ag (az.mk p.t8[zD p.t10]!.aG.bE p.t8[zD p.t10]!.aG.fN p.t8[zD p.t10]!.aG.ax))with|I=>I|V r2=>bif r2 then V (I)else bif bif Mc p.t8[zD p.t10]!.ah p.t8[zD p.t10]!.ag then G else O then V (I)else match Qp p.b0.ai (az.mk p.t8[zD p.t10]!.aG.bE p.t8[zD p.t10]!.aG.fN p.t8[zD p.t10]!.aG.ax) O with|I=>I|V r3=>bif bif J (r3=0)then G else O then V (I)else V (V (EL.mk p.t8 p.t9 (ak (p.t10+1)) p.b0))else I else I else V (I)
def LM:=bJ (BE)
abbrev aBW:=Int
def d211:Td 0 aBW:= .c [] [2] (.r 0 0 (ec 2 aN en) sn (λz=>z.1.1) (λx=>((x,()),(()))))
def afB(a0:aU):af aBW:=
 match LM (EL.mk a0.au a0.au.length 0 a0)with|I=>I|V r4=>bif J (r4.t10<r4.t9)then if 0<=r4.t10/\r4.t10<zR r4.t8 then match T3 r4.t8[zD r4.t10]!.fName with|I=>I|V r5=>bif bif r5 then G else O then V 7 else if 0<=r4.t10/\r4.t10<=zR r4.b0.au then match adk (List.take r4.t10.toNat r4.b0.au) (dD.mk r4.t8[zD r4.t10]!.fName r4.t8[zD r4.t10]!.ah r4.t8[zD r4.t10]!.ag (az.mk r4.t8[zD r4.t10]!.aG.bE r4.t8[zD r4.t10]!.aG.fN r4.t8[zD r4.t10]!.aG.ax))with|I=>I|V r6=>bif r6 then V 8 else bif bif Mc r4.t8[zD r4.t10]!.ah r4.t8[zD r4.t10]!.ag then G else O then V 3 else match Qp r4.b0.ai (az.mk r4.t8[zD r4.t10]!.aG.bE r4.t8[zD r4.t10]!.aG.fN r4.t8[zD r4.t10]!.aG.ax) O with|I=>I|V r7=>bif bif J (r7=0)then G else O then V (r7)else I else I else I else V 0
def aC5:=eL vn 211 G (lc (qg 26) ln) d211 (λg=>afB g.1)
def ah2:EO aC5:=λh=>kL (an:=(noTwo (.two (noTwo (T8.lp LM .no)) .no))) (l:=[(aY f211 0,(T8.lp LM .no))]) func211 (Wv (alw (Xf (Wp aP)))) (aA (aO T8) aH) h
def as6:bu:=di
abbrev aqJ:=Bool
def d308:Td 0 aqJ:= .c [] [2] (.r 0 0 (ec 2 qb en) sn (λz=>z.1.1) (λx=>((x,()),(()))))
def az6:=(aS ln)
def apj:An:=(noTwo (.two (.rb [] 2) .no))
def aw6:∀f∈([]:aa Nat),bA (as6) f:=aH
def YL(a0:Int):aqJ:=
 let r1:Bool:=bif J (a0=0)then O else J (a0=5);r1
def aHA(a0:Int):bU vn (as6) 300 (apj) 308 (az6.c (a0,())) [] 0 d308.rd=V (YL a0):=by
 refine Eq.trans (b:=(
  match bif J (a0=0)then V (O)else V (J (a0=5))with|I=>I|V r1=>V (r1):af aqJ)) aV ?_
 simp only[YL,cu,cO]
def aqh:=eL vn 308 G az6 d308 (λg=>V (YL g.1))
def ame:EO aqh:=λh=>kL (F:=as6) (an:=apj) (l:=[(.skip,(.rb [] 2))]) func308 aP (aA aw6 aH) h (c:=λg=>aHA g.1)
def oa:EP aqh:=λh=>kP h
def ath:bu:=di
abbrev auk:=Bool
def d309:Td 0 auk:= .c [] [2] (.r 0 0 (ec 2 qb en) sn (λz=>z.1.1) (λx=>((x,()),(()))))
def ayR:=(aS ln)
def anu:An:=(noTwo (.two (.rb [] 2) .no))
def aBF:∀f∈([]:aa Nat),bA (ath) f:=aH
def acY(a0:Int):auk:=
 let r1:Bool:=bif J (a0=4)then O else J (a0=5);r1
def aEw(a0:Int):bU vn (ath) 300 (anu) 309 (ayR.c (a0,())) [] 0 d309.rd=V (acY a0):=by
 refine Eq.trans (b:=(
  match bif J (a0=4)then V (O)else V (J (a0=5))with|I=>I|V r1=>V (r1):af auk)) aV ?_
 simp only[acY,cu,cO]
def aq5:=eL vn 309 G ayR d309 (λg=>V (acY g.1))
def ako:EO aq5:=λh=>kL (F:=ath) (an:=anu) (l:=[(.skip,(.rb [] 2))]) func309 aP (aA aBF aH) h (c:=λg=>aEw g.1)
def nv:EP aq5:=λh=>kP h
def auC:bu:=di
abbrev att:=Bool
def d310:Td 0 att:= .c [] [2] (.r 0 0 (ec 2 qb en) sn (λz=>z.1.1) (λx=>((x,()),(()))))
def aAq:=(aS ln)
def apN:An:=(noTwo (.two (.rb [] 2) .no))
def azW:∀f∈([]:aa Nat),bA (auC) f:=aH
def aeR(a0:Int):att:=
 let r1:Bool:=bif J (a0=0)then O else bif J (a0=1)then O else bif J (a0=3)then O else J (a0=4);r1
def aGt(a0:Int):bU vn (auC) 300 (apN) 310 (aAq.c (a0,())) [] 0 d310.rd=V (aeR a0):=by
 refine Eq.trans (b:=(
  match bif J (a0=0)then V (O)else bif J (a0=1)then V (O)else bif J (a0=3)then V (O)else V (J (a0=4))with|I=>I|V r1=>V (r1):af att)) aV ?_
 simp only[aeR,cu,cO]
def atg:=eL vn 310 G aAq d310 (λg=>V (aeR g.1))
def agT:EO atg:=λh=>kL (F:=auC) (an:=apN) (l:=[(.skip,(.rb [] 2))]) func310 aP (aA azW aH) h (c:=λg=>aGt g.1)
def nD:EP atg:=λh=>kP h
def avJ:bu:=di
abbrev asu:=Bool
def d311:Td 0 asu:= .c [] [2] (.r 0 0 (ec 2 qb en) sn (λz=>z.1.1) (λx=>((x,()),(()))))
def aCP:=(lc (qg 137) ln)
def aoh:An:=(noTwo (.two (.rb [] 2) .no))
def ayz:∀f∈([]:aa Nat),bA (avJ) f:=aH
def Y6(a0:az):asu:=
 let r1:Bool:=bif J (a0.bE=0)then bif J (a0.fN=0)then J ((zR a0.ax:Int)=0)else G else G;r1
def aH0(a0:az):bU vn (avJ) 300 (aoh) 311 (aCP.c (a0,())) [] 0 d311.rd=V (Y6 a0):=by
 refine Eq.trans (b:=(
  match bif J (a0.bE=0)then bif J (a0.fN=0)then V (J ((zR a0.ax:Int)=0))else V (G)else V (G)with|I=>I|V r1=>V (r1):af asu)) aV ?_
 simp only[Y6,cu,cO]
def atZ:=eL vn 311 G aCP d311 (λg=>V (Y6 g.1))
def aiL:EO atZ:=λh=>kL (F:=avJ) (an:=aoh) (l:=[(.skip,(.rb [] 2))]) func311 aP (aA ayz aH) h (c:=λg=>aH0 g.1)
def nC:EP atZ:=λh=>kP h
structure Bj where
 t0:List Int
 (t5 t6:Int)
def TR:Td 0 Bj:= .c [] [0,5,6] (.r 0 0 (ec 0 (ql 3) (ec 5 aN (ec 6 aN en))) sn (λz=>⟨z.1.1,z.1.2.1,z.1.t.1⟩) (λx=>((x.t0,x.t5,x.t6,()),(()))))
def Mb(p:Bj):af (af Bj):=
 bif J (p.t6<p.t5)then bif J (0<p.t6)then if 0<=p.t6/\p.t6<zR p.t0 then if 0<=ak (p.t6-1)/\ak (p.t6-1)<zR p.t0 then bif J (((p.t0,p.t5,p.t6,()),()).fst.fst[((p.t0,p.t5,p.t6,()),()).fst.snd.snd.fst.toNat]!<=((p.t0,p.t5,p.t6,()),()).fst.fst[(ak (((p.t0,p.t5,p.t6,()),()).fst.snd.snd.fst-1)).toNat]!)then V (I)else V (V (Bj.mk p.t0 p.t5 (ak (p.t6+1))))else I else I else V (V (Bj.mk p.t0 p.t5 (ak (p.t6+1))))else V (I)
def Kk:=bJ (Mb)
abbrev aAw:=Bool
def d312:Td 0 aAw:= .c [] [2] (.r 0 0 (ec 2 qb en) sn (λz=>z.1.1) (λx=>((x,()),(()))))
def abM(a0:aa Int):af aAw:=
 match Kk (Bj.mk a0 a0.length 0)with|I=>I|V r1=>bif J (r1.t6<r1.t5)then bif J (0<r1.t6)then if 0<=r1.t6/\r1.t6<zR r1.t0 then if 0<=ak (r1.t6-1)/\ak (r1.t6-1)<zR r1.t0 then bif J (((r1.t0,r1.t5,r1.t6,()),()).fst.fst[((r1.t0,r1.t5,r1.t6,()),()).fst.snd.snd.fst.toNat]!<=((r1.t0,r1.t5,r1.t6,()),()).fst.fst[(ak (((r1.t0,r1.t5,r1.t6,()),()).fst.snd.snd.fst-1)).toNat]!)then V G else I else I else I else I else V O
def au7:=eL vn 312 G (lc (ql 3) ln) d312 (λg=>abM g.1)
def afD:EO au7:=λh=>kL (an:=(noTwo (.two (noTwo (TR.lp Kk .no)) .no))) (l:=[(aY f312 0,(TR.lp Kk .no))]) func312 aP (aA (aO TR) aH) h
def n9:EP au7:=λh=>kP h
def aBU:bu:=(au7 (atZ (atg (aq5 (aqh di)))))
abbrev aCg:=Bool
def d268:Td 0 aCg:= .c [] [6] (.r 0 0 (ec 6 qb en) sn (λz=>z.1.1) (λx=>((x,()),(()))))
def tv:∀f∈([308,309,310,311,312]:aa Nat),bA (aBU) f:=(aA (n9 (nC (nD (nv (oa bF))))) (aA (n9 (nC (nD (nv (oa bF))))) (aA (n9 (nC (nD (nv (oa bF))))) (aA (n9 (nC (nD (nv (oa bF))))) (aA (n9 (nC (nD (nv (oa bF))))) aH)))))
def QD(a0:aU)(a1:aB)(a2:Bool):af aCg:=
 match bif J (a1.cg<0)then V O else V (J (6<a1.cg))with|I=>I|V r1=>bif r1 then V G else match bif bif YL a1.cg then G else O then V (bif J (a1.dJ=0)then G else O)else V G with|I=>I|V r2=>bif r2 then V G else match bif bif acY a1.cg then G else O then V (bif J (a1.fN=0)then G else O)else V G with|I=>I|V r3=>bif r3 then V G else match bif bif aeR a1.cg then G else O then V (bif Y6 (az.mk a1.aG.bE a1.aG.fN a1.aG.ax)then G else O)else V G with|I=>I|V r4=>bif r4 then V G else match bif bif J (a1.cg=3)then G else O then bif bif J (a1.cg=4)then G else O then V (J (0<(zR a1.aQ:Int)))else V G else V G with|I=>I|V r5=>bif r5 then V G else match bif bif J (a1.cg=3)then G else O then V (J (0<(zR a1.aW:Int)))else V G with|I=>I|V r6=>bif r6 then V G else match bif bif J (a1.cg=6)then G else O then V (J (0<(zR a1.aR:Int)))else V G with|I=>I|V r7=>bif r7 then V G else match bif YL a1.cg then bif J (a1.dJ<0)then V O else bif J (zR a0.ai<=a1.dJ)then V O else if 0<=a1.dJ/\a1.dJ<zR a0.ai then V (bif J (a0.ai[a1.dJ.toNat]!.bB=0)then G else O)else I else V G with|I=>I|V r8=>bif r8 then V G else match bif J (a1.cg=5)then bif J (a1.fN<0)then V O else V (J (zR a0.au<=a1.fN))else V G with|I=>I|V r9=>bif r9 then V G else match bif bif J (a1.cg=6)then G else O then V O else bif a2 then bif J (0<(zR a1.aR:Int))then bif J ((zR a1.aR:Int)<=32)then if(0:Int)<=(0:Int)/\(0:Int)<zR a1.aR then bif J (0<=a1.aR[zD 0]!)then match abM a1.aR with|I=>I|V r10=>V (r10)else V G else I else V G else V G else V G with|I=>I|V r11=>V (r11)
def atu:=eL vn 268 G (lc (qg 26) (lc (qg 166) (lc qb ln))) d268 (λg=>QD g.1 g.2.1 g.t.1)
def ag6:EO atu:=λh=>kL (F:=aBU) (an:=(noTwo (noTwo (.two (.two (.two (.rb [308,309,310,311,312] 10) (noTwo (.two (.rb [308,309,310,311,312] 10) (noTwo (.two (.rb [308,309,310,311,312] 10) (noTwo (.two (.rb [308,309,310,311,312] 10) (noTwo (.two (.rb [308,309,310,311,312] 10) (noTwo (.two (.rb [308,309,310,311,312] 10) (noTwo (.two (.rb [308,309,310,311,312] 10) (noTwo (.two (.rb [308,309,310,311,312] 10) (noTwo (.rb [308,309,310,311,312] 10))))))))))))))))) .no) (.two (.rb [308,309,310,311,312] 6) .no))))) (l:=[(.skip,(.rb [308,309,310,311,312] 10)),(.skip,(.rb [308,309,310,311,312] 10)),(.skip,(.rb [308,309,310,311,312] 10)),(.skip,(.rb [308,309,310,311,312] 10)),(.skip,(.rb [308,309,310,311,312] 10)),(.skip,(.rb [308,309,310,311,312] 10)),(.skip,(.rb [308,309,310,311,312] 10)),(.skip,(.rb [308,309,310,311,312] 10)),(.skip,(.rb [308,309,310,311,312] 10)),(.skip,(.rb [308,309,310,311,312] 6))]) func268 (afD (aiL (agT (ako (ame aP))))) (aA tv (aA tv (aA tv (aA tv (aA tv (aA tv (aA tv (aA tv (aA tv (aA tv aH)))))))))) h
def Y1:EP atu:=λh=>kP h
def ayO:bu:=di
abbrev aBh:=Bool
def d269:Td 0 aBh:= .c [] [2] (.r 0 0 (ec 2 qb en) sn (λz=>z.1.1) (λx=>((x,()),(()))))
def aoN:∀f∈([]:aa Nat),bA (ayO) f:=aH
def Sa(a0:aB):af aBh:=
 bif J (a0.cg=2)then match bif J (a0.bg<0)then V O else bif J (67108864<a0.bg)then V O else bif J (a0.cg=4)then bif J (a0.fN<0)then V O else V (J (4096<a0.fN))else V G with|I=>I|V r1=>bif r1 then V G else match bif bif J (a0.cg=6)then G else O then V O else if 0<=ak ((zR a0.aR:Int)-(1:Int))/\ak ((zR a0.aR:Int)-(1:Int))<zR a0.aR then V (J (a0.aR[(ak ((zR a0.aR:Int)-1)).toNat]!<=67108864))else I with|I=>I|V r2=>V (r2)else match bif J (a0.bg<0)then V O else bif J (10000<a0.bg)then V O else bif J (a0.cg=4)then bif J (a0.fN<0)then V O else V (J (4096<a0.fN))else V G with|I=>I|V r3=>bif r3 then V G else match bif bif J (a0.cg=6)then G else O then V O else if 0<=ak ((zR a0.aR:Int)-(1:Int))/\ak ((zR a0.aR:Int)-(1:Int))<zR a0.aR then V (J (a0.aR[(ak ((zR a0.aR:Int)-1)).toNat]!<=67108864))else I with|I=>I|V r4=>V (r4)
def atG:=eL vn 269 G (lc (qg 166) ln) d269 (λg=>Sa g.1)
def ak4:EO atG:=λh=>kL (F:=ayO) (an:=(noTwo (noTwo (noTwo (.two (.two (.rb [] 30) .no) (.two (.rb [] 2) .no)))))) (l:=[(.skip,(.rb [] 30)),(.skip,(.rb [] 2))]) func269 aP (aA aoN (aA aoN aH)) h
def XD:EP atG:=λh=>kP h
abbrev mH:=Int
def d212:Td 0 mH:= .c [] [6] (.r 0 0 (ec 6 aN en) sn (λz=>z.1.1) (λx=>((x,()),(()))))
def aqE:=(lc (qg 26) (lc (ql 166) (lc qb ln)))
def aiH(M:aU->(aa aB)->Bool->af mH):bu->bu:=eL vn 212 G aqE d212 (λg=>M g.1 g.2.1 g.2.2.1)
def Zn{M:aU->(aa aB)->Bool->af mH}{F:bu}{f:Nat}(h:bA F f):bA (aiH M F) f:=gi h (λ_=>aV)
def amN(M:aU->(aa aB)->Bool->af mH):Prop:=HL vn 212 aqE d212 (λg=>M g.1 g.2.1 g.2.2.1)
def WL{M:aU->(aa aB)->Bool->af mH}(hM:amN M){F:bu}(h:bz vn F):bz vn (aiH M F):=ep (sc:=pF) dh hM ⟨_,func212,aV,aV⟩ (λ_=>aV) (λ_=>aV) h
def aly(M212:aU->(aa aB)->Bool->af mH):bu:=(atG (atu (aq1 (aiH M212 di))))
def agk{M212}(h212:amN M212):bz vn (aly M212):=(ak4 (ag6 (Wv (WL h212 aP))))
structure BV where
 t1:List aB
 t2:Bool
 t13:List aB
 (t14 t15:Int)
 t47:List (List aB)
 (t48 t49:Int)
 b0:aU
def Tq:Td 0 BV:= .c [] [1,2,3,13,14,15,47,48,49] (.r 0 2 (ec 1 (ql 166) (ec 2 qb (ec 3 (qp 0 0) (ec 13 (ql 166) (ec 14 aN (ec 15 aN (ec 47 (qo 1) (ec 48 aN (ec 49 aN en))))))))) (sb 0 26 (lg 26) (sr 1 24 sn)) (λz=>⟨z.1.1,z.1.2.1,z.1.t.2.1,z.1.q.1,z.1.q.2.1,z.t.1,z.1.q.t.2.1,z.1.q.q.1,z.2.1⟩) (λx=>((x.t1,x.t2,(),x.t13,x.t14,x.t15,(),x.t48,x.t49,()),(x.b0,x.t47,()))))
def BO(M212:aU->(aa aB)->Bool->af mH)(p:BV):af (af BV):=
 bif J (p.t49<p.t48)then if 0<=p.t49/\p.t49<zR p.t47 then if 24=24/\zD p.t49<zR p.t47 then match M212 p.b0 p.t47[zD p.t49]! G with|I=>I|V r8=>bif bif J (r8=0)then G else O then V (I)else V (V (BV.mk p.t1 p.t2 p.t13 p.t14 p.t15 p.t47 p.t48 (ak (p.t49+1)) p.b0))else I else I else V (I)
def B0(M212:aU->(aa aB)->Bool->af mH):=bJ (BO M212)
structure Gk where
 t1:List aB
 t2:Bool
 t13:List aB
 (t14 t15:Int)
 b0:aU
def RL:Td 0 Gk:= .c [] [1,2,3,13,14,15] (.r 0 1 (ec 1 (ql 166) (ec 2 qb (ec 3 (qp 0 0) (ec 13 (ql 166) (ec 14 aN (ec 15 aN en)))))) (sb 0 26 (lg 26) sn) (λz=>⟨z.1.1,z.1.2.1,z.1.t.2.1,z.1.q.1,z.1.q.2.1,z.2.1⟩) (λx=>((x.t1,x.t2,(),x.t13,x.t14,x.t15,()),(x.b0,()))))
def BW(M212:aU->(aa aB)->Bool->af mH)(p:Gk):af (af Gk):=
 bif J (p.t15<p.t14)then if 0<=p.t15/\p.t15<zR p.t13 then match bif p.t2 then match QD p.b0 (aB.mk p.t13[zD p.t15]!.cg p.t13[zD p.t15]!.bg p.t13[zD p.t15]!.dJ p.t13[zD p.t15]!.fN (az.mk p.t13[zD p.t15]!.aG.bE p.t13[zD p.t15]!.aG.fN p.t13[zD p.t15]!.aG.ax) p.t13[zD p.t15]!.aQ p.t13[zD p.t15]!.aW p.t13[zD p.t15]!.aR) (J (((p.t1,p.t2,(),p.t13,p.t14,p.t15,()),p.b0,()).fst.snd.snd.snd.snd.snd.fst=ak ((↑((p.t1,p.t2,(),p.t13,p.t14,p.t15,()),p.b0,()).fst.fst.length:Int)-1)))with|I=>I|V r1=>V (bif r1 then G else O)else match QD p.b0 (aB.mk p.t13[zD p.t15]!.cg p.t13[zD p.t15]!.bg p.t13[zD p.t15]!.dJ p.t13[zD p.t15]!.fN (az.mk p.t13[zD p.t15]!.aG.bE p.t13[zD p.t15]!.aG.fN p.t13[zD p.t15]!.aG.ax) p.t13[zD p.t15]!.aQ p.t13[zD p.t15]!.aW p.t13[zD p.t15]!.aR) G with|I=>I|V r2=>V (bif r2 then G else O)with|I=>I|V r3=>bif r3 then V (I)else match Sa (aB.mk p.t13[zD p.t15]!.cg p.t13[zD p.t15]!.bg p.t13[zD p.t15]!.dJ p.t13[zD p.t15]!.fN (az.mk p.t13[zD p.t15]!.aG.bE p.t13[zD p.t15]!.aG.fN p.t13[zD p.t15]!.aG.ax) p.t13[zD p.t15]!.aQ p.t13[zD p.t15]!.aW p.t13[zD p.t15]!.aR)with|I=>I|V r4=>bif bif r4 then G else O then V (I)else match Qp p.b0.ai (az.mk p.t13[zD p.t15]!.aG.bE p.t13[zD p.t15]!.aG.fN p.t13[zD p.t15]!.aG.ax) G with|I=>I|V r5=>bif bif J (r5=0)then G else O then V (I)else match B0 M212 (BV.mk p.t1 p.t2 p.t13 p.t14 p.t15 [p.t13[zD p.t15]!.aQ,p.t13[zD p.t15]!.aW] (↑[p.t13[zD p.t15]!.aQ,p.t13[zD p.t15]!.aW].length:Int) 0 p.b0)with|I=>I|V r6=>bif J (r6.t49<r6.t48)then if 0<=r6.t49/\r6.t49<zR r6.t47 then if 24=24/\zD r6.t49<zR r6.t47 then match M212 r6.b0 r6.t47[zD r6.t49]! G with|I=>I|V r7=>bif bif J (r7=0)then G else O then V (I)else I else I else I else V (V (Gk.mk r6.t1 r6.t2 r6.t13 r6.t14 (ak (r6.t15+1)) r6.b0))else I else V (I)
def abt(M212:aU->(aa aB)->Bool->af mH):An:=(noTwo (noTwo (.two (noTwo (.two (.two (.rb [268] 31) .no) (noTwo (noTwo (noTwo (Tq.lp (B0 M212) .no)))))) .no)))
def LK(M212:aU->(aa aB)->Bool->af mH):=bJ (BW M212)
def apx(M212:aU->(aa aB)->Bool->af mH):An:=(noTwo (.two (noTwo (RL.lp (LK M212) (abt M212))) .no))
def azN{M212}:∀f∈([268]:aa Nat),bA (aly M212) f:=(aA (XD (Y1 (Y4 (Zn bF)))) aH)
def aCp(M212:aU->(aa aB)->Bool->af mH):eX vn (aly M212) 0 300 212 (apx M212):=b6 (l:=[(aY f212 0,(RL.lp (LK M212) (abt M212))),(.skip,(.rb [268] 31)),(aY f212 1,(Tq.lp (B0 M212) .no))]) func212 (bN aV) aV (aA (aO RL) (aA azN (aA (aO Tq) aH)))
def afv(M212:aU->(aa aB)->Bool->af mH)(a0:aU)(a1:aa aB)(a2:Bool):af mH:=
 match LK M212 (Gk.mk a1 a2 a1 a1.length 0 a0)with|I=>I|V r9=>bif J (r9.t15<r9.t14)then if 0<=r9.t15/\r9.t15<zR r9.t13 then match bif r9.t2 then match QD r9.b0 (aB.mk r9.t13[zD r9.t15]!.cg r9.t13[zD r9.t15]!.bg r9.t13[zD r9.t15]!.dJ r9.t13[zD r9.t15]!.fN (az.mk r9.t13[zD r9.t15]!.aG.bE r9.t13[zD r9.t15]!.aG.fN r9.t13[zD r9.t15]!.aG.ax) r9.t13[zD r9.t15]!.aQ r9.t13[zD r9.t15]!.aW r9.t13[zD r9.t15]!.aR) (J (((r9.t1,r9.t2,(),r9.t13,r9.t14,r9.t15,()),r9.b0,()).fst.snd.snd.snd.snd.snd.fst=ak ((↑((r9.t1,r9.t2,(),r9.t13,r9.t14,r9.t15,()),r9.b0,()).fst.fst.length:Int)-1)))with|I=>I|V r10=>V (bif r10 then G else O)else match QD r9.b0 (aB.mk r9.t13[zD r9.t15]!.cg r9.t13[zD r9.t15]!.bg r9.t13[zD r9.t15]!.dJ r9.t13[zD r9.t15]!.fN (az.mk r9.t13[zD r9.t15]!.aG.bE r9.t13[zD r9.t15]!.aG.fN r9.t13[zD r9.t15]!.aG.ax) r9.t13[zD r9.t15]!.aQ r9.t13[zD r9.t15]!.aW r9.t13[zD r9.t15]!.aR) G with|I=>I|V r11=>V (bif r11 then G else O)with|I=>I|V r12=>bif r12 then V 1 else match Sa (aB.mk r9.t13[zD r9.t15]!.cg r9.t13[zD r9.t15]!.bg r9.t13[zD r9.t15]!.dJ r9.t13[zD r9.t15]!.fN (az.mk r9.t13[zD r9.t15]!.aG.bE r9.t13[zD r9.t15]!.aG.fN r9.t13[zD r9.t15]!.aG.ax) r9.t13[zD r9.t15]!.aQ r9.t13[zD r9.t15]!.aW r9.t13[zD r9.t15]!.aR)with|I=>I|V r13=>bif bif r13 then G else O then V 3 else match Qp r9.b0.ai (az.mk r9.t13[zD r9.t15]!.aG.bE r9.t13[zD r9.t15]!.aG.fN r9.t13[zD r9.t15]!.aG.ax) G with|I=>I|V r14=>bif bif J (r14=0)then G else O then V (r14)else match B0 M212 (BV.mk r9.t1 r9.t2 r9.t13 r9.t14 r9.t15 [r9.t13[zD r9.t15]!.aQ,r9.t13[zD r9.t15]!.aW] (↑[r9.t13[zD r9.t15]!.aQ,r9.t13[zD r9.t15]!.aW].length:Int) 0 r9.b0)with|I=>I|V r15=>bif J (r15.t49<r15.t48)then if 0<=r15.t49/\r15.t49<zR r15.t47 then if 24=24/\zD r15.t49<zR r15.t47 then match M212 r15.b0 r15.t47[zD r15.t49]! G with|I=>I|V r16=>bif bif J (r16=0)then G else O then V (r16)else I else I else I else I else I else V 0
def aEP(M212:aU->(aa aB)->Bool->af mH)(a0:aU)(a1:aa aB)(a2:Bool):bU vn (aly M212) 300 (apx M212) 212 (aqE.c (a0,a1,a2,())) [] 0 d212.rd=afv M212 a0 a1 a2:=aV
def aoG:Nat->(aU->(aa aB)->Bool->af mH)
 |0=>(λ_ _ _=>I)
 |n+1=>(afv (aoG n))
def QA(n:Nat):aU->(aa aB)->Bool->af mH:=(aoG n)
def PV:∀n,amN (QA n)
 |0=>λ_ _ h=>(by cases h)
 |n+1=>by
  have ih:=PV n;have i212:=ih;exact(dR (agk i212) (aCp (QA n)) (λ_=>aV) (λ_=>aV) λg=>aEP (QA n) g.1 g.2.1 g.2.2.1)
def alI:aU->(aa aB)->Bool->af mH:=λa0 a1 a2=>lim (λn=>QA n a0 a1 a2)
def aiS:amN alI:=λg b h=>by
 obtain⟨n,hn⟩:=dA (show lim (λn=>QA n g.1 g.2.1 g.2.2.1)=V b from h);exact(PV n) g b hn
def aBu(F:bu):bu:=aiH alI F
def af9{F:bu}(h:bz vn F):bz vn (aBu F):=WL aiS h
abbrev sU:=qa
def d213:Td 0 sU:= .c [] [2] (.r 0 1 (ec 2 (qp 0 0) en) (sb 0 260 (lg 260) sn) (λz=>z.2.1) (λx=>(((),()),(x,()))))
def auT:=(lc (ql 166) ln)
def atn(M:(aa aB)->af sU):bu->bu:=eL vn 213 G auT d213 (λg=>M g.1)
def ajN(M:(aa aB)->af sU):Prop:=HL vn 213 auT d213 (λg=>M g.1)
def U4{M:(aa aB)->af sU}(hM:ajN M){F:bu}(h:bz vn F):bz vn (atn M F):=ep (sc:=pF) dh hM ⟨_,func213,aV,aV⟩ (λ_=>aV) (λ_=>aV) h
def at6(M213:(aa aB)->af sU):bu:=(atn M213 di)
def ahC{M213}(h213:ajN M213):bz vn (at6 M213):=(U4 h213 aP)
structure qW where
 t9:List aB
 (t10 t11:Int)
 (b0 b1:qa)
def QJ:Td 0 qW:= .c [] [2,3,9,10,11] (.r 0 2 (ec 2 (qp 0 0) (ec 3 (qp 1 0) (ec 9 (ql 166) (ec 10 aN (ec 11 aN en))))) (sb 0 260 (lg 260) (sb 1 260 (lg 260) sn)) (λz=>⟨z.1.t.1,z.1.t.2.1,z.1.q.1,z.2.1,z.t.1⟩) (λx=>(((),(),x.t9,x.t10,x.t11,()),(x.b0,x.b1,()))))
def Jk(M213:(aa aB)->af sU)(p:qW):af (af qW):=
 bif J (p.t11<p.t10)then if 0<=p.t11/\p.t11<zR p.t9 then match M213 p.t9[zD p.t11]!.aQ with|I=>I|V r1=>match M213 p.t9[zD p.t11]!.aW with|I=>I|V r2=>bif J (p.t9[zD p.t11]!.cg=1)then V (V (qW.mk p.t9 p.t10 (ak (p.t11+1)) p.b0 (qa.mk (if 1099511627776<ak (p.b1.gh+1)then 1099511627776 else ak (p.b1.gh+1)) (if 1099511627776<ak (p.b1.aK+1)then 1099511627776 else ak (p.b1.aK+1)) (if 1099511627776<ak (p.b1.aI+p.t9[zD p.t11]!.bg)then 1099511627776 else ak (p.b1.aI+p.t9[zD p.t11]!.bg)))))else bif J (p.t9[zD p.t11]!.cg=3)then V (V (qW.mk p.t9 p.t10 (ak (p.t11+1)) p.b0 (qa.mk (if 1099511627776<ak (p.b1.gh+ak (1+if r1.gh<r2.gh then r2.gh else r1.gh))then 1099511627776 else ak (p.b1.gh+ak (1+if r1.gh<r2.gh then r2.gh else r1.gh))) (if 1099511627776<ak (p.b1.aK+if r1.aK<r2.aK then r2.aK else r1.aK)then 1099511627776 else ak (p.b1.aK+if r1.aK<r2.aK then r2.aK else r1.aK)) (if 1099511627776<ak (p.b1.aI+ak (p.t9[zD p.t11]!.bg+if r1.aI<r2.aI then r2.aI else r1.aI))then 1099511627776 else ak (p.b1.aI+ak (p.t9[zD p.t11]!.bg+if r1.aI<r2.aI then r2.aI else r1.aI))))))else bif J (p.t9[zD p.t11]!.cg=4)then V (V (qW.mk p.t9 p.t10 (ak (p.t11+1)) p.b0 (qa.mk (if 1099511627776<ak (p.b1.gh+ak (1+ak (p.t9[zD p.t11]!.fN*ak (1+r1.gh))))then 1099511627776 else ak (p.b1.gh+ak (1+ak (p.t9[zD p.t11]!.fN*ak (1+r1.gh))))) (if 1099511627776<ak (p.b1.aK+ak (p.t9[zD p.t11]!.fN*r1.aK))then 1099511627776 else ak (p.b1.aK+ak (p.t9[zD p.t11]!.fN*r1.aK))) (if 1099511627776<ak (p.b1.aI+ak (p.t9[zD p.t11]!.fN*ak (p.t9[zD p.t11]!.bg+r1.aI)))then 1099511627776 else ak (p.b1.aI+ak (p.t9[zD p.t11]!.fN*ak (p.t9[zD p.t11]!.bg+r1.aI)))))))else V (V (qW.mk p.t9 p.t10 (ak (p.t11+1)) p.b0 (qa.mk (if 1099511627776<ak (p.b1.gh+1)then 1099511627776 else ak (p.b1.gh+1)) (if 1099511627776<ak (p.b1.aK+0)then 1099511627776 else ak (p.b1.aK+0)) (if 1099511627776<ak (p.b1.aI+p.t9[zD p.t11]!.bg)then 1099511627776 else ak (p.b1.aI+p.t9[zD p.t11]!.bg)))))else I else V (I)
def L6(M213:(aa aB)->af sU):=bJ (Jk M213)
def anZ(M213:(aa aB)->af sU):An:=(noTwo (noTwo (.two (noTwo (QJ.lp (L6 M213) .no)) .no)))
def aCY(M213:(aa aB)->af sU):eX vn (at6 M213) 0 300 213 (anZ M213):=b6 (l:=[(aY f213 0,(QJ.lp (L6 M213) .no))]) func213 (bN aV) aV (aA (aO QJ) aH)
def amJ(M213:(aa aB)->af sU)(a0:aa aB):af sU:=
 match L6 M213 (qW.mk a0 a0.length 0 (qa.mk 0 0 0) (qa.mk 0 0 0))with|I=>I|V r3=>bif J (r3.t11<r3.t10)then if 0<=r3.t11/\r3.t11<zR r3.t9 then match M213 r3.t9[zD r3.t11]!.aQ with|I=>I|V r4=>match M213 r3.t9[zD r3.t11]!.aW with|I=>I|V r5=>bif J (r3.t9[zD r3.t11]!.cg=1)then I else bif J (r3.t9[zD r3.t11]!.cg=3)then I else bif J (r3.t9[zD r3.t11]!.cg=4)then I else I else I else V (r3.b1)
def aGd(M213:(aa aB)->af sU)(a0:aa aB):bU vn (at6 M213) 300 (anZ M213) 213 (auT.c (a0,())) [] 0 d213.rd=amJ M213 a0:=aV
def apQ:Nat->((aa aB)->af sU)
 |0=>(λ_=>I)
 |n+1=>(amJ (apQ n))
def Si(n:Nat):(aa aB)->af sU:=(apQ n)
def Nh:∀n,ajN (Si n)
 |0=>λ_ _ h=>(by cases h)
 |n+1=>by
  have ih:=Nh n;have i213:=ih;exact(dR (ahC i213) (aCY (Si n)) (λ_=>aV) (λ_=>aV) λg=>aGd (Si n) g.1)
def ZW:(aa aB)->af sU:=λa0=>lim (λn=>Si n a0)
def akH:ajN ZW:=λg b h=>by
 obtain⟨n,hn⟩:=dA (show lim (λn=>Si n g.1)=V b from h);exact(Nh n) g b hn
def ayD(F:bu):bu:=atn ZW F
def akt{F:bu}(h:bz vn F):bz vn (ayD F):=U4 akH h
def axY:bu:=(ayD (aBu (aC5 (axc (aqN (amC (aBq di)))))))
structure BR where
 t14:List dD
 (t15 t16:Int)
 b0:aU
 b1:bh
def Ru:Td 0 BR:= .c [] [1,3,14,15,16] (.r 0 2 (ec 1 (qp 0 0) (ec 3 (qp 1 0) (ec 14 (ql 139) (ec 15 aN (ec 16 aN en))))) (sb 0 26 (lg 26) (sb 1 256 (lg 256) sn)) (λz=>⟨z.1.t.1,z.1.t.2.1,z.1.q.1,z.2.1,z.t.1⟩) (λx=>(((),(),x.t14,x.t15,x.t16,()),(x.b0,x.b1,()))))
def DX(p:BR):af (af BR):=
 bif J (p.t16<p.t15)then if 0<=p.t16/\p.t16<zR p.t14 then bif bif(jG p.b1).fst then G else O then match GQ (az.mk p.t14[zD p.t16]!.aG.bE p.t14[zD p.t16]!.aG.fN p.t14[zD p.t16]!.aG.ax) 1 (jG p.b1).snd with|I=>I|V r1=>V (V (BR.mk p.t14 p.t15 (ak (p.t16+1)) p.b0 r1))else V (V (BR.mk p.t14 p.t15 (ak (p.t16+1)) p.b0 (jG p.b1).snd))else I else V (I)
def F3:=bJ (DX)
abbrev awX:=Int
def d136:Td 0 awX:= .c [] [2] (.r 0 0 (ec 2 aN en) sn (λz=>z.1.1) (λx=>((x,()),(()))))
def aBt:∀f∈([]:aa Nat),bA (axY) f:=aH
def acE(a0:aU):af awX:=
 match aeA a0.bM 1 (bh.mk 0 G)with|I=>I|V r2=>match F3 (BR.mk a0.au a0.au.length 0 a0 r2)with|I=>I|V r3=>bif J (r3.t16<r3.t15)then if 0<=r3.t16/\r3.t16<zR r3.t14 then bif bif(jG r3.b1).fst then G else O then match GQ (az.mk r3.t14[zD r3.t16]!.aG.bE r3.t14[zD r3.t16]!.aG.fN r3.t14[zD r3.t16]!.aG.ax) 1 (jG r3.b1).snd with|I=>I|V r4=>I else I else I else bif J (64<(zR r3.b0.ai:Int))then V 4 else bif J (8<(zR r3.b0.au:Int))then V 4 else bif(jG r3.b1).fst then V 4 else match aky r3.b0.ai with|I=>I|V r5=>bif bif J (r5=0)then G else O then V (r5)else match afB r3.b0 with|I=>I|V r6=>bif bif J (r6=0)then G else O then V (r6)else match alI r3.b0 r3.b0.bM O with|I=>I|V r7=>bif bif J (r7=0)then G else O then V (r7)else match ZW r3.b0.bM with|I=>I|V r8=>match bif J (4096<r8.gh)then V O else bif J (8<r8.aK)then V O else V (J (67108864<r8.aI))with|I=>I|V r9=>bif r9 then V 4 else V 0
def amW:=eL vn 136 G (lc (qg 26) ln) d136 (λg=>acE g.1)
def Wf:EO amW:=λh=>kL (F:=axY) (an:=(noTwo (noTwo (noTwo (.two (noTwo (Ru.lp F3 .no)) (noTwo (noTwo (noTwo (noTwo (.two (noTwo (.two (.rb [] 72) .no)) .no)))))))))) (l:=[(aY f136 0,(Ru.lp F3 .no)),(.skip,(.rb [] 72))]) func136 (akt (af9 (ah2 (ajh (Wr (Jv (als aP))))))) (aA (aO Ru) (aA aBt aH)) h
def Il:EP amW:=λh=>kP h
def aaA(l:aa UInt8):(ByteArray.mk (Array.mk l)).toList=l:=by
 simp
def at1(s:ByteArray):(s.toList==(ByteArray.mk (Array.mk [])).toList)=J (s.size=0):=by
 obtain⟨⟨l⟩⟩:=s;rw[aaA,aaA];have hs:(ByteArray.mk (Array.mk l)).size=zR l:=rfl;rw[hs];cases l with
 |nil=>rfl
 |cons a l=>simp
def C4(s:ByteArray):T3 s=V (kr s):=by
 unfold T3;rw[at1];by_cases h0:s.size=0
 ·simp[h0,kr]
 by_cases h1:40<(s.size:Int)
 ·have h1':¬s.size<=40:=aq;simp[h1,h1',kr]
 rw[bY h0,bY h1];obtain⟨i,e1,hc⟩:=qJ (rnd:=IW) (zN s.size) (λi=>⟨s,(s.size:Int),(i:Int)⟩) (λi j=>okc j (cv s j)) (λi hi=>by
  rw[we]at hi;have hw:=jJ hi aq;unfold IW okc;simp only[zi];grind) (by unfold IW;simp)
 have e1':JT ⟨s,(s.size:Int),0⟩=V ⟨s,(s.size:Int),(i:Int)⟩:=e1;rw[e1'];have h2:kr s=(zN s.size).all λi=>okc i (cv s i):=by
  unfold kr;rw[oo,oo];simp
 rw[h2];rcases hc with ⟨rfl,hc⟩|⟨hi,hc⟩
 ·rw[EI hc];simp
 ·rw[Aj hi hc];unfold okc at hc;simp only[zi];grind
def DI(s:ByteArray):Th s=V (kr s):=by
 unfold Th;by_cases h0:s.size<1
 ·have h0':¬1<=s.size:=aq;have h0'':(s.size:Int)<1:=aq;simp[h0'',h0',kr]
 by_cases h1:40<(s.size:Int)
 ·have h1':¬s.size<=40:=aq;have h0'':¬(s.size:Int)<1:=aq;simp[h1,h1',kr]
 rw[bY (show ¬(s.size:Int)<1 by omega),bY h1];obtain⟨i,e1,hc⟩:=qJ (rnd:=Km) (zN s.size) (λi=>⟨s,(i:Int)⟩) (λi j=>okc j (cv s j)) (λi hi=>by
  rw[we]at hi;have hw:=jJ hi aq;unfold Km okc;simp only[zi];grind) (by unfold Km;simp)
 have e1':Lu ⟨s,0⟩=V ⟨s,(i:Int)⟩:=e1;rw[e1'];have h2:kr s=(zN s.size).all λi=>okc i (cv s i):=by
  unfold kr;rw[oo,oo];simp
 rw[h2];rcases hc with ⟨rfl,hc⟩|⟨hi,hc⟩
 ·rw[EI hc];simp
 ·rw[Aj hi hc];unfold okc at hc;simp only[zi];grind
def C9(a b:Int):Mc a b=jj a b:=by
 unfold Mc jj;simp
def DJ(a b:Int):Lf a b=jj a b:=by
 unfold Lf jj;simp
def Wk(l:aa bf)(hl:zR l<=1000000)(v:bf):abf l v=V (l.any λw=>w.fName.toList==v.fName.toList):=by
 obtain⟨i,e1,hc⟩:=qJ (rnd:=Jw) l (λi=>⟨l,v.fName,v.bB,v.ah,v.ag,v.eG,(zR l:Int),(i:Int)⟩) (λ_ w=> !(w.fName.toList==v.fName.toList)) (λi hi=>by
  have hw:=jJ hi hl;unfold Jw abY;grind) (by unfold Jw;simp)
 have e1':J9 ⟨l,v.fName,v.bB,v.ah,v.ag,v.eG,(zR l:Int),0⟩=V ⟨l,v.fName,v.bB,v.ah,v.ag,v.eG,(zR l:Int),(i:Int)⟩:=e1;unfold abf atN;rw[e1'];rcases hc with ⟨rfl,hc⟩|⟨hi,hc⟩
 ·rw[Ab λj hj=>by have:=hc j hj;simpa using this];simp
 ·have hc':(l[i]!.fName.toList==v.fName.toList)=O:=by simpa using hc
  rw[JH hi hc'];unfold abY;simp only[zi,hc'];simp[hi]
def HF(l:aa bf)(hl:zR l<=1000000)(n:Nat)(hn:n<=zR l)(v:bf):
  ∃i:Nat,F4 ⟨l,n,0,v⟩=V ⟨l,n,(i:Int),v⟩/\((i=n/\((l.take n).any λw=>w.fName.toList==v.fName.toList)=G)\/(i<n/\(l[i]!.fName.toList==v.fName.toList)=O/\((l.take n).any λw=>w.fName.toList==v.fName.toList)=O)):=by
 have hlen:zR (l.take n)=n:=by rw[zA];omega
 have hget:∀i,i<n->(l.take n)[i]! =l[i]! :=λi hi=>by
  rw[getElem!_pos _ i aq,getElem!_pos _ i aq,xI]
 obtain⟨i,e1,hc⟩:=qJ (rnd:=K2) (l.take n) (λi=>⟨l,(n:Int),(i:Int),v⟩) (λ_ w=> !(w.fName.toList==v.fName.toList)) (λi hi=>by
  have hw:=jJ hi aq;unfold K2;grind) (by rw[hlen];unfold K2;simp)
 refine⟨i,e1,?_⟩;rw[hlen]at hc;rcases hc with ⟨rfl,hc⟩|⟨hi,hc⟩
 ·exact .inl ⟨rfl,Ab λj hj=>by have:=hc j aq;simpa using this⟩
 ·have hc':((l.take n)[i]!.fName.toList==v.fName.toList)=O:=by simpa using hc
  exact .inr ⟨hi,by rw[<-hget i hi];exact hc',JH aq hc'⟩
def Db(a b:aa az):kH (a++b)=kH a+kH b:=by simp[kH]
def EF(l:aa az)(i:Nat):kH (l.take i)<=kH l:=by
 have:=Db (l.take i) (l.drop i);rw[xg]at this;omega
def Mj(l:aa az):zR l<=kH l:=by
 induction l with
 |nil=>simp
 |cons a l ih=>rw[rD];have:=aa5 a;simp;omega
def akh(a b:aa aB):fM (a++b)=fM a+fM b:=by simp[fM]
def aeX(l:aa aB)(i:Nat):fM (l.take i)<=fM l:=by
 have:=akh (l.take i) (l.drop i);rw[xg]at this;omega
def avK(s:aB):0<nS s:=by rw[pK];omega
def j5(l:aa aB):zR l<=fM l:=by
 induction l with
 |nil=>simp
 |cons a l ih=>rw[nu];have:=avK a;simp;omega
def Ey{l:aa az}{i:Nat}(hi:i<zR l):kH (l.take i)+nT l[i]!<=kH l:=by
 have:=EF l (i+1);rw[bC hi,qj]at this;omega
def Gg{l:aa aB}{i:Nat}(hi:i<zR l):fM (l.take i)+nS l[i]!<=fM l:=by
 have:=aeX l (i+1);rw[bC hi,OS]at this;omega
def Rw(l:aa az)(h:∀k∈l,dT k<=nT k):∀i,i<=zR l->Qg (l.take i)<=kH (l.take i):=by
 intro i;induction i with
 |zero=>intro _;simp[Qg]
 |succ i ih=>
  intro hi;have h2:=h _ (bq (show i<zR l by omega));rw[bC aq,DQ,qj];omega
def ap3(t:az):dT t<=nT t:=by
 have key:∀(n:Nat) (t:az),zf t<n->dT t<=nT t:=by
  intro n;induction n with
  |zero=>intro t h;omega
  |succ n ih=>
   intro t h;have:=Rw t.ax (λk hk=>ih k (by have:=az.eV hk;omega)) t.ax.length (zm _);rw[zG]at this;rw[Us,vS];omega
 exact key _ t (zC _)
def aej(l:aa az)(i:Nat):Qg (l.take i)<=kH l:=by
 have h1:=EF l i;by_cases h:i<=zR l
 ·have:=Rw l (λk _=>ap3 k) i h;omega
 ·have:=Rw l (λk _=>ap3 k) l.length (zm _);rw[zG]at this;rw[List.take_of_length_le aq];omega
def ab2(l:aa aB):j0 l<=fM l:=by
 have key:∀(n:Nat) (l:aa aB),zf l<n->j0 l<=fM l:=by
  intro n;induction n with
  |zero=>intro t h;omega
  |succ n ih=>
   intro l h;cases l with
   |nil=>rw[j0];simp
   |cons s l=>
    have q1:=ih s.aQ (by have:=bw (l:=s::l) (zk ..);omega);have q2:=ih s.aW (by have:=bw (l:=s::l) (zk ..);omega);have q3:=ih l (by have:=dY s l;omega);rw[j0,nu,pK];omega
 exact key _ l (zC _)
def am1(M:az->af ry)(t:az)(hM:∀k∈t.ax,M k=V (nT k:Int))(h:nT t<=1000):ajB M t=V (nT t:Int):=by
 have hN:=vS t;have hL:=Mj t.ax;obtain⟨v,e1,hv⟩:=cH (rnd:=Lj M) t.ax.length (λi (b:Int)=>⟨b,(i:Int),t⟩) (λi b=>b=1+kH (t.ax.take i)) (λi b hi hb=>by
   have hs:=Ey hi;refine⟨b+nT t.ax[i]!,?_,?_⟩
   ·have hk:=hM _ (bq hi);have hw:=jJ hi aq;have hw2:ak (b+nT t.ax[i]!)=b+nT t.ax[i]! :=aM;unfold Lj;simp only[az.eta];grind
   ·rw[bC hi,qj];omega) (λb _=>by unfold Lj;simp) (b:=1) (by simp[kH])
 have e1':JR M ⟨1,0,t⟩=V ⟨v,(zR t.ax:Int),t⟩:=e1;unfold ajB;rw[az.eta,e1',hN];simp[hv]
def Wg:∀(n:Nat) (t:az),zf t<n->nT t<=1000->Ty n t=V (nT t:Int)
 |0,_,h,_=>aq
 |n+1,t,h,h2=>am1 (Ty n) t (λk hk=>Wg n k (by have:=az.eV hk;omega) (by have:=UC hk;have:=vS t;omega)) h2
def KM(t:az)(h:nT t<=1000):TA t=V (nT t:Int):=eM (zf t+1) λn hn=>Wg n t aq h
def alV(M:az->af qE)(t:az)(hM:∀k∈t.ax,M k=V (dT k))(h:nT t<=1000):amG M t=V (dT t):=by
 have hN:=vS t;have hL:=Mj t.ax;obtain⟨v,e1,hv⟩:=cH (rnd:=IP M) t.ax.length (λi (b:Int)=>⟨b,(i:Int),t⟩) (λi b=>b=Qg (t.ax.take i)) (λi b hi hb=>by
   refine⟨max b (dT t.ax[i]!),?_,?_⟩
   ·have hk:=hM _ (bq hi);have hw:=jJ hi aq;unfold IP;simp only[zQ,az.eta];grind
   ·rw[bC hi,DQ,hb]) (λb _=>by unfold IP;simp) (b:=0) (by simp[Qg])
 have e1':L4 M ⟨0,0,t⟩=V ⟨v,(zR t.ax:Int),t⟩:=e1;unfold amG;rw[az.eta,e1',Us];have hd:=aej t.ax t.ax.length;have hp:=KS t.ax;rw[zG]at hv hd;subst hv;have hw2:ak (Qg t.ax+1)=Qg t.ax+1:=aM;dsimp only;rw[fK];show V (ak (Qg t.ax+1))=_
 congr 1
 omega
def UR:∀(n:Nat) (t:az),zf t<n->nT t<=1000->TK n t=V (dT t)
 |0,_,h,_=>aq
 |n+1,t,h,h2=>alV (TK n) t (λk hk=>UR n k (by have:=az.eV hk;omega) (by have:=UC hk;have:=vS t;omega)) h2
def J5(t:az)(h:nT t<=1000):Oe t=V (dT t):=eM (zf t+1) λn hn=>UR n t aq h
def Dm{s:aB}{l:aa aB}(h:s∈l):nS s<=fM l:=by
 induction l with
 |nil=>cases h
 |cons a l ih=>
  rw[nu];rcases zy.1 h with rfl|h
  ·omega
  ·have:=ih h;omega
def gO:aa aB->Int
 |[]=>0
 |s::l=>1+nT s.aG+gO s.aQ+gO s.aW+gO l
termination_by l=>zf l
decreasing_by
 ·exact(bw (zk ..)).1
 ·exact(bw (zk ..)).2
 ·exact dY _ _
def C2(l:aa aB):0<=gO l/\gO l<=fM l:=by
 have key:∀(n:Nat) (l:aa aB),zf l<n->0<=gO l/\gO l<=fM l:=by
  intro n;induction n with
  |zero=>intro t h;omega
  |succ n ih=>
   intro l h;cases l with
   |nil=>rw[gO];simp
   |cons s l=>
    have q1:=ih s.aQ (by have:=bw (l:=s::l) (zk ..);omega);have q2:=ih s.aW (by have:=bw (l:=s::l) (zk ..);omega);have q3:=ih l (by have:=dY s l;omega);rw[gO,nu,pK];omega
 exact key _ l (zC _)
def YC(l:aa aB)(s:aB):gO (l++[s])=gO l+(1+nT s.aG+gO s.aQ+gO s.aW):=by
 induction l with
 |nil=>rw[yz,show gO []=0 by rw[gO],gO,show gO []=0 by rw[gO]];omega
 |cons a l ih=>rw[xz,gO,gO,ih];omega
def agZ(M:aa aB->af qY)(l:aa aB)(hM:∀s∈l,M s.aQ=V (gO s.aQ)/\M s.aW=V (gO s.aW))(h:fM l<=1000):akl M l=V (gO l):=by
 have hL:=j5 l;obtain⟨v,e1,hv⟩:=cH (rnd:=JQ M) l.length (λi (b:Int)=>⟨l,b,(i:Int)⟩) (λi b=>b=gO (l.take i)) (λi b hi hb=>by
   have hs:=Gg hi;have hE:=pK l[i]!;obtain⟨k1,k4⟩:=hM _ (bq hi);have k2:=C2 l[i]!.aQ;have k3:=C2 l[i]!.aW;have k5:=C2 (l.take i);have hk:=KM l[i]!.aG aq;have hw:=jJ hi aq;refine⟨b+(1+nT l[i]!.aG+gO l[i]!.aQ+gO l[i]!.aW),?_,?_⟩
   ·have w1:ak (b+1)=b+1:=aM;have w2:ak (b+1+nT l[i]!.aG)=b+1+nT l[i]!.aG:=aM;have w3:ak (b+1+nT l[i]!.aG+gO l[i]!.aQ)=b+1+nT l[i]!.aG+gO l[i]!.aQ:=aM;have w4:ak (b+1+nT l[i]!.aG+gO l[i]!.aQ+gO l[i]!.aW)=b+(1+nT l[i]!.aG+gO l[i]!.aQ+gO l[i]!.aW):=by rw[aM];omega
    unfold JQ;simp only[az.eta];grind
   ·rw[bC hi,YC];omega) (λb _=>by unfold JQ;simp) (b:=0) (by simp[gO])
 have e1':KY M ⟨l,0,0⟩=V ⟨l,v,(zR l:Int)⟩:=e1;unfold akl;rw[e1'];simp[hv]
def gA{s:aB}{l:aa aB}(h:s∈l):fM s.aQ<=fM l/\fM s.aW<=fM l:=by
 have:=Dm h;have:=pK s;omega
def La:∀(n:Nat) (l:aa aB),zf l<n->fM l<=1000->Tj n l=V (gO l)
 |0,_,h,_=>aq
 |n+1,l,h,h2=>agZ (Tj n) l (λs hs=>⟨La n _ (by have:=bw hs;omega) (by have:=gA hs;omega),La n _ (by have:=bw hs;omega) (by have:=gA hs;omega)⟩) h2
def agF(l:aa aB)(h:fM l<=1000):ajr l=V (gO l):=eM (zf l+1) λn hn=>La n l aq h
def ak8(M:aa aB->af qQ)(l:aa aB)(hM:∀s∈l,M s.aQ=V (j0 s.aQ)/\M s.aW=V (j0 s.aW))(h:fM l<=1000):afZ M l=V (j0 l):=by
 have hL:=j5 l;obtain⟨v,e1,hv⟩:=cH (rnd:=I5 M) l.length (λi (b:Int)=>⟨l,b,(i:Int)⟩) (λi b=>b=j0 (l.take i)) (λi b hi hb=>by
   obtain⟨k1,k4⟩:=hM _ (bq hi);have k2:=ab2 l[i]!.aQ;have k3:=ab2 l[i]!.aW;have k5:=gA (bq hi);have k6:=vM l[i]!.aQ;have k7:=vM l[i]!.aW;have hw:=jJ hi aq;refine⟨max b (max (j0 l[i]!.aQ+1) (j0 l[i]!.aW+1)),?_,?_⟩
   ·have w1:ak (j0 l[i]!.aQ+1)=j0 l[i]!.aQ+1:=aM;have w2:ak (j0 l[i]!.aW+1)=j0 l[i]!.aW+1:=aM;unfold I5;simp only[zi];grind
   ·rw[bC hi,adL];omega) (λb _=>by unfold I5;simp) (b:=0) (by simp[j0])
 have e1':L7 M ⟨l,0,0⟩=V ⟨l,v,(zR l:Int)⟩:=e1;unfold afZ;rw[e1'];simp[hv]
def I8:∀(n:Nat) (l:aa aB),zf l<n->fM l<=1000->Rb n l=V (j0 l)
 |0,_,h,_=>aq
 |n+1,l,h,h2=>ak8 (Rb n) l (λs hs=>⟨I8 n _ (by have:=bw hs;omega) (by have:=gA hs;omega),I8 n _ (by have:=bw hs;omega) (by have:=gA hs;omega)⟩) h2
def akC(l:aa aB)(h:fM l<=1000):afy l=V (j0 l):=eM (zf l+1) λn hn=>I8 n l aq h
def PI(s:aB):Bool:=J (12<dT s.aG)||fI s.aQ||fI s.aW
def Y7(l:aa aB):fI l=l.any PI:=by
 induction l with
 |nil=>rw[fI];rfl
 |cons s l ih=>rw[fI,ih,List.any_cons];rfl
def ahb(M:aa aB->af pT)(l:aa aB)(hM:∀s∈l,M s.aQ=V (fI s.aQ)/\M s.aW=V (fI s.aW))(h:fM l<=1000):ah3 M l=V (fI l):=by
 have hL:=j5 l;have hT:∀i,i<zR l->Oe l[i]!.aG=V (dT l[i]!.aG):=λi hi=>J5 _ (by have:=Dm (bq hi);have:=pK l[i]!;omega);obtain⟨i,e1,hc⟩:=qJ (rnd:=KZ M) l (λi=>⟨l,(i:Int)⟩) (λ_ s=> !PI s) (λi hi=>by
   obtain⟨k1,k4⟩:=hM _ (bq hi);have hk:=hT i hi;have hw:=jJ hi aq;unfold KZ PI;simp only[zi,az.eta,k1,k4];cases fI l[i]!.aQ<;>cases fI l[i]!.aW<;>grind) (by unfold KZ;simp)
 have e1':IT M ⟨l,0⟩=V ⟨l,(i:Int)⟩:=e1;unfold ah3;rw[e1',Y7];rcases hc with ⟨rfl,hc⟩|⟨hi,hc⟩
 ·rw[Ab λj hj=>by have:=hc j hj;simpa using this];simp
 ·have hc':PI l[i]! =O:=by simpa using hc
  obtain⟨k1,k4⟩:=hM _ (bq hi);have hk:=hT i hi;unfold PI at hc';simp only[zi,az.eta,k1,k4];revert hc';cases fI l[i]!.aQ<;>cases fI l[i]!.aW<;>grind
def Mh:∀(n:Nat) (l:aa aB),zf l<n->fM l<=1000->Qw n l=V (fI l)
 |0,_,h,_=>aq
 |n+1,l,h,h2=>ahb (Qw n) l (λs hs=>⟨Mh n _ (by have:=bw hs;omega) (by have:=gA hs;omega),Mh n _ (by have:=bw hs;omega) (by have:=gA hs;omega)⟩) h2
def ahy(l:aa aB)(h:fM l<=1000):am9 l=V (fI l):=eM (zf l+1) λn hn=>Mh n l aq h
def fP(b:bh):Bool:=b.fQ||J (1024<b.bH)
def uR(b:bh):jG b=(fP b,b):=by
 rfl
def dG(d:Int)(b:bh):bh:=⟨b.bH+1,b.fQ||J (12<d)⟩
def AD(t:az)(d:Int)(b:bh):bh:=if fP (dG d b)=O then dG d b else t.ax.attach.foldl (λb k=>AD k.1 (d+1) b) (dG d b)
termination_by zf t
decreasing_by exact az.eV k.2
def G1(l:aa az)(d:Int)(b:bh):bh:=l.foldl (λb k=>AD k d b) b
def ab9(t:az)(d:Int)(b:bh):AD t d b=if fP (dG d b)=O then dG d b else G1 t.ax (d+1) (dG d b):=by
 rw[AD,G1];simp
def Iz(l:aa az)(k:az)(d:Int)(b:bh):G1 (l++[k]) d b=AD k d (G1 l d b):=by simp[G1]
def MsP(d0:Int)(n:Int)(b r:bh):Prop:=r.fQ=(b.fQ||J (12<d0))/\b.bH<=r.bH/\r.bH<=b.bH+n
def KE(t:az)(d:Int)(b:bh)(h0:0<=d)(h1:0<=b.bH)(h2:b.bH+nT t<=1000):MsP (d-1+dT t) (nT t) b (AD t d b):=by
 have key:∀(n:Nat) (t:az) (d:Int) (b:bh),zf t<n->0<=d->0<=b.bH->b.bH+nT t<=1000->MsP (d-1+dT t) (nT t) b (AD t d b):=by
  intro n;induction n with
  |zero=>intro t d b h;omega
  |succ n ih=>
   intro t d b h h0 h1 h2;have hN:=vS t;have hD:=Us t;have hd0:=KS t.ax;rw[ab9];by_cases ho:fP (dG d b)=O
   ·rw[bI ho];unfold fP dG at ho;unfold MsP dG;grind
   ·rw[bO ho];have hi:∀i,i<=zR t.ax->MsP (d+Qg (t.ax.take i)) (kH (t.ax.take i)) (dG d b) (G1 (t.ax.take i) (d+1) (dG d b)):=by
     intro i;induction i with
     |zero=>
      simp only[G1,MsP,Qg,dG];grind
     |succ i ihi=>
      intro hi;have q:=ihi aq;have hs:=Ey (show i<zR t.ax by omega);have hm:t.ax[i]!∈t.ax:=bq aq;have hp:(dG d b).bH=b.bH+1:=rfl;have q2:=ih t.ax[i]! (d+1) (G1 (t.ax.take i) (d+1) (dG d b)) (by have:=az.eV hm;omega) aq (by have:=q.2.1;omega) (by have:=q.2.2;omega);rw[bC aq,Iz,DQ,qj];obtain⟨a1,a2,a3⟩:=q;obtain⟨c1,c2,c3⟩:=q2;refine⟨?_,aq,aq⟩;rw[c1,a1];rw[Bool.or_assoc]
      congr 1
      rw[<-Bool.decide_or];apply decide_eq_decide.2;omega
    have q:=hi t.ax.length (zm _);unfold MsP at q ⊢;have hp:(dG d b).bH=b.bH+1:=rfl;have hp2:(dG d b).fQ=(b.fQ||J (12<d)):=rfl;grind
 exact key _ t d b (zC _) h0 h1 h2
def alN(M:az->Int->bh->af sR)(t:az)(hM:∀k∈t.ax,∀(d:Int) (b:bh),0<=d->d<=13->0<=b.bH->b.bH+nT k<=1000->M k d b=V (AD k d b))(d:Int)(b:bh)(h0:0<=d)(hd:d<=13)(h1:0<=b.bH)(h2:b.bH+nT t<=1000):agC M t d b=V (AD t d b):=by
 have hN:=vS t;have hL:=Mj t.ax;have hw0:ak (b.bH+1)=b.bH+1:=aM;have hw1:ak (d+1)=d+1:=aM;have hinc:∀x,(⟨b.bH+1,x⟩:bh)=dG d b↔x=(b.fQ||J (12<d)):=λx=>by unfold dG;simp
 have key:fP (dG d b)=G->d<=12/\FA M ⟨d,t.ax,(zR t.ax:Int),0,dG d b⟩=V ⟨d,t.ax,(zR t.ax:Int),(zR t.ax:Int),G1 t.ax (d+1) (dG d b)⟩:=λho=>by
  have hd2:d<=12:=by unfold fP dG at ho;grind
  refine⟨hd2,?_⟩;obtain⟨v,e1,hv,_⟩:=cH (rnd:=Lt M) t.ax.length (λi (x:bh)=>⟨d,t.ax,(zR t.ax:Int),(i:Int),x⟩) (λi x=>x=G1 (t.ax.take i) (d+1) (dG d b)/\b.bH+1<=x.bH/\x.bH<=b.bH+1+kH (t.ax.take i)) (λi x hi hx=>by
    have hs:=Ey hi;have hk:=hM _ (bq hi) (d+1) x aq aq aq aq;have hp:=KE t.ax[i]! (d+1) x aq aq aq;have hw:=jJ hi aq;refine⟨AD t.ax[i]! (d+1) x,?_,?_⟩
    ·unfold Lt;simp only[az.eta];grind
    ·unfold MsP at hp;rw[bC hi,Iz,<-hx.1,qj];exact⟨rfl,aq,aq⟩) (λx _=>by unfold Lt;simp) (b:=dG d b) ⟨rfl,zw _,by show b.bH+1<=_;simp[kH]⟩
  rw[zG]at hv;rw[<-hv];exact e1
 rw[ab9];unfold agC;rw[hw0];have hm:∀x,x=(b.fQ||J (12<d))->jG ⟨b.bH+1,x⟩=(fP (dG d b),dG d b):=λx hx=>by rw[uR,(hinc x).2 hx]
 cases hb:b.fQ with
 |true=>
  rw[hm O (by rw[hb];rfl)];have ho:fP (dG d b)=O:=by unfold fP dG;simp[hb]
  simp[ho]
 |false=>
  rw[hm (J (12<d)) (by rw[hb];rfl)];cases ho:fP (dG d b)with
  |true=>simp
  |false=>
   obtain⟨_,e⟩:=key ho;rw[e];simp
def WE:∀(n:Nat) (t:az) (d:Int) (b:bh),zf t<n->0<=d->d<=13->0<=b.bH->b.bH+nT t<=1000->T6 n t d b=V (AD t d b)
 |0,_,_,_,h,_,_,_,_=>aq
 |n+1,t,d,b,h,h0,hd,h1,h2=>alN (T6 n) t (λk hk d b a1 a2 a3 a4=>WE n k d b (by have:=az.eV hk;omega) a1 a2 a3 a4) d b h0 hd h1 h2
def UQ(t:az)(d:Int)(b:bh)(h0:0<=d)(hd:d<=13)(h1:0<=b.bH)(h2:b.bH+nT t<=1000):GQ t d b=V (AD t d b):=eM (zf t+1) λn hn=>WE n t d b aq h0 hd h1 h2
def om(d:Int):aa aB->bh->bh
 |[],b=>b
 |s::l,b=>if fP (dG d b)=O then dG d b else om d l (om (d+1) s.aW (om (d+1) s.aQ (AD s.aG 1 (dG d b))))
termination_by l=>zf l
decreasing_by
 ·exact(bw (zk ..)).1
 ·exact(bw (zk ..)).2
 ·exact dY _ _
def QN(d:Int)(l:aa aB)(b:bh)(h0:0<=d)(hd:d<=13)(h1:0<=b.bH)(h2:b.bH+fM l<=1000):(om d l b).fQ=(b.fQ||(J (12<d-1+j0 l)||fI l))/\b.bH<=(om d l b).bH/\(om d l b).bH<=b.bH+fM l:=by
 have key:∀(n:Nat) (d:Int) (l:aa aB) (b:bh),zf l<n->0<=d->d<=13->0<=b.bH->b.bH+fM l<=1000->(om d l b).fQ=(b.fQ||(J (12<d-1+j0 l)||fI l))/\b.bH<=(om d l b).bH/\(om d l b).bH<=b.bH+fM l:=by
  intro n;induction n with
  |zero=>intro d l b h;omega
  |succ n ih=>
   intro d l b h h0 hd h1 h2;cases l with
   |nil=>
    rw[om,j0,fI];refine⟨?_,aq,by simp[fM]⟩;rw[fK];simp
   |cons s l=>
    have hz:=bw (l:=s::l) (zk ..);have hz2:=dY s l;have hN:=pK s;have hC:=nu s l;have p1:=vM s.aQ;have p2:=vM s.aW;have p3:=vM l;have p4:=aqe s.aG;have hp:(dG d b).bH=b.bH+1:=rfl;have hp2:(dG d b).fQ=(b.fQ||J (12<d)):=rfl;rw[om,j0,fI];by_cases ho:fP (dG d b)=O
    ·rw[bI ho];unfold fP dG at ho;unfold dG;dsimp only at ho ⊢;refine⟨?_,aq,aq⟩;grind
    ·rw[bO ho];unfold fP at ho;rw[hp,hp2]at ho;have hb:b.fQ=G:=by grind
     have hd2:d<=12:=by grind
     obtain⟨a1,a2,a3⟩:=KE s.aG 1 (dG d b) aq aq aq;obtain⟨c1,c2,c3⟩:=ih (d+1) s.aQ (AD s.aG 1 (dG d b)) aq aq aq aq aq;obtain⟨g1,g2,g3⟩:=ih (d+1) s.aW _ aq aq aq (xV aq c2) aq;obtain⟨k1,k2,k3⟩:=ih d l _ aq h0 hd (xV aq g2) aq;refine⟨?_,aq,aq⟩;rw[k1,g1,c1,a1,hp2,hb];rw[bY (show ¬12<d by omega)];have e1:J (12<1-1+dT s.aG)=J (12<dT s.aG):=by congr 1;rw[show (1:Int)-1+dT s.aG=dT s.aG by omega]
     rw[e1];have e2:J (12<d-1+max (max (j0 s.aQ+1) (j0 s.aW+1)) (j0 l))=(J (12<d+1-1+j0 s.aQ)||(J (12<d+1-1+j0 s.aW)||J (12<d-1+j0 l))):=by
      rw[<-Bool.decide_or,<-Bool.decide_or];apply decide_eq_decide.2;omega
     rw[e2];generalize J (12<dT s.aG)=x1;generalize J (12<d+1-1+j0 s.aQ)=x2;generalize J (12<d+1-1+j0 s.aW)=x3;generalize J (12<d-1+j0 l)=x4;generalize fI s.aQ=x5;generalize fI s.aW=x6;generalize fI l=x7;revert x1 x2 x3 x4 x5 x6 x7;decide
 exact key _ d l b (zC _) h0 hd h1 h2
def Cz{α:Type}[Inhabited α]{c:Nat->α->Int}:∀(l:aa α) (i:Nat),cz c l i=0->∀j,j<zR l->c (i+j) l[j]! =0
 |[],i,_,j,hj=>by simp at hj
 |x::xs,i,h,j,hj=>by
  unfold cz at h;split at h
  ·rename_i hx;cases j with
   |zero=>exact hx
   |succ j=>
    have:=Cz xs (i+1) h j (by simpa using hj);rw[show i+1+j=i+(j+1)by omega]at this
    assumption
  ·omega
def de(vars:aa bf):Prop:=∀v∈vars,-1048576<=v.ah/\v.ah<=v.ag/\v.ag<=1048576
def XP{vars:aa bf}{i:Nat}{v:bf}(h:ni vars i v=0): -1048576<=v.ah/\v.ah<=v.ag/\v.ag<=1048576:=by
 unfold ni jj at h;grind
def nw{vars:aa bf}(h:cz (ni vars) vars 0=0):de vars:=λv hv=>by
 obtain⟨i,hi,e⟩:=yU hv;have:=Cz _ _ h i hi;rw[getElem!_pos vars i hi,e]at this;exact XP this
def tZ(kind:Int):∀(l:aa bf) (i:Nat) (n:Int),NA (λ_ (n:Int) (v:bf)=>if 4096<n*(v.ag-v.ah+1)then(.inr ():Int ⊕ Unit)else .inl (n*(v.ag-v.ah+1))) (λ_=>(I:af Int)) V (l.filter λv=>J (v.bB=kind)) i n=uE kind l n
 |[],i,n=>rfl
 |v::vs,i,n=>by
  unfold uE;by_cases hv:v.bB=kind
  ·rw[wL (by simpa using hv),bI hv];by_cases h:4096<n*(v.ag-v.ah+1)
   ·rw[bI h,o5 (r:=()) (by rw[bI h])]
   ·rw[bO h,sk (by rw[bO h])];exact tZ kind vs (i+1) _
  ·rw[wM (by simpa using hv),bO hv];exact tZ kind vs i n
def DV(kind:Int):∀(l:aa bf) (i:Nat) (n:Int),NA (λ_ (n:Int) (v:bf)=>if v.bB=kind then(if 4096<n*(v.ag-v.ah+1)then(.inr ():Int ⊕ Unit)else .inl (n*(v.ag-v.ah+1)))else .inl n) (λ_=>(I:af Int)) V l i n=uE kind l n
 |[],i,n=>rfl
 |v::vs,i,n=>by
  unfold uE;by_cases hv:v.bB=kind
  ·rw[bI hv];by_cases h:4096<n*(v.ag-v.ah+1)
   ·rw[bI h,o5 (r:=()) (by rw[bI hv,bI h])]
   ·rw[bO h,sk (b':=n*(v.ag-v.ah+1)) (by rw[bI hv,bO h])];exact DV kind vs (i+1) _
  ·rw[bO hv,sk (b':=n) (by rw[bO hv])];exact DV kind vs (i+1) n
def Dg{v:bf}(h: -1048576<=v.ah/\v.ah<=v.ag/\v.ag<=1048576){n:Int}(h1:1<=n)(h2:n<=4096):
  1<=n*(v.ag-v.ah+1)/\ak (v.ag-v.ah)=v.ag-v.ah/\ak (v.ag-v.ah+1)=v.ag-v.ah+1/\ak (n*(v.ag-v.ah+1))=n*(v.ag-v.ah+1):=by
 have e1:0<=(n-1)*(v.ag-v.ah+1):=zI aq aq;have e2:n*(v.ag-v.ah+1)<=4096*(v.ag-v.ah+1):=zM h2 aq;have e3:(n-1)*(v.ag-v.ah+1)=n*(v.ag-v.ah+1)-(v.ag-v.ah+1):=by rw[yB,yd]
 exact⟨aq,aM,aM,aM⟩
def Zp(vars:aa bf)(hv:de vars)(hl:zR vars<=1000000)(kind:Int):tG ⟨kind,[],vars,(zR vars:Int),0⟩=V ⟨kind,vars.filter (λv=>J (v.bB=kind)),vars,(zR vars:Int),(zR vars:Int)⟩:=by
 obtain⟨v,e1,hV⟩:=cH (rnd:=EA) vars.length (λi (b:aa bf)=>⟨kind,b,vars,(zR vars:Int),(i:Int)⟩) (λi b=>b=(vars.take i).filter λv=>J (v.bB=kind)) (λi b hi hb=>by
  have hw:=jJ hi hl;have hv:=hv _ (bq hi);have hb2:zR b<=i:=by rw[hb];exact zH (yt _ _) (by rw[zA];omega)
  rw[bC hi,xk,<-hb];by_cases hk:vars[i]!.bB=kind
  ·refine⟨b++[vars[i]!],?_,?_⟩
   ·have hl2:zR (b++[vars[i]!])<=1073741824:=by simp;omega
    unfold EA;grind
   ·revert hk;generalize vars[i]! =x;intro hk;simp[hk]
  ·refine⟨b,?_,?_⟩
   ·unfold EA;grind
   ·revert hk;generalize vars[i]! =x;intro hk;simp[hk]) (λb _=>by unfold EA;simp) (b:=[]) rfl
 rw[zG]at hV;rw[<-hV];exact e1
def YW(F:aa bf)(hv:de F)(hl:zR F<=1000000):
  ∃(i:Nat) (n:Int),tP ⟨F,1,F,(zR F:Int),0⟩=V ⟨F,n,F,(zR F:Int),(i:Int)⟩/\((i=zR F/\NA (λ_ (n:Int) (v:bf)=>if 4096<n*(v.ag-v.ah+1)then(.inr ():Int ⊕ Unit)else .inl (n*(v.ag-v.ah+1))) (λ_=>(I:af Int)) V F 0 1=V n)\/
   (i<zR F/\4096<ak (n*GN F[i]!)/\NA (λ_ (n:Int) (v:bf)=>if 4096<n*(v.ag-v.ah+1)then(.inr ():Int ⊕ Unit)else .inl (n*(v.ag-v.ah+1))) (λ_=>(I:af Int)) V F 0 1=I)):=by
 have hm:∀(i:Nat) (n:Int),i<zR F->1<=n->n<=4096->ak (n*GN F[i]!)=n*(F[i]!.ag-F[i]!.ah+1):=λi n hi h1 h2=>by
  obtain⟨a,b,c,d⟩:=Dg (hv _ (bq hi)) h1 h2;unfold GN;rw[b,c,d]
 obtain⟨i,n,e1,hI,hc⟩:=Uq (rnd:=KT) F (λi (n:Int)=>⟨F,n,F,(zR F:Int),(i:Int)⟩) (λ_ (n:Int) (v:bf)=>if 4096<n*(v.ag-v.ah+1)then(.inr ():Int ⊕ Unit)else .inl (n*(v.ag-v.ah+1))) (λ_=>(I:af Int)) V (λi n=>1<=n/\n<=4096) (λi n hi hI=>by
  have hw:=jJ hi hl;have h1:=hm i n hi hI.1 hI.2;have h2:=(Dg (hv _ (bq hi)) hI.1 hI.2).1;unfold KT;simp only[zi];grind) (λb _=>by unfold KT;simp) (b:=1) ⟨aq,aq⟩
 refine⟨i,n,e1,?_⟩;rcases hc with ⟨h1,h2⟩|⟨h1,r,h2,h3⟩
 ·exact .inl ⟨h1,h2⟩
 ·refine .inr ⟨h1,?_,h3⟩;rw[hm i n h1 hI.1 hI.2];by_cases h:4096<n*(F[i]!.ag-F[i]!.ah+1)
  ·exact h
  ·rw[bO h]at h2;cases h2
def JV(vars:aa bf)(hv:de vars)(hl:zR vars<=1000000)(kind:Int)(hk:kind=1\/kind=2\/kind=3):ael vars kind=V (match uE kind vars 1 with|V n=>(n,0)|I=>(0,4)):=by
 have e0:=Zp vars hv hl kind;obtain⟨i,n,e1,hc⟩:=YW (vars.filter λv=>J (v.bB=kind)) (λv h=>hv v (z7.1 h).1) (zH (yt _ _) hl);rw[tZ]at hc;unfold ael ard;rcases hk with rfl|rfl|rfl
 all_goals
  simp only[e0,e1];rcases hc with ⟨rfl,hc⟩|⟨hi,h2,hc⟩
  ·simp[hc]
  ·simp only[zi,h2,hc];simp[hi]
def KU(vars:aa bf)(hv:de vars)(hl:zR vars<=1000000)(kind:Int):Yo vars kind=V (match uE kind vars 1 with|V n=>n|I=>4097):=by
 have hm:∀(i:Nat) (n:Int),i<zR vars->1<=n->n<=4096->ak (n*ak (ak (vars[i]!.ag-vars[i]!.ah)+1))=n*(vars[i]!.ag-vars[i]!.ah+1):=λi n hi h1 h2=>by
  obtain⟨a,b,c,d⟩:=Dg (hv _ (bq hi)) h1 h2;rw[b,c,d]
 obtain⟨i,n,e1,hI,hc⟩:=Uq (rnd:=LC) vars (λi (n:Int)=>⟨vars,kind,n,(i:Int)⟩) (λ_ (n:Int) (v:bf)=>if v.bB=kind then(if 4096<n*(v.ag-v.ah+1)then(.inr ():Int ⊕ Unit)else .inl (n*(v.ag-v.ah+1)))else .inl n) (λ_=>(I:af Int)) V (λi n=>1<=n/\n<=4096) (λi n hi hI=>by
  have hw:=jJ hi hl;have h1:=hm i n hi hI.1 hI.2;have h2:=(Dg (hv _ (bq hi)) hI.1 hI.2).1;unfold LC;simp only[zi];grind) (λb _=>by unfold LC;simp) (b:=1) ⟨aq,aq⟩
 rw[DV]at hc;have e1':Ln ⟨vars,kind,1,0⟩=V ⟨vars,kind,n,(i:Int)⟩:=e1;unfold Yo;rw[e1'];rcases hc with ⟨rfl,hc⟩|⟨hi,r,h2,hc⟩
 ·simp[hc]
 ·have h1:=hm i n hi hI.1 hI.2;grind
def Et(kind:Int):∀(l:aa bf) (n m:Int),n<=4096->uE kind l n=V m->m<=4096
 |[],n,m,h,e=>by unfold uE at e;cases e;exact h
 |v::vs,n,m,h,e=>by
  unfold uE at e;split at e
  ·split at e
   ·cases e
   ·exact Et kind vs _ m aq e
  ·exact Et kind vs n m h e
def abp(vars:aa bf)(hl:zR vars<=1000000)(i:Nat)(hi:i<zR vars):(ni vars i vars[i]! =0->BQ ⟨vars,vars,(zR vars:Int),(i:Int)⟩=V (V ⟨vars,vars,(zR vars:Int),((i+1:Nat):Int)⟩))/\(ni vars i vars[i]!≠0->BQ ⟨vars,vars,(zR vars:Int),(i:Int)⟩=V I):=by
 have hw:=jJ hi hl;have h1:=C4 vars[i]!.fName;have h2:=Wk (vars.take i) (by rw[zA];omega) vars[i]!;unfold BQ ni;simp only[zi,C9,h1,h2];generalize kr vars[i]!.fName=B;generalize ((vars.take i).any λw=>w.fName.toList==vars[i]!.fName.toList)=A;generalize jj vars[i]!.ah vars[i]!.ag=C;cases A<;>cases B<;>cases C<;>simp only[cI]<;>grind
def akR(vars:aa bf)(hl:zR vars<=1000000):aky vars=V (jK vars):=by
 obtain⟨i,e1,hc⟩:=s9 (rnd:=BQ) vars (λi=>⟨vars,vars,(zR vars:Int),(i:Int)⟩) (ni vars) (λi hi=>abp vars hl i hi) (by unfold BQ;simp);have e1':K6 ⟨vars,vars,(zR vars:Int),0⟩=V ⟨vars,vars,(zR vars:Int),(i:Int)⟩:=e1;unfold aky jK;rw[e1'];dsimp only;rcases hc with ⟨rfl,hc⟩|⟨hi,h0,hc⟩
 ·have hv:=nw hc;rw[fK,cw,bO (by rw[hc];simp)];have hr:∀k:Nat,k<3->ak ((k:Int)+1)=((k+1:Nat):Int):=λk hk=>jJ hk (by decide);have k1:=JV vars hv hl 1 (.inl rfl);have k2:=JV vars hv hl 2 (.inr (.inl rfl));have k3:=JV vars hv hl 3 (.inr (.inr rfl));have r1:rL ⟨vars,[1,2,3],3,0⟩=match uE 1 vars 1 with|V _=>V (V ⟨vars,[1,2,3],3,1⟩)|I=>V I:=by
   unfold rL;simp[k1];cases uE 1 vars 1 with
   |none=>simp
   |some n=>simp;exact hr 0 (by decide)
  have r2:rL ⟨vars,[1,2,3],3,1⟩=match uE 2 vars 1 with|V _=>V (V ⟨vars,[1,2,3],3,2⟩)|I=>V I:=by
   unfold rL;simp[k2];cases uE 2 vars 1 with
   |none=>simp
   |some n=>simp;exact hr 1 (by decide)
  have r3:rL ⟨vars,[1,2,3],3,2⟩=match uE 3 vars 1 with|V n=>if 256<n then V I else V (V ⟨vars,[1,2,3],3,3⟩)|I=>V I:=by
   unfold rL;simp[k3];cases uE 3 vars 1 with
   |none=>simp
   |some n=>
    by_cases h:256<n
    ·simp[h]
    ·simp[h];exact hr 2 (by decide)
  unfold Gm;cases s1:uE 1 vars 1 with
  |none=>
   rw[s1]at r1 k1;have e:qz ⟨vars,[1,2,3],3,0⟩=V ⟨vars,[1,2,3],3,0⟩:=ct λr=>by rw[r1];simp
   rw[show ((↑(3:Int):Int))=3 from rfl,e];simp[k1]
  |some n1=>
   rw[s1]at r1 k1;cases s2:uE 2 vars 1 with
   |none=>
    rw[s2]at r2 k2;have e:qz ⟨vars,[1,2,3],3,0⟩=V ⟨vars,[1,2,3],3,1⟩:=(bR r1).trans (ct λr=>by rw[r2];simp);rw[show ((↑(3:Int):Int))=3 from rfl,e];simp[k2]
   |some n2=>
    rw[s2]at r2 k2;cases s3:uE 3 vars 1 with
    |none=>
     rw[s3]at r3 k3;have e:qz ⟨vars,[1,2,3],3,0⟩=V ⟨vars,[1,2,3],3,2⟩:=(bR r1).trans ((bR r2).trans (ct λr=>by rw[r3];simp));rw[show ((↑(3:Int):Int))=3 from rfl,e];simp[k3]
    |some n3=>
     rw[s3]at r3 k3;dsimp only at r3;by_cases h:256<n3
     ·rw[bI h]at r3;have e:qz ⟨vars,[1,2,3],3,0⟩=V ⟨vars,[1,2,3],3,2⟩:=(bR r1).trans ((bR r2).trans (ct λr=>by rw[r3];simp));rw[show ((↑(3:Int):Int))=3 from rfl,e];simp[k3,h]
     ·rw[bO h]at r3;have e:qz ⟨vars,[1,2,3],3,0⟩=V ⟨vars,[1,2,3],3,3⟩:=(bR r1).trans ((bR r2).trans ((bR r3).trans (ct λr=>by unfold rL;simp)));rw[show ((↑(3:Int):Int))=3 from rfl,e];simp[h]
 ·have h1:=C4 vars[i]!.fName;have h2:=Wk (vars.take i) (by rw[zA];omega) vars[i]!;rw[hc,bI h0];revert h0;unfold ni;simp only[zQ,zi,C9,h1,h2];generalize kr vars[i]!.fName=B;generalize ((vars.take i).any λw=>w.fName.toList==vars[i]!.fName.toList)=A;generalize jj vars[i]!.ah vars[i]!.ag=C;intro h0;cases A<;>cases B<;>cases C<;>simp only[cT]at h0 ⊢ <;>grind
def afM(vars:aa bf)(hl:zR vars<=1000000)(i:Nat)(hi:i<zR vars):(ni vars i vars[i]! =0->Bw ⟨vars,(i:Int)⟩=V (V ⟨vars,((i+1:Nat):Int)⟩))/\(ni vars i vars[i]!≠0->Bw ⟨vars,(i:Int)⟩=V I):=by
 have hw:=jJ hi hl;have h1:=DI vars[i]!.fName;obtain⟨j,h2,h3⟩:=HF vars hl i aq vars[i]!;unfold Bw ni;simp only[zi,DJ,h1,h2];generalize kr vars[i]!.fName=B;generalize ((vars.take i).any λw=>w.fName.toList==vars[i]!.fName.toList)=A at h3;generalize jj vars[i]!.ah vars[i]!.ag=C;rcases h3 with ⟨rfl,rfl⟩|⟨hj,h4,rfl⟩
 ·cases B<;>cases C<;>simp only[cI]<;>grind
 ·simp only;cases B<;>cases C<;>simp only[cI]<;>grind
def afT(vars:aa bf)(hl:zR vars<=1000000):alC vars=V (jK vars):=by
 obtain⟨i,e1,hc⟩:=s9 (rnd:=Bw) vars (λi=>⟨vars,(i:Int)⟩) (ni vars) (λi hi=>afM vars hl i hi) (by unfold Bw;simp);have e1':JL ⟨vars,0⟩=V ⟨vars,(i:Int)⟩:=e1;unfold alC jK;rw[e1'];dsimp only;rcases hc with ⟨rfl,hc⟩|⟨hi,h0,hc⟩
 ·have hv:=nw hc;rw[KU vars hv hl 1,KU vars hv hl 2,KU vars hv hl 3];have b1:=Et 1 vars 1;have b2:=Et 2 vars 1;unfold Gm;revert b1 b2;cases uE 1 vars 1<;>cases uE 2 vars 1<;>cases uE 3 vars 1<;>intro b1 b2<;>simp only[vh,Option.isSome_some]<;>(try have c1:=b1 _ aq rfl)<;>(try have c2:=b2 _ aq rfl)<;>grind
 ·have h1:=DI vars[i]!.fName;obtain⟨j,h2,h3⟩:=HF vars hl i aq vars[i]!;rw[hc,bI h0];revert h0;unfold ni;simp only[zi,DJ,h1,h2];generalize kr vars[i]!.fName=B;generalize ((vars.take i).any λw=>w.fName.toList==vars[i]!.fName.toList)=A at h3;generalize jj vars[i]!.ah vars[i]!.ag=C;intro h0;rcases h3 with ⟨rfl,rfl⟩|⟨hj,h4,rfl⟩
  ·cases B<;>cases C<;>simp only[cI]at h0 ⊢ <;>grind
  ·simp only[h4];cases B<;>cases C<;>simp only[cT]at h0 ⊢ <;>grind
def akw(o:Int):OI o=cq o:=by
 unfold OI cq;grind
def aln(o:Int):GP o=if o=25 then-2 else(cq o).1:=by
 unfold GP cq;grind (splits:=40)
def akE(M:aa bf->az->Bool->af sZ)(vars:aa bf)(inp:Bool)(t:az)(hM:∀k∈t.ax,M vars k inp=V (dH vars inp k)):am4 M vars t inp=V (dH vars inp t):=by
 have key:zR t.ax<=1000000->∃i:Nat,AY M ⟨vars,inp,t.ax,(zR t.ax:Int),0⟩=V ⟨vars,inp,t.ax,(zR t.ax:Int),(i:Int)⟩/\((i=zR t.ax/\t.ax.all (dH vars inp)=O)\/(i<zR t.ax/\dH vars inp t.ax[i]! =G/\t.ax.all (dH vars inp)=G)):=λhl=>by
  obtain⟨i,e1,hc⟩:=qJ (rnd:=Lv M) t.ax (λi=>⟨vars,inp,t.ax,(zR t.ax:Int),(i:Int)⟩) (λ_ k=>dH vars inp k) (λi hi=>by
   have hw:=jJ hi hl;have hk:=hM _ (bq hi);unfold Lv;simp only[zi,az.eta,hk,hw];cases dH vars inp t.ax[i]! <;>simp[hi]) (by unfold Lv;simp)
  refine⟨i,e1,?_⟩;rcases hc with ⟨rfl,hc⟩|⟨hi,hc⟩
  ·exact .inl ⟨rfl,EI hc⟩
  ·exact .inr ⟨hi,hc,Aj hi hc⟩
 unfold am4;rw[akw,mc];unfold CD;by_cases hn:0<=(cq t.bE).1/\(cq t.bE).1<=zR t.ax/\(zR t.ax:Int)<=(cq t.bE).2
 ·have h33:(cq t.bE).2<=33:=by unfold cq;grind
  obtain⟨i,e,hc⟩:=key aq;rw[bZ hn,bY (show ¬(cq t.bE).1<0 by omega),bY (show ¬(zR t.ax:Int)<(cq t.bE).1 by omega),bY (show ¬(cq t.bE).2<(zR t.ax:Int)by omega),e];generalize t.ax.all (dH vars inp)=A at hc;simp only[zi];rcases hc with ⟨rfl,rfl⟩|⟨hi,h2,rfl⟩
  ·cases inp<;>grind
  ·have hk:=hM _ (bq hi);simp only[az.eta];cases inp<;>grind
 ·rw[bY hn];grind
def Vo(vars:aa bf)(inp:Bool):∀(n:Nat) (t:az),zf t<n->Tv n vars t inp=V (dH vars inp t)
 |0,_,h=>aq
 |n+1,t,h=>akE (Tv n) vars inp t (λk hk=>Vo vars inp n k (by have:=az.eV hk;omega))
def ajP(vars:aa bf)(inp:Bool)(t:az):ajF vars t inp=V (dH vars inp t):=eM (zf t+1) λn hn=>Vo vars inp n t aq
def amP(M:aa bf->az->Bool->af sN)(vars:aa bf)(inp:Bool)(t:az)(hM:∀k∈t.ax,M vars k inp=V (dH vars inp k)):ai4 M vars t inp=V (dH vars inp t):=by
 have key:zR t.ax<=1000000->∃i:Nat,D9 M ⟨vars,inp,0,t⟩=V ⟨vars,inp,(i:Int),t⟩/\((i=zR t.ax/\t.ax.all (dH vars inp)=O)\/(i<zR t.ax/\dH vars inp t.ax[i]! =G/\t.ax.all (dH vars inp)=G)):=λhl=>by
  obtain⟨i,e1,hc⟩:=qJ (rnd:=JX M) t.ax (λi=>⟨vars,inp,(i:Int),t⟩) (λ_ k=>dH vars inp k) (λi hi=>by
   have hw:=jJ hi hl;have hk:=hM _ (bq hi);unfold JX;dsimp only;simp only[zi,az.eta,hk,hw];cases dH vars inp t.ax[i]! <;>simp[hi]) (by unfold JX;simp)
  refine⟨i,e1,?_⟩;rcases hc with ⟨rfl,hc⟩|⟨hi,hc⟩
  ·exact .inl ⟨rfl,EI hc⟩
  ·exact .inr ⟨hi,hc,Aj hi hc⟩
 unfold ai4;rw[aln,mc];unfold CD;have hk0:(cq t.bE).1= -1\/0<=(cq t.bE).1:=by unfold cq;grind
 have hk1:t.bE≠25->(cq t.bE).1=(cq t.bE).2:=by unfold cq;grind
 have hk2:t.bE=25->cq t.bE=(2,33):=by unfold cq;grind
 have h33:(cq t.bE).2<=33:=by unfold cq;grind
 have hk3:t.bE=25->(cq t.bE).1=2/\(cq t.bE).2=33:=λh=>by rw[hk2 h];exact⟨rfl,rfl⟩
 generalize (cq t.bE).1=a at*;generalize (cq t.bE).2=b at*;by_cases hn:0<=a/\a<=zR t.ax/\(zR t.ax:Int)<=b
 ·obtain⟨i,e,hc⟩:=key aq;rw[bZ hn,az.eta,e];generalize t.ax.all (dH vars inp)=A at hc;simp only[zQ,zi];rcases hc with ⟨rfl,rfl⟩|⟨hi,h2,rfl⟩
  ·cases inp<;>grind
  ·have hk:=hM _ (bq hi);simp only[az.eta,hk,h2];by_cases h25:t.bE=25
   ·rw[bI h25,h25];cases inp<;>grind (splits:=30)
   ·rw[bO h25];cases inp<;>grind (splits:=30)
 ·rw[bY hn];grind
def VF(vars:aa bf)(inp:Bool):∀(n:Nat) (t:az),zf t<n->Sy n vars t inp=V (dH vars inp t)
 |0,_,h=>aq
 |n+1,t,h=>amP (Sy n) vars inp t (λk hk=>VF vars inp n k (by have:=az.eV hk;omega))
def aga(vars:aa bf)(inp:Bool)(t:az):ag7 vars t inp=V (dH vars inp t):=eM (zf t+1) λn hn=>VF vars inp n t aq
def GI(s:Span):Prop:= -1048576<=s.ah/\s.ah<=s.ag/\s.ag<=1048576
def Dn(a b:Span):Y5 a b=gu a b:=rfl
def qk{a b:Int}(h1: -1048576<=a)(h2:a<=1048576)(h3: -1048576<=b)(h4:b<=1048576): -1099511627776<=a*b/\a*b<=1099511627776:=by
 have e1:(1048576-a)*(1048576-b)≥0:=zI aq aq;have e2:(1048576+a)*(1048576+b)≥0:=zI aq aq;have e3:(1048576-a)*(1048576+b)≥0:=zI aq aq;have e4:(1048576+a)*(1048576-b)≥0:=zI aq aq;grind
def amq(a b:Span)(ha:GI a)(hb:GI b):afs a b=V (gu (gu (gu ⟨a.ah*b.ah,a.ah*b.ah⟩ ⟨a.ah*b.ag,a.ah*b.ag⟩) ⟨a.ag*b.ah,a.ag*b.ah⟩) ⟨a.ag*b.ag,a.ag*b.ag⟩):=by
 unfold GI at ha hb;have w1:Bi a.ah b.ah=a.ah*b.ah:=by have:=qk (a:=a.ah) (b:=b.ah) aq aq aq aq;exact aM
 have w2:Bi a.ah b.ag=a.ah*b.ag:=by have:=qk (a:=a.ah) (b:=b.ag) aq aq aq aq;exact aM
 have w3:Bi a.ag b.ah=a.ag*b.ah:=by have:=qk (a:=a.ag) (b:=b.ah) aq aq aq aq;exact aM
 have w4:Bi a.ag b.ag=a.ag*b.ag:=by have:=qk (a:=a.ag) (b:=b.ag) aq aq aq aq;exact aM
 unfold afs;rw[w1,w2,w3,w4];generalize a.ah*b.ah=p;generalize a.ah*b.ag=q;generalize a.ag*b.ah=r;generalize a.ag*b.ag=s;have e:F5 ⟨[q,r,s],(3:Int),0,⟨0,0⟩,⟨p,p⟩⟩=V ⟨[q,r,s],3,3,⟨0,0⟩,gu (gu (gu ⟨p,p⟩ ⟨q,q⟩) ⟨r,r⟩) ⟨s,s⟩⟩:=by
  have k1:qI ⟨[q,r,s],(3:Int),0,⟨0,0⟩,⟨p,p⟩⟩=V (V ⟨[q,r,s],(3:Int),1,⟨0,0⟩,gu ⟨p,p⟩ ⟨q,q⟩⟩):=by unfold qI;simp[Dn,aM]
  have k2:qI ⟨[q,r,s],(3:Int),1,⟨0,0⟩,gu ⟨p,p⟩ ⟨q,q⟩⟩=V (V ⟨[q,r,s],(3:Int),2,⟨0,0⟩,gu (gu ⟨p,p⟩ ⟨q,q⟩) ⟨r,r⟩⟩):=by unfold qI;simp[Dn,aM]
  have k3:qI ⟨[q,r,s],(3:Int),2,⟨0,0⟩,gu (gu ⟨p,p⟩ ⟨q,q⟩) ⟨r,r⟩⟩=V (V ⟨[q,r,s],(3:Int),3,⟨0,0⟩,gu (gu (gu ⟨p,p⟩ ⟨q,q⟩) ⟨r,r⟩) ⟨s,s⟩⟩):=by unfold qI;simp[Dn,aM]
  unfold F5;rw[bR k1,bR k2,bR k3];exact ct λr=>by unfold qI;simp
 rw[show (zR ([q,r,s]:aa Int):Int)=3 from rfl,e];simp
def akD{a b:Span}(ha:GI a)(hb:GI b):GI (gu a b):=by
 unfold GI gu at*;grind
def mY:∀(l:aa Span) (a:Span),GI a->(∀x∈l,GI x)->GI (l.foldl gu a)
 |[],a,ha,_=>ha
 |x::l,a,ha,h=>mY l (gu a x) (akD ha (h x (zk ..))) λy hy=>h y (zJ _ hy)
def XI(l:aa Span)(hl:zR l<=1000000)(z a:Span):FX ⟨l,(zR l:Int),0,z,a⟩=V ⟨l,(zR l:Int),(zR l:Int),z,l.foldl gu a⟩:=by
 obtain⟨v,e1,hv⟩:=cH (rnd:=Jb) l.length (λi (b:Span)=>⟨l,(zR l:Int),(i:Int),z,b⟩) (λi b=>b=(l.take i).foldl gu a) (λi b hi hb=>by
  have hw:=jJ hi hl;refine⟨gu b l[i]!,?_,?_⟩
  ·unfold Jb;simp only[Dn];grind
  ·rw[bC hi,wN,hb];rfl) (λb _=>by unfold Jb;simp) (b:=a) rfl
 rw[zG]at hv;rw[<-hv];exact e1
def D8(vars:aa bf)(t:az)(k:aa Span):Prop:=(0<=(cq t.bE).1/\(cq t.bE).1<=zR k/\(zR k:Int)<=(cq t.bE).2)/\(t.bE=24->0<=t.fN/\t.fN<zR vars)/\∀s∈k,GI s
def ajk(vars:aa bf)(t:az)(k:aa Span)(h:D8 vars t k):akP vars t k=V (jy vars t k):=by
 obtain⟨hk,h24,hI⟩:=h;have h0:1<=(cq t.bE).1->GI k[0]! :=λh=>hI _ (bq aq);have h1:2<=(cq t.bE).1->GI k[1]! :=λh=>hI _ (bq aq);have h33:(cq t.bE).2<=33:=by unfold cq;grind
 have hd:zR (k.drop 2)<=1000000:=by rw[zV];omega
 have W:∀n:Int,-8796093022208<=n->n<=8796093022208->ak n=n:=λn a b=>aM;unfold akP jy;rw[XI _ hd];have cs:t.bE=0\/t.bE=24\/t.bE=6\/t.bE=8\/t.bE=9\/t.bE=10\/t.bE=11\/t.bE=12\/t.bE=21\/t.bE=22\/t.bE=23\/t.bE=25\/(t.bE≠0/\t.bE≠24/\t.bE≠6/\t.bE≠8/\t.bE≠9/\t.bE≠10/\t.bE≠11/\t.bE≠12/\t.bE≠21/\t.bE≠22/\t.bE≠23/\t.bE≠25):=aq;rcases cs with h|h|h|h|h|h|h|h|h|h|h|h|h
 ·simp[h]
 ·simp[h,h24 h]
 ·have hl:1<=(cq t.bE).1:=by rw[h];decide
  obtain⟨a1,a2,a3⟩:=h0 hl;have w1:ak ((0:Int)-k[0]!.ag)= -k[0]!.ag:=by rw[W _ aq aq];omega
  have w2:ak ((0:Int)-k[0]!.ah)= -k[0]!.ah:=by rw[W _ aq aq];omega
  have i0:(0:Int)<(zR k:Int):=aq;simp only[Z0,h,zQ,Int.reduceEq,reduceIte,i0,w1,w2,zw,GJ]
 ·have hl:2<=(cq t.bE).1:=by rw[h];decide
  obtain⟨a1,a2,a3⟩:=h0 aq;obtain⟨b1,b2,b3⟩:=h1 hl;have w1:=W (k[0]!.ah+k[1]!.ah) aq aq;have w2:=W (k[0]!.ag+k[1]!.ag) aq aq;have i0:(0:Int)<(zR k:Int):=aq;have i1:(1:Int)<(zR k:Int):=aq;simp only[Z0,h,zQ,Int.reduceEq,Int.reduceLE,reduceIte,i0,i1,w1,w2,zw,GJ,dM]
 ·have hl:2<=(cq t.bE).1:=by rw[h];decide
  obtain⟨a1,a2,a3⟩:=h0 aq;obtain⟨b1,b2,b3⟩:=h1 hl;have w1:=W (k[0]!.ah-k[1]!.ag) aq aq;have w2:=W (k[0]!.ag-k[1]!.ah) aq aq;have i0:(0:Int)<(zR k:Int):=aq;have i1:(1:Int)<(zR k:Int):=aq;simp only[Z0,h,zQ,Int.reduceEq,Int.reduceLE,reduceIte,i0,i1,w1,w2,zw,GJ,dM]
 ·have hl:2<=(cq t.bE).1:=by rw[h];decide
  have e18:=amq _ _ (h0 aq) (h1 hl);have i0:(0:Int)<(zR k:Int):=aq;have i1:(1:Int)<(zR k:Int):=aq;simp only[Z0,h,zQ,Int.reduceEq,Int.reduceLE,reduceIte,i0,i1,e18,zw,GJ,dM]
 ·have hl:2<=(cq t.bE).1:=by rw[h];decide
  obtain⟨a1,a2,a3⟩:=h0 aq;obtain⟨b1,b2,b3⟩:=h1 hl;have w1:ak ((0:Int)-k[0]!.ah)= -k[0]!.ah:=by rw[W _ aq aq];omega
  have w2:ak ((0:Int)-if k[0]!.ag< -k[0]!.ah then-k[0]!.ah else k[0]!.ag)= -(if k[0]!.ag< -k[0]!.ah then-k[0]!.ah else k[0]!.ag):=by split<;>(rw[W _ aq aq];omega)
  have i0:(0:Int)<(zR k:Int):=aq;have i1:(1:Int)<(zR k:Int):=aq;simp only[Z0,h,zQ,Int.reduceEq,Int.reduceLE,reduceIte,i0,i1,w1,w2,zw,GJ,dM];by_cases c1:(0:Int)<=k[0]!.ah<;>by_cases c2:(0:Int)<=k[1]!.ah<;>simp only[cV,cT,gz,c1,c2,and_true,and_false]
 ·have hl:2<=(cq t.bE).1:=by rw[h];decide
  obtain⟨b1,b2,b3⟩:=h1 hl;have w1:=W (k[1]!.ah+1) aq aq;have w2:=W (k[1]!.ag-1) aq aq;have i1:(1:Int)<(zR k:Int):=aq;simp only[Z0,h,zQ,Int.reduceEq,Int.reduceLE,reduceIte,i1,w1,w2,zw,GJ,dM];by_cases c1:k[1]!.ah<0<;>by_cases c2:(0:Int)<k[1]!.ag<;>simp only[gz,c1,c2]
  ·rw[AS,AS]
  ·rw[AS]
  ·rw[AS]
 ·have hl:2<=(cq t.bE).1:=by rw[h];decide
  have i0:(0:Int)<(zR k:Int):=aq;have i1:(1:Int)<(zR k:Int):=aq;simp only[Z0,h,zQ,Int.reduceEq,Int.reduceLE,reduceIte,i0,i1,zw,GJ,dM]
 ·have hl:2<=(cq t.bE).1:=by rw[h];decide
  have i0:(0:Int)<(zR k:Int):=aq;have i1:(1:Int)<(zR k:Int):=aq;simp only[Z0,h,zQ,Int.reduceEq,Int.reduceLE,reduceIte,i0,i1,zw,GJ,dM]
 ·have hl:2<=(cq t.bE).1:=by rw[h];decide
  have i1:(1:Int)<(zR k:Int):=aq;have i2:(2:Int)<=(zR k:Int):=aq;simp only[gz,Z0,h,zQ,Int.reduceEq,Int.reduceLE,reduceIte,i1,i2,zw,GJ,yl,true_or]
 ·have hl:2<=(cq t.bE).1:=by rw[h];decide
  have i1:(1:Int)<(zR k:Int):=aq;have i2:(2:Int)<=(zR k:Int):=aq;simp only[gz,Z0,h,zQ,Int.reduceEq,Int.reduceLE,reduceIte,i1,i2,zw,GJ,yl,or_true]
 ·obtain⟨c1,c2,c3,c4,c5,c6,c7,c8,c9,c18,c11,c12⟩:=h;simp only[c1,c2,c3,c4,c5,c6,c7,c8,c9,c18,c11,c12,zQ,GL,or_self]
def acm(vars:aa bf)(hv:de vars)(t:az)(k:aa Span)(h:D8 vars t k):(jy vars t k).ah<=(jy vars t k).ag:=by
 obtain⟨hk,h24,hI⟩:=h;have h0:1<=(cq t.bE).1->GI k[0]! :=λh=>hI _ (bq aq);have h1:2<=(cq t.bE).1->GI k[1]! :=λh=>hI _ (bq aq);unfold jy;have cs:t.bE=0\/t.bE=24\/t.bE=6\/t.bE=8\/t.bE=9\/t.bE=10\/t.bE=11\/t.bE=12\/t.bE=21\/t.bE=22\/t.bE=23\/t.bE=25\/(t.bE≠0/\t.bE≠24/\t.bE≠6/\t.bE≠8/\t.bE≠9/\t.bE≠10/\t.bE≠11/\t.bE≠12/\t.bE≠21/\t.bE≠22/\t.bE≠23/\t.bE≠25):=aq;rcases cs with h|h|h|h|h|h|h|h|h|h|h|h|h
 ·simp[h]
 ·have hm:vars[t.fN.toNat]!∈vars:=bq (by have:=h24 h;omega);have:=hv _ hm;simp only[h,Int.reduceEq,reduceIte];omega
 ·obtain⟨a1,a2,a3⟩:=h0 (by rw[h];decide);simp only[h,Int.reduceEq,reduceIte];omega
 ·obtain⟨a1,a2,a3⟩:=h0 (by rw[h];decide);obtain⟨b1,b2,b3⟩:=h1 (by rw[h];decide);simp only[h,Int.reduceEq,reduceIte];omega
 ·obtain⟨a1,a2,a3⟩:=h0 (by rw[h];decide);obtain⟨b1,b2,b3⟩:=h1 (by rw[h];decide);simp only[h,Int.reduceEq,reduceIte];omega
 ·simp only[h,Int.reduceEq,reduceIte,gu];omega
 ·obtain⟨a1,a2,a3⟩:=h0 (by rw[h];decide);grind
 ·simp only[h];grind
 ·obtain⟨a1,a2,a3⟩:=h0 (by rw[h];decide);obtain⟨b1,b2,b3⟩:=h1 (by rw[h];decide);simp only[h,Int.reduceEq];grind
 ·obtain⟨a1,a2,a3⟩:=h0 (by rw[h];decide);obtain⟨b1,b2,b3⟩:=h1 (by rw[h];decide);simp only[h,Int.reduceEq,reduceIte];grind
 ·have:=mY (k.drop 2) k[1]! (h1 (by rw[h];decide)) λx hx=>hI x (xD hx);simp only[h,Int.reduceEq,reduceIte,true_or,dM];exact this.2.1
 ·have:=mY (k.drop 2) k[1]! (h1 (by rw[h];decide)) λx hx=>hI x (xD hx);simp only[h,Int.reduceEq,reduceIte,or_true,dM];exact this.2.1
 ·obtain⟨c1,c2,c3,c4,c5,c6,c7,c8,c9,c18,c11,c12⟩:=h;simp only[c1,c2,c3,c4,c5,c6,c7,c8,c9,c18,c11,c12,GL,or_self];decide
def rS:∀{l:aa (af Span)} {r:aa Span},lN l=V r->l=r.map V
 |[],r,h=>by unfold lN at h;cases h;rfl
 |none::l,r,h=>by unfold lN at h;cases h
 |some s::l,r,h=>by
  unfold lN at h;cases hl:lN l with
  |none=>rw[hl]at h;cases h
  |some q=>rw[hl]at h;cases h;rw[rS hl];rfl
def PC(l:aa Span):lN (l.map V)=V l:=by
 induction l with
 |nil=>rfl
 |cons s l ih=>rw[yc,lN,ih]
def AX:∀{l:aa (af Span)},I∈l->lN l=I
 |none::l,h=>rfl
 |some s::l,h=>by
  unfold lN;rw[AX (by simpa using h)]
def HJ{vars:aa bf}{inp:Bool}{t:az}{k:aa Span}(hf:CD vars inp t=O)(hl:zR k=zR t.ax)(hI:∀s∈k,GI s):D8 vars t k:=by
 unfold CD at hf;refine⟨?_,?_,hI⟩
 ·simp_all
 ·intro h;simp_all
def amn(vars:aa bf)(hv:de vars)(inp:Bool)(t:az)(s:Span)(hf:dH vars inp t=O)(h:iN vars t=V s):GI s:=by
 have key:∀(n:Nat) (t:az) (s:Span),zf t<n->dH vars inp t=O->iN vars t=V s->GI s:=by
  intro n;induction n with
  |zero=>intro t s h;omega
  |succ n ih=>
   intro t s hz hf h;rw[mc,zh,zx]at hf;rw[vZ]at h;cases ha:lN (t.ax.map (iN vars))with
   |none=>rw[ha]at h;cases h
   |some k=>
    rw[ha]at h;dsimp only at h;have hm:=rS ha;have hl:zR k=zR t.ax:=by have:=congrArg zR hm;simpa using this.symm
    have hI:∀s∈k,GI s:=λx hx=>by
     have:V x∈t.ax.map (iN vars):=by rw[hm];exact List.mem_map_of_mem hx
     obtain⟨c,hc,e⟩:=zL.1 this;exact ih c x (by have:=az.eV hc;omega) (hf.2 c hc) e
    have ho:=acm vars hv t k (HJ hf.1 hl hI);split at h
    ·rename_i hlim;unfold BZ at hlim;unfold GI;grind
    ·cases h
 exact key _ t s (zC _) hf h
def v8(vars:aa bf)(t:az):Span×Bool:=match lN (t.ax.map (iN vars))with
 |none=>(⟨0,0⟩,G)
 |some l=>(jy vars t l,BZ (jy vars t l))
def KP(vars:aa bf)(t:az):iN vars t=if(v8 vars t).2=O then V (v8 vars t).1 else I:=by
 rw[vZ,v8];grind
def Nn{vars:aa bf}(hv:de vars){inp:Bool}{t:az}{k:aa Span}(hf:dH vars inp t=O)(ha:lN (t.ax.map (iN vars))=V k):D8 vars t k:=by
 rw[mc,zh,zx]at hf;have hm:=rS ha;refine HJ hf.1 (by have:=congrArg zR hm;simpa using this.symm) λx hx=> ?_;have:V x∈t.ax.map (iN vars):=by rw[hm];exact List.mem_map_of_mem hx
 obtain⟨c,hc,e⟩:=zL.1 this;exact amn vars hv inp c x (hf.2 c hc) e
def NS{vars:aa bf}{inp:Bool}{t:az}(hf:dH vars inp t=O):zR t.ax<=33:=by
 rw[mc,zh]at hf;have:=hf.1;unfold CD at this;have h33:(cq t.bE).2<=33:=by unfold cq;grind
 simp only[zh,decide_eq_true_eq]at this;omega
def qD{vars:aa bf}{inp:Bool}{t k:az}(hf:dH vars inp t=O)(hk:k∈t.ax):dH vars inp k=O:=by
 rw[mc,zh,zx]at hf;simp_all
def ajs(M:aa bf->az->af sQ)(vars:aa bf)(hv:de vars)(inp:Bool)(t:az)(hf:dH vars inp t=O)(hM:∀k∈t.ax,M vars k=V (v8 vars k)):alJ M vars t=V (v8 vars t):=by
 have h33:=NS hf;obtain⟨i,b,e1,hI,hc⟩:=lM (rnd:=Gn M) t.ax.length (λi (b:aa Span)=>⟨vars,b,t.ax,(zR t.ax:Int),(i:Int),t,⟨0,0⟩⟩) (λi b=>(t.ax.take i).map (iN vars)=b.map V) (λi _=>(v8 vars t.ax[i]!).2=G) (λi b hi hb=>by
  have hw:=jJ hi aq;have hk:=hM _ (bq hi);have hlen:zR b=i:=by have:=congrArg zR hb;simp at this;omega
  cases hx:(v8 vars t.ax[i]!).2 with
  |true=>
   refine .inl ⟨b++[(v8 vars t.ax[i]!).1],?_,?_⟩
   ·have hl2:zR (b++[(v8 vars t.ax[i]!).1])<=1073741824:=by simp;omega
    unfold Gn;simp only[zi,az.eta,hk,hx,hl2,hw];simp[hi]
   ·rw[bC hi,zK,hb,zK];rw[yc,yc,KP,bI hx];rfl
  |false=>
   unfold Gn;simp only[zi,az.eta,hk,hx];simp[hi]) (λb _=>by unfold Gn;simp) (b:=[]) rfl
 have e1':K9 M ⟨vars,[],t.ax,(zR t.ax:Int),0,t,⟨0,0⟩⟩=V ⟨vars,b,t.ax,(zR t.ax:Int),(i:Int),t,⟨0,0⟩⟩:=e1;unfold alJ;rw[az.eta,e1'];dsimp only;rcases hc with rfl|⟨hi,hx⟩
 ·rw[zG]at hI;have ha:lN (t.ax.map (iN vars))=V b:=by rw[hI];exact PC b
  rw[fK,cw,az.eta,ajk vars t b (Nn hv hf ha)];unfold v8;unfold BZ;grind
 ·have hk:=hM _ (bq hi);have ha:lN (t.ax.map (iN vars))=I:=AX (zL.2 ⟨t.ax[i]!,bq hi,by rw[KP,hx];simp⟩);rw[oo,cI,bI ⟨aq,aq⟩];simp only[cT,zi,az.eta,hk,hx];unfold v8;rw[ha]
def WM(vars:aa bf)(hv:de vars)(inp:Bool):∀(n:Nat) (t:az),zf t<n->dH vars inp t=O->TC n vars t=V (v8 vars t)
 |0,_,h,_=>aq
 |n+1,t,h,hf=>ajs (TC n) vars hv inp t hf (λk hk=>WM vars hv inp n k (by have:=az.eV hk;omega) (qD hf hk))
def af0(vars:aa bf)(hv:de vars)(inp:Bool)(t:az)(hf:dH vars inp t=O):amS vars t=V (v8 vars t):=eM (zf t+1) λn hn=>WM vars hv inp n t aq hf
def DG(vars:aa bf)(hv:de vars)(inp:Bool)(t:az):Qp vars t inp=V (fA vars inp t):=by
 unfold Qp fA;rw[az.eta,ajP];cases hf:dH vars inp t with
 |false=>rfl
 |true=>
  rw[af0 vars hv inp t hf,KP];dsimp only;cases (v8 vars t).2<;>rfl
end Go.Proofs.YtnfljbehcffmcaaGreat
end
