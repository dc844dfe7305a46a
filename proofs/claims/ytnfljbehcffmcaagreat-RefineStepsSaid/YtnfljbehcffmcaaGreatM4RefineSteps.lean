/- Merged: Ne13, Ne14, Ne15, Ne16, Ne17, Ne18, Ne19, Ne20, Ne21, Ne22, Ne23, Ne24, Ne25, Ne26, Ne27, Ne28, Ne29, Ga, Pfew, Pd, Gb, Pv1, Pv3, Pv1b, Pv2. -/
import Derived.Test.YtnfljbehcffmcaaGreatM1RefineSteps
import Derived.Test.YtnfljbehcffmcaaGreatM3RefineSteps
import Derived.Test.YtnfljbehcffmcaaGreatM2RefineSteps
open Nat renaming le_refl -> zm, lt_succ_self -> zC, le_trans -> zG, add_mul -> zX, mul_le_mul_right -> yl, one_mul -> yL, not_lt_zero -> y8, mod_lt -> xg, lt_succ_iff_lt_or_eq -> xo
open SizeOf renaming sizeOf -> zf
open Int renaming toNat_natCast -> zg, le_refl -> zw, toNat -> zD, mul_nonneg -> zJ, mul_le_mul_of_nonneg_right -> zL, mul_comm -> zO, ediv_nonneg -> zS, add_mul -> zU, dvd_trans -> zY, mul_assoc -> yb, one_mul -> yc, lt_irrefl -> yg, ediv_le_self -> yo, dvd_sub -> yA, sub_mul -> yC, gcd -> yD, mul_ediv_add_emod -> yX, emod_nonneg -> yY, mul_le_mul -> yZ, dvd_add -> y4, emod_lt_of_pos -> y7, ediv_mul_le -> xu, mul_add -> xE, dvd_mul_left -> xF, dvd_zero -> xL, dvd_mul_right -> xM, le_trans -> xV, zero_sub -> xW, mul_neg -> xX, ediv_mul_cancel -> wu, natCast_mul -> wJ, lt_of_mul_lt_mul_right -> wM, dvd_of_emod_eq_zero -> wZ, lt_ediv_add_one_mul_self -> w9
open List renaming length_append -> zh, mem_cons_self -> zk, mem_singleton -> zo, all_eq_true -> zx, mem_cons -> zy, length_take -> zA, take_length -> zH, mem_cons_of_mem -> zI, mem_map -> zK, map_append -> zM, range -> zN, mem_append -> zP, length -> zR, length_drop -> zV, mem_filter -> z8, drop -> ya, map_cons -> yf, length_filter_le -> yt, nil_append -> yz, getElem_map -> yM, getElem_of_mem -> y5, take_append_drop -> xe, filter_append -> xk, cons_append -> xy, mem_of_mem_drop -> xC, getElem_take -> xJ, getElem_mem -> xO, length_range -> we, sizeOf_lt_of_mem -> va, filter_cons_of_pos -> ve, filter_cons_of_neg -> vf
open Bool renaming and_eq_true -> zi, cond_decide -> zQ, or_eq_true -> yK, true -> O, false -> G
open Option renaming some -> zF, isSome_none -> vg, some -> V, none -> I
open Decidable renaming decide -> J
open Go.Proofs.Tryz renaming prog -> vi
open Go.Proofs.Tryz
set_option linter.unusedSectionVars false
set_option linter.unusedVariables false
set_option linter.unusedSimpArgs false
set_option linter.defProp false
noncomputable section
set_option maxRecDepth 100000
namespace Go.Proofs.YtnfljbehcffmcaaGreat
open Go Go.Iv
open Go.IntKind (i64 u64)
def aiK(b:Bool):AB b=oo b:=by cases b<;>rfl
def eG{op x y v:Int}(h:v=fS op x y)(hr:cC (fS op x y)):∃w,V (v,O)=V (w,J (cC (fS op x y)))/\(cC (fS op x y)->w=fS op x y):=⟨v,by rw[b7 hr],λ_=>h⟩
def ah0{x y:Int}(hx:cC x)(hy:cC y):∃v,ahg x y=V (v,J (cC (x*y)))/\(cC (x*y)->v=x*y):=by
 unfold ahg;rw[C4,C4,uK hx,uK hy];by_cases h0:x=0
 ·subst h0;rw[bY (show ¬¬(0:Int)=0 from λk=>k rfl)];simp only[cv];rw[Int.zero_mul,aM,b7 (show cC 0 from⟨aq,aq⟩)];exact⟨0,rfl,λ_=>rfl⟩
 ·rw[b7 h0,cI];by_cases h1:y=0
  ·subst h1;rw[bY (show ¬¬(0:Int)=0 from λk=>k rfl)];simp only[cv];rw[Int.mul_zero,aM,b7 (show cC 0 from⟨aq,aq⟩)];exact⟨0,rfl,λ_=>rfl⟩
  ·rw[b7 h1,cI,bJ (show ¬@Eq Int ((y.natAbs:Nat):Int) 0 by omega),kG];have q0:0<=(1099511627776:Int)/((y.natAbs:Nat):Int):=zS aq aq;have q1:(1099511627776:Int)/((y.natAbs:Nat):Int)<=1099511627776:=yo _ aq;rw[aM];simp only;have k:=Pz (x:=y) (y:=x) h1;rw[zO]at k;by_cases c:(1099511627776:Int)/((y.natAbs:Nat):Int)<((x.natAbs:Nat):Int)
   ·rw[b7 c,bY (k.mp c)];exact⟨0,rfl,λe=>ep e (k.mp c)⟩
   ·have hR:cC (x*y):=Decidable.byContradiction λe=>c (k.mpr e);rw[bY c,b7 hR,aM (by have:=hR.1;omega) (by have:=hR.2;omega)];exact⟨x*y,rfl,λ_=>rfl⟩
def Du{x y:Int}(hx:cC x)(hy:cC y):∃v,Rb x y=V (v,J (cC (x*y)))/\(cC (x*y)->v=x*y):=by
 unfold Rb;rw[C4,nI hx,nI hy];by_cases h0:x=0
 ·subst h0;rw[bY (show ¬¬(0:Int)=0 from λk=>k rfl)];simp only[cv];rw[Int.zero_mul,aM,b7 (show cC 0 from⟨aq,aq⟩)];exact⟨0,rfl,λ_=>rfl⟩
 ·rw[b7 h0,cI,bJ (show ¬@Eq Int ((x.natAbs:Nat):Int) 0 by omega),kG];have q0:0<=(1099511627776:Int)/((x.natAbs:Nat):Int):=zS aq aq;have q1:(1099511627776:Int)/((x.natAbs:Nat):Int)<=1099511627776:=yo _ aq;rw[aM];simp only;have k:=Pz (x:=x) (y:=y) h0;by_cases c:(1099511627776:Int)/((x.natAbs:Nat):Int)<((y.natAbs:Nat):Int)
  ·rw[b7 c,bY (k.mp c)];exact⟨0,rfl,λe=>ep e (k.mp c)⟩
  ·have hR:cC (x*y):=Decidable.byContradiction λe=>c (k.mpr e);rw[bY c,b7 hR,aM (by have:=hR.1;omega) (by have:=hR.2;omega)];exact⟨x*y,rfl,λ_=>rfl⟩
def mJ{op x y:Int}(hx:cC x)(hy:cC y)(ho:binop op):∃v,Ep op x y=V (v,J (cC (fS op x y)))/\(cC (fS op x y)->v=fS op x y):=by
 obtain⟨o1,o2⟩:=ho;have hx':=hx;have hy':=hy;obtain⟨a1,a2⟩:=hx';obtain⟨b1,b2⟩:=hy';have cases15:op=8\/op=9\/op=10\/op=11\/op=12\/op=13\/op=14\/op=15\/op=16\/op=17\/op=18\/op=19\/op=20\/op=21\/op=22:=aq;unfold Ep;simp only[DV,aiK];rcases cases15 with rfl|rfl|rfl|rfl|rfl|rfl|rfl|rfl|rfl|rfl|rfl|rfl|rfl|rfl|rfl
 all_goals simp only[cZ,cU,Int.reduceEq]
 ·rw[aM];exact⟨x+y,rfl,λ_=>rfl⟩
 ·rw[aM];exact⟨x-y,rfl,λ_=>rfl⟩
 ·obtain⟨v,e,h⟩:=ah0 hx hy;rw[e];exact⟨v,rfl,h⟩
 ·rw[Wb hx hy];exact eG (op:=11) rfl (Sb hx).1
 ·by_cases h0:y=0
  ·rw[b7 h0];have e:fS 12 x y=0:=bJ h0;exact eG (op:=12) e.symm (by rw[e];exact⟨aq,aq⟩)
  ·rw[bY h0,cv,Wb hx hy];simp only;have e:fS 12 x y=x-y*oS x y:=bN h0;have hm:=(Q4 (x:=x) hy h0).1;obtain⟨c1,c2⟩:=hm;rw[aM (n:=y*oS x y),aM];exact eG (op:=12) e.symm (by rw[e];exact⟨c1,c2⟩)
 ·exact eG (op:=13) rfl (tq _)
 ·refine eG (op:=14) ?_ (tq _);show oo _=oo _
  congr 1
 ·exact eG (op:=15) rfl (tq _)
 ·exact eG (op:=16) rfl (tq _)
 ·exact eG (op:=17) rfl (tq _)
 ·exact eG (op:=18) rfl (tq _)
 ·rw[C4,C4];by_cases h0:x=0
  ·rw[bY (show ¬¬x=0 from λk=>k h0),cv];refine eG (op:=19) ?_ (tq _);show oo G=oo (J (x≠0/\y≠0));rw[bY (λk=>k.1 h0)]
  ·rw[b7 h0,cI];refine eG (op:=19) ?_ (tq _);show oo _=oo (J (x≠0/\y≠0))
   congr 1
   exact decide_eq_decide.mpr ⟨λk=>⟨h0,k⟩,λk=>k.2⟩
 ·rw[C4,C4];by_cases h0:x=0
  ·rw[bY (show ¬¬x=0 from λk=>k h0),cv];refine eG (op:=20) ?_ (tq _);show oo _=oo (J (x≠0\/y≠0))
   congr 1
   exact decide_eq_decide.mpr ⟨.inr,λk=>k.elim (λe=>ep h0 e) id⟩
  ·rw[b7 h0,cI];refine eG (op:=20) ?_ (tq _);show oo O=oo (J (x≠0\/y≠0));rw[b7 (.inl h0)]
 ·by_cases c:x<y
  ·rw[b7 c];have e:fS 21 x y=x:=Int.min_eq_left aq;exact eG (op:=21) e.symm (by rw[e];exact hx)
  ·rw[bY c];have e:fS 21 x y=y:=Int.min_eq_right aq;exact eG (op:=21) e.symm (by rw[e];exact hy)
 ·by_cases c:y<x
  ·rw[b7 c];have e:fS 22 x y=x:=Int.max_eq_left aq;exact eG (op:=22) e.symm (by rw[e];exact hx)
  ·rw[bY c];have e:fS 22 x y=y:=Int.max_eq_right aq;exact eG (op:=22) e.symm (by rw[e];exact hy)
def lJ(a:aL)(k:Nat):Int:=a.ah+(k:Int)*a.ak
def cnt(a:aL):Nat:=(bZ a).toNat
def gD{a:aL}(h:NN a):bZ a=(cnt a:Int):=by have:=size_pos h;unfold cnt;omega
def iS{a:aL}(h:NN a):1<=cnt a:=by have:=size_pos h;unfold cnt;omega
def acU{a:aL}(h:NN a){k:Nat}(hk:k<cnt a):a.ah<=lJ a k/\lJ a k<=a.ag:=by
 have e:=gD h;rw[Ap h]at e;have hs:=h.s0;have k0:0<=(k:Int)*a.ak:=zJ aq hs;unfold lJ;rcases h.st with ⟨h1,h2⟩|⟨h1,h2,h3⟩
 ·simp_all
 ·rw[AJ]at e;have:(k:Int)*a.ak<=(a.ag-a.ah)/a.ak*a.ak:=zL aq hs;rw[wu (wZ h3)]at this;omega
def ic{a:aL}(h:NN a)(x:Int):bU a x↔∃k:Nat,k<cnt a/\x=lJ a k:=by
 constructor
 ·rintro⟨h1,h2,q,hq⟩;have e:=gD h;rw[Ap h]at e;rcases h.st with ⟨k1,k2⟩|⟨k1,k2,k3⟩
  ·exact⟨0,iS h,by unfold lJ;omega⟩
  ·rw[AJ]at e;rw[zO]at hq;have q0:0<=q:=Decidable.byContradiction λc=>by
    have:q*a.ak<= -1*a.ak:=zL aq aq;omega
   have q1:q<=(a.ag-a.ah)/a.ak:=Int.le_ediv_of_mul_le aq aq;refine⟨q.toNat,aq,?_⟩;unfold lJ;rw[show ((q.toNat:Nat):Int)=q by omega,<-hq];omega
 ·rintro⟨k,hk,rfl⟩;obtain⟨h1,h2⟩:=acU h hk;exact⟨h1,h2,by unfold lJ;rw[show a.ah+(k:Int)*a.ak-a.ah=(k:Int)*a.ak by omega];exact xF ..⟩
def tj{a:aL}(h:NN a){k:Nat}(hk:k<cnt a):cC (lJ a k):=Zc (.inr h) ((ic h _).mpr ⟨k,hk,rfl⟩)
def oC{a:aL}(h:NN a){k:Nat}(hk:k<cnt a):GZ a (k:Int)=lJ a k:=by
 have:=acU h hk;have:=h.lo;have:=h.hi;unfold GZ;unfold lJ at*;rw[aM (n:=(k:Int)*a.ak),aM]
def sY(op:Int)(a b:aL)(y:Int):Prop:=∃x z,bU a x/\bU b z/\y=fS op x z
def pref(op:Int)(a b:aL)(i:Nat)(l:aa Int):Prop:=(∀y,y∈l↔∃k,k<i/\∃j,j<cnt b/\y=fS op (lJ a k) (lJ b j))/\zR l=i*cnt b/\∀y∈l,cC y
def anK(op:Int)(a b:aL)(i j:Nat)(l:aa Int):Prop:=(∀y,y∈l↔(∃k,k<i/\∃m,m<cnt b/\y=fS op (lJ a k) (lJ b m))\/∃m,m<j/\y=fS op (lJ a i) (lJ b m))/\zR l=i*cnt b+j/\∀y∈l,cC y
def Xy{op:Int}{a b:aL}{i:Nat}{l:aa Int}(h:anK op a b i (cnt b) l):pref op a b (i+1) l:=by
 refine⟨λy=>(h.1 y).trans ⟨?_,?_⟩,by rw[h.2.1,zX,yL],h.2.2⟩
 ·grind
 ·rintro⟨k,hk,m,hm,e⟩;rcases xo.mp hk with c|rfl
  ·exact .inl ⟨k,c,m,hm,e⟩
  ·exact .inr ⟨m,hm,e⟩
def abJ{op:Int}{a b c:aL}(ho:binop op)(ha:NN a)(hb:NN b)(hs:cnt a*cnt b<=1000000){i:Nat}(hi:i<cnt a){l:aa Int}(hl:pref op a b i l):
  (∃l',uF (jX.mk op l i 0 a b c)=V (jX.mk op l' i (cnt b:Nat) a b c)/\pref op a b (i+1) l')\/
  (∃l' j,j<cnt b/\uF (jX.mk op l i 0 a b c)=V (jX.mk op l' i (j:Nat) a b c)/\¬cC (fS op (lJ a i) (lJ b j))):=by
 have hcb:cnt b<=1000000:=zG (Nat.le_mul_of_pos_left _ (iS ha)) hs;have hlen:(i+1)*cnt b<=1000000:=zG (yl _ hi) hs;rw[zX,yL]at hlen;obtain⟨j,l',e,hI,h⟩:=me (rnd:=IY) (cnt b) (λj (l:aa Int)=>jX.mk op l i (j:Nat) a b c) (λj l=>anK op a b i j l) (λj l=>¬cC (fS op (lJ a i) (lJ b j)))
  (λj l hj hI=>by
   obtain⟨v,ev,hv⟩:=mJ (tj ha hi) (tj hb hj) ho;unfold IY;rw[eE (.inr hb),gD hb];simp only;rw[om,cI,oC ha hi,oC hb hj,ev];simp only;by_cases hr:cC (fS op (lJ a i) (lJ b j))
   ·left;rw[b7 hr];rw[bJ (by rw[zh,hI.2.1];simp;omega),jG hj hcb,hv hr];refine⟨_,rfl,λy=> ?_,by rw[zh,hI.2.1];simp;omega,λy hy=> ?_⟩
    ·rw[zP,zo,hI.1 y];constructor
     ·rintro((h|⟨m,hm,h⟩)|rfl)
      ·simp_all
      ·exact .inr ⟨m,aq,h⟩
      ·exact .inr ⟨j,aq,rfl⟩
     ·rintro(h|⟨m,hm,h⟩)
      ·simp_all
      ·rcases xo.mp hm with c|rfl
       ·exact .inl (.inr ⟨m,c,h⟩)
       ·omega
    ·rcases zP.mp hy with hy|hy
     ·exact hI.2.2 y hy
     ·simp_all
   ·right;rw[bY hr];exact⟨rfl,hr⟩)
  (λl hI=>by
   unfold IY;rw[eE (.inr hb),gD hb];simp only;rw[fO];rfl) (b:=l) ⟨λy=>(hl.1 y).trans ⟨.inl,λh=>h.elim id λ⟨m,hm,_⟩=>ep hm (y8 _)⟩,by rw[hl.2.1];rfl,hl.2.2⟩
 rcases h with rfl|⟨hj,h⟩
 ·exact .inl ⟨l',e,Xy hI⟩
 ·exact .inr ⟨l',j,hj,e,h⟩
def DF{op:Int}{a b:aL}(ho:binop op)(ha:NN a)(hb:NN b)(hs:cnt a*cnt b<=1000000):
  ((∀y,sY op a b y->cC y)/\∃c,Yy op a b=V (c,0)/\dA (sY op a b) c)\/((¬∀y,sY op a b y->cC y)/\Yy op a b=V (aL.mk 0 0 0,3)):=by
 have hca:cnt a<=1000000:=zG (Nat.le_mul_of_pos_right _ (iS hb)) hs;unfold Yy;obtain⟨i,l,e,hI,h⟩:=me (rnd:=AR) (cnt a) (λi (l:aa Int)=>qk.mk op l (i:Nat) a b (aL.mk 0 0 0)) (λi l=>pref op a b i l) (λi l=>∃l' j,j<cnt b/\uF (jX.mk op l i 0 a b (aL.mk 0 0 0))=V (jX.mk op l' i (j:Nat) a b (aL.mk 0 0 0))/\¬cC (fS op (lJ a i) (lJ b j)))
  (λi l hi hI=>by
   unfold AR;rw[eE (.inr ha),gD ha];simp only;rw[om,cI];rcases abJ (c:=aL.mk 0 0 0) ho ha hb hs hi hI with ⟨l',e,h⟩|⟨l',j,hj,e,h⟩
   ·left;rw[e];simp only;rw[eE (.inr hb),gD hb];simp only;rw[fO,cv,jG hi hca];exact⟨l',rfl,h⟩
   ·right;refine⟨?_,l',j,hj,e,h⟩;rw[e];simp only;rw[eE (.inr hb),gD hb];simp only;obtain⟨v,ev,hv⟩:=mJ (tj ha hi) (tj hb hj) ho;rw[om,cI,oC ha hi,oC hb hj,ev];rw[bY h];rfl)
  (λl hI=>by
   unfold AR;rw[eE (.inr ha),gD ha];simp only;rw[fO];rfl) (b:=[]) ⟨λy=>⟨λh=>ep h (by simp),λ⟨k,hk,_⟩=>ep hk (y8 _)⟩,by simp,λy hy=>ep hy (by simp)⟩
 have e:bI AR (qk.mk op [] 0 a b (aL.mk 0 0 0))=V (qk.mk op l (i:Nat) a b (aL.mk 0 0 0)):=e;rw[show II=bI AR from rfl,e];simp only;rw[eE (.inr ha),gD ha];simp only;rcases h with rfl|⟨hi,l',j,hj,e1,h⟩
 ·left;have mem:∀y,y∈l↔sY op a b y:=λy=>(hI.1 y).trans ⟨λ⟨k,hk,m,hm,e⟩=>⟨_,_,(ic ha _).mpr ⟨k,hk,rfl⟩,(ic hb _).mpr ⟨m,hm,rfl⟩,e⟩,λ⟨x,z,hx,hz,e⟩=>by
   obtain⟨k,hk,rfl⟩:=(ic ha _).mp hx;obtain⟨m,hm,rfl⟩:=(ic hb _).mp hz;exact⟨k,hk,m,hm,e⟩⟩
  rw[fO,cv];have hne:l≠[]:=λe=>by
   have:=hI.2.1;have:=Nat.mul_pos (iS ha) (iS hb);simp_all
  obtain⟨c,e2,hc⟩:=Lc hne (by rw[hI.2.1];exact hs) hI.2.2;rw[e2];exact⟨λy hy=>hI.2.2 y ((mem y).mpr hy),c,rfl,hc.congr mem⟩
 ·right;refine⟨λk=>h (k _ ⟨_,_,(ic ha _).mpr ⟨i,hi,rfl⟩,(ic hb _).mpr ⟨j,hj,rfl⟩,rfl⟩),?_⟩;rw[om,cI,e1];simp only;rw[eE (.inr hb),gD hb];simp only;obtain⟨v,ev,hv⟩:=mJ (tj ha hi) (tj hb hj) ho;rw[om,cI,oC ha hi,oC hb hj,ev];rw[bY h];rfl
def Xn{a:aL}(h:NN a)(hs:cnt a<=1000000):Zt a=V ((zN (cnt a)).map (lJ a)):=by
 unfold Zt;rw[lC (.inr h),gD h];simp only;have e:bI Bk (qj.mk [] (cnt a:Nat) 0 a)=V (qj.mk ((zN (cnt a)).map (lJ a)) (cnt a:Nat) (cnt a:Nat) a):=by
  obtain⟨l,e,hl⟩:=cH (rnd:=Bk) (cnt a) (λi (l:aa Int)=>qj.mk l (cnt a:Nat) (i:Nat) a) (λi l=>l=(zN i).map (lJ a))
   (λi l hi hl=>by
    subst hl;unfold Bk;simp only;have:=oC h hi;unfold GZ at this;rw[om,cI,this,bJ (by simp;omega),jG hi hs];exact⟨_,rfl,by rw[List.range_succ,zM];rfl⟩)
   (λl hl=>by
    unfold Bk;simp only;rw[fO];rfl) (b:=[]) rfl
  simp_all
 rw[show Ls=bI Bk from rfl,e];simp
def rM(a:aL):zR ((zN (cnt a)).map (lJ a))=cnt a:=by simp
def PZ(a:aL){k:Nat}(h:k<cnt a):((zN (cnt a)).map (lJ a))[k]! =lJ a k:=by
 rw[getElem!_pos _ k (by rw[rM];exact h),yM,List.getElem_range]
def NB(op:Int):Prop:=op=11\/op=12\/op=21\/op=22
def Xq{op x y:Int}(hx:cC x)(hy:cC y)(ho:NB op):cC (fS op x y):=by
 rcases ho with rfl|rfl|rfl|rfl
 ·exact(Sb hx).1
 ·show cC (if y=0 then 0 else x-y*oS x y);by_cases h0:y=0
  ·simp_all
  ·rw[bN h0];exact(Q4 hy h0).1
 ·show cC (min x y);grind
 ·show cC (max x y);grind
def aef(op:Int)(a b:aL)(i j:Nat)(y:Int):Prop:=(∃k,k<i/\∃m,m<cnt b/\y=fS op (lJ a k) (lJ b m))\/∃m,m<j/\y=fS op (lJ a i) (lJ b m)
def aaj{op:Int}{a b c:aL}(ho:NB op)(ha:NN a)(hb:NN b)(hs:cnt b<=1000000){i:Nat}(hi:i<cnt a){o:aL}{l:aa Int}{n t:Int}(hr:ni (aef op a b i 0) o)(hv:NV o):
  ∃o',DU (o9.mk op (lJ a i) l n t ((zN (cnt b)).map (lJ b)) (cnt b:Nat) 0 b c o)=V (o9.mk op (lJ a i) l n t ((zN (cnt b)).map (lJ b)) (cnt b:Nat) (cnt b:Nat) b c o')/\ni (aef op a b (i+1) 0) o'/\NV o':=by
 obtain⟨o',e,hI,hv'⟩:=cH (rnd:=Kh) (cnt b) (λj (o:aL)=>o9.mk op (lJ a i) l n t ((zN (cnt b)).map (lJ b)) (cnt b:Nat) (j:Nat) b c o) (λj o=>ni (aef op a b i j) o/\NV o)
  (λj o hj hI=>by
   have hR:=Xq (tj ha hi) (tj hb hj) ho;unfold Kh;simp only;rw[om,cI,rM,gV,zg,bJ ⟨trivial,hj⟩,PZ b hj,ajE (tj ha hi) (tj hb hj) ho];simp only;rw[j8 hI.2 (.inr (show NN (iq (fS op (lJ a i) (lJ b j)))from NN.one hR.1 hR.2)),jG hj hs];refine⟨_,rfl,(hI.1.join (KR _) hI.2 (qu hR)).congr λy=> ?_,fh hI.2 (qu hR)⟩;constructor
   ·rintro((h|⟨m,hm,h⟩)|rfl)
    ·exact .inl h
    ·exact .inr ⟨m,aq,h⟩
    ·exact .inr ⟨j,aq,rfl⟩
   ·rintro(h|⟨m,hm,h⟩)
    ·exact .inl (.inl h)
    ·rcases xo.mp hm with c|rfl
     ·exact .inl (.inr ⟨m,c,h⟩)
     ·exact .inr h)
  (λo hI=>by
   unfold Kh;simp only;rw[fO];rfl) (b:=o) ⟨hr,hv⟩
 refine⟨o',e,hI.congr λy=> ?_,hv'⟩;constructor
 ·rintro(⟨k,hk,h⟩|⟨m,hm,h⟩)
  ·exact .inl ⟨k,aq,h⟩
  ·exact .inl ⟨i,aq,m,hm,h⟩
 ·rintro(⟨k,hk,h⟩|⟨m,hm,_⟩)
  ·rcases xo.mp hk with c|rfl
   ·exact .inl ⟨k,c,h⟩
   ·obtain⟨m,hm,h⟩:=h;exact .inr ⟨m,hm,h⟩
  ·omega
def Rj{op:Int}{a b:aL}(ho:NB op)(ha:NN a)(hb:NN b)(hs:cnt a*cnt b<=4096):∃c,vV op a b=V c/\dA (sY op a b) c:=by
 have hca:cnt a<=4096:=zG (Nat.le_mul_of_pos_right _ (iS hb)) hs;have hcb:cnt b<=4096:=zG (Nat.le_mul_of_pos_left _ (iS ha)) hs;unfold vV;rw[lC (.inr ha),lC (.inr hb),gD ha,gD hb];simp only;rw[bY (show ¬(4096:Int)<((cnt a:Nat):Int)by omega),bY (show ¬(4096:Int)<((cnt b:Nat):Int)by omega),cv,cv,aM,fO,cv,Xn ha aq];simp only;rw[rM];obtain⟨o,e,hI,hv⟩:=cH (rnd:=Bb) (cnt a) (λi (o:aL)=>qP.mk op ((zN (cnt a)).map (lJ a)) (cnt a:Nat) (i:Nat) b (aL.mk 0 0 0) o) (λi o=>ni (aef op a b i 0) o/\NV o)
  (λi o hi hI=>by
   unfold Bb;simp only;rw[om,cI,rM,gV,zg,bJ ⟨trivial,hi⟩,PZ a hi,Xn hb aq];simp only;rw[rM];obtain⟨o',e,h1,h2⟩:=aaj (c:=aL.mk 0 0 0) (l:=(zN (cnt a)).map (lJ a)) (n:=(cnt a:Nat)) (t:=(i:Nat)) ho ha hb aq hi hI.1 hI.2;rw[e];simp only;rw[fO,cv,jG hi aq];exact⟨o',rfl,h1,h2⟩)
  (λo hI=>by
   unfold Bb;simp only;rw[fO];rfl) (b:=cL) ⟨.none λy h=>by
    rcases h with ⟨k,hk,_⟩|⟨m,hm,_⟩
    ·omega
    ·exact ep hm (y8 _), .inl rfl⟩
 have e:bI Bb (qP.mk op ((zN (cnt a)).map (lJ a)) (cnt a:Nat) 0 b (aL.mk 0 0 0) jC)=V (qP.mk op ((zN (cnt a)).map (lJ a)) (cnt a:Nat) (cnt a:Nat) b (aL.mk 0 0 0) o):=e;rw[show KT=bI Bb from rfl,e];simp only;rw[fO,cv];refine⟨o,rfl,?_⟩;have mem:∀y,aef op a b (cnt a) 0 y↔sY op a b y:=λy=>⟨λh=>by
  rcases h with ⟨k,hk,m,hm,e⟩|⟨m,hm,_⟩
  ·exact⟨_,_,(ic ha _).mpr ⟨k,hk,rfl⟩,(ic hb _).mpr ⟨m,hm,rfl⟩,e⟩
  ·exact ep hm (y8 _),λ⟨x,z,hx,hz,e⟩=>by
  obtain⟨k,hk,rfl⟩:=(ic ha _).mp hx;obtain⟨m,hm,rfl⟩:=(ic hb _).mp hz;exact .inl ⟨k,hk,m,hm,e⟩⟩
 rcases hI.congr mem with ⟨_,k⟩|k
 ·exact ep ⟨_,_,(ic ha _).mpr ⟨0,iS ha,rfl⟩,(ic hb _).mpr ⟨0,iS hb,rfl⟩,rfl⟩ (k (fS op (lJ a 0) (lJ b 0)))
 ·exact k
def abQ{op:Int}{a b:aL}(ha:NN a)(hb:NN b)(hs:¬cnt a*cnt b<=4096):vV op a b=Zl op a b:=by
 unfold vV;rw[lC (.inr ha),lC (.inr hb),gD ha,gD hb];simp only;by_cases c1:(4096:Int)<((cnt a:Nat):Int)
 ·rw[b7 c1,cI];grind
 ·rw[bY c1,cv];by_cases c2:(4096:Int)<((cnt b:Nat):Int)
  ·rw[b7 c2,cI];grind
  ·have hb':((cnt a:Nat):Int)*((cnt b:Nat):Int)<=4096*4096:=yZ aq aq aq aq;have hp:(4096:Int)<((cnt a:Nat):Int)*((cnt b:Nat):Int):=by rw[<-wJ];omega
   rw[bY c2,cv,aM,b7 hp,cI];grind
instance (op:Int):Decidable (binop op):=inferInstanceAs (Decidable (_/\_))
def kf(op:Int):CX op=J (binop op):=by
 unfold CX;by_cases h:binop op
 ·obtain⟨o1,o2⟩:=h;have cases15:op=8\/op=9\/op=10\/op=11\/op=12\/op=13\/op=14\/op=15\/op=16\/op=17\/op=18\/op=19\/op=20\/op=21\/op=22:=aq;rcases cases15 with rfl|rfl|rfl|rfl|rfl|rfl|rfl|rfl|rfl|rfl|rfl|rfl|rfl|rfl|rfl<;>rfl
 ·have k:∀n:Int,8<=n->n<=22->¬op=n:=λn h1 h2 e=>h (by unfold binop;omega);rw[show J (binop op)=G from bY h];rw[bY (k 8 (by decide) (by decide)),bY (k 9 (by decide) (by decide)),bY (k 10 (by decide) (by decide)),bY (k 11 (by decide) (by decide)),bY (k 12 (by decide) (by decide)),
   bY (k 13 (by decide) (by decide)),bY (k 14 (by decide) (by decide)),bY (k 15 (by decide) (by decide)),bY (k 16 (by decide) (by decide)),bY (k 17 (by decide) (by decide)),
   bY (k 18 (by decide) (by decide)),bY (k 19 (by decide) (by decide)),bY (k 20 (by decide) (by decide)),bY (k 21 (by decide) (by decide)),bY (k 22 (by decide) (by decide))]
  rfl
def HA{a b:aL}(hb:NN b):((cnt a:Nat):Int)<=(4096:Int)/((cnt b:Nat):Int)↔cnt a*cnt b<=4096:=by
 have:=iS hb;rw[Int.le_ediv_iff_mul_le aq,<-wJ];omega
def oT{op:Int}{a b:aL}(ho:binop op)(ha:NN a)(hb:NN b)(hs:cnt a*cnt b<=4096):ou op a b=Yy op a b:=by
 have:=iS hb;unfold ou;rw[gj,gj,eo (.inr ha),eo (.inr hb),show GR op=CX op from rfl,kf,b7 ho];rw[gZ ha,gZ hb,eE (.inr ha),eE (.inr hb),gD ha,gD hb];simp only;have q0:0<=(4096:Int)/((cnt b:Nat):Int):=zS aq aq;have q1:(4096:Int)/((cnt b:Nat):Int)<=4096:=yo _ aq;rw[bJ (show ¬@Eq Int ((cnt b:Nat):Int) 0 by omega),kG,aM,b7 ((HA hb).mpr hs),cI];grind
def adL(a0:Int)(a1 a2:aL):af (aL×Int):=
 bif J (a0=8)then uT a0 a1 a2 else bif J (a0=9)then uT a0 a1 a2 else bif J (a0=10)then uT a0 a1 a2 else bif J (a0=11)then
  (bif(J (0<=a1.ah)&&J (0<=a2.ah))then jm 0 (max a1.ah.natAbs a1.ag.natAbs:Nat) 1 else jm (-((max a1.ah.natAbs a1.ag.natAbs:Nat):Int)) (max a1.ah.natAbs a1.ag.natAbs:Nat) 1)
 else bif J (a0=12)then jm (if a2.ah<0 then a2.ah+1 else 0) (if 0<a2.ag then a2.ag-1 else 0) 1
 else bif J (a0=21)then(match m41 (cF a1 a2) (min a1.ag a2.ag)with|I=>I|V c=>V (c,0))
 else bif J (a0=22)then(match ZC (cF a1 a2) (max a1.ah a2.ah-1)with|I=>I|V c=>V (c,0))
 else(match acf a0 a1 a2 with|I=>I|V c=>V (c,0))
def vD{op:Int}{a b:aL}(ho:binop op)(ha:NN a)(hb:NN b)(hs:¬cnt a*cnt b<=4096):ou op a b=adL op a b:=by
 have:=iS hb;have r1:=ha.tC;have r2:=ha.CA;have r3:=hb.tC;have r4:=hb.CA;obtain⟨a1,a2⟩:=r1;obtain⟨a3,a4⟩:=r2;obtain⟨b1,b2⟩:=r3;obtain⟨b3,b4⟩:=r4;unfold ou adL;rw[gj,gj,eo (.inr ha),eo (.inr hb),show GR op=CX op from rfl,kf,b7 ho];simp only;rw[gZ ha,gZ hb,eE (.inr ha),eE (.inr hb),gD ha,gD hb];simp only;have q0:0<=(4096:Int)/((cnt b:Nat):Int):=zS aq aq;have q1:(4096:Int)/((cnt b:Nat):Int)<=4096:=yo _ aq;rw[bJ (show ¬@Eq Int ((cnt b:Nat):Int) 0 by omega),kG,aM (n:=(4096:Int)/((cnt b:Nat):Int)),bY (λk=>hs ((HA hb).mp k)),cv];have cases15:op=8\/op=9\/op=10\/op=11\/op=12\/op=13\/op=14\/op=15\/op=16\/op=17\/op=18\/op=19\/op=20\/op=21\/op=22:=by
  obtain⟨o1,o2⟩:=ho;omega
 have ez:(bif J (0<=a.ah)then some (J (0<=b.ah))else some false)=some (J (0<=a.ah)&&J (0<=b.ah)):=by cases J (0<=a.ah)<;>rfl
 rcases cases15 with rfl|rfl|rfl|rfl|rfl|rfl|rfl|rfl|rfl|rfl|rfl|rfl|rfl|rfl|rfl
 all_goals simp only[Int.reduceEq,CC,cv]
 ·cases uT 8 a b<;>rfl
 ·cases uT 9 a b<;>rfl
 ·cases uT 10 a b<;>rfl
 ·rw[uK ha.tC,uK ha.CA,ez];by_cases c:((a.ah.natAbs:Nat):Int)<((a.ag.natAbs:Nat):Int)
  ·rw[b7 c,cI,aM,xW,Nat.max_eq_right aq];cases (J (0<=a.ah)&&J (0<=b.ah))with
   |true=>(simp only;generalize jm _ _ _=z;cases z<;>rfl)
   |false=>(simp only[cv];generalize jm _ _ _=z;cases z<;>rfl)
  ·rw[bY c,cv,aM,xW,Nat.max_eq_left aq];cases (J (0<=a.ah)&&J (0<=b.ah))with
   |true=>(simp only;generalize jm _ _ _=z;cases z<;>rfl)
   |false=>(simp only[cU];generalize jm _ _ _=z;cases z<;>rfl)
 ·rw[aM (n:=b.ah+1),aM (n:=b.ag-1)];by_cases c:b.ah<0<;>by_cases d:0<b.ag
  ·rw[b7 c,b7 d,bJ c,bJ d];(simp only[cU];generalize jm _ _ _=z;cases z<;>rfl)
  ·rw[b7 c,bY d,bJ c,bN d];(simp only[cU];generalize jm _ _ _=z;cases z<;>rfl)
  ·rw[bY c,b7 d,bN c,bJ d];(simp only[cU];generalize jm _ _ _=z;cases z<;>rfl)
  ·rw[bY c,bY d,bN c,bN d];(simp only[cU];generalize jm _ _ _=z;cases z<;>rfl)
 ·rfl
 ·rfl
 ·rfl
 ·rfl
 ·rfl
 ·rfl
 ·rfl
 ·rfl
 ·obtain⟨v,ev,hv⟩:=mJ (op:=21) ha.CA hb.CA ⟨by decide,by decide⟩;have hv:v=min a.ag b.ag:=hv (Xq ha.CA hb.CA (.inr (.inr (.inl rfl))));rw[ev,gF (.inr ha) (.inr hb)];simp only;rw[hv];cases m41 (cF a b) (min a.ag b.ag)<;>rfl
 ·obtain⟨v,ev,hv⟩:=mJ (op:=22) ha.tC hb.tC ⟨by decide,by decide⟩;have hv:v=max a.ah b.ah:=hv (Xq ha.tC hb.tC (.inr (.inr (.inr rfl))));rw[ev,gF (.inr ha) (.inr hb)];simp only;rw[hv,aM];cases ZC (cF a b) (max a.ah b.ah-1)<;>rfl
def ae5{op:Int}{a b:aL}(ho:NB op)(ha:NN a)(hb:NN b):∃c,vV op a b=V c/\ou op a b=V (c,0)/\NV c:=by
 have hbin:binop op:=by unfold binop;rcases ho with rfl|rfl|rfl|rfl<;>decide
 have r1:=ha.tC;have r2:=ha.CA;have r3:=hb.tC;have r4:=hb.CA;by_cases hs:cnt a*cnt b<=4096
 ·obtain⟨c,e1,h1⟩:=Rj ho ha hb hs;have hR:∀y,sY op a b y->cC y:=λy ⟨x,z,hx,hz,e⟩=>by rw[e];exact Xq (Zc (.inr ha) hx) (Zc (.inr hb) hz) ho
  rw[oT hbin ha hb hs];rcases DF hbin ha hb aq with ⟨_,d,e2,h2⟩|⟨k,_⟩
  ·rw[h2.uniq h1]at e2;exact⟨c,e1,e2, .inr (h1.valid hR)⟩
  ·simp_all
 ·rw[abQ ha hb hs,vD hbin ha hb hs];obtain⟨a1,a2⟩:=r1;obtain⟨a3,a4⟩:=r2;obtain⟨b1,b2⟩:=r3;obtain⟨b3,b4⟩:=r4;unfold Zl adL;rcases ho with rfl|rfl|rfl|rfl
  all_goals simp only[Int.reduceEq,CC,cv]
  ·rw[nI ha.tC,nI ha.CA];have em:(if((a.ah.natAbs:Nat):Int)<((a.ag.natAbs:Nat):Int)then((a.ag.natAbs:Nat):Int)else((a.ah.natAbs:Nat):Int))=((max a.ah.natAbs a.ag.natAbs:Nat):Int):=by split<;>omega
   rw[em];have ez:(bif J (0<=a.ah)then some (J (0<=b.ah))else some false)=some (J (0<=a.ah)&&J (0<=b.ah)):=by cases J (0<=a.ah)<;>rfl
   rw[ez];simp only;have hm:((max a.ah.natAbs a.ag.natAbs:Nat):Int)<=1099511627776:=aq;generalize max a.ah.natAbs a.ag.natAbs=m at*;rw[aM,xW,pz aq aq aq,pz aq aq aq,mK ⟨aq,aq⟩ ⟨aq,aq⟩ aq,mK ⟨aq,aq⟩ ⟨aq,aq⟩ aq];cases (J (0<=a.ah)&&J (0<=b.ah))with
   |true=>exact⟨_,rfl,rfl, .inr (mM aq aq aq aq)⟩
   |false=>exact⟨_,rfl,rfl, .inr (mM aq aq aq aq)⟩
  ·rw[aM (n:=b.ah+1),aM (n:=b.ag-1)];rw[show (if 0<b.ah+1 then 0 else b.ah+1)=(if b.ah<0 then b.ah+1 else 0)by split<;>split<;>omega,show (if b.ag-1<0 then 0 else b.ag-1)=(if 0<b.ag then b.ag-1 else 0)by split<;>split<;>omega];rw[pz aq aq aq,mK ⟨aq,aq⟩ ⟨aq,aq⟩ aq];exact⟨_,rfl,rfl, .inr (mM aq aq aq aq)⟩
  ·rw[j8 (.inr ha) (.inr hb)];simp only;rw[show (if b.ag<a.ag then b.ag else a.ag)=min a.ag b.ag by split<;>omega];have vj:=fh (.inr ha) (.inr hb);obtain⟨l,u,e1,h1,_⟩:=Aa vj (min a.ag b.ag);obtain⟨l',e2,h2⟩:=Km vj (min a.ag b.ag);rw[e1,e2,h2.rep.uniq h1.rep];exact⟨l,rfl,rfl,h1.1⟩
  ·rw[j8 (.inr ha) (.inr hb)];simp only;rw[show (if a.ah<b.ah then b.ah else a.ah)=max a.ah b.ah by split<;>omega,aM];have vj:=fh (.inr ha) (.inr hb);obtain⟨l,u,e1,_,h1⟩:=Aa vj (max a.ah b.ah-1);obtain⟨u',e2,h2⟩:=Bx vj (max a.ah b.ah-1);rw[e1,e2,h2.rep.uniq h1.rep];exact⟨u,rfl,rfl,h1.1⟩
def ssc(a b c:Int):a-c-(b-c)=a-b:=aq
def dy{a:aL}(h:NN a):bU a a.ah:=⟨zw _,h.le,⟨0,aq⟩⟩
def gC{a:aL}(h:NN a):bU a a.ag:=⟨h.le,zw _,h.dvd⟩
def Wg{a:aL}(h:NN a):bU a (a.ah+a.ak):=⟨by have:=h.s0;omega,by have:=h.sle;omega,⟨1,aq⟩⟩
def PW(a:aL)(x:Int):Prop:=x=a.ah\/x=a.ah+a.ak\/x=a.ag
def pZ{a:aL}(h:NN a){x:Int}(hx:PW a x):bU a x:=by
 rcases hx with rfl|rfl|rfl
 ·exact dy h
 ·exact Wg h
 ·exact gC h
structure Mid (op:Int) (a b:aL) (ae:Int->Prop):Prop where
 c:∀x z,PW a x->PW b z->ae (fS op x z)
 v:∀y,ae y->sY op a b y
def FO(op:Int)(a b:aL)(y:Int):Prop:=∃x z,PW a x/\PW b z/\y=fS op x z
def anG{op:Int}{a b:aL}(ha:NN a)(hb:NN b):Mid op a b (sY op a b):=⟨λx z hx hz=>⟨x,z,pZ ha hx,pZ hb hz,rfl⟩,λ_ h=>h⟩
def aoT{op:Int}{a b:aL}(ha:NN a)(hb:NN b):Mid op a b (FO op a b):=⟨λx z hx hz=>⟨x,z,hx,hz,rfl⟩,λ_ ⟨x,z,hx,hz,e⟩=>⟨x,z,pZ ha hx,pZ hb hz,e⟩⟩
def Pq{a b:aL}(ha:NN a)(hb:NN b){ae:Int->Prop}(h:Mid 8 a b ae):dA ae (aL.mk (a.ah+b.ah) (a.ag+b.ag) (cA a.ak b.ak)):=by
 refine⟨h.c a.ah b.ah (.inl rfl) (.inl rfl),h.c a.ag b.ag (.inr (.inr rfl)) (.inr (.inr rfl)),λy hy=> ?_,mj _ _,λd hd=>jF ?_ ?_⟩
 ·obtain⟨x,z,⟨x1,x2,x3⟩,⟨z1,z2,z3⟩,rfl⟩:=h.v y hy;show a.ah+b.ah<=x+z/\x+z<=a.ag+b.ag/\cA a.ak b.ak∣x+z-(a.ah+b.ah);have:=y4 (zY (kE a.ak b.ak) x3) (zY (rK a.ak b.ak) z3);grind
 ·have:=hd _ (h.c (a.ah+a.ak) b.ah (.inr (.inl rfl)) (.inl rfl));have this:d∣a.ah+a.ak+b.ah-(a.ah+b.ah):=this
  rwa [show a.ah+a.ak+b.ah-(a.ah+b.ah)=a.ak by omega]at this
 ·have:=hd _ (h.c a.ah (b.ah+b.ak) (.inl rfl) (.inr (.inl rfl)));have this:d∣a.ah+(b.ah+b.ak)-(a.ah+b.ah):=this
  rwa [show a.ah+(b.ah+b.ak)-(a.ah+b.ah)=b.ak by omega]at this
def PL{a b:aL}(ha:NN a)(hb:NN b){ae:Int->Prop}(h:Mid 9 a b ae):dA ae (aL.mk (a.ah-b.ag) (a.ag-b.ah) (cA a.ak b.ak)):=by
 refine⟨h.c a.ah b.ag (.inl rfl) (.inr (.inr rfl)),h.c a.ag b.ah (.inr (.inr rfl)) (.inl rfl),λy hy=> ?_,mj _ _,λd hd=>jF ?_ ?_⟩
 ·obtain⟨x,z,⟨x1,x2,x3⟩,⟨z1,z2,z3⟩,rfl⟩:=h.v y hy;show a.ah-b.ag<=x-z/\x-z<=a.ag-b.ah/\cA a.ak b.ak∣x-z-(a.ah-b.ag);have k:=yA hb.dvd z3;have:=y4 (zY (kE a.ak b.ak) x3) (zY (rK a.ak b.ak) k);grind
 ·have:=hd _ (h.c (a.ah+a.ak) b.ag (.inr (.inl rfl)) (.inr (.inr rfl)));have this:d∣a.ah+a.ak-b.ag-(a.ah-b.ag):=this
  rwa [show a.ah+a.ak-b.ag-(a.ah-b.ag)=a.ak by omega]at this
 ·have k1:=hd _ (h.c a.ah b.ah (.inl rfl) (.inl rfl));have k2:=hd _ (h.c a.ah (b.ah+b.ak) (.inl rfl) (.inr (.inl rfl)));have k1:d∣a.ah-b.ah-(a.ah-b.ag):=k1;have k2:d∣a.ah-(b.ah+b.ak)-(a.ah-b.ag):=k2;have:=yA k1 k2
  rwa [show a.ah-b.ah-(a.ah-b.ag)-(a.ah-(b.ah+b.ak)-(a.ah-b.ag))=b.ak by omega]at this
def Tl{l h x z:Int}(h1:l<=x)(h2:x<=h):min (l*z) (h*z)<=x*z/\x*z<=max (l*z) (h*z):=by
 rcases Int.le_total 0 z with c|c
 ·have k1:=zL h1 c;have k2:=zL h2 c;omega
 ·have k1:=Int.mul_le_mul_of_nonpos_right h1 c;have k2:=Int.mul_le_mul_of_nonpos_right h2 c;omega
def XL(p q r s:Int):Int:=min (min p q) (min r s)
def hi4(p q r s:Int):Int:=max (max p q) (max r s)
def UC{a b:aL}{x z:Int}(hx:a.ah<=x/\x<=a.ag)(hz:b.ah<=z/\z<=b.ag):
  XL (a.ah*b.ah) (a.ah*b.ag) (a.ag*b.ah) (a.ag*b.ag)<=x*z/\x*z<=hi4 (a.ah*b.ah) (a.ah*b.ag) (a.ag*b.ah) (a.ag*b.ag):=by
 have k1:=Tl (z:=x) hz.1 hz.2;have k2:=Tl (z:=b.ah) hx.1 hx.2;have k3:=Tl (z:=b.ag) hx.1 hx.2;rw[zO b.ah x,zO b.ag x,zO z x]at k1;unfold XL hi4;omega
def aoq{P:Int->Prop}{p q r s:Int}(h1:P p)(h2:P q)(h3:P r)(h4:P s):P (XL p q r s)/\P (hi4 p q r s):=by
 have e1:XL p q r s=p\/XL p q r s=q\/XL p q r s=r\/XL p q r s=s:=by unfold XL;omega
 have e2:hi4 p q r s=p\/hi4 p q r s=q\/hi4 p q r s=r\/hi4 p q r s=s:=by unfold hi4;omega
 grind
def atk(a b:aL):aL:=aL.mk (XL (a.ah*b.ah) (a.ah*b.ag) (a.ag*b.ah) (a.ag*b.ag)) (hi4 (a.ah*b.ah) (a.ah*b.ag) (a.ag*b.ah) (a.ag*b.ag)) (cA (cA (a.ak*b.ah) (b.ak*a.ah)) (a.ak*b.ak))
def OO{a b:aL}(ha:NN a)(hb:NN b){ae:Int->Prop}(h:Mid 10 a b ae):dA ae (atk a b):=by
 have h00:ae (a.ah*b.ah):=h.c a.ah b.ah (.inl rfl) (.inl rfl);have h01:ae (a.ah*b.ag):=h.c a.ah b.ag (.inl rfl) (.inr (.inr rfl));have h10:ae (a.ag*b.ah):=h.c a.ag b.ah (.inr (.inr rfl)) (.inl rfl);have h11:ae (a.ag*b.ag):=h.c a.ag b.ag (.inr (.inr rfl)) (.inr (.inr rfl));obtain⟨q1,q2⟩:=aoq (P:=ae) h00 h01 h10 h11;have g1:cA (cA (a.ak*b.ah) (b.ak*a.ah)) (a.ak*b.ak)∣a.ak*b.ah:=zY (kE _ _) (kE _ _);have g2:cA (cA (a.ak*b.ah) (b.ak*a.ah)) (a.ak*b.ak)∣b.ak*a.ah:=zY (kE _ _) (rK _ _);have g3:cA (cA (a.ak*b.ah) (b.ak*a.ah)) (a.ak*b.ak)∣a.ak*b.ak:=rK _ _;have base:∀y,ae y->cA (cA (a.ak*b.ah) (b.ak*a.ah)) (a.ak*b.ak)∣y-a.ah*b.ah:=λy hy=>by
  obtain⟨x,z,⟨_,_,i,x3⟩,⟨_,_,j,z3⟩,rfl⟩:=h.v y hy;show _∣x*z-a.ah*b.ah;have e:x*z-a.ah*b.ah=i*(a.ak*b.ah)+j*(b.ak*a.ah)+i*j*(a.ak*b.ak):=by
   grind
  rw[e];exact y4 (y4 (zY g1 (xF ..)) (zY g2 (xF ..))) (zY g3 (xF ..))
 refine⟨q1,q2,λy hy=> ?_,mj _ _,λd hd=> ?_⟩
 ·obtain⟨x,z,hx,hz,e⟩:=h.v y hy;have k:=UC ⟨hx.1,hx.2.1⟩ ⟨hz.1,hz.2.1⟩;refine⟨by rw[e];exact k.1,by rw[e];exact k.2,?_⟩;have:=yA (base y hy) (base _ q1)
  rwa [ssc]at this
 ·have diff:∀y y',ae y->ae y'->d∣y-y':=λy y' hy hy'=>by
   have:=yA (hd y hy) (hd y' hy');grind
  have p10:ae ((a.ah+a.ak)*b.ah):=h.c _ _ (.inr (.inl rfl)) (.inl rfl);have p01:ae (a.ah*(b.ah+b.ak)):=h.c _ _ (.inl rfl) (.inr (.inl rfl));have p11:ae ((a.ah+a.ak)*(b.ah+b.ak)):=h.c _ _ (.inr (.inl rfl)) (.inr (.inl rfl));have d1:=diff _ _ p10 h00;rw[zU,Int.add_comm (a.ah*b.ah),Int.add_sub_cancel]at d1;have d2:=diff _ _ p01 h00;rw[xE,Int.add_comm (a.ah*b.ah),Int.add_sub_cancel,zO]at d2;have d3:=yA (diff _ _ p11 p10) d2;rw[xE (a.ah+a.ak),Int.add_comm ((a.ah+a.ak)*b.ah),Int.add_sub_cancel,zU,zO b.ak a.ah,Int.add_comm (a.ah*b.ak),Int.add_sub_cancel]at d3;exact jF (jF d1 d2) d3
def gN(a:aL):aa Int:=[a.ah,a.ah+a.ak,a.ag]
def o4(a:aL)(x:Int):PW a x↔∃k,k<3/\x=(gN a)[k]! :=by
 constructor
 ·rintro(rfl|rfl|rfl)
  ·exact⟨0,aq,rfl⟩
  ·exact⟨1,aq,rfl⟩
  ·exact⟨2,aq,rfl⟩
 ·rintro⟨k,hk,rfl⟩;rcases (show k=0\/k=1\/k=2 by omega)with rfl|rfl|rfl
  ·exact .inl rfl
  ·exact .inr (.inl rfl)
  ·exact .inr (.inr rfl)
def HI{a:aL}(h:NN a){k:Nat}(hk:k<3):cC (gN a)[k]! :=Zc (.inr h) (pZ h ((o4 a _).mpr ⟨k,hk,rfl⟩))
def prC(op:Int)(a b:aL)(i j:Nat)(l:aa Int):Prop:=(∀y,y∈l↔(∃k,k<i/\∃m,m<3/\y=fS op (gN a)[k]! (gN b)[m]!)\/∃m,m<j/\y=fS op (gN a)[i]! (gN b)[m]!)/\zR l=i*3+j/\∀y∈l,cC y
def akO{op:Int}{a b:aL}{i:Nat}{l:aa Int}(h:prC op a b i 3 l):prC op a b (i+1) 0 l:=by
 refine⟨λy=>(h.1 y).trans ⟨?_,?_⟩,by rw[h.2.1];omega,h.2.2⟩
 ·rintro(⟨k,hk,m,hm,e⟩|⟨m,hm,e⟩)
  ·exact .inl ⟨k,aq,m,hm,e⟩
  ·exact .inl ⟨i,aq,m,hm,e⟩
 ·rintro(⟨k,hk,m,hm,e⟩|⟨m,hm,e⟩)
  ·rcases xo.mp hk with c|rfl
   ·exact .inl ⟨k,c,m,hm,e⟩
   ·exact .inr ⟨m,hm,e⟩
  ·omega
def aaA{op:Int}{a b c:aL}(ho:binop op)(ha:NN a)(hb:NN b){i:Nat}(hi:i<3){l:aa Int}(hl:prC op a b i 0 l):
  (∃l',ux (j5.mk op l (gN a) (gN b) i 0 c)=V (j5.mk op l' (gN a) (gN b) i 3 c)/\prC op a b (i+1) 0 l')\/
  (∃l' j,j<3/\ux (j5.mk op l (gN a) (gN b) i 0 c)=V (j5.mk op l' (gN a) (gN b) i (j:Nat) c)/\¬cC (fS op (gN a)[i]! (gN b)[j]!)):=by
 have ll:∀a:aL,zR (gN a)=3:=λ_=>rfl;obtain⟨j,l',e,hI,h⟩:=me (rnd:=TW) 3 (λj (l:aa Int)=>j5.mk op l (gN a) (gN b) i (j:Nat) c) (λj l=>prC op a b i j l) (λj l=>¬cC (fS op (gN a)[i]! (gN b)[j]!))
  (λj l hj hI=>by
   obtain⟨v,ev,hv⟩:=mJ (HI ha hi) (HI hb hj) ho;unfold TW;simp only;rw[om,cI,ll,ll,gV,zg,bJ ⟨trivial,hi⟩,gV,zg,bJ ⟨trivial,hj⟩,ev];simp only;by_cases hr:cC (fS op (gN a)[i]! (gN b)[j]!)
   ·left;rw[b7 hr];rw[bJ (by rw[zh,hI.2.1];simp;omega),jG hj aq,hv hr];refine⟨_,rfl,λy=> ?_,by rw[zh,hI.2.1];simp;omega,λy hy=> ?_⟩
    ·rw[zP,zo,hI.1 y];constructor
     ·rintro((h|⟨m,hm,h⟩)|rfl)
      ·exact .inl h
      ·exact .inr ⟨m,aq,h⟩
      ·exact .inr ⟨j,aq,rfl⟩
     ·rintro(h|⟨m,hm,h⟩)
      ·exact .inl (.inl h)
      ·rcases xo.mp hm with c|rfl
       ·exact .inl (.inr ⟨m,c,h⟩)
       ·omega
    ·rcases zP.mp hy with hy|hy
     ·exact hI.2.2 y hy
     ·simp_all
   ·right;rw[bY hr];exact⟨rfl,hr⟩)
  (λl hI=>by
   rfl) (b:=l) hl
 rcases h with rfl|⟨hj,h⟩
 ·exact .inl ⟨l',e,akO hI⟩
 ·exact .inr ⟨l',j,hj,e,h⟩
def ail{op:Int}{a b:aL}(ho:binop op)(ha:NN a)(hb:NN b):
  ((∀y,FO op a b y->cC y)/\∃c,uT op a b=V (c,0)/\dA (FO op a b) c)\/((¬∀y,FO op a b y->cC y)/\uT op a b=V (aL.mk 0 0 0,3)):=by
 have ll:∀a:aL,zR (gN a)=3:=λ_=>rfl;have wc:∀{a:aL},NN a->[a.ah,aj (a.ah+a.ak),a.ag]=gN a:=λ{a} h=>by
  have:=Zc (.inr h) (Wg h);rw[aM (by have:=this.1;omega) (by have:=this.2;omega)];rfl
 unfold uT;rw[wc ha,wc hb];obtain⟨i,l,e,hI,h⟩:=me (rnd:=Fu) 3 (λi (l:aa Int)=>qO.mk op l (gN a) (gN b) (i:Nat) (aL.mk 0 0 0)) (λi l=>prC op a b i 0 l) (λi l=>∃l' j,j<3/\ux (j5.mk op l (gN a) (gN b) i 0 (aL.mk 0 0 0))=V (j5.mk op l' (gN a) (gN b) i (j:Nat) (aL.mk 0 0 0))/\¬cC (fS op (gN a)[i]! (gN b)[j]!))
  (λi l hi hI=>by
   unfold Fu;simp only;rw[om,cI];rcases aaA (c:=aL.mk 0 0 0) ho ha hb hi hI with ⟨l',e,h⟩|⟨l',j,hj,e,h⟩
   ·left;rw[e];simp only;rw[fO,cv,jG hi aq];exact⟨l',rfl,h⟩
   ·right;refine⟨?_,l',j,hj,e,h⟩;rw[e];simp only;obtain⟨v,ev,hv⟩:=mJ (HI ha hi) (HI hb hj) ho;rw[om,cI,ll,ll,gV,zg,bJ ⟨trivial,hi⟩,gV,zg,bJ ⟨trivial,hj⟩,ev];rw[bY h];rfl)
  (λl hI=>by
   rfl) (b:=[]) ⟨λy=>⟨λh=>ep h (by simp),λh=>by
    rcases h with ⟨k,hk,_⟩|⟨m,hm,_⟩
    ·omega
    ·exact ep hm (y8 _)⟩,by simp,λy hy=>ep hy (by simp)⟩
 have e:bI Fu (qO.mk op [] (gN a) (gN b) 0 (aL.mk 0 0 0))=V (qO.mk op l (gN a) (gN b) (i:Nat) (aL.mk 0 0 0)):=e;rw[show JW=bI Fu from rfl,e];simp only;rcases h with rfl|⟨hi,l',j,hj,e1,h⟩
 ·left;have mem:∀y,y∈l↔FO op a b y:=λy=>(hI.1 y).trans ⟨λh=>by
   rcases h with ⟨k,hk,m,hm,e⟩|⟨m,hm,_⟩
   ·exact⟨_,_,(o4 a _).mpr ⟨k,hk,rfl⟩,(o4 b _).mpr ⟨m,hm,rfl⟩,e⟩
   ·exact ep hm (y8 _),λ⟨x,z,hx,hz,e⟩=>by
   obtain⟨k,hk,rfl⟩:=(o4 a _).mp hx;obtain⟨m,hm,rfl⟩:=(o4 b _).mp hz;exact .inl ⟨k,hk,m,hm,e⟩⟩
  have hne:l≠[]:=λe=>by
   have:=hI.2.1;simp_all
  obtain⟨c,e2,hc⟩:=Lc hne (by rw[hI.2.1];omega) hI.2.2;rw[e2];exact⟨λy hy=>hI.2.2 y ((mem y).mpr hy),c,rfl,hc.congr mem⟩
 ·right;refine⟨λk=>h (k _ ⟨_,_,(o4 a _).mpr ⟨i,hi,rfl⟩,(o4 b _).mpr ⟨j,hj,rfl⟩,rfl⟩),?_⟩;rw[om,cI,e1];simp only;obtain⟨v,ev,hv⟩:=mJ (HI ha hi) (HI hb hj) ho;rw[om,cI,ll,ll,gV,zg,bJ ⟨trivial,hi⟩,gV,zg,bJ ⟨trivial,hj⟩,ev];rw[bY h];rfl
def jN{op:Int}{a b c:aL}(ho:op=8\/op=9\/op=10)(ha:NN a)(hb:NN b)(hc:∀ae,Mid op a b ae->dA ae c)(hR:(∀y,FO op a b y->cC y)->∀y,sY op a b y->cC y):
  ((∀y,sY op a b y->cC y)/\ou op a b=V (c,0)/\NN c)\/((¬∀y,sY op a b y->cC y)/\ou op a b=V (aL.mk 0 0 0,3)):=by
 have hbin:binop op:=by unfold binop;omega
 by_cases hs:cnt a*cnt b<=4096
 ·rw[oT hbin ha hb hs];rcases DF hbin ha hb aq with ⟨h1,d,e,h2⟩|⟨h1,e⟩
  ·have k:=hc _ (anG ha hb);rw[h2.uniq k]at e;exact .inl ⟨h1,e,k.valid h1⟩
  ·exact .inr ⟨h1,e⟩
 ·have e0:ou op a b=uT op a b:=by
   rw[vD hbin ha hb hs];rcases ho with rfl|rfl|rfl<;>rfl
  rw[e0];rcases ail hbin ha hb with ⟨h1,d,e,h2⟩|⟨h1,e⟩
  ·rw[h2.uniq (hc _ (aoT ha hb))]at e;exact .inl ⟨hR h1,e,(hc _ (anG ha hb)).valid (hR h1)⟩
  ·exact .inr ⟨λk=>h1 λy hy=>k y ((aoT ha hb).v y hy),e⟩
def XX{c:aL}(h:NN c):jK c.ah c.ag c.ak=c:=by
 rw[Od h.le h.s0 h.dvd (λk=>by rcases h.st with e|e;exact e.2;omega)]
def Bn{c:aL}(h:NN c):nJ c.ah c.ag c.ak=V c:=by
 have:=h.lo;have:=h.hi
 rw[pz aq aq h.s0,XX h]
def nC{op:Int}{a b:aL}(ho:binop op)(ha:NN a)(hb:NN b){r:af (aL×Int)}
  (h:(bif J (op=9)then
   match bif bif ji (aj (a.ah+aj (0-b.ag)))then G else O then V O else V (bif ji (aj (a.ag+aj (0-b.ah)))then G else O)with
   |none=>I
   |some r5=>bif r5 then V (aL.mk 0 0 0,3)else match C3 [a.ak,b.ak]with
    |none=>I
    |some r6=>match nJ (aj (a.ah+aj (0-b.ag))) (aj (a.ag+aj (0-b.ah))) r6 with
     |none=>I
     |some r7=>V (r7,0)
  else bif J (op=8)then
   match bif bif ji (aj (a.ah+b.ah))then G else O then V O else V (bif ji (aj (a.ag+b.ag))then G else O)with
   |none=>I
   |some r8=>bif r8 then V (aL.mk 0 0 0,3)else match C3 [a.ak,b.ak]with
    |none=>I
    |some r9=>match nJ (aj (a.ah+b.ah)) (aj (a.ag+b.ag)) r9 with
     |none=>I
     |some r10=>V (r10,0)
  else bif J (op=10)then match YE a b with
   |none=>I
   |some r11=>V r11
  else bif J (op=11)then match vV op a b with
   |none=>I
   |some r12=>V (r12,0)
  else bif J (op=12)then match vV op a b with
   |none=>I
   |some r13=>V (r13,0)
  else bif J (op=21)then match vV op a b with
   |none=>I
   |some r14=>V (r14,0)
  else bif J (op=22)then match vV op a b with
   |none=>I
   |some r15=>V (r15,0)
  else match adk op a b with
   |none=>I
   |some r16=>V (r16,0))=r):uR op a b=r:=by
 unfold uR;rw[eX,eX,eo (.inr ha),eo (.inr hb),kf,b7 ho];simp only[cU];rw[eR ha.ne,eR hb.ne];simp only[cv];exact h
def sH{a b:aL}(ha:NN a)(hb:NN b):(∀y,sY 8 a b y->cC y)↔cC (a.ah+b.ah)/\cC (a.ag+b.ag):=by
 constructor
 ·intro h;exact⟨h _ ⟨_,_,dy ha,dy hb,rfl⟩,h _ ⟨_,_,gC ha,gC hb,rfl⟩⟩
 ·rintro⟨⟨h1,h2⟩,⟨h3,h4⟩⟩ y ⟨x,z,⟨x1,x2,_⟩,⟨z1,z2,_⟩,rfl⟩;exact⟨by show _<=x+z;omega,by show x+z<=_;omega⟩
def rW{a b:aL}(ha:NN a)(hb:NN b):(∀y,sY 9 a b y->cC y)↔cC (a.ah-b.ag)/\cC (a.ag-b.ah):=by
 constructor
 ·intro h;exact⟨h _ ⟨_,_,dy ha,gC hb,rfl⟩,h _ ⟨_,_,gC ha,dy hb,rfl⟩⟩
 ·rintro⟨⟨h1,h2⟩,⟨h3,h4⟩⟩ y ⟨x,z,⟨x1,x2,_⟩,⟨z1,z2,_⟩,rfl⟩;exact⟨by show _<=x-z;omega,by show x-z<=_;omega⟩
def jV{a b:aL}(ha:NN a)(hb:NN b):(∀y,sY 10 a b y->cC y)↔cC (a.ah*b.ah)/\cC (a.ah*b.ag)/\cC (a.ag*b.ah)/\cC (a.ag*b.ag):=by
 constructor
 ·intro h;exact⟨h _ ⟨_,_,dy ha,dy hb,rfl⟩,h _ ⟨_,_,dy ha,gC hb,rfl⟩,h _ ⟨_,_,gC ha,dy hb,rfl⟩,h _ ⟨_,_,gC ha,gC hb,rfl⟩⟩
 ·rintro⟨h1,h2,h3,h4⟩ y ⟨x,z,⟨x1,x2,_⟩,⟨z1,z2,_⟩,rfl⟩;have k:=UC (a:=a) (b:=b) ⟨x1,x2⟩ ⟨z1,z2⟩;obtain⟨⟨p1,p2⟩,⟨p3,p4⟩⟩:=aoq (P:=cC) h1 h2 h3 h4;exact⟨by show _<=x*z;omega,by show x*z<=_;omega⟩
def anj{x y u v:Int}(h1:x.natAbs=u.natAbs)(h2:y.natAbs=v.natAbs):cA x y=cA u v:=by
 unfold cA yD;rw[h1,h2]
def Y2(p q r s:Int):aiV ([p]++[q]++[r]++[s])=V (XL p q r s):=by
 unfold aiV;rw[bY (by simp),cv,bJ (by simp),show Jl=bI Ey from rfl];have st:∀m k,k=1\/k=2\/k=3->Ey (uh.mk ([p]++[q]++[r]++[s]) m k)=V (V (uh.mk ([p]++[q]++[r]++[s]) (min m ([p]++[q]++[r]++[s])[k.toNat]!) (k+1))):=λm k hk=>by
  unfold Ey;simp only;rw[b7 (by simp;omega),cI,bJ (by simp;omega),aM];have e:∀w:Int,(if w<m then w else m)=min m w:=λw=>by split<;>omega
  rw[e]
 rw[bR (st _ 1 (.inl rfl)),bR (st _ (1+1) (.inr (.inl rfl))),bR (st _ (1+1+1) (.inr (.inr rfl))),ct (by intro x hx;simp[Ey]at hx)];simp only;rw[bY (by simp),cv];show V (min (min (min p q) r) s)=V (XL p q r s);unfold XL
 congr 1
 omega
def YS(p q r s:Int):afP ([p]++[q]++[r]++[s])=V (hi4 p q r s):=by
 unfold afP;rw[bY (by simp),cv,bJ (by simp),show Mk=bI D7 from rfl];have st:∀m k,k=1\/k=2\/k=3->D7 (tX.mk ([p]++[q]++[r]++[s]) m k)=V (V (tX.mk ([p]++[q]++[r]++[s]) (max m ([p]++[q]++[r]++[s])[k.toNat]!) (k+1))):=λm k hk=>by
  unfold D7;simp only;rw[b7 (by simp;omega),cI,bJ (by simp;omega),aM];have e:∀w:Int,(if m<w then w else m)=max m w:=λw=>by split<;>omega
  rw[e]
 rw[bR (st _ 1 (.inl rfl)),bR (st _ (1+1) (.inr (.inl rfl))),bR (st _ (1+1+1) (.inr (.inr rfl))),ct (by intro x hx;simp[D7]at hx)];simp only;rw[bY (by simp),cv];show V (max (max (max p q) r) s)=V (hi4 p q r s);unfold hi4
 congr 1
 omega
def awL(x y:Int):(bif bif ji x then G else O then V O else V (bif ji y then G else O))=V (!(J (cC x)&&J (cC y))):=by
 rw[show ji x=J (cC x)from j6 x,show ji y=J (cC y)from j6 y];cases J (cC x)<;>cases J (cC y)<;>rfl
def fZ{op:Int}{a b:aL}(h:∀y,FO op a b y->cC y){x z:Int}(hx:PW a x)(hz:PW b z):cC (fS op x z):=h _ ⟨x,z,hx,hz,rfl⟩
def QT(op:Int)(a b:aL):Prop:=∃r,uR op a b=V r/\ou op a b=V r/\NV r.1
def aa7{a b:aL}(ha:NN a)(hb:NN b):QT 8 a b:=by
 have r1:=ha.tC;have r2:=ha.CA;have r3:=hb.tC;have r4:=hb.CA;obtain⟨a1,a2⟩:=r1;obtain⟨a3,a4⟩:=r2;obtain⟨b1,b2⟩:=r3;obtain⟨b3,b4⟩:=r4;have key:=jN (op:=8) (.inl rfl) ha hb (λae h=>Pq ha hb h) (λh=>(sH ha hb).mpr ⟨fZ h (.inl rfl) (.inl rfl),fZ h (.inr (.inr rfl)) (.inr (.inr rfl))⟩);have prog:∀r,(match V (!(J (cC (a.ah+b.ah))&&J (cC (a.ag+b.ag))))with
   |none=>I
   |some r8=>bif r8 then V (aL.mk 0 0 0,(3:Int))else match nJ (a.ah+b.ah) (a.ag+b.ag) (cA a.ak b.ak)with
     |none=>I
     |some r10=>V (r10,0))=r->uR 8 a b=r:=λr h=>nC ⟨by decide,by decide⟩ ha hb (by
  simp only[Int.reduceEq,CC,cv];rw[awL,aM (n:=a.ah+b.ah),aM (n:=a.ag+b.ag),FE ha.s0 hb.s0];exact h)
 rcases key with ⟨h1,e,hv⟩|⟨h1,e⟩
 ·obtain⟨k1,k2⟩:=(sH ha hb).mp h1;refine⟨_,prog _ ?_,e, .inr hv⟩;rw[b7 k1,b7 k2];have:=Bn hv;rw[this];rfl
 ·refine⟨_,prog _ ?_,e,RG⟩;have:(J (cC (a.ah+b.ah))&&J (cC (a.ag+b.ag)))=G:=by
   cases c1:J (cC (a.ah+b.ah))<;>cases c2:J (cC (a.ag+b.ag))<;>first|rfl|exact ep ((sH ha hb).mpr ⟨of_decide_eq_true c1,of_decide_eq_true c2⟩) h1
  rw[this];rfl
def aaD{a b:aL}(ha:NN a)(hb:NN b):QT 9 a b:=by
 have r1:=ha.tC;have r2:=ha.CA;have r3:=hb.tC;have r4:=hb.CA;obtain⟨a1,a2⟩:=r1;obtain⟨a3,a4⟩:=r2;obtain⟨b1,b2⟩:=r3;obtain⟨b3,b4⟩:=r4;have key:=jN (op:=9) (.inr (.inl rfl)) ha hb (λae h=>PL ha hb h) (λh=>(rW ha hb).mpr ⟨fZ h (.inl rfl) (.inr (.inr rfl)),fZ h (.inr (.inr rfl)) (.inl rfl)⟩);have prog:∀r,(match V (!(J (cC (a.ah-b.ag))&&J (cC (a.ag-b.ah))))with
   |none=>I
   |some r8=>bif r8 then V (aL.mk 0 0 0,(3:Int))else match nJ (a.ah-b.ag) (a.ag-b.ah) (cA a.ak b.ak)with
     |none=>I
     |some r10=>V (r10,0))=r->uR 9 a b=r:=λr h=>nC ⟨by decide,by decide⟩ ha hb (by
  rw[awL,aM (n:=0-b.ag),aM (n:=0-b.ah),aM (n:=a.ah+(0-b.ag)),aM (n:=a.ag+(0-b.ah)),FE ha.s0 hb.s0,
   show a.ah+(0-b.ag)=a.ah-b.ag by omega,show a.ag+(0-b.ah)=a.ag-b.ah by omega]
  exact h)
 rcases key with ⟨h1,e,hv⟩|⟨h1,e⟩
 ·obtain⟨k1,k2⟩:=(rW ha hb).mp h1;refine⟨_,prog _ ?_,e, .inr hv⟩;rw[b7 k1,b7 k2];have:=Bn hv;rw[this];rfl
 ·refine⟨_,prog _ ?_,e,RG⟩;have:(J (cC (a.ah-b.ag))&&J (cC (a.ag-b.ah)))=G:=by
   cases c1:J (cC (a.ah-b.ag))<;>cases c2:J (cC (a.ag-b.ah))<;>first|rfl|exact ep ((rW ha hb).mpr ⟨of_decide_eq_true c1,of_decide_eq_true c2⟩) h1
  rw[this];rfl
def aeq{a b:aL}(ha:NN a)(hb:NN b):QT 10 a b:=by
 have key:=jN (op:=10) (.inr (.inr rfl)) ha hb (λae h=>OO ha hb h) (λh=>(jV ha hb).mpr ⟨fZ h (.inl rfl) (.inl rfl),fZ h (.inl rfl) (.inr (.inr rfl)),fZ h (.inr (.inr rfl)) (.inl rfl),fZ h (.inr (.inr rfl)) (.inr (.inr rfl))⟩);have prog:uR 10 a b=YE a b:=nC ⟨by decide,by decide⟩ ha hb (by
  simp only;cases YE a b<;>rfl)
 unfold QT;rw[prog];obtain⟨v1,e1,q1⟩:=Du ha.tC hb.tC;obtain⟨v2,e2,q2⟩:=Du ha.tC hb.CA;obtain⟨v3,e3,q3⟩:=Du ha.CA hb.tC;obtain⟨v4,e4,q4⟩:=Du ha.CA hb.CA;unfold YE;rw[e1];simp only;by_cases c1:cC (a.ah*b.ah)
 ·rw[b7 c1,e2];simp only;by_cases c2:cC (a.ah*b.ag)
  ·rw[b7 c2,e3];simp only;by_cases c3:cC (a.ag*b.ah)
   ·rw[b7 c3,e4];simp only;by_cases c4:cC (a.ag*b.ag)
    ·rw[b7 c4];simp only[cI];have hr:=(jV ha hb).mpr ⟨c1,c2,c3,c4⟩;rcases key with ⟨_,e,hv⟩|⟨h1,_⟩
     ·have r1:=ha.tC;have r3:=hb.tC;obtain⟨a1,a2⟩:=r1;obtain⟨b1,b2⟩:=r3;have s1:=ha.s0;have s2:=hb.s0;have l1:=ha.sle;have l2:=hb.sle;obtain⟨w1,w2⟩:=c1;obtain⟨w3,w4⟩:=c2;obtain⟨w5,w6⟩:=c3;obtain⟨w7,w8⟩:=c4;have n1:0<=a.ak*((b.ah.natAbs:Nat):Int):=zJ s1 aq;have n2:0<=b.ak*((a.ah.natAbs:Nat):Int):=zJ s2 aq;have n3:0<=a.ak*b.ak:=zJ s1 s2;have k1:a.ak*((b.ah.natAbs:Nat):Int)<=2199023255552:=by
       have t:=zL l1 (show 0<=((b.ah.natAbs:Nat):Int)by omega);have t2:(a.ag-a.ah)*((b.ah.natAbs:Nat):Int)<=2199023255552:=by
        rcases Int.le_total 0 b.ah with c|c
        ·rw[show ((b.ah.natAbs:Nat):Int)=b.ah by omega,yC];omega
        ·rw[show ((b.ah.natAbs:Nat):Int)= -b.ah by omega,xX,yC];omega
       omega
      have k2:b.ak*((a.ah.natAbs:Nat):Int)<=2199023255552:=by
       have t:=zL l2 (show 0<=((a.ah.natAbs:Nat):Int)by omega);have t2:(b.ag-b.ah)*((a.ah.natAbs:Nat):Int)<=2199023255552:=by
        rcases Int.le_total 0 a.ah with c|c
        ·rw[show ((a.ah.natAbs:Nat):Int)=a.ah by omega,yC,zO b.ag,zO b.ah];omega
        ·rw[show ((a.ah.natAbs:Nat):Int)= -a.ah by omega,xX,yC,zO b.ag,zO b.ah];omega
       omega
      have k3:a.ak*b.ak<=4398046511104:=by
       have t:=yZ l1 l2 s2 aq;rw[yC,Int.mul_sub,Int.mul_sub]at t;omega
      rw[nI hb.tC,nI ha.tC,aM (n:=a.ak*((b.ah.natAbs:Nat):Int)),aM (n:=b.ak*((a.ah.natAbs:Nat):Int)),aM (n:=a.ak*b.ak),
       Gr n1 n2 n3,Y2,YS,q1 ⟨w1,w2⟩,q2 ⟨w3,w4⟩,q3 ⟨w5,w6⟩,q4 ⟨w7,w8⟩]
      simp only;have eg:cA (cA (a.ak*((b.ah.natAbs:Nat):Int)) (b.ak*((a.ah.natAbs:Nat):Int))) (a.ak*b.ak)=(atk a b).ak:=by
       show _=cA (cA (a.ak*b.ah) (b.ak*a.ah)) (a.ak*b.ak);rw[anj (x:=a.ak*((b.ah.natAbs:Nat):Int)) (u:=a.ak*b.ah) (by rw[Int.natAbs_mul,Int.natAbs_mul,Int.natAbs_natCast]) (y:=b.ak*((a.ah.natAbs:Nat):Int)) (v:=b.ak*a.ah) (by rw[Int.natAbs_mul,Int.natAbs_mul,Int.natAbs_natCast])]
      rw[eg];have:=Bn hv;have this:nJ (XL (a.ah*b.ah) (a.ah*b.ag) (a.ag*b.ah) (a.ag*b.ag)) (hi4 (a.ah*b.ah) (a.ah*b.ag) (a.ag*b.ah) (a.ag*b.ag)) (atk a b).ak=V _:=this;rw[this];exact⟨_,rfl,e, .inr hv⟩
     ·exact ep hr h1
    ·rcases key with ⟨h1,_⟩|⟨_,e⟩
     ·exact ep ((jV ha hb).mp h1).2.2.2 c4
     ·rw[bY c4];exact⟨_,rfl,e,RG⟩
   ·rcases key with ⟨h1,_⟩|⟨_,e⟩
    ·exact ep ((jV ha hb).mp h1).2.2.1 c3
    ·rw[bY c3];exact⟨_,rfl,e,RG⟩
  ·rcases key with ⟨h1,_⟩|⟨_,e⟩
   ·exact ep ((jV ha hb).mp h1).2.1 c2
   ·rw[bY c2];exact⟨_,rfl,e,RG⟩
 ·rcases key with ⟨h1,_⟩|⟨_,e⟩
  ·exact ep ((jV ha hb).mp h1).1 c1
  ·rw[bY c1];exact⟨_,rfl,e,RG⟩
structure Eu (x m a b u v:Int):Prop where
 a0:0<=a
 b2:2<=b
 ab:a<b
 g:yD a b=1
 du:m∣u*x-a
 dv:m∣v*x-b
 s:(0<=u/\v<=0/\b*u-a*v=m)\/(u<=0/\0<=v/\a*v-b*u=m)
def Eu.next{x m a b u v:Int}(h:Eu x m a b u v)(ha:1<a):Eu x m (b%a) a (v-b/a*u) u:=by
 have e:=yX b a;have m0:=yY b (b:=a) aq;have m1:=y7 b (b:=a) aq;refine⟨m0,aq,m1,?_,?_,h.du,?_⟩
 ·have:=rD (a:=b) (b:=a) (by have:=h.b2;omega) aq;rw[kV (by have:=h.b2;omega)]at this;rw[Int.gcd_comm,this,Int.gcd_comm];exact h.g
 ·have k:=yA h.dv (zY h.du (xF (b/a) _));grind
 ·have t1:(b%a)*u=b*u-a*(b/a*u):=by
   grind
  have t2:a*(v-b/a*u)=a*v-a*(b/a*u):=Int.mul_sub ..;have q0:0<=b/a:=zS (by have:=h.b2;omega) aq;rcases h.s with ⟨s1,s2,s3⟩|⟨s1,s2,s3⟩
  ·have:=zJ q0 s1;omega
  ·have:=zJ q0 (show 0<= -u by omega);rw[xX]at this;omega
def Eu.bd{x m a b u v:Int}(h:Eu x m a b u v): -m<=u/\u<=m:=by
 have hb:=h.b2;have ha:=h.a0;rcases h.s with ⟨s1,s2,s3⟩|⟨s1,s2,s3⟩
 ·have k1:=zJ ha (show 0<= -v by omega);rw[xX]at k1;have k2:1*u<=b*u:=zL aq s1;omega
 ·have k1:=zJ ha s2;have k2:1*(-u)<=b*(-u):=zL aq aq;simp only[xX]at k2;omega
def Eu.bv{x m a b u v:Int}(h:Eu x m a b u v)(ha:1<a): -m<=v/\v<=m:=by
 have hb:=h.b2;rcases h.s with ⟨s1,s2,s3⟩|⟨s1,s2,s3⟩
 ·have k1:=zJ (show 0<=b by omega) s1;have k2:1*(-v)<=a*(-v):=zL aq aq;simp only[xX]at k2;omega
 ·have k1:=zJ (show 0<=b by omega) (show 0<= -u by omega);rw[xX]at k1;have k2:1*v<=a*v:=zL aq s2;omega
def arE{x m a b u v:Int}(hm:m<1152921504606846976)(hbm:b<=m)(h:Eu x m a b u v):∃b' u' v',KV (oy.mk m a b u v)=V (oy.mk m 1 b' u' v')/\m∣u'*x-1/\ -m<=u'/\u'<=m:=by
 obtain⟨z,e1,⟨a',b',u',v',rfl,hI,hb⟩,hs⟩:=mq (rnd:=L9) (λp=>∃a b u v,p=oy.mk m a b u v/\Eu x m a b u v/\b<=m) (λp=>zD p.t5) (λp p' ⟨a,b,u,v,hp,hI,hbm⟩ hn=>by
  subst hp;unfold L9 at hn;simp only at hn;by_cases c:1<a
  ·have hN:=hI.next c;have q0:0<=b/a:=zS (by have:=hI.b2;omega) aq;have q1:b/a<=b:=yo _ (by have:=hI.b2;omega);have e:=yX b a;rw[zO]at e;have m0:=hN.a0;have m1:=hN.ab;have bv:=hI.bv c;have bn:=hN.bd;have hab:=hI.ab;rw[b7 c,cI,gV,kG,aM (n:=b/a),aM (n:=b/a*a),aM (n:=b-b/a*a),aM (n:=b/a*u),aM (n:=v-b/a*u)]at hn;simp only[zF.injEq]at hn;subst hn;rw[show b-b/a*a=b%a by omega];exact⟨⟨b%a,a,_,_,rfl,hN,by have:=hI.ab;omega⟩,by show (b%a).toNat<a.toNat;omega⟩
  ·rw[bY c]at hn;cases hn) ⟨a,b,u,v,rfl,h,hbm⟩
 have hle:¬1<a':=λc=>by
  refine hs (oy.mk m (aj (b'-aj (aj (b'.tdiv a')*a'))) a' (aj (v'-aj (aj (b'.tdiv a')*u'))) u') ?_;unfold L9;simp only;rw[b7 c,cI,gV]
 have a1:a'=1:=by
  have:=hI.a0;rcases (show a'=0\/a'=1 by omega)with rfl|rfl
  ·have g:=hI.g;rw[Int.gcd_zero_left]at g;have:=hI.b2;omega
  ·rfl
 subst a1;exact⟨b',u',v',e1,hI.du,hI.bd⟩
def aj9{x m:Int}(h0:0<=x)(h1:2<=m)(h2:m<1152921504606846976)(hg:yD x m=1):∃v:Int,akr x m=V v/\0<=v/\v<m/\m∣v*x-1:=by
 have m0:=yY x (b:=m) aq;have m1:=y7 x (b:=m) aq;have e:=yX x m;obtain⟨b',u',v',e1,d1,d2,d3⟩:=arE (x:=x) (m:=m) (a:=x%m) (b:=m) (u:=1) (v:=0) h2 (zw _) ⟨m0,h1,m1,by
   have:=rD (a:=x) (b:=m) h0 aq;rw[kV h0]at this;rw[Int.gcd_comm,this,hg],⟨x/m,aq⟩,⟨-1,aq⟩, .inl ⟨aq,aq,aq⟩⟩
 unfold akr;rw[gV,kV h0,e1];simp only;rw[fO,cv,gV,gV];have t:=Int.mul_tdiv_add_tmod u' m;have tb:(u'.tmod m).natAbs<m.natAbs:=by rw[Int.natAbs_tmod];exact xg _ aq
 rw[aM,kV];have ev:(u'.tmod m+m)%m=u'%m:=by
  conv=>rhs;rw[<-t]
  simp
 rw[ev];refine⟨u'%m,rfl,yY _ aq,y7 _ aq,?_⟩;have e2:=yX u' m;have:u'%m*x-1=u'*x-1-m*(u'/m*x):=by
  rw[<-yb];have:u'%m*x=u'*x-m*(u'/m)*x:=by
   rw[<-yC]
   congr 1
   omega
  omega
 rw[this];exact yA d1 (xM ..)
def adO{x m:Int}(hm:1<=m):(x.tmod m+m).tmod m=x%m/\0<=x.tmod m+m/\x.tmod m+m<2*m/\ -m<x.tmod m:=by
 have t:=Int.mul_tdiv_add_tmod x m;have tb:(x.tmod m).natAbs<m.natAbs:=by rw[Int.natAbs_tmod];exact xg _ aq
 refine⟨?_,aq,aq,aq⟩;rw[kV,Int.add_emod_right]
 conv=>rhs;rw[<-t]
 simp
def LD(X Y Z:Int->Int)(sa P M K:Int):af aL:=
 bif J (M<K)then V jC else if¬P=(0:Int)then bif J (K=aj (K+aj (aj ((aj (M-K)).tdiv P)*P)))then V (iq (X K))else V (aL.mk (Y K) (Z K) (aj (P*sa)))else I
def Hl{X Y Z:Int->Int}{sa P M K:Int}(h1:1<=sa)(h2:1<=P)(h3:0<=K)(h4:M<=4398046511104)(h5:M*sa<=4398046511104):∃c,LD X Y Z sa P M K=V c/\fC c=J (M<K):=by
 unfold LD;by_cases c:M<K
 ·rw[b7 c];exact⟨cL,rfl,kS⟩
 ·rw[bY c,cv,gV];have q0:0<=(M-K)/P:=zS aq aq;have q1:(M-K)/P<=M-K:=yo _ aq;have q2:(M-K)/P*P<=M-K:=xu _ aq;have q3:0<=(M-K)/P*P:=zJ q0 aq;rw[aM (n:=M-K),kG,aM (n:=(M-K)/P),aM (n:=(M-K)/P*P),aM (n:=K+(M-K)/P*P)];by_cases e:K=K+(M-K)/P*P
  ·rw[b7 e];refine⟨iq (X K),rfl,eR λk=> ?_⟩;have k1:X K=1:=congrArg aL.ah k;have k2:X K=0:=congrArg aL.ag k;omega
  ·rw[bY e];refine⟨_,rfl,eR λk=> ?_⟩;have k3:aj (P*sa)=0:=congrArg aL.ak k;have q5:1<=(M-K)/P:=by
    rcases (show (M-K)/P=0\/1<=(M-K)/P by omega)with z|z
    ·simp_all
    ·exact z
   have q6:1*P<=(M-K)/P*P:=zL q5 aq;have q7:P*sa<=M*sa:=zL aq aq;have q8:1*1<=P*sa:=yZ h2 h1 aq aq;rw[aM]at k3;omega
def VY(X Y Z:Int->Int)(sa P M L k:Int):af aL:=
 if¬sa=(0:Int)then if¬sa=(0:Int)then bif J (k<L)then if¬P=(0:Int)then LD X Y Z sa P M (aj (k+aj (aj ((aj (aj (aj (L-k)+P)-1)).tdiv P)*P)))else I else LD X Y Z sa P M k else I else I
def EA{X Y Z:Int->Int}{sa P M L k:Int}(h1:1<=sa)(h2:1<=P)(h3:0<=k)(hk:k<P)(hP:P<=4398046511104)(h4:M<=4398046511104)(h5:M*sa<=4398046511104)(hL:0<=L)(hL2:L<=4398046511104):
  ∃c,VY X Y Z sa P M L k=V c/\(fC c=G↔∃j,L<=j/\j<=M/\P∣j-k):=by
 unfold VY;rw[gV,gV];by_cases c:k<L
 ·have q0:0<=(L-k+P-1)/P:=zS aq aq;have q2:(L-k+P-1)/P*P<=L-k+P-1:=xu _ aq;have q1:(L-k+P-1)/P<=L-k+P-1:=yo _ aq;have q4:=w9 (L-k+P-1) (show 0<P by omega);rw[zU,yc]at q4;rw[b7 c,cI,gV,aM (n:=L-k),aM (n:=L-k+P),aM (n:=L-k+P-1),kG,aM (n:=(L-k+P-1)/P),aM (n:=(L-k+P-1)/P*P),aM (n:=k+(L-k+P-1)/P*P)];obtain⟨r,e,hr⟩:=Hl (X:=X) (Y:=Y) (Z:=Z) (K:=k+(L-k+P-1)/P*P) h1 h2 aq h4 h5;refine⟨r,e,?_⟩;rw[hr];constructor
  ·intro hd;have:=of_decide_eq_false hd;exact⟨k+(L-k+P-1)/P*P,aq,aq,by rw[show k+(L-k+P-1)/P*P-k=(L-k+P-1)/P*P by omega];exact xF ..⟩
  ·rintro⟨j,j1,j2,t,j3⟩;rw[zO]at j3;refine bY ?_;have:(L-k+P-1)/P<=t:=by
    have:(L-k+P-1)/P<t+1:=wM (a:=P) (by rw[zU,yc];omega) aq;omega
   have:=zL this (show 0<=P by omega);omega
 ·rw[bY c,cv];obtain⟨r,e,hr⟩:=Hl (X:=X) (Y:=Y) (Z:=Z) (K:=k) h1 h2 h3 h4 h5;refine⟨r,e,?_⟩;rw[hr];constructor
  ·intro hd;have:=of_decide_eq_false hd;exact⟨k,aq,aq,⟨0,aq⟩⟩
  ·rintro⟨j,j1,j2,t,j3⟩;rw[zO]at j3;refine bY ?_;have:0<=t:=Decidable.byContradiction λh=>by
    have:t*P<= -1*P:=zL aq aq;omega
   have:=zJ this (show 0<=P by omega);omega
def lP{a b:aL}(ha:NN a)(hb:NN b)(h1:1<=a.ak)(x:Int):(bU a x/\bU b x)↔∃j:Int,x=a.ah+j*a.ak/\max a.ah b.ah<=x/\x<=min a.ag b.ag/\b.ak∣j*a.ak-(b.ah-a.ah):=by
 constructor
 ·rintro⟨⟨x1,x2,j,x3⟩,⟨z1,z2,z3⟩⟩;rw[zO]at x3;grind
 ·rintro⟨j,e,h2,h3,h4⟩;refine⟨⟨aq,aq,⟨j,by rw[zO];omega⟩⟩,⟨aq,aq,?_⟩⟩;rw[show x-b.ah=j*a.ak-(b.ah-a.ah)by omega];exact h4
def nQ{lo s x low high j:Int}(hs:1<=s)(hl:lo<=low)(hx:x=lo+j*s):(low<=x/\x<=high)↔((low-lo+s-1)/s<=j/\j<=(high-lo)/s):=by
 have q2:(low-lo+s-1)/s*s<=low-lo+s-1:=xu _ aq;have q4:=w9 (low-lo+s-1) (show 0<s by omega);rw[zU,yc]at q4;constructor
 ·rintro⟨h1,h2⟩;refine⟨?_,Int.le_ediv_of_mul_le aq aq⟩;have:(low-lo+s-1)/s<j+1:=wM (a:=s) (by rw[zU,yc];omega) aq;omega
 ·rintro⟨h1,h2⟩;have k1:=zL h1 (show 0<=s by omega);have k2:j*s<=high-lo:=xV (zL h2 aq) (xu _ aq);omega
def ajw{a b:aL}(ha:NN a)(hb:NN b)(h1:1<=a.ak)(h2:1<=b.ak):∃c,ag9 a b=V c/\(fC c=G↔∃x,bU a x/\bU b x):=by
 have a1:=ha.lo;have a2:=ha.hi;have a3:=ha.le;have a4:=ha.sle;have b1:=hb.lo;have b2:=hb.hi;have b3:=hb.le;have b4:=hb.sle;have g0:=mj a.ak b.ak;have gl:=kE a.ak b.ak;have gr:=rK a.ak b.ak;have gpos:1<=cA a.ak b.ak:=by
  rcases (show cA a.ak b.ak=0\/1<=cA a.ak b.ak by omega)with z|z
  ·simp_all
  ·exact z
 have hcop:yD (a.ak/cA a.ak b.ak) (b.ak/cA a.ak b.ak)=1:=Int.gcd_ediv_gcd_ediv_gcd (show 0<yD a.ak b.ak by unfold cA at gpos;omega);unfold ag9;rw[FE aq aq];simp only;generalize cA a.ak b.ak=g at*;rw[show (if b.ag<a.ag then b.ag else a.ag)=min a.ag b.ag by split<;>omega,show (if a.ah<b.ah then b.ah else a.ah)=max a.ah b.ah by split<;>omega];by_cases c1:min a.ag b.ag<max a.ah b.ah
 ·rw[b7 c1];refine⟨cL,rfl,?_⟩;rw[kS];exact⟨λk=>(by cases k),λ⟨x,x1,x2⟩=>by have:=x1.1;have:=x1.2.1;have:=x2.1;have:=x2.2.1;omega⟩
 ·rw[bY c1,cv,bJ (show ¬@Eq Int g 0 by omega),aM (n:=b.ah-a.ah)];simp only;by_cases c2:(b.ah-a.ah).tmod g=0
  ·rw[b7 c2];simp only[cI];have eA:aj (a.ak.tdiv g)=a.ak/g:=by
    have:=yo (a:=a.ak) g aq;have:=zS (a:=a.ak) (b:=g) aq aq;rw[kG,aM]
   have eP:aj (b.ak.tdiv g)=b.ak/g:=by
    have:=yo (a:=b.ak) g aq;have:=zS (a:=b.ak) (b:=g) aq aq;rw[kG,aM]
   have mA:a.ak/g*g=a.ak:=wu gl;have mP:b.ak/g*g=b.ak:=wu gr;have hA0:0<=a.ak/g:=zS aq aq;have hA1:a.ak/g<=a.ak:=yo _ aq;have hP1:b.ak/g<=b.ak:=yo _ aq;have hP0:1<=b.ak/g:=by
    have:0<=b.ak/g:=zS aq aq;rcases (show b.ak/g=0\/1<=b.ak/g by omega)with z|z
    ·rw[z,Int.zero_mul]at mP;omega
    ·exact z
   rw[eA,eP];obtain⟨D,hD⟩:=Int.dvd_of_tmod_eq_zero c2;have eD:(b.ah-a.ah).tdiv g=D:=by rw[hD];exact Int.mul_tdiv_cancel_left _ aq
   have dnat:D.natAbs<=(b.ah-a.ah).natAbs:=by rw[<-eD,Int.natAbs_tdiv];exact Nat.div_le_self _ _
   rw[eD];generalize a.ak/g=A at*;generalize b.ak/g=P at*;have el:aj (aj (aj (max a.ah b.ah-a.ah)+a.ak)-1)=max a.ah b.ah-a.ah+a.ak-1:=by
    rw[aM (n:=max a.ah b.ah-a.ah),aM (n:=max a.ah b.ah-a.ah+a.ak),aM]
   have l0:0<=(max a.ah b.ah-a.ah+a.ak-1)/a.ak:=zS aq aq;have l1:(max a.ah b.ah-a.ah+a.ak-1)/a.ak<=max a.ah b.ah-a.ah+a.ak-1:=yo _ aq;have h0:0<=(min a.ag b.ag-a.ah)/a.ak:=zS aq aq;have hh1:(min a.ag b.ag-a.ah)/a.ak<=min a.ag b.ag-a.ah:=yo _ aq;have hh2:(min a.ag b.ag-a.ah)/a.ak*a.ak<=min a.ag b.ag-a.ah:=xu _ aq;rw[el,aM (n:=min a.ag b.ag-a.ah),kG (a:=max a.ah b.ah-a.ah+a.ak-1) aq,kG (a:=min a.ag b.ag-a.ah) aq,
    aM (n:=(max a.ah b.ah-a.ah+a.ak-1)/a.ak),aM (n:=(min a.ag b.ag-a.ah)/a.ak)]
   have cm:∀k,P∣k*A-D↔b.ak∣k*a.ak-(b.ah-a.ah):=λk=>by
    have e:k*a.ak-(b.ah-a.ah)=(k*A-D)*g:=by rw[hD,<-mA,yC,yb,zO D g]
    rw[e,<-mP];exact⟨λh=>Int.mul_dvd_mul_right _ h,λh=>Int.dvd_of_mul_dvd_mul_right aq h⟩
   have fin:∀k0,(∀k,P∣k*A-D↔P∣k-k0)->((∃j,(max a.ah b.ah-a.ah+a.ak-1)/a.ak<=j/\j<=(min a.ag b.ag-a.ah)/a.ak/\P∣j-k0)↔∃x,bU a x/\bU b x):=λk0 hk=>by
    constructor
    ·rintro⟨j,j1,j2,j3⟩;have r:=(nQ (lo:=a.ah) (s:=a.ak) (low:=max a.ah b.ah) (high:=min a.ag b.ag) (j:=j) h1 aq rfl).mpr ⟨j1,j2⟩;exact⟨_,(lP ha hb h1 _).mpr ⟨j,rfl,r.1,r.2,(cm j).mp ((hk j).mpr j3)⟩⟩
    ·rintro⟨x,hx⟩;obtain⟨j,e,x1,x2,x3⟩:=(lP ha hb h1 x).mp hx;have r:=(nQ (lo:=a.ah) (s:=a.ak) (low:=max a.ah b.ah) (high:=min a.ag b.ag) (j:=j) h1 aq e).mp ⟨x1,x2⟩;exact⟨j,r.1,r.2,(hk j).mp ((cm j).mpr x3)⟩
   rw[bJ (show ¬@Eq Int g 0 by omega)];by_cases c3:1<P
   ·rw[b7 c3,cI,bJ (show ¬@Eq Int g 0 by omega),gV,gV,bJ (show ¬@Eq Int g 0 by omega),gV];have m0:=yY A (b:=P) aq;have m1:=y7 A (b:=P) aq;have hg:yD (A%P) P=1:=by
     have:=rD (a:=A) (b:=P) hA0 aq;rw[kV hA0]at this;rw[Int.gcd_comm,this,hcop]
    obtain⟨v,e1,v0,v1,v2⟩:=aj9 (x:=A%P) (m:=P) m0 aq aq hg;rw[kV hA0,e1];simp only;obtain⟨f1,f2,f3,f4⟩:=adO (x:=D) (m:=P) aq;have d0:=yY D (b:=P) aq;have d1:=y7 D (b:=P) aq;rw[aM (n:=D),aM (n:=D.tmod P+P),f1,auX d0 d1 v0 v1 aq];simp only;have k0:=yY (D%P*v) (b:=P) aq;have k1:=y7 (D%P*v) (b:=P) aq;have vA:P∣v*A-1:=by
     have e:=yX A P;have t:v*A-1=v*(A%P)-1+P*(v*(A/P)):=by
      conv=>lhs;rw[<-e]
      rw[xE,Int.mul_left_comm v P];omega
     rw[t];exact y4 v2 (xM ..)
    have hk:∀k,P∣k*A-D↔P∣k-D%P*v%P:=λk=>by
     have e1:P∣D*v-D%P*v%P:=by
      have t1:=yX (D%P*v) P;have t2:=yX D P;have:D*v-D%P*v%P=P*(D/P*v)+P*(D%P*v/P):=by
       have:D*v=P*(D/P*v)+D%P*v:=by
        conv=>lhs;rw[<-t2]
        rw[zU,yb]
       omega
      rw[this];exact y4 (xM ..) (xM ..)
     constructor
     ·intro h;have t:=yA (zY h (xM _ v)) (zY vA (xM _ k));have t2:(k*A-D)*v-(v*A-1)*k=k-D*v:=by
       rw[yC,yC,yc,yb,zO (v*A) k,zO A v];omega
      rw[t2]at t;have:=y4 t e1
      rwa [show k-D*v+(D*v-D%P*v%P)=k-D%P*v%P by omega]at this
     ·intro h;have t:=yA h e1;rw[show k-D%P*v%P-(D*v-D%P*v%P)=k-D*v by omega]at t;have t2:=y4 (zY t (xM _ A)) (zY vA (xM _ D));have t3:(k-D*v)*A+(v*A-1)*D=k*A-D:=by
       rw[yC,yC,yc,yb,zO (v*A) D];omega
      rwa [t3]at t2
    obtain⟨c,e,hc⟩:=EA (X:=λK=>aj (a.ah+aj (K*a.ak))) (Y:=λK=>aj (a.ah+aj (K*a.ak))) (Z:=λK=>aj (a.ah+aj (aj (K+aj (aj ((aj ((min a.ag b.ag-a.ah)/a.ak-K)).tdiv P)*P))*a.ak)))
     h1 hP0 k0 k1 aq (M:=(min a.ag b.ag-a.ah)/a.ak) aq aq l0 aq
    exact⟨c,e,hc.trans (fin _ hk)⟩
   ·have p1:P=1:=aq;rw[bY c3,cv];obtain⟨c,e,hc⟩:=EA (X:=λK=>aj (a.ah+aj (K*a.ak))) (Y:=λK=>aj (a.ah+aj (K*a.ak))) (Z:=λK=>aj (a.ah+aj (aj (K+aj (aj ((aj ((min a.ag b.ag-a.ah)/a.ak-K)).tdiv P)*P))*a.ak)))
     h1 hP0 (k:=0) aq aq aq (M:=(min a.ag b.ag-a.ah)/a.ak) aq aq l0 aq
    exact⟨c,e,hc.trans (fin 0 λk=>by subst p1;exact⟨λ_=>Int.one_dvd _,λ_=>Int.one_dvd _⟩)⟩
  ·rw[bY c2];refine⟨cL,rfl,?_⟩;rw[kS];refine⟨λk=>(by cases k),λ⟨x,hx⟩=> ?_⟩;obtain⟨j,e,x1,x2,x3⟩:=(lP ha hb h1 x).mp hx;exfalso;apply c2;have k1:=zY gr x3;have k2:=yA (zY gl (xF j _)) k1;rw[show j*a.ak-(j*a.ak-(b.ah-a.ah))=b.ah-a.ah by omega]at k2;exact Int.tmod_eq_zero_of_dvd k2
def F6{a:aL}(h:NN a)(h0:a.ak=0)(x:Int):bU a x↔x=a.ah:=by
 constructor
 ·rintro⟨h1,h2,h3⟩;rw[h0]at h3;have:=Int.zero_dvd.mp h3;omega
 ·rintro rfl;exact dy h
def Ge{M:aL->aL->af aL}{a b:aL}(ha:NN a)(hb:NN b)(h0:a.ak=0):∃c,Al M a b=V c/\(fC c=G↔∃x,bU a x/\bU b x):=by
 unfold Al;rw[eR ha.ne,eR hb.ne];simp only[cv];rw[b7 h0,cI,Js (.inr hb)];simp only;by_cases h:bU b a.ah
 ·rw[mR h];exact⟨a,rfl,λ_=>⟨_,dy ha,h⟩,λ_=>eR ha.ne⟩
 ·rw[jt h];refine⟨cL,rfl,λk=> ?_,λ⟨x,h1,h2⟩=> ?_⟩
  ·rw[kS]at k;cases k
  ·rw[(F6 ha h0 x).mp h1]at h2;exact ep h2 h
def aif{a b:aL}(ha:NN a)(hb:NN b):∃c,anh a b=V c/\(fC c=G↔∃x,bU a x/\bU b x):=by
 have cm:(∃x,bU b x/\bU a x)↔∃x,bU a x/\bU b x:=⟨λ⟨x,h1,h2⟩=>⟨x,h2,h1⟩,λ⟨x,h1,h2⟩=>⟨x,h2,h1⟩⟩;have s0:=ha.s0;have t0:=hb.s0;by_cases h0:a.ak=0
 ·obtain⟨c,e,h⟩:=Ge (M:=λ_ _=>I) ha hb h0;refine⟨c,eO 1 λn hn=> ?_,h⟩;obtain⟨k,rfl⟩:∃k,n=k+1:=⟨n-1,aq⟩;obtain⟨c',e',h'⟩:=Ge (M:=CJ k) ha hb h0;have:Al (CJ k) a b=Al (λ_ _=>I) a b:=by
   unfold Al;rw[eR ha.ne,eR hb.ne];simp only[cv];rw[b7 h0];simp only[cI]
  exact this.trans e
 ·by_cases k0:b.ak=0
  ·obtain⟨c,e,h⟩:=Ge (M:=λ_ _=>I) hb ha k0;refine⟨c,eO 2 λn hn=> ?_,h.trans cm⟩;obtain⟨k,rfl⟩:∃k,n=k+1+1:=⟨n-2,aq⟩;have:Al (CJ k) b a=Al (λ_ _=>I) b a:=by
    unfold Al;rw[eR ha.ne,eR hb.ne];simp only[cv];rw[b7 k0];simp only[cI]
   have e1:CJ (k+1) b a=V c:=this.trans e;show Al (CJ (k+1)) a b=V c;unfold Al;rw[eR ha.ne,eR hb.ne];simp only[cv];rw[bY h0,cv,b7 k0,cI,e1]
  ·obtain⟨c,e,h⟩:=ajw ha hb aq aq;refine⟨c,eO 1 λn hn=> ?_,h⟩;obtain⟨k,rfl⟩:∃k,n=k+1:=⟨n-1,aq⟩;show Al (CJ k) a b=V c;unfold Al;rw[eR ha.ne,eR hb.ne];simp only[cv];rw[bY h0,cv,bY k0,cv,e]
def Vz{a:aL}(h:NN a)(k:1<bZ a):1<=a.ak:=by
 have:=kr h;rcases h.st with ⟨e,_⟩|⟨_,e,_⟩
 ·omega
 ·exact e
def early{a b:aL}(ha:NN a)(hb:NN b)(h1:1<=a.ak)(h2:1<=b.ak){low high:Int}(el:low=max a.ah b.ah)(eh:high=min a.ag b.ag):
  (∃x,bU a x/\bU b x)↔∃k:Nat,(k:Int)<b.ak/cA a.ak b.ak/\a.ah+((low-a.ah+a.ak-1)/a.ak)*a.ak+(k:Int)*a.ak<=high/\bU b (a.ah+((low-a.ah+a.ak-1)/a.ak)*a.ak+(k:Int)*a.ak):=by
 have gl:=kE a.ak b.ak;have gr:=rK a.ak b.ak;have g0:=mj a.ak b.ak;have mP:b.ak/cA a.ak b.ak*cA a.ak b.ak=b.ak:=wu gr;have hP0:1<=b.ak/cA a.ak b.ak:=by
  have:0<=b.ak/cA a.ak b.ak:=zS aq aq;rcases (show b.ak/cA a.ak b.ak=0\/1<=b.ak/cA a.ak b.ak by omega)with z|z
  ·rw[z,Int.zero_mul]at mP;omega
  ·exact z
 have per:b.ak∣b.ak/cA a.ak b.ak*a.ak:=by
  obtain⟨q,hq⟩:=gl;generalize cA a.ak b.ak=g at*;rw[hq,<-yb,mP];simp
 generalize b.ak/cA a.ak b.ak=P at*;subst el eh;generalize hL:(max a.ah b.ah-a.ah+a.ak-1)/a.ak=L;constructor
 ·rintro⟨x,hx⟩;obtain⟨j,e,x1,x2,x3⟩:=(lP ha hb h1 x).mp hx;have r:=(nQ (lo:=a.ah) (s:=a.ak) (low:=max a.ah b.ah) (high:=min a.ag b.ag) (j:=j) h1 aq e).mp ⟨x1,x2⟩;have m0:=yY (j-L) (b:=P) aq;have m1:=y7 (j-L) (b:=P) aq;have m2:=yX (j-L) P;have q0:0<=(j-L)/P:=zS aq aq;have ex:a.ah+L*a.ak+(j-L)%P*a.ak=x-(j-L)/P*(P*a.ak):=by
   have:j*a.ak=(P*((j-L)/P)+(j-L)%P+L)*a.ak:=by congr 1;omega
   rw[zU,zU,zO P,yb]at this;omega
  have r2:=(nQ (lo:=a.ah) (s:=a.ak) (low:=max a.ah b.ah) (high:=min a.ag b.ag) (x:=a.ah+(L+(j-L)%P)*a.ak) (j:=L+(j-L)%P) h1 aq rfl).mpr
   ⟨by rw[hL];omega,by
    have:(j-L)%P<=j-L:=by
     have:=zJ (show 0<=P by omega) q0;omega
    omega⟩
  rw[zU,<-Int.add_assoc]at r2;refine⟨((j-L)%P).toNat,aq,?_⟩;rw[Int.toNat_of_nonneg m0];refine⟨r2.2,aq,aq,?_⟩;rw[ex,show x-(j-L)/P*(P*a.ak)-b.ah=x-b.ah-(j-L)/P*(P*a.ak)by omega];exact yA hx.2.2.2 (zY per (xF ..))
 ·rintro⟨k,k1,k2,k3⟩;have e:a.ah+L*a.ak+(k:Int)*a.ak=a.ah+(L+(k:Int))*a.ak:=by rw[zU];omega
  rw[e]at k2 k3;have l0:=(nQ (lo:=a.ah) (s:=a.ak) (low:=max a.ah b.ah) (high:=a.ah+(L+(k:Int))*a.ak) (x:=a.ah+(L+(k:Int))*a.ak) (j:=L+(k:Int)) h1 aq rfl).mpr
   ⟨by rw[hL];omega,by rw[show a.ah+(L+(k:Int))*a.ak-a.ah=(L+(k:Int))*a.ak by omega,Int.mul_ediv_cancel _ aq];exact zw _⟩
  exact⟨_,(lP ha hb h1 _).mpr ⟨_,rfl,l0.1,k2,by
   have:=k3.2.2
   rwa [show a.ah+(L+(k:Int))*a.ak-b.ah=(L+(k:Int))*a.ak-(b.ah-a.ah)by omega]at this⟩⟩
def RP{g P k n high sb:Int}(hg:1<=g)(hP:aj (sb.tdiv g)=P):(if¬g=(0:Int)then bif J (k<aj (sb.tdiv g))then V (J (n<=high))else V G else I)=V (J (k<P/\n<=high)):=by
 rw[gV,hP];by_cases c:k<P
 ·rw[b7 c,cI];by_cases d:n<=high
  ·rw[b7 d,b7 ⟨c,d⟩]
  ·rw[bY d,bY (λe=>d e.2)]
 ·rw[bY c,cv,bY (λe=>c e.1)]
def ai8{M:aL->aL->af Bool}{a b:aL}(hb:NN b){g P high n0:Int}(hg:1<=g)(hP:aj (b.ak.tdiv g)=P)(hP1:P<=4398046511104)(hs:1<=a.ak)(hs2:a.ak<=4398046511104)(hh:high<=1099511627776)(hn: -1099511627776<=n0)(hP0:0<=P):
  (match oQ M (jD.mk high g n0 0 a b)with
   |none=>I
   |some r10=>match if¬r10.t7=(0:Int)then bif J (r10.t9<aj (r10.b1.ak.tdiv r10.t7))then V (J (r10.t8<=r10.t6))else V G else I with
    |none=>I
    |some r11=>bif r11 then match m32 r10.b1 r10.t8 with
     |none=>I
     |some r12=>bif r12 then V O else I
     else V G)=V (open Classical in J (∃k:Nat,(k:Int)<P/\n0+(k:Int)*a.ak<=high/\bU b (n0+(k:Int)*a.ak))):=by
 obtain⟨z,e1,⟨k,rfl,hk,hI⟩,hstop⟩:=mq (rnd:=BD M) (λp=>∃k:Nat,p=jD.mk high g (n0+(k:Int)*a.ak) (k:Int) a b/\(k:Int)<=P/\∀i:Nat,i<k->¬bU b (n0+(i:Int)*a.ak))
  (λp=>(P-p.t9).toNat) (λp p' ⟨k,hp,hk,hI⟩ hq=>by
   subst hp;have hq:BD M (jD.mk high g (n0+(k:Int)*a.ak) (k:Int) a b)=V (V p'):=hq;unfold BD at hq;simp only at hq;rw[RP hg hP]at hq;by_cases c:(k:Int)<P/\n0+(k:Int)*a.ak<=high
   ·rw[b7 c]at hq;simp only[cI]at hq;rw[jT (.inr hb)]at hq;simp only at hq;by_cases d:bU b (n0+(k:Int)*a.ak)
    ·rw[mR d]at hq;cases hq
    ·rw[jt d]at hq;have k0:0<=(k:Int)*a.ak:=zJ aq aq;rw[cv,aM (n:=n0+(k:Int)*a.ak+a.ak),aM (n:=(k:Int)+1)]at hq;simp only[zF.injEq]at hq;subst hq;refine⟨⟨k+1,?_,aq,λi hi=> ?_⟩,by show (P-((k:Int)+1)).toNat<(P-(k:Int)).toNat;omega⟩
     ·rw[show ((k+1:Nat):Int)=(k:Int)+1 by omega,zU,yc,Int.add_assoc]
     ·rcases xo.mp hi with q|rfl
      ·exact hI i q
      ·exact d
   ·rw[bY c]at hq;cases hq) (p:=jD.mk high g n0 0 a b) ⟨0,by simp,by simpa using hP0,λi hi=>ep hi (y8 _)⟩
 rw[show oQ M=bI (BD M)from rfl,e1];simp only;rw[RP hg hP];by_cases c:(k:Int)<P/\n0+(k:Int)*a.ak<=high
 ·rw[b7 c];simp only[cI];rw[jT (.inr hb)];simp only;by_cases d:bU b (n0+(k:Int)*a.ak)
  ·rw[mR d,cI]
   congr 1
   exact(@decide_eq_true _ (Classical.propDecidable _) ⟨k,c.1,c.2,d⟩).symm
  ·exfalso;refine hstop (jD.mk high g (aj (n0+(k:Int)*a.ak+a.ak)) (aj ((k:Int)+1)) a b) ?_;unfold BD;simp only;rw[RP hg hP,b7 c];simp only[cI];rw[jT (.inr hb),jt d];rfl
 ·rw[bY c];simp only[cv]
  congr 1
  refine(@decide_eq_false _ (Classical.propDecidable _) ?_).symm;rintro⟨i,i1,i2,i3⟩;rcases Nat.lt_or_ge i k with q|q
  ·exact hI i q i3
  ·apply c;have:(k:Int)*a.ak<=(i:Int)*a.ak:=zL aq aq;exact⟨aq,aq⟩
def iO(a b:aL):Bool:=open Classical in J (∃x,bU a x/\bU b x)
def jh{a b:aL}:iO a b=O↔∃x,bU a x/\bU b x:=by unfold iO;exact @decide_eq_true_iff _ (Classical.propDecidable _)
def oU{a b:aL}(h:¬∃x,bU a x/\bU b x):iO a b=G:=by
 cases e:iO a b with
 |false=>rfl
 |true=>exact ep (jh.mp e) h
def TY(a b:aL):iO a b=iO b a:=by
 by_cases h:∃x,bU a x/\bU b x
 ·obtain⟨x,h1,h2⟩:=h;rw[jh.mpr ⟨x,h1,h2⟩,jh.mpr ⟨x,h2,h1⟩]
 ·rw[oU h,oU (λ⟨x,h1,h2⟩=>h ⟨x,h2,h1⟩)]
def C8{M:aL->aL->af Bool}{a b:aL}(ha:NN a)(hb:NN b)(h1:1<=a.ak)(h2:1<=b.ak){low high:Int}(el:low=max a.ah b.ah)(eh:high=min a.ag b.ag):
  (match C0 a.ak b.ak with
   |none=>I
   |some r8=>match bif J (high<low)then V O else if¬r8=(0:Int)then V (bif J (Int.tmod (jo a.ah b.ah) r8=0)then G else O)else I with
    |none=>I
    |some r9=>bif r9 then V G else if¬a.ak=(0:Int)then
     match oQ M (jD.mk high r8 (aj (a.ah+aj (aj ((aj (aj (aj (low-a.ah)+a.ak)-1)).tdiv a.ak)*a.ak))) 0 a b)with
     |none=>I
     |some r10=>match if¬r10.t7=(0:Int)then bif J (r10.t9<aj (r10.b1.ak.tdiv r10.t7))then V (J (r10.t8<=r10.t6))else V G else I with
      |none=>I
      |some r11=>bif r11 then match m32 r10.b1 r10.t8 with
       |none=>I
       |some r12=>bif r12 then V O else I
       else V G
     else I)=V (iO a b):=by
 have a1:=ha.lo;have a2:=ha.hi;have a3:=ha.le;have a4:=ha.sle;have b1:=hb.lo;have b2:=hb.hi;have b3:=hb.le;have b4:=hb.sle;have gl:=kE a.ak b.ak;have gr:=rK a.ak b.ak;have g0:=mj a.ak b.ak;have gpos:1<=cA a.ak b.ak:=by
  rcases (show cA a.ak b.ak=0\/1<=cA a.ak b.ak by omega)with z|z
  ·simp_all
  ·exact z
 have hE:=early ha hb h1 h2 el eh;rw[C7 aq aq];simp only;by_cases c1:high<low
 ·rw[b7 c1,oU (λ⟨x,x1,x2⟩=>by have:=x1.1;have:=x1.2.1;have:=x2.1;have:=x2.2.1;omega)];rfl
 ·rw[bY c1,cv,bJ (show ¬@Eq Int (cA a.ak b.ak) 0 by omega)];simp only;by_cases c2:Int.tmod (jo a.ah b.ah) (cA a.ak b.ak)=0
  ·rw[b7 c2];simp only[cI];have l1:(low-a.ah+a.ak-1)/a.ak<=low-a.ah+a.ak-1:=yo _ aq;have l0:0<=(low-a.ah+a.ak-1)/a.ak:=zS aq aq;have l2:(low-a.ah+a.ak-1)/a.ak*a.ak<=low-a.ah+a.ak-1:=xu _ aq;have l3:0<=(low-a.ah+a.ak-1)/a.ak*a.ak:=zJ l0 aq;have p0:0<=b.ak/cA a.ak b.ak:=zS aq aq;have p1:b.ak/cA a.ak b.ak<=b.ak:=yo _ aq;have eP:aj (b.ak.tdiv (cA a.ak b.ak))=b.ak/cA a.ak b.ak:=by
    rw[kG,aM]
   rw[gV,aM (n:=low-a.ah),aM (n:=low-a.ah+a.ak),aM (n:=low-a.ah+a.ak-1),kG,
    aM (n:=(low-a.ah+a.ak-1)/a.ak),aM (n:=(low-a.ah+a.ak-1)/a.ak*a.ak),aM (n:=a.ah+(low-a.ah+a.ak-1)/a.ak*a.ak)]
   refine(ai8 hb gpos eP aq h1 aq aq aq p0).trans ?_
   congr 1
   by_cases h:∃x,bU a x/\bU b x
   ·rw[jh.mpr h];exact @decide_eq_true _ (Classical.propDecidable _) (hE.mp h)
   ·rw[oU h];exact @decide_eq_false _ (Classical.propDecidable _) (λk=>h (hE.mpr k))
  ·have hno:¬∃x,bU a x/\bU b x:=by
    rintro⟨x,x1,x2⟩;apply c2;have k1:=zY gl x1.2.2;have k2:=zY gr x2.2.2;have k3:=yA k2 k1;rw[show x-b.ah-(x-a.ah)=a.ah-b.ah by omega]at k3;apply Int.tmod_eq_zero_of_dvd;unfold jo;by_cases c:a.ah<b.ah
    ·rw[b7 c,cI,aM];have:=Int.dvd_neg.mpr k3
     rwa [show-(a.ah-b.ah)=b.ah-a.ah by omega]at this
    ·rw[bY c,cv,aM];exact k3
   rw[bY c2,oU hno];rfl
def UM{M:aL->aL->af Bool}{a b:aL}(ha:NN a)(hb:NN b)(hs:bZ a<=bZ b):X0 M a b=V (iO a b):=by
 unfold X0;rw[eE (.inr ha),eE (.inr hb)];simp only;rw[bY (show ¬@LT.lt Int _ (bZ b) (bZ a)by omega),cv];have hp:=size_pos ha;by_cases c:bZ a=1
 ·rw[b7 c,cI,jT (.inr hb)];have e:=(kr ha).mp c;have s:a.ak=0:=by rcases ha.st with k|k;exact k.2;omega
  by_cases h:bU b a.ah
  ·rw[mR h,jh.mpr ⟨_,dy ha,h⟩]
  ·rw[jt h,oU (λ⟨x,x1,x2⟩=>h (by rw[<-(F6 ha s x).mp x1];exact x2))]
 ·rw[bY c,cv];have h1:=Vz ha aq;have h2:=Vz hb aq;by_cases d:a.ah<b.ah<;>by_cases e:b.ag<a.ag
  ·rw[b7 d,b7 e];exact C8 ha hb h1 h2 aq aq
  ·rw[b7 d,bY e];exact C8 ha hb h1 h2 aq aq
  ·rw[bY d,b7 e];exact C8 ha hb h1 h2 aq aq
  ·rw[bY d,bY e];exact C8 ha hb h1 h2 aq aq
def amW{a b:aL}(ha:NN a)(hb:NN b):ae3 a b=V (iO a b):=eO 2 λn hn=>by
 obtain⟨k,rfl⟩:∃k,n=k+1+1:=⟨n-2,aq⟩;by_cases hs:bZ a<=bZ b
 ·exact UM (M:=H7 (k+1)) ha hb hs
 ·have e1:H7 (k+1) b a=V (iO b a):=UM (M:=H7 k) hb ha aq;show X0 (H7 (k+1)) a b=_;unfold X0;rw[eE (.inr ha),eE (.inr hb)];simp only;rw[b7 (show @LT.lt Int _ (bZ b) (bZ a)by omega),cI,e1,TY]
def kW(a b:aL):Bool:=J (1<bZ a)||J (1<bZ b)||J (a.ah≠b.ah)
def sN{a:aL}(h:NN a)(k:¬1<bZ a):a.ah=a.ag:=(kr h).mp (by have:=size_pos h;omega)
def Hh{a b:aL}(ha:NN a)(hb:NN b):kW a b=O↔∃x z,bU a x/\bU b z/\x≠z:=by
 unfold kW;by_cases c1:1<bZ a
 ·rw[b7 c1];refine⟨λ_=> ?_,λ_=>rfl⟩;have:a.ah≠a.ag:=λe=>by have:=(kr ha).mpr e;omega
  by_cases e:a.ah=b.ah
  ·exact⟨_,_,gC ha,dy hb,aq⟩
  ·exact⟨_,_,dy ha,dy hb,e⟩
 ·by_cases c2:1<bZ b
  ·rw[bY c1,b7 c2];refine⟨λ_=> ?_,λ_=>rfl⟩;have:b.ah≠b.ag:=λe=>by have:=(kr hb).mpr e;omega
   by_cases e:a.ah=b.ah
   ·exact⟨_,_,dy ha,gC hb,aq⟩
   ·exact⟨_,_,dy ha,dy hb,e⟩
  ·have e1:=sN ha c1;have e2:=sN hb c2;by_cases e:a.ah=b.ah
   ·rw[bY c1,bY c2,bY (λk=>k e)];exact⟨λk=>(by cases k),λ⟨x,z,hx,hz,k⟩=>by have:=hx.1;have:=hx.2.1;have:=hz.1;have:=hz.2.1;omega⟩
   ·rw[bY c1,bY c2,b7 e];exact⟨λ_=>⟨_,_,dy ha,dy hb,e⟩,λ_=>rfl⟩
def vZ(op:Int)(a b:aL):Bool×Bool:=
 if op=13 then(kW a b,iO a b)else if op=14 then(iO a b,kW a b)
 else if op=15 then(J (b.ah<=a.ag),J (a.ah<b.ag))else if op=16 then(J (b.ah<a.ag),J (a.ah<=b.ag))
 else if op=17 then(J (a.ah<=b.ag),J (b.ah<a.ag))else if op=18 then(J (a.ah<b.ag),J (b.ah<=a.ag))
 else if op=19 then(cS a 0||cS b 0,cD a&&cD b)else(cS a 0&&cS b 0,cD a||cD b)
def Ae(op:Int):Prop:=13<=op/\op<=20
def qT(p:Bool):oo p=1↔p=true:=by cases p<;>decide
def sQ(p:Bool):oo p=0↔p=false:=by cases p<;>decide
def jb{op:Int}(h:Ae op):op=13\/op=14\/op=15\/op=16\/op=17\/op=18\/op=19\/op=20:=by
 obtain⟨h1,h2⟩:=h;omega
def Gq{op:Int}(h:Ae op)(x z:Int):fS op x z=0\/fS op x z=1:=by
 have k:∀p:Bool,oo p=0\/oo p=1:=λp=>by cases p<;>decide
 rcases jb h with rfl|rfl|rfl|rfl|rfl|rfl|rfl|rfl<;>exact k _
def Wt{op:Int}{a b:aL}(h:Ae op)(ha:NN a)(hb:NN b):(vZ op a b).2=O↔∃x z,bU a x/\bU b z/\fS op x z=1:=by
 rcases jb h with rfl|rfl|rfl|rfl|rfl|rfl|rfl|rfl
 ·show iO a b=O↔∃x z,bU a x/\bU b z/\oo (J (x=z))=1;rw[jh];exact⟨λ⟨x,h1,h2⟩=>⟨x,x,h1,h2,by rw[qT];exact b7 rfl⟩,λ⟨x,z,h1,h2,h3⟩=>by
   rw[qT]at h3;have:=of_decide_eq_true h3;subst this;exact⟨x,h1,h2⟩⟩
 ·show kW a b=O↔∃x z,bU a x/\bU b z/\oo (!J (x=z))=1;rw[Hh ha hb];exact⟨λ⟨x,z,h1,h2,h3⟩=>⟨x,z,h1,h2,by rw[qT,bY h3];rfl⟩,λ⟨x,z,h1,h2,h3⟩=>⟨x,z,h1,h2,λe=>by rw[qT,b7 e]at h3;cases h3⟩⟩
 ·show J (a.ah<b.ag)=O↔∃x z,bU a x/\bU b z/\oo (J (x<z))=1;refine⟨λk=>⟨_,_,dy ha,gC hb,by rw[qT];exact k⟩,λ⟨x,z,h1,h2,h3⟩=> ?_⟩;rw[qT]at h3;have:=of_decide_eq_true h3;exact b7 (by have:=h1.1;have:=h2.2.1;omega)
 ·show J (a.ah<=b.ag)=O↔∃x z,bU a x/\bU b z/\oo (J (x<=z))=1;refine⟨λk=>⟨_,_,dy ha,gC hb,by rw[qT];exact k⟩,λ⟨x,z,h1,h2,h3⟩=> ?_⟩;rw[qT]at h3;have:=of_decide_eq_true h3;exact b7 (by have:=h1.1;have:=h2.2.1;omega)
 ·show J (b.ah<a.ag)=O↔∃x z,bU a x/\bU b z/\oo (J (z<x))=1;refine⟨λk=>⟨_,_,gC ha,dy hb,by rw[qT];exact k⟩,λ⟨x,z,h1,h2,h3⟩=> ?_⟩;rw[qT]at h3;have:=of_decide_eq_true h3;exact b7 (by have:=h1.2.1;have:=h2.1;omega)
 ·show J (b.ah<=a.ag)=O↔∃x z,bU a x/\bU b z/\oo (J (z<=x))=1;refine⟨λk=>⟨_,_,gC ha,dy hb,by rw[qT];exact k⟩,λ⟨x,z,h1,h2,h3⟩=> ?_⟩;rw[qT]at h3;have:=of_decide_eq_true h3;exact b7 (by have:=h1.2.1;have:=h2.1;omega)
 ·show (cD a&&cD b)=O↔∃x z,bU a x/\bU b z/\oo (J (x≠0/\z≠0))=1;rw[zi,lQ (.inr ha),lQ (.inr hb)];constructor
  ·rintro⟨⟨x,h1,h2⟩,⟨z,h3,h4⟩⟩;exact⟨x,z,h1,h3,by rw[qT];exact b7 ⟨h2,h4⟩⟩
  ·rintro⟨x,z,h1,h2,h3⟩;rw[qT]at h3;have:=of_decide_eq_true h3;exact⟨⟨x,h1,this.1⟩,⟨z,h2,this.2⟩⟩
 ·show (cD a||cD b)=O↔∃x z,bU a x/\bU b z/\oo (J (x≠0\/z≠0))=1;rw[yK,lQ (.inr ha),lQ (.inr hb)];constructor
  ·rintro(⟨x,h1,h2⟩|⟨z,h3,h4⟩)
   ·exact⟨x,_,h1,dy hb,by rw[qT];exact b7 (.inl h2)⟩
   ·exact⟨_,z,dy ha,h3,by rw[qT];exact b7 (.inr h4)⟩
  ·rintro⟨x,z,h1,h2,h3⟩;rw[qT]at h3;rcases of_decide_eq_true h3 with k|k
   ·exact .inl ⟨x,h1,k⟩
   ·exact .inr ⟨z,h2,k⟩
def aa2{op:Int}{a b:aL}(h:Ae op)(ha:NN a)(hb:NN b):(vZ op a b).1=O↔∃x z,bU a x/\bU b z/\fS op x z=0:=by
 rcases jb h with rfl|rfl|rfl|rfl|rfl|rfl|rfl|rfl
 ·show kW a b=O↔∃x z,bU a x/\bU b z/\oo (J (x=z))=0;rw[Hh ha hb];exact⟨λ⟨x,z,h1,h2,h3⟩=>⟨x,z,h1,h2,by rw[sQ];exact bY h3⟩,λ⟨x,z,h1,h2,h3⟩=>⟨x,z,h1,h2,λe=>by rw[sQ,b7 e]at h3;cases h3⟩⟩
 ·show iO a b=O↔∃x z,bU a x/\bU b z/\oo (!J (x=z))=0;rw[jh];exact⟨λ⟨x,h1,h2⟩=>⟨x,x,h1,h2,by rw[sQ,b7 rfl];rfl⟩,λ⟨x,z,h1,h2,h3⟩=>by
   by_cases e:x=z
   ·subst e;exact⟨x,h1,h2⟩
   ·rw[bY e]at h3;cases h3⟩
 ·show J (b.ah<=a.ag)=O↔∃x z,bU a x/\bU b z/\oo (J (x<z))=0;refine⟨λk=>⟨_,_,gC ha,dy hb,by rw[sQ];exact bY (by have:=of_decide_eq_true k;omega)⟩,λ⟨x,z,h1,h2,h3⟩=> ?_⟩;rw[sQ]at h3;have:=of_decide_eq_false h3;exact b7 (by have:=h1.2.1;have:=h2.1;omega)
 ·show J (b.ah<a.ag)=O↔∃x z,bU a x/\bU b z/\oo (J (x<=z))=0;refine⟨λk=>⟨_,_,gC ha,dy hb,by rw[sQ];exact bY (by have:=of_decide_eq_true k;omega)⟩,λ⟨x,z,h1,h2,h3⟩=> ?_⟩;rw[sQ]at h3;have:=of_decide_eq_false h3;exact b7 (by have:=h1.2.1;have:=h2.1;omega)
 ·show J (a.ah<=b.ag)=O↔∃x z,bU a x/\bU b z/\oo (J (z<x))=0;refine⟨λk=>⟨_,_,dy ha,gC hb,by rw[sQ];exact bY (by have:=of_decide_eq_true k;omega)⟩,λ⟨x,z,h1,h2,h3⟩=> ?_⟩;rw[sQ]at h3;have:=of_decide_eq_false h3;exact b7 (by have:=h1.1;have:=h2.2.1;omega)
 ·show J (a.ah<b.ag)=O↔∃x z,bU a x/\bU b z/\oo (J (z<=x))=0;refine⟨λk=>⟨_,_,dy ha,gC hb,by rw[sQ];exact bY (by have:=of_decide_eq_true k;omega)⟩,λ⟨x,z,h1,h2,h3⟩=> ?_⟩;rw[sQ]at h3;have:=of_decide_eq_false h3;exact b7 (by have:=h1.1;have:=h2.2.1;omega)
 ·show (cS a 0||cS b 0)=O↔∃x z,bU a x/\bU b z/\oo (J (x≠0/\z≠0))=0;rw[yK,nW,nW];constructor
  ·rintro(h1|h1)
   ·exact⟨0,_,h1,dy hb,by rw[sQ];exact bY (λk=>k.1 rfl)⟩
   ·exact⟨_,0,dy ha,h1,by rw[sQ];exact bY (λk=>k.2 rfl)⟩
  ·rintro⟨x,z,h1,h2,h3⟩;rw[sQ]at h3;by_cases e:x=0
   ·simp_all
   ·simp_all
 ·show (cS a 0&&cS b 0)=O↔∃x z,bU a x/\bU b z/\oo (J (x≠0\/z≠0))=0;rw[zi,nW,nW];constructor
  ·rintro⟨h1,h2⟩;exact⟨0,0,h1,h2,by rw[sQ];exact bY (λk=>k.elim (λe=>e rfl) (λe=>e rfl))⟩
  ·rintro⟨x,z,h1,h2,h3⟩;rw[sQ]at h3;simp_all
def RN{op:Int}{a b:aL}(h:Ae op)(ha:NN a)(hb:NN b):((vZ op a b).1||(vZ op a b).2)=O:=by
 rw[yK];rcases Gq h a.ah b.ah with e|e
 ·exact .inl ((aa2 h ha hb).mpr ⟨_,_,dy ha,dy hb,e⟩)
 ·exact .inr ((Wt h ha hb).mpr ⟨_,_,dy ha,dy hb,e⟩)
def SB{P:Int->Prop}{no yes:Bool}(h:∀y,P y->y=0\/y=1)(h0:no=O↔P 0)(h1:yes=O↔P 1)(ho:(no||yes)=O):dA P (iX no yes):=by
 cases no with
 |true=>
  have p0:=h0.mp rfl;cases yes with
  |true=>
   have p1:=h1.mp rfl;refine⟨p0,p1,λy hy=> ?_,by decide,λd hd=> ?_⟩
   ·rcases h y hy with rfl|rfl
    ·exact⟨by decide,by decide,⟨0,rfl⟩⟩
    ·exact⟨by decide,by decide,⟨1,rfl⟩⟩
   ·exact hd 1 p1
  |false=>
   refine⟨p0,p0,λy hy=> ?_,by decide,λd _=>xL d⟩;rcases h y hy with rfl|rfl
   ·exact⟨by decide,by decide,⟨0,rfl⟩⟩
   ·simp_all
 |false=>
  cases yes with
  |true=>
   have p1:=h1.mp rfl;refine⟨p1,p1,λy hy=> ?_,by decide,λd _=>xL d⟩;rcases h y hy with rfl|rfl
   ·exact ep (h0.mpr hy) (by decide)
   ·exact⟨by decide,by decide,⟨0,rfl⟩⟩
  |false=>cases ho
def ach{op:Int}{a b:aL}(h:Ae op)(ha:NN a)(hb:NN b):dA (sY op a b) (iX (vZ op a b).1 (vZ op a b).2):=
 SB (λy ⟨x,z,_,_,e⟩=>by rw[e];exact Gq h x z)
  ((aa2 h ha hb).trans ⟨λ⟨x,z,h1,h2,e⟩=>⟨x,z,h1,h2,e.symm⟩,λ⟨x,z,h1,h2,e⟩=>⟨x,z,h1,h2,e.symm⟩⟩)
  ((Wt h ha hb).trans ⟨λ⟨x,z,h1,h2,e⟩=>⟨x,z,h1,h2,e.symm⟩,λ⟨x,z,h1,h2,e⟩=>⟨x,z,h1,h2,e.symm⟩⟩) (RN h ha hb)
def aGs{x y:Int}:(bif J (x=y)then G else O)=J (x≠y):=by
 simp
def ajR{op:Int}{a b:aL}(h:Ae op)(ha:NN a)(hb:NN b):adk op a b=V (iX (vZ op a b).1 (vZ op a b).2):=by
 obtain⟨c,e,hc⟩:=aif ha hb;have em:fC c= !iO a b:=by
  cases k:fC c with
  |true=>rw[oU (λx=>by have:=hc.mpr x;rw[k]at this;cases this)];rfl
  |false=>rw[jh.mpr (hc.mp k)];rfl
 have ed:(bif J (1<bZ a)then V O else bif J (1<bZ b)then V O else V (J (a.ah≠b.ah)))=V (kW a b):=by
  unfold kW;cases J (1<bZ a)<;>cases J (1<bZ b)<;>rfl
 unfold adk;rw[e];rw[lC (.inr ha),lC (.inr hb)];simp only;rw[aGs,ed,DA (.inr ha),DA (.inr hb)];rw[em];simp only[UT];rcases jb h with rfl|rfl|rfl|rfl|rfl|rfl|rfl|rfl
 ·show _=V (iX (kW a b) (iO a b));cases iO a b<;>rfl
 ·show _=V (iX (iO a b) (kW a b));cases iO a b<;>rfl
 ·rfl
 ·rfl
 ·rfl
 ·rfl
 ·show _=V (iX (cS a 0||cS b 0) (cD a&&cD b));cases cS a 0<;>cases cD a<;>cases cS b 0<;>cases cD b<;>rfl
 ·show _=V (iX (cS a 0&&cS b 0) (cD a||cD b));cases cS a 0<;>cases cD a<;>cases cS b 0<;>cases cD b<;>rfl
def diff_eq{a:aL}(h:NN a):kW a a=J (1<bZ a):=by
 unfold kW;simp
def Ux{a b:aL}(ha:NN a)(hb:NN b)(h:a≠b):kW a b=O:=by
 unfold kW;by_cases c1:1<bZ a
 ·rw[b7 c1];rfl
 ·by_cases c2:1<bZ b
  ·rw[bY c1,b7 c2];rfl
  ·by_cases c3:a.ah=b.ah
   ·exfalso;have e1:=sN ha c1;have e2:=sN hb c2;exact h (Dn c3 aq (by rcases ha.st with k|k<;>rcases hb.st with l|l<;>omega))
   ·rw[b7 c3,Bool.or_true]
def WB{op:Int}{a b:aL}(h:Ae op)(ha:NN a)(hb:NN b):acf op a b=V (iX (vZ op a b).1 (vZ op a b).2):=by
 have ho:=RN h ha hb;rw[<-Xr ho];unfold acf;rw[amW ha hb,o5 (.inr ha),o5 (.inr hb)];rw[eE (.inr ha)];rcases jb h with rfl|rfl|rfl|rfl|rfl|rfl|rfl|rfl
 ·show _=V (jr (kW a b) (iO a b));by_cases e:a=b
  ·subst e;rw[Hi,diff_eq ha];rfl
  ·rw[Ig e,Ux ha hb e];rfl
 ·show _=V (jr (iO a b) (kW a b));by_cases e:a=b
  ·subst e;rw[Hi,diff_eq ha];rfl
  ·rw[Ig e,Ux ha hb e];rfl
 ·rfl
 ·rfl
 ·rfl
 ·rfl
 ·show _=V (jr (cS a 0||cS b 0) (cD a&&cD b));cases cS a 0<;>cases cD a<;>cases cS b 0<;>cases cD b<;>rfl
 ·show _=V (jr (cS a 0&&cS b 0) (cD a||cD b));cases cS a 0<;>cases cD a<;>cases cS b 0<;>cases cD b<;>rfl
def aak{op:Int}{a b:aL}(h:Ae op)(ha:NN a)(hb:NN b):QT op a b:=by
 have hbin:binop op:=by
  obtain⟨h1,h2⟩:=h;exact⟨aq,aq⟩
 refine⟨(iX (vZ op a b).1 (vZ op a b).2,0),nC hbin ha hb ?_,?_,vW _ _⟩
 ·rw[ajR h ha hb];rcases jb h with rfl|rfl|rfl|rfl|rfl|rfl|rfl|rfl<;>rfl
 ·by_cases hs:cnt a*cnt b<=4096
  ·rw[oT hbin ha hb hs];rcases DF hbin ha hb aq with ⟨_,c,e,k⟩|⟨k,_⟩
   ·rw[e,k.uniq (ach h ha hb)]
   ·exact ep (λy ⟨x,z,_,_,e⟩=>by rw[e];rcases Gq h x z with q|q<;>rw[q]<;>exact⟨by decide,by decide⟩) k
  ·rw[vD hbin ha hb hs];unfold adL;rw[WB h ha hb];rcases jb h with rfl|rfl|rfl|rfl|rfl|rfl|rfl|rfl<;>rfl
def abg{op:Int}{a b:aL}(h:NB op)(ha:NN a)(hb:NN b):QT op a b:=by
 obtain⟨c,e1,e2,hv⟩:=ae5 h ha hb;have hbin:binop op:=by unfold binop;rcases h with rfl|rfl|rfl|rfl<;>decide
 refine⟨(c,0),nC hbin ha hb ?_,e2,hv⟩;rw[e1];rcases h with rfl|rfl|rfl|rfl<;>rfl
def PY(op:Int){a b:aL}(ha:NV a)(hb:NV b):QT op a b:=by
 by_cases ho:binop op
 ·rcases ha with rfl|ha
  ·refine⟨(cL,0),?_,?_, .inl rfl⟩
   ·unfold uR;rw[eX,eX,eo (.inl rfl),eo hb,kf,b7 ho,kS];rfl
   ·unfold ou;rw[gj,gj,eo (.inl rfl),eo hb,show GR op=CX op from rfl,kf,b7 ho,ue];rfl
  ·rcases hb with rfl|hb
   ·refine⟨(cL,0),?_,?_, .inl rfl⟩
    ·unfold uR;rw[eX,eX,eo (.inl rfl),eo (.inr ha),kf,b7 ho,kS,eR ha.ne];rfl
    ·unfold ou;rw[gj,gj,eo (.inl rfl),eo (.inr ha),show GR op=CX op from rfl,kf,b7 ho,ue,gZ ha];rfl
   ·obtain⟨o1,o2⟩:=ho;rcases (show op=8\/op=9\/op=10\/(op=11\/op=12\/op=21\/op=22)\/(13<=op/\op<=20)by omega)with rfl|rfl|rfl|h|h
    ·exact aa7 ha hb
    ·exact aaD ha hb
    ·exact aeq ha hb
    ·exact abg h ha hb
    ·exact aak h ha hb
 ·refine⟨(aL.mk 0 0 0,1),?_,?_,RG⟩
  ·unfold uR;rw[eX,eX,eo ha,eo hb,kf,bY ho];rfl
  ·unfold ou;rw[gj,gj,eo ha,eo hb,show GR op=CX op from rfl,kf,bY ho];rfl
abbrev pQ:=Int
def d117:Td 0 pQ:= .c [] [4] (.r 0 0 (ec 4 aN en) sn (λz=>z.1.1) (λx=>((x,()),(()))))
def avo:=(lc (qg 137) (aU ln))
def auJ(M:az->Int->af pQ):bq->bq:=eL vi 117 G avo d117 (λg=>M g.1 g.2.1)
def akg(M:az->Int->af pQ):Prop:=HL vi 117 avo d117 (λg=>M g.1 g.2.1)
def Vq{M:az->Int->af pQ}(hM:akg M){F:bq}(h:bA vi F):bA vi (auJ M F):=ew (sc:=oF) di hM ⟨_,func117,aW,aW⟩ (λ_=>aW) (λ_=>aW) h
def af6(M117:az->Int->af pQ):bq:=(auJ M117 dw)
def ak1{M117}(h117:akg M117):bA vi (af6 M117):=(Vq h117 aV)
structure Gk where
 (t1 t5:Int)
 b0:az
def T4:Td 0 Gk:= .c [] [1,2,5] (.r 0 1 (ec 1 aN (ec 2 (qp 0 0) (ec 5 aN en))) (sb 0 137 (lg 137) sn) (λz=>⟨z.1.1,z.1.t.1,z.2.1⟩) (λx=>((x.t1,(),x.t5,()),(x.b0,()))))
def IG(M117:az->Int->af pQ)(p:Gk):af (af Gk):=
 match bif J (p.t5<zR p.b0.ax)then V (J (0<=p.t1))else V G with|I=>I|V r1=>bif r1 then if 0<=p.t5/\p.t5<zR p.b0.ax then match M117 (az.mk p.b0.ax[zD p.t5]!.bD p.b0.ax[zD p.t5]!.fN p.b0.ax[zD p.t5]!.ax) p.t1 with|I=>I|V r2=>V (V (Gk.mk r2 (aj (p.t5+1)) (az.mk p.b0.bD p.b0.fN p.b0.ax)))else I else V (I)
def Z5(M117:az->Int->af pQ):An:=(.two (.two (.rb [] 16) .no) .no)
def JB(M117:az->Int->af pQ):=bI (IG M117)
def apC(M117:az->Int->af pQ):An:=(noTwo (noTwo (.two (noTwo (T4.lp (JB M117) (Z5 M117))) .no)))
def aBK{M117}:∀f∈([]:aa Nat),bz (af6 M117) f:=aH
def aBh(M117:az->Int->af pQ):fe vi (af6 M117) 0 300 117 (apC M117):=b6 (l:=[(aZ f117 0,(T4.lp (JB M117) (Z5 M117))),(.skip,(.rb [] 16))]) func117 (bM aW) aW (aA (aO T4) (aA aBK aH))
def agE(M117:az->Int->af pQ)(a0:az)(a1:Int):af pQ:=
 match JB M117 (Gk.mk (aj (a1-1)) 0 (az.mk a0.bD a0.fN a0.ax))with|I=>I|V r3=>match bif J (r3.t5<zR r3.b0.ax)then V (J (0<=r3.t1))else V G with|I=>I|V r4=>bif r4 then if 0<=r3.t5/\r3.t5<zR r3.b0.ax then match M117 (az.mk r3.b0.ax[zD r3.t5]!.bD r3.b0.ax[zD r3.t5]!.fN r3.b0.ax[zD r3.t5]!.ax) r3.t1 with|I=>I|V r5=>I else I else V (r3.t1)
def aHS(M117:az->Int->af pQ)(a0:az)(a1:Int):bV vi (af6 M117) 300 (apC M117) 117 (avo.c (a0,a1,())) [] 0 d117.rd=agE M117 a0 a1:=aW
def apt:Nat->(az->Int->af pQ)
 |0=>(λ_ _=>I)
 |n+1=>(agE (apt n))
def Sm(n:Nat):az->Int->af pQ:=(apt n)
def Pg:∀n,akg (Sm n)
 |0=>λ_ _ h=>(by cases h)
 |n+1=>by
  have ih:=Pg n;have i117:=ih;exact(dR (ak1 i117) (aBh (Sm n)) (λ_=>aW) (λ_=>aW) λg=>aHS (Sm n) g.1 g.2.1)
def RL:az->Int->af pQ:=λa0 a1=>lim (λn=>Sm n a0 a1)
def aha:akg RL:=λg b h=>by
 obtain⟨n,hn⟩:=dD (show lim (λn=>Sm n g.1 g.2.1)=V b from h);exact(Pg n) g b hn
def avp(F:bq):bq:=auJ RL F
def Wp{F:bq}(h:bA vi F):bA vi (avp F):=Vq aha h
abbrev rO:=Int
def d116:Td 0 rO:= .c [] [4] (.r 0 0 (ec 4 aN en) sn (λz=>z.1.1) (λx=>((x,()),(()))))
def auE:=(lc (ql 166) (aU ln))
def auv(M:(aa aC)->Int->af rO):bq->bq:=eL vi 116 G auE d116 (λg=>M g.1 g.2.1)
def akI(M:(aa aC)->Int->af rO):Prop:=HL vi 116 auE d116 (λg=>M g.1 g.2.1)
def Xb{M:(aa aC)->Int->af rO}(hM:akI M){F:bq}(h:bA vi F):bA vi (auv M F):=ew (sc:=oF) di hM ⟨_,func116,aW,aW⟩ (λ_=>aW) (λ_=>aW) h
def amV(M116:(aa aC)->Int->af rO):bq:=(avp (auv M116 dw))
def ak4{M116}(h116:akI M116):bA vi (amV M116):=(Wp (Xb h116 aV))
structure FY where
 t0:List aC
 (t1 t5:Int)
def R8:Td 0 FY:= .c [] [0,1,5] (.r 0 0 (ec 0 (ql 166) (ec 1 aN (ec 5 aN en))) sn (λz=>⟨z.1.1,z.1.2.1,z.1.t.1⟩) (λx=>((x.t0,x.t1,x.t5,()),(()))))
def Ei(M116:(aa aC)->Int->af rO)(p:FY):af (af FY):=
 match bif J (p.t5<zR p.t0)then V (J (0<=p.t1))else V G with|I=>I|V r1=>bif r1 then if 0<=p.t5/\p.t5<zR p.t0 then match RL (az.mk p.t0[zD p.t5]!.aG.bD p.t0[zD p.t5]!.aG.fN p.t0[zD p.t5]!.aG.ax) (aj (p.t1-1))with|I=>I|V r2=>if 0<=p.t5/\p.t5<zR p.t0 then bif J (r2<(↑p.t0[zD p.t5]!.aR.length:Int))then V (I)else if 0<=p.t5/\p.t5<zR p.t0 then if 0<=p.t5/\p.t5<zR p.t0 then if 0<=p.t5/\p.t5<zR p.t0 then match M116 p.t0[zD p.t5]!.aQ (aj (r2-(↑p.t0[zD p.t5]!.aR.length:Int)))with|I=>I|V r3=>match M116 p.t0[zD p.t5]!.aX r3 with|I=>I|V r4=>V (V (FY.mk p.t0 r4 (aj (p.t5+1))))else I else I else I else I else I else V (I)
def ae7(M116:(aa aC)->Int->af rO):An:=(.two (.two (.rb [] 13) .no) .no)
def Jd(M116:(aa aC)->Int->af rO):=bI (Ei M116)
def aoF(M116:(aa aC)->Int->af rO):An:=(noTwo (.two (noTwo (R8.lp (Jd M116) (ae7 M116))) .no))
def aCG{M116}:∀f∈([]:aa Nat),bz (amV M116) f:=aH
def ayv(M116:(aa aC)->Int->af rO):fe vi (amV M116) 0 300 116 (aoF M116):=b6 (l:=[(aZ f116 0,(R8.lp (Jd M116) (ae7 M116))),(.skip,(.rb [] 13))]) func116 (bM aW) aW (aA (aO R8) (aA aCG aH))
def amD(M116:(aa aC)->Int->af rO)(a0:aa aC)(a1:Int):af rO:=
 match Jd M116 (FY.mk a0 a1 0)with|I=>I|V r5=>match bif J (r5.t5<zR r5.t0)then V (J (0<=r5.t1))else V G with|I=>I|V r6=>bif r6 then if 0<=r5.t5/\r5.t5<zR r5.t0 then match RL (az.mk r5.t0[zD r5.t5]!.aG.bD r5.t0[zD r5.t5]!.aG.fN r5.t0[zD r5.t5]!.aG.ax) (aj (r5.t1-1))with|I=>I|V r7=>if 0<=r5.t5/\r5.t5<zR r5.t0 then bif J (r7<(↑r5.t0[zD r5.t5]!.aR.length:Int))then V (-1)else if 0<=r5.t5/\r5.t5<zR r5.t0 then if 0<=r5.t5/\r5.t5<zR r5.t0 then if 0<=r5.t5/\r5.t5<zR r5.t0 then match M116 r5.t0[zD r5.t5]!.aQ (aj (r7-(↑r5.t0[zD r5.t5]!.aR.length:Int)))with|I=>I|V r8=>match M116 r5.t0[zD r5.t5]!.aX r8 with|I=>I|V r9=>I else I else I else I else I else I else V (r5.t1)
def aFv(M116:(aa aC)->Int->af rO)(a0:aa aC)(a1:Int):bV vi (amV M116) 300 (aoF M116) 116 (auE.c (a0,a1,())) [] 0 d116.rd=amD M116 a0 a1:=aW
def anO:Nat->((aa aC)->Int->af rO)
 |0=>(λ_ _=>I)
 |n+1=>(amD (anO n))
def SX(n:Nat):(aa aC)->Int->af rO:=(anO n)
def OE:∀n,akI (SX n)
 |0=>λ_ _ h=>(by cases h)
 |n+1=>by
  have ih:=OE n;have i116:=ih;exact(dR (ak4 i116) (ayv (SX n)) (λ_=>aW) (λ_=>aW) λg=>aFv (SX n) g.1 g.2.1)
def agS:(aa aC)->Int->af rO:=λa0 a1=>lim (λn=>SX n a0 a1)
def alH:akI agS:=λg b h=>by
 obtain⟨n,hn⟩:=dD (show lim (λn=>SX n g.1 g.2.1)=V b from h);exact(OE n) g b hn
def ayo(F:bq):bq:=auv agS F
def ahK{F:bq}(h:bA vi F):bA vi (ayo F):=Xb alH h
def F53:bq:=(avp (ayo dw))
structure NK where
 t7:Int
 t27:List dF
 (t28 t29:Int)
def abC:Td 0 NK:= .c [] [7,27,28,29] (.r 0 0 (ec 7 aN (ec 27 (ql 139) (ec 28 aN (ec 29 aN en)))) sn (λz=>⟨z.1.1,z.1.2.1,z.1.t.1,z.1.t.2.1⟩) (λx=>((x.t7,x.t27,x.t28,x.t29,()),(()))))
def Mq(p:NK):af (af NK):=
 bif J (p.t29<p.t28)then if 0<=p.t29/\p.t29<zR p.t27 then match RL (az.mk p.t27[zD p.t29]!.aG.bD p.t27[zD p.t29]!.aG.fN p.t27[zD p.t29]!.aG.ax) p.t7 with|I=>I|V r1=>V (V (NK.mk r1 p.t27 p.t28 (aj (p.t29+1))))else I else V (I)
def UP:=bI (Mq)
abbrev E53:=Bool
def d53:Td 0 E53:= .c [] [6] (.r 0 0 (ec 6 qb en) sn (λz=>z.1.1) (λx=>((x,()),(()))))
def aEx:∀f∈([]:aa Nat),bz (F53) f:=aH
def m53(a0:aS)(a1:Int)(a2:Int):af E53:=
 match bif J (a1<zR a0.ai)then V O else V (J (a1<zR a0.au))with|I=>I|V r2=>bif r2 then V G else match agS a0.bK a2 with|I=>I|V r3=>match UP (NK.mk r3 a0.au (zR a0.au) 0)with|I=>I|V r4=>bif J (r4.t29<r4.t28)then if 0<=r4.t29/\r4.t29<zR r4.t27 then match RL (az.mk r4.t27[zD r4.t29]!.aG.bD r4.t27[zD r4.t29]!.aG.fN r4.t27[zD r4.t29]!.aG.ax) r4.t7 with|I=>I|V r5=>I else I else V (J (0<=r4.t7))
def e53:=eL vi 53 G (lc (qg 26) (aU (aU ln))) d53 (λg=>m53 g.1 g.2.1 g.t.1)
def asV:EO e53:=λh=>kL (F:=F53) (an:=(noTwo (.two (.two (.rb [] 21) .no) (noTwo (.two (noTwo (abC.lp UP .no)) .no))))) (l:=[(.skip,(.rb [] 21)),(aZ f53 0,(abC.lp UP .no))]) func53 (Wp (ahK aV)) (aA aEx (aA (aO abC) aH)) h
def Mu:EP e53:=λh=>kP h
def az.eta(t:az):az.mk t.bD t.fN t.ax=t:=by cases t;rfl
def az.e9{t k:az}(h:k∈t.ax):zf k<zf t:=by
 cases t;have:=va h;simp only[az.mk.sizeOf_spec];simp only at this;omega
def nT(t:az):Nat:=1+(t.ax.attach.map λk=>nT k.1).sum
termination_by zf t
decreasing_by exact az.e9 k.2
def kH(l:aa az):Nat:=(l.map nT).sum
def vt(t:az):nT t=1+kH t.ax:=by
 rw[nT,kH];simp
def qd(k:az)(ks:aa az):kH (k::ks)=nT k+kH ks:=by simp[kH]
def VZ{k:az}{ks:aa az}(h:k∈ks):nT k<=kH ks:=by
 induction ks with
 |nil=>cases h
 |cons a ks ih=>
  rw[qd];rcases zy.1 h with rfl|h
  ·omega
  ·have:=ih h;omega
def adF(t:az):0<nT t:=by rw[vt];omega
def tl(t:az)(left:Int):Int:=if(nT t:Int)<=left then left-nT t else if 0<=left then-1 else left-1
def tls:aa az->Int->Int
 |[],l=>l
 |k::ks,l=>if 0<=l then tls ks (tl k l)else l
def adx:∀(ks:aa az) (l:Int),tls ks l=if 0<=l then(if(kH ks:Int)<=l then l-kH ks else-1)else l
 |[],l=>by simp[tls,kH];omega
 |k::ks,l=>by
  have e:=qd k ks;unfold tls;by_cases h:0<=l
  ·rw[bJ h,bJ h,adx ks,e];unfold tl;grind
  ·omega
def awm(t:az)(left:Int):tl t left=tls t.ax (left-1):=by
 rw[adx,tl,vt];grind
def ads(t:az)(l:Int):(0<=l-> -1<=tl t l/\tl t l<=l-1)/\(l<0->tl t l=l-1):=by
 have:=adF t;unfold tl;grind
def adw(M:az->Int->af pQ)(t:az)(hM:∀k∈t.ax,∀l:Int,0<=l->l<=1000->M k l=V (tl k l)):
  ∀(ks:aa az) (i:Nat) (l:Int),t.ax.drop i=ks->i+zR ks=zR t.ax->l<=1000-i->∃q,JB M ⟨l,i,t⟩=V q/\q.t1=tls ks l/\q.b0=t/\(q.t5<zR t.ax->q.t1<0)
 |[],i,l,hd,hl,_=>by
  refine⟨_,ct λr=> ?_,rfl,rfl,λh=> ?_⟩
  ·have:¬((i:Int)<zR t.ax):=by simp at hl;omega
   simp[IG,this]
  ·simp at hl h;omega
 |k::ks,i,l,hd,hl,h2=>by
  have hil:i<zR t.ax:=by simp at hl;omega
  have hki:t.ax[i]! =k:=by
   have:t.ax[i]? =V k:=by
    have:=congrArg List.head? hd;rw[List.head?_drop]at this
    assumption
   rw[List.getElem!_eq_getElem?_getD,this];rfl
  have hmem:k∈t.ax:=by rw[<-hki,getElem!_pos t.ax i hil];exact xO hil
  by_cases h0:0<=l
  ·have hd':t.ax.drop (i+1)=ks:=by
    have:=congrArg List.tail hd;rw[List.tail_drop]at this
    assumption
   have b3:=((ads k l).1 h0).2;obtain⟨q,e1,e2,e3,e4⟩:=adw M t hM ks (i+1) (tl k l) hd' (by simp at hl;omega) aq;refine⟨q,?_,?_,e3,e4⟩
   ·rw[<-e1];refine bR ?_;have hw:aj ((i:Int)+1)=((i+1:Nat):Int):=by rw[aM];omega
    have hk2:t.ax[i]=k:=by rw[<-hki,getElem!_pos t.ax i hil]
    simp[IG,hil,h0,hk2,az.eta,hM k hmem l h0 aq];exact hw
   ·rw[e2];show _=if 0<=l then _ else _
    omega
  ·refine⟨_,ct λr=> ?_,?_,rfl,λh=> ?_⟩
   ·simp[IG,h0]
   ·show l=if 0<=l then _ else l
    omega
   ·simp only;omega
def aiF(M:az->Int->af pQ)(t:az)(hM:∀k∈t.ax,∀l:Int,0<=l->l<=1000->M k l=V (tl k l))(l:Int)(h1: -1000000<=l)(h2:l<=1000):agE M t l=V (tl t l):=by
 obtain⟨q,e1,e2,e3,e4⟩:=adw M t hM t.ax 0 (l-1) rfl (by simp) aq;have hw:aj (l-1)=l-1:=aM;rw[awm,<-e2];unfold agE;rw[hw,az.eta,show ((0:Nat):Int)=0 from rfl]at*;rw[e1];obtain⟨q1,q5,qb⟩:=q;subst e3;dsimp only at*;by_cases h5:q5<(zR qb.ax:Int)
 ·have:=e4 h5;simp[show ¬(0<=q1)by omega]
 ·simp[h5]
def Ww:∀(n:Nat) (t:az) (l:Int),zf t<n-> -1000000<=l->l<=1000->Sm n t l=V (tl t l)
 |0,_,_,h,_,_=>aq
 |n+1,t,l,h,h1,h2=>aiF (Sm n) t (λk hk l h3 h4=>Ww n k l (by have:=az.e9 hk;omega) aq h4) l h1 h2
def LS(t:az)(l:Int)(h1: -1000000<=l)(h2:l<=1000):RL t l=V (tl t l):=eO (zf t+1) λn hn=>Ww n t l aq h1 h2
def aC.then_lt{s k:aC}(h:k∈s.aQ):zf k<zf s:=by
 cases s;have:=va h;simp only[aC.mk.sizeOf_spec];simp only at this;omega
def aC.ahC{s k:aC}(h:k∈s.aX):zf k<zf s:=by
 cases s;have:=va h;simp only[aC.mk.sizeOf_spec];simp only at this;omega
def aC.eta(s:aC):aC.mk s.cg s.bh s.dM s.fN s.aG s.aQ s.aX s.aR=s:=by cases s;rfl
def nS(s:aC):Nat:=1+nT s.aG+zR s.aR+(s.aQ.attach.map λk=>nS k.1).sum+(s.aX.attach.map λk=>nS k.1).sum
termination_by zf s
decreasing_by
 ·exact aC.then_lt k.2
 ·exact aC.ahC k.2
def fP(l:aa aC):Nat:=(l.map nS).sum
def pM(s:aC):nS s=1+nT s.aG+zR s.aR+fP s.aQ+fP s.aX:=by
 rw[nS,fP,fP];simp
def ny(k:aC)(ks:aa aC):fP (k::ks)=nS k+fP ks:=by simp[fP]
def sl(l:aa aC)(left:Int):Int:=if left<0 then left else if(fP l:Int)<=left then left-fP l else-1
def th(left:Int)(s:aC):af Int:=if left<0 then I else if tl s.aG (left-1)<zR s.aR then I else V (sl s.aX (sl s.aQ (tl s.aG (left-1)-s.aR.length)))
def OH{left x:Int}{s:aC}(h:th left s=V x):0<=left/\ -1<=x/\x<=left-1/\x=if(nS s:Int)<=left then left-nS s else-1:=by
 unfold th at h;have e:=pM s;unfold tl sl at h;grind
def RH{left:Int}{s:aC}(h:th left s=I)(h0:0<=left):left<nS s:=by
 unfold th at h;have e:=pM s;unfold tl at h;grind
def ao7:∀(l:aa aC) (left:Int),kX th (λv _=>if v<0 then v else-1) id l left=sl l left
 |[],left=>by unfold sl;simp[fP,kX];omega
 |s::l,left=>by
  have e:=ny s l;unfold kX;cases hs:th left s with
  |none=>
   have:=RH hs;unfold sl;grind
  |some x=>
   obtain⟨h1,h2,h3,h4⟩:=OH hs;dsimp only;rw[ao7 l x];unfold sl;grind
def agw(M:aa aC->Int->af rO)(l:aa aC)(hM:∀s∈l,(∀x:Int,-1<=x->x<=1000->M s.aQ x=V (sl s.aQ x))/\(∀x:Int,-1<=x->x<=1000->M s.aX x=V (sl s.aX x)))(left:Int)(h1: -1<=left)(h2:left<=1000):
  amD M l left=V (sl l left):=by
 have hstep:∀(i:Nat) (b:Int) (hi:i<zR l),b<=1000-i-> -1<=b->Ei M ⟨l,b,i⟩=if b<0 then V I else if tl l[i].aG (b-1)<zR l[i].aR then V I else V (V ⟨l,sl l[i].aX (sl l[i].aQ (tl l[i].aG (b-1)-l[i].aR.length)),((i+1:Nat):Int)⟩):=λi b hi hb hb2=>by
  obtain⟨m1,m2⟩:=hM l[i] (xO hi);unfold Ei;by_cases h0:b<0
  ·simp[show ¬0<=b by omega]
  ·have e1:aj (b-1)=b-1:=aM;have e2:=LS l[i].aG (b-1) aq aq;have e3:=ads l[i].aG (b-1);have hT: -2<=tl l[i].aG (b-1)/\tl l[i].aG (b-1)<=1000:=by grind
   by_cases h4:tl l[i].aG (b-1)<zR l[i].aR
   ·simp[hi,e1,az.eta,e2,h4]
   ·have e5:aj (tl l[i].aG (b-1)-l[i].aR.length)=tl l[i].aG (b-1)-l[i].aR.length:=aM;have e6:=m1 (tl l[i].aG (b-1)-l[i].aR.length) aq aq;have hS: -1<=sl l[i].aQ (tl l[i].aG (b-1)-l[i].aR.length)/\sl l[i].aQ (tl l[i].aG (b-1)-l[i].aR.length)<=1000:=by unfold sl;grind
    have e7:=m2 _ hS.1 hS.2;have e8:aj ((i:Int)+1)=((i+1:Nat):Int):=by rw[aM];omega
    simp[hi,h0,e1,az.eta,e2,h4,e5,e6,e7,show 0<=b by omega];exact e8
 obtain⟨i,v,hi,e1,⟨e2,e3⟩,e4⟩:=Iu (rnd:=Ei M) l (λi b=>⟨l,b,(i:Int)⟩) th (λv _=>if v<0 then v else-1) id (λi b=>b<=1000-i/\ -1<=b) (λi b hi hI b' hs=>by
   obtain⟨q1,q2,q3,q4⟩:=OH hs;refine⟨?_,aq,q2⟩;unfold th at hs;grind) (λi b hi hI hs r=>by
   unfold th at hs;grind) (λb hI r=>by simp[Ei]) (b:=left) ⟨aq,h1⟩
 have e1':Jd M ⟨l,left,0⟩=V ⟨l,v,i⟩:=e1;unfold amD;rw[e1'];rw[ao7]at e4;rcases e4 with ⟨h5,e4⟩|⟨h5,hn,e4⟩
 ·simp[h5,e4]
 ·rw[e4];by_cases h0:v<0
  ·simp[h5,h0,show ¬(0<=v)by omega]
  ·have e1:aj (v-1)=v-1:=aM;have e2:=LS l[i].aG (v-1) aq aq;have h4:tl l[i].aG (v-1)<zR l[i].aR:=by unfold th at hn;grind
   simp[h5,h0,show 0<=v by omega,e1,az.eta,e2,h4]
def bw{s:aC}{l:aa aC}(h:s∈l):zf s.aQ<zf l/\zf s.aX<zf l:=by
 have:=va h;cases s;simp only[aC.mk.sizeOf_spec]at this;simp only;omega
def Ks:∀(n:Nat) (l:aa aC) (x:Int),zf l<n-> -1<=x->x<=1000->SX n l x=V (sl l x)
 |0,_,_,h,_,_=>aq
 |n+1,l,x,h,h1,h2=>agw (SX n) l (λs hs=>⟨λx h3 h4=>Ks n _ x (by have:=bw hs;omega) h3 h4,λx h3 h4=>Ks n _ x (by have:=bw hs;omega) h3 h4⟩) x h1 h2
def aku(l:aa aC)(x:Int)(h1: -1<=x)(h2:x<=1000):agS l x=V (sl l x):=eO (zf l+1) λn hn=>Ks n l x aq h1 h2
def few(f:aS)(vars nodes:Int):Bool:=J ((zR f.ai:Int)<=vars/\(zR f.au:Int)<=vars/\(fP f.bK+kH (f.au.map (·.aG)):Int)<=nodes)
def auo(f:aS)(vars nodes:Int)(h1:0<=vars)(h2:vars<=1000)(h3:0<=nodes)(h4:nodes<=1000):m53 f vars nodes=V (few f vars nodes):=by
 unfold m53;by_cases q1:vars<zR f.ai
 ·simp[q1,few];omega
 ·by_cases q2:vars<zR f.au
  ·simp[q2,few];omega
  ·rw[aku _ _ aq aq];have hb:sl f.bK nodes<=1000/\ -1<=sl f.bK nodes:=by unfold sl;grind
   have hstep:∀(i:Nat) (b:Int) (hi:i<zR f.au),b<=1000-> -1-(i:Int)<=b->Mq ⟨b,f.au,zR f.au,i⟩=V (V ⟨tl f.au[i].aG b,f.au,zR f.au,((i+1:Nat):Int)⟩):=λi b hi hb hb2=>by
    have e2:=LS f.au[i].aG b aq aq;have e8:aj ((i:Int)+1)=((i+1:Nat):Int):=by rw[aM];omega
    unfold Mq;simp[hi,az.eta,e2];exact e8
   obtain⟨i,v,hi,e1,_,e4⟩:=Iu (rnd:=Mq) f.au (λi b=>⟨b,f.au,zR f.au,(i:Int)⟩) (λb h=>V (tl h.aG b)) (λv _=>v) id (λi b=>b<=1000/\ -1-(i:Int)<=b) (λi b hi hI b' hs=>by
     have:=ads f.au[i].aG b;grind) (λi b hi hI hs r=>by cases hs) (λb hI r=>by simp[Mq]) (b:=sl f.bK nodes) ⟨hb.1,aq⟩
   have e1':UP ⟨sl f.bK nodes,f.au,zR f.au,0⟩=V ⟨v,f.au,zR f.au,i⟩:=e1;rcases e4 with ⟨h5,e4⟩|⟨_,hn,_⟩
   case inr=>cases hn
   have key:∀(l:aa dF) (b:Int),0<=kX (S:=Int) (λb h=>V (tl h.aG b)) (λv _=>v) id l b↔(kH (l.map (·.aG)):Int)<=b:=λl=>by
    induction l with
    |nil=>intro b;simp[kX,kH]
    |cons h l ih=>
     intro b;unfold kX;rw[ih,yf,qd];unfold tl;grind
   have k2:=key f.au (sl f.bK nodes);rw[e4]at k2;have k3:(0<=v)↔(kH (f.au.map (·.aG)):Int)<=sl f.bK nodes:=k2;simp only[q1,q2,CC,cv,e1',h5,yg,few]
   congr 1
   rw[decide_eq_decide,k3];unfold sl;grind
def Z0:((0:Nat):Int)=(0:Int):=rfl
def okc(i:Nat)(c:Int):Bool:=J ((97<=c/\c<=122)\/(i≠0/\((48<=c/\c<=57)\/c=46\/c=95)))
def kD(s:ByteArray):Bool:=J (1<=s.size)&&J (s.size<=40)&&(zN s.size).all λi=>okc i (cw s i)
def jB(low high:Int):Bool:=J (low<=high/\ -1048576<=low/\high<=1048576)
def mY(vars:aa bg)(i:Nat)(v:bg):Int:=
 if kD v.fName=G then 7
 else if((vars.take i).any λw=>w.fName.toList==v.fName.toList)=O then 8
 else if v.bB<0\/3<v.bB then 1
 else if jB v.ah v.ag=G then 3
 else if v.bB=0 then(if v.eH<v.ah\/v.ag<v.eH then 3 else 0)
 else if v.eH=0 then 0 else 3
def uJ(kind:Int):aa bg->Int->af Int
 |[],n=>V n
 |v::vs,n=>if v.bB=kind then(if 4096<n*(v.ag-v.ah+1)then I else uJ kind vs (n*(v.ag-v.ah+1)))else uJ kind vs n
def E4(vars:aa bg):Bool:=(uJ 1 vars 1).isSome&&(uJ 2 vars 1).isSome&&(match uJ 3 vars 1 with|V n=>J (n<=256)|I=>G)
def jJ(vars:aa bg):Int:=if cz (mY vars) vars 0≠0 then cz (mY vars) vars 0 else if E4 vars=O then 0 else 4
def cq(o:Int):Int×Int:=if o=0\/o=24 then(0,0)else if o=6\/o=7 then(1,1)else if 8<=o/\o<=22 then(2,2)else if o=23 then(3,3)else if o=25 then(2,33)else(-1,-1)
def CQ(vars:aa bg)(inp:Bool)(t:az):Bool:=J (0<=(cq t.bD).1/\(cq t.bD).1<=zR t.ax/\(zR t.ax:Int)<=(cq t.bD).2)&&
 (if t.bD=0 then O else if t.bD=24 then J (0<=t.fN/\t.fN<zR vars)&& !(inp&&J (vars[t.fN.toNat]!.bB=0))else J (t.fN=0))
def dJ(vars:aa bg)(inp:Bool)(t:az):Bool:=CQ vars inp t&&t.ax.attach.all λk=>dJ vars inp k.1
termination_by zf t
decreasing_by exact az.e9 k.2
def lX(vars:aa bg)(inp:Bool)(t:az):dJ vars inp t=(CQ vars inp t&&t.ax.all (dJ vars inp)):=by
 rw[dJ];simp
def gm(a b:Span):Span:=⟨if b.ah<a.ah then b.ah else a.ah,if a.ag<b.ag then b.ag else a.ag⟩
def jq(vars:aa bg)(t:az)(k:aa Span):Span:=
 if t.bD=0 then⟨t.fN,t.fN⟩
 else if t.bD=24 then⟨vars[t.fN.toNat]!.ah,vars[t.fN.toNat]!.ag⟩
 else if t.bD=6 then⟨-k[0]!.ag,-k[0]!.ah⟩
 else if t.bD=8 then⟨k[0]!.ah+k[1]!.ah,k[0]!.ag+k[1]!.ag⟩
 else if t.bD=9 then⟨k[0]!.ah-k[1]!.ag,k[0]!.ag-k[1]!.ah⟩
 else if t.bD=10 then
  gm (gm (gm ⟨k[0]!.ah*k[1]!.ah,k[0]!.ah*k[1]!.ah⟩ ⟨k[0]!.ah*k[1]!.ag,k[0]!.ah*k[1]!.ag⟩) ⟨k[0]!.ag*k[1]!.ah,k[0]!.ag*k[1]!.ah⟩) ⟨k[0]!.ag*k[1]!.ag,k[0]!.ag*k[1]!.ag⟩
 else if t.bD=11 then
  (if(0:Int)<=k[0]!.ah/\(0:Int)<=k[1]!.ah then⟨0,if k[0]!.ag< -k[0]!.ah then-k[0]!.ah else k[0]!.ag⟩else⟨-(if k[0]!.ag< -k[0]!.ah then-k[0]!.ah else k[0]!.ag),if k[0]!.ag< -k[0]!.ah then-k[0]!.ah else k[0]!.ag⟩)
 else if t.bD=12 then⟨if k[1]!.ah<0 then k[1]!.ah+1 else 0,if(0:Int)<k[1]!.ag then k[1]!.ag-1 else 0⟩
 else if t.bD=21 then⟨if k[1]!.ah<k[0]!.ah then k[1]!.ah else k[0]!.ah,if k[1]!.ag<k[0]!.ag then k[1]!.ag else k[0]!.ag⟩
 else if t.bD=22 then⟨if k[0]!.ah<k[1]!.ah then k[1]!.ah else k[0]!.ah,if k[0]!.ag<k[1]!.ag then k[1]!.ag else k[0]!.ag⟩
 else if t.bD=23\/t.bD=25 then(k.drop 2).foldl gm k[1]!
 else⟨0,1⟩
def BA(s:Span):Bool:=J (-1048576<=s.ah/\s.ag<=1048576)
def mC:aa (af Span)->af (aa Span)
 |[]=>V []
 |none::_=>I
 |some s::xs=>match mC xs with|V l=>V (s::l)|I=>I
def iM(vars:aa bg)(t:az):af Span:=match mC (t.ax.attach.map λk=>iM vars k.1)with
 |none=>I
 |some l=>if BA (jq vars t l)=O then V (jq vars t l)else I
termination_by zf t
decreasing_by exact az.e9 k.2
def Aq(vars:aa bg)(t:az):iM vars t=match mC (t.ax.map (iM vars))with
 |none=>I
 |some l=>if BA (jq vars t l)=O then V (jq vars t l)else I:=by
 rw[iM];simp
def fG(vars:aa bg)(inp:Bool)(t:az):Int:=if dJ vars inp t=G then 1 else if(iM vars t).isSome then 0 else 3
def kR(f:aS)(i:Nat)(h:dF):Int:=
 if kD h.fName=G then 7
 else if((f.au.take i).any λw=>w.fName.toList==h.fName.toList)=O then 8
 else if jB h.ah h.ag=G then 3
 else fG f.ai O h.aG
def dT(t:az):Int:=1+(t.ax.attach.map λk=>dT k.1).foldl max 0
termination_by zf t
decreasing_by exact az.e9 k.2
def Qa(l:aa az):Int:=(l.map dT).foldl max 0
def Um(t:az):dT t=1+Qa t.ax:=by
 rw[dT,Qa];simp
def FM(l:aa az)(k:az):Qa (l++[k])=max (Qa l) (dT k):=by
 unfold Qa;simp
def qa(l:aa az)(k:az):kH (l++[k])=kH l+nT k:=by
 simp[kH]
def vk:∀(l:aa Int) (a:Int),a<=l.foldl max a
 |[],a=>zw _
 |x::l,a=>xV (Int.le_max_left a x) (vk l (max a x))
def Ku(l:aa az):0<=Qa l:=vk _ _
def asz(t:az):1<=dT t:=by have:=Ku t.ax;rw[Um];omega
def ei(s:aC)(l:aa aC):zf l<zf (s::l):=by
 rw[List.cons.sizeOf_spec];omega
def jP:aa aC->Int
 |[]=>0
 |s::l=>max (max (jP s.aQ+1) (jP s.aX+1)) (jP l)
termination_by l=>zf l
decreasing_by
 ·exact(bw (zk ..)).1
 ·exact(bw (zk ..)).2
 ·exact ei _ _
def fL:aa aC->Bool
 |[]=>G
 |s::l=>J (12<dT s.aG)||fL s.aQ||fL s.aX||fL l
termination_by l=>zf l
decreasing_by
 ·exact(bw (zk ..)).1
 ·exact(bw (zk ..)).2
 ·exact ei _ _
def v8(l:aa aC):0<=jP l:=by
 induction l with
 |nil=>rw[jP];omega
 |cons s l ih=>rw[jP];omega
def acJ(l:aa aC)(s:aC):jP (l++[s])=max (jP l) (max (jP s.aQ+1) (jP s.aX+1)):=by
 induction l with
 |nil=>
  rw[yz,show jP []=0 by rw[jP],jP,show jP []=0 by rw[jP]];omega
 |cons a l ih=>rw[xy,jP,jP,ih];omega
def NI(l:aa aC)(k:aC):fP (l++[k])=fP l+nS k:=by simp[fP]
def ry(f:aS):Bool:=J (zR f.ai<=64)&&J (zR f.au<=8)&&f.au.all (λh=>J (dT h.aG<=12))&&J (jP f.bK<=12)&& !fL f.bK
def gG:aa Int->Bool
 |a::b::l=>J (a<b)&&gG (b::l)
 |_=>O
def CL(t:az):Bool:=J (t.bD=0/\t.fN=0/\zR t.ax=0)
def Cm(f:aS)(s:aC):Bool:=J (0<=s.dM/\s.dM<zR f.ai)&&J (f.ai[s.dM.toNat]!.bB=0)
def dL(f:aS)(s:aC)(last:Bool):Bool:=
 let free:=J (zR s.aQ=0/\zR s.aX=0)
 let nob:=J (zR s.aR=0)
 if s.cg=0 then free&&Cm f s&&J (s.fN=0)&&nob
 else if s.cg=1 then free&&J (s.dM=0)&&J (s.fN=0)&&nob
 else if s.cg=2 then free&&J (s.dM=0)&&J (s.fN=0)&&nob&&CL s.aG
 else if s.cg=3 then J (s.dM=0)&&J (s.fN=0)&&nob
 else if s.cg=4 then J (s.dM=0)&&J (zR s.aX=0)&&nob
 else if s.cg=5 then free&&Cm f s&&J (0<=s.fN/\s.fN<zR f.au)&&nob&&CL s.aG
 else if s.cg=6 then free&&last&&J (s.dM=0)&&J (s.fN=0)&&CL s.aG&&(J (1<=zR s.aR/\zR s.aR<=32)&&J ((0:Int)<=s.aR[0]!)&&gG s.aR)
 else G
def uA(s:aC):Bool:=J (0<=s.bh/\s.bh<=(if s.cg=2 then 67108864 else 10000))&&(if s.cg=4 then J (0<=s.fN/\s.fN<=4096)else O)&&(if s.cg=6 then J (s.aR[zR s.aR-1]!<=67108864)else O)
def o6(f:aS)(last:Bool)(s:aC):Int:=if dL f s last=G then 1 else if uA s=G then 3 else fG f.ai G s.aG
def cc(f:aS)(top:Bool):aa aC->Int
 |[]=>0
 |s::l=>if o6 f (top&&l.isEmpty) s≠0 then o6 f (top&&l.isEmpty) s else if cc f G s.aQ≠0 then cc f G s.aQ else if cc f G s.aX≠0 then cc f G s.aX else cc f top l
termination_by l=>zf l
decreasing_by
 all_goals first|exact(bw (zk ..)).1|exact(bw (zk ..)).2|exact ei _ _
def ZD(f:aS)(top:Bool)(n i:Nat)(s:aC):Int:=if o6 f (top&&J (i+1=n)) s≠0 then o6 f (top&&J (i+1=n)) s else if cc f G s.aQ≠0 then cc f G s.aQ else cc f G s.aX
def qI(f:aS)(top:Bool)(n:Nat):∀(l:aa aC) (i:Nat),i+zR l=n->cz (ZD f top n) l i=cc f top l
 |[],i,_=>by rw[cc];rfl
 |s::l,i,h=>by
  have ih:=qI f top n l (i+1) (by simp at h;omega);have he:l.isEmpty=J (i+1=n):=by
   cases l with
   |nil=>simp at h;simp[h]
   |cons a l=>simp at h;simp;omega
  unfold cz;rw[cc,ih,he];unfold ZD;grind
def fk:aa aC->Int×Int×Int
 |[]=>(0,0,0)
 |s::l=>match fk s.aQ,fk s.aX,fk l with
  |a,b,c=>if s.cg=1 then(1+c.1,1+c.2.1,s.bh+c.2.2)
   else if s.cg=3 then(1+max a.1 b.1+c.1,max a.2.1 b.2.1+c.2.1,s.bh+max a.2.2 b.2.2+c.2.2)
   else if s.cg=4 then(1+s.fN*(1+a.1)+c.1,s.fN*a.2.1+c.2.1,s.fN*(s.bh+a.2.2)+c.2.2)
   else(1+c.1,c.2.1,s.bh+c.2.2)
termination_by l=>zf l
decreasing_by
 ·exact(bw (zk ..)).1
 ·exact(bw (zk ..)).2
 ·exact ei _ _
def Ur(f:aS):Bool:=J (4096<(fk f.bK).1\/8<(fk f.bK).2.1\/67108864<(fk f.bK).2.2)
def pL(f:aS):Int:=if ry f=G then 4 else if jJ f.ai≠0 then jJ f.ai else if cz (kR f) f.au 0≠0 then cz (kR f) f.au 0 else if cc f O f.bK≠0 then cc f O f.bK else if Ur f=O then 4 else 0
def aqY:bq:=dw
abbrev asr:=Bool×bk
def d208:Td 1 asr:= .c [] [2] (.r 1 1 (ec 2 qb en) (sb 0 256 (lg 256) sn) (λz=>(z.1.1,z.2.1)) (λx=>((x.1,()),(x.2,()))))
def azk:=(lc (qp 0 0) ln)
def aw2:=(sb 0 256 (lg 256) sn)
def aoj:An:=(noTwo (.two (.rb [] 2) .no))
def axY:∀f∈([]:aa Nat),bz (aqY) f:=aH
def jH(b0:bk):asr:=
 let r1:Bool:=bif b0.fQ then O else J (1024<b0.bH);(r1,b0)
def aGu(b0:bk):bV vi (aqY) 300 (aoj) 208 (azk.c ((),())) (aw2.d (b0,())) 1 d208.rd=V (jH b0):=by
 refine Eq.trans (b:=(
  match bif b0.fQ then V (O)else V (J (1024<b0.bH))with|I=>I|V r1=>V ((r1,b0)):af asr)) aW ?_
 simp only[jH,cu,cQ]
def anf:bq->bq:=eY vi 208 1 azk aw2 d208 (λg=>V (jH g.2.1))
def Ka:EO anf:=λh=>kY (F:=aqY) (an:=aoj) (l:=[(.skip,(.rb [] 2))]) func208 aV (aA axY aH) h (c:=λg=>aGu g.2.1)
abbrev s8:=bk
def d209:Td 1 s8:= .c [] [] (.r 1 1 en (sb 0 256 (lg 256) sn) (λz=>z.2.1) (λx=>((()),(x,()))))
def aqK:=(lc (qp 0 0) (lc (qg 137) (aU ln)))
def asN:=(sb 0 256 (lg 256) sn)
def aro(M:az->Int->bk->af s8):bq->bq:=eY vi 209 1 aqK asN d209 (λg=>M g.1.2.1 g.1.2.2.1 g.2.1)
def agI(M:az->Int->bk->af s8):Prop:=HY vi 209 1 aqK asN d209 (λg=>M g.1.2.1 g.1.2.2.1 g.2.1)
def WS{M:az->Int->bk->af s8}(hM:agI M){F:bq}(h:bA vi F):bA vi (aro M F):=CO hM ⟨_,func209,aW,aW⟩ (λ_=>aW) h
def aqM(M209:az->Int->bk->af s8):bq:=(aro M209 (anf dw))
def al1{M209}(h209:agI M209):bA vi (aqM M209):=(WS h209 (Ka aV))
structure BZ where
 t2:Int
 t29:List az
 (t30 t31:Int)
 b0:bk
def SH:Td 1 BZ:= .c [] [0,2,29,30,31] (.r 1 1 (ec 0 (qp 0 0) (ec 2 aN (ec 29 (ql 137) (ec 30 aN (ec 31 aN en))))) (sb 0 256 (lg 256) sn) (λz=>⟨z.1.2.1,z.1.t.1,z.1.t.2.1,z.1.q.1,z.2.1⟩) (λx=>(((),x.t2,x.t29,x.t30,x.t31,()),(x.b0,()))))
def Jr(M209:az->Int->bk->af s8)(p:BZ):af (af BZ):=
 bif J (p.t31<p.t30)then if 0<=p.t31/\p.t31<zR p.t29 then match M209 (az.mk p.t29[zD p.t31]!.bD p.t29[zD p.t31]!.fN p.t29[zD p.t31]!.ax) (aj (p.t2+1)) p.b0 with|I=>I|V r1=>V (V (BZ.mk p.t2 p.t29 p.t30 (aj (p.t31+1)) r1))else I else V (I)
def F9(M209:az->Int->bk->af s8):=bI (Jr M209)
def ao5(M209:az->Int->bk->af s8):An:=(noTwo (noTwo (noTwo (noTwo (noTwo (SH.lp (F9 M209) .no))))))
def aAL(M209:az->Int->bk->af s8):fe vi (aqM M209) 1 300 209 (ao5 M209):=b6 (l:=[(aZ f209 0,(SH.lp (F9 M209) .no))]) func209 (bM aW) aW (aA (aO SH) aH)
def al5(M209:az->Int->bk->af s8)(a1:az)(a2:Int)(b0:bk):af s8:=
 bif b0.fQ then bif(jH (bk.mk (aj (b0.bH+1)) O)).fst then V ((jH (bk.mk (aj (b0.bH+1)) O)).snd)else match F9 M209 (BZ.mk a2 a1.ax (zR a1.ax) 0 (jH (bk.mk (aj (b0.bH+1)) O)).snd)with|I=>I|V r2=>bif J (r2.t31<r2.t30)then if 0<=r2.t31/\r2.t31<zR r2.t29 then match M209 (az.mk r2.t29[zD r2.t31]!.bD r2.t29[zD r2.t31]!.fN r2.t29[zD r2.t31]!.ax) (aj (r2.t2+1)) r2.b0 with|I=>I|V r3=>I else I else V (r2.b0)else bif(jH (bk.mk (aj (b0.bH+1)) (J (12<a2)))).fst then V ((jH (bk.mk (aj (b0.bH+1)) (J (12<a2)))).snd)else match F9 M209 (BZ.mk a2 a1.ax (zR a1.ax) 0 (jH (bk.mk (aj (b0.bH+1)) (J (12<a2)))).snd)with|I=>I|V r4=>bif J (r4.t31<r4.t30)then if 0<=r4.t31/\r4.t31<zR r4.t29 then match M209 (az.mk r4.t29[zD r4.t31]!.bD r4.t29[zD r4.t31]!.fN r4.t29[zD r4.t31]!.ax) (aj (r4.t2+1)) r4.b0 with|I=>I|V r5=>I else I else V (r4.b0)
def aGP(M209:az->Int->bk->af s8)(a1:az)(a2:Int)(b0:bk):bV vi (aqM M209) 300 (ao5 M209) 209 (aqK.c ((),a1,a2,())) (asN.d (b0,())) 1 d209.rd=al5 M209 a1 a2 b0:=aW
def aoY:Nat->(az->Int->bk->af s8)
 |0=>(λ_ _ _=>I)
 |n+1=>(al5 (aoY n))
def TP(n:Nat):az->Int->bk->af s8:=(aoY n)
def Ng:∀n,agI (TP n)
 |0=>λ_ _ h=>(by cases h)
 |n+1=>by
  have ih:=Ng n;have i209:=ih;exact(WX (al1 i209) (aAL (TP n)) (λ_=>aW) (λ_=>aW) (λ_=>aW) λg=>aGP (TP n) g.1.2.1 g.1.2.2.1 g.2.1)
def GS:az->Int->bk->af s8:=λa1 a2 b0=>lim (λn=>TP n a1 a2 b0)
def alD:agI GS:=λg b h=>by
 obtain⟨n,hn⟩:=dD (show lim (λn=>TP n g.1.2.1 g.1.2.2.1 g.2.1)=V b from h);exact(Ng n) g b hn
def aql(F:bq):bq:=aro GS F
def WV{F:bq}(h:bA vi F):bA vi (aql F):=WS alD h
abbrev td:=bk
def d207:Td 1 td:= .c [] [] (.r 1 1 en (sb 0 256 (lg 256) sn) (λz=>z.2.1) (λx=>((()),(x,()))))
def asn:=(lc (qp 0 0) (lc (ql 166) (aU ln)))
def atL:=(sb 0 256 (lg 256) sn)
def ar6(M:(aa aC)->Int->bk->af td):bq->bq:=eY vi 207 1 asn atL d207 (λg=>M g.1.2.1 g.1.2.2.1 g.2.1)
def ahb(M:(aa aC)->Int->bk->af td):Prop:=HY vi 207 1 asn atL d207 (λg=>M g.1.2.1 g.1.2.2.1 g.2.1)
def U5{M:(aa aC)->Int->bk->af td}(hM:ahb M){F:bq}(h:bA vi F):bA vi (ar6 M F):=CO hM ⟨_,func207,aW,aW⟩ (λ_=>aW) h
def auV(M207:(aa aC)->Int->bk->af td):bq:=(aql (anf (ar6 M207 dw)))
def amH{M207}(h207:ahb M207):bA vi (auV M207):=(WV (Ka (U5 h207 aV)))
structure BE where
 t2:Int
 t8:List aC
 (t9 t10:Int)
 b0:bk
def QC:Td 1 BE:= .c [] [0,2,8,9,10] (.r 1 1 (ec 0 (qp 0 0) (ec 2 aN (ec 8 (ql 166) (ec 9 aN (ec 10 aN en))))) (sb 0 256 (lg 256) sn) (λz=>⟨z.1.2.1,z.1.t.1,z.1.t.2.1,z.1.q.1,z.2.1⟩) (λx=>(((),x.t2,x.t8,x.t9,x.t10,()),(x.b0,()))))
def Gs(M207:(aa aC)->Int->bk->af td)(p:BE):af (af BE):=
 bif J (p.t10<p.t9)then if 0<=p.t10/\p.t10<zR p.t8 then bif p.b0.fQ then bif(jH (bk.mk (aj (p.b0.bH+1)) O)).fst then V (I)else match GS (az.mk p.t8[zD p.t10]!.aG.bD p.t8[zD p.t10]!.aG.fN p.t8[zD p.t10]!.aG.ax) 1 (jH (bk.mk (aj (p.b0.bH+1)) O)).snd with|I=>I|V r1=>match M207 p.t8[zD p.t10]!.aQ (aj (p.t2+1)) r1 with|I=>I|V r2=>match M207 p.t8[zD p.t10]!.aX (aj (p.t2+1)) r2 with|I=>I|V r3=>V (V (BE.mk p.t2 p.t8 p.t9 (aj (p.t10+1)) r3))else bif(jH (bk.mk (aj (p.b0.bH+1)) (J (12<(((),p.t2,p.t8,p.t9,p.t10,()),p.b0,()).fst.snd.fst)))).fst then V (I)else match GS (az.mk p.t8[zD p.t10]!.aG.bD p.t8[zD p.t10]!.aG.fN p.t8[zD p.t10]!.aG.ax) 1 (jH (bk.mk (aj (p.b0.bH+1)) (J (12<(((),p.t2,p.t8,p.t9,p.t10,()),p.b0,()).fst.snd.fst)))).snd with|I=>I|V r4=>match M207 p.t8[zD p.t10]!.aQ (aj (p.t2+1)) r4 with|I=>I|V r5=>match M207 p.t8[zD p.t10]!.aX (aj (p.t2+1)) r5 with|I=>I|V r6=>V (V (BE.mk p.t2 p.t8 p.t9 (aj (p.t10+1)) r6))else I else V (I)
def KN(M207:(aa aC)->Int->bk->af td):=bI (Gs M207)
def apB(M207:(aa aC)->Int->bk->af td):An:=(noTwo (QC.lp (KN M207) .no))
def az3(M207:(aa aC)->Int->bk->af td):fe vi (auV M207) 1 300 207 (apB M207):=b6 (l:=[(aZ f207 0,(QC.lp (KN M207) .no))]) func207 (bM aW) aW (aA (aO QC) aH)
def al8(M207:(aa aC)->Int->bk->af td)(a1:aa aC)(a2:Int)(b0:bk):af td:=
 match KN M207 (BE.mk a2 a1 (zR a1) 0 b0)with|I=>I|V r7=>bif J (r7.t10<r7.t9)then if 0<=r7.t10/\r7.t10<zR r7.t8 then bif r7.b0.fQ then bif(jH (bk.mk (aj (r7.b0.bH+1)) O)).fst then V ((jH (bk.mk (aj (r7.b0.bH+1)) O)).snd)else match GS (az.mk r7.t8[zD r7.t10]!.aG.bD r7.t8[zD r7.t10]!.aG.fN r7.t8[zD r7.t10]!.aG.ax) 1 (jH (bk.mk (aj (r7.b0.bH+1)) O)).snd with|I=>I|V r8=>match M207 r7.t8[zD r7.t10]!.aQ (aj (r7.t2+1)) r8 with|I=>I|V r9=>match M207 r7.t8[zD r7.t10]!.aX (aj (r7.t2+1)) r9 with|I=>I|V r10=>I else bif(jH (bk.mk (aj (r7.b0.bH+1)) (J (12<(((),r7.t2,r7.t8,r7.t9,r7.t10,()),r7.b0,()).fst.snd.fst)))).fst then V ((jH (bk.mk (aj (r7.b0.bH+1)) (J (12<(((),r7.t2,r7.t8,r7.t9,r7.t10,()),r7.b0,()).fst.snd.fst)))).snd)else match GS (az.mk r7.t8[zD r7.t10]!.aG.bD r7.t8[zD r7.t10]!.aG.fN r7.t8[zD r7.t10]!.aG.ax) 1 (jH (bk.mk (aj (r7.b0.bH+1)) (J (12<(((),r7.t2,r7.t8,r7.t9,r7.t10,()),r7.b0,()).fst.snd.fst)))).snd with|I=>I|V r11=>match M207 r7.t8[zD r7.t10]!.aQ (aj (r7.t2+1)) r11 with|I=>I|V r12=>match M207 r7.t8[zD r7.t10]!.aX (aj (r7.t2+1)) r12 with|I=>I|V r13=>I else I else V (r7.b0)
def aEr(M207:(aa aC)->Int->bk->af td)(a1:aa aC)(a2:Int)(b0:bk):bV vi (auV M207) 300 (apB M207) 207 (asn.c ((),a1,a2,())) (atL.d (b0,())) 1 d207.rd=al8 M207 a1 a2 b0:=aW
def aob:Nat->((aa aC)->Int->bk->af td)
 |0=>(λ_ _ _=>I)
 |n+1=>(al8 (aob n))
def T3(n:Nat):(aa aC)->Int->bk->af td:=(aob n)
def PT:∀n,ahb (T3 n)
 |0=>λ_ _ h=>(by cases h)
 |n+1=>by
  have ih:=PT n;have i207:=ih;exact(WX (amH i207) (az3 (T3 n)) (λ_=>aW) (λ_=>aW) (λ_=>aW) λg=>aEr (T3 n) g.1.2.1 g.1.2.2.1 g.2.1)
def abT:(aa aC)->Int->bk->af td:=λa1 a2 b0=>lim (λn=>T3 n a1 a2 b0)
def afZ:ahb abT:=λg b h=>by
 obtain⟨n,hn⟩:=dD (show lim (λn=>T3 n g.1.2.1 g.1.2.2.1 g.2.1)=V b from h);exact(PT n) g b hn
def ayS(F:bq):bq:=ar6 abT F
def ajr{F:bq}(h:bA vi F):bA vi (ayS F):=U5 afZ h
abbrev awR:=Bool
def d260:Td 0 awR:= .c [] [3] (.r 0 0 (ec 3 qb en) sn (λz=>z.1.1) (λx=>((x,()),(()))))
def ack(a0:bg)(c0:bg):awR:=
 a0.fName.toList==c0.fName.toList
def aHo:=eL vi 260 G (lc (qg 131) (lc (qr (lg 131)) ln)) d260 (λg=>V (ack g.1 g.2.1))
def W8:EO aHo:=λh=>kL (an:= .no) func260 aV aH h
def azF:bq:=dw
structure D0 where
 t0:ByteArray
 (t14 t15:Int)
def Tw:Td 0 D0:= .c [] [0,14,15] (.r 0 0 (ec 0 qs (ec 14 aN (ec 15 aN en))) sn (λz=>⟨z.1.1,z.1.2.1,z.1.t.1⟩) (λx=>((x.t0,x.t14,x.t15,()),(()))))
def LW(p:D0):af (af D0):=
 bif J (p.t15<p.t14)then if 0<=p.t15/\p.t15<p.t0.size then match bif J (97<=cw p.t0 p.t15.toNat)then V (J (cw p.t0 p.t15.toNat<=122))else V G with|I=>I|V r1=>match bif bif r1 then G else O then bif J (p.t15=0)then V O else bif J (cw p.t0 p.t15.toNat<48)then bif bif J (cw p.t0 p.t15.toNat=46)then G else O then V (bif J (cw p.t0 p.t15.toNat=95)then G else O)else V G else bif J (57<cw p.t0 p.t15.toNat)then bif bif J (cw p.t0 p.t15.toNat=46)then G else O then V (bif J (cw p.t0 p.t15.toNat=95)then G else O)else V G else V G else V G with|I=>I|V r2=>bif r2 then V (I)else V (V (D0.mk p.t0 p.t14 (aj (p.t15+1))))else I else V (I)
def Z6:An:=(noTwo (noTwo (.two (noTwo (noTwo (.two (.rb [] 5) (.two (.rb [] 48) .no)))) .no)))
def LK:=bI (LW)
abbrev ayG:=Bool
def d261:Td 0 ayG:= .c [] [2] (.r 0 0 (ec 2 qb en) sn (λz=>z.1.1) (λx=>((x,()),(()))))
def abP:∀f∈([]:aa Nat),bz (azF) f:=aH
def Rf(a0:ByteArray):af ayG:=
 match bif a0.toList==(ByteArray.mk (Array.mk [])).toList then V O else V (J (40<(a0.size:Int)))with|I=>I|V r3=>bif r3 then V G else match LK (D0.mk a0 a0.size 0)with|I=>I|V r4=>bif J (r4.t15<r4.t14)then if 0<=r4.t15/\r4.t15<r4.t0.size then match bif J (97<=cw r4.t0 r4.t15.toNat)then V (J (cw r4.t0 r4.t15.toNat<=122))else V G with|I=>I|V r5=>match bif bif r5 then G else O then bif J (r4.t15=0)then V O else bif J (cw r4.t0 r4.t15.toNat<48)then bif bif J (cw r4.t0 r4.t15.toNat=46)then G else O then V (bif J (cw r4.t0 r4.t15.toNat=95)then G else O)else V G else bif J (57<cw r4.t0 r4.t15.toNat)then bif bif J (cw r4.t0 r4.t15.toNat=46)then G else O then V (bif J (cw r4.t0 r4.t15.toNat=95)then G else O)else V G else V G else V G with|I=>I|V r6=>bif r6 then V G else I else I else V O
def axn:=eL vi 261 G (lc qs ln) d261 (λg=>Rf g.1)
def VL:EO axn:=λh=>kL (F:=azF) (an:=(noTwo (.two (.two (.rb [] 12) .no) (.two (noTwo (Tw.lp LK Z6)) .no)))) (l:=[(.skip,(.rb [] 12)),(aZ f261 0,(Tw.lp LK Z6)),(.skip,(.rb [] 5)),(.skip,(.rb [] 48))]) func261 aV (aA abP (aA (aO Tw) (aA abP (aA abP aH)))) h
structure Es where
 t0:List bg
 oB:ByteArray
 (oH ow oW pn t7 t8:Int)
def Qv:Td 0 Es:= .c [] [0,1,7,8] (.r 0 0 (ec 0 (ql 131) (ec 1 (qf 260 (lc (qr (lc qs (aU (aU (aU (aU ln)))))) ln)) (ec 7 aN (ec 8 aN en)))) sn (λz=>⟨z.1.1,z.1.2.1.1.1,z.1.2.1.1.2.1,z.1.2.1.1.t.1,z.1.2.1.1.t.2.1,z.1.2.1.1.q.1,z.1.t.1,z.1.t.2.1⟩) (λx=>((x.t0,((x.oB,x.oH,x.ow,x.oW,x.pn,()),()),x.t7,x.t8,()),(()))))
def I6(p:Es):af (af Es):=
 bif J (p.t8<p.t7)then if 0<=p.t8/\p.t8<zR p.t0 then bif ack p.t0[zD p.t8]! (bg.mk p.oB p.oH p.ow p.oW p.pn)then V (I)else V (V (Es.mk p.t0 p.oB p.oH p.ow p.oW p.pn p.t7 (aj (p.t8+1))))else I else V (I)
def La:=bI (I6)
abbrev aBy:=Int
def d303:Td 0 aBy:= .c [] [4] (.r 0 0 (ec 4 aN en) sn (λz=>z.1.1) (λx=>((x,()),(()))))
def au0(a0:aa bg)(a1_0:bg):af aBy:=
 match La (Es.mk a0 a1_0.fName a1_0.bB a1_0.ah a1_0.ag a1_0.eH (zR a0) 0)with|I=>I|V r1=>bif J (r1.t8<r1.t7)then if 0<=r1.t8/\r1.t8<zR r1.t0 then bif ack r1.t0[zD r1.t8]! (bg.mk r1.oB r1.oH r1.ow r1.oW r1.pn)then V (r1.t8)else I else I else V (-1)
def aEu:=eL vi 303 O (lc (ql 131) (lc (qf 260 (lc (qr (lg 131)) ln)) ln)) d303 (λg=>au0 g.1 g.2.1.1)
def afF:EO aEu:=λh=>kL (an:=(noTwo (.two (noTwo (Qv.lp La .no)) .no))) (l:=[(aZ f303 0,(Qv.lp La .no))]) func303 (W8 aV) (aA (aO Qv) aH) h
abbrev awl:=Bool
def d262:Td 0 awl:= .c [] [4] (.r 0 0 (ec 4 qb en) sn (λz=>z.1.1) (λx=>((x,()),(()))))
def ZN(a0:aa bg)(a1_0:bg):af awl:=
 match au0 a0 a1_0 with|I=>I|V r1=>V (J (0<=r1))
def ax6:=eL vi 262 O (lc (ql 131) (lc (qf 260 (lc (qr (lg 131)) ln)) ln)) d262 (λg=>ZN g.1 g.2.1.1)
def amf:EO ax6:=λh=>kL (an:= .no) func262 (afF (W8 aV)) aH h
def aqi:bq:=dw
abbrev at7:=Bool
def d263:Td 0 at7:= .c [] [4] (.r 0 0 (ec 4 qb en) sn (λz=>z.1.1) (λx=>((x,()),(()))))
def aBZ:=(aU (aU ln))
def anJ:An:=(noTwo (.two (.rb [] 4) .no))
def aw3:∀f∈([]:aa Nat),bz (aqi) f:=aH
def JJ(a0:Int)(a1:Int):at7:=
 let r1:Bool:=bif J (a0<=a1)then bif J (-1048576<=a0)then J (a1<=1048576)else G else G;r1
def aFz(a0:Int)(a1:Int):bV vi (aqi) 300 (anJ) 263 (aBZ.c (a0,a1,())) [] 0 d263.rd=V (JJ a0 a1):=by
 refine Eq.trans (b:=(
  match bif J (a0<=a1)then bif J (-1048576<=a0)then V (J (a1<=1048576))else V (G)else V (G)with|I=>I|V r1=>V (r1):af at7)) aW ?_
 simp only[JJ,cu,cQ]
def azA:=eL vi 263 G aBZ d263 (λg=>V (JJ g.1 g.2.1))
def Vg:EO azA:=λh=>kL (F:=aqi) (an:=anJ) (l:=[(.skip,(.rb [] 4))]) func263 aV (aA aw3 aH) h (c:=λg=>aFz g.1 g.2.1)
abbrev aBH:=Int
def d337:Td 0 aBH:= .c [] [2] (.r 0 0 (ec 2 aN en) sn (λz=>z.1.1) (λx=>((x,()),(()))))
def G3(a0:bg):aBH:=
 aj (aj (a0.ag-a0.ah)+1)
def aDg:=eL vi 337 G (lc (qg 131) ln) d337 (λg=>V (G3 g.1))
def alc:EO aDg:=λh=>kL (an:= .no) func337 aV aH h
def azl:bq:=(aDg dw)
structure rB where
 t7:List bg
 t10:Int
 t49:List bg
 (t50 t51:Int)
def TR:Td 0 rB:= .c [] [7,10,49,50,51] (.r 0 1 (ec 7 (qo 0) (ec 10 aN (ec 49 (qo 0) (ec 50 aN (ec 51 aN en))))) (sr 0 131 sn) (λz=>⟨z.2.1,z.1.2.1,z.2.1,z.1.t.2.1,z.1.q.1⟩) (λx=>(((),x.t10,(),x.t50,x.t51,()),(x.t49,()))))
def JM(p:rB):af (af rB):=
 bif J (p.t51<p.t50)then if 0<=p.t51/\p.t51<zR p.t49 then if 131=131/\zD p.t51<zR p.t49 then bif J (4096<aj (p.t10*G3 p.t49[zD p.t51]!))then V (I)else V (V (rB.mk p.t49 (aj (p.t10*G3 p.t49[zD p.t51]!)) p.t49 p.t50 (aj (p.t51+1))))else I else I else V (I)
def uc:=bI (JM)
structure oG where
 t1:Int
 (t7 t19:List bg)
 (t20 t21:Int)
def QL:Td 0 oG:= .c [] [1,7,19,20,21] (.t (bX.s 7 [] 131) (.c [] [1,7,19,20,21] (.r 0 1 (ec 1 aN (ec 7 (qo 0) (ec 19 (ql 131) (ec 20 aN (ec 21 aN en))))) (sr 0 131 sn) (λz=>⟨z.1.1,z.2.1,z.1.t.1,z.1.t.2.1,z.1.q.1⟩) (λx=>((x.t1,(),x.t19,x.t20,x.t21,()),(x.t7,()))))))
def Gd(p:oG):af (af oG):=
 bif J (p.t21<p.t20)then if 0<=p.t21/\p.t21<zR p.t19 then bif bif J (p.t19[zD p.t21]!.bB=p.t1)then G else O then V (V (oG.mk p.t1 p.t7 p.t19 p.t20 (aj (p.t21+1))))else match bif J (p.t19[zD p.t21]!.ag<p.t19[zD p.t21]!.ah)then V O else bif J (p.t19[zD p.t21]!.ah< -1048576)then V O else V (J (1048576<p.t19[zD p.t21]!.ag))with|I=>I|V r1=>bif r1 then V (I)else if(p.t7++[p.t19[zD p.t21]!]).length<=1073741824 then V (V (oG.mk p.t1 (p.t7++[p.t19[zD p.t21]!]) p.t19 p.t20 (aj (p.t21+1))))else I else I else V (I)
def aa6:An:=(noTwo (noTwo (.two (noTwo (noTwo (.two (.two (.rb [] 43) .no) .no))) .no)))
def tJ:=bI (Gd)
abbrev axl:=(aa bg)×Int×Int
def d304:Td 0 axl:= .c [] [4,5,6] (.t (bX.s 4 [] 131) (.c [] [4,5,6] (.r 0 1 (ec 4 (qo 0) (ec 5 aN (ec 6 aN en))) (sr 0 131 sn) (λz=>(z.2.1,z.1.2.1,z.1.t.1)) (λx=>(((),x.2.1,x.t,()),(x.1,()))))))
def aAX:∀f∈([]:aa Nat),bz (azl) f:=aH
def aq5(a0:aa bg)(a1:Int):af axl:=
 bif J (a1=0)then match tJ (oG.mk a1 [] a0 (zR a0) 0)with|I=>I|V r2=>bif J (r2.t21<r2.t20)then if 0<=r2.t21/\r2.t21<zR r2.t19 then bif bif J (r2.t19[zD r2.t21]!.bB=r2.t1)then G else O then I else match bif J (r2.t19[zD r2.t21]!.ag<r2.t19[zD r2.t21]!.ah)then V O else bif J (r2.t19[zD r2.t21]!.ah< -1048576)then V O else V (J (1048576<r2.t19[zD r2.t21]!.ag))with|I=>I|V r3=>bif r3 then V ([],0,3)else if(r2.t7++[r2.t19[zD r2.t21]!]).length<=1073741824 then I else I else I else match uc (rB.mk r2.t7 1 r2.t7 (zR r2.t7) 0)with|I=>I|V r4=>bif J (r4.t51<r4.t50)then if 0<=r4.t51/\r4.t51<zR r4.t49 then if 131=131/\zD r4.t51<zR r4.t49 then bif J (4096<aj (r4.t10*G3 r4.t49[zD r4.t51]!))then V ([],0,4)else I else I else I else V (r4.t49,r4.t10,0)else bif J (a1=1)then match tJ (oG.mk a1 [] a0 (zR a0) 0)with|I=>I|V r5=>bif J (r5.t21<r5.t20)then if 0<=r5.t21/\r5.t21<zR r5.t19 then bif bif J (r5.t19[zD r5.t21]!.bB=r5.t1)then G else O then I else match bif J (r5.t19[zD r5.t21]!.ag<r5.t19[zD r5.t21]!.ah)then V O else bif J (r5.t19[zD r5.t21]!.ah< -1048576)then V O else V (J (1048576<r5.t19[zD r5.t21]!.ag))with|I=>I|V r6=>bif r6 then V ([],0,3)else if(r5.t7++[r5.t19[zD r5.t21]!]).length<=1073741824 then I else I else I else match uc (rB.mk r5.t7 1 r5.t7 (zR r5.t7) 0)with|I=>I|V r7=>bif J (r7.t51<r7.t50)then if 0<=r7.t51/\r7.t51<zR r7.t49 then if 131=131/\zD r7.t51<zR r7.t49 then bif J (4096<aj (r7.t10*G3 r7.t49[zD r7.t51]!))then V ([],0,4)else I else I else I else V (r7.t49,r7.t10,0)else bif J (a1=2)then match tJ (oG.mk a1 [] a0 (zR a0) 0)with|I=>I|V r8=>bif J (r8.t21<r8.t20)then if 0<=r8.t21/\r8.t21<zR r8.t19 then bif bif J (r8.t19[zD r8.t21]!.bB=r8.t1)then G else O then I else match bif J (r8.t19[zD r8.t21]!.ag<r8.t19[zD r8.t21]!.ah)then V O else bif J (r8.t19[zD r8.t21]!.ah< -1048576)then V O else V (J (1048576<r8.t19[zD r8.t21]!.ag))with|I=>I|V r9=>bif r9 then V ([],0,3)else if(r8.t7++[r8.t19[zD r8.t21]!]).length<=1073741824 then I else I else I else match uc (rB.mk r8.t7 1 r8.t7 (zR r8.t7) 0)with|I=>I|V r10=>bif J (r10.t51<r10.t50)then if 0<=r10.t51/\r10.t51<zR r10.t49 then if 131=131/\zD r10.t51<zR r10.t49 then bif J (4096<aj (r10.t10*G3 r10.t49[zD r10.t51]!))then V ([],0,4)else I else I else I else V (r10.t49,r10.t10,0)else bif J (a1=3)then match tJ (oG.mk a1 [] a0 (zR a0) 0)with|I=>I|V r11=>bif J (r11.t21<r11.t20)then if 0<=r11.t21/\r11.t21<zR r11.t19 then bif bif J (r11.t19[zD r11.t21]!.bB=r11.t1)then G else O then I else match bif J (r11.t19[zD r11.t21]!.ag<r11.t19[zD r11.t21]!.ah)then V O else bif J (r11.t19[zD r11.t21]!.ah< -1048576)then V O else V (J (1048576<r11.t19[zD r11.t21]!.ag))with|I=>I|V r12=>bif r12 then V ([],0,3)else if(r11.t7++[r11.t19[zD r11.t21]!]).length<=1073741824 then I else I else I else match uc (rB.mk r11.t7 1 r11.t7 (zR r11.t7) 0)with|I=>I|V r13=>bif J (r13.t51<r13.t50)then if 0<=r13.t51/\r13.t51<zR r13.t49 then if 131=131/\zD r13.t51<zR r13.t49 then bif J (4096<aj (r13.t10*G3 r13.t49[zD r13.t51]!))then V ([],0,4)else I else I else I else V (r13.t49,r13.t10,0)else V ([],0,1)
def aHv:=eL vi 304 G (lc (ql 131) (aU ln)) d304 (λg=>aq5 g.1 g.2.1)
def alU:EO aHv:=λh=>kL (F:=azl) (an:=(noTwo (noTwo (noTwo (.two (noTwo (QL.lp tJ aa6)) (noTwo (.two (noTwo (TR.lp uc .no)) .no))))))) (l:=[(aZ f304 0,(QL.lp tJ aa6)),(.skip,(.rb [] 43)),(aZ f304 1,(TR.lp uc .no))]) func304 (alc aV) (aA (aO QL) (aA aAX (aA (aO TR) aH))) h
abbrev aDh:=Int×Int
def d264:Td 0 aDh:= .c [] [4,5] (.r 0 0 (ec 4 aN (ec 5 aN en)) sn (λz=>(z.1.1,z.1.2.1)) (λx=>((x.1,x.2,()),(()))))
def aat(a0:aa bg)(a1:Int):af aDh:=
 match aq5 a0 a1 with|I=>I|V r1=>V (r1.snd)
def aAK:=eL vi 264 G (lc (ql 131) (aU ln)) d264 (λg=>aat g.1 g.2.1)
def alZ:EO aAK:=λh=>kL (an:= .no) func264 (alU aV) aH h
def aBA:bq:=(aAK (azA (ax6 (axn dw))))
structure EI where
 t0:List bg
 t71:List Int
 (t72 t73:Int)
def RJ:Td 0 EI:= .c [] [0,71,72,73] (.r 0 1 (ec 0 (ql 131) (ec 71 (qo 0) (ec 72 aN (ec 73 aN en)))) (sr 0 129 sn) (λz=>⟨z.1.1,z.2.1,z.1.t.1,z.1.t.2.1⟩) (λx=>((x.t0,(),x.t72,x.t73,()),(x.t71,()))))
def qK(p:EI):af (af EI):=
 bif J (p.t73<p.t72)then if 0<=p.t73/\p.t73<zR p.t71 then if 129=129/\zD p.t73<zR p.t71 then match aat p.t0 p.t71[zD p.t73]! with|I=>I|V r6=>match bif bif J (r6.snd=0)then G else O then V O else bif J (((p.t0,(),p.t72,p.t73,()),p.t71,()).snd.fst[((p.t0,(),p.t72,p.t73,()),p.t71,()).fst.snd.snd.snd.fst.toNat]! =3)then V (J (256<r6.fst))else V G with|I=>I|V r7=>bif r7 then V (I)else V (V (EI.mk p.t0 p.t71 p.t72 (aj (p.t73+1))))else I else I else V (I)
def adz:An:=(noTwo (noTwo (.two (noTwo (noTwo (.two (.rb [] 92) .no))) .no)))
def qW:=bI (qK)
structure Ft where
 (t0 t10:List bg)
 (t11 t12:Int)
def RO:Td 0 Ft:= .c [] [0,10,11,12] (.r 0 0 (ec 0 (ql 131) (ec 10 (ql 131) (ec 11 aN (ec 12 aN en)))) sn (λz=>⟨z.1.1,z.1.2.1,z.1.t.1,z.1.t.2.1⟩) (λx=>((x.t0,x.t10,x.t11,x.t12,()),(()))))
def Cr(p:Ft):af (af Ft):=
 bif J (p.t12<p.t11)then if 0<=p.t12/\p.t12<zR p.t10 then match Rf p.t10[zD p.t12]!.fName with|I=>I|V r1=>bif bif r1 then G else O then V (I)else if 0<=p.t12/\p.t12<=zR p.t0 then match ZN (List.take p.t12.toNat p.t0) p.t10[zD p.t12]! with|I=>I|V r2=>bif r2 then V (I)else match bif J (p.t10[zD p.t12]!.bB<0)then V O else V (J (3<p.t10[zD p.t12]!.bB))with|I=>I|V r3=>bif r3 then V (I)else bif bif JJ p.t10[zD p.t12]!.ah p.t10[zD p.t12]!.ag then G else O then V (I)else match bif bif J (p.t10[zD p.t12]!.bB=0)then G else O then V (bif J (p.t10[zD p.t12]!.eH=0)then G else O)else V G with|I=>I|V r4=>bif r4 then V (I)else match bif J (p.t10[zD p.t12]!.bB=0)then bif J (p.t10[zD p.t12]!.eH<p.t10[zD p.t12]!.ah)then V O else V (J (p.t10[zD p.t12]!.ag<p.t10[zD p.t12]!.eH))else V G with|I=>I|V r5=>bif r5 then V (I)else V (V (Ft.mk p.t0 p.t10 p.t11 (aj (p.t12+1))))else I else I else V (I)
def aaP:An:=(noTwo (noTwo (.two (noTwo (noTwo (noTwo (noTwo (noTwo (noTwo (.two (.rb [] 29) (noTwo (.two (noTwo (noTwo (.two (.rb [] 38) (noTwo (.rb [] 38))))) .no))))))))) .no)))
def JE:=bI (Cr)
abbrev azY:=Int
def d210:Td 0 azY:= .c [] [2] (.r 0 0 (ec 2 aN en) sn (λz=>z.1.1) (λx=>((x,()),(()))))
def VV:∀f∈([]:aa Nat),bz (aBA) f:=aH
def amj(a0:aa bg):af azY:=
 match JE (Ft.mk a0 a0 (zR a0) 0)with|I=>I|V r8=>bif J (r8.t12<r8.t11)then if 0<=r8.t12/\r8.t12<zR r8.t10 then match Rf r8.t10[zD r8.t12]!.fName with|I=>I|V r9=>bif bif r9 then G else O then V 7 else if 0<=r8.t12/\r8.t12<=zR r8.t0 then match ZN (List.take r8.t12.toNat r8.t0) r8.t10[zD r8.t12]! with|I=>I|V r10=>bif r10 then V 8 else match bif J (r8.t10[zD r8.t12]!.bB<0)then V O else V (J (3<r8.t10[zD r8.t12]!.bB))with|I=>I|V r11=>bif r11 then V 1 else bif bif JJ r8.t10[zD r8.t12]!.ah r8.t10[zD r8.t12]!.ag then G else O then V 3 else match bif bif J (r8.t10[zD r8.t12]!.bB=0)then G else O then V (bif J (r8.t10[zD r8.t12]!.eH=0)then G else O)else V G with|I=>I|V r12=>bif r12 then V 3 else match bif J (r8.t10[zD r8.t12]!.bB=0)then bif J (r8.t10[zD r8.t12]!.eH<r8.t10[zD r8.t12]!.ah)then V O else V (J (r8.t10[zD r8.t12]!.ag<r8.t10[zD r8.t12]!.eH))else V G with|I=>I|V r13=>bif r13 then V 3 else I else I else I else match qW (EI.mk r8.t0 [1,2,3] (3:Int) 0)with|I=>I|V r14=>bif J (r14.t73<r14.t72)then if 0<=r14.t73/\r14.t73<zR r14.t71 then if 129=129/\zD r14.t73<zR r14.t71 then match aat r14.t0 r14.t71[zD r14.t73]! with|I=>I|V r15=>match bif bif J (r15.snd=0)then G else O then V O else bif J (((r14.t0,(),r14.t72,r14.t73,()),r14.t71,()).snd.fst[((r14.t0,(),r14.t72,r14.t73,()),r14.t71,()).fst.snd.snd.snd.fst.toNat]! =3)then V (J (256<r15.fst))else V G with|I=>I|V r16=>bif r16 then V 4 else I else I else I else V 0
def ayz:=eL vi 210 G (lc (ql 131) ln) d210 (λg=>amj g.1)
def agu:EO ayz:=λh=>kL (F:=aBA) (an:=(noTwo (.two (noTwo (RO.lp JE aaP)) (.two (noTwo (RJ.lp qW adz)) .no)))) (l:=[(aZ f210 0,(RO.lp JE aaP)),(.skip,(.rb [] 29)),(.skip,(.rb [] 38)),(.skip,(.rb [] 38)),(aZ f210 1,(RJ.lp qW adz)),(.skip,(.rb [] 92))]) func210 (alZ (Vg (amf (VL aV)))) (aA (aO RO) (aA VV (aA VV (aA VV (aA (aO RJ) (aA VV aH)))))) h
abbrev aAd:=Bool
def d265:Td 0 aAd:= .c [] [3] (.r 0 0 (ec 3 qb en) sn (λz=>z.1.1) (λx=>((x,()),(()))))
def acD(a0:dF)(c0:dF):aAd:=
 a0.fName.toList==c0.fName.toList
def aGE:=eL vi 265 G (lc (qg 139) (lc (qr (lg 139)) ln)) d265 (λg=>V (acD g.1 g.2.1))
def Vv:EO aGE:=λh=>kL (an:= .no) func265 aV aH h
structure EV where
 t0:List dF
 oB:ByteArray
 (oH ow oW pn:Int)
 JL:List az
 (t7 t8:Int)
def SJ:Td 0 EV:= .c [] [0,1,7,8] (.r 0 0 (ec 0 (ql 139) (ec 1 (qf 265 (lc (qr (lc qs (aU (aU (aU (aU (lc (ql 137) ln))))))) ln)) (ec 7 aN (ec 8 aN en)))) sn (λz=>⟨z.1.1,z.1.2.1.1.1,z.1.2.1.1.2.1,z.1.2.1.1.t.1,z.1.2.1.1.t.2.1,z.1.2.1.1.q.1,z.1.2.1.1.q.2.1,z.1.t.1,z.1.t.2.1⟩) (λx=>((x.t0,((x.oB,x.oH,x.ow,x.oW,x.pn,x.JL,()),()),x.t7,x.t8,()),(()))))
def Jg(p:EV):af (af EV):=
 bif J (p.t8<p.t7)then if 0<=p.t8/\p.t8<zR p.t0 then bif acD (dF.mk p.t0[zD p.t8]!.fName p.t0[zD p.t8]!.ah p.t0[zD p.t8]!.ag (az.mk p.t0[zD p.t8]!.aG.bD p.t0[zD p.t8]!.aG.fN p.t0[zD p.t8]!.aG.ax)) (dF.mk p.oB p.oH p.ow (az.mk p.oW p.pn p.JL))then V (I)else V (V (EV.mk p.t0 p.oB p.oH p.ow p.oW p.pn p.JL p.t7 (aj (p.t8+1))))else I else V (I)
def L6:=bI (Jg)
abbrev aCY:=Int
def d305:Td 0 aCY:= .c [] [4] (.r 0 0 (ec 4 aN en) sn (λz=>z.1.1) (λx=>((x,()),(()))))
def ar8(a0:aa dF)(a1_0:dF):af aCY:=
 match L6 (EV.mk a0 a1_0.fName a1_0.ah a1_0.ag a1_0.aG.bD a1_0.aG.fN a1_0.aG.ax (zR a0) 0)with|I=>I|V r1=>bif J (r1.t8<r1.t7)then if 0<=r1.t8/\r1.t8<zR r1.t0 then bif acD (dF.mk r1.t0[zD r1.t8]!.fName r1.t0[zD r1.t8]!.ah r1.t0[zD r1.t8]!.ag (az.mk r1.t0[zD r1.t8]!.aG.bD r1.t0[zD r1.t8]!.aG.fN r1.t0[zD r1.t8]!.aG.ax)) (dF.mk r1.oB r1.oH r1.ow (az.mk r1.oW r1.pn r1.JL))then V (r1.t8)else I else I else V (-1)
def aFj:=eL vi 305 O (lc (ql 139) (lc (qf 265 (lc (qr (lg 139)) ln)) ln)) d305 (λg=>ar8 g.1 g.2.1.1)
def akK:EO aFj:=λh=>kL (an:=(noTwo (.two (noTwo (SJ.lp L6 .no)) .no))) (l:=[(aZ f305 0,(SJ.lp L6 .no))]) func305 (Vv aV) (aA (aO SJ) aH) h
abbrev axq:=Bool
def d266:Td 0 axq:= .c [] [4] (.r 0 0 (ec 4 qb en) sn (λz=>z.1.1) (λx=>((x,()),(()))))
def aaE(a0:aa dF)(a1_0:dF):af axq:=
 match ar8 a0 (dF.mk a1_0.fName a1_0.ah a1_0.ag (az.mk a1_0.aG.bD a1_0.aG.fN a1_0.aG.ax))with|I=>I|V r1=>V (J (0<=r1))
def aGh:=eL vi 266 O (lc (ql 139) (lc (qf 265 (lc (qr (lg 139)) ln)) ln)) d266 (λg=>aaE g.1 g.2.1.1)
def alS:EO aGh:=λh=>kL (an:= .no) func266 (akK (Vv aV)) aH h
def aqR:bq:=dw
abbrev asx:=Int×Int
def d338:Td 0 asx:= .c [] [2,3] (.r 0 0 (ec 2 aN (ec 3 aN en)) sn (λz=>(z.1.1,z.1.2.1)) (λx=>((x.1,x.2,()),(()))))
def aAS:=(aU ln)
def an6:An:=(noTwo (.two (.two (.rb [] 4) (noTwo (.two (.rb [] 11) (noTwo (.two (.rb [] 18) .no))))) .no))
def aaa:∀f∈([]:aa Nat),bz (aqR) f:=aH
def Of(a0:Int):asx:=
 let r1:Bool:=bif J (a0=0)then O else J (a0=24);bif r1 then(0,0)else let r2:Bool:=bif J (a0=6)then O else J (a0=7);bif r2 then(1,1)else let r3:Bool:=bif J (8<=a0)then J (a0<=22)else G;bif r3 then(2,2)else bif J (a0=23)then(3,3)else bif J (a0=25)then(2,33)else(-1,-1)
def aEp(a0:Int):bV vi (aqR) 300 (an6) 338 (aAS.c (a0,())) [] 0 d338.rd=V (Of a0):=by
 refine Eq.trans (b:=(
  match bif J (a0=0)then V (O)else V (J (a0=24))with|I=>I|V r1=>bif r1 then V ((0,0))else match bif J (a0=6)then V (O)else V (J (a0=7))with|I=>I|V r2=>bif r2 then V ((1,1))else match bif J (8<=a0)then V (J (a0<=22))else V (G)with|I=>I|V r3=>bif r3 then V ((2,2))else bif J (a0=23)then V ((3,3))else bif J (a0=25)then V ((2,33))else V ((-1,-1)):af asx)) aW ?_
 simp only[Of,cu,cQ]
def azT:=eL vi 338 G aAS d338 (λg=>V (Of g.1))
def alo:EO azT:=λh=>kL (F:=aqR) (an:=an6) (l:=[(.skip,(.rb [] 4)),(.skip,(.rb [] 11)),(.skip,(.rb [] 18))]) func338 aV (aA aaa (aA aaa (aA aaa aH))) h (c:=λg=>aEp g.1)
abbrev sX:=Bool
def d306:Td 0 sX:= .c [] [6] (.r 0 0 (ec 6 qb en) sn (λz=>z.1.1) (λx=>((x,()),(()))))
def atD:=(lc (ql 131) (lc (qg 137) (lc qb ln)))
def ath(M:(aa bg)->az->Bool->af sX):bq->bq:=eL vi 306 G atD d306 (λg=>M g.1 g.2.1 g.2.2.1)
def ahB(M:(aa bg)->az->Bool->af sX):Prop:=HL vi 306 atD d306 (λg=>M g.1 g.2.1 g.2.2.1)
def Wo{M:(aa bg)->az->Bool->af sX}(hM:ahB M){F:bq}(h:bA vi F):bA vi (ath M F):=ew (sc:=oF) di hM ⟨_,func306,aW,aW⟩ (λ_=>aW) (λ_=>aW) h
def amd(M306:(aa bg)->az->Bool->af sX):bq:=(azT (ath M306 dw))
def ajl{M306}(h306:ahB M306):bA vi (amd M306):=(alo (Wo h306 aV))
structure uz where
 t0:List bg
 t2:Bool
 t65:List az
 (t66 t67:Int)
def SA:Td 0 uz:= .c [] [0,2,65,66,67] (.r 0 0 (ec 0 (ql 131) (ec 2 qb (ec 65 (ql 137) (ec 66 aN (ec 67 aN en))))) sn (λz=>⟨z.1.1,z.1.2.1,z.1.t.1,z.1.t.2.1,z.1.q.1⟩) (λx=>((x.t0,x.t2,x.t65,x.t66,x.t67,()),(()))))
def Ju(M306:(aa bg)->az->Bool->af sX)(p:uz):af (af uz):=
 bif J (p.t67<p.t66)then if 0<=p.t67/\p.t67<zR p.t65 then match M306 p.t0 (az.mk p.t65[zD p.t67]!.bD p.t65[zD p.t67]!.fN p.t65[zD p.t67]!.ax) p.t2 with|I=>I|V r1=>bif bif r1 then G else O then V (I)else V (V (uz.mk p.t0 p.t2 p.t65 p.t66 (aj (p.t67+1))))else I else V (I)
def Ba(M306:(aa bg)->az->Bool->af sX):=bI (Ju M306)
def anY(M306:(aa bg)->az->Bool->af sX):An:=(noTwo (noTwo (.two (.two (.rb [] 32) .no) (.two (noTwo (noTwo (noTwo (noTwo (.two (.two (.rb [] 63) .no) .no))))) (.two (noTwo (SA.lp (Ba M306) .no)) .no)))))
def apR{M306}:∀f∈([]:aa Nat),bz (amd M306) f:=aH
def axb(M306:(aa bg)->az->Bool->af sX):fe vi (amd M306) 0 300 306 (anY M306):=b6 (l:=[(.skip,(.rb [] 32)),(.skip,(.rb [] 63)),(aZ f306 0,(SA.lp (Ba M306) .no))]) func306 (bM aW) aW (aA apR (aA apR (aA (aO SA) aH)))
def ak0(M306:(aa bg)->az->Bool->af sX)(a0:aa bg)(a1:az)(a2:Bool):af sX:=
 match bif J ((Of a1.bD).fst<0)then V O else bif J ((zR a1.ax:Int)<(Of a1.bD).fst)then V O else V (J ((Of a1.bD).snd<zR a1.ax))with|I=>I|V r2=>bif r2 then V G else bif J (a1.bD=0)then match Ba M306 (uz.mk a0 a2 a1.ax (zR a1.ax) 0)with|I=>I|V r3=>bif J (r3.t67<r3.t66)then if 0<=r3.t67/\r3.t67<zR r3.t65 then match M306 r3.t0 (az.mk r3.t65[zD r3.t67]!.bD r3.t65[zD r3.t67]!.fN r3.t65[zD r3.t67]!.ax) r3.t2 with|I=>I|V r4=>bif bif r4 then G else O then V G else I else I else V O else bif J (a1.bD=24)then match bif J (a1.fN<0)then V O else bif J (zR a0<=a1.fN)then V O else bif a2 then if 0<=a1.fN/\a1.fN<zR a0 then V (J (a0[a1.fN.toNat]!.bB=0))else I else V G with|I=>I|V r5=>bif r5 then V G else match Ba M306 (uz.mk a0 a2 a1.ax (zR a1.ax) 0)with|I=>I|V r6=>bif J (r6.t67<r6.t66)then if 0<=r6.t67/\r6.t67<zR r6.t65 then match M306 r6.t0 (az.mk r6.t65[zD r6.t67]!.bD r6.t65[zD r6.t67]!.fN r6.t65[zD r6.t67]!.ax) r6.t2 with|I=>I|V r7=>bif bif r7 then G else O then V G else I else I else V O else bif bif J (a1.fN=0)then G else O then V G else match Ba M306 (uz.mk a0 a2 a1.ax (zR a1.ax) 0)with|I=>I|V r8=>bif J (r8.t67<r8.t66)then if 0<=r8.t67/\r8.t67<zR r8.t65 then match M306 r8.t0 (az.mk r8.t65[zD r8.t67]!.bD r8.t65[zD r8.t67]!.fN r8.t65[zD r8.t67]!.ax) r8.t2 with|I=>I|V r9=>bif bif r9 then G else O then V G else I else I else V O
def aFd(M306:(aa bg)->az->Bool->af sX)(a0:aa bg)(a1:az)(a2:Bool):bV vi (amd M306) 300 (anY M306) 306 (atD.c (a0,a1,a2,())) [] 0 d306.rd=ak0 M306 a0 a1 a2:=aW
def aoH:Nat->((aa bg)->az->Bool->af sX)
 |0=>(λ_ _ _=>I)
 |n+1=>(ak0 (aoH n))
def SF(n:Nat):(aa bg)->az->Bool->af sX:=(aoH n)
def Om:∀n,ahB (SF n)
 |0=>λ_ _ h=>(by cases h)
 |n+1=>by
  have ih:=Om n;have i306:=ih;exact(dR (ajl i306) (axb (SF n)) (λ_=>aW) (λ_=>aW) λg=>aFd (SF n) g.1 g.2.1 g.2.2.1)
def agf:(aa bg)->az->Bool->af sX:=λa0 a1 a2=>lim (λn=>SF n a0 a1 a2)
def afz:ahB agf:=λg b h=>by
 obtain⟨n,hn⟩:=dD (show lim (λn=>SF n g.1 g.2.1 g.2.2.1)=V b from h);exact(Om n) g b hn
def aHA(F:bq):bq:=ath agf F
def alp{F:bq}(h:bA vi F):bA vi (aHA F):=Wo afz h
abbrev awV:=Int
def d350:Td 0 awV:= .c [] [4] (.r 0 0 (ec 4 aN en) sn (λz=>z.1.1) (λx=>((x,()),(()))))
def BF(a0:Int)(a1:Int):awV:=
 aj (a0*a1)
def aBz:=eL vi 350 G (aU (aU ln)) d350 (λg=>V (BF g.1 g.2.1))
def Xu:EO aBz:=λh=>kL (an:= .no) func350 aV aH h
def aEs:bq:=dw
abbrev as9:=Span
def d351:Td 0 as9:= .c [] [4] (.r 0 1 (ec 4 (qp 0 0) en) (sb 0 331 (lg 331) sn) (λz=>z.2.1) (λx=>(((),()),(x,()))))
def aCF:=(lc (qg 331) (lc (qg 331) ln))
def apz:An:= .no
def Zg(a0:Span)(a1:Span):as9:=
 Span.mk (if a1.ah<a0.ah then a1.ah else a0.ah) (if a0.ag<a1.ag then a1.ag else a0.ag)
def aFo(a0:Span)(a1:Span):bV vi (aEs) 300 (apz) 351 (aCF.c (a0,a1,())) [] 0 d351.rd=V (Zg a0 a1):=by
 refine Eq.trans (b:=(
  V (Span.mk (if a1.ah<a0.ah then a1.ah else a0.ah) (if a0.ag<a1.ag then a1.ag else a0.ag)):af as9)) aW ?_
 simp only[Zg,cu,cQ]
def aw6:=eL vi 351 G aCF d351 (λg=>V (Zg g.1 g.2.1))
def V2:EO aw6:=λh=>kL (an:=apz) func351 aV aH h (c:=λg=>aFo g.1 g.2.1)
structure EB where
 t38:List Int
 (t39 t40:Int)
 (b0 b1:Span)
def QO:Td 0 EB:= .c [] [6,8,38,39,40] (.r 0 3 (ec 6 (qp 0 0) (ec 8 (qp 1 0) (ec 38 (qo 2) (ec 39 aN (ec 40 aN en))))) (sb 0 331 (lg 331) (sb 1 331 (lg 331) (sr 2 3 sn))) (λz=>⟨z.t.2.1,z.1.t.2.1,z.1.q.1,z.2.1,z.t.1⟩) (λx=>(((),(),(),x.t39,x.t40,()),(x.b0,x.b1,x.t38,()))))
def rj(p:EB):af (af EB):=
 bif J (p.t40<p.t39)then if 0<=p.t40/\p.t40<zR p.t38 then if 3=3/\zD p.t40<zR p.t38 then V (V (EB.mk p.t38 p.t39 (aj (p.t40+1)) p.b0 (Zg p.b1 (Span.mk p.t38[zD p.t40]! p.t38[zD p.t40]!))))else I else I else V (I)
def FF:=bI (rj)
abbrev aBo:=Span
def d349:Td 0 aBo:= .c [] [6] (.r 0 1 (ec 6 (qp 0 0) en) (sb 0 331 (lg 331) sn) (λz=>z.2.1) (λx=>(((),()),(x,()))))
def amI(a0:Span)(a1:Span):af aBo:=
 match FF (EB.mk [BF a0.ah a1.ag,BF a0.ag a1.ah,BF a0.ag a1.ag] (↑[BF a0.ah a1.ag,BF a0.ag a1.ah,BF a0.ag a1.ag].length:Int) 0 (Span.mk 0 0) (Span.mk (BF a0.ah a1.ah) (BF a0.ah a1.ah)))with|I=>I|V r1=>bif J (r1.t40<r1.t39)then if 0<=r1.t40/\r1.t40<zR r1.t38 then if 3=3/\zD r1.t40<zR r1.t38 then I else I else I else V (r1.b1)
def aAs:=eL vi 349 G (lc (qg 331) (lc (qg 331) (lc (qf 350 ln) ln))) d349 (λg=>amI g.1 g.2.1)
def agL:EO aAs:=λh=>kL (an:=(noTwo (noTwo (noTwo (.two (noTwo (QO.lp FF .no)) .no))))) (l:=[(aZ f349 0,(QO.lp FF .no))]) func349 (V2 (Xu aV)) (aA (aO QO) aH) h
def aAU:bq:=(aw6 (aBz (aAs dw)))
structure Bm where
 t207:List Span
 (t208 t209:Int)
 (b0 b1:Span)
def Q0:Td 0 Bm:= .c [] [6,9,207,208,209] (.r 0 2 (ec 6 (qp 0 0) (ec 9 (qp 1 0) (ec 207 (ql 331) (ec 208 aN (ec 209 aN en))))) (sb 0 331 (lg 331) (sb 1 331 (lg 331) sn)) (λz=>⟨z.1.t.1,z.1.t.2.1,z.1.q.1,z.2.1,z.t.1⟩) (λx=>(((),(),x.t207,x.t208,x.t209,()),(x.b0,x.b1,()))))
def J1(p:Bm):af (af Bm):=
 bif J (p.t209<p.t208)then if 0<=p.t209/\p.t209<zR p.t207 then V (V (Bm.mk p.t207 p.t208 (aj (p.t209+1)) p.b0 (Zg p.b1 p.t207[zD p.t209]!)))else I else V (I)
def Fx:=bI (J1)
abbrev aBd:=Span
def d339:Td 0 aBd:= .c [] [6] (.r 0 1 (ec 6 (qp 0 0) en) (sb 0 331 (lg 331) sn) (λz=>z.2.1) (λx=>(((),()),(x,()))))
def aB6:∀f∈([]:aa Nat),bz (aAU) f:=aH
def alK(a0:aa bg)(a1:az)(a2:aa Span):af aBd:=
 bif J (a1.bD=0)then V (Span.mk a1.fN a1.fN)else bif J (a1.bD=24)then if 0<=a1.fN/\a1.fN<zR a0 then if 0<=a1.fN/\a1.fN<zR a0 then V (Span.mk a0[a1.fN.toNat]!.ah a0[a1.fN.toNat]!.ag)else I else I else bif J (a1.bD=6)then if(0:Int)<=(0:Int)/\(0:Int)<zR a2 then if(0:Int)<=(0:Int)/\(0:Int)<zR a2 then V (Span.mk (aj (0-a2[0]!.ag)) (aj (0-a2[0]!.ah)))else I else I else bif J (a1.bD=8)then if(0:Int)<=(0:Int)/\(0:Int)<zR a2 then if(0:Int)<=(1:Int)/\(1:Int)<zR a2 then if(0:Int)<=(0:Int)/\(0:Int)<zR a2 then if(0:Int)<=(1:Int)/\(1:Int)<zR a2 then V (Span.mk (aj (a2[0]!.ah+a2[1]!.ah)) (aj (a2[0]!.ag+a2[1]!.ag)))else I else I else I else I else bif J (a1.bD=9)then if(0:Int)<=(0:Int)/\(0:Int)<zR a2 then if(0:Int)<=(1:Int)/\(1:Int)<zR a2 then if(0:Int)<=(0:Int)/\(0:Int)<zR a2 then if(0:Int)<=(1:Int)/\(1:Int)<zR a2 then V (Span.mk (aj (a2[0]!.ah-a2[1]!.ag)) (aj (a2[0]!.ag-a2[1]!.ah)))else I else I else I else I else bif J (a1.bD=10)then if(0:Int)<=(0:Int)/\(0:Int)<zR a2 then if(0:Int)<=(1:Int)/\(1:Int)<zR a2 then match amI a2[0]! a2[1]! with|I=>I|V r1=>V (r1)else I else I else bif J (a1.bD=11)then if(0:Int)<=(0:Int)/\(0:Int)<zR a2 then if(0:Int)<=(0:Int)/\(0:Int)<zR a2 then match if(0:Int)<=(0:Int)/\(0:Int)<zR a2 then bif J (0<=a2[0]!.ah)then if(0:Int)<=(1:Int)/\(1:Int)<zR a2 then V (J (0<=a2[1]!.ah))else I else V G else I with|I=>I|V r2=>bif r2 then V (Span.mk 0 (if a2[0]!.ag<aj (0-a2[0]!.ah)then aj (0-a2[0]!.ah)else a2[0]!.ag))else V (Span.mk (aj (0-if a2[0]!.ag<aj (0-a2[0]!.ah)then aj (0-a2[0]!.ah)else a2[0]!.ag)) (if a2[0]!.ag<aj (0-a2[0]!.ah)then aj (0-a2[0]!.ah)else a2[0]!.ag))else I else I else bif J (a1.bD=12)then if(0:Int)<=(1:Int)/\(1:Int)<zR a2 then bif J (a2[1]!.ah<0)then if(0:Int)<=(1:Int)/\(1:Int)<zR a2 then if(0:Int)<=(1:Int)/\(1:Int)<zR a2 then bif J (0<a2[1]!.ag)then if(0:Int)<=(1:Int)/\(1:Int)<zR a2 then V (Span.mk (if 0<aj (a2[1]!.ah+1)then 0 else aj (a2[1]!.ah+1)) (if aj (a2[1]!.ag-1)<0 then 0 else aj (a2[1]!.ag-1)))else I else V (Span.mk (if 0<aj (a2[1]!.ah+1)then 0 else aj (a2[1]!.ah+1)) 0)else I else I else if(0:Int)<=(1:Int)/\(1:Int)<zR a2 then bif J (0<a2[1]!.ag)then if(0:Int)<=(1:Int)/\(1:Int)<zR a2 then V (Span.mk 0 (if aj (a2[1]!.ag-1)<0 then 0 else aj (a2[1]!.ag-1)))else I else V (Span.mk 0 0)else I else I else bif J (a1.bD=21)then if(0:Int)<=(0:Int)/\(0:Int)<zR a2 then if(0:Int)<=(1:Int)/\(1:Int)<zR a2 then if(0:Int)<=(0:Int)/\(0:Int)<zR a2 then if(0:Int)<=(1:Int)/\(1:Int)<zR a2 then V (Span.mk (if a2[1]!.ah<a2[0]!.ah then a2[1]!.ah else a2[0]!.ah) (if a2[1]!.ag<a2[0]!.ag then a2[1]!.ag else a2[0]!.ag))else I else I else I else I else bif J (a1.bD=22)then if(0:Int)<=(0:Int)/\(0:Int)<zR a2 then if(0:Int)<=(1:Int)/\(1:Int)<zR a2 then if(0:Int)<=(0:Int)/\(0:Int)<zR a2 then if(0:Int)<=(1:Int)/\(1:Int)<zR a2 then V (Span.mk (if a2[0]!.ah<a2[1]!.ah then a2[1]!.ah else a2[0]!.ah) (if a2[0]!.ag<a2[1]!.ag then a2[1]!.ag else a2[0]!.ag))else I else I else I else I else bif J (a1.bD=23)then if(0:Int)<=(1:Int)/\(1:Int)<zR a2 then if(0:Int)<=(2:Int)/\(2:Int)<=zR a2 then match Fx (Bm.mk (ya 2 a2) (↑(ya 2 a2).length:Int) 0 (Span.mk 0 0) a2[1]!)with|I=>I|V r3=>bif J (r3.t209<r3.t208)then if 0<=r3.t209/\r3.t209<zR r3.t207 then I else I else V (r3.b1)else I else I else bif J (a1.bD=25)then if(0:Int)<=(1:Int)/\(1:Int)<zR a2 then if(0:Int)<=(2:Int)/\(2:Int)<=zR a2 then match Fx (Bm.mk (ya 2 a2) (↑(ya 2 a2).length:Int) 0 (Span.mk 0 0) a2[1]!)with|I=>I|V r4=>bif J (r4.t209<r4.t208)then if 0<=r4.t209/\r4.t209<zR r4.t207 then I else I else V (r4.b1)else I else I else V (Span.mk 0 1)
def azy:=eL vi 339 G (lc (ql 131) (lc (qg 137) (lc (ql 331) ln))) d339 (λg=>alK g.1 g.2.1 g.t.1)
def ah2:EO azy:=λh=>kL (F:=aAU) (an:=(noTwo (.two (noTwo (noTwo (noTwo (noTwo (noTwo (noTwo (noTwo (noTwo (noTwo (noTwo (noTwo (noTwo (noTwo (noTwo (.two (noTwo (.two (.two (.rb [] 123) .no) .no)) (noTwo (noTwo (noTwo (noTwo (noTwo (noTwo (noTwo (.two (noTwo (.two (noTwo (Q0.lp Fx .no)) .no)) .no))))))))))))))))))))))) .no))) (l:=[(.skip,(.rb [] 123)),(aZ f339 0,(Q0.lp Fx .no))]) func339 (V2 (Xu (agL aV))) (aA aB6 (aA (aO Q0) aH)) h
abbrev sZ:=Span×Bool
def d307:Td 0 sZ:= .c [] [4,5] (.r 0 1 (ec 4 (qp 0 0) (ec 5 qb en)) (sb 0 331 (lg 331) sn) (λz=>(z.2.1,z.1.2.1)) (λx=>(((),x.2,()),(x.1,()))))
def ati:=(lc (ql 131) (lc (qg 137) ln))
def asC(M:(aa bg)->az->af sZ):bq->bq:=eL vi 307 G ati d307 (λg=>M g.1 g.2.1)
def am2(M:(aa bg)->az->af sZ):Prop:=HL vi 307 ati d307 (λg=>M g.1 g.2.1)
def Xe{M:(aa bg)->az->af sZ}(hM:am2 M){F:bq}(h:bA vi F):bA vi (asC M F):=ew (sc:=oF) di hM ⟨_,func307,aW,aW⟩ (λ_=>aW) (λ_=>aW) h
def aqF(M307:(aa bg)->az->af sZ):bq:=(azy (asC M307 dw))
def ahn{M307}(h307:am2 M307):bA vi (aqF M307):=(ah2 (Xe h307 aV))
structure Gy where
 t0:List bg
 t6:List Span
 t13:List az
 (t14 t15:Int)
 b0:az
 b1:Span
def Th:Td 0 Gy:= .c [] [0,3,4,6,13,14,15] (.t (bX.s 6 [] 331) (.c [] [0,3,4,6,13,14,15] (.r 0 3 (ec 0 (ql 131) (ec 3 (qp 0 0) (ec 4 (qp 1 0) (ec 6 (qo 2) (ec 13 (ql 137) (ec 14 aN (ec 15 aN en))))))) (sb 0 137 (lg 137) (sb 1 331 (lg 331) (sr 2 331 sn))) (λz=>⟨z.1.1,z.t.2.1,z.1.q.1,z.1.q.2.1,z.1.q.t.1,z.2.1,z.t.1⟩) (λx=>((x.t0,(),(),(),x.t13,x.t14,x.t15,()),(x.b0,x.b1,x.t6,()))))))
def EN(M307:(aa bg)->az->af sZ)(p:Gy):af (af Gy):=
 bif J (p.t15<p.t14)then if 0<=p.t15/\p.t15<zR p.t13 then match M307 p.t0 (az.mk p.t13[zD p.t15]!.bD p.t13[zD p.t15]!.fN p.t13[zD p.t15]!.ax)with|I=>I|V r1=>bif bif r1.snd then G else O then V (I)else if(p.t6++[r1.fst]).length<=1073741824 then V (V (Gy.mk p.t0 (p.t6++[r1.fst]) p.t13 p.t14 (aj (p.t15+1)) (az.mk p.b0.bD p.b0.fN p.b0.ax) p.b1))else I else I else V (I)
def JR(M307:(aa bg)->az->af sZ):=bI (EN M307)
def aoy(M307:(aa bg)->az->af sZ):An:=(noTwo (noTwo (.two (noTwo (Th.lp (JR M307) .no)) .no)))
def ayh(M307:(aa bg)->az->af sZ):fe vi (aqF M307) 0 300 307 (aoy M307):=b6 (l:=[(aZ f307 0,(Th.lp (JR M307) .no))]) func307 (bM aW) aW (aA (aO Th) aH)
def ajC(M307:(aa bg)->az->af sZ)(a0:aa bg)(a1:az):af sZ:=
 match JR M307 (Gy.mk a0 [] a1.ax (zR a1.ax) 0 (az.mk a1.bD a1.fN a1.ax) (Span.mk 0 0))with|I=>I|V r2=>bif J (r2.t15<r2.t14)then if 0<=r2.t15/\r2.t15<zR r2.t13 then match M307 r2.t0 (az.mk r2.t13[zD r2.t15]!.bD r2.t13[zD r2.t15]!.fN r2.t13[zD r2.t15]!.ax)with|I=>I|V r3=>bif bif r3.snd then G else O then V (Span.mk 0 0,G)else if(r2.t6++[r3.fst]).length<=1073741824 then I else I else I else match alK r2.t0 (az.mk r2.b0.bD r2.b0.fN r2.b0.ax) r2.t6 with|I=>I|V r4=>bif J (-1048576<=r4.ah)then V ((r4,J (r4.ag<=1048576)))else V (r4,G)
def aHm(M307:(aa bg)->az->af sZ)(a0:aa bg)(a1:az):bV vi (aqF M307) 300 (aoy M307) 307 (ati.c (a0,a1,())) [] 0 d307.rd=ajC M307 a0 a1:=aW
def apE:Nat->((aa bg)->az->af sZ)
 |0=>(λ_ _=>I)
 |n+1=>(ajC (apE n))
def RI(n:Nat):(aa bg)->az->af sZ:=(apE n)
def Mz:∀n,am2 (RI n)
 |0=>λ_ _ h=>(by cases h)
 |n+1=>by
  have ih:=Mz n;have i307:=ih;exact(dR (ahn i307) (ayh (RI n)) (λ_=>aW) (λ_=>aW) λg=>aHm (RI n) g.1 g.2.1)
def ai7:(aa bg)->az->af sZ:=λa0 a1=>lim (λn=>RI n a0 a1)
def amc:am2 ai7:=λg b h=>by
 obtain⟨n,hn⟩:=dD (show lim (λn=>RI n g.1 g.2.1)=V b from h);exact(Mz n) g b hn
def aFS(F:bq):bq:=asC ai7 F
def ajS{F:bq}(h:bA vi F):bA vi (aFS F):=Xe amc h
abbrev azX:=Int
def d267:Td 0 azX:= .c [] [6] (.r 0 0 (ec 6 aN en) sn (λz=>z.1.1) (λx=>((x,()),(()))))
def Ss(a0:aa bg)(a1:az)(a2:Bool):af azX:=
 match agf a0 (az.mk a1.bD a1.fN a1.ax) a2 with|I=>I|V r1=>bif bif r1 then G else O then V (1)else match ai7 a0 (az.mk a1.bD a1.fN a1.ax)with|I=>I|V r2=>bif bif r2.snd then G else O then V (3)else V (0)
def auD:=eL vi 267 G (lc (ql 131) (lc (qg 137) (lc qb ln))) d267 (λg=>Ss g.1 g.2.1 g.t.1)
def WL:EO auD:=λh=>kL (an:= .no) func267 (ajS (alp aV)) aH h
def XZ:EP auD:=λh=>kP h
structure F8 where
 t8:List dF
 (t9 t10:Int)
 b0:aS
def Ri:Td 0 F8:= .c [] [1,8,9,10] (.r 0 1 (ec 1 (qp 0 0) (ec 8 (ql 139) (ec 9 aN (ec 10 aN en)))) (sb 0 26 (lg 26) sn) (λz=>⟨z.1.2.1,z.1.t.1,z.1.t.2.1,z.2.1⟩) (λx=>(((),x.t8,x.t9,x.t10,()),(x.b0,()))))
def Ci(p:F8):af (af F8):=
 bif J (p.t10<p.t9)then if 0<=p.t10/\p.t10<zR p.t8 then match Rf p.t8[zD p.t10]!.fName with|I=>I|V r1=>bif bif r1 then G else O then V (I)else if 0<=p.t10/\p.t10<=zR p.b0.au then match aaE (List.take p.t10.toNat p.b0.au) (dF.mk p.t8[zD p.t10]!.fName p.t8[zD p.t10]!.ah p.t8[zD p.t10]!.ag (az.mk p.t8[zD p.t10]!.aG.bD p.t8[zD p.t10]!.aG.fN p.t8[zD p.t10]!.aG.ax))with|I=>I|V r2=>bif r2 then V (I)else bif bif JJ p.t8[zD p.t10]!.ah p.t8[zD p.t10]!.ag then G else O then V (I)else match Ss p.b0.ai (az.mk p.t8[zD p.t10]!.aG.bD p.t8[zD p.t10]!.aG.fN p.t8[zD p.t10]!.aG.ax) O with|I=>I|V r3=>bif bif J (r3=0)then G else O then V (I)else V (V (F8.mk p.t8 p.t9 (aj (p.t10+1)) p.b0))else I else I else V (I)
def Ki:=bI (Ci)
abbrev aDw:=Int
def d211:Td 0 aDw:= .c [] [2] (.r 0 0 (ec 2 aN en) sn (λz=>z.1.1) (λx=>((x,()),(()))))
def afx(a0:aS):af aDw:=
 match Ki (F8.mk a0.au (zR a0.au) 0 a0)with|I=>I|V r4=>bif J (r4.t10<r4.t9)then if 0<=r4.t10/\r4.t10<zR r4.t8 then match Rf r4.t8[zD r4.t10]!.fName with|I=>I|V r5=>bif bif r5 then G else O then V 7 else if 0<=r4.t10/\r4.t10<=zR r4.b0.au then match aaE (List.take r4.t10.toNat r4.b0.au) (dF.mk r4.t8[zD r4.t10]!.fName r4.t8[zD r4.t10]!.ah r4.t8[zD r4.t10]!.ag (az.mk r4.t8[zD r4.t10]!.aG.bD r4.t8[zD r4.t10]!.aG.fN r4.t8[zD r4.t10]!.aG.ax))with|I=>I|V r6=>bif r6 then V 8 else bif bif JJ r4.t8[zD r4.t10]!.ah r4.t8[zD r4.t10]!.ag then G else O then V 3 else match Ss r4.b0.ai (az.mk r4.t8[zD r4.t10]!.aG.bD r4.t8[zD r4.t10]!.aG.fN r4.t8[zD r4.t10]!.aG.ax) O with|I=>I|V r7=>bif bif J (r7=0)then G else O then V (r7)else I else I else I else V 0
def axV:=eL vi 211 G (lc (qg 26) ln) d211 (λg=>afx g.1)
def ali:EO axV:=λh=>kL (an:=(noTwo (.two (noTwo (Ri.lp Ki .no)) .no))) (l:=[(aZ f211 0,(Ri.lp Ki .no))]) func211 (WL (alS (Vg (VL aV)))) (aA (aO Ri) aH) h
def atm:bq:=dw
abbrev atu:=Bool
def d308:Td 0 atu:= .c [] [2] (.r 0 0 (ec 2 qb en) sn (λz=>z.1.1) (λx=>((x,()),(()))))
def aCU:=(aU ln)
def apS:An:=(noTwo (.two (.rb [] 2) .no))
def awP:∀f∈([]:aa Nat),bz (atm) f:=aH
def XW(a0:Int):atu:=
 let r1:Bool:=bif J (a0=0)then O else J (a0=5);r1
def aFf(a0:Int):bV vi (atm) 300 (apS) 308 (aCU.c (a0,())) [] 0 d308.rd=V (XW a0):=by
 refine Eq.trans (b:=(
  match bif J (a0=0)then V (O)else V (J (a0=5))with|I=>I|V r1=>V (r1):af atu)) aW ?_
 simp only[XW,cu,cQ]
def auZ:=eL vi 308 G aCU d308 (λg=>V (XW g.1))
def ahf:EO auZ:=λh=>kL (F:=atm) (an:=apS) (l:=[(.skip,(.rb [] 2))]) func308 aV (aA awP aH) h (c:=λg=>aFf g.1)
def ob:EP auZ:=λh=>kP h
def aq6:bq:=dw
abbrev atx:=Bool
def d309:Td 0 atx:= .c [] [2] (.r 0 0 (ec 2 qb en) sn (λz=>z.1.1) (λx=>((x,()),(()))))
def ax5:=(aU ln)
def an0:An:=(noTwo (.two (.rb [] 2) .no))
def azQ:∀f∈([]:aa Nat),bz (aq6) f:=aH
def acv(a0:Int):atx:=
 let r1:Bool:=bif J (a0=4)then O else J (a0=5);r1
def aHs(a0:Int):bV vi (aq6) 300 (an0) 309 (ax5.c (a0,())) [] 0 d309.rd=V (acv a0):=by
 refine Eq.trans (b:=(
  match bif J (a0=4)then V (O)else V (J (a0=5))with|I=>I|V r1=>V (r1):af atx)) aW ?_
 simp only[acv,cu,cQ]
def aqq:=eL vi 309 G ax5 d309 (λg=>V (acv g.1))
def am3:EO aqq:=λh=>kL (F:=aq6) (an:=an0) (l:=[(.skip,(.rb [] 2))]) func309 aV (aA azQ aH) h (c:=λg=>aHs g.1)
def nw:EP aqq:=λh=>kP h
def aqH:bq:=dw
abbrev as7:=Bool
def d310:Td 0 as7:= .c [] [2] (.r 0 0 (ec 2 qb en) sn (λz=>z.1.1) (λx=>((x,()),(()))))
def aBF:=(aU ln)
def aoE:An:=(noTwo (.two (.rb [] 2) .no))
def azb:∀f∈([]:aa Nat),bz (aqH) f:=aH
def abG(a0:Int):as7:=
 let r1:Bool:=bif J (a0=0)then O else bif J (a0=1)then O else bif J (a0=3)then O else J (a0=4);r1
def aFG(a0:Int):bV vi (aqH) 300 (aoE) 310 (aBF.c (a0,())) [] 0 d310.rd=V (abG a0):=by
 refine Eq.trans (b:=(
  match bif J (a0=0)then V (O)else bif J (a0=1)then V (O)else bif J (a0=3)then V (O)else V (J (a0=4))with|I=>I|V r1=>V (r1):af as7)) aW ?_
 simp only[abG,cu,cQ]
def ary:=eL vi 310 G aBF d310 (λg=>V (abG g.1))
def aie:EO ary:=λh=>kL (F:=aqH) (an:=aoE) (l:=[(.skip,(.rb [] 2))]) func310 aV (aA azb aH) h (c:=λg=>aFG g.1)
def oa:EP ary:=λh=>kP h
def aqb:bq:=dw
abbrev aqf:=Bool
def d311:Td 0 aqf:= .c [] [2] (.r 0 0 (ec 2 qb en) sn (λz=>z.1.1) (λx=>((x,()),(()))))
def aCW:=(lc (qg 137) ln)
def aoi:An:=(noTwo (.two (.rb [] 2) .no))
def aBM:∀f∈([]:aa Nat),bz (aqb) f:=aH
def YN(a0:az):aqf:=
 let r1:Bool:=bif J (a0.bD=0)then bif J (a0.fN=0)then J ((zR a0.ax:Int)=0)else G else G;r1
def aHp(a0:az):bV vi (aqb) 300 (aoi) 311 (aCW.c (a0,())) [] 0 d311.rd=V (YN a0):=by
 refine Eq.trans (b:=(
  match bif J (a0.bD=0)then bif J (a0.fN=0)then V (J ((zR a0.ax:Int)=0))else V (G)else V (G)with|I=>I|V r1=>V (r1):af aqf)) aW ?_
 simp only[YN,cu,cQ]
def avH:=eL vi 311 G aCW d311 (λg=>V (YN g.1))
def aiC:EO avH:=λh=>kL (F:=aqb) (an:=aoi) (l:=[(.skip,(.rb [] 2))]) func311 aV (aA aBM aH) h (c:=λg=>aHp g.1)
def nv:EP avH:=λh=>kP h
structure Co where
 t0:List Int
 (t5 t6:Int)
def Ry:Td 0 Co:= .c [] [0,5,6] (.r 0 0 (ec 0 (ql 3) (ec 5 aN (ec 6 aN en))) sn (λz=>⟨z.1.1,z.1.2.1,z.1.t.1⟩) (λx=>((x.t0,x.t5,x.t6,()),(()))))
def LL(p:Co):af (af Co):=
 bif J (p.t6<p.t5)then bif J (0<p.t6)then if 0<=p.t6/\p.t6<zR p.t0 then if 0<=aj (p.t6-1)/\aj (p.t6-1)<zR p.t0 then bif J (((p.t0,p.t5,p.t6,()),()).fst.fst[((p.t0,p.t5,p.t6,()),()).fst.snd.snd.fst.toNat]!<=((p.t0,p.t5,p.t6,()),()).fst.fst[(aj (((p.t0,p.t5,p.t6,()),()).fst.snd.snd.fst-1)).toNat]!)then V (I)else V (V (Co.mk p.t0 p.t5 (aj (p.t6+1))))else I else I else V (V (Co.mk p.t0 p.t5 (aj (p.t6+1))))else V (I)
def Jv:=bI (LL)
abbrev ayQ:=Bool
def d312:Td 0 ayQ:= .c [] [2] (.r 0 0 (ec 2 qb en) sn (λz=>z.1.1) (λx=>((x,()),(()))))
def ad1(a0:aa Int):af ayQ:=
 match Jv (Co.mk a0 (zR a0) 0)with|I=>I|V r1=>bif J (r1.t6<r1.t5)then bif J (0<r1.t6)then if 0<=r1.t6/\r1.t6<zR r1.t0 then if 0<=aj (r1.t6-1)/\aj (r1.t6-1)<zR r1.t0 then bif J (((r1.t0,r1.t5,r1.t6,()),()).fst.fst[((r1.t0,r1.t5,r1.t6,()),()).fst.snd.snd.fst.toNat]!<=((r1.t0,r1.t5,r1.t6,()),()).fst.fst[(aj (((r1.t0,r1.t5,r1.t6,()),()).fst.snd.snd.fst-1)).toNat]!)then V G else I else I else I else I else V O
def aqX:=eL vi 312 G (lc (ql 3) ln) d312 (λg=>ad1 g.1)
def ai4:EO aqX:=λh=>kL (an:=(noTwo (.two (noTwo (Ry.lp Jv .no)) .no))) (l:=[(aZ f312 0,(Ry.lp Jv .no))]) func312 aV (aA (aO Ry) aH) h
def nK:EP aqX:=λh=>kP h
def aBk:bq:=(aqX (avH (ary (aqq (auZ dw)))))
abbrev axD:=Bool
def d268:Td 0 axD:= .c [] [6] (.r 0 0 (ec 6 qb en) sn (λz=>z.1.1) (λx=>((x,()),(()))))
def tv:∀f∈([308,309,310,311,312]:aa Nat),bz (aBk) f:=(aA (nK (nv (oa (nw (ob bF))))) (aA (nK (nv (oa (nw (ob bF))))) (aA (nK (nv (oa (nw (ob bF))))) (aA (nK (nv (oa (nw (ob bF))))) (aA (nK (nv (oa (nw (ob bF))))) aH)))))
def Sv(a0:aS)(a1:aC)(a2:Bool):af axD:=
 match bif J (a1.cg<0)then V O else V (J (6<a1.cg))with|I=>I|V r1=>bif r1 then V G else match bif bif XW a1.cg then G else O then V (bif J (a1.dM=0)then G else O)else V G with|I=>I|V r2=>bif r2 then V G else match bif bif acv a1.cg then G else O then V (bif J (a1.fN=0)then G else O)else V G with|I=>I|V r3=>bif r3 then V G else match bif bif abG a1.cg then G else O then V (bif YN (az.mk a1.aG.bD a1.aG.fN a1.aG.ax)then G else O)else V G with|I=>I|V r4=>bif r4 then V G else match bif bif J (a1.cg=3)then G else O then bif bif J (a1.cg=4)then G else O then V (J (0<(zR a1.aQ:Int)))else V G else V G with|I=>I|V r5=>bif r5 then V G else match bif bif J (a1.cg=3)then G else O then V (J (0<(zR a1.aX:Int)))else V G with|I=>I|V r6=>bif r6 then V G else match bif bif J (a1.cg=6)then G else O then V (J (0<(zR a1.aR:Int)))else V G with|I=>I|V r7=>bif r7 then V G else match bif XW a1.cg then bif J (a1.dM<0)then V O else bif J (zR a0.ai<=a1.dM)then V O else if 0<=a1.dM/\a1.dM<zR a0.ai then V (bif J (a0.ai[a1.dM.toNat]!.bB=0)then G else O)else I else V G with|I=>I|V r8=>bif r8 then V G else match bif J (a1.cg=5)then bif J (a1.fN<0)then V O else V (J (zR a0.au<=a1.fN))else V G with|I=>I|V r9=>bif r9 then V G else match bif bif J (a1.cg=6)then G else O then V O else bif a2 then bif J (0<(zR a1.aR:Int))then bif J ((zR a1.aR:Int)<=32)then if(0:Int)<=(0:Int)/\(0:Int)<zR a1.aR then bif J (0<=a1.aR[zD 0]!)then match ad1 a1.aR with|I=>I|V r10=>V (r10)else V G else I else V G else V G else V G with|I=>I|V r11=>V (r11)
def aul:=eL vi 268 G (lc (qg 26) (lc (qg 166) (lc qb ln))) d268 (λg=>Sv g.1 g.2.1 g.t.1)
def alO:EO aul:=λh=>kL (F:=aBk) (an:=(noTwo (noTwo (.two (.two (.two (.rb [308,309,310,311,312] 10) (noTwo (.two (.rb [308,309,310,311,312] 10) (noTwo (.two (.rb [308,309,310,311,312] 10) (noTwo (.two (.rb [308,309,310,311,312] 10) (noTwo (.two (.rb [308,309,310,311,312] 10) (noTwo (.two (.rb [308,309,310,311,312] 10) (noTwo (.two (.rb [308,309,310,311,312] 10) (noTwo (.two (.rb [308,309,310,311,312] 10) (noTwo (.rb [308,309,310,311,312] 10))))))))))))))))) .no) (.two (.rb [308,309,310,311,312] 6) .no))))) (l:=[(.skip,(.rb [308,309,310,311,312] 10)),(.skip,(.rb [308,309,310,311,312] 10)),(.skip,(.rb [308,309,310,311,312] 10)),(.skip,(.rb [308,309,310,311,312] 10)),(.skip,(.rb [308,309,310,311,312] 10)),(.skip,(.rb [308,309,310,311,312] 10)),(.skip,(.rb [308,309,310,311,312] 10)),(.skip,(.rb [308,309,310,311,312] 10)),(.skip,(.rb [308,309,310,311,312] 10)),(.skip,(.rb [308,309,310,311,312] 6))]) func268 (ai4 (aiC (aie (am3 (ahf aV))))) (aA tv (aA tv (aA tv (aA tv (aA tv (aA tv (aA tv (aA tv (aA tv (aA tv aH)))))))))) h
def XD:EP aul:=λh=>kP h
def awd:bq:=dw
abbrev axm:=Bool
def d269:Td 0 axm:= .c [] [2] (.r 0 0 (ec 2 qb en) sn (λz=>z.1.1) (λx=>((x,()),(()))))
def aoJ:∀f∈([]:aa Nat),bz (awd) f:=aH
def RB(a0:aC):af axm:=
 bif J (a0.cg=2)then match bif J (a0.bh<0)then V O else bif J (67108864<a0.bh)then V O else bif J (a0.cg=4)then bif J (a0.fN<0)then V O else V (J (4096<a0.fN))else V G with|I=>I|V r1=>bif r1 then V G else match bif bif J (a0.cg=6)then G else O then V O else if 0<=aj ((zR a0.aR:Int)-(1:Int))/\aj ((zR a0.aR:Int)-(1:Int))<zR a0.aR then V (J (a0.aR[(aj ((zR a0.aR:Int)-1)).toNat]!<=67108864))else I with|I=>I|V r2=>V (r2)else match bif J (a0.bh<0)then V O else bif J (10000<a0.bh)then V O else bif J (a0.cg=4)then bif J (a0.fN<0)then V O else V (J (4096<a0.fN))else V G with|I=>I|V r3=>bif r3 then V G else match bif bif J (a0.cg=6)then G else O then V O else if 0<=aj ((zR a0.aR:Int)-(1:Int))/\aj ((zR a0.aR:Int)-(1:Int))<zR a0.aR then V (J (a0.aR[(aj ((zR a0.aR:Int)-1)).toNat]!<=67108864))else I with|I=>I|V r4=>V (r4)
def auY:=eL vi 269 G (lc (qg 166) ln) d269 (λg=>RB g.1)
def aiu:EO auY:=λh=>kL (F:=awd) (an:=(noTwo (noTwo (noTwo (.two (.two (.rb [] 30) .no) (.two (.rb [] 2) .no)))))) (l:=[(.skip,(.rb [] 30)),(.skip,(.rb [] 2))]) func269 aV (aA aoJ (aA aoJ aH)) h
def XV:EP auY:=λh=>kP h
abbrev mG:=Int
def d212:Td 0 mG:= .c [] [6] (.r 0 0 (ec 6 aN en) sn (λz=>z.1.1) (λx=>((x,()),(()))))
def aqr:=(lc (qg 26) (lc (ql 166) (lc qb ln)))
def aiw(M:aS->(aa aC)->Bool->af mG):bq->bq:=eL vi 212 G aqr d212 (λg=>M g.1 g.2.1 g.2.2.1)
def XB{M:aS->(aa aC)->Bool->af mG}{F:bq}{f:Nat}(h:bz F f):bz (aiw M F) f:=gu h (λ_=>aW)
def akB(M:aS->(aa aC)->Bool->af mG):Prop:=HL vi 212 aqr d212 (λg=>M g.1 g.2.1 g.2.2.1)
def Xc{M:aS->(aa aC)->Bool->af mG}(hM:akB M){F:bq}(h:bA vi F):bA vi (aiw M F):=ew (sc:=oF) di hM ⟨_,func212,aW,aW⟩ (λ_=>aW) (λ_=>aW) h
def alW(M212:aS->(aa aC)->Bool->af mG):bq:=(auY (aul (auD (aiw M212 dw))))
def alf{M212}(h212:akB M212):bA vi (alW M212):=(aiu (alO (WL (Xc h212 aV))))
structure B8 where
 t1:List aC
 t2:Bool
 t13:List aC
 (t14 t15:Int)
 t47:List (List aC)
 (t48 t49:Int)
 b0:aS
def Sh:Td 0 B8:= .c [] [1,2,3,13,14,15,47,48,49] (.r 0 2 (ec 1 (ql 166) (ec 2 qb (ec 3 (qp 0 0) (ec 13 (ql 166) (ec 14 aN (ec 15 aN (ec 47 (qo 1) (ec 48 aN (ec 49 aN en))))))))) (sb 0 26 (lg 26) (sr 1 24 sn)) (λz=>⟨z.1.1,z.1.2.1,z.1.t.2.1,z.1.q.1,z.1.q.2.1,z.t.1,z.1.q.t.2.1,z.1.q.q.1,z.2.1⟩) (λx=>((x.t1,x.t2,(),x.t13,x.t14,x.t15,(),x.t48,x.t49,()),(x.b0,x.t47,()))))
def Cj(M212:aS->(aa aC)->Bool->af mG)(p:B8):af (af B8):=
 bif J (p.t49<p.t48)then if 0<=p.t49/\p.t49<zR p.t47 then if 24=24/\zD p.t49<zR p.t47 then match M212 p.b0 p.t47[zD p.t49]! G with|I=>I|V r8=>bif bif J (r8=0)then G else O then V (I)else V (V (B8.mk p.t1 p.t2 p.t13 p.t14 p.t15 p.t47 p.t48 (aj (p.t49+1)) p.b0))else I else I else V (I)
def Br(M212:aS->(aa aC)->Bool->af mG):=bI (Cj M212)
structure EK where
 t1:List aC
 t2:Bool
 t13:List aC
 (t14 t15:Int)
 b0:aS
def Tc:Td 0 EK:= .c [] [1,2,3,13,14,15] (.r 0 1 (ec 1 (ql 166) (ec 2 qb (ec 3 (qp 0 0) (ec 13 (ql 166) (ec 14 aN (ec 15 aN en)))))) (sb 0 26 (lg 26) sn) (λz=>⟨z.1.1,z.1.2.1,z.1.t.2.1,z.1.q.1,z.1.q.2.1,z.2.1⟩) (λx=>((x.t1,x.t2,(),x.t13,x.t14,x.t15,()),(x.b0,()))))
def By(M212:aS->(aa aC)->Bool->af mG)(p:EK):af (af EK):=
 bif J (p.t15<p.t14)then if 0<=p.t15/\p.t15<zR p.t13 then match bif p.t2 then match Sv p.b0 (aC.mk p.t13[zD p.t15]!.cg p.t13[zD p.t15]!.bh p.t13[zD p.t15]!.dM p.t13[zD p.t15]!.fN (az.mk p.t13[zD p.t15]!.aG.bD p.t13[zD p.t15]!.aG.fN p.t13[zD p.t15]!.aG.ax) p.t13[zD p.t15]!.aQ p.t13[zD p.t15]!.aX p.t13[zD p.t15]!.aR) (J (((p.t1,p.t2,(),p.t13,p.t14,p.t15,()),p.b0,()).fst.snd.snd.snd.snd.snd.fst=aj ((↑((p.t1,p.t2,(),p.t13,p.t14,p.t15,()),p.b0,()).fst.fst.length:Int)-1)))with|I=>I|V r1=>V (bif r1 then G else O)else match Sv p.b0 (aC.mk p.t13[zD p.t15]!.cg p.t13[zD p.t15]!.bh p.t13[zD p.t15]!.dM p.t13[zD p.t15]!.fN (az.mk p.t13[zD p.t15]!.aG.bD p.t13[zD p.t15]!.aG.fN p.t13[zD p.t15]!.aG.ax) p.t13[zD p.t15]!.aQ p.t13[zD p.t15]!.aX p.t13[zD p.t15]!.aR) G with|I=>I|V r2=>V (bif r2 then G else O)with|I=>I|V r3=>bif r3 then V (I)else match RB (aC.mk p.t13[zD p.t15]!.cg p.t13[zD p.t15]!.bh p.t13[zD p.t15]!.dM p.t13[zD p.t15]!.fN (az.mk p.t13[zD p.t15]!.aG.bD p.t13[zD p.t15]!.aG.fN p.t13[zD p.t15]!.aG.ax) p.t13[zD p.t15]!.aQ p.t13[zD p.t15]!.aX p.t13[zD p.t15]!.aR)with|I=>I|V r4=>bif bif r4 then G else O then V (I)else match Ss p.b0.ai (az.mk p.t13[zD p.t15]!.aG.bD p.t13[zD p.t15]!.aG.fN p.t13[zD p.t15]!.aG.ax) G with|I=>I|V r5=>bif bif J (r5=0)then G else O then V (I)else match Br M212 (B8.mk p.t1 p.t2 p.t13 p.t14 p.t15 [p.t13[zD p.t15]!.aQ,p.t13[zD p.t15]!.aX] (↑[p.t13[zD p.t15]!.aQ,p.t13[zD p.t15]!.aX].length:Int) 0 p.b0)with|I=>I|V r6=>bif J (r6.t49<r6.t48)then if 0<=r6.t49/\r6.t49<zR r6.t47 then if 24=24/\zD r6.t49<zR r6.t47 then match M212 r6.b0 r6.t47[zD r6.t49]! G with|I=>I|V r7=>bif bif J (r7=0)then G else O then V (I)else I else I else I else V (V (EK.mk r6.t1 r6.t2 r6.t13 r6.t14 (aj (r6.t15+1)) r6.b0))else I else V (I)
def acr(M212:aS->(aa aC)->Bool->af mG):An:=(noTwo (noTwo (.two (noTwo (.two (.two (.rb [268] 31) .no) (noTwo (noTwo (noTwo (Sh.lp (Br M212) .no)))))) .no)))
def JU(M212:aS->(aa aC)->Bool->af mG):=bI (By M212)
def aon(M212:aS->(aa aC)->Bool->af mG):An:=(noTwo (.two (noTwo (Tc.lp (JU M212) (acr M212))) .no))
def ayf{M212}:∀f∈([268]:aa Nat),bz (alW M212) f:=(aA (XV (XD (XZ (XB bF)))) aH)
def aBu(M212:aS->(aa aC)->Bool->af mG):fe vi (alW M212) 0 300 212 (aon M212):=b6 (l:=[(aZ f212 0,(Tc.lp (JU M212) (acr M212))),(.skip,(.rb [268] 31)),(aZ f212 1,(Sh.lp (Br M212) .no))]) func212 (bM aW) aW (aA (aO Tc) (aA ayf (aA (aO Sh) aH)))
def ajh(M212:aS->(aa aC)->Bool->af mG)(a0:aS)(a1:aa aC)(a2:Bool):af mG:=
 match JU M212 (EK.mk a1 a2 a1 (zR a1) 0 a0)with|I=>I|V r9=>bif J (r9.t15<r9.t14)then if 0<=r9.t15/\r9.t15<zR r9.t13 then match bif r9.t2 then match Sv r9.b0 (aC.mk r9.t13[zD r9.t15]!.cg r9.t13[zD r9.t15]!.bh r9.t13[zD r9.t15]!.dM r9.t13[zD r9.t15]!.fN (az.mk r9.t13[zD r9.t15]!.aG.bD r9.t13[zD r9.t15]!.aG.fN r9.t13[zD r9.t15]!.aG.ax) r9.t13[zD r9.t15]!.aQ r9.t13[zD r9.t15]!.aX r9.t13[zD r9.t15]!.aR) (J (((r9.t1,r9.t2,(),r9.t13,r9.t14,r9.t15,()),r9.b0,()).fst.snd.snd.snd.snd.snd.fst=aj ((↑((r9.t1,r9.t2,(),r9.t13,r9.t14,r9.t15,()),r9.b0,()).fst.fst.length:Int)-1)))with|I=>I|V r10=>V (bif r10 then G else O)else match Sv r9.b0 (aC.mk r9.t13[zD r9.t15]!.cg r9.t13[zD r9.t15]!.bh r9.t13[zD r9.t15]!.dM r9.t13[zD r9.t15]!.fN (az.mk r9.t13[zD r9.t15]!.aG.bD r9.t13[zD r9.t15]!.aG.fN r9.t13[zD r9.t15]!.aG.ax) r9.t13[zD r9.t15]!.aQ r9.t13[zD r9.t15]!.aX r9.t13[zD r9.t15]!.aR) G with|I=>I|V r11=>V (bif r11 then G else O)with|I=>I|V r12=>bif r12 then V 1 else match RB (aC.mk r9.t13[zD r9.t15]!.cg r9.t13[zD r9.t15]!.bh r9.t13[zD r9.t15]!.dM r9.t13[zD r9.t15]!.fN (az.mk r9.t13[zD r9.t15]!.aG.bD r9.t13[zD r9.t15]!.aG.fN r9.t13[zD r9.t15]!.aG.ax) r9.t13[zD r9.t15]!.aQ r9.t13[zD r9.t15]!.aX r9.t13[zD r9.t15]!.aR)with|I=>I|V r13=>bif bif r13 then G else O then V 3 else match Ss r9.b0.ai (az.mk r9.t13[zD r9.t15]!.aG.bD r9.t13[zD r9.t15]!.aG.fN r9.t13[zD r9.t15]!.aG.ax) G with|I=>I|V r14=>bif bif J (r14=0)then G else O then V (r14)else match Br M212 (B8.mk r9.t1 r9.t2 r9.t13 r9.t14 r9.t15 [r9.t13[zD r9.t15]!.aQ,r9.t13[zD r9.t15]!.aX] (↑[r9.t13[zD r9.t15]!.aQ,r9.t13[zD r9.t15]!.aX].length:Int) 0 r9.b0)with|I=>I|V r15=>bif J (r15.t49<r15.t48)then if 0<=r15.t49/\r15.t49<zR r15.t47 then if 24=24/\zD r15.t49<zR r15.t47 then match M212 r15.b0 r15.t47[zD r15.t49]! G with|I=>I|V r16=>bif bif J (r16=0)then G else O then V (r16)else I else I else I else I else I else V 0
def aFw(M212:aS->(aa aC)->Bool->af mG)(a0:aS)(a1:aa aC)(a2:Bool):bV vi (alW M212) 300 (aon M212) 212 (aqr.c (a0,a1,a2,())) [] 0 d212.rd=ajh M212 a0 a1 a2:=aW
def an7:Nat->(aS->(aa aC)->Bool->af mG)
 |0=>(λ_ _ _=>I)
 |n+1=>(ajh (an7 n))
def S8(n:Nat):aS->(aa aC)->Bool->af mG:=(an7 n)
def Pe:∀n,akB (S8 n)
 |0=>λ_ _ h=>(by cases h)
 |n+1=>by
  have ih:=Pe n;have i212:=ih;exact(dR (alf i212) (aBu (S8 n)) (λ_=>aW) (λ_=>aW) λg=>aFw (S8 n) g.1 g.2.1 g.2.2.1)
def al6:aS->(aa aC)->Bool->af mG:=λa0 a1 a2=>lim (λn=>S8 n a0 a1 a2)
def aht:akB al6:=λg b h=>by
 obtain⟨n,hn⟩:=dD (show lim (λn=>S8 n g.1 g.2.1 g.2.2.1)=V b from h);exact(Pe n) g b hn
def aBR(F:bq):bq:=aiw al6 F
def ajv{F:bq}(h:bA vi F):bA vi (aBR F):=Xc aht h
abbrev sR:=qe
def d213:Td 0 sR:= .c [] [2] (.r 0 1 (ec 2 (qp 0 0) en) (sb 0 260 (lg 260) sn) (λz=>z.2.1) (λx=>(((),()),(x,()))))
def aqp:=(lc (ql 166) ln)
def avg(M:(aa aC)->af sR):bq->bq:=eL vi 213 G aqp d213 (λg=>M g.1)
def aiv(M:(aa aC)->af sR):Prop:=HL vi 213 aqp d213 (λg=>M g.1)
def Xo{M:(aa aC)->af sR}(hM:aiv M){F:bq}(h:bA vi F):bA vi (avg M F):=ew (sc:=oF) di hM ⟨_,func213,aW,aW⟩ (λ_=>aW) (λ_=>aW) h
def aqB(M213:(aa aC)->af sR):bq:=(avg M213 dw)
def akU{M213}(h213:aiv M213):bA vi (aqB M213):=(Xo h213 aV)
structure qN where
 t9:List aC
 (t10 t11:Int)
 (b0 b1:qe)
def Rk:Td 0 qN:= .c [] [2,3,9,10,11] (.r 0 2 (ec 2 (qp 0 0) (ec 3 (qp 1 0) (ec 9 (ql 166) (ec 10 aN (ec 11 aN en))))) (sb 0 260 (lg 260) (sb 1 260 (lg 260) sn)) (λz=>⟨z.1.t.1,z.1.t.2.1,z.1.q.1,z.2.1,z.t.1⟩) (λx=>(((),(),x.t9,x.t10,x.t11,()),(x.b0,x.b1,()))))
def JA(M213:(aa aC)->af sR)(p:qN):af (af qN):=
 bif J (p.t11<p.t10)then if 0<=p.t11/\p.t11<zR p.t9 then match M213 p.t9[zD p.t11]!.aQ with|I=>I|V r1=>match M213 p.t9[zD p.t11]!.aX with|I=>I|V r2=>bif J (p.t9[zD p.t11]!.cg=1)then V (V (qN.mk p.t9 p.t10 (aj (p.t11+1)) p.b0 (qe.mk (if 1099511627776<aj (p.b1.gy+1)then 1099511627776 else aj (p.b1.gy+1)) (if 1099511627776<aj (p.b1.aK+1)then 1099511627776 else aj (p.b1.aK+1)) (if 1099511627776<aj (p.b1.aI+p.t9[zD p.t11]!.bh)then 1099511627776 else aj (p.b1.aI+p.t9[zD p.t11]!.bh)))))else bif J (p.t9[zD p.t11]!.cg=3)then V (V (qN.mk p.t9 p.t10 (aj (p.t11+1)) p.b0 (qe.mk (if 1099511627776<aj (p.b1.gy+aj (1+if r1.gy<r2.gy then r2.gy else r1.gy))then 1099511627776 else aj (p.b1.gy+aj (1+if r1.gy<r2.gy then r2.gy else r1.gy))) (if 1099511627776<aj (p.b1.aK+if r1.aK<r2.aK then r2.aK else r1.aK)then 1099511627776 else aj (p.b1.aK+if r1.aK<r2.aK then r2.aK else r1.aK)) (if 1099511627776<aj (p.b1.aI+aj (p.t9[zD p.t11]!.bh+if r1.aI<r2.aI then r2.aI else r1.aI))then 1099511627776 else aj (p.b1.aI+aj (p.t9[zD p.t11]!.bh+if r1.aI<r2.aI then r2.aI else r1.aI))))))else bif J (p.t9[zD p.t11]!.cg=4)then V (V (qN.mk p.t9 p.t10 (aj (p.t11+1)) p.b0 (qe.mk (if 1099511627776<aj (p.b1.gy+aj (1+aj (p.t9[zD p.t11]!.fN*aj (1+r1.gy))))then 1099511627776 else aj (p.b1.gy+aj (1+aj (p.t9[zD p.t11]!.fN*aj (1+r1.gy))))) (if 1099511627776<aj (p.b1.aK+aj (p.t9[zD p.t11]!.fN*r1.aK))then 1099511627776 else aj (p.b1.aK+aj (p.t9[zD p.t11]!.fN*r1.aK))) (if 1099511627776<aj (p.b1.aI+aj (p.t9[zD p.t11]!.fN*aj (p.t9[zD p.t11]!.bh+r1.aI)))then 1099511627776 else aj (p.b1.aI+aj (p.t9[zD p.t11]!.fN*aj (p.t9[zD p.t11]!.bh+r1.aI)))))))else V (V (qN.mk p.t9 p.t10 (aj (p.t11+1)) p.b0 (qe.mk (if 1099511627776<aj (p.b1.gy+1)then 1099511627776 else aj (p.b1.gy+1)) (if 1099511627776<aj (p.b1.aK+0)then 1099511627776 else aj (p.b1.aK+0)) (if 1099511627776<aj (p.b1.aI+p.t9[zD p.t11]!.bh)then 1099511627776 else aj (p.b1.aI+p.t9[zD p.t11]!.bh)))))else I else V (I)
def Lf(M213:(aa aC)->af sR):=bI (JA M213)
def anN(M213:(aa aC)->af sR):An:=(noTwo (noTwo (.two (noTwo (Rk.lp (Lf M213) .no)) .no)))
def azO(M213:(aa aC)->af sR):fe vi (aqB M213) 0 300 213 (anN M213):=b6 (l:=[(aZ f213 0,(Rk.lp (Lf M213) .no))]) func213 (bM aW) aW (aA (aO Rk) aH)
def aga(M213:(aa aC)->af sR)(a0:aa aC):af sR:=
 match Lf M213 (qN.mk a0 (zR a0) 0 (qe.mk 0 0 0) (qe.mk 0 0 0))with|I=>I|V r3=>bif J (r3.t11<r3.t10)then if 0<=r3.t11/\r3.t11<zR r3.t9 then match M213 r3.t9[zD r3.t11]!.aQ with|I=>I|V r4=>match M213 r3.t9[zD r3.t11]!.aX with|I=>I|V r5=>bif J (r3.t9[zD r3.t11]!.cg=1)then I else bif J (r3.t9[zD r3.t11]!.cg=3)then I else bif J (r3.t9[zD r3.t11]!.cg=4)then I else I else I else V (r3.b1)
def aGK(M213:(aa aC)->af sR)(a0:aa aC):bV vi (aqB M213) 300 (anN M213) 213 (aqp.c (a0,())) [] 0 d213.rd=aga M213 a0:=aW
def aor:Nat->((aa aC)->af sR)
 |0=>(λ_=>I)
 |n+1=>(aga (aor n))
def RT(n:Nat):(aa aC)->af sR:=(aor n)
def MA:∀n,aiv (RT n)
 |0=>λ_ _ h=>(by cases h)
 |n+1=>by
  have ih:=MA n;have i213:=ih;exact(dR (akU i213) (azO (RT n)) (λ_=>aW) (λ_=>aW) λg=>aGK (RT n) g.1)
def aaU:(aa aC)->af sR:=λa0=>lim (λn=>RT n a0)
def alI:aiv aaU:=λg b h=>by
 obtain⟨n,hn⟩:=dD (show lim (λn=>RT n g.1)=V b from h);exact(MA n) g b hn
def azL(F:bq):bq:=avg aaU F
def amN{F:bq}(h:bA vi F):bA vi (azL F):=Xo alI h
def aAG:bq:=(azL (aBR (axV (ayz (aql (anf (ayS dw)))))))
structure Cc where
 t14:List dF
 (t15 t16:Int)
 b0:aS
 b1:bk
def RW:Td 0 Cc:= .c [] [1,3,14,15,16] (.r 0 2 (ec 1 (qp 0 0) (ec 3 (qp 1 0) (ec 14 (ql 139) (ec 15 aN (ec 16 aN en))))) (sb 0 26 (lg 26) (sb 1 256 (lg 256) sn)) (λz=>⟨z.1.t.1,z.1.t.2.1,z.1.q.1,z.2.1,z.t.1⟩) (λx=>(((),(),x.t14,x.t15,x.t16,()),(x.b0,x.b1,()))))
def Fv(p:Cc):af (af Cc):=
 bif J (p.t16<p.t15)then if 0<=p.t16/\p.t16<zR p.t14 then bif bif(jH p.b1).fst then G else O then match GS (az.mk p.t14[zD p.t16]!.aG.bD p.t14[zD p.t16]!.aG.fN p.t14[zD p.t16]!.aG.ax) 1 (jH p.b1).snd with|I=>I|V r1=>V (V (Cc.mk p.t14 p.t15 (aj (p.t16+1)) p.b0 r1))else V (V (Cc.mk p.t14 p.t15 (aj (p.t16+1)) p.b0 (jH p.b1).snd))else I else V (I)
def FN:=bI (Fv)
abbrev aCe:=Int
def d136:Td 0 aCe:= .c [] [2] (.r 0 0 (ec 2 aN en) sn (λz=>z.1.1) (λx=>((x,()),(()))))
def aCp:∀f∈([]:aa Nat),bz (aAG) f:=aH
def ZS(a0:aS):af aCe:=
 match abT a0.bK 1 (bk.mk 0 G)with|I=>I|V r2=>match FN (Cc.mk a0.au (zR a0.au) 0 a0 r2)with|I=>I|V r3=>bif J (r3.t16<r3.t15)then if 0<=r3.t16/\r3.t16<zR r3.t14 then bif bif(jH r3.b1).fst then G else O then match GS (az.mk r3.t14[zD r3.t16]!.aG.bD r3.t14[zD r3.t16]!.aG.fN r3.t14[zD r3.t16]!.aG.ax) 1 (jH r3.b1).snd with|I=>I|V r4=>I else I else I else bif J (64<(zR r3.b0.ai:Int))then V 4 else bif J (8<(zR r3.b0.au:Int))then V 4 else bif(jH r3.b1).fst then V 4 else match amj r3.b0.ai with|I=>I|V r5=>bif bif J (r5=0)then G else O then V (r5)else match afx r3.b0 with|I=>I|V r6=>bif bif J (r6=0)then G else O then V (r6)else match al6 r3.b0 r3.b0.bK O with|I=>I|V r7=>bif bif J (r7=0)then G else O then V (r7)else match aaU r3.b0.bK with|I=>I|V r8=>match bif J (4096<r8.gy)then V O else bif J (8<r8.aK)then V O else V (J (67108864<r8.aI))with|I=>I|V r9=>bif r9 then V 4 else V 0
def afN:=eL vi 136 G (lc (qg 26) ln) d136 (λg=>ZS g.1)
def Xw:EO afN:=λh=>kL (F:=aAG) (an:=(noTwo (noTwo (noTwo (.two (noTwo (RW.lp FN .no)) (noTwo (noTwo (noTwo (noTwo (.two (noTwo (.two (.rb [] 72) .no)) .no)))))))))) (l:=[(aZ f136 0,(RW.lp FN .no)),(.skip,(.rb [] 72))]) func136 (amN (ajv (ali (agu (WV (Ka (ajr aV))))))) (aA (aO RW) (aA aCp aH)) h
def Iz:EP afN:=λh=>kP h
def aeV(l:aa UInt8):(ByteArray.mk (Array.mk l)).toList=l:=by
 simp
def ast(s:ByteArray):(s.toList==(ByteArray.mk (Array.mk [])).toList)=J (s.size=0):=by
 obtain⟨⟨l⟩⟩:=s;rw[aeV,aeV];have hs:(ByteArray.mk (Array.mk l)).size=zR l:=rfl;rw[hs];cases l with
 |nil=>rfl
 |cons a l=>simp
def C6(s:ByteArray):Rf s=V (kD s):=by
 unfold Rf;rw[ast];by_cases h0:s.size=0
 ·simp[h0,kD]
 by_cases h1:40<(s.size:Int)
 ·have h1':¬s.size<=40:=aq;simp[h1,h1',kD]
 rw[bY h0,bY h1];obtain⟨i,e1,hc⟩:=qh (rnd:=LW) (zN s.size) (λi=>⟨s,(s.size:Int),(i:Int)⟩) (λi j=>okc j (cw s j)) (λi hi=>by
  rw[we]at hi;have hw:=jG hi aq;unfold LW okc;simp only[zg];grind) (by unfold LW;simp)
 have e1':LK ⟨s,(s.size:Int),0⟩=V ⟨s,(s.size:Int),(i:Int)⟩:=e1;rw[e1'];have h2:kD s=(zN s.size).all λi=>okc i (cw s i):=by
  unfold kD;rw[om,om];simp
 rw[h2];rcases hc with ⟨rfl,hc⟩|⟨hi,hc⟩
 ·rw[D3 hc];simp
 ·rw[vq hi hc];unfold okc at hc;simp only[zg];grind
def DM(s:ByteArray):TJ s=V (kD s):=by
 unfold TJ;by_cases h0:s.size<1
 ·have h0':¬1<=s.size:=aq;have h0'':(s.size:Int)<1:=aq;simp[h0'',h0',kD]
 by_cases h1:40<(s.size:Int)
 ·have h1':¬s.size<=40:=aq;have h0'':¬(s.size:Int)<1:=aq;simp[h1,h1',kD]
 rw[bY (show ¬(s.size:Int)<1 by omega),bY h1];obtain⟨i,e1,hc⟩:=qh (rnd:=Lq) (zN s.size) (λi=>⟨s,(i:Int)⟩) (λi j=>okc j (cw s j)) (λi hi=>by
  rw[we]at hi;have hw:=jG hi aq;unfold Lq okc;simp only[zg];grind) (by unfold Lq;simp)
 have e1':J4 ⟨s,0⟩=V ⟨s,(i:Int)⟩:=e1;rw[e1'];have h2:kD s=(zN s.size).all λi=>okc i (cw s i):=by
  unfold kD;rw[om,om];simp
 rw[h2];rcases hc with ⟨rfl,hc⟩|⟨hi,hc⟩
 ·rw[D3 hc];simp
 ·rw[vq hi hc];unfold okc at hc;simp only[zg];grind
def Dg(a b:Int):JJ a b=jB a b:=by
 unfold JJ jB;simp
def DJ(a b:Int):JZ a b=jB a b:=by
 unfold JZ jB;simp
def Vs(l:aa bg)(hl:zR l<=1000000)(v:bg):ZN l v=V (l.any λw=>w.fName.toList==v.fName.toList):=by
 obtain⟨i,e1,hc⟩:=qh (rnd:=I6) l (λi=>⟨l,v.fName,v.bB,v.ah,v.ag,v.eH,(zR l:Int),(i:Int)⟩) (λ_ w=> !(w.fName.toList==v.fName.toList)) (λi hi=>by
  have hw:=jG hi hl;unfold I6 ack;grind) (by unfold I6;simp)
 have e1':La ⟨l,v.fName,v.bB,v.ah,v.ag,v.eH,(zR l:Int),0⟩=V ⟨l,v.fName,v.bB,v.ah,v.ag,v.eH,(zR l:Int),(i:Int)⟩:=e1;unfold ZN au0;rw[e1'];rcases hc with ⟨rfl,hc⟩|⟨hi,hc⟩
 ·rw[uM λj hj=>by have:=hc j hj;simpa using this];simp
 ·have hc':(l[i]!.fName.toList==v.fName.toList)=O:=by simpa using hc
  rw[LI hi hc'];unfold ack;simp only[zg,hc'];simp[hi]
def Ii(l:aa bg)(hl:zR l<=1000000)(n:Nat)(hn:n<=zR l)(v:bg):
  ∃i:Nat,Gu ⟨l,n,0,v⟩=V ⟨l,n,(i:Int),v⟩/\((i=n/\((l.take n).any λw=>w.fName.toList==v.fName.toList)=G)\/(i<n/\(l[i]!.fName.toList==v.fName.toList)=O/\((l.take n).any λw=>w.fName.toList==v.fName.toList)=O)):=by
 have hlen:zR (l.take n)=n:=by rw[zA];omega
 have hget:∀i,i<n->(l.take n)[i]! =l[i]! :=λi hi=>by
  rw[getElem!_pos _ i aq,getElem!_pos _ i aq,xJ]
 obtain⟨i,e1,hc⟩:=qh (rnd:=I5) (l.take n) (λi=>⟨l,(n:Int),(i:Int),v⟩) (λ_ w=> !(w.fName.toList==v.fName.toList)) (λi hi=>by
  have hw:=jG hi aq;unfold I5;grind) (by rw[hlen];unfold I5;simp)
 refine⟨i,e1,?_⟩;rw[hlen]at hc;rcases hc with ⟨rfl,hc⟩|⟨hi,hc⟩
 ·exact .inl ⟨rfl,uM λj hj=>by have:=hc j aq;simpa using this⟩
 ·have hc':((l.take n)[i]!.fName.toList==v.fName.toList)=O:=by simpa using hc
  exact .inr ⟨hi,by rw[<-hget i hi];exact hc',LI aq hc'⟩
def DK(a b:aa az):kH (a++b)=kH a+kH b:=by simp[kH]
def Gc(l:aa az)(i:Nat):kH (l.take i)<=kH l:=by
 have:=DK (l.take i) (l.drop i);rw[xe]at this;omega
def K2(l:aa az):zR l<=kH l:=by
 induction l with
 |nil=>simp
 |cons a l ih=>rw[qd];have:=adF a;simp;omega
def ahc(a b:aa aC):fP (a++b)=fP a+fP b:=by simp[fP]
def aeQ(l:aa aC)(i:Nat):fP (l.take i)<=fP l:=by
 have:=ahc (l.take i) (l.drop i);rw[xe]at this;omega
def auH(s:aC):0<nS s:=by rw[pM];omega
def j9(l:aa aC):zR l<=fP l:=by
 induction l with
 |nil=>simp
 |cons a l ih=>rw[ny];have:=auH a;simp;omega
def Fg{l:aa az}{i:Nat}(hi:i<zR l):kH (l.take i)+nT l[i]!<=kH l:=by
 have:=Gc l (i+1);rw[bG hi,qa]at this;omega
def Ev{l:aa aC}{i:Nat}(hi:i<zR l):fP (l.take i)+nS l[i]!<=fP l:=by
 have:=aeQ l (i+1);rw[bG hi,NI]at this;omega
def TS(l:aa az)(h:∀k∈l,dT k<=nT k):∀i,i<=zR l->Qa (l.take i)<=kH (l.take i):=by
 intro i;induction i with
 |zero=>intro _;simp[Qa]
 |succ i ih=>
  intro hi;have h2:=h _ (bu (show i<zR l by omega));rw[bG aq,FM,qa];omega
def api(t:az):dT t<=nT t:=by
 have key:∀(n:Nat) (t:az),zf t<n->dT t<=nT t:=by
  intro n;induction n with
  |zero=>intro t h;omega
  |succ n ih=>
   intro t h;have:=TS t.ax (λk hk=>ih k (by have:=az.e9 hk;omega)) (zR t.ax) (zm _);rw[zH]at this;rw[Um,vt];omega
 exact key _ t (zC _)
def adI(l:aa az)(i:Nat):Qa (l.take i)<=kH l:=by
 have h1:=Gc l i;by_cases h:i<=zR l
 ·have:=TS l (λk _=>api k) i h;omega
 ·have:=TS l (λk _=>api k) (zR l) (zm _);rw[zH]at this;rw[List.take_of_length_le aq];omega
def aei(l:aa aC):jP l<=fP l:=by
 have key:∀(n:Nat) (l:aa aC),zf l<n->jP l<=fP l:=by
  intro n;induction n with
  |zero=>intro t h;omega
  |succ n ih=>
   intro l h;cases l with
   |nil=>rw[jP];simp
   |cons s l=>
    have q1:=ih s.aQ (by have:=bw (l:=s::l) (zk ..);omega);have q2:=ih s.aX (by have:=bw (l:=s::l) (zk ..);omega);have q3:=ih l (by have:=ei s l;omega);rw[jP,ny,pM];omega
 exact key _ l (zC _)
def agQ(M:az->af qX)(t:az)(hM:∀k∈t.ax,M k=V (nT k:Int))(h:nT t<=1000):alT M t=V (nT t:Int):=by
 have hN:=vt t;have hL:=K2 t.ax;obtain⟨v,e1,hv⟩:=cH (rnd:=KM M) (zR t.ax) (λi (b:Int)=>⟨b,(i:Int),t⟩) (λi b=>b=1+kH (t.ax.take i)) (λi b hi hb=>by
   have hs:=Fg hi;refine⟨b+nT t.ax[i]!,?_,?_⟩
   ·have hk:=hM _ (bu hi);have hw:=jG hi aq;have hw2:aj (b+nT t.ax[i]!)=b+nT t.ax[i]! :=aM;unfold KM;simp only[az.eta];grind
   ·rw[bG hi,qa];omega) (λb _=>by unfold KM;simp) (b:=1) (by simp[kH])
 have e1':I9 M ⟨1,0,t⟩=V ⟨v,(zR t.ax:Int),t⟩:=e1;unfold alT;rw[az.eta,e1',hN];simp[hv]
def VT:∀(n:Nat) (t:az),zf t<n->nT t<=1000->SI n t=V (nT t:Int)
 |0,_,h,_=>aq
 |n+1,t,h,h2=>agQ (SI n) t (λk hk=>VT n k (by have:=az.e9 hk;omega) (by have:=VZ hk;have:=vt t;omega)) h2
def JS(t:az)(h:nT t<=1000):T8 t=V (nT t:Int):=eO (zf t+1) λn hn=>VT n t aq h
def ait(M:az->af rF)(t:az)(hM:∀k∈t.ax,M k=V (dT k))(h:nT t<=1000):ajU M t=V (dT t):=by
 have hN:=vt t;have hL:=K2 t.ax;obtain⟨v,e1,hv⟩:=cH (rnd:=JQ M) (zR t.ax) (λi (b:Int)=>⟨b,(i:Int),t⟩) (λi b=>b=Qa (t.ax.take i)) (λi b hi hb=>by
   refine⟨max b (dT t.ax[i]!),?_,?_⟩
   ·have hk:=hM _ (bu hi);have hw:=jG hi aq;unfold JQ;simp only[zQ,az.eta];grind
   ·rw[bG hi,FM,hb]) (λb _=>by unfold JQ;simp) (b:=0) (by simp[Qa])
 have e1':Jj M ⟨0,0,t⟩=V ⟨v,(zR t.ax:Int),t⟩:=e1;unfold ajU;rw[az.eta,e1',Um];have hd:=adI t.ax (zR t.ax);have hp:=Ku t.ax;rw[zH]at hv hd;subst hv;have hw2:aj (Qa t.ax+1)=Qa t.ax+1:=aM;dsimp only;rw[fO];show V (aj (Qa t.ax+1))=_
 congr 1
 omega
def Uu:∀(n:Nat) (t:az),zf t<n->nT t<=1000->S7 n t=V (dT t)
 |0,_,h,_=>aq
 |n+1,t,h,h2=>ait (S7 n) t (λk hk=>Uu n k (by have:=az.e9 hk;omega) (by have:=VZ hk;have:=vt t;omega)) h2
def J6(t:az)(h:nT t<=1000):Pc t=V (dT t):=eO (zf t+1) λn hn=>Uu n t aq h
def Dx{s:aC}{l:aa aC}(h:s∈l):nS s<=fP l:=by
 induction l with
 |nil=>cases h
 |cons a l ih=>
  rw[ny];rcases zy.1 h with rfl|h
  ·omega
  ·have:=ih h;omega
def gP:aa aC->Int
 |[]=>0
 |s::l=>1+nT s.aG+gP s.aQ+gP s.aX+gP l
termination_by l=>zf l
decreasing_by
 ·exact(bw (zk ..)).1
 ·exact(bw (zk ..)).2
 ·exact ei _ _
def Dj(l:aa aC):0<=gP l/\gP l<=fP l:=by
 have key:∀(n:Nat) (l:aa aC),zf l<n->0<=gP l/\gP l<=fP l:=by
  intro n;induction n with
  |zero=>intro t h;omega
  |succ n ih=>
   intro l h;cases l with
   |nil=>rw[gP];simp
   |cons s l=>
    have q1:=ih s.aQ (by have:=bw (l:=s::l) (zk ..);omega);have q2:=ih s.aX (by have:=bw (l:=s::l) (zk ..);omega);have q3:=ih l (by have:=ei s l;omega);rw[gP,ny,pM];omega
 exact key _ l (zC _)
def XQ(l:aa aC)(s:aC):gP (l++[s])=gP l+(1+nT s.aG+gP s.aQ+gP s.aX):=by
 induction l with
 |nil=>rw[yz,show gP []=0 by rw[gP],gP,show gP []=0 by rw[gP]];omega
 |cons a l ih=>rw[xy,gP,gP,ih];omega
def ah3(M:aa aC->af rC)(l:aa aC)(hM:∀s∈l,M s.aQ=V (gP s.aQ)/\M s.aX=V (gP s.aX))(h:fP l<=1000):agJ M l=V (gP l):=by
 have hL:=j9 l;obtain⟨v,e1,hv⟩:=cH (rnd:=K4 M) (zR l) (λi (b:Int)=>⟨l,b,(i:Int)⟩) (λi b=>b=gP (l.take i)) (λi b hi hb=>by
   have hs:=Ev hi;have hE:=pM l[i]!;obtain⟨k1,k4⟩:=hM _ (bu hi);have k2:=Dj l[i]!.aQ;have k3:=Dj l[i]!.aX;have k5:=Dj (l.take i);have hk:=JS l[i]!.aG aq;have hw:=jG hi aq;refine⟨b+(1+nT l[i]!.aG+gP l[i]!.aQ+gP l[i]!.aX),?_,?_⟩
   ·have w1:aj (b+1)=b+1:=aM;have w2:aj (b+1+nT l[i]!.aG)=b+1+nT l[i]!.aG:=aM;have w3:aj (b+1+nT l[i]!.aG+gP l[i]!.aQ)=b+1+nT l[i]!.aG+gP l[i]!.aQ:=aM;have w4:aj (b+1+nT l[i]!.aG+gP l[i]!.aQ+gP l[i]!.aX)=b+(1+nT l[i]!.aG+gP l[i]!.aQ+gP l[i]!.aX):=by rw[aM];omega
    unfold K4;simp only[az.eta];grind
   ·rw[bG hi,XQ];omega) (λb _=>by unfold K4;simp) (b:=0) (by simp[gP])
 have e1':Jm M ⟨l,0,0⟩=V ⟨l,v,(zR l:Int)⟩:=e1;unfold agJ;rw[e1'];simp[hv]
def gB{s:aC}{l:aa aC}(h:s∈l):fP s.aQ<=fP l/\fP s.aX<=fP l:=by
 have:=Dx h;have:=pM s;omega
def JK:∀(n:Nat) (l:aa aC),zf l<n->fP l<=1000->TL n l=V (gP l)
 |0,_,h,_=>aq
 |n+1,l,h,h2=>ah3 (TL n) l (λs hs=>⟨JK n _ (by have:=bw hs;omega) (by have:=gB hs;omega),JK n _ (by have:=bw hs;omega) (by have:=gB hs;omega)⟩) h2
def amS(l:aa aC)(h:fP l<=1000):al9 l=V (gP l):=eO (zf l+1) λn hn=>JK n l aq h
def ai9(M:aa aC->af p6)(l:aa aC)(hM:∀s∈l,M s.aQ=V (jP s.aQ)/\M s.aX=V (jP s.aX))(h:fP l<=1000):alz M l=V (jP l):=by
 have hL:=j9 l;obtain⟨v,e1,hv⟩:=cH (rnd:=IP M) (zR l) (λi (b:Int)=>⟨l,b,(i:Int)⟩) (λi b=>b=jP (l.take i)) (λi b hi hb=>by
   obtain⟨k1,k4⟩:=hM _ (bu hi);have k2:=aei l[i]!.aQ;have k3:=aei l[i]!.aX;have k5:=gB (bu hi);have k6:=v8 l[i]!.aQ;have k7:=v8 l[i]!.aX;have hw:=jG hi aq;refine⟨max b (max (jP l[i]!.aQ+1) (jP l[i]!.aX+1)),?_,?_⟩
   ·have w1:aj (jP l[i]!.aQ+1)=jP l[i]!.aQ+1:=aM;have w2:aj (jP l[i]!.aX+1)=jP l[i]!.aX+1:=aM;unfold IP;simp only[zg];grind
   ·rw[bG hi,acJ];omega) (λb _=>by unfold IP;simp) (b:=0) (by simp[jP])
 have e1':Kk M ⟨l,0,0⟩=V ⟨l,v,(zR l:Int)⟩:=e1;unfold alz;rw[e1'];simp[hv]
def IV:∀(n:Nat) (l:aa aC),zf l<n->fP l<=1000->T1 n l=V (jP l)
 |0,_,h,_=>aq
 |n+1,l,h,h2=>ai9 (T1 n) l (λs hs=>⟨IV n _ (by have:=bw hs;omega) (by have:=gB hs;omega),IV n _ (by have:=bw hs;omega) (by have:=gB hs;omega)⟩) h2
def agY(l:aa aC)(h:fP l<=1000):ahl l=V (jP l):=eO (zf l+1) λn hn=>IV n l aq h
def PA(s:aC):Bool:=J (12<dT s.aG)||fL s.aQ||fL s.aX
def Y9(l:aa aC):fL l=l.any PA:=by
 induction l with
 |nil=>rw[fL];rfl
 |cons s l ih=>rw[fL,ih,List.any_cons];rfl
def ans(M:aa aC->af pT)(l:aa aC)(hM:∀s∈l,M s.aQ=V (fL s.aQ)/\M s.aX=V (fL s.aX))(h:fP l<=1000):aj8 M l=V (fL l):=by
 have hL:=j9 l;have hT:∀i,i<zR l->Pc l[i]!.aG=V (dT l[i]!.aG):=λi hi=>J6 _ (by have:=Dx (bu hi);have:=pM l[i]!;omega);obtain⟨i,e1,hc⟩:=qh (rnd:=L8 M) l (λi=>⟨l,(i:Int)⟩) (λ_ s=> !PA s) (λi hi=>by
   obtain⟨k1,k4⟩:=hM _ (bu hi);have hk:=hT i hi;have hw:=jG hi aq;unfold L8 PA;simp only[zg,az.eta,k1,k4];cases fL l[i]!.aQ<;>cases fL l[i]!.aX<;>grind) (by unfold L8;simp)
 have e1':J2 M ⟨l,0⟩=V ⟨l,(i:Int)⟩:=e1;unfold aj8;rw[e1',Y9];rcases hc with ⟨rfl,hc⟩|⟨hi,hc⟩
 ·rw[uM λj hj=>by have:=hc j hj;simpa using this];simp
 ·have hc':PA l[i]! =O:=by simpa using hc
  obtain⟨k1,k4⟩:=hM _ (bu hi);have hk:=hT i hi;unfold PA at hc';simp only[zg,az.eta,k1,k4];revert hc';cases fL l[i]!.aQ<;>cases fL l[i]!.aX<;>grind
def Lt:∀(n:Nat) (l:aa aC),zf l<n->fP l<=1000->Rt n l=V (fL l)
 |0,_,h,_=>aq
 |n+1,l,h,h2=>ans (Rt n) l (λs hs=>⟨Lt n _ (by have:=bw hs;omega) (by have:=gB hs;omega),Lt n _ (by have:=bw hs;omega) (by have:=gB hs;omega)⟩) h2
def alX(l:aa aC)(h:fP l<=1000):alE l=V (fL l):=eO (zf l+1) λn hn=>Lt n l aq h
def fR(b:bk):Bool:=b.fQ||J (1024<b.bH)
def vI(b:bk):jH b=(fR b,b):=by
 rfl
def dH(d:Int)(b:bk):bk:=⟨b.bH+1,b.fQ||J (12<d)⟩
def AL(t:az)(d:Int)(b:bk):bk:=if fR (dH d b)=O then dH d b else t.ax.attach.foldl (λb k=>AL k.1 (d+1) b) (dH d b)
termination_by zf t
decreasing_by exact az.e9 k.2
def GL(l:aa az)(d:Int)(b:bk):bk:=l.foldl (λb k=>AL k d b) b
def aav(t:az)(d:Int)(b:bk):AL t d b=if fR (dH d b)=O then dH d b else GL t.ax (d+1) (dH d b):=by
 rw[AL,GL];simp
def HR(l:aa az)(k:az)(d:Int)(b:bk):GL (l++[k]) d b=AL k d (GL l d b):=by simp[GL]
def MsP(d0:Int)(n:Int)(b r:bk):Prop:=r.fQ=(b.fQ||J (12<d0))/\b.bH<=r.bH/\r.bH<=b.bH+n
def Kf(t:az)(d:Int)(b:bk)(h0:0<=d)(h1:0<=b.bH)(h2:b.bH+nT t<=1000):MsP (d-1+dT t) (nT t) b (AL t d b):=by
 have key:∀(n:Nat) (t:az) (d:Int) (b:bk),zf t<n->0<=d->0<=b.bH->b.bH+nT t<=1000->MsP (d-1+dT t) (nT t) b (AL t d b):=by
  intro n;induction n with
  |zero=>intro t d b h;omega
  |succ n ih=>
   intro t d b h h0 h1 h2;have hN:=vt t;have hD:=Um t;have hd0:=Ku t.ax;rw[aav];by_cases ho:fR (dH d b)=O
   ·rw[bJ ho];unfold fR dH at ho;unfold MsP dH;grind
   ·rw[bN ho];have hi:∀i,i<=zR t.ax->MsP (d+Qa (t.ax.take i)) (kH (t.ax.take i)) (dH d b) (GL (t.ax.take i) (d+1) (dH d b)):=by
     intro i;induction i with
     |zero=>
      simp only[GL,MsP,Qa,dH];grind
     |succ i ihi=>
      intro hi;have q:=ihi aq;have hs:=Fg (show i<zR t.ax by omega);have hm:t.ax[i]!∈t.ax:=bu aq;have hp:(dH d b).bH=b.bH+1:=rfl;have q2:=ih t.ax[i]! (d+1) (GL (t.ax.take i) (d+1) (dH d b)) (by have:=az.e9 hm;omega) aq (by have:=q.2.1;omega) (by have:=q.2.2;omega);rw[bG aq,HR,FM,qa];obtain⟨a1,a2,a3⟩:=q;obtain⟨c1,c2,c3⟩:=q2;refine⟨?_,aq,aq⟩;rw[c1,a1];rw[Bool.or_assoc]
      congr 1
      rw[<-Bool.decide_or];apply decide_eq_decide.2;omega
    have q:=hi (zR t.ax) (zm _);unfold MsP at q ⊢;have hp:(dH d b).bH=b.bH+1:=rfl;have hp2:(dH d b).fQ=(b.fQ||J (12<d)):=rfl;grind
 exact key _ t d b (zC _) h0 h1 h2
def aiM(M:az->Int->bk->af s8)(t:az)(hM:∀k∈t.ax,∀(d:Int) (b:bk),0<=d->d<=13->0<=b.bH->b.bH+nT k<=1000->M k d b=V (AL k d b))(d:Int)(b:bk)(h0:0<=d)(hd:d<=13)(h1:0<=b.bH)(h2:b.bH+nT t<=1000):al5 M t d b=V (AL t d b):=by
 have hN:=vt t;have hL:=K2 t.ax;have hw0:aj (b.bH+1)=b.bH+1:=aM;have hw1:aj (d+1)=d+1:=aM;have hinc:∀x,(⟨b.bH+1,x⟩:bk)=dH d b↔x=(b.fQ||J (12<d)):=λx=>by unfold dH;simp
 have key:fR (dH d b)=G->d<=12/\F9 M ⟨d,t.ax,(zR t.ax:Int),0,dH d b⟩=V ⟨d,t.ax,(zR t.ax:Int),(zR t.ax:Int),GL t.ax (d+1) (dH d b)⟩:=λho=>by
  have hd2:d<=12:=by unfold fR dH at ho;grind
  refine⟨hd2,?_⟩;obtain⟨v,e1,hv,_⟩:=cH (rnd:=Jr M) (zR t.ax) (λi (x:bk)=>⟨d,t.ax,(zR t.ax:Int),(i:Int),x⟩) (λi x=>x=GL (t.ax.take i) (d+1) (dH d b)/\b.bH+1<=x.bH/\x.bH<=b.bH+1+kH (t.ax.take i)) (λi x hi hx=>by
    have hs:=Fg hi;have hk:=hM _ (bu hi) (d+1) x aq aq aq aq;have hp:=Kf t.ax[i]! (d+1) x aq aq aq;have hw:=jG hi aq;refine⟨AL t.ax[i]! (d+1) x,?_,?_⟩
    ·unfold Jr;simp only[az.eta];grind
    ·unfold MsP at hp;rw[bG hi,HR,<-hx.1,qa];exact⟨rfl,aq,aq⟩) (λx _=>by unfold Jr;simp) (b:=dH d b) ⟨rfl,zw _,by show b.bH+1<=_;simp[kH]⟩
  rw[zH]at hv;rw[<-hv];exact e1
 rw[aav];unfold al5;rw[hw0];have hm:∀x,x=(b.fQ||J (12<d))->jH ⟨b.bH+1,x⟩=(fR (dH d b),dH d b):=λx hx=>by rw[vI,(hinc x).2 hx]
 cases hb:b.fQ with
 |true=>
  rw[hm O (by rw[hb];rfl)];have ho:fR (dH d b)=O:=by unfold fR dH;simp[hb]
  simp[ho]
 |false=>
  rw[hm (J (12<d)) (by rw[hb];rfl)];cases ho:fR (dH d b)with
  |true=>simp
  |false=>
   obtain⟨_,e⟩:=key ho;rw[e];simp
def Vj:∀(n:Nat) (t:az) (d:Int) (b:bk),zf t<n->0<=d->d<=13->0<=b.bH->b.bH+nT t<=1000->TP n t d b=V (AL t d b)
 |0,_,_,_,h,_,_,_,_=>aq
 |n+1,t,d,b,h,h0,hd,h1,h2=>aiM (TP n) t (λk hk d b a1 a2 a3 a4=>Vj n k d b (by have:=az.e9 hk;omega) a1 a2 a3 a4) d b h0 hd h1 h2
def U8(t:az)(d:Int)(b:bk)(h0:0<=d)(hd:d<=13)(h1:0<=b.bH)(h2:b.bH+nT t<=1000):GS t d b=V (AL t d b):=eO (zf t+1) λn hn=>Vj n t d b aq h0 hd h1 h2
def oh(d:Int):aa aC->bk->bk
 |[],b=>b
 |s::l,b=>if fR (dH d b)=O then dH d b else oh d l (oh (d+1) s.aX (oh (d+1) s.aQ (AL s.aG 1 (dH d b))))
termination_by l=>zf l
decreasing_by
 ·exact(bw (zk ..)).1
 ·exact(bw (zk ..)).2
 ·exact ei _ _
def QN(d:Int)(l:aa aC)(b:bk)(h0:0<=d)(hd:d<=13)(h1:0<=b.bH)(h2:b.bH+fP l<=1000):(oh d l b).fQ=(b.fQ||(J (12<d-1+jP l)||fL l))/\b.bH<=(oh d l b).bH/\(oh d l b).bH<=b.bH+fP l:=by
 have key:∀(n:Nat) (d:Int) (l:aa aC) (b:bk),zf l<n->0<=d->d<=13->0<=b.bH->b.bH+fP l<=1000->(oh d l b).fQ=(b.fQ||(J (12<d-1+jP l)||fL l))/\b.bH<=(oh d l b).bH/\(oh d l b).bH<=b.bH+fP l:=by
  intro n;induction n with
  |zero=>intro d l b h;omega
  |succ n ih=>
   intro d l b h h0 hd h1 h2;cases l with
   |nil=>
    rw[oh,jP,fL];refine⟨?_,aq,by simp[fP]⟩;rw[fO];simp
   |cons s l=>
    have hz:=bw (l:=s::l) (zk ..);have hz2:=ei s l;have hN:=pM s;have hC:=ny s l;have p1:=v8 s.aQ;have p2:=v8 s.aX;have p3:=v8 l;have p4:=asz s.aG;have hp:(dH d b).bH=b.bH+1:=rfl;have hp2:(dH d b).fQ=(b.fQ||J (12<d)):=rfl;rw[oh,jP,fL];by_cases ho:fR (dH d b)=O
    ·rw[bJ ho];unfold fR dH at ho;unfold dH;dsimp only at ho ⊢;refine⟨?_,aq,aq⟩;grind
    ·rw[bN ho];unfold fR at ho;rw[hp,hp2]at ho;have hb:b.fQ=G:=by grind
     have hd2:d<=12:=by grind
     obtain⟨a1,a2,a3⟩:=Kf s.aG 1 (dH d b) aq aq aq;obtain⟨c1,c2,c3⟩:=ih (d+1) s.aQ (AL s.aG 1 (dH d b)) aq aq aq aq aq;obtain⟨g1,g2,g3⟩:=ih (d+1) s.aX _ aq aq aq (xV aq c2) aq;obtain⟨k1,k2,k3⟩:=ih d l _ aq h0 hd (xV aq g2) aq;refine⟨?_,aq,aq⟩;rw[k1,g1,c1,a1,hp2,hb];rw[bY (show ¬12<d by omega)];have e1:J (12<1-1+dT s.aG)=J (12<dT s.aG):=by congr 1;rw[show (1:Int)-1+dT s.aG=dT s.aG by omega]
     rw[e1];have e2:J (12<d-1+max (max (jP s.aQ+1) (jP s.aX+1)) (jP l))=(J (12<d+1-1+jP s.aQ)||(J (12<d+1-1+jP s.aX)||J (12<d-1+jP l))):=by
      rw[<-Bool.decide_or,<-Bool.decide_or];apply decide_eq_decide.2;omega
     rw[e2];generalize J (12<dT s.aG)=x1;generalize J (12<d+1-1+jP s.aQ)=x2;generalize J (12<d+1-1+jP s.aX)=x3;generalize J (12<d-1+jP l)=x4;generalize fL s.aQ=x5;generalize fL s.aX=x6;generalize fL l=x7;revert x1 x2 x3 x4 x5 x6 x7;decide
 exact key _ d l b (zC _) h0 hd h1 h2
def Cs{α:Type}[Inhabited α]{c:Nat->α->Int}:∀(l:aa α) (i:Nat),cz c l i=0->∀j,j<zR l->c (i+j) l[j]! =0
 |[],i,_,j,hj=>by simp at hj
 |x::xs,i,h,j,hj=>by
  unfold cz at h;split at h
  ·rename_i hx;cases j with
   |zero=>exact hx
   |succ j=>
    have:=Cs xs (i+1) h j (by simpa using hj);rw[show i+1+j=i+(j+1)by omega]at this
    assumption
  ·omega
def de(vars:aa bg):Prop:=∀v∈vars,-1048576<=v.ah/\v.ah<=v.ag/\v.ag<=1048576
def Zu{vars:aa bg}{i:Nat}{v:bg}(h:mY vars i v=0): -1048576<=v.ah/\v.ah<=v.ag/\v.ag<=1048576:=by
 unfold mY jB at h;grind
def nY{vars:aa bg}(h:cz (mY vars) vars 0=0):de vars:=λv hv=>by
 obtain⟨i,hi,e⟩:=y5 hv;have:=Cs _ _ h i hi;rw[getElem!_pos vars i hi,e]at this;exact Zu this
def uq(kind:Int):∀(l:aa bg) (i:Nat) (n:Int),Py (λ_ (n:Int) (v:bg)=>if 4096<n*(v.ag-v.ah+1)then(.inr ():Int ⊕ Unit)else .inl (n*(v.ag-v.ah+1))) (λ_=>(I:af Int)) V (l.filter λv=>J (v.bB=kind)) i n=uJ kind l n
 |[],i,n=>rfl
 |v::vs,i,n=>by
  unfold uJ;by_cases hv:v.bB=kind
  ·rw[ve (by simpa using hv),bJ hv];by_cases h:4096<n*(v.ag-v.ah+1)
   ·rw[bJ h,oD (r:=()) (by rw[bJ h])]
   ·rw[bN h,sy (by rw[bN h])];exact uq kind vs (i+1) _
  ·rw[vf (by simpa using hv),bN hv];exact uq kind vs i n
def EW(kind:Int):∀(l:aa bg) (i:Nat) (n:Int),Py (λ_ (n:Int) (v:bg)=>if v.bB=kind then(if 4096<n*(v.ag-v.ah+1)then(.inr ():Int ⊕ Unit)else .inl (n*(v.ag-v.ah+1)))else .inl n) (λ_=>(I:af Int)) V l i n=uJ kind l n
 |[],i,n=>rfl
 |v::vs,i,n=>by
  unfold uJ;by_cases hv:v.bB=kind
  ·rw[bJ hv];by_cases h:4096<n*(v.ag-v.ah+1)
   ·rw[bJ h,oD (r:=()) (by rw[bJ hv,bJ h])]
   ·rw[bN h,sy (b':=n*(v.ag-v.ah+1)) (by rw[bJ hv,bN h])];exact EW kind vs (i+1) _
  ·rw[bN hv,sy (b':=n) (by rw[bN hv])];exact EW kind vs (i+1) n
def DB{v:bg}(h: -1048576<=v.ah/\v.ah<=v.ag/\v.ag<=1048576){n:Int}(h1:1<=n)(h2:n<=4096):
  1<=n*(v.ag-v.ah+1)/\aj (v.ag-v.ah)=v.ag-v.ah/\aj (v.ag-v.ah+1)=v.ag-v.ah+1/\aj (n*(v.ag-v.ah+1))=n*(v.ag-v.ah+1):=by
 have e1:0<=(n-1)*(v.ag-v.ah+1):=zJ aq aq;have e2:n*(v.ag-v.ah+1)<=4096*(v.ag-v.ah+1):=zL h2 aq;have e3:(n-1)*(v.ag-v.ah+1)=n*(v.ag-v.ah+1)-(v.ag-v.ah+1):=by rw[yC,yc]
 exact⟨aq,aM,aM,aM⟩
def Y1(vars:aa bg)(hv:de vars)(hl:zR vars<=1000000)(kind:Int):tJ ⟨kind,[],vars,(zR vars:Int),0⟩=V ⟨kind,vars.filter (λv=>J (v.bB=kind)),vars,(zR vars:Int),(zR vars:Int)⟩:=by
 obtain⟨v,e1,hV⟩:=cH (rnd:=Gd) (zR vars) (λi (b:aa bg)=>⟨kind,b,vars,(zR vars:Int),(i:Int)⟩) (λi b=>b=(vars.take i).filter λv=>J (v.bB=kind)) (λi b hi hb=>by
  have hw:=jG hi hl;have hv:=hv _ (bu hi);have hb2:zR b<=i:=by rw[hb];exact zG (yt _ _) (by rw[zA];omega)
  rw[bG hi,xk,<-hb];by_cases hk:vars[i]!.bB=kind
  ·refine⟨b++[vars[i]!],?_,?_⟩
   ·have hl2:zR (b++[vars[i]!])<=1073741824:=by simp;omega
    unfold Gd;grind
   ·revert hk;generalize vars[i]! =x;intro hk;simp[hk]
  ·refine⟨b,?_,?_⟩
   ·unfold Gd;grind
   ·revert hk;generalize vars[i]! =x;intro hk;simp[hk]) (λb _=>by unfold Gd;simp) (b:=[]) rfl
 rw[zH]at hV;rw[<-hV];exact e1
def YO(F:aa bg)(hv:de F)(hl:zR F<=1000000):
  ∃(i:Nat) (n:Int),uc ⟨F,1,F,(zR F:Int),0⟩=V ⟨F,n,F,(zR F:Int),(i:Int)⟩/\((i=zR F/\Py (λ_ (n:Int) (v:bg)=>if 4096<n*(v.ag-v.ah+1)then(.inr ():Int ⊕ Unit)else .inl (n*(v.ag-v.ah+1))) (λ_=>(I:af Int)) V F 0 1=V n)\/
   (i<zR F/\4096<aj (n*G3 F[i]!)/\Py (λ_ (n:Int) (v:bg)=>if 4096<n*(v.ag-v.ah+1)then(.inr ():Int ⊕ Unit)else .inl (n*(v.ag-v.ah+1))) (λ_=>(I:af Int)) V F 0 1=I)):=by
 have hm:∀(i:Nat) (n:Int),i<zR F->1<=n->n<=4096->aj (n*G3 F[i]!)=n*(F[i]!.ag-F[i]!.ah+1):=λi n hi h1 h2=>by
  obtain⟨a,b,c,d⟩:=DB (hv _ (bu hi)) h1 h2;unfold G3;rw[b,c,d]
 obtain⟨i,n,e1,hI,hc⟩:=Va (rnd:=JM) F (λi (n:Int)=>⟨F,n,F,(zR F:Int),(i:Int)⟩) (λ_ (n:Int) (v:bg)=>if 4096<n*(v.ag-v.ah+1)then(.inr ():Int ⊕ Unit)else .inl (n*(v.ag-v.ah+1))) (λ_=>(I:af Int)) V (λi n=>1<=n/\n<=4096) (λi n hi hI=>by
  have hw:=jG hi hl;have h1:=hm i n hi hI.1 hI.2;have h2:=(DB (hv _ (bu hi)) hI.1 hI.2).1;unfold JM;simp only[zg];grind) (λb _=>by unfold JM;simp) (b:=1) ⟨aq,aq⟩
 refine⟨i,n,e1,?_⟩;rcases hc with ⟨h1,h2⟩|⟨h1,r,h2,h3⟩
 ·exact .inl ⟨h1,h2⟩
 ·refine .inr ⟨h1,?_,h3⟩;rw[hm i n h1 hI.1 hI.2];by_cases h:4096<n*(F[i]!.ag-F[i]!.ah+1)
  ·exact h
  ·rw[bN h]at h2;cases h2
def Kr(vars:aa bg)(hv:de vars)(hl:zR vars<=1000000)(kind:Int)(hk:kind=1\/kind=2\/kind=3):aat vars kind=V (match uJ kind vars 1 with|V n=>(n,0)|I=>(0,4)):=by
 have e0:=Y1 vars hv hl kind;obtain⟨i,n,e1,hc⟩:=YO (vars.filter λv=>J (v.bB=kind)) (λv h=>hv v (z8.1 h).1) (zG (yt _ _) hl);rw[uq]at hc;unfold aat aq5;rcases hk with rfl|rfl|rfl
 all_goals
  simp only[e0,e1];rcases hc with ⟨rfl,hc⟩|⟨hi,h2,hc⟩
  ·simp[hc]
  ·simp only[zg,h2,hc];simp[hi]
def Md(vars:aa bg)(hv:de vars)(hl:zR vars<=1000000)(kind:Int):XJ vars kind=V (match uJ kind vars 1 with|V n=>n|I=>4097):=by
 have hm:∀(i:Nat) (n:Int),i<zR vars->1<=n->n<=4096->aj (n*aj (aj (vars[i]!.ag-vars[i]!.ah)+1))=n*(vars[i]!.ag-vars[i]!.ah+1):=λi n hi h1 h2=>by
  obtain⟨a,b,c,d⟩:=DB (hv _ (bu hi)) h1 h2;rw[b,c,d]
 obtain⟨i,n,e1,hI,hc⟩:=Va (rnd:=Kt) vars (λi (n:Int)=>⟨vars,kind,n,(i:Int)⟩) (λ_ (n:Int) (v:bg)=>if v.bB=kind then(if 4096<n*(v.ag-v.ah+1)then(.inr ():Int ⊕ Unit)else .inl (n*(v.ag-v.ah+1)))else .inl n) (λ_=>(I:af Int)) V (λi n=>1<=n/\n<=4096) (λi n hi hI=>by
  have hw:=jG hi hl;have h1:=hm i n hi hI.1 hI.2;have h2:=(DB (hv _ (bu hi)) hI.1 hI.2).1;unfold Kt;simp only[zg];grind) (λb _=>by unfold Kt;simp) (b:=1) ⟨aq,aq⟩
 rw[EW]at hc;have e1':Me ⟨vars,kind,1,0⟩=V ⟨vars,kind,n,(i:Int)⟩:=e1;unfold XJ;rw[e1'];rcases hc with ⟨rfl,hc⟩|⟨hi,r,h2,hc⟩
 ·simp[hc]
 ·have h1:=hm i n hi hI.1 hI.2;grind
def Fa(kind:Int):∀(l:aa bg) (n m:Int),n<=4096->uJ kind l n=V m->m<=4096
 |[],n,m,h,e=>by unfold uJ at e;cases e;exact h
 |v::vs,n,m,h,e=>by
  unfold uJ at e;split at e
  ·split at e
   ·cases e
   ·exact Fa kind vs _ m aq e
  ·exact Fa kind vs n m h e
def aaC(vars:aa bg)(hl:zR vars<=1000000)(i:Nat)(hi:i<zR vars):(mY vars i vars[i]! =0->Cr ⟨vars,vars,(zR vars:Int),(i:Int)⟩=V (V ⟨vars,vars,(zR vars:Int),((i+1:Nat):Int)⟩))/\(mY vars i vars[i]!≠0->Cr ⟨vars,vars,(zR vars:Int),(i:Int)⟩=V I):=by
 have hw:=jG hi hl;have h1:=C6 vars[i]!.fName;have h2:=Vs (vars.take i) (by rw[zA];omega) vars[i]!;unfold Cr mY;simp only[zg,Dg,h1,h2];generalize kD vars[i]!.fName=ad;generalize ((vars.take i).any λw=>w.fName.toList==vars[i]!.fName.toList)=A;generalize jB vars[i]!.ah vars[i]!.ag=C;cases A<;>cases ad<;>cases C<;>simp only[cI]<;>grind
def ajm(vars:aa bg)(hl:zR vars<=1000000):amj vars=V (jJ vars):=by
 obtain⟨i,e1,hc⟩:=tu (rnd:=Cr) vars (λi=>⟨vars,vars,(zR vars:Int),(i:Int)⟩) (mY vars) (λi hi=>aaC vars hl i hi) (by unfold Cr;simp);have e1':JE ⟨vars,vars,(zR vars:Int),0⟩=V ⟨vars,vars,(zR vars:Int),(i:Int)⟩:=e1;unfold amj jJ;rw[e1'];dsimp only;rcases hc with ⟨rfl,hc⟩|⟨hi,h0,hc⟩
 ·have hv:=nY hc;rw[fO,cv,bN (by rw[hc];simp)];have hr:∀k:Nat,k<3->aj ((k:Int)+1)=((k+1:Nat):Int):=λk hk=>jG hk (by decide);have k1:=Kr vars hv hl 1 (.inl rfl);have k2:=Kr vars hv hl 2 (.inr (.inl rfl));have k3:=Kr vars hv hl 3 (.inr (.inr rfl));have r1:qK ⟨vars,[1,2,3],3,0⟩=match uJ 1 vars 1 with|V _=>V (V ⟨vars,[1,2,3],3,1⟩)|I=>V I:=by
   unfold qK;simp[k1];cases uJ 1 vars 1 with
   |none=>simp
   |some n=>simp;exact hr 0 (by decide)
  have r2:qK ⟨vars,[1,2,3],3,1⟩=match uJ 2 vars 1 with|V _=>V (V ⟨vars,[1,2,3],3,2⟩)|I=>V I:=by
   unfold qK;simp[k2];cases uJ 2 vars 1 with
   |none=>simp
   |some n=>simp;exact hr 1 (by decide)
  have r3:qK ⟨vars,[1,2,3],3,2⟩=match uJ 3 vars 1 with|V n=>if 256<n then V I else V (V ⟨vars,[1,2,3],3,3⟩)|I=>V I:=by
   unfold qK;simp[k3];cases uJ 3 vars 1 with
   |none=>simp
   |some n=>
    by_cases h:256<n
    ·simp[h]
    ·simp[h];exact hr 2 (by decide)
  unfold E4;cases s1:uJ 1 vars 1 with
  |none=>
   rw[s1]at r1 k1;have e:qW ⟨vars,[1,2,3],3,0⟩=V ⟨vars,[1,2,3],3,0⟩:=ct λr=>by rw[r1];simp
   rw[show ((↑(3:Int):Int))=3 from rfl,e];simp[k1]
  |some n1=>
   rw[s1]at r1 k1;cases s2:uJ 2 vars 1 with
   |none=>
    rw[s2]at r2 k2;have e:qW ⟨vars,[1,2,3],3,0⟩=V ⟨vars,[1,2,3],3,1⟩:=(bR r1).trans (ct λr=>by rw[r2];simp);rw[show ((↑(3:Int):Int))=3 from rfl,e];simp[k2]
   |some n2=>
    rw[s2]at r2 k2;cases s3:uJ 3 vars 1 with
    |none=>
     rw[s3]at r3 k3;have e:qW ⟨vars,[1,2,3],3,0⟩=V ⟨vars,[1,2,3],3,2⟩:=(bR r1).trans ((bR r2).trans (ct λr=>by rw[r3];simp));rw[show ((↑(3:Int):Int))=3 from rfl,e];simp[k3]
    |some n3=>
     rw[s3]at r3 k3;dsimp only at r3;by_cases h:256<n3
     ·rw[bJ h]at r3;have e:qW ⟨vars,[1,2,3],3,0⟩=V ⟨vars,[1,2,3],3,2⟩:=(bR r1).trans ((bR r2).trans (ct λr=>by rw[r3];simp));rw[show ((↑(3:Int):Int))=3 from rfl,e];simp[k3,h]
     ·rw[bN h]at r3;have e:qW ⟨vars,[1,2,3],3,0⟩=V ⟨vars,[1,2,3],3,3⟩:=(bR r1).trans ((bR r2).trans ((bR r3).trans (ct λr=>by unfold qK;simp)));rw[show ((↑(3:Int):Int))=3 from rfl,e];simp[h]
 ·have h1:=C6 vars[i]!.fName;have h2:=Vs (vars.take i) (by rw[zA];omega) vars[i]!;rw[hc,bJ h0];revert h0;unfold mY;simp only[zQ,zg,Dg,h1,h2];generalize kD vars[i]!.fName=ad;generalize ((vars.take i).any λw=>w.fName.toList==vars[i]!.fName.toList)=A;generalize jB vars[i]!.ah vars[i]!.ag=C;intro h0;cases A<;>cases ad<;>cases C<;>simp only[cU]at h0 ⊢ <;>grind
def alN(vars:aa bg)(hl:zR vars<=1000000)(i:Nat)(hi:i<zR vars):(mY vars i vars[i]! =0->Bc ⟨vars,(i:Int)⟩=V (V ⟨vars,((i+1:Nat):Int)⟩))/\(mY vars i vars[i]!≠0->Bc ⟨vars,(i:Int)⟩=V I):=by
 have hw:=jG hi hl;have h1:=DM vars[i]!.fName;obtain⟨j,h2,h3⟩:=Ii vars hl i aq vars[i]!;unfold Bc mY;simp only[zg,DJ,h1,h2];generalize kD vars[i]!.fName=ad;generalize ((vars.take i).any λw=>w.fName.toList==vars[i]!.fName.toList)=A at h3;generalize jB vars[i]!.ah vars[i]!.ag=C;rcases h3 with ⟨rfl,rfl⟩|⟨hj,h4,rfl⟩
 ·cases ad<;>cases C<;>simp only[cI]<;>grind
 ·simp only;cases ad<;>cases C<;>simp only[cI]<;>grind
def akv(vars:aa bg)(hl:zR vars<=1000000):amC vars=V (jJ vars):=by
 obtain⟨i,e1,hc⟩:=tu (rnd:=Bc) vars (λi=>⟨vars,(i:Int)⟩) (mY vars) (λi hi=>alN vars hl i hi) (by unfold Bc;simp);have e1':IK ⟨vars,0⟩=V ⟨vars,(i:Int)⟩:=e1;unfold amC jJ;rw[e1'];dsimp only;rcases hc with ⟨rfl,hc⟩|⟨hi,h0,hc⟩
 ·have hv:=nY hc;rw[Md vars hv hl 1,Md vars hv hl 2,Md vars hv hl 3];have b1:=Fa 1 vars 1;have b2:=Fa 2 vars 1;unfold E4;revert b1 b2;cases uJ 1 vars 1<;>cases uJ 2 vars 1<;>cases uJ 3 vars 1<;>intro b1 b2<;>simp only[vg,Option.isSome_some]<;>(try have c1:=b1 _ aq rfl)<;>(try have c2:=b2 _ aq rfl)<;>grind
 ·have h1:=DM vars[i]!.fName;obtain⟨j,h2,h3⟩:=Ii vars hl i aq vars[i]!;rw[hc,bJ h0];revert h0;unfold mY;simp only[zg,DJ,h1,h2];generalize kD vars[i]!.fName=ad;generalize ((vars.take i).any λw=>w.fName.toList==vars[i]!.fName.toList)=A at h3;generalize jB vars[i]!.ah vars[i]!.ag=C;intro h0;rcases h3 with ⟨rfl,rfl⟩|⟨hj,h4,rfl⟩
  ·cases ad<;>cases C<;>simp only[cI]at h0 ⊢ <;>grind
  ·simp only[h4];cases ad<;>cases C<;>simp only[cU]at h0 ⊢ <;>grind
def ahj(o:Int):Of o=cq o:=by
 unfold Of cq;grind
def af0(o:Int):GV o=if o=25 then-2 else(cq o).1:=by
 unfold GV cq;grind (splits:=40)
def alu(M:aa bg->az->Bool->af sX)(vars:aa bg)(inp:Bool)(t:az)(hM:∀k∈t.ax,M vars k inp=V (dJ vars inp k)):ak0 M vars t inp=V (dJ vars inp t):=by
 have key:zR t.ax<=1000000->∃i:Nat,Ba M ⟨vars,inp,t.ax,(zR t.ax:Int),0⟩=V ⟨vars,inp,t.ax,(zR t.ax:Int),(i:Int)⟩/\((i=zR t.ax/\t.ax.all (dJ vars inp)=O)\/(i<zR t.ax/\dJ vars inp t.ax[i]! =G/\t.ax.all (dJ vars inp)=G)):=λhl=>by
  obtain⟨i,e1,hc⟩:=qh (rnd:=Ju M) t.ax (λi=>⟨vars,inp,t.ax,(zR t.ax:Int),(i:Int)⟩) (λ_ k=>dJ vars inp k) (λi hi=>by
   have hw:=jG hi hl;have hk:=hM _ (bu hi);unfold Ju;simp only[zg,az.eta,hk,hw];cases dJ vars inp t.ax[i]! <;>simp[hi]) (by unfold Ju;simp)
  refine⟨i,e1,?_⟩;rcases hc with ⟨rfl,hc⟩|⟨hi,hc⟩
  ·exact .inl ⟨rfl,D3 hc⟩
  ·exact .inr ⟨hi,hc,vq hi hc⟩
 unfold ak0;rw[ahj,lX];unfold CQ;by_cases hn:0<=(cq t.bD).1/\(cq t.bD).1<=zR t.ax/\(zR t.ax:Int)<=(cq t.bD).2
 ·have h33:(cq t.bD).2<=33:=by unfold cq;grind
  obtain⟨i,e,hc⟩:=key aq;rw[b7 hn,bY (show ¬(cq t.bD).1<0 by omega),bY (show ¬(zR t.ax:Int)<(cq t.bD).1 by omega),bY (show ¬(cq t.bD).2<(zR t.ax:Int)by omega),e];generalize t.ax.all (dJ vars inp)=A at hc;simp only[zg];rcases hc with ⟨rfl,rfl⟩|⟨hi,h2,rfl⟩
  ·cases inp<;>grind
  ·have hk:=hM _ (bu hi);simp only[az.eta];cases inp<;>grind
 ·rw[bY hn];grind
def Wz(vars:aa bg)(inp:Bool):∀(n:Nat) (t:az),zf t<n->SF n vars t inp=V (dJ vars inp t)
 |0,_,h=>aq
 |n+1,t,h=>alu (SF n) vars inp t (λk hk=>Wz vars inp n k (by have:=az.e9 hk;omega))
def als(vars:aa bg)(inp:Bool)(t:az):agf vars t inp=V (dJ vars inp t):=eO (zf t+1) λn hn=>Wz vars inp n t aq
def amQ(M:aa bg->az->Bool->af s9)(vars:aa bg)(inp:Bool)(t:az)(hM:∀k∈t.ax,M vars k inp=V (dJ vars inp k)):akd M vars t inp=V (dJ vars inp t):=by
 have key:zR t.ax<=1000000->∃i:Nat,Fm M ⟨vars,inp,0,t⟩=V ⟨vars,inp,(i:Int),t⟩/\((i=zR t.ax/\t.ax.all (dJ vars inp)=O)\/(i<zR t.ax/\dJ vars inp t.ax[i]! =G/\t.ax.all (dJ vars inp)=G)):=λhl=>by
  obtain⟨i,e1,hc⟩:=qh (rnd:=Lg M) t.ax (λi=>⟨vars,inp,(i:Int),t⟩) (λ_ k=>dJ vars inp k) (λi hi=>by
   have hw:=jG hi hl;have hk:=hM _ (bu hi);unfold Lg;dsimp only;simp only[zg,az.eta,hk,hw];cases dJ vars inp t.ax[i]! <;>simp[hi]) (by unfold Lg;simp)
  refine⟨i,e1,?_⟩;rcases hc with ⟨rfl,hc⟩|⟨hi,hc⟩
  ·exact .inl ⟨rfl,D3 hc⟩
  ·exact .inr ⟨hi,hc,vq hi hc⟩
 unfold akd;rw[af0,lX];unfold CQ;have hk0:(cq t.bD).1= -1\/0<=(cq t.bD).1:=by unfold cq;grind
 have hk1:t.bD≠25->(cq t.bD).1=(cq t.bD).2:=by unfold cq;grind
 have hk2:t.bD=25->cq t.bD=(2,33):=by unfold cq;grind
 have h33:(cq t.bD).2<=33:=by unfold cq;grind
 have hk3:t.bD=25->(cq t.bD).1=2/\(cq t.bD).2=33:=λh=>by rw[hk2 h];exact⟨rfl,rfl⟩
 generalize (cq t.bD).1=a at*;generalize (cq t.bD).2=b at*;by_cases hn:0<=a/\a<=zR t.ax/\(zR t.ax:Int)<=b
 ·obtain⟨i,e,hc⟩:=key aq;rw[b7 hn,az.eta,e];generalize t.ax.all (dJ vars inp)=A at hc;simp only[zQ,zg];rcases hc with ⟨rfl,rfl⟩|⟨hi,h2,rfl⟩
  ·cases inp<;>grind
  ·have hk:=hM _ (bu hi);simp only[az.eta,hk,h2];by_cases h25:t.bD=25
   ·rw[bJ h25,h25];cases inp<;>grind (splits:=30)
   ·rw[bN h25];cases inp<;>grind (splits:=30)
 ·rw[bY hn];grind
def Xh(vars:aa bg)(inp:Bool):∀(n:Nat) (t:az),zf t<n->Sd n vars t inp=V (dJ vars inp t)
 |0,_,h=>aq
 |n+1,t,h=>amQ (Sd n) vars inp t (λk hk=>Xh vars inp n k (by have:=az.e9 hk;omega))
def agH(vars:aa bg)(inp:Bool)(t:az):af4 vars t inp=V (dJ vars inp t):=eO (zf t+1) λn hn=>Xh vars inp n t aq
def GJ(s:Span):Prop:= -1048576<=s.ah/\s.ah<=s.ag/\s.ag<=1048576
def Dz(a b:Span):Zg a b=gm a b:=rfl
def pY{a b:Int}(h1: -1048576<=a)(h2:a<=1048576)(h3: -1048576<=b)(h4:b<=1048576): -1099511627776<=a*b/\a*b<=1099511627776:=by
 have e1:(1048576-a)*(1048576-b)≥0:=zJ aq aq;have e2:(1048576+a)*(1048576+b)≥0:=zJ aq aq;have e3:(1048576-a)*(1048576+b)≥0:=zJ aq aq;have e4:(1048576+a)*(1048576-b)≥0:=zJ aq aq;grind
def afJ(a b:Span)(ha:GJ a)(hb:GJ b):amI a b=V (gm (gm (gm ⟨a.ah*b.ah,a.ah*b.ah⟩ ⟨a.ah*b.ag,a.ah*b.ag⟩) ⟨a.ag*b.ah,a.ag*b.ah⟩) ⟨a.ag*b.ag,a.ag*b.ag⟩):=by
 unfold GJ at ha hb;have w1:BF a.ah b.ah=a.ah*b.ah:=by have:=pY (a:=a.ah) (b:=b.ah) aq aq aq aq;exact aM
 have w2:BF a.ah b.ag=a.ah*b.ag:=by have:=pY (a:=a.ah) (b:=b.ag) aq aq aq aq;exact aM
 have w3:BF a.ag b.ah=a.ag*b.ah:=by have:=pY (a:=a.ag) (b:=b.ah) aq aq aq aq;exact aM
 have w4:BF a.ag b.ag=a.ag*b.ag:=by have:=pY (a:=a.ag) (b:=b.ag) aq aq aq aq;exact aM
 unfold amI;rw[w1,w2,w3,w4];generalize a.ah*b.ah=p;generalize a.ah*b.ag=q;generalize a.ag*b.ah=r;generalize a.ag*b.ag=s;have e:FF ⟨[q,r,s],(3:Int),0,⟨0,0⟩,⟨p,p⟩⟩=V ⟨[q,r,s],3,3,⟨0,0⟩,gm (gm (gm ⟨p,p⟩ ⟨q,q⟩) ⟨r,r⟩) ⟨s,s⟩⟩:=by
  have k1:rj ⟨[q,r,s],(3:Int),0,⟨0,0⟩,⟨p,p⟩⟩=V (V ⟨[q,r,s],(3:Int),1,⟨0,0⟩,gm ⟨p,p⟩ ⟨q,q⟩⟩):=by unfold rj;simp[Dz,aM]
  have k2:rj ⟨[q,r,s],(3:Int),1,⟨0,0⟩,gm ⟨p,p⟩ ⟨q,q⟩⟩=V (V ⟨[q,r,s],(3:Int),2,⟨0,0⟩,gm (gm ⟨p,p⟩ ⟨q,q⟩) ⟨r,r⟩⟩):=by unfold rj;simp[Dz,aM]
  have k3:rj ⟨[q,r,s],(3:Int),2,⟨0,0⟩,gm (gm ⟨p,p⟩ ⟨q,q⟩) ⟨r,r⟩⟩=V (V ⟨[q,r,s],(3:Int),3,⟨0,0⟩,gm (gm (gm ⟨p,p⟩ ⟨q,q⟩) ⟨r,r⟩) ⟨s,s⟩⟩):=by unfold rj;simp[Dz,aM]
  unfold FF;rw[bR k1,bR k2,bR k3];exact ct λr=>by unfold rj;simp
 rw[show (zR ([q,r,s]:aa Int):Int)=3 from rfl,e];simp
def agt{a b:Span}(ha:GJ a)(hb:GJ b):GJ (gm a b):=by
 unfold GJ gm at*;grind
def ng:∀(l:aa Span) (a:Span),GJ a->(∀x∈l,GJ x)->GJ (l.foldl gm a)
 |[],a,ha,_=>ha
 |x::l,a,ha,h=>ng l (gm a x) (agt ha (h x (zk ..))) λy hy=>h y (zI _ hy)
def Zk(l:aa Span)(hl:zR l<=1000000)(z a:Span):Fx ⟨l,(zR l:Int),0,z,a⟩=V ⟨l,(zR l:Int),(zR l:Int),z,l.foldl gm a⟩:=by
 obtain⟨v,e1,hv⟩:=cH (rnd:=J1) (zR l) (λi (b:Span)=>⟨l,(zR l:Int),(i:Int),z,b⟩) (λi b=>b=(l.take i).foldl gm a) (λi b hi hb=>by
  have hw:=jG hi hl;refine⟨gm b l[i]!,?_,?_⟩
  ·unfold J1;simp only[Dz];grind
  ·rw[bG hi,List.foldl_append,hb];rfl) (λb _=>by unfold J1;simp) (b:=a) rfl
 rw[zH]at hv;rw[<-hv];exact e1
def D8(vars:aa bg)(t:az)(k:aa Span):Prop:=(0<=(cq t.bD).1/\(cq t.bD).1<=zR k/\(zR k:Int)<=(cq t.bD).2)/\(t.bD=24->0<=t.fN/\t.fN<zR vars)/\∀s∈k,GJ s
def agW(vars:aa bg)(t:az)(k:aa Span)(h:D8 vars t k):alK vars t k=V (jq vars t k):=by
 obtain⟨hk,h24,hI⟩:=h;have h0:1<=(cq t.bD).1->GJ k[0]! :=λh=>hI _ (bu aq);have h1:2<=(cq t.bD).1->GJ k[1]! :=λh=>hI _ (bu aq);have h33:(cq t.bD).2<=33:=by unfold cq;grind
 have hd:zR (k.drop 2)<=1000000:=by rw[zV];omega
 have am:∀n:Int,-8796093022208<=n->n<=8796093022208->aj n=n:=λn a b=>aM;unfold alK jq;rw[Zk _ hd];have cs:t.bD=0\/t.bD=24\/t.bD=6\/t.bD=8\/t.bD=9\/t.bD=10\/t.bD=11\/t.bD=12\/t.bD=21\/t.bD=22\/t.bD=23\/t.bD=25\/(t.bD≠0/\t.bD≠24/\t.bD≠6/\t.bD≠8/\t.bD≠9/\t.bD≠10/\t.bD≠11/\t.bD≠12/\t.bD≠21/\t.bD≠22/\t.bD≠23/\t.bD≠25):=aq;rcases cs with h|h|h|h|h|h|h|h|h|h|h|h|h
 ·simp[h]
 ·simp[h,h24 h]
 ·have hl:1<=(cq t.bD).1:=by rw[h];decide
  obtain⟨a1,a2,a3⟩:=h0 hl;have w1:aj ((0:Int)-k[0]!.ag)= -k[0]!.ag:=by rw[am _ aq aq];omega
  have w2:aj ((0:Int)-k[0]!.ah)= -k[0]!.ah:=by rw[am _ aq aq];omega
  have i0:(0:Int)<(zR k:Int):=aq;simp only[Z0,h,zQ,Int.reduceEq,reduceIte,i0,w1,w2,zw,GX]
 ·have hl:2<=(cq t.bD).1:=by rw[h];decide
  obtain⟨a1,a2,a3⟩:=h0 aq;obtain⟨b1,b2,b3⟩:=h1 hl;have w1:=am (k[0]!.ah+k[1]!.ah) aq aq;have w2:=am (k[0]!.ag+k[1]!.ag) aq aq;have i0:(0:Int)<(zR k:Int):=aq;have i1:(1:Int)<(zR k:Int):=aq;simp only[Z0,h,zQ,Int.reduceEq,Int.reduceLE,reduceIte,i0,i1,w1,w2,zw,GX,dS]
 ·have hl:2<=(cq t.bD).1:=by rw[h];decide
  obtain⟨a1,a2,a3⟩:=h0 aq;obtain⟨b1,b2,b3⟩:=h1 hl;have w1:=am (k[0]!.ah-k[1]!.ag) aq aq;have w2:=am (k[0]!.ag-k[1]!.ah) aq aq;have i0:(0:Int)<(zR k:Int):=aq;have i1:(1:Int)<(zR k:Int):=aq;simp only[Z0,h,zQ,Int.reduceEq,Int.reduceLE,reduceIte,i0,i1,w1,w2,zw,GX,dS]
 ·have hl:2<=(cq t.bD).1:=by rw[h];decide
  have e18:=afJ _ _ (h0 aq) (h1 hl);have i0:(0:Int)<(zR k:Int):=aq;have i1:(1:Int)<(zR k:Int):=aq;simp only[Z0,h,zQ,Int.reduceEq,Int.reduceLE,reduceIte,i0,i1,e18,zw,GX,dS]
 ·have hl:2<=(cq t.bD).1:=by rw[h];decide
  obtain⟨a1,a2,a3⟩:=h0 aq;obtain⟨b1,b2,b3⟩:=h1 hl;have w1:aj ((0:Int)-k[0]!.ah)= -k[0]!.ah:=by rw[am _ aq aq];omega
  have w2:aj ((0:Int)-if k[0]!.ag< -k[0]!.ah then-k[0]!.ah else k[0]!.ag)= -(if k[0]!.ag< -k[0]!.ah then-k[0]!.ah else k[0]!.ag):=by split<;>(rw[am _ aq aq];omega)
  have i0:(0:Int)<(zR k:Int):=aq;have i1:(1:Int)<(zR k:Int):=aq;simp only[Z0,h,zQ,Int.reduceEq,Int.reduceLE,reduceIte,i0,i1,w1,w2,zw,GX,dS];by_cases c1:(0:Int)<=k[0]!.ah<;>by_cases c2:(0:Int)<=k[1]!.ah<;>simp only[cZ,cU,fU,c1,c2,and_true,and_false]
 ·have hl:2<=(cq t.bD).1:=by rw[h];decide
  obtain⟨b1,b2,b3⟩:=h1 hl;have w1:=am (k[1]!.ah+1) aq aq;have w2:=am (k[1]!.ag-1) aq aq;have i1:(1:Int)<(zR k:Int):=aq;simp only[Z0,h,zQ,Int.reduceEq,Int.reduceLE,reduceIte,i1,w1,w2,zw,GX,dS];by_cases c1:k[1]!.ah<0<;>by_cases c2:(0:Int)<k[1]!.ag<;>simp only[fU,c1,c2]
  ·rw[AJ,AJ]
  ·rw[AJ]
  ·rw[AJ]
 ·have hl:2<=(cq t.bD).1:=by rw[h];decide
  have i0:(0:Int)<(zR k:Int):=aq;have i1:(1:Int)<(zR k:Int):=aq;simp only[Z0,h,zQ,Int.reduceEq,Int.reduceLE,reduceIte,i0,i1,zw,GX,dS]
 ·have hl:2<=(cq t.bD).1:=by rw[h];decide
  have i0:(0:Int)<(zR k:Int):=aq;have i1:(1:Int)<(zR k:Int):=aq;simp only[Z0,h,zQ,Int.reduceEq,Int.reduceLE,reduceIte,i0,i1,zw,GX,dS]
 ·have hl:2<=(cq t.bD).1:=by rw[h];decide
  have i1:(1:Int)<(zR k:Int):=aq;have i2:(2:Int)<=(zR k:Int):=aq;simp only[fU,Z0,h,zQ,Int.reduceEq,Int.reduceLE,reduceIte,i1,i2,zw,GX,yg,true_or]
 ·have hl:2<=(cq t.bD).1:=by rw[h];decide
  have i1:(1:Int)<(zR k:Int):=aq;have i2:(2:Int)<=(zR k:Int):=aq;simp only[fU,Z0,h,zQ,Int.reduceEq,Int.reduceLE,reduceIte,i1,i2,zw,GX,yg,or_true]
 ·obtain⟨c1,c2,c3,c4,c5,c6,c7,c8,c9,c18,c11,c12⟩:=h;simp only[c1,c2,c3,c4,c5,c6,c7,c8,c9,c18,c11,c12,zQ,GQ,or_self]
def acK(vars:aa bg)(hv:de vars)(t:az)(k:aa Span)(h:D8 vars t k):(jq vars t k).ah<=(jq vars t k).ag:=by
 obtain⟨hk,h24,hI⟩:=h;have h0:1<=(cq t.bD).1->GJ k[0]! :=λh=>hI _ (bu aq);have h1:2<=(cq t.bD).1->GJ k[1]! :=λh=>hI _ (bu aq);unfold jq;have cs:t.bD=0\/t.bD=24\/t.bD=6\/t.bD=8\/t.bD=9\/t.bD=10\/t.bD=11\/t.bD=12\/t.bD=21\/t.bD=22\/t.bD=23\/t.bD=25\/(t.bD≠0/\t.bD≠24/\t.bD≠6/\t.bD≠8/\t.bD≠9/\t.bD≠10/\t.bD≠11/\t.bD≠12/\t.bD≠21/\t.bD≠22/\t.bD≠23/\t.bD≠25):=aq;rcases cs with h|h|h|h|h|h|h|h|h|h|h|h|h
 ·simp[h]
 ·have hm:vars[t.fN.toNat]!∈vars:=bu (by have:=h24 h;omega);have:=hv _ hm;simp only[h,Int.reduceEq,reduceIte];omega
 ·obtain⟨a1,a2,a3⟩:=h0 (by rw[h];decide);simp only[h,Int.reduceEq,reduceIte];omega
 ·obtain⟨a1,a2,a3⟩:=h0 (by rw[h];decide);obtain⟨b1,b2,b3⟩:=h1 (by rw[h];decide);simp only[h,Int.reduceEq,reduceIte];omega
 ·obtain⟨a1,a2,a3⟩:=h0 (by rw[h];decide);obtain⟨b1,b2,b3⟩:=h1 (by rw[h];decide);simp only[h,Int.reduceEq,reduceIte];omega
 ·simp only[h,Int.reduceEq,reduceIte,gm];omega
 ·obtain⟨a1,a2,a3⟩:=h0 (by rw[h];decide);grind
 ·simp only[h];grind
 ·obtain⟨a1,a2,a3⟩:=h0 (by rw[h];decide);obtain⟨b1,b2,b3⟩:=h1 (by rw[h];decide);simp only[h,Int.reduceEq];grind
 ·obtain⟨a1,a2,a3⟩:=h0 (by rw[h];decide);obtain⟨b1,b2,b3⟩:=h1 (by rw[h];decide);simp only[h,Int.reduceEq,reduceIte];grind
 ·have:=ng (k.drop 2) k[1]! (h1 (by rw[h];decide)) λx hx=>hI x (xC hx);simp only[h,Int.reduceEq,reduceIte,true_or,dS];exact this.2.1
 ·have:=ng (k.drop 2) k[1]! (h1 (by rw[h];decide)) λx hx=>hI x (xC hx);simp only[h,Int.reduceEq,reduceIte,or_true,dS];exact this.2.1
 ·obtain⟨c1,c2,c3,c4,c5,c6,c7,c8,c9,c18,c11,c12⟩:=h;simp only[c1,c2,c3,c4,c5,c6,c7,c8,c9,c18,c11,c12,GQ,or_self];decide
def sw:∀{l:aa (af Span)} {r:aa Span},mC l=V r->l=r.map V
 |[],r,h=>by unfold mC at h;cases h;rfl
 |none::l,r,h=>by unfold mC at h;cases h
 |some s::l,r,h=>by
  unfold mC at h;cases hl:mC l with
  |none=>rw[hl]at h;cases h
  |some q=>rw[hl]at h;cases h;rw[sw hl];rfl
def NX(l:aa Span):mC (l.map V)=V l:=by
 induction l with
 |nil=>rfl
 |cons s l ih=>rw[yf,mC,ih]
def BV:∀{l:aa (af Span)},I∈l->mC l=I
 |none::l,h=>rfl
 |some s::l,h=>by
  unfold mC;rw[BV (by simpa using h)]
def Hy{vars:aa bg}{inp:Bool}{t:az}{k:aa Span}(hf:CQ vars inp t=O)(hl:zR k=zR t.ax)(hI:∀s∈k,GJ s):D8 vars t k:=by
 unfold CQ at hf;refine⟨?_,?_,hI⟩
 ·simp_all
 ·intro h;simp_all
def aiq(vars:aa bg)(hv:de vars)(inp:Bool)(t:az)(s:Span)(hf:dJ vars inp t=O)(h:iM vars t=V s):GJ s:=by
 have key:∀(n:Nat) (t:az) (s:Span),zf t<n->dJ vars inp t=O->iM vars t=V s->GJ s:=by
  intro n;induction n with
  |zero=>intro t s h;omega
  |succ n ih=>
   intro t s hz hf h;rw[lX,zi,zx]at hf;rw[Aq]at h;cases ha:mC (t.ax.map (iM vars))with
   |none=>rw[ha]at h;cases h
   |some k=>
    rw[ha]at h;dsimp only at h;have hm:=sw ha;have hl:zR k=zR t.ax:=by have:=congrArg zR hm;simpa using this.symm
    have hI:∀s∈k,GJ s:=λx hx=>by
     have:V x∈t.ax.map (iM vars):=by rw[hm];exact List.mem_map_of_mem hx
     obtain⟨c,hc,e⟩:=zK.1 this;exact ih c x (by have:=az.e9 hc;omega) (hf.2 c hc) e
    have ho:=acK vars hv t k (Hy hf.1 hl hI);split at h
    ·rename_i hlim;unfold BA at hlim;unfold GJ;grind
    ·cases h
 exact key _ t s (zC _) hf h
def vS(vars:aa bg)(t:az):Span×Bool:=match mC (t.ax.map (iM vars))with
 |none=>(⟨0,0⟩,G)
 |some l=>(jq vars t l,BA (jq vars t l))
def JX(vars:aa bg)(t:az):iM vars t=if(vS vars t).2=O then V (vS vars t).1 else I:=by
 rw[Aq,vS];grind
def PG{vars:aa bg}(hv:de vars){inp:Bool}{t:az}{k:aa Span}(hf:dJ vars inp t=O)(ha:mC (t.ax.map (iM vars))=V k):D8 vars t k:=by
 rw[lX,zi,zx]at hf;have hm:=sw ha;refine Hy hf.1 (by have:=congrArg zR hm;simpa using this.symm) λx hx=> ?_;have:V x∈t.ax.map (iM vars):=by rw[hm];exact List.mem_map_of_mem hx
 obtain⟨c,hc,e⟩:=zK.1 this;exact aiq vars hv inp c x (hf.2 c hc) e
def PD{vars:aa bg}{inp:Bool}{t:az}(hf:dJ vars inp t=O):zR t.ax<=33:=by
 rw[lX,zi]at hf;have:=hf.1;unfold CQ at this;have h33:(cq t.bD).2<=33:=by unfold cq;grind
 simp only[zi,decide_eq_true_eq]at this;omega
def rJ{vars:aa bg}{inp:Bool}{t k:az}(hf:dJ vars inp t=O)(hk:k∈t.ax):dJ vars inp k=O:=by
 rw[lX,zi,zx]at hf;simp_all
def alw(M:aa bg->az->af sZ)(vars:aa bg)(hv:de vars)(inp:Bool)(t:az)(hf:dJ vars inp t=O)(hM:∀k∈t.ax,M vars k=V (vS vars k)):ajC M vars t=V (vS vars t):=by
 have h33:=PD hf;obtain⟨i,b,e1,hI,hc⟩:=me (rnd:=EN M) (zR t.ax) (λi (b:aa Span)=>⟨vars,b,t.ax,(zR t.ax:Int),(i:Int),t,⟨0,0⟩⟩) (λi b=>(t.ax.take i).map (iM vars)=b.map V) (λi _=>(vS vars t.ax[i]!).2=G) (λi b hi hb=>by
  have hw:=jG hi aq;have hk:=hM _ (bu hi);have hlen:zR b=i:=by have:=congrArg zR hb;simp at this;omega
  cases hx:(vS vars t.ax[i]!).2 with
  |true=>
   refine .inl ⟨b++[(vS vars t.ax[i]!).1],?_,?_⟩
   ·have hl2:zR (b++[(vS vars t.ax[i]!).1])<=1073741824:=by simp;omega
    unfold EN;simp only[zg,az.eta,hk,hx,hl2,hw];simp[hi]
   ·rw[bG hi,zM,hb,zM];rw[yf,yf,JX,bJ hx];rfl
  |false=>
   unfold EN;simp only[zg,az.eta,hk,hx];simp[hi]) (λb _=>by unfold EN;simp) (b:=[]) rfl
 have e1':JR M ⟨vars,[],t.ax,(zR t.ax:Int),0,t,⟨0,0⟩⟩=V ⟨vars,b,t.ax,(zR t.ax:Int),(i:Int),t,⟨0,0⟩⟩:=e1;unfold ajC;rw[az.eta,e1'];dsimp only;rcases hc with rfl|⟨hi,hx⟩
 ·rw[zH]at hI;have ha:mC (t.ax.map (iM vars))=V b:=by rw[hI];exact NX b
  rw[fO,cv,az.eta,agW vars t b (PG hv hf ha)];unfold vS;unfold BA;grind
 ·have hk:=hM _ (bu hi);have ha:mC (t.ax.map (iM vars))=I:=BV (zK.2 ⟨t.ax[i]!,bu hi,by rw[JX,hx];simp⟩);rw[om,cI,bJ ⟨aq,aq⟩];simp only[cU,zg,az.eta,hk,hx];unfold vS;rw[ha]
def VM(vars:aa bg)(hv:de vars)(inp:Bool):∀(n:Nat) (t:az),zf t<n->dJ vars inp t=O->RI n vars t=V (vS vars t)
 |0,_,h,_=>aq
 |n+1,t,h,hf=>alw (RI n) vars hv inp t hf (λk hk=>VM vars hv inp n k (by have:=az.e9 hk;omega) (rJ hf hk))
def ajQ(vars:aa bg)(hv:de vars)(inp:Bool)(t:az)(hf:dJ vars inp t=O):ai7 vars t=V (vS vars t):=eO (zf t+1) λn hn=>VM vars hv inp n t aq hf
def Df(vars:aa bg)(hv:de vars)(inp:Bool)(t:az):Ss vars t inp=V (fG vars inp t):=by
 unfold Ss fG;rw[az.eta,als];cases hf:dJ vars inp t with
 |false=>rfl
 |true=>
  rw[ajQ vars hv inp t hf,JX];dsimp only;cases (vS vars t).2<;>rfl
end Go.Proofs.YtnfljbehcffmcaaGreat
end
