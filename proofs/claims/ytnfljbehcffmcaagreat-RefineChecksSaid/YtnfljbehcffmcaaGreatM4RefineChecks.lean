/- Merged: Ne13, Ne14, Ne15, Ne16, Ne17, Ne18, Ne19, Ne20, Ne21, Ne22, Ne23, Ne24, Ne25, Ne26, Ne27, Ne28, Ne29, Ga, Pfew, Pd, Gb, Pv1, Pv3, Pv1b, Pv2. -/
import Derived.Test.YtnfljbehcffmcaaGreatM1RefineChecks
import Derived.Test.YtnfljbehcffmcaaGreatM3RefineChecks
import Derived.Test.YtnfljbehcffmcaaGreatM2RefineChecks
open Nat renaming le_refl -> zl, lt_succ_self -> zC, le_trans -> zG, add_mul -> zW, mul_le_mul_right -> yh, one_mul -> yL, not_lt_zero -> y7, mod_lt -> xe, lt_succ_iff_lt_or_eq -> xk
open SizeOf renaming sizeOf -> ze
open List renaming length_append -> zh, mem_cons_self -> zk, mem_singleton -> zo, all_eq_true -> zw, mem_cons -> zx, take_length -> zy, length_take -> zD, range -> zH, mem_cons_of_mem -> zL, mem_map -> zM, map_append -> zO, mem_append -> zP, length_drop -> zV, length -> zY, mem_filter -> z8, drop -> ya, map_cons -> yf, length_filter_le -> yq, nil_append -> yB, getElem_map -> yM, getElem_of_mem -> xd, filter_append -> xh, cons_append -> xz, take_append_drop -> xA, mem_of_mem_drop -> xD, getElem_take -> xK, getElem_mem -> xP, length_range -> we, getElem_range -> wo, range_succ -> wG, sizeOf_lt_of_mem -> vg, filter_cons_of_pos -> vh, filter_cons_of_neg -> vi
open Int renaming toNat_natCast -> zg, le_refl -> zj, toNat -> zq, mul_nonneg -> zJ, mul_le_mul_of_nonneg_right -> zN, mul_comm -> zQ, ediv_nonneg -> zS, add_mul -> zU, dvd_trans -> zZ, mul_assoc -> yb, one_mul -> yc, ediv_le_self -> yl, lt_irrefl -> yx, dvd_sub -> yz, sub_mul -> yD, gcd -> yE, mul_ediv_add_emod -> yW, emod_nonneg -> yX, mul_le_mul -> yY, dvd_add -> yZ, emod_lt_of_pos -> y6, ediv_mul_le -> xo, mul_add -> xF, dvd_mul_left -> xG, dvd_zero -> xM, dvd_mul_right -> xN, le_trans -> xV, zero_sub -> xW, mul_neg -> xX, ediv_mul_cancel -> wm, natCast_mul -> wK, lt_of_mul_lt_mul_right -> wO, dvd_of_emod_eq_zero -> ve, lt_ediv_add_one_mul_self -> vf
open Bool renaming and_eq_true -> zi, cond_decide -> zR, or_eq_true -> yC, true -> J, false -> O
open Option renaming some -> zF, isSome_none -> vk, some -> V, none -> G
open Decidable renaming decide -> vn
open Go.Proofs.Tryz renaming prog -> vp
open Go.Proofs.Tryz
set_option linter.unusedSectionVars false
set_option linter.unusedVariables false
set_option linter.unusedSimpArgs false
set_option linter.defProp false
noncomputable section
set_option maxRecDepth 100000
namespace Go.Proofs.YtnfljbehcffmcaaGreat
open Go Go.Iv
open Go.IntKind (i64 u64)
def alT(b:Bool):AZ b=oT b:=by cases b<;>rfl
def ew{op x y v:Int}(h:v=fP op x y)(hr:cC (fP op x y)):∃w,V (v,J)=V (w,vn (cC (fP op x y)))/\(cC (fP op x y)->w=fP op x y):=⟨v,by rw[bX hr],λ_=>h⟩
def aiB{x y:Int}(hx:cC x)(hy:cC y):∃v,air x y=V (v,vn (cC (x*y)))/\(cC (x*y)->v=x*y):=by
 unfold air;rw[D6,D6,Bj hx,Bj hy];by_cases h0:x=0
 ·subst h0;rw[bW (show ¬¬(0:Int)=0 from λk=>k rfl)];simp only[ct];rw[Int.zero_mul,aL,bX (show cC 0 from⟨au,au⟩)];exact⟨0,rfl,λ_=>rfl⟩
 ·rw[bX h0,cK];by_cases h1:y=0
  ·subst h1;rw[bW (show ¬¬(0:Int)=0 from λk=>k rfl)];simp only[ct];rw[Int.mul_zero,aL,bX (show cC 0 from⟨au,au⟩)];exact⟨0,rfl,λ_=>rfl⟩
  ·rw[bX h1,cK,bB (show ¬@Eq Int ((y.natAbs:Nat):Int) 0 by omega),kM];have q0:0<=(1099511627776:Int)/((y.natAbs:Nat):Int):=zS au au;have q1:(1099511627776:Int)/((y.natAbs:Nat):Int)<=1099511627776:=yl _ au;rw[aL];simp only;have k:=Of (x:=y) (y:=x) h1;rw[zQ]at k;by_cases c:(1099511627776:Int)/((y.natAbs:Nat):Int)<((x.natAbs:Nat):Int)
   ·rw[bX c,bW (k.mp c)];exact⟨0,rfl,λe=>dS e (k.mp c)⟩
   ·have hR:cC (x*y):=Decidable.byContradiction λe=>c (k.mpr e);rw[bW c,bX hR,aL (by have:=hR.1;omega) (by have:=hR.2;omega)];exact⟨x*y,rfl,λ_=>rfl⟩
def Er{x y:Int}(hx:cC x)(hy:cC y):∃v,Su x y=V (v,vn (cC (x*y)))/\(cC (x*y)->v=x*y):=by
 unfold Su;rw[D6,og hx,og hy];by_cases h0:x=0
 ·subst h0;rw[bW (show ¬¬(0:Int)=0 from λk=>k rfl)];simp only[ct];rw[Int.zero_mul,aL,bX (show cC 0 from⟨au,au⟩)];exact⟨0,rfl,λ_=>rfl⟩
 ·rw[bX h0,cK,bB (show ¬@Eq Int ((x.natAbs:Nat):Int) 0 by omega),kM];have q0:0<=(1099511627776:Int)/((x.natAbs:Nat):Int):=zS au au;have q1:(1099511627776:Int)/((x.natAbs:Nat):Int)<=1099511627776:=yl _ au;rw[aL];simp only;have k:=Of (x:=x) (y:=y) h0;by_cases c:(1099511627776:Int)/((x.natAbs:Nat):Int)<((y.natAbs:Nat):Int)
  ·rw[bX c,bW (k.mp c)];exact⟨0,rfl,λe=>dS e (k.mp c)⟩
  ·have hR:cC (x*y):=Decidable.byContradiction λe=>c (k.mpr e);rw[bW c,bX hR,aL (by have:=hR.1;omega) (by have:=hR.2;omega)];exact⟨x*y,rfl,λ_=>rfl⟩
def nr{op x y:Int}(hx:cC x)(hy:cC y)(ho:binop op):∃v,Sw op x y=V (v,vn (cC (fP op x y)))/\(cC (fP op x y)->v=fP op x y):=by
 obtain⟨o1,o2⟩:=ho;have hx':=hx;have hy':=hy;obtain⟨a1,a2⟩:=hx';obtain⟨b1,b2⟩:=hy';have cases15:op=8\/op=9\/op=10\/op=11\/op=12\/op=13\/op=14\/op=15\/op=16\/op=17\/op=18\/op=19\/op=20\/op=21\/op=22:=au;unfold Sw;simp only[Gt,alT];rcases cases15 with rfl|rfl|rfl|rfl|rfl|rfl|rfl|rfl|rfl|rfl|rfl|rfl|rfl|rfl|rfl
 all_goals simp only[cG,cD,Int.reduceEq]
 ·rw[aL];exact⟨x+y,rfl,λ_=>rfl⟩
 ·rw[aL];exact⟨x-y,rfl,λ_=>rfl⟩
 ·obtain⟨v,e,h⟩:=aiB hx hy;rw[e];exact⟨v,rfl,h⟩
 ·rw[VT hx hy];exact ew (op:=11) rfl (Vg hx).1
 ·by_cases h0:y=0
  ·rw[bX h0];have e:fP 12 x y=0:=bB h0;exact ew (op:=12) e.symm (by rw[e];exact⟨au,au⟩)
  ·rw[bW h0,ct,VT hx hy];simp only;have e:fP 12 x y=x-y*qc x y:=bL h0;have hm:=(TG (x:=x) hy h0).1;obtain⟨c1,c2⟩:=hm;rw[aL (n:=y*qc x y),aL];exact ew (op:=12) e.symm (by rw[e];exact⟨c1,c2⟩)
 ·exact ew (op:=13) rfl (uo _)
 ·refine ew (op:=14) ?_ (uo _);show oT _=oT _
  congr 1
 ·exact ew (op:=15) rfl (uo _)
 ·exact ew (op:=16) rfl (uo _)
 ·exact ew (op:=17) rfl (uo _)
 ·exact ew (op:=18) rfl (uo _)
 ·rw[D6,D6];by_cases h0:x=0
  ·rw[bW (show ¬¬x=0 from λk=>k h0),ct];refine ew (op:=19) ?_ (uo _);show oT O=oT (vn (x≠0/\y≠0));rw[bW (λk=>k.1 h0)]
  ·rw[bX h0,cK];refine ew (op:=19) ?_ (uo _);show oT _=oT (vn (x≠0/\y≠0))
   congr 1
   exact decide_eq_decide.mpr ⟨λk=>⟨h0,k⟩,λk=>k.2⟩
 ·rw[D6,D6];by_cases h0:x=0
  ·rw[bW (show ¬¬x=0 from λk=>k h0),ct];refine ew (op:=20) ?_ (uo _);show oT _=oT (vn (x≠0\/y≠0))
   congr 1
   exact decide_eq_decide.mpr ⟨.inr,λk=>k.elim (λe=>dS h0 e) id⟩
  ·rw[bX h0,cK];refine ew (op:=20) ?_ (uo _);show oT J=oT (vn (x≠0\/y≠0));rw[bX (.inl h0)]
 ·by_cases c:x<y
  ·rw[bX c];have e:fP 21 x y=x:=Int.min_eq_left au;exact ew (op:=21) e.symm (by rw[e];exact hx)
  ·rw[bW c];have e:fP 21 x y=y:=Int.min_eq_right au;exact ew (op:=21) e.symm (by rw[e];exact hy)
 ·by_cases c:y<x
  ·rw[bX c];have e:fP 22 x y=x:=Int.max_eq_left au;exact ew (op:=22) e.symm (by rw[e];exact hx)
  ·rw[bW c];have e:fP 22 x y=y:=Int.max_eq_right au;exact ew (op:=22) e.symm (by rw[e];exact hy)
def lU(a:aK)(k:Nat):Int:=a.ah+(k:Int)*a.aj
def cnt(a:aK):Nat:=(bY a).toNat
def gz{a:aK}(h:NN a):bY a=(cnt a:Int):=by have:=size_pos h;unfold cnt;omega
def iU{a:aK}(h:NN a):1<=cnt a:=by have:=size_pos h;unfold cnt;omega
def aes{a:aK}(h:NN a){k:Nat}(hk:k<cnt a):a.ah<=lU a k/\lU a k<=a.ag:=by
 have e:=gz h;rw[BF h]at e;have hs:=h.s0;have k0:0<=(k:Int)*a.aj:=zJ au hs;unfold lU;rcases h.st with ⟨h1,h2⟩|⟨h1,h2,h3⟩
 ·simp_all
 ·rw[qZ]at e;have:(k:Int)*a.aj<=(a.ag-a.ah)/a.aj*a.aj:=zN au hs;rw[wm (ve h3)]at this;omega
def iy{a:aK}(h:NN a)(x:Int):bR a x↔∃k:Nat,k<cnt a/\x=lU a k:=by
 constructor
 ·rintro⟨h1,h2,q,hq⟩;have e:=gz h;rw[BF h]at e;rcases h.st with ⟨k1,k2⟩|⟨k1,k2,k3⟩
  ·exact⟨0,iU h,by unfold lU;omega⟩
  ·rw[qZ]at e;rw[zQ]at hq;have q0:0<=q:=Decidable.byContradiction λc=>by
    have:q*a.aj<= -1*a.aj:=zN au au;omega
   have q1:q<=(a.ag-a.ah)/a.aj:=Int.le_ediv_of_mul_le au au;refine⟨q.toNat,au,?_⟩;unfold lU;rw[show ((q.toNat:Nat):Int)=q by omega,<-hq];omega
 ·rintro⟨k,hk,rfl⟩;obtain⟨h1,h2⟩:=aes h hk;exact⟨h1,h2,by unfold lU;rw[show a.ah+(k:Int)*a.aj-a.ah=(k:Int)*a.aj by omega];exact xG ..⟩
def uw{a:aK}(h:NN a){k:Nat}(hk:k<cnt a):cC (lU a k):=Zy (.inr h) ((iy h _).mpr ⟨k,hk,rfl⟩)
def p8{a:aK}(h:NN a){k:Nat}(hk:k<cnt a):aat a (k:Int)=lU a k:=by
 have:=aes h hk;have:=h.lo;have:=h.hi;unfold aat
 unfold lU at*;rw[aL (n:=(k:Int)*a.aj),aL]
def tW(op:Int)(a b:aK)(y:Int):Prop:=∃x z,bR a x/\bR b z/\y=fP op x z
def pref(op:Int)(a b:aK)(i:Nat)(l:af Int):Prop:=(∀y,y∈l↔∃k,k<i/\∃j,j<cnt b/\y=fP op (lU a k) (lU b j))/\zY l=i*cnt b/\∀y∈l,cC y
def aoz(op:Int)(a b:aK)(i j:Nat)(l:af Int):Prop:=(∀y,y∈l↔(∃k,k<i/\∃m,m<cnt b/\y=fP op (lU a k) (lU b m))\/∃m,m<j/\y=fP op (lU a i) (lU b m))/\zY l=i*cnt b+j/\∀y∈l,cC y
def ZN{op:Int}{a b:aK}{i:Nat}{l:af Int}(h:aoz op a b i (cnt b) l):pref op a b (i+1) l:=by
 refine⟨λy=>(h.1 y).trans ⟨?_,?_⟩,by rw[h.2.1,zW,yL],h.2.2⟩
 ·grind
 ·rintro⟨k,hk,m,hm,e⟩;rcases xk.mp hk with c|rfl
  ·exact .inl ⟨k,c,m,hm,e⟩
  ·exact .inr ⟨m,hm,e⟩
def afs{op:Int}{a b c:aK}(ho:binop op)(ha:NN a)(hb:NN b)(hs:cnt a*cnt b<=1000000){i:Nat}(hi:i<cnt a){l:af Int}(hl:pref op a b i l):
  (∃l',Cf (jJ.mk op l i 0 a b c)=V (jJ.mk op l' i (cnt b:Nat) a b c)/\pref op a b (i+1) l')\/
  (∃l' j,j<cnt b/\Cf (jJ.mk op l i 0 a b c)=V (jJ.mk op l' i (j:Nat) a b c)/\¬cC (fP op (lU a i) (lU b j))):=by
 have hcb:cnt b<=1000000:=zG (Nat.le_mul_of_pos_left _ (iU ha)) hs;have hlen:(i+1)*cnt b<=1000000:=zG (yh _ hi) hs;rw[zW,yL]at hlen;obtain⟨j,l',e,hI,h⟩:=jq (rnd:=Nw) (cnt b) (λj (l:af Int)=>jJ.mk op l i (j:Nat) a b c) (λj l=>aoz op a b i j l) (λj l=>¬cC (fP op (lU a i) (lU b j)))
  (λj l hj hI=>by
   obtain⟨v,ev,hv⟩:=nr (uw ha hi) (uw hb hj) ho;unfold Nw uE;rw[eE (.inr hb),gz hb];simp only;rw[oV,cK,p8 ha hi,p8 hb hj,ev];simp only;by_cases hr:cC (fP op (lU a i) (lU b j))
   ·left;rw[bX hr];rw[bB (by rw[zh,hI.2.1];simp;omega),jR hj hcb,hv hr];refine⟨_,rfl,λy=> ?_,by rw[zh,hI.2.1];simp;omega,λy hy=> ?_⟩
    ·rw[zP,zo,hI.1 y];constructor
     ·rintro((h|⟨m,hm,h⟩)|rfl)
      ·simp_all
      ·exact .inr ⟨m,au,h⟩
      ·exact .inr ⟨j,au,rfl⟩
     ·rintro(h|⟨m,hm,h⟩)
      ·simp_all
      ·rcases xk.mp hm with c|rfl
       ·exact .inl (.inr ⟨m,c,h⟩)
       ·omega
    ·rcases zP.mp hy with hy|hy
     ·exact hI.2.2 y hy
     ·simp_all
   ·right;rw[bW hr];exact⟨rfl,hr⟩)
  (λl hI=>by
   unfold Nw uE;rw[eE (.inr hb),gz hb];simp only;rw[fD];rfl) (b:=l) ⟨λy=>(hl.1 y).trans ⟨.inl,λh=>h.elim id λ⟨m,hm,_⟩=>dS hm (y7 _)⟩,by rw[hl.2.1];rfl,hl.2.2⟩
 rcases h with rfl|⟨hj,h⟩
 ·exact .inl ⟨l',e,ZN hI⟩
 ·exact .inr ⟨l',j,hj,e,h⟩
def E7{op:Int}{a b:aK}(ho:binop op)(ha:NN a)(hb:NN b)(hs:cnt a*cnt b<=1000000):
  ((∀y,tW op a b y->cC y)/\∃c,Za op a b=V (c,0)/\dz (tW op a b) c)\/((¬∀y,tW op a b y->cC y)/\Za op a b=V (aK.mk 0 0 0,3)):=by
 have hca:cnt a<=1000000:=zG (Nat.le_mul_of_pos_right _ (iU hb)) hs;unfold Za F4 uE;obtain⟨i,l,e,hI,h⟩:=jq (rnd:=CX) (cnt a) (λi (l:af Int)=>nH.mk op l (i:Nat) a b (aK.mk 0 0 0)) (λi l=>pref op a b i l) (λi l=>∃l' j,j<cnt b/\Cf (jJ.mk op l i 0 a b (aK.mk 0 0 0))=V (jJ.mk op l' i (j:Nat) a b (aK.mk 0 0 0))/\¬cC (fP op (lU a i) (lU b j)))
  (λi l hi hI=>by
   unfold CX F4 uE;rw[eE (.inr ha),gz ha];simp only;rw[oV,cK];rcases afs (c:=aK.mk 0 0 0) ho ha hb hs hi hI with ⟨l',e,h⟩|⟨l',j,hj,e,h⟩
   ·left;rw[e];simp only;rw[eE (.inr hb),gz hb];simp only;rw[fD,ct,jR hi hca];exact⟨l',rfl,h⟩
   ·right;refine⟨?_,l',j,hj,e,h⟩;rw[e];simp only;rw[eE (.inr hb),gz hb];simp only;obtain⟨v,ev,hv⟩:=nr (uw ha hi) (uw hb hj) ho;rw[oV,cK,p8 ha hi,p8 hb hj,ev];rw[bW h];rfl)
  (λl hI=>by
   unfold CX F4 uE;rw[eE (.inr ha),gz ha];simp only;rw[fD];rfl) (b:=[]) ⟨λy=>⟨λh=>dS h (by simp),λ⟨k,hk,_⟩=>dS hk (y7 _)⟩,by simp,λy hy=>dS hy (by simp)⟩
 have e:bI CX (nH.mk op [] 0 a b (aK.mk 0 0 0))=V (nH.mk op l (i:Nat) a b (aK.mk 0 0 0)):=e;rw[show L5=bI CX from rfl,e];simp only;rw[eE (.inr ha),gz ha];simp only;rcases h with rfl|⟨hi,l',j,hj,e1,h⟩
 ·left;have mem:∀y,y∈l↔tW op a b y:=λy=>(hI.1 y).trans ⟨λ⟨k,hk,m,hm,e⟩=>⟨_,_,(iy ha _).mpr ⟨k,hk,rfl⟩,(iy hb _).mpr ⟨m,hm,rfl⟩,e⟩,λ⟨x,z,hx,hz,e⟩=>by
   obtain⟨k,hk,rfl⟩:=(iy ha _).mp hx;obtain⟨m,hm,rfl⟩:=(iy hb _).mp hz;exact⟨k,hk,m,hm,e⟩⟩
  rw[fD,ct];have hne:l≠[]:=λe=>by
   have:=hI.2.1;have:=Nat.mul_pos (iU ha) (iU hb);simp_all
  obtain⟨c,e2,hc⟩:=M7 hne (by rw[hI.2.1];exact hs) hI.2.2;rw[e2];exact⟨λy hy=>hI.2.2 y ((mem y).mpr hy),c,rfl,hc.congr mem⟩
 ·right;refine⟨λk=>h (k _ ⟨_,_,(iy ha _).mpr ⟨i,hi,rfl⟩,(iy hb _).mpr ⟨j,hj,rfl⟩,rfl⟩),?_⟩;rw[oV,cK,e1];simp only;rw[eE (.inr hb),gz hb];simp only;obtain⟨v,ev,hv⟩:=nr (uw ha hi) (uw hb hj) ho;rw[oV,cK,p8 ha hi,p8 hb hj,ev];rw[bW h];rfl
def Yz{a:aK}(h:NN a)(hs:cnt a<=1000000):aco a=V ((zH (cnt a)).map (lU a)):=by
 unfold aco GI;rw[lR (.inr h),gz h];simp only;have e:bI CL (nM.mk [] (cnt a:Nat) 0 a)=V (nM.mk ((zH (cnt a)).map (lU a)) (cnt a:Nat) (cnt a:Nat) a):=by
  obtain⟨l,e,hl⟩:=cS (rnd:=CL) (cnt a) (λi (l:af Int)=>nM.mk l (cnt a:Nat) (i:Nat) a) (λi l=>l=(zH i).map (lU a))
   (λi l hi hl=>by
    subst hl;unfold CL GI;simp only;have:=p8 h hi;unfold aat at this;rw[oV,cK,this,bB (by simp;omega),jR hi hs];exact⟨_,rfl,by rw[wG,zO];rfl⟩)
   (λl hl=>by
    unfold CL GI;simp only;rw[fD];rfl) (b:=[]) rfl
  simp_all
 rw[show KJ=bI CL from rfl,e];simp
def sJ(a:aK):zY ((zH (cnt a)).map (lU a))=cnt a:=by simp
def P8(a:aK){k:Nat}(h:k<cnt a):((zH (cnt a)).map (lU a))[k]! =lU a k:=by
 rw[getElem!_pos _ k (by rw[sJ];exact h),yM,wo]
def Ow(op:Int):Prop:=op=11\/op=12\/op=21\/op=22
def VS{op x y:Int}(hx:cC x)(hy:cC y)(ho:Ow op):cC (fP op x y):=by
 rcases ho with rfl|rfl|rfl|rfl
 ·exact(Vg hx).1
 ·show cC (if y=0 then 0 else x-y*qc x y);by_cases h0:y=0
  ·simp_all
  ·rw[bL h0];exact(TG hy h0).1
 ·show cC (min x y);grind
 ·show cC (max x y);grind
def age(op:Int)(a b:aK)(i j:Nat)(y:Int):Prop:=(∃k,k<i/\∃m,m<cnt b/\y=fP op (lU a k) (lU b m))\/∃m,m<j/\y=fP op (lU a i) (lU b m)
def abb{op:Int}{a b c:aK}(ho:Ow op)(ha:NN a)(hb:NN b)(hs:cnt b<=1000000){i:Nat}(hi:i<cnt a){o:aK}{l:af Int}{n t:Int}(hr:nZ (age op a b i 0) o)(hv:NV o):
  ∃o',LX (nL.mk op (lU a i) l n t ((zH (cnt b)).map (lU b)) (cnt b:Nat) 0 b c o)=V (nL.mk op (lU a i) l n t ((zH (cnt b)).map (lU b)) (cnt b:Nat) (cnt b:Nat) b c o')/\nZ (age op a b (i+1) 0) o'/\NV o':=by
 obtain⟨o',e,hI,hv'⟩:=cS (rnd:=Ng) (cnt b) (λj (o:aK)=>nL.mk op (lU a i) l n t ((zH (cnt b)).map (lU b)) (cnt b:Nat) (j:Nat) b c o) (λj o=>nZ (age op a b i j) o/\NV o)
  (λj o hj hI=>by
   have hR:=VS (uw ha hi) (uw hb hj) ho;unfold Ng rQ;simp only;rw[oV,cK,sJ,gM,zg,bB ⟨trivial,hj⟩,P8 b hj,ann (uw ha hi) (uw hb hj) ho];simp only;rw[kg hI.2 (.inr (show NN (iY (fP op (lU a i) (lU b j)))from NN.one hR.1 hR.2)),jR hj hs];refine⟨_,rfl,(hI.1.join (KL _) hI.2 (se hR)).congr λy=> ?_,eW hI.2 (se hR)⟩;constructor
   ·rintro((h|⟨m,hm,h⟩)|rfl)
    ·exact .inl h
    ·exact .inr ⟨m,au,h⟩
    ·exact .inr ⟨j,au,rfl⟩
   ·rintro(h|⟨m,hm,h⟩)
    ·exact .inl (.inl h)
    ·rcases xk.mp hm with c|rfl
     ·exact .inl (.inr ⟨m,c,h⟩)
     ·exact .inr h)
  (λo hI=>by
   unfold Ng rQ;simp only;rw[fD];rfl) (b:=o) ⟨hr,hv⟩
 refine⟨o',e,hI.congr λy=> ?_,hv'⟩;constructor
 ·rintro(⟨k,hk,h⟩|⟨m,hm,h⟩)
  ·exact .inl ⟨k,au,h⟩
  ·exact .inl ⟨i,au,m,hm,h⟩
 ·rintro(⟨k,hk,h⟩|⟨m,hm,_⟩)
  ·rcases xk.mp hk with c|rfl
   ·exact .inl ⟨k,c,h⟩
   ·obtain⟨m,hm,h⟩:=h;exact .inr ⟨m,hm,h⟩
  ·omega
def Tf{op:Int}{a b:aK}(ho:Ow op)(ha:NN a)(hb:NN b)(hs:cnt a*cnt b<=4096):∃c,A5 op a b=V c/\dz (tW op a b) c:=by
 have hca:cnt a<=4096:=zG (Nat.le_mul_of_pos_right _ (iU hb)) hs;have hcb:cnt b<=4096:=zG (Nat.le_mul_of_pos_left _ (iU ha)) hs;unfold A5 Cb rQ;rw[lR (.inr ha),lR (.inr hb),gz ha,gz hb];simp only;rw[bW (show ¬(4096:Int)<((cnt a:Nat):Int)by omega),bW (show ¬(4096:Int)<((cnt b:Nat):Int)by omega),ct,ct,aL,fD,ct,Yz ha au];simp only;rw[sJ];obtain⟨o,e,hI,hv⟩:=cS (rnd:=Cs) (cnt a) (λi (o:aK)=>oa.mk op ((zH (cnt a)).map (lU a)) (cnt a:Nat) (i:Nat) b (aK.mk 0 0 0) o) (λi o=>nZ (age op a b i 0) o/\NV o)
  (λi o hi hI=>by
   unfold Cs Cb rQ;simp only;rw[oV,cK,sJ,gM,zg,bB ⟨trivial,hi⟩,P8 a hi,Yz hb au];simp only;rw[sJ];obtain⟨o',e,h1,h2⟩:=abb (c:=aK.mk 0 0 0) (l:=(zH (cnt a)).map (lU a)) (n:=(cnt a:Nat)) (t:=(i:Nat)) ho ha hb au hi hI.1 hI.2;rw[e];simp only;rw[fD,ct,jR hi au];exact⟨o',rfl,h1,h2⟩)
  (λo hI=>by
   unfold Cs Cb rQ;simp only;rw[fD];rfl) (b:=cM) ⟨.none λy h=>by
    rcases h with ⟨k,hk,_⟩|⟨m,hm,_⟩
    ·omega
    ·exact dS hm (y7 _), .inl rfl⟩
 have e:bI Cs (oa.mk op ((zH (cnt a)).map (lU a)) (cnt a:Nat) 0 b (aK.mk 0 0 0) jt)=V (oa.mk op ((zH (cnt a)).map (lU a)) (cnt a:Nat) (cnt a:Nat) b (aK.mk 0 0 0) o):=e;rw[show LD=bI Cs from rfl,e];simp only;rw[fD,ct];refine⟨o,rfl,?_⟩;have mem:∀y,age op a b (cnt a) 0 y↔tW op a b y:=λy=>⟨λh=>by
  rcases h with ⟨k,hk,m,hm,e⟩|⟨m,hm,_⟩
  ·exact⟨_,_,(iy ha _).mpr ⟨k,hk,rfl⟩,(iy hb _).mpr ⟨m,hm,rfl⟩,e⟩
  ·exact dS hm (y7 _),λ⟨x,z,hx,hz,e⟩=>by
  obtain⟨k,hk,rfl⟩:=(iy ha _).mp hx;obtain⟨m,hm,rfl⟩:=(iy hb _).mp hz;exact .inl ⟨k,hk,m,hm,e⟩⟩
 rcases hI.congr mem with ⟨_,k⟩|k
 ·exact dS ⟨_,_,(iy ha _).mpr ⟨0,iU ha,rfl⟩,(iy hb _).mpr ⟨0,iU hb,rfl⟩,rfl⟩ (k (fP op (lU a 0) (lU b 0)))
 ·exact k
def adr{op:Int}{a b:aK}(ha:NN a)(hb:NN b)(hs:¬cnt a*cnt b<=4096):A5 op a b=ZQ op a b:=by
 unfold A5 Cb rQ;rw[lR (.inr ha),lR (.inr hb),gz ha,gz hb];simp only;by_cases c1:(4096:Int)<((cnt a:Nat):Int)
 ·rw[bX c1,cK];grind
 ·rw[bW c1,ct];by_cases c2:(4096:Int)<((cnt b:Nat):Int)
  ·rw[bX c2,cK];grind
  ·have hb':((cnt a:Nat):Int)*((cnt b:Nat):Int)<=4096*4096:=yY au au au au;have hp:(4096:Int)<((cnt a:Nat):Int)*((cnt b:Nat):Int):=by rw[<-wK];omega
   rw[bW c2,ct,aL,bX hp,cK];grind
instance (op:Int):Decidable (binop op):=inferInstanceAs (Decidable (_/\_))
def ko(op:Int):Ee op=vn (binop op):=by
 unfold Ee;by_cases h:binop op
 ·obtain⟨o1,o2⟩:=h;have cases15:op=8\/op=9\/op=10\/op=11\/op=12\/op=13\/op=14\/op=15\/op=16\/op=17\/op=18\/op=19\/op=20\/op=21\/op=22:=au;rcases cases15 with rfl|rfl|rfl|rfl|rfl|rfl|rfl|rfl|rfl|rfl|rfl|rfl|rfl|rfl|rfl<;>rfl
 ·have k:∀n:Int,8<=n->n<=22->¬op=n:=λn h1 h2 e=>h (by unfold binop;omega);rw[show vn (binop op)=O from bW h];rw[bW (k 8 (by decide) (by decide)),bW (k 9 (by decide) (by decide)),bW (k 10 (by decide) (by decide)),bW (k 11 (by decide) (by decide)),bW (k 12 (by decide) (by decide)),
   bW (k 13 (by decide) (by decide)),bW (k 14 (by decide) (by decide)),bW (k 15 (by decide) (by decide)),bW (k 16 (by decide) (by decide)),bW (k 17 (by decide) (by decide)),
   bW (k 18 (by decide) (by decide)),bW (k 19 (by decide) (by decide)),bW (k 20 (by decide) (by decide)),bW (k 21 (by decide) (by decide)),bW (k 22 (by decide) (by decide))]
  rfl
def JG{a b:aK}(hb:NN b):((cnt a:Nat):Int)<=(4096:Int)/((cnt b:Nat):Int)↔cnt a*cnt b<=4096:=by
 have:=iU hb;rw[Int.le_ediv_iff_mul_le au,<-wK];omega
def o6{op:Int}{a b:aK}(ho:binop op)(ha:NN a)(hb:NN b)(hs:cnt a*cnt b<=4096):oW op a b=Za op a b:=by
 have:=iU hb;unfold oW;rw[fW,fW,dZ (.inr ha),dZ (.inr hb),show IU op=Ee op from rfl,ko,bX ho];rw[iu ha,iu hb,eE (.inr ha),eE (.inr hb),gz ha,gz hb];simp only;have q0:0<=(4096:Int)/((cnt b:Nat):Int):=zS au au;have q1:(4096:Int)/((cnt b:Nat):Int)<=4096:=yl _ au;rw[bB (show ¬@Eq Int ((cnt b:Nat):Int) 0 by omega),kM,aL,bX ((JG hb).mpr hs),cK];grind
def afK(a0:Int)(a1 a2:aK):aa (aK×Int):=
 bif vn (a0=8)then BO a0 a1 a2 else bif vn (a0=9)then BO a0 a1 a2 else bif vn (a0=10)then BO a0 a1 a2 else bif vn (a0=11)then
  (bif(vn (0<=a1.ah)&&vn (0<=a2.ah))then j4 0 (max a1.ah.natAbs a1.ag.natAbs:Nat) 1 else j4 (-((max a1.ah.natAbs a1.ag.natAbs:Nat):Int)) (max a1.ah.natAbs a1.ag.natAbs:Nat) 1)
 else bif vn (a0=12)then j4 (if a2.ah<0 then a2.ah+1 else 0) (if 0<a2.ag then a2.ag-1 else 0) 1
 else bif vn (a0=21)then(match m41 (cF a1 a2) (min a1.ag a2.ag)with|G=>G|V c=>V (c,0))
 else bif vn (a0=22)then(match m42 (cF a1 a2) (max a1.ah a2.ah-1)with|G=>G|V c=>V (c,0))
 else(match acq a0 a1 a2 with|G=>G|V c=>V (c,0))
def BQ{op:Int}{a b:aK}(ho:binop op)(ha:NN a)(hb:NN b)(hs:¬cnt a*cnt b<=4096):oW op a b=afK op a b:=by
 have:=iU hb;have r1:=ha.um;have r2:=ha.DO;have r3:=hb.um;have r4:=hb.DO;obtain⟨a1,a2⟩:=r1;obtain⟨a3,a4⟩:=r2;obtain⟨b1,b2⟩:=r3;obtain⟨b3,b4⟩:=r4;unfold oW afK;rw[fW,fW,dZ (.inr ha),dZ (.inr hb),show IU op=Ee op from rfl,ko,bX ho];simp only;rw[iu ha,iu hb,eE (.inr ha),eE (.inr hb),gz ha,gz hb];simp only;have q0:0<=(4096:Int)/((cnt b:Nat):Int):=zS au au;have q1:(4096:Int)/((cnt b:Nat):Int)<=4096:=yl _ au;rw[bB (show ¬@Eq Int ((cnt b:Nat):Int) 0 by omega),kM,aL (n:=(4096:Int)/((cnt b:Nat):Int)),bW (λk=>hs ((JG hb).mp k)),ct];have cases15:op=8\/op=9\/op=10\/op=11\/op=12\/op=13\/op=14\/op=15\/op=16\/op=17\/op=18\/op=19\/op=20\/op=21\/op=22:=by
  obtain⟨o1,o2⟩:=ho;omega
 have ez:(bif vn (0<=a.ah)then some (vn (0<=b.ah))else some false)=some (vn (0<=a.ah)&&vn (0<=b.ah)):=by cases vn (0<=a.ah)<;>rfl
 rcases cases15 with rfl|rfl|rfl|rfl|rfl|rfl|rfl|rfl|rfl|rfl|rfl|rfl|rfl|rfl|rfl
 all_goals simp only[Int.reduceEq,Ej,ct]
 ·cases BO 8 a b<;>rfl
 ·cases BO 9 a b<;>rfl
 ·cases BO 10 a b<;>rfl
 ·rw[Bj ha.um,Bj ha.DO,ez];by_cases c:((a.ah.natAbs:Nat):Int)<((a.ag.natAbs:Nat):Int)
  ·rw[bX c,cK,aL,xW,Nat.max_eq_right au];cases (vn (0<=a.ah)&&vn (0<=b.ah))with
   |true=>(simp only;generalize j4 _ _ _=z;cases z<;>rfl)
   |false=>(simp only[ct];generalize j4 _ _ _=z;cases z<;>rfl)
  ·rw[bW c,ct,aL,xW,Nat.max_eq_left au];cases (vn (0<=a.ah)&&vn (0<=b.ah))with
   |true=>(simp only;generalize j4 _ _ _=z;cases z<;>rfl)
   |false=>(simp only[cD];generalize j4 _ _ _=z;cases z<;>rfl)
 ·rw[aL (n:=b.ah+1),aL (n:=b.ag-1)];by_cases c:b.ah<0<;>by_cases d:0<b.ag
  ·rw[bX c,bX d,bB c,bB d];(simp only[cD];generalize j4 _ _ _=z;cases z<;>rfl)
  ·rw[bX c,bW d,bB c,bL d];(simp only[cD];generalize j4 _ _ _=z;cases z<;>rfl)
  ·rw[bW c,bX d,bL c,bB d];(simp only[cD];generalize j4 _ _ _=z;cases z<;>rfl)
  ·rw[bW c,bW d,bL c,bL d];(simp only[cD];generalize j4 _ _ _=z;cases z<;>rfl)
 ·rfl
 ·rfl
 ·rfl
 ·rfl
 ·rfl
 ·rfl
 ·rfl
 ·rfl
 ·obtain⟨v,ev,hv⟩:=nr (op:=21) ha.DO hb.DO ⟨by decide,by decide⟩;have hv:v=min a.ag b.ag:=hv (VS ha.DO hb.DO (.inr (.inr (.inl rfl))));rw[ev,gA (.inr ha) (.inr hb)];simp only;rw[hv];cases m41 (cF a b) (min a.ag b.ag)<;>rfl
 ·obtain⟨v,ev,hv⟩:=nr (op:=22) ha.um hb.um ⟨by decide,by decide⟩;have hv:v=max a.ah b.ah:=hv (VS ha.um hb.um (.inr (.inr (.inr rfl))));rw[ev,gA (.inr ha) (.inr hb)];simp only;rw[hv,aL];cases m42 (cF a b) (max a.ah b.ah-1)<;>rfl
def adq{op:Int}{a b:aK}(ho:Ow op)(ha:NN a)(hb:NN b):∃c,A5 op a b=V c/\oW op a b=V (c,0)/\NV c:=by
 have hbin:binop op:=by unfold binop;rcases ho with rfl|rfl|rfl|rfl<;>decide
 have r1:=ha.um;have r2:=ha.DO;have r3:=hb.um;have r4:=hb.DO;by_cases hs:cnt a*cnt b<=4096
 ·obtain⟨c,e1,h1⟩:=Tf ho ha hb hs;have hR:∀y,tW op a b y->cC y:=λy ⟨x,z,hx,hz,e⟩=>by rw[e];exact VS (Zy (.inr ha) hx) (Zy (.inr hb) hz) ho
  rw[o6 hbin ha hb hs];rcases E7 hbin ha hb au with ⟨_,d,e2,h2⟩|⟨k,_⟩
  ·rw[h2.uniq h1]at e2;exact⟨c,e1,e2, .inr (h1.valid hR)⟩
  ·simp_all
 ·rw[adr ha hb hs,BQ hbin ha hb hs];obtain⟨a1,a2⟩:=r1;obtain⟨a3,a4⟩:=r2;obtain⟨b1,b2⟩:=r3;obtain⟨b3,b4⟩:=r4;unfold ZQ afK;rcases ho with rfl|rfl|rfl|rfl
  all_goals simp only[Int.reduceEq,Ej,ct]
  ·rw[og ha.um,og ha.DO];have em:(if((a.ah.natAbs:Nat):Int)<((a.ag.natAbs:Nat):Int)then((a.ag.natAbs:Nat):Int)else((a.ah.natAbs:Nat):Int))=((max a.ah.natAbs a.ag.natAbs:Nat):Int):=by split<;>omega
   rw[em];have ez:(bif vn (0<=a.ah)then some (vn (0<=b.ah))else some false)=some (vn (0<=a.ah)&&vn (0<=b.ah)):=by cases vn (0<=a.ah)<;>rfl
   rw[ez];simp only;have hm:((max a.ah.natAbs a.ag.natAbs:Nat):Int)<=1099511627776:=au;generalize max a.ah.natAbs a.ag.natAbs=m at*;rw[aL,xW,pK au au au,pK au au au,nc ⟨au,au⟩ ⟨au,au⟩ au,nc ⟨au,au⟩ ⟨au,au⟩ au];cases (vn (0<=a.ah)&&vn (0<=b.ah))with
   |true=>exact⟨_,rfl,rfl, .inr (nh au au au au)⟩
   |false=>exact⟨_,rfl,rfl, .inr (nh au au au au)⟩
  ·rw[aL (n:=b.ah+1),aL (n:=b.ag-1)];rw[show (if 0<b.ah+1 then 0 else b.ah+1)=(if b.ah<0 then b.ah+1 else 0)by split<;>split<;>omega,show (if b.ag-1<0 then 0 else b.ag-1)=(if 0<b.ag then b.ag-1 else 0)by split<;>split<;>omega];rw[pK au au au,nc ⟨au,au⟩ ⟨au,au⟩ au];exact⟨_,rfl,rfl, .inr (nh au au au au)⟩
  ·rw[kg (.inr ha) (.inr hb)];simp only;rw[show (if b.ag<a.ag then b.ag else a.ag)=min a.ag b.ag by split<;>omega];have vj:=eW (.inr ha) (.inr hb);obtain⟨l,u,e1,h1,_⟩:=AW vj (min a.ag b.ag);obtain⟨l',e2,h2⟩:=KT vj (min a.ag b.ag);rw[e1,e2,h2.rep.uniq h1.rep];exact⟨l,rfl,rfl,h1.1⟩
  ·rw[kg (.inr ha) (.inr hb)];simp only;rw[show (if a.ah<b.ah then b.ah else a.ah)=max a.ah b.ah by split<;>omega,aL];have vj:=eW (.inr ha) (.inr hb);obtain⟨l,u,e1,_,h1⟩:=AW vj (max a.ah b.ah-1);obtain⟨u',e2,h2⟩:=BW vj (max a.ah b.ah-1);rw[e1,e2,h2.rep.uniq h1.rep];exact⟨u,rfl,rfl,h1.1⟩
def ssc(a b c:Int):a-c-(b-c)=a-b:=au
def di{a:aK}(h:NN a):bR a a.ah:=⟨zj _,h.le,⟨0,au⟩⟩
def gv{a:aK}(h:NN a):bR a a.ag:=⟨h.le,zj _,h.dvd⟩
def X5{a:aK}(h:NN a):bR a (a.ah+a.aj):=⟨by have:=h.s0;omega,by have:=h.sle;omega,⟨1,au⟩⟩
def Ry(a:aK)(x:Int):Prop:=x=a.ah\/x=a.ah+a.aj\/x=a.ag
def rM{a:aK}(h:NN a){x:Int}(hx:Ry a x):bR a x:=by
 rcases hx with rfl|rfl|rfl
 ·exact di h
 ·exact X5 h
 ·exact gv h
structure Mid (op:Int) (a b:aK) (Q:Int->Prop):Prop where
 c:∀x z,Ry a x->Ry b z->Q (fP op x z)
 v:∀y,Q y->tW op a b y
def Hp(op:Int)(a b:aK)(y:Int):Prop:=∃x z,Ry a x/\Ry b z/\y=fP op x z
def aqB{op:Int}{a b:aK}(ha:NN a)(hb:NN b):Mid op a b (tW op a b):=⟨λx z hx hz=>⟨x,z,rM ha hx,rM hb hz,rfl⟩,λ_ h=>h⟩
def ao7{op:Int}{a b:aK}(ha:NN a)(hb:NN b):Mid op a b (Hp op a b):=⟨λx z hx hz=>⟨x,z,hx,hz,rfl⟩,λ_ ⟨x,z,hx,hz,e⟩=>⟨x,z,rM ha hx,rM hb hz,e⟩⟩
def O7{a b:aK}(ha:NN a)(hb:NN b){Q:Int->Prop}(h:Mid 8 a b Q):dz Q (aK.mk (a.ah+b.ah) (a.ag+b.ag) (cz a.aj b.aj)):=by
 refine⟨h.c a.ah b.ah (.inl rfl) (.inl rfl),h.c a.ag b.ag (.inr (.inr rfl)) (.inr (.inr rfl)),λy hy=> ?_,lZ _ _,λd hd=>jx ?_ ?_⟩
 ·obtain⟨x,z,⟨x1,x2,x3⟩,⟨z1,z2,z3⟩,rfl⟩:=h.v y hy;show a.ah+b.ah<=x+z/\x+z<=a.ag+b.ag/\cz a.aj b.aj∣x+z-(a.ah+b.ah);have:=yZ (zZ (kI a.aj b.aj) x3) (zZ (rY a.aj b.aj) z3);grind
 ·have:=hd _ (h.c (a.ah+a.aj) b.ah (.inr (.inl rfl)) (.inl rfl));have this:d∣a.ah+a.aj+b.ah-(a.ah+b.ah):=this
  rwa [show a.ah+a.aj+b.ah-(a.ah+b.ah)=a.aj by omega]at this
 ·have:=hd _ (h.c a.ah (b.ah+b.aj) (.inl rfl) (.inr (.inl rfl)));have this:d∣a.ah+(b.ah+b.aj)-(a.ah+b.ah):=this
  rwa [show a.ah+(b.ah+b.aj)-(a.ah+b.ah)=b.aj by omega]at this
def OY{a b:aK}(ha:NN a)(hb:NN b){Q:Int->Prop}(h:Mid 9 a b Q):dz Q (aK.mk (a.ah-b.ag) (a.ag-b.ah) (cz a.aj b.aj)):=by
 refine⟨h.c a.ah b.ag (.inl rfl) (.inr (.inr rfl)),h.c a.ag b.ah (.inr (.inr rfl)) (.inl rfl),λy hy=> ?_,lZ _ _,λd hd=>jx ?_ ?_⟩
 ·obtain⟨x,z,⟨x1,x2,x3⟩,⟨z1,z2,z3⟩,rfl⟩:=h.v y hy;show a.ah-b.ag<=x-z/\x-z<=a.ag-b.ah/\cz a.aj b.aj∣x-z-(a.ah-b.ag);have k:=yz hb.dvd z3;have:=yZ (zZ (kI a.aj b.aj) x3) (zZ (rY a.aj b.aj) k);grind
 ·have:=hd _ (h.c (a.ah+a.aj) b.ag (.inr (.inl rfl)) (.inr (.inr rfl)));have this:d∣a.ah+a.aj-b.ag-(a.ah-b.ag):=this
  rwa [show a.ah+a.aj-b.ag-(a.ah-b.ag)=a.aj by omega]at this
 ·have k1:=hd _ (h.c a.ah b.ah (.inl rfl) (.inl rfl));have k2:=hd _ (h.c a.ah (b.ah+b.aj) (.inl rfl) (.inr (.inl rfl)));have k1:d∣a.ah-b.ah-(a.ah-b.ag):=k1;have k2:d∣a.ah-(b.ah+b.aj)-(a.ah-b.ag):=k2;have:=yz k1 k2
  rwa [show a.ah-b.ah-(a.ah-b.ag)-(a.ah-(b.ah+b.aj)-(a.ah-b.ag))=b.aj by omega]at this
def U9{l h x z:Int}(h1:l<=x)(h2:x<=h):min (l*z) (h*z)<=x*z/\x*z<=max (l*z) (h*z):=by
 rcases Int.le_total 0 z with c|c
 ·have k1:=zN h1 c;have k2:=zN h2 c;omega
 ·have k1:=Int.mul_le_mul_of_nonpos_right h1 c;have k2:=Int.mul_le_mul_of_nonpos_right h2 c;omega
def Zj(p q r s:Int):Int:=min (min p q) (min r s)
def hi4(p q r s:Int):Int:=max (max p q) (max r s)
def Xy{a b:aK}{x z:Int}(hx:a.ah<=x/\x<=a.ag)(hz:b.ah<=z/\z<=b.ag):
  Zj (a.ah*b.ah) (a.ah*b.ag) (a.ag*b.ah) (a.ag*b.ag)<=x*z/\x*z<=hi4 (a.ah*b.ah) (a.ah*b.ag) (a.ag*b.ah) (a.ag*b.ag):=by
 have k1:=U9 (z:=x) hz.1 hz.2;have k2:=U9 (z:=b.ah) hx.1 hx.2;have k3:=U9 (z:=b.ag) hx.1 hx.2;rw[zQ b.ah x,zQ b.ag x,zQ z x]at k1;unfold Zj hi4;omega
def apS{P:Int->Prop}{p q r s:Int}(h1:P p)(h2:P q)(h3:P r)(h4:P s):P (Zj p q r s)/\P (hi4 p q r s):=by
 have e1:Zj p q r s=p\/Zj p q r s=q\/Zj p q r s=r\/Zj p q r s=s:=by unfold Zj;omega
 have e2:hi4 p q r s=p\/hi4 p q r s=q\/hi4 p q r s=r\/hi4 p q r s=s:=by unfold hi4;omega
 grind
def auX(a b:aK):aK:=aK.mk (Zj (a.ah*b.ah) (a.ah*b.ag) (a.ag*b.ah) (a.ag*b.ag)) (hi4 (a.ah*b.ah) (a.ah*b.ag) (a.ag*b.ah) (a.ag*b.ag)) (cz (cz (a.aj*b.ah) (b.aj*a.ah)) (a.aj*b.aj))
def Pc{a b:aK}(ha:NN a)(hb:NN b){Q:Int->Prop}(h:Mid 10 a b Q):dz Q (auX a b):=by
 have h00:Q (a.ah*b.ah):=h.c a.ah b.ah (.inl rfl) (.inl rfl);have h01:Q (a.ah*b.ag):=h.c a.ah b.ag (.inl rfl) (.inr (.inr rfl));have h10:Q (a.ag*b.ah):=h.c a.ag b.ah (.inr (.inr rfl)) (.inl rfl);have h11:Q (a.ag*b.ag):=h.c a.ag b.ag (.inr (.inr rfl)) (.inr (.inr rfl));obtain⟨q1,q2⟩:=apS (P:=Q) h00 h01 h10 h11;have g1:cz (cz (a.aj*b.ah) (b.aj*a.ah)) (a.aj*b.aj)∣a.aj*b.ah:=zZ (kI _ _) (kI _ _);have g2:cz (cz (a.aj*b.ah) (b.aj*a.ah)) (a.aj*b.aj)∣b.aj*a.ah:=zZ (kI _ _) (rY _ _);have g3:cz (cz (a.aj*b.ah) (b.aj*a.ah)) (a.aj*b.aj)∣a.aj*b.aj:=rY _ _;have base:∀y,Q y->cz (cz (a.aj*b.ah) (b.aj*a.ah)) (a.aj*b.aj)∣y-a.ah*b.ah:=λy hy=>by
  obtain⟨x,z,⟨_,_,i,x3⟩,⟨_,_,j,z3⟩,rfl⟩:=h.v y hy;show _∣x*z-a.ah*b.ah;have e:x*z-a.ah*b.ah=i*(a.aj*b.ah)+j*(b.aj*a.ah)+i*j*(a.aj*b.aj):=by
   grind
  rw[e];exact yZ (yZ (zZ g1 (xG ..)) (zZ g2 (xG ..))) (zZ g3 (xG ..))
 refine⟨q1,q2,λy hy=> ?_,lZ _ _,λd hd=> ?_⟩
 ·obtain⟨x,z,hx,hz,e⟩:=h.v y hy;have k:=Xy ⟨hx.1,hx.2.1⟩ ⟨hz.1,hz.2.1⟩;refine⟨by rw[e];exact k.1,by rw[e];exact k.2,?_⟩;have:=yz (base y hy) (base _ q1)
  rwa [ssc]at this
 ·have diff:∀y y',Q y->Q y'->d∣y-y':=λy y' hy hy'=>by
   have:=yz (hd y hy) (hd y' hy');grind
  have p10:Q ((a.ah+a.aj)*b.ah):=h.c _ _ (.inr (.inl rfl)) (.inl rfl);have p01:Q (a.ah*(b.ah+b.aj)):=h.c _ _ (.inl rfl) (.inr (.inl rfl));have p11:Q ((a.ah+a.aj)*(b.ah+b.aj)):=h.c _ _ (.inr (.inl rfl)) (.inr (.inl rfl));have d1:=diff _ _ p10 h00;rw[zU,Int.add_comm (a.ah*b.ah),Int.add_sub_cancel]at d1;have d2:=diff _ _ p01 h00;rw[xF,Int.add_comm (a.ah*b.ah),Int.add_sub_cancel,zQ]at d2;have d3:=yz (diff _ _ p11 p10) d2;rw[xF (a.ah+a.aj),Int.add_comm ((a.ah+a.aj)*b.ah),Int.add_sub_cancel,zU,zQ b.aj a.ah,Int.add_comm (a.ah*b.aj),Int.add_sub_cancel]at d3;exact jx (jx d1 d2) d3
def gT(a:aK):af Int:=[a.ah,a.ah+a.aj,a.ag]
def pS(a:aK)(x:Int):Ry a x↔∃k,k<3/\x=(gT a)[k]! :=by
 constructor
 ·rintro(rfl|rfl|rfl)
  ·exact⟨0,au,rfl⟩
  ·exact⟨1,au,rfl⟩
  ·exact⟨2,au,rfl⟩
 ·rintro⟨k,hk,rfl⟩;rcases (show k=0\/k=1\/k=2 by omega)with rfl|rfl|rfl
  ·exact .inl rfl
  ·exact .inr (.inl rfl)
  ·exact .inr (.inr rfl)
def Jt{a:aK}(h:NN a){k:Nat}(hk:k<3):cC (gT a)[k]! :=Zy (.inr h) (rM h ((pS a _).mpr ⟨k,hk,rfl⟩))
def prC(op:Int)(a b:aK)(i j:Nat)(l:af Int):Prop:=(∀y,y∈l↔(∃k,k<i/\∃m,m<3/\y=fP op (gT a)[k]! (gT b)[m]!)\/∃m,m<j/\y=fP op (gT a)[i]! (gT b)[m]!)/\zY l=i*3+j/\∀y∈l,cC y
def ahN{op:Int}{a b:aK}{i:Nat}{l:af Int}(h:prC op a b i 3 l):prC op a b (i+1) 0 l:=by
 refine⟨λy=>(h.1 y).trans ⟨?_,?_⟩,by rw[h.2.1];omega,h.2.2⟩
 ·rintro(⟨k,hk,m,hm,e⟩|⟨m,hm,e⟩)
  ·exact .inl ⟨k,au,m,hm,e⟩
  ·exact .inl ⟨i,au,m,hm,e⟩
 ·rintro(⟨k,hk,m,hm,e⟩|⟨m,hm,e⟩)
  ·rcases xk.mp hk with c|rfl
   ·exact .inl ⟨k,c,m,hm,e⟩
   ·exact .inr ⟨m,hm,e⟩
  ·omega
def afV{op:Int}{a b c:aK}(ho:binop op)(ha:NN a)(hb:NN b){i:Nat}(hi:i<3){l:af Int}(hl:prC op a b i 0 l):
  (∃l',Cy (jr.mk op l (gT a) (gT b) i 0 c)=V (jr.mk op l' (gT a) (gT b) i 3 c)/\prC op a b (i+1) 0 l')\/
  (∃l' j,j<3/\Cy (jr.mk op l (gT a) (gT b) i 0 c)=V (jr.mk op l' (gT a) (gT b) i (j:Nat) c)/\¬cC (fP op (gT a)[i]! (gT b)[j]!)):=by
 have ll:∀a:aK,zY (gT a)=3:=λ_=>rfl;obtain⟨j,l',e,hI,h⟩:=jq (rnd:=S7) 3 (λj (l:af Int)=>jr.mk op l (gT a) (gT b) i (j:Nat) c) (λj l=>prC op a b i j l) (λj l=>¬cC (fP op (gT a)[i]! (gT b)[j]!))
  (λj l hj hI=>by
   obtain⟨v,ev,hv⟩:=nr (Jt ha hi) (Jt hb hj) ho;unfold S7 H6;simp only;rw[oV,cK,ll,ll,gM,zg,bB ⟨trivial,hi⟩,gM,zg,bB ⟨trivial,hj⟩,ev];simp only;by_cases hr:cC (fP op (gT a)[i]! (gT b)[j]!)
   ·left;rw[bX hr];rw[bB (by rw[zh,hI.2.1];simp;omega),jR hj au,hv hr];refine⟨_,rfl,λy=> ?_,by rw[zh,hI.2.1];simp;omega,λy hy=> ?_⟩
    ·rw[zP,zo,hI.1 y];constructor
     ·rintro((h|⟨m,hm,h⟩)|rfl)
      ·exact .inl h
      ·exact .inr ⟨m,au,h⟩
      ·exact .inr ⟨j,au,rfl⟩
     ·rintro(h|⟨m,hm,h⟩)
      ·exact .inl (.inl h)
      ·rcases xk.mp hm with c|rfl
       ·exact .inl (.inr ⟨m,c,h⟩)
       ·omega
    ·rcases zP.mp hy with hy|hy
     ·exact hI.2.2 y hy
     ·simp_all
   ·right;rw[bW hr];exact⟨rfl,hr⟩)
  (λl hI=>by
   rfl) (b:=l) hl
 rcases h with rfl|⟨hj,h⟩
 ·exact .inl ⟨l',e,ahN hI⟩
 ·exact .inr ⟨l',j,hj,e,h⟩
def anN{op:Int}{a b:aK}(ho:binop op)(ha:NN a)(hb:NN b):
  ((∀y,Hp op a b y->cC y)/\∃c,BO op a b=V (c,0)/\dz (Hp op a b) c)\/((¬∀y,Hp op a b y->cC y)/\BO op a b=V (aK.mk 0 0 0,3)):=by
 have ll:∀a:aK,zY (gT a)=3:=λ_=>rfl;have wc:∀{a:aK},NN a->[a.ah,ak (a.ah+a.aj),a.ag]=gT a:=λ{a} h=>by
  have:=Zy (.inr h) (X5 h);rw[aL (by have:=this.1;omega) (by have:=this.2;omega)];rfl
 unfold BO Nv H6;rw[wc ha,wc hb];obtain⟨i,l,e,hI,h⟩:=jq (rnd:=Hv) 3 (λi (l:af Int)=>nN.mk op l (gT a) (gT b) (i:Nat) (aK.mk 0 0 0)) (λi l=>prC op a b i 0 l) (λi l=>∃l' j,j<3/\Cy (jr.mk op l (gT a) (gT b) i 0 (aK.mk 0 0 0))=V (jr.mk op l' (gT a) (gT b) i (j:Nat) (aK.mk 0 0 0))/\¬cC (fP op (gT a)[i]! (gT b)[j]!))
  (λi l hi hI=>by
   unfold Hv Nv H6;simp only;rw[oV,cK];rcases afV (c:=aK.mk 0 0 0) ho ha hb hi hI with ⟨l',e,h⟩|⟨l',j,hj,e,h⟩
   ·left;rw[e];simp only;rw[fD,ct,jR hi au];exact⟨l',rfl,h⟩
   ·right;refine⟨?_,l',j,hj,e,h⟩;rw[e];simp only;obtain⟨v,ev,hv⟩:=nr (Jt ha hi) (Jt hb hj) ho;rw[oV,cK,ll,ll,gM,zg,bB ⟨trivial,hi⟩,gM,zg,bB ⟨trivial,hj⟩,ev];rw[bW h];rfl)
  (λl hI=>by
   rfl) (b:=[]) ⟨λy=>⟨λh=>dS h (by simp),λh=>by
    rcases h with ⟨k,hk,_⟩|⟨m,hm,_⟩
    ·omega
    ·exact dS hm (y7 _)⟩,by simp,λy hy=>dS hy (by simp)⟩
 have e:bI Hv (nN.mk op [] (gT a) (gT b) 0 (aK.mk 0 0 0))=V (nN.mk op l (gT a) (gT b) (i:Nat) (aK.mk 0 0 0)):=e;rw[show MO=bI Hv from rfl,e];simp only;rcases h with rfl|⟨hi,l',j,hj,e1,h⟩
 ·left;have mem:∀y,y∈l↔Hp op a b y:=λy=>(hI.1 y).trans ⟨λh=>by
   rcases h with ⟨k,hk,m,hm,e⟩|⟨m,hm,_⟩
   ·exact⟨_,_,(pS a _).mpr ⟨k,hk,rfl⟩,(pS b _).mpr ⟨m,hm,rfl⟩,e⟩
   ·exact dS hm (y7 _),λ⟨x,z,hx,hz,e⟩=>by
   obtain⟨k,hk,rfl⟩:=(pS a _).mp hx;obtain⟨m,hm,rfl⟩:=(pS b _).mp hz;exact .inl ⟨k,hk,m,hm,e⟩⟩
  have hne:l≠[]:=λe=>by
   have:=hI.2.1;simp_all
  obtain⟨c,e2,hc⟩:=M7 hne (by rw[hI.2.1];omega) hI.2.2;rw[e2];exact⟨λy hy=>hI.2.2 y ((mem y).mpr hy),c,rfl,hc.congr mem⟩
 ·right;refine⟨λk=>h (k _ ⟨_,_,(pS a _).mpr ⟨i,hi,rfl⟩,(pS b _).mpr ⟨j,hj,rfl⟩,rfl⟩),?_⟩;rw[oV,cK,e1];simp only;obtain⟨v,ev,hv⟩:=nr (Jt ha hi) (Jt hb hj) ho;rw[oV,cK,ll,ll,gM,zg,bB ⟨trivial,hi⟩,gM,zg,bB ⟨trivial,hj⟩,ev];rw[bW h];rfl
def j7{op:Int}{a b c:aK}(ho:op=8\/op=9\/op=10)(ha:NN a)(hb:NN b)(hc:∀Q,Mid op a b Q->dz Q c)(hR:(∀y,Hp op a b y->cC y)->∀y,tW op a b y->cC y):
  ((∀y,tW op a b y->cC y)/\oW op a b=V (c,0)/\NN c)\/((¬∀y,tW op a b y->cC y)/\oW op a b=V (aK.mk 0 0 0,3)):=by
 have hbin:binop op:=by unfold binop;omega
 by_cases hs:cnt a*cnt b<=4096
 ·rw[o6 hbin ha hb hs];rcases E7 hbin ha hb au with ⟨h1,d,e,h2⟩|⟨h1,e⟩
  ·have k:=hc _ (aqB ha hb);rw[h2.uniq k]at e;exact .inl ⟨h1,e,k.valid h1⟩
  ·exact .inr ⟨h1,e⟩
 ·have e0:oW op a b=BO op a b:=by
   rw[BQ hbin ha hb hs];rcases ho with rfl|rfl|rfl<;>rfl
  rw[e0];rcases anN hbin ha hb with ⟨h1,d,e,h2⟩|⟨h1,e⟩
  ·rw[h2.uniq (hc _ (ao7 ha hb))]at e;exact .inl ⟨hR h1,e,(hc _ (aqB ha hb)).valid (hR h1)⟩
  ·exact .inr ⟨λk=>h1 λy hy=>k y ((ao7 ha hb).v y hy),e⟩
def Zb{c:aK}(h:NN c):jP c.ah c.ag c.aj=c:=by
 rw[Qx h.le h.s0 h.dvd (λk=>by rcases h.st with e|e;exact e.2;omega)]
def Dt{c:aK}(h:NN c):oA c.ah c.ag c.aj=V c:=by
 have:=h.lo;have:=h.hi
 rw[pK au au h.s0,Zb h]
def oO{op:Int}{a b:aK}(ho:binop op)(ha:NN a)(hb:NN b){r:aa (aK×Int)}
  (h:(bif vn (op=9)then
   match bif bif jy (ak (a.ah+ak (0-b.ag)))then O else J then V J else V (bif jy (ak (a.ag+ak (0-b.ah)))then O else J)with
   |none=>G
   |some r5=>bif r5 then V (aK.mk 0 0 0,3)else match Eg [a.aj,b.aj]with
    |none=>G
    |some r6=>match oA (ak (a.ah+ak (0-b.ag))) (ak (a.ag+ak (0-b.ah))) r6 with
     |none=>G
     |some r7=>V (r7,0)
  else bif vn (op=8)then
   match bif bif jy (ak (a.ah+b.ah))then O else J then V J else V (bif jy (ak (a.ag+b.ag))then O else J)with
   |none=>G
   |some r8=>bif r8 then V (aK.mk 0 0 0,3)else match Eg [a.aj,b.aj]with
    |none=>G
    |some r9=>match oA (ak (a.ah+b.ah)) (ak (a.ag+b.ag)) r9 with
     |none=>G
     |some r10=>V (r10,0)
  else bif vn (op=10)then match aaP a b with
   |none=>G
   |some r11=>V r11
  else bif vn (op=11)then match A5 op a b with
   |none=>G
   |some r12=>V (r12,0)
  else bif vn (op=12)then match A5 op a b with
   |none=>G
   |some r13=>V (r13,0)
  else bif vn (op=21)then match A5 op a b with
   |none=>G
   |some r14=>V (r14,0)
  else bif vn (op=22)then match A5 op a b with
   |none=>G
   |some r15=>V (r15,0)
  else match adu op a b with
   |none=>G
   |some r16=>V (r16,0))=r):AD op a b=r:=by
 unfold AD;rw[eV,eV,dZ (.inr ha),dZ (.inr hb),ko,bX ho];simp only[cD];rw[eM ha.ne,eM hb.ne];simp only[ct];exact h
def tq{a b:aK}(ha:NN a)(hb:NN b):(∀y,tW 8 a b y->cC y)↔cC (a.ah+b.ah)/\cC (a.ag+b.ag):=by
 constructor
 ·intro h;exact⟨h _ ⟨_,_,di ha,di hb,rfl⟩,h _ ⟨_,_,gv ha,gv hb,rfl⟩⟩
 ·rintro⟨⟨h1,h2⟩,⟨h3,h4⟩⟩ y ⟨x,z,⟨x1,x2,_⟩,⟨z1,z2,_⟩,rfl⟩;exact⟨by show _<=x+z;omega,by show x+z<=_;omega⟩
def tD{a b:aK}(ha:NN a)(hb:NN b):(∀y,tW 9 a b y->cC y)↔cC (a.ah-b.ag)/\cC (a.ag-b.ah):=by
 constructor
 ·intro h;exact⟨h _ ⟨_,_,di ha,gv hb,rfl⟩,h _ ⟨_,_,gv ha,di hb,rfl⟩⟩
 ·rintro⟨⟨h1,h2⟩,⟨h3,h4⟩⟩ y ⟨x,z,⟨x1,x2,_⟩,⟨z1,z2,_⟩,rfl⟩;exact⟨by show _<=x-z;omega,by show x-z<=_;omega⟩
def jT{a b:aK}(ha:NN a)(hb:NN b):(∀y,tW 10 a b y->cC y)↔cC (a.ah*b.ah)/\cC (a.ah*b.ag)/\cC (a.ag*b.ah)/\cC (a.ag*b.ag):=by
 constructor
 ·intro h;exact⟨h _ ⟨_,_,di ha,di hb,rfl⟩,h _ ⟨_,_,di ha,gv hb,rfl⟩,h _ ⟨_,_,gv ha,di hb,rfl⟩,h _ ⟨_,_,gv ha,gv hb,rfl⟩⟩
 ·rintro⟨h1,h2,h3,h4⟩ y ⟨x,z,⟨x1,x2,_⟩,⟨z1,z2,_⟩,rfl⟩;have k:=Xy (a:=a) (b:=b) ⟨x1,x2⟩ ⟨z1,z2⟩;obtain⟨⟨p1,p2⟩,⟨p3,p4⟩⟩:=apS (P:=cC) h1 h2 h3 h4;exact⟨by show _<=x*z;omega,by show x*z<=_;omega⟩
def amg{x y u v:Int}(h1:x.natAbs=u.natAbs)(h2:y.natAbs=v.natAbs):cz x y=cz u v:=by
 unfold cz yE;rw[h1,h2]
def aaB(p q r s:Int):alQ ([p]++[q]++[r]++[s])=V (Zj p q r s):=by
 unfold alQ F8;rw[bW (by simp),ct,bB (by simp),show KQ=bI G2 from rfl];have st:∀m k,k=1\/k=2\/k=3->G2 (pE.mk ([p]++[q]++[r]++[s]) m k)=V (V (pE.mk ([p]++[q]++[r]++[s]) (min m ([p]++[q]++[r]++[s])[k.toNat]!) (k+1))):=λm k hk=>by
  unfold G2 F8;simp only;rw[bX (by simp;omega),cK,bB (by simp;omega),aL];have e:∀w:Int,(if w<m then w else m)=min m w:=λw=>by split<;>omega
  rw[e]
 rw[bP (st _ 1 (.inl rfl)),bP (st _ (1+1) (.inr (.inl rfl))),bP (st _ (1+1+1) (.inr (.inr rfl))),cn (by intro x hx;simp[G2,F8]at hx)];simp only;rw[bW (by simp),ct];show V (min (min (min p q) r) s)=V (Zj p q r s);unfold Zj
 congr 1
 omega
def ZT(p q r s:Int):aih ([p]++[q]++[r]++[s])=V (hi4 p q r s):=by
 unfold aih Io;rw[bW (by simp),ct,bB (by simp),show La=bI FI from rfl];have st:∀m k,k=1\/k=2\/k=3->FI (pM.mk ([p]++[q]++[r]++[s]) m k)=V (V (pM.mk ([p]++[q]++[r]++[s]) (max m ([p]++[q]++[r]++[s])[k.toNat]!) (k+1))):=λm k hk=>by
  unfold FI Io;simp only;rw[bX (by simp;omega),cK,bB (by simp;omega),aL];have e:∀w:Int,(if m<w then w else m)=max m w:=λw=>by split<;>omega
  rw[e]
 rw[bP (st _ 1 (.inl rfl)),bP (st _ (1+1) (.inr (.inl rfl))),bP (st _ (1+1+1) (.inr (.inr rfl))),cn (by intro x hx;simp[FI,Io]at hx)];simp only;rw[bW (by simp),ct];show V (max (max (max p q) r) s)=V (hi4 p q r s);unfold hi4
 congr 1
 omega
def aC3(x y:Int):(bif bif jy x then O else J then V J else V (bif jy y then O else J))=V (!(vn (cC x)&&vn (cC y))):=by
 rw[show jy x=vn (cC x)from kF x,show jy y=vn (cC y)from kF y];cases vn (cC x)<;>cases vn (cC y)<;>rfl
def fS{op:Int}{a b:aK}(h:∀y,Hp op a b y->cC y){x z:Int}(hx:Ry a x)(hz:Ry b z):cC (fP op x z):=h _ ⟨x,z,hx,hz,rfl⟩
def TO(op:Int)(a b:aK):Prop:=∃r,AD op a b=V r/\oW op a b=V r/\NV r.1
def abj{a b:aK}(ha:NN a)(hb:NN b):TO 8 a b:=by
 have r1:=ha.um;have r2:=ha.DO;have r3:=hb.um;have r4:=hb.DO;obtain⟨a1,a2⟩:=r1;obtain⟨a3,a4⟩:=r2;obtain⟨b1,b2⟩:=r3;obtain⟨b3,b4⟩:=r4;have key:=j7 (op:=8) (.inl rfl) ha hb (λQ h=>O7 ha hb h) (λh=>(tq ha hb).mpr ⟨fS h (.inl rfl) (.inl rfl),fS h (.inr (.inr rfl)) (.inr (.inr rfl))⟩);have prog:∀r,(match V (!(vn (cC (a.ah+b.ah))&&vn (cC (a.ag+b.ag))))with
   |none=>G
   |some r8=>bif r8 then V (aK.mk 0 0 0,(3:Int))else match oA (a.ah+b.ah) (a.ag+b.ag) (cz a.aj b.aj)with
     |none=>G
     |some r10=>V (r10,0))=r->AD 8 a b=r:=λr h=>oO ⟨by decide,by decide⟩ ha hb (by
  simp only[Int.reduceEq,Ej,ct];rw[aC3,aL (n:=a.ah+b.ah),aL (n:=a.ag+b.ag),HB ha.s0 hb.s0];exact h)
 rcases key with ⟨h1,e,hv⟩|⟨h1,e⟩
 ·obtain⟨k1,k2⟩:=(tq ha hb).mp h1;refine⟨_,prog _ ?_,e, .inr hv⟩;rw[bX k1,bX k2];have:=Dt hv;rw[this];rfl
 ·refine⟨_,prog _ ?_,e,SF⟩;have:(vn (cC (a.ah+b.ah))&&vn (cC (a.ag+b.ag)))=O:=by
   cases c1:vn (cC (a.ah+b.ah))<;>cases c2:vn (cC (a.ag+b.ag))<;>first|rfl|exact dS ((tq ha hb).mpr ⟨of_decide_eq_true c1,of_decide_eq_true c2⟩) h1
  rw[this];rfl
def acM{a b:aK}(ha:NN a)(hb:NN b):TO 9 a b:=by
 have r1:=ha.um;have r2:=ha.DO;have r3:=hb.um;have r4:=hb.DO;obtain⟨a1,a2⟩:=r1;obtain⟨a3,a4⟩:=r2;obtain⟨b1,b2⟩:=r3;obtain⟨b3,b4⟩:=r4;have key:=j7 (op:=9) (.inr (.inl rfl)) ha hb (λQ h=>OY ha hb h) (λh=>(tD ha hb).mpr ⟨fS h (.inl rfl) (.inr (.inr rfl)),fS h (.inr (.inr rfl)) (.inl rfl)⟩);have prog:∀r,(match V (!(vn (cC (a.ah-b.ag))&&vn (cC (a.ag-b.ah))))with
   |none=>G
   |some r8=>bif r8 then V (aK.mk 0 0 0,(3:Int))else match oA (a.ah-b.ag) (a.ag-b.ah) (cz a.aj b.aj)with
     |none=>G
     |some r10=>V (r10,0))=r->AD 9 a b=r:=λr h=>oO ⟨by decide,by decide⟩ ha hb (by
  rw[aC3,aL (n:=0-b.ag),aL (n:=0-b.ah),aL (n:=a.ah+(0-b.ag)),aL (n:=a.ag+(0-b.ah)),HB ha.s0 hb.s0,
   show a.ah+(0-b.ag)=a.ah-b.ag by omega,show a.ag+(0-b.ah)=a.ag-b.ah by omega]
  exact h)
 rcases key with ⟨h1,e,hv⟩|⟨h1,e⟩
 ·obtain⟨k1,k2⟩:=(tD ha hb).mp h1;refine⟨_,prog _ ?_,e, .inr hv⟩;rw[bX k1,bX k2];have:=Dt hv;rw[this];rfl
 ·refine⟨_,prog _ ?_,e,SF⟩;have:(vn (cC (a.ah-b.ag))&&vn (cC (a.ag-b.ah)))=O:=by
   cases c1:vn (cC (a.ah-b.ag))<;>cases c2:vn (cC (a.ag-b.ah))<;>first|rfl|exact dS ((tD ha hb).mpr ⟨of_decide_eq_true c1,of_decide_eq_true c2⟩) h1
  rw[this];rfl
def adB{a b:aK}(ha:NN a)(hb:NN b):TO 10 a b:=by
 have key:=j7 (op:=10) (.inr (.inr rfl)) ha hb (λQ h=>Pc ha hb h) (λh=>(jT ha hb).mpr ⟨fS h (.inl rfl) (.inl rfl),fS h (.inl rfl) (.inr (.inr rfl)),fS h (.inr (.inr rfl)) (.inl rfl),fS h (.inr (.inr rfl)) (.inr (.inr rfl))⟩);have prog:AD 10 a b=aaP a b:=oO ⟨by decide,by decide⟩ ha hb (by
  simp only;cases aaP a b<;>rfl)
 unfold TO;rw[prog];obtain⟨v1,e1,q1⟩:=Er ha.um hb.um;obtain⟨v2,e2,q2⟩:=Er ha.um hb.DO;obtain⟨v3,e3,q3⟩:=Er ha.DO hb.um;obtain⟨v4,e4,q4⟩:=Er ha.DO hb.DO;unfold aaP;rw[e1];simp only;by_cases c1:cC (a.ah*b.ah)
 ·rw[bX c1,e2];simp only;by_cases c2:cC (a.ah*b.ag)
  ·rw[bX c2,e3];simp only;by_cases c3:cC (a.ag*b.ah)
   ·rw[bX c3,e4];simp only;by_cases c4:cC (a.ag*b.ag)
    ·rw[bX c4];simp only[cK];have hr:=(jT ha hb).mpr ⟨c1,c2,c3,c4⟩;rcases key with ⟨_,e,hv⟩|⟨h1,_⟩
     ·have r1:=ha.um;have r3:=hb.um;obtain⟨a1,a2⟩:=r1;obtain⟨b1,b2⟩:=r3;have s1:=ha.s0;have s2:=hb.s0;have l1:=ha.sle;have l2:=hb.sle;obtain⟨w1,w2⟩:=c1;obtain⟨w3,w4⟩:=c2;obtain⟨w5,w6⟩:=c3;obtain⟨w7,w8⟩:=c4;have n1:0<=a.aj*((b.ah.natAbs:Nat):Int):=zJ s1 au;have n2:0<=b.aj*((a.ah.natAbs:Nat):Int):=zJ s2 au;have n3:0<=a.aj*b.aj:=zJ s1 s2;have k1:a.aj*((b.ah.natAbs:Nat):Int)<=2199023255552:=by
       have t:=zN l1 (show 0<=((b.ah.natAbs:Nat):Int)by omega);have t2:(a.ag-a.ah)*((b.ah.natAbs:Nat):Int)<=2199023255552:=by
        rcases Int.le_total 0 b.ah with c|c
        ·rw[show ((b.ah.natAbs:Nat):Int)=b.ah by omega,yD];omega
        ·rw[show ((b.ah.natAbs:Nat):Int)= -b.ah by omega,xX,yD];omega
       omega
      have k2:b.aj*((a.ah.natAbs:Nat):Int)<=2199023255552:=by
       have t:=zN l2 (show 0<=((a.ah.natAbs:Nat):Int)by omega);have t2:(b.ag-b.ah)*((a.ah.natAbs:Nat):Int)<=2199023255552:=by
        rcases Int.le_total 0 a.ah with c|c
        ·rw[show ((a.ah.natAbs:Nat):Int)=a.ah by omega,yD,zQ b.ag,zQ b.ah];omega
        ·rw[show ((a.ah.natAbs:Nat):Int)= -a.ah by omega,xX,yD,zQ b.ag,zQ b.ah];omega
       omega
      have k3:a.aj*b.aj<=4398046511104:=by
       have t:=yY l1 l2 s2 au;rw[yD,Int.mul_sub,Int.mul_sub]at t;omega
      rw[og hb.um,og ha.um,aL (n:=a.aj*((b.ah.natAbs:Nat):Int)),aL (n:=b.aj*((a.ah.natAbs:Nat):Int)),aL (n:=a.aj*b.aj),
       GO n1 n2 n3,aaB,ZT,q1 ⟨w1,w2⟩,q2 ⟨w3,w4⟩,q3 ⟨w5,w6⟩,q4 ⟨w7,w8⟩]
      simp only;have eg:cz (cz (a.aj*((b.ah.natAbs:Nat):Int)) (b.aj*((a.ah.natAbs:Nat):Int))) (a.aj*b.aj)=(auX a b).aj:=by
       show _=cz (cz (a.aj*b.ah) (b.aj*a.ah)) (a.aj*b.aj);rw[amg (x:=a.aj*((b.ah.natAbs:Nat):Int)) (u:=a.aj*b.ah) (by rw[Int.natAbs_mul,Int.natAbs_mul,Int.natAbs_natCast]) (y:=b.aj*((a.ah.natAbs:Nat):Int)) (v:=b.aj*a.ah) (by rw[Int.natAbs_mul,Int.natAbs_mul,Int.natAbs_natCast])]
      rw[eg];have:=Dt hv;have this:oA (Zj (a.ah*b.ah) (a.ah*b.ag) (a.ag*b.ah) (a.ag*b.ag)) (hi4 (a.ah*b.ah) (a.ah*b.ag) (a.ag*b.ah) (a.ag*b.ag)) (auX a b).aj=V _:=this;rw[this];exact⟨_,rfl,e, .inr hv⟩
     ·exact dS hr h1
    ·rcases key with ⟨h1,_⟩|⟨_,e⟩
     ·exact dS ((jT ha hb).mp h1).2.2.2 c4
     ·rw[bW c4];exact⟨_,rfl,e,SF⟩
   ·rcases key with ⟨h1,_⟩|⟨_,e⟩
    ·exact dS ((jT ha hb).mp h1).2.2.1 c3
    ·rw[bW c3];exact⟨_,rfl,e,SF⟩
  ·rcases key with ⟨h1,_⟩|⟨_,e⟩
   ·exact dS ((jT ha hb).mp h1).2.1 c2
   ·rw[bW c2];exact⟨_,rfl,e,SF⟩
 ·rcases key with ⟨h1,_⟩|⟨_,e⟩
  ·exact dS ((jT ha hb).mp h1).1 c1
  ·rw[bW c1];exact⟨_,rfl,e,SF⟩
structure Eu (x m a b u v:Int):Prop where
 a0:0<=a
 b2:2<=b
 ab:a<b
 g:yE a b=1
 du:m∣u*x-a
 dv:m∣v*x-b
 s:(0<=u/\v<=0/\b*u-a*v=m)\/(u<=0/\0<=v/\a*v-b*u=m)
def Eu.next{x m a b u v:Int}(h:Eu x m a b u v)(ha:1<a):Eu x m (b%a) a (v-b/a*u) u:=by
 have e:=yW b a;have m0:=yX b (b:=a) au;have m1:=y6 b (b:=a) au;refine⟨m0,au,m1,?_,?_,h.du,?_⟩
 ·have:=qY (a:=b) (b:=a) (by have:=h.b2;omega) au;rw[lE (by have:=h.b2;omega)]at this;rw[Int.gcd_comm,this,Int.gcd_comm];exact h.g
 ·have k:=yz h.dv (zZ h.du (xG (b/a) _));grind
 ·have t1:(b%a)*u=b*u-a*(b/a*u):=by
   grind
  have t2:a*(v-b/a*u)=a*v-a*(b/a*u):=Int.mul_sub ..;have q0:0<=b/a:=zS (by have:=h.b2;omega) au;rcases h.s with ⟨s1,s2,s3⟩|⟨s1,s2,s3⟩
  ·have:=zJ q0 s1;omega
  ·have:=zJ q0 (show 0<= -u by omega);rw[xX]at this;omega
def Eu.bd{x m a b u v:Int}(h:Eu x m a b u v): -m<=u/\u<=m:=by
 have hb:=h.b2;have ha:=h.a0;rcases h.s with ⟨s1,s2,s3⟩|⟨s1,s2,s3⟩
 ·have k1:=zJ ha (show 0<= -v by omega);rw[xX]at k1;have k2:1*u<=b*u:=zN au s1;omega
 ·have k1:=zJ ha s2;have k2:1*(-u)<=b*(-u):=zN au au;simp only[xX]at k2;omega
def Eu.bv{x m a b u v:Int}(h:Eu x m a b u v)(ha:1<a): -m<=v/\v<=m:=by
 have hb:=h.b2;rcases h.s with ⟨s1,s2,s3⟩|⟨s1,s2,s3⟩
 ·have k1:=zJ (show 0<=b by omega) s1;have k2:1*(-v)<=a*(-v):=zN au au;simp only[xX]at k2;omega
 ·have k1:=zJ (show 0<=b by omega) (show 0<= -u by omega);rw[xX]at k1;have k2:1*v<=a*v:=zN au s2;omega
def aso{x m a b u v:Int}(hm:m<1152921504606846976)(hbm:b<=m)(h:Eu x m a b u v):∃b' u' v',LL (mQ.mk m a b u v)=V (mQ.mk m 1 b' u' v')/\m∣u'*x-1/\ -m<=u'/\u'<=m:=by
 obtain⟨z,e1,⟨a',b',u',v',rfl,hI,hb⟩,hs⟩:=mG (rnd:=LS) (λp=>∃a b u v,p=mQ.mk m a b u v/\Eu x m a b u v/\b<=m) (λp=>zq p.t5) (λp p' ⟨a,b,u,v,hp,hI,hbm⟩ hn=>by
  subst hp;unfold LS Gx at hn;simp only at hn;by_cases c:1<a
  ·have hN:=hI.next c;have q0:0<=b/a:=zS (by have:=hI.b2;omega) au;have q1:b/a<=b:=yl _ (by have:=hI.b2;omega);have e:=yW b a;rw[zQ]at e;have m0:=hN.a0;have m1:=hN.ab;have bv:=hI.bv c;have bn:=hN.bd;have hab:=hI.ab;rw[bX c,cK,gM,kM,aL (n:=b/a),aL (n:=b/a*a),aL (n:=b-b/a*a),aL (n:=b/a*u),aL (n:=v-b/a*u)]at hn;simp only[zF.injEq]at hn;subst hn;rw[show b-b/a*a=b%a by omega];exact⟨⟨b%a,a,_,_,rfl,hN,by have:=hI.ab;omega⟩,by show (b%a).toNat<a.toNat;omega⟩
  ·rw[bW c]at hn;cases hn) ⟨a,b,u,v,rfl,h,hbm⟩
 have hle:¬1<a':=λc=>by
  refine hs (mQ.mk m (ak (b'-ak (ak (b'.tdiv a')*a'))) a' (ak (v'-ak (ak (b'.tdiv a')*u'))) u') ?_;unfold LS Gx;simp only;rw[bX c,cK,gM]
 have a1:a'=1:=by
  have:=hI.a0;rcases (show a'=0\/a'=1 by omega)with rfl|rfl
  ·have g:=hI.g;rw[Int.gcd_zero_left]at g;have:=hI.b2;omega
  ·rfl
 subst a1;exact⟨b',u',v',e1,hI.du,hI.bd⟩
def ahp{x m:Int}(h0:0<=x)(h1:2<=m)(h2:m<1152921504606846976)(hg:yE x m=1):∃v:Int,ahx x m=V v/\0<=v/\v<m/\m∣v*x-1:=by
 have m0:=yX x (b:=m) au;have m1:=y6 x (b:=m) au;have e:=yW x m;obtain⟨b',u',v',e1,d1,d2,d3⟩:=aso (x:=x) (m:=m) (a:=x%m) (b:=m) (u:=1) (v:=0) h2 (zj _) ⟨m0,h1,m1,by
   have:=qY (a:=x) (b:=m) h0 au;rw[lE h0]at this;rw[Int.gcd_comm,this,hg],⟨x/m,au⟩,⟨-1,au⟩, .inl ⟨au,au,au⟩⟩
 unfold ahx Gx;rw[gM,lE h0,e1];simp only;rw[fD,ct,gM,gM];have t:=Int.mul_tdiv_add_tmod u' m;have tb:(u'.tmod m).natAbs<m.natAbs:=by rw[Int.natAbs_tmod];exact xe _ au
 rw[aL,lE];have ev:(u'.tmod m+m)%m=u'%m:=by
  conv=>rhs;rw[<-t]
  simp
 rw[ev];refine⟨u'%m,rfl,yX _ au,y6 _ au,?_⟩;have e2:=yW u' m;have:u'%m*x-1=u'*x-1-m*(u'/m*x):=by
  rw[<-yb];have:u'%m*x=u'*x-m*(u'/m)*x:=by
   rw[<-yD]
   congr 1
   omega
  omega
 rw[this];exact yz d1 (xN ..)
def afQ{x m:Int}(hm:1<=m):(x.tmod m+m).tmod m=x%m/\0<=x.tmod m+m/\x.tmod m+m<2*m/\ -m<x.tmod m:=by
 have t:=Int.mul_tdiv_add_tmod x m;have tb:(x.tmod m).natAbs<m.natAbs:=by rw[Int.natAbs_tmod];exact xe _ au
 refine⟨?_,au,au,au⟩;rw[lE,Int.add_emod_right]
 conv=>rhs;rw[<-t]
 simp
def KK(X Y Z:Int->Int)(sa P M K:Int):aa aK:=
 bif vn (M<K)then V jt else if¬P=(0:Int)then bif vn (K=ak (K+ak (ak ((ak (M-K)).tdiv P)*P)))then V (iY (X K))else V (aK.mk (Y K) (Z K) (ak (P*sa)))else G
def JA{X Y Z:Int->Int}{sa P M K:Int}(h1:1<=sa)(h2:1<=P)(h3:0<=K)(h4:M<=4398046511104)(h5:M*sa<=4398046511104):∃c,KK X Y Z sa P M K=V c/\fB c=vn (M<K):=by
 unfold KK;by_cases c:M<K
 ·rw[bX c];exact⟨cM,rfl,kT⟩
 ·rw[bW c,ct,gM];have q0:0<=(M-K)/P:=zS au au;have q1:(M-K)/P<=M-K:=yl _ au;have q2:(M-K)/P*P<=M-K:=xo _ au;have q3:0<=(M-K)/P*P:=zJ q0 au;rw[aL (n:=M-K),kM,aL (n:=(M-K)/P),aL (n:=(M-K)/P*P),aL (n:=K+(M-K)/P*P)];by_cases e:K=K+(M-K)/P*P
  ·rw[bX e];refine⟨iY (X K),rfl,eM λk=> ?_⟩;have k1:X K=1:=congrArg aK.ah k;have k2:X K=0:=congrArg aK.ag k;omega
  ·rw[bW e];refine⟨_,rfl,eM λk=> ?_⟩;have k3:ak (P*sa)=0:=congrArg aK.aj k;have q5:1<=(M-K)/P:=by
    rcases (show (M-K)/P=0\/1<=(M-K)/P by omega)with z|z
    ·simp_all
    ·exact z
   have q6:1*P<=(M-K)/P*P:=zN q5 au;have q7:P*sa<=M*sa:=zN au au;have q8:1*1<=P*sa:=yY h2 h1 au au;rw[aL]at k3;omega
def WZ(X Y Z:Int->Int)(sa P M L k:Int):aa aK:=
 if¬sa=(0:Int)then if¬sa=(0:Int)then bif vn (k<L)then if¬P=(0:Int)then KK X Y Z sa P M (ak (k+ak (ak ((ak (ak (ak (L-k)+P)-1)).tdiv P)*P)))else G else KK X Y Z sa P M k else G else G
def IN{X Y Z:Int->Int}{sa P M L k:Int}(h1:1<=sa)(h2:1<=P)(h3:0<=k)(hk:k<P)(hP:P<=4398046511104)(h4:M<=4398046511104)(h5:M*sa<=4398046511104)(hL:0<=L)(hL2:L<=4398046511104):
  ∃c,WZ X Y Z sa P M L k=V c/\(fB c=O↔∃j,L<=j/\j<=M/\P∣j-k):=by
 unfold WZ;rw[gM,gM];by_cases c:k<L
 ·have q0:0<=(L-k+P-1)/P:=zS au au;have q2:(L-k+P-1)/P*P<=L-k+P-1:=xo _ au;have q1:(L-k+P-1)/P<=L-k+P-1:=yl _ au;have q4:=vf (L-k+P-1) (show 0<P by omega);rw[zU,yc]at q4;rw[bX c,cK,gM,aL (n:=L-k),aL (n:=L-k+P),aL (n:=L-k+P-1),kM,aL (n:=(L-k+P-1)/P),aL (n:=(L-k+P-1)/P*P),aL (n:=k+(L-k+P-1)/P*P)];obtain⟨r,e,hr⟩:=JA (X:=X) (Y:=Y) (Z:=Z) (K:=k+(L-k+P-1)/P*P) h1 h2 au h4 h5;refine⟨r,e,?_⟩;rw[hr];constructor
  ·intro hd;have:=of_decide_eq_false hd;exact⟨k+(L-k+P-1)/P*P,au,au,by rw[show k+(L-k+P-1)/P*P-k=(L-k+P-1)/P*P by omega];exact xG ..⟩
  ·rintro⟨j,j1,j2,t,j3⟩;rw[zQ]at j3;refine bW ?_;have:(L-k+P-1)/P<=t:=by
    have:(L-k+P-1)/P<t+1:=wO (a:=P) (by rw[zU,yc];omega) au;omega
   have:=zN this (show 0<=P by omega);omega
 ·rw[bW c,ct];obtain⟨r,e,hr⟩:=JA (X:=X) (Y:=Y) (Z:=Z) (K:=k) h1 h2 h3 h4 h5;refine⟨r,e,?_⟩;rw[hr];constructor
  ·intro hd;have:=of_decide_eq_false hd;exact⟨k,au,au,⟨0,au⟩⟩
  ·rintro⟨j,j1,j2,t,j3⟩;rw[zQ]at j3;refine bW ?_;have:0<=t:=Decidable.byContradiction λh=>by
    have:t*P<= -1*P:=zN au au;omega
   have:=zJ this (show 0<=P by omega);omega
def mS{a b:aK}(ha:NN a)(hb:NN b)(h1:1<=a.aj)(x:Int):(bR a x/\bR b x)↔∃j:Int,x=a.ah+j*a.aj/\max a.ah b.ah<=x/\x<=min a.ag b.ag/\b.aj∣j*a.aj-(b.ah-a.ah):=by
 constructor
 ·rintro⟨⟨x1,x2,j,x3⟩,⟨z1,z2,z3⟩⟩;rw[zQ]at x3;grind
 ·rintro⟨j,e,h2,h3,h4⟩;refine⟨⟨au,au,⟨j,by rw[zQ];omega⟩⟩,⟨au,au,?_⟩⟩;rw[show x-b.ah=j*a.aj-(b.ah-a.ah)by omega];exact h4
def ou{lo s x low high j:Int}(hs:1<=s)(hl:lo<=low)(hx:x=lo+j*s):(low<=x/\x<=high)↔((low-lo+s-1)/s<=j/\j<=(high-lo)/s):=by
 have q2:(low-lo+s-1)/s*s<=low-lo+s-1:=xo _ au;have q4:=vf (low-lo+s-1) (show 0<s by omega);rw[zU,yc]at q4;constructor
 ·rintro⟨h1,h2⟩;refine⟨?_,Int.le_ediv_of_mul_le au au⟩;have:(low-lo+s-1)/s<j+1:=wO (a:=s) (by rw[zU,yc];omega) au;omega
 ·rintro⟨h1,h2⟩;have k1:=zN h1 (show 0<=s by omega);have k2:j*s<=high-lo:=xV (zN h2 au) (xo _ au);omega
def ako{a b:aK}(ha:NN a)(hb:NN b)(h1:1<=a.aj)(h2:1<=b.aj):∃c,ahX a b=V c/\(fB c=O↔∃x,bR a x/\bR b x):=by
 have a1:=ha.lo;have a2:=ha.hi;have a3:=ha.le;have a4:=ha.sle;have b1:=hb.lo;have b2:=hb.hi;have b3:=hb.le;have b4:=hb.sle;have g0:=lZ a.aj b.aj;have gl:=kI a.aj b.aj;have gr:=rY a.aj b.aj;have gpos:1<=cz a.aj b.aj:=by
  rcases (show cz a.aj b.aj=0\/1<=cz a.aj b.aj by omega)with z|z
  ·simp_all
  ·exact z
 have hcop:yE (a.aj/cz a.aj b.aj) (b.aj/cz a.aj b.aj)=1:=Int.gcd_ediv_gcd_ediv_gcd (show 0<yE a.aj b.aj by unfold cz at gpos;omega);unfold ahX;rw[HB au au];simp only;generalize cz a.aj b.aj=g at*;rw[show (if b.ag<a.ag then b.ag else a.ag)=min a.ag b.ag by split<;>omega,show (if a.ah<b.ah then b.ah else a.ah)=max a.ah b.ah by split<;>omega];by_cases c1:min a.ag b.ag<max a.ah b.ah
 ·rw[bX c1];refine⟨cM,rfl,?_⟩;rw[kT];exact⟨λk=>(by cases k),λ⟨x,x1,x2⟩=>by have:=x1.1;have:=x1.2.1;have:=x2.1;have:=x2.2.1;omega⟩
 ·rw[bW c1,ct,bB (show ¬@Eq Int g 0 by omega),aL (n:=b.ah-a.ah)];simp only;by_cases c2:(b.ah-a.ah).tmod g=0
  ·rw[bX c2];simp only[cK];have eA:ak (a.aj.tdiv g)=a.aj/g:=by
    have:=yl (a:=a.aj) g au;have:=zS (a:=a.aj) (b:=g) au au;rw[kM,aL]
   have eP:ak (b.aj.tdiv g)=b.aj/g:=by
    have:=yl (a:=b.aj) g au;have:=zS (a:=b.aj) (b:=g) au au;rw[kM,aL]
   have mA:a.aj/g*g=a.aj:=wm gl;have mP:b.aj/g*g=b.aj:=wm gr;have hA0:0<=a.aj/g:=zS au au;have hA1:a.aj/g<=a.aj:=yl _ au;have hP1:b.aj/g<=b.aj:=yl _ au;have hP0:1<=b.aj/g:=by
    have:0<=b.aj/g:=zS au au;rcases (show b.aj/g=0\/1<=b.aj/g by omega)with z|z
    ·rw[z,Int.zero_mul]at mP;omega
    ·exact z
   rw[eA,eP];obtain⟨D,hD⟩:=Int.dvd_of_tmod_eq_zero c2;have eD:(b.ah-a.ah).tdiv g=D:=by rw[hD];exact Int.mul_tdiv_cancel_left _ au
   have dnat:D.natAbs<=(b.ah-a.ah).natAbs:=by rw[<-eD,Int.natAbs_tdiv];exact Nat.div_le_self _ _
   rw[eD];generalize a.aj/g=A at*;generalize b.aj/g=P at*;have el:ak (ak (ak (max a.ah b.ah-a.ah)+a.aj)-1)=max a.ah b.ah-a.ah+a.aj-1:=by
    rw[aL (n:=max a.ah b.ah-a.ah),aL (n:=max a.ah b.ah-a.ah+a.aj),aL]
   have l0:0<=(max a.ah b.ah-a.ah+a.aj-1)/a.aj:=zS au au;have l1:(max a.ah b.ah-a.ah+a.aj-1)/a.aj<=max a.ah b.ah-a.ah+a.aj-1:=yl _ au;have h0:0<=(min a.ag b.ag-a.ah)/a.aj:=zS au au;have hh1:(min a.ag b.ag-a.ah)/a.aj<=min a.ag b.ag-a.ah:=yl _ au;have hh2:(min a.ag b.ag-a.ah)/a.aj*a.aj<=min a.ag b.ag-a.ah:=xo _ au;rw[el,aL (n:=min a.ag b.ag-a.ah),kM (a:=max a.ah b.ah-a.ah+a.aj-1) au,kM (a:=min a.ag b.ag-a.ah) au,
    aL (n:=(max a.ah b.ah-a.ah+a.aj-1)/a.aj),aL (n:=(min a.ag b.ag-a.ah)/a.aj)]
   have cm:∀k,P∣k*A-D↔b.aj∣k*a.aj-(b.ah-a.ah):=λk=>by
    have e:k*a.aj-(b.ah-a.ah)=(k*A-D)*g:=by rw[hD,<-mA,yD,yb,zQ D g]
    rw[e,<-mP];exact⟨λh=>Int.mul_dvd_mul_right _ h,λh=>Int.dvd_of_mul_dvd_mul_right au h⟩
   have fin:∀k0,(∀k,P∣k*A-D↔P∣k-k0)->((∃j,(max a.ah b.ah-a.ah+a.aj-1)/a.aj<=j/\j<=(min a.ag b.ag-a.ah)/a.aj/\P∣j-k0)↔∃x,bR a x/\bR b x):=λk0 hk=>by
    constructor
    ·rintro⟨j,j1,j2,j3⟩;have r:=(ou (lo:=a.ah) (s:=a.aj) (low:=max a.ah b.ah) (high:=min a.ag b.ag) (j:=j) h1 au rfl).mpr ⟨j1,j2⟩;exact⟨_,(mS ha hb h1 _).mpr ⟨j,rfl,r.1,r.2,(cm j).mp ((hk j).mpr j3)⟩⟩
    ·rintro⟨x,hx⟩;obtain⟨j,e,x1,x2,x3⟩:=(mS ha hb h1 x).mp hx;have r:=(ou (lo:=a.ah) (s:=a.aj) (low:=max a.ah b.ah) (high:=min a.ag b.ag) (j:=j) h1 au e).mp ⟨x1,x2⟩;exact⟨j,r.1,r.2,(hk j).mp ((cm j).mpr x3)⟩
   rw[bB (show ¬@Eq Int g 0 by omega)];by_cases c3:1<P
   ·rw[bX c3,cK,bB (show ¬@Eq Int g 0 by omega),gM,gM,bB (show ¬@Eq Int g 0 by omega),gM];have m0:=yX A (b:=P) au;have m1:=y6 A (b:=P) au;have hg:yE (A%P) P=1:=by
     have:=qY (a:=A) (b:=P) hA0 au;rw[lE hA0]at this;rw[Int.gcd_comm,this,hcop]
    obtain⟨v,e1,v0,v1,v2⟩:=ahp (x:=A%P) (m:=P) m0 au au hg;rw[lE hA0,e1];simp only;obtain⟨f1,f2,f3,f4⟩:=afQ (x:=D) (m:=P) au;have d0:=yX D (b:=P) au;have d1:=y6 D (b:=P) au;rw[aL (n:=D),aL (n:=D.tmod P+P),f1,auP d0 d1 v0 v1 au];simp only;have k0:=yX (D%P*v) (b:=P) au;have k1:=y6 (D%P*v) (b:=P) au;have vA:P∣v*A-1:=by
     have e:=yW A P;have t:v*A-1=v*(A%P)-1+P*(v*(A/P)):=by
      conv=>lhs;rw[<-e]
      rw[xF,Int.mul_left_comm v P];omega
     rw[t];exact yZ v2 (xN ..)
    have hk:∀k,P∣k*A-D↔P∣k-D%P*v%P:=λk=>by
     have e1:P∣D*v-D%P*v%P:=by
      have t1:=yW (D%P*v) P;have t2:=yW D P;have:D*v-D%P*v%P=P*(D/P*v)+P*(D%P*v/P):=by
       have:D*v=P*(D/P*v)+D%P*v:=by
        conv=>lhs;rw[<-t2]
        rw[zU,yb]
       omega
      rw[this];exact yZ (xN ..) (xN ..)
     constructor
     ·intro h;have t:=yz (zZ h (xN _ v)) (zZ vA (xN _ k));have t2:(k*A-D)*v-(v*A-1)*k=k-D*v:=by
       rw[yD,yD,yc,yb,zQ (v*A) k,zQ A v];omega
      rw[t2]at t;have:=yZ t e1
      rwa [show k-D*v+(D*v-D%P*v%P)=k-D%P*v%P by omega]at this
     ·intro h;have t:=yz h e1;rw[show k-D%P*v%P-(D*v-D%P*v%P)=k-D*v by omega]at t;have t2:=yZ (zZ t (xN _ A)) (zZ vA (xN _ D));have t3:(k-D*v)*A+(v*A-1)*D=k*A-D:=by
       rw[yD,yD,yc,yb,zQ (v*A) D];omega
      rwa [t3]at t2
    obtain⟨c,e,hc⟩:=IN (X:=λK=>ak (a.ah+ak (K*a.aj))) (Y:=λK=>ak (a.ah+ak (K*a.aj))) (Z:=λK=>ak (a.ah+ak (ak (K+ak (ak ((ak ((min a.ag b.ag-a.ah)/a.aj-K)).tdiv P)*P))*a.aj)))
     h1 hP0 k0 k1 au (M:=(min a.ag b.ag-a.ah)/a.aj) au au l0 au
    exact⟨c,e,hc.trans (fin _ hk)⟩
   ·have p1:P=1:=au;rw[bW c3,ct];obtain⟨c,e,hc⟩:=IN (X:=λK=>ak (a.ah+ak (K*a.aj))) (Y:=λK=>ak (a.ah+ak (K*a.aj))) (Z:=λK=>ak (a.ah+ak (ak (K+ak (ak ((ak ((min a.ag b.ag-a.ah)/a.aj-K)).tdiv P)*P))*a.aj)))
     h1 hP0 (k:=0) au au au (M:=(min a.ag b.ag-a.ah)/a.aj) au au l0 au
    exact⟨c,e,hc.trans (fin 0 λk=>by subst p1;exact⟨λ_=>Int.one_dvd _,λ_=>Int.one_dvd _⟩)⟩
  ·rw[bW c2];refine⟨cM,rfl,?_⟩;rw[kT];refine⟨λk=>(by cases k),λ⟨x,hx⟩=> ?_⟩;obtain⟨j,e,x1,x2,x3⟩:=(mS ha hb h1 x).mp hx;exfalso;apply c2;have k1:=zZ gr x3;have k2:=yz (zZ gl (xG j _)) k1;rw[show j*a.aj-(j*a.aj-(b.ah-a.ah))=b.ah-a.ah by omega]at k2;exact Int.tmod_eq_zero_of_dvd k2
def FJ{a:aK}(h:NN a)(h0:a.aj=0)(x:Int):bR a x↔x=a.ah:=by
 constructor
 ·rintro⟨h1,h2,h3⟩;rw[h0]at h3;have:=Int.zero_dvd.mp h3;omega
 ·rintro rfl;exact di h
def GZ{M:aK->aK->aa aK}{a b:aK}(ha:NN a)(hb:NN b)(h0:a.aj=0):∃c,Be M a b=V c/\(fB c=O↔∃x,bR a x/\bR b x):=by
 unfold Be;rw[eM ha.ne,eM hb.ne];simp only[ct];rw[bX h0,cK,ME (.inr hb)];simp only;by_cases h:bR b a.ah
 ·rw[nX h];exact⟨a,rfl,λ_=>⟨_,di ha,h⟩,λ_=>eM ha.ne⟩
 ·rw[jH h];refine⟨cM,rfl,λk=> ?_,λ⟨x,h1,h2⟩=> ?_⟩
  ·rw[kT]at k;cases k
  ·rw[(FJ ha h0 x).mp h1]at h2;exact dS h2 h
def ag6{a b:aK}(ha:NN a)(hb:NN b):∃c,amh a b=V c/\(fB c=O↔∃x,bR a x/\bR b x):=by
 have cm:(∃x,bR b x/\bR a x)↔∃x,bR a x/\bR b x:=⟨λ⟨x,h1,h2⟩=>⟨x,h2,h1⟩,λ⟨x,h1,h2⟩=>⟨x,h2,h1⟩⟩;have s0:=ha.s0;have t0:=hb.s0;by_cases h0:a.aj=0
 ·obtain⟨c,e,h⟩:=GZ (M:=λ_ _=>G) ha hb h0;refine⟨c,eG 1 λn hn=> ?_,h⟩;obtain⟨k,rfl⟩:∃k,n=k+1:=⟨n-1,au⟩;obtain⟨c',e',h'⟩:=GZ (M:=DF k) ha hb h0;have:Be (DF k) a b=Be (λ_ _=>G) a b:=by
   unfold Be;rw[eM ha.ne,eM hb.ne];simp only[ct];rw[bX h0];simp only[cK]
  exact this.trans e
 ·by_cases k0:b.aj=0
  ·obtain⟨c,e,h⟩:=GZ (M:=λ_ _=>G) hb ha k0;refine⟨c,eG 2 λn hn=> ?_,h.trans cm⟩;obtain⟨k,rfl⟩:∃k,n=k+1+1:=⟨n-2,au⟩;have:Be (DF k) b a=Be (λ_ _=>G) b a:=by
    unfold Be;rw[eM ha.ne,eM hb.ne];simp only[ct];rw[bX k0];simp only[cK]
   have e1:DF (k+1) b a=V c:=this.trans e;show Be (DF (k+1)) a b=V c;unfold Be;rw[eM ha.ne,eM hb.ne];simp only[ct];rw[bW h0,ct,bX k0,cK,e1]
  ·obtain⟨c,e,h⟩:=ako ha hb au au;refine⟨c,eG 1 λn hn=> ?_,h⟩;obtain⟨k,rfl⟩:∃k,n=k+1:=⟨n-1,au⟩;show Be (DF k) a b=V c;unfold Be;rw[eM ha.ne,eM hb.ne];simp only[ct];rw[bW h0,ct,bW k0,ct,e]
def Wc{a:aK}(h:NN a)(k:1<bY a):1<=a.aj:=by
 have:=mK h;rcases h.st with ⟨e,_⟩|⟨_,e,_⟩
 ·omega
 ·exact e
def early{a b:aK}(ha:NN a)(hb:NN b)(h1:1<=a.aj)(h2:1<=b.aj){low high:Int}(el:low=max a.ah b.ah)(eh:high=min a.ag b.ag):
  (∃x,bR a x/\bR b x)↔∃k:Nat,(k:Int)<b.aj/cz a.aj b.aj/\a.ah+((low-a.ah+a.aj-1)/a.aj)*a.aj+(k:Int)*a.aj<=high/\bR b (a.ah+((low-a.ah+a.aj-1)/a.aj)*a.aj+(k:Int)*a.aj):=by
 have gl:=kI a.aj b.aj;have gr:=rY a.aj b.aj;have g0:=lZ a.aj b.aj;have mP:b.aj/cz a.aj b.aj*cz a.aj b.aj=b.aj:=wm gr;have hP0:1<=b.aj/cz a.aj b.aj:=by
  have:0<=b.aj/cz a.aj b.aj:=zS au au;rcases (show b.aj/cz a.aj b.aj=0\/1<=b.aj/cz a.aj b.aj by omega)with z|z
  ·rw[z,Int.zero_mul]at mP;omega
  ·exact z
 have per:b.aj∣b.aj/cz a.aj b.aj*a.aj:=by
  obtain⟨q,hq⟩:=gl;generalize cz a.aj b.aj=g at*;rw[hq,<-yb,mP];simp
 generalize b.aj/cz a.aj b.aj=P at*;subst el eh;generalize hL:(max a.ah b.ah-a.ah+a.aj-1)/a.aj=L;constructor
 ·rintro⟨x,hx⟩;obtain⟨j,e,x1,x2,x3⟩:=(mS ha hb h1 x).mp hx;have r:=(ou (lo:=a.ah) (s:=a.aj) (low:=max a.ah b.ah) (high:=min a.ag b.ag) (j:=j) h1 au e).mp ⟨x1,x2⟩;have m0:=yX (j-L) (b:=P) au;have m1:=y6 (j-L) (b:=P) au;have m2:=yW (j-L) P;have q0:0<=(j-L)/P:=zS au au;have ex:a.ah+L*a.aj+(j-L)%P*a.aj=x-(j-L)/P*(P*a.aj):=by
   have:j*a.aj=(P*((j-L)/P)+(j-L)%P+L)*a.aj:=by congr 1;omega
   rw[zU,zU,zQ P,yb]at this;omega
  have r2:=(ou (lo:=a.ah) (s:=a.aj) (low:=max a.ah b.ah) (high:=min a.ag b.ag) (x:=a.ah+(L+(j-L)%P)*a.aj) (j:=L+(j-L)%P) h1 au rfl).mpr
   ⟨by rw[hL];omega,by
    have:(j-L)%P<=j-L:=by
     have:=zJ (show 0<=P by omega) q0;omega
    omega⟩
  rw[zU,<-Int.add_assoc]at r2;refine⟨((j-L)%P).toNat,au,?_⟩;rw[Int.toNat_of_nonneg m0];refine⟨r2.2,au,au,?_⟩;rw[ex,show x-(j-L)/P*(P*a.aj)-b.ah=x-b.ah-(j-L)/P*(P*a.aj)by omega];exact yz hx.2.2.2 (zZ per (xG ..))
 ·rintro⟨k,k1,k2,k3⟩;have e:a.ah+L*a.aj+(k:Int)*a.aj=a.ah+(L+(k:Int))*a.aj:=by rw[zU];omega
  rw[e]at k2 k3;have l0:=(ou (lo:=a.ah) (s:=a.aj) (low:=max a.ah b.ah) (high:=a.ah+(L+(k:Int))*a.aj) (x:=a.ah+(L+(k:Int))*a.aj) (j:=L+(k:Int)) h1 au rfl).mpr
   ⟨by rw[hL];omega,by rw[show a.ah+(L+(k:Int))*a.aj-a.ah=(L+(k:Int))*a.aj by omega,Int.mul_ediv_cancel _ au];exact zj _⟩
  exact⟨_,(mS ha hb h1 _).mpr ⟨_,rfl,l0.1,k2,by
   have:=k3.2.2
   rwa [show a.ah+(L+(k:Int))*a.aj-b.ah=(L+(k:Int))*a.aj-(b.ah-a.ah)by omega]at this⟩⟩
def SH{g P k n high sb:Int}(hg:1<=g)(hP:ak (sb.tdiv g)=P):(if¬g=(0:Int)then bif vn (k<ak (sb.tdiv g))then V (vn (n<=high))else V O else G)=V (vn (k<P/\n<=high)):=by
 rw[gM,hP];by_cases c:k<P
 ·rw[bX c,cK];by_cases d:n<=high
  ·rw[bX d,bX ⟨c,d⟩]
  ·rw[bW d,bW (λe=>d e.2)]
 ·rw[bW c,ct,bW (λe=>c e.1)]
def aoc{M:aK->aK->aa Bool}{a b:aK}(hb:NN b){g P high n0:Int}(hg:1<=g)(hP:ak (b.aj.tdiv g)=P)(hP1:P<=4398046511104)(hs:1<=a.aj)(hs2:a.aj<=4398046511104)(hh:high<=1099511627776)(hn: -1099511627776<=n0)(hP0:0<=P):
  (match pX M (jA.mk high g n0 0 a b)with
   |none=>G
   |some r10=>match if¬r10.t7=(0:Int)then bif vn (r10.t9<ak (r10.b1.aj.tdiv r10.t7))then V (vn (r10.t8<=r10.t6))else V O else G with
    |none=>G
    |some r11=>bif r11 then match m32 r10.b1 r10.t8 with
     |none=>G
     |some r12=>bif r12 then V J else G
     else V O)=V (open Classical in vn (∃k:Nat,(k:Int)<P/\n0+(k:Int)*a.aj<=high/\bR b (n0+(k:Int)*a.aj))):=by
 obtain⟨z,e1,⟨k,rfl,hk,hI⟩,hstop⟩:=mG (rnd:=Dv M) (λp=>∃k:Nat,p=jA.mk high g (n0+(k:Int)*a.aj) (k:Int) a b/\(k:Int)<=P/\∀i:Nat,i<k->¬bR b (n0+(i:Int)*a.aj))
  (λp=>(P-p.t9).toNat) (λp p' ⟨k,hp,hk,hI⟩ hq=>by
   subst hp;have hq:Dv M (jA.mk high g (n0+(k:Int)*a.aj) (k:Int) a b)=V (V p'):=hq;unfold Dv at hq;simp only at hq;rw[SH hg hP]at hq;by_cases c:(k:Int)<P/\n0+(k:Int)*a.aj<=high
   ·rw[bX c]at hq;simp only[cK]at hq;rw[jV (.inr hb)]at hq;simp only at hq;by_cases d:bR b (n0+(k:Int)*a.aj)
    ·rw[nX d]at hq;cases hq
    ·rw[jH d]at hq;have k0:0<=(k:Int)*a.aj:=zJ au au;rw[ct,aL (n:=n0+(k:Int)*a.aj+a.aj),aL (n:=(k:Int)+1)]at hq;simp only[zF.injEq]at hq;subst hq;refine⟨⟨k+1,?_,au,λi hi=> ?_⟩,by show (P-((k:Int)+1)).toNat<(P-(k:Int)).toNat;omega⟩
     ·rw[show ((k+1:Nat):Int)=(k:Int)+1 by omega,zU,yc,Int.add_assoc]
     ·rcases xk.mp hi with q|rfl
      ·exact hI i q
      ·exact d
   ·rw[bW c]at hq;cases hq) (p:=jA.mk high g n0 0 a b) ⟨0,by simp,by simpa using hP0,λi hi=>dS hi (y7 _)⟩
 rw[show pX M=bI (Dv M)from rfl,e1];simp only;rw[SH hg hP];by_cases c:(k:Int)<P/\n0+(k:Int)*a.aj<=high
 ·rw[bX c];simp only[cK];rw[jV (.inr hb)];simp only;by_cases d:bR b (n0+(k:Int)*a.aj)
  ·rw[nX d,cK]
   congr 1
   exact(@decide_eq_true _ (Classical.propDecidable _) ⟨k,c.1,c.2,d⟩).symm
  ·exfalso;refine hstop (jA.mk high g (ak (n0+(k:Int)*a.aj+a.aj)) (ak ((k:Int)+1)) a b) ?_;unfold Dv;simp only;rw[SH hg hP,bX c];simp only[cK];rw[jV (.inr hb),jH d];rfl
 ·rw[bW c];simp only[ct]
  congr 1
  refine(@decide_eq_false _ (Classical.propDecidable _) ?_).symm;rintro⟨i,i1,i2,i3⟩;rcases Nat.lt_or_ge i k with q|q
  ·exact hI i q i3
  ·apply c;have:(k:Int)*a.aj<=(i:Int)*a.aj:=zN au au;exact⟨au,au⟩
def iR(a b:aK):Bool:=open Classical in vn (∃x,bR a x/\bR b x)
def jh{a b:aK}:iR a b=J↔∃x,bR a x/\bR b x:=by unfold iR;exact @decide_eq_true_iff _ (Classical.propDecidable _)
def o4{a b:aK}(h:¬∃x,bR a x/\bR b x):iR a b=O:=by
 cases e:iR a b with
 |false=>rfl
 |true=>exact dS (jh.mp e) h
def Th(a b:aK):iR a b=iR b a:=by
 by_cases h:∃x,bR a x/\bR b x
 ·obtain⟨x,h1,h2⟩:=h;rw[jh.mpr ⟨x,h1,h2⟩,jh.mpr ⟨x,h2,h1⟩]
 ·rw[o4 h,o4 (λ⟨x,h1,h2⟩=>h ⟨x,h2,h1⟩)]
def ES{M:aK->aK->aa Bool}{a b:aK}(ha:NN a)(hb:NN b)(h1:1<=a.aj)(h2:1<=b.aj){low high:Int}(el:low=max a.ah b.ah)(eh:high=min a.ag b.ag):
  (match FQ a.aj b.aj with
   |none=>G
   |some r8=>match bif vn (high<low)then V J else if¬r8=(0:Int)then V (bif vn (Int.tmod (jO a.ah b.ah) r8=0)then O else J)else G with
    |none=>G
    |some r9=>bif r9 then V O else if¬a.aj=(0:Int)then
     match pX M (jA.mk high r8 (ak (a.ah+ak (ak ((ak (ak (ak (low-a.ah)+a.aj)-1)).tdiv a.aj)*a.aj))) 0 a b)with
     |none=>G
     |some r10=>match if¬r10.t7=(0:Int)then bif vn (r10.t9<ak (r10.b1.aj.tdiv r10.t7))then V (vn (r10.t8<=r10.t6))else V O else G with
      |none=>G
      |some r11=>bif r11 then match m32 r10.b1 r10.t8 with
       |none=>G
       |some r12=>bif r12 then V J else G
       else V O
     else G)=V (iR a b):=by
 have a1:=ha.lo;have a2:=ha.hi;have a3:=ha.le;have a4:=ha.sle;have b1:=hb.lo;have b2:=hb.hi;have b3:=hb.le;have b4:=hb.sle;have gl:=kI a.aj b.aj;have gr:=rY a.aj b.aj;have g0:=lZ a.aj b.aj;have gpos:1<=cz a.aj b.aj:=by
  rcases (show cz a.aj b.aj=0\/1<=cz a.aj b.aj by omega)with z|z
  ·simp_all
  ·exact z
 have hE:=early ha hb h1 h2 el eh;rw[Eo au au];simp only;by_cases c1:high<low
 ·rw[bX c1,o4 (λ⟨x,x1,x2⟩=>by have:=x1.1;have:=x1.2.1;have:=x2.1;have:=x2.2.1;omega)];rfl
 ·rw[bW c1,ct,bB (show ¬@Eq Int (cz a.aj b.aj) 0 by omega)];simp only;by_cases c2:Int.tmod (jO a.ah b.ah) (cz a.aj b.aj)=0
  ·rw[bX c2];simp only[cK];have l1:(low-a.ah+a.aj-1)/a.aj<=low-a.ah+a.aj-1:=yl _ au;have l0:0<=(low-a.ah+a.aj-1)/a.aj:=zS au au;have l2:(low-a.ah+a.aj-1)/a.aj*a.aj<=low-a.ah+a.aj-1:=xo _ au;have l3:0<=(low-a.ah+a.aj-1)/a.aj*a.aj:=zJ l0 au;have p0:0<=b.aj/cz a.aj b.aj:=zS au au;have p1:b.aj/cz a.aj b.aj<=b.aj:=yl _ au;have eP:ak (b.aj.tdiv (cz a.aj b.aj))=b.aj/cz a.aj b.aj:=by
    rw[kM,aL]
   rw[gM,aL (n:=low-a.ah),aL (n:=low-a.ah+a.aj),aL (n:=low-a.ah+a.aj-1),kM,
    aL (n:=(low-a.ah+a.aj-1)/a.aj),aL (n:=(low-a.ah+a.aj-1)/a.aj*a.aj),aL (n:=a.ah+(low-a.ah+a.aj-1)/a.aj*a.aj)]
   refine(aoc hb gpos eP au h1 au au au p0).trans ?_
   congr 1
   by_cases h:∃x,bR a x/\bR b x
   ·rw[jh.mpr h];exact @decide_eq_true _ (Classical.propDecidable _) (hE.mp h)
   ·rw[o4 h];exact @decide_eq_false _ (Classical.propDecidable _) (λk=>h (hE.mpr k))
  ·have hno:¬∃x,bR a x/\bR b x:=by
    rintro⟨x,x1,x2⟩;apply c2;have k1:=zZ gl x1.2.2;have k2:=zZ gr x2.2.2;have k3:=yz k2 k1;rw[show x-b.ah-(x-a.ah)=a.ah-b.ah by omega]at k3;apply Int.tmod_eq_zero_of_dvd;unfold jO;by_cases c:a.ah<b.ah
    ·rw[bX c,cK,aL];have:=Int.dvd_neg.mpr k3
     rwa [show-(a.ah-b.ah)=b.ah-a.ah by omega]at this
    ·rw[bW c,ct,aL];exact k3
   rw[bW c2,o4 hno];rfl
def Wi{M:aK->aK->aa Bool}{a b:aK}(ha:NN a)(hb:NN b)(hs:bY a<=bY b):ZE M a b=V (iR a b):=by
 unfold ZE;rw[eE (.inr ha),eE (.inr hb)];simp only;rw[bW (show ¬@LT.lt Int _ (bY b) (bY a)by omega),ct];have hp:=size_pos ha;by_cases c:bY a=1
 ·rw[bX c,cK,jV (.inr hb)];have e:=(mK ha).mp c;have s:a.aj=0:=by rcases ha.st with k|k;exact k.2;omega
  by_cases h:bR b a.ah
  ·rw[nX h,jh.mpr ⟨_,di ha,h⟩]
  ·rw[jH h,o4 (λ⟨x,x1,x2⟩=>h (by rw[<-(FJ ha s x).mp x1];exact x2))]
 ·rw[bW c,ct];have h1:=Wc ha au;have h2:=Wc hb au;by_cases d:a.ah<b.ah<;>by_cases e:b.ag<a.ag
  ·rw[bX d,bX e];exact ES ha hb h1 h2 au au
  ·rw[bX d,bW e];exact ES ha hb h1 h2 au au
  ·rw[bW d,bX e];exact ES ha hb h1 h2 au au
  ·rw[bW d,bW e];exact ES ha hb h1 h2 au au
def ag9{a b:aK}(ha:NN a)(hb:NN b):aep a b=V (iR a b):=eG 2 λn hn=>by
 obtain⟨k,rfl⟩:∃k,n=k+1+1:=⟨n-2,au⟩;by_cases hs:bY a<=bY b
 ·exact Wi (M:=Jx (k+1)) ha hb hs
 ·have e1:Jx (k+1) b a=V (iR b a):=Wi (M:=Jx k) hb ha au;show ZE (Jx (k+1)) a b=_;unfold ZE;rw[eE (.inr ha),eE (.inr hb)];simp only;rw[bX (show @LT.lt Int _ (bY b) (bY a)by omega),cK,e1,Th]
def lD(a b:aK):Bool:=vn (1<bY a)||vn (1<bY b)||vn (a.ah≠b.ah)
def s8{a:aK}(h:NN a)(k:¬1<bY a):a.ah=a.ag:=(mK h).mp (by have:=size_pos h;omega)
def Kk{a b:aK}(ha:NN a)(hb:NN b):lD a b=J↔∃x z,bR a x/\bR b z/\x≠z:=by
 unfold lD;by_cases c1:1<bY a
 ·rw[bX c1];refine⟨λ_=> ?_,λ_=>rfl⟩;have:a.ah≠a.ag:=λe=>by have:=(mK ha).mpr e;omega
  by_cases e:a.ah=b.ah
  ·exact⟨_,_,gv ha,di hb,au⟩
  ·exact⟨_,_,di ha,di hb,e⟩
 ·by_cases c2:1<bY b
  ·rw[bW c1,bX c2];refine⟨λ_=> ?_,λ_=>rfl⟩;have:b.ah≠b.ag:=λe=>by have:=(mK hb).mpr e;omega
   by_cases e:a.ah=b.ah
   ·exact⟨_,_,di ha,gv hb,au⟩
   ·exact⟨_,_,di ha,di hb,e⟩
  ·have e1:=s8 ha c1;have e2:=s8 hb c2;by_cases e:a.ah=b.ah
   ·rw[bW c1,bW c2,bW (λk=>k e)];exact⟨λk=>(by cases k),λ⟨x,z,hx,hz,k⟩=>by have:=hx.1;have:=hx.2.1;have:=hz.1;have:=hz.2.1;omega⟩
   ·rw[bW c1,bW c2,bX e];exact⟨λ_=>⟨_,_,di ha,di hb,e⟩,λ_=>rfl⟩
def AQ(op:Int)(a b:aK):Bool×Bool:=
 if op=13 then(lD a b,iR a b)else if op=14 then(iR a b,lD a b)
 else if op=15 then(vn (b.ah<=a.ag),vn (a.ah<b.ag))else if op=16 then(vn (b.ah<a.ag),vn (a.ah<=b.ag))
 else if op=17 then(vn (a.ah<=b.ag),vn (b.ah<a.ag))else if op=18 then(vn (a.ah<b.ag),vn (b.ah<=a.ag))
 else if op=19 then(cR a 0||cR b 0,cA a&&cA b)else(cR a 0&&cR b 0,cA a||cA b)
def By(op:Int):Prop:=13<=op/\op<=20
def rK(p:Bool):oT p=1↔p=true:=by cases p<;>decide
def uc(p:Bool):oT p=0↔p=false:=by cases p<;>decide
def ji{op:Int}(h:By op):op=13\/op=14\/op=15\/op=16\/op=17\/op=18\/op=19\/op=20:=by
 obtain⟨h1,h2⟩:=h;omega
def GM{op:Int}(h:By op)(x z:Int):fP op x z=0\/fP op x z=1:=by
 have k:∀p:Bool,oT p=0\/oT p=1:=λp=>by cases p<;>decide
 rcases ji h with rfl|rfl|rfl|rfl|rfl|rfl|rfl|rfl<;>exact k _
def Yd{op:Int}{a b:aK}(h:By op)(ha:NN a)(hb:NN b):(AQ op a b).2=J↔∃x z,bR a x/\bR b z/\fP op x z=1:=by
 rcases ji h with rfl|rfl|rfl|rfl|rfl|rfl|rfl|rfl
 ·show iR a b=J↔∃x z,bR a x/\bR b z/\oT (vn (x=z))=1;rw[jh];exact⟨λ⟨x,h1,h2⟩=>⟨x,x,h1,h2,by rw[rK];exact bX rfl⟩,λ⟨x,z,h1,h2,h3⟩=>by
   rw[rK]at h3;have:=of_decide_eq_true h3;subst this;exact⟨x,h1,h2⟩⟩
 ·show lD a b=J↔∃x z,bR a x/\bR b z/\oT (!vn (x=z))=1;rw[Kk ha hb];exact⟨λ⟨x,z,h1,h2,h3⟩=>⟨x,z,h1,h2,by rw[rK,bW h3];rfl⟩,λ⟨x,z,h1,h2,h3⟩=>⟨x,z,h1,h2,λe=>by rw[rK,bX e]at h3;cases h3⟩⟩
 ·show vn (a.ah<b.ag)=J↔∃x z,bR a x/\bR b z/\oT (vn (x<z))=1;refine⟨λk=>⟨_,_,di ha,gv hb,by rw[rK];exact k⟩,λ⟨x,z,h1,h2,h3⟩=> ?_⟩;rw[rK]at h3;have:=of_decide_eq_true h3;exact bX (by have:=h1.1;have:=h2.2.1;omega)
 ·show vn (a.ah<=b.ag)=J↔∃x z,bR a x/\bR b z/\oT (vn (x<=z))=1;refine⟨λk=>⟨_,_,di ha,gv hb,by rw[rK];exact k⟩,λ⟨x,z,h1,h2,h3⟩=> ?_⟩;rw[rK]at h3;have:=of_decide_eq_true h3;exact bX (by have:=h1.1;have:=h2.2.1;omega)
 ·show vn (b.ah<a.ag)=J↔∃x z,bR a x/\bR b z/\oT (vn (z<x))=1;refine⟨λk=>⟨_,_,gv ha,di hb,by rw[rK];exact k⟩,λ⟨x,z,h1,h2,h3⟩=> ?_⟩;rw[rK]at h3;have:=of_decide_eq_true h3;exact bX (by have:=h1.2.1;have:=h2.1;omega)
 ·show vn (b.ah<=a.ag)=J↔∃x z,bR a x/\bR b z/\oT (vn (z<=x))=1;refine⟨λk=>⟨_,_,gv ha,di hb,by rw[rK];exact k⟩,λ⟨x,z,h1,h2,h3⟩=> ?_⟩;rw[rK]at h3;have:=of_decide_eq_true h3;exact bX (by have:=h1.2.1;have:=h2.1;omega)
 ·show (cA a&&cA b)=J↔∃x z,bR a x/\bR b z/\oT (vn (x≠0/\z≠0))=1;rw[zi,mw (.inr ha),mw (.inr hb)];constructor
  ·rintro⟨⟨x,h1,h2⟩,⟨z,h3,h4⟩⟩;exact⟨x,z,h1,h3,by rw[rK];exact bX ⟨h2,h4⟩⟩
  ·rintro⟨x,z,h1,h2,h3⟩;rw[rK]at h3;have:=of_decide_eq_true h3;exact⟨⟨x,h1,this.1⟩,⟨z,h2,this.2⟩⟩
 ·show (cA a||cA b)=J↔∃x z,bR a x/\bR b z/\oT (vn (x≠0\/z≠0))=1;rw[yC,mw (.inr ha),mw (.inr hb)];constructor
  ·rintro(⟨x,h1,h2⟩|⟨z,h3,h4⟩)
   ·exact⟨x,_,h1,di hb,by rw[rK];exact bX (.inl h2)⟩
   ·exact⟨_,z,di ha,h3,by rw[rK];exact bX (.inr h4)⟩
  ·rintro⟨x,z,h1,h2,h3⟩;rw[rK]at h3;rcases of_decide_eq_true h3 with k|k
   ·exact .inl ⟨x,h1,k⟩
   ·exact .inr ⟨z,h2,k⟩
def adm{op:Int}{a b:aK}(h:By op)(ha:NN a)(hb:NN b):(AQ op a b).1=J↔∃x z,bR a x/\bR b z/\fP op x z=0:=by
 rcases ji h with rfl|rfl|rfl|rfl|rfl|rfl|rfl|rfl
 ·show lD a b=J↔∃x z,bR a x/\bR b z/\oT (vn (x=z))=0;rw[Kk ha hb];exact⟨λ⟨x,z,h1,h2,h3⟩=>⟨x,z,h1,h2,by rw[uc];exact bW h3⟩,λ⟨x,z,h1,h2,h3⟩=>⟨x,z,h1,h2,λe=>by rw[uc,bX e]at h3;cases h3⟩⟩
 ·show iR a b=J↔∃x z,bR a x/\bR b z/\oT (!vn (x=z))=0;rw[jh];exact⟨λ⟨x,h1,h2⟩=>⟨x,x,h1,h2,by rw[uc,bX rfl];rfl⟩,λ⟨x,z,h1,h2,h3⟩=>by
   by_cases e:x=z
   ·subst e;exact⟨x,h1,h2⟩
   ·rw[bW e]at h3;cases h3⟩
 ·show vn (b.ah<=a.ag)=J↔∃x z,bR a x/\bR b z/\oT (vn (x<z))=0;refine⟨λk=>⟨_,_,gv ha,di hb,by rw[uc];exact bW (by have:=of_decide_eq_true k;omega)⟩,λ⟨x,z,h1,h2,h3⟩=> ?_⟩;rw[uc]at h3;have:=of_decide_eq_false h3;exact bX (by have:=h1.2.1;have:=h2.1;omega)
 ·show vn (b.ah<a.ag)=J↔∃x z,bR a x/\bR b z/\oT (vn (x<=z))=0;refine⟨λk=>⟨_,_,gv ha,di hb,by rw[uc];exact bW (by have:=of_decide_eq_true k;omega)⟩,λ⟨x,z,h1,h2,h3⟩=> ?_⟩;rw[uc]at h3;have:=of_decide_eq_false h3;exact bX (by have:=h1.2.1;have:=h2.1;omega)
 ·show vn (a.ah<=b.ag)=J↔∃x z,bR a x/\bR b z/\oT (vn (z<x))=0;refine⟨λk=>⟨_,_,di ha,gv hb,by rw[uc];exact bW (by have:=of_decide_eq_true k;omega)⟩,λ⟨x,z,h1,h2,h3⟩=> ?_⟩;rw[uc]at h3;have:=of_decide_eq_false h3;exact bX (by have:=h1.1;have:=h2.2.1;omega)
 ·show vn (a.ah<b.ag)=J↔∃x z,bR a x/\bR b z/\oT (vn (z<=x))=0;refine⟨λk=>⟨_,_,di ha,gv hb,by rw[uc];exact bW (by have:=of_decide_eq_true k;omega)⟩,λ⟨x,z,h1,h2,h3⟩=> ?_⟩;rw[uc]at h3;have:=of_decide_eq_false h3;exact bX (by have:=h1.1;have:=h2.2.1;omega)
 ·show (cR a 0||cR b 0)=J↔∃x z,bR a x/\bR b z/\oT (vn (x≠0/\z≠0))=0;rw[yC,oS,oS];constructor
  ·rintro(h1|h1)
   ·exact⟨0,_,h1,di hb,by rw[uc];exact bW (λk=>k.1 rfl)⟩
   ·exact⟨_,0,di ha,h1,by rw[uc];exact bW (λk=>k.2 rfl)⟩
  ·rintro⟨x,z,h1,h2,h3⟩;rw[uc]at h3;by_cases e:x=0
   ·simp_all
   ·simp_all
 ·show (cR a 0&&cR b 0)=J↔∃x z,bR a x/\bR b z/\oT (vn (x≠0\/z≠0))=0;rw[zi,oS,oS];constructor
  ·rintro⟨h1,h2⟩;exact⟨0,0,h1,h2,by rw[uc];exact bW (λk=>k.elim (λe=>e rfl) (λe=>e rfl))⟩
  ·rintro⟨x,z,h1,h2,h3⟩;rw[uc]at h3;simp_all
def R3{op:Int}{a b:aK}(h:By op)(ha:NN a)(hb:NN b):((AQ op a b).1||(AQ op a b).2)=J:=by
 rw[yC];rcases GM h a.ah b.ah with e|e
 ·exact .inl ((adm h ha hb).mpr ⟨_,_,di ha,di hb,e⟩)
 ·exact .inr ((Yd h ha hb).mpr ⟨_,_,di ha,di hb,e⟩)
def U5{P:Int->Prop}{no yes:Bool}(h:∀y,P y->y=0\/y=1)(h0:no=J↔P 0)(h1:yes=J↔P 1)(ho:(no||yes)=J):dz P (iZ no yes):=by
 cases no with
 |true=>
  have p0:=h0.mp rfl;cases yes with
  |true=>
   have p1:=h1.mp rfl;refine⟨p0,p1,λy hy=> ?_,by decide,λd hd=> ?_⟩
   ·rcases h y hy with rfl|rfl
    ·exact⟨by decide,by decide,⟨0,rfl⟩⟩
    ·exact⟨by decide,by decide,⟨1,rfl⟩⟩
   ·exact hd 1 p1
  |false=>
   refine⟨p0,p0,λy hy=> ?_,by decide,λd _=>xM d⟩;rcases h y hy with rfl|rfl
   ·exact⟨by decide,by decide,⟨0,rfl⟩⟩
   ·simp_all
 |false=>
  cases yes with
  |true=>
   have p1:=h1.mp rfl;refine⟨p1,p1,λy hy=> ?_,by decide,λd _=>xM d⟩;rcases h y hy with rfl|rfl
   ·exact dS (h0.mpr hy) (by decide)
   ·exact⟨by decide,by decide,⟨0,rfl⟩⟩
  |false=>cases ho
def adw{op:Int}{a b:aK}(h:By op)(ha:NN a)(hb:NN b):dz (tW op a b) (iZ (AQ op a b).1 (AQ op a b).2):=
 U5 (λy ⟨x,z,_,_,e⟩=>by rw[e];exact GM h x z)
  ((adm h ha hb).trans ⟨λ⟨x,z,h1,h2,e⟩=>⟨x,z,h1,h2,e.symm⟩,λ⟨x,z,h1,h2,e⟩=>⟨x,z,h1,h2,e.symm⟩⟩)
  ((Yd h ha hb).trans ⟨λ⟨x,z,h1,h2,e⟩=>⟨x,z,h1,h2,e.symm⟩,λ⟨x,z,h1,h2,e⟩=>⟨x,z,h1,h2,e.symm⟩⟩) (R3 h ha hb)
def aGu{x y:Int}:(bif vn (x=y)then O else J)=vn (x≠y):=by
 simp
def al2{op:Int}{a b:aK}(h:By op)(ha:NN a)(hb:NN b):adu op a b=V (iZ (AQ op a b).1 (AQ op a b).2):=by
 obtain⟨c,e,hc⟩:=ag6 ha hb;have em:fB c= !iR a b:=by
  cases k:fB c with
  |true=>rw[o4 (λx=>by have:=hc.mpr x;rw[k]at this;cases this)];rfl
  |false=>rw[jh.mpr (hc.mp k)];rfl
 have ed:(bif vn (1<bY a)then V J else bif vn (1<bY b)then V J else V (vn (a.ah≠b.ah)))=V (lD a b):=by
  unfold lD;cases vn (1<bY a)<;>cases vn (1<bY b)<;>rfl
 unfold adu;rw[e];rw[lR (.inr ha),lR (.inr hb)];simp only;rw[aGu,ed,EG (.inr ha),EG (.inr hb)];rw[em];simp only[VF];rcases ji h with rfl|rfl|rfl|rfl|rfl|rfl|rfl|rfl
 ·show _=V (iZ (lD a b) (iR a b));cases iR a b<;>rfl
 ·show _=V (iZ (iR a b) (lD a b));cases iR a b<;>rfl
 ·rfl
 ·rfl
 ·rfl
 ·rfl
 ·show _=V (iZ (cR a 0||cR b 0) (cA a&&cA b));cases cR a 0<;>cases cA a<;>cases cR b 0<;>cases cA b<;>rfl
 ·show _=V (iZ (cR a 0&&cR b 0) (cA a||cA b));cases cR a 0<;>cases cA a<;>cases cR b 0<;>cases cA b<;>rfl
def diff_eq{a:aK}(h:NN a):lD a a=vn (1<bY a):=by
 unfold lD;simp
def Xp{a b:aK}(ha:NN a)(hb:NN b)(h:a≠b):lD a b=J:=by
 unfold lD;by_cases c1:1<bY a
 ·rw[bX c1];rfl
 ·by_cases c2:1<bY b
  ·rw[bW c1,bX c2];rfl
  ·by_cases c3:a.ah=b.ah
   ·exfalso;have e1:=s8 ha c1;have e2:=s8 hb c2;exact h (EA c3 au (by rcases ha.st with k|k<;>rcases hb.st with l|l<;>omega))
   ·rw[bX c3,Bool.or_true]
def Wd{op:Int}{a b:aK}(h:By op)(ha:NN a)(hb:NN b):acq op a b=V (iZ (AQ op a b).1 (AQ op a b).2):=by
 have ho:=R3 h ha hb;rw[<-Y1 ho];unfold acq;rw[ag9 ha hb,pn (.inr ha),pn (.inr hb)];rw[eE (.inr ha)];rcases ji h with rfl|rfl|rfl|rfl|rfl|rfl|rfl|rfl
 ·show _=V (jF (lD a b) (iR a b));by_cases e:a=b
  ·subst e;rw[J9,diff_eq ha];rfl
  ·rw[JQ e,Xp ha hb e];rfl
 ·show _=V (jF (iR a b) (lD a b));by_cases e:a=b
  ·subst e;rw[J9,diff_eq ha];rfl
  ·rw[JQ e,Xp ha hb e];rfl
 ·rfl
 ·rfl
 ·rfl
 ·rfl
 ·show _=V (jF (cR a 0||cR b 0) (cA a&&cA b));cases cR a 0<;>cases cA a<;>cases cR b 0<;>cases cA b<;>rfl
 ·show _=V (jF (cR a 0&&cR b 0) (cA a||cA b));cases cR a 0<;>cases cA a<;>cases cR b 0<;>cases cA b<;>rfl
def adn{op:Int}{a b:aK}(h:By op)(ha:NN a)(hb:NN b):TO op a b:=by
 have hbin:binop op:=by
  obtain⟨h1,h2⟩:=h;exact⟨au,au⟩
 refine⟨(iZ (AQ op a b).1 (AQ op a b).2,0),oO hbin ha hb ?_,?_,BS _ _⟩
 ·rw[al2 h ha hb];rcases ji h with rfl|rfl|rfl|rfl|rfl|rfl|rfl|rfl<;>rfl
 ·by_cases hs:cnt a*cnt b<=4096
  ·rw[o6 hbin ha hb hs];rcases E7 hbin ha hb au with ⟨_,c,e,k⟩|⟨k,_⟩
   ·rw[e,k.uniq (adw h ha hb)]
   ·exact dS (λy ⟨x,z,_,_,e⟩=>by rw[e];rcases GM h x z with q|q<;>rw[q]<;>exact⟨by decide,by decide⟩) k
  ·rw[BQ hbin ha hb hs];unfold afK;rw[Wd h ha hb];rcases ji h with rfl|rfl|rfl|rfl|rfl|rfl|rfl|rfl<;>rfl
def afe{op:Int}{a b:aK}(h:Ow op)(ha:NN a)(hb:NN b):TO op a b:=by
 obtain⟨c,e1,e2,hv⟩:=adq h ha hb;have hbin:binop op:=by unfold binop;rcases h with rfl|rfl|rfl|rfl<;>decide
 refine⟨(c,0),oO hbin ha hb ?_,e2,hv⟩;rw[e1];rcases h with rfl|rfl|rfl|rfl<;>rfl
def QS(op:Int){a b:aK}(ha:NV a)(hb:NV b):TO op a b:=by
 by_cases ho:binop op
 ·rcases ha with rfl|ha
  ·refine⟨(cM,0),?_,?_, .inl rfl⟩
   ·unfold AD;rw[eV,eV,dZ (.inl rfl),dZ hb,ko,bX ho,kT];rfl
   ·unfold oW;rw[fW,fW,dZ (.inl rfl),dZ hb,show IU op=Ee op from rfl,ko,bX ho,vJ];rfl
  ·rcases hb with rfl|hb
   ·refine⟨(cM,0),?_,?_, .inl rfl⟩
    ·unfold AD;rw[eV,eV,dZ (.inl rfl),dZ (.inr ha),ko,bX ho,kT,eM ha.ne];rfl
    ·unfold oW;rw[fW,fW,dZ (.inl rfl),dZ (.inr ha),show IU op=Ee op from rfl,ko,bX ho,vJ,iu ha];rfl
   ·obtain⟨o1,o2⟩:=ho;rcases (show op=8\/op=9\/op=10\/(op=11\/op=12\/op=21\/op=22)\/(13<=op/\op<=20)by omega)with rfl|rfl|rfl|h|h
    ·exact abj ha hb
    ·exact acM ha hb
    ·exact adB ha hb
    ·exact afe h ha hb
    ·exact adn h ha hb
 ·refine⟨(aK.mk 0 0 0,1),?_,?_,SF⟩
  ·unfold AD;rw[eV,eV,dZ ha,dZ hb,ko,bW ho];rfl
  ·unfold oW;rw[fW,fW,dZ ha,dZ hb,show IU op=Ee op from rfl,ko,bW ho];rfl
abbrev qy:=Int
def d117:Td 0 qy:= .c [] [4] (.r 0 0 (ec 4 aP en) sn (λz=>z.1.1) (λx=>((x,()),(()))))
def at0:=(lc (qg 137) (aU ln))
def atx(M:az->Int->aa qy):bu->bu:=eL vp 117 O at0 d117 (λg=>M g.1 g.2.1)
def ak2(M:az->Int->aa qy):Prop:=HL vp 117 at0 d117 (λg=>M g.1 g.2.1)
def W0{M:az->Int->aa qy}(hM:ak2 M){F:bu}(h:bD vp F):bD vp (atx M F):=gm (sc:=Bf) eo hM ⟨_,func117,aY,aY⟩ (λ_=>aY) (λ_=>aY) h
def anP(M117:az->Int->aa qy):bu:=(atx M117 dA)
def ajv{M117}(h117:ak2 M117):bD vp (anP M117):=(W0 h117 aV)
structure GG where
 (t1 t5:Int)
 b0:az
def Vn:Td 0 GG:= .c [] [1,2,5] (.r 0 1 (ec 1 aP (ec 2 (qp 0 0) (ec 5 aP en))) (sb 0 137 (lg 137) sn) (λz=>⟨z.1.1,z.1.t.1,z.2.1⟩) (λx=>((x.t1,(),x.t5,()),(x.b0,()))))
def LI(M117:az->Int->aa qy)(p:GG):aa (aa GG):=
 match bif vn (p.t5<zY p.b0.aq)then V (vn (0<=p.t1))else V O with|G=>G|V r1=>bif r1 then if 0<=p.t5/\p.t5<zY p.b0.aq then match M117 (az.mk p.b0.aq[zq p.t5]!.bF p.b0.aq[zq p.t5]!.fN p.b0.aq[zq p.t5]!.aq) p.t1 with|G=>G|V r2=>V (V (GG.mk r2 (ak (p.t5+1)) (az.mk p.b0.bF p.b0.fN p.b0.aq)))else G else V (G)
def afX(M117:az->Int->aa qy):An:=(.two (.two (.rb [] 16) .no) .no)
def ND(M117:az->Int->aa qy):=bI (LI M117)
def aoN(M117:az->Int->aa qy):An:=(noTwo (noTwo (.two (noTwo (Vn.lp (ND M117) (afX M117))) .no)))
def ayu{M117}:∀f∈([]:af Nat),bA (anP M117) f:=aH
def azP(M117:az->Int->aa qy):gu vp (anP M117) 0 300 117 (aoN M117):=cH (l:=[(bk f117 0,(Vn.lp (ND M117) (afX M117))),(.skip,(.rb [] 16))]) func117 (bT aY) aY (aA (aO Vn) (aA ayu aH))
def ag3(M117:az->Int->aa qy)(a0:az)(a1:Int):aa qy:=
 match ND M117 (GG.mk (ak (a1-1)) 0 (az.mk a0.bF a0.fN a0.aq))with|G=>G|V r3=>match bif vn (r3.t5<zY r3.b0.aq)then V (vn (0<=r3.t1))else V O with|G=>G|V r4=>bif r4 then if 0<=r3.t5/\r3.t5<zY r3.b0.aq then match M117 (az.mk r3.b0.aq[zq r3.t5]!.bF r3.b0.aq[zq r3.t5]!.fN r3.b0.aq[zq r3.t5]!.aq) r3.t1 with|G=>G|V r5=>G else G else V (r3.t1)
def aG0(M117:az->Int->aa qy)(a0:az)(a1:Int):bZ vp (anP M117) 300 (aoN M117) 117 (at0.c (a0,a1,())) [] 0 d117.rd=ag3 M117 a0 a1:=aY
def apM:Nat->(az->Int->aa qy)
 |0=>(λ_ _=>G)
 |n+1=>(ag3 (apM n))
def UM(n:Nat):az->Int->aa qy:=(apM n)
def Oh:∀n,ak2 (UM n)
 |0=>λ_ _ h=>(by cases h)
 |n+1=>by
  have ih:=Oh n;have i117:=ih;exact(fe (ajv i117) (azP (UM n)) (λ_=>aY) (λ_=>aY) λg=>aG0 (UM n) g.1 g.2.1)
def Zv:az->Int->aa qy:=λa0 a1=>lim (λn=>UM n a0 a1)
def ahG:ak2 Zv:=λg b h=>by
 obtain⟨n,hn⟩:=dy (show lim (λn=>UM n g.1 g.2.1)=V b from h);exact(Oh n) g b hn
def arn(F:bu):bu:=atx Zv F
def We{F:bu}(h:bD vp F):bD vp (arn F):=W0 ahG h
abbrev sD:=Int
def d116:Td 0 sD:= .c [] [4] (.r 0 0 (ec 4 aP en) sn (λz=>z.1.1) (λx=>((x,()),(()))))
def au4:=(lc (ql 166) (aU ln))
def avm(M:(af aB)->Int->aa sD):bu->bu:=eL vp 116 O au4 d116 (λg=>M g.1 g.2.1)
def anB(M:(af aB)->Int->aa sD):Prop:=HL vp 116 au4 d116 (λg=>M g.1 g.2.1)
def YW{M:(af aB)->Int->aa sD}(hM:anB M){F:bu}(h:bD vp F):bD vp (avm M F):=gm (sc:=Bf) eo hM ⟨_,func116,aY,aY⟩ (λ_=>aY) (λ_=>aY) h
def ahT(M116:(af aB)->Int->aa sD):bu:=(arn (avm M116 dA))
def ajG{M116}(h116:anB M116):bD vp (ahT M116):=(We (YW h116 aV))
structure FF where
 t0:List aB
 (t1 t5:Int)
def UC:Td 0 FF:= .c [] [0,1,5] (.r 0 0 (ec 0 (ql 166) (ec 1 aP (ec 5 aP en))) sn (λz=>⟨z.1.1,z.1.2.1,z.1.t.1⟩) (λx=>((x.t0,x.t1,x.t5,()),(()))))
def Gn(M116:(af aB)->Int->aa sD)(p:FF):aa (aa FF):=
 match bif vn (p.t5<zY p.t0)then V (vn (0<=p.t1))else V O with|G=>G|V r1=>bif r1 then if 0<=p.t5/\p.t5<zY p.t0 then match Zv (az.mk p.t0[zq p.t5]!.aF.bF p.t0[zq p.t5]!.aF.fN p.t0[zq p.t5]!.aF.aq) (ak (p.t1-1))with|G=>G|V r2=>if 0<=p.t5/\p.t5<zY p.t0 then bif vn (r2<(↑p.t0[zq p.t5]!.aR.length:Int))then V (G)else if 0<=p.t5/\p.t5<zY p.t0 then if 0<=p.t5/\p.t5<zY p.t0 then if 0<=p.t5/\p.t5<zY p.t0 then match M116 p.t0[zq p.t5]!.aQ (ak (r2-(↑p.t0[zq p.t5]!.aR.length:Int)))with|G=>G|V r3=>match M116 p.t0[zq p.t5]!.aX r3 with|G=>G|V r4=>V (V (FF.mk p.t0 r4 (ak (p.t5+1))))else G else G else G else G else G else V (G)
def adJ(M116:(af aB)->Int->aa sD):An:=(.two (.two (.rb [] 13) .no) .no)
def Lb(M116:(af aB)->Int->aa sD):=bI (Gn M116)
def aqv(M116:(af aB)->Int->aa sD):An:=(noTwo (.two (noTwo (UC.lp (Lb M116) (adJ M116))) .no))
def axD{M116}:∀f∈([]:af Nat),bA (ahT M116) f:=aH
def axY(M116:(af aB)->Int->aa sD):gu vp (ahT M116) 0 300 116 (aqv M116):=cH (l:=[(bk f116 0,(UC.lp (Lb M116) (adJ M116))),(.skip,(.rb [] 13))]) func116 (bT aY) aY (aA (aO UC) (aA axD aH))
def ajU(M116:(af aB)->Int->aa sD)(a0:af aB)(a1:Int):aa sD:=
 match Lb M116 (FF.mk a0 a1 0)with|G=>G|V r5=>match bif vn (r5.t5<zY r5.t0)then V (vn (0<=r5.t1))else V O with|G=>G|V r6=>bif r6 then if 0<=r5.t5/\r5.t5<zY r5.t0 then match Zv (az.mk r5.t0[zq r5.t5]!.aF.bF r5.t0[zq r5.t5]!.aF.fN r5.t0[zq r5.t5]!.aF.aq) (ak (r5.t1-1))with|G=>G|V r7=>if 0<=r5.t5/\r5.t5<zY r5.t0 then bif vn (r7<(↑r5.t0[zq r5.t5]!.aR.length:Int))then V (-1)else if 0<=r5.t5/\r5.t5<zY r5.t0 then if 0<=r5.t5/\r5.t5<zY r5.t0 then if 0<=r5.t5/\r5.t5<zY r5.t0 then match M116 r5.t0[zq r5.t5]!.aQ (ak (r7-(↑r5.t0[zq r5.t5]!.aR.length:Int)))with|G=>G|V r8=>match M116 r5.t0[zq r5.t5]!.aX r8 with|G=>G|V r9=>G else G else G else G else G else G else V (r5.t1)
def aF8(M116:(af aB)->Int->aa sD)(a0:af aB)(a1:Int):bZ vp (ahT M116) 300 (aqv M116) 116 (au4.c (a0,a1,())) [] 0 d116.rd=ajU M116 a0 a1:=aY
def apu:Nat->((af aB)->Int->aa sD)
 |0=>(λ_ _=>G)
 |n+1=>(ajU (apu n))
def TU(n:Nat):(af aB)->Int->aa sD:=(apu n)
def QI:∀n,anB (TU n)
 |0=>λ_ _ h=>(by cases h)
 |n+1=>by
  have ih:=QI n;have i116:=ih;exact(fe (ajG i116) (axY (TU n)) (λ_=>aY) (λ_=>aY) λg=>aF8 (TU n) g.1 g.2.1)
def ahd:(af aB)->Int->aa sD:=λa0 a1=>lim (λn=>TU n a0 a1)
def ah6:anB ahd:=λg b h=>by
 obtain⟨n,hn⟩:=dy (show lim (λn=>TU n g.1 g.2.1)=V b from h);exact(QI n) g b hn
def az7(F:bu):bu:=avm ahd F
def ak7{F:bu}(h:bD vp F):bD vp (az7 F):=YW ah6 h
def F53:bu:=(arn (az7 dA))
structure Fk where
 t7:Int
 t27:List dN
 (t28 t29:Int)
def aeu:Td 0 Fk:= .c [] [7,27,28,29] (.r 0 0 (ec 7 aP (ec 27 (ql 139) (ec 28 aP (ec 29 aP en)))) sn (λz=>⟨z.1.1,z.1.2.1,z.1.t.1,z.1.t.2.1⟩) (λx=>((x.t7,x.t27,x.t28,x.t29,()),(()))))
def O4{α:Type}(p:Fk)(go:Fk->aa α)(e1:aa α):aa α:=
 bif vn (p.t29<p.t28)then if 0<=p.t29/\p.t29<zY p.t27 then match Zv (az.mk p.t27[zq p.t29]!.aF.bF p.t27[zq p.t29]!.aF.fN p.t27[zq p.t29]!.aF.aq) p.t7 with|G=>G|V r1=>go (Fk.mk r1 p.t27 p.t28 (ak (p.t29+1)))else G else e1
def OL(p:Fk):aa (aa Fk):=
 O4 p (λs=>V (V s)) (V G)
def Wn:=bI (OL)
abbrev E53:=Bool
def d53:Td 0 E53:= .c [] [6] (.r 0 0 (ec 6 qb en) sn (λz=>z.1.1) (λx=>((x,()),(()))))
def aFv:∀f∈([]:af Nat),bA (F53) f:=aH
def m53(a0:aS)(a1:Int)(a2:Int):aa E53:=
 match (bif vn (a1<zY a0.ai)then V J else V (vn (a1<zY a0.ax)))with|G=>G|V r2=>bif r2 then V O else match ahd a0.bM a2 with|G=>G|V r3=>match Wn (Fk.mk r3 a0.ax (zY a0.ax) 0)with|G=>G|V r4=>O4 r4 (λ_=>G) (V (vn (0<=r4.t7)))
def e53:=eL vp 53 O (lc (qg 26) (aU (aU ln))) d53 (λg=>m53 g.1 g.2.1 g.t.1)
def avU:EO e53:=λh=>kL (F:=F53) (an:=(noTwo (.two (.two (.rb [] 21) .no) (noTwo (.two (noTwo (aeu.lp Wn .no)) .no))))) (l:=[(.skip,(.rb [] 21)),(bk f53 0,(aeu.lp Wn .no))]) func53 (We (ak7 aV)) (aA aFv (aA (aO aeu) aH)) h
def PR:EP e53:=λh=>kP h
def az.eta(t:az):az.mk t.bF t.fN t.aq=t:=by cases t;rfl
def az.eT{t k:az}(h:k∈t.aq):ze k<ze t:=by
 cases t;have:=vg h;simp only[az.mk.sizeOf_spec];simp only at this;omega
def nT(t:az):Nat:=1+(t.aq.attach.map λk=>nT k.1).sum
termination_by ze t
decreasing_by exact az.eT k.2
def kS(l:af az):Nat:=(l.map nT).sum
def AG(t:az):nT t=1+kS t.aq:=by
 rw[nT,kS];simp
def sC(k:az)(ks:af az):kS (k::ks)=nT k+kS ks:=by simp[kS]
def VQ{k:az}{ks:af az}(h:k∈ks):nT k<=kS ks:=by
 induction ks with
 |nil=>cases h
 |cons a ks ih=>
  rw[sC];rcases zx.1 h with rfl|h
  ·omega
  ·have:=ih h;omega
def adt(t:az):0<nT t:=by rw[AG];omega
def tl(t:az)(left:Int):Int:=if(nT t:Int)<=left then left-nT t else if 0<=left then-1 else left-1
def tls:af az->Int->Int
 |[],l=>l
 |k::ks,l=>if 0<=l then tls ks (tl k l)else l
def aa7:∀(ks:af az) (l:Int),tls ks l=if 0<=l then(if(kS ks:Int)<=l then l-kS ks else-1)else l
 |[],l=>by simp[tls,kS];omega
 |k::ks,l=>by
  have e:=sC k ks;unfold tls;by_cases h:0<=l
  ·rw[bB h,bB h,aa7 ks,e];unfold tl;grind
  ·omega
def aCI(t:az)(left:Int):tl t left=tls t.aq (left-1):=by
 rw[aa7,tl,AG];grind
def ae1(t:az)(l:Int):(0<=l-> -1<=tl t l/\tl t l<=l-1)/\(l<0->tl t l=l-1):=by
 have:=adt t;unfold tl;grind
def ad6(M:az->Int->aa qy)(t:az)(hM:∀k∈t.aq,∀l:Int,0<=l->l<=1000->M k l=V (tl k l)):
  ∀(ks:af az) (i:Nat) (l:Int),t.aq.drop i=ks->i+zY ks=zY t.aq->l<=1000-i->∃q,ND M ⟨l,i,t⟩=V q/\q.t1=tls ks l/\q.b0=t/\(q.t5<zY t.aq->q.t1<0)
 |[],i,l,hd,hl,_=>by
  refine⟨_,cn λr=> ?_,rfl,rfl,λh=> ?_⟩
  ·have:¬((i:Int)<zY t.aq):=by simp at hl;omega
   simp[LI,this]
  ·simp at hl h;omega
 |k::ks,i,l,hd,hl,h2=>by
  have hil:i<zY t.aq:=by simp at hl;omega
  have hki:t.aq[i]! =k:=by
   have:t.aq[i]? =V k:=by
    have:=congrArg List.head? hd;rw[List.head?_drop]at this
    assumption
   rw[List.getElem!_eq_getElem?_getD,this];rfl
  have hmem:k∈t.aq:=by rw[<-hki,getElem!_pos t.aq i hil];exact xP hil
  by_cases h0:0<=l
  ·have hd':t.aq.drop (i+1)=ks:=by
    have:=congrArg List.tail hd;rw[List.tail_drop]at this
    assumption
   have b3:=((ae1 k l).1 h0).2;obtain⟨q,e1,e2,e3,e4⟩:=ad6 M t hM ks (i+1) (tl k l) hd' (by simp at hl;omega) au;refine⟨q,?_,?_,e3,e4⟩
   ·rw[<-e1];refine bP ?_;have hw:ak ((i:Int)+1)=((i+1:Nat):Int):=by rw[aL];omega
    have hk2:t.aq[i]=k:=by rw[<-hki,getElem!_pos t.aq i hil]
    simp[LI,hil,h0,hk2,az.eta,hM k hmem l h0 au];exact hw
   ·rw[e2];show _=if 0<=l then _ else _
    omega
  ·refine⟨_,cn λr=> ?_,?_,rfl,λh=> ?_⟩
   ·simp[LI,h0]
   ·show l=if 0<=l then _ else l
    omega
   ·simp only;omega
def ai5(M:az->Int->aa qy)(t:az)(hM:∀k∈t.aq,∀l:Int,0<=l->l<=1000->M k l=V (tl k l))(l:Int)(h1: -1000000<=l)(h2:l<=1000):ag3 M t l=V (tl t l):=by
 obtain⟨q,e1,e2,e3,e4⟩:=ad6 M t hM t.aq 0 (l-1) rfl (by simp) au;have hw:ak (l-1)=l-1:=aL;rw[aCI,<-e2];unfold ag3;rw[hw,az.eta,show ((0:Nat):Int)=0 from rfl]at*;rw[e1];obtain⟨q1,q5,qb⟩:=q;subst e3;dsimp only at*;by_cases h5:q5<(zY qb.aq:Int)
 ·have:=e4 h5;simp[show ¬(0<=q1)by omega]
 ·simp[h5]
def Wk:∀(n:Nat) (t:az) (l:Int),ze t<n-> -1000000<=l->l<=1000->UM n t l=V (tl t l)
 |0,_,_,h,_,_=>au
 |n+1,t,l,h,h1,h2=>ai5 (UM n) t (λk hk l h3 h4=>Wk n k l (by have:=az.eT hk;omega) au h4) l h1 h2
def Mq(t:az)(l:Int)(h1: -1000000<=l)(h2:l<=1000):Zv t l=V (tl t l):=eG (ze t+1) λn hn=>Wk n t l au h1 h2
def aB.then_lt{s k:aB}(h:k∈s.aQ):ze k<ze s:=by
 cases s;have:=vg h;simp only[aB.mk.sizeOf_spec];simp only at this;omega
def aB.ajp{s k:aB}(h:k∈s.aX):ze k<ze s:=by
 cases s;have:=vg h;simp only[aB.mk.sizeOf_spec];simp only at this;omega
def aB.eta(s:aB):aB.mk s.b9 s.bg s.dJ s.fN s.aF s.aQ s.aX s.aR=s:=by cases s;rfl
def nS(s:aB):Nat:=1+nT s.aF+zY s.aR+(s.aQ.attach.map λk=>nS k.1).sum+(s.aX.attach.map λk=>nS k.1).sum
termination_by ze s
decreasing_by
 ·exact aB.then_lt k.2
 ·exact aB.ajp k.2
def fK(l:af aB):Nat:=(l.map nS).sum
def qj(s:aB):nS s=1+nT s.aF+zY s.aR+fK s.aQ+fK s.aX:=by
 rw[nS,fK,fK];simp
def oF(k:aB)(ks:af aB):fK (k::ks)=nS k+fK ks:=by simp[fK]
def sl(l:af aB)(left:Int):Int:=if left<0 then left else if(fK l:Int)<=left then left-fK l else-1
def uu(left:Int)(s:aB):aa Int:=if left<0 then G else if tl s.aF (left-1)<zY s.aR then G else V (sl s.aX (sl s.aQ (tl s.aF (left-1)-s.aR.length)))
def Rj{left x:Int}{s:aB}(h:uu left s=V x):0<=left/\ -1<=x/\x<=left-1/\x=if(nS s:Int)<=left then left-nS s else-1:=by
 unfold uu at h;have e:=qj s;unfold tl sl at h;grind
def Ts{left:Int}{s:aB}(h:uu left s=G)(h0:0<=left):left<nS s:=by
 unfold uu at h;have e:=qj s;unfold tl at h;grind
def aqa:∀(l:af aB) (left:Int),lG uu (λv _=>if v<0 then v else-1) id l left=sl l left
 |[],left=>by unfold sl;simp[fK,lG];omega
 |s::l,left=>by
  have e:=oF s l;unfold lG;cases hs:uu left s with
  |none=>
   have:=Ts hs;unfold sl;grind
  |some x=>
   obtain⟨h1,h2,h3,h4⟩:=Rj hs;dsimp only;rw[aqa l x];unfold sl;grind
def an8(M:af aB->Int->aa sD)(l:af aB)(hM:∀s∈l,(∀x:Int,-1<=x->x<=1000->M s.aQ x=V (sl s.aQ x))/\(∀x:Int,-1<=x->x<=1000->M s.aX x=V (sl s.aX x)))(left:Int)(h1: -1<=left)(h2:left<=1000):
  ajU M l left=V (sl l left):=by
 have hstep:∀(i:Nat) (b:Int) (hi:i<zY l),b<=1000-i-> -1<=b->Gn M ⟨l,b,i⟩=if b<0 then V G else if tl l[i].aF (b-1)<zY l[i].aR then V G else V (V ⟨l,sl l[i].aX (sl l[i].aQ (tl l[i].aF (b-1)-l[i].aR.length)),((i+1:Nat):Int)⟩):=λi b hi hb hb2=>by
  obtain⟨m1,m2⟩:=hM l[i] (xP hi);unfold Gn;by_cases h0:b<0
  ·simp[show ¬0<=b by omega]
  ·have e1:ak (b-1)=b-1:=aL;have e2:=Mq l[i].aF (b-1) au au;have e3:=ae1 l[i].aF (b-1);have hT: -2<=tl l[i].aF (b-1)/\tl l[i].aF (b-1)<=1000:=by grind
   by_cases h4:tl l[i].aF (b-1)<zY l[i].aR
   ·simp[hi,e1,az.eta,e2,h4]
   ·have e5:ak (tl l[i].aF (b-1)-l[i].aR.length)=tl l[i].aF (b-1)-l[i].aR.length:=aL;have e6:=m1 (tl l[i].aF (b-1)-l[i].aR.length) au au;have hS: -1<=sl l[i].aQ (tl l[i].aF (b-1)-l[i].aR.length)/\sl l[i].aQ (tl l[i].aF (b-1)-l[i].aR.length)<=1000:=by unfold sl;grind
    have e7:=m2 _ hS.1 hS.2;have e8:ak ((i:Int)+1)=((i+1:Nat):Int):=by rw[aL];omega
    simp[hi,h0,e1,az.eta,e2,h4,e5,e6,e7,show 0<=b by omega];exact e8
 obtain⟨i,v,hi,e1,⟨e2,e3⟩,e4⟩:=KC (rnd:=Gn M) l (λi b=>⟨l,b,(i:Int)⟩) uu (λv _=>if v<0 then v else-1) id (λi b=>b<=1000-i/\ -1<=b) (λi b hi hI b' hs=>by
   obtain⟨q1,q2,q3,q4⟩:=Rj hs;refine⟨?_,au,q2⟩;unfold uu at hs;grind) (λi b hi hI hs r=>by
   unfold uu at hs;grind) (λb hI r=>by simp[Gn]) (b:=left) ⟨au,h1⟩
 have e1':Lb M ⟨l,left,0⟩=V ⟨l,v,i⟩:=e1;unfold ajU;rw[e1'];rw[aqa]at e4;rcases e4 with ⟨h5,e4⟩|⟨h5,hn,e4⟩
 ·simp[h5,e4]
 ·rw[e4];by_cases h0:v<0
  ·simp[h5,h0,show ¬(0<=v)by omega]
  ·have e1:ak (v-1)=v-1:=aL;have e2:=Mq l[i].aF (v-1) au au;have h4:tl l[i].aF (v-1)<zY l[i].aR:=by unfold uu at hn;grind
   simp[h5,h0,show 0<=v by omega,e1,az.eta,e2,h4]
def bw{s:aB}{l:af aB}(h:s∈l):ze s.aQ<ze l/\ze s.aX<ze l:=by
 have:=vg h;cases s;simp only[aB.mk.sizeOf_spec]at this;simp only;omega
def NX:∀(n:Nat) (l:af aB) (x:Int),ze l<n-> -1<=x->x<=1000->TU n l x=V (sl l x)
 |0,_,_,h,_,_=>au
 |n+1,l,x,h,h1,h2=>an8 (TU n) l (λs hs=>⟨λx h3 h4=>NX n _ x (by have:=bw hs;omega) h3 h4,λx h3 h4=>NX n _ x (by have:=bw hs;omega) h3 h4⟩) x h1 h2
def aiU(l:af aB)(x:Int)(h1: -1<=x)(h2:x<=1000):ahd l x=V (sl l x):=eG (ze l+1) λn hn=>NX n l x au h1 h2
def few(f:aS)(vars nodes:Int):Bool:=vn ((zY f.ai:Int)<=vars/\(zY f.ax:Int)<=vars/\(fK f.bM+kS (f.ax.map (·.aF)):Int)<=nodes)
def awe(f:aS)(vars nodes:Int)(h1:0<=vars)(h2:vars<=1000)(h3:0<=nodes)(h4:nodes<=1000):m53 f vars nodes=V (few f vars nodes):=by
 unfold m53 O4;by_cases q1:vars<zY f.ai
 ·simp[q1,few];omega
 ·by_cases q2:vars<zY f.ax
  ·simp[q2,few];omega
  ·rw[aiU _ _ au au];have hb:sl f.bM nodes<=1000/\ -1<=sl f.bM nodes:=by unfold sl;grind
   have hstep:∀(i:Nat) (b:Int) (hi:i<zY f.ax),b<=1000-> -1-(i:Int)<=b->OL ⟨b,f.ax,zY f.ax,i⟩=V (V ⟨tl f.ax[i].aF b,f.ax,zY f.ax,((i+1:Nat):Int)⟩):=λi b hi hb hb2=>by
    have e2:=Mq f.ax[i].aF b au au;have e8:ak ((i:Int)+1)=((i+1:Nat):Int):=by rw[aL];omega
    unfold OL O4;simp[hi,az.eta,e2];exact e8
   obtain⟨i,v,hi,e1,_,e4⟩:=KC (rnd:=OL) f.ax (λi b=>⟨b,f.ax,zY f.ax,(i:Int)⟩) (λb h=>V (tl h.aF b)) (λv _=>v) id (λi b=>b<=1000/\ -1-(i:Int)<=b) (λi b hi hI b' hs=>by
     have:=ae1 f.ax[i].aF b;grind) (λi b hi hI hs r=>by cases hs) (λb hI r=>by simp[OL,O4]) (b:=sl f.bM nodes) ⟨hb.1,au⟩
   have e1':Wn ⟨sl f.bM nodes,f.ax,zY f.ax,0⟩=V ⟨v,f.ax,zY f.ax,i⟩:=e1;rcases e4 with ⟨h5,e4⟩|⟨_,hn,_⟩
   case inr=>cases hn
   have key:∀(l:af dN) (b:Int),0<=lG (ρ:=Int) (λb h=>V (tl h.aF b)) (λv _=>v) id l b↔(kS (l.map (·.aF)):Int)<=b:=λl=>by
    induction l with
    |nil=>intro b;simp[lG,kS]
    |cons h l ih=>
     intro b;unfold lG;rw[ih,yf,sC];unfold tl;grind
   have k2:=key f.ax (sl f.bM nodes);rw[e4]at k2;have k3:(0<=v)↔(kS (f.ax.map (·.aF)):Int)<=sl f.bM nodes:=k2;simp only[q1,q2,Ej,ct,e1',h5,yx,few]
   congr 1
   rw[decide_eq_decide,k3];unfold sl;grind
def Z0:((0:Nat):Int)=(0:Int):=rfl
def okc(i:Nat)(c:Int):Bool:=vn ((97<=c/\c<=122)\/(i≠0/\((48<=c/\c<=57)\/c=46\/c=95)))
def kN(s:ByteArray):Bool:=vn (1<=s.size)&&vn (s.size<=40)&&(zH s.size).all λi=>okc i (dh s i)
def jG(low high:Int):Bool:=vn (low<=high/\ -1048576<=low/\high<=1048576)
def nC(vars:af bh)(i:Nat)(v:bh):Int:=
 if kN v.fName=O then 7
 else if((vars.take i).any λw=>w.fName.toList==v.fName.toList)=J then 8
 else if v.bS<0\/3<v.bS then 1
 else if jG v.ah v.ag=O then 3
 else if v.bS=0 then(if v.gJ<v.ah\/v.ag<v.gJ then 3 else 0)
 else if v.gJ=0 then 0 else 3
def Ai(kind:Int):af bh->Int->aa Int
 |[],n=>V n
 |v::vs,n=>if v.bS=kind then(if 4096<n*(v.ag-v.ah+1)then G else Ai kind vs (n*(v.ag-v.ah+1)))else Ai kind vs n
def IJ(vars:af bh):Bool:=(Ai 1 vars 1).isSome&&(Ai 2 vars 1).isSome&&(match Ai 3 vars 1 with|V n=>vn (n<=256)|G=>O)
def jQ(vars:af bh):Int:=if cu (nC vars) vars 0≠0 then cu (nC vars) vars 0 else if IJ vars=J then 0 else 4
def cg(o:Int):Int×Int:=if o=0\/o=24 then(0,0)else if o=6\/o=7 then(1,1)else if 8<=o/\o<=22 then(2,2)else if o=23 then(3,3)else if o=25 then(2,33)else(-1,-1)
def D0(vars:af bh)(inp:Bool)(t:az):Bool:=vn (0<=(cg t.bF).1/\(cg t.bF).1<=zY t.aq/\(zY t.aq:Int)<=(cg t.bF).2)&&
 (if t.bF=0 then J else if t.bF=24 then vn (0<=t.fN/\t.fN<zY vars)&& !(inp&&vn (vars[t.fN.toNat]!.bS=0))else vn (t.fN=0))
def dH(vars:af bh)(inp:Bool)(t:az):Bool:=D0 vars inp t&&t.aq.attach.all λk=>dH vars inp k.1
termination_by ze t
decreasing_by exact az.eT k.2
def mN(vars:af bh)(inp:Bool)(t:az):dH vars inp t=(D0 vars inp t&&t.aq.all (dH vars inp)):=by
 rw[dH];simp
def ga(a b:Span):Span:=⟨if b.ah<a.ah then b.ah else a.ah,if a.ag<b.ag then b.ag else a.ag⟩
def jE(vars:af bh)(t:az)(k:af Span):Span:=
 if t.bF=0 then⟨t.fN,t.fN⟩
 else if t.bF=24 then⟨vars[t.fN.toNat]!.ah,vars[t.fN.toNat]!.ag⟩
 else if t.bF=6 then⟨-k[0]!.ag,-k[0]!.ah⟩
 else if t.bF=8 then⟨k[0]!.ah+k[1]!.ah,k[0]!.ag+k[1]!.ag⟩
 else if t.bF=9 then⟨k[0]!.ah-k[1]!.ag,k[0]!.ag-k[1]!.ah⟩
 else if t.bF=10 then
  ga (ga (ga ⟨k[0]!.ah*k[1]!.ah,k[0]!.ah*k[1]!.ah⟩ ⟨k[0]!.ah*k[1]!.ag,k[0]!.ah*k[1]!.ag⟩) ⟨k[0]!.ag*k[1]!.ah,k[0]!.ag*k[1]!.ah⟩) ⟨k[0]!.ag*k[1]!.ag,k[0]!.ag*k[1]!.ag⟩
 else if t.bF=11 then
  (if(0:Int)<=k[0]!.ah/\(0:Int)<=k[1]!.ah then⟨0,if k[0]!.ag< -k[0]!.ah then-k[0]!.ah else k[0]!.ag⟩else⟨-(if k[0]!.ag< -k[0]!.ah then-k[0]!.ah else k[0]!.ag),if k[0]!.ag< -k[0]!.ah then-k[0]!.ah else k[0]!.ag⟩)
 else if t.bF=12 then⟨if k[1]!.ah<0 then k[1]!.ah+1 else 0,if(0:Int)<k[1]!.ag then k[1]!.ag-1 else 0⟩
 else if t.bF=21 then⟨if k[1]!.ah<k[0]!.ah then k[1]!.ah else k[0]!.ah,if k[1]!.ag<k[0]!.ag then k[1]!.ag else k[0]!.ag⟩
 else if t.bF=22 then⟨if k[0]!.ah<k[1]!.ah then k[1]!.ah else k[0]!.ah,if k[0]!.ag<k[1]!.ag then k[1]!.ag else k[0]!.ag⟩
 else if t.bF=23\/t.bF=25 then(k.drop 2).foldl ga k[1]!
 else⟨0,1⟩
def Cw(s:Span):Bool:=vn (-1048576<=s.ah/\s.ag<=1048576)
def mO:af (aa Span)->aa (af Span)
 |[]=>V []
 |none::_=>G
 |some s::xs=>match mO xs with|V l=>V (s::l)|G=>G
def iP(vars:af bh)(t:az):aa Span:=match mO (t.aq.attach.map λk=>iP vars k.1)with
 |none=>G
 |some l=>if Cw (jE vars t l)=J then V (jE vars t l)else G
termination_by ze t
decreasing_by exact az.eT k.2
def BB(vars:af bh)(t:az):iP vars t=match mO (t.aq.map (iP vars))with
 |none=>G
 |some l=>if Cw (jE vars t l)=J then V (jE vars t l)else G:=by
 rw[iP];simp
def fq(vars:af bh)(inp:Bool)(t:az):Int:=if dH vars inp t=O then 1 else if(iP vars t).isSome then 0 else 3
def kU(f:aS)(i:Nat)(h:dN):Int:=
 if kN h.fName=O then 7
 else if((f.ax.take i).any λw=>w.fName.toList==h.fName.toList)=J then 8
 else if jG h.ah h.ag=O then 3
 else fq f.ai J h.aF
def dT(t:az):Int:=1+(t.aq.attach.map λk=>dT k.1).foldl max 0
termination_by ze t
decreasing_by exact az.eT k.2
def RS(l:af az):Int:=(l.map dT).foldl max 0
def VI(t:az):dT t=1+RS t.aq:=by
 rw[dT,RS];simp
def HV(l:af az)(k:az):RS (l++[k])=max (RS l) (dT k):=by
 unfold RS;simp
def qO(l:af az)(k:az):kS (l++[k])=kS l+nT k:=by
 simp[kS]
def Ay:∀(l:af Int) (a:Int),a<=l.foldl max a
 |[],a=>zj _
 |x::l,a=>xV (Int.le_max_left a x) (Ay l (max a x))
def LK(l:af az):0<=RS l:=Ay _ _
def arH(t:az):1<=dT t:=by have:=LK t.aq;rw[VI];omega
def dY(s:aB)(l:af aB):ze l<ze (s::l):=by
 rw[List.cons.sizeOf_spec];omega
def jW:af aB->Int
 |[]=>0
 |s::l=>max (max (jW s.aQ+1) (jW s.aX+1)) (jW l)
termination_by l=>ze l
decreasing_by
 ·exact(bw (zk ..)).1
 ·exact(bw (zk ..)).2
 ·exact dY _ _
def fH:af aB->Bool
 |[]=>O
 |s::l=>vn (12<dT s.aF)||fH s.aQ||fH s.aX||fH l
termination_by l=>ze l
decreasing_by
 ·exact(bw (zk ..)).1
 ·exact(bw (zk ..)).2
 ·exact dY _ _
def BM(l:af aB):0<=jW l:=by
 induction l with
 |nil=>rw[jW];omega
 |cons s l ih=>rw[jW];omega
def afu(l:af aB)(s:aB):jW (l++[s])=max (jW l) (max (jW s.aQ+1) (jW s.aX+1)):=by
 induction l with
 |nil=>
  rw[yB,show jW []=0 by rw[jW],jW,show jW []=0 by rw[jW]];omega
 |cons a l ih=>rw[xz,jW,jW,ih];omega
def OZ(l:af aB)(k:aB):fK (l++[k])=fK l+nS k:=by simp[fK]
def rA(f:aS):Bool:=vn (zY f.ai<=64)&&vn (zY f.ax<=8)&&f.ax.all (λh=>vn (dT h.aF<=12))&&vn (jW f.bM<=12)&& !fH f.bM
def gE:af Int->Bool
 |a::b::l=>vn (a<b)&&gE (b::l)
 |_=>J
def DP(t:az):Bool:=vn (t.bF=0/\t.fN=0/\zY t.aq=0)
def CB(f:aS)(s:aB):Bool:=vn (0<=s.dJ/\s.dJ<zY f.ai)&&vn (f.ai[s.dJ.toNat]!.bS=0)
def dL(f:aS)(s:aB)(last:Bool):Bool:=
 let free:=vn (zY s.aQ=0/\zY s.aX=0)
 let nob:=vn (zY s.aR=0)
 if s.b9=0 then free&&CB f s&&vn (s.fN=0)&&nob
 else if s.b9=1 then free&&vn (s.dJ=0)&&vn (s.fN=0)&&nob
 else if s.b9=2 then free&&vn (s.dJ=0)&&vn (s.fN=0)&&nob&&DP s.aF
 else if s.b9=3 then vn (s.dJ=0)&&vn (s.fN=0)&&nob
 else if s.b9=4 then vn (s.dJ=0)&&vn (zY s.aX=0)&&nob
 else if s.b9=5 then free&&CB f s&&vn (0<=s.fN/\s.fN<zY f.ax)&&nob&&DP s.aF
 else if s.b9=6 then free&&last&&vn (s.dJ=0)&&vn (s.fN=0)&&DP s.aF&&(vn (1<=zY s.aR/\zY s.aR<=32)&&vn ((0:Int)<=s.aR[0]!)&&gE s.aR)
 else O
def u7(s:aB):Bool:=vn (0<=s.bg/\s.bg<=(if s.b9=2 then 67108864 else 10000))&&(if s.b9=4 then vn (0<=s.fN/\s.fN<=4096)else J)&&(if s.b9=6 then vn (s.aR[zY s.aR-1]!<=67108864)else J)
def pz(f:aS)(last:Bool)(s:aB):Int:=if dL f s last=O then 1 else if u7 s=O then 3 else fq f.ai O s.aF
def b8(f:aS)(top:Bool):af aB->Int
 |[]=>0
 |s::l=>if pz f (top&&l.isEmpty) s≠0 then pz f (top&&l.isEmpty) s else if b8 f O s.aQ≠0 then b8 f O s.aQ else if b8 f O s.aX≠0 then b8 f O s.aX else b8 f top l
termination_by l=>ze l
decreasing_by
 all_goals first|exact(bw (zk ..)).1|exact(bw (zk ..)).2|exact dY _ _
def stC(f:aS)(top:Bool)(n i:Nat)(s:aB):Int:=if pz f (top&&vn (i+1=n)) s≠0 then pz f (top&&vn (i+1=n)) s else if b8 f O s.aQ≠0 then b8 f O s.aQ else b8 f O s.aX
def sG(f:aS)(top:Bool)(n:Nat):∀(l:af aB) (i:Nat),i+zY l=n->cu (stC f top n) l i=b8 f top l
 |[],i,_=>by rw[b8];rfl
 |s::l,i,h=>by
  have ih:=sG f top n l (i+1) (by simp at h;omega);have he:l.isEmpty=vn (i+1=n):=by
   cases l with
   |nil=>simp at h;simp[h]
   |cons a l=>simp at h;simp;omega
  unfold cu;rw[b8,ih,he];unfold stC;grind
def eX:af aB->Int×Int×Int
 |[]=>(0,0,0)
 |s::l=>match eX s.aQ,eX s.aX,eX l with
  |a,b,c=>if s.b9=1 then(1+c.1,1+c.2.1,s.bg+c.2.2)
   else if s.b9=3 then(1+max a.1 b.1+c.1,max a.2.1 b.2.1+c.2.1,s.bg+max a.2.2 b.2.2+c.2.2)
   else if s.b9=4 then(1+s.fN*(1+a.1)+c.1,s.fN*a.2.1+c.2.1,s.fN*(s.bg+a.2.2)+c.2.2)
   else(1+c.1,c.2.1,s.bg+c.2.2)
termination_by l=>ze l
decreasing_by
 ·exact(bw (zk ..)).1
 ·exact(bw (zk ..)).2
 ·exact dY _ _
def YF(f:aS):Bool:=vn (4096<(eX f.bM).1\/8<(eX f.bM).2.1\/67108864<(eX f.bM).2.2)
def qT(f:aS):Int:=if rA f=O then 4 else if jQ f.ai≠0 then jQ f.ai else if cu (kU f) f.ax 0≠0 then cu (kU f) f.ax 0 else if b8 f J f.bM≠0 then b8 f J f.bM else if YF f=J then 4 else 0
def av1:bu:=dA
abbrev aq8:=Bool×bq
def d208:Td 1 aq8:= .c [] [2] (.r 1 1 (ec 2 qb en) (sb 0 256 (lg 256) sn) (λz=>(z.1.1,z.2.1)) (λx=>((x.1,()),(x.2,()))))
def ayG:=(lc (qp 0 0) ln)
def azT:=(sb 0 256 (lg 256) sn)
def aop:An:=(noTwo (.two (.rb [] 2) .no))
def aA7:∀f∈([]:af Nat),bA (av1) f:=aH
def kH(b0:bq):aq8:=
 let r1:Bool:=bif b0.fM then J else vn (1024<b0.bH);(r1,b0)
def aFe(b0:bq):bZ vp (av1) 300 (aop) 208 (ayG.c ((),())) (azT.d (b0,())) 1 d208.rd=V (kH b0):=by
 refine Eq.trans (b:=(
  match bif b0.fM then V (J)else V (vn (1024<b0.bH))with|G=>G|V r1=>V ((r1,b0)):aa aq8)) aY ?_
 simp only[kH,cq,cO]
def amM:bu->bu:=eY vp 208 1 ayG azT d208 (λg=>V (kH g.2.1))
def NL:EO amM:=λh=>kY (F:=av1) (an:=aop) (l:=[(.skip,(.rb [] 2))]) func208 aV (aA aA7 aH) h (c:=λg=>aFe g.2.1)
abbrev tV:=bq
def d209:Td 1 tV:= .c [] [] (.r 1 1 en (sb 0 256 (lg 256) sn) (λz=>z.2.1) (λx=>((()),(x,()))))
def au2:=(lc (qp 0 0) (lc (qg 137) (aU ln)))
def avj:=(sb 0 256 (lg 256) sn)
def atc(M:az->Int->bq->aa tV):bu->bu:=eY vp 209 1 au2 avj d209 (λg=>M g.1.2.1 g.1.2.2.1 g.2.1)
def aid(M:az->Int->bq->aa tV):Prop:=HY vp 209 1 au2 avj d209 (λg=>M g.1.2.1 g.1.2.2.1 g.2.1)
def Wt{M:az->Int->bq->aa tV}(hM:aid M){F:bu}(h:bD vp F):bD vp (atc M F):=Dy hM ⟨_,func209,aY,aY⟩ (λ_=>aY) h
def asJ(M209:az->Int->bq->aa tV):bu:=(atc M209 (amM dA))
def ak5{M209}(h209:aid M209):bD vp (asJ M209):=(Wt h209 (NL aV))
structure Dw where
 t2:Int
 t29:List az
 (t30 t31:Int)
 b0:bq
def UD:Td 1 Dw:= .c [] [0,2,29,30,31] (.r 1 1 (ec 0 (qp 0 0) (ec 2 aP (ec 29 (ql 137) (ec 30 aP (ec 31 aP en))))) (sb 0 256 (lg 256) sn) (λz=>⟨z.1.2.1,z.1.t.1,z.1.t.2.1,z.1.q.1,z.2.1⟩) (λx=>(((),x.t2,x.t29,x.t30,x.t31,()),(x.b0,()))))
def L0(M209:az->Int->bq->aa tV)(p:Dw):aa (aa Dw):=
 bif vn (p.t31<p.t30)then if 0<=p.t31/\p.t31<zY p.t29 then match M209 (az.mk p.t29[zq p.t31]!.bF p.t29[zq p.t31]!.fN p.t29[zq p.t31]!.aq) (ak (p.t2+1)) p.b0 with|G=>G|V r1=>V (V (Dw.mk p.t2 p.t29 p.t30 (ak (p.t31+1)) r1))else G else V (G)
def HT(M209:az->Int->bq->aa tV):=bI (L0 M209)
def apL(M209:az->Int->bq->aa tV):An:=(noTwo (noTwo (noTwo (noTwo (noTwo (UD.lp (HT M209) .no))))))
def aBm(M209:az->Int->bq->aa tV):gu vp (asJ M209) 1 300 209 (apL M209):=cH (l:=[(bk f209 0,(UD.lp (HT M209) .no))]) func209 (bT aY) aY (aA (aO UD) aH)
def alN(M209:az->Int->bq->aa tV)(a1:az)(a2:Int)(b0:bq):aa tV:=
 bif b0.fM then bif(kH (bq.mk (ak (b0.bH+1)) J)).fst then V ((kH (bq.mk (ak (b0.bH+1)) J)).snd)else match HT M209 (Dw.mk a2 a1.aq (zY a1.aq) 0 (kH (bq.mk (ak (b0.bH+1)) J)).snd)with|G=>G|V r2=>bif vn (r2.t31<r2.t30)then if 0<=r2.t31/\r2.t31<zY r2.t29 then match M209 (az.mk r2.t29[zq r2.t31]!.bF r2.t29[zq r2.t31]!.fN r2.t29[zq r2.t31]!.aq) (ak (r2.t2+1)) r2.b0 with|G=>G|V r3=>G else G else V (r2.b0)else bif(kH (bq.mk (ak (b0.bH+1)) (vn (12<a2)))).fst then V ((kH (bq.mk (ak (b0.bH+1)) (vn (12<a2)))).snd)else match HT M209 (Dw.mk a2 a1.aq (zY a1.aq) 0 (kH (bq.mk (ak (b0.bH+1)) (vn (12<a2)))).snd)with|G=>G|V r4=>bif vn (r4.t31<r4.t30)then if 0<=r4.t31/\r4.t31<zY r4.t29 then match M209 (az.mk r4.t29[zq r4.t31]!.bF r4.t29[zq r4.t31]!.fN r4.t29[zq r4.t31]!.aq) (ak (r4.t2+1)) r4.b0 with|G=>G|V r5=>G else G else V (r4.b0)
def aFc(M209:az->Int->bq->aa tV)(a1:az)(a2:Int)(b0:bq):bZ vp (asJ M209) 300 (apL M209) 209 (au2.c ((),a1,a2,())) (avj.d (b0,())) 1 d209.rd=alN M209 a1 a2 b0:=aY
def ao9:Nat->(az->Int->bq->aa tV)
 |0=>(λ_ _ _=>G)
 |n+1=>(alN (ao9 n))
def Un(n:Nat):az->Int->bq->aa tV:=(ao9 n)
def N9:∀n,aid (Un n)
 |0=>λ_ _ h=>(by cases h)
 |n+1=>by
  have ih:=N9 n;have i209:=ih;exact(Wv (ak5 i209) (aBm (Un n)) (λ_=>aY) (λ_=>aY) (λ_=>aY) λg=>aFc (Un n) g.1.2.1 g.1.2.2.1 g.2.1)
def Ms:az->Int->bq->aa tV:=λa1 a2 b0=>lim (λn=>Un n a1 a2 b0)
def aoi:aid Ms:=λg b h=>by
 obtain⟨n,hn⟩:=dy (show lim (λn=>Un n g.1.2.1 g.1.2.2.1 g.2.1)=V b from h);exact(N9 n) g b hn
def atL(F:bu):bu:=atc Ms F
def Xf{F:bu}(h:bD vp F):bD vp (atL F):=Wt aoi h
abbrev tT:=bq
def d207:Td 1 tT:= .c [] [] (.r 1 1 en (sb 0 256 (lg 256) sn) (λz=>z.2.1) (λx=>((()),(x,()))))
def arj:=(lc (qp 0 0) (lc (ql 166) (aU ln)))
def awd:=(sb 0 256 (lg 256) sn)
def avt(M:(af aB)->Int->bq->aa tT):bu->bu:=eY vp 207 1 arj awd d207 (λg=>M g.1.2.1 g.1.2.2.1 g.2.1)
def al5(M:(af aB)->Int->bq->aa tT):Prop:=HY vp 207 1 arj awd d207 (λg=>M g.1.2.1 g.1.2.2.1 g.2.1)
def WH{M:(af aB)->Int->bq->aa tT}(hM:al5 M){F:bu}(h:bD vp F):bD vp (avt M F):=Dy hM ⟨_,func207,aY,aY⟩ (λ_=>aY) h
def avL(M207:(af aB)->Int->bq->aa tT):bu:=(atL (amM (avt M207 dA)))
def aju{M207}(h207:al5 M207):bD vp (avL M207):=(Xf (NL (WH h207 aV)))
structure Cv where
 t2:Int
 t8:List aB
 (t9 t10:Int)
 b0:bq
def UO:Td 1 Cv:= .c [] [0,2,8,9,10] (.r 1 1 (ec 0 (qp 0 0) (ec 2 aP (ec 8 (ql 166) (ec 9 aP (ec 10 aP en))))) (sb 0 256 (lg 256) sn) (λz=>⟨z.1.2.1,z.1.t.1,z.1.t.2.1,z.1.q.1,z.2.1⟩) (λx=>(((),x.t2,x.t8,x.t9,x.t10,()),(x.b0,()))))
def FP(M207:(af aB)->Int->bq->aa tT)(p:Cv):aa (aa Cv):=
 bif vn (p.t10<p.t9)then if 0<=p.t10/\p.t10<zY p.t8 then bif p.b0.fM then bif(kH (bq.mk (ak (p.b0.bH+1)) J)).fst then V (G)else match Ms (az.mk p.t8[zq p.t10]!.aF.bF p.t8[zq p.t10]!.aF.fN p.t8[zq p.t10]!.aF.aq) 1 (kH (bq.mk (ak (p.b0.bH+1)) J)).snd with|G=>G|V r1=>match M207 p.t8[zq p.t10]!.aQ (ak (p.t2+1)) r1 with|G=>G|V r2=>match M207 p.t8[zq p.t10]!.aX (ak (p.t2+1)) r2 with|G=>G|V r3=>V (V (Cv.mk p.t2 p.t8 p.t9 (ak (p.t10+1)) r3))else bif(kH (bq.mk (ak (p.b0.bH+1)) (vn (12<(((),p.t2,p.t8,p.t9,p.t10,()),p.b0,()).fst.snd.fst)))).fst then V (G)else match Ms (az.mk p.t8[zq p.t10]!.aF.bF p.t8[zq p.t10]!.aF.fN p.t8[zq p.t10]!.aF.aq) 1 (kH (bq.mk (ak (p.b0.bH+1)) (vn (12<(((),p.t2,p.t8,p.t9,p.t10,()),p.b0,()).fst.snd.fst)))).snd with|G=>G|V r4=>match M207 p.t8[zq p.t10]!.aQ (ak (p.t2+1)) r4 with|G=>G|V r5=>match M207 p.t8[zq p.t10]!.aX (ak (p.t2+1)) r5 with|G=>G|V r6=>V (V (Cv.mk p.t2 p.t8 p.t9 (ak (p.t10+1)) r6))else G else V (G)
def Ni(M207:(af aB)->Int->bq->aa tT):=bI (FP M207)
def apC(M207:(af aB)->Int->bq->aa tT):An:=(noTwo (UO.lp (Ni M207) .no))
def ayB(M207:(af aB)->Int->bq->aa tT):gu vp (avL M207) 1 300 207 (apC M207):=cH (l:=[(bk f207 0,(UO.lp (Ni M207) .no))]) func207 (bT aY) aY (aA (aO UO) aH)
def aod(M207:(af aB)->Int->bq->aa tT)(a1:af aB)(a2:Int)(b0:bq):aa tT:=
 match Ni M207 (Cv.mk a2 a1 (zY a1) 0 b0)with|G=>G|V r7=>bif vn (r7.t10<r7.t9)then if 0<=r7.t10/\r7.t10<zY r7.t8 then bif r7.b0.fM then bif(kH (bq.mk (ak (r7.b0.bH+1)) J)).fst then V ((kH (bq.mk (ak (r7.b0.bH+1)) J)).snd)else match Ms (az.mk r7.t8[zq r7.t10]!.aF.bF r7.t8[zq r7.t10]!.aF.fN r7.t8[zq r7.t10]!.aF.aq) 1 (kH (bq.mk (ak (r7.b0.bH+1)) J)).snd with|G=>G|V r8=>match M207 r7.t8[zq r7.t10]!.aQ (ak (r7.t2+1)) r8 with|G=>G|V r9=>match M207 r7.t8[zq r7.t10]!.aX (ak (r7.t2+1)) r9 with|G=>G|V r10=>G else bif(kH (bq.mk (ak (r7.b0.bH+1)) (vn (12<(((),r7.t2,r7.t8,r7.t9,r7.t10,()),r7.b0,()).fst.snd.fst)))).fst then V ((kH (bq.mk (ak (r7.b0.bH+1)) (vn (12<(((),r7.t2,r7.t8,r7.t9,r7.t10,()),r7.b0,()).fst.snd.fst)))).snd)else match Ms (az.mk r7.t8[zq r7.t10]!.aF.bF r7.t8[zq r7.t10]!.aF.fN r7.t8[zq r7.t10]!.aF.aq) 1 (kH (bq.mk (ak (r7.b0.bH+1)) (vn (12<(((),r7.t2,r7.t8,r7.t9,r7.t10,()),r7.b0,()).fst.snd.fst)))).snd with|G=>G|V r11=>match M207 r7.t8[zq r7.t10]!.aQ (ak (r7.t2+1)) r11 with|G=>G|V r12=>match M207 r7.t8[zq r7.t10]!.aX (ak (r7.t2+1)) r12 with|G=>G|V r13=>G else G else V (r7.b0)
def aFH(M207:(af aB)->Int->bq->aa tT)(a1:af aB)(a2:Int)(b0:bq):bZ vp (avL M207) 300 (apC M207) 207 (arj.c ((),a1,a2,())) (awd.d (b0,())) 1 d207.rd=aod M207 a1 a2 b0:=aY
def aqQ:Nat->((af aB)->Int->bq->aa tT)
 |0=>(λ_ _ _=>G)
 |n+1=>(aod (aqQ n))
def Tc(n:Nat):(af aB)->Int->bq->aa tT:=(aqQ n)
def O2:∀n,al5 (Tc n)
 |0=>λ_ _ h=>(by cases h)
 |n+1=>by
  have ih:=O2 n;have i207:=ih;exact(Wv (aju i207) (ayB (Tc n)) (λ_=>aY) (λ_=>aY) (λ_=>aY) λg=>aFH (Tc n) g.1.2.1 g.1.2.2.1 g.2.1)
def afw:(af aB)->Int->bq->aa tT:=λa1 a2 b0=>lim (λn=>Tc n a1 a2 b0)
def ahk:al5 afw:=λg b h=>by
 obtain⟨n,hn⟩:=dy (show lim (λn=>Tc n g.1.2.1 g.1.2.2.1 g.2.1)=V b from h);exact(O2 n) g b hn
def aAC(F:bu):bu:=avt afw F
def anX{F:bu}(h:bD vp F):bD vp (aAC F):=WH ahk h
abbrev aAw:=Bool
def d260:Td 0 aAw:= .c [] [3] (.r 0 0 (ec 3 qb en) sn (λz=>z.1.1) (λx=>((x,()),(()))))
def alR(a0:bh)(c0:bh):aAw:=
 a0.fName.toList==c0.fName.toList
def aId:=eL vp 260 O (lc (qg 131) (lc (qr (lg 131)) ln)) d260 (λg=>V (alR g.1 g.2.1))
def VY:EO aId:=λh=>kL (an:= .no) func260 aV aH h
def axq:bu:=dA
structure Af where
 t0:ByteArray
 (t14 t15:Int)
def TL:Td 0 Af:= .c [] [0,14,15] (.r 0 0 (ec 0 qs (ec 14 aP (ec 15 aP en))) sn (λz=>⟨z.1.1,z.1.2.1,z.1.t.1⟩) (λx=>((x.t0,x.t14,x.t15,()),(()))))
def Iy{α:Type}(p:Af)(go:Af->aa α)(e1 e2:aa α):aa α:=
 bif vn (p.t15<p.t14)then if 0<=p.t15/\p.t15<p.t0.size then match (bif vn (97<=dh p.t0 p.t15.toNat)then V (vn (dh p.t0 p.t15.toNat<=122))else V O)with|G=>G|V r1=>match (bif bif r1 then O else J then bif vn (p.t15=0)then V J else bif vn (dh p.t0 p.t15.toNat<48)then bif bif vn (dh p.t0 p.t15.toNat=46)then O else J then V (bif vn (dh p.t0 p.t15.toNat=95)then O else J)else V O else bif vn (57<dh p.t0 p.t15.toNat)then bif bif vn (dh p.t0 p.t15.toNat=46)then O else J then V (bif vn (dh p.t0 p.t15.toNat=95)then O else J)else V O else V O else V O)with|G=>G|V r2=>bif r2 then e1 else go (Af.mk p.t0 p.t14 (ak (p.t15+1)))else G else e2
def LF(p:Af):aa (aa Af):=
 Iy p (λs=>V (V s)) (V G) (V G)
def adp:An:=(noTwo (noTwo (.two (noTwo (noTwo (.two (.rb [] 5) (.two (.rb [] 48) .no)))) .no)))
def NO:=bI (LF)
abbrev aBt:=Bool
def d261:Td 0 aBt:= .c [] [2] (.r 0 0 (ec 2 qb en) sn (λz=>z.1.1) (λx=>((x,()),(()))))
def afq:∀f∈([]:af Nat),bA (axq) f:=aH
def Zx(a0:ByteArray):aa aBt:=
 match (bif a0.toList==(ByteArray.mk (Array.mk [])).toList then V J else V (vn (40<(a0.size:Int))))with|G=>G|V r3=>bif r3 then V O else match NO (Af.mk a0 a0.size 0)with|G=>G|V r4=>Iy r4 (λ_=>G) (V O) (V J)
def aDC:=eL vp 261 O (lc qs ln) d261 (λg=>Zx g.1)
def WJ:EO aDC:=λh=>kL (F:=axq) (an:=(noTwo (.two (.two (.rb [] 12) .no) (.two (noTwo (TL.lp NO adp)) .no)))) (l:=[(.skip,(.rb [] 12)),(bk f261 0,(TL.lp NO adp)),(.skip,(.rb [] 5)),(.skip,(.rb [] 48))]) func261 aV (aA afq (aA (aO TL) (aA afq (aA afq aH)))) h
structure uG where
 t0:List bh
 uQ:ByteArray
 (vI vS vM vw t7 t8:Int)
def TB:Td 0 uG:= .c [] [0,1,7,8] (.r 0 0 (ec 0 (ql 131) (ec 1 (qf 260 (lc (qr (lc qs (aU (aU (aU (aU ln)))))) ln)) (ec 7 aP (ec 8 aP en)))) sn (λz=>⟨z.1.1,z.1.2.1.1.1,z.1.2.1.1.2.1,z.1.2.1.1.t.1,z.1.2.1.1.t.2.1,z.1.2.1.1.q.1,z.1.t.1,z.1.t.2.1⟩) (λx=>((x.t0,((x.uQ,x.vI,x.vS,x.vM,x.vw,()),()),x.t7,x.t8,()),(()))))
def IP{α:Type}(p:uG)(go:uG->aa α)(e1 e2:aa α):aa α:=
 bif vn (p.t8<p.t7)then if 0<=p.t8/\p.t8<zY p.t0 then bif alR p.t0[zq p.t8]! (bh.mk p.uQ p.vI p.vS p.vM p.vw)then e1 else go (uG.mk p.t0 p.uQ p.vI p.vS p.vM p.vw p.t7 (ak (p.t8+1)))else G else e2
def KP(p:uG):aa (aa uG):=
 IP p (λs=>V (V s)) (V G) (V G)
def KD:=bI (KP)
abbrev azK:=Int
def d303:Td 0 azK:= .c [] [4] (.r 0 0 (ec 4 aP en) sn (λz=>z.1.1) (λx=>((x,()),(()))))
def ata(a0:af bh)(a1_0:bh):aa azK:=
 match KD (uG.mk a0 a1_0.fName a1_0.bS a1_0.ah a1_0.ag a1_0.gJ (zY a0) 0)with|G=>G|V r1=>IP r1 (λ_=>G) (V (r1.t8)) (V (-1))
def aGb:=eL vp 303 J (lc (ql 131) (lc (qf 260 (lc (qr (lg 131)) ln)) ln)) d303 (λg=>ata g.1 g.2.1.1)
def ah7:EO aGb:=λh=>kL (an:=(noTwo (.two (noTwo (TB.lp KD .no)) .no))) (l:=[(bk f303 0,(TB.lp KD .no))]) func303 (VY aV) (aA (aO TB) aH) h
abbrev axh:=Bool
def d262:Td 0 axh:= .c [] [4] (.r 0 0 (ec 4 qb en) sn (λz=>z.1.1) (λx=>((x,()),(()))))
def ale(a0:af bh)(a1_0:bh):aa axh:=
 match ata a0 a1_0 with|G=>G|V r1=>V (vn (0<=r1))
def ayU:=eL vp 262 J (lc (ql 131) (lc (qf 260 (lc (qr (lg 131)) ln)) ln)) d262 (λg=>ale g.1 g.2.1.1)
def akF:EO ayU:=λh=>kL (an:= .no) func262 (ah7 (VY aV)) aH h
def avx:bu:=dA
abbrev av7:=Bool
def d263:Td 0 av7:= .c [] [4] (.r 0 0 (ec 4 qb en) sn (λz=>z.1.1) (λx=>((x,()),(()))))
def az5:=(aU (aU ln))
def aqK:An:=(noTwo (.two (.rb [] 4) .no))
def ayL:∀f∈([]:af Nat),bA (avx) f:=aH
def PB(a0:Int)(a1:Int):av7:=
 let r1:Bool:=bif vn (a0<=a1)then bif vn (-1048576<=a0)then vn (a1<=1048576)else O else O;r1
def aEQ(a0:Int)(a1:Int):bZ vp (avx) 300 (aqK) 263 (az5.c (a0,a1,())) [] 0 d263.rd=V (PB a0 a1):=by
 refine Eq.trans (b:=(
  match bif vn (a0<=a1)then bif vn (-1048576<=a0)then V (vn (a1<=1048576))else V (O)else V (O)with|G=>G|V r1=>V (r1):aa av7)) aY ?_
 simp only[PB,cq,cO]
def aBg:=eL vp 263 O az5 d263 (λg=>V (PB g.1 g.2.1))
def V2:EO aBg:=λh=>kL (F:=avx) (an:=aqK) (l:=[(.skip,(.rb [] 4))]) func263 aV (aA ayL aH) h (c:=λg=>aEQ g.1 g.2.1)
abbrev axQ:=Int
def d337:Td 0 axQ:= .c [] [2] (.r 0 0 (ec 2 aP en) sn (λz=>z.1.1) (λx=>((x,()),(()))))
def Zg(a0:bh):axQ:=
 ak (ak (a0.ag-a0.ah)+1)
def azn:=eL vp 337 O (lc (qg 131) ln) d337 (λg=>V (Zg g.1))
def aje:EO azn:=λh=>kL (an:= .no) func337 aV aH h
def aye:bu:=(azn dA)
structure nG where
 t7:List bh
 t10:Int
 t49:List bh
 (t50 t51:Int)
def Uc:Td 0 nG:= .c [] [7,10,49,50,51] (.r 0 1 (ec 7 (qo 0) (ec 10 aP (ec 49 (qo 0) (ec 50 aP (ec 51 aP en))))) (sr 0 131 sn) (λz=>⟨z.2.1,z.1.2.1,z.2.1,z.1.t.2.1,z.1.q.1⟩) (λx=>(((),x.t10,(),x.t50,x.t51,()),(x.t49,()))))
def qW{α:Type}(p:nG)(go:nG->aa α)(e1 e2:aa α):aa α:=
 bif vn (p.t51<p.t50)then if 0<=p.t51/\p.t51<zY p.t49 then if 131=131/\zq p.t51<zY p.t49 then bif vn (4096<ak (p.t10*Zg p.t49[zq p.t51]!))then e1 else go (nG.mk p.t49 (ak (p.t10*Zg p.t49[zq p.t51]!)) p.t49 p.t50 (ak (p.t51+1)))else G else G else e2
def M1(p:nG):aa (aa nG):=
 qW p (λs=>V (V s)) (V G) (V G)
def vE:=bI (M1)
structure mR where
 t1:Int
 (t7 t19:List bh)
 (t20 t21:Int)
def Tm:Td 0 mR:= .c [] [1,7,19,20,21] (.t (b6.s 7 [] 131) (.c [] [1,7,19,20,21] (.r 0 1 (ec 1 aP (ec 7 (qo 0) (ec 19 (ql 131) (ec 20 aP (ec 21 aP en))))) (sr 0 131 sn) (λz=>⟨z.1.1,z.2.1,z.1.t.1,z.1.t.2.1,z.1.q.1⟩) (λx=>((x.t1,(),x.t19,x.t20,x.t21,()),(x.t7,()))))))
def pW{α:Type}(p:mR)(go:mR->aa α)(e1 e2:aa α):aa α:=
 bif vn (p.t21<p.t20)then if 0<=p.t21/\p.t21<zY p.t19 then bif bif vn (p.t19[zq p.t21]!.bS=p.t1)then O else J then go (mR.mk p.t1 p.t7 p.t19 p.t20 (ak (p.t21+1)))else match (bif vn (p.t19[zq p.t21]!.ag<p.t19[zq p.t21]!.ah)then V J else bif vn (p.t19[zq p.t21]!.ah< -1048576)then V J else V (vn (1048576<p.t19[zq p.t21]!.ag)))with|G=>G|V r1=>bif r1 then e1 else if(p.t7++[p.t19[zq p.t21]!]).length<=1073741824 then go (mR.mk p.t1 (p.t7++[p.t19[zq p.t21]!]) p.t19 p.t20 (ak (p.t21+1)))else G else G else e2
def Ij(p:mR):aa (aa mR):=
 pW p (λs=>V (V s)) (V G) (V G)
def afZ:An:=(noTwo (noTwo (.two (noTwo (noTwo (.two (.two (.rb [] 43) .no) .no))) .no)))
def uA:=bI (Ij)
abbrev aBq:=(af bh)×Int×Int
def d304:Td 0 aBq:= .c [] [4,5,6] (.t (b6.s 4 [] 131) (.c [] [4,5,6] (.r 0 1 (ec 4 (qo 0) (ec 5 aP (ec 6 aP en))) (sr 0 131 sn) (λz=>(z.2.1,z.1.2.1,z.1.t.1)) (λx=>(((),x.2.1,x.t,()),(x.1,()))))))
def aDE:∀f∈([]:af Nat),bA (aye) f:=aH
def arl(a0:af bh)(a1:Int):aa aBq:=
 bif vn (a1=0)then match uA (mR.mk a1 [] a0 (zY a0) 0)with|G=>G|V r2=>pW r2 (λ_=>G) (V ([],0,3)) (match vE (nG.mk r2.t7 1 r2.t7 (zY r2.t7) 0)with|G=>G|V r4=>qW r4 (λ_=>G) (V ([],0,4)) (V (r4.t49,r4.t10,0)))else bif vn (a1=1)then match uA (mR.mk a1 [] a0 (zY a0) 0)with|G=>G|V r5=>pW r5 (λ_=>G) (V ([],0,3)) (match vE (nG.mk r5.t7 1 r5.t7 (zY r5.t7) 0)with|G=>G|V r7=>qW r7 (λ_=>G) (V ([],0,4)) (V (r7.t49,r7.t10,0)))else bif vn (a1=2)then match uA (mR.mk a1 [] a0 (zY a0) 0)with|G=>G|V r8=>pW r8 (λ_=>G) (V ([],0,3)) (match vE (nG.mk r8.t7 1 r8.t7 (zY r8.t7) 0)with|G=>G|V r10=>qW r10 (λ_=>G) (V ([],0,4)) (V (r10.t49,r10.t10,0)))else bif vn (a1=3)then match uA (mR.mk a1 [] a0 (zY a0) 0)with|G=>G|V r11=>pW r11 (λ_=>G) (V ([],0,3)) (match vE (nG.mk r11.t7 1 r11.t7 (zY r11.t7) 0)with|G=>G|V r13=>qW r13 (λ_=>G) (V ([],0,4)) (V (r13.t49,r13.t10,0)))else V ([],0,1)
def aG7:=eL vp 304 O (lc (ql 131) (aU ln)) d304 (λg=>arl g.1 g.2.1)
def ake:EO aG7:=λh=>kL (F:=aye) (an:=(noTwo (noTwo (noTwo (.two (noTwo (Tm.lp uA afZ)) (noTwo (.two (noTwo (Uc.lp vE .no)) .no))))))) (l:=[(bk f304 0,(Tm.lp uA afZ)),(.skip,(.rb [] 43)),(bk f304 1,(Uc.lp vE .no))]) func304 (aje aV) (aA (aO Tm) (aA aDE (aA (aO Uc) aH))) h
abbrev aAr:=Int×Int
def d264:Td 0 aAr:= .c [] [4,5] (.r 0 0 (ec 4 aP (ec 5 aP en)) sn (λz=>(z.1.1,z.1.2.1)) (λx=>((x.1,x.2,()),(()))))
def akS(a0:af bh)(a1:Int):aa aAr:=
 match arl a0 a1 with|G=>G|V r1=>V (r1.snd)
def axe:=eL vp 264 O (lc (ql 131) (aU ln)) d264 (λg=>akS g.1 g.2.1)
def ahi:EO axe:=λh=>kL (an:= .no) func264 (ake aV) aH h
def aAt:bu:=(axe (aBg (ayU (aDC dA))))
structure vZ where
 t0:List bh
 t71:List Int
 (t72 t73:Int)
def Sb:Td 0 vZ:= .c [] [0,71,72,73] (.r 0 1 (ec 0 (ql 131) (ec 71 (qo 0) (ec 72 aP (ec 73 aP en)))) (sr 0 129 sn) (λz=>⟨z.1.1,z.2.1,z.1.t.1,z.1.t.2.1⟩) (λx=>((x.t0,(),x.t72,x.t73,()),(x.t71,()))))
def vz{α:Type}(p:vZ)(go:vZ->aa α)(e1 e2:aa α):aa α:=
 bif vn (p.t73<p.t72)then if 0<=p.t73/\p.t73<zY p.t71 then if 129=129/\zq p.t73<zY p.t71 then match akS p.t0 p.t71[zq p.t73]! with|G=>G|V r6=>match (bif bif vn (r6.snd=0)then O else J then V J else bif vn (((p.t0,(),p.t72,p.t73,()),p.t71,()).snd.fst[((p.t0,(),p.t72,p.t73,()),p.t71,()).fst.snd.snd.snd.fst.toNat]! =3)then V (vn (256<r6.fst))else V O)with|G=>G|V r7=>bif r7 then e1 else go (vZ.mk p.t0 p.t71 p.t72 (ak (p.t73+1)))else G else G else e2
def rU(p:vZ):aa (aa vZ):=
 vz p (λs=>V (V s)) (V G) (V G)
def aeh:An:=(noTwo (noTwo (.two (noTwo (noTwo (.two (.rb [] 92) .no))) .no)))
def rE:=bI (rU)
structure uP where
 (t0 t10:List bh)
 (t11 t12:Int)
def SE:Td 0 uP:= .c [] [0,10,11,12] (.r 0 0 (ec 0 (ql 131) (ec 10 (ql 131) (ec 11 aP (ec 12 aP en)))) sn (λz=>⟨z.1.1,z.1.2.1,z.1.t.1,z.1.t.2.1⟩) (λx=>((x.t0,x.t10,x.t11,x.t12,()),(()))))
def IA{α:Type}(p:uP)(go:uP->aa α)(e1 e2 e3 e4 e5:aa α):aa α:=
 bif vn (p.t12<p.t11)then if 0<=p.t12/\p.t12<zY p.t10 then match Zx p.t10[zq p.t12]!.fName with|G=>G|V r1=>bif bif r1 then O else J then e1 else if 0<=p.t12/\p.t12<=zY p.t0 then match ale (List.take p.t12.toNat p.t0) p.t10[zq p.t12]! with|G=>G|V r2=>bif r2 then e2 else match (bif vn (p.t10[zq p.t12]!.bS<0)then V J else V (vn (3<p.t10[zq p.t12]!.bS)))with|G=>G|V r3=>bif r3 then e3 else bif bif PB p.t10[zq p.t12]!.ah p.t10[zq p.t12]!.ag then O else J then e4 else match (bif bif vn (p.t10[zq p.t12]!.bS=0)then O else J then V (bif vn (p.t10[zq p.t12]!.gJ=0)then O else J)else V O)with|G=>G|V r4=>bif r4 then e4 else match (bif vn (p.t10[zq p.t12]!.bS=0)then bif vn (p.t10[zq p.t12]!.gJ<p.t10[zq p.t12]!.ah)then V J else V (vn (p.t10[zq p.t12]!.ag<p.t10[zq p.t12]!.gJ))else V O)with|G=>G|V r5=>bif r5 then e4 else go (uP.mk p.t0 p.t10 p.t11 (ak (p.t12+1)))else G else G else e5
def CN(p:uP):aa (aa uP):=
 IA p (λs=>V (V s)) (V G) (V G) (V G) (V G) (V G)
def ad8:An:=(noTwo (noTwo (.two (noTwo (noTwo (noTwo (noTwo (noTwo (noTwo (.two (.rb [] 29) (noTwo (.two (noTwo (noTwo (.two (.rb [] 38) (noTwo (.rb [] 38))))) .no))))))))) .no)))
def NB:=bI (CN)
abbrev az0:=Int
def d210:Td 0 az0:= .c [] [2] (.r 0 0 (ec 2 aP en) sn (λz=>z.1.1) (λx=>((x,()),(()))))
def VP:∀f∈([]:af Nat),bA (aAt) f:=aH
def ahM(a0:af bh):aa az0:=
 match NB (uP.mk a0 a0 (zY a0) 0)with|G=>G|V r8=>IA r8 (λ_=>G) (V 7) (V 8) (V 1) (V 3) (match rE (vZ.mk r8.t0 [1,2,3] (3:Int) 0)with|G=>G|V r14=>vz r14 (λ_=>G) (V 4) (V 0))
def ayr:=eL vp 210 O (lc (ql 131) ln) d210 (λg=>ahM g.1)
def aio:EO ayr:=λh=>kL (F:=aAt) (an:=(noTwo (.two (noTwo (SE.lp NB ad8)) (.two (noTwo (Sb.lp rE aeh)) .no)))) (l:=[(bk f210 0,(SE.lp NB ad8)),(.skip,(.rb [] 29)),(.skip,(.rb [] 38)),(.skip,(.rb [] 38)),(bk f210 1,(Sb.lp rE aeh)),(.skip,(.rb [] 92))]) func210 (ahi (V2 (akF (WJ aV)))) (aA (aO SE) (aA VP (aA VP (aA VP (aA (aO Sb) (aA VP aH)))))) h
abbrev az4:=Bool
def d265:Td 0 az4:= .c [] [3] (.r 0 0 (ec 3 qb en) sn (λz=>z.1.1) (λx=>((x,()),(()))))
def ail(a0:dN)(c0:dN):az4:=
 a0.fName.toList==c0.fName.toList
def aFX:=eL vp 265 O (lc (qg 139) (lc (qr (lg 139)) ln)) d265 (λg=>V (ail g.1 g.2.1))
def Yx:EO aFX:=λh=>kL (an:= .no) func265 aV aH h
structure uL where
 t0:List dN
 uQ:ByteArray
 (vI vS vM vw:Int)
 UI:List az
 (t7 t8:Int)
def Sh:Td 0 uL:= .c [] [0,1,7,8] (.r 0 0 (ec 0 (ql 139) (ec 1 (qf 265 (lc (qr (lc qs (aU (aU (aU (aU (lc (ql 137) ln))))))) ln)) (ec 7 aP (ec 8 aP en)))) sn (λz=>⟨z.1.1,z.1.2.1.1.1,z.1.2.1.1.2.1,z.1.2.1.1.t.1,z.1.2.1.1.t.2.1,z.1.2.1.1.q.1,z.1.2.1.1.q.2.1,z.1.t.1,z.1.t.2.1⟩) (λx=>((x.t0,((x.uQ,x.vI,x.vS,x.vM,x.vw,x.UI,()),()),x.t7,x.t8,()),(()))))
def Ib{α:Type}(p:uL)(go:uL->aa α)(e1 e2:aa α):aa α:=
 bif vn (p.t8<p.t7)then if 0<=p.t8/\p.t8<zY p.t0 then bif ail (dN.mk p.t0[zq p.t8]!.fName p.t0[zq p.t8]!.ah p.t0[zq p.t8]!.ag (az.mk p.t0[zq p.t8]!.aF.bF p.t0[zq p.t8]!.aF.fN p.t0[zq p.t8]!.aF.aq)) (dN.mk p.uQ p.vI p.vS (az.mk p.vM p.vw p.UI))then e1 else go (uL.mk p.t0 p.uQ p.vI p.vS p.vM p.vw p.UI p.t7 (ak (p.t8+1)))else G else e2
def MW(p:uL):aa (aa uL):=
 Ib p (λs=>V (V s)) (V G) (V G)
def N1:=bI (MW)
abbrev aC6:=Int
def d305:Td 0 aC6:= .c [] [4] (.r 0 0 (ec 4 aP en) sn (λz=>z.1.1) (λx=>((x,()),(()))))
def auq(a0:af dN)(a1_0:dN):aa aC6:=
 match N1 (uL.mk a0 a1_0.fName a1_0.ah a1_0.ag a1_0.aF.bF a1_0.aF.fN a1_0.aF.aq (zY a0) 0)with|G=>G|V r1=>Ib r1 (λ_=>G) (V (r1.t8)) (V (-1))
def aHc:=eL vp 305 J (lc (ql 139) (lc (qf 265 (lc (qr (lg 139)) ln)) ln)) d305 (λg=>auq g.1 g.2.1.1)
def anE:EO aHc:=λh=>kL (an:=(noTwo (.two (noTwo (Sh.lp N1 .no)) .no))) (l:=[(bk f305 0,(Sh.lp N1 .no))]) func305 (Yx aV) (aA (aO Sh) aH) h
abbrev aA9:=Bool
def d266:Td 0 aA9:= .c [] [4] (.r 0 0 (ec 4 qb en) sn (λz=>z.1.1) (λx=>((x,()),(()))))
def ack(a0:af dN)(a1_0:dN):aa aA9:=
 match auq a0 (dN.mk a1_0.fName a1_0.ah a1_0.ag (az.mk a1_0.aF.bF a1_0.aF.fN a1_0.aF.aq))with|G=>G|V r1=>V (vn (0<=r1))
def aE6:=eL vp 266 J (lc (ql 139) (lc (qf 265 (lc (qr (lg 139)) ln)) ln)) d266 (λg=>ack g.1 g.2.1.1)
def akj:EO aE6:=λh=>kL (an:= .no) func266 (anE (Yx aV)) aH h
def atG:bu:=dA
abbrev asD:=Int×Int
def d338:Td 0 asD:= .c [] [2,3] (.r 0 0 (ec 2 aP (ec 3 aP en)) sn (λz=>(z.1.1,z.1.2.1)) (λx=>((x.1,x.2,()),(()))))
def aAQ:=(aU ln)
def apn:An:=(noTwo (.two (.two (.rb [] 4) (noTwo (.two (.rb [] 11) (noTwo (.two (.rb [] 18) .no))))) .no))
def aa6:∀f∈([]:af Nat),bA (atG) f:=aH
def Rx(a0:Int):asD:=
 let r1:Bool:=bif vn (a0=0)then J else vn (a0=24);bif r1 then(0,0)else let r2:Bool:=bif vn (a0=6)then J else vn (a0=7);bif r2 then(1,1)else let r3:Bool:=bif vn (8<=a0)then vn (a0<=22)else O;bif r3 then(2,2)else bif vn (a0=23)then(3,3)else bif vn (a0=25)then(2,33)else(-1,-1)
def aGj(a0:Int):bZ vp (atG) 300 (apn) 338 (aAQ.c (a0,())) [] 0 d338.rd=V (Rx a0):=by
 refine Eq.trans (b:=(
  match bif vn (a0=0)then V (J)else V (vn (a0=24))with|G=>G|V r1=>bif r1 then V ((0,0))else match bif vn (a0=6)then V (J)else V (vn (a0=7))with|G=>G|V r2=>bif r2 then V ((1,1))else match bif vn (8<=a0)then V (vn (a0<=22))else V (O)with|G=>G|V r3=>bif r3 then V ((2,2))else bif vn (a0=23)then V ((3,3))else bif vn (a0=25)then V ((2,33))else V ((-1,-1)):aa asD)) aY ?_
 simp only[Rx,cq,cO]
def azj:=eL vp 338 O aAQ d338 (λg=>V (Rx g.1))
def alr:EO azj:=λh=>kL (F:=atG) (an:=apn) (l:=[(.skip,(.rb [] 4)),(.skip,(.rb [] 11)),(.skip,(.rb [] 18))]) func338 aV (aA aa6 (aA aa6 (aA aa6 aH))) h (c:=λg=>aGj g.1)
abbrev tQ:=Bool
def d306:Td 0 tQ:= .c [] [6] (.r 0 0 (ec 6 qb en) sn (λz=>z.1.1) (λx=>((x,()),(()))))
def asU:=(lc (ql 131) (lc (qg 137) (lc qb ln)))
def atK(M:(af bh)->az->Bool->aa tQ):bu->bu:=eL vp 306 O asU d306 (λg=>M g.1 g.2.1 g.2.2.1)
def aiX(M:(af bh)->az->Bool->aa tQ):Prop:=HL vp 306 asU d306 (λg=>M g.1 g.2.1 g.2.2.1)
def W2{M:(af bh)->az->Bool->aa tQ}(hM:aiX M){F:bu}(h:bD vp F):bD vp (atK M F):=gm (sc:=Bf) eo hM ⟨_,func306,aY,aY⟩ (λ_=>aY) (λ_=>aY) h
def ag4(M306:(af bh)->az->Bool->aa tQ):bu:=(azj (atK M306 dA))
def alm{M306}(h306:aiX M306):bD vp (ag4 M306):=(alr (W2 h306 aV))
structure vN where
 t0:List bh
 t2:Bool
 t65:List az
 (t66 t67:Int)
def SR:Td 0 vN:= .c [] [0,2,65,66,67] (.r 0 0 (ec 0 (ql 131) (ec 2 qb (ec 65 (ql 137) (ec 66 aP (ec 67 aP en))))) sn (λz=>⟨z.1.1,z.1.2.1,z.1.t.1,z.1.t.2.1,z.1.q.1⟩) (λx=>((x.t0,x.t2,x.t65,x.t66,x.t67,()),(()))))
def Nn(M306:(af bh)->az->Bool->aa tQ)(p:vN):aa (aa vN):=
 bif vn (p.t67<p.t66)then if 0<=p.t67/\p.t67<zY p.t65 then match M306 p.t0 (az.mk p.t65[zq p.t67]!.bF p.t65[zq p.t67]!.fN p.t65[zq p.t67]!.aq) p.t2 with|G=>G|V r1=>bif bif r1 then O else J then V (G)else V (V (vN.mk p.t0 p.t2 p.t65 p.t66 (ak (p.t67+1))))else G else V (G)
def Dr(M306:(af bh)->az->Bool->aa tQ):=bI (Nn M306)
def aqf(M306:(af bh)->az->Bool->aa tQ):An:=(noTwo (noTwo (.two (.two (.rb [] 32) .no) (.two (noTwo (noTwo (noTwo (noTwo (.two (.two (.rb [] 63) .no) .no))))) (.two (noTwo (SR.lp (Dr M306) .no)) .no)))))
def apQ{M306}:∀f∈([]:af Nat),bA (ag4 M306) f:=aH
def aC2(M306:(af bh)->az->Bool->aa tQ):gu vp (ag4 M306) 0 300 306 (aqf M306):=cH (l:=[(.skip,(.rb [] 32)),(.skip,(.rb [] 63)),(bk f306 0,(SR.lp (Dr M306) .no))]) func306 (bT aY) aY (aA apQ (aA apQ (aA (aO SR) aH)))
def al9(M306:(af bh)->az->Bool->aa tQ)(a0:af bh)(a1:az)(a2:Bool):aa tQ:=
 match bif vn ((Rx a1.bF).fst<0)then V J else bif vn ((zY a1.aq:Int)<(Rx a1.bF).fst)then V J else V (vn ((Rx a1.bF).snd<zY a1.aq))with|G=>G|V r2=>bif r2 then V O else bif vn (a1.bF=0)then match Dr M306 (vN.mk a0 a2 a1.aq (zY a1.aq) 0)with|G=>G|V r3=>bif vn (r3.t67<r3.t66)then if 0<=r3.t67/\r3.t67<zY r3.t65 then match M306 r3.t0 (az.mk r3.t65[zq r3.t67]!.bF r3.t65[zq r3.t67]!.fN r3.t65[zq r3.t67]!.aq) r3.t2 with|G=>G|V r4=>bif bif r4 then O else J then V O else G else G else V J else bif vn (a1.bF=24)then match bif vn (a1.fN<0)then V J else bif vn (zY a0<=a1.fN)then V J else bif a2 then if 0<=a1.fN/\a1.fN<zY a0 then V (vn (a0[a1.fN.toNat]!.bS=0))else G else V O with|G=>G|V r5=>bif r5 then V O else match Dr M306 (vN.mk a0 a2 a1.aq (zY a1.aq) 0)with|G=>G|V r6=>bif vn (r6.t67<r6.t66)then if 0<=r6.t67/\r6.t67<zY r6.t65 then match M306 r6.t0 (az.mk r6.t65[zq r6.t67]!.bF r6.t65[zq r6.t67]!.fN r6.t65[zq r6.t67]!.aq) r6.t2 with|G=>G|V r7=>bif bif r7 then O else J then V O else G else G else V J else bif bif vn (a1.fN=0)then O else J then V O else match Dr M306 (vN.mk a0 a2 a1.aq (zY a1.aq) 0)with|G=>G|V r8=>bif vn (r8.t67<r8.t66)then if 0<=r8.t67/\r8.t67<zY r8.t65 then match M306 r8.t0 (az.mk r8.t65[zq r8.t67]!.bF r8.t65[zq r8.t67]!.fN r8.t65[zq r8.t67]!.aq) r8.t2 with|G=>G|V r9=>bif bif r9 then O else J then V O else G else G else V J
def aGP(M306:(af bh)->az->Bool->aa tQ)(a0:af bh)(a1:az)(a2:Bool):bZ vp (ag4 M306) 300 (aqf M306) 306 (asU.c (a0,a1,a2,())) [] 0 d306.rd=al9 M306 a0 a1 a2:=aY
def apU:Nat->((af bh)->az->Bool->aa tQ)
 |0=>(λ_ _ _=>G)
 |n+1=>(al9 (apU n))
def TP(n:Nat):(af bh)->az->Bool->aa tQ:=(apU n)
def QL:∀n,aiX (TP n)
 |0=>λ_ _ h=>(by cases h)
 |n+1=>by
  have ih:=QL n;have i306:=ih;exact(fe (alm i306) (aC2 (TP n)) (λ_=>aY) (λ_=>aY) λg=>aGP (TP n) g.1 g.2.1 g.2.2.1)
def ajq:(af bh)->az->Bool->aa tQ:=λa0 a1 a2=>lim (λn=>TP n a0 a1 a2)
def ajX:aiX ajq:=λg b h=>by
 obtain⟨n,hn⟩:=dy (show lim (λn=>TP n g.1 g.2.1 g.2.2.1)=V b from h);exact(QL n) g b hn
def aG6(F:bu):bu:=atK ajq F
def ajY{F:bu}(h:bD vp F):bD vp (aG6 F):=W2 ajX h
abbrev aB9:=Int
def d350:Td 0 aB9:= .c [] [4] (.r 0 0 (ec 4 aP en) sn (λz=>z.1.1) (λx=>((x,()),(()))))
def CO(a0:Int)(a1:Int):aB9:=
 ak (a0*a1)
def aDD:=eL vp 350 O (aU (aU ln)) d350 (λg=>V (CO g.1 g.2.1))
def VK:EO aDD:=λh=>kL (an:= .no) func350 aV aH h
def aF7:bu:=dA
abbrev atl:=Span
def d351:Td 0 atl:= .c [] [4] (.r 0 1 (ec 4 (qp 0 0) en) (sb 0 331 (lg 331) sn) (λz=>z.2.1) (λx=>(((),()),(x,()))))
def axv:=(lc (qg 331) (lc (qg 331) ln))
def aoI:An:= .no
def Z7(a0:Span)(a1:Span):atl:=
 Span.mk (if a1.ah<a0.ah then a1.ah else a0.ah) (if a0.ag<a1.ag then a1.ag else a0.ag)
def aH3(a0:Span)(a1:Span):bZ vp (aF7) 300 (aoI) 351 (axv.c (a0,a1,())) [] 0 d351.rd=V (Z7 a0 a1):=by
 refine Eq.trans (b:=(
  V (Span.mk (if a1.ah<a0.ah then a1.ah else a0.ah) (if a0.ag<a1.ag then a1.ag else a0.ag)):aa atl)) aY ?_
 simp only[Z7,cq,cO]
def aCE:=eL vp 351 O axv d351 (λg=>V (Z7 g.1 g.2.1))
def XL:EO aCE:=λh=>kL (an:=aoI) func351 aV aH h (c:=λg=>aH3 g.1 g.2.1)
structure vq where
 t38:List Int
 (t39 t40:Int)
 (b0 b1:Span)
def SS:Td 0 vq:= .c [] [6,8,38,39,40] (.r 0 3 (ec 6 (qp 0 0) (ec 8 (qp 1 0) (ec 38 (qo 2) (ec 39 aP (ec 40 aP en))))) (sb 0 331 (lg 331) (sb 1 331 (lg 331) (sr 2 3 sn))) (λz=>⟨z.t.2.1,z.1.t.2.1,z.1.q.1,z.2.1,z.t.1⟩) (λx=>(((),(),(),x.t39,x.t40,()),(x.b0,x.b1,x.t38,()))))
def vK{α:Type}(p:vq)(go:vq->aa α)(e1:aa α):aa α:=
 bif vn (p.t40<p.t39)then if 0<=p.t40/\p.t40<zY p.t38 then if 3=3/\zq p.t40<zY p.t38 then go (vq.mk p.t38 p.t39 (ak (p.t40+1)) p.b0 (Z7 p.b1 (Span.mk p.t38[zq p.t40]! p.t38[zq p.t40]!)))else G else G else e1
def ru(p:vq):aa (aa vq):=
 vK p (λs=>V (V s)) (V G)
def Gl:=bI (ru)
abbrev aCg:=Span
def d349:Td 0 aCg:= .c [] [6] (.r 0 1 (ec 6 (qp 0 0) en) (sb 0 331 (lg 331) sn) (λz=>z.2.1) (λx=>(((),()),(x,()))))
def an5(a0:Span)(a1:Span):aa aCg:=
 match Gl (vq.mk [CO a0.ah a1.ag,CO a0.ag a1.ah,CO a0.ag a1.ag] (↑[CO a0.ah a1.ag,CO a0.ag a1.ah,CO a0.ag a1.ag].length:Int) 0 (Span.mk 0 0) (Span.mk (CO a0.ah a1.ah) (CO a0.ah a1.ah)))with|G=>G|V r1=>vK r1 (λ_=>G) (V (r1.b1))
def ayv:=eL vp 349 O (lc (qg 331) (lc (qg 331) (lc (qf 350 ln) ln))) d349 (λg=>an5 g.1 g.2.1)
def akq:EO ayv:=λh=>kL (an:=(noTwo (noTwo (noTwo (.two (noTwo (SS.lp Gl .no)) .no))))) (l:=[(bk f349 0,(SS.lp Gl .no))]) func349 (XL (VK aV)) (aA (aO SS) aH) h
def axa:bu:=(aCE (aDD (ayv dA)))
structure rR where
 t207:List Span
 (t208 t209:Int)
 (b0 b1:Span)
def Tx:Td 0 rR:= .c [] [6,9,207,208,209] (.r 0 2 (ec 6 (qp 0 0) (ec 9 (qp 1 0) (ec 207 (ql 331) (ec 208 aP (ec 209 aP en))))) (sb 0 331 (lg 331) (sb 1 331 (lg 331) sn)) (λz=>⟨z.1.t.1,z.1.t.2.1,z.1.q.1,z.2.1,z.t.1⟩) (λx=>(((),(),x.t207,x.t208,x.t209,()),(x.b0,x.b1,()))))
def Dd{α:Type}(p:rR)(go:rR->aa α)(e1:aa α):aa α:=
 bif vn (p.t209<p.t208)then if 0<=p.t209/\p.t209<zY p.t207 then go (rR.mk p.t207 p.t208 (ak (p.t209+1)) p.b0 (Z7 p.b1 p.t207[zq p.t209]!))else G else e1
def Lh(p:rR):aa (aa rR):=
 Dd p (λs=>V (V s)) (V G)
def Hh:=bI (Lh)
abbrev awV:=Span
def d339:Td 0 awV:= .c [] [6] (.r 0 1 (ec 6 (qp 0 0) en) (sb 0 331 (lg 331) sn) (λz=>z.2.1) (λx=>(((),()),(x,()))))
def ay5:∀f∈([]:af Nat),bA (axa) f:=aH
def agB(a0:af bh)(a1:az)(a2:af Span):aa awV:=
 bif vn (a1.bF=0)then V (Span.mk a1.fN a1.fN)else bif vn (a1.bF=24)then if 0<=a1.fN/\a1.fN<zY a0 then if 0<=a1.fN/\a1.fN<zY a0 then V (Span.mk a0[a1.fN.toNat]!.ah a0[a1.fN.toNat]!.ag)else G else G else bif vn (a1.bF=6)then if(0:Int)<=(0:Int)/\(0:Int)<zY a2 then if(0:Int)<=(0:Int)/\(0:Int)<zY a2 then V (Span.mk (ak (0-a2[0]!.ag)) (ak (0-a2[0]!.ah)))else G else G else bif vn (a1.bF=8)then if(0:Int)<=(0:Int)/\(0:Int)<zY a2 then if(0:Int)<=(1:Int)/\(1:Int)<zY a2 then if(0:Int)<=(0:Int)/\(0:Int)<zY a2 then if(0:Int)<=(1:Int)/\(1:Int)<zY a2 then V (Span.mk (ak (a2[0]!.ah+a2[1]!.ah)) (ak (a2[0]!.ag+a2[1]!.ag)))else G else G else G else G else bif vn (a1.bF=9)then if(0:Int)<=(0:Int)/\(0:Int)<zY a2 then if(0:Int)<=(1:Int)/\(1:Int)<zY a2 then if(0:Int)<=(0:Int)/\(0:Int)<zY a2 then if(0:Int)<=(1:Int)/\(1:Int)<zY a2 then V (Span.mk (ak (a2[0]!.ah-a2[1]!.ag)) (ak (a2[0]!.ag-a2[1]!.ah)))else G else G else G else G else bif vn (a1.bF=10)then if(0:Int)<=(0:Int)/\(0:Int)<zY a2 then if(0:Int)<=(1:Int)/\(1:Int)<zY a2 then match an5 a2[0]! a2[1]! with|G=>G|V r1=>V (r1)else G else G else bif vn (a1.bF=11)then if(0:Int)<=(0:Int)/\(0:Int)<zY a2 then if(0:Int)<=(0:Int)/\(0:Int)<zY a2 then match (if(0:Int)<=(0:Int)/\(0:Int)<zY a2 then bif vn (0<=a2[0]!.ah)then if(0:Int)<=(1:Int)/\(1:Int)<zY a2 then V (vn (0<=a2[1]!.ah))else G else V O else G)with|G=>G|V r2=>bif r2 then V (Span.mk 0 (if a2[0]!.ag<ak (0-a2[0]!.ah)then ak (0-a2[0]!.ah)else a2[0]!.ag))else V (Span.mk (ak (0-if a2[0]!.ag<ak (0-a2[0]!.ah)then ak (0-a2[0]!.ah)else a2[0]!.ag)) (if a2[0]!.ag<ak (0-a2[0]!.ah)then ak (0-a2[0]!.ah)else a2[0]!.ag))else G else G else bif vn (a1.bF=12)then if(0:Int)<=(1:Int)/\(1:Int)<zY a2 then bif vn (a2[1]!.ah<0)then if(0:Int)<=(1:Int)/\(1:Int)<zY a2 then if(0:Int)<=(1:Int)/\(1:Int)<zY a2 then bif vn (0<a2[1]!.ag)then if(0:Int)<=(1:Int)/\(1:Int)<zY a2 then V (Span.mk (if 0<ak (a2[1]!.ah+1)then 0 else ak (a2[1]!.ah+1)) (if ak (a2[1]!.ag-1)<0 then 0 else ak (a2[1]!.ag-1)))else G else V (Span.mk (if 0<ak (a2[1]!.ah+1)then 0 else ak (a2[1]!.ah+1)) 0)else G else G else if(0:Int)<=(1:Int)/\(1:Int)<zY a2 then bif vn (0<a2[1]!.ag)then if(0:Int)<=(1:Int)/\(1:Int)<zY a2 then V (Span.mk 0 (if ak (a2[1]!.ag-1)<0 then 0 else ak (a2[1]!.ag-1)))else G else V (Span.mk 0 0)else G else G else bif vn (a1.bF=21)then if(0:Int)<=(0:Int)/\(0:Int)<zY a2 then if(0:Int)<=(1:Int)/\(1:Int)<zY a2 then if(0:Int)<=(0:Int)/\(0:Int)<zY a2 then if(0:Int)<=(1:Int)/\(1:Int)<zY a2 then V (Span.mk (if a2[1]!.ah<a2[0]!.ah then a2[1]!.ah else a2[0]!.ah) (if a2[1]!.ag<a2[0]!.ag then a2[1]!.ag else a2[0]!.ag))else G else G else G else G else bif vn (a1.bF=22)then if(0:Int)<=(0:Int)/\(0:Int)<zY a2 then if(0:Int)<=(1:Int)/\(1:Int)<zY a2 then if(0:Int)<=(0:Int)/\(0:Int)<zY a2 then if(0:Int)<=(1:Int)/\(1:Int)<zY a2 then V (Span.mk (if a2[0]!.ah<a2[1]!.ah then a2[1]!.ah else a2[0]!.ah) (if a2[0]!.ag<a2[1]!.ag then a2[1]!.ag else a2[0]!.ag))else G else G else G else G else bif vn (a1.bF=23)then if(0:Int)<=(1:Int)/\(1:Int)<zY a2 then if(0:Int)<=(2:Int)/\(2:Int)<=zY a2 then match Hh (rR.mk (ya 2 a2) (↑(ya 2 a2).length:Int) 0 (Span.mk 0 0) a2[1]!)with|G=>G|V r3=>Dd r3 (λ_=>G) (V (r3.b1))else G else G else bif vn (a1.bF=25)then if(0:Int)<=(1:Int)/\(1:Int)<zY a2 then if(0:Int)<=(2:Int)/\(2:Int)<=zY a2 then match Hh (rR.mk (ya 2 a2) (↑(ya 2 a2).length:Int) 0 (Span.mk 0 0) a2[1]!)with|G=>G|V r4=>Dd r4 (λ_=>G) (V (r4.b1))else G else G else V (Span.mk 0 1)
def aAs:=eL vp 339 O (lc (ql 131) (lc (qg 137) (lc (ql 331) ln))) d339 (λg=>agB g.1 g.2.1 g.t.1)
def ahD:EO aAs:=λh=>kL (F:=axa) (an:=(noTwo (.two (noTwo (noTwo (noTwo (noTwo (noTwo (noTwo (noTwo (noTwo (noTwo (noTwo (noTwo (noTwo (noTwo (noTwo (.two (noTwo (.two (.two (.rb [] 123) .no) .no)) (noTwo (noTwo (noTwo (noTwo (noTwo (noTwo (noTwo (.two (noTwo (.two (noTwo (Tx.lp Hh .no)) .no)) .no))))))))))))))))))))))) .no))) (l:=[(.skip,(.rb [] 123)),(bk f339 0,(Tx.lp Hh .no))]) func339 (XL (VK (akq aV))) (aA ay5 (aA (aO Tx) aH)) h
abbrev tU:=Span×Bool
def d307:Td 0 tU:= .c [] [4,5] (.r 0 1 (ec 4 (qp 0 0) (ec 5 qb en)) (sb 0 331 (lg 331) sn) (λz=>(z.2.1,z.1.2.1)) (λx=>(((),x.2,()),(x.1,()))))
def avS:=(lc (ql 131) (lc (qg 137) ln))
def avX(M:(af bh)->az->aa tU):bu->bu:=eL vp 307 O avS d307 (λg=>M g.1 g.2.1)
def an2(M:(af bh)->az->aa tU):Prop:=HL vp 307 avS d307 (λg=>M g.1 g.2.1)
def YS{M:(af bh)->az->aa tU}(hM:an2 M){F:bu}(h:bD vp F):bD vp (avX M F):=gm (sc:=Bf) eo hM ⟨_,func307,aY,aY⟩ (λ_=>aY) (λ_=>aY) h
def atE(M307:(af bh)->az->aa tU):bu:=(aAs (avX M307 dA))
def ahV{M307}(h307:an2 M307):bD vp (atE M307):=(ahD (YS h307 aV))
structure FU where
 t0:List bh
 t6:List Span
 t13:List az
 (t14 t15:Int)
 b0:az
 b1:Span
def Tg:Td 0 FU:= .c [] [0,3,4,6,13,14,15] (.t (b6.s 6 [] 331) (.c [] [0,3,4,6,13,14,15] (.r 0 3 (ec 0 (ql 131) (ec 3 (qp 0 0) (ec 4 (qp 1 0) (ec 6 (qo 2) (ec 13 (ql 137) (ec 14 aP (ec 15 aP en))))))) (sb 0 137 (lg 137) (sb 1 331 (lg 331) (sr 2 331 sn))) (λz=>⟨z.1.1,z.t.2.1,z.1.q.1,z.1.q.2.1,z.1.q.t.1,z.2.1,z.t.1⟩) (λx=>((x.t0,(),(),(),x.t13,x.t14,x.t15,()),(x.b0,x.b1,x.t6,()))))))
def Ga(M307:(af bh)->az->aa tU)(p:FU):aa (aa FU):=
 bif vn (p.t15<p.t14)then if 0<=p.t15/\p.t15<zY p.t13 then match M307 p.t0 (az.mk p.t13[zq p.t15]!.bF p.t13[zq p.t15]!.fN p.t13[zq p.t15]!.aq)with|G=>G|V r1=>bif bif r1.snd then O else J then V (G)else if(p.t6++[r1.fst]).length<=1073741824 then V (V (FU.mk p.t0 (p.t6++[r1.fst]) p.t13 p.t14 (ak (p.t15+1)) (az.mk p.b0.bF p.b0.fN p.b0.aq) p.b1))else G else G else V (G)
def NG(M307:(af bh)->az->aa tU):=bI (Ga M307)
def aqo(M307:(af bh)->az->aa tU):An:=(noTwo (noTwo (.two (noTwo (Tg.lp (NG M307) .no)) .no)))
def aA3(M307:(af bh)->az->aa tU):gu vp (atE M307) 0 300 307 (aqo M307):=cH (l:=[(bk f307 0,(Tg.lp (NG M307) .no))]) func307 (bT aY) aY (aA (aO Tg) aH)
def ajz(M307:(af bh)->az->aa tU)(a0:af bh)(a1:az):aa tU:=
 match NG M307 (FU.mk a0 [] a1.aq (zY a1.aq) 0 (az.mk a1.bF a1.fN a1.aq) (Span.mk 0 0))with|G=>G|V r2=>bif vn (r2.t15<r2.t14)then if 0<=r2.t15/\r2.t15<zY r2.t13 then match M307 r2.t0 (az.mk r2.t13[zq r2.t15]!.bF r2.t13[zq r2.t15]!.fN r2.t13[zq r2.t15]!.aq)with|G=>G|V r3=>bif bif r3.snd then O else J then V (Span.mk 0 0,O)else if(r2.t6++[r3.fst]).length<=1073741824 then G else G else G else match agB r2.t0 (az.mk r2.b0.bF r2.b0.fN r2.b0.aq) r2.t6 with|G=>G|V r4=>bif vn (-1048576<=r4.ah)then V ((r4,vn (r4.ag<=1048576)))else V (r4,O)
def aFk(M307:(af bh)->az->aa tU)(a0:af bh)(a1:az):bZ vp (atE M307) 300 (aqo M307) 307 (avS.c (a0,a1,())) [] 0 d307.rd=ajz M307 a0 a1:=aY
def aqL:Nat->((af bh)->az->aa tU)
 |0=>(λ_ _=>G)
 |n+1=>(ajz (aqL n))
def R9(n:Nat):(af bh)->az->aa tU:=(aqL n)
def O8:∀n,an2 (R9 n)
 |0=>λ_ _ h=>(by cases h)
 |n+1=>by
  have ih:=O8 n;have i307:=ih;exact(fe (ahV i307) (aA3 (R9 n)) (λ_=>aY) (λ_=>aY) λg=>aFk (R9 n) g.1 g.2.1)
def ajK:(af bh)->az->aa tU:=λa0 a1=>lim (λn=>R9 n a0 a1)
def alh:an2 ajK:=λg b h=>by
 obtain⟨n,hn⟩:=dy (show lim (λn=>R9 n g.1 g.2.1)=V b from h);exact(O8 n) g b hn
def aHI(F:bu):bu:=avX ajK F
def akb{F:bu}(h:bD vp F):bD vp (aHI F):=YS alh h
abbrev awW:=Int
def d267:Td 0 awW:= .c [] [6] (.r 0 0 (ec 6 aP en) sn (λz=>z.1.1) (λx=>((x,()),(()))))
def Vf(a0:af bh)(a1:az)(a2:Bool):aa awW:=
 match ajq a0 (az.mk a1.bF a1.fN a1.aq) a2 with|G=>G|V r1=>bif bif r1 then O else J then V (1)else match ajK a0 (az.mk a1.bF a1.fN a1.aq)with|G=>G|V r2=>bif bif r2.snd then O else J then V (3)else V (0)
def asE:=eL vp 267 O (lc (ql 131) (lc (qg 137) (lc qb ln))) d267 (λg=>Vf g.1 g.2.1 g.t.1)
def YP:EO asE:=λh=>kL (an:= .no) func267 (akb (ajY aV)) aH h
def Zp:EP asE:=λh=>kP h
structure II where
 t8:List dN
 (t9 t10:Int)
 b0:aS
def UQ:Td 0 II:= .c [] [1,8,9,10] (.r 0 1 (ec 1 (qp 0 0) (ec 8 (ql 139) (ec 9 aP (ec 10 aP en)))) (sb 0 26 (lg 26) sn) (λz=>⟨z.1.2.1,z.1.t.1,z.1.t.2.1,z.2.1⟩) (λx=>(((),x.t8,x.t9,x.t10,()),(x.b0,()))))
def B8(p:II):aa (aa II):=
 bif vn (p.t10<p.t9)then if 0<=p.t10/\p.t10<zY p.t8 then match Zx p.t8[zq p.t10]!.fName with|G=>G|V r1=>bif bif r1 then O else J then V (G)else if 0<=p.t10/\p.t10<=zY p.b0.ax then match ack (List.take p.t10.toNat p.b0.ax) (dN.mk p.t8[zq p.t10]!.fName p.t8[zq p.t10]!.ah p.t8[zq p.t10]!.ag (az.mk p.t8[zq p.t10]!.aF.bF p.t8[zq p.t10]!.aF.fN p.t8[zq p.t10]!.aF.aq))with|G=>G|V r2=>bif r2 then V (G)else bif bif PB p.t8[zq p.t10]!.ah p.t8[zq p.t10]!.ag then O else J then V (G)else match Vf p.b0.ai (az.mk p.t8[zq p.t10]!.aF.bF p.t8[zq p.t10]!.aF.fN p.t8[zq p.t10]!.aF.aq) J with|G=>G|V r3=>bif bif vn (r3=0)then O else J then V (G)else V (V (II.mk p.t8 p.t9 (ak (p.t10+1)) p.b0))else G else G else V (G)
def Mx:=bI (B8)
abbrev axX:=Int
def d211:Td 0 axX:= .c [] [2] (.r 0 0 (ec 2 aP en) sn (λz=>z.1.1) (λx=>((x,()),(()))))
def ank(a0:aS):aa axX:=
 match Mx (II.mk a0.ax (zY a0.ax) 0 a0)with|G=>G|V r4=>bif vn (r4.t10<r4.t9)then if 0<=r4.t10/\r4.t10<zY r4.t8 then match Zx r4.t8[zq r4.t10]!.fName with|G=>G|V r5=>bif bif r5 then O else J then V 7 else if 0<=r4.t10/\r4.t10<=zY r4.b0.ax then match ack (List.take r4.t10.toNat r4.b0.ax) (dN.mk r4.t8[zq r4.t10]!.fName r4.t8[zq r4.t10]!.ah r4.t8[zq r4.t10]!.ag (az.mk r4.t8[zq r4.t10]!.aF.bF r4.t8[zq r4.t10]!.aF.fN r4.t8[zq r4.t10]!.aF.aq))with|G=>G|V r6=>bif r6 then V 8 else bif bif PB r4.t8[zq r4.t10]!.ah r4.t8[zq r4.t10]!.ag then O else J then V 3 else match Vf r4.b0.ai (az.mk r4.t8[zq r4.t10]!.aF.bF r4.t8[zq r4.t10]!.aF.fN r4.t8[zq r4.t10]!.aF.aq) J with|G=>G|V r7=>bif bif vn (r7=0)then O else J then V (r7)else G else G else G else V 0
def aDB:=eL vp 211 O (lc (qg 26) ln) d211 (λg=>ank g.1)
def aht:EO aDB:=λh=>kL (an:=(noTwo (.two (noTwo (UQ.lp Mx .no)) .no))) (l:=[(bk f211 0,(UQ.lp Mx .no))]) func211 (YP (akj (V2 (WJ aV)))) (aA (aO UQ) aH) h
def arA:bu:=dA
abbrev avH:=Bool
def d308:Td 0 avH:= .c [] [2] (.r 0 0 (ec 2 qb en) sn (λz=>z.1.1) (λx=>((x,()),(()))))
def aCU:=(aU ln)
def aor:An:=(noTwo (.two (.rb [] 2) .no))
def aDv:∀f∈([]:af Nat),bA (arA) f:=aH
def aae(a0:Int):avH:=
 let r1:Bool:=bif vn (a0=0)then J else vn (a0=5);r1
def aHz(a0:Int):bZ vp (arA) 300 (aor) 308 (aCU.c (a0,())) [] 0 d308.rd=V (aae a0):=by
 refine Eq.trans (b:=(
  match bif vn (a0=0)then V (J)else V (vn (a0=5))with|G=>G|V r1=>V (r1):aa avH)) aY ?_
 simp only[aae,cq,cO]
def arY:=eL vp 308 O aCU d308 (λg=>V (aae g.1))
def al4:EO arY:=λh=>kL (F:=arA) (an:=aor) (l:=[(.skip,(.rb [] 2))]) func308 aV (aA aDv aH) h (c:=λg=>aHz g.1)
def ow:EP arY:=λh=>kP h
def auH:bu:=dA
abbrev aul:=Bool
def d309:Td 0 aul:= .c [] [2] (.r 0 0 (ec 2 qb en) sn (λz=>z.1.1) (λx=>((x,()),(()))))
def aAF:=(aU ln)
def apR:An:=(noTwo (.two (.rb [] 2) .no))
def ayp:∀f∈([]:af Nat),bA (auH) f:=aH
def adl(a0:Int):aul:=
 let r1:Bool:=bif vn (a0=4)then J else vn (a0=5);r1
def aGc(a0:Int):bZ vp (auH) 300 (apR) 309 (aAF.c (a0,())) [] 0 d309.rd=V (adl a0):=by
 refine Eq.trans (b:=(
  match bif vn (a0=4)then V (J)else V (vn (a0=5))with|G=>G|V r1=>V (r1):aa aul)) aY ?_
 simp only[adl,cq,cO]
def awm:=eL vp 309 O aAF d309 (λg=>V (adl g.1))
def ama:EO awm:=λh=>kL (F:=auH) (an:=apR) (l:=[(.skip,(.rb [] 2))]) func309 aV (aA ayp aH) h (c:=λg=>aGc g.1)
def oP:EP awm:=λh=>kP h
def aq9:bu:=dA
abbrev asH:=Bool
def d310:Td 0 asH:= .c [] [2] (.r 0 0 (ec 2 qb en) sn (λz=>z.1.1) (λx=>((x,()),(()))))
def aBM:=(aU ln)
def aom:An:=(noTwo (.two (.rb [] 2) .no))
def aCH:∀f∈([]:af Nat),bA (aq9) f:=aH
def ac8(a0:Int):asH:=
 let r1:Bool:=bif vn (a0=0)then J else bif vn (a0=1)then J else bif vn (a0=3)then J else vn (a0=4);r1
def aFr(a0:Int):bZ vp (aq9) 300 (aom) 310 (aBM.c (a0,())) [] 0 d310.rd=V (ac8 a0):=by
 refine Eq.trans (b:=(
  match bif vn (a0=0)then V (J)else bif vn (a0=1)then V (J)else bif vn (a0=3)then V (J)else V (vn (a0=4))with|G=>G|V r1=>V (r1):aa asH)) aY ?_
 simp only[ac8,cq,cO]
def ar4:=eL vp 310 O aBM d310 (λg=>V (ac8 g.1))
def amo:EO ar4:=λh=>kL (F:=aq9) (an:=aom) (l:=[(.skip,(.rb [] 2))]) func310 aV (aA aCH aH) h (c:=λg=>aFr g.1)
def oR:EP ar4:=λh=>kP h
def at3:bu:=dA
abbrev atD:=Bool
def d311:Td 0 atD:= .c [] [2] (.r 0 0 (ec 2 qb en) sn (λz=>z.1.1) (λx=>((x,()),(()))))
def aBb:=(lc (qg 137) ln)
def aoA:An:=(noTwo (.two (.rb [] 2) .no))
def azh:∀f∈([]:af Nat),bA (at3) f:=aH
def aaD(a0:az):atD:=
 let r1:Bool:=bif vn (a0.bF=0)then bif vn (a0.fN=0)then vn ((zY a0.aq:Int)=0)else O else O;r1
def aFP(a0:az):bZ vp (at3) 300 (aoA) 311 (aBb.c (a0,())) [] 0 d311.rd=V (aaD a0):=by
 refine Eq.trans (b:=(
  match bif vn (a0.bF=0)then bif vn (a0.fN=0)then V (vn ((zY a0.aq:Int)=0))else V (O)else V (O)with|G=>G|V r1=>V (r1):aa atD)) aY ?_
 simp only[aaD,cq,cO]
def ate:=eL vp 311 O aBb d311 (λg=>V (aaD g.1))
def am5:EO ate:=λh=>kL (F:=at3) (an:=aoA) (l:=[(.skip,(.rb [] 2))]) func311 aV (aA azh aH) h (c:=λg=>aFP g.1)
def oD:EP ate:=λh=>kP h
structure qU where
 t0:List Int
 (t5 t6:Int)
def SC:Td 0 qU:= .c [] [0,5,6] (.r 0 0 (ec 0 (ql 3) (ec 5 aP (ec 6 aP en))) sn (λz=>⟨z.1.1,z.1.2.1,z.1.t.1⟩) (λx=>((x.t0,x.t5,x.t6,()),(()))))
def Hy{α:Type}(p:qU)(go:qU->aa α)(e1 e2:aa α):aa α:=
 bif vn (p.t6<p.t5)then bif vn (0<p.t6)then if 0<=p.t6/\p.t6<zY p.t0 then if 0<=ak (p.t6-1)/\ak (p.t6-1)<zY p.t0 then bif vn (((p.t0,p.t5,p.t6,()),()).fst.fst[((p.t0,p.t5,p.t6,()),()).fst.snd.snd.fst.toNat]!<=((p.t0,p.t5,p.t6,()),()).fst.fst[(ak (((p.t0,p.t5,p.t6,()),()).fst.snd.snd.fst-1)).toNat]!)then e1 else go (qU.mk p.t0 p.t5 (ak (p.t6+1)))else G else G else go (qU.mk p.t0 p.t5 (ak (p.t6+1)))else e2
def M5(p:qU):aa (aa qU):=
 Hy p (λs=>V (V s)) (V G) (V G)
def M6:=bI (M5)
abbrev axj:=Bool
def d312:Td 0 axj:= .c [] [2] (.r 0 0 (ec 2 qb en) sn (λz=>z.1.1) (λx=>((x,()),(()))))
def adO(a0:af Int):aa axj:=
 match M6 (qU.mk a0 (zY a0) 0)with|G=>G|V r1=>Hy r1 (λ_=>G) (V O) (V J)
def atJ:=eL vp 312 O (lc (ql 3) ln) d312 (λg=>adO g.1)
def agG:EO atJ:=λh=>kL (an:=(noTwo (.two (noTwo (SC.lp M6 .no)) .no))) (l:=[(bk f312 0,(SC.lp M6 .no))]) func312 aV (aA (aO SC) aH) h
def oN:EP atJ:=λh=>kP h
def aCX:bu:=(atJ (ate (ar4 (awm (arY dA)))))
abbrev aA8:=Bool
def d268:Td 0 aA8:= .c [] [6] (.r 0 0 (ec 6 qb en) sn (λz=>z.1.1) (λx=>((x,()),(()))))
def ur:∀f∈([308,309,310,311,312]:af Nat),bA (aCX) f:=(aA (oN (oD (oR (oP (ow bG))))) (aA (oN (oD (oR (oP (ow bG))))) (aA (oN (oD (oR (oP (ow bG))))) (aA (oN (oD (oR (oP (ow bG))))) (aA (oN (oD (oR (oP (ow bG))))) aH)))))
def TH(a0:aS)(a1:aB)(a2:Bool):aa aA8:=
 match bif vn (a1.b9<0)then V J else V (vn (6<a1.b9))with|G=>G|V r1=>bif r1 then V O else match bif bif aae a1.b9 then O else J then V (bif vn (a1.dJ=0)then O else J)else V O with|G=>G|V r2=>bif r2 then V O else match bif bif adl a1.b9 then O else J then V (bif vn (a1.fN=0)then O else J)else V O with|G=>G|V r3=>bif r3 then V O else match bif bif ac8 a1.b9 then O else J then V (bif aaD (az.mk a1.aF.bF a1.aF.fN a1.aF.aq)then O else J)else V O with|G=>G|V r4=>bif r4 then V O else match bif bif vn (a1.b9=3)then O else J then bif bif vn (a1.b9=4)then O else J then V (vn (0<(zY a1.aQ:Int)))else V O else V O with|G=>G|V r5=>bif r5 then V O else match bif bif vn (a1.b9=3)then O else J then V (vn (0<(zY a1.aX:Int)))else V O with|G=>G|V r6=>bif r6 then V O else match bif bif vn (a1.b9=6)then O else J then V (vn (0<(zY a1.aR:Int)))else V O with|G=>G|V r7=>bif r7 then V O else match bif aae a1.b9 then bif vn (a1.dJ<0)then V J else bif vn (zY a0.ai<=a1.dJ)then V J else if 0<=a1.dJ/\a1.dJ<zY a0.ai then V (bif vn (a0.ai[a1.dJ.toNat]!.bS=0)then O else J)else G else V O with|G=>G|V r8=>bif r8 then V O else match bif vn (a1.b9=5)then bif vn (a1.fN<0)then V J else V (vn (zY a0.ax<=a1.fN))else V O with|G=>G|V r9=>bif r9 then V O else match bif bif vn (a1.b9=6)then O else J then V J else bif a2 then bif vn (0<(zY a1.aR:Int))then bif vn ((zY a1.aR:Int)<=32)then if(0:Int)<=(0:Int)/\(0:Int)<zY a1.aR then bif vn (0<=a1.aR[zq 0]!)then match adO a1.aR with|G=>G|V r10=>V (r10)else V O else G else V O else V O else V O with|G=>G|V r11=>V (r11)
def atP:=eL vp 268 O (lc (qg 26) (lc (qg 166) (lc qb ln))) d268 (λg=>TH g.1 g.2.1 g.t.1)
def aob:EO atP:=λh=>kL (F:=aCX) (an:=(noTwo (noTwo (.two (.two (.two (.rb [308,309,310,311,312] 10) (noTwo (.two (.rb [308,309,310,311,312] 10) (noTwo (.two (.rb [308,309,310,311,312] 10) (noTwo (.two (.rb [308,309,310,311,312] 10) (noTwo (.two (.rb [308,309,310,311,312] 10) (noTwo (.two (.rb [308,309,310,311,312] 10) (noTwo (.two (.rb [308,309,310,311,312] 10) (noTwo (.two (.rb [308,309,310,311,312] 10) (noTwo (.rb [308,309,310,311,312] 10))))))))))))))))) .no) (.two (.rb [308,309,310,311,312] 6) .no))))) (l:=[(.skip,(.rb [308,309,310,311,312] 10)),(.skip,(.rb [308,309,310,311,312] 10)),(.skip,(.rb [308,309,310,311,312] 10)),(.skip,(.rb [308,309,310,311,312] 10)),(.skip,(.rb [308,309,310,311,312] 10)),(.skip,(.rb [308,309,310,311,312] 10)),(.skip,(.rb [308,309,310,311,312] 10)),(.skip,(.rb [308,309,310,311,312] 10)),(.skip,(.rb [308,309,310,311,312] 10)),(.skip,(.rb [308,309,310,311,312] 6))]) func268 (agG (am5 (amo (ama (al4 aV))))) (aA ur (aA ur (aA ur (aA ur (aA ur (aA ur (aA ur (aA ur (aA ur (aA ur aH)))))))))) h
def aal:EP atP:=λh=>kP h
def azR:bu:=dA
abbrev azO:=Bool
def d269:Td 0 azO:= .c [] [2] (.r 0 0 (ec 2 qb en) sn (λz=>z.1.1) (λx=>((x,()),(()))))
def aox:∀f∈([]:af Nat),bA (azR) f:=aH
def UP(a0:aB):aa azO:=
 bif vn (a0.b9=2)then match bif vn (a0.bg<0)then V J else bif vn (67108864<a0.bg)then V J else bif vn (a0.b9=4)then bif vn (a0.fN<0)then V J else V (vn (4096<a0.fN))else V O with|G=>G|V r1=>bif r1 then V O else match bif bif vn (a0.b9=6)then O else J then V J else if 0<=ak ((zY a0.aR:Int)-(1:Int))/\ak ((zY a0.aR:Int)-(1:Int))<zY a0.aR then V (vn (a0.aR[(ak ((zY a0.aR:Int)-1)).toNat]!<=67108864))else G with|G=>G|V r2=>V (r2)else match bif vn (a0.bg<0)then V J else bif vn (10000<a0.bg)then V J else bif vn (a0.b9=4)then bif vn (a0.fN<0)then V J else V (vn (4096<a0.fN))else V O with|G=>G|V r3=>bif r3 then V O else match bif bif vn (a0.b9=6)then O else J then V J else if 0<=ak ((zY a0.aR:Int)-(1:Int))/\ak ((zY a0.aR:Int)-(1:Int))<zY a0.aR then V (vn (a0.aR[(ak ((zY a0.aR:Int)-1)).toNat]!<=67108864))else G with|G=>G|V r4=>V (r4)
def ard:=eL vp 269 O (lc (qg 166) ln) d269 (λg=>UP g.1)
def amp:EO ard:=λh=>kL (F:=azR) (an:=(noTwo (noTwo (noTwo (.two (.two (.rb [] 30) .no) (.two (.rb [] 2) .no)))))) (l:=[(.skip,(.rb [] 30)),(.skip,(.rb [] 2))]) func269 aV (aA aox (aA aox aH)) h
def Z5:EP ard:=λh=>kP h
abbrev mL:=Int
def d212:Td 0 mL:= .c [] [6] (.r 0 0 (ec 6 aP en) sn (λz=>z.1.1) (λx=>((x,()),(()))))
def asj:=(lc (qg 26) (lc (ql 166) (lc qb ln)))
def amX(M:aS->(af aB)->Bool->aa mL):bu->bu:=eL vp 212 O asj d212 (λg=>M g.1 g.2.1 g.2.2.1)
def aaw{M:aS->(af aB)->Bool->aa mL}{F:bu}{f:Nat}(h:bA F f):bA (amX M F) f:=gF h (λ_=>aY)
def ajj(M:aS->(af aB)->Bool->aa mL):Prop:=HL vp 212 asj d212 (λg=>M g.1 g.2.1 g.2.2.1)
def Yt{M:aS->(af aB)->Bool->aa mL}(hM:ajj M){F:bu}(h:bD vp F):bD vp (amX M F):=gm (sc:=Bf) eo hM ⟨_,func212,aY,aY⟩ (λ_=>aY) (λ_=>aY) h
def ahK(M212:aS->(af aB)->Bool->aa mL):bu:=(ard (atP (asE (amX M212 dA))))
def amk{M212}(h212:ajj M212):bD vp (ahK M212):=(amp (aob (YP (Yt h212 aV))))
structure sE where
 t1:List aB
 t2:Bool
 t13:List aB
 (t14 t15:Int)
 t47:List (List aB)
 (t48 t49:Int)
 b0:aS
def TC:Td 0 sE:= .c [] [1,2,3,13,14,15,47,48,49] (.r 0 2 (ec 1 (ql 166) (ec 2 qb (ec 3 (qp 0 0) (ec 13 (ql 166) (ec 14 aP (ec 15 aP (ec 47 (qo 1) (ec 48 aP (ec 49 aP en))))))))) (sb 0 26 (lg 26) (sr 1 24 sn)) (λz=>⟨z.1.1,z.1.2.1,z.1.t.2.1,z.1.q.1,z.1.q.2.1,z.t.1,z.1.q.t.2.1,z.1.q.q.1,z.2.1⟩) (λx=>((x.t1,x.t2,(),x.t13,x.t14,x.t15,(),x.t48,x.t49,()),(x.b0,x.t47,()))))
def C3{α:Type}(M212:aS->(af aB)->Bool->aa mL)(p:sE)(go:sE->aa α)(e1 e2:aa α):aa α:=
 bif vn (p.t49<p.t48)then if 0<=p.t49/\p.t49<zY p.t47 then if 24=24/\zq p.t49<zY p.t47 then match M212 p.b0 p.t47[zq p.t49]! O with|G=>G|V r8=>bif bif vn (r8=0)then O else J then e1 else go (sE.mk p.t1 p.t2 p.t13 p.t14 p.t15 p.t47 p.t48 (ak (p.t49+1)) p.b0)else G else G else e2
def Dj(M212:aS->(af aB)->Bool->aa mL)(p:sE):aa (aa sE):=
 C3 M212 p (λs=>V (V s)) (V G) (V G)
def Cz(M212:aS->(af aB)->Bool->aa mL):=bI (Dj M212)
structure G8 where
 t1:List aB
 t2:Bool
 t13:List aB
 (t14 t15:Int)
 b0:aS
def U1:Td 0 G8:= .c [] [1,2,3,13,14,15] (.r 0 1 (ec 1 (ql 166) (ec 2 qb (ec 3 (qp 0 0) (ec 13 (ql 166) (ec 14 aP (ec 15 aP en)))))) (sb 0 26 (lg 26) sn) (λz=>⟨z.1.1,z.1.2.1,z.1.t.2.1,z.1.q.1,z.1.q.2.1,z.2.1⟩) (λx=>((x.t1,x.t2,(),x.t13,x.t14,x.t15,()),(x.b0,()))))
def BZ(M212:aS->(af aB)->Bool->aa mL)(p:G8):aa (aa G8):=
 bif vn (p.t15<p.t14)then if 0<=p.t15/\p.t15<zY p.t13 then match (bif p.t2 then match TH p.b0 (aB.mk p.t13[zq p.t15]!.b9 p.t13[zq p.t15]!.bg p.t13[zq p.t15]!.dJ p.t13[zq p.t15]!.fN (az.mk p.t13[zq p.t15]!.aF.bF p.t13[zq p.t15]!.aF.fN p.t13[zq p.t15]!.aF.aq) p.t13[zq p.t15]!.aQ p.t13[zq p.t15]!.aX p.t13[zq p.t15]!.aR) (vn (((p.t1,p.t2,(),p.t13,p.t14,p.t15,()),p.b0,()).fst.snd.snd.snd.snd.snd.fst=ak ((↑((p.t1,p.t2,(),p.t13,p.t14,p.t15,()),p.b0,()).fst.fst.length:Int)-1)))with|G=>G|V r1=>V (bif r1 then O else J)else match TH p.b0 (aB.mk p.t13[zq p.t15]!.b9 p.t13[zq p.t15]!.bg p.t13[zq p.t15]!.dJ p.t13[zq p.t15]!.fN (az.mk p.t13[zq p.t15]!.aF.bF p.t13[zq p.t15]!.aF.fN p.t13[zq p.t15]!.aF.aq) p.t13[zq p.t15]!.aQ p.t13[zq p.t15]!.aX p.t13[zq p.t15]!.aR) O with|G=>G|V r2=>V (bif r2 then O else J))with|G=>G|V r3=>bif r3 then V (G)else match UP (aB.mk p.t13[zq p.t15]!.b9 p.t13[zq p.t15]!.bg p.t13[zq p.t15]!.dJ p.t13[zq p.t15]!.fN (az.mk p.t13[zq p.t15]!.aF.bF p.t13[zq p.t15]!.aF.fN p.t13[zq p.t15]!.aF.aq) p.t13[zq p.t15]!.aQ p.t13[zq p.t15]!.aX p.t13[zq p.t15]!.aR)with|G=>G|V r4=>bif bif r4 then O else J then V (G)else match Vf p.b0.ai (az.mk p.t13[zq p.t15]!.aF.bF p.t13[zq p.t15]!.aF.fN p.t13[zq p.t15]!.aF.aq) O with|G=>G|V r5=>bif bif vn (r5=0)then O else J then V (G)else match Cz M212 (sE.mk p.t1 p.t2 p.t13 p.t14 p.t15 [p.t13[zq p.t15]!.aQ,p.t13[zq p.t15]!.aX] (↑[p.t13[zq p.t15]!.aQ,p.t13[zq p.t15]!.aX].length:Int) 0 p.b0)with|G=>G|V r6=>C3 M212 r6 (λ_=>G) (V (G)) (V (V (G8.mk r6.t1 r6.t2 r6.t13 r6.t14 (ak (r6.t15+1)) r6.b0)))else G else V (G)
def aeY(M212:aS->(af aB)->Bool->aa mL):An:=(noTwo (noTwo (.two (noTwo (.two (.two (.rb [268] 31) .no) (noTwo (noTwo (noTwo (TC.lp (Cz M212) .no)))))) .no)))
def Nq(M212:aS->(af aB)->Bool->aa mL):=bI (BZ M212)
def aqz(M212:aS->(af aB)->Bool->aa mL):An:=(noTwo (.two (noTwo (U1.lp (Nq M212) (aeY M212))) .no))
def aBy{M212}:∀f∈([268]:af Nat),bA (ahK M212) f:=(aA (Z5 (aal (Zp (aaw bG)))) aH)
def axB(M212:aS->(af aB)->Bool->aa mL):gu vp (ahK M212) 0 300 212 (aqz M212):=cH (l:=[(bk f212 0,(U1.lp (Nq M212) (aeY M212))),(.skip,(.rb [268] 31)),(bk f212 1,(TC.lp (Cz M212) .no))]) func212 (bT aY) aY (aA (aO U1) (aA aBy (aA (aO TC) aH)))
def ajW(M212:aS->(af aB)->Bool->aa mL)(a0:aS)(a1:af aB)(a2:Bool):aa mL:=
 match Nq M212 (G8.mk a1 a2 a1 (zY a1) 0 a0)with|G=>G|V r9=>bif vn (r9.t15<r9.t14)then if 0<=r9.t15/\r9.t15<zY r9.t13 then match bif r9.t2 then match TH r9.b0 (aB.mk r9.t13[zq r9.t15]!.b9 r9.t13[zq r9.t15]!.bg r9.t13[zq r9.t15]!.dJ r9.t13[zq r9.t15]!.fN (az.mk r9.t13[zq r9.t15]!.aF.bF r9.t13[zq r9.t15]!.aF.fN r9.t13[zq r9.t15]!.aF.aq) r9.t13[zq r9.t15]!.aQ r9.t13[zq r9.t15]!.aX r9.t13[zq r9.t15]!.aR) (vn (((r9.t1,r9.t2,(),r9.t13,r9.t14,r9.t15,()),r9.b0,()).fst.snd.snd.snd.snd.snd.fst=ak ((↑((r9.t1,r9.t2,(),r9.t13,r9.t14,r9.t15,()),r9.b0,()).fst.fst.length:Int)-1)))with|G=>G|V r10=>V (bif r10 then O else J)else match TH r9.b0 (aB.mk r9.t13[zq r9.t15]!.b9 r9.t13[zq r9.t15]!.bg r9.t13[zq r9.t15]!.dJ r9.t13[zq r9.t15]!.fN (az.mk r9.t13[zq r9.t15]!.aF.bF r9.t13[zq r9.t15]!.aF.fN r9.t13[zq r9.t15]!.aF.aq) r9.t13[zq r9.t15]!.aQ r9.t13[zq r9.t15]!.aX r9.t13[zq r9.t15]!.aR) O with|G=>G|V r11=>V (bif r11 then O else J)with|G=>G|V r12=>bif r12 then V 1 else match UP (aB.mk r9.t13[zq r9.t15]!.b9 r9.t13[zq r9.t15]!.bg r9.t13[zq r9.t15]!.dJ r9.t13[zq r9.t15]!.fN (az.mk r9.t13[zq r9.t15]!.aF.bF r9.t13[zq r9.t15]!.aF.fN r9.t13[zq r9.t15]!.aF.aq) r9.t13[zq r9.t15]!.aQ r9.t13[zq r9.t15]!.aX r9.t13[zq r9.t15]!.aR)with|G=>G|V r13=>bif bif r13 then O else J then V 3 else match Vf r9.b0.ai (az.mk r9.t13[zq r9.t15]!.aF.bF r9.t13[zq r9.t15]!.aF.fN r9.t13[zq r9.t15]!.aF.aq) O with|G=>G|V r14=>bif bif vn (r14=0)then O else J then V (r14)else match Cz M212 (sE.mk r9.t1 r9.t2 r9.t13 r9.t14 r9.t15 [r9.t13[zq r9.t15]!.aQ,r9.t13[zq r9.t15]!.aX] (↑[r9.t13[zq r9.t15]!.aQ,r9.t13[zq r9.t15]!.aX].length:Int) 0 r9.b0)with|G=>G|V r15=>bif vn (r15.t49<r15.t48)then if 0<=r15.t49/\r15.t49<zY r15.t47 then if 24=24/\zq r15.t49<zY r15.t47 then match M212 r15.b0 r15.t47[zq r15.t49]! O with|G=>G|V r16=>bif bif vn (r16=0)then O else J then V (r16)else G else G else G else G else G else V 0
def aEE(M212:aS->(af aB)->Bool->aa mL)(a0:aS)(a1:af aB)(a2:Bool):bZ vp (ahK M212) 300 (aqz M212) 212 (asj.c (a0,a1,a2,())) [] 0 d212.rd=ajW M212 a0 a1 a2:=aY
def ap0:Nat->(aS->(af aB)->Bool->aa mL)
 |0=>(λ_ _ _=>G)
 |n+1=>(ajW (ap0 n))
def Vq(n:Nat):aS->(af aB)->Bool->aa mL:=(ap0 n)
def QF:∀n,ajj (Vq n)
 |0=>λ_ _ h=>(by cases h)
 |n+1=>by
  have ih:=QF n;have i212:=ih;exact(fe (amk i212) (axB (Vq n)) (λ_=>aY) (λ_=>aY) λg=>aEE (Vq n) g.1 g.2.1 g.2.2.1)
def aif:aS->(af aB)->Bool->aa mL:=λa0 a1 a2=>lim (λn=>Vq n a0 a1 a2)
def aj2:ajj aif:=λg b h=>by
 obtain⟨n,hn⟩:=dy (show lim (λn=>Vq n g.1 g.2.1 g.2.2.1)=V b from h);exact(QF n) g b hn
def axU(F:bu):bu:=amX aif F
def aie{F:bu}(h:bD vp F):bD vp (axU F):=Yt aj2 h
abbrev tX:=qH
def d213:Td 0 tX:= .c [] [2] (.r 0 1 (ec 2 (qp 0 0) en) (sb 0 260 (lg 260) sn) (λz=>z.2.1) (λx=>(((),()),(x,()))))
def au1:=(lc (ql 166) ln)
def atj(M:(af aB)->aa tX):bu->bu:=eL vp 213 O au1 d213 (λg=>M g.1)
def ahz(M:(af aB)->aa tX):Prop:=HL vp 213 au1 d213 (λg=>M g.1)
def Xc{M:(af aB)->aa tX}(hM:ahz M){F:bu}(h:bD vp F):bD vp (atj M F):=gm (sc:=Bf) eo hM ⟨_,func213,aY,aY⟩ (λ_=>aY) (λ_=>aY) h
def aub(M213:(af aB)->aa tX):bu:=(atj M213 dA)
def amq{M213}(h213:ahz M213):bD vp (aub M213):=(Xc h213 aV)
structure rS where
 t9:List aB
 (t10 t11:Int)
 (b0 b1:qH)
def SU:Td 0 rS:= .c [] [2,3,9,10,11] (.r 0 2 (ec 2 (qp 0 0) (ec 3 (qp 1 0) (ec 9 (ql 166) (ec 10 aP (ec 11 aP en))))) (sb 0 260 (lg 260) (sb 1 260 (lg 260) sn)) (λz=>⟨z.1.t.1,z.1.t.2.1,z.1.q.1,z.2.1,z.t.1⟩) (λx=>(((),(),x.t9,x.t10,x.t11,()),(x.b0,x.b1,()))))
def K4(M213:(af aB)->aa tX)(p:rS):aa (aa rS):=
 bif vn (p.t11<p.t10)then if 0<=p.t11/\p.t11<zY p.t9 then match M213 p.t9[zq p.t11]!.aQ with|G=>G|V r1=>match M213 p.t9[zq p.t11]!.aX with|G=>G|V r2=>bif vn (p.t9[zq p.t11]!.b9=1)then V (V (rS.mk p.t9 p.t10 (ak (p.t11+1)) p.b0 (qH.mk (if 1099511627776<ak (p.b1.gp+1)then 1099511627776 else ak (p.b1.gp+1)) (if 1099511627776<ak (p.b1.aM+1)then 1099511627776 else ak (p.b1.aM+1)) (if 1099511627776<ak (p.b1.aI+p.t9[zq p.t11]!.bg)then 1099511627776 else ak (p.b1.aI+p.t9[zq p.t11]!.bg)))))else bif vn (p.t9[zq p.t11]!.b9=3)then V (V (rS.mk p.t9 p.t10 (ak (p.t11+1)) p.b0 (qH.mk (if 1099511627776<ak (p.b1.gp+ak (1+if r1.gp<r2.gp then r2.gp else r1.gp))then 1099511627776 else ak (p.b1.gp+ak (1+if r1.gp<r2.gp then r2.gp else r1.gp))) (if 1099511627776<ak (p.b1.aM+if r1.aM<r2.aM then r2.aM else r1.aM)then 1099511627776 else ak (p.b1.aM+if r1.aM<r2.aM then r2.aM else r1.aM)) (if 1099511627776<ak (p.b1.aI+ak (p.t9[zq p.t11]!.bg+if r1.aI<r2.aI then r2.aI else r1.aI))then 1099511627776 else ak (p.b1.aI+ak (p.t9[zq p.t11]!.bg+if r1.aI<r2.aI then r2.aI else r1.aI))))))else bif vn (p.t9[zq p.t11]!.b9=4)then V (V (rS.mk p.t9 p.t10 (ak (p.t11+1)) p.b0 (qH.mk (if 1099511627776<ak (p.b1.gp+ak (1+ak (p.t9[zq p.t11]!.fN*ak (1+r1.gp))))then 1099511627776 else ak (p.b1.gp+ak (1+ak (p.t9[zq p.t11]!.fN*ak (1+r1.gp))))) (if 1099511627776<ak (p.b1.aM+ak (p.t9[zq p.t11]!.fN*r1.aM))then 1099511627776 else ak (p.b1.aM+ak (p.t9[zq p.t11]!.fN*r1.aM))) (if 1099511627776<ak (p.b1.aI+ak (p.t9[zq p.t11]!.fN*ak (p.t9[zq p.t11]!.bg+r1.aI)))then 1099511627776 else ak (p.b1.aI+ak (p.t9[zq p.t11]!.fN*ak (p.t9[zq p.t11]!.bg+r1.aI)))))))else V (V (rS.mk p.t9 p.t10 (ak (p.t11+1)) p.b0 (qH.mk (if 1099511627776<ak (p.b1.gp+1)then 1099511627776 else ak (p.b1.gp+1)) (if 1099511627776<ak (p.b1.aM+0)then 1099511627776 else ak (p.b1.aM+0)) (if 1099511627776<ak (p.b1.aI+p.t9[zq p.t11]!.bg)then 1099511627776 else ak (p.b1.aI+p.t9[zq p.t11]!.bg)))))else G else V (G)
def K5(M213:(af aB)->aa tX):=bI (K4 M213)
def apt(M213:(af aB)->aa tX):An:=(noTwo (noTwo (.two (noTwo (SU.lp (K5 M213) .no)) .no)))
def aDa(M213:(af aB)->aa tX):gu vp (aub M213) 0 300 213 (apt M213):=cH (l:=[(bk f213 0,(SU.lp (K5 M213) .no))]) func213 (bT aY) aY (aA (aO SU) aH)
def an0(M213:(af aB)->aa tX)(a0:af aB):aa tX:=
 match K5 M213 (rS.mk a0 (zY a0) 0 (qH.mk 0 0 0) (qH.mk 0 0 0))with|G=>G|V r3=>bif vn (r3.t11<r3.t10)then if 0<=r3.t11/\r3.t11<zY r3.t9 then match M213 r3.t9[zq r3.t11]!.aQ with|G=>G|V r4=>match M213 r3.t9[zq r3.t11]!.aX with|G=>G|V r5=>bif vn (r3.t9[zq r3.t11]!.b9=1)then G else bif vn (r3.t9[zq r3.t11]!.b9=3)then G else bif vn (r3.t9[zq r3.t11]!.b9=4)then G else G else G else V (r3.b1)
def aG8(M213:(af aB)->aa tX)(a0:af aB):bZ vp (aub M213) 300 (apt M213) 213 (au1.c (a0,())) [] 0 d213.rd=an0 M213 a0:=aY
def aqp:Nat->((af aB)->aa tX)
 |0=>(λ_=>G)
 |n+1=>(an0 (aqp n))
def Sm(n:Nat):(af aB)->aa tX:=(aqp n)
def OA:∀n,ahz (Sm n)
 |0=>λ_ _ h=>(by cases h)
 |n+1=>by
  have ih:=OA n;have i213:=ih;exact(fe (amq i213) (aDa (Sm n)) (λ_=>aY) (λ_=>aY) λg=>aG8 (Sm n) g.1)
def afj:(af aB)->aa tX:=λa0=>lim (λn=>Sm n a0)
def amD:ahz afj:=λg b h=>by
 obtain⟨n,hn⟩:=dy (show lim (λn=>Sm n g.1)=V b from h);exact(OA n) g b hn
def axb(F:bu):bu:=atj afj F
def ano{F:bu}(h:bD vp F):bD vp (axb F):=Xc amD h
def aCO:bu:=(axb (axU (aDB (ayr (atL (amM (aAC dA)))))))
structure sv where
 t14:List dN
 (t15 t16:Int)
 b0:aS
 b1:bq
def TS:Td 0 sv:= .c [] [1,3,14,15,16] (.r 0 2 (ec 1 (qp 0 0) (ec 3 (qp 1 0) (ec 14 (ql 139) (ec 15 aP (ec 16 aP en))))) (sb 0 26 (lg 26) (sb 1 256 (lg 256) sn)) (λz=>⟨z.1.t.1,z.1.t.2.1,z.1.q.1,z.2.1,z.t.1⟩) (λx=>(((),(),x.t14,x.t15,x.t16,()),(x.b0,x.b1,()))))
def CJ{α:Type}(p:sv)(go:sv->aa α)(e1:aa α):aa α:=
 bif vn (p.t16<p.t15)then if 0<=p.t16/\p.t16<zY p.t14 then bif bif(kH p.b1).fst then O else J then match Ms (az.mk p.t14[zq p.t16]!.aF.bF p.t14[zq p.t16]!.aF.fN p.t14[zq p.t16]!.aF.aq) 1 (kH p.b1).snd with|G=>G|V r1=>go (sv.mk p.t14 p.t15 (ak (p.t16+1)) p.b0 r1)else go (sv.mk p.t14 p.t15 (ak (p.t16+1)) p.b0 (kH p.b1).snd)else G else e1
def IB(p:sv):aa (aa sv):=
 CJ p (λs=>V (V s)) (V G)
def Gi:=bI (IB)
abbrev aAv:=Int
def d136:Td 0 aAv:= .c [] [2] (.r 0 0 (ec 2 aP en) sn (λz=>z.1.1) (λx=>((x,()),(()))))
def aCb:∀f∈([]:af Nat),bA (aCO) f:=aH
def aea(a0:aS):aa aAv:=
 match afw a0.bM 1 (bq.mk 0 O)with|G=>G|V r2=>match Gi (sv.mk a0.ax (zY a0.ax) 0 a0 r2)with|G=>G|V r3=>CJ r3 (λ_=>G) (bif vn (64<(zY r3.b0.ai:Int))then V 4 else bif vn (8<(zY r3.b0.ax:Int))then V 4 else bif(kH r3.b1).fst then V 4 else match ahM r3.b0.ai with|G=>G|V r5=>bif bif vn (r5=0)then O else J then V (r5)else match ank r3.b0 with|G=>G|V r6=>bif bif vn (r6=0)then O else J then V (r6)else match aif r3.b0 r3.b0.bM J with|G=>G|V r7=>bif bif vn (r7=0)then O else J then V (r7)else match afj r3.b0.bM with|G=>G|V r8=>match (bif vn (4096<r8.gp)then V J else bif vn (8<r8.aM)then V J else V (vn (67108864<r8.aI)))with|G=>G|V r9=>bif r9 then V 4 else V 0)
def atO:=eL vp 136 O (lc (qg 26) ln) d136 (λg=>aea g.1)
def WS:EO atO:=λh=>kL (F:=aCO) (an:=(noTwo (noTwo (noTwo (.two (noTwo (TS.lp Gi .no)) (noTwo (noTwo (noTwo (noTwo (.two (noTwo (.two (.rb [] 72) .no)) .no)))))))))) (l:=[(bk f136 0,(TS.lp Gi .no)),(.skip,(.rb [] 72))]) func136 (ano (aie (aht (aio (Xf (NL (anX aV))))))) (aA (aO TS) (aA aCb aH)) h
def Jy:EP atO:=λh=>kP h
def ada(l:af UInt8):(ByteArray.mk (Array.mk l)).toList=l:=by
 simp
def auK(s:ByteArray):(s.toList==(ByteArray.mk (Array.mk [])).toList)=vn (s.size=0):=by
 obtain⟨⟨l⟩⟩:=s;rw[ada,ada];have hs:(ByteArray.mk (Array.mk l)).size=zY l:=rfl;rw[hs];cases l with
 |nil=>rfl
 |cons a l=>simp
def EI(s:ByteArray):Zx s=V (kN s):=by
 unfold Zx Iy;rw[auK];by_cases h0:s.size=0
 ·simp[h0,kN]
 by_cases h1:40<(s.size:Int)
 ·have h1':¬s.size<=40:=au;simp[h1,h1',kN]
 rw[bW h0,bW h1];obtain⟨i,e1,hc⟩:=oy (rnd:=LF) (zH s.size) (λi=>⟨s,(s.size:Int),(i:Int)⟩) (λi j=>okc j (dh s j)) (λi hi=>by
  rw[we]at hi;have hw:=jR hi au;unfold LF Iy okc;simp only[zg];grind) (by unfold LF Iy;simp)
 have e1':NO ⟨s,(s.size:Int),0⟩=V ⟨s,(s.size:Int),(i:Int)⟩:=e1;rw[e1'];have h2:kN s=(zH s.size).all λi=>okc i (dh s i):=by
  unfold kN;rw[oV,oV];simp
 rw[h2];rcases hc with ⟨rfl,hc⟩|⟨hi,hc⟩
 ·rw[Gd hc];simp
 ·rw[Bv hi hc];unfold okc at hc;simp only[zg];grind
def EL(s:ByteArray):aaj s=V (kN s):=by
 unfold aaj Im;by_cases h0:s.size<1
 ·have h0':¬1<=s.size:=au;have h0'':(s.size:Int)<1:=au;simp[h0'',h0',kN]
 by_cases h1:40<(s.size:Int)
 ·have h1':¬s.size<=40:=au;have h0'':¬(s.size:Int)<1:=au;simp[h1,h1',kN]
 rw[bW (show ¬(s.size:Int)<1 by omega),bW h1];obtain⟨i,e1,hc⟩:=oy (rnd:=Md) (zH s.size) (λi=>⟨s,(i:Int)⟩) (λi j=>okc j (dh s j)) (λi hi=>by
  rw[we]at hi;have hw:=jR hi au;unfold Md Im okc;simp only[zg];grind) (by unfold Md Im;simp)
 have e1':NH ⟨s,0⟩=V ⟨s,(i:Int)⟩:=e1;rw[e1'];have h2:kN s=(zH s.size).all λi=>okc i (dh s i):=by
  unfold kN;rw[oV,oV];simp
 rw[h2];rcases hc with ⟨rfl,hc⟩|⟨hi,hc⟩
 ·rw[Gd hc];simp
 ·rw[Bv hi hc];unfold okc at hc;simp only[zg];grind
def E4(a b:Int):PB a b=jG a b:=by
 unfold PB jG;simp
def E5(a b:Int):P6 a b=jG a b:=by
 unfold P6 jG;simp
def XC(l:af bh)(hl:zY l<=1000000)(v:bh):ale l v=V (l.any λw=>w.fName.toList==v.fName.toList):=by
 obtain⟨i,e1,hc⟩:=oy (rnd:=KP) l (λi=>⟨l,v.fName,v.bS,v.ah,v.ag,v.gJ,(zY l:Int),(i:Int)⟩) (λ_ w=> !(w.fName.toList==v.fName.toList)) (λi hi=>by
  have hw:=jR hi hl;unfold KP IP alR;grind) (by unfold KP IP;simp)
 have e1':KD ⟨l,v.fName,v.bS,v.ah,v.ag,v.gJ,(zY l:Int),0⟩=V ⟨l,v.fName,v.bS,v.ah,v.ag,v.gJ,(zY l:Int),(i:Int)⟩:=e1;unfold ale ata IP;rw[e1'];rcases hc with ⟨rfl,hc⟩|⟨hi,hc⟩
 ·rw[BJ λj hj=>by have:=hc j hj;simpa using this];simp
 ·have hc':(l[i]!.fName.toList==v.fName.toList)=J:=by simpa using hc
  rw[MQ hi hc'];unfold alR;simp only[zg,hc'];simp[hi]
def JR(l:af bh)(hl:zY l<=1000000)(n:Nat)(hn:n<=zY l)(v:bh):
  ∃i:Nat,MC ⟨l,n,0,v⟩=V ⟨l,n,(i:Int),v⟩/\((i=n/\((l.take n).any λw=>w.fName.toList==v.fName.toList)=O)\/(i<n/\(l[i]!.fName.toList==v.fName.toList)=J/\((l.take n).any λw=>w.fName.toList==v.fName.toList)=J)):=by
 have hlen:zY (l.take n)=n:=by rw[zD];omega
 have hget:∀i,i<n->(l.take n)[i]! =l[i]! :=λi hi=>by
  rw[getElem!_pos _ i au,getElem!_pos _ i au,xK]
 obtain⟨i,e1,hc⟩:=oy (rnd:=KE) (l.take n) (λi=>⟨l,(n:Int),(i:Int),v⟩) (λ_ w=> !(w.fName.toList==v.fName.toList)) (λi hi=>by
  have hw:=jR hi au;unfold KE uS;grind) (by rw[hlen];unfold KE uS;simp)
 refine⟨i,e1,?_⟩;rw[hlen]at hc;rcases hc with ⟨rfl,hc⟩|⟨hi,hc⟩
 ·exact .inl ⟨rfl,BJ λj hj=>by have:=hc j au;simpa using this⟩
 ·have hc':((l.take n)[i]!.fName.toList==v.fName.toList)=J:=by simpa using hc
  exact .inr ⟨hi,by rw[<-hget i hi];exact hc',MQ au hc'⟩
def EM(a b:af az):kS (a++b)=kS a+kS b:=by simp[kS]
def Hz(l:af az)(i:Nat):kS (l.take i)<=kS l:=by
 have:=EM (l.take i) (l.drop i);rw[xA]at this;omega
def NU(l:af az):zY l<=kS l:=by
 induction l with
 |nil=>simp
 |cons a l ih=>rw[sC];have:=adt a;simp;omega
def akB(a b:af aB):fK (a++b)=fK a+fK b:=by simp[fK]
def adC(l:af aB)(i:Nat):fK (l.take i)<=fK l:=by
 have:=akB (l.take i) (l.drop i);rw[xA]at this;omega
def aro(s:aB):0<nS s:=by rw[qj];omega
def kr(l:af aB):zY l<=fK l:=by
 induction l with
 |nil=>simp
 |cons a l ih=>rw[oF];have:=aro a;simp;omega
def Ie{l:af az}{i:Nat}(hi:i<zY l):kS (l.take i)+nT l[i]!<=kS l:=by
 have:=Hz l (i+1);rw[bE hi,qO]at this;omega
def Fj{l:af aB}{i:Nat}(hi:i<zY l):fK (l.take i)+nS l[i]!<=fK l:=by
 have:=adC l (i+1);rw[bE hi,OZ]at this;omega
def Vb(l:af az)(h:∀k∈l,dT k<=nT k):∀i,i<=zY l->RS (l.take i)<=kS (l.take i):=by
 intro i;induction i with
 |zero=>intro _;simp[RS]
 |succ i ih=>
  intro hi;have h2:=h _ (bf (show i<zY l by omega));rw[bE au,HV,qO];omega
def aou(t:az):dT t<=nT t:=by
 have key:∀(n:Nat) (t:az),ze t<n->dT t<=nT t:=by
  intro n;induction n with
  |zero=>intro t h;omega
  |succ n ih=>
   intro t h;have:=Vb t.aq (λk hk=>ih k (by have:=az.eT hk;omega)) (zY t.aq) (zl _);rw[zy]at this;rw[VI,AG];omega
 exact key _ t (zC _)
def aeX(l:af az)(i:Nat):RS (l.take i)<=kS l:=by
 have h1:=Hz l i;by_cases h:i<=zY l
 ·have:=Vb l (λk _=>aou k) i h;omega
 ·have:=Vb l (λk _=>aou k) (zY l) (zl _);rw[zy]at this;rw[List.take_of_length_le au];omega
def aeL(l:af aB):jW l<=fK l:=by
 have key:∀(n:Nat) (l:af aB),ze l<n->jW l<=fK l:=by
  intro n;induction n with
  |zero=>intro t h;omega
  |succ n ih=>
   intro l h;cases l with
   |nil=>rw[jW];simp
   |cons s l=>
    have q1:=ih s.aQ (by have:=bw (l:=s::l) (zk ..);omega);have q2:=ih s.aX (by have:=bw (l:=s::l) (zk ..);omega);have q3:=ih l (by have:=dY s l;omega);rw[jW,oF,qj];omega
 exact key _ l (zC _)
def alV(M:az->aa rT)(t:az)(hM:∀k∈t.aq,M k=V (nT k:Int))(h:nT t<=1000):ah3 M t=V (nT t:Int):=by
 have hN:=AG t;have hL:=NU t.aq;obtain⟨v,e1,hv⟩:=cS (rnd:=NY M) (zY t.aq) (λi (b:Int)=>⟨b,(i:Int),t⟩) (λi b=>b=1+kS (t.aq.take i)) (λi b hi hb=>by
   have hs:=Ie hi;refine⟨b+nT t.aq[i]!,?_,?_⟩
   ·have hk:=hM _ (bf hi);have hw:=jR hi au;have hw2:ak (b+nT t.aq[i]!)=b+nT t.aq[i]! :=aL;unfold NY;simp only[az.eta];grind
   ·rw[bE hi,qO];omega) (λb _=>by unfold NY;simp) (b:=1) (by simp[kS])
 have e1':Lp M ⟨1,0,t⟩=V ⟨v,(zY t.aq:Int),t⟩:=e1;unfold ah3;rw[az.eta,e1',hN];simp[hv]
def XR:∀(n:Nat) (t:az),ze t<n->nT t<=1000->Tp n t=V (nT t:Int)
 |0,_,h,_=>au
 |n+1,t,h,h2=>alV (Tp n) t (λk hk=>XR n k (by have:=az.eT hk;omega) (by have:=VQ hk;have:=AG t;omega)) h2
def LB(t:az)(h:nT t<=1000):aaR t=V (nT t:Int):=eG (ze t+1) λn hn=>XR n t au h
def aj4(M:az->aa rD)(t:az)(hM:∀k∈t.aq,M k=V (dT k))(h:nT t<=1000):am4 M t=V (dT t):=by
 have hN:=AG t;have hL:=NU t.aq;obtain⟨v,e1,hv⟩:=cS (rnd:=KV M) (zY t.aq) (λi (b:Int)=>⟨b,(i:Int),t⟩) (λi b=>b=RS (t.aq.take i)) (λi b hi hb=>by
   refine⟨max b (dT t.aq[i]!),?_,?_⟩
   ·have hk:=hM _ (bf hi);have hw:=jR hi au;unfold KV;simp only[zR,az.eta];grind
   ·rw[bE hi,HV,hb]) (λb _=>by unfold KV;simp) (b:=0) (by simp[RS])
 have e1':Mv M ⟨0,0,t⟩=V ⟨v,(zY t.aq:Int),t⟩:=e1;unfold am4;rw[az.eta,e1',VI];have hd:=aeX t.aq (zY t.aq);have hp:=LK t.aq;rw[zy]at hv hd;subst hv;have hw2:ak (RS t.aq+1)=RS t.aq+1:=aL;dsimp only;rw[fD];show V (ak (RS t.aq+1))=_
 congr 1
 omega
def Xm:∀(n:Nat) (t:az),ze t<n->nT t<=1000->U3 n t=V (dT t)
 |0,_,h,_=>au
 |n+1,t,h,h2=>aj4 (U3 n) t (λk hk=>Xm n k (by have:=az.eT hk;omega) (by have:=VQ hk;have:=AG t;omega)) h2
def Lk(t:az)(h:nT t<=1000):Sv t=V (dT t):=eG (ze t+1) λn hn=>Xm n t au h
def Ew{s:aB}{l:af aB}(h:s∈l):nS s<=fK l:=by
 induction l with
 |nil=>cases h
 |cons a l ih=>
  rw[oF];rcases zx.1 h with rfl|h
  ·omega
  ·have:=ih h;omega
def gO:af aB->Int
 |[]=>0
 |s::l=>1+nT s.aF+gO s.aQ+gO s.aX+gO l
termination_by l=>ze l
decreasing_by
 ·exact(bw (zk ..)).1
 ·exact(bw (zk ..)).2
 ·exact dY _ _
def Fg(l:af aB):0<=gO l/\gO l<=fK l:=by
 have key:∀(n:Nat) (l:af aB),ze l<n->0<=gO l/\gO l<=fK l:=by
  intro n;induction n with
  |zero=>intro t h;omega
  |succ n ih=>
   intro l h;cases l with
   |nil=>rw[gO];simp
   |cons s l=>
    have q1:=ih s.aQ (by have:=bw (l:=s::l) (zk ..);omega);have q2:=ih s.aX (by have:=bw (l:=s::l) (zk ..);omega);have q3:=ih l (by have:=dY s l;omega);rw[gO,oF,qj];omega
 exact key _ l (zC _)
def aaL(l:af aB)(s:aB):gO (l++[s])=gO l+(1+nT s.aF+gO s.aQ+gO s.aX):=by
 induction l with
 |nil=>rw[yB,show gO []=0 by rw[gO],gO,show gO []=0 by rw[gO]];omega
 |cons a l ih=>rw[xz,gO,gO,ih];omega
def amB(M:af aB->aa rP)(l:af aB)(hM:∀s∈l,M s.aQ=V (gO s.aQ)/\M s.aX=V (gO s.aX))(h:fK l<=1000):ahn M l=V (gO l):=by
 have hL:=kr l;obtain⟨v,e1,hv⟩:=cS (rnd:=L7 M) (zY l) (λi (b:Int)=>⟨l,b,(i:Int)⟩) (λi b=>b=gO (l.take i)) (λi b hi hb=>by
   have hs:=Fj hi;have hE:=qj l[i]!;obtain⟨k1,k4⟩:=hM _ (bf hi);have k2:=Fg l[i]!.aQ;have k3:=Fg l[i]!.aX;have k5:=Fg (l.take i);have hk:=LB l[i]!.aF au;have hw:=jR hi au;refine⟨b+(1+nT l[i]!.aF+gO l[i]!.aQ+gO l[i]!.aX),?_,?_⟩
   ·have w1:ak (b+1)=b+1:=aL;have w2:ak (b+1+nT l[i]!.aF)=b+1+nT l[i]!.aF:=aL;have w3:ak (b+1+nT l[i]!.aF+gO l[i]!.aQ)=b+1+nT l[i]!.aF+gO l[i]!.aQ:=aL;have w4:ak (b+1+nT l[i]!.aF+gO l[i]!.aQ+gO l[i]!.aX)=b+(1+nT l[i]!.aF+gO l[i]!.aQ+gO l[i]!.aX):=by rw[aL];omega
    unfold L7;simp only[az.eta];grind
   ·rw[bE hi,aaL];omega) (λb _=>by unfold L7;simp) (b:=0) (by simp[gO])
 have e1':Lc M ⟨l,0,0⟩=V ⟨l,v,(zY l:Int)⟩:=e1;unfold ahn;rw[e1'];simp[hv]
def gy{s:aB}{l:af aB}(h:s∈l):fK s.aQ<=fK l/\fK s.aX<=fK l:=by
 have:=Ew h;have:=qj s;omega
def Nb:∀(n:Nat) (l:af aB),ze l<n->fK l<=1000->TE n l=V (gO l)
 |0,_,h,_=>au
 |n+1,l,h,h2=>amB (TE n) l (λs hs=>⟨Nb n _ (by have:=bw hs;omega) (by have:=gy hs;omega),Nb n _ (by have:=bw hs;omega) (by have:=gy hs;omega)⟩) h2
def ajI(l:af aB)(h:fK l<=1000):an1 l=V (gO l):=eG (ze l+1) λn hn=>Nb n l au h
def ajP(M:af aB->aa rJ)(l:af aB)(hM:∀s∈l,M s.aQ=V (jW s.aQ)/\M s.aX=V (jW s.aX))(h:fK l<=1000):ajs M l=V (jW l):=by
 have hL:=kr l;obtain⟨v,e1,hv⟩:=cS (rnd:=K0 M) (zY l) (λi (b:Int)=>⟨l,b,(i:Int)⟩) (λi b=>b=jW (l.take i)) (λi b hi hb=>by
   obtain⟨k1,k4⟩:=hM _ (bf hi);have k2:=aeL l[i]!.aQ;have k3:=aeL l[i]!.aX;have k5:=gy (bf hi);have k6:=BM l[i]!.aQ;have k7:=BM l[i]!.aX;have hw:=jR hi au;refine⟨max b (max (jW l[i]!.aQ+1) (jW l[i]!.aX+1)),?_,?_⟩
   ·have w1:ak (jW l[i]!.aQ+1)=jW l[i]!.aQ+1:=aL;have w2:ak (jW l[i]!.aX+1)=jW l[i]!.aX+1:=aL;unfold K0;simp only[zg];grind
   ·rw[bE hi,afu];omega) (λb _=>by unfold K0;simp) (b:=0) (by simp[jW])
 have e1':NQ M ⟨l,0,0⟩=V ⟨l,v,(zY l:Int)⟩:=e1;unfold ajs;rw[e1'];simp[hv]
def K3:∀(n:Nat) (l:af aB),ze l<n->fK l<=1000->T7 n l=V (jW l)
 |0,_,h,_=>au
 |n+1,l,h,h2=>ajP (T7 n) l (λs hs=>⟨K3 n _ (by have:=bw hs;omega) (by have:=gy hs;omega),K3 n _ (by have:=bw hs;omega) (by have:=gy hs;omega)⟩) h2
def ajR(l:af aB)(h:fK l<=1000):akf l=V (jW l):=eG (ze l+1) λn hn=>K3 n l au h
def Og(s:aB):Bool:=vn (12<dT s.aF)||fH s.aQ||fH s.aX
def aaQ(l:af aB):fH l=l.any Og:=by
 induction l with
 |nil=>rw[fH];rfl
 |cons s l ih=>rw[fH,ih,List.any_cons];rfl
def amK(M:af aB->aa qm)(l:af aB)(hM:∀s∈l,M s.aQ=V (fH s.aQ)/\M s.aX=V (fH s.aX))(h:fK l<=1000):akV M l=V (fH l):=by
 have hL:=kr l;have hT:∀i,i<zY l->Sv l[i]!.aF=V (dT l[i]!.aF):=λi hi=>Lk _ (by have:=Ew (bf hi);have:=qj l[i]!;omega);obtain⟨i,e1,hc⟩:=oy (rnd:=Nf M) l (λi=>⟨l,(i:Int)⟩) (λ_ s=> !Og s) (λi hi=>by
   obtain⟨k1,k4⟩:=hM _ (bf hi);have hk:=hT i hi;have hw:=jR hi au;unfold Nf Og;simp only[zg,az.eta,k1,k4];cases fH l[i]!.aQ<;>cases fH l[i]!.aX<;>grind) (by unfold Nf;simp)
 have e1':Nu M ⟨l,0⟩=V ⟨l,(i:Int)⟩:=e1;unfold akV;rw[e1',aaQ];rcases hc with ⟨rfl,hc⟩|⟨hi,hc⟩
 ·rw[BJ λj hj=>by have:=hc j hj;simpa using this];simp
 ·have hc':Og l[i]! =J:=by simpa using hc
  obtain⟨k1,k4⟩:=hM _ (bf hi);have hk:=hT i hi;unfold Og at hc';simp only[zg,az.eta,k1,k4];revert hc';cases fH l[i]!.aQ<;>cases fH l[i]!.aX<;>grind
def Ny:∀(n:Nat) (l:af aB),ze l<n->fK l<=1000->TZ n l=V (fH l)
 |0,_,h,_=>au
 |n+1,l,h,h2=>amK (TZ n) l (λs hs=>⟨Ny n _ (by have:=bw hs;omega) (by have:=gy hs;omega),Ny n _ (by have:=bw hs;omega) (by have:=gy hs;omega)⟩) h2
def ams(l:af aB)(h:fK l<=1000):akl l=V (fH l):=eG (ze l+1) λn hn=>Ny n l au h
def fL(b:bq):Bool:=b.fM||vn (1024<b.bH)
def Ap(b:bq):kH b=(fL b,b):=by
 rfl
def dI(d:Int)(b:bq):bq:=⟨b.bH+1,b.fM||vn (12<d)⟩
def BV(t:az)(d:Int)(b:bq):bq:=if fL (dI d b)=J then dI d b else t.aq.attach.foldl (λb k=>BV k.1 (d+1) b) (dI d b)
termination_by ze t
decreasing_by exact az.eT k.2
def IX(l:af az)(d:Int)(b:bq):bq:=l.foldl (λb k=>BV k d b) b
def aff(t:az)(d:Int)(b:bq):BV t d b=if fL (dI d b)=J then dI d b else IX t.aq (d+1) (dI d b):=by
 rw[BV,IX];simp
def Kq(l:af az)(k:az)(d:Int)(b:bq):IX (l++[k]) d b=BV k d (IX l d b):=by simp[IX]
def MsP(d0:Int)(n:Int)(b r:bq):Prop:=r.fM=(b.fM||vn (12<d0))/\b.bH<=r.bH/\r.bH<=b.bH+n
def KX(t:az)(d:Int)(b:bq)(h0:0<=d)(h1:0<=b.bH)(h2:b.bH+nT t<=1000):MsP (d-1+dT t) (nT t) b (BV t d b):=by
 have key:∀(n:Nat) (t:az) (d:Int) (b:bq),ze t<n->0<=d->0<=b.bH->b.bH+nT t<=1000->MsP (d-1+dT t) (nT t) b (BV t d b):=by
  intro n;induction n with
  |zero=>intro t d b h;omega
  |succ n ih=>
   intro t d b h h0 h1 h2;have hN:=AG t;have hD:=VI t;have hd0:=LK t.aq;rw[aff];by_cases ho:fL (dI d b)=J
   ·rw[bB ho];unfold fL dI at ho;unfold MsP dI;grind
   ·rw[bL ho];have hi:∀i,i<=zY t.aq->MsP (d+RS (t.aq.take i)) (kS (t.aq.take i)) (dI d b) (IX (t.aq.take i) (d+1) (dI d b)):=by
     intro i;induction i with
     |zero=>
      simp only[IX,MsP,RS,dI];grind
     |succ i ihi=>
      intro hi;have q:=ihi au;have hs:=Ie (show i<zY t.aq by omega);have hm:t.aq[i]!∈t.aq:=bf au;have hp:(dI d b).bH=b.bH+1:=rfl;have q2:=ih t.aq[i]! (d+1) (IX (t.aq.take i) (d+1) (dI d b)) (by have:=az.eT hm;omega) au (by have:=q.2.1;omega) (by have:=q.2.2;omega);rw[bE au,Kq,HV,qO];obtain⟨a1,a2,a3⟩:=q;obtain⟨c1,c2,c3⟩:=q2;refine⟨?_,au,au⟩;rw[c1,a1];rw[Bool.or_assoc]
      congr 1
      rw[<-Bool.decide_or];apply decide_eq_decide.2;omega
    have q:=hi (zY t.aq) (zl _);unfold MsP at q ⊢;have hp:(dI d b).bH=b.bH+1:=rfl;have hp2:(dI d b).fM=(b.fM||vn (12<d)):=rfl;grind
 exact key _ t d b (zC _) h0 h1 h2
def akg(M:az->Int->bq->aa tV)(t:az)(hM:∀k∈t.aq,∀(d:Int) (b:bq),0<=d->d<=13->0<=b.bH->b.bH+nT k<=1000->M k d b=V (BV k d b))(d:Int)(b:bq)(h0:0<=d)(hd:d<=13)(h1:0<=b.bH)(h2:b.bH+nT t<=1000):alN M t d b=V (BV t d b):=by
 have hN:=AG t;have hL:=NU t.aq;have hw0:ak (b.bH+1)=b.bH+1:=aL;have hw1:ak (d+1)=d+1:=aL;have hinc:∀x,(⟨b.bH+1,x⟩:bq)=dI d b↔x=(b.fM||vn (12<d)):=λx=>by unfold dI;simp
 have key:fL (dI d b)=O->d<=12/\HT M ⟨d,t.aq,(zY t.aq:Int),0,dI d b⟩=V ⟨d,t.aq,(zY t.aq:Int),(zY t.aq:Int),IX t.aq (d+1) (dI d b)⟩:=λho=>by
  have hd2:d<=12:=by unfold fL dI at ho;grind
  refine⟨hd2,?_⟩;obtain⟨v,e1,hv,_⟩:=cS (rnd:=L0 M) (zY t.aq) (λi (x:bq)=>⟨d,t.aq,(zY t.aq:Int),(i:Int),x⟩) (λi x=>x=IX (t.aq.take i) (d+1) (dI d b)/\b.bH+1<=x.bH/\x.bH<=b.bH+1+kS (t.aq.take i)) (λi x hi hx=>by
    have hs:=Ie hi;have hk:=hM _ (bf hi) (d+1) x au au au au;have hp:=KX t.aq[i]! (d+1) x au au au;have hw:=jR hi au;refine⟨BV t.aq[i]! (d+1) x,?_,?_⟩
    ·unfold L0;simp only[az.eta];grind
    ·unfold MsP at hp;rw[bE hi,Kq,<-hx.1,qO];exact⟨rfl,au,au⟩) (λx _=>by unfold L0;simp) (b:=dI d b) ⟨rfl,zj _,by show b.bH+1<=_;simp[kS]⟩
  rw[zy]at hv;rw[<-hv];exact e1
 rw[aff];unfold alN;rw[hw0];have hm:∀x,x=(b.fM||vn (12<d))->kH ⟨b.bH+1,x⟩=(fL (dI d b),dI d b):=λx hx=>by rw[Ap,(hinc x).2 hx]
 cases hb:b.fM with
 |true=>
  rw[hm J (by rw[hb];rfl)];have ho:fL (dI d b)=J:=by unfold fL dI;simp[hb]
  simp[ho]
 |false=>
  rw[hm (vn (12<d)) (by rw[hb];rfl)];cases ho:fL (dI d b)with
  |true=>simp
  |false=>
   obtain⟨_,e⟩:=key ho;rw[e];simp
def V3:∀(n:Nat) (t:az) (d:Int) (b:bq),ze t<n->0<=d->d<=13->0<=b.bH->b.bH+nT t<=1000->Un n t d b=V (BV t d b)
 |0,_,_,_,h,_,_,_,_=>au
 |n+1,t,d,b,h,h0,hd,h1,h2=>akg (Un n) t (λk hk d b a1 a2 a3 a4=>V3 n k d b (by have:=az.eT hk;omega) a1 a2 a3 a4) d b h0 hd h1 h2
def XH(t:az)(d:Int)(b:bq)(h0:0<=d)(hd:d<=13)(h1:0<=b.bH)(h2:b.bH+nT t<=1000):Ms t d b=V (BV t d b):=eG (ze t+1) λn hn=>V3 n t d b au h0 hd h1 h2
def oU(d:Int):af aB->bq->bq
 |[],b=>b
 |s::l,b=>if fL (dI d b)=J then dI d b else oU d l (oU (d+1) s.aX (oU (d+1) s.aQ (BV s.aF 1 (dI d b))))
termination_by l=>ze l
decreasing_by
 ·exact(bw (zk ..)).1
 ·exact(bw (zk ..)).2
 ·exact dY _ _
def RX(d:Int)(l:af aB)(b:bq)(h0:0<=d)(hd:d<=13)(h1:0<=b.bH)(h2:b.bH+fK l<=1000):(oU d l b).fM=(b.fM||(vn (12<d-1+jW l)||fH l))/\b.bH<=(oU d l b).bH/\(oU d l b).bH<=b.bH+fK l:=by
 have key:∀(n:Nat) (d:Int) (l:af aB) (b:bq),ze l<n->0<=d->d<=13->0<=b.bH->b.bH+fK l<=1000->(oU d l b).fM=(b.fM||(vn (12<d-1+jW l)||fH l))/\b.bH<=(oU d l b).bH/\(oU d l b).bH<=b.bH+fK l:=by
  intro n;induction n with
  |zero=>intro d l b h;omega
  |succ n ih=>
   intro d l b h h0 hd h1 h2;cases l with
   |nil=>
    rw[oU,jW,fH];refine⟨?_,au,by simp[fK]⟩;rw[fD];simp
   |cons s l=>
    have hz:=bw (l:=s::l) (zk ..);have hz2:=dY s l;have hN:=qj s;have hC:=oF s l;have p1:=BM s.aQ;have p2:=BM s.aX;have p3:=BM l;have p4:=arH s.aF;have hp:(dI d b).bH=b.bH+1:=rfl;have hp2:(dI d b).fM=(b.fM||vn (12<d)):=rfl;rw[oU,jW,fH];by_cases ho:fL (dI d b)=J
    ·rw[bB ho];unfold fL dI at ho;unfold dI;dsimp only at ho ⊢;refine⟨?_,au,au⟩;grind
    ·rw[bL ho];unfold fL at ho;rw[hp,hp2]at ho;have hb:b.fM=O:=by grind
     have hd2:d<=12:=by grind
     obtain⟨a1,a2,a3⟩:=KX s.aF 1 (dI d b) au au au;obtain⟨c1,c2,c3⟩:=ih (d+1) s.aQ (BV s.aF 1 (dI d b)) au au au au au;obtain⟨g1,g2,g3⟩:=ih (d+1) s.aX _ au au au (xV au c2) au;obtain⟨k1,k2,k3⟩:=ih d l _ au h0 hd (xV au g2) au;refine⟨?_,au,au⟩;rw[k1,g1,c1,a1,hp2,hb];rw[bW (show ¬12<d by omega)];have e1:vn (12<1-1+dT s.aF)=vn (12<dT s.aF):=by congr 1;rw[show (1:Int)-1+dT s.aF=dT s.aF by omega]
     rw[e1];have e2:vn (12<d-1+max (max (jW s.aQ+1) (jW s.aX+1)) (jW l))=(vn (12<d+1-1+jW s.aQ)||(vn (12<d+1-1+jW s.aX)||vn (12<d-1+jW l))):=by
      rw[<-Bool.decide_or,<-Bool.decide_or];apply decide_eq_decide.2;omega
     rw[e2];generalize vn (12<dT s.aF)=x1;generalize vn (12<d+1-1+jW s.aQ)=x2;generalize vn (12<d+1-1+jW s.aX)=x3;generalize vn (12<d-1+jW l)=x4;generalize fH s.aQ=x5;generalize fH s.aX=x6;generalize fH l=x7;revert x1 x2 x3 x4 x5 x6 x7;decide
 exact key _ d l b (zC _) h0 hd h1 h2
def DM{α:Type}[Inhabited α]{c:Nat->α->Int}:∀(l:af α) (i:Nat),cu c l i=0->∀j,j<zY l->c (i+j) l[j]! =0
 |[],i,_,j,hj=>by simp at hj
 |x::xs,i,h,j,hj=>by
  unfold cu at h;split at h
  ·rename_i hx;cases j with
   |zero=>exact hx
   |succ j=>
    have:=DM xs (i+1) h j (by simpa using hj);rw[show i+1+j=i+(j+1)by omega]at this
    assumption
  ·omega
def cZ(vars:af bh):Prop:=∀v∈vars,-1048576<=v.ah/\v.ah<=v.ag/\v.ag<=1048576
def aaH{vars:af bh}{i:Nat}{v:bh}(h:nC vars i v=0): -1048576<=v.ah/\v.ah<=v.ag/\v.ag<=1048576:=by
 unfold nC jG at h;grind
def oo{vars:af bh}(h:cu (nC vars) vars 0=0):cZ vars:=λv hv=>by
 obtain⟨i,hi,e⟩:=xd hv;have:=DM _ _ h i hi;rw[getElem!_pos vars i hi,e]at this;exact aaH this
def uZ(kind:Int):∀(l:af bh) (i:Nat) (n:Int),OQ (λ_ (n:Int) (v:bh)=>if 4096<n*(v.ag-v.ah+1)then(.inr ():Int ⊕ Unit)else .inl (n*(v.ag-v.ah+1))) (λ_=>(G:aa Int)) V (l.filter λv=>vn (v.bS=kind)) i n=Ai kind l n
 |[],i,n=>rfl
 |v::vs,i,n=>by
  unfold Ai;by_cases hv:v.bS=kind
  ·rw[vh (by simpa using hv),bB hv];by_cases h:4096<n*(v.ag-v.ah+1)
   ·rw[bB h,pU (r:=()) (by rw[bB h])]
   ·rw[bL h,tM (by rw[bL h])];exact uZ kind vs (i+1) _
  ·rw[vi (by simpa using hv),bL hv];exact uZ kind vs i n
def Ir(kind:Int):∀(l:af bh) (i:Nat) (n:Int),OQ (λ_ (n:Int) (v:bh)=>if v.bS=kind then(if 4096<n*(v.ag-v.ah+1)then(.inr ():Int ⊕ Unit)else .inl (n*(v.ag-v.ah+1)))else .inl n) (λ_=>(G:aa Int)) V l i n=Ai kind l n
 |[],i,n=>rfl
 |v::vs,i,n=>by
  unfold Ai;by_cases hv:v.bS=kind
  ·rw[bB hv];by_cases h:4096<n*(v.ag-v.ah+1)
   ·rw[bB h,pU (r:=()) (by rw[bB hv,bB h])]
   ·rw[bL h,tM (b':=n*(v.ag-v.ah+1)) (by rw[bB hv,bL h])];exact Ir kind vs (i+1) _
  ·rw[bL hv,tM (b':=n) (by rw[bL hv])];exact Ir kind vs (i+1) n
def Et{v:bh}(h: -1048576<=v.ah/\v.ah<=v.ag/\v.ag<=1048576){n:Int}(h1:1<=n)(h2:n<=4096):
  1<=n*(v.ag-v.ah+1)/\ak (v.ag-v.ah)=v.ag-v.ah/\ak (v.ag-v.ah+1)=v.ag-v.ah+1/\ak (n*(v.ag-v.ah+1))=n*(v.ag-v.ah+1):=by
 have e1:0<=(n-1)*(v.ag-v.ah+1):=zJ au au;have e2:n*(v.ag-v.ah+1)<=4096*(v.ag-v.ah+1):=zN h2 au;have e3:(n-1)*(v.ag-v.ah+1)=n*(v.ag-v.ah+1)-(v.ag-v.ah+1):=by rw[yD,yc]
 exact⟨au,aL,aL,aL⟩
def aaq(vars:af bh)(hv:cZ vars)(hl:zY vars<=1000000)(kind:Int):uA ⟨kind,[],vars,(zY vars:Int),0⟩=V ⟨kind,vars.filter (λv=>vn (v.bS=kind)),vars,(zY vars:Int),(zY vars:Int)⟩:=by
 obtain⟨v,e1,hV⟩:=cS (rnd:=Ij) (zY vars) (λi (b:af bh)=>⟨kind,b,vars,(zY vars:Int),(i:Int)⟩) (λi b=>b=(vars.take i).filter λv=>vn (v.bS=kind)) (λi b hi hb=>by
  have hw:=jR hi hl;have hv:=hv _ (bf hi);have hb2:zY b<=i:=by rw[hb];exact zG (yq _ _) (by rw[zD];omega)
  rw[bE hi,xh,<-hb];by_cases hk:vars[i]!.bS=kind
  ·refine⟨b++[vars[i]!],?_,?_⟩
   ·have hl2:zY (b++[vars[i]!])<=1073741824:=by simp;omega
    unfold Ij pW;grind
   ·revert hk;generalize vars[i]! =x;intro hk;simp[hk]
  ·refine⟨b,?_,?_⟩
   ·unfold Ij pW;grind
   ·revert hk;generalize vars[i]! =x;intro hk;simp[hk]) (λb _=>by unfold Ij pW;simp) (b:=[]) rfl
 rw[zy]at hV;rw[<-hV];exact e1
def ZZ(F:af bh)(hv:cZ F)(hl:zY F<=1000000):
  ∃(i:Nat) (n:Int),vE ⟨F,1,F,(zY F:Int),0⟩=V ⟨F,n,F,(zY F:Int),(i:Int)⟩/\((i=zY F/\OQ (λ_ (n:Int) (v:bh)=>if 4096<n*(v.ag-v.ah+1)then(.inr ():Int ⊕ Unit)else .inl (n*(v.ag-v.ah+1))) (λ_=>(G:aa Int)) V F 0 1=V n)\/
   (i<zY F/\4096<ak (n*Zg F[i]!)/\OQ (λ_ (n:Int) (v:bh)=>if 4096<n*(v.ag-v.ah+1)then(.inr ():Int ⊕ Unit)else .inl (n*(v.ag-v.ah+1))) (λ_=>(G:aa Int)) V F 0 1=G)):=by
 have hm:∀(i:Nat) (n:Int),i<zY F->1<=n->n<=4096->ak (n*Zg F[i]!)=n*(F[i]!.ag-F[i]!.ah+1):=λi n hi h1 h2=>by
  obtain⟨a,b,c,d⟩:=Et (hv _ (bf hi)) h1 h2;unfold Zg;rw[b,c,d]
 obtain⟨i,n,e1,hI,hc⟩:=XF (rnd:=M1) F (λi (n:Int)=>⟨F,n,F,(zY F:Int),(i:Int)⟩) (λ_ (n:Int) (v:bh)=>if 4096<n*(v.ag-v.ah+1)then(.inr ():Int ⊕ Unit)else .inl (n*(v.ag-v.ah+1))) (λ_=>(G:aa Int)) V (λi n=>1<=n/\n<=4096) (λi n hi hI=>by
  have hw:=jR hi hl;have h1:=hm i n hi hI.1 hI.2;have h2:=(Et (hv _ (bf hi)) hI.1 hI.2).1;unfold M1 qW;simp only[zg];grind) (λb _=>by unfold M1 qW;simp) (b:=1) ⟨au,au⟩
 refine⟨i,n,e1,?_⟩;rcases hc with ⟨h1,h2⟩|⟨h1,r,h2,h3⟩
 ·exact .inl ⟨h1,h2⟩
 ·refine .inr ⟨h1,?_,h3⟩;rw[hm i n h1 hI.1 hI.2];by_cases h:4096<n*(F[i]!.ag-F[i]!.ah+1)
  ·exact h
  ·rw[bL h]at h2;cases h2
def Li(vars:af bh)(hv:cZ vars)(hl:zY vars<=1000000)(kind:Int)(hk:kind=1\/kind=2\/kind=3):akS vars kind=V (match Ai kind vars 1 with|V n=>(n,0)|G=>(0,4)):=by
 have e0:=aaq vars hv hl kind;obtain⟨i,n,e1,hc⟩:=ZZ (vars.filter λv=>vn (v.bS=kind)) (λv h=>hv v (z8.1 h).1) (zG (yq _ _) hl);rw[uZ]at hc;unfold akS arl pW qW;rcases hk with rfl|rfl|rfl
 all_goals
  simp only[e0,e1];rcases hc with ⟨rfl,hc⟩|⟨hi,h2,hc⟩
  ·simp[hc]
  ·simp only[zg,h2,hc];simp[hi]
def M4(vars:af bh)(hv:cZ vars)(hl:zY vars<=1000000)(kind:Int):Z4 vars kind=V (match Ai kind vars 1 with|V n=>n|G=>4097):=by
 have hm:∀(i:Nat) (n:Int),i<zY vars->1<=n->n<=4096->ak (n*ak (ak (vars[i]!.ag-vars[i]!.ah)+1))=n*(vars[i]!.ag-vars[i]!.ah+1):=λi n hi h1 h2=>by
  obtain⟨a,b,c,d⟩:=Et (hv _ (bf hi)) h1 h2;rw[b,c,d]
 obtain⟨i,n,e1,hI,hc⟩:=XF (rnd:=Mi) vars (λi (n:Int)=>⟨vars,kind,n,(i:Int)⟩) (λ_ (n:Int) (v:bh)=>if v.bS=kind then(if 4096<n*(v.ag-v.ah+1)then(.inr ():Int ⊕ Unit)else .inl (n*(v.ag-v.ah+1)))else .inl n) (λ_=>(G:aa Int)) V (λi n=>1<=n/\n<=4096) (λi n hi hI=>by
  have hw:=jR hi hl;have h1:=hm i n hi hI.1 hI.2;have h2:=(Et (hv _ (bf hi)) hI.1 hI.2).1;unfold Mi GV;simp only[zg];grind) (λb _=>by unfold Mi GV;simp) (b:=1) ⟨au,au⟩
 rw[Ir]at hc;have e1':LV ⟨vars,kind,1,0⟩=V ⟨vars,kind,n,(i:Int)⟩:=e1;unfold Z4 GV;rw[e1'];rcases hc with ⟨rfl,hc⟩|⟨hi,r,h2,hc⟩
 ·simp[hc]
 ·have h1:=hm i n hi hI.1 hI.2;grind
def HW(kind:Int):∀(l:af bh) (n m:Int),n<=4096->Ai kind l n=V m->m<=4096
 |[],n,m,h,e=>by unfold Ai at e;cases e;exact h
 |v::vs,n,m,h,e=>by
  unfold Ai at e;split at e
  ·split at e
   ·cases e
   ·exact HW kind vs _ m au e
  ·exact HW kind vs n m h e
def abM(vars:af bh)(hl:zY vars<=1000000)(i:Nat)(hi:i<zY vars):(nC vars i vars[i]! =0->CN ⟨vars,vars,(zY vars:Int),(i:Int)⟩=V (V ⟨vars,vars,(zY vars:Int),((i+1:Nat):Int)⟩))/\(nC vars i vars[i]!≠0->CN ⟨vars,vars,(zY vars:Int),(i:Int)⟩=V G):=by
 have hw:=jR hi hl;have h1:=EI vars[i]!.fName;have h2:=XC (vars.take i) (by rw[zD];omega) vars[i]!;unfold CN IA nC;simp only[zg,E4,h1,h2];generalize kN vars[i]!.fName=B;generalize ((vars.take i).any λw=>w.fName.toList==vars[i]!.fName.toList)=A;generalize jG vars[i]!.ah vars[i]!.ag=C;cases A<;>cases B<;>cases C<;>simp only[cK]<;>grind
def ajy(vars:af bh)(hl:zY vars<=1000000):ahM vars=V (jQ vars):=by
 obtain⟨i,e1,hc⟩:=ux (rnd:=CN) vars (λi=>⟨vars,vars,(zY vars:Int),(i:Int)⟩) (nC vars) (λi hi=>abM vars hl i hi) (by unfold CN IA;simp);have e1':NB ⟨vars,vars,(zY vars:Int),0⟩=V ⟨vars,vars,(zY vars:Int),(i:Int)⟩:=e1;unfold ahM IA vz jQ;rw[e1'];dsimp only;rcases hc with ⟨rfl,hc⟩|⟨hi,h0,hc⟩
 ·have hv:=oo hc;rw[fD,ct,bL (by rw[hc];simp)];have hr:∀k:Nat,k<3->ak ((k:Int)+1)=((k+1:Nat):Int):=λk hk=>jR hk (by decide);have k1:=Li vars hv hl 1 (.inl rfl);have k2:=Li vars hv hl 2 (.inr (.inl rfl));have k3:=Li vars hv hl 3 (.inr (.inr rfl));have r1:rU ⟨vars,[1,2,3],3,0⟩=match Ai 1 vars 1 with|V _=>V (V ⟨vars,[1,2,3],3,1⟩)|G=>V G:=by
   unfold rU vz;simp[k1];cases Ai 1 vars 1 with
   |none=>simp
   |some n=>simp;exact hr 0 (by decide)
  have r2:rU ⟨vars,[1,2,3],3,1⟩=match Ai 2 vars 1 with|V _=>V (V ⟨vars,[1,2,3],3,2⟩)|G=>V G:=by
   unfold rU vz;simp[k2];cases Ai 2 vars 1 with
   |none=>simp
   |some n=>simp;exact hr 1 (by decide)
  have r3:rU ⟨vars,[1,2,3],3,2⟩=match Ai 3 vars 1 with|V n=>if 256<n then V G else V (V ⟨vars,[1,2,3],3,3⟩)|G=>V G:=by
   unfold rU vz;simp[k3];cases Ai 3 vars 1 with
   |none=>simp
   |some n=>
    by_cases h:256<n
    ·simp[h]
    ·simp[h];exact hr 2 (by decide)
  unfold IJ;cases s1:Ai 1 vars 1 with
  |none=>
   rw[s1]at r1 k1;have e:rE ⟨vars,[1,2,3],3,0⟩=V ⟨vars,[1,2,3],3,0⟩:=cn λr=>by rw[r1];simp
   rw[show ((↑(3:Int):Int))=3 from rfl,e];simp[k1]
  |some n1=>
   rw[s1]at r1 k1;cases s2:Ai 2 vars 1 with
   |none=>
    rw[s2]at r2 k2;have e:rE ⟨vars,[1,2,3],3,0⟩=V ⟨vars,[1,2,3],3,1⟩:=(bP r1).trans (cn λr=>by rw[r2];simp);rw[show ((↑(3:Int):Int))=3 from rfl,e];simp[k2]
   |some n2=>
    rw[s2]at r2 k2;cases s3:Ai 3 vars 1 with
    |none=>
     rw[s3]at r3 k3;have e:rE ⟨vars,[1,2,3],3,0⟩=V ⟨vars,[1,2,3],3,2⟩:=(bP r1).trans ((bP r2).trans (cn λr=>by rw[r3];simp));rw[show ((↑(3:Int):Int))=3 from rfl,e];simp[k3]
    |some n3=>
     rw[s3]at r3 k3;dsimp only at r3;by_cases h:256<n3
     ·rw[bB h]at r3;have e:rE ⟨vars,[1,2,3],3,0⟩=V ⟨vars,[1,2,3],3,2⟩:=(bP r1).trans ((bP r2).trans (cn λr=>by rw[r3];simp));rw[show ((↑(3:Int):Int))=3 from rfl,e];simp[k3,h]
     ·rw[bL h]at r3;have e:rE ⟨vars,[1,2,3],3,0⟩=V ⟨vars,[1,2,3],3,3⟩:=(bP r1).trans ((bP r2).trans ((bP r3).trans (cn λr=>by unfold rU vz;simp)));rw[show ((↑(3:Int):Int))=3 from rfl,e];simp[h]
 ·have h1:=EI vars[i]!.fName;have h2:=XC (vars.take i) (by rw[zD];omega) vars[i]!;rw[hc,bB h0];revert h0;unfold nC;simp only[zR,zg,E4,h1,h2];generalize kN vars[i]!.fName=B;generalize ((vars.take i).any λw=>w.fName.toList==vars[i]!.fName.toList)=A;generalize jG vars[i]!.ah vars[i]!.ag=C;intro h0;cases A<;>cases B<;>cases C<;>simp only[cD]at h0 ⊢ <;>grind
def agZ(vars:af bh)(hl:zY vars<=1000000)(i:Nat)(hi:i<zY vars):(nC vars i vars[i]! =0->CQ ⟨vars,(i:Int)⟩=V (V ⟨vars,((i+1:Nat):Int)⟩))/\(nC vars i vars[i]!≠0->CQ ⟨vars,(i:Int)⟩=V G):=by
 have hw:=jR hi hl;have h1:=EL vars[i]!.fName;obtain⟨j,h2,h3⟩:=JR vars hl i au vars[i]!;unfold CQ Is uS nC;simp only[zg,E5,h1,h2];generalize kN vars[i]!.fName=B;generalize ((vars.take i).any λw=>w.fName.toList==vars[i]!.fName.toList)=A at h3;generalize jG vars[i]!.ah vars[i]!.ag=C;rcases h3 with ⟨rfl,rfl⟩|⟨hj,h4,rfl⟩
 ·cases B<;>cases C<;>simp only[cK]<;>grind
 ·simp only;cases B<;>cases C<;>simp only[cK]<;>grind
def alF(vars:af bh)(hl:zY vars<=1000000):aip vars=V (jQ vars):=by
 obtain⟨i,e1,hc⟩:=ux (rnd:=CQ) vars (λi=>⟨vars,(i:Int)⟩) (nC vars) (λi hi=>agZ vars hl i hi) (by unfold CQ Is uS;simp);have e1':Lf ⟨vars,0⟩=V ⟨vars,(i:Int)⟩:=e1;unfold aip Is uS jQ;rw[e1'];dsimp only;rcases hc with ⟨rfl,hc⟩|⟨hi,h0,hc⟩
 ·have hv:=oo hc;rw[M4 vars hv hl 1,M4 vars hv hl 2,M4 vars hv hl 3];have b1:=HW 1 vars 1;have b2:=HW 2 vars 1;unfold IJ;revert b1 b2;cases Ai 1 vars 1<;>cases Ai 2 vars 1<;>cases Ai 3 vars 1<;>intro b1 b2<;>simp only[vk,Option.isSome_some]<;>(try have c1:=b1 _ au rfl)<;>(try have c2:=b2 _ au rfl)<;>grind
 ·have h1:=EL vars[i]!.fName;obtain⟨j,h2,h3⟩:=JR vars hl i au vars[i]!;rw[hc,bB h0];revert h0;unfold nC;simp only[zg,E5,h1,h2];generalize kN vars[i]!.fName=B;generalize ((vars.take i).any λw=>w.fName.toList==vars[i]!.fName.toList)=A at h3;generalize jG vars[i]!.ah vars[i]!.ag=C;intro h0;rcases h3 with ⟨rfl,rfl⟩|⟨hj,h4,rfl⟩
  ·cases B<;>cases C<;>simp only[cK]at h0 ⊢ <;>grind
  ·simp only[h4];cases B<;>cases C<;>simp only[cD]at h0 ⊢ <;>grind
def ag0(o:Int):Rx o=cg o:=by
 unfold Rx cg;grind
def akZ(o:Int):IS o=if o=25 then-2 else(cg o).1:=by
 unfold IS cg;grind (splits:=40)
def akk(M:af bh->az->Bool->aa tQ)(vars:af bh)(inp:Bool)(t:az)(hM:∀k∈t.aq,M vars k inp=V (dH vars inp k)):al9 M vars t inp=V (dH vars inp t):=by
 have key:zY t.aq<=1000000->∃i:Nat,Dr M ⟨vars,inp,t.aq,(zY t.aq:Int),0⟩=V ⟨vars,inp,t.aq,(zY t.aq:Int),(i:Int)⟩/\((i=zY t.aq/\t.aq.all (dH vars inp)=J)\/(i<zY t.aq/\dH vars inp t.aq[i]! =O/\t.aq.all (dH vars inp)=O)):=λhl=>by
  obtain⟨i,e1,hc⟩:=oy (rnd:=Nn M) t.aq (λi=>⟨vars,inp,t.aq,(zY t.aq:Int),(i:Int)⟩) (λ_ k=>dH vars inp k) (λi hi=>by
   have hw:=jR hi hl;have hk:=hM _ (bf hi);unfold Nn;simp only[zg,az.eta,hk,hw];cases dH vars inp t.aq[i]! <;>simp[hi]) (by unfold Nn;simp)
  refine⟨i,e1,?_⟩;rcases hc with ⟨rfl,hc⟩|⟨hi,hc⟩
  ·exact .inl ⟨rfl,Gd hc⟩
  ·exact .inr ⟨hi,hc,Bv hi hc⟩
 unfold al9;rw[ag0,mN];unfold D0;by_cases hn:0<=(cg t.bF).1/\(cg t.bF).1<=zY t.aq/\(zY t.aq:Int)<=(cg t.bF).2
 ·have h33:(cg t.bF).2<=33:=by unfold cg;grind
  obtain⟨i,e,hc⟩:=key au;rw[bX hn,bW (show ¬(cg t.bF).1<0 by omega),bW (show ¬(zY t.aq:Int)<(cg t.bF).1 by omega),bW (show ¬(cg t.bF).2<(zY t.aq:Int)by omega),e];generalize t.aq.all (dH vars inp)=A at hc;simp only[zg];rcases hc with ⟨rfl,rfl⟩|⟨hi,h2,rfl⟩
  ·cases inp<;>grind
  ·have hk:=hM _ (bf hi);simp only[az.eta];cases inp<;>grind
 ·rw[bW hn];grind
def VW(vars:af bh)(inp:Bool):∀(n:Nat) (t:az),ze t<n->TP n vars t inp=V (dH vars inp t)
 |0,_,h=>au
 |n+1,t,h=>akk (TP n) vars inp t (λk hk=>VW vars inp n k (by have:=az.eT hk;omega))
def amY(vars:af bh)(inp:Bool)(t:az):ajq vars t inp=V (dH vars inp t):=eG (ze t+1) λn hn=>VW vars inp n t au
def aiS(M:af bh->az->Bool->aa ud)(vars:af bh)(inp:Bool)(t:az)(hM:∀k∈t.aq,M vars k inp=V (dH vars inp k)):ajF M vars t inp=V (dH vars inp t):=by
 have key:zY t.aq<=1000000->∃i:Nat,HZ M ⟨vars,inp,0,t⟩=V ⟨vars,inp,(i:Int),t⟩/\((i=zY t.aq/\t.aq.all (dH vars inp)=J)\/(i<zY t.aq/\dH vars inp t.aq[i]! =O/\t.aq.all (dH vars inp)=O)):=λhl=>by
  obtain⟨i,e1,hc⟩:=oy (rnd:=Mw M) t.aq (λi=>⟨vars,inp,(i:Int),t⟩) (λ_ k=>dH vars inp k) (λi hi=>by
   have hw:=jR hi hl;have hk:=hM _ (bf hi);unfold Mw;dsimp only;simp only[zg,az.eta,hk,hw];cases dH vars inp t.aq[i]! <;>simp[hi]) (by unfold Mw;simp)
  refine⟨i,e1,?_⟩;rcases hc with ⟨rfl,hc⟩|⟨hi,hc⟩
  ·exact .inl ⟨rfl,Gd hc⟩
  ·exact .inr ⟨hi,hc,Bv hi hc⟩
 unfold ajF;rw[akZ,mN];unfold D0;have hk0:(cg t.bF).1= -1\/0<=(cg t.bF).1:=by unfold cg;grind
 have hk1:t.bF≠25->(cg t.bF).1=(cg t.bF).2:=by unfold cg;grind
 have hk2:t.bF=25->cg t.bF=(2,33):=by unfold cg;grind
 have h33:(cg t.bF).2<=33:=by unfold cg;grind
 have hk3:t.bF=25->(cg t.bF).1=2/\(cg t.bF).2=33:=λh=>by rw[hk2 h];exact⟨rfl,rfl⟩
 generalize (cg t.bF).1=a at*;generalize (cg t.bF).2=b at*;by_cases hn:0<=a/\a<=zY t.aq/\(zY t.aq:Int)<=b
 ·obtain⟨i,e,hc⟩:=key au;rw[bX hn,az.eta,e];generalize t.aq.all (dH vars inp)=A at hc;simp only[zR,zg];rcases hc with ⟨rfl,rfl⟩|⟨hi,h2,rfl⟩
  ·cases inp<;>grind
  ·have hk:=hM _ (bf hi);simp only[az.eta,hk,h2];by_cases h25:t.bF=25
   ·rw[bB h25,h25];cases inp<;>grind (splits:=30)
   ·rw[bL h25];cases inp<;>grind (splits:=30)
 ·rw[bW hn];grind
def XN(vars:af bh)(inp:Bool):∀(n:Nat) (t:az),ze t<n->T4 n vars t inp=V (dH vars inp t)
 |0,_,h=>au
 |n+1,t,h=>aiS (T4 n) vars inp t (λk hk=>XN vars inp n k (by have:=az.eT hk;omega))
def aix(vars:af bh)(inp:Bool)(t:az):anr vars t inp=V (dH vars inp t):=eG (ze t+1) λn hn=>XN vars inp n t au
def IQ(s:Span):Prop:= -1048576<=s.ah/\s.ah<=s.ag/\s.ag<=1048576
def EC(a b:Span):Z7 a b=ga a b:=rfl
def su{a b:Int}(h1: -1048576<=a)(h2:a<=1048576)(h3: -1048576<=b)(h4:b<=1048576): -1099511627776<=a*b/\a*b<=1099511627776:=by
 have e1:(1048576-a)*(1048576-b)≥0:=zJ au au;have e2:(1048576+a)*(1048576+b)≥0:=zJ au au;have e3:(1048576-a)*(1048576+b)≥0:=zJ au au;have e4:(1048576+a)*(1048576-b)≥0:=zJ au au;grind
def ahb(a b:Span)(ha:IQ a)(hb:IQ b):an5 a b=V (ga (ga (ga ⟨a.ah*b.ah,a.ah*b.ah⟩ ⟨a.ah*b.ag,a.ah*b.ag⟩) ⟨a.ag*b.ah,a.ag*b.ah⟩) ⟨a.ag*b.ag,a.ag*b.ag⟩):=by
 unfold IQ at ha hb;have w1:CO a.ah b.ah=a.ah*b.ah:=by have:=su (a:=a.ah) (b:=b.ah) au au au au;exact aL
 have w2:CO a.ah b.ag=a.ah*b.ag:=by have:=su (a:=a.ah) (b:=b.ag) au au au au;exact aL
 have w3:CO a.ag b.ah=a.ag*b.ah:=by have:=su (a:=a.ag) (b:=b.ah) au au au au;exact aL
 have w4:CO a.ag b.ag=a.ag*b.ag:=by have:=su (a:=a.ag) (b:=b.ag) au au au au;exact aL
 unfold an5 vK;rw[w1,w2,w3,w4];generalize a.ah*b.ah=p;generalize a.ah*b.ag=q;generalize a.ag*b.ah=r;generalize a.ag*b.ag=s;have e:Gl ⟨[q,r,s],(3:Int),0,⟨0,0⟩,⟨p,p⟩⟩=V ⟨[q,r,s],3,3,⟨0,0⟩,ga (ga (ga ⟨p,p⟩ ⟨q,q⟩) ⟨r,r⟩) ⟨s,s⟩⟩:=by
  have k1:ru ⟨[q,r,s],(3:Int),0,⟨0,0⟩,⟨p,p⟩⟩=V (V ⟨[q,r,s],(3:Int),1,⟨0,0⟩,ga ⟨p,p⟩ ⟨q,q⟩⟩):=by unfold ru vK;simp[EC,aL]
  have k2:ru ⟨[q,r,s],(3:Int),1,⟨0,0⟩,ga ⟨p,p⟩ ⟨q,q⟩⟩=V (V ⟨[q,r,s],(3:Int),2,⟨0,0⟩,ga (ga ⟨p,p⟩ ⟨q,q⟩) ⟨r,r⟩⟩):=by unfold ru vK;simp[EC,aL]
  have k3:ru ⟨[q,r,s],(3:Int),2,⟨0,0⟩,ga (ga ⟨p,p⟩ ⟨q,q⟩) ⟨r,r⟩⟩=V (V ⟨[q,r,s],(3:Int),3,⟨0,0⟩,ga (ga (ga ⟨p,p⟩ ⟨q,q⟩) ⟨r,r⟩) ⟨s,s⟩⟩):=by unfold ru vK;simp[EC,aL]
  unfold Gl;rw[bP k1,bP k2,bP k3];exact cn λr=>by unfold ru vK;simp
 rw[show (zY ([q,r,s]:af Int):Int)=3 from rfl,e];simp
def anu{a b:Span}(ha:IQ a)(hb:IQ b):IQ (ga a b):=by
 unfold IQ ga at*;grind
def nQ:∀(l:af Span) (a:Span),IQ a->(∀x∈l,IQ x)->IQ (l.foldl ga a)
 |[],a,ha,_=>ha
 |x::l,a,ha,h=>nQ l (ga a x) (anu ha (h x (zk ..))) λy hy=>h y (zL _ hy)
def Zd(l:af Span)(hl:zY l<=1000000)(z a:Span):Hh ⟨l,(zY l:Int),0,z,a⟩=V ⟨l,(zY l:Int),(zY l:Int),z,l.foldl ga a⟩:=by
 obtain⟨v,e1,hv⟩:=cS (rnd:=Lh) (zY l) (λi (b:Span)=>⟨l,(zY l:Int),(i:Int),z,b⟩) (λi b=>b=(l.take i).foldl ga a) (λi b hi hb=>by
  have hw:=jR hi hl;refine⟨ga b l[i]!,?_,?_⟩
  ·unfold Lh Dd;simp only[EC];grind
  ·rw[bE hi,List.foldl_append,hb];rfl) (λb _=>by unfold Lh Dd;simp) (b:=a) rfl
 rw[zy]at hv;rw[<-hv];exact e1
def IG(vars:af bh)(t:az)(k:af Span):Prop:=(0<=(cg t.bF).1/\(cg t.bF).1<=zY k/\(zY k:Int)<=(cg t.bF).2)/\(t.bF=24->0<=t.fN/\t.fN<zY vars)/\∀s∈k,IQ s
def anJ(vars:af bh)(t:az)(k:af Span)(h:IG vars t k):agB vars t k=V (jE vars t k):=by
 obtain⟨hk,h24,hI⟩:=h;have h0:1<=(cg t.bF).1->IQ k[0]! :=λh=>hI _ (bf au);have h1:2<=(cg t.bF).1->IQ k[1]! :=λh=>hI _ (bf au);have h33:(cg t.bF).2<=33:=by unfold cg;grind
 have hd:zY (k.drop 2)<=1000000:=by rw[zV];omega
 have W:∀n:Int,-8796093022208<=n->n<=8796093022208->ak n=n:=λn a b=>aL;unfold agB Dd jE;rw[Zd _ hd];have cs:t.bF=0\/t.bF=24\/t.bF=6\/t.bF=8\/t.bF=9\/t.bF=10\/t.bF=11\/t.bF=12\/t.bF=21\/t.bF=22\/t.bF=23\/t.bF=25\/(t.bF≠0/\t.bF≠24/\t.bF≠6/\t.bF≠8/\t.bF≠9/\t.bF≠10/\t.bF≠11/\t.bF≠12/\t.bF≠21/\t.bF≠22/\t.bF≠23/\t.bF≠25):=au;rcases cs with h|h|h|h|h|h|h|h|h|h|h|h|h
 ·simp[h]
 ·simp[h,h24 h]
 ·have hl:1<=(cg t.bF).1:=by rw[h];decide
  obtain⟨a1,a2,a3⟩:=h0 hl;have w1:ak ((0:Int)-k[0]!.ag)= -k[0]!.ag:=by rw[W _ au au];omega
  have w2:ak ((0:Int)-k[0]!.ah)= -k[0]!.ah:=by rw[W _ au au];omega
  have i0:(0:Int)<(zY k:Int):=au;simp only[Z0,h,zR,Int.reduceEq,reduceIte,i0,w1,w2,zj,Jb]
 ·have hl:2<=(cg t.bF).1:=by rw[h];decide
  obtain⟨a1,a2,a3⟩:=h0 au;obtain⟨b1,b2,b3⟩:=h1 hl;have w1:=W (k[0]!.ah+k[1]!.ah) au au;have w2:=W (k[0]!.ag+k[1]!.ag) au au;have i0:(0:Int)<(zY k:Int):=au;have i1:(1:Int)<(zY k:Int):=au;simp only[Z0,h,zR,Int.reduceEq,Int.reduceLE,reduceIte,i0,i1,w1,w2,zj,Jb,cW]
 ·have hl:2<=(cg t.bF).1:=by rw[h];decide
  obtain⟨a1,a2,a3⟩:=h0 au;obtain⟨b1,b2,b3⟩:=h1 hl;have w1:=W (k[0]!.ah-k[1]!.ag) au au;have w2:=W (k[0]!.ag-k[1]!.ah) au au;have i0:(0:Int)<(zY k:Int):=au;have i1:(1:Int)<(zY k:Int):=au;simp only[Z0,h,zR,Int.reduceEq,Int.reduceLE,reduceIte,i0,i1,w1,w2,zj,Jb,cW]
 ·have hl:2<=(cg t.bF).1:=by rw[h];decide
  have e18:=ahb _ _ (h0 au) (h1 hl);have i0:(0:Int)<(zY k:Int):=au;have i1:(1:Int)<(zY k:Int):=au;simp only[Z0,h,zR,Int.reduceEq,Int.reduceLE,reduceIte,i0,i1,e18,zj,Jb,cW]
 ·have hl:2<=(cg t.bF).1:=by rw[h];decide
  obtain⟨a1,a2,a3⟩:=h0 au;obtain⟨b1,b2,b3⟩:=h1 hl;have w1:ak ((0:Int)-k[0]!.ah)= -k[0]!.ah:=by rw[W _ au au];omega
  have w2:ak ((0:Int)-if k[0]!.ag< -k[0]!.ah then-k[0]!.ah else k[0]!.ag)= -(if k[0]!.ag< -k[0]!.ah then-k[0]!.ah else k[0]!.ag):=by split<;>(rw[W _ au au];omega)
  have i0:(0:Int)<(zY k:Int):=au;have i1:(1:Int)<(zY k:Int):=au;simp only[Z0,h,zR,Int.reduceEq,Int.reduceLE,reduceIte,i0,i1,w1,w2,zj,Jb,cW];by_cases c1:(0:Int)<=k[0]!.ah<;>by_cases c2:(0:Int)<=k[1]!.ah<;>simp only[cG,cD,gK,c1,c2,and_true,and_false]
 ·have hl:2<=(cg t.bF).1:=by rw[h];decide
  obtain⟨b1,b2,b3⟩:=h1 hl;have w1:=W (k[1]!.ah+1) au au;have w2:=W (k[1]!.ag-1) au au;have i1:(1:Int)<(zY k:Int):=au;simp only[Z0,h,zR,Int.reduceEq,Int.reduceLE,reduceIte,i1,w1,w2,zj,Jb,cW];by_cases c1:k[1]!.ah<0<;>by_cases c2:(0:Int)<k[1]!.ag<;>simp only[gK,c1,c2]
  ·rw[qZ,qZ]
  ·rw[qZ]
  ·rw[qZ]
 ·have hl:2<=(cg t.bF).1:=by rw[h];decide
  have i0:(0:Int)<(zY k:Int):=au;have i1:(1:Int)<(zY k:Int):=au;simp only[Z0,h,zR,Int.reduceEq,Int.reduceLE,reduceIte,i0,i1,zj,Jb,cW]
 ·have hl:2<=(cg t.bF).1:=by rw[h];decide
  have i0:(0:Int)<(zY k:Int):=au;have i1:(1:Int)<(zY k:Int):=au;simp only[Z0,h,zR,Int.reduceEq,Int.reduceLE,reduceIte,i0,i1,zj,Jb,cW]
 ·have hl:2<=(cg t.bF).1:=by rw[h];decide
  have i1:(1:Int)<(zY k:Int):=au;have i2:(2:Int)<=(zY k:Int):=au;simp only[gK,Z0,h,zR,Int.reduceEq,Int.reduceLE,reduceIte,i1,i2,zj,Jb,yx,true_or]
 ·have hl:2<=(cg t.bF).1:=by rw[h];decide
  have i1:(1:Int)<(zY k:Int):=au;have i2:(2:Int)<=(zY k:Int):=au;simp only[gK,Z0,h,zR,Int.reduceEq,Int.reduceLE,reduceIte,i1,i2,zj,Jb,yx,or_true]
 ·obtain⟨c1,c2,c3,c4,c5,c6,c7,c8,c9,c18,c11,c12⟩:=h;simp only[c1,c2,c3,c4,c5,c6,c7,c8,c9,c18,c11,c12,zR,IY,or_self]
def agr(vars:af bh)(hv:cZ vars)(t:az)(k:af Span)(h:IG vars t k):(jE vars t k).ah<=(jE vars t k).ag:=by
 obtain⟨hk,h24,hI⟩:=h;have h0:1<=(cg t.bF).1->IQ k[0]! :=λh=>hI _ (bf au);have h1:2<=(cg t.bF).1->IQ k[1]! :=λh=>hI _ (bf au);unfold jE;have cs:t.bF=0\/t.bF=24\/t.bF=6\/t.bF=8\/t.bF=9\/t.bF=10\/t.bF=11\/t.bF=12\/t.bF=21\/t.bF=22\/t.bF=23\/t.bF=25\/(t.bF≠0/\t.bF≠24/\t.bF≠6/\t.bF≠8/\t.bF≠9/\t.bF≠10/\t.bF≠11/\t.bF≠12/\t.bF≠21/\t.bF≠22/\t.bF≠23/\t.bF≠25):=au;rcases cs with h|h|h|h|h|h|h|h|h|h|h|h|h
 ·simp[h]
 ·have hm:vars[t.fN.toNat]!∈vars:=bf (by have:=h24 h;omega);have:=hv _ hm;simp only[h,Int.reduceEq,reduceIte];omega
 ·obtain⟨a1,a2,a3⟩:=h0 (by rw[h];decide);simp only[h,Int.reduceEq,reduceIte];omega
 ·obtain⟨a1,a2,a3⟩:=h0 (by rw[h];decide);obtain⟨b1,b2,b3⟩:=h1 (by rw[h];decide);simp only[h,Int.reduceEq,reduceIte];omega
 ·obtain⟨a1,a2,a3⟩:=h0 (by rw[h];decide);obtain⟨b1,b2,b3⟩:=h1 (by rw[h];decide);simp only[h,Int.reduceEq,reduceIte];omega
 ·simp only[h,Int.reduceEq,reduceIte,ga];omega
 ·obtain⟨a1,a2,a3⟩:=h0 (by rw[h];decide);grind
 ·simp only[h];grind
 ·obtain⟨a1,a2,a3⟩:=h0 (by rw[h];decide);obtain⟨b1,b2,b3⟩:=h1 (by rw[h];decide);simp only[h,Int.reduceEq];grind
 ·obtain⟨a1,a2,a3⟩:=h0 (by rw[h];decide);obtain⟨b1,b2,b3⟩:=h1 (by rw[h];decide);simp only[h,Int.reduceEq,reduceIte];grind
 ·have:=nQ (k.drop 2) k[1]! (h1 (by rw[h];decide)) λx hx=>hI x (xD hx);simp only[h,Int.reduceEq,reduceIte,true_or,cW];exact this.2.1
 ·have:=nQ (k.drop 2) k[1]! (h1 (by rw[h];decide)) λx hx=>hI x (xD hx);simp only[h,Int.reduceEq,reduceIte,or_true,cW];exact this.2.1
 ·obtain⟨c1,c2,c3,c4,c5,c6,c7,c8,c9,c18,c11,c12⟩:=h;simp only[c1,c2,c3,c4,c5,c6,c7,c8,c9,c18,c11,c12,IY,or_self];decide
def tF:∀{l:af (aa Span)} {r:af Span},mO l=V r->l=r.map V
 |[],r,h=>by unfold mO at h;cases h;rfl
 |none::l,r,h=>by unfold mO at h;cases h
 |some s::l,r,h=>by
  unfold mO at h;cases hl:mO l with
  |none=>rw[hl]at h;cases h
  |some q=>rw[hl]at h;cases h;rw[tF hl];rfl
def RR(l:af Span):mO (l.map V)=V l:=by
 induction l with
 |nil=>rfl
 |cons s l ih=>rw[yf,mO,ih]
def Ca:∀{l:af (aa Span)},G∈l->mO l=G
 |none::l,h=>rfl
 |some s::l,h=>by
  unfold mO;rw[Ca (by simpa using h)]
def Ji{vars:af bh}{inp:Bool}{t:az}{k:af Span}(hf:D0 vars inp t=J)(hl:zY k=zY t.aq)(hI:∀s∈k,IQ s):IG vars t k:=by
 unfold D0 at hf;refine⟨?_,?_,hI⟩
 ·simp_all
 ·intro h;simp_all
def alj(vars:af bh)(hv:cZ vars)(inp:Bool)(t:az)(s:Span)(hf:dH vars inp t=J)(h:iP vars t=V s):IQ s:=by
 have key:∀(n:Nat) (t:az) (s:Span),ze t<n->dH vars inp t=J->iP vars t=V s->IQ s:=by
  intro n;induction n with
  |zero=>intro t s h;omega
  |succ n ih=>
   intro t s hz hf h;rw[mN,zi,zw]at hf;rw[BB]at h;cases ha:mO (t.aq.map (iP vars))with
   |none=>rw[ha]at h;cases h
   |some k=>
    rw[ha]at h;dsimp only at h;have hm:=tF ha;have hl:zY k=zY t.aq:=by have:=congrArg zY hm;simpa using this.symm
    have hI:∀s∈k,IQ s:=λx hx=>by
     have:V x∈t.aq.map (iP vars):=by rw[hm];exact List.mem_map_of_mem hx
     obtain⟨c,hc,e⟩:=zM.1 this;exact ih c x (by have:=az.eT hc;omega) (hf.2 c hc) e
    have ho:=agr vars hv t k (Ji hf.1 hl hI);split at h
    ·rename_i hlim;unfold Cw at hlim;unfold IQ;grind
    ·cases h
 exact key _ t s (zC _) hf h
def Bl(vars:af bh)(t:az):Span×Bool:=match mO (t.aq.map (iP vars))with
 |none=>(⟨0,0⟩,O)
 |some l=>(jE vars t l,Cw (jE vars t l))
def MD(vars:af bh)(t:az):iP vars t=if(Bl vars t).2=J then V (Bl vars t).1 else G:=by
 rw[BB,Bl];grind
def Qf{vars:af bh}(hv:cZ vars){inp:Bool}{t:az}{k:af Span}(hf:dH vars inp t=J)(ha:mO (t.aq.map (iP vars))=V k):IG vars t k:=by
 rw[mN,zi,zw]at hf;have hm:=tF ha;refine Ji hf.1 (by have:=congrArg zY hm;simpa using this.symm) λx hx=> ?_;have:V x∈t.aq.map (iP vars):=by rw[hm];exact List.mem_map_of_mem hx
 obtain⟨c,hc,e⟩:=zM.1 this;exact alj vars hv inp c x (hf.2 c hc) e
def QV{vars:af bh}{inp:Bool}{t:az}(hf:dH vars inp t=J):zY t.aq<=33:=by
 rw[mN,zi]at hf;have:=hf.1;unfold D0 at this;have h33:(cg t.bF).2<=33:=by unfold cg;grind
 simp only[zi,decide_eq_true_eq]at this;omega
def rq{vars:af bh}{inp:Bool}{t k:az}(hf:dH vars inp t=J)(hk:k∈t.aq):dH vars inp k=J:=by
 rw[mN,zi,zw]at hf;simp_all
def anM(M:af bh->az->aa tU)(vars:af bh)(hv:cZ vars)(inp:Bool)(t:az)(hf:dH vars inp t=J)(hM:∀k∈t.aq,M vars k=V (Bl vars k)):ajz M vars t=V (Bl vars t):=by
 have h33:=QV hf;obtain⟨i,b,e1,hI,hc⟩:=jq (rnd:=Ga M) (zY t.aq) (λi (b:af Span)=>⟨vars,b,t.aq,(zY t.aq:Int),(i:Int),t,⟨0,0⟩⟩) (λi b=>(t.aq.take i).map (iP vars)=b.map V) (λi _=>(Bl vars t.aq[i]!).2=O) (λi b hi hb=>by
  have hw:=jR hi au;have hk:=hM _ (bf hi);have hlen:zY b=i:=by have:=congrArg zY hb;simp at this;omega
  cases hx:(Bl vars t.aq[i]!).2 with
  |true=>
   refine .inl ⟨b++[(Bl vars t.aq[i]!).1],?_,?_⟩
   ·have hl2:zY (b++[(Bl vars t.aq[i]!).1])<=1073741824:=by simp;omega
    unfold Ga;simp only[zg,az.eta,hk,hx,hl2,hw];simp[hi]
   ·rw[bE hi,zO,hb,zO];rw[yf,yf,MD,bB hx];rfl
  |false=>
   unfold Ga;simp only[zg,az.eta,hk,hx];simp[hi]) (λb _=>by unfold Ga;simp) (b:=[]) rfl
 have e1':NG M ⟨vars,[],t.aq,(zY t.aq:Int),0,t,⟨0,0⟩⟩=V ⟨vars,b,t.aq,(zY t.aq:Int),(i:Int),t,⟨0,0⟩⟩:=e1;unfold ajz;rw[az.eta,e1'];dsimp only;rcases hc with rfl|⟨hi,hx⟩
 ·rw[zy]at hI;have ha:mO (t.aq.map (iP vars))=V b:=by rw[hI];exact RR b
  rw[fD,ct,az.eta,anJ vars t b (Qf hv hf ha)];unfold Bl;unfold Cw;grind
 ·have hk:=hM _ (bf hi);have ha:mO (t.aq.map (iP vars))=G:=Ca (zM.2 ⟨t.aq[i]!,bf hi,by rw[MD,hx];simp⟩);rw[oV,cK,bB ⟨au,au⟩];simp only[cD,zg,az.eta,hk,hx];unfold Bl;rw[ha]
def YE(vars:af bh)(hv:cZ vars)(inp:Bool):∀(n:Nat) (t:az),ze t<n->dH vars inp t=J->R9 n vars t=V (Bl vars t)
 |0,_,h,_=>au
 |n+1,t,h,hf=>anM (R9 n) vars hv inp t hf (λk hk=>YE vars hv inp n k (by have:=az.eT hk;omega) (rq hf hk))
def ahQ(vars:af bh)(hv:cZ vars)(inp:Bool)(t:az)(hf:dH vars inp t=J):ajK vars t=V (Bl vars t):=eG (ze t+1) λn hn=>YE vars hv inp n t au hf
def EK(vars:af bh)(hv:cZ vars)(inp:Bool)(t:az):Vf vars t inp=V (fq vars inp t):=by
 unfold Vf fq;rw[az.eta,amY];cases hf:dH vars inp t with
 |false=>rfl
 |true=>
  rw[ahQ vars hv inp t hf,MD];dsimp only;cases (Bl vars t).2<;>rfl
end Go.Proofs.YtnfljbehcffmcaaGreat
end
