/- Merged: Ne13, Ne14, Ne15, Ne16, Ne17, Ne18, Ne19, Ne20, Ne21, Ne22, Ne23, Ne24, Ne25, Ne26, Ne27, Ne28, Ne29, Ga, Pfew, Pd, Gb, Pv1, Pv3, Pv1b, Pv2. -/
import Derived.Test.YtnfljbehcffmcaaGreatM1RefineChecks
import Derived.Test.YtnfljbehcffmcaaGreatM3RefineChecks
import Derived.Test.YtnfljbehcffmcaaGreatM2RefineChecks
open Nat renaming le_refl -> zl, lt_succ_self -> zC, le_trans -> zG, add_mul -> zW, mul_le_mul_right -> yh, one_mul -> yL, not_lt_zero -> y7, mod_lt -> xe, lt_succ_iff_lt_or_eq -> xk
open SizeOf renaming sizeOf -> ze
open List renaming length_append -> zh, mem_cons_self -> zk, mem_singleton -> zo, all_eq_true -> zw, mem_cons -> zx, take_length -> zy, length_take -> zD, range -> zH, mem_cons_of_mem -> zL, mem_map -> zM, map_append -> zO, mem_append -> zP, length_drop -> zV, length -> zY, mem_filter -> z8, drop -> ya, map_cons -> yf, length_filter_le -> yq, nil_append -> yB, getElem_map -> yM, getElem_of_mem -> xd, filter_append -> xh, cons_append -> xz, take_append_drop -> xA, mem_of_mem_drop -> xD, getElem_take -> xK, getElem_mem -> xP, length_range -> we, getElem_range -> wo, range_succ -> wG, sizeOf_lt_of_mem -> vg, filter_cons_of_pos -> vh, filter_cons_of_neg -> vi
open Int renaming toNat_natCast -> zg, le_refl -> zj, toNat -> zq, mul_nonneg -> zJ, mul_le_mul_of_nonneg_right -> zN, mul_comm -> zQ, ediv_nonneg -> zS, add_mul -> zU, dvd_trans -> zZ, mul_assoc -> yb, one_mul -> yc, ediv_le_self -> yl, lt_irrefl -> yx, dvd_sub -> yz, sub_mul -> yD, gcd -> yE, mul_ediv_add_emod -> yW, emod_nonneg -> yX, mul_le_mul -> yY, dvd_add -> yZ, emod_lt_of_pos -> y6, ediv_mul_le -> xo, mul_add -> xF, dvd_mul_left -> xG, dvd_zero -> xM, dvd_mul_right -> xN, le_trans -> xV, zero_sub -> xW, mul_neg -> xX, ediv_mul_cancel -> wm, natCast_mul -> wK, lt_of_mul_lt_mul_right -> wO, dvd_of_emod_eq_zero -> ve, lt_ediv_add_one_mul_self -> vf
open Bool renaming and_eq_true -> zi, cond_decide -> zR, or_eq_true -> yC, true -> J, false -> O
open Option renaming some -> zF, isSome_none -> vk, some -> V, none -> G
open Decidable renaming decide -> vn
open Go.Proofs.Tryz renaming prog -> vp
open Go.Proofs.Tryz
set_option linter.unusedSectionVars false
set_option linter.unusedVariables false
set_option linter.unusedSimpArgs false
set_option linter.defProp false
noncomputable section
set_option maxRecDepth 100000
namespace Go.Proofs.YtnfljbehcffmcaaGreat
open Go Go.Iv
open Go.IntKind (i64 u64)
def aiO(b:Bool):Bh b=oT b:=by cases b<;>rfl
def eC{op x y v:Int}(h:v=fO op x y)(hr:cA (fO op x y)):∃w,V (v,J)=V (w,vn (cA (fO op x y)))/\(cA (fO op x y)->w=fO op x y):=⟨v,by rw[bX hr],λ_=>h⟩
def akx{x y:Int}(hx:cA x)(hy:cA y):∃v,ant x y=V (v,vn (cA (x*y)))/\(cA (x*y)->v=x*y):=by
 unfold ant;rw[DW,DW,Al hx,Al hy];by_cases h0:x=0
 ·subst h0;rw[bW (show ¬¬(0:Int)=0 from λk=>k rfl)];simp only[ct];rw[Int.zero_mul,aL,bX (show cA 0 from⟨au,au⟩)];exact⟨0,rfl,λ_=>rfl⟩
 ·rw[bX h0,cK];by_cases h1:y=0
  ·subst h1;rw[bW (show ¬¬(0:Int)=0 from λk=>k rfl)];simp only[ct];rw[Int.mul_zero,aL,bX (show cA 0 from⟨au,au⟩)];exact⟨0,rfl,λ_=>rfl⟩
  ·rw[bX h1,cK,bC (show ¬@Eq Int ((y.natAbs:Nat):Int) 0 by omega),kK];have q0:0<=(1099511627776:Int)/((y.natAbs:Nat):Int):=zS au au;have q1:(1099511627776:Int)/((y.natAbs:Nat):Int)<=1099511627776:=yl _ au;rw[aL];simp only;have k:=Rb (x:=y) (y:=x) h1;rw[zQ]at k;by_cases c:(1099511627776:Int)/((y.natAbs:Nat):Int)<((x.natAbs:Nat):Int)
   ·rw[bX c,bW (k.mp c)];exact⟨0,rfl,λe=>dU e (k.mp c)⟩
   ·have hR:cA (x*y):=Decidable.byContradiction λe=>c (k.mpr e);rw[bW c,bX hR,aL (by have:=hR.1;omega) (by have:=hR.2;omega)];exact⟨x*y,rfl,λ_=>rfl⟩
def Ev{x y:Int}(hx:cA x)(hy:cA y):∃v,Tv x y=V (v,vn (cA (x*y)))/\(cA (x*y)->v=x*y):=by
 unfold Tv;rw[DW,ob hx,ob hy];by_cases h0:x=0
 ·subst h0;rw[bW (show ¬¬(0:Int)=0 from λk=>k rfl)];simp only[ct];rw[Int.zero_mul,aL,bX (show cA 0 from⟨au,au⟩)];exact⟨0,rfl,λ_=>rfl⟩
 ·rw[bX h0,cK,bC (show ¬@Eq Int ((x.natAbs:Nat):Int) 0 by omega),kK];have q0:0<=(1099511627776:Int)/((x.natAbs:Nat):Int):=zS au au;have q1:(1099511627776:Int)/((x.natAbs:Nat):Int)<=1099511627776:=yl _ au;rw[aL];simp only;have k:=Rb (x:=x) (y:=y) h0;by_cases c:(1099511627776:Int)/((x.natAbs:Nat):Int)<((y.natAbs:Nat):Int)
  ·rw[bX c,bW (k.mp c)];exact⟨0,rfl,λe=>dU e (k.mp c)⟩
  ·have hR:cA (x*y):=Decidable.byContradiction λe=>c (k.mpr e);rw[bW c,bX hR,aL (by have:=hR.1;omega) (by have:=hR.2;omega)];exact⟨x*y,rfl,λ_=>rfl⟩
def ng{op x y:Int}(hx:cA x)(hy:cA y)(ho:binop op):∃v,T9 op x y=V (v,vn (cA (fO op x y)))/\(cA (fO op x y)->v=fO op x y):=by
 obtain⟨o1,o2⟩:=ho;have hx':=hx;have hy':=hy;obtain⟨a1,a2⟩:=hx';obtain⟨b1,b2⟩:=hy';have cases15:op=8\/op=9\/op=10\/op=11\/op=12\/op=13\/op=14\/op=15\/op=16\/op=17\/op=18\/op=19\/op=20\/op=21\/op=22:=au;unfold T9;simp only[FN,aiO];rcases cases15 with rfl|rfl|rfl|rfl|rfl|rfl|rfl|rfl|rfl|rfl|rfl|rfl|rfl|rfl|rfl
 all_goals simp only[cG,cD,Int.reduceEq]
 ·rw[aL];exact⟨x+y,rfl,λ_=>rfl⟩
 ·rw[aL];exact⟨x-y,rfl,λ_=>rfl⟩
 ·obtain⟨v,e,h⟩:=akx hx hy;rw[e];exact⟨v,rfl,h⟩
 ·rw[Ym hx hy];exact eC (op:=11) rfl (R3 hx).1
 ·by_cases h0:y=0
  ·rw[bX h0];have e:fO 12 x y=0:=bC h0;exact eC (op:=12) e.symm (by rw[e];exact⟨au,au⟩)
  ·rw[bW h0,ct,Ym hx hy];simp only;have e:fO 12 x y=x-y*o5 x y:=bL h0;have hm:=(Uj (x:=x) hy h0).1;obtain⟨c1,c2⟩:=hm;rw[aL (n:=y*o5 x y),aL];exact eC (op:=12) e.symm (by rw[e];exact⟨c1,c2⟩)
 ·exact eC (op:=13) rfl (ug _)
 ·refine eC (op:=14) ?_ (ug _);show oT _=oT _
  congr 1
 ·exact eC (op:=15) rfl (ug _)
 ·exact eC (op:=16) rfl (ug _)
 ·exact eC (op:=17) rfl (ug _)
 ·exact eC (op:=18) rfl (ug _)
 ·rw[DW,DW];by_cases h0:x=0
  ·rw[bW (show ¬¬x=0 from λk=>k h0),ct];refine eC (op:=19) ?_ (ug _);show oT O=oT (vn (x≠0/\y≠0));rw[bW (λk=>k.1 h0)]
  ·rw[bX h0,cK];refine eC (op:=19) ?_ (ug _);show oT _=oT (vn (x≠0/\y≠0))
   congr 1
   exact decide_eq_decide.mpr ⟨λk=>⟨h0,k⟩,λk=>k.2⟩
 ·rw[DW,DW];by_cases h0:x=0
  ·rw[bW (show ¬¬x=0 from λk=>k h0),ct];refine eC (op:=20) ?_ (ug _);show oT _=oT (vn (x≠0\/y≠0))
   congr 1
   exact decide_eq_decide.mpr ⟨.inr,λk=>k.elim (λe=>dU h0 e) id⟩
  ·rw[bX h0,cK];refine eC (op:=20) ?_ (ug _);show oT J=oT (vn (x≠0\/y≠0));rw[bX (.inl h0)]
 ·by_cases c:x<y
  ·rw[bX c];have e:fO 21 x y=x:=Int.min_eq_left au;exact eC (op:=21) e.symm (by rw[e];exact hx)
  ·rw[bW c];have e:fO 21 x y=y:=Int.min_eq_right au;exact eC (op:=21) e.symm (by rw[e];exact hy)
 ·by_cases c:y<x
  ·rw[bX c];have e:fO 22 x y=x:=Int.max_eq_left au;exact eC (op:=22) e.symm (by rw[e];exact hx)
  ·rw[bW c];have e:fO 22 x y=y:=Int.max_eq_right au;exact eC (op:=22) e.symm (by rw[e];exact hy)
def lV(a:aK)(k:Nat):Int:=a.ah+(k:Int)*a.aj
def cnt(a:aK):Nat:=(bY a).toNat
def gy{a:aK}(h:NN a):bY a=(cnt a:Int):=by have:=size_pos h;unfold cnt;omega
def iU{a:aK}(h:NN a):1<=cnt a:=by have:=size_pos h;unfold cnt;omega
def afT{a:aK}(h:NN a){k:Nat}(hk:k<cnt a):a.ah<=lV a k/\lV a k<=a.ag:=by
 have e:=gy h;rw[BE h]at e;have hs:=h.s0;have k0:0<=(k:Int)*a.aj:=zJ au hs;unfold lV;rcases h.st with ⟨h1,h2⟩|⟨h1,h2,h3⟩
 ·simp_all
 ·rw[qE]at e;have:(k:Int)*a.aj<=(a.ag-a.ah)/a.aj*a.aj:=zN au hs;rw[wm (ve h3)]at this;omega
def iH{a:aK}(h:NN a)(x:Int):bR a x↔∃k:Nat,k<cnt a/\x=lV a k:=by
 constructor
 ·rintro⟨h1,h2,q,hq⟩;have e:=gy h;rw[BE h]at e;rcases h.st with ⟨k1,k2⟩|⟨k1,k2,k3⟩
  ·exact⟨0,iU h,by unfold lV;omega⟩
  ·rw[qE]at e;rw[zQ]at hq;have q0:0<=q:=Decidable.byContradiction λc=>by
    have:q*a.aj<= -1*a.aj:=zN au au;omega
   have q1:q<=(a.ag-a.ah)/a.aj:=Int.le_ediv_of_mul_le au au;refine⟨q.toNat,au,?_⟩;unfold lV;rw[show ((q.toNat:Nat):Int)=q by omega,<-hq];omega
 ·rintro⟨k,hk,rfl⟩;obtain⟨h1,h2⟩:=afT h hk;exact⟨h1,h2,by unfold lV;rw[show a.ah+(k:Int)*a.aj-a.ah=(k:Int)*a.aj by omega];exact xG ..⟩
def uw{a:aK}(h:NN a){k:Nat}(hk:k<cnt a):cA (lV a k):=ZV (.inr h) ((iH h _).mpr ⟨k,hk,rfl⟩)
def pM{a:aK}(h:NN a){k:Nat}(hk:k<cnt a):ZB a (k:Int)=lV a k:=by
 have:=afT h hk;have:=h.lo;have:=h.hi;unfold ZB;unfold lV at*;rw[aL (n:=(k:Int)*a.aj),aL]
def tV(op:Int)(a b:aK)(y:Int):Prop:=∃x z,bR a x/\bR b z/\y=fO op x z
def pref(op:Int)(a b:aK)(i:Nat)(l:af Int):Prop:=(∀y,y∈l↔∃k,k<i/\∃j,j<cnt b/\y=fO op (lV a k) (lV b j))/\zY l=i*cnt b/\∀y∈l,cA y
def aqJ(op:Int)(a b:aK)(i j:Nat)(l:af Int):Prop:=(∀y,y∈l↔(∃k,k<i/\∃m,m<cnt b/\y=fO op (lV a k) (lV b m))\/∃m,m<j/\y=fO op (lV a i) (lV b m))/\zY l=i*cnt b+j/\∀y∈l,cA y
def ZE{op:Int}{a b:aK}{i:Nat}{l:af Int}(h:aqJ op a b i (cnt b) l):pref op a b (i+1) l:=by
 refine⟨λy=>(h.1 y).trans ⟨?_,?_⟩,by rw[h.2.1,zW,yL],h.2.2⟩
 ·grind
 ·rintro⟨k,hk,m,hm,e⟩;rcases xk.mp hk with c|rfl
  ·exact .inl ⟨k,c,m,hm,e⟩
  ·exact .inr ⟨m,hm,e⟩
def ac5{op:Int}{a b c:aK}(ho:binop op)(ha:NN a)(hb:NN b)(hs:cnt a*cnt b<=1000000){i:Nat}(hi:i<cnt a){l:af Int}(hl:pref op a b i l):
  (∃l',Co (jy.mk op l i 0 a b c)=V (jy.mk op l' i (cnt b:Nat) a b c)/\pref op a b (i+1) l')\/
  (∃l' j,j<cnt b/\Co (jy.mk op l i 0 a b c)=V (jy.mk op l' i (j:Nat) a b c)/\¬cA (fO op (lV a i) (lV b j))):=by
 have hcb:cnt b<=1000000:=zG (Nat.le_mul_of_pos_left _ (iU ha)) hs;have hlen:(i+1)*cnt b<=1000000:=zG (yh _ hi) hs;rw[zW,yL]at hlen;obtain⟨j,l',e,hI,h⟩:=jj (rnd:=L8) (cnt b) (λj (l:af Int)=>jy.mk op l i (j:Nat) a b c) (λj l=>aqJ op a b i j l) (λj l=>¬cA (fO op (lV a i) (lV b j)))
  (λj l hj hI=>by
   obtain⟨v,ev,hv⟩:=ng (uw ha hi) (uw hb hj) ho;unfold L8 vH;rw[ew (.inr hb),gy hb];simp only;rw[oR,cK,pM ha hi,pM hb hj,ev];simp only;by_cases hr:cA (fO op (lV a i) (lV b j))
   ·left;rw[bX hr];rw[bC (by rw[zh,hI.2.1];simp;omega),jQ hj hcb,hv hr];refine⟨_,rfl,λy=> ?_,by rw[zh,hI.2.1];simp;omega,λy hy=> ?_⟩
    ·rw[zP,zo,hI.1 y];constructor
     ·rintro((h|⟨m,hm,h⟩)|rfl)
      ·simp_all
      ·exact .inr ⟨m,au,h⟩
      ·exact .inr ⟨j,au,rfl⟩
     ·rintro(h|⟨m,hm,h⟩)
      ·simp_all
      ·rcases xk.mp hm with c|rfl
       ·exact .inl (.inr ⟨m,c,h⟩)
       ·omega
    ·rcases zP.mp hy with hy|hy
     ·exact hI.2.2 y hy
     ·simp_all
   ·right;rw[bW hr];exact⟨rfl,hr⟩)
  (λl hI=>by
   unfold L8 vH;rw[ew (.inr hb),gy hb];simp only;rw[fE];rfl) (b:=l) ⟨λy=>(hl.1 y).trans ⟨.inl,λh=>h.elim id λ⟨m,hm,_⟩=>dU hm (y7 _)⟩,by rw[hl.2.1];rfl,hl.2.2⟩
 rcases h with rfl|⟨hj,h⟩
 ·exact .inl ⟨l',e,ZE hI⟩
 ·exact .inr ⟨l',j,hj,e,h⟩
def Ez{op:Int}{a b:aK}(ho:binop op)(ha:NN a)(hb:NN b)(hs:cnt a*cnt b<=1000000):
  ((∀y,tV op a b y->cA y)/\∃c,Z7 op a b=V (c,0)/\dy (tV op a b) c)\/((¬∀y,tV op a b y->cA y)/\Z7 op a b=V (aK.mk 0 0 0,3)):=by
 have hca:cnt a<=1000000:=zG (Nat.le_mul_of_pos_right _ (iU hb)) hs;unfold Z7 Fm vH;obtain⟨i,l,e,hI,h⟩:=jj (rnd:=CN) (cnt a) (λi (l:af Int)=>nO.mk op l (i:Nat) a b (aK.mk 0 0 0)) (λi l=>pref op a b i l) (λi l=>∃l' j,j<cnt b/\Co (jy.mk op l i 0 a b (aK.mk 0 0 0))=V (jy.mk op l' i (j:Nat) a b (aK.mk 0 0 0))/\¬cA (fO op (lV a i) (lV b j)))
  (λi l hi hI=>by
   unfold CN Fm vH;rw[ew (.inr ha),gy ha];simp only;rw[oR,cK];rcases ac5 (c:=aK.mk 0 0 0) ho ha hb hs hi hI with ⟨l',e,h⟩|⟨l',j,hj,e,h⟩
   ·left;rw[e];simp only;rw[ew (.inr hb),gy hb];simp only;rw[fE,ct,jQ hi hca];exact⟨l',rfl,h⟩
   ·right;refine⟨?_,l',j,hj,e,h⟩;rw[e];simp only;rw[ew (.inr hb),gy hb];simp only;obtain⟨v,ev,hv⟩:=ng (uw ha hi) (uw hb hj) ho;rw[oR,cK,pM ha hi,pM hb hj,ev];rw[bW h];rfl)
  (λl hI=>by
   unfold CN Fm vH;rw[ew (.inr ha),gy ha];simp only;rw[fE];rfl) (b:=[]) ⟨λy=>⟨λh=>dU h (by simp),λ⟨k,hk,_⟩=>dU hk (y7 _)⟩,by simp,λy hy=>dU hy (by simp)⟩
 have e:bI CN (nO.mk op [] 0 a b (aK.mk 0 0 0))=V (nO.mk op l (i:Nat) a b (aK.mk 0 0 0)):=e;rw[show KW=bI CN from rfl,e];simp only;rw[ew (.inr ha),gy ha];simp only;rcases h with rfl|⟨hi,l',j,hj,e1,h⟩
 ·left;have mem:∀y,y∈l↔tV op a b y:=λy=>(hI.1 y).trans ⟨λ⟨k,hk,m,hm,e⟩=>⟨_,_,(iH ha _).mpr ⟨k,hk,rfl⟩,(iH hb _).mpr ⟨m,hm,rfl⟩,e⟩,λ⟨x,z,hx,hz,e⟩=>by
   obtain⟨k,hk,rfl⟩:=(iH ha _).mp hx;obtain⟨m,hm,rfl⟩:=(iH hb _).mp hz;exact⟨k,hk,m,hm,e⟩⟩
  rw[fE,ct];have hne:l≠[]:=λe=>by
   have:=hI.2.1;have:=Nat.mul_pos (iU ha) (iU hb);simp_all
  obtain⟨c,e2,hc⟩:=Nj hne (by rw[hI.2.1];exact hs) hI.2.2;rw[e2];exact⟨λy hy=>hI.2.2 y ((mem y).mpr hy),c,rfl,hc.congr mem⟩
 ·right;refine⟨λk=>h (k _ ⟨_,_,(iH ha _).mpr ⟨i,hi,rfl⟩,(iH hb _).mpr ⟨j,hj,rfl⟩,rfl⟩),?_⟩;rw[oR,cK,e1];simp only;rw[ew (.inr hb),gy hb];simp only;obtain⟨v,ev,hv⟩:=ng (uw ha hi) (uw hb hj) ho;rw[oR,cK,pM ha hi,pM hb hj,ev];rw[bW h];rfl
def WB{a:aK}(h:NN a)(hs:cnt a<=1000000):adN a=V ((zH (cnt a)).map (lV a)):=by
 unfold adN Il;rw[lJ (.inr h),gy h];simp only;have e:bI Ce (nD.mk [] (cnt a:Nat) 0 a)=V (nD.mk ((zH (cnt a)).map (lV a)) (cnt a:Nat) (cnt a:Nat) a):=by
  obtain⟨l,e,hl⟩:=cS (rnd:=Ce) (cnt a) (λi (l:af Int)=>nD.mk l (cnt a:Nat) (i:Nat) a) (λi l=>l=(zH i).map (lV a))
   (λi l hi hl=>by
    subst hl;unfold Ce Il;simp only;have:=pM h hi;unfold ZB at this;rw[oR,cK,this,bC (by simp;omega),jQ hi hs];exact⟨_,rfl,by rw[wG,zO];rfl⟩)
   (λl hl=>by
    unfold Ce Il;simp only;rw[fE];rfl) (b:=[]) rfl
  simp_all
 rw[show M1=bI Ce from rfl,e];simp
def rG(a:aK):zY ((zH (cnt a)).map (lV a))=cnt a:=by simp
def Ox(a:aK){k:Nat}(h:k<cnt a):((zH (cnt a)).map (lV a))[k]! =lV a k:=by
 rw[getElem!_pos _ k (by rw[rG];exact h),yM,wo]
def QM(op:Int):Prop:=op=11\/op=12\/op=21\/op=22
def V6{op x y:Int}(hx:cA x)(hy:cA y)(ho:QM op):cA (fO op x y):=by
 rcases ho with rfl|rfl|rfl|rfl
 ·exact(R3 hx).1
 ·show cA (if y=0 then 0 else x-y*o5 x y);by_cases h0:y=0
  ·simp_all
  ·rw[bL h0];exact(Uj hy h0).1
 ·show cA (min x y);grind
 ·show cA (max x y);grind
def aez(op:Int)(a b:aK)(i j:Nat)(y:Int):Prop:=(∃k,k<i/\∃m,m<cnt b/\y=fO op (lV a k) (lV b m))\/∃m,m<j/\y=fO op (lV a i) (lV b m)
def abJ{op:Int}{a b c:aK}(ho:QM op)(ha:NN a)(hb:NN b)(hs:cnt b<=1000000){i:Nat}(hi:i<cnt a){o:aK}{l:af Int}{n t:Int}(hr:nC (aez op a b i 0) o)(hv:NV o):
  ∃o',ML (nW.mk op (lV a i) l n t ((zH (cnt b)).map (lV b)) (cnt b:Nat) 0 b c o)=V (nW.mk op (lV a i) l n t ((zH (cnt b)).map (lV b)) (cnt b:Nat) (cnt b:Nat) b c o')/\nC (aez op a b (i+1) 0) o'/\NV o':=by
 obtain⟨o',e,hI,hv'⟩:=cS (rnd:=Ms) (cnt b) (λj (o:aK)=>nW.mk op (lV a i) l n t ((zH (cnt b)).map (lV b)) (cnt b:Nat) (j:Nat) b c o) (λj o=>nC (aez op a b i j) o/\NV o)
  (λj o hj hI=>by
   have hR:=V6 (uw ha hi) (uw hb hj) ho;unfold Ms sv;simp only;rw[oR,cK,rG,gM,zg,bC ⟨trivial,hj⟩,Ox b hj,alU (uw ha hi) (uw hb hj) ho];simp only;rw[ku hI.2 (.inr (show NN (jc (fO op (lV a i) (lV b j)))from NN.one hR.1 hR.2)),jQ hj hs];refine⟨_,rfl,(hI.1.join (Mm _) hI.2 (sM hR)).congr λy=> ?_,eW hI.2 (sM hR)⟩;constructor
   ·rintro((h|⟨m,hm,h⟩)|rfl)
    ·exact .inl h
    ·exact .inr ⟨m,au,h⟩
    ·exact .inr ⟨j,au,rfl⟩
   ·rintro(h|⟨m,hm,h⟩)
    ·exact .inl (.inl h)
    ·rcases xk.mp hm with c|rfl
     ·exact .inl (.inr ⟨m,c,h⟩)
     ·exact .inr h)
  (λo hI=>by
   unfold Ms sv;simp only;rw[fE];rfl) (b:=o) ⟨hr,hv⟩
 refine⟨o',e,hI.congr λy=> ?_,hv'⟩;constructor
 ·rintro(⟨k,hk,h⟩|⟨m,hm,h⟩)
  ·exact .inl ⟨k,au,h⟩
  ·exact .inl ⟨i,au,m,hm,h⟩
 ·rintro(⟨k,hk,h⟩|⟨m,hm,_⟩)
  ·rcases xk.mp hk with c|rfl
   ·exact .inl ⟨k,c,h⟩
   ·obtain⟨m,hm,h⟩:=h;exact .inr ⟨m,hm,h⟩
  ·omega
def RU{op:Int}{a b:aK}(ho:QM op)(ha:NN a)(hb:NN b)(hs:cnt a*cnt b<=4096):∃c,AW op a b=V c/\dy (tV op a b) c:=by
 have hca:cnt a<=4096:=zG (Nat.le_mul_of_pos_right _ (iU hb)) hs;have hcb:cnt b<=4096:=zG (Nat.le_mul_of_pos_left _ (iU ha)) hs;unfold AW C5 sv;rw[lJ (.inr ha),lJ (.inr hb),gy ha,gy hb];simp only;rw[bW (show ¬(4096:Int)<((cnt a:Nat):Int)by omega),bW (show ¬(4096:Int)<((cnt b:Nat):Int)by omega),ct,ct,aL,fE,ct,WB ha au];simp only;rw[rG];obtain⟨o,e,hI,hv⟩:=cS (rnd:=Ct) (cnt a) (λi (o:aK)=>nI.mk op ((zH (cnt a)).map (lV a)) (cnt a:Nat) (i:Nat) b (aK.mk 0 0 0) o) (λi o=>nC (aez op a b i 0) o/\NV o)
  (λi o hi hI=>by
   unfold Ct C5 sv;simp only;rw[oR,cK,rG,gM,zg,bC ⟨trivial,hi⟩,Ox a hi,WB hb au];simp only;rw[rG];obtain⟨o',e,h1,h2⟩:=abJ (c:=aK.mk 0 0 0) (l:=(zH (cnt a)).map (lV a)) (n:=(cnt a:Nat)) (t:=(i:Nat)) ho ha hb au hi hI.1 hI.2;rw[e];simp only;rw[fE,ct,jQ hi au];exact⟨o',rfl,h1,h2⟩)
  (λo hI=>by
   unfold Ct C5 sv;simp only;rw[fE];rfl) (b:=cM) ⟨.none λy h=>by
    rcases h with ⟨k,hk,_⟩|⟨m,hm,_⟩
    ·omega
    ·exact dU hm (y7 _), .inl rfl⟩
 have e:bI Ct (nI.mk op ((zH (cnt a)).map (lV a)) (cnt a:Nat) 0 b (aK.mk 0 0 0) jv)=V (nI.mk op ((zH (cnt a)).map (lV a)) (cnt a:Nat) (cnt a:Nat) b (aK.mk 0 0 0) o):=e;rw[show MF=bI Ct from rfl,e];simp only;rw[fE,ct];refine⟨o,rfl,?_⟩;have mem:∀y,aez op a b (cnt a) 0 y↔tV op a b y:=λy=>⟨λh=>by
  rcases h with ⟨k,hk,m,hm,e⟩|⟨m,hm,_⟩
  ·exact⟨_,_,(iH ha _).mpr ⟨k,hk,rfl⟩,(iH hb _).mpr ⟨m,hm,rfl⟩,e⟩
  ·exact dU hm (y7 _),λ⟨x,z,hx,hz,e⟩=>by
  obtain⟨k,hk,rfl⟩:=(iH ha _).mp hx;obtain⟨m,hm,rfl⟩:=(iH hb _).mp hz;exact .inl ⟨k,hk,m,hm,e⟩⟩
 rcases hI.congr mem with ⟨_,k⟩|k
 ·exact dU ⟨_,_,(iH ha _).mpr ⟨0,iU ha,rfl⟩,(iH hb _).mpr ⟨0,iU hb,rfl⟩,rfl⟩ (k (fO op (lV a 0) (lV b 0)))
 ·exact k
def adx{op:Int}{a b:aK}(ha:NN a)(hb:NN b)(hs:¬cnt a*cnt b<=4096):AW op a b=aag op a b:=by
 unfold AW C5 sv;rw[lJ (.inr ha),lJ (.inr hb),gy ha,gy hb];simp only;by_cases c1:(4096:Int)<((cnt a:Nat):Int)
 ·rw[bX c1,cK];grind
 ·rw[bW c1,ct];by_cases c2:(4096:Int)<((cnt b:Nat):Int)
  ·rw[bX c2,cK];grind
  ·have hb':((cnt a:Nat):Int)*((cnt b:Nat):Int)<=4096*4096:=yY au au au au;have hp:(4096:Int)<((cnt a:Nat):Int)*((cnt b:Nat):Int):=by rw[<-wK];omega
   rw[bW c2,ct,aL,bX hp,cK];grind
instance (op:Int):Decidable (binop op):=inferInstanceAs (Decidable (_/\_))
def ki(op:Int):Ec op=vn (binop op):=by
 unfold Ec;by_cases h:binop op
 ·obtain⟨o1,o2⟩:=h;have cases15:op=8\/op=9\/op=10\/op=11\/op=12\/op=13\/op=14\/op=15\/op=16\/op=17\/op=18\/op=19\/op=20\/op=21\/op=22:=au;rcases cases15 with rfl|rfl|rfl|rfl|rfl|rfl|rfl|rfl|rfl|rfl|rfl|rfl|rfl|rfl|rfl<;>rfl
 ·have k:∀n:Int,8<=n->n<=22->¬op=n:=λn h1 h2 e=>h (by unfold binop;omega);rw[show vn (binop op)=O from bW h];rw[bW (k 8 (by decide) (by decide)),bW (k 9 (by decide) (by decide)),bW (k 10 (by decide) (by decide)),bW (k 11 (by decide) (by decide)),bW (k 12 (by decide) (by decide)),
   bW (k 13 (by decide) (by decide)),bW (k 14 (by decide) (by decide)),bW (k 15 (by decide) (by decide)),bW (k 16 (by decide) (by decide)),bW (k 17 (by decide) (by decide)),
   bW (k 18 (by decide) (by decide)),bW (k 19 (by decide) (by decide)),bW (k 20 (by decide) (by decide)),bW (k 21 (by decide) (by decide)),bW (k 22 (by decide) (by decide))]
  rfl
def JS{a b:aK}(hb:NN b):((cnt a:Nat):Int)<=(4096:Int)/((cnt b:Nat):Int)↔cnt a*cnt b<=4096:=by
 have:=iU hb;rw[Int.le_ediv_iff_mul_le au,<-wK];omega
def pF{op:Int}{a b:aK}(ho:binop op)(ha:NN a)(hb:NN b)(hs:cnt a*cnt b<=4096):pO op a b=Z7 op a b:=by
 have:=iU hb;unfold pO;rw[gp,gp,dZ (.inr ha),dZ (.inr hb),show I5 op=Ec op from rfl,ki,bX ho];rw[iw ha,iw hb,ew (.inr ha),ew (.inr hb),gy ha,gy hb];simp only;have q0:0<=(4096:Int)/((cnt b:Nat):Int):=zS au au;have q1:(4096:Int)/((cnt b:Nat):Int)<=4096:=yl _ au;rw[bC (show ¬@Eq Int ((cnt b:Nat):Int) 0 by omega),kK,aL,bX ((JS hb).mpr hs),cK];grind
def adU(a0:Int)(a1 a2:aK):aa (aK×Int):=
 bif vn (a0=8)then Aj a0 a1 a2 else bif vn (a0=9)then Aj a0 a1 a2 else bif vn (a0=10)then Aj a0 a1 a2 else bif vn (a0=11)then
  (bif(vn (0<=a1.ah)&&vn (0<=a2.ah))then j4 0 (max a1.ah.natAbs a1.ag.natAbs:Nat) 1 else j4 (-((max a1.ah.natAbs a1.ag.natAbs:Nat):Int)) (max a1.ah.natAbs a1.ag.natAbs:Nat) 1)
 else bif vn (a0=12)then j4 (if a2.ah<0 then a2.ah+1 else 0) (if 0<a2.ag then a2.ag-1 else 0) 1
 else bif vn (a0=21)then(match m41 (cE a1 a2) (min a1.ag a2.ag)with|G=>G|V c=>V (c,0))
 else bif vn (a0=22)then(match m42 (cE a1 a2) (max a1.ah a2.ah-1)with|G=>G|V c=>V (c,0))
 else(match afG a0 a1 a2 with|G=>G|V c=>V (c,0))
def Az{op:Int}{a b:aK}(ho:binop op)(ha:NN a)(hb:NN b)(hs:¬cnt a*cnt b<=4096):pO op a b=adU op a b:=by
 have:=iU hb;have r1:=ha.ux;have r2:=ha.DL;have r3:=hb.ux;have r4:=hb.DL;obtain⟨a1,a2⟩:=r1;obtain⟨a3,a4⟩:=r2;obtain⟨b1,b2⟩:=r3;obtain⟨b3,b4⟩:=r4;unfold pO adU;rw[gp,gp,dZ (.inr ha),dZ (.inr hb),show I5 op=Ec op from rfl,ki,bX ho];simp only;rw[iw ha,iw hb,ew (.inr ha),ew (.inr hb),gy ha,gy hb];simp only;have q0:0<=(4096:Int)/((cnt b:Nat):Int):=zS au au;have q1:(4096:Int)/((cnt b:Nat):Int)<=4096:=yl _ au;rw[bC (show ¬@Eq Int ((cnt b:Nat):Int) 0 by omega),kK,aL (n:=(4096:Int)/((cnt b:Nat):Int)),bW (λk=>hs ((JS hb).mp k)),ct];have cases15:op=8\/op=9\/op=10\/op=11\/op=12\/op=13\/op=14\/op=15\/op=16\/op=17\/op=18\/op=19\/op=20\/op=21\/op=22:=by
  obtain⟨o1,o2⟩:=ho;omega
 have ez:(bif vn (0<=a.ah)then some (vn (0<=b.ah))else some false)=some (vn (0<=a.ah)&&vn (0<=b.ah)):=by cases vn (0<=a.ah)<;>rfl
 rcases cases15 with rfl|rfl|rfl|rfl|rfl|rfl|rfl|rfl|rfl|rfl|rfl|rfl|rfl|rfl|rfl
 all_goals simp only[Int.reduceEq,D0,ct]
 ·cases Aj 8 a b<;>rfl
 ·cases Aj 9 a b<;>rfl
 ·cases Aj 10 a b<;>rfl
 ·rw[Al ha.ux,Al ha.DL,ez];by_cases c:((a.ah.natAbs:Nat):Int)<((a.ag.natAbs:Nat):Int)
  ·rw[bX c,cK,aL,xW,Nat.max_eq_right au];cases (vn (0<=a.ah)&&vn (0<=b.ah))with
   |true=>(simp only;generalize j4 _ _ _=z;cases z<;>rfl)
   |false=>(simp only[ct];generalize j4 _ _ _=z;cases z<;>rfl)
  ·rw[bW c,ct,aL,xW,Nat.max_eq_left au];cases (vn (0<=a.ah)&&vn (0<=b.ah))with
   |true=>(simp only;generalize j4 _ _ _=z;cases z<;>rfl)
   |false=>(simp only[cD];generalize j4 _ _ _=z;cases z<;>rfl)
 ·rw[aL (n:=b.ah+1),aL (n:=b.ag-1)];by_cases c:b.ah<0<;>by_cases d:0<b.ag
  ·rw[bX c,bX d,bC c,bC d];(simp only[cD];generalize j4 _ _ _=z;cases z<;>rfl)
  ·rw[bX c,bW d,bC c,bL d];(simp only[cD];generalize j4 _ _ _=z;cases z<;>rfl)
  ·rw[bW c,bX d,bL c,bC d];(simp only[cD];generalize j4 _ _ _=z;cases z<;>rfl)
  ·rw[bW c,bW d,bL c,bL d];(simp only[cD];generalize j4 _ _ _=z;cases z<;>rfl)
 ·rfl
 ·rfl
 ·rfl
 ·rfl
 ·rfl
 ·rfl
 ·rfl
 ·rfl
 ·obtain⟨v,ev,hv⟩:=ng (op:=21) ha.DL hb.DL ⟨by decide,by decide⟩;have hv:v=min a.ag b.ag:=hv (V6 ha.DL hb.DL (.inr (.inr (.inl rfl))));rw[ev,gu (.inr ha) (.inr hb)];simp only;rw[hv];cases m41 (cE a b) (min a.ag b.ag)<;>rfl
 ·obtain⟨v,ev,hv⟩:=ng (op:=22) ha.ux hb.ux ⟨by decide,by decide⟩;have hv:v=max a.ah b.ah:=hv (V6 ha.ux hb.ux (.inr (.inr (.inr rfl))));rw[ev,gu (.inr ha) (.inr hb)];simp only;rw[hv,aL];cases m42 (cE a b) (max a.ah b.ah-1)<;>rfl
def abn{op:Int}{a b:aK}(ho:QM op)(ha:NN a)(hb:NN b):∃c,AW op a b=V c/\pO op a b=V (c,0)/\NV c:=by
 have hbin:binop op:=by unfold binop;rcases ho with rfl|rfl|rfl|rfl<;>decide
 have r1:=ha.ux;have r2:=ha.DL;have r3:=hb.ux;have r4:=hb.DL;by_cases hs:cnt a*cnt b<=4096
 ·obtain⟨c,e1,h1⟩:=RU ho ha hb hs;have hR:∀y,tV op a b y->cA y:=λy ⟨x,z,hx,hz,e⟩=>by rw[e];exact V6 (ZV (.inr ha) hx) (ZV (.inr hb) hz) ho
  rw[pF hbin ha hb hs];rcases Ez hbin ha hb au with ⟨_,d,e2,h2⟩|⟨k,_⟩
  ·rw[h2.uniq h1]at e2;exact⟨c,e1,e2, .inr (h1.valid hR)⟩
  ·simp_all
 ·rw[adx ha hb hs,Az hbin ha hb hs];obtain⟨a1,a2⟩:=r1;obtain⟨a3,a4⟩:=r2;obtain⟨b1,b2⟩:=r3;obtain⟨b3,b4⟩:=r4;unfold aag adU;rcases ho with rfl|rfl|rfl|rfl
  all_goals simp only[Int.reduceEq,D0,ct]
  ·rw[ob ha.ux,ob ha.DL];have em:(if((a.ah.natAbs:Nat):Int)<((a.ag.natAbs:Nat):Int)then((a.ag.natAbs:Nat):Int)else((a.ah.natAbs:Nat):Int))=((max a.ah.natAbs a.ag.natAbs:Nat):Int):=by split<;>omega
   rw[em];have ez:(bif vn (0<=a.ah)then some (vn (0<=b.ah))else some false)=some (vn (0<=a.ah)&&vn (0<=b.ah)):=by cases vn (0<=a.ah)<;>rfl
   rw[ez];simp only;have hm:((max a.ah.natAbs a.ag.natAbs:Nat):Int)<=1099511627776:=au;generalize max a.ah.natAbs a.ag.natAbs=m at*;rw[aL,xW,pL au au au,pL au au au,mZ ⟨au,au⟩ ⟨au,au⟩ au,mZ ⟨au,au⟩ ⟨au,au⟩ au];cases (vn (0<=a.ah)&&vn (0<=b.ah))with
   |true=>exact⟨_,rfl,rfl, .inr (nh au au au au)⟩
   |false=>exact⟨_,rfl,rfl, .inr (nh au au au au)⟩
  ·rw[aL (n:=b.ah+1),aL (n:=b.ag-1)];rw[show (if 0<b.ah+1 then 0 else b.ah+1)=(if b.ah<0 then b.ah+1 else 0)by split<;>split<;>omega,show (if b.ag-1<0 then 0 else b.ag-1)=(if 0<b.ag then b.ag-1 else 0)by split<;>split<;>omega];rw[pL au au au,mZ ⟨au,au⟩ ⟨au,au⟩ au];exact⟨_,rfl,rfl, .inr (nh au au au au)⟩
  ·rw[ku (.inr ha) (.inr hb)];simp only;rw[show (if b.ag<a.ag then b.ag else a.ag)=min a.ag b.ag by split<;>omega];have vj:=eW (.inr ha) (.inr hb);obtain⟨l,u,e1,h1,_⟩:=Bq vj (min a.ag b.ag);obtain⟨l',e2,h2⟩:=KQ vj (min a.ag b.ag);rw[e1,e2,h2.rep.uniq h1.rep];exact⟨l,rfl,rfl,h1.1⟩
  ·rw[ku (.inr ha) (.inr hb)];simp only;rw[show (if a.ah<b.ah then b.ah else a.ah)=max a.ah b.ah by split<;>omega,aL];have vj:=eW (.inr ha) (.inr hb);obtain⟨l,u,e1,_,h1⟩:=Bq vj (max a.ah b.ah-1);obtain⟨u',e2,h2⟩:=Cb vj (max a.ah b.ah-1);rw[e1,e2,h2.rep.uniq h1.rep];exact⟨u,rfl,rfl,h1.1⟩
def ssc(a b c:Int):a-c-(b-c)=a-b:=au
def dw{a:aK}(h:NN a):bR a a.ah:=⟨zj _,h.le,⟨0,au⟩⟩
def gz{a:aK}(h:NN a):bR a a.ag:=⟨h.le,zj _,h.dvd⟩
def Xi{a:aK}(h:NN a):bR a (a.ah+a.aj):=⟨by have:=h.s0;omega,by have:=h.sle;omega,⟨1,au⟩⟩
def Qq(a:aK)(x:Int):Prop:=x=a.ah\/x=a.ah+a.aj\/x=a.ag
def rP{a:aK}(h:NN a){x:Int}(hx:Qq a x):bR a x:=by
 rcases hx with rfl|rfl|rfl
 ·exact dw h
 ·exact Xi h
 ·exact gz h
structure Mid (op:Int) (a b:aK) (Q:Int->Prop):Prop where
 c:∀x z,Qq a x->Qq b z->Q (fO op x z)
 v:∀y,Q y->tV op a b y
def Fb(op:Int)(a b:aK)(y:Int):Prop:=∃x z,Qq a x/\Qq b z/\y=fO op x z
def apx{op:Int}{a b:aK}(ha:NN a)(hb:NN b):Mid op a b (tV op a b):=⟨λx z hx hz=>⟨x,z,rP ha hx,rP hb hz,rfl⟩,λ_ h=>h⟩
def ap7{op:Int}{a b:aK}(ha:NN a)(hb:NN b):Mid op a b (Fb op a b):=⟨λx z hx hz=>⟨x,z,hx,hz,rfl⟩,λ_ ⟨x,z,hx,hz,e⟩=>⟨x,z,rP ha hx,rP hb hz,e⟩⟩
def Ql{a b:aK}(ha:NN a)(hb:NN b){Q:Int->Prop}(h:Mid 8 a b Q):dy Q (aK.mk (a.ah+b.ah) (a.ag+b.ag) (cv a.aj b.aj)):=by
 refine⟨h.c a.ah b.ah (.inl rfl) (.inl rfl),h.c a.ag b.ag (.inr (.inr rfl)) (.inr (.inr rfl)),λy hy=> ?_,mb _ _,λd hd=>jL ?_ ?_⟩
 ·obtain⟨x,z,⟨x1,x2,x3⟩,⟨z1,z2,z3⟩,rfl⟩:=h.v y hy;show a.ah+b.ah<=x+z/\x+z<=a.ag+b.ag/\cv a.aj b.aj∣x+z-(a.ah+b.ah);have:=yZ (zZ (kI a.aj b.aj) x3) (zZ (ry a.aj b.aj) z3);grind
 ·have:=hd _ (h.c (a.ah+a.aj) b.ah (.inr (.inl rfl)) (.inl rfl));have this:d∣a.ah+a.aj+b.ah-(a.ah+b.ah):=this
  rwa [show a.ah+a.aj+b.ah-(a.ah+b.ah)=a.aj by omega]at this
 ·have:=hd _ (h.c a.ah (b.ah+b.aj) (.inl rfl) (.inr (.inl rfl)));have this:d∣a.ah+(b.ah+b.aj)-(a.ah+b.ah):=this
  rwa [show a.ah+(b.ah+b.aj)-(a.ah+b.ah)=b.aj by omega]at this
def P4{a b:aK}(ha:NN a)(hb:NN b){Q:Int->Prop}(h:Mid 9 a b Q):dy Q (aK.mk (a.ah-b.ag) (a.ag-b.ah) (cv a.aj b.aj)):=by
 refine⟨h.c a.ah b.ag (.inl rfl) (.inr (.inr rfl)),h.c a.ag b.ah (.inr (.inr rfl)) (.inl rfl),λy hy=> ?_,mb _ _,λd hd=>jL ?_ ?_⟩
 ·obtain⟨x,z,⟨x1,x2,x3⟩,⟨z1,z2,z3⟩,rfl⟩:=h.v y hy;show a.ah-b.ag<=x-z/\x-z<=a.ag-b.ah/\cv a.aj b.aj∣x-z-(a.ah-b.ag);have k:=yz hb.dvd z3;have:=yZ (zZ (kI a.aj b.aj) x3) (zZ (ry a.aj b.aj) k);grind
 ·have:=hd _ (h.c (a.ah+a.aj) b.ag (.inr (.inl rfl)) (.inr (.inr rfl)));have this:d∣a.ah+a.aj-b.ag-(a.ah-b.ag):=this
  rwa [show a.ah+a.aj-b.ag-(a.ah-b.ag)=a.aj by omega]at this
 ·have k1:=hd _ (h.c a.ah b.ah (.inl rfl) (.inl rfl));have k2:=hd _ (h.c a.ah (b.ah+b.aj) (.inl rfl) (.inr (.inl rfl)));have k1:d∣a.ah-b.ah-(a.ah-b.ag):=k1;have k2:d∣a.ah-(b.ah+b.aj)-(a.ah-b.ag):=k2;have:=yz k1 k2
  rwa [show a.ah-b.ah-(a.ah-b.ag)-(a.ah-(b.ah+b.aj)-(a.ah-b.ag))=b.aj by omega]at this
def R5{l h x z:Int}(h1:l<=x)(h2:x<=h):min (l*z) (h*z)<=x*z/\x*z<=max (l*z) (h*z):=by
 rcases Int.le_total 0 z with c|c
 ·have k1:=zN h1 c;have k2:=zN h2 c;omega
 ·have k1:=Int.mul_le_mul_of_nonpos_right h1 c;have k2:=Int.mul_le_mul_of_nonpos_right h2 c;omega
def Zb(p q r s:Int):Int:=min (min p q) (min r s)
def hi4(p q r s:Int):Int:=max (max p q) (max r s)
def Wn{a b:aK}{x z:Int}(hx:a.ah<=x/\x<=a.ag)(hz:b.ah<=z/\z<=b.ag):
  Zb (a.ah*b.ah) (a.ah*b.ag) (a.ag*b.ah) (a.ag*b.ag)<=x*z/\x*z<=hi4 (a.ah*b.ah) (a.ah*b.ag) (a.ag*b.ah) (a.ag*b.ag):=by
 have k1:=R5 (z:=x) hz.1 hz.2;have k2:=R5 (z:=b.ah) hx.1 hx.2;have k3:=R5 (z:=b.ag) hx.1 hx.2;rw[zQ b.ah x,zQ b.ag x,zQ z x]at k1;unfold Zb hi4;omega
def aoW{P:Int->Prop}{p q r s:Int}(h1:P p)(h2:P q)(h3:P r)(h4:P s):P (Zb p q r s)/\P (hi4 p q r s):=by
 have e1:Zb p q r s=p\/Zb p q r s=q\/Zb p q r s=r\/Zb p q r s=s:=by unfold Zb;omega
 have e2:hi4 p q r s=p\/hi4 p q r s=q\/hi4 p q r s=r\/hi4 p q r s=s:=by unfold hi4;omega
 grind
def ard(a b:aK):aK:=aK.mk (Zb (a.ah*b.ah) (a.ah*b.ag) (a.ag*b.ah) (a.ag*b.ag)) (hi4 (a.ah*b.ah) (a.ah*b.ag) (a.ag*b.ah) (a.ag*b.ag)) (cv (cv (a.aj*b.ah) (b.aj*a.ah)) (a.aj*b.aj))
def Rz{a b:aK}(ha:NN a)(hb:NN b){Q:Int->Prop}(h:Mid 10 a b Q):dy Q (ard a b):=by
 have h00:Q (a.ah*b.ah):=h.c a.ah b.ah (.inl rfl) (.inl rfl);have h01:Q (a.ah*b.ag):=h.c a.ah b.ag (.inl rfl) (.inr (.inr rfl));have h10:Q (a.ag*b.ah):=h.c a.ag b.ah (.inr (.inr rfl)) (.inl rfl);have h11:Q (a.ag*b.ag):=h.c a.ag b.ag (.inr (.inr rfl)) (.inr (.inr rfl));obtain⟨q1,q2⟩:=aoW (P:=Q) h00 h01 h10 h11;have g1:cv (cv (a.aj*b.ah) (b.aj*a.ah)) (a.aj*b.aj)∣a.aj*b.ah:=zZ (kI _ _) (kI _ _);have g2:cv (cv (a.aj*b.ah) (b.aj*a.ah)) (a.aj*b.aj)∣b.aj*a.ah:=zZ (kI _ _) (ry _ _);have g3:cv (cv (a.aj*b.ah) (b.aj*a.ah)) (a.aj*b.aj)∣a.aj*b.aj:=ry _ _;have base:∀y,Q y->cv (cv (a.aj*b.ah) (b.aj*a.ah)) (a.aj*b.aj)∣y-a.ah*b.ah:=λy hy=>by
  obtain⟨x,z,⟨_,_,i,x3⟩,⟨_,_,j,z3⟩,rfl⟩:=h.v y hy;show _∣x*z-a.ah*b.ah;have e:x*z-a.ah*b.ah=i*(a.aj*b.ah)+j*(b.aj*a.ah)+i*j*(a.aj*b.aj):=by
   grind
  rw[e];exact yZ (yZ (zZ g1 (xG ..)) (zZ g2 (xG ..))) (zZ g3 (xG ..))
 refine⟨q1,q2,λy hy=> ?_,mb _ _,λd hd=> ?_⟩
 ·obtain⟨x,z,hx,hz,e⟩:=h.v y hy;have k:=Wn ⟨hx.1,hx.2.1⟩ ⟨hz.1,hz.2.1⟩;refine⟨by rw[e];exact k.1,by rw[e];exact k.2,?_⟩;have:=yz (base y hy) (base _ q1)
  rwa [ssc]at this
 ·have diff:∀y y',Q y->Q y'->d∣y-y':=λy y' hy hy'=>by
   have:=yz (hd y hy) (hd y' hy');grind
  have p10:Q ((a.ah+a.aj)*b.ah):=h.c _ _ (.inr (.inl rfl)) (.inl rfl);have p01:Q (a.ah*(b.ah+b.aj)):=h.c _ _ (.inl rfl) (.inr (.inl rfl));have p11:Q ((a.ah+a.aj)*(b.ah+b.aj)):=h.c _ _ (.inr (.inl rfl)) (.inr (.inl rfl));have d1:=diff _ _ p10 h00;rw[zU,Int.add_comm (a.ah*b.ah),Int.add_sub_cancel]at d1;have d2:=diff _ _ p01 h00;rw[xF,Int.add_comm (a.ah*b.ah),Int.add_sub_cancel,zQ]at d2;have d3:=yz (diff _ _ p11 p10) d2;rw[xF (a.ah+a.aj),Int.add_comm ((a.ah+a.aj)*b.ah),Int.add_sub_cancel,zU,zQ b.aj a.ah,Int.add_comm (a.ah*b.aj),Int.add_sub_cancel]at d3;exact jL (jL d1 d2) d3
def gQ(a:aK):af Int:=[a.ah,a.ah+a.aj,a.ag]
def qa(a:aK)(x:Int):Qq a x↔∃k,k<3/\x=(gQ a)[k]! :=by
 constructor
 ·rintro(rfl|rfl|rfl)
  ·exact⟨0,au,rfl⟩
  ·exact⟨1,au,rfl⟩
  ·exact⟨2,au,rfl⟩
 ·rintro⟨k,hk,rfl⟩;rcases (show k=0\/k=1\/k=2 by omega)with rfl|rfl|rfl
  ·exact .inl rfl
  ·exact .inr (.inl rfl)
  ·exact .inr (.inr rfl)
def JA{a:aK}(h:NN a){k:Nat}(hk:k<3):cA (gQ a)[k]! :=ZV (.inr h) (rP h ((qa a _).mpr ⟨k,hk,rfl⟩))
def prC(op:Int)(a b:aK)(i j:Nat)(l:af Int):Prop:=(∀y,y∈l↔(∃k,k<i/\∃m,m<3/\y=fO op (gQ a)[k]! (gQ b)[m]!)\/∃m,m<j/\y=fO op (gQ a)[i]! (gQ b)[m]!)/\zY l=i*3+j/\∀y∈l,cA y
def ah9{op:Int}{a b:aK}{i:Nat}{l:af Int}(h:prC op a b i 3 l):prC op a b (i+1) 0 l:=by
 refine⟨λy=>(h.1 y).trans ⟨?_,?_⟩,by rw[h.2.1];omega,h.2.2⟩
 ·rintro(⟨k,hk,m,hm,e⟩|⟨m,hm,e⟩)
  ·exact .inl ⟨k,au,m,hm,e⟩
  ·exact .inl ⟨i,au,m,hm,e⟩
 ·rintro(⟨k,hk,m,hm,e⟩|⟨m,hm,e⟩)
  ·rcases xk.mp hk with c|rfl
   ·exact .inl ⟨k,c,m,hm,e⟩
   ·exact .inr ⟨m,hm,e⟩
  ·omega
def abA{op:Int}{a b c:aK}(ho:binop op)(ha:NN a)(hb:NN b){i:Nat}(hi:i<3){l:af Int}(hl:prC op a b i 0 l):
  (∃l',Dg (jM.mk op l (gQ a) (gQ b) i 0 c)=V (jM.mk op l' (gQ a) (gQ b) i 3 c)/\prC op a b (i+1) 0 l')\/
  (∃l' j,j<3/\Dg (jM.mk op l (gQ a) (gQ b) i 0 c)=V (jM.mk op l' (gQ a) (gQ b) i (j:Nat) c)/\¬cA (fO op (gQ a)[i]! (gQ b)[j]!)):=by
 have ll:∀a:aK,zY (gQ a)=3:=λ_=>rfl;obtain⟨j,l',e,hI,h⟩:=jj (rnd:=Sz) 3 (λj (l:af Int)=>jM.mk op l (gQ a) (gQ b) i (j:Nat) c) (λj l=>prC op a b i j l) (λj l=>¬cA (fO op (gQ a)[i]! (gQ b)[j]!))
  (λj l hj hI=>by
   obtain⟨v,ev,hv⟩:=ng (JA ha hi) (JA hb hj) ho;unfold Sz Hi;simp only;rw[oR,cK,ll,ll,gM,zg,bC ⟨trivial,hi⟩,gM,zg,bC ⟨trivial,hj⟩,ev];simp only;by_cases hr:cA (fO op (gQ a)[i]! (gQ b)[j]!)
   ·left;rw[bX hr];rw[bC (by rw[zh,hI.2.1];simp;omega),jQ hj au,hv hr];refine⟨_,rfl,λy=> ?_,by rw[zh,hI.2.1];simp;omega,λy hy=> ?_⟩
    ·rw[zP,zo,hI.1 y];constructor
     ·rintro((h|⟨m,hm,h⟩)|rfl)
      ·exact .inl h
      ·exact .inr ⟨m,au,h⟩
      ·exact .inr ⟨j,au,rfl⟩
     ·rintro(h|⟨m,hm,h⟩)
      ·exact .inl (.inl h)
      ·rcases xk.mp hm with c|rfl
       ·exact .inl (.inr ⟨m,c,h⟩)
       ·omega
    ·rcases zP.mp hy with hy|hy
     ·exact hI.2.2 y hy
     ·simp_all
   ·right;rw[bW hr];exact⟨rfl,hr⟩)
  (λl hI=>by
   rfl) (b:=l) hl
 rcases h with rfl|⟨hj,h⟩
 ·exact .inl ⟨l',e,ah9 hI⟩
 ·exact .inr ⟨l',j,hj,e,h⟩
def ale{op:Int}{a b:aK}(ho:binop op)(ha:NN a)(hb:NN b):
  ((∀y,Fb op a b y->cA y)/\∃c,Aj op a b=V (c,0)/\dy (Fb op a b) c)\/((¬∀y,Fb op a b y->cA y)/\Aj op a b=V (aK.mk 0 0 0,3)):=by
 have ll:∀a:aK,zY (gQ a)=3:=λ_=>rfl;have wc:∀{a:aK},NN a->[a.ah,ak (a.ah+a.aj),a.ag]=gQ a:=λ{a} h=>by
  have:=ZV (.inr h) (Xi h);rw[aL (by have:=this.1;omega) (by have:=this.2;omega)];rfl
 unfold Aj NO Hi;rw[wc ha,wc hb];obtain⟨i,l,e,hI,h⟩:=jj (rnd:=HU) 3 (λi (l:af Int)=>nV.mk op l (gQ a) (gQ b) (i:Nat) (aK.mk 0 0 0)) (λi l=>prC op a b i 0 l) (λi l=>∃l' j,j<3/\Dg (jM.mk op l (gQ a) (gQ b) i 0 (aK.mk 0 0 0))=V (jM.mk op l' (gQ a) (gQ b) i (j:Nat) (aK.mk 0 0 0))/\¬cA (fO op (gQ a)[i]! (gQ b)[j]!))
  (λi l hi hI=>by
   unfold HU NO Hi;simp only;rw[oR,cK];rcases abA (c:=aK.mk 0 0 0) ho ha hb hi hI with ⟨l',e,h⟩|⟨l',j,hj,e,h⟩
   ·left;rw[e];simp only;rw[fE,ct,jQ hi au];exact⟨l',rfl,h⟩
   ·right;refine⟨?_,l',j,hj,e,h⟩;rw[e];simp only;obtain⟨v,ev,hv⟩:=ng (JA ha hi) (JA hb hj) ho;rw[oR,cK,ll,ll,gM,zg,bC ⟨trivial,hi⟩,gM,zg,bC ⟨trivial,hj⟩,ev];rw[bW h];rfl)
  (λl hI=>by
   rfl) (b:=[]) ⟨λy=>⟨λh=>dU h (by simp),λh=>by
    rcases h with ⟨k,hk,_⟩|⟨m,hm,_⟩
    ·omega
    ·exact dU hm (y7 _)⟩,by simp,λy hy=>dU hy (by simp)⟩
 have e:bI HU (nV.mk op [] (gQ a) (gQ b) 0 (aK.mk 0 0 0))=V (nV.mk op l (gQ a) (gQ b) (i:Nat) (aK.mk 0 0 0)):=e;rw[show K6=bI HU from rfl,e];simp only;rcases h with rfl|⟨hi,l',j,hj,e1,h⟩
 ·left;have mem:∀y,y∈l↔Fb op a b y:=λy=>(hI.1 y).trans ⟨λh=>by
   rcases h with ⟨k,hk,m,hm,e⟩|⟨m,hm,_⟩
   ·exact⟨_,_,(qa a _).mpr ⟨k,hk,rfl⟩,(qa b _).mpr ⟨m,hm,rfl⟩,e⟩
   ·exact dU hm (y7 _),λ⟨x,z,hx,hz,e⟩=>by
   obtain⟨k,hk,rfl⟩:=(qa a _).mp hx;obtain⟨m,hm,rfl⟩:=(qa b _).mp hz;exact .inl ⟨k,hk,m,hm,e⟩⟩
  have hne:l≠[]:=λe=>by
   have:=hI.2.1;simp_all
  obtain⟨c,e2,hc⟩:=Nj hne (by rw[hI.2.1];omega) hI.2.2;rw[e2];exact⟨λy hy=>hI.2.2 y ((mem y).mpr hy),c,rfl,hc.congr mem⟩
 ·right;refine⟨λk=>h (k _ ⟨_,_,(qa a _).mpr ⟨i,hi,rfl⟩,(qa b _).mpr ⟨j,hj,rfl⟩,rfl⟩),?_⟩;rw[oR,cK,e1];simp only;obtain⟨v,ev,hv⟩:=ng (JA ha hi) (JA hb hj) ho;rw[oR,cK,ll,ll,gM,zg,bC ⟨trivial,hi⟩,gM,zg,bC ⟨trivial,hj⟩,ev];rw[bW h];rfl
def j6{op:Int}{a b c:aK}(ho:op=8\/op=9\/op=10)(ha:NN a)(hb:NN b)(hc:∀Q,Mid op a b Q->dy Q c)(hR:(∀y,Fb op a b y->cA y)->∀y,tV op a b y->cA y):
  ((∀y,tV op a b y->cA y)/\pO op a b=V (c,0)/\NN c)\/((¬∀y,tV op a b y->cA y)/\pO op a b=V (aK.mk 0 0 0,3)):=by
 have hbin:binop op:=by unfold binop;omega
 by_cases hs:cnt a*cnt b<=4096
 ·rw[pF hbin ha hb hs];rcases Ez hbin ha hb au with ⟨h1,d,e,h2⟩|⟨h1,e⟩
  ·have k:=hc _ (apx ha hb);rw[h2.uniq k]at e;exact .inl ⟨h1,e,k.valid h1⟩
  ·exact .inr ⟨h1,e⟩
 ·have e0:pO op a b=Aj op a b:=by
   rw[Az hbin ha hb hs];rcases ho with rfl|rfl|rfl<;>rfl
  rw[e0];rcases ale hbin ha hb with ⟨h1,d,e,h2⟩|⟨h1,e⟩
  ·rw[h2.uniq (hc _ (ap7 ha hb))]at e;exact .inl ⟨hR h1,e,(hc _ (apx ha hb)).valid (hR h1)⟩
  ·exact .inr ⟨λk=>h1 λy hy=>k y ((ap7 ha hb).v y hy),e⟩
def aaE{c:aK}(h:NN c):jR c.ah c.ag c.aj=c:=by
 rw[OO h.le h.s0 h.dvd (λk=>by rcases h.st with e|e;exact e.2;omega)]
def CY{c:aK}(h:NN c):oc c.ah c.ag c.aj=V c:=by
 have:=h.lo;have:=h.hi
 rw[pL au au h.s0,aaE h]
def oz{op:Int}{a b:aK}(ho:binop op)(ha:NN a)(hb:NN b){r:aa (aK×Int)}
  (h:(bif vn (op=9)then
   match bif bif jA (ak (a.ah+ak (0-b.ag)))then O else J then V J else V (bif jA (ak (a.ag+ak (0-b.ah)))then O else J)with
   |none=>G
   |some r5=>bif r5 then V (aK.mk 0 0 0,3)else match D4 [a.aj,b.aj]with
    |none=>G
    |some r6=>match oc (ak (a.ah+ak (0-b.ag))) (ak (a.ag+ak (0-b.ah))) r6 with
     |none=>G
     |some r7=>V (r7,0)
  else bif vn (op=8)then
   match bif bif jA (ak (a.ah+b.ah))then O else J then V J else V (bif jA (ak (a.ag+b.ag))then O else J)with
   |none=>G
   |some r8=>bif r8 then V (aK.mk 0 0 0,3)else match D4 [a.aj,b.aj]with
    |none=>G
    |some r9=>match oc (ak (a.ah+b.ah)) (ak (a.ag+b.ag)) r9 with
     |none=>G
     |some r10=>V (r10,0)
  else bif vn (op=10)then match aaw a b with
   |none=>G
   |some r11=>V r11
  else bif vn (op=11)then match AW op a b with
   |none=>G
   |some r12=>V (r12,0)
  else bif vn (op=12)then match AW op a b with
   |none=>G
   |some r13=>V (r13,0)
  else bif vn (op=21)then match AW op a b with
   |none=>G
   |some r14=>V (r14,0)
  else bif vn (op=22)then match AW op a b with
   |none=>G
   |some r15=>V (r15,0)
  else match aaX op a b with
   |none=>G
   |some r16=>V (r16,0))=r):A5 op a b=r:=by
 unfold A5;rw[eV,eV,dZ (.inr ha),dZ (.inr hb),ki,bX ho];simp only[cD];rw[eN ha.ne,eN hb.ne];simp only[ct];exact h
def tJ{a b:aK}(ha:NN a)(hb:NN b):(∀y,tV 8 a b y->cA y)↔cA (a.ah+b.ah)/\cA (a.ag+b.ag):=by
 constructor
 ·intro h;exact⟨h _ ⟨_,_,dw ha,dw hb,rfl⟩,h _ ⟨_,_,gz ha,gz hb,rfl⟩⟩
 ·rintro⟨⟨h1,h2⟩,⟨h3,h4⟩⟩ y ⟨x,z,⟨x1,x2,_⟩,⟨z1,z2,_⟩,rfl⟩;exact⟨by show _<=x+z;omega,by show x+z<=_;omega⟩
def tG{a b:aK}(ha:NN a)(hb:NN b):(∀y,tV 9 a b y->cA y)↔cA (a.ah-b.ag)/\cA (a.ag-b.ah):=by
 constructor
 ·intro h;exact⟨h _ ⟨_,_,dw ha,gz hb,rfl⟩,h _ ⟨_,_,gz ha,dw hb,rfl⟩⟩
 ·rintro⟨⟨h1,h2⟩,⟨h3,h4⟩⟩ y ⟨x,z,⟨x1,x2,_⟩,⟨z1,z2,_⟩,rfl⟩;exact⟨by show _<=x-z;omega,by show x-z<=_;omega⟩
def jU{a b:aK}(ha:NN a)(hb:NN b):(∀y,tV 10 a b y->cA y)↔cA (a.ah*b.ah)/\cA (a.ah*b.ag)/\cA (a.ag*b.ah)/\cA (a.ag*b.ag):=by
 constructor
 ·intro h;exact⟨h _ ⟨_,_,dw ha,dw hb,rfl⟩,h _ ⟨_,_,dw ha,gz hb,rfl⟩,h _ ⟨_,_,gz ha,dw hb,rfl⟩,h _ ⟨_,_,gz ha,gz hb,rfl⟩⟩
 ·rintro⟨h1,h2,h3,h4⟩ y ⟨x,z,⟨x1,x2,_⟩,⟨z1,z2,_⟩,rfl⟩;have k:=Wn (a:=a) (b:=b) ⟨x1,x2⟩ ⟨z1,z2⟩;obtain⟨⟨p1,p2⟩,⟨p3,p4⟩⟩:=aoW (P:=cA) h1 h2 h3 h4;exact⟨by show _<=x*z;omega,by show x*z<=_;omega⟩
def anF{x y u v:Int}(h1:x.natAbs=u.natAbs)(h2:y.natAbs=v.natAbs):cv x y=cv u v:=by
 unfold cv yE;rw[h1,h2]
def Zd(p q r s:Int):anv ([p]++[q]++[r]++[s])=V (Zb p q r s):=by
 unfold anv F1;rw[bW (by simp),ct,bC (by simp),show Li=bI GH from rfl];have st:∀m k,k=1\/k=2\/k=3->GH (o6.mk ([p]++[q]++[r]++[s]) m k)=V (V (o6.mk ([p]++[q]++[r]++[s]) (min m ([p]++[q]++[r]++[s])[k.toNat]!) (k+1))):=λm k hk=>by
  unfold GH F1;simp only;rw[bX (by simp;omega),cK,bC (by simp;omega),aL];have e:∀w:Int,(if w<m then w else m)=min m w:=λw=>by split<;>omega
  rw[e]
 rw[bP (st _ 1 (.inl rfl)),bP (st _ (1+1) (.inr (.inl rfl))),bP (st _ (1+1+1) (.inr (.inr rfl))),cq (by intro x hx;simp[GH,F1]at hx)];simp only;rw[bW (by simp),ct];show V (min (min (min p q) r) s)=V (Zb p q r s);unfold Zb
 congr 1
 omega
def aaO(p q r s:Int):ajE ([p]++[q]++[r]++[s])=V (hi4 p q r s):=by
 unfold ajE HP;rw[bW (by simp),ct,bC (by simp),show KZ=bI F6 from rfl];have st:∀m k,k=1\/k=2\/k=3->F6 (p8.mk ([p]++[q]++[r]++[s]) m k)=V (V (p8.mk ([p]++[q]++[r]++[s]) (max m ([p]++[q]++[r]++[s])[k.toNat]!) (k+1))):=λm k hk=>by
  unfold F6 HP;simp only;rw[bX (by simp;omega),cK,bC (by simp;omega),aL];have e:∀w:Int,(if m<w then w else m)=max m w:=λw=>by split<;>omega
  rw[e]
 rw[bP (st _ 1 (.inl rfl)),bP (st _ (1+1) (.inr (.inl rfl))),bP (st _ (1+1+1) (.inr (.inr rfl))),cq (by intro x hx;simp[F6,HP]at hx)];simp only;rw[bW (by simp),ct];show V (max (max (max p q) r) s)=V (hi4 p q r s);unfold hi4
 congr 1
 omega
def aAW(x y:Int):(bif bif jA x then O else J then V J else V (bif jA y then O else J))=V (!(vn (cA x)&&vn (cA y))):=by
 rw[show jA x=vn (cA x)from kj x,show jA y=vn (cA y)from kj y];cases vn (cA x)<;>cases vn (cA y)<;>rfl
def fR{op:Int}{a b:aK}(h:∀y,Fb op a b y->cA y){x z:Int}(hx:Qq a x)(hz:Qq b z):cA (fO op x z):=h _ ⟨x,z,hx,hz,rfl⟩
def Tg(op:Int)(a b:aK):Prop:=∃r,A5 op a b=V r/\pO op a b=V r/\NV r.1
def agi{a b:aK}(ha:NN a)(hb:NN b):Tg 8 a b:=by
 have r1:=ha.ux;have r2:=ha.DL;have r3:=hb.ux;have r4:=hb.DL;obtain⟨a1,a2⟩:=r1;obtain⟨a3,a4⟩:=r2;obtain⟨b1,b2⟩:=r3;obtain⟨b3,b4⟩:=r4;have key:=j6 (op:=8) (.inl rfl) ha hb (λQ h=>Ql ha hb h) (λh=>(tJ ha hb).mpr ⟨fR h (.inl rfl) (.inl rfl),fR h (.inr (.inr rfl)) (.inr (.inr rfl))⟩);have prog:∀r,(match V (!(vn (cA (a.ah+b.ah))&&vn (cA (a.ag+b.ag))))with
   |none=>G
   |some r8=>bif r8 then V (aK.mk 0 0 0,(3:Int))else match oc (a.ah+b.ah) (a.ag+b.ag) (cv a.aj b.aj)with
     |none=>G
     |some r10=>V (r10,0))=r->A5 8 a b=r:=λr h=>oz ⟨by decide,by decide⟩ ha hb (by
  simp only[Int.reduceEq,D0,ct];rw[aAW,aL (n:=a.ah+b.ah),aL (n:=a.ag+b.ag),GN ha.s0 hb.s0];exact h)
 rcases key with ⟨h1,e,hv⟩|⟨h1,e⟩
 ·obtain⟨k1,k2⟩:=(tJ ha hb).mp h1;refine⟨_,prog _ ?_,e, .inr hv⟩;rw[bX k1,bX k2];have:=CY hv;rw[this];rfl
 ·refine⟨_,prog _ ?_,e,Uv⟩;have:(vn (cA (a.ah+b.ah))&&vn (cA (a.ag+b.ag)))=O:=by
   cases c1:vn (cA (a.ah+b.ah))<;>cases c2:vn (cA (a.ag+b.ag))<;>first|rfl|exact dU ((tJ ha hb).mpr ⟨of_decide_eq_true c1,of_decide_eq_true c2⟩) h1
  rw[this];rfl
def acf{a b:aK}(ha:NN a)(hb:NN b):Tg 9 a b:=by
 have r1:=ha.ux;have r2:=ha.DL;have r3:=hb.ux;have r4:=hb.DL;obtain⟨a1,a2⟩:=r1;obtain⟨a3,a4⟩:=r2;obtain⟨b1,b2⟩:=r3;obtain⟨b3,b4⟩:=r4;have key:=j6 (op:=9) (.inr (.inl rfl)) ha hb (λQ h=>P4 ha hb h) (λh=>(tG ha hb).mpr ⟨fR h (.inl rfl) (.inr (.inr rfl)),fR h (.inr (.inr rfl)) (.inl rfl)⟩);have prog:∀r,(match V (!(vn (cA (a.ah-b.ag))&&vn (cA (a.ag-b.ah))))with
   |none=>G
   |some r8=>bif r8 then V (aK.mk 0 0 0,(3:Int))else match oc (a.ah-b.ag) (a.ag-b.ah) (cv a.aj b.aj)with
     |none=>G
     |some r10=>V (r10,0))=r->A5 9 a b=r:=λr h=>oz ⟨by decide,by decide⟩ ha hb (by
  rw[aAW,aL (n:=0-b.ag),aL (n:=0-b.ah),aL (n:=a.ah+(0-b.ag)),aL (n:=a.ag+(0-b.ah)),GN ha.s0 hb.s0,
   show a.ah+(0-b.ag)=a.ah-b.ag by omega,show a.ag+(0-b.ah)=a.ag-b.ah by omega]
  exact h)
 rcases key with ⟨h1,e,hv⟩|⟨h1,e⟩
 ·obtain⟨k1,k2⟩:=(tG ha hb).mp h1;refine⟨_,prog _ ?_,e, .inr hv⟩;rw[bX k1,bX k2];have:=CY hv;rw[this];rfl
 ·refine⟨_,prog _ ?_,e,Uv⟩;have:(vn (cA (a.ah-b.ag))&&vn (cA (a.ag-b.ah)))=O:=by
   cases c1:vn (cA (a.ah-b.ag))<;>cases c2:vn (cA (a.ag-b.ah))<;>first|rfl|exact dU ((tG ha hb).mpr ⟨of_decide_eq_true c1,of_decide_eq_true c2⟩) h1
  rw[this];rfl
def abW{a b:aK}(ha:NN a)(hb:NN b):Tg 10 a b:=by
 have key:=j6 (op:=10) (.inr (.inr rfl)) ha hb (λQ h=>Rz ha hb h) (λh=>(jU ha hb).mpr ⟨fR h (.inl rfl) (.inl rfl),fR h (.inl rfl) (.inr (.inr rfl)),fR h (.inr (.inr rfl)) (.inl rfl),fR h (.inr (.inr rfl)) (.inr (.inr rfl))⟩);have prog:A5 10 a b=aaw a b:=oz ⟨by decide,by decide⟩ ha hb (by
  simp only;cases aaw a b<;>rfl)
 unfold Tg;rw[prog];obtain⟨v1,e1,q1⟩:=Ev ha.ux hb.ux;obtain⟨v2,e2,q2⟩:=Ev ha.ux hb.DL;obtain⟨v3,e3,q3⟩:=Ev ha.DL hb.ux;obtain⟨v4,e4,q4⟩:=Ev ha.DL hb.DL;unfold aaw;rw[e1];simp only;by_cases c1:cA (a.ah*b.ah)
 ·rw[bX c1,e2];simp only;by_cases c2:cA (a.ah*b.ag)
  ·rw[bX c2,e3];simp only;by_cases c3:cA (a.ag*b.ah)
   ·rw[bX c3,e4];simp only;by_cases c4:cA (a.ag*b.ag)
    ·rw[bX c4];simp only[cK];have hr:=(jU ha hb).mpr ⟨c1,c2,c3,c4⟩;rcases key with ⟨_,e,hv⟩|⟨h1,_⟩
     ·have r1:=ha.ux;have r3:=hb.ux;obtain⟨a1,a2⟩:=r1;obtain⟨b1,b2⟩:=r3;have s1:=ha.s0;have s2:=hb.s0;have l1:=ha.sle;have l2:=hb.sle;obtain⟨w1,w2⟩:=c1;obtain⟨w3,w4⟩:=c2;obtain⟨w5,w6⟩:=c3;obtain⟨w7,w8⟩:=c4;have n1:0<=a.aj*((b.ah.natAbs:Nat):Int):=zJ s1 au;have n2:0<=b.aj*((a.ah.natAbs:Nat):Int):=zJ s2 au;have n3:0<=a.aj*b.aj:=zJ s1 s2;have k1:a.aj*((b.ah.natAbs:Nat):Int)<=2199023255552:=by
       have t:=zN l1 (show 0<=((b.ah.natAbs:Nat):Int)by omega);have t2:(a.ag-a.ah)*((b.ah.natAbs:Nat):Int)<=2199023255552:=by
        rcases Int.le_total 0 b.ah with c|c
        ·rw[show ((b.ah.natAbs:Nat):Int)=b.ah by omega,yD];omega
        ·rw[show ((b.ah.natAbs:Nat):Int)= -b.ah by omega,xX,yD];omega
       omega
      have k2:b.aj*((a.ah.natAbs:Nat):Int)<=2199023255552:=by
       have t:=zN l2 (show 0<=((a.ah.natAbs:Nat):Int)by omega);have t2:(b.ag-b.ah)*((a.ah.natAbs:Nat):Int)<=2199023255552:=by
        rcases Int.le_total 0 a.ah with c|c
        ·rw[show ((a.ah.natAbs:Nat):Int)=a.ah by omega,yD,zQ b.ag,zQ b.ah];omega
        ·rw[show ((a.ah.natAbs:Nat):Int)= -a.ah by omega,xX,yD,zQ b.ag,zQ b.ah];omega
       omega
      have k3:a.aj*b.aj<=4398046511104:=by
       have t:=yY l1 l2 s2 au;rw[yD,Int.mul_sub,Int.mul_sub]at t;omega
      rw[ob hb.ux,ob ha.ux,aL (n:=a.aj*((b.ah.natAbs:Nat):Int)),aL (n:=b.aj*((a.ah.natAbs:Nat):Int)),aL (n:=a.aj*b.aj),
       HX n1 n2 n3,Zd,aaO,q1 ⟨w1,w2⟩,q2 ⟨w3,w4⟩,q3 ⟨w5,w6⟩,q4 ⟨w7,w8⟩]
      simp only;have eg:cv (cv (a.aj*((b.ah.natAbs:Nat):Int)) (b.aj*((a.ah.natAbs:Nat):Int))) (a.aj*b.aj)=(ard a b).aj:=by
       show _=cv (cv (a.aj*b.ah) (b.aj*a.ah)) (a.aj*b.aj);rw[anF (x:=a.aj*((b.ah.natAbs:Nat):Int)) (u:=a.aj*b.ah) (by rw[Int.natAbs_mul,Int.natAbs_mul,Int.natAbs_natCast]) (y:=b.aj*((a.ah.natAbs:Nat):Int)) (v:=b.aj*a.ah) (by rw[Int.natAbs_mul,Int.natAbs_mul,Int.natAbs_natCast])]
      rw[eg];have:=CY hv;have this:oc (Zb (a.ah*b.ah) (a.ah*b.ag) (a.ag*b.ah) (a.ag*b.ag)) (hi4 (a.ah*b.ah) (a.ah*b.ag) (a.ag*b.ah) (a.ag*b.ag)) (ard a b).aj=V _:=this;rw[this];exact⟨_,rfl,e, .inr hv⟩
     ·exact dU hr h1
    ·rcases key with ⟨h1,_⟩|⟨_,e⟩
     ·exact dU ((jU ha hb).mp h1).2.2.2 c4
     ·rw[bW c4];exact⟨_,rfl,e,Uv⟩
   ·rcases key with ⟨h1,_⟩|⟨_,e⟩
    ·exact dU ((jU ha hb).mp h1).2.2.1 c3
    ·rw[bW c3];exact⟨_,rfl,e,Uv⟩
  ·rcases key with ⟨h1,_⟩|⟨_,e⟩
   ·exact dU ((jU ha hb).mp h1).2.1 c2
   ·rw[bW c2];exact⟨_,rfl,e,Uv⟩
 ·rcases key with ⟨h1,_⟩|⟨_,e⟩
  ·exact dU ((jU ha hb).mp h1).1 c1
  ·rw[bW c1];exact⟨_,rfl,e,Uv⟩
structure Eu (x m a b u v:Int):Prop where
 a0:0<=a
 b2:2<=b
 ab:a<b
 g:yE a b=1
 du:m∣u*x-a
 dv:m∣v*x-b
 s:(0<=u/\v<=0/\b*u-a*v=m)\/(u<=0/\0<=v/\a*v-b*u=m)
def Eu.next{x m a b u v:Int}(h:Eu x m a b u v)(ha:1<a):Eu x m (b%a) a (v-b/a*u) u:=by
 have e:=yW b a;have m0:=yX b (b:=a) au;have m1:=y6 b (b:=a) au;refine⟨m0,au,m1,?_,?_,h.du,?_⟩
 ·have:=rK (a:=b) (b:=a) (by have:=h.b2;omega) au;rw[lD (by have:=h.b2;omega)]at this;rw[Int.gcd_comm,this,Int.gcd_comm];exact h.g
 ·have k:=yz h.dv (zZ h.du (xG (b/a) _));grind
 ·have t1:(b%a)*u=b*u-a*(b/a*u):=by
   grind
  have t2:a*(v-b/a*u)=a*v-a*(b/a*u):=Int.mul_sub ..;have q0:0<=b/a:=zS (by have:=h.b2;omega) au;rcases h.s with ⟨s1,s2,s3⟩|⟨s1,s2,s3⟩
  ·have:=zJ q0 s1;omega
  ·have:=zJ q0 (show 0<= -u by omega);rw[xX]at this;omega
def Eu.bd{x m a b u v:Int}(h:Eu x m a b u v): -m<=u/\u<=m:=by
 have hb:=h.b2;have ha:=h.a0;rcases h.s with ⟨s1,s2,s3⟩|⟨s1,s2,s3⟩
 ·have k1:=zJ ha (show 0<= -v by omega);rw[xX]at k1;have k2:1*u<=b*u:=zN au s1;omega
 ·have k1:=zJ ha s2;have k2:1*(-u)<=b*(-u):=zN au au;simp only[xX]at k2;omega
def Eu.bv{x m a b u v:Int}(h:Eu x m a b u v)(ha:1<a): -m<=v/\v<=m:=by
 have hb:=h.b2;rcases h.s with ⟨s1,s2,s3⟩|⟨s1,s2,s3⟩
 ·have k1:=zJ (show 0<=b by omega) s1;have k2:1*(-v)<=a*(-v):=zN au au;simp only[xX]at k2;omega
 ·have k1:=zJ (show 0<=b by omega) (show 0<= -u by omega);rw[xX]at k1;have k2:1*v<=a*v:=zN au s2;omega
def atO{x m a b u v:Int}(hm:m<1152921504606846976)(hbm:b<=m)(h:Eu x m a b u v):∃b' u' v',NQ (mj.mk m a b u v)=V (mj.mk m 1 b' u' v')/\m∣u'*x-1/\ -m<=u'/\u'<=m:=by
 obtain⟨z,e1,⟨a',b',u',v',rfl,hI,hb⟩,hs⟩:=mQ (rnd:=Kr) (λp=>∃a b u v,p=mj.mk m a b u v/\Eu x m a b u v/\b<=m) (λp=>zq p.t5) (λp p' ⟨a,b,u,v,hp,hI,hbm⟩ hn=>by
  subst hp;unfold Kr FW at hn;simp only at hn;by_cases c:1<a
  ·have hN:=hI.next c;have q0:0<=b/a:=zS (by have:=hI.b2;omega) au;have q1:b/a<=b:=yl _ (by have:=hI.b2;omega);have e:=yW b a;rw[zQ]at e;have m0:=hN.a0;have m1:=hN.ab;have bv:=hI.bv c;have bn:=hN.bd;have hab:=hI.ab;rw[bX c,cK,gM,kK,aL (n:=b/a),aL (n:=b/a*a),aL (n:=b-b/a*a),aL (n:=b/a*u),aL (n:=v-b/a*u)]at hn;simp only[zF.injEq]at hn;subst hn;rw[show b-b/a*a=b%a by omega];exact⟨⟨b%a,a,_,_,rfl,hN,by have:=hI.ab;omega⟩,by show (b%a).toNat<a.toNat;omega⟩
  ·rw[bW c]at hn;cases hn) ⟨a,b,u,v,rfl,h,hbm⟩
 have hle:¬1<a':=λc=>by
  refine hs (mj.mk m (ak (b'-ak (ak (b'.tdiv a')*a'))) a' (ak (v'-ak (ak (b'.tdiv a')*u'))) u') ?_;unfold Kr FW;simp only;rw[bX c,cK,gM]
 have a1:a'=1:=by
  have:=hI.a0;rcases (show a'=0\/a'=1 by omega)with rfl|rfl
  ·have g:=hI.g;rw[Int.gcd_zero_left]at g;have:=hI.b2;omega
  ·rfl
 subst a1;exact⟨b',u',v',e1,hI.du,hI.bd⟩
def ajt{x m:Int}(h0:0<=x)(h1:2<=m)(h2:m<1152921504606846976)(hg:yE x m=1):∃v:Int,alh x m=V v/\0<=v/\v<m/\m∣v*x-1:=by
 have m0:=yX x (b:=m) au;have m1:=y6 x (b:=m) au;have e:=yW x m;obtain⟨b',u',v',e1,d1,d2,d3⟩:=atO (x:=x) (m:=m) (a:=x%m) (b:=m) (u:=1) (v:=0) h2 (zj _) ⟨m0,h1,m1,by
   have:=rK (a:=x) (b:=m) h0 au;rw[lD h0]at this;rw[Int.gcd_comm,this,hg],⟨x/m,au⟩,⟨-1,au⟩, .inl ⟨au,au,au⟩⟩
 unfold alh FW;rw[gM,lD h0,e1];simp only;rw[fE,ct,gM,gM];have t:=Int.mul_tdiv_add_tmod u' m;have tb:(u'.tmod m).natAbs<m.natAbs:=by rw[Int.natAbs_tmod];exact xe _ au
 rw[aL,lD];have ev:(u'.tmod m+m)%m=u'%m:=by
  conv=>rhs;rw[<-t]
  simp
 rw[ev];refine⟨u'%m,rfl,yX _ au,y6 _ au,?_⟩;have e2:=yW u' m;have:u'%m*x-1=u'*x-1-m*(u'/m*x):=by
  rw[<-yb];have:u'%m*x=u'*x-m*(u'/m)*x:=by
   rw[<-yD]
   congr 1
   omega
  omega
 rw[this];exact yz d1 (xN ..)
def aff{x m:Int}(hm:1<=m):(x.tmod m+m).tmod m=x%m/\0<=x.tmod m+m/\x.tmod m+m<2*m/\ -m<x.tmod m:=by
 have t:=Int.mul_tdiv_add_tmod x m;have tb:(x.tmod m).natAbs<m.natAbs:=by rw[Int.natAbs_tmod];exact xe _ au
 refine⟨?_,au,au,au⟩;rw[lD,Int.add_emod_right]
 conv=>rhs;rw[<-t]
 simp
def Nv(X Y Z:Int->Int)(sa P M K:Int):aa aK:=
 bif vn (M<K)then V jv else if¬P=(0:Int)then bif vn (K=ak (K+ak (ak ((ak (M-K)).tdiv P)*P)))then V (jc (X K))else V (aK.mk (Y K) (Z K) (ak (P*sa)))else G
def JF{X Y Z:Int->Int}{sa P M K:Int}(h1:1<=sa)(h2:1<=P)(h3:0<=K)(h4:M<=4398046511104)(h5:M*sa<=4398046511104):∃c,Nv X Y Z sa P M K=V c/\fB c=vn (M<K):=by
 unfold Nv;by_cases c:M<K
 ·rw[bX c];exact⟨cM,rfl,k9⟩
 ·rw[bW c,ct,gM];have q0:0<=(M-K)/P:=zS au au;have q1:(M-K)/P<=M-K:=yl _ au;have q2:(M-K)/P*P<=M-K:=xo _ au;have q3:0<=(M-K)/P*P:=zJ q0 au;rw[aL (n:=M-K),kK,aL (n:=(M-K)/P),aL (n:=(M-K)/P*P),aL (n:=K+(M-K)/P*P)];by_cases e:K=K+(M-K)/P*P
  ·rw[bX e];refine⟨jc (X K),rfl,eN λk=> ?_⟩;have k1:X K=1:=congrArg aK.ah k;have k2:X K=0:=congrArg aK.ag k;omega
  ·rw[bW e];refine⟨_,rfl,eN λk=> ?_⟩;have k3:ak (P*sa)=0:=congrArg aK.aj k;have q5:1<=(M-K)/P:=by
    rcases (show (M-K)/P=0\/1<=(M-K)/P by omega)with z|z
    ·simp_all
    ·exact z
   have q6:1*P<=(M-K)/P*P:=zN q5 au;have q7:P*sa<=M*sa:=zN au au;have q8:1*1<=P*sa:=yY h2 h1 au au;rw[aL]at k3;omega
def Xq(X Y Z:Int->Int)(sa P M L k:Int):aa aK:=
 if¬sa=(0:Int)then if¬sa=(0:Int)then bif vn (k<L)then if¬P=(0:Int)then Nv X Y Z sa P M (ak (k+ak (ak ((ak (ak (ak (L-k)+P)-1)).tdiv P)*P)))else G else Nv X Y Z sa P M k else G else G
def G0{X Y Z:Int->Int}{sa P M L k:Int}(h1:1<=sa)(h2:1<=P)(h3:0<=k)(hk:k<P)(hP:P<=4398046511104)(h4:M<=4398046511104)(h5:M*sa<=4398046511104)(hL:0<=L)(hL2:L<=4398046511104):
  ∃c,Xq X Y Z sa P M L k=V c/\(fB c=O↔∃j,L<=j/\j<=M/\P∣j-k):=by
 unfold Xq;rw[gM,gM];by_cases c:k<L
 ·have q0:0<=(L-k+P-1)/P:=zS au au;have q2:(L-k+P-1)/P*P<=L-k+P-1:=xo _ au;have q1:(L-k+P-1)/P<=L-k+P-1:=yl _ au;have q4:=vf (L-k+P-1) (show 0<P by omega);rw[zU,yc]at q4;rw[bX c,cK,gM,aL (n:=L-k),aL (n:=L-k+P),aL (n:=L-k+P-1),kK,aL (n:=(L-k+P-1)/P),aL (n:=(L-k+P-1)/P*P),aL (n:=k+(L-k+P-1)/P*P)];obtain⟨r,e,hr⟩:=JF (X:=X) (Y:=Y) (Z:=Z) (K:=k+(L-k+P-1)/P*P) h1 h2 au h4 h5;refine⟨r,e,?_⟩;rw[hr];constructor
  ·intro hd;have:=of_decide_eq_false hd;exact⟨k+(L-k+P-1)/P*P,au,au,by rw[show k+(L-k+P-1)/P*P-k=(L-k+P-1)/P*P by omega];exact xG ..⟩
  ·rintro⟨j,j1,j2,t,j3⟩;rw[zQ]at j3;refine bW ?_;have:(L-k+P-1)/P<=t:=by
    have:(L-k+P-1)/P<t+1:=wO (a:=P) (by rw[zU,yc];omega) au;omega
   have:=zN this (show 0<=P by omega);omega
 ·rw[bW c,ct];obtain⟨r,e,hr⟩:=JF (X:=X) (Y:=Y) (Z:=Z) (K:=k) h1 h2 h3 h4 h5;refine⟨r,e,?_⟩;rw[hr];constructor
  ·intro hd;have:=of_decide_eq_false hd;exact⟨k,au,au,⟨0,au⟩⟩
  ·rintro⟨j,j1,j2,t,j3⟩;rw[zQ]at j3;refine bW ?_;have:0<=t:=Decidable.byContradiction λh=>by
    have:t*P<= -1*P:=zN au au;omega
   have:=zJ this (show 0<=P by omega);omega
def mw{a b:aK}(ha:NN a)(hb:NN b)(h1:1<=a.aj)(x:Int):(bR a x/\bR b x)↔∃j:Int,x=a.ah+j*a.aj/\max a.ah b.ah<=x/\x<=min a.ag b.ag/\b.aj∣j*a.aj-(b.ah-a.ah):=by
 constructor
 ·rintro⟨⟨x1,x2,j,x3⟩,⟨z1,z2,z3⟩⟩;rw[zQ]at x3;grind
 ·rintro⟨j,e,h2,h3,h4⟩;refine⟨⟨au,au,⟨j,by rw[zQ];omega⟩⟩,⟨au,au,?_⟩⟩;rw[show x-b.ah=j*a.aj-(b.ah-a.ah)by omega];exact h4
def oF{lo s x low high j:Int}(hs:1<=s)(hl:lo<=low)(hx:x=lo+j*s):(low<=x/\x<=high)↔((low-lo+s-1)/s<=j/\j<=(high-lo)/s):=by
 have q2:(low-lo+s-1)/s*s<=low-lo+s-1:=xo _ au;have q4:=vf (low-lo+s-1) (show 0<s by omega);rw[zU,yc]at q4;constructor
 ·rintro⟨h1,h2⟩;refine⟨?_,Int.le_ediv_of_mul_le au au⟩;have:(low-lo+s-1)/s<j+1:=wO (a:=s) (by rw[zU,yc];omega) au;omega
 ·rintro⟨h1,h2⟩;have k1:=zN h1 (show 0<=s by omega);have k2:j*s<=high-lo:=xV (zN h2 au) (xo _ au);omega
def alH{a b:aK}(ha:NN a)(hb:NN b)(h1:1<=a.aj)(h2:1<=b.aj):∃c,anm a b=V c/\(fB c=O↔∃x,bR a x/\bR b x):=by
 have a1:=ha.lo;have a2:=ha.hi;have a3:=ha.le;have a4:=ha.sle;have b1:=hb.lo;have b2:=hb.hi;have b3:=hb.le;have b4:=hb.sle;have g0:=mb a.aj b.aj;have gl:=kI a.aj b.aj;have gr:=ry a.aj b.aj;have gpos:1<=cv a.aj b.aj:=by
  rcases (show cv a.aj b.aj=0\/1<=cv a.aj b.aj by omega)with z|z
  ·simp_all
  ·exact z
 have hcop:yE (a.aj/cv a.aj b.aj) (b.aj/cv a.aj b.aj)=1:=Int.gcd_ediv_gcd_ediv_gcd (show 0<yE a.aj b.aj by unfold cv at gpos;omega);unfold anm;rw[GN au au];simp only;generalize cv a.aj b.aj=g at*;rw[show (if b.ag<a.ag then b.ag else a.ag)=min a.ag b.ag by split<;>omega,show (if a.ah<b.ah then b.ah else a.ah)=max a.ah b.ah by split<;>omega];by_cases c1:min a.ag b.ag<max a.ah b.ah
 ·rw[bX c1];refine⟨cM,rfl,?_⟩;rw[k9];exact⟨λk=>(by cases k),λ⟨x,x1,x2⟩=>by have:=x1.1;have:=x1.2.1;have:=x2.1;have:=x2.2.1;omega⟩
 ·rw[bW c1,ct,bC (show ¬@Eq Int g 0 by omega),aL (n:=b.ah-a.ah)];simp only;by_cases c2:(b.ah-a.ah).tmod g=0
  ·rw[bX c2];simp only[cK];have eA:ak (a.aj.tdiv g)=a.aj/g:=by
    have:=yl (a:=a.aj) g au;have:=zS (a:=a.aj) (b:=g) au au;rw[kK,aL]
   have eP:ak (b.aj.tdiv g)=b.aj/g:=by
    have:=yl (a:=b.aj) g au;have:=zS (a:=b.aj) (b:=g) au au;rw[kK,aL]
   have mA:a.aj/g*g=a.aj:=wm gl;have mP:b.aj/g*g=b.aj:=wm gr;have hA0:0<=a.aj/g:=zS au au;have hA1:a.aj/g<=a.aj:=yl _ au;have hP1:b.aj/g<=b.aj:=yl _ au;have hP0:1<=b.aj/g:=by
    have:0<=b.aj/g:=zS au au;rcases (show b.aj/g=0\/1<=b.aj/g by omega)with z|z
    ·rw[z,Int.zero_mul]at mP;omega
    ·exact z
   rw[eA,eP];obtain⟨D,hD⟩:=Int.dvd_of_tmod_eq_zero c2;have eD:(b.ah-a.ah).tdiv g=D:=by rw[hD];exact Int.mul_tdiv_cancel_left _ au
   have dnat:D.natAbs<=(b.ah-a.ah).natAbs:=by rw[<-eD,Int.natAbs_tdiv];exact Nat.div_le_self _ _
   rw[eD];generalize a.aj/g=A at*;generalize b.aj/g=P at*;have el:ak (ak (ak (max a.ah b.ah-a.ah)+a.aj)-1)=max a.ah b.ah-a.ah+a.aj-1:=by
    rw[aL (n:=max a.ah b.ah-a.ah),aL (n:=max a.ah b.ah-a.ah+a.aj),aL]
   have l0:0<=(max a.ah b.ah-a.ah+a.aj-1)/a.aj:=zS au au;have l1:(max a.ah b.ah-a.ah+a.aj-1)/a.aj<=max a.ah b.ah-a.ah+a.aj-1:=yl _ au;have h0:0<=(min a.ag b.ag-a.ah)/a.aj:=zS au au;have hh1:(min a.ag b.ag-a.ah)/a.aj<=min a.ag b.ag-a.ah:=yl _ au;have hh2:(min a.ag b.ag-a.ah)/a.aj*a.aj<=min a.ag b.ag-a.ah:=xo _ au;rw[el,aL (n:=min a.ag b.ag-a.ah),kK (a:=max a.ah b.ah-a.ah+a.aj-1) au,kK (a:=min a.ag b.ag-a.ah) au,
    aL (n:=(max a.ah b.ah-a.ah+a.aj-1)/a.aj),aL (n:=(min a.ag b.ag-a.ah)/a.aj)]
   have cm:∀k,P∣k*A-D↔b.aj∣k*a.aj-(b.ah-a.ah):=λk=>by
    have e:k*a.aj-(b.ah-a.ah)=(k*A-D)*g:=by rw[hD,<-mA,yD,yb,zQ D g]
    rw[e,<-mP];exact⟨λh=>Int.mul_dvd_mul_right _ h,λh=>Int.dvd_of_mul_dvd_mul_right au h⟩
   have fin:∀k0,(∀k,P∣k*A-D↔P∣k-k0)->((∃j,(max a.ah b.ah-a.ah+a.aj-1)/a.aj<=j/\j<=(min a.ag b.ag-a.ah)/a.aj/\P∣j-k0)↔∃x,bR a x/\bR b x):=λk0 hk=>by
    constructor
    ·rintro⟨j,j1,j2,j3⟩;have r:=(oF (lo:=a.ah) (s:=a.aj) (low:=max a.ah b.ah) (high:=min a.ag b.ag) (j:=j) h1 au rfl).mpr ⟨j1,j2⟩;exact⟨_,(mw ha hb h1 _).mpr ⟨j,rfl,r.1,r.2,(cm j).mp ((hk j).mpr j3)⟩⟩
    ·rintro⟨x,hx⟩;obtain⟨j,e,x1,x2,x3⟩:=(mw ha hb h1 x).mp hx;have r:=(oF (lo:=a.ah) (s:=a.aj) (low:=max a.ah b.ah) (high:=min a.ag b.ag) (j:=j) h1 au e).mp ⟨x1,x2⟩;exact⟨j,r.1,r.2,(hk j).mp ((cm j).mpr x3)⟩
   rw[bC (show ¬@Eq Int g 0 by omega)];by_cases c3:1<P
   ·rw[bX c3,cK,bC (show ¬@Eq Int g 0 by omega),gM,gM,bC (show ¬@Eq Int g 0 by omega),gM];have m0:=yX A (b:=P) au;have m1:=y6 A (b:=P) au;have hg:yE (A%P) P=1:=by
     have:=rK (a:=A) (b:=P) hA0 au;rw[lD hA0]at this;rw[Int.gcd_comm,this,hcop]
    obtain⟨v,e1,v0,v1,v2⟩:=ajt (x:=A%P) (m:=P) m0 au au hg;rw[lD hA0,e1];simp only;obtain⟨f1,f2,f3,f4⟩:=aff (x:=D) (m:=P) au;have d0:=yX D (b:=P) au;have d1:=y6 D (b:=P) au;rw[aL (n:=D),aL (n:=D.tmod P+P),f1,auj d0 d1 v0 v1 au];simp only;have k0:=yX (D%P*v) (b:=P) au;have k1:=y6 (D%P*v) (b:=P) au;have vA:P∣v*A-1:=by
     have e:=yW A P;have t:v*A-1=v*(A%P)-1+P*(v*(A/P)):=by
      conv=>lhs;rw[<-e]
      rw[xF,Int.mul_left_comm v P];omega
     rw[t];exact yZ v2 (xN ..)
    have hk:∀k,P∣k*A-D↔P∣k-D%P*v%P:=λk=>by
     have e1:P∣D*v-D%P*v%P:=by
      have t1:=yW (D%P*v) P;have t2:=yW D P;have:D*v-D%P*v%P=P*(D/P*v)+P*(D%P*v/P):=by
       have:D*v=P*(D/P*v)+D%P*v:=by
        conv=>lhs;rw[<-t2]
        rw[zU,yb]
       omega
      rw[this];exact yZ (xN ..) (xN ..)
     constructor
     ·intro h;have t:=yz (zZ h (xN _ v)) (zZ vA (xN _ k));have t2:(k*A-D)*v-(v*A-1)*k=k-D*v:=by
       rw[yD,yD,yc,yb,zQ (v*A) k,zQ A v];omega
      rw[t2]at t;have:=yZ t e1
      rwa [show k-D*v+(D*v-D%P*v%P)=k-D%P*v%P by omega]at this
     ·intro h;have t:=yz h e1;rw[show k-D%P*v%P-(D*v-D%P*v%P)=k-D*v by omega]at t;have t2:=yZ (zZ t (xN _ A)) (zZ vA (xN _ D));have t3:(k-D*v)*A+(v*A-1)*D=k*A-D:=by
       rw[yD,yD,yc,yb,zQ (v*A) D];omega
      rwa [t3]at t2
    obtain⟨c,e,hc⟩:=G0 (X:=λK=>ak (a.ah+ak (K*a.aj))) (Y:=λK=>ak (a.ah+ak (K*a.aj))) (Z:=λK=>ak (a.ah+ak (ak (K+ak (ak ((ak ((min a.ag b.ag-a.ah)/a.aj-K)).tdiv P)*P))*a.aj)))
     h1 hP0 k0 k1 au (M:=(min a.ag b.ag-a.ah)/a.aj) au au l0 au
    exact⟨c,e,hc.trans (fin _ hk)⟩
   ·have p1:P=1:=au;rw[bW c3,ct];obtain⟨c,e,hc⟩:=G0 (X:=λK=>ak (a.ah+ak (K*a.aj))) (Y:=λK=>ak (a.ah+ak (K*a.aj))) (Z:=λK=>ak (a.ah+ak (ak (K+ak (ak ((ak ((min a.ag b.ag-a.ah)/a.aj-K)).tdiv P)*P))*a.aj)))
     h1 hP0 (k:=0) au au au (M:=(min a.ag b.ag-a.ah)/a.aj) au au l0 au
    exact⟨c,e,hc.trans (fin 0 λk=>by subst p1;exact⟨λ_=>Int.one_dvd _,λ_=>Int.one_dvd _⟩)⟩
  ·rw[bW c2];refine⟨cM,rfl,?_⟩;rw[k9];refine⟨λk=>(by cases k),λ⟨x,hx⟩=> ?_⟩;obtain⟨j,e,x1,x2,x3⟩:=(mw ha hb h1 x).mp hx;exfalso;apply c2;have k1:=zZ gr x3;have k2:=yz (zZ gl (xG j _)) k1;rw[show j*a.aj-(j*a.aj-(b.ah-a.ah))=b.ah-a.ah by omega]at k2;exact Int.tmod_eq_zero_of_dvd k2
def Gb{a:aK}(h:NN a)(h0:a.aj=0)(x:Int):bR a x↔x=a.ah:=by
 constructor
 ·rintro⟨h1,h2,h3⟩;rw[h0]at h3;have:=Int.zero_dvd.mp h3;omega
 ·rintro rfl;exact dw h
def HT{M:aK->aK->aa aK}{a b:aK}(ha:NN a)(hb:NN b)(h0:a.aj=0):∃c,Bc M a b=V c/\(fB c=O↔∃x,bR a x/\bR b x):=by
 unfold Bc;rw[eN ha.ne,eN hb.ne];simp only[ct];rw[bX h0,cK,KP (.inr hb)];simp only;by_cases h:bR b a.ah
 ·rw[nL h];exact⟨a,rfl,λ_=>⟨_,dw ha,h⟩,λ_=>eN ha.ne⟩
 ·rw[jx h];refine⟨cM,rfl,λk=> ?_,λ⟨x,h1,h2⟩=> ?_⟩
  ·rw[k9]at k;cases k
  ·rw[(Gb ha h0 x).mp h1]at h2;exact dU h2 h
def aiI{a b:aK}(ha:NN a)(hb:NN b):∃c,agA a b=V c/\(fB c=O↔∃x,bR a x/\bR b x):=by
 have cm:(∃x,bR b x/\bR a x)↔∃x,bR a x/\bR b x:=⟨λ⟨x,h1,h2⟩=>⟨x,h2,h1⟩,λ⟨x,h1,h2⟩=>⟨x,h2,h1⟩⟩;have s0:=ha.s0;have t0:=hb.s0;by_cases h0:a.aj=0
 ·obtain⟨c,e,h⟩:=HT (M:=λ_ _=>G) ha hb h0;refine⟨c,eM 1 λn hn=> ?_,h⟩;obtain⟨k,rfl⟩:∃k,n=k+1:=⟨n-1,au⟩;obtain⟨c',e',h'⟩:=HT (M:=DN k) ha hb h0;have:Bc (DN k) a b=Bc (λ_ _=>G) a b:=by
   unfold Bc;rw[eN ha.ne,eN hb.ne];simp only[ct];rw[bX h0];simp only[cK]
  exact this.trans e
 ·by_cases k0:b.aj=0
  ·obtain⟨c,e,h⟩:=HT (M:=λ_ _=>G) hb ha k0;refine⟨c,eM 2 λn hn=> ?_,h.trans cm⟩;obtain⟨k,rfl⟩:∃k,n=k+1+1:=⟨n-2,au⟩;have:Bc (DN k) b a=Bc (λ_ _=>G) b a:=by
    unfold Bc;rw[eN ha.ne,eN hb.ne];simp only[ct];rw[bX k0];simp only[cK]
   have e1:DN (k+1) b a=V c:=this.trans e;show Bc (DN (k+1)) a b=V c;unfold Bc;rw[eN ha.ne,eN hb.ne];simp only[ct];rw[bW h0,ct,bX k0,cK,e1]
  ·obtain⟨c,e,h⟩:=alH ha hb au au;refine⟨c,eM 1 λn hn=> ?_,h⟩;obtain⟨k,rfl⟩:∃k,n=k+1:=⟨n-1,au⟩;show Bc (DN k) a b=V c;unfold Bc;rw[eN ha.ne,eN hb.ne];simp only[ct];rw[bW h0,ct,bW k0,ct,e]
def Xw{a:aK}(h:NN a)(k:1<bY a):1<=a.aj:=by
 have:=l7 h;rcases h.st with ⟨e,_⟩|⟨_,e,_⟩
 ·omega
 ·exact e
def early{a b:aK}(ha:NN a)(hb:NN b)(h1:1<=a.aj)(h2:1<=b.aj){low high:Int}(el:low=max a.ah b.ah)(eh:high=min a.ag b.ag):
  (∃x,bR a x/\bR b x)↔∃k:Nat,(k:Int)<b.aj/cv a.aj b.aj/\a.ah+((low-a.ah+a.aj-1)/a.aj)*a.aj+(k:Int)*a.aj<=high/\bR b (a.ah+((low-a.ah+a.aj-1)/a.aj)*a.aj+(k:Int)*a.aj):=by
 have gl:=kI a.aj b.aj;have gr:=ry a.aj b.aj;have g0:=mb a.aj b.aj;have mP:b.aj/cv a.aj b.aj*cv a.aj b.aj=b.aj:=wm gr;have hP0:1<=b.aj/cv a.aj b.aj:=by
  have:0<=b.aj/cv a.aj b.aj:=zS au au;rcases (show b.aj/cv a.aj b.aj=0\/1<=b.aj/cv a.aj b.aj by omega)with z|z
  ·rw[z,Int.zero_mul]at mP;omega
  ·exact z
 have per:b.aj∣b.aj/cv a.aj b.aj*a.aj:=by
  obtain⟨q,hq⟩:=gl;generalize cv a.aj b.aj=g at*;rw[hq,<-yb,mP];simp
 generalize b.aj/cv a.aj b.aj=P at*;subst el eh;generalize hL:(max a.ah b.ah-a.ah+a.aj-1)/a.aj=L;constructor
 ·rintro⟨x,hx⟩;obtain⟨j,e,x1,x2,x3⟩:=(mw ha hb h1 x).mp hx;have r:=(oF (lo:=a.ah) (s:=a.aj) (low:=max a.ah b.ah) (high:=min a.ag b.ag) (j:=j) h1 au e).mp ⟨x1,x2⟩;have m0:=yX (j-L) (b:=P) au;have m1:=y6 (j-L) (b:=P) au;have m2:=yW (j-L) P;have q0:0<=(j-L)/P:=zS au au;have ex:a.ah+L*a.aj+(j-L)%P*a.aj=x-(j-L)/P*(P*a.aj):=by
   have:j*a.aj=(P*((j-L)/P)+(j-L)%P+L)*a.aj:=by congr 1;omega
   rw[zU,zU,zQ P,yb]at this;omega
  have r2:=(oF (lo:=a.ah) (s:=a.aj) (low:=max a.ah b.ah) (high:=min a.ag b.ag) (x:=a.ah+(L+(j-L)%P)*a.aj) (j:=L+(j-L)%P) h1 au rfl).mpr
   ⟨by rw[hL];omega,by
    have:(j-L)%P<=j-L:=by
     have:=zJ (show 0<=P by omega) q0;omega
    omega⟩
  rw[zU,<-Int.add_assoc]at r2;refine⟨((j-L)%P).toNat,au,?_⟩;rw[Int.toNat_of_nonneg m0];refine⟨r2.2,au,au,?_⟩;rw[ex,show x-(j-L)/P*(P*a.aj)-b.ah=x-b.ah-(j-L)/P*(P*a.aj)by omega];exact yz hx.2.2.2 (zZ per (xG ..))
 ·rintro⟨k,k1,k2,k3⟩;have e:a.ah+L*a.aj+(k:Int)*a.aj=a.ah+(L+(k:Int))*a.aj:=by rw[zU];omega
  rw[e]at k2 k3;have l0:=(oF (lo:=a.ah) (s:=a.aj) (low:=max a.ah b.ah) (high:=a.ah+(L+(k:Int))*a.aj) (x:=a.ah+(L+(k:Int))*a.aj) (j:=L+(k:Int)) h1 au rfl).mpr
   ⟨by rw[hL];omega,by rw[show a.ah+(L+(k:Int))*a.aj-a.ah=(L+(k:Int))*a.aj by omega,Int.mul_ediv_cancel _ au];exact zj _⟩
  exact⟨_,(mw ha hb h1 _).mpr ⟨_,rfl,l0.1,k2,by
   have:=k3.2.2
   rwa [show a.ah+(L+(k:Int))*a.aj-b.ah=(L+(k:Int))*a.aj-(b.ah-a.ah)by omega]at this⟩⟩
def TE{g P k n high sb:Int}(hg:1<=g)(hP:ak (sb.tdiv g)=P):(if¬g=(0:Int)then bif vn (k<ak (sb.tdiv g))then V (vn (n<=high))else V O else G)=V (vn (k<P/\n<=high)):=by
 rw[gM,hP];by_cases c:k<P
 ·rw[bX c,cK];by_cases d:n<=high
  ·rw[bX d,bX ⟨c,d⟩]
  ·rw[bW d,bW (λe=>d e.2)]
 ·rw[bW c,ct,bW (λe=>c e.1)]
def anK{M:aK->aK->aa Bool}{a b:aK}(hb:NN b){g P high n0:Int}(hg:1<=g)(hP:ak (b.aj.tdiv g)=P)(hP1:P<=4398046511104)(hs:1<=a.aj)(hs2:a.aj<=4398046511104)(hh:high<=1099511627776)(hn: -1099511627776<=n0)(hP0:0<=P):
  (match pK M (jJ.mk high g n0 0 a b)with
   |none=>G
   |some r10=>match if¬r10.t7=(0:Int)then bif vn (r10.t9<ak (r10.b1.aj.tdiv r10.t7))then V (vn (r10.t8<=r10.t6))else V O else G with
    |none=>G
    |some r11=>bif r11 then match m32 r10.b1 r10.t8 with
     |none=>G
     |some r12=>bif r12 then V J else G
     else V O)=V (open Classical in vn (∃k:Nat,(k:Int)<P/\n0+(k:Int)*a.aj<=high/\bR b (n0+(k:Int)*a.aj))):=by
 obtain⟨z,e1,⟨k,rfl,hk,hI⟩,hstop⟩:=mQ (rnd:=CP M) (λp=>∃k:Nat,p=jJ.mk high g (n0+(k:Int)*a.aj) (k:Int) a b/\(k:Int)<=P/\∀i:Nat,i<k->¬bR b (n0+(i:Int)*a.aj))
  (λp=>(P-p.t9).toNat) (λp p' ⟨k,hp,hk,hI⟩ hq=>by
   subst hp;have hq:CP M (jJ.mk high g (n0+(k:Int)*a.aj) (k:Int) a b)=V (V p'):=hq;unfold CP at hq;simp only at hq;rw[TE hg hP]at hq;by_cases c:(k:Int)<P/\n0+(k:Int)*a.aj<=high
   ·rw[bX c]at hq;simp only[cK]at hq;rw[j9 (.inr hb)]at hq;simp only at hq;by_cases d:bR b (n0+(k:Int)*a.aj)
    ·rw[nL d]at hq;cases hq
    ·rw[jx d]at hq;have k0:0<=(k:Int)*a.aj:=zJ au au;rw[ct,aL (n:=n0+(k:Int)*a.aj+a.aj),aL (n:=(k:Int)+1)]at hq;simp only[zF.injEq]at hq;subst hq;refine⟨⟨k+1,?_,au,λi hi=> ?_⟩,by show (P-((k:Int)+1)).toNat<(P-(k:Int)).toNat;omega⟩
     ·rw[show ((k+1:Nat):Int)=(k:Int)+1 by omega,zU,yc,Int.add_assoc]
     ·rcases xk.mp hi with q|rfl
      ·exact hI i q
      ·exact d
   ·rw[bW c]at hq;cases hq) (p:=jJ.mk high g n0 0 a b) ⟨0,by simp,by simpa using hP0,λi hi=>dU hi (y7 _)⟩
 rw[show pK M=bI (CP M)from rfl,e1];simp only;rw[TE hg hP];by_cases c:(k:Int)<P/\n0+(k:Int)*a.aj<=high
 ·rw[bX c];simp only[cK];rw[j9 (.inr hb)];simp only;by_cases d:bR b (n0+(k:Int)*a.aj)
  ·rw[nL d,cK]
   congr 1
   exact(@decide_eq_true _ (Classical.propDecidable _) ⟨k,c.1,c.2,d⟩).symm
  ·exfalso;refine hstop (jJ.mk high g (ak (n0+(k:Int)*a.aj+a.aj)) (ak ((k:Int)+1)) a b) ?_;unfold CP;simp only;rw[TE hg hP,bX c];simp only[cK];rw[j9 (.inr hb),jx d];rfl
 ·rw[bW c];simp only[ct]
  congr 1
  refine(@decide_eq_false _ (Classical.propDecidable _) ?_).symm;rintro⟨i,i1,i2,i3⟩;rcases Nat.lt_or_ge i k with q|q
  ·exact hI i q i3
  ·apply c;have:(k:Int)*a.aj<=(i:Int)*a.aj:=zN au au;exact⟨au,au⟩
def iO(a b:aK):Bool:=open Classical in vn (∃x,bR a x/\bR b x)
def jg{a b:aK}:iO a b=J↔∃x,bR a x/\bR b x:=by unfold iO;exact @decide_eq_true_iff _ (Classical.propDecidable _)
def pS{a b:aK}(h:¬∃x,bR a x/\bR b x):iO a b=O:=by
 cases e:iO a b with
 |false=>rfl
 |true=>exact dU (jg.mp e) h
def TR(a b:aK):iO a b=iO b a:=by
 by_cases h:∃x,bR a x/\bR b x
 ·obtain⟨x,h1,h2⟩:=h;rw[jg.mpr ⟨x,h1,h2⟩,jg.mpr ⟨x,h2,h1⟩]
 ·rw[pS h,pS (λ⟨x,h1,h2⟩=>h ⟨x,h2,h1⟩)]
def EM{M:aK->aK->aa Bool}{a b:aK}(ha:NN a)(hb:NN b)(h1:1<=a.aj)(h2:1<=b.aj){low high:Int}(el:low=max a.ah b.ah)(eh:high=min a.ag b.ag):
  (match G8 a.aj b.aj with
   |none=>G
   |some r8=>match bif vn (high<low)then V J else if¬r8=(0:Int)then V (bif vn (Int.tmod (jN a.ah b.ah) r8=0)then O else J)else G with
    |none=>G
    |some r9=>bif r9 then V O else if¬a.aj=(0:Int)then
     match pK M (jJ.mk high r8 (ak (a.ah+ak (ak ((ak (ak (ak (low-a.ah)+a.aj)-1)).tdiv a.aj)*a.aj))) 0 a b)with
     |none=>G
     |some r10=>match if¬r10.t7=(0:Int)then bif vn (r10.t9<ak (r10.b1.aj.tdiv r10.t7))then V (vn (r10.t8<=r10.t6))else V O else G with
      |none=>G
      |some r11=>bif r11 then match m32 r10.b1 r10.t8 with
       |none=>G
       |some r12=>bif r12 then V J else G
       else V O
     else G)=V (iO a b):=by
 have a1:=ha.lo;have a2:=ha.hi;have a3:=ha.le;have a4:=ha.sle;have b1:=hb.lo;have b2:=hb.hi;have b3:=hb.le;have b4:=hb.sle;have gl:=kI a.aj b.aj;have gr:=ry a.aj b.aj;have g0:=mb a.aj b.aj;have gpos:1<=cv a.aj b.aj:=by
  rcases (show cv a.aj b.aj=0\/1<=cv a.aj b.aj by omega)with z|z
  ·simp_all
  ·exact z
 have hE:=early ha hb h1 h2 el eh;rw[EF au au];simp only;by_cases c1:high<low
 ·rw[bX c1,pS (λ⟨x,x1,x2⟩=>by have:=x1.1;have:=x1.2.1;have:=x2.1;have:=x2.2.1;omega)];rfl
 ·rw[bW c1,ct,bC (show ¬@Eq Int (cv a.aj b.aj) 0 by omega)];simp only;by_cases c2:Int.tmod (jN a.ah b.ah) (cv a.aj b.aj)=0
  ·rw[bX c2];simp only[cK];have l1:(low-a.ah+a.aj-1)/a.aj<=low-a.ah+a.aj-1:=yl _ au;have l0:0<=(low-a.ah+a.aj-1)/a.aj:=zS au au;have l2:(low-a.ah+a.aj-1)/a.aj*a.aj<=low-a.ah+a.aj-1:=xo _ au;have l3:0<=(low-a.ah+a.aj-1)/a.aj*a.aj:=zJ l0 au;have p0:0<=b.aj/cv a.aj b.aj:=zS au au;have p1:b.aj/cv a.aj b.aj<=b.aj:=yl _ au;have eP:ak (b.aj.tdiv (cv a.aj b.aj))=b.aj/cv a.aj b.aj:=by
    rw[kK,aL]
   rw[gM,aL (n:=low-a.ah),aL (n:=low-a.ah+a.aj),aL (n:=low-a.ah+a.aj-1),kK,
    aL (n:=(low-a.ah+a.aj-1)/a.aj),aL (n:=(low-a.ah+a.aj-1)/a.aj*a.aj),aL (n:=a.ah+(low-a.ah+a.aj-1)/a.aj*a.aj)]
   refine(anK hb gpos eP au h1 au au au p0).trans ?_
   congr 1
   by_cases h:∃x,bR a x/\bR b x
   ·rw[jg.mpr h];exact @decide_eq_true _ (Classical.propDecidable _) (hE.mp h)
   ·rw[pS h];exact @decide_eq_false _ (Classical.propDecidable _) (λk=>h (hE.mpr k))
  ·have hno:¬∃x,bR a x/\bR b x:=by
    rintro⟨x,x1,x2⟩;apply c2;have k1:=zZ gl x1.2.2;have k2:=zZ gr x2.2.2;have k3:=yz k2 k1;rw[show x-b.ah-(x-a.ah)=a.ah-b.ah by omega]at k3;apply Int.tmod_eq_zero_of_dvd;unfold jN;by_cases c:a.ah<b.ah
    ·rw[bX c,cK,aL];have:=Int.dvd_neg.mpr k3
     rwa [show-(a.ah-b.ah)=b.ah-a.ah by omega]at this
    ·rw[bW c,ct,aL];exact k3
   rw[bW c2,pS hno];rfl
def Wz{M:aK->aK->aa Bool}{a b:aK}(ha:NN a)(hb:NN b)(hs:bY a<=bY b):ZS M a b=V (iO a b):=by
 unfold ZS;rw[ew (.inr ha),ew (.inr hb)];simp only;rw[bW (show ¬@LT.lt Int _ (bY b) (bY a)by omega),ct];have hp:=size_pos ha;by_cases c:bY a=1
 ·rw[bX c,cK,j9 (.inr hb)];have e:=(l7 ha).mp c;have s:a.aj=0:=by rcases ha.st with k|k;exact k.2;omega
  by_cases h:bR b a.ah
  ·rw[nL h,jg.mpr ⟨_,dw ha,h⟩]
  ·rw[jx h,pS (λ⟨x,x1,x2⟩=>h (by rw[<-(Gb ha s x).mp x1];exact x2))]
 ·rw[bW c,ct];have h1:=Xw ha au;have h2:=Xw hb au;by_cases d:a.ah<b.ah<;>by_cases e:b.ag<a.ag
  ·rw[bX d,bX e];exact EM ha hb h1 h2 au au
  ·rw[bX d,bW e];exact EM ha hb h1 h2 au au
  ·rw[bW d,bX e];exact EM ha hb h1 h2 au au
  ·rw[bW d,bW e];exact EM ha hb h1 h2 au au
def aoa{a b:aK}(ha:NN a)(hb:NN b):aed a b=V (iO a b):=eM 2 λn hn=>by
 obtain⟨k,rfl⟩:∃k,n=k+1+1:=⟨n-2,au⟩;by_cases hs:bY a<=bY b
 ·exact Wz (M:=J6 (k+1)) ha hb hs
 ·have e1:J6 (k+1) b a=V (iO b a):=Wz (M:=J6 k) hb ha au;show ZS (J6 (k+1)) a b=_;unfold ZS;rw[ew (.inr ha),ew (.inr hb)];simp only;rw[bX (show @LT.lt Int _ (bY b) (bY a)by omega),cK,e1,TR]
def lF(a b:aK):Bool:=vn (1<bY a)||vn (1<bY b)||vn (a.ah≠b.ah)
def sP{a:aK}(h:NN a)(k:¬1<bY a):a.ah=a.ag:=(l7 h).mp (by have:=size_pos h;omega)
def JB{a b:aK}(ha:NN a)(hb:NN b):lF a b=J↔∃x z,bR a x/\bR b z/\x≠z:=by
 unfold lF;by_cases c1:1<bY a
 ·rw[bX c1];refine⟨λ_=> ?_,λ_=>rfl⟩;have:a.ah≠a.ag:=λe=>by have:=(l7 ha).mpr e;omega
  by_cases e:a.ah=b.ah
  ·exact⟨_,_,gz ha,dw hb,au⟩
  ·exact⟨_,_,dw ha,dw hb,e⟩
 ·by_cases c2:1<bY b
  ·rw[bW c1,bX c2];refine⟨λ_=> ?_,λ_=>rfl⟩;have:b.ah≠b.ag:=λe=>by have:=(l7 hb).mpr e;omega
   by_cases e:a.ah=b.ah
   ·exact⟨_,_,dw ha,gz hb,au⟩
   ·exact⟨_,_,dw ha,dw hb,e⟩
  ·have e1:=sP ha c1;have e2:=sP hb c2;by_cases e:a.ah=b.ah
   ·rw[bW c1,bW c2,bW (λk=>k e)];exact⟨λk=>(by cases k),λ⟨x,z,hx,hz,k⟩=>by have:=hx.1;have:=hx.2.1;have:=hz.1;have:=hz.2.1;omega⟩
   ·rw[bW c1,bW c2,bX e];exact⟨λ_=>⟨_,_,dw ha,dw hb,e⟩,λ_=>rfl⟩
def Bg(op:Int)(a b:aK):Bool×Bool:=
 if op=13 then(lF a b,iO a b)else if op=14 then(iO a b,lF a b)
 else if op=15 then(vn (b.ah<=a.ag),vn (a.ah<b.ag))else if op=16 then(vn (b.ah<a.ag),vn (a.ah<=b.ag))
 else if op=17 then(vn (a.ah<=b.ag),vn (b.ah<a.ag))else if op=18 then(vn (a.ah<b.ag),vn (b.ah<=a.ag))
 else if op=19 then(cR a 0||cR b 0,cC a&&cC b)else(cR a 0&&cR b 0,cC a||cC b)
def Bf(op:Int):Prop:=13<=op/\op<=20
def qG(p:Bool):oT p=1↔p=true:=by cases p<;>decide
def tZ(p:Bool):oT p=0↔p=false:=by cases p<;>decide
def jo{op:Int}(h:Bf op):op=13\/op=14\/op=15\/op=16\/op=17\/op=18\/op=19\/op=20:=by
 obtain⟨h1,h2⟩:=h;omega
def FE{op:Int}(h:Bf op)(x z:Int):fO op x z=0\/fO op x z=1:=by
 have k:∀p:Bool,oT p=0\/oT p=1:=λp=>by cases p<;>decide
 rcases jo h with rfl|rfl|rfl|rfl|rfl|rfl|rfl|rfl<;>exact k _
def WH{op:Int}{a b:aK}(h:Bf op)(ha:NN a)(hb:NN b):(Bg op a b).2=J↔∃x z,bR a x/\bR b z/\fO op x z=1:=by
 rcases jo h with rfl|rfl|rfl|rfl|rfl|rfl|rfl|rfl
 ·show iO a b=J↔∃x z,bR a x/\bR b z/\oT (vn (x=z))=1;rw[jg];exact⟨λ⟨x,h1,h2⟩=>⟨x,x,h1,h2,by rw[qG];exact bX rfl⟩,λ⟨x,z,h1,h2,h3⟩=>by
   rw[qG]at h3;have:=of_decide_eq_true h3;subst this;exact⟨x,h1,h2⟩⟩
 ·show lF a b=J↔∃x z,bR a x/\bR b z/\oT (!vn (x=z))=1;rw[JB ha hb];exact⟨λ⟨x,z,h1,h2,h3⟩=>⟨x,z,h1,h2,by rw[qG,bW h3];rfl⟩,λ⟨x,z,h1,h2,h3⟩=>⟨x,z,h1,h2,λe=>by rw[qG,bX e]at h3;cases h3⟩⟩
 ·show vn (a.ah<b.ag)=J↔∃x z,bR a x/\bR b z/\oT (vn (x<z))=1;refine⟨λk=>⟨_,_,dw ha,gz hb,by rw[qG];exact k⟩,λ⟨x,z,h1,h2,h3⟩=> ?_⟩;rw[qG]at h3;have:=of_decide_eq_true h3;exact bX (by have:=h1.1;have:=h2.2.1;omega)
 ·show vn (a.ah<=b.ag)=J↔∃x z,bR a x/\bR b z/\oT (vn (x<=z))=1;refine⟨λk=>⟨_,_,dw ha,gz hb,by rw[qG];exact k⟩,λ⟨x,z,h1,h2,h3⟩=> ?_⟩;rw[qG]at h3;have:=of_decide_eq_true h3;exact bX (by have:=h1.1;have:=h2.2.1;omega)
 ·show vn (b.ah<a.ag)=J↔∃x z,bR a x/\bR b z/\oT (vn (z<x))=1;refine⟨λk=>⟨_,_,gz ha,dw hb,by rw[qG];exact k⟩,λ⟨x,z,h1,h2,h3⟩=> ?_⟩;rw[qG]at h3;have:=of_decide_eq_true h3;exact bX (by have:=h1.2.1;have:=h2.1;omega)
 ·show vn (b.ah<=a.ag)=J↔∃x z,bR a x/\bR b z/\oT (vn (z<=x))=1;refine⟨λk=>⟨_,_,gz ha,dw hb,by rw[qG];exact k⟩,λ⟨x,z,h1,h2,h3⟩=> ?_⟩;rw[qG]at h3;have:=of_decide_eq_true h3;exact bX (by have:=h1.2.1;have:=h2.1;omega)
 ·show (cC a&&cC b)=J↔∃x z,bR a x/\bR b z/\oT (vn (x≠0/\z≠0))=1;rw[zi,mC (.inr ha),mC (.inr hb)];constructor
  ·rintro⟨⟨x,h1,h2⟩,⟨z,h3,h4⟩⟩;exact⟨x,z,h1,h3,by rw[qG];exact bX ⟨h2,h4⟩⟩
  ·rintro⟨x,z,h1,h2,h3⟩;rw[qG]at h3;have:=of_decide_eq_true h3;exact⟨⟨x,h1,this.1⟩,⟨z,h2,this.2⟩⟩
 ·show (cC a||cC b)=J↔∃x z,bR a x/\bR b z/\oT (vn (x≠0\/z≠0))=1;rw[yC,mC (.inr ha),mC (.inr hb)];constructor
  ·rintro(⟨x,h1,h2⟩|⟨z,h3,h4⟩)
   ·exact⟨x,_,h1,dw hb,by rw[qG];exact bX (.inl h2)⟩
   ·exact⟨_,z,dw ha,h3,by rw[qG];exact bX (.inr h4)⟩
  ·rintro⟨x,z,h1,h2,h3⟩;rw[qG]at h3;rcases of_decide_eq_true h3 with k|k
   ·exact .inl ⟨x,h1,k⟩
   ·exact .inr ⟨z,h2,k⟩
def ae6{op:Int}{a b:aK}(h:Bf op)(ha:NN a)(hb:NN b):(Bg op a b).1=J↔∃x z,bR a x/\bR b z/\fO op x z=0:=by
 rcases jo h with rfl|rfl|rfl|rfl|rfl|rfl|rfl|rfl
 ·show lF a b=J↔∃x z,bR a x/\bR b z/\oT (vn (x=z))=0;rw[JB ha hb];exact⟨λ⟨x,z,h1,h2,h3⟩=>⟨x,z,h1,h2,by rw[tZ];exact bW h3⟩,λ⟨x,z,h1,h2,h3⟩=>⟨x,z,h1,h2,λe=>by rw[tZ,bX e]at h3;cases h3⟩⟩
 ·show iO a b=J↔∃x z,bR a x/\bR b z/\oT (!vn (x=z))=0;rw[jg];exact⟨λ⟨x,h1,h2⟩=>⟨x,x,h1,h2,by rw[tZ,bX rfl];rfl⟩,λ⟨x,z,h1,h2,h3⟩=>by
   by_cases e:x=z
   ·subst e;exact⟨x,h1,h2⟩
   ·rw[bW e]at h3;cases h3⟩
 ·show vn (b.ah<=a.ag)=J↔∃x z,bR a x/\bR b z/\oT (vn (x<z))=0;refine⟨λk=>⟨_,_,gz ha,dw hb,by rw[tZ];exact bW (by have:=of_decide_eq_true k;omega)⟩,λ⟨x,z,h1,h2,h3⟩=> ?_⟩;rw[tZ]at h3;have:=of_decide_eq_false h3;exact bX (by have:=h1.2.1;have:=h2.1;omega)
 ·show vn (b.ah<a.ag)=J↔∃x z,bR a x/\bR b z/\oT (vn (x<=z))=0;refine⟨λk=>⟨_,_,gz ha,dw hb,by rw[tZ];exact bW (by have:=of_decide_eq_true k;omega)⟩,λ⟨x,z,h1,h2,h3⟩=> ?_⟩;rw[tZ]at h3;have:=of_decide_eq_false h3;exact bX (by have:=h1.2.1;have:=h2.1;omega)
 ·show vn (a.ah<=b.ag)=J↔∃x z,bR a x/\bR b z/\oT (vn (z<x))=0;refine⟨λk=>⟨_,_,dw ha,gz hb,by rw[tZ];exact bW (by have:=of_decide_eq_true k;omega)⟩,λ⟨x,z,h1,h2,h3⟩=> ?_⟩;rw[tZ]at h3;have:=of_decide_eq_false h3;exact bX (by have:=h1.1;have:=h2.2.1;omega)
 ·show vn (a.ah<b.ag)=J↔∃x z,bR a x/\bR b z/\oT (vn (z<=x))=0;refine⟨λk=>⟨_,_,dw ha,gz hb,by rw[tZ];exact bW (by have:=of_decide_eq_true k;omega)⟩,λ⟨x,z,h1,h2,h3⟩=> ?_⟩;rw[tZ]at h3;have:=of_decide_eq_false h3;exact bX (by have:=h1.1;have:=h2.2.1;omega)
 ·show (cR a 0||cR b 0)=J↔∃x z,bR a x/\bR b z/\oT (vn (x≠0/\z≠0))=0;rw[yC,oh,oh];constructor
  ·rintro(h1|h1)
   ·exact⟨0,_,h1,dw hb,by rw[tZ];exact bW (λk=>k.1 rfl)⟩
   ·exact⟨_,0,dw ha,h1,by rw[tZ];exact bW (λk=>k.2 rfl)⟩
  ·rintro⟨x,z,h1,h2,h3⟩;rw[tZ]at h3;by_cases e:x=0
   ·simp_all
   ·simp_all
 ·show (cR a 0&&cR b 0)=J↔∃x z,bR a x/\bR b z/\oT (vn (x≠0\/z≠0))=0;rw[zi,oh,oh];constructor
  ·rintro⟨h1,h2⟩;exact⟨0,0,h1,h2,by rw[tZ];exact bW (λk=>k.elim (λe=>e rfl) (λe=>e rfl))⟩
  ·rintro⟨x,z,h1,h2,h3⟩;rw[tZ]at h3;simp_all
def U5{op:Int}{a b:aK}(h:Bf op)(ha:NN a)(hb:NN b):((Bg op a b).1||(Bg op a b).2)=J:=by
 rw[yC];rcases FE h a.ah b.ah with e|e
 ·exact .inl ((ae6 h ha hb).mpr ⟨_,_,dw ha,dw hb,e⟩)
 ·exact .inr ((WH h ha hb).mpr ⟨_,_,dw ha,dw hb,e⟩)
def T3{P:Int->Prop}{no yes:Bool}(h:∀y,P y->y=0\/y=1)(h0:no=J↔P 0)(h1:yes=J↔P 1)(ho:(no||yes)=J):dy P (jb no yes):=by
 cases no with
 |true=>
  have p0:=h0.mp rfl;cases yes with
  |true=>
   have p1:=h1.mp rfl;refine⟨p0,p1,λy hy=> ?_,by decide,λd hd=> ?_⟩
   ·rcases h y hy with rfl|rfl
    ·exact⟨by decide,by decide,⟨0,rfl⟩⟩
    ·exact⟨by decide,by decide,⟨1,rfl⟩⟩
   ·exact hd 1 p1
  |false=>
   refine⟨p0,p0,λy hy=> ?_,by decide,λd _=>xM d⟩;rcases h y hy with rfl|rfl
   ·exact⟨by decide,by decide,⟨0,rfl⟩⟩
   ·simp_all
 |false=>
  cases yes with
  |true=>
   have p1:=h1.mp rfl;refine⟨p1,p1,λy hy=> ?_,by decide,λd _=>xM d⟩;rcases h y hy with rfl|rfl
   ·exact dU (h0.mpr hy) (by decide)
   ·exact⟨by decide,by decide,⟨0,rfl⟩⟩
  |false=>cases ho
def abh{op:Int}{a b:aK}(h:Bf op)(ha:NN a)(hb:NN b):dy (tV op a b) (jb (Bg op a b).1 (Bg op a b).2):=
 T3 (λy ⟨x,z,_,_,e⟩=>by rw[e];exact FE h x z)
  ((ae6 h ha hb).trans ⟨λ⟨x,z,h1,h2,e⟩=>⟨x,z,h1,h2,e.symm⟩,λ⟨x,z,h1,h2,e⟩=>⟨x,z,h1,h2,e.symm⟩⟩)
  ((WH h ha hb).trans ⟨λ⟨x,z,h1,h2,e⟩=>⟨x,z,h1,h2,e.symm⟩,λ⟨x,z,h1,h2,e⟩=>⟨x,z,h1,h2,e.symm⟩⟩) (U5 h ha hb)
def aGH{x y:Int}:(bif vn (x=y)then O else J)=vn (x≠y):=by
 simp
def ag5{op:Int}{a b:aK}(h:Bf op)(ha:NN a)(hb:NN b):aaX op a b=V (jb (Bg op a b).1 (Bg op a b).2):=by
 obtain⟨c,e,hc⟩:=aiI ha hb;have em:fB c= !iO a b:=by
  cases k:fB c with
  |true=>rw[pS (λx=>by have:=hc.mpr x;rw[k]at this;cases this)];rfl
  |false=>rw[jg.mpr (hc.mp k)];rfl
 have ed:(bif vn (1<bY a)then V J else bif vn (1<bY b)then V J else V (vn (a.ah≠b.ah)))=V (lF a b):=by
  unfold lF;cases vn (1<bY a)<;>cases vn (1<bY b)<;>rfl
 unfold aaX;rw[e];rw[lJ (.inr ha),lJ (.inr hb)];simp only;rw[aGH,ed,El (.inr ha),El (.inr hb)];rw[em];simp only[Xe];rcases jo h with rfl|rfl|rfl|rfl|rfl|rfl|rfl|rfl
 ·show _=V (jb (lF a b) (iO a b));cases iO a b<;>rfl
 ·show _=V (jb (iO a b) (lF a b));cases iO a b<;>rfl
 ·rfl
 ·rfl
 ·rfl
 ·rfl
 ·show _=V (jb (cR a 0||cR b 0) (cC a&&cC b));cases cR a 0<;>cases cC a<;>cases cR b 0<;>cases cC b<;>rfl
 ·show _=V (jb (cR a 0&&cR b 0) (cC a||cC b));cases cR a 0<;>cases cC a<;>cases cR b 0<;>cases cC b<;>rfl
def diff_eq{a:aK}(h:NN a):lF a a=vn (1<bY a):=by
 unfold lF;simp
def Yi{a b:aK}(ha:NN a)(hb:NN b)(h:a≠b):lF a b=J:=by
 unfold lF;by_cases c1:1<bY a
 ·rw[bX c1];rfl
 ·by_cases c2:1<bY b
  ·rw[bW c1,bX c2];rfl
  ·by_cases c3:a.ah=b.ah
   ·exfalso;have e1:=sP ha c1;have e2:=sP hb c2;exact h (EA c3 au (by rcases ha.st with k|k<;>rcases hb.st with l|l<;>omega))
   ·rw[bX c3,Bool.or_true]
def XB{op:Int}{a b:aK}(h:Bf op)(ha:NN a)(hb:NN b):afG op a b=V (jb (Bg op a b).1 (Bg op a b).2):=by
 have ho:=U5 h ha hb;rw[<-V4 ho];unfold afG;rw[aoa ha hb,pE (.inr ha),pE (.inr hb)];rw[ew (.inr ha)];rcases jo h with rfl|rfl|rfl|rfl|rfl|rfl|rfl|rfl
 ·show _=V (jF (lF a b) (iO a b));by_cases e:a=b
  ·subst e;rw[Ka,diff_eq ha];rfl
  ·rw[Jp e,Yi ha hb e];rfl
 ·show _=V (jF (iO a b) (lF a b));by_cases e:a=b
  ·subst e;rw[Ka,diff_eq ha];rfl
  ·rw[Jp e,Yi ha hb e];rfl
 ·rfl
 ·rfl
 ·rfl
 ·rfl
 ·show _=V (jF (cR a 0||cR b 0) (cC a&&cC b));cases cR a 0<;>cases cC a<;>cases cR b 0<;>cases cC b<;>rfl
 ·show _=V (jF (cR a 0&&cR b 0) (cC a||cC b));cases cR a 0<;>cases cC a<;>cases cR b 0<;>cases cC b<;>rfl
def aey{op:Int}{a b:aK}(h:Bf op)(ha:NN a)(hb:NN b):Tg op a b:=by
 have hbin:binop op:=by
  obtain⟨h1,h2⟩:=h;exact⟨au,au⟩
 refine⟨(jb (Bg op a b).1 (Bg op a b).2,0),oz hbin ha hb ?_,?_,AJ _ _⟩
 ·rw[ag5 h ha hb];rcases jo h with rfl|rfl|rfl|rfl|rfl|rfl|rfl|rfl<;>rfl
 ·by_cases hs:cnt a*cnt b<=4096
  ·rw[pF hbin ha hb hs];rcases Ez hbin ha hb au with ⟨_,c,e,k⟩|⟨k,_⟩
   ·rw[e,k.uniq (abh h ha hb)]
   ·exact dU (λy ⟨x,z,_,_,e⟩=>by rw[e];rcases FE h x z with q|q<;>rw[q]<;>exact⟨by decide,by decide⟩) k
  ·rw[Az hbin ha hb hs];unfold adU;rw[XB h ha hb];rcases jo h with rfl|rfl|rfl|rfl|rfl|rfl|rfl|rfl<;>rfl
def aaZ{op:Int}{a b:aK}(h:QM op)(ha:NN a)(hb:NN b):Tg op a b:=by
 obtain⟨c,e1,e2,hv⟩:=abn h ha hb;have hbin:binop op:=by unfold binop;rcases h with rfl|rfl|rfl|rfl<;>decide
 refine⟨(c,0),oz hbin ha hb ?_,e2,hv⟩;rw[e1];rcases h with rfl|rfl|rfl|rfl<;>rfl
def Qn(op:Int){a b:aK}(ha:NV a)(hb:NV b):Tg op a b:=by
 by_cases ho:binop op
 ·rcases ha with rfl|ha
  ·refine⟨(cM,0),?_,?_, .inl rfl⟩
   ·unfold A5;rw[eV,eV,dZ (.inl rfl),dZ hb,ki,bX ho,k9];rfl
   ·unfold pO;rw[gp,gp,dZ (.inl rfl),dZ hb,show I5 op=Ec op from rfl,ki,bX ho,uE];rfl
  ·rcases hb with rfl|hb
   ·refine⟨(cM,0),?_,?_, .inl rfl⟩
    ·unfold A5;rw[eV,eV,dZ (.inl rfl),dZ (.inr ha),ki,bX ho,k9,eN ha.ne];rfl
    ·unfold pO;rw[gp,gp,dZ (.inl rfl),dZ (.inr ha),show I5 op=Ec op from rfl,ki,bX ho,uE,iw ha];rfl
   ·obtain⟨o1,o2⟩:=ho;rcases (show op=8\/op=9\/op=10\/(op=11\/op=12\/op=21\/op=22)\/(13<=op/\op<=20)by omega)with rfl|rfl|rfl|h|h
    ·exact agi ha hb
    ·exact acf ha hb
    ·exact abW ha hb
    ·exact aaZ h ha hb
    ·exact aey h ha hb
 ·refine⟨(aK.mk 0 0 0,1),?_,?_,Uv⟩
  ·unfold A5;rw[eV,eV,dZ ha,dZ hb,ki,bW ho];rfl
  ·unfold pO;rw[gp,gp,dZ ha,dZ hb,show I5 op=Ec op from rfl,ki,bW ho];rfl
abbrev qz:=Int
def d117:Td 0 qz:= .c [] [4] (.r 0 0 (ec 4 aP en) sn (λz=>z.1.1) (λx=>((x,()),(()))))
def aus:=(lc (qg 137) (aU ln))
def ar4(M:az->Int->aa qz):bu->bu:=eL vp 117 O aus d117 (λg=>M g.1 g.2.1)
def aiU(M:az->Int->aa qz):Prop:=HL vp 117 aus d117 (λg=>M g.1 g.2.1)
def Yw{M:az->Int->aa qz}(hM:aiU M){F:bu}(h:bE vp F):bE vp (ar4 M F):=gj (sc:=A9) ei hM ⟨_,func117,aY,aY⟩ (λ_=>aY) (λ_=>aY) h
def ah7(M117:az->Int->aa qz):bu:=(ar4 M117 dA)
def aj5{M117}(h117:aiU M117):bE vp (ah7 M117):=(Yw h117 aV)
structure Hq where
 (t1 t5:Int)
 b0:az
def TJ:Td 0 Hq:= .c [] [1,2,5] (.r 0 1 (ec 1 aP (ec 2 (qp 0 0) (ec 5 aP en))) (sb 0 137 (lg 137) sn) (λz=>⟨z.1.1,z.1.t.1,z.2.1⟩) (λx=>((x.t1,(),x.t5,()),(x.b0,()))))
def Ku(M117:az->Int->aa qz)(p:Hq):aa (aa Hq):=
 match bif vn (p.t5<zY p.b0.aq)then V (vn (0<=p.t1))else V O with|G=>G|V r1=>bif r1 then if 0<=p.t5/\p.t5<zY p.b0.aq then match M117 (az.mk p.b0.aq[zq p.t5]!.bF p.b0.aq[zq p.t5]!.fN p.b0.aq[zq p.t5]!.aq) p.t1 with|G=>G|V r2=>V (V (Hq.mk r2 (ak (p.t5+1)) (az.mk p.b0.bF p.b0.fN p.b0.aq)))else G else V (G)
def acM(M117:az->Int->aa qz):An:=(.two (.two (.rb [] 16) .no) .no)
def LV(M117:az->Int->aa qz):=bI (Ku M117)
def aoB(M117:az->Int->aa qz):An:=(noTwo (noTwo (.two (noTwo (TJ.lp (LV M117) (acM M117))) .no)))
def aB6{M117}:∀f∈([]:af Nat),bA (ah7 M117) f:=aH
def aAV(M117:az->Int->aa qz):gv vp (ah7 M117) 0 300 117 (aoB M117):=cH (l:=[(bk f117 0,(TJ.lp (LV M117) (acM M117))),(.skip,(.rb [] 16))]) func117 (bT aY) aY (aA (aO TJ) (aA aB6 aH))
def amA(M117:az->Int->aa qz)(a0:az)(a1:Int):aa qz:=
 match LV M117 (Hq.mk (ak (a1-1)) 0 (az.mk a0.bF a0.fN a0.aq))with|G=>G|V r3=>match bif vn (r3.t5<zY r3.b0.aq)then V (vn (0<=r3.t1))else V O with|G=>G|V r4=>bif r4 then if 0<=r3.t5/\r3.t5<zY r3.b0.aq then match M117 (az.mk r3.b0.aq[zq r3.t5]!.bF r3.b0.aq[zq r3.t5]!.fN r3.b0.aq[zq r3.t5]!.aq) r3.t1 with|G=>G|V r5=>G else G else V (r3.t1)
def aGO(M117:az->Int->aa qz)(a0:az)(a1:Int):bZ vp (ah7 M117) 300 (aoB M117) 117 (aus.c (a0,a1,())) [] 0 d117.rd=amA M117 a0 a1:=aY
def aqZ:Nat->(az->Int->aa qz)
 |0=>(λ_ _=>G)
 |n+1=>(amA (aqZ n))
def Us(n:Nat):az->Int->aa qz:=(aqZ n)
def OE:∀n,aiU (Us n)
 |0=>λ_ _ h=>(by cases h)
 |n+1=>by
  have ih:=OE n;have i117:=ih;exact(fe (aj5 i117) (aAV (Us n)) (λ_=>aY) (λ_=>aY) λg=>aGO (Us n) g.1 g.2.1)
def Z5:az->Int->aa qz:=λa0 a1=>lim (λn=>Us n a0 a1)
def anY:aiU Z5:=λg b h=>by
 obtain⟨n,hn⟩:=dz (show lim (λn=>Us n g.1 g.2.1)=V b from h);exact(OE n) g b hn
def asG(F:bu):bu:=ar4 Z5 F
def Yh{F:bu}(h:bE vp F):bE vp (asG F):=Yw anY h
abbrev sg:=Int
def d116:Td 0 sg:= .c [] [4] (.r 0 0 (ec 4 aP en) sn (λz=>z.1.1) (λx=>((x,()),(()))))
def au6:=(lc (ql 166) (aU ln))
def asE(M:(af aB)->Int->aa sg):bu->bu:=eL vp 116 O au6 d116 (λg=>M g.1 g.2.1)
def ama(M:(af aB)->Int->aa sg):Prop:=HL vp 116 au6 d116 (λg=>M g.1 g.2.1)
def V0{M:(af aB)->Int->aa sg}(hM:ama M){F:bu}(h:bE vp F):bE vp (asE M F):=gj (sc:=A9) ei hM ⟨_,func116,aY,aY⟩ (λ_=>aY) (λ_=>aY) h
def alc(M116:(af aB)->Int->aa sg):bu:=(asG (asE M116 dA))
def alB{M116}(h116:ama M116):bE vp (alc M116):=(Yh (V0 h116 aV))
structure G1 where
 t0:List aB
 (t1 t5:Int)
def Ut:Td 0 G1:= .c [] [0,1,5] (.r 0 0 (ec 0 (ql 166) (ec 1 aP (ec 5 aP en))) sn (λz=>⟨z.1.1,z.1.2.1,z.1.t.1⟩) (λx=>((x.t0,x.t1,x.t5,()),(()))))
def Hu(M116:(af aB)->Int->aa sg)(p:G1):aa (aa G1):=
 match bif vn (p.t5<zY p.t0)then V (vn (0<=p.t1))else V O with|G=>G|V r1=>bif r1 then if 0<=p.t5/\p.t5<zY p.t0 then match Z5 (az.mk p.t0[zq p.t5]!.aF.bF p.t0[zq p.t5]!.aF.fN p.t0[zq p.t5]!.aF.aq) (ak (p.t1-1))with|G=>G|V r2=>if 0<=p.t5/\p.t5<zY p.t0 then bif vn (r2<(↑p.t0[zq p.t5]!.aR.length:Int))then V (G)else if 0<=p.t5/\p.t5<zY p.t0 then if 0<=p.t5/\p.t5<zY p.t0 then if 0<=p.t5/\p.t5<zY p.t0 then match M116 p.t0[zq p.t5]!.aQ (ak (r2-(↑p.t0[zq p.t5]!.aR.length:Int)))with|G=>G|V r3=>match M116 p.t0[zq p.t5]!.aX r3 with|G=>G|V r4=>V (V (G1.mk p.t0 r4 (ak (p.t5+1))))else G else G else G else G else G else V (G)
def abb(M116:(af aB)->Int->aa sg):An:=(.two (.two (.rb [] 13) .no) .no)
def MJ(M116:(af aB)->Int->aa sg):=bI (Hu M116)
def aoY(M116:(af aB)->Int->aa sg):An:=(noTwo (.two (noTwo (Ut.lp (MJ M116) (abb M116))) .no))
def aAx{M116}:∀f∈([]:af Nat),bA (alc M116) f:=aH
def azr(M116:(af aB)->Int->aa sg):gv vp (alc M116) 0 300 116 (aoY M116):=cH (l:=[(bk f116 0,(Ut.lp (MJ M116) (abb M116))),(.skip,(.rb [] 13))]) func116 (bT aY) aY (aA (aO Ut) (aA aAx aH))
def anM(M116:(af aB)->Int->aa sg)(a0:af aB)(a1:Int):aa sg:=
 match MJ M116 (G1.mk a0 a1 0)with|G=>G|V r5=>match bif vn (r5.t5<zY r5.t0)then V (vn (0<=r5.t1))else V O with|G=>G|V r6=>bif r6 then if 0<=r5.t5/\r5.t5<zY r5.t0 then match Z5 (az.mk r5.t0[zq r5.t5]!.aF.bF r5.t0[zq r5.t5]!.aF.fN r5.t0[zq r5.t5]!.aF.aq) (ak (r5.t1-1))with|G=>G|V r7=>if 0<=r5.t5/\r5.t5<zY r5.t0 then bif vn (r7<(↑r5.t0[zq r5.t5]!.aR.length:Int))then V (-1)else if 0<=r5.t5/\r5.t5<zY r5.t0 then if 0<=r5.t5/\r5.t5<zY r5.t0 then if 0<=r5.t5/\r5.t5<zY r5.t0 then match M116 r5.t0[zq r5.t5]!.aQ (ak (r7-(↑r5.t0[zq r5.t5]!.aR.length:Int)))with|G=>G|V r8=>match M116 r5.t0[zq r5.t5]!.aX r8 with|G=>G|V r9=>G else G else G else G else G else G else V (r5.t1)
def aHA(M116:(af aB)->Int->aa sg)(a0:af aB)(a1:Int):bZ vp (alc M116) 300 (aoY M116) 116 (au6.c (a0,a1,())) [] 0 d116.rd=anM M116 a0 a1:=aY
def aou:Nat->((af aB)->Int->aa sg)
 |0=>(λ_ _=>G)
 |n+1=>(anM (aou n))
def UE(n:Nat):(af aB)->Int->aa sg:=(aou n)
def Pt:∀n,ama (UE n)
 |0=>λ_ _ h=>(by cases h)
 |n+1=>by
  have ih:=Pt n;have i116:=ih;exact(fe (alB i116) (azr (UE n)) (λ_=>aY) (λ_=>aY) λg=>aHA (UE n) g.1 g.2.1)
def ahP:(af aB)->Int->aa sg:=λa0 a1=>lim (λn=>UE n a0 a1)
def agY:ama ahP:=λg b h=>by
 obtain⟨n,hn⟩:=dz (show lim (λn=>UE n g.1 g.2.1)=V b from h);exact(Pt n) g b hn
def azR(F:bu):bu:=asE ahP F
def aiw{F:bu}(h:bE vp F):bE vp (azR F):=V0 agY h
def F53:bu:=(asG (azR dA))
structure Gj where
 t7:Int
 t27:List dN
 (t28 t29:Int)
def ae1:Td 0 Gj:= .c [] [7,27,28,29] (.r 0 0 (ec 7 aP (ec 27 (ql 139) (ec 28 aP (ec 29 aP en)))) sn (λz=>⟨z.1.1,z.1.2.1,z.1.t.1,z.1.t.2.1⟩) (λx=>((x.t7,x.t27,x.t28,x.t29,()),(()))))
def PD{α:Type}(p:Gj)(go:Gj->aa α)(e1:aa α):aa α:=
 bif vn (p.t29<p.t28)then if 0<=p.t29/\p.t29<zY p.t27 then match Z5 (az.mk p.t27[zq p.t29]!.aF.bF p.t27[zq p.t29]!.aF.fN p.t27[zq p.t29]!.aF.aq) p.t7 with|G=>G|V r1=>go (Gj.mk r1 p.t27 p.t28 (ak (p.t29+1)))else G else e1
def OI(p:Gj):aa (aa Gj):=
 PD p (λs=>V (V s)) (V G)
def XS:=bI (OI)
abbrev E53:=Bool
def d53:Td 0 E53:= .c [] [6] (.r 0 0 (ec 6 qb en) sn (λz=>z.1.1) (λx=>((x,()),(()))))
def aHs:∀f∈([]:af Nat),bA (F53) f:=aH
def m53(a0:aS)(a1:Int)(a2:Int):aa E53:=
 match (bif vn (a1<zY a0.ai)then V J else V (vn (a1<zY a0.ax)))with|G=>G|V r2=>bif r2 then V O else match ahP a0.bM a2 with|G=>G|V r3=>match XS (Gj.mk r3 a0.ax (zY a0.ax) 0)with|G=>G|V r4=>PD r4 (λ_=>G) (V (vn (0<=r4.t7)))
def e53:=eL vp 53 O (lc (qg 26) (aU (aU ln))) d53 (λg=>m53 g.1 g.2.1 g.t.1)
def avg:EO e53:=λh=>kL (F:=F53) (an:=(noTwo (.two (.two (.rb [] 21) .no) (noTwo (.two (noTwo (ae1.lp XS .no)) .no))))) (l:=[(.skip,(.rb [] 21)),(bk f53 0,(ae1.lp XS .no))]) func53 (Yh (aiw aV)) (aA aHs (aA (aO ae1) aH)) h
def OL:EP e53:=λh=>kP h
def az.eta(t:az):az.mk t.bF t.fN t.aq=t:=by cases t;rfl
def az.eT{t k:az}(h:k∈t.aq):ze k<ze t:=by
 cases t;have:=vg h;simp only[az.mk.sizeOf_spec];simp only at this;omega
def nT(t:az):Nat:=1+(t.aq.attach.map λk=>nT k.1).sum
termination_by ze t
decreasing_by exact az.eT k.2
def kS(l:af az):Nat:=(l.map nT).sum
def BI(t:az):nT t=1+kS t.aq:=by
 rw[nT,kS];simp
def rN(k:az)(ks:af az):kS (k::ks)=nT k+kS ks:=by simp[kS]
def VP{k:az}{ks:af az}(h:k∈ks):nT k<=kS ks:=by
 induction ks with
 |nil=>cases h
 |cons a ks ih=>
  rw[rN];rcases zx.1 h with rfl|h
  ·omega
  ·have:=ih h;omega
def abI(t:az):0<nT t:=by rw[BI];omega
def tl(t:az)(left:Int):Int:=if(nT t:Int)<=left then left-nT t else if 0<=left then-1 else left-1
def tls:af az->Int->Int
 |[],l=>l
 |k::ks,l=>if 0<=l then tls ks (tl k l)else l
def abG:∀(ks:af az) (l:Int),tls ks l=if 0<=l then(if(kS ks:Int)<=l then l-kS ks else-1)else l
 |[],l=>by simp[tls,kS];omega
 |k::ks,l=>by
  have e:=rN k ks;unfold tls;by_cases h:0<=l
  ·rw[bC h,bC h,abG ks,e];unfold tl;grind
  ·omega
def aAi(t:az)(left:Int):tl t left=tls t.aq (left-1):=by
 rw[abG,tl,BI];grind
def ae0(t:az)(l:Int):(0<=l-> -1<=tl t l/\tl t l<=l-1)/\(l<0->tl t l=l-1):=by
 have:=abI t;unfold tl;grind
def abr(M:az->Int->aa qz)(t:az)(hM:∀k∈t.aq,∀l:Int,0<=l->l<=1000->M k l=V (tl k l)):
  ∀(ks:af az) (i:Nat) (l:Int),t.aq.drop i=ks->i+zY ks=zY t.aq->l<=1000-i->∃q,LV M ⟨l,i,t⟩=V q/\q.t1=tls ks l/\q.b0=t/\(q.t5<zY t.aq->q.t1<0)
 |[],i,l,hd,hl,_=>by
  refine⟨_,cq λr=> ?_,rfl,rfl,λh=> ?_⟩
  ·have:¬((i:Int)<zY t.aq):=by simp at hl;omega
   simp[Ku,this]
  ·simp at hl h;omega
 |k::ks,i,l,hd,hl,h2=>by
  have hil:i<zY t.aq:=by simp at hl;omega
  have hki:t.aq[i]! =k:=by
   have:t.aq[i]? =V k:=by
    have:=congrArg List.head? hd;rw[List.head?_drop]at this
    assumption
   rw[List.getElem!_eq_getElem?_getD,this];rfl
  have hmem:k∈t.aq:=by rw[<-hki,getElem!_pos t.aq i hil];exact xP hil
  by_cases h0:0<=l
  ·have hd':t.aq.drop (i+1)=ks:=by
    have:=congrArg List.tail hd;rw[List.tail_drop]at this
    assumption
   have b3:=((ae0 k l).1 h0).2;obtain⟨q,e1,e2,e3,e4⟩:=abr M t hM ks (i+1) (tl k l) hd' (by simp at hl;omega) au;refine⟨q,?_,?_,e3,e4⟩
   ·rw[<-e1];refine bP ?_;have hw:ak ((i:Int)+1)=((i+1:Nat):Int):=by rw[aL];omega
    have hk2:t.aq[i]=k:=by rw[<-hki,getElem!_pos t.aq i hil]
    simp[Ku,hil,h0,hk2,az.eta,hM k hmem l h0 au];exact hw
   ·rw[e2];show _=if 0<=l then _ else _
    omega
  ·refine⟨_,cq λr=> ?_,?_,rfl,λh=> ?_⟩
   ·simp[Ku,h0]
   ·show l=if 0<=l then _ else l
    omega
   ·simp only;omega
def aln(M:az->Int->aa qz)(t:az)(hM:∀k∈t.aq,∀l:Int,0<=l->l<=1000->M k l=V (tl k l))(l:Int)(h1: -1000000<=l)(h2:l<=1000):amA M t l=V (tl t l):=by
 obtain⟨q,e1,e2,e3,e4⟩:=abr M t hM t.aq 0 (l-1) rfl (by simp) au;have hw:ak (l-1)=l-1:=aL;rw[aAi,<-e2];unfold amA;rw[hw,az.eta,show ((0:Nat):Int)=0 from rfl]at*;rw[e1];obtain⟨q1,q5,qb⟩:=q;subst e3;dsimp only at*;by_cases h5:q5<(zY qb.aq:Int)
 ·have:=e4 h5;simp[show ¬(0<=q1)by omega]
 ·simp[h5]
def Xx:∀(n:Nat) (t:az) (l:Int),ze t<n-> -1000000<=l->l<=1000->Us n t l=V (tl t l)
 |0,_,_,h,_,_=>au
 |n+1,t,l,h,h1,h2=>aln (Us n) t (λk hk l h3 h4=>Xx n k l (by have:=az.eT hk;omega) au h4) l h1 h2
def MH(t:az)(l:Int)(h1: -1000000<=l)(h2:l<=1000):Z5 t l=V (tl t l):=eM (ze t+1) λn hn=>Xx n t l au h1 h2
def aB.then_lt{s k:aB}(h:k∈s.aQ):ze k<ze s:=by
 cases s;have:=vg h;simp only[aB.mk.sizeOf_spec];simp only at this;omega
def aB.alA{s k:aB}(h:k∈s.aX):ze k<ze s:=by
 cases s;have:=vg h;simp only[aB.mk.sizeOf_spec];simp only at this;omega
def aB.eta(s:aB):aB.mk s.b9 s.bg s.dL s.fN s.aF s.aQ s.aX s.aR=s:=by cases s;rfl
def nS(s:aB):Nat:=1+nT s.aF+zY s.aR+(s.aQ.attach.map λk=>nS k.1).sum+(s.aX.attach.map λk=>nS k.1).sum
termination_by ze s
decreasing_by
 ·exact aB.then_lt k.2
 ·exact aB.alA k.2
def fK(l:af aB):Nat:=(l.map nS).sum
def qh(s:aB):nS s=1+nT s.aF+zY s.aR+fK s.aQ+fK s.aX:=by
 rw[nS,fK,fK];simp
def oP(k:aB)(ks:af aB):fK (k::ks)=nS k+fK ks:=by simp[fK]
def sl(l:af aB)(left:Int):Int:=if left<0 then left else if(fK l:Int)<=left then left-fK l else-1
def ue(left:Int)(s:aB):aa Int:=if left<0 then G else if tl s.aF (left-1)<zY s.aR then G else V (sl s.aX (sl s.aQ (tl s.aF (left-1)-s.aR.length)))
def RC{left x:Int}{s:aB}(h:ue left s=V x):0<=left/\ -1<=x/\x<=left-1/\x=if(nS s:Int)<=left then left-nS s else-1:=by
 unfold ue at h;have e:=qh s;unfold tl sl at h;grind
def UT{left:Int}{s:aB}(h:ue left s=G)(h0:0<=left):left<nS s:=by
 unfold ue at h;have e:=qh s;unfold tl at h;grind
def aqw:∀(l:af aB) (left:Int),lG ue (λv _=>if v<0 then v else-1) id l left=sl l left
 |[],left=>by unfold sl;simp[fK,lG];omega
 |s::l,left=>by
  have e:=oP s l;unfold lG;cases hs:ue left s with
  |none=>
   have:=UT hs;unfold sl;grind
  |some x=>
   obtain⟨h1,h2,h3,h4⟩:=RC hs;dsimp only;rw[aqw l x];unfold sl;grind
def alx(M:af aB->Int->aa sg)(l:af aB)(hM:∀s∈l,(∀x:Int,-1<=x->x<=1000->M s.aQ x=V (sl s.aQ x))/\(∀x:Int,-1<=x->x<=1000->M s.aX x=V (sl s.aX x)))(left:Int)(h1: -1<=left)(h2:left<=1000):
  anM M l left=V (sl l left):=by
 have hstep:∀(i:Nat) (b:Int) (hi:i<zY l),b<=1000-i-> -1<=b->Hu M ⟨l,b,i⟩=if b<0 then V G else if tl l[i].aF (b-1)<zY l[i].aR then V G else V (V ⟨l,sl l[i].aX (sl l[i].aQ (tl l[i].aF (b-1)-l[i].aR.length)),((i+1:Nat):Int)⟩):=λi b hi hb hb2=>by
  obtain⟨m1,m2⟩:=hM l[i] (xP hi);unfold Hu;by_cases h0:b<0
  ·simp[show ¬0<=b by omega]
  ·have e1:ak (b-1)=b-1:=aL;have e2:=MH l[i].aF (b-1) au au;have e3:=ae0 l[i].aF (b-1);have hT: -2<=tl l[i].aF (b-1)/\tl l[i].aF (b-1)<=1000:=by grind
   by_cases h4:tl l[i].aF (b-1)<zY l[i].aR
   ·simp[hi,e1,az.eta,e2,h4]
   ·have e5:ak (tl l[i].aF (b-1)-l[i].aR.length)=tl l[i].aF (b-1)-l[i].aR.length:=aL;have e6:=m1 (tl l[i].aF (b-1)-l[i].aR.length) au au;have hS: -1<=sl l[i].aQ (tl l[i].aF (b-1)-l[i].aR.length)/\sl l[i].aQ (tl l[i].aF (b-1)-l[i].aR.length)<=1000:=by unfold sl;grind
    have e7:=m2 _ hS.1 hS.2;have e8:ak ((i:Int)+1)=((i+1:Nat):Int):=by rw[aL];omega
    simp[hi,h0,e1,az.eta,e2,h4,e5,e6,e7,show 0<=b by omega];exact e8
 obtain⟨i,v,hi,e1,⟨e2,e3⟩,e4⟩:=Jn (rnd:=Hu M) l (λi b=>⟨l,b,(i:Int)⟩) ue (λv _=>if v<0 then v else-1) id (λi b=>b<=1000-i/\ -1<=b) (λi b hi hI b' hs=>by
   obtain⟨q1,q2,q3,q4⟩:=RC hs;refine⟨?_,au,q2⟩;unfold ue at hs;grind) (λi b hi hI hs r=>by
   unfold ue at hs;grind) (λb hI r=>by simp[Hu]) (b:=left) ⟨au,h1⟩
 have e1':MJ M ⟨l,left,0⟩=V ⟨l,v,i⟩:=e1;unfold anM;rw[e1'];rw[aqw]at e4;rcases e4 with ⟨h5,e4⟩|⟨h5,hn,e4⟩
 ·simp[h5,e4]
 ·rw[e4];by_cases h0:v<0
  ·simp[h5,h0,show ¬(0<=v)by omega]
  ·have e1:ak (v-1)=v-1:=aL;have e2:=MH l[i].aF (v-1) au au;have h4:tl l[i].aF (v-1)<zY l[i].aR:=by unfold ue at hn;grind
   simp[h5,h0,show 0<=v by omega,e1,az.eta,e2,h4]
def bw{s:aB}{l:af aB}(h:s∈l):ze s.aQ<ze l/\ze s.aX<ze l:=by
 have:=vg h;cases s;simp only[aB.mk.sizeOf_spec]at this;simp only;omega
def KU:∀(n:Nat) (l:af aB) (x:Int),ze l<n-> -1<=x->x<=1000->UE n l x=V (sl l x)
 |0,_,_,h,_,_=>au
 |n+1,l,x,h,h1,h2=>alx (UE n) l (λs hs=>⟨λx h3 h4=>KU n _ x (by have:=bw hs;omega) h3 h4,λx h3 h4=>KU n _ x (by have:=bw hs;omega) h3 h4⟩) x h1 h2
def ajh(l:af aB)(x:Int)(h1: -1<=x)(h2:x<=1000):ahP l x=V (sl l x):=eM (ze l+1) λn hn=>KU n l x au h1 h2
def few(f:aS)(vars nodes:Int):Bool:=vn ((zY f.ai:Int)<=vars/\(zY f.ax:Int)<=vars/\(fK f.bM+kS (f.ax.map (·.aF)):Int)<=nodes)
def auC(f:aS)(vars nodes:Int)(h1:0<=vars)(h2:vars<=1000)(h3:0<=nodes)(h4:nodes<=1000):m53 f vars nodes=V (few f vars nodes):=by
 unfold m53 PD;by_cases q1:vars<zY f.ai
 ·simp[q1,few];omega
 ·by_cases q2:vars<zY f.ax
  ·simp[q2,few];omega
  ·rw[ajh _ _ au au];have hb:sl f.bM nodes<=1000/\ -1<=sl f.bM nodes:=by unfold sl;grind
   have hstep:∀(i:Nat) (b:Int) (hi:i<zY f.ax),b<=1000-> -1-(i:Int)<=b->OI ⟨b,f.ax,zY f.ax,i⟩=V (V ⟨tl f.ax[i].aF b,f.ax,zY f.ax,((i+1:Nat):Int)⟩):=λi b hi hb hb2=>by
    have e2:=MH f.ax[i].aF b au au;have e8:ak ((i:Int)+1)=((i+1:Nat):Int):=by rw[aL];omega
    unfold OI PD;simp[hi,az.eta,e2];exact e8
   obtain⟨i,v,hi,e1,_,e4⟩:=Jn (rnd:=OI) f.ax (λi b=>⟨b,f.ax,zY f.ax,(i:Int)⟩) (λb h=>V (tl h.aF b)) (λv _=>v) id (λi b=>b<=1000/\ -1-(i:Int)<=b) (λi b hi hI b' hs=>by
     have:=ae0 f.ax[i].aF b;grind) (λi b hi hI hs r=>by cases hs) (λb hI r=>by simp[OI,PD]) (b:=sl f.bM nodes) ⟨hb.1,au⟩
   have e1':XS ⟨sl f.bM nodes,f.ax,zY f.ax,0⟩=V ⟨v,f.ax,zY f.ax,i⟩:=e1;rcases e4 with ⟨h5,e4⟩|⟨_,hn,_⟩
   case inr=>cases hn
   have key:∀(l:af dN) (b:Int),0<=lG (ρ:=Int) (λb h=>V (tl h.aF b)) (λv _=>v) id l b↔(kS (l.map (·.aF)):Int)<=b:=λl=>by
    induction l with
    |nil=>intro b;simp[lG,kS]
    |cons h l ih=>
     intro b;unfold lG;rw[ih,yf,rN];unfold tl;grind
   have k2:=key f.ax (sl f.bM nodes);rw[e4]at k2;have k3:(0<=v)↔(kS (f.ax.map (·.aF)):Int)<=sl f.bM nodes:=k2;simp only[q1,q2,D0,ct,e1',h5,yx,few]
   congr 1
   rw[decide_eq_decide,k3];unfold sl;grind
def Z0:((0:Nat):Int)=(0:Int):=rfl
def okc(i:Nat)(c:Int):Bool:=vn ((97<=c/\c<=122)\/(i≠0/\((48<=c/\c<=57)\/c=46\/c=95)))
def kH(s:ByteArray):Bool:=vn (1<=s.size)&&vn (s.size<=40)&&(zH s.size).all λi=>okc i (di s i)
def jE(low high:Int):Bool:=vn (low<=high/\ -1048576<=low/\high<=1048576)
def nX(vars:af bh)(i:Nat)(v:bh):Int:=
 if kH v.fName=O then 7
 else if((vars.take i).any λw=>w.fName.toList==v.fName.toList)=J then 8
 else if v.bS<0\/3<v.bS then 1
 else if jE v.ah v.ag=O then 3
 else if v.bS=0 then(if v.gD<v.ah\/v.ag<v.gD then 3 else 0)
 else if v.gD=0 then 0 else 3
def Ah(kind:Int):af bh->Int->aa Int
 |[],n=>V n
 |v::vs,n=>if v.bS=kind then(if 4096<n*(v.ag-v.ah+1)then G else Ah kind vs (n*(v.ag-v.ah+1)))else Ah kind vs n
def Iz(vars:af bh):Bool:=(Ah 1 vars 1).isSome&&(Ah 2 vars 1).isSome&&(match Ah 3 vars 1 with|V n=>vn (n<=256)|G=>O)
def jP(vars:af bh):Int:=if cu (nX vars) vars 0≠0 then cu (nX vars) vars 0 else if Iz vars=J then 0 else 4
def cg(o:Int):Int×Int:=if o=0\/o=24 then(0,0)else if o=6\/o=7 then(1,1)else if 8<=o/\o<=22 then(2,2)else if o=23 then(3,3)else if o=25 then(2,33)else(-1,-1)
def Dz(vars:af bh)(inp:Bool)(t:az):Bool:=vn (0<=(cg t.bF).1/\(cg t.bF).1<=zY t.aq/\(zY t.aq:Int)<=(cg t.bF).2)&&
 (if t.bF=0 then J else if t.bF=24 then vn (0<=t.fN/\t.fN<zY vars)&& !(inp&&vn (vars[t.fN.toNat]!.bS=0))else vn (t.fN=0))
def dI(vars:af bh)(inp:Bool)(t:az):Bool:=Dz vars inp t&&t.aq.attach.all λk=>dI vars inp k.1
termination_by ze t
decreasing_by exact az.eT k.2
def mh(vars:af bh)(inp:Bool)(t:az):dI vars inp t=(Dz vars inp t&&t.aq.all (dI vars inp)):=by
 rw[dI];simp
def gh(a b:Span):Span:=⟨if b.ah<a.ah then b.ah else a.ah,if a.ag<b.ag then b.ag else a.ag⟩
def jC(vars:af bh)(t:az)(k:af Span):Span:=
 if t.bF=0 then⟨t.fN,t.fN⟩
 else if t.bF=24 then⟨vars[t.fN.toNat]!.ah,vars[t.fN.toNat]!.ag⟩
 else if t.bF=6 then⟨-k[0]!.ag,-k[0]!.ah⟩
 else if t.bF=8 then⟨k[0]!.ah+k[1]!.ah,k[0]!.ag+k[1]!.ag⟩
 else if t.bF=9 then⟨k[0]!.ah-k[1]!.ag,k[0]!.ag-k[1]!.ah⟩
 else if t.bF=10 then
  gh (gh (gh ⟨k[0]!.ah*k[1]!.ah,k[0]!.ah*k[1]!.ah⟩ ⟨k[0]!.ah*k[1]!.ag,k[0]!.ah*k[1]!.ag⟩) ⟨k[0]!.ag*k[1]!.ah,k[0]!.ag*k[1]!.ah⟩) ⟨k[0]!.ag*k[1]!.ag,k[0]!.ag*k[1]!.ag⟩
 else if t.bF=11 then
  (if(0:Int)<=k[0]!.ah/\(0:Int)<=k[1]!.ah then⟨0,if k[0]!.ag< -k[0]!.ah then-k[0]!.ah else k[0]!.ag⟩else⟨-(if k[0]!.ag< -k[0]!.ah then-k[0]!.ah else k[0]!.ag),if k[0]!.ag< -k[0]!.ah then-k[0]!.ah else k[0]!.ag⟩)
 else if t.bF=12 then⟨if k[1]!.ah<0 then k[1]!.ah+1 else 0,if(0:Int)<k[1]!.ag then k[1]!.ag-1 else 0⟩
 else if t.bF=21 then⟨if k[1]!.ah<k[0]!.ah then k[1]!.ah else k[0]!.ah,if k[1]!.ag<k[0]!.ag then k[1]!.ag else k[0]!.ag⟩
 else if t.bF=22 then⟨if k[0]!.ah<k[1]!.ah then k[1]!.ah else k[0]!.ah,if k[0]!.ag<k[1]!.ag then k[1]!.ag else k[0]!.ag⟩
 else if t.bF=23\/t.bF=25 then(k.drop 2).foldl gh k[1]!
 else⟨0,1⟩
def CC(s:Span):Bool:=vn (-1048576<=s.ah/\s.ag<=1048576)
def mJ:af (aa Span)->aa (af Span)
 |[]=>V []
 |none::_=>G
 |some s::xs=>match mJ xs with|V l=>V (s::l)|G=>G
def iS(vars:af bh)(t:az):aa Span:=match mJ (t.aq.attach.map λk=>iS vars k.1)with
 |none=>G
 |some l=>if CC (jC vars t l)=J then V (jC vars t l)else G
termination_by ze t
decreasing_by exact az.eT k.2
def Aq(vars:af bh)(t:az):iS vars t=match mJ (t.aq.map (iS vars))with
 |none=>G
 |some l=>if CC (jC vars t l)=J then V (jC vars t l)else G:=by
 rw[iS];simp
def fu(vars:af bh)(inp:Bool)(t:az):Int:=if dI vars inp t=O then 1 else if(iS vars t).isSome then 0 else 3
def lu(f:aS)(i:Nat)(h:dN):Int:=
 if kH h.fName=O then 7
 else if((f.ax.take i).any λw=>w.fName.toList==h.fName.toList)=J then 8
 else if jE h.ah h.ag=O then 3
 else fu f.ai J h.aF
def dT(t:az):Int:=1+(t.aq.attach.map λk=>dT k.1).foldl max 0
termination_by ze t
decreasing_by exact az.eT k.2
def RI(l:af az):Int:=(l.map dT).foldl max 0
def YH(t:az):dT t=1+RI t.aq:=by
 rw[dT,RI];simp
def Fy(l:af az)(k:az):RI (l++[k])=max (RI l) (dT k):=by
 unfold RI;simp
def qJ(l:af az)(k:az):kS (l++[k])=kS l+nT k:=by
 simp[kS]
def A7:∀(l:af Int) (a:Int),a<=l.foldl max a
 |[],a=>zj _
 |x::l,a=>xV (Int.le_max_left a x) (A7 l (max a x))
def KX(l:af az):0<=RI l:=A7 _ _
def avP(t:az):1<=dT t:=by have:=KX t.aq;rw[YH];omega
def dY(s:aB)(l:af aB):ze l<ze (s::l):=by
 rw[List.cons.sizeOf_spec];omega
def jZ:af aB->Int
 |[]=>0
 |s::l=>max (max (jZ s.aQ+1) (jZ s.aX+1)) (jZ l)
termination_by l=>ze l
decreasing_by
 ·exact(bw (zk ..)).1
 ·exact(bw (zk ..)).2
 ·exact dY _ _
def fJ:af aB->Bool
 |[]=>O
 |s::l=>vn (12<dT s.aF)||fJ s.aQ||fJ s.aX||fJ l
termination_by l=>ze l
decreasing_by
 ·exact(bw (zk ..)).1
 ·exact(bw (zk ..)).2
 ·exact dY _ _
def Be(l:af aB):0<=jZ l:=by
 induction l with
 |nil=>rw[jZ];omega
 |cons s l ih=>rw[jZ];omega
def ac6(l:af aB)(s:aB):jZ (l++[s])=max (jZ l) (max (jZ s.aQ+1) (jZ s.aX+1)):=by
 induction l with
 |nil=>
  rw[yB,show jZ []=0 by rw[jZ],jZ,show jZ []=0 by rw[jZ]];omega
 |cons a l ih=>rw[xz,jZ,jZ,ih];omega
def QN(l:af aB)(k:aB):fK (l++[k])=fK l+nS k:=by simp[fK]
def qU(f:aS):Bool:=vn (zY f.ai<=64)&&vn (zY f.ax<=8)&&f.ax.all (λh=>vn (dT h.aF<=12))&&vn (jZ f.bM<=12)&& !fJ f.bM
def gI:af Int->Bool
 |a::b::l=>vn (a<b)&&gI (b::l)
 |_=>J
def DU(t:az):Bool:=vn (t.bF=0/\t.fN=0/\zY t.aq=0)
def Di(f:aS)(s:aB):Bool:=vn (0<=s.dL/\s.dL<zY f.ai)&&vn (f.ai[s.dL.toNat]!.bS=0)
def dM(f:aS)(s:aB)(last:Bool):Bool:=
 let free:=vn (zY s.aQ=0/\zY s.aX=0)
 let nob:=vn (zY s.aR=0)
 if s.b9=0 then free&&Di f s&&vn (s.fN=0)&&nob
 else if s.b9=1 then free&&vn (s.dL=0)&&vn (s.fN=0)&&nob
 else if s.b9=2 then free&&vn (s.dL=0)&&vn (s.fN=0)&&nob&&DU s.aF
 else if s.b9=3 then vn (s.dL=0)&&vn (s.fN=0)&&nob
 else if s.b9=4 then vn (s.dL=0)&&vn (zY s.aX=0)&&nob
 else if s.b9=5 then free&&Di f s&&vn (0<=s.fN/\s.fN<zY f.ax)&&nob&&DU s.aF
 else if s.b9=6 then free&&last&&vn (s.dL=0)&&vn (s.fN=0)&&DU s.aF&&(vn (1<=zY s.aR/\zY s.aR<=32)&&vn ((0:Int)<=s.aR[0]!)&&gI s.aR)
 else O
def vw(s:aB):Bool:=vn (0<=s.bg/\s.bg<=(if s.b9=2 then 67108864 else 10000))&&(if s.b9=4 then vn (0<=s.fN/\s.fN<=4096)else J)&&(if s.b9=6 then vn (s.aR[zY s.aR-1]!<=67108864)else J)
def pg(f:aS)(last:Bool)(s:aB):Int:=if dM f s last=O then 1 else if vw s=O then 3 else fu f.ai O s.aF
def b8(f:aS)(top:Bool):af aB->Int
 |[]=>0
 |s::l=>if pg f (top&&l.isEmpty) s≠0 then pg f (top&&l.isEmpty) s else if b8 f O s.aQ≠0 then b8 f O s.aQ else if b8 f O s.aX≠0 then b8 f O s.aX else b8 f top l
termination_by l=>ze l
decreasing_by
 all_goals first|exact(bw (zk ..)).1|exact(bw (zk ..)).2|exact dY _ _
def stC(f:aS)(top:Bool)(n i:Nat)(s:aB):Int:=if pg f (top&&vn (i+1=n)) s≠0 then pg f (top&&vn (i+1=n)) s else if b8 f O s.aQ≠0 then b8 f O s.aQ else b8 f O s.aX
def sL(f:aS)(top:Bool)(n:Nat):∀(l:af aB) (i:Nat),i+zY l=n->cu (stC f top n) l i=b8 f top l
 |[],i,_=>by rw[b8];rfl
 |s::l,i,h=>by
  have ih:=sL f top n l (i+1) (by simp at h;omega);have he:l.isEmpty=vn (i+1=n):=by
   cases l with
   |nil=>simp at h;simp[h]
   |cons a l=>simp at h;simp;omega
  unfold cu;rw[b8,ih,he];unfold stC;grind
def eX:af aB->Int×Int×Int
 |[]=>(0,0,0)
 |s::l=>match eX s.aQ,eX s.aX,eX l with
  |a,b,c=>if s.b9=1 then(1+c.1,1+c.2.1,s.bg+c.2.2)
   else if s.b9=3 then(1+max a.1 b.1+c.1,max a.2.1 b.2.1+c.2.1,s.bg+max a.2.2 b.2.2+c.2.2)
   else if s.b9=4 then(1+s.fN*(1+a.1)+c.1,s.fN*a.2.1+c.2.1,s.fN*(s.bg+a.2.2)+c.2.2)
   else(1+c.1,c.2.1,s.bg+c.2.2)
termination_by l=>ze l
decreasing_by
 ·exact(bw (zk ..)).1
 ·exact(bw (zk ..)).2
 ·exact dY _ _
def XK(f:aS):Bool:=vn (4096<(eX f.bM).1\/8<(eX f.bM).2.1\/67108864<(eX f.bM).2.2)
def rH(f:aS):Int:=if qU f=O then 4 else if jP f.ai≠0 then jP f.ai else if cu (lu f) f.ax 0≠0 then cu (lu f) f.ax 0 else if b8 f J f.bM≠0 then b8 f J f.bM else if XK f=J then 4 else 0
def atK:bu:=dA
abbrev avk:=Bool×bq
def d208:Td 1 avk:= .c [] [2] (.r 1 1 (ec 2 qb en) (sb 0 256 (lg 256) sn) (λz=>(z.1.1,z.2.1)) (λx=>((x.1,()),(x.2,()))))
def azG:=(lc (qp 0 0) ln)
def axn:=(sb 0 256 (lg 256) sn)
def apD:An:=(noTwo (.two (.rb [] 2) .no))
def aCL:∀f∈([]:af Nat),bA (atK) f:=aH
def kO(b0:bq):avk:=
 let r1:Bool:=bif b0.fL then J else vn (1024<b0.bH);(r1,b0)
def aHr(b0:bq):bZ vp (atK) 300 (apD) 208 (azG.c ((),())) (axn.d (b0,())) 1 d208.rd=V (kO b0):=by
 refine Eq.trans (b:=(
  match bif b0.fL then V (J)else V (vn (1024<b0.bH))with|G=>G|V r1=>V ((r1,b0)):aa avk)) aY ?_
 simp only[kO,cn,cO]
def ajF:bu->bu:=eY vp 208 1 azG axn d208 (λg=>V (kO g.2.1))
def KA:EO ajF:=λh=>kY (F:=atK) (an:=apD) (l:=[(.skip,(.rb [] 2))]) func208 aV (aA aCL aH) h (c:=λg=>aHr g.2.1)
abbrev tX:=bq
def d209:Td 1 tX:= .c [] [] (.r 1 1 en (sb 0 256 (lg 256) sn) (λz=>z.2.1) (λx=>((()),(x,()))))
def at9:=(lc (qp 0 0) (lc (qg 137) (aU ln)))
def avJ:=(sb 0 256 (lg 256) sn)
def asy(M:az->Int->bq->aa tX):bu->bu:=eY vp 209 1 at9 avJ d209 (λg=>M g.1.2.1 g.1.2.2.1 g.2.1)
def amG(M:az->Int->bq->aa tX):Prop:=HY vp 209 1 at9 avJ d209 (λg=>M g.1.2.1 g.1.2.2.1 g.2.1)
def YQ{M:az->Int->bq->aa tX}(hM:amG M){F:bu}(h:bE vp F):bE vp (asy M F):=DB hM ⟨_,func209,aY,aY⟩ (λ_=>aY) h
def at8(M209:az->Int->bq->aa tX):bu:=(asy M209 (ajF dA))
def alf{M209}(h209:amG M209):bE vp (at8 M209):=(YQ h209 (KA aV))
structure Cf where
 t2:Int
 t29:List az
 (t30 t31:Int)
 b0:bq
def Tl:Td 1 Cf:= .c [] [0,2,29,30,31] (.r 1 1 (ec 0 (qp 0 0) (ec 2 aP (ec 29 (ql 137) (ec 30 aP (ec 31 aP en))))) (sb 0 256 (lg 256) sn) (λz=>⟨z.1.2.1,z.1.t.1,z.1.t.2.1,z.1.q.1,z.2.1⟩) (λx=>(((),x.t2,x.t29,x.t30,x.t31,()),(x.b0,()))))
def Nb(M209:az->Int->bq->aa tX)(p:Cf):aa (aa Cf):=
 bif vn (p.t31<p.t30)then if 0<=p.t31/\p.t31<zY p.t29 then match M209 (az.mk p.t29[zq p.t31]!.bF p.t29[zq p.t31]!.fN p.t29[zq p.t31]!.aq) (ak (p.t2+1)) p.b0 with|G=>G|V r1=>V (V (Cf.mk p.t2 p.t29 p.t30 (ak (p.t31+1)) r1))else G else V (G)
def GQ(M209:az->Int->bq->aa tX):=bI (Nb M209)
def apr(M209:az->Int->bq->aa tX):An:=(noTwo (noTwo (noTwo (noTwo (noTwo (Tl.lp (GQ M209) .no))))))
def aAd(M209:az->Int->bq->aa tX):gv vp (at8 M209) 1 300 209 (apr M209):=cH (l:=[(bk f209 0,(Tl.lp (GQ M209) .no))]) func209 (bT aY) aY (aA (aO Tl) aH)
def akr(M209:az->Int->bq->aa tX)(a1:az)(a2:Int)(b0:bq):aa tX:=
 bif b0.fL then bif(kO (bq.mk (ak (b0.bH+1)) J)).fst then V ((kO (bq.mk (ak (b0.bH+1)) J)).snd)else match GQ M209 (Cf.mk a2 a1.aq (zY a1.aq) 0 (kO (bq.mk (ak (b0.bH+1)) J)).snd)with|G=>G|V r2=>bif vn (r2.t31<r2.t30)then if 0<=r2.t31/\r2.t31<zY r2.t29 then match M209 (az.mk r2.t29[zq r2.t31]!.bF r2.t29[zq r2.t31]!.fN r2.t29[zq r2.t31]!.aq) (ak (r2.t2+1)) r2.b0 with|G=>G|V r3=>G else G else V (r2.b0)else bif(kO (bq.mk (ak (b0.bH+1)) (vn (12<a2)))).fst then V ((kO (bq.mk (ak (b0.bH+1)) (vn (12<a2)))).snd)else match GQ M209 (Cf.mk a2 a1.aq (zY a1.aq) 0 (kO (bq.mk (ak (b0.bH+1)) (vn (12<a2)))).snd)with|G=>G|V r4=>bif vn (r4.t31<r4.t30)then if 0<=r4.t31/\r4.t31<zY r4.t29 then match M209 (az.mk r4.t29[zq r4.t31]!.bF r4.t29[zq r4.t31]!.fN r4.t29[zq r4.t31]!.aq) (ak (r4.t2+1)) r4.b0 with|G=>G|V r5=>G else G else V (r4.b0)
def aG7(M209:az->Int->bq->aa tX)(a1:az)(a2:Int)(b0:bq):bZ vp (at8 M209) 300 (apr M209) 209 (at9.c ((),a1,a2,())) (avJ.d (b0,())) 1 d209.rd=akr M209 a1 a2 b0:=aY
def aow:Nat->(az->Int->bq->aa tX)
 |0=>(λ_ _ _=>G)
 |n+1=>(akr (aow n))
def SQ(n:Nat):az->Int->bq->aa tX:=(aow n)
def N6:∀n,amG (SQ n)
 |0=>λ_ _ h=>(by cases h)
 |n+1=>by
  have ih:=N6 n;have i209:=ih;exact(Wk (alf i209) (aAd (SQ n)) (λ_=>aY) (λ_=>aY) (λ_=>aY) λg=>aG7 (SQ n) g.1.2.1 g.1.2.2.1 g.2.1)
def Na:az->Int->bq->aa tX:=λa1 a2 b0=>lim (λn=>SQ n a1 a2 b0)
def akD:amG Na:=λg b h=>by
 obtain⟨n,hn⟩:=dz (show lim (λn=>SQ n g.1.2.1 g.1.2.2.1 g.2.1)=V b from h);exact(N6 n) g b hn
def awq(F:bu):bu:=asy Na F
def Xy{F:bu}(h:bE vp F):bE vp (awq F):=YQ akD h
abbrev tT:=bq
def d207:Td 1 tT:= .c [] [] (.r 1 1 en (sb 0 256 (lg 256) sn) (λz=>z.2.1) (λx=>((()),(x,()))))
def atG:=(lc (qp 0 0) (lc (ql 166) (aU ln)))
def as2:=(sb 0 256 (lg 256) sn)
def avd(M:(af aB)->Int->bq->aa tT):bu->bu:=eY vp 207 1 atG as2 d207 (λg=>M g.1.2.1 g.1.2.2.1 g.2.1)
def anl(M:(af aB)->Int->bq->aa tT):Prop:=HY vp 207 1 atG as2 d207 (λg=>M g.1.2.1 g.1.2.2.1 g.2.1)
def Yq{M:(af aB)->Int->bq->aa tT}(hM:anl M){F:bu}(h:bE vp F):bE vp (avd M F):=DB hM ⟨_,func207,aY,aY⟩ (λ_=>aY) h
def au0(M207:(af aB)->Int->bq->aa tT):bu:=(awq (ajF (avd M207 dA)))
def agR{M207}(h207:anl M207):bE vp (au0 M207):=(Xy (KA (Yq h207 aV)))
structure Ck where
 t2:Int
 t8:List aB
 (t9 t10:Int)
 b0:bq
def TV:Td 1 Ck:= .c [] [0,2,8,9,10] (.r 1 1 (ec 0 (qp 0 0) (ec 2 aP (ec 8 (ql 166) (ec 9 aP (ec 10 aP en))))) (sb 0 256 (lg 256) sn) (λz=>⟨z.1.2.1,z.1.t.1,z.1.t.2.1,z.1.q.1,z.2.1⟩) (λx=>(((),x.t2,x.t8,x.t9,x.t10,()),(x.b0,()))))
def Gv(M207:(af aB)->Int->bq->aa tT)(p:Ck):aa (aa Ck):=
 bif vn (p.t10<p.t9)then if 0<=p.t10/\p.t10<zY p.t8 then bif p.b0.fL then bif(kO (bq.mk (ak (p.b0.bH+1)) J)).fst then V (G)else match Na (az.mk p.t8[zq p.t10]!.aF.bF p.t8[zq p.t10]!.aF.fN p.t8[zq p.t10]!.aF.aq) 1 (kO (bq.mk (ak (p.b0.bH+1)) J)).snd with|G=>G|V r1=>match M207 p.t8[zq p.t10]!.aQ (ak (p.t2+1)) r1 with|G=>G|V r2=>match M207 p.t8[zq p.t10]!.aX (ak (p.t2+1)) r2 with|G=>G|V r3=>V (V (Ck.mk p.t2 p.t8 p.t9 (ak (p.t10+1)) r3))else bif(kO (bq.mk (ak (p.b0.bH+1)) (vn (12<(((),p.t2,p.t8,p.t9,p.t10,()),p.b0,()).fst.snd.fst)))).fst then V (G)else match Na (az.mk p.t8[zq p.t10]!.aF.bF p.t8[zq p.t10]!.aF.fN p.t8[zq p.t10]!.aF.aq) 1 (kO (bq.mk (ak (p.b0.bH+1)) (vn (12<(((),p.t2,p.t8,p.t9,p.t10,()),p.b0,()).fst.snd.fst)))).snd with|G=>G|V r4=>match M207 p.t8[zq p.t10]!.aQ (ak (p.t2+1)) r4 with|G=>G|V r5=>match M207 p.t8[zq p.t10]!.aX (ak (p.t2+1)) r5 with|G=>G|V r6=>V (V (Ck.mk p.t2 p.t8 p.t9 (ak (p.t10+1)) r6))else G else V (G)
def Lm(M207:(af aB)->Int->bq->aa tT):=bI (Gv M207)
def aqB(M207:(af aB)->Int->bq->aa tT):An:=(noTwo (TV.lp (Lm M207) .no))
def az4(M207:(af aB)->Int->bq->aa tT):gv vp (au0 M207) 1 300 207 (aqB M207):=cH (l:=[(bk f207 0,(TV.lp (Lm M207) .no))]) func207 (bT aY) aY (aA (aO TV) aH)
def akX(M207:(af aB)->Int->bq->aa tT)(a1:af aB)(a2:Int)(b0:bq):aa tT:=
 match Lm M207 (Ck.mk a2 a1 (zY a1) 0 b0)with|G=>G|V r7=>bif vn (r7.t10<r7.t9)then if 0<=r7.t10/\r7.t10<zY r7.t8 then bif r7.b0.fL then bif(kO (bq.mk (ak (r7.b0.bH+1)) J)).fst then V ((kO (bq.mk (ak (r7.b0.bH+1)) J)).snd)else match Na (az.mk r7.t8[zq r7.t10]!.aF.bF r7.t8[zq r7.t10]!.aF.fN r7.t8[zq r7.t10]!.aF.aq) 1 (kO (bq.mk (ak (r7.b0.bH+1)) J)).snd with|G=>G|V r8=>match M207 r7.t8[zq r7.t10]!.aQ (ak (r7.t2+1)) r8 with|G=>G|V r9=>match M207 r7.t8[zq r7.t10]!.aX (ak (r7.t2+1)) r9 with|G=>G|V r10=>G else bif(kO (bq.mk (ak (r7.b0.bH+1)) (vn (12<(((),r7.t2,r7.t8,r7.t9,r7.t10,()),r7.b0,()).fst.snd.fst)))).fst then V ((kO (bq.mk (ak (r7.b0.bH+1)) (vn (12<(((),r7.t2,r7.t8,r7.t9,r7.t10,()),r7.b0,()).fst.snd.fst)))).snd)else match Na (az.mk r7.t8[zq r7.t10]!.aF.bF r7.t8[zq r7.t10]!.aF.fN r7.t8[zq r7.t10]!.aF.aq) 1 (kO (bq.mk (ak (r7.b0.bH+1)) (vn (12<(((),r7.t2,r7.t8,r7.t9,r7.t10,()),r7.b0,()).fst.snd.fst)))).snd with|G=>G|V r11=>match M207 r7.t8[zq r7.t10]!.aQ (ak (r7.t2+1)) r11 with|G=>G|V r12=>match M207 r7.t8[zq r7.t10]!.aX (ak (r7.t2+1)) r12 with|G=>G|V r13=>G else G else V (r7.b0)
def aG0(M207:(af aB)->Int->bq->aa tT)(a1:af aB)(a2:Int)(b0:bq):bZ vp (au0 M207) 300 (aqB M207) 207 (atG.c ((),a1,a2,())) (as2.d (b0,())) 1 d207.rd=akX M207 a1 a2 b0:=aY
def aqb:Nat->((af aB)->Int->bq->aa tT)
 |0=>(λ_ _ _=>G)
 |n+1=>(akX (aqb n))
def TO(n:Nat):(af aB)->Int->bq->aa tT:=(aqb n)
def Pm:∀n,anl (TO n)
 |0=>λ_ _ h=>(by cases h)
 |n+1=>by
  have ih:=Pm n;have i207:=ih;exact(Wk (agR i207) (az4 (TO n)) (λ_=>aY) (λ_=>aY) (λ_=>aY) λg=>aG0 (TO n) g.1.2.1 g.1.2.2.1 g.2.1)
def ad8:(af aB)->Int->bq->aa tT:=λa1 a2 b0=>lim (λn=>TO n a1 a2 b0)
def anx:anl ad8:=λg b h=>by
 obtain⟨n,hn⟩:=dz (show lim (λn=>TO n g.1.2.1 g.1.2.2.1 g.2.1)=V b from h);exact(Pm n) g b hn
def aAz(F:bu):bu:=avd ad8 F
def ahW{F:bu}(h:bE vp F):bE vp (aAz F):=Yq anx h
abbrev aAa:=Bool
def d260:Td 0 aAa:= .c [] [3] (.r 0 0 (ec 3 qb en) sn (λz=>z.1.1) (λx=>((x,()),(()))))
def ajx(a0:bh)(c0:bh):aAa:=
 a0.fName.toList==c0.fName.toList
def aHK:=eL vp 260 O (lc (qg 131) (lc (qr (lg 131)) ln)) d260 (λg=>V (ajx g.1 g.2.1))
def YC:EO aHK:=λh=>kL (an:= .no) func260 aV aH h
def azQ:bu:=dA
structure vz where
 t0:ByteArray
 (t14 t15:Int)
def SY:Td 0 vz:= .c [] [0,14,15] (.r 0 0 (ec 0 qs (ec 14 aP (ec 15 aP en))) sn (λz=>⟨z.1.1,z.1.2.1,z.1.t.1⟩) (λx=>((x.t0,x.t14,x.t15,()),(()))))
def Ib{α:Type}(p:vz)(go:vz->aa α)(e1 e2:aa α):aa α:=
 bif vn (p.t15<p.t14)then if 0<=p.t15/\p.t15<p.t0.size then match (bif vn (97<=di p.t0 p.t15.toNat)then V (vn (di p.t0 p.t15.toNat<=122))else V O)with|G=>G|V r1=>match (bif bif r1 then O else J then bif vn (p.t15=0)then V J else bif vn (di p.t0 p.t15.toNat<48)then bif bif vn (di p.t0 p.t15.toNat=46)then O else J then V (bif vn (di p.t0 p.t15.toNat=95)then O else J)else V O else bif vn (57<di p.t0 p.t15.toNat)then bif bif vn (di p.t0 p.t15.toNat=46)then O else J then V (bif vn (di p.t0 p.t15.toNat=95)then O else J)else V O else V O else V O)with|G=>G|V r2=>bif r2 then e1 else go (vz.mk p.t0 p.t14 (ak (p.t15+1)))else G else e2
def MO(p:vz):aa (aa vz):=
 Ib p (λs=>V (V s)) (V G) (V G)
def abi:An:=(noTwo (noTwo (.two (noTwo (noTwo (.two (.rb [] 5) (.two (.rb [] 48) .no)))) .no)))
def Nd:=bI (MO)
abbrev aAZ:=Bool
def d261:Td 0 aAZ:= .c [] [2] (.r 0 0 (ec 2 qb en) sn (λz=>z.1.1) (λx=>((x,()),(()))))
def agh:∀f∈([]:af Nat),bA (azQ) f:=aH
def Zm(a0:ByteArray):aa aAZ:=
 match (bif a0.toList==(ByteArray.mk (Array.mk [])).toList then V J else V (vn (40<(a0.size:Int))))with|G=>G|V r3=>bif r3 then V O else match Nd (vz.mk a0 a0.size 0)with|G=>G|V r4=>Ib r4 (λ_=>G) (V O) (V J)
def aw5:=eL vp 261 O (lc qs ln) d261 (λg=>Zm g.1)
def WR:EO aw5:=λh=>kL (F:=azQ) (an:=(noTwo (.two (.two (.rb [] 12) .no) (.two (noTwo (SY.lp Nd abi)) .no)))) (l:=[(.skip,(.rb [] 12)),(bk f261 0,(SY.lp Nd abi)),(.skip,(.rb [] 5)),(.skip,(.rb [] 48))]) func261 aV (aA agh (aA (aO SY) (aA agh (aA agh aH)))) h
structure u7 where
 t0:List bh
 uY:ByteArray
 (vG uH vB vL t7 t8:Int)
def Ts:Td 0 u7:= .c [] [0,1,7,8] (.r 0 0 (ec 0 (ql 131) (ec 1 (qf 260 (lc (qr (lc qs (aU (aU (aU (aU ln)))))) ln)) (ec 7 aP (ec 8 aP en)))) sn (λz=>⟨z.1.1,z.1.2.1.1.1,z.1.2.1.1.2.1,z.1.2.1.1.t.1,z.1.2.1.1.t.2.1,z.1.2.1.1.q.1,z.1.t.1,z.1.t.2.1⟩) (λx=>((x.t0,((x.uY,x.vG,x.uH,x.vB,x.vL,()),()),x.t7,x.t8,()),(()))))
def Hy{α:Type}(p:u7)(go:u7->aa α)(e1 e2:aa α):aa α:=
 bif vn (p.t8<p.t7)then if 0<=p.t8/\p.t8<zY p.t0 then bif ajx p.t0[zq p.t8]! (bh.mk p.uY p.vG p.uH p.vB p.vL)then e1 else go (u7.mk p.t0 p.uY p.vG p.uH p.vB p.vL p.t7 (ak (p.t8+1)))else G else e2
def LI(p:u7):aa (aa u7):=
 Hy p (λs=>V (V s)) (V G) (V G)
def MP:=bI (LI)
abbrev azS:=Int
def d303:Td 0 azS:= .c [] [4] (.r 0 0 (ec 4 aP en) sn (λz=>z.1.1) (λx=>((x,()),(()))))
def avl(a0:af bh)(a1_0:bh):aa azS:=
 match MP (u7.mk a0 a1_0.fName a1_0.bS a1_0.ah a1_0.ag a1_0.gD (zY a0) 0)with|G=>G|V r1=>Hy r1 (λ_=>G) (V (r1.t8)) (V (-1))
def aFK:=eL vp 303 J (lc (ql 131) (lc (qf 260 (lc (qr (lg 131)) ln)) ln)) d303 (λg=>avl g.1 g.2.1.1)
def ajg:EO aFK:=λh=>kL (an:=(noTwo (.two (noTwo (Ts.lp MP .no)) .no))) (l:=[(bk f303 0,(Ts.lp MP .no))]) func303 (YC aV) (aA (aO Ts) aH) h
abbrev aDA:=Bool
def d262:Td 0 aDA:= .c [] [4] (.r 0 0 (ec 4 qb en) sn (λz=>z.1.1) (λx=>((x,()),(()))))
def akE(a0:af bh)(a1_0:bh):aa aDA:=
 match avl a0 a1_0 with|G=>G|V r1=>V (vn (0<=r1))
def aDf:=eL vp 262 J (lc (ql 131) (lc (qf 260 (lc (qr (lg 131)) ln)) ln)) d262 (λg=>akE g.1 g.2.1.1)
def ans:EO aDf:=λh=>kL (an:= .no) func262 (ajg (YC aV)) aH h
def aq5:bu:=dA
abbrev ar0:=Bool
def d263:Td 0 ar0:= .c [] [4] (.r 0 0 (ec 4 qb en) sn (λz=>z.1.1) (λx=>((x,()),(()))))
def aBv:=(aU (aU ln))
def aqz:An:=(noTwo (.two (.rb [] 4) .no))
def aAY:∀f∈([]:af Nat),bA (aq5) f:=aH
def PI(a0:Int)(a1:Int):ar0:=
 let r1:Bool:=bif vn (a0<=a1)then bif vn (-1048576<=a0)then vn (a1<=1048576)else O else O;r1
def aFl(a0:Int)(a1:Int):bZ vp (aq5) 300 (aqz) 263 (aBv.c (a0,a1,())) [] 0 d263.rd=V (PI a0 a1):=by
 refine Eq.trans (b:=(
  match bif vn (a0<=a1)then bif vn (-1048576<=a0)then V (vn (a1<=1048576))else V (O)else V (O)with|G=>G|V r1=>V (r1):aa ar0)) aY ?_
 simp only[PI,cn,cO]
def aBh:=eL vp 263 O aBv d263 (λg=>V (PI g.1 g.2.1))
def Xa:EO aBh:=λh=>kL (F:=aq5) (an:=aqz) (l:=[(.skip,(.rb [] 4))]) func263 aV (aA aAY aH) h (c:=λg=>aFl g.1 g.2.1)
abbrev aw4:=Int
def d337:Td 0 aw4:= .c [] [2] (.r 0 0 (ec 2 aP en) sn (λz=>z.1.1) (λx=>((x,()),(()))))
def aaf(a0:bh):aw4:=
 ak (ak (a0.ag-a0.ah)+1)
def aCh:=eL vp 337 O (lc (qg 131) ln) d337 (λg=>V (aaf g.1))
def aj9:EO aCh:=λh=>kL (an:= .no) func337 aV aH h
def ay3:bu:=(aCh dA)
structure nw where
 t7:List bh
 t10:Int
 t49:List bh
 (t50 t51:Int)
def Ui:Td 0 nw:= .c [] [7,10,49,50,51] (.r 0 1 (ec 7 (qo 0) (ec 10 aP (ec 49 (qo 0) (ec 50 aP (ec 51 aP en))))) (sr 0 131 sn) (λz=>⟨z.2.1,z.1.2.1,z.2.1,z.1.t.2.1,z.1.q.1⟩) (λx=>(((),x.t10,(),x.t50,x.t51,()),(x.t49,()))))
def sD{α:Type}(p:nw)(go:nw->aa α)(e1 e2:aa α):aa α:=
 bif vn (p.t51<p.t50)then if 0<=p.t51/\p.t51<zY p.t49 then if 131=131/\zq p.t51<zY p.t49 then bif vn (4096<ak (p.t10*aaf p.t49[zq p.t51]!))then e1 else go (nw.mk p.t49 (ak (p.t10*aaf p.t49[zq p.t51]!)) p.t49 p.t50 (ak (p.t51+1)))else G else G else e2
def LM(p:nw):aa (aa nw):=
 sD p (λs=>V (V s)) (V G) (V G)
def uD:=bI (LM)
structure mz where
 t1:Int
 (t7 t19:List bh)
 (t20 t21:Int)
def Sr:Td 0 mz:= .c [] [1,7,19,20,21] (.t (b6.s 7 [] 131) (.c [] [1,7,19,20,21] (.r 0 1 (ec 1 aP (ec 7 (qo 0) (ec 19 (ql 131) (ec 20 aP (ec 21 aP en))))) (sr 0 131 sn) (λz=>⟨z.1.1,z.2.1,z.1.t.1,z.1.t.2.1,z.1.q.1⟩) (λx=>((x.t1,(),x.t19,x.t20,x.t21,()),(x.t7,()))))))
def pJ{α:Type}(p:mz)(go:mz->aa α)(e1 e2:aa α):aa α:=
 bif vn (p.t21<p.t20)then if 0<=p.t21/\p.t21<zY p.t19 then bif bif vn (p.t19[zq p.t21]!.bS=p.t1)then O else J then go (mz.mk p.t1 p.t7 p.t19 p.t20 (ak (p.t21+1)))else match (bif vn (p.t19[zq p.t21]!.ag<p.t19[zq p.t21]!.ah)then V J else bif vn (p.t19[zq p.t21]!.ah< -1048576)then V J else V (vn (1048576<p.t19[zq p.t21]!.ag)))with|G=>G|V r1=>bif r1 then e1 else if(p.t7++[p.t19[zq p.t21]!]).length<=1073741824 then go (mz.mk p.t1 (p.t7++[p.t19[zq p.t21]!]) p.t19 p.t20 (ak (p.t21+1)))else G else G else e2
def GB(p:mz):aa (aa mz):=
 pJ p (λs=>V (V s)) (V G) (V G)
def adO:An:=(noTwo (noTwo (.two (noTwo (noTwo (.two (.two (.rb [] 43) .no) .no))) .no)))
def vK:=bI (GB)
abbrev azn:=(af bh)×Int×Int
def d304:Td 0 azn:= .c [] [4,5,6] (.t (b6.s 4 [] 131) (.c [] [4,5,6] (.r 0 1 (ec 4 (qo 0) (ec 5 aP (ec 6 aP en))) (sr 0 131 sn) (λz=>(z.2.1,z.1.2.1,z.1.t.1)) (λx=>(((),x.2.1,x.t,()),(x.1,()))))))
def aAF:∀f∈([]:af Nat),bA (ay3) f:=aH
def arX(a0:af bh)(a1:Int):aa azn:=
 bif vn (a1=0)then match vK (mz.mk a1 [] a0 (zY a0) 0)with|G=>G|V r2=>pJ r2 (λ_=>G) (V ([],0,3)) (match uD (nw.mk r2.t7 1 r2.t7 (zY r2.t7) 0)with|G=>G|V r4=>sD r4 (λ_=>G) (V ([],0,4)) (V (r4.t49,r4.t10,0)))else bif vn (a1=1)then match vK (mz.mk a1 [] a0 (zY a0) 0)with|G=>G|V r5=>pJ r5 (λ_=>G) (V ([],0,3)) (match uD (nw.mk r5.t7 1 r5.t7 (zY r5.t7) 0)with|G=>G|V r7=>sD r7 (λ_=>G) (V ([],0,4)) (V (r7.t49,r7.t10,0)))else bif vn (a1=2)then match vK (mz.mk a1 [] a0 (zY a0) 0)with|G=>G|V r8=>pJ r8 (λ_=>G) (V ([],0,3)) (match uD (nw.mk r8.t7 1 r8.t7 (zY r8.t7) 0)with|G=>G|V r10=>sD r10 (λ_=>G) (V ([],0,4)) (V (r10.t49,r10.t10,0)))else bif vn (a1=3)then match vK (mz.mk a1 [] a0 (zY a0) 0)with|G=>G|V r11=>pJ r11 (λ_=>G) (V ([],0,3)) (match uD (nw.mk r11.t7 1 r11.t7 (zY r11.t7) 0)with|G=>G|V r13=>sD r13 (λ_=>G) (V ([],0,4)) (V (r13.t49,r13.t10,0)))else V ([],0,1)
def aId:=eL vp 304 O (lc (ql 131) (aU ln)) d304 (λg=>arX g.1 g.2.1)
def agy:EO aId:=λh=>kL (F:=ay3) (an:=(noTwo (noTwo (noTwo (.two (noTwo (Sr.lp vK adO)) (noTwo (.two (noTwo (Ui.lp uD .no)) .no))))))) (l:=[(bk f304 0,(Sr.lp vK adO)),(.skip,(.rb [] 43)),(bk f304 1,(Ui.lp uD .no))]) func304 (aj9 aV) (aA (aO Sr) (aA aAF (aA (aO Ui) aH))) h
abbrev aCB:=Int×Int
def d264:Td 0 aCB:= .c [] [4,5] (.r 0 0 (ec 4 aP (ec 5 aP en)) sn (λz=>(z.1.1,z.1.2.1)) (λx=>((x.1,x.2,()),(()))))
def anq(a0:af bh)(a1:Int):aa aCB:=
 match arX a0 a1 with|G=>G|V r1=>V (r1.snd)
def axf:=eL vp 264 O (lc (ql 131) (aU ln)) d264 (λg=>anq g.1 g.2.1)
def alV:EO axf:=λh=>kL (an:= .no) func264 (agy aV) aH h
def aAH:bu:=(axf (aBh (aDf (aw5 dA))))
structure uZ where
 t0:List bh
 t71:List Int
 (t72 t73:Int)
def TD:Td 0 uZ:= .c [] [0,71,72,73] (.r 0 1 (ec 0 (ql 131) (ec 71 (qo 0) (ec 72 aP (ec 73 aP en)))) (sr 0 129 sn) (λz=>⟨z.1.1,z.2.1,z.1.t.1,z.1.t.2.1⟩) (λx=>((x.t0,(),x.t72,x.t73,()),(x.t71,()))))
def vT{α:Type}(p:uZ)(go:uZ->aa α)(e1 e2:aa α):aa α:=
 bif vn (p.t73<p.t72)then if 0<=p.t73/\p.t73<zY p.t71 then if 129=129/\zq p.t73<zY p.t71 then match anq p.t0 p.t71[zq p.t73]! with|G=>G|V r6=>match (bif bif vn (r6.snd=0)then O else J then V J else bif vn (((p.t0,(),p.t72,p.t73,()),p.t71,()).snd.fst[((p.t0,(),p.t72,p.t73,()),p.t71,()).fst.snd.snd.snd.fst.toNat]! =3)then V (vn (256<r6.fst))else V O)with|G=>G|V r7=>bif r7 then e1 else go (uZ.mk p.t0 p.t71 p.t72 (ak (p.t73+1)))else G else G else e2
def rX(p:uZ):aa (aa uZ):=
 vT p (λs=>V (V s)) (V G) (V G)
def aeS:An:=(noTwo (noTwo (.two (noTwo (noTwo (.two (.rb [] 92) .no))) .no)))
def sB:=bI (rX)
structure vW where
 (t0 t10:List bh)
 (t11 t12:Int)
def Sn:Td 0 vW:= .c [] [0,10,11,12] (.r 0 0 (ec 0 (ql 131) (ec 10 (ql 131) (ec 11 aP (ec 12 aP en)))) sn (λz=>⟨z.1.1,z.1.2.1,z.1.t.1,z.1.t.2.1⟩) (λx=>((x.t0,x.t10,x.t11,x.t12,()),(()))))
def GY{α:Type}(p:vW)(go:vW->aa α)(e1 e2 e3 e4 e5:aa α):aa α:=
 bif vn (p.t12<p.t11)then if 0<=p.t12/\p.t12<zY p.t10 then match Zm p.t10[zq p.t12]!.fName with|G=>G|V r1=>bif bif r1 then O else J then e1 else if 0<=p.t12/\p.t12<=zY p.t0 then match akE (List.take p.t12.toNat p.t0) p.t10[zq p.t12]! with|G=>G|V r2=>bif r2 then e2 else match (bif vn (p.t10[zq p.t12]!.bS<0)then V J else V (vn (3<p.t10[zq p.t12]!.bS)))with|G=>G|V r3=>bif r3 then e3 else bif bif PI p.t10[zq p.t12]!.ah p.t10[zq p.t12]!.ag then O else J then e4 else match (bif bif vn (p.t10[zq p.t12]!.bS=0)then O else J then V (bif vn (p.t10[zq p.t12]!.gD=0)then O else J)else V O)with|G=>G|V r4=>bif r4 then e4 else match (bif vn (p.t10[zq p.t12]!.bS=0)then bif vn (p.t10[zq p.t12]!.gD<p.t10[zq p.t12]!.ah)then V J else V (vn (p.t10[zq p.t12]!.ag<p.t10[zq p.t12]!.gD))else V O)with|G=>G|V r5=>bif r5 then e4 else go (vW.mk p.t0 p.t10 p.t11 (ak (p.t12+1)))else G else G else e5
def Cv(p:vW):aa (aa vW):=
 GY p (λs=>V (V s)) (V G) (V G) (V G) (V G) (V G)
def ac7:An:=(noTwo (noTwo (.two (noTwo (noTwo (noTwo (noTwo (noTwo (noTwo (.two (.rb [] 29) (noTwo (.two (noTwo (noTwo (.two (.rb [] 38) (noTwo (.rb [] 38))))) .no))))))))) .no)))
def Nq:=bI (Cv)
abbrev aCC:=Int
def d210:Td 0 aCC:= .c [] [2] (.r 0 0 (ec 2 aP en) sn (λz=>z.1.1) (λx=>((x,()),(()))))
def VF:∀f∈([]:af Nat),bA (aAH) f:=aH
def ajD(a0:af bh):aa aCC:=
 match Nq (vW.mk a0 a0 (zY a0) 0)with|G=>G|V r8=>GY r8 (λ_=>G) (V 7) (V 8) (V 1) (V 3) (match sB (uZ.mk r8.t0 [1,2,3] (3:Int) 0)with|G=>G|V r14=>vT r14 (λ_=>G) (V 4) (V 0))
def az1:=eL vp 210 O (lc (ql 131) ln) d210 (λg=>ajD g.1)
def ajo:EO az1:=λh=>kL (F:=aAH) (an:=(noTwo (.two (noTwo (Sn.lp Nq ac7)) (.two (noTwo (TD.lp sB aeS)) .no)))) (l:=[(bk f210 0,(Sn.lp Nq ac7)),(.skip,(.rb [] 29)),(.skip,(.rb [] 38)),(.skip,(.rb [] 38)),(bk f210 1,(TD.lp sB aeS)),(.skip,(.rb [] 92))]) func210 (alV (Xa (ans (WR aV)))) (aA (aO Sn) (aA VF (aA VF (aA VF (aA (aO TD) (aA VF aH)))))) h
abbrev ayp:=Bool
def d265:Td 0 ayp:= .c [] [3] (.r 0 0 (ec 3 qb en) sn (λz=>z.1.1) (λx=>((x,()),(()))))
def ak8(a0:dN)(c0:dN):ayp:=
 a0.fName.toList==c0.fName.toList
def aHx:=eL vp 265 O (lc (qg 139) (lc (qr (lg 139)) ln)) d265 (λg=>V (ak8 g.1 g.2.1))
def V1:EO aHx:=λh=>kL (an:= .no) func265 aV aH h
structure vD where
 t0:List dN
 uY:ByteArray
 (vG uH vB vL:Int)
 SA:List az
 (t7 t8:Int)
def UZ:Td 0 vD:= .c [] [0,1,7,8] (.r 0 0 (ec 0 (ql 139) (ec 1 (qf 265 (lc (qr (lc qs (aU (aU (aU (aU (lc (ql 137) ln))))))) ln)) (ec 7 aP (ec 8 aP en)))) sn (λz=>⟨z.1.1,z.1.2.1.1.1,z.1.2.1.1.2.1,z.1.2.1.1.t.1,z.1.2.1.1.t.2.1,z.1.2.1.1.q.1,z.1.2.1.1.q.2.1,z.1.t.1,z.1.t.2.1⟩) (λx=>((x.t0,((x.uY,x.vG,x.uH,x.vB,x.vL,x.SA,()),()),x.t7,x.t8,()),(()))))
def Fv{α:Type}(p:vD)(go:vD->aa α)(e1 e2:aa α):aa α:=
 bif vn (p.t8<p.t7)then if 0<=p.t8/\p.t8<zY p.t0 then bif ak8 (dN.mk p.t0[zq p.t8]!.fName p.t0[zq p.t8]!.ah p.t0[zq p.t8]!.ag (az.mk p.t0[zq p.t8]!.aF.bF p.t0[zq p.t8]!.aF.fN p.t0[zq p.t8]!.aF.aq)) (dN.mk p.uY p.vG p.uH (az.mk p.vB p.vL p.SA))then e1 else go (vD.mk p.t0 p.uY p.vG p.uH p.vB p.vL p.SA p.t7 (ak (p.t8+1)))else G else e2
def Md(p:vD):aa (aa vD):=
 Fv p (λs=>V (V s)) (V G) (V G)
def Nu:=bI (Md)
abbrev aB1:=Int
def d305:Td 0 aB1:= .c [] [4] (.r 0 0 (ec 4 aP en) sn (λz=>z.1.1) (λx=>((x,()),(()))))
def avV(a0:af dN)(a1_0:dN):aa aB1:=
 match Nu (vD.mk a0 a1_0.fName a1_0.ah a1_0.ag a1_0.aF.bF a1_0.aF.fN a1_0.aF.aq (zY a0) 0)with|G=>G|V r1=>Fv r1 (λ_=>G) (V (r1.t8)) (V (-1))
def aGw:=eL vp 305 J (lc (ql 139) (lc (qf 265 (lc (qr (lg 139)) ln)) ln)) d305 (λg=>avV g.1 g.2.1.1)
def anf:EO aGw:=λh=>kL (an:=(noTwo (.two (noTwo (UZ.lp Nu .no)) .no))) (l:=[(bk f305 0,(UZ.lp Nu .no))]) func305 (V1 aV) (aA (aO UZ) aH) h
abbrev aBr:=Bool
def d266:Td 0 aBr:= .c [] [4] (.r 0 0 (ec 4 qb en) sn (λz=>z.1.1) (λx=>((x,()),(()))))
def aeK(a0:af dN)(a1_0:dN):aa aBr:=
 match avV a0 (dN.mk a1_0.fName a1_0.ah a1_0.ag (az.mk a1_0.aF.bF a1_0.aF.fN a1_0.aF.aq))with|G=>G|V r1=>V (vn (0<=r1))
def aEE:=eL vp 266 J (lc (ql 139) (lc (qf 265 (lc (qr (lg 139)) ln)) ln)) d266 (λg=>aeK g.1 g.2.1.1)
def ai8:EO aEE:=λh=>kL (an:= .no) func266 (anf (V1 aV)) aH h
def atx:bu:=dA
abbrev atH:=Int×Int
def d338:Td 0 atH:= .c [] [2,3] (.r 0 0 (ec 2 aP (ec 3 aP en)) sn (λz=>(z.1.1,z.1.2.1)) (λx=>((x.1,x.2,()),(()))))
def ayM:=(aU ln)
def aqk:An:=(noTwo (.two (.two (.rb [] 4) (noTwo (.two (.rb [] 11) (noTwo (.two (.rb [] 18) .no))))) .no))
def acY:∀f∈([]:af Nat),bA (atx) f:=aH
def O7(a0:Int):atH:=
 let r1:Bool:=bif vn (a0=0)then J else vn (a0=24);bif r1 then(0,0)else let r2:Bool:=bif vn (a0=6)then J else vn (a0=7);bif r2 then(1,1)else let r3:Bool:=bif vn (8<=a0)then vn (a0<=22)else O;bif r3 then(2,2)else bif vn (a0=23)then(3,3)else bif vn (a0=25)then(2,33)else(-1,-1)
def aG8(a0:Int):bZ vp (atx) 300 (aqk) 338 (ayM.c (a0,())) [] 0 d338.rd=V (O7 a0):=by
 refine Eq.trans (b:=(
  match bif vn (a0=0)then V (J)else V (vn (a0=24))with|G=>G|V r1=>bif r1 then V ((0,0))else match bif vn (a0=6)then V (J)else V (vn (a0=7))with|G=>G|V r2=>bif r2 then V ((1,1))else match bif vn (8<=a0)then V (vn (a0<=22))else V (O)with|G=>G|V r3=>bif r3 then V ((2,2))else bif vn (a0=23)then V ((3,3))else bif vn (a0=25)then V ((2,33))else V ((-1,-1)):aa atH)) aY ?_
 simp only[O7,cn,cO]
def aw8:=eL vp 338 O ayM d338 (λg=>V (O7 g.1))
def alv:EO aw8:=λh=>kL (F:=atx) (an:=aqk) (l:=[(.skip,(.rb [] 4)),(.skip,(.rb [] 11)),(.skip,(.rb [] 18))]) func338 aV (aA acY (aA acY (aA acY aH))) h (c:=λg=>aG8 g.1)
abbrev tQ:=Bool
def d306:Td 0 tQ:= .c [] [6] (.r 0 0 (ec 6 qb en) sn (λz=>z.1.1) (λx=>((x,()),(()))))
def atS:=(lc (ql 131) (lc (qg 137) (lc qb ln)))
def awm(M:(af bh)->az->Bool->aa tQ):bu->bu:=eL vp 306 O atS d306 (λg=>M g.1 g.2.1 g.2.2.1)
def akG(M:(af bh)->az->Bool->aa tQ):Prop:=HL vp 306 atS d306 (λg=>M g.1 g.2.1 g.2.2.1)
def Xf{M:(af bh)->az->Bool->aa tQ}(hM:akG M){F:bu}(h:bE vp F):bE vp (awm M F):=gj (sc:=A9) ei hM ⟨_,func306,aY,aY⟩ (λ_=>aY) (λ_=>aY) h
def agZ(M306:(af bh)->az->Bool->aa tQ):bu:=(aw8 (awm M306 dA))
def alk{M306}(h306:akG M306):bE vp (agZ M306):=(alv (Xf h306 aV))
structure uQ where
 t0:List bh
 t2:Bool
 t65:List az
 (t66 t67:Int)
def U4:Td 0 uQ:= .c [] [0,2,65,66,67] (.r 0 0 (ec 0 (ql 131) (ec 2 qb (ec 65 (ql 137) (ec 66 aP (ec 67 aP en))))) sn (λz=>⟨z.1.1,z.1.2.1,z.1.t.1,z.1.t.2.1,z.1.q.1⟩) (λx=>((x.t0,x.t2,x.t65,x.t66,x.t67,()),(()))))
def KI(M306:(af bh)->az->Bool->aa tQ)(p:uQ):aa (aa uQ):=
 bif vn (p.t67<p.t66)then if 0<=p.t67/\p.t67<zY p.t65 then match M306 p.t0 (az.mk p.t65[zq p.t67]!.bF p.t65[zq p.t67]!.fN p.t65[zq p.t67]!.aq) p.t2 with|G=>G|V r1=>bif bif r1 then O else J then V (G)else V (V (uQ.mk p.t0 p.t2 p.t65 p.t66 (ak (p.t67+1))))else G else V (G)
def Cz(M306:(af bh)->az->Bool->aa tQ):=bI (KI M306)
def aqD(M306:(af bh)->az->Bool->aa tQ):An:=(noTwo (noTwo (.two (.two (.rb [] 32) .no) (.two (noTwo (noTwo (noTwo (noTwo (.two (.two (.rb [] 63) .no) .no))))) (.two (noTwo (U4.lp (Cz M306) .no)) .no)))))
def api{M306}:∀f∈([]:af Nat),bA (agZ M306) f:=aH
def aCy(M306:(af bh)->az->Bool->aa tQ):gv vp (agZ M306) 0 300 306 (aqD M306):=cH (l:=[(.skip,(.rb [] 32)),(.skip,(.rb [] 63)),(bk f306 0,(U4.lp (Cz M306) .no))]) func306 (bT aY) aY (aA api (aA api (aA (aO U4) aH)))
def aiB(M306:(af bh)->az->Bool->aa tQ)(a0:af bh)(a1:az)(a2:Bool):aa tQ:=
 match bif vn ((O7 a1.bF).fst<0)then V J else bif vn ((zY a1.aq:Int)<(O7 a1.bF).fst)then V J else V (vn ((O7 a1.bF).snd<zY a1.aq))with|G=>G|V r2=>bif r2 then V O else bif vn (a1.bF=0)then match Cz M306 (uQ.mk a0 a2 a1.aq (zY a1.aq) 0)with|G=>G|V r3=>bif vn (r3.t67<r3.t66)then if 0<=r3.t67/\r3.t67<zY r3.t65 then match M306 r3.t0 (az.mk r3.t65[zq r3.t67]!.bF r3.t65[zq r3.t67]!.fN r3.t65[zq r3.t67]!.aq) r3.t2 with|G=>G|V r4=>bif bif r4 then O else J then V O else G else G else V J else bif vn (a1.bF=24)then match bif vn (a1.fN<0)then V J else bif vn (zY a0<=a1.fN)then V J else bif a2 then if 0<=a1.fN/\a1.fN<zY a0 then V (vn (a0[a1.fN.toNat]!.bS=0))else G else V O with|G=>G|V r5=>bif r5 then V O else match Cz M306 (uQ.mk a0 a2 a1.aq (zY a1.aq) 0)with|G=>G|V r6=>bif vn (r6.t67<r6.t66)then if 0<=r6.t67/\r6.t67<zY r6.t65 then match M306 r6.t0 (az.mk r6.t65[zq r6.t67]!.bF r6.t65[zq r6.t67]!.fN r6.t65[zq r6.t67]!.aq) r6.t2 with|G=>G|V r7=>bif bif r7 then O else J then V O else G else G else V J else bif bif vn (a1.fN=0)then O else J then V O else match Cz M306 (uQ.mk a0 a2 a1.aq (zY a1.aq) 0)with|G=>G|V r8=>bif vn (r8.t67<r8.t66)then if 0<=r8.t67/\r8.t67<zY r8.t65 then match M306 r8.t0 (az.mk r8.t65[zq r8.t67]!.bF r8.t65[zq r8.t67]!.fN r8.t65[zq r8.t67]!.aq) r8.t2 with|G=>G|V r9=>bif bif r9 then O else J then V O else G else G else V J
def aHh(M306:(af bh)->az->Bool->aa tQ)(a0:af bh)(a1:az)(a2:Bool):bZ vp (agZ M306) 300 (aqD M306) 306 (atS.c (a0,a1,a2,())) [] 0 d306.rd=aiB M306 a0 a1 a2:=aY
def aoN:Nat->((af bh)->az->Bool->aa tQ)
 |0=>(λ_ _ _=>G)
 |n+1=>(aiB (aoN n))
def U6(n:Nat):(af bh)->az->Bool->aa tQ:=(aoN n)
def Qh:∀n,akG (U6 n)
 |0=>λ_ _ h=>(by cases h)
 |n+1=>by
  have ih:=Qh n;have i306:=ih;exact(fe (alk i306) (aCy (U6 n)) (λ_=>aY) (λ_=>aY) λg=>aHh (U6 n) g.1 g.2.1 g.2.2.1)
def ahC:(af bh)->az->Bool->aa tQ:=λa0 a1 a2=>lim (λn=>U6 n a0 a1 a2)
def anZ:akG ahC:=λg b h=>by
 obtain⟨n,hn⟩:=dz (show lim (λn=>U6 n g.1 g.2.1 g.2.2.1)=V b from h);exact(Qh n) g b hn
def aHQ(F:bu):bu:=awm ahC F
def ahF{F:bu}(h:bE vp F):bE vp (aHQ F):=Xf anZ h
abbrev aC0:=Int
def d350:Td 0 aC0:= .c [] [4] (.r 0 0 (ec 4 aP en) sn (λz=>z.1.1) (λx=>((x,()),(()))))
def Cm(a0:Int)(a1:Int):aC0:=
 ak (a0*a1)
def aA0:=eL vp 350 O (aU (aU ln)) d350 (λg=>V (Cm g.1 g.2.1))
def YF:EO aA0:=λh=>kL (an:= .no) func350 aV aH h
def aHD:bu:=dA
abbrev awe:=Span
def d351:Td 0 awe:= .c [] [4] (.r 0 1 (ec 4 (qp 0 0) en) (sb 0 331 (lg 331) sn) (λz=>z.2.1) (λx=>(((),()),(x,()))))
def aCF:=(lc (qg 331) (lc (qg 331) ln))
def apF:An:= .no
def ZA(a0:Span)(a1:Span):awe:=
 Span.mk (if a1.ah<a0.ah then a1.ah else a0.ah) (if a0.ag<a1.ag then a1.ag else a0.ag)
def aF6(a0:Span)(a1:Span):bZ vp (aHD) 300 (apF) 351 (aCF.c (a0,a1,())) [] 0 d351.rd=V (ZA a0 a1):=by
 refine Eq.trans (b:=(
  V (Span.mk (if a1.ah<a0.ah then a1.ah else a0.ah) (if a0.ag<a1.ag then a1.ag else a0.ag)):aa awe)) aY ?_
 simp only[ZA,cn,cO]
def aDd:=eL vp 351 O aCF d351 (λg=>V (ZA g.1 g.2.1))
def Yd:EO aDd:=λh=>kL (an:=apF) func351 aV aH h (c:=λg=>aF6 g.1 g.2.1)
structure uM where
 t38:List Int
 (t39 t40:Int)
 (b0 b1:Span)
def S7:Td 0 uM:= .c [] [6,8,38,39,40] (.r 0 3 (ec 6 (qp 0 0) (ec 8 (qp 1 0) (ec 38 (qo 2) (ec 39 aP (ec 40 aP en))))) (sb 0 331 (lg 331) (sb 1 331 (lg 331) (sr 2 3 sn))) (λz=>⟨z.t.2.1,z.1.t.2.1,z.1.q.1,z.2.1,z.t.1⟩) (λx=>(((),(),(),x.t39,x.t40,()),(x.b0,x.b1,x.t38,()))))
def uX{α:Type}(p:uM)(go:uM->aa α)(e1:aa α):aa α:=
 bif vn (p.t40<p.t39)then if 0<=p.t40/\p.t40<zY p.t38 then if 3=3/\zq p.t40<zY p.t38 then go (uM.mk p.t38 p.t39 (ak (p.t40+1)) p.b0 (ZA p.b1 (Span.mk p.t38[zq p.t40]! p.t38[zq p.t40]!)))else G else G else e1
def rC(p:uM):aa (aa uM):=
 uX p (λs=>V (V s)) (V G)
def Gu:=bI (rC)
abbrev aAk:=Span
def d349:Td 0 aAk:= .c [] [6] (.r 0 1 (ec 6 (qp 0 0) en) (sb 0 331 (lg 331) sn) (λz=>z.2.1) (λx=>(((),()),(x,()))))
def alN(a0:Span)(a1:Span):aa aAk:=
 match Gu (uM.mk [Cm a0.ah a1.ag,Cm a0.ag a1.ah,Cm a0.ag a1.ag] (↑[Cm a0.ah a1.ag,Cm a0.ag a1.ah,Cm a0.ag a1.ag].length:Int) 0 (Span.mk 0 0) (Span.mk (Cm a0.ah a1.ah) (Cm a0.ah a1.ah)))with|G=>G|V r1=>uX r1 (λ_=>G) (V (r1.b1))
def azE:=eL vp 349 O (lc (qg 331) (lc (qg 331) (lc (qf 350 ln) ln))) d349 (λg=>alN g.1 g.2.1)
def aip:EO azE:=λh=>kL (an:=(noTwo (noTwo (noTwo (.two (noTwo (S7.lp Gu .no)) .no))))) (l:=[(bk f349 0,(S7.lp Gu .no))]) func349 (Yd (YF aV)) (aA (aO S7) aH) h
def aCg:bu:=(aDd (aA0 (azE dA)))
structure rA where
 t207:List Span
 (t208 t209:Int)
 (b0 b1:Span)
def Sa:Td 0 rA:= .c [] [6,9,207,208,209] (.r 0 2 (ec 6 (qp 0 0) (ec 9 (qp 1 0) (ec 207 (ql 331) (ec 208 aP (ec 209 aP en))))) (sb 0 331 (lg 331) (sb 1 331 (lg 331) sn)) (λz=>⟨z.1.t.1,z.1.t.2.1,z.1.q.1,z.2.1,z.t.1⟩) (λx=>(((),(),x.t207,x.t208,x.t209,()),(x.b0,x.b1,()))))
def CV{α:Type}(p:rA)(go:rA->aa α)(e1:aa α):aa α:=
 bif vn (p.t209<p.t208)then if 0<=p.t209/\p.t209<zY p.t207 then go (rA.mk p.t207 p.t208 (ak (p.t209+1)) p.b0 (ZA p.b1 p.t207[zq p.t209]!))else G else e1
def L4(p:rA):aa (aa rA):=
 CV p (λs=>V (V s)) (V G)
def FD:=bI (L4)
abbrev aw9:=Span
def d339:Td 0 aw9:= .c [] [6] (.r 0 1 (ec 6 (qp 0 0) en) (sb 0 331 (lg 331) sn) (λz=>z.2.1) (λx=>(((),()),(x,()))))
def aBU:∀f∈([]:af Nat),bA (aCg) f:=aH
def agT(a0:af bh)(a1:az)(a2:af Span):aa aw9:=
 bif vn (a1.bF=0)then V (Span.mk a1.fN a1.fN)else bif vn (a1.bF=24)then if 0<=a1.fN/\a1.fN<zY a0 then if 0<=a1.fN/\a1.fN<zY a0 then V (Span.mk a0[a1.fN.toNat]!.ah a0[a1.fN.toNat]!.ag)else G else G else bif vn (a1.bF=6)then if(0:Int)<=(0:Int)/\(0:Int)<zY a2 then if(0:Int)<=(0:Int)/\(0:Int)<zY a2 then V (Span.mk (ak (0-a2[0]!.ag)) (ak (0-a2[0]!.ah)))else G else G else bif vn (a1.bF=8)then if(0:Int)<=(0:Int)/\(0:Int)<zY a2 then if(0:Int)<=(1:Int)/\(1:Int)<zY a2 then if(0:Int)<=(0:Int)/\(0:Int)<zY a2 then if(0:Int)<=(1:Int)/\(1:Int)<zY a2 then V (Span.mk (ak (a2[0]!.ah+a2[1]!.ah)) (ak (a2[0]!.ag+a2[1]!.ag)))else G else G else G else G else bif vn (a1.bF=9)then if(0:Int)<=(0:Int)/\(0:Int)<zY a2 then if(0:Int)<=(1:Int)/\(1:Int)<zY a2 then if(0:Int)<=(0:Int)/\(0:Int)<zY a2 then if(0:Int)<=(1:Int)/\(1:Int)<zY a2 then V (Span.mk (ak (a2[0]!.ah-a2[1]!.ag)) (ak (a2[0]!.ag-a2[1]!.ah)))else G else G else G else G else bif vn (a1.bF=10)then if(0:Int)<=(0:Int)/\(0:Int)<zY a2 then if(0:Int)<=(1:Int)/\(1:Int)<zY a2 then match alN a2[0]! a2[1]! with|G=>G|V r1=>V (r1)else G else G else bif vn (a1.bF=11)then if(0:Int)<=(0:Int)/\(0:Int)<zY a2 then if(0:Int)<=(0:Int)/\(0:Int)<zY a2 then match (if(0:Int)<=(0:Int)/\(0:Int)<zY a2 then bif vn (0<=a2[0]!.ah)then if(0:Int)<=(1:Int)/\(1:Int)<zY a2 then V (vn (0<=a2[1]!.ah))else G else V O else G)with|G=>G|V r2=>bif r2 then V (Span.mk 0 (if a2[0]!.ag<ak (0-a2[0]!.ah)then ak (0-a2[0]!.ah)else a2[0]!.ag))else V (Span.mk (ak (0-if a2[0]!.ag<ak (0-a2[0]!.ah)then ak (0-a2[0]!.ah)else a2[0]!.ag)) (if a2[0]!.ag<ak (0-a2[0]!.ah)then ak (0-a2[0]!.ah)else a2[0]!.ag))else G else G else bif vn (a1.bF=12)then if(0:Int)<=(1:Int)/\(1:Int)<zY a2 then bif vn (a2[1]!.ah<0)then if(0:Int)<=(1:Int)/\(1:Int)<zY a2 then if(0:Int)<=(1:Int)/\(1:Int)<zY a2 then bif vn (0<a2[1]!.ag)then if(0:Int)<=(1:Int)/\(1:Int)<zY a2 then V (Span.mk (if 0<ak (a2[1]!.ah+1)then 0 else ak (a2[1]!.ah+1)) (if ak (a2[1]!.ag-1)<0 then 0 else ak (a2[1]!.ag-1)))else G else V (Span.mk (if 0<ak (a2[1]!.ah+1)then 0 else ak (a2[1]!.ah+1)) 0)else G else G else if(0:Int)<=(1:Int)/\(1:Int)<zY a2 then bif vn (0<a2[1]!.ag)then if(0:Int)<=(1:Int)/\(1:Int)<zY a2 then V (Span.mk 0 (if ak (a2[1]!.ag-1)<0 then 0 else ak (a2[1]!.ag-1)))else G else V (Span.mk 0 0)else G else G else bif vn (a1.bF=21)then if(0:Int)<=(0:Int)/\(0:Int)<zY a2 then if(0:Int)<=(1:Int)/\(1:Int)<zY a2 then if(0:Int)<=(0:Int)/\(0:Int)<zY a2 then if(0:Int)<=(1:Int)/\(1:Int)<zY a2 then V (Span.mk (if a2[1]!.ah<a2[0]!.ah then a2[1]!.ah else a2[0]!.ah) (if a2[1]!.ag<a2[0]!.ag then a2[1]!.ag else a2[0]!.ag))else G else G else G else G else bif vn (a1.bF=22)then if(0:Int)<=(0:Int)/\(0:Int)<zY a2 then if(0:Int)<=(1:Int)/\(1:Int)<zY a2 then if(0:Int)<=(0:Int)/\(0:Int)<zY a2 then if(0:Int)<=(1:Int)/\(1:Int)<zY a2 then V (Span.mk (if a2[0]!.ah<a2[1]!.ah then a2[1]!.ah else a2[0]!.ah) (if a2[0]!.ag<a2[1]!.ag then a2[1]!.ag else a2[0]!.ag))else G else G else G else G else bif vn (a1.bF=23)then if(0:Int)<=(1:Int)/\(1:Int)<zY a2 then if(0:Int)<=(2:Int)/\(2:Int)<=zY a2 then match FD (rA.mk (ya 2 a2) (↑(ya 2 a2).length:Int) 0 (Span.mk 0 0) a2[1]!)with|G=>G|V r3=>CV r3 (λ_=>G) (V (r3.b1))else G else G else bif vn (a1.bF=25)then if(0:Int)<=(1:Int)/\(1:Int)<zY a2 then if(0:Int)<=(2:Int)/\(2:Int)<=zY a2 then match FD (rA.mk (ya 2 a2) (↑(ya 2 a2).length:Int) 0 (Span.mk 0 0) a2[1]!)with|G=>G|V r4=>CV r4 (λ_=>G) (V (r4.b1))else G else G else V (Span.mk 0 1)
def aC9:=eL vp 339 O (lc (ql 131) (lc (qg 137) (lc (ql 331) ln))) d339 (λg=>agT g.1 g.2.1 g.t.1)
def aiK:EO aC9:=λh=>kL (F:=aCg) (an:=(noTwo (.two (noTwo (noTwo (noTwo (noTwo (noTwo (noTwo (noTwo (noTwo (noTwo (noTwo (noTwo (noTwo (noTwo (noTwo (.two (noTwo (.two (.two (.rb [] 123) .no) .no)) (noTwo (noTwo (noTwo (noTwo (noTwo (noTwo (noTwo (.two (noTwo (.two (noTwo (Sa.lp FD .no)) .no)) .no))))))))))))))))))))))) .no))) (l:=[(.skip,(.rb [] 123)),(bk f339 0,(Sa.lp FD .no))]) func339 (Yd (YF (aip aV))) (aA aBU (aA (aO Sa) aH)) h
abbrev uc:=Span×Bool
def d307:Td 0 uc:= .c [] [4,5] (.r 0 1 (ec 4 (qp 0 0) (ec 5 qb en)) (sb 0 331 (lg 331) sn) (λz=>(z.2.1,z.1.2.1)) (λx=>(((),x.2,()),(x.1,()))))
def arw:=(lc (ql 131) (lc (qg 137) ln))
def avC(M:(af bh)->az->aa uc):bu->bu:=eL vp 307 O arw d307 (λg=>M g.1 g.2.1)
def alP(M:(af bh)->az->aa uc):Prop:=HL vp 307 arw d307 (λg=>M g.1 g.2.1)
def VV{M:(af bh)->az->aa uc}(hM:alP M){F:bu}(h:bE vp F):bE vp (avC M F):=gj (sc:=A9) ei hM ⟨_,func307,aY,aY⟩ (λ_=>aY) (λ_=>aY) h
def asa(M307:(af bh)->az->aa uc):bu:=(aC9 (avC M307 dA))
def ajz{M307}(h307:alP M307):bE vp (asa M307):=(aiK (VV h307 aV))
structure HF where
 t0:List bh
 t6:List Span
 t13:List az
 (t14 t15:Int)
 b0:az
 b1:Span
def Sd:Td 0 HF:= .c [] [0,3,4,6,13,14,15] (.t (b6.s 6 [] 331) (.c [] [0,3,4,6,13,14,15] (.r 0 3 (ec 0 (ql 131) (ec 3 (qp 0 0) (ec 4 (qp 1 0) (ec 6 (qo 2) (ec 13 (ql 137) (ec 14 aP (ec 15 aP en))))))) (sb 0 137 (lg 137) (sb 1 331 (lg 331) (sr 2 331 sn))) (λz=>⟨z.1.1,z.t.2.1,z.1.q.1,z.1.q.2.1,z.1.q.t.1,z.2.1,z.t.1⟩) (λx=>((x.t0,(),(),(),x.t13,x.t14,x.t15,()),(x.b0,x.b1,x.t6,()))))))
def G2(M307:(af bh)->az->aa uc)(p:HF):aa (aa HF):=
 bif vn (p.t15<p.t14)then if 0<=p.t15/\p.t15<zY p.t13 then match M307 p.t0 (az.mk p.t13[zq p.t15]!.bF p.t13[zq p.t15]!.fN p.t13[zq p.t15]!.aq)with|G=>G|V r1=>bif bif r1.snd then O else J then V (G)else if(p.t6++[r1.fst]).length<=1073741824 then V (V (HF.mk p.t0 (p.t6++[r1.fst]) p.t13 p.t14 (ak (p.t15+1)) (az.mk p.b0.bF p.b0.fN p.b0.aq) p.b1))else G else G else V (G)
def KB(M307:(af bh)->az->aa uc):=bI (G2 M307)
def aqr(M307:(af bh)->az->aa uc):An:=(noTwo (noTwo (.two (noTwo (Sd.lp (KB M307) .no)) .no)))
def aAC(M307:(af bh)->az->aa uc):gv vp (asa M307) 0 300 307 (aqr M307):=cH (l:=[(bk f307 0,(Sd.lp (KB M307) .no))]) func307 (bT aY) aY (aA (aO Sd) aH)
def ahJ(M307:(af bh)->az->aa uc)(a0:af bh)(a1:az):aa uc:=
 match KB M307 (HF.mk a0 [] a1.aq (zY a1.aq) 0 (az.mk a1.bF a1.fN a1.aq) (Span.mk 0 0))with|G=>G|V r2=>bif vn (r2.t15<r2.t14)then if 0<=r2.t15/\r2.t15<zY r2.t13 then match M307 r2.t0 (az.mk r2.t13[zq r2.t15]!.bF r2.t13[zq r2.t15]!.fN r2.t13[zq r2.t15]!.aq)with|G=>G|V r3=>bif bif r3.snd then O else J then V (Span.mk 0 0,O)else if(r2.t6++[r3.fst]).length<=1073741824 then G else G else G else match agT r2.t0 (az.mk r2.b0.bF r2.b0.fN r2.b0.aq) r2.t6 with|G=>G|V r4=>bif vn (-1048576<=r4.ah)then V ((r4,vn (r4.ag<=1048576)))else V (r4,O)
def aHT(M307:(af bh)->az->aa uc)(a0:af bh)(a1:az):bZ vp (asa M307) 300 (aqr M307) 307 (arw.c (a0,a1,())) [] 0 d307.rd=ahJ M307 a0 a1:=aY
def apd:Nat->((af bh)->az->aa uc)
 |0=>(λ_ _=>G)
 |n+1=>(ahJ (apd n))
def Ug(n:Nat):(af bh)->az->aa uc:=(apd n)
def Pg:∀n,alP (Ug n)
 |0=>λ_ _ h=>(by cases h)
 |n+1=>by
  have ih:=Pg n;have i307:=ih;exact(fe (ajz i307) (aAC (Ug n)) (λ_=>aY) (λ_=>aY) λg=>aHT (Ug n) g.1 g.2.1)
def anG:(af bh)->az->aa uc:=λa0 a1=>lim (λn=>Ug n a0 a1)
def ah5:alP anG:=λg b h=>by
 obtain⟨n,hn⟩:=dz (show lim (λn=>Ug n g.1 g.2.1)=V b from h);exact(Pg n) g b hn
def aFi(F:bu):bu:=avC anG F
def ajp{F:bu}(h:bE vp F):bE vp (aFi F):=VV ah5 h
abbrev aBl:=Int
def d267:Td 0 aBl:= .c [] [6] (.r 0 0 (ec 6 aP en) sn (λz=>z.1.1) (λx=>((x,()),(()))))
def Vc(a0:af bh)(a1:az)(a2:Bool):aa aBl:=
 match ahC a0 (az.mk a1.bF a1.fN a1.aq) a2 with|G=>G|V r1=>bif bif r1 then O else J then V (1)else match anG a0 (az.mk a1.bF a1.fN a1.aq)with|G=>G|V r2=>bif bif r2.snd then O else J then V (3)else V (0)
def ar2:=eL vp 267 O (lc (ql 131) (lc (qg 137) (lc qb ln))) d267 (λg=>Vc g.1 g.2.1 g.t.1)
def YE:EO ar2:=λh=>kL (an:= .no) func267 (ajp (ahF aV)) aH h
def aaA:EP ar2:=λh=>kP h
structure Ii where
 t8:List dN
 (t9 t10:Int)
 b0:aS
def Sg:Td 0 Ii:= .c [] [1,8,9,10] (.r 0 1 (ec 1 (qp 0 0) (ec 8 (ql 139) (ec 9 aP (ec 10 aP en)))) (sb 0 26 (lg 26) sn) (λz=>⟨z.1.2.1,z.1.t.1,z.1.t.2.1,z.2.1⟩) (λx=>(((),x.t8,x.t9,x.t10,()),(x.b0,()))))
def CL(p:Ii):aa (aa Ii):=
 bif vn (p.t10<p.t9)then if 0<=p.t10/\p.t10<zY p.t8 then match Zm p.t8[zq p.t10]!.fName with|G=>G|V r1=>bif bif r1 then O else J then V (G)else if 0<=p.t10/\p.t10<=zY p.b0.ax then match aeK (List.take p.t10.toNat p.b0.ax) (dN.mk p.t8[zq p.t10]!.fName p.t8[zq p.t10]!.ah p.t8[zq p.t10]!.ag (az.mk p.t8[zq p.t10]!.aF.bF p.t8[zq p.t10]!.aF.fN p.t8[zq p.t10]!.aF.aq))with|G=>G|V r2=>bif r2 then V (G)else bif bif PI p.t8[zq p.t10]!.ah p.t8[zq p.t10]!.ag then O else J then V (G)else match Vc p.b0.ai (az.mk p.t8[zq p.t10]!.aF.bF p.t8[zq p.t10]!.aF.fN p.t8[zq p.t10]!.aF.aq) J with|G=>G|V r3=>bif bif vn (r3=0)then O else J then V (G)else V (V (Ii.mk p.t8 p.t9 (ak (p.t10+1)) p.b0))else G else G else V (G)
def Nw:=bI (CL)
abbrev aCA:=Int
def d211:Td 0 aCA:= .c [] [2] (.r 0 0 (ec 2 aP en) sn (λz=>z.1.1) (λx=>((x,()),(()))))
def aic(a0:aS):aa aCA:=
 match Nw (Ii.mk a0.ax (zY a0.ax) 0 a0)with|G=>G|V r4=>bif vn (r4.t10<r4.t9)then if 0<=r4.t10/\r4.t10<zY r4.t8 then match Zm r4.t8[zq r4.t10]!.fName with|G=>G|V r5=>bif bif r5 then O else J then V 7 else if 0<=r4.t10/\r4.t10<=zY r4.b0.ax then match aeK (List.take r4.t10.toNat r4.b0.ax) (dN.mk r4.t8[zq r4.t10]!.fName r4.t8[zq r4.t10]!.ah r4.t8[zq r4.t10]!.ag (az.mk r4.t8[zq r4.t10]!.aF.bF r4.t8[zq r4.t10]!.aF.fN r4.t8[zq r4.t10]!.aF.aq))with|G=>G|V r6=>bif r6 then V 8 else bif bif PI r4.t8[zq r4.t10]!.ah r4.t8[zq r4.t10]!.ag then O else J then V 3 else match Vc r4.b0.ai (az.mk r4.t8[zq r4.t10]!.aF.bF r4.t8[zq r4.t10]!.aF.fN r4.t8[zq r4.t10]!.aF.aq) J with|G=>G|V r7=>bif bif vn (r7=0)then O else J then V (r7)else G else G else G else V 0
def aA4:=eL vp 211 O (lc (qg 26) ln) d211 (λg=>aic g.1)
def alg:EO aA4:=λh=>kL (an:=(noTwo (.two (noTwo (Sg.lp Nw .no)) .no))) (l:=[(bk f211 0,(Sg.lp Nw .no))]) func211 (YE (ai8 (Xa (WR aV)))) (aA (aO Sg) aH) h
def arq:bu:=dA
abbrev avR:=Bool
def d308:Td 0 avR:= .c [] [2] (.r 0 0 (ec 2 qb en) sn (λz=>z.1.1) (λx=>((x,()),(()))))
def aAu:=(aU ln)
def aqV:An:=(noTwo (.two (.rb [] 2) .no))
def aA2:∀f∈([]:af Nat),bA (arq) f:=aH
def Zg(a0:Int):avR:=
 let r1:Bool:=bif vn (a0=0)then J else vn (a0=5);r1
def aHk(a0:Int):bZ vp (arq) 300 (aqV) 308 (aAu.c (a0,())) [] 0 d308.rd=V (Zg a0):=by
 refine Eq.trans (b:=(
  match bif vn (a0=0)then V (J)else V (vn (a0=5))with|G=>G|V r1=>V (r1):aa avR)) aY ?_
 simp only[Zg,cn,cO]
def ar5:=eL vp 308 O aAu d308 (λg=>V (Zg g.1))
def anD:EO ar5:=λh=>kL (F:=arq) (an:=aqV) (l:=[(.skip,(.rb [] 2))]) func308 aV (aA aA2 aH) h (c:=λg=>aHk g.1)
def oy:EP ar5:=λh=>kP h
def av8:bu:=dA
abbrev atw:=Bool
def d309:Td 0 atw:= .c [] [2] (.r 0 0 (ec 2 qb en) sn (λz=>z.1.1) (λx=>((x,()),(()))))
def aCD:=(aU ln)
def aps:An:=(noTwo (.two (.rb [] 2) .no))
def azu:∀f∈([]:af Nat),bA (av8) f:=aH
def adm(a0:Int):atw:=
 let r1:Bool:=bif vn (a0=4)then J else vn (a0=5);r1
def aFe(a0:Int):bZ vp (av8) 300 (aps) 309 (aCD.c (a0,())) [] 0 d309.rd=V (adm a0):=by
 refine Eq.trans (b:=(
  match bif vn (a0=4)then V (J)else V (vn (a0=5))with|G=>G|V r1=>V (r1):aa atw)) aY ?_
 simp only[adm,cn,cO]
def avb:=eL vp 309 O aCD d309 (λg=>V (adm g.1))
def aj1:EO avb:=λh=>kL (F:=av8) (an:=aps) (l:=[(.skip,(.rb [] 2))]) func309 aV (aA azu aH) h (c:=λg=>aFe g.1)
def oJ:EP avb:=λh=>kP h
def ava:bu:=dA
abbrev at2:=Bool
def d310:Td 0 at2:= .c [] [2] (.r 0 0 (ec 2 qb en) sn (λz=>z.1.1) (λx=>((x,()),(()))))
def aCY:=(aU ln)
def ap3:An:=(noTwo (.two (.rb [] 2) .no))
def aDB:∀f∈([]:af Nat),bA (ava) f:=aH
def aeM(a0:Int):at2:=
 let r1:Bool:=bif vn (a0=0)then J else bif vn (a0=1)then J else bif vn (a0=3)then J else vn (a0=4);r1
def aEB(a0:Int):bZ vp (ava) 300 (ap3) 310 (aCY.c (a0,())) [] 0 d310.rd=V (aeM a0):=by
 refine Eq.trans (b:=(
  match bif vn (a0=0)then V (J)else bif vn (a0=1)then V (J)else bif vn (a0=3)then V (J)else V (vn (a0=4))with|G=>G|V r1=>V (r1):aa at2)) aY ?_
 simp only[aeM,cn,cO]
def avy:=eL vp 310 O aCY d310 (λg=>V (aeM g.1))
def agH:EO avy:=λh=>kL (F:=ava) (an:=ap3) (l:=[(.skip,(.rb [] 2))]) func310 aV (aA aDB aH) h (c:=λg=>aEB g.1)
def oN:EP avy:=λh=>kP h
def aup:bu:=dA
abbrev arA:=Bool
def d311:Td 0 arA:= .c [] [2] (.r 0 0 (ec 2 qb en) sn (λz=>z.1.1) (λx=>((x,()),(()))))
def aCX:=(lc (qg 137) ln)
def aoC:An:=(noTwo (.two (.rb [] 2) .no))
def azV:∀f∈([]:af Nat),bA (aup) f:=aH
def Ze(a0:az):arA:=
 let r1:Bool:=bif vn (a0.bF=0)then bif vn (a0.fN=0)then vn ((zY a0.aq:Int)=0)else O else O;r1
def aFc(a0:az):bZ vp (aup) 300 (aoC) 311 (aCX.c (a0,())) [] 0 d311.rd=V (Ze a0):=by
 refine Eq.trans (b:=(
  match bif vn (a0.bF=0)then bif vn (a0.fN=0)then V (vn ((zY a0.aq:Int)=0))else V (O)else V (O)with|G=>G|V r1=>V (r1):aa arA)) aY ?_
 simp only[Ze,cn,cO]
def auN:=eL vp 311 O aCX d311 (λg=>V (Ze g.1))
def aiy:EO auN:=λh=>kL (F:=aup) (an:=aoC) (l:=[(.skip,(.rb [] 2))]) func311 aV (aA azV aH) h (c:=λg=>aFc g.1)
def oD:EP auN:=λh=>kP h
structure rj where
 t0:List Int
 (t5 t6:Int)
def SL:Td 0 rj:= .c [] [0,5,6] (.r 0 0 (ec 0 (ql 3) (ec 5 aP (ec 6 aP en))) sn (λz=>⟨z.1.1,z.1.2.1,z.1.t.1⟩) (λx=>((x.t0,x.t5,x.t6,()),(()))))
def Ga{α:Type}(p:rj)(go:rj->aa α)(e1 e2:aa α):aa α:=
 bif vn (p.t6<p.t5)then bif vn (0<p.t6)then if 0<=p.t6/\p.t6<zY p.t0 then if 0<=ak (p.t6-1)/\ak (p.t6-1)<zY p.t0 then bif vn (((p.t0,p.t5,p.t6,()),()).fst.fst[((p.t0,p.t5,p.t6,()),()).fst.snd.snd.fst.toNat]!<=((p.t0,p.t5,p.t6,()),()).fst.fst[(ak (((p.t0,p.t5,p.t6,()),()).fst.snd.snd.fst-1)).toNat]!)then e1 else go (rj.mk p.t0 p.t5 (ak (p.t6+1)))else G else G else go (rj.mk p.t0 p.t5 (ak (p.t6+1)))else e2
def Mv(p:rj):aa (aa rj):=
 Ga p (λs=>V (V s)) (V G) (V G)
def NH:=bI (Mv)
abbrev ayb:=Bool
def d312:Td 0 ayb:= .c [] [2] (.r 0 0 (ec 2 qb en) sn (λz=>z.1.1) (λx=>((x,()),(()))))
def ad3(a0:af Int):aa ayb:=
 match NH (rj.mk a0 (zY a0) 0)with|G=>G|V r1=>Ga r1 (λ_=>G) (V O) (V J)
def auS:=eL vp 312 O (lc (ql 3) ln) d312 (λg=>ad3 g.1)
def agL:EO auS:=λh=>kL (an:=(noTwo (.two (noTwo (SL.lp NH .no)) .no))) (l:=[(bk f312 0,(SL.lp NH .no))]) func312 aV (aA (aO SL) aH) h
def ow:EP auS:=λh=>kP h
def aza:bu:=(auS (auN (avy (avb (ar5 dA)))))
abbrev axX:=Bool
def d268:Td 0 axX:= .c [] [6] (.r 0 0 (ec 6 qb en) sn (λz=>z.1.1) (λx=>((x,()),(()))))
def ur:∀f∈([308,309,310,311,312]:af Nat),bA (aza) f:=(aA (ow (oD (oN (oJ (oy bG))))) (aA (ow (oD (oN (oJ (oy bG))))) (aA (ow (oD (oN (oJ (oy bG))))) (aA (ow (oD (oN (oJ (oy bG))))) (aA (ow (oD (oN (oJ (oy bG))))) aH)))))
def SF(a0:aS)(a1:aB)(a2:Bool):aa axX:=
 match bif vn (a1.b9<0)then V J else V (vn (6<a1.b9))with|G=>G|V r1=>bif r1 then V O else match bif bif Zg a1.b9 then O else J then V (bif vn (a1.dL=0)then O else J)else V O with|G=>G|V r2=>bif r2 then V O else match bif bif adm a1.b9 then O else J then V (bif vn (a1.fN=0)then O else J)else V O with|G=>G|V r3=>bif r3 then V O else match bif bif aeM a1.b9 then O else J then V (bif Ze (az.mk a1.aF.bF a1.aF.fN a1.aF.aq)then O else J)else V O with|G=>G|V r4=>bif r4 then V O else match bif bif vn (a1.b9=3)then O else J then bif bif vn (a1.b9=4)then O else J then V (vn (0<(zY a1.aQ:Int)))else V O else V O with|G=>G|V r5=>bif r5 then V O else match bif bif vn (a1.b9=3)then O else J then V (vn (0<(zY a1.aX:Int)))else V O with|G=>G|V r6=>bif r6 then V O else match bif bif vn (a1.b9=6)then O else J then V (vn (0<(zY a1.aR:Int)))else V O with|G=>G|V r7=>bif r7 then V O else match bif Zg a1.b9 then bif vn (a1.dL<0)then V J else bif vn (zY a0.ai<=a1.dL)then V J else if 0<=a1.dL/\a1.dL<zY a0.ai then V (bif vn (a0.ai[a1.dL.toNat]!.bS=0)then O else J)else G else V O with|G=>G|V r8=>bif r8 then V O else match bif vn (a1.b9=5)then bif vn (a1.fN<0)then V J else V (vn (zY a0.ax<=a1.fN))else V O with|G=>G|V r9=>bif r9 then V O else match bif bif vn (a1.b9=6)then O else J then V J else bif a2 then bif vn (0<(zY a1.aR:Int))then bif vn ((zY a1.aR:Int)<=32)then if(0:Int)<=(0:Int)/\(0:Int)<zY a1.aR then bif vn (0<=a1.aR[zq 0]!)then match ad3 a1.aR with|G=>G|V r10=>V (r10)else V O else G else V O else V O else V O with|G=>G|V r11=>V (r11)
def auA:=eL vp 268 O (lc (qg 26) (lc (qg 166) (lc qb ln))) d268 (λg=>SF g.1 g.2.1 g.t.1)
def ajX:EO auA:=λh=>kL (F:=aza) (an:=(noTwo (noTwo (.two (.two (.two (.rb [308,309,310,311,312] 10) (noTwo (.two (.rb [308,309,310,311,312] 10) (noTwo (.two (.rb [308,309,310,311,312] 10) (noTwo (.two (.rb [308,309,310,311,312] 10) (noTwo (.two (.rb [308,309,310,311,312] 10) (noTwo (.two (.rb [308,309,310,311,312] 10) (noTwo (.two (.rb [308,309,310,311,312] 10) (noTwo (.two (.rb [308,309,310,311,312] 10) (noTwo (.rb [308,309,310,311,312] 10))))))))))))))))) .no) (.two (.rb [308,309,310,311,312] 6) .no))))) (l:=[(.skip,(.rb [308,309,310,311,312] 10)),(.skip,(.rb [308,309,310,311,312] 10)),(.skip,(.rb [308,309,310,311,312] 10)),(.skip,(.rb [308,309,310,311,312] 10)),(.skip,(.rb [308,309,310,311,312] 10)),(.skip,(.rb [308,309,310,311,312] 10)),(.skip,(.rb [308,309,310,311,312] 10)),(.skip,(.rb [308,309,310,311,312] 10)),(.skip,(.rb [308,309,310,311,312] 10)),(.skip,(.rb [308,309,310,311,312] 6))]) func268 (agL (aiy (agH (aj1 (anD aV))))) (aA ur (aA ur (aA ur (aA ur (aA ur (aA ur (aA ur (aA ur (aA ur (aA ur aH)))))))))) h
def aaJ:EP auA:=λh=>kP h
def aBA:bu:=dA
abbrev aDz:=Bool
def d269:Td 0 aDz:= .c [] [2] (.r 0 0 (ec 2 qb en) sn (λz=>z.1.1) (λx=>((x,()),(()))))
def apG:∀f∈([]:af Nat),bA (aBA) f:=aH
def Ve(a0:aB):aa aDz:=
 bif vn (a0.b9=2)then match bif vn (a0.bg<0)then V J else bif vn (67108864<a0.bg)then V J else bif vn (a0.b9=4)then bif vn (a0.fN<0)then V J else V (vn (4096<a0.fN))else V O with|G=>G|V r1=>bif r1 then V O else match bif bif vn (a0.b9=6)then O else J then V J else if 0<=ak ((zY a0.aR:Int)-(1:Int))/\ak ((zY a0.aR:Int)-(1:Int))<zY a0.aR then V (vn (a0.aR[(ak ((zY a0.aR:Int)-1)).toNat]!<=67108864))else G with|G=>G|V r2=>V (r2)else match bif vn (a0.bg<0)then V J else bif vn (10000<a0.bg)then V J else bif vn (a0.b9=4)then bif vn (a0.fN<0)then V J else V (vn (4096<a0.fN))else V O with|G=>G|V r3=>bif r3 then V O else match bif bif vn (a0.b9=6)then O else J then V J else if 0<=ak ((zY a0.aR:Int)-(1:Int))/\ak ((zY a0.aR:Int)-(1:Int))<zY a0.aR then V (vn (a0.aR[(ak ((zY a0.aR:Int)-1)).toNat]!<=67108864))else G with|G=>G|V r4=>V (r4)
def av1:=eL vp 269 O (lc (qg 166) ln) d269 (λg=>Ve g.1)
def anT:EO av1:=λh=>kL (F:=aBA) (an:=(noTwo (noTwo (noTwo (.two (.two (.rb [] 30) .no) (.two (.rb [] 2) .no)))))) (l:=[(.skip,(.rb [] 30)),(.skip,(.rb [] 2))]) func269 aV (aA apG (aA apG aH)) h
def ZF:EP av1:=λh=>kP h
abbrev mV:=Int
def d212:Td 0 mV:= .c [] [6] (.r 0 0 (ec 6 aP en) sn (λz=>z.1.1) (λx=>((x,()),(()))))
def aru:=(lc (qg 26) (lc (ql 166) (lc qb ln)))
def alr(M:aS->(af aB)->Bool->aa mV):bu->bu:=eL vp 212 O aru d212 (λg=>M g.1 g.2.1 g.2.2.1)
def ZK{M:aS->(af aB)->Bool->aa mV}{F:bu}{f:Nat}(h:bA F f):bA (alr M F) f:=gH h (λ_=>aY)
def ai6(M:aS->(af aB)->Bool->aa mV):Prop:=HL vp 212 aru d212 (λg=>M g.1 g.2.1 g.2.2.1)
def Xd{M:aS->(af aB)->Bool->aa mV}(hM:ai6 M){F:bu}(h:bE vp F):bE vp (alr M F):=gj (sc:=A9) ei hM ⟨_,func212,aY,aY⟩ (λ_=>aY) (λ_=>aY) h
def amO(M212:aS->(af aB)->Bool->aa mV):bu:=(av1 (auA (ar2 (alr M212 dA))))
def aid{M212}(h212:ai6 M212):bE vp (amO M212):=(anT (ajX (YE (Xd h212 aV))))
structure rV where
 t1:List aB
 t2:Bool
 t13:List aB
 (t14 t15:Int)
 t47:List (List aB)
 (t48 t49:Int)
 b0:aS
def S6:Td 0 rV:= .c [] [1,2,3,13,14,15,47,48,49] (.r 0 2 (ec 1 (ql 166) (ec 2 qb (ec 3 (qp 0 0) (ec 13 (ql 166) (ec 14 aP (ec 15 aP (ec 47 (qo 1) (ec 48 aP (ec 49 aP en))))))))) (sb 0 26 (lg 26) (sr 1 24 sn)) (λz=>⟨z.1.1,z.1.2.1,z.1.t.2.1,z.1.q.1,z.1.q.2.1,z.t.1,z.1.q.t.2.1,z.1.q.q.1,z.2.1⟩) (λx=>((x.t1,x.t2,(),x.t13,x.t14,x.t15,(),x.t48,x.t49,()),(x.b0,x.t47,()))))
def Dj{α:Type}(M212:aS->(af aB)->Bool->aa mV)(p:rV)(go:rV->aa α)(e1 e2:aa α):aa α:=
 bif vn (p.t49<p.t48)then if 0<=p.t49/\p.t49<zY p.t47 then if 24=24/\zq p.t49<zY p.t47 then match M212 p.b0 p.t47[zq p.t49]! O with|G=>G|V r8=>bif bif vn (r8=0)then O else J then e1 else go (rV.mk p.t1 p.t2 p.t13 p.t14 p.t15 p.t47 p.t48 (ak (p.t49+1)) p.b0)else G else G else e2
def CK(M212:aS->(af aB)->Bool->aa mV)(p:rV):aa (aa rV):=
 Dj M212 p (λs=>V (V s)) (V G) (V G)
def Ci(M212:aS->(af aB)->Bool->aa mV):=bI (CK M212)
structure HM where
 t1:List aB
 t2:Bool
 t13:List aB
 (t14 t15:Int)
 b0:aS
def Sh:Td 0 HM:= .c [] [1,2,3,13,14,15] (.r 0 1 (ec 1 (ql 166) (ec 2 qb (ec 3 (qp 0 0) (ec 13 (ql 166) (ec 14 aP (ec 15 aP en)))))) (sb 0 26 (lg 26) sn) (λz=>⟨z.1.1,z.1.2.1,z.1.t.2.1,z.1.q.1,z.1.q.2.1,z.2.1⟩) (λx=>((x.t1,x.t2,(),x.t13,x.t14,x.t15,()),(x.b0,()))))
def CE(M212:aS->(af aB)->Bool->aa mV)(p:HM):aa (aa HM):=
 bif vn (p.t15<p.t14)then if 0<=p.t15/\p.t15<zY p.t13 then match (bif p.t2 then match SF p.b0 (aB.mk p.t13[zq p.t15]!.b9 p.t13[zq p.t15]!.bg p.t13[zq p.t15]!.dL p.t13[zq p.t15]!.fN (az.mk p.t13[zq p.t15]!.aF.bF p.t13[zq p.t15]!.aF.fN p.t13[zq p.t15]!.aF.aq) p.t13[zq p.t15]!.aQ p.t13[zq p.t15]!.aX p.t13[zq p.t15]!.aR) (vn (((p.t1,p.t2,(),p.t13,p.t14,p.t15,()),p.b0,()).fst.snd.snd.snd.snd.snd.fst=ak ((↑((p.t1,p.t2,(),p.t13,p.t14,p.t15,()),p.b0,()).fst.fst.length:Int)-1)))with|G=>G|V r1=>V (bif r1 then O else J)else match SF p.b0 (aB.mk p.t13[zq p.t15]!.b9 p.t13[zq p.t15]!.bg p.t13[zq p.t15]!.dL p.t13[zq p.t15]!.fN (az.mk p.t13[zq p.t15]!.aF.bF p.t13[zq p.t15]!.aF.fN p.t13[zq p.t15]!.aF.aq) p.t13[zq p.t15]!.aQ p.t13[zq p.t15]!.aX p.t13[zq p.t15]!.aR) O with|G=>G|V r2=>V (bif r2 then O else J))with|G=>G|V r3=>bif r3 then V (G)else match Ve (aB.mk p.t13[zq p.t15]!.b9 p.t13[zq p.t15]!.bg p.t13[zq p.t15]!.dL p.t13[zq p.t15]!.fN (az.mk p.t13[zq p.t15]!.aF.bF p.t13[zq p.t15]!.aF.fN p.t13[zq p.t15]!.aF.aq) p.t13[zq p.t15]!.aQ p.t13[zq p.t15]!.aX p.t13[zq p.t15]!.aR)with|G=>G|V r4=>bif bif r4 then O else J then V (G)else match Vc p.b0.ai (az.mk p.t13[zq p.t15]!.aF.bF p.t13[zq p.t15]!.aF.fN p.t13[zq p.t15]!.aF.aq) O with|G=>G|V r5=>bif bif vn (r5=0)then O else J then V (G)else match Ci M212 (rV.mk p.t1 p.t2 p.t13 p.t14 p.t15 [p.t13[zq p.t15]!.aQ,p.t13[zq p.t15]!.aX] (↑[p.t13[zq p.t15]!.aQ,p.t13[zq p.t15]!.aX].length:Int) 0 p.b0)with|G=>G|V r6=>Dj M212 r6 (λ_=>G) (V (G)) (V (V (HM.mk r6.t1 r6.t2 r6.t13 r6.t14 (ak (r6.t15+1)) r6.b0)))else G else V (G)
def ac2(M212:aS->(af aB)->Bool->aa mV):An:=(noTwo (noTwo (.two (noTwo (.two (.two (.rb [268] 31) .no) (noTwo (noTwo (noTwo (S6.lp (Ci M212) .no)))))) .no)))
def L9(M212:aS->(af aB)->Bool->aa mV):=bI (CE M212)
def aqF(M212:aS->(af aB)->Bool->aa mV):An:=(noTwo (.two (noTwo (Sh.lp (L9 M212) (ac2 M212))) .no))
def axV{M212}:∀f∈([268]:af Nat),bA (amO M212) f:=(aA (ZF (aaJ (aaA (ZK bG)))) aH)
def axQ(M212:aS->(af aB)->Bool->aa mV):gv vp (amO M212) 0 300 212 (aqF M212):=cH (l:=[(bk f212 0,(Sh.lp (L9 M212) (ac2 M212))),(.skip,(.rb [268] 31)),(bk f212 1,(S6.lp (Ci M212) .no))]) func212 (bT aY) aY (aA (aO Sh) (aA axV (aA (aO S6) aH)))
def aiD(M212:aS->(af aB)->Bool->aa mV)(a0:aS)(a1:af aB)(a2:Bool):aa mV:=
 match L9 M212 (HM.mk a1 a2 a1 (zY a1) 0 a0)with|G=>G|V r9=>bif vn (r9.t15<r9.t14)then if 0<=r9.t15/\r9.t15<zY r9.t13 then match bif r9.t2 then match SF r9.b0 (aB.mk r9.t13[zq r9.t15]!.b9 r9.t13[zq r9.t15]!.bg r9.t13[zq r9.t15]!.dL r9.t13[zq r9.t15]!.fN (az.mk r9.t13[zq r9.t15]!.aF.bF r9.t13[zq r9.t15]!.aF.fN r9.t13[zq r9.t15]!.aF.aq) r9.t13[zq r9.t15]!.aQ r9.t13[zq r9.t15]!.aX r9.t13[zq r9.t15]!.aR) (vn (((r9.t1,r9.t2,(),r9.t13,r9.t14,r9.t15,()),r9.b0,()).fst.snd.snd.snd.snd.snd.fst=ak ((↑((r9.t1,r9.t2,(),r9.t13,r9.t14,r9.t15,()),r9.b0,()).fst.fst.length:Int)-1)))with|G=>G|V r10=>V (bif r10 then O else J)else match SF r9.b0 (aB.mk r9.t13[zq r9.t15]!.b9 r9.t13[zq r9.t15]!.bg r9.t13[zq r9.t15]!.dL r9.t13[zq r9.t15]!.fN (az.mk r9.t13[zq r9.t15]!.aF.bF r9.t13[zq r9.t15]!.aF.fN r9.t13[zq r9.t15]!.aF.aq) r9.t13[zq r9.t15]!.aQ r9.t13[zq r9.t15]!.aX r9.t13[zq r9.t15]!.aR) O with|G=>G|V r11=>V (bif r11 then O else J)with|G=>G|V r12=>bif r12 then V 1 else match Ve (aB.mk r9.t13[zq r9.t15]!.b9 r9.t13[zq r9.t15]!.bg r9.t13[zq r9.t15]!.dL r9.t13[zq r9.t15]!.fN (az.mk r9.t13[zq r9.t15]!.aF.bF r9.t13[zq r9.t15]!.aF.fN r9.t13[zq r9.t15]!.aF.aq) r9.t13[zq r9.t15]!.aQ r9.t13[zq r9.t15]!.aX r9.t13[zq r9.t15]!.aR)with|G=>G|V r13=>bif bif r13 then O else J then V 3 else match Vc r9.b0.ai (az.mk r9.t13[zq r9.t15]!.aF.bF r9.t13[zq r9.t15]!.aF.fN r9.t13[zq r9.t15]!.aF.aq) O with|G=>G|V r14=>bif bif vn (r14=0)then O else J then V (r14)else match Ci M212 (rV.mk r9.t1 r9.t2 r9.t13 r9.t14 r9.t15 [r9.t13[zq r9.t15]!.aQ,r9.t13[zq r9.t15]!.aX] (↑[r9.t13[zq r9.t15]!.aQ,r9.t13[zq r9.t15]!.aX].length:Int) 0 r9.b0)with|G=>G|V r15=>bif vn (r15.t49<r15.t48)then if 0<=r15.t49/\r15.t49<zY r15.t47 then if 24=24/\zq r15.t49<zY r15.t47 then match M212 r15.b0 r15.t47[zq r15.t49]! O with|G=>G|V r16=>bif bif vn (r16=0)then O else J then V (r16)else G else G else G else G else G else V 0
def aIl(M212:aS->(af aB)->Bool->aa mV)(a0:aS)(a1:af aB)(a2:Bool):bZ vp (amO M212) 300 (aqF M212) 212 (aru.c (a0,a1,a2,())) [] 0 d212.rd=aiD M212 a0 a1 a2:=aY
def aqh:Nat->(aS->(af aB)->Bool->aa mV)
 |0=>(λ_ _ _=>G)
 |n+1=>(aiD (aqh n))
def U0(n:Nat):aS->(af aB)->Bool->aa mV:=(aqh n)
def Pc:∀n,ai6 (U0 n)
 |0=>λ_ _ h=>(by cases h)
 |n+1=>by
  have ih:=Pc n;have i212:=ih;exact(fe (aid i212) (axQ (U0 n)) (λ_=>aY) (λ_=>aY) λg=>aIl (U0 n) g.1 g.2.1 g.2.2.1)
def ail:aS->(af aB)->Bool->aa mV:=λa0 a1 a2=>lim (λn=>U0 n a0 a1 a2)
def anb:ai6 ail:=λg b h=>by
 obtain⟨n,hn⟩:=dz (show lim (λn=>U0 n g.1 g.2.1 g.2.2.1)=V b from h);exact(Pc n) g b hn
def ayy(F:bu):bu:=alr ail F
def ahc{F:bu}(h:bE vp F):bE vp (ayy F):=Xd anb h
abbrev ua:=rR
def d213:Td 0 ua:= .c [] [2] (.r 0 1 (ec 2 (qp 0 0) en) (sb 0 260 (lg 260) sn) (λz=>z.2.1) (λx=>(((),()),(x,()))))
def awg:=(lc (ql 166) ln)
def au7(M:(af aB)->aa ua):bu->bu:=eL vp 213 O awg d213 (λg=>M g.1)
def akA(M:(af aB)->aa ua):Prop:=HL vp 213 awg d213 (λg=>M g.1)
def X6{M:(af aB)->aa ua}(hM:akA M){F:bu}(h:bE vp F):bE vp (au7 M F):=gj (sc:=A9) ei hM ⟨_,func213,aY,aY⟩ (λ_=>aY) (λ_=>aY) h
def avq(M213:(af aB)->aa ua):bu:=(au7 M213 dA)
def ahX{M213}(h213:akA M213):bE vp (avq M213):=(X6 h213 aV)
structure sj where
 t9:List aB
 (t10 t11:Int)
 (b0 b1:rR)
def SU:Td 0 sj:= .c [] [2,3,9,10,11] (.r 0 2 (ec 2 (qp 0 0) (ec 3 (qp 1 0) (ec 9 (ql 166) (ec 10 aP (ec 11 aP en))))) (sb 0 260 (lg 260) (sb 1 260 (lg 260) sn)) (λz=>⟨z.1.t.1,z.1.t.2.1,z.1.q.1,z.2.1,z.t.1⟩) (λx=>(((),(),x.t9,x.t10,x.t11,()),(x.b0,x.b1,()))))
def LD(M213:(af aB)->aa ua)(p:sj):aa (aa sj):=
 bif vn (p.t11<p.t10)then if 0<=p.t11/\p.t11<zY p.t9 then match M213 p.t9[zq p.t11]!.aQ with|G=>G|V r1=>match M213 p.t9[zq p.t11]!.aX with|G=>G|V r2=>bif vn (p.t9[zq p.t11]!.b9=1)then V (V (sj.mk p.t9 p.t10 (ak (p.t11+1)) p.b0 (rR.mk (if 1099511627776<ak (p.b1.fU+1)then 1099511627776 else ak (p.b1.fU+1)) (if 1099511627776<ak (p.b1.aM+1)then 1099511627776 else ak (p.b1.aM+1)) (if 1099511627776<ak (p.b1.aI+p.t9[zq p.t11]!.bg)then 1099511627776 else ak (p.b1.aI+p.t9[zq p.t11]!.bg)))))else bif vn (p.t9[zq p.t11]!.b9=3)then V (V (sj.mk p.t9 p.t10 (ak (p.t11+1)) p.b0 (rR.mk (if 1099511627776<ak (p.b1.fU+ak (1+if r1.fU<r2.fU then r2.fU else r1.fU))then 1099511627776 else ak (p.b1.fU+ak (1+if r1.fU<r2.fU then r2.fU else r1.fU))) (if 1099511627776<ak (p.b1.aM+if r1.aM<r2.aM then r2.aM else r1.aM)then 1099511627776 else ak (p.b1.aM+if r1.aM<r2.aM then r2.aM else r1.aM)) (if 1099511627776<ak (p.b1.aI+ak (p.t9[zq p.t11]!.bg+if r1.aI<r2.aI then r2.aI else r1.aI))then 1099511627776 else ak (p.b1.aI+ak (p.t9[zq p.t11]!.bg+if r1.aI<r2.aI then r2.aI else r1.aI))))))else bif vn (p.t9[zq p.t11]!.b9=4)then V (V (sj.mk p.t9 p.t10 (ak (p.t11+1)) p.b0 (rR.mk (if 1099511627776<ak (p.b1.fU+ak (1+ak (p.t9[zq p.t11]!.fN*ak (1+r1.fU))))then 1099511627776 else ak (p.b1.fU+ak (1+ak (p.t9[zq p.t11]!.fN*ak (1+r1.fU))))) (if 1099511627776<ak (p.b1.aM+ak (p.t9[zq p.t11]!.fN*r1.aM))then 1099511627776 else ak (p.b1.aM+ak (p.t9[zq p.t11]!.fN*r1.aM))) (if 1099511627776<ak (p.b1.aI+ak (p.t9[zq p.t11]!.fN*ak (p.t9[zq p.t11]!.bg+r1.aI)))then 1099511627776 else ak (p.b1.aI+ak (p.t9[zq p.t11]!.fN*ak (p.t9[zq p.t11]!.bg+r1.aI)))))))else V (V (sj.mk p.t9 p.t10 (ak (p.t11+1)) p.b0 (rR.mk (if 1099511627776<ak (p.b1.fU+1)then 1099511627776 else ak (p.b1.fU+1)) (if 1099511627776<ak (p.b1.aM+0)then 1099511627776 else ak (p.b1.aM+0)) (if 1099511627776<ak (p.b1.aI+p.t9[zq p.t11]!.bg)then 1099511627776 else ak (p.b1.aI+p.t9[zq p.t11]!.bg)))))else G else V (G)
def NA(M213:(af aB)->aa ua):=bI (LD M213)
def apU(M213:(af aB)->aa ua):An:=(noTwo (noTwo (.two (noTwo (SU.lp (NA M213) .no)) .no)))
def ayP(M213:(af aB)->aa ua):gv vp (avq M213) 0 300 213 (apU M213):=cH (l:=[(bk f213 0,(SU.lp (NA M213) .no))]) func213 (bT aY) aY (aA (aO SU) aH)
def ag4(M213:(af aB)->aa ua)(a0:af aB):aa ua:=
 match NA M213 (sj.mk a0 (zY a0) 0 (rR.mk 0 0 0) (rR.mk 0 0 0))with|G=>G|V r3=>bif vn (r3.t11<r3.t10)then if 0<=r3.t11/\r3.t11<zY r3.t9 then match M213 r3.t9[zq r3.t11]!.aQ with|G=>G|V r4=>match M213 r3.t9[zq r3.t11]!.aX with|G=>G|V r5=>bif vn (r3.t9[zq r3.t11]!.b9=1)then G else bif vn (r3.t9[zq r3.t11]!.b9=3)then G else bif vn (r3.t9[zq r3.t11]!.b9=4)then G else G else G else V (r3.b1)
def aGC(M213:(af aB)->aa ua)(a0:af aB):bZ vp (avq M213) 300 (apU M213) 213 (awg.c (a0,())) [] 0 d213.rd=ag4 M213 a0:=aY
def aql:Nat->((af aB)->aa ua)
 |0=>(λ_=>G)
 |n+1=>(ag4 (aql n))
def TW(n:Nat):(af aB)->aa ua:=(aql n)
def RD:∀n,akA (TW n)
 |0=>λ_ _ h=>(by cases h)
 |n+1=>by
  have ih:=RD n;have i213:=ih;exact(fe (ahX i213) (ayP (TW n)) (λ_=>aY) (λ_=>aY) λg=>aGC (TW n) g.1)
def afd:(af aB)->aa ua:=λa0=>lim (λn=>TW n a0)
def ajm:akA afd:=λg b h=>by
 obtain⟨n,hn⟩:=dz (show lim (λn=>TW n g.1)=V b from h);exact(RD n) g b hn
def axh(F:bu):bu:=au7 afd F
def al6{F:bu}(h:bE vp F):bE vp (axh F):=X6 ajm h
def aBg:bu:=(axh (ayy (aA4 (az1 (awq (ajF (aAz dA)))))))
structure rO where
 t14:List dN
 (t15 t16:Int)
 b0:aS
 b1:bq
def Tm:Td 0 rO:= .c [] [1,3,14,15,16] (.r 0 2 (ec 1 (qp 0 0) (ec 3 (qp 1 0) (ec 14 (ql 139) (ec 15 aP (ec 16 aP en))))) (sb 0 26 (lg 26) (sb 1 256 (lg 256) sn)) (λz=>⟨z.1.t.1,z.1.t.2.1,z.1.q.1,z.2.1,z.t.1⟩) (λx=>(((),(),x.t14,x.t15,x.t16,()),(x.b0,x.b1,()))))
def CG{α:Type}(p:rO)(go:rO->aa α)(e1:aa α):aa α:=
 bif vn (p.t16<p.t15)then if 0<=p.t16/\p.t16<zY p.t14 then bif bif(kO p.b1).fst then O else J then match Na (az.mk p.t14[zq p.t16]!.aF.bF p.t14[zq p.t16]!.aF.fN p.t14[zq p.t16]!.aF.aq) 1 (kO p.b1).snd with|G=>G|V r1=>go (rO.mk p.t14 p.t15 (ak (p.t16+1)) p.b0 r1)else go (rO.mk p.t14 p.t15 (ak (p.t16+1)) p.b0 (kO p.b1).snd)else G else e1
def FA(p:rO):aa (aa rO):=
 CG p (λs=>V (V s)) (V G)
def Gw:=bI (FA)
abbrev aBS:=Int
def d136:Td 0 aBS:= .c [] [2] (.r 0 0 (ec 2 aP en) sn (λz=>z.1.1) (λx=>((x,()),(()))))
def ayq:∀f∈([]:af Nat),bA (aBg) f:=aH
def ab7(a0:aS):aa aBS:=
 match ad8 a0.bM 1 (bq.mk 0 O)with|G=>G|V r2=>match Gw (rO.mk a0.ax (zY a0.ax) 0 a0 r2)with|G=>G|V r3=>CG r3 (λ_=>G) (bif vn (64<(zY r3.b0.ai:Int))then V 4 else bif vn (8<(zY r3.b0.ax:Int))then V 4 else bif(kO r3.b1).fst then V 4 else match ajD r3.b0.ai with|G=>G|V r5=>bif bif vn (r5=0)then O else J then V (r5)else match aic r3.b0 with|G=>G|V r6=>bif bif vn (r6=0)then O else J then V (r6)else match ail r3.b0 r3.b0.bM J with|G=>G|V r7=>bif bif vn (r7=0)then O else J then V (r7)else match afd r3.b0.bM with|G=>G|V r8=>match (bif vn (4096<r8.fU)then V J else bif vn (8<r8.aM)then V J else V (vn (67108864<r8.aI)))with|G=>G|V r9=>bif r9 then V 4 else V 0)
def atn:=eL vp 136 O (lc (qg 26) ln) d136 (λg=>ab7 g.1)
def V5:EO atn:=λh=>kL (F:=aBg) (an:=(noTwo (noTwo (noTwo (.two (noTwo (Tm.lp Gw .no)) (noTwo (noTwo (noTwo (noTwo (.two (noTwo (.two (.rb [] 72) .no)) .no)))))))))) (l:=[(bk f136 0,(Tm.lp Gw .no)),(.skip,(.rb [] 72))]) func136 (al6 (ahc (alg (ajo (Xy (KA (ahW aV))))))) (aA (aO Tm) (aA ayq aH)) h
def Jj:EP atn:=λh=>kP h
def abN(l:af UInt8):(ByteArray.mk (Array.mk l)).toList=l:=by
 simp
def awa(s:ByteArray):(s.toList==(ByteArray.mk (Array.mk [])).toList)=vn (s.size=0):=by
 obtain⟨⟨l⟩⟩:=s;rw[abN,abN];have hs:(ByteArray.mk (Array.mk l)).size=zY l:=rfl;rw[hs];cases l with
 |nil=>rfl
 |cons a l=>simp
def EE(s:ByteArray):Zm s=V (kH s):=by
 unfold Zm Ib;rw[awa];by_cases h0:s.size=0
 ·simp[h0,kH]
 by_cases h1:40<(s.size:Int)
 ·have h1':¬s.size<=40:=au;simp[h1,h1',kH]
 rw[bW h0,bW h1];obtain⟨i,e1,hc⟩:=ox (rnd:=MO) (zH s.size) (λi=>⟨s,(s.size:Int),(i:Int)⟩) (λi j=>okc j (di s j)) (λi hi=>by
  rw[we]at hi;have hw:=jQ hi au;unfold MO Ib okc;simp only[zg];grind) (by unfold MO Ib;simp)
 have e1':Nd ⟨s,(s.size:Int),0⟩=V ⟨s,(s.size:Int),(i:Int)⟩:=e1;rw[e1'];have h2:kH s=(zH s.size).all λi=>okc i (di s i):=by
  unfold kH;rw[oR,oR];simp
 rw[h2];rcases hc with ⟨rfl,hc⟩|⟨hi,hc⟩
 ·rw[Gi hc];simp
 ·rw[Bv hi hc];unfold okc at hc;simp only[zg];grind
def EN(s:ByteArray):Z9 s=V (kH s):=by
 unfold Z9 GU;by_cases h0:s.size<1
 ·have h0':¬1<=s.size:=au;have h0'':(s.size:Int)<1:=au;simp[h0'',h0',kH]
 by_cases h1:40<(s.size:Int)
 ·have h1':¬s.size<=40:=au;have h0'':¬(s.size:Int)<1:=au;simp[h1,h1',kH]
 rw[bW (show ¬(s.size:Int)<1 by omega),bW h1];obtain⟨i,e1,hc⟩:=ox (rnd:=KD) (zH s.size) (λi=>⟨s,(i:Int)⟩) (λi j=>okc j (di s j)) (λi hi=>by
  rw[we]at hi;have hw:=jQ hi au;unfold KD GU okc;simp only[zg];grind) (by unfold KD GU;simp)
 have e1':KS ⟨s,0⟩=V ⟨s,(i:Int)⟩:=e1;rw[e1'];have h2:kH s=(zH s.size).all λi=>okc i (di s i):=by
  unfold kH;rw[oR,oR];simp
 rw[h2];rcases hc with ⟨rfl,hc⟩|⟨hi,hc⟩
 ·rw[Gi hc];simp
 ·rw[Bv hi hc];unfold okc at hc;simp only[zg];grind
def Es(a b:Int):PI a b=jE a b:=by
 unfold PI jE;simp
def EK(a b:Int):OF a b=jE a b:=by
 unfold OF jE;simp
def VE(l:af bh)(hl:zY l<=1000000)(v:bh):akE l v=V (l.any λw=>w.fName.toList==v.fName.toList):=by
 obtain⟨i,e1,hc⟩:=ox (rnd:=LI) l (λi=>⟨l,v.fName,v.bS,v.ah,v.ag,v.gD,(zY l:Int),(i:Int)⟩) (λ_ w=> !(w.fName.toList==v.fName.toList)) (λi hi=>by
  have hw:=jQ hi hl;unfold LI Hy ajx;grind) (by unfold LI Hy;simp)
 have e1':MP ⟨l,v.fName,v.bS,v.ah,v.ag,v.gD,(zY l:Int),0⟩=V ⟨l,v.fName,v.bS,v.ah,v.ag,v.gD,(zY l:Int),(i:Int)⟩:=e1;unfold akE avl Hy;rw[e1'];rcases hc with ⟨rfl,hc⟩|⟨hi,hc⟩
 ·rw[AU λj hj=>by have:=hc j hj;simpa using this];simp
 ·have hc':(l[i]!.fName.toList==v.fName.toList)=J:=by simpa using hc
  rw[Nc hi hc'];unfold ajx;simp only[zg,hc'];simp[hi]
def J8(l:af bh)(hl:zY l<=1000000)(n:Nat)(hn:n<=zY l)(v:bh):
  ∃i:Nat,MB ⟨l,n,0,v⟩=V ⟨l,n,(i:Int),v⟩/\((i=n/\((l.take n).any λw=>w.fName.toList==v.fName.toList)=O)\/(i<n/\(l[i]!.fName.toList==v.fName.toList)=J/\((l.take n).any λw=>w.fName.toList==v.fName.toList)=J)):=by
 have hlen:zY (l.take n)=n:=by rw[zD];omega
 have hget:∀i,i<n->(l.take n)[i]! =l[i]! :=λi hi=>by
  rw[getElem!_pos _ i au,getElem!_pos _ i au,xK]
 obtain⟨i,e1,hc⟩:=ox (rnd:=L2) (l.take n) (λi=>⟨l,(n:Int),(i:Int),v⟩) (λ_ w=> !(w.fName.toList==v.fName.toList)) (λi hi=>by
  have hw:=jQ hi au;unfold L2 vN;grind) (by rw[hlen];unfold L2 vN;simp)
 refine⟨i,e1,?_⟩;rw[hlen]at hc;rcases hc with ⟨rfl,hc⟩|⟨hi,hc⟩
 ·exact .inl ⟨rfl,AU λj hj=>by have:=hc j au;simpa using this⟩
 ·have hc':((l.take n)[i]!.fName.toList==v.fName.toList)=J:=by simpa using hc
  exact .inr ⟨hi,by rw[<-hget i hi];exact hc',Nc au hc'⟩
def EJ(a b:af az):kS (a++b)=kS a+kS b:=by simp[kS]
def GK(l:af az)(i:Nat):kS (l.take i)<=kS l:=by
 have:=EJ (l.take i) (l.drop i);rw[xA]at this;omega
def Kt(l:af az):zY l<=kS l:=by
 induction l with
 |nil=>simp
 |cons a l ih=>rw[rN];have:=abI a;simp;omega
def ajL(a b:af aB):fK (a++b)=fK a+fK b:=by simp[fK]
def acI(l:af aB)(i:Nat):fK (l.take i)<=fK l:=by
 have:=ajL (l.take i) (l.drop i);rw[xA]at this;omega
def atr(s:aB):0<nS s:=by rw[qh];omega
def ko(l:af aB):zY l<=fK l:=by
 induction l with
 |nil=>simp
 |cons a l ih=>rw[oP];have:=atr a;simp;omega
def H8{l:af az}{i:Nat}(hi:i<zY l):kS (l.take i)+nT l[i]!<=kS l:=by
 have:=GK l (i+1);rw[bD hi,qJ]at this;omega
def E8{l:af aB}{i:Nat}(hi:i<zY l):fK (l.take i)+nS l[i]!<=fK l:=by
 have:=acI l (i+1);rw[bD hi,QN]at this;omega
def U1(l:af az)(h:∀k∈l,dT k<=nT k):∀i,i<=zY l->RI (l.take i)<=kS (l.take i):=by
 intro i;induction i with
 |zero=>intro _;simp[RI]
 |succ i ih=>
  intro hi;have h2:=h _ (bf (show i<zY l by omega));rw[bD au,Fy,qJ];omega
def aom(t:az):dT t<=nT t:=by
 have key:∀(n:Nat) (t:az),ze t<n->dT t<=nT t:=by
  intro n;induction n with
  |zero=>intro t h;omega
  |succ n ih=>
   intro t h;have:=U1 t.aq (λk hk=>ih k (by have:=az.eT hk;omega)) (zY t.aq) (zl _);rw[zy]at this;rw[YH,BI];omega
 exact key _ t (zC _)
def aco(l:af az)(i:Nat):RI (l.take i)<=kS l:=by
 have h1:=GK l i;by_cases h:i<=zY l
 ·have:=U1 l (λk _=>aom k) i h;omega
 ·have:=U1 l (λk _=>aom k) (zY l) (zl _);rw[zy]at this;rw[List.take_of_length_le au];omega
def aeU(l:af aB):jZ l<=fK l:=by
 have key:∀(n:Nat) (l:af aB),ze l<n->jZ l<=fK l:=by
  intro n;induction n with
  |zero=>intro t h;omega
  |succ n ih=>
   intro l h;cases l with
   |nil=>rw[jZ];simp
   |cons s l=>
    have q1:=ih s.aQ (by have:=bw (l:=s::l) (zk ..);omega);have q2:=ih s.aX (by have:=bw (l:=s::l) (zk ..);omega);have q3:=ih l (by have:=dY s l;omega);rw[jZ,oP,qh];omega
 exact key _ l (zC _)
def ah6(M:az->aa qL)(t:az)(hM:∀k∈t.aq,M k=V (nT k:Int))(h:nT t<=1000):am3 M t=V (nT t:Int):=by
 have hN:=BI t;have hL:=Kt t.aq;obtain⟨v,e1,hv⟩:=cS (rnd:=MK M) (zY t.aq) (λi (b:Int)=>⟨b,(i:Int),t⟩) (λi b=>b=1+kS (t.aq.take i)) (λi b hi hb=>by
   have hs:=H8 hi;refine⟨b+nT t.aq[i]!,?_,?_⟩
   ·have hk:=hM _ (bf hi);have hw:=jQ hi au;have hw2:ak (b+nT t.aq[i]!)=b+nT t.aq[i]! :=aL;unfold MK;simp only[az.eta];grind
   ·rw[bD hi,qJ];omega) (λb _=>by unfold MK;simp) (b:=1) (by simp[kS])
 have e1':MX M ⟨1,0,t⟩=V ⟨v,(zY t.aq:Int),t⟩:=e1;unfold am3;rw[az.eta,e1',hN];simp[hv]
def WW:∀(n:Nat) (t:az),ze t<n->nT t<=1000->Ux n t=V (nT t:Int)
 |0,_,h,_=>au
 |n+1,t,h,h2=>ah6 (Ux n) t (λk hk=>WW n k (by have:=az.eT hk;omega) (by have:=VP hk;have:=BI t;omega)) h2
def KL(t:az)(h:nT t<=1000):aaH t=V (nT t:Int):=eM (ze t+1) λn hn=>WW n t au h
def ahB(M:az->aa qP)(t:az)(hM:∀k∈t.aq,M k=V (dT k))(h:nT t<=1000):akj M t=V (dT t):=by
 have hN:=BI t;have hL:=Kt t.aq;obtain⟨v,e1,hv⟩:=cS (rnd:=LJ M) (zY t.aq) (λi (b:Int)=>⟨b,(i:Int),t⟩) (λi b=>b=RI (t.aq.take i)) (λi b hi hb=>by
   refine⟨max b (dT t.aq[i]!),?_,?_⟩
   ·have hk:=hM _ (bf hi);have hw:=jQ hi au;unfold LJ;simp only[zR,az.eta];grind
   ·rw[bD hi,Fy,hb]) (λb _=>by unfold LJ;simp) (b:=0) (by simp[RI])
 have e1':KO M ⟨0,0,t⟩=V ⟨v,(zY t.aq:Int),t⟩:=e1;unfold akj;rw[az.eta,e1',YH];have hd:=aco t.aq (zY t.aq);have hp:=KX t.aq;rw[zy]at hv hd;subst hv;have hw2:ak (RI t.aq+1)=RI t.aq+1:=aL;dsimp only;rw[fE];show V (ak (RI t.aq+1))=_
 congr 1
 omega
def YL:∀(n:Nat) (t:az),ze t<n->nT t<=1000->SX n t=V (dT t)
 |0,_,h,_=>au
 |n+1,t,h,h2=>ahB (SX n) t (λk hk=>YL n k (by have:=az.eT hk;omega) (by have:=VP hk;have:=BI t;omega)) h2
def Nh(t:az)(h:nT t<=1000):TY t=V (dT t):=eM (ze t+1) λn hn=>YL n t au h
def Et{s:aB}{l:af aB}(h:s∈l):nS s<=fK l:=by
 induction l with
 |nil=>cases h
 |cons a l ih=>
  rw[oP];rcases zx.1 h with rfl|h
  ·omega
  ·have:=ih h;omega
def gT:af aB->Int
 |[]=>0
 |s::l=>1+nT s.aF+gT s.aQ+gT s.aX+gT l
termination_by l=>ze l
decreasing_by
 ·exact(bw (zk ..)).1
 ·exact(bw (zk ..)).2
 ·exact dY _ _
def EX(l:af aB):0<=gT l/\gT l<=fK l:=by
 have key:∀(n:Nat) (l:af aB),ze l<n->0<=gT l/\gT l<=fK l:=by
  intro n;induction n with
  |zero=>intro t h;omega
  |succ n ih=>
   intro l h;cases l with
   |nil=>rw[gT];simp
   |cons s l=>
    have q1:=ih s.aQ (by have:=bw (l:=s::l) (zk ..);omega);have q2:=ih s.aX (by have:=bw (l:=s::l) (zk ..);omega);have q3:=ih l (by have:=dY s l;omega);rw[gT,oP,qh];omega
 exact key _ l (zC _)
def ZO(l:af aB)(s:aB):gT (l++[s])=gT l+(1+nT s.aF+gT s.aQ+gT s.aX):=by
 induction l with
 |nil=>rw[yB,show gT []=0 by rw[gT],gT,show gT []=0 by rw[gT]];omega
 |cons a l ih=>rw[xz,gT,gT,ih];omega
def anL(M:af aB->aa qM)(l:af aB)(hM:∀s∈l,M s.aQ=V (gT s.aQ)/\M s.aX=V (gT s.aX))(h:fK l<=1000):amR M l=V (gT l):=by
 have hL:=ko l;obtain⟨v,e1,hv⟩:=cS (rnd:=LZ M) (zY l) (λi (b:Int)=>⟨l,b,(i:Int)⟩) (λi b=>b=gT (l.take i)) (λi b hi hb=>by
   have hs:=E8 hi;have hE:=qh l[i]!;obtain⟨k1,k4⟩:=hM _ (bf hi);have k2:=EX l[i]!.aQ;have k3:=EX l[i]!.aX;have k5:=EX (l.take i);have hk:=KL l[i]!.aF au;have hw:=jQ hi au;refine⟨b+(1+nT l[i]!.aF+gT l[i]!.aQ+gT l[i]!.aX),?_,?_⟩
   ·have w1:ak (b+1)=b+1:=aL;have w2:ak (b+1+nT l[i]!.aF)=b+1+nT l[i]!.aF:=aL;have w3:ak (b+1+nT l[i]!.aF+gT l[i]!.aQ)=b+1+nT l[i]!.aF+gT l[i]!.aQ:=aL;have w4:ak (b+1+nT l[i]!.aF+gT l[i]!.aQ+gT l[i]!.aX)=b+(1+nT l[i]!.aF+gT l[i]!.aQ+gT l[i]!.aX):=by rw[aL];omega
    unfold LZ;simp only[az.eta];grind
   ·rw[bD hi,ZO];omega) (λb _=>by unfold LZ;simp) (b:=0) (by simp[gT])
 have e1':Ml M ⟨l,0,0⟩=V ⟨l,v,(zY l:Int)⟩:=e1;unfold amR;rw[e1'];simp[hv]
def gC{s:aB}{l:af aB}(h:s∈l):fK s.aQ<=fK l/\fK s.aX<=fK l:=by
 have:=Et h;have:=qh s;omega
def K5:∀(n:Nat) (l:af aB),ze l<n->fK l<=1000->TT n l=V (gT l)
 |0,_,h,_=>au
 |n+1,l,h,h2=>anL (TT n) l (λs hs=>⟨K5 n _ (by have:=bw hs;omega) (by have:=gC hs;omega),K5 n _ (by have:=bw hs;omega) (by have:=gC hs;omega)⟩) h2
def aiL(l:af aB)(h:fK l<=1000):ani l=V (gT l):=eM (ze l+1) λn hn=>K5 n l au h
def aoi(M:af aB->aa rI)(l:af aB)(hM:∀s∈l,M s.aQ=V (jZ s.aQ)/\M s.aX=V (jZ s.aX))(h:fK l<=1000):am9 M l=V (jZ l):=by
 have hL:=ko l;obtain⟨v,e1,hv⟩:=cS (rnd:=NB M) (zY l) (λi (b:Int)=>⟨l,b,(i:Int)⟩) (λi b=>b=jZ (l.take i)) (λi b hi hb=>by
   obtain⟨k1,k4⟩:=hM _ (bf hi);have k2:=aeU l[i]!.aQ;have k3:=aeU l[i]!.aX;have k5:=gC (bf hi);have k6:=Be l[i]!.aQ;have k7:=Be l[i]!.aX;have hw:=jQ hi au;refine⟨max b (max (jZ l[i]!.aQ+1) (jZ l[i]!.aX+1)),?_,?_⟩
   ·have w1:ak (jZ l[i]!.aQ+1)=jZ l[i]!.aQ+1:=aL;have w2:ak (jZ l[i]!.aX+1)=jZ l[i]!.aX+1:=aL;unfold NB;simp only[zg];grind
   ·rw[bD hi,ac6];omega) (λb _=>by unfold NB;simp) (b:=0) (by simp[jZ])
 have e1':KT M ⟨l,0,0⟩=V ⟨l,v,(zY l:Int)⟩:=e1;unfold am9;rw[e1'];simp[hv]
def KF:∀(n:Nat) (l:af aB),ze l<n->fK l<=1000->SJ n l=V (jZ l)
 |0,_,h,_=>au
 |n+1,l,h,h2=>aoi (SJ n) l (λs hs=>⟨KF n _ (by have:=bw hs;omega) (by have:=gC hs;omega),KF n _ (by have:=bw hs;omega) (by have:=gC hs;omega)⟩) h2
def ahG(l:af aB)(h:fK l<=1000):amB l=V (jZ l):=eM (ze l+1) λn hn=>KF n l au h
def PX(s:aB):Bool:=vn (12<dT s.aF)||fJ s.aQ||fJ s.aX
def aas(l:af aB):fJ l=l.any PX:=by
 induction l with
 |nil=>rw[fJ];rfl
 |cons s l ih=>rw[fJ,ih,List.any_cons];rfl
def alY(M:af aB->aa qk)(l:af aB)(hM:∀s∈l,M s.aQ=V (fJ s.aQ)/\M s.aX=V (fJ s.aX))(h:fK l<=1000):an4 M l=V (fJ l):=by
 have hL:=ko l;have hT:∀i,i<zY l->TY l[i]!.aF=V (dT l[i]!.aF):=λi hi=>Nh _ (by have:=Et (bf hi);have:=qh l[i]!;omega);obtain⟨i,e1,hc⟩:=ox (rnd:=L1 M) l (λi=>⟨l,(i:Int)⟩) (λ_ s=> !PX s) (λi hi=>by
   obtain⟨k1,k4⟩:=hM _ (bf hi);have hk:=hT i hi;have hw:=jQ hi au;unfold L1 PX;simp only[zg,az.eta,k1,k4];cases fJ l[i]!.aQ<;>cases fJ l[i]!.aX<;>grind) (by unfold L1;simp)
 have e1':KJ M ⟨l,0⟩=V ⟨l,(i:Int)⟩:=e1;unfold an4;rw[e1',aas];rcases hc with ⟨rfl,hc⟩|⟨hi,hc⟩
 ·rw[AU λj hj=>by have:=hc j hj;simpa using this];simp
 ·have hc':PX l[i]! =J:=by simpa using hc
  obtain⟨k1,k4⟩:=hM _ (bf hi);have hk:=hT i hi;unfold PX at hc';simp only[zg,az.eta,k1,k4];revert hc';cases fJ l[i]!.aQ<;>cases fJ l[i]!.aX<;>grind
def Lf:∀(n:Nat) (l:af aB),ze l<n->fK l<=1000->SR n l=V (fJ l)
 |0,_,h,_=>au
 |n+1,l,h,h2=>alY (SR n) l (λs hs=>⟨Lf n _ (by have:=bw hs;omega) (by have:=gC hs;omega),Lf n _ (by have:=bw hs;omega) (by have:=gC hs;omega)⟩) h2
def aiY(l:af aB)(h:fK l<=1000):ai4 l=V (fJ l):=eM (ze l+1) λn hn=>Lf n l au h
def fM(b:bq):Bool:=b.fL||vn (1024<b.bH)
def Bw(b:bq):kO b=(fM b,b):=by
 rfl
def dH(d:Int)(b:bq):bq:=⟨b.bH+1,b.fL||vn (12<d)⟩
def BP(t:az)(d:Int)(b:bq):bq:=if fM (dH d b)=J then dH d b else t.aq.attach.foldl (λb k=>BP k.1 (d+1) b) (dH d b)
termination_by ze t
decreasing_by exact az.eT k.2
def IE(l:af az)(d:Int)(b:bq):bq:=l.foldl (λb k=>BP k d b) b
def acW(t:az)(d:Int)(b:bq):BP t d b=if fM (dH d b)=J then dH d b else IE t.aq (d+1) (dH d b):=by
 rw[BP,IE];simp
def Kb(l:af az)(k:az)(d:Int)(b:bq):IE (l++[k]) d b=BP k d (IE l d b):=by simp[IE]
def MsP(d0:Int)(n:Int)(b r:bq):Prop:=r.fL=(b.fL||vn (12<d0))/\b.bH<=r.bH/\r.bH<=b.bH+n
def Mu(t:az)(d:Int)(b:bq)(h0:0<=d)(h1:0<=b.bH)(h2:b.bH+nT t<=1000):MsP (d-1+dT t) (nT t) b (BP t d b):=by
 have key:∀(n:Nat) (t:az) (d:Int) (b:bq),ze t<n->0<=d->0<=b.bH->b.bH+nT t<=1000->MsP (d-1+dT t) (nT t) b (BP t d b):=by
  intro n;induction n with
  |zero=>intro t d b h;omega
  |succ n ih=>
   intro t d b h h0 h1 h2;have hN:=BI t;have hD:=YH t;have hd0:=KX t.aq;rw[acW];by_cases ho:fM (dH d b)=J
   ·rw[bC ho];unfold fM dH at ho;unfold MsP dH;grind
   ·rw[bL ho];have hi:∀i,i<=zY t.aq->MsP (d+RI (t.aq.take i)) (kS (t.aq.take i)) (dH d b) (IE (t.aq.take i) (d+1) (dH d b)):=by
     intro i;induction i with
     |zero=>
      simp only[IE,MsP,RI,dH];grind
     |succ i ihi=>
      intro hi;have q:=ihi au;have hs:=H8 (show i<zY t.aq by omega);have hm:t.aq[i]!∈t.aq:=bf au;have hp:(dH d b).bH=b.bH+1:=rfl;have q2:=ih t.aq[i]! (d+1) (IE (t.aq.take i) (d+1) (dH d b)) (by have:=az.eT hm;omega) au (by have:=q.2.1;omega) (by have:=q.2.2;omega);rw[bD au,Kb,Fy,qJ];obtain⟨a1,a2,a3⟩:=q;obtain⟨c1,c2,c3⟩:=q2;refine⟨?_,au,au⟩;rw[c1,a1];rw[Bool.or_assoc]
      congr 1
      rw[<-Bool.decide_or];apply decide_eq_decide.2;omega
    have q:=hi (zY t.aq) (zl _);unfold MsP at q ⊢;have hp:(dH d b).bH=b.bH+1:=rfl;have hp2:(dH d b).fL=(b.fL||vn (12<d)):=rfl;grind
 exact key _ t d b (zC _) h0 h1 h2
def akz(M:az->Int->bq->aa tX)(t:az)(hM:∀k∈t.aq,∀(d:Int) (b:bq),0<=d->d<=13->0<=b.bH->b.bH+nT k<=1000->M k d b=V (BP k d b))(d:Int)(b:bq)(h0:0<=d)(hd:d<=13)(h1:0<=b.bH)(h2:b.bH+nT t<=1000):akr M t d b=V (BP t d b):=by
 have hN:=BI t;have hL:=Kt t.aq;have hw0:ak (b.bH+1)=b.bH+1:=aL;have hw1:ak (d+1)=d+1:=aL;have hinc:∀x,(⟨b.bH+1,x⟩:bq)=dH d b↔x=(b.fL||vn (12<d)):=λx=>by unfold dH;simp
 have key:fM (dH d b)=O->d<=12/\GQ M ⟨d,t.aq,(zY t.aq:Int),0,dH d b⟩=V ⟨d,t.aq,(zY t.aq:Int),(zY t.aq:Int),IE t.aq (d+1) (dH d b)⟩:=λho=>by
  have hd2:d<=12:=by unfold fM dH at ho;grind
  refine⟨hd2,?_⟩;obtain⟨v,e1,hv,_⟩:=cS (rnd:=Nb M) (zY t.aq) (λi (x:bq)=>⟨d,t.aq,(zY t.aq:Int),(i:Int),x⟩) (λi x=>x=IE (t.aq.take i) (d+1) (dH d b)/\b.bH+1<=x.bH/\x.bH<=b.bH+1+kS (t.aq.take i)) (λi x hi hx=>by
    have hs:=H8 hi;have hk:=hM _ (bf hi) (d+1) x au au au au;have hp:=Mu t.aq[i]! (d+1) x au au au;have hw:=jQ hi au;refine⟨BP t.aq[i]! (d+1) x,?_,?_⟩
    ·unfold Nb;simp only[az.eta];grind
    ·unfold MsP at hp;rw[bD hi,Kb,<-hx.1,qJ];exact⟨rfl,au,au⟩) (λx _=>by unfold Nb;simp) (b:=dH d b) ⟨rfl,zj _,by show b.bH+1<=_;simp[kS]⟩
  rw[zy]at hv;rw[<-hv];exact e1
 rw[acW];unfold akr;rw[hw0];have hm:∀x,x=(b.fL||vn (12<d))->kO ⟨b.bH+1,x⟩=(fM (dH d b),dH d b):=λx hx=>by rw[Bw,(hinc x).2 hx]
 cases hb:b.fL with
 |true=>
  rw[hm J (by rw[hb];rfl)];have ho:fM (dH d b)=J:=by unfold fM dH;simp[hb]
  simp[ho]
 |false=>
  rw[hm (vn (12<d)) (by rw[hb];rfl)];cases ho:fM (dH d b)with
  |true=>simp
  |false=>
   obtain⟨_,e⟩:=key ho;rw[e];simp
def XO:∀(n:Nat) (t:az) (d:Int) (b:bq),ze t<n->0<=d->d<=13->0<=b.bH->b.bH+nT t<=1000->SQ n t d b=V (BP t d b)
 |0,_,_,_,h,_,_,_,_=>au
 |n+1,t,d,b,h,h0,hd,h1,h2=>akz (SQ n) t (λk hk d b a1 a2 a3 a4=>XO n k d b (by have:=az.eT hk;omega) a1 a2 a3 a4) d b h0 hd h1 h2
def XR(t:az)(d:Int)(b:bq)(h0:0<=d)(hd:d<=13)(h1:0<=b.bH)(h2:b.bH+nT t<=1000):Na t d b=V (BP t d b):=eM (ze t+1) λn hn=>XO n t d b au h0 hd h1 h2
def oS(d:Int):af aB->bq->bq
 |[],b=>b
 |s::l,b=>if fM (dH d b)=J then dH d b else oS d l (oS (d+1) s.aX (oS (d+1) s.aQ (BP s.aF 1 (dH d b))))
termination_by l=>ze l
decreasing_by
 ·exact(bw (zk ..)).1
 ·exact(bw (zk ..)).2
 ·exact dY _ _
def Tw(d:Int)(l:af aB)(b:bq)(h0:0<=d)(hd:d<=13)(h1:0<=b.bH)(h2:b.bH+fK l<=1000):(oS d l b).fL=(b.fL||(vn (12<d-1+jZ l)||fJ l))/\b.bH<=(oS d l b).bH/\(oS d l b).bH<=b.bH+fK l:=by
 have key:∀(n:Nat) (d:Int) (l:af aB) (b:bq),ze l<n->0<=d->d<=13->0<=b.bH->b.bH+fK l<=1000->(oS d l b).fL=(b.fL||(vn (12<d-1+jZ l)||fJ l))/\b.bH<=(oS d l b).bH/\(oS d l b).bH<=b.bH+fK l:=by
  intro n;induction n with
  |zero=>intro d l b h;omega
  |succ n ih=>
   intro d l b h h0 hd h1 h2;cases l with
   |nil=>
    rw[oS,jZ,fJ];refine⟨?_,au,by simp[fK]⟩;rw[fE];simp
   |cons s l=>
    have hz:=bw (l:=s::l) (zk ..);have hz2:=dY s l;have hN:=qh s;have hC:=oP s l;have p1:=Be s.aQ;have p2:=Be s.aX;have p3:=Be l;have p4:=avP s.aF;have hp:(dH d b).bH=b.bH+1:=rfl;have hp2:(dH d b).fL=(b.fL||vn (12<d)):=rfl;rw[oS,jZ,fJ];by_cases ho:fM (dH d b)=J
    ·rw[bC ho];unfold fM dH at ho;unfold dH;dsimp only at ho ⊢;refine⟨?_,au,au⟩;grind
    ·rw[bL ho];unfold fM at ho;rw[hp,hp2]at ho;have hb:b.fL=O:=by grind
     have hd2:d<=12:=by grind
     obtain⟨a1,a2,a3⟩:=Mu s.aF 1 (dH d b) au au au;obtain⟨c1,c2,c3⟩:=ih (d+1) s.aQ (BP s.aF 1 (dH d b)) au au au au au;obtain⟨g1,g2,g3⟩:=ih (d+1) s.aX _ au au au (xV au c2) au;obtain⟨k1,k2,k3⟩:=ih d l _ au h0 hd (xV au g2) au;refine⟨?_,au,au⟩;rw[k1,g1,c1,a1,hp2,hb];rw[bW (show ¬12<d by omega)];have e1:vn (12<1-1+dT s.aF)=vn (12<dT s.aF):=by congr 1;rw[show (1:Int)-1+dT s.aF=dT s.aF by omega]
     rw[e1];have e2:vn (12<d-1+max (max (jZ s.aQ+1) (jZ s.aX+1)) (jZ l))=(vn (12<d+1-1+jZ s.aQ)||(vn (12<d+1-1+jZ s.aX)||vn (12<d-1+jZ l))):=by
      rw[<-Bool.decide_or,<-Bool.decide_or];apply decide_eq_decide.2;omega
     rw[e2];generalize vn (12<dT s.aF)=x1;generalize vn (12<d+1-1+jZ s.aQ)=x2;generalize vn (12<d+1-1+jZ s.aX)=x3;generalize vn (12<d-1+jZ l)=x4;generalize fJ s.aQ=x5;generalize fJ s.aX=x6;generalize fJ l=x7;revert x1 x2 x3 x4 x5 x6 x7;decide
 exact key _ d l b (zC _) h0 hd h1 h2
def DR{α:Type}[Inhabited α]{c:Nat->α->Int}:∀(l:af α) (i:Nat),cu c l i=0->∀j,j<zY l->c (i+j) l[j]! =0
 |[],i,_,j,hj=>by simp at hj
 |x::xs,i,h,j,hj=>by
  unfold cu at h;split at h
  ·rename_i hx;cases j with
   |zero=>exact hx
   |succ j=>
    have:=DR xs (i+1) h j (by simpa using hj);rw[show i+1+j=i+(j+1)by omega]at this
    assumption
  ·omega
def cZ(vars:af bh):Prop:=∀v∈vars,-1048576<=v.ah/\v.ah<=v.ag/\v.ag<=1048576
def aaG{vars:af bh}{i:Nat}{v:bh}(h:nX vars i v=0): -1048576<=v.ah/\v.ah<=v.ag/\v.ag<=1048576:=by
 unfold nX jE at h;grind
def oo{vars:af bh}(h:cu (nX vars) vars 0=0):cZ vars:=λv hv=>by
 obtain⟨i,hi,e⟩:=xd hv;have:=DR _ _ h i hi;rw[getElem!_pos vars i hi,e]at this;exact aaG this
def uB(kind:Int):∀(l:af bh) (i:Nat) (n:Int),Qg (λ_ (n:Int) (v:bh)=>if 4096<n*(v.ag-v.ah+1)then(.inr ():Int ⊕ Unit)else .inl (n*(v.ag-v.ah+1))) (λ_=>(G:aa Int)) V (l.filter λv=>vn (v.bS=kind)) i n=Ah kind l n
 |[],i,n=>rfl
 |v::vs,i,n=>by
  unfold Ah;by_cases hv:v.bS=kind
  ·rw[vh (by simpa using hv),bC hv];by_cases h:4096<n*(v.ag-v.ah+1)
   ·rw[bC h,pV (r:=()) (by rw[bC h])]
   ·rw[bL h,tK (by rw[bL h])];exact uB kind vs (i+1) _
  ·rw[vi (by simpa using hv),bL hv];exact uB kind vs i n
def Ij(kind:Int):∀(l:af bh) (i:Nat) (n:Int),Qg (λ_ (n:Int) (v:bh)=>if v.bS=kind then(if 4096<n*(v.ag-v.ah+1)then(.inr ():Int ⊕ Unit)else .inl (n*(v.ag-v.ah+1)))else .inl n) (λ_=>(G:aa Int)) V l i n=Ah kind l n
 |[],i,n=>rfl
 |v::vs,i,n=>by
  unfold Ah;by_cases hv:v.bS=kind
  ·rw[bC hv];by_cases h:4096<n*(v.ag-v.ah+1)
   ·rw[bC h,pV (r:=()) (by rw[bC hv,bC h])]
   ·rw[bL h,tK (b':=n*(v.ag-v.ah+1)) (by rw[bC hv,bL h])];exact Ij kind vs (i+1) _
  ·rw[bL hv,tK (b':=n) (by rw[bL hv])];exact Ij kind vs (i+1) n
def EG{v:bh}(h: -1048576<=v.ah/\v.ah<=v.ag/\v.ag<=1048576){n:Int}(h1:1<=n)(h2:n<=4096):
  1<=n*(v.ag-v.ah+1)/\ak (v.ag-v.ah)=v.ag-v.ah/\ak (v.ag-v.ah+1)=v.ag-v.ah+1/\ak (n*(v.ag-v.ah+1))=n*(v.ag-v.ah+1):=by
 have e1:0<=(n-1)*(v.ag-v.ah+1):=zJ au au;have e2:n*(v.ag-v.ah+1)<=4096*(v.ag-v.ah+1):=zN h2 au;have e3:(n-1)*(v.ag-v.ah+1)=n*(v.ag-v.ah+1)-(v.ag-v.ah+1):=by rw[yD,yc]
 exact⟨au,aL,aL,aL⟩
def Y3(vars:af bh)(hv:cZ vars)(hl:zY vars<=1000000)(kind:Int):vK ⟨kind,[],vars,(zY vars:Int),0⟩=V ⟨kind,vars.filter (λv=>vn (v.bS=kind)),vars,(zY vars:Int),(zY vars:Int)⟩:=by
 obtain⟨v,e1,hV⟩:=cS (rnd:=GB) (zY vars) (λi (b:af bh)=>⟨kind,b,vars,(zY vars:Int),(i:Int)⟩) (λi b=>b=(vars.take i).filter λv=>vn (v.bS=kind)) (λi b hi hb=>by
  have hw:=jQ hi hl;have hv:=hv _ (bf hi);have hb2:zY b<=i:=by rw[hb];exact zG (yq _ _) (by rw[zD];omega)
  rw[bD hi,xh,<-hb];by_cases hk:vars[i]!.bS=kind
  ·refine⟨b++[vars[i]!],?_,?_⟩
   ·have hl2:zY (b++[vars[i]!])<=1073741824:=by simp;omega
    unfold GB pJ;grind
   ·revert hk;generalize vars[i]! =x;intro hk;simp[hk]
  ·refine⟨b,?_,?_⟩
   ·unfold GB pJ;grind
   ·revert hk;generalize vars[i]! =x;intro hk;simp[hk]) (λb _=>by unfold GB pJ;simp) (b:=[]) rfl
 rw[zy]at hV;rw[<-hV];exact e1
def Y5(F:af bh)(hv:cZ F)(hl:zY F<=1000000):
  ∃(i:Nat) (n:Int),uD ⟨F,1,F,(zY F:Int),0⟩=V ⟨F,n,F,(zY F:Int),(i:Int)⟩/\((i=zY F/\Qg (λ_ (n:Int) (v:bh)=>if 4096<n*(v.ag-v.ah+1)then(.inr ():Int ⊕ Unit)else .inl (n*(v.ag-v.ah+1))) (λ_=>(G:aa Int)) V F 0 1=V n)\/
   (i<zY F/\4096<ak (n*aaf F[i]!)/\Qg (λ_ (n:Int) (v:bh)=>if 4096<n*(v.ag-v.ah+1)then(.inr ():Int ⊕ Unit)else .inl (n*(v.ag-v.ah+1))) (λ_=>(G:aa Int)) V F 0 1=G)):=by
 have hm:∀(i:Nat) (n:Int),i<zY F->1<=n->n<=4096->ak (n*aaf F[i]!)=n*(F[i]!.ag-F[i]!.ah+1):=λi n hi h1 h2=>by
  obtain⟨a,b,c,d⟩:=EG (hv _ (bf hi)) h1 h2;unfold aaf;rw[b,c,d]
 obtain⟨i,n,e1,hI,hc⟩:=YJ (rnd:=LM) F (λi (n:Int)=>⟨F,n,F,(zY F:Int),(i:Int)⟩) (λ_ (n:Int) (v:bh)=>if 4096<n*(v.ag-v.ah+1)then(.inr ():Int ⊕ Unit)else .inl (n*(v.ag-v.ah+1))) (λ_=>(G:aa Int)) V (λi n=>1<=n/\n<=4096) (λi n hi hI=>by
  have hw:=jQ hi hl;have h1:=hm i n hi hI.1 hI.2;have h2:=(EG (hv _ (bf hi)) hI.1 hI.2).1;unfold LM sD;simp only[zg];grind) (λb _=>by unfold LM sD;simp) (b:=1) ⟨au,au⟩
 refine⟨i,n,e1,?_⟩;rcases hc with ⟨h1,h2⟩|⟨h1,r,h2,h3⟩
 ·exact .inl ⟨h1,h2⟩
 ·refine .inr ⟨h1,?_,h3⟩;rw[hm i n h1 hI.1 hI.2];by_cases h:4096<n*(F[i]!.ag-F[i]!.ah+1)
  ·exact h
  ·rw[bL h]at h2;cases h2
def MS(vars:af bh)(hv:cZ vars)(hl:zY vars<=1000000)(kind:Int)(hk:kind=1\/kind=2\/kind=3):anq vars kind=V (match Ah kind vars 1 with|V n=>(n,0)|G=>(0,4)):=by
 have e0:=Y3 vars hv hl kind;obtain⟨i,n,e1,hc⟩:=Y5 (vars.filter λv=>vn (v.bS=kind)) (λv h=>hv v (z8.1 h).1) (zG (yq _ _) hl);rw[uB]at hc;unfold anq arX pJ sD;rcases hk with rfl|rfl|rfl
 all_goals
  simp only[e0,e1];rcases hc with ⟨rfl,hc⟩|⟨hi,h2,hc⟩
  ·simp[hc]
  ·simp only[zg,h2,hc];simp[hi]
def Mn(vars:af bh)(hv:cZ vars)(hl:zY vars<=1000000)(kind:Int):aac vars kind=V (match Ah kind vars 1 with|V n=>n|G=>4097):=by
 have hm:∀(i:Nat) (n:Int),i<zY vars->1<=n->n<=4096->ak (n*ak (ak (vars[i]!.ag-vars[i]!.ah)+1))=n*(vars[i]!.ag-vars[i]!.ah+1):=λi n hi h1 h2=>by
  obtain⟨a,b,c,d⟩:=EG (hv _ (bf hi)) h1 h2;rw[b,c,d]
 obtain⟨i,n,e1,hI,hc⟩:=YJ (rnd:=LC) vars (λi (n:Int)=>⟨vars,kind,n,(i:Int)⟩) (λ_ (n:Int) (v:bh)=>if v.bS=kind then(if 4096<n*(v.ag-v.ah+1)then(.inr ():Int ⊕ Unit)else .inl (n*(v.ag-v.ah+1)))else .inl n) (λ_=>(G:aa Int)) V (λi n=>1<=n/\n<=4096) (λi n hi hI=>by
  have hw:=jQ hi hl;have h1:=hm i n hi hI.1 hI.2;have h2:=(EG (hv _ (bf hi)) hI.1 hI.2).1;unfold LC H9;simp only[zg];grind) (λb _=>by unfold LC H9;simp) (b:=1) ⟨au,au⟩
 rw[Ij]at hc;have e1':L7 ⟨vars,kind,1,0⟩=V ⟨vars,kind,n,(i:Int)⟩:=e1;unfold aac H9;rw[e1'];rcases hc with ⟨rfl,hc⟩|⟨hi,r,h2,hc⟩
 ·simp[hc]
 ·have h1:=hm i n hi hI.1 hI.2;grind
def G6(kind:Int):∀(l:af bh) (n m:Int),n<=4096->Ah kind l n=V m->m<=4096
 |[],n,m,h,e=>by unfold Ah at e;cases e;exact h
 |v::vs,n,m,h,e=>by
  unfold Ah at e;split at e
  ·split at e
   ·cases e
   ·exact G6 kind vs _ m au e
  ·exact G6 kind vs n m h e
def abm(vars:af bh)(hl:zY vars<=1000000)(i:Nat)(hi:i<zY vars):(nX vars i vars[i]! =0->Cv ⟨vars,vars,(zY vars:Int),(i:Int)⟩=V (V ⟨vars,vars,(zY vars:Int),((i+1:Nat):Int)⟩))/\(nX vars i vars[i]!≠0->Cv ⟨vars,vars,(zY vars:Int),(i:Int)⟩=V G):=by
 have hw:=jQ hi hl;have h1:=EE vars[i]!.fName;have h2:=VE (vars.take i) (by rw[zD];omega) vars[i]!;unfold Cv GY nX;simp only[zg,Es,h1,h2];generalize kH vars[i]!.fName=B;generalize ((vars.take i).any λw=>w.fName.toList==vars[i]!.fName.toList)=A;generalize jE vars[i]!.ah vars[i]!.ag=C;cases A<;>cases B<;>cases C<;>simp only[cK]<;>grind
def aob(vars:af bh)(hl:zY vars<=1000000):ajD vars=V (jP vars):=by
 obtain⟨i,e1,hc⟩:=ud (rnd:=Cv) vars (λi=>⟨vars,vars,(zY vars:Int),(i:Int)⟩) (nX vars) (λi hi=>abm vars hl i hi) (by unfold Cv GY;simp);have e1':Nq ⟨vars,vars,(zY vars:Int),0⟩=V ⟨vars,vars,(zY vars:Int),(i:Int)⟩:=e1;unfold ajD GY vT jP;rw[e1'];dsimp only;rcases hc with ⟨rfl,hc⟩|⟨hi,h0,hc⟩
 ·have hv:=oo hc;rw[fE,ct,bL (by rw[hc];simp)];have hr:∀k:Nat,k<3->ak ((k:Int)+1)=((k+1:Nat):Int):=λk hk=>jQ hk (by decide);have k1:=MS vars hv hl 1 (.inl rfl);have k2:=MS vars hv hl 2 (.inr (.inl rfl));have k3:=MS vars hv hl 3 (.inr (.inr rfl));have r1:rX ⟨vars,[1,2,3],3,0⟩=match Ah 1 vars 1 with|V _=>V (V ⟨vars,[1,2,3],3,1⟩)|G=>V G:=by
   unfold rX vT;simp[k1];cases Ah 1 vars 1 with
   |none=>simp
   |some n=>simp;exact hr 0 (by decide)
  have r2:rX ⟨vars,[1,2,3],3,1⟩=match Ah 2 vars 1 with|V _=>V (V ⟨vars,[1,2,3],3,2⟩)|G=>V G:=by
   unfold rX vT;simp[k2];cases Ah 2 vars 1 with
   |none=>simp
   |some n=>simp;exact hr 1 (by decide)
  have r3:rX ⟨vars,[1,2,3],3,2⟩=match Ah 3 vars 1 with|V n=>if 256<n then V G else V (V ⟨vars,[1,2,3],3,3⟩)|G=>V G:=by
   unfold rX vT;simp[k3];cases Ah 3 vars 1 with
   |none=>simp
   |some n=>
    by_cases h:256<n
    ·simp[h]
    ·simp[h];exact hr 2 (by decide)
  unfold Iz;cases s1:Ah 1 vars 1 with
  |none=>
   rw[s1]at r1 k1;have e:sB ⟨vars,[1,2,3],3,0⟩=V ⟨vars,[1,2,3],3,0⟩:=cq λr=>by rw[r1];simp
   rw[show ((↑(3:Int):Int))=3 from rfl,e];simp[k1]
  |some n1=>
   rw[s1]at r1 k1;cases s2:Ah 2 vars 1 with
   |none=>
    rw[s2]at r2 k2;have e:sB ⟨vars,[1,2,3],3,0⟩=V ⟨vars,[1,2,3],3,1⟩:=(bP r1).trans (cq λr=>by rw[r2];simp);rw[show ((↑(3:Int):Int))=3 from rfl,e];simp[k2]
   |some n2=>
    rw[s2]at r2 k2;cases s3:Ah 3 vars 1 with
    |none=>
     rw[s3]at r3 k3;have e:sB ⟨vars,[1,2,3],3,0⟩=V ⟨vars,[1,2,3],3,2⟩:=(bP r1).trans ((bP r2).trans (cq λr=>by rw[r3];simp));rw[show ((↑(3:Int):Int))=3 from rfl,e];simp[k3]
    |some n3=>
     rw[s3]at r3 k3;dsimp only at r3;by_cases h:256<n3
     ·rw[bC h]at r3;have e:sB ⟨vars,[1,2,3],3,0⟩=V ⟨vars,[1,2,3],3,2⟩:=(bP r1).trans ((bP r2).trans (cq λr=>by rw[r3];simp));rw[show ((↑(3:Int):Int))=3 from rfl,e];simp[k3,h]
     ·rw[bL h]at r3;have e:sB ⟨vars,[1,2,3],3,0⟩=V ⟨vars,[1,2,3],3,3⟩:=(bP r1).trans ((bP r2).trans ((bP r3).trans (cq λr=>by unfold rX vT;simp)));rw[show ((↑(3:Int):Int))=3 from rfl,e];simp[h]
 ·have h1:=EE vars[i]!.fName;have h2:=VE (vars.take i) (by rw[zD];omega) vars[i]!;rw[hc,bC h0];revert h0;unfold nX;simp only[zR,zg,Es,h1,h2];generalize kH vars[i]!.fName=B;generalize ((vars.take i).any λw=>w.fName.toList==vars[i]!.fName.toList)=A;generalize jE vars[i]!.ah vars[i]!.ag=C;intro h0;cases A<;>cases B<;>cases C<;>simp only[cD]at h0 ⊢ <;>grind
def ahI(vars:af bh)(hl:zY vars<=1000000)(i:Nat)(hi:i<zY vars):(nX vars i vars[i]! =0->Cc ⟨vars,(i:Int)⟩=V (V ⟨vars,((i+1:Nat):Int)⟩))/\(nX vars i vars[i]!≠0->Cc ⟨vars,(i:Int)⟩=V G):=by
 have hw:=jQ hi hl;have h1:=EN vars[i]!.fName;obtain⟨j,h2,h3⟩:=J8 vars hl i au vars[i]!;unfold Cc Fk vN nX;simp only[zg,EK,h1,h2];generalize kH vars[i]!.fName=B;generalize ((vars.take i).any λw=>w.fName.toList==vars[i]!.fName.toList)=A at h3;generalize jE vars[i]!.ah vars[i]!.ag=C;rcases h3 with ⟨rfl,rfl⟩|⟨hj,h4,rfl⟩
 ·cases B<;>cases C<;>simp only[cK]<;>grind
 ·simp only;cases B<;>cases C<;>simp only[cK]<;>grind
def an8(vars:af bh)(hl:zY vars<=1000000):aj3 vars=V (jP vars):=by
 obtain⟨i,e1,hc⟩:=ud (rnd:=Cc) vars (λi=>⟨vars,(i:Int)⟩) (nX vars) (λi hi=>ahI vars hl i hi) (by unfold Cc Fk vN;simp);have e1':NP ⟨vars,0⟩=V ⟨vars,(i:Int)⟩:=e1;unfold aj3 Fk vN jP;rw[e1'];dsimp only;rcases hc with ⟨rfl,hc⟩|⟨hi,h0,hc⟩
 ·have hv:=oo hc;rw[Mn vars hv hl 1,Mn vars hv hl 2,Mn vars hv hl 3];have b1:=G6 1 vars 1;have b2:=G6 2 vars 1;unfold Iz;revert b1 b2;cases Ah 1 vars 1<;>cases Ah 2 vars 1<;>cases Ah 3 vars 1<;>intro b1 b2<;>simp only[vk,Option.isSome_some]<;>(try have c1:=b1 _ au rfl)<;>(try have c2:=b2 _ au rfl)<;>grind
 ·have h1:=EN vars[i]!.fName;obtain⟨j,h2,h3⟩:=J8 vars hl i au vars[i]!;rw[hc,bC h0];revert h0;unfold nX;simp only[zg,EK,h1,h2];generalize kH vars[i]!.fName=B;generalize ((vars.take i).any λw=>w.fName.toList==vars[i]!.fName.toList)=A at h3;generalize jE vars[i]!.ah vars[i]!.ag=C;intro h0;rcases h3 with ⟨rfl,rfl⟩|⟨hj,h4,rfl⟩
  ·cases B<;>cases C<;>simp only[cK]at h0 ⊢ <;>grind
  ·simp only[h4];cases B<;>cases C<;>simp only[cD]at h0 ⊢ <;>grind
def aiZ(o:Int):O7 o=cg o:=by
 unfold O7 cg;grind
def al2(o:Int):IJ o=if o=25 then-2 else(cg o).1:=by
 unfold IJ cg;grind (splits:=40)
def ami(M:af bh->az->Bool->aa tQ)(vars:af bh)(inp:Bool)(t:az)(hM:∀k∈t.aq,M vars k inp=V (dI vars inp k)):aiB M vars t inp=V (dI vars inp t):=by
 have key:zY t.aq<=1000000->∃i:Nat,Cz M ⟨vars,inp,t.aq,(zY t.aq:Int),0⟩=V ⟨vars,inp,t.aq,(zY t.aq:Int),(i:Int)⟩/\((i=zY t.aq/\t.aq.all (dI vars inp)=J)\/(i<zY t.aq/\dI vars inp t.aq[i]! =O/\t.aq.all (dI vars inp)=O)):=λhl=>by
  obtain⟨i,e1,hc⟩:=ox (rnd:=KI M) t.aq (λi=>⟨vars,inp,t.aq,(zY t.aq:Int),(i:Int)⟩) (λ_ k=>dI vars inp k) (λi hi=>by
   have hw:=jQ hi hl;have hk:=hM _ (bf hi);unfold KI;simp only[zg,az.eta,hk,hw];cases dI vars inp t.aq[i]! <;>simp[hi]) (by unfold KI;simp)
  refine⟨i,e1,?_⟩;rcases hc with ⟨rfl,hc⟩|⟨hi,hc⟩
  ·exact .inl ⟨rfl,Gi hc⟩
  ·exact .inr ⟨hi,hc,Bv hi hc⟩
 unfold aiB;rw[aiZ,mh];unfold Dz;by_cases hn:0<=(cg t.bF).1/\(cg t.bF).1<=zY t.aq/\(zY t.aq:Int)<=(cg t.bF).2
 ·have h33:(cg t.bF).2<=33:=by unfold cg;grind
  obtain⟨i,e,hc⟩:=key au;rw[bX hn,bW (show ¬(cg t.bF).1<0 by omega),bW (show ¬(zY t.aq:Int)<(cg t.bF).1 by omega),bW (show ¬(cg t.bF).2<(zY t.aq:Int)by omega),e];generalize t.aq.all (dI vars inp)=A at hc;simp only[zg];rcases hc with ⟨rfl,rfl⟩|⟨hi,h2,rfl⟩
  ·cases inp<;>grind
  ·have hk:=hM _ (bf hi);simp only[az.eta];cases inp<;>grind
 ·rw[bW hn];grind
def XD(vars:af bh)(inp:Bool):∀(n:Nat) (t:az),ze t<n->U6 n vars t inp=V (dI vars inp t)
 |0,_,h=>au
 |n+1,t,h=>ami (U6 n) vars inp t (λk hk=>XD vars inp n k (by have:=az.eT hk;omega))
def ak9(vars:af bh)(inp:Bool)(t:az):ahC vars t inp=V (dI vars inp t):=eM (ze t+1) λn hn=>XD vars inp n t au
def akM(M:af bh->az->Bool->aa tO)(vars:af bh)(inp:Bool)(t:az)(hM:∀k∈t.aq,M vars k inp=V (dI vars inp k)):ahs M vars t inp=V (dI vars inp t):=by
 have key:zY t.aq<=1000000->∃i:Nat,Hg M ⟨vars,inp,0,t⟩=V ⟨vars,inp,(i:Int),t⟩/\((i=zY t.aq/\t.aq.all (dI vars inp)=J)\/(i<zY t.aq/\dI vars inp t.aq[i]! =O/\t.aq.all (dI vars inp)=O)):=λhl=>by
  obtain⟨i,e1,hc⟩:=ox (rnd:=Lt M) t.aq (λi=>⟨vars,inp,(i:Int),t⟩) (λ_ k=>dI vars inp k) (λi hi=>by
   have hw:=jQ hi hl;have hk:=hM _ (bf hi);unfold Lt;dsimp only;simp only[zg,az.eta,hk,hw];cases dI vars inp t.aq[i]! <;>simp[hi]) (by unfold Lt;simp)
  refine⟨i,e1,?_⟩;rcases hc with ⟨rfl,hc⟩|⟨hi,hc⟩
  ·exact .inl ⟨rfl,Gi hc⟩
  ·exact .inr ⟨hi,hc,Bv hi hc⟩
 unfold ahs;rw[al2,mh];unfold Dz;have hk0:(cg t.bF).1= -1\/0<=(cg t.bF).1:=by unfold cg;grind
 have hk1:t.bF≠25->(cg t.bF).1=(cg t.bF).2:=by unfold cg;grind
 have hk2:t.bF=25->cg t.bF=(2,33):=by unfold cg;grind
 have h33:(cg t.bF).2<=33:=by unfold cg;grind
 have hk3:t.bF=25->(cg t.bF).1=2/\(cg t.bF).2=33:=λh=>by rw[hk2 h];exact⟨rfl,rfl⟩
 generalize (cg t.bF).1=a at*;generalize (cg t.bF).2=b at*;by_cases hn:0<=a/\a<=zY t.aq/\(zY t.aq:Int)<=b
 ·obtain⟨i,e,hc⟩:=key au;rw[bX hn,az.eta,e];generalize t.aq.all (dI vars inp)=A at hc;simp only[zR,zg];rcases hc with ⟨rfl,rfl⟩|⟨hi,h2,rfl⟩
  ·cases inp<;>grind
  ·have hk:=hM _ (bf hi);simp only[az.eta,hk,h2];by_cases h25:t.bF=25
   ·rw[bC h25,h25];cases inp<;>grind (splits:=30)
   ·rw[bL h25];cases inp<;>grind (splits:=30)
 ·rw[bW hn];grind
def VG(vars:af bh)(inp:Bool):∀(n:Nat) (t:az),ze t<n->UB n vars t inp=V (dI vars inp t)
 |0,_,h=>au
 |n+1,t,h=>akM (UB n) vars inp t (λk hk=>VG vars inp n k (by have:=az.eT hk;omega))
def amU(vars:af bh)(inp:Bool)(t:az):anE vars t inp=V (dI vars inp t):=eM (ze t+1) λn hn=>VG vars inp n t au
def ID(s:Span):Prop:= -1048576<=s.ah/\s.ah<=s.ag/\s.ag<=1048576
def EZ(a b:Span):ZA a b=gh a b:=rfl
def qR{a b:Int}(h1: -1048576<=a)(h2:a<=1048576)(h3: -1048576<=b)(h4:b<=1048576): -1099511627776<=a*b/\a*b<=1099511627776:=by
 have e1:(1048576-a)*(1048576-b)≥0:=zJ au au;have e2:(1048576+a)*(1048576+b)≥0:=zJ au au;have e3:(1048576-a)*(1048576+b)≥0:=zJ au au;have e4:(1048576+a)*(1048576-b)≥0:=zJ au au;grind
def ais(a b:Span)(ha:ID a)(hb:ID b):alN a b=V (gh (gh (gh ⟨a.ah*b.ah,a.ah*b.ah⟩ ⟨a.ah*b.ag,a.ah*b.ag⟩) ⟨a.ag*b.ah,a.ag*b.ah⟩) ⟨a.ag*b.ag,a.ag*b.ag⟩):=by
 unfold ID at ha hb;have w1:Cm a.ah b.ah=a.ah*b.ah:=by have:=qR (a:=a.ah) (b:=b.ah) au au au au;exact aL
 have w2:Cm a.ah b.ag=a.ah*b.ag:=by have:=qR (a:=a.ah) (b:=b.ag) au au au au;exact aL
 have w3:Cm a.ag b.ah=a.ag*b.ah:=by have:=qR (a:=a.ag) (b:=b.ah) au au au au;exact aL
 have w4:Cm a.ag b.ag=a.ag*b.ag:=by have:=qR (a:=a.ag) (b:=b.ag) au au au au;exact aL
 unfold alN uX;rw[w1,w2,w3,w4];generalize a.ah*b.ah=p;generalize a.ah*b.ag=q;generalize a.ag*b.ah=r;generalize a.ag*b.ag=s;have e:Gu ⟨[q,r,s],(3:Int),0,⟨0,0⟩,⟨p,p⟩⟩=V ⟨[q,r,s],3,3,⟨0,0⟩,gh (gh (gh ⟨p,p⟩ ⟨q,q⟩) ⟨r,r⟩) ⟨s,s⟩⟩:=by
  have k1:rC ⟨[q,r,s],(3:Int),0,⟨0,0⟩,⟨p,p⟩⟩=V (V ⟨[q,r,s],(3:Int),1,⟨0,0⟩,gh ⟨p,p⟩ ⟨q,q⟩⟩):=by unfold rC uX;simp[EZ,aL]
  have k2:rC ⟨[q,r,s],(3:Int),1,⟨0,0⟩,gh ⟨p,p⟩ ⟨q,q⟩⟩=V (V ⟨[q,r,s],(3:Int),2,⟨0,0⟩,gh (gh ⟨p,p⟩ ⟨q,q⟩) ⟨r,r⟩⟩):=by unfold rC uX;simp[EZ,aL]
  have k3:rC ⟨[q,r,s],(3:Int),2,⟨0,0⟩,gh (gh ⟨p,p⟩ ⟨q,q⟩) ⟨r,r⟩⟩=V (V ⟨[q,r,s],(3:Int),3,⟨0,0⟩,gh (gh (gh ⟨p,p⟩ ⟨q,q⟩) ⟨r,r⟩) ⟨s,s⟩⟩):=by unfold rC uX;simp[EZ,aL]
  unfold Gu;rw[bP k1,bP k2,bP k3];exact cq λr=>by unfold rC uX;simp
 rw[show (zY ([q,r,s]:af Int):Int)=3 from rfl,e];simp
def alQ{a b:Span}(ha:ID a)(hb:ID b):ID (gh a b):=by
 unfold ID gh at*;grind
def nU:∀(l:af Span) (a:Span),ID a->(∀x∈l,ID x)->ID (l.foldl gh a)
 |[],a,ha,_=>ha
 |x::l,a,ha,h=>nU l (gh a x) (alQ ha (h x (zk ..))) λy hy=>h y (zL _ hy)
def aaC(l:af Span)(hl:zY l<=1000000)(z a:Span):FD ⟨l,(zY l:Int),0,z,a⟩=V ⟨l,(zY l:Int),(zY l:Int),z,l.foldl gh a⟩:=by
 obtain⟨v,e1,hv⟩:=cS (rnd:=L4) (zY l) (λi (b:Span)=>⟨l,(zY l:Int),(i:Int),z,b⟩) (λi b=>b=(l.take i).foldl gh a) (λi b hi hb=>by
  have hw:=jQ hi hl;refine⟨gh b l[i]!,?_,?_⟩
  ·unfold L4 CV;simp only[EZ];grind
  ·rw[bD hi,List.foldl_append,hb];rfl) (λb _=>by unfold L4 CV;simp) (b:=a) rfl
 rw[zy]at hv;rw[<-hv];exact e1
def FX(vars:af bh)(t:az)(k:af Span):Prop:=(0<=(cg t.bF).1/\(cg t.bF).1<=zY k/\(zY k:Int)<=(cg t.bF).2)/\(t.bF=24->0<=t.fN/\t.fN<zY vars)/\∀s∈k,ID s
def ake(vars:af bh)(t:az)(k:af Span)(h:FX vars t k):agT vars t k=V (jC vars t k):=by
 obtain⟨hk,h24,hI⟩:=h;have h0:1<=(cg t.bF).1->ID k[0]! :=λh=>hI _ (bf au);have h1:2<=(cg t.bF).1->ID k[1]! :=λh=>hI _ (bf au);have h33:(cg t.bF).2<=33:=by unfold cg;grind
 have hd:zY (k.drop 2)<=1000000:=by rw[zV];omega
 have W:∀n:Int,-8796093022208<=n->n<=8796093022208->ak n=n:=λn a b=>aL;unfold agT CV jC;rw[aaC _ hd];have cs:t.bF=0\/t.bF=24\/t.bF=6\/t.bF=8\/t.bF=9\/t.bF=10\/t.bF=11\/t.bF=12\/t.bF=21\/t.bF=22\/t.bF=23\/t.bF=25\/(t.bF≠0/\t.bF≠24/\t.bF≠6/\t.bF≠8/\t.bF≠9/\t.bF≠10/\t.bF≠11/\t.bF≠12/\t.bF≠21/\t.bF≠22/\t.bF≠23/\t.bF≠25):=au;rcases cs with h|h|h|h|h|h|h|h|h|h|h|h|h
 ·simp[h]
 ·simp[h,h24 h]
 ·have hl:1<=(cg t.bF).1:=by rw[h];decide
  obtain⟨a1,a2,a3⟩:=h0 hl;have w1:ak ((0:Int)-k[0]!.ag)= -k[0]!.ag:=by rw[W _ au au];omega
  have w2:ak ((0:Int)-k[0]!.ah)= -k[0]!.ah:=by rw[W _ au au];omega
  have i0:(0:Int)<(zY k:Int):=au;simp only[Z0,h,zR,Int.reduceEq,reduceIte,i0,w1,w2,zj,IT]
 ·have hl:2<=(cg t.bF).1:=by rw[h];decide
  obtain⟨a1,a2,a3⟩:=h0 au;obtain⟨b1,b2,b3⟩:=h1 hl;have w1:=W (k[0]!.ah+k[1]!.ah) au au;have w2:=W (k[0]!.ag+k[1]!.ag) au au;have i0:(0:Int)<(zY k:Int):=au;have i1:(1:Int)<(zY k:Int):=au;simp only[Z0,h,zR,Int.reduceEq,Int.reduceLE,reduceIte,i0,i1,w1,w2,zj,IT,cW]
 ·have hl:2<=(cg t.bF).1:=by rw[h];decide
  obtain⟨a1,a2,a3⟩:=h0 au;obtain⟨b1,b2,b3⟩:=h1 hl;have w1:=W (k[0]!.ah-k[1]!.ag) au au;have w2:=W (k[0]!.ag-k[1]!.ah) au au;have i0:(0:Int)<(zY k:Int):=au;have i1:(1:Int)<(zY k:Int):=au;simp only[Z0,h,zR,Int.reduceEq,Int.reduceLE,reduceIte,i0,i1,w1,w2,zj,IT,cW]
 ·have hl:2<=(cg t.bF).1:=by rw[h];decide
  have e18:=ais _ _ (h0 au) (h1 hl);have i0:(0:Int)<(zY k:Int):=au;have i1:(1:Int)<(zY k:Int):=au;simp only[Z0,h,zR,Int.reduceEq,Int.reduceLE,reduceIte,i0,i1,e18,zj,IT,cW]
 ·have hl:2<=(cg t.bF).1:=by rw[h];decide
  obtain⟨a1,a2,a3⟩:=h0 au;obtain⟨b1,b2,b3⟩:=h1 hl;have w1:ak ((0:Int)-k[0]!.ah)= -k[0]!.ah:=by rw[W _ au au];omega
  have w2:ak ((0:Int)-if k[0]!.ag< -k[0]!.ah then-k[0]!.ah else k[0]!.ag)= -(if k[0]!.ag< -k[0]!.ah then-k[0]!.ah else k[0]!.ag):=by split<;>(rw[W _ au au];omega)
  have i0:(0:Int)<(zY k:Int):=au;have i1:(1:Int)<(zY k:Int):=au;simp only[Z0,h,zR,Int.reduceEq,Int.reduceLE,reduceIte,i0,i1,w1,w2,zj,IT,cW];by_cases c1:(0:Int)<=k[0]!.ah<;>by_cases c2:(0:Int)<=k[1]!.ah<;>simp only[cG,cD,gK,c1,c2,and_true,and_false]
 ·have hl:2<=(cg t.bF).1:=by rw[h];decide
  obtain⟨b1,b2,b3⟩:=h1 hl;have w1:=W (k[1]!.ah+1) au au;have w2:=W (k[1]!.ag-1) au au;have i1:(1:Int)<(zY k:Int):=au;simp only[Z0,h,zR,Int.reduceEq,Int.reduceLE,reduceIte,i1,w1,w2,zj,IT,cW];by_cases c1:k[1]!.ah<0<;>by_cases c2:(0:Int)<k[1]!.ag<;>simp only[gK,c1,c2]
  ·rw[qE,qE]
  ·rw[qE]
  ·rw[qE]
 ·have hl:2<=(cg t.bF).1:=by rw[h];decide
  have i0:(0:Int)<(zY k:Int):=au;have i1:(1:Int)<(zY k:Int):=au;simp only[Z0,h,zR,Int.reduceEq,Int.reduceLE,reduceIte,i0,i1,zj,IT,cW]
 ·have hl:2<=(cg t.bF).1:=by rw[h];decide
  have i0:(0:Int)<(zY k:Int):=au;have i1:(1:Int)<(zY k:Int):=au;simp only[Z0,h,zR,Int.reduceEq,Int.reduceLE,reduceIte,i0,i1,zj,IT,cW]
 ·have hl:2<=(cg t.bF).1:=by rw[h];decide
  have i1:(1:Int)<(zY k:Int):=au;have i2:(2:Int)<=(zY k:Int):=au;simp only[gK,Z0,h,zR,Int.reduceEq,Int.reduceLE,reduceIte,i1,i2,zj,IT,yx,true_or]
 ·have hl:2<=(cg t.bF).1:=by rw[h];decide
  have i1:(1:Int)<(zY k:Int):=au;have i2:(2:Int)<=(zY k:Int):=au;simp only[gK,Z0,h,zR,Int.reduceEq,Int.reduceLE,reduceIte,i1,i2,zj,IT,yx,or_true]
 ·obtain⟨c1,c2,c3,c4,c5,c6,c7,c8,c9,c18,c11,c12⟩:=h;simp only[c1,c2,c3,c4,c5,c6,c7,c8,c9,c18,c11,c12,zR,IQ,or_self]
def abx(vars:af bh)(hv:cZ vars)(t:az)(k:af Span)(h:FX vars t k):(jC vars t k).ah<=(jC vars t k).ag:=by
 obtain⟨hk,h24,hI⟩:=h;have h0:1<=(cg t.bF).1->ID k[0]! :=λh=>hI _ (bf au);have h1:2<=(cg t.bF).1->ID k[1]! :=λh=>hI _ (bf au);unfold jC;have cs:t.bF=0\/t.bF=24\/t.bF=6\/t.bF=8\/t.bF=9\/t.bF=10\/t.bF=11\/t.bF=12\/t.bF=21\/t.bF=22\/t.bF=23\/t.bF=25\/(t.bF≠0/\t.bF≠24/\t.bF≠6/\t.bF≠8/\t.bF≠9/\t.bF≠10/\t.bF≠11/\t.bF≠12/\t.bF≠21/\t.bF≠22/\t.bF≠23/\t.bF≠25):=au;rcases cs with h|h|h|h|h|h|h|h|h|h|h|h|h
 ·simp[h]
 ·have hm:vars[t.fN.toNat]!∈vars:=bf (by have:=h24 h;omega);have:=hv _ hm;simp only[h,Int.reduceEq,reduceIte];omega
 ·obtain⟨a1,a2,a3⟩:=h0 (by rw[h];decide);simp only[h,Int.reduceEq,reduceIte];omega
 ·obtain⟨a1,a2,a3⟩:=h0 (by rw[h];decide);obtain⟨b1,b2,b3⟩:=h1 (by rw[h];decide);simp only[h,Int.reduceEq,reduceIte];omega
 ·obtain⟨a1,a2,a3⟩:=h0 (by rw[h];decide);obtain⟨b1,b2,b3⟩:=h1 (by rw[h];decide);simp only[h,Int.reduceEq,reduceIte];omega
 ·simp only[h,Int.reduceEq,reduceIte,gh];omega
 ·obtain⟨a1,a2,a3⟩:=h0 (by rw[h];decide);grind
 ·simp only[h];grind
 ·obtain⟨a1,a2,a3⟩:=h0 (by rw[h];decide);obtain⟨b1,b2,b3⟩:=h1 (by rw[h];decide);simp only[h,Int.reduceEq];grind
 ·obtain⟨a1,a2,a3⟩:=h0 (by rw[h];decide);obtain⟨b1,b2,b3⟩:=h1 (by rw[h];decide);simp only[h,Int.reduceEq,reduceIte];grind
 ·have:=nU (k.drop 2) k[1]! (h1 (by rw[h];decide)) λx hx=>hI x (xD hx);simp only[h,Int.reduceEq,reduceIte,true_or,cW];exact this.2.1
 ·have:=nU (k.drop 2) k[1]! (h1 (by rw[h];decide)) λx hx=>hI x (xD hx);simp only[h,Int.reduceEq,reduceIte,or_true,cW];exact this.2.1
 ·obtain⟨c1,c2,c3,c4,c5,c6,c7,c8,c9,c18,c11,c12⟩:=h;simp only[c1,c2,c3,c4,c5,c6,c7,c8,c9,c18,c11,c12,IQ,or_self];decide
def tC:∀{l:af (aa Span)} {r:af Span},mJ l=V r->l=r.map V
 |[],r,h=>by unfold mJ at h;cases h;rfl
 |none::l,r,h=>by unfold mJ at h;cases h
 |some s::l,r,h=>by
  unfold mJ at h;cases hl:mJ l with
  |none=>rw[hl]at h;cases h
  |some q=>rw[hl]at h;cases h;rw[tC hl];rfl
def Qi(l:af Span):mJ (l.map V)=V l:=by
 induction l with
 |nil=>rfl
 |cons s l ih=>rw[yf,mJ,ih]
def BQ:∀{l:af (aa Span)},G∈l->mJ l=G
 |none::l,h=>rfl
 |some s::l,h=>by
  unfold mJ;rw[BQ (by simpa using h)]
def Ja{vars:af bh}{inp:Bool}{t:az}{k:af Span}(hf:Dz vars inp t=J)(hl:zY k=zY t.aq)(hI:∀s∈k,ID s):FX vars t k:=by
 unfold Dz at hf;refine⟨?_,?_,hI⟩
 ·simp_all
 ·intro h;simp_all
def aiq(vars:af bh)(hv:cZ vars)(inp:Bool)(t:az)(s:Span)(hf:dI vars inp t=J)(h:iS vars t=V s):ID s:=by
 have key:∀(n:Nat) (t:az) (s:Span),ze t<n->dI vars inp t=J->iS vars t=V s->ID s:=by
  intro n;induction n with
  |zero=>intro t s h;omega
  |succ n ih=>
   intro t s hz hf h;rw[mh,zi,zw]at hf;rw[Aq]at h;cases ha:mJ (t.aq.map (iS vars))with
   |none=>rw[ha]at h;cases h
   |some k=>
    rw[ha]at h;dsimp only at h;have hm:=tC ha;have hl:zY k=zY t.aq:=by have:=congrArg zY hm;simpa using this.symm
    have hI:∀s∈k,ID s:=λx hx=>by
     have:V x∈t.aq.map (iS vars):=by rw[hm];exact List.mem_map_of_mem hx
     obtain⟨c,hc,e⟩:=zM.1 this;exact ih c x (by have:=az.eT hc;omega) (hf.2 c hc) e
    have ho:=abx vars hv t k (Ja hf.1 hl hI);split at h
    ·rename_i hlim;unfold CC at hlim;unfold ID;grind
    ·cases h
 exact key _ t s (zC _) hf h
def AA(vars:af bh)(t:az):Span×Bool:=match mJ (t.aq.map (iS vars))with
 |none=>(⟨0,0⟩,O)
 |some l=>(jC vars t l,CC (jC vars t l))
def KK(vars:af bh)(t:az):iS vars t=if(AA vars t).2=J then V (AA vars t).1 else G:=by
 rw[Aq,AA];grind
def OY{vars:af bh}(hv:cZ vars){inp:Bool}{t:az}{k:af Span}(hf:dI vars inp t=J)(ha:mJ (t.aq.map (iS vars))=V k):FX vars t k:=by
 rw[mh,zi,zw]at hf;have hm:=tC ha;refine Ja hf.1 (by have:=congrArg zY hm;simpa using this.symm) λx hx=> ?_;have:V x∈t.aq.map (iS vars):=by rw[hm];exact List.mem_map_of_mem hx
 obtain⟨c,hc,e⟩:=zM.1 this;exact aiq vars hv inp c x (hf.2 c hc) e
def OV{vars:af bh}{inp:Bool}{t:az}(hf:dI vars inp t=J):zY t.aq<=33:=by
 rw[mh,zi]at hf;have:=hf.1;unfold Dz at this;have h33:(cg t.bF).2<=33:=by unfold cg;grind
 simp only[zi,decide_eq_true_eq]at this;omega
def rZ{vars:af bh}{inp:Bool}{t k:az}(hf:dI vars inp t=J)(hk:k∈t.aq):dI vars inp k=J:=by
 rw[mh,zi,zw]at hf;simp_all
def ajU(M:af bh->az->aa uc)(vars:af bh)(hv:cZ vars)(inp:Bool)(t:az)(hf:dI vars inp t=J)(hM:∀k∈t.aq,M vars k=V (AA vars k)):ahJ M vars t=V (AA vars t):=by
 have h33:=OV hf;obtain⟨i,b,e1,hI,hc⟩:=jj (rnd:=G2 M) (zY t.aq) (λi (b:af Span)=>⟨vars,b,t.aq,(zY t.aq:Int),(i:Int),t,⟨0,0⟩⟩) (λi b=>(t.aq.take i).map (iS vars)=b.map V) (λi _=>(AA vars t.aq[i]!).2=O) (λi b hi hb=>by
  have hw:=jQ hi au;have hk:=hM _ (bf hi);have hlen:zY b=i:=by have:=congrArg zY hb;simp at this;omega
  cases hx:(AA vars t.aq[i]!).2 with
  |true=>
   refine .inl ⟨b++[(AA vars t.aq[i]!).1],?_,?_⟩
   ·have hl2:zY (b++[(AA vars t.aq[i]!).1])<=1073741824:=by simp;omega
    unfold G2;simp only[zg,az.eta,hk,hx,hl2,hw];simp[hi]
   ·rw[bD hi,zO,hb,zO];rw[yf,yf,KK,bC hx];rfl
  |false=>
   unfold G2;simp only[zg,az.eta,hk,hx];simp[hi]) (λb _=>by unfold G2;simp) (b:=[]) rfl
 have e1':KB M ⟨vars,[],t.aq,(zY t.aq:Int),0,t,⟨0,0⟩⟩=V ⟨vars,b,t.aq,(zY t.aq:Int),(i:Int),t,⟨0,0⟩⟩:=e1;unfold ahJ;rw[az.eta,e1'];dsimp only;rcases hc with rfl|⟨hi,hx⟩
 ·rw[zy]at hI;have ha:mJ (t.aq.map (iS vars))=V b:=by rw[hI];exact Qi b
  rw[fE,ct,az.eta,ake vars t b (OY hv hf ha)];unfold AA;unfold CC;grind
 ·have hk:=hM _ (bf hi);have ha:mJ (t.aq.map (iS vars))=G:=BQ (zM.2 ⟨t.aq[i]!,bf hi,by rw[KK,hx];simp⟩);rw[oR,cK,bC ⟨au,au⟩];simp only[cD,zg,az.eta,hk,hx];unfold AA;rw[ha]
def YK(vars:af bh)(hv:cZ vars)(inp:Bool):∀(n:Nat) (t:az),ze t<n->dI vars inp t=J->Ug n vars t=V (AA vars t)
 |0,_,h,_=>au
 |n+1,t,h,hf=>ajU (Ug n) vars hv inp t hf (λk hk=>YK vars hv inp n k (by have:=az.eT hk;omega) (rZ hf hk))
def als(vars:af bh)(hv:cZ vars)(inp:Bool)(t:az)(hf:dI vars inp t=J):anG vars t=V (AA vars t):=eM (ze t+1) λn hn=>YK vars hv inp n t au hf
def EH(vars:af bh)(hv:cZ vars)(inp:Bool)(t:az):Vc vars t inp=V (fu vars inp t):=by
 unfold Vc fu;rw[az.eta,ak9];cases hf:dI vars inp t with
 |false=>rfl
 |true=>
  rw[als vars hv inp t hf,KK];dsimp only;cases (AA vars t).2<;>rfl
end Go.Proofs.YtnfljbehcffmcaaGreat
end
