/- Merged: Ne14, Ne15, Ne16, Ne17, Ne18, Ne19, Ne20, Ne21, Ne22, Ne23, Ne24, Ne25, Ne26, Ne27, Ne28, Ne29, Ga, Pfew, Pd, Gb, Pv1, Pv3, Pv1b. -/
import Derived.Test.YtnfljbehcffmcaaGreatM3RefineFinds
import Derived.Test.YtnfljbehcffmcaaGreatM2RefineFinds
open Int renaming toNat_natCast → ze, le_refl → zm, toNat → zC, mul_nonneg → zF, mul_comm → zI, mul_le_mul_of_nonneg_right → zN, mul_assoc → zQ, ediv_nonneg → zR, add_mul → zS, dvd_trans → zV, one_mul → z6, lt_irrefl → ya, ediv_le_self → yg, sub_mul → yu, dvd_sub → yz, gcd → yE, mul_ediv_add_emod → yV, emod_nonneg → yW, dvd_add → yX, emod_lt_of_pos → y4, mul_add → y5, ediv_mul_le → xd, mul_le_mul → xA, dvd_zero → xB, dvd_mul_left → xC, dvd_mul_right → xD, natCast_mul → xI, zero_mul → xT, le_trans → xU, zero_dvd → xV, mul_neg → xX, ediv_mul_cancel → wu, lt_of_mul_lt_mul_right → wK, dvd_of_emod_eq_zero → wL, lt_ediv_add_one_mul_self → wW
open Nat renaming le_refl → zn, lt_succ_self → zJ, le_trans → zK, add_mul → yd, not_lt_zero → yG, mul_le_mul_right → yL, mod_lt → yQ, lt_succ_iff_lt_or_eq → y9
open SizeOf renaming sizeOf → zg
open Bool renaming cond_decide → zh, and_eq_true → zi, or_eq_true → yM, true_and → wA, true → O, false → S
open List renaming length_append → zj, mem_cons_self → zo, mem_singleton → zy, take_length → zB, mem_cons → zD, length_take → zH, range → zM, mem_append → zW, mem_filter → zZ, map_append → z8, map_cons → ye, drop → yf, length_filter_le → yh, nil_append → yw, append_nil → yy, map_nil → yS, getElem_map → yY, getElem_of_mem → yZ, filter_append → y7, cons_append → xo, drop_eq_getElem_cons → xu, take_append_drop → xw, length_range → xF, getElem_mem → xM, take_zero → xR, drop_of_length_le → xY, getElem_take → we, attach_map_val → wv, foldl_append → wz, sizeOf_lt_of_mem → wX
open Option renaming some → zA, some → V, none → G
open Array renaming mk → xe
open Decidable renaming decide → J
open Go.Proofs.Tryz renaming prog → w9
open Go.Proofs.Tryz
set_option linter.unusedSectionVars false
set_option linter.unusedVariables false
set_option linter.unusedSimpArgs false
set_option linter.defProp false
noncomputable section
set_option maxRecDepth 100000
namespace Go.Proofs.YtnfljbehcffmcaaGreat
open Go Go.Iv
open Go.IntKind (i64 u64)
def kR(a:aH)(k:Nat):Int:=a.ag+(k:Int)*a.aj
def cnt(a:aH):Nat:=(cw a).toNat
def gj{a:aH}(h:NN a):cw a=(cnt a:Int):=by have:=size_pos h;unfold cnt;omega
def iF{a:aH}(h:NN a):1<=cnt a:=by have:=size_pos h;unfold cnt;omega
def aaB{a:aH}(h:NN a){k:Nat}(hk:k<cnt a):a.ag<=kR a k/\kR a k<=a.ah:=by
 have e:=gj h;rw[tW h]at e;have hs:=h.s0;have k0:0<=(k:Int)*a.aj:=zF (by omega) hs;unfold kR;refine⟨by omega,?_⟩;rcases h.st with ⟨h1,h2⟩|⟨h1,h2,h3⟩
 ·rw[h2,Int.mul_zero];omega
 ·rw[v7]at e;have:(k:Int)*a.aj<=(a.ah-a.ag)/a.aj*a.aj:=zN (by omega) hs;rw[wu (wL h3)]at this;omega
def iu{a:aH}(h:NN a)(x:Int):bU a x↔∃k:Nat,k<cnt a/\x=kR a k:=by
 constructor
 ·rintro⟨h1,h2,q,hq⟩;have e:=gj h;rw[tW h]at e;rcases h.st with ⟨k1,k2⟩|⟨k1,k2,k3⟩
  ·exact⟨0,iF h,by unfold kR;omega⟩
  ·rw[v7]at e;rw[zI]at hq;have q0:0<=q:=Decidable.byContradiction λc=>by
    have:q*a.aj<= -1*a.aj:=zN (by omega) (by omega);omega
   have q1:q<=(a.ah-a.ag)/a.aj:=Int.le_ediv_of_mul_le (by omega) (by omega);refine⟨q.toNat,by omega,?_⟩;unfold kR;rw[show ((q.toNat:Nat):Int)=q by omega,<-hq];omega
 ·rintro⟨k,hk,rfl⟩;obtain⟨h1,h2⟩:=aaB h hk;exact⟨h1,h2,by unfold kR;rw[show a.ag+(k:Int)*a.aj-a.ag=(k:Int)*a.aj by omega];exact xC ..⟩
def su{a:aH}(h:NN a){k:Nat}(hk:k<cnt a):cC (kR a k):=WU (.inr h) ((iu h _).mpr ⟨k,hk,rfl⟩)
def oA{a:aH}(h:NN a){k:Nat}(hk:k<cnt a):K6 a (k:Int)=kR a k:=by
 have:=aaB h hk;have:=h.lo;have:=h.hi;have k0:0<=(k:Int)*a.aj:=zF (by omega) h.s0;unfold K6;unfold kR at*;rw[aG (n:=(k:Int)*a.aj),aG]
def rU(op:Int)(a b:aH)(y:Int):Prop:=∃x z,bU a x/\bU b z/\y=fL op x z
def pref(op:Int)(a b:aH)(i:Nat)(l:aa Int):Prop:=(∀y,y∈l↔∃k,k<i/\∃j,j<cnt b/\y=fL op (kR a k) (kR b j))/\l.length=i*cnt b/\∀y∈l,cC y
def alh(op:Int)(a b:aH)(i j:Nat)(l:aa Int):Prop:=(∀y,y∈l↔(∃k,k<i/\∃m,m<cnt b/\y=fL op (kR a k) (kR b m))\/∃m,m<j/\y=fL op (kR a i) (kR b m))/\l.length=i*cnt b+j/\∀y∈l,cC y
def W1{op:Int}{a b:aH}{i:Nat}{l:aa Int}(h:alh op a b i (cnt b) l):pref op a b (i+1) l:=by
 refine⟨λy=>(h.1 y).trans ⟨?_,?_⟩,by rw[h.2.1,yd,Nat.one_mul],h.2.2⟩
 ·rintro(⟨k,hk,m,hm,e⟩|⟨m,hm,e⟩)
  ·exact⟨k,by omega,m,hm,e⟩
  ·exact⟨i,by omega,m,hm,e⟩
 ·rintro⟨k,hk,m,hm,e⟩;rcases y9.mp hk with c|rfl
  ·exact .inl ⟨k,c,m,hm,e⟩
  ·exact .inr ⟨m,hm,e⟩
def XH{op:Int}{a b c:aH}(ho:binop op)(ha:NN a)(hb:NN b)(hs:cnt a*cnt b<=1000000){i:Nat}(hi:i<cnt a){l:aa Int}(hl:pref op a b i l):
  (∃l',C1 (jm.mk op l i 0 a b c)=V (jm.mk op l' i (cnt b:Nat) a b c)/\pref op a b (i+1) l')\/
  (∃l' j,j<cnt b/\C1 (jm.mk op l i 0 a b c)=V (jm.mk op l' i (j:Nat) a b c)/\¬cC (fL op (kR a i) (kR b j))):=by
 have hcb:cnt b<=1000000:=zK (Nat.le_mul_of_pos_left _ (iF ha)) hs;have hlen:(i+1)*cnt b<=1000000:=zK (yL _ hi) hs;rw[yd,Nat.one_mul]at hlen;obtain⟨j,l',e,hI,h⟩:=lH (rnd:=Ep) (cnt b) (λj (l:aa Int)=>jm.mk op l i (j:Nat) a b c) (λj l=>alh op a b i j l) (λj l=>¬cC (fL op (kR a i) (kR b j)))
  (λj l hj hI=>by
   obtain⟨v,ev,hv⟩:=l9 (su ha hi) (su hb hj) ho;unfold Ep;simp only;rw[gv (.inr hb),gj hb];simp only;rw[nH,bC,oA ha hi,oA hb hj,ev];simp only;by_cases hr:cC (fL op (kR a i) (kR b j))
   ·left;rw[bY hr];simp only[bC,bB];rw[bE (by rw[zj,hI.2.1];simp;omega),fu hj hcb,hv hr];refine⟨_,rfl,λy=> ?_,by rw[zj,hI.2.1];simp;omega,λy hy=> ?_⟩
    ·rw[zW,zy,hI.1 y];constructor
     ·rintro((h|⟨m,hm,h⟩)|rfl)
      ·exact .inl h
      ·exact .inr ⟨m,by omega,h⟩
      ·exact .inr ⟨j,by omega,rfl⟩
     ·rintro(h|⟨m,hm,h⟩)
      ·exact .inl (.inl h)
      ·rcases y9.mp hm with c|rfl
       ·exact .inl (.inr ⟨m,c,h⟩)
       ·exact .inr h
    ·rcases zW.mp hy with hy|hy
     ·exact hI.2.2 y hy
     ·rw[zy.mp hy];exact hr
   ·right;rw[bX hr];exact⟨rfl,hr⟩)
  (λl hI=>by
   unfold Ep;simp only;rw[gv (.inr hb),gj hb];simp only;rw[gh];rfl) (b:=l) ⟨λy=>(hl.1 y).trans ⟨.inl,λh=>h.elim id λ⟨m,hm,_⟩=>dD hm (yG _)⟩,by rw[hl.2.1];rfl,hl.2.2⟩
 have e:bJ Ep (jm.mk op l i 0 a b c)=V (jm.mk op l' i (j:Nat) a b c):=e;rcases h with rfl|⟨hj,h⟩
 ·exact .inl ⟨l',e,W1 hI⟩
 ·exact .inr ⟨l',j,hj,e,h⟩
def BY{op:Int}{a b:aH}(ho:binop op)(ha:NN a)(hb:NN b)(hs:cnt a*cnt b<=1000000):
  ((∀y,rU op a b y->cC y)/\∃c,Wz op a b=V (c,0)/\dA (rU op a b) c)\/((¬∀y,rU op a b y->cC y)/\Wz op a b=V (aH.mk 0 0 0,3)):=by
 have hca:cnt a<=1000000:=zK (Nat.le_mul_of_pos_right _ (iF hb)) hs;unfold Wz;obtain⟨i,l,e,hI,h⟩:=lH (rnd:=As) (cnt a) (λi (l:aa Int)=>tc.mk op l (i:Nat) a b (aH.mk 0 0 0)) (λi l=>pref op a b i l) (λi l=>∃l' j,j<cnt b/\C1 (jm.mk op l i 0 a b (aH.mk 0 0 0))=V (jm.mk op l' i (j:Nat) a b (aH.mk 0 0 0))/\¬cC (fL op (kR a i) (kR b j)))
  (λi l hi hI=>by
   unfold As;simp only;rw[gv (.inr ha),gj ha];simp only;rw[nH,bC];rcases XH (c:=aH.mk 0 0 0) ho ha hb hs hi hI with ⟨l',e,h⟩|⟨l',j,hj,e,h⟩
   ·left;rw[e];simp only;rw[gv (.inr hb),gj hb];simp only;rw[gh,bB,fu hi hca];exact⟨l',rfl,h⟩
   ·right;refine⟨?_,l',j,hj,e,h⟩;rw[e];simp only;rw[gv (.inr hb),gj hb];simp only;obtain⟨v,ev,hv⟩:=l9 (su ha hi) (su hb hj) ho;rw[nH,bC,oA ha hi,oA hb hj,ev];simp only;rw[bX h];rfl)
  (λl hI=>by
   unfold As;simp only;rw[gv (.inr ha),gj ha];simp only;rw[gh];rfl) (b:=[]) ⟨λy=>⟨λh=>dD h (by simp),λ⟨k,hk,_⟩=>dD hk (yG _)⟩,by simp,λy hy=>dD hy (by simp)⟩
 have e:bJ As (tc.mk op [] 0 a b (aH.mk 0 0 0))=V (tc.mk op l (i:Nat) a b (aH.mk 0 0 0)):=e;rw[show acj=bJ As from rfl,e];simp only;rw[gv (.inr ha),gj ha];simp only;rcases h with rfl|⟨hi,l',j,hj,e1,h⟩
 ·left;have mem:∀y,y∈l↔rU op a b y:=λy=>(hI.1 y).trans ⟨λ⟨k,hk,m,hm,e⟩=>⟨_,_,(iu ha _).mpr ⟨k,hk,rfl⟩,(iu hb _).mpr ⟨m,hm,rfl⟩,e⟩,λ⟨x,z,hx,hz,e⟩=>by
   obtain⟨k,hk,rfl⟩:=(iu ha _).mp hx;obtain⟨m,hm,rfl⟩:=(iu hb _).mp hz;exact⟨k,hk,m,hm,e⟩⟩
  rw[gh,bB];have hne:l≠[]:=λe=>by
   have:=hI.2.1;rw[e]at this;have:=Nat.mul_pos (iF ha) (iF hb);simp at*;omega
  obtain⟨c,e2,hc⟩:=Jb hne (by rw[hI.2.1];exact hs) hI.2.2;rw[e2];exact⟨λy hy=>hI.2.2 y ((mem y).mpr hy),c,rfl,hc.congr mem⟩
 ·right;refine⟨λk=>h (k _ ⟨_,_,(iu ha _).mpr ⟨i,hi,rfl⟩,(iu hb _).mpr ⟨j,hj,rfl⟩,rfl⟩),?_⟩;rw[nH,bC,e1];simp only;rw[gv (.inr hb),gj hb];simp only;obtain⟨v,ev,hv⟩:=l9 (su ha hi) (su hb hj) ho;rw[nH,bC,oA ha hi,oA hb hj,ev];simp only;rw[bX h];rfl
def Vd{a:aH}(h:NN a)(hs:cnt a<=1000000):WJ a=V ((zM (cnt a)).map (kR a)):=by
 unfold WJ;rw[kM (.inr h),gj h];simp only;have e:bJ tD (mG.mk [] (cnt a:Nat) 0 a)=V (mG.mk ((zM (cnt a)).map (kR a)) (cnt a:Nat) (cnt a:Nat) a):=by
  obtain⟨l,e,hl⟩:=dc (rnd:=tD) (cnt a) (λi (l:aa Int)=>mG.mk l (cnt a:Nat) (i:Nat) a) (λi l=>l=(zM i).map (kR a))
   (λi l hi hl=>by
    subst hl;unfold tD;simp only;have:=oA h hi;unfold K6 at this;rw[nH,bC,this,bE (by simp;omega),fu hi hs];exact⟨_,rfl,by rw[List.range_succ,z8];rfl⟩)
   (λl hl=>by
    unfold tD;simp only;rw[gh];rfl) (b:=[]) rfl
  have e:bJ tD (mG.mk [] (cnt a:Nat) 0 a)=V (mG.mk l (cnt a:Nat) (cnt a:Nat) a):=e;rw[e,hl]
 rw[show Jd=bJ tD from rfl,e];simp only;rw[gh];rfl
def qC(a:aH):((zM (cnt a)).map (kR a)).length=cnt a:=by simp
def Oz(a:aH){k:Nat}(h:k<cnt a):((zM (cnt a)).map (kR a))[k]! =kR a k:=by
 rw[getElem!_pos _ k (by rw[qC];exact h),yY,List.getElem_range]
def N3(op:Int):Prop:=op=11\/op=12\/op=21\/op=22
def Sv{op x y:Int}(hx:cC x)(hy:cC y)(ho:N3 op):cC (fL op x y):=by
 rcases ho with rfl|rfl|rfl|rfl
 ·exact(PL hx).1
 ·show cC (if y=0 then 0 else x-y*oc x y);by_cases h0:y=0
  ·rw[bE h0];exact⟨by omega,by omega⟩
  ·rw[bO h0];exact(PD hy h0).1
 ·show cC (min x y);obtain⟨h1,h2⟩:=hx;obtain⟨h3,h4⟩:=hy;exact⟨by omega,by omega⟩
 ·show cC (max x y);obtain⟨h1,h2⟩:=hx;obtain⟨h3,h4⟩:=hy;exact⟨by omega,by omega⟩
def abi(op:Int)(a b:aH)(i j:Nat)(y:Int):Prop:=(∃k,k<i/\∃m,m<cnt b/\y=fL op (kR a k) (kR b m))\/∃m,m<j/\y=fL op (kR a i) (kR b m)
def abj{op:Int}{a b c:aH}(ho:N3 op)(ha:NN a)(hb:NN b)(hs:cnt b<=1000000){i:Nat}(hi:i<cnt a){o:aH}{l:aa Int}{n t:Int}(hr:mF (abi op a b i 0) o)(hv:NV o):
  ∃o',C0 (nY.mk op (kR a i) l n t ((zM (cnt b)).map (kR b)) (cnt b:Nat) 0 b c o)=V (nY.mk op (kR a i) l n t ((zM (cnt b)).map (kR b)) (cnt b:Nat) (cnt b:Nat) b c o')/\mF (abi op a b (i+1) 0) o'/\NV o':=by
 obtain⟨o',e,hI,hv'⟩:=dc (rnd:=IC) (cnt b) (λj (o:aH)=>nY.mk op (kR a i) l n t ((zM (cnt b)).map (kR b)) (cnt b:Nat) (j:Nat) b c o) (λj o=>mF (abi op a b i j) o/\NV o)
  (λj o hj hI=>by
   have hR:=Sv (su ha hi) (su hb hj) ho;unfold IC;simp only;rw[nH,bC,qC,gY,ze,bE ⟨trivial,hj⟩,Oz b hj,aj1 (su ha hi) (su hb hj) ho];simp only;rw[iH hI.2 (.inr (show NN (gO (fL op (kR a i) (kR b j)))from NN.one hR.1 hR.2)),fu hj hs];refine⟨_,rfl,(hI.1.join (Ji _) hI.2 (pX hR)).congr λy=> ?_,eT hI.2 (pX hR)⟩;constructor
   ·rintro((h|⟨m,hm,h⟩)|rfl)
    ·exact .inl h
    ·exact .inr ⟨m,by omega,h⟩
    ·exact .inr ⟨j,by omega,rfl⟩
   ·rintro(h|⟨m,hm,h⟩)
    ·exact .inl (.inl h)
    ·rcases y9.mp hm with c|rfl
     ·exact .inl (.inr ⟨m,c,h⟩)
     ·exact .inr h)
  (λo hI=>by
   unfold IC;simp only;rw[gh];rfl) (b:=o) ⟨hr,hv⟩
 refine⟨o',e,hI.congr λy=> ?_,hv'⟩;constructor
 ·rintro(⟨k,hk,h⟩|⟨m,hm,h⟩)
  ·exact .inl ⟨k,by omega,h⟩
  ·exact .inl ⟨i,by omega,m,hm,h⟩
 ·rintro(⟨k,hk,h⟩|⟨m,hm,_⟩)
  ·rcases y9.mp hk with c|rfl
   ·exact .inl ⟨k,c,h⟩
   ·obtain⟨m,hm,h⟩:=h;exact .inr ⟨m,hm,h⟩
  ·exact dD hm (yG _)
def RU{op:Int}{a b:aH}(ho:N3 op)(ha:NN a)(hb:NN b)(hs:cnt a*cnt b<=4096):∃c,ur op a b=V c/\dA (rU op a b) c:=by
 have hca:cnt a<=4096:=zK (Nat.le_mul_of_pos_right _ (iF hb)) hs;have hcb:cnt b<=4096:=zK (Nat.le_mul_of_pos_left _ (iF ha)) hs;unfold ur;rw[kM (.inr ha),kM (.inr hb),gj ha,gj hb];simp only;have hp:((cnt a:Nat):Int)*((cnt b:Nat):Int)<=4096:=by rw[<-xI];omega
 have hp0:0<=((cnt a:Nat):Int)*((cnt b:Nat):Int):=by rw[<-xI];omega
 rw[bX (show ¬(4096:Int)<((cnt a:Nat):Int)by omega),bX (show ¬(4096:Int)<((cnt b:Nat):Int)by omega),bB,bB,aG,gh,bB,Vd ha (by omega)];simp only;rw[qC];obtain⟨o,e,hI,hv⟩:=dc (rnd:=Ae) (cnt a) (λi (o:aH)=>pU.mk op ((zM (cnt a)).map (kR a)) (cnt a:Nat) (i:Nat) b (aH.mk 0 0 0) o) (λi o=>mF (abi op a b i 0) o/\NV o)
  (λi o hi hI=>by
   unfold Ae;simp only;rw[nH,bC,qC,gY,ze,bE ⟨trivial,hi⟩,Oz a hi,Vd hb (by omega)];simp only;rw[qC];obtain⟨o',e,h1,h2⟩:=abj (c:=aH.mk 0 0 0) (l:=(zM (cnt a)).map (kR a)) (n:=(cnt a:Nat)) (t:=(i:Nat)) ho ha hb (by omega) hi hI.1 hI.2;rw[e];simp only;rw[gh,bB,fu hi (by omega)];exact⟨o',rfl,h1,h2⟩)
  (λo hI=>by
   unfold Ae;simp only;rw[gh];rfl) (b:=cG) ⟨.none λy h=>by
    rcases h with ⟨k,hk,_⟩|⟨m,hm,_⟩
    ·exact dD hk (yG _)
    ·exact dD hm (yG _), .inl rfl⟩
 have e:bJ Ae (pU.mk op ((zM (cnt a)).map (kR a)) (cnt a:Nat) 0 b (aH.mk 0 0 0) iL)=V (pU.mk op ((zM (cnt a)).map (kR a)) (cnt a:Nat) (cnt a:Nat) b (aH.mk 0 0 0) o):=e;rw[show I6=bJ Ae from rfl,e];simp only;rw[gh,bB];refine⟨o,rfl,?_⟩;have mem:∀y,abi op a b (cnt a) 0 y↔rU op a b y:=λy=>⟨λh=>by
  rcases h with ⟨k,hk,m,hm,e⟩|⟨m,hm,_⟩
  ·exact⟨_,_,(iu ha _).mpr ⟨k,hk,rfl⟩,(iu hb _).mpr ⟨m,hm,rfl⟩,e⟩
  ·exact dD hm (yG _),λ⟨x,z,hx,hz,e⟩=>by
  obtain⟨k,hk,rfl⟩:=(iu ha _).mp hx;obtain⟨m,hm,rfl⟩:=(iu hb _).mp hz;exact .inl ⟨k,hk,m,hm,e⟩⟩
 rcases hI.congr mem with ⟨_,k⟩|k
 ·exact dD ⟨_,_,(iu ha _).mpr ⟨0,iF ha,rfl⟩,(iu hb _).mpr ⟨0,iF hb,rfl⟩,rfl⟩ (k (fL op (kR a 0) (kR b 0)))
 ·exact k
def XE{op:Int}{a b:aH}(ha:NN a)(hb:NN b)(hs:¬cnt a*cnt b<=4096):ur op a b=V5 op a b:=by
 have idm:∀r:af aH,(match r with|none=>none|some r8=>some r8)=r:=λr=>by cases r<;>rfl
 unfold ur;rw[kM (.inr ha),kM (.inr hb),gj ha,gj hb];simp only;by_cases c1:(4096:Int)<((cnt a:Nat):Int)
 ·rw[bY c1,bC];exact idm _
 ·rw[bX c1,bB];by_cases c2:(4096:Int)<((cnt b:Nat):Int)
  ·rw[bY c2,bC];exact idm _
  ·have hb':((cnt a:Nat):Int)*((cnt b:Nat):Int)<=4096*4096:=xA (by omega) (by omega) (by omega) (by omega);have hp:(4096:Int)<((cnt a:Nat):Int)*((cnt b:Nat):Int):=by rw[<-xI];omega
   rw[bX c2,bB,aG,bY hp,bC];exact idm _
instance (op:Int):Decidable (binop op):=inferInstanceAs (Decidable (_/\_))
def idm{α:Type}(r:af α):(match r with|none=>none|some x=>some x)=r:=by cases r<;>rfl
def jT(op:Int):BM op=J (binop op):=by
 unfold BM;by_cases h:binop op
 ·obtain⟨o1,o2⟩:=h;have cases15:op=8\/op=9\/op=10\/op=11\/op=12\/op=13\/op=14\/op=15\/op=16\/op=17\/op=18\/op=19\/op=20\/op=21\/op=22:=by omega
  rcases cases15 with rfl|rfl|rfl|rfl|rfl|rfl|rfl|rfl|rfl|rfl|rfl|rfl|rfl|rfl|rfl<;>rfl
 ·have k:∀n:Int,8<=n->n<=22->¬op=n:=λn h1 h2 e=>h (by unfold binop;omega);rw[show J (binop op)=S from bX h];rw[bX (k 8 (by decide) (by decide)),bX (k 9 (by decide) (by decide)),bX (k 10 (by decide) (by decide)),bX (k 11 (by decide) (by decide)),bX (k 12 (by decide) (by decide)),
   bX (k 13 (by decide) (by decide)),bX (k 14 (by decide) (by decide)),bX (k 15 (by decide) (by decide)),bX (k 16 (by decide) (by decide)),bX (k 17 (by decide) (by decide)),
   bX (k 18 (by decide) (by decide)),bX (k 19 (by decide) (by decide)),bX (k 20 (by decide) (by decide)),bX (k 21 (by decide) (by decide)),bX (k 22 (by decide) (by decide))]
  rfl
def GH{a b:aH}(hb:NN b):((cnt a:Nat):Int)<=(4096:Int)/((cnt b:Nat):Int)↔cnt a*cnt b<=4096:=by
 have:=iF hb;rw[Int.le_ediv_iff_mul_le (by omega),<-xI];omega
def ow{op:Int}{a b:aH}(ho:binop op)(ha:NN a)(hb:NN b)(hs:cnt a*cnt b<=4096):oP op a b=Wz op a b:=by
 have:=iF hb;unfold oP;rw[gq,gq,ew (.inr ha),ew (.inr hb),show Qn op=BM op from rfl,jT,bY ho];simp only[bC,bB];rw[iz ha,iz hb,gv (.inr ha),gv (.inr hb),gj ha,gj hb];simp only[bB];have q0:0<=(4096:Int)/((cnt b:Nat):Int):=zR (by omega) (by omega);have q1:(4096:Int)/((cnt b:Nat):Int)<=4096:=yg _ (by omega);rw[bE (show ¬@Eq Int ((cnt b:Nat):Int) 0 by omega),jX,aG,bY ((GH hb).mpr hs),bC];cases Wz op a b<;>rfl
def VG(a0:Int)(a1 a2:aH):af (aH×Int):=
 bif J (a0=8)then AD a0 a1 a2 else bif J (a0=9)then AD a0 a1 a2 else bif J (a0=10)then AD a0 a1 a2 else bif J (a0=11)then
  (bif(J (0<=a1.ag)&&J (0<=a2.ag))then iX 0 (max a1.ag.natAbs a1.ah.natAbs:Nat) 1 else iX (-((max a1.ag.natAbs a1.ah.natAbs:Nat):Int)) (max a1.ag.natAbs a1.ah.natAbs:Nat) 1)
 else bif J (a0=12)then iX (if a2.ag<0 then a2.ag+1 else 0) (if 0<a2.ah then a2.ah-1 else 0) 1
 else bif J (a0=21)then(match m41 (cV a1 a2) (min a1.ah a2.ah)with|G=>G|V c=>V (c,0))
 else bif J (a0=22)then(match m42 (cV a1 a2) (max a1.ag a2.ag-1)with|G=>G|V c=>V (c,0))
 else(match BQ a0 a1 a2 with|G=>G|V c=>V (c,0))
def vD{op:Int}{a b:aH}(ho:binop op)(ha:NN a)(hb:NN b)(hs:¬cnt a*cnt b<=4096):oP op a b=VG op a b:=by
 have:=iF hb;have r1:=ha.rB;have r2:=ha.BC;have r3:=hb.rB;have r4:=hb.BC;obtain⟨a1,a2⟩:=r1;obtain⟨a3,a4⟩:=r2;obtain⟨b1,b2⟩:=r3;obtain⟨b3,b4⟩:=r4;unfold oP VG;rw[gq,gq,ew (.inr ha),ew (.inr hb),show Qn op=BM op from rfl,jT,bY ho];simp only[bC,bB];rw[iz ha,iz hb,gv (.inr ha),gv (.inr hb),gj ha,gj hb];simp only[bB];have q0:0<=(4096:Int)/((cnt b:Nat):Int):=zR (by omega) (by omega);have q1:(4096:Int)/((cnt b:Nat):Int)<=4096:=yg _ (by omega);rw[bE (show ¬@Eq Int ((cnt b:Nat):Int) 0 by omega),jX,aG (n:=(4096:Int)/((cnt b:Nat):Int)),bX (λk=>hs ((GH hb).mp k)),bB];have cases15:op=8\/op=9\/op=10\/op=11\/op=12\/op=13\/op=14\/op=15\/op=16\/op=17\/op=18\/op=19\/op=20\/op=21\/op=22:=by
  obtain⟨o1,o2⟩:=ho;omega
 have ez:(bif J (0<=a.ag)then some (J (0<=b.ag))else some false)=some (J (0<=a.ag)&&J (0<=b.ag)):=by cases J (0<=a.ag)<;>rfl
 rcases cases15 with rfl|rfl|rfl|rfl|rfl|rfl|rfl|rfl|rfl|rfl|rfl|rfl|rfl|rfl|rfl
 all_goals simp only[Int.reduceEq,ep,cI,bB,bC]
 ·cases AD 8 a b<;>rfl
 ·cases AD 9 a b<;>rfl
 ·cases AD 10 a b<;>rfl
 ·rw[uj ha.rB,uj ha.BC,ez];simp only;by_cases c:((a.ag.natAbs:Nat):Int)<((a.ah.natAbs:Nat):Int)
  ·rw[bY c,bC,aG,Int.zero_sub,Nat.max_eq_right (by omega)];cases (J (0<=a.ag)&&J (0<=b.ag))with
   |true=>(simp only[bC,bB];generalize iX _ _ _=z;cases z<;>rfl)
   |false=>(simp only[bC,bB];generalize iX _ _ _=z;cases z<;>rfl)
  ·rw[bX c,bB,aG,Int.zero_sub,Nat.max_eq_left (by omega)];cases (J (0<=a.ag)&&J (0<=b.ag))with
   |true=>(simp only[bC,bB];generalize iX _ _ _=z;cases z<;>rfl)
   |false=>(simp only[bC,bB];generalize iX _ _ _=z;cases z<;>rfl)
 ·rw[aG (n:=b.ag+1),aG (n:=b.ah-1)];by_cases c:b.ag<0<;>by_cases d:0<b.ah
  ·rw[bY c,bY d,bE c,bE d];(simp only[bC,bB];generalize iX _ _ _=z;cases z<;>rfl)
  ·rw[bY c,bX d,bE c,bO d];(simp only[bC,bB];generalize iX _ _ _=z;cases z<;>rfl)
  ·rw[bX c,bY d,bO c,bE d];(simp only[bC,bB];generalize iX _ _ _=z;cases z<;>rfl)
  ·rw[bX c,bX d,bO c,bO d];(simp only[bC,bB];generalize iX _ _ _=z;cases z<;>rfl)
 ·cases BQ 13 a b<;>rfl
 ·cases BQ 14 a b<;>rfl
 ·cases BQ 15 a b<;>rfl
 ·cases BQ 16 a b<;>rfl
 ·cases BQ 17 a b<;>rfl
 ·cases BQ 18 a b<;>rfl
 ·cases BQ 19 a b<;>rfl
 ·cases BQ 20 a b<;>rfl
 ·obtain⟨v,ev,hv⟩:=l9 (op:=21) ha.BC hb.BC ⟨by decide,by decide⟩;have hv:v=min a.ah b.ah:=hv (Sv ha.BC hb.BC (.inr (.inr (.inl rfl))));rw[ev,l8 (.inr ha) (.inr hb)];simp only;rw[hv];cases m41 (cV a b) (min a.ah b.ah)<;>rfl
 ·obtain⟨v,ev,hv⟩:=l9 (op:=22) ha.rB hb.rB ⟨by decide,by decide⟩;have hv:v=max a.ag b.ag:=hv (Sv ha.rB hb.rB (.inr (.inr (.inr rfl))));rw[ev,l8 (.inr ha) (.inr hb)];simp only;rw[hv,aG];cases m42 (cV a b) (max a.ag b.ag-1)<;>rfl
def abT{op:Int}{a b:aH}(ho:N3 op)(ha:NN a)(hb:NN b):∃c,ur op a b=V c/\oP op a b=V (c,0)/\NV c:=by
 have hbin:binop op:=by unfold binop;rcases ho with rfl|rfl|rfl|rfl<;>decide
 have r1:=ha.rB;have r2:=ha.BC;have r3:=hb.rB;have r4:=hb.BC;by_cases hs:cnt a*cnt b<=4096
 ·obtain⟨c,e1,h1⟩:=RU ho ha hb hs;have hR:∀y,rU op a b y->cC y:=λy ⟨x,z,hx,hz,e⟩=>by rw[e];exact Sv (WU (.inr ha) hx) (WU (.inr hb) hz) ho
  rw[ow hbin ha hb hs];rcases BY hbin ha hb (by omega)with ⟨_,d,e2,h2⟩|⟨k,_⟩
  ·rw[h2.uniq h1]at e2;exact⟨c,e1,e2, .inr (h1.valid hR)⟩
  ·exact dD hR k
 ·rw[XE ha hb hs,vD hbin ha hb hs];obtain⟨a1,a2⟩:=r1;obtain⟨a3,a4⟩:=r2;obtain⟨b1,b2⟩:=r3;obtain⟨b3,b4⟩:=r4;unfold V5 VG;rcases ho with rfl|rfl|rfl|rfl
  all_goals simp only[Int.reduceEq,ep,cI,bB,bC]
  ·rw[mZ ha.rB,mZ ha.BC];have em:(if((a.ag.natAbs:Nat):Int)<((a.ah.natAbs:Nat):Int)then((a.ah.natAbs:Nat):Int)else((a.ag.natAbs:Nat):Int))=((max a.ag.natAbs a.ah.natAbs:Nat):Int):=by split<;>omega
   rw[em];have ez:(bif J (0<=a.ag)then some (J (0<=b.ag))else some false)=some (J (0<=a.ag)&&J (0<=b.ag)):=by cases J (0<=a.ag)<;>rfl
   rw[ez];simp only;have hm:((max a.ag.natAbs a.ah.natAbs:Nat):Int)<=1099511627776:=by omega
   generalize max a.ag.natAbs a.ah.natAbs=m at*;rw[aG,Int.zero_sub,ob (by omega) (by omega) (by omega),ob (by omega) (by omega) (by omega),lZ ⟨by omega,by omega⟩ ⟨by omega,by omega⟩ (by omega),lZ ⟨by omega,by omega⟩ ⟨by omega,by omega⟩ (by omega)];cases (J (0<=a.ag)&&J (0<=b.ag))with
   |true=>exact⟨_,rfl,rfl, .inr (l7 (by omega) (by omega) (by omega) (by omega))⟩
   |false=>exact⟨_,rfl,rfl, .inr (l7 (by omega) (by omega) (by omega) (by omega))⟩
  ·rw[aG (n:=b.ag+1),aG (n:=b.ah-1)];rw[show (if 0<b.ag+1 then 0 else b.ag+1)=(if b.ag<0 then b.ag+1 else 0)by split<;>split<;>omega,show (if b.ah-1<0 then 0 else b.ah-1)=(if 0<b.ah then b.ah-1 else 0)by split<;>split<;>omega];have hp:(if b.ag<0 then b.ag+1 else 0)<=0/\ -1099511627776<=(if b.ag<0 then b.ag+1 else 0):=by split<;>omega
   have hq:0<=(if 0<b.ah then b.ah-1 else 0)/\(if 0<b.ah then b.ah-1 else 0)<=1099511627776:=by split<;>omega
   generalize (if b.ag<0 then b.ag+1 else 0)=p at*;generalize (if 0<b.ah then b.ah-1 else 0)=q at*;rw[ob (by omega) (by omega) (by omega),lZ ⟨by omega,by omega⟩ ⟨by omega,by omega⟩ (by omega)];exact⟨_,rfl,rfl, .inr (l7 (by omega) (by omega) (by omega) (by omega))⟩
  ·rw[iH (.inr ha) (.inr hb)];simp only;rw[show (if b.ah<a.ah then b.ah else a.ah)=min a.ah b.ah by split<;>omega];have vj:=eT (.inr ha) (.inr hb);obtain⟨l,u,e1,h1,_⟩:=u6 vj (min a.ah b.ah);obtain⟨l',e2,h2⟩:=IP vj (min a.ah b.ah);rw[e1,e2,h2.rep.uniq h1.rep];exact⟨l,rfl,rfl,h1.1⟩
  ·rw[iH (.inr ha) (.inr hb)];simp only;rw[show (if a.ag<b.ag then b.ag else a.ag)=max a.ag b.ag by split<;>omega,aG];have vj:=eT (.inr ha) (.inr hb);obtain⟨l,u,e1,_,h1⟩:=u6 vj (max a.ag b.ag-1);obtain⟨u',e2,h2⟩:=Ad vj (max a.ag b.ag-1);rw[e1,e2,h2.rep.uniq h1.rep];exact⟨u,rfl,rfl,h1.1⟩
def ssc(a b c:Int):a-c-(b-c)=a-b:=by omega
def dy{a:aH}(h:NN a):bU a a.ag:=⟨zm _,h.le,⟨0,by omega⟩⟩
def gi{a:aH}(h:NN a):bU a a.ah:=⟨h.le,zm _,h.dvd⟩
def SS{a:aH}(h:NN a):bU a (a.ag+a.aj):=⟨by have:=h.s0;omega,by have:=h.sle;omega,⟨1,by omega⟩⟩
def Nz(a:aH)(x:Int):Prop:=x=a.ag\/x=a.ag+a.aj\/x=a.ah
def oV{a:aH}(h:NN a){x:Int}(hx:Nz a x):bU a x:=by
 rcases hx with rfl|rfl|rfl
 ·exact dy h
 ·exact SS h
 ·exact gi h
structure Mid (op:Int) (a b:aH) (Q:Int->Prop):Prop where
 c:∀x z,Nz a x->Nz b z->Q (fL op x z)
 v:∀y,Q y->rU op a b y
def Dw(op:Int)(a b:aH)(y:Int):Prop:=∃x z,Nz a x/\Nz b z/\y=fL op x z
def ang{op:Int}{a b:aH}(ha:NN a)(hb:NN b):Mid op a b (rU op a b):=⟨λx z hx hz=>⟨x,z,oV ha hx,oV hb hz,rfl⟩,λ_ h=>h⟩
def ak7{op:Int}{a b:aH}(ha:NN a)(hb:NN b):Mid op a b (Dw op a b):=⟨λx z hx hz=>⟨x,z,hx,hz,rfl⟩,λ_ ⟨x,z,hx,hz,e⟩=>⟨x,z,oV ha hx,oV hb hz,e⟩⟩
def MQ{a b:aH}(ha:NN a)(hb:NN b){Q:Int->Prop}(h:Mid 8 a b Q):dA Q (aH.mk (a.ag+b.ag) (a.ah+b.ah) (cv a.aj b.aj)):=by
 refine⟨h.c a.ag b.ag (.inl rfl) (.inl rfl),h.c a.ah b.ah (.inr (.inr rfl)) (.inr (.inr rfl)),λy hy=> ?_,lG _ _,λd hd=>iZ ?_ ?_⟩
 ·obtain⟨x,z,⟨x1,x2,x3⟩,⟨z1,z2,z3⟩,rfl⟩:=h.v y hy;show a.ag+b.ag<=x+z/\x+z<=a.ah+b.ah/\cv a.aj b.aj∣x+z-(a.ag+b.ag);refine⟨by omega,by omega,?_⟩;have:=yX (zV (jV a.aj b.aj) x3) (zV (pF a.aj b.aj) z3)
  rwa [show x-a.ag+(z-b.ag)=x+z-(a.ag+b.ag)by omega]at this
 ·have:=hd _ (h.c (a.ag+a.aj) b.ag (.inr (.inl rfl)) (.inl rfl));have this:d∣a.ag+a.aj+b.ag-(a.ag+b.ag):=this
  rwa [show a.ag+a.aj+b.ag-(a.ag+b.ag)=a.aj by omega]at this
 ·have:=hd _ (h.c a.ag (b.ag+b.aj) (.inl rfl) (.inr (.inl rfl)));have this:d∣a.ag+(b.ag+b.aj)-(a.ag+b.ag):=this
  rwa [show a.ag+(b.ag+b.aj)-(a.ag+b.ag)=b.aj by omega]at this
def Ou{a b:aH}(ha:NN a)(hb:NN b){Q:Int->Prop}(h:Mid 9 a b Q):dA Q (aH.mk (a.ag-b.ah) (a.ah-b.ag) (cv a.aj b.aj)):=by
 refine⟨h.c a.ag b.ah (.inl rfl) (.inr (.inr rfl)),h.c a.ah b.ag (.inr (.inr rfl)) (.inl rfl),λy hy=> ?_,lG _ _,λd hd=>iZ ?_ ?_⟩
 ·obtain⟨x,z,⟨x1,x2,x3⟩,⟨z1,z2,z3⟩,rfl⟩:=h.v y hy;show a.ag-b.ah<=x-z/\x-z<=a.ah-b.ag/\cv a.aj b.aj∣x-z-(a.ag-b.ah);refine⟨by omega,by omega,?_⟩;have k:=yz hb.dvd z3;have:=yX (zV (jV a.aj b.aj) x3) (zV (pF a.aj b.aj) k)
  rwa [show x-a.ag+(b.ah-b.ag-(z-b.ag))=x-z-(a.ag-b.ah)by omega]at this
 ·have:=hd _ (h.c (a.ag+a.aj) b.ah (.inr (.inl rfl)) (.inr (.inr rfl)));have this:d∣a.ag+a.aj-b.ah-(a.ag-b.ah):=this
  rwa [show a.ag+a.aj-b.ah-(a.ag-b.ah)=a.aj by omega]at this
 ·have k1:=hd _ (h.c a.ag b.ag (.inl rfl) (.inl rfl));have k2:=hd _ (h.c a.ag (b.ag+b.aj) (.inl rfl) (.inr (.inl rfl)));have k1:d∣a.ag-b.ag-(a.ag-b.ah):=k1;have k2:d∣a.ag-(b.ag+b.aj)-(a.ag-b.ah):=k2;have:=yz k1 k2
  rwa [show a.ag-b.ag-(a.ag-b.ah)-(a.ag-(b.ag+b.aj)-(a.ag-b.ah))=b.aj by omega]at this
def QO{l h x z:Int}(h1:l<=x)(h2:x<=h):min (l*z) (h*z)<=x*z/\x*z<=max (l*z) (h*z):=by
 rcases Int.le_total 0 z with c|c
 ·have k1:=zN h1 c;have k2:=zN h2 c;omega
 ·have k1:=Int.mul_le_mul_of_nonpos_right h1 c;have k2:=Int.mul_le_mul_of_nonpos_right h2 c;omega
def VH(p q r s:Int):Int:=min (min p q) (min r s)
def hi4(p q r s:Int):Int:=max (max p q) (max r s)
def U2{a b:aH}{x z:Int}(hx:a.ag<=x/\x<=a.ah)(hz:b.ag<=z/\z<=b.ah):
  VH (a.ag*b.ag) (a.ag*b.ah) (a.ah*b.ag) (a.ah*b.ah)<=x*z/\x*z<=hi4 (a.ag*b.ag) (a.ag*b.ah) (a.ah*b.ag) (a.ah*b.ah):=by
 have k1:=QO (z:=x) hz.1 hz.2;have k2:=QO (z:=b.ag) hx.1 hx.2;have k3:=QO (z:=b.ah) hx.1 hx.2;rw[zI b.ag x,zI b.ah x,zI z x]at k1;unfold VH hi4;omega
def akU{P:Int->Prop}{p q r s:Int}(h1:P p)(h2:P q)(h3:P r)(h4:P s):P (VH p q r s)/\P (hi4 p q r s):=by
 have e1:VH p q r s=p\/VH p q r s=q\/VH p q r s=r\/VH p q r s=s:=by unfold VH;omega
 have e2:hi4 p q r s=p\/hi4 p q r s=q\/hi4 p q r s=r\/hi4 p q r s=s:=by unfold hi4;omega
 constructor
 ·rcases e1 with e|e|e|e<;>rw[e]<;>assumption
 ·rcases e2 with e|e|e|e<;>rw[e]<;>assumption
def aoh(a b:aH):aH:=aH.mk (VH (a.ag*b.ag) (a.ag*b.ah) (a.ah*b.ag) (a.ah*b.ah)) (hi4 (a.ag*b.ag) (a.ag*b.ah) (a.ah*b.ag) (a.ah*b.ah)) (cv (cv (a.aj*b.ag) (b.aj*a.ag)) (a.aj*b.aj))
def MN{a b:aH}(ha:NN a)(hb:NN b){Q:Int->Prop}(h:Mid 10 a b Q):dA Q (aoh a b):=by
 have h00:Q (a.ag*b.ag):=h.c a.ag b.ag (.inl rfl) (.inl rfl);have h01:Q (a.ag*b.ah):=h.c a.ag b.ah (.inl rfl) (.inr (.inr rfl));have h10:Q (a.ah*b.ag):=h.c a.ah b.ag (.inr (.inr rfl)) (.inl rfl);have h11:Q (a.ah*b.ah):=h.c a.ah b.ah (.inr (.inr rfl)) (.inr (.inr rfl));obtain⟨q1,q2⟩:=akU (P:=Q) h00 h01 h10 h11;have g1:cv (cv (a.aj*b.ag) (b.aj*a.ag)) (a.aj*b.aj)∣a.aj*b.ag:=zV (jV _ _) (jV _ _);have g2:cv (cv (a.aj*b.ag) (b.aj*a.ag)) (a.aj*b.aj)∣b.aj*a.ag:=zV (jV _ _) (pF _ _);have g3:cv (cv (a.aj*b.ag) (b.aj*a.ag)) (a.aj*b.aj)∣a.aj*b.aj:=pF _ _;have base:∀y,Q y->cv (cv (a.aj*b.ag) (b.aj*a.ag)) (a.aj*b.aj)∣y-a.ag*b.ag:=λy hy=>by
  obtain⟨x,z,⟨_,_,i,x3⟩,⟨_,_,j,z3⟩,rfl⟩:=h.v y hy;show _∣x*z-a.ag*b.ag;have e:x*z-a.ag*b.ag=i*(a.aj*b.ag)+j*(b.aj*a.ag)+i*j*(a.aj*b.aj):=by
   have ex:x=a.ag+a.aj*i:=by omega
   have ez:z=b.ag+b.aj*j:=by omega
   rw[ex,ez,zS,y5,y5];have t1:a.ag*(b.aj*j)=j*(b.aj*a.ag):=by rw[<-zQ,zI (a.ag*b.aj) j,zI a.ag b.aj]
   have t2:a.aj*i*b.ag=i*(a.aj*b.ag):=by rw[zI a.aj i,zQ]
   have t3:a.aj*i*(b.aj*j)=i*j*(a.aj*b.aj):=by
    rw[zI a.aj i,zI b.aj j,zQ,Int.mul_left_comm a.aj j,<-zQ]
   rw[t1,t2,t3];omega
  rw[e];exact yX (yX (zV g1 (xC ..)) (zV g2 (xC ..))) (zV g3 (xC ..))
 refine⟨q1,q2,λy hy=> ?_,lG _ _,λd hd=> ?_⟩
 ·obtain⟨x,z,hx,hz,e⟩:=h.v y hy;have e:y=x*z:=e;have k:=U2 ⟨hx.1,hx.2.1⟩ ⟨hz.1,hz.2.1⟩;refine⟨by rw[e];exact k.1,by rw[e];exact k.2,?_⟩;have:=yz (base y hy) (base _ q1)
  rwa [ssc]at this
 ·have diff:∀y y',Q y->Q y'->d∣y-y':=λy y' hy hy'=>by
   have:=yz (hd y hy) (hd y' hy')
   rwa [ssc]at this
  have p10:Q ((a.ag+a.aj)*b.ag):=h.c _ _ (.inr (.inl rfl)) (.inl rfl);have p01:Q (a.ag*(b.ag+b.aj)):=h.c _ _ (.inl rfl) (.inr (.inl rfl));have p11:Q ((a.ag+a.aj)*(b.ag+b.aj)):=h.c _ _ (.inr (.inl rfl)) (.inr (.inl rfl));have d1:=diff _ _ p10 h00;rw[zS,Int.add_comm (a.ag*b.ag),Int.add_sub_cancel]at d1;have d2:=diff _ _ p01 h00;rw[y5,Int.add_comm (a.ag*b.ag),Int.add_sub_cancel,zI]at d2;have d3:=yz (diff _ _ p11 p10) d2;rw[y5 (a.ag+a.aj),Int.add_comm ((a.ag+a.aj)*b.ag),Int.add_sub_cancel,zS,zI b.aj a.ag,Int.add_comm (a.ag*b.aj),Int.add_sub_cancel]at d3;exact iZ (iZ d1 d2) d3
def fR(a:aH):aa Int:=[a.ag,a.ag+a.aj,a.ah]
def nK(a:aH)(x:Int):Nz a x↔∃k,k<3/\x=(fR a)[k]! :=by
 constructor
 ·rintro(rfl|rfl|rfl)
  ·exact⟨0,by omega,rfl⟩
  ·exact⟨1,by omega,rfl⟩
  ·exact⟨2,by omega,rfl⟩
 ·rintro⟨k,hk,rfl⟩;rcases (show k=0\/k=1\/k=2 by omega)with rfl|rfl|rfl
  ·exact .inl rfl
  ·exact .inr (.inl rfl)
  ·exact .inr (.inr rfl)
def Hh{a:aH}(h:NN a){k:Nat}(hk:k<3):cC (fR a)[k]! :=WU (.inr h) (oV h ((nK a _).mpr ⟨k,hk,rfl⟩))
def prC(op:Int)(a b:aH)(i j:Nat)(l:aa Int):Prop:=(∀y,y∈l↔(∃k,k<i/\∃m,m<3/\y=fL op (fR a)[k]! (fR b)[m]!)\/∃m,m<j/\y=fL op (fR a)[i]! (fR b)[m]!)/\l.length=i*3+j/\∀y∈l,cC y
def adA{op:Int}{a b:aH}{i:Nat}{l:aa Int}(h:prC op a b i 3 l):prC op a b (i+1) 0 l:=by
 refine⟨λy=>(h.1 y).trans ⟨?_,?_⟩,by rw[h.2.1];omega,h.2.2⟩
 ·rintro(⟨k,hk,m,hm,e⟩|⟨m,hm,e⟩)
  ·exact .inl ⟨k,by omega,m,hm,e⟩
  ·exact .inl ⟨i,by omega,m,hm,e⟩
 ·rintro(⟨k,hk,m,hm,e⟩|⟨m,hm,e⟩)
  ·rcases y9.mp hk with c|rfl
   ·exact .inl ⟨k,c,m,hm,e⟩
   ·exact .inr ⟨m,hm,e⟩
  ·exact dD hm (yG _)
def aaG{op:Int}{a b c:aH}(ho:binop op)(ha:NN a)(hb:NN b){i:Nat}(hi:i<3){l:aa Int}(hl:prC op a b i 0 l):
  (∃l',DJ (jf.mk op l (fR a) (fR b) i 0 c)=V (jf.mk op l' (fR a) (fR b) i 3 c)/\prC op a b (i+1) 0 l')\/
  (∃l' j,j<3/\DJ (jf.mk op l (fR a) (fR b) i 0 c)=V (jf.mk op l' (fR a) (fR b) i (j:Nat) c)/\¬cC (fL op (fR a)[i]! (fR b)[j]!)):=by
 have ll:∀a:aH,(fR a).length=3:=λ_=>rfl;obtain⟨j,l',e,hI,h⟩:=lH (rnd:=EB) 3 (λj (l:aa Int)=>jf.mk op l (fR a) (fR b) i (j:Nat) c) (λj l=>prC op a b i j l) (λj l=>¬cC (fL op (fR a)[i]! (fR b)[j]!))
  (λj l hj hI=>by
   obtain⟨v,ev,hv⟩:=l9 (Hh ha hi) (Hh hb hj) ho;unfold EB;simp only;rw[nH,bC,ll,ll,gY,ze,bE ⟨trivial,hi⟩,gY,ze,bE ⟨trivial,hj⟩,ev];simp only;by_cases hr:cC (fL op (fR a)[i]! (fR b)[j]!)
   ·left;rw[bY hr];simp only[bC,bB];rw[bE (by rw[zj,hI.2.1];simp;omega),fu hj (by omega),hv hr];refine⟨_,rfl,λy=> ?_,by rw[zj,hI.2.1];simp;omega,λy hy=> ?_⟩
    ·rw[zW,zy,hI.1 y];constructor
     ·rintro((h|⟨m,hm,h⟩)|rfl)
      ·exact .inl h
      ·exact .inr ⟨m,by omega,h⟩
      ·exact .inr ⟨j,by omega,rfl⟩
     ·rintro(h|⟨m,hm,h⟩)
      ·exact .inl (.inl h)
      ·rcases y9.mp hm with c|rfl
       ·exact .inl (.inr ⟨m,c,h⟩)
       ·exact .inr h
    ·rcases zW.mp hy with hy|hy
     ·exact hI.2.2 y hy
     ·rw[zy.mp hy];exact hr
   ·right;rw[bX hr];exact⟨rfl,hr⟩)
  (λl hI=>by
   unfold EB;simp only;rw[gh];rfl) (b:=l) hl
 have e:bJ EB (jf.mk op l (fR a) (fR b) i 0 c)=V (jf.mk op l' (fR a) (fR b) i (j:Nat) c):=e;rcases h with rfl|⟨hj,h⟩
 ·exact .inl ⟨l',e,adA hI⟩
 ·exact .inr ⟨l',j,hj,e,h⟩
def afa{op:Int}{a b:aH}(ho:binop op)(ha:NN a)(hb:NN b):
  ((∀y,Dw op a b y->cC y)/\∃c,AD op a b=V (c,0)/\dA (Dw op a b) c)\/((¬∀y,Dw op a b y->cC y)/\AD op a b=V (aH.mk 0 0 0,3)):=by
 have ll:∀a:aH,(fR a).length=3:=λ_=>rfl;have wc:∀{a:aH},NN a->[a.ag,i64.wrap (a.ag+a.aj),a.ah]=fR a:=λ{a} h=>by
  have:=WU (.inr h) (SS h);rw[aG (by have:=this.1;omega) (by have:=this.2;omega)];rfl
 unfold AD;rw[wc ha,wc hb];obtain⟨i,l,e,hI,h⟩:=lH (rnd:=Aj) 3 (λi (l:aa Int)=>sF.mk op l (fR a) (fR b) (i:Nat) (aH.mk 0 0 0)) (λi l=>prC op a b i 0 l) (λi l=>∃l' j,j<3/\DJ (jf.mk op l (fR a) (fR b) i 0 (aH.mk 0 0 0))=V (jf.mk op l' (fR a) (fR b) i (j:Nat) (aH.mk 0 0 0))/\¬cC (fL op (fR a)[i]! (fR b)[j]!))
  (λi l hi hI=>by
   unfold Aj;simp only;rw[nH,bC];rcases aaG (c:=aH.mk 0 0 0) ho ha hb hi hI with ⟨l',e,h⟩|⟨l',j,hj,e,h⟩
   ·left;rw[e];simp only;rw[gh,bB,fu hi (by omega)];exact⟨l',rfl,h⟩
   ·right;refine⟨?_,l',j,hj,e,h⟩;rw[e];simp only;obtain⟨v,ev,hv⟩:=l9 (Hh ha hi) (Hh hb hj) ho;rw[nH,bC,ll,ll,gY,ze,bE ⟨trivial,hi⟩,gY,ze,bE ⟨trivial,hj⟩,ev];simp only;rw[bX h];rfl)
  (λl hI=>by
   unfold Aj;simp only;rw[gh];rfl) (b:=[]) ⟨λy=>⟨λh=>dD h (by simp),λh=>by
    rcases h with ⟨k,hk,_⟩|⟨m,hm,_⟩
    ·exact dD hk (yG _)
    ·exact dD hm (yG _)⟩,by simp,λy hy=>dD hy (by simp)⟩
 have e:bJ Aj (sF.mk op [] (fR a) (fR b) 0 (aH.mk 0 0 0))=V (sF.mk op l (fR a) (fR b) (i:Nat) (aH.mk 0 0 0)):=e;rw[show acg=bJ Aj from rfl,e];simp only;rcases h with rfl|⟨hi,l',j,hj,e1,h⟩
 ·left;have mem:∀y,y∈l↔Dw op a b y:=λy=>(hI.1 y).trans ⟨λh=>by
   rcases h with ⟨k,hk,m,hm,e⟩|⟨m,hm,_⟩
   ·exact⟨_,_,(nK a _).mpr ⟨k,hk,rfl⟩,(nK b _).mpr ⟨m,hm,rfl⟩,e⟩
   ·exact dD hm (yG _),λ⟨x,z,hx,hz,e⟩=>by
   obtain⟨k,hk,rfl⟩:=(nK a _).mp hx;obtain⟨m,hm,rfl⟩:=(nK b _).mp hz;exact .inl ⟨k,hk,m,hm,e⟩⟩
  rw[gh,bB];have hne:l≠[]:=λe=>by
   have:=hI.2.1;rw[e]at this;simp at this
  obtain⟨c,e2,hc⟩:=Jb hne (by rw[hI.2.1];omega) hI.2.2;rw[e2];exact⟨λy hy=>hI.2.2 y ((mem y).mpr hy),c,rfl,hc.congr mem⟩
 ·right;refine⟨λk=>h (k _ ⟨_,_,(nK a _).mpr ⟨i,hi,rfl⟩,(nK b _).mpr ⟨j,hj,rfl⟩,rfl⟩),?_⟩;rw[nH,bC,e1];simp only;obtain⟨v,ev,hv⟩:=l9 (Hh ha hi) (Hh hb hj) ho;rw[nH,bC,ll,ll,gY,ze,bE ⟨trivial,hi⟩,gY,ze,bE ⟨trivial,hj⟩,ev];simp only;rw[bX h];rfl
def jH{op:Int}{a b c:aH}(ho:op=8\/op=9\/op=10)(ha:NN a)(hb:NN b)(hc:∀Q,Mid op a b Q->dA Q c)(hR:(∀y,Dw op a b y->cC y)->∀y,rU op a b y->cC y):
  ((∀y,rU op a b y->cC y)/\oP op a b=V (c,0)/\NN c)\/((¬∀y,rU op a b y->cC y)/\oP op a b=V (aH.mk 0 0 0,3)):=by
 have hbin:binop op:=by unfold binop;omega
 by_cases hs:cnt a*cnt b<=4096
 ·rw[ow hbin ha hb hs];rcases BY hbin ha hb (by omega)with ⟨h1,d,e,h2⟩|⟨h1,e⟩
  ·have k:=hc _ (ang ha hb);rw[h2.uniq k]at e;exact .inl ⟨h1,e,k.valid h1⟩
  ·exact .inr ⟨h1,e⟩
 ·have e0:oP op a b=AD op a b:=by
   rw[vD hbin ha hb hs];unfold VG;rcases ho with rfl|rfl|rfl<;>rfl
  rw[e0];rcases afa hbin ha hb with ⟨h1,d,e,h2⟩|⟨h1,e⟩
  ·rw[h2.uniq (hc _ (ak7 ha hb))]at e;exact .inl ⟨hR h1,e,(hc _ (ang ha hb)).valid (hR h1)⟩
  ·exact .inr ⟨λk=>h1 λy hy=>k y ((ak7 ha hb).v y hy),e⟩
def WH{c:aH}(h:NN c):jx c.ag c.ah c.aj=c:=by
 rw[LQ h.le h.s0 h.dvd (λk=>by rcases h.st with e|e;exact e.2;omega)]
def Bd{c:aH}(h:NN c):lV c.ag c.ah c.aj=V c:=by
 have:=h.lo;have:=h.hi
 rw[ob (by omega) (by omega) h.s0,WH h]
def nj{op:Int}{a b:aH}(ho:binop op)(ha:NN a)(hb:NN b){r:af (aH×Int)}
  (h:(bif J (op=9)then
   match bif bif iU (i64.wrap (a.ag+i64.wrap (0-b.ah)))then S else O then V O else V (bif iU (i64.wrap (a.ah+i64.wrap (0-b.ag)))then S else O)with
   |none=>G
   |some r5=>bif r5 then V (aH.mk 0 0 0,3)else match BG [a.aj,b.aj]with
    |none=>G
    |some r6=>match lV (i64.wrap (a.ag+i64.wrap (0-b.ah))) (i64.wrap (a.ah+i64.wrap (0-b.ag))) r6 with
     |none=>G
     |some r7=>V (r7,0)
  else bif J (op=8)then
   match bif bif iU (i64.wrap (a.ag+b.ag))then S else O then V O else V (bif iU (i64.wrap (a.ah+b.ah))then S else O)with
   |none=>G
   |some r8=>bif r8 then V (aH.mk 0 0 0,3)else match BG [a.aj,b.aj]with
    |none=>G
    |some r9=>match lV (i64.wrap (a.ag+b.ag)) (i64.wrap (a.ah+b.ah)) r9 with
     |none=>G
     |some r10=>V (r10,0)
  else bif J (op=10)then match VN a b with
   |none=>G
   |some r11=>V r11
  else bif J (op=11)then match ur op a b with
   |none=>G
   |some r12=>V (r12,0)
  else bif J (op=12)then match ur op a b with
   |none=>G
   |some r13=>V (r13,0)
  else bif J (op=21)then match ur op a b with
   |none=>G
   |some r14=>V (r14,0)
  else bif J (op=22)then match ur op a b with
   |none=>G
   |some r15=>V (r15,0)
  else match Yb op a b with
   |none=>G
   |some r16=>V (r16,0))=r):vz op a b=r:=by
 unfold vz;rw[eS,eS,ew (.inr ha),ew (.inr hb),jT,bY ho];simp only[bC,bB];rw[eM ha.ne,eM hb.ne];simp only[bB];exact h
def qN{a b:aH}(ha:NN a)(hb:NN b):(∀y,rU 8 a b y->cC y)↔cC (a.ag+b.ag)/\cC (a.ah+b.ah):=by
 constructor
 ·intro h;exact⟨h _ ⟨_,_,dy ha,dy hb,rfl⟩,h _ ⟨_,_,gi ha,gi hb,rfl⟩⟩
 ·rintro⟨⟨h1,h2⟩,⟨h3,h4⟩⟩ y ⟨x,z,⟨x1,x2,_⟩,⟨z1,z2,_⟩,rfl⟩;exact⟨by show _<=x+z;omega,by show x+z<=_;omega⟩
def rA{a b:aH}(ha:NN a)(hb:NN b):(∀y,rU 9 a b y->cC y)↔cC (a.ag-b.ah)/\cC (a.ah-b.ag):=by
 constructor
 ·intro h;exact⟨h _ ⟨_,_,dy ha,gi hb,rfl⟩,h _ ⟨_,_,gi ha,dy hb,rfl⟩⟩
 ·rintro⟨⟨h1,h2⟩,⟨h3,h4⟩⟩ y ⟨x,z,⟨x1,x2,_⟩,⟨z1,z2,_⟩,rfl⟩;exact⟨by show _<=x-z;omega,by show x-z<=_;omega⟩
def jB{a b:aH}(ha:NN a)(hb:NN b):(∀y,rU 10 a b y->cC y)↔cC (a.ag*b.ag)/\cC (a.ag*b.ah)/\cC (a.ah*b.ag)/\cC (a.ah*b.ah):=by
 constructor
 ·intro h;exact⟨h _ ⟨_,_,dy ha,dy hb,rfl⟩,h _ ⟨_,_,dy ha,gi hb,rfl⟩,h _ ⟨_,_,gi ha,dy hb,rfl⟩,h _ ⟨_,_,gi ha,gi hb,rfl⟩⟩
 ·rintro⟨h1,h2,h3,h4⟩ y ⟨x,z,⟨x1,x2,_⟩,⟨z1,z2,_⟩,rfl⟩;have k:=U2 (a:=a) (b:=b) ⟨x1,x2⟩ ⟨z1,z2⟩;obtain⟨⟨p1,p2⟩,⟨p3,p4⟩⟩:=akU (P:=cC) h1 h2 h3 h4;exact⟨by show _<=x*z;omega,by show x*z<=_;omega⟩
def aj5{x y u v:Int}(h1:x.natAbs=u.natAbs)(h2:y.natAbs=v.natAbs):cv x y=cv u v:=by
 unfold cv yE;rw[h1,h2]
def Xa(p q r s:Int):acQ ([p]++[q]++[r]++[s])=V (VH p q r s):=by
 unfold acQ;rw[bX (by simp),bB,bE (by simp),show Jg=bJ CJ from rfl];have st:∀m k,k=1\/k=2\/k=3->CJ (sM.mk ([p]++[q]++[r]++[s]) m k)=V (V (sM.mk ([p]++[q]++[r]++[s]) (min m ([p]++[q]++[r]++[s])[k.toNat]!) (k+1))):=λm k hk=>by
  unfold CJ;simp only;rw[bY (by simp;omega),bC,bE (by simp;omega),aG];have e:∀w:Int,(if w<m then w else m)=min m w:=λw=>by split<;>omega
  rw[e]
 rw[bM (st _ 1 (.inl rfl)),bM (st _ (1+1) (.inr (.inl rfl))),bM (st _ (1+1+1) (.inr (.inr rfl))),b9 (by intro x hx;simp[CJ]at hx)];simp only;rw[bX (by simp),bB];show V (min (min (min p q) r) s)=V (VH p q r s);unfold VH
 congr 1
 omega
def VB(p q r s:Int):ajR ([p]++[q]++[r]++[s])=V (hi4 p q r s):=by
 unfold ajR;rw[bX (by simp),bB,bE (by simp),show Kf=bJ D9 from rfl];have st:∀m k,k=1\/k=2\/k=3->D9 (sI.mk ([p]++[q]++[r]++[s]) m k)=V (V (sI.mk ([p]++[q]++[r]++[s]) (max m ([p]++[q]++[r]++[s])[k.toNat]!) (k+1))):=λm k hk=>by
  unfold D9;simp only;rw[bY (by simp;omega),bC,bE (by simp;omega),aG];have e:∀w:Int,(if m<w then w else m)=max m w:=λw=>by split<;>omega
  rw[e]
 rw[bM (st _ 1 (.inl rfl)),bM (st _ (1+1) (.inr (.inl rfl))),bM (st _ (1+1+1) (.inr (.inr rfl))),b9 (by intro x hx;simp[D9]at hx)];simp only;rw[bX (by simp),bB];show V (max (max (max p q) r) s)=V (hi4 p q r s);unfold hi4
 congr 1
 omega
def aAI(x y:Int):(bif bif iU x then S else O then V O else V (bif iU y then S else O))=V (!(J (cC x)&&J (cC y))):=by
 rw[show iU x=J (cC x)from jO x,show iU y=J (cC y)from jO y];cases J (cC x)<;>cases J (cC y)<;>rfl
def fQ{op:Int}{a b:aH}(h:∀y,Dw op a b y->cC y){x z:Int}(hx:Nz a x)(hz:Nz b z):cC (fL op x z):=h _ ⟨x,z,hx,hz,rfl⟩
def Qs(op:Int)(a b:aH):Prop:=∃r,vz op a b=V r/\oP op a b=V r/\NV r.1
def aad{a b:aH}(ha:NN a)(hb:NN b):Qs 8 a b:=by
 have r1:=ha.rB;have r2:=ha.BC;have r3:=hb.rB;have r4:=hb.BC;obtain⟨a1,a2⟩:=r1;obtain⟨a3,a4⟩:=r2;obtain⟨b1,b2⟩:=r3;obtain⟨b3,b4⟩:=r4;have key:=jH (op:=8) (.inl rfl) ha hb (λQ h=>MQ ha hb h) (λh=>(qN ha hb).mpr ⟨fQ h (.inl rfl) (.inl rfl),fQ h (.inr (.inr rfl)) (.inr (.inr rfl))⟩);have prog:∀r,(match V (!(J (cC (a.ag+b.ag))&&J (cC (a.ah+b.ah))))with
   |none=>G
   |some r8=>bif r8 then V (aH.mk 0 0 0,(3:Int))else match lV (a.ag+b.ag) (a.ah+b.ah) (cv a.aj b.aj)with
     |none=>G
     |some r10=>V (r10,0))=r->vz 8 a b=r:=λr h=>nj ⟨by decide,by decide⟩ ha hb (by
  simp only[Int.reduceEq,ep,cI,bB,bC];rw[aAI,aG (n:=a.ag+b.ag),aG (n:=a.ah+b.ah),DC ha.s0 hb.s0];exact h)
 rcases key with ⟨h1,e,hv⟩|⟨h1,e⟩
 ·obtain⟨k1,k2⟩:=(qN ha hb).mp h1;refine⟨_,prog _ ?_,e, .inr hv⟩;rw[bY k1,bY k2];have:=Bd hv;have this:lV (a.ag+b.ag) (a.ah+b.ah) (cv a.aj b.aj)=V _:=this;rw[this];rfl
 ·refine⟨_,prog _ ?_,e,RE⟩;have:(J (cC (a.ag+b.ag))&&J (cC (a.ah+b.ah)))=S:=by
   cases c1:J (cC (a.ag+b.ag))<;>cases c2:J (cC (a.ah+b.ah))<;>first|rfl|exact dD ((qN ha hb).mpr ⟨of_decide_eq_true c1,of_decide_eq_true c2⟩) h1
  rw[this];rfl
def Xu{a b:aH}(ha:NN a)(hb:NN b):Qs 9 a b:=by
 have r1:=ha.rB;have r2:=ha.BC;have r3:=hb.rB;have r4:=hb.BC;obtain⟨a1,a2⟩:=r1;obtain⟨a3,a4⟩:=r2;obtain⟨b1,b2⟩:=r3;obtain⟨b3,b4⟩:=r4;have key:=jH (op:=9) (.inr (.inl rfl)) ha hb (λQ h=>Ou ha hb h) (λh=>(rA ha hb).mpr ⟨fQ h (.inl rfl) (.inr (.inr rfl)),fQ h (.inr (.inr rfl)) (.inl rfl)⟩);have prog:∀r,(match V (!(J (cC (a.ag-b.ah))&&J (cC (a.ah-b.ag))))with
   |none=>G
   |some r8=>bif r8 then V (aH.mk 0 0 0,(3:Int))else match lV (a.ag-b.ah) (a.ah-b.ag) (cv a.aj b.aj)with
     |none=>G
     |some r10=>V (r10,0))=r->vz 9 a b=r:=λr h=>nj ⟨by decide,by decide⟩ ha hb (by
  simp only[Int.reduceEq,ep,cI,bB,bC];rw[aAI,aG (n:=0-b.ah),aG (n:=0-b.ag),aG (n:=a.ag+(0-b.ah)),aG (n:=a.ah+(0-b.ag)),DC ha.s0 hb.s0,
   show a.ag+(0-b.ah)=a.ag-b.ah by omega,show a.ah+(0-b.ag)=a.ah-b.ag by omega]
  exact h)
 rcases key with ⟨h1,e,hv⟩|⟨h1,e⟩
 ·obtain⟨k1,k2⟩:=(rA ha hb).mp h1;refine⟨_,prog _ ?_,e, .inr hv⟩;rw[bY k1,bY k2];have:=Bd hv;have this:lV (a.ag-b.ah) (a.ah-b.ag) (cv a.aj b.aj)=V _:=this;rw[this];rfl
 ·refine⟨_,prog _ ?_,e,RE⟩;have:(J (cC (a.ag-b.ah))&&J (cC (a.ah-b.ag)))=S:=by
   cases c1:J (cC (a.ag-b.ah))<;>cases c2:J (cC (a.ah-b.ag))<;>first|rfl|exact dD ((rA ha hb).mpr ⟨of_decide_eq_true c1,of_decide_eq_true c2⟩) h1
  rw[this];rfl
def aaX{a b:aH}(ha:NN a)(hb:NN b):Qs 10 a b:=by
 have key:=jH (op:=10) (.inr (.inr rfl)) ha hb (λQ h=>MN ha hb h) (λh=>(jB ha hb).mpr ⟨fQ h (.inl rfl) (.inl rfl),fQ h (.inl rfl) (.inr (.inr rfl)),fQ h (.inr (.inr rfl)) (.inl rfl),fQ h (.inr (.inr rfl)) (.inr (.inr rfl))⟩);have prog:vz 10 a b=VN a b:=nj ⟨by decide,by decide⟩ ha hb (by
  simp only[Int.reduceEq,ep,cI,bB,bC];cases VN a b<;>rfl)
 unfold Qs;rw[prog];obtain⟨v1,e1,q1⟩:=CB ha.rB hb.rB;obtain⟨v2,e2,q2⟩:=CB ha.rB hb.BC;obtain⟨v3,e3,q3⟩:=CB ha.BC hb.rB;obtain⟨v4,e4,q4⟩:=CB ha.BC hb.BC;unfold VN;rw[e1];simp only;by_cases c1:cC (a.ag*b.ag)
 ·rw[bY c1,e2];simp only[bC,bB];by_cases c2:cC (a.ag*b.ah)
  ·rw[bY c2,e3];simp only[bC,bB];by_cases c3:cC (a.ah*b.ag)
   ·rw[bY c3,e4];simp only[bC,bB];by_cases c4:cC (a.ah*b.ah)
    ·rw[bY c4];simp only[bC,bB];have hr:=(jB ha hb).mpr ⟨c1,c2,c3,c4⟩;rcases key with ⟨_,e,hv⟩|⟨h1,_⟩
     ·have r1:=ha.rB;have r3:=hb.rB;obtain⟨a1,a2⟩:=r1;obtain⟨b1,b2⟩:=r3;have s1:=ha.s0;have s2:=hb.s0;have l1:=ha.sle;have l2:=hb.sle;obtain⟨w1,w2⟩:=c1;obtain⟨w3,w4⟩:=c2;obtain⟨w5,w6⟩:=c3;obtain⟨w7,w8⟩:=c4;have n1:0<=a.aj*((b.ag.natAbs:Nat):Int):=zF s1 (by omega);have n2:0<=b.aj*((a.ag.natAbs:Nat):Int):=zF s2 (by omega);have n3:0<=a.aj*b.aj:=zF s1 s2;have k1:a.aj*((b.ag.natAbs:Nat):Int)<=2199023255552:=by
       have t:=zN l1 (show 0<=((b.ag.natAbs:Nat):Int)by omega);have t2:(a.ah-a.ag)*((b.ag.natAbs:Nat):Int)<=2199023255552:=by
        rcases Int.le_total 0 b.ag with c|c
        ·rw[show ((b.ag.natAbs:Nat):Int)=b.ag by omega,yu];omega
        ·rw[show ((b.ag.natAbs:Nat):Int)= -b.ag by omega,xX,yu];omega
       omega
      have k2:b.aj*((a.ag.natAbs:Nat):Int)<=2199023255552:=by
       have t:=zN l2 (show 0<=((a.ag.natAbs:Nat):Int)by omega);have t2:(b.ah-b.ag)*((a.ag.natAbs:Nat):Int)<=2199023255552:=by
        rcases Int.le_total 0 a.ag with c|c
        ·rw[show ((a.ag.natAbs:Nat):Int)=a.ag by omega,yu,zI b.ah,zI b.ag];omega
        ·rw[show ((a.ag.natAbs:Nat):Int)= -a.ag by omega,xX,yu,zI b.ah,zI b.ag];omega
       omega
      have k3:a.aj*b.aj<=4398046511104:=by
       have t:=xA l1 l2 s2 (by omega);rw[yu,Int.mul_sub,Int.mul_sub]at t;omega
      rw[mZ hb.rB,mZ ha.rB,aG (n:=a.aj*((b.ag.natAbs:Nat):Int)),aG (n:=b.aj*((a.ag.natAbs:Nat):Int)),aG (n:=a.aj*b.aj),
       CN n1 n2 n3,Xa,VB,q1 ⟨w1,w2⟩,q2 ⟨w3,w4⟩,q3 ⟨w5,w6⟩,q4 ⟨w7,w8⟩]
      simp only;have eg:cv (cv (a.aj*((b.ag.natAbs:Nat):Int)) (b.aj*((a.ag.natAbs:Nat):Int))) (a.aj*b.aj)=(aoh a b).aj:=by
       show _=cv (cv (a.aj*b.ag) (b.aj*a.ag)) (a.aj*b.aj);rw[aj5 (x:=a.aj*((b.ag.natAbs:Nat):Int)) (u:=a.aj*b.ag) (by rw[Int.natAbs_mul,Int.natAbs_mul,Int.natAbs_natCast]) (y:=b.aj*((a.ag.natAbs:Nat):Int)) (v:=b.aj*a.ag) (by rw[Int.natAbs_mul,Int.natAbs_mul,Int.natAbs_natCast])]
      rw[eg];have:=Bd hv;have this:lV (VH (a.ag*b.ag) (a.ag*b.ah) (a.ah*b.ag) (a.ah*b.ah)) (hi4 (a.ag*b.ag) (a.ag*b.ah) (a.ah*b.ag) (a.ah*b.ah)) (aoh a b).aj=V _:=this;rw[this];exact⟨_,rfl,e, .inr hv⟩
     ·exact dD hr h1
    ·rcases key with ⟨h1,_⟩|⟨_,e⟩
     ·exact dD ((jB ha hb).mp h1).2.2.2 c4
     ·rw[bX c4];exact⟨_,rfl,e,RE⟩
   ·rcases key with ⟨h1,_⟩|⟨_,e⟩
    ·exact dD ((jB ha hb).mp h1).2.2.1 c3
    ·rw[bX c3];exact⟨_,rfl,e,RE⟩
  ·rcases key with ⟨h1,_⟩|⟨_,e⟩
   ·exact dD ((jB ha hb).mp h1).2.1 c2
   ·rw[bX c2];exact⟨_,rfl,e,RE⟩
 ·rcases key with ⟨h1,_⟩|⟨_,e⟩
  ·exact dD ((jB ha hb).mp h1).1 c1
  ·rw[bX c1];exact⟨_,rfl,e,RE⟩
structure Eu (x m a b u v:Int):Prop where
 a0:0<=a
 b2:2<=b
 ab:a<b
 g:yE a b=1
 du:m∣u*x-a
 dv:m∣v*x-b
 s:(0<=u/\v<=0/\b*u-a*v=m)\/(u<=0/\0<=v/\a*v-b*u=m)
def Eu.next{x m a b u v:Int}(h:Eu x m a b u v)(ha:1<a):Eu x m (b%a) a (v-b/a*u) u:=by
 have e:=yV b a;have m0:=yW b (b:=a) (by omega);have m1:=y4 b (b:=a) (by omega);refine⟨m0,by omega,m1,?_,?_,h.du,?_⟩
 ·have:=qG (a:=b) (b:=a) (by have:=h.b2;omega) (by omega);rw[kr (by have:=h.b2;omega)]at this;rw[Int.gcd_comm,this,Int.gcd_comm];exact h.g
 ·have k:=yz h.dv (zV h.du (xC (b/a) _));have:v*x-b-b/a*(u*x-a)=(v-b/a*u)*x-b%a:=by
   rw[Int.mul_sub,yu,zQ,zI (b/a) a];omega
  rwa [this]at k
 ·have t1:(b%a)*u=b*u-a*(b/a*u):=by
   rw[<-zQ,<-yu]
   congr 1
   omega
  have t2:a*(v-b/a*u)=a*v-a*(b/a*u):=Int.mul_sub ..;have q0:0<=b/a:=zR (by have:=h.b2;omega) (by omega);rcases h.s with ⟨s1,s2,s3⟩|⟨s1,s2,s3⟩
  ·have:=zF q0 s1;exact .inr ⟨by omega,s1,by omega⟩
  ·have:=zF q0 (show 0<= -u by omega);rw[xX]at this;exact .inl ⟨by omega,s1,by omega⟩
def Eu.bd{x m a b u v:Int}(h:Eu x m a b u v): -m<=u/\u<=m:=by
 have hb:=h.b2;have ha:=h.a0;rcases h.s with ⟨s1,s2,s3⟩|⟨s1,s2,s3⟩
 ·have k1:=zF ha (show 0<= -v by omega);rw[xX]at k1;have k2:1*u<=b*u:=zN (by omega) s1;omega
 ·have k1:=zF ha s2;have k2:1*(-u)<=b*(-u):=zN (by omega) (by omega);simp only[xX,z6]at k2;omega
def Eu.bv{x m a b u v:Int}(h:Eu x m a b u v)(ha:1<a): -m<=v/\v<=m:=by
 have hb:=h.b2;rcases h.s with ⟨s1,s2,s3⟩|⟨s1,s2,s3⟩
 ·have k1:=zF (show 0<=b by omega) s1;have k2:1*(-v)<=a*(-v):=zN (by omega) (by omega);simp only[xX,z6]at k2;omega
 ·have k1:=zF (show 0<=b by omega) (show 0<= -u by omega);rw[xX]at k1;have k2:1*v<=a*v:=zN (by omega) s2;omega
def asV{x m a b u v:Int}(hm:m<1152921504606846976)(hbm:b<=m)(h:Eu x m a b u v):∃b' u' v',IX (mD.mk m a b u v)=V (mD.mk m 1 b' u' v')/\m∣u'*x-1/\ -m<=u'/\u'<=m:=by
 obtain⟨z,e1,⟨a',b',u',v',rfl,hI,hb⟩,hs⟩:=lB (rnd:=Dp) (λp=>∃a b u v,p=mD.mk m a b u v/\Eu x m a b u v/\b<=m) (λp=>p.t5.toNat) (λp p' ⟨a,b,u,v,hp,hI,hbm⟩ hn=>by
  subst hp;have hn:Dp (mD.mk m a b u v)=V (V p'):=hn;unfold Dp at hn;simp only at hn;by_cases c:1<a
  ·have hN:=hI.next c;have q0:0<=b/a:=zR (by have:=hI.b2;omega) (by omega);have q1:b/a<=b:=yg _ (by have:=hI.b2;omega);have e:=yV b a;rw[zI]at e;have m0:=hN.a0;have m1:=hN.ab;have bu:=hI.bd;have bv:=hI.bv c;have bn:=hN.bd;have hb2:=hI.b2;have hab:=hI.ab;rw[bY c,bC,gY,jX,aG (n:=b/a),aG (n:=b/a*a),aG (n:=b-b/a*a),aG (n:=b/a*u),aG (n:=v-b/a*u)]at hn;simp only[zA.injEq]at hn;subst hn;rw[show b-b/a*a=b%a by omega];exact⟨⟨b%a,a,_,_,rfl,hN,by have:=hI.ab;omega⟩,by show (b%a).toNat<a.toNat;omega⟩
  ·rw[bX c]at hn;cases hn) ⟨a,b,u,v,rfl,h,hbm⟩
 have hle:¬1<a':=λc=>by
  have hN:=hI.next c;have q0:0<=b'/a':=zR (by have:=hI.b2;omega) (by omega);refine hs (mD.mk m (i64.wrap (b'-i64.wrap (i64.wrap (b'.tdiv a')*a'))) a' (i64.wrap (v'-i64.wrap (i64.wrap (b'.tdiv a')*u'))) u') ?_;unfold Dp;simp only;rw[bY c,bC,gY]
 have a1:a'=1:=by
  have:=hI.a0;rcases (show a'=0\/a'=1 by omega)with rfl|rfl
  ·have g:=hI.g;rw[Int.gcd_zero_left]at g;have:=hI.b2;omega
  ·rfl
 subst a1;exact⟨b',u',v',e1,hI.du,hI.bd⟩
def akH{x m:Int}(h0:0<=x)(h1:2<=m)(h2:m<1152921504606846976)(hg:yE x m=1):∃v:Int,ajS x m=V v/\0<=v/\v<m/\m∣v*x-1:=by
 have m0:=yW x (b:=m) (by omega);have m1:=y4 x (b:=m) (by omega);have e:=yV x m;obtain⟨b',u',v',e1,d1,d2,d3⟩:=asV (x:=x) (m:=m) (a:=x%m) (b:=m) (u:=1) (v:=0) h2 (zm _) ⟨m0,h1,m1,by
   have:=qG (a:=x) (b:=m) h0 (by omega);rw[kr h0]at this;rw[Int.gcd_comm,this,hg],⟨x/m,by omega⟩,⟨-1,by omega⟩, .inl ⟨by omega,by omega,by omega⟩⟩
 unfold ajS;rw[gY,kr h0,e1];simp only;rw[gh,bB,gY,gY];have t:=Int.mul_tdiv_add_tmod u' m;have tb:(u'.tmod m).natAbs<m.natAbs:=by rw[Int.natAbs_tmod];exact yQ _ (by omega)
 rw[aG,kr];have ev:(u'.tmod m+m)%m=u'%m:=by
  rw[Int.add_emod_right]
  conv=>rhs;rw[<-t]
  rw[Int.mul_add_emod_self_left]
 rw[ev];refine⟨u'%m,rfl,yW _ (by omega),y4 _ (by omega),?_⟩;have e2:=yV u' m;have:u'%m*x-1=u'*x-1-m*(u'/m*x):=by
  rw[<-zQ];have:u'%m*x=u'*x-m*(u'/m)*x:=by
   rw[<-yu]
   congr 1
   omega
  omega
 rw[this];exact yz d1 (xD ..)
def abZ{x m:Int}(hm:1<=m):(x.tmod m+m).tmod m=x%m/\0<=x.tmod m+m/\x.tmod m+m<2*m/\ -m<x.tmod m:=by
 have t:=Int.mul_tdiv_add_tmod x m;have tb:(x.tmod m).natAbs<m.natAbs:=by rw[Int.natAbs_tmod];exact yQ _ (by omega)
 refine⟨?_,by omega,by omega,by omega⟩;rw[kr,Int.add_emod_right]
 conv=>rhs;rw[<-t]
 rw[Int.mul_add_emod_self_left]
def Kz(X Y Z:Int->Int)(sa P M K:Int):af aH:=
 bif J (M<K)then V iL else if¬P=(0:Int)then bif J (K=i64.wrap (K+i64.wrap (i64.wrap ((i64.wrap (M-K)).tdiv P)*P)))then V (gO (X K))else V (aH.mk (Y K) (Z K) (i64.wrap (P*sa)))else G
def HB{X Y Z:Int->Int}{sa P M K:Int}(h1:1<=sa)(h2:1<=P)(h3:0<=K)(h4:M<=4398046511104)(h5:M*sa<=4398046511104):∃c,Kz X Y Z sa P M K=V c/\fA c=J (M<K):=by
 unfold Kz;by_cases c:M<K
 ·rw[bY c];exact⟨cG,rfl,iK⟩
 ·rw[bX c,bB,gY];have q0:0<=(M-K)/P:=zR (by omega) (by omega);have q1:(M-K)/P<=M-K:=yg _ (by omega);have q2:(M-K)/P*P<=M-K:=xd _ (by omega);have q3:0<=(M-K)/P*P:=zF q0 (by omega);rw[aG (n:=M-K),jX,aG (n:=(M-K)/P),aG (n:=(M-K)/P*P),aG (n:=K+(M-K)/P*P)];by_cases e:K=K+(M-K)/P*P
  ·rw[bY e];refine⟨gO (X K),rfl,eM λk=> ?_⟩;have k1:X K=1:=congrArg aH.ag k;have k2:X K=0:=congrArg aH.ah k;omega
  ·rw[bX e];refine⟨_,rfl,eM λk=> ?_⟩;have k3:i64.wrap (P*sa)=0:=congrArg aH.aj k;have q5:1<=(M-K)/P:=by
    rcases (show (M-K)/P=0\/1<=(M-K)/P by omega)with z|z
    ·rw[z,xT]at e;omega
    ·exact z
   have q6:1*P<=(M-K)/P*P:=zN q5 (by omega);have q7:P*sa<=M*sa:=zN (by omega) (by omega);have q8:1*1<=P*sa:=xA h2 h1 (by omega) (by omega);rw[aG]at k3;omega
def UH(X Y Z:Int->Int)(sa P M L k:Int):af aH:=
 if¬sa=(0:Int)then if¬sa=(0:Int)then bif J (k<L)then if¬P=(0:Int)then Kz X Y Z sa P M (i64.wrap (k+i64.wrap (i64.wrap ((i64.wrap (i64.wrap (i64.wrap (L-k)+P)-1)).tdiv P)*P)))else G else Kz X Y Z sa P M k else G else G
def C7{X Y Z:Int->Int}{sa P M L k:Int}(h1:1<=sa)(h2:1<=P)(h3:0<=k)(hk:k<P)(hP:P<=4398046511104)(h4:M<=4398046511104)(h5:M*sa<=4398046511104)(hL:0<=L)(hL2:L<=4398046511104):
  ∃c,UH X Y Z sa P M L k=V c/\(fA c=S↔∃j,L<=j/\j<=M/\P∣j-k):=by
 unfold UH;rw[gY,gY];by_cases c:k<L
 ·have q0:0<=(L-k+P-1)/P:=zR (by omega) (by omega);have q2:(L-k+P-1)/P*P<=L-k+P-1:=xd _ (by omega);have q1:(L-k+P-1)/P<=L-k+P-1:=yg _ (by omega);have q3:0<=(L-k+P-1)/P*P:=zF q0 (by omega);have q4:=wW (L-k+P-1) (show 0<P by omega);rw[zS,z6]at q4;rw[bY c,bC,gY,aG (n:=L-k),aG (n:=L-k+P),aG (n:=L-k+P-1),jX,aG (n:=(L-k+P-1)/P),aG (n:=(L-k+P-1)/P*P),aG (n:=k+(L-k+P-1)/P*P)];obtain⟨r,e,hr⟩:=HB (X:=X) (Y:=Y) (Z:=Z) (K:=k+(L-k+P-1)/P*P) h1 h2 (by omega) h4 h5;refine⟨r,e,?_⟩;rw[hr];constructor
  ·intro hd;have:=of_decide_eq_false hd;exact⟨k+(L-k+P-1)/P*P,by omega,by omega,by rw[show k+(L-k+P-1)/P*P-k=(L-k+P-1)/P*P by omega];exact xC ..⟩
  ·rintro⟨j,j1,j2,t,j3⟩;rw[zI]at j3;refine bX ?_;have:(L-k+P-1)/P<=t:=by
    have:(L-k+P-1)/P<t+1:=wK (a:=P) (by rw[zS,z6];omega) (by omega);omega
   have:=zN this (show 0<=P by omega);omega
 ·rw[bX c,bB];obtain⟨r,e,hr⟩:=HB (X:=X) (Y:=Y) (Z:=Z) (K:=k) h1 h2 h3 h4 h5;refine⟨r,e,?_⟩;rw[hr];constructor
  ·intro hd;have:=of_decide_eq_false hd;exact⟨k,by omega,by omega,⟨0,by omega⟩⟩
  ·rintro⟨j,j1,j2,t,j3⟩;rw[zI]at j3;refine bX ?_;have:0<=t:=Decidable.byContradiction λh=>by
    have:t*P<= -1*P:=zN (by omega) (by omega);omega
   have:=zF this (show 0<=P by omega);omega
def lu{a b:aH}(ha:NN a)(hb:NN b)(h1:1<=a.aj)(x:Int):(bU a x/\bU b x)↔∃j:Int,x=a.ag+j*a.aj/\max a.ag b.ag<=x/\x<=min a.ah b.ah/\b.aj∣j*a.aj-(b.ag-a.ag):=by
 constructor
 ·rintro⟨⟨x1,x2,j,x3⟩,⟨z1,z2,z3⟩⟩;rw[zI]at x3;exact⟨j,by omega,by omega,by omega,by rw[<-x3,show x-a.ag-(b.ag-a.ag)=x-b.ag by omega];exact z3⟩
 ·rintro⟨j,e,h2,h3,h4⟩;refine⟨⟨by omega,by omega,⟨j,by rw[zI];omega⟩⟩,⟨by omega,by omega,?_⟩⟩;rw[show x-b.ag=j*a.aj-(b.ag-a.ag)by omega];exact h4
def nu{lo s x low high j:Int}(hs:1<=s)(hl:lo<=low)(hx:x=lo+j*s):(low<=x/\x<=high)↔((low-lo+s-1)/s<=j/\j<=(high-lo)/s):=by
 have q2:(low-lo+s-1)/s*s<=low-lo+s-1:=xd _ (by omega);have q4:=wW (low-lo+s-1) (show 0<s by omega);rw[zS,z6]at q4;constructor
 ·rintro⟨h1,h2⟩;refine⟨?_,Int.le_ediv_of_mul_le (by omega) (by omega)⟩;have:(low-lo+s-1)/s<j+1:=wK (a:=s) (by rw[zS,z6];omega) (by omega);omega
 ·rintro⟨h1,h2⟩;have k1:=zN h1 (show 0<=s by omega);have k2:j*s<=high-lo:=xU (zN h2 (by omega)) (xd _ (by omega));exact⟨by omega,by omega⟩
def ais{a b:aH}(ha:NN a)(hb:NN b)(h1:1<=a.aj)(h2:1<=b.aj):∃c,afm a b=V c/\(fA c=S↔∃x,bU a x/\bU b x):=by
 have a1:=ha.lo;have a2:=ha.hi;have a3:=ha.le;have a4:=ha.sle;have b1:=hb.lo;have b2:=hb.hi;have b3:=hb.le;have b4:=hb.sle;have g0:=lG a.aj b.aj;have gl:=jV a.aj b.aj;have gr:=pF a.aj b.aj;have gpos:1<=cv a.aj b.aj:=by
  rcases (show cv a.aj b.aj=0\/1<=cv a.aj b.aj by omega)with z|z
  ·rw[z]at gl;have:=xV.mp gl;omega
  ·exact z
 have hcop:yE (a.aj/cv a.aj b.aj) (b.aj/cv a.aj b.aj)=1:=Int.gcd_ediv_gcd_ediv_gcd (show 0<yE a.aj b.aj by unfold cv at gpos;omega);unfold afm;rw[DC (by omega) (by omega)];simp only;generalize cv a.aj b.aj=g at*;rw[show (if b.ah<a.ah then b.ah else a.ah)=min a.ah b.ah by split<;>omega,show (if a.ag<b.ag then b.ag else a.ag)=max a.ag b.ag by split<;>omega];by_cases c1:min a.ah b.ah<max a.ag b.ag
 ·rw[bY c1];refine⟨cG,rfl,?_⟩;rw[iK];exact⟨λk=>(by cases k),λ⟨x,x1,x2⟩=>by have:=x1.1;have:=x1.2.1;have:=x2.1;have:=x2.2.1;omega⟩
 ·rw[bX c1,bB,bE (show ¬@Eq Int g 0 by omega),aG (n:=b.ag-a.ag)];simp only;by_cases c2:(b.ag-a.ag).tmod g=0
  ·rw[bY c2];simp only[bC,bB];have eA:i64.wrap (a.aj.tdiv g)=a.aj/g:=by
    have:=yg (a:=a.aj) g (by omega);have:=zR (a:=a.aj) (b:=g) (by omega) (by omega);rw[jX,aG]
   have eP:i64.wrap (b.aj.tdiv g)=b.aj/g:=by
    have:=yg (a:=b.aj) g (by omega);have:=zR (a:=b.aj) (b:=g) (by omega) (by omega);rw[jX,aG]
   have mA:a.aj/g*g=a.aj:=wu gl;have mP:b.aj/g*g=b.aj:=wu gr;have hA0:0<=a.aj/g:=zR (by omega) (by omega);have hA1:a.aj/g<=a.aj:=yg _ (by omega);have hP1:b.aj/g<=b.aj:=yg _ (by omega);have hP0:1<=b.aj/g:=by
    have:0<=b.aj/g:=zR (by omega) (by omega);rcases (show b.aj/g=0\/1<=b.aj/g by omega)with z|z
    ·rw[z,xT]at mP;omega
    ·exact z
   rw[eA,eP];obtain⟨D,hD⟩:=Int.dvd_of_tmod_eq_zero c2;have eD:(b.ag-a.ag).tdiv g=D:=by rw[hD];exact Int.mul_tdiv_cancel_left _ (by omega)
   have dnat:D.natAbs<=(b.ag-a.ag).natAbs:=by rw[<-eD,Int.natAbs_tdiv];exact Nat.div_le_self _ _
   rw[eD];generalize a.aj/g=A at*;generalize b.aj/g=P at*;have el:i64.wrap (i64.wrap (i64.wrap (max a.ag b.ag-a.ag)+a.aj)-1)=max a.ag b.ag-a.ag+a.aj-1:=by
    rw[aG (n:=max a.ag b.ag-a.ag),aG (n:=max a.ag b.ag-a.ag+a.aj),aG]
   have l0:0<=(max a.ag b.ag-a.ag+a.aj-1)/a.aj:=zR (by omega) (by omega);have l1:(max a.ag b.ag-a.ag+a.aj-1)/a.aj<=max a.ag b.ag-a.ag+a.aj-1:=yg _ (by omega);have h0:0<=(min a.ah b.ah-a.ag)/a.aj:=zR (by omega) (by omega);have hh1:(min a.ah b.ah-a.ag)/a.aj<=min a.ah b.ah-a.ag:=yg _ (by omega);have hh2:(min a.ah b.ah-a.ag)/a.aj*a.aj<=min a.ah b.ah-a.ag:=xd _ (by omega);rw[el,aG (n:=min a.ah b.ah-a.ag),jX (a:=max a.ag b.ag-a.ag+a.aj-1) (by omega),jX (a:=min a.ah b.ah-a.ag) (by omega),
    aG (n:=(max a.ag b.ag-a.ag+a.aj-1)/a.aj),aG (n:=(min a.ah b.ah-a.ag)/a.aj)]
   have cm:∀k,P∣k*A-D↔b.aj∣k*a.aj-(b.ag-a.ag):=λk=>by
    have e:k*a.aj-(b.ag-a.ag)=(k*A-D)*g:=by rw[hD,<-mA,yu,zQ,zI D g]
    rw[e,<-mP];exact⟨λh=>Int.mul_dvd_mul_right _ h,λh=>Int.dvd_of_mul_dvd_mul_right (by omega) h⟩
   have fin:∀k0,(∀k,P∣k*A-D↔P∣k-k0)->((∃j,(max a.ag b.ag-a.ag+a.aj-1)/a.aj<=j/\j<=(min a.ah b.ah-a.ag)/a.aj/\P∣j-k0)↔∃x,bU a x/\bU b x):=λk0 hk=>by
    constructor
    ·rintro⟨j,j1,j2,j3⟩;have r:=(nu (lo:=a.ag) (s:=a.aj) (low:=max a.ag b.ag) (high:=min a.ah b.ah) (j:=j) h1 (by omega) rfl).mpr ⟨j1,j2⟩;exact⟨_,(lu ha hb h1 _).mpr ⟨j,rfl,r.1,r.2,(cm j).mp ((hk j).mpr j3)⟩⟩
    ·rintro⟨x,hx⟩;obtain⟨j,e,x1,x2,x3⟩:=(lu ha hb h1 x).mp hx;have r:=(nu (lo:=a.ag) (s:=a.aj) (low:=max a.ag b.ag) (high:=min a.ah b.ah) (j:=j) h1 (by omega) e).mp ⟨x1,x2⟩;exact⟨j,r.1,r.2,(hk j).mp ((cm j).mpr x3)⟩
   rw[bE (show ¬@Eq Int g 0 by omega)];by_cases c3:1<P
   ·rw[bY c3,bC,bE (show ¬@Eq Int g 0 by omega),gY,gY,bE (show ¬@Eq Int g 0 by omega),gY];have m0:=yW A (b:=P) (by omega);have m1:=y4 A (b:=P) (by omega);have hg:yE (A%P) P=1:=by
     have:=qG (a:=A) (b:=P) hA0 (by omega);rw[kr hA0]at this;rw[Int.gcd_comm,this,hcop]
    obtain⟨v,e1,v0,v1,v2⟩:=akH (x:=A%P) (m:=P) m0 (by omega) (by omega) hg;rw[kr hA0,e1];simp only;obtain⟨f1,f2,f3,f4⟩:=abZ (x:=D) (m:=P) (by omega);have d0:=yW D (b:=P) (by omega);have d1:=y4 D (b:=P) (by omega);rw[aG (n:=D),aG (n:=D.tmod P+P),f1,aqT d0 d1 v0 v1 (by omega)];simp only;have k0:=yW (D%P*v) (b:=P) (by omega);have k1:=y4 (D%P*v) (b:=P) (by omega);have vA:P∣v*A-1:=by
     have e:=yV A P;have t:v*A-1=v*(A%P)-1+P*(v*(A/P)):=by
      conv=>lhs;rw[<-e]
      rw[y5,Int.mul_left_comm v P];omega
     rw[t];exact yX v2 (xD ..)
    have hk:∀k,P∣k*A-D↔P∣k-D%P*v%P:=λk=>by
     have e1:P∣D*v-D%P*v%P:=by
      have t1:=yV (D%P*v) P;have t2:=yV D P;have:D*v-D%P*v%P=P*(D/P*v)+P*(D%P*v/P):=by
       have:D*v=P*(D/P*v)+D%P*v:=by
        conv=>lhs;rw[<-t2]
        rw[zS,zQ]
       omega
      rw[this];exact yX (xD ..) (xD ..)
     constructor
     ·intro h;have t:=yz (zV h (xD _ v)) (zV vA (xD _ k));have t2:(k*A-D)*v-(v*A-1)*k=k-D*v:=by
       rw[yu,yu,z6,zQ,zI (v*A) k,zI A v];omega
      rw[t2]at t;have:=yX t e1
      rwa [show k-D*v+(D*v-D%P*v%P)=k-D%P*v%P by omega]at this
     ·intro h;have t:=yz h e1;rw[show k-D%P*v%P-(D*v-D%P*v%P)=k-D*v by omega]at t;have t2:=yX (zV t (xD _ A)) (zV vA (xD _ D));have t3:(k-D*v)*A+(v*A-1)*D=k*A-D:=by
       rw[yu,yu,z6,zQ,zI (v*A) D];omega
      rwa [t3]at t2
    obtain⟨c,e,hc⟩:=C7 (X:=λK=>i64.wrap (a.ag+i64.wrap (K*a.aj))) (Y:=λK=>i64.wrap (a.ag+i64.wrap (K*a.aj))) (Z:=λK=>i64.wrap (a.ag+i64.wrap (i64.wrap (K+i64.wrap (i64.wrap ((i64.wrap ((min a.ah b.ah-a.ag)/a.aj-K)).tdiv P)*P))*a.aj)))
     h1 hP0 k0 k1 (by omega) (M:=(min a.ah b.ah-a.ag)/a.aj) (by omega) (by omega) l0 (by omega)
    exact⟨c,e,hc.trans (fin _ hk)⟩
   ·have p1:P=1:=by omega
    rw[bX c3,bB];obtain⟨c,e,hc⟩:=C7 (X:=λK=>i64.wrap (a.ag+i64.wrap (K*a.aj))) (Y:=λK=>i64.wrap (a.ag+i64.wrap (K*a.aj))) (Z:=λK=>i64.wrap (a.ag+i64.wrap (i64.wrap (K+i64.wrap (i64.wrap ((i64.wrap ((min a.ah b.ah-a.ag)/a.aj-K)).tdiv P)*P))*a.aj)))
     h1 hP0 (k:=0) (by omega) (by omega) (by omega) (M:=(min a.ah b.ah-a.ag)/a.aj) (by omega) (by omega) l0 (by omega)
    exact⟨c,e,hc.trans (fin 0 λk=>by subst p1;exact⟨λ_=>Int.one_dvd _,λ_=>Int.one_dvd _⟩)⟩
  ·rw[bX c2];refine⟨cG,rfl,?_⟩;rw[iK];refine⟨λk=>(by cases k),λ⟨x,hx⟩=> ?_⟩;obtain⟨j,e,x1,x2,x3⟩:=(lu ha hb h1 x).mp hx;exfalso;apply c2;have k1:=zV gr x3;have k2:=yz (zV gl (xC j _)) k1;rw[show j*a.aj-(j*a.aj-(b.ag-a.ag))=b.ag-a.ag by omega]at k2;exact Int.tmod_eq_zero_of_dvd k2
def DI{a:aH}(h:NN a)(h0:a.aj=0)(x:Int):bU a x↔x=a.ag:=by
 constructor
 ·rintro⟨h1,h2,h3⟩;rw[h0]at h3;have:=xV.mp h3;omega
 ·rintro rfl;exact dy h
def CV{M:aH->aH->af aH}{a b:aH}(ha:NN a)(hb:NN b)(h0:a.aj=0):∃c,va M a b=V c/\(fA c=S↔∃x,bU a x/\bU b x):=by
 unfold va;rw[eM ha.ne,eM hb.ne];simp only[bB];rw[bY h0,bC,JG (.inr hb)];simp only;by_cases h:bU b a.ag
 ·rw[mB h];exact⟨a,rfl,λ_=>⟨_,dy ha,h⟩,λ_=>eM ha.ne⟩
 ·rw[jb h];refine⟨cG,rfl,λk=> ?_,λ⟨x,h1,h2⟩=> ?_⟩
  ·rw[iK]at k;cases k
  ·rw[(DI ha h0 x).mp h1]at h2;exact dD h2 h
def acN{a b:aH}(ha:NN a)(hb:NN b):∃c,adO a b=V c/\(fA c=S↔∃x,bU a x/\bU b x):=by
 have cm:(∃x,bU b x/\bU a x)↔∃x,bU a x/\bU b x:=⟨λ⟨x,h1,h2⟩=>⟨x,h2,h1⟩,λ⟨x,h1,h2⟩=>⟨x,h2,h1⟩⟩;have s0:=ha.s0;have t0:=hb.s0;by_cases h0:a.aj=0
 ·obtain⟨c,e,h⟩:=CV (M:=λ_ _=>G) ha hb h0;refine⟨c,fe 1 λn hn=> ?_,h⟩;obtain⟨k,rfl⟩:∃k,n=k+1:=⟨n-1,by omega⟩;obtain⟨c',e',h'⟩:=CV (M:=Bt k) ha hb h0;have:va (Bt k) a b=va (λ_ _=>G) a b:=by
   unfold va;rw[eM ha.ne,eM hb.ne];simp only[bB];rw[bY h0];simp only[bC]
  exact this.trans e
 ·by_cases k0:b.aj=0
  ·obtain⟨c,e,h⟩:=CV (M:=λ_ _=>G) hb ha k0;refine⟨c,fe 2 λn hn=> ?_,h.trans cm⟩;obtain⟨k,rfl⟩:∃k,n=k+1+1:=⟨n-2,by omega⟩;have:va (Bt k) b a=va (λ_ _=>G) b a:=by
    unfold va;rw[eM ha.ne,eM hb.ne];simp only[bB];rw[bY k0];simp only[bC]
   have e1:Bt (k+1) b a=V c:=this.trans e;show va (Bt (k+1)) a b=V c;unfold va;rw[eM ha.ne,eM hb.ne];simp only[bB];rw[bX h0,bB,bY k0,bC,e1]
  ·obtain⟨c,e,h⟩:=ais ha hb (by omega) (by omega);refine⟨c,fe 1 λn hn=> ?_,h⟩;obtain⟨k,rfl⟩:∃k,n=k+1:=⟨n-1,by omega⟩;show va (Bt k) a b=V c;unfold va;rw[eM ha.ne,eM hb.ne];simp only[bB];rw[bX h0,bB,bX k0,bB,e]
def Sh{a:aH}(h:NN a)(k:1<cw a):1<=a.aj:=by
 have:=j0 h;have:=h.le;rcases h.st with ⟨e,_⟩|⟨_,e,_⟩
 ·have:=(j0 h).mpr e;omega
 ·exact e
def early{a b:aH}(ha:NN a)(hb:NN b)(h1:1<=a.aj)(h2:1<=b.aj){low high:Int}(el:low=max a.ag b.ag)(eh:high=min a.ah b.ah):
  (∃x,bU a x/\bU b x)↔∃k:Nat,(k:Int)<b.aj/cv a.aj b.aj/\a.ag+((low-a.ag+a.aj-1)/a.aj)*a.aj+(k:Int)*a.aj<=high/\bU b (a.ag+((low-a.ag+a.aj-1)/a.aj)*a.aj+(k:Int)*a.aj):=by
 have gl:=jV a.aj b.aj;have gr:=pF a.aj b.aj;have g0:=lG a.aj b.aj;have mP:b.aj/cv a.aj b.aj*cv a.aj b.aj=b.aj:=wu gr;have gpos:1<=cv a.aj b.aj:=by
  rcases (show cv a.aj b.aj=0\/1<=cv a.aj b.aj by omega)with z|z
  ·rw[z]at gl;have:=xV.mp gl;omega
  ·exact z
 have hP0:1<=b.aj/cv a.aj b.aj:=by
  have:0<=b.aj/cv a.aj b.aj:=zR (by omega) (by omega);rcases (show b.aj/cv a.aj b.aj=0\/1<=b.aj/cv a.aj b.aj by omega)with z|z
  ·rw[z,xT]at mP;omega
  ·exact z
 have per:b.aj∣b.aj/cv a.aj b.aj*a.aj:=by
  obtain⟨q,hq⟩:=gl;generalize cv a.aj b.aj=g at*;rw[hq,<-zQ,mP];exact xD ..
 generalize b.aj/cv a.aj b.aj=P at*;subst el eh;generalize hL:(max a.ag b.ag-a.ag+a.aj-1)/a.aj=L;constructor
 ·rintro⟨x,hx⟩;obtain⟨j,e,x1,x2,x3⟩:=(lu ha hb h1 x).mp hx;have r:=(nu (lo:=a.ag) (s:=a.aj) (low:=max a.ag b.ag) (high:=min a.ah b.ah) (j:=j) h1 (by omega) e).mp ⟨x1,x2⟩;rw[hL]at r;have m0:=yW (j-L) (b:=P) (by omega);have m1:=y4 (j-L) (b:=P) (by omega);have m2:=yV (j-L) P;have q0:0<=(j-L)/P:=zR (by omega) (by omega);have ex:a.ag+L*a.aj+(j-L)%P*a.aj=x-(j-L)/P*(P*a.aj):=by
   have:j*a.aj=(P*((j-L)/P)+(j-L)%P+L)*a.aj:=by congr 1;omega
   rw[zS,zS,zI P,zQ]at this;omega
  have hp:0<=(j-L)/P*(P*a.aj):=zF q0 (zF (by omega) (by omega));have r2:=(nu (lo:=a.ag) (s:=a.aj) (low:=max a.ag b.ag) (high:=min a.ah b.ah) (x:=a.ag+(L+(j-L)%P)*a.aj) (j:=L+(j-L)%P) h1 (by omega) rfl).mpr
   ⟨by rw[hL];omega,by
    have:(j-L)%P<=j-L:=by
     have:=zF (show 0<=P by omega) q0;omega
    omega⟩
  rw[zS,<-Int.add_assoc]at r2;refine⟨((j-L)%P).toNat,by omega,?_⟩;rw[Int.toNat_of_nonneg m0];refine⟨r2.2,by omega,by omega,?_⟩;rw[ex,show x-(j-L)/P*(P*a.aj)-b.ag=x-b.ag-(j-L)/P*(P*a.aj)by omega];exact yz hx.2.2.2 (zV per (xC ..))
 ·rintro⟨k,k1,k2,k3⟩;have e:a.ag+L*a.aj+(k:Int)*a.aj=a.ag+(L+(k:Int))*a.aj:=by rw[zS];omega
  rw[e]at k2 k3;have l0:=(nu (lo:=a.ag) (s:=a.aj) (low:=max a.ag b.ag) (high:=a.ag+(L+(k:Int))*a.aj) (x:=a.ag+(L+(k:Int))*a.aj) (j:=L+(k:Int)) h1 (by omega) rfl).mpr
   ⟨by rw[hL];omega,by rw[show a.ag+(L+(k:Int))*a.aj-a.ag=(L+(k:Int))*a.aj by omega,Int.mul_ediv_cancel _ (by omega)];exact zm _⟩
  exact⟨_,(lu ha hb h1 _).mpr ⟨_,rfl,l0.1,k2,by
   have:=k3.2.2
   rwa [show a.ag+(L+(k:Int))*a.aj-b.ag=(L+(k:Int))*a.aj-(b.ag-a.ag)by omega]at this⟩⟩
def Qw{g P k n high sb:Int}(hg:1<=g)(hP:i64.wrap (sb.tdiv g)=P):(if¬g=(0:Int)then bif J (k<i64.wrap (sb.tdiv g))then V (J (n<=high))else V S else G)=V (J (k<P/\n<=high)):=by
 rw[gY,hP];by_cases c:k<P
 ·rw[bY c,bC];by_cases d:n<=high
  ·rw[bY d,bY ⟨c,d⟩]
  ·rw[bX d,bX (λe=>d e.2)]
 ·rw[bX c,bB,bX (λe=>c e.1)]
def ahG{M:aH->aH->af Bool}{a b:aH}(hb:NN b){g P high n0:Int}(hg:1<=g)(hP:i64.wrap (b.aj.tdiv g)=P)(hP1:P<=4398046511104)(hs:1<=a.aj)(hs2:a.aj<=4398046511104)(hh:high<=1099511627776)(hn: -1099511627776<=n0)(hP0:0<=P):
  (match td M (jG.mk high g n0 0 a b)with
   |none=>G
   |some r10=>match if¬r10.t7=(0:Int)then bif J (r10.t9<i64.wrap (r10.b1.aj.tdiv r10.t7))then V (J (r10.t8<=r10.t6))else V S else G with
    |none=>G
    |some r11=>bif r11 then match m32 r10.b1 r10.t8 with
     |none=>G
     |some r12=>bif r12 then V O else G
     else V S)=V (open Classical in J (∃k:Nat,(k:Int)<P/\n0+(k:Int)*a.aj<=high/\bU b (n0+(k:Int)*a.aj))):=by
 obtain⟨z,e1,⟨k,rfl,hk,hI⟩,hstop⟩:=lB (rnd:=AK M) (λp=>∃k:Nat,p=jG.mk high g (n0+(k:Int)*a.aj) (k:Int) a b/\(k:Int)<=P/\∀i:Nat,i<k->¬bU b (n0+(i:Int)*a.aj))
  (λp=>(P-p.t9).toNat) (λp p' ⟨k,hp,hk,hI⟩ hq=>by
   subst hp;have hq:AK M (jG.mk high g (n0+(k:Int)*a.aj) (k:Int) a b)=V (V p'):=hq;unfold AK at hq;simp only at hq;rw[Qw hg hP]at hq;by_cases c:(k:Int)<P/\n0+(k:Int)*a.aj<=high
   ·rw[bY c]at hq;simp only[bC]at hq;rw[C9 (.inr hb)]at hq;simp only at hq;by_cases d:bU b (n0+(k:Int)*a.aj)
    ·rw[mB d]at hq;cases hq
    ·rw[jb d]at hq;have k0:0<=(k:Int)*a.aj:=zF (by omega) (by omega);rw[bB,aG (n:=n0+(k:Int)*a.aj+a.aj),aG (n:=(k:Int)+1)]at hq;simp only[zA.injEq]at hq;subst hq;refine⟨⟨k+1,?_,by omega,λi hi=> ?_⟩,by show (P-((k:Int)+1)).toNat<(P-(k:Int)).toNat;omega⟩
     ·rw[show ((k+1:Nat):Int)=(k:Int)+1 by omega,zS,z6,Int.add_assoc]
     ·rcases y9.mp hi with q|rfl
      ·exact hI i q
      ·exact d
   ·rw[bX c]at hq;cases hq) (p:=jG.mk high g n0 0 a b) ⟨0,by simp,by simpa using hP0,λi hi=>dD hi (yG _)⟩
 rw[show td M=bJ (AK M)from rfl,e1];simp only;rw[Qw hg hP];by_cases c:(k:Int)<P/\n0+(k:Int)*a.aj<=high
 ·rw[bY c];simp only[bC];rw[C9 (.inr hb)];simp only;by_cases d:bU b (n0+(k:Int)*a.aj)
  ·rw[mB d,bC]
   congr 1
   exact(@decide_eq_true _ (Classical.propDecidable _) ⟨k,c.1,c.2,d⟩).symm
  ·exfalso;refine hstop (jG.mk high g (i64.wrap (n0+(k:Int)*a.aj+a.aj)) (i64.wrap ((k:Int)+1)) a b) ?_;unfold AK;simp only;rw[Qw hg hP,bY c];simp only[bC];rw[C9 (.inr hb),jb d];rfl
 ·rw[bX c];simp only[bB]
  congr 1
  refine(@decide_eq_false _ (Classical.propDecidable _) ?_).symm;rintro⟨i,i1,i2,i3⟩;rcases Nat.lt_or_ge i k with q|q
  ·exact hI i q i3
  ·apply c;have:(k:Int)*a.aj<=(i:Int)*a.aj:=zN (by omega) (by omega);exact⟨by omega,by omega⟩
def iE(a b:aH):Bool:=open Classical in J (∃x,bU a x/\bU b x)
def iN{a b:aH}:iE a b=O↔∃x,bU a x/\bU b x:=by unfold iE;exact @decide_eq_true_iff _ (Classical.propDecidable _)
def ox{a b:aH}(h:¬∃x,bU a x/\bU b x):iE a b=S:=by
 cases e:iE a b with
 |false=>rfl
 |true=>exact dD (iN.mp e) h
def QF(a b:aH):iE a b=iE b a:=by
 by_cases h:∃x,bU a x/\bU b x
 ·obtain⟨x,h1,h2⟩:=h;rw[iN.mpr ⟨x,h1,h2⟩,iN.mpr ⟨x,h2,h1⟩]
 ·rw[ox h,ox (λ⟨x,h1,h2⟩=>h ⟨x,h2,h1⟩)]
def Cj{M:aH->aH->af Bool}{a b:aH}(ha:NN a)(hb:NN b)(h1:1<=a.aj)(h2:1<=b.aj){low high:Int}(el:low=max a.ag b.ag)(eh:high=min a.ah b.ah):
  (match EA a.aj b.aj with
   |none=>G
   |some r8=>match bif J (high<low)then V O else if¬r8=(0:Int)then V (bif J (Int.tmod (j5 a.ag b.ag) r8=0)then S else O)else G with
    |none=>G
    |some r9=>bif r9 then V S else if¬a.aj=(0:Int)then
     match td M (jG.mk high r8 (i64.wrap (a.ag+i64.wrap (i64.wrap ((i64.wrap (i64.wrap (i64.wrap (low-a.ag)+a.aj)-1)).tdiv a.aj)*a.aj))) 0 a b)with
     |none=>G
     |some r10=>match if¬r10.t7=(0:Int)then bif J (r10.t9<i64.wrap (r10.b1.aj.tdiv r10.t7))then V (J (r10.t8<=r10.t6))else V S else G with
      |none=>G
      |some r11=>bif r11 then match m32 r10.b1 r10.t8 with
       |none=>G
       |some r12=>bif r12 then V O else G
       else V S
     else G)=V (iE a b):=by
 have a1:=ha.lo;have a2:=ha.hi;have a3:=ha.le;have a4:=ha.sle;have b1:=hb.lo;have b2:=hb.hi;have b3:=hb.le;have b4:=hb.sle;have gl:=jV a.aj b.aj;have gr:=pF a.aj b.aj;have g0:=lG a.aj b.aj;have gpos:1<=cv a.aj b.aj:=by
  rcases (show cv a.aj b.aj=0\/1<=cv a.aj b.aj by omega)with z|z
  ·rw[z]at gl;have:=xV.mp gl;omega
  ·exact z
 have hE:=early ha hb h1 h2 el eh;rw[Cd (by omega) (by omega)];simp only;by_cases c1:high<low
 ·rw[bY c1,ox (λ⟨x,x1,x2⟩=>by have:=x1.1;have:=x1.2.1;have:=x2.1;have:=x2.2.1;omega)];rfl
 ·rw[bX c1,bB,bE (show ¬@Eq Int (cv a.aj b.aj) 0 by omega)];simp only;by_cases c2:Int.tmod (j5 a.ag b.ag) (cv a.aj b.aj)=0
  ·rw[bY c2];simp only[bC,bB];have l1:(low-a.ag+a.aj-1)/a.aj<=low-a.ag+a.aj-1:=yg _ (by omega);have l0:0<=(low-a.ag+a.aj-1)/a.aj:=zR (by omega) (by omega);have l2:(low-a.ag+a.aj-1)/a.aj*a.aj<=low-a.ag+a.aj-1:=xd _ (by omega);have l3:0<=(low-a.ag+a.aj-1)/a.aj*a.aj:=zF l0 (by omega);have p0:0<=b.aj/cv a.aj b.aj:=zR (by omega) (by omega);have p1:b.aj/cv a.aj b.aj<=b.aj:=yg _ (by omega);have eP:i64.wrap (b.aj.tdiv (cv a.aj b.aj))=b.aj/cv a.aj b.aj:=by
    rw[jX,aG]
   rw[gY,aG (n:=low-a.ag),aG (n:=low-a.ag+a.aj),aG (n:=low-a.ag+a.aj-1),jX,
    aG (n:=(low-a.ag+a.aj-1)/a.aj),aG (n:=(low-a.ag+a.aj-1)/a.aj*a.aj),aG (n:=a.ag+(low-a.ag+a.aj-1)/a.aj*a.aj)]
   refine(ahG hb gpos eP (by omega) h1 (by omega) (by omega) (by omega) p0).trans ?_
   congr 1
   by_cases h:∃x,bU a x/\bU b x
   ·rw[iN.mpr h];exact @decide_eq_true _ (Classical.propDecidable _) (hE.mp h)
   ·rw[ox h];exact @decide_eq_false _ (Classical.propDecidable _) (λk=>h (hE.mpr k))
  ·have hno:¬∃x,bU a x/\bU b x:=by
    rintro⟨x,x1,x2⟩;apply c2;have k1:=zV gl x1.2.2;have k2:=zV gr x2.2.2;have k3:=yz k2 k1;rw[show x-b.ag-(x-a.ag)=a.ag-b.ag by omega]at k3;apply Int.tmod_eq_zero_of_dvd;obtain⟨r1,r2⟩:=ha.rB;obtain⟨r3,r4⟩:=hb.rB;unfold j5;by_cases c:a.ag<b.ag
    ·rw[bY c,bC,aG];have:=Int.dvd_neg.mpr k3
     rwa [show-(a.ag-b.ag)=b.ag-a.ag by omega]at this
    ·rw[bX c,bB,aG];exact k3
   rw[bX c2,ox hno];rfl
def Ts{M:aH->aH->af Bool}{a b:aH}(ha:NN a)(hb:NN b)(hs:cw a<=cw b):ZL M a b=V (iE a b):=by
 unfold ZL;rw[gv (.inr ha),gv (.inr hb)];simp only;rw[bX (show ¬@LT.lt Int _ (cw b) (cw a)by omega),bB];have hp:=size_pos ha;by_cases c:cw a=1
 ·rw[bY c,bC,C9 (.inr hb)];simp only
  congr 1
  have e:=(j0 ha).mp c;have s:a.aj=0:=by rcases ha.st with k|k;exact k.2;omega
  by_cases h:bU b a.ag
  ·rw[mB h,iN.mpr ⟨_,dy ha,h⟩]
  ·rw[jb h,ox (λ⟨x,x1,x2⟩=>h (by rw[<-(DI ha s x).mp x1];exact x2))]
 ·rw[bX c,bB];have h1:=Sh ha (by omega);have h2:=Sh hb (by omega);by_cases d:a.ag<b.ag<;>by_cases e:b.ah<a.ah
  ·rw[bY d,bY e];exact Cj ha hb h1 h2 (by omega) (by omega)
  ·rw[bY d,bX e];exact Cj ha hb h1 h2 (by omega) (by omega)
  ·rw[bX d,bY e];exact Cj ha hb h1 h2 (by omega) (by omega)
  ·rw[bX d,bX e];exact Cj ha hb h1 h2 (by omega) (by omega)
def akt{a b:aH}(ha:NN a)(hb:NN b):ao7 a b=V (iE a b):=fe 2 λn hn=>by
 obtain⟨k,rfl⟩:∃k,n=k+1+1:=⟨n-2,by omega⟩;by_cases hs:cw a<=cw b
 ·exact Ts (M:=GR (k+1)) ha hb hs
 ·have e1:GR (k+1) b a=V (iE b a):=Ts (M:=GR k) hb ha (by omega);show ZL (GR (k+1)) a b=_;unfold ZL;rw[gv (.inr ha),gv (.inr hb)];simp only;rw[bY (show @LT.lt Int _ (cw b) (cw a)by omega),bC,e1,QF]
def ku(a b:aH):Bool:=J (1<cw a)||J (1<cw b)||J (a.ag≠b.ag)
def rf{a:aH}(h:NN a)(k:¬1<cw a):a.ag=a.ah:=(j0 h).mp (by have:=size_pos h;omega)
def HT{a b:aH}(ha:NN a)(hb:NN b):ku a b=O↔∃x z,bU a x/\bU b z/\x≠z:=by
 have a3:=ha.le;have b3:=hb.le;unfold ku;by_cases c1:1<cw a
 ·rw[bY c1];refine⟨λ_=> ?_,λ_=>rfl⟩;have:a.ag≠a.ah:=λe=>by have:=(j0 ha).mpr e;omega
  by_cases e:a.ag=b.ag
  ·exact⟨_,_,gi ha,dy hb,by omega⟩
  ·exact⟨_,_,dy ha,dy hb,e⟩
 ·by_cases c2:1<cw b
  ·rw[bX c1,bY c2];refine⟨λ_=> ?_,λ_=>rfl⟩;have:b.ag≠b.ah:=λe=>by have:=(j0 hb).mpr e;omega
   by_cases e:a.ag=b.ag
   ·exact⟨_,_,dy ha,gi hb,by omega⟩
   ·exact⟨_,_,dy ha,dy hb,e⟩
  ·have e1:=rf ha c1;have e2:=rf hb c2;by_cases e:a.ag=b.ag
   ·rw[bX c1,bX c2,bX (λk=>k e)];exact⟨λk=>(by cases k),λ⟨x,z,hx,hz,k⟩=>by have:=hx.1;have:=hx.2.1;have:=hz.1;have:=hz.2.1;omega⟩
   ·rw[bX c1,bX c2,bY e];exact⟨λ_=>⟨_,_,dy ha,dy hb,e⟩,λ_=>rfl⟩
def ue(op:Int)(a b:aH):Bool×Bool:=
 if op=13 then(ku a b,iE a b)else if op=14 then(iE a b,ku a b)
 else if op=15 then(J (b.ag<=a.ah),J (a.ag<b.ah))else if op=16 then(J (b.ag<a.ah),J (a.ag<=b.ah))
 else if op=17 then(J (a.ag<=b.ah),J (b.ag<a.ah))else if op=18 then(J (a.ag<b.ah),J (b.ag<=a.ah))
 else if op=19 then(de a 0||de b 0,cK a&&cK b)else(de a 0&&de b 0,cK a||cK b)
def uf(op:Int):Prop:=13<=op/\op<=20
def qB(p:Bool):nG p=1↔p=true:=by cases p<;>decide
def p8(p:Bool):nG p=0↔p=false:=by cases p<;>decide
def iQ{op:Int}(h:uf op):op=13\/op=14\/op=15\/op=16\/op=17\/op=18\/op=19\/op=20:=by
 obtain⟨h1,h2⟩:=h;omega
def EI{op:Int}(h:uf op)(x z:Int):fL op x z=0\/fL op x z=1:=by
 have k:∀p:Bool,nG p=0\/nG p=1:=λp=>by cases p<;>decide
 rcases iQ h with rfl|rfl|rfl|rfl|rfl|rfl|rfl|rfl<;>exact k _
def UE{op:Int}{a b:aH}(h:uf op)(ha:NN a)(hb:NN b):(ue op a b).2=O↔∃x z,bU a x/\bU b z/\fL op x z=1:=by
 rcases iQ h with rfl|rfl|rfl|rfl|rfl|rfl|rfl|rfl
 ·show iE a b=O↔∃x z,bU a x/\bU b z/\nG (J (x=z))=1;rw[iN];exact⟨λ⟨x,h1,h2⟩=>⟨x,x,h1,h2,by rw[qB];exact bY rfl⟩,λ⟨x,z,h1,h2,h3⟩=>by
   rw[qB]at h3;have:=of_decide_eq_true h3;subst this;exact⟨x,h1,h2⟩⟩
 ·show ku a b=O↔∃x z,bU a x/\bU b z/\nG (!J (x=z))=1;rw[HT ha hb];exact⟨λ⟨x,z,h1,h2,h3⟩=>⟨x,z,h1,h2,by rw[qB,bX h3];rfl⟩,λ⟨x,z,h1,h2,h3⟩=>⟨x,z,h1,h2,λe=>by rw[qB,bY e]at h3;cases h3⟩⟩
 ·show J (a.ag<b.ah)=O↔∃x z,bU a x/\bU b z/\nG (J (x<z))=1;refine⟨λk=>⟨_,_,dy ha,gi hb,by rw[qB];exact k⟩,λ⟨x,z,h1,h2,h3⟩=> ?_⟩;rw[qB]at h3;have:=of_decide_eq_true h3;exact bY (by have:=h1.1;have:=h2.2.1;omega)
 ·show J (a.ag<=b.ah)=O↔∃x z,bU a x/\bU b z/\nG (J (x<=z))=1;refine⟨λk=>⟨_,_,dy ha,gi hb,by rw[qB];exact k⟩,λ⟨x,z,h1,h2,h3⟩=> ?_⟩;rw[qB]at h3;have:=of_decide_eq_true h3;exact bY (by have:=h1.1;have:=h2.2.1;omega)
 ·show J (b.ag<a.ah)=O↔∃x z,bU a x/\bU b z/\nG (J (z<x))=1;refine⟨λk=>⟨_,_,gi ha,dy hb,by rw[qB];exact k⟩,λ⟨x,z,h1,h2,h3⟩=> ?_⟩;rw[qB]at h3;have:=of_decide_eq_true h3;exact bY (by have:=h1.2.1;have:=h2.1;omega)
 ·show J (b.ag<=a.ah)=O↔∃x z,bU a x/\bU b z/\nG (J (z<=x))=1;refine⟨λk=>⟨_,_,gi ha,dy hb,by rw[qB];exact k⟩,λ⟨x,z,h1,h2,h3⟩=> ?_⟩;rw[qB]at h3;have:=of_decide_eq_true h3;exact bY (by have:=h1.2.1;have:=h2.1;omega)
 ·show (cK a&&cK b)=O↔∃x z,bU a x/\bU b z/\nG (J (x≠0/\z≠0))=1;rw[zi,lP (.inr ha),lP (.inr hb)];constructor
  ·rintro⟨⟨x,h1,h2⟩,⟨z,h3,h4⟩⟩;exact⟨x,z,h1,h3,by rw[qB];exact bY ⟨h2,h4⟩⟩
  ·rintro⟨x,z,h1,h2,h3⟩;rw[qB]at h3;have:=of_decide_eq_true h3;exact⟨⟨x,h1,this.1⟩,⟨z,h2,this.2⟩⟩
 ·show (cK a||cK b)=O↔∃x z,bU a x/\bU b z/\nG (J (x≠0\/z≠0))=1;rw[yM,lP (.inr ha),lP (.inr hb)];constructor
  ·rintro(⟨x,h1,h2⟩|⟨z,h3,h4⟩)
   ·exact⟨x,_,h1,dy hb,by rw[qB];exact bY (.inl h2)⟩
   ·exact⟨_,z,dy ha,h3,by rw[qB];exact bY (.inr h4)⟩
  ·rintro⟨x,z,h1,h2,h3⟩;rw[qB]at h3;rcases of_decide_eq_true h3 with k|k
   ·exact .inl ⟨x,h1,k⟩
   ·exact .inr ⟨z,h2,k⟩
def ab4{op:Int}{a b:aH}(h:uf op)(ha:NN a)(hb:NN b):(ue op a b).1=O↔∃x z,bU a x/\bU b z/\fL op x z=0:=by
 rcases iQ h with rfl|rfl|rfl|rfl|rfl|rfl|rfl|rfl
 ·show ku a b=O↔∃x z,bU a x/\bU b z/\nG (J (x=z))=0;rw[HT ha hb];exact⟨λ⟨x,z,h1,h2,h3⟩=>⟨x,z,h1,h2,by rw[p8];exact bX h3⟩,λ⟨x,z,h1,h2,h3⟩=>⟨x,z,h1,h2,λe=>by rw[p8,bY e]at h3;cases h3⟩⟩
 ·show iE a b=O↔∃x z,bU a x/\bU b z/\nG (!J (x=z))=0;rw[iN];exact⟨λ⟨x,h1,h2⟩=>⟨x,x,h1,h2,by rw[p8,bY rfl];rfl⟩,λ⟨x,z,h1,h2,h3⟩=>by
   rw[p8]at h3;by_cases e:x=z
   ·subst e;exact⟨x,h1,h2⟩
   ·rw[bX e]at h3;cases h3⟩
 ·show J (b.ag<=a.ah)=O↔∃x z,bU a x/\bU b z/\nG (J (x<z))=0;refine⟨λk=>⟨_,_,gi ha,dy hb,by rw[p8];exact bX (by have:=of_decide_eq_true k;omega)⟩,λ⟨x,z,h1,h2,h3⟩=> ?_⟩;rw[p8]at h3;have:=of_decide_eq_false h3;exact bY (by have:=h1.2.1;have:=h2.1;omega)
 ·show J (b.ag<a.ah)=O↔∃x z,bU a x/\bU b z/\nG (J (x<=z))=0;refine⟨λk=>⟨_,_,gi ha,dy hb,by rw[p8];exact bX (by have:=of_decide_eq_true k;omega)⟩,λ⟨x,z,h1,h2,h3⟩=> ?_⟩;rw[p8]at h3;have:=of_decide_eq_false h3;exact bY (by have:=h1.2.1;have:=h2.1;omega)
 ·show J (a.ag<=b.ah)=O↔∃x z,bU a x/\bU b z/\nG (J (z<x))=0;refine⟨λk=>⟨_,_,dy ha,gi hb,by rw[p8];exact bX (by have:=of_decide_eq_true k;omega)⟩,λ⟨x,z,h1,h2,h3⟩=> ?_⟩;rw[p8]at h3;have:=of_decide_eq_false h3;exact bY (by have:=h1.1;have:=h2.2.1;omega)
 ·show J (a.ag<b.ah)=O↔∃x z,bU a x/\bU b z/\nG (J (z<=x))=0;refine⟨λk=>⟨_,_,dy ha,gi hb,by rw[p8];exact bX (by have:=of_decide_eq_true k;omega)⟩,λ⟨x,z,h1,h2,h3⟩=> ?_⟩;rw[p8]at h3;have:=of_decide_eq_false h3;exact bY (by have:=h1.1;have:=h2.2.1;omega)
 ·show (de a 0||de b 0)=O↔∃x z,bU a x/\bU b z/\nG (J (x≠0/\z≠0))=0;rw[yM,mT,mT];constructor
  ·rintro(h1|h1)
   ·exact⟨0,_,h1,dy hb,by rw[p8];exact bX (λk=>k.1 rfl)⟩
   ·exact⟨_,0,dy ha,h1,by rw[p8];exact bX (λk=>k.2 rfl)⟩
  ·rintro⟨x,z,h1,h2,h3⟩;rw[p8]at h3;have:=of_decide_eq_false h3;by_cases e:x=0
   ·subst e;exact .inl h1
   ·by_cases e2:z=0
    ·subst e2;exact .inr h2
    ·exact dD ⟨e,e2⟩ this
 ·show (de a 0&&de b 0)=O↔∃x z,bU a x/\bU b z/\nG (J (x≠0\/z≠0))=0;rw[zi,mT,mT];constructor
  ·rintro⟨h1,h2⟩;exact⟨0,0,h1,h2,by rw[p8];exact bX (λk=>k.elim (λe=>e rfl) (λe=>e rfl))⟩
  ·rintro⟨x,z,h1,h2,h3⟩;rw[p8]at h3;have:=of_decide_eq_false h3;by_cases e:x=0
   ·by_cases e2:z=0
    ·subst e e2;exact⟨h1,h2⟩
    ·exact dD (.inr e2) this
   ·exact dD (.inl e) this
def QD{op:Int}{a b:aH}(h:uf op)(ha:NN a)(hb:NN b):((ue op a b).1||(ue op a b).2)=O:=by
 rw[yM];rcases EI h a.ag b.ag with e|e
 ·exact .inl ((ab4 h ha hb).mpr ⟨_,_,dy ha,dy hb,e⟩)
 ·exact .inr ((UE h ha hb).mpr ⟨_,_,dy ha,dy hb,e⟩)
def Pp{P:Int->Prop}{no yes:Bool}(h:∀y,P y->y=0\/y=1)(h0:no=O↔P 0)(h1:yes=O↔P 1)(ho:(no||yes)=O):dA P (iI no yes):=by
 cases no with
 |true=>
  have p0:=h0.mp rfl;cases yes with
  |true=>
   have p1:=h1.mp rfl;refine⟨p0,p1,λy hy=> ?_,by decide,λd hd=> ?_⟩
   ·rcases h y hy with rfl|rfl
    ·exact⟨by decide,by decide,⟨0,rfl⟩⟩
    ·exact⟨by decide,by decide,⟨1,rfl⟩⟩
   ·exact hd 1 p1
  |false=>
   refine⟨p0,p0,λy hy=> ?_,by decide,λd _=>xB d⟩;rcases h y hy with rfl|rfl
   ·exact⟨by decide,by decide,⟨0,rfl⟩⟩
   ·exact dD (h1.mpr hy) (by decide)
 |false=>
  cases yes with
  |true=>
   have p1:=h1.mp rfl;refine⟨p1,p1,λy hy=> ?_,by decide,λd _=>xB d⟩;rcases h y hy with rfl|rfl
   ·exact dD (h0.mpr hy) (by decide)
   ·exact⟨by decide,by decide,⟨0,rfl⟩⟩
  |false=>cases ho
def Z1{op:Int}{a b:aH}(h:uf op)(ha:NN a)(hb:NN b):dA (rU op a b) (iI (ue op a b).1 (ue op a b).2):=
 Pp (λy ⟨x,z,_,_,e⟩=>by rw[e];exact EI h x z)
  ((ab4 h ha hb).trans ⟨λ⟨x,z,h1,h2,e⟩=>⟨x,z,h1,h2,e.symm⟩,λ⟨x,z,h1,h2,e⟩=>⟨x,z,h1,h2,e.symm⟩⟩)
  ((UE h ha hb).trans ⟨λ⟨x,z,h1,h2,e⟩=>⟨x,z,h1,h2,e.symm⟩,λ⟨x,z,h1,h2,e⟩=>⟨x,z,h1,h2,e.symm⟩⟩) (QD h ha hb)
def aD9{x y:Int}:(bif J (x=y)then S else O)=J (x≠y):=by
 by_cases h:x=y
 ·rw[bY h,bX (λk=>k h)];rfl
 ·rw[bX h,bY h];rfl
def aia{op:Int}{a b:aH}(h:uf op)(ha:NN a)(hb:NN b):Yb op a b=V (iI (ue op a b).1 (ue op a b).2):=by
 obtain⟨c,e,hc⟩:=acN ha hb;have em:fA c= !iE a b:=by
  cases k:fA c with
  |true=>rw[ox (λx=>by have:=hc.mpr x;rw[k]at this;cases this)];rfl
  |false=>rw[iN.mpr (hc.mp k)];rfl
 have ed:(bif J (1<cw a)then V O else bif J (1<cw b)then V O else V (J (a.ag≠b.ag)))=V (ku a b):=by
  unfold ku;cases J (1<cw a)<;>cases J (1<cw b)<;>rfl
 unfold Yb;rw[e];simp only;rw[kM (.inr ha),kM (.inr hb)];simp only;rw[aD9,ed,Cq (.inr ha),Cq (.inr hb)];simp only;rw[em];simp only[Si];rcases iQ h with rfl|rfl|rfl|rfl|rfl|rfl|rfl|rfl
 all_goals simp only[Int.reduceEq,ep,cI,bB,bC]
 ·show _=V (iI (ku a b) (iE a b));cases iE a b<;>rfl
 ·show _=V (iI (iE a b) (ku a b));cases iE a b<;>rfl
 ·rfl
 ·rfl
 ·rfl
 ·rfl
 ·show _=V (iI (de a 0||de b 0) (cK a&&cK b));cases de a 0<;>cases cK a<;>cases de b 0<;>cases cK b<;>rfl
 ·show _=V (iI (de a 0&&de b 0) (cK a||cK b));cases de a 0<;>cases cK a<;>cases de b 0<;>cases cK b<;>rfl
def diff_eq{a:aH}(h:NN a):ku a a=J (1<cw a):=by
 unfold ku;rw[bX (show ¬a.ag≠a.ag from λk=>k rfl)];cases J (1<cw a)<;>rfl
def Vj{a b:aH}(ha:NN a)(hb:NN b)(h:a≠b):ku a b=O:=by
 unfold ku;by_cases c1:1<cw a
 ·rw[bY c1];rfl
 ·by_cases c2:1<cw b
  ·rw[bX c1,bY c2];rfl
  ·by_cases c3:a.ag=b.ag
   ·exfalso;have e1:=rf ha c1;have e2:=rf hb c2;exact h (Ct c3 (by omega) (by rcases ha.st with k|k<;>rcases hb.st with l|l<;>omega))
   ·rw[bY c3,Bool.or_true]
def UK{op:Int}{a b:aH}(h:uf op)(ha:NN a)(hb:NN b):BQ op a b=V (iI (ue op a b).1 (ue op a b).2):=by
 have ho:=QD h ha hb;rw[<-afj ho];unfold BQ;rw[akt ha hb,Ta (.inr ha),Ta (.inr hb)];simp only;rw[gv (.inr ha)];simp only;rcases iQ h with rfl|rfl|rfl|rfl|rfl|rfl|rfl|rfl
 all_goals simp only[Int.reduceEq,ep,cI,bB,bC]
 ·show _=V (j4 (ku a b) (iE a b));by_cases e:a=b
  ·subst e;rw[Hj,diff_eq ha];rfl
  ·rw[GW e,Vj ha hb e];rfl
 ·show _=V (j4 (iE a b) (ku a b));by_cases e:a=b
  ·subst e;rw[Hj,diff_eq ha];rfl
  ·rw[GW e,Vj ha hb e];rfl
 ·rfl
 ·rfl
 ·rfl
 ·rfl
 ·show _=V (j4 (de a 0||de b 0) (cK a&&cK b));cases de a 0<;>cases cK a<;>cases de b 0<;>cases cK b<;>rfl
 ·show _=V (j4 (de a 0&&de b 0) (cK a||cK b));cases de a 0<;>cases cK a<;>cases de b 0<;>cases cK b<;>rfl
def Z4{op:Int}{a b:aH}(h:uf op)(ha:NN a)(hb:NN b):Qs op a b:=by
 have hbin:binop op:=by
  obtain⟨h1,h2⟩:=h;exact⟨by omega,by omega⟩
 refine⟨(iI (ue op a b).1 (ue op a b).2,0),nj hbin ha hb ?_,?_,uw _ _⟩
 ·rw[aia h ha hb];rcases iQ h with rfl|rfl|rfl|rfl|rfl|rfl|rfl|rfl<;>rfl
 ·by_cases hs:cnt a*cnt b<=4096
  ·rw[ow hbin ha hb hs];rcases BY hbin ha hb (by omega)with ⟨_,c,e,k⟩|⟨k,_⟩
   ·rw[e,k.uniq (Z1 h ha hb)]
   ·exact dD (λy ⟨x,z,_,_,e⟩=>by rw[e];rcases EI h x z with q|q<;>rw[q]<;>exact⟨by decide,by decide⟩) k
  ·rw[vD hbin ha hb hs];unfold VG;rw[UK h ha hb];rcases iQ h with rfl|rfl|rfl|rfl|rfl|rfl|rfl|rfl<;>rfl
def Xw{op:Int}{a b:aH}(h:N3 op)(ha:NN a)(hb:NN b):Qs op a b:=by
 obtain⟨c,e1,e2,hv⟩:=abT h ha hb;have hbin:binop op:=by unfold binop;rcases h with rfl|rfl|rfl|rfl<;>decide
 refine⟨(c,0),nj hbin ha hb ?_,e2,hv⟩;rw[e1];rcases h with rfl|rfl|rfl|rfl<;>rfl
def LC(op:Int){a b:aH}(ha:NV a)(hb:NV b):Qs op a b:=by
 by_cases ho:binop op
 ·rcases ha with rfl|ha
  ·refine⟨(cG,0),?_,?_, .inl rfl⟩
   ·unfold vz;rw[eS,eS,ew (.inl rfl),ew hb,jT,bY ho,iK];rfl
   ·unfold oP;rw[gq,gq,ew (.inl rfl),ew hb,show Qn op=BM op from rfl,jT,bY ho,oh];rfl
  ·rcases hb with rfl|hb
   ·refine⟨(cG,0),?_,?_, .inl rfl⟩
    ·unfold vz;rw[eS,eS,ew (.inl rfl),ew (.inr ha),jT,bY ho,iK,eM ha.ne];rfl
    ·unfold oP;rw[gq,gq,ew (.inl rfl),ew (.inr ha),show Qn op=BM op from rfl,jT,bY ho,oh,iz ha];rfl
   ·obtain⟨o1,o2⟩:=ho;rcases (show op=8\/op=9\/op=10\/(op=11\/op=12\/op=21\/op=22)\/(13<=op/\op<=20)by omega)with rfl|rfl|rfl|h|h
    ·exact aad ha hb
    ·exact Xu ha hb
    ·exact aaX ha hb
    ·exact Xw h ha hb
    ·exact Z4 h ha hb
 ·refine⟨(aH.mk 0 0 0,1),?_,?_,RE⟩
  ·unfold vz;rw[eS,eS,ew ha,ew hb,jT,bX ho];rfl
  ·unfold oP;rw[gq,gq,ew ha,ew hb,show Qn op=BM op from rfl,jT,bX ho];rfl
abbrev oQ:=Int
def d117:Td 0 oQ:= .c [] [4] (.r 0 0 (ec 4 aL en) sn (λz=>z.1.1) (λx=>((x,()),(()))))
def arb:=(lc (qg 137) (bk ln))
def aqM(M:au->Int->af oQ):aZ->aZ:=eL w9 117 S arb d117 (λg=>M g.1 g.2.1)
def agQ(M:au->Int->af oQ):Prop:=HL w9 117 arb d117 (λg=>M g.1 g.2.1)
def Sg{M:au->Int->af oQ}(hM:agQ M){F:aZ}(h:aQ w9 F):aQ w9 (aqM M F):=cO (sc:=jr) cg hM ⟨_,func117,by kernel_rfl,by kernel_rfl⟩ (λ_=>by kernel_rfl) (λ_=>by kernel_rfl) h
def aiY(M117:au->Int->af oQ):aZ:=(aqM M117 cZ)
def aeY{M117}(h117:agQ M117):aQ w9 (aiY M117):=(Sg h117 aR)
structure Dg where
 (t1 t5:Int)
 b0:au
def Ri:Td 0 Dg:= .c [] [1,2,5] (.r 0 1 (ec 1 aL (ec 2 (qp 0 0) (ec 5 aL en))) (sb 0 137 (lg 137) sn) (λz=>⟨z.1.1,z.1.t.1,z.2.1⟩) (λx=>((x.t1,(),x.t5,()),(x.b0,()))))
def IG(M117:au->Int->af oQ)(p:Dg):af (af Dg):=
 match bif J (p.t5<p.b0.aq.length)then V (J (0<=p.t1))else V S with|G=>G|V r1=>bif r1 then if 0<=p.t5/\p.t5<p.b0.aq.length then match M117 (au.mk p.b0.aq[p.t5.toNat]!.bF p.b0.aq[p.t5.toNat]!.fN p.b0.aq[p.t5.toNat]!.aq) p.t1 with|G=>G|V r2=>V (V (Dg.mk r2 (i64.wrap (p.t5+1)) (au.mk p.b0.bF p.b0.fN p.b0.aq)))else G else V (G)
def abN(M117:au->Int->af oQ):An:=(.two (.two (.rb [] 16) .no) .no)
def Ku(M117:au->Int->af oQ):=bJ (IG M117)
def al7(M117:au->Int->af oQ):An:=(noTwo (noTwo (.two (noTwo (Ri.lp (Ku M117) (abN M117))) .no)))
def awE{M117}:∀f∈([]:aa Nat),bw (aiY M117) f:=aF
def aBl(M117:au->Int->af oQ):cR w9 (aiY M117) 0 300 117 (al7 M117):=bA (l:=[(aW f117 0,(Ri.lp (Ku M117) (abN M117))),(.skip,(.rb [] 16))]) func117 (aV (by kernel_rfl)) (by kernel_rfl) (az (aO Ri) (az awE aF))
def ahf(M117:au->Int->af oQ)(a0:au)(a1:Int):af oQ:=
 match Ku M117 (Dg.mk (i64.wrap (a1-1)) 0 (au.mk a0.bF a0.fN a0.aq))with|G=>G|V r3=>match bif J (r3.t5<r3.b0.aq.length)then V (J (0<=r3.t1))else V S with|G=>G|V r4=>bif r4 then if 0<=r3.t5/\r3.t5<r3.b0.aq.length then match M117 (au.mk r3.b0.aq[r3.t5.toNat]!.bF r3.b0.aq[r3.t5.toNat]!.fN r3.b0.aq[r3.t5.toNat]!.aq) r3.t1 with|G=>G|V r5=>G else G else V (r3.t1)
def aEc(M117:au->Int->af oQ)(a0:au)(a1:Int):bL w9 (aiY M117) 300 (al7 M117) 117 (arb.c (a0,a1,())) [] 0 d117.rd=ahf M117 a0 a1:=by kernel_rfl
def alQ:Nat->(au->Int->af oQ)
 |0=>(λ_ _=>G)
 |n+1=>(ahf (alQ n))
def RH(n:Nat):au->Int->af oQ:=(alQ n)
def MG:∀n,agQ (RH n)
 |0=>λ_ _ h=>(by cases h)
 |n+1=>by
  have ih:=MG n;have i117:=ih;exact(cF (aeY i117) (aBl (RH n)) (λ_=>by kernel_rfl) (λ_=>by kernel_rfl) λg=>aEc (RH n) g.1 g.2.1)
def R6:au->Int->af oQ:=λa0 a1=>lim (λn=>RH n a0 a1)
def agr:agQ R6:=λg b h=>by
 obtain⟨n,hn⟩:=dR (show lim (λn=>RH n g.1 g.2.1)=V b from h);exact(MG n) g b hn
def apy(F:aZ):aZ:=aqM R6 F
def Tx{F:aZ}(h:aQ w9 F):aQ w9 (apy F):=Sg agr h
abbrev qL:=Int
def d116:Td 0 qL:= .c [] [4] (.r 0 0 (ec 4 aL en) sn (λz=>z.1.1) (λx=>((x,()),(()))))
def aoS:=(lc (ql 166) (bk ln))
def aoT(M:(aa ay)->Int->af qL):aZ->aZ:=eL w9 116 S aoS d116 (λg=>M g.1 g.2.1)
def akE(M:(aa ay)->Int->af qL):Prop:=HL w9 116 aoS d116 (λg=>M g.1 g.2.1)
def UW{M:(aa ay)->Int->af qL}(hM:akE M){F:aZ}(h:aQ w9 F):aQ w9 (aoT M F):=cO (sc:=jr) cg hM ⟨_,func116,by kernel_rfl,by kernel_rfl⟩ (λ_=>by kernel_rfl) (λ_=>by kernel_rfl) h
def ai2(M116:(aa ay)->Int->af qL):aZ:=(apy (aoT M116 cZ))
def aiW{M116}(h116:akE M116):aQ w9 (ai2 M116):=(Tx (UW h116 aR))
structure EW where
 t0:List ay
 (t1 t5:Int)
def Qp:Td 0 EW:= .c [] [0,1,5] (.r 0 0 (ec 0 (ql 166) (ec 1 aL (ec 5 aL en))) sn (λz=>⟨z.1.1,z.1.2.1,z.1.t.1⟩) (λx=>((x.t0,x.t1,x.t5,()),(()))))
def ER(M116:(aa ay)->Int->af qL)(p:EW):af (af EW):=
 match bif J (p.t5<p.t0.length)then V (J (0<=p.t1))else V S with|G=>G|V r1=>bif r1 then if 0<=p.t5/\p.t5<p.t0.length then match R6 (au.mk p.t0[p.t5.toNat]!.aA.bF p.t0[p.t5.toNat]!.aA.fN p.t0[p.t5.toNat]!.aA.aq) (i64.wrap (p.t1-1))with|G=>G|V r2=>if 0<=p.t5/\p.t5<p.t0.length then bif J (r2<(↑p.t0[p.t5.toNat]!.aJ.length:Int))then V (G)else if 0<=p.t5/\p.t5<p.t0.length then if 0<=p.t5/\p.t5<p.t0.length then if 0<=p.t5/\p.t5<p.t0.length then match M116 p.t0[p.t5.toNat]!.aM (i64.wrap (r2-(↑p.t0[p.t5.toNat]!.aJ.length:Int)))with|G=>G|V r3=>match M116 p.t0[p.t5.toNat]!.aS r3 with|G=>G|V r4=>V (V (EW.mk p.t0 r4 (i64.wrap (p.t5+1))))else G else G else G else G else G else V (G)
def Yr(M116:(aa ay)->Int->af qL):An:=(.two (.two (.rb [] 13) .no) .no)
def HW(M116:(aa ay)->Int->af qL):=bJ (ER M116)
def akX(M116:(aa ay)->Int->af qL):An:=(noTwo (.two (noTwo (Qp.lp (HW M116) (Yr M116))) .no))
def av6{M116}:∀f∈([]:aa Nat),bw (ai2 M116) f:=aF
def avD(M116:(aa ay)->Int->af qL):cR w9 (ai2 M116) 0 300 116 (akX M116):=bA (l:=[(aW f116 0,(Qp.lp (HW M116) (Yr M116))),(.skip,(.rb [] 13))]) func116 (aV (by kernel_rfl)) (by kernel_rfl) (az (aO Qp) (az av6 aF))
def ajz(M116:(aa ay)->Int->af qL)(a0:aa ay)(a1:Int):af qL:=
 match HW M116 (EW.mk a0 a1 0)with|G=>G|V r5=>match bif J (r5.t5<r5.t0.length)then V (J (0<=r5.t1))else V S with|G=>G|V r6=>bif r6 then if 0<=r5.t5/\r5.t5<r5.t0.length then match R6 (au.mk r5.t0[r5.t5.toNat]!.aA.bF r5.t0[r5.t5.toNat]!.aA.fN r5.t0[r5.t5.toNat]!.aA.aq) (i64.wrap (r5.t1-1))with|G=>G|V r7=>if 0<=r5.t5/\r5.t5<r5.t0.length then bif J (r7<(↑r5.t0[r5.t5.toNat]!.aJ.length:Int))then V (-1)else if 0<=r5.t5/\r5.t5<r5.t0.length then if 0<=r5.t5/\r5.t5<r5.t0.length then if 0<=r5.t5/\r5.t5<r5.t0.length then match M116 r5.t0[r5.t5.toNat]!.aM (i64.wrap (r7-(↑r5.t0[r5.t5.toNat]!.aJ.length:Int)))with|G=>G|V r8=>match M116 r5.t0[r5.t5.toNat]!.aS r8 with|G=>G|V r9=>G else G else G else G else G else G else V (r5.t1)
def aDq(M116:(aa ay)->Int->af qL)(a0:aa ay)(a1:Int):bL w9 (ai2 M116) 300 (akX M116) 116 (aoS.c (a0,a1,())) [] 0 d116.rd=ajz M116 a0 a1:=by kernel_rfl
def anf:Nat->((aa ay)->Int->af qL)
 |0=>(λ_ _=>G)
 |n+1=>(ajz (anf n))
def QL(n:Nat):(aa ay)->Int->af qL:=(anf n)
def On:∀n,akE (QL n)
 |0=>λ_ _ h=>(by cases h)
 |n+1=>by
  have ih:=On n;have i116:=ih;exact(cF (aiW i116) (avD (QL n)) (λ_=>by kernel_rfl) (λ_=>by kernel_rfl) λg=>aDq (QL n) g.1 g.2.1)
def ajE:(aa ay)->Int->af qL:=λa0 a1=>lim (λn=>QL n a0 a1)
def agE:akE ajE:=λg b h=>by
 obtain⟨n,hn⟩:=dR (show lim (λn=>QL n g.1 g.2.1)=V b from h);exact(On n) g b hn
def avJ(F:aZ):aZ:=aoT ajE F
def akg{F:aZ}(h:aQ w9 F):aQ w9 (avJ F):=UW agE h
def F53:aZ:=(apy (avJ cZ))
structure N6 where
 t7:Int
 t27:List dB
 (t28 t29:Int)
def ZW:Td 0 N6:= .c [] [7,27,28,29] (.r 0 0 (ec 7 aL (ec 27 (ql 139) (ec 28 aL (ec 29 aL en)))) sn (λz=>⟨z.1.1,z.1.2.1,z.1.t.1,z.1.t.2.1⟩) (λx=>((x.t7,x.t27,x.t28,x.t29,()),(()))))
def Mw(p:N6):af (af N6):=
 bif J (p.t29<p.t28)then if 0<=p.t29/\p.t29<p.t27.length then match R6 (au.mk p.t27[p.t29.toNat]!.aA.bF p.t27[p.t29.toNat]!.aA.fN p.t27[p.t29.toNat]!.aA.aq) p.t7 with|G=>G|V r1=>V (V (N6.mk r1 p.t27 p.t28 (i64.wrap (p.t29+1))))else G else V (G)
def TQ:=bJ (Mw)
abbrev E53:=Bool
def d53:Td 0 E53:= .c [] [6] (.r 0 0 (ec 6 qb en) sn (λz=>z.1.1) (λx=>((x,()),(()))))
def aDf:∀f∈([]:aa Nat),bw (F53) f:=aF
def m53(a0:aN)(a1:Int)(a2:Int):af E53:=
 match bif J (a1<a0.ai.length)then V O else V (J (a1<a0.ak.length))with|G=>G|V r2=>bif r2 then V S else match ajE a0.bI a2 with|G=>G|V r3=>match TQ (N6.mk r3 a0.ak a0.ak.length 0)with|G=>G|V r4=>bif J (r4.t29<r4.t28)then if 0<=r4.t29/\r4.t29<r4.t27.length then match R6 (au.mk r4.t27[r4.t29.toNat]!.aA.bF r4.t27[r4.t29.toNat]!.aA.fN r4.t27[r4.t29.toNat]!.aA.aq) r4.t7 with|G=>G|V r5=>G else G else V (J (0<=r4.t7))
def e53:=eL w9 53 S (lc (qg 26) (bk (bk ln))) d53 (λg=>m53 g.1 g.2.1 g.t.1)
def asC:EO e53:=λh=>kL (F:=F53) (an:=(noTwo (.two (.two (.rb [] 21) .no) (noTwo (.two (noTwo (ZW.lp TQ .no)) .no))))) (l:=[(.skip,(.rb [] 21)),(aW f53 0,(ZW.lp TQ .no))]) func53 (Tx (akg aR)) (az aDf (az (aO ZW) aF)) h
def NS:EP e53:=λh=>kP h
def au.eta(t:au):au.mk t.bF t.fN t.aq=t:=by cases t;rfl
def au.fm{t k:au}(h:k∈t.aq):zg k<zg t:=by
 cases t;have:=wX h;simp only[au.mk.sizeOf_spec];simp only at this;omega
def nT(t:au):Nat:=1+(t.aq.attach.map λk=>nT k.1).sum
termination_by zg t
decreasing_by exact au.fm k.2
def jA(l:aa au):Nat:=(l.map nT).sum
def vw(t:au):nT t=1+jA t.aq:=by
 rw[nT,jA]
 congr 2
 exact wv (f:=nT)
def qI(k:au)(ks:aa au):jA (k::ks)=nT k+jA ks:=by simp[jA]
def UL{k:au}{ks:aa au}(h:k∈ks):nT k<=jA ks:=by
 induction ks with
 |nil=>cases h
 |cons a ks ih=>
  rw[qI];rcases zD.1 h with rfl|h
  ·omega
  ·have:=ih h;omega
def IM(t:au):0<nT t:=by rw[vw];omega
def tl(t:au)(left:Int):Int:=if(nT t:Int)<=left then left-nT t else if 0<=left then-1 else left-1
def tls:aa au->Int->Int
 |[],l=>l
 |k::ks,l=>if 0<=l then tls ks (tl k l)else l
def aaE:∀(ks:aa au) (l:Int),tls ks l=if 0<=l then(if(jA ks:Int)<=l then l-jA ks else-1)else l
 |[],l=>by simp[tls,jA];omega
 |k::ks,l=>by
  have e:=qI k ks;have:=IM k;unfold tls;by_cases h:0<=l
  ·rw[bE h,bE h,aaE ks,e];unfold tl;grind
  ·rw[bO h,bO h]
def avw(t:au)(left:Int):tl t left=tls t.aq (left-1):=by
 rw[aaE,tl,vw];grind
def aaS(t:au)(l:Int):(0<=l-> -1<=tl t l/\tl t l<=l-1)/\(l<0->tl t l=l-1):=by
 have:=IM t;unfold tl;grind
def Xo(M:au->Int->af oQ)(t:au)(hM:∀k∈t.aq,∀l:Int,0<=l->l<=1000->M k l=V (tl k l)):
  ∀(ks:aa au) (i:Nat) (l:Int),t.aq.drop i=ks->i+ks.length=t.aq.length->l<=1000-i->∃q,Ku M ⟨l,i,t⟩=V q/\q.t1=tls ks l/\q.b0=t/\(q.t5<t.aq.length->q.t1<0)
 |[],i,l,hd,hl,_=>by
  refine⟨_,b9 λr=> ?_,rfl,rfl,λh=> ?_⟩
  ·have:¬((i:Int)<t.aq.length):=by simp at hl;omega
   simp[IG,this]
  ·simp at hl h;omega
 |k::ks,i,l,hd,hl,h2=>by
  have hil:i<t.aq.length:=by simp at hl;omega
  have hki:t.aq[i]! =k:=by
   have:t.aq[i]? =V k:=by
    have:=congrArg List.head? hd;rw[List.head?_drop]at this;simpa using this
   rw[List.getElem!_eq_getElem?_getD,this];rfl
  have hmem:k∈t.aq:=by rw[<-hki,getElem!_pos t.aq i hil];exact xM hil
  by_cases h0:0<=l
  ·have hd':t.aq.drop (i+1)=ks:=by
    have:=congrArg List.tail hd;rw[List.tail_drop]at this;simpa using this
   have b3:=((aaS k l).1 h0).2;obtain⟨q,e1,e2,e3,e4⟩:=Xo M t hM ks (i+1) (tl k l) hd' (by simp at hl;omega) (by omega);refine⟨q,?_,?_,e3,e4⟩
   ·rw[<-e1];refine bM ?_;have hw:i64.wrap ((i:Int)+1)=((i+1:Nat):Int):=by rw[aG];omega
    have hk2:t.aq[i]=k:=by rw[<-hki,getElem!_pos t.aq i hil]
    simp[IG,hil,h0,hk2,au.eta,hM k hmem l h0 (by omega)];exact hw
   ·rw[e2];show _=if 0<=l then _ else _
    rw[bE h0]
  ·refine⟨_,b9 λr=> ?_,?_,rfl,λh=> ?_⟩
   ·simp[IG,hil,h0]
   ·show l=if 0<=l then _ else l
    rw[bO h0]
   ·simp only;omega
def aiP(M:au->Int->af oQ)(t:au)(hM:∀k∈t.aq,∀l:Int,0<=l->l<=1000->M k l=V (tl k l))(l:Int)(h1: -1000000<=l)(h2:l<=1000):ahf M t l=V (tl t l):=by
 obtain⟨q,e1,e2,e3,e4⟩:=Xo M t hM t.aq 0 (l-1) rfl (by simp) (by omega);have hw:i64.wrap (l-1)=l-1:=aG;rw[avw,<-e2];unfold ahf;rw[hw,au.eta,show ((0:Nat):Int)=0 from rfl]at*;rw[e1];obtain⟨q1,q5,qb⟩:=q;subst e3;dsimp only at*;by_cases h5:q5<(qb.aq.length:Int)
 ·have:=e4 h5;simp[h5,show ¬(0<=q1)by omega]
 ·simp[h5]
def Ue:∀(n:Nat) (t:au) (l:Int),zg t<n-> -1000000<=l->l<=1000->RH n t l=V (tl t l)
 |0,_,_,h,_,_=>by omega
 |n+1,t,l,h,h1,h2=>aiP (RH n) t (λk hk l h3 h4=>Ue n k l (by have:=au.fm hk;omega) (by omega) h4) l h1 h2
def JO(t:au)(l:Int)(h1: -1000000<=l)(h2:l<=1000):R6 t l=V (tl t l):=fe (zg t+1) λn hn=>Ue n t l (by omega) h1 h2
def ay.then_lt{s k:ay}(h:k∈s.aM):zg k<zg s:=by
 cases s;have:=wX h;simp only[ay.mk.sizeOf_spec];simp only at this;omega
def ay.ajk{s k:ay}(h:k∈s.aS):zg k<zg s:=by
 cases s;have:=wX h;simp only[ay.mk.sizeOf_spec];simp only at this;omega
def ay.eta(s:ay):ay.mk s.cn s.bq s.dG s.fN s.aA s.aM s.aS s.aJ=s:=by cases s;rfl
def nS(s:ay):Nat:=1+nT s.aA+s.aJ.length+(s.aM.attach.map λk=>nS k.1).sum+(s.aS.attach.map λk=>nS k.1).sum
termination_by zg s
decreasing_by
 ·exact ay.then_lt k.2
 ·exact ay.ajk k.2
def fO(l:aa ay):Nat:=(l.map nS).sum
def oG(s:ay):nS s=1+nT s.aA+s.aJ.length+fO s.aM+fO s.aS:=by
 rw[nS,fO,fO]
 congr 2
 ·congr 1
  exact wv (f:=nS)
 ·exact wv (f:=nS)
def mV(k:ay)(ks:aa ay):fO (k::ks)=nS k+fO ks:=by simp[fO]
def sl(l:aa ay)(left:Int):Int:=if left<0 then left else if(fO l:Int)<=left then left-fO l else-1
def sy(left:Int)(s:ay):af Int:=if left<0 then G else if tl s.aA (left-1)<s.aJ.length then G else V (sl s.aS (sl s.aM (tl s.aA (left-1)-s.aJ.length)))
def N9{left x:Int}{s:ay}(h:sy left s=V x):0<=left/\ -1<=x/\x<=left-1/\x=if(nS s:Int)<=left then left-nS s else-1:=by
 unfold sy at h;have e:=oG s;unfold tl sl at h;grind
def Q5{left:Int}{s:ay}(h:sy left s=G)(h0:0<=left):left<nS s:=by
 unfold sy at h;have e:=oG s;unfold tl at h;grind
def ak2:∀(l:aa ay) (left:Int),ko sy (λv _=>if v<0 then v else-1) id l left=sl l left
 |[],left=>by unfold sl;simp[fO,ko];omega
 |s::l,left=>by
  have e:=mV s l;unfold ko;cases hs:sy left s with
  |none=>
   have:=Q5 hs;unfold sl;grind
  |some x=>
   obtain⟨h1,h2,h3,h4⟩:=N9 hs;dsimp only;rw[ak2 l x];unfold sl;grind
def afb(M:aa ay->Int->af qL)(l:aa ay)(hM:∀s∈l,(∀x:Int,-1<=x->x<=1000->M s.aM x=V (sl s.aM x))/\(∀x:Int,-1<=x->x<=1000->M s.aS x=V (sl s.aS x)))(left:Int)(h1: -1<=left)(h2:left<=1000):
  ajz M l left=V (sl l left):=by
 have hstep:∀(i:Nat) (b:Int) (hi:i<l.length),b<=1000-i-> -1<=b->ER M ⟨l,b,i⟩=if b<0 then V G else if tl l[i].aA (b-1)<l[i].aJ.length then V G else V (V ⟨l,sl l[i].aS (sl l[i].aM (tl l[i].aA (b-1)-l[i].aJ.length)),((i+1:Nat):Int)⟩):=λi b hi hb hb2=>by
  obtain⟨m1,m2⟩:=hM l[i] (xM hi);unfold ER;by_cases h0:b<0
  ·simp[hi,h0,show ¬0<=b by omega]
  ·have e1:i64.wrap (b-1)=b-1:=aG;have e2:=JO l[i].aA (b-1) (by omega) (by omega);have e3:=aaS l[i].aA (b-1);have hT: -2<=tl l[i].aA (b-1)/\tl l[i].aA (b-1)<=1000:=by grind
   by_cases h4:tl l[i].aA (b-1)<l[i].aJ.length
   ·simp[hi,h0,e1,au.eta,e2,h4,show 0<=b by omega]
   ·have e5:i64.wrap (tl l[i].aA (b-1)-l[i].aJ.length)=tl l[i].aA (b-1)-l[i].aJ.length:=aG;have e6:=m1 (tl l[i].aA (b-1)-l[i].aJ.length) (by omega) (by omega);have hS: -1<=sl l[i].aM (tl l[i].aA (b-1)-l[i].aJ.length)/\sl l[i].aM (tl l[i].aA (b-1)-l[i].aJ.length)<=1000:=by unfold sl;grind
    have e7:=m2 _ hS.1 hS.2;have e8:i64.wrap ((i:Int)+1)=((i+1:Nat):Int):=by rw[aG];omega
    simp[hi,h0,e1,au.eta,e2,h4,e5,e6,e7,show 0<=b by omega];exact e8
 obtain⟨i,v,hi,e1,⟨e2,e3⟩,e4⟩:=G2 (rnd:=ER M) l (λi b=>⟨l,b,(i:Int)⟩) sy (λv _=>if v<0 then v else-1) id (λi b=>b<=1000-i/\ -1<=b) (λi b hi hI b' hs=>by
   obtain⟨q1,q2,q3,q4⟩:=N9 hs;refine⟨?_,by omega,q2⟩;rw[hstep i b hi hI.1 hI.2];unfold sy at hs;grind) (λi b hi hI hs r=>by
   rw[hstep i b hi hI.1 hI.2];unfold sy at hs;grind) (λb hI r=>by simp[ER]) (b:=left) ⟨by omega,h1⟩
 have e1':HW M ⟨l,left,0⟩=V ⟨l,v,i⟩:=e1;unfold ajz;rw[e1'];rw[ak2]at e4;rcases e4 with ⟨h5,e4⟩|⟨h5,hn,e4⟩
 ·simp[h5,e4]
 ·rw[e4];by_cases h0:v<0
  ·simp[h5,h0,show ¬(0<=v)by omega]
  ·have e1:i64.wrap (v-1)=v-1:=aG;have e2:=JO l[i].aA (v-1) (by omega) (by omega);have h4:tl l[i].aA (v-1)<l[i].aJ.length:=by unfold sy at hn;grind
   simp[h5,h0,show 0<=v by omega,e1,au.eta,e2,h4]
def bt{s:ay}{l:aa ay}(h:s∈l):zg s.aM<zg l/\zg s.aS<zg l:=by
 have:=wX h;cases s;simp only[ay.mk.sizeOf_spec]at this;simp only;omega
def Jn:∀(n:Nat) (l:aa ay) (x:Int),zg l<n-> -1<=x->x<=1000->QL n l x=V (sl l x)
 |0,_,_,h,_,_=>by omega
 |n+1,l,x,h,h1,h2=>afb (QL n) l (λs hs=>⟨λx h3 h4=>Jn n _ x (by have:=bt hs;omega) h3 h4,λx h3 h4=>Jn n _ x (by have:=bt hs;omega) h3 h4⟩) x h1 h2
def aki(l:aa ay)(x:Int)(h1: -1<=x)(h2:x<=1000):ajE l x=V (sl l x):=fe (zg l+1) λn hn=>Jn n l x (by omega) h1 h2
def few(f:aN)(vars nodes:Int):Bool:=J ((f.ai.length:Int)<=vars/\(f.ak.length:Int)<=vars/\(fO f.bI+jA (f.ak.map (·.aA)):Int)<=nodes)
def aq9(f:aN)(vars nodes:Int)(h1:0<=vars)(h2:vars<=1000)(h3:0<=nodes)(h4:nodes<=1000):m53 f vars nodes=V (few f vars nodes):=by
 unfold m53;by_cases q1:vars<f.ai.length
 ·simp[q1,few];omega
 ·by_cases q2:vars<f.ak.length
  ·simp[q1,q2,few];omega
  ·rw[aki _ _ (by omega) (by omega)];have hb:sl f.bI nodes<=1000/\ -1<=sl f.bI nodes:=by unfold sl;grind
   have hstep:∀(i:Nat) (b:Int) (hi:i<f.ak.length),b<=1000-> -1-(i:Int)<=b->Mw ⟨b,f.ak,f.ak.length,i⟩=V (V ⟨tl f.ak[i].aA b,f.ak,f.ak.length,((i+1:Nat):Int)⟩):=λi b hi hb hb2=>by
    have e2:=JO f.ak[i].aA b (by omega) (by omega);have e8:i64.wrap ((i:Int)+1)=((i+1:Nat):Int):=by rw[aG];omega
    unfold Mw;simp[hi,au.eta,e2];exact e8
   obtain⟨i,v,hi,e1,_,e4⟩:=G2 (rnd:=Mw) f.ak (λi b=>⟨b,f.ak,f.ak.length,(i:Int)⟩) (λb h=>V (tl h.aA b)) (λv _=>v) id (λi b=>b<=1000/\ -1-(i:Int)<=b) (λi b hi hI b' hs=>by
     cases hs;refine⟨hstep i b hi hI.1 hI.2,?_⟩;have:=aaS f.ak[i].aA b;grind) (λi b hi hI hs r=>by cases hs) (λb hI r=>by simp[Mw]) (b:=sl f.bI nodes) ⟨hb.1,by omega⟩
   have e1':TQ ⟨sl f.bI nodes,f.ak,f.ak.length,0⟩=V ⟨v,f.ak,f.ak.length,i⟩:=e1;rcases e4 with ⟨h5,e4⟩|⟨_,hn,_⟩
   case inr=>cases hn
   have key:∀(l:aa dB) (b:Int),0<=ko (ρ:=Int) (λb h=>V (tl h.aA b)) (λv _=>v) id l b↔(jA (l.map (·.aA)):Int)<=b:=λl=>by
    induction l with
    |nil=>intro b;simp[ko,jA]
    |cons h l ih=>
     intro b;unfold ko;dsimp only;rw[ih,ye,qI];have:=IM h.aA;unfold tl;grind
   have k2:=key f.ak (sl f.bI nodes);rw[e4]at k2;have k3:(0<=v)↔(jA (f.ak.map (·.aA)):Int)<=sl f.bI nodes:=k2;simp only[q1,q2,ep,bB,e1',h5,ya,few]
   congr 1
   rw[decide_eq_decide,k3];unfold sl;grind
def Z0:((0:Nat):Int)=(0:Int):=rfl
def okc(i:Nat)(c:Int):Bool:=J ((97<=c/\c<=122)\/(i≠0/\((48<=c/\c<=57)\/c=46\/c=95)))
def iO(s:ByteArray):Bool:=J (1<=s.size)&&J (s.size<=40)&&(zM s.size).all λi=>okc i (cz s i)
def gP(low high:Int):Bool:=J (low<=high/\ -1048576<=low/\high<=1048576)
def lQ(vars:aa aX)(i:Nat)(v:aX):Int:=
 if iO v.fName=S then 7
 else if((vars.take i).any λw=>w.fName.toList==v.fName.toList)=O then 8
 else if v.bz<0\/3<v.bz then 1
 else if gP v.ag v.ah=S then 3
 else if v.bz=0 then(if v.eO<v.ag\/v.ah<v.eO then 3 else 0)
 else if v.eO=0 then 0 else 3
def tU(kind:Int):aa aX->Int->af Int
 |[],n=>V n
 |v::vs,n=>if v.bz=kind then(if 4096<n*(v.ah-v.ag+1)then G else tU kind vs (n*(v.ah-v.ag+1)))else tU kind vs n
def Ac(vars:aa aX):Bool:=(tU 1 vars 1).isSome&&(tU 2 vars 1).isSome&&(match tU 3 vars 1 with|V n=>J (n<=256)|G=>S)
def jy(vars:aa aX):Int:=if cu (lQ vars) vars 0≠0 then cu (lQ vars) vars 0 else if Ac vars=O then 0 else 4
def cq(o:Int):Int×Int:=if o=0\/o=24 then(0,0)else if o=6\/o=7 then(1,1)else if 8<=o/\o<=22 then(2,2)else if o=23 then(3,3)else if o=25 then(2,33)else(-1,-1)
def Bw(vars:aa aX)(inp:Bool)(t:au):Bool:=J (0<=(cq t.bF).1/\(cq t.bF).1<=t.aq.length/\(t.aq.length:Int)<=(cq t.bF).2)&&
 (if t.bF=0 then O else if t.bF=24 then J (0<=t.fN/\t.fN<vars.length)&& !(inp&&J (vars[t.fN.toNat]!.bz=0))else J (t.fN=0))
def dJ(vars:aa aX)(inp:Bool)(t:au):Bool:=Bw vars inp t&&t.aq.attach.all λk=>dJ vars inp k.1
termination_by zg t
decreasing_by exact au.fm k.2
def lI(vars:aa aX)(inp:Bool)(t:au):dJ vars inp t=(Bw vars inp t&&t.aq.all (dJ vars inp)):=by
 rw[dJ]
 congr 1
 rw[List.all_eq,List.all_eq];simp
def fS(a b:Span):Span:=⟨if b.ag<a.ag then b.ag else a.ag,if a.ah<b.ah then b.ah else a.ah⟩
def iP(vars:aa aX)(t:au)(k:aa Span):Span:=
 if t.bF=0 then⟨t.fN,t.fN⟩
 else if t.bF=24 then⟨vars[t.fN.toNat]!.ag,vars[t.fN.toNat]!.ah⟩
 else if t.bF=6 then⟨-k[0]!.ah,-k[0]!.ag⟩
 else if t.bF=8 then⟨k[0]!.ag+k[1]!.ag,k[0]!.ah+k[1]!.ah⟩
 else if t.bF=9 then⟨k[0]!.ag-k[1]!.ah,k[0]!.ah-k[1]!.ag⟩
 else if t.bF=10 then
  fS (fS (fS ⟨k[0]!.ag*k[1]!.ag,k[0]!.ag*k[1]!.ag⟩ ⟨k[0]!.ag*k[1]!.ah,k[0]!.ag*k[1]!.ah⟩) ⟨k[0]!.ah*k[1]!.ag,k[0]!.ah*k[1]!.ag⟩) ⟨k[0]!.ah*k[1]!.ah,k[0]!.ah*k[1]!.ah⟩
 else if t.bF=11 then
  (if(0:Int)<=k[0]!.ag/\(0:Int)<=k[1]!.ag then⟨0,if k[0]!.ah< -k[0]!.ag then-k[0]!.ag else k[0]!.ah⟩else⟨-(if k[0]!.ah< -k[0]!.ag then-k[0]!.ag else k[0]!.ah),if k[0]!.ah< -k[0]!.ag then-k[0]!.ag else k[0]!.ah⟩)
 else if t.bF=12 then⟨if k[1]!.ag<0 then k[1]!.ag+1 else 0,if(0:Int)<k[1]!.ah then k[1]!.ah-1 else 0⟩
 else if t.bF=21 then⟨if k[1]!.ag<k[0]!.ag then k[1]!.ag else k[0]!.ag,if k[1]!.ah<k[0]!.ah then k[1]!.ah else k[0]!.ah⟩
 else if t.bF=22 then⟨if k[0]!.ag<k[1]!.ag then k[1]!.ag else k[0]!.ag,if k[0]!.ah<k[1]!.ah then k[1]!.ah else k[0]!.ah⟩
 else if t.bF=23\/t.bF=25 then(k.drop 2).foldl fS k[1]!
 else⟨0,1⟩
def vg(s:Span):Bool:=J (-1048576<=s.ag/\s.ah<=1048576)
def kI:aa (af Span)->af (aa Span)
 |[]=>V []
 |none::_=>G
 |some s::xs=>match kI xs with|V l=>V (s::l)|G=>G
def gN(vars:aa aX)(t:au):af Span:=match kI (t.aq.attach.map λk=>gN vars k.1)with
 |none=>G
 |some l=>if vg (iP vars t l)=O then V (iP vars t l)else G
termination_by zg t
decreasing_by exact au.fm k.2
def uZ(vars:aa aX)(t:au):gN vars t=match kI (t.aq.map (gN vars))with
 |none=>G
 |some l=>if vg (iP vars t l)=O then V (iP vars t l)else G:=by
 rw[gN];rw[show (t.aq.attach.map λk=>gN vars k.1)=t.aq.map (gN vars)from wv (f:=gN vars)]
def eW(vars:aa aX)(inp:Bool)(t:au):Int:=if dJ vars inp t=S then 1 else if(gN vars t).isSome then 0 else 3
def kf(f:aN)(i:Nat)(h:dB):Int:=
 if iO h.fName=S then 7
 else if((f.ak.take i).any λw=>w.fName.toList==h.fName.toList)=O then 8
 else if gP h.ag h.ah=S then 3
 else eW f.ai O h.aA
def dT(t:au):Int:=1+(t.aq.attach.map λk=>dT k.1).foldl max 0
termination_by zg t
decreasing_by exact au.fm k.2
def OJ(l:aa au):Int:=(l.map dT).foldl max 0
def T8(t:au):dT t=1+OJ t.aq:=by
 rw[dT,OJ];rw[show (t.aq.attach.map λk=>dT k.1)=t.aq.map dT from wv (f:=dT)]
def Ai(l:aa Int)(a x:Int):(l++[x]).foldl max a=max (l.foldl max a) x:=by simp[wz]
def C5(l:aa au)(k:au):OJ (l++[k])=max (OJ l) (dT k):=by
 unfold OJ;rw[z8,ye,yS,Ai]
def pK(l:aa au)(k:au):jA (l++[k])=jA l+nT k:=by
 simp[jA]
def uF:∀(l:aa Int) (a:Int),a<=l.foldl max a
 |[],a=>zm _
 |x::l,a=>xU (Int.le_max_left a x) (uF l (max a x))
def JU(l:aa au):0<=OJ l:=uF _ _
def apb(t:au):1<=dT t:=by have:=JU t.aq;rw[T8];omega
def dY(s:ay)(l:aa ay):zg l<zg (s::l):=by
 rw[List.cons.sizeOf_spec];omega
def jD:aa ay->Int
 |[]=>0
 |s::l=>max (max (jD s.aM+1) (jD s.aS+1)) (jD l)
termination_by l=>zg l
decreasing_by
 ·exact(bt (zo ..)).1
 ·exact(bt (zo ..)).2
 ·exact dY _ _
def fG:aa ay->Bool
 |[]=>S
 |s::l=>J (12<dT s.aA)||fG s.aM||fG s.aS||fG l
termination_by l=>zg l
decreasing_by
 ·exact(bt (zo ..)).1
 ·exact(bt (zo ..)).2
 ·exact dY _ _
def qZ(l:aa ay):0<=jD l:=by
 induction l with
 |nil=>rw[jD];omega
 |cons s l ih=>rw[jD];omega
def Zp(l:aa ay)(s:ay):jD (l++[s])=max (jD l) (max (jD s.aM+1) (jD s.aS+1)):=by
 induction l with
 |nil=>
  have:=qZ s.aM;rw[yw,show jD []=0 by rw[jD],jD,show jD []=0 by rw[jD]];omega
 |cons a l ih=>rw[xo,jD,jD,ih];omega
def NU(l:aa ay)(k:ay):fO (l++[k])=fO l+nS k:=by simp[fO]
def qx(f:aN):Bool:=J (f.ai.length<=64)&&J (f.ak.length<=8)&&f.ak.all (λh=>J (dT h.aA<=12))&&J (jD f.bI<=12)&& !fG f.bI
def fZ:aa Int->Bool
 |a::b::l=>J (a<b)&&fZ (b::l)
 |_=>O
def vq(t:au):Bool:=J (t.bF=0/\t.fN=0/\t.aq.length=0)
def sV(f:aN)(s:ay):Bool:=J (0<=s.dG/\s.dG<f.ai.length)&&J (f.ai[s.dG.toNat]!.bz=0)
def dI(f:aN)(s:ay)(last:Bool):Bool:=
 let free:=J (s.aM.length=0/\s.aS.length=0)
 let nob:=J (s.aJ.length=0)
 if s.cn=0 then free&&sV f s&&J (s.fN=0)&&nob
 else if s.cn=1 then free&&J (s.dG=0)&&J (s.fN=0)&&nob
 else if s.cn=2 then free&&J (s.dG=0)&&J (s.fN=0)&&nob&&vq s.aA
 else if s.cn=3 then J (s.dG=0)&&J (s.fN=0)&&nob
 else if s.cn=4 then J (s.dG=0)&&J (s.aS.length=0)&&nob
 else if s.cn=5 then free&&sV f s&&J (0<=s.fN/\s.fN<f.ak.length)&&nob&&vq s.aA
 else if s.cn=6 then free&&last&&J (s.dG=0)&&J (s.fN=0)&&vq s.aA&&(J (1<=s.aJ.length/\s.aJ.length<=32)&&J ((0:Int)<=s.aJ[0]!)&&fZ s.aJ)
 else S
def sD(s:ay):Bool:=J (0<=s.bq/\s.bq<=(if s.cn=2 then 67108864 else 10000))&&(if s.cn=4 then J (0<=s.fN/\s.fN<=4096)else O)&&(if s.cn=6 then J (s.aJ[s.aJ.length-1]!<=67108864)else O)
def mW(f:aN)(last:Bool)(s:ay):Int:=if dI f s last=S then 1 else if sD s=S then 3 else eW f.ai S s.aA
def ct(f:aN)(top:Bool):aa ay->Int
 |[]=>0
 |s::l=>if mW f (top&&l.isEmpty) s≠0 then mW f (top&&l.isEmpty) s else if ct f S s.aM≠0 then ct f S s.aM else if ct f S s.aS≠0 then ct f S s.aS else ct f top l
termination_by l=>zg l
decreasing_by
 all_goals first|exact(bt (zo ..)).1|exact(bt (zo ..)).2|exact dY _ _
def Xc(f:aN)(top:Bool)(n i:Nat)(s:ay):Int:=if mW f (top&&J (i+1=n)) s≠0 then mW f (top&&J (i+1=n)) s else if ct f S s.aM≠0 then ct f S s.aM else ct f S s.aS
def pH(f:aN)(top:Bool)(n:Nat):∀(l:aa ay) (i:Nat),i+l.length=n->cu (Xc f top n) l i=ct f top l
 |[],i,_=>by rw[ct];rfl
 |s::l,i,h=>by
  have ih:=pH f top n l (i+1) (by simp at h;omega);have he:l.isEmpty=J (i+1=n):=by
   cases l with
   |nil=>simp at h;simp[h]
   |cons a l=>simp at h;simp;omega
  unfold cu;rw[ct,ih,he];unfold Xc;grind
def eV:aa ay->Int×Int×Int
 |[]=>(0,0,0)
 |s::l=>match eV s.aM,eV s.aS,eV l with
  |a,b,c=>if s.cn=1 then(1+c.1,1+c.2.1,s.bq+c.2.2)
   else if s.cn=3 then(1+max a.1 b.1+c.1,max a.2.1 b.2.1+c.2.1,s.bq+max a.2.2 b.2.2+c.2.2)
   else if s.cn=4 then(1+s.fN*(1+a.1)+c.1,s.fN*a.2.1+c.2.1,s.fN*(s.bq+a.2.2)+c.2.2)
   else(1+c.1,c.2.1,s.bq+c.2.2)
termination_by l=>zg l
decreasing_by
 ·exact(bt (zo ..)).1
 ·exact(bt (zo ..)).2
 ·exact dY _ _
def UR(f:aN):Bool:=J (4096<(eV f.bI).1\/8<(eV f.bI).2.1\/67108864<(eV f.bI).2.2)
def oI(f:aN):Int:=if qx f=S then 4 else if jy f.ai≠0 then jy f.ai else if cu (kf f) f.ak 0≠0 then cu (kf f) f.ak 0 else if ct f O f.bI≠0 then ct f O f.bI else if UR f=O then 4 else 0
def ahz:aZ:=cZ
def adj:aQ w9 ahz:=aR
abbrev aod:=Bool×bf
def d208:Td 1 aod:= .c [] [2] (.r 1 1 (ec 2 qb en) (sb 0 256 (lg 256) sn) (λz=>(z.1.1,z.2.1)) (λx=>((x.1,()),(x.2,()))))
def aBu:=(lc (qp 0 0) ln)
def axi:=(sb 0 256 (lg 256) sn)
def amG:An:=(noTwo (.two (.rb [] 2) .no))
def aAL:∀f∈([]:aa Nat),bw (ahz) f:=aF
def aBv:cR w9 (ahz) 1 300 208 (amG):=bA (l:=[(.skip,(.rb [] 2))]) func208 (aV (by kernel_rfl)) (by kernel_rfl) (az aAL aF)
def jo(b0:bf):aod:=
 let r1:Bool:=bif b0.fE then O else J (1024<b0.bG);(r1,b0)
def aFb(b0:bf):bL w9 (ahz) 300 (amG) 208 (aBu.c ((),())) (axi.d (b0,())) 1 d208.rd=V (jo b0):=by
 refine Eq.trans (b:=(
  match bif b0.fE then V (O)else V (J (1024<b0.bG))with|G=>G|V r1=>V ((r1,b0)):af aod)) (by kernel_rfl) ?_
 simp only[jo,cM,di]
def adh:aZ->aZ:=eY w9 208 1 aBu axi d208 (λg=>V (jo g.2.1))
def H7{F:aZ}(h:aQ w9 F):aQ w9 (adh F):=mS (sx adj aBv (λ_=>by kernel_rfl) (λ_=>by kernel_rfl) (λ_=>by kernel_rfl) λg=>aFb g.2.1) ⟨_,func208,by kernel_rfl,by kernel_rfl⟩ (λ_=>by kernel_rfl) h
abbrev rS:=bf
def d209:Td 1 rS:= .c [] [] (.r 1 1 en (sb 0 256 (lg 256) sn) (λz=>z.2.1) (λx=>((()),(x,()))))
def apD:=(lc (qp 0 0) (lc (qg 137) (bk ln)))
def atk:=(sb 0 256 (lg 256) sn)
def aoO(M:au->Int->bf->af rS):aZ->aZ:=eY w9 209 1 apD atk d209 (λg=>M g.1.2.1 g.1.2.2.1 g.2.1)
def acO(M:au->Int->bf->af rS):Prop:=HY w9 209 1 apD atk d209 (λg=>M g.1.2.1 g.1.2.2.1 g.2.1)
def Sf{M:au->Int->bf->af rS}(hM:acO M){F:aZ}(h:aQ w9 F):aQ w9 (aoO M F):=mS hM ⟨_,func209,by kernel_rfl,by kernel_rfl⟩ (λ_=>by kernel_rfl) h
def asU(M209:au->Int->bf->af rS):aZ:=(aoO M209 (adh cZ))
def adw{M209}(h209:acO M209):aQ w9 (asU M209):=(Sf h209 (H7 aR))
structure Ak where
 t2:Int
 t29:List au
 (t30 t31:Int)
 b0:bf
def OQ:Td 1 Ak:= .c [] [0,2,29,30,31] (.r 1 1 (ec 0 (qp 0 0) (ec 2 aL (ec 29 (ql 137) (ec 30 aL (ec 31 aL en))))) (sb 0 256 (lg 256) sn) (λz=>⟨z.1.2.1,z.1.t.1,z.1.t.2.1,z.1.q.1,z.2.1⟩) (λx=>(((),x.t2,x.t29,x.t30,x.t31,()),(x.b0,()))))
def KM(M209:au->Int->bf->af rS)(p:Ak):af (af Ak):=
 bif J (p.t31<p.t30)then if 0<=p.t31/\p.t31<p.t29.length then match M209 (au.mk p.t29[p.t31.toNat]!.bF p.t29[p.t31.toNat]!.fN p.t29[p.t31.toNat]!.aq) (i64.wrap (p.t2+1)) p.b0 with|G=>G|V r1=>V (V (Ak.mk p.t2 p.t29 p.t30 (i64.wrap (p.t31+1)) r1))else G else V (G)
def Dm(M209:au->Int->bf->af rS):=bJ (KM M209)
def amw(M209:au->Int->bf->af rS):An:=(noTwo (noTwo (noTwo (noTwo (noTwo (OQ.lp (Dm M209) .no))))))
def axO(M209:au->Int->bf->af rS):cR w9 (asU M209) 1 300 209 (amw M209):=bA (l:=[(aW f209 0,(OQ.lp (Dm M209) .no))]) func209 (aV (by kernel_rfl)) (by kernel_rfl) (az (aO OQ) aF)
def ah4(M209:au->Int->bf->af rS)(a1:au)(a2:Int)(b0:bf):af rS:=
 bif b0.fE then bif(jo (bf.mk (i64.wrap (b0.bG+1)) O)).fst then V ((jo (bf.mk (i64.wrap (b0.bG+1)) O)).snd)else match Dm M209 (Ak.mk a2 a1.aq a1.aq.length 0 (jo (bf.mk (i64.wrap (b0.bG+1)) O)).snd)with|G=>G|V r2=>bif J (r2.t31<r2.t30)then if 0<=r2.t31/\r2.t31<r2.t29.length then match M209 (au.mk r2.t29[r2.t31.toNat]!.bF r2.t29[r2.t31.toNat]!.fN r2.t29[r2.t31.toNat]!.aq) (i64.wrap (r2.t2+1)) r2.b0 with|G=>G|V r3=>G else G else V (r2.b0)else bif(jo (bf.mk (i64.wrap (b0.bG+1)) (J (12<a2)))).fst then V ((jo (bf.mk (i64.wrap (b0.bG+1)) (J (12<a2)))).snd)else match Dm M209 (Ak.mk a2 a1.aq a1.aq.length 0 (jo (bf.mk (i64.wrap (b0.bG+1)) (J (12<a2)))).snd)with|G=>G|V r4=>bif J (r4.t31<r4.t30)then if 0<=r4.t31/\r4.t31<r4.t29.length then match M209 (au.mk r4.t29[r4.t31.toNat]!.bF r4.t29[r4.t31.toNat]!.fN r4.t29[r4.t31.toNat]!.aq) (i64.wrap (r4.t2+1)) r4.b0 with|G=>G|V r5=>G else G else V (r4.b0)
def aDI(M209:au->Int->bf->af rS)(a1:au)(a2:Int)(b0:bf):bL w9 (asU M209) 300 (amw M209) 209 (apD.c ((),a1,a2,())) (atk.d (b0,())) 1 d209.rd=ah4 M209 a1 a2 b0:=by kernel_rfl
def ane:Nat->(au->Int->bf->af rS)
 |0=>(λ_ _ _=>G)
 |n+1=>(ah4 (ane n))
def Q9(n:Nat):au->Int->bf->af rS:=(ane n)
def LU:∀n,acO (Q9 n)
 |0=>λ_ _ h=>(by cases h)
 |n+1=>by
  have ih:=LU n;have i209:=ih;exact(sx (adw i209) (axO (Q9 n)) (λ_=>by kernel_rfl) (λ_=>by kernel_rfl) (λ_=>by kernel_rfl) λg=>aDI (Q9 n) g.1.2.1 g.1.2.2.1 g.2.1)
def Gz:au->Int->bf->af rS:=λa1 a2 b0=>lim (λn=>Q9 n a1 a2 b0)
def acR:acO Gz:=λg b h=>by
 obtain⟨n,hn⟩:=dR (show lim (λn=>Q9 n g.1.2.1 g.1.2.2.1 g.2.1)=V b from h);exact(LU n) g b hn
def arT(F:aZ):aZ:=aoO Gz F
def TC{F:aZ}(h:aQ w9 F):aQ w9 (arT F):=Sf acR h
abbrev se:=bf
def d207:Td 1 se:= .c [] [] (.r 1 1 en (sb 0 256 (lg 256) sn) (λz=>z.2.1) (λx=>((()),(x,()))))
def ap3:=(lc (qp 0 0) (lc (ql 166) (bk ln)))
def as2:=(sb 0 256 (lg 256) sn)
def aqZ(M:(aa ay)->Int->bf->af se):aZ->aZ:=eY w9 207 1 ap3 as2 d207 (λg=>M g.1.2.1 g.1.2.2.1 g.2.1)
def aiX(M:(aa ay)->Int->bf->af se):Prop:=HY w9 207 1 ap3 as2 d207 (λg=>M g.1.2.1 g.1.2.2.1 g.2.1)
def T7{M:(aa ay)->Int->bf->af se}(hM:aiX M){F:aZ}(h:aQ w9 F):aQ w9 (aqZ M F):=mS hM ⟨_,func207,by kernel_rfl,by kernel_rfl⟩ (λ_=>by kernel_rfl) h
def aoU(M207:(aa ay)->Int->bf->af se):aZ:=(arT (adh (aqZ M207 cZ)))
def adf{M207}(h207:aiX M207):aQ w9 (aoU M207):=(TC (H7 (T7 h207 aR)))
structure Ah where
 t2:Int
 t8:List ay
 (t9 t10:Int)
 b0:bf
def RI:Td 1 Ah:= .c [] [0,2,8,9,10] (.r 1 1 (ec 0 (qp 0 0) (ec 2 aL (ec 8 (ql 166) (ec 9 aL (ec 10 aL en))))) (sb 0 256 (lg 256) sn) (λz=>⟨z.1.2.1,z.1.t.1,z.1.t.2.1,z.1.q.1,z.2.1⟩) (λx=>(((),x.t2,x.t8,x.t9,x.t10,()),(x.b0,()))))
def FD(M207:(aa ay)->Int->bf->af se)(p:Ah):af (af Ah):=
 bif J (p.t10<p.t9)then if 0<=p.t10/\p.t10<p.t8.length then bif p.b0.fE then bif(jo (bf.mk (i64.wrap (p.b0.bG+1)) O)).fst then V (G)else match Gz (au.mk p.t8[p.t10.toNat]!.aA.bF p.t8[p.t10.toNat]!.aA.fN p.t8[p.t10.toNat]!.aA.aq) 1 (jo (bf.mk (i64.wrap (p.b0.bG+1)) O)).snd with|G=>G|V r1=>match M207 p.t8[p.t10.toNat]!.aM (i64.wrap (p.t2+1)) r1 with|G=>G|V r2=>match M207 p.t8[p.t10.toNat]!.aS (i64.wrap (p.t2+1)) r2 with|G=>G|V r3=>V (V (Ah.mk p.t2 p.t8 p.t9 (i64.wrap (p.t10+1)) r3))else bif(jo (bf.mk (i64.wrap (p.b0.bG+1)) (J (12<(((),p.t2,p.t8,p.t9,p.t10,()),p.b0,()).fst.snd.fst)))).fst then V (G)else match Gz (au.mk p.t8[p.t10.toNat]!.aA.bF p.t8[p.t10.toNat]!.aA.fN p.t8[p.t10.toNat]!.aA.aq) 1 (jo (bf.mk (i64.wrap (p.b0.bG+1)) (J (12<(((),p.t2,p.t8,p.t9,p.t10,()),p.b0,()).fst.snd.fst)))).snd with|G=>G|V r4=>match M207 p.t8[p.t10.toNat]!.aM (i64.wrap (p.t2+1)) r4 with|G=>G|V r5=>match M207 p.t8[p.t10.toNat]!.aS (i64.wrap (p.t2+1)) r5 with|G=>G|V r6=>V (V (Ah.mk p.t2 p.t8 p.t9 (i64.wrap (p.t10+1)) r6))else G else V (G)
def JN(M207:(aa ay)->Int->bf->af se):=bJ (FD M207)
def amz(M207:(aa ay)->Int->bf->af se):An:=(noTwo (RI.lp (JN M207) .no))
def axw(M207:(aa ay)->Int->bf->af se):cR w9 (aoU M207) 1 300 207 (amz M207):=bA (l:=[(aW f207 0,(RI.lp (JN M207) .no))]) func207 (aV (by kernel_rfl)) (by kernel_rfl) (az (aO RI) aF)
def ajD(M207:(aa ay)->Int->bf->af se)(a1:aa ay)(a2:Int)(b0:bf):af se:=
 match JN M207 (Ah.mk a2 a1 a1.length 0 b0)with|G=>G|V r7=>bif J (r7.t10<r7.t9)then if 0<=r7.t10/\r7.t10<r7.t8.length then bif r7.b0.fE then bif(jo (bf.mk (i64.wrap (r7.b0.bG+1)) O)).fst then V ((jo (bf.mk (i64.wrap (r7.b0.bG+1)) O)).snd)else match Gz (au.mk r7.t8[r7.t10.toNat]!.aA.bF r7.t8[r7.t10.toNat]!.aA.fN r7.t8[r7.t10.toNat]!.aA.aq) 1 (jo (bf.mk (i64.wrap (r7.b0.bG+1)) O)).snd with|G=>G|V r8=>match M207 r7.t8[r7.t10.toNat]!.aM (i64.wrap (r7.t2+1)) r8 with|G=>G|V r9=>match M207 r7.t8[r7.t10.toNat]!.aS (i64.wrap (r7.t2+1)) r9 with|G=>G|V r10=>G else bif(jo (bf.mk (i64.wrap (r7.b0.bG+1)) (J (12<(((),r7.t2,r7.t8,r7.t9,r7.t10,()),r7.b0,()).fst.snd.fst)))).fst then V ((jo (bf.mk (i64.wrap (r7.b0.bG+1)) (J (12<(((),r7.t2,r7.t8,r7.t9,r7.t10,()),r7.b0,()).fst.snd.fst)))).snd)else match Gz (au.mk r7.t8[r7.t10.toNat]!.aA.bF r7.t8[r7.t10.toNat]!.aA.fN r7.t8[r7.t10.toNat]!.aA.aq) 1 (jo (bf.mk (i64.wrap (r7.b0.bG+1)) (J (12<(((),r7.t2,r7.t8,r7.t9,r7.t10,()),r7.b0,()).fst.snd.fst)))).snd with|G=>G|V r11=>match M207 r7.t8[r7.t10.toNat]!.aM (i64.wrap (r7.t2+1)) r11 with|G=>G|V r12=>match M207 r7.t8[r7.t10.toNat]!.aS (i64.wrap (r7.t2+1)) r12 with|G=>G|V r13=>G else G else V (r7.b0)
def aDK(M207:(aa ay)->Int->bf->af se)(a1:aa ay)(a2:Int)(b0:bf):bL w9 (aoU M207) 300 (amz M207) 207 (ap3.c ((),a1,a2,())) (as2.d (b0,())) 1 d207.rd=ajD M207 a1 a2 b0:=by kernel_rfl
def amJ:Nat->((aa ay)->Int->bf->af se)
 |0=>(λ_ _ _=>G)
 |n+1=>(ajD (amJ n))
def Rx(n:Nat):(aa ay)->Int->bf->af se:=(amJ n)
def Od:∀n,aiX (Rx n)
 |0=>λ_ _ h=>(by cases h)
 |n+1=>by
  have ih:=Od n;have i207:=ih;exact(sx (adf i207) (axw (Rx n)) (λ_=>by kernel_rfl) (λ_=>by kernel_rfl) (λ_=>by kernel_rfl) λg=>aDK (Rx n) g.1.2.1 g.1.2.2.1 g.2.1)
def aax:(aa ay)->Int->bf->af se:=λa1 a2 b0=>lim (λn=>Rx n a1 a2 b0)
def aed:aiX aax:=λg b h=>by
 obtain⟨n,hn⟩:=dR (show lim (λn=>Rx n g.1.2.1 g.1.2.2.1 g.2.1)=V b from h);exact(Od n) g b hn
def avV(F:aZ):aZ:=aqZ aax F
def afT{F:aZ}(h:aQ w9 F):aQ w9 (avV F):=T7 aed h
abbrev av8:=Bool
def d260:Td 0 av8:= .c [] [3] (.r 0 0 (ec 3 qb en) sn (λz=>z.1.1) (λx=>((x,()),(()))))
def YQ(a0:aX)(c0:aX):av8:=
 a0.fName.toList==c0.fName.toList
def aDH:=eL w9 260 S (lc (qg 131) (lc (qr (lg 131)) ln)) d260 (λg=>V (YQ g.1 g.2.1))
def SC:EO aDH:=λh=>kL (an:= .no) func260 aR aF h
def au6:aZ:=cZ
structure Fe where
 t0:ByteArray
 (t14 t15:Int)
def PY:Td 0 Fe:= .c [] [0,14,15] (.r 0 0 (ec 0 qs (ec 14 aL (ec 15 aL en))) sn (λz=>⟨z.1.1,z.1.2.1,z.1.t.1⟩) (λx=>((x.t0,x.t14,x.t15,()),(()))))
def Ii(p:Fe):af (af Fe):=
 bif J (p.t15<p.t14)then if 0<=p.t15/\p.t15<p.t0.size then match bif J (97<=cz p.t0 p.t15.toNat)then V (J (cz p.t0 p.t15.toNat<=122))else V S with|G=>G|V r1=>match bif bif r1 then S else O then bif J (p.t15=0)then V O else bif J (cz p.t0 p.t15.toNat<48)then bif bif J (cz p.t0 p.t15.toNat=46)then S else O then V (bif J (cz p.t0 p.t15.toNat=95)then S else O)else V S else bif J (57<cz p.t0 p.t15.toNat)then bif bif J (cz p.t0 p.t15.toNat=46)then S else O then V (bif J (cz p.t0 p.t15.toNat=95)then S else O)else V S else V S else V S with|G=>G|V r2=>bif r2 then V (G)else V (V (Fe.mk p.t0 p.t14 (i64.wrap (p.t15+1))))else G else V (G)
def XB:An:=(noTwo (noTwo (.two (noTwo (noTwo (.two (.rb [] 5) (.two (.rb [] 48) .no)))) .no)))
def Ib:=bJ (Ii)
abbrev azp:=Bool
def d261:Td 0 azp:= .c [] [2] (.r 0 0 (ec 2 qb en) sn (λz=>z.1.1) (λx=>((x,()),(()))))
def aaP:∀f∈([]:aa Nat),bw (au6) f:=aF
def RF(a0:ByteArray):af azp:=
 match bif a0.toList==(ByteArray.mk (xe [])).toList then V O else V (J (40<(a0.size:Int)))with|G=>G|V r3=>bif r3 then V S else match Ib (Fe.mk a0 a0.size 0)with|G=>G|V r4=>bif J (r4.t15<r4.t14)then if 0<=r4.t15/\r4.t15<r4.t0.size then match bif J (97<=cz r4.t0 r4.t15.toNat)then V (J (cz r4.t0 r4.t15.toNat<=122))else V S with|G=>G|V r5=>match bif bif r5 then S else O then bif J (r4.t15=0)then V O else bif J (cz r4.t0 r4.t15.toNat<48)then bif bif J (cz r4.t0 r4.t15.toNat=46)then S else O then V (bif J (cz r4.t0 r4.t15.toNat=95)then S else O)else V S else bif J (57<cz r4.t0 r4.t15.toNat)then bif bif J (cz r4.t0 r4.t15.toNat=46)then S else O then V (bif J (cz r4.t0 r4.t15.toNat=95)then S else O)else V S else V S else V S with|G=>G|V r6=>bif r6 then V S else G else G else V O
def ayz:=eL w9 261 S (lc qs ln) d261 (λg=>RF g.1)
def SF:EO ayz:=λh=>kL (F:=au6) (an:=(noTwo (.two (.two (.rb [] 12) .no) (.two (noTwo (PY.lp Ib XB)) .no)))) (l:=[(.skip,(.rb [] 12)),(aW f261 0,(PY.lp Ib XB)),(.skip,(.rb [] 5)),(.skip,(.rb [] 48))]) func261 aR (az aaP (az (aO PY) (az aaP (az aaP aF)))) h
structure DM where
 t0:List aX
 og:ByteArray
 (ou om nQ oo t7 t8:Int)
def Sa:Td 0 DM:= .c [] [0,1,7,8] (.r 0 0 (ec 0 (ql 131) (ec 1 (qf 260 (lc (qr (lc qs (bk (bk (bk (bk ln)))))) ln)) (ec 7 aL (ec 8 aL en)))) sn (λz=>⟨z.1.1,z.1.2.1.1.1,z.1.2.1.1.2.1,z.1.2.1.1.t.1,z.1.2.1.1.t.2.1,z.1.2.1.1.q.1,z.1.t.1,z.1.t.2.1⟩) (λx=>((x.t0,((x.og,x.ou,x.om,x.nQ,x.oo,()),()),x.t7,x.t8,()),(()))))
def K4(p:DM):af (af DM):=
 bif J (p.t8<p.t7)then if 0<=p.t8/\p.t8<p.t0.length then bif YQ p.t0[p.t8.toNat]! (aX.mk p.og p.ou p.om p.nQ p.oo)then V (G)else V (V (DM.mk p.t0 p.og p.ou p.om p.nQ p.oo p.t7 (i64.wrap (p.t8+1))))else G else V (G)
def KT:=bJ (K4)
abbrev aws:=Int
def d303:Td 0 aws:= .c [] [4] (.r 0 0 (ec 4 aL en) sn (λz=>z.1.1) (λx=>((x,()),(()))))
def aqG(a0:aa aX)(a1_0:aX):af aws:=
 match KT (DM.mk a0 a1_0.fName a1_0.bz a1_0.ag a1_0.ah a1_0.eO a0.length 0)with|G=>G|V r1=>bif J (r1.t8<r1.t7)then if 0<=r1.t8/\r1.t8<r1.t0.length then bif YQ r1.t0[r1.t8.toNat]! (aX.mk r1.og r1.ou r1.om r1.nQ r1.oo)then V (r1.t8)else G else G else V (-1)
def aDc:=eL w9 303 O (lc (ql 131) (lc (qf 260 (lc (qr (lg 131)) ln)) ln)) d303 (λg=>aqG g.1 g.2.1.1)
def ail:EO aDc:=λh=>kL (an:=(noTwo (.two (noTwo (Sa.lp KT .no)) .no))) (l:=[(aW f303 0,(Sa.lp KT .no))]) func303 (SC aR) (az (aO Sa) aF) h
abbrev aBk:=Bool
def d262:Td 0 aBk:= .c [] [4] (.r 0 0 (ec 4 qb en) sn (λz=>z.1.1) (λx=>((x,()),(()))))
def Zq(a0:aa aX)(a1_0:aX):af aBk:=
 match aqG a0 a1_0 with|G=>G|V r1=>V (J (0<=r1))
def azh:=eL w9 262 O (lc (ql 131) (lc (qf 260 (lc (qr (lg 131)) ln)) ln)) d262 (λg=>Zq g.1 g.2.1.1)
def afg:EO azh:=λh=>kL (an:= .no) func262 (ail (SC aR)) aF h
def aqJ:aZ:=cZ
abbrev asq:=Bool
def d263:Td 0 asq:= .c [] [4] (.r 0 0 (ec 4 qb en) sn (λz=>z.1.1) (λx=>((x,()),(()))))
def aAc:=(bk (bk ln))
def amZ:An:=(noTwo (.two (.rb [] 4) .no))
def aBf:∀f∈([]:aa Nat),bw (aqJ) f:=aF
def JP(a0:Int)(a1:Int):asq:=
 let r1:Bool:=bif J (a0<=a1)then bif J (-1048576<=a0)then J (a1<=1048576)else S else S;r1
def aES(a0:Int)(a1:Int):bL w9 (aqJ) 300 (amZ) 263 (aAc.c (a0,a1,())) [] 0 d263.rd=V (JP a0 a1):=by
 refine Eq.trans (b:=(
  match bif J (a0<=a1)then bif J (-1048576<=a0)then V (J (a1<=1048576))else V (S)else V (S)with|G=>G|V r1=>V (r1):af asq)) (by kernel_rfl) ?_
 simp only[JP,cM,di]
def aAX:=eL w9 263 S aAc d263 (λg=>V (JP g.1 g.2.1))
def SB:EO aAX:=λh=>kL (F:=aqJ) (an:=amZ) (l:=[(.skip,(.rb [] 4))]) func263 aR (az aBf aF) h (c:=λg=>aES g.1 g.2.1)
abbrev avf:=Int
def d337:Td 0 avf:= .c [] [2] (.r 0 0 (ec 2 aL en) sn (λz=>z.1.1) (λx=>((x,()),(()))))
def Gv(a0:aX):avf:=
 i64.wrap (i64.wrap (a0.ah-a0.ag)+1)
def aBt:=eL w9 337 S (lc (qg 131) ln) d337 (λg=>V (Gv g.1))
def adF:EO aBt:=λh=>kL (an:= .no) func337 aR aF h
def auH:aZ:=(aBt cZ)
structure pS where
 t7:List aX
 t10:Int
 t49:List aX
 (t50 t51:Int)
def PW:Td 0 pS:= .c [] [7,10,49,50,51] (.r 0 1 (ec 7 (qo 0) (ec 10 aL (ec 49 (qo 0) (ec 50 aL (ec 51 aL en))))) (sr 0 131 sn) (λz=>⟨z.2.1,z.1.2.1,z.2.1,z.1.t.2.1,z.1.q.1⟩) (λx=>(((),x.t10,(),x.t50,x.t51,()),(x.t49,()))))
def Ir(p:pS):af (af pS):=
 bif J (p.t51<p.t50)then if 0<=p.t51/\p.t51<p.t49.length then if 131=131/\p.t51.toNat<p.t49.length then bif J (4096<i64.wrap (p.t10*Gv p.t49[p.t51.toNat]!))then V (G)else V (V (pS.mk p.t49 (i64.wrap (p.t10*Gv p.t49[p.t51.toNat]!)) p.t49 p.t50 (i64.wrap (p.t51+1))))else G else G else V (G)
def tG:=bJ (Ir)
structure nN where
 t1:Int
 (t7 t19:List aX)
 (t20 t21:Int)
def Q6:Td 0 nN:= .c [] [1,7,19,20,21] (.t (cA.s 7 [] 131) (.c [] [1,7,19,20,21] (.r 0 1 (ec 1 aL (ec 7 (qo 0) (ec 19 (ql 131) (ec 20 aL (ec 21 aL en))))) (sr 0 131 sn) (λz=>⟨z.1.1,z.2.1,z.1.t.1,z.1.t.2.1,z.1.q.1⟩) (λx=>((x.t1,(),x.t19,x.t20,x.t21,()),(x.t7,()))))))
def DK(p:nN):af (af nN):=
 bif J (p.t21<p.t20)then if 0<=p.t21/\p.t21<p.t19.length then bif bif J (p.t19[p.t21.toNat]!.bz=p.t1)then S else O then V (V (nN.mk p.t1 p.t7 p.t19 p.t20 (i64.wrap (p.t21+1))))else match bif J (p.t19[p.t21.toNat]!.ah<p.t19[p.t21.toNat]!.ag)then V O else bif J (p.t19[p.t21.toNat]!.ag< -1048576)then V O else V (J (1048576<p.t19[p.t21.toNat]!.ah))with|G=>G|V r1=>bif r1 then V (G)else if(p.t7++[p.t19[p.t21.toNat]!]).length<=1073741824 then V (V (nN.mk p.t1 (p.t7++[p.t19[p.t21.toNat]!]) p.t19 p.t20 (i64.wrap (p.t21+1))))else G else G else V (G)
def ZY:An:=(noTwo (noTwo (.two (noTwo (noTwo (.two (.two (.rb [] 43) .no) .no))) .no)))
def tB:=bJ (DK)
abbrev ax8:=(aa aX)×Int×Int
def d304:Td 0 ax8:= .c [] [4,5,6] (.t (cA.s 4 [] 131) (.c [] [4,5,6] (.r 0 1 (ec 4 (qo 0) (ec 5 aL (ec 6 aL en))) (sr 0 131 sn) (λz=>(z.2.1,z.1.2.1,z.1.t.1)) (λx=>(((),x.2.1,x.t,()),(x.1,()))))))
def awv:∀f∈([]:aa Nat),bw (auH) f:=aF
def aos(a0:aa aX)(a1:Int):af ax8:=
 bif J (a1=0)then match tB (nN.mk a1 [] a0 a0.length 0)with|G=>G|V r2=>bif J (r2.t21<r2.t20)then if 0<=r2.t21/\r2.t21<r2.t19.length then bif bif J (r2.t19[r2.t21.toNat]!.bz=r2.t1)then S else O then G else match bif J (r2.t19[r2.t21.toNat]!.ah<r2.t19[r2.t21.toNat]!.ag)then V O else bif J (r2.t19[r2.t21.toNat]!.ag< -1048576)then V O else V (J (1048576<r2.t19[r2.t21.toNat]!.ah))with|G=>G|V r3=>bif r3 then V ([],0,3)else if(r2.t7++[r2.t19[r2.t21.toNat]!]).length<=1073741824 then G else G else G else match tG (pS.mk r2.t7 1 r2.t7 r2.t7.length 0)with|G=>G|V r4=>bif J (r4.t51<r4.t50)then if 0<=r4.t51/\r4.t51<r4.t49.length then if 131=131/\r4.t51.toNat<r4.t49.length then bif J (4096<i64.wrap (r4.t10*Gv r4.t49[r4.t51.toNat]!))then V ([],0,4)else G else G else G else V (r4.t49,r4.t10,0)else bif J (a1=1)then match tB (nN.mk a1 [] a0 a0.length 0)with|G=>G|V r5=>bif J (r5.t21<r5.t20)then if 0<=r5.t21/\r5.t21<r5.t19.length then bif bif J (r5.t19[r5.t21.toNat]!.bz=r5.t1)then S else O then G else match bif J (r5.t19[r5.t21.toNat]!.ah<r5.t19[r5.t21.toNat]!.ag)then V O else bif J (r5.t19[r5.t21.toNat]!.ag< -1048576)then V O else V (J (1048576<r5.t19[r5.t21.toNat]!.ah))with|G=>G|V r6=>bif r6 then V ([],0,3)else if(r5.t7++[r5.t19[r5.t21.toNat]!]).length<=1073741824 then G else G else G else match tG (pS.mk r5.t7 1 r5.t7 r5.t7.length 0)with|G=>G|V r7=>bif J (r7.t51<r7.t50)then if 0<=r7.t51/\r7.t51<r7.t49.length then if 131=131/\r7.t51.toNat<r7.t49.length then bif J (4096<i64.wrap (r7.t10*Gv r7.t49[r7.t51.toNat]!))then V ([],0,4)else G else G else G else V (r7.t49,r7.t10,0)else bif J (a1=2)then match tB (nN.mk a1 [] a0 a0.length 0)with|G=>G|V r8=>bif J (r8.t21<r8.t20)then if 0<=r8.t21/\r8.t21<r8.t19.length then bif bif J (r8.t19[r8.t21.toNat]!.bz=r8.t1)then S else O then G else match bif J (r8.t19[r8.t21.toNat]!.ah<r8.t19[r8.t21.toNat]!.ag)then V O else bif J (r8.t19[r8.t21.toNat]!.ag< -1048576)then V O else V (J (1048576<r8.t19[r8.t21.toNat]!.ah))with|G=>G|V r9=>bif r9 then V ([],0,3)else if(r8.t7++[r8.t19[r8.t21.toNat]!]).length<=1073741824 then G else G else G else match tG (pS.mk r8.t7 1 r8.t7 r8.t7.length 0)with|G=>G|V r10=>bif J (r10.t51<r10.t50)then if 0<=r10.t51/\r10.t51<r10.t49.length then if 131=131/\r10.t51.toNat<r10.t49.length then bif J (4096<i64.wrap (r10.t10*Gv r10.t49[r10.t51.toNat]!))then V ([],0,4)else G else G else G else V (r10.t49,r10.t10,0)else bif J (a1=3)then match tB (nN.mk a1 [] a0 a0.length 0)with|G=>G|V r11=>bif J (r11.t21<r11.t20)then if 0<=r11.t21/\r11.t21<r11.t19.length then bif bif J (r11.t19[r11.t21.toNat]!.bz=r11.t1)then S else O then G else match bif J (r11.t19[r11.t21.toNat]!.ah<r11.t19[r11.t21.toNat]!.ag)then V O else bif J (r11.t19[r11.t21.toNat]!.ag< -1048576)then V O else V (J (1048576<r11.t19[r11.t21.toNat]!.ah))with|G=>G|V r12=>bif r12 then V ([],0,3)else if(r11.t7++[r11.t19[r11.t21.toNat]!]).length<=1073741824 then G else G else G else match tG (pS.mk r11.t7 1 r11.t7 r11.t7.length 0)with|G=>G|V r13=>bif J (r13.t51<r13.t50)then if 0<=r13.t51/\r13.t51<r13.t49.length then if 131=131/\r13.t51.toNat<r13.t49.length then bif J (4096<i64.wrap (r13.t10*Gv r13.t49[r13.t51.toNat]!))then V ([],0,4)else G else G else G else V (r13.t49,r13.t10,0)else V ([],0,1)
def aD5:=eL w9 304 S (lc (ql 131) (bk ln)) d304 (λg=>aos g.1 g.2.1)
def ad0:EO aD5:=λh=>kL (F:=auH) (an:=(noTwo (noTwo (noTwo (.two (noTwo (Q6.lp tB ZY)) (noTwo (.two (noTwo (PW.lp tG .no)) .no))))))) (l:=[(aW f304 0,(Q6.lp tB ZY)),(.skip,(.rb [] 43)),(aW f304 1,(PW.lp tG .no))]) func304 (adF aR) (az (aO Q6) (az awv (az (aO PW) aF))) h
abbrev azG:=Int×Int
def d264:Td 0 azG:= .c [] [4,5] (.r 0 0 (ec 4 aL (ec 5 aL en)) sn (λz=>(z.1.1,z.1.2.1)) (λx=>((x.1,x.2,()),(()))))
def YC(a0:aa aX)(a1:Int):af azG:=
 match aos a0 a1 with|G=>G|V r1=>V (r1.snd)
def aw8:=eL w9 264 S (lc (ql 131) (bk ln)) d264 (λg=>YC g.1 g.2.1)
def aju:EO aw8:=λh=>kL (an:= .no) func264 (ad0 aR) aF h
def azr:aZ:=(aw8 (aAX (azh (ayz cZ))))
structure DG where
 t0:List aX
 t71:List Int
 (t72 t73:Int)
def RV:Td 0 DG:= .c [] [0,71,72,73] (.r 0 1 (ec 0 (ql 131) (ec 71 (qo 0) (ec 72 aL (ec 73 aL en)))) (sr 0 129 sn) (λz=>⟨z.1.1,z.2.1,z.1.t.1,z.1.t.2.1⟩) (λx=>((x.t0,(),x.t72,x.t73,()),(x.t71,()))))
def qd(p:DG):af (af DG):=
 bif J (p.t73<p.t72)then if 0<=p.t73/\p.t73<p.t71.length then if 129=129/\p.t73.toNat<p.t71.length then match YC p.t0 p.t71[p.t73.toNat]! with|G=>G|V r6=>match bif bif J (r6.snd=0)then S else O then V O else bif J (((p.t0,(),p.t72,p.t73,()),p.t71,()).snd.fst[((p.t0,(),p.t72,p.t73,()),p.t71,()).fst.snd.snd.snd.fst.toNat]! =3)then V (J (256<r6.fst))else V S with|G=>G|V r7=>bif r7 then V (G)else V (V (DG.mk p.t0 p.t71 p.t72 (i64.wrap (p.t73+1))))else G else G else V (G)
def ZZ:An:=(noTwo (noTwo (.two (noTwo (noTwo (.two (.rb [] 92) .no))) .no)))
def qH:=bJ (qd)
structure Ef where
 (t0 t10:List aX)
 (t11 t12:Int)
def OY:Td 0 Ef:= .c [] [0,10,11,12] (.r 0 0 (ec 0 (ql 131) (ec 10 (ql 131) (ec 11 aL (ec 12 aL en)))) sn (λz=>⟨z.1.1,z.1.2.1,z.1.t.1,z.1.t.2.1⟩) (λx=>((x.t0,x.t10,x.t11,x.t12,()),(()))))
def Am(p:Ef):af (af Ef):=
 bif J (p.t12<p.t11)then if 0<=p.t12/\p.t12<p.t10.length then match RF p.t10[p.t12.toNat]!.fName with|G=>G|V r1=>bif bif r1 then S else O then V (G)else if 0<=p.t12/\p.t12<=p.t0.length then match Zq (List.take p.t12.toNat p.t0) p.t10[p.t12.toNat]! with|G=>G|V r2=>bif r2 then V (G)else match bif J (p.t10[p.t12.toNat]!.bz<0)then V O else V (J (3<p.t10[p.t12.toNat]!.bz))with|G=>G|V r3=>bif r3 then V (G)else bif bif JP p.t10[p.t12.toNat]!.ag p.t10[p.t12.toNat]!.ah then S else O then V (G)else match bif bif J (p.t10[p.t12.toNat]!.bz=0)then S else O then V (bif J (p.t10[p.t12.toNat]!.eO=0)then S else O)else V S with|G=>G|V r4=>bif r4 then V (G)else match bif J (p.t10[p.t12.toNat]!.bz=0)then bif J (p.t10[p.t12.toNat]!.eO<p.t10[p.t12.toNat]!.ag)then V O else V (J (p.t10[p.t12.toNat]!.ah<p.t10[p.t12.toNat]!.eO))else V S with|G=>G|V r5=>bif r5 then V (G)else V (V (Ef.mk p.t0 p.t10 p.t11 (i64.wrap (p.t12+1))))else G else G else V (G)
def ZU:An:=(noTwo (noTwo (.two (noTwo (noTwo (noTwo (noTwo (noTwo (noTwo (.two (.rb [] 29) (noTwo (.two (noTwo (noTwo (.two (.rb [] 38) (noTwo (.rb [] 38))))) .no))))))))) .no)))
def KZ:=bJ (Am)
abbrev awq:=Int
def d210:Td 0 awq:= .c [] [2] (.r 0 0 (ec 2 aL en) sn (λz=>z.1.1) (λx=>((x,()),(()))))
def UN:∀f∈([]:aa Nat),bw (azr) f:=aF
def ae7(a0:aa aX):af awq:=
 match KZ (Ef.mk a0 a0 a0.length 0)with|G=>G|V r8=>bif J (r8.t12<r8.t11)then if 0<=r8.t12/\r8.t12<r8.t10.length then match RF r8.t10[r8.t12.toNat]!.fName with|G=>G|V r9=>bif bif r9 then S else O then V 7 else if 0<=r8.t12/\r8.t12<=r8.t0.length then match Zq (List.take r8.t12.toNat r8.t0) r8.t10[r8.t12.toNat]! with|G=>G|V r10=>bif r10 then V 8 else match bif J (r8.t10[r8.t12.toNat]!.bz<0)then V O else V (J (3<r8.t10[r8.t12.toNat]!.bz))with|G=>G|V r11=>bif r11 then V 1 else bif bif JP r8.t10[r8.t12.toNat]!.ag r8.t10[r8.t12.toNat]!.ah then S else O then V 3 else match bif bif J (r8.t10[r8.t12.toNat]!.bz=0)then S else O then V (bif J (r8.t10[r8.t12.toNat]!.eO=0)then S else O)else V S with|G=>G|V r12=>bif r12 then V 3 else match bif J (r8.t10[r8.t12.toNat]!.bz=0)then bif J (r8.t10[r8.t12.toNat]!.eO<r8.t10[r8.t12.toNat]!.ag)then V O else V (J (r8.t10[r8.t12.toNat]!.ah<r8.t10[r8.t12.toNat]!.eO))else V S with|G=>G|V r13=>bif r13 then V 3 else G else G else G else match qH (DG.mk r8.t0 [1,2,3] (3:Int) 0)with|G=>G|V r14=>bif J (r14.t73<r14.t72)then if 0<=r14.t73/\r14.t73<r14.t71.length then if 129=129/\r14.t73.toNat<r14.t71.length then match YC r14.t0 r14.t71[r14.t73.toNat]! with|G=>G|V r15=>match bif bif J (r15.snd=0)then S else O then V O else bif J (((r14.t0,(),r14.t72,r14.t73,()),r14.t71,()).snd.fst[((r14.t0,(),r14.t72,r14.t73,()),r14.t71,()).fst.snd.snd.snd.fst.toNat]! =3)then V (J (256<r15.fst))else V S with|G=>G|V r16=>bif r16 then V 4 else G else G else G else V 0
def awD:=eL w9 210 S (lc (ql 131) ln) d210 (λg=>ae7 g.1)
def afK:EO awD:=λh=>kL (F:=azr) (an:=(noTwo (.two (noTwo (OY.lp KZ ZU)) (.two (noTwo (RV.lp qH ZZ)) .no)))) (l:=[(aW f210 0,(OY.lp KZ ZU)),(.skip,(.rb [] 29)),(.skip,(.rb [] 38)),(.skip,(.rb [] 38)),(aW f210 1,(RV.lp qH ZZ)),(.skip,(.rb [] 92))]) func210 (aju (SB (afg (SF aR)))) (az (aO OY) (az UN (az UN (az UN (az (aO RV) (az UN aF)))))) h
abbrev aua:=Bool
def d265:Td 0 aua:= .c [] [3] (.r 0 0 (ec 3 qb en) sn (λz=>z.1.1) (λx=>((x,()),(()))))
def XL(a0:dB)(c0:dB):aua:=
 a0.fName.toList==c0.fName.toList
def aEF:=eL w9 265 S (lc (qg 139) (lc (qr (lg 139)) ln)) d265 (λg=>V (XL g.1 g.2.1))
def TT:EO aEF:=λh=>kL (an:= .no) func265 aR aF h
structure FI where
 t0:List dB
 og:ByteArray
 (ou om nQ oo:Int)
 IB:List au
 (t7 t8:Int)
def PS:Td 0 FI:= .c [] [0,1,7,8] (.r 0 0 (ec 0 (ql 139) (ec 1 (qf 265 (lc (qr (lc qs (bk (bk (bk (bk (lc (ql 137) ln))))))) ln)) (ec 7 aL (ec 8 aL en)))) sn (λz=>⟨z.1.1,z.1.2.1.1.1,z.1.2.1.1.2.1,z.1.2.1.1.t.1,z.1.2.1.1.t.2.1,z.1.2.1.1.q.1,z.1.2.1.1.q.2.1,z.1.t.1,z.1.t.2.1⟩) (λx=>((x.t0,((x.og,x.ou,x.om,x.nQ,x.oo,x.IB,()),()),x.t7,x.t8,()),(()))))
def JB(p:FI):af (af FI):=
 bif J (p.t8<p.t7)then if 0<=p.t8/\p.t8<p.t0.length then bif XL (dB.mk p.t0[p.t8.toNat]!.fName p.t0[p.t8.toNat]!.ag p.t0[p.t8.toNat]!.ah (au.mk p.t0[p.t8.toNat]!.aA.bF p.t0[p.t8.toNat]!.aA.fN p.t0[p.t8.toNat]!.aA.aq)) (dB.mk p.og p.ou p.om (au.mk p.nQ p.oo p.IB))then V (G)else V (V (FI.mk p.t0 p.og p.ou p.om p.nQ p.oo p.IB p.t7 (i64.wrap (p.t8+1))))else G else V (G)
def Is:=bJ (JB)
abbrev aAk:=Int
def d305:Td 0 aAk:= .c [] [4] (.r 0 0 (ec 4 aL en) sn (λz=>z.1.1) (λx=>((x,()),(()))))
def aqf(a0:aa dB)(a1_0:dB):af aAk:=
 match Is (FI.mk a0 a1_0.fName a1_0.ag a1_0.ah a1_0.aA.bF a1_0.aA.fN a1_0.aA.aq a0.length 0)with|G=>G|V r1=>bif J (r1.t8<r1.t7)then if 0<=r1.t8/\r1.t8<r1.t0.length then bif XL (dB.mk r1.t0[r1.t8.toNat]!.fName r1.t0[r1.t8.toNat]!.ag r1.t0[r1.t8.toNat]!.ah (au.mk r1.t0[r1.t8.toNat]!.aA.bF r1.t0[r1.t8.toNat]!.aA.fN r1.t0[r1.t8.toNat]!.aA.aq)) (dB.mk r1.og r1.ou r1.om (au.mk r1.nQ r1.oo r1.IB))then V (r1.t8)else G else G else V (-1)
def aD1:=eL w9 305 O (lc (ql 139) (lc (qf 265 (lc (qr (lg 139)) ln)) ln)) d305 (λg=>aqf g.1 g.2.1.1)
def ajA:EO aD1:=λh=>kL (an:=(noTwo (.two (noTwo (PS.lp Is .no)) .no))) (l:=[(aW f305 0,(PS.lp Is .no))]) func305 (TT aR) (az (aO PS) aF) h
abbrev aw5:=Bool
def d266:Td 0 aw5:= .c [] [4] (.r 0 0 (ec 4 qb en) sn (λz=>z.1.1) (λx=>((x,()),(()))))
def aau(a0:aa dB)(a1_0:dB):af aw5:=
 match aqf a0 (dB.mk a1_0.fName a1_0.ag a1_0.ah (au.mk a1_0.aA.bF a1_0.aA.fN a1_0.aA.aq))with|G=>G|V r1=>V (J (0<=r1))
def aC8:=eL w9 266 O (lc (ql 139) (lc (qf 265 (lc (qr (lg 139)) ln)) ln)) d266 (λg=>aau g.1 g.2.1.1)
def ae5:EO aC8:=λh=>kL (an:= .no) func266 (ajA (TT aR)) aF h
def apP:aZ:=cZ
abbrev apw:=Int×Int
def d338:Td 0 apw:= .c [] [2,3] (.r 0 0 (ec 2 aL (ec 3 aL en)) sn (λz=>(z.1.1,z.1.2.1)) (λx=>((x.1,x.2,()),(()))))
def awX:=(bk ln)
def anl:An:=(noTwo (.two (.two (.rb [] 4) (noTwo (.two (.rb [] 11) (noTwo (.two (.rb [] 18) .no))))) .no))
def aak:∀f∈([]:aa Nat),bw (apP) f:=aF
def Lx(a0:Int):apw:=
 let r1:Bool:=bif J (a0=0)then O else J (a0=24);bif r1 then(0,0)else let r2:Bool:=bif J (a0=6)then O else J (a0=7);bif r2 then(1,1)else let r3:Bool:=bif J (8<=a0)then J (a0<=22)else S;bif r3 then(2,2)else bif J (a0=23)then(3,3)else bif J (a0=25)then(2,33)else(-1,-1)
def aE1(a0:Int):bL w9 (apP) 300 (anl) 338 (awX.c (a0,())) [] 0 d338.rd=V (Lx a0):=by
 refine Eq.trans (b:=(
  match bif J (a0=0)then V (O)else V (J (a0=24))with|G=>G|V r1=>bif r1 then V ((0,0))else match bif J (a0=6)then V (O)else V (J (a0=7))with|G=>G|V r2=>bif r2 then V ((1,1))else match bif J (8<=a0)then V (J (a0<=22))else V (S)with|G=>G|V r3=>bif r3 then V ((2,2))else bif J (a0=23)then V ((3,3))else bif J (a0=25)then V ((2,33))else V ((-1,-1)):af apw)) (by kernel_rfl) ?_
 simp only[Lx,cM,di]
def azi:=eL w9 338 S awX d338 (λg=>V (Lx g.1))
def afn:EO azi:=λh=>kL (F:=apP) (an:=anl) (l:=[(.skip,(.rb [] 4)),(.skip,(.rb [] 11)),(.skip,(.rb [] 18))]) func338 aR (az aak (az aak (az aak aF))) h (c:=λg=>aE1 g.1)
abbrev rY:=Bool
def d306:Td 0 rY:= .c [] [6] (.r 0 0 (ec 6 qb en) sn (λz=>z.1.1) (λx=>((x,()),(()))))
def aou:=(lc (ql 131) (lc (qg 137) (lc qb ln)))
def apf(M:(aa aX)->au->Bool->af rY):aZ->aZ:=eL w9 306 S aou d306 (λg=>M g.1 g.2.1 g.2.2.1)
def afL(M:(aa aX)->au->Bool->af rY):Prop:=HL w9 306 aou d306 (λg=>M g.1 g.2.1 g.2.2.1)
def SM{M:(aa aX)->au->Bool->af rY}(hM:afL M){F:aZ}(h:aQ w9 F):aQ w9 (apf M F):=cO (sc:=jr) cg hM ⟨_,func306,by kernel_rfl,by kernel_rfl⟩ (λ_=>by kernel_rfl) (λ_=>by kernel_rfl) h
def ajM(M306:(aa aX)->au->Bool->af rY):aZ:=(azi (apf M306 cZ))
def ahD{M306}(h306:afL M306):aQ w9 (ajM M306):=(afn (SM h306 aR))
structure sW where
 t0:List aX
 t2:Bool
 t65:List au
 (t66 t67:Int)
def Pj:Td 0 sW:= .c [] [0,2,65,66,67] (.r 0 0 (ec 0 (ql 131) (ec 2 qb (ec 65 (ql 137) (ec 66 aL (ec 67 aL en))))) sn (λz=>⟨z.1.1,z.1.2.1,z.1.t.1,z.1.t.2.1,z.1.q.1⟩) (λx=>((x.t0,x.t2,x.t65,x.t66,x.t67,()),(()))))
def J7(M306:(aa aX)->au->Bool->af rY)(p:sW):af (af sW):=
 bif J (p.t67<p.t66)then if 0<=p.t67/\p.t67<p.t65.length then match M306 p.t0 (au.mk p.t65[p.t67.toNat]!.bF p.t65[p.t67.toNat]!.fN p.t65[p.t67.toNat]!.aq) p.t2 with|G=>G|V r1=>bif bif r1 then S else O then V (G)else V (V (sW.mk p.t0 p.t2 p.t65 p.t66 (i64.wrap (p.t67+1))))else G else V (G)
def A4(M306:(aa aX)->au->Bool->af rY):=bJ (J7 M306)
def anE(M306:(aa aX)->au->Bool->af rY):An:=(noTwo (noTwo (.two (.two (.rb [] 32) .no) (.two (noTwo (noTwo (noTwo (noTwo (.two (.two (.rb [] 63) .no) .no))))) (.two (noTwo (Pj.lp (A4 M306) .no)) .no)))))
def anh{M306}:∀f∈([]:aa Nat),bw (ajM M306) f:=aF
def ayc(M306:(aa aX)->au->Bool->af rY):cR w9 (ajM M306) 0 300 306 (anE M306):=bA (l:=[(.skip,(.rb [] 32)),(.skip,(.rb [] 63)),(aW f306 0,(Pj.lp (A4 M306) .no))]) func306 (aV (by kernel_rfl)) (by kernel_rfl) (az anh (az anh (az (aO Pj) aF)))
def ajr(M306:(aa aX)->au->Bool->af rY)(a0:aa aX)(a1:au)(a2:Bool):af rY:=
 match bif J ((Lx a1.bF).fst<0)then V O else bif J ((a1.aq.length:Int)<(Lx a1.bF).fst)then V O else V (J ((Lx a1.bF).snd<a1.aq.length))with|G=>G|V r2=>bif r2 then V S else bif J (a1.bF=0)then match A4 M306 (sW.mk a0 a2 a1.aq a1.aq.length 0)with|G=>G|V r3=>bif J (r3.t67<r3.t66)then if 0<=r3.t67/\r3.t67<r3.t65.length then match M306 r3.t0 (au.mk r3.t65[r3.t67.toNat]!.bF r3.t65[r3.t67.toNat]!.fN r3.t65[r3.t67.toNat]!.aq) r3.t2 with|G=>G|V r4=>bif bif r4 then S else O then V S else G else G else V O else bif J (a1.bF=24)then match bif J (a1.fN<0)then V O else bif J (a0.length<=a1.fN)then V O else bif a2 then if 0<=a1.fN/\a1.fN<a0.length then V (J (a0[a1.fN.toNat]!.bz=0))else G else V S with|G=>G|V r5=>bif r5 then V S else match A4 M306 (sW.mk a0 a2 a1.aq a1.aq.length 0)with|G=>G|V r6=>bif J (r6.t67<r6.t66)then if 0<=r6.t67/\r6.t67<r6.t65.length then match M306 r6.t0 (au.mk r6.t65[r6.t67.toNat]!.bF r6.t65[r6.t67.toNat]!.fN r6.t65[r6.t67.toNat]!.aq) r6.t2 with|G=>G|V r7=>bif bif r7 then S else O then V S else G else G else V O else bif bif J (a1.fN=0)then S else O then V S else match A4 M306 (sW.mk a0 a2 a1.aq a1.aq.length 0)with|G=>G|V r8=>bif J (r8.t67<r8.t66)then if 0<=r8.t67/\r8.t67<r8.t65.length then match M306 r8.t0 (au.mk r8.t65[r8.t67.toNat]!.bF r8.t65[r8.t67.toNat]!.fN r8.t65[r8.t67.toNat]!.aq) r8.t2 with|G=>G|V r9=>bif bif r9 then S else O then V S else G else G else V O
def aCe(M306:(aa aX)->au->Bool->af rY)(a0:aa aX)(a1:au)(a2:Bool):bL w9 (ajM M306) 300 (anE M306) 306 (aou.c (a0,a1,a2,())) [] 0 d306.rd=ajr M306 a0 a1 a2:=by kernel_rfl
def amy:Nat->((aa aX)->au->Bool->af rY)
 |0=>(λ_ _ _=>G)
 |n+1=>(ajr (amy n))
def OS(n:Nat):(aa aX)->au->Bool->af rY:=(amy n)
def Ld:∀n,afL (OS n)
 |0=>λ_ _ h=>(by cases h)
 |n+1=>by
  have ih:=Ld n;have i306:=ih;exact(cF (ahD i306) (ayc (OS n)) (λ_=>by kernel_rfl) (λ_=>by kernel_rfl) λg=>aCe (OS n) g.1 g.2.1 g.2.2.1)
def ajd:(aa aX)->au->Bool->af rY:=λa0 a1 a2=>lim (λn=>OS n a0 a1 a2)
def aeg:afL ajd:=λg b h=>by
 obtain⟨n,hn⟩:=dR (show lim (λn=>OS n g.1 g.2.1 g.2.2.1)=V b from h);exact(Ld n) g b hn
def aFt(F:aZ):aZ:=apf ajd F
def ahV{F:aZ}(h:aQ w9 F):aQ w9 (aFt F):=SM aeg h
abbrev azW:=Int
def d350:Td 0 azW:= .c [] [4] (.r 0 0 (ec 4 aL en) sn (λz=>z.1.1) (λx=>((x,()),(()))))
def vV(a0:Int)(a1:Int):azW:=
 i64.wrap (a0*a1)
def aAe:=eL w9 350 S (bk (bk ln)) d350 (λg=>V (vV g.1 g.2.1))
def Sq:EO aAe:=λh=>kL (an:= .no) func350 aR aF h
def aFg:aZ:=cZ
abbrev apU:=Span
def d351:Td 0 apU:= .c [] [4] (.r 0 1 (ec 4 (qp 0 0) en) (sb 0 331 (lg 331) sn) (λz=>z.2.1) (λx=>(((),()),(x,()))))
def azf:=(lc (qg 331) (lc (qg 331) ln))
def amH:An:= .no
def VL(a0:Span)(a1:Span):apU:=
 Span.mk (if a1.ag<a0.ag then a1.ag else a0.ag) (if a0.ah<a1.ah then a1.ah else a0.ah)
def aCl(a0:Span)(a1:Span):bL w9 (aFg) 300 (amH) 351 (azf.c (a0,a1,())) [] 0 d351.rd=V (VL a0 a1):=by
 refine Eq.trans (b:=(
  V (Span.mk (if a1.ag<a0.ag then a1.ag else a0.ag) (if a0.ah<a1.ah then a1.ah else a0.ah)):af apU)) (by kernel_rfl) ?_
 simp only[VL,cM,di]
def axS:=eL w9 351 S azf d351 (λg=>V (VL g.1 g.2.1))
def Tb:EO axS:=λh=>kL (an:=amH) func351 aR aF h (c:=λg=>aCl g.1 g.2.1)
structure FO where
 t38:List Int
 (t39 t40:Int)
 (b0 b1:Span)
def PV:Td 0 FO:= .c [] [6,8,38,39,40] (.r 0 3 (ec 6 (qp 0 0) (ec 8 (qp 1 0) (ec 38 (qo 2) (ec 39 aL (ec 40 aL en))))) (sb 0 331 (lg 331) (sb 1 331 (lg 331) (sr 2 3 sn))) (λz=>⟨z.t.2.1,z.1.t.2.1,z.1.q.1,z.2.1,z.t.1⟩) (λx=>(((),(),(),x.t39,x.t40,()),(x.b0,x.b1,x.t38,()))))
def oW(p:FO):af (af FO):=
 bif J (p.t40<p.t39)then if 0<=p.t40/\p.t40<p.t38.length then if 3=3/\p.t40.toNat<p.t38.length then V (V (FO.mk p.t38 p.t39 (i64.wrap (p.t40+1)) p.b0 (VL p.b1 (Span.mk p.t38[p.t40.toNat]! p.t38[p.t40.toNat]!))))else G else G else V (G)
def EH:=bJ (oW)
abbrev aBb:=Span
def d349:Td 0 aBb:= .c [] [6] (.r 0 1 (ec 6 (qp 0 0) en) (sb 0 331 (lg 331) sn) (λz=>z.2.1) (λx=>(((),()),(x,()))))
def ad8(a0:Span)(a1:Span):af aBb:=
 match EH (FO.mk [vV a0.ag a1.ah,vV a0.ah a1.ag,vV a0.ah a1.ah] (↑[vV a0.ag a1.ah,vV a0.ah a1.ag,vV a0.ah a1.ah].length:Int) 0 (Span.mk 0 0) (Span.mk (vV a0.ag a1.ag) (vV a0.ag a1.ag)))with|G=>G|V r1=>bif J (r1.t40<r1.t39)then if 0<=r1.t40/\r1.t40<r1.t38.length then if 3=3/\r1.t40.toNat<r1.t38.length then G else G else G else V (r1.b1)
def aw9:=eL w9 349 S (lc (qg 331) (lc (qg 331) (lc (qf 350 ln) ln))) d349 (λg=>ad8 g.1 g.2.1)
def aj4:EO aw9:=λh=>kL (an:=(noTwo (noTwo (noTwo (.two (noTwo (PV.lp EH .no)) .no))))) (l:=[(aW f349 0,(PV.lp EH .no))]) func349 (Tb (Sq aR)) (az (aO PV) aF) h
def awK:aZ:=(axS (aAe (aw9 cZ)))
structure Ar where
 t207:List Span
 (t208 t209:Int)
 (b0 b1:Span)
def Qu:Td 0 Ar:= .c [] [6,9,207,208,209] (.r 0 2 (ec 6 (qp 0 0) (ec 9 (qp 1 0) (ec 207 (ql 331) (ec 208 aL (ec 209 aL en))))) (sb 0 331 (lg 331) (sb 1 331 (lg 331) sn)) (λz=>⟨z.1.t.1,z.1.t.2.1,z.1.q.1,z.2.1,z.t.1⟩) (λx=>(((),(),x.t207,x.t208,x.t209,()),(x.b0,x.b1,()))))
def KO(p:Ar):af (af Ar):=
 bif J (p.t209<p.t208)then if 0<=p.t209/\p.t209<p.t207.length then V (V (Ar.mk p.t207 p.t208 (i64.wrap (p.t209+1)) p.b0 (VL p.b1 p.t207[p.t209.toNat]!)))else G else V (G)
def Fg:=bJ (KO)
abbrev avL:=Span
def d339:Td 0 avL:= .c [] [6] (.r 0 1 (ec 6 (qp 0 0) en) (sb 0 331 (lg 331) sn) (λz=>z.2.1) (λx=>(((),()),(x,()))))
def ayk:∀f∈([]:aa Nat),bw (awK) f:=aF
def akp(a0:aa aX)(a1:au)(a2:aa Span):af avL:=
 bif J (a1.bF=0)then V (Span.mk a1.fN a1.fN)else bif J (a1.bF=24)then if 0<=a1.fN/\a1.fN<a0.length then if 0<=a1.fN/\a1.fN<a0.length then V (Span.mk a0[a1.fN.toNat]!.ag a0[a1.fN.toNat]!.ah)else G else G else bif J (a1.bF=6)then if(0:Int)<=(0:Int)/\(0:Int)<a2.length then if(0:Int)<=(0:Int)/\(0:Int)<a2.length then V (Span.mk (i64.wrap (0-a2[0]!.ah)) (i64.wrap (0-a2[0]!.ag)))else G else G else bif J (a1.bF=8)then if(0:Int)<=(0:Int)/\(0:Int)<a2.length then if(0:Int)<=(1:Int)/\(1:Int)<a2.length then if(0:Int)<=(0:Int)/\(0:Int)<a2.length then if(0:Int)<=(1:Int)/\(1:Int)<a2.length then V (Span.mk (i64.wrap (a2[0]!.ag+a2[1]!.ag)) (i64.wrap (a2[0]!.ah+a2[1]!.ah)))else G else G else G else G else bif J (a1.bF=9)then if(0:Int)<=(0:Int)/\(0:Int)<a2.length then if(0:Int)<=(1:Int)/\(1:Int)<a2.length then if(0:Int)<=(0:Int)/\(0:Int)<a2.length then if(0:Int)<=(1:Int)/\(1:Int)<a2.length then V (Span.mk (i64.wrap (a2[0]!.ag-a2[1]!.ah)) (i64.wrap (a2[0]!.ah-a2[1]!.ag)))else G else G else G else G else bif J (a1.bF=10)then if(0:Int)<=(0:Int)/\(0:Int)<a2.length then if(0:Int)<=(1:Int)/\(1:Int)<a2.length then match ad8 a2[0]! a2[1]! with|G=>G|V r1=>V (r1)else G else G else bif J (a1.bF=11)then if(0:Int)<=(0:Int)/\(0:Int)<a2.length then if(0:Int)<=(0:Int)/\(0:Int)<a2.length then match if(0:Int)<=(0:Int)/\(0:Int)<a2.length then bif J (0<=a2[0]!.ag)then if(0:Int)<=(1:Int)/\(1:Int)<a2.length then V (J (0<=a2[1]!.ag))else G else V S else G with|G=>G|V r2=>bif r2 then V (Span.mk 0 (if a2[0]!.ah<i64.wrap (0-a2[0]!.ag)then i64.wrap (0-a2[0]!.ag)else a2[0]!.ah))else V (Span.mk (i64.wrap (0-if a2[0]!.ah<i64.wrap (0-a2[0]!.ag)then i64.wrap (0-a2[0]!.ag)else a2[0]!.ah)) (if a2[0]!.ah<i64.wrap (0-a2[0]!.ag)then i64.wrap (0-a2[0]!.ag)else a2[0]!.ah))else G else G else bif J (a1.bF=12)then if(0:Int)<=(1:Int)/\(1:Int)<a2.length then bif J (a2[1]!.ag<0)then if(0:Int)<=(1:Int)/\(1:Int)<a2.length then if(0:Int)<=(1:Int)/\(1:Int)<a2.length then bif J (0<a2[1]!.ah)then if(0:Int)<=(1:Int)/\(1:Int)<a2.length then V (Span.mk (if 0<i64.wrap (a2[1]!.ag+1)then 0 else i64.wrap (a2[1]!.ag+1)) (if i64.wrap (a2[1]!.ah-1)<0 then 0 else i64.wrap (a2[1]!.ah-1)))else G else V (Span.mk (if 0<i64.wrap (a2[1]!.ag+1)then 0 else i64.wrap (a2[1]!.ag+1)) 0)else G else G else if(0:Int)<=(1:Int)/\(1:Int)<a2.length then bif J (0<a2[1]!.ah)then if(0:Int)<=(1:Int)/\(1:Int)<a2.length then V (Span.mk 0 (if i64.wrap (a2[1]!.ah-1)<0 then 0 else i64.wrap (a2[1]!.ah-1)))else G else V (Span.mk 0 0)else G else G else bif J (a1.bF=21)then if(0:Int)<=(0:Int)/\(0:Int)<a2.length then if(0:Int)<=(1:Int)/\(1:Int)<a2.length then if(0:Int)<=(0:Int)/\(0:Int)<a2.length then if(0:Int)<=(1:Int)/\(1:Int)<a2.length then V (Span.mk (if a2[1]!.ag<a2[0]!.ag then a2[1]!.ag else a2[0]!.ag) (if a2[1]!.ah<a2[0]!.ah then a2[1]!.ah else a2[0]!.ah))else G else G else G else G else bif J (a1.bF=22)then if(0:Int)<=(0:Int)/\(0:Int)<a2.length then if(0:Int)<=(1:Int)/\(1:Int)<a2.length then if(0:Int)<=(0:Int)/\(0:Int)<a2.length then if(0:Int)<=(1:Int)/\(1:Int)<a2.length then V (Span.mk (if a2[0]!.ag<a2[1]!.ag then a2[1]!.ag else a2[0]!.ag) (if a2[0]!.ah<a2[1]!.ah then a2[1]!.ah else a2[0]!.ah))else G else G else G else G else bif J (a1.bF=23)then if(0:Int)<=(1:Int)/\(1:Int)<a2.length then if(0:Int)<=(2:Int)/\(2:Int)<=a2.length then match Fg (Ar.mk (yf 2 a2) (↑(yf 2 a2).length:Int) 0 (Span.mk 0 0) a2[1]!)with|G=>G|V r3=>bif J (r3.t209<r3.t208)then if 0<=r3.t209/\r3.t209<r3.t207.length then G else G else V (r3.b1)else G else G else bif J (a1.bF=25)then if(0:Int)<=(1:Int)/\(1:Int)<a2.length then if(0:Int)<=(2:Int)/\(2:Int)<=a2.length then match Fg (Ar.mk (yf 2 a2) (↑(yf 2 a2).length:Int) 0 (Span.mk 0 0) a2[1]!)with|G=>G|V r4=>bif J (r4.t209<r4.t208)then if 0<=r4.t209/\r4.t209<r4.t207.length then G else G else V (r4.b1)else G else G else V (Span.mk 0 1)
def auu:=eL w9 339 S (lc (ql 131) (lc (qg 137) (lc (ql 331) ln))) d339 (λg=>akp g.1 g.2.1 g.t.1)
def aeP:EO auu:=λh=>kL (F:=awK) (an:=(noTwo (.two (noTwo (noTwo (noTwo (noTwo (noTwo (noTwo (noTwo (noTwo (noTwo (noTwo (noTwo (noTwo (noTwo (noTwo (.two (noTwo (.two (.two (.rb [] 123) .no) .no)) (noTwo (noTwo (noTwo (noTwo (noTwo (noTwo (noTwo (.two (noTwo (.two (noTwo (Qu.lp Fg .no)) .no)) .no))))))))))))))))))))))) .no))) (l:=[(.skip,(.rb [] 123)),(aW f339 0,(Qu.lp Fg .no))]) func339 (Tb (Sq (aj4 aR))) (az ayk (az (aO Qu) aF)) h
abbrev rP:=Span×Bool
def d307:Td 0 rP:= .c [] [4,5] (.r 0 1 (ec 4 (qp 0 0) (ec 5 qb en)) (sb 0 331 (lg 331) sn) (λz=>(z.2.1,z.1.2.1)) (λx=>(((),x.2,()),(x.1,()))))
def apA:=(lc (ql 131) (lc (qg 137) ln))
def apl(M:(aa aX)->au->af rP):aZ->aZ:=eL w9 307 S apA d307 (λg=>M g.1 g.2.1)
def ad5(M:(aa aX)->au->af rP):Prop:=HL w9 307 apA d307 (λg=>M g.1 g.2.1)
def TW{M:(aa aX)->au->af rP}(hM:ad5 M){F:aZ}(h:aQ w9 F):aQ w9 (apl M F):=cO (sc:=jr) cg hM ⟨_,func307,by kernel_rfl,by kernel_rfl⟩ (λ_=>by kernel_rfl) (λ_=>by kernel_rfl) h
def aop(M307:(aa aX)->au->af rP):aZ:=(auu (apl M307 cZ))
def ahX{M307}(h307:ad5 M307):aQ w9 (aop M307):=(aeP (TW h307 aR))
structure DB where
 t0:List aX
 t6:List Span
 t13:List au
 (t14 t15:Int)
 b0:au
 b1:Span
def Qf:Td 0 DB:= .c [] [0,3,4,6,13,14,15] (.t (cA.s 6 [] 331) (.c [] [0,3,4,6,13,14,15] (.r 0 3 (ec 0 (ql 131) (ec 3 (qp 0 0) (ec 4 (qp 1 0) (ec 6 (qo 2) (ec 13 (ql 137) (ec 14 aL (ec 15 aL en))))))) (sb 0 137 (lg 137) (sb 1 331 (lg 331) (sr 2 331 sn))) (λz=>⟨z.1.1,z.t.2.1,z.1.q.1,z.1.q.2.1,z.1.q.t.1,z.2.1,z.t.1⟩) (λx=>((x.t0,(),(),(),x.t13,x.t14,x.t15,()),(x.b0,x.b1,x.t6,()))))))
def C2(M307:(aa aX)->au->af rP)(p:DB):af (af DB):=
 bif J (p.t15<p.t14)then if 0<=p.t15/\p.t15<p.t13.length then match M307 p.t0 (au.mk p.t13[p.t15.toNat]!.bF p.t13[p.t15.toNat]!.fN p.t13[p.t15.toNat]!.aq)with|G=>G|V r1=>bif bif r1.snd then S else O then V (G)else if(p.t6++[r1.fst]).length<=1073741824 then V (V (DB.mk p.t0 (p.t6++[r1.fst]) p.t13 p.t14 (i64.wrap (p.t15+1)) (au.mk p.b0.bF p.b0.fN p.b0.aq) p.b1))else G else G else V (G)
def J9(M307:(aa aX)->au->af rP):=bJ (C2 M307)
def amA(M307:(aa aX)->au->af rP):An:=(noTwo (noTwo (.two (noTwo (Qf.lp (J9 M307) .no)) .no)))
def aBx(M307:(aa aX)->au->af rP):cR w9 (aop M307) 0 300 307 (amA M307):=bA (l:=[(aW f307 0,(Qf.lp (J9 M307) .no))]) func307 (aV (by kernel_rfl)) (by kernel_rfl) (az (aO Qf) aF)
def afW(M307:(aa aX)->au->af rP)(a0:aa aX)(a1:au):af rP:=
 match J9 M307 (DB.mk a0 [] a1.aq a1.aq.length 0 (au.mk a1.bF a1.fN a1.aq) (Span.mk 0 0))with|G=>G|V r2=>bif J (r2.t15<r2.t14)then if 0<=r2.t15/\r2.t15<r2.t13.length then match M307 r2.t0 (au.mk r2.t13[r2.t15.toNat]!.bF r2.t13[r2.t15.toNat]!.fN r2.t13[r2.t15.toNat]!.aq)with|G=>G|V r3=>bif bif r3.snd then S else O then V (Span.mk 0 0,S)else if(r2.t6++[r3.fst]).length<=1073741824 then G else G else G else match akp r2.t0 (au.mk r2.b0.bF r2.b0.fN r2.b0.aq) r2.t6 with|G=>G|V r4=>bif J (-1048576<=r4.ag)then V ((r4,J (r4.ah<=1048576)))else V (r4,S)
def aCk(M307:(aa aX)->au->af rP)(a0:aa aX)(a1:au):bL w9 (aop M307) 300 (amA M307) 307 (apA.c (a0,a1,())) [] 0 d307.rd=afW M307 a0 a1:=by kernel_rfl
def ak3:Nat->((aa aX)->au->af rP)
 |0=>(λ_ _=>G)
 |n+1=>(afW (ak3 n))
def O5(n:Nat):(aa aX)->au->af rP:=(ak3 n)
def MB:∀n,ad5 (O5 n)
 |0=>λ_ _ h=>(by cases h)
 |n+1=>by
  have ih:=MB n;have i307:=ih;exact(cF (ahX i307) (aBx (O5 n)) (λ_=>by kernel_rfl) (λ_=>by kernel_rfl) λg=>aCk (O5 n) g.1 g.2.1)
def ajU:(aa aX)->au->af rP:=λa0 a1=>lim (λn=>O5 n a0 a1)
def aeL:ad5 ajU:=λg b h=>by
 obtain⟨n,hn⟩:=dR (show lim (λn=>O5 n g.1 g.2.1)=V b from h);exact(MB n) g b hn
def aEP(F:aZ):aZ:=apl ajU F
def aeJ{F:aZ}(h:aQ w9 F):aQ w9 (aEP F):=TW aeL h
abbrev awb:=Int
def d267:Td 0 awb:= .c [] [6] (.r 0 0 (ec 6 aL en) sn (λz=>z.1.1) (λx=>((x,()),(()))))
def Q3(a0:aa aX)(a1:au)(a2:Bool):af awb:=
 match ajd a0 (au.mk a1.bF a1.fN a1.aq) a2 with|G=>G|V r1=>bif bif r1 then S else O then V (1)else match ajU a0 (au.mk a1.bF a1.fN a1.aq)with|G=>G|V r2=>bif bif r2.snd then S else O then V (3)else V (0)
def aql:=eL w9 267 S (lc (ql 131) (lc (qg 137) (lc qb ln))) d267 (λg=>Q3 g.1 g.2.1 g.t.1)
def SO:EO aql:=λh=>kL (an:= .no) func267 (aeJ (ahV aR)) aF h
def Wl:EP aql:=λh=>kP h
structure D5 where
 t8:List dB
 (t9 t10:Int)
 b0:aN
def O1:Td 0 D5:= .c [] [1,8,9,10] (.r 0 1 (ec 1 (qp 0 0) (ec 8 (ql 139) (ec 9 aL (ec 10 aL en)))) (sb 0 26 (lg 26) sn) (λz=>⟨z.1.2.1,z.1.t.1,z.1.t.2.1,z.2.1⟩) (λx=>(((),x.t8,x.t9,x.t10,()),(x.b0,()))))
def Bc(p:D5):af (af D5):=
 bif J (p.t10<p.t9)then if 0<=p.t10/\p.t10<p.t8.length then match RF p.t8[p.t10.toNat]!.fName with|G=>G|V r1=>bif bif r1 then S else O then V (G)else if 0<=p.t10/\p.t10<=p.b0.ak.length then match aau (List.take p.t10.toNat p.b0.ak) (dB.mk p.t8[p.t10.toNat]!.fName p.t8[p.t10.toNat]!.ag p.t8[p.t10.toNat]!.ah (au.mk p.t8[p.t10.toNat]!.aA.bF p.t8[p.t10.toNat]!.aA.fN p.t8[p.t10.toNat]!.aA.aq))with|G=>G|V r2=>bif r2 then V (G)else bif bif JP p.t8[p.t10.toNat]!.ag p.t8[p.t10.toNat]!.ah then S else O then V (G)else match Q3 p.b0.ai (au.mk p.t8[p.t10.toNat]!.aA.bF p.t8[p.t10.toNat]!.aA.fN p.t8[p.t10.toNat]!.aA.aq) O with|G=>G|V r3=>bif bif J (r3=0)then S else O then V (G)else V (V (D5.mk p.t8 p.t9 (i64.wrap (p.t10+1)) p.b0))else G else G else V (G)
def Ih:=bJ (Bc)
abbrev axp:=Int
def d211:Td 0 axp:= .c [] [2] (.r 0 0 (ec 2 aL en) sn (λz=>z.1.1) (λx=>((x,()),(()))))
def afE(a0:aN):af axp:=
 match Ih (D5.mk a0.ak a0.ak.length 0 a0)with|G=>G|V r4=>bif J (r4.t10<r4.t9)then if 0<=r4.t10/\r4.t10<r4.t8.length then match RF r4.t8[r4.t10.toNat]!.fName with|G=>G|V r5=>bif bif r5 then S else O then V 7 else if 0<=r4.t10/\r4.t10<=r4.b0.ak.length then match aau (List.take r4.t10.toNat r4.b0.ak) (dB.mk r4.t8[r4.t10.toNat]!.fName r4.t8[r4.t10.toNat]!.ag r4.t8[r4.t10.toNat]!.ah (au.mk r4.t8[r4.t10.toNat]!.aA.bF r4.t8[r4.t10.toNat]!.aA.fN r4.t8[r4.t10.toNat]!.aA.aq))with|G=>G|V r6=>bif r6 then V 8 else bif bif JP r4.t8[r4.t10.toNat]!.ag r4.t8[r4.t10.toNat]!.ah then S else O then V 3 else match Q3 r4.b0.ai (au.mk r4.t8[r4.t10.toNat]!.aA.bF r4.t8[r4.t10.toNat]!.aA.fN r4.t8[r4.t10.toNat]!.aA.aq) O with|G=>G|V r7=>bif bif J (r7=0)then S else O then V (r7)else G else G else G else V 0
def ayi:=eL w9 211 S (lc (qg 26) ln) d211 (λg=>afE g.1)
def adN:EO ayi:=λh=>kL (an:=(noTwo (.two (noTwo (O1.lp Ih .no)) .no))) (l:=[(aW f211 0,(O1.lp Ih .no))]) func211 (SO (ae5 (SB (SF aR)))) (az (aO O1) aF) h
def ao1:aZ:=cZ
abbrev asW:=Bool
def d308:Td 0 asW:= .c [] [2] (.r 0 0 (ec 2 qb en) sn (λz=>z.1.1) (λx=>((x,()),(()))))
def avW:=(bk ln)
def al3:An:=(noTwo (.two (.rb [] 2) .no))
def ayZ:∀f∈([]:aa Nat),bw (ao1) f:=aF
def VT(a0:Int):asW:=
 let r1:Bool:=bif J (a0=0)then O else J (a0=5);r1
def aCt(a0:Int):bL w9 (ao1) 300 (al3) 308 (avW.c (a0,())) [] 0 d308.rd=V (VT a0):=by
 refine Eq.trans (b:=(
  match bif J (a0=0)then V (O)else V (J (a0=5))with|G=>G|V r1=>V (r1):af asW)) (by kernel_rfl) ?_
 simp only[VT,cM,di]
def apL:=eL w9 308 S avW d308 (λg=>V (VT g.1))
def afp:EO apL:=λh=>kL (F:=ao1) (an:=al3) (l:=[(.skip,(.rb [] 2))]) func308 aR (az ayZ aF) h (c:=λg=>aCt g.1)
def nB:EP apL:=λh=>kP h
def asQ:aZ:=cZ
abbrev arQ:=Bool
def d309:Td 0 arQ:= .c [] [2] (.r 0 0 (ec 2 qb en) sn (λz=>z.1.1) (λx=>((x,()),(()))))
def ay2:=(bk ln)
def anr:An:=(noTwo (.two (.rb [] 2) .no))
def avh:∀f∈([]:aa Nat),bw (asQ) f:=aF
def ZK(a0:Int):arQ:=
 let r1:Bool:=bif J (a0=4)then O else J (a0=5);r1
def aDF(a0:Int):bL w9 (asQ) 300 (anr) 309 (ay2.c (a0,())) [] 0 d309.rd=V (ZK a0):=by
 refine Eq.trans (b:=(
  match bif J (a0=4)then V (O)else V (J (a0=5))with|G=>G|V r1=>V (r1):af arQ)) (by kernel_rfl) ?_
 simp only[ZK,cM,di]
def aoB:=eL w9 309 S ay2 d309 (λg=>V (ZK g.1))
def aiy:EO aoB:=λh=>kL (F:=asQ) (an:=anr) (l:=[(.skip,(.rb [] 2))]) func309 aR (az avh aF) h (c:=λg=>aDF g.1)
def nC:EP aoB:=λh=>kP h
def aoJ:aZ:=cZ
abbrev asF:=Bool
def d310:Td 0 asF:= .c [] [2] (.r 0 0 (ec 2 qb en) sn (λz=>z.1.1) (λx=>((x,()),(()))))
def avs:=(bk ln)
def alm:An:=(noTwo (.two (.rb [] 2) .no))
def auE:∀f∈([]:aa Nat),bw (aoJ) f:=aF
def XO(a0:Int):asF:=
 let r1:Bool:=bif J (a0=0)then O else bif J (a0=1)then O else bif J (a0=3)then O else J (a0=4);r1
def aFp(a0:Int):bL w9 (aoJ) 300 (alm) 310 (avs.c (a0,())) [] 0 d310.rd=V (XO a0):=by
 refine Eq.trans (b:=(
  match bif J (a0=0)then V (O)else bif J (a0=1)then V (O)else bif J (a0=3)then V (O)else V (J (a0=4))with|G=>G|V r1=>V (r1):af asF)) (by kernel_rfl) ?_
 simp only[XO,cM,di]
def aoA:=eL w9 310 S avs d310 (λg=>V (XO g.1))
def ag5:EO aoA:=λh=>kL (F:=aoJ) (an:=alm) (l:=[(.skip,(.rb [] 2))]) func310 aR (az auE aF) h (c:=λg=>aFp g.1)
def nr:EP aoA:=λh=>kP h
def ard:aZ:=cZ
abbrev as8:=Bool
def d311:Td 0 as8:= .c [] [2] (.r 0 0 (ec 2 qb en) sn (λz=>z.1.1) (λx=>((x,()),(()))))
def aAv:=(lc (qg 137) ln)
def alc:An:=(noTwo (.two (.rb [] 2) .no))
def ayj:∀f∈([]:aa Nat),bw (ard) f:=aF
def WC(a0:au):as8:=
 let r1:Bool:=bif J (a0.bF=0)then bif J (a0.fN=0)then J ((a0.aq.length:Int)=0)else S else S;r1
def aDW(a0:au):bL w9 (ard) 300 (alc) 311 (aAv.c (a0,())) [] 0 d311.rd=V (WC a0):=by
 refine Eq.trans (b:=(
  match bif J (a0.bF=0)then bif J (a0.fN=0)then V (J ((a0.aq.length:Int)=0))else V (S)else V (S)with|G=>G|V r1=>V (r1):af as8)) (by kernel_rfl) ?_
 simp only[WC,cM,di]
def aqx:=eL w9 311 S aAv d311 (λg=>V (WC g.1))
def aen:EO aqx:=λh=>kL (F:=ard) (an:=alc) (l:=[(.skip,(.rb [] 2))]) func311 aR (az ayj aF) h (c:=λg=>aDW g.1)
def mK:EP aqx:=λh=>kP h
structure AP where
 t0:List Int
 (t5 t6:Int)
def P6:Td 0 AP:= .c [] [0,5,6] (.r 0 0 (ec 0 (ql 3) (ec 5 aL (ec 6 aL en))) sn (λz=>⟨z.1.1,z.1.2.1,z.1.t.1⟩) (λx=>((x.t0,x.t5,x.t6,()),(()))))
def KN(p:AP):af (af AP):=
 bif J (p.t6<p.t5)then bif J (0<p.t6)then if 0<=p.t6/\p.t6<p.t0.length then if 0<=i64.wrap (p.t6-1)/\i64.wrap (p.t6-1)<p.t0.length then bif J (((p.t0,p.t5,p.t6,()),()).fst.fst[((p.t0,p.t5,p.t6,()),()).fst.snd.snd.fst.toNat]!<=((p.t0,p.t5,p.t6,()),()).fst.fst[(i64.wrap (((p.t0,p.t5,p.t6,()),()).fst.snd.snd.fst-1)).toNat]!)then V (G)else V (V (AP.mk p.t0 p.t5 (i64.wrap (p.t6+1))))else G else G else V (V (AP.mk p.t0 p.t5 (i64.wrap (p.t6+1))))else V (G)
def JF:=bJ (KN)
abbrev auV:=Bool
def d312:Td 0 auV:= .c [] [2] (.r 0 0 (ec 2 qb en) sn (λz=>z.1.1) (λx=>((x,()),(()))))
def WN(a0:aa Int):af auV:=
 match JF (AP.mk a0 a0.length 0)with|G=>G|V r1=>bif J (r1.t6<r1.t5)then bif J (0<r1.t6)then if 0<=r1.t6/\r1.t6<r1.t0.length then if 0<=i64.wrap (r1.t6-1)/\i64.wrap (r1.t6-1)<r1.t0.length then bif J (((r1.t0,r1.t5,r1.t6,()),()).fst.fst[((r1.t0,r1.t5,r1.t6,()),()).fst.snd.snd.fst.toNat]!<=((r1.t0,r1.t5,r1.t6,()),()).fst.fst[(i64.wrap (((r1.t0,r1.t5,r1.t6,()),()).fst.snd.snd.fst-1)).toNat]!)then V S else G else G else G else G else V O
def aor:=eL w9 312 S (lc (ql 3) ln) d312 (λg=>WN g.1)
def aiC:EO aor:=λh=>kL (an:=(noTwo (.two (noTwo (P6.lp JF .no)) .no))) (l:=[(aW f312 0,(P6.lp JF .no))]) func312 aR (az (aO P6) aF) h
def mY:EP aor:=λh=>kP h
def axB:aZ:=(aor (aqx (aoA (aoB (apL cZ)))))
abbrev auI:=Bool
def d268:Td 0 auI:= .c [] [6] (.r 0 0 (ec 6 qb en) sn (λz=>z.1.1) (λx=>((x,()),(()))))
def sv:∀f∈([308,309,310,311,312]:aa Nat),bw (axB) f:=(az (mY (mK (nr (nC (nB bS))))) (az (mY (mK (nr (nC (nB bS))))) (az (mY (mK (nr (nC (nB bS))))) (az (mY (mK (nr (nC (nB bS))))) (az (mY (mK (nr (nC (nB bS))))) aF)))))
def Rt(a0:aN)(a1:ay)(a2:Bool):af auI:=
 match bif J (a1.cn<0)then V O else V (J (6<a1.cn))with|G=>G|V r1=>bif r1 then V S else match bif bif VT a1.cn then S else O then V (bif J (a1.dG=0)then S else O)else V S with|G=>G|V r2=>bif r2 then V S else match bif bif ZK a1.cn then S else O then V (bif J (a1.fN=0)then S else O)else V S with|G=>G|V r3=>bif r3 then V S else match bif bif XO a1.cn then S else O then V (bif WC (au.mk a1.aA.bF a1.aA.fN a1.aA.aq)then S else O)else V S with|G=>G|V r4=>bif r4 then V S else match bif bif J (a1.cn=3)then S else O then bif bif J (a1.cn=4)then S else O then V (J (0<(a1.aM.length:Int)))else V S else V S with|G=>G|V r5=>bif r5 then V S else match bif bif J (a1.cn=3)then S else O then V (J (0<(a1.aS.length:Int)))else V S with|G=>G|V r6=>bif r6 then V S else match bif bif J (a1.cn=6)then S else O then V (J (0<(a1.aJ.length:Int)))else V S with|G=>G|V r7=>bif r7 then V S else match bif VT a1.cn then bif J (a1.dG<0)then V O else bif J (a0.ai.length<=a1.dG)then V O else if 0<=a1.dG/\a1.dG<a0.ai.length then V (bif J (a0.ai[a1.dG.toNat]!.bz=0)then S else O)else G else V S with|G=>G|V r8=>bif r8 then V S else match bif J (a1.cn=5)then bif J (a1.fN<0)then V O else V (J (a0.ak.length<=a1.fN))else V S with|G=>G|V r9=>bif r9 then V S else match bif bif J (a1.cn=6)then S else O then V O else bif a2 then bif J (0<(a1.aJ.length:Int))then bif J ((a1.aJ.length:Int)<=32)then if(0:Int)<=(0:Int)/\(0:Int)<a1.aJ.length then bif J (0<=a1.aJ[zC 0]!)then match WN a1.aJ with|G=>G|V r10=>V (r10)else V S else G else V S else V S else V S with|G=>G|V r11=>V (r11)
def asm:=eL w9 268 S (lc (qg 26) (lc (qg 166) (lc qb ln))) d268 (λg=>Rt g.1 g.2.1 g.t.1)
def aeX:EO asm:=λh=>kL (F:=axB) (an:=(noTwo (noTwo (.two (.two (.two (.rb [308,309,310,311,312] 10) (noTwo (.two (.rb [308,309,310,311,312] 10) (noTwo (.two (.rb [308,309,310,311,312] 10) (noTwo (.two (.rb [308,309,310,311,312] 10) (noTwo (.two (.rb [308,309,310,311,312] 10) (noTwo (.two (.rb [308,309,310,311,312] 10) (noTwo (.two (.rb [308,309,310,311,312] 10) (noTwo (.two (.rb [308,309,310,311,312] 10) (noTwo (.rb [308,309,310,311,312] 10))))))))))))))))) .no) (.two (.rb [308,309,310,311,312] 6) .no))))) (l:=[(.skip,(.rb [308,309,310,311,312] 10)),(.skip,(.rb [308,309,310,311,312] 10)),(.skip,(.rb [308,309,310,311,312] 10)),(.skip,(.rb [308,309,310,311,312] 10)),(.skip,(.rb [308,309,310,311,312] 10)),(.skip,(.rb [308,309,310,311,312] 10)),(.skip,(.rb [308,309,310,311,312] 10)),(.skip,(.rb [308,309,310,311,312] 10)),(.skip,(.rb [308,309,310,311,312] 10)),(.skip,(.rb [308,309,310,311,312] 6))]) func268 (aiC (aen (ag5 (aiy (afp aR))))) (az sv (az sv (az sv (az sv (az sv (az sv (az sv (az sv (az sv (az sv aF)))))))))) h
def We:EP asm:=λh=>kP h
def avm:aZ:=cZ
abbrev aw4:=Bool
def d269:Td 0 aw4:= .c [] [2] (.r 0 0 (ec 2 qb en) sn (λz=>z.1.1) (λx=>((x,()),(()))))
def alU:∀f∈([]:aa Nat),bw (avm) f:=aF
def QN(a0:ay):af aw4:=
 bif J (a0.cn=2)then match bif J (a0.bq<0)then V O else bif J (67108864<a0.bq)then V O else bif J (a0.cn=4)then bif J (a0.fN<0)then V O else V (J (4096<a0.fN))else V S with|G=>G|V r1=>bif r1 then V S else match bif bif J (a0.cn=6)then S else O then V O else if 0<=i64.wrap ((a0.aJ.length:Int)-(1:Int))/\i64.wrap ((a0.aJ.length:Int)-(1:Int))<a0.aJ.length then V (J (a0.aJ[(i64.wrap ((a0.aJ.length:Int)-1)).toNat]!<=67108864))else G with|G=>G|V r2=>V (r2)else match bif J (a0.bq<0)then V O else bif J (10000<a0.bq)then V O else bif J (a0.cn=4)then bif J (a0.fN<0)then V O else V (J (4096<a0.fN))else V S with|G=>G|V r3=>bif r3 then V S else match bif bif J (a0.cn=6)then S else O then V O else if 0<=i64.wrap ((a0.aJ.length:Int)-(1:Int))/\i64.wrap ((a0.aJ.length:Int)-(1:Int))<a0.aJ.length then V (J (a0.aJ[(i64.wrap ((a0.aJ.length:Int)-1)).toNat]!<=67108864))else G with|G=>G|V r4=>V (r4)
def apj:=eL w9 269 S (lc (qg 166) ln) d269 (λg=>QN g.1)
def ajX:EO apj:=λh=>kL (F:=avm) (an:=(noTwo (noTwo (noTwo (.two (.two (.rb [] 30) .no) (.two (.rb [] 2) .no)))))) (l:=[(.skip,(.rb [] 30)),(.skip,(.rb [] 2))]) func269 aR (az alU (az alU aF)) h
def VC:EP apj:=λh=>kP h
abbrev lU:=Int
def d212:Td 0 lU:= .c [] [6] (.r 0 0 (ec 6 aL en) sn (λz=>z.1.1) (λx=>((x,()),(()))))
def aqv:=(lc (qg 26) (lc (ql 166) (lc qb ln)))
def ai8(M:aN->(aa ay)->Bool->af lU):aZ->aZ:=eL w9 212 S aqv d212 (λg=>M g.1 g.2.1 g.2.2.1)
def WO{M:aN->(aa ay)->Bool->af lU}{F:aZ}{f:Nat}(h:bw F f):bw (ai8 M F) f:=eC h (λ_=>by kernel_rfl)
def aiu(M:aN->(aa ay)->Bool->af lU):Prop:=HL w9 212 aqv d212 (λg=>M g.1 g.2.1 g.2.2.1)
def Uy{M:aN->(aa ay)->Bool->af lU}(hM:aiu M){F:aZ}(h:aQ w9 F):aQ w9 (ai8 M F):=cO (sc:=jr) cg hM ⟨_,func212,by kernel_rfl,by kernel_rfl⟩ (λ_=>by kernel_rfl) (λ_=>by kernel_rfl) h
def ajp(M212:aN->(aa ay)->Bool->af lU):aZ:=(apj (asm (aql (ai8 M212 cZ))))
def akc{M212}(h212:aiu M212):aQ w9 (ajp M212):=(ajX (aeX (SO (Uy h212 aR))))
structure Az where
 t1:List ay
 t2:Bool
 t13:List ay
 (t14 t15:Int)
 t47:List (List ay)
 (t48 t49:Int)
 b0:aN
def OT:Td 0 Az:= .c [] [1,2,3,13,14,15,47,48,49] (.r 0 2 (ec 1 (ql 166) (ec 2 qb (ec 3 (qp 0 0) (ec 13 (ql 166) (ec 14 aL (ec 15 aL (ec 47 (qo 1) (ec 48 aL (ec 49 aL en))))))))) (sb 0 26 (lg 26) (sr 1 24 sn)) (λz=>⟨z.1.1,z.1.2.1,z.1.t.2.1,z.1.q.1,z.1.q.2.1,z.t.1,z.1.q.t.2.1,z.1.q.q.1,z.2.1⟩) (λx=>((x.t1,x.t2,(),x.t13,x.t14,x.t15,(),x.t48,x.t49,()),(x.b0,x.t47,()))))
def s9(M212:aN->(aa ay)->Bool->af lU)(p:Az):af (af Az):=
 bif J (p.t49<p.t48)then if 0<=p.t49/\p.t49<p.t47.length then if 24=24/\p.t49.toNat<p.t47.length then match M212 p.b0 p.t47[p.t49.toNat]! S with|G=>G|V r8=>bif bif J (r8=0)then S else O then V (G)else V (V (Az.mk p.t1 p.t2 p.t13 p.t14 p.t15 p.t47 p.t48 (i64.wrap (p.t49+1)) p.b0))else G else G else V (G)
def AL(M212:aN->(aa ay)->Bool->af lU):=bJ (s9 M212)
structure Fy where
 t1:List ay
 t2:Bool
 t13:List ay
 (t14 t15:Int)
 b0:aN
def Sc:Td 0 Fy:= .c [] [1,2,3,13,14,15] (.r 0 1 (ec 1 (ql 166) (ec 2 qb (ec 3 (qp 0 0) (ec 13 (ql 166) (ec 14 aL (ec 15 aL en)))))) (sb 0 26 (lg 26) sn) (λz=>⟨z.1.1,z.1.2.1,z.1.t.2.1,z.1.q.1,z.1.q.2.1,z.2.1⟩) (λx=>((x.t1,x.t2,(),x.t13,x.t14,x.t15,()),(x.b0,()))))
def vQ(M212:aN->(aa ay)->Bool->af lU)(p:Fy):af (af Fy):=
 bif J (p.t15<p.t14)then if 0<=p.t15/\p.t15<p.t13.length then match bif p.t2 then match Rt p.b0 (ay.mk p.t13[p.t15.toNat]!.cn p.t13[p.t15.toNat]!.bq p.t13[p.t15.toNat]!.dG p.t13[p.t15.toNat]!.fN (au.mk p.t13[p.t15.toNat]!.aA.bF p.t13[p.t15.toNat]!.aA.fN p.t13[p.t15.toNat]!.aA.aq) p.t13[p.t15.toNat]!.aM p.t13[p.t15.toNat]!.aS p.t13[p.t15.toNat]!.aJ) (J (((p.t1,p.t2,(),p.t13,p.t14,p.t15,()),p.b0,()).fst.snd.snd.snd.snd.snd.fst=i64.wrap ((↑((p.t1,p.t2,(),p.t13,p.t14,p.t15,()),p.b0,()).fst.fst.length:Int)-1)))with|G=>G|V r1=>V (bif r1 then S else O)else match Rt p.b0 (ay.mk p.t13[p.t15.toNat]!.cn p.t13[p.t15.toNat]!.bq p.t13[p.t15.toNat]!.dG p.t13[p.t15.toNat]!.fN (au.mk p.t13[p.t15.toNat]!.aA.bF p.t13[p.t15.toNat]!.aA.fN p.t13[p.t15.toNat]!.aA.aq) p.t13[p.t15.toNat]!.aM p.t13[p.t15.toNat]!.aS p.t13[p.t15.toNat]!.aJ) S with|G=>G|V r2=>V (bif r2 then S else O)with|G=>G|V r3=>bif r3 then V (G)else match QN (ay.mk p.t13[p.t15.toNat]!.cn p.t13[p.t15.toNat]!.bq p.t13[p.t15.toNat]!.dG p.t13[p.t15.toNat]!.fN (au.mk p.t13[p.t15.toNat]!.aA.bF p.t13[p.t15.toNat]!.aA.fN p.t13[p.t15.toNat]!.aA.aq) p.t13[p.t15.toNat]!.aM p.t13[p.t15.toNat]!.aS p.t13[p.t15.toNat]!.aJ)with|G=>G|V r4=>bif bif r4 then S else O then V (G)else match Q3 p.b0.ai (au.mk p.t13[p.t15.toNat]!.aA.bF p.t13[p.t15.toNat]!.aA.fN p.t13[p.t15.toNat]!.aA.aq) S with|G=>G|V r5=>bif bif J (r5=0)then S else O then V (G)else match AL M212 (Az.mk p.t1 p.t2 p.t13 p.t14 p.t15 [p.t13[p.t15.toNat]!.aM,p.t13[p.t15.toNat]!.aS] (↑[p.t13[p.t15.toNat]!.aM,p.t13[p.t15.toNat]!.aS].length:Int) 0 p.b0)with|G=>G|V r6=>bif J (r6.t49<r6.t48)then if 0<=r6.t49/\r6.t49<r6.t47.length then if 24=24/\r6.t49.toNat<r6.t47.length then match M212 r6.b0 r6.t47[r6.t49.toNat]! S with|G=>G|V r7=>bif bif J (r7=0)then S else O then V (G)else G else G else G else V (V (Fy.mk r6.t1 r6.t2 r6.t13 r6.t14 (i64.wrap (r6.t15+1)) r6.b0))else G else V (G)
def abq(M212:aN->(aa ay)->Bool->af lU):An:=(noTwo (noTwo (.two (noTwo (.two (.two (.rb [268] 31) .no) (noTwo (noTwo (noTwo (OT.lp (AL M212) .no)))))) .no)))
def Iq(M212:aN->(aa ay)->Bool->af lU):=bJ (vQ M212)
def ak9(M212:aN->(aa ay)->Bool->af lU):An:=(noTwo (.two (noTwo (Sc.lp (Iq M212) (abq M212))) .no))
def axm{M212}:∀f∈([268]:aa Nat),bw (ajp M212) f:=(az (VC (We (Wl (WO bS)))) aF)
def ayI(M212:aN->(aa ay)->Bool->af lU):cR w9 (ajp M212) 0 300 212 (ak9 M212):=bA (l:=[(aW f212 0,(Sc.lp (Iq M212) (abq M212))),(.skip,(.rb [268] 31)),(aW f212 1,(OT.lp (AL M212) .no))]) func212 (aV (by kernel_rfl)) (by kernel_rfl) (az (aO Sc) (az axm (az (aO OT) aF)))
def ahA(M212:aN->(aa ay)->Bool->af lU)(a0:aN)(a1:aa ay)(a2:Bool):af lU:=
 match Iq M212 (Fy.mk a1 a2 a1 a1.length 0 a0)with|G=>G|V r9=>bif J (r9.t15<r9.t14)then if 0<=r9.t15/\r9.t15<r9.t13.length then match bif r9.t2 then match Rt r9.b0 (ay.mk r9.t13[r9.t15.toNat]!.cn r9.t13[r9.t15.toNat]!.bq r9.t13[r9.t15.toNat]!.dG r9.t13[r9.t15.toNat]!.fN (au.mk r9.t13[r9.t15.toNat]!.aA.bF r9.t13[r9.t15.toNat]!.aA.fN r9.t13[r9.t15.toNat]!.aA.aq) r9.t13[r9.t15.toNat]!.aM r9.t13[r9.t15.toNat]!.aS r9.t13[r9.t15.toNat]!.aJ) (J (((r9.t1,r9.t2,(),r9.t13,r9.t14,r9.t15,()),r9.b0,()).fst.snd.snd.snd.snd.snd.fst=i64.wrap ((↑((r9.t1,r9.t2,(),r9.t13,r9.t14,r9.t15,()),r9.b0,()).fst.fst.length:Int)-1)))with|G=>G|V r10=>V (bif r10 then S else O)else match Rt r9.b0 (ay.mk r9.t13[r9.t15.toNat]!.cn r9.t13[r9.t15.toNat]!.bq r9.t13[r9.t15.toNat]!.dG r9.t13[r9.t15.toNat]!.fN (au.mk r9.t13[r9.t15.toNat]!.aA.bF r9.t13[r9.t15.toNat]!.aA.fN r9.t13[r9.t15.toNat]!.aA.aq) r9.t13[r9.t15.toNat]!.aM r9.t13[r9.t15.toNat]!.aS r9.t13[r9.t15.toNat]!.aJ) S with|G=>G|V r11=>V (bif r11 then S else O)with|G=>G|V r12=>bif r12 then V 1 else match QN (ay.mk r9.t13[r9.t15.toNat]!.cn r9.t13[r9.t15.toNat]!.bq r9.t13[r9.t15.toNat]!.dG r9.t13[r9.t15.toNat]!.fN (au.mk r9.t13[r9.t15.toNat]!.aA.bF r9.t13[r9.t15.toNat]!.aA.fN r9.t13[r9.t15.toNat]!.aA.aq) r9.t13[r9.t15.toNat]!.aM r9.t13[r9.t15.toNat]!.aS r9.t13[r9.t15.toNat]!.aJ)with|G=>G|V r13=>bif bif r13 then S else O then V 3 else match Q3 r9.b0.ai (au.mk r9.t13[r9.t15.toNat]!.aA.bF r9.t13[r9.t15.toNat]!.aA.fN r9.t13[r9.t15.toNat]!.aA.aq) S with|G=>G|V r14=>bif bif J (r14=0)then S else O then V (r14)else match AL M212 (Az.mk r9.t1 r9.t2 r9.t13 r9.t14 r9.t15 [r9.t13[r9.t15.toNat]!.aM,r9.t13[r9.t15.toNat]!.aS] (↑[r9.t13[r9.t15.toNat]!.aM,r9.t13[r9.t15.toNat]!.aS].length:Int) 0 r9.b0)with|G=>G|V r15=>bif J (r15.t49<r15.t48)then if 0<=r15.t49/\r15.t49<r15.t47.length then if 24=24/\r15.t49.toNat<r15.t47.length then match M212 r15.b0 r15.t47[r15.t49.toNat]! S with|G=>G|V r16=>bif bif J (r16=0)then S else O then V (r16)else G else G else G else G else G else V 0
def aFQ(M212:aN->(aa ay)->Bool->af lU)(a0:aN)(a1:aa ay)(a2:Bool):bL w9 (ajp M212) 300 (ak9 M212) 212 (aqv.c (a0,a1,a2,())) [] 0 d212.rd=ahA M212 a0 a1 a2:=by kernel_rfl
def ant:Nat->(aN->(aa ay)->Bool->af lU)
 |0=>(λ_ _ _=>G)
 |n+1=>(ahA (ant n))
def Rk(n:Nat):aN->(aa ay)->Bool->af lU:=(ant n)
def NM:∀n,aiu (Rk n)
 |0=>λ_ _ h=>(by cases h)
 |n+1=>by
  have ih:=NM n;have i212:=ih;exact(cF (akc i212) (ayI (Rk n)) (λ_=>by kernel_rfl) (λ_=>by kernel_rfl) λg=>aFQ (Rk n) g.1 g.2.1 g.2.2.1)
def ahZ:aN->(aa ay)->Bool->af lU:=λa0 a1 a2=>lim (λn=>Rk n a0 a1 a2)
def agI:aiu ahZ:=λg b h=>by
 obtain⟨n,hn⟩:=dR (show lim (λn=>Rk n g.1 g.2.1 g.2.2.1)=V b from h);exact(NM n) g b hn
def auk(F:aZ):aZ:=ai8 ahZ F
def aeI{F:aZ}(h:aQ w9 F):aQ w9 (auk F):=Uy agI h
abbrev rX:=qz
def d213:Td 0 rX:= .c [] [2] (.r 0 1 (ec 2 (qp 0 0) en) (sb 0 260 (lg 260) sn) (λz=>z.2.1) (λx=>(((),()),(x,()))))
def aoM:=(lc (ql 166) ln)
def art(M:(aa ay)->af rX):aZ->aZ:=eL w9 213 S aoM d213 (λg=>M g.1)
def akL(M:(aa ay)->af rX):Prop:=HL w9 213 aoM d213 (λg=>M g.1)
def UU{M:(aa ay)->af rX}(hM:akL M){F:aZ}(h:aQ w9 F):aQ w9 (art M F):=cO (sc:=jr) cg hM ⟨_,func213,by kernel_rfl,by kernel_rfl⟩ (λ_=>by kernel_rfl) (λ_=>by kernel_rfl) h
def aro(M213:(aa ay)->af rX):aZ:=(art M213 cZ)
def aho{M213}(h213:akL M213):aQ w9 (aro M213):=(UU h213 aR)
structure oZ where
 t9:List ay
 (t10 t11:Int)
 (b0 b1:qz)
def QX:Td 0 oZ:= .c [] [2,3,9,10,11] (.r 0 2 (ec 2 (qp 0 0) (ec 3 (qp 1 0) (ec 9 (ql 166) (ec 10 aL (ec 11 aL en))))) (sb 0 260 (lg 260) (sb 1 260 (lg 260) sn)) (λz=>⟨z.1.t.1,z.1.t.2.1,z.1.q.1,z.2.1,z.t.1⟩) (λx=>(((),(),x.t9,x.t10,x.t11,()),(x.b0,x.b1,()))))
def KU(M213:(aa ay)->af rX)(p:oZ):af (af oZ):=
 bif J (p.t11<p.t10)then if 0<=p.t11/\p.t11<p.t9.length then match M213 p.t9[p.t11.toNat]!.aM with|G=>G|V r1=>match M213 p.t9[p.t11.toNat]!.aS with|G=>G|V r2=>bif J (p.t9[p.t11.toNat]!.cn=1)then V (V (oZ.mk p.t9 p.t10 (i64.wrap (p.t11+1)) p.b0 (qz.mk (if 1099511627776<i64.wrap (p.b1.ga+1)then 1099511627776 else i64.wrap (p.b1.ga+1)) (if 1099511627776<i64.wrap (p.b1.aY+1)then 1099511627776 else i64.wrap (p.b1.aY+1)) (if 1099511627776<i64.wrap (p.b1.aI+p.t9[p.t11.toNat]!.bq)then 1099511627776 else i64.wrap (p.b1.aI+p.t9[p.t11.toNat]!.bq)))))else bif J (p.t9[p.t11.toNat]!.cn=3)then V (V (oZ.mk p.t9 p.t10 (i64.wrap (p.t11+1)) p.b0 (qz.mk (if 1099511627776<i64.wrap (p.b1.ga+i64.wrap (1+if r1.ga<r2.ga then r2.ga else r1.ga))then 1099511627776 else i64.wrap (p.b1.ga+i64.wrap (1+if r1.ga<r2.ga then r2.ga else r1.ga))) (if 1099511627776<i64.wrap (p.b1.aY+if r1.aY<r2.aY then r2.aY else r1.aY)then 1099511627776 else i64.wrap (p.b1.aY+if r1.aY<r2.aY then r2.aY else r1.aY)) (if 1099511627776<i64.wrap (p.b1.aI+i64.wrap (p.t9[p.t11.toNat]!.bq+if r1.aI<r2.aI then r2.aI else r1.aI))then 1099511627776 else i64.wrap (p.b1.aI+i64.wrap (p.t9[p.t11.toNat]!.bq+if r1.aI<r2.aI then r2.aI else r1.aI))))))else bif J (p.t9[p.t11.toNat]!.cn=4)then V (V (oZ.mk p.t9 p.t10 (i64.wrap (p.t11+1)) p.b0 (qz.mk (if 1099511627776<i64.wrap (p.b1.ga+i64.wrap (1+i64.wrap (p.t9[p.t11.toNat]!.fN*i64.wrap (1+r1.ga))))then 1099511627776 else i64.wrap (p.b1.ga+i64.wrap (1+i64.wrap (p.t9[p.t11.toNat]!.fN*i64.wrap (1+r1.ga))))) (if 1099511627776<i64.wrap (p.b1.aY+i64.wrap (p.t9[p.t11.toNat]!.fN*r1.aY))then 1099511627776 else i64.wrap (p.b1.aY+i64.wrap (p.t9[p.t11.toNat]!.fN*r1.aY))) (if 1099511627776<i64.wrap (p.b1.aI+i64.wrap (p.t9[p.t11.toNat]!.fN*i64.wrap (p.t9[p.t11.toNat]!.bq+r1.aI)))then 1099511627776 else i64.wrap (p.b1.aI+i64.wrap (p.t9[p.t11.toNat]!.fN*i64.wrap (p.t9[p.t11.toNat]!.bq+r1.aI)))))))else V (V (oZ.mk p.t9 p.t10 (i64.wrap (p.t11+1)) p.b0 (qz.mk (if 1099511627776<i64.wrap (p.b1.ga+1)then 1099511627776 else i64.wrap (p.b1.ga+1)) (if 1099511627776<i64.wrap (p.b1.aY+0)then 1099511627776 else i64.wrap (p.b1.aY+0)) (if 1099511627776<i64.wrap (p.b1.aI+p.t9[p.t11.toNat]!.bq)then 1099511627776 else i64.wrap (p.b1.aI+p.t9[p.t11.toNat]!.bq)))))else G else V (G)
def Je(M213:(aa ay)->af rX):=bJ (KU M213)
def ans(M213:(aa ay)->af rX):An:=(noTwo (noTwo (.two (noTwo (QX.lp (Je M213) .no)) .no)))
def axH(M213:(aa ay)->af rX):cR w9 (aro M213) 0 300 213 (ans M213):=bA (l:=[(aW f213 0,(QX.lp (Je M213) .no))]) func213 (aV (by kernel_rfl)) (by kernel_rfl) (az (aO QX) aF)
def adr(M213:(aa ay)->af rX)(a0:aa ay):af rX:=
 match Je M213 (oZ.mk a0 a0.length 0 (qz.mk 0 0 0) (qz.mk 0 0 0))with|G=>G|V r3=>bif J (r3.t11<r3.t10)then if 0<=r3.t11/\r3.t11<r3.t9.length then match M213 r3.t9[r3.t11.toNat]!.aM with|G=>G|V r4=>match M213 r3.t9[r3.t11.toNat]!.aS with|G=>G|V r5=>bif J (r3.t9[r3.t11.toNat]!.cn=1)then G else bif J (r3.t9[r3.t11.toNat]!.cn=3)then G else bif J (r3.t9[r3.t11.toNat]!.cn=4)then G else G else G else V (r3.b1)
def aDV(M213:(aa ay)->af rX)(a0:aa ay):bL w9 (aro M213) 300 (ans M213) 213 (aoM.c (a0,())) [] 0 d213.rd=adr M213 a0:=by kernel_rfl
def al1:Nat->((aa ay)->af rX)
 |0=>(λ_=>G)
 |n+1=>(adr (al1 n))
def Px(n:Nat):(aa ay)->af rX:=(al1 n)
def LR:∀n,akL (Px n)
 |0=>λ_ _ h=>(by cases h)
 |n+1=>by
  have ih:=LR n;have i213:=ih;exact(cF (aho i213) (axH (Px n)) (λ_=>by kernel_rfl) (λ_=>by kernel_rfl) λg=>aDV (Px n) g.1)
def Yo:(aa ay)->af rX:=λa0=>lim (λn=>Px n a0)
def ad9:akL Yo:=λg b h=>by
 obtain⟨n,hn⟩:=dR (show lim (λn=>Px n g.1)=V b from h);exact(LR n) g b hn
def awu(F:aZ):aZ:=art Yo F
def aeo{F:aZ}(h:aQ w9 F):aQ w9 (awu F):=UU ad9 h
def avO:aZ:=(awu (auk (ayi (awD (arT (adh (avV cZ)))))))
structure Bj where
 t14:List dB
 (t15 t16:Int)
 b0:aN
 b1:bf
def RT:Td 0 Bj:= .c [] [1,3,14,15,16] (.r 0 2 (ec 1 (qp 0 0) (ec 3 (qp 1 0) (ec 14 (ql 139) (ec 15 aL (ec 16 aL en))))) (sb 0 26 (lg 26) (sb 1 256 (lg 256) sn)) (λz=>⟨z.1.t.1,z.1.t.2.1,z.1.q.1,z.2.1,z.t.1⟩) (λx=>(((),(),x.t14,x.t15,x.t16,()),(x.b0,x.b1,()))))
def DZ(p:Bj):af (af Bj):=
 bif J (p.t16<p.t15)then if 0<=p.t16/\p.t16<p.t14.length then bif bif(jo p.b1).fst then S else O then match Gz (au.mk p.t14[p.t16.toNat]!.aA.bF p.t14[p.t16.toNat]!.aA.fN p.t14[p.t16.toNat]!.aA.aq) 1 (jo p.b1).snd with|G=>G|V r1=>V (V (Bj.mk p.t14 p.t15 (i64.wrap (p.t16+1)) p.b0 r1))else V (V (Bj.mk p.t14 p.t15 (i64.wrap (p.t16+1)) p.b0 (jo p.b1).snd))else G else V (G)
def EY:=bJ (DZ)
abbrev azk:=Int
def d136:Td 0 azk:= .c [] [2] (.r 0 0 (ec 2 aL en) sn (λz=>z.1.1) (λx=>((x,()),(()))))
def ax1:∀f∈([]:aa Nat),bw (avO) f:=aF
def Xr(a0:aN):af azk:=
 match aax a0.bI 1 (bf.mk 0 S)with|G=>G|V r2=>match EY (Bj.mk a0.ak a0.ak.length 0 a0 r2)with|G=>G|V r3=>bif J (r3.t16<r3.t15)then if 0<=r3.t16/\r3.t16<r3.t14.length then bif bif(jo r3.b1).fst then S else O then match Gz (au.mk r3.t14[r3.t16.toNat]!.aA.bF r3.t14[r3.t16.toNat]!.aA.fN r3.t14[r3.t16.toNat]!.aA.aq) 1 (jo r3.b1).snd with|G=>G|V r4=>G else G else G else bif J (64<(r3.b0.ai.length:Int))then V 4 else bif J (8<(r3.b0.ak.length:Int))then V 4 else bif(jo r3.b1).fst then V 4 else match ae7 r3.b0.ai with|G=>G|V r5=>bif bif J (r5=0)then S else O then V (r5)else match afE r3.b0 with|G=>G|V r6=>bif bif J (r6=0)then S else O then V (r6)else match ahZ r3.b0 r3.b0.bI O with|G=>G|V r7=>bif bif J (r7=0)then S else O then V (r7)else match Yo r3.b0.bI with|G=>G|V r8=>match bif J (4096<r8.ga)then V O else bif J (8<r8.aY)then V O else V (J (67108864<r8.aI))with|G=>G|V r9=>bif r9 then V 4 else V 0
def agO:=eL w9 136 S (lc (qg 26) ln) d136 (λg=>Xr g.1)
def Va:EO agO:=λh=>kL (F:=avO) (an:=(noTwo (noTwo (noTwo (.two (noTwo (RT.lp EY .no)) (noTwo (noTwo (noTwo (noTwo (.two (noTwo (.two (.rb [] 72) .no)) .no)))))))))) (l:=[(aW f136 0,(RT.lp EY .no)),(.skip,(.rb [] 72))]) func136 (aeo (aeI (adN (afK (TC (H7 (afT aR))))))) (az (aO RT) (az ax1 aF)) h
def GK:EP agO:=λh=>kP h
def aa9(l:aa UInt8):(ByteArray.mk (xe l)).toList=l:=by
 have key:∀(k i:Nat) (acc:aa UInt8),i+k=l.length->ByteArray.toList.loop (ByteArray.mk (xe l)) i acc=acc.reverse++l.drop i:=by
  intro k;induction k with
  |zero=>
   intro i acc h;rw[ByteArray.toList.loop];have hs:(ByteArray.mk (xe l)).size=l.length:=rfl;rw[bO (by rw[hs];omega)];rw[xY (by omega),yy]
  |succ k ih=>
   intro i acc h;rw[ByteArray.toList.loop];have hs:(ByteArray.mk (xe l)).size=l.length:=rfl;rw[bE (by rw[hs];omega),ih (i+1) _ (by omega)];have hi:i<l.length:=by omega
   rw[xu hi];have:(ByteArray.mk (xe l)).get! i=l[i]:=by
    show (xe l)[i]! =_;rw[getElem!_pos (xe l) i hi];rfl
   rw[this];simp
 have:=key l.length 0 [] (by omega);simpa [ByteArray.toList]using this
def arf(s:ByteArray):(s.toList==(ByteArray.mk (xe [])).toList)=J (s.size=0):=by
 obtain⟨⟨l⟩⟩:=s;rw[aa9,aa9];have hs:(ByteArray.mk (xe l)).size=l.length:=rfl;rw[hs];cases l with
 |nil=>rfl
 |cons a l=>simp
def ry{n i:Nat}(h:i<n):(zM n)[i]! =i:=by rw[getElem!_pos _ i (by simpa using h)];simp
def Ca(s:ByteArray):RF s=V (iO s):=by
 unfold RF;rw[arf];by_cases h0:s.size=0
 ·simp[h0,iO]
 by_cases h1:40<(s.size:Int)
 ·have h1':¬s.size<=40:=by omega
  simp[h0,h1,h1',iO]
 rw[bX h0,bX h1];dsimp only[bB];obtain⟨i,e1,hc⟩:=p6 (rnd:=Ii) (zM s.size) (λi=>⟨s,(s.size:Int),(i:Int)⟩) (λi j=>okc j (cz s j)) (λi hi=>by
  rw[xF]at hi;have hw:=fu hi (by omega);rw[ry hi];unfold Ii okc;dsimp only;simp only[zh,ze];grind) (by unfold Ii;simp)
 have e1':Ib ⟨s,(s.size:Int),0⟩=V ⟨s,(s.size:Int),(i:Int)⟩:=e1;rw[e1'];have h2:iO s=(zM s.size).all λi=>okc i (cz s i):=by
  unfold iO;rw[nH,nH];simp
 rw[h2];dsimp only;rcases hc with ⟨rfl,hc⟩|⟨hi,hc⟩
 ·rw[Fs hc];simp
 ·rw[uU hi hc];rw[xF]at hi;rw[ry hi]at hc;unfold okc at hc;simp only[zh,ze];grind
def CA(s:ByteArray):PG s=V (iO s):=by
 unfold PG;by_cases h0:s.size<1
 ·have h0':¬1<=s.size:=by omega
  have h0'':(s.size:Int)<1:=by omega
  simp[h0'',h0',iO]
 by_cases h1:40<(s.size:Int)
 ·have h1':¬s.size<=40:=by omega
  have h0'':¬(s.size:Int)<1:=by omega
  simp[h0'',h1,h1',iO]
 rw[bX (show ¬(s.size:Int)<1 by omega),bX h1];dsimp only[bB];obtain⟨i,e1,hc⟩:=p6 (rnd:=KL) (zM s.size) (λi=>⟨s,(i:Int)⟩) (λi j=>okc j (cz s j)) (λi hi=>by
  rw[xF]at hi;have hw:=fu hi (by omega);rw[ry hi];unfold KL okc;dsimp only;simp only[zh,ze];grind) (by unfold KL;simp)
 have e1':Kl ⟨s,0⟩=V ⟨s,(i:Int)⟩:=e1;rw[e1'];have h2:iO s=(zM s.size).all λi=>okc i (cz s i):=by
  unfold iO;rw[nH,nH];simp
 rw[h2];dsimp only;rcases hc with ⟨rfl,hc⟩|⟨hi,hc⟩
 ·rw[Fs hc];simp
 ·rw[uU hi hc];rw[xF]at hi;rw[ry hi]at hc;unfold okc at hc;simp only[zh,ze];grind
def B8(a b:Int):JP a b=gP a b:=by
 unfold JP gP;simp only[zh];grind
def CC(a b:Int):KF a b=gP a b:=by
 unfold KF gP;simp only[zh];grind
def Uc(l:aa aX)(hl:l.length<=1000000)(v:aX):Zq l v=V (l.any λw=>w.fName.toList==v.fName.toList):=by
 obtain⟨i,e1,hc⟩:=p6 (rnd:=K4) l (λi=>⟨l,v.fName,v.bz,v.ag,v.ah,v.eO,(l.length:Int),(i:Int)⟩) (λ_ w=> !(w.fName.toList==v.fName.toList)) (λi hi=>by
  have hw:=fu hi hl;unfold K4 YQ;dsimp only;simp only[zh,ze];grind) (by unfold K4;simp)
 have e1':KT ⟨l,v.fName,v.bz,v.ag,v.ah,v.eO,(l.length:Int),0⟩=V ⟨l,v.fName,v.bz,v.ag,v.ah,v.eO,(l.length:Int),(i:Int)⟩:=e1;unfold Zq aqG;rw[e1'];dsimp only;rcases hc with ⟨rfl,hc⟩|⟨hi,hc⟩
 ·rw[uW λj hj=>by have:=hc j hj;simpa using this];simp
 ·have hc':(l[i]!.fName.toList==v.fName.toList)=O:=by simpa using hc
  rw[DH hi hc'];unfold YQ;simp only[ze,hc',bC];simp[hi]
def GV(l:aa aX)(hl:l.length<=1000000)(n:Nat)(hn:n<=l.length)(v:aX):
  ∃i:Nat,DU ⟨l,n,0,v⟩=V ⟨l,n,(i:Int),v⟩/\((i=n/\((l.take n).any λw=>w.fName.toList==v.fName.toList)=S)\/(i<n/\(l[i]!.fName.toList==v.fName.toList)=O/\((l.take n).any λw=>w.fName.toList==v.fName.toList)=O)):=by
 have hlen:(l.take n).length=n:=by rw[zH];omega
 have hget:∀i,i<n->(l.take n)[i]! =l[i]! :=λi hi=>by
  rw[getElem!_pos _ i (by omega),getElem!_pos _ i (by omega),we]
 obtain⟨i,e1,hc⟩:=p6 (rnd:=Kt) (l.take n) (λi=>⟨l,(n:Int),(i:Int),v⟩) (λ_ w=> !(w.fName.toList==v.fName.toList)) (λi hi=>by
  rw[hlen]at hi;have hw:=fu hi (by omega);rw[hget i hi];unfold Kt;dsimp only;simp only[zh,ze];grind) (by rw[hlen];unfold Kt;simp)
 refine⟨i,e1,?_⟩;rw[hlen]at hc;rcases hc with ⟨rfl,hc⟩|⟨hi,hc⟩
 ·exact .inl ⟨rfl,uW λj hj=>by have:=hc j (by omega);simpa using this⟩
 ·have hc':((l.take n)[i]!.fName.toList==v.fName.toList)=O:=by simpa using hc
  exact .inr ⟨hi,by rw[<-hget i hi];exact hc',DH (by omega) hc'⟩
def Cw(a b:aa au):jA (a++b)=jA a+jA b:=by simp[jA]
def FB(l:aa au)(i:Nat):jA (l.take i)<=jA l:=by
 have:=Cw (l.take i) (l.drop i);rw[xw]at this;omega
def JQ(l:aa au):l.length<=jA l:=by
 induction l with
 |nil=>simp
 |cons a l ih=>rw[qI];have:=IM a;simp;omega
def aev(a b:aa ay):fO (a++b)=fO a+fO b:=by simp[fO]
def abF(l:aa ay)(i:Nat):fO (l.take i)<=fO l:=by
 have:=aev (l.take i) (l.drop i);rw[xw]at this;omega
def apn(s:ay):0<nS s:=by rw[oG];omega
def kD(l:aa ay):l.length<=fO l:=by
 induction l with
 |nil=>simp
 |cons a l ih=>rw[mV];have:=apn a;simp;omega
def DE{l:aa au}{i:Nat}(hi:i<l.length):jA (l.take i)+nT l[i]!<=jA l:=by
 have:=FB l (i+1);rw[bK hi,pK]at this;exact this
def ED{l:aa ay}{i:Nat}(hi:i<l.length):fO (l.take i)+nS l[i]!<=fO l:=by
 have:=abF l (i+1);rw[bK hi,NU]at this;exact this
def QG(l:aa au)(h:∀k∈l,dT k<=nT k):∀i,i<=l.length->OJ (l.take i)<=jA (l.take i):=by
 intro i;induction i with
 |zero=>intro _;simp[OJ,jA]
 |succ i ih=>
  intro hi;have:=ih (by omega);have h2:=h _ (bh (show i<l.length by omega));rw[bK (by omega),C5,pK];omega
def anC(t:au):dT t<=nT t:=by
 have key:∀(n:Nat) (t:au),zg t<n->dT t<=nT t:=by
  intro n;induction n with
  |zero=>intro t h;omega
  |succ n ih=>
   intro t h;have:=QG t.aq (λk hk=>ih k (by have:=au.fm hk;omega)) t.aq.length (zn _);rw[zB]at this;rw[T8,vw];omega
 exact key _ t (zJ _)
def aan(l:aa au)(i:Nat):OJ (l.take i)<=jA l:=by
 have h1:=FB l i;by_cases h:i<=l.length
 ·have:=QG l (λk _=>anC k) i h;omega
 ·have:=QG l (λk _=>anC k) l.length (zn _);rw[zB]at this;rw[List.take_of_length_le (by omega)];omega
def YO(l:aa ay):jD l<=fO l:=by
 have key:∀(n:Nat) (l:aa ay),zg l<n->jD l<=fO l:=by
  intro n;induction n with
  |zero=>intro t h;omega
  |succ n ih=>
   intro l h;cases l with
   |nil=>rw[jD];simp[fO]
   |cons s l=>
    have q1:=ih s.aM (by have:=bt (l:=s::l) (zo ..);omega);have q2:=ih s.aS (by have:=bt (l:=s::l) (zo ..);omega);have q3:=ih l (by have:=dY s l;omega);rw[jD,mV,oG];omega
 exact key _ l (zJ _)
def agA(M:au->af p7)(t:au)(hM:∀k∈t.aq,M k=V (nT k:Int))(h:nT t<=1000):ade M t=V (nT t:Int):=by
 have hN:=vw t;have hL:=JQ t.aq;obtain⟨v,e1,hv⟩:=dc (rnd:=JE M) t.aq.length (λi (b:Int)=>⟨b,(i:Int),t⟩) (λi b=>b=1+jA (t.aq.take i)) (λi b hi hb=>by
   have hs:=DE hi;refine⟨b+nT t.aq[i]!,?_,?_⟩
   ·have hk:=hM _ (bh hi);have hw:=fu hi (by omega);have hw2:i64.wrap (b+nT t.aq[i]!)=b+nT t.aq[i]! :=aG;unfold JE;dsimp only;simp only[zh,ze,au.eta,hk];grind
   ·rw[bK hi,pK];omega) (λb _=>by unfold JE;simp) (b:=1) (by simp[jA])
 have e1':IU M ⟨1,0,t⟩=V ⟨v,(t.aq.length:Int),t⟩:=e1;unfold ade;rw[au.eta,e1',hN];rw[zB]at hv;simp[hv]
def Up:∀(n:Nat) (t:au),zg t<n->nT t<=1000->O4 n t=V (nT t:Int)
 |0,_,h,_=>by omega
 |n+1,t,h,h2=>agA (O4 n) t (λk hk=>Up n k (by have:=au.fm hk;omega) (by have:=UL hk;have:=vw t;omega)) h2
def IE(t:au)(h:nT t<=1000):RW t=V (nT t:Int):=fe (zg t+1) λn hn=>Up n t (by omega) h
def agb(M:au->af qE)(t:au)(hM:∀k∈t.aq,M k=V (dT k))(h:nT t<=1000):ajB M t=V (dT t):=by
 have hN:=vw t;have hL:=JQ t.aq;obtain⟨v,e1,hv⟩:=dc (rnd:=K2 M) t.aq.length (λi (b:Int)=>⟨b,(i:Int),t⟩) (λi b=>b=OJ (t.aq.take i)) (λi b hi hb=>by
   refine⟨max b (dT t.aq[i]!),?_,?_⟩
   ·have hk:=hM _ (bh hi);have hw:=fu hi (by omega);unfold K2;dsimp only;simp only[zh,ze,au.eta,hk];grind
   ·rw[bK hi,C5,hb]) (λb _=>by unfold K2;simp) (b:=0) (by simp[OJ])
 have e1':IL M ⟨0,0,t⟩=V ⟨v,(t.aq.length:Int),t⟩:=e1;unfold ajB;rw[au.eta,e1',T8];have hd:=aan t.aq t.aq.length;have hp:=JU t.aq;rw[zB]at hv hd;subst hv;have hw2:i64.wrap (OJ t.aq+1)=OJ t.aq+1:=aG;dsimp only;rw[gh];show V (i64.wrap (OJ t.aq+1))=_;rw[hw2]
 congr 1
 omega
def TH:∀(n:Nat) (t:au),zg t<n->nT t<=1000->Pr n t=V (dT t)
 |0,_,h,_=>by omega
 |n+1,t,h,h2=>agb (Pr n) t (λk hk=>TH n k (by have:=au.fm hk;omega) (by have:=UL hk;have:=vw t;omega)) h2
def Ie(t:au)(h:nT t<=1000):NP t=V (dT t):=fe (zg t+1) λn hn=>TH n t (by omega) h
def Cm{s:ay}{l:aa ay}(h:s∈l):nS s<=fO l:=by
 induction l with
 |nil=>cases h
 |cons a l ih=>
  rw[mV];rcases zD.1 h with rfl|h
  ·omega
  ·have:=ih h;omega
def gH:aa ay->Int
 |[]=>0
 |s::l=>1+nT s.aA+gH s.aM+gH s.aS+gH l
termination_by l=>zg l
decreasing_by
 ·exact(bt (zo ..)).1
 ·exact(bt (zo ..)).2
 ·exact dY _ _
def CG(l:aa ay):0<=gH l/\gH l<=fO l:=by
 have key:∀(n:Nat) (l:aa ay),zg l<n->0<=gH l/\gH l<=fO l:=by
  intro n;induction n with
  |zero=>intro t h;omega
  |succ n ih=>
   intro l h;cases l with
   |nil=>rw[gH];simp[fO]
   |cons s l=>
    have q1:=ih s.aM (by have:=bt (l:=s::l) (zo ..);omega);have q2:=ih s.aS (by have:=bt (l:=s::l) (zo ..);omega);have q3:=ih l (by have:=dY s l;omega);rw[gH,mV,oG];omega
 exact key _ l (zJ _)
def VA(l:aa ay)(s:ay):gH (l++[s])=gH l+(1+nT s.aA+gH s.aM+gH s.aS):=by
 induction l with
 |nil=>rw[yw,show gH []=0 by rw[gH],gH,show gH []=0 by rw[gH]];omega
 |cons a l ih=>rw[xo,gH,gH,ih];omega
def ag4(M:aa ay->af qw)(l:aa ay)(hM:∀s∈l,M s.aM=V (gH s.aM)/\M s.aS=V (gH s.aS))(h:fO l<=1000):ah3 M l=V (gH l):=by
 have hL:=kD l;obtain⟨v,e1,hv⟩:=dc (rnd:=Iu M) l.length (λi (b:Int)=>⟨l,b,(i:Int)⟩) (λi b=>b=gH (l.take i)) (λi b hi hb=>by
   have hs:=ED hi;have hE:=oG l[i]!;obtain⟨k1,k4⟩:=hM _ (bh hi);have k2:=CG l[i]!.aM;have k3:=CG l[i]!.aS;have k5:=CG (l.take i);have hk:=IE l[i]!.aA (by omega);have hw:=fu hi (by omega);refine⟨b+(1+nT l[i]!.aA+gH l[i]!.aM+gH l[i]!.aS),?_,?_⟩
   ·have w1:i64.wrap (b+1)=b+1:=aG;have w2:i64.wrap (b+1+nT l[i]!.aA)=b+1+nT l[i]!.aA:=aG;have w3:i64.wrap (b+1+nT l[i]!.aA+gH l[i]!.aM)=b+1+nT l[i]!.aA+gH l[i]!.aM:=aG;have w4:i64.wrap (b+1+nT l[i]!.aA+gH l[i]!.aM+gH l[i]!.aS)=b+(1+nT l[i]!.aA+gH l[i]!.aM+gH l[i]!.aS):=by rw[aG];omega
    unfold Iu;dsimp only;simp only[zh,ze,au.eta,hk,k1,k4,w1,w2,w3,w4,hw];grind
   ·rw[bK hi,VA];omega) (λb _=>by unfold Iu;simp) (b:=0) (by simp[gH])
 have e1':KI M ⟨l,0,0⟩=V ⟨l,v,(l.length:Int)⟩:=e1;unfold ah3;rw[e1'];rw[zB]at hv;simp[hv]
def gm{s:ay}{l:aa ay}(h:s∈l):fO s.aM<=fO l/\fO s.aS<=fO l:=by
 have:=Cm h;have:=oG s;omega
def Ks:∀(n:Nat) (l:aa ay),zg l<n->fO l<=1000->OR n l=V (gH l)
 |0,_,h,_=>by omega
 |n+1,l,h,h2=>ag4 (OR n) l (λs hs=>⟨Ks n _ (by have:=bt hs;omega) (by have:=gm hs;omega),Ks n _ (by have:=bt hs;omega) (by have:=gm hs;omega)⟩) h2
def ac3(l:aa ay)(h:fO l<=1000):afk l=V (gH l):=fe (zg l+1) λn hn=>Ks n l (by omega) h
def agw(M:aa ay->af o7)(l:aa ay)(hM:∀s∈l,M s.aM=V (jD s.aM)/\M s.aS=V (jD s.aS))(h:fO l<=1000):ac7 M l=V (jD l):=by
 have hL:=kD l;obtain⟨v,e1,hv⟩:=dc (rnd:=Jw M) l.length (λi (b:Int)=>⟨l,b,(i:Int)⟩) (λi b=>b=jD (l.take i)) (λi b hi hb=>by
   obtain⟨k1,k4⟩:=hM _ (bh hi);have k2:=YO l[i]!.aM;have k3:=YO l[i]!.aS;have k5:=gm (bh hi);have k6:=qZ l[i]!.aM;have k7:=qZ l[i]!.aS;have hw:=fu hi (by omega);refine⟨max b (max (jD l[i]!.aM+1) (jD l[i]!.aS+1)),?_,?_⟩
   ·have w1:i64.wrap (jD l[i]!.aM+1)=jD l[i]!.aM+1:=aG;have w2:i64.wrap (jD l[i]!.aS+1)=jD l[i]!.aS+1:=aG;unfold Jw;dsimp only;simp only[zh,ze,k1,k4,w1,w2,hw];grind
   ·rw[bK hi,Zp];omega) (λb _=>by unfold Jw;simp) (b:=0) (by simp[jD])
 have e1':IN M ⟨l,0,0⟩=V ⟨l,v,(l.length:Int)⟩:=e1;unfold ac7;rw[e1'];rw[zB]at hv;simp[hv]
def Km:∀(n:Nat) (l:aa ay),zg l<n->fO l<=1000->RD n l=V (jD l)
 |0,_,h,_=>by omega
 |n+1,l,h,h2=>agw (RD n) l (λs hs=>⟨Km n _ (by have:=bt hs;omega) (by have:=gm hs;omega),Km n _ (by have:=bt hs;omega) (by have:=gm hs;omega)⟩) h2
def acF(l:aa ay)(h:fO l<=1000):agl l=V (jD l):=fe (zg l+1) λn hn=>Km n l (by omega) h
def Lz(s:ay):Bool:=J (12<dT s.aA)||fG s.aM||fG s.aS
def Wq(l:aa ay):fG l=l.any Lz:=by
 induction l with
 |nil=>rw[fG];rfl
 |cons s l ih=>rw[fG,ih,List.any_cons];rfl
def afF(M:aa ay->af oR)(l:aa ay)(hM:∀s∈l,M s.aM=V (fG s.aM)/\M s.aS=V (fG s.aS))(h:fO l<=1000):adS M l=V (fG l):=by
 have hL:=kD l;have hT:∀i,i<l.length->NP l[i]!.aA=V (dT l[i]!.aA):=λi hi=>Ie _ (by have:=Cm (bh hi);have:=oG l[i]!;omega);obtain⟨i,e1,hc⟩:=p6 (rnd:=H9 M) l (λi=>⟨l,(i:Int)⟩) (λ_ s=> !Lz s) (λi hi=>by
   obtain⟨k1,k4⟩:=hM _ (bh hi);have hk:=hT i hi;have hw:=fu hi (by omega);unfold H9 Lz;dsimp only;simp only[zh,ze,au.eta,hk,k1,k4,hw];cases fG l[i]!.aM<;>cases fG l[i]!.aS<;>grind) (by unfold H9;simp)
 have e1':Ik M ⟨l,0⟩=V ⟨l,(i:Int)⟩:=e1;unfold adS;rw[e1',Wq];dsimp only;rcases hc with ⟨rfl,hc⟩|⟨hi,hc⟩
 ·rw[uW λj hj=>by have:=hc j hj;simpa using this];simp
 ·have hc':Lz l[i]! =O:=by simpa using hc
  rw[DH hi hc'];obtain⟨k1,k4⟩:=hM _ (bh hi);have hk:=hT i hi;unfold Lz at hc';simp only[zh,ze,au.eta,hk,k1,k4];revert hc';cases fG l[i]!.aM<;>cases fG l[i]!.aS<;>grind
def Kb:∀(n:Nat) (l:aa ay),zg l<n->fO l<=1000->RQ n l=V (fG l)
 |0,_,h,_=>by omega
 |n+1,l,h,h2=>afF (RQ n) l (λs hs=>⟨Kb n _ (by have:=bt hs;omega) (by have:=gm hs;omega),Kb n _ (by have:=bt hs;omega) (by have:=gm hs;omega)⟩) h2
def aku(l:aa ay)(h:fO l<=1000):ah2 l=V (fG l):=fe (zg l+1) λn hn=>Kb n l (by omega) h
def e9(b:bf):Bool:=b.fE||J (1024<b.bG)
def uc(b:bf):jo b=(e9 b,b):=by
 unfold jo e9;cases b.fE<;>rfl
def dF(d:Int)(b:bf):bf:=⟨b.bG+1,b.fE||J (12<d)⟩
def tw(t:au)(d:Int)(b:bf):bf:=if e9 (dF d b)=O then dF d b else t.aq.attach.foldl (λb k=>tw k.1 (d+1) b) (dF d b)
termination_by zg t
decreasing_by exact au.fm k.2
def Ge(l:aa au)(d:Int)(b:bf):bf:=l.foldl (λb k=>tw k d b) b
def aaa(t:au)(d:Int)(b:bf):tw t d b=if e9 (dF d b)=O then dF d b else Ge t.aq (d+1) (dF d b):=by
 rw[tw,Ge];rw[show t.aq.attach.foldl (λb k=>tw k.1 (d+1) b) (dF d b)=t.aq.foldl (λb k=>tw k (d+1) b) (dF d b)from List.foldl_attach (f:=λb k=>tw k (d+1) b)]
def Hu(l:aa au)(k:au)(d:Int)(b:bf):Ge (l++[k]) d b=tw k d (Ge l d b):=by simp[Ge]
def MsP(d0:Int)(n:Int)(b r:bf):Prop:=r.fE=(b.fE||J (12<d0))/\b.bG<=r.bG/\r.bG<=b.bG+n
def JH(t:au)(d:Int)(b:bf)(h0:0<=d)(h1:0<=b.bG)(h2:b.bG+nT t<=1000):MsP (d-1+dT t) (nT t) b (tw t d b):=by
 have key:∀(n:Nat) (t:au) (d:Int) (b:bf),zg t<n->0<=d->0<=b.bG->b.bG+nT t<=1000->MsP (d-1+dT t) (nT t) b (tw t d b):=by
  intro n;induction n with
  |zero=>intro t d b h;omega
  |succ n ih=>
   intro t d b h h0 h1 h2;have hN:=vw t;have hD:=T8 t;have hd0:=JU t.aq;rw[aaa];by_cases ho:e9 (dF d b)=O
   ·rw[bE ho];unfold e9 dF at ho;unfold MsP dF;grind
   ·rw[bO ho];have hi:∀i,i<=t.aq.length->MsP (d+OJ (t.aq.take i)) (jA (t.aq.take i)) (dF d b) (Ge (t.aq.take i) (d+1) (dF d b)):=by
     intro i;induction i with
     |zero=>
      intro _;unfold e9 dF at ho;simp only[xR,Ge,List.foldl_nil,MsP,OJ,jA,yS,dF];grind
     |succ i ihi=>
      intro hi;have q:=ihi (by omega);have hs:=DE (show i<t.aq.length by omega);have hm:t.aq[i]!∈t.aq:=bh (by omega);have hp:(dF d b).bG=b.bG+1:=rfl;have q2:=ih t.aq[i]! (d+1) (Ge (t.aq.take i) (d+1) (dF d b)) (by have:=au.fm hm;omega) (by omega) (by have:=q.2.1;omega) (by have:=q.2.2;omega);rw[bK (by omega),Hu,C5,pK];unfold MsP at q q2 ⊢;obtain⟨a1,a2,a3⟩:=q;obtain⟨c1,c2,c3⟩:=q2;refine⟨?_,by omega,by omega⟩;rw[c1,a1];rw[Bool.or_assoc]
      congr 1
      rw[<-Bool.decide_or];apply decide_eq_decide.2;omega
    have q:=hi t.aq.length (zn _);rw[zB]at q;unfold MsP at q ⊢;obtain⟨a1,a2,a3⟩:=q;unfold e9 at ho;have hp:(dF d b).bG=b.bG+1:=rfl;have hp2:(dF d b).fE=(b.fE||J (12<d)):=rfl;refine⟨?_,by omega,by omega⟩;rw[a1,hD,hp2];rw[hp2]at ho;grind
 exact key _ t d b (zJ _) h0 h1 h2
def aeQ(M:au->Int->bf->af rS)(t:au)(hM:∀k∈t.aq,∀(d:Int) (b:bf),0<=d->d<=13->0<=b.bG->b.bG+nT k<=1000->M k d b=V (tw k d b))(d:Int)(b:bf)(h0:0<=d)(hd:d<=13)(h1:0<=b.bG)(h2:b.bG+nT t<=1000):ah4 M t d b=V (tw t d b):=by
 have hN:=vw t;have hL:=JQ t.aq;have hw0:i64.wrap (b.bG+1)=b.bG+1:=aG;have hw1:i64.wrap (d+1)=d+1:=aG;have hinc:∀x,(⟨b.bG+1,x⟩:bf)=dF d b↔x=(b.fE||J (12<d)):=λx=>by unfold dF;simp
 have key:e9 (dF d b)=S->d<=12/\Dm M ⟨d,t.aq,(t.aq.length:Int),0,dF d b⟩=V ⟨d,t.aq,(t.aq.length:Int),(t.aq.length:Int),Ge t.aq (d+1) (dF d b)⟩:=λho=>by
  have hd2:d<=12:=by unfold e9 dF at ho;grind
  refine⟨hd2,?_⟩;obtain⟨v,e1,hv,_⟩:=dc (rnd:=KM M) t.aq.length (λi (x:bf)=>⟨d,t.aq,(t.aq.length:Int),(i:Int),x⟩) (λi x=>x=Ge (t.aq.take i) (d+1) (dF d b)/\b.bG+1<=x.bG/\x.bG<=b.bG+1+jA (t.aq.take i)) (λi x hi hx=>by
    have hs:=DE hi;have hk:=hM _ (bh hi) (d+1) x (by omega) (by omega) (by omega) (by omega);have hp:=JH t.aq[i]! (d+1) x (by omega) (by omega) (by omega);have hw:=fu hi (by omega);refine⟨tw t.aq[i]! (d+1) x,?_,?_⟩
    ·unfold KM;dsimp only;simp only[zh,ze,au.eta,hw1,hk,hw];grind
    ·unfold MsP at hp;rw[bK hi,Hu,<-hx.1,pK];exact⟨rfl,by omega,by omega⟩) (λx _=>by unfold KM;simp) (b:=dF d b) ⟨rfl,zm _,by show b.bG+1<=_;simp[jA]⟩
  rw[zB]at hv;rw[<-hv];exact e1
 rw[aaa];unfold ah4;rw[hw0];have hm:∀x,x=(b.fE||J (12<d))->jo ⟨b.bG+1,x⟩=(e9 (dF d b),dF d b):=λx hx=>by rw[uc,(hinc x).2 hx]
 cases hb:b.fE with
 |true=>
  rw[hm O (by rw[hb];rfl)];have ho:e9 (dF d b)=O:=by unfold e9 dF;simp[hb]
  simp[ho]
 |false=>
  rw[hm (J (12<d)) (by rw[hb];rfl)];cases ho:e9 (dF d b)with
  |true=>simp
  |false=>
   obtain⟨_,e⟩:=key ho;rw[e];simp
def SQ:∀(n:Nat) (t:au) (d:Int) (b:bf),zg t<n->0<=d->d<=13->0<=b.bG->b.bG+nT t<=1000->Q9 n t d b=V (tw t d b)
 |0,_,_,_,h,_,_,_,_=>by omega
 |n+1,t,d,b,h,h0,hd,h1,h2=>aeQ (Q9 n) t (λk hk d b a1 a2 a3 a4=>SQ n k d b (by have:=au.fm hk;omega) a1 a2 a3 a4) d b h0 hd h1 h2
def Tv(t:au)(d:Int)(b:bf)(h0:0<=d)(hd:d<=13)(h1:0<=b.bG)(h2:b.bG+nT t<=1000):Gz t d b=V (tw t d b):=fe (zg t+1) λn hn=>SQ n t d b (by omega) h0 hd h1 h2
def nE(d:Int):aa ay->bf->bf
 |[],b=>b
 |s::l,b=>if e9 (dF d b)=O then dF d b else nE d l (nE (d+1) s.aS (nE (d+1) s.aM (tw s.aA 1 (dF d b))))
termination_by l=>zg l
decreasing_by
 ·exact(bt (zo ..)).1
 ·exact(bt (zo ..)).2
 ·exact dY _ _
def Pg(d:Int)(l:aa ay)(b:bf)(h0:0<=d)(hd:d<=13)(h1:0<=b.bG)(h2:b.bG+fO l<=1000):(nE d l b).fE=(b.fE||(J (12<d-1+jD l)||fG l))/\b.bG<=(nE d l b).bG/\(nE d l b).bG<=b.bG+fO l:=by
 have key:∀(n:Nat) (d:Int) (l:aa ay) (b:bf),zg l<n->0<=d->d<=13->0<=b.bG->b.bG+fO l<=1000->(nE d l b).fE=(b.fE||(J (12<d-1+jD l)||fG l))/\b.bG<=(nE d l b).bG/\(nE d l b).bG<=b.bG+fO l:=by
  intro n;induction n with
  |zero=>intro d l b h;omega
  |succ n ih=>
   intro d l b h h0 hd h1 h2;cases l with
   |nil=>
    rw[nE,jD,fG];refine⟨?_,by omega,by simp[fO]⟩;rw[gh];simp
   |cons s l=>
    have hz:=bt (l:=s::l) (zo ..);have hz2:=dY s l;have hN:=oG s;have hC:=mV s l;have p1:=qZ s.aM;have p2:=qZ s.aS;have p3:=qZ l;have p4:=apb s.aA;have hp:(dF d b).bG=b.bG+1:=rfl;have hp2:(dF d b).fE=(b.fE||J (12<d)):=rfl;rw[nE,jD,fG];by_cases ho:e9 (dF d b)=O
    ·rw[bE ho];unfold e9 dF at ho;unfold dF;dsimp only at ho ⊢;refine⟨?_,by omega,by omega⟩;grind
    ·rw[bO ho];unfold e9 at ho;rw[hp,hp2]at ho;have hb:b.fE=S:=by grind
     have hd2:d<=12:=by grind
     obtain⟨a1,a2,a3⟩:=JH s.aA 1 (dF d b) (by omega) (by omega) (by omega);obtain⟨c1,c2,c3⟩:=ih (d+1) s.aM (tw s.aA 1 (dF d b)) (by omega) (by omega) (by omega) (by omega) (by omega);obtain⟨g1,g2,g3⟩:=ih (d+1) s.aS _ (by omega) (by omega) (by omega) (xU (by omega) c2) (by omega);obtain⟨k1,k2,k3⟩:=ih d l _ (by omega) h0 hd (xU (by omega) g2) (by omega);refine⟨?_,by omega,by omega⟩;rw[k1,g1,c1,a1,hp2,hb];rw[bX (show ¬12<d by omega)];have e1:J (12<1-1+dT s.aA)=J (12<dT s.aA):=by congr 1;rw[show (1:Int)-1+dT s.aA=dT s.aA by omega]
     rw[e1];have e2:J (12<d-1+max (max (jD s.aM+1) (jD s.aS+1)) (jD l))=(J (12<d+1-1+jD s.aM)||(J (12<d+1-1+jD s.aS)||J (12<d-1+jD l))):=by
      rw[<-Bool.decide_or,<-Bool.decide_or];apply decide_eq_decide.2;omega
     rw[e2];generalize J (12<dT s.aA)=x1;generalize J (12<d+1-1+jD s.aM)=x2;generalize J (12<d+1-1+jD s.aS)=x3;generalize J (12<d-1+jD l)=x4;generalize fG s.aM=x5;generalize fG s.aS=x6;generalize fG l=x7;revert x1 x2 x3 x4 x5 x6 x7;decide
 exact key _ d l b (zJ _) h0 hd h1 h2
def BA{α:Type}[Inhabited α]{c:Nat->α->Int}:∀(l:aa α) (i:Nat),cu c l i=0->∀j,j<l.length->c (i+j) l[j]! =0
 |[],i,_,j,hj=>by simp at hj
 |x::xs,i,h,j,hj=>by
  unfold cu at h;split at h
  ·rename_i hx;cases j with
   |zero=>exact hx
   |succ j=>
    have:=BA xs (i+1) h j (by simpa using hj);rw[show i+1+j=i+(j+1)by omega]at this;simpa using this
  ·rename_i hx;exact dD h hx
def dg(vars:aa aX):Prop:=∀v∈vars,-1048576<=v.ag/\v.ag<=v.ah/\v.ah<=1048576
def Wf{vars:aa aX}{i:Nat}{v:aX}(h:lQ vars i v=0): -1048576<=v.ag/\v.ag<=v.ah/\v.ah<=1048576:=by
 unfold lQ gP at h;grind
def mU{vars:aa aX}(h:cu (lQ vars) vars 0=0):dg vars:=λv hv=>by
 obtain⟨i,hi,e⟩:=yZ hv;have:=BA _ _ h i hi;rw[getElem!_pos vars i hi,e]at this;exact Wf this
def sX(kind:Int):∀(l:aa aX) (i:Nat) (n:Int),M1 (λ_ (n:Int) (v:aX)=>if 4096<n*(v.ah-v.ag+1)then(.inr ():Int ⊕ Unit)else .inl (n*(v.ah-v.ag+1))) (λ_=>(G:af Int)) V (l.filter λv=>J (v.bz=kind)) i n=tU kind l n
 |[],i,n=>rfl
 |v::vs,i,n=>by
  unfold tU;by_cases hv:v.bz=kind
  ·rw[List.filter_cons_of_pos (by simpa using hv),bE hv];by_cases h:4096<n*(v.ah-v.ag+1)
   ·rw[bE h,nM (r:=()) (by rw[bE h])]
   ·rw[bO h,rC (by rw[bO h])];exact sX kind vs (i+1) _
  ·rw[List.filter_cons_of_neg (by simpa using hv),bO hv];exact sX kind vs i n
def Fk(kind:Int):∀(l:aa aX) (i:Nat) (n:Int),M1 (λ_ (n:Int) (v:aX)=>if v.bz=kind then(if 4096<n*(v.ah-v.ag+1)then(.inr ():Int ⊕ Unit)else .inl (n*(v.ah-v.ag+1)))else .inl n) (λ_=>(G:af Int)) V l i n=tU kind l n
 |[],i,n=>rfl
 |v::vs,i,n=>by
  unfold tU;by_cases hv:v.bz=kind
  ·rw[bE hv];by_cases h:4096<n*(v.ah-v.ag+1)
   ·rw[bE h,nM (r:=()) (by rw[bE hv,bE h])]
   ·rw[bO h,rC (b':=n*(v.ah-v.ag+1)) (by rw[bE hv,bO h])];exact Fk kind vs (i+1) _
  ·rw[bO hv,rC (b':=n) (by rw[bO hv])];exact Fk kind vs (i+1) n
def B7{v:aX}(h: -1048576<=v.ag/\v.ag<=v.ah/\v.ah<=1048576){n:Int}(h1:1<=n)(h2:n<=4096):
  1<=n*(v.ah-v.ag+1)/\i64.wrap (v.ah-v.ag)=v.ah-v.ag/\i64.wrap (v.ah-v.ag+1)=v.ah-v.ag+1/\i64.wrap (n*(v.ah-v.ag+1))=n*(v.ah-v.ag+1):=by
 have e1:0<=(n-1)*(v.ah-v.ag+1):=zF (by omega) (by omega);have e2:n*(v.ah-v.ag+1)<=4096*(v.ah-v.ag+1):=zN h2 (by omega);have e3:(n-1)*(v.ah-v.ag+1)=n*(v.ah-v.ag+1)-(v.ah-v.ag+1):=by rw[yu,z6]
 exact⟨by omega,aG,aG,aG⟩
def WM(vars:aa aX)(hv:dg vars)(hl:vars.length<=1000000)(kind:Int):tB ⟨kind,[],vars,(vars.length:Int),0⟩=V ⟨kind,vars.filter (λv=>J (v.bz=kind)),vars,(vars.length:Int),(vars.length:Int)⟩:=by
 obtain⟨v,e1,hV⟩:=dc (rnd:=DK) vars.length (λi (b:aa aX)=>⟨kind,b,vars,(vars.length:Int),(i:Int)⟩) (λi b=>b=(vars.take i).filter λv=>J (v.bz=kind)) (λi b hi hb=>by
  have hw:=fu hi hl;have hv:=hv _ (bh hi);have hb2:b.length<=i:=by rw[hb];exact zK (yh _ _) (by rw[zH];omega)
  rw[bK hi,y7,<-hb];by_cases hk:vars[i]!.bz=kind
  ·refine⟨b++[vars[i]!],?_,?_⟩
   ·have hl2:(b++[vars[i]!]).length<=1073741824:=by simp;omega
    unfold DK;dsimp only;simp only[zh,ze];grind
   ·revert hk;generalize vars[i]! =x;intro hk;simp[hk]
  ·refine⟨b,?_,?_⟩
   ·unfold DK;dsimp only;simp only[zh,ze];grind
   ·revert hk;generalize vars[i]! =x;intro hk;simp[hk]) (λb _=>by unfold DK;simp) (b:=[]) rfl
 rw[zB]at hV;rw[<-hV];exact e1
def VF(F:aa aX)(hv:dg F)(hl:F.length<=1000000):
  ∃(i:Nat) (n:Int),tG ⟨F,1,F,(F.length:Int),0⟩=V ⟨F,n,F,(F.length:Int),(i:Int)⟩/\((i=F.length/\M1 (λ_ (n:Int) (v:aX)=>if 4096<n*(v.ah-v.ag+1)then(.inr ():Int ⊕ Unit)else .inl (n*(v.ah-v.ag+1))) (λ_=>(G:af Int)) V F 0 1=V n)\/
   (i<F.length/\4096<i64.wrap (n*Gv F[i]!)/\M1 (λ_ (n:Int) (v:aX)=>if 4096<n*(v.ah-v.ag+1)then(.inr ():Int ⊕ Unit)else .inl (n*(v.ah-v.ag+1))) (λ_=>(G:af Int)) V F 0 1=G)):=by
 have hm:∀(i:Nat) (n:Int),i<F.length->1<=n->n<=4096->i64.wrap (n*Gv F[i]!)=n*(F[i]!.ah-F[i]!.ag+1):=λi n hi h1 h2=>by
  obtain⟨a,b,c,d⟩:=B7 (hv _ (bh hi)) h1 h2;unfold Gv;rw[b,c,d]
 obtain⟨i,n,e1,hI,hc⟩:=TE (rnd:=Ir) F (λi (n:Int)=>⟨F,n,F,(F.length:Int),(i:Int)⟩) (λ_ (n:Int) (v:aX)=>if 4096<n*(v.ah-v.ag+1)then(.inr ():Int ⊕ Unit)else .inl (n*(v.ah-v.ag+1))) (λ_=>(G:af Int)) V (λi n=>1<=n/\n<=4096) (λi n hi hI=>by
  have hw:=fu hi hl;have h1:=hm i n hi hI.1 hI.2;have h2:=(B7 (hv _ (bh hi)) hI.1 hI.2).1;unfold Ir;dsimp only;simp only[zh,ze,h1];grind) (λb _=>by unfold Ir;simp) (b:=1) ⟨by omega,by omega⟩
 refine⟨i,n,e1,?_⟩;rcases hc with ⟨h1,h2⟩|⟨h1,r,h2,h3⟩
 ·exact .inl ⟨h1,h2⟩
 ·refine .inr ⟨h1,?_,h3⟩;rw[hm i n h1 hI.1 hI.2];by_cases h:4096<n*(F[i]!.ah-F[i]!.ag+1)
  ·exact h
  ·rw[bO h]at h2;cases h2
def Jz(vars:aa aX)(hv:dg vars)(hl:vars.length<=1000000)(kind:Int)(hk:kind=1\/kind=2\/kind=3):YC vars kind=V (match tU kind vars 1 with|V n=>(n,0)|G=>(0,4)):=by
 have e0:=WM vars hv hl kind;obtain⟨i,n,e1,hc⟩:=VF (vars.filter λv=>J (v.bz=kind)) (λv h=>hv v (zZ.1 h).1) (zK (yh _ _) hl);rw[sX]at hc;unfold YC aos;rcases hk with rfl|rfl|rfl
 all_goals
  simp only[zh,e0,e1,Int.reduceEq,cB,gG,reduceIte];rcases hc with ⟨rfl,hc⟩|⟨hi,h2,hc⟩
  ·simp[hc]
  ·simp only[ze,h2,cB,hc];simp[hi]
def It(vars:aa aX)(hv:dg vars)(hl:vars.length<=1000000)(kind:Int):WS vars kind=V (match tU kind vars 1 with|V n=>n|G=>4097):=by
 have hm:∀(i:Nat) (n:Int),i<vars.length->1<=n->n<=4096->i64.wrap (n*i64.wrap (i64.wrap (vars[i]!.ah-vars[i]!.ag)+1))=n*(vars[i]!.ah-vars[i]!.ag+1):=λi n hi h1 h2=>by
  obtain⟨a,b,c,d⟩:=B7 (hv _ (bh hi)) h1 h2;rw[b,c,d]
 obtain⟨i,n,e1,hI,hc⟩:=TE (rnd:=JD) vars (λi (n:Int)=>⟨vars,kind,n,(i:Int)⟩) (λ_ (n:Int) (v:aX)=>if v.bz=kind then(if 4096<n*(v.ah-v.ag+1)then(.inr ():Int ⊕ Unit)else .inl (n*(v.ah-v.ag+1)))else .inl n) (λ_=>(G:af Int)) V (λi n=>1<=n/\n<=4096) (λi n hi hI=>by
  have hw:=fu hi hl;have h1:=hm i n hi hI.1 hI.2;have h2:=(B7 (hv _ (bh hi)) hI.1 hI.2).1;unfold JD;dsimp only;simp only[zh,ze,h1];grind) (λb _=>by unfold JD;simp) (b:=1) ⟨by omega,by omega⟩
 rw[Fk]at hc;have e1':JS ⟨vars,kind,1,0⟩=V ⟨vars,kind,n,(i:Int)⟩:=e1;unfold WS;rw[e1'];dsimp only;rcases hc with ⟨rfl,hc⟩|⟨hi,r,h2,hc⟩
 ·simp[hc]
 ·have h1:=hm i n hi hI.1 hI.2;simp only[zh,ze,h1,hc];grind
def CK(kind:Int):∀(l:aa aX) (n m:Int),n<=4096->tU kind l n=V m->m<=4096
 |[],n,m,h,e=>by unfold tU at e;cases e;exact h
 |v::vs,n,m,h,e=>by
  unfold tU at e;split at e
  ·split at e
   ·cases e
   ·exact CK kind vs _ m (by omega) e
  ·exact CK kind vs n m h e
def YH(vars:aa aX)(hl:vars.length<=1000000)(i:Nat)(hi:i<vars.length):(lQ vars i vars[i]! =0->Am ⟨vars,vars,(vars.length:Int),(i:Int)⟩=V (V ⟨vars,vars,(vars.length:Int),((i+1:Nat):Int)⟩))/\(lQ vars i vars[i]!≠0->Am ⟨vars,vars,(vars.length:Int),(i:Int)⟩=V G):=by
 have hw:=fu hi hl;have h1:=Ca vars[i]!.fName;have h2:=Uc (vars.take i) (by rw[zH];omega) vars[i]!;unfold Am lQ;dsimp only;simp only[zh,ze,B8,h1,h2];generalize iO vars[i]!.fName=B;generalize ((vars.take i).any λw=>w.fName.toList==vars[i]!.fName.toList)=A;generalize gP vars[i]!.ag vars[i]!.ah=C;cases A<;>cases B<;>cases C<;>simp only[bC,bB]<;>grind
def afr(vars:aa aX)(hl:vars.length<=1000000):ae7 vars=V (jy vars):=by
 obtain⟨i,e1,hc⟩:=sw (rnd:=Am) vars (λi=>⟨vars,vars,(vars.length:Int),(i:Int)⟩) (lQ vars) (λi hi=>YH vars hl i hi) (by unfold Am;simp);have e1':KZ ⟨vars,vars,(vars.length:Int),0⟩=V ⟨vars,vars,(vars.length:Int),(i:Int)⟩:=e1;unfold ae7 jy;rw[e1'];dsimp only;rcases hc with ⟨rfl,hc⟩|⟨hi,h0,hc⟩
 ·have hv:=mU hc;rw[gh,bB,bO (by rw[hc];simp)];have hr:∀k:Nat,k<3->i64.wrap ((k:Int)+1)=((k+1:Nat):Int):=λk hk=>fu hk (by decide);have k1:=Jz vars hv hl 1 (.inl rfl);have k2:=Jz vars hv hl 2 (.inr (.inl rfl));have k3:=Jz vars hv hl 3 (.inr (.inr rfl));have r1:qd ⟨vars,[1,2,3],3,0⟩=match tU 1 vars 1 with|V _=>V (V ⟨vars,[1,2,3],3,1⟩)|G=>V G:=by
   unfold qd;simp[k1];cases tU 1 vars 1 with
   |none=>simp
   |some n=>simp;exact hr 0 (by decide)
  have r2:qd ⟨vars,[1,2,3],3,1⟩=match tU 2 vars 1 with|V _=>V (V ⟨vars,[1,2,3],3,2⟩)|G=>V G:=by
   unfold qd;simp[k2];cases tU 2 vars 1 with
   |none=>simp
   |some n=>simp;exact hr 1 (by decide)
  have r3:qd ⟨vars,[1,2,3],3,2⟩=match tU 3 vars 1 with|V n=>if 256<n then V G else V (V ⟨vars,[1,2,3],3,3⟩)|G=>V G:=by
   unfold qd;simp[k3];cases tU 3 vars 1 with
   |none=>simp
   |some n=>
    by_cases h:256<n
    ·simp[h]
    ·simp[h];exact hr 2 (by decide)
  unfold Ac;cases s1:tU 1 vars 1 with
  |none=>
   rw[s1]at r1 k1;have e:qH ⟨vars,[1,2,3],3,0⟩=V ⟨vars,[1,2,3],3,0⟩:=b9 λr=>by rw[r1];simp
   rw[show ((↑(3:Int):Int))=3 from rfl,e];simp[k1]
  |some n1=>
   rw[s1]at r1 k1;cases s2:tU 2 vars 1 with
   |none=>
    rw[s2]at r2 k2;have e:qH ⟨vars,[1,2,3],3,0⟩=V ⟨vars,[1,2,3],3,1⟩:=(bM r1).trans (b9 λr=>by rw[r2];simp);rw[show ((↑(3:Int):Int))=3 from rfl,e];simp[k2]
   |some n2=>
    rw[s2]at r2 k2;cases s3:tU 3 vars 1 with
    |none=>
     rw[s3]at r3 k3;have e:qH ⟨vars,[1,2,3],3,0⟩=V ⟨vars,[1,2,3],3,2⟩:=(bM r1).trans ((bM r2).trans (b9 λr=>by rw[r3];simp));rw[show ((↑(3:Int):Int))=3 from rfl,e];simp[k3]
    |some n3=>
     rw[s3]at r3 k3;dsimp only at r3;by_cases h:256<n3
     ·rw[bE h]at r3;have e:qH ⟨vars,[1,2,3],3,0⟩=V ⟨vars,[1,2,3],3,2⟩:=(bM r1).trans ((bM r2).trans (b9 λr=>by rw[r3];simp));rw[show ((↑(3:Int):Int))=3 from rfl,e];simp[k3,h]
     ·rw[bO h]at r3;have e:qH ⟨vars,[1,2,3],3,0⟩=V ⟨vars,[1,2,3],3,3⟩:=(bM r1).trans ((bM r2).trans ((bM r3).trans (b9 λr=>by unfold qd;simp)));rw[show ((↑(3:Int):Int))=3 from rfl,e];simp[h]
 ·have h1:=Ca vars[i]!.fName;have h2:=Uc (vars.take i) (by rw[zH];omega) vars[i]!;rw[hc,bE h0];rw[nH,bC,bE ⟨by omega,by omega⟩];revert h0;unfold lQ;simp only[zh,ze,B8,h1,h2];generalize iO vars[i]!.fName=B;generalize ((vars.take i).any λw=>w.fName.toList==vars[i]!.fName.toList)=A;generalize gP vars[i]!.ag vars[i]!.ah=C;intro h0;cases A<;>cases B<;>cases C<;>simp only[bC,bB]at h0 ⊢ <;>grind
def ajI(vars:aa aX)(hl:vars.length<=1000000)(i:Nat)(hi:i<vars.length):(lQ vars i vars[i]! =0->vU ⟨vars,(i:Int)⟩=V (V ⟨vars,((i+1:Nat):Int)⟩))/\(lQ vars i vars[i]!≠0->vU ⟨vars,(i:Int)⟩=V G):=by
 have hw:=fu hi hl;have h1:=CA vars[i]!.fName;obtain⟨j,h2,h3⟩:=GV vars hl i (by omega) vars[i]!;unfold vU lQ;dsimp only;simp only[zh,ze,CC,h1,h2];generalize iO vars[i]!.fName=B;generalize ((vars.take i).any λw=>w.fName.toList==vars[i]!.fName.toList)=A at h3;generalize gP vars[i]!.ag vars[i]!.ah=C;rcases h3 with ⟨rfl,rfl⟩|⟨hj,h4,rfl⟩
 ·cases B<;>cases C<;>simp only[bC,bB]<;>grind
 ·simp only[h4];cases B<;>cases C<;>simp only[bC,bB]<;>grind
def ahd(vars:aa aX)(hl:vars.length<=1000000):adt vars=V (jy vars):=by
 obtain⟨i,e1,hc⟩:=sw (rnd:=vU) vars (λi=>⟨vars,(i:Int)⟩) (lQ vars) (λi hi=>ajI vars hl i hi) (by unfold vU;simp);have e1':Ip ⟨vars,0⟩=V ⟨vars,(i:Int)⟩:=e1;unfold adt jy;rw[e1'];dsimp only;rcases hc with ⟨rfl,hc⟩|⟨hi,h0,hc⟩
 ·have hv:=mU hc;rw[gh,bB,bO (by rw[hc];simp)];rw[It vars hv hl 1,It vars hv hl 2,It vars hv hl 3];have b1:=CK 1 vars 1;have b2:=CK 2 vars 1;unfold Ac;revert b1 b2;cases tU 1 vars 1<;>cases tU 2 vars 1<;>cases tU 3 vars 1<;>intro b1 b2<;>simp only[zh,Option.isSome_none,Option.isSome_some,Bool.and_true,Bool.and_false,wA,Bool.false_and]<;>(try have c1:=b1 _ (by omega) rfl)<;>(try have c2:=b2 _ (by omega) rfl)<;>grind
 ·have h1:=CA vars[i]!.fName;obtain⟨j,h2,h3⟩:=GV vars hl i (by omega) vars[i]!;rw[hc,bE h0];rw[nH,bC,bE ⟨by omega,by omega⟩];revert h0;unfold lQ;simp only[zh,ze,CC,h1,h2];generalize iO vars[i]!.fName=B;generalize ((vars.take i).any λw=>w.fName.toList==vars[i]!.fName.toList)=A at h3;generalize gP vars[i]!.ag vars[i]!.ah=C;intro h0;rcases h3 with ⟨rfl,rfl⟩|⟨hj,h4,rfl⟩
  ·cases B<;>cases C<;>simp only[bC,bB]at h0 ⊢ <;>grind
  ·simp only[h4];cases B<;>cases C<;>simp only[bC,bB]at h0 ⊢ <;>grind
end Go.Proofs.YtnfljbehcffmcaaGreat
end
