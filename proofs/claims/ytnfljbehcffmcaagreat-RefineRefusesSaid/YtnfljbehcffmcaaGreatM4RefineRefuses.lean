/- Merged: Ne14, Ne15, Ne16, Ne17, Ne18, Ne19, Ne20, Ne21, Ne22, Ne23, Ne24, Ne25, Ne26, Ne27, Ne28, Ne29, Ga, Pfew, Pd, Gb, Pv1, Pv3, Pv1b. -/
import Derived.Test.YtnfljbehcffmcaaGreatM3RefineRefuses
import Derived.Test.YtnfljbehcffmcaaGreatM2RefineRefuses
open Int renaming toNat_natCast → ze, le_refl → zq, toNat → zC, mul_nonneg → zF, mul_comm → zI, mul_le_mul_of_nonneg_right → zN, mul_assoc → zP, ediv_nonneg → zQ, add_mul → zR, dvd_trans → zU, one_mul → z6, ediv_le_self → ye, lt_irrefl → yo, sub_mul → yt, dvd_sub → yz, gcd → yD, mul_ediv_add_emod → yT, emod_nonneg → yU, dvd_add → yV, emod_lt_of_pos → y4, mul_add → y5, ediv_mul_le → y9, mul_le_mul → xA, dvd_zero → xB, dvd_mul_left → xC, dvd_mul_right → xD, natCast_mul → xI, zero_mul → xT, le_trans → xU, zero_dvd → xV, mul_neg → xX, ediv_mul_cancel → wv, lt_of_mul_lt_mul_right → wL, dvd_of_emod_eq_zero → wM, lt_ediv_add_one_mul_self → wW
open Nat renaming le_refl → zo, lt_succ_self → zJ, le_trans → zK, add_mul → yb, not_lt_zero → yF, mul_le_mul_right → yK, mod_lt → yP, lt_succ_iff_lt_or_eq → y8
open SizeOf renaming sizeOf → zg
open Bool renaming cond_decide → zh, and_eq_true → zi, or_eq_true → yL, true_and → wB, true → O, false → G
open Option renaming some → zA, some → V, none → S
open List renaming length_append → zl, mem_cons_self → zm, mem_singleton → zy, mem_cons → zB, take_length → zD, length_take → zH, range → zM, mem_append → zV, mem_filter → zZ, map_append → z8, map_cons → yc, drop → yd, length_filter_le → yp, nil_append → yw, append_nil → yC, map_nil → yR, getElem_map → yW, getElem_of_mem → yY, filter_append → y6, cons_append → xo, drop_eq_getElem_cons → xu, take_append_drop → xw, length_range → xF, getElem_mem → xM, take_zero → xR, drop_of_length_le → xY, getElem_take → we, attach_map_val → wz, foldl_append → wA, sizeOf_lt_of_mem → wX
open Array renaming mk → xd
open Decidable renaming decide → J
open Go.Proofs.Tryz renaming prog → w9
open Go.Proofs.Tryz
set_option linter.unusedSectionVars false
set_option linter.unusedVariables false
set_option linter.unusedSimpArgs false
set_option linter.defProp false
noncomputable section
set_option maxRecDepth 100000
namespace Go.Proofs.YtnfljbehcffmcaaGreat
open Go Go.Iv
open Go.IntKind (i64 u64)
def kJ(a:aH)(k:Nat):Int:=a.ag+(k:Int)*a.ai
def cnt(a:aH):Nat:=(ct a).toNat
def gq{a:aH}(h:NN a):ct a=(cnt a:Int):=by have:=size_pos h;unfold cnt;omega
def iE{a:aH}(h:NN a):1<=cnt a:=by have:=size_pos h;unfold cnt;omega
def ZX{a:aH}(h:NN a){k:Nat}(hk:k<cnt a):a.ag<=kJ a k/\kJ a k<=a.ah:=by
 have e:=gq h;rw[uR h]at e;have hs:=h.s0;have k0:0<=(k:Int)*a.ai:=zF (by omega) hs;unfold kJ;refine⟨by omega,?_⟩;rcases h.st with ⟨h1,h2⟩|⟨h1,h2,h3⟩
 ·rw[h2,Int.mul_zero];omega
 ·rw[Am]at e;have:(k:Int)*a.ai<=(a.ah-a.ag)/a.ai*a.ai:=zN (by omega) hs;rw[wv (wM h3)]at this;omega
def gW{a:aH}(h:NN a)(x:Int):bT a x↔∃k:Nat,k<cnt a/\x=kJ a k:=by
 constructor
 ·rintro⟨h1,h2,q,hq⟩;have e:=gq h;rw[uR h]at e;rcases h.st with ⟨k1,k2⟩|⟨k1,k2,k3⟩
  ·exact⟨0,iE h,by unfold kJ;omega⟩
  ·rw[Am]at e;rw[zI]at hq;have q0:0<=q:=Decidable.byContradiction λc=>by
    have:q*a.ai<= -1*a.ai:=zN (by omega) (by omega);omega
   have q1:q<=(a.ah-a.ag)/a.ai:=Int.le_ediv_of_mul_le (by omega) (by omega);refine⟨q.toNat,by omega,?_⟩;unfold kJ;rw[show ((q.toNat:Nat):Int)=q by omega,<-hq];omega
 ·rintro⟨k,hk,rfl⟩;obtain⟨h1,h2⟩:=ZX h hk;exact⟨h1,h2,by unfold kJ;rw[show a.ag+(k:Int)*a.ai-a.ag=(k:Int)*a.ai by omega];exact xC ..⟩
def sj{a:aH}(h:NN a){k:Nat}(hk:k<cnt a):cz (kJ a k):=Uy (.inr h) ((gW h _).mpr ⟨k,hk,rfl⟩)
def ox{a:aH}(h:NN a){k:Nat}(hk:k<cnt a):Jl a (k:Int)=kJ a k:=by
 have:=ZX h hk;have:=h.lo;have:=h.hi;have k0:0<=(k:Int)*a.ai:=zF (by omega) h.s0;unfold Jl;unfold kJ at*;rw[aG (n:=(k:Int)*a.ai),aG]
def rN(op:Int)(a b:aH)(y:Int):Prop:=∃x z,bT a x/\bT b z/\y=fK op x z
def pref(op:Int)(a b:aH)(i:Nat)(l:aa Int):Prop:=(∀y,y∈l↔∃k,k<i/\∃j,j<cnt b/\y=fK op (kJ a k) (kJ b j))/\l.length=i*cnt b/\∀y∈l,cz y
def amx(op:Int)(a b:aH)(i j:Nat)(l:aa Int):Prop:=(∀y,y∈l↔(∃k,k<i/\∃m,m<cnt b/\y=fK op (kJ a k) (kJ b m))\/∃m,m<j/\y=fK op (kJ a i) (kJ b m))/\l.length=i*cnt b+j/\∀y∈l,cz y
def UM{op:Int}{a b:aH}{i:Nat}{l:aa Int}(h:amx op a b i (cnt b) l):pref op a b (i+1) l:=by
 refine⟨λy=>(h.1 y).trans ⟨?_,?_⟩,by rw[h.2.1,yb,Nat.one_mul],h.2.2⟩
 ·rintro(⟨k,hk,m,hm,e⟩|⟨m,hm,e⟩)
  ·exact⟨k,by omega,m,hm,e⟩
  ·exact⟨i,by omega,m,hm,e⟩
 ·rintro⟨k,hk,m,hm,e⟩;rcases y8.mp hk with c|rfl
  ·exact .inl ⟨k,c,m,hm,e⟩
  ·exact .inr ⟨m,hm,e⟩
def aaV{op:Int}{a b c:aH}(ho:binop op)(ha:NN a)(hb:NN b)(hs:cnt a*cnt b<=1000000){i:Nat}(hi:i<cnt a){l:aa Int}(hl:pref op a b i l):
  (∃l',C4 (iZ.mk op l i 0 a b c)=V (iZ.mk op l' i (cnt b:Nat) a b c)/\pref op a b (i+1) l')\/
  (∃l' j,j<cnt b/\C4 (iZ.mk op l i 0 a b c)=V (iZ.mk op l' i (j:Nat) a b c)/\¬cz (fK op (kJ a i) (kJ b j))):=by
 have hcb:cnt b<=1000000:=zK (Nat.le_mul_of_pos_left _ (iE ha)) hs;have hlen:(i+1)*cnt b<=1000000:=zK (yK _ hi) hs;rw[yb,Nat.one_mul]at hlen;obtain⟨j,l',e,hI,h⟩:=oE (rnd:=DL) (cnt b) (λj (l:aa Int)=>iZ.mk op l i (j:Nat) a b c) (λj l=>amx op a b i j l) (λj l=>¬cz (fK op (kJ a i) (kJ b j)))
  (λj l hj hI=>by
   obtain⟨v,ev,hv⟩:=lT (sj ha hi) (sj hb hj) ho;unfold DL;simp only;rw[gj (.inr hb),gq hb];simp only;rw[nj,bD,ox ha hi,ox hb hj,ev];simp only;by_cases hr:cz (fK op (kJ a i) (kJ b j))
   ·left;rw[bW hr];simp only[bD,bA];rw[bG (by rw[zl,hI.2.1];simp;omega),fG hj hcb,hv hr];refine⟨_,rfl,λy=> ?_,by rw[zl,hI.2.1];simp;omega,λy hy=> ?_⟩
    ·rw[zV,zy,hI.1 y];constructor
     ·rintro((h|⟨m,hm,h⟩)|rfl)
      ·exact .inl h
      ·exact .inr ⟨m,by omega,h⟩
      ·exact .inr ⟨j,by omega,rfl⟩
     ·rintro(h|⟨m,hm,h⟩)
      ·exact .inl (.inl h)
      ·rcases y8.mp hm with c|rfl
       ·exact .inl (.inr ⟨m,c,h⟩)
       ·exact .inr h
    ·rcases zV.mp hy with hy|hy
     ·exact hI.2.2 y hy
     ·rw[zy.mp hy];exact hr
   ·right;rw[bX hr];exact⟨rfl,hr⟩)
  (λl hI=>by
   unfold DL;simp only;rw[gj (.inr hb),gq hb];simp only;rw[gd];rfl) (b:=l) ⟨λy=>(hl.1 y).trans ⟨.inl,λh=>h.elim id λ⟨m,hm,_⟩=>dF hm (yF _)⟩,by rw[hl.2.1];rfl,hl.2.2⟩
 have e:bK DL (iZ.mk op l i 0 a b c)=V (iZ.mk op l' i (j:Nat) a b c):=e;rcases h with rfl|⟨hj,h⟩
 ·exact .inl ⟨l',e,UM hI⟩
 ·exact .inr ⟨l',j,hj,e,h⟩
def BJ{op:Int}{a b:aH}(ho:binop op)(ha:NN a)(hb:NN b)(hs:cnt a*cnt b<=1000000):
  ((∀y,rN op a b y->cz y)/\∃c,Wb op a b=V (c,0)/\dz (rN op a b) c)\/((¬∀y,rN op a b y->cz y)/\Wb op a b=V (aH.mk 0 0 0,3)):=by
 have hca:cnt a<=1000000:=zK (Nat.le_mul_of_pos_right _ (iE hb)) hs;unfold Wb;obtain⟨i,l,e,hI,h⟩:=oE (rnd:=vR) (cnt a) (λi (l:aa Int)=>sk.mk op l (i:Nat) a b (aH.mk 0 0 0)) (λi l=>pref op a b i l) (λi l=>∃l' j,j<cnt b/\C4 (iZ.mk op l i 0 a b (aH.mk 0 0 0))=V (iZ.mk op l' i (j:Nat) a b (aH.mk 0 0 0))/\¬cz (fK op (kJ a i) (kJ b j)))
  (λi l hi hI=>by
   unfold vR;simp only;rw[gj (.inr ha),gq ha];simp only;rw[nj,bD];rcases aaV (c:=aH.mk 0 0 0) ho ha hb hs hi hI with ⟨l',e,h⟩|⟨l',j,hj,e,h⟩
   ·left;rw[e];simp only;rw[gj (.inr hb),gq hb];simp only;rw[gd,bA,fG hi hca];exact⟨l',rfl,h⟩
   ·right;refine⟨?_,l',j,hj,e,h⟩;rw[e];simp only;rw[gj (.inr hb),gq hb];simp only;obtain⟨v,ev,hv⟩:=lT (sj ha hi) (sj hb hj) ho;rw[nj,bD,ox ha hi,ox hb hj,ev];simp only;rw[bX h];rfl)
  (λl hI=>by
   unfold vR;simp only;rw[gj (.inr ha),gq ha];simp only;rw[gd];rfl) (b:=[]) ⟨λy=>⟨λh=>dF h (by simp),λ⟨k,hk,_⟩=>dF hk (yF _)⟩,by simp,λy hy=>dF hy (by simp)⟩
 have e:bK vR (sk.mk op [] 0 a b (aH.mk 0 0 0))=V (sk.mk op l (i:Nat) a b (aH.mk 0 0 0)):=e;rw[show abw=bK vR from rfl,e];simp only;rw[gj (.inr ha),gq ha];simp only;rcases h with rfl|⟨hi,l',j,hj,e1,h⟩
 ·left;have mem:∀y,y∈l↔rN op a b y:=λy=>(hI.1 y).trans ⟨λ⟨k,hk,m,hm,e⟩=>⟨_,_,(gW ha _).mpr ⟨k,hk,rfl⟩,(gW hb _).mpr ⟨m,hm,rfl⟩,e⟩,λ⟨x,z,hx,hz,e⟩=>by
   obtain⟨k,hk,rfl⟩:=(gW ha _).mp hx;obtain⟨m,hm,rfl⟩:=(gW hb _).mp hz;exact⟨k,hk,m,hm,e⟩⟩
  rw[gd,bA];have hne:l≠[]:=λe=>by
   have:=hI.2.1;rw[e]at this;have:=Nat.mul_pos (iE ha) (iE hb);simp at*;omega
  obtain⟨c,e2,hc⟩:=HD hne (by rw[hI.2.1];exact hs) hI.2.2;rw[e2];exact⟨λy hy=>hI.2.2 y ((mem y).mpr hy),c,rfl,hc.congr mem⟩
 ·right;refine⟨λk=>h (k _ ⟨_,_,(gW ha _).mpr ⟨i,hi,rfl⟩,(gW hb _).mpr ⟨j,hj,rfl⟩,rfl⟩),?_⟩;rw[nj,bD,e1];simp only;rw[gj (.inr hb),gq hb];simp only;obtain⟨v,ev,hv⟩:=lT (sj ha hi) (sj hb hj) ho;rw[nj,bD,ox ha hi,ox hb hj,ev];simp only;rw[bX h];rfl
def Ts{a:aH}(h:NN a)(hs:cnt a<=1000000):V0 a=V ((zM (cnt a)).map (kJ a)):=by
 unfold V0;rw[kB (.inr h),gq h];simp only;have e:bK tB (mg.mk [] (cnt a:Nat) 0 a)=V (mg.mk ((zM (cnt a)).map (kJ a)) (cnt a:Nat) (cnt a:Nat) a):=by
  obtain⟨l,e,hl⟩:=cZ (rnd:=tB) (cnt a) (λi (l:aa Int)=>mg.mk l (cnt a:Nat) (i:Nat) a) (λi l=>l=(zM i).map (kJ a))
   (λi l hi hl=>by
    subst hl;unfold tB;simp only;have:=ox h hi;unfold Jl at this;rw[nj,bD,this,bG (by simp;omega),fG hi hs];exact⟨_,rfl,by rw[List.range_succ,z8];rfl⟩)
   (λl hl=>by
    unfold tB;simp only;rw[gd];rfl) (b:=[]) rfl
  have e:bK tB (mg.mk [] (cnt a:Nat) 0 a)=V (mg.mk l (cnt a:Nat) (cnt a:Nat) a):=e;rw[e,hl]
 rw[show IV=bK tB from rfl,e];simp only;rw[gd];rfl
def qc(a:aH):((zM (cnt a)).map (kJ a)).length=cnt a:=by simp
def Nu(a:aH){k:Nat}(h:k<cnt a):((zM (cnt a)).map (kJ a))[k]! =kJ a k:=by
 rw[getElem!_pos _ k (by rw[qc];exact h),yW,List.getElem_range]
def Mp(op:Int):Prop:=op=11\/op=12\/op=21\/op=22
def RN{op x y:Int}(hx:cz x)(hy:cz y)(ho:Mp op):cz (fK op x y):=by
 rcases ho with rfl|rfl|rfl|rfl
 ·exact(Ol hx).1
 ·show cz (if y=0 then 0 else x-y*nv x y);by_cases h0:y=0
  ·rw[bG h0];exact⟨by omega,by omega⟩
  ·rw[bP h0];exact(PO hy h0).1
 ·show cz (min x y);obtain⟨h1,h2⟩:=hx;obtain⟨h3,h4⟩:=hy;exact⟨by omega,by omega⟩
 ·show cz (max x y);obtain⟨h1,h2⟩:=hx;obtain⟨h3,h4⟩:=hy;exact⟨by omega,by omega⟩
def WH(op:Int)(a b:aH)(i j:Nat)(y:Int):Prop:=(∃k,k<i/\∃m,m<cnt b/\y=fK op (kJ a k) (kJ b m))\/∃m,m<j/\y=fK op (kJ a i) (kJ b m)
def Zn{op:Int}{a b c:aH}(ho:Mp op)(ha:NN a)(hb:NN b)(hs:cnt b<=1000000){i:Nat}(hi:i<cnt a){o:aH}{l:aa Int}{n t:Int}(hr:l9 (WH op a b i 0) o)(hv:NV o):
  ∃o',CN (nG.mk op (kJ a i) l n t ((zM (cnt b)).map (kJ b)) (cnt b:Nat) 0 b c o)=V (nG.mk op (kJ a i) l n t ((zM (cnt b)).map (kJ b)) (cnt b:Nat) (cnt b:Nat) b c o')/\l9 (WH op a b (i+1) 0) o'/\NV o':=by
 obtain⟨o',e,hI,hv'⟩:=cZ (rnd:=HI) (cnt b) (λj (o:aH)=>nG.mk op (kJ a i) l n t ((zM (cnt b)).map (kJ b)) (cnt b:Nat) (j:Nat) b c o) (λj o=>l9 (WH op a b i j) o/\NV o)
  (λj o hj hI=>by
   have hR:=RN (sj ha hi) (sj hb hj) ho;unfold HI;simp only;rw[nj,bD,qc,ig,ze,bG ⟨trivial,hj⟩,Nu b hj,adN (sj ha hi) (sj hb hj) ho];simp only;rw[iD hI.2 (.inr (show NN (gL (fK op (kJ a i) (kJ b j)))from NN.one hR.1 hR.2)),fG hj hs];refine⟨_,rfl,(hI.1.join (HO _) hI.2 (pq hR)).congr λy=> ?_,eO hI.2 (pq hR)⟩;constructor
   ·rintro((h|⟨m,hm,h⟩)|rfl)
    ·exact .inl h
    ·exact .inr ⟨m,by omega,h⟩
    ·exact .inr ⟨j,by omega,rfl⟩
   ·rintro(h|⟨m,hm,h⟩)
    ·exact .inl (.inl h)
    ·rcases y8.mp hm with c|rfl
     ·exact .inl (.inr ⟨m,c,h⟩)
     ·exact .inr h)
  (λo hI=>by
   unfold HI;simp only;rw[gd];rfl) (b:=o) ⟨hr,hv⟩
 refine⟨o',e,hI.congr λy=> ?_,hv'⟩;constructor
 ·rintro(⟨k,hk,h⟩|⟨m,hm,h⟩)
  ·exact .inl ⟨k,by omega,h⟩
  ·exact .inl ⟨i,by omega,m,hm,h⟩
 ·rintro(⟨k,hk,h⟩|⟨m,hm,_⟩)
  ·rcases y8.mp hk with c|rfl
   ·exact .inl ⟨k,c,h⟩
   ·obtain⟨m,hm,h⟩:=h;exact .inr ⟨m,hm,h⟩
  ·exact dF hm (yF _)
def Og{op:Int}{a b:aH}(ho:Mp op)(ha:NN a)(hb:NN b)(hs:cnt a*cnt b<=4096):∃c,tL op a b=V c/\dz (rN op a b) c:=by
 have hca:cnt a<=4096:=zK (Nat.le_mul_of_pos_right _ (iE hb)) hs;have hcb:cnt b<=4096:=zK (Nat.le_mul_of_pos_left _ (iE ha)) hs;unfold tL;rw[kB (.inr ha),kB (.inr hb),gq ha,gq hb];simp only;have hp:((cnt a:Nat):Int)*((cnt b:Nat):Int)<=4096:=by rw[<-xI];omega
 have hp0:0<=((cnt a:Nat):Int)*((cnt b:Nat):Int):=by rw[<-xI];omega
 rw[bX (show ¬(4096:Int)<((cnt a:Nat):Int)by omega),bX (show ¬(4096:Int)<((cnt b:Nat):Int)by omega),bA,bA,aG,gd,bA,Ts ha (by omega)];simp only;rw[qc];obtain⟨o,e,hI,hv⟩:=cZ (rnd:=A4) (cnt a) (λi (o:aH)=>pR.mk op ((zM (cnt a)).map (kJ a)) (cnt a:Nat) (i:Nat) b (aH.mk 0 0 0) o) (λi o=>l9 (WH op a b i 0) o/\NV o)
  (λi o hi hI=>by
   unfold A4;simp only;rw[nj,bD,qc,ig,ze,bG ⟨trivial,hi⟩,Nu a hi,Ts hb (by omega)];simp only;rw[qc];obtain⟨o',e,h1,h2⟩:=Zn (c:=aH.mk 0 0 0) (l:=(zM (cnt a)).map (kJ a)) (n:=(cnt a:Nat)) (t:=(i:Nat)) ho ha hb (by omega) hi hI.1 hI.2;rw[e];simp only;rw[gd,bA,fG hi (by omega)];exact⟨o',rfl,h1,h2⟩)
  (λo hI=>by
   unfold A4;simp only;rw[gd];rfl) (b:=cG) ⟨.none λy h=>by
    rcases h with ⟨k,hk,_⟩|⟨m,hm,_⟩
    ·exact dF hk (yF _)
    ·exact dF hm (yF _), .inl rfl⟩
 have e:bK A4 (pR.mk op ((zM (cnt a)).map (kJ a)) (cnt a:Nat) 0 b (aH.mk 0 0 0) iJ)=V (pR.mk op ((zM (cnt a)).map (kJ a)) (cnt a:Nat) (cnt a:Nat) b (aH.mk 0 0 0) o):=e;rw[show JE=bK A4 from rfl,e];simp only;rw[gd,bA];refine⟨o,rfl,?_⟩;have mem:∀y,WH op a b (cnt a) 0 y↔rN op a b y:=λy=>⟨λh=>by
  rcases h with ⟨k,hk,m,hm,e⟩|⟨m,hm,_⟩
  ·exact⟨_,_,(gW ha _).mpr ⟨k,hk,rfl⟩,(gW hb _).mpr ⟨m,hm,rfl⟩,e⟩
  ·exact dF hm (yF _),λ⟨x,z,hx,hz,e⟩=>by
  obtain⟨k,hk,rfl⟩:=(gW ha _).mp hx;obtain⟨m,hm,rfl⟩:=(gW hb _).mp hz;exact .inl ⟨k,hk,m,hm,e⟩⟩
 rcases hI.congr mem with ⟨_,k⟩|k
 ·exact dF ⟨_,_,(gW ha _).mpr ⟨0,iE ha,rfl⟩,(gW hb _).mpr ⟨0,iE hb,rfl⟩,rfl⟩ (k (fK op (kJ a 0) (kJ b 0)))
 ·exact k
def ZH{op:Int}{a b:aH}(ha:NN a)(hb:NN b)(hs:¬cnt a*cnt b<=4096):tL op a b=Wd op a b:=by
 have idm:∀r:af aH,(match r with|none=>none|some r8=>some r8)=r:=λr=>by cases r<;>rfl
 unfold tL;rw[kB (.inr ha),kB (.inr hb),gq ha,gq hb];simp only;by_cases c1:(4096:Int)<((cnt a:Nat):Int)
 ·rw[bW c1,bD];exact idm _
 ·rw[bX c1,bA];by_cases c2:(4096:Int)<((cnt b:Nat):Int)
  ·rw[bW c2,bD];exact idm _
  ·have hb':((cnt a:Nat):Int)*((cnt b:Nat):Int)<=4096*4096:=xA (by omega) (by omega) (by omega) (by omega);have hp:(4096:Int)<((cnt a:Nat):Int)*((cnt b:Nat):Int):=by rw[<-xI];omega
   rw[bX c2,bA,aG,bW hp,bD];exact idm _
instance (op:Int):Decidable (binop op):=inferInstanceAs (Decidable (_/\_))
def idm{α:Type}(r:af α):(match r with|none=>none|some x=>some x)=r:=by cases r<;>rfl
def jK(op:Int):BC op=J (binop op):=by
 unfold BC;by_cases h:binop op
 ·obtain⟨o1,o2⟩:=h;have cases15:op=8\/op=9\/op=10\/op=11\/op=12\/op=13\/op=14\/op=15\/op=16\/op=17\/op=18\/op=19\/op=20\/op=21\/op=22:=by omega
  rcases cases15 with rfl|rfl|rfl|rfl|rfl|rfl|rfl|rfl|rfl|rfl|rfl|rfl|rfl|rfl|rfl<;>rfl
 ·have k:∀n:Int,8<=n->n<=22->¬op=n:=λn h1 h2 e=>h (by unfold binop;omega);rw[show J (binop op)=G from bX h];rw[bX (k 8 (by decide) (by decide)),bX (k 9 (by decide) (by decide)),bX (k 10 (by decide) (by decide)),bX (k 11 (by decide) (by decide)),bX (k 12 (by decide) (by decide)),
   bX (k 13 (by decide) (by decide)),bX (k 14 (by decide) (by decide)),bX (k 15 (by decide) (by decide)),bX (k 16 (by decide) (by decide)),bX (k 17 (by decide) (by decide)),
   bX (k 18 (by decide) (by decide)),bX (k 19 (by decide) (by decide)),bX (k 20 (by decide) (by decide)),bX (k 21 (by decide) (by decide)),bX (k 22 (by decide) (by decide))]
  rfl
def GJ{a b:aH}(hb:NN b):((cnt a:Nat):Int)<=(4096:Int)/((cnt b:Nat):Int)↔cnt a*cnt b<=4096:=by
 have:=iE hb;rw[Int.le_ediv_iff_mul_le (by omega),<-xI];omega
def nZ{op:Int}{a b:aH}(ho:binop op)(ha:NN a)(hb:NN b)(hs:cnt a*cnt b<=4096):oL op a b=Wb op a b:=by
 have:=iE hb;unfold oL;rw[gp,gp,dY (.inr ha),dY (.inr hb),show Px op=BC op from rfl,jK,bW ho];simp only[bD,bA];rw[iA ha,iA hb,gj (.inr ha),gj (.inr hb),gq ha,gq hb];simp only[bA];have q0:0<=(4096:Int)/((cnt b:Nat):Int):=zQ (by omega) (by omega);have q1:(4096:Int)/((cnt b:Nat):Int)<=4096:=ye _ (by omega);rw[bG (show ¬@Eq Int ((cnt b:Nat):Int) 0 by omega),jU,aG,bW ((GJ hb).mpr hs),bD];cases Wb op a b<;>rfl
def Va(a0:Int)(a1 a2:aH):af (aH×Int):=
 bif J (a0=8)then vB a0 a1 a2 else bif J (a0=9)then vB a0 a1 a2 else bif J (a0=10)then vB a0 a1 a2 else bif J (a0=11)then
  (bif(J (0<=a1.ag)&&J (0<=a2.ag))then iX 0 (max a1.ag.natAbs a1.ah.natAbs:Nat) 1 else iX (-((max a1.ag.natAbs a1.ah.natAbs:Nat):Int)) (max a1.ag.natAbs a1.ah.natAbs:Nat) 1)
 else bif J (a0=12)then iX (if a2.ag<0 then a2.ag+1 else 0) (if 0<a2.ah then a2.ah-1 else 0) 1
 else bif J (a0=21)then(match m41 (cS a1 a2) (min a1.ah a2.ah)with|S=>S|V c=>V (c,0))
 else bif J (a0=22)then(match m42 (cS a1 a2) (max a1.ag a2.ag-1)with|S=>S|V c=>V (c,0))
 else(match BB a0 a1 a2 with|S=>S|V c=>V (c,0))
def vp{op:Int}{a b:aH}(ho:binop op)(ha:NN a)(hb:NN b)(hs:¬cnt a*cnt b<=4096):oL op a b=Va op a b:=by
 have:=iE hb;have r1:=ha.ri;have r2:=ha.Bl;have r3:=hb.ri;have r4:=hb.Bl;obtain⟨a1,a2⟩:=r1;obtain⟨a3,a4⟩:=r2;obtain⟨b1,b2⟩:=r3;obtain⟨b3,b4⟩:=r4;unfold oL Va;rw[gp,gp,dY (.inr ha),dY (.inr hb),show Px op=BC op from rfl,jK,bW ho];simp only[bD,bA];rw[iA ha,iA hb,gj (.inr ha),gj (.inr hb),gq ha,gq hb];simp only[bA];have q0:0<=(4096:Int)/((cnt b:Nat):Int):=zQ (by omega) (by omega);have q1:(4096:Int)/((cnt b:Nat):Int)<=4096:=ye _ (by omega);rw[bG (show ¬@Eq Int ((cnt b:Nat):Int) 0 by omega),jU,aG (n:=(4096:Int)/((cnt b:Nat):Int)),bX (λk=>hs ((GJ hb).mp k)),bA];have cases15:op=8\/op=9\/op=10\/op=11\/op=12\/op=13\/op=14\/op=15\/op=16\/op=17\/op=18\/op=19\/op=20\/op=21\/op=22:=by
  obtain⟨o1,o2⟩:=ho;omega
 have ez:(bif J (0<=a.ag)then some (J (0<=b.ag))else some false)=some (J (0<=a.ag)&&J (0<=b.ag)):=by cases J (0<=a.ag)<;>rfl
 rcases cases15 with rfl|rfl|rfl|rfl|rfl|rfl|rfl|rfl|rfl|rfl|rfl|rfl|rfl|rfl|rfl
 all_goals simp only[Int.reduceEq,eR,cR,bA,bD]
 ·cases vB 8 a b<;>rfl
 ·cases vB 9 a b<;>rfl
 ·cases vB 10 a b<;>rfl
 ·rw[u7 ha.ri,u7 ha.Bl,ez];simp only;by_cases c:((a.ag.natAbs:Nat):Int)<((a.ah.natAbs:Nat):Int)
  ·rw[bW c,bD,aG,Int.zero_sub,Nat.max_eq_right (by omega)];cases (J (0<=a.ag)&&J (0<=b.ag))with
   |true=>(simp only[bD,bA];generalize iX _ _ _=z;cases z<;>rfl)
   |false=>(simp only[bD,bA];generalize iX _ _ _=z;cases z<;>rfl)
  ·rw[bX c,bA,aG,Int.zero_sub,Nat.max_eq_left (by omega)];cases (J (0<=a.ag)&&J (0<=b.ag))with
   |true=>(simp only[bD,bA];generalize iX _ _ _=z;cases z<;>rfl)
   |false=>(simp only[bD,bA];generalize iX _ _ _=z;cases z<;>rfl)
 ·rw[aG (n:=b.ag+1),aG (n:=b.ah-1)];by_cases c:b.ag<0<;>by_cases d:0<b.ah
  ·rw[bW c,bW d,bG c,bG d];(simp only[bD,bA];generalize iX _ _ _=z;cases z<;>rfl)
  ·rw[bW c,bX d,bG c,bP d];(simp only[bD,bA];generalize iX _ _ _=z;cases z<;>rfl)
  ·rw[bX c,bW d,bP c,bG d];(simp only[bD,bA];generalize iX _ _ _=z;cases z<;>rfl)
  ·rw[bX c,bX d,bP c,bP d];(simp only[bD,bA];generalize iX _ _ _=z;cases z<;>rfl)
 ·cases BB 13 a b<;>rfl
 ·cases BB 14 a b<;>rfl
 ·cases BB 15 a b<;>rfl
 ·cases BB 16 a b<;>rfl
 ·cases BB 17 a b<;>rfl
 ·cases BB 18 a b<;>rfl
 ·cases BB 19 a b<;>rfl
 ·cases BB 20 a b<;>rfl
 ·obtain⟨v,ev,hv⟩:=lT (op:=21) ha.Bl hb.Bl ⟨by decide,by decide⟩;have hv:v=min a.ah b.ah:=hv (RN ha.Bl hb.Bl (.inr (.inr (.inl rfl))));rw[ev,lZ (.inr ha) (.inr hb)];simp only;rw[hv];cases m41 (cS a b) (min a.ah b.ah)<;>rfl
 ·obtain⟨v,ev,hv⟩:=lT (op:=22) ha.ri hb.ri ⟨by decide,by decide⟩;have hv:v=max a.ag b.ag:=hv (RN ha.ri hb.ri (.inr (.inr (.inr rfl))));rw[ev,lZ (.inr ha) (.inr hb)];simp only;rw[hv,aG];cases m42 (cS a b) (max a.ag b.ag-1)<;>rfl
def YL{op:Int}{a b:aH}(ho:Mp op)(ha:NN a)(hb:NN b):∃c,tL op a b=V c/\oL op a b=V (c,0)/\NV c:=by
 have hbin:binop op:=by unfold binop;rcases ho with rfl|rfl|rfl|rfl<;>decide
 have r1:=ha.ri;have r2:=ha.Bl;have r3:=hb.ri;have r4:=hb.Bl;by_cases hs:cnt a*cnt b<=4096
 ·obtain⟨c,e1,h1⟩:=Og ho ha hb hs;have hR:∀y,rN op a b y->cz y:=λy ⟨x,z,hx,hz,e⟩=>by rw[e];exact RN (Uy (.inr ha) hx) (Uy (.inr hb) hz) ho
  rw[nZ hbin ha hb hs];rcases BJ hbin ha hb (by omega)with ⟨_,d,e2,h2⟩|⟨k,_⟩
  ·rw[h2.uniq h1]at e2;exact⟨c,e1,e2, .inr (h1.valid hR)⟩
  ·exact dF hR k
 ·rw[ZH ha hb hs,vp hbin ha hb hs];obtain⟨a1,a2⟩:=r1;obtain⟨a3,a4⟩:=r2;obtain⟨b1,b2⟩:=r3;obtain⟨b3,b4⟩:=r4;unfold Wd Va;rcases ho with rfl|rfl|rfl|rfl
  all_goals simp only[Int.reduceEq,eR,cR,bA,bD]
  ·rw[mJ ha.ri,mJ ha.Bl];have em:(if((a.ag.natAbs:Nat):Int)<((a.ah.natAbs:Nat):Int)then((a.ah.natAbs:Nat):Int)else((a.ag.natAbs:Nat):Int))=((max a.ag.natAbs a.ah.natAbs:Nat):Int):=by split<;>omega
   rw[em];have ez:(bif J (0<=a.ag)then some (J (0<=b.ag))else some false)=some (J (0<=a.ag)&&J (0<=b.ag)):=by cases J (0<=a.ag)<;>rfl
   rw[ez];simp only;have hm:((max a.ag.natAbs a.ah.natAbs:Nat):Int)<=1099511627776:=by omega
   generalize max a.ag.natAbs a.ah.natAbs=m at*;rw[aG,Int.zero_sub,nY (by omega) (by omega) (by omega),nY (by omega) (by omega) (by omega),lX ⟨by omega,by omega⟩ ⟨by omega,by omega⟩ (by omega),lX ⟨by omega,by omega⟩ ⟨by omega,by omega⟩ (by omega)];cases (J (0<=a.ag)&&J (0<=b.ag))with
   |true=>exact⟨_,rfl,rfl, .inr (lU (by omega) (by omega) (by omega) (by omega))⟩
   |false=>exact⟨_,rfl,rfl, .inr (lU (by omega) (by omega) (by omega) (by omega))⟩
  ·rw[aG (n:=b.ag+1),aG (n:=b.ah-1)];rw[show (if 0<b.ag+1 then 0 else b.ag+1)=(if b.ag<0 then b.ag+1 else 0)by split<;>split<;>omega,show (if b.ah-1<0 then 0 else b.ah-1)=(if 0<b.ah then b.ah-1 else 0)by split<;>split<;>omega];have hp:(if b.ag<0 then b.ag+1 else 0)<=0/\ -1099511627776<=(if b.ag<0 then b.ag+1 else 0):=by split<;>omega
   have hq:0<=(if 0<b.ah then b.ah-1 else 0)/\(if 0<b.ah then b.ah-1 else 0)<=1099511627776:=by split<;>omega
   generalize (if b.ag<0 then b.ag+1 else 0)=p at*;generalize (if 0<b.ah then b.ah-1 else 0)=q at*;rw[nY (by omega) (by omega) (by omega),lX ⟨by omega,by omega⟩ ⟨by omega,by omega⟩ (by omega)];exact⟨_,rfl,rfl, .inr (lU (by omega) (by omega) (by omega) (by omega))⟩
  ·rw[iD (.inr ha) (.inr hb)];simp only;rw[show (if b.ah<a.ah then b.ah else a.ah)=min a.ah b.ah by split<;>omega];have vj:=eO (.inr ha) (.inr hb);obtain⟨l,u,e1,h1,_⟩:=uo vj (min a.ah b.ah);obtain⟨l',e2,h2⟩:=HU vj (min a.ah b.ah);rw[e1,e2,h2.rep.uniq h1.rep];exact⟨l,rfl,rfl,h1.1⟩
  ·rw[iD (.inr ha) (.inr hb)];simp only;rw[show (if a.ag<b.ag then b.ag else a.ag)=max a.ag b.ag by split<;>omega,aG];have vj:=eO (.inr ha) (.inr hb);obtain⟨l,u,e1,_,h1⟩:=uo vj (max a.ag b.ag-1);obtain⟨u',e2,h2⟩:=As vj (max a.ag b.ag-1);rw[e1,e2,h2.rep.uniq h1.rep];exact⟨u,rfl,rfl,h1.1⟩
def ssc(a b c:Int):a-c-(b-c)=a-b:=by omega
def di{a:aH}(h:NN a):bT a a.ag:=⟨zq _,h.le,⟨0,by omega⟩⟩
def gu{a:aH}(h:NN a):bT a a.ah:=⟨h.le,zq _,h.dvd⟩
def Sw{a:aH}(h:NN a):bT a (a.ag+a.ai):=⟨by have:=h.s0;omega,by have:=h.sle;omega,⟨1,by omega⟩⟩
def MO(a:aH)(x:Int):Prop:=x=a.ag\/x=a.ag+a.ai\/x=a.ah
def qh{a:aH}(h:NN a){x:Int}(hx:MO a x):bT a x:=by
 rcases hx with rfl|rfl|rfl
 ·exact di h
 ·exact Sw h
 ·exact gu h
structure Mid (op:Int) (a b:aH) (Q:Int->Prop):Prop where
 c:∀x z,MO a x->MO b z->Q (fK op x z)
 v:∀y,Q y->rN op a b y
def Ep(op:Int)(a b:aH)(y:Int):Prop:=∃x z,MO a x/\MO b z/\y=fK op x z
def alA{op:Int}{a b:aH}(ha:NN a)(hb:NN b):Mid op a b (rN op a b):=⟨λx z hx hz=>⟨x,z,qh ha hx,qh hb hz,rfl⟩,λ_ h=>h⟩
def akv{op:Int}{a b:aH}(ha:NN a)(hb:NN b):Mid op a b (Ep op a b):=⟨λx z hx hz=>⟨x,z,hx,hz,rfl⟩,λ_ ⟨x,z,hx,hz,e⟩=>⟨x,z,qh ha hx,qh hb hz,e⟩⟩
def Nc{a b:aH}(ha:NN a)(hb:NN b){Q:Int->Prop}(h:Mid 8 a b Q):dz Q (aH.mk (a.ag+b.ag) (a.ah+b.ah) (cn a.ai b.ai)):=by
 refine⟨h.c a.ag b.ag (.inl rfl) (.inl rfl),h.c a.ah b.ah (.inr (.inr rfl)) (.inr (.inr rfl)),λy hy=> ?_,lu _ _,λd hd=>jf ?_ ?_⟩
 ·obtain⟨x,z,⟨x1,x2,x3⟩,⟨z1,z2,z3⟩,rfl⟩:=h.v y hy;show a.ag+b.ag<=x+z/\x+z<=a.ah+b.ah/\cn a.ai b.ai∣x+z-(a.ag+b.ag);refine⟨by omega,by omega,?_⟩;have:=yV (zU (jZ a.ai b.ai) x3) (zU (oZ a.ai b.ai) z3)
  rwa [show x-a.ag+(z-b.ag)=x+z-(a.ag+b.ag)by omega]at this
 ·have:=hd _ (h.c (a.ag+a.ai) b.ag (.inr (.inl rfl)) (.inl rfl));have this:d∣a.ag+a.ai+b.ag-(a.ag+b.ag):=this
  rwa [show a.ag+a.ai+b.ag-(a.ag+b.ag)=a.ai by omega]at this
 ·have:=hd _ (h.c a.ag (b.ag+b.ai) (.inl rfl) (.inr (.inl rfl)));have this:d∣a.ag+(b.ag+b.ai)-(a.ag+b.ag):=this
  rwa [show a.ag+(b.ag+b.ai)-(a.ag+b.ag)=b.ai by omega]at this
def KL{a b:aH}(ha:NN a)(hb:NN b){Q:Int->Prop}(h:Mid 9 a b Q):dz Q (aH.mk (a.ag-b.ah) (a.ah-b.ag) (cn a.ai b.ai)):=by
 refine⟨h.c a.ag b.ah (.inl rfl) (.inr (.inr rfl)),h.c a.ah b.ag (.inr (.inr rfl)) (.inl rfl),λy hy=> ?_,lu _ _,λd hd=>jf ?_ ?_⟩
 ·obtain⟨x,z,⟨x1,x2,x3⟩,⟨z1,z2,z3⟩,rfl⟩:=h.v y hy;show a.ag-b.ah<=x-z/\x-z<=a.ah-b.ag/\cn a.ai b.ai∣x-z-(a.ag-b.ah);refine⟨by omega,by omega,?_⟩;have k:=yz hb.dvd z3;have:=yV (zU (jZ a.ai b.ai) x3) (zU (oZ a.ai b.ai) k)
  rwa [show x-a.ag+(b.ah-b.ag-(z-b.ag))=x-z-(a.ag-b.ah)by omega]at this
 ·have:=hd _ (h.c (a.ag+a.ai) b.ah (.inr (.inl rfl)) (.inr (.inr rfl)));have this:d∣a.ag+a.ai-b.ah-(a.ag-b.ah):=this
  rwa [show a.ag+a.ai-b.ah-(a.ag-b.ah)=a.ai by omega]at this
 ·have k1:=hd _ (h.c a.ag b.ag (.inl rfl) (.inl rfl));have k2:=hd _ (h.c a.ag (b.ag+b.ai) (.inl rfl) (.inr (.inl rfl)));have k1:d∣a.ag-b.ag-(a.ag-b.ah):=k1;have k2:d∣a.ag-(b.ag+b.ai)-(a.ag-b.ah):=k2;have:=yz k1 k2
  rwa [show a.ag-b.ag-(a.ag-b.ah)-(a.ag-(b.ag+b.ai)-(a.ag-b.ah))=b.ai by omega]at this
def O2{l h x z:Int}(h1:l<=x)(h2:x<=h):min (l*z) (h*z)<=x*z/\x*z<=max (l*z) (h*z):=by
 rcases Int.le_total 0 z with c|c
 ·have k1:=zN h1 c;have k2:=zN h2 c;omega
 ·have k1:=Int.mul_le_mul_of_nonpos_right h1 c;have k2:=Int.mul_le_mul_of_nonpos_right h2 c;omega
def UE(p q r s:Int):Int:=min (min p q) (min r s)
def hi4(p q r s:Int):Int:=max (max p q) (max r s)
def SO{a b:aH}{x z:Int}(hx:a.ag<=x/\x<=a.ah)(hz:b.ag<=z/\z<=b.ah):
  UE (a.ag*b.ag) (a.ag*b.ah) (a.ah*b.ag) (a.ah*b.ah)<=x*z/\x*z<=hi4 (a.ag*b.ag) (a.ag*b.ah) (a.ah*b.ag) (a.ah*b.ah):=by
 have k1:=O2 (z:=x) hz.1 hz.2;have k2:=O2 (z:=b.ag) hx.1 hx.2;have k3:=O2 (z:=b.ah) hx.1 hx.2;rw[zI b.ag x,zI b.ah x,zI z x]at k1;unfold UE hi4;omega
def ajY{P:Int->Prop}{p q r s:Int}(h1:P p)(h2:P q)(h3:P r)(h4:P s):P (UE p q r s)/\P (hi4 p q r s):=by
 have e1:UE p q r s=p\/UE p q r s=q\/UE p q r s=r\/UE p q r s=s:=by unfold UE;omega
 have e2:hi4 p q r s=p\/hi4 p q r s=q\/hi4 p q r s=r\/hi4 p q r s=s:=by unfold hi4;omega
 constructor
 ·rcases e1 with e|e|e|e<;>rw[e]<;>assumption
 ·rcases e2 with e|e|e|e<;>rw[e]<;>assumption
def am8(a b:aH):aH:=aH.mk (UE (a.ag*b.ag) (a.ag*b.ah) (a.ah*b.ag) (a.ah*b.ah)) (hi4 (a.ag*b.ag) (a.ag*b.ah) (a.ah*b.ag) (a.ah*b.ah)) (cn (cn (a.ai*b.ag) (b.ai*a.ag)) (a.ai*b.ai))
def La{a b:aH}(ha:NN a)(hb:NN b){Q:Int->Prop}(h:Mid 10 a b Q):dz Q (am8 a b):=by
 have h00:Q (a.ag*b.ag):=h.c a.ag b.ag (.inl rfl) (.inl rfl);have h01:Q (a.ag*b.ah):=h.c a.ag b.ah (.inl rfl) (.inr (.inr rfl));have h10:Q (a.ah*b.ag):=h.c a.ah b.ag (.inr (.inr rfl)) (.inl rfl);have h11:Q (a.ah*b.ah):=h.c a.ah b.ah (.inr (.inr rfl)) (.inr (.inr rfl));obtain⟨q1,q2⟩:=ajY (P:=Q) h00 h01 h10 h11;have g1:cn (cn (a.ai*b.ag) (b.ai*a.ag)) (a.ai*b.ai)∣a.ai*b.ag:=zU (jZ _ _) (jZ _ _);have g2:cn (cn (a.ai*b.ag) (b.ai*a.ag)) (a.ai*b.ai)∣b.ai*a.ag:=zU (jZ _ _) (oZ _ _);have g3:cn (cn (a.ai*b.ag) (b.ai*a.ag)) (a.ai*b.ai)∣a.ai*b.ai:=oZ _ _;have base:∀y,Q y->cn (cn (a.ai*b.ag) (b.ai*a.ag)) (a.ai*b.ai)∣y-a.ag*b.ag:=λy hy=>by
  obtain⟨x,z,⟨_,_,i,x3⟩,⟨_,_,j,z3⟩,rfl⟩:=h.v y hy;show _∣x*z-a.ag*b.ag;have e:x*z-a.ag*b.ag=i*(a.ai*b.ag)+j*(b.ai*a.ag)+i*j*(a.ai*b.ai):=by
   have ex:x=a.ag+a.ai*i:=by omega
   have ez:z=b.ag+b.ai*j:=by omega
   rw[ex,ez,zR,y5,y5];have t1:a.ag*(b.ai*j)=j*(b.ai*a.ag):=by rw[<-zP,zI (a.ag*b.ai) j,zI a.ag b.ai]
   have t2:a.ai*i*b.ag=i*(a.ai*b.ag):=by rw[zI a.ai i,zP]
   have t3:a.ai*i*(b.ai*j)=i*j*(a.ai*b.ai):=by
    rw[zI a.ai i,zI b.ai j,zP,Int.mul_left_comm a.ai j,<-zP]
   rw[t1,t2,t3];omega
  rw[e];exact yV (yV (zU g1 (xC ..)) (zU g2 (xC ..))) (zU g3 (xC ..))
 refine⟨q1,q2,λy hy=> ?_,lu _ _,λd hd=> ?_⟩
 ·obtain⟨x,z,hx,hz,e⟩:=h.v y hy;have e:y=x*z:=e;have k:=SO ⟨hx.1,hx.2.1⟩ ⟨hz.1,hz.2.1⟩;refine⟨by rw[e];exact k.1,by rw[e];exact k.2,?_⟩;have:=yz (base y hy) (base _ q1)
  rwa [ssc]at this
 ·have diff:∀y y',Q y->Q y'->d∣y-y':=λy y' hy hy'=>by
   have:=yz (hd y hy) (hd y' hy')
   rwa [ssc]at this
  have p10:Q ((a.ag+a.ai)*b.ag):=h.c _ _ (.inr (.inl rfl)) (.inl rfl);have p01:Q (a.ag*(b.ag+b.ai)):=h.c _ _ (.inl rfl) (.inr (.inl rfl));have p11:Q ((a.ag+a.ai)*(b.ag+b.ai)):=h.c _ _ (.inr (.inl rfl)) (.inr (.inl rfl));have d1:=diff _ _ p10 h00;rw[zR,Int.add_comm (a.ag*b.ag),Int.add_sub_cancel]at d1;have d2:=diff _ _ p01 h00;rw[y5,Int.add_comm (a.ag*b.ag),Int.add_sub_cancel,zI]at d2;have d3:=yz (diff _ _ p11 p10) d2;rw[y5 (a.ag+a.ai),Int.add_comm ((a.ag+a.ai)*b.ag),Int.add_sub_cancel,zR,zI b.ai a.ag,Int.add_comm (a.ag*b.ai),Int.add_sub_cancel]at d3;exact jf (jf d1 d2) d3
def fT(a:aH):aa Int:=[a.ag,a.ag+a.ai,a.ah]
def nD(a:aH)(x:Int):MO a x↔∃k,k<3/\x=(fT a)[k]! :=by
 constructor
 ·rintro(rfl|rfl|rfl)
  ·exact⟨0,by omega,rfl⟩
  ·exact⟨1,by omega,rfl⟩
  ·exact⟨2,by omega,rfl⟩
 ·rintro⟨k,hk,rfl⟩;rcases (show k=0\/k=1\/k=2 by omega)with rfl|rfl|rfl
  ·exact .inl rfl
  ·exact .inr (.inl rfl)
  ·exact .inr (.inr rfl)
def Gy{a:aH}(h:NN a){k:Nat}(hk:k<3):cz (fT a)[k]! :=Uy (.inr h) (qh h ((nD a _).mpr ⟨k,hk,rfl⟩))
def prC(op:Int)(a b:aH)(i j:Nat)(l:aa Int):Prop:=(∀y,y∈l↔(∃k,k<i/\∃m,m<3/\y=fK op (fT a)[k]! (fT b)[m]!)\/∃m,m<j/\y=fK op (fT a)[i]! (fT b)[m]!)/\l.length=i*3+j/\∀y∈l,cz y
def aeH{op:Int}{a b:aH}{i:Nat}{l:aa Int}(h:prC op a b i 3 l):prC op a b (i+1) 0 l:=by
 refine⟨λy=>(h.1 y).trans ⟨?_,?_⟩,by rw[h.2.1];omega,h.2.2⟩
 ·rintro(⟨k,hk,m,hm,e⟩|⟨m,hm,e⟩)
  ·exact .inl ⟨k,by omega,m,hm,e⟩
  ·exact .inl ⟨i,by omega,m,hm,e⟩
 ·rintro(⟨k,hk,m,hm,e⟩|⟨m,hm,e⟩)
  ·rcases y8.mp hk with c|rfl
   ·exact .inl ⟨k,c,m,hm,e⟩
   ·exact .inr ⟨m,hm,e⟩
  ·exact dF hm (yF _)
def aaw{op:Int}{a b c:aH}(ho:binop op)(ha:NN a)(hb:NN b){i:Nat}(hi:i<3){l:aa Int}(hl:prC op a b i 0 l):
  (∃l',Ec (jb.mk op l (fT a) (fT b) i 0 c)=V (jb.mk op l' (fT a) (fT b) i 3 c)/\prC op a b (i+1) 0 l')\/
  (∃l' j,j<3/\Ec (jb.mk op l (fT a) (fT b) i 0 c)=V (jb.mk op l' (fT a) (fT b) i (j:Nat) c)/\¬cz (fK op (fT a)[i]! (fT b)[j]!)):=by
 have ll:∀a:aH,(fT a).length=3:=λ_=>rfl;obtain⟨j,l',e,hI,h⟩:=oE (rnd:=DB) 3 (λj (l:aa Int)=>jb.mk op l (fT a) (fT b) i (j:Nat) c) (λj l=>prC op a b i j l) (λj l=>¬cz (fK op (fT a)[i]! (fT b)[j]!))
  (λj l hj hI=>by
   obtain⟨v,ev,hv⟩:=lT (Gy ha hi) (Gy hb hj) ho;unfold DB;simp only;rw[nj,bD,ll,ll,ig,ze,bG ⟨trivial,hi⟩,ig,ze,bG ⟨trivial,hj⟩,ev];simp only;by_cases hr:cz (fK op (fT a)[i]! (fT b)[j]!)
   ·left;rw[bW hr];simp only[bD,bA];rw[bG (by rw[zl,hI.2.1];simp;omega),fG hj (by omega),hv hr];refine⟨_,rfl,λy=> ?_,by rw[zl,hI.2.1];simp;omega,λy hy=> ?_⟩
    ·rw[zV,zy,hI.1 y];constructor
     ·rintro((h|⟨m,hm,h⟩)|rfl)
      ·exact .inl h
      ·exact .inr ⟨m,by omega,h⟩
      ·exact .inr ⟨j,by omega,rfl⟩
     ·rintro(h|⟨m,hm,h⟩)
      ·exact .inl (.inl h)
      ·rcases y8.mp hm with c|rfl
       ·exact .inl (.inr ⟨m,c,h⟩)
       ·exact .inr h
    ·rcases zV.mp hy with hy|hy
     ·exact hI.2.2 y hy
     ·rw[zy.mp hy];exact hr
   ·right;rw[bX hr];exact⟨rfl,hr⟩)
  (λl hI=>by
   unfold DB;simp only;rw[gd];rfl) (b:=l) hl
 have e:bK DB (jb.mk op l (fT a) (fT b) i 0 c)=V (jb.mk op l' (fT a) (fT b) i (j:Nat) c):=e;rcases h with rfl|⟨hj,h⟩
 ·exact .inl ⟨l',e,aeH hI⟩
 ·exact .inr ⟨l',j,hj,e,h⟩
def ahG{op:Int}{a b:aH}(ho:binop op)(ha:NN a)(hb:NN b):
  ((∀y,Ep op a b y->cz y)/\∃c,vB op a b=V (c,0)/\dz (Ep op a b) c)\/((¬∀y,Ep op a b y->cz y)/\vB op a b=V (aH.mk 0 0 0,3)):=by
 have ll:∀a:aH,(fT a).length=3:=λ_=>rfl;have wc:∀{a:aH},NN a->[a.ag,i64.wrap (a.ag+a.ai),a.ah]=fT a:=λ{a} h=>by
  have:=Uy (.inr h) (Sw h);rw[aG (by have:=this.1;omega) (by have:=this.2;omega)];rfl
 unfold vB;rw[wc ha,wc hb];obtain⟨i,l,e,hI,h⟩:=oE (rnd:=AG) 3 (λi (l:aa Int)=>sS.mk op l (fT a) (fT b) (i:Nat) (aH.mk 0 0 0)) (λi l=>prC op a b i 0 l) (λi l=>∃l' j,j<3/\Ec (jb.mk op l (fT a) (fT b) i 0 (aH.mk 0 0 0))=V (jb.mk op l' (fT a) (fT b) i (j:Nat) (aH.mk 0 0 0))/\¬cz (fK op (fT a)[i]! (fT b)[j]!))
  (λi l hi hI=>by
   unfold AG;simp only;rw[nj,bD];rcases aaw (c:=aH.mk 0 0 0) ho ha hb hi hI with ⟨l',e,h⟩|⟨l',j,hj,e,h⟩
   ·left;rw[e];simp only;rw[gd,bA,fG hi (by omega)];exact⟨l',rfl,h⟩
   ·right;refine⟨?_,l',j,hj,e,h⟩;rw[e];simp only;obtain⟨v,ev,hv⟩:=lT (Gy ha hi) (Gy hb hj) ho;rw[nj,bD,ll,ll,ig,ze,bG ⟨trivial,hi⟩,ig,ze,bG ⟨trivial,hj⟩,ev];simp only;rw[bX h];rfl)
  (λl hI=>by
   unfold AG;simp only;rw[gd];rfl) (b:=[]) ⟨λy=>⟨λh=>dF h (by simp),λh=>by
    rcases h with ⟨k,hk,_⟩|⟨m,hm,_⟩
    ·exact dF hk (yF _)
    ·exact dF hm (yF _)⟩,by simp,λy hy=>dF hy (by simp)⟩
 have e:bK AG (sS.mk op [] (fT a) (fT b) 0 (aH.mk 0 0 0))=V (sS.mk op l (fT a) (fT b) (i:Nat) (aH.mk 0 0 0)):=e;rw[show W1=bK AG from rfl,e];simp only;rcases h with rfl|⟨hi,l',j,hj,e1,h⟩
 ·left;have mem:∀y,y∈l↔Ep op a b y:=λy=>(hI.1 y).trans ⟨λh=>by
   rcases h with ⟨k,hk,m,hm,e⟩|⟨m,hm,_⟩
   ·exact⟨_,_,(nD a _).mpr ⟨k,hk,rfl⟩,(nD b _).mpr ⟨m,hm,rfl⟩,e⟩
   ·exact dF hm (yF _),λ⟨x,z,hx,hz,e⟩=>by
   obtain⟨k,hk,rfl⟩:=(nD a _).mp hx;obtain⟨m,hm,rfl⟩:=(nD b _).mp hz;exact .inl ⟨k,hk,m,hm,e⟩⟩
  rw[gd,bA];have hne:l≠[]:=λe=>by
   have:=hI.2.1;rw[e]at this;simp at this
  obtain⟨c,e2,hc⟩:=HD hne (by rw[hI.2.1];omega) hI.2.2;rw[e2];exact⟨λy hy=>hI.2.2 y ((mem y).mpr hy),c,rfl,hc.congr mem⟩
 ·right;refine⟨λk=>h (k _ ⟨_,_,(nD a _).mpr ⟨i,hi,rfl⟩,(nD b _).mpr ⟨j,hj,rfl⟩,rfl⟩),?_⟩;rw[nj,bD,e1];simp only;obtain⟨v,ev,hv⟩:=lT (Gy ha hi) (Gy hb hj) ho;rw[nj,bD,ll,ll,ig,ze,bG ⟨trivial,hi⟩,ig,ze,bG ⟨trivial,hj⟩,ev];simp only;rw[bX h];rfl
def jx{op:Int}{a b c:aH}(ho:op=8\/op=9\/op=10)(ha:NN a)(hb:NN b)(hc:∀Q,Mid op a b Q->dz Q c)(hR:(∀y,Ep op a b y->cz y)->∀y,rN op a b y->cz y):
  ((∀y,rN op a b y->cz y)/\oL op a b=V (c,0)/\NN c)\/((¬∀y,rN op a b y->cz y)/\oL op a b=V (aH.mk 0 0 0,3)):=by
 have hbin:binop op:=by unfold binop;omega
 by_cases hs:cnt a*cnt b<=4096
 ·rw[nZ hbin ha hb hs];rcases BJ hbin ha hb (by omega)with ⟨h1,d,e,h2⟩|⟨h1,e⟩
  ·have k:=hc _ (alA ha hb);rw[h2.uniq k]at e;exact .inl ⟨h1,e,k.valid h1⟩
  ·exact .inr ⟨h1,e⟩
 ·have e0:oL op a b=vB op a b:=by
   rw[vp hbin ha hb hs];unfold Va;rcases ho with rfl|rfl|rfl<;>rfl
  rw[e0];rcases ahG hbin ha hb with ⟨h1,d,e,h2⟩|⟨h1,e⟩
  ·rw[h2.uniq (hc _ (akv ha hb))]at e;exact .inl ⟨hR h1,e,(hc _ (alA ha hb)).valid (hR h1)⟩
  ·exact .inr ⟨λk=>h1 λy hy=>k y ((akv ha hb).v y hy),e⟩
def U8{c:aH}(h:NN c):jt c.ag c.ah c.ai=c:=by
 rw[NO h.le h.s0 h.dvd (λk=>by rcases h.st with e|e;exact e.2;omega)]
def AI{c:aH}(h:NN c):lS c.ag c.ah c.ai=V c:=by
 have:=h.lo;have:=h.hi
 rw[nY (by omega) (by omega) h.s0,U8 h]
def ng{op:Int}{a b:aH}(ho:binop op)(ha:NN a)(hb:NN b){r:af (aH×Int)}
  (h:(bif J (op=9)then
   match bif bif iS (i64.wrap (a.ag+i64.wrap (0-b.ah)))then G else O then V O else V (bif iS (i64.wrap (a.ah+i64.wrap (0-b.ag)))then G else O)with
   |none=>S
   |some r5=>bif r5 then V (aH.mk 0 0 0,3)else match Bu [a.ai,b.ai]with
    |none=>S
    |some r6=>match lS (i64.wrap (a.ag+i64.wrap (0-b.ah))) (i64.wrap (a.ah+i64.wrap (0-b.ag))) r6 with
     |none=>S
     |some r7=>V (r7,0)
  else bif J (op=8)then
   match bif bif iS (i64.wrap (a.ag+b.ag))then G else O then V O else V (bif iS (i64.wrap (a.ah+b.ah))then G else O)with
   |none=>S
   |some r8=>bif r8 then V (aH.mk 0 0 0,3)else match Bu [a.ai,b.ai]with
    |none=>S
    |some r9=>match lS (i64.wrap (a.ag+b.ag)) (i64.wrap (a.ah+b.ah)) r9 with
     |none=>S
     |some r10=>V (r10,0)
  else bif J (op=10)then match UK a b with
   |none=>S
   |some r11=>V r11
  else bif J (op=11)then match tL op a b with
   |none=>S
   |some r12=>V (r12,0)
  else bif J (op=12)then match tL op a b with
   |none=>S
   |some r13=>V (r13,0)
  else bif J (op=21)then match tL op a b with
   |none=>S
   |some r14=>V (r14,0)
  else bif J (op=22)then match tL op a b with
   |none=>S
   |some r15=>V (r15,0)
  else match XY op a b with
   |none=>S
   |some r16=>V (r16,0))=r):tN op a b=r:=by
 unfold tN;rw[eH,eH,dY (.inr ha),dY (.inr hb),jK,bW ho];simp only[bD,bA];rw[ew ha.ne,ew hb.ne];simp only[bA];exact h
def qQ{a b:aH}(ha:NN a)(hb:NN b):(∀y,rN 8 a b y->cz y)↔cz (a.ag+b.ag)/\cz (a.ah+b.ah):=by
 constructor
 ·intro h;exact⟨h _ ⟨_,_,di ha,di hb,rfl⟩,h _ ⟨_,_,gu ha,gu hb,rfl⟩⟩
 ·rintro⟨⟨h1,h2⟩,⟨h3,h4⟩⟩ y ⟨x,z,⟨x1,x2,_⟩,⟨z1,z2,_⟩,rfl⟩;exact⟨by show _<=x+z;omega,by show x+z<=_;omega⟩
def rG{a b:aH}(ha:NN a)(hb:NN b):(∀y,rN 9 a b y->cz y)↔cz (a.ag-b.ah)/\cz (a.ah-b.ag):=by
 constructor
 ·intro h;exact⟨h _ ⟨_,_,di ha,gu hb,rfl⟩,h _ ⟨_,_,gu ha,di hb,rfl⟩⟩
 ·rintro⟨⟨h1,h2⟩,⟨h3,h4⟩⟩ y ⟨x,z,⟨x1,x2,_⟩,⟨z1,z2,_⟩,rfl⟩;exact⟨by show _<=x-z;omega,by show x-z<=_;omega⟩
def jB{a b:aH}(ha:NN a)(hb:NN b):(∀y,rN 10 a b y->cz y)↔cz (a.ag*b.ag)/\cz (a.ag*b.ah)/\cz (a.ah*b.ag)/\cz (a.ah*b.ah):=by
 constructor
 ·intro h;exact⟨h _ ⟨_,_,di ha,di hb,rfl⟩,h _ ⟨_,_,di ha,gu hb,rfl⟩,h _ ⟨_,_,gu ha,di hb,rfl⟩,h _ ⟨_,_,gu ha,gu hb,rfl⟩⟩
 ·rintro⟨h1,h2,h3,h4⟩ y ⟨x,z,⟨x1,x2,_⟩,⟨z1,z2,_⟩,rfl⟩;have k:=SO (a:=a) (b:=b) ⟨x1,x2⟩ ⟨z1,z2⟩;obtain⟨⟨p1,p2⟩,⟨p3,p4⟩⟩:=ajY (P:=cz) h1 h2 h3 h4;exact⟨by show _<=x*z;omega,by show x*z<=_;omega⟩
def ahe{x y u v:Int}(h1:x.natAbs=u.natAbs)(h2:y.natAbs=v.natAbs):cn x y=cn u v:=by
 unfold cn yD;rw[h1,h2]
def V7(p q r s:Int):ad2 ([p]++[q]++[r]++[s])=V (UE p q r s):=by
 unfold ad2;rw[bX (by simp),bA,bG (by simp),show KA=bK Fx from rfl];have st:∀m k,k=1\/k=2\/k=3->Fx (sV.mk ([p]++[q]++[r]++[s]) m k)=V (V (sV.mk ([p]++[q]++[r]++[s]) (min m ([p]++[q]++[r]++[s])[k.toNat]!) (k+1))):=λm k hk=>by
  unfold Fx;simp only;rw[bW (by simp;omega),bD,bG (by simp;omega),aG];have e:∀w:Int,(if w<m then w else m)=min m w:=λw=>by split<;>omega
  rw[e]
 rw[bQ (st _ 1 (.inl rfl)),bQ (st _ (1+1) (.inr (.inl rfl))),bQ (st _ (1+1+1) (.inr (.inr rfl))),cu (by intro x hx;simp[Fx]at hx)];simp only;rw[bX (by simp),bA];show V (min (min (min p q) r) s)=V (UE p q r s);unfold UE
 congr 1
 omega
def U4(p q r s:Int):aen ([p]++[q]++[r]++[s])=V (hi4 p q r s):=by
 unfold aen;rw[bX (by simp),bA,bG (by simp),show Kf=bK CM from rfl];have st:∀m k,k=1\/k=2\/k=3->CM (tD.mk ([p]++[q]++[r]++[s]) m k)=V (V (tD.mk ([p]++[q]++[r]++[s]) (max m ([p]++[q]++[r]++[s])[k.toNat]!) (k+1))):=λm k hk=>by
  unfold CM;simp only;rw[bW (by simp;omega),bD,bG (by simp;omega),aG];have e:∀w:Int,(if m<w then w else m)=max m w:=λw=>by split<;>omega
  rw[e]
 rw[bQ (st _ 1 (.inl rfl)),bQ (st _ (1+1) (.inr (.inl rfl))),bQ (st _ (1+1+1) (.inr (.inr rfl))),cu (by intro x hx;simp[CM]at hx)];simp only;rw[bX (by simp),bA];show V (max (max (max p q) r) s)=V (hi4 p q r s);unfold hi4
 congr 1
 omega
def avf(x y:Int):(bif bif iS x then G else O then V O else V (bif iS y then G else O))=V (!(J (cz x)&&J (cz y))):=by
 rw[show iS x=J (cz x)from jO x,show iS y=J (cz y)from jO y];cases J (cz x)<;>cases J (cz y)<;>rfl
def fO{op:Int}{a b:aH}(h:∀y,Ep op a b y->cz y){x z:Int}(hx:MO a x)(hz:MO b z):cz (fK op x z):=h _ ⟨x,z,hx,hz,rfl⟩
def Rf(op:Int)(a b:aH):Prop:=∃r,tN op a b=V r/\oL op a b=V r/\NV r.1
def aa2{a b:aH}(ha:NN a)(hb:NN b):Rf 8 a b:=by
 have r1:=ha.ri;have r2:=ha.Bl;have r3:=hb.ri;have r4:=hb.Bl;obtain⟨a1,a2⟩:=r1;obtain⟨a3,a4⟩:=r2;obtain⟨b1,b2⟩:=r3;obtain⟨b3,b4⟩:=r4;have key:=jx (op:=8) (.inl rfl) ha hb (λQ h=>Nc ha hb h) (λh=>(qQ ha hb).mpr ⟨fO h (.inl rfl) (.inl rfl),fO h (.inr (.inr rfl)) (.inr (.inr rfl))⟩);have prog:∀r,(match V (!(J (cz (a.ag+b.ag))&&J (cz (a.ah+b.ah))))with
   |none=>S
   |some r8=>bif r8 then V (aH.mk 0 0 0,(3:Int))else match lS (a.ag+b.ag) (a.ah+b.ah) (cn a.ai b.ai)with
     |none=>S
     |some r10=>V (r10,0))=r->tN 8 a b=r:=λr h=>ng ⟨by decide,by decide⟩ ha hb (by
  simp only[Int.reduceEq,eR,cR,bA,bD];rw[avf,aG (n:=a.ag+b.ag),aG (n:=a.ah+b.ah),Fq ha.s0 hb.s0];exact h)
 rcases key with ⟨h1,e,hv⟩|⟨h1,e⟩
 ·obtain⟨k1,k2⟩:=(qQ ha hb).mp h1;refine⟨_,prog _ ?_,e, .inr hv⟩;rw[bW k1,bW k2];have:=AI hv;have this:lS (a.ag+b.ag) (a.ah+b.ah) (cn a.ai b.ai)=V _:=this;rw[this];rfl
 ·refine⟨_,prog _ ?_,e,PM⟩;have:(J (cz (a.ag+b.ag))&&J (cz (a.ah+b.ah)))=G:=by
   cases c1:J (cz (a.ag+b.ag))<;>cases c2:J (cz (a.ah+b.ah))<;>first|rfl|exact dF ((qQ ha hb).mpr ⟨of_decide_eq_true c1,of_decide_eq_true c2⟩) h1
  rw[this];rfl
def Z7{a b:aH}(ha:NN a)(hb:NN b):Rf 9 a b:=by
 have r1:=ha.ri;have r2:=ha.Bl;have r3:=hb.ri;have r4:=hb.Bl;obtain⟨a1,a2⟩:=r1;obtain⟨a3,a4⟩:=r2;obtain⟨b1,b2⟩:=r3;obtain⟨b3,b4⟩:=r4;have key:=jx (op:=9) (.inr (.inl rfl)) ha hb (λQ h=>KL ha hb h) (λh=>(rG ha hb).mpr ⟨fO h (.inl rfl) (.inr (.inr rfl)),fO h (.inr (.inr rfl)) (.inl rfl)⟩);have prog:∀r,(match V (!(J (cz (a.ag-b.ah))&&J (cz (a.ah-b.ag))))with
   |none=>S
   |some r8=>bif r8 then V (aH.mk 0 0 0,(3:Int))else match lS (a.ag-b.ah) (a.ah-b.ag) (cn a.ai b.ai)with
     |none=>S
     |some r10=>V (r10,0))=r->tN 9 a b=r:=λr h=>ng ⟨by decide,by decide⟩ ha hb (by
  simp only[Int.reduceEq,eR,cR,bA,bD];rw[avf,aG (n:=0-b.ah),aG (n:=0-b.ag),aG (n:=a.ag+(0-b.ah)),aG (n:=a.ah+(0-b.ag)),Fq ha.s0 hb.s0,
   show a.ag+(0-b.ah)=a.ag-b.ah by omega,show a.ah+(0-b.ag)=a.ah-b.ag by omega]
  exact h)
 rcases key with ⟨h1,e,hv⟩|⟨h1,e⟩
 ·obtain⟨k1,k2⟩:=(rG ha hb).mp h1;refine⟨_,prog _ ?_,e, .inr hv⟩;rw[bW k1,bW k2];have:=AI hv;have this:lS (a.ag-b.ah) (a.ah-b.ag) (cn a.ai b.ai)=V _:=this;rw[this];rfl
 ·refine⟨_,prog _ ?_,e,PM⟩;have:(J (cz (a.ag-b.ah))&&J (cz (a.ah-b.ag)))=G:=by
   cases c1:J (cz (a.ag-b.ah))<;>cases c2:J (cz (a.ah-b.ag))<;>first|rfl|exact dF ((rG ha hb).mpr ⟨of_decide_eq_true c1,of_decide_eq_true c2⟩) h1
  rw[this];rfl
def YA{a b:aH}(ha:NN a)(hb:NN b):Rf 10 a b:=by
 have key:=jx (op:=10) (.inr (.inr rfl)) ha hb (λQ h=>La ha hb h) (λh=>(jB ha hb).mpr ⟨fO h (.inl rfl) (.inl rfl),fO h (.inl rfl) (.inr (.inr rfl)),fO h (.inr (.inr rfl)) (.inl rfl),fO h (.inr (.inr rfl)) (.inr (.inr rfl))⟩);have prog:tN 10 a b=UK a b:=ng ⟨by decide,by decide⟩ ha hb (by
  simp only[Int.reduceEq,eR,cR,bA,bD];cases UK a b<;>rfl)
 unfold Rf;rw[prog];obtain⟨v1,e1,q1⟩:=Cc ha.ri hb.ri;obtain⟨v2,e2,q2⟩:=Cc ha.ri hb.Bl;obtain⟨v3,e3,q3⟩:=Cc ha.Bl hb.ri;obtain⟨v4,e4,q4⟩:=Cc ha.Bl hb.Bl;unfold UK;rw[e1];simp only;by_cases c1:cz (a.ag*b.ag)
 ·rw[bW c1,e2];simp only[bD,bA];by_cases c2:cz (a.ag*b.ah)
  ·rw[bW c2,e3];simp only[bD,bA];by_cases c3:cz (a.ah*b.ag)
   ·rw[bW c3,e4];simp only[bD,bA];by_cases c4:cz (a.ah*b.ah)
    ·rw[bW c4];simp only[bD,bA];have hr:=(jB ha hb).mpr ⟨c1,c2,c3,c4⟩;rcases key with ⟨_,e,hv⟩|⟨h1,_⟩
     ·have r1:=ha.ri;have r3:=hb.ri;obtain⟨a1,a2⟩:=r1;obtain⟨b1,b2⟩:=r3;have s1:=ha.s0;have s2:=hb.s0;have l1:=ha.sle;have l2:=hb.sle;obtain⟨w1,w2⟩:=c1;obtain⟨w3,w4⟩:=c2;obtain⟨w5,w6⟩:=c3;obtain⟨w7,w8⟩:=c4;have n1:0<=a.ai*((b.ag.natAbs:Nat):Int):=zF s1 (by omega);have n2:0<=b.ai*((a.ag.natAbs:Nat):Int):=zF s2 (by omega);have n3:0<=a.ai*b.ai:=zF s1 s2;have k1:a.ai*((b.ag.natAbs:Nat):Int)<=2199023255552:=by
       have t:=zN l1 (show 0<=((b.ag.natAbs:Nat):Int)by omega);have t2:(a.ah-a.ag)*((b.ag.natAbs:Nat):Int)<=2199023255552:=by
        rcases Int.le_total 0 b.ag with c|c
        ·rw[show ((b.ag.natAbs:Nat):Int)=b.ag by omega,yt];omega
        ·rw[show ((b.ag.natAbs:Nat):Int)= -b.ag by omega,xX,yt];omega
       omega
      have k2:b.ai*((a.ag.natAbs:Nat):Int)<=2199023255552:=by
       have t:=zN l2 (show 0<=((a.ag.natAbs:Nat):Int)by omega);have t2:(b.ah-b.ag)*((a.ag.natAbs:Nat):Int)<=2199023255552:=by
        rcases Int.le_total 0 a.ag with c|c
        ·rw[show ((a.ag.natAbs:Nat):Int)=a.ag by omega,yt,zI b.ah,zI b.ag];omega
        ·rw[show ((a.ag.natAbs:Nat):Int)= -a.ag by omega,xX,yt,zI b.ah,zI b.ag];omega
       omega
      have k3:a.ai*b.ai<=4398046511104:=by
       have t:=xA l1 l2 s2 (by omega);rw[yt,Int.mul_sub,Int.mul_sub]at t;omega
      rw[mJ hb.ri,mJ ha.ri,aG (n:=a.ai*((b.ag.natAbs:Nat):Int)),aG (n:=b.ai*((a.ag.natAbs:Nat):Int)),aG (n:=a.ai*b.ai),
       Df n1 n2 n3,V7,U4,q1 ⟨w1,w2⟩,q2 ⟨w3,w4⟩,q3 ⟨w5,w6⟩,q4 ⟨w7,w8⟩]
      simp only;have eg:cn (cn (a.ai*((b.ag.natAbs:Nat):Int)) (b.ai*((a.ag.natAbs:Nat):Int))) (a.ai*b.ai)=(am8 a b).ai:=by
       show _=cn (cn (a.ai*b.ag) (b.ai*a.ag)) (a.ai*b.ai);rw[ahe (x:=a.ai*((b.ag.natAbs:Nat):Int)) (u:=a.ai*b.ag) (by rw[Int.natAbs_mul,Int.natAbs_mul,Int.natAbs_natCast]) (y:=b.ai*((a.ag.natAbs:Nat):Int)) (v:=b.ai*a.ag) (by rw[Int.natAbs_mul,Int.natAbs_mul,Int.natAbs_natCast])]
      rw[eg];have:=AI hv;have this:lS (UE (a.ag*b.ag) (a.ag*b.ah) (a.ah*b.ag) (a.ah*b.ah)) (hi4 (a.ag*b.ag) (a.ag*b.ah) (a.ah*b.ag) (a.ah*b.ah)) (am8 a b).ai=V _:=this;rw[this];exact⟨_,rfl,e, .inr hv⟩
     ·exact dF hr h1
    ·rcases key with ⟨h1,_⟩|⟨_,e⟩
     ·exact dF ((jB ha hb).mp h1).2.2.2 c4
     ·rw[bX c4];exact⟨_,rfl,e,PM⟩
   ·rcases key with ⟨h1,_⟩|⟨_,e⟩
    ·exact dF ((jB ha hb).mp h1).2.2.1 c3
    ·rw[bX c3];exact⟨_,rfl,e,PM⟩
  ·rcases key with ⟨h1,_⟩|⟨_,e⟩
   ·exact dF ((jB ha hb).mp h1).2.1 c2
   ·rw[bX c2];exact⟨_,rfl,e,PM⟩
 ·rcases key with ⟨h1,_⟩|⟨_,e⟩
  ·exact dF ((jB ha hb).mp h1).1 c1
  ·rw[bX c1];exact⟨_,rfl,e,PM⟩
structure Eu (x m a b u v:Int):Prop where
 a0:0<=a
 b2:2<=b
 ab:a<b
 g:yD a b=1
 du:m∣u*x-a
 dv:m∣v*x-b
 s:(0<=u/\v<=0/\b*u-a*v=m)\/(u<=0/\0<=v/\a*v-b*u=m)
def Eu.next{x m a b u v:Int}(h:Eu x m a b u v)(ha:1<a):Eu x m (b%a) a (v-b/a*u) u:=by
 have e:=yT b a;have m0:=yU b (b:=a) (by omega);have m1:=y4 b (b:=a) (by omega);refine⟨m0,by omega,m1,?_,?_,h.du,?_⟩
 ·have:=pW (a:=b) (b:=a) (by have:=h.b2;omega) (by omega);rw[kj (by have:=h.b2;omega)]at this;rw[Int.gcd_comm,this,Int.gcd_comm];exact h.g
 ·have k:=yz h.dv (zU h.du (xC (b/a) _));have:v*x-b-b/a*(u*x-a)=(v-b/a*u)*x-b%a:=by
   rw[Int.mul_sub,yt,zP,zI (b/a) a];omega
  rwa [this]at k
 ·have t1:(b%a)*u=b*u-a*(b/a*u):=by
   rw[<-zP,<-yt]
   congr 1
   omega
  have t2:a*(v-b/a*u)=a*v-a*(b/a*u):=Int.mul_sub ..;have q0:0<=b/a:=zQ (by have:=h.b2;omega) (by omega);rcases h.s with ⟨s1,s2,s3⟩|⟨s1,s2,s3⟩
  ·have:=zF q0 s1;exact .inr ⟨by omega,s1,by omega⟩
  ·have:=zF q0 (show 0<= -u by omega);rw[xX]at this;exact .inl ⟨by omega,s1,by omega⟩
def Eu.bd{x m a b u v:Int}(h:Eu x m a b u v): -m<=u/\u<=m:=by
 have hb:=h.b2;have ha:=h.a0;rcases h.s with ⟨s1,s2,s3⟩|⟨s1,s2,s3⟩
 ·have k1:=zF ha (show 0<= -v by omega);rw[xX]at k1;have k2:1*u<=b*u:=zN (by omega) s1;omega
 ·have k1:=zF ha s2;have k2:1*(-u)<=b*(-u):=zN (by omega) (by omega);simp only[xX,z6]at k2;omega
def Eu.bv{x m a b u v:Int}(h:Eu x m a b u v)(ha:1<a): -m<=v/\v<=m:=by
 have hb:=h.b2;rcases h.s with ⟨s1,s2,s3⟩|⟨s1,s2,s3⟩
 ·have k1:=zF (show 0<=b by omega) s1;have k2:1*(-v)<=a*(-v):=zN (by omega) (by omega);simp only[xX,z6]at k2;omega
 ·have k1:=zF (show 0<=b by omega) (show 0<= -u by omega);rw[xX]at k1;have k2:1*v<=a*v:=zN (by omega) s2;omega
def anZ{x m a b u v:Int}(hm:m<1152921504606846976)(hbm:b<=m)(h:Eu x m a b u v):∃b' u' v',Jp (mC.mk m a b u v)=V (mC.mk m 1 b' u' v')/\m∣u'*x-1/\ -m<=u'/\u'<=m:=by
 obtain⟨z,e1,⟨a',b',u',v',rfl,hI,hb⟩,hs⟩:=lF (rnd:=El) (λp=>∃a b u v,p=mC.mk m a b u v/\Eu x m a b u v/\b<=m) (λp=>p.t5.toNat) (λp p' ⟨a,b,u,v,hp,hI,hbm⟩ hn=>by
  subst hp;have hn:El (mC.mk m a b u v)=V (V p'):=hn;unfold El at hn;simp only at hn;by_cases c:1<a
  ·have hN:=hI.next c;have q0:0<=b/a:=zQ (by have:=hI.b2;omega) (by omega);have q1:b/a<=b:=ye _ (by have:=hI.b2;omega);have e:=yT b a;rw[zI]at e;have m0:=hN.a0;have m1:=hN.ab;have bu:=hI.bd;have bv:=hI.bv c;have bn:=hN.bd;have hb2:=hI.b2;have hab:=hI.ab;rw[bW c,bD,ig,jU,aG (n:=b/a),aG (n:=b/a*a),aG (n:=b-b/a*a),aG (n:=b/a*u),aG (n:=v-b/a*u)]at hn;simp only[zA.injEq]at hn;subst hn;rw[show b-b/a*a=b%a by omega];exact⟨⟨b%a,a,_,_,rfl,hN,by have:=hI.ab;omega⟩,by show (b%a).toNat<a.toNat;omega⟩
  ·rw[bX c]at hn;cases hn) ⟨a,b,u,v,rfl,h,hbm⟩
 have hle:¬1<a':=λc=>by
  have hN:=hI.next c;have q0:0<=b'/a':=zQ (by have:=hI.b2;omega) (by omega);refine hs (mC.mk m (i64.wrap (b'-i64.wrap (i64.wrap (b'.tdiv a')*a'))) a' (i64.wrap (v'-i64.wrap (i64.wrap (b'.tdiv a')*u'))) u') ?_;unfold El;simp only;rw[bW c,bD,ig]
 have a1:a'=1:=by
  have:=hI.a0;rcases (show a'=0\/a'=1 by omega)with rfl|rfl
  ·have g:=hI.g;rw[Int.gcd_zero_left]at g;have:=hI.b2;omega
  ·rfl
 subst a1;exact⟨b',u',v',e1,hI.du,hI.bd⟩
def aeR{x m:Int}(h0:0<=x)(h1:2<=m)(h2:m<1152921504606846976)(hg:yD x m=1):∃v:Int,acW x m=V v/\0<=v/\v<m/\m∣v*x-1:=by
 have m0:=yU x (b:=m) (by omega);have m1:=y4 x (b:=m) (by omega);have e:=yT x m;obtain⟨b',u',v',e1,d1,d2,d3⟩:=anZ (x:=x) (m:=m) (a:=x%m) (b:=m) (u:=1) (v:=0) h2 (zq _) ⟨m0,h1,m1,by
   have:=pW (a:=x) (b:=m) h0 (by omega);rw[kj h0]at this;rw[Int.gcd_comm,this,hg],⟨x/m,by omega⟩,⟨-1,by omega⟩, .inl ⟨by omega,by omega,by omega⟩⟩
 unfold acW;rw[ig,kj h0,e1];simp only;rw[gd,bA,ig,ig];have t:=Int.mul_tdiv_add_tmod u' m;have tb:(u'.tmod m).natAbs<m.natAbs:=by rw[Int.natAbs_tmod];exact yP _ (by omega)
 rw[aG,kj];have ev:(u'.tmod m+m)%m=u'%m:=by
  rw[Int.add_emod_right]
  conv=>rhs;rw[<-t]
  rw[Int.mul_add_emod_self_left]
 rw[ev];refine⟨u'%m,rfl,yU _ (by omega),y4 _ (by omega),?_⟩;have e2:=yT u' m;have:u'%m*x-1=u'*x-1-m*(u'/m*x):=by
  rw[<-zP];have:u'%m*x=u'*x-m*(u'/m)*x:=by
   rw[<-yt]
   congr 1
   omega
  omega
 rw[this];exact yz d1 (xD ..)
def W8{x m:Int}(hm:1<=m):(x.tmod m+m).tmod m=x%m/\0<=x.tmod m+m/\x.tmod m+m<2*m/\ -m<x.tmod m:=by
 have t:=Int.mul_tdiv_add_tmod x m;have tb:(x.tmod m).natAbs<m.natAbs:=by rw[Int.natAbs_tmod];exact yP _ (by omega)
 refine⟨?_,by omega,by omega,by omega⟩;rw[kj,Int.add_emod_right]
 conv=>rhs;rw[<-t]
 rw[Int.mul_add_emod_self_left]
def IK(X Y Z:Int->Int)(sa P M K:Int):af aH:=
 bif J (M<K)then V iJ else if¬P=(0:Int)then bif J (K=i64.wrap (K+i64.wrap (i64.wrap ((i64.wrap (M-K)).tdiv P)*P)))then V (gL (X K))else V (aH.mk (Y K) (Z K) (i64.wrap (P*sa)))else S
def GU{X Y Z:Int->Int}{sa P M K:Int}(h1:1<=sa)(h2:1<=P)(h3:0<=K)(h4:M<=4398046511104)(h5:M*sa<=4398046511104):∃c,IK X Y Z sa P M K=V c/\fo c=J (M<K):=by
 unfold IK;by_cases c:M<K
 ·rw[bW c];exact⟨cG,rfl,iI⟩
 ·rw[bX c,bA,ig];have q0:0<=(M-K)/P:=zQ (by omega) (by omega);have q1:(M-K)/P<=M-K:=ye _ (by omega);have q2:(M-K)/P*P<=M-K:=y9 _ (by omega);have q3:0<=(M-K)/P*P:=zF q0 (by omega);rw[aG (n:=M-K),jU,aG (n:=(M-K)/P),aG (n:=(M-K)/P*P),aG (n:=K+(M-K)/P*P)];by_cases e:K=K+(M-K)/P*P
  ·rw[bW e];refine⟨gL (X K),rfl,ew λk=> ?_⟩;have k1:X K=1:=congrArg aH.ag k;have k2:X K=0:=congrArg aH.ah k;omega
  ·rw[bX e];refine⟨_,rfl,ew λk=> ?_⟩;have k3:i64.wrap (P*sa)=0:=congrArg aH.ai k;have q5:1<=(M-K)/P:=by
    rcases (show (M-K)/P=0\/1<=(M-K)/P by omega)with z|z
    ·rw[z,xT]at e;omega
    ·exact z
   have q6:1*P<=(M-K)/P*P:=zN q5 (by omega);have q7:P*sa<=M*sa:=zN (by omega) (by omega);have q8:1*1<=P*sa:=xA h2 h1 (by omega) (by omega);rw[aG]at k3;omega
def Uq(X Y Z:Int->Int)(sa P M L k:Int):af aH:=
 if¬sa=(0:Int)then if¬sa=(0:Int)then bif J (k<L)then if¬P=(0:Int)then IK X Y Z sa P M (i64.wrap (k+i64.wrap (i64.wrap ((i64.wrap (i64.wrap (i64.wrap (L-k)+P)-1)).tdiv P)*P)))else S else IK X Y Z sa P M k else S else S
def D0{X Y Z:Int->Int}{sa P M L k:Int}(h1:1<=sa)(h2:1<=P)(h3:0<=k)(hk:k<P)(hP:P<=4398046511104)(h4:M<=4398046511104)(h5:M*sa<=4398046511104)(hL:0<=L)(hL2:L<=4398046511104):
  ∃c,Uq X Y Z sa P M L k=V c/\(fo c=G↔∃j,L<=j/\j<=M/\P∣j-k):=by
 unfold Uq;rw[ig,ig];by_cases c:k<L
 ·have q0:0<=(L-k+P-1)/P:=zQ (by omega) (by omega);have q2:(L-k+P-1)/P*P<=L-k+P-1:=y9 _ (by omega);have q1:(L-k+P-1)/P<=L-k+P-1:=ye _ (by omega);have q3:0<=(L-k+P-1)/P*P:=zF q0 (by omega);have q4:=wW (L-k+P-1) (show 0<P by omega);rw[zR,z6]at q4;rw[bW c,bD,ig,aG (n:=L-k),aG (n:=L-k+P),aG (n:=L-k+P-1),jU,aG (n:=(L-k+P-1)/P),aG (n:=(L-k+P-1)/P*P),aG (n:=k+(L-k+P-1)/P*P)];obtain⟨r,e,hr⟩:=GU (X:=X) (Y:=Y) (Z:=Z) (K:=k+(L-k+P-1)/P*P) h1 h2 (by omega) h4 h5;refine⟨r,e,?_⟩;rw[hr];constructor
  ·intro hd;have:=of_decide_eq_false hd;exact⟨k+(L-k+P-1)/P*P,by omega,by omega,by rw[show k+(L-k+P-1)/P*P-k=(L-k+P-1)/P*P by omega];exact xC ..⟩
  ·rintro⟨j,j1,j2,t,j3⟩;rw[zI]at j3;refine bX ?_;have:(L-k+P-1)/P<=t:=by
    have:(L-k+P-1)/P<t+1:=wL (a:=P) (by rw[zR,z6];omega) (by omega);omega
   have:=zN this (show 0<=P by omega);omega
 ·rw[bX c,bA];obtain⟨r,e,hr⟩:=GU (X:=X) (Y:=Y) (Z:=Z) (K:=k) h1 h2 h3 h4 h5;refine⟨r,e,?_⟩;rw[hr];constructor
  ·intro hd;have:=of_decide_eq_false hd;exact⟨k,by omega,by omega,⟨0,by omega⟩⟩
  ·rintro⟨j,j1,j2,t,j3⟩;rw[zI]at j3;refine bX ?_;have:0<=t:=Decidable.byContradiction λh=>by
    have:t*P<= -1*P:=zN (by omega) (by omega);omega
   have:=zF this (show 0<=P by omega);omega
def kS{a b:aH}(ha:NN a)(hb:NN b)(h1:1<=a.ai)(x:Int):(bT a x/\bT b x)↔∃j:Int,x=a.ag+j*a.ai/\max a.ag b.ag<=x/\x<=min a.ah b.ah/\b.ai∣j*a.ai-(b.ag-a.ag):=by
 constructor
 ·rintro⟨⟨x1,x2,j,x3⟩,⟨z1,z2,z3⟩⟩;rw[zI]at x3;exact⟨j,by omega,by omega,by omega,by rw[<-x3,show x-a.ag-(b.ag-a.ag)=x-b.ag by omega];exact z3⟩
 ·rintro⟨j,e,h2,h3,h4⟩;refine⟨⟨by omega,by omega,⟨j,by rw[zI];omega⟩⟩,⟨by omega,by omega,?_⟩⟩;rw[show x-b.ag=j*a.ai-(b.ag-a.ag)by omega];exact h4
def mH{lo s x low high j:Int}(hs:1<=s)(hl:lo<=low)(hx:x=lo+j*s):(low<=x/\x<=high)↔((low-lo+s-1)/s<=j/\j<=(high-lo)/s):=by
 have q2:(low-lo+s-1)/s*s<=low-lo+s-1:=y9 _ (by omega);have q4:=wW (low-lo+s-1) (show 0<s by omega);rw[zR,z6]at q4;constructor
 ·rintro⟨h1,h2⟩;refine⟨?_,Int.le_ediv_of_mul_le (by omega) (by omega)⟩;have:(low-lo+s-1)/s<j+1:=wL (a:=s) (by rw[zR,z6];omega) (by omega);omega
 ·rintro⟨h1,h2⟩;have k1:=zN h1 (show 0<=s by omega);have k2:j*s<=high-lo:=xU (zN h2 (by omega)) (y9 _ (by omega));exact⟨by omega,by omega⟩
def afc{a b:aH}(ha:NN a)(hb:NN b)(h1:1<=a.ai)(h2:1<=b.ai):∃c,ada a b=V c/\(fo c=G↔∃x,bT a x/\bT b x):=by
 have a1:=ha.lo;have a2:=ha.hi;have a3:=ha.le;have a4:=ha.sle;have b1:=hb.lo;have b2:=hb.hi;have b3:=hb.le;have b4:=hb.sle;have g0:=lu a.ai b.ai;have gl:=jZ a.ai b.ai;have gr:=oZ a.ai b.ai;have gpos:1<=cn a.ai b.ai:=by
  rcases (show cn a.ai b.ai=0\/1<=cn a.ai b.ai by omega)with z|z
  ·rw[z]at gl;have:=xV.mp gl;omega
  ·exact z
 have hcop:yD (a.ai/cn a.ai b.ai) (b.ai/cn a.ai b.ai)=1:=Int.gcd_ediv_gcd_ediv_gcd (show 0<yD a.ai b.ai by unfold cn at gpos;omega);unfold ada;rw[Fq (by omega) (by omega)];simp only;generalize cn a.ai b.ai=g at*;rw[show (if b.ah<a.ah then b.ah else a.ah)=min a.ah b.ah by split<;>omega,show (if a.ag<b.ag then b.ag else a.ag)=max a.ag b.ag by split<;>omega];by_cases c1:min a.ah b.ah<max a.ag b.ag
 ·rw[bW c1];refine⟨cG,rfl,?_⟩;rw[iI];exact⟨λk=>(by cases k),λ⟨x,x1,x2⟩=>by have:=x1.1;have:=x1.2.1;have:=x2.1;have:=x2.2.1;omega⟩
 ·rw[bX c1,bA,bG (show ¬@Eq Int g 0 by omega),aG (n:=b.ag-a.ag)];simp only;by_cases c2:(b.ag-a.ag).tmod g=0
  ·rw[bW c2];simp only[bD,bA];have eA:i64.wrap (a.ai.tdiv g)=a.ai/g:=by
    have:=ye (a:=a.ai) g (by omega);have:=zQ (a:=a.ai) (b:=g) (by omega) (by omega);rw[jU,aG]
   have eP:i64.wrap (b.ai.tdiv g)=b.ai/g:=by
    have:=ye (a:=b.ai) g (by omega);have:=zQ (a:=b.ai) (b:=g) (by omega) (by omega);rw[jU,aG]
   have mA:a.ai/g*g=a.ai:=wv gl;have mP:b.ai/g*g=b.ai:=wv gr;have hA0:0<=a.ai/g:=zQ (by omega) (by omega);have hA1:a.ai/g<=a.ai:=ye _ (by omega);have hP1:b.ai/g<=b.ai:=ye _ (by omega);have hP0:1<=b.ai/g:=by
    have:0<=b.ai/g:=zQ (by omega) (by omega);rcases (show b.ai/g=0\/1<=b.ai/g by omega)with z|z
    ·rw[z,xT]at mP;omega
    ·exact z
   rw[eA,eP];obtain⟨D,hD⟩:=Int.dvd_of_tmod_eq_zero c2;have eD:(b.ag-a.ag).tdiv g=D:=by rw[hD];exact Int.mul_tdiv_cancel_left _ (by omega)
   have dnat:D.natAbs<=(b.ag-a.ag).natAbs:=by rw[<-eD,Int.natAbs_tdiv];exact Nat.div_le_self _ _
   rw[eD];generalize a.ai/g=A at*;generalize b.ai/g=P at*;have el:i64.wrap (i64.wrap (i64.wrap (max a.ag b.ag-a.ag)+a.ai)-1)=max a.ag b.ag-a.ag+a.ai-1:=by
    rw[aG (n:=max a.ag b.ag-a.ag),aG (n:=max a.ag b.ag-a.ag+a.ai),aG]
   have l0:0<=(max a.ag b.ag-a.ag+a.ai-1)/a.ai:=zQ (by omega) (by omega);have l1:(max a.ag b.ag-a.ag+a.ai-1)/a.ai<=max a.ag b.ag-a.ag+a.ai-1:=ye _ (by omega);have h0:0<=(min a.ah b.ah-a.ag)/a.ai:=zQ (by omega) (by omega);have hh1:(min a.ah b.ah-a.ag)/a.ai<=min a.ah b.ah-a.ag:=ye _ (by omega);have hh2:(min a.ah b.ah-a.ag)/a.ai*a.ai<=min a.ah b.ah-a.ag:=y9 _ (by omega);rw[el,aG (n:=min a.ah b.ah-a.ag),jU (a:=max a.ag b.ag-a.ag+a.ai-1) (by omega),jU (a:=min a.ah b.ah-a.ag) (by omega),
    aG (n:=(max a.ag b.ag-a.ag+a.ai-1)/a.ai),aG (n:=(min a.ah b.ah-a.ag)/a.ai)]
   have cm:∀k,P∣k*A-D↔b.ai∣k*a.ai-(b.ag-a.ag):=λk=>by
    have e:k*a.ai-(b.ag-a.ag)=(k*A-D)*g:=by rw[hD,<-mA,yt,zP,zI D g]
    rw[e,<-mP];exact⟨λh=>Int.mul_dvd_mul_right _ h,λh=>Int.dvd_of_mul_dvd_mul_right (by omega) h⟩
   have fin:∀k0,(∀k,P∣k*A-D↔P∣k-k0)->((∃j,(max a.ag b.ag-a.ag+a.ai-1)/a.ai<=j/\j<=(min a.ah b.ah-a.ag)/a.ai/\P∣j-k0)↔∃x,bT a x/\bT b x):=λk0 hk=>by
    constructor
    ·rintro⟨j,j1,j2,j3⟩;have r:=(mH (lo:=a.ag) (s:=a.ai) (low:=max a.ag b.ag) (high:=min a.ah b.ah) (j:=j) h1 (by omega) rfl).mpr ⟨j1,j2⟩;exact⟨_,(kS ha hb h1 _).mpr ⟨j,rfl,r.1,r.2,(cm j).mp ((hk j).mpr j3)⟩⟩
    ·rintro⟨x,hx⟩;obtain⟨j,e,x1,x2,x3⟩:=(kS ha hb h1 x).mp hx;have r:=(mH (lo:=a.ag) (s:=a.ai) (low:=max a.ag b.ag) (high:=min a.ah b.ah) (j:=j) h1 (by omega) e).mp ⟨x1,x2⟩;exact⟨j,r.1,r.2,(hk j).mp ((cm j).mpr x3)⟩
   rw[bG (show ¬@Eq Int g 0 by omega)];by_cases c3:1<P
   ·rw[bW c3,bD,bG (show ¬@Eq Int g 0 by omega),ig,ig,bG (show ¬@Eq Int g 0 by omega),ig];have m0:=yU A (b:=P) (by omega);have m1:=y4 A (b:=P) (by omega);have hg:yD (A%P) P=1:=by
     have:=pW (a:=A) (b:=P) hA0 (by omega);rw[kj hA0]at this;rw[Int.gcd_comm,this,hcop]
    obtain⟨v,e1,v0,v1,v2⟩:=aeR (x:=A%P) (m:=P) m0 (by omega) (by omega) hg;rw[kj hA0,e1];simp only;obtain⟨f1,f2,f3,f4⟩:=W8 (x:=D) (m:=P) (by omega);have d0:=yU D (b:=P) (by omega);have d1:=y4 D (b:=P) (by omega);rw[aG (n:=D),aG (n:=D.tmod P+P),f1,ap5 d0 d1 v0 v1 (by omega)];simp only;have k0:=yU (D%P*v) (b:=P) (by omega);have k1:=y4 (D%P*v) (b:=P) (by omega);have vA:P∣v*A-1:=by
     have e:=yT A P;have t:v*A-1=v*(A%P)-1+P*(v*(A/P)):=by
      conv=>lhs;rw[<-e]
      rw[y5,Int.mul_left_comm v P];omega
     rw[t];exact yV v2 (xD ..)
    have hk:∀k,P∣k*A-D↔P∣k-D%P*v%P:=λk=>by
     have e1:P∣D*v-D%P*v%P:=by
      have t1:=yT (D%P*v) P;have t2:=yT D P;have:D*v-D%P*v%P=P*(D/P*v)+P*(D%P*v/P):=by
       have:D*v=P*(D/P*v)+D%P*v:=by
        conv=>lhs;rw[<-t2]
        rw[zR,zP]
       omega
      rw[this];exact yV (xD ..) (xD ..)
     constructor
     ·intro h;have t:=yz (zU h (xD _ v)) (zU vA (xD _ k));have t2:(k*A-D)*v-(v*A-1)*k=k-D*v:=by
       rw[yt,yt,z6,zP,zI (v*A) k,zI A v];omega
      rw[t2]at t;have:=yV t e1
      rwa [show k-D*v+(D*v-D%P*v%P)=k-D%P*v%P by omega]at this
     ·intro h;have t:=yz h e1;rw[show k-D%P*v%P-(D*v-D%P*v%P)=k-D*v by omega]at t;have t2:=yV (zU t (xD _ A)) (zU vA (xD _ D));have t3:(k-D*v)*A+(v*A-1)*D=k*A-D:=by
       rw[yt,yt,z6,zP,zI (v*A) D];omega
      rwa [t3]at t2
    obtain⟨c,e,hc⟩:=D0 (X:=λK=>i64.wrap (a.ag+i64.wrap (K*a.ai))) (Y:=λK=>i64.wrap (a.ag+i64.wrap (K*a.ai))) (Z:=λK=>i64.wrap (a.ag+i64.wrap (i64.wrap (K+i64.wrap (i64.wrap ((i64.wrap ((min a.ah b.ah-a.ag)/a.ai-K)).tdiv P)*P))*a.ai)))
     h1 hP0 k0 k1 (by omega) (M:=(min a.ah b.ah-a.ag)/a.ai) (by omega) (by omega) l0 (by omega)
    exact⟨c,e,hc.trans (fin _ hk)⟩
   ·have p1:P=1:=by omega
    rw[bX c3,bA];obtain⟨c,e,hc⟩:=D0 (X:=λK=>i64.wrap (a.ag+i64.wrap (K*a.ai))) (Y:=λK=>i64.wrap (a.ag+i64.wrap (K*a.ai))) (Z:=λK=>i64.wrap (a.ag+i64.wrap (i64.wrap (K+i64.wrap (i64.wrap ((i64.wrap ((min a.ah b.ah-a.ag)/a.ai-K)).tdiv P)*P))*a.ai)))
     h1 hP0 (k:=0) (by omega) (by omega) (by omega) (M:=(min a.ah b.ah-a.ag)/a.ai) (by omega) (by omega) l0 (by omega)
    exact⟨c,e,hc.trans (fin 0 λk=>by subst p1;exact⟨λ_=>Int.one_dvd _,λ_=>Int.one_dvd _⟩)⟩
  ·rw[bX c2];refine⟨cG,rfl,?_⟩;rw[iI];refine⟨λk=>(by cases k),λ⟨x,hx⟩=> ?_⟩;obtain⟨j,e,x1,x2,x3⟩:=(kS ha hb h1 x).mp hx;exfalso;apply c2;have k1:=zU gr x3;have k2:=yz (zU gl (xC j _)) k1;rw[show j*a.ai-(j*a.ai-(b.ag-a.ag))=b.ag-a.ag by omega]at k2;exact Int.tmod_eq_zero_of_dvd k2
def CK{a:aH}(h:NN a)(h0:a.ai=0)(x:Int):bT a x↔x=a.ag:=by
 constructor
 ·rintro⟨h1,h2,h3⟩;rw[h0]at h3;have:=xV.mp h3;omega
 ·rintro rfl;exact di h
def DF{M:aH->aH->af aH}{a b:aH}(ha:NN a)(hb:NN b)(h0:a.ai=0):∃c,uL M a b=V c/\(fo c=G↔∃x,bT a x/\bT b x):=by
 unfold uL;rw[ew ha.ne,ew hb.ne];simp only[bA];rw[bW h0,bD,KC (.inr hb)];simp only;by_cases h:bT b a.ag
 ·rw[l8 h];exact⟨a,rfl,λ_=>⟨_,di ha,h⟩,λ_=>ew ha.ne⟩
 ·rw[jh h];refine⟨cG,rfl,λk=> ?_,λ⟨x,h1,h2⟩=> ?_⟩
  ·rw[iI]at k;cases k
  ·rw[(CK ha h0 x).mp h1]at h2;exact dF h2 h
def ahK{a b:aH}(ha:NN a)(hb:NN b):∃c,agc a b=V c/\(fo c=G↔∃x,bT a x/\bT b x):=by
 have cm:(∃x,bT b x/\bT a x)↔∃x,bT a x/\bT b x:=⟨λ⟨x,h1,h2⟩=>⟨x,h2,h1⟩,λ⟨x,h1,h2⟩=>⟨x,h2,h1⟩⟩;have s0:=ha.s0;have t0:=hb.s0;by_cases h0:a.ai=0
 ·obtain⟨c,e,h⟩:=DF (M:=λ_ _=>S) ha hb h0;refine⟨c,eT 1 λn hn=> ?_,h⟩;obtain⟨k,rfl⟩:∃k,n=k+1:=⟨n-1,by omega⟩;obtain⟨c',e',h'⟩:=DF (M:=Bj k) ha hb h0;have:uL (Bj k) a b=uL (λ_ _=>S) a b:=by
   unfold uL;rw[ew ha.ne,ew hb.ne];simp only[bA];rw[bW h0];simp only[bD]
  exact this.trans e
 ·by_cases k0:b.ai=0
  ·obtain⟨c,e,h⟩:=DF (M:=λ_ _=>S) hb ha k0;refine⟨c,eT 2 λn hn=> ?_,h.trans cm⟩;obtain⟨k,rfl⟩:∃k,n=k+1+1:=⟨n-2,by omega⟩;have:uL (Bj k) b a=uL (λ_ _=>S) b a:=by
    unfold uL;rw[ew ha.ne,ew hb.ne];simp only[bA];rw[bW k0];simp only[bD]
   have e1:Bj (k+1) b a=V c:=this.trans e;show uL (Bj (k+1)) a b=V c;unfold uL;rw[ew ha.ne,ew hb.ne];simp only[bA];rw[bX h0,bA,bW k0,bD,e1]
  ·obtain⟨c,e,h⟩:=afc ha hb (by omega) (by omega);refine⟨c,eT 1 λn hn=> ?_,h⟩;obtain⟨k,rfl⟩:∃k,n=k+1:=⟨n-1,by omega⟩;show uL (Bj k) a b=V c;unfold uL;rw[ew ha.ne,ew hb.ne];simp only[bA];rw[bX h0,bA,bX k0,bA,e]
def RB{a:aH}(h:NN a)(k:1<ct a):1<=a.ai:=by
 have:=jX h;have:=h.le;rcases h.st with ⟨e,_⟩|⟨_,e,_⟩
 ·have:=(jX h).mpr e;omega
 ·exact e
def early{a b:aH}(ha:NN a)(hb:NN b)(h1:1<=a.ai)(h2:1<=b.ai){low high:Int}(el:low=max a.ag b.ag)(eh:high=min a.ah b.ah):
  (∃x,bT a x/\bT b x)↔∃k:Nat,(k:Int)<b.ai/cn a.ai b.ai/\a.ag+((low-a.ag+a.ai-1)/a.ai)*a.ai+(k:Int)*a.ai<=high/\bT b (a.ag+((low-a.ag+a.ai-1)/a.ai)*a.ai+(k:Int)*a.ai):=by
 have gl:=jZ a.ai b.ai;have gr:=oZ a.ai b.ai;have g0:=lu a.ai b.ai;have mP:b.ai/cn a.ai b.ai*cn a.ai b.ai=b.ai:=wv gr;have gpos:1<=cn a.ai b.ai:=by
  rcases (show cn a.ai b.ai=0\/1<=cn a.ai b.ai by omega)with z|z
  ·rw[z]at gl;have:=xV.mp gl;omega
  ·exact z
 have hP0:1<=b.ai/cn a.ai b.ai:=by
  have:0<=b.ai/cn a.ai b.ai:=zQ (by omega) (by omega);rcases (show b.ai/cn a.ai b.ai=0\/1<=b.ai/cn a.ai b.ai by omega)with z|z
  ·rw[z,xT]at mP;omega
  ·exact z
 have per:b.ai∣b.ai/cn a.ai b.ai*a.ai:=by
  obtain⟨q,hq⟩:=gl;generalize cn a.ai b.ai=g at*;rw[hq,<-zP,mP];exact xD ..
 generalize b.ai/cn a.ai b.ai=P at*;subst el eh;generalize hL:(max a.ag b.ag-a.ag+a.ai-1)/a.ai=L;constructor
 ·rintro⟨x,hx⟩;obtain⟨j,e,x1,x2,x3⟩:=(kS ha hb h1 x).mp hx;have r:=(mH (lo:=a.ag) (s:=a.ai) (low:=max a.ag b.ag) (high:=min a.ah b.ah) (j:=j) h1 (by omega) e).mp ⟨x1,x2⟩;rw[hL]at r;have m0:=yU (j-L) (b:=P) (by omega);have m1:=y4 (j-L) (b:=P) (by omega);have m2:=yT (j-L) P;have q0:0<=(j-L)/P:=zQ (by omega) (by omega);have ex:a.ag+L*a.ai+(j-L)%P*a.ai=x-(j-L)/P*(P*a.ai):=by
   have:j*a.ai=(P*((j-L)/P)+(j-L)%P+L)*a.ai:=by congr 1;omega
   rw[zR,zR,zI P,zP]at this;omega
  have hp:0<=(j-L)/P*(P*a.ai):=zF q0 (zF (by omega) (by omega));have r2:=(mH (lo:=a.ag) (s:=a.ai) (low:=max a.ag b.ag) (high:=min a.ah b.ah) (x:=a.ag+(L+(j-L)%P)*a.ai) (j:=L+(j-L)%P) h1 (by omega) rfl).mpr
   ⟨by rw[hL];omega,by
    have:(j-L)%P<=j-L:=by
     have:=zF (show 0<=P by omega) q0;omega
    omega⟩
  rw[zR,<-Int.add_assoc]at r2;refine⟨((j-L)%P).toNat,by omega,?_⟩;rw[Int.toNat_of_nonneg m0];refine⟨r2.2,by omega,by omega,?_⟩;rw[ex,show x-(j-L)/P*(P*a.ai)-b.ag=x-b.ag-(j-L)/P*(P*a.ai)by omega];exact yz hx.2.2.2 (zU per (xC ..))
 ·rintro⟨k,k1,k2,k3⟩;have e:a.ag+L*a.ai+(k:Int)*a.ai=a.ag+(L+(k:Int))*a.ai:=by rw[zR];omega
  rw[e]at k2 k3;have l0:=(mH (lo:=a.ag) (s:=a.ai) (low:=max a.ag b.ag) (high:=a.ag+(L+(k:Int))*a.ai) (x:=a.ag+(L+(k:Int))*a.ai) (j:=L+(k:Int)) h1 (by omega) rfl).mpr
   ⟨by rw[hL];omega,by rw[show a.ag+(L+(k:Int))*a.ai-a.ag=(L+(k:Int))*a.ai by omega,Int.mul_ediv_cancel _ (by omega)];exact zq _⟩
  exact⟨_,(kS ha hb h1 _).mpr ⟨_,rfl,l0.1,k2,by
   have:=k3.2.2
   rwa [show a.ag+(L+(k:Int))*a.ai-b.ag=(L+(k:Int))*a.ai-(b.ag-a.ag)by omega]at this⟩⟩
def O5{g P k n high sb:Int}(hg:1<=g)(hP:i64.wrap (sb.tdiv g)=P):(if¬g=(0:Int)then bif J (k<i64.wrap (sb.tdiv g))then V (J (n<=high))else V G else S)=V (J (k<P/\n<=high)):=by
 rw[ig,hP];by_cases c:k<P
 ·rw[bW c,bD];by_cases d:n<=high
  ·rw[bW d,bW ⟨c,d⟩]
  ·rw[bX d,bX (λe=>d e.2)]
 ·rw[bX c,bA,bX (λe=>c e.1)]
def afx{M:aH->aH->af Bool}{a b:aH}(hb:NN b){g P high n0:Int}(hg:1<=g)(hP:i64.wrap (b.ai.tdiv g)=P)(hP1:P<=4398046511104)(hs:1<=a.ai)(hs2:a.ai<=4398046511104)(hh:high<=1099511627776)(hn: -1099511627776<=n0)(hP0:0<=P):
  (match tE M (jv.mk high g n0 0 a b)with
   |none=>S
   |some r10=>match if¬r10.t7=(0:Int)then bif J (r10.t9<i64.wrap (r10.b1.ai.tdiv r10.t7))then V (J (r10.t8<=r10.t6))else V G else S with
    |none=>S
    |some r11=>bif r11 then match m32 r10.b1 r10.t8 with
     |none=>S
     |some r12=>bif r12 then V O else S
     else V G)=V (open Classical in J (∃k:Nat,(k:Int)<P/\n0+(k:Int)*a.ai<=high/\bT b (n0+(k:Int)*a.ai))):=by
 obtain⟨z,e1,⟨k,rfl,hk,hI⟩,hstop⟩:=lF (rnd:=vD M) (λp=>∃k:Nat,p=jv.mk high g (n0+(k:Int)*a.ai) (k:Int) a b/\(k:Int)<=P/\∀i:Nat,i<k->¬bT b (n0+(i:Int)*a.ai))
  (λp=>(P-p.t9).toNat) (λp p' ⟨k,hp,hk,hI⟩ hq=>by
   subst hp;have hq:vD M (jv.mk high g (n0+(k:Int)*a.ai) (k:Int) a b)=V (V p'):=hq;unfold vD at hq;simp only at hq;rw[O5 hg hP]at hq;by_cases c:(k:Int)<P/\n0+(k:Int)*a.ai<=high
   ·rw[bW c]at hq;simp only[bD]at hq;rw[CC (.inr hb)]at hq;simp only at hq;by_cases d:bT b (n0+(k:Int)*a.ai)
    ·rw[l8 d]at hq;cases hq
    ·rw[jh d]at hq;have k0:0<=(k:Int)*a.ai:=zF (by omega) (by omega);rw[bA,aG (n:=n0+(k:Int)*a.ai+a.ai),aG (n:=(k:Int)+1)]at hq;simp only[zA.injEq]at hq;subst hq;refine⟨⟨k+1,?_,by omega,λi hi=> ?_⟩,by show (P-((k:Int)+1)).toNat<(P-(k:Int)).toNat;omega⟩
     ·rw[show ((k+1:Nat):Int)=(k:Int)+1 by omega,zR,z6,Int.add_assoc]
     ·rcases y8.mp hi with q|rfl
      ·exact hI i q
      ·exact d
   ·rw[bX c]at hq;cases hq) (p:=jv.mk high g n0 0 a b) ⟨0,by simp,by simpa using hP0,λi hi=>dF hi (yF _)⟩
 rw[show tE M=bK (vD M)from rfl,e1];simp only;rw[O5 hg hP];by_cases c:(k:Int)<P/\n0+(k:Int)*a.ai<=high
 ·rw[bW c];simp only[bD];rw[CC (.inr hb)];simp only;by_cases d:bT b (n0+(k:Int)*a.ai)
  ·rw[l8 d,bD]
   congr 1
   exact(@decide_eq_true _ (Classical.propDecidable _) ⟨k,c.1,c.2,d⟩).symm
  ·exfalso;refine hstop (jv.mk high g (i64.wrap (n0+(k:Int)*a.ai+a.ai)) (i64.wrap ((k:Int)+1)) a b) ?_;unfold vD;simp only;rw[O5 hg hP,bW c];simp only[bD];rw[CC (.inr hb),jh d];rfl
 ·rw[bX c];simp only[bA]
  congr 1
  refine(@decide_eq_false _ (Classical.propDecidable _) ?_).symm;rintro⟨i,i1,i2,i3⟩;rcases Nat.lt_or_ge i k with q|q
  ·exact hI i q i3
  ·apply c;have:(k:Int)*a.ai<=(i:Int)*a.ai:=zN (by omega) (by omega);exact⟨by omega,by omega⟩
def iB(a b:aH):Bool:=open Classical in J (∃x,bT a x/\bT b x)
def iK{a b:aH}:iB a b=O↔∃x,bT a x/\bT b x:=by unfold iB;exact @decide_eq_true_iff _ (Classical.propDecidable _)
def nB{a b:aH}(h:¬∃x,bT a x/\bT b x):iB a b=G:=by
 cases e:iB a b with
 |false=>rfl
 |true=>exact dF (iK.mp e) h
def N5(a b:aH):iB a b=iB b a:=by
 by_cases h:∃x,bT a x/\bT b x
 ·obtain⟨x,h1,h2⟩:=h;rw[iK.mpr ⟨x,h1,h2⟩,iK.mpr ⟨x,h2,h1⟩]
 ·rw[nB h,nB (λ⟨x,h1,h2⟩=>h ⟨x,h2,h1⟩)]
def BO{M:aH->aH->af Bool}{a b:aH}(ha:NN a)(hb:NN b)(h1:1<=a.ai)(h2:1<=b.ai){low high:Int}(el:low=max a.ag b.ag)(eh:high=min a.ah b.ah):
  (match Er a.ai b.ai with
   |none=>S
   |some r8=>match bif J (high<low)then V O else if¬r8=(0:Int)then V (bif J (Int.tmod (jS a.ag b.ag) r8=0)then G else O)else S with
    |none=>S
    |some r9=>bif r9 then V G else if¬a.ai=(0:Int)then
     match tE M (jv.mk high r8 (i64.wrap (a.ag+i64.wrap (i64.wrap ((i64.wrap (i64.wrap (i64.wrap (low-a.ag)+a.ai)-1)).tdiv a.ai)*a.ai))) 0 a b)with
     |none=>S
     |some r10=>match if¬r10.t7=(0:Int)then bif J (r10.t9<i64.wrap (r10.b1.ai.tdiv r10.t7))then V (J (r10.t8<=r10.t6))else V G else S with
      |none=>S
      |some r11=>bif r11 then match m32 r10.b1 r10.t8 with
       |none=>S
       |some r12=>bif r12 then V O else S
       else V G
     else S)=V (iB a b):=by
 have a1:=ha.lo;have a2:=ha.hi;have a3:=ha.le;have a4:=ha.sle;have b1:=hb.lo;have b2:=hb.hi;have b3:=hb.le;have b4:=hb.sle;have gl:=jZ a.ai b.ai;have gr:=oZ a.ai b.ai;have g0:=lu a.ai b.ai;have gpos:1<=cn a.ai b.ai:=by
  rcases (show cn a.ai b.ai=0\/1<=cn a.ai b.ai by omega)with z|z
  ·rw[z]at gl;have:=xV.mp gl;omega
  ·exact z
 have hE:=early ha hb h1 h2 el eh;rw[B5 (by omega) (by omega)];simp only;by_cases c1:high<low
 ·rw[bW c1,nB (λ⟨x,x1,x2⟩=>by have:=x1.1;have:=x1.2.1;have:=x2.1;have:=x2.2.1;omega)];rfl
 ·rw[bX c1,bA,bG (show ¬@Eq Int (cn a.ai b.ai) 0 by omega)];simp only;by_cases c2:Int.tmod (jS a.ag b.ag) (cn a.ai b.ai)=0
  ·rw[bW c2];simp only[bD,bA];have l1:(low-a.ag+a.ai-1)/a.ai<=low-a.ag+a.ai-1:=ye _ (by omega);have l0:0<=(low-a.ag+a.ai-1)/a.ai:=zQ (by omega) (by omega);have l2:(low-a.ag+a.ai-1)/a.ai*a.ai<=low-a.ag+a.ai-1:=y9 _ (by omega);have l3:0<=(low-a.ag+a.ai-1)/a.ai*a.ai:=zF l0 (by omega);have p0:0<=b.ai/cn a.ai b.ai:=zQ (by omega) (by omega);have p1:b.ai/cn a.ai b.ai<=b.ai:=ye _ (by omega);have eP:i64.wrap (b.ai.tdiv (cn a.ai b.ai))=b.ai/cn a.ai b.ai:=by
    rw[jU,aG]
   rw[ig,aG (n:=low-a.ag),aG (n:=low-a.ag+a.ai),aG (n:=low-a.ag+a.ai-1),jU,
    aG (n:=(low-a.ag+a.ai-1)/a.ai),aG (n:=(low-a.ag+a.ai-1)/a.ai*a.ai),aG (n:=a.ag+(low-a.ag+a.ai-1)/a.ai*a.ai)]
   refine(afx hb gpos eP (by omega) h1 (by omega) (by omega) (by omega) p0).trans ?_
   congr 1
   by_cases h:∃x,bT a x/\bT b x
   ·rw[iK.mpr h];exact @decide_eq_true _ (Classical.propDecidable _) (hE.mp h)
   ·rw[nB h];exact @decide_eq_false _ (Classical.propDecidable _) (λk=>h (hE.mpr k))
  ·have hno:¬∃x,bT a x/\bT b x:=by
    rintro⟨x,x1,x2⟩;apply c2;have k1:=zU gl x1.2.2;have k2:=zU gr x2.2.2;have k3:=yz k2 k1;rw[show x-b.ag-(x-a.ag)=a.ag-b.ag by omega]at k3;apply Int.tmod_eq_zero_of_dvd;obtain⟨r1,r2⟩:=ha.ri;obtain⟨r3,r4⟩:=hb.ri;unfold jS;by_cases c:a.ag<b.ag
    ·rw[bW c,bD,aG];have:=Int.dvd_neg.mpr k3
     rwa [show-(a.ag-b.ag)=b.ag-a.ag by omega]at this
    ·rw[bX c,bA,aG];exact k3
   rw[bX c2,nB hno];rfl
def T8{M:aH->aH->af Bool}{a b:aH}(ha:NN a)(hb:NN b)(hs:ct a<=ct b):X7 M a b=V (iB a b):=by
 unfold X7;rw[gj (.inr ha),gj (.inr hb)];simp only;rw[bX (show ¬@LT.lt Int _ (ct b) (ct a)by omega),bA];have hp:=size_pos ha;by_cases c:ct a=1
 ·rw[bW c,bD,CC (.inr hb)];simp only
  congr 1
  have e:=(jX ha).mp c;have s:a.ai=0:=by rcases ha.st with k|k;exact k.2;omega
  by_cases h:bT b a.ag
  ·rw[l8 h,iK.mpr ⟨_,di ha,h⟩]
  ·rw[jh h,nB (λ⟨x,x1,x2⟩=>h (by rw[<-(CK ha s x).mp x1];exact x2))]
 ·rw[bX c,bA];have h1:=RB ha (by omega);have h2:=RB hb (by omega);by_cases d:a.ag<b.ag<;>by_cases e:b.ah<a.ah
  ·rw[bW d,bW e];exact BO ha hb h1 h2 (by omega) (by omega)
  ·rw[bW d,bX e];exact BO ha hb h1 h2 (by omega) (by omega)
  ·rw[bX d,bW e];exact BO ha hb h1 h2 (by omega) (by omega)
  ·rw[bX d,bX e];exact BO ha hb h1 h2 (by omega) (by omega)
def ajR{a b:aH}(ha:NN a)(hb:NN b):ao2 a b=V (iB a b):=eT 2 λn hn=>by
 obtain⟨k,rfl⟩:∃k,n=k+1+1:=⟨n-2,by omega⟩;by_cases hs:ct a<=ct b
 ·exact T8 (M:=He (k+1)) ha hb hs
 ·have e1:He (k+1) b a=V (iB b a):=T8 (M:=He k) hb ha (by omega);show X7 (He (k+1)) a b=_;unfold X7;rw[gj (.inr ha),gj (.inr hb)];simp only;rw[bW (show @LT.lt Int _ (ct b) (ct a)by omega),bD,e1,N5]
def ko(a b:aH):Bool:=J (1<ct a)||J (1<ct b)||J (a.ag≠b.ag)
def ry{a:aH}(h:NN a)(k:¬1<ct a):a.ag=a.ah:=(jX h).mp (by have:=size_pos h;omega)
def GG{a b:aH}(ha:NN a)(hb:NN b):ko a b=O↔∃x z,bT a x/\bT b z/\x≠z:=by
 have a3:=ha.le;have b3:=hb.le;unfold ko;by_cases c1:1<ct a
 ·rw[bW c1];refine⟨λ_=> ?_,λ_=>rfl⟩;have:a.ag≠a.ah:=λe=>by have:=(jX ha).mpr e;omega
  by_cases e:a.ag=b.ag
  ·exact⟨_,_,gu ha,di hb,by omega⟩
  ·exact⟨_,_,di ha,di hb,e⟩
 ·by_cases c2:1<ct b
  ·rw[bX c1,bW c2];refine⟨λ_=> ?_,λ_=>rfl⟩;have:b.ag≠b.ah:=λe=>by have:=(jX hb).mpr e;omega
   by_cases e:a.ag=b.ag
   ·exact⟨_,_,di ha,gu hb,by omega⟩
   ·exact⟨_,_,di ha,di hb,e⟩
  ·have e1:=ry ha c1;have e2:=ry hb c2;by_cases e:a.ag=b.ag
   ·rw[bX c1,bX c2,bX (λk=>k e)];exact⟨λk=>(by cases k),λ⟨x,z,hx,hz,k⟩=>by have:=hx.1;have:=hx.2.1;have:=hz.1;have:=hz.2.1;omega⟩
   ·rw[bX c1,bX c2,bW e];exact⟨λ_=>⟨_,_,di ha,di hb,e⟩,λ_=>rfl⟩
def uA(op:Int)(a b:aH):Bool×Bool:=
 if op=13 then(ko a b,iB a b)else if op=14 then(iB a b,ko a b)
 else if op=15 then(J (b.ag<=a.ah),J (a.ag<b.ah))else if op=16 then(J (b.ag<a.ah),J (a.ag<=b.ah))
 else if op=17 then(J (a.ag<=b.ah),J (b.ag<a.ah))else if op=18 then(J (a.ag<b.ah),J (b.ag<=a.ah))
 else if op=19 then(cV a 0||cV b 0,cI a&&cI b)else(cV a 0&&cV b 0,cI a||cI b)
def uj(op:Int):Prop:=13<=op/\op<=20
def pZ(p:Bool):nr p=1↔p=true:=by cases p<;>decide
def oR(p:Bool):nr p=0↔p=false:=by cases p<;>decide
def iQ{op:Int}(h:uj op):op=13\/op=14\/op=15\/op=16\/op=17\/op=18\/op=19\/op=20:=by
 obtain⟨h1,h2⟩:=h;omega
def Fp{op:Int}(h:uj op)(x z:Int):fK op x z=0\/fK op x z=1:=by
 have k:∀p:Bool,nr p=0\/nr p=1:=λp=>by cases p<;>decide
 rcases iQ h with rfl|rfl|rfl|rfl|rfl|rfl|rfl|rfl<;>exact k _
def Sq{op:Int}{a b:aH}(h:uj op)(ha:NN a)(hb:NN b):(uA op a b).2=O↔∃x z,bT a x/\bT b z/\fK op x z=1:=by
 rcases iQ h with rfl|rfl|rfl|rfl|rfl|rfl|rfl|rfl
 ·show iB a b=O↔∃x z,bT a x/\bT b z/\nr (J (x=z))=1;rw[iK];exact⟨λ⟨x,h1,h2⟩=>⟨x,x,h1,h2,by rw[pZ];exact bW rfl⟩,λ⟨x,z,h1,h2,h3⟩=>by
   rw[pZ]at h3;have:=of_decide_eq_true h3;subst this;exact⟨x,h1,h2⟩⟩
 ·show ko a b=O↔∃x z,bT a x/\bT b z/\nr (!J (x=z))=1;rw[GG ha hb];exact⟨λ⟨x,z,h1,h2,h3⟩=>⟨x,z,h1,h2,by rw[pZ,bX h3];rfl⟩,λ⟨x,z,h1,h2,h3⟩=>⟨x,z,h1,h2,λe=>by rw[pZ,bW e]at h3;cases h3⟩⟩
 ·show J (a.ag<b.ah)=O↔∃x z,bT a x/\bT b z/\nr (J (x<z))=1;refine⟨λk=>⟨_,_,di ha,gu hb,by rw[pZ];exact k⟩,λ⟨x,z,h1,h2,h3⟩=> ?_⟩;rw[pZ]at h3;have:=of_decide_eq_true h3;exact bW (by have:=h1.1;have:=h2.2.1;omega)
 ·show J (a.ag<=b.ah)=O↔∃x z,bT a x/\bT b z/\nr (J (x<=z))=1;refine⟨λk=>⟨_,_,di ha,gu hb,by rw[pZ];exact k⟩,λ⟨x,z,h1,h2,h3⟩=> ?_⟩;rw[pZ]at h3;have:=of_decide_eq_true h3;exact bW (by have:=h1.1;have:=h2.2.1;omega)
 ·show J (b.ag<a.ah)=O↔∃x z,bT a x/\bT b z/\nr (J (z<x))=1;refine⟨λk=>⟨_,_,gu ha,di hb,by rw[pZ];exact k⟩,λ⟨x,z,h1,h2,h3⟩=> ?_⟩;rw[pZ]at h3;have:=of_decide_eq_true h3;exact bW (by have:=h1.2.1;have:=h2.1;omega)
 ·show J (b.ag<=a.ah)=O↔∃x z,bT a x/\bT b z/\nr (J (z<=x))=1;refine⟨λk=>⟨_,_,gu ha,di hb,by rw[pZ];exact k⟩,λ⟨x,z,h1,h2,h3⟩=> ?_⟩;rw[pZ]at h3;have:=of_decide_eq_true h3;exact bW (by have:=h1.2.1;have:=h2.1;omega)
 ·show (cI a&&cI b)=O↔∃x z,bT a x/\bT b z/\nr (J (x≠0/\z≠0))=1;rw[zi,kY (.inr ha),kY (.inr hb)];constructor
  ·rintro⟨⟨x,h1,h2⟩,⟨z,h3,h4⟩⟩;exact⟨x,z,h1,h3,by rw[pZ];exact bW ⟨h2,h4⟩⟩
  ·rintro⟨x,z,h1,h2,h3⟩;rw[pZ]at h3;have:=of_decide_eq_true h3;exact⟨⟨x,h1,this.1⟩,⟨z,h2,this.2⟩⟩
 ·show (cI a||cI b)=O↔∃x z,bT a x/\bT b z/\nr (J (x≠0\/z≠0))=1;rw[yL,kY (.inr ha),kY (.inr hb)];constructor
  ·rintro(⟨x,h1,h2⟩|⟨z,h3,h4⟩)
   ·exact⟨x,_,h1,di hb,by rw[pZ];exact bW (.inl h2)⟩
   ·exact⟨_,z,di ha,h3,by rw[pZ];exact bW (.inr h4)⟩
  ·rintro⟨x,z,h1,h2,h3⟩;rw[pZ]at h3;rcases of_decide_eq_true h3 with k|k
   ·exact .inl ⟨x,h1,k⟩
   ·exact .inr ⟨z,h2,k⟩
def Zq{op:Int}{a b:aH}(h:uj op)(ha:NN a)(hb:NN b):(uA op a b).1=O↔∃x z,bT a x/\bT b z/\fK op x z=0:=by
 rcases iQ h with rfl|rfl|rfl|rfl|rfl|rfl|rfl|rfl
 ·show ko a b=O↔∃x z,bT a x/\bT b z/\nr (J (x=z))=0;rw[GG ha hb];exact⟨λ⟨x,z,h1,h2,h3⟩=>⟨x,z,h1,h2,by rw[oR];exact bX h3⟩,λ⟨x,z,h1,h2,h3⟩=>⟨x,z,h1,h2,λe=>by rw[oR,bW e]at h3;cases h3⟩⟩
 ·show iB a b=O↔∃x z,bT a x/\bT b z/\nr (!J (x=z))=0;rw[iK];exact⟨λ⟨x,h1,h2⟩=>⟨x,x,h1,h2,by rw[oR,bW rfl];rfl⟩,λ⟨x,z,h1,h2,h3⟩=>by
   rw[oR]at h3;by_cases e:x=z
   ·subst e;exact⟨x,h1,h2⟩
   ·rw[bX e]at h3;cases h3⟩
 ·show J (b.ag<=a.ah)=O↔∃x z,bT a x/\bT b z/\nr (J (x<z))=0;refine⟨λk=>⟨_,_,gu ha,di hb,by rw[oR];exact bX (by have:=of_decide_eq_true k;omega)⟩,λ⟨x,z,h1,h2,h3⟩=> ?_⟩;rw[oR]at h3;have:=of_decide_eq_false h3;exact bW (by have:=h1.2.1;have:=h2.1;omega)
 ·show J (b.ag<a.ah)=O↔∃x z,bT a x/\bT b z/\nr (J (x<=z))=0;refine⟨λk=>⟨_,_,gu ha,di hb,by rw[oR];exact bX (by have:=of_decide_eq_true k;omega)⟩,λ⟨x,z,h1,h2,h3⟩=> ?_⟩;rw[oR]at h3;have:=of_decide_eq_false h3;exact bW (by have:=h1.2.1;have:=h2.1;omega)
 ·show J (a.ag<=b.ah)=O↔∃x z,bT a x/\bT b z/\nr (J (z<x))=0;refine⟨λk=>⟨_,_,di ha,gu hb,by rw[oR];exact bX (by have:=of_decide_eq_true k;omega)⟩,λ⟨x,z,h1,h2,h3⟩=> ?_⟩;rw[oR]at h3;have:=of_decide_eq_false h3;exact bW (by have:=h1.1;have:=h2.2.1;omega)
 ·show J (a.ag<b.ah)=O↔∃x z,bT a x/\bT b z/\nr (J (z<=x))=0;refine⟨λk=>⟨_,_,di ha,gu hb,by rw[oR];exact bX (by have:=of_decide_eq_true k;omega)⟩,λ⟨x,z,h1,h2,h3⟩=> ?_⟩;rw[oR]at h3;have:=of_decide_eq_false h3;exact bW (by have:=h1.1;have:=h2.2.1;omega)
 ·show (cV a 0||cV b 0)=O↔∃x z,bT a x/\bT b z/\nr (J (x≠0/\z≠0))=0;rw[yL,mK,mK];constructor
  ·rintro(h1|h1)
   ·exact⟨0,_,h1,di hb,by rw[oR];exact bX (λk=>k.1 rfl)⟩
   ·exact⟨_,0,di ha,h1,by rw[oR];exact bX (λk=>k.2 rfl)⟩
  ·rintro⟨x,z,h1,h2,h3⟩;rw[oR]at h3;have:=of_decide_eq_false h3;by_cases e:x=0
   ·subst e;exact .inl h1
   ·by_cases e2:z=0
    ·subst e2;exact .inr h2
    ·exact dF ⟨e,e2⟩ this
 ·show (cV a 0&&cV b 0)=O↔∃x z,bT a x/\bT b z/\nr (J (x≠0\/z≠0))=0;rw[zi,mK,mK];constructor
  ·rintro⟨h1,h2⟩;exact⟨0,0,h1,h2,by rw[oR];exact bX (λk=>k.elim (λe=>e rfl) (λe=>e rfl))⟩
  ·rintro⟨x,z,h1,h2,h3⟩;rw[oR]at h3;have:=of_decide_eq_false h3;by_cases e:x=0
   ·by_cases e2:z=0
    ·subst e e2;exact⟨h1,h2⟩
    ·exact dF (.inr e2) this
   ·exact dF (.inl e) this
def OE{op:Int}{a b:aH}(h:uj op)(ha:NN a)(hb:NN b):((uA op a b).1||(uA op a b).2)=O:=by
 rw[yL];rcases Fp h a.ag b.ag with e|e
 ·exact .inl ((Zq h ha hb).mpr ⟨_,_,di ha,di hb,e⟩)
 ·exact .inr ((Sq h ha hb).mpr ⟨_,_,di ha,di hb,e⟩)
def Qa{P:Int->Prop}{no yes:Bool}(h:∀y,P y->y=0\/y=1)(h0:no=O↔P 0)(h1:yes=O↔P 1)(ho:(no||yes)=O):dz P (iH no yes):=by
 cases no with
 |true=>
  have p0:=h0.mp rfl;cases yes with
  |true=>
   have p1:=h1.mp rfl;refine⟨p0,p1,λy hy=> ?_,by decide,λd hd=> ?_⟩
   ·rcases h y hy with rfl|rfl
    ·exact⟨by decide,by decide,⟨0,rfl⟩⟩
    ·exact⟨by decide,by decide,⟨1,rfl⟩⟩
   ·exact hd 1 p1
  |false=>
   refine⟨p0,p0,λy hy=> ?_,by decide,λd _=>xB d⟩;rcases h y hy with rfl|rfl
   ·exact⟨by decide,by decide,⟨0,rfl⟩⟩
   ·exact dF (h1.mpr hy) (by decide)
 |false=>
  cases yes with
  |true=>
   have p1:=h1.mp rfl;refine⟨p1,p1,λy hy=> ?_,by decide,λd _=>xB d⟩;rcases h y hy with rfl|rfl
   ·exact dF (h0.mpr hy) (by decide)
   ·exact⟨by decide,by decide,⟨0,rfl⟩⟩
  |false=>cases ho
def Xg{op:Int}{a b:aH}(h:uj op)(ha:NN a)(hb:NN b):dz (rN op a b) (iH (uA op a b).1 (uA op a b).2):=
 Qa (λy ⟨x,z,_,_,e⟩=>by rw[e];exact Fp h x z)
  ((Zq h ha hb).trans ⟨λ⟨x,z,h1,h2,e⟩=>⟨x,z,h1,h2,e.symm⟩,λ⟨x,z,h1,h2,e⟩=>⟨x,z,h1,h2,e.symm⟩⟩)
  ((Sq h ha hb).trans ⟨λ⟨x,z,h1,h2,e⟩=>⟨x,z,h1,h2,e.symm⟩,λ⟨x,z,h1,h2,e⟩=>⟨x,z,h1,h2,e.symm⟩⟩) (OE h ha hb)
def aDm{x y:Int}:(bif J (x=y)then G else O)=J (x≠y):=by
 by_cases h:x=y
 ·rw[bW h,bX (λk=>k h)];rfl
 ·rw[bX h,bW h];rfl
def aiz{op:Int}{a b:aH}(h:uj op)(ha:NN a)(hb:NN b):XY op a b=V (iH (uA op a b).1 (uA op a b).2):=by
 obtain⟨c,e,hc⟩:=ahK ha hb;have em:fo c= !iB a b:=by
  cases k:fo c with
  |true=>rw[nB (λx=>by have:=hc.mpr x;rw[k]at this;cases this)];rfl
  |false=>rw[iK.mpr (hc.mp k)];rfl
 have ed:(bif J (1<ct a)then V O else bif J (1<ct b)then V O else V (J (a.ag≠b.ag)))=V (ko a b):=by
  unfold ko;cases J (1<ct a)<;>cases J (1<ct b)<;>rfl
 unfold XY;rw[e];simp only;rw[kB (.inr ha),kB (.inr hb)];simp only;rw[aDm,ed,BI (.inr ha),BI (.inr hb)];simp only;rw[em];simp only[R7];rcases iQ h with rfl|rfl|rfl|rfl|rfl|rfl|rfl|rfl
 all_goals simp only[Int.reduceEq,eR,cR,bA,bD]
 ·show _=V (iH (ko a b) (iB a b));cases iB a b<;>rfl
 ·show _=V (iH (iB a b) (ko a b));cases iB a b<;>rfl
 ·rfl
 ·rfl
 ·rfl
 ·rfl
 ·show _=V (iH (cV a 0||cV b 0) (cI a&&cI b));cases cV a 0<;>cases cI a<;>cases cV b 0<;>cases cI b<;>rfl
 ·show _=V (iH (cV a 0&&cV b 0) (cI a||cI b));cases cV a 0<;>cases cI a<;>cases cV b 0<;>cases cI b<;>rfl
def diff_eq{a:aH}(h:NN a):ko a a=J (1<ct a):=by
 unfold ko;rw[bX (show ¬a.ag≠a.ag from λk=>k rfl)];cases J (1<ct a)<;>rfl
def RL{a b:aH}(ha:NN a)(hb:NN b)(h:a≠b):ko a b=O:=by
 unfold ko;by_cases c1:1<ct a
 ·rw[bW c1];rfl
 ·by_cases c2:1<ct b
  ·rw[bX c1,bW c2];rfl
  ·by_cases c3:a.ag=b.ag
   ·exfalso;have e1:=ry ha c1;have e2:=ry hb c2;exact h (BM c3 (by omega) (by rcases ha.st with k|k<;>rcases hb.st with l|l<;>omega))
   ·rw[bW c3,Bool.or_true]
def TF{op:Int}{a b:aH}(h:uj op)(ha:NN a)(hb:NN b):BB op a b=V (iH (uA op a b).1 (uA op a b).2):=by
 have ho:=OE h ha hb;rw[<-agW ho];unfold BB;rw[ajR ha hb,Ua (.inr ha),Ua (.inr hb)];simp only;rw[gj (.inr ha)];simp only;rcases iQ h with rfl|rfl|rfl|rfl|rfl|rfl|rfl|rfl
 all_goals simp only[Int.reduceEq,eR,cR,bA,bD]
 ·show _=V (jW (ko a b) (iB a b));by_cases e:a=b
  ·subst e;rw[G2,diff_eq ha];rfl
  ·rw[Hl e,RL ha hb e];rfl
 ·show _=V (jW (iB a b) (ko a b));by_cases e:a=b
  ·subst e;rw[G2,diff_eq ha];rfl
  ·rw[Hl e,RL ha hb e];rfl
 ·rfl
 ·rfl
 ·rfl
 ·rfl
 ·show _=V (jW (cV a 0||cV b 0) (cI a&&cI b));cases cV a 0<;>cases cI a<;>cases cV b 0<;>cases cI b<;>rfl
 ·show _=V (jW (cV a 0&&cV b 0) (cI a||cI b));cases cV a 0<;>cases cI a<;>cases cV b 0<;>cases cI b<;>rfl
def ZJ{op:Int}{a b:aH}(h:uj op)(ha:NN a)(hb:NN b):Rf op a b:=by
 have hbin:binop op:=by
  obtain⟨h1,h2⟩:=h;exact⟨by omega,by omega⟩
 refine⟨(iH (uA op a b).1 (uA op a b).2,0),ng hbin ha hb ?_,?_,tV _ _⟩
 ·rw[aiz h ha hb];rcases iQ h with rfl|rfl|rfl|rfl|rfl|rfl|rfl|rfl<;>rfl
 ·by_cases hs:cnt a*cnt b<=4096
  ·rw[nZ hbin ha hb hs];rcases BJ hbin ha hb (by omega)with ⟨_,c,e,k⟩|⟨k,_⟩
   ·rw[e,k.uniq (Xg h ha hb)]
   ·exact dF (λy ⟨x,z,_,_,e⟩=>by rw[e];rcases Fp h x z with q|q<;>rw[q]<;>exact⟨by decide,by decide⟩) k
  ·rw[vp hbin ha hb hs];unfold Va;rw[TF h ha hb];rcases iQ h with rfl|rfl|rfl|rfl|rfl|rfl|rfl|rfl<;>rfl
def XU{op:Int}{a b:aH}(h:Mp op)(ha:NN a)(hb:NN b):Rf op a b:=by
 obtain⟨c,e1,e2,hv⟩:=YL h ha hb;have hbin:binop op:=by unfold binop;rcases h with rfl|rfl|rfl|rfl<;>decide
 refine⟨(c,0),ng hbin ha hb ?_,e2,hv⟩;rw[e1];rcases h with rfl|rfl|rfl|rfl<;>rfl
def Nr(op:Int){a b:aH}(ha:NV a)(hb:NV b):Rf op a b:=by
 by_cases ho:binop op
 ·rcases ha with rfl|ha
  ·refine⟨(cG,0),?_,?_, .inl rfl⟩
   ·unfold tN;rw[eH,eH,dY (.inl rfl),dY hb,jK,bW ho,iI];rfl
   ·unfold oL;rw[gp,gp,dY (.inl rfl),dY hb,show Px op=BC op from rfl,jK,bW ho,nX];rfl
  ·rcases hb with rfl|hb
   ·refine⟨(cG,0),?_,?_, .inl rfl⟩
    ·unfold tN;rw[eH,eH,dY (.inl rfl),dY (.inr ha),jK,bW ho,iI,ew ha.ne];rfl
    ·unfold oL;rw[gp,gp,dY (.inl rfl),dY (.inr ha),show Px op=BC op from rfl,jK,bW ho,nX,iA ha];rfl
   ·obtain⟨o1,o2⟩:=ho;rcases (show op=8\/op=9\/op=10\/(op=11\/op=12\/op=21\/op=22)\/(13<=op/\op<=20)by omega)with rfl|rfl|rfl|h|h
    ·exact aa2 ha hb
    ·exact Z7 ha hb
    ·exact YA ha hb
    ·exact XU h ha hb
    ·exact ZJ h ha hb
 ·refine⟨(aH.mk 0 0 0,1),?_,?_,PM⟩
  ·unfold tN;rw[eH,eH,dY ha,dY hb,jK,bX ho];rfl
  ·unfold oL;rw[gp,gp,dY ha,dY hb,show Px op=BC op from rfl,jK,bX ho];rfl
abbrev oI:=Int
def d117:Td 0 oI:= .c [] [4] (.r 0 0 (ec 4 aM en) sn (λz=>z.1.1) (λx=>((x,()),(()))))
def aqU:=(lc (qg 137) (bk ln))
def aof(M:au->Int->af oI):bf->bf:=eL w9 117 G aqU d117 (λg=>M g.1 g.2.1)
def adC(M:au->Int->af oI):Prop:=HL w9 117 aqU d117 (λg=>M g.1 g.2.1)
def Sg{M:au->Int->af oI}(hM:adC M){F:bf}(h:aQ w9 F):aQ w9 (aof M F):=cT (sc:=jM) cv hM ⟨_,func117,by kernel_rfl,by kernel_rfl⟩ (λ_=>by kernel_rfl) (λ_=>by kernel_rfl) h
def ado(M117:au->Int->af oI):bf:=(aof M117 de)
def aib{M117}(h117:adC M117):aQ w9 (ado M117):=(Sg h117 aP)
structure EB where
 (t1 t5:Int)
 b0:au
def Ow:Td 0 EB:= .c [] [1,2,5] (.r 0 1 (ec 1 aM (ec 2 (qp 0 0) (ec 5 aM en))) (sb 0 137 (lg 137) sn) (λz=>⟨z.1.1,z.1.t.1,z.2.1⟩) (λx=>((x.t1,(),x.t5,()),(x.b0,()))))
def JN(M117:au->Int->af oI)(p:EB):af (af EB):=
 match bif J (p.t5<p.b0.aq.length)then V (J (0<=p.t1))else V G with|S=>S|V r1=>bif r1 then if 0<=p.t5/\p.t5<p.b0.aq.length then match M117 (au.mk p.b0.aq[p.t5.toNat]!.bC p.b0.aq[p.t5.toNat]!.fN p.b0.aq[p.t5.toNat]!.aq) p.t1 with|S=>S|V r2=>V (V (EB.mk r2 (i64.wrap (p.t5+1)) (au.mk p.b0.bC p.b0.fN p.b0.aq)))else S else V (S)
def abD(M117:au->Int->af oI):An:=(.two (.two (.rb [] 16) .no) .no)
def JW(M117:au->Int->af oI):=bK (JN M117)
def akR(M117:au->Int->af oI):An:=(noTwo (noTwo (.two (noTwo (Ow.lp (JW M117) (abD M117))) .no)))
def auh{M117}:∀f∈([]:aa Nat),bw (ado M117) f:=aF
def axE(M117:au->Int->af oI):cU w9 (ado M117) 0 300 117 (akR M117):=bB (l:=[(bg f117 0,(Ow.lp (JW M117) (abD M117))),(.skip,(.rb [] 16))]) func117 (aV (by kernel_rfl)) (by kernel_rfl) (aA (aO Ow) (aA auh aF))
def aha(M117:au->Int->af oI)(a0:au)(a1:Int):af oI:=
 match JW M117 (EB.mk (i64.wrap (a1-1)) 0 (au.mk a0.bC a0.fN a0.aq))with|S=>S|V r3=>match bif J (r3.t5<r3.b0.aq.length)then V (J (0<=r3.t1))else V G with|S=>S|V r4=>bif r4 then if 0<=r3.t5/\r3.t5<r3.b0.aq.length then match M117 (au.mk r3.b0.aq[r3.t5.toNat]!.bC r3.b0.aq[r3.t5.toNat]!.fN r3.b0.aq[r3.t5.toNat]!.aq) r3.t1 with|S=>S|V r5=>S else S else V (r3.t1)
def aDz(M117:au->Int->af oI)(a0:au)(a1:Int):bM w9 (ado M117) 300 (akR M117) 117 (aqU.c (a0,a1,())) [] 0 d117.rd=aha M117 a0 a1:=by kernel_rfl
def alx:Nat->(au->Int->af oI)
 |0=>(λ_ _=>S)
 |n+1=>(aha (alx n))
def Q0(n:Nat):au->Int->af oI:=(alx n)
def KY:∀n,adC (Q0 n)
 |0=>λ_ _ h=>(by cases h)
 |n+1=>by
  have ih:=KY n;have i117:=ih;exact(cH (aib i117) (axE (Q0 n)) (λ_=>by kernel_rfl) (λ_=>by kernel_rfl) λg=>aDz (Q0 n) g.1 g.2.1)
def QG:au->Int->af oI:=λa0 a1=>lim (λn=>Q0 n a0 a1)
def afy:adC QG:=λg b h=>by
 obtain⟨n,hn⟩:=dN (show lim (λn=>Q0 n g.1 g.2.1)=V b from h);exact(KY n) g b hn
def aqW(F:bf):bf:=aof QG F
def Ry{F:bf}(h:aQ w9 F):aQ w9 (aqW F):=Sg afy h
abbrev pG:=Int
def d116:Td 0 pG:= .c [] [4] (.r 0 0 (ec 4 aM en) sn (λz=>z.1.1) (λx=>((x,()),(()))))
def apZ:=(lc (ql 166) (bk ln))
def aoT(M:(aa ay)->Int->af pG):bf->bf:=eL w9 116 G apZ d116 (λg=>M g.1 g.2.1)
def ahL(M:(aa ay)->Int->af pG):Prop:=HL w9 116 apZ d116 (λg=>M g.1 g.2.1)
def TN{M:(aa ay)->Int->af pG}(hM:ahL M){F:bf}(h:aQ w9 F):aQ w9 (aoT M F):=cT (sc:=jM) cv hM ⟨_,func116,by kernel_rfl,by kernel_rfl⟩ (λ_=>by kernel_rfl) (λ_=>by kernel_rfl) h
def adz(M116:(aa ay)->Int->af pG):bf:=(aqW (aoT M116 de))
def aeq{M116}(h116:ahL M116):aQ w9 (adz M116):=(Ry (TN h116 aP))
structure CJ where
 t0:List ay
 (t1 t5:Int)
def PY:Td 0 CJ:= .c [] [0,1,5] (.r 0 0 (ec 0 (ql 166) (ec 1 aM (ec 5 aM en))) sn (λz=>⟨z.1.1,z.1.2.1,z.1.t.1⟩) (λx=>((x.t0,x.t1,x.t5,()),(()))))
def Dn(M116:(aa ay)->Int->af pG)(p:CJ):af (af CJ):=
 match bif J (p.t5<p.t0.length)then V (J (0<=p.t1))else V G with|S=>S|V r1=>bif r1 then if 0<=p.t5/\p.t5<p.t0.length then match QG (au.mk p.t0[p.t5.toNat]!.az.bC p.t0[p.t5.toNat]!.az.fN p.t0[p.t5.toNat]!.az.aq) (i64.wrap (p.t1-1))with|S=>S|V r2=>if 0<=p.t5/\p.t5<p.t0.length then bif J (r2<(↑p.t0[p.t5.toNat]!.aJ.length:Int))then V (S)else if 0<=p.t5/\p.t5<p.t0.length then if 0<=p.t5/\p.t5<p.t0.length then if 0<=p.t5/\p.t5<p.t0.length then match M116 p.t0[p.t5.toNat]!.aL (i64.wrap (r2-(↑p.t0[p.t5.toNat]!.aJ.length:Int)))with|S=>S|V r3=>match M116 p.t0[p.t5.toNat]!.aR r3 with|S=>S|V r4=>V (V (CJ.mk p.t0 r4 (i64.wrap (p.t5+1))))else S else S else S else S else S else V (S)
def X0(M116:(aa ay)->Int->af pG):An:=(.two (.two (.rb [] 13) .no) .no)
def Ht(M116:(aa ay)->Int->af pG):=bK (Dn M116)
def alM(M116:(aa ay)->Int->af pG):An:=(noTwo (.two (noTwo (PY.lp (Ht M116) (X0 M116))) .no))
def az2{M116}:∀f∈([]:aa Nat),bw (adz M116) f:=aF
def atp(M116:(aa ay)->Int->af pG):cU w9 (adz M116) 0 300 116 (alM M116):=bB (l:=[(bg f116 0,(PY.lp (Ht M116) (X0 M116))),(.skip,(.rb [] 13))]) func116 (aV (by kernel_rfl)) (by kernel_rfl) (aA (aO PY) (aA az2 aF))
def aeY(M116:(aa ay)->Int->af pG)(a0:aa ay)(a1:Int):af pG:=
 match Ht M116 (CJ.mk a0 a1 0)with|S=>S|V r5=>match bif J (r5.t5<r5.t0.length)then V (J (0<=r5.t1))else V G with|S=>S|V r6=>bif r6 then if 0<=r5.t5/\r5.t5<r5.t0.length then match QG (au.mk r5.t0[r5.t5.toNat]!.az.bC r5.t0[r5.t5.toNat]!.az.fN r5.t0[r5.t5.toNat]!.az.aq) (i64.wrap (r5.t1-1))with|S=>S|V r7=>if 0<=r5.t5/\r5.t5<r5.t0.length then bif J (r7<(↑r5.t0[r5.t5.toNat]!.aJ.length:Int))then V (-1)else if 0<=r5.t5/\r5.t5<r5.t0.length then if 0<=r5.t5/\r5.t5<r5.t0.length then if 0<=r5.t5/\r5.t5<r5.t0.length then match M116 r5.t0[r5.t5.toNat]!.aL (i64.wrap (r7-(↑r5.t0[r5.t5.toNat]!.aJ.length:Int)))with|S=>S|V r8=>match M116 r5.t0[r5.t5.toNat]!.aR r8 with|S=>S|V r9=>S else S else S else S else S else S else V (r5.t1)
def aCv(M116:(aa ay)->Int->af pG)(a0:aa ay)(a1:Int):bM w9 (adz M116) 300 (alM M116) 116 (apZ.c (a0,a1,())) [] 0 d116.rd=aeY M116 a0 a1:=by kernel_rfl
def alj:Nat->((aa ay)->Int->af pG)
 |0=>(λ_ _=>S)
 |n+1=>(aeY (alj n))
def NY(n:Nat):(aa ay)->Int->af pG:=(alj n)
def LW:∀n,ahL (NY n)
 |0=>λ_ _ h=>(by cases h)
 |n+1=>by
  have ih:=LW n;have i116:=ih;exact(cH (aeq i116) (atp (NY n)) (λ_=>by kernel_rfl) (λ_=>by kernel_rfl) λg=>aCv (NY n) g.1 g.2.1)
def af8:(aa ay)->Int->af pG:=λa0 a1=>lim (λn=>NY n a0 a1)
def acX:ahL af8:=λg b h=>by
 obtain⟨n,hn⟩:=dN (show lim (λn=>NY n g.1 g.2.1)=V b from h);exact(LW n) g b hn
def at1(F:bf):bf:=aoT af8 F
def ai6{F:bf}(h:aQ w9 F):aQ w9 (at1 F):=TN acX h
def F53:bf:=(aqW (at1 de))
structure M8 where
 t7:Int
 t27:List dx
 (t28 t29:Int)
def abj:Td 0 M8:= .c [] [7,27,28,29] (.r 0 0 (ec 7 aM (ec 27 (ql 139) (ec 28 aM (ec 29 aM en)))) sn (λz=>⟨z.1.1,z.1.2.1,z.1.t.1,z.1.t.2.1⟩) (λx=>((x.t7,x.t27,x.t28,x.t29,()),(()))))
def MI(p:M8):af (af M8):=
 bif J (p.t29<p.t28)then if 0<=p.t29/\p.t29<p.t27.length then match QG (au.mk p.t27[p.t29.toNat]!.az.bC p.t27[p.t29.toNat]!.az.fN p.t27[p.t29.toNat]!.az.aq) p.t7 with|S=>S|V r1=>V (V (M8.mk r1 p.t27 p.t28 (i64.wrap (p.t29+1))))else S else V (S)
def R8:=bK (MI)
abbrev E53:=Bool
def d53:Td 0 E53:= .c [] [6] (.r 0 0 (ec 6 qb en) sn (λz=>z.1.1) (λx=>((x,()),(()))))
def aA4:∀f∈([]:aa Nat),bw (F53) f:=aF
def m53(a0:aN)(a1:Int)(a2:Int):af E53:=
 match bif J (a1<a0.aj.length)then V O else V (J (a1<a0.ak.length))with|S=>S|V r2=>bif r2 then V G else match af8 a0.bH a2 with|S=>S|V r3=>match R8 (M8.mk r3 a0.ak a0.ak.length 0)with|S=>S|V r4=>bif J (r4.t29<r4.t28)then if 0<=r4.t29/\r4.t29<r4.t27.length then match QG (au.mk r4.t27[r4.t29.toNat]!.az.bC r4.t27[r4.t29.toNat]!.az.fN r4.t27[r4.t29.toNat]!.az.aq) r4.t7 with|S=>S|V r5=>S else S else V (J (0<=r4.t7))
def e53:=eL w9 53 G (lc (qg 26) (bk (bk ln))) d53 (λg=>m53 g.1 g.2.1 g.t.1)
def arJ:EO e53:=λh=>kL (F:=F53) (an:=(noTwo (.two (.two (.rb [] 21) .no) (noTwo (.two (noTwo (abj.lp R8 .no)) .no))))) (l:=[(.skip,(.rb [] 21)),(bg f53 0,(abj.lp R8 .no))]) func53 (Ry (ai6 aP)) (aA aA4 (aA (aO abj) aF)) h
def KF:EP e53:=λh=>kP h
def au.eta(t:au):au.mk t.bC t.fN t.aq=t:=by cases t;rfl
def au.fm{t k:au}(h:k∈t.aq):zg k<zg t:=by
 cases t;have:=wX h;simp only[au.mk.sizeOf_spec];simp only at this;omega
def nT(t:au):Nat:=1+(t.aq.attach.map λk=>nT k.1).sum
termination_by zg t
decreasing_by exact au.fm k.2
def jr(l:aa au):Nat:=(l.map nT).sum
def tP(t:au):nT t=1+jr t.aq:=by
 rw[nT,jr]
 congr 2
 exact wz (f:=nT)
def qu(k:au)(ks:aa au):jr (k::ks)=nT k+jr ks:=by simp[jr]
def Tv{k:au}{ks:aa au}(h:k∈ks):nT k<=jr ks:=by
 induction ks with
 |nil=>cases h
 |cons a ks ih=>
  rw[qu];rcases zB.1 h with rfl|h
  ·omega
  ·have:=ih h;omega
def Ji(t:au):0<nT t:=by rw[tP];omega
def tl(t:au)(left:Int):Int:=if(nT t:Int)<=left then left-nT t else if 0<=left then-1 else left-1
def tls:aa au->Int->Int
 |[],l=>l
 |k::ks,l=>if 0<=l then tls ks (tl k l)else l
def XW:∀(ks:aa au) (l:Int),tls ks l=if 0<=l then(if(jr ks:Int)<=l then l-jr ks else-1)else l
 |[],l=>by simp[tls,jr];omega
 |k::ks,l=>by
  have e:=qu k ks;have:=Ji k;unfold tls;by_cases h:0<=l
  ·rw[bG h,bG h,XW ks,e];unfold tl;grind
  ·rw[bP h,bP h]
def auE(t:au)(left:Int):tl t left=tls t.aq (left-1):=by
 rw[XW,tl,tP];grind
def abe(t:au)(l:Int):(0<=l-> -1<=tl t l/\tl t l<=l-1)/\(l<0->tl t l=l-1):=by
 have:=Ji t;unfold tl;grind
def WT(M:au->Int->af oI)(t:au)(hM:∀k∈t.aq,∀l:Int,0<=l->l<=1000->M k l=V (tl k l)):
  ∀(ks:aa au) (i:Nat) (l:Int),t.aq.drop i=ks->i+ks.length=t.aq.length->l<=1000-i->∃q,JW M ⟨l,i,t⟩=V q/\q.t1=tls ks l/\q.b0=t/\(q.t5<t.aq.length->q.t1<0)
 |[],i,l,hd,hl,_=>by
  refine⟨_,cu λr=> ?_,rfl,rfl,λh=> ?_⟩
  ·have:¬((i:Int)<t.aq.length):=by simp at hl;omega
   simp[JN,this]
  ·simp at hl h;omega
 |k::ks,i,l,hd,hl,h2=>by
  have hil:i<t.aq.length:=by simp at hl;omega
  have hki:t.aq[i]! =k:=by
   have:t.aq[i]? =V k:=by
    have:=congrArg List.head? hd;rw[List.head?_drop]at this;simpa using this
   rw[List.getElem!_eq_getElem?_getD,this];rfl
  have hmem:k∈t.aq:=by rw[<-hki,getElem!_pos t.aq i hil];exact xM hil
  by_cases h0:0<=l
  ·have hd':t.aq.drop (i+1)=ks:=by
    have:=congrArg List.tail hd;rw[List.tail_drop]at this;simpa using this
   have b3:=((abe k l).1 h0).2;obtain⟨q,e1,e2,e3,e4⟩:=WT M t hM ks (i+1) (tl k l) hd' (by simp at hl;omega) (by omega);refine⟨q,?_,?_,e3,e4⟩
   ·rw[<-e1];refine bQ ?_;have hw:i64.wrap ((i:Int)+1)=((i+1:Nat):Int):=by rw[aG];omega
    have hk2:t.aq[i]=k:=by rw[<-hki,getElem!_pos t.aq i hil]
    simp[JN,hil,h0,hk2,au.eta,hM k hmem l h0 (by omega)];exact hw
   ·rw[e2];show _=if 0<=l then _ else _
    rw[bG h0]
  ·refine⟨_,cu λr=> ?_,?_,rfl,λh=> ?_⟩
   ·simp[JN,hil,h0]
   ·show l=if 0<=l then _ else l
    rw[bP h0]
   ·simp only;omega
def ag7(M:au->Int->af oI)(t:au)(hM:∀k∈t.aq,∀l:Int,0<=l->l<=1000->M k l=V (tl k l))(l:Int)(h1: -1000000<=l)(h2:l<=1000):aha M t l=V (tl t l):=by
 obtain⟨q,e1,e2,e3,e4⟩:=WT M t hM t.aq 0 (l-1) rfl (by simp) (by omega);have hw:i64.wrap (l-1)=l-1:=aG;rw[auE,<-e2];unfold aha;rw[hw,au.eta,show ((0:Nat):Int)=0 from rfl]at*;rw[e1];obtain⟨q1,q5,qb⟩:=q;subst e3;dsimp only at*;by_cases h5:q5<(qb.aq.length:Int)
 ·have:=e4 h5;simp[h5,show ¬(0<=q1)by omega]
 ·simp[h5]
def Th:∀(n:Nat) (t:au) (l:Int),zg t<n-> -1000000<=l->l<=1000->Q0 n t l=V (tl t l)
 |0,_,_,h,_,_=>by omega
 |n+1,t,l,h,h1,h2=>ag7 (Q0 n) t (λk hk l h3 h4=>Th n k l (by have:=au.fm hk;omega) (by omega) h4) l h1 h2
def Jt(t:au)(l:Int)(h1: -1000000<=l)(h2:l<=1000):QG t l=V (tl t l):=eT (zg t+1) λn hn=>Th n t l (by omega) h1 h2
def ay.then_lt{s k:ay}(h:k∈s.aL):zg k<zg s:=by
 cases s;have:=wX h;simp only[ay.mk.sizeOf_spec];simp only at this;omega
def ay.af7{s k:ay}(h:k∈s.aR):zg k<zg s:=by
 cases s;have:=wX h;simp only[ay.mk.sizeOf_spec];simp only at this;omega
def ay.eta(s:ay):ay.mk s.b9 s.bq s.dD s.fN s.az s.aL s.aR s.aJ=s:=by cases s;rfl
def nS(s:ay):Nat:=1+nT s.az+s.aJ.length+(s.aL.attach.map λk=>nS k.1).sum+(s.aR.attach.map λk=>nS k.1).sum
termination_by zg s
decreasing_by
 ·exact ay.then_lt k.2
 ·exact ay.af7 k.2
def fI(l:aa ay):Nat:=(l.map nS).sum
def oF(s:ay):nS s=1+nT s.az+s.aJ.length+fI s.aL+fI s.aR:=by
 rw[nS,fI,fI]
 congr 2
 ·congr 1
  exact wz (f:=nS)
 ·exact wz (f:=nS)
def mL(k:ay)(ks:aa ay):fI (k::ks)=nS k+fI ks:=by simp[fI]
def sl(l:aa ay)(left:Int):Int:=if left<0 then left else if(fI l:Int)<=left then left-fI l else-1
def rY(left:Int)(s:ay):af Int:=if left<0 then S else if tl s.az (left-1)<s.aJ.length then S else V (sl s.aR (sl s.aL (tl s.az (left-1)-s.aJ.length)))
def LU{left x:Int}{s:ay}(h:rY left s=V x):0<=left/\ -1<=x/\x<=left-1/\x=if(nS s:Int)<=left then left-nS s else-1:=by
 unfold rY at h;have e:=oF s;unfold tl sl at h;grind
def O3{left:Int}{s:ay}(h:rY left s=S)(h0:0<=left):left<nS s:=by
 unfold rY at h;have e:=oF s;unfold tl at h;grind
def akd:∀(l:aa ay) (left:Int),ki rY (λv _=>if v<0 then v else-1) id l left=sl l left
 |[],left=>by unfold sl;simp[fI,ki];omega
 |s::l,left=>by
  have e:=mL s l;unfold ki;cases hs:rY left s with
  |none=>
   have:=O3 hs;unfold sl;grind
  |some x=>
   obtain⟨h1,h2,h3,h4⟩:=LU hs;dsimp only;rw[akd l x];unfold sl;grind
def aji(M:aa ay->Int->af pG)(l:aa ay)(hM:∀s∈l,(∀x:Int,-1<=x->x<=1000->M s.aL x=V (sl s.aL x))/\(∀x:Int,-1<=x->x<=1000->M s.aR x=V (sl s.aR x)))(left:Int)(h1: -1<=left)(h2:left<=1000):
  aeY M l left=V (sl l left):=by
 have hstep:∀(i:Nat) (b:Int) (hi:i<l.length),b<=1000-i-> -1<=b->Dn M ⟨l,b,i⟩=if b<0 then V S else if tl l[i].az (b-1)<l[i].aJ.length then V S else V (V ⟨l,sl l[i].aR (sl l[i].aL (tl l[i].az (b-1)-l[i].aJ.length)),((i+1:Nat):Int)⟩):=λi b hi hb hb2=>by
  obtain⟨m1,m2⟩:=hM l[i] (xM hi);unfold Dn;by_cases h0:b<0
  ·simp[hi,h0,show ¬0<=b by omega]
  ·have e1:i64.wrap (b-1)=b-1:=aG;have e2:=Jt l[i].az (b-1) (by omega) (by omega);have e3:=abe l[i].az (b-1);have hT: -2<=tl l[i].az (b-1)/\tl l[i].az (b-1)<=1000:=by grind
   by_cases h4:tl l[i].az (b-1)<l[i].aJ.length
   ·simp[hi,h0,e1,au.eta,e2,h4,show 0<=b by omega]
   ·have e5:i64.wrap (tl l[i].az (b-1)-l[i].aJ.length)=tl l[i].az (b-1)-l[i].aJ.length:=aG;have e6:=m1 (tl l[i].az (b-1)-l[i].aJ.length) (by omega) (by omega);have hS: -1<=sl l[i].aL (tl l[i].az (b-1)-l[i].aJ.length)/\sl l[i].aL (tl l[i].az (b-1)-l[i].aJ.length)<=1000:=by unfold sl;grind
    have e7:=m2 _ hS.1 hS.2;have e8:i64.wrap ((i:Int)+1)=((i+1:Nat):Int):=by rw[aG];omega
    simp[hi,h0,e1,au.eta,e2,h4,e5,e6,e7,show 0<=b by omega];exact e8
 obtain⟨i,v,hi,e1,⟨e2,e3⟩,e4⟩:=GI (rnd:=Dn M) l (λi b=>⟨l,b,(i:Int)⟩) rY (λv _=>if v<0 then v else-1) id (λi b=>b<=1000-i/\ -1<=b) (λi b hi hI b' hs=>by
   obtain⟨q1,q2,q3,q4⟩:=LU hs;refine⟨?_,by omega,q2⟩;rw[hstep i b hi hI.1 hI.2];unfold rY at hs;grind) (λi b hi hI hs r=>by
   rw[hstep i b hi hI.1 hI.2];unfold rY at hs;grind) (λb hI r=>by simp[Dn]) (b:=left) ⟨by omega,h1⟩
 have e1':Ht M ⟨l,left,0⟩=V ⟨l,v,i⟩:=e1;unfold aeY;rw[e1'];rw[akd]at e4;rcases e4 with ⟨h5,e4⟩|⟨h5,hn,e4⟩
 ·simp[h5,e4]
 ·rw[e4];by_cases h0:v<0
  ·simp[h5,h0,show ¬(0<=v)by omega]
  ·have e1:i64.wrap (v-1)=v-1:=aG;have e2:=Jt l[i].az (v-1) (by omega) (by omega);have h4:tl l[i].az (v-1)<l[i].aJ.length:=by unfold rY at hn;grind
   simp[h5,h0,show 0<=v by omega,e1,au.eta,e2,h4]
def bt{s:ay}{l:aa ay}(h:s∈l):zg s.aL<zg l/\zg s.aR<zg l:=by
 have:=wX h;cases s;simp only[ay.mk.sizeOf_spec]at this;simp only;omega
def Iq:∀(n:Nat) (l:aa ay) (x:Int),zg l<n-> -1<=x->x<=1000->NY n l x=V (sl l x)
 |0,_,_,h,_,_=>by omega
 |n+1,l,x,h,h1,h2=>aji (NY n) l (λs hs=>⟨λx h3 h4=>Iq n _ x (by have:=bt hs;omega) h3 h4,λx h3 h4=>Iq n _ x (by have:=bt hs;omega) h3 h4⟩) x h1 h2
def ait(l:aa ay)(x:Int)(h1: -1<=x)(h2:x<=1000):af8 l x=V (sl l x):=eT (zg l+1) λn hn=>Iq n l x (by omega) h1 h2
def few(f:aN)(vars nodes:Int):Bool:=J ((f.aj.length:Int)<=vars/\(f.ak.length:Int)<=vars/\(fI f.bH+jr (f.ak.map (·.az)):Int)<=nodes)
def apJ(f:aN)(vars nodes:Int)(h1:0<=vars)(h2:vars<=1000)(h3:0<=nodes)(h4:nodes<=1000):m53 f vars nodes=V (few f vars nodes):=by
 unfold m53;by_cases q1:vars<f.aj.length
 ·simp[q1,few];omega
 ·by_cases q2:vars<f.ak.length
  ·simp[q1,q2,few];omega
  ·rw[ait _ _ (by omega) (by omega)];have hb:sl f.bH nodes<=1000/\ -1<=sl f.bH nodes:=by unfold sl;grind
   have hstep:∀(i:Nat) (b:Int) (hi:i<f.ak.length),b<=1000-> -1-(i:Int)<=b->MI ⟨b,f.ak,f.ak.length,i⟩=V (V ⟨tl f.ak[i].az b,f.ak,f.ak.length,((i+1:Nat):Int)⟩):=λi b hi hb hb2=>by
    have e2:=Jt f.ak[i].az b (by omega) (by omega);have e8:i64.wrap ((i:Int)+1)=((i+1:Nat):Int):=by rw[aG];omega
    unfold MI;simp[hi,au.eta,e2];exact e8
   obtain⟨i,v,hi,e1,_,e4⟩:=GI (rnd:=MI) f.ak (λi b=>⟨b,f.ak,f.ak.length,(i:Int)⟩) (λb h=>V (tl h.az b)) (λv _=>v) id (λi b=>b<=1000/\ -1-(i:Int)<=b) (λi b hi hI b' hs=>by
     cases hs;refine⟨hstep i b hi hI.1 hI.2,?_⟩;have:=abe f.ak[i].az b;grind) (λi b hi hI hs r=>by cases hs) (λb hI r=>by simp[MI]) (b:=sl f.bH nodes) ⟨hb.1,by omega⟩
   have e1':R8 ⟨sl f.bH nodes,f.ak,f.ak.length,0⟩=V ⟨v,f.ak,f.ak.length,i⟩:=e1;rcases e4 with ⟨h5,e4⟩|⟨_,hn,_⟩
   case inr=>cases hn
   have key:∀(l:aa dx) (b:Int),0<=ki (ρ:=Int) (λb h=>V (tl h.az b)) (λv _=>v) id l b↔(jr (l.map (·.az)):Int)<=b:=λl=>by
    induction l with
    |nil=>intro b;simp[ki,jr]
    |cons h l ih=>
     intro b;unfold ki;dsimp only;rw[ih,yc,qu];have:=Ji h.az;unfold tl;grind
   have k2:=key f.ak (sl f.bH nodes);rw[e4]at k2;have k3:(0<=v)↔(jr (f.ak.map (·.az)):Int)<=sl f.bH nodes:=k2;simp only[q1,q2,eR,bA,e1',h5,yo,few]
   congr 1
   rw[decide_eq_decide,k3];unfold sl;grind
def Z0:((0:Nat):Int)=(0:Int):=rfl
def okc(i:Nat)(c:Int):Bool:=J ((97<=c/\c<=122)\/(i≠0/\((48<=c/\c<=57)\/c=46\/c=95)))
def iO(s:ByteArray):Bool:=J (1<=s.size)&&J (s.size<=40)&&(zM s.size).all λi=>okc i (cw s i)
def gP(low high:Int):Bool:=J (low<=high/\ -1048576<=low/\high<=1048576)
def k8(vars:aa aX)(i:Nat)(v:aX):Int:=
 if iO v.fName=G then 7
 else if((vars.take i).any λw=>w.fName.toList==v.fName.toList)=O then 8
 else if v.bz<0\/3<v.bz then 1
 else if gP v.ag v.ah=G then 3
 else if v.bz=0 then(if v.eE<v.ag\/v.ah<v.eE then 3 else 0)
 else if v.eE=0 then 0 else 3
def tG(kind:Int):aa aX->Int->af Int
 |[],n=>V n
 |v::vs,n=>if v.bz=kind then(if 4096<n*(v.ah-v.ag+1)then S else tG kind vs (n*(v.ah-v.ag+1)))else tG kind vs n
def Aa(vars:aa aX):Bool:=(tG 1 vars 1).isSome&&(tG 2 vars 1).isSome&&(match tG 3 vars 1 with|V n=>J (n<=256)|S=>G)
def jq(vars:aa aX):Int:=if cq (k8 vars) vars 0≠0 then cq (k8 vars) vars 0 else if Aa vars=O then 0 else 4
def cc(o:Int):Int×Int:=if o=0\/o=24 then(0,0)else if o=6\/o=7 then(1,1)else if 8<=o/\o<=22 then(2,2)else if o=23 then(3,3)else if o=25 then(2,33)else(-1,-1)
def Bm(vars:aa aX)(inp:Bool)(t:au):Bool:=J (0<=(cc t.bC).1/\(cc t.bC).1<=t.aq.length/\(t.aq.length:Int)<=(cc t.bC).2)&&
 (if t.bC=0 then O else if t.bC=24 then J (0<=t.fN/\t.fN<vars.length)&& !(inp&&J (vars[t.fN.toNat]!.bz=0))else J (t.fN=0))
def dH(vars:aa aX)(inp:Bool)(t:au):Bool:=Bm vars inp t&&t.aq.attach.all λk=>dH vars inp k.1
termination_by zg t
decreasing_by exact au.fm k.2
def lB(vars:aa aX)(inp:Bool)(t:au):dH vars inp t=(Bm vars inp t&&t.aq.all (dH vars inp)):=by
 rw[dH]
 congr 1
 rw[List.all_eq,List.all_eq];simp
def fP(a b:Span):Span:=⟨if b.ag<a.ag then b.ag else a.ag,if a.ah<b.ah then b.ah else a.ah⟩
def iN(vars:aa aX)(t:au)(k:aa Span):Span:=
 if t.bC=0 then⟨t.fN,t.fN⟩
 else if t.bC=24 then⟨vars[t.fN.toNat]!.ag,vars[t.fN.toNat]!.ah⟩
 else if t.bC=6 then⟨-k[0]!.ah,-k[0]!.ag⟩
 else if t.bC=8 then⟨k[0]!.ag+k[1]!.ag,k[0]!.ah+k[1]!.ah⟩
 else if t.bC=9 then⟨k[0]!.ag-k[1]!.ah,k[0]!.ah-k[1]!.ag⟩
 else if t.bC=10 then
  fP (fP (fP ⟨k[0]!.ag*k[1]!.ag,k[0]!.ag*k[1]!.ag⟩ ⟨k[0]!.ag*k[1]!.ah,k[0]!.ag*k[1]!.ah⟩) ⟨k[0]!.ah*k[1]!.ag,k[0]!.ah*k[1]!.ag⟩) ⟨k[0]!.ah*k[1]!.ah,k[0]!.ah*k[1]!.ah⟩
 else if t.bC=11 then
  (if(0:Int)<=k[0]!.ag/\(0:Int)<=k[1]!.ag then⟨0,if k[0]!.ah< -k[0]!.ag then-k[0]!.ag else k[0]!.ah⟩else⟨-(if k[0]!.ah< -k[0]!.ag then-k[0]!.ag else k[0]!.ah),if k[0]!.ah< -k[0]!.ag then-k[0]!.ag else k[0]!.ah⟩)
 else if t.bC=12 then⟨if k[1]!.ag<0 then k[1]!.ag+1 else 0,if(0:Int)<k[1]!.ah then k[1]!.ah-1 else 0⟩
 else if t.bC=21 then⟨if k[1]!.ag<k[0]!.ag then k[1]!.ag else k[0]!.ag,if k[1]!.ah<k[0]!.ah then k[1]!.ah else k[0]!.ah⟩
 else if t.bC=22 then⟨if k[0]!.ag<k[1]!.ag then k[1]!.ag else k[0]!.ag,if k[0]!.ah<k[1]!.ah then k[1]!.ah else k[0]!.ah⟩
 else if t.bC=23\/t.bC=25 then(k.drop 2).foldl fP k[1]!
 else⟨0,1⟩
def uC(s:Span):Bool:=J (-1048576<=s.ag/\s.ah<=1048576)
def ku:aa (af Span)->af (aa Span)
 |[]=>V []
 |none::_=>S
 |some s::xs=>match ku xs with|V l=>V (s::l)|S=>S
def gK(vars:aa aX)(t:au):af Span:=match ku (t.aq.attach.map λk=>gK vars k.1)with
 |none=>S
 |some l=>if uC (iN vars t l)=O then V (iN vars t l)else S
termination_by zg t
decreasing_by exact au.fm k.2
def uP(vars:aa aX)(t:au):gK vars t=match ku (t.aq.map (gK vars))with
 |none=>S
 |some l=>if uC (iN vars t l)=O then V (iN vars t l)else S:=by
 rw[gK];rw[show (t.aq.attach.map λk=>gK vars k.1)=t.aq.map (gK vars)from wz (f:=gK vars)]
def eV(vars:aa aX)(inp:Bool)(t:au):Int:=if dH vars inp t=G then 1 else if(gK vars t).isSome then 0 else 3
def kg(f:aN)(i:Nat)(h:dx):Int:=
 if iO h.fName=G then 7
 else if((f.ak.take i).any λw=>w.fName.toList==h.fName.toList)=O then 8
 else if gP h.ag h.ah=G then 3
 else eV f.aj O h.az
def dT(t:au):Int:=1+(t.aq.attach.map λk=>dT k.1).foldl max 0
termination_by zg t
decreasing_by exact au.fm k.2
def NS(l:aa au):Int:=(l.map dT).foldl max 0
def T7(t:au):dT t=1+NS t.aq:=by
 rw[dT,NS];rw[show (t.aq.attach.map λk=>dT k.1)=t.aq.map dT from wz (f:=dT)]
def vH(l:aa Int)(a x:Int):(l++[x]).foldl max a=max (l.foldl max a) x:=by simp[wA]
def DD(l:aa au)(k:au):NS (l++[k])=max (NS l) (dT k):=by
 unfold NS;rw[z8,yc,yR,vH]
def p8(l:aa au)(k:au):jr (l++[k])=jr l+nT k:=by
 simp[jr]
def uW:∀(l:aa Int) (a:Int),a<=l.foldl max a
 |[],a=>zq _
 |x::l,a=>xU (Int.le_max_left a x) (uW l (max a x))
def IZ(l:aa au):0<=NS l:=uW _ _
def amM(t:au):1<=dT t:=by have:=IZ t.aq;rw[T7];omega
def dV(s:ay)(l:aa ay):zg l<zg (s::l):=by
 rw[List.cons.sizeOf_spec];omega
def jD:aa ay->Int
 |[]=>0
 |s::l=>max (max (jD s.aL+1) (jD s.aR+1)) (jD l)
termination_by l=>zg l
decreasing_by
 ·exact(bt (zm ..)).1
 ·exact(bt (zm ..)).2
 ·exact dV _ _
def fD:aa ay->Bool
 |[]=>G
 |s::l=>J (12<dT s.az)||fD s.aL||fD s.aR||fD l
termination_by l=>zg l
decreasing_by
 ·exact(bt (zm ..)).1
 ·exact(bt (zm ..)).2
 ·exact dV _ _
def qT(l:aa ay):0<=jD l:=by
 induction l with
 |nil=>rw[jD];omega
 |cons s l ih=>rw[jD];omega
def Xo(l:aa ay)(s:ay):jD (l++[s])=max (jD l) (max (jD s.aL+1) (jD s.aR+1)):=by
 induction l with
 |nil=>
  have:=qT s.aL;rw[yw,show jD []=0 by rw[jD],jD,show jD []=0 by rw[jD]];omega
 |cons a l ih=>rw[xo,jD,jD,ih];omega
def Ls(l:aa ay)(k:ay):fI (l++[k])=fI l+nS k:=by simp[fI]
def qz(f:aN):Bool:=J (f.aj.length<=64)&&J (f.ak.length<=8)&&f.ak.all (λh=>J (dT h.az<=12))&&J (jD f.bH<=12)&& !fD f.bH
def fQ:aa Int->Bool
 |a::b::l=>J (a<b)&&fQ (b::l)
 |_=>O
def vg(t:au):Bool:=J (t.bC=0/\t.fN=0/\t.aq.length=0)
def sL(f:aN)(s:ay):Bool:=J (0<=s.dD/\s.dD<f.aj.length)&&J (f.aj[s.dD.toNat]!.bz=0)
def dG(f:aN)(s:ay)(last:Bool):Bool:=
 let free:=J (s.aL.length=0/\s.aR.length=0)
 let nob:=J (s.aJ.length=0)
 if s.b9=0 then free&&sL f s&&J (s.fN=0)&&nob
 else if s.b9=1 then free&&J (s.dD=0)&&J (s.fN=0)&&nob
 else if s.b9=2 then free&&J (s.dD=0)&&J (s.fN=0)&&nob&&vg s.az
 else if s.b9=3 then J (s.dD=0)&&J (s.fN=0)&&nob
 else if s.b9=4 then J (s.dD=0)&&J (s.aR.length=0)&&nob
 else if s.b9=5 then free&&sL f s&&J (0<=s.fN/\s.fN<f.ak.length)&&nob&&vg s.az
 else if s.b9=6 then free&&last&&J (s.dD=0)&&J (s.fN=0)&&vg s.az&&(J (1<=s.aJ.length/\s.aJ.length<=32)&&J ((0:Int)<=s.aJ[0]!)&&fQ s.aJ)
 else G
def sC(s:ay):Bool:=J (0<=s.bq/\s.bq<=(if s.b9=2 then 67108864 else 10000))&&(if s.b9=4 then J (0<=s.fN/\s.fN<=4096)else O)&&(if s.b9=6 then J (s.aJ[s.aJ.length-1]!<=67108864)else O)
def nh(f:aN)(last:Bool)(s:ay):Int:=if dG f s last=G then 1 else if sC s=G then 3 else eV f.aj G s.az
def cg(f:aN)(top:Bool):aa ay->Int
 |[]=>0
 |s::l=>if nh f (top&&l.isEmpty) s≠0 then nh f (top&&l.isEmpty) s else if cg f G s.aL≠0 then cg f G s.aL else if cg f G s.aR≠0 then cg f G s.aR else cg f top l
termination_by l=>zg l
decreasing_by
 all_goals first|exact(bt (zm ..)).1|exact(bt (zm ..)).2|exact dV _ _
def Wt(f:aN)(top:Bool)(n i:Nat)(s:ay):Int:=if nh f (top&&J (i+1=n)) s≠0 then nh f (top&&J (i+1=n)) s else if cg f G s.aL≠0 then cg f G s.aL else cg f G s.aR
def o5(f:aN)(top:Bool)(n:Nat):∀(l:aa ay) (i:Nat),i+l.length=n->cq (Wt f top n) l i=cg f top l
 |[],i,_=>by rw[cg];rfl
 |s::l,i,h=>by
  have ih:=o5 f top n l (i+1) (by simp at h;omega);have he:l.isEmpty=J (i+1=n):=by
   cases l with
   |nil=>simp at h;simp[h]
   |cons a l=>simp at h;simp;omega
  unfold cq;rw[cg,ih,he];unfold Wt;grind
def eN:aa ay->Int×Int×Int
 |[]=>(0,0,0)
 |s::l=>match eN s.aL,eN s.aR,eN l with
  |a,b,c=>if s.b9=1 then(1+c.1,1+c.2.1,s.bq+c.2.2)
   else if s.b9=3 then(1+max a.1 b.1+c.1,max a.2.1 b.2.1+c.2.1,s.bq+max a.2.2 b.2.2+c.2.2)
   else if s.b9=4 then(1+s.fN*(1+a.1)+c.1,s.fN*a.2.1+c.2.1,s.fN*(s.bq+a.2.2)+c.2.2)
   else(1+c.1,c.2.1,s.bq+c.2.2)
termination_by l=>zg l
decreasing_by
 ·exact(bt (zm ..)).1
 ·exact(bt (zm ..)).2
 ·exact dV _ _
def Uu(f:aN):Bool:=J (4096<(eN f.bH).1\/8<(eN f.bH).2.1\/67108864<(eN f.bH).2.2)
def oD(f:aN):Int:=if qz f=G then 4 else if jq f.aj≠0 then jq f.aj else if cq (kg f) f.ak 0≠0 then cq (kg f) f.ak 0 else if cg f O f.bH≠0 then cg f O f.bH else if Uu f=O then 4 else 0
def aem:bf:=de
def adP:aQ w9 aem:=aP
abbrev aph:=Bool×aY
def d208:Td 1 aph:= .c [] [2] (.r 1 1 (ec 2 qb en) (sb 0 256 (lg 256) sn) (λz=>(z.1.1,z.2.1)) (λx=>((x.1,()),(x.2,()))))
def atF:=(lc (qp 0 0) ln)
def at4:=(sb 0 256 (lg 256) sn)
def aln:An:=(noTwo (.two (.rb [] 2) .no))
def axm:∀f∈([]:aa Nat),bw (aem) f:=aF
def awe:cU w9 (aem) 1 300 208 (aln):=bB (l:=[(.skip,(.rb [] 2))]) func208 (aV (by kernel_rfl)) (by kernel_rfl) (aA axm aF)
def ja(b0:aY):aph:=
 let r1:Bool:=bif b0.fE then O else J (1024<b0.bE);(r1,b0)
def aCc(b0:aY):bM w9 (aem) 300 (aln) 208 (atF.c ((),())) (at4.d (b0,())) 1 d208.rd=V (ja b0):=by
 refine Eq.trans (b:=(
  match bif b0.fE then V (O)else V (J (1024<b0.bE))with|S=>S|V r1=>V ((r1,b0)):af aph)) (by kernel_rfl) ?_
 simp only[ja,cM,dg]
def acU:bf->bf:=eY w9 208 1 atF at4 d208 (λg=>V (ja g.2.1))
def JA{F:bf}(h:aQ w9 F):aQ w9 (acU F):=oz (tO adP awe (λ_=>by kernel_rfl) (λ_=>by kernel_rfl) (λ_=>by kernel_rfl) λg=>aCc g.2.1) ⟨_,func208,by kernel_rfl,by kernel_rfl⟩ (λ_=>by kernel_rfl) h
abbrev rL:=aY
def d209:Td 1 rL:= .c [] [] (.r 1 1 en (sb 0 256 (lg 256) sn) (λz=>z.2.1) (λx=>((()),(x,()))))
def arh:=(lc (qp 0 0) (lc (qg 137) (bk ln)))
def ane:=(sb 0 256 (lg 256) sn)
def aoR(M:au->Int->aY->af rL):bf->bf:=eY w9 209 1 arh ane d209 (λg=>M g.1.2.1 g.1.2.2.1 g.2.1)
def ahR(M:au->Int->aY->af rL):Prop:=HY w9 209 1 arh ane d209 (λg=>M g.1.2.1 g.1.2.2.1 g.2.1)
def TP{M:au->Int->aY->af rL}(hM:ahR M){F:bf}(h:aQ w9 F):aQ w9 (aoR M F):=oz hM ⟨_,func209,by kernel_rfl,by kernel_rfl⟩ (λ_=>by kernel_rfl) h
def aqA(M209:au->Int->aY->af rL):bf:=(aoR M209 (acU de))
def aiU{M209}(h209:ahR M209):aQ w9 (aqA M209):=(TP h209 (JA aP))
structure AE where
 t2:Int
 t29:List au
 (t30 t31:Int)
 b0:aY
def PT:Td 1 AE:= .c [] [0,2,29,30,31] (.r 1 1 (ec 0 (qp 0 0) (ec 2 aM (ec 29 (ql 137) (ec 30 aM (ec 31 aM en))))) (sb 0 256 (lg 256) sn) (λz=>⟨z.1.2.1,z.1.t.1,z.1.t.2.1,z.1.q.1,z.2.1⟩) (λx=>(((),x.t2,x.t29,x.t30,x.t31,()),(x.b0,()))))
def Hx(M209:au->Int->aY->af rL)(p:AE):af (af AE):=
 bif J (p.t31<p.t30)then if 0<=p.t31/\p.t31<p.t29.length then match M209 (au.mk p.t29[p.t31.toNat]!.bC p.t29[p.t31.toNat]!.fN p.t29[p.t31.toNat]!.aq) (i64.wrap (p.t2+1)) p.b0 with|S=>S|V r1=>V (V (AE.mk p.t2 p.t29 p.t30 (i64.wrap (p.t31+1)) r1))else S else V (S)
def Es(M209:au->Int->aY->af rL):=bK (Hx M209)
def alF(M209:au->Int->aY->af rL):An:=(noTwo (noTwo (noTwo (noTwo (noTwo (PT.lp (Es M209) .no))))))
def azf(M209:au->Int->aY->af rL):cU w9 (aqA M209) 1 300 209 (alF M209):=bB (l:=[(bg f209 0,(PT.lp (Es M209) .no))]) func209 (aV (by kernel_rfl)) (by kernel_rfl) (aA (aO PT) aF)
def agq(M209:au->Int->aY->af rL)(a1:au)(a2:Int)(b0:aY):af rL:=
 bif b0.fE then bif(ja (aY.mk (i64.wrap (b0.bE+1)) O)).fst then V ((ja (aY.mk (i64.wrap (b0.bE+1)) O)).snd)else match Es M209 (AE.mk a2 a1.aq a1.aq.length 0 (ja (aY.mk (i64.wrap (b0.bE+1)) O)).snd)with|S=>S|V r2=>bif J (r2.t31<r2.t30)then if 0<=r2.t31/\r2.t31<r2.t29.length then match M209 (au.mk r2.t29[r2.t31.toNat]!.bC r2.t29[r2.t31.toNat]!.fN r2.t29[r2.t31.toNat]!.aq) (i64.wrap (r2.t2+1)) r2.b0 with|S=>S|V r3=>S else S else V (r2.b0)else bif(ja (aY.mk (i64.wrap (b0.bE+1)) (J (12<a2)))).fst then V ((ja (aY.mk (i64.wrap (b0.bE+1)) (J (12<a2)))).snd)else match Es M209 (AE.mk a2 a1.aq a1.aq.length 0 (ja (aY.mk (i64.wrap (b0.bE+1)) (J (12<a2)))).snd)with|S=>S|V r4=>bif J (r4.t31<r4.t30)then if 0<=r4.t31/\r4.t31<r4.t29.length then match M209 (au.mk r4.t29[r4.t31.toNat]!.bC r4.t29[r4.t31.toNat]!.fN r4.t29[r4.t31.toNat]!.aq) (i64.wrap (r4.t2+1)) r4.b0 with|S=>S|V r5=>S else S else V (r4.b0)
def aBx(M209:au->Int->aY->af rL)(a1:au)(a2:Int)(b0:aY):bM w9 (aqA M209) 300 (alF M209) 209 (arh.c ((),a1,a2,())) (ane.d (b0,())) 1 d209.rd=agq M209 a1 a2 b0:=by kernel_rfl
def akG:Nat->(au->Int->aY->af rL)
 |0=>(λ_ _ _=>S)
 |n+1=>(agq (akG n))
def PC(n:Nat):au->Int->aY->af rL:=(akG n)
def LF:∀n,ahR (PC n)
 |0=>λ_ _ h=>(by cases h)
 |n+1=>by
  have ih:=LF n;have i209:=ih;exact(tO (aiU i209) (azf (PC n)) (λ_=>by kernel_rfl) (λ_=>by kernel_rfl) (λ_=>by kernel_rfl) λg=>aBx (PC n) g.1.2.1 g.1.2.2.1 g.2.1)
def FZ:au->Int->aY->af rL:=λa1 a2 b0=>lim (λn=>PC n a1 a2 b0)
def afi:ahR FZ:=λg b h=>by
 obtain⟨n,hn⟩:=dN (show lim (λn=>PC n g.1.2.1 g.1.2.2.1 g.2.1)=V b from h);exact(LF n) g b hn
def amZ(F:bf):bf:=aoR FZ F
def Tw{F:bf}(h:aQ w9 F):aQ w9 (amZ F):=TP afi h
abbrev rI:=aY
def d207:Td 1 rI:= .c [] [] (.r 1 1 en (sb 0 256 (lg 256) sn) (λz=>z.2.1) (λx=>((()),(x,()))))
def anN:=(lc (qp 0 0) (lc (ql 166) (bk ln)))
def am4:=(sb 0 256 (lg 256) sn)
def aqq(M:(aa ay)->Int->aY->af rI):bf->bf:=eY w9 207 1 anN am4 d207 (λg=>M g.1.2.1 g.1.2.2.1 g.2.1)
def acd(M:(aa ay)->Int->aY->af rI):Prop:=HY w9 207 1 anN am4 d207 (λg=>M g.1.2.1 g.1.2.2.1 g.2.1)
def RV{M:(aa ay)->Int->aY->af rI}(hM:acd M){F:bf}(h:aQ w9 F):aQ w9 (aqq M F):=oz hM ⟨_,func207,by kernel_rfl,by kernel_rfl⟩ (λ_=>by kernel_rfl) h
def ap4(M207:(aa ay)->Int->aY->af rI):bf:=(amZ (acU (aqq M207 de)))
def abY{M207}(h207:acd M207):aQ w9 (ap4 M207):=(Tw (JA (RV h207 aP)))
structure Ad where
 t2:Int
 t8:List ay
 (t9 t10:Int)
 b0:aY
def OC:Td 1 Ad:= .c [] [0,2,8,9,10] (.r 1 1 (ec 0 (qp 0 0) (ec 2 aM (ec 8 (ql 166) (ec 9 aM (ec 10 aM en))))) (sb 0 256 (lg 256) sn) (λz=>⟨z.1.2.1,z.1.t.1,z.1.t.2.1,z.1.q.1,z.2.1⟩) (λx=>(((),x.t2,x.t8,x.t9,x.t10,()),(x.b0,()))))
def De(M207:(aa ay)->Int->aY->af rI)(p:Ad):af (af Ad):=
 bif J (p.t10<p.t9)then if 0<=p.t10/\p.t10<p.t8.length then bif p.b0.fE then bif(ja (aY.mk (i64.wrap (p.b0.bE+1)) O)).fst then V (S)else match FZ (au.mk p.t8[p.t10.toNat]!.az.bC p.t8[p.t10.toNat]!.az.fN p.t8[p.t10.toNat]!.az.aq) 1 (ja (aY.mk (i64.wrap (p.b0.bE+1)) O)).snd with|S=>S|V r1=>match M207 p.t8[p.t10.toNat]!.aL (i64.wrap (p.t2+1)) r1 with|S=>S|V r2=>match M207 p.t8[p.t10.toNat]!.aR (i64.wrap (p.t2+1)) r2 with|S=>S|V r3=>V (V (Ad.mk p.t2 p.t8 p.t9 (i64.wrap (p.t10+1)) r3))else bif(ja (aY.mk (i64.wrap (p.b0.bE+1)) (J (12<(((),p.t2,p.t8,p.t9,p.t10,()),p.b0,()).fst.snd.fst)))).fst then V (S)else match FZ (au.mk p.t8[p.t10.toNat]!.az.bC p.t8[p.t10.toNat]!.az.fN p.t8[p.t10.toNat]!.az.aq) 1 (ja (aY.mk (i64.wrap (p.b0.bE+1)) (J (12<(((),p.t2,p.t8,p.t9,p.t10,()),p.b0,()).fst.snd.fst)))).snd with|S=>S|V r4=>match M207 p.t8[p.t10.toNat]!.aL (i64.wrap (p.t2+1)) r4 with|S=>S|V r5=>match M207 p.t8[p.t10.toNat]!.aR (i64.wrap (p.t2+1)) r5 with|S=>S|V r6=>V (V (Ad.mk p.t2 p.t8 p.t9 (i64.wrap (p.t10+1)) r6))else S else V (S)
def IQ(M207:(aa ay)->Int->aY->af rI):=bK (De M207)
def akS(M207:(aa ay)->Int->aY->af rI):An:=(noTwo (OC.lp (IQ M207) .no))
def au2(M207:(aa ay)->Int->aY->af rI):cU w9 (ap4 M207) 1 300 207 (akS M207):=bB (l:=[(bg f207 0,(OC.lp (IQ M207) .no))]) func207 (aV (by kernel_rfl)) (by kernel_rfl) (aA (aO OC) aF)
def acq(M207:(aa ay)->Int->aY->af rI)(a1:aa ay)(a2:Int)(b0:aY):af rI:=
 match IQ M207 (Ad.mk a2 a1 a1.length 0 b0)with|S=>S|V r7=>bif J (r7.t10<r7.t9)then if 0<=r7.t10/\r7.t10<r7.t8.length then bif r7.b0.fE then bif(ja (aY.mk (i64.wrap (r7.b0.bE+1)) O)).fst then V ((ja (aY.mk (i64.wrap (r7.b0.bE+1)) O)).snd)else match FZ (au.mk r7.t8[r7.t10.toNat]!.az.bC r7.t8[r7.t10.toNat]!.az.fN r7.t8[r7.t10.toNat]!.az.aq) 1 (ja (aY.mk (i64.wrap (r7.b0.bE+1)) O)).snd with|S=>S|V r8=>match M207 r7.t8[r7.t10.toNat]!.aL (i64.wrap (r7.t2+1)) r8 with|S=>S|V r9=>match M207 r7.t8[r7.t10.toNat]!.aR (i64.wrap (r7.t2+1)) r9 with|S=>S|V r10=>S else bif(ja (aY.mk (i64.wrap (r7.b0.bE+1)) (J (12<(((),r7.t2,r7.t8,r7.t9,r7.t10,()),r7.b0,()).fst.snd.fst)))).fst then V ((ja (aY.mk (i64.wrap (r7.b0.bE+1)) (J (12<(((),r7.t2,r7.t8,r7.t9,r7.t10,()),r7.b0,()).fst.snd.fst)))).snd)else match FZ (au.mk r7.t8[r7.t10.toNat]!.az.bC r7.t8[r7.t10.toNat]!.az.fN r7.t8[r7.t10.toNat]!.az.aq) 1 (ja (aY.mk (i64.wrap (r7.b0.bE+1)) (J (12<(((),r7.t2,r7.t8,r7.t9,r7.t10,()),r7.b0,()).fst.snd.fst)))).snd with|S=>S|V r11=>match M207 r7.t8[r7.t10.toNat]!.aL (i64.wrap (r7.t2+1)) r11 with|S=>S|V r12=>match M207 r7.t8[r7.t10.toNat]!.aR (i64.wrap (r7.t2+1)) r12 with|S=>S|V r13=>S else S else V (r7.b0)
def aA6(M207:(aa ay)->Int->aY->af rI)(a1:aa ay)(a2:Int)(b0:aY):bM w9 (ap4 M207) 300 (akS M207) 207 (anN.c ((),a1,a2,())) (am4.d (b0,())) 1 d207.rd=acq M207 a1 a2 b0:=by kernel_rfl
def aj9:Nat->((aa ay)->Int->aY->af rI)
 |0=>(λ_ _ _=>S)
 |n+1=>(acq (aj9 n))
def Q5(n:Nat):(aa ay)->Int->aY->af rI:=(aj9 n)
def Np:∀n,acd (Q5 n)
 |0=>λ_ _ h=>(by cases h)
 |n+1=>by
  have ih:=Np n;have i207:=ih;exact(tO (abY i207) (au2 (Q5 n)) (λ_=>by kernel_rfl) (λ_=>by kernel_rfl) (λ_=>by kernel_rfl) λg=>aA6 (Q5 n) g.1.2.1 g.1.2.2.1 g.2.1)
def abp:(aa ay)->Int->aY->af rI:=λa1 a2 b0=>lim (λn=>Q5 n a1 a2 b0)
def aex:acd abp:=λg b h=>by
 obtain⟨n,hn⟩:=dN (show lim (λn=>Q5 n g.1.2.1 g.1.2.2.1 g.2.1)=V b from h);exact(Np n) g b hn
def au6(F:bf):bf:=aqq abp F
def aiv{F:bf}(h:aQ w9 F):aQ w9 (au6 F):=RV aex h
abbrev awQ:=Bool
def d260:Td 0 awQ:= .c [] [3] (.r 0 0 (ec 3 qb en) sn (λz=>z.1.1) (λx=>((x,()),(()))))
def abr(a0:aX)(c0:aX):awQ:=
 a0.fName.toList==c0.fName.toList
def aBo:=eL w9 260 G (lc (qg 131) (lc (qr (lg 131)) ln)) d260 (λg=>V (abr g.1 g.2.1))
def Ul:EO aBo:=λh=>kL (an:= .no) func260 aP aF h
def auc:bf:=de
structure EC where
 t0:ByteArray
 (t14 t15:Int)
def Rk:Td 0 EC:= .c [] [0,14,15] (.r 0 0 (ec 0 qs (ec 14 aM (ec 15 aM en))) sn (λz=>⟨z.1.1,z.1.2.1,z.1.t.1⟩) (λx=>((x.t0,x.t14,x.t15,()),(()))))
def HX(p:EC):af (af EC):=
 bif J (p.t15<p.t14)then if 0<=p.t15/\p.t15<p.t0.size then match bif J (97<=cw p.t0 p.t15.toNat)then V (J (cw p.t0 p.t15.toNat<=122))else V G with|S=>S|V r1=>match bif bif r1 then G else O then bif J (p.t15=0)then V O else bif J (cw p.t0 p.t15.toNat<48)then bif bif J (cw p.t0 p.t15.toNat=46)then G else O then V (bif J (cw p.t0 p.t15.toNat=95)then G else O)else V G else bif J (57<cw p.t0 p.t15.toNat)then bif bif J (cw p.t0 p.t15.toNat=46)then G else O then V (bif J (cw p.t0 p.t15.toNat=95)then G else O)else V G else V G else V G with|S=>S|V r2=>bif r2 then V (S)else V (V (EC.mk p.t0 p.t14 (i64.wrap (p.t15+1))))else S else V (S)
def abF:An:=(noTwo (noTwo (.two (noTwo (noTwo (.two (.rb [] 5) (.two (.rb [] 48) .no)))) .no)))
def Io:=bK (HX)
abbrev avB:=Bool
def d261:Td 0 avB:= .c [] [2] (.r 0 0 (ec 2 qb en) sn (λz=>z.1.1) (λx=>((x,()),(()))))
def abx:∀f∈([]:aa Nat),bw (auc) f:=aF
def OG(a0:ByteArray):af avB:=
 match bif a0.toList==(ByteArray.mk (xd [])).toList then V O else V (J (40<(a0.size:Int)))with|S=>S|V r3=>bif r3 then V G else match Io (EC.mk a0 a0.size 0)with|S=>S|V r4=>bif J (r4.t15<r4.t14)then if 0<=r4.t15/\r4.t15<r4.t0.size then match bif J (97<=cw r4.t0 r4.t15.toNat)then V (J (cw r4.t0 r4.t15.toNat<=122))else V G with|S=>S|V r5=>match bif bif r5 then G else O then bif J (r4.t15=0)then V O else bif J (cw r4.t0 r4.t15.toNat<48)then bif bif J (cw r4.t0 r4.t15.toNat=46)then G else O then V (bif J (cw r4.t0 r4.t15.toNat=95)then G else O)else V G else bif J (57<cw r4.t0 r4.t15.toNat)then bif bif J (cw r4.t0 r4.t15.toNat=46)then G else O then V (bif J (cw r4.t0 r4.t15.toNat=95)then G else O)else V G else V G else V G with|S=>S|V r6=>bif r6 then V G else S else S else V O
def axA:=eL w9 261 G (lc qs ln) d261 (λg=>OG g.1)
def TU:EO axA:=λh=>kL (F:=auc) (an:=(noTwo (.two (.two (.rb [] 12) .no) (.two (noTwo (Rk.lp Io abF)) .no)))) (l:=[(.skip,(.rb [] 12)),(bg f261 0,(Rk.lp Io abF)),(.skip,(.rb [] 5)),(.skip,(.rb [] 48))]) func261 aP (aA abx (aA (aO Rk) (aA abx (aA abx aF)))) h
structure Dw where
 t0:List aX
 oh:ByteArray
 (nQ nC nW oy t7 t8:Int)
def O1:Td 0 Dw:= .c [] [0,1,7,8] (.r 0 0 (ec 0 (ql 131) (ec 1 (qf 260 (lc (qr (lc qs (bk (bk (bk (bk ln)))))) ln)) (ec 7 aM (ec 8 aM en)))) sn (λz=>⟨z.1.1,z.1.2.1.1.1,z.1.2.1.1.2.1,z.1.2.1.1.t.1,z.1.2.1.1.t.2.1,z.1.2.1.1.q.1,z.1.t.1,z.1.t.2.1⟩) (λx=>((x.t0,((x.oh,x.nQ,x.nC,x.nW,x.oy,()),()),x.t7,x.t8,()),(()))))
def IX(p:Dw):af (af Dw):=
 bif J (p.t8<p.t7)then if 0<=p.t8/\p.t8<p.t0.length then bif abr p.t0[p.t8.toNat]! (aX.mk p.oh p.nQ p.nC p.nW p.oy)then V (S)else V (V (Dw.mk p.t0 p.oh p.nQ p.nC p.nW p.oy p.t7 (i64.wrap (p.t8+1))))else S else V (S)
def Kr:=bK (IX)
abbrev atc:=Int
def d303:Td 0 atc:= .c [] [4] (.r 0 0 (ec 4 aM en) sn (λz=>z.1.1) (λx=>((x,()),(()))))
def aqR(a0:aa aX)(a1_0:aX):af atc:=
 match Kr (Dw.mk a0 a1_0.fName a1_0.bz a1_0.ag a1_0.ah a1_0.eE a0.length 0)with|S=>S|V r1=>bif J (r1.t8<r1.t7)then if 0<=r1.t8/\r1.t8<r1.t0.length then bif abr r1.t0[r1.t8.toNat]! (aX.mk r1.oh r1.nQ r1.nC r1.nW r1.oy)then V (r1.t8)else S else S else V (-1)
def aEc:=eL w9 303 O (lc (ql 131) (lc (qf 260 (lc (qr (lg 131)) ln)) ln)) d303 (λg=>aqR g.1 g.2.1.1)
def aeh:EO aEc:=λh=>kL (an:=(noTwo (.two (noTwo (O1.lp Kr .no)) .no))) (l:=[(bg f303 0,(O1.lp Kr .no))]) func303 (Ul aP) (aA (aO O1) aF) h
abbrev atD:=Bool
def d262:Td 0 atD:= .c [] [4] (.r 0 0 (ec 4 qb en) sn (λz=>z.1.1) (λx=>((x,()),(()))))
def WE(a0:aa aX)(a1_0:aX):af atD:=
 match aqR a0 a1_0 with|S=>S|V r1=>V (J (0<=r1))
def azs:=eL w9 262 O (lc (ql 131) (lc (qf 260 (lc (qr (lg 131)) ln)) ln)) d262 (λg=>WE g.1 g.2.1.1)
def acL:EO azs:=λh=>kL (an:= .no) func262 (aeh (Ul aP)) aF h
def aqv:bf:=de
abbrev aoB:=Bool
def d263:Td 0 aoB:= .c [] [4] (.r 0 0 (ec 4 qb en) sn (λz=>z.1.1) (λx=>((x,()),(()))))
def ayW:=(bk (bk ln))
def amf:An:=(noTwo (.two (.rb [] 4) .no))
def att:∀f∈([]:aa Nat),bw (aqv) f:=aF
def J4(a0:Int)(a1:Int):aoB:=
 let r1:Bool:=bif J (a0<=a1)then bif J (-1048576<=a0)then J (a1<=1048576)else G else G;r1
def aDM(a0:Int)(a1:Int):bM w9 (aqv) 300 (amf) 263 (ayW.c (a0,a1,())) [] 0 d263.rd=V (J4 a0 a1):=by
 refine Eq.trans (b:=(
  match bif J (a0<=a1)then bif J (-1048576<=a0)then V (J (a1<=1048576))else V (G)else V (G)with|S=>S|V r1=>V (r1):af aoB)) (by kernel_rfl) ?_
 simp only[J4,cM,dg]
def azH:=eL w9 263 G ayW d263 (λg=>V (J4 g.1 g.2.1))
def Sy:EO azH:=λh=>kL (F:=aqv) (an:=amf) (l:=[(.skip,(.rb [] 4))]) func263 aP (aA att aF) h (c:=λg=>aDM g.1 g.2.1)
abbrev atz:=Int
def d337:Td 0 atz:= .c [] [2] (.r 0 0 (ec 2 aM en) sn (λz=>z.1.1) (λx=>((x,()),(()))))
def FU(a0:aX):atz:=
 i64.wrap (i64.wrap (a0.ah-a0.ag)+1)
def awx:=eL w9 337 G (lc (qg 131) ln) d337 (λg=>V (FU g.1))
def ah4:EO awx:=λh=>kL (an:= .no) func337 aP aF h
def as4:bf:=(awx de)
structure qj where
 t7:List aX
 t10:Int
 t49:List aX
 (t50 t51:Int)
def Qd:Td 0 qj:= .c [] [7,10,49,50,51] (.r 0 1 (ec 7 (qo 0) (ec 10 aM (ec 49 (qo 0) (ec 50 aM (ec 51 aM en))))) (sr 0 131 sn) (λz=>⟨z.2.1,z.1.2.1,z.2.1,z.1.t.2.1,z.1.q.1⟩) (λx=>(((),x.t10,(),x.t50,x.t51,()),(x.t49,()))))
def JC(p:qj):af (af qj):=
 bif J (p.t51<p.t50)then if 0<=p.t51/\p.t51<p.t49.length then if 131=131/\p.t51.toNat<p.t49.length then bif J (4096<i64.wrap (p.t10*FU p.t49[p.t51.toNat]!))then V (S)else V (V (qj.mk p.t49 (i64.wrap (p.t10*FU p.t49[p.t51.toNat]!)) p.t49 p.t50 (i64.wrap (p.t51+1))))else S else S else V (S)
def sR:=bK (JC)
structure oa where
 t1:Int
 (t7 t19:List aX)
 (t20 t21:Int)
def QC:Td 0 oa:= .c [] [1,7,19,20,21] (.t (cC.s 7 [] 131) (.c [] [1,7,19,20,21] (.r 0 1 (ec 1 aM (ec 7 (qo 0) (ec 19 (ql 131) (ec 20 aM (ec 21 aM en))))) (sr 0 131 sn) (λz=>⟨z.1.1,z.2.1,z.1.t.1,z.1.t.2.1,z.1.q.1⟩) (λx=>((x.t1,(),x.t19,x.t20,x.t21,()),(x.t7,()))))))
def Ed(p:oa):af (af oa):=
 bif J (p.t21<p.t20)then if 0<=p.t21/\p.t21<p.t19.length then bif bif J (p.t19[p.t21.toNat]!.bz=p.t1)then G else O then V (V (oa.mk p.t1 p.t7 p.t19 p.t20 (i64.wrap (p.t21+1))))else match bif J (p.t19[p.t21.toNat]!.ah<p.t19[p.t21.toNat]!.ag)then V O else bif J (p.t19[p.t21.toNat]!.ag< -1048576)then V O else V (J (1048576<p.t19[p.t21.toNat]!.ah))with|S=>S|V r1=>bif r1 then V (S)else if(p.t7++[p.t19[p.t21.toNat]!]).length<=1073741824 then V (V (oa.mk p.t1 (p.t7++[p.t19[p.t21.toNat]!]) p.t19 p.t20 (i64.wrap (p.t21+1))))else S else S else V (S)
def Yy:An:=(noTwo (noTwo (.two (noTwo (noTwo (.two (.two (.rb [] 43) .no) .no))) .no)))
def sQ:=bK (Ed)
abbrev azl:=(aa aX)×Int×Int
def d304:Td 0 azl:= .c [] [4,5,6] (.t (cC.s 4 [] 131) (.c [] [4,5,6] (.r 0 1 (ec 4 (qo 0) (ec 5 aM (ec 6 aM en))) (sr 0 131 sn) (λz=>(z.2.1,z.1.2.1,z.1.t.1)) (λx=>(((),x.2.1,x.t,()),(x.1,()))))))
def asy:∀f∈([]:aa Nat),bw (as4) f:=aF
def anW(a0:aa aX)(a1:Int):af azl:=
 bif J (a1=0)then match sQ (oa.mk a1 [] a0 a0.length 0)with|S=>S|V r2=>bif J (r2.t21<r2.t20)then if 0<=r2.t21/\r2.t21<r2.t19.length then bif bif J (r2.t19[r2.t21.toNat]!.bz=r2.t1)then G else O then S else match bif J (r2.t19[r2.t21.toNat]!.ah<r2.t19[r2.t21.toNat]!.ag)then V O else bif J (r2.t19[r2.t21.toNat]!.ag< -1048576)then V O else V (J (1048576<r2.t19[r2.t21.toNat]!.ah))with|S=>S|V r3=>bif r3 then V ([],0,3)else if(r2.t7++[r2.t19[r2.t21.toNat]!]).length<=1073741824 then S else S else S else match sR (qj.mk r2.t7 1 r2.t7 r2.t7.length 0)with|S=>S|V r4=>bif J (r4.t51<r4.t50)then if 0<=r4.t51/\r4.t51<r4.t49.length then if 131=131/\r4.t51.toNat<r4.t49.length then bif J (4096<i64.wrap (r4.t10*FU r4.t49[r4.t51.toNat]!))then V ([],0,4)else S else S else S else V (r4.t49,r4.t10,0)else bif J (a1=1)then match sQ (oa.mk a1 [] a0 a0.length 0)with|S=>S|V r5=>bif J (r5.t21<r5.t20)then if 0<=r5.t21/\r5.t21<r5.t19.length then bif bif J (r5.t19[r5.t21.toNat]!.bz=r5.t1)then G else O then S else match bif J (r5.t19[r5.t21.toNat]!.ah<r5.t19[r5.t21.toNat]!.ag)then V O else bif J (r5.t19[r5.t21.toNat]!.ag< -1048576)then V O else V (J (1048576<r5.t19[r5.t21.toNat]!.ah))with|S=>S|V r6=>bif r6 then V ([],0,3)else if(r5.t7++[r5.t19[r5.t21.toNat]!]).length<=1073741824 then S else S else S else match sR (qj.mk r5.t7 1 r5.t7 r5.t7.length 0)with|S=>S|V r7=>bif J (r7.t51<r7.t50)then if 0<=r7.t51/\r7.t51<r7.t49.length then if 131=131/\r7.t51.toNat<r7.t49.length then bif J (4096<i64.wrap (r7.t10*FU r7.t49[r7.t51.toNat]!))then V ([],0,4)else S else S else S else V (r7.t49,r7.t10,0)else bif J (a1=2)then match sQ (oa.mk a1 [] a0 a0.length 0)with|S=>S|V r8=>bif J (r8.t21<r8.t20)then if 0<=r8.t21/\r8.t21<r8.t19.length then bif bif J (r8.t19[r8.t21.toNat]!.bz=r8.t1)then G else O then S else match bif J (r8.t19[r8.t21.toNat]!.ah<r8.t19[r8.t21.toNat]!.ag)then V O else bif J (r8.t19[r8.t21.toNat]!.ag< -1048576)then V O else V (J (1048576<r8.t19[r8.t21.toNat]!.ah))with|S=>S|V r9=>bif r9 then V ([],0,3)else if(r8.t7++[r8.t19[r8.t21.toNat]!]).length<=1073741824 then S else S else S else match sR (qj.mk r8.t7 1 r8.t7 r8.t7.length 0)with|S=>S|V r10=>bif J (r10.t51<r10.t50)then if 0<=r10.t51/\r10.t51<r10.t49.length then if 131=131/\r10.t51.toNat<r10.t49.length then bif J (4096<i64.wrap (r10.t10*FU r10.t49[r10.t51.toNat]!))then V ([],0,4)else S else S else S else V (r10.t49,r10.t10,0)else bif J (a1=3)then match sQ (oa.mk a1 [] a0 a0.length 0)with|S=>S|V r11=>bif J (r11.t21<r11.t20)then if 0<=r11.t21/\r11.t21<r11.t19.length then bif bif J (r11.t19[r11.t21.toNat]!.bz=r11.t1)then G else O then S else match bif J (r11.t19[r11.t21.toNat]!.ah<r11.t19[r11.t21.toNat]!.ag)then V O else bif J (r11.t19[r11.t21.toNat]!.ag< -1048576)then V O else V (J (1048576<r11.t19[r11.t21.toNat]!.ah))with|S=>S|V r12=>bif r12 then V ([],0,3)else if(r11.t7++[r11.t19[r11.t21.toNat]!]).length<=1073741824 then S else S else S else match sR (qj.mk r11.t7 1 r11.t7 r11.t7.length 0)with|S=>S|V r13=>bif J (r13.t51<r13.t50)then if 0<=r13.t51/\r13.t51<r13.t49.length then if 131=131/\r13.t51.toNat<r13.t49.length then bif J (4096<i64.wrap (r13.t10*FU r13.t49[r13.t51.toNat]!))then V ([],0,4)else S else S else S else V (r13.t49,r13.t10,0)else V ([],0,1)
def aCt:=eL w9 304 G (lc (ql 131) (bk ln)) d304 (λg=>anW g.1 g.2.1)
def ae6:EO aCt:=λh=>kL (F:=as4) (an:=(noTwo (noTwo (noTwo (.two (noTwo (QC.lp sQ Yy)) (noTwo (.two (noTwo (Qd.lp sR .no)) .no))))))) (l:=[(bg f304 0,(QC.lp sQ Yy)),(.skip,(.rb [] 43)),(bg f304 1,(Qd.lp sR .no))]) func304 (ah4 aP) (aA (aO QC) (aA asy (aA (aO Qd) aF))) h
abbrev ay0:=Int×Int
def d264:Td 0 ay0:= .c [] [4,5] (.r 0 0 (ec 4 aM (ec 5 aM en)) sn (λz=>(z.1.1,z.1.2.1)) (λx=>((x.1,x.2,()),(()))))
def YN(a0:aa aX)(a1:Int):af ay0:=
 match anW a0 a1 with|S=>S|V r1=>V (r1.snd)
def ayV:=eL w9 264 G (lc (ql 131) (bk ln)) d264 (λg=>YN g.1 g.2.1)
def aiH:EO ayV:=λh=>kL (an:= .no) func264 (ae6 aP) aF h
def axR:bf:=(ayV (azH (azs (axA de))))
structure C6 where
 t0:List aX
 t71:List Int
 (t72 t73:Int)
def PG:Td 0 C6:= .c [] [0,71,72,73] (.r 0 1 (ec 0 (ql 131) (ec 71 (qo 0) (ec 72 aM (ec 73 aM en)))) (sr 0 129 sn) (λz=>⟨z.1.1,z.2.1,z.1.t.1,z.1.t.2.1⟩) (λx=>((x.t0,(),x.t72,x.t73,()),(x.t71,()))))
def qA(p:C6):af (af C6):=
 bif J (p.t73<p.t72)then if 0<=p.t73/\p.t73<p.t71.length then if 129=129/\p.t73.toNat<p.t71.length then match YN p.t0 p.t71[p.t73.toNat]! with|S=>S|V r6=>match bif bif J (r6.snd=0)then G else O then V O else bif J (((p.t0,(),p.t72,p.t73,()),p.t71,()).snd.fst[((p.t0,(),p.t72,p.t73,()),p.t71,()).fst.snd.snd.snd.fst.toNat]! =3)then V (J (256<r6.fst))else V G with|S=>S|V r7=>bif r7 then V (S)else V (V (C6.mk p.t0 p.t71 p.t72 (i64.wrap (p.t73+1))))else S else S else V (S)
def ZT:An:=(noTwo (noTwo (.two (noTwo (noTwo (.two (.rb [] 92) .no))) .no)))
def pT:=bK (qA)
structure Dt where
 (t0 t10:List aX)
 (t11 t12:Int)
def PR:Td 0 Dt:= .c [] [0,10,11,12] (.r 0 0 (ec 0 (ql 131) (ec 10 (ql 131) (ec 11 aM (ec 12 aM en)))) sn (λz=>⟨z.1.1,z.1.2.1,z.1.t.1,z.1.t.2.1⟩) (λx=>((x.t0,x.t10,x.t11,x.t12,()),(()))))
def v7(p:Dt):af (af Dt):=
 bif J (p.t12<p.t11)then if 0<=p.t12/\p.t12<p.t10.length then match OG p.t10[p.t12.toNat]!.fName with|S=>S|V r1=>bif bif r1 then G else O then V (S)else if 0<=p.t12/\p.t12<=p.t0.length then match WE (List.take p.t12.toNat p.t0) p.t10[p.t12.toNat]! with|S=>S|V r2=>bif r2 then V (S)else match bif J (p.t10[p.t12.toNat]!.bz<0)then V O else V (J (3<p.t10[p.t12.toNat]!.bz))with|S=>S|V r3=>bif r3 then V (S)else bif bif J4 p.t10[p.t12.toNat]!.ag p.t10[p.t12.toNat]!.ah then G else O then V (S)else match bif bif J (p.t10[p.t12.toNat]!.bz=0)then G else O then V (bif J (p.t10[p.t12.toNat]!.eE=0)then G else O)else V G with|S=>S|V r4=>bif r4 then V (S)else match bif J (p.t10[p.t12.toNat]!.bz=0)then bif J (p.t10[p.t12.toNat]!.eE<p.t10[p.t12.toNat]!.ag)then V O else V (J (p.t10[p.t12.toNat]!.ah<p.t10[p.t12.toNat]!.eE))else V G with|S=>S|V r5=>bif r5 then V (S)else V (V (Dt.mk p.t0 p.t10 p.t11 (i64.wrap (p.t12+1))))else S else S else V (S)
def aax:An:=(noTwo (noTwo (.two (noTwo (noTwo (noTwo (noTwo (noTwo (noTwo (.two (.rb [] 29) (noTwo (.two (noTwo (noTwo (.two (.rb [] 38) (noTwo (.rb [] 38))))) .no))))))))) .no)))
def Ke:=bK (v7)
abbrev ax9:=Int
def d210:Td 0 ax9:= .c [] [2] (.r 0 0 (ec 2 aM en) sn (λz=>z.1.1) (λx=>((x,()),(()))))
def Ta:∀f∈([]:aa Nat),bw (axR) f:=aF
def agn(a0:aa aX):af ax9:=
 match Ke (Dt.mk a0 a0 a0.length 0)with|S=>S|V r8=>bif J (r8.t12<r8.t11)then if 0<=r8.t12/\r8.t12<r8.t10.length then match OG r8.t10[r8.t12.toNat]!.fName with|S=>S|V r9=>bif bif r9 then G else O then V 7 else if 0<=r8.t12/\r8.t12<=r8.t0.length then match WE (List.take r8.t12.toNat r8.t0) r8.t10[r8.t12.toNat]! with|S=>S|V r10=>bif r10 then V 8 else match bif J (r8.t10[r8.t12.toNat]!.bz<0)then V O else V (J (3<r8.t10[r8.t12.toNat]!.bz))with|S=>S|V r11=>bif r11 then V 1 else bif bif J4 r8.t10[r8.t12.toNat]!.ag r8.t10[r8.t12.toNat]!.ah then G else O then V 3 else match bif bif J (r8.t10[r8.t12.toNat]!.bz=0)then G else O then V (bif J (r8.t10[r8.t12.toNat]!.eE=0)then G else O)else V G with|S=>S|V r12=>bif r12 then V 3 else match bif J (r8.t10[r8.t12.toNat]!.bz=0)then bif J (r8.t10[r8.t12.toNat]!.eE<r8.t10[r8.t12.toNat]!.ag)then V O else V (J (r8.t10[r8.t12.toNat]!.ah<r8.t10[r8.t12.toNat]!.eE))else V G with|S=>S|V r13=>bif r13 then V 3 else S else S else S else match pT (C6.mk r8.t0 [1,2,3] (3:Int) 0)with|S=>S|V r14=>bif J (r14.t73<r14.t72)then if 0<=r14.t73/\r14.t73<r14.t71.length then if 129=129/\r14.t73.toNat<r14.t71.length then match YN r14.t0 r14.t71[r14.t73.toNat]! with|S=>S|V r15=>match bif bif J (r15.snd=0)then G else O then V O else bif J (((r14.t0,(),r14.t72,r14.t73,()),r14.t71,()).snd.fst[((r14.t0,(),r14.t72,r14.t73,()),r14.t71,()).fst.snd.snd.snd.fst.toNat]! =3)then V (J (256<r15.fst))else V G with|S=>S|V r16=>bif r16 then V 4 else S else S else S else V 0
def ayh:=eL w9 210 G (lc (ql 131) ln) d210 (λg=>agn g.1)
def aij:EO ayh:=λh=>kL (F:=axR) (an:=(noTwo (.two (noTwo (PR.lp Ke aax)) (.two (noTwo (PG.lp pT ZT)) .no)))) (l:=[(bg f210 0,(PR.lp Ke aax)),(.skip,(.rb [] 29)),(.skip,(.rb [] 38)),(.skip,(.rb [] 38)),(bg f210 1,(PG.lp pT ZT)),(.skip,(.rb [] 92))]) func210 (aiH (Sy (acL (TU aP)))) (aA (aO PR) (aA Ta (aA Ta (aA Ta (aA (aO PG) (aA Ta aF)))))) h
abbrev azM:=Bool
def d265:Td 0 azM:= .c [] [3] (.r 0 0 (ec 3 qb en) sn (λz=>z.1.1) (λx=>((x,()),(()))))
def aau(a0:dx)(c0:dx):azM:=
 a0.fName.toList==c0.fName.toList
def aAQ:=eL w9 265 G (lc (qg 139) (lc (qr (lg 139)) ln)) d265 (λg=>V (aau g.1 g.2.1))
def TM:EO aAQ:=λh=>kL (an:= .no) func265 aP aF h
structure E9 where
 t0:List dx
 oh:ByteArray
 (nQ nC nW oy:Int)
 Jf:List au
 (t7 t8:Int)
def OW:Td 0 E9:= .c [] [0,1,7,8] (.r 0 0 (ec 0 (ql 139) (ec 1 (qf 265 (lc (qr (lc qs (bk (bk (bk (bk (lc (ql 137) ln))))))) ln)) (ec 7 aM (ec 8 aM en)))) sn (λz=>⟨z.1.1,z.1.2.1.1.1,z.1.2.1.1.2.1,z.1.2.1.1.t.1,z.1.2.1.1.t.2.1,z.1.2.1.1.q.1,z.1.2.1.1.q.2.1,z.1.t.1,z.1.t.2.1⟩) (λx=>((x.t0,((x.oh,x.nQ,x.nC,x.nW,x.oy,x.Jf,()),()),x.t7,x.t8,()),(()))))
def Hs(p:E9):af (af E9):=
 bif J (p.t8<p.t7)then if 0<=p.t8/\p.t8<p.t0.length then bif aau (dx.mk p.t0[p.t8.toNat]!.fName p.t0[p.t8.toNat]!.ag p.t0[p.t8.toNat]!.ah (au.mk p.t0[p.t8.toNat]!.az.bC p.t0[p.t8.toNat]!.az.fN p.t0[p.t8.toNat]!.az.aq)) (dx.mk p.oh p.nQ p.nC (au.mk p.nW p.oy p.Jf))then V (S)else V (V (E9.mk p.t0 p.oh p.nQ p.nC p.nW p.oy p.Jf p.t7 (i64.wrap (p.t8+1))))else S else V (S)
def Kw:=bK (Hs)
abbrev awF:=Int
def d305:Td 0 awF:= .c [] [4] (.r 0 0 (ec 4 aM en) sn (λz=>z.1.1) (λx=>((x,()),(()))))
def anj(a0:aa dx)(a1_0:dx):af awF:=
 match Kw (E9.mk a0 a1_0.fName a1_0.ag a1_0.ah a1_0.az.bC a1_0.az.fN a1_0.az.aq a0.length 0)with|S=>S|V r1=>bif J (r1.t8<r1.t7)then if 0<=r1.t8/\r1.t8<r1.t0.length then bif aau (dx.mk r1.t0[r1.t8.toNat]!.fName r1.t0[r1.t8.toNat]!.ag r1.t0[r1.t8.toNat]!.ah (au.mk r1.t0[r1.t8.toNat]!.az.bC r1.t0[r1.t8.toNat]!.az.fN r1.t0[r1.t8.toNat]!.az.aq)) (dx.mk r1.oh r1.nQ r1.nC (au.mk r1.nW r1.oy r1.Jf))then V (r1.t8)else S else S else V (-1)
def aCY:=eL w9 305 O (lc (ql 139) (lc (qf 265 (lc (qr (lg 139)) ln)) ln)) d305 (λg=>anj g.1 g.2.1.1)
def ai3:EO aCY:=λh=>kL (an:=(noTwo (.two (noTwo (OW.lp Kw .no)) .no))) (l:=[(bg f305 0,(OW.lp Kw .no))]) func305 (TM aP) (aA (aO OW) aF) h
abbrev axg:=Bool
def d266:Td 0 axg:= .c [] [4] (.r 0 0 (ec 4 qb en) sn (λz=>z.1.1) (λx=>((x,()),(()))))
def Xk(a0:aa dx)(a1_0:dx):af axg:=
 match anj a0 (dx.mk a1_0.fName a1_0.ag a1_0.ah (au.mk a1_0.az.bC a1_0.az.fN a1_0.az.aq))with|S=>S|V r1=>V (J (0<=r1))
def aDL:=eL w9 266 O (lc (ql 139) (lc (qf 265 (lc (qr (lg 139)) ln)) ln)) d266 (λg=>Xk g.1 g.2.1.1)
def aeX:EO aDL:=λh=>kL (an:= .no) func266 (ai3 (TM aP)) aF h
def apR:bf:=de
abbrev arF:=Int×Int
def d338:Td 0 arF:= .c [] [2,3] (.r 0 0 (ec 2 aM (ec 3 aM en)) sn (λz=>(z.1.1,z.1.2.1)) (λx=>((x.1,x.2,()),(()))))
def auJ:=(bk ln)
def aj5:An:=(noTwo (.two (.two (.rb [] 4) (noTwo (.two (.rb [] 11) (noTwo (.two (.rb [] 18) .no))))) .no))
def abi:∀f∈([]:aa Nat),bw (apR) f:=aF
def LX(a0:Int):arF:=
 let r1:Bool:=bif J (a0=0)then O else J (a0=24);bif r1 then(0,0)else let r2:Bool:=bif J (a0=6)then O else J (a0=7);bif r2 then(1,1)else let r3:Bool:=bif J (8<=a0)then J (a0<=22)else G;bif r3 then(2,2)else bif J (a0=23)then(3,3)else bif J (a0=25)then(2,33)else(-1,-1)
def aD9(a0:Int):bM w9 (apR) 300 (aj5) 338 (auJ.c (a0,())) [] 0 d338.rd=V (LX a0):=by
 refine Eq.trans (b:=(
  match bif J (a0=0)then V (O)else V (J (a0=24))with|S=>S|V r1=>bif r1 then V ((0,0))else match bif J (a0=6)then V (O)else V (J (a0=7))with|S=>S|V r2=>bif r2 then V ((1,1))else match bif J (8<=a0)then V (J (a0<=22))else V (G)with|S=>S|V r3=>bif r3 then V ((2,2))else bif J (a0=23)then V ((3,3))else bif J (a0=25)then V ((2,33))else V ((-1,-1)):af arF)) (by kernel_rfl) ?_
 simp only[LX,cM,dg]
def azo:=eL w9 338 G auJ d338 (λg=>V (LX g.1))
def aec:EO azo:=λh=>kL (F:=apR) (an:=aj5) (l:=[(.skip,(.rb [] 4)),(.skip,(.rb [] 11)),(.skip,(.rb [] 18))]) func338 aP (aA abi (aA abi (aA abi aF))) h (c:=λg=>aD9 g.1)
abbrev rS:=Bool
def d306:Td 0 rS:= .c [] [6] (.r 0 0 (ec 6 qb en) sn (λz=>z.1.1) (λx=>((x,()),(()))))
def anv:=(lc (ql 131) (lc (qg 137) (lc qb ln)))
def arI(M:(aa aX)->au->Bool->af rS):bf->bf:=eL w9 306 G anv d306 (λg=>M g.1 g.2.1 g.2.2.1)
def aea(M:(aa aX)->au->Bool->af rS):Prop:=HL w9 306 anv d306 (λg=>M g.1 g.2.1 g.2.2.1)
def SL{M:(aa aX)->au->Bool->af rS}(hM:aea M){F:bf}(h:aQ w9 F):aQ w9 (arI M F):=cT (sc:=jM) cv hM ⟨_,func306,by kernel_rfl,by kernel_rfl⟩ (λ_=>by kernel_rfl) (λ_=>by kernel_rfl) h
def agt(M306:(aa aX)->au->Bool->af rS):bf:=(azo (arI M306 de))
def ajn{M306}(h306:aea M306):aQ w9 (agt M306):=(aec (SL h306 aP))
structure tc where
 t0:List aX
 t2:Bool
 t65:List au
 (t66 t67:Int)
def Qv:Td 0 tc:= .c [] [0,2,65,66,67] (.r 0 0 (ec 0 (ql 131) (ec 2 qb (ec 65 (ql 137) (ec 66 aM (ec 67 aM en))))) sn (λz=>⟨z.1.1,z.1.2.1,z.1.t.1,z.1.t.2.1,z.1.q.1⟩) (λx=>((x.t0,x.t2,x.t65,x.t66,x.t67,()),(()))))
def J7(M306:(aa aX)->au->Bool->af rS)(p:tc):af (af tc):=
 bif J (p.t67<p.t66)then if 0<=p.t67/\p.t67<p.t65.length then match M306 p.t0 (au.mk p.t65[p.t67.toNat]!.bC p.t65[p.t67.toNat]!.fN p.t65[p.t67.toNat]!.aq) p.t2 with|S=>S|V r1=>bif bif r1 then G else O then V (S)else V (V (tc.mk p.t0 p.t2 p.t65 p.t66 (i64.wrap (p.t67+1))))else S else V (S)
def vt(M306:(aa aX)->au->Bool->af rS):=bK (J7 M306)
def akb(M306:(aa aX)->au->Bool->af rS):An:=(noTwo (noTwo (.two (.two (.rb [] 32) .no) (.two (noTwo (noTwo (noTwo (noTwo (.two (.two (.rb [] 63) .no) .no))))) (.two (noTwo (Qv.lp (vt M306) .no)) .no)))))
def ak1{M306}:∀f∈([]:aa Nat),bw (agt M306) f:=aF
def axj(M306:(aa aX)->au->Bool->af rS):cU w9 (agt M306) 0 300 306 (akb M306):=bB (l:=[(.skip,(.rb [] 32)),(.skip,(.rb [] 63)),(bg f306 0,(Qv.lp (vt M306) .no))]) func306 (aV (by kernel_rfl)) (by kernel_rfl) (aA ak1 (aA ak1 (aA (aO Qv) aF)))
def ahr(M306:(aa aX)->au->Bool->af rS)(a0:aa aX)(a1:au)(a2:Bool):af rS:=
 match bif J ((LX a1.bC).fst<0)then V O else bif J ((a1.aq.length:Int)<(LX a1.bC).fst)then V O else V (J ((LX a1.bC).snd<a1.aq.length))with|S=>S|V r2=>bif r2 then V G else bif J (a1.bC=0)then match vt M306 (tc.mk a0 a2 a1.aq a1.aq.length 0)with|S=>S|V r3=>bif J (r3.t67<r3.t66)then if 0<=r3.t67/\r3.t67<r3.t65.length then match M306 r3.t0 (au.mk r3.t65[r3.t67.toNat]!.bC r3.t65[r3.t67.toNat]!.fN r3.t65[r3.t67.toNat]!.aq) r3.t2 with|S=>S|V r4=>bif bif r4 then G else O then V G else S else S else V O else bif J (a1.bC=24)then match bif J (a1.fN<0)then V O else bif J (a0.length<=a1.fN)then V O else bif a2 then if 0<=a1.fN/\a1.fN<a0.length then V (J (a0[a1.fN.toNat]!.bz=0))else S else V G with|S=>S|V r5=>bif r5 then V G else match vt M306 (tc.mk a0 a2 a1.aq a1.aq.length 0)with|S=>S|V r6=>bif J (r6.t67<r6.t66)then if 0<=r6.t67/\r6.t67<r6.t65.length then match M306 r6.t0 (au.mk r6.t65[r6.t67.toNat]!.bC r6.t65[r6.t67.toNat]!.fN r6.t65[r6.t67.toNat]!.aq) r6.t2 with|S=>S|V r7=>bif bif r7 then G else O then V G else S else S else V O else bif bif J (a1.fN=0)then G else O then V G else match vt M306 (tc.mk a0 a2 a1.aq a1.aq.length 0)with|S=>S|V r8=>bif J (r8.t67<r8.t66)then if 0<=r8.t67/\r8.t67<r8.t65.length then match M306 r8.t0 (au.mk r8.t65[r8.t67.toNat]!.bC r8.t65[r8.t67.toNat]!.fN r8.t65[r8.t67.toNat]!.aq) r8.t2 with|S=>S|V r9=>bif bif r9 then G else O then V G else S else S else V O
def aBZ(M306:(aa aX)->au->Bool->af rS)(a0:aa aX)(a1:au)(a2:Bool):bM w9 (agt M306) 300 (akb M306) 306 (anv.c (a0,a1,a2,())) [] 0 d306.rd=ahr M306 a0 a1 a2:=by kernel_rfl
def amd:Nat->((aa aX)->au->Bool->af rS)
 |0=>(λ_ _ _=>S)
 |n+1=>(ahr (amd n))
def P4(n:Nat):(aa aX)->au->Bool->af rS:=(amd n)
def Mm:∀n,aea (P4 n)
 |0=>λ_ _ h=>(by cases h)
 |n+1=>by
  have ih:=Mm n;have i306:=ih;exact(cH (ajn i306) (axj (P4 n)) (λ_=>by kernel_rfl) (λ_=>by kernel_rfl) λg=>aBZ (P4 n) g.1 g.2.1 g.2.2.1)
def aiq:(aa aX)->au->Bool->af rS:=λa0 a1 a2=>lim (λn=>P4 n a0 a1 a2)
def ag4:aea aiq:=λg b h=>by
 obtain⟨n,hn⟩:=dN (show lim (λn=>P4 n g.1 g.2.1 g.2.2.1)=V b from h);exact(Mm n) g b hn
def aAF(F:bf):bf:=arI aiq F
def ai2{F:bf}(h:aQ w9 F):aQ w9 (aAF F):=SL ag4 h
abbrev aym:=Int
def d350:Td 0 aym:= .c [] [4] (.r 0 0 (ec 4 aM en) sn (λz=>z.1.1) (λx=>((x,()),(()))))
def Ba(a0:Int)(a1:Int):aym:=
 i64.wrap (a0*a1)
def avs:=eL w9 350 G (bk (bk ln)) d350 (λg=>V (Ba g.1 g.2.1))
def RO:EO avs:=λh=>kL (an:= .no) func350 aP aF h
def aCf:bf:=de
abbrev apG:=Span
def d351:Td 0 apG:= .c [] [4] (.r 0 1 (ec 4 (qp 0 0) en) (sb 0 331 (lg 331) sn) (λz=>z.2.1) (λx=>(((),()),(x,()))))
def auf:=(lc (qg 331) (lc (qg 331) ln))
def aka:An:= .no
def VX(a0:Span)(a1:Span):apG:=
 Span.mk (if a1.ag<a0.ag then a1.ag else a0.ag) (if a0.ah<a1.ah then a1.ah else a0.ah)
def aBK(a0:Span)(a1:Span):bM w9 (aCf) 300 (aka) 351 (auf.c (a0,a1,())) [] 0 d351.rd=V (VX a0 a1):=by
 refine Eq.trans (b:=(
  V (Span.mk (if a1.ag<a0.ag then a1.ag else a0.ag) (if a0.ah<a1.ah then a1.ah else a0.ah)):af apG)) (by kernel_rfl) ?_
 simp only[VX,cM,dg]
def auB:=eL w9 351 G auf d351 (λg=>V (VX g.1 g.2.1))
def Sr:EO auB:=λh=>kL (an:=aka) func351 aP aF h (c:=λg=>aBK g.1 g.2.1)
structure Dj where
 t38:List Int
 (t39 t40:Int)
 (b0 b1:Span)
def QI:Td 0 Dj:= .c [] [6,8,38,39,40] (.r 0 3 (ec 6 (qp 0 0) (ec 8 (qp 1 0) (ec 38 (qo 2) (ec 39 aM (ec 40 aM en))))) (sb 0 331 (lg 331) (sb 1 331 (lg 331) (sr 2 3 sn))) (λz=>⟨z.t.2.1,z.1.t.2.1,z.1.q.1,z.2.1,z.t.1⟩) (λx=>(((),(),(),x.t39,x.t40,()),(x.b0,x.b1,x.t38,()))))
def p7(p:Dj):af (af Dj):=
 bif J (p.t40<p.t39)then if 0<=p.t40/\p.t40<p.t38.length then if 3=3/\p.t40.toNat<p.t38.length then V (V (Dj.mk p.t38 p.t39 (i64.wrap (p.t40+1)) p.b0 (VX p.b1 (Span.mk p.t38[p.t40.toNat]! p.t38[p.t40.toNat]!))))else S else S else V (S)
def EY:=bK (p7)
abbrev ax6:=Span
def d349:Td 0 ax6:= .c [] [6] (.r 0 1 (ec 6 (qp 0 0) en) (sb 0 331 (lg 331) sn) (λz=>z.2.1) (λx=>(((),()),(x,()))))
def abR(a0:Span)(a1:Span):af ax6:=
 match EY (Dj.mk [Ba a0.ag a1.ah,Ba a0.ah a1.ag,Ba a0.ah a1.ah] (↑[Ba a0.ag a1.ah,Ba a0.ah a1.ag,Ba a0.ah a1.ah].length:Int) 0 (Span.mk 0 0) (Span.mk (Ba a0.ag a1.ag) (Ba a0.ag a1.ag)))with|S=>S|V r1=>bif J (r1.t40<r1.t39)then if 0<=r1.t40/\r1.t40<r1.t38.length then if 3=3/\r1.t40.toNat<r1.t38.length then S else S else S else V (r1.b1)
def azr:=eL w9 349 G (lc (qg 331) (lc (qg 331) (lc (qf 350 ln) ln))) d349 (λg=>abR g.1 g.2.1)
def afA:EO azr:=λh=>kL (an:=(noTwo (noTwo (noTwo (.two (noTwo (QI.lp EY .no)) .no))))) (l:=[(bg f349 0,(QI.lp EY .no))]) func349 (Sr (RO aP)) (aA (aO QI) aF) h
def ay4:bf:=(auB (avs (azr de)))
structure vX where
 t207:List Span
 (t208 t209:Int)
 (b0 b1:Span)
def N8:Td 0 vX:= .c [] [6,9,207,208,209] (.r 0 2 (ec 6 (qp 0 0) (ec 9 (qp 1 0) (ec 207 (ql 331) (ec 208 aM (ec 209 aM en))))) (sb 0 331 (lg 331) (sb 1 331 (lg 331) sn)) (λz=>⟨z.1.t.1,z.1.t.2.1,z.1.q.1,z.2.1,z.t.1⟩) (λx=>(((),(),x.t207,x.t208,x.t209,()),(x.b0,x.b1,()))))
def Ks(p:vX):af (af vX):=
 bif J (p.t209<p.t208)then if 0<=p.t209/\p.t209<p.t207.length then V (V (vX.mk p.t207 p.t208 (i64.wrap (p.t209+1)) p.b0 (VX p.b1 p.t207[p.t209.toNat]!)))else S else V (S)
def Fs:=bK (Ks)
abbrev avh:=Span
def d339:Td 0 avh:= .c [] [6] (.r 0 1 (ec 6 (qp 0 0) en) (sb 0 331 (lg 331) sn) (λz=>z.2.1) (λx=>(((),()),(x,()))))
def axN:∀f∈([]:aa Nat),bw (ay4) f:=aF
def agG(a0:aa aX)(a1:au)(a2:aa Span):af avh:=
 bif J (a1.bC=0)then V (Span.mk a1.fN a1.fN)else bif J (a1.bC=24)then if 0<=a1.fN/\a1.fN<a0.length then if 0<=a1.fN/\a1.fN<a0.length then V (Span.mk a0[a1.fN.toNat]!.ag a0[a1.fN.toNat]!.ah)else S else S else bif J (a1.bC=6)then if(0:Int)<=(0:Int)/\(0:Int)<a2.length then if(0:Int)<=(0:Int)/\(0:Int)<a2.length then V (Span.mk (i64.wrap (0-a2[0]!.ah)) (i64.wrap (0-a2[0]!.ag)))else S else S else bif J (a1.bC=8)then if(0:Int)<=(0:Int)/\(0:Int)<a2.length then if(0:Int)<=(1:Int)/\(1:Int)<a2.length then if(0:Int)<=(0:Int)/\(0:Int)<a2.length then if(0:Int)<=(1:Int)/\(1:Int)<a2.length then V (Span.mk (i64.wrap (a2[0]!.ag+a2[1]!.ag)) (i64.wrap (a2[0]!.ah+a2[1]!.ah)))else S else S else S else S else bif J (a1.bC=9)then if(0:Int)<=(0:Int)/\(0:Int)<a2.length then if(0:Int)<=(1:Int)/\(1:Int)<a2.length then if(0:Int)<=(0:Int)/\(0:Int)<a2.length then if(0:Int)<=(1:Int)/\(1:Int)<a2.length then V (Span.mk (i64.wrap (a2[0]!.ag-a2[1]!.ah)) (i64.wrap (a2[0]!.ah-a2[1]!.ag)))else S else S else S else S else bif J (a1.bC=10)then if(0:Int)<=(0:Int)/\(0:Int)<a2.length then if(0:Int)<=(1:Int)/\(1:Int)<a2.length then match abR a2[0]! a2[1]! with|S=>S|V r1=>V (r1)else S else S else bif J (a1.bC=11)then if(0:Int)<=(0:Int)/\(0:Int)<a2.length then if(0:Int)<=(0:Int)/\(0:Int)<a2.length then match if(0:Int)<=(0:Int)/\(0:Int)<a2.length then bif J (0<=a2[0]!.ag)then if(0:Int)<=(1:Int)/\(1:Int)<a2.length then V (J (0<=a2[1]!.ag))else S else V G else S with|S=>S|V r2=>bif r2 then V (Span.mk 0 (if a2[0]!.ah<i64.wrap (0-a2[0]!.ag)then i64.wrap (0-a2[0]!.ag)else a2[0]!.ah))else V (Span.mk (i64.wrap (0-if a2[0]!.ah<i64.wrap (0-a2[0]!.ag)then i64.wrap (0-a2[0]!.ag)else a2[0]!.ah)) (if a2[0]!.ah<i64.wrap (0-a2[0]!.ag)then i64.wrap (0-a2[0]!.ag)else a2[0]!.ah))else S else S else bif J (a1.bC=12)then if(0:Int)<=(1:Int)/\(1:Int)<a2.length then bif J (a2[1]!.ag<0)then if(0:Int)<=(1:Int)/\(1:Int)<a2.length then if(0:Int)<=(1:Int)/\(1:Int)<a2.length then bif J (0<a2[1]!.ah)then if(0:Int)<=(1:Int)/\(1:Int)<a2.length then V (Span.mk (if 0<i64.wrap (a2[1]!.ag+1)then 0 else i64.wrap (a2[1]!.ag+1)) (if i64.wrap (a2[1]!.ah-1)<0 then 0 else i64.wrap (a2[1]!.ah-1)))else S else V (Span.mk (if 0<i64.wrap (a2[1]!.ag+1)then 0 else i64.wrap (a2[1]!.ag+1)) 0)else S else S else if(0:Int)<=(1:Int)/\(1:Int)<a2.length then bif J (0<a2[1]!.ah)then if(0:Int)<=(1:Int)/\(1:Int)<a2.length then V (Span.mk 0 (if i64.wrap (a2[1]!.ah-1)<0 then 0 else i64.wrap (a2[1]!.ah-1)))else S else V (Span.mk 0 0)else S else S else bif J (a1.bC=21)then if(0:Int)<=(0:Int)/\(0:Int)<a2.length then if(0:Int)<=(1:Int)/\(1:Int)<a2.length then if(0:Int)<=(0:Int)/\(0:Int)<a2.length then if(0:Int)<=(1:Int)/\(1:Int)<a2.length then V (Span.mk (if a2[1]!.ag<a2[0]!.ag then a2[1]!.ag else a2[0]!.ag) (if a2[1]!.ah<a2[0]!.ah then a2[1]!.ah else a2[0]!.ah))else S else S else S else S else bif J (a1.bC=22)then if(0:Int)<=(0:Int)/\(0:Int)<a2.length then if(0:Int)<=(1:Int)/\(1:Int)<a2.length then if(0:Int)<=(0:Int)/\(0:Int)<a2.length then if(0:Int)<=(1:Int)/\(1:Int)<a2.length then V (Span.mk (if a2[0]!.ag<a2[1]!.ag then a2[1]!.ag else a2[0]!.ag) (if a2[0]!.ah<a2[1]!.ah then a2[1]!.ah else a2[0]!.ah))else S else S else S else S else bif J (a1.bC=23)then if(0:Int)<=(1:Int)/\(1:Int)<a2.length then if(0:Int)<=(2:Int)/\(2:Int)<=a2.length then match Fs (vX.mk (yd 2 a2) (↑(yd 2 a2).length:Int) 0 (Span.mk 0 0) a2[1]!)with|S=>S|V r3=>bif J (r3.t209<r3.t208)then if 0<=r3.t209/\r3.t209<r3.t207.length then S else S else V (r3.b1)else S else S else bif J (a1.bC=25)then if(0:Int)<=(1:Int)/\(1:Int)<a2.length then if(0:Int)<=(2:Int)/\(2:Int)<=a2.length then match Fs (vX.mk (yd 2 a2) (↑(yd 2 a2).length:Int) 0 (Span.mk 0 0) a2[1]!)with|S=>S|V r4=>bif J (r4.t209<r4.t208)then if 0<=r4.t209/\r4.t209<r4.t207.length then S else S else V (r4.b1)else S else S else V (Span.mk 0 1)
def ayt:=eL w9 339 G (lc (ql 131) (lc (qg 137) (lc (ql 331) ln))) d339 (λg=>agG g.1 g.2.1 g.t.1)
def aei:EO ayt:=λh=>kL (F:=ay4) (an:=(noTwo (.two (noTwo (noTwo (noTwo (noTwo (noTwo (noTwo (noTwo (noTwo (noTwo (noTwo (noTwo (noTwo (noTwo (noTwo (.two (noTwo (.two (.two (.rb [] 123) .no) .no)) (noTwo (noTwo (noTwo (noTwo (noTwo (noTwo (noTwo (.two (noTwo (.two (noTwo (N8.lp Fs .no)) .no)) .no))))))))))))))))))))))) .no))) (l:=[(.skip,(.rb [] 123)),(bg f339 0,(N8.lp Fs .no))]) func339 (Sr (RO (afA aP))) (aA axN (aA (aO N8) aF)) h
abbrev rJ:=Span×Bool
def d307:Td 0 rJ:= .c [] [4,5] (.r 0 1 (ec 4 (qp 0 0) (ec 5 qb en)) (sb 0 331 (lg 331) sn) (λz=>(z.2.1,z.1.2.1)) (λx=>(((),x.2,()),(x.1,()))))
def apT:=(lc (ql 131) (lc (qg 137) ln))
def anS(M:(aa aX)->au->af rJ):bf->bf:=eL w9 307 G apT d307 (λg=>M g.1 g.2.1)
def agC(M:(aa aX)->au->af rJ):Prop:=HL w9 307 apT d307 (λg=>M g.1 g.2.1)
def Sz{M:(aa aX)->au->af rJ}(hM:agC M){F:bf}(h:aQ w9 F):aQ w9 (anS M F):=cT (sc:=jM) cv hM ⟨_,func307,by kernel_rfl,by kernel_rfl⟩ (λ_=>by kernel_rfl) (λ_=>by kernel_rfl) h
def aoi(M307:(aa aX)->au->af rJ):bf:=(ayt (anS M307 de))
def ajN{M307}(h307:agC M307):aQ w9 (aoi M307):=(aei (Sz h307 aP))
structure CO where
 t0:List aX
 t6:List Span
 t13:List au
 (t14 t15:Int)
 b0:au
 b1:Span
def Of:Td 0 CO:= .c [] [0,3,4,6,13,14,15] (.t (cC.s 6 [] 331) (.c [] [0,3,4,6,13,14,15] (.r 0 3 (ec 0 (ql 131) (ec 3 (qp 0 0) (ec 4 (qp 1 0) (ec 6 (qo 2) (ec 13 (ql 137) (ec 14 aM (ec 15 aM en))))))) (sb 0 137 (lg 137) (sb 1 331 (lg 331) (sr 2 331 sn))) (λz=>⟨z.1.1,z.t.2.1,z.1.q.1,z.1.q.2.1,z.1.q.t.1,z.2.1,z.t.1⟩) (λx=>((x.t0,(),(),(),x.t13,x.t14,x.t15,()),(x.b0,x.b1,x.t6,()))))))
def Dk(M307:(aa aX)->au->af rJ)(p:CO):af (af CO):=
 bif J (p.t15<p.t14)then if 0<=p.t15/\p.t15<p.t13.length then match M307 p.t0 (au.mk p.t13[p.t15.toNat]!.bC p.t13[p.t15.toNat]!.fN p.t13[p.t15.toNat]!.aq)with|S=>S|V r1=>bif bif r1.snd then G else O then V (S)else if(p.t6++[r1.fst]).length<=1073741824 then V (V (CO.mk p.t0 (p.t6++[r1.fst]) p.t13 p.t14 (i64.wrap (p.t15+1)) (au.mk p.b0.bC p.b0.fN p.b0.aq) p.b1))else S else S else V (S)
def IM(M307:(aa aX)->au->af rJ):=bK (Dk M307)
def alc(M307:(aa aX)->au->af rJ):An:=(noTwo (noTwo (.two (noTwo (Of.lp (IM M307) .no)) .no)))
def ayY(M307:(aa aX)->au->af rJ):cU w9 (aoi M307) 0 300 307 (alc M307):=bB (l:=[(bg f307 0,(Of.lp (IM M307) .no))]) func307 (aV (by kernel_rfl)) (by kernel_rfl) (aA (aO Of) aF)
def ahz(M307:(aa aX)->au->af rJ)(a0:aa aX)(a1:au):af rJ:=
 match IM M307 (CO.mk a0 [] a1.aq a1.aq.length 0 (au.mk a1.bC a1.fN a1.aq) (Span.mk 0 0))with|S=>S|V r2=>bif J (r2.t15<r2.t14)then if 0<=r2.t15/\r2.t15<r2.t13.length then match M307 r2.t0 (au.mk r2.t13[r2.t15.toNat]!.bC r2.t13[r2.t15.toNat]!.fN r2.t13[r2.t15.toNat]!.aq)with|S=>S|V r3=>bif bif r3.snd then G else O then V (Span.mk 0 0,G)else if(r2.t6++[r3.fst]).length<=1073741824 then S else S else S else match agG r2.t0 (au.mk r2.b0.bC r2.b0.fN r2.b0.aq) r2.t6 with|S=>S|V r4=>bif J (-1048576<=r4.ag)then V ((r4,J (r4.ah<=1048576)))else V (r4,G)
def aEg(M307:(aa aX)->au->af rJ)(a0:aa aX)(a1:au):bM w9 (aoi M307) 300 (alc M307) 307 (apT.c (a0,a1,())) [] 0 d307.rd=ahz M307 a0 a1:=by kernel_rfl
def akr:Nat->((aa aX)->au->af rJ)
 |0=>(λ_ _=>S)
 |n+1=>(ahz (akr n))
def Oe(n:Nat):(aa aX)->au->af rJ:=(akr n)
def Mr:∀n,agC (Oe n)
 |0=>λ_ _ h=>(by cases h)
 |n+1=>by
  have ih:=Mr n;have i307:=ih;exact(cH (ajN i307) (ayY (Oe n)) (λ_=>by kernel_rfl) (λ_=>by kernel_rfl) λg=>aEg (Oe n) g.1 g.2.1)
def agl:(aa aX)->au->af rJ:=λa0 a1=>lim (λn=>Oe n a0 a1)
def ac0:agC agl:=λg b h=>by
 obtain⟨n,hn⟩:=dN (show lim (λn=>Oe n g.1 g.2.1)=V b from h);exact(Mr n) g b hn
def aBq(F:bf):bf:=anS agl F
def ad5{F:bf}(h:aQ w9 F):aQ w9 (aBq F):=Sz ac0 h
abbrev atL:=Int
def d267:Td 0 atL:= .c [] [6] (.r 0 0 (ec 6 aM en) sn (λz=>z.1.1) (λx=>((x,()),(()))))
def PL(a0:aa aX)(a1:au)(a2:Bool):af atL:=
 match aiq a0 (au.mk a1.bC a1.fN a1.aq) a2 with|S=>S|V r1=>bif bif r1 then G else O then V (1)else match agl a0 (au.mk a1.bC a1.fN a1.aq)with|S=>S|V r2=>bif bif r2.snd then G else O then V (3)else V (0)
def apm:=eL w9 267 G (lc (ql 131) (lc (qg 137) (lc qb ln))) d267 (λg=>PL g.1 g.2.1 g.t.1)
def RE:EO apm:=λh=>kL (an:= .no) func267 (ad5 (ai2 aP)) aF h
def VA:EP apm:=λh=>kP h
structure Fk where
 t8:List dx
 (t9 t10:Int)
 b0:aN
def P6:Td 0 Fk:= .c [] [1,8,9,10] (.r 0 1 (ec 1 (qp 0 0) (ec 8 (ql 139) (ec 9 aM (ec 10 aM en)))) (sb 0 26 (lg 26) sn) (λz=>⟨z.1.2.1,z.1.t.1,z.1.t.2.1,z.2.1⟩) (λx=>(((),x.t8,x.t9,x.t10,()),(x.b0,()))))
def vS(p:Fk):af (af Fk):=
 bif J (p.t10<p.t9)then if 0<=p.t10/\p.t10<p.t8.length then match OG p.t8[p.t10.toNat]!.fName with|S=>S|V r1=>bif bif r1 then G else O then V (S)else if 0<=p.t10/\p.t10<=p.b0.ak.length then match Xk (List.take p.t10.toNat p.b0.ak) (dx.mk p.t8[p.t10.toNat]!.fName p.t8[p.t10.toNat]!.ag p.t8[p.t10.toNat]!.ah (au.mk p.t8[p.t10.toNat]!.az.bC p.t8[p.t10.toNat]!.az.fN p.t8[p.t10.toNat]!.az.aq))with|S=>S|V r2=>bif r2 then V (S)else bif bif J4 p.t8[p.t10.toNat]!.ag p.t8[p.t10.toNat]!.ah then G else O then V (S)else match PL p.b0.aj (au.mk p.t8[p.t10.toNat]!.az.bC p.t8[p.t10.toNat]!.az.fN p.t8[p.t10.toNat]!.az.aq) O with|S=>S|V r3=>bif bif J (r3=0)then G else O then V (S)else V (V (Fk.mk p.t8 p.t9 (i64.wrap (p.t10+1)) p.b0))else S else S else V (S)
def IU:=bK (vS)
abbrev atQ:=Int
def d211:Td 0 atQ:= .c [] [2] (.r 0 0 (ec 2 aM en) sn (λz=>z.1.1) (λx=>((x,()),(()))))
def afK(a0:aN):af atQ:=
 match IU (Fk.mk a0.ak a0.ak.length 0 a0)with|S=>S|V r4=>bif J (r4.t10<r4.t9)then if 0<=r4.t10/\r4.t10<r4.t8.length then match OG r4.t8[r4.t10.toNat]!.fName with|S=>S|V r5=>bif bif r5 then G else O then V 7 else if 0<=r4.t10/\r4.t10<=r4.b0.ak.length then match Xk (List.take r4.t10.toNat r4.b0.ak) (dx.mk r4.t8[r4.t10.toNat]!.fName r4.t8[r4.t10.toNat]!.ag r4.t8[r4.t10.toNat]!.ah (au.mk r4.t8[r4.t10.toNat]!.az.bC r4.t8[r4.t10.toNat]!.az.fN r4.t8[r4.t10.toNat]!.az.aq))with|S=>S|V r6=>bif r6 then V 8 else bif bif J4 r4.t8[r4.t10.toNat]!.ag r4.t8[r4.t10.toNat]!.ah then G else O then V 3 else match PL r4.b0.aj (au.mk r4.t8[r4.t10.toNat]!.az.bC r4.t8[r4.t10.toNat]!.az.fN r4.t8[r4.t10.toNat]!.az.aq) O with|S=>S|V r7=>bif bif J (r7=0)then G else O then V (r7)else S else S else S else V 0
def as3:=eL w9 211 G (lc (qg 26) ln) d211 (λg=>afK g.1)
def acP:EO as3:=λh=>kL (an:=(noTwo (.two (noTwo (P6.lp IU .no)) .no))) (l:=[(bg f211 0,(P6.lp IU .no))]) func211 (RE (aeX (Sy (TU aP)))) (aA (aO P6) aF) h
def arv:bf:=de
abbrev aoE:=Bool
def d308:Td 0 aoE:= .c [] [2] (.r 0 0 (ec 2 qb en) sn (λz=>z.1.1) (λx=>((x,()),(()))))
def avE:=(bk ln)
def akk:An:=(noTwo (.two (.rb [] 2) .no))
def asV:∀f∈([]:aa Nat),bw (arv) f:=aF
def UQ(a0:Int):aoE:=
 let r1:Bool:=bif J (a0=0)then O else J (a0=5);r1
def aEl(a0:Int):bM w9 (arv) 300 (akk) 308 (avE.c (a0,())) [] 0 d308.rd=V (UQ a0):=by
 refine Eq.trans (b:=(
  match bif J (a0=0)then V (O)else V (J (a0=5))with|S=>S|V r1=>V (r1):af aoE)) (by kernel_rfl) ?_
 simp only[UQ,cM,dg]
def aoo:=eL w9 308 G avE d308 (λg=>V (UQ g.1))
def ac4:EO aoo:=λh=>kL (F:=arv) (an:=akk) (l:=[(.skip,(.rb [] 2))]) func308 aP (aA asV aF) h (c:=λg=>aEl g.1)
def mR:EP aoo:=λh=>kP h
def apH:bf:=de
abbrev ara:=Bool
def d309:Td 0 ara:= .c [] [2] (.r 0 0 (ec 2 qb en) sn (λz=>z.1.1) (λx=>((x,()),(()))))
def axy:=(bk ln)
def alD:An:=(noTwo (.two (.rb [] 2) .no))
def azx:∀f∈([]:aa Nat),bw (apH) f:=aF
def Xy(a0:Int):ara:=
 let r1:Bool:=bif J (a0=4)then O else J (a0=5);r1
def aB8(a0:Int):bM w9 (apH) 300 (alD) 309 (axy.c (a0,())) [] 0 d309.rd=V (Xy a0):=by
 refine Eq.trans (b:=(
  match bif J (a0=4)then V (O)else V (J (a0=5))with|S=>S|V r1=>V (r1):af ara)) (by kernel_rfl) ?_
 simp only[Xy,cM,dg]
def aqj:=eL w9 309 G axy d309 (λg=>V (Xy g.1))
def agX:EO aqj:=λh=>kL (F:=apH) (an:=alD) (l:=[(.skip,(.rb [] 2))]) func309 aP (aA azx aF) h (c:=λg=>aB8 g.1)
def mI:EP aqj:=λh=>kP h
def apC:bf:=de
abbrev an7:=Bool
def d310:Td 0 an7:= .c [] [2] (.r 0 0 (ec 2 qb en) sn (λz=>z.1.1) (λx=>((x,()),(()))))
def azK:=(bk ln)
def alG:An:=(noTwo (.two (.rb [] 2) .no))
def axS:∀f∈([]:aa Nat),bw (apC) f:=aF
def abb(a0:Int):an7:=
 let r1:Bool:=bif J (a0=0)then O else bif J (a0=1)then O else bif J (a0=3)then O else J (a0=4);r1
def aA0(a0:Int):bM w9 (apC) 300 (alG) 310 (azK.c (a0,())) [] 0 d310.rd=V (abb a0):=by
 refine Eq.trans (b:=(
  match bif J (a0=0)then V (O)else bif J (a0=1)then V (O)else bif J (a0=3)then V (O)else V (J (a0=4))with|S=>S|V r1=>V (r1):af an7)) (by kernel_rfl) ?_
 simp only[abb,cM,dg]
def anb:=eL w9 310 G azK d310 (λg=>V (abb g.1))
def acF:EO anb:=λh=>kL (F:=apC) (an:=alG) (l:=[(.skip,(.rb [] 2))]) func310 aP (aA axS aF) h (c:=λg=>aA0 g.1)
def mY:EP anb:=λh=>kP h
def amN:bf:=de
abbrev apa:=Bool
def d311:Td 0 apa:= .c [] [2] (.r 0 0 (ec 2 qb en) sn (λz=>z.1.1) (λx=>((x,()),(()))))
def at3:=(lc (qg 137) ln)
def amu:An:=(noTwo (.two (.rb [] 2) .no))
def aya:∀f∈([]:aa Nat),bw (amN) f:=aF
def VN(a0:au):apa:=
 let r1:Bool:=bif J (a0.bC=0)then bif J (a0.fN=0)then J ((a0.aq.length:Int)=0)else G else G;r1
def aC9(a0:au):bM w9 (amN) 300 (amu) 311 (at3.c (a0,())) [] 0 d311.rd=V (VN a0):=by
 refine Eq.trans (b:=(
  match bif J (a0.bC=0)then bif J (a0.fN=0)then V (J ((a0.aq.length:Int)=0))else V (G)else V (G)with|S=>S|V r1=>V (r1):af apa)) (by kernel_rfl) ?_
 simp only[VN,cM,dg]
def aqt:=eL w9 311 G at3 d311 (λg=>V (VN g.1))
def ag1:EO aqt:=λh=>kL (F:=amN) (an:=amu) (l:=[(.skip,(.rb [] 2))]) func311 aP (aA aya aF) h (c:=λg=>aC9 g.1)
def nc:EP aqt:=λh=>kP h
structure vK where
 t0:List Int
 (t5 t6:Int)
def O6:Td 0 vK:= .c [] [0,5,6] (.r 0 0 (ec 0 (ql 3) (ec 5 aM (ec 6 aM en))) sn (λz=>⟨z.1.1,z.1.2.1,z.1.t.1⟩) (λx=>((x.t0,x.t5,x.t6,()),(()))))
def Kb(p:vK):af (af vK):=
 bif J (p.t6<p.t5)then bif J (0<p.t6)then if 0<=p.t6/\p.t6<p.t0.length then if 0<=i64.wrap (p.t6-1)/\i64.wrap (p.t6-1)<p.t0.length then bif J (((p.t0,p.t5,p.t6,()),()).fst.fst[((p.t0,p.t5,p.t6,()),()).fst.snd.snd.fst.toNat]!<=((p.t0,p.t5,p.t6,()),()).fst.fst[(i64.wrap (((p.t0,p.t5,p.t6,()),()).fst.snd.snd.fst-1)).toNat]!)then V (S)else V (V (vK.mk p.t0 p.t5 (i64.wrap (p.t6+1))))else S else S else V (V (vK.mk p.t0 p.t5 (i64.wrap (p.t6+1))))else V (S)
def Js:=bK (Kb)
abbrev azE:=Bool
def d312:Td 0 azE:= .c [] [2] (.r 0 0 (ec 2 qb en) sn (λz=>z.1.1) (λx=>((x,()),(()))))
def UG(a0:aa Int):af azE:=
 match Js (vK.mk a0 a0.length 0)with|S=>S|V r1=>bif J (r1.t6<r1.t5)then bif J (0<r1.t6)then if 0<=r1.t6/\r1.t6<r1.t0.length then if 0<=i64.wrap (r1.t6-1)/\i64.wrap (r1.t6-1)<r1.t0.length then bif J (((r1.t0,r1.t5,r1.t6,()),()).fst.fst[((r1.t0,r1.t5,r1.t6,()),()).fst.snd.snd.fst.toNat]!<=((r1.t0,r1.t5,r1.t6,()),()).fst.fst[(i64.wrap (((r1.t0,r1.t5,r1.t6,()),()).fst.snd.snd.fst-1)).toNat]!)then V G else S else S else S else S else V O
def ant:=eL w9 312 G (lc (ql 3) ln) d312 (λg=>UG g.1)
def acA:EO ant:=λh=>kL (an:=(noTwo (.two (noTwo (O6.lp Js .no)) .no))) (l:=[(bg f312 0,(O6.lp Js .no))]) func312 aP (aA (aO O6) aF) h
def mO:EP ant:=λh=>kP h
def azG:bf:=(ant (aqt (anb (aqj (aoo de)))))
abbrev awr:=Bool
def d268:Td 0 awr:= .c [] [6] (.r 0 0 (ec 6 qb en) sn (λz=>z.1.1) (λx=>((x,()),(()))))
def se:∀f∈([308,309,310,311,312]:aa Nat),bw (azG) f:=(aA (mO (nc (mY (mI (mR bS))))) (aA (mO (nc (mY (mI (mR bS))))) (aA (mO (nc (mY (mI (mR bS))))) (aA (mO (nc (mY (mI (mR bS))))) (aA (mO (nc (mY (mI (mR bS))))) aF)))))
def OX(a0:aN)(a1:ay)(a2:Bool):af awr:=
 match bif J (a1.b9<0)then V O else V (J (6<a1.b9))with|S=>S|V r1=>bif r1 then V G else match bif bif UQ a1.b9 then G else O then V (bif J (a1.dD=0)then G else O)else V G with|S=>S|V r2=>bif r2 then V G else match bif bif Xy a1.b9 then G else O then V (bif J (a1.fN=0)then G else O)else V G with|S=>S|V r3=>bif r3 then V G else match bif bif abb a1.b9 then G else O then V (bif VN (au.mk a1.az.bC a1.az.fN a1.az.aq)then G else O)else V G with|S=>S|V r4=>bif r4 then V G else match bif bif J (a1.b9=3)then G else O then bif bif J (a1.b9=4)then G else O then V (J (0<(a1.aL.length:Int)))else V G else V G with|S=>S|V r5=>bif r5 then V G else match bif bif J (a1.b9=3)then G else O then V (J (0<(a1.aR.length:Int)))else V G with|S=>S|V r6=>bif r6 then V G else match bif bif J (a1.b9=6)then G else O then V (J (0<(a1.aJ.length:Int)))else V G with|S=>S|V r7=>bif r7 then V G else match bif UQ a1.b9 then bif J (a1.dD<0)then V O else bif J (a0.aj.length<=a1.dD)then V O else if 0<=a1.dD/\a1.dD<a0.aj.length then V (bif J (a0.aj[a1.dD.toNat]!.bz=0)then G else O)else S else V G with|S=>S|V r8=>bif r8 then V G else match bif J (a1.b9=5)then bif J (a1.fN<0)then V O else V (J (a0.ak.length<=a1.fN))else V G with|S=>S|V r9=>bif r9 then V G else match bif bif J (a1.b9=6)then G else O then V O else bif a2 then bif J (0<(a1.aJ.length:Int))then bif J ((a1.aJ.length:Int)<=32)then if(0:Int)<=(0:Int)/\(0:Int)<a1.aJ.length then bif J (0<=a1.aJ[zC 0]!)then match UG a1.aJ with|S=>S|V r10=>V (r10)else V G else S else V G else V G else V G with|S=>S|V r11=>V (r11)
def aol:=eL w9 268 G (lc (qg 26) (lc (qg 166) (lc qb ln))) d268 (λg=>OX g.1 g.2.1 g.t.1)
def ag5:EO aol:=λh=>kL (F:=azG) (an:=(noTwo (noTwo (.two (.two (.two (.rb [308,309,310,311,312] 10) (noTwo (.two (.rb [308,309,310,311,312] 10) (noTwo (.two (.rb [308,309,310,311,312] 10) (noTwo (.two (.rb [308,309,310,311,312] 10) (noTwo (.two (.rb [308,309,310,311,312] 10) (noTwo (.two (.rb [308,309,310,311,312] 10) (noTwo (.two (.rb [308,309,310,311,312] 10) (noTwo (.two (.rb [308,309,310,311,312] 10) (noTwo (.rb [308,309,310,311,312] 10))))))))))))))))) .no) (.two (.rb [308,309,310,311,312] 6) .no))))) (l:=[(.skip,(.rb [308,309,310,311,312] 10)),(.skip,(.rb [308,309,310,311,312] 10)),(.skip,(.rb [308,309,310,311,312] 10)),(.skip,(.rb [308,309,310,311,312] 10)),(.skip,(.rb [308,309,310,311,312] 10)),(.skip,(.rb [308,309,310,311,312] 10)),(.skip,(.rb [308,309,310,311,312] 10)),(.skip,(.rb [308,309,310,311,312] 10)),(.skip,(.rb [308,309,310,311,312] 10)),(.skip,(.rb [308,309,310,311,312] 6))]) func268 (acA (ag1 (acF (agX (ac4 aP))))) (aA se (aA se (aA se (aA se (aA se (aA se (aA se (aA se (aA se (aA se aF)))))))))) h
def Vq:EP aol:=λh=>kP h
def avn:bf:=de
abbrev axI:=Bool
def d269:Td 0 axI:= .c [] [2] (.r 0 0 (ec 2 qb en) sn (λz=>z.1.1) (λx=>((x,()),(()))))
def alu:∀f∈([]:aa Nat),bw (avn) f:=aF
def PB(a0:ay):af axI:=
 bif J (a0.b9=2)then match bif J (a0.bq<0)then V O else bif J (67108864<a0.bq)then V O else bif J (a0.b9=4)then bif J (a0.fN<0)then V O else V (J (4096<a0.fN))else V G with|S=>S|V r1=>bif r1 then V G else match bif bif J (a0.b9=6)then G else O then V O else if 0<=i64.wrap ((a0.aJ.length:Int)-(1:Int))/\i64.wrap ((a0.aJ.length:Int)-(1:Int))<a0.aJ.length then V (J (a0.aJ[(i64.wrap ((a0.aJ.length:Int)-1)).toNat]!<=67108864))else S with|S=>S|V r2=>V (r2)else match bif J (a0.bq<0)then V O else bif J (10000<a0.bq)then V O else bif J (a0.b9=4)then bif J (a0.fN<0)then V O else V (J (4096<a0.fN))else V G with|S=>S|V r3=>bif r3 then V G else match bif bif J (a0.b9=6)then G else O then V O else if 0<=i64.wrap ((a0.aJ.length:Int)-(1:Int))/\i64.wrap ((a0.aJ.length:Int)-(1:Int))<a0.aJ.length then V (J (a0.aJ[(i64.wrap ((a0.aJ.length:Int)-1)).toNat]!<=67108864))else S with|S=>S|V r4=>V (r4)
def anT:=eL w9 269 G (lc (qg 166) ln) d269 (λg=>PB g.1)
def ahS:EO anT:=λh=>kL (F:=avn) (an:=(noTwo (noTwo (noTwo (.two (.two (.rb [] 30) .no) (.two (.rb [] 2) .no)))))) (l:=[(.skip,(.rb [] 30)),(.skip,(.rb [] 2))]) func269 aP (aA alu (aA alu aF)) h
def UY:EP anT:=λh=>kP h
abbrev lP:=Int
def d212:Td 0 lP:= .c [] [6] (.r 0 0 (ec 6 aM en) sn (λz=>z.1.1) (λx=>((x,()),(()))))
def apX:=(lc (qg 26) (lc (ql 166) (lc qb ln)))
def af2(M:aN->(aa ay)->Bool->af lP):bf->bf:=eL w9 212 G apX d212 (λg=>M g.1 g.2.1 g.2.2.1)
def UZ{M:aN->(aa ay)->Bool->af lP}{F:bf}{f:Nat}(h:bw F f):bw (af2 M F) f:=eS h (λ_=>by kernel_rfl)
def ajH(M:aN->(aa ay)->Bool->af lP):Prop:=HL w9 212 apX d212 (λg=>M g.1 g.2.1 g.2.2.1)
def TW{M:aN->(aa ay)->Bool->af lP}(hM:ajH M){F:bf}(h:aQ w9 F):aQ w9 (af2 M F):=cT (sc:=jM) cv hM ⟨_,func212,by kernel_rfl,by kernel_rfl⟩ (λ_=>by kernel_rfl) (λ_=>by kernel_rfl) h
def ahX(M212:aN->(aa ay)->Bool->af lP):bf:=(anT (aol (apm (af2 M212 de))))
def abQ{M212}(h212:ajH M212):aQ w9 (ahX M212):=(ahS (ag5 (RE (TW h212 aP))))
structure AZ where
 t1:List ay
 t2:Bool
 t13:List ay
 (t14 t15:Int)
 t47:List (List ay)
 (t48 t49:Int)
 b0:aN
def QW:Td 0 AZ:= .c [] [1,2,3,13,14,15,47,48,49] (.r 0 2 (ec 1 (ql 166) (ec 2 qb (ec 3 (qp 0 0) (ec 13 (ql 166) (ec 14 aM (ec 15 aM (ec 47 (qo 1) (ec 48 aM (ec 49 aM en))))))))) (sb 0 26 (lg 26) (sr 1 24 sn)) (λz=>⟨z.1.1,z.1.2.1,z.1.t.2.1,z.1.q.1,z.1.q.2.1,z.t.1,z.1.q.t.2.1,z.1.q.q.1,z.2.1⟩) (λx=>((x.t1,x.t2,(),x.t13,x.t14,x.t15,(),x.t48,x.t49,()),(x.b0,x.t47,()))))
def sN(M212:aN->(aa ay)->Bool->af lP)(p:AZ):af (af AZ):=
 bif J (p.t49<p.t48)then if 0<=p.t49/\p.t49<p.t47.length then if 24=24/\p.t49.toNat<p.t47.length then match M212 p.b0 p.t47[p.t49.toNat]! G with|S=>S|V r8=>bif bif J (r8=0)then G else O then V (S)else V (V (AZ.mk p.t1 p.t2 p.t13 p.t14 p.t15 p.t47 p.t48 (i64.wrap (p.t49+1)) p.b0))else S else S else V (S)
def Af(M212:aN->(aa ay)->Bool->af lP):=bK (sN M212)
structure Fv where
 t1:List ay
 t2:Bool
 t13:List ay
 (t14 t15:Int)
 b0:aN
def Rh:Td 0 Fv:= .c [] [1,2,3,13,14,15] (.r 0 1 (ec 1 (ql 166) (ec 2 qb (ec 3 (qp 0 0) (ec 13 (ql 166) (ec 14 aM (ec 15 aM en)))))) (sb 0 26 (lg 26) sn) (λz=>⟨z.1.1,z.1.2.1,z.1.t.2.1,z.1.q.1,z.1.q.2.1,z.2.1⟩) (λx=>((x.t1,x.t2,(),x.t13,x.t14,x.t15,()),(x.b0,()))))
def vN(M212:aN->(aa ay)->Bool->af lP)(p:Fv):af (af Fv):=
 bif J (p.t15<p.t14)then if 0<=p.t15/\p.t15<p.t13.length then match bif p.t2 then match OX p.b0 (ay.mk p.t13[p.t15.toNat]!.b9 p.t13[p.t15.toNat]!.bq p.t13[p.t15.toNat]!.dD p.t13[p.t15.toNat]!.fN (au.mk p.t13[p.t15.toNat]!.az.bC p.t13[p.t15.toNat]!.az.fN p.t13[p.t15.toNat]!.az.aq) p.t13[p.t15.toNat]!.aL p.t13[p.t15.toNat]!.aR p.t13[p.t15.toNat]!.aJ) (J (((p.t1,p.t2,(),p.t13,p.t14,p.t15,()),p.b0,()).fst.snd.snd.snd.snd.snd.fst=i64.wrap ((↑((p.t1,p.t2,(),p.t13,p.t14,p.t15,()),p.b0,()).fst.fst.length:Int)-1)))with|S=>S|V r1=>V (bif r1 then G else O)else match OX p.b0 (ay.mk p.t13[p.t15.toNat]!.b9 p.t13[p.t15.toNat]!.bq p.t13[p.t15.toNat]!.dD p.t13[p.t15.toNat]!.fN (au.mk p.t13[p.t15.toNat]!.az.bC p.t13[p.t15.toNat]!.az.fN p.t13[p.t15.toNat]!.az.aq) p.t13[p.t15.toNat]!.aL p.t13[p.t15.toNat]!.aR p.t13[p.t15.toNat]!.aJ) G with|S=>S|V r2=>V (bif r2 then G else O)with|S=>S|V r3=>bif r3 then V (S)else match PB (ay.mk p.t13[p.t15.toNat]!.b9 p.t13[p.t15.toNat]!.bq p.t13[p.t15.toNat]!.dD p.t13[p.t15.toNat]!.fN (au.mk p.t13[p.t15.toNat]!.az.bC p.t13[p.t15.toNat]!.az.fN p.t13[p.t15.toNat]!.az.aq) p.t13[p.t15.toNat]!.aL p.t13[p.t15.toNat]!.aR p.t13[p.t15.toNat]!.aJ)with|S=>S|V r4=>bif bif r4 then G else O then V (S)else match PL p.b0.aj (au.mk p.t13[p.t15.toNat]!.az.bC p.t13[p.t15.toNat]!.az.fN p.t13[p.t15.toNat]!.az.aq) G with|S=>S|V r5=>bif bif J (r5=0)then G else O then V (S)else match Af M212 (AZ.mk p.t1 p.t2 p.t13 p.t14 p.t15 [p.t13[p.t15.toNat]!.aL,p.t13[p.t15.toNat]!.aR] (↑[p.t13[p.t15.toNat]!.aL,p.t13[p.t15.toNat]!.aR].length:Int) 0 p.b0)with|S=>S|V r6=>bif J (r6.t49<r6.t48)then if 0<=r6.t49/\r6.t49<r6.t47.length then if 24=24/\r6.t49.toNat<r6.t47.length then match M212 r6.b0 r6.t47[r6.t49.toNat]! G with|S=>S|V r7=>bif bif J (r7=0)then G else O then V (S)else S else S else S else V (V (Fv.mk r6.t1 r6.t2 r6.t13 r6.t14 (i64.wrap (r6.t15+1)) r6.b0))else S else V (S)
def ZZ(M212:aN->(aa ay)->Bool->af lP):An:=(noTwo (noTwo (.two (noTwo (.two (.two (.rb [268] 31) .no) (noTwo (noTwo (noTwo (QW.lp (Af M212) .no)))))) .no)))
def Kg(M212:aN->(aa ay)->Bool->af lP):=bK (vN M212)
def alr(M212:aN->(aa ay)->Bool->af lP):An:=(noTwo (.two (noTwo (Rh.lp (Kg M212) (ZZ M212))) .no))
def at9{M212}:∀f∈([268]:aa Nat),bw (ahX M212) f:=(aA (UY (Vq (VA (UZ bS)))) aF)
def auW(M212:aN->(aa ay)->Bool->af lP):cU w9 (ahX M212) 0 300 212 (alr M212):=bB (l:=[(bg f212 0,(Rh.lp (Kg M212) (ZZ M212))),(.skip,(.rb [268] 31)),(bg f212 1,(QW.lp (Af M212) .no))]) func212 (aV (by kernel_rfl)) (by kernel_rfl) (aA (aO Rh) (aA at9 (aA (aO QW) aF)))
def acw(M212:aN->(aa ay)->Bool->af lP)(a0:aN)(a1:aa ay)(a2:Bool):af lP:=
 match Kg M212 (Fv.mk a1 a2 a1 a1.length 0 a0)with|S=>S|V r9=>bif J (r9.t15<r9.t14)then if 0<=r9.t15/\r9.t15<r9.t13.length then match bif r9.t2 then match OX r9.b0 (ay.mk r9.t13[r9.t15.toNat]!.b9 r9.t13[r9.t15.toNat]!.bq r9.t13[r9.t15.toNat]!.dD r9.t13[r9.t15.toNat]!.fN (au.mk r9.t13[r9.t15.toNat]!.az.bC r9.t13[r9.t15.toNat]!.az.fN r9.t13[r9.t15.toNat]!.az.aq) r9.t13[r9.t15.toNat]!.aL r9.t13[r9.t15.toNat]!.aR r9.t13[r9.t15.toNat]!.aJ) (J (((r9.t1,r9.t2,(),r9.t13,r9.t14,r9.t15,()),r9.b0,()).fst.snd.snd.snd.snd.snd.fst=i64.wrap ((↑((r9.t1,r9.t2,(),r9.t13,r9.t14,r9.t15,()),r9.b0,()).fst.fst.length:Int)-1)))with|S=>S|V r10=>V (bif r10 then G else O)else match OX r9.b0 (ay.mk r9.t13[r9.t15.toNat]!.b9 r9.t13[r9.t15.toNat]!.bq r9.t13[r9.t15.toNat]!.dD r9.t13[r9.t15.toNat]!.fN (au.mk r9.t13[r9.t15.toNat]!.az.bC r9.t13[r9.t15.toNat]!.az.fN r9.t13[r9.t15.toNat]!.az.aq) r9.t13[r9.t15.toNat]!.aL r9.t13[r9.t15.toNat]!.aR r9.t13[r9.t15.toNat]!.aJ) G with|S=>S|V r11=>V (bif r11 then G else O)with|S=>S|V r12=>bif r12 then V 1 else match PB (ay.mk r9.t13[r9.t15.toNat]!.b9 r9.t13[r9.t15.toNat]!.bq r9.t13[r9.t15.toNat]!.dD r9.t13[r9.t15.toNat]!.fN (au.mk r9.t13[r9.t15.toNat]!.az.bC r9.t13[r9.t15.toNat]!.az.fN r9.t13[r9.t15.toNat]!.az.aq) r9.t13[r9.t15.toNat]!.aL r9.t13[r9.t15.toNat]!.aR r9.t13[r9.t15.toNat]!.aJ)with|S=>S|V r13=>bif bif r13 then G else O then V 3 else match PL r9.b0.aj (au.mk r9.t13[r9.t15.toNat]!.az.bC r9.t13[r9.t15.toNat]!.az.fN r9.t13[r9.t15.toNat]!.az.aq) G with|S=>S|V r14=>bif bif J (r14=0)then G else O then V (r14)else match Af M212 (AZ.mk r9.t1 r9.t2 r9.t13 r9.t14 r9.t15 [r9.t13[r9.t15.toNat]!.aL,r9.t13[r9.t15.toNat]!.aR] (↑[r9.t13[r9.t15.toNat]!.aL,r9.t13[r9.t15.toNat]!.aR].length:Int) 0 r9.b0)with|S=>S|V r15=>bif J (r15.t49<r15.t48)then if 0<=r15.t49/\r15.t49<r15.t47.length then if 24=24/\r15.t49.toNat<r15.t47.length then match M212 r15.b0 r15.t47[r15.t49.toNat]! G with|S=>S|V r16=>bif bif J (r16=0)then G else O then V (r16)else S else S else S else S else S else V 0
def aDO(M212:aN->(aa ay)->Bool->af lP)(a0:aN)(a1:aa ay)(a2:Bool):bM w9 (ahX M212) 300 (alr M212) 212 (apX.c (a0,a1,a2,())) [] 0 d212.rd=acw M212 a0 a1 a2:=by kernel_rfl
def amC:Nat->(aN->(aa ay)->Bool->af lP)
 |0=>(λ_ _ _=>S)
 |n+1=>(acw (amC n))
def Oy(n:Nat):aN->(aa ay)->Bool->af lP:=(amC n)
def KH:∀n,ajH (Oy n)
 |0=>λ_ _ h=>(by cases h)
 |n+1=>by
  have ih:=KH n;have i212:=ih;exact(cH (abQ i212) (auW (Oy n)) (λ_=>by kernel_rfl) (λ_=>by kernel_rfl) λg=>aDO (Oy n) g.1 g.2.1 g.2.2.1)
def adi:aN->(aa ay)->Bool->af lP:=λa0 a1 a2=>lim (λn=>Oy n a0 a1 a2)
def aiQ:ajH adi:=λg b h=>by
 obtain⟨n,hn⟩:=dN (show lim (λn=>Oy n g.1 g.2.1 g.2.2.1)=V b from h);exact(KH n) g b hn
def axJ(F:bf):bf:=af2 adi F
def acQ{F:bf}(h:aQ w9 F):aQ w9 (axJ F):=TW aiQ h
abbrev rR:=qx
def d213:Td 0 rR:= .c [] [2] (.r 0 1 (ec 2 (qp 0 0) en) (sb 0 260 (lg 260) sn) (λz=>z.2.1) (λx=>(((),()),(x,()))))
def anx:=(lc (ql 166) ln)
def arR(M:(aa ay)->af rR):bf->bf:=eL w9 213 G anx d213 (λg=>M g.1)
def ahy(M:(aa ay)->af rR):Prop:=HL w9 213 anx d213 (λg=>M g.1)
def RF{M:(aa ay)->af rR}(hM:ahy M){F:bf}(h:aQ w9 F):aQ w9 (arR M F):=cT (sc:=jM) cv hM ⟨_,func213,by kernel_rfl,by kernel_rfl⟩ (λ_=>by kernel_rfl) (λ_=>by kernel_rfl) h
def an0(M213:(aa ay)->af rR):bf:=(arR M213 de)
def aiC{M213}(h213:ahy M213):aQ w9 (an0 M213):=(RF h213 aP)
structure p9 where
 t9:List ay
 (t10 t11:Int)
 (b0 b1:qx)
def NW:Td 0 p9:= .c [] [2,3,9,10,11] (.r 0 2 (ec 2 (qp 0 0) (ec 3 (qp 1 0) (ec 9 (ql 166) (ec 10 aM (ec 11 aM en))))) (sb 0 260 (lg 260) (sb 1 260 (lg 260) sn)) (λz=>⟨z.1.t.1,z.1.t.2.1,z.1.q.1,z.2.1,z.t.1⟩) (λx=>(((),(),x.t9,x.t10,x.t11,()),(x.b0,x.b1,()))))
def HE(M213:(aa ay)->af rR)(p:p9):af (af p9):=
 bif J (p.t11<p.t10)then if 0<=p.t11/\p.t11<p.t9.length then match M213 p.t9[p.t11.toNat]!.aL with|S=>S|V r1=>match M213 p.t9[p.t11.toNat]!.aR with|S=>S|V r2=>bif J (p.t9[p.t11.toNat]!.b9=1)then V (V (p9.mk p.t9 p.t10 (i64.wrap (p.t11+1)) p.b0 (qx.mk (if 1099511627776<i64.wrap (p.b1.fR+1)then 1099511627776 else i64.wrap (p.b1.fR+1)) (if 1099511627776<i64.wrap (p.b1.aW+1)then 1099511627776 else i64.wrap (p.b1.aW+1)) (if 1099511627776<i64.wrap (p.b1.aI+p.t9[p.t11.toNat]!.bq)then 1099511627776 else i64.wrap (p.b1.aI+p.t9[p.t11.toNat]!.bq)))))else bif J (p.t9[p.t11.toNat]!.b9=3)then V (V (p9.mk p.t9 p.t10 (i64.wrap (p.t11+1)) p.b0 (qx.mk (if 1099511627776<i64.wrap (p.b1.fR+i64.wrap (1+if r1.fR<r2.fR then r2.fR else r1.fR))then 1099511627776 else i64.wrap (p.b1.fR+i64.wrap (1+if r1.fR<r2.fR then r2.fR else r1.fR))) (if 1099511627776<i64.wrap (p.b1.aW+if r1.aW<r2.aW then r2.aW else r1.aW)then 1099511627776 else i64.wrap (p.b1.aW+if r1.aW<r2.aW then r2.aW else r1.aW)) (if 1099511627776<i64.wrap (p.b1.aI+i64.wrap (p.t9[p.t11.toNat]!.bq+if r1.aI<r2.aI then r2.aI else r1.aI))then 1099511627776 else i64.wrap (p.b1.aI+i64.wrap (p.t9[p.t11.toNat]!.bq+if r1.aI<r2.aI then r2.aI else r1.aI))))))else bif J (p.t9[p.t11.toNat]!.b9=4)then V (V (p9.mk p.t9 p.t10 (i64.wrap (p.t11+1)) p.b0 (qx.mk (if 1099511627776<i64.wrap (p.b1.fR+i64.wrap (1+i64.wrap (p.t9[p.t11.toNat]!.fN*i64.wrap (1+r1.fR))))then 1099511627776 else i64.wrap (p.b1.fR+i64.wrap (1+i64.wrap (p.t9[p.t11.toNat]!.fN*i64.wrap (1+r1.fR))))) (if 1099511627776<i64.wrap (p.b1.aW+i64.wrap (p.t9[p.t11.toNat]!.fN*r1.aW))then 1099511627776 else i64.wrap (p.b1.aW+i64.wrap (p.t9[p.t11.toNat]!.fN*r1.aW))) (if 1099511627776<i64.wrap (p.b1.aI+i64.wrap (p.t9[p.t11.toNat]!.fN*i64.wrap (p.t9[p.t11.toNat]!.bq+r1.aI)))then 1099511627776 else i64.wrap (p.b1.aI+i64.wrap (p.t9[p.t11.toNat]!.fN*i64.wrap (p.t9[p.t11.toNat]!.bq+r1.aI)))))))else V (V (p9.mk p.t9 p.t10 (i64.wrap (p.t11+1)) p.b0 (qx.mk (if 1099511627776<i64.wrap (p.b1.fR+1)then 1099511627776 else i64.wrap (p.b1.fR+1)) (if 1099511627776<i64.wrap (p.b1.aW+0)then 1099511627776 else i64.wrap (p.b1.aW+0)) (if 1099511627776<i64.wrap (p.b1.aI+p.t9[p.t11.toNat]!.bq)then 1099511627776 else i64.wrap (p.b1.aI+p.t9[p.t11.toNat]!.bq)))))else S else V (S)
def It(M213:(aa ay)->af rR):=bK (HE M213)
def amz(M213:(aa ay)->af rR):An:=(noTwo (noTwo (.two (noTwo (NW.lp (It M213) .no)) .no)))
def ayH(M213:(aa ay)->af rR):cU w9 (an0 M213) 0 300 213 (amz M213):=bB (l:=[(bg f213 0,(NW.lp (It M213) .no))]) func213 (aV (by kernel_rfl)) (by kernel_rfl) (aA (aO NW) aF)
def adV(M213:(aa ay)->af rR)(a0:aa ay):af rR:=
 match It M213 (p9.mk a0 a0.length 0 (qx.mk 0 0 0) (qx.mk 0 0 0))with|S=>S|V r3=>bif J (r3.t11<r3.t10)then if 0<=r3.t11/\r3.t11<r3.t9.length then match M213 r3.t9[r3.t11.toNat]!.aL with|S=>S|V r4=>match M213 r3.t9[r3.t11.toNat]!.aR with|S=>S|V r5=>bif J (r3.t9[r3.t11.toNat]!.b9=1)then S else bif J (r3.t9[r3.t11.toNat]!.b9=3)then S else bif J (r3.t9[r3.t11.toNat]!.b9=4)then S else S else S else V (r3.b1)
def aCL(M213:(aa ay)->af rR)(a0:aa ay):bM w9 (an0 M213) 300 (amz M213) 213 (anx.c (a0,())) [] 0 d213.rd=adV M213 a0:=by kernel_rfl
def ams:Nat->((aa ay)->af rR)
 |0=>(λ_=>S)
 |n+1=>(adV (ams n))
def O7(n:Nat):(aa ay)->af rR:=(ams n)
def Li:∀n,ahy (O7 n)
 |0=>λ_ _ h=>(by cases h)
 |n+1=>by
  have ih:=Li n;have i213:=ih;exact(cH (aiC i213) (ayH (O7 n)) (λ_=>by kernel_rfl) (λ_=>by kernel_rfl) λg=>aCL (O7 n) g.1)
def WL:(aa ay)->af rR:=λa0=>lim (λn=>O7 n a0)
def adf:ahy WL:=λg b h=>by
 obtain⟨n,hn⟩:=dN (show lim (λn=>O7 n g.1)=V b from h);exact(Li n) g b hn
def atT(F:bf):bf:=arR WL F
def ad6{F:bf}(h:aQ w9 F):aQ w9 (atT F):=RF adf h
def avi:bf:=(atT (axJ (as3 (ayh (amZ (acU (au6 de)))))))
structure Ai where
 t14:List dx
 (t15 t16:Int)
 b0:aN
 b1:aY
def Q6:Td 0 Ai:= .c [] [1,3,14,15,16] (.r 0 2 (ec 1 (qp 0 0) (ec 3 (qp 1 0) (ec 14 (ql 139) (ec 15 aM (ec 16 aM en))))) (sb 0 26 (lg 26) (sb 1 256 (lg 256) sn)) (λz=>⟨z.1.t.1,z.1.t.2.1,z.1.q.1,z.2.1,z.t.1⟩) (λx=>(((),(),x.t14,x.t15,x.t16,()),(x.b0,x.b1,()))))
def Ef(p:Ai):af (af Ai):=
 bif J (p.t16<p.t15)then if 0<=p.t16/\p.t16<p.t14.length then bif bif(ja p.b1).fst then G else O then match FZ (au.mk p.t14[p.t16.toNat]!.az.bC p.t14[p.t16.toNat]!.az.fN p.t14[p.t16.toNat]!.az.aq) 1 (ja p.b1).snd with|S=>S|V r1=>V (V (Ai.mk p.t14 p.t15 (i64.wrap (p.t16+1)) p.b0 r1))else V (V (Ai.mk p.t14 p.t15 (i64.wrap (p.t16+1)) p.b0 (ja p.b1).snd))else S else V (S)
def DG:=bK (Ef)
abbrev avS:=Int
def d136:Td 0 avS:= .c [] [2] (.r 0 0 (ec 2 aM en) sn (λz=>z.1.1) (λx=>((x,()),(()))))
def avA:∀f∈([]:aa Nat),bw (avi) f:=aF
def Zb(a0:aN):af avS:=
 match abp a0.bH 1 (aY.mk 0 G)with|S=>S|V r2=>match DG (Ai.mk a0.ak a0.ak.length 0 a0 r2)with|S=>S|V r3=>bif J (r3.t16<r3.t15)then if 0<=r3.t16/\r3.t16<r3.t14.length then bif bif(ja r3.b1).fst then G else O then match FZ (au.mk r3.t14[r3.t16.toNat]!.az.bC r3.t14[r3.t16.toNat]!.az.fN r3.t14[r3.t16.toNat]!.az.aq) 1 (ja r3.b1).snd with|S=>S|V r4=>S else S else S else bif J (64<(r3.b0.aj.length:Int))then V 4 else bif J (8<(r3.b0.ak.length:Int))then V 4 else bif(ja r3.b1).fst then V 4 else match agn r3.b0.aj with|S=>S|V r5=>bif bif J (r5=0)then G else O then V (r5)else match afK r3.b0 with|S=>S|V r6=>bif bif J (r6=0)then G else O then V (r6)else match adi r3.b0 r3.b0.bH O with|S=>S|V r7=>bif bif J (r7=0)then G else O then V (r7)else match WL r3.b0.bH with|S=>S|V r8=>match bif J (4096<r8.fR)then V O else bif J (8<r8.aW)then V O else V (J (67108864<r8.aI))with|S=>S|V r9=>bif r9 then V 4 else V 0
def aiN:=eL w9 136 G (lc (qg 26) ln) d136 (λg=>Zb g.1)
def Us:EO aiN:=λh=>kL (F:=avi) (an:=(noTwo (noTwo (noTwo (.two (noTwo (Q6.lp DG .no)) (noTwo (noTwo (noTwo (noTwo (.two (noTwo (.two (.rb [] 72) .no)) .no)))))))))) (l:=[(bg f136 0,(Q6.lp DG .no)),(.skip,(.rb [] 72))]) func136 (ad6 (acQ (acP (aij (Tw (JA (aiv aP))))))) (aA (aO Q6) (aA avA aF)) h
def GK:EP aiN:=λh=>kP h
def XI(l:aa UInt8):(ByteArray.mk (xd l)).toList=l:=by
 have key:∀(k i:Nat) (acc:aa UInt8),i+k=l.length->ByteArray.toList.loop (ByteArray.mk (xd l)) i acc=acc.reverse++l.drop i:=by
  intro k;induction k with
  |zero=>
   intro i acc h;rw[ByteArray.toList.loop];have hs:(ByteArray.mk (xd l)).size=l.length:=rfl;rw[bP (by rw[hs];omega)];rw[xY (by omega),yC]
  |succ k ih=>
   intro i acc h;rw[ByteArray.toList.loop];have hs:(ByteArray.mk (xd l)).size=l.length:=rfl;rw[bG (by rw[hs];omega),ih (i+1) _ (by omega)];have hi:i<l.length:=by omega
   rw[xu hi];have:(ByteArray.mk (xd l)).get! i=l[i]:=by
    show (xd l)[i]! =_;rw[getElem!_pos (xd l) i hi];rfl
   rw[this];simp
 have:=key l.length 0 [] (by omega);simpa [ByteArray.toList]using this
def arW(s:ByteArray):(s.toList==(ByteArray.mk (xd [])).toList)=J (s.size=0):=by
 obtain⟨⟨l⟩⟩:=s;rw[XI,XI];have hs:(ByteArray.mk (xd l)).size=l.length:=rfl;rw[hs];cases l with
 |nil=>rfl
 |cons a l=>simp
def qP{n i:Nat}(h:i<n):(zM n)[i]! =i:=by rw[getElem!_pos _ i (by simpa using h)];simp
def B9(s:ByteArray):OG s=V (iO s):=by
 unfold OG;rw[arW];by_cases h0:s.size=0
 ·simp[h0,iO]
 by_cases h1:40<(s.size:Int)
 ·have h1':¬s.size<=40:=by omega
  simp[h0,h1,h1',iO]
 rw[bX h0,bX h1];dsimp only[bA];obtain⟨i,e1,hc⟩:=qm (rnd:=HX) (zM s.size) (λi=>⟨s,(s.size:Int),(i:Int)⟩) (λi j=>okc j (cw s j)) (λi hi=>by
  rw[xF]at hi;have hw:=fG hi (by omega);rw[qP hi];unfold HX okc;dsimp only;simp only[zh,ze];grind) (by unfold HX;simp)
 have e1':Io ⟨s,(s.size:Int),0⟩=V ⟨s,(s.size:Int),(i:Int)⟩:=e1;rw[e1'];have h2:iO s=(zM s.size).all λi=>okc i (cw s i):=by
  unfold iO;rw[nj,nj];simp
 rw[h2];dsimp only;rcases hc with ⟨rfl,hc⟩|⟨hi,hc⟩
 ·rw[DV hc];simp
 ·rw[ux hi hc];rw[xF]at hi;rw[qP hi]at hc;unfold okc at hc;simp only[zh,ze];grind
def BV(s:ByteArray):PV s=V (iO s):=by
 unfold PV;by_cases h0:s.size<1
 ·have h0':¬1<=s.size:=by omega
  have h0'':(s.size:Int)<1:=by omega
  simp[h0'',h0',iO]
 by_cases h1:40<(s.size:Int)
 ·have h1':¬s.size<=40:=by omega
  have h0'':¬(s.size:Int)<1:=by omega
  simp[h0'',h1,h1',iO]
 rw[bX (show ¬(s.size:Int)<1 by omega),bX h1];dsimp only[bA];obtain⟨i,e1,hc⟩:=qm (rnd:=H8) (zM s.size) (λi=>⟨s,(i:Int)⟩) (λi j=>okc j (cw s j)) (λi hi=>by
  rw[xF]at hi;have hw:=fG hi (by omega);rw[qP hi];unfold H8 okc;dsimp only;simp only[zh,ze];grind) (by unfold H8;simp)
 have e1':IP ⟨s,0⟩=V ⟨s,(i:Int)⟩:=e1;rw[e1'];have h2:iO s=(zM s.size).all λi=>okc i (cw s i):=by
  unfold iO;rw[nj,nj];simp
 rw[h2];dsimp only;rcases hc with ⟨rfl,hc⟩|⟨hi,hc⟩
 ·rw[DV hc];simp
 ·rw[ux hi hc];rw[xF]at hi;rw[qP hi]at hc;unfold okc at hc;simp only[zh,ze];grind
def BR(a b:Int):J4 a b=gP a b:=by
 unfold J4 gP;simp only[zh];grind
def BN(a b:Int):Hq a b=gP a b:=by
 unfold Hq gP;simp only[zh];grind
def T1(l:aa aX)(hl:l.length<=1000000)(v:aX):WE l v=V (l.any λw=>w.fName.toList==v.fName.toList):=by
 obtain⟨i,e1,hc⟩:=qm (rnd:=IX) l (λi=>⟨l,v.fName,v.bz,v.ag,v.ah,v.eE,(l.length:Int),(i:Int)⟩) (λ_ w=> !(w.fName.toList==v.fName.toList)) (λi hi=>by
  have hw:=fG hi hl;unfold IX abr;dsimp only;simp only[zh,ze];grind) (by unfold IX;simp)
 have e1':Kr ⟨l,v.fName,v.bz,v.ag,v.ah,v.eE,(l.length:Int),0⟩=V ⟨l,v.fName,v.bz,v.ag,v.ah,v.eE,(l.length:Int),(i:Int)⟩:=e1;unfold WE aqR;rw[e1'];dsimp only;rcases hc with ⟨rfl,hc⟩|⟨hi,hc⟩
 ·rw[uB λj hj=>by have:=hc j hj;simpa using this];simp
 ·have hc':(l[i]!.fName.toList==v.fName.toList)=O:=by simpa using hc
  rw[CX hi hc'];unfold abr;simp only[ze,hc',bD];simp[hi]
def G9(l:aa aX)(hl:l.length<=1000000)(n:Nat)(hn:n<=l.length)(v:aX):
  ∃i:Nat,EX ⟨l,n,0,v⟩=V ⟨l,n,(i:Int),v⟩/\((i=n/\((l.take n).any λw=>w.fName.toList==v.fName.toList)=G)\/(i<n/\(l[i]!.fName.toList==v.fName.toList)=O/\((l.take n).any λw=>w.fName.toList==v.fName.toList)=O)):=by
 have hlen:(l.take n).length=n:=by rw[zH];omega
 have hget:∀i,i<n->(l.take n)[i]! =l[i]! :=λi hi=>by
  rw[getElem!_pos _ i (by omega),getElem!_pos _ i (by omega),we]
 obtain⟨i,e1,hc⟩:=qm (rnd:=Hw) (l.take n) (λi=>⟨l,(n:Int),(i:Int),v⟩) (λ_ w=> !(w.fName.toList==v.fName.toList)) (λi hi=>by
  rw[hlen]at hi;have hw:=fG hi (by omega);rw[hget i hi];unfold Hw;dsimp only;simp only[zh,ze];grind) (by rw[hlen];unfold Hw;simp)
 refine⟨i,e1,?_⟩;rw[hlen]at hc;rcases hc with ⟨rfl,hc⟩|⟨hi,hc⟩
 ·exact .inl ⟨rfl,uB λj hj=>by have:=hc j (by omega);simpa using this⟩
 ·have hc':((l.take n)[i]!.fName.toList==v.fName.toList)=O:=by simpa using hc
  exact .inr ⟨hi,by rw[<-hget i hi];exact hc',CX (by omega) hc'⟩
def BH(a b:aa au):jr (a++b)=jr a+jr b:=by simp[jr]
def ES(l:aa au)(i:Nat):jr (l.take i)<=jr l:=by
 have:=BH (l.take i) (l.drop i);rw[xw]at this;omega
def JF(l:aa au):l.length<=jr l:=by
 induction l with
 |nil=>simp
 |cons a l ih=>rw[qu];have:=Ji a;simp;omega
def ab5(a b:aa ay):fI (a++b)=fI a+fI b:=by simp[fI]
def aag(l:aa ay)(i:Nat):fI (l.take i)<=fI l:=by
 have:=ab5 (l.take i) (l.drop i);rw[xw]at this;omega
def aox(s:ay):0<nS s:=by rw[oF];omega
def kC(l:aa ay):l.length<=fI l:=by
 induction l with
 |nil=>simp
 |cons a l ih=>rw[mL];have:=aox a;simp;omega
def Fe{l:aa au}{i:Nat}(hi:i<l.length):jr (l.take i)+nT l[i]!<=jr l:=by
 have:=ES l (i+1);rw[bI hi,p8]at this;exact this
def FE{l:aa ay}{i:Nat}(hi:i<l.length):fI (l.take i)+nS l[i]!<=fI l:=by
 have:=aag l (i+1);rw[bI hi,Ls]at this;exact this
def PX(l:aa au)(h:∀k∈l,dT k<=nT k):∀i,i<=l.length->NS (l.take i)<=jr (l.take i):=by
 intro i;induction i with
 |zero=>intro _;simp[NS,jr]
 |succ i ih=>
  intro hi;have:=ih (by omega);have h2:=h _ (bh (show i<l.length by omega));rw[bI (by omega),DD,p8];omega
def als(t:au):dT t<=nT t:=by
 have key:∀(n:Nat) (t:au),zg t<n->dT t<=nT t:=by
  intro n;induction n with
  |zero=>intro t h;omega
  |succ n ih=>
   intro t h;have:=PX t.aq (λk hk=>ih k (by have:=au.fm hk;omega)) t.aq.length (zo _);rw[zD]at this;rw[T7,tP];omega
 exact key _ t (zJ _)
def Xx(l:aa au)(i:Nat):NS (l.take i)<=jr l:=by
 have h1:=ES l i;by_cases h:i<=l.length
 ·have:=PX l (λk _=>als k) i h;omega
 ·have:=PX l (λk _=>als k) l.length (zo _);rw[zD]at this;rw[List.take_of_length_le (by omega)];omega
def ZA(l:aa ay):jD l<=fI l:=by
 have key:∀(n:Nat) (l:aa ay),zg l<n->jD l<=fI l:=by
  intro n;induction n with
  |zero=>intro t h;omega
  |succ n ih=>
   intro l h;cases l with
   |nil=>rw[jD];simp[fI]
   |cons s l=>
    have q1:=ih s.aL (by have:=bt (l:=s::l) (zm ..);omega);have q2:=ih s.aR (by have:=bt (l:=s::l) (zm ..);omega);have q3:=ih l (by have:=dV s l;omega);rw[jD,mL,oF];omega
 exact key _ l (zJ _)
def ahT(M:au->af pF)(t:au)(hM:∀k∈t.aq,M k=V (nT k:Int))(h:nT t<=1000):ag8 M t=V (nT t:Int):=by
 have hN:=tP t;have hL:=JF t.aq;obtain⟨v,e1,hv⟩:=cZ (rnd:=Ip M) t.aq.length (λi (b:Int)=>⟨b,(i:Int),t⟩) (λi b=>b=1+jr (t.aq.take i)) (λi b hi hb=>by
   have hs:=Fe hi;refine⟨b+nT t.aq[i]!,?_,?_⟩
   ·have hk:=hM _ (bh hi);have hw:=fG hi (by omega);have hw2:i64.wrap (b+nT t.aq[i]!)=b+nT t.aq[i]! :=aG;unfold Ip;dsimp only;simp only[zh,ze,au.eta,hk];grind
   ·rw[bI hi,p8];omega) (λb _=>by unfold Ip;simp) (b:=1) (by simp[jr])
 have e1':Ik M ⟨1,0,t⟩=V ⟨v,(t.aq.length:Int),t⟩:=e1;unfold ag8;rw[au.eta,e1',hN];rw[zD]at hv;simp[hv]
def RD:∀(n:Nat) (t:au),zg t<n->nT t<=1000->QS n t=V (nT t:Int)
 |0,_,h,_=>by omega
 |n+1,t,h,h2=>ahT (QS n) t (λk hk=>RD n k (by have:=au.fm hk;omega) (by have:=Tv hk;have:=tP t;omega)) h2
def IB(t:au)(h:nT t<=1000):OZ t=V (nT t:Int):=eT (zg t+1) λn hn=>RD n t (by omega) h
def acS(M:au->af pg)(t:au)(hM:∀k∈t.aq,M k=V (dT k))(h:nT t<=1000):afP M t=V (dT t):=by
 have hN:=tP t;have hL:=JF t.aq;obtain⟨v,e1,hv⟩:=cZ (rnd:=I8 M) t.aq.length (λi (b:Int)=>⟨b,(i:Int),t⟩) (λi b=>b=NS (t.aq.take i)) (λi b hi hb=>by
   refine⟨max b (dT t.aq[i]!),?_,?_⟩
   ·have hk:=hM _ (bh hi);have hw:=fG hi (by omega);unfold I8;dsimp only;simp only[zh,ze,au.eta,hk];grind
   ·rw[bI hi,DD,hb]) (λb _=>by unfold I8;simp) (b:=0) (by simp[NS])
 have e1':J3 M ⟨0,0,t⟩=V ⟨v,(t.aq.length:Int),t⟩:=e1;unfold afP;rw[au.eta,e1',T7];have hd:=Xx t.aq t.aq.length;have hp:=IZ t.aq;rw[zD]at hv hd;subst hv;have hw2:i64.wrap (NS t.aq+1)=NS t.aq+1:=aG;dsimp only;rw[gd];show V (i64.wrap (NS t.aq+1))=_;rw[hw2]
 congr 1
 omega
def Um:∀(n:Nat) (t:au),zg t<n->nT t<=1000->Ra n t=V (dT t)
 |0,_,h,_=>by omega
 |n+1,t,h,h2=>acS (Ra n) t (λk hk=>Um n k (by have:=au.fm hk;omega) (by have:=Tv hk;have:=tP t;omega)) h2
def JX(t:au)(h:nT t<=1000):KJ t=V (dT t):=eT (zg t+1) λn hn=>Um n t (by omega) h
def B7{s:ay}{l:aa ay}(h:s∈l):nS s<=fI l:=by
 induction l with
 |nil=>cases h
 |cons a l ih=>
  rw[mL];rcases zB.1 h with rfl|h
  ·omega
  ·have:=ih h;omega
def gF:aa ay->Int
 |[]=>0
 |s::l=>1+nT s.az+gF s.aL+gF s.aR+gF l
termination_by l=>zg l
decreasing_by
 ·exact(bt (zm ..)).1
 ·exact(bt (zm ..)).2
 ·exact dV _ _
def Cn(l:aa ay):0<=gF l/\gF l<=fI l:=by
 have key:∀(n:Nat) (l:aa ay),zg l<n->0<=gF l/\gF l<=fI l:=by
  intro n;induction n with
  |zero=>intro t h;omega
  |succ n ih=>
   intro l h;cases l with
   |nil=>rw[gF];simp[fI]
   |cons s l=>
    have q1:=ih s.aL (by have:=bt (l:=s::l) (zm ..);omega);have q2:=ih s.aR (by have:=bt (l:=s::l) (zm ..);omega);have q3:=ih l (by have:=dV s l;omega);rw[gF,mL,oF];omega
 exact key _ l (zJ _)
def Vf(l:aa ay)(s:ay):gF (l++[s])=gF l+(1+nT s.az+gF s.aL+gF s.aR):=by
 induction l with
 |nil=>rw[yw,show gF []=0 by rw[gF],gF,show gF []=0 by rw[gF]];omega
 |cons a l ih=>rw[xo,gF,gF,ih];omega
def adu(M:aa ay->af pH)(l:aa ay)(hM:∀s∈l,M s.aL=V (gF s.aL)/\M s.aR=V (gF s.aR))(h:fI l<=1000):aeM M l=V (gF l):=by
 have hL:=kC l;obtain⟨v,e1,hv⟩:=cZ (rnd:=Jk M) l.length (λi (b:Int)=>⟨l,b,(i:Int)⟩) (λi b=>b=gF (l.take i)) (λi b hi hb=>by
   have hs:=FE hi;have hE:=oF l[i]!;obtain⟨k1,k4⟩:=hM _ (bh hi);have k2:=Cn l[i]!.aL;have k3:=Cn l[i]!.aR;have k5:=Cn (l.take i);have hk:=IB l[i]!.az (by omega);have hw:=fG hi (by omega);refine⟨b+(1+nT l[i]!.az+gF l[i]!.aL+gF l[i]!.aR),?_,?_⟩
   ·have w1:i64.wrap (b+1)=b+1:=aG;have w2:i64.wrap (b+1+nT l[i]!.az)=b+1+nT l[i]!.az:=aG;have w3:i64.wrap (b+1+nT l[i]!.az+gF l[i]!.aL)=b+1+nT l[i]!.az+gF l[i]!.aL:=aG;have w4:i64.wrap (b+1+nT l[i]!.az+gF l[i]!.aL+gF l[i]!.aR)=b+(1+nT l[i]!.az+gF l[i]!.aL+gF l[i]!.aR):=by rw[aG];omega
    unfold Jk;dsimp only;simp only[zh,ze,au.eta,hk,k1,k4,w1,w2,w3,w4,hw];grind
   ·rw[bI hi,Vf];omega) (λb _=>by unfold Jk;simp) (b:=0) (by simp[gF])
 have e1':HW M ⟨l,0,0⟩=V ⟨l,v,(l.length:Int)⟩:=e1;unfold aeM;rw[e1'];rw[zD]at hv;simp[hv]
def gm{s:ay}{l:aa ay}(h:s∈l):fI s.aL<=fI l/\fI s.aR<=fI l:=by
 have:=B7 h;have:=oF s;omega
def I5:∀(n:Nat) (l:aa ay),zg l<n->fI l<=1000->Qz n l=V (gF l)
 |0,_,h,_=>by omega
 |n+1,l,h,h2=>adu (Qz n) l (λs hs=>⟨I5 n _ (by have:=bt hs;omega) (by have:=gm hs;omega),I5 n _ (by have:=bt hs;omega) (by have:=gm hs;omega)⟩) h2
def ajd(l:aa ay)(h:fI l<=1000):adA l=V (gF l):=eT (zg l+1) λn hn=>I5 n l (by omega) h
def afz(M:aa ay->af pz)(l:aa ay)(hM:∀s∈l,M s.aL=V (jD s.aL)/\M s.aR=V (jD s.aR))(h:fI l<=1000):ahd M l=V (jD l):=by
 have hL:=kC l;obtain⟨v,e1,hv⟩:=cZ (rnd:=HM M) l.length (λi (b:Int)=>⟨l,b,(i:Int)⟩) (λi b=>b=jD (l.take i)) (λi b hi hb=>by
   obtain⟨k1,k4⟩:=hM _ (bh hi);have k2:=ZA l[i]!.aL;have k3:=ZA l[i]!.aR;have k5:=gm (bh hi);have k6:=qT l[i]!.aL;have k7:=qT l[i]!.aR;have hw:=fG hi (by omega);refine⟨max b (max (jD l[i]!.aL+1) (jD l[i]!.aR+1)),?_,?_⟩
   ·have w1:i64.wrap (jD l[i]!.aL+1)=jD l[i]!.aL+1:=aG;have w2:i64.wrap (jD l[i]!.aR+1)=jD l[i]!.aR+1:=aG;unfold HM;dsimp only;simp only[zh,ze,k1,k4,w1,w2,hw];grind
   ·rw[bI hi,Xo];omega) (λb _=>by unfold HM;simp) (b:=0) (by simp[jD])
 have e1':ID M ⟨l,0,0⟩=V ⟨l,v,(l.length:Int)⟩:=e1;unfold ahd;rw[e1'];rw[zD]at hv;simp[hv]
def Kc:∀(n:Nat) (l:aa ay),zg l<n->fI l<=1000->Qx n l=V (jD l)
 |0,_,h,_=>by omega
 |n+1,l,h,h2=>afz (Qx n) l (λs hs=>⟨Kc n _ (by have:=bt hs;omega) (by have:=gm hs;omega),Kc n _ (by have:=bt hs;omega) (by have:=gm hs;omega)⟩) h2
def ads(l:aa ay)(h:fI l<=1000):ae8 l=V (jD l):=eT (zg l+1) λn hn=>Kc n l (by omega) h
def L8(s:ay):Bool:=J (12<dT s.az)||fD s.aL||fD s.aR
def Vg(l:aa ay):fD l=l.any L8:=by
 induction l with
 |nil=>rw[fD];rfl
 |cons s l ih=>rw[fD,ih,List.any_cons];rfl
def ais(M:aa ay->af oN)(l:aa ay)(hM:∀s∈l,M s.aL=V (fD s.aL)/\M s.aR=V (fD s.aR))(h:fI l<=1000):ah3 M l=V (fD l):=by
 have hL:=kC l;have hT:∀i,i<l.length->KJ l[i]!.az=V (dT l[i]!.az):=λi hi=>JX _ (by have:=B7 (bh hi);have:=oF l[i]!;omega);obtain⟨i,e1,hc⟩:=qm (rnd:=Kk M) l (λi=>⟨l,(i:Int)⟩) (λ_ s=> !L8 s) (λi hi=>by
   obtain⟨k1,k4⟩:=hM _ (bh hi);have hk:=hT i hi;have hw:=fG hi (by omega);unfold Kk L8;dsimp only;simp only[zh,ze,au.eta,hk,k1,k4,hw];cases fD l[i]!.aL<;>cases fD l[i]!.aR<;>grind) (by unfold Kk;simp)
 have e1':HB M ⟨l,0⟩=V ⟨l,(i:Int)⟩:=e1;unfold ah3;rw[e1',Vg];dsimp only;rcases hc with ⟨rfl,hc⟩|⟨hi,hc⟩
 ·rw[uB λj hj=>by have:=hc j hj;simpa using this];simp
 ·have hc':L8 l[i]! =O:=by simpa using hc
  rw[CX hi hc'];obtain⟨k1,k4⟩:=hM _ (bh hi);have hk:=hT i hi;unfold L8 at hc';simp only[zh,ze,au.eta,hk,k1,k4];revert hc';cases fD l[i]!.aL<;>cases fD l[i]!.aR<;>grind
def Kj:∀(n:Nat) (l:aa ay),zg l<n->fI l<=1000->P8 n l=V (fD l)
 |0,_,h,_=>by omega
 |n+1,l,h,h2=>ais (P8 n) l (λs hs=>⟨Kj n _ (by have:=bt hs;omega) (by have:=gm hs;omega),Kj n _ (by have:=bt hs;omega) (by have:=gm hs;omega)⟩) h2
def afh(l:aa ay)(h:fI l<=1000):ajA l=V (fD l):=eT (zg l+1) λn hn=>Kj n l (by omega) h
def eW(b:aY):Bool:=b.fE||J (1024<b.bE)
def uu(b:aY):ja b=(eW b,b):=by
 unfold ja eW;cases b.fE<;>rfl
def dy(d:Int)(b:aY):aY:=⟨b.bE+1,b.fE||J (12<d)⟩
def sZ(t:au)(d:Int)(b:aY):aY:=if eW (dy d b)=O then dy d b else t.aq.attach.foldl (λb k=>sZ k.1 (d+1) b) (dy d b)
termination_by zg t
decreasing_by exact au.fm k.2
def F1(l:aa au)(d:Int)(b:aY):aY:=l.foldl (λb k=>sZ k d b) b
def XF(t:au)(d:Int)(b:aY):sZ t d b=if eW (dy d b)=O then dy d b else F1 t.aq (d+1) (dy d b):=by
 rw[sZ,F1];rw[show t.aq.attach.foldl (λb k=>sZ k.1 (d+1) b) (dy d b)=t.aq.foldl (λb k=>sZ k (d+1) b) (dy d b)from List.foldl_attach (f:=λb k=>sZ k (d+1) b)]
def Ge(l:aa au)(k:au)(d:Int)(b:aY):F1 (l++[k]) d b=sZ k d (F1 l d b):=by simp[F1]
def MsP(d0:Int)(n:Int)(b r:aY):Prop:=r.fE=(b.fE||J (12<d0))/\b.bE<=r.bE/\r.bE<=b.bE+n
def HQ(t:au)(d:Int)(b:aY)(h0:0<=d)(h1:0<=b.bE)(h2:b.bE+nT t<=1000):MsP (d-1+dT t) (nT t) b (sZ t d b):=by
 have key:∀(n:Nat) (t:au) (d:Int) (b:aY),zg t<n->0<=d->0<=b.bE->b.bE+nT t<=1000->MsP (d-1+dT t) (nT t) b (sZ t d b):=by
  intro n;induction n with
  |zero=>intro t d b h;omega
  |succ n ih=>
   intro t d b h h0 h1 h2;have hN:=tP t;have hD:=T7 t;have hd0:=IZ t.aq;rw[XF];by_cases ho:eW (dy d b)=O
   ·rw[bG ho];unfold eW dy at ho;unfold MsP dy;grind
   ·rw[bP ho];have hi:∀i,i<=t.aq.length->MsP (d+NS (t.aq.take i)) (jr (t.aq.take i)) (dy d b) (F1 (t.aq.take i) (d+1) (dy d b)):=by
     intro i;induction i with
     |zero=>
      intro _;unfold eW dy at ho;simp only[xR,F1,List.foldl_nil,MsP,NS,jr,yR,dy];grind
     |succ i ihi=>
      intro hi;have q:=ihi (by omega);have hs:=Fe (show i<t.aq.length by omega);have hm:t.aq[i]!∈t.aq:=bh (by omega);have hp:(dy d b).bE=b.bE+1:=rfl;have q2:=ih t.aq[i]! (d+1) (F1 (t.aq.take i) (d+1) (dy d b)) (by have:=au.fm hm;omega) (by omega) (by have:=q.2.1;omega) (by have:=q.2.2;omega);rw[bI (by omega),Ge,DD,p8];unfold MsP at q q2 ⊢;obtain⟨a1,a2,a3⟩:=q;obtain⟨c1,c2,c3⟩:=q2;refine⟨?_,by omega,by omega⟩;rw[c1,a1];rw[Bool.or_assoc]
      congr 1
      rw[<-Bool.decide_or];apply decide_eq_decide.2;omega
    have q:=hi t.aq.length (zo _);rw[zD]at q;unfold MsP at q ⊢;obtain⟨a1,a2,a3⟩:=q;unfold eW at ho;have hp:(dy d b).bE=b.bE+1:=rfl;have hp2:(dy d b).fE=(b.fE||J (12<d)):=rfl;refine⟨?_,by omega,by omega⟩;rw[a1,hD,hp2];rw[hp2]at ho;grind
 exact key _ t d b (zJ _) h0 h1 h2
def aeD(M:au->Int->aY->af rL)(t:au)(hM:∀k∈t.aq,∀(d:Int) (b:aY),0<=d->d<=13->0<=b.bE->b.bE+nT k<=1000->M k d b=V (sZ k d b))(d:Int)(b:aY)(h0:0<=d)(hd:d<=13)(h1:0<=b.bE)(h2:b.bE+nT t<=1000):agq M t d b=V (sZ t d b):=by
 have hN:=tP t;have hL:=JF t.aq;have hw0:i64.wrap (b.bE+1)=b.bE+1:=aG;have hw1:i64.wrap (d+1)=d+1:=aG;have hinc:∀x,(⟨b.bE+1,x⟩:aY)=dy d b↔x=(b.fE||J (12<d)):=λx=>by unfold dy;simp
 have key:eW (dy d b)=G->d<=12/\Es M ⟨d,t.aq,(t.aq.length:Int),0,dy d b⟩=V ⟨d,t.aq,(t.aq.length:Int),(t.aq.length:Int),F1 t.aq (d+1) (dy d b)⟩:=λho=>by
  have hd2:d<=12:=by unfold eW dy at ho;grind
  refine⟨hd2,?_⟩;obtain⟨v,e1,hv,_⟩:=cZ (rnd:=Hx M) t.aq.length (λi (x:aY)=>⟨d,t.aq,(t.aq.length:Int),(i:Int),x⟩) (λi x=>x=F1 (t.aq.take i) (d+1) (dy d b)/\b.bE+1<=x.bE/\x.bE<=b.bE+1+jr (t.aq.take i)) (λi x hi hx=>by
    have hs:=Fe hi;have hk:=hM _ (bh hi) (d+1) x (by omega) (by omega) (by omega) (by omega);have hp:=HQ t.aq[i]! (d+1) x (by omega) (by omega) (by omega);have hw:=fG hi (by omega);refine⟨sZ t.aq[i]! (d+1) x,?_,?_⟩
    ·unfold Hx;dsimp only;simp only[zh,ze,au.eta,hw1,hk,hw];grind
    ·unfold MsP at hp;rw[bI hi,Ge,<-hx.1,p8];exact⟨rfl,by omega,by omega⟩) (λx _=>by unfold Hx;simp) (b:=dy d b) ⟨rfl,zq _,by show b.bE+1<=_;simp[jr]⟩
  rw[zD]at hv;rw[<-hv];exact e1
 rw[XF];unfold agq;rw[hw0];have hm:∀x,x=(b.fE||J (12<d))->ja ⟨b.bE+1,x⟩=(eW (dy d b),dy d b):=λx hx=>by rw[uu,(hinc x).2 hx]
 cases hb:b.fE with
 |true=>
  rw[hm O (by rw[hb];rfl)];have ho:eW (dy d b)=O:=by unfold eW dy;simp[hb]
  simp[ho]
 |false=>
  rw[hm (J (12<d)) (by rw[hb];rfl)];cases ho:eW (dy d b)with
  |true=>simp
  |false=>
   obtain⟨_,e⟩:=key ho;rw[e];simp
def SV:∀(n:Nat) (t:au) (d:Int) (b:aY),zg t<n->0<=d->d<=13->0<=b.bE->b.bE+nT t<=1000->PC n t d b=V (sZ t d b)
 |0,_,_,_,h,_,_,_,_=>by omega
 |n+1,t,d,b,h,h0,hd,h1,h2=>aeD (PC n) t (λk hk d b a1 a2 a3 a4=>SV n k d b (by have:=au.fm hk;omega) a1 a2 a3 a4) d b h0 hd h1 h2
def Rm(t:au)(d:Int)(b:aY)(h0:0<=d)(hd:d<=13)(h1:0<=b.bE)(h2:b.bE+nT t<=1000):FZ t d b=V (sZ t d b):=eT (zg t+1) λn hn=>SV n t d b (by omega) h0 hd h1 h2
def nu(d:Int):aa ay->aY->aY
 |[],b=>b
 |s::l,b=>if eW (dy d b)=O then dy d b else nu d l (nu (d+1) s.aR (nu (d+1) s.aL (sZ s.az 1 (dy d b))))
termination_by l=>zg l
decreasing_by
 ·exact(bt (zm ..)).1
 ·exact(bt (zm ..)).2
 ·exact dV _ _
def O9(d:Int)(l:aa ay)(b:aY)(h0:0<=d)(hd:d<=13)(h1:0<=b.bE)(h2:b.bE+fI l<=1000):(nu d l b).fE=(b.fE||(J (12<d-1+jD l)||fD l))/\b.bE<=(nu d l b).bE/\(nu d l b).bE<=b.bE+fI l:=by
 have key:∀(n:Nat) (d:Int) (l:aa ay) (b:aY),zg l<n->0<=d->d<=13->0<=b.bE->b.bE+fI l<=1000->(nu d l b).fE=(b.fE||(J (12<d-1+jD l)||fD l))/\b.bE<=(nu d l b).bE/\(nu d l b).bE<=b.bE+fI l:=by
  intro n;induction n with
  |zero=>intro d l b h;omega
  |succ n ih=>
   intro d l b h h0 hd h1 h2;cases l with
   |nil=>
    rw[nu,jD,fD];refine⟨?_,by omega,by simp[fI]⟩;rw[gd];simp
   |cons s l=>
    have hz:=bt (l:=s::l) (zm ..);have hz2:=dV s l;have hN:=oF s;have hC:=mL s l;have p1:=qT s.aL;have p2:=qT s.aR;have p3:=qT l;have p4:=amM s.az;have hp:(dy d b).bE=b.bE+1:=rfl;have hp2:(dy d b).fE=(b.fE||J (12<d)):=rfl;rw[nu,jD,fD];by_cases ho:eW (dy d b)=O
    ·rw[bG ho];unfold eW dy at ho;unfold dy;dsimp only at ho ⊢;refine⟨?_,by omega,by omega⟩;grind
    ·rw[bP ho];unfold eW at ho;rw[hp,hp2]at ho;have hb:b.fE=G:=by grind
     have hd2:d<=12:=by grind
     obtain⟨a1,a2,a3⟩:=HQ s.az 1 (dy d b) (by omega) (by omega) (by omega);obtain⟨c1,c2,c3⟩:=ih (d+1) s.aL (sZ s.az 1 (dy d b)) (by omega) (by omega) (by omega) (by omega) (by omega);obtain⟨g1,g2,g3⟩:=ih (d+1) s.aR _ (by omega) (by omega) (by omega) (xU (by omega) c2) (by omega);obtain⟨k1,k2,k3⟩:=ih d l _ (by omega) h0 hd (xU (by omega) g2) (by omega);refine⟨?_,by omega,by omega⟩;rw[k1,g1,c1,a1,hp2,hb];rw[bX (show ¬12<d by omega)];have e1:J (12<1-1+dT s.az)=J (12<dT s.az):=by congr 1;rw[show (1:Int)-1+dT s.az=dT s.az by omega]
     rw[e1];have e2:J (12<d-1+max (max (jD s.aL+1) (jD s.aR+1)) (jD l))=(J (12<d+1-1+jD s.aL)||(J (12<d+1-1+jD s.aR)||J (12<d-1+jD l))):=by
      rw[<-Bool.decide_or,<-Bool.decide_or];apply decide_eq_decide.2;omega
     rw[e2];generalize J (12<dT s.az)=x1;generalize J (12<d+1-1+jD s.aL)=x2;generalize J (12<d+1-1+jD s.aR)=x3;generalize J (12<d-1+jD l)=x4;generalize fD s.aL=x5;generalize fD s.aR=x6;generalize fD l=x7;revert x1 x2 x3 x4 x5 x6 x7;decide
 exact key _ d l b (zJ _) h0 hd h1 h2
def Bn{α:Type}[Inhabited α]{c:Nat->α->Int}:∀(l:aa α) (i:Nat),cq c l i=0->∀j,j<l.length->c (i+j) l[j]! =0
 |[],i,_,j,hj=>by simp at hj
 |x::xs,i,h,j,hj=>by
  unfold cq at h;split at h
  ·rename_i hx;cases j with
   |zero=>exact hx
   |succ j=>
    have:=Bn xs (i+1) h j (by simpa using hj);rw[show i+1+j=i+(j+1)by omega]at this;simpa using this
  ·rename_i hx;exact dF h hx
def dc(vars:aa aX):Prop:=∀v∈vars,-1048576<=v.ag/\v.ag<=v.ah/\v.ah<=1048576
def VV{vars:aa aX}{i:Nat}{v:aX}(h:k8 vars i v=0): -1048576<=v.ag/\v.ag<=v.ah/\v.ah<=1048576:=by
 unfold k8 gP at h;grind
def mF{vars:aa aX}(h:cq (k8 vars) vars 0=0):dc vars:=λv hv=>by
 obtain⟨i,hi,e⟩:=yY hv;have:=Bn _ _ h i hi;rw[getElem!_pos vars i hi,e]at this;exact VV this
def sG(kind:Int):∀(l:aa aX) (i:Nat) (n:Int),Ll (λ_ (n:Int) (v:aX)=>if 4096<n*(v.ah-v.ag+1)then(.inr ():Int ⊕ Unit)else .inl (n*(v.ah-v.ag+1))) (λ_=>(S:af Int)) V (l.filter λv=>J (v.bz=kind)) i n=tG kind l n
 |[],i,n=>rfl
 |v::vs,i,n=>by
  unfold tG;by_cases hv:v.bz=kind
  ·rw[List.filter_cons_of_pos (by simpa using hv),bG hv];by_cases h:4096<n*(v.ah-v.ag+1)
   ·rw[bG h,ny (r:=()) (by rw[bG h])]
   ·rw[bP h,rz (by rw[bP h])];exact sG kind vs (i+1) _
  ·rw[List.filter_cons_of_neg (by simpa using hv),bP hv];exact sG kind vs i n
def DH(kind:Int):∀(l:aa aX) (i:Nat) (n:Int),Ll (λ_ (n:Int) (v:aX)=>if v.bz=kind then(if 4096<n*(v.ah-v.ag+1)then(.inr ():Int ⊕ Unit)else .inl (n*(v.ah-v.ag+1)))else .inl n) (λ_=>(S:af Int)) V l i n=tG kind l n
 |[],i,n=>rfl
 |v::vs,i,n=>by
  unfold tG;by_cases hv:v.bz=kind
  ·rw[bG hv];by_cases h:4096<n*(v.ah-v.ag+1)
   ·rw[bG h,ny (r:=()) (by rw[bG hv,bG h])]
   ·rw[bP h,rz (b':=n*(v.ah-v.ag+1)) (by rw[bG hv,bP h])];exact DH kind vs (i+1) _
  ·rw[bP hv,rz (b':=n) (by rw[bP hv])];exact DH kind vs (i+1) n
def Cs{v:aX}(h: -1048576<=v.ag/\v.ag<=v.ah/\v.ah<=1048576){n:Int}(h1:1<=n)(h2:n<=4096):
  1<=n*(v.ah-v.ag+1)/\i64.wrap (v.ah-v.ag)=v.ah-v.ag/\i64.wrap (v.ah-v.ag+1)=v.ah-v.ag+1/\i64.wrap (n*(v.ah-v.ag+1))=n*(v.ah-v.ag+1):=by
 have e1:0<=(n-1)*(v.ah-v.ag+1):=zF (by omega) (by omega);have e2:n*(v.ah-v.ag+1)<=4096*(v.ah-v.ag+1):=zN h2 (by omega);have e3:(n-1)*(v.ah-v.ag+1)=n*(v.ah-v.ag+1)-(v.ah-v.ag+1):=by rw[yt,z6]
 exact⟨by omega,aG,aG,aG⟩
def Wm(vars:aa aX)(hv:dc vars)(hl:vars.length<=1000000)(kind:Int):sQ ⟨kind,[],vars,(vars.length:Int),0⟩=V ⟨kind,vars.filter (λv=>J (v.bz=kind)),vars,(vars.length:Int),(vars.length:Int)⟩:=by
 obtain⟨v,e1,hV⟩:=cZ (rnd:=Ed) vars.length (λi (b:aa aX)=>⟨kind,b,vars,(vars.length:Int),(i:Int)⟩) (λi b=>b=(vars.take i).filter λv=>J (v.bz=kind)) (λi b hi hb=>by
  have hw:=fG hi hl;have hv:=hv _ (bh hi);have hb2:b.length<=i:=by rw[hb];exact zK (yp _ _) (by rw[zH];omega)
  rw[bI hi,y6,<-hb];by_cases hk:vars[i]!.bz=kind
  ·refine⟨b++[vars[i]!],?_,?_⟩
   ·have hl2:(b++[vars[i]!]).length<=1073741824:=by simp;omega
    unfold Ed;dsimp only;simp only[zh,ze];grind
   ·revert hk;generalize vars[i]! =x;intro hk;simp[hk]
  ·refine⟨b,?_,?_⟩
   ·unfold Ed;dsimp only;simp only[zh,ze];grind
   ·revert hk;generalize vars[i]! =x;intro hk;simp[hk]) (λb _=>by unfold Ed;simp) (b:=[]) rfl
 rw[zD]at hV;rw[<-hV];exact e1
def UT(F:aa aX)(hv:dc F)(hl:F.length<=1000000):
  ∃(i:Nat) (n:Int),sR ⟨F,1,F,(F.length:Int),0⟩=V ⟨F,n,F,(F.length:Int),(i:Int)⟩/\((i=F.length/\Ll (λ_ (n:Int) (v:aX)=>if 4096<n*(v.ah-v.ag+1)then(.inr ():Int ⊕ Unit)else .inl (n*(v.ah-v.ag+1))) (λ_=>(S:af Int)) V F 0 1=V n)\/
   (i<F.length/\4096<i64.wrap (n*FU F[i]!)/\Ll (λ_ (n:Int) (v:aX)=>if 4096<n*(v.ah-v.ag+1)then(.inr ():Int ⊕ Unit)else .inl (n*(v.ah-v.ag+1))) (λ_=>(S:af Int)) V F 0 1=S)):=by
 have hm:∀(i:Nat) (n:Int),i<F.length->1<=n->n<=4096->i64.wrap (n*FU F[i]!)=n*(F[i]!.ah-F[i]!.ag+1):=λi n hi h1 h2=>by
  obtain⟨a,b,c,d⟩:=Cs (hv _ (bh hi)) h1 h2;unfold FU;rw[b,c,d]
 obtain⟨i,n,e1,hI,hc⟩:=Sl (rnd:=JC) F (λi (n:Int)=>⟨F,n,F,(F.length:Int),(i:Int)⟩) (λ_ (n:Int) (v:aX)=>if 4096<n*(v.ah-v.ag+1)then(.inr ():Int ⊕ Unit)else .inl (n*(v.ah-v.ag+1))) (λ_=>(S:af Int)) V (λi n=>1<=n/\n<=4096) (λi n hi hI=>by
  have hw:=fG hi hl;have h1:=hm i n hi hI.1 hI.2;have h2:=(Cs (hv _ (bh hi)) hI.1 hI.2).1;unfold JC;dsimp only;simp only[zh,ze,h1];grind) (λb _=>by unfold JC;simp) (b:=1) ⟨by omega,by omega⟩
 refine⟨i,n,e1,?_⟩;rcases hc with ⟨h1,h2⟩|⟨h1,r,h2,h3⟩
 ·exact .inl ⟨h1,h2⟩
 ·refine .inr ⟨h1,?_,h3⟩;rw[hm i n h1 hI.1 hI.2];by_cases h:4096<n*(F[i]!.ah-F[i]!.ag+1)
  ·exact h
  ·rw[bP h]at h2;cases h2
def HA(vars:aa aX)(hv:dc vars)(hl:vars.length<=1000000)(kind:Int)(hk:kind=1\/kind=2\/kind=3):YN vars kind=V (match tG kind vars 1 with|V n=>(n,0)|S=>(0,4)):=by
 have e0:=Wm vars hv hl kind;obtain⟨i,n,e1,hc⟩:=UT (vars.filter λv=>J (v.bz=kind)) (λv h=>hv v (zZ.1 h).1) (zK (yp _ _) hl);rw[sG]at hc;unfold YN anW;rcases hk with rfl|rfl|rfl
 all_goals
  simp only[zh,e0,e1,Int.reduceEq,cF,gA,reduceIte];rcases hc with ⟨rfl,hc⟩|⟨hi,h2,hc⟩
  ·simp[hc]
  ·simp only[ze,h2,cF,hc];simp[hi]
def I6(vars:aa aX)(hv:dc vars)(hl:vars.length<=1000000)(kind:Int):VF vars kind=V (match tG kind vars 1 with|V n=>n|S=>4097):=by
 have hm:∀(i:Nat) (n:Int),i<vars.length->1<=n->n<=4096->i64.wrap (n*i64.wrap (i64.wrap (vars[i]!.ah-vars[i]!.ag)+1))=n*(vars[i]!.ah-vars[i]!.ag+1):=λi n hi h1 h2=>by
  obtain⟨a,b,c,d⟩:=Cs (hv _ (bh hi)) h1 h2;rw[b,c,d]
 obtain⟨i,n,e1,hI,hc⟩:=Sl (rnd:=Ko) vars (λi (n:Int)=>⟨vars,kind,n,(i:Int)⟩) (λ_ (n:Int) (v:aX)=>if v.bz=kind then(if 4096<n*(v.ah-v.ag+1)then(.inr ():Int ⊕ Unit)else .inl (n*(v.ah-v.ag+1)))else .inl n) (λ_=>(S:af Int)) V (λi n=>1<=n/\n<=4096) (λi n hi hI=>by
  have hw:=fG hi hl;have h1:=hm i n hi hI.1 hI.2;have h2:=(Cs (hv _ (bh hi)) hI.1 hI.2).1;unfold Ko;dsimp only;simp only[zh,ze,h1];grind) (λb _=>by unfold Ko;simp) (b:=1) ⟨by omega,by omega⟩
 rw[DH]at hc;have e1':Jz ⟨vars,kind,1,0⟩=V ⟨vars,kind,n,(i:Int)⟩:=e1;unfold VF;rw[e1'];dsimp only;rcases hc with ⟨rfl,hc⟩|⟨hi,r,h2,hc⟩
 ·simp[hc]
 ·have h1:=hm i n hi hI.1 hI.2;simp only[zh,ze,h1,hc];grind
def C9(kind:Int):∀(l:aa aX) (n m:Int),n<=4096->tG kind l n=V m->m<=4096
 |[],n,m,h,e=>by unfold tG at e;cases e;exact h
 |v::vs,n,m,h,e=>by
  unfold tG at e;split at e
  ·split at e
   ·cases e
   ·exact C9 kind vs _ m (by omega) e
  ·exact C9 kind vs n m h e
def XG(vars:aa aX)(hl:vars.length<=1000000)(i:Nat)(hi:i<vars.length):(k8 vars i vars[i]! =0->v7 ⟨vars,vars,(vars.length:Int),(i:Int)⟩=V (V ⟨vars,vars,(vars.length:Int),((i+1:Nat):Int)⟩))/\(k8 vars i vars[i]!≠0->v7 ⟨vars,vars,(vars.length:Int),(i:Int)⟩=V S):=by
 have hw:=fG hi hl;have h1:=B9 vars[i]!.fName;have h2:=T1 (vars.take i) (by rw[zH];omega) vars[i]!;unfold v7 k8;dsimp only;simp only[zh,ze,BR,h1,h2];generalize iO vars[i]!.fName=B;generalize ((vars.take i).any λw=>w.fName.toList==vars[i]!.fName.toList)=A;generalize gP vars[i]!.ag vars[i]!.ah=C;cases A<;>cases B<;>cases C<;>simp only[bD,bA]<;>grind
def acI(vars:aa aX)(hl:vars.length<=1000000):agn vars=V (jq vars):=by
 obtain⟨i,e1,hc⟩:=rX (rnd:=v7) vars (λi=>⟨vars,vars,(vars.length:Int),(i:Int)⟩) (k8 vars) (λi hi=>XG vars hl i hi) (by unfold v7;simp);have e1':Ke ⟨vars,vars,(vars.length:Int),0⟩=V ⟨vars,vars,(vars.length:Int),(i:Int)⟩:=e1;unfold agn jq;rw[e1'];dsimp only;rcases hc with ⟨rfl,hc⟩|⟨hi,h0,hc⟩
 ·have hv:=mF hc;rw[gd,bA,bP (by rw[hc];simp)];have hr:∀k:Nat,k<3->i64.wrap ((k:Int)+1)=((k+1:Nat):Int):=λk hk=>fG hk (by decide);have k1:=HA vars hv hl 1 (.inl rfl);have k2:=HA vars hv hl 2 (.inr (.inl rfl));have k3:=HA vars hv hl 3 (.inr (.inr rfl));have r1:qA ⟨vars,[1,2,3],3,0⟩=match tG 1 vars 1 with|V _=>V (V ⟨vars,[1,2,3],3,1⟩)|S=>V S:=by
   unfold qA;simp[k1];cases tG 1 vars 1 with
   |none=>simp
   |some n=>simp;exact hr 0 (by decide)
  have r2:qA ⟨vars,[1,2,3],3,1⟩=match tG 2 vars 1 with|V _=>V (V ⟨vars,[1,2,3],3,2⟩)|S=>V S:=by
   unfold qA;simp[k2];cases tG 2 vars 1 with
   |none=>simp
   |some n=>simp;exact hr 1 (by decide)
  have r3:qA ⟨vars,[1,2,3],3,2⟩=match tG 3 vars 1 with|V n=>if 256<n then V S else V (V ⟨vars,[1,2,3],3,3⟩)|S=>V S:=by
   unfold qA;simp[k3];cases tG 3 vars 1 with
   |none=>simp
   |some n=>
    by_cases h:256<n
    ·simp[h]
    ·simp[h];exact hr 2 (by decide)
  unfold Aa;cases s1:tG 1 vars 1 with
  |none=>
   rw[s1]at r1 k1;have e:pT ⟨vars,[1,2,3],3,0⟩=V ⟨vars,[1,2,3],3,0⟩:=cu λr=>by rw[r1];simp
   rw[show ((↑(3:Int):Int))=3 from rfl,e];simp[k1]
  |some n1=>
   rw[s1]at r1 k1;cases s2:tG 2 vars 1 with
   |none=>
    rw[s2]at r2 k2;have e:pT ⟨vars,[1,2,3],3,0⟩=V ⟨vars,[1,2,3],3,1⟩:=(bQ r1).trans (cu λr=>by rw[r2];simp);rw[show ((↑(3:Int):Int))=3 from rfl,e];simp[k2]
   |some n2=>
    rw[s2]at r2 k2;cases s3:tG 3 vars 1 with
    |none=>
     rw[s3]at r3 k3;have e:pT ⟨vars,[1,2,3],3,0⟩=V ⟨vars,[1,2,3],3,2⟩:=(bQ r1).trans ((bQ r2).trans (cu λr=>by rw[r3];simp));rw[show ((↑(3:Int):Int))=3 from rfl,e];simp[k3]
    |some n3=>
     rw[s3]at r3 k3;dsimp only at r3;by_cases h:256<n3
     ·rw[bG h]at r3;have e:pT ⟨vars,[1,2,3],3,0⟩=V ⟨vars,[1,2,3],3,2⟩:=(bQ r1).trans ((bQ r2).trans (cu λr=>by rw[r3];simp));rw[show ((↑(3:Int):Int))=3 from rfl,e];simp[k3,h]
     ·rw[bP h]at r3;have e:pT ⟨vars,[1,2,3],3,0⟩=V ⟨vars,[1,2,3],3,3⟩:=(bQ r1).trans ((bQ r2).trans ((bQ r3).trans (cu λr=>by unfold qA;simp)));rw[show ((↑(3:Int):Int))=3 from rfl,e];simp[h]
 ·have h1:=B9 vars[i]!.fName;have h2:=T1 (vars.take i) (by rw[zH];omega) vars[i]!;rw[hc,bG h0];rw[nj,bD,bG ⟨by omega,by omega⟩];revert h0;unfold k8;simp only[zh,ze,BR,h1,h2];generalize iO vars[i]!.fName=B;generalize ((vars.take i).any λw=>w.fName.toList==vars[i]!.fName.toList)=A;generalize gP vars[i]!.ag vars[i]!.ah=C;intro h0;cases A<;>cases B<;>cases C<;>simp only[bD,bA]at h0 ⊢ <;>grind
def aih(vars:aa aX)(hl:vars.length<=1000000)(i:Nat)(hi:i<vars.length):(k8 vars i vars[i]! =0->Av ⟨vars,(i:Int)⟩=V (V ⟨vars,((i+1:Nat):Int)⟩))/\(k8 vars i vars[i]!≠0->Av ⟨vars,(i:Int)⟩=V S):=by
 have hw:=fG hi hl;have h1:=BV vars[i]!.fName;obtain⟨j,h2,h3⟩:=G9 vars hl i (by omega) vars[i]!;unfold Av k8;dsimp only;simp only[zh,ze,BN,h1,h2];generalize iO vars[i]!.fName=B;generalize ((vars.take i).any λw=>w.fName.toList==vars[i]!.fName.toList)=A at h3;generalize gP vars[i]!.ag vars[i]!.ah=C;rcases h3 with ⟨rfl,rfl⟩|⟨hj,h4,rfl⟩
 ·cases B<;>cases C<;>simp only[bD,bA]<;>grind
 ·simp only[h4];cases B<;>cases C<;>simp only[bD,bA]<;>grind
def aiL(vars:aa aX)(hl:vars.length<=1000000):ab0 vars=V (jq vars):=by
 obtain⟨i,e1,hc⟩:=rX (rnd:=Av) vars (λi=>⟨vars,(i:Int)⟩) (k8 vars) (λi hi=>aih vars hl i hi) (by unfold Av;simp);have e1':Ju ⟨vars,0⟩=V ⟨vars,(i:Int)⟩:=e1;unfold ab0 jq;rw[e1'];dsimp only;rcases hc with ⟨rfl,hc⟩|⟨hi,h0,hc⟩
 ·have hv:=mF hc;rw[gd,bA,bP (by rw[hc];simp)];rw[I6 vars hv hl 1,I6 vars hv hl 2,I6 vars hv hl 3];have b1:=C9 1 vars 1;have b2:=C9 2 vars 1;unfold Aa;revert b1 b2;cases tG 1 vars 1<;>cases tG 2 vars 1<;>cases tG 3 vars 1<;>intro b1 b2<;>simp only[zh,Option.isSome_none,Option.isSome_some,Bool.and_true,Bool.and_false,wB,Bool.false_and]<;>(try have c1:=b1 _ (by omega) rfl)<;>(try have c2:=b2 _ (by omega) rfl)<;>grind
 ·have h1:=BV vars[i]!.fName;obtain⟨j,h2,h3⟩:=G9 vars hl i (by omega) vars[i]!;rw[hc,bG h0];rw[nj,bD,bG ⟨by omega,by omega⟩];revert h0;unfold k8;simp only[zh,ze,BN,h1,h2];generalize iO vars[i]!.fName=B;generalize ((vars.take i).any λw=>w.fName.toList==vars[i]!.fName.toList)=A at h3;generalize gP vars[i]!.ag vars[i]!.ah=C;intro h0;rcases h3 with ⟨rfl,rfl⟩|⟨hj,h4,rfl⟩
  ·cases B<;>cases C<;>simp only[bD,bA]at h0 ⊢ <;>grind
  ·simp only[h4];cases B<;>cases C<;>simp only[bD,bA]at h0 ⊢ <;>grind
end Go.Proofs.YtnfljbehcffmcaaGreat
end
