/- Merged: Ne14, Ne15, Ne16, Ne17, Ne18, Ne19, Ne20, Ne21, Ne22, Ne23, Ne24, Ne25, Ne26, Ne27, Ne28, Ne29, Ga, Pfew, Pd, Gb, Pv1, Pv3, Pv1b. -/
import Derived.Test.YtnfljbehcffmcaaGreatM3AbstractSound
import Derived.Test.YtnfljbehcffmcaaGreatM2AbstractSound
open Int renaming toNat_natCast → zi, le_refl → zm, mul_nonneg → zB, mul_comm → zG, mul_le_mul_of_nonneg_right → zM, add_mul → zQ, mul_assoc → zS, one_mul → zU, ediv_nonneg → zX, dvd_trans → zZ, ediv_le_self → yg, sub_mul → yu, dvd_sub → yw, gcd → yD, toNat → yR, mul_ediv_add_emod → yT, emod_nonneg → yU, dvd_add → yW, emod_lt_of_pos → yY, mul_add → yZ, mul_le_mul → y4, dvd_zero → y5, le_trans → y7, ediv_mul_le → y9, natCast_mul → xo, dvd_mul_left → xz, dvd_mul_right → xB, lt_irrefl → xK, zero_mul → xV, zero_dvd → xX, le_total → xY, mul_sub → x8, mul_neg → x9, ediv_mul_cancel → wB, natAbs_tmod → wC, lt_of_mul_lt_mul_right → wN, dvd_of_emod_eq_zero → wO, lt_ediv_add_one_mul_self → w9, mul_tdiv_add_tmod → vb, mul_le_mul_of_nonpos_right → ve
open Nat renaming lt_succ_self → zC, le_refl → zI, le_trans → zJ, add_mul → yd, not_lt_zero → yK, mul_le_mul_right → yN, mod_lt → y6, lt_succ_iff_lt_or_eq → y8, one_mul → xA
open SizeOf renaming sizeOf → zk
open Bool renaming cond_decide → zl, and_eq_true → zn, or_eq_true → yQ, true_and → wD, true → G, false → I
open List renaming mem_cons_self → zo, length_append → zq, mem_singleton → zD, mem_cons → zF, range → zP, take_length → zR, mem_append → zV, mem_filter → zY, length_take → z6, getElem_map → ye, drop → yf, map_cons → yl, nil_append → ym, map_append → yo, append_nil → yy, length_filter_le → yE, take_append_drop → xj, map_nil → xw, length_range → xC, cons_append → xE, filter_append → xJ, drop_of_length_le → xL, getElem_mem → xO, take_zero → xT, attach_map_val → we, drop_eq_getElem_cons → wj, getElem_of_mem → wk, getElem_take → wL, getElem_range → wQ, sizeOf_lt_of_mem → vf
open Option renaming some → zO, some → Q, none → V
open Array renaming mk → xb
open Decidable renaming decide → O
open Go.Proofs.Tryz renaming prog → vi
open Go.Proofs.Tryz
set_option linter.unusedSectionVars false
set_option linter.unusedVariables false
set_option linter.unusedSimpArgs false
set_option linter.defProp false
noncomputable section
set_option maxRecDepth 100000
namespace Go.Proofs.YtnfljbehcffmcaaGreat
open Go Go.Iv
open Go.IntKind (i64 u64)
def kK(a:aH)(k:Nat):Int:=a.ag+(k:Int)*a.aj
def cnt(a:aH):Nat:=(bW a).toNat
def fQ{a:aH}(h:NN a):bW a=(cnt a:Int):=by have:=size_pos h;unfold cnt;omega
def iU{a:aH}(h:NN a):1<=cnt a:=by have:=size_pos h;unfold cnt;omega
def YJ{a:aH}(h:NN a){k:Nat}(hk:k<cnt a):a.ag<=kK a k/\kK a k<=a.af:=by
 have e:=fQ h;rw[uP h]at e;have hs:=h.s0;have k0:0<=(k:Int)*a.aj:=zB (by omega) hs;unfold kK;refine⟨by omega,?_⟩;rcases h.st with ⟨h1,h2⟩|⟨h1,h2,h3⟩
 ·rw[h2,Int.mul_zero];omega
 ·rw[iB]at e;have:(k:Int)*a.aj<=(a.af-a.ag)/a.aj*a.aj:=zM (by omega) hs;rw[wB (wO h3)]at this;omega
def gQ{a:aH}(h:NN a)(x:Int):bk a x↔∃k:Nat,k<cnt a/\x=kK a k:=by
 constructor
 ·rintro⟨h1,h2,q,hq⟩;have e:=fQ h;rw[uP h]at e;rcases h.st with ⟨k1,k2⟩|⟨k1,k2,k3⟩
  ·exact⟨0,iU h,by unfold kK;omega⟩
  ·rw[iB]at e;rw[zG]at hq;have q0:0<=q:=Decidable.byContradiction λc=>by
    have:q*a.aj<= -1*a.aj:=zM (by omega) (by omega);omega
   have q1:q<=(a.af-a.ag)/a.aj:=Int.le_ediv_of_mul_le (by omega) (by omega);refine⟨q.toNat,by omega,?_⟩;unfold kK;rw[show ((q.toNat:Nat):Int)=q by omega,<-hq];omega
 ·rintro⟨k,hk,rfl⟩;obtain⟨h1,h2⟩:=YJ h hk;exact⟨h1,h2,by unfold kK;rw[show a.ag+(k:Int)*a.aj-a.ag=(k:Int)*a.aj by omega];exact xz ..⟩
def sw{a:aH}(h:NN a){k:Nat}(hk:k<cnt a):bX (kK a k):=Us (.inr h) ((gQ h _).mpr ⟨k,hk,rfl⟩)
def nK{a:aH}(h:NN a){k:Nat}(hk:k<cnt a):HC a (k:Int)=kK a k:=by
 have:=YJ h hk;have:=h.lo;have:=h.hi;have k0:0<=(k:Int)*a.aj:=zB (by omega) h.s0;unfold HC;unfold kK at*;rw[aG (n:=(k:Int)*a.aj),aG]
def oH(op:Int)(a b:aH)(y:Int):Prop:=∃x z,bk a x/\bk b z/\y=fD op x z
def pref(op:Int)(a b:aH)(i:Nat)(l:aa Int):Prop:=(∀y,y∈l↔∃k,k<i/\∃j,j<cnt b/\y=fD op (kK a k) (kK b j))/\l.length=i*cnt b/\∀y∈l,bX y
def ahg(op:Int)(a b:aH)(i j:Nat)(l:aa Int):Prop:=(∀y,y∈l↔(∃k,k<i/\∃m,m<cnt b/\y=fD op (kK a k) (kK b m))\/∃m,m<j/\y=fD op (kK a i) (kK b m))/\l.length=i*cnt b+j/\∀y∈l,bX y
def Uo{op:Int}{a b:aH}{i:Nat}{l:aa Int}(h:ahg op a b i (cnt b) l):pref op a b (i+1) l:=by
 refine⟨λy=>(h.1 y).trans ⟨?_,?_⟩,by rw[h.2.1,yd,xA],h.2.2⟩
 ·rintro(⟨k,hk,m,hm,e⟩|⟨m,hm,e⟩)
  ·exact⟨k,by omega,m,hm,e⟩
  ·exact⟨i,by omega,m,hm,e⟩
 ·rintro⟨k,hk,m,hm,e⟩;rcases y8.mp hk with c|rfl
  ·exact .inl ⟨k,c,m,hm,e⟩
  ·exact .inr ⟨m,hm,e⟩
def Zb{op:Int}{a b c:aH}(ho:binop op)(ha:NN a)(hb:NN b)(hs:cnt a*cnt b<=1000000){i:Nat}(hi:i<cnt a){l:aa Int}(hl:pref op a b i l):
  (∃l',Du (jj.mk op l i 0 a b c)=Q (jj.mk op l' i (cnt b:Nat) a b c)/\pref op a b (i+1) l')\/
  (∃l' j,j<cnt b/\Du (jj.mk op l i 0 a b c)=Q (jj.mk op l' i (j:Nat) a b c)/\¬bX (fD op (kK a i) (kK b j))):=by
 have hcb:cnt b<=1000000:=zJ (Nat.le_mul_of_pos_left _ (iU ha)) hs;have hlen:(i+1)*cnt b<=1000000:=zJ (yN _ hi) hs;rw[yd,xA]at hlen;obtain⟨j,l',e,hI,h⟩:=oB (cL:=EF) (cnt b) (λj (l:aa Int)=>jj.mk op l i (j:Nat) a b c) (λj l=>ahg op a b i j l) (λj l=>¬bX (fD op (kK a i) (kK b j)))
  (λj l hj hI=>by
   obtain⟨v,ev,hv⟩:=mb (sw ha hi) (sw hb hj) ho;unfold EF;simp only;rw[gx (.inr hb),fQ hb];simp only;rw[rZ,bC,nK ha hi,nK hb hj,ev];simp only;by_cases hr:bX (fD op (kK a i) (kK b j))
   ·left;rw[bQ hr];simp only[bC,bz];rw[bt (by rw[zq,hI.2.1];simp;omega),gH hj hcb,hv hr];refine⟨_,rfl,λy=> ?_,by rw[zq,hI.2.1];simp;omega,λy hy=> ?_⟩
    ·rw[zV,zD,hI.1 y];constructor
     ·rintro((h|⟨m,hm,h⟩)|rfl)
      ·exact .inl h
      ·exact .inr ⟨m,by omega,h⟩
      ·exact .inr ⟨j,by omega,rfl⟩
     ·rintro(h|⟨m,hm,h⟩)
      ·exact .inl (.inl h)
      ·rcases y8.mp hm with c|rfl
       ·exact .inl (.inr ⟨m,c,h⟩)
       ·exact .inr h
    ·rcases zV.mp hy with hy|hy
     ·exact hI.2.2 y hy
     ·rw[zD.mp hy];exact hr
   ·right;rw[bP hr];exact⟨rfl,hr⟩)
  (λl hI=>by
   unfold EF;simp only;rw[gx (.inr hb),fQ hb];simp only;rw[fO];rfl) (b:=l) ⟨λy=>(hl.1 y).trans ⟨.inl,λh=>h.elim id λ⟨m,hm,_⟩=>cR hm (yK _)⟩,by rw[hl.2.1];rfl,hl.2.2⟩
 have e:bJ EF (jj.mk op l i 0 a b c)=Q (jj.mk op l' i (j:Nat) a b c):=e;rcases h with rfl|⟨hj,h⟩
 ·exact .inl ⟨l',e,Uo hI⟩
 ·exact .inr ⟨l',j,hj,e,h⟩
def ri{op:Int}{a b:aH}(ho:binop op)(ha:NN a)(hb:NN b)(hs:cnt a*cnt b<=1000000):
  ((∀y,oH op a b y->bX y)/\∃c,Ui op a b=Q (c,0)/\cS (oH op a b) c)\/((¬∀y,oH op a b y->bX y)/\Ui op a b=Q (aH.mk 0 0 0,3)):=by
 have hca:cnt a<=1000000:=zJ (Nat.le_mul_of_pos_right _ (iU hb)) hs;unfold Ui;obtain⟨i,l,e,hI,h⟩:=oB (cL:=AS) (cnt a) (λi (l:aa Int)=>sR.mk op l (i:Nat) a b (aH.mk 0 0 0)) (λi l=>pref op a b i l) (λi l=>∃l' j,j<cnt b/\Du (jj.mk op l i 0 a b (aH.mk 0 0 0))=Q (jj.mk op l' i (j:Nat) a b (aH.mk 0 0 0))/\¬bX (fD op (kK a i) (kK b j)))
  (λi l hi hI=>by
   unfold AS;simp only;rw[gx (.inr ha),fQ ha];simp only;rw[rZ,bC];rcases Zb (c:=aH.mk 0 0 0) ho ha hb hs hi hI with ⟨l',e,h⟩|⟨l',j,hj,e,h⟩
   ·left;rw[e];simp only;rw[gx (.inr hb),fQ hb];simp only;rw[fO,bz,gH hi hca];exact⟨l',rfl,h⟩
   ·right;refine⟨?_,l',j,hj,e,h⟩;rw[e];simp only;rw[gx (.inr hb),fQ hb];simp only;obtain⟨v,ev,hv⟩:=mb (sw ha hi) (sw hb hj) ho;rw[rZ,bC,nK ha hi,nK hb hj,ev];simp only;rw[bP h];rfl)
  (λl hI=>by
   unfold AS;simp only;rw[gx (.inr ha),fQ ha];simp only;rw[fO];rfl) (b:=[]) ⟨λy=>⟨λh=>cR h (by simp),λ⟨k,hk,_⟩=>cR hk (yK _)⟩,by simp,λy hy=>cR hy (by simp)⟩
 have e:bJ AS (sR.mk op [] 0 a b (aH.mk 0 0 0))=Q (sR.mk op l (i:Nat) a b (aH.mk 0 0 0)):=e;rw[show WJ=bJ AS from rfl,e];simp only;rw[gx (.inr ha),fQ ha];simp only;rcases h with rfl|⟨hi,l',j,hj,e1,h⟩
 ·left;have mem:∀y,y∈l↔oH op a b y:=λy=>(hI.1 y).trans ⟨λ⟨k,hk,m,hm,e⟩=>⟨_,_,(gQ ha _).mpr ⟨k,hk,rfl⟩,(gQ hb _).mpr ⟨m,hm,rfl⟩,e⟩,λ⟨x,z,hx,hz,e⟩=>by
   obtain⟨k,hk,rfl⟩:=(gQ ha _).mp hx;obtain⟨m,hm,rfl⟩:=(gQ hb _).mp hz;exact⟨k,hk,m,hm,e⟩⟩
  rw[fO,bz];have hne:l≠[]:=λe=>by
   have:=hI.2.1;rw[e]at this;have:=Nat.mul_pos (iU ha) (iU hb);simp at*;omega
  obtain⟨c,e2,hc⟩:=Jc hne (by rw[hI.2.1];exact hs) hI.2.2;rw[e2];exact⟨λy hy=>hI.2.2 y ((mem y).mpr hy),c,rfl,hc.congr mem⟩
 ·right;refine⟨λk=>h (k _ ⟨_,_,(gQ ha _).mpr ⟨i,hi,rfl⟩,(gQ hb _).mpr ⟨j,hj,rfl⟩,rfl⟩),?_⟩;rw[rZ,bC,e1];simp only;rw[gx (.inr hb),fQ hb];simp only;obtain⟨v,ev,hv⟩:=mb (sw ha hi) (sw hb hj) ho;rw[rZ,bC,nK ha hi,nK hb hj,ev];simp only;rw[bP h];rfl
def Qa{a:aH}(h:NN a)(hs:cnt a<=1000000):Uu a=Q ((zP (cnt a)).map (kK a)):=by
 unfold Uu;rw[kN (.inr h),fQ h];simp only;have e:bJ sM (mE.mk [] (cnt a:Nat) 0 a)=Q (mE.mk ((zP (cnt a)).map (kK a)) (cnt a:Nat) (cnt a:Nat) a):=by
  obtain⟨l,e,hl⟩:=dD (cL:=sM) (cnt a) (λi (l:aa Int)=>mE.mk l (cnt a:Nat) (i:Nat) a) (λi l=>l=(zP i).map (kK a))
   (λi l hi hl=>by
    subst hl;unfold sM;simp only;have:=nK h hi;unfold HC at this;rw[rZ,bC,this,bt (by simp;omega),gH hi hs];exact⟨_,rfl,by rw[List.range_succ,yo];rfl⟩)
   (λl hl=>by
    unfold sM;simp only;rw[fO];rfl) (b:=[]) rfl
  have e:bJ sM (mE.mk [] (cnt a:Nat) 0 a)=Q (mE.mk l (cnt a:Nat) (cnt a:Nat) a):=e;rw[e,hl]
 rw[show Jv=bJ sM from rfl,e];simp only;rw[fO];rfl
def oW(a:aH):((zP (cnt a)).map (kK a)).length=cnt a:=by simp
def K1(a:aH){k:Nat}(h:k<cnt a):((zP (cnt a)).map (kK a))[k]! =kK a k:=by
 rw[getElem!_pos _ k (by rw[oW];exact h),ye,wQ]
def LC(op:Int):Prop:=op=11\/op=12\/op=21\/op=22
def Kw{op x y:Int}(hx:bX x)(hy:bX y)(ho:LC op):bX (fD op x y):=by
 rcases ho with rfl|rfl|rfl|rfl
 ·exact(Oy hx).1
 ·show bX (if y=0 then 0 else x-y*mM x y);by_cases h0:y=0
  ·rw[bt h0];exact⟨by omega,by omega⟩
  ·rw[bF h0];exact(M5 hy h0).1
 ·show bX (min x y);obtain⟨h1,h2⟩:=hx;obtain⟨h3,h4⟩:=hy;exact⟨by omega,by omega⟩
 ·show bX (max x y);obtain⟨h1,h2⟩:=hx;obtain⟨h3,h4⟩:=hy;exact⟨by omega,by omega⟩
def VR(op:Int)(a b:aH)(i j:Nat)(y:Int):Prop:=(∃k,k<i/\∃m,m<cnt b/\y=fD op (kK a k) (kK b m))\/∃m,m<j/\y=fD op (kK a i) (kK b m)
def Zd{op:Int}{a b c:aH}(ho:LC op)(ha:NN a)(hb:NN b)(hs:cnt b<=1000000){i:Nat}(hi:i<cnt a){o:aH}{l:aa Int}{n t:Int}(hr:mG (VR op a b i 0) o)(hv:NV o):
  ∃o',DI (om.mk op (kK a i) l n t ((zP (cnt b)).map (kK b)) (cnt b:Nat) 0 b c o)=Q (om.mk op (kK a i) l n t ((zP (cnt b)).map (kK b)) (cnt b:Nat) (cnt b:Nat) b c o')/\mG (VR op a b (i+1) 0) o'/\NV o':=by
 obtain⟨o',e,hI,hv'⟩:=dD (cL:=Ib) (cnt b) (λj (o:aH)=>om.mk op (kK a i) l n t ((zP (cnt b)).map (kK b)) (cnt b:Nat) (j:Nat) b c o) (λj o=>mG (VR op a b i j) o/\NV o)
  (λj o hj hI=>by
   have hR:=Kw (sw ha hi) (sw hb hj) ho;unfold Ib;simp only;rw[rZ,bC,oW,gG,zi,bt ⟨trivial,hj⟩,K1 b hj,acs (sw ha hi) (sw hb hj) ho];simp only;rw[iS hI.2 (.inr (show NN (gX (fD op (kK a i) (kK b j)))from NN.one hR.1 hR.2)),gH hj hs];refine⟨_,rfl,(hI.1.join (HP _) hI.2 (qH hR)).congr λy=> ?_,ek hI.2 (qH hR)⟩;constructor
   ·rintro((h|⟨m,hm,h⟩)|rfl)
    ·exact .inl h
    ·exact .inr ⟨m,by omega,h⟩
    ·exact .inr ⟨j,by omega,rfl⟩
   ·rintro(h|⟨m,hm,h⟩)
    ·exact .inl (.inl h)
    ·rcases y8.mp hm with c|rfl
     ·exact .inl (.inr ⟨m,c,h⟩)
     ·exact .inr h)
  (λo hI=>by
   unfold Ib;simp only;rw[fO];rfl) (b:=o) ⟨hr,hv⟩
 refine⟨o',e,hI.congr λy=> ?_,hv'⟩;constructor
 ·rintro(⟨k,hk,h⟩|⟨m,hm,h⟩)
  ·exact .inl ⟨k,by omega,h⟩
  ·exact .inl ⟨i,by omega,m,hm,h⟩
 ·rintro(⟨k,hk,h⟩|⟨m,hm,_⟩)
  ·rcases y8.mp hk with c|rfl
   ·exact .inl ⟨k,c,h⟩
   ·obtain⟨m,hm,h⟩:=h;exact .inr ⟨m,hm,h⟩
  ·exact cR hm (yK _)
def NH{op:Int}{a b:aH}(ho:LC op)(ha:NN a)(hb:NN b)(hs:cnt a*cnt b<=4096):∃c,uS op a b=Q c/\cS (oH op a b) c:=by
 have hca:cnt a<=4096:=zJ (Nat.le_mul_of_pos_right _ (iU hb)) hs;have hcb:cnt b<=4096:=zJ (Nat.le_mul_of_pos_left _ (iU ha)) hs;unfold uS;rw[kN (.inr ha),kN (.inr hb),fQ ha,fQ hb];simp only;have hp:((cnt a:Nat):Int)*((cnt b:Nat):Int)<=4096:=by rw[<-xo];omega
 have hp0:0<=((cnt a:Nat):Int)*((cnt b:Nat):Int):=by rw[<-xo];omega
 rw[bP (show ¬(4096:Int)<((cnt a:Nat):Int)by omega),bP (show ¬(4096:Int)<((cnt b:Nat):Int)by omega),bz,bz,aG,fO,bz,Qa ha (by omega)];simp only;rw[oW];obtain⟨o,e,hI,hv⟩:=dD (cL:=Bd) (cnt a) (λi (o:aH)=>qS.mk op ((zP (cnt a)).map (kK a)) (cnt a:Nat) (i:Nat) b (aH.mk 0 0 0) o) (λi o=>mG (VR op a b i 0) o/\NV o)
  (λi o hi hI=>by
   unfold Bd;simp only;rw[rZ,bC,oW,gG,zi,bt ⟨trivial,hi⟩,K1 a hi,Qa hb (by omega)];simp only;rw[oW];obtain⟨o',e,h1,h2⟩:=Zd (c:=aH.mk 0 0 0) (l:=(zP (cnt a)).map (kK a)) (n:=(cnt a:Nat)) (t:=(i:Nat)) ho ha hb (by omega) hi hI.1 hI.2;rw[e];simp only;rw[fO,bz,gH hi (by omega)];exact⟨o',rfl,h1,h2⟩)
  (λo hI=>by
   unfold Bd;simp only;rw[fO];rfl) (b:=cy) ⟨.none λy h=>by
    rcases h with ⟨k,hk,_⟩|⟨m,hm,_⟩
    ·exact cR hk (yK _)
    ·exact cR hm (yK _), .inl rfl⟩
 have e:bJ Bd (qS.mk op ((zP (cnt a)).map (kK a)) (cnt a:Nat) 0 b (aH.mk 0 0 0) iV)=Q (qS.mk op ((zP (cnt a)).map (kK a)) (cnt a:Nat) (cnt a:Nat) b (aH.mk 0 0 0) o):=e;rw[show G2=bJ Bd from rfl,e];simp only;rw[fO,bz];refine⟨o,rfl,?_⟩;have mem:∀y,VR op a b (cnt a) 0 y↔oH op a b y:=λy=>⟨λh=>by
  rcases h with ⟨k,hk,m,hm,e⟩|⟨m,hm,_⟩
  ·exact⟨_,_,(gQ ha _).mpr ⟨k,hk,rfl⟩,(gQ hb _).mpr ⟨m,hm,rfl⟩,e⟩
  ·exact cR hm (yK _),λ⟨x,z,hx,hz,e⟩=>by
  obtain⟨k,hk,rfl⟩:=(gQ ha _).mp hx;obtain⟨m,hm,rfl⟩:=(gQ hb _).mp hz;exact .inl ⟨k,hk,m,hm,e⟩⟩
 rcases hI.congr mem with ⟨_,k⟩|k
 ·exact cR ⟨_,_,(gQ ha _).mpr ⟨0,iU ha,rfl⟩,(gQ hb _).mpr ⟨0,iU hb,rfl⟩,rfl⟩ (k (fD op (kK a 0) (kK b 0)))
 ·exact k
def YC{op:Int}{a b:aH}(ha:NN a)(hb:NN b)(hs:¬cnt a*cnt b<=4096):uS op a b=TO op a b:=by
 have idm:∀r:ah aH,(match r with|none=>none|some r8=>some r8)=r:=λr=>by cases r<;>rfl
 unfold uS;rw[kN (.inr ha),kN (.inr hb),fQ ha,fQ hb];simp only;by_cases c1:(4096:Int)<((cnt a:Nat):Int)
 ·rw[bQ c1,bC];exact idm _
 ·rw[bP c1,bz];by_cases c2:(4096:Int)<((cnt b:Nat):Int)
  ·rw[bQ c2,bC];exact idm _
  ·have hb':((cnt a:Nat):Int)*((cnt b:Nat):Int)<=4096*4096:=y4 (by omega) (by omega) (by omega) (by omega);have hp:(4096:Int)<((cnt a:Nat):Int)*((cnt b:Nat):Int):=by rw[<-xo];omega
   rw[bP c2,bz,aG,bQ hp,bC];exact idm _
instance (op:Int):Decidable (binop op):=inferInstanceAs (Decidable (_/\_))
def idm{α:Type}(r:ah α):(match r with|none=>none|some x=>some x)=r:=by cases r<;>rfl
def ju(op:Int):AN op=O (binop op):=by
 unfold AN;by_cases h:binop op
 ·obtain⟨o1,o2⟩:=h;have cases15:op=8\/op=9\/op=10\/op=11\/op=12\/op=13\/op=14\/op=15\/op=16\/op=17\/op=18\/op=19\/op=20\/op=21\/op=22:=by omega
  rcases cases15 with rfl|rfl|rfl|rfl|rfl|rfl|rfl|rfl|rfl|rfl|rfl|rfl|rfl|rfl|rfl<;>rfl
 ·have k:∀n:Int,8<=n->n<=22->¬op=n:=λn h1 h2 e=>h (by unfold binop;omega);rw[show O (binop op)=I from bP h];rw[bP (k 8 (by decide) (by decide)),bP (k 9 (by decide) (by decide)),bP (k 10 (by decide) (by decide)),bP (k 11 (by decide) (by decide)),bP (k 12 (by decide) (by decide)),
   bP (k 13 (by decide) (by decide)),bP (k 14 (by decide) (by decide)),bP (k 15 (by decide) (by decide)),bP (k 16 (by decide) (by decide)),bP (k 17 (by decide) (by decide)),
   bP (k 18 (by decide) (by decide)),bP (k 19 (by decide) (by decide)),bP (k 20 (by decide) (by decide)),bP (k 21 (by decide) (by decide)),bP (k 22 (by decide) (by decide))]
  rfl
def GJ{a b:aH}(hb:NN b):((cnt a:Nat):Int)<=(4096:Int)/((cnt b:Nat):Int)↔cnt a*cnt b<=4096:=by
 have:=iU hb;rw[Int.le_ediv_iff_mul_le (by omega),<-xo];omega
def jJ{op:Int}{a b:aH}(ho:binop op)(ha:NN a)(hb:NN b)(hs:cnt a*cnt b<=4096):nr op a b=Ui op a b:=by
 have:=iU hb;unfold nr;rw[fU,fU,ew (.inr ha),ew (.inr hb),show Ke op=AN op from rfl,ju,bQ ho];simp only[bC,bz];rw[iG ha,iG hb,gx (.inr ha),gx (.inr hb),fQ ha,fQ hb];simp only[bz];have q0:0<=(4096:Int)/((cnt b:Nat):Int):=zX (by omega) (by omega);have q1:(4096:Int)/((cnt b:Nat):Int)<=4096:=yg _ (by omega);rw[bt (show ¬@Eq Int ((cnt b:Nat):Int) 0 by omega),j5,aG,bQ ((GJ hb).mpr hs),bC];cases Ui op a b<;>rfl
def Pc(a0:Int)(a1 a2:aH):ah (aH×Int):=
 bif O (a0=8)then rR a0 a1 a2 else bif O (a0=9)then rR a0 a1 a2 else bif O (a0=10)then rR a0 a1 a2 else bif O (a0=11)then
  (bif(O (0<=a1.ag)&&O (0<=a2.ag))then j6 0 (max a1.ag.natAbs a1.af.natAbs:Nat) 1 else j6 (-((max a1.ag.natAbs a1.af.natAbs:Nat):Int)) (max a1.ag.natAbs a1.af.natAbs:Nat) 1)
 else bif O (a0=12)then j6 (if a2.ag<0 then a2.ag+1 else 0) (if 0<a2.af then a2.af-1 else 0) 1
 else bif O (a0=21)then(match m41 (cc a1 a2) (min a1.af a2.af)with|V=>V|Q c=>Q (c,0))
 else bif O (a0=22)then(match U5 (cc a1 a2) (max a1.ag a2.ag-1)with|V=>V|Q c=>Q (c,0))
 else(match BE a0 a1 a2 with|V=>V|Q c=>Q (c,0))
def pz{op:Int}{a b:aH}(ho:binop op)(ha:NN a)(hb:NN b)(hs:¬cnt a*cnt b<=4096):nr op a b=Pc op a b:=by
 have:=iU hb;have r1:=ha.oV;have r2:=ha.vK;have r3:=hb.oV;have r4:=hb.vK;obtain⟨a1,a2⟩:=r1;obtain⟨a3,a4⟩:=r2;obtain⟨b1,b2⟩:=r3;obtain⟨b3,b4⟩:=r4;unfold nr Pc;rw[fU,fU,ew (.inr ha),ew (.inr hb),show Ke op=AN op from rfl,ju,bQ ho];simp only[bC,bz];rw[iG ha,iG hb,gx (.inr ha),gx (.inr hb),fQ ha,fQ hb];simp only[bz];have q0:0<=(4096:Int)/((cnt b:Nat):Int):=zX (by omega) (by omega);have q1:(4096:Int)/((cnt b:Nat):Int)<=4096:=yg _ (by omega);rw[bt (show ¬@Eq Int ((cnt b:Nat):Int) 0 by omega),j5,aG (n:=(4096:Int)/((cnt b:Nat):Int)),bP (λk=>hs ((GJ hb).mp k)),bz];have cases15:op=8\/op=9\/op=10\/op=11\/op=12\/op=13\/op=14\/op=15\/op=16\/op=17\/op=18\/op=19\/op=20\/op=21\/op=22:=by
  obtain⟨o1,o2⟩:=ho;omega
 have ez:(bif O (0<=a.ag)then some (O (0<=b.ag))else some false)=some (O (0<=a.ag)&&O (0<=b.ag)):=by cases O (0<=a.ag)<;>rfl
 rcases cases15 with rfl|rfl|rfl|rfl|rfl|rfl|rfl|rfl|rfl|rfl|rfl|rfl|rfl|rfl|rfl
 all_goals simp only[Int.reduceEq,fW,cX,bz,bC]
 ·cases rR 8 a b<;>rfl
 ·cases rR 9 a b<;>rfl
 ·cases rR 10 a b<;>rfl
 ·rw[uG ha.oV,uG ha.vK,ez];simp only;by_cases c:((a.ag.natAbs:Nat):Int)<((a.af.natAbs:Nat):Int)
  ·rw[bQ c,bC,aG,Int.zero_sub,Nat.max_eq_right (by omega)];cases (O (0<=a.ag)&&O (0<=b.ag))with
   |true=>(simp only[bC,bz];generalize j6 _ _ _=z;cases z<;>rfl)
   |false=>(simp only[bC,bz];generalize j6 _ _ _=z;cases z<;>rfl)
  ·rw[bP c,bz,aG,Int.zero_sub,Nat.max_eq_left (by omega)];cases (O (0<=a.ag)&&O (0<=b.ag))with
   |true=>(simp only[bC,bz];generalize j6 _ _ _=z;cases z<;>rfl)
   |false=>(simp only[bC,bz];generalize j6 _ _ _=z;cases z<;>rfl)
 ·rw[aG (n:=b.ag+1),aG (n:=b.af-1)];by_cases c:b.ag<0<;>by_cases d:0<b.af
  ·rw[bQ c,bQ d,bt c,bt d];(simp only[bC,bz];generalize j6 _ _ _=z;cases z<;>rfl)
  ·rw[bQ c,bP d,bt c,bF d];(simp only[bC,bz];generalize j6 _ _ _=z;cases z<;>rfl)
  ·rw[bP c,bQ d,bF c,bt d];(simp only[bC,bz];generalize j6 _ _ _=z;cases z<;>rfl)
  ·rw[bP c,bP d,bF c,bF d];(simp only[bC,bz];generalize j6 _ _ _=z;cases z<;>rfl)
 ·cases BE 13 a b<;>rfl
 ·cases BE 14 a b<;>rfl
 ·cases BE 15 a b<;>rfl
 ·cases BE 16 a b<;>rfl
 ·cases BE 17 a b<;>rfl
 ·cases BE 18 a b<;>rfl
 ·cases BE 19 a b<;>rfl
 ·cases BE 20 a b<;>rfl
 ·obtain⟨v,ev,hv⟩:=mb (op:=21) ha.vK hb.vK ⟨by decide,by decide⟩;have hv:v=min a.af b.af:=hv (Kw ha.vK hb.vK (.inr (.inr (.inl rfl))));rw[ev,mg (.inr ha) (.inr hb)];simp only;rw[hv];cases m41 (cc a b) (min a.af b.af)<;>rfl
 ·obtain⟨v,ev,hv⟩:=mb (op:=22) ha.oV hb.oV ⟨by decide,by decide⟩;have hv:v=max a.ag b.ag:=hv (Kw ha.oV hb.oV (.inr (.inr (.inr rfl))));rw[ev,mg (.inr ha) (.inr hb)];simp only;rw[hv,aG];cases U5 (cc a b) (max a.ag b.ag-1)<;>rfl
def Yx{op:Int}{a b:aH}(ho:LC op)(ha:NN a)(hb:NN b):∃c,uS op a b=Q c/\nr op a b=Q (c,0)/\NV c:=by
 have hbin:binop op:=by unfold binop;rcases ho with rfl|rfl|rfl|rfl<;>decide
 have r1:=ha.oV;have r2:=ha.vK;have r3:=hb.oV;have r4:=hb.vK;by_cases hs:cnt a*cnt b<=4096
 ·obtain⟨c,e1,h1⟩:=NH ho ha hb hs;have hR:∀y,oH op a b y->bX y:=λy ⟨x,z,hx,hz,e⟩=>by rw[e];exact Kw (Us (.inr ha) hx) (Us (.inr hb) hz) ho
  rw[jJ hbin ha hb hs];rcases ri hbin ha hb (by omega)with ⟨_,d,e2,h2⟩|⟨k,_⟩
  ·rw[h2.uniq h1]at e2;exact⟨c,e1,e2, .inr (h1.valid hR)⟩
  ·exact cR hR k
 ·rw[YC ha hb hs,pz hbin ha hb hs];obtain⟨a1,a2⟩:=r1;obtain⟨a3,a4⟩:=r2;obtain⟨b1,b2⟩:=r3;obtain⟨b3,b4⟩:=r4;unfold TO Pc;rcases ho with rfl|rfl|rfl|rfl
  all_goals simp only[Int.reduceEq,fW,cX,bz,bC]
  ·rw[mO ha.oV,mO ha.vK];have em:(if((a.ag.natAbs:Nat):Int)<((a.af.natAbs:Nat):Int)then((a.af.natAbs:Nat):Int)else((a.ag.natAbs:Nat):Int))=((max a.ag.natAbs a.af.natAbs:Nat):Int):=by split<;>omega
   rw[em];have ez:(bif O (0<=a.ag)then some (O (0<=b.ag))else some false)=some (O (0<=a.ag)&&O (0<=b.ag)):=by cases O (0<=a.ag)<;>rfl
   rw[ez];simp only;have hm:((max a.ag.natAbs a.af.natAbs:Nat):Int)<=1099511627776:=by omega
   generalize max a.ag.natAbs a.af.natAbs=m at*;rw[aG,Int.zero_sub,nG (by omega) (by omega) (by omega),nG (by omega) (by omega) (by omega),jD ⟨by omega,by omega⟩ ⟨by omega,by omega⟩ (by omega),jD ⟨by omega,by omega⟩ ⟨by omega,by omega⟩ (by omega)];cases (O (0<=a.ag)&&O (0<=b.ag))with
   |true=>exact⟨_,rfl,rfl, .inr (jk (by omega) (by omega) (by omega) (by omega))⟩
   |false=>exact⟨_,rfl,rfl, .inr (jk (by omega) (by omega) (by omega) (by omega))⟩
  ·rw[aG (n:=b.ag+1),aG (n:=b.af-1)];rw[show (if 0<b.ag+1 then 0 else b.ag+1)=(if b.ag<0 then b.ag+1 else 0)by split<;>split<;>omega,show (if b.af-1<0 then 0 else b.af-1)=(if 0<b.af then b.af-1 else 0)by split<;>split<;>omega];have hp:(if b.ag<0 then b.ag+1 else 0)<=0/\ -1099511627776<=(if b.ag<0 then b.ag+1 else 0):=by split<;>omega
   have hq:0<=(if 0<b.af then b.af-1 else 0)/\(if 0<b.af then b.af-1 else 0)<=1099511627776:=by split<;>omega
   generalize (if b.ag<0 then b.ag+1 else 0)=p at*;generalize (if 0<b.af then b.af-1 else 0)=q at*;rw[nG (by omega) (by omega) (by omega),jD ⟨by omega,by omega⟩ ⟨by omega,by omega⟩ (by omega)];exact⟨_,rfl,rfl, .inr (jk (by omega) (by omega) (by omega) (by omega))⟩
  ·rw[iS (.inr ha) (.inr hb)];simp only;rw[show (if b.af<a.af then b.af else a.af)=min a.af b.af by split<;>omega];have vj:=ek (.inr ha) (.inr hb);obtain⟨l,u,e1,h1,_⟩:=tX vj (min a.af b.af);obtain⟨l',e2,h2⟩:=CV vj (min a.af b.af);rw[e1,e2,h2.rep.uniq h1.rep];exact⟨l,rfl,rfl,h1.1⟩
  ·rw[iS (.inr ha) (.inr hb)];simp only;rw[show (if a.ag<b.ag then b.ag else a.ag)=max a.ag b.ag by split<;>omega,aG];have vj:=ek (.inr ha) (.inr hb);obtain⟨l,u,e1,_,h1⟩:=tX vj (max a.ag b.ag-1);obtain⟨u',e2,h2⟩:=td vj (max a.ag b.ag-1);rw[e1,e2,h2.rep.uniq h1.rep];exact⟨u,rfl,rfl,h1.1⟩
def ssc(a b c:Int):a-c-(b-c)=a-b:=by omega
def di{a:aH}(h:NN a):bk a a.ag:=⟨zm _,h.le,⟨0,by omega⟩⟩
def gA{a:aH}(h:NN a):bk a a.af:=⟨h.le,zm _,h.dvd⟩
def Su{a:aH}(h:NN a):bk a (a.ag+a.aj):=⟨by have:=h.s0;omega,by have:=h.sle;omega,⟨1,by omega⟩⟩
def K9(a:aH)(x:Int):Prop:=x=a.ag\/x=a.ag+a.aj\/x=a.af
def qm{a:aH}(h:NN a){x:Int}(hx:K9 a x):bk a x:=by
 rcases hx with rfl|rfl|rfl
 ·exact di h
 ·exact Su h
 ·exact gA h
structure Mid (op:Int) (a b:aH) (zh:Int->Prop):Prop where
 c:∀x z,K9 a x->K9 b z->zh (fD op x z)
 v:∀y,zh y->oH op a b y
def Ev(op:Int)(a b:aH)(y:Int):Prop:=∃x z,K9 a x/\K9 b z/\y=fD op x z
def FR{op:Int}{a b:aH}(ha:NN a)(hb:NN b):Mid op a b (oH op a b):=⟨λx z hx hz=>⟨x,z,qm ha hx,qm hb hz,rfl⟩,λ_ h=>h⟩
def ah1{op:Int}{a b:aH}(ha:NN a)(hb:NN b):Mid op a b (Ev op a b):=⟨λx z hx hz=>⟨x,z,hx,hz,rfl⟩,λ_ ⟨x,z,hx,hz,e⟩=>⟨x,z,qm ha hx,qm hb hz,e⟩⟩
def lU{a b:aH}(ha:NN a)(hb:NN b){zh:Int->Prop}(h:Mid 8 a b zh):cS zh (aH.mk (a.ag+b.ag) (a.af+b.af) (cj a.aj b.aj)):=by
 refine⟨h.c a.ag b.ag (.inl rfl) (.inl rfl),h.c a.af b.af (.inr (.inr rfl)) (.inr (.inr rfl)),λy hy=> ?_,lM _ _,λd hd=>jC ?_ ?_⟩
 ·obtain⟨x,z,⟨x1,x2,x3⟩,⟨z1,z2,z3⟩,rfl⟩:=h.v y hy;show a.ag+b.ag<=x+z/\x+z<=a.af+b.af/\cj a.aj b.aj∣x+z-(a.ag+b.ag);refine⟨by omega,by omega,?_⟩;have:=yW (zZ (j9 a.aj b.aj) x3) (zZ (qT a.aj b.aj) z3)
  rwa [show x-a.ag+(z-b.ag)=x+z-(a.ag+b.ag)by omega]at this
 ·have:=hd _ (h.c (a.ag+a.aj) b.ag (.inr (.inl rfl)) (.inl rfl));have this:d∣a.ag+a.aj+b.ag-(a.ag+b.ag):=this
  rwa [show a.ag+a.aj+b.ag-(a.ag+b.ag)=a.aj by omega]at this
 ·have:=hd _ (h.c a.ag (b.ag+b.aj) (.inl rfl) (.inr (.inl rfl)));have this:d∣a.ag+(b.ag+b.aj)-(a.ag+b.ag):=this
  rwa [show a.ag+(b.ag+b.aj)-(a.ag+b.ag)=b.aj by omega]at this
def ug{a b:aH}(ha:NN a)(hb:NN b){zh:Int->Prop}(h:Mid 9 a b zh):cS zh (aH.mk (a.ag-b.af) (a.af-b.ag) (cj a.aj b.aj)):=by
 refine⟨h.c a.ag b.af (.inl rfl) (.inr (.inr rfl)),h.c a.af b.ag (.inr (.inr rfl)) (.inl rfl),λy hy=> ?_,lM _ _,λd hd=>jC ?_ ?_⟩
 ·obtain⟨x,z,⟨x1,x2,x3⟩,⟨z1,z2,z3⟩,rfl⟩:=h.v y hy;show a.ag-b.af<=x-z/\x-z<=a.af-b.ag/\cj a.aj b.aj∣x-z-(a.ag-b.af);refine⟨by omega,by omega,?_⟩;have k:=yw hb.dvd z3;have:=yW (zZ (j9 a.aj b.aj) x3) (zZ (qT a.aj b.aj) k)
  rwa [show x-a.ag+(b.af-b.ag-(z-b.ag))=x-z-(a.ag-b.af)by omega]at this
 ·have:=hd _ (h.c (a.ag+a.aj) b.af (.inr (.inl rfl)) (.inr (.inr rfl)));have this:d∣a.ag+a.aj-b.af-(a.ag-b.af):=this
  rwa [show a.ag+a.aj-b.af-(a.ag-b.af)=a.aj by omega]at this
 ·have k1:=hd _ (h.c a.ag b.ag (.inl rfl) (.inl rfl));have k2:=hd _ (h.c a.ag (b.ag+b.aj) (.inl rfl) (.inr (.inl rfl)));have k1:d∣a.ag-b.ag-(a.ag-b.af):=k1;have k2:d∣a.ag-(b.ag+b.aj)-(a.ag-b.af):=k2;have:=yw k1 k2
  rwa [show a.ag-b.ag-(a.ag-b.af)-(a.ag-(b.ag+b.aj)-(a.ag-b.af))=b.aj by omega]at this
def NM{l h x z:Int}(h1:l<=x)(h2:x<=h):min (l*z) (h*z)<=x*z/\x*z<=max (l*z) (h*z):=by
 rcases xY 0 z with c|c
 ·have k1:=zM h1 c;have k2:=zM h2 c;omega
 ·have k1:=ve h1 c;have k2:=ve h2 c;omega
def UU(p q r s:Int):Int:=min (min p q) (min r s)
def hi4(p q r s:Int):Int:=max (max p q) (max r s)
def P8{a b:aH}{x z:Int}(hx:a.ag<=x/\x<=a.af)(hz:b.ag<=z/\z<=b.af):
  UU (a.ag*b.ag) (a.ag*b.af) (a.af*b.ag) (a.af*b.af)<=x*z/\x*z<=hi4 (a.ag*b.ag) (a.ag*b.af) (a.af*b.ag) (a.af*b.af):=by
 have k1:=NM (z:=x) hz.1 hz.2;have k2:=NM (z:=b.ag) hx.1 hx.2;have k3:=NM (z:=b.af) hx.1 hx.2;rw[zG b.ag x,zG b.af x,zG z x]at k1;unfold UU hi4;omega
def aiF{P:Int->Prop}{p q r s:Int}(h1:P p)(h2:P q)(h3:P r)(h4:P s):P (UU p q r s)/\P (hi4 p q r s):=by
 have e1:UU p q r s=p\/UU p q r s=q\/UU p q r s=r\/UU p q r s=s:=by unfold UU;omega
 have e2:hi4 p q r s=p\/hi4 p q r s=q\/hi4 p q r s=r\/hi4 p q r s=s:=by unfold hi4;omega
 constructor
 ·rcases e1 with e|e|e|e<;>rw[e]<;>assumption
 ·rcases e2 with e|e|e|e<;>rw[e]<;>assumption
def aln(a b:aH):aH:=aH.mk (UU (a.ag*b.ag) (a.ag*b.af) (a.af*b.ag) (a.af*b.af)) (hi4 (a.ag*b.ag) (a.ag*b.af) (a.af*b.ag) (a.af*b.af)) (cj (cj (a.aj*b.ag) (b.aj*a.ag)) (a.aj*b.aj))
def vF{a b:aH}(ha:NN a)(hb:NN b){zh:Int->Prop}(h:Mid 10 a b zh):cS zh (aln a b):=by
 have h00:zh (a.ag*b.ag):=h.c a.ag b.ag (.inl rfl) (.inl rfl);have h01:zh (a.ag*b.af):=h.c a.ag b.af (.inl rfl) (.inr (.inr rfl));have h10:zh (a.af*b.ag):=h.c a.af b.ag (.inr (.inr rfl)) (.inl rfl);have h11:zh (a.af*b.af):=h.c a.af b.af (.inr (.inr rfl)) (.inr (.inr rfl));obtain⟨q1,q2⟩:=aiF (P:=zh) h00 h01 h10 h11;have g1:cj (cj (a.aj*b.ag) (b.aj*a.ag)) (a.aj*b.aj)∣a.aj*b.ag:=zZ (j9 _ _) (j9 _ _);have g2:cj (cj (a.aj*b.ag) (b.aj*a.ag)) (a.aj*b.aj)∣b.aj*a.ag:=zZ (j9 _ _) (qT _ _);have g3:cj (cj (a.aj*b.ag) (b.aj*a.ag)) (a.aj*b.aj)∣a.aj*b.aj:=qT _ _;have base:∀y,zh y->cj (cj (a.aj*b.ag) (b.aj*a.ag)) (a.aj*b.aj)∣y-a.ag*b.ag:=λy hy=>by
  obtain⟨x,z,⟨_,_,i,x3⟩,⟨_,_,j,z3⟩,rfl⟩:=h.v y hy;show _∣x*z-a.ag*b.ag;have e:x*z-a.ag*b.ag=i*(a.aj*b.ag)+j*(b.aj*a.ag)+i*j*(a.aj*b.aj):=by
   have ex:x=a.ag+a.aj*i:=by omega
   have ez:z=b.ag+b.aj*j:=by omega
   rw[ex,ez,zQ,yZ,yZ];have t1:a.ag*(b.aj*j)=j*(b.aj*a.ag):=by rw[<-zS,zG (a.ag*b.aj) j,zG a.ag b.aj]
   have t2:a.aj*i*b.ag=i*(a.aj*b.ag):=by rw[zG a.aj i,zS]
   have t3:a.aj*i*(b.aj*j)=i*j*(a.aj*b.aj):=by
    rw[zG a.aj i,zG b.aj j,zS,Int.mul_left_comm a.aj j,<-zS]
   rw[t1,t2,t3];omega
  rw[e];exact yW (yW (zZ g1 (xz ..)) (zZ g2 (xz ..))) (zZ g3 (xz ..))
 refine⟨q1,q2,λy hy=> ?_,lM _ _,λd hd=> ?_⟩
 ·obtain⟨x,z,hx,hz,e⟩:=h.v y hy;have e:y=x*z:=e;have k:=P8 ⟨hx.1,hx.2.1⟩ ⟨hz.1,hz.2.1⟩;refine⟨by rw[e];exact k.1,by rw[e];exact k.2,?_⟩;have:=yw (base y hy) (base _ q1)
  rwa [ssc]at this
 ·have diff:∀y y',zh y->zh y'->d∣y-y':=λy y' hy hy'=>by
   have:=yw (hd y hy) (hd y' hy')
   rwa [ssc]at this
  have p10:zh ((a.ag+a.aj)*b.ag):=h.c _ _ (.inr (.inl rfl)) (.inl rfl);have p01:zh (a.ag*(b.ag+b.aj)):=h.c _ _ (.inl rfl) (.inr (.inl rfl));have p11:zh ((a.ag+a.aj)*(b.ag+b.aj)):=h.c _ _ (.inr (.inl rfl)) (.inr (.inl rfl));have d1:=diff _ _ p10 h00;rw[zQ,Int.add_comm (a.ag*b.ag),Int.add_sub_cancel]at d1;have d2:=diff _ _ p01 h00;rw[yZ,Int.add_comm (a.ag*b.ag),Int.add_sub_cancel,zG]at d2;have d3:=yw (diff _ _ p11 p10) d2;rw[yZ (a.ag+a.aj),Int.add_comm ((a.ag+a.aj)*b.ag),Int.add_sub_cancel,zQ,zG b.aj a.ag,Int.add_comm (a.ag*b.aj),Int.add_sub_cancel]at d3;exact jC (jC d1 d2) d3
def gh(a:aH):aa Int:=[a.ag,a.ag+a.aj,a.af]
def nC(a:aH)(x:Int):K9 a x↔∃k,k<3/\x=(gh a)[k]! :=by
 constructor
 ·rintro(rfl|rfl|rfl)
  ·exact⟨0,by omega,rfl⟩
  ·exact⟨1,by omega,rfl⟩
  ·exact⟨2,by omega,rfl⟩
 ·rintro⟨k,hk,rfl⟩;rcases (show k=0\/k=1\/k=2 by omega)with rfl|rfl|rfl
  ·exact .inl rfl
  ·exact .inr (.inl rfl)
  ·exact .inr (.inr rfl)
def FJ{a:aH}(h:NN a){k:Nat}(hk:k<3):bX (gh a)[k]! :=Us (.inr h) (qm h ((nC a _).mpr ⟨k,hk,rfl⟩))
def prC(op:Int)(a b:aH)(i j:Nat)(l:aa Int):Prop:=(∀y,y∈l↔(∃k,k<i/\∃m,m<3/\y=fD op (gh a)[k]! (gh b)[m]!)\/∃m,m<j/\y=fD op (gh a)[i]! (gh b)[m]!)/\l.length=i*3+j/\∀y∈l,bX y
def afb{op:Int}{a b:aH}{i:Nat}{l:aa Int}(h:prC op a b i 3 l):prC op a b (i+1) 0 l:=by
 refine⟨λy=>(h.1 y).trans ⟨?_,?_⟩,by rw[h.2.1];omega,h.2.2⟩
 ·rintro(⟨k,hk,m,hm,e⟩|⟨m,hm,e⟩)
  ·exact .inl ⟨k,by omega,m,hm,e⟩
  ·exact .inl ⟨i,by omega,m,hm,e⟩
 ·rintro(⟨k,hk,m,hm,e⟩|⟨m,hm,e⟩)
  ·rcases y8.mp hk with c|rfl
   ·exact .inl ⟨k,c,m,hm,e⟩
   ·exact .inr ⟨m,hm,e⟩
  ·exact cR hm (yK _)
def Y1{op:Int}{a b c:aH}(ho:binop op)(ha:NN a)(hb:NN b){i:Nat}(hi:i<3){l:aa Int}(hl:prC op a b i 0 l):
  (∃l',Er (jh.mk op l (gh a) (gh b) i 0 c)=Q (jh.mk op l' (gh a) (gh b) i 3 c)/\prC op a b (i+1) 0 l')\/
  (∃l' j,j<3/\Er (jh.mk op l (gh a) (gh b) i 0 c)=Q (jh.mk op l' (gh a) (gh b) i (j:Nat) c)/\¬bX (fD op (gh a)[i]! (gh b)[j]!)):=by
 have ll:∀a:aH,(gh a).length=3:=λ_=>rfl;obtain⟨j,l',e,hI,h⟩:=oB (cL:=DP) 3 (λj (l:aa Int)=>jh.mk op l (gh a) (gh b) i (j:Nat) c) (λj l=>prC op a b i j l) (λj l=>¬bX (fD op (gh a)[i]! (gh b)[j]!))
  (λj l hj hI=>by
   obtain⟨v,ev,hv⟩:=mb (FJ ha hi) (FJ hb hj) ho;unfold DP;simp only;rw[rZ,bC,ll,ll,gG,zi,bt ⟨trivial,hi⟩,gG,zi,bt ⟨trivial,hj⟩,ev];simp only;by_cases hr:bX (fD op (gh a)[i]! (gh b)[j]!)
   ·left;rw[bQ hr];simp only[bC,bz];rw[bt (by rw[zq,hI.2.1];simp;omega),gH hj (by omega),hv hr];refine⟨_,rfl,λy=> ?_,by rw[zq,hI.2.1];simp;omega,λy hy=> ?_⟩
    ·rw[zV,zD,hI.1 y];constructor
     ·rintro((h|⟨m,hm,h⟩)|rfl)
      ·exact .inl h
      ·exact .inr ⟨m,by omega,h⟩
      ·exact .inr ⟨j,by omega,rfl⟩
     ·rintro(h|⟨m,hm,h⟩)
      ·exact .inl (.inl h)
      ·rcases y8.mp hm with c|rfl
       ·exact .inl (.inr ⟨m,c,h⟩)
       ·exact .inr h
    ·rcases zV.mp hy with hy|hy
     ·exact hI.2.2 y hy
     ·rw[zD.mp hy];exact hr
   ·right;rw[bP hr];exact⟨rfl,hr⟩)
  (λl hI=>by
   unfold DP;simp only;rw[fO];rfl) (b:=l) hl
 have e:bJ DP (jh.mk op l (gh a) (gh b) i 0 c)=Q (jh.mk op l' (gh a) (gh b) i (j:Nat) c):=e;rcases h with rfl|⟨hj,h⟩
 ·exact .inl ⟨l',e,afb hI⟩
 ·exact .inr ⟨l',j,hj,e,h⟩
def agF{op:Int}{a b:aH}(ho:binop op)(ha:NN a)(hb:NN b):
  ((∀y,Ev op a b y->bX y)/\∃c,rR op a b=Q (c,0)/\cS (Ev op a b) c)\/((¬∀y,Ev op a b y->bX y)/\rR op a b=Q (aH.mk 0 0 0,3)):=by
 have ll:∀a:aH,(gh a).length=3:=λ_=>rfl;have wc:∀{a:aH},NN a->[a.ag,i64.wrap (a.ag+a.aj),a.af]=gh a:=λ{a} h=>by
  have:=Us (.inr h) (Su h);rw[aG (by have:=this.1;omega) (by have:=this.2;omega)];rfl
 unfold rR;rw[wc ha,wc hb];obtain⟨i,l,e,hI,h⟩:=oB (cL:=Az) 3 (λi (l:aa Int)=>s8.mk op l (gh a) (gh b) (i:Nat) (aH.mk 0 0 0)) (λi l=>prC op a b i 0 l) (λi l=>∃l' j,j<3/\Er (jh.mk op l (gh a) (gh b) i 0 (aH.mk 0 0 0))=Q (jh.mk op l' (gh a) (gh b) i (j:Nat) (aH.mk 0 0 0))/\¬bX (fD op (gh a)[i]! (gh b)[j]!))
  (λi l hi hI=>by
   unfold Az;simp only;rw[rZ,bC];rcases Y1 (c:=aH.mk 0 0 0) ho ha hb hi hI with ⟨l',e,h⟩|⟨l',j,hj,e,h⟩
   ·left;rw[e];simp only;rw[fO,bz,gH hi (by omega)];exact⟨l',rfl,h⟩
   ·right;refine⟨?_,l',j,hj,e,h⟩;rw[e];simp only;obtain⟨v,ev,hv⟩:=mb (FJ ha hi) (FJ hb hj) ho;rw[rZ,bC,ll,ll,gG,zi,bt ⟨trivial,hi⟩,gG,zi,bt ⟨trivial,hj⟩,ev];simp only;rw[bP h];rfl)
  (λl hI=>by
   unfold Az;simp only;rw[fO];rfl) (b:=[]) ⟨λy=>⟨λh=>cR h (by simp),λh=>by
    rcases h with ⟨k,hk,_⟩|⟨m,hm,_⟩
    ·exact cR hk (yK _)
    ·exact cR hm (yK _)⟩,by simp,λy hy=>cR hy (by simp)⟩
 have e:bJ Az (s8.mk op [] (gh a) (gh b) 0 (aH.mk 0 0 0))=Q (s8.mk op l (gh a) (gh b) (i:Nat) (aH.mk 0 0 0)):=e;rw[show X7=bJ Az from rfl,e];simp only;rcases h with rfl|⟨hi,l',j,hj,e1,h⟩
 ·left;have mem:∀y,y∈l↔Ev op a b y:=λy=>(hI.1 y).trans ⟨λh=>by
   rcases h with ⟨k,hk,m,hm,e⟩|⟨m,hm,_⟩
   ·exact⟨_,_,(nC a _).mpr ⟨k,hk,rfl⟩,(nC b _).mpr ⟨m,hm,rfl⟩,e⟩
   ·exact cR hm (yK _),λ⟨x,z,hx,hz,e⟩=>by
   obtain⟨k,hk,rfl⟩:=(nC a _).mp hx;obtain⟨m,hm,rfl⟩:=(nC b _).mp hz;exact .inl ⟨k,hk,m,hm,e⟩⟩
  rw[fO,bz];have hne:l≠[]:=λe=>by
   have:=hI.2.1;rw[e]at this;simp at this
  obtain⟨c,e2,hc⟩:=Jc hne (by rw[hI.2.1];omega) hI.2.2;rw[e2];exact⟨λy hy=>hI.2.2 y ((mem y).mpr hy),c,rfl,hc.congr mem⟩
 ·right;refine⟨λk=>h (k _ ⟨_,_,(nC a _).mpr ⟨i,hi,rfl⟩,(nC b _).mpr ⟨j,hj,rfl⟩,rfl⟩),?_⟩;rw[rZ,bC,e1];simp only;obtain⟨v,ev,hv⟩:=mb (FJ ha hi) (FJ hb hj) ho;rw[rZ,bC,ll,ll,gG,zi,bt ⟨trivial,hi⟩,gG,zi,bt ⟨trivial,hj⟩,ev];simp only;rw[bP h];rfl
def fl{op:Int}{a b c:aH}(ho:op=8\/op=9\/op=10)(ha:NN a)(hb:NN b)(hc:∀zh,Mid op a b zh->cS zh c)(hR:(∀y,Ev op a b y->bX y)->∀y,oH op a b y->bX y):
  ((∀y,oH op a b y->bX y)/\nr op a b=Q (c,0)/\NN c)\/((¬∀y,oH op a b y->bX y)/\nr op a b=Q (aH.mk 0 0 0,3)):=by
 have hbin:binop op:=by unfold binop;omega
 by_cases hs:cnt a*cnt b<=4096
 ·rw[jJ hbin ha hb hs];rcases ri hbin ha hb (by omega)with ⟨h1,d,e,h2⟩|⟨h1,e⟩
  ·have k:=hc _ (FR ha hb);rw[h2.uniq k]at e;exact .inl ⟨h1,e,k.valid h1⟩
  ·exact .inr ⟨h1,e⟩
 ·have e0:nr op a b=rR op a b:=by
   rw[pz hbin ha hb hs];unfold Pc;rcases ho with rfl|rfl|rfl<;>rfl
  rw[e0];rcases agF hbin ha hb with ⟨h1,d,e,h2⟩|⟨h1,e⟩
  ·rw[h2.uniq (hc _ (ah1 ha hb))]at e;exact .inl ⟨hR h1,e,(hc _ (FR ha hb)).valid (hR h1)⟩
  ·exact .inr ⟨λk=>h1 λy hy=>k y ((ah1 ha hb).v y hy),e⟩
def U3{c:aH}(h:NN c):gi c.ag c.af c.aj=c:=by
 rw[Lf h.le h.s0 h.dvd (λk=>by rcases h.st with e|e;exact e.2;omega)]
def AL{c:aH}(h:NN c):mZ c.ag c.af c.aj=Q c:=by
 have:=h.lo;have:=h.hi
 rw[nG (by omega) (by omega) h.s0,U3 h]
def nj{op:Int}{a b:aH}(ho:binop op)(ha:NN a)(hb:NN b){r:ah (aH×Int)}
  (h:(bif O (op=9)then
   match bif bif jL (i64.wrap (a.ag+i64.wrap (0-b.af)))then I else G then Q G else Q (bif jL (i64.wrap (a.af+i64.wrap (0-b.ag)))then I else G)with
   |none=>V
   |some r5=>bif r5 then Q (aH.mk 0 0 0,3)else match BH [a.aj,b.aj]with
    |none=>V
    |some r6=>match mZ (i64.wrap (a.ag+i64.wrap (0-b.af))) (i64.wrap (a.af+i64.wrap (0-b.ag))) r6 with
     |none=>V
     |some r7=>Q (r7,0)
  else bif O (op=8)then
   match bif bif jL (i64.wrap (a.ag+b.ag))then I else G then Q G else Q (bif jL (i64.wrap (a.af+b.af))then I else G)with
   |none=>V
   |some r8=>bif r8 then Q (aH.mk 0 0 0,3)else match BH [a.aj,b.aj]with
    |none=>V
    |some r9=>match mZ (i64.wrap (a.ag+b.ag)) (i64.wrap (a.af+b.af)) r9 with
     |none=>V
     |some r10=>Q (r10,0)
  else bif O (op=10)then match UD a b with
   |none=>V
   |some r11=>Q r11
  else bif O (op=11)then match uS op a b with
   |none=>V
   |some r12=>Q (r12,0)
  else bif O (op=12)then match uS op a b with
   |none=>V
   |some r13=>Q (r13,0)
  else bif O (op=21)then match uS op a b with
   |none=>V
   |some r14=>Q (r14,0)
  else bif O (op=22)then match uS op a b with
   |none=>V
   |some r15=>Q (r15,0)
  else match Xr op a b with
   |none=>V
   |some r16=>Q (r16,0))=r):uD op a b=r:=by
 unfold uD;rw[eX,eX,ew (.inr ha),ew (.inr hb),ju,bQ ho];simp only[bC,bz];rw[eR ha.ne,eR hb.ne];simp only[bz];exact h
def jQ{a b:aH}(ha:NN a)(hb:NN b):(∀y,oH 8 a b y->bX y)↔bX (a.ag+b.ag)/\bX (a.af+b.af):=by
 constructor
 ·intro h;exact⟨h _ ⟨_,_,di ha,di hb,rfl⟩,h _ ⟨_,_,gA ha,gA hb,rfl⟩⟩
 ·rintro⟨⟨h1,h2⟩,⟨h3,h4⟩⟩ y ⟨x,z,⟨x1,x2,_⟩,⟨z1,z2,_⟩,rfl⟩;exact⟨by show _<=x+z;omega,by show x+z<=_;omega⟩
def m8{a b:aH}(ha:NN a)(hb:NN b):(∀y,oH 9 a b y->bX y)↔bX (a.ag-b.af)/\bX (a.af-b.ag):=by
 constructor
 ·intro h;exact⟨h _ ⟨_,_,di ha,gA hb,rfl⟩,h _ ⟨_,_,gA ha,di hb,rfl⟩⟩
 ·rintro⟨⟨h1,h2⟩,⟨h3,h4⟩⟩ y ⟨x,z,⟨x1,x2,_⟩,⟨z1,z2,_⟩,rfl⟩;exact⟨by show _<=x-z;omega,by show x-z<=_;omega⟩
def jc{a b:aH}(ha:NN a)(hb:NN b):(∀y,oH 10 a b y->bX y)↔bX (a.ag*b.ag)/\bX (a.ag*b.af)/\bX (a.af*b.ag)/\bX (a.af*b.af):=by
 constructor
 ·intro h;exact⟨h _ ⟨_,_,di ha,di hb,rfl⟩,h _ ⟨_,_,di ha,gA hb,rfl⟩,h _ ⟨_,_,gA ha,di hb,rfl⟩,h _ ⟨_,_,gA ha,gA hb,rfl⟩⟩
 ·rintro⟨h1,h2,h3,h4⟩ y ⟨x,z,⟨x1,x2,_⟩,⟨z1,z2,_⟩,rfl⟩;have k:=P8 (a:=a) (b:=b) ⟨x1,x2⟩ ⟨z1,z2⟩;obtain⟨⟨p1,p2⟩,⟨p3,p4⟩⟩:=aiF (P:=bX) h1 h2 h3 h4;exact⟨by show _<=x*z;omega,by show x*z<=_;omega⟩
def aeW{x y u v:Int}(h1:x.natAbs=u.natAbs)(h2:y.natAbs=v.natAbs):cj x y=cj u v:=by
 unfold cj yD;rw[h1,h2]
def TE(p q r s:Int):afo ([p]++[q]++[r]++[s])=Q (UU p q r s):=by
 unfold afo;rw[bP (by simp),bz,bt (by simp),show IX=bJ ES from rfl];have st:∀m k,k=1\/k=2\/k=3->ES (tg.mk ([p]++[q]++[r]++[s]) m k)=Q (Q (tg.mk ([p]++[q]++[r]++[s]) (min m ([p]++[q]++[r]++[s])[k.toNat]!) (k+1))):=λm k hk=>by
  unfold ES;simp only;rw[bQ (by simp;omega),bC,bt (by simp;omega),aG];have e:∀w:Int,(if w<m then w else m)=min m w:=λw=>by split<;>omega
  rw[e]
 rw[bU (st _ 1 (.inl rfl)),bU (st _ (1+1) (.inr (.inl rfl))),bU (st _ (1+1+1) (.inr (.inr rfl))),cF (by intro x hx;simp[ES]at hx)];simp only;rw[bP (by simp),bz];show Q (min (min (min p q) r) s)=Q (UU p q r s);unfold UU
 congr 1
 omega
def Ux(p q r s:Int):ZS ([p]++[q]++[r]++[s])=Q (hi4 p q r s):=by
 unfold ZS;rw[bP (by simp),bz,bt (by simp),show Ic=bJ EY from rfl];have st:∀m k,k=1\/k=2\/k=3->EY (sY.mk ([p]++[q]++[r]++[s]) m k)=Q (Q (sY.mk ([p]++[q]++[r]++[s]) (max m ([p]++[q]++[r]++[s])[k.toNat]!) (k+1))):=λm k hk=>by
  unfold EY;simp only;rw[bQ (by simp;omega),bC,bt (by simp;omega),aG];have e:∀w:Int,(if m<w then w else m)=max m w:=λw=>by split<;>omega
  rw[e]
 rw[bU (st _ 1 (.inl rfl)),bU (st _ (1+1) (.inr (.inl rfl))),bU (st _ (1+1+1) (.inr (.inr rfl))),cF (by intro x hx;simp[EY]at hx)];simp only;rw[bP (by simp),bz];show Q (max (max (max p q) r) s)=Q (hi4 p q r s);unfold hi4
 congr 1
 omega
def atu(x y:Int):(bif bif jL x then I else G then Q G else Q (bif jL y then I else G))=Q (!(O (bX x)&&O (bX y))):=by
 rw[show jL x=O (bX x)from j0 x,show jL y=O (bX y)from j0 y];cases O (bX x)<;>cases O (bX y)<;>rfl
def dw{op:Int}{a b:aH}(h:∀y,Ev op a b y->bX y){x z:Int}(hx:K9 a x)(hz:K9 b z):bX (fD op x z):=h _ ⟨x,z,hx,hz,rfl⟩
def ON(op:Int)(a b:aH):Prop:=∃r,uD op a b=Q r/\nr op a b=Q r/\NV r.1
def Ym{a b:aH}(ha:NN a)(hb:NN b):ON 8 a b:=by
 have r1:=ha.oV;have r2:=ha.vK;have r3:=hb.oV;have r4:=hb.vK;obtain⟨a1,a2⟩:=r1;obtain⟨a3,a4⟩:=r2;obtain⟨b1,b2⟩:=r3;obtain⟨b3,b4⟩:=r4;have key:=fl (op:=8) (.inl rfl) ha hb (λzh h=>lU ha hb h) (λh=>(jQ ha hb).mpr ⟨dw h (.inl rfl) (.inl rfl),dw h (.inr (.inr rfl)) (.inr (.inr rfl))⟩);have prog:∀r,(match Q (!(O (bX (a.ag+b.ag))&&O (bX (a.af+b.af))))with
   |none=>V
   |some r8=>bif r8 then Q (aH.mk 0 0 0,(3:Int))else match mZ (a.ag+b.ag) (a.af+b.af) (cj a.aj b.aj)with
     |none=>V
     |some r10=>Q (r10,0))=r->uD 8 a b=r:=λr h=>nj ⟨by decide,by decide⟩ ha hb (by
  simp only[Int.reduceEq,fW,cX,bz,bC];rw[atu,aG (n:=a.ag+b.ag),aG (n:=a.af+b.af),CN ha.s0 hb.s0];exact h)
 rcases key with ⟨h1,e,hv⟩|⟨h1,e⟩
 ·obtain⟨k1,k2⟩:=(jQ ha hb).mp h1;refine⟨_,prog _ ?_,e, .inr hv⟩;rw[bQ k1,bQ k2];have:=AL hv;have this:mZ (a.ag+b.ag) (a.af+b.af) (cj a.aj b.aj)=Q _:=this;rw[this];rfl
 ·refine⟨_,prog _ ?_,e,OA⟩;have:(O (bX (a.ag+b.ag))&&O (bX (a.af+b.af)))=I:=by
   cases c1:O (bX (a.ag+b.ag))<;>cases c2:O (bX (a.af+b.af))<;>first|rfl|exact cR ((jQ ha hb).mpr ⟨of_decide_eq_true c1,of_decide_eq_true c2⟩) h1
  rw[this];rfl
def ZI{a b:aH}(ha:NN a)(hb:NN b):ON 9 a b:=by
 have r1:=ha.oV;have r2:=ha.vK;have r3:=hb.oV;have r4:=hb.vK;obtain⟨a1,a2⟩:=r1;obtain⟨a3,a4⟩:=r2;obtain⟨b1,b2⟩:=r3;obtain⟨b3,b4⟩:=r4;have key:=fl (op:=9) (.inr (.inl rfl)) ha hb (λzh h=>ug ha hb h) (λh=>(m8 ha hb).mpr ⟨dw h (.inl rfl) (.inr (.inr rfl)),dw h (.inr (.inr rfl)) (.inl rfl)⟩);have prog:∀r,(match Q (!(O (bX (a.ag-b.af))&&O (bX (a.af-b.ag))))with
   |none=>V
   |some r8=>bif r8 then Q (aH.mk 0 0 0,(3:Int))else match mZ (a.ag-b.af) (a.af-b.ag) (cj a.aj b.aj)with
     |none=>V
     |some r10=>Q (r10,0))=r->uD 9 a b=r:=λr h=>nj ⟨by decide,by decide⟩ ha hb (by
  simp only[Int.reduceEq,fW,cX,bz,bC];rw[atu,aG (n:=0-b.af),aG (n:=0-b.ag),aG (n:=a.ag+(0-b.af)),aG (n:=a.af+(0-b.ag)),CN ha.s0 hb.s0,
   show a.ag+(0-b.af)=a.ag-b.af by omega,show a.af+(0-b.ag)=a.af-b.ag by omega]
  exact h)
 rcases key with ⟨h1,e,hv⟩|⟨h1,e⟩
 ·obtain⟨k1,k2⟩:=(m8 ha hb).mp h1;refine⟨_,prog _ ?_,e, .inr hv⟩;rw[bQ k1,bQ k2];have:=AL hv;have this:mZ (a.ag-b.af) (a.af-b.ag) (cj a.aj b.aj)=Q _:=this;rw[this];rfl
 ·refine⟨_,prog _ ?_,e,OA⟩;have:(O (bX (a.ag-b.af))&&O (bX (a.af-b.ag)))=I:=by
   cases c1:O (bX (a.ag-b.af))<;>cases c2:O (bX (a.af-b.ag))<;>first|rfl|exact cR ((m8 ha hb).mpr ⟨of_decide_eq_true c1,of_decide_eq_true c2⟩) h1
  rw[this];rfl
def V2{a b:aH}(ha:NN a)(hb:NN b):ON 10 a b:=by
 have key:=fl (op:=10) (.inr (.inr rfl)) ha hb (λzh h=>vF ha hb h) (λh=>(jc ha hb).mpr ⟨dw h (.inl rfl) (.inl rfl),dw h (.inl rfl) (.inr (.inr rfl)),dw h (.inr (.inr rfl)) (.inl rfl),dw h (.inr (.inr rfl)) (.inr (.inr rfl))⟩);have prog:uD 10 a b=UD a b:=nj ⟨by decide,by decide⟩ ha hb (by
  simp only[Int.reduceEq,fW,cX,bz,bC];cases UD a b<;>rfl)
 unfold ON;rw[prog];obtain⟨v1,e1,q1⟩:=Ce ha.oV hb.oV;obtain⟨v2,e2,q2⟩:=Ce ha.oV hb.vK;obtain⟨v3,e3,q3⟩:=Ce ha.vK hb.oV;obtain⟨v4,e4,q4⟩:=Ce ha.vK hb.vK;unfold UD;rw[e1];simp only;by_cases c1:bX (a.ag*b.ag)
 ·rw[bQ c1,e2];simp only[bC,bz];by_cases c2:bX (a.ag*b.af)
  ·rw[bQ c2,e3];simp only[bC,bz];by_cases c3:bX (a.af*b.ag)
   ·rw[bQ c3,e4];simp only[bC,bz];by_cases c4:bX (a.af*b.af)
    ·rw[bQ c4];simp only[bC,bz];have hr:=(jc ha hb).mpr ⟨c1,c2,c3,c4⟩;rcases key with ⟨_,e,hv⟩|⟨h1,_⟩
     ·have r1:=ha.oV;have r3:=hb.oV;obtain⟨a1,a2⟩:=r1;obtain⟨b1,b2⟩:=r3;have s1:=ha.s0;have s2:=hb.s0;have l1:=ha.sle;have l2:=hb.sle;obtain⟨w1,w2⟩:=c1;obtain⟨w3,w4⟩:=c2;obtain⟨w5,w6⟩:=c3;obtain⟨w7,w8⟩:=c4;have n1:0<=a.aj*((b.ag.natAbs:Nat):Int):=zB s1 (by omega);have n2:0<=b.aj*((a.ag.natAbs:Nat):Int):=zB s2 (by omega);have n3:0<=a.aj*b.aj:=zB s1 s2;have k1:a.aj*((b.ag.natAbs:Nat):Int)<=2199023255552:=by
       have t:=zM l1 (show 0<=((b.ag.natAbs:Nat):Int)by omega);have t2:(a.af-a.ag)*((b.ag.natAbs:Nat):Int)<=2199023255552:=by
        rcases xY 0 b.ag with c|c
        ·rw[show ((b.ag.natAbs:Nat):Int)=b.ag by omega,yu];omega
        ·rw[show ((b.ag.natAbs:Nat):Int)= -b.ag by omega,x9,yu];omega
       omega
      have k2:b.aj*((a.ag.natAbs:Nat):Int)<=2199023255552:=by
       have t:=zM l2 (show 0<=((a.ag.natAbs:Nat):Int)by omega);have t2:(b.af-b.ag)*((a.ag.natAbs:Nat):Int)<=2199023255552:=by
        rcases xY 0 a.ag with c|c
        ·rw[show ((a.ag.natAbs:Nat):Int)=a.ag by omega,yu,zG b.af,zG b.ag];omega
        ·rw[show ((a.ag.natAbs:Nat):Int)= -a.ag by omega,x9,yu,zG b.af,zG b.ag];omega
       omega
      have k3:a.aj*b.aj<=4398046511104:=by
       have t:=y4 l1 l2 s2 (by omega);rw[yu,x8,x8]at t;omega
      rw[mO hb.oV,mO ha.oV,aG (n:=a.aj*((b.ag.natAbs:Nat):Int)),aG (n:=b.aj*((a.ag.natAbs:Nat):Int)),aG (n:=a.aj*b.aj),
       Dj n1 n2 n3,TE,Ux,q1 ⟨w1,w2⟩,q2 ⟨w3,w4⟩,q3 ⟨w5,w6⟩,q4 ⟨w7,w8⟩]
      simp only;have eg:cj (cj (a.aj*((b.ag.natAbs:Nat):Int)) (b.aj*((a.ag.natAbs:Nat):Int))) (a.aj*b.aj)=(aln a b).aj:=by
       show _=cj (cj (a.aj*b.ag) (b.aj*a.ag)) (a.aj*b.aj);rw[aeW (x:=a.aj*((b.ag.natAbs:Nat):Int)) (u:=a.aj*b.ag) (by rw[Int.natAbs_mul,Int.natAbs_mul,Int.natAbs_natCast]) (y:=b.aj*((a.ag.natAbs:Nat):Int)) (v:=b.aj*a.ag) (by rw[Int.natAbs_mul,Int.natAbs_mul,Int.natAbs_natCast])]
      rw[eg];have:=AL hv;have this:mZ (UU (a.ag*b.ag) (a.ag*b.af) (a.af*b.ag) (a.af*b.af)) (hi4 (a.ag*b.ag) (a.ag*b.af) (a.af*b.ag) (a.af*b.af)) (aln a b).aj=Q _:=this;rw[this];exact⟨_,rfl,e, .inr hv⟩
     ·exact cR hr h1
    ·rcases key with ⟨h1,_⟩|⟨_,e⟩
     ·exact cR ((jc ha hb).mp h1).2.2.2 c4
     ·rw[bP c4];exact⟨_,rfl,e,OA⟩
   ·rcases key with ⟨h1,_⟩|⟨_,e⟩
    ·exact cR ((jc ha hb).mp h1).2.2.1 c3
    ·rw[bP c3];exact⟨_,rfl,e,OA⟩
  ·rcases key with ⟨h1,_⟩|⟨_,e⟩
   ·exact cR ((jc ha hb).mp h1).2.1 c2
   ·rw[bP c2];exact⟨_,rfl,e,OA⟩
 ·rcases key with ⟨h1,_⟩|⟨_,e⟩
  ·exact cR ((jc ha hb).mp h1).1 c1
  ·rw[bP c1];exact⟨_,rfl,e,OA⟩
structure Eu (x m a b u v:Int):Prop where
 a0:0<=a
 b2:2<=b
 ab:a<b
 g:yD a b=1
 du:m∣u*x-a
 dv:m∣v*x-b
 s:(0<=u/\v<=0/\b*u-a*v=m)\/(u<=0/\0<=v/\a*v-b*u=m)
def Eu.next{x m a b u v:Int}(h:Eu x m a b u v)(ha:1<a):Eu x m (b%a) a (v-b/a*u) u:=by
 have e:=yT b a;have m0:=yU b (b:=a) (by omega);have m1:=yY b (b:=a) (by omega);refine⟨m0,by omega,m1,?_,?_,h.du,?_⟩
 ·have:=pS (a:=b) (b:=a) (by have:=h.b2;omega) (by omega);rw[kD (by have:=h.b2;omega)]at this;rw[Int.gcd_comm,this,Int.gcd_comm];exact h.g
 ·have k:=yw h.dv (zZ h.du (xz (b/a) _));have:v*x-b-b/a*(u*x-a)=(v-b/a*u)*x-b%a:=by
   rw[x8,yu,zS,zG (b/a) a];omega
  rwa [this]at k
 ·have t1:(b%a)*u=b*u-a*(b/a*u):=by
   rw[<-zS,<-yu]
   congr 1
   omega
  have t2:a*(v-b/a*u)=a*v-a*(b/a*u):=x8 ..;have q0:0<=b/a:=zX (by have:=h.b2;omega) (by omega);rcases h.s with ⟨s1,s2,s3⟩|⟨s1,s2,s3⟩
  ·have:=zB q0 s1;exact .inr ⟨by omega,s1,by omega⟩
  ·have:=zB q0 (show 0<= -u by omega);rw[x9]at this;exact .inl ⟨by omega,s1,by omega⟩
def Eu.bd{x m a b u v:Int}(h:Eu x m a b u v): -m<=u/\u<=m:=by
 have hb:=h.b2;have ha:=h.a0;rcases h.s with ⟨s1,s2,s3⟩|⟨s1,s2,s3⟩
 ·have k1:=zB ha (show 0<= -v by omega);rw[x9]at k1;have k2:1*u<=b*u:=zM (by omega) s1;omega
 ·have k1:=zB ha s2;have k2:1*(-u)<=b*(-u):=zM (by omega) (by omega);simp only[x9,zU]at k2;omega
def Eu.bv{x m a b u v:Int}(h:Eu x m a b u v)(ha:1<a): -m<=v/\v<=m:=by
 have hb:=h.b2;rcases h.s with ⟨s1,s2,s3⟩|⟨s1,s2,s3⟩
 ·have k1:=zB (show 0<=b by omega) s1;have k2:1*(-v)<=a*(-v):=zM (by omega) (by omega);simp only[x9,zU]at k2;omega
 ·have k1:=zB (show 0<=b by omega) (show 0<= -u by omega);rw[x9]at k1;have k2:1*v<=a*v:=zM (by omega) s2;omega
def alP{x m a b u v:Int}(hm:m<1152921504606846976)(hbm:b<=m)(h:Eu x m a b u v):∃b' u' v',HH (mC.mk m a b u v)=Q (mC.mk m 1 b' u' v')/\m∣u'*x-1/\ -m<=u'/\u'<=m:=by
 obtain⟨z,e1,⟨a',b',u',v',rfl,hI,hb⟩,hs⟩:=lS (cL:=DT) (λp=>∃a b u v,p=mC.mk m a b u v/\Eu x m a b u v/\b<=m) (λp=>p.t5.toNat) (λp p' ⟨a,b,u,v,hp,hI,hbm⟩ hn=>by
  subst hp;have hn:DT (mC.mk m a b u v)=Q (Q p'):=hn;unfold DT at hn;simp only at hn;by_cases c:1<a
  ·have hN:=hI.next c;have q0:0<=b/a:=zX (by have:=hI.b2;omega) (by omega);have q1:b/a<=b:=yg _ (by have:=hI.b2;omega);have e:=yT b a;rw[zG]at e;have m0:=hN.a0;have m1:=hN.ab;have bu:=hI.bd;have bv:=hI.bv c;have bn:=hN.bd;have hb2:=hI.b2;have hab:=hI.ab;rw[bQ c,bC,gG,j5,aG (n:=b/a),aG (n:=b/a*a),aG (n:=b-b/a*a),aG (n:=b/a*u),aG (n:=v-b/a*u)]at hn;simp only[zO.injEq]at hn;subst hn;rw[show b-b/a*a=b%a by omega];exact⟨⟨b%a,a,_,_,rfl,hN,by have:=hI.ab;omega⟩,by show (b%a).toNat<a.toNat;omega⟩
  ·rw[bP c]at hn;cases hn) ⟨a,b,u,v,rfl,h,hbm⟩
 have hle:¬1<a':=λc=>by
  have hN:=hI.next c;have q0:0<=b'/a':=zX (by have:=hI.b2;omega) (by omega);refine hs (mC.mk m (i64.wrap (b'-i64.wrap (i64.wrap (b'.tdiv a')*a'))) a' (i64.wrap (v'-i64.wrap (i64.wrap (b'.tdiv a')*u'))) u') ?_;unfold DT;simp only;rw[bQ c,bC,gG]
 have a1:a'=1:=by
  have:=hI.a0;rcases (show a'=0\/a'=1 by omega)with rfl|rfl
  ·have g:=hI.g;rw[Int.gcd_zero_left]at g;have:=hI.b2;omega
  ·rfl
 subst a1;exact⟨b',u',v',e1,hI.du,hI.bd⟩
def ZW{x m:Int}(h0:0<=x)(h1:2<=m)(h2:m<1152921504606846976)(hg:yD x m=1):∃v:Int,agd x m=Q v/\0<=v/\v<m/\m∣v*x-1:=by
 have m0:=yU x (b:=m) (by omega);have m1:=yY x (b:=m) (by omega);have e:=yT x m;obtain⟨b',u',v',e1,d1,d2,d3⟩:=alP (x:=x) (m:=m) (a:=x%m) (b:=m) (u:=1) (v:=0) h2 (zm _) ⟨m0,h1,m1,by
   have:=pS (a:=x) (b:=m) h0 (by omega);rw[kD h0]at this;rw[Int.gcd_comm,this,hg],⟨x/m,by omega⟩,⟨-1,by omega⟩, .inl ⟨by omega,by omega,by omega⟩⟩
 unfold agd;rw[gG,kD h0,e1];simp only;rw[fO,bz,gG,gG];have t:=vb u' m;have tb:(u'.tmod m).natAbs<m.natAbs:=by rw[wC];exact y6 _ (by omega)
 rw[aG,kD];have ev:(u'.tmod m+m)%m=u'%m:=by
  rw[Int.add_emod_right]
  conv=>rhs;rw[<-t]
  rw[Int.mul_add_emod_self_left]
 rw[ev];refine⟨u'%m,rfl,yU _ (by omega),yY _ (by omega),?_⟩;have e2:=yT u' m;have:u'%m*x-1=u'*x-1-m*(u'/m*x):=by
  rw[<-zS];have:u'%m*x=u'*x-m*(u'/m)*x:=by
   rw[<-yu]
   congr 1
   omega
  omega
 rw[this];exact yw d1 (xB ..)
def Wb{x m:Int}(hm:1<=m):(x.tmod m+m).tmod m=x%m/\0<=x.tmod m+m/\x.tmod m+m<2*m/\ -m<x.tmod m:=by
 have t:=vb x m;have tb:(x.tmod m).natAbs<m.natAbs:=by rw[wC];exact y6 _ (by omega)
 refine⟨?_,by omega,by omega,by omega⟩;rw[kD,Int.add_emod_right]
 conv=>rhs;rw[<-t]
 rw[Int.mul_add_emod_self_left]
def Hs(X Y Z:Int->Int)(sa P M K:Int):ah aH:=
 bif O (M<K)then Q iV else if¬P=(0:Int)then bif O (K=i64.wrap (K+i64.wrap (i64.wrap ((i64.wrap (M-K)).tdiv P)*P)))then Q (gX (X K))else Q (aH.mk (Y K) (Z K) (i64.wrap (P*sa)))else V
def FE{X Y Z:Int->Int}{sa P M K:Int}(h1:1<=sa)(h2:1<=P)(h3:0<=K)(h4:M<=4398046511104)(h5:M*sa<=4398046511104):∃c,Hs X Y Z sa P M K=Q c/\fB c=O (M<K):=by
 unfold Hs;by_cases c:M<K
 ·rw[bQ c];exact⟨cy,rfl,iW⟩
 ·rw[bP c,bz,gG];have q0:0<=(M-K)/P:=zX (by omega) (by omega);have q1:(M-K)/P<=M-K:=yg _ (by omega);have q2:(M-K)/P*P<=M-K:=y9 _ (by omega);have q3:0<=(M-K)/P*P:=zB q0 (by omega);rw[aG (n:=M-K),j5,aG (n:=(M-K)/P),aG (n:=(M-K)/P*P),aG (n:=K+(M-K)/P*P)];by_cases e:K=K+(M-K)/P*P
  ·rw[bQ e];refine⟨gX (X K),rfl,eR λk=> ?_⟩;have k1:X K=1:=congrArg aH.ag k;have k2:X K=0:=congrArg aH.af k;omega
  ·rw[bP e];refine⟨_,rfl,eR λk=> ?_⟩;have k3:i64.wrap (P*sa)=0:=congrArg aH.aj k;have q5:1<=(M-K)/P:=by
    rcases (show (M-K)/P=0\/1<=(M-K)/P by omega)with z|z
    ·rw[z,xV]at e;omega
    ·exact z
   have q6:1*P<=(M-K)/P*P:=zM q5 (by omega);have q7:P*sa<=M*sa:=zM (by omega) (by omega);have q8:1*1<=P*sa:=y4 h2 h1 (by omega) (by omega);rw[aG]at k3;omega
def QN(X Y Z:Int->Int)(sa P M L k:Int):ah aH:=
 if¬sa=(0:Int)then if¬sa=(0:Int)then bif O (k<L)then if¬P=(0:Int)then Hs X Y Z sa P M (i64.wrap (k+i64.wrap (i64.wrap ((i64.wrap (i64.wrap (i64.wrap (L-k)+P)-1)).tdiv P)*P)))else V else Hs X Y Z sa P M k else V else V
def Df{X Y Z:Int->Int}{sa P M L k:Int}(h1:1<=sa)(h2:1<=P)(h3:0<=k)(hk:k<P)(hP:P<=4398046511104)(h4:M<=4398046511104)(h5:M*sa<=4398046511104)(hL:0<=L)(hL2:L<=4398046511104):
  ∃c,QN X Y Z sa P M L k=Q c/\(fB c=I↔∃j,L<=j/\j<=M/\P∣j-k):=by
 unfold QN;rw[gG,gG];by_cases c:k<L
 ·have q0:0<=(L-k+P-1)/P:=zX (by omega) (by omega);have q2:(L-k+P-1)/P*P<=L-k+P-1:=y9 _ (by omega);have q1:(L-k+P-1)/P<=L-k+P-1:=yg _ (by omega);have q3:0<=(L-k+P-1)/P*P:=zB q0 (by omega);have q4:=w9 (L-k+P-1) (show 0<P by omega);rw[zQ,zU]at q4;rw[bQ c,bC,gG,aG (n:=L-k),aG (n:=L-k+P),aG (n:=L-k+P-1),j5,aG (n:=(L-k+P-1)/P),aG (n:=(L-k+P-1)/P*P),aG (n:=k+(L-k+P-1)/P*P)];obtain⟨r,e,hr⟩:=FE (X:=X) (Y:=Y) (Z:=Z) (K:=k+(L-k+P-1)/P*P) h1 h2 (by omega) h4 h5;refine⟨r,e,?_⟩;rw[hr];constructor
  ·intro hd;have:=of_decide_eq_false hd;exact⟨k+(L-k+P-1)/P*P,by omega,by omega,by rw[show k+(L-k+P-1)/P*P-k=(L-k+P-1)/P*P by omega];exact xz ..⟩
  ·rintro⟨j,j1,j2,t,j3⟩;rw[zG]at j3;refine bP ?_;have:(L-k+P-1)/P<=t:=by
    have:(L-k+P-1)/P<t+1:=wN (a:=P) (by rw[zQ,zU];omega) (by omega);omega
   have:=zM this (show 0<=P by omega);omega
 ·rw[bP c,bz];obtain⟨r,e,hr⟩:=FE (X:=X) (Y:=Y) (Z:=Z) (K:=k) h1 h2 h3 h4 h5;refine⟨r,e,?_⟩;rw[hr];constructor
  ·intro hd;have:=of_decide_eq_false hd;exact⟨k,by omega,by omega,⟨0,by omega⟩⟩
  ·rintro⟨j,j1,j2,t,j3⟩;rw[zG]at j3;refine bP ?_;have:0<=t:=Decidable.byContradiction λh=>by
    have:t*P<= -1*P:=zM (by omega) (by omega);omega
   have:=zB this (show 0<=P by omega);omega
def lR{a b:aH}(ha:NN a)(hb:NN b)(h1:1<=a.aj)(x:Int):(bk a x/\bk b x)↔∃j:Int,x=a.ag+j*a.aj/\max a.ag b.ag<=x/\x<=min a.af b.af/\b.aj∣j*a.aj-(b.ag-a.ag):=by
 constructor
 ·rintro⟨⟨x1,x2,j,x3⟩,⟨z1,z2,z3⟩⟩;rw[zG]at x3;exact⟨j,by omega,by omega,by omega,by rw[<-x3,show x-a.ag-(b.ag-a.ag)=x-b.ag by omega];exact z3⟩
 ·rintro⟨j,e,h2,h3,h4⟩;refine⟨⟨by omega,by omega,⟨j,by rw[zG];omega⟩⟩,⟨by omega,by omega,?_⟩⟩;rw[show x-b.ag=j*a.aj-(b.ag-a.ag)by omega];exact h4
def m9{lo s x low high j:Int}(hs:1<=s)(hl:lo<=low)(hx:x=lo+j*s):(low<=x/\x<=high)↔((low-lo+s-1)/s<=j/\j<=(high-lo)/s):=by
 have q2:(low-lo+s-1)/s*s<=low-lo+s-1:=y9 _ (by omega);have q4:=w9 (low-lo+s-1) (show 0<s by omega);rw[zQ,zU]at q4;constructor
 ·rintro⟨h1,h2⟩;refine⟨?_,Int.le_ediv_of_mul_le (by omega) (by omega)⟩;have:(low-lo+s-1)/s<j+1:=wN (a:=s) (by rw[zQ,zU];omega) (by omega);omega
 ·rintro⟨h1,h2⟩;have k1:=zM h1 (show 0<=s by omega);have k2:j*s<=high-lo:=y7 (zM h2 (by omega)) (y9 _ (by omega));exact⟨by omega,by omega⟩
def ab3{a b:aH}(ha:NN a)(hb:NN b)(h1:1<=a.aj)(h2:1<=b.aj):∃c,ab4 a b=Q c/\(fB c=I↔∃x,bk a x/\bk b x):=by
 have a1:=ha.lo;have a2:=ha.hi;have a3:=ha.le;have a4:=ha.sle;have b1:=hb.lo;have b2:=hb.hi;have b3:=hb.le;have b4:=hb.sle;have g0:=lM a.aj b.aj;have gl:=j9 a.aj b.aj;have gr:=qT a.aj b.aj;have gpos:1<=cj a.aj b.aj:=by
  rcases (show cj a.aj b.aj=0\/1<=cj a.aj b.aj by omega)with z|z
  ·rw[z]at gl;have:=xX.mp gl;omega
  ·exact z
 have hcop:yD (a.aj/cj a.aj b.aj) (b.aj/cj a.aj b.aj)=1:=Int.gcd_ediv_gcd_ediv_gcd (show 0<yD a.aj b.aj by unfold cj at gpos;omega);unfold ab4;rw[CN (by omega) (by omega)];simp only;generalize cj a.aj b.aj=g at*;rw[show (if b.af<a.af then b.af else a.af)=min a.af b.af by split<;>omega,show (if a.ag<b.ag then b.ag else a.ag)=max a.ag b.ag by split<;>omega];by_cases c1:min a.af b.af<max a.ag b.ag
 ·rw[bQ c1];refine⟨cy,rfl,?_⟩;rw[iW];exact⟨λk=>(by cases k),λ⟨x,x1,x2⟩=>by have:=x1.1;have:=x1.2.1;have:=x2.1;have:=x2.2.1;omega⟩
 ·rw[bP c1,bz,bt (show ¬@Eq Int g 0 by omega),aG (n:=b.ag-a.ag)];simp only;by_cases c2:(b.ag-a.ag).tmod g=0
  ·rw[bQ c2];simp only[bC,bz];have eA:i64.wrap (a.aj.tdiv g)=a.aj/g:=by
    have:=yg (a:=a.aj) g (by omega);have:=zX (a:=a.aj) (b:=g) (by omega) (by omega);rw[j5,aG]
   have eP:i64.wrap (b.aj.tdiv g)=b.aj/g:=by
    have:=yg (a:=b.aj) g (by omega);have:=zX (a:=b.aj) (b:=g) (by omega) (by omega);rw[j5,aG]
   have mA:a.aj/g*g=a.aj:=wB gl;have mP:b.aj/g*g=b.aj:=wB gr;have hA0:0<=a.aj/g:=zX (by omega) (by omega);have hA1:a.aj/g<=a.aj:=yg _ (by omega);have hP1:b.aj/g<=b.aj:=yg _ (by omega);have hP0:1<=b.aj/g:=by
    have:0<=b.aj/g:=zX (by omega) (by omega);rcases (show b.aj/g=0\/1<=b.aj/g by omega)with z|z
    ·rw[z,xV]at mP;omega
    ·exact z
   rw[eA,eP];obtain⟨D,hD⟩:=Int.dvd_of_tmod_eq_zero c2;have eD:(b.ag-a.ag).tdiv g=D:=by rw[hD];exact Int.mul_tdiv_cancel_left _ (by omega)
   have dnat:D.natAbs<=(b.ag-a.ag).natAbs:=by rw[<-eD,Int.natAbs_tdiv];exact Nat.div_le_self _ _
   rw[eD];generalize a.aj/g=A at*;generalize b.aj/g=P at*;have el:i64.wrap (i64.wrap (i64.wrap (max a.ag b.ag-a.ag)+a.aj)-1)=max a.ag b.ag-a.ag+a.aj-1:=by
    rw[aG (n:=max a.ag b.ag-a.ag),aG (n:=max a.ag b.ag-a.ag+a.aj),aG]
   have l0:0<=(max a.ag b.ag-a.ag+a.aj-1)/a.aj:=zX (by omega) (by omega);have l1:(max a.ag b.ag-a.ag+a.aj-1)/a.aj<=max a.ag b.ag-a.ag+a.aj-1:=yg _ (by omega);have h0:0<=(min a.af b.af-a.ag)/a.aj:=zX (by omega) (by omega);have hh1:(min a.af b.af-a.ag)/a.aj<=min a.af b.af-a.ag:=yg _ (by omega);have hh2:(min a.af b.af-a.ag)/a.aj*a.aj<=min a.af b.af-a.ag:=y9 _ (by omega);rw[el,aG (n:=min a.af b.af-a.ag),j5 (a:=max a.ag b.ag-a.ag+a.aj-1) (by omega),j5 (a:=min a.af b.af-a.ag) (by omega),
    aG (n:=(max a.ag b.ag-a.ag+a.aj-1)/a.aj),aG (n:=(min a.af b.af-a.ag)/a.aj)]
   have cm:∀k,P∣k*A-D↔b.aj∣k*a.aj-(b.ag-a.ag):=λk=>by
    have e:k*a.aj-(b.ag-a.ag)=(k*A-D)*g:=by rw[hD,<-mA,yu,zS,zG D g]
    rw[e,<-mP];exact⟨λh=>Int.mul_dvd_mul_right _ h,λh=>Int.dvd_of_mul_dvd_mul_right (by omega) h⟩
   have fin:∀k0,(∀k,P∣k*A-D↔P∣k-k0)->((∃j,(max a.ag b.ag-a.ag+a.aj-1)/a.aj<=j/\j<=(min a.af b.af-a.ag)/a.aj/\P∣j-k0)↔∃x,bk a x/\bk b x):=λk0 hk=>by
    constructor
    ·rintro⟨j,j1,j2,j3⟩;have r:=(m9 (lo:=a.ag) (s:=a.aj) (low:=max a.ag b.ag) (high:=min a.af b.af) (j:=j) h1 (by omega) rfl).mpr ⟨j1,j2⟩;exact⟨_,(lR ha hb h1 _).mpr ⟨j,rfl,r.1,r.2,(cm j).mp ((hk j).mpr j3)⟩⟩
    ·rintro⟨x,hx⟩;obtain⟨j,e,x1,x2,x3⟩:=(lR ha hb h1 x).mp hx;have r:=(m9 (lo:=a.ag) (s:=a.aj) (low:=max a.ag b.ag) (high:=min a.af b.af) (j:=j) h1 (by omega) e).mp ⟨x1,x2⟩;exact⟨j,r.1,r.2,(hk j).mp ((cm j).mpr x3)⟩
   rw[bt (show ¬@Eq Int g 0 by omega)];by_cases c3:1<P
   ·rw[bQ c3,bC,bt (show ¬@Eq Int g 0 by omega),gG,gG,bt (show ¬@Eq Int g 0 by omega),gG];have m0:=yU A (b:=P) (by omega);have m1:=yY A (b:=P) (by omega);have hg:yD (A%P) P=1:=by
     have:=pS (a:=A) (b:=P) hA0 (by omega);rw[kD hA0]at this;rw[Int.gcd_comm,this,hcop]
    obtain⟨v,e1,v0,v1,v2⟩:=ZW (x:=A%P) (m:=P) m0 (by omega) (by omega) hg;rw[kD hA0,e1];simp only;obtain⟨f1,f2,f3,f4⟩:=Wb (x:=D) (m:=P) (by omega);have d0:=yU D (b:=P) (by omega);have d1:=yY D (b:=P) (by omega);rw[aG (n:=D),aG (n:=D.tmod P+P),f1,amX d0 d1 v0 v1 (by omega)];simp only;have k0:=yU (D%P*v) (b:=P) (by omega);have k1:=yY (D%P*v) (b:=P) (by omega);have vA:P∣v*A-1:=by
     have e:=yT A P;have t:v*A-1=v*(A%P)-1+P*(v*(A/P)):=by
      conv=>lhs;rw[<-e]
      rw[yZ,Int.mul_left_comm v P];omega
     rw[t];exact yW v2 (xB ..)
    have hk:∀k,P∣k*A-D↔P∣k-D%P*v%P:=λk=>by
     have e1:P∣D*v-D%P*v%P:=by
      have t1:=yT (D%P*v) P;have t2:=yT D P;have:D*v-D%P*v%P=P*(D/P*v)+P*(D%P*v/P):=by
       have:D*v=P*(D/P*v)+D%P*v:=by
        conv=>lhs;rw[<-t2]
        rw[zQ,zS]
       omega
      rw[this];exact yW (xB ..) (xB ..)
     constructor
     ·intro h;have t:=yw (zZ h (xB _ v)) (zZ vA (xB _ k));have t2:(k*A-D)*v-(v*A-1)*k=k-D*v:=by
       rw[yu,yu,zU,zS,zG (v*A) k,zG A v];omega
      rw[t2]at t;have:=yW t e1
      rwa [show k-D*v+(D*v-D%P*v%P)=k-D%P*v%P by omega]at this
     ·intro h;have t:=yw h e1;rw[show k-D%P*v%P-(D*v-D%P*v%P)=k-D*v by omega]at t;have t2:=yW (zZ t (xB _ A)) (zZ vA (xB _ D));have t3:(k-D*v)*A+(v*A-1)*D=k*A-D:=by
       rw[yu,yu,zU,zS,zG (v*A) D];omega
      rwa [t3]at t2
    obtain⟨c,e,hc⟩:=Df (X:=λK=>i64.wrap (a.ag+i64.wrap (K*a.aj))) (Y:=λK=>i64.wrap (a.ag+i64.wrap (K*a.aj))) (Z:=λK=>i64.wrap (a.ag+i64.wrap (i64.wrap (K+i64.wrap (i64.wrap ((i64.wrap ((min a.af b.af-a.ag)/a.aj-K)).tdiv P)*P))*a.aj)))
     h1 hP0 k0 k1 (by omega) (M:=(min a.af b.af-a.ag)/a.aj) (by omega) (by omega) l0 (by omega)
    exact⟨c,e,hc.trans (fin _ hk)⟩
   ·have p1:P=1:=by omega
    rw[bP c3,bz];obtain⟨c,e,hc⟩:=Df (X:=λK=>i64.wrap (a.ag+i64.wrap (K*a.aj))) (Y:=λK=>i64.wrap (a.ag+i64.wrap (K*a.aj))) (Z:=λK=>i64.wrap (a.ag+i64.wrap (i64.wrap (K+i64.wrap (i64.wrap ((i64.wrap ((min a.af b.af-a.ag)/a.aj-K)).tdiv P)*P))*a.aj)))
     h1 hP0 (k:=0) (by omega) (by omega) (by omega) (M:=(min a.af b.af-a.ag)/a.aj) (by omega) (by omega) l0 (by omega)
    exact⟨c,e,hc.trans (fin 0 λk=>by subst p1;exact⟨λ_=>Int.one_dvd _,λ_=>Int.one_dvd _⟩)⟩
  ·rw[bP c2];refine⟨cy,rfl,?_⟩;rw[iW];refine⟨λk=>(by cases k),λ⟨x,hx⟩=> ?_⟩;obtain⟨j,e,x1,x2,x3⟩:=(lR ha hb h1 x).mp hx;exfalso;apply c2;have k1:=zZ gr x3;have k2:=yw (zZ gl (xz j _)) k1;rw[show j*a.aj-(j*a.aj-(b.ag-a.ag))=b.ag-a.ag by omega]at k2;exact Int.tmod_eq_zero_of_dvd k2
def D6{a:aH}(h:NN a)(h0:a.aj=0)(x:Int):bk a x↔x=a.ag:=by
 constructor
 ·rintro⟨h1,h2,h3⟩;rw[h0]at h3;have:=xX.mp h3;omega
 ·rintro rfl;exact di h
def EW{M:aH->aH->ah aH}{a b:aH}(ha:NN a)(hb:NN b)(h0:a.aj=0):∃c,um M a b=Q c/\(fB c=I↔∃x,bk a x/\bk b x):=by
 unfold um;rw[eR ha.ne,eR hb.ne];simp only[bz];rw[bQ h0,bC,Hr (.inr hb)];simp only;by_cases h:bk b a.ag
 ·rw[e9 h];exact⟨a,rfl,λ_=>⟨_,di ha,h⟩,λ_=>eR ha.ne⟩
 ·rw[jz h];refine⟨cy,rfl,λk=> ?_,λ⟨x,h1,h2⟩=> ?_⟩
  ·rw[iW]at k;cases k
  ·rw[(D6 ha h0 x).mp h1]at h2;exact cR h2 h
def aeX{a b:aH}(ha:NN a)(hb:NN b):∃c,aeU a b=Q c/\(fB c=I↔∃x,bk a x/\bk b x):=by
 have cm:(∃x,bk b x/\bk a x)↔∃x,bk a x/\bk b x:=⟨λ⟨x,h1,h2⟩=>⟨x,h2,h1⟩,λ⟨x,h1,h2⟩=>⟨x,h2,h1⟩⟩;have s0:=ha.s0;have t0:=hb.s0;by_cases h0:a.aj=0
 ·obtain⟨c,e,h⟩:=EW (M:=λ_ _=>V) ha hb h0;refine⟨c,eT 1 λn hn=> ?_,h⟩;obtain⟨k,rfl⟩:∃k,n=k+1:=⟨n-1,by omega⟩;obtain⟨c',e',h'⟩:=EW (M:=BB k) ha hb h0;have:um (BB k) a b=um (λ_ _=>V) a b:=by
   unfold um;rw[eR ha.ne,eR hb.ne];simp only[bz];rw[bQ h0];simp only[bC]
  exact this.trans e
 ·by_cases k0:b.aj=0
  ·obtain⟨c,e,h⟩:=EW (M:=λ_ _=>V) hb ha k0;refine⟨c,eT 2 λn hn=> ?_,h.trans cm⟩;obtain⟨k,rfl⟩:∃k,n=k+1+1:=⟨n-2,by omega⟩;have:um (BB k) b a=um (λ_ _=>V) b a:=by
    unfold um;rw[eR ha.ne,eR hb.ne];simp only[bz];rw[bQ k0];simp only[bC]
   have e1:BB (k+1) b a=Q c:=this.trans e;show um (BB (k+1)) a b=Q c;unfold um;rw[eR ha.ne,eR hb.ne];simp only[bz];rw[bP h0,bz,bQ k0,bC,e1]
  ·obtain⟨c,e,h⟩:=ab3 ha hb (by omega) (by omega);refine⟨c,eT 1 λn hn=> ?_,h⟩;obtain⟨k,rfl⟩:∃k,n=k+1:=⟨n-1,by omega⟩;show um (BB k) a b=Q c;unfold um;rw[eR ha.ne,eR hb.ne];simp only[bz];rw[bP h0,bz,bP k0,bz,e]
def R3{a:aH}(h:NN a)(k:1<bW a):1<=a.aj:=by
 have:=eN h;have:=h.le;rcases h.st with ⟨e,_⟩|⟨_,e,_⟩
 ·have:=(eN h).mpr e;omega
 ·exact e
def early{a b:aH}(ha:NN a)(hb:NN b)(h1:1<=a.aj)(h2:1<=b.aj){low high:Int}(el:low=max a.ag b.ag)(eh:high=min a.af b.af):
  (∃x,bk a x/\bk b x)↔∃k:Nat,(k:Int)<b.aj/cj a.aj b.aj/\a.ag+((low-a.ag+a.aj-1)/a.aj)*a.aj+(k:Int)*a.aj<=high/\bk b (a.ag+((low-a.ag+a.aj-1)/a.aj)*a.aj+(k:Int)*a.aj):=by
 have gl:=j9 a.aj b.aj;have gr:=qT a.aj b.aj;have g0:=lM a.aj b.aj;have mP:b.aj/cj a.aj b.aj*cj a.aj b.aj=b.aj:=wB gr;have gpos:1<=cj a.aj b.aj:=by
  rcases (show cj a.aj b.aj=0\/1<=cj a.aj b.aj by omega)with z|z
  ·rw[z]at gl;have:=xX.mp gl;omega
  ·exact z
 have hP0:1<=b.aj/cj a.aj b.aj:=by
  have:0<=b.aj/cj a.aj b.aj:=zX (by omega) (by omega);rcases (show b.aj/cj a.aj b.aj=0\/1<=b.aj/cj a.aj b.aj by omega)with z|z
  ·rw[z,xV]at mP;omega
  ·exact z
 have per:b.aj∣b.aj/cj a.aj b.aj*a.aj:=by
  obtain⟨q,hq⟩:=gl;generalize cj a.aj b.aj=g at*;rw[hq,<-zS,mP];exact xB ..
 generalize b.aj/cj a.aj b.aj=P at*;subst el eh;generalize hL:(max a.ag b.ag-a.ag+a.aj-1)/a.aj=L;constructor
 ·rintro⟨x,hx⟩;obtain⟨j,e,x1,x2,x3⟩:=(lR ha hb h1 x).mp hx;have r:=(m9 (lo:=a.ag) (s:=a.aj) (low:=max a.ag b.ag) (high:=min a.af b.af) (j:=j) h1 (by omega) e).mp ⟨x1,x2⟩;rw[hL]at r;have m0:=yU (j-L) (b:=P) (by omega);have m1:=yY (j-L) (b:=P) (by omega);have m2:=yT (j-L) P;have q0:0<=(j-L)/P:=zX (by omega) (by omega);have ex:a.ag+L*a.aj+(j-L)%P*a.aj=x-(j-L)/P*(P*a.aj):=by
   have:j*a.aj=(P*((j-L)/P)+(j-L)%P+L)*a.aj:=by congr 1;omega
   rw[zQ,zQ,zG P,zS]at this;omega
  have hp:0<=(j-L)/P*(P*a.aj):=zB q0 (zB (by omega) (by omega));have r2:=(m9 (lo:=a.ag) (s:=a.aj) (low:=max a.ag b.ag) (high:=min a.af b.af) (x:=a.ag+(L+(j-L)%P)*a.aj) (j:=L+(j-L)%P) h1 (by omega) rfl).mpr
   ⟨by rw[hL];omega,by
    have:(j-L)%P<=j-L:=by
     have:=zB (show 0<=P by omega) q0;omega
    omega⟩
  rw[zQ,<-Int.add_assoc]at r2;refine⟨((j-L)%P).toNat,by omega,?_⟩;rw[Int.toNat_of_nonneg m0];refine⟨r2.2,by omega,by omega,?_⟩;rw[ex,show x-(j-L)/P*(P*a.aj)-b.ag=x-b.ag-(j-L)/P*(P*a.aj)by omega];exact yw hx.2.2.2 (zZ per (xz ..))
 ·rintro⟨k,k1,k2,k3⟩;have e:a.ag+L*a.aj+(k:Int)*a.aj=a.ag+(L+(k:Int))*a.aj:=by rw[zQ];omega
  rw[e]at k2 k3;have l0:=(m9 (lo:=a.ag) (s:=a.aj) (low:=max a.ag b.ag) (high:=a.ag+(L+(k:Int))*a.aj) (x:=a.ag+(L+(k:Int))*a.aj) (j:=L+(k:Int)) h1 (by omega) rfl).mpr
   ⟨by rw[hL];omega,by rw[show a.ag+(L+(k:Int))*a.aj-a.ag=(L+(k:Int))*a.aj by omega,Int.mul_ediv_cancel _ (by omega)];exact zm _⟩
  exact⟨_,(lR ha hb h1 _).mpr ⟨_,rfl,l0.1,k2,by
   have:=k3.2.2
   rwa [show a.ag+(L+(k:Int))*a.aj-b.ag=(L+(k:Int))*a.aj-(b.ag-a.ag)by omega]at this⟩⟩
def M0{g P k n high sb:Int}(hg:1<=g)(hP:i64.wrap (sb.tdiv g)=P):(if¬g=(0:Int)then bif O (k<i64.wrap (sb.tdiv g))then Q (O (n<=high))else Q I else V)=Q (O (k<P/\n<=high)):=by
 rw[gG,hP];by_cases c:k<P
 ·rw[bQ c,bC];by_cases d:n<=high
  ·rw[bQ d,bQ ⟨c,d⟩]
  ·rw[bP d,bP (λe=>d e.2)]
 ·rw[bP c,bz,bP (λe=>c e.1)]
def aav{M:aH->aH->ah Bool}{a b:aH}(hb:NN b){g P high n0:Int}(hg:1<=g)(hP:i64.wrap (b.aj.tdiv g)=P)(hP1:P<=4398046511104)(hs:1<=a.aj)(hs2:a.aj<=4398046511104)(hh:high<=1099511627776)(hn: -1099511627776<=n0)(hP0:0<=P):
  (match tG M (jM.mk high g n0 0 a b)with
   |none=>V
   |some r10=>match if¬r10.t7=(0:Int)then bif O (r10.t9<i64.wrap (r10.b1.aj.tdiv r10.t7))then Q (O (r10.t8<=r10.t6))else Q I else V with
    |none=>V
    |some r11=>bif r11 then match m32 r10.b1 r10.t8 with
     |none=>V
     |some r12=>bif r12 then Q G else V
     else Q I)=Q (open Classical in O (∃k:Nat,(k:Int)<P/\n0+(k:Int)*a.aj<=high/\bk b (n0+(k:Int)*a.aj))):=by
 obtain⟨z,e1,⟨k,rfl,hk,hI⟩,hstop⟩:=lS (cL:=Ao M) (λp=>∃k:Nat,p=jM.mk high g (n0+(k:Int)*a.aj) (k:Int) a b/\(k:Int)<=P/\∀i:Nat,i<k->¬bk b (n0+(i:Int)*a.aj))
  (λp=>(P-p.t9).toNat) (λp p' ⟨k,hp,hk,hI⟩ hq=>by
   subst hp;have hq:Ao M (jM.mk high g (n0+(k:Int)*a.aj) (k:Int) a b)=Q (Q p'):=hq;unfold Ao at hq;simp only at hq;rw[M0 hg hP]at hq;by_cases c:(k:Int)<P/\n0+(k:Int)*a.aj<=high
   ·rw[bQ c]at hq;simp only[bC]at hq;rw[oh (.inr hb)]at hq;simp only at hq;by_cases d:bk b (n0+(k:Int)*a.aj)
    ·rw[e9 d]at hq;cases hq
    ·rw[jz d]at hq;have k0:0<=(k:Int)*a.aj:=zB (by omega) (by omega);rw[bz,aG (n:=n0+(k:Int)*a.aj+a.aj),aG (n:=(k:Int)+1)]at hq;simp only[zO.injEq]at hq;subst hq;refine⟨⟨k+1,?_,by omega,λi hi=> ?_⟩,by show (P-((k:Int)+1)).toNat<(P-(k:Int)).toNat;omega⟩
     ·rw[show ((k+1:Nat):Int)=(k:Int)+1 by omega,zQ,zU,Int.add_assoc]
     ·rcases y8.mp hi with q|rfl
      ·exact hI i q
      ·exact d
   ·rw[bP c]at hq;cases hq) (p:=jM.mk high g n0 0 a b) ⟨0,by simp,by simpa using hP0,λi hi=>cR hi (yK _)⟩
 rw[show tG M=bJ (Ao M)from rfl,e1];simp only;rw[M0 hg hP];by_cases c:(k:Int)<P/\n0+(k:Int)*a.aj<=high
 ·rw[bQ c];simp only[bC];rw[oh (.inr hb)];simp only;by_cases d:bk b (n0+(k:Int)*a.aj)
  ·rw[e9 d,bC]
   congr 1
   exact(@decide_eq_true _ (Classical.propDecidable _) ⟨k,c.1,c.2,d⟩).symm
  ·exfalso;refine hstop (jM.mk high g (i64.wrap (n0+(k:Int)*a.aj+a.aj)) (i64.wrap ((k:Int)+1)) a b) ?_;unfold Ao;simp only;rw[M0 hg hP,bQ c];simp only[bC];rw[oh (.inr hb),jz d];rfl
 ·rw[bP c];simp only[bz]
  congr 1
  refine(@decide_eq_false _ (Classical.propDecidable _) ?_).symm;rintro⟨i,i1,i2,i3⟩;rcases Nat.lt_or_ge i k with q|q
  ·exact hI i q i3
  ·apply c;have:(k:Int)*a.aj<=(i:Int)*a.aj:=zM (by omega) (by omega);exact⟨by omega,by omega⟩
def iK(a b:aH):Bool:=open Classical in O (∃x,bk a x/\bk b x)
def jd{a b:aH}:iK a b=G↔∃x,bk a x/\bk b x:=by unfold iK;exact @decide_eq_true_iff _ (Classical.propDecidable _)
def n8{a b:aH}(h:¬∃x,bk a x/\bk b x):iK a b=I:=by
 cases e:iK a b with
 |false=>rfl
 |true=>exact cR (jd.mp e) h
def O2(a b:aH):iK a b=iK b a:=by
 by_cases h:∃x,bk a x/\bk b x
 ·obtain⟨x,h1,h2⟩:=h;rw[jd.mpr ⟨x,h1,h2⟩,jd.mpr ⟨x,h2,h1⟩]
 ·rw[n8 h,n8 (λ⟨x,h1,h2⟩=>h ⟨x,h2,h1⟩)]
def BR{M:aH->aH->ah Bool}{a b:aH}(ha:NN a)(hb:NN b)(h1:1<=a.aj)(h2:1<=b.aj){low high:Int}(el:low=max a.ag b.ag)(eh:high=min a.af b.af):
  (match Ez a.aj b.aj with
   |none=>V
   |some r8=>match bif O (high<low)then Q G else if¬r8=(0:Int)then Q (bif O (Int.tmod (ke a.ag b.ag) r8=0)then I else G)else V with
    |none=>V
    |some r9=>bif r9 then Q I else if¬a.aj=(0:Int)then
     match tG M (jM.mk high r8 (i64.wrap (a.ag+i64.wrap (i64.wrap ((i64.wrap (i64.wrap (i64.wrap (low-a.ag)+a.aj)-1)).tdiv a.aj)*a.aj))) 0 a b)with
     |none=>V
     |some r10=>match if¬r10.t7=(0:Int)then bif O (r10.t9<i64.wrap (r10.b1.aj.tdiv r10.t7))then Q (O (r10.t8<=r10.t6))else Q I else V with
      |none=>V
      |some r11=>bif r11 then match m32 r10.b1 r10.t8 with
       |none=>V
       |some r12=>bif r12 then Q G else V
       else Q I
     else V)=Q (iK a b):=by
 have a1:=ha.lo;have a2:=ha.hi;have a3:=ha.le;have a4:=ha.sle;have b1:=hb.lo;have b2:=hb.hi;have b3:=hb.le;have b4:=hb.sle;have gl:=j9 a.aj b.aj;have gr:=qT a.aj b.aj;have g0:=lM a.aj b.aj;have gpos:1<=cj a.aj b.aj:=by
  rcases (show cj a.aj b.aj=0\/1<=cj a.aj b.aj by omega)with z|z
  ·rw[z]at gl;have:=xX.mp gl;omega
  ·exact z
 have hE:=early ha hb h1 h2 el eh;rw[Cw (by omega) (by omega)];simp only;by_cases c1:high<low
 ·rw[bQ c1,n8 (λ⟨x,x1,x2⟩=>by have:=x1.1;have:=x1.2.1;have:=x2.1;have:=x2.2.1;omega)];rfl
 ·rw[bP c1,bz,bt (show ¬@Eq Int (cj a.aj b.aj) 0 by omega)];simp only;by_cases c2:Int.tmod (ke a.ag b.ag) (cj a.aj b.aj)=0
  ·rw[bQ c2];simp only[bC,bz];have l1:(low-a.ag+a.aj-1)/a.aj<=low-a.ag+a.aj-1:=yg _ (by omega);have l0:0<=(low-a.ag+a.aj-1)/a.aj:=zX (by omega) (by omega);have l2:(low-a.ag+a.aj-1)/a.aj*a.aj<=low-a.ag+a.aj-1:=y9 _ (by omega);have l3:0<=(low-a.ag+a.aj-1)/a.aj*a.aj:=zB l0 (by omega);have p0:0<=b.aj/cj a.aj b.aj:=zX (by omega) (by omega);have p1:b.aj/cj a.aj b.aj<=b.aj:=yg _ (by omega);have eP:i64.wrap (b.aj.tdiv (cj a.aj b.aj))=b.aj/cj a.aj b.aj:=by
    rw[j5,aG]
   rw[gG,aG (n:=low-a.ag),aG (n:=low-a.ag+a.aj),aG (n:=low-a.ag+a.aj-1),j5,
    aG (n:=(low-a.ag+a.aj-1)/a.aj),aG (n:=(low-a.ag+a.aj-1)/a.aj*a.aj),aG (n:=a.ag+(low-a.ag+a.aj-1)/a.aj*a.aj)]
   refine(aav hb gpos eP (by omega) h1 (by omega) (by omega) (by omega) p0).trans ?_
   congr 1
   by_cases h:∃x,bk a x/\bk b x
   ·rw[jd.mpr h];exact @decide_eq_true _ (Classical.propDecidable _) (hE.mp h)
   ·rw[n8 h];exact @decide_eq_false _ (Classical.propDecidable _) (λk=>h (hE.mpr k))
  ·have hno:¬∃x,bk a x/\bk b x:=by
    rintro⟨x,x1,x2⟩;apply c2;have k1:=zZ gl x1.2.2;have k2:=zZ gr x2.2.2;have k3:=yw k2 k1;rw[show x-b.ag-(x-a.ag)=a.ag-b.ag by omega]at k3;apply Int.tmod_eq_zero_of_dvd;obtain⟨r1,r2⟩:=ha.oV;obtain⟨r3,r4⟩:=hb.oV;unfold ke;by_cases c:a.ag<b.ag
    ·rw[bQ c,bC,aG];have:=Int.dvd_neg.mpr k3
     rwa [show-(a.ag-b.ag)=b.ag-a.ag by omega]at this
    ·rw[bP c,bz,aG];exact k3
   rw[bP c2,n8 hno];rfl
def Tf{M:aH->aH->ah Bool}{a b:aH}(ha:NN a)(hb:NN b)(hs:bW a<=bW b):Zk M a b=Q (iK a b):=by
 unfold Zk;rw[gx (.inr ha),gx (.inr hb)];simp only;rw[bP (show ¬@LT.lt Int _ (bW b) (bW a)by omega),bz];have hp:=size_pos ha;by_cases c:bW a=1
 ·rw[bQ c,bC,oh (.inr hb)];simp only
  congr 1
  have e:=(eN ha).mp c;have s:a.aj=0:=by rcases ha.st with k|k;exact k.2;omega
  by_cases h:bk b a.ag
  ·rw[e9 h,jd.mpr ⟨_,di ha,h⟩]
  ·rw[jz h,n8 (λ⟨x,x1,x2⟩=>h (by rw[<-(D6 ha s x).mp x1];exact x2))]
 ·rw[bP c,bz];have h1:=R3 ha (by omega);have h2:=R3 hb (by omega);by_cases d:a.ag<b.ag<;>by_cases e:b.af<a.af
  ·rw[bQ d,bQ e];exact BR ha hb h1 h2 (by omega) (by omega)
  ·rw[bQ d,bP e];exact BR ha hb h1 h2 (by omega) (by omega)
  ·rw[bP d,bQ e];exact BR ha hb h1 h2 (by omega) (by omega)
  ·rw[bP d,bP e];exact BR ha hb h1 h2 (by omega) (by omega)
def af7{a b:aH}(ha:NN a)(hb:NN b):amR a b=Q (iK a b):=eT 2 λn hn=>by
 obtain⟨k,rfl⟩:∃k,n=k+1+1:=⟨n-2,by omega⟩;by_cases hs:bW a<=bW b
 ·exact Tf (M:=Gr (k+1)) ha hb hs
 ·have e1:Gr (k+1) b a=Q (iK b a):=Tf (M:=Gr k) hb ha (by omega);show Zk (Gr (k+1)) a b=_;unfold Zk;rw[gx (.inr ha),gx (.inr hb)];simp only;rw[bQ (show @LT.lt Int _ (bW b) (bW a)by omega),bC,e1,O2]
def kG(a b:aH):Bool:=O (1<bW a)||O (1<bW b)||O (a.ag≠b.ag)
def q9{a:aH}(h:NN a)(k:¬1<bW a):a.ag=a.af:=(eN h).mp (by have:=size_pos h;omega)
def Gl{a b:aH}(ha:NN a)(hb:NN b):kG a b=G↔∃x z,bk a x/\bk b z/\x≠z:=by
 have a3:=ha.le;have b3:=hb.le;unfold kG;by_cases c1:1<bW a
 ·rw[bQ c1];refine⟨λ_=> ?_,λ_=>rfl⟩;have:a.ag≠a.af:=λe=>by have:=(eN ha).mpr e;omega
  by_cases e:a.ag=b.ag
  ·exact⟨_,_,gA ha,di hb,by omega⟩
  ·exact⟨_,_,di ha,di hb,e⟩
 ·by_cases c2:1<bW b
  ·rw[bP c1,bQ c2];refine⟨λ_=> ?_,λ_=>rfl⟩;have:b.ag≠b.af:=λe=>by have:=(eN hb).mpr e;omega
   by_cases e:a.ag=b.ag
   ·exact⟨_,_,di ha,gA hb,by omega⟩
   ·exact⟨_,_,di ha,di hb,e⟩
  ·have e1:=q9 ha c1;have e2:=q9 hb c2;by_cases e:a.ag=b.ag
   ·rw[bP c1,bP c2,bP (λk=>k e)];exact⟨λk=>(by cases k),λ⟨x,z,hx,hz,k⟩=>by have:=hx.1;have:=hx.2.1;have:=hz.1;have:=hz.2.1;omega⟩
   ·rw[bP c1,bP c2,bQ e];exact⟨λ_=>⟨_,_,di ha,di hb,e⟩,λ_=>rfl⟩
def oS(op:Int)(a b:aH):Bool×Bool:=
 if op=13 then(kG a b,iK a b)else if op=14 then(iK a b,kG a b)
 else if op=15 then(O (b.ag<=a.af),O (a.ag<b.af))else if op=16 then(O (b.ag<a.af),O (a.ag<=b.af))
 else if op=17 then(O (a.ag<=b.af),O (b.ag<a.af))else if op=18 then(O (a.ag<b.af),O (b.ag<=a.af))
 else if op=19 then(cu a 0||cu b 0,cl a&&cl b)else(cu a 0&&cu b 0,cl a||cl b)
def uW(op:Int):Prop:=13<=op/\op<=20
def qQ(p:Bool):mK p=1↔p=true:=by cases p<;>decide
def pR(p:Bool):mK p=0↔p=false:=by cases p<;>decide
def iA{op:Int}(h:uW op):op=13\/op=14\/op=15\/op=16\/op=17\/op=18\/op=19\/op=20:=by
 obtain⟨h1,h2⟩:=h;omega
def tN{op:Int}(h:uW op)(x z:Int):fD op x z=0\/fD op x z=1:=by
 have k:∀p:Bool,mK p=0\/mK p=1:=λp=>by cases p<;>decide
 rcases iA h with rfl|rfl|rfl|rfl|rfl|rfl|rfl|rfl<;>exact k _
def RU{op:Int}{a b:aH}(h:uW op)(ha:NN a)(hb:NN b):(oS op a b).2=G↔∃x z,bk a x/\bk b z/\fD op x z=1:=by
 rcases iA h with rfl|rfl|rfl|rfl|rfl|rfl|rfl|rfl
 ·show iK a b=G↔∃x z,bk a x/\bk b z/\mK (O (x=z))=1;rw[jd];exact⟨λ⟨x,h1,h2⟩=>⟨x,x,h1,h2,by rw[qQ];exact bQ rfl⟩,λ⟨x,z,h1,h2,h3⟩=>by
   rw[qQ]at h3;have:=of_decide_eq_true h3;subst this;exact⟨x,h1,h2⟩⟩
 ·show kG a b=G↔∃x z,bk a x/\bk b z/\mK (!O (x=z))=1;rw[Gl ha hb];exact⟨λ⟨x,z,h1,h2,h3⟩=>⟨x,z,h1,h2,by rw[qQ,bP h3];rfl⟩,λ⟨x,z,h1,h2,h3⟩=>⟨x,z,h1,h2,λe=>by rw[qQ,bQ e]at h3;cases h3⟩⟩
 ·show O (a.ag<b.af)=G↔∃x z,bk a x/\bk b z/\mK (O (x<z))=1;refine⟨λk=>⟨_,_,di ha,gA hb,by rw[qQ];exact k⟩,λ⟨x,z,h1,h2,h3⟩=> ?_⟩;rw[qQ]at h3;have:=of_decide_eq_true h3;exact bQ (by have:=h1.1;have:=h2.2.1;omega)
 ·show O (a.ag<=b.af)=G↔∃x z,bk a x/\bk b z/\mK (O (x<=z))=1;refine⟨λk=>⟨_,_,di ha,gA hb,by rw[qQ];exact k⟩,λ⟨x,z,h1,h2,h3⟩=> ?_⟩;rw[qQ]at h3;have:=of_decide_eq_true h3;exact bQ (by have:=h1.1;have:=h2.2.1;omega)
 ·show O (b.ag<a.af)=G↔∃x z,bk a x/\bk b z/\mK (O (z<x))=1;refine⟨λk=>⟨_,_,gA ha,di hb,by rw[qQ];exact k⟩,λ⟨x,z,h1,h2,h3⟩=> ?_⟩;rw[qQ]at h3;have:=of_decide_eq_true h3;exact bQ (by have:=h1.2.1;have:=h2.1;omega)
 ·show O (b.ag<=a.af)=G↔∃x z,bk a x/\bk b z/\mK (O (z<=x))=1;refine⟨λk=>⟨_,_,gA ha,di hb,by rw[qQ];exact k⟩,λ⟨x,z,h1,h2,h3⟩=> ?_⟩;rw[qQ]at h3;have:=of_decide_eq_true h3;exact bQ (by have:=h1.2.1;have:=h2.1;omega)
 ·show (cl a&&cl b)=G↔∃x z,bk a x/\bk b z/\mK (O (x≠0/\z≠0))=1;rw[zn,fR (.inr ha),fR (.inr hb)];constructor
  ·rintro⟨⟨x,h1,h2⟩,⟨z,h3,h4⟩⟩;exact⟨x,z,h1,h3,by rw[qQ];exact bQ ⟨h2,h4⟩⟩
  ·rintro⟨x,z,h1,h2,h3⟩;rw[qQ]at h3;have:=of_decide_eq_true h3;exact⟨⟨x,h1,this.1⟩,⟨z,h2,this.2⟩⟩
 ·show (cl a||cl b)=G↔∃x z,bk a x/\bk b z/\mK (O (x≠0\/z≠0))=1;rw[yQ,fR (.inr ha),fR (.inr hb)];constructor
  ·rintro(⟨x,h1,h2⟩|⟨z,h3,h4⟩)
   ·exact⟨x,_,h1,di hb,by rw[qQ];exact bQ (.inl h2)⟩
   ·exact⟨_,z,di ha,h3,by rw[qQ];exact bQ (.inr h4)⟩
  ·rintro⟨x,z,h1,h2,h3⟩;rw[qQ]at h3;rcases of_decide_eq_true h3 with k|k
   ·exact .inl ⟨x,h1,k⟩
   ·exact .inr ⟨z,h2,k⟩
def XV{op:Int}{a b:aH}(h:uW op)(ha:NN a)(hb:NN b):(oS op a b).1=G↔∃x z,bk a x/\bk b z/\fD op x z=0:=by
 rcases iA h with rfl|rfl|rfl|rfl|rfl|rfl|rfl|rfl
 ·show kG a b=G↔∃x z,bk a x/\bk b z/\mK (O (x=z))=0;rw[Gl ha hb];exact⟨λ⟨x,z,h1,h2,h3⟩=>⟨x,z,h1,h2,by rw[pR];exact bP h3⟩,λ⟨x,z,h1,h2,h3⟩=>⟨x,z,h1,h2,λe=>by rw[pR,bQ e]at h3;cases h3⟩⟩
 ·show iK a b=G↔∃x z,bk a x/\bk b z/\mK (!O (x=z))=0;rw[jd];exact⟨λ⟨x,h1,h2⟩=>⟨x,x,h1,h2,by rw[pR,bQ rfl];rfl⟩,λ⟨x,z,h1,h2,h3⟩=>by
   rw[pR]at h3;by_cases e:x=z
   ·subst e;exact⟨x,h1,h2⟩
   ·rw[bP e]at h3;cases h3⟩
 ·show O (b.ag<=a.af)=G↔∃x z,bk a x/\bk b z/\mK (O (x<z))=0;refine⟨λk=>⟨_,_,gA ha,di hb,by rw[pR];exact bP (by have:=of_decide_eq_true k;omega)⟩,λ⟨x,z,h1,h2,h3⟩=> ?_⟩;rw[pR]at h3;have:=of_decide_eq_false h3;exact bQ (by have:=h1.2.1;have:=h2.1;omega)
 ·show O (b.ag<a.af)=G↔∃x z,bk a x/\bk b z/\mK (O (x<=z))=0;refine⟨λk=>⟨_,_,gA ha,di hb,by rw[pR];exact bP (by have:=of_decide_eq_true k;omega)⟩,λ⟨x,z,h1,h2,h3⟩=> ?_⟩;rw[pR]at h3;have:=of_decide_eq_false h3;exact bQ (by have:=h1.2.1;have:=h2.1;omega)
 ·show O (a.ag<=b.af)=G↔∃x z,bk a x/\bk b z/\mK (O (z<x))=0;refine⟨λk=>⟨_,_,di ha,gA hb,by rw[pR];exact bP (by have:=of_decide_eq_true k;omega)⟩,λ⟨x,z,h1,h2,h3⟩=> ?_⟩;rw[pR]at h3;have:=of_decide_eq_false h3;exact bQ (by have:=h1.1;have:=h2.2.1;omega)
 ·show O (a.ag<b.af)=G↔∃x z,bk a x/\bk b z/\mK (O (z<=x))=0;refine⟨λk=>⟨_,_,di ha,gA hb,by rw[pR];exact bP (by have:=of_decide_eq_true k;omega)⟩,λ⟨x,z,h1,h2,h3⟩=> ?_⟩;rw[pR]at h3;have:=of_decide_eq_false h3;exact bQ (by have:=h1.1;have:=h2.2.1;omega)
 ·show (cu a 0||cu b 0)=G↔∃x z,bk a x/\bk b z/\mK (O (x≠0/\z≠0))=0;rw[yQ,gL,gL];constructor
  ·rintro(h1|h1)
   ·exact⟨0,_,h1,di hb,by rw[pR];exact bP (λk=>k.1 rfl)⟩
   ·exact⟨_,0,di ha,h1,by rw[pR];exact bP (λk=>k.2 rfl)⟩
  ·rintro⟨x,z,h1,h2,h3⟩;rw[pR]at h3;have:=of_decide_eq_false h3;by_cases e:x=0
   ·subst e;exact .inl h1
   ·by_cases e2:z=0
    ·subst e2;exact .inr h2
    ·exact cR ⟨e,e2⟩ this
 ·show (cu a 0&&cu b 0)=G↔∃x z,bk a x/\bk b z/\mK (O (x≠0\/z≠0))=0;rw[zn,gL,gL];constructor
  ·rintro⟨h1,h2⟩;exact⟨0,0,h1,h2,by rw[pR];exact bP (λk=>k.elim (λe=>e rfl) (λe=>e rfl))⟩
  ·rintro⟨x,z,h1,h2,h3⟩;rw[pR]at h3;have:=of_decide_eq_false h3;by_cases e:x=0
   ·by_cases e2:z=0
    ·subst e e2;exact⟨h1,h2⟩
    ·exact cR (.inr e2) this
   ·exact cR (.inl e) this
def Nh{op:Int}{a b:aH}(h:uW op)(ha:NN a)(hb:NN b):((oS op a b).1||(oS op a b).2)=G:=by
 rw[yQ];rcases tN h a.ag b.ag with e|e
 ·exact .inl ((XV h ha hb).mpr ⟨_,_,di ha,di hb,e⟩)
 ·exact .inr ((RU h ha hb).mpr ⟨_,_,di ha,di hb,e⟩)
def MV{P:Int->Prop}{no yes:Bool}(h:∀y,P y->y=0\/y=1)(h0:no=G↔P 0)(h1:yes=G↔P 1)(ho:(no||yes)=G):cS P (gm no yes):=by
 cases no with
 |true=>
  have p0:=h0.mp rfl;cases yes with
  |true=>
   have p1:=h1.mp rfl;refine⟨p0,p1,λy hy=> ?_,by decide,λd hd=> ?_⟩
   ·rcases h y hy with rfl|rfl
    ·exact⟨by decide,by decide,⟨0,rfl⟩⟩
    ·exact⟨by decide,by decide,⟨1,rfl⟩⟩
   ·exact hd 1 p1
  |false=>
   refine⟨p0,p0,λy hy=> ?_,by decide,λd _=>y5 d⟩;rcases h y hy with rfl|rfl
   ·exact⟨by decide,by decide,⟨0,rfl⟩⟩
   ·exact cR (h1.mpr hy) (by decide)
 |false=>
  cases yes with
  |true=>
   have p1:=h1.mp rfl;refine⟨p1,p1,λy hy=> ?_,by decide,λd _=>y5 d⟩;rcases h y hy with rfl|rfl
   ·exact cR (h0.mpr hy) (by decide)
   ·exact⟨by decide,by decide,⟨0,rfl⟩⟩
  |false=>cases ho
def LN{op:Int}{a b:aH}(h:uW op)(ha:NN a)(hb:NN b):cS (oH op a b) (gm (oS op a b).1 (oS op a b).2):=
 MV (λy ⟨x,z,_,_,e⟩=>by rw[e];exact tN h x z)
  ((XV h ha hb).trans ⟨λ⟨x,z,h1,h2,e⟩=>⟨x,z,h1,h2,e.symm⟩,λ⟨x,z,h1,h2,e⟩=>⟨x,z,h1,h2,e.symm⟩⟩)
  ((RU h ha hb).trans ⟨λ⟨x,z,h1,h2,e⟩=>⟨x,z,h1,h2,e.symm⟩,λ⟨x,z,h1,h2,e⟩=>⟨x,z,h1,h2,e.symm⟩⟩) (Nh h ha hb)
def avm{x y:Int}:(bif O (x=y)then I else G)=O (x≠y):=by
 by_cases h:x=y
 ·rw[bQ h,bP (λk=>k h)];rfl
 ·rw[bP h,bQ h];rfl
def af2{op:Int}{a b:aH}(h:uW op)(ha:NN a)(hb:NN b):Xr op a b=Q (gm (oS op a b).1 (oS op a b).2):=by
 obtain⟨c,e,hc⟩:=aeX ha hb;have em:fB c= !iK a b:=by
  cases k:fB c with
  |true=>rw[n8 (λx=>by have:=hc.mpr x;rw[k]at this;cases this)];rfl
  |false=>rw[jd.mpr (hc.mp k)];rfl
 have ed:(bif O (1<bW a)then Q G else bif O (1<bW b)then Q G else Q (O (a.ag≠b.ag)))=Q (kG a b):=by
  unfold kG;cases O (1<bW a)<;>cases O (1<bW b)<;>rfl
 unfold Xr;rw[e];simp only;rw[kN (.inr ha),kN (.inr hb)];simp only;rw[avm,ed,Cj (.inr ha),Cj (.inr hb)];simp only;rw[em];simp only[Rk];rcases iA h with rfl|rfl|rfl|rfl|rfl|rfl|rfl|rfl
 all_goals simp only[Int.reduceEq,fW,cX,bz,bC]
 ·show _=Q (gm (kG a b) (iK a b));cases iK a b<;>rfl
 ·show _=Q (gm (iK a b) (kG a b));cases iK a b<;>rfl
 ·rfl
 ·rfl
 ·rfl
 ·rfl
 ·show _=Q (gm (cu a 0||cu b 0) (cl a&&cl b));cases cu a 0<;>cases cl a<;>cases cu b 0<;>cases cl b<;>rfl
 ·show _=Q (gm (cu a 0&&cu b 0) (cl a||cl b));cases cu a 0<;>cases cl a<;>cases cu b 0<;>cases cl b<;>rfl
def diff_eq{a:aH}(h:NN a):kG a a=O (1<bW a):=by
 unfold kG;rw[bP (show ¬a.ag≠a.ag from λk=>k rfl)];cases O (1<bW a)<;>rfl
def SK{a b:aH}(ha:NN a)(hb:NN b)(h:a≠b):kG a b=G:=by
 unfold kG;by_cases c1:1<bW a
 ·rw[bQ c1];rfl
 ·by_cases c2:1<bW b
  ·rw[bP c1,bQ c2];rfl
  ·by_cases c3:a.ag=b.ag
   ·exfalso;have e1:=q9 ha c1;have e2:=q9 hb c2;exact h (BX c3 (by omega) (by rcases ha.st with k|k<;>rcases hb.st with l|l<;>omega))
   ·rw[bQ c3,Bool.or_true]
def IZ{op:Int}{a b:aH}(h:uW op)(ha:NN a)(hb:NN b):BE op a b=Q (gm (oS op a b).1 (oS op a b).2):=by
 have ho:=Nh h ha hb;rw[<-abZ ho];unfold BE;rw[af7 ha hb,QV (.inr ha),QV (.inr hb)];simp only;rw[gx (.inr ha)];simp only;rcases iA h with rfl|rfl|rfl|rfl|rfl|rfl|rfl|rfl
 all_goals simp only[Int.reduceEq,fW,cX,bz,bC]
 ·show _=Q (j4 (kG a b) (iK a b));by_cases e:a=b
  ·subst e;rw[GU,diff_eq ha];rfl
  ·rw[Ge e,SK ha hb e];rfl
 ·show _=Q (j4 (iK a b) (kG a b));by_cases e:a=b
  ·subst e;rw[GU,diff_eq ha];rfl
  ·rw[Ge e,SK ha hb e];rfl
 ·rfl
 ·rfl
 ·rfl
 ·rfl
 ·show _=Q (j4 (cu a 0||cu b 0) (cl a&&cl b));cases cu a 0<;>cases cl a<;>cases cu b 0<;>cases cl b<;>rfl
 ·show _=Q (j4 (cu a 0&&cu b 0) (cl a||cl b));cases cu a 0<;>cases cl a<;>cases cu b 0<;>cases cl b<;>rfl
def Zm{op:Int}{a b:aH}(h:uW op)(ha:NN a)(hb:NN b):ON op a b:=by
 have hbin:binop op:=by
  obtain⟨h1,h2⟩:=h;exact⟨by omega,by omega⟩
 refine⟨(gm (oS op a b).1 (oS op a b).2,0),nj hbin ha hb ?_,?_,uA _ _⟩
 ·rw[af2 h ha hb];rcases iA h with rfl|rfl|rfl|rfl|rfl|rfl|rfl|rfl<;>rfl
 ·by_cases hs:cnt a*cnt b<=4096
  ·rw[jJ hbin ha hb hs];rcases ri hbin ha hb (by omega)with ⟨_,c,e,k⟩|⟨k,_⟩
   ·rw[e,k.uniq (LN h ha hb)]
   ·exact cR (λy ⟨x,z,_,_,e⟩=>by rw[e];rcases tN h x z with q|q<;>rw[q]<;>exact⟨by decide,by decide⟩) k
  ·rw[pz hbin ha hb hs];unfold Pc;rw[IZ h ha hb];rcases iA h with rfl|rfl|rfl|rfl|rfl|rfl|rfl|rfl<;>rfl
def X4{op:Int}{a b:aH}(h:LC op)(ha:NN a)(hb:NN b):ON op a b:=by
 obtain⟨c,e1,e2,hv⟩:=Yx h ha hb;have hbin:binop op:=by unfold binop;rcases h with rfl|rfl|rfl|rfl<;>decide
 refine⟨(c,0),nj hbin ha hb ?_,e2,hv⟩;rw[e1];rcases h with rfl|rfl|rfl|rfl<;>rfl
def LA(op:Int){a b:aH}(ha:NV a)(hb:NV b):ON op a b:=by
 by_cases ho:binop op
 ·rcases ha with rfl|ha
  ·refine⟨(cy,0),?_,?_, .inl rfl⟩
   ·unfold uD;rw[eX,eX,ew (.inl rfl),ew hb,ju,bQ ho,iW];rfl
   ·unfold nr;rw[fU,fU,ew (.inl rfl),ew hb,show Ke op=AN op from rfl,ju,bQ ho,nB];rfl
  ·rcases hb with rfl|hb
   ·refine⟨(cy,0),?_,?_, .inl rfl⟩
    ·unfold uD;rw[eX,eX,ew (.inl rfl),ew (.inr ha),ju,bQ ho,iW,eR ha.ne];rfl
    ·unfold nr;rw[fU,fU,ew (.inl rfl),ew (.inr ha),show Ke op=AN op from rfl,ju,bQ ho,nB,iG ha];rfl
   ·obtain⟨o1,o2⟩:=ho;rcases (show op=8\/op=9\/op=10\/(op=11\/op=12\/op=21\/op=22)\/(13<=op/\op<=20)by omega)with rfl|rfl|rfl|h|h
    ·exact Ym ha hb
    ·exact ZI ha hb
    ·exact V2 ha hb
    ·exact X4 h ha hb
    ·exact Zm h ha hb
 ·refine⟨(aH.mk 0 0 0,1),?_,?_,OA⟩
  ·unfold uD;rw[eX,eX,ew ha,ew hb,ju,bP ho];rfl
  ·unfold nr;rw[fU,fU,ew ha,ew hb,show Ke op=AN op from rfl,ju,bP ho];rfl
abbrev oK:=Int
def d117:Td 0 oK:= .c [] [4] (.r 0 0 (ec 4 aU en) sn (λz=>z.1.1) (λx=>((x,()),(()))))
def anA:=(lc (qg 137) (bg ln))
def am7(M:ax->Int->ah oK):bw->bw:=eL vi 117 I anA d117 (λg=>M g.1 g.2.1)
def abx(M:ax->Int->ah oK):Prop:=HL vi 117 anA d117 (λg=>M g.1 g.2.1)
def Te{M:ax->Int->ah oK}(hM:abx M){F:bw}(h:bG vi F):bG vi (am7 M F):=iJ (sc:=Ec) fS hM ⟨_,func117,by kernel_rfl,by kernel_rfl⟩ (λ_=>by kernel_rfl) (λ_=>by kernel_rfl) h
def abm(M117:ax->Int->ah oK):bw:=(am7 M117 eB)
def ab1{M117}(h117:abx M117):bG vi (abm M117):=(Te h117 aY)
structure Dk where
 (t1 t5:Int)
 b0:ax
def PA:Td 0 Dk:= .c [] [1,2,5] (.r 0 1 (ec 1 aU (ec 2 (qp 0 0) (ec 5 aU en))) (sb 0 137 (lg 137) sn) (λz=>⟨z.1.1,z.1.t.1,z.2.1⟩) (λx=>((x.t1,(),x.t5,()),(x.b0,()))))
def Hy(M117:ax->Int->ah oK)(p:Dk):ah (ah Dk):=
 match bif O (p.t5<p.b0.aq.length)then Q (O (0<=p.t1))else Q I with|V=>V|Q r1=>bif r1 then if 0<=p.t5/\p.t5<p.b0.aq.length then match M117 (ax.mk p.b0.aq[p.t5.toNat]!.bf p.b0.aq[p.t5.toNat]!.fN p.b0.aq[p.t5.toNat]!.aq) p.t1 with|V=>V|Q r2=>Q (Q (Dk.mk r2 (i64.wrap (p.t5+1)) (ax.mk p.b0.bf p.b0.fN p.b0.aq)))else V else Q (V)
def XO(M117:ax->Int->ah oK):An:=(.two (.two (.rb [] 16) .no) .no)
def Hi(M117:ax->Int->ah oK):=bJ (Hy M117)
def aho(M117:ax->Int->ah oK):An:=(noTwo (noTwo (.two (noTwo (PA.lp (Hi M117) (XO M117))) .no)))
def aow{M117}:∀f∈([]:aa Nat),bA (abm M117) f:=aI
def aqx(M117:ax->Int->ah oK):gv vi (abm M117) 0 300 117 (aho M117):=cD (l:=[(bE f117 0,(PA.lp (Hi M117) (XO M117))),(.skip,(.rb [] 16))]) func117 (bR (by kernel_rfl)) (by kernel_rfl) (aB (aO PA) (aB aow aI))
def ad1(M117:ax->Int->ah oK)(a0:ax)(a1:Int):ah oK:=
 match Hi M117 (Dk.mk (i64.wrap (a1-1)) 0 (ax.mk a0.bf a0.fN a0.aq))with|V=>V|Q r3=>match bif O (r3.t5<r3.b0.aq.length)then Q (O (0<=r3.t1))else Q I with|V=>V|Q r4=>bif r4 then if 0<=r3.t5/\r3.t5<r3.b0.aq.length then match M117 (ax.mk r3.b0.aq[r3.t5.toNat]!.bf r3.b0.aq[r3.t5.toNat]!.fN r3.b0.aq[r3.t5.toNat]!.aq) r3.t1 with|V=>V|Q r5=>V else V else Q (r3.t1)
def aw3(M117:ax->Int->ah oK)(a0:ax)(a1:Int):ct vi (abm M117) 300 (aho M117) 117 (anA.c (a0,a1,())) [] 0 d117.rd=ad1 M117 a0 a1:=by kernel_rfl
def ahy:Nat->(ax->Int->ah oK)
 |0=>(λ_ _=>V)
 |n+1=>(ad1 (ahy n))
def PI(n:Nat):ax->Int->ah oK:=(ahy n)
def La:∀n,abx (PI n)
 |0=>λ_ _ h=>(by cases h)
 |n+1=>by
  have ih:=La n;have i117:=ih;exact(fm (ab1 i117) (aqx (PI n)) (λ_=>by kernel_rfl) (λ_=>by kernel_rfl) λg=>aw3 (PI n) g.1 g.2.1)
def M6:ax->Int->ah oK:=λa0 a1=>lim (λn=>PI n a0 a1)
def adl:abx M6:=λg b h=>by
 obtain⟨n,hn⟩:=dG (show lim (λn=>PI n g.1 g.2.1)=Q b from h);exact(La n) g b hn
def amn(F:bw):bw:=am7 M6 F
def Tq{F:bw}(h:bG vi F):bG vi (amn F):=Te adl h
abbrev qP:=Int
def d116:Td 0 qP:= .c [] [4] (.r 0 0 (ec 4 aU en) sn (λz=>z.1.1) (λx=>((x,()),(()))))
def akL:=(lc (ql 166) (bg ln))
def aiU(M:(aa ay)->Int->ah qP):bw->bw:=eL vi 116 I akL d116 (λg=>M g.1 g.2.1)
def age(M:(aa ay)->Int->ah qP):Prop:=HL vi 116 akL d116 (λg=>M g.1 g.2.1)
def Qh{M:(aa ay)->Int->ah qP}(hM:age M){F:bw}(h:bG vi F):bG vi (aiU M F):=iJ (sc:=Ec) fS hM ⟨_,func116,by kernel_rfl,by kernel_rfl⟩ (λ_=>by kernel_rfl) (λ_=>by kernel_rfl) h
def ac1(M116:(aa ay)->Int->ah qP):bw:=(amn (aiU M116 eB))
def agb{M116}(h116:age M116):bG vi (ac1 M116):=(Tq (Qh h116 aY))
structure EB where
 t0:List ay
 (t1 t5:Int)
def Oh:Td 0 EB:= .c [] [0,1,5] (.r 0 0 (ec 0 (ql 166) (ec 1 aU (ec 5 aU en))) sn (λz=>⟨z.1.1,z.1.2.1,z.1.t.1⟩) (λx=>((x.t0,x.t1,x.t5,()),(()))))
def Ea(M116:(aa ay)->Int->ah qP)(p:EB):ah (ah EB):=
 match bif O (p.t5<p.t0.length)then Q (O (0<=p.t1))else Q I with|V=>V|Q r1=>bif r1 then if 0<=p.t5/\p.t5<p.t0.length then match M6 (ax.mk p.t0[p.t5.toNat]!.az.bf p.t0[p.t5.toNat]!.az.fN p.t0[p.t5.toNat]!.az.aq) (i64.wrap (p.t1-1))with|V=>V|Q r2=>if 0<=p.t5/\p.t5<p.t0.length then bif O (r2<(↑p.t0[p.t5.toNat]!.aK.length:Int))then Q (V)else if 0<=p.t5/\p.t5<p.t0.length then if 0<=p.t5/\p.t5<p.t0.length then if 0<=p.t5/\p.t5<p.t0.length then match M116 p.t0[p.t5.toNat]!.aD (i64.wrap (r2-(↑p.t0[p.t5.toNat]!.aK.length:Int)))with|V=>V|Q r3=>match M116 p.t0[p.t5.toNat]!.aJ r3 with|V=>V|Q r4=>Q (Q (EB.mk p.t0 r4 (i64.wrap (p.t5+1))))else V else V else V else V else V else Q (V)
def Y6(M116:(aa ay)->Int->ah qP):An:=(.two (.two (.rb [] 13) .no) .no)
def Iz(M116:(aa ay)->Int->ah qP):=bJ (Ea M116)
def aiR(M116:(aa ay)->Int->ah qP):An:=(noTwo (.two (noTwo (Oh.lp (Iz M116) (Y6 M116))) .no))
def aoT{M116}:∀f∈([]:aa Nat),bA (ac1 M116) f:=aI
def ar0(M116:(aa ay)->Int->ah qP):gv vi (ac1 M116) 0 300 116 (aiR M116):=cD (l:=[(bE f116 0,(Oh.lp (Iz M116) (Y6 M116))),(.skip,(.rb [] 13))]) func116 (bR (by kernel_rfl)) (by kernel_rfl) (aB (aO Oh) (aB aoT aI))
def ad4(M116:(aa ay)->Int->ah qP)(a0:aa ay)(a1:Int):ah qP:=
 match Iz M116 (EB.mk a0 a1 0)with|V=>V|Q r5=>match bif O (r5.t5<r5.t0.length)then Q (O (0<=r5.t1))else Q I with|V=>V|Q r6=>bif r6 then if 0<=r5.t5/\r5.t5<r5.t0.length then match M6 (ax.mk r5.t0[r5.t5.toNat]!.az.bf r5.t0[r5.t5.toNat]!.az.fN r5.t0[r5.t5.toNat]!.az.aq) (i64.wrap (r5.t1-1))with|V=>V|Q r7=>if 0<=r5.t5/\r5.t5<r5.t0.length then bif O (r7<(↑r5.t0[r5.t5.toNat]!.aK.length:Int))then Q (-1)else if 0<=r5.t5/\r5.t5<r5.t0.length then if 0<=r5.t5/\r5.t5<r5.t0.length then if 0<=r5.t5/\r5.t5<r5.t0.length then match M116 r5.t0[r5.t5.toNat]!.aD (i64.wrap (r7-(↑r5.t0[r5.t5.toNat]!.aK.length:Int)))with|V=>V|Q r8=>match M116 r5.t0[r5.t5.toNat]!.aJ r8 with|V=>V|Q r9=>V else V else V else V else V else V else Q (r5.t1)
def awV(M116:(aa ay)->Int->ah qP)(a0:aa ay)(a1:Int):ct vi (ac1 M116) 300 (aiR M116) 116 (akL.c (a0,a1,())) [] 0 d116.rd=ad4 M116 a0 a1:=by kernel_rfl
def aiK:Nat->((aa ay)->Int->ah qP)
 |0=>(λ_ _=>V)
 |n+1=>(ad4 (aiK n))
def M7(n:Nat):(aa ay)->Int->ah qP:=(aiK n)
def Lb:∀n,age (M7 n)
 |0=>λ_ _ h=>(by cases h)
 |n+1=>by
  have ih:=Lb n;have i116:=ih;exact(fm (agb i116) (ar0 (M7 n)) (λ_=>by kernel_rfl) (λ_=>by kernel_rfl) λg=>awV (M7 n) g.1 g.2.1)
def afO:(aa ay)->Int->ah qP:=λa0 a1=>lim (λn=>M7 n a0 a1)
def agO:age afO:=λg b h=>by
 obtain⟨n,hn⟩:=dG (show lim (λn=>M7 n g.1 g.2.1)=Q b from h);exact(Lb n) g b hn
def apZ(F:bw):bw:=aiU afO F
def abF{F:bw}(h:bG vi F):bG vi (apZ F):=Qh agO h
def F53:bw:=(amn (apZ eB))
structure JU where
 t7:Int
 t27:List dz
 (t28 t29:Int)
def XR:Td 0 JU:= .c [] [7,27,28,29] (.r 0 0 (ec 7 aU (ec 27 (ql 139) (ec 28 aU (ec 29 aU en)))) sn (λz=>⟨z.1.1,z.1.2.1,z.1.t.1,z.1.t.2.1⟩) (λx=>((x.t7,x.t27,x.t28,x.t29,()),(()))))
def KU(p:JU):ah (ah JU):=
 bif O (p.t29<p.t28)then if 0<=p.t29/\p.t29<p.t27.length then match M6 (ax.mk p.t27[p.t29.toNat]!.az.bf p.t27[p.t29.toNat]!.az.fN p.t27[p.t29.toNat]!.az.aq) p.t7 with|V=>V|Q r1=>Q (Q (JU.mk r1 p.t27 p.t28 (i64.wrap (p.t29+1))))else V else Q (V)
def PX:=bJ (KU)
abbrev E53:=Bool
def d53:Td 0 E53:= .c [] [6] (.r 0 0 (ec 6 qb en) sn (λz=>z.1.1) (λx=>((x,()),(()))))
def awy:∀f∈([]:aa Nat),bA (F53) f:=aI
def m53(a0:aQ)(a1:Int)(a2:Int):ah E53:=
 match bif O (a1<a0.ai.length)then Q G else Q (O (a1<a0.ak.length))with|V=>V|Q r2=>bif r2 then Q I else match afO a0.bI a2 with|V=>V|Q r3=>match PX (JU.mk r3 a0.ak a0.ak.length 0)with|V=>V|Q r4=>bif O (r4.t29<r4.t28)then if 0<=r4.t29/\r4.t29<r4.t27.length then match M6 (ax.mk r4.t27[r4.t29.toNat]!.az.bf r4.t27[r4.t29.toNat]!.az.fN r4.t27[r4.t29.toNat]!.az.aq) r4.t7 with|V=>V|Q r5=>V else V else Q (O (0<=r4.t7))
def e53:=eL vi 53 I (lc (qg 26) (bg (bg ln))) d53 (λg=>m53 g.1 g.2.1 g.t.1)
def Zf:EO e53:=λh=>kL (F:=F53) (an:=(noTwo (.two (.two (.rb [] 21) .no) (noTwo (.two (noTwo (XR.lp PX .no)) .no))))) (l:=[(.skip,(.rb [] 21)),(bE f53 0,(XR.lp PX .no))]) func53 (Tq (abF aY)) (aB awy (aB (aO XR) aI)) h
def pn:EP e53:=λh=>kP h
def ax.eta(t:ax):ax.mk t.bf t.fN t.aq=t:=by cases t;rfl
def ax.dU{t k:ax}(h:k∈t.aq):zk k<zk t:=by
 cases t;have:=vf h;simp only[ax.mk.sizeOf_spec];simp only at this;omega
def nT(t:ax):Nat:=1+(t.aq.attach.map λk=>nT k.1).sum
termination_by zk t
decreasing_by exact ax.dU k.2
def jH(l:aa ax):Nat:=(l.map nT).sum
def vz(t:ax):nT t=1+jH t.aq:=by
 rw[nT,jH]
 congr 2
 exact we (f:=nT)
def qx(k:ax)(ks:aa ax):jH (k::ks)=nT k+jH ks:=by simp[jH]
def RN{k:ax}{ks:aa ax}(h:k∈ks):nT k<=jH ks:=by
 induction ks with
 |nil=>cases h
 |cons a ks ih=>
  rw[qx];rcases zF.1 h with rfl|h
  ·omega
  ·have:=ih h;omega
def Jo(t:ax):0<nT t:=by rw[vz];omega
def tl(t:ax)(left:Int):Int:=if(nT t:Int)<=left then left-nT t else if 0<=left then-1 else left-1
def tls:aa ax->Int->Int
 |[],l=>l
 |k::ks,l=>if 0<=l then tls ks (tl k l)else l
def ZJ:∀(ks:aa ax) (l:Int),tls ks l=if 0<=l then(if(jH ks:Int)<=l then l-jH ks else-1)else l
 |[],l=>by simp[tls,jH];omega
 |k::ks,l=>by
  have e:=qx k ks;have:=Jo k;unfold tls;by_cases h:0<=l
  ·rw[bt h,bt h,ZJ ks,e];unfold tl;grind
  ·rw[bF h,bF h]
def arD(t:ax)(left:Int):tl t left=tls t.aq (left-1):=by
 rw[ZJ,tl,vz];grind
def Yt(t:ax)(l:Int):(0<=l-> -1<=tl t l/\tl t l<=l-1)/\(l<0->tl t l=l-1):=by
 have:=Jo t;unfold tl;grind
def VH(M:ax->Int->ah oK)(t:ax)(hM:∀k∈t.aq,∀l:Int,0<=l->l<=1000->M k l=Q (tl k l)):
  ∀(ks:aa ax) (i:Nat) (l:Int),t.aq.drop i=ks->i+ks.length=t.aq.length->l<=1000-i->∃q,Hi M ⟨l,i,t⟩=Q q/\q.t1=tls ks l/\q.b0=t/\(q.t5<t.aq.length->q.t1<0)
 |[],i,l,hd,hl,_=>by
  refine⟨_,cF λr=> ?_,rfl,rfl,λh=> ?_⟩
  ·have:¬((i:Int)<t.aq.length):=by simp at hl;omega
   simp[Hy,this]
  ·simp at hl h;omega
 |k::ks,i,l,hd,hl,h2=>by
  have hil:i<t.aq.length:=by simp at hl;omega
  have hki:t.aq[i]! =k:=by
   have:t.aq[i]? =Q k:=by
    have:=congrArg List.head? hd;rw[List.head?_drop]at this;simpa using this
   rw[List.getElem!_eq_getElem?_getD,this];rfl
  have hmem:k∈t.aq:=by rw[<-hki,getElem!_pos t.aq i hil];exact xO hil
  by_cases h0:0<=l
  ·have hd':t.aq.drop (i+1)=ks:=by
    have:=congrArg List.tail hd;rw[List.tail_drop]at this;simpa using this
   have b3:=((Yt k l).1 h0).2;obtain⟨q,e1,e2,e3,e4⟩:=VH M t hM ks (i+1) (tl k l) hd' (by simp at hl;omega) (by omega);refine⟨q,?_,?_,e3,e4⟩
   ·rw[<-e1];refine bU ?_;have hw:i64.wrap ((i:Int)+1)=((i+1:Nat):Int):=by rw[aG];omega
    have hk2:t.aq[i]=k:=by rw[<-hki,getElem!_pos t.aq i hil]
    simp[Hy,hil,h0,hk2,ax.eta,hM k hmem l h0 (by omega)];exact hw
   ·rw[e2];show _=if 0<=l then _ else _
    rw[bt h0]
  ·refine⟨_,cF λr=> ?_,?_,rfl,λh=> ?_⟩
   ·simp[Hy,hil,h0]
   ·show l=if 0<=l then _ else l
    rw[bF h0]
   ·simp only;omega
def aa7(M:ax->Int->ah oK)(t:ax)(hM:∀k∈t.aq,∀l:Int,0<=l->l<=1000->M k l=Q (tl k l))(l:Int)(h1: -1000000<=l)(h2:l<=1000):ad1 M t l=Q (tl t l):=by
 obtain⟨q,e1,e2,e3,e4⟩:=VH M t hM t.aq 0 (l-1) rfl (by simp) (by omega);have hw:i64.wrap (l-1)=l-1:=aG;rw[arD,<-e2];unfold ad1;rw[hw,ax.eta,show ((0:Nat):Int)=0 from rfl]at*;rw[e1];obtain⟨q1,q5,qb⟩:=q;subst e3;dsimp only at*;by_cases h5:q5<(qb.aq.length:Int)
 ·have:=e4 h5;simp[h5,show ¬(0<=q1)by omega]
 ·simp[h5]
def Qf:∀(n:Nat) (t:ax) (l:Int),zk t<n-> -1000000<=l->l<=1000->PI n t l=Q (tl t l)
 |0,_,_,h,_,_=>by omega
 |n+1,t,l,h,h1,h2=>aa7 (PI n) t (λk hk l h3 h4=>Qf n k l (by have:=ax.dU hk;omega) (by omega) h4) l h1 h2
def JF(t:ax)(l:Int)(h1: -1000000<=l)(h2:l<=1000):M6 t l=Q (tl t l):=eT (zk t+1) λn hn=>Qf n t l (by omega) h1 h2
def ay.then_lt{s k:ay}(h:k∈s.aD):zk k<zk s:=by
 cases s;have:=vf h;simp only[ay.mk.sizeOf_spec];simp only at this;omega
def ay.aeY{s k:ay}(h:k∈s.aJ):zk k<zk s:=by
 cases s;have:=vf h;simp only[ay.mk.sizeOf_spec];simp only at this;omega
def ay.eta(s:ay):ay.mk s.bN s.aN s.cV s.fN s.az s.aD s.aJ s.aK=s:=by cases s;rfl
def nS(s:ay):Nat:=1+nT s.az+s.aK.length+(s.aD.attach.map λk=>nS k.1).sum+(s.aJ.attach.map λk=>nS k.1).sum
termination_by zk s
decreasing_by
 ·exact ay.then_lt k.2
 ·exact ay.aeY k.2
def fP(l:aa ay):Nat:=(l.map nS).sum
def ou(s:ay):nS s=1+nT s.az+s.aK.length+fP s.aD+fP s.aJ:=by
 rw[nS,fP,fP]
 congr 2
 ·congr 1
  exact we (f:=nS)
 ·exact we (f:=nS)
def mR(k:ay)(ks:aa ay):fP (k::ks)=nS k+fP ks:=by simp[fP]
def sl(l:aa ay)(left:Int):Int:=if left<0 then left else if(fP l:Int)<=left then left-fP l else-1
def sA(left:Int)(s:ay):ah Int:=if left<0 then V else if tl s.az (left-1)<s.aK.length then V else Q (sl s.aJ (sl s.aD (tl s.az (left-1)-s.aK.length)))
def MA{left x:Int}{s:ay}(h:sA left s=Q x):0<=left/\ -1<=x/\x<=left-1/\x=if(nS s:Int)<=left then left-nS s else-1:=by
 unfold sA at h;have e:=ou s;unfold tl sl at h;grind
def NA{left:Int}{s:ay}(h:sA left s=V)(h0:0<=left):left<nS s:=by
 unfold sA at h;have e:=ou s;unfold tl at h;grind
def ag1:∀(l:aa ay) (left:Int),kF sA (λv _=>if v<0 then v else-1) id l left=sl l left
 |[],left=>by unfold sl;simp[fP,kF];omega
 |s::l,left=>by
  have e:=mR s l;unfold kF;cases hs:sA left s with
  |none=>
   have:=NA hs;unfold sl;grind
  |some x=>
   obtain⟨h1,h2,h3,h4⟩:=MA hs;dsimp only;rw[ag1 l x];unfold sl;grind
def agv(M:aa ay->Int->ah qP)(l:aa ay)(hM:∀s∈l,(∀x:Int,-1<=x->x<=1000->M s.aD x=Q (sl s.aD x))/\(∀x:Int,-1<=x->x<=1000->M s.aJ x=Q (sl s.aJ x)))(left:Int)(h1: -1<=left)(h2:left<=1000):
  ad4 M l left=Q (sl l left):=by
 have hstep:∀(i:Nat) (b:Int) (hi:i<l.length),b<=1000-i-> -1<=b->Ea M ⟨l,b,i⟩=if b<0 then Q V else if tl l[i].az (b-1)<l[i].aK.length then Q V else Q (Q ⟨l,sl l[i].aJ (sl l[i].aD (tl l[i].az (b-1)-l[i].aK.length)),((i+1:Nat):Int)⟩):=λi b hi hb hb2=>by
  obtain⟨m1,m2⟩:=hM l[i] (xO hi);unfold Ea;by_cases h0:b<0
  ·simp[hi,h0,show ¬0<=b by omega]
  ·have e1:i64.wrap (b-1)=b-1:=aG;have e2:=JF l[i].az (b-1) (by omega) (by omega);have e3:=Yt l[i].az (b-1);have hT: -2<=tl l[i].az (b-1)/\tl l[i].az (b-1)<=1000:=by grind
   by_cases h4:tl l[i].az (b-1)<l[i].aK.length
   ·simp[hi,h0,e1,ax.eta,e2,h4,show 0<=b by omega]
   ·have e5:i64.wrap (tl l[i].az (b-1)-l[i].aK.length)=tl l[i].az (b-1)-l[i].aK.length:=aG;have e6:=m1 (tl l[i].az (b-1)-l[i].aK.length) (by omega) (by omega);have hS: -1<=sl l[i].aD (tl l[i].az (b-1)-l[i].aK.length)/\sl l[i].aD (tl l[i].az (b-1)-l[i].aK.length)<=1000:=by unfold sl;grind
    have e7:=m2 _ hS.1 hS.2;have e8:i64.wrap ((i:Int)+1)=((i+1:Nat):Int):=by rw[aG];omega
    simp[hi,h0,e1,ax.eta,e2,h4,e5,e6,e7,show 0<=b by omega];exact e8
 obtain⟨i,v,hi,e1,⟨e2,e3⟩,e4⟩:=GI (cL:=Ea M) l (λi b=>⟨l,b,(i:Int)⟩) sA (λv _=>if v<0 then v else-1) id (λi b=>b<=1000-i/\ -1<=b) (λi b hi hI b' hs=>by
   obtain⟨q1,q2,q3,q4⟩:=MA hs;refine⟨?_,by omega,q2⟩;rw[hstep i b hi hI.1 hI.2];unfold sA at hs;grind) (λi b hi hI hs r=>by
   rw[hstep i b hi hI.1 hI.2];unfold sA at hs;grind) (λb hI r=>by simp[Ea]) (b:=left) ⟨by omega,h1⟩
 have e1':Iz M ⟨l,left,0⟩=Q ⟨l,v,i⟩:=e1;unfold ad4;rw[e1'];rw[ag1]at e4;rcases e4 with ⟨h5,e4⟩|⟨h5,hn,e4⟩
 ·simp[h5,e4]
 ·rw[e4];by_cases h0:v<0
  ·simp[h5,h0,show ¬(0<=v)by omega]
  ·have e1:i64.wrap (v-1)=v-1:=aG;have e2:=JF l[i].az (v-1) (by omega) (by omega);have h4:tl l[i].az (v-1)<l[i].aK.length:=by unfold sA at hn;grind
   simp[h5,h0,show 0<=v by omega,e1,ax.eta,e2,h4]
def aX{s:ay}{l:aa ay}(h:s∈l):zk s.aD<zk l/\zk s.aJ<zk l:=by
 have:=vf h;cases s;simp only[ay.mk.sizeOf_spec]at this;simp only;omega
def Jj:∀(n:Nat) (l:aa ay) (x:Int),zk l<n-> -1<=x->x<=1000->M7 n l x=Q (sl l x)
 |0,_,_,h,_,_=>by omega
 |n+1,l,x,h,h1,h2=>agv (M7 n) l (λs hs=>⟨λx h3 h4=>Jj n _ x (by have:=aX hs;omega) h3 h4,λx h3 h4=>Jj n _ x (by have:=aX hs;omega) h3 h4⟩) x h1 h2
def aa9(l:aa ay)(x:Int)(h1: -1<=x)(h2:x<=1000):afO l x=Q (sl l x):=eT (zk l+1) λn hn=>Jj n l x (by omega) h1 h2
def TG(f:aQ)(vars nodes:Int):Bool:=O ((f.ai.length:Int)<=vars/\(f.ak.length:Int)<=vars/\(fP f.bI+jH (f.ak.map (·.az)):Int)<=nodes)
def ZC(f:aQ)(vars nodes:Int)(h1:0<=vars)(h2:vars<=1000)(h3:0<=nodes)(h4:nodes<=1000):m53 f vars nodes=Q (TG f vars nodes):=by
 unfold m53;by_cases q1:vars<f.ai.length
 ·simp[q1,TG];omega
 ·by_cases q2:vars<f.ak.length
  ·simp[q1,q2,TG];omega
  ·rw[aa9 _ _ (by omega) (by omega)];have hb:sl f.bI nodes<=1000/\ -1<=sl f.bI nodes:=by unfold sl;grind
   have hstep:∀(i:Nat) (b:Int) (hi:i<f.ak.length),b<=1000-> -1-(i:Int)<=b->KU ⟨b,f.ak,f.ak.length,i⟩=Q (Q ⟨tl f.ak[i].az b,f.ak,f.ak.length,((i+1:Nat):Int)⟩):=λi b hi hb hb2=>by
    have e2:=JF f.ak[i].az b (by omega) (by omega);have e8:i64.wrap ((i:Int)+1)=((i+1:Nat):Int):=by rw[aG];omega
    unfold KU;simp[hi,ax.eta,e2];exact e8
   obtain⟨i,v,hi,e1,_,e4⟩:=GI (cL:=KU) f.ak (λi b=>⟨b,f.ak,f.ak.length,(i:Int)⟩) (λb h=>Q (tl h.az b)) (λv _=>v) id (λi b=>b<=1000/\ -1-(i:Int)<=b) (λi b hi hI b' hs=>by
     cases hs;refine⟨hstep i b hi hI.1 hI.2,?_⟩;have:=Yt f.ak[i].az b;grind) (λi b hi hI hs r=>by cases hs) (λb hI r=>by simp[KU]) (b:=sl f.bI nodes) ⟨hb.1,by omega⟩
   have e1':PX ⟨sl f.bI nodes,f.ak,f.ak.length,0⟩=Q ⟨v,f.ak,f.ak.length,i⟩:=e1;rcases e4 with ⟨h5,e4⟩|⟨_,hn,_⟩
   case inr=>cases hn
   have key:∀(l:aa dz) (b:Int),0<=kF (ρ:=Int) (λb h=>Q (tl h.az b)) (λv _=>v) id l b↔(jH (l.map (·.az)):Int)<=b:=λl=>by
    induction l with
    |nil=>intro b;simp[kF,jH]
    |cons h l ih=>
     intro b;unfold kF;dsimp only;rw[ih,yl,qx];have:=Jo h.az;unfold tl;grind
   have k2:=key f.ak (sl f.bI nodes);rw[e4]at k2;have k3:(0<=v)↔(jH (f.ak.map (·.az)):Int)<=sl f.bI nodes:=k2;simp only[q1,q2,fW,bz,e1',h5,xK,TG]
   congr 1
   rw[decide_eq_decide,k3];unfold sl;grind
def Z0:((0:Nat):Int)=(0:Int):=rfl
def okc(i:Nat)(c:Int):Bool:=O ((97<=c/\c<=122)\/(i≠0/\((48<=c/\c<=57)\/c=46\/c=95)))
def je(s:ByteArray):Bool:=O (1<=s.size)&&O (s.size<=40)&&(zP s.size).all λi=>okc i (cq s i)
def gY(low high:Int):Bool:=O (low<=high/\ -1048576<=low/\high<=1048576)
def mH(vars:aa aS)(i:Nat)(v:aS):Int:=
 if je v.fName=I then 7
 else if((vars.take i).any λw=>w.fName.toList==v.fName.toList)=G then 8
 else if v.bq<0\/3<v.bq then 1
 else if gY v.ag v.af=I then 3
 else if v.bq=0 then(if v.dB<v.ag\/v.af<v.dB then 3 else 0)
 else if v.dB=0 then 0 else 3
def sS(kind:Int):aa aS->Int->ah Int
 |[],n=>Q n
 |v::vs,n=>if v.bq=kind then(if 4096<n*(v.af-v.ag+1)then V else sS kind vs (n*(v.af-v.ag+1)))else sS kind vs n
def s9(vars:aa aS):Bool:=(sS 1 vars 1).isSome&&(sS 2 vars 1).isSome&&(match sS 3 vars 1 with|Q n=>O (n<=256)|V=>I)
def kH(vars:aa aS):Int:=if cG (mH vars) vars 0≠0 then cG (mH vars) vars 0 else if s9 vars=G then 0 else 4
def bV(o:Int):Int×Int:=if o=0\/o=24 then(0,0)else if o=6\/o=7 then(1,1)else if 8<=o/\o<=22 then(2,2)else if o=23 then(3,3)else if o=25 then(2,33)else(-1,-1)
def By(vars:aa aS)(inp:Bool)(t:ax):Bool:=O (0<=(bV t.bf).1/\(bV t.bf).1<=t.aq.length/\(t.aq.length:Int)<=(bV t.bf).2)&&
 (if t.bf=0 then G else if t.bf=24 then O (0<=t.fN/\t.fN<vars.length)&& !(inp&&O (vars[t.fN.toNat]!.bq=0))else O (t.fN=0))
def cZ(vars:aa aS)(inp:Bool)(t:ax):Bool:=By vars inp t&&t.aq.attach.all λk=>cZ vars inp k.1
termination_by zk t
decreasing_by exact ax.dU k.2
def lH(vars:aa aS)(inp:Bool)(t:ax):cZ vars inp t=(By vars inp t&&t.aq.all (cZ vars inp)):=by
 rw[cZ]
 congr 1
 rw[List.all_eq,List.all_eq];simp
def dL(a b:Span):Span:=⟨if b.ag<a.ag then b.ag else a.ag,if a.af<b.af then b.af else a.af⟩
def dV(vars:aa aS)(t:ax)(k:aa Span):Span:=
 if t.bf=0 then⟨t.fN,t.fN⟩
 else if t.bf=24 then⟨vars[t.fN.toNat]!.ag,vars[t.fN.toNat]!.af⟩
 else if t.bf=6 then⟨-k[0]!.af,-k[0]!.ag⟩
 else if t.bf=8 then⟨k[0]!.ag+k[1]!.ag,k[0]!.af+k[1]!.af⟩
 else if t.bf=9 then⟨k[0]!.ag-k[1]!.af,k[0]!.af-k[1]!.ag⟩
 else if t.bf=10 then
  dL (dL (dL ⟨k[0]!.ag*k[1]!.ag,k[0]!.ag*k[1]!.ag⟩ ⟨k[0]!.ag*k[1]!.af,k[0]!.ag*k[1]!.af⟩) ⟨k[0]!.af*k[1]!.ag,k[0]!.af*k[1]!.ag⟩) ⟨k[0]!.af*k[1]!.af,k[0]!.af*k[1]!.af⟩
 else if t.bf=11 then
  (if(0:Int)<=k[0]!.ag/\(0:Int)<=k[1]!.ag then⟨0,if k[0]!.af< -k[0]!.ag then-k[0]!.ag else k[0]!.af⟩else⟨-(if k[0]!.af< -k[0]!.ag then-k[0]!.ag else k[0]!.af),if k[0]!.af< -k[0]!.ag then-k[0]!.ag else k[0]!.af⟩)
 else if t.bf=12 then⟨if k[1]!.ag<0 then k[1]!.ag+1 else 0,if(0:Int)<k[1]!.af then k[1]!.af-1 else 0⟩
 else if t.bf=21 then⟨if k[1]!.ag<k[0]!.ag then k[1]!.ag else k[0]!.ag,if k[1]!.af<k[0]!.af then k[1]!.af else k[0]!.af⟩
 else if t.bf=22 then⟨if k[0]!.ag<k[1]!.ag then k[1]!.ag else k[0]!.ag,if k[0]!.af<k[1]!.af then k[1]!.af else k[0]!.af⟩
 else if t.bf=23\/t.bf=25 then(k.drop 2).foldl dL k[1]!
 else⟨0,1⟩
def sj(s:Span):Bool:=O (-1048576<=s.ag/\s.af<=1048576)
def jG:aa (ah Span)->ah (aa Span)
 |[]=>Q []
 |none::_=>V
 |some s::xs=>match jG xs with|Q l=>Q (s::l)|V=>V
def eH(vars:aa aS)(t:ax):ah Span:=match jG (t.aq.attach.map λk=>eH vars k.1)with
 |none=>V
 |some l=>if sj (dV vars t l)=G then Q (dV vars t l)else V
termination_by zk t
decreasing_by exact ax.dU k.2
def kQ(vars:aa aS)(t:ax):eH vars t=match jG (t.aq.map (eH vars))with
 |none=>V
 |some l=>if sj (dV vars t l)=G then Q (dV vars t l)else V:=by
 rw[eH];rw[show (t.aq.attach.map λk=>eH vars k.1)=t.aq.map (eH vars)from we (f:=eH vars)]
def eM(vars:aa aS)(inp:Bool)(t:ax):Int:=if cZ vars inp t=I then 1 else if(eH vars t).isSome then 0 else 3
def lq(f:aQ)(i:Nat)(h:dz):Int:=
 if je h.fName=I then 7
 else if((f.ak.take i).any λw=>w.fName.toList==h.fName.toList)=G then 8
 else if gY h.ag h.af=I then 3
 else eM f.ai G h.az
def dT(t:ax):Int:=1+(t.aq.attach.map λk=>dT k.1).foldl max 0
termination_by zk t
decreasing_by exact ax.dU k.2
def MP(l:aa ax):Int:=(l.map dT).foldl max 0
def S4(t:ax):dT t=1+MP t.aq:=by
 rw[dT,MP];rw[show (t.aq.attach.map λk=>dT k.1)=t.aq.map dT from we (f:=dT)]
def A5(l:aa Int)(a x:Int):(l++[x]).foldl max a=max (l.foldl max a) x:=by simp[List.foldl_append]
def Fa(l:aa ax)(k:ax):MP (l++[k])=max (MP l) (dT k):=by
 unfold MP;rw[yo,yl,xw,A5]
def qO(l:aa ax)(k:ax):jH (l++[k])=jH l+nT k:=by
 simp[jH]
def uE:∀(l:aa Int) (a:Int),a<=l.foldl max a
 |[],a=>zm _
 |x::l,a=>y7 (Int.le_max_left a x) (uE l (max a x))
def Hg(l:aa ax):0<=MP l:=uE _ _
def amy(t:ax):1<=dT t:=by have:=Hg t.aq;rw[S4];omega
def dc(s:ay)(l:aa ay):zk l<zk (s::l):=by
 rw[List.cons.sizeOf_spec];omega
def jR:aa ay->Int
 |[]=>0
 |s::l=>max (max (jR s.aD+1) (jR s.aJ+1)) (jR l)
termination_by l=>zk l
decreasing_by
 ·exact(aX (zo ..)).1
 ·exact(aX (zo ..)).2
 ·exact dc _ _
def fI:aa ay->Bool
 |[]=>I
 |s::l=>O (12<dT s.az)||fI s.aD||fI s.aJ||fI l
termination_by l=>zk l
decreasing_by
 ·exact(aX (zo ..)).1
 ·exact(aX (zo ..)).2
 ·exact dc _ _
def rN(l:aa ay):0<=jR l:=by
 induction l with
 |nil=>rw[jR];omega
 |cons s l ih=>rw[jR];omega
def Xa(l:aa ay)(s:ay):jR (l++[s])=max (jR l) (max (jR s.aD+1) (jR s.aJ+1)):=by
 induction l with
 |nil=>
  have:=rN s.aD;rw[ym,show jR []=0 by rw[jR],jR,show jR []=0 by rw[jR]];omega
 |cons a l ih=>rw[xE,jR,jR,ih];omega
def KC(l:aa ay)(k:ay):fP (l++[k])=fP l+nS k:=by simp[fP]
def qL(f:aQ):Bool:=O (f.ai.length<=64)&&O (f.ak.length<=8)&&f.ak.all (λh=>O (dT h.az<=12))&&O (jR f.bI<=12)&& !fI f.bI
def fC:aa Int->Bool
 |a::b::l=>O (a<b)&&fC (b::l)
 |_=>G
def u6(t:ax):Bool:=O (t.bf=0/\t.fN=0/\t.aq.length=0)
def tC(f:aQ)(s:ay):Bool:=O (0<=s.cV/\s.cV<f.ai.length)&&O (f.ai[s.cV.toNat]!.bq=0)
def dI(f:aQ)(s:ay)(last:Bool):Bool:=
 let free:=O (s.aD.length=0/\s.aJ.length=0)
 let nob:=O (s.aK.length=0)
 if s.bN=0 then free&&tC f s&&O (s.fN=0)&&nob
 else if s.bN=1 then free&&O (s.cV=0)&&O (s.fN=0)&&nob
 else if s.bN=2 then free&&O (s.cV=0)&&O (s.fN=0)&&nob&&u6 s.az
 else if s.bN=3 then O (s.cV=0)&&O (s.fN=0)&&nob
 else if s.bN=4 then O (s.cV=0)&&O (s.aJ.length=0)&&nob
 else if s.bN=5 then free&&tC f s&&O (0<=s.fN/\s.fN<f.ak.length)&&nob&&u6 s.az
 else if s.bN=6 then free&&last&&O (s.cV=0)&&O (s.fN=0)&&u6 s.az&&(O (1<=s.aK.length/\s.aK.length<=32)&&O ((0:Int)<=s.aK[0]!)&&fC s.aK)
 else I
def sP(s:ay):Bool:=O (0<=s.aN/\s.aN<=(if s.bN=2 then 67108864 else 10000))&&(if s.bN=4 then O (0<=s.fN/\s.fN<=4096)else G)&&(if s.bN=6 then O (s.aK[s.aK.length-1]!<=67108864)else G)
def oR(f:aQ)(last:Bool)(s:ay):Int:=if dI f s last=I then 1 else if sP s=I then 3 else eM f.ai I s.az
def b9(f:aQ)(top:Bool):aa ay->Int
 |[]=>0
 |s::l=>if oR f (top&&l.isEmpty) s≠0 then oR f (top&&l.isEmpty) s else if b9 f I s.aD≠0 then b9 f I s.aD else if b9 f I s.aJ≠0 then b9 f I s.aJ else b9 f top l
termination_by l=>zk l
decreasing_by
 all_goals first|exact(aX (zo ..)).1|exact(aX (zo ..)).2|exact dc _ _
def U6(f:aQ)(top:Bool)(n i:Nat)(s:ay):Int:=if oR f (top&&O (i+1=n)) s≠0 then oR f (top&&O (i+1=n)) s else if b9 f I s.aD≠0 then b9 f I s.aD else b9 f I s.aJ
def qB(f:aQ)(top:Bool)(n:Nat):∀(l:aa ay) (i:Nat),i+l.length=n->cG (U6 f top n) l i=b9 f top l
 |[],i,_=>by rw[b9];rfl
 |s::l,i,h=>by
  have ih:=qB f top n l (i+1) (by simp at h;omega);have he:l.isEmpty=O (i+1=n):=by
   cases l with
   |nil=>simp at h;simp[h]
   |cons a l=>simp at h;simp;omega
  unfold cG;rw[b9,ih,he];unfold U6;grind
def cC:aa ay->Int×Int×Int
 |[]=>(0,0,0)
 |s::l=>match cC s.aD,cC s.aJ,cC l with
  |a,b,c=>if s.bN=1 then(1+c.1,1+c.2.1,s.aN+c.2.2)
   else if s.bN=3 then(1+max a.1 b.1+c.1,max a.2.1 b.2.1+c.2.1,s.aN+max a.2.2 b.2.2+c.2.2)
   else if s.bN=4 then(1+s.fN*(1+a.1)+c.1,s.fN*a.2.1+c.2.1,s.fN*(s.aN+a.2.2)+c.2.2)
   else(1+c.1,c.2.1,s.aN+c.2.2)
termination_by l=>zk l
decreasing_by
 ·exact(aX (zo ..)).1
 ·exact(aX (zo ..)).2
 ·exact dc _ _
def RW(f:aQ):Bool:=O (4096<(cC f.bI).1\/8<(cC f.bI).2.1\/67108864<(cC f.bI).2.2)
def uZ(f:aQ):Int:=if qL f=I then 4 else if kH f.ai≠0 then kH f.ai else if cG (lq f) f.ak 0≠0 then cG (lq f) f.ak 0 else if b9 f G f.bI≠0 then b9 f G f.bI else if RW f=G then 4 else 0
def acu:bw:=eB
def afD:bG vi acu:=aY
abbrev ale:=Bool×aW
def d208:Td 1 ale:= .c [] [2] (.r 1 1 (ec 2 qb en) (sb 0 256 (lg 256) sn) (λz=>(z.1.1,z.2.1)) (λx=>((x.1,()),(x.2,()))))
def ap2:=(lc (qp 0 0) ln)
def aoC:=(sb 0 256 (lg 256) sn)
def aiG:An:=(noTwo (.two (.rb [] 2) .no))
def atH:∀f∈([]:aa Nat),bA (acu) f:=aI
def arZ:gv vi (acu) 1 300 208 (aiG):=cD (l:=[(.skip,(.rb [] 2))]) func208 (bR (by kernel_rfl)) (by kernel_rfl) (aB atH aI)
def jA(b0:aW):ale:=
 let r1:Bool:=bif b0.fL then G else O (1024<b0.bB);(r1,b0)
def avx(b0:aW):ct vi (acu) 300 (aiG) 208 (ap2.c ((),())) (aoC.d (b0,())) 1 d208.rd=Q (jA b0):=by
 refine Eq.trans (b:=(
  match bif b0.fL then Q (G)else Q (O (1024<b0.bB))with|V=>V|Q r1=>Q ((r1,b0)):ah ale)) (by kernel_rfl) ?_
 simp only[jA,cO,de]
def ab2:bw->bw:=eY vi 208 1 ap2 aoC d208 (λg=>Q (jA g.2.1))
def II{F:bw}(h:bG vi F):bG vi (ab2 F):=LF (RY afD arZ (λ_=>by kernel_rfl) (λ_=>by kernel_rfl) (λ_=>by kernel_rfl) λg=>avx g.2.1) ⟨_,func208,by kernel_rfl,by kernel_rfl⟩ (λ_=>by kernel_rfl) h
abbrev rU:=aW
def d209:Td 1 rU:= .c [] [] (.r 1 1 en (sb 0 256 (lg 256) sn) (λz=>z.2.1) (λx=>((()),(x,()))))
def aj3:=(lc (qp 0 0) (lc (qg 137) (bg ln)))
def akS:=(sb 0 256 (lg 256) sn)
def akF(M:ax->Int->aW->ah rU):bw->bw:=eY vi 209 1 aj3 akS d209 (λg=>M g.1.2.1 g.1.2.2.1 g.2.1)
def aaQ(M:ax->Int->aW->ah rU):Prop:=HY vi 209 1 aj3 akS d209 (λg=>M g.1.2.1 g.1.2.2.1 g.2.1)
def Qw{M:ax->Int->aW->ah rU}(hM:aaQ M){F:bw}(h:bG vi F):bG vi (akF M F):=LF hM ⟨_,func209,by kernel_rfl,by kernel_rfl⟩ (λ_=>by kernel_rfl) h
def akn(M209:ax->Int->aW->ah rU):bw:=(akF M209 (ab2 eB))
def afA{M209}(h209:aaQ M209):bG vi (akn M209):=(Qw h209 (II aY))
structure vY where
 t2:Int
 t29:List ax
 (t30 t31:Int)
 b0:aW
def Nq:Td 1 vY:= .c [] [0,2,29,30,31] (.r 1 1 (ec 0 (qp 0 0) (ec 2 aU (ec 29 (ql 137) (ec 30 aU (ec 31 aU en))))) (sb 0 256 (lg 256) sn) (λz=>⟨z.1.2.1,z.1.t.1,z.1.t.2.1,z.1.q.1,z.2.1⟩) (λx=>(((),x.t2,x.t29,x.t30,x.t31,()),(x.b0,()))))
def Jg(M209:ax->Int->aW->ah rU)(p:vY):ah (ah vY):=
 bif O (p.t31<p.t30)then if 0<=p.t31/\p.t31<p.t29.length then match M209 (ax.mk p.t29[p.t31.toNat]!.bf p.t29[p.t31.toNat]!.fN p.t29[p.t31.toNat]!.aq) (i64.wrap (p.t2+1)) p.b0 with|V=>V|Q r1=>Q (Q (vY.mk p.t2 p.t29 p.t30 (i64.wrap (p.t31+1)) r1))else V else Q (V)
def DR(M209:ax->Int->aW->ah rU):=bJ (Jg M209)
def ahu(M209:ax->Int->aW->ah rU):An:=(noTwo (noTwo (noTwo (noTwo (noTwo (Nq.lp (DR M209) .no))))))
def aoV(M209:ax->Int->aW->ah rU):gv vi (akn M209) 1 300 209 (ahu M209):=cD (l:=[(bE f209 0,(Nq.lp (DR M209) .no))]) func209 (bR (by kernel_rfl)) (by kernel_rfl) (aB (aO Nq) aI)
def afq(M209:ax->Int->aW->ah rU)(a1:ax)(a2:Int)(b0:aW):ah rU:=
 bif b0.fL then bif(jA (aW.mk (i64.wrap (b0.bB+1)) G)).fst then Q ((jA (aW.mk (i64.wrap (b0.bB+1)) G)).snd)else match DR M209 (vY.mk a2 a1.aq a1.aq.length 0 (jA (aW.mk (i64.wrap (b0.bB+1)) G)).snd)with|V=>V|Q r2=>bif O (r2.t31<r2.t30)then if 0<=r2.t31/\r2.t31<r2.t29.length then match M209 (ax.mk r2.t29[r2.t31.toNat]!.bf r2.t29[r2.t31.toNat]!.fN r2.t29[r2.t31.toNat]!.aq) (i64.wrap (r2.t2+1)) r2.b0 with|V=>V|Q r3=>V else V else Q (r2.b0)else bif(jA (aW.mk (i64.wrap (b0.bB+1)) (O (12<a2)))).fst then Q ((jA (aW.mk (i64.wrap (b0.bB+1)) (O (12<a2)))).snd)else match DR M209 (vY.mk a2 a1.aq a1.aq.length 0 (jA (aW.mk (i64.wrap (b0.bB+1)) (O (12<a2)))).snd)with|V=>V|Q r4=>bif O (r4.t31<r4.t30)then if 0<=r4.t31/\r4.t31<r4.t29.length then match M209 (ax.mk r4.t29[r4.t31.toNat]!.bf r4.t29[r4.t31.toNat]!.fN r4.t29[r4.t31.toNat]!.aq) (i64.wrap (r4.t2+1)) r4.b0 with|V=>V|Q r5=>V else V else Q (r4.b0)
def auM(M209:ax->Int->aW->ah rU)(a1:ax)(a2:Int)(b0:aW):ct vi (akn M209) 300 (ahu M209) 209 (aj3.c ((),a1,a2,())) (akS.d (b0,())) 1 d209.rd=afq M209 a1 a2 b0:=by kernel_rfl
def aiz:Nat->(ax->Int->aW->ah rU)
 |0=>(λ_ _ _=>V)
 |n+1=>(afq (aiz n))
def Pg(n:Nat):ax->Int->aW->ah rU:=(aiz n)
def Lr:∀n,aaQ (Pg n)
 |0=>λ_ _ h=>(by cases h)
 |n+1=>by
  have ih:=Lr n;have i209:=ih;exact(RY (afA i209) (aoV (Pg n)) (λ_=>by kernel_rfl) (λ_=>by kernel_rfl) (λ_=>by kernel_rfl) λg=>auM (Pg n) g.1.2.1 g.1.2.2.1 g.2.1)
def Fv:ax->Int->aW->ah rU:=λa1 a2 b0=>lim (λn=>Pg n a1 a2 b0)
def afK:aaQ Fv:=λg b h=>by
 obtain⟨n,hn⟩:=dG (show lim (λn=>Pg n g.1.2.1 g.1.2.2.1 g.2.1)=Q b from h);exact(Lr n) g b hn
def alU(F:bw):bw:=akF Fv F
def Tj{F:bw}(h:bG vi F):bG vi (alU F):=Qw afK h
abbrev sq:=aW
def d207:Td 1 sq:= .c [] [] (.r 1 1 en (sb 0 256 (lg 256) sn) (λz=>z.2.1) (λx=>((()),(x,()))))
def alj:=(lc (qp 0 0) (lc (ql 166) (bg ln)))
def anG:=(sb 0 256 (lg 256) sn)
def al4(M:(aa ay)->Int->aW->ah sq):bw->bw:=eY vi 207 1 alj anG d207 (λg=>M g.1.2.1 g.1.2.2.1 g.2.1)
def acS(M:(aa ay)->Int->aW->ah sq):Prop:=HY vi 207 1 alj anG d207 (λg=>M g.1.2.1 g.1.2.2.1 g.2.1)
def RD{M:(aa ay)->Int->aW->ah sq}(hM:acS M){F:bw}(h:bG vi F):bG vi (al4 M F):=LF hM ⟨_,func207,by kernel_rfl,by kernel_rfl⟩ (λ_=>by kernel_rfl) h
def akY(M207:(aa ay)->Int->aW->ah sq):bw:=(alU (ab2 (al4 M207 eB)))
def agL{M207}(h207:acS M207):bG vi (akY M207):=(Tj (II (RD h207 aY)))
structure vL where
 t2:Int
 t8:List ay
 (t9 t10:Int)
 b0:aW
def OD:Td 1 vL:= .c [] [0,2,8,9,10] (.r 1 1 (ec 0 (qp 0 0) (ec 2 aU (ec 8 (ql 166) (ec 9 aU (ec 10 aU en))))) (sb 0 256 (lg 256) sn) (λz=>⟨z.1.2.1,z.1.t.1,z.1.t.2.1,z.1.q.1,z.2.1⟩) (λx=>(((),x.t2,x.t8,x.t9,x.t10,()),(x.b0,()))))
def CE(M207:(aa ay)->Int->aW->ah sq)(p:vL):ah (ah vL):=
 bif O (p.t10<p.t9)then if 0<=p.t10/\p.t10<p.t8.length then bif p.b0.fL then bif(jA (aW.mk (i64.wrap (p.b0.bB+1)) G)).fst then Q (V)else match Fv (ax.mk p.t8[p.t10.toNat]!.az.bf p.t8[p.t10.toNat]!.az.fN p.t8[p.t10.toNat]!.az.aq) 1 (jA (aW.mk (i64.wrap (p.b0.bB+1)) G)).snd with|V=>V|Q r1=>match M207 p.t8[p.t10.toNat]!.aD (i64.wrap (p.t2+1)) r1 with|V=>V|Q r2=>match M207 p.t8[p.t10.toNat]!.aJ (i64.wrap (p.t2+1)) r2 with|V=>V|Q r3=>Q (Q (vL.mk p.t2 p.t8 p.t9 (i64.wrap (p.t10+1)) r3))else bif(jA (aW.mk (i64.wrap (p.b0.bB+1)) (O (12<(((),p.t2,p.t8,p.t9,p.t10,()),p.b0,()).fst.snd.fst)))).fst then Q (V)else match Fv (ax.mk p.t8[p.t10.toNat]!.az.bf p.t8[p.t10.toNat]!.az.fN p.t8[p.t10.toNat]!.az.aq) 1 (jA (aW.mk (i64.wrap (p.b0.bB+1)) (O (12<(((),p.t2,p.t8,p.t9,p.t10,()),p.b0,()).fst.snd.fst)))).snd with|V=>V|Q r4=>match M207 p.t8[p.t10.toNat]!.aD (i64.wrap (p.t2+1)) r4 with|V=>V|Q r5=>match M207 p.t8[p.t10.toNat]!.aJ (i64.wrap (p.t2+1)) r5 with|V=>V|Q r6=>Q (Q (vL.mk p.t2 p.t8 p.t9 (i64.wrap (p.t10+1)) r6))else V else Q (V)
def Iq(M207:(aa ay)->Int->aW->ah sq):=bJ (CE M207)
def ahi(M207:(aa ay)->Int->aW->ah sq):An:=(noTwo (OD.lp (Iq M207) .no))
def apU(M207:(aa ay)->Int->aW->ah sq):gv vi (akY M207) 1 300 207 (ahi M207):=cD (l:=[(bE f207 0,(OD.lp (Iq M207) .no))]) func207 (bR (by kernel_rfl)) (by kernel_rfl) (aB (aO OD) aI)
def acQ(M207:(aa ay)->Int->aW->ah sq)(a1:aa ay)(a2:Int)(b0:aW):ah sq:=
 match Iq M207 (vL.mk a2 a1 a1.length 0 b0)with|V=>V|Q r7=>bif O (r7.t10<r7.t9)then if 0<=r7.t10/\r7.t10<r7.t8.length then bif r7.b0.fL then bif(jA (aW.mk (i64.wrap (r7.b0.bB+1)) G)).fst then Q ((jA (aW.mk (i64.wrap (r7.b0.bB+1)) G)).snd)else match Fv (ax.mk r7.t8[r7.t10.toNat]!.az.bf r7.t8[r7.t10.toNat]!.az.fN r7.t8[r7.t10.toNat]!.az.aq) 1 (jA (aW.mk (i64.wrap (r7.b0.bB+1)) G)).snd with|V=>V|Q r8=>match M207 r7.t8[r7.t10.toNat]!.aD (i64.wrap (r7.t2+1)) r8 with|V=>V|Q r9=>match M207 r7.t8[r7.t10.toNat]!.aJ (i64.wrap (r7.t2+1)) r9 with|V=>V|Q r10=>V else bif(jA (aW.mk (i64.wrap (r7.b0.bB+1)) (O (12<(((),r7.t2,r7.t8,r7.t9,r7.t10,()),r7.b0,()).fst.snd.fst)))).fst then Q ((jA (aW.mk (i64.wrap (r7.b0.bB+1)) (O (12<(((),r7.t2,r7.t8,r7.t9,r7.t10,()),r7.b0,()).fst.snd.fst)))).snd)else match Fv (ax.mk r7.t8[r7.t10.toNat]!.az.bf r7.t8[r7.t10.toNat]!.az.fN r7.t8[r7.t10.toNat]!.az.aq) 1 (jA (aW.mk (i64.wrap (r7.b0.bB+1)) (O (12<(((),r7.t2,r7.t8,r7.t9,r7.t10,()),r7.b0,()).fst.snd.fst)))).snd with|V=>V|Q r11=>match M207 r7.t8[r7.t10.toNat]!.aD (i64.wrap (r7.t2+1)) r11 with|V=>V|Q r12=>match M207 r7.t8[r7.t10.toNat]!.aJ (i64.wrap (r7.t2+1)) r12 with|V=>V|Q r13=>V else V else Q (r7.b0)
def awW(M207:(aa ay)->Int->aW->ah sq)(a1:aa ay)(a2:Int)(b0:aW):ct vi (akY M207) 300 (ahi M207) 207 (alj.c ((),a1,a2,())) (anG.d (b0,())) 1 d207.rd=acQ M207 a1 a2 b0:=by kernel_rfl
def ag4:Nat->((aa ay)->Int->aW->ah sq)
 |0=>(λ_ _ _=>V)
 |n+1=>(acQ (ag4 n))
def OU(n:Nat):(aa ay)->Int->aW->ah sq:=(ag4 n)
def LZ:∀n,acS (OU n)
 |0=>λ_ _ h=>(by cases h)
 |n+1=>by
  have ih:=LZ n;have i207:=ih;exact(RY (agL i207) (apU (OU n)) (λ_=>by kernel_rfl) (λ_=>by kernel_rfl) (λ_=>by kernel_rfl) λg=>awW (OU n) g.1.2.1 g.1.2.2.1 g.2.1)
def Zi:(aa ay)->Int->aW->ah sq:=λa1 a2 b0=>lim (λn=>OU n a1 a2 b0)
def abn:acS Zi:=λg b h=>by
 obtain⟨n,hn⟩:=dG (show lim (λn=>OU n g.1.2.1 g.1.2.2.1 g.2.1)=Q b from h);exact(LZ n) g b hn
def atv(F:bw):bw:=al4 Zi F
def abE{F:bw}(h:bG vi F):bG vi (atv F):=RD abn h
abbrev ar4:=Bool
def d260:Td 0 ar4:= .c [] [3] (.r 0 0 (ec 3 qb en) sn (λz=>z.1.1) (λx=>((x,()),(()))))
def VE(a0:aS)(c0:aS):ar4:=
 a0.fName.toList==c0.fName.toList
def axC:=eL vi 260 I (lc (qg 131) (lc (qr (lg 131)) ln)) d260 (λg=>Q (VE g.1 g.2.1))
def Rb:EO axC:=λh=>kL (an:= .no) func260 aY aI h
def asY:bw:=eB
structure C4 where
 t0:ByteArray
 (t14 t15:Int)
def On:Td 0 C4:= .c [] [0,14,15] (.r 0 0 (ec 0 qs (ec 14 aU (ec 15 aU en))) sn (λz=>⟨z.1.1,z.1.2.1,z.1.t.1⟩) (λx=>((x.t0,x.t14,x.t15,()),(()))))
def HB(p:C4):ah (ah C4):=
 bif O (p.t15<p.t14)then if 0<=p.t15/\p.t15<p.t0.size then match bif O (97<=cq p.t0 p.t15.toNat)then Q (O (cq p.t0 p.t15.toNat<=122))else Q I with|V=>V|Q r1=>match bif bif r1 then I else G then bif O (p.t15=0)then Q G else bif O (cq p.t0 p.t15.toNat<48)then bif bif O (cq p.t0 p.t15.toNat=46)then I else G then Q (bif O (cq p.t0 p.t15.toNat=95)then I else G)else Q I else bif O (57<cq p.t0 p.t15.toNat)then bif bif O (cq p.t0 p.t15.toNat=46)then I else G then Q (bif O (cq p.t0 p.t15.toNat=95)then I else G)else Q I else Q I else Q I with|V=>V|Q r2=>bif r2 then Q (V)else Q (Q (C4.mk p.t0 p.t14 (i64.wrap (p.t15+1))))else V else Q (V)
def WC:An:=(noTwo (noTwo (.two (noTwo (noTwo (.two (.rb [] 5) (.two (.rb [] 48) .no)))) .no)))
def Ii:=bJ (HB)
abbrev arz:=Bool
def d261:Td 0 arz:= .c [] [2] (.r 0 0 (ec 2 qb en) sn (λz=>z.1.1) (λx=>((x,()),(()))))
def Vy:∀f∈([]:aa Nat),bA (asY) f:=aI
def OY(a0:ByteArray):ah arz:=
 match bif a0.toList==(ByteArray.mk (xb [])).toList then Q G else Q (O (40<(a0.size:Int)))with|V=>V|Q r3=>bif r3 then Q I else match Ii (C4.mk a0 a0.size 0)with|V=>V|Q r4=>bif O (r4.t15<r4.t14)then if 0<=r4.t15/\r4.t15<r4.t0.size then match bif O (97<=cq r4.t0 r4.t15.toNat)then Q (O (cq r4.t0 r4.t15.toNat<=122))else Q I with|V=>V|Q r5=>match bif bif r5 then I else G then bif O (r4.t15=0)then Q G else bif O (cq r4.t0 r4.t15.toNat<48)then bif bif O (cq r4.t0 r4.t15.toNat=46)then I else G then Q (bif O (cq r4.t0 r4.t15.toNat=95)then I else G)else Q I else bif O (57<cq r4.t0 r4.t15.toNat)then bif bif O (cq r4.t0 r4.t15.toNat=46)then I else G then Q (bif O (cq r4.t0 r4.t15.toNat=95)then I else G)else Q I else Q I else Q I with|V=>V|Q r6=>bif r6 then Q I else V else V else Q G
def atm:=eL vi 261 I (lc qs ln) d261 (λg=>OY g.1)
def Rh:EO atm:=λh=>kL (F:=asY) (an:=(noTwo (.two (.two (.rb [] 12) .no) (.two (noTwo (On.lp Ii WC)) .no)))) (l:=[(.skip,(.rb [] 12)),(bE f261 0,(On.lp Ii WC)),(.skip,(.rb [] 5)),(.skip,(.rb [] 48))]) func261 aY (aB Vy (aB (aO On) (aB Vy (aB Vy aI)))) h
structure DK where
 t0:List aS
 jr:ByteArray
 (jm oo ob nI t7 t8:Int)
def Px:Td 0 DK:= .c [] [0,1,7,8] (.r 0 0 (ec 0 (ql 131) (ec 1 (qf 260 (lc (qr (lc qs (bg (bg (bg (bg ln)))))) ln)) (ec 7 aU (ec 8 aU en)))) sn (λz=>⟨z.1.1,z.1.2.1.1.1,z.1.2.1.1.2.1,z.1.2.1.1.t.1,z.1.2.1.1.t.2.1,z.1.2.1.1.q.1,z.1.t.1,z.1.t.2.1⟩) (λx=>((x.t0,((x.jr,x.jm,x.oo,x.ob,x.nI,()),()),x.t7,x.t8,()),(()))))
def HR(p:DK):ah (ah DK):=
 bif O (p.t8<p.t7)then if 0<=p.t8/\p.t8<p.t0.length then bif VE p.t0[p.t8.toNat]! (aS.mk p.jr p.jm p.oo p.ob p.nI)then Q (V)else Q (Q (DK.mk p.t0 p.jr p.jm p.oo p.ob p.nI p.t7 (i64.wrap (p.t8+1))))else V else Q (V)
def IJ:=bJ (HR)
abbrev aoo:=Int
def d303:Td 0 aoo:= .c [] [4] (.r 0 0 (ec 4 aU en) sn (λz=>z.1.1) (λx=>((x,()),(()))))
def amV(a0:aa aS)(a1_0:aS):ah aoo:=
 match IJ (DK.mk a0 a1_0.fName a1_0.bq a1_0.ag a1_0.af a1_0.dB a0.length 0)with|V=>V|Q r1=>bif O (r1.t8<r1.t7)then if 0<=r1.t8/\r1.t8<r1.t0.length then bif VE r1.t0[r1.t8.toNat]! (aS.mk r1.jr r1.jm r1.oo r1.ob r1.nI)then Q (r1.t8)else V else V else Q (-1)
def auU:=eL vi 303 G (lc (ql 131) (lc (qf 260 (lc (qr (lg 131)) ln)) ln)) d303 (λg=>amV g.1 g.2.1.1)
def abB:EO auU:=λh=>kL (an:=(noTwo (.two (noTwo (Px.lp IJ .no)) .no))) (l:=[(bE f303 0,(Px.lp IJ .no))]) func303 (Rb aY) (aB (aO Px) aI) h
abbrev atg:=Bool
def d262:Td 0 atg:= .c [] [4] (.r 0 0 (ec 4 qb en) sn (λz=>z.1.1) (λx=>((x,()),(()))))
def XC(a0:aa aS)(a1_0:aS):ah atg:=
 match amV a0 a1_0 with|V=>V|Q r1=>Q (O (0<=r1))
def aqK:=eL vi 262 G (lc (ql 131) (lc (qf 260 (lc (qr (lg 131)) ln)) ln)) d262 (λg=>XC g.1 g.2.1.1)
def aeQ:EO aqK:=λh=>kL (an:= .no) func262 (abB (Rb aY)) aI h
def alu:bw:=eB
abbrev aml:=Bool
def d263:Td 0 aml:= .c [] [4] (.r 0 0 (ec 4 qb en) sn (λz=>z.1.1) (λx=>((x,()),(()))))
def aoU:=(bg (bg ln))
def ahB:An:=(noTwo (.two (.rb [] 4) .no))
def aqt:∀f∈([]:aa Nat),bA (alu) f:=aI
def I3(a0:Int)(a1:Int):aml:=
 let r1:Bool:=bif O (a0<=a1)then bif O (-1048576<=a0)then O (a1<=1048576)else I else I;r1
def avu(a0:Int)(a1:Int):ct vi (alu) 300 (ahB) 263 (aoU.c (a0,a1,())) [] 0 d263.rd=Q (I3 a0 a1):=by
 refine Eq.trans (b:=(
  match bif O (a0<=a1)then bif O (-1048576<=a0)then Q (O (a1<=1048576))else Q (I)else Q (I)with|V=>V|Q r1=>Q (r1):ah aml)) (by kernel_rfl) ?_
 simp only[I3,cO,de]
def apB:=eL vi 263 I aoU d263 (λg=>Q (I3 g.1 g.2.1))
def QL:EO apB:=λh=>kL (F:=alu) (an:=ahB) (l:=[(.skip,(.rb [] 4))]) func263 aY (aB aqt aI) h (c:=λg=>avu g.1 g.2.1)
abbrev aon:=Int
def d337:Td 0 aon:= .c [] [2] (.r 0 0 (ec 2 aU en) sn (λz=>z.1.1) (λx=>((x,()),(()))))
def FA(a0:aS):aon:=
 i64.wrap (i64.wrap (a0.af-a0.ag)+1)
def aqu:=eL vi 337 I (lc (qg 131) ln) d337 (λg=>Q (FA g.1))
def abd:EO aqu:=λh=>kL (an:= .no) func337 aY aI h
def aop:bw:=(aqu eB)
structure qA where
 t7:List aS
 t10:Int
 t49:List aS
 (t50 t51:Int)
def NO:Td 0 qA:= .c [] [7,10,49,50,51] (.r 0 1 (ec 7 (qo 0) (ec 10 aU (ec 49 (qo 0) (ec 50 aU (ec 51 aU en))))) (sr 0 131 sn) (λz=>⟨z.2.1,z.1.2.1,z.2.1,z.1.t.2.1,z.1.q.1⟩) (λx=>(((),x.t10,(),x.t50,x.t51,()),(x.t49,()))))
def Je(p:qA):ah (ah qA):=
 bif O (p.t51<p.t50)then if 0<=p.t51/\p.t51<p.t49.length then if 131=131/\p.t51.toNat<p.t49.length then bif O (4096<i64.wrap (p.t10*FA p.t49[p.t51.toNat]!))then Q (V)else Q (Q (qA.mk p.t49 (i64.wrap (p.t10*FA p.t49[p.t51.toNat]!)) p.t49 p.t50 (i64.wrap (p.t51+1))))else V else V else Q (V)
def tJ:=bJ (Je)
structure nN where
 t1:Int
 (t7 t19:List aS)
 (t20 t21:Int)
def NF:Td 0 nN:= .c [] [1,7,19,20,21] (.t (cU.s 7 [] 131) (.c [] [1,7,19,20,21] (.r 0 1 (ec 1 aU (ec 7 (qo 0) (ec 19 (ql 131) (ec 20 aU (ec 21 aU en))))) (sr 0 131 sn) (λz=>⟨z.1.1,z.2.1,z.1.t.1,z.1.t.2.1,z.1.q.1⟩) (λx=>((x.t1,(),x.t19,x.t20,x.t21,()),(x.t7,()))))))
def Ed(p:nN):ah (ah nN):=
 bif O (p.t21<p.t20)then if 0<=p.t21/\p.t21<p.t19.length then bif bif O (p.t19[p.t21.toNat]!.bq=p.t1)then I else G then Q (Q (nN.mk p.t1 p.t7 p.t19 p.t20 (i64.wrap (p.t21+1))))else match bif O (p.t19[p.t21.toNat]!.af<p.t19[p.t21.toNat]!.ag)then Q G else bif O (p.t19[p.t21.toNat]!.ag< -1048576)then Q G else Q (O (1048576<p.t19[p.t21.toNat]!.af))with|V=>V|Q r1=>bif r1 then Q (V)else if(p.t7++[p.t19[p.t21.toNat]!]).length<=1073741824 then Q (Q (nN.mk p.t1 (p.t7++[p.t19[p.t21.toNat]!]) p.t19 p.t20 (i64.wrap (p.t21+1))))else V else V else Q (V)
def WG:An:=(noTwo (noTwo (.two (noTwo (noTwo (.two (.two (.rb [] 43) .no) .no))) .no)))
def tE:=bJ (Ed)
abbrev aoQ:=(aa aS)×Int×Int
def d304:Td 0 aoQ:= .c [] [4,5,6] (.t (cU.s 4 [] 131) (.c [] [4,5,6] (.r 0 1 (ec 4 (qo 0) (ec 5 aU (ec 6 aU en))) (sr 0 131 sn) (λz=>(z.2.1,z.1.2.1,z.1.t.1)) (λx=>(((),x.2.1,x.t,()),(x.1,()))))))
def aoJ:∀f∈([]:aa Nat),bA (aop) f:=aI
def akO(a0:aa aS)(a1:Int):ah aoQ:=
 bif O (a1=0)then match tE (nN.mk a1 [] a0 a0.length 0)with|V=>V|Q r2=>bif O (r2.t21<r2.t20)then if 0<=r2.t21/\r2.t21<r2.t19.length then bif bif O (r2.t19[r2.t21.toNat]!.bq=r2.t1)then I else G then V else match bif O (r2.t19[r2.t21.toNat]!.af<r2.t19[r2.t21.toNat]!.ag)then Q G else bif O (r2.t19[r2.t21.toNat]!.ag< -1048576)then Q G else Q (O (1048576<r2.t19[r2.t21.toNat]!.af))with|V=>V|Q r3=>bif r3 then Q ([],0,3)else if(r2.t7++[r2.t19[r2.t21.toNat]!]).length<=1073741824 then V else V else V else match tJ (qA.mk r2.t7 1 r2.t7 r2.t7.length 0)with|V=>V|Q r4=>bif O (r4.t51<r4.t50)then if 0<=r4.t51/\r4.t51<r4.t49.length then if 131=131/\r4.t51.toNat<r4.t49.length then bif O (4096<i64.wrap (r4.t10*FA r4.t49[r4.t51.toNat]!))then Q ([],0,4)else V else V else V else Q (r4.t49,r4.t10,0)else bif O (a1=1)then match tE (nN.mk a1 [] a0 a0.length 0)with|V=>V|Q r5=>bif O (r5.t21<r5.t20)then if 0<=r5.t21/\r5.t21<r5.t19.length then bif bif O (r5.t19[r5.t21.toNat]!.bq=r5.t1)then I else G then V else match bif O (r5.t19[r5.t21.toNat]!.af<r5.t19[r5.t21.toNat]!.ag)then Q G else bif O (r5.t19[r5.t21.toNat]!.ag< -1048576)then Q G else Q (O (1048576<r5.t19[r5.t21.toNat]!.af))with|V=>V|Q r6=>bif r6 then Q ([],0,3)else if(r5.t7++[r5.t19[r5.t21.toNat]!]).length<=1073741824 then V else V else V else match tJ (qA.mk r5.t7 1 r5.t7 r5.t7.length 0)with|V=>V|Q r7=>bif O (r7.t51<r7.t50)then if 0<=r7.t51/\r7.t51<r7.t49.length then if 131=131/\r7.t51.toNat<r7.t49.length then bif O (4096<i64.wrap (r7.t10*FA r7.t49[r7.t51.toNat]!))then Q ([],0,4)else V else V else V else Q (r7.t49,r7.t10,0)else bif O (a1=2)then match tE (nN.mk a1 [] a0 a0.length 0)with|V=>V|Q r8=>bif O (r8.t21<r8.t20)then if 0<=r8.t21/\r8.t21<r8.t19.length then bif bif O (r8.t19[r8.t21.toNat]!.bq=r8.t1)then I else G then V else match bif O (r8.t19[r8.t21.toNat]!.af<r8.t19[r8.t21.toNat]!.ag)then Q G else bif O (r8.t19[r8.t21.toNat]!.ag< -1048576)then Q G else Q (O (1048576<r8.t19[r8.t21.toNat]!.af))with|V=>V|Q r9=>bif r9 then Q ([],0,3)else if(r8.t7++[r8.t19[r8.t21.toNat]!]).length<=1073741824 then V else V else V else match tJ (qA.mk r8.t7 1 r8.t7 r8.t7.length 0)with|V=>V|Q r10=>bif O (r10.t51<r10.t50)then if 0<=r10.t51/\r10.t51<r10.t49.length then if 131=131/\r10.t51.toNat<r10.t49.length then bif O (4096<i64.wrap (r10.t10*FA r10.t49[r10.t51.toNat]!))then Q ([],0,4)else V else V else V else Q (r10.t49,r10.t10,0)else bif O (a1=3)then match tE (nN.mk a1 [] a0 a0.length 0)with|V=>V|Q r11=>bif O (r11.t21<r11.t20)then if 0<=r11.t21/\r11.t21<r11.t19.length then bif bif O (r11.t19[r11.t21.toNat]!.bq=r11.t1)then I else G then V else match bif O (r11.t19[r11.t21.toNat]!.af<r11.t19[r11.t21.toNat]!.ag)then Q G else bif O (r11.t19[r11.t21.toNat]!.ag< -1048576)then Q G else Q (O (1048576<r11.t19[r11.t21.toNat]!.af))with|V=>V|Q r12=>bif r12 then Q ([],0,3)else if(r11.t7++[r11.t19[r11.t21.toNat]!]).length<=1073741824 then V else V else V else match tJ (qA.mk r11.t7 1 r11.t7 r11.t7.length 0)with|V=>V|Q r13=>bif O (r13.t51<r13.t50)then if 0<=r13.t51/\r13.t51<r13.t49.length then if 131=131/\r13.t51.toNat<r13.t49.length then bif O (4096<i64.wrap (r13.t10*FA r13.t49[r13.t51.toNat]!))then Q ([],0,4)else V else V else V else Q (r13.t49,r13.t10,0)else Q ([],0,1)
def awJ:=eL vi 304 I (lc (ql 131) (bg ln)) d304 (λg=>akO g.1 g.2.1)
def afH:EO awJ:=λh=>kL (F:=aop) (an:=(noTwo (noTwo (noTwo (.two (noTwo (NF.lp tE WG)) (noTwo (.two (noTwo (NO.lp tJ .no)) .no))))))) (l:=[(bE f304 0,(NF.lp tE WG)),(.skip,(.rb [] 43)),(bE f304 1,(NO.lp tJ .no))]) func304 (abd aY) (aB (aO NF) (aB aoJ (aB (aO NO) aI))) h
abbrev apt:=Int×Int
def d264:Td 0 apt:= .c [] [4,5] (.r 0 0 (ec 4 aU (ec 5 aU en)) sn (λz=>(z.1.1,z.1.2.1)) (λx=>((x.1,x.2,()),(()))))
def WN(a0:aa aS)(a1:Int):ah apt:=
 match akO a0 a1 with|V=>V|Q r1=>Q (r1.snd)
def asr:=eL vi 264 I (lc (ql 131) (bg ln)) d264 (λg=>WN g.1 g.2.1)
def ad5:EO asr:=λh=>kL (an:= .no) func264 (afH aY) aI h
def asT:bw:=(asr (apB (aqK (atm eB))))
structure E9 where
 t0:List aS
 t71:List Int
 (t72 t73:Int)
def No:Td 0 E9:= .c [] [0,71,72,73] (.r 0 1 (ec 0 (ql 131) (ec 71 (qo 0) (ec 72 aU (ec 73 aU en)))) (sr 0 129 sn) (λz=>⟨z.1.1,z.2.1,z.1.t.1,z.1.t.2.1⟩) (λx=>((x.t0,(),x.t72,x.t73,()),(x.t71,()))))
def qU(p:E9):ah (ah E9):=
 bif O (p.t73<p.t72)then if 0<=p.t73/\p.t73<p.t71.length then if 129=129/\p.t73.toNat<p.t71.length then match WN p.t0 p.t71[p.t73.toNat]! with|V=>V|Q r6=>match bif bif O (r6.snd=0)then I else G then Q G else bif O (((p.t0,(),p.t72,p.t73,()),p.t71,()).snd.fst[((p.t0,(),p.t72,p.t73,()),p.t71,()).fst.snd.snd.snd.fst.toNat]! =3)then Q (O (256<r6.fst))else Q I with|V=>V|Q r7=>bif r7 then Q (V)else Q (Q (E9.mk p.t0 p.t71 p.t72 (i64.wrap (p.t73+1))))else V else V else Q (V)
def XI:An:=(noTwo (noTwo (.two (noTwo (noTwo (.two (.rb [] 92) .no))) .no)))
def pP:=bJ (qU)
structure Fc where
 (t0 t10:List aS)
 (t11 t12:Int)
def NQ:Td 0 Fc:= .c [] [0,10,11,12] (.r 0 0 (ec 0 (ql 131) (ec 10 (ql 131) (ec 11 aU (ec 12 aU en)))) sn (λz=>⟨z.1.1,z.1.2.1,z.1.t.1,z.1.t.2.1⟩) (λx=>((x.t0,x.t10,x.t11,x.t12,()),(()))))
def Bg(p:Fc):ah (ah Fc):=
 bif O (p.t12<p.t11)then if 0<=p.t12/\p.t12<p.t10.length then match OY p.t10[p.t12.toNat]!.fName with|V=>V|Q r1=>bif bif r1 then I else G then Q (V)else if 0<=p.t12/\p.t12<=p.t0.length then match XC (List.take p.t12.toNat p.t0) p.t10[p.t12.toNat]! with|V=>V|Q r2=>bif r2 then Q (V)else match bif O (p.t10[p.t12.toNat]!.bq<0)then Q G else Q (O (3<p.t10[p.t12.toNat]!.bq))with|V=>V|Q r3=>bif r3 then Q (V)else bif bif I3 p.t10[p.t12.toNat]!.ag p.t10[p.t12.toNat]!.af then I else G then Q (V)else match bif bif O (p.t10[p.t12.toNat]!.bq=0)then I else G then Q (bif O (p.t10[p.t12.toNat]!.dB=0)then I else G)else Q I with|V=>V|Q r4=>bif r4 then Q (V)else match bif O (p.t10[p.t12.toNat]!.bq=0)then bif O (p.t10[p.t12.toNat]!.dB<p.t10[p.t12.toNat]!.ag)then Q G else Q (O (p.t10[p.t12.toNat]!.af<p.t10[p.t12.toNat]!.dB))else Q I with|V=>V|Q r5=>bif r5 then Q (V)else Q (Q (Fc.mk p.t0 p.t10 p.t11 (i64.wrap (p.t12+1))))else V else V else Q (V)
def VC:An:=(noTwo (noTwo (.two (noTwo (noTwo (noTwo (noTwo (noTwo (noTwo (.two (.rb [] 29) (noTwo (.two (noTwo (noTwo (.two (.rb [] 38) (noTwo (.rb [] 38))))) .no))))))))) .no)))
def Ia:=bJ (Bg)
abbrev arG:=Int
def d210:Td 0 arG:= .c [] [2] (.r 0 0 (ec 2 aU en) sn (λz=>z.1.1) (λx=>((x,()),(()))))
def Sg:∀f∈([]:aa Nat),bA (asT) f:=aI
def acT(a0:aa aS):ah arG:=
 match Ia (Fc.mk a0 a0 a0.length 0)with|V=>V|Q r8=>bif O (r8.t12<r8.t11)then if 0<=r8.t12/\r8.t12<r8.t10.length then match OY r8.t10[r8.t12.toNat]!.fName with|V=>V|Q r9=>bif bif r9 then I else G then Q 7 else if 0<=r8.t12/\r8.t12<=r8.t0.length then match XC (List.take r8.t12.toNat r8.t0) r8.t10[r8.t12.toNat]! with|V=>V|Q r10=>bif r10 then Q 8 else match bif O (r8.t10[r8.t12.toNat]!.bq<0)then Q G else Q (O (3<r8.t10[r8.t12.toNat]!.bq))with|V=>V|Q r11=>bif r11 then Q 1 else bif bif I3 r8.t10[r8.t12.toNat]!.ag r8.t10[r8.t12.toNat]!.af then I else G then Q 3 else match bif bif O (r8.t10[r8.t12.toNat]!.bq=0)then I else G then Q (bif O (r8.t10[r8.t12.toNat]!.dB=0)then I else G)else Q I with|V=>V|Q r12=>bif r12 then Q 3 else match bif O (r8.t10[r8.t12.toNat]!.bq=0)then bif O (r8.t10[r8.t12.toNat]!.dB<r8.t10[r8.t12.toNat]!.ag)then Q G else Q (O (r8.t10[r8.t12.toNat]!.af<r8.t10[r8.t12.toNat]!.dB))else Q I with|V=>V|Q r13=>bif r13 then Q 3 else V else V else V else match pP (E9.mk r8.t0 [1,2,3] (3:Int) 0)with|V=>V|Q r14=>bif O (r14.t73<r14.t72)then if 0<=r14.t73/\r14.t73<r14.t71.length then if 129=129/\r14.t73.toNat<r14.t71.length then match WN r14.t0 r14.t71[r14.t73.toNat]! with|V=>V|Q r15=>match bif bif O (r15.snd=0)then I else G then Q G else bif O (((r14.t0,(),r14.t72,r14.t73,()),r14.t71,()).snd.fst[((r14.t0,(),r14.t72,r14.t73,()),r14.t71,()).fst.snd.snd.snd.fst.toNat]! =3)then Q (O (256<r15.fst))else Q I with|V=>V|Q r16=>bif r16 then Q 4 else V else V else V else Q 0
def asU:=eL vi 210 I (lc (ql 131) ln) d210 (λg=>acT g.1)
def ac4:EO asU:=λh=>kL (F:=asT) (an:=(noTwo (.two (noTwo (NQ.lp Ia VC)) (.two (noTwo (No.lp pP XI)) .no)))) (l:=[(bE f210 0,(NQ.lp Ia VC)),(.skip,(.rb [] 29)),(.skip,(.rb [] 38)),(.skip,(.rb [] 38)),(bE f210 1,(No.lp pP XI)),(.skip,(.rb [] 92))]) func210 (ad5 (QL (aeQ (Rh aY)))) (aB (aO NQ) (aB Sg (aB Sg (aB Sg (aB (aO No) (aB Sg aI)))))) h
abbrev arV:=Bool
def d265:Td 0 arV:= .c [] [3] (.r 0 0 (ec 3 qb en) sn (λz=>z.1.1) (λx=>((x,()),(()))))
def Zl(a0:dz)(c0:dz):arV:=
 a0.fName.toList==c0.fName.toList
def auO:=eL vi 265 I (lc (qg 139) (lc (qr (lg 139)) ln)) d265 (λg=>Q (Zl g.1 g.2.1))
def SJ:EO auO:=λh=>kL (an:= .no) func265 aY aI h
structure CX where
 t0:List dz
 jr:ByteArray
 (jm oo ob nI:Int)
 H9:List ax
 (t7 t8:Int)
def MX:Td 0 CX:= .c [] [0,1,7,8] (.r 0 0 (ec 0 (ql 139) (ec 1 (qf 265 (lc (qr (lc qs (bg (bg (bg (bg (lc (ql 137) ln))))))) ln)) (ec 7 aU (ec 8 aU en)))) sn (λz=>⟨z.1.1,z.1.2.1.1.1,z.1.2.1.1.2.1,z.1.2.1.1.t.1,z.1.2.1.1.t.2.1,z.1.2.1.1.q.1,z.1.2.1.1.q.2.1,z.1.t.1,z.1.t.2.1⟩) (λx=>((x.t0,((x.jr,x.jm,x.oo,x.ob,x.nI,x.H9,()),()),x.t7,x.t8,()),(()))))
def Ih(p:CX):ah (ah CX):=
 bif O (p.t8<p.t7)then if 0<=p.t8/\p.t8<p.t0.length then bif Zl (dz.mk p.t0[p.t8.toNat]!.fName p.t0[p.t8.toNat]!.ag p.t0[p.t8.toNat]!.af (ax.mk p.t0[p.t8.toNat]!.az.bf p.t0[p.t8.toNat]!.az.fN p.t0[p.t8.toNat]!.az.aq)) (dz.mk p.jr p.jm p.oo (ax.mk p.ob p.nI p.H9))then Q (V)else Q (Q (CX.mk p.t0 p.jr p.jm p.oo p.ob p.nI p.H9 p.t7 (i64.wrap (p.t8+1))))else V else Q (V)
def IQ:=bJ (Ih)
abbrev as6:=Int
def d305:Td 0 as6:= .c [] [4] (.r 0 0 (ec 4 aU en) sn (λz=>z.1.1) (λx=>((x,()),(()))))
def aj6(a0:aa dz)(a1_0:dz):ah as6:=
 match IQ (CX.mk a0 a1_0.fName a1_0.ag a1_0.af a1_0.az.bf a1_0.az.fN a1_0.az.aq a0.length 0)with|V=>V|Q r1=>bif O (r1.t8<r1.t7)then if 0<=r1.t8/\r1.t8<r1.t0.length then bif Zl (dz.mk r1.t0[r1.t8.toNat]!.fName r1.t0[r1.t8.toNat]!.ag r1.t0[r1.t8.toNat]!.af (ax.mk r1.t0[r1.t8.toNat]!.az.bf r1.t0[r1.t8.toNat]!.az.fN r1.t0[r1.t8.toNat]!.az.aq)) (dz.mk r1.jr r1.jm r1.oo (ax.mk r1.ob r1.nI r1.H9))then Q (r1.t8)else V else V else Q (-1)
def avE:=eL vi 305 G (lc (ql 139) (lc (qf 265 (lc (qr (lg 139)) ln)) ln)) d305 (λg=>aj6 g.1 g.2.1.1)
def agj:EO avE:=λh=>kL (an:=(noTwo (.two (noTwo (MX.lp IQ .no)) .no))) (l:=[(bE f305 0,(MX.lp IQ .no))]) func305 (SJ aY) (aB (aO MX) aI) h
abbrev aq4:=Bool
def d266:Td 0 aq4:= .c [] [4] (.r 0 0 (ec 4 qb en) sn (λz=>z.1.1) (λx=>((x,()),(()))))
def ZF(a0:aa dz)(a1_0:dz):ah aq4:=
 match aj6 a0 (dz.mk a1_0.fName a1_0.ag a1_0.af (ax.mk a1_0.az.bf a1_0.az.fN a1_0.az.aq))with|V=>V|Q r1=>Q (O (0<=r1))
def awQ:=eL vi 266 G (lc (ql 139) (lc (qf 265 (lc (qr (lg 139)) ln)) ln)) d266 (λg=>ZF g.1 g.2.1.1)
def adh:EO awQ:=λh=>kL (an:= .no) func266 (agj (SJ aY)) aI h
def ana:bw:=eB
abbrev amJ:=Int×Int
def d338:Td 0 amJ:= .c [] [2,3] (.r 0 0 (ec 2 aU (ec 3 aU en)) sn (λz=>(z.1.1,z.1.2.1)) (λx=>((x.1,x.2,()),(()))))
def aoE:=(bg ln)
def aiN:An:=(noTwo (.two (.two (.rb [] 4) (noTwo (.two (.rb [] 11) (noTwo (.two (.rb [] 18) .no))))) .no))
def Zy:∀f∈([]:aa Nat),bA (ana) f:=aI
def J7(a0:Int):amJ:=
 let r1:Bool:=bif O (a0=0)then G else O (a0=24);bif r1 then(0,0)else let r2:Bool:=bif O (a0=6)then G else O (a0=7);bif r2 then(1,1)else let r3:Bool:=bif O (8<=a0)then O (a0<=22)else I;bif r3 then(2,2)else bif O (a0=23)then(3,3)else bif O (a0=25)then(2,33)else(-1,-1)
def au9(a0:Int):ct vi (ana) 300 (aiN) 338 (aoE.c (a0,())) [] 0 d338.rd=Q (J7 a0):=by
 refine Eq.trans (b:=(
  match bif O (a0=0)then Q (G)else Q (O (a0=24))with|V=>V|Q r1=>bif r1 then Q ((0,0))else match bif O (a0=6)then Q (G)else Q (O (a0=7))with|V=>V|Q r2=>bif r2 then Q ((1,1))else match bif O (8<=a0)then Q (O (a0<=22))else Q (I)with|V=>V|Q r3=>bif r3 then Q ((2,2))else bif O (a0=23)then Q ((3,3))else bif O (a0=25)then Q ((2,33))else Q ((-1,-1)):ah amJ)) (by kernel_rfl) ?_
 simp only[J7,cO,de]
def ast:=eL vi 338 I aoE d338 (λg=>Q (J7 g.1))
def agr:EO ast:=λh=>kL (F:=ana) (an:=aiN) (l:=[(.skip,(.rb [] 4)),(.skip,(.rb [] 11)),(.skip,(.rb [] 18))]) func338 aY (aB Zy (aB Zy (aB Zy aI))) h (c:=λg=>au9 g.1)
abbrev rP:=Bool
def d306:Td 0 rP:= .c [] [6] (.r 0 0 (ec 6 qb en) sn (λz=>z.1.1) (λx=>((x,()),(()))))
def al7:=(lc (ql 131) (lc (qg 137) (lc qb ln)))
def anN(M:(aa aS)->ax->Bool->ah rP):bw->bw:=eL vi 306 I al7 d306 (λg=>M g.1 g.2.1 g.2.2.1)
def ZU(M:(aa aS)->ax->Bool->ah rP):Prop:=HL vi 306 al7 d306 (λg=>M g.1 g.2.1 g.2.2.1)
def Q5{M:(aa aS)->ax->Bool->ah rP}(hM:ZU M){F:bw}(h:bG vi F):bG vi (anN M F):=iJ (sc:=Ec) fS hM ⟨_,func306,by kernel_rfl,by kernel_rfl⟩ (λ_=>by kernel_rfl) (λ_=>by kernel_rfl) h
def acY(M306:(aa aS)->ax->Bool->ah rP):bw:=(ast (anN M306 eB))
def ac0{M306}(h306:ZU M306):bG vi (acY M306):=(agr (Q5 h306 aY))
structure tL where
 t0:List aS
 t2:Bool
 t65:List ax
 (t66 t67:Int)
def Oz:Td 0 tL:= .c [] [0,2,65,66,67] (.r 0 0 (ec 0 (ql 131) (ec 2 qb (ec 65 (ql 137) (ec 66 aU (ec 67 aU en))))) sn (λz=>⟨z.1.1,z.1.2.1,z.1.t.1,z.1.t.2.1,z.1.q.1⟩) (λx=>((x.t0,x.t2,x.t65,x.t66,x.t67,()),(()))))
def ID(M306:(aa aS)->ax->Bool->ah rP)(p:tL):ah (ah tL):=
 bif O (p.t67<p.t66)then if 0<=p.t67/\p.t67<p.t65.length then match M306 p.t0 (ax.mk p.t65[p.t67.toNat]!.bf p.t65[p.t67.toNat]!.fN p.t65[p.t67.toNat]!.aq) p.t2 with|V=>V|Q r1=>bif bif r1 then I else G then Q (V)else Q (Q (tL.mk p.t0 p.t2 p.t65 p.t66 (i64.wrap (p.t67+1))))else V else Q (V)
def vQ(M306:(aa aS)->ax->Bool->ah rP):=bJ (ID M306)
def aiq(M306:(aa aS)->ax->Bool->ah rP):An:=(noTwo (noTwo (.two (.two (.rb [] 32) .no) (.two (noTwo (noTwo (noTwo (noTwo (.two (.two (.rb [] 63) .no) .no))))) (.two (noTwo (Oz.lp (vQ M306) .no)) .no)))))
def ahh{M306}:∀f∈([]:aa Nat),bA (acY M306) f:=aI
def asR(M306:(aa aS)->ax->Bool->ah rP):gv vi (acY M306) 0 300 306 (aiq M306):=cD (l:=[(.skip,(.rb [] 32)),(.skip,(.rb [] 63)),(bE f306 0,(Oz.lp (vQ M306) .no))]) func306 (bR (by kernel_rfl)) (by kernel_rfl) (aB ahh (aB ahh (aB (aO Oz) aI)))
def aeq(M306:(aa aS)->ax->Bool->ah rP)(a0:aa aS)(a1:ax)(a2:Bool):ah rP:=
 match bif O ((J7 a1.bf).fst<0)then Q G else bif O ((a1.aq.length:Int)<(J7 a1.bf).fst)then Q G else Q (O ((J7 a1.bf).snd<a1.aq.length))with|V=>V|Q r2=>bif r2 then Q I else bif O (a1.bf=0)then match vQ M306 (tL.mk a0 a2 a1.aq a1.aq.length 0)with|V=>V|Q r3=>bif O (r3.t67<r3.t66)then if 0<=r3.t67/\r3.t67<r3.t65.length then match M306 r3.t0 (ax.mk r3.t65[r3.t67.toNat]!.bf r3.t65[r3.t67.toNat]!.fN r3.t65[r3.t67.toNat]!.aq) r3.t2 with|V=>V|Q r4=>bif bif r4 then I else G then Q I else V else V else Q G else bif O (a1.bf=24)then match bif O (a1.fN<0)then Q G else bif O (a0.length<=a1.fN)then Q G else bif a2 then if 0<=a1.fN/\a1.fN<a0.length then Q (O (a0[a1.fN.toNat]!.bq=0))else V else Q I with|V=>V|Q r5=>bif r5 then Q I else match vQ M306 (tL.mk a0 a2 a1.aq a1.aq.length 0)with|V=>V|Q r6=>bif O (r6.t67<r6.t66)then if 0<=r6.t67/\r6.t67<r6.t65.length then match M306 r6.t0 (ax.mk r6.t65[r6.t67.toNat]!.bf r6.t65[r6.t67.toNat]!.fN r6.t65[r6.t67.toNat]!.aq) r6.t2 with|V=>V|Q r7=>bif bif r7 then I else G then Q I else V else V else Q G else bif bif O (a1.fN=0)then I else G then Q I else match vQ M306 (tL.mk a0 a2 a1.aq a1.aq.length 0)with|V=>V|Q r8=>bif O (r8.t67<r8.t66)then if 0<=r8.t67/\r8.t67<r8.t65.length then match M306 r8.t0 (ax.mk r8.t65[r8.t67.toNat]!.bf r8.t65[r8.t67.toNat]!.fN r8.t65[r8.t67.toNat]!.aq) r8.t2 with|V=>V|Q r9=>bif bif r9 then I else G then Q I else V else V else Q G
def awY(M306:(aa aS)->ax->Bool->ah rP)(a0:aa aS)(a1:ax)(a2:Bool):ct vi (acY M306) 300 (aiq M306) 306 (al7.c (a0,a1,a2,())) [] 0 d306.rd=aeq M306 a0 a1 a2:=by kernel_rfl
def ahV:Nat->((aa aS)->ax->Bool->ah rP)
 |0=>(λ_ _ _=>V)
 |n+1=>(aeq (ahV n))
def Pq(n:Nat):(aa aS)->ax->Bool->ah rP:=(ahV n)
def Kn:∀n,ZU (Pq n)
 |0=>λ_ _ h=>(by cases h)
 |n+1=>by
  have ih:=Kn n;have i306:=ih;exact(fm (ac0 i306) (asR (Pq n)) (λ_=>by kernel_rfl) (λ_=>by kernel_rfl) λg=>awY (Pq n) g.1 g.2.1 g.2.2.1)
def afd:(aa aS)->ax->Bool->ah rP:=λa0 a1 a2=>lim (λn=>Pq n a0 a1 a2)
def aeE:ZU afd:=λg b h=>by
 obtain⟨n,hn⟩:=dG (show lim (λn=>Pq n g.1 g.2.1 g.2.2.1)=Q b from h);exact(Kn n) g b hn
def axE(F:bw):bw:=anN afd F
def agK{F:bw}(h:bG vi F):bG vi (axE F):=Q5 aeE h
abbrev aqU:=Int
def d350:Td 0 aqU:= .c [] [4] (.r 0 0 (ec 4 aU en) sn (λz=>z.1.1) (λx=>((x,()),(()))))
def Ac(a0:Int)(a1:Int):aqU:=
 i64.wrap (a0*a1)
def aso:=eL vi 350 I (bg (bg ln)) d350 (λg=>Q (Ac g.1 g.2.1))
def RC:EO aso:=λh=>kL (an:= .no) func350 aY aI h
def avo:bw:=eB
abbrev ajE:=Span
def d351:Td 0 ajE:= .c [] [4] (.r 0 1 (ec 4 (qp 0 0) en) (sb 0 331 (lg 331) sn) (λz=>z.2.1) (λx=>(((),()),(x,()))))
def asx:=(lc (qg 331) (lc (qg 331) ln))
def ag9:An:= .no
def Un(a0:Span)(a1:Span):ajE:=
 Span.mk (if a1.ag<a0.ag then a1.ag else a0.ag) (if a0.af<a1.af then a1.af else a0.af)
def avL(a0:Span)(a1:Span):ct vi (avo) 300 (ag9) 351 (asx.c (a0,a1,())) [] 0 d351.rd=Q (Un a0 a1):=by
 refine Eq.trans (b:=(
  Q (Span.mk (if a1.ag<a0.ag then a1.ag else a0.ag) (if a0.af<a1.af then a1.af else a0.af)):ah ajE)) (by kernel_rfl) ?_
 simp only[Un,cO,de]
def asF:=eL vi 351 I asx d351 (λg=>Q (Un g.1 g.2.1))
def RG:EO asF:=λh=>kL (an:=ag9) func351 aY aI h (c:=λg=>avL g.1 g.2.1)
structure D0 where
 t38:List Int
 (t39 t40:Int)
 (b0 b1:Span)
def N2:Td 0 D0:= .c [] [6,8,38,39,40] (.r 0 3 (ec 6 (qp 0 0) (ec 8 (qp 1 0) (ec 38 (qo 2) (ec 39 aU (ec 40 aU en))))) (sb 0 331 (lg 331) (sb 1 331 (lg 331) (sr 2 3 sn))) (λz=>⟨z.t.2.1,z.1.t.2.1,z.1.q.1,z.2.1,z.t.1⟩) (λx=>(((),(),(),x.t39,x.t40,()),(x.b0,x.b1,x.t38,()))))
def qk(p:D0):ah (ah D0):=
 bif O (p.t40<p.t39)then if 0<=p.t40/\p.t40<p.t38.length then if 3=3/\p.t40.toNat<p.t38.length then Q (Q (D0.mk p.t38 p.t39 (i64.wrap (p.t40+1)) p.b0 (Un p.b1 (Span.mk p.t38[p.t40.toNat]! p.t38[p.t40.toNat]!))))else V else V else Q (V)
def De:=bJ (qk)
abbrev ate:=Span
def d349:Td 0 ate:= .c [] [6] (.r 0 1 (ec 6 (qp 0 0) en) (sb 0 331 (lg 331) sn) (λz=>z.2.1) (λx=>(((),()),(x,()))))
def acL(a0:Span)(a1:Span):ah ate:=
 match De (D0.mk [Ac a0.ag a1.af,Ac a0.af a1.ag,Ac a0.af a1.af] (↑[Ac a0.ag a1.af,Ac a0.af a1.ag,Ac a0.af a1.af].length:Int) 0 (Span.mk 0 0) (Span.mk (Ac a0.ag a1.ag) (Ac a0.ag a1.ag)))with|V=>V|Q r1=>bif O (r1.t40<r1.t39)then if 0<=r1.t40/\r1.t40<r1.t38.length then if 3=3/\r1.t40.toNat<r1.t38.length then V else V else V else Q (r1.b1)
def aqp:=eL vi 349 I (lc (qg 331) (lc (qg 331) (lc (qf 350 ln) ln))) d349 (λg=>acL g.1 g.2.1)
def ae1:EO aqp:=λh=>kL (an:=(noTwo (noTwo (noTwo (.two (noTwo (N2.lp De .no)) .no))))) (l:=[(bE f349 0,(N2.lp De .no))]) func349 (RG (RC aY)) (aB (aO N2) aI) h
def aro:bw:=(asF (aso (aqp eB)))
structure Ae where
 t207:List Span
 (t208 t209:Int)
 (b0 b1:Span)
def NX:Td 0 Ae:= .c [] [6,9,207,208,209] (.r 0 2 (ec 6 (qp 0 0) (ec 9 (qp 1 0) (ec 207 (ql 331) (ec 208 aU (ec 209 aU en))))) (sb 0 331 (lg 331) (sb 1 331 (lg 331) sn)) (λz=>⟨z.1.t.1,z.1.t.2.1,z.1.q.1,z.2.1,z.t.1⟩) (λx=>(((),(),x.t207,x.t208,x.t209,()),(x.b0,x.b1,()))))
def Jp(p:Ae):ah (ah Ae):=
 bif O (p.t209<p.t208)then if 0<=p.t209/\p.t209<p.t207.length then Q (Q (Ae.mk p.t207 p.t208 (i64.wrap (p.t209+1)) p.b0 (Un p.b1 p.t207[p.t209.toNat]!)))else V else Q (V)
def Ey:=bJ (Jp)
abbrev aqS:=Span
def d339:Td 0 aqS:= .c [] [6] (.r 0 1 (ec 6 (qp 0 0) en) (sb 0 331 (lg 331) sn) (λz=>z.2.1) (λx=>(((),()),(x,()))))
def ar1:∀f∈([]:aa Nat),bA (aro) f:=aI
def agn(a0:aa aS)(a1:ax)(a2:aa Span):ah aqS:=
 bif O (a1.bf=0)then Q (Span.mk a1.fN a1.fN)else bif O (a1.bf=24)then if 0<=a1.fN/\a1.fN<a0.length then if 0<=a1.fN/\a1.fN<a0.length then Q (Span.mk a0[a1.fN.toNat]!.ag a0[a1.fN.toNat]!.af)else V else V else bif O (a1.bf=6)then if(0:Int)<=(0:Int)/\(0:Int)<a2.length then if(0:Int)<=(0:Int)/\(0:Int)<a2.length then Q (Span.mk (i64.wrap (0-a2[0]!.af)) (i64.wrap (0-a2[0]!.ag)))else V else V else bif O (a1.bf=8)then if(0:Int)<=(0:Int)/\(0:Int)<a2.length then if(0:Int)<=(1:Int)/\(1:Int)<a2.length then if(0:Int)<=(0:Int)/\(0:Int)<a2.length then if(0:Int)<=(1:Int)/\(1:Int)<a2.length then Q (Span.mk (i64.wrap (a2[0]!.ag+a2[1]!.ag)) (i64.wrap (a2[0]!.af+a2[1]!.af)))else V else V else V else V else bif O (a1.bf=9)then if(0:Int)<=(0:Int)/\(0:Int)<a2.length then if(0:Int)<=(1:Int)/\(1:Int)<a2.length then if(0:Int)<=(0:Int)/\(0:Int)<a2.length then if(0:Int)<=(1:Int)/\(1:Int)<a2.length then Q (Span.mk (i64.wrap (a2[0]!.ag-a2[1]!.af)) (i64.wrap (a2[0]!.af-a2[1]!.ag)))else V else V else V else V else bif O (a1.bf=10)then if(0:Int)<=(0:Int)/\(0:Int)<a2.length then if(0:Int)<=(1:Int)/\(1:Int)<a2.length then match acL a2[0]! a2[1]! with|V=>V|Q r1=>Q (r1)else V else V else bif O (a1.bf=11)then if(0:Int)<=(0:Int)/\(0:Int)<a2.length then if(0:Int)<=(0:Int)/\(0:Int)<a2.length then match if(0:Int)<=(0:Int)/\(0:Int)<a2.length then bif O (0<=a2[0]!.ag)then if(0:Int)<=(1:Int)/\(1:Int)<a2.length then Q (O (0<=a2[1]!.ag))else V else Q I else V with|V=>V|Q r2=>bif r2 then Q (Span.mk 0 (if a2[0]!.af<i64.wrap (0-a2[0]!.ag)then i64.wrap (0-a2[0]!.ag)else a2[0]!.af))else Q (Span.mk (i64.wrap (0-if a2[0]!.af<i64.wrap (0-a2[0]!.ag)then i64.wrap (0-a2[0]!.ag)else a2[0]!.af)) (if a2[0]!.af<i64.wrap (0-a2[0]!.ag)then i64.wrap (0-a2[0]!.ag)else a2[0]!.af))else V else V else bif O (a1.bf=12)then if(0:Int)<=(1:Int)/\(1:Int)<a2.length then bif O (a2[1]!.ag<0)then if(0:Int)<=(1:Int)/\(1:Int)<a2.length then if(0:Int)<=(1:Int)/\(1:Int)<a2.length then bif O (0<a2[1]!.af)then if(0:Int)<=(1:Int)/\(1:Int)<a2.length then Q (Span.mk (if 0<i64.wrap (a2[1]!.ag+1)then 0 else i64.wrap (a2[1]!.ag+1)) (if i64.wrap (a2[1]!.af-1)<0 then 0 else i64.wrap (a2[1]!.af-1)))else V else Q (Span.mk (if 0<i64.wrap (a2[1]!.ag+1)then 0 else i64.wrap (a2[1]!.ag+1)) 0)else V else V else if(0:Int)<=(1:Int)/\(1:Int)<a2.length then bif O (0<a2[1]!.af)then if(0:Int)<=(1:Int)/\(1:Int)<a2.length then Q (Span.mk 0 (if i64.wrap (a2[1]!.af-1)<0 then 0 else i64.wrap (a2[1]!.af-1)))else V else Q (Span.mk 0 0)else V else V else bif O (a1.bf=21)then if(0:Int)<=(0:Int)/\(0:Int)<a2.length then if(0:Int)<=(1:Int)/\(1:Int)<a2.length then if(0:Int)<=(0:Int)/\(0:Int)<a2.length then if(0:Int)<=(1:Int)/\(1:Int)<a2.length then Q (Span.mk (if a2[1]!.ag<a2[0]!.ag then a2[1]!.ag else a2[0]!.ag) (if a2[1]!.af<a2[0]!.af then a2[1]!.af else a2[0]!.af))else V else V else V else V else bif O (a1.bf=22)then if(0:Int)<=(0:Int)/\(0:Int)<a2.length then if(0:Int)<=(1:Int)/\(1:Int)<a2.length then if(0:Int)<=(0:Int)/\(0:Int)<a2.length then if(0:Int)<=(1:Int)/\(1:Int)<a2.length then Q (Span.mk (if a2[0]!.ag<a2[1]!.ag then a2[1]!.ag else a2[0]!.ag) (if a2[0]!.af<a2[1]!.af then a2[1]!.af else a2[0]!.af))else V else V else V else V else bif O (a1.bf=23)then if(0:Int)<=(1:Int)/\(1:Int)<a2.length then if(0:Int)<=(2:Int)/\(2:Int)<=a2.length then match Ey (Ae.mk (yf 2 a2) (↑(yf 2 a2).length:Int) 0 (Span.mk 0 0) a2[1]!)with|V=>V|Q r3=>bif O (r3.t209<r3.t208)then if 0<=r3.t209/\r3.t209<r3.t207.length then V else V else Q (r3.b1)else V else V else bif O (a1.bf=25)then if(0:Int)<=(1:Int)/\(1:Int)<a2.length then if(0:Int)<=(2:Int)/\(2:Int)<=a2.length then match Ey (Ae.mk (yf 2 a2) (↑(yf 2 a2).length:Int) 0 (Span.mk 0 0) a2[1]!)with|V=>V|Q r4=>bif O (r4.t209<r4.t208)then if 0<=r4.t209/\r4.t209<r4.t207.length then V else V else Q (r4.b1)else V else V else Q (Span.mk 0 1)
def aqO:=eL vi 339 I (lc (ql 131) (lc (qg 137) (lc (ql 331) ln))) d339 (λg=>agn g.1 g.2.1 g.t.1)
def acv:EO aqO:=λh=>kL (F:=aro) (an:=(noTwo (.two (noTwo (noTwo (noTwo (noTwo (noTwo (noTwo (noTwo (noTwo (noTwo (noTwo (noTwo (noTwo (noTwo (noTwo (.two (noTwo (.two (.two (.rb [] 123) .no) .no)) (noTwo (noTwo (noTwo (noTwo (noTwo (noTwo (noTwo (.two (noTwo (.two (noTwo (NX.lp Ey .no)) .no)) .no))))))))))))))))))))))) .no))) (l:=[(.skip,(.rb [] 123)),(bE f339 0,(NX.lp Ey .no))]) func339 (RG (RC (ae1 aY))) (aB ar1 (aB (aO NX) aI)) h
abbrev rV:=Span×Bool
def d307:Td 0 rV:= .c [] [4,5] (.r 0 1 (ec 4 (qp 0 0) (ec 5 qb en)) (sb 0 331 (lg 331) sn) (λz=>(z.2.1,z.1.2.1)) (λx=>(((),x.2,()),(x.1,()))))
def alH:=(lc (ql 131) (lc (qg 137) ln))
def ak5(M:(aa aS)->ax->ah rV):bw->bw:=eL vi 307 I alH d307 (λg=>M g.1 g.2.1)
def aff(M:(aa aS)->ax->ah rV):Prop:=HL vi 307 alH d307 (λg=>M g.1 g.2.1)
def Rm{M:(aa aS)->ax->ah rV}(hM:aff M){F:bw}(h:bG vi F):bG vi (ak5 M F):=iJ (sc:=Ec) fS hM ⟨_,func307,by kernel_rfl,by kernel_rfl⟩ (λ_=>by kernel_rfl) (λ_=>by kernel_rfl) h
def al6(M307:(aa aS)->ax->ah rV):bw:=(aqO (ak5 M307 eB))
def adU{M307}(h307:aff M307):bG vi (al6 M307):=(acv (Rm h307 aY))
structure EJ where
 t0:List aS
 t6:List Span
 t13:List ax
 (t14 t15:Int)
 b0:ax
 b1:Span
def MQ:Td 0 EJ:= .c [] [0,3,4,6,13,14,15] (.t (cU.s 6 [] 331) (.c [] [0,3,4,6,13,14,15] (.r 0 3 (ec 0 (ql 131) (ec 3 (qp 0 0) (ec 4 (qp 1 0) (ec 6 (qo 2) (ec 13 (ql 137) (ec 14 aU (ec 15 aU en))))))) (sb 0 137 (lg 137) (sb 1 331 (lg 331) (sr 2 331 sn))) (λz=>⟨z.1.1,z.t.2.1,z.1.q.1,z.1.q.2.1,z.1.q.t.1,z.2.1,z.t.1⟩) (λx=>((x.t0,(),(),(),x.t13,x.t14,x.t15,()),(x.b0,x.b1,x.t6,()))))))
def Eh(M307:(aa aS)->ax->ah rV)(p:EJ):ah (ah EJ):=
 bif O (p.t15<p.t14)then if 0<=p.t15/\p.t15<p.t13.length then match M307 p.t0 (ax.mk p.t13[p.t15.toNat]!.bf p.t13[p.t15.toNat]!.fN p.t13[p.t15.toNat]!.aq)with|V=>V|Q r1=>bif bif r1.snd then I else G then Q (V)else if(p.t6++[r1.fst]).length<=1073741824 then Q (Q (EJ.mk p.t0 (p.t6++[r1.fst]) p.t13 p.t14 (i64.wrap (p.t15+1)) (ax.mk p.b0.bf p.b0.fN p.b0.aq) p.b1))else V else V else Q (V)
def JE(M307:(aa aS)->ax->ah rV):=bJ (Eh M307)
def ag6(M307:(aa aS)->ax->ah rV):An:=(noTwo (noTwo (.two (noTwo (MQ.lp (JE M307) .no)) .no)))
def ase(M307:(aa aS)->ax->ah rV):gv vi (al6 M307) 0 300 307 (ag6 M307):=cD (l:=[(bE f307 0,(MQ.lp (JE M307) .no))]) func307 (bR (by kernel_rfl)) (by kernel_rfl) (aB (aO MQ) aI)
def abw(M307:(aa aS)->ax->ah rV)(a0:aa aS)(a1:ax):ah rV:=
 match JE M307 (EJ.mk a0 [] a1.aq a1.aq.length 0 (ax.mk a1.bf a1.fN a1.aq) (Span.mk 0 0))with|V=>V|Q r2=>bif O (r2.t15<r2.t14)then if 0<=r2.t15/\r2.t15<r2.t13.length then match M307 r2.t0 (ax.mk r2.t13[r2.t15.toNat]!.bf r2.t13[r2.t15.toNat]!.fN r2.t13[r2.t15.toNat]!.aq)with|V=>V|Q r3=>bif bif r3.snd then I else G then Q (Span.mk 0 0,I)else if(r2.t6++[r3.fst]).length<=1073741824 then V else V else V else match agn r2.t0 (ax.mk r2.b0.bf r2.b0.fN r2.b0.aq) r2.t6 with|V=>V|Q r4=>bif O (-1048576<=r4.ag)then Q ((r4,O (r4.af<=1048576)))else Q (r4,I)
def axi(M307:(aa aS)->ax->ah rV)(a0:aa aS)(a1:ax):ct vi (al6 M307) 300 (ag6 M307) 307 (alH.c (a0,a1,())) [] 0 d307.rd=abw M307 a0 a1:=by kernel_rfl
def aiC:Nat->((aa aS)->ax->ah rV)
 |0=>(λ_ _=>V)
 |n+1=>(abw (aiC n))
def Nj(n:Nat):(aa aS)->ax->ah rV:=(aiC n)
def Ls:∀n,aff (Nj n)
 |0=>λ_ _ h=>(by cases h)
 |n+1=>by
  have ih:=Ls n;have i307:=ih;exact(fm (adU i307) (ase (Nj n)) (λ_=>by kernel_rfl) (λ_=>by kernel_rfl) λg=>axi (Nj n) g.1 g.2.1)
def aft:(aa aS)->ax->ah rV:=λa0 a1=>lim (λn=>Nj n a0 a1)
def afg:aff aft:=λg b h=>by
 obtain⟨n,hn⟩:=dG (show lim (λn=>Nj n g.1 g.2.1)=Q b from h);exact(Ls n) g b hn
def aw1(F:bw):bw:=ak5 aft F
def abR{F:bw}(h:bG vi F):bG vi (aw1 F):=Rm afg h
abbrev ap3:=Int
def d267:Td 0 ap3:= .c [] [6] (.r 0 0 (ec 6 aU en) sn (λz=>z.1.1) (λx=>((x,()),(()))))
def O3(a0:aa aS)(a1:ax)(a2:Bool):ah ap3:=
 match afd a0 (ax.mk a1.bf a1.fN a1.aq) a2 with|V=>V|Q r1=>bif bif r1 then I else G then Q (1)else match aft a0 (ax.mk a1.bf a1.fN a1.aq)with|V=>V|Q r2=>bif bif r2.snd then I else G then Q (3)else Q (0)
def anh:=eL vi 267 I (lc (ql 131) (lc (qg 137) (lc qb ln))) d267 (λg=>O3 g.1 g.2.1 g.t.1)
def SZ:EO anh:=λh=>kL (an:= .no) func267 (abR (agK aY)) aI h
def UP:EP anh:=λh=>kP h
structure Eo where
 t8:List dz
 (t9 t10:Int)
 b0:aQ
def Ph:Td 0 Eo:= .c [] [1,8,9,10] (.r 0 1 (ec 1 (qp 0 0) (ec 8 (ql 139) (ec 9 aU (ec 10 aU en)))) (sb 0 26 (lg 26) sn) (λz=>⟨z.1.2.1,z.1.t.1,z.1.t.2.1,z.2.1⟩) (λx=>(((),x.t8,x.t9,x.t10,()),(x.b0,()))))
def A6(p:Eo):ah (ah Eo):=
 bif O (p.t10<p.t9)then if 0<=p.t10/\p.t10<p.t8.length then match OY p.t8[p.t10.toNat]!.fName with|V=>V|Q r1=>bif bif r1 then I else G then Q (V)else if 0<=p.t10/\p.t10<=p.b0.ak.length then match ZF (List.take p.t10.toNat p.b0.ak) (dz.mk p.t8[p.t10.toNat]!.fName p.t8[p.t10.toNat]!.ag p.t8[p.t10.toNat]!.af (ax.mk p.t8[p.t10.toNat]!.az.bf p.t8[p.t10.toNat]!.az.fN p.t8[p.t10.toNat]!.az.aq))with|V=>V|Q r2=>bif r2 then Q (V)else bif bif I3 p.t8[p.t10.toNat]!.ag p.t8[p.t10.toNat]!.af then I else G then Q (V)else match O3 p.b0.ai (ax.mk p.t8[p.t10.toNat]!.az.bf p.t8[p.t10.toNat]!.az.fN p.t8[p.t10.toNat]!.az.aq) G with|V=>V|Q r3=>bif bif O (r3=0)then I else G then Q (V)else Q (Q (Eo.mk p.t8 p.t9 (i64.wrap (p.t10+1)) p.b0))else V else V else Q (V)
def Jm:=bJ (A6)
abbrev atE:=Int
def d211:Td 0 atE:= .c [] [2] (.r 0 0 (ec 2 aU en) sn (λz=>z.1.1) (λx=>((x,()),(()))))
def afF(a0:aQ):ah atE:=
 match Jm (Eo.mk a0.ak a0.ak.length 0 a0)with|V=>V|Q r4=>bif O (r4.t10<r4.t9)then if 0<=r4.t10/\r4.t10<r4.t8.length then match OY r4.t8[r4.t10.toNat]!.fName with|V=>V|Q r5=>bif bif r5 then I else G then Q 7 else if 0<=r4.t10/\r4.t10<=r4.b0.ak.length then match ZF (List.take r4.t10.toNat r4.b0.ak) (dz.mk r4.t8[r4.t10.toNat]!.fName r4.t8[r4.t10.toNat]!.ag r4.t8[r4.t10.toNat]!.af (ax.mk r4.t8[r4.t10.toNat]!.az.bf r4.t8[r4.t10.toNat]!.az.fN r4.t8[r4.t10.toNat]!.az.aq))with|V=>V|Q r6=>bif r6 then Q 8 else bif bif I3 r4.t8[r4.t10.toNat]!.ag r4.t8[r4.t10.toNat]!.af then I else G then Q 3 else match O3 r4.b0.ai (ax.mk r4.t8[r4.t10.toNat]!.az.bf r4.t8[r4.t10.toNat]!.az.fN r4.t8[r4.t10.toNat]!.az.aq) G with|V=>V|Q r7=>bif bif O (r7=0)then I else G then Q (r7)else V else V else V else Q 0
def arK:=eL vi 211 I (lc (qg 26) ln) d211 (λg=>afF g.1)
def aaJ:EO arK:=λh=>kL (an:=(noTwo (.two (noTwo (Ph.lp Jm .no)) .no))) (l:=[(bE f211 0,(Ph.lp Jm .no))]) func211 (SZ (adh (QL (Rh aY)))) (aB (aO Ph) aI) h
def aja:bw:=eB
abbrev ajM:=Bool
def d308:Td 0 ajM:= .c [] [2] (.r 0 0 (ec 2 qb en) sn (λz=>z.1.1) (λx=>((x,()),(()))))
def aru:=(bg ln)
def ahn:An:=(noTwo (.two (.rb [] 2) .no))
def aqn:∀f∈([]:aa Nat),bA (aja) f:=aI
def UY(a0:Int):ajM:=
 let r1:Bool:=bif O (a0=0)then G else O (a0=5);r1
def au8(a0:Int):ct vi (aja) 300 (ahn) 308 (aru.c (a0,())) [] 0 d308.rd=Q (UY a0):=by
 refine Eq.trans (b:=(
  match bif O (a0=0)then Q (G)else Q (O (a0=5))with|V=>V|Q r1=>Q (r1):ah ajM)) (by kernel_rfl) ?_
 simp only[UY,cO,de]
def akV:=eL vi 308 I aru d308 (λg=>Q (UY g.1))
def agC:EO akV:=λh=>kL (F:=aja) (an:=ahn) (l:=[(.skip,(.rb [] 2))]) func308 aY (aB aqn aI) h (c:=λg=>au8 g.1)
def nw:EP akV:=λh=>kP h
def ai3:bw:=eB
abbrev ajX:=Bool
def d309:Td 0 ajX:= .c [] [2] (.r 0 0 (ec 2 qb en) sn (λz=>z.1.1) (λx=>((x,()),(()))))
def apv:=(bg ln)
def ahX:An:=(noTwo (.two (.rb [] 2) .no))
def arQ:∀f∈([]:aa Nat),bA (ai3) f:=aI
def YV(a0:Int):ajX:=
 let r1:Bool:=bif O (a0=4)then G else O (a0=5);r1
def avD(a0:Int):ct vi (ai3) 300 (ahX) 309 (apv.c (a0,())) [] 0 d309.rd=Q (YV a0):=by
 refine Eq.trans (b:=(
  match bif O (a0=4)then Q (G)else Q (O (a0=5))with|V=>V|Q r1=>Q (r1):ah ajX)) (by kernel_rfl) ?_
 simp only[YV,cO,de]
def ajl:=eL vi 309 I apv d309 (λg=>Q (YV g.1))
def acN:EO ajl:=λh=>kL (F:=ai3) (an:=ahX) (l:=[(.skip,(.rb [] 2))]) func309 aY (aB arQ aI) h (c:=λg=>avD g.1)
def mS:EP ajl:=λh=>kP h
def akA:bw:=eB
abbrev anL:=Bool
def d310:Td 0 anL:= .c [] [2] (.r 0 0 (ec 2 qb en) sn (λz=>z.1.1) (λx=>((x,()),(()))))
def apY:=(bg ln)
def aiL:An:=(noTwo (.two (.rb [] 2) .no))
def ath:∀f∈([]:aa Nat),bA (akA) f:=aI
def WZ(a0:Int):anL:=
 let r1:Bool:=bif O (a0=0)then G else bif O (a0=1)then G else bif O (a0=3)then G else O (a0=4);r1
def avz(a0:Int):ct vi (akA) 300 (aiL) 310 (apY.c (a0,())) [] 0 d310.rd=Q (WZ a0):=by
 refine Eq.trans (b:=(
  match bif O (a0=0)then Q (G)else bif O (a0=1)then Q (G)else bif O (a0=3)then Q (G)else Q (O (a0=4))with|V=>V|Q r1=>Q (r1):ah anL)) (by kernel_rfl) ?_
 simp only[WZ,cO,de]
def amB:=eL vi 310 I apY d310 (λg=>Q (WZ g.1))
def aeK:EO amB:=λh=>kL (F:=akA) (an:=aiL) (l:=[(.skip,(.rb [] 2))]) func310 aY (aB ath aI) h (c:=λg=>avz g.1)
def mV:EP amB:=λh=>kP h
def ajC:bw:=eB
abbrev alJ:=Bool
def d311:Td 0 alJ:= .c [] [2] (.r 0 0 (ec 2 qb en) sn (λz=>z.1.1) (λx=>((x,()),(()))))
def ap7:=(lc (qg 137) ln)
def ahN:An:=(noTwo (.two (.rb [] 2) .no))
def apc:∀f∈([]:aa Nat),bA (ajC) f:=aI
def Uq(a0:ax):alJ:=
 let r1:Bool:=bif O (a0.bf=0)then bif O (a0.fN=0)then O ((a0.aq.length:Int)=0)else I else I;r1
def avr(a0:ax):ct vi (ajC) 300 (ahN) 311 (ap7.c (a0,())) [] 0 d311.rd=Q (Uq a0):=by
 refine Eq.trans (b:=(
  match bif O (a0.bf=0)then bif O (a0.fN=0)then Q (O ((a0.aq.length:Int)=0))else Q (I)else Q (I)with|V=>V|Q r1=>Q (r1):ah alJ)) (by kernel_rfl) ?_
 simp only[Uq,cO,de]
def amF:=eL vi 311 I ap7 d311 (λg=>Q (Uq g.1))
def ae5:EO amF:=λh=>kL (F:=ajC) (an:=ahN) (l:=[(.skip,(.rb [] 2))]) func311 aY (aB apc aI) h (c:=λg=>avr g.1)
def nv:EP amF:=λh=>kP h
structure AI where
 t0:List Int
 (t5 t6:Int)
def PG:Td 0 AI:= .c [] [0,5,6] (.r 0 0 (ec 0 (ql 3) (ec 5 aU (ec 6 aU en))) sn (λz=>⟨z.1.1,z.1.2.1,z.1.t.1⟩) (λx=>((x.t0,x.t5,x.t6,()),(()))))
def GW(p:AI):ah (ah AI):=
 bif O (p.t6<p.t5)then bif O (0<p.t6)then if 0<=p.t6/\p.t6<p.t0.length then if 0<=i64.wrap (p.t6-1)/\i64.wrap (p.t6-1)<p.t0.length then bif O (((p.t0,p.t5,p.t6,()),()).fst.fst[((p.t0,p.t5,p.t6,()),()).fst.snd.snd.fst.toNat]!<=((p.t0,p.t5,p.t6,()),()).fst.fst[(i64.wrap (((p.t0,p.t5,p.t6,()),()).fst.snd.snd.fst-1)).toNat]!)then Q (V)else Q (Q (AI.mk p.t0 p.t5 (i64.wrap (p.t6+1))))else V else V else Q (Q (AI.mk p.t0 p.t5 (i64.wrap (p.t6+1))))else Q (V)
def HQ:=bJ (GW)
abbrev aqJ:=Bool
def d312:Td 0 aqJ:= .c [] [2] (.r 0 0 (ec 2 qb en) sn (λz=>z.1.1) (λx=>((x,()),(()))))
def UK(a0:aa Int):ah aqJ:=
 match HQ (AI.mk a0 a0.length 0)with|V=>V|Q r1=>bif O (r1.t6<r1.t5)then bif O (0<r1.t6)then if 0<=r1.t6/\r1.t6<r1.t0.length then if 0<=i64.wrap (r1.t6-1)/\i64.wrap (r1.t6-1)<r1.t0.length then bif O (((r1.t0,r1.t5,r1.t6,()),()).fst.fst[((r1.t0,r1.t5,r1.t6,()),()).fst.snd.snd.fst.toNat]!<=((r1.t0,r1.t5,r1.t6,()),()).fst.fst[(i64.wrap (((r1.t0,r1.t5,r1.t6,()),()).fst.snd.snd.fst-1)).toNat]!)then Q I else V else V else V else V else Q G
def anw:=eL vi 312 I (lc (ql 3) ln) d312 (λg=>UK g.1)
def adB:EO anw:=λh=>kL (an:=(noTwo (.two (noTwo (PG.lp HQ .no)) .no))) (l:=[(bE f312 0,(PG.lp HQ .no))]) func312 aY (aB (aO PG) aI) h
def mU:EP anw:=λh=>kP h
def aqg:bw:=(anw (amF (amB (ajl (akV eB)))))
abbrev ao5:=Bool
def d268:Td 0 ao5:= .c [] [6] (.r 0 0 (ec 6 qb en) sn (λz=>z.1.1) (λx=>((x,()),(()))))
def sC:∀f∈([308,309,310,311,312]:aa Nat),bA (aqg) f:=(aB (mU (nv (mV (mS (nw bK))))) (aB (mU (nv (mV (mS (nw bK))))) (aB (mU (nv (mV (mS (nw bK))))) (aB (mU (nv (mV (mS (nw bK))))) (aB (mU (nv (mV (mS (nw bK))))) aI)))))
def O4(a0:aQ)(a1:ay)(a2:Bool):ah ao5:=
 match bif O (a1.bN<0)then Q G else Q (O (6<a1.bN))with|V=>V|Q r1=>bif r1 then Q I else match bif bif UY a1.bN then I else G then Q (bif O (a1.cV=0)then I else G)else Q I with|V=>V|Q r2=>bif r2 then Q I else match bif bif YV a1.bN then I else G then Q (bif O (a1.fN=0)then I else G)else Q I with|V=>V|Q r3=>bif r3 then Q I else match bif bif WZ a1.bN then I else G then Q (bif Uq (ax.mk a1.az.bf a1.az.fN a1.az.aq)then I else G)else Q I with|V=>V|Q r4=>bif r4 then Q I else match bif bif O (a1.bN=3)then I else G then bif bif O (a1.bN=4)then I else G then Q (O (0<(a1.aD.length:Int)))else Q I else Q I with|V=>V|Q r5=>bif r5 then Q I else match bif bif O (a1.bN=3)then I else G then Q (O (0<(a1.aJ.length:Int)))else Q I with|V=>V|Q r6=>bif r6 then Q I else match bif bif O (a1.bN=6)then I else G then Q (O (0<(a1.aK.length:Int)))else Q I with|V=>V|Q r7=>bif r7 then Q I else match bif UY a1.bN then bif O (a1.cV<0)then Q G else bif O (a0.ai.length<=a1.cV)then Q G else if 0<=a1.cV/\a1.cV<a0.ai.length then Q (bif O (a0.ai[a1.cV.toNat]!.bq=0)then I else G)else V else Q I with|V=>V|Q r8=>bif r8 then Q I else match bif O (a1.bN=5)then bif O (a1.fN<0)then Q G else Q (O (a0.ak.length<=a1.fN))else Q I with|V=>V|Q r9=>bif r9 then Q I else match bif bif O (a1.bN=6)then I else G then Q G else bif a2 then bif O (0<(a1.aK.length:Int))then bif O ((a1.aK.length:Int)<=32)then if(0:Int)<=(0:Int)/\(0:Int)<a1.aK.length then bif O (0<=a1.aK[yR 0]!)then match UK a1.aK with|V=>V|Q r10=>Q (r10)else Q I else V else Q I else Q I else Q I with|V=>V|Q r11=>Q (r11)
def akZ:=eL vi 268 I (lc (qg 26) (lc (qg 166) (lc qb ln))) d268 (λg=>O4 g.1 g.2.1 g.t.1)
def aeJ:EO akZ:=λh=>kL (F:=aqg) (an:=(noTwo (noTwo (.two (.two (.two (.rb [308,309,310,311,312] 10) (noTwo (.two (.rb [308,309,310,311,312] 10) (noTwo (.two (.rb [308,309,310,311,312] 10) (noTwo (.two (.rb [308,309,310,311,312] 10) (noTwo (.two (.rb [308,309,310,311,312] 10) (noTwo (.two (.rb [308,309,310,311,312] 10) (noTwo (.two (.rb [308,309,310,311,312] 10) (noTwo (.two (.rb [308,309,310,311,312] 10) (noTwo (.rb [308,309,310,311,312] 10))))))))))))))))) .no) (.two (.rb [308,309,310,311,312] 6) .no))))) (l:=[(.skip,(.rb [308,309,310,311,312] 10)),(.skip,(.rb [308,309,310,311,312] 10)),(.skip,(.rb [308,309,310,311,312] 10)),(.skip,(.rb [308,309,310,311,312] 10)),(.skip,(.rb [308,309,310,311,312] 10)),(.skip,(.rb [308,309,310,311,312] 10)),(.skip,(.rb [308,309,310,311,312] 10)),(.skip,(.rb [308,309,310,311,312] 10)),(.skip,(.rb [308,309,310,311,312] 10)),(.skip,(.rb [308,309,310,311,312] 6))]) func268 (adB (ae5 (aeK (acN (agC aY))))) (aB sC (aB sC (aB sC (aB sC (aB sC (aB sC (aB sC (aB sC (aB sC (aB sC aI)))))))))) h
def TZ:EP akZ:=λh=>kP h
def aoj:bw:=eB
abbrev atq:=Bool
def d269:Td 0 atq:= .c [] [2] (.r 0 0 (ec 2 qb en) sn (λz=>z.1.1) (λx=>((x,()),(()))))
def ah6:∀f∈([]:aa Nat),bA (aoj) f:=aI
def MY(a0:ay):ah atq:=
 bif O (a0.bN=2)then match bif O (a0.aN<0)then Q G else bif O (67108864<a0.aN)then Q G else bif O (a0.bN=4)then bif O (a0.fN<0)then Q G else Q (O (4096<a0.fN))else Q I with|V=>V|Q r1=>bif r1 then Q I else match bif bif O (a0.bN=6)then I else G then Q G else if 0<=i64.wrap ((a0.aK.length:Int)-(1:Int))/\i64.wrap ((a0.aK.length:Int)-(1:Int))<a0.aK.length then Q (O (a0.aK[(i64.wrap ((a0.aK.length:Int)-1)).toNat]!<=67108864))else V with|V=>V|Q r2=>Q (r2)else match bif O (a0.aN<0)then Q G else bif O (10000<a0.aN)then Q G else bif O (a0.bN=4)then bif O (a0.fN<0)then Q G else Q (O (4096<a0.fN))else Q I with|V=>V|Q r3=>bif r3 then Q I else match bif bif O (a0.bN=6)then I else G then Q G else if 0<=i64.wrap ((a0.aK.length:Int)-(1:Int))/\i64.wrap ((a0.aK.length:Int)-(1:Int))<a0.aK.length then Q (O (a0.aK[(i64.wrap ((a0.aK.length:Int)-1)).toNat]!<=67108864))else V with|V=>V|Q r4=>Q (r4)
def ak9:=eL vi 269 I (lc (qg 166) ln) d269 (λg=>MY g.1)
def agw:EO ak9:=λh=>kL (F:=aoj) (an:=(noTwo (noTwo (noTwo (.two (.two (.rb [] 30) .no) (.two (.rb [] 2) .no)))))) (l:=[(.skip,(.rb [] 30)),(.skip,(.rb [] 2))]) func269 aY (aB ah6 (aB ah6 aI)) h
def UB:EP ak9:=λh=>kP h
abbrev lY:=Int
def d212:Td 0 lY:= .c [] [6] (.r 0 0 (ec 6 aU en) sn (λz=>z.1.1) (λx=>((x,()),(()))))
def ajU:=(lc (qg 26) (lc (ql 166) (lc qb ln)))
def ab0(M:aQ->(aa ay)->Bool->ah lY):bw->bw:=eL vi 212 I ajU d212 (λg=>M g.1 g.2.1 g.2.2.1)
def T2{M:aQ->(aa ay)->Bool->ah lY}{F:bw}{f:Nat}(h:bA F f):bA (ab0 M F) f:=iL h (λ_=>by kernel_rfl)
def acH(M:aQ->(aa ay)->Bool->ah lY):Prop:=HL vi 212 ajU d212 (λg=>M g.1 g.2.1 g.2.2.1)
def Rv{M:aQ->(aa ay)->Bool->ah lY}(hM:acH M){F:bw}(h:bG vi F):bG vi (ab0 M F):=iJ (sc:=Ec) fS hM ⟨_,func212,by kernel_rfl,by kernel_rfl⟩ (λ_=>by kernel_rfl) (λ_=>by kernel_rfl) h
def abT(M212:aQ->(aa ay)->Bool->ah lY):bw:=(ak9 (akZ (anh (ab0 M212 eB))))
def abp{M212}(h212:acH M212):bG vi (abT M212):=(agw (aeJ (SZ (Rv h212 aY))))
structure Bb where
 t1:List ay
 t2:Bool
 t13:List ay
 (t14 t15:Int)
 t47:List (List ay)
 (t48 t49:Int)
 b0:aQ
def Pr:Td 0 Bb:= .c [] [1,2,3,13,14,15,47,48,49] (.r 0 2 (ec 1 (ql 166) (ec 2 qb (ec 3 (qp 0 0) (ec 13 (ql 166) (ec 14 aU (ec 15 aU (ec 47 (qo 1) (ec 48 aU (ec 49 aU en))))))))) (sb 0 26 (lg 26) (sr 1 24 sn)) (λz=>⟨z.1.1,z.1.2.1,z.1.t.2.1,z.1.q.1,z.1.q.2.1,z.t.1,z.1.q.t.2.1,z.1.q.q.1,z.2.1⟩) (λx=>((x.t1,x.t2,(),x.t13,x.t14,x.t15,(),x.t48,x.t49,()),(x.b0,x.t47,()))))
def sO(M212:aQ->(aa ay)->Bool->ah lY)(p:Bb):ah (ah Bb):=
 bif O (p.t49<p.t48)then if 0<=p.t49/\p.t49<p.t47.length then if 24=24/\p.t49.toNat<p.t47.length then match M212 p.b0 p.t47[p.t49.toNat]! I with|V=>V|Q r8=>bif bif O (r8=0)then I else G then Q (V)else Q (Q (Bb.mk p.t1 p.t2 p.t13 p.t14 p.t15 p.t47 p.t48 (i64.wrap (p.t49+1)) p.b0))else V else V else Q (V)
def vS(M212:aQ->(aa ay)->Bool->ah lY):=bJ (sO M212)
structure D4 where
 t1:List ay
 t2:Bool
 t13:List ay
 (t14 t15:Int)
 b0:aQ
def PO:Td 0 D4:= .c [] [1,2,3,13,14,15] (.r 0 1 (ec 1 (ql 166) (ec 2 qb (ec 3 (qp 0 0) (ec 13 (ql 166) (ec 14 aU (ec 15 aU en)))))) (sb 0 26 (lg 26) sn) (λz=>⟨z.1.1,z.1.2.1,z.1.t.2.1,z.1.q.1,z.1.q.2.1,z.2.1⟩) (λx=>((x.t1,x.t2,(),x.t13,x.t14,x.t15,()),(x.b0,()))))
def vM(M212:aQ->(aa ay)->Bool->ah lY)(p:D4):ah (ah D4):=
 bif O (p.t15<p.t14)then if 0<=p.t15/\p.t15<p.t13.length then match bif p.t2 then match O4 p.b0 (ay.mk p.t13[p.t15.toNat]!.bN p.t13[p.t15.toNat]!.aN p.t13[p.t15.toNat]!.cV p.t13[p.t15.toNat]!.fN (ax.mk p.t13[p.t15.toNat]!.az.bf p.t13[p.t15.toNat]!.az.fN p.t13[p.t15.toNat]!.az.aq) p.t13[p.t15.toNat]!.aD p.t13[p.t15.toNat]!.aJ p.t13[p.t15.toNat]!.aK) (O (((p.t1,p.t2,(),p.t13,p.t14,p.t15,()),p.b0,()).fst.snd.snd.snd.snd.snd.fst=i64.wrap ((↑((p.t1,p.t2,(),p.t13,p.t14,p.t15,()),p.b0,()).fst.fst.length:Int)-1)))with|V=>V|Q r1=>Q (bif r1 then I else G)else match O4 p.b0 (ay.mk p.t13[p.t15.toNat]!.bN p.t13[p.t15.toNat]!.aN p.t13[p.t15.toNat]!.cV p.t13[p.t15.toNat]!.fN (ax.mk p.t13[p.t15.toNat]!.az.bf p.t13[p.t15.toNat]!.az.fN p.t13[p.t15.toNat]!.az.aq) p.t13[p.t15.toNat]!.aD p.t13[p.t15.toNat]!.aJ p.t13[p.t15.toNat]!.aK) I with|V=>V|Q r2=>Q (bif r2 then I else G)with|V=>V|Q r3=>bif r3 then Q (V)else match MY (ay.mk p.t13[p.t15.toNat]!.bN p.t13[p.t15.toNat]!.aN p.t13[p.t15.toNat]!.cV p.t13[p.t15.toNat]!.fN (ax.mk p.t13[p.t15.toNat]!.az.bf p.t13[p.t15.toNat]!.az.fN p.t13[p.t15.toNat]!.az.aq) p.t13[p.t15.toNat]!.aD p.t13[p.t15.toNat]!.aJ p.t13[p.t15.toNat]!.aK)with|V=>V|Q r4=>bif bif r4 then I else G then Q (V)else match O3 p.b0.ai (ax.mk p.t13[p.t15.toNat]!.az.bf p.t13[p.t15.toNat]!.az.fN p.t13[p.t15.toNat]!.az.aq) I with|V=>V|Q r5=>bif bif O (r5=0)then I else G then Q (V)else match vS M212 (Bb.mk p.t1 p.t2 p.t13 p.t14 p.t15 [p.t13[p.t15.toNat]!.aD,p.t13[p.t15.toNat]!.aJ] (↑[p.t13[p.t15.toNat]!.aD,p.t13[p.t15.toNat]!.aJ].length:Int) 0 p.b0)with|V=>V|Q r6=>bif O (r6.t49<r6.t48)then if 0<=r6.t49/\r6.t49<r6.t47.length then if 24=24/\r6.t49.toNat<r6.t47.length then match M212 r6.b0 r6.t47[r6.t49.toNat]! I with|V=>V|Q r7=>bif bif O (r7=0)then I else G then Q (V)else V else V else V else Q (Q (D4.mk r6.t1 r6.t2 r6.t13 r6.t14 (i64.wrap (r6.t15+1)) r6.b0))else V else Q (V)
def Zj(M212:aQ->(aa ay)->Bool->ah lY):An:=(noTwo (noTwo (.two (noTwo (.two (.two (.rb [268] 31) .no) (noTwo (noTwo (noTwo (Pr.lp (vS M212) .no)))))) .no)))
def JK(M212:aQ->(aa ay)->Bool->ah lY):=bJ (vM M212)
def aiw(M212:aQ->(aa ay)->Bool->ah lY):An:=(noTwo (.two (noTwo (PO.lp (JK M212) (Zj M212))) .no))
def as8{M212}:∀f∈([268]:aa Nat),bA (abT M212) f:=(aB (UB (TZ (UP (T2 bK)))) aI)
def as9(M212:aQ->(aa ay)->Bool->ah lY):gv vi (abT M212) 0 300 212 (aiw M212):=cD (l:=[(bE f212 0,(PO.lp (JK M212) (Zj M212))),(.skip,(.rb [268] 31)),(bE f212 1,(Pr.lp (vS M212) .no))]) func212 (bR (by kernel_rfl)) (by kernel_rfl) (aB (aO PO) (aB as8 (aB (aO Pr) aI)))
def ae8(M212:aQ->(aa ay)->Bool->ah lY)(a0:aQ)(a1:aa ay)(a2:Bool):ah lY:=
 match JK M212 (D4.mk a1 a2 a1 a1.length 0 a0)with|V=>V|Q r9=>bif O (r9.t15<r9.t14)then if 0<=r9.t15/\r9.t15<r9.t13.length then match bif r9.t2 then match O4 r9.b0 (ay.mk r9.t13[r9.t15.toNat]!.bN r9.t13[r9.t15.toNat]!.aN r9.t13[r9.t15.toNat]!.cV r9.t13[r9.t15.toNat]!.fN (ax.mk r9.t13[r9.t15.toNat]!.az.bf r9.t13[r9.t15.toNat]!.az.fN r9.t13[r9.t15.toNat]!.az.aq) r9.t13[r9.t15.toNat]!.aD r9.t13[r9.t15.toNat]!.aJ r9.t13[r9.t15.toNat]!.aK) (O (((r9.t1,r9.t2,(),r9.t13,r9.t14,r9.t15,()),r9.b0,()).fst.snd.snd.snd.snd.snd.fst=i64.wrap ((↑((r9.t1,r9.t2,(),r9.t13,r9.t14,r9.t15,()),r9.b0,()).fst.fst.length:Int)-1)))with|V=>V|Q r10=>Q (bif r10 then I else G)else match O4 r9.b0 (ay.mk r9.t13[r9.t15.toNat]!.bN r9.t13[r9.t15.toNat]!.aN r9.t13[r9.t15.toNat]!.cV r9.t13[r9.t15.toNat]!.fN (ax.mk r9.t13[r9.t15.toNat]!.az.bf r9.t13[r9.t15.toNat]!.az.fN r9.t13[r9.t15.toNat]!.az.aq) r9.t13[r9.t15.toNat]!.aD r9.t13[r9.t15.toNat]!.aJ r9.t13[r9.t15.toNat]!.aK) I with|V=>V|Q r11=>Q (bif r11 then I else G)with|V=>V|Q r12=>bif r12 then Q 1 else match MY (ay.mk r9.t13[r9.t15.toNat]!.bN r9.t13[r9.t15.toNat]!.aN r9.t13[r9.t15.toNat]!.cV r9.t13[r9.t15.toNat]!.fN (ax.mk r9.t13[r9.t15.toNat]!.az.bf r9.t13[r9.t15.toNat]!.az.fN r9.t13[r9.t15.toNat]!.az.aq) r9.t13[r9.t15.toNat]!.aD r9.t13[r9.t15.toNat]!.aJ r9.t13[r9.t15.toNat]!.aK)with|V=>V|Q r13=>bif bif r13 then I else G then Q 3 else match O3 r9.b0.ai (ax.mk r9.t13[r9.t15.toNat]!.az.bf r9.t13[r9.t15.toNat]!.az.fN r9.t13[r9.t15.toNat]!.az.aq) I with|V=>V|Q r14=>bif bif O (r14=0)then I else G then Q (r14)else match vS M212 (Bb.mk r9.t1 r9.t2 r9.t13 r9.t14 r9.t15 [r9.t13[r9.t15.toNat]!.aD,r9.t13[r9.t15.toNat]!.aJ] (↑[r9.t13[r9.t15.toNat]!.aD,r9.t13[r9.t15.toNat]!.aJ].length:Int) 0 r9.b0)with|V=>V|Q r15=>bif O (r15.t49<r15.t48)then if 0<=r15.t49/\r15.t49<r15.t47.length then if 24=24/\r15.t49.toNat<r15.t47.length then match M212 r15.b0 r15.t47[r15.t49.toNat]! I with|V=>V|Q r16=>bif bif O (r16=0)then I else G then Q (r16)else V else V else V else V else V else Q 0
def aw2(M212:aQ->(aa ay)->Bool->ah lY)(a0:aQ)(a1:aa ay)(a2:Bool):ct vi (abT M212) 300 (aiw M212) 212 (ajU.c (a0,a1,a2,())) [] 0 d212.rd=ae8 M212 a0 a1 a2:=by kernel_rfl
def ahs:Nat->(aQ->(aa ay)->Bool->ah lY)
 |0=>(λ_ _ _=>V)
 |n+1=>(ae8 (ahs n))
def N5(n:Nat):aQ->(aa ay)->Bool->ah lY:=(ahs n)
def Kb:∀n,acH (N5 n)
 |0=>λ_ _ h=>(by cases h)
 |n+1=>by
  have ih:=Kb n;have i212:=ih;exact(fm (abp i212) (as9 (N5 n)) (λ_=>by kernel_rfl) (λ_=>by kernel_rfl) λg=>aw2 (N5 n) g.1 g.2.1 g.2.2.1)
def afj:aQ->(aa ay)->Bool->ah lY:=λa0 a1 a2=>lim (λn=>N5 n a0 a1 a2)
def agy:acH afj:=λg b h=>by
 obtain⟨n,hn⟩:=dG (show lim (λn=>N5 n g.1 g.2.1 g.2.2.1)=Q b from h);exact(Kb n) g b hn
def ao4(F:bw):bw:=ab0 afj F
def agM{F:bw}(h:bG vi F):bG vi (ao4 F):=Rv agy h
abbrev rX:=qv
def d213:Td 0 rX:= .c [] [2] (.r 0 1 (ec 2 (qp 0 0) en) (sb 0 260 (lg 260) sn) (λz=>z.2.1) (λx=>(((),()),(x,()))))
def amM:=(lc (ql 166) ln)
def alh(M:(aa ay)->ah rX):bw->bw:=eL vi 213 I amM d213 (λg=>M g.1)
def af8(M:(aa ay)->ah rX):Prop:=HL vi 213 amM d213 (λg=>M g.1)
def S7{M:(aa ay)->ah rX}(hM:af8 M){F:bw}(h:bG vi F):bG vi (alh M F):=iJ (sc:=Ec) fS hM ⟨_,func213,by kernel_rfl,by kernel_rfl⟩ (λ_=>by kernel_rfl) (λ_=>by kernel_rfl) h
def akU(M213:(aa ay)->ah rX):bw:=(alh M213 eB)
def aeo{M213}(h213:af8 M213):bG vi (akU M213):=(S7 h213 aY)
structure pH where
 t9:List ay
 (t10 t11:Int)
 (b0 b1:qv)
def Pn:Td 0 pH:= .c [] [2,3,9,10,11] (.r 0 2 (ec 2 (qp 0 0) (ec 3 (qp 1 0) (ec 9 (ql 166) (ec 10 aU (ec 11 aU en))))) (sb 0 260 (lg 260) (sb 1 260 (lg 260) sn)) (λz=>⟨z.1.t.1,z.1.t.2.1,z.1.q.1,z.2.1,z.t.1⟩) (λx=>(((),(),x.t9,x.t10,x.t11,()),(x.b0,x.b1,()))))
def I6(M213:(aa ay)->ah rX)(p:pH):ah (ah pH):=
 bif O (p.t11<p.t10)then if 0<=p.t11/\p.t11<p.t9.length then match M213 p.t9[p.t11.toNat]!.aD with|V=>V|Q r1=>match M213 p.t9[p.t11.toNat]!.aJ with|V=>V|Q r2=>bif O (p.t9[p.t11.toNat]!.bN=1)then Q (Q (pH.mk p.t9 p.t10 (i64.wrap (p.t11+1)) p.b0 (qv.mk (if 1099511627776<i64.wrap (p.b1.fY+1)then 1099511627776 else i64.wrap (p.b1.fY+1)) (if 1099511627776<i64.wrap (p.b1.aP+1)then 1099511627776 else i64.wrap (p.b1.aP+1)) (if 1099511627776<i64.wrap (p.b1.aF+p.t9[p.t11.toNat]!.aN)then 1099511627776 else i64.wrap (p.b1.aF+p.t9[p.t11.toNat]!.aN)))))else bif O (p.t9[p.t11.toNat]!.bN=3)then Q (Q (pH.mk p.t9 p.t10 (i64.wrap (p.t11+1)) p.b0 (qv.mk (if 1099511627776<i64.wrap (p.b1.fY+i64.wrap (1+if r1.fY<r2.fY then r2.fY else r1.fY))then 1099511627776 else i64.wrap (p.b1.fY+i64.wrap (1+if r1.fY<r2.fY then r2.fY else r1.fY))) (if 1099511627776<i64.wrap (p.b1.aP+if r1.aP<r2.aP then r2.aP else r1.aP)then 1099511627776 else i64.wrap (p.b1.aP+if r1.aP<r2.aP then r2.aP else r1.aP)) (if 1099511627776<i64.wrap (p.b1.aF+i64.wrap (p.t9[p.t11.toNat]!.aN+if r1.aF<r2.aF then r2.aF else r1.aF))then 1099511627776 else i64.wrap (p.b1.aF+i64.wrap (p.t9[p.t11.toNat]!.aN+if r1.aF<r2.aF then r2.aF else r1.aF))))))else bif O (p.t9[p.t11.toNat]!.bN=4)then Q (Q (pH.mk p.t9 p.t10 (i64.wrap (p.t11+1)) p.b0 (qv.mk (if 1099511627776<i64.wrap (p.b1.fY+i64.wrap (1+i64.wrap (p.t9[p.t11.toNat]!.fN*i64.wrap (1+r1.fY))))then 1099511627776 else i64.wrap (p.b1.fY+i64.wrap (1+i64.wrap (p.t9[p.t11.toNat]!.fN*i64.wrap (1+r1.fY))))) (if 1099511627776<i64.wrap (p.b1.aP+i64.wrap (p.t9[p.t11.toNat]!.fN*r1.aP))then 1099511627776 else i64.wrap (p.b1.aP+i64.wrap (p.t9[p.t11.toNat]!.fN*r1.aP))) (if 1099511627776<i64.wrap (p.b1.aF+i64.wrap (p.t9[p.t11.toNat]!.fN*i64.wrap (p.t9[p.t11.toNat]!.aN+r1.aF)))then 1099511627776 else i64.wrap (p.b1.aF+i64.wrap (p.t9[p.t11.toNat]!.fN*i64.wrap (p.t9[p.t11.toNat]!.aN+r1.aF)))))))else Q (Q (pH.mk p.t9 p.t10 (i64.wrap (p.t11+1)) p.b0 (qv.mk (if 1099511627776<i64.wrap (p.b1.fY+1)then 1099511627776 else i64.wrap (p.b1.fY+1)) (if 1099511627776<i64.wrap (p.b1.aP+0)then 1099511627776 else i64.wrap (p.b1.aP+0)) (if 1099511627776<i64.wrap (p.b1.aF+p.t9[p.t11.toNat]!.aN)then 1099511627776 else i64.wrap (p.b1.aF+p.t9[p.t11.toNat]!.aN)))))else V else Q (V)
def G1(M213:(aa ay)->ah rX):=bJ (I6 M213)
def ahH(M213:(aa ay)->ah rX):An:=(noTwo (noTwo (.two (noTwo (Pn.lp (G1 M213) .no)) .no)))
def aoh(M213:(aa ay)->ah rX):gv vi (akU M213) 0 300 213 (ahH M213):=cD (l:=[(bE f213 0,(Pn.lp (G1 M213) .no))]) func213 (bR (by kernel_rfl)) (by kernel_rfl) (aB (aO Pn) aI)
def ac8(M213:(aa ay)->ah rX)(a0:aa ay):ah rX:=
 match G1 M213 (pH.mk a0 a0.length 0 (qv.mk 0 0 0) (qv.mk 0 0 0))with|V=>V|Q r3=>bif O (r3.t11<r3.t10)then if 0<=r3.t11/\r3.t11<r3.t9.length then match M213 r3.t9[r3.t11.toNat]!.aD with|V=>V|Q r4=>match M213 r3.t9[r3.t11.toNat]!.aJ with|V=>V|Q r5=>bif O (r3.t9[r3.t11.toNat]!.bN=1)then V else bif O (r3.t9[r3.t11.toNat]!.bN=3)then V else bif O (r3.t9[r3.t11.toNat]!.bN=4)then V else V else V else Q (r3.b1)
def auP(M213:(aa ay)->ah rX)(a0:aa ay):ct vi (akU M213) 300 (ahH M213) 213 (amM.c (a0,())) [] 0 d213.rd=ac8 M213 a0:=by kernel_rfl
def agW:Nat->((aa ay)->ah rX)
 |0=>(λ_=>V)
 |n+1=>(ac8 (agW n))
def Om(n:Nat):(aa ay)->ah rX:=(agW n)
def L6:∀n,af8 (Om n)
 |0=>λ_ _ h=>(by cases h)
 |n+1=>by
  have ih:=L6 n;have i213:=ih;exact(fm (aeo i213) (aoh (Om n)) (λ_=>by kernel_rfl) (λ_=>by kernel_rfl) λg=>auP (Om n) g.1)
def Y2:(aa ay)->ah rX:=λa0=>lim (λn=>Om n a0)
def aek:af8 Y2:=λg b h=>by
 obtain⟨n,hn⟩:=dG (show lim (λn=>Om n g.1)=Q b from h);exact(L6 n) g b hn
def arY(F:bw):bw:=alh Y2 F
def aeZ{F:bw}(h:bG vi F):bG vi (arY F):=S7 aek h
def apz:bw:=(arY (ao4 (arK (asU (alU (ab2 (atv eB)))))))
structure vW where
 t14:List dz
 (t15 t16:Int)
 b0:aQ
 b1:aW
def PR:Td 0 vW:= .c [] [1,3,14,15,16] (.r 0 2 (ec 1 (qp 0 0) (ec 3 (qp 1 0) (ec 14 (ql 139) (ec 15 aU (ec 16 aU en))))) (sb 0 26 (lg 26) (sb 1 256 (lg 256) sn)) (λz=>⟨z.1.t.1,z.1.t.2.1,z.1.q.1,z.2.1,z.t.1⟩) (λx=>(((),(),x.t14,x.t15,x.t16,()),(x.b0,x.b1,()))))
def EH(p:vW):ah (ah vW):=
 bif O (p.t16<p.t15)then if 0<=p.t16/\p.t16<p.t14.length then bif bif(jA p.b1).fst then I else G then match Fv (ax.mk p.t14[p.t16.toNat]!.az.bf p.t14[p.t16.toNat]!.az.fN p.t14[p.t16.toNat]!.az.aq) 1 (jA p.b1).snd with|V=>V|Q r1=>Q (Q (vW.mk p.t14 p.t15 (i64.wrap (p.t16+1)) p.b0 r1))else Q (Q (vW.mk p.t14 p.t15 (i64.wrap (p.t16+1)) p.b0 (jA p.b1).snd))else V else Q (V)
def DM:=bJ (EH)
abbrev as2:=Int
def d136:Td 0 as2:= .c [] [2] (.r 0 0 (ec 2 aU en) sn (λz=>z.1.1) (λx=>((x,()),(()))))
def apQ:∀f∈([]:aa Nat),bA (apz) f:=aI
def agG(a0:aQ):ah as2:=
 match Zi a0.bI 1 (aW.mk 0 I)with|V=>V|Q r2=>match DM (vW.mk a0.ak a0.ak.length 0 a0 r2)with|V=>V|Q r3=>bif O (r3.t16<r3.t15)then if 0<=r3.t16/\r3.t16<r3.t14.length then bif bif(jA r3.b1).fst then I else G then match Fv (ax.mk r3.t14[r3.t16.toNat]!.az.bf r3.t14[r3.t16.toNat]!.az.fN r3.t14[r3.t16.toNat]!.az.aq) 1 (jA r3.b1).snd with|V=>V|Q r4=>V else V else V else bif O (64<(r3.b0.ai.length:Int))then Q 4 else bif O (8<(r3.b0.ak.length:Int))then Q 4 else bif(jA r3.b1).fst then Q 4 else match acT r3.b0.ai with|V=>V|Q r5=>bif bif O (r5=0)then I else G then Q (r5)else match afF r3.b0 with|V=>V|Q r6=>bif bif O (r6=0)then I else G then Q (r6)else match afj r3.b0 r3.b0.bI G with|V=>V|Q r7=>bif bif O (r7=0)then I else G then Q (r7)else match Y2 r3.b0.bI with|V=>V|Q r8=>match bif O (4096<r8.fY)then Q G else bif O (8<r8.aP)then Q G else Q (O (67108864<r8.aF))with|V=>V|Q r9=>bif r9 then Q 4 else Q 0
def akJ:=eL vi 136 I (lc (qg 26) ln) d136 (λg=>agG g.1)
def ab5:EO akJ:=λh=>kL (F:=apz) (an:=(noTwo (noTwo (noTwo (.two (noTwo (PR.lp DM .no)) (noTwo (noTwo (noTwo (noTwo (.two (noTwo (.two (.rb [] 72) .no)) .no)))))))))) (l:=[(bE f136 0,(PR.lp DM .no)),(.skip,(.rb [] 72))]) func136 (aeZ (agM (aaJ (ac4 (Tj (II (abE aY))))))) (aB (aO PR) (aB apQ aI)) h
def GB:EP akJ:=λh=>kP h
def Zv(l:aa UInt8):(ByteArray.mk (xb l)).toList=l:=by
 have key:∀(k i:Nat) (acc:aa UInt8),i+k=l.length->ByteArray.toList.loop (ByteArray.mk (xb l)) i acc=acc.reverse++l.drop i:=by
  intro k;induction k with
  |zero=>
   intro i acc h;rw[ByteArray.toList.loop];have hs:(ByteArray.mk (xb l)).size=l.length:=rfl;rw[bF (by rw[hs];omega)];rw[xL (by omega),yy]
  |succ k ih=>
   intro i acc h;rw[ByteArray.toList.loop];have hs:(ByteArray.mk (xb l)).size=l.length:=rfl;rw[bt (by rw[hs];omega),ih (i+1) _ (by omega)];have hi:i<l.length:=by omega
   rw[wj hi];have:(ByteArray.mk (xb l)).get! i=l[i]:=by
    show (xb l)[i]! =_;rw[getElem!_pos (xb l) i hi];rfl
   rw[this];simp
 have:=key l.length 0 [] (by omega);simpa [ByteArray.toList]using this
def alq(s:ByteArray):(s.toList==(ByteArray.mk (xb [])).toList)=O (s.size=0):=by
 obtain⟨⟨l⟩⟩:=s;rw[Zv,Zv];have hs:(ByteArray.mk (xb l)).size=l.length:=rfl;rw[hs];cases l with
 |nil=>rfl
 |cons a l=>simp
def qX{n i:Nat}(h:i<n):(zP n)[i]! =i:=by rw[getElem!_pos _ i (by simpa using h)];simp
def Ca(s:ByteArray):OY s=Q (je s):=by
 unfold OY;rw[alq];by_cases h0:s.size=0
 ·simp[h0,je]
 by_cases h1:40<(s.size:Int)
 ·have h1':¬s.size<=40:=by omega
  simp[h0,h1,h1',je]
 rw[bP h0,bP h1];dsimp only[bz];obtain⟨i,e1,hc⟩:=me (cL:=HB) (zP s.size) (λi=>⟨s,(s.size:Int),(i:Int)⟩) (λi j=>okc j (cq s j)) (λi hi=>by
  rw[xC]at hi;have hw:=gH hi (by omega);rw[qX hi];unfold HB okc;dsimp only;simp only[zl,zi];grind) (by unfold HB;simp)
 have e1':Ii ⟨s,(s.size:Int),0⟩=Q ⟨s,(s.size:Int),(i:Int)⟩:=e1;rw[e1'];have h2:je s=(zP s.size).all λi=>okc i (cq s i):=by
  unfold je;rw[rZ,rZ];simp
 rw[h2];dsimp only;rcases hc with ⟨rfl,hc⟩|⟨hi,hc⟩
 ·rw[El hc];simp
 ·rw[tR hi hc];rw[xC]at hi;rw[qX hi]at hc;unfold okc at hc;simp only[zl,zi];grind
def Cm(s:ByteArray):Oa s=Q (je s):=by
 unfold Oa;by_cases h0:s.size<1
 ·have h0':¬1<=s.size:=by omega
  have h0'':(s.size:Int)<1:=by omega
  simp[h0'',h0',je]
 by_cases h1:40<(s.size:Int)
 ·have h1':¬s.size<=40:=by omega
  have h0'':¬(s.size:Int)<1:=by omega
  simp[h0'',h1,h1',je]
 rw[bP (show ¬(s.size:Int)<1 by omega),bP h1];dsimp only[bz];obtain⟨i,e1,hc⟩:=me (cL:=Jf) (zP s.size) (λi=>⟨s,(i:Int)⟩) (λi j=>okc j (cq s j)) (λi hi=>by
  rw[xC]at hi;have hw:=gH hi (by omega);rw[qX hi];unfold Jf okc;dsimp only;simp only[zl,zi];grind) (by unfold Jf;simp)
 have e1':Jr ⟨s,0⟩=Q ⟨s,(i:Int)⟩:=e1;rw[e1'];have h2:je s=(zP s.size).all λi=>okc i (cq s i):=by
  unfold je;rw[rZ,rZ];simp
 rw[h2];dsimp only;rcases hc with ⟨rfl,hc⟩|⟨hi,hc⟩
 ·rw[El hc];simp
 ·rw[tR hi hc];rw[xC]at hi;rw[qX hi]at hc;unfold okc at hc;simp only[zl,zi];grind
def BZ(a b:Int):I3 a b=gY a b:=by
 unfold I3 gY;simp only[zl];grind
def Cq(a b:Int):H6 a b=gY a b:=by
 unfold H6 gY;simp only[zl];grind
def P4(l:aa aS)(hl:l.length<=1000000)(v:aS):XC l v=Q (l.any λw=>w.fName.toList==v.fName.toList):=by
 obtain⟨i,e1,hc⟩:=me (cL:=HR) l (λi=>⟨l,v.fName,v.bq,v.ag,v.af,v.dB,(l.length:Int),(i:Int)⟩) (λ_ w=> !(w.fName.toList==v.fName.toList)) (λi hi=>by
  have hw:=gH hi hl;unfold HR VE;dsimp only;simp only[zl,zi];grind) (by unfold HR;simp)
 have e1':IJ ⟨l,v.fName,v.bq,v.ag,v.af,v.dB,(l.length:Int),0⟩=Q ⟨l,v.fName,v.bq,v.ag,v.af,v.dB,(l.length:Int),(i:Int)⟩:=e1;unfold XC amV;rw[e1'];dsimp only;rcases hc with ⟨rfl,hc⟩|⟨hi,hc⟩
 ·rw[vq λj hj=>by have:=hc j hj;simpa using this];simp
 ·have hc':(l[i]!.fName.toList==v.fName.toList)=G:=by simpa using hc
  rw[Dz hi hc'];unfold VE;simp only[zi,hc',bC];simp[hi]
def Gs(l:aa aS)(hl:l.length<=1000000)(n:Nat)(hn:n<=l.length)(v:aS):
  ∃i:Nat,DH ⟨l,n,0,v⟩=Q ⟨l,n,(i:Int),v⟩/\((i=n/\((l.take n).any λw=>w.fName.toList==v.fName.toList)=I)\/(i<n/\(l[i]!.fName.toList==v.fName.toList)=G/\((l.take n).any λw=>w.fName.toList==v.fName.toList)=G)):=by
 have hlen:(l.take n).length=n:=by rw[z6];omega
 have hget:∀i,i<n->(l.take n)[i]! =l[i]! :=λi hi=>by
  rw[getElem!_pos _ i (by omega),getElem!_pos _ i (by omega),wL]
 obtain⟨i,e1,hc⟩:=me (cL:=GY) (l.take n) (λi=>⟨l,(n:Int),(i:Int),v⟩) (λ_ w=> !(w.fName.toList==v.fName.toList)) (λi hi=>by
  rw[hlen]at hi;have hw:=gH hi (by omega);rw[hget i hi];unfold GY;dsimp only;simp only[zl,zi];grind) (by rw[hlen];unfold GY;simp)
 refine⟨i,e1,?_⟩;rw[hlen]at hc;rcases hc with ⟨rfl,hc⟩|⟨hi,hc⟩
 ·exact .inl ⟨rfl,vq λj hj=>by have:=hc j (by omega);simpa using this⟩
 ·have hc':((l.take n)[i]!.fName.toList==v.fName.toList)=G:=by simpa using hc
  exact .inr ⟨hi,by rw[<-hget i hi];exact hc',Dz (by omega) hc'⟩
def Cz(a b:aa ax):jH (a++b)=jH a+jH b:=by simp[jH]
def CY(l:aa ax)(i:Nat):jH (l.take i)<=jH l:=by
 have:=Cz (l.take i) (l.drop i);rw[xj]at this;omega
def HZ(l:aa ax):l.length<=jH l:=by
 induction l with
 |nil=>simp
 |cons a l ih=>rw[qx];have:=Jo a;simp;omega
def aed(a b:aa ay):fP (a++b)=fP a+fP b:=by simp[fP]
def XH(l:aa ay)(i:Nat):fP (l.take i)<=fP l:=by
 have:=aed (l.take i) (l.drop i);rw[xj]at this;omega
def amS(s:ay):0<nS s:=by rw[ou];omega
def jW(l:aa ay):l.length<=fP l:=by
 induction l with
 |nil=>simp
 |cons a l ih=>rw[mR];have:=amS a;simp;omega
def DE{l:aa ax}{i:Nat}(hi:i<l.length):jH (l.take i)+nT l[i]!<=jH l:=by
 have:=CY l (i+1);rw[bO hi,qO]at this;exact this
def Da{l:aa ay}{i:Nat}(hi:i<l.length):fP (l.take i)+nS l[i]!<=fP l:=by
 have:=XH l (i+1);rw[bO hi,KC]at this;exact this
def OJ(l:aa ax)(h:∀k∈l,dT k<=nT k):∀i,i<=l.length->MP (l.take i)<=jH (l.take i):=by
 intro i;induction i with
 |zero=>intro _;simp[MP,jH]
 |succ i ih=>
  intro hi;have:=ih (by omega);have h2:=h _ (aV (show i<l.length by omega));rw[bO (by omega),Fa,qO];omega
def ais(t:ax):dT t<=nT t:=by
 have key:∀(n:Nat) (t:ax),zk t<n->dT t<=nT t:=by
  intro n;induction n with
  |zero=>intro t h;omega
  |succ n ih=>
   intro t h;have:=OJ t.aq (λk hk=>ih k (by have:=ax.dU hk;omega)) t.aq.length (zI _);rw[zR]at this;rw[S4,vz];omega
 exact key _ t (zC _)
def Wz(l:aa ax)(i:Nat):MP (l.take i)<=jH l:=by
 have h1:=CY l i;by_cases h:i<=l.length
 ·have:=OJ l (λk _=>ais k) i h;omega
 ·have:=OJ l (λk _=>ais k) l.length (zI _);rw[zR]at this;rw[List.take_of_length_le (by omega)];omega
def WX(l:aa ay):jR l<=fP l:=by
 have key:∀(n:Nat) (l:aa ay),zk l<n->jR l<=fP l:=by
  intro n;induction n with
  |zero=>intro t h;omega
  |succ n ih=>
   intro l h;cases l with
   |nil=>rw[jR];simp[fP]
   |cons s l=>
    have q1:=ih s.aD (by have:=aX (l:=s::l) (zo ..);omega);have q2:=ih s.aJ (by have:=aX (l:=s::l) (zo ..);omega);have q3:=ih l (by have:=dc s l;omega);rw[jR,mR,ou];omega
 exact key _ l (zC _)
def acO(M:ax->ah qc)(t:ax)(hM:∀k∈t.aq,M k=Q (nT k:Int))(h:nT t<=1000):ad2 M t=Q (nT t:Int):=by
 have hN:=vz t;have hL:=HZ t.aq;obtain⟨v,e1,hv⟩:=dD (cL:=I8 M) t.aq.length (λi (b:Int)=>⟨b,(i:Int),t⟩) (λi b=>b=1+jH (t.aq.take i)) (λi b hi hb=>by
   have hs:=DE hi;refine⟨b+nT t.aq[i]!,?_,?_⟩
   ·have hk:=hM _ (aV hi);have hw:=gH hi (by omega);have hw2:i64.wrap (b+nT t.aq[i]!)=b+nT t.aq[i]! :=aG;unfold I8;dsimp only;simp only[zl,zi,ax.eta,hk];grind
   ·rw[bO hi,qO];omega) (λb _=>by unfold I8;simp) (b:=1) (by simp[jH])
 have e1':G0 M ⟨1,0,t⟩=Q ⟨v,(t.aq.length:Int),t⟩:=e1;unfold ad2;rw[ax.eta,e1',hN];rw[zR]at hv;simp[hv]
def PU:∀(n:Nat) (t:ax),zk t<n->nT t<=1000->OG n t=Q (nT t:Int)
 |0,_,h,_=>by omega
 |n+1,t,h,h2=>acO (OG n) t (λk hk=>PU n k (by have:=ax.dU hk;omega) (by have:=RN hk;have:=vz t;omega)) h2
def GZ(t:ax)(h:nT t<=1000):Pp t=Q (nT t:Int):=eT (zk t+1) λn hn=>PU n t (by omega) h
def aeA(M:ax->ah qu)(t:ax)(hM:∀k∈t.aq,M k=Q (dT k))(h:nT t<=1000):af0 M t=Q (dT t):=by
 have hN:=vz t;have hL:=HZ t.aq;obtain⟨v,e1,hv⟩:=dD (cL:=JM M) t.aq.length (λi (b:Int)=>⟨b,(i:Int),t⟩) (λi b=>b=MP (t.aq.take i)) (λi b hi hb=>by
   refine⟨max b (dT t.aq[i]!),?_,?_⟩
   ·have hk:=hM _ (aV hi);have hw:=gH hi (by omega);unfold JM;dsimp only;simp only[zl,zi,ax.eta,hk];grind
   ·rw[bO hi,Fa,hb]) (λb _=>by unfold JM;simp) (b:=0) (by simp[MP])
 have e1':Jq M ⟨0,0,t⟩=Q ⟨v,(t.aq.length:Int),t⟩:=e1;unfold af0;rw[ax.eta,e1',S4];have hd:=Wz t.aq t.aq.length;have hp:=Hg t.aq;rw[zR]at hv hd;subst hv;have hw2:i64.wrap (MP t.aq+1)=MP t.aq+1:=aG;dsimp only;rw[fO];show Q (i64.wrap (MP t.aq+1))=_;rw[hw2]
 congr 1
 omega
def Qr:∀(n:Nat) (t:ax),zk t<n->nT t<=1000->M8 n t=Q (dT t)
 |0,_,h,_=>by omega
 |n+1,t,h,h2=>aeA (M8 n) t (λk hk=>Qr n k (by have:=ax.dU hk;omega) (by have:=RN hk;have:=vz t;omega)) h2
def HV(t:ax)(h:nT t<=1000):Ko t=Q (dT t):=eT (zk t+1) λn hn=>Qr n t (by omega) h
def B4{s:ay}{l:aa ay}(h:s∈l):nS s<=fP l:=by
 induction l with
 |nil=>cases h
 |cons a l ih=>
  rw[mR];rcases zF.1 h with rfl|h
  ·omega
  ·have:=ih h;omega
def gN:aa ay->Int
 |[]=>0
 |s::l=>1+nT s.az+gN s.aD+gN s.aJ+gN l
termination_by l=>zk l
decreasing_by
 ·exact(aX (zo ..)).1
 ·exact(aX (zo ..)).2
 ·exact dc _ _
def BP(l:aa ay):0<=gN l/\gN l<=fP l:=by
 have key:∀(n:Nat) (l:aa ay),zk l<n->0<=gN l/\gN l<=fP l:=by
  intro n;induction n with
  |zero=>intro t h;omega
  |succ n ih=>
   intro l h;cases l with
   |nil=>rw[gN];simp[fP]
   |cons s l=>
    have q1:=ih s.aD (by have:=aX (l:=s::l) (zo ..);omega);have q2:=ih s.aJ (by have:=aX (l:=s::l) (zo ..);omega);have q3:=ih l (by have:=dc s l;omega);rw[gN,mR,ou];omega
 exact key _ l (zC _)
def Ul(l:aa ay)(s:ay):gN (l++[s])=gN l+(1+nT s.az+gN s.aD+gN s.aJ):=by
 induction l with
 |nil=>rw[ym,show gN []=0 by rw[gN],gN,show gN []=0 by rw[gN]];omega
 |cons a l ih=>rw[xE,gN,gN,ih];omega
def agf(M:aa ay->ah qM)(l:aa ay)(hM:∀s∈l,M s.aD=Q (gN s.aD)/\M s.aJ=Q (gN s.aJ))(h:fP l<=1000):agA M l=Q (gN l):=by
 have hL:=jW l;obtain⟨v,e1,hv⟩:=dD (cL:=HE M) l.length (λi (b:Int)=>⟨l,b,(i:Int)⟩) (λi b=>b=gN (l.take i)) (λi b hi hb=>by
   have hs:=Da hi;have hE:=ou l[i]!;obtain⟨k1,k4⟩:=hM _ (aV hi);have k2:=BP l[i]!.aD;have k3:=BP l[i]!.aJ;have k5:=BP (l.take i);have hk:=GZ l[i]!.az (by omega);have hw:=gH hi (by omega);refine⟨b+(1+nT l[i]!.az+gN l[i]!.aD+gN l[i]!.aJ),?_,?_⟩
   ·have w1:i64.wrap (b+1)=b+1:=aG;have w2:i64.wrap (b+1+nT l[i]!.az)=b+1+nT l[i]!.az:=aG;have w3:i64.wrap (b+1+nT l[i]!.az+gN l[i]!.aD)=b+1+nT l[i]!.az+gN l[i]!.aD:=aG;have w4:i64.wrap (b+1+nT l[i]!.az+gN l[i]!.aD+gN l[i]!.aJ)=b+(1+nT l[i]!.az+gN l[i]!.aD+gN l[i]!.aJ):=by rw[aG];omega
    unfold HE;dsimp only;simp only[zl,zi,ax.eta,hk,k1,k4,w1,w2,w3,w4,hw];grind
   ·rw[bO hi,Ul];omega) (λb _=>by unfold HE;simp) (b:=0) (by simp[gN])
 have e1':JJ M ⟨l,0,0⟩=Q ⟨l,v,(l.length:Int)⟩:=e1;unfold agA;rw[e1'];rw[zR]at hv;simp[hv]
def gy{s:ay}{l:aa ay}(h:s∈l):fP s.aD<=fP l/\fP s.aJ<=fP l:=by
 have:=B4 h;have:=ou s;omega
def Ho:∀(n:Nat) (l:aa ay),zk l<n->fP l<=1000->NP n l=Q (gN l)
 |0,_,h,_=>by omega
 |n+1,l,h,h2=>agf (NP n) l (λs hs=>⟨Ho n _ (by have:=aX hs;omega) (by have:=gy hs;omega),Ho n _ (by have:=aX hs;omega) (by have:=gy hs;omega)⟩) h2
def agN(l:aa ay)(h:fP l<=1000):afJ l=Q (gN l):=eT (zk l+1) λn hn=>Ho n l (by omega) h
def aa6(M:aa ay->ah pg)(l:aa ay)(hM:∀s∈l,M s.aD=Q (jR s.aD)/\M s.aJ=Q (jR s.aJ))(h:fP l<=1000):ach M l=Q (jR l):=by
 have hL:=jW l;obtain⟨v,e1,hv⟩:=dD (cL:=IF M) l.length (λi (b:Int)=>⟨l,b,(i:Int)⟩) (λi b=>b=jR (l.take i)) (λi b hi hb=>by
   obtain⟨k1,k4⟩:=hM _ (aV hi);have k2:=WX l[i]!.aD;have k3:=WX l[i]!.aJ;have k5:=gy (aV hi);have k6:=rN l[i]!.aD;have k7:=rN l[i]!.aJ;have hw:=gH hi (by omega);refine⟨max b (max (jR l[i]!.aD+1) (jR l[i]!.aJ+1)),?_,?_⟩
   ·have w1:i64.wrap (jR l[i]!.aD+1)=jR l[i]!.aD+1:=aG;have w2:i64.wrap (jR l[i]!.aJ+1)=jR l[i]!.aJ+1:=aG;unfold IF;dsimp only;simp only[zl,zi,k1,k4,w1,w2,hw];grind
   ·rw[bO hi,Xa];omega) (λb _=>by unfold IF;simp) (b:=0) (by simp[jR])
 have e1':HX M ⟨l,0,0⟩=Q ⟨l,v,(l.length:Int)⟩:=e1;unfold ach;rw[e1'];rw[zR]at hv;simp[hv]
def Im:∀(n:Nat) (l:aa ay),zk l<n->fP l<=1000->Oe n l=Q (jR l)
 |0,_,h,_=>by omega
 |n+1,l,h,h2=>aa6 (Oe n) l (λs hs=>⟨Im n _ (by have:=aX hs;omega) (by have:=gy hs;omega),Im n _ (by have:=aX hs;omega) (by have:=gy hs;omega)⟩) h2
def agk(l:aa ay)(h:fP l<=1000):abS l=Q (jR l):=eT (zk l+1) λn hn=>Im n l (by omega) h
def LM(s:ay):Bool:=O (12<dT s.az)||fI s.aD||fI s.aJ
def T9(l:aa ay):fI l=l.any LM:=by
 induction l with
 |nil=>rw[fI];rfl
 |cons s l ih=>rw[fI,ih,List.any_cons];rfl
def aba(M:aa ay->ah oN)(l:aa ay)(hM:∀s∈l,M s.aD=Q (fI s.aD)/\M s.aJ=Q (fI s.aJ))(h:fP l<=1000):agz M l=Q (fI l):=by
 have hL:=jW l;have hT:∀i,i<l.length->Ko l[i]!.az=Q (dT l[i]!.az):=λi hi=>HV _ (by have:=B4 (aV hi);have:=ou l[i]!;omega);obtain⟨i,e1,hc⟩:=me (cL:=H8 M) l (λi=>⟨l,(i:Int)⟩) (λ_ s=> !LM s) (λi hi=>by
   obtain⟨k1,k4⟩:=hM _ (aV hi);have hk:=hT i hi;have hw:=gH hi (by omega);unfold H8 LM;dsimp only;simp only[zl,zi,ax.eta,hk,k1,k4,hw];cases fI l[i]!.aD<;>cases fI l[i]!.aJ<;>grind) (by unfold H8;simp)
 have e1':JN M ⟨l,0⟩=Q ⟨l,(i:Int)⟩:=e1;unfold agz;rw[e1',T9];dsimp only;rcases hc with ⟨rfl,hc⟩|⟨hi,hc⟩
 ·rw[vq λj hj=>by have:=hc j hj;simpa using this];simp
 ·have hc':LM l[i]! =G:=by simpa using hc
  rw[Dz hi hc'];obtain⟨k1,k4⟩:=hM _ (aV hi);have hk:=hT i hi;unfold LM at hc';simp only[zl,zi,ax.eta,hk,k1,k4];revert hc';cases fI l[i]!.aD<;>cases fI l[i]!.aJ<;>grind
def Jt:∀(n:Nat) (l:aa ay),zk l<n->fP l<=1000->Oo n l=Q (fI l)
 |0,_,h,_=>by omega
 |n+1,l,h,h2=>aba (Oo n) l (λs hs=>⟨Jt n _ (by have:=aX hs;omega) (by have:=gy hs;omega),Jt n _ (by have:=aX hs;omega) (by have:=gy hs;omega)⟩) h2
def Z8(l:aa ay)(h:fP l<=1000):aau l=Q (fI l):=eT (zk l+1) λn hn=>Jt n l (by omega) h
def fk(b:aW):Bool:=b.fL||O (1024<b.bB)
def u7(b:aW):jA b=(fk b,b):=by
 unfold jA fk;cases b.fL<;>rfl
def dy(d:Int)(b:aW):aW:=⟨b.bB+1,b.fL||O (12<d)⟩
def sG(t:ax)(d:Int)(b:aW):aW:=if fk (dy d b)=G then dy d b else t.aq.attach.foldl (λb k=>sG k.1 (d+1) b) (dy d b)
termination_by zk t
decreasing_by exact ax.dU k.2
def FD(l:aa ax)(d:Int)(b:aW):aW:=l.foldl (λb k=>sG k d b) b
def VP(t:ax)(d:Int)(b:aW):sG t d b=if fk (dy d b)=G then dy d b else FD t.aq (d+1) (dy d b):=by
 rw[sG,FD];rw[show t.aq.attach.foldl (λb k=>sG k.1 (d+1) b) (dy d b)=t.aq.foldl (λb k=>sG k (d+1) b) (dy d b)from List.foldl_attach (f:=λb k=>sG k (d+1) b)]
def Gi(l:aa ax)(k:ax)(d:Int)(b:aW):FD (l++[k]) d b=sG k d (FD l d b):=by simp[FD]
def MsP(d0:Int)(n:Int)(b r:aW):Prop:=r.fL=(b.fL||O (12<d0))/\b.bB<=r.bB/\r.bB<=b.bB+n
def Jw(t:ax)(d:Int)(b:aW)(h0:0<=d)(h1:0<=b.bB)(h2:b.bB+nT t<=1000):MsP (d-1+dT t) (nT t) b (sG t d b):=by
 have key:∀(n:Nat) (t:ax) (d:Int) (b:aW),zk t<n->0<=d->0<=b.bB->b.bB+nT t<=1000->MsP (d-1+dT t) (nT t) b (sG t d b):=by
  intro n;induction n with
  |zero=>intro t d b h;omega
  |succ n ih=>
   intro t d b h h0 h1 h2;have hN:=vz t;have hD:=S4 t;have hd0:=Hg t.aq;rw[VP];by_cases ho:fk (dy d b)=G
   ·rw[bt ho];unfold fk dy at ho;unfold MsP dy;grind
   ·rw[bF ho];have hi:∀i,i<=t.aq.length->MsP (d+MP (t.aq.take i)) (jH (t.aq.take i)) (dy d b) (FD (t.aq.take i) (d+1) (dy d b)):=by
     intro i;induction i with
     |zero=>
      intro _;unfold fk dy at ho;simp only[xT,FD,List.foldl_nil,MsP,MP,jH,xw,dy];grind
     |succ i ihi=>
      intro hi;have q:=ihi (by omega);have hs:=DE (show i<t.aq.length by omega);have hm:t.aq[i]!∈t.aq:=aV (by omega);have hp:(dy d b).bB=b.bB+1:=rfl;have q2:=ih t.aq[i]! (d+1) (FD (t.aq.take i) (d+1) (dy d b)) (by have:=ax.dU hm;omega) (by omega) (by have:=q.2.1;omega) (by have:=q.2.2;omega);rw[bO (by omega),Gi,Fa,qO];unfold MsP at q q2 ⊢;obtain⟨a1,a2,a3⟩:=q;obtain⟨c1,c2,c3⟩:=q2;refine⟨?_,by omega,by omega⟩;rw[c1,a1];rw[Bool.or_assoc]
      congr 1
      rw[<-Bool.decide_or];apply decide_eq_decide.2;omega
    have q:=hi t.aq.length (zI _);rw[zR]at q;unfold MsP at q ⊢;obtain⟨a1,a2,a3⟩:=q;unfold fk at ho;have hp:(dy d b).bB=b.bB+1:=rfl;have hp2:(dy d b).fL=(b.fL||O (12<d)):=rfl;refine⟨?_,by omega,by omega⟩;rw[a1,hD,hp2];rw[hp2]at ho;grind
 exact key _ t d b (zC _) h0 h1 h2
def abg(M:ax->Int->aW->ah rU)(t:ax)(hM:∀k∈t.aq,∀(d:Int) (b:aW),0<=d->d<=13->0<=b.bB->b.bB+nT k<=1000->M k d b=Q (sG k d b))(d:Int)(b:aW)(h0:0<=d)(hd:d<=13)(h1:0<=b.bB)(h2:b.bB+nT t<=1000):afq M t d b=Q (sG t d b):=by
 have hN:=vz t;have hL:=HZ t.aq;have hw0:i64.wrap (b.bB+1)=b.bB+1:=aG;have hw1:i64.wrap (d+1)=d+1:=aG;have hinc:∀x,(⟨b.bB+1,x⟩:aW)=dy d b↔x=(b.fL||O (12<d)):=λx=>by unfold dy;simp
 have key:fk (dy d b)=I->d<=12/\DR M ⟨d,t.aq,(t.aq.length:Int),0,dy d b⟩=Q ⟨d,t.aq,(t.aq.length:Int),(t.aq.length:Int),FD t.aq (d+1) (dy d b)⟩:=λho=>by
  have hd2:d<=12:=by unfold fk dy at ho;grind
  refine⟨hd2,?_⟩;obtain⟨v,e1,hv,_⟩:=dD (cL:=Jg M) t.aq.length (λi (x:aW)=>⟨d,t.aq,(t.aq.length:Int),(i:Int),x⟩) (λi x=>x=FD (t.aq.take i) (d+1) (dy d b)/\b.bB+1<=x.bB/\x.bB<=b.bB+1+jH (t.aq.take i)) (λi x hi hx=>by
    have hs:=DE hi;have hk:=hM _ (aV hi) (d+1) x (by omega) (by omega) (by omega) (by omega);have hp:=Jw t.aq[i]! (d+1) x (by omega) (by omega) (by omega);have hw:=gH hi (by omega);refine⟨sG t.aq[i]! (d+1) x,?_,?_⟩
    ·unfold Jg;dsimp only;simp only[zl,zi,ax.eta,hw1,hk,hw];grind
    ·unfold MsP at hp;rw[bO hi,Gi,<-hx.1,qO];exact⟨rfl,by omega,by omega⟩) (λx _=>by unfold Jg;simp) (b:=dy d b) ⟨rfl,zm _,by show b.bB+1<=_;simp[jH]⟩
  rw[zR]at hv;rw[<-hv];exact e1
 rw[VP];unfold afq;rw[hw0];have hm:∀x,x=(b.fL||O (12<d))->jA ⟨b.bB+1,x⟩=(fk (dy d b),dy d b):=λx hx=>by rw[u7,(hinc x).2 hx]
 cases hb:b.fL with
 |true=>
  rw[hm G (by rw[hb];rfl)];have ho:fk (dy d b)=G:=by unfold fk dy;simp[hb]
  simp[ho]
 |false=>
  rw[hm (O (12<d)) (by rw[hb];rfl)];cases ho:fk (dy d b)with
  |true=>simp
  |false=>
   obtain⟨_,e⟩:=key ho;rw[e];simp
def SC:∀(n:Nat) (t:ax) (d:Int) (b:aW),zk t<n->0<=d->d<=13->0<=b.bB->b.bB+nT t<=1000->Pg n t d b=Q (sG t d b)
 |0,_,_,_,h,_,_,_,_=>by omega
 |n+1,t,d,b,h,h0,hd,h1,h2=>abg (Pg n) t (λk hk d b a1 a2 a3 a4=>SC n k d b (by have:=ax.dU hk;omega) a1 a2 a3 a4) d b h0 hd h1 h2
def Sz(t:ax)(d:Int)(b:aW)(h0:0<=d)(hd:d<=13)(h1:0<=b.bB)(h2:b.bB+nT t<=1000):Fv t d b=Q (sG t d b):=eT (zk t+1) λn hn=>SC n t d b (by omega) h0 hd h1 h2
def ny(d:Int):aa ay->aW->aW
 |[],b=>b
 |s::l,b=>if fk (dy d b)=G then dy d b else ny d l (ny (d+1) s.aJ (ny (d+1) s.aD (sG s.az 1 (dy d b))))
termination_by l=>zk l
decreasing_by
 ·exact(aX (zo ..)).1
 ·exact(aX (zo ..)).2
 ·exact dc _ _
def Oj(d:Int)(l:aa ay)(b:aW)(h0:0<=d)(hd:d<=13)(h1:0<=b.bB)(h2:b.bB+fP l<=1000):(ny d l b).fL=(b.fL||(O (12<d-1+jR l)||fI l))/\b.bB<=(ny d l b).bB/\(ny d l b).bB<=b.bB+fP l:=by
 have key:∀(n:Nat) (d:Int) (l:aa ay) (b:aW),zk l<n->0<=d->d<=13->0<=b.bB->b.bB+fP l<=1000->(ny d l b).fL=(b.fL||(O (12<d-1+jR l)||fI l))/\b.bB<=(ny d l b).bB/\(ny d l b).bB<=b.bB+fP l:=by
  intro n;induction n with
  |zero=>intro d l b h;omega
  |succ n ih=>
   intro d l b h h0 hd h1 h2;cases l with
   |nil=>
    rw[ny,jR,fI];refine⟨?_,by omega,by simp[fP]⟩;rw[fO];simp
   |cons s l=>
    have hz:=aX (l:=s::l) (zo ..);have hz2:=dc s l;have hN:=ou s;have hC:=mR s l;have p1:=rN s.aD;have p2:=rN s.aJ;have p3:=rN l;have p4:=amy s.az;have hp:(dy d b).bB=b.bB+1:=rfl;have hp2:(dy d b).fL=(b.fL||O (12<d)):=rfl;rw[ny,jR,fI];by_cases ho:fk (dy d b)=G
    ·rw[bt ho];unfold fk dy at ho;unfold dy;dsimp only at ho ⊢;refine⟨?_,by omega,by omega⟩;grind
    ·rw[bF ho];unfold fk at ho;rw[hp,hp2]at ho;have hb:b.fL=I:=by grind
     have hd2:d<=12:=by grind
     obtain⟨a1,a2,a3⟩:=Jw s.az 1 (dy d b) (by omega) (by omega) (by omega);obtain⟨c1,c2,c3⟩:=ih (d+1) s.aD (sG s.az 1 (dy d b)) (by omega) (by omega) (by omega) (by omega) (by omega);obtain⟨g1,g2,g3⟩:=ih (d+1) s.aJ _ (by omega) (by omega) (by omega) (y7 (by omega) c2) (by omega);obtain⟨k1,k2,k3⟩:=ih d l _ (by omega) h0 hd (y7 (by omega) g2) (by omega);refine⟨?_,by omega,by omega⟩;rw[k1,g1,c1,a1,hp2,hb];rw[bP (show ¬12<d by omega)];have e1:O (12<1-1+dT s.az)=O (12<dT s.az):=by congr 1;rw[show (1:Int)-1+dT s.az=dT s.az by omega]
     rw[e1];have e2:O (12<d-1+max (max (jR s.aD+1) (jR s.aJ+1)) (jR l))=(O (12<d+1-1+jR s.aD)||(O (12<d+1-1+jR s.aJ)||O (12<d-1+jR l))):=by
      rw[<-Bool.decide_or,<-Bool.decide_or];apply decide_eq_decide.2;omega
     rw[e2];generalize O (12<dT s.az)=x1;generalize O (12<d+1-1+jR s.aD)=x2;generalize O (12<d+1-1+jR s.aJ)=x3;generalize O (12<d-1+jR l)=x4;generalize fI s.aD=x5;generalize fI s.aJ=x6;generalize fI l=x7;revert x1 x2 x3 x4 x5 x6 x7;decide
 exact key _ d l b (zC _) h0 hd h1 h2
def Bw{α:Type}[Inhabited α]{c:Nat->α->Int}:∀(l:aa α) (i:Nat),cG c l i=0->∀j,j<l.length->c (i+j) l[j]! =0
 |[],i,_,j,hj=>by simp at hj
 |x::xs,i,h,j,hj=>by
  unfold cG at h;split at h
  ·rename_i hx;cases j with
   |zero=>exact hx
   |succ j=>
    have:=Bw xs (i+1) h j (by simpa using hj);rw[show i+1+j=i+(j+1)by omega]at this;simpa using this
  ·rename_i hx;exact cR h hx
def bY(vars:aa aS):Prop:=∀v∈vars,-1048576<=v.ag/\v.ag<=v.af/\v.af<=1048576
def Uw{vars:aa aS}{i:Nat}{v:aS}(h:mH vars i v=0): -1048576<=v.ag/\v.ag<=v.af/\v.af<=1048576:=by
 unfold mH gY at h;grind
def nu{vars:aa aS}(h:cG (mH vars) vars 0=0):bY vars:=λv hv=>by
 obtain⟨i,hi,e⟩:=wk hv;have:=Bw _ _ h i hi;rw[getElem!_pos vars i hi,e]at this;exact Uw this
def sH(kind:Int):∀(l:aa aS) (i:Nat) (n:Int),Ob (λ_ (n:Int) (v:aS)=>if 4096<n*(v.af-v.ag+1)then(.inr ():Int ⊕ Unit)else .inl (n*(v.af-v.ag+1))) (λ_=>(V:ah Int)) Q (l.filter λv=>O (v.bq=kind)) i n=sS kind l n
 |[],i,n=>rfl
 |v::vs,i,n=>by
  unfold sS;by_cases hv:v.bq=kind
  ·rw[List.filter_cons_of_pos (by simpa using hv),bt hv];by_cases h:4096<n*(v.af-v.ag+1)
   ·rw[bt h,BV (r:=()) (by rw[bt h])]
   ·rw[bF h,u5 (by rw[bF h])];exact sH kind vs (i+1) _
  ·rw[List.filter_cons_of_neg (by simpa using hv),bF hv];exact sH kind vs i n
def CZ(kind:Int):∀(l:aa aS) (i:Nat) (n:Int),Ob (λ_ (n:Int) (v:aS)=>if v.bq=kind then(if 4096<n*(v.af-v.ag+1)then(.inr ():Int ⊕ Unit)else .inl (n*(v.af-v.ag+1)))else .inl n) (λ_=>(V:ah Int)) Q l i n=sS kind l n
 |[],i,n=>rfl
 |v::vs,i,n=>by
  unfold sS;by_cases hv:v.bq=kind
  ·rw[bt hv];by_cases h:4096<n*(v.af-v.ag+1)
   ·rw[bt h,BV (r:=()) (by rw[bt hv,bt h])]
   ·rw[bF h,u5 (b':=n*(v.af-v.ag+1)) (by rw[bt hv,bF h])];exact CZ kind vs (i+1) _
  ·rw[bF hv,u5 (b':=n) (by rw[bF hv])];exact CZ kind vs (i+1) n
def Ci{v:aS}(h: -1048576<=v.ag/\v.ag<=v.af/\v.af<=1048576){n:Int}(h1:1<=n)(h2:n<=4096):
  1<=n*(v.af-v.ag+1)/\i64.wrap (v.af-v.ag)=v.af-v.ag/\i64.wrap (v.af-v.ag+1)=v.af-v.ag+1/\i64.wrap (n*(v.af-v.ag+1))=n*(v.af-v.ag+1):=by
 have e1:0<=(n-1)*(v.af-v.ag+1):=zB (by omega) (by omega);have e2:n*(v.af-v.ag+1)<=4096*(v.af-v.ag+1):=zM h2 (by omega);have e3:(n-1)*(v.af-v.ag+1)=n*(v.af-v.ag+1)-(v.af-v.ag+1):=by rw[yu,zU]
 exact⟨by omega,aG,aG,aG⟩
def TD(vars:aa aS)(hv:bY vars)(hl:vars.length<=1000000)(kind:Int):tE ⟨kind,[],vars,(vars.length:Int),0⟩=Q ⟨kind,vars.filter (λv=>O (v.bq=kind)),vars,(vars.length:Int),(vars.length:Int)⟩:=by
 obtain⟨v,e1,hV⟩:=dD (cL:=Ed) vars.length (λi (b:aa aS)=>⟨kind,b,vars,(vars.length:Int),(i:Int)⟩) (λi b=>b=(vars.take i).filter λv=>O (v.bq=kind)) (λi b hi hb=>by
  have hw:=gH hi hl;have hv:=hv _ (aV hi);have hb2:b.length<=i:=by rw[hb];exact zJ (yE _ _) (by rw[z6];omega)
  rw[bO hi,xJ,<-hb];by_cases hk:vars[i]!.bq=kind
  ·refine⟨b++[vars[i]!],?_,?_⟩
   ·have hl2:(b++[vars[i]!]).length<=1073741824:=by simp;omega
    unfold Ed;dsimp only;simp only[zl,zi];grind
   ·revert hk;generalize vars[i]! =x;intro hk;simp[hk]
  ·refine⟨b,?_,?_⟩
   ·unfold Ed;dsimp only;simp only[zl,zi];grind
   ·revert hk;generalize vars[i]! =x;intro hk;simp[hk]) (λb _=>by unfold Ed;simp) (b:=[]) rfl
 rw[zR]at hV;rw[<-hV];exact e1
def UN(F:aa aS)(hv:bY F)(hl:F.length<=1000000):
  ∃(i:Nat) (n:Int),tJ ⟨F,1,F,(F.length:Int),0⟩=Q ⟨F,n,F,(F.length:Int),(i:Int)⟩/\((i=F.length/\Ob (λ_ (n:Int) (v:aS)=>if 4096<n*(v.af-v.ag+1)then(.inr ():Int ⊕ Unit)else .inl (n*(v.af-v.ag+1))) (λ_=>(V:ah Int)) Q F 0 1=Q n)\/
   (i<F.length/\4096<i64.wrap (n*FA F[i]!)/\Ob (λ_ (n:Int) (v:aS)=>if 4096<n*(v.af-v.ag+1)then(.inr ():Int ⊕ Unit)else .inl (n*(v.af-v.ag+1))) (λ_=>(V:ah Int)) Q F 0 1=V)):=by
 have hm:∀(i:Nat) (n:Int),i<F.length->1<=n->n<=4096->i64.wrap (n*FA F[i]!)=n*(F[i]!.af-F[i]!.ag+1):=λi n hi h1 h2=>by
  obtain⟨a,b,c,d⟩:=Ci (hv _ (aV hi)) h1 h2;unfold FA;rw[b,c,d]
 obtain⟨i,n,e1,hI,hc⟩:=YL (cL:=Je) F (λi (n:Int)=>⟨F,n,F,(F.length:Int),(i:Int)⟩) (λ_ (n:Int) (v:aS)=>if 4096<n*(v.af-v.ag+1)then(.inr ():Int ⊕ Unit)else .inl (n*(v.af-v.ag+1))) (λ_=>(V:ah Int)) Q (λi n=>1<=n/\n<=4096) (λi n hi hI=>by
  have hw:=gH hi hl;have h1:=hm i n hi hI.1 hI.2;have h2:=(Ci (hv _ (aV hi)) hI.1 hI.2).1;unfold Je;dsimp only;simp only[zl,zi,h1];grind) (λb _=>by unfold Je;simp) (b:=1) ⟨by omega,by omega⟩
 refine⟨i,n,e1,?_⟩;rcases hc with ⟨h1,h2⟩|⟨h1,r,h2,h3⟩
 ·exact .inl ⟨h1,h2⟩
 ·refine .inr ⟨h1,?_,h3⟩;rw[hm i n h1 hI.1 hI.2];by_cases h:4096<n*(F[i]!.af-F[i]!.ag+1)
  ·exact h
  ·rw[bF h]at h2;cases h2
def JD(vars:aa aS)(hv:bY vars)(hl:vars.length<=1000000)(kind:Int)(hk:kind=1\/kind=2\/kind=3):WN vars kind=Q (match sS kind vars 1 with|Q n=>(n,0)|V=>(0,4)):=by
 have e0:=TD vars hv hl kind;obtain⟨i,n,e1,hc⟩:=UN (vars.filter λv=>O (v.bq=kind)) (λv h=>hv v (zY.1 h).1) (zJ (yE _ _) hl);rw[sH]at hc;unfold WN akO;rcases hk with rfl|rfl|rfl
 all_goals
  simp only[zl,e0,e1,Int.reduceEq,bZ,dA,reduceIte];rcases hc with ⟨rfl,hc⟩|⟨hi,h2,hc⟩
  ·simp[hc]
  ·simp only[zi,h2,bZ,hc];simp[hi]
def Ir(vars:aa aS)(hv:bY vars)(hl:vars.length<=1000000)(kind:Int):UJ vars kind=Q (match sS kind vars 1 with|Q n=>n|V=>4097):=by
 have hm:∀(i:Nat) (n:Int),i<vars.length->1<=n->n<=4096->i64.wrap (n*i64.wrap (i64.wrap (vars[i]!.af-vars[i]!.ag)+1))=n*(vars[i]!.af-vars[i]!.ag+1):=λi n hi h1 h2=>by
  obtain⟨a,b,c,d⟩:=Ci (hv _ (aV hi)) h1 h2;rw[b,c,d]
 obtain⟨i,n,e1,hI,hc⟩:=YL (cL:=Jb) vars (λi (n:Int)=>⟨vars,kind,n,(i:Int)⟩) (λ_ (n:Int) (v:aS)=>if v.bq=kind then(if 4096<n*(v.af-v.ag+1)then(.inr ():Int ⊕ Unit)else .inl (n*(v.af-v.ag+1)))else .inl n) (λ_=>(V:ah Int)) Q (λi n=>1<=n/\n<=4096) (λi n hi hI=>by
  have hw:=gH hi hl;have h1:=hm i n hi hI.1 hI.2;have h2:=(Ci (hv _ (aV hi)) hI.1 hI.2).1;unfold Jb;dsimp only;simp only[zl,zi,h1];grind) (λb _=>by unfold Jb;simp) (b:=1) ⟨by omega,by omega⟩
 rw[CZ]at hc;have e1':I4 ⟨vars,kind,1,0⟩=Q ⟨vars,kind,n,(i:Int)⟩:=e1;unfold UJ;rw[e1'];dsimp only;rcases hc with ⟨rfl,hc⟩|⟨hi,r,h2,hc⟩
 ·simp[hc]
 ·have h1:=hm i n hi hI.1 hI.2;simp only[zl,zi,h1,hc];grind
def sJ(kind:Int):∀(l:aa aS) (n m:Int),n<=4096->sS kind l n=Q m->m<=4096
 |[],n,m,h,e=>by unfold sS at e;cases e;exact h
 |v::vs,n,m,h,e=>by
  unfold sS at e;split at e
  ·split at e
   ·cases e
   ·exact sJ kind vs _ m (by omega) e
  ·exact sJ kind vs n m h e
def Yb(vars:aa aS)(hl:vars.length<=1000000)(i:Nat)(hi:i<vars.length):(mH vars i vars[i]! =0->Bg ⟨vars,vars,(vars.length:Int),(i:Int)⟩=Q (Q ⟨vars,vars,(vars.length:Int),((i+1:Nat):Int)⟩))/\(mH vars i vars[i]!≠0->Bg ⟨vars,vars,(vars.length:Int),(i:Int)⟩=Q V):=by
 have hw:=gH hi hl;have h1:=Ca vars[i]!.fName;have h2:=P4 (vars.take i) (by rw[z6];omega) vars[i]!;unfold Bg mH;dsimp only;simp only[zl,zi,BZ,h1,h2];generalize je vars[i]!.fName=B;generalize ((vars.take i).any λw=>w.fName.toList==vars[i]!.fName.toList)=A;generalize gY vars[i]!.ag vars[i]!.af=C;cases A<;>cases B<;>cases C<;>simp only[bC,bz]<;>grind
def afk(vars:aa aS)(hl:vars.length<=1000000):acT vars=Q (kH vars):=by
 obtain⟨i,e1,hc⟩:=sy (cL:=Bg) vars (λi=>⟨vars,vars,(vars.length:Int),(i:Int)⟩) (mH vars) (λi hi=>Yb vars hl i hi) (by unfold Bg;simp);have e1':Ia ⟨vars,vars,(vars.length:Int),0⟩=Q ⟨vars,vars,(vars.length:Int),(i:Int)⟩:=e1;unfold acT kH;rw[e1'];dsimp only;rcases hc with ⟨rfl,hc⟩|⟨hi,h0,hc⟩
 ·have hv:=nu hc;rw[fO,bz,bF (by rw[hc];simp)];have hr:∀k:Nat,k<3->i64.wrap ((k:Int)+1)=((k+1:Nat):Int):=λk hk=>gH hk (by decide);have k1:=JD vars hv hl 1 (.inl rfl);have k2:=JD vars hv hl 2 (.inr (.inl rfl));have k3:=JD vars hv hl 3 (.inr (.inr rfl));have r1:qU ⟨vars,[1,2,3],3,0⟩=match sS 1 vars 1 with|Q _=>Q (Q ⟨vars,[1,2,3],3,1⟩)|V=>Q V:=by
   unfold qU;simp[k1];cases sS 1 vars 1 with
   |none=>simp
   |some n=>simp;exact hr 0 (by decide)
  have r2:qU ⟨vars,[1,2,3],3,1⟩=match sS 2 vars 1 with|Q _=>Q (Q ⟨vars,[1,2,3],3,2⟩)|V=>Q V:=by
   unfold qU;simp[k2];cases sS 2 vars 1 with
   |none=>simp
   |some n=>simp;exact hr 1 (by decide)
  have r3:qU ⟨vars,[1,2,3],3,2⟩=match sS 3 vars 1 with|Q n=>if 256<n then Q V else Q (Q ⟨vars,[1,2,3],3,3⟩)|V=>Q V:=by
   unfold qU;simp[k3];cases sS 3 vars 1 with
   |none=>simp
   |some n=>
    by_cases h:256<n
    ·simp[h]
    ·simp[h];exact hr 2 (by decide)
  unfold s9;cases s1:sS 1 vars 1 with
  |none=>
   rw[s1]at r1 k1;have e:pP ⟨vars,[1,2,3],3,0⟩=Q ⟨vars,[1,2,3],3,0⟩:=cF λr=>by rw[r1];simp
   rw[show ((↑(3:Int):Int))=3 from rfl,e];simp[k1]
  |some n1=>
   rw[s1]at r1 k1;cases s2:sS 2 vars 1 with
   |none=>
    rw[s2]at r2 k2;have e:pP ⟨vars,[1,2,3],3,0⟩=Q ⟨vars,[1,2,3],3,1⟩:=(bU r1).trans (cF λr=>by rw[r2];simp);rw[show ((↑(3:Int):Int))=3 from rfl,e];simp[k2]
   |some n2=>
    rw[s2]at r2 k2;cases s3:sS 3 vars 1 with
    |none=>
     rw[s3]at r3 k3;have e:pP ⟨vars,[1,2,3],3,0⟩=Q ⟨vars,[1,2,3],3,2⟩:=(bU r1).trans ((bU r2).trans (cF λr=>by rw[r3];simp));rw[show ((↑(3:Int):Int))=3 from rfl,e];simp[k3]
    |some n3=>
     rw[s3]at r3 k3;dsimp only at r3;by_cases h:256<n3
     ·rw[bt h]at r3;have e:pP ⟨vars,[1,2,3],3,0⟩=Q ⟨vars,[1,2,3],3,2⟩:=(bU r1).trans ((bU r2).trans (cF λr=>by rw[r3];simp));rw[show ((↑(3:Int):Int))=3 from rfl,e];simp[k3,h]
     ·rw[bF h]at r3;have e:pP ⟨vars,[1,2,3],3,0⟩=Q ⟨vars,[1,2,3],3,3⟩:=(bU r1).trans ((bU r2).trans ((bU r3).trans (cF λr=>by unfold qU;simp)));rw[show ((↑(3:Int):Int))=3 from rfl,e];simp[h]
 ·have h1:=Ca vars[i]!.fName;have h2:=P4 (vars.take i) (by rw[z6];omega) vars[i]!;rw[hc,bt h0];rw[rZ,bC,bt ⟨by omega,by omega⟩];revert h0;unfold mH;simp only[zl,zi,BZ,h1,h2];generalize je vars[i]!.fName=B;generalize ((vars.take i).any λw=>w.fName.toList==vars[i]!.fName.toList)=A;generalize gY vars[i]!.ag vars[i]!.af=C;intro h0;cases A<;>cases B<;>cases C<;>simp only[bC,bz]at h0 ⊢ <;>grind
def aet(vars:aa aS)(hl:vars.length<=1000000)(i:Nat)(hi:i<vars.length):(mH vars i vars[i]! =0->Be ⟨vars,(i:Int)⟩=Q (Q ⟨vars,((i+1:Nat):Int)⟩))/\(mH vars i vars[i]!≠0->Be ⟨vars,(i:Int)⟩=Q V):=by
 have hw:=gH hi hl;have h1:=Cm vars[i]!.fName;obtain⟨j,h2,h3⟩:=Gs vars hl i (by omega) vars[i]!;unfold Be mH;dsimp only;simp only[zl,zi,Cq,h1,h2];generalize je vars[i]!.fName=B;generalize ((vars.take i).any λw=>w.fName.toList==vars[i]!.fName.toList)=A at h3;generalize gY vars[i]!.ag vars[i]!.af=C;rcases h3 with ⟨rfl,rfl⟩|⟨hj,h4,rfl⟩
 ·cases B<;>cases C<;>simp only[bC,bz]<;>grind
 ·simp only[h4];cases B<;>cases C<;>simp only[bC,bz]<;>grind
def aap(vars:aa aS)(hl:vars.length<=1000000):aaI vars=Q (kH vars):=by
 obtain⟨i,e1,hc⟩:=sy (cL:=Be) vars (λi=>⟨vars,(i:Int)⟩) (mH vars) (λi hi=>aet vars hl i hi) (by unfold Be;simp);have e1':I0 ⟨vars,0⟩=Q ⟨vars,(i:Int)⟩:=e1;unfold aaI kH;rw[e1'];dsimp only;rcases hc with ⟨rfl,hc⟩|⟨hi,h0,hc⟩
 ·have hv:=nu hc;rw[fO,bz,bF (by rw[hc];simp)];rw[Ir vars hv hl 1,Ir vars hv hl 2,Ir vars hv hl 3];have b1:=sJ 1 vars 1;have b2:=sJ 2 vars 1;unfold s9;revert b1 b2;cases sS 1 vars 1<;>cases sS 2 vars 1<;>cases sS 3 vars 1<;>intro b1 b2<;>simp only[zl,Option.isSome_none,Option.isSome_some,Bool.and_true,Bool.and_false,wD,Bool.false_and]<;>(try have c1:=b1 _ (by omega) rfl)<;>(try have c2:=b2 _ (by omega) rfl)<;>grind
 ·have h1:=Cm vars[i]!.fName;obtain⟨j,h2,h3⟩:=Gs vars hl i (by omega) vars[i]!;rw[hc,bt h0];rw[rZ,bC,bt ⟨by omega,by omega⟩];revert h0;unfold mH;simp only[zl,zi,Cq,h1,h2];generalize je vars[i]!.fName=B;generalize ((vars.take i).any λw=>w.fName.toList==vars[i]!.fName.toList)=A at h3;generalize gY vars[i]!.ag vars[i]!.af=C;intro h0;rcases h3 with ⟨rfl,rfl⟩|⟨hj,h4,rfl⟩
  ·cases B<;>cases C<;>simp only[bC,bz]at h0 ⊢ <;>grind
  ·simp only[h4];cases B<;>cases C<;>simp only[bC,bz]at h0 ⊢ <;>grind
end Go.Proofs.YtnfljbehcffmcaaGreat
end
