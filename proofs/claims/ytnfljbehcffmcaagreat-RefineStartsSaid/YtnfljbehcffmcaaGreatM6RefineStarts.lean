/- Merged: Ne36, Ne37, Ne38, Qx, Qy, Hz, Hw, Nf1, Nf2, Nf3, Nf4, Hk, Hu, Nf5, Nf6, Nf7, Nf8, Nf9, Hp1, Pw1, Hk45, Ix5, H10, Nk1, Iy1, Iy2, Opd. -/
import Derived.Test.YtnfljbehcffmcaaGreatM5RefineStarts
import Derived.Test.YtnfljbehcffmcaaGreatM2RefineStarts
import Derived.Test.YtnfljbehcffmcaaGreatM4RefineStarts
import Derived.Deep.Slices
import Derived.Lib.SmallJoins
open Int renaming toNat_natCast → zf, le_refl → zw, mul_nonneg → zx, mul_le_mul_of_nonneg_right → zM, mul_assoc → zN, ediv_nonneg → zP, one_mul → zX, ediv_le_self → yc, toNat → yM, mul_le_mul → yT, lt_irrefl → xw, le_trans → xG, mul_le_mul_of_nonneg_left → wF
open Nat renaming beq → zg, lt_succ_self → zB, le_refl → zG, le_trans → zH, add_zero → yd, add_mul → yf, zero_add → yw, mul_le_mul_right → yB, not_lt_zero → yC, one_mul → xK
open SizeOf renaming sizeOf → zh
open Bool renaming and_eq_true → zj, false_eq_true → yO, true_and → xN, true → J, false → G
open Option renaming map_eq_some_iff → zk, bind_eq_some_iff → zn, some → I, none → S
open List renaming length_append → zl, mem_cons_self → zm, getElem?_eq_getElem → zq, length_map → zA, mem_cons → zF, take_length → zI, mem_cons_of_mem → zK, mem_map → zL, range → zO, length_take → zR, mem_append → zU, drop_drop → zV, getElem?_eq_some_iff → zY, map_append → z6, map_cons → z7, mem_filter → z8, drop → yb, nil_append → yg, append_nil → yp, length_singleton → yz, getElem_map → yH, map_nil → yK, length_filter_le → yN, append_assoc → yQ, eq_nil_of_length_eq_zero → yX, filter_cons → yY, cons_append → xo, take_append_drop → xp, drop_zero → xB, filter_append → xE, drop_of_length_le → xM, mem_of_mem_drop → xU, filter_nil → wo, mem_of_mem_take → wz, length_eq_zero_iff → wI
open Decidable renaming decide → O
open Go.Proofs.Tryz renaming prog → wJ
open Go.Proofs.Tryz
set_option linter.unusedSectionVars false
set_option linter.unusedVariables false
set_option linter.unusedSimpArgs false
set_option linter.defProp false
noncomputable section
set_option maxRecDepth 100000
namespace Go.Proofs.YtnfljbehcffmcaaGreat
open Go Go.Iv
open Go.IntKind (i64 u64)
def aia{l:aa au}{i:Nat}(h:i<l.length):(l.map tr)[i]! =tr l[i]! :=by
 rw[getElem!_pos _ i (by simpa using h),getElem!_pos l i h,yH]
def UL{n m:Nat}(hn:n<=1000000)(hm:m<=1000000){l:aa au}{x:au}(hl:l.length<=1000000)(hx:dW n m x)(hq:∀q∈l,dW n m q)(c t:aH):
  E5 ⟨l.map tr,(l.length:Int),0,⟨[],c,[],t⟩,tr x⟩=I ⟨l.map tr,(l.length:Int),(l.length:Int),⟨[],c,[],t⟩,tr (l.foldl j4 x)⟩:=by
 obtain⟨v,e1,_⟩:=cO (rnd:=FX) l.length (λi (_:Unit)=>⟨l.map tr,(l.length:Int),(i:Int),⟨[],c,[],t⟩,tr ((l.take i).foldl j4 x)⟩) (λi _=>True) (λi b hi _=>by
  have hw:=fD hi hl;have i1:(i:Int)<(l.length:Int):=by omega
  have i2:(0:Int)<=(i:Int):=by omega
  have e:=Xt (Bx (l.take i) x hx (λq k=>hq q (wz k))) (hq _ (bh hi)) hn hm;refine⟨(),?_,trivial⟩;unfold FX;dsimp only;simp only[zA,zf,i1,i2,cR,bB,dG,cD,aia hi,e,hw,CQ j4 l x hi]) (λb _=>by unfold FX;simp) (b:=()) trivial
 rw[zI]at e1;exact e1
def Mu{n m:Nat}(hn:n<=1000000)(hm:m<=1000000){L:aa au}(h0:L≠[])(hl:L.length<=1000000)(hq:∀q∈L,dW n m q):Fx (L.map tr)=I (tr (lf L)):=by
 cases L with
 |nil=>exact dg rfl h0
 |cons x l=>
  have hx:=hq x (zm ..);have hq2:∀q∈l,dW n m q:=λq k=>hq q (zK _ k);have e:=UL hn hm (l:=l) (x:=x) (by simp at hl;omega) hx hq2 ⟨0,0,0⟩ ⟨0,0,0⟩;unfold Fx;rw[bD (by simp<;>omega),bD (by simp<;>omega)];rw[z7,show yb 1 (tr x::l.map tr)=l.map tr from rfl,show (tr x::l.map tr)[0]! =tr x from rfl,zA,e];dsimp only;rw[eH,bz];rfl
def alh(M88:aP->(aa aH)->(aa ay)->aF->af AM)(M167:aP->(aa aH)->ay->aF->af jZ){f:aP}{hv:aa aH}(hn:f.ai.length<=1000000){a:au->au}{o:Nat}{x:ay}(hN:0<=x.fN/\x.fN<=4096)(hc:cj x.aR)(ht:dN f.ai G x.aB=0)
  (ha:∀s m,dW f.ai.length m s->dW f.ai.length (m+o) (a s)) {s:au} {m:Nat} (h:dW f.ai.length m s) (hm:m+x.fN.toNat*o<=1000000)
  (h1:∀s m,dW f.ai.length m s->m+o<=1000000->M88 f hv x.aK (tr s)=I (tr (a s))):
  YX M88 M167 f hv x (tr s)=I (tr (lf (jz a x.aB x.aR x.fN.toNat s))):=by
 obtain⟨okAll,neAll⟩:=AN hc ht ha x.fN.toNat s m h;have lenAll:=C6 a x.aB x.aR x.fN.toNat s;obtain⟨i,v,e1,⟨hi,hV1,hV2,hV3,hV4⟩,hcc⟩:=oO (rnd:=uT M88 M167) x.fN.toNat (λi (b:aa au×au×aF)=>⟨hv,b.1.map tr,x.fN,(i:Int),f,x,tr b.2.1,⟨[],b.2.2.aA,[],b.2.2.aD⟩⟩)
  (λi b=>i<=x.fN.toNat/\dW f.ai.length (m+i*o) b.2.1/\b.1.length<=i/\b.1++jz a x.aB x.aR (x.fN.toNat-i) b.2.1=jz a x.aB x.aR x.fN.toNat s/\True) (λi b=>cl (cv b.2.1.ai x.aB)=G) (λi b hi hb=>by
  obtain⟨L,b,z⟩:=b;obtain⟨_,hb,hL,hr,_⟩:=hb;dsimp only at hb hr hL;obtain⟨k,hk⟩:∃k,x.fN.toNat-i=k+1:=⟨x.fN.toNat-i-1,by omega⟩;have hk2:x.fN.toNat-(i+1)=k:=by omega
  rw[hk,jz]at hr;have hio:i*o+o<=x.fN.toNat*o:=by
   have:=yB o (show i+1<=x.fN.toNat by omega);rw[yf,xK]at this;exact this
  have hw:i64.wrap ((i:Int)+1)=((i+1:Nat):Int):=by rw[aI];omega
  have i1:(i:Int)<x.fN:=by omega
  have hA:=kJ hb hc;have ea:BE b.aD x.aR=I (nG 8 b.aD (dJ x.aR)):=GN hb.time hc;have hnn:=gQ hA x.aB ht;have ev:Lc (tr (fu b x.aR)) x.aB=I (cv b.ai x.aB):=QB hA x.aB ht;have et:=ng (a:=cv b.ai x.aB) (.inr hnn);have hz:(cl (cv b.ai x.aB)||cC (cv b.ai x.aB) 0)=J:=zero_or hnn;have e:=h1 _ _ hA (by omega);have etr:(aF.mk b.ai b.aA b.az (nG 8 b.aD (dJ x.aR)))=tr (fu b x.aR):=rfl;have el:(L.map tr++[tr (fu b x.aR)]).length<=1073741824:=by rw[zl,yz,zA];omega
  by_cases hno:cl (cv b.ai x.aB)=J
  ·rw[bD hno]at hr;refine .inl ?_;have hnext:dW f.ai.length (m+(i+1)*o) (a (fu b x.aR)):=by
    have:=ha _ _ hA;rw[yf,xK];exact this.weak (by omega)
   by_cases hh:cC (cv b.ai x.aB) 0=J
   ·rw[bD hh]at hr;refine⟨(L++[fu b x.aR],a (fu b x.aR),z),?_,by omega,hnext,by rw[zl,yz];omega,by rw[hk2,yQ];exact hr,trivial⟩;unfold uT;simp only[show (tr b).ai=b.ai from rfl,show (tr b).aA=b.aA from rfl,show (tr b).az=b.az from rfl,show (tr b).aD=b.aD from rfl,i1,cR,bB,ax.eta,ea,etr,ev,et,el,hh,hno,bz,cD,e,ay.eta,hw,z6,z7,yK]
   ·rw[bL hh,yg]at hr;have hh:cC (cv b.ai x.aB) 0=G:=by simpa using hh
    refine⟨(L,a (fu b x.aR),z),?_,by omega,hnext,Nat.le_succ_of_le hL,by rw[hk2];exact hr,trivial⟩;unfold uT;simp only[show (tr b).ai=b.ai from rfl,show (tr b).aA=b.aA from rfl,show (tr b).az=b.az from rfl,show (tr b).aD=b.aD from rfl,i1,cR,bB,ax.eta,ea,etr,ev,et,hh,hno,bz,e,ay.eta,hw]
  ·have hno:cl (cv b.ai x.aB)=G:=by simpa using hno
   refine .inr ⟨?_,hno⟩;have hh:cC (cv b.ai x.aB) 0=J:=by rw[hno]at hz;simpa using hz
   rw[hh,hno,bD rfl,bL (by decide),yp]at hr;have em:L.map tr++[tr (fu b x.aR)]=(L++[fu b x.aR]).map tr:=by rw[z6];rfl
   have UT:=Mu hn hm neAll (by omega) okAll;rw[<-hr,<-em]at UT;unfold uT;simp only[show (tr b).ai=b.ai from rfl,show (tr b).aA=b.aA from rfl,show (tr b).az=b.az from rfl,show (tr b).aD=b.aD from rfl,i1,cR,bB,ax.eta,ea,etr,ev,et,el,hh,hno,bz,cD,UT]) (λb _=>by
   unfold uT;dsimp only;rw[eH];rfl) (b:=([],s,⟨[],⟨0,0,0⟩,[],⟨0,0,0⟩⟩)) ⟨by omega,h.weak (by omega),by simp,rfl,trivial⟩
 obtain⟨L,b,z⟩:=v;dsimp only at hV1 hV2 hV3 hcc;have e1':Gn M88 M167 ⟨hv,[],x.fN,0,f,x,tr s,⟨[],⟨0,0,0⟩,[],⟨0,0,0⟩⟩⟩=I ⟨hv,L.map tr,x.fN,(i:Int),f,x,tr b,⟨[],z.aA,[],z.aD⟩⟩:=e1;unfold YX;rw[ax.eta,ay.eta,e1'];rcases hcc with rfl|⟨hi2,hno⟩
 ·rw[Nat.sub_self,jz]at hV3;dsimp only;rw[eH,bz];have em:L.map tr++[tr b]=(L++[b]).map tr:=by rw[z6];rfl
  rw[bD (by rw[zl,yz,zA];omega),em,hV3,Mu hn hm neAll (by omega) okAll]
 ·obtain⟨k,hk⟩:∃k,x.fN.toNat-i=k+1:=⟨x.fN.toNat-i-1,by omega⟩;rw[hk,jz]at hV3;have hA:=kJ hV1 hc;have ea:BE (tr b).aD x.aR=I (nG 8 b.aD (dJ x.aR)):=GN hV1.time hc;have hio:i*o<=x.fN.toNat*o:=yB o hi;have hnn:=gQ hA x.aB ht;have ev:Lc (tr (fu b x.aR)) x.aB=I (cv b.ai x.aB):=QB hA x.aB ht;have et:=ng (a:=cv b.ai x.aB) (.inr hnn);have hz:(cl (cv b.ai x.aB)||cC (cv b.ai x.aB) 0)=J:=zero_or hnn;have hh:cC (cv b.ai x.aB) 0=J:=by rw[hno]at hz;simpa using hz
  have etr:(aF.mk (tr b).ai (tr b).aA (tr b).az (nG 8 b.aD (dJ x.aR)))=tr (fu b x.aR):=rfl;rw[hh,hno,bD rfl,bL (by decide),yp]at hV3;have em:L.map tr++[tr (fu b x.aR)]=(L++[fu b x.aR]).map tr:=by rw[z6];rfl
  dsimp only;rw[mg,bB,ea];dsimp only;rw[ax.eta,etr,ev];dsimp only;rw[et];dsimp only;rw[hh,hno,bB,bD (by rw[zl,yz,zA];omega),em,hV3,Mu hn hm neAll (by omega) okAll];rfl
def akb(M83:Runner->(aa ay)->au->af pJ)(M156:Runner->ay->au->af gH)(M160:Runner->ay->au->af gF){r:Runner}(hn:r.fF.ai.length<=1000000){a b:au->au}{o p:Nat}{x:ay}{s:au}{m:Nat}(h:dW r.fF.ai.length m s)(hc:dN r.fF.ai G x.aB=0)(hm:m+max o p<=1000000)
  (ha:∀s m,dW r.fF.ai.length m s->dW r.fF.ai.length (m+o) (a s)) (hb:∀s m,dW r.fF.ai.length m s->dW r.fF.ai.length (m+p) (b s))
  (h1:M83 r x.aK s=I (a s)) (h2:M83 r x.aN s=I (b s)):
  Za M83 M156 M160 r x s=I (brA (cv s.ai x.aB) a b s):=by
 have hsl:=h.sl;have hln:=h.len;unfold Za brA;rw[ax.eta,Ik h hc];dsimp only;rw[Au (.inr (gQ h x.aB hc))];have ec:=pY (s:=s) (by omega) (by omega);have ej:=VL ((ha _ _ h).weak (show m+o<=m+max o p by omega)) ((hb _ _ h).weak (show m+p<=m+max o p by omega)) hn hm;dsimp only;cases cC (cv s.ai x.aB) 0 with
 |false=>simp only[bz,bB,h1,cD]
 |true=>
  cases cl (cv s.ai x.aB)with
  |false=>simp only[bz,bB,h2,cD,ek,Bool.true_eq_false]
  |true=>simp only[bz,bB,h1,h2,ec,ej,ek,Bool.true_eq_false]
def anO(M83:Runner->(aa ay)->au->af pJ)(M156:Runner->ay->au->af gH)(M160:Runner->ay->au->af gF){r:Runner}(hn:r.fF.ai.length<=1000000)(hh:r.ak.length=r.fF.ak.length)(hvn:∀i,i<r.ak.length->NN r.ak[i]!)
  {top:Bool} {l:aa ay} (hl:l.length<=1000000) (hc:bW r.fF top l=0) {s:au} {m:Nat} (h:dW r.fF.ai.length m s) (hm:m+dR l<=1000000)
  (h1:∀x∈l,∀s m,x.bX=3->dW r.fF.ai.length m s->m+max (dR x.aK) (dR x.aN)<=1000000->M160 r x s=I (brA (cv s.ai x.aB) (fY r.fF r.ak x.aK) (fY r.fF r.ak x.aN) s))
  (h3:∀x∈l,∀s m,x.bX=4->dW r.fF.ai.length m s->m+x.fN.toNat*dR x.aK<=1000000->M156 r x s=I (lf (jz (fY r.fF r.ak x.aK) x.aB x.aR x.fN.toNat s))):
  s83 M83 M156 M160 r l s=I (fY r.fF r.ak l s):=by
 obtain⟨v,e1,hV⟩:=cO (rnd:=Q8 M83 M156 M160) l.length (λi (b:au×au)=>⟨l,(l.length:Int),(i:Int),r,b.1,⟨[],b.2.aA,[],b.2.aD⟩⟩)
  (λi b=>(∃k,dW r.fF.ai.length k b.1/\k+dR (l.drop i)<=1000000)/\bW r.fF top (l.drop i)=0/\fY r.fF r.ak (l.drop i) b.1=fY r.fF r.ak l s) (λi b hi hb=>by
  obtain⟨b,z⟩:=b;obtain⟨⟨k,hb,hk⟩,hst,hr⟩:=hb;dsimp only at hb hr;rw[drop_cons hi]at hk hst hr;rw[uf]at hr;have hmem:=bh hi;generalize hx:l[i]! =x at*;obtain⟨g1,g2,g3,g4⟩:=gW hst;have ho:=pz g1;have p1:=(gT r.fF _ _ _ (zB _) g2).1;have p2:=(gT r.fF _ _ _ (zB _) g3).1;have aT:=gB hh hvn _ x.aK G (zB _) g2;have aE:=gB hh hvn _ x.aN G (zB _) g3;rw[uh hst]at hk;have hnext:=A7 hh hvn ho p1 p2 aT aE hb;refine⟨(v7 r.fF r.ak (fY r.fF r.ak x.aK) (fY r.fF r.ak x.aN) x b,z),?_,⟨_,hnext,by omega⟩,g4,hr⟩;have hw:=fD hi hl;have i1:(i:Int)<(l.length:Int):=by omega
  have i2:(0:Int)<=(i:Int):=by omega
  have hcost:=oh ho;unfold Q8;dsimp only;simp only[zf,i1,i2,hx,cR,bB,dG,cD,ay.eta,ax.eta,hw];unfold v7;by_cases d4:x.bX=4
  ·have hN:=ho.n4 d4;have eu:(uO x).1.toNat=x.fN.toNat*dR x.aK:=by
    unfold uO;simp only[d4,Int.reduceEq,cD,ek];rw[dR,Int.toNat_mul hN.1 p1]
   have e:=h3 x hmem b k d4 hb (by omega);simp only[d4,Int.reduceEq,cR,bB,cD,e]
  have ea:=MQ hb hcost;have hA:=kJ hb hcost;have ev:Np (fu b x.aR) x.aB=I (cv b.ai x.aB):=Ik hA ho.term;have hnn:NN (cv b.ai x.aB):=gQ hb x.aB ho.term;simp only[d4,fS,bz,ea,ek];by_cases d0:x.bX=0
  ·obtain⟨v1,v2⟩:=ho.var (.inl d0);simp only[d0,Int.reduceEq,cR,fS,bB,bz,cD,ek,ev,XG hA hn (by omega) v1 v2 hnn]
  by_cases d1:x.bX=1
  ·have e:=ajH hA hn (by omega) hnn;simp only[d1,Int.reduceEq,cR,fS,bB,bz,cD,ek,ev,e]
  by_cases d5:x.bX=5
  ·obtain⟨v1,v2⟩:=ho.var (.inr d5);obtain⟨n1,n2⟩:=ho.n5 d5;have hlt:x.fN.toNat<r.ak.length:=by omega
   have e:=XG hA hn (by omega) v1 v2 (hvn _ hlt);simp only[d5,Int.reduceEq,cR,fS,bB,bz,cD,ek];rw[ga,e]
  by_cases d3:x.bX=3
  ·have eu:(uO x).1.toNat=max (dR x.aK) (dR x.aN):=by
    unfold uO dR;simp only[d3,Int.reduceEq,cD,ek];omega
   have e:=h1 x hmem (fu b x.aR) k d3 hA (by omega);simp only[d3,Int.reduceEq,cR,fS,bB,bz,cD,ek,e];rfl
  by_cases d6:x.bX=6
  ·obtain⟨_,q2,q3,q4,q5⟩:=ho.TV d6;have e:=(rK (a:=nG 8 b.aD (dJ x.aR)) hA.time q4 (by omega) (Ic q2 q3 q4 q5)).1;have e:JF (fu b x.aR).aD x.aJ=_:=e;simp only[d6,Int.reduceEq,cR,fS,bB,bz,cD,ek];rw[e];rfl
  ·simp only[d0,d1,d3,d5,d6,fS,bz,ek]) (λb _=>by unfold Q8;simp) (b:=(s,⟨[],⟨0,0,0⟩,[],⟨0,0,0⟩⟩)) ⟨⟨m,h,by rw[xB];exact hm⟩,by rw[xB];exact hc,by rw[xB]⟩
 obtain⟨b,z⟩:=v;have e1':OP M83 M156 M160 ⟨l,(l.length:Int),0,r,s,⟨[],⟨0,0,0⟩,[],⟨0,0,0⟩⟩⟩=I ⟨l,(l.length:Int),(l.length:Int),r,b,⟨[],z.aA,[],z.aD⟩⟩:=e1;have hr:=hV.2.2;dsimp only at hr;rw[List.drop_length,BI]at hr;unfold s83;rw[e1',<-hr];dsimp only;rw[eH,bz]
def jS{f:aP}{x:ay}:∀{top:Bool} {l:aa ay},bW f top l=0->x∈l->bW f G x.aK=0/\bW f G x.aN=0
 |_,[],_,h=>by cases h
 |top,y::l,hc,h=>by
  obtain⟨h1,h2,h3,h4⟩:=gW hc;rcases zF.1 h with rfl|h
  ·exact⟨h2,h3⟩
  ·exact jS h4 h
def ahM{r:Runner}(hn:r.fF.ai.length<=1000000)(hh:r.ak.length=r.fF.ak.length)(hvn:∀i,i<r.ak.length->NN r.ak[i]!):∀n:Nat,
  (∀(top:Bool) (l:aa ay) (s:au) (m:Nat),2*zh l<n->eW l<=1000000->bW r.fF top l=0->dW r.fF.ai.length m s->m+dR l<=1000000->Sm n r l s=I (fY r.fF r.ak l s))/\
  (∀(x:ay) (s:au) (m:Nat),2*zh x.aK+1<n->eW x.aK<=1000000->(0<=x.fN/\x.fN<=4096)->cj x.aR->dN r.fF.ai G x.aB=0->bW r.fF G x.aK=0->dW r.fF.ai.length m s->m+x.fN.toNat*dR x.aK<=1000000->Bi n r x s=I (lf (jz (fY r.fF r.ak x.aK) x.aB x.aR x.fN.toNat s)))/\
  (∀(x:ay) (s:au) (m:Nat),2*zh x.aK+1<n->2*zh x.aN+1<n->eW x.aK<=1000000->eW x.aN<=1000000->dN r.fF.ai G x.aB=0->bW r.fF G x.aK=0->bW r.fF G x.aN=0->dW r.fF.ai.length m s->m+max (dR x.aK) (dR x.aN)<=1000000->C2 n r x s=I (brA (cv s.ai x.aB) (fY r.fF r.ak x.aK) (fY r.fF r.ak x.aN) s))
 |0=>⟨λ_ _ _ _ h=>by omega,λ_ _ _ h=>by omega,λ_ _ _ h=>by omega⟩
 |n+1=>by
  obtain⟨i1,i2,i3⟩:=ahM hn hh hvn n;refine⟨λtop l s m h hN hc hs hm=> ?_,λx s m h hN hx hc ht hst hs hm=> ?_,λx s m h h' hN hN' ht hst hst' hs hm=> ?_⟩
  ·refine anO (Sm n) (Bi n) (C2 n) hn hh hvn (zH (ji l) hN) hc hs hm (λx hx s m h3 hs hm=> ?_) (λx hx s m h4 hs hm=> ?_)
   ·have:=bf hx;have:=sM hx;obtain⟨_,k⟩:=su hc hx;obtain⟨k1,k2⟩:=jS hc hx;exact i3 x s m (by omega) (by omega) (by omega) (by omega) k.term k1 k2 hs hm
   ·have:=(bf hx).1;obtain⟨_,k⟩:=su hc hx;obtain⟨k1,k2⟩:=jS hc hx;exact i2 x s m (by omega) (zH (sM hx).1 hN) (k.n4 h4) (oh k) k.term k1 hs hm
  ·refine aiW (Sm n) (Bi n) (C2 n) hn hx hc ht (gB hh hvn _ x.aK G (zB _) hst) hs hm (λs m hs hm=>i1 G x.aK s m (by omega) hN hst hs hm)
  ·exact akb (Sm n) (Bi n) (C2 n) hn hs ht hm (gB hh hvn _ x.aK G (zB _) hst) (gB hh hvn _ x.aN G (zB _) hst') (i1 G x.aK s m (by omega) hN hst hs (by omega)) (i1 G x.aN s m (by omega) hN' hst' hs (by omega))
def ata(M88:aP->(aa aH)->(aa ay)->aF->af AM)(M167:aP->(aa aH)->ay->aF->af jZ){f:aP}{hv:aa aH}(hn:f.ai.length<=1000000)(hh:hv.length=f.ak.length)(hvn:∀i,i<hv.length->NN hv[i]!)
  {top:Bool} {l:aa ay} (hl:l.length<=1000000) (hc:bW f top l=0) {s:au} {m:Nat} (h:dW f.ai.length m s) (hm:m+dR l<=1000000)
  (h1:∀x∈l,∀s m,dW f.ai.length m s->m+dR x.aK<=1000000->M88 f hv x.aK (tr s)=I (tr (fY f hv x.aK s)))
  (h2:∀x∈l,∀s m,dW f.ai.length m s->m+dR x.aN<=1000000->M88 f hv x.aN (tr s)=I (tr (fY f hv x.aN s)))
  (h3:∀x∈l,∀s m,x.bX=4->dW f.ai.length m s->m+x.fN.toNat*dR x.aK<=1000000->M167 f hv x (tr s)=I (tr (lf (jz (fY f hv x.aK) x.aB x.aR x.fN.toNat s)))):
  s88 M88 M167 f hv l (tr s)=I (tr (fY f hv l s)):=by
 obtain⟨v,e1,hV⟩:=cO (rnd:=QN M88 M167) l.length (λi (b:au×aF)=>⟨hv,l,(l.length:Int),(i:Int),f,tr b.1,⟨[],b.2.aA,[],b.2.aD⟩⟩)
  (λi b=>(∃k,dW f.ai.length k b.1/\k+dR (l.drop i)<=1000000)/\bW f top (l.drop i)=0/\fY f hv (l.drop i) b.1=fY f hv l s) (λi b hi hb=>by
  obtain⟨b,z⟩:=b;obtain⟨⟨k,hb,hk⟩,hst,hr⟩:=hb;dsimp only at hb hr;rw[drop_cons hi]at hk hst hr;rw[uf]at hr;have hmem:=bh hi;generalize hx:l[i]! =x at*;obtain⟨g1,g2,g3,g4⟩:=gW hst;have ho:=pz g1;have p1:=(gT f _ _ _ (zB _) g2).1;have p2:=(gT f _ _ _ (zB _) g3).1;have aT:=gB hh hvn _ x.aK G (zB _) g2;have aE:=gB hh hvn _ x.aN G (zB _) g3;rw[uh hst]at hk;have hnext:=A7 hh hvn ho p1 p2 aT aE hb;refine⟨(v7 f hv (fY f hv x.aK) (fY f hv x.aN) x b,z),?_,⟨_,hnext,by omega⟩,g4,hr⟩;have hw:=fD hi hl;have i1:(i:Int)<(l.length:Int):=by omega
  have i2:(0:Int)<=(i:Int):=by omega
  have hcost:=oh ho;have t1:(tr b).ai=b.ai:=rfl;have t2:(tr b).aA=b.aA:=rfl;have t3:(tr b).az=b.az:=rfl;have t4:(tr b).aD=b.aD:=rfl;have etr:(aF.mk b.ai b.aA b.az (nG 8 b.aD (dJ x.aR)))=tr (fu b x.aR):=rfl;unfold QN;dsimp only;simp only[zf,i1,i2,hx,cR,bB,dG,cD,ay.eta,ax.eta,hw];unfold v7;by_cases d4:x.bX=4
  ·have hN:=ho.n4 d4;have eu:(uO x).1.toNat=x.fN.toNat*dR x.aK:=by
    unfold uO;simp only[d4,Int.reduceEq,cD,ek];rw[dR,Int.toNat_mul hN.1 p1]
   have e:=h3 x hmem b k d4 hb (by omega);simp only[d4,Int.reduceEq,cR,bB,cD,e]
  have ea:BE b.aD x.aR=I (nG 8 b.aD (dJ x.aR)):=GN hb.time hcost;have hA:=kJ hb hcost;have ev:Lc (tr (fu b x.aR)) x.aB=I (cv b.ai x.aB):=QB hA x.aB ho.term;have hnn:NN (cv b.ai x.aB):=gQ hb x.aB ho.term;simp only[t1,t2,t3,t4,d4,fS,bz,ea,etr,ek];by_cases d0:x.bX=0
  ·obtain⟨v1,v2⟩:=ho.var (.inl d0);simp only[d0,Int.reduceEq,cR,fS,bB,bz,cD,ek,ev,Wa hA hn v1 v2 hnn]
  by_cases d1:x.bX=1
  ·have e:=aiL hA (by omega) hnn;simp only[d1,Int.reduceEq,cR,fS,bB,bz,cD,ek,ev,e]
  by_cases d5:x.bX=5
  ·obtain⟨v1,v2⟩:=ho.var (.inr d5);obtain⟨n1,n2⟩:=ho.n5 d5;have hlt:x.fN.toNat<hv.length:=by omega
   have e:=Wa hA hn v1 v2 (hvn _ hlt);simp only[d5,Int.reduceEq,cR,fS,bB,bz,cD,ek];rw[ga,e]
  by_cases d3:x.bX=3
  ·have eu:(uO x).1.toNat=max (dR x.aK) (dR x.aN):=by
    unfold uO dR;simp only[d3,Int.reduceEq,cD,ek];omega
   have e:=h1 x hmem (fu b x.aR) k hA (by omega);have e':=h2 x hmem (fu b x.aR) k hA (by omega);have ej:=Xt ((aT _ _ hA).weak (show k+dR x.aK<=k+max (dR x.aK) (dR x.aN)by omega)) ((aE _ _ hA).weak (show k+dR x.aN<=k+max (dR x.aK) (dR x.aN)by omega)) hn (by omega);have et:=ng (a:=cv b.ai x.aB) (.inr hnn);unfold brA;simp only[d3,Int.reduceEq,cR,fS,bB,bz,cD,ek,ev,et];cases cC (cv b.ai x.aB) 0 with
   |false=>simp only[bz,bB,e,cD]
   |true=>
    cases cl (cv b.ai x.aB)with
    |false=>simp only[bz,bB,e',cD,ek,Bool.true_eq_false]
    |true=>simp only[bz,bB,e,e',ej,ek,Bool.true_eq_false]
  by_cases d6:x.bX=6
  ·obtain⟨_,q2,q3,q4,q5⟩:=ho.TV d6;have e:=(rK (a:=nG 8 b.aD (dJ x.aR)) hA.time q4 (by omega) (Ic q2 q3 q4 q5)).2.1;simp only[d6,Int.reduceEq,cR,fS,bB,bz,cD,ek];rw[e];rfl
  ·simp only[d0,d1,d3,d5,d6,fS,bz,ek]) (λb _=>by unfold QN;simp) (b:=(s,⟨[],⟨0,0,0⟩,[],⟨0,0,0⟩⟩)) ⟨⟨m,h,by rw[xB];exact hm⟩,by rw[xB];exact hc,by rw[xB]⟩
 obtain⟨b,z⟩:=v;have e1':OJ M88 M167 ⟨hv,l,(l.length:Int),0,f,tr s,⟨[],⟨0,0,0⟩,[],⟨0,0,0⟩⟩⟩=I ⟨hv,l,(l.length:Int),(l.length:Int),f,tr b,⟨[],z.aA,[],z.aD⟩⟩:=e1;have hr:=hV.2.2;dsimp only at hr;rw[List.drop_length,BI]at hr;unfold s88;rw[e1',<-hr];dsimp only;rw[eH,bz]
def agz{f:aP}{hv:aa aH}(hn:f.ai.length<=1000000)(hh:hv.length=f.ak.length)(hvn:∀i,i<hv.length->NN hv[i]!):∀n:Nat,
  (∀(top:Bool) (l:aa ay) (s:au) (m:Nat),2*zh l<n->eW l<=1000000->bW f top l=0->dW f.ai.length m s->m+dR l<=1000000->Yb n f hv l (tr s)=I (tr (fY f hv l s)))/\
  (∀(x:ay) (s:au) (m:Nat),2*zh x.aK+1<n->eW x.aK<=1000000->(0<=x.fN/\x.fN<=4096)->cj x.aR->dN f.ai G x.aB=0->bW f G x.aK=0->dW f.ai.length m s->m+x.fN.toNat*dR x.aK<=1000000->J4 n f hv x (tr s)=I (tr (lf (jz (fY f hv x.aK) x.aB x.aR x.fN.toNat s))))
 |0=>⟨λ_ _ _ _ h=>by omega,λ_ _ _ h=>by omega⟩
 |n+1=>by
  obtain⟨i1,i2⟩:=agz hn hh hvn n;refine⟨λtop l s m h hN hc hs hm=> ?_,λx s m h hN hx hc ht hst hs hm=> ?_⟩
  ·refine ata (Yb n) (J4 n) hn hh hvn (zH (ji l) hN) hc hs hm (λx hx s m hs hm=> ?_) (λx hx s m hs hm=> ?_) (λx hx s m h4 hs hm=> ?_)
   ·have:=bf hx;exact i1 G x.aK s m (by omega) (zH (sM hx).1 hN) (jS hc hx).1 hs hm
   ·have:=bf hx;exact i1 G x.aN s m (by omega) (zH (sM hx).2 hN) (jS hc hx).2 hs hm
   ·have:=(bf hx).1;obtain⟨_,k⟩:=su hc hx;exact i2 x s m (by omega) (zH (sM hx).1 hN) (k.n4 h4) (oh k) k.term (jS hc hx).1 hs hm
  ·exact alh (Yb n) (J4 n) hn hx hc ht (gB hh hvn _ x.aK G (zB _) hst) hs hm (λs m hs hm=>i1 G x.aK s m (by omega) hN hst hs hm)
def atx{r:Runner}(hn:r.fF.ai.length<=1000000)(hh:r.ak.length=r.fF.ak.length)(hvn:∀i,i<r.ak.length->NN r.ak[i]!){top:Bool}{l:aa ay}{s:au}{m:Nat}(hN:eW l<=1000000)(hc:bW r.fF top l=0)(hs:dW r.fF.ai.length m s)(hm:m+dR l<=1000000):r83 r l s=I (fY r.fF r.ak l s):=
 dS (2*zh l+1) λn h=>(ahM hn hh hvn n).1 top l s m (by omega) hN hc hs hm
def anC{f:aP}{hv:aa aH}(hn:f.ai.length<=1000000)(hh:hv.length=f.ak.length)(hvn:∀i,i<hv.length->NN hv[i]!){top:Bool}{l:aa ay}{s:au}{m:Nat}(hN:eW l<=1000000)(hc:bW f top l=0)(hs:dW f.ai.length m s)(hm:m+dR l<=1000000):r88 f hv l (tr s)=I (tr (fY f hv l s)):=
 dS (2*zh l+1) λn h=>(agz hn hh hvn n).1 top l s m (by omega) hN hc hs hm
def kd(k:Int)(v:aS):Bool:=O (v.bw=k)
def cA(vars:aa aS)(k:Int)(i:Nat):Nat:=((vars.take i).filter (kd k)).length
def fO{vars:aa aS}{i:Nat}(h:i<vars.length)(k:Int):cA vars k (i+1)=cA vars k i+if vars[i]!.bw=k then 1 else 0:=by
 unfold cA;rw[bM h,xE,zl];by_cases hk:vars[i]!.bw=k
 ·rw[bD hk];simp only[yY,wo,kd,hk,cR,cD,yz]
 ·rw[bL hk];simp only[yY,wo,kd,hk,fS,yO,ek,List.length_nil]
def jO(vars:aa aS)(k:Int)(i:Nat):cA vars k i<=i:=by
 unfold cA;exact zH (yN _ _) (by rw[zR];omega)
def iW{vars:aa aS}{k:Int}{i j:Nat}(hij:i<=j)(hj:j<=vars.length):cA vars k i<=cA vars k j:=by
 induction j with
 |zero=>
  have:i=0:=by omega
  subst this;exact zG _
 |succ j ih=>
  by_cases h:i=j+1
  ·subst h;exact zG _
  ·rw[fO (by omega)];have:=ih (by omega) (by omega);omega
def lG(vars:aa aS)(k:Int):cA vars k vars.length=(vars.filter (kd k)).length:=by unfold cA;rw[zI]
def afO(vars:aa aS)(inp:kZ)(i:Nat):Int:=
 if vars[i]!.bw=1 then inp.G7[cA vars 1 i]! else if vars[i]!.bw=2 then inp.aY[cA vars 2 i]! else if vars[i]!.bw=3 then inp.Ib[cA vars 3 i]! else vars[i]!.dM
structure auF (vars:List aS) (inp:kZ):Prop where
 s:inp.G7.length=cA vars 1 vars.length
 p:inp.aY.length=cA vars 2 vars.length
 r:inp.Ib.length=cA vars 3 vars.length
 b:∀i,i<vars.length->vars[i]!.ag<=afO vars inp i/\afO vars inp i<=vars[i]!.ah
def lH{α:Type}[Inhabited α]{c:Nat->α->Int}:∀{l:aa α} {i:Nat},b9 c l i=0->∀j,j<l.length->c (i+j) l[j]! =0
 |[],_,_,j,h=>by simp at h
 |x::l,i,h,j,hj=>by
  unfold b9 at h;split at h
  case isFalse h1=>exact dg h h1
  rename_i h0;cases j with
  |zero=>simpa using h0
  |succ j=>
   have:=lH h j (by simpa using hj);rw[show i+(j+1)=i+1+j by omega];exact this
def al9{f:aP}{i:Nat}{h:cV}(hc:jx f i h=0):(-1048576<=h.ag/\h.ag<=h.ah/\h.ah<=1048576)/\dN f.ai J h.aB=0:=by
 unfold jx at hc;split at hc
 ·cases hc
 split at hc
 ·cases hc
 split at hc
 ·cases hc
 rename_i hb;have hb:gj h.ag h.ah=J:=by simpa using hb
 unfold gj at hb;rw[decide_eq_true_eq]at hb;exact⟨⟨hb.2.1,hb.1,hb.2.2⟩,hc⟩
structure I5 (f:aP):Prop where
 vars:cL f.ai
 hat:∀i,i<f.ak.length->(-1048576<=f.ak[i]!.ag/\f.ak[i]!.ag<=f.ak[i]!.ah/\f.ak[i]!.ah<=1048576)/\dN f.ai J f.ak[i]!.aB=0
 steps:bW f J f.bK=0
 o:(ei f.bK).2.1<=8
 t:(ei f.bK).2.2<=67108864
def FC{f:aP}(h:qL f=0):I5 f:=by
 have hv:=mb h;unfold qL at h;split at h
 ·cases h
 split at h
 ·exact dg h ‹_›
 split at h
 ·exact dg h ‹_›
 rename_i h3;split at h
 ·exact dg h ‹_›
 rename_i h4;split at h
 ·cases h
 rename_i h5;have h3:b9 (jx f) f.ak 0=0:=by simpa using h3
 have h4:bW f J f.bK=0:=by simpa using h4
 unfold OE at h5;simp only[decide_eq_true_eq]at h5;exact⟨hv,λi hi=>al9 (i:=0+i) (lH h3 i hi),h4,by omega,by omega⟩
def F79:aW:=(Jf (ab1 (e91 cZ)))
structure KU where
 t2:List aH
 t100:List aS
 (t101 t102:Int)
def VP:Td 0 KU:= .c [] [2,100,101,102] (.r 0 1 (ec 2 (ql 34) (ec 100 (qo 0) (ec 101 aL (ec 102 aL en)))) (sr 0 131 sn) (λz=>⟨z.1.1,z.2.1,z.1.t.1,z.1.t.2.1⟩) (λx=>((x.t2,(),x.t101,x.t102,()),(x.t100,()))))
def Io(p:KU):af (af KU):=
 bif O (p.t102<p.t101)then if 0<=p.t102/\p.t102<p.t100.length then if 131=131/\p.t102.toNat<p.t100.length then match if 0<=p.t102/\p.t102<p.t2.length then match rS p.t2[p.t102.toNat]! with|S=>S|I r2=>bif bif r2 then G else J then I J else if 0<=p.t102/\p.t102<p.t2.length then match HX p.t2[p.t102.toNat]! with|S=>S|I r3=>I (O (r3=0))else S else S with|S=>S|I r4=>bif r4 then I (S)else if 0<=p.t102/\p.t102<p.t2.length then bif O (p.t2[p.t102.toNat]!.ag<p.t100[p.t102.toNat]!.ag)then I (S)else if 0<=p.t102/\p.t102<p.t2.length then bif O (p.t100[p.t102.toNat]!.ah<p.t2[p.t102.toNat]!.ah)then I (S)else I (I (KU.mk p.t2 p.t100 p.t101 (i64.wrap (p.t102+1))))else S else S else S else S else I (S)
def agD:An:=(noTwo (noTwo (.two (noTwo (.two (.two (.rb [91,144] 120) .no) .no)) .no)))
def OS:=bG (Io)
structure KQ where
 t2:List aH
 (t9 t69:List aS)
 (t70 t71:Int)
 b0:cz
def XM:Td 0 KQ:= .c [] [2,4,9,69,70,71] (.r 0 3 (ec 2 (ql 34) (ec 4 (qp 0 0) (ec 9 (qo 1) (ec 69 (qo 2) (ec 70 aL (ec 71 aL en)))))) (sb 0 29 (lg 29) (sr 1 131 (sr 2 131 sn))) (λz=>⟨z.1.1,z.t.1,z.t.2.1,z.1.q.1,z.1.q.2.1,z.2.1⟩) (λx=>((x.t2,(),(),(),x.t70,x.t71,()),(x.b0,x.t9,x.t69,()))))
def KA(p:KQ):af (af KQ):=
 bif O (p.t71<p.t70)then if 0<=p.t71/\p.t71<p.t69.length then if 131=131/\p.t71.toNat<p.t69.length then if 0<=p.t71/\p.t71<p.b0.aY.length then bif O (((p.t2,(),(),(),p.t70,p.t71,()),p.b0,p.t9,p.t69,()).snd.fst.aY[((p.t2,(),(),(),p.t70,p.t71,()),p.b0,p.t9,p.t69,()).fst.snd.snd.snd.snd.snd.fst.toNat]! <((p.t2,(),(),(),p.t70,p.t71,()),p.b0,p.t9,p.t69,()).snd.snd.snd.fst[((p.t2,(),(),(),p.t70,p.t71,()),p.b0,p.t9,p.t69,()).fst.snd.snd.snd.snd.snd.fst.toNat]!.ag)then I (S)else if 0<=p.t71/\p.t71<p.b0.aY.length then bif O (((p.t2,(),(),(),p.t70,p.t71,()),p.b0,p.t9,p.t69,()).snd.snd.snd.fst[((p.t2,(),(),(),p.t70,p.t71,()),p.b0,p.t9,p.t69,()).fst.snd.snd.snd.snd.snd.fst.toNat]!.ah<((p.t2,(),(),(),p.t70,p.t71,()),p.b0,p.t9,p.t69,()).snd.fst.aY[((p.t2,(),(),(),p.t70,p.t71,()),p.b0,p.t9,p.t69,()).fst.snd.snd.snd.snd.snd.fst.toNat]!)then I (S)else I (I (KQ.mk p.t2 p.t9 p.t69 p.t70 (i64.wrap (p.t71+1)) p.b0))else S else S else S else S else I (S)
def PY:=bG (KA)
structure Br where
 t2:List aH
 (t8 t9:List aS)
 t13:Int
 t40:List Int
 (t41 t42:Int)
 t47:List aS
 (t48 t49:Int)
 b0:aP
 b1:cz
def UU:Td 0 Br:= .c [] [2,3,4,8,9,13,40,41,42,47,48,49] (.r 0 5 (ec 2 (ql 34) (ec 3 (qp 0 0) (ec 4 (qp 1 0) (ec 8 (qo 2) (ec 9 (qo 3) (ec 13 aL (ec 40 (qo 4) (ec 41 aL (ec 42 aL (ec 47 (ql 131) (ec 48 aL (ec 49 aL en)))))))))))) (sb 0 26 (lg 26) (sb 1 29 (lg 29) (sr 2 131 (sr 3 131 (sr 4 129 sn))))) (λz=>⟨z.1.1,z.t.2.1,z.q.1,z.1.q.2.1,z.q.2.1,z.1.q.t.2.1,z.1.q.q.1,z.1.q.q.2.1,z.1.q.q.t.1,z.1.q.q.t.2.1,z.2.1,z.t.1⟩) (λx=>((x.t2,(),(),(),(),x.t13,(),x.t41,x.t42,x.t47,x.t48,x.t49,()),(x.b0,x.b1,x.t8,x.t9,x.t40,()))))
def Ry(p:Br):af (af Br):=
 bif O (p.t49<p.t48)then if 0<=p.t49/\p.t49<p.t47.length then bif O (p.t47[p.t49.toNat]!.bw=p.t13)then if(p.t9++[p.t47[p.t49.toNat]!]).length<=1073741824 then I (I (Br.mk p.t2 p.t8 (p.t9++[p.t47[p.t49.toNat]!]) p.t13 p.t40 p.t41 p.t42 p.t47 p.t48 (i64.wrap (p.t49+1)) p.b0 p.b1))else S else I (I (Br.mk p.t2 p.t8 p.t9 p.t13 p.t40 p.t41 p.t42 p.t47 p.t48 (i64.wrap (p.t49+1)) p.b0 p.b1))else S else I (S)
def EF:=bG (Ry)
structure JT where
 t2:List aH
 (t8 t9:List aS)
 t40:List Int
 (t41 t42:Int)
 b0:aP
 b1:cz
def TT:Td 0 JT:= .c [] [2,3,4,8,9,40,41,42] (.t (cE.s 9 [] 131) (.c [] [2,3,4,8,9,40,41,42] (.r 0 5 (ec 2 (ql 34) (ec 3 (qp 0 0) (ec 4 (qp 1 0) (ec 8 (qo 2) (ec 9 (qo 3) (ec 40 (qo 4) (ec 41 aL (ec 42 aL en)))))))) (sb 0 26 (lg 26) (sb 1 29 (lg 29) (sr 2 131 (sr 3 131 (sr 4 129 sn))))) (λz=>⟨z.1.1,z.t.2.1,z.q.1,z.q.2.1,z.1.q.t.1,z.1.q.t.2.1,z.2.1,z.t.1⟩) (λx=>((x.t2,(),(),(),(),(),x.t41,x.t42,()),(x.b0,x.b1,x.t8,x.t9,x.t40,()))))))
def On(p:JT):af (af JT):=
 bif O (p.t42<p.t41)then if 0<=p.t42/\p.t42<p.t40.length then if 129=129/\p.t42.toNat<p.t40.length then match EF (Br.mk p.t2 p.t8 p.t9 p.t40[p.t42.toNat]! p.t40 p.t41 p.t42 p.b0.ai p.b0.ai.length 0 p.b0 p.b1)with|S=>S|I r1=>bif O (r1.t49<r1.t48)then if 0<=r1.t49/\r1.t49<r1.t47.length then bif O (r1.t47[r1.t49.toNat]!.bw=r1.t13)then if(r1.t9++[r1.t47[r1.t49.toNat]!]).length<=1073741824 then S else S else S else S else I (I (JT.mk r1.t2 r1.t8 r1.t9 r1.t40 r1.t41 (i64.wrap (r1.t42+1)) r1.b0 r1.b1))else S else S else I (S)
def afV:An:=(noTwo (noTwo (.two (noTwo (noTwo (UU.lp EF .no))) .no)))
def KT:=bG (On)
structure Ec where
 t2:List aH
 (t8 t26:List aS)
 (t27 t28:Int)
 b0:aP
 b1:cz
def V6:Td 0 Ec:= .c [] [2,3,4,8,9,26,27,28] (.t (cE.s 8 [] 131) (.c [] [2,3,4,8,9,26,27,28] (.r 0 3 (ec 2 (ql 34) (ec 3 (qp 0 0) (ec 4 (qp 1 0) (ec 8 (qo 2) (ec 9 qn (ec 26 (ql 131) (ec 27 aL (ec 28 aL en)))))))) (sb 0 26 (lg 26) (sb 1 29 (lg 29) (sr 2 131 sn))) (λz=>⟨z.1.1,z.t.2.1,z.1.q.2.1,z.1.q.t.1,z.1.q.t.2.1,z.2.1,z.t.1⟩) (λx=>((x.t2,(),(),(),(),x.t26,x.t27,x.t28,()),(x.b0,x.b1,x.t8,()))))))
def Pr(p:Ec):af (af Ec):=
 bif O (p.t28<p.t27)then if 0<=p.t28/\p.t28<p.t26.length then bif O (p.t26[p.t28.toNat]!.bw=2)then if(p.t8++[p.t26[p.t28.toNat]!]).length<=1073741824 then I (I (Ec.mk p.t2 (p.t8++[p.t26[p.t28.toNat]!]) p.t26 p.t27 (i64.wrap (p.t28+1)) p.b0 p.b1))else S else I (I (Ec.mk p.t2 p.t8 p.t26 p.t27 (i64.wrap (p.t28+1)) p.b0 p.b1))else S else I (S)
def OT:=bG (Pr)
abbrev E79:=Int
def d79:Td 0 E79:= .c [] [6] (.r 0 0 (ec 6 aL en) sn (λz=>z.1.1) (λx=>((x,()),(()))))
def awo:∀f∈([91,144]:aa Nat),bC (F79) f:=(aC (fh (DU (CP bH))) (aC (fh (DU (CP bH))) aG))
def m79(a0:aP)(a1:cz)(a2:aa aH):af E79:=
 match V4 a0 with|S=>S|I r5=>bif bif O (r5=0)then G else J then I (r5)else match OT (Ec.mk a2 [] a0.ai a0.ai.length 0 a0 a1)with|S=>S|I r6=>bif O (r6.t28<r6.t27)then if 0<=r6.t28/\r6.t28<r6.t26.length then bif O (r6.t26[r6.t28.toNat]!.bw=2)then if(r6.t8++[r6.t26[r6.t28.toNat]!]).length<=1073741824 then S else S else S else S else match KT (JT.mk r6.t2 r6.t8 [] [1,3] (2:Int) 0 r6.b0 r6.b1)with|S=>S|I r7=>bif O (r7.t42<r7.t41)then if 0<=r7.t42/\r7.t42<r7.t40.length then if 129=129/\r7.t42.toNat<r7.t40.length then match EF (Br.mk r7.t2 r7.t8 r7.t9 r7.t40[r7.t42.toNat]! r7.t40 r7.t41 r7.t42 r7.b0.ai r7.b0.ai.length 0 r7.b0 r7.b1)with|S=>S|I r8=>bif O (r8.t49<r8.t48)then if 0<=r8.t49/\r8.t49<r8.t47.length then bif O (r8.t47[r8.t49.toNat]!.bw=r8.t13)then if(r8.t9++[r8.t47[r8.t49.toNat]!]).length<=1073741824 then S else S else S else S else S else S else S else bif bif O ((r7.b1.aY.length:Int)=(r7.t8.length:Int))then G else J then I 1 else match PY (KQ.mk r7.t2 r7.t9 r7.t8 r7.t8.length 0 r7.b1)with|S=>S|I r9=>bif O (r9.t71<r9.t70)then if 0<=r9.t71/\r9.t71<r9.t69.length then if 131=131/\r9.t71.toNat<r9.t69.length then if 0<=r9.t71/\r9.t71<r9.b0.aY.length then bif O (((r9.t2,(),(),(),r9.t70,r9.t71,()),r9.b0,r9.t9,r9.t69,()).snd.fst.aY[((r9.t2,(),(),(),r9.t70,r9.t71,()),r9.b0,r9.t9,r9.t69,()).fst.snd.snd.snd.snd.snd.fst.toNat]! <((r9.t2,(),(),(),r9.t70,r9.t71,()),r9.b0,r9.t9,r9.t69,()).snd.snd.snd.fst[((r9.t2,(),(),(),r9.t70,r9.t71,()),r9.b0,r9.t9,r9.t69,()).fst.snd.snd.snd.snd.snd.fst.toNat]!.ag)then I 3 else if 0<=r9.t71/\r9.t71<r9.b0.aY.length then bif O (((r9.t2,(),(),(),r9.t70,r9.t71,()),r9.b0,r9.t9,r9.t69,()).snd.snd.snd.fst[((r9.t2,(),(),(),r9.t70,r9.t71,()),r9.b0,r9.t9,r9.t69,()).fst.snd.snd.snd.snd.snd.fst.toNat]!.ah<((r9.t2,(),(),(),r9.t70,r9.t71,()),r9.b0,r9.t9,r9.t69,()).snd.fst.aY[((r9.t2,(),(),(),r9.t70,r9.t71,()),r9.b0,r9.t9,r9.t69,()).fst.snd.snd.snd.snd.snd.fst.toNat]!)then I 3 else S else S else S else S else S else bif bif O ((r9.t2.length:Int)=(r9.t9.length:Int))then G else J then I 2 else match OS (KU.mk r9.t2 r9.t9 r9.t9.length 0)with|S=>S|I r10=>bif O (r10.t102<r10.t101)then if 0<=r10.t102/\r10.t102<r10.t100.length then if 131=131/\r10.t102.toNat<r10.t100.length then match if 0<=r10.t102/\r10.t102<r10.t2.length then match rS r10.t2[r10.t102.toNat]! with|S=>S|I r11=>bif bif r11 then G else J then I J else if 0<=r10.t102/\r10.t102<r10.t2.length then match HX r10.t2[r10.t102.toNat]! with|S=>S|I r12=>I (O (r12=0))else S else S with|S=>S|I r13=>bif r13 then I 1 else if 0<=r10.t102/\r10.t102<r10.t2.length then bif O (r10.t2[r10.t102.toNat]!.ag<r10.t100[r10.t102.toNat]!.ag)then I 3 else if 0<=r10.t102/\r10.t102<r10.t2.length then bif O (r10.t100[r10.t102.toNat]!.ah<r10.t2[r10.t102.toNat]!.ah)then I 3 else S else S else S else S else S else I 0
def e79:=eL wJ 79 G (lc (qg 26) (lc (qg 29) (lc (ql 34) ln))) d79 (λg=>m79 g.1 g.2.1 g.t.1)
def alU:EO e79:=λh=>kL (F:=F79) (an:=(noTwo (noTwo (noTwo (.two (noTwo (V6.lp OT .no)) (.two (noTwo (TT.lp KT afV)) (noTwo (.two (noTwo (XM.lp PY .no)) (noTwo (.two (noTwo (VP.lp OS agD)) .no)))))))))) (l:=[(bg f79 0,(V6.lp OT .no)),(bg f79 1,(TT.lp KT afV)),(bg f79 2,(UU.lp EF .no)),(bg f79 3,(XM.lp PY .no)),(bg f79 4,(VP.lp OS agD)),(.skip,(.rb [91,144] 120))]) func79 (jK (Oo (ML aQ))) (aC (aO V6) (aC (aO TT) (aC (aO UU) (aC (aO XM) (aC (aO VP) (aC awo aG)))))) h
def F20:aW:=(e83 (e82 (e81 (e80 (e79 cZ)))))
def ajT:aV wJ F20:=(akk (Hu (Lk (Hx (alU aQ)))))
structure Jt where
 t108:List cV
 (t109 t110:Int)
 b0:aP
 b1:cz
 b2:bE
 b3:au
 b4:Runner
def VO:Td 0 Jt:= .c [] [3,4,6,9,17,108,109,110] (.t (cE.c 4 3 [] 34) (.c [] [3,4,6,9,17,108,109,110] (.r 0 7 (ec 3 (qp 0 0) (ec 4 (qp 1 0) (ec 6 (qp 2 0) (ec 9 (qp 3 0) (ec 17 (qp 4 0) (ec 108 (ql 139) (ec 109 aL (ec 110 aL en)))))))) (sb 0 26 (lg 26) (sb 1 29 (lg 29) (sb 2 36 (aM (aM (aM (lc qn (aM (aM (aM (lc qn ln)))))))) (sb 3 128 (lc (qo 5) (aM (aM (aM (lc qn (aM (aM (aM ln)))))))) (sb 4 133 (lc (ql 131) (lc (ql 139) (lc (ql 166) (lc (qo 6) ln)))) (sr 5 34 (sr 6 34 sn))))))) (λz=>⟨z.1.q.2.1,z.1.q.t.1,z.1.q.t.2.1,z.2.1,z.t.1,(bE.mk (aH.mk z.t.2.1.1 z.t.2.1.2.1 z.t.2.1.t.1) [] (aH.mk z.t.2.1.q.1 z.t.2.1.q.2.1 z.t.2.1.q.t.1) []),(au.mk z.q.t.1 (aH.mk z.q.1.2.1 z.q.1.t.1 z.q.1.t.2.1) [] (aH.mk z.q.1.q.2.1 z.q.1.q.t.1 z.q.1.q.t.2.1)),(Runner.mk (aP.mk z.q.2.1.1 z.q.2.1.2.1 z.q.2.1.t.1) z.q.t.2.1)⟩) (λx=>(((),(),(),(),(),x.t108,x.t109,x.t110,()),(x.b0,x.b1,(x.b2.aA.ag,x.b2.aA.ah,x.b2.aA.aj,(),x.b2.aD.ag,x.b2.aD.ah,x.b2.aD.aj,(),()),((),x.b3.aA.ag,x.b3.aA.ah,x.b3.aA.aj,(),x.b3.aD.ag,x.b3.aD.ah,x.b3.aD.aj,()),(x.b4.fF.ai,x.b4.fF.ak,x.b4.fF.bK,(),()),x.b3.ai,x.b4.ak,()))))))
def Rh(p:Jt):af (af Jt):=
 bif O (p.t110<p.t109)then if 0<=p.t110/\p.t110<p.t108.length then match Np (au.mk p.b3.ai p.b3.aA [] p.b3.aD) (ax.mk p.t108[p.t110.toNat]!.aB.bt p.t108[p.t110.toNat]!.aB.fN p.t108[p.t110.toNat]!.aB.aq)with|S=>S|I r1=>match m81 r1 p.t108[p.t110.toNat]!.ag p.t108[p.t110.toNat]!.ah with|S=>S|I r2=>if(p.b4.ak++[r2.fst]).length<=1073741824 then I (I (Jt.mk p.t108 p.t109 (i64.wrap (p.t110+1)) p.b0 p.b1 (bE.mk p.b2.aA [] p.b2.aD []) (au.mk p.b3.ai p.b3.aA [] p.b3.aD) (Runner.mk p.b4.fF (p.b4.ak++[r2.fst]))))else S else S else I (S)
def IT:=bG (Rh)
structure v8 where
 t2:List aH
 (t10 t11 t12:Int)
 t47:List aS
 (t48 t49:Int)
 b0:aP
 b1:cz
 b2:bE
 b3:au
def Wn:Td 0 v8:= .c [] [2,3,4,6,9,10,11,12,47,48,49] (.t (cE.c 3 0 [] 34) (.c [] [2,3,4,6,9,10,11,12,47,48,49] (.r 0 5 (ec 2 (ql 34) (ec 3 (qp 0 0) (ec 4 (qp 1 0) (ec 6 (qp 2 0) (ec 9 (qp 3 0) (ec 10 aL (ec 11 aL (ec 12 aL (ec 47 (ql 131) (ec 48 aL (ec 49 aL en))))))))))) (sb 0 26 (lg 26) (sb 1 29 (lg 29) (sb 2 36 (aM (aM (aM (lc qn (aM (aM (aM (lc qn ln)))))))) (sb 3 128 (lc (qo 4) (aM (aM (aM (lc qn (aM (aM (aM ln)))))))) (sr 4 34 sn))))) (λz=>⟨z.1.1,z.1.q.2.1,z.1.q.t.1,z.1.q.t.2.1,z.1.q.q.1,z.1.q.q.2.1,z.1.q.q.t.1,z.2.1,z.t.1,(bE.mk (aH.mk z.t.2.1.1 z.t.2.1.2.1 z.t.2.1.t.1) [] (aH.mk z.t.2.1.q.1 z.t.2.1.q.2.1 z.t.2.1.q.t.1) []),(au.mk z.q.2.1 (aH.mk z.q.1.2.1 z.q.1.t.1 z.q.1.t.2.1) [] (aH.mk z.q.1.q.2.1 z.q.1.q.t.1 z.q.1.q.t.2.1))⟩) (λx=>((x.t2,(),(),(),(),x.t10,x.t11,x.t12,x.t47,x.t48,x.t49,()),(x.b0,x.b1,(x.b2.aA.ag,x.b2.aA.ah,x.b2.aA.aj,(),x.b2.aD.ag,x.b2.aD.ah,x.b2.aD.aj,(),()),((),x.b3.aA.ag,x.b3.aA.ah,x.b3.aA.aj,(),x.b3.aD.ag,x.b3.aD.ah,x.b3.aD.aj,()),x.b3.ai,()))))))
def PT(p:v8):af (af v8):=
 bif O (p.t49<p.t48)then if 0<=p.t49/\p.t49<p.t47.length then bif O (p.t47[p.t49.toNat]!.bw=1)then if 0<=p.t10/\p.t10<p.t2.length then if(p.b3.ai++[p.t2[p.t10.toNat]!]).length<=1073741824 then I (I (v8.mk p.t2 (i64.wrap (p.t10+1)) p.t11 p.t12 p.t47 p.t48 (i64.wrap (p.t49+1)) p.b0 p.b1 (bE.mk p.b2.aA [] p.b2.aD []) (au.mk (p.b3.ai++[p.t2[p.t10.toNat]!]) p.b3.aA [] p.b3.aD)))else S else S else bif O (p.t47[p.t49.toNat]!.bw=2)then if 0<=p.t11/\p.t11<p.b1.aY.length then if(p.b3.ai++[Pj p.b1.aY[p.t11.toNat]!]).length<=1073741824 then I (I (v8.mk p.t2 p.t10 (i64.wrap (p.t11+1)) p.t12 p.t47 p.t48 (i64.wrap (p.t49+1)) p.b0 p.b1 (bE.mk p.b2.aA [] p.b2.aD []) (au.mk (p.b3.ai++[Pj p.b1.aY[p.t11.toNat]!]) p.b3.aA [] p.b3.aD)))else S else S else bif O (p.t47[p.t49.toNat]!.bw=3)then if 0<=p.t12/\p.t12<p.t2.length then if(p.b3.ai++[p.t2[p.t12.toNat]!]).length<=1073741824 then I (I (v8.mk p.t2 p.t10 p.t11 (i64.wrap (p.t12+1)) p.t47 p.t48 (i64.wrap (p.t49+1)) p.b0 p.b1 (bE.mk p.b2.aA [] p.b2.aD []) (au.mk (p.b3.ai++[p.t2[p.t12.toNat]!]) p.b3.aA [] p.b3.aD)))else S else S else if(p.b3.ai++[Pj p.t47[p.t49.toNat]!.dM]).length<=1073741824 then I (I (v8.mk p.t2 p.t10 p.t11 p.t12 p.t47 p.t48 (i64.wrap (p.t49+1)) p.b0 p.b1 (bE.mk p.b2.aA [] p.b2.aD []) (au.mk (p.b3.ai++[Pj p.t47[p.t49.toNat]!.dM]) p.b3.aA [] p.b3.aD)))else S else S else I (S)
def OM:=bG (PT)
structure Ev where
 t2:List aH
 (t10 t11 t12:Int)
 t34:List aS
 (t35 t36:Int)
 b0:aP
 b1:cz
 b2:bE
 b3:au
def UA:Td 0 Ev:= .c [] [2,3,4,6,9,10,11,12,34,35,36] (.r 0 4 (ec 2 (ql 34) (ec 3 (qp 0 0) (ec 4 (qp 1 0) (ec 6 (qp 2 0) (ec 9 (qp 3 0) (ec 10 aL (ec 11 aL (ec 12 aL (ec 34 (ql 131) (ec 35 aL (ec 36 aL en))))))))))) (sb 0 26 (lg 26) (sb 1 29 (lg 29) (sb 2 36 (aM (aM (aM (lc qn (aM (aM (aM (lc qn ln)))))))) (sb 3 128 (lc qn (aM (aM (aM (lc qn (aM (aM (aM ln)))))))) sn)))) (λz=>⟨z.1.1,z.1.q.2.1,z.1.q.t.1,z.1.q.t.2.1,z.1.q.q.1,z.1.q.q.2.1,z.1.q.q.t.1,z.2.1,z.t.1,(bE.mk (aH.mk z.t.2.1.1 z.t.2.1.2.1 z.t.2.1.t.1) [] (aH.mk z.t.2.1.q.1 z.t.2.1.q.2.1 z.t.2.1.q.t.1) []),(au.mk [] (aH.mk z.q.1.2.1 z.q.1.t.1 z.q.1.t.2.1) [] (aH.mk z.q.1.q.2.1 z.q.1.q.t.1 z.q.1.q.t.2.1))⟩) (λx=>((x.t2,(),(),(),(),x.t10,x.t11,x.t12,x.t34,x.t35,x.t36,()),(x.b0,x.b1,(x.b2.aA.ag,x.b2.aA.ah,x.b2.aA.aj,(),x.b2.aD.ag,x.b2.aD.ah,x.b2.aD.aj,(),()),((),x.b3.aA.ag,x.b3.aA.ah,x.b3.aA.aj,(),x.b3.aD.ag,x.b3.aD.ah,x.b3.aD.aj,()),()))))
def Qv(p:Ev):af (af Ev):=
 bif O (p.t36<p.t35)then if 0<=p.t36/\p.t36<p.t34.length then bif O (p.t34[p.t36.toNat]!.bw=1)then I (I (Ev.mk p.t2 p.t10 p.t11 (i64.wrap (p.t12+1)) p.t34 p.t35 (i64.wrap (p.t36+1)) p.b0 p.b1 (bE.mk p.b2.aA [] p.b2.aD []) (au.mk [] p.b3.aA [] p.b3.aD)))else I (I (Ev.mk p.t2 p.t10 p.t11 p.t12 p.t34 p.t35 (i64.wrap (p.t36+1)) p.b0 p.b1 (bE.mk p.b2.aA [] p.b2.aD []) (au.mk [] p.b3.aA [] p.b3.aD)))else S else I (S)
def Pb:=bG (Qv)
abbrev E20:=bE×Int
def d20:Td 0 E20:= .c [] [6,7] (.r 0 1 (ec 6 (qp 0 0) (ec 7 aL en)) (sb 0 36 (lg 36) sn) (λz=>(z.2.1,z.1.2.1)) (λx=>(((),x.2,()),(x.1,()))))
def A20:=(lc (qg 26) (lc (qg 29) (lc (ql 34) ln)))
def aq5:An:=(noTwo (noTwo (noTwo (noTwo (.two (noTwo (UA.lp Pb .no)) (.two (noTwo (Wn.lp OM .no)) (noTwo (.two (noTwo (VO.lp IT .no)) .no))))))))
def avY:dB wJ (F20) 0 300 20 (aq5):=bO (l:=[(bg f20 0,(UA.lp Pb .no)),(bg f20 1,(Wn.lp OM .no)),(bg f20 2,(VO.lp IT .no))]) func20 (bq (by kernel_rfl)) (by kernel_rfl) (aC (aO UA) (aC (aO Wn) (aC (aO VO) aG)))
def m20(a0:aP)(a1:cz)(a2:aa aH):af E20:=
 match m79 a0 a1 a2 with|S=>S|I r3=>bif bif O (r3=0)then G else J then I ((bE.mk (aH.mk 0 0 0) [] (aH.mk 0 0 0) [],r3))else match Pb (Ev.mk a2 0 0 0 a0.ai a0.ai.length 0 a0 a1 (bE.mk (aH.mk 0 0 0) [] (aH.mk 0 0 0) []) (au.mk [] (Pj 0) [] (Pj 0)))with|S=>S|I r4=>bif O (r4.t36<r4.t35)then if 0<=r4.t36/\r4.t36<r4.t34.length then bif O (r4.t34[r4.t36.toNat]!.bw=1)then S else S else S else match OM (v8.mk r4.t2 r4.t10 r4.t11 r4.t12 r4.b0.ai r4.b0.ai.length 0 r4.b0 r4.b1 (bE.mk r4.b2.aA [] r4.b2.aD []) (au.mk [] r4.b3.aA [] r4.b3.aD))with|S=>S|I r5=>bif O (r5.t49<r5.t48)then if 0<=r5.t49/\r5.t49<r5.t47.length then bif O (r5.t47[r5.t49.toNat]!.bw=1)then if 0<=r5.t10/\r5.t10<r5.t2.length then if(r5.b3.ai++[r5.t2[r5.t10.toNat]!]).length<=1073741824 then S else S else S else bif O (r5.t47[r5.t49.toNat]!.bw=2)then if 0<=r5.t11/\r5.t11<r5.b1.aY.length then if(r5.b3.ai++[Pj r5.b1.aY[r5.t11.toNat]!]).length<=1073741824 then S else S else S else bif O (r5.t47[r5.t49.toNat]!.bw=3)then if 0<=r5.t12/\r5.t12<r5.t2.length then if(r5.b3.ai++[r5.t2[r5.t12.toNat]!]).length<=1073741824 then S else S else S else if(r5.b3.ai++[Pj r5.t47[r5.t49.toNat]!.dM]).length<=1073741824 then S else S else S else match IT (Jt.mk r5.b0.ak r5.b0.ak.length 0 r5.b0 r5.b1 (bE.mk r5.b2.aA [] r5.b2.aD []) (au.mk r5.b3.ai r5.b3.aA [] r5.b3.aD) (Runner.mk r5.b0 []))with|S=>S|I r6=>bif O (r6.t110<r6.t109)then if 0<=r6.t110/\r6.t110<r6.t108.length then match Np (au.mk r6.b3.ai r6.b3.aA [] r6.b3.aD) (ax.mk r6.t108[r6.t110.toNat]!.aB.bt r6.t108[r6.t110.toNat]!.aB.fN r6.t108[r6.t110.toNat]!.aB.aq)with|S=>S|I r7=>match m81 r7 r6.t108[r6.t110.toNat]!.ag r6.t108[r6.t110.toNat]!.ah with|S=>S|I r8=>if(r6.b4.ak++[r8.fst]).length<=1073741824 then S else S else S else match r83 r6.b4 r6.b0.bK (au.mk r6.b3.ai r6.b3.aA [] r6.b3.aD)with|S=>S|I r9=>bif bif r6.b1.n9 then G else J then I ((bE.mk r9.aA r9.az (Pj 0) r9.ai,0))else I (bE.mk r9.aA r9.az r9.aD r9.ai,0)
def c20(a0:aP)(a1:cz)(a2:aa aH):bQ wJ (F20) 300 (aq5) 20 (A20.c (a0,a1,a2,())) [] 0 d20.rd=m20 a0 a1 a2:=by kernel_rfl
def Wf:aW->aW:=eZ wJ 20 A20 d20 (λg=>m20 g.1 g.2.1 g.t.1)
def TZ{F:aW}(h:aV wJ F):aV wJ (Wf F):=od (cS ajT avY (λ_=>by kernel_rfl) (λ_=>by kernel_rfl) λg=>c20 g.1 g.2.1 g.t.1) ⟨_,func20,by kernel_rfl,by kernel_rfl⟩ (λ_=>by kernel_rfl) h
def TQ{F:aW}{f:Nat}(hne:zg f 20=G)(h:bC F f):bC (Wf F) f:=JS hne h
def F93:aW:=cZ
abbrev E93:=Int
def d93:Td 0 E93:= .c [] [4] (.r 0 0 (ec 4 aL en) sn (λz=>z.1.1) (λx=>((x,()),(()))))
def awk:∀f∈([]:aa Nat),bC (F93) f:=aG
def m93(a0:Int)(a1:Int):af E93:=
 match bif O (0<a1)then if¬a1=0then I (O (i64.wrap ((1099511627776:Int).tdiv a1)<a0))else S else I G with|S=>S|I r1=>bif r1 then I 1099511627776 else I (i64.wrap (a0*a1))
def e93:=eL wJ 93 G (aM (aM ln)) d93 (λg=>m93 g.1 g.2.1)
def amZ:EO e93:=λh=>kL (F:=F93) (an:=(noTwo (.two (.two (.rb [] 12) .no) .no))) (l:=[(.skip,(.rb [] 12))]) func93 aQ (aC awk aG) h
def F25:aW:=(e93 (e92 (e91 (Wf cZ))))
def al3:aV wJ F25:=(amZ (N4 (ML (TZ aQ))))
structure Ku where
 (t10 t13:Int)
 t58:List aH
 (t59 t60:Int)
def US:Td 0 Ku:= .c [] [10,13,58,59,60] (.r 0 0 (ec 10 aL (ec 13 aL (ec 58 (ql 34) (ec 59 aL (ec 60 aL en))))) sn (λz=>⟨z.1.1,z.1.2.1,z.1.t.1,z.1.t.2.1,z.1.q.1⟩) (λx=>((x.t10,x.t13,x.t58,x.t59,x.t60,()),(()))))
def OB(p:Ku):af (af Ku):=
 bif O (p.t60<p.t59)then if 0<=p.t60/\p.t60<p.t58.length then match HX p.t58[p.t60.toNat]! with|S=>S|I r6=>match m93 p.t13 r6 with|S=>S|I r7=>I (I (Ku.mk p.t10 r7 p.t58 p.t59 (i64.wrap (p.t60+1))))else S else I (S)
def Oq:=bG (OB)
structure wL where
 t2:List aH
 (t10 t11 t32 t33:Int)
 b0:bE
def Xe:Td 0 wL:= .c [] [2,8,10,11,32,33] (.r 0 1 (ec 2 (ql 34) (ec 8 (qp 0 0) (ec 10 aL (ec 11 aL (ec 32 aL (ec 33 aL en)))))) (sb 0 36 (lg 36) sn) (λz=>⟨z.1.1,z.1.t.1,z.1.t.2.1,z.1.q.1,z.1.q.2.1,z.2.1⟩) (λx=>((x.t2,(),x.t10,x.t11,x.t32,x.t33,()),(x.b0,()))))
def OD(p:wL):af (af wL):=
 bif O (p.t33<p.t32)then match m92 p.b0.aA p.t33 with|S=>S|I r1=>bif r1 then bif O (p.t33<p.b0.az.length)then if 0<=p.t33/\p.t33<p.b0.az.length then match HX p.b0.az[p.t33.toNat]! with|S=>S|I r2=>match m93 p.t11 r2 with|S=>S|I r3=>I (I (wL.mk p.t2 (if 1099511627776<i64.wrap (p.t10+p.t11)then 1099511627776 else i64.wrap (p.t10+p.t11)) r3 p.t32 (i64.wrap (p.t33+1)) p.b0))else S else I (I (wL.mk p.t2 (if 1099511627776<i64.wrap (p.t10+p.t11)then 1099511627776 else i64.wrap (p.t10+p.t11)) p.t11 p.t32 (i64.wrap (p.t33+1)) p.b0))else bif O (p.t33<p.b0.az.length)then if 0<=p.t33/\p.t33<p.b0.az.length then match HX p.b0.az[p.t33.toNat]! with|S=>S|I r4=>match m93 p.t11 r4 with|S=>S|I r5=>I (I (wL.mk p.t2 p.t10 r5 p.t32 (i64.wrap (p.t33+1)) p.b0))else S else I (I (wL.mk p.t2 p.t10 p.t11 p.t32 (i64.wrap (p.t33+1)) p.b0))else I (S)
def Qn:=bG (OD)
abbrev E25:=Int×Int
def d25:Td 0 E25:= .c [] [6,7] (.r 0 0 (ec 6 aL (ec 7 aL en)) sn (λz=>(z.1.1,z.1.2.1)) (λx=>((x.1,x.2,()),(()))))
def A25:=(lc (qg 26) (lc (qg 29) (lc (ql 34) ln)))
def asr:An:=(noTwo (noTwo (noTwo (noTwo (.two (noTwo (Xe.lp Qn .no)) (noTwo (.two (noTwo (US.lp Oq .no)) .no)))))))
def ayh:dB wJ (F25) 0 300 25 (asr):=bO (l:=[(bg f25 0,(Xe.lp Qn .no)),(bg f25 1,(US.lp Oq .no))]) func25 (bq (by kernel_rfl)) (by kernel_rfl) (aC (aO Xe) (aC (aO US) aG))
def LY(a0:aP)(a1:cz)(a2:aa aH):af E25:=
 match m20 a0 a1 a2 with|S=>S|I r8=>bif bif O (r8.snd=0)then G else J then I (0,r8.snd)else match HX r8.fst.aD with|S=>S|I r9=>match Qn (wL.mk a2 0 r9 (i64.wrap ((r8.fst.az.length:Int)+1)) 0 r8.fst)with|S=>S|I r10=>bif O (r10.t33<r10.t32)then match m92 r10.b0.aA r10.t33 with|S=>S|I r11=>bif r11 then bif O (r10.t33<r10.b0.az.length)then if 0<=r10.t33/\r10.t33<r10.b0.az.length then match HX r10.b0.az[r10.t33.toNat]! with|S=>S|I r12=>match m93 r10.t11 r12 with|S=>S|I r13=>S else S else S else bif O (r10.t33<r10.b0.az.length)then if 0<=r10.t33/\r10.t33<r10.b0.az.length then match HX r10.b0.az[r10.t33.toNat]! with|S=>S|I r14=>match m93 r10.t11 r14 with|S=>S|I r15=>S else S else S else match Oq (Ku.mk r10.t10 1 r10.t2 r10.t2.length 0)with|S=>S|I r16=>bif O (r16.t60<r16.t59)then if 0<=r16.t60/\r16.t60<r16.t58.length then match HX r16.t58[r16.t60.toNat]! with|S=>S|I r17=>match m93 r16.t13 r17 with|S=>S|I r18=>S else S else I (if r16.t13<r16.t10 then r16.t13 else r16.t10,0)
def c25(a0:aP)(a1:cz)(a2:aa aH):bQ wJ (F25) 300 (asr) 25 (A25.c (a0,a1,a2,())) [] 0 d25.rd=LY a0 a1 a2:=by kernel_rfl
def e25:=eL wJ 25 G A25 d25 (λg=>LY g.1 g.2.1 g.t.1)
def F26:aW:=(e91 (Wf cZ))
def akn:aV wJ F26:=(ML (TZ aQ))
structure Js where
 t12:Bool
 t41:List aH
 (t42 t43:Int)
 (b0 b1:aZ)
def TN:Td 0 Js:= .c [] [6,11,12,41,42,43] (.t (cE.c 1 0 [] 3) (.c [] [6,11,12,41,42,43] (.r 0 3 (ec 6 (qp 0 0) (ec 11 (qp 1 0) (ec 12 qb (ec 41 (ql 34) (ec 42 aL (ec 43 aL en)))))) (sb 0 47 (lc qn (aM ln)) (sb 1 47 (lc (qo 2) (aM ln)) (sr 2 3 sn))) (λz=>⟨z.1.t.1,z.1.t.2.1,z.1.q.1,z.1.q.2.1,(aZ.mk [] z.2.1.2.1),(aZ.mk z.t.2.1 z.t.1.2.1)⟩) (λx=>(((),(),x.t12,x.t41,x.t42,x.t43,()),(((),x.b0.aD,()),((),x.b1.aD,()),x.b1.bk,()))))))
def O9(p:Js):af (af Js):=
 bif O (p.t43<p.t42)then if 0<=p.t43/\p.t43<p.t41.length then match bif p.t12 then match HX p.t41[p.t43.toNat]! with|S=>S|I r1=>I (O (r1=1))else I G with|S=>S|I r2=>if(p.b1.bk++[p.t41[p.t43.toNat]!.ag]).length<=1073741824 then I (I (Js.mk r2 p.t41 p.t42 (i64.wrap (p.t43+1)) (aZ.mk [] p.b0.aD) (aZ.mk (p.b1.bk++[p.t41[p.t43.toNat]!.ag]) p.b1.aD)))else S else S else I (S)
def ag9:An:=(noTwo (noTwo (.two (noTwo (.two (.rb [91] 12) .no)) .no)))
def Q9:=bG (O9)
abbrev E26:=aZ×Bool×Int
def d26:Td 0 E26:= .c [] [6,7,8] (.t (cE.c 0 0 [] 3) (.c [] [6,7,8] (.r 0 2 (ec 6 (qp 0 0) (ec 7 qb (ec 8 aL en))) (sb 0 47 (lc (qo 1) (aM ln)) (sr 1 3 sn)) (λz=>((aZ.mk z.t.1 z.2.1.2.1),z.1.2.1,z.1.t.1)) (λx=>(((),x.2.1,x.t,()),(((),x.1.aD,()),x.1.bk,()))))))
def A26:=(lc (qg 26) (lc (qg 29) (lc (ql 34) ln)))
def aqx:An:=(noTwo (noTwo (noTwo (noTwo (.two (.rb [91] 12) (.two (noTwo (TN.lp Q9 ag9)) .no))))))
def asz:∀f∈([91]:aa Nat),bC (F26) f:=(aC (CP (TQ (f:=91) rfl bH)) aG)
def ayb:dB wJ (F26) 0 300 26 (aqx):=bO (l:=[(.skip,(.rb [91] 12)),(bg f26 0,(TN.lp Q9 ag9)),(.skip,(.rb [91] 12))]) func26 (bq (by kernel_rfl)) (by kernel_rfl) (aC asz (aC (aO TN) (aC asz aG)))
def m26(a0:aP)(a1:cz)(a2:aa aH):af E26:=
 match m20 a0 a1 a2 with|S=>S|I r3=>bif bif O (r3.snd=0)then G else J then I ((aZ.mk [] (0),G,r3.snd))else match match HX r3.fst.aA with|S=>S|I r4=>bif O (r4=1)then match HX r3.fst.aD with|S=>S|I r5=>I (O (r5=1))else I G with|S=>S|I r6=>match Q9 (Js.mk r6 r3.fst.az r3.fst.az.length 0 (aZ.mk [] (0)) (aZ.mk [] r3.fst.aD.ag))with|S=>S|I r7=>bif O (r7.t43<r7.t42)then if 0<=r7.t43/\r7.t43<r7.t41.length then match bif r7.t12 then match HX r7.t41[r7.t43.toNat]! with|S=>S|I r8=>I (O (r8=1))else I G with|S=>S|I r9=>if(r7.b1.bk++[r7.t41[r7.t43.toNat]!.ag]).length<=1073741824 then S else S else S else bif bif r7.t12 then G else J then I ((aZ.mk [] (0),G,0))else I (r7.b1,J,0)
def c26(a0:aP)(a1:cz)(a2:aa aH):bQ wJ (F26) 300 (aqx) 26 (A26.c (a0,a1,a2,())) [] 0 d26.rd=m26 a0 a1 a2:=by kernel_rfl
def e26:=eL wJ 26 G A26 d26 (λg=>m26 g.1 g.2.1 g.t.1)
def F21:aW:=(e84 (e78 (e43 cZ)))
structure Kr where
 t2:List aH
 t95:List aS
 (t96 t97:Int)
def U3:Td 0 Kr:= .c [] [2,95,96,97] (.r 0 1 (ec 2 (ql 34) (ec 95 (qo 0) (ec 96 aL (ec 97 aL en)))) (sr 0 131 sn) (λz=>⟨z.1.1,z.2.1,z.1.t.1,z.1.t.2.1⟩) (λx=>((x.t2,(),x.t96,x.t97,()),(x.t95,()))))
def I6(p:Kr):af (af Kr):=
 bif O (p.t97<p.t96)then if 0<=p.t97/\p.t97<p.t95.length then if 131=131/\p.t97.toNat<p.t95.length then match if 0<=p.t97/\p.t97<p.t2.length then match Tz p.t2[p.t97.toNat]! with|S=>S|I r4=>bif bif r4 then G else J then I J else if 0<=p.t97/\p.t97<p.t2.length then match qy p.t2[p.t97.toNat]! with|S=>S|I r5=>I (O (r5=0))else S else S with|S=>S|I r6=>bif r6 then I (S)else if 0<=p.t97/\p.t97<p.t2.length then bif O (p.t2[p.t97.toNat]!.ag<p.t95[p.t97.toNat]!.ag)then I (S)else if 0<=p.t97/\p.t97<p.t2.length then bif O (p.t95[p.t97.toNat]!.ah<p.t2[p.t97.toNat]!.ah)then I (S)else I (I (Kr.mk p.t2 p.t95 p.t96 (i64.wrap (p.t97+1))))else S else S else S else S else I (S)
def aht:An:=(noTwo (noTwo (.two (noTwo (.two (.two (.rb [43,84] 115) .no) .no)) .no)))
def QT:=bG (I6)
structure IS where
 t2:List aH
 (t9 t64:List aS)
 (t65 t66:Int)
 b0:cz
def WR:Td 0 IS:= .c [] [2,4,9,64,65,66] (.r 0 3 (ec 2 (ql 34) (ec 4 (qp 0 0) (ec 9 (qo 1) (ec 64 (qo 2) (ec 65 aL (ec 66 aL en)))))) (sb 0 29 (lg 29) (sr 1 131 (sr 2 131 sn))) (λz=>⟨z.1.1,z.t.1,z.t.2.1,z.1.q.1,z.1.q.2.1,z.2.1⟩) (λx=>((x.t2,(),(),(),x.t65,x.t66,()),(x.b0,x.t9,x.t64,()))))
def I0(p:IS):af (af IS):=
 bif O (p.t66<p.t65)then if 0<=p.t66/\p.t66<p.t64.length then if 131=131/\p.t66.toNat<p.t64.length then if 0<=p.t66/\p.t66<p.b0.aY.length then bif O (((p.t2,(),(),(),p.t65,p.t66,()),p.b0,p.t9,p.t64,()).snd.fst.aY[((p.t2,(),(),(),p.t65,p.t66,()),p.b0,p.t9,p.t64,()).fst.snd.snd.snd.snd.snd.fst.toNat]! <((p.t2,(),(),(),p.t65,p.t66,()),p.b0,p.t9,p.t64,()).snd.snd.snd.fst[((p.t2,(),(),(),p.t65,p.t66,()),p.b0,p.t9,p.t64,()).fst.snd.snd.snd.snd.snd.fst.toNat]!.ag)then I (S)else if 0<=p.t66/\p.t66<p.b0.aY.length then bif O (((p.t2,(),(),(),p.t65,p.t66,()),p.b0,p.t9,p.t64,()).snd.snd.snd.fst[((p.t2,(),(),(),p.t65,p.t66,()),p.b0,p.t9,p.t64,()).fst.snd.snd.snd.snd.snd.fst.toNat]!.ah<((p.t2,(),(),(),p.t65,p.t66,()),p.b0,p.t9,p.t64,()).snd.fst.aY[((p.t2,(),(),(),p.t65,p.t66,()),p.b0,p.t9,p.t64,()).fst.snd.snd.snd.snd.snd.fst.toNat]!)then I (S)else I (I (IS.mk p.t2 p.t9 p.t64 p.t65 (i64.wrap (p.t66+1)) p.b0))else S else S else S else S else I (S)
def Rz:=bG (I0)
structure vZ where
 t2:List aH
 (t8 t9:List aS)
 t11:Int
 t23:List Int
 (t24 t25:Int)
 t30:List aS
 (t31 t32:Int)
 b0:aP
 b1:cz
def Uq:Td 0 vZ:= .c [] [2,3,4,8,9,11,23,24,25,30,31,32] (.r 0 5 (ec 2 (ql 34) (ec 3 (qp 0 0) (ec 4 (qp 1 0) (ec 8 (qo 2) (ec 9 (qo 3) (ec 11 aL (ec 23 (qo 4) (ec 24 aL (ec 25 aL (ec 30 (ql 131) (ec 31 aL (ec 32 aL en)))))))))))) (sb 0 26 (lg 26) (sb 1 29 (lg 29) (sr 2 131 (sr 3 131 (sr 4 129 sn))))) (λz=>⟨z.1.1,z.t.2.1,z.q.1,z.1.q.2.1,z.q.2.1,z.1.q.t.2.1,z.1.q.q.1,z.1.q.q.2.1,z.1.q.q.t.1,z.1.q.q.t.2.1,z.2.1,z.t.1⟩) (λx=>((x.t2,(),(),(),(),x.t11,(),x.t24,x.t25,x.t30,x.t31,x.t32,()),(x.b0,x.b1,x.t8,x.t9,x.t23,()))))
def Po(p:vZ):af (af vZ):=
 bif O (p.t32<p.t31)then if 0<=p.t32/\p.t32<p.t30.length then match bif O (p.t30[p.t32.toNat]!.bw=p.t11)then I (O (p.t11=2))else I G with|S=>S|I r3=>bif r3 then if(p.t8++[p.t30[p.t32.toNat]!]).length<=1073741824 then I (I (vZ.mk p.t2 (p.t8++[p.t30[p.t32.toNat]!]) p.t9 p.t11 p.t23 p.t24 p.t25 p.t30 p.t31 (i64.wrap (p.t32+1)) p.b0 p.b1))else S else bif O (p.t30[p.t32.toNat]!.bw=p.t11)then if(p.t9++[p.t30[p.t32.toNat]!]).length<=1073741824 then I (I (vZ.mk p.t2 p.t8 (p.t9++[p.t30[p.t32.toNat]!]) p.t11 p.t23 p.t24 p.t25 p.t30 p.t31 (i64.wrap (p.t32+1)) p.b0 p.b1))else S else I (I (vZ.mk p.t2 p.t8 p.t9 p.t11 p.t23 p.t24 p.t25 p.t30 p.t31 (i64.wrap (p.t32+1)) p.b0 p.b1))else S else I (S)
def agR:An:=(noTwo (noTwo (.two (noTwo (.two (.rb [43,84] 43) .no)) .no)))
def JA:=bG (Po)
structure Iy where
 t2:List aH
 (t8 t9:List aS)
 t23:List Int
 (t24 t25:Int)
 b0:aP
 b1:cz
def XK:Td 0 Iy:= .c [] [2,3,4,8,9,23,24,25] (.t (cE.s 8 [] 131) (.t (cE.s 9 [] 131) (.c [] [2,3,4,8,9,23,24,25] (.r 0 5 (ec 2 (ql 34) (ec 3 (qp 0 0) (ec 4 (qp 1 0) (ec 8 (qo 2) (ec 9 (qo 3) (ec 23 (qo 4) (ec 24 aL (ec 25 aL en)))))))) (sb 0 26 (lg 26) (sb 1 29 (lg 29) (sr 2 131 (sr 3 131 (sr 4 129 sn))))) (λz=>⟨z.1.1,z.t.2.1,z.q.1,z.q.2.1,z.1.q.t.1,z.1.q.t.2.1,z.2.1,z.t.1⟩) (λx=>((x.t2,(),(),(),(),(),x.t24,x.t25,()),(x.b0,x.b1,x.t8,x.t9,x.t23,())))))))
def KX(p:Iy):af (af Iy):=
 bif O (p.t25<p.t24)then if 0<=p.t25/\p.t25<p.t23.length then if 129=129/\p.t25.toNat<p.t23.length then match JA (vZ.mk p.t2 p.t8 p.t9 p.t23[p.t25.toNat]! p.t23 p.t24 p.t25 p.b0.ai p.b0.ai.length 0 p.b0 p.b1)with|S=>S|I r1=>bif O (r1.t32<r1.t31)then if 0<=r1.t32/\r1.t32<r1.t30.length then match bif O (r1.t30[r1.t32.toNat]!.bw=r1.t11)then I (O (r1.t11=2))else I G with|S=>S|I r2=>bif r2 then if(r1.t8++[r1.t30[r1.t32.toNat]!]).length<=1073741824 then S else S else bif O (r1.t30[r1.t32.toNat]!.bw=r1.t11)then if(r1.t9++[r1.t30[r1.t32.toNat]!]).length<=1073741824 then S else S else S else S else I (I (Iy.mk r1.t2 r1.t8 r1.t9 r1.t23 r1.t24 (i64.wrap (r1.t25+1)) r1.b0 r1.b1))else S else S else I (S)
def af1:An:=(noTwo (noTwo (.two (noTwo (noTwo (Uq.lp JA agR))) .no)))
def Jq:=bG (KX)
abbrev E21:=Int
def d21:Td 0 E21:= .c [] [6] (.r 0 0 (ec 6 aL en) sn (λz=>z.1.1) (λx=>((x,()),(()))))
def anS:∀f∈([43,84]:aa Nat),bC (F21) f:=(aC (gK (Iu (kr bH))) (aC (gK (Iu (kr bH))) aG))
def m21(a0:aP)(a1:cz)(a2:aa aH):af E21:=
 match m78 a0 with|S=>S|I r7=>bif bif O (r7=0)then G else J then I (r7)else match Jq (Iy.mk a2 [] [] [1,3,2] (3:Int) 0 a0 a1)with|S=>S|I r8=>bif O (r8.t25<r8.t24)then if 0<=r8.t25/\r8.t25<r8.t23.length then if 129=129/\r8.t25.toNat<r8.t23.length then match JA (vZ.mk r8.t2 r8.t8 r8.t9 r8.t23[r8.t25.toNat]! r8.t23 r8.t24 r8.t25 r8.b0.ai r8.b0.ai.length 0 r8.b0 r8.b1)with|S=>S|I r9=>bif O (r9.t32<r9.t31)then if 0<=r9.t32/\r9.t32<r9.t30.length then match bif O (r9.t30[r9.t32.toNat]!.bw=r9.t11)then I (O (r9.t11=2))else I G with|S=>S|I r10=>bif r10 then if(r9.t8++[r9.t30[r9.t32.toNat]!]).length<=1073741824 then S else S else bif O (r9.t30[r9.t32.toNat]!.bw=r9.t11)then if(r9.t9++[r9.t30[r9.t32.toNat]!]).length<=1073741824 then S else S else S else S else S else S else S else bif bif O ((r8.b1.aY.length:Int)=(r8.t8.length:Int))then G else J then I 1 else match Rz (IS.mk r8.t2 r8.t9 r8.t8 r8.t8.length 0 r8.b1)with|S=>S|I r11=>bif O (r11.t66<r11.t65)then if 0<=r11.t66/\r11.t66<r11.t64.length then if 131=131/\r11.t66.toNat<r11.t64.length then if 0<=r11.t66/\r11.t66<r11.b0.aY.length then bif O (((r11.t2,(),(),(),r11.t65,r11.t66,()),r11.b0,r11.t9,r11.t64,()).snd.fst.aY[((r11.t2,(),(),(),r11.t65,r11.t66,()),r11.b0,r11.t9,r11.t64,()).fst.snd.snd.snd.snd.snd.fst.toNat]! <((r11.t2,(),(),(),r11.t65,r11.t66,()),r11.b0,r11.t9,r11.t64,()).snd.snd.snd.fst[((r11.t2,(),(),(),r11.t65,r11.t66,()),r11.b0,r11.t9,r11.t64,()).fst.snd.snd.snd.snd.snd.fst.toNat]!.ag)then I 3 else if 0<=r11.t66/\r11.t66<r11.b0.aY.length then bif O (((r11.t2,(),(),(),r11.t65,r11.t66,()),r11.b0,r11.t9,r11.t64,()).snd.snd.snd.fst[((r11.t2,(),(),(),r11.t65,r11.t66,()),r11.b0,r11.t9,r11.t64,()).fst.snd.snd.snd.snd.snd.fst.toNat]!.ah<((r11.t2,(),(),(),r11.t65,r11.t66,()),r11.b0,r11.t9,r11.t64,()).snd.fst.aY[((r11.t2,(),(),(),r11.t65,r11.t66,()),r11.b0,r11.t9,r11.t64,()).fst.snd.snd.snd.snd.snd.fst.toNat]!)then I 3 else S else S else S else S else S else bif bif O ((r11.t2.length:Int)=(r11.t9.length:Int))then G else J then I 2 else match QT (Kr.mk r11.t2 r11.t9 r11.t9.length 0)with|S=>S|I r12=>bif O (r12.t97<r12.t96)then if 0<=r12.t97/\r12.t97<r12.t95.length then if 131=131/\r12.t97.toNat<r12.t95.length then match if 0<=r12.t97/\r12.t97<r12.t2.length then match Tz r12.t2[r12.t97.toNat]! with|S=>S|I r13=>bif bif r13 then G else J then I J else if 0<=r12.t97/\r12.t97<r12.t2.length then match qy r12.t2[r12.t97.toNat]! with|S=>S|I r14=>I (O (r14=0))else S else S with|S=>S|I r15=>bif r15 then I 1 else if 0<=r12.t97/\r12.t97<r12.t2.length then bif O (r12.t2[r12.t97.toNat]!.ag<r12.t95[r12.t97.toNat]!.ag)then I 3 else if 0<=r12.t97/\r12.t97<r12.t2.length then bif O (r12.t95[r12.t97.toNat]!.ah<r12.t2[r12.t97.toNat]!.ah)then I 3 else S else S else S else S else S else I 0
def e21:=eL wJ 21 G (lc (qg 26) (lc (qg 29) (lc (ql 34) ln))) d21 (λg=>m21 g.1 g.2.1 g.t.1)
def ah9:EO e21:=λh=>kL (F:=F21) (an:=(noTwo (noTwo (noTwo (.two (noTwo (XK.lp Jq af1)) (noTwo (.two (noTwo (WR.lp Rz .no)) (noTwo (.two (noTwo (U3.lp QT aht)) .no))))))))) (l:=[(bg f21 0,(XK.lp Jq af1)),(bg f21 1,(Uq.lp JA agR)),(.skip,(.rb [43,84] 43)),(bg f21 2,(WR.lp Rz .no)),(bg f21 3,(U3.lp QT aht)),(.skip,(.rb [43,84] 115))]) func21 (rA (akH (m7 aQ))) (aC (aO XK) (aC (aO Uq) (aC anS (aC (aO WR) (aC (aO U3) (aC anS aG)))))) h
structure wQ where
 t2:List aH
 (t11 t12 t13:Int)
 t33:List aS
 (t34 t35:Int)
 b0:cz
 (b1 b2:aF)
def Um:Td 0 wQ:= .c [] [2,4,6,7,11,12,13,33,34,35] (.t (cE.c 2 0 [] 34) (.c [] [2,4,6,7,11,12,13,33,34,35] (.r 0 4 (ec 2 (ql 34) (ec 4 (qp 0 0) (ec 6 (qp 1 0) (ec 7 (qp 2 0) (ec 11 aL (ec 12 aL (ec 13 aL (ec 33 (ql 131) (ec 34 aL (ec 35 aL en)))))))))) (sb 0 29 (lg 29) (sb 1 147 (lc qn (aM (aM (aM (lc qn (aM (aM (aM ln)))))))) (sb 2 147 (lc (qo 3) (aM (aM (aM (lc qn (aM (aM (aM ln)))))))) (sr 3 34 sn)))) (λz=>⟨z.1.1,z.1.q.1,z.1.q.2.1,z.1.q.t.1,z.1.q.t.2.1,z.1.q.q.1,z.1.q.q.2.1,z.2.1,(aF.mk [] (aH.mk z.t.1.2.1 z.t.1.t.1 z.t.1.t.2.1) [] (aH.mk z.t.1.q.2.1 z.t.1.q.t.1 z.t.1.q.t.2.1)),(aF.mk z.q.1 (aH.mk z.t.2.1.2.1 z.t.2.1.t.1 z.t.2.1.t.2.1) [] (aH.mk z.t.2.1.q.2.1 z.t.2.1.q.t.1 z.t.2.1.q.t.2.1))⟩) (λx=>((x.t2,(),(),(),x.t11,x.t12,x.t13,x.t33,x.t34,x.t35,()),(x.b0,((),x.b1.aA.ag,x.b1.aA.ah,x.b1.aA.aj,(),x.b1.aD.ag,x.b1.aD.ah,x.b1.aD.aj,()),((),x.b2.aA.ag,x.b2.aA.ah,x.b2.aA.aj,(),x.b2.aD.ag,x.b2.aD.ah,x.b2.aD.aj,()),x.b2.ai,()))))))
def OV(p:wQ):af (af wQ):=
 bif O (p.t35<p.t34)then if 0<=p.t35/\p.t35<p.t33.length then bif O (p.t33[p.t35.toNat]!.bw=1)then if 0<=p.t11/\p.t11<p.t2.length then if(p.b2.ai++[p.t2[p.t11.toNat]!]).length<=1073741824 then I (I (wQ.mk p.t2 (i64.wrap (p.t11+1)) p.t12 p.t13 p.t33 p.t34 (i64.wrap (p.t35+1)) p.b0 (aF.mk [] p.b1.aA [] p.b1.aD) (aF.mk (p.b2.ai++[p.t2[p.t11.toNat]!]) p.b2.aA [] p.b2.aD)))else S else S else bif O (p.t33[p.t35.toNat]!.bw=3)then if 0<=p.t12/\p.t12<p.t2.length then if(p.b2.ai++[p.t2[p.t12.toNat]!]).length<=1073741824 then I (I (wQ.mk p.t2 p.t11 (i64.wrap (p.t12+1)) p.t13 p.t33 p.t34 (i64.wrap (p.t35+1)) p.b0 (aF.mk [] p.b1.aA [] p.b1.aD) (aF.mk (p.b2.ai++[p.t2[p.t12.toNat]!]) p.b2.aA [] p.b2.aD)))else S else S else bif O (p.t33[p.t35.toNat]!.bw=2)then if 0<=p.t13/\p.t13<p.b0.aY.length then if(p.b2.ai++[TD p.b0.aY[p.t13.toNat]!]).length<=1073741824 then I (I (wQ.mk p.t2 p.t11 p.t12 (i64.wrap (p.t13+1)) p.t33 p.t34 (i64.wrap (p.t35+1)) p.b0 (aF.mk [] p.b1.aA [] p.b1.aD) (aF.mk (p.b2.ai++[TD p.b0.aY[p.t13.toNat]!]) p.b2.aA [] p.b2.aD)))else S else S else if(p.b2.ai++[TD p.t33[p.t35.toNat]!.dM]).length<=1073741824 then I (I (wQ.mk p.t2 p.t11 p.t12 p.t13 p.t33 p.t34 (i64.wrap (p.t35+1)) p.b0 (aF.mk [] p.b1.aA [] p.b1.aD) (aF.mk (p.b2.ai++[TD p.t33[p.t35.toNat]!.dM]) p.b2.aA [] p.b2.aD)))else S else S else I (S)
def OY:=bG (OV)
structure D5 where
 t2:List aH
 t8:Int
 t19:List aS
 (t20 t21:Int)
 b0:aP
 b1:cz
 (b2 b3:aF)
def TO:Td 0 D5:= .c [] [2,3,4,6,7,8,19,20,21] (.r 0 4 (ec 2 (ql 34) (ec 3 (qp 0 0) (ec 4 (qp 1 0) (ec 6 (qp 2 0) (ec 7 (qp 3 0) (ec 8 aL (ec 19 (ql 131) (ec 20 aL (ec 21 aL en))))))))) (sb 0 26 (lg 26) (sb 1 29 (lg 29) (sb 2 147 (lc qn (aM (aM (aM (lc qn (aM (aM (aM ln)))))))) (sb 3 147 (lc qn (aM (aM (aM (lc qn (aM (aM (aM ln)))))))) sn)))) (λz=>⟨z.1.1,z.1.q.2.1,z.1.q.t.1,z.1.q.t.2.1,z.1.q.q.1,z.2.1,z.t.1,(aF.mk [] (aH.mk z.t.2.1.2.1 z.t.2.1.t.1 z.t.2.1.t.2.1) [] (aH.mk z.t.2.1.q.2.1 z.t.2.1.q.t.1 z.t.2.1.q.t.2.1)),(aF.mk [] (aH.mk z.q.1.2.1 z.q.1.t.1 z.q.1.t.2.1) [] (aH.mk z.q.1.q.2.1 z.q.1.q.t.1 z.q.1.q.t.2.1))⟩) (λx=>((x.t2,(),(),(),(),x.t8,x.t19,x.t20,x.t21,()),(x.b0,x.b1,((),x.b2.aA.ag,x.b2.aA.ah,x.b2.aA.aj,(),x.b2.aD.ag,x.b2.aD.ah,x.b2.aD.aj,()),((),x.b3.aA.ag,x.b3.aA.ah,x.b3.aA.aj,(),x.b3.aD.ag,x.b3.aD.ah,x.b3.aD.aj,()),()))))
def OG(p:D5):af (af D5):=
 bif O (p.t21<p.t20)then if 0<=p.t21/\p.t21<p.t19.length then bif O (p.t19[p.t21.toNat]!.bw=1)then I (I (D5.mk p.t2 (i64.wrap (p.t8+1)) p.t19 p.t20 (i64.wrap (p.t21+1)) p.b0 p.b1 (aF.mk [] p.b2.aA [] p.b2.aD) (aF.mk [] p.b3.aA [] p.b3.aD)))else I (I (D5.mk p.t2 p.t8 p.t19 p.t20 (i64.wrap (p.t21+1)) p.b0 p.b1 (aF.mk [] p.b2.aA [] p.b2.aD) (aF.mk [] p.b3.aA [] p.b3.aD)))else S else I (S)
def Pd:=bG (OG)
abbrev E85:=aF
def d85:Td 0 E85:= .c [] [6] (.r 0 2 (ec 6 (qp 0 0) en) (sb 0 147 (lc (qo 1) (aM (aM (aM (lc qn (aM (aM (aM ln)))))))) (sr 1 34 sn)) (λz=>(aF.mk z.t.1 (aH.mk z.2.1.2.1 z.2.1.t.1 z.2.1.t.2.1) [] (aH.mk z.2.1.q.2.1 z.2.1.q.t.1 z.2.1.q.t.2.1))) (λx=>(((),()),(((),x.aA.ag,x.aA.ah,x.aA.aj,(),x.aD.ag,x.aD.ah,x.aD.aj,()),x.ai,()))))
def m85(a0:aP)(a1:cz)(a2:aa aH):af E85:=
 match Pd (D5.mk a2 0 a0.ai a0.ai.length 0 a0 a1 (aF.mk [] (aH.mk 0 0 0) [] (aH.mk 0 0 0)) (aF.mk [] (aH.mk 0 0 0) [] (aH.mk 0 0 0)))with|S=>S|I r1=>bif O (r1.t21<r1.t20)then if 0<=r1.t21/\r1.t21<r1.t19.length then bif O (r1.t19[r1.t21.toNat]!.bw=1)then S else S else S else match OY (wQ.mk r1.t2 0 r1.t8 0 r1.b0.ai r1.b0.ai.length 0 r1.b1 (aF.mk [] r1.b2.aA [] r1.b2.aD) (aF.mk [] r1.b3.aA [] r1.b3.aD))with|S=>S|I r2=>bif O (r2.t35<r2.t34)then if 0<=r2.t35/\r2.t35<r2.t33.length then bif O (r2.t33[r2.t35.toNat]!.bw=1)then if 0<=r2.t11/\r2.t11<r2.t2.length then if(r2.b2.ai++[r2.t2[r2.t11.toNat]!]).length<=1073741824 then S else S else S else bif O (r2.t33[r2.t35.toNat]!.bw=3)then if 0<=r2.t12/\r2.t12<r2.t2.length then if(r2.b2.ai++[r2.t2[r2.t12.toNat]!]).length<=1073741824 then S else S else S else bif O (r2.t33[r2.t35.toNat]!.bw=2)then if 0<=r2.t13/\r2.t13<r2.b0.aY.length then if(r2.b2.ai++[TD r2.b0.aY[r2.t13.toNat]!]).length<=1073741824 then S else S else S else if(r2.b2.ai++[TD r2.t33[r2.t35.toNat]!.dM]).length<=1073741824 then S else S else S else I (aF.mk r2.b2.ai r2.b2.aA [] r2.b2.aD)
def e85:=eL wJ 85 G (lc (qg 26) (lc (qg 29) (lc (ql 34) ln))) d85 (λg=>m85 g.1 g.2.1 g.t.1)
def ajZ:EO e85:=λh=>kL (an:=(noTwo (noTwo (noTwo (.two (noTwo (TO.lp Pd .no)) (noTwo (.two (noTwo (Um.lp OY .no)) .no))))))) (l:=[(bg f85 0,(TO.lp Pd .no)),(bg f85 1,(Um.lp OY .no))]) func85 (H8 aQ) (aC (aO TO) (aC (aO Um) aG)) h
def F23:aW:=(e88 (e87 (e86 (e85 (e36 cZ)))))
def akN:aV wJ F23:=(alb (Ms (NY (ajZ (H8 aQ)))))
structure K1 where
 t8:List aH
 t18:List cV
 (t19 t20:Int)
 b0:aP
 b1:cz
 b2:bE
 b3:aF
def Vb:Td 0 K1:= .c [] [3,4,6,7,8,18,19,20] (.t (cE.s 8 [] 34) (.c [] [3,4,6,7,8,18,19,20] (.r 0 6 (ec 3 (qp 0 0) (ec 4 (qp 1 0) (ec 6 (qp 2 0) (ec 7 (qp 3 0) (ec 8 (qo 4) (ec 18 (ql 139) (ec 19 aL (ec 20 aL en)))))))) (sb 0 26 (lg 26) (sb 1 29 (lg 29) (sb 2 36 (aM (aM (aM (lc qn (aM (aM (aM (lc qn ln)))))))) (sb 3 147 (lc (qo 5) (aM (aM (aM (lc qn (aM (aM (aM ln)))))))) (sr 4 34 (sr 5 34 sn)))))) (λz=>⟨z.q.2.1,z.1.q.2.1,z.1.q.t.1,z.1.q.t.2.1,z.2.1,z.t.1,(bE.mk (aH.mk z.t.2.1.1 z.t.2.1.2.1 z.t.2.1.t.1) [] (aH.mk z.t.2.1.q.1 z.t.2.1.q.2.1 z.t.2.1.q.t.1) []),(aF.mk z.q.t.1 (aH.mk z.q.1.2.1 z.q.1.t.1 z.q.1.t.2.1) [] (aH.mk z.q.1.q.2.1 z.q.1.q.t.1 z.q.1.q.t.2.1))⟩) (λx=>(((),(),(),(),(),x.t18,x.t19,x.t20,()),(x.b0,x.b1,(x.b2.aA.ag,x.b2.aA.ah,x.b2.aA.aj,(),x.b2.aD.ag,x.b2.aD.ah,x.b2.aD.aj,(),()),((),x.b3.aA.ag,x.b3.aA.ah,x.b3.aA.aj,(),x.b3.aD.ag,x.b3.aD.ah,x.b3.aD.aj,()),x.t8,x.b3.ai,()))))))
def Ov(p:K1):af (af K1):=
 bif O (p.t20<p.t19)then if 0<=p.t20/\p.t20<p.t18.length then match Lc (aF.mk p.b3.ai p.b3.aA [] p.b3.aD) (ax.mk p.t18[p.t20.toNat]!.aB.bt p.t18[p.t20.toNat]!.aB.fN p.t18[p.t20.toNat]!.aB.aq)with|S=>S|I r1=>match X5 r1 p.t18[p.t20.toNat]!.ag p.t18[p.t20.toNat]!.ah with|S=>S|I r2=>if(p.t8++[r2.fst]).length<=1073741824 then I (I (K1.mk (p.t8++[r2.fst]) p.t18 p.t19 (i64.wrap (p.t20+1)) p.b0 p.b1 (bE.mk p.b2.aA [] p.b2.aD []) (aF.mk p.b3.ai p.b3.aA [] p.b3.aD)))else S else S else I (S)
def Kj:=bG (Ov)
abbrev E23:=bE
def d23:Td 0 E23:= .c [] [6] (.r 0 1 (ec 6 (qp 0 0) en) (sb 0 36 (lg 36) sn) (λz=>z.2.1) (λx=>(((),()),(x,()))))
def A23:=(lc (qg 26) (lc (qg 29) (lc (ql 34) ln)))
def aoM:An:=(noTwo (noTwo (noTwo (.two (noTwo (Vb.lp Kj .no)) .no))))
def axU:dB wJ (F23) 0 300 23 (aoM):=bO (l:=[(bg f23 0,(Vb.lp Kj .no))]) func23 (bq (by kernel_rfl)) (by kernel_rfl) (aC (aO Vb) aG)
def Y8(a0:aP)(a1:cz)(a2:aa aH):af E23:=
 match m85 a0 a1 a2 with|S=>S|I r3=>match Kj (K1.mk [] a0.ak a0.ak.length 0 a0 a1 (bE.mk (aH.mk 0 0 0) [] (aH.mk 0 0 0) []) (aF.mk r3.ai r3.aA [] r3.aD))with|S=>S|I r4=>bif O (r4.t20<r4.t19)then if 0<=r4.t20/\r4.t20<r4.t18.length then match Lc (aF.mk r4.b3.ai r4.b3.aA [] r4.b3.aD) (ax.mk r4.t18[r4.t20.toNat]!.aB.bt r4.t18[r4.t20.toNat]!.aB.fN r4.t18[r4.t20.toNat]!.aB.aq)with|S=>S|I r5=>match X5 r5 r4.t18[r4.t20.toNat]!.ag r4.t18[r4.t20.toNat]!.ah with|S=>S|I r6=>if(r4.t8++[r6.fst]).length<=1073741824 then S else S else S else match r88 r4.b0 r4.t8 r4.b0.bK (aF.mk r4.b3.ai r4.b3.aA [] r4.b3.aD)with|S=>S|I r7=>bif bif r4.b1.n9 then G else J then I (bE.mk r7.aA r7.az (TD 0) r7.ai)else I (bE.mk r7.aA r7.az r7.aD r7.ai)
def c23(a0:aP)(a1:cz)(a2:aa aH):bQ wJ (F23) 300 (aoM) 23 (A23.c (a0,a1,a2,())) [] 0 d23.rd=Y8 a0 a1 a2:=by kernel_rfl
def e23:aW->aW:=eZ wJ 23 A23 d23 (λg=>Y8 g.1 g.2.1 g.t.1)
def U4{F:aW}(h:aV wJ F):aV wJ (e23 F):=od (cS akN axU (λ_=>by kernel_rfl) (λ_=>by kernel_rfl) λg=>c23 g.1 g.2.1 g.t.1) ⟨_,func23,by kernel_rfl,by kernel_rfl⟩ (λ_=>by kernel_rfl) h
def Up{F:aW}{f:Nat}(hne:zg f 23=G)(h:bC F f):bC (e23 F) f:=JS hne h
def F37:aW:=(e43 (e23 cZ))
def amq:aV wJ F37:=(m7 (U4 aQ))
structure IW where
 t10:Bool
 t32:List aH
 (t33 t34:Int)
 (b0 b1:aZ)
def Vh:Td 0 IW:= .c [] [6,9,10,32,33,34] (.t (cE.c 1 0 [] 3) (.c [] [6,9,10,32,33,34] (.r 0 3 (ec 6 (qp 0 0) (ec 9 (qp 1 0) (ec 10 qb (ec 32 (ql 34) (ec 33 aL (ec 34 aL en)))))) (sb 0 47 (lc qn (aM ln)) (sb 1 47 (lc (qo 2) (aM ln)) (sr 2 3 sn))) (λz=>⟨z.1.t.1,z.1.t.2.1,z.1.q.1,z.1.q.2.1,(aZ.mk [] z.2.1.2.1),(aZ.mk z.t.2.1 z.t.1.2.1)⟩) (λx=>(((),(),x.t10,x.t32,x.t33,x.t34,()),(((),x.b0.aD,()),((),x.b1.aD,()),x.b1.bk,()))))))
def QZ(p:IW):af (af IW):=
 bif O (p.t34<p.t33)then if 0<=p.t34/\p.t34<p.t32.length then match bif p.t10 then match qy p.t32[p.t34.toNat]! with|S=>S|I r1=>I (O (r1=1))else I G with|S=>S|I r2=>if(p.b1.bk++[p.t32[p.t34.toNat]!.ag]).length<=1073741824 then I (I (IW.mk r2 p.t32 p.t33 (i64.wrap (p.t34+1)) (aZ.mk [] p.b0.aD) (aZ.mk (p.b1.bk++[p.t32[p.t34.toNat]!.ag]) p.b1.aD)))else S else S else I (S)
def ahB:An:=(noTwo (noTwo (.two (noTwo (.two (.rb [43] 10) .no)) .no)))
def PR:=bG (QZ)
abbrev E37:=aZ×Bool
def d37:Td 0 E37:= .c [] [6,7] (.t (cE.c 0 0 [] 3) (.c [] [6,7] (.r 0 2 (ec 6 (qp 0 0) (ec 7 qb en)) (sb 0 47 (lc (qo 1) (aM ln)) (sr 1 3 sn)) (λz=>((aZ.mk z.t.1 z.2.1.2.1),z.1.2.1)) (λx=>(((),x.2,()),(((),x.1.aD,()),x.1.bk,()))))))
def A37:=(lc (qg 26) (lc (qg 29) (lc (ql 34) ln)))
def an3:An:=(noTwo (noTwo (noTwo (.two (.rb [43] 10) (.two (noTwo (Vh.lp PR ahB)) .no)))))
def aup:∀f∈([43]:aa Nat),bC (F37) f:=(aC (kr (Up (f:=43) rfl bH)) aG)
def ayx:dB wJ (F37) 0 300 37 (an3):=bO (l:=[(.skip,(.rb [43] 10)),(bg f37 0,(Vh.lp PR ahB)),(.skip,(.rb [43] 10))]) func37 (bq (by kernel_rfl)) (by kernel_rfl) (aC aup (aC (aO Vh) (aC aup aG)))
def m37(a0:aP)(a1:cz)(a2:aa aH):af E37:=
 match Y8 a0 a1 a2 with|S=>S|I r3=>match match qy r3.aA with|S=>S|I r4=>bif O (r4=1)then match qy r3.aD with|S=>S|I r5=>I (O (r5=1))else I G with|S=>S|I r6=>match PR (IW.mk r6 r3.az r3.az.length 0 (aZ.mk [] (0)) (aZ.mk [] r3.aD.ag))with|S=>S|I r7=>bif O (r7.t34<r7.t33)then if 0<=r7.t34/\r7.t34<r7.t32.length then match bif r7.t10 then match qy r7.t32[r7.t34.toNat]! with|S=>S|I r8=>I (O (r8=1))else I G with|S=>S|I r9=>if(r7.b1.bk++[r7.t32[r7.t34.toNat]!.ag]).length<=1073741824 then S else S else S else bif bif r7.t10 then G else J then I ((aZ.mk [] (0),G))else I (r7.b1,J)
def c37(a0:aP)(a1:cz)(a2:aa aH):bQ wJ (F37) 300 (an3) 37 (A37.c (a0,a1,a2,())) [] 0 d37.rd=m37 a0 a1 a2:=by kernel_rfl
def e37:=eL wJ 37 G A37 d37 (λg=>m37 g.1 g.2.1 g.t.1)
structure Dg where
 t3:Int
 t6:List aH
 (t7 t8:Int)
def LC:Td 0 Dg:= .c [] [3,6,7,8] (.r 0 0 (ec 3 aL (ec 6 (ql 34) (ec 7 aL (ec 8 aL en)))) sn (λz=>⟨z.1.1,z.1.2.1,z.1.t.1,z.1.t.2.1⟩) (λx=>((x.t3,x.t6,x.t7,x.t8,()),(()))))
def Hy(p:Dg):af (af Dg):=
 bif O (p.t8<p.t7)then if 0<=p.t8/\p.t8<p.t6.length then match qy p.t6[p.t8.toNat]! with|S=>S|I r1=>I (I (Dg.mk (i64.wrap (p.t3*r1)) p.t6 p.t7 (i64.wrap (p.t8+1))))else S else I (S)
def GO:=bG (Hy)
abbrev ar0:=Int
def d100:Td 0 ar0:= .c [] [2] (.r 0 0 (ec 2 aL en) sn (λz=>z.1.1) (λx=>((x,()),(()))))
def Yl(a0:aa aH):af ar0:=
 match GO (Dg.mk 1 a0 a0.length 0)with|S=>S|I r2=>bif O (r2.t8<r2.t7)then if 0<=r2.t8/\r2.t8<r2.t6.length then match qy r2.t6[r2.t8.toNat]! with|S=>S|I r3=>S else S else I (r2.t3)
def avn:=eL wJ 100 G (lc (ql 34) ln) d100 (λg=>Yl g.1)
def abl:EO avn:=λh=>kL (an:=(noTwo (noTwo (.two (noTwo (LC.lp GO .no)) .no)))) (l:=[(bg f100 0,(LC.lp GO .no))]) func100 (m7 aQ) (aC (aO LC) aG) h
structure vQ where
 (t8 t9 t10 t11:Int)
 b0:bE
def VB:Td 0 vQ:= .c [] [7,8,9,10,11] (.r 0 1 (ec 7 (qp 0 0) (ec 8 aL (ec 9 aL (ec 10 aL (ec 11 aL en))))) (sb 0 36 (lg 36) sn) (λz=>⟨z.1.2.1,z.1.t.1,z.1.t.2.1,z.1.q.1,z.2.1⟩) (λx=>(((),x.t8,x.t9,x.t10,x.t11,()),(x.b0,()))))
def Pp(p:vQ):af (af vQ):=
 bif O (p.t11<=p.b0.az.length)then match m32 p.b0.aA p.t11 with|S=>S|I r1=>bif r1 then bif O (p.t11<p.b0.az.length)then if 0<=p.t11/\p.t11<p.b0.az.length then match qy p.b0.az[p.t11.toNat]! with|S=>S|I r2=>I (I (vQ.mk p.t8 (if p.t8<i64.wrap (p.t9+p.t10)then p.t8 else i64.wrap (p.t9+p.t10)) (if p.t8<i64.wrap (p.t10*if p.t8<r2 then p.t8 else r2)then p.t8 else i64.wrap (p.t10*if p.t8<r2 then p.t8 else r2)) (i64.wrap (p.t11+1)) p.b0))else S else I (I (vQ.mk p.t8 (if p.t8<i64.wrap (p.t9+p.t10)then p.t8 else i64.wrap (p.t9+p.t10)) p.t10 (i64.wrap (p.t11+1)) p.b0))else bif O (p.t11<p.b0.az.length)then if 0<=p.t11/\p.t11<p.b0.az.length then match qy p.b0.az[p.t11.toNat]! with|S=>S|I r3=>I (I (vQ.mk p.t8 p.t9 (if p.t8<i64.wrap (p.t10*if p.t8<r3 then p.t8 else r3)then p.t8 else i64.wrap (p.t10*if p.t8<r3 then p.t8 else r3)) (i64.wrap (p.t11+1)) p.b0))else S else I (I (vQ.mk p.t8 p.t9 p.t10 (i64.wrap (p.t11+1)) p.b0))else I (S)
def Rt:=bG (Pp)
abbrev E38:=Int
def d38:Td 0 E38:= .c [] [6] (.r 0 0 (ec 6 aL en) sn (λz=>z.1.1) (λx=>((x,()),(()))))
def m38(a0:aP)(a1:cz)(a2:aa aH):af E38:=
 match Y8 a0 a1 a2 with|S=>S|I r4=>match Yl a2 with|S=>S|I r5=>match qy r4.aD with|S=>S|I r6=>match Rt (vQ.mk (if 1099511627776<r5 then 1099511627776 else r5) 0 (if(if 1099511627776<r5 then 1099511627776 else r5)<r6 then if 1099511627776<r5 then 1099511627776 else r5 else r6) 0 r4)with|S=>S|I r7=>bif O (r7.t11<=r7.b0.az.length)then match m32 r7.b0.aA r7.t11 with|S=>S|I r8=>bif r8 then bif O (r7.t11<r7.b0.az.length)then if 0<=r7.t11/\r7.t11<r7.b0.az.length then match qy r7.b0.az[r7.t11.toNat]! with|S=>S|I r9=>S else S else S else bif O (r7.t11<r7.b0.az.length)then if 0<=r7.t11/\r7.t11<r7.b0.az.length then match qy r7.b0.az[r7.t11.toNat]! with|S=>S|I r10=>S else S else S else I (r7.t9)
def e38:=eL wJ 38 G (lc (qg 26) (lc (qg 29) (lc (ql 34) ln))) d38 (λg=>m38 g.1 g.2.1 g.t.1)
def VQ:EO e38:=λh=>kL (an:=(noTwo (noTwo (noTwo (noTwo (noTwo (.two (noTwo (VB.lp Rt .no)) .no))))))) (l:=[(bg f38 0,(VB.lp Rt .no))]) func38 (abl (m7 (BN (U4 aQ)))) (aC (aO VB) aG) h
def SK(a:aH):Int:=open Classical in if NV a then bU a else 0
def OC(a:aH):HX a=I (SK a):=by
 unfold SK;by_cases h:NV a
 ·rw[bD h,o4 h]
 ·rw[bL h,adx h]
def Qy(a:aH):qy a=I (SK a):=by
 unfold SK;by_cases h:NV a
 ·rw[bD h,dL h]
 ·rw[bL h,aae h]
def iL(pub:aa Int)(i:Nat)(x:aS):Int:=bif O (pub[i]! <x.ag)then 3 else bif O (x.ah<pub[i]!)then 3 else 0
def mB(box:aa aH)(i:Nat)(x:aS):Int:=bif bif SV box[i]! then G else J then 1 else bif O (@Eq Int (SK box[i]!) 0)then 1 else bif O (box[i]!.ag<x.ag)then 3 else bif O (x.ah<box[i]!.ah)then 3 else 0
def dQ(vars:aa aS):aa aS:=vars.filter (kd 1)++vars.filter (kd 3)
def tH(f:aP)(v:cz)(box:aa aH):Int:=
 if qL f≠0 then qL f else if v.aY.length≠(f.ai.filter (kd 2)).length then 1 else if b9 (iL v.aY) (f.ai.filter (kd 2)) 0≠0 then b9 (iL v.aY) (f.ai.filter (kd 2)) 0
 else if box.length≠(dQ f.ai).length then 2 else b9 (mB box) (dQ f.ai) 0
def uM{vars:aa aS}{i:Nat}(h:i<vars.length)(k:Int):(vars.take (i+1)).filter (kd k)=(vars.take i).filter (kd k)++(if vars[i]!.bw=k then[vars[i]!]else[]):=by
 rw[bM h,xE];by_cases hk:vars[i]!.bw=k
 ·rw[bD hk];simp only[yY,wo,kd,hk,cR,cD]
 ·rw[bL hk];simp only[yY,wo,kd,hk,fS,yO,ek]
def BL{vars:aa aS}(k:Int)(i:Nat):((vars.take i).filter (kd k)).length<=i:=jO vars k i
def WB(f:aP)(hl:f.ai.length<=1000000)(v:cz)(box:aa aH):OT ⟨box,[],f.ai,(f.ai.length:Int),0,f,v⟩=I ⟨box,f.ai.filter (kd 2),f.ai,(f.ai.length:Int),(f.ai.length:Int),f,v⟩:=by
 obtain⟨b,e1,hI⟩:=cO (rnd:=Pr) f.ai.length (λi (b:aa aS)=>⟨box,b,f.ai,(f.ai.length:Int),(i:Int),f,v⟩) (λi b=>b=(f.ai.take i).filter (kd 2)) (λi b hi hb=>by
  have hw:=fD hi hl;have i1:(i:Int)<(f.ai.length:Int):=by omega
  have i2:(0:Int)<=(i:Int):=by omega
  have hlen:b.length<=i:=by rw[hb];exact BL 2 i
  have hl2:∀x:aS,(b++[x]).length<=1073741824:=λx=>by simp;omega
  refine⟨_,?_,rfl⟩;rw[uM hi,<-hb];unfold Pr;by_cases hk:f.ai[i]!.bw=2
  ·simp only[zf,i1,i2,hk,hl2,hw,cR,bB,dG,cD]
  ·simp only[zf,i1,i2,hk,hw,cR,fS,bB,bz,dG,cD,ek,yp]) (λb _=>by unfold Pr;simp) (b:=[]) (by simp)
 rw[zI]at hI;rw[<-hI];exact e1
def J0(f:aP)(hl:f.ai.length<=1000000)(v:cz)(box:aa aH)(t8 acc:aa aS)(ha:acc.length<=1000000)(k:Int)(ks:aa Int)(n j:Int):
  EF ⟨box,t8,acc,k,ks,n,j,f.ai,(f.ai.length:Int),0,f,v⟩=I ⟨box,t8,acc++f.ai.filter (kd k),k,ks,n,j,f.ai,(f.ai.length:Int),(f.ai.length:Int),f,v⟩:=by
 obtain⟨b,e1,hI⟩:=cO (rnd:=Ry) f.ai.length (λi (b:aa aS)=>⟨box,t8,acc++b,k,ks,n,j,f.ai,(f.ai.length:Int),(i:Int),f,v⟩) (λi b=>b=(f.ai.take i).filter (kd k)) (λi b hi hb=>by
  have hw:=fD hi hl;have i1:(i:Int)<(f.ai.length:Int):=by omega
  have i2:(0:Int)<=(i:Int):=by omega
  have hlen:b.length<=i:=by rw[hb];exact BL k i
  have hl2:∀x:aS,(acc++(b++[x])).length<=1073741824:=λx=>by simp;omega
  refine⟨_,?_,rfl⟩;rw[uM hi,<-hb];unfold Ry;by_cases hk:f.ai[i]!.bw=k
  ·simp only[zf,i1,i2,hk,hl2,hw,cR,bB,dG,cD,yQ]
  ·simp only[zf,i1,i2,hk,hw,cR,fS,bB,bz,dG,cD,ek,yp]) (λb _=>by unfold Ry;simp) (b:=[]) (by simp)
 rw[zI]at hI;have e1':EF ⟨box,t8,acc,k,ks,n,j,f.ai,(f.ai.length:Int),0,f,v⟩=I ⟨box,t8,acc++b,k,ks,n,j,f.ai,(f.ai.length:Int),(f.ai.length:Int),f,v⟩:=by
  have:=e1;rw[yp]at this;exact this
 rw[<-hI];exact e1'
def Xd(f:aP)(hl:f.ai.length<=1000)(v:cz)(box:aa aH)(t8:aa aS):
  KT ⟨box,t8,[],[1,3],2,0,f,v⟩=I ⟨box,t8,dQ f.ai,[1,3],2,2,f,v⟩:=by
 have h1:(f.ai.filter (kd 1)).length<=1000:=zH (yN _ _) hl;have e1:=J0 f (by omega) v box t8 [] (by simp) 1 [1,3] 2 0;have e2:=J0 f (by omega) v box t8 (f.ai.filter (kd 1)) (by omega) 3 [1,3] 2 1;rw[yg]at e1;have w1:i64.wrap ((0:Int)+1)=1:=by decide
 have w2:i64.wrap ((1:Int)+1)=2:=by decide
 unfold KT dQ;rw[bP (p':=⟨box,t8,f.ai.filter (kd 1),[1,3],2,1,f,v⟩)]
 ·rw[bP (p':=⟨box,t8,f.ai.filter (kd 1)++f.ai.filter (kd 3),[1,3],2,2,f,v⟩)]
  ·exact cu (λr=>by unfold On;simp)
  ·unfold On;dsimp only;rw[bV (by decide),bB,bD (by decide),bD (by decide)];rw[show ([1,3]:aa Int)[yM 1]! =3 from rfl,e2];dsimp only;rw[eH,bz,w2]
 ·unfold On;dsimp only;rw[bV (by decide),bB,bD (by decide),bD (by decide)];rw[show ([1,3]:aa Int)[yM 0]! =1 from rfl,e1];dsimp only;rw[eH,bz,w1]
def aaa(L:aa aS)(hl:L.length<=1000000)(v:cz)(hv:v.aY.length=L.length)(box:aa aH)(t9:aa aS):
  ∃i,PY ⟨box,t9,L,(L.length:Int),0,v⟩=I ⟨box,t9,L,(L.length:Int),(i:Nat),v⟩/\((i=L.length/\b9 (iL v.aY) L 0=0)\/(i<L.length/\iL v.aY i L[i]!≠0/\b9 (iL v.aY) L 0=iL v.aY i L[i]!)):=
 qJ (rnd:=KA) L (λi=>⟨box,t9,L,(L.length:Int),(i:Nat),v⟩) (iL v.aY) (λi hi=>by
  have hw:=fD hi hl;have i1:(i:Int)<(L.length:Int):=by omega
  have i2:(0:Int)<=(i:Int):=by omega
  have i3:(i:Int)<(v.aY.length:Int):=by omega
  have key:KA ⟨box,t9,L,(L.length:Int),(i:Nat),v⟩=if iL v.aY i L[i]! =0 then I (I ⟨box,t9,L,(L.length:Int),((i+1:Nat):Int),v⟩)else I S:=by
   unfold KA iL;simp only[zf,i1,i2,i3,hi,hw,cR,bB,dG,cD];cases O (v.aY[i]! <L[i]!.ag)<;>cases O (L[i]!.ah<v.aY[i]!)<;>simp
  exact⟨λh=>by rw[key,bD h],λh=>by rw[key,bL h]⟩) (by unfold KA;simp)
def Zb(L:aa aS)(hl:L.length<=1000000)(box:aa aH)(hv:box.length=L.length):
  ∃i,OS ⟨box,L,(L.length:Int),0⟩=I ⟨box,L,(L.length:Int),(i:Nat)⟩/\((i=L.length/\b9 (mB box) L 0=0)\/(i<L.length/\mB box i L[i]!≠0/\b9 (mB box) L 0=mB box i L[i]!)):=
 qJ (rnd:=Io) L (λi=>⟨box,L,(L.length:Int),(i:Nat)⟩) (mB box) (λi hi=>by
  have hw:=fD hi hl;have i1:(i:Int)<(L.length:Int):=by omega
  have i2:(0:Int)<=(i:Int):=by omega
  have i3:(i:Int)<(box.length:Int):=by omega
  have key:Io ⟨box,L,(L.length:Int),(i:Nat)⟩=if mB box i L[i]! =0 then I (I ⟨box,L,(L.length:Int),((i+1:Nat):Int)⟩)else I S:=by
   unfold Io mB;simp only[zf,i1,i2,i3,hi,hw,cR,bB,dG,cD,dX,OC];cases SV box[i]! <;>cases O (@Eq Int (SK box[i]!) 0)<;>cases O (box[i]!.ag<L[i]!.ag)<;>cases O (L[i]!.ah<box[i]!.ah)<;>simp
  exact⟨λh=>by rw[key,bD h],λh=>by rw[key,bL h]⟩) (by unfold Io;simp)
def aqv{f:aP}(h:eW f.bK+iR (f.ak.map (·.aB))<=900)(hh:f.ak.length<=1000)(hl:f.ai.length<=1000)(v:cz)(box:aa aH):m79 f v box=I (tH f v box):=by
 have l2:(f.ai.filter (kd 2)).length<=1000:=zH (yN _ _) hl;have l3:(dQ f.ai).length<=2000:=by
  have a1:(f.ai.filter (kd 1)).length<=1000:=zH (yN _ _) hl;have a3:(f.ai.filter (kd 3)).length<=1000:=zH (yN _ _) hl;unfold dQ;rw[zl];omega
 unfold m79 tH;rw[QV f h (by omega) (by omega)];dsimp only;by_cases hc:qL f=0
 case neg=>rw[bT hc,bD hc];rfl
 rw[bV hc,bL (by simpa using hc)];simp only[bB,bz];rw[WB f (by omega)];dsimp only;rw[eH,bz];rw[Xd f hl];dsimp only;rw[eH,bz];by_cases hp:v.aY.length=(f.ai.filter (kd 2)).length
 case neg=>rw[eH,bD hp];rfl
 rw[mg,bL (by simpa using hp)];simp only[bB,bz];obtain⟨i,e3,k3⟩:=aaa (f.ai.filter (kd 2)) (by omega) v hp box (dQ f.ai);rw[e3];dsimp only;rcases k3 with ⟨rfl,k3⟩|⟨i1,i2,i3⟩
 case inr=>
  rw[bD (show b9 (iL v.aY) (f.ai.filter (kd 2)) 0≠0 by rw[i3];exact i2),i3];have j1:(i:Int)<((f.ai.filter (kd 2)).length:Int):=by omega
  have j2:(0:Int)<=(i:Int):=by omega
  have j3:(i:Int)<(v.aY.length:Int):=by omega
  simp only[zf,j1,j2,j3,i1,cR,bB,dG,cD];revert i2;unfold iL;cases O (v.aY[i]! <(f.ai.filter (kd 2))[i]!.ag)<;>cases O ((f.ai.filter (kd 2))[i]!.ah<v.aY[i]!)<;>simp
 rw[eH,bz,bL (show ¬b9 (iL v.aY) (f.ai.filter (kd 2)) 0≠0 by rw[k3];simp)];by_cases hb:box.length=(dQ f.ai).length
 case neg=>rw[eH,bD hb];rfl
 rw[mg,bL (by simpa using hb)];simp only[bB,bz];obtain⟨i,e4,k4⟩:=Zb (dQ f.ai) (by omega) box hb;rw[e4];dsimp only;rcases k4 with ⟨rfl,k4⟩|⟨i1,i2,i3⟩
 ·rw[eH,bz,k4]
 ·rw[i3];have j1:(i:Int)<((dQ f.ai).length:Int):=by omega
  have j2:(0:Int)<=(i:Int):=by omega
  have j3:(i:Int)<(box.length:Int):=by omega
  simp only[zf,j1,j2,j3,i1,cR,bB,dG,cD,dX,OC];revert i2;unfold mB;cases SV box[i]! <;>cases O (@Eq Int (SK box[i]!) 0)<;>cases O (box[i]!.ag<(dQ f.ai)[i]!.ag)<;>cases O ((dQ f.ai)[i]!.ah<box[i]!.ah)<;>simp
def Cw(f:aP)(hl:f.ai.length<=1000000)(v:cz)(box:aa aH)(t8 t9:aa aS)(h8:t8.length<=1000000)(h9:t9.length<=1000000)(k:Int)(ks:aa Int)(n j:Int):
  JA ⟨box,t8,t9,k,ks,n,j,f.ai,(f.ai.length:Int),0,f,v⟩=I ⟨box,if k=2 then t8++f.ai.filter (kd k)else t8,if k=2 then t9 else t9++f.ai.filter (kd k),k,ks,n,j,f.ai,(f.ai.length:Int),(f.ai.length:Int),f,v⟩:=by
 obtain⟨b,e1,hI⟩:=cO (rnd:=Po) f.ai.length (λi (b:aa aS)=>⟨box,if k=2 then t8++b else t8,if k=2 then t9 else t9++b,k,ks,n,j,f.ai,(f.ai.length:Int),(i:Int),f,v⟩) (λi b=>b=(f.ai.take i).filter (kd k)) (λi b hi hb=>by
  have hw:=fD hi hl;have i1:(i:Int)<(f.ai.length:Int):=by omega
  have i2:(0:Int)<=(i:Int):=by omega
  have hlen:b.length<=i:=by rw[hb];exact BL k i
  have hl2:∀x:aS,(t8++(b++[x])).length<=1073741824:=λx=>by simp;omega
  have hl3:∀x:aS,(t9++(b++[x])).length<=1073741824:=λx=>by simp;omega
  refine⟨_,?_,rfl⟩;rw[uM hi,<-hb];unfold Po;by_cases hk:f.ai[i]!.bw=k
  ·by_cases h2:k=2
   ·simp only[zf,i1,i2,hk,h2,hl2,hw,cR,bB,dG,cD,yQ]
   ·simp only[zf,i1,i2,hk,h2,hl3,hw,cR,fS,bB,bz,dG,cD,ek,yQ]
  ·simp only[zf,i1,i2,hk,hw,cR,fS,bB,bz,dG,cD,ek,yp]) (λb _=>by unfold Po;simp) (b:=[]) (by simp)
 rw[zI]at hI;rw[<-hI];have e1':=e1;rw[yp,yp,ite_self,ite_self]at e1';exact e1'
def Ud(f:aP)(hl:f.ai.length<=1000)(v:cz)(box:aa aH):
  Jq ⟨box,[],[],[1,3,2],3,0,f,v⟩=I ⟨box,f.ai.filter (kd 2),dQ f.ai,[1,3,2],3,3,f,v⟩:=by
 have h1:(f.ai.filter (kd 1)).length<=1000:=zH (yN _ _) hl;have h3:(f.ai.filter (kd 3)).length<=1000:=zH (yN _ _) hl;have e1:=Cw f (by omega) v box [] [] (by simp) (by simp) 1 [1,3,2] 3 0;have e2:=Cw f (by omega) v box [] (f.ai.filter (kd 1)) (by simp) (by omega) 3 [1,3,2] 3 1;have e3:=Cw f (by omega) v box [] (dQ f.ai) (by simp) (by unfold dQ;rw[zl];omega) 2 [1,3,2] 3 2;simp only[yg,Int.reduceEq,ek,cD]at e1 e2 e3;have w1:i64.wrap ((0:Int)+1)=1:=by decide
 have w2:i64.wrap ((1:Int)+1)=2:=by decide
 have w3:i64.wrap ((2:Int)+1)=3:=by decide
 unfold Jq;rw[bP (p':=⟨box,[],f.ai.filter (kd 1),[1,3,2],3,1,f,v⟩)]
 ·rw[bP (p':=⟨box,[],dQ f.ai,[1,3,2],3,2,f,v⟩)]
  ·rw[bP (p':=⟨box,f.ai.filter (kd 2),dQ f.ai,[1,3,2],3,3,f,v⟩)]
   ·exact cu (λr=>by unfold KX;simp)
   ·unfold KX;dsimp only;rw[bV (by decide),bB,bD (by decide),bD (by decide)];rw[show ([1,3,2]:aa Int)[yM 2]! =2 from rfl,e3];dsimp only;rw[eH,bz,w3]
  ·unfold KX;dsimp only;rw[bV (by decide),bB,bD (by decide),bD (by decide)];rw[show ([1,3,2]:aa Int)[yM 1]! =3 from rfl,e2];dsimp only;rw[eH,bz,w2];rfl
 ·unfold KX;dsimp only;rw[bV (by decide),bB,bD (by decide),bD (by decide)];rw[show ([1,3,2]:aa Int)[yM 0]! =1 from rfl,e1];dsimp only;rw[eH,bz,w1]
def adJ(L:aa aS)(hl:L.length<=1000000)(v:cz)(hv:v.aY.length=L.length)(box:aa aH)(t9:aa aS):
  ∃i,Rz ⟨box,t9,L,(L.length:Int),0,v⟩=I ⟨box,t9,L,(L.length:Int),(i:Nat),v⟩/\((i=L.length/\b9 (iL v.aY) L 0=0)\/(i<L.length/\iL v.aY i L[i]!≠0/\b9 (iL v.aY) L 0=iL v.aY i L[i]!)):=
 qJ (rnd:=I0) L (λi=>⟨box,t9,L,(L.length:Int),(i:Nat),v⟩) (iL v.aY) (λi hi=>by
  have hw:=fD hi hl;have i1:(i:Int)<(L.length:Int):=by omega
  have i2:(0:Int)<=(i:Int):=by omega
  have i3:(i:Int)<(v.aY.length:Int):=by omega
  have key:I0 ⟨box,t9,L,(L.length:Int),(i:Nat),v⟩=if iL v.aY i L[i]! =0 then I (I ⟨box,t9,L,(L.length:Int),((i+1:Nat):Int),v⟩)else I S:=by
   unfold I0 iL;simp only[zf,i1,i2,i3,hi,hw,cR,bB,dG,cD];cases O (v.aY[i]! <L[i]!.ag)<;>cases O (L[i]!.ah<v.aY[i]!)<;>simp
  exact⟨λh=>by rw[key,bD h],λh=>by rw[key,bL h]⟩) (by unfold I0;simp)
def aer(L:aa aS)(hl:L.length<=1000000)(box:aa aH)(hv:box.length=L.length):
  ∃i,QT ⟨box,L,(L.length:Int),0⟩=I ⟨box,L,(L.length:Int),(i:Nat)⟩/\((i=L.length/\b9 (mB box) L 0=0)\/(i<L.length/\mB box i L[i]!≠0/\b9 (mB box) L 0=mB box i L[i]!)):=
 qJ (rnd:=I6) L (λi=>⟨box,L,(L.length:Int),(i:Nat)⟩) (mB box) (λi hi=>by
  have hw:=fD hi hl;have i1:(i:Int)<(L.length:Int):=by omega
  have i2:(0:Int)<=(i:Int):=by omega
  have i3:(i:Int)<(box.length:Int):=by omega
  have key:I6 ⟨box,L,(L.length:Int),(i:Nat)⟩=if mB box i L[i]! =0 then I (I ⟨box,L,(L.length:Int),((i+1:Nat):Int)⟩)else I S:=by
   unfold I6 mB;simp only[zf,i1,i2,i3,hi,hw,cR,bB,dG,cD,fq,Qy];cases SV box[i]! <;>cases O (@Eq Int (SK box[i]!) 0)<;>cases O (box[i]!.ag<L[i]!.ag)<;>cases O (L[i]!.ah<box[i]!.ah)<;>simp
  exact⟨λh=>by rw[key,bD h],λh=>by rw[key,bL h]⟩) (by unfold I6;simp)
def aqb{f:aP}(h:eW f.bK+iR (f.ak.map (·.aB))<=900)(hh:f.ak.length<=1000)(hl:f.ai.length<=1000)(v:cz)(box:aa aH):m21 f v box=I (tH f v box):=by
 have l2:(f.ai.filter (kd 2)).length<=1000:=zH (yN _ _) hl;have l3:(dQ f.ai).length<=2000:=by
  have a1:(f.ai.filter (kd 1)).length<=1000:=zH (yN _ _) hl;have a3:(f.ai.filter (kd 3)).length<=1000:=zH (yN _ _) hl;unfold dQ;rw[zl];omega
 unfold m21 tH;rw[ajU f h (by omega) (by omega)];dsimp only;by_cases hc:qL f=0
 case neg=>rw[bT hc,bD hc];rfl
 rw[bV hc,bL (by simpa using hc)];simp only[bB,bz];rw[Ud f hl v box];dsimp only;rw[eH,bz];by_cases hp:v.aY.length=(f.ai.filter (kd 2)).length
 case neg=>rw[eH,bD hp];rfl
 rw[mg,bL (by simpa using hp)];simp only[bB,bz];obtain⟨i,e3,k3⟩:=adJ (f.ai.filter (kd 2)) (by omega) v hp box (dQ f.ai);rw[e3];dsimp only;rcases k3 with ⟨rfl,k3⟩|⟨i1,i2,i3⟩
 case inr=>
  rw[bD (show b9 (iL v.aY) (f.ai.filter (kd 2)) 0≠0 by rw[i3];exact i2),i3];have j1:(i:Int)<((f.ai.filter (kd 2)).length:Int):=by omega
  have j2:(0:Int)<=(i:Int):=by omega
  have j3:(i:Int)<(v.aY.length:Int):=by omega
  simp only[zf,j1,j2,j3,i1,cR,bB,dG,cD];revert i2;unfold iL;cases O (v.aY[i]! <(f.ai.filter (kd 2))[i]!.ag)<;>cases O ((f.ai.filter (kd 2))[i]!.ah<v.aY[i]!)<;>simp
 rw[eH,bz,bL (show ¬b9 (iL v.aY) (f.ai.filter (kd 2)) 0≠0 by rw[k3];simp)];by_cases hb:box.length=(dQ f.ai).length
 case neg=>rw[eH,bD hb];rfl
 rw[mg,bL (by simpa using hb)];simp only[bB,bz];obtain⟨i,e4,k4⟩:=aer (dQ f.ai) (by omega) box hb;rw[e4];dsimp only;rcases k4 with ⟨rfl,k4⟩|⟨i1,i2,i3⟩
 ·rw[eH,bz,k4]
 ·rw[i3];have j1:(i:Int)<((dQ f.ai).length:Int):=by omega
  have j2:(0:Int)<=(i:Int):=by omega
  have j3:(i:Int)<(box.length:Int):=by omega
  simp only[zf,j1,j2,j3,i1,cR,bB,dG,cD,fq,Qy];revert i2;unfold mB;cases SV box[i]! <;>cases O (@Eq Int (SK box[i]!) 0)<;>cases O (box[i]!.ag<(dQ f.ai)[i]!.ag)<;>cases O ((dQ f.ai)[i]!.ah<box[i]!.ah)<;>simp
structure Fits (f:aP) (v:cz) (box:List aH):Prop where
 c:qL f=0
 pub:v.aY.length=(f.ai.filter (kd 2)).length
 avd:∀j,j<v.aY.length->(f.ai.filter (kd 2))[j]!.ag<=v.aY[j]!/\v.aY[j]!<=(f.ai.filter (kd 2))[j]!.ah
 bl:box.length=(dQ f.ai).length
 bx:∀j,j<box.length->NN box[j]!/\(dQ f.ai)[j]!.ag<=box[j]!.ag/\box[j]!.ah<=(dQ f.ai)[j]!.ah
def Q7{f:aP}{v:cz}{box:aa aH}(h:tH f v box=0):Fits f v box:=by
 unfold tH at h;by_cases hc:qL f=0
 case neg=>rw[bD hc]at h;exact dg h hc
 rw[bL (by simpa using hc)]at h;by_cases hp:v.aY.length=(f.ai.filter (kd 2)).length
 case neg=>rw[bD hp]at h;cases h
 rw[bL (by simpa using hp)]at h;by_cases hf:b9 (iL v.aY) (f.ai.filter (kd 2)) 0=0
 case neg=>rw[bD hf]at h;exact dg h hf
 rw[bL (by simpa using hf)]at h;by_cases hb:box.length=(dQ f.ai).length
 case neg=>rw[bD hb]at h;cases h
 rw[bL (by simpa using hb)]at h;refine⟨hc,hp,λj hj=> ?_,hb,λj hj=> ?_⟩
 ·have k:=lH hf j (by omega);rw[yw]at k;unfold iL at k;by_cases c1:v.aY[j]! <(f.ai.filter (kd 2))[j]!.ag
  ·rw[bV c1]at k;cases k
  by_cases c2:(f.ai.filter (kd 2))[j]!.ah<v.aY[j]!
  ·rw[bT c1,bV c2]at k;cases k
  omega
 ·have k:=lH h j (by omega);rw[yw]at k;unfold mB at k;by_cases c0:NV box[j]!
  case neg=>rw[s8 c0]at k;cases k
  rw[dD c0]at k;by_cases c3:SK box[j]! =0
  ·rw[bV c3]at k;cases k
  by_cases c1:box[j]!.ag<(dQ f.ai)[j]!.ag
  ·rw[bT c3,bV c1]at k;cases k
  by_cases c2:(dQ f.ai)[j]!.ah<box[j]!.ah
  ·rw[bT c3,bT c1,bV c2]at k;cases k
  refine⟨c0.nn λe=>c3 ?_,by omega,by omega⟩;rw[e];unfold SK;rw[bD (.inl rfl)];unfold bU;rw[bD rfl]
def W2{f:aP}(h:qL f=0){i:Nat}(hi:i<f.ai.length):(0<=f.ai[i]!.bw/\f.ai[i]!.bw<=3)/\(f.ai[i]!.bw=0->f.ai[i]!.ag<=f.ai[i]!.dM/\f.ai[i]!.dM<=f.ai[i]!.ah):=by
 unfold qL at h;by_cases h1:oo f=G
 ·rw[bD h1]at h;exact dg h (by decide)
 rw[bL h1]at h;by_cases hvc:iP f.ai=0
 case neg=>rw[bD hvc]at h;exact dg h hvc
 unfold iP at hvc;by_cases h0:b9 (kz f.ai) f.ai 0=0
 case neg=>rw[bD h0]at hvc;exact dg hvc h0
 have k:=lH h0 i hi;unfold kz at k;split at k
 ·cases k
 split at k
 ·cases k
 split at k
 ·cases k
 split at k
 ·cases k
 rename_i q _;refine⟨by omega,λe=> ?_⟩;rw[bD e]at k;split at k
 ·cases k
 ·omega
def dO(f:aP)(v:cz)(box:aa aH)(i:Nat):aH:=
 if f.ai[i]!.bw=1 then box[cA f.ai 1 i]! else if f.ai[i]!.bw=2 then dJ v.aY[cA f.ai 2 i]! else if f.ai[i]!.bw=3 then box[cA f.ai 1 f.ai.length+cA f.ai 3 i]! else dJ f.ai[i]!.dM
def eo(f:aP)(v:cz)(box:aa aH):au:=⟨jJ f.ai.length (dO f v box),dJ 0,[],dJ 0⟩
def Fo(vars:aa aS):(dQ vars).length=cA vars 1 vars.length+cA vars 3 vars.length:=by
 unfold dQ;rw[zl,lG,lG]
def Hi{vars:aa aS}{k:Int}{i:Nat}(hi:i<vars.length)(hk:vars[i]!.bw=k):cA vars k i<cA vars k vars.length:=by
 have c:=fO hi k;have m:=iW (vars:=vars) (k:=k) (show i+1<=vars.length by omega) (zG _);rw[bD hk]at c;omega
def p9{f:aP}{v:cz}{box:aa aH}(h:Fits f v box):dW f.ai.length 0 (eo f v box):=by
 have hv:=mb h.c;have hb:=h.bl;rw[Fo]at hb;have hp:=h.pub;rw[<-lG]at hp;refine⟨fT ..,λi hi=> ?_,jY ⟨by decide,by decide⟩,zG _,λi hi=>dg hi (by simp[eo]),jY ⟨by decide,by decide⟩⟩;show NN (jJ _ _)[i]!;rw[m9 hi];unfold dO;by_cases k1:f.ai[i]!.bw=1
 ·rw[bD k1];have:=Hi hi k1;exact(h.bx _ (by omega)).1
 rw[bL k1];by_cases k2:f.ai[i]!.bw=2
 ·rw[bD k2];have hl:=Hi hi k2;have hj:=h.avd _ (show cA f.ai 2 i<v.aY.length by omega);have hm:=bh (l:=f.ai.filter (kd 2)) (i:=cA f.ai 2 i) (by rw[<-lG];omega);have:=hv _ ((z8.1 hm).1);exact jY (by unfold cj;omega)
 rw[bL k2];by_cases k3:f.ai[i]!.bw=3
 ·rw[bD k3];have:=Hi hi k3;exact(h.bx _ (by omega)).1
 rw[bL k3];obtain⟨q1,q2⟩:=W2 h.c hi;have q2:=q2 (by omega);have:=hv _ (bh hi);exact jY (by unfold cj;omega)
abbrev A0:bE:=⟨⟨0,0,0⟩,[],⟨0,0,0⟩,[]⟩
def acZ{f:aP}(hl:f.ai.length<=1000)(box:aa aH)(v:cz)(g:au):Pb ⟨box,0,0,0,f.ai,(f.ai.length:Int),0,f,v,A0,⟨[],g.aA,[],g.aD⟩⟩=
  I ⟨box,0,0,(cA f.ai 1 f.ai.length:Int),f.ai,(f.ai.length:Int),(f.ai.length:Int),f,v,A0,⟨[],g.aA,[],g.aD⟩⟩:=by
 obtain⟨b,e1,_⟩:=cO (rnd:=Qv) f.ai.length (λi (_:Unit)=>⟨box,0,0,(cA f.ai 1 i:Int),f.ai,(f.ai.length:Int),(i:Int),f,v,A0,⟨[],g.aA,[],g.aD⟩⟩) (λ_ _=>True) (λi b hi _=>by
  have hw:=fD hi (by omega);have i1:(i:Int)<(f.ai.length:Int):=by omega
  have i2:(0:Int)<=(i:Int):=by omega
  have c1:=fO hi 1;have l1:=jO f.ai 1 i;have w1:i64.wrap ((cA f.ai 1 i:Int)+1)=((cA f.ai 1 i+1:Nat):Int):=by rw[aI];omega
  refine⟨(),?_,trivial⟩;unfold Qv;rw[c1];by_cases hk:f.ai[i]!.bw=1
  ·simp only[zf,i1,i2,hk,hw,w1,cR,bB,dG,cD]
  ·simp only[zf,i1,i2,hk,hw,cR,fS,bB,bz,dG,cD,ek,yd]) (λb _=>by unfold Qv;simp) (b:=()) trivial
 exact e1
def adP{f:aP}{v:cz}{box:aa aH}(h:Fits f v box)(hlv:f.ai.length<=1000)(g:au):OM ⟨box,0,0,(cA f.ai 1 f.ai.length:Int),f.ai,(f.ai.length:Int),0,f,v,A0,⟨[],g.aA,[],g.aD⟩⟩=
  I ⟨box,(cA f.ai 1 f.ai.length:Int),(cA f.ai 2 f.ai.length:Int),((cA f.ai 1 f.ai.length+cA f.ai 3 f.ai.length:Nat):Int),f.ai,(f.ai.length:Int),(f.ai.length:Int),f,v,A0,⟨jJ f.ai.length (dO f v box),g.aA,[],g.aD⟩⟩:=by
 have hbx:=h.bl;rw[Fo]at hbx;have hp:=h.pub;rw[<-lG]at hp;obtain⟨b,e1,_⟩:=cO (rnd:=PT) f.ai.length (λi (_:Unit)=>⟨box,(cA f.ai 1 i:Int),(cA f.ai 2 i:Int),((cA f.ai 1 f.ai.length+cA f.ai 3 i:Nat):Int),f.ai,(f.ai.length:Int),(i:Int),f,v,A0,⟨jJ i (dO f v box),g.aA,[],g.aD⟩⟩) (λi _=>True) (λi b hi _=>by
  have hw:=fD hi (by omega);have i1:(i:Int)<(f.ai.length:Int):=by omega
  have i2:(0:Int)<=(i:Int):=by omega
  have c1:=fO hi 1;have c2:=fO hi 2;have c3:=fO hi 3;have m1:=iW (vars:=f.ai) (k:=1) (show i+1<=f.ai.length by omega) (zG _);have m2:=iW (vars:=f.ai) (k:=2) (show i+1<=f.ai.length by omega) (zG _);have m3:=iW (vars:=f.ai) (k:=3) (show i+1<=f.ai.length by omega) (zG _);have l1:=jO f.ai 1 f.ai.length;have l2:=jO f.ai 2 f.ai.length;have l3:=jO f.ai 3 f.ai.length;have hl2:∀x:aH,(jJ i (dO f v box)++[x]).length<=1073741824:=λx=>by rw[zl,fT,yz];omega
  refine⟨(),?_,trivial⟩;rw[oR];unfold PT;dsimp only;rw[c1,c2,c3];by_cases k1:f.ai[i]!.bw=1
  ·have ev:dO f v box i=box[cA f.ai 1 i]! :=by unfold dO;rw[bD k1]
   rw[k1]at c1 c2 c3 ⊢;simp only[Int.reduceEq,cD,ek,yd]at c1 c2 c3 ⊢;have w1:i64.wrap ((cA f.ai 1 i:Int)+1)=((cA f.ai 1 i+1:Nat):Int):=by rw[aI];omega
   have j1:(cA f.ai 1 i:Int)<(box.length:Int):=by omega
   have j2:(0:Int)<=(cA f.ai 1 i:Int):=by omega
   simp only[zf,i1,i2,j1,j2,cR,bB,dG,cD,k1,hl2,hw,w1,ev]
  by_cases k2:f.ai[i]!.bw=2
  ·have ev:dO f v box i=dJ v.aY[cA f.ai 2 i]! :=by unfold dO;rw[bL k1,bD k2]
   rw[k2]at c1 c2 c3 ⊢;simp only[Int.reduceEq,cD,ek,yd]at c1 c2 c3 ⊢;have w1:i64.wrap ((cA f.ai 2 i:Int)+1)=((cA f.ai 2 i+1:Nat):Int):=by rw[aI];omega
   have j1:(cA f.ai 2 i:Int)<(v.aY.length:Int):=by omega
   have j2:(0:Int)<=(cA f.ai 2 i:Int):=by omega
   simp only[zf,i1,i2,j1,j2,k2,Int.reduceEq,cR,fS,bB,bz,dG,cD,hl2,hw,w1,pK,ev]
  by_cases k3:f.ai[i]!.bw=3
  ·have ev:dO f v box i=box[cA f.ai 1 f.ai.length+cA f.ai 3 i]! :=by unfold dO;rw[bL k1,bL k2,bD k3]
   rw[k3]at c1 c2 c3 ⊢;simp only[Int.reduceEq,cD,ek,yd]at c1 c2 c3 ⊢;have w1:i64.wrap (((cA f.ai 1 f.ai.length+cA f.ai 3 i:Nat):Int)+1)=((cA f.ai 1 f.ai.length+(cA f.ai 3 i+1):Nat):Int):=by rw[aI];omega
   have j1:((cA f.ai 1 f.ai.length+cA f.ai 3 i:Nat):Int)<(box.length:Int):=by omega
   have j2:(0:Int)<=((cA f.ai 1 f.ai.length+cA f.ai 3 i:Nat):Int):=by omega
   simp only[zf,i1,i2,j1,j2,k3,Int.reduceEq,cR,fS,bB,bz,dG,cD,hl2,hw,w1,ev]
  ·have ev:dO f v box i=dJ f.ai[i]!.dM:=by unfold dO;rw[bL k1,bL k2,bL k3]
   rw[bL k1,bL k2,bL k3];simp only[zf,i1,i2,k1,k2,k3,cR,fS,bB,bz,dG,cD,hl2,hw,pK,ev,yd]) (λb _=>by unfold PT;simp) (b:=()) trivial
 exact e1
def Tq(f:aP)(s:au)(h:cV):aH:=hO (cv s.ai h.aB) h.ag h.ah
def nH(f:aP)(s:au):aa aH:=f.ak.map (Tq f s)
def adM{f:aP}(hf:I5 f){s:au}{m:Nat}(hs:dW f.ai.length m s){i:Nat}(hi:i<f.ak.length):NN (Tq f s f.ak[i]!):=by
 obtain⟨_,_,_,k,_⟩:=gD (gQ hs f.ak[i]!.aB (hf.hat i hi).2) f.ak[i]!.ag f.ak[i]!.ah;exact k
def Ag{f:aP}(hf:I5 f){s:au}{m:Nat}(hs:dW f.ai.length m s):∀i,i<(nH f s).length->NN (nH f s)[i]! :=λi hi=>by
 have hi:i<f.ak.length:=by simpa [nH]using hi
 unfold nH;rw[getElem!_pos _ i (by simpa using hi),yH,<-getElem!_pos f.ak i hi];exact adM hf hs hi
def ZR{f:aP}(hf:I5 f)(hlh:f.ak.length<=1000)(v:cz){s:au}(hs:dW f.ai.length 0 s):IT ⟨f.ak,(f.ak.length:Int),0,f,v,A0,s,⟨f,[]⟩⟩=
  I ⟨f.ak,(f.ak.length:Int),(f.ak.length:Int),f,v,A0,s,⟨f,nH f s⟩⟩:=by
 have hsl:s.az=[]:=yX (Nat.le_zero.1 hs.sl);have es:(⟨s.ai,s.aA,[],s.aD⟩:au)=s:=by rw[<-hsl]
 obtain⟨b,e1,_⟩:=cO (rnd:=Rh) f.ak.length (λi (_:Unit)=>⟨f.ak,(f.ak.length:Int),(i:Int),f,v,A0,s,⟨f,(f.ak.take i).map (Tq f s)⟩⟩) (λi _=>True) (λi b hi _=>by
  have hw:=fD hi (by omega);have i1:(i:Int)<(f.ak.length:Int):=by omega
  have i2:(0:Int)<=(i:Int):=by omega
  obtain⟨q1,q2⟩:=hf.hat i hi;have ev:=Ik hs q2;obtain⟨c,hcl,_,_,_⟩:=gD (gQ hs f.ak[i]!.aB q2) f.ak[i]!.ag f.ak[i]!.ah;have hl2:∀x:aH,((f.ak.take i).map (Tq f s)++[x]).length<=1073741824:=λx=>by simp;omega
  refine⟨(),?_,trivial⟩;rw[bM hi,z6];unfold Rh;simp only[zf,i1,i2,cR,bB,dG,cD,ax.eta,es,ev,hcl,hl2,hw,z7,yK];rfl) (λb _=>by unfold Rh;simp) (b:=()) trivial
 rw[zI]at e1;exact e1
def Dy(f:aP)(v:cz)(box:aa aH):au:=fY f (nH f (eo f v box)) f.bK (eo f v box)
def fZ(f:aP)(v:cz)(box:aa aH):bE:=
 ⟨(Dy f v box).aA,(Dy f v box).az,if v.n9=J then(Dy f v box).aD else dJ 0,(Dy f v box).ai⟩
def aqS{f:aP}{v:cz}{box:aa aH}(h:eW f.bK+iR (f.ak.map (·.aB))<=900)(hh:f.ak.length<=1000)(hl:f.ai.length<=1000):m20 f v box=I (if tH f v box=0 then(fZ f v box,0)else(A0,tH f v box)):=by
 unfold m20;rw[aqv h hh hl];dsimp only;by_cases hc:tH f v box=0
 case neg=>rw[bT hc,bL hc];rfl
 have hfit:=Q7 hc;have hf:=FC hfit.c;have h0:=p9 hfit;have e0:=acZ hl box v ⟨[],dJ 0,[],dJ 0⟩;have e1:=adP hfit hl ⟨[],dJ 0,[],dJ 0⟩;have e2:=ZR hf hh v h0;have ho:dR f.bK<=8:=by have:=hf.o;unfold dR;omega
 have e3:r83 ⟨f,nH f (eo f v box)⟩ f.bK (eo f v box)=I (Dy f v box):=
  atx (r:=⟨f,nH f (eo f v box)⟩) (top:=J) (by show f.ai.length<=_;omega) (by simp[nH]) (Ag hf h0) (by omega) hf.steps h0 (by omega)
 rw[bV hc,bD hc];simp only[bB,bz,pK];dsimp only[A0]at e0 e1 e2;rw[e0];dsimp only;rw[eH,bz,e1];dsimp only;rw[eH,bz];have e2':IT ⟨f.ak,(f.ak.length:Int),0,f,v,⟨⟨0,0,0⟩,[],⟨0,0,0⟩,[]⟩,⟨jJ f.ai.length (dO f v box),dJ 0,[],dJ 0⟩,⟨f,[]⟩⟩=_:=e2;rw[e2'];dsimp only;rw[eH,bz];have e3':r83 ⟨f,nH f (eo f v box)⟩ f.bK ⟨(eo f v box).ai,(eo f v box).aA,[],(eo f v box).aD⟩=_:=e3;rw[e3'];dsimp only;unfold fZ;cases v.n9<;>rfl
abbrev Z3:aF:=⟨[],⟨0,0,0⟩,[],⟨0,0,0⟩⟩
def acD{f:aP}(hl:f.ai.length<=1000)(box:aa aH)(v:cz):Pd ⟨box,0,f.ai,(f.ai.length:Int),0,f,v,Z3,Z3⟩=
  I ⟨box,(cA f.ai 1 f.ai.length:Int),f.ai,(f.ai.length:Int),(f.ai.length:Int),f,v,Z3,Z3⟩:=by
 obtain⟨b,e1,_⟩:=cO (rnd:=OG) f.ai.length (λi (_:Unit)=>⟨box,(cA f.ai 1 i:Int),f.ai,(f.ai.length:Int),(i:Int),f,v,Z3,Z3⟩) (λ_ _=>True) (λi b hi _=>by
  have hw:=fD hi (by omega);have i1:(i:Int)<(f.ai.length:Int):=by omega
  have i2:(0:Int)<=(i:Int):=by omega
  have c1:=fO hi 1;have l1:=jO f.ai 1 i;have w1:i64.wrap ((cA f.ai 1 i:Int)+1)=((cA f.ai 1 i+1:Nat):Int):=by rw[aI];omega
  refine⟨(),?_,trivial⟩;unfold OG;rw[c1];by_cases hk:f.ai[i]!.bw=1
  ·simp only[zf,i1,i2,hk,hw,w1,cR,bB,dG,cD]
  ·simp only[zf,i1,i2,hk,hw,cR,fS,bB,bz,dG,cD,ek,yd]) (λb _=>by unfold OG;simp) (b:=()) trivial
 exact e1
def ac4{f:aP}{v:cz}{box:aa aH}(h:Fits f v box)(hlv:f.ai.length<=1000):OY ⟨box,0,(cA f.ai 1 f.ai.length:Int),0,f.ai,(f.ai.length:Int),0,v,Z3,Z3⟩=
  I ⟨box,(cA f.ai 1 f.ai.length:Int),((cA f.ai 1 f.ai.length+cA f.ai 3 f.ai.length:Nat):Int),(cA f.ai 2 f.ai.length:Int),f.ai,(f.ai.length:Int),(f.ai.length:Int),v,Z3,⟨jJ f.ai.length (dO f v box),⟨0,0,0⟩,[],⟨0,0,0⟩⟩⟩:=by
 have hbx:=h.bl;rw[Fo]at hbx;have hp:=h.pub;rw[<-lG]at hp;obtain⟨b,e1,_⟩:=cO (rnd:=OV) f.ai.length (λi (_:Unit)=>⟨box,(cA f.ai 1 i:Int),((cA f.ai 1 f.ai.length+cA f.ai 3 i:Nat):Int),(cA f.ai 2 i:Int),f.ai,(f.ai.length:Int),(i:Int),v,Z3,⟨jJ i (dO f v box),⟨0,0,0⟩,[],⟨0,0,0⟩⟩⟩) (λi _=>True) (λi b hi _=>by
  have hw:=fD hi (by omega);have i1:(i:Int)<(f.ai.length:Int):=by omega
  have i2:(0:Int)<=(i:Int):=by omega
  have c1:=fO hi 1;have c2:=fO hi 2;have c3:=fO hi 3;have m1:=iW (vars:=f.ai) (k:=1) (show i+1<=f.ai.length by omega) (zG _);have m2:=iW (vars:=f.ai) (k:=2) (show i+1<=f.ai.length by omega) (zG _);have m3:=iW (vars:=f.ai) (k:=3) (show i+1<=f.ai.length by omega) (zG _);have l1:=jO f.ai 1 f.ai.length;have l2:=jO f.ai 2 f.ai.length;have l3:=jO f.ai 3 f.ai.length;have hl2:∀x:aH,(jJ i (dO f v box)++[x]).length<=1073741824:=λx=>by rw[zl,fT,yz];omega
  refine⟨(),?_,trivial⟩;rw[oR];unfold OV;dsimp only;rw[c1,c2,c3];by_cases k1:f.ai[i]!.bw=1
  ·have ev:dO f v box i=box[cA f.ai 1 i]! :=by unfold dO;rw[bD k1]
   rw[k1]at c1 c2 c3 ⊢;simp only[Int.reduceEq,cD,ek,yd]at c1 c2 c3 ⊢;have w1:i64.wrap ((cA f.ai 1 i:Int)+1)=((cA f.ai 1 i+1:Nat):Int):=by rw[aI];omega
   have j1:(cA f.ai 1 i:Int)<(box.length:Int):=by omega
   have j2:(0:Int)<=(cA f.ai 1 i:Int):=by omega
   simp only[zf,i1,i2,j1,j2,cR,bB,dG,cD,k1,hl2,hw,w1,ev]
  by_cases k2:f.ai[i]!.bw=2
  ·have ev:dO f v box i=dJ v.aY[cA f.ai 2 i]! :=by unfold dO;rw[bL k1,bD k2]
   rw[k2]at c1 c2 c3 ⊢;simp only[Int.reduceEq,cD,ek,yd]at c1 c2 c3 ⊢;have w1:i64.wrap ((cA f.ai 2 i:Int)+1)=((cA f.ai 2 i+1:Nat):Int):=by rw[aI];omega
   have j1:(cA f.ai 2 i:Int)<(v.aY.length:Int):=by omega
   have j2:(0:Int)<=(cA f.ai 2 i:Int):=by omega
   simp only[zf,i1,i2,j1,j2,k2,Int.reduceEq,cR,fS,bB,bz,dG,cD,hl2,hw,w1,AH,ev]
  by_cases k3:f.ai[i]!.bw=3
  ·have ev:dO f v box i=box[cA f.ai 1 f.ai.length+cA f.ai 3 i]! :=by unfold dO;rw[bL k1,bL k2,bD k3]
   rw[k3]at c1 c2 c3 ⊢;simp only[Int.reduceEq,cD,ek,yd]at c1 c2 c3 ⊢;have w1:i64.wrap (((cA f.ai 1 f.ai.length+cA f.ai 3 i:Nat):Int)+1)=((cA f.ai 1 f.ai.length+(cA f.ai 3 i+1):Nat):Int):=by rw[aI];omega
   have j1:((cA f.ai 1 f.ai.length+cA f.ai 3 i:Nat):Int)<(box.length:Int):=by omega
   have j2:(0:Int)<=((cA f.ai 1 f.ai.length+cA f.ai 3 i:Nat):Int):=by omega
   simp only[zf,i1,i2,j1,j2,k3,Int.reduceEq,cR,fS,bB,bz,dG,cD,hl2,hw,w1,ev]
  ·have ev:dO f v box i=dJ f.ai[i]!.dM:=by unfold dO;rw[bL k1,bL k2,bL k3]
   rw[bL k1,bL k2,bL k3];simp only[zf,i1,i2,k1,k2,k3,cR,fS,bB,bz,dG,cD,hl2,hw,AH,ev,yd]) (λb _=>by unfold OV;simp) (b:=()) trivial
 exact e1
def aqZ{f:aP}{v:cz}{box:aa aH}(h:Fits f v box)(hlv:f.ai.length<=1000):m85 f v box=I (tr (eo f v box)):=by
 have e0:=acD hlv box v;have e1:=ac4 h hlv;unfold m85;dsimp only[Z3]at e0 e1;rw[e0];dsimp only;rw[eH,bz,e1];dsimp only;rw[eH,bz];rfl
def Zp{f:aP}(hf:I5 f)(hlh:f.ak.length<=1000)(v:cz){s:au}(hs:dW f.ai.length 0 s):Kj ⟨[],f.ak,(f.ak.length:Int),0,f,v,A0,tr s⟩=
  I ⟨nH f s,f.ak,(f.ak.length:Int),(f.ak.length:Int),f,v,A0,tr s⟩:=by
 have hsl:s.az=[]:=yX (Nat.le_zero.1 hs.sl);have es:(⟨(tr s).ai,(tr s).aA,[],(tr s).aD⟩:aF)=tr s:=by unfold tr;rw[<-hsl]
 obtain⟨b,e1,_⟩:=cO (rnd:=Ov) f.ak.length (λi (_:Unit)=>⟨(f.ak.take i).map (Tq f s),f.ak,(f.ak.length:Int),(i:Int),f,v,A0,tr s⟩) (λi _=>True) (λi b hi _=>by
  have hw:=fD hi (by omega);have i1:(i:Int)<(f.ak.length:Int):=by omega
  have i2:(0:Int)<=(i:Int):=by omega
  obtain⟨q1,q2⟩:=hf.hat i hi;have ev:=QB hs f.ak[i]!.aB q2;obtain⟨c,_,hcl,_,_⟩:=gD (gQ hs f.ak[i]!.aB q2) f.ak[i]!.ag f.ak[i]!.ah;have hl2:∀x:aH,((f.ak.take i).map (Tq f s)++[x]).length<=1073741824:=λx=>by simp;omega
  refine⟨(),?_,trivial⟩;rw[bM hi,z6];unfold Ov;simp only[zf,i1,i2,cR,bB,dG,cD,ax.eta,es,ev,hcl,hl2,hw,z7,yK];rfl) (λb _=>by unfold Ov;simp) (b:=()) trivial
 rw[zI]at e1;exact e1
def aoF{f:aP}{v:cz}{box:aa aH}(h:eW f.bK+iR (f.ak.map (·.aB))<=900)(hh:f.ak.length<=1000)(hl:f.ai.length<=1000)(hfit:Fits f v box):Y8 f v box=I (fZ f v box):=by
 have hf:=FC hfit.c;have h0:=p9 hfit;have e2:=Zp hf hh v h0;have ho:dR f.bK<=8:=by have:=hf.o;unfold dR;omega
 have e3:r88 f (nH f (eo f v box)) f.bK (tr (eo f v box))=I (tr (Dy f v box)):=
  anC (top:=J) (by omega) (by simp[nH]) (Ag hf h0) (by omega) hf.steps h0 (by omega)
 unfold Y8;rw[aqZ hfit hl];dsimp only;have e2':Kj ⟨[],f.ak,(f.ak.length:Int),0,f,v,⟨⟨0,0,0⟩,[],⟨0,0,0⟩,[]⟩,⟨(tr (eo f v box)).ai,(tr (eo f v box)).aA,[],(tr (eo f v box)).aD⟩⟩=_:=e2;rw[e2'];dsimp only;rw[eH,bz];have e3':r88 f (nH f (eo f v box)) f.bK ⟨(tr (eo f v box)).ai,(tr (eo f v box)).aA,[],(tr (eo f v box)).aD⟩=_:=e3;rw[e3'];dsimp only;unfold fZ;cases v.n9<;>rfl
abbrev E18:=Bool
def d18:Td 0 E18:= .c [] [0] (.r 0 0 (ec 0 qb en) sn (λz=>z.1.1) (λx=>((x,()),(()))))
def m18:E18:=J
def e18:=eL wJ 18 G ln d18 (λ_=>I m18)
def t18:jX wJ cZ (λ_=>G) 300 60 Bool 18 [] [] 0 (BD DL)=I J:=by kernel_rfl
abbrev E19:=Bool
def m19(a0:aP)(a1:cz)(a2:aa aH):af E19:=
 match bif O ((a1.aY.length:Int)<=20)then bif O ((a2.length:Int)<=20)then match Qf a0 70 300with|S=>S|I r1=>bif r1 then match m78 a0 with|S=>S|I r2=>bif bif O (r2=0)then G else J then I J else match m24 a0 4096 4096 256with|S=>S|I r3=>I (r3)else I G else I G else I G with|S=>S|I r4=>I (r4)
structure Ph where
 (t0 t1:List aH)
 (t12 t13:Int)
def asd(p:Ph):af (af Ph):=
 bif O (p.t13<p.t12)then if 0<=p.t13/\p.t13<p.t0.length then if 0<=p.t13/\p.t13<p.t1.length then bif bif bif O (p.t0[p.t13.toNat]!.ag=p.t1[p.t13.toNat]!.ag)then bif O (p.t0[p.t13.toNat]!.ah=p.t1[p.t13.toNat]!.ah)then bif O (p.t0[p.t13.toNat]!.aj=p.t1[p.t13.toNat]!.aj)then J else G else G else G then G else J then I (S)else I (I (Ph.mk p.t0 p.t1 p.t12 (i64.wrap (p.t13+1))))else S else S else I (S)
def anM:=bG (asd)
abbrev E64:=Bool
def m64(a0:aa aH)(a1:aa aH):af E64:=
 bif bif O ((a0.length:Int)=(a1.length:Int))then G else J then I G else match anM (Ph.mk a0 a1 a0.length 0)with|S=>S|I r1=>bif O (r1.t13<r1.t12)then if 0<=r1.t13/\r1.t13<r1.t0.length then if 0<=r1.t13/\r1.t13<r1.t1.length then bif bif bif O (r1.t0[r1.t13.toNat]!.ag=r1.t1[r1.t13.toNat]!.ag)then bif O (r1.t0[r1.t13.toNat]!.ah=r1.t1[r1.t13.toNat]!.ah)then bif O (r1.t0[r1.t13.toNat]!.aj=r1.t1[r1.t13.toNat]!.aj)then J else G else G else G then G else J then I G else S else S else S else I J
abbrev E22:=Bool
def m22(a0:bE)(a1:bE):af E22:=
 match bif bif O (a0.aA.ag=a1.aA.ag)then bif O (a0.aA.ah=a1.aA.ah)then bif O (a0.aA.aj=a1.aA.aj)then J else G else G else G then bif bif O (a0.aD.ag=a1.aD.ag)then bif O (a0.aD.ah=a1.aD.ah)then bif O (a0.aD.aj=a1.aD.aj)then J else G else G else G then match m64 a0.az a1.az with|S=>S|I r1=>bif r1 then match m64 a0.HF a1.HF with|S=>S|I r2=>I (r2)else I (G)else I (G)else I (G)with|S=>S|I r3=>I (r3)
abbrev E3:=Bool
def d3:Td 0 E3:= .c [] [6] (.r 0 0 (ec 6 qb en) sn (λz=>z.1.1) (λx=>((x,()),(()))))
def A3:=(lc (qg 26) (lc (qg 29) (lc (ql 34) ln)))
def m3(a0:aP)(a1:cz)(a2:aa aH):af E3:=
 bif bif m18 then G else J then I (G)else match m19 a0 a1 a2 with|S=>S|I r1=>bif bif r1 then G else J then I (J)else match m20 a0 a1 a2 with|S=>S|I r2=>match m21 a0 a1 a2 with|S=>S|I r3=>bif bif O (r3=0)then G else J then bif O (r2.snd=r3)then match m22 r2.fst (bE.mk (aH.mk (0) (0) (0)) [] (aH.mk (0) (0) (0)) [])with|S=>S|I r4=>I (r4)else I (G)else bif O (r2.snd=0)then match Y8 a0 a1 a2 with|S=>S|I r5=>match m22 r2.fst r5 with|S=>S|I r6=>I (r6)else I (G)
abbrev E6:=Bool
def d6:Td 0 E6:= .c [] [6] (.r 0 0 (ec 6 qb en) sn (λz=>z.1.1) (λx=>((x,()),(()))))
def Vo{f:aP}{v:cz}{box:aa aH}(h:Fits f v box):(fZ f v box).az.length<=8/\(fZ f v box).HF.length=f.ai.length:=by
 have hf:=FC h.c;have h0:=p9 h;have ho:dR f.bK<=8:=by have:=hf.o;unfold dR;omega
 have k:=gB (hv:=nH f (eo f v box)) (by simp[nH]) (Ag hf h0) _ f.bK J (zB _) hf.steps _ _ h0;have:=k.sl;exact⟨by show (Dy f v box).az.length<=8;unfold Dy;omega,k.len⟩
def KF{a:aH}(h:NN a):bU a<=a.ah-a.ag+1:=by
 rw[rY h];have:=h.le;split
 ·omega
 ·have:=yc a.aj (show 0<=a.ah-a.ag by omega);omega
def rV{a:aH}(h:NN a):1<=bU a/\bU a<=2199023255553:=by
 have h1:=size_pos h;have h2:=KF h;obtain⟨a1,a2⟩:=h.pW;obtain⟨a3,a4⟩:=h.vU;exact⟨h1,by omega⟩
def It{a b:Int}(h1:1<=a)(h2:a<=2199023255553)(h3:1<=b)(h4:b<=2199023255553):m93 a b=I (min (a*b) 1099511627776):=by
 have hd:(1099511627776:Int).tdiv b=1099511627776/b:=Int.tdiv_eq_ediv_of_nonneg (by omega);have q0:0<=(1099511627776:Int)/b:=zP (by omega) (by omega);have q1:(1099511627776:Int)/b<=1099511627776:=yc _ (by omega);have iff:(1099511627776:Int)/b<a↔1099511627776<a*b:=Int.ediv_lt_iff_lt_mul (by omega);have p0:0<=a*b:=zx (by omega) (by omega);unfold m93;rw[bV (show 0<b by omega),bB,bD (show ¬@Eq Int b 0 by omega),hd,aI];dsimp only;by_cases c:1099511627776<a*b
 ·rw[bV (iff.mpr c),bB,show min (a*b) 1099511627776=1099511627776 by omega]
 ·rw[bT (λk=>c (iff.mp k)),bz,aI,show min (a*b) 1099511627776=a*b by omega]
def eR:aa aH->Int
 |[]=>1
 |x::l=>bU x*eR l
def jD:aa aS->Int
 |[]=>1
 |x::l=>(x.ah-x.ag+1)*jD l
def sU:∀(a b:aa aH),eR (a++b)=eR a*eR b
 |[],b=>by rw[yg,eR,zX]
 |x::a,b=>by rw[xo,eR,eR,sU a b,zN]
def EN:∀(a b:aa aS),jD (a++b)=jD a*jD b
 |[],b=>by rw[yg,jD,zX]
 |x::a,b=>by rw[xo,jD,jD,EN a b,zN]
def ke:∀{l:aa aH},(∀x∈l,NN x)->1<=eR l
 |[],_=>by rw[eR];decide
 |x::l,h=>by
  rw[eR];have h1:=size_pos (h x (zm ..));have h2:=ke (λy hy=>h y (zK _ hy));have:=yT h1 h2 (by omega) (by omega);omega
def uE{l:aa aH}(h:∀x∈l,NN x)(i:Nat):1<=eR (l.take i)/\eR (l.take i)<=eR l:=by
 have h1:=ke (l:=l.take i) (λx hx=>h x (wz hx));have h2:=ke (l:=l.drop i) (λx hx=>h x (xU hx));have e:eR l=eR (l.take i)*eR (l.drop i):=by rw[<-sU,xp]
 have:=wF h2 (show 0<=eR (l.take i)by omega);exact⟨h1,by rw[e];omega⟩
def P8:∀{l:aa aH} {L:aa aS},l.length=L.length->(∀j,j<l.length->NN l[j]!/\L[j]!.ag<=l[j]!.ag/\l[j]!.ah<=L[j]!.ah)->eR l<=jD L
 |[],[],_,_=>zw _
 |[],y::L,h,_=>by simp at h
 |x::l,[],h,_=>by simp at h
 |x::l,y::L,h,k=>by
  rw[eR,jD];have hN:∀z∈l,NN z:=λz hz=>by
   obtain⟨i,hi,e⟩:=List.mem_iff_getElem.1 hz;have:=(k (i+1) (by simp;omega)).1;rw[show (x::l)[i+1]! =l[i]! from rfl,getElem!_pos l i hi,e]at this;exact this
  obtain⟨k1,k2,k3⟩:=k 0 (by simp);have k1:NN x:=k1;have k2:y.ag<=x.ag:=k2;have k3:x.ah<=y.ah:=k3;have h1:=size_pos k1;have h2:=KF k1;have h3:=P8 (l:=l) (L:=L) (by simpa using h) (λj hj=>k (j+1) (by simp;omega));have h4:=ke hN;exact yT (by omega) h3 (by omega) (by omega)
def tA(kind:Int):∀(l:aa aS) (n m:Int),rT kind l n=I m->m=n*jD (l.filter (kd kind))
 |[],n,m,e=>by unfold rT at e;cases e;rw[wo,jD,Int.mul_one]
 |v::vs,n,m,e=>by
  unfold rT at e;by_cases hk:v.bw=kind
  ·rw[bD hk]at e;split at e
   ·cases e
   ·have:=tA kind vs _ m e;rw[this,yY,bD (by simp[kd,hk]),jD,zN]
  ·rw[bL hk]at e;rw[tA kind vs n m e,yY,bL (by simp[kd,hk])]
def uk:∀{l:aa aS},(∀v∈l,v.ag<=v.ah)->1<=jD l
 |[],_=>by rw[jD];decide
 |x::l,h=>by
  rw[jD];have h1:=h x (zm ..);have h2:=uk (λy hy=>h y (zK _ hy));have:=yT (show 1<=x.ah-x.ag+1 by omega) h2 (by omega) (by omega);omega
def RU{f:aP}(h:qL f=0):u5 f.ai=J:=by
 unfold qL at h;by_cases h1:oo f=G
 ·rw[bD h1]at h;exact dg h (by decide)
 rw[bL h1]at h;by_cases hvc:iP f.ai=0
 case neg=>rw[bD hvc]at h;exact dg h hvc
 unfold iP at hvc;by_cases h0:b9 (kz f.ai) f.ai 0=0
 case neg=>rw[bD h0]at hvc;exact dg hvc h0
 rw[bL (by simpa using h0)]at hvc;cases hs:u5 f.ai with
 |true=>rfl
 |false=>rw[hs]at hvc;simp at hvc
def abT{f:aP}(h:qL f=0):jD (dQ f.ai)<=1048576:=by
 have hv:=mb h;have hs:=RU h;unfold u5 at hs;simp only[zj]at hs;obtain⟨⟨h1,_⟩,h3⟩:=hs;obtain⟨a,e1⟩:=Option.isSome_iff_exists.1 h1;cases e3:rT 3 f.ai 1 with
 |none=>rw[e3]at h3;cases h3
 |some b=>
  rw[e3]at h3;have h3:b<=256:=by simpa using h3
  have ha:=Cr 1 f.ai 1 a (by decide) e1;have p1:=tA 1 f.ai 1 a e1;have p3:=tA 3 f.ai 1 b e3;rw[zX]at p1 p3;have q1:=uk (l:=f.ai.filter (kd 1)) (λv hv'=>(hv v (z8.1 hv').1).2.1);have q3:=uk (l:=f.ai.filter (kd 3)) (λv hv'=>(hv v (z8.1 hv').1).2.1);unfold dQ;rw[EN,<-p1,<-p3];rw[<-p1]at q1;rw[<-p3]at q3;have:=yT ha h3 (by omega) (by omega);omega
def Fits.nn{f:aP}{v:cz}{box:aa aH}(h:Fits f v box):∀x∈box,NN x:=λx hx=>by
 obtain⟨i,hi,e⟩:=List.mem_iff_getElem.1 hx;have:=(h.bx i hi).1;rw[getElem!_pos box i hi,e]at this;exact this
def Fits.vol{f:aP}{v:cz}{box:aa aH}(h:Fits f v box):1<=eR box/\eR box<=1048576:=⟨ke h.nn,xG (P8 h.bl h.bx) (abT h.c)⟩
def ada{box:aa aH}(h:∀x∈box,NN x)(hl:box.length<=1000000)(hv:eR box<=1048576):Yl box=I (eR box):=by
 obtain⟨b,e1,_⟩:=cO (rnd:=Hy) box.length (λi (_:Unit)=>⟨eR (box.take i),box,(box.length:Int),(i:Int)⟩) (λi _=>True) (λi b hi _=>by
  have hw:=fD hi hl;have i1:(i:Int)<(box.length:Int):=by omega
  have i2:(0:Int)<=(i:Int):=by omega
  obtain⟨t1,t2⟩:=uE h (i+1);have e:eR (box.take (i+1))=eR (box.take i)*bU box[i]! :=by
   rw[bM hi,sU,eR,eR,Int.mul_one]
  refine⟨(),?_,trivial⟩;rw[e]at t1 t2 ⊢;unfold Hy;simp only[zf,i1,i2,cR,bB,dG,cD,dL (.inr (h _ (bh hi))),hw];rw[aI]) (λb _=>by unfold Hy;simp) (b:=()) trivial
 rw[zI]at e1;have e1':GO ⟨1,box,(box.length:Int),0⟩=I ⟨eR box,box,(box.length:Int),(box.length:Int)⟩:=e1;unfold Yl;rw[e1'];dsimp only;rw[eH,bz]
def gI(l:aa aH):Bool:=l.all λx=>O (bU x=1)
def sgB(r:bE):Bool:=(O (bU r.aA=1)&&O (bU r.aD=1))&&gI r.az
def SU(r:bE):aZ:=⟨r.az.map (·.ag),r.aD.ag⟩
structure TC (r:bE):Prop where
 count:NN r.aA
 time:NN r.aD
 sl:r.az.length<=8
 slots:∀i,i<r.az.length->NN r.az[i]!
def vV{l:aa aH}{i:Nat}(h:i<l.length):gI (l.take (i+1))=(gI (l.take i)&&O (bU l[i]! =1)):=by
 unfold gI;rw[bM h,List.all_append];simp
def afr{r:bE}(h:TC r)(b:Bool)(t:Int):Q9 ⟨b,r.az,(r.az.length:Int),0,⟨[],0⟩,⟨[],t⟩⟩=I ⟨b&&gI r.az,r.az,(r.az.length:Int),(r.az.length:Int),⟨[],0⟩,⟨r.az.map (·.ag),t⟩⟩:=by
 have hs:=h.sl;obtain⟨_,e1,_⟩:=cO (rnd:=O9) r.az.length (λi (_:Unit)=>⟨b&&gI (r.az.take i),r.az,(r.az.length:Int),(i:Int),⟨[],0⟩,⟨(r.az.take i).map (·.ag),t⟩⟩) (λi _=>True) (λi _ hi _=>by
  have hw:=fD hi (by omega);have i1:(i:Int)<(r.az.length:Int):=by omega
  have i2:(0:Int)<=(i:Int):=by omega
  have hl2:∀x:Int,((r.az.take i).map (·.ag)++[x]).length<=1073741824:=λx=>by simp;omega
  refine⟨(),?_,trivial⟩;rw[vV hi,bM hi,z6];unfold O9;cases hb:(b&&gI (r.az.take i))with
  |false=>
   rw[<-Bool.and_assoc,hb];simp only[zf,i1,i2,hl2,cR,bB,bz,dG,cD,hw,Bool.false_and,z7,yK]
  |true=>
   rw[<-Bool.and_assoc,hb];simp only[zf,i1,i2,hl2,cR,bB,dG,cD,o4 (.inr (h.slots i hi)),hw,xN,z7,yK]) (λb _=>by unfold O9;simp) (b:=()) trivial
 rw[zI]at e1;have:(b&&gI (r.az.take 0))=b:=by simp[gI]
 rw[this]at e1;exact e1
def YZ{r:bE}(h:TC r)(b:Bool)(t:Int):PR ⟨b,r.az,(r.az.length:Int),0,⟨[],0⟩,⟨[],t⟩⟩=I ⟨b&&gI r.az,r.az,(r.az.length:Int),(r.az.length:Int),⟨[],0⟩,⟨r.az.map (·.ag),t⟩⟩:=by
 have hs:=h.sl;obtain⟨_,e1,_⟩:=cO (rnd:=QZ) r.az.length (λi (_:Unit)=>⟨b&&gI (r.az.take i),r.az,(r.az.length:Int),(i:Int),⟨[],0⟩,⟨(r.az.take i).map (·.ag),t⟩⟩) (λi _=>True) (λi _ hi _=>by
  have hw:=fD hi (by omega);have i1:(i:Int)<(r.az.length:Int):=by omega
  have i2:(0:Int)<=(i:Int):=by omega
  have hl2:∀x:Int,((r.az.take i).map (·.ag)++[x]).length<=1073741824:=λx=>by simp;omega
  refine⟨(),?_,trivial⟩;rw[vV hi,bM hi,z6];unfold QZ;cases hb:(b&&gI (r.az.take i))with
  |false=>
   rw[<-Bool.and_assoc,hb];simp only[zf,i1,i2,hl2,cR,bB,bz,dG,cD,hw,Bool.false_and,z7,yK]
  |true=>
   rw[<-Bool.and_assoc,hb];simp only[zf,i1,i2,hl2,cR,bB,dG,cD,dL (.inr (h.slots i hi)),hw,xN,z7,yK]) (λb _=>by unfold QZ;simp) (b:=()) trivial
 rw[zI]at e1;have:(b&&gI (r.az.take 0))=b:=by simp[gI]
 rw[this]at e1;exact e1
def anV{f:aP}{v:cz}{box:aa aH}{r:bE}(e:m20 f v box=I (r,0))(h:TC r):m26 f v box=I (if sgB r=J then(SU r,J,0)else(⟨[],0⟩,G,0)):=by
 unfold m26;rw[e];simp only[cR,bB,bz,o4 (.inr h.count),o4 (.inr h.time)];have ef:(bif O (@Eq Int (bU r.aA) 1)then some (O (@Eq Int (bU r.aD) 1))else some false)=some (O (bU r.aA=1)&&O (bU r.aD=1)):=by cases O (bU r.aA=1)<;>rfl
 rw[ef];dsimp only;rw[afr h];dsimp only;rw[eH,bz];unfold sgB SU;cases (O (bU r.aA=1)&&O (bU r.aD=1))&&gI r.az<;>rfl
def aqQ{f:aP}{v:cz}{box:aa aH}{r:bE}(e:Y8 f v box=I r)(h:TC r):m37 f v box=I (if sgB r=J then(SU r,J)else(⟨[],0⟩,G)):=by
 unfold m37;rw[e];simp only[dL (.inr h.count),dL (.inr h.time)];have ef:(bif O (@Eq Int (bU r.aA) 1)then some (O (@Eq Int (bU r.aD) 1))else some false)=some (O (bU r.aA=1)&&O (bU r.aD=1)):=by cases O (bU r.aA=1)<;>rfl
 rw[ef];dsimp only;rw[YZ h];dsimp only;rw[eH,bz];unfold sgB SU;cases (O (bU r.aA=1)&&O (bU r.aD=1))&&gI r.az<;>rfl
def rI(r:bE)(M:Int):Nat->Int×Int
 |0=>(0,min (bU r.aD) M)
 |k+1=>(if cC r.aA (k:Nat)=J then min ((rI r M k).1+(rI r M k).2) M else(rI r M k).1,if k<r.az.length then min ((rI r M k).2*bU r.az[k]!) M else(rI r M k).2)
def Wg{r:bE}(h:TC r){M:Int}(hM:1<=M):∀k,0<=(rI r M k).1/\(rI r M k).1<=M/\1<=(rI r M k).2/\(rI r M k).2<=M
 |0=>by
  have:=size_pos h.time;simp only[rI];omega
 |k+1=>by
  obtain⟨h1,h2,h3,h4⟩:=Wg h hM k;simp only[rI];refine⟨?_,?_,?_,?_⟩
  ·split<;>omega
  ·split<;>omega
  ·split
   ·rename_i c;have:=size_pos (h.slots k c);have:=yT h3 this (by omega) (by omega);omega
   ·omega
  ·split<;>omega
def Wu{P s V:Int}(hs:1<=s)(hP:1<=P)(hV:1<=V):min (P*min s V) V=min (P*s) V:=by
 by_cases c:s<=V
 ·rw[show min s V=s by omega]
 ·rw[show min s V=V by omega];have k1:=zM hP (show 0<=V by omega);have k2:=zM hP (show 0<=s by omega);omega
def Ac(r:bE):Nat->Int×Int
 |0=>(0,bU r.aD)
 |k+1=>(if cC r.aA (k:Nat)=J then min ((Ac r k).1+(Ac r k).2) 1099511627776 else(Ac r k).1,if k<r.az.length then min ((Ac r k).2*bU r.az[k]!) 1099511627776 else(Ac r k).2)
def Nh{r:bE}(h:TC r):∀k,0<=(Ac r k).1/\(Ac r k).1<=1099511627776/\1<=(Ac r k).2/\(Ac r k).2<=2199023255553
 |0=>by
  have:=rV h.time;simp only[Ac];omega
 |k+1=>by
  obtain⟨h1,h2,h3,h4⟩:=Nh h k;simp only[Ac];refine⟨?_,?_,?_,?_⟩
  ·split<;>omega
  ·split<;>omega
  ·split
   ·rename_i c;have:=size_pos (h.slots k c);have:=yT h3 this (by omega) (by omega);omega
   ·omega
  ·split<;>omega
def Q4{r:bE}(h:TC r){V:Int}(hV:1<=V)(hM:V<=1099511627776):∀k,(rI r V k).1=min (Ac r k).1 V/\(rI r V k).2=min (Ac r k).2 V
 |0=>by
  refine⟨?_,rfl⟩;show (0:Int)=min 0 V;omega
 |k+1=>by
  obtain⟨h1,h2⟩:=Q4 h hV hM k;obtain⟨b1,b2,b3,b4⟩:=Nh h k;simp only[rI,Ac];refine⟨?_,?_⟩
  ·split
   ·rw[h1,h2];omega
   ·exact h1
  ·split
   ·rename_i c;have hs:=size_pos (h.slots k c);rw[h2];generalize (Ac r k).2=P at*;generalize bU r.az[k]! =s at*;by_cases c2:P<=V
    ·rw[show min P V=P by omega];omega
    ·rw[show min P V=V by omega];have k1:=wF hs (show 0<=V by omega);have k2:=wF hs (show 0<=P by omega);omega
   ·exact h2
def rP(a b:Int):(if b<a then b else a)=min a b:=by split<;>omega
def ae0{r:bE}(h:TC r)(box:aa aH):Qn ⟨box,0,bU r.aD,((r.az.length+1:Nat):Int),0,r⟩=I ⟨box,(Ac r (r.az.length+1)).1,(Ac r (r.az.length+1)).2,((r.az.length+1:Nat):Int),((r.az.length+1:Nat):Int),r⟩:=by
 have hs:=h.sl;obtain⟨_,e1,_⟩:=cO (rnd:=OD) (r.az.length+1) (λi (_:Unit)=>⟨box,(Ac r i).1,(Ac r i).2,((r.az.length+1:Nat):Int),(i:Int),r⟩) (λi _=>True) (λi _ hi _=>by
  have hw:i64.wrap ((i:Int)+1)=((i+1:Nat):Int):=by rw[aI];omega
  have i1:(i:Int)<((r.az.length+1:Nat):Int):=by omega
  have i2:(0:Int)<=(i:Int):=by omega
  obtain⟨b1,b2,b3,b4⟩:=Nh h i;have ws:i64.wrap ((Ac r i).1+(Ac r i).2)=(Ac r i).1+(Ac r i).2:=aI;refine⟨(),?_,trivial⟩;unfold OD;simp only[Ac];by_cases c:i<r.az.length
  ·have c1:(i:Int)<(r.az.length:Int):=by omega
   have hz:=rV (h.slots i c);have et:=It b3 b4 hz.1 hz.2;cases hc:cC r.aA (i:Nat)with
   |true=>simp only[zf,i1,i2,c,c1,cR,bB,dG,cD,oq (.inr h.count),hc,o4 (.inr (h.slots i c)),et,ws,rP,hw]
   |false=>simp only[zf,i1,i2,c,c1,cR,bB,bz,dG,cD,oq (.inr h.count),hc,o4 (.inr (h.slots i c)),et,hw,yO,ek]
  ·have c1:¬(i:Int)<(r.az.length:Int):=by omega
   cases hc:cC r.aA (i:Nat)with
   |true=>simp only[i1,c,c1,cR,fS,bB,bz,cD,ek,oq (.inr h.count),hc,ws,rP,hw]
   |false=>simp only[i1,c,c1,cR,fS,bB,bz,ek,oq (.inr h.count),hc,hw,yO]) (λb _=>by unfold OD;simp) (b:=()) trivial
 exact e1
def aeB{box:aa aH}(h:∀x∈box,NN x)(hl:box.length<=1000000)(hv:eR box<=1048576)(s:Int):Oq ⟨s,1,box,(box.length:Int),0⟩=I ⟨s,eR box,box,(box.length:Int),(box.length:Int)⟩:=by
 obtain⟨_,e1,_⟩:=cO (rnd:=OB) box.length (λi (_:Unit)=>⟨s,eR (box.take i),box,(box.length:Int),(i:Int)⟩) (λi _=>True) (λi b hi _=>by
  have hw:=fD hi hl;have i1:(i:Int)<(box.length:Int):=by omega
  have i2:(0:Int)<=(i:Int):=by omega
  obtain⟨t1,t2⟩:=uE h (i+1);obtain⟨u1,u2⟩:=uE h i;have hz:=rV (h _ (bh hi));have e:eR (box.take (i+1))=eR (box.take i)*bU box[i]! :=by
   rw[bM hi,sU,eR,eR,Int.mul_one]
  have et:=It (a:=eR (box.take i)) (by omega) (by omega) hz.1 hz.2;rw[show min (eR (box.take i)*bU box[i]!) 1099511627776=eR (box.take i)*bU box[i]! by rw[<-e];omega]at et;refine⟨(),?_,trivial⟩;rw[e];unfold OB;simp only[zf,i1,i2,cR,bB,dG,cD,o4 (.inr (h _ (bh hi))),et,hw]) (λb _=>by unfold OB;simp) (b:=()) trivial
 rw[zI]at e1;exact e1
def al1(r:bE)(V:Int):Int:=(rI r V (r.az.length+1)).1
def arA{f:aP}{v:cz}{box:aa aH}{r:bE}(e:m20 f v box=I (r,0))(h:TC r)(hb:∀x∈box,NN x)(hl:box.length<=1000000)(hv:eR box<=1048576):LY f v box=I (al1 r (eR box),0):=by
 have hs:=h.sl;have hp:=ke hb;have wl:i64.wrap ((r.az.length:Int)+1)=((r.az.length+1:Nat):Int):=by rw[aI];omega
 unfold LY;rw[e];simp only[cR,bB,bz,o4 (.inr h.time),wl];rw[ae0 h box];dsimp only;rw[eH,bz,aeB hb hl hv];dsimp only;rw[eH,bz];unfold al1;rw[(Q4 h hp (by omega) _).1,rP]
def aaA{r:bE}(h:TC r){V:Int}(hV:1<=V)(hV2:V<=1048576):Rt ⟨V,0,min (bU r.aD) V,0,r⟩=I ⟨V,(rI r V (r.az.length+1)).1,(rI r V (r.az.length+1)).2,((r.az.length+1:Nat):Int),r⟩:=by
 have hs:=h.sl;obtain⟨_,e1,_⟩:=cO (rnd:=Pp) (r.az.length+1) (λi (_:Unit)=>⟨V,(rI r V i).1,(rI r V i).2,(i:Int),r⟩) (λi _=>True) (λi _ hi _=>by
  have hw:i64.wrap ((i:Int)+1)=((i+1:Nat):Int):=by rw[aI];omega
  have i1:(i:Int)<=(r.az.length:Int):=by omega
  have i2:(0:Int)<=(i:Int):=by omega
  obtain⟨b1,b2,b3,b4⟩:=Wg h hV i;have ws:i64.wrap ((rI r V i).1+(rI r V i).2)=(rI r V i).1+(rI r V i).2:=aI;refine⟨(),?_,trivial⟩;unfold Pp;simp only[rI];by_cases c:i<r.az.length
  ·have c1:(i:Int)<(r.az.length:Int):=by omega
   have hz:=rV (h.slots i c);have p1:(rI r V i).2*min (bU r.az[i]!) V<=V*V:=yT b4 (by omega) (by omega) (by omega);have p2:V*V<=1048576*1048576:=yT hV2 hV2 (by omega) (by omega);have p3:0<=(rI r V i).2*min (bU r.az[i]!) V:=zx (by omega) (by omega);have wp:i64.wrap ((rI r V i).2*min (bU r.az[i]!) V)=(rI r V i).2*min (bU r.az[i]!) V:=aI;have em:=Wu hz.1 b3 hV;cases hc:cC r.aA (i:Nat)with
   |true=>simp only[zf,i1,i2,c,c1,cR,bB,dG,cD,ja (.inr h.count),hc,dL (.inr (h.slots i c)),ws,rP,wp,em,hw]
   |false=>simp only[zf,i1,i2,c,c1,cR,bB,bz,dG,cD,ja (.inr h.count),hc,dL (.inr (h.slots i c)),rP,wp,em,hw,yO,ek]
  ·have c1:¬(i:Int)<(r.az.length:Int):=by omega
   cases hc:cC r.aA (i:Nat)with
   |true=>simp only[i1,c,c1,cR,fS,bB,bz,cD,ek,ja (.inr h.count),hc,ws,rP,hw]
   |false=>simp only[i1,c,c1,cR,fS,bB,bz,ek,ja (.inr h.count),hc,hw,yO]) (λb _=>by
    unfold Pp;dsimp only;rw[eH];rfl) (b:=()) trivial
 exact e1
def auz{f:aP}{v:cz}{box:aa aH}{r:bE}(e:Y8 f v box=I r)(h:TC r)(hb:∀x∈box,NN x)(hl:box.length<=1000000)(hv:eR box<=1048576):m38 f v box=I (al1 r (eR box)):=by
 have hp:=ke hb;unfold m38;rw[e];dsimp only;rw[ada hb hl hv];dsimp only;rw[dL (.inr h.time)];dsimp only;rw[bL (show ¬1099511627776<eR box by omega),rP,aaA h hp hv];dsimp only;rw[eH,bz];rfl
structure CI (s:au):Prop where
 lo:0<=s.aA.ag
 hi:s.aA.ah=s.az.length
def sg1(a:aH):Prop:=a.ag=a.ah
structure SG (s:au):Prop where
 vars:∀i,i<s.ai.length->sg1 s.ai[i]!
 count:sg1 s.aA
 slots:∀i,i<s.az.length->sg1 s.az[i]!
 time:sg1 s.aD
def Xg(l:aa Int)(hl:l.length<=1000):m98 l l=I J:=by
 obtain⟨b,e1,hI⟩:=cO (rnd:=Qq) l.length (λi (_:Unit)=>⟨l,l,(i:Int)⟩) (λi b=>True) (λi b hi hb=>by
  have hw:=fD hi (by omega);have i1:(i:Int)<(l.length:Int):=by omega
  have i2:(0:Int)<=(i:Int):=by omega
  refine⟨(),?_,trivial⟩;unfold Qq;simp only[zf,i1,i2,cR,bB,bz,dG,cD,hw]) (λb _=>by unfold Qq;simp) (b:=()) trivial
 have e1':Qd ⟨l,l,0⟩=I ⟨l,l,(l.length:Int)⟩:=e1;unfold m98;simp only[cR,bB,bz,e1',xw,fS]
def Xk(o:aZ)(h:o.bk.length<=1000):m31 o o=I J:=by
 unfold m31;simp only[cR,bB,Xg _ h]
def amm{f:aP}{v:cz}{box:aa aH}(h:Fits f v box):dW f.ai.length 8 (Dy f v box):=by
 have hf:=FC h.c;have h0:=p9 h;have ho:dR f.bK<=8:=by have:=hf.o;unfold dR;omega
 exact(gB (hv:=nH f (eo f v box)) (by simp[nH]) (Ag hf h0) _ f.bK J (zB _) hf.steps _ _ h0).weak (by omega)
def aeo{f:aP}{v:cz}{box:aa aH}(h:Fits f v box):TC (fZ f v box):=by
 have k:=amm h;refine⟨k.count,?_,k.sl,k.slots⟩;show NN (if v.n9=J then(Dy f v box).aD else dJ 0);split
 ·exact k.time
 ·exact jY ⟨by decide,by decide⟩
def ajv:aW:=cZ
def YN:aV wJ ajv:=aQ
abbrev amW:=Bool
def d326:Td 0 amW:= .c [] [2] (.r 0 0 (ec 2 qb en) sn (λz=>z.1.1) (λx=>((x,()),(()))))
def asm:=(aM ln)
def ahJ:An:= .no
def apR:dB wJ (ajv) 0 300 326 (ahJ):=bO (l:=[]) func326 (bq (by kernel_rfl)) (by kernel_rfl) aG
def DJ(a0:Int):amW:=
 bif O (a0=a0)then G else J
def axF(a0:Int):bQ wJ (ajv) 300 (ahJ) 326 (asm.c (a0,())) [] 0 d326.rd=I (DJ a0):=by
 refine Eq.trans (b:=(
  I (bif O (a0=a0)then G else J):af amW)) (by kernel_rfl) ?_
 simp only[DJ,ct,cF]
def aoC:=eL wJ 326 G asm d326 (λg=>I (DJ g.1))
def Y4{F:aW}(h:aV wJ F):aV wJ (aoC F):=dU (sc:=jR) cy (cS YN apR (λ_=>by kernel_rfl) (λ_=>by kernel_rfl) λg=>axF g.1) ⟨_,func326,by kernel_rfl,by kernel_rfl⟩ (λ_=>by kernel_rfl) (λ_=>by kernel_rfl) h
def ame:aW:=(aoC cZ)
def abW:aV wJ ame:=(Y4 aQ)
abbrev aji:=Int
def d288:Td 0 aji:= .c [] [4] (.r 0 0 (ec 4 aL en) sn (λz=>z.1.1) (λx=>((x,()),(()))))
def atf:=(aM (aM ln))
def ah0:An:= .no
def art:dB wJ (ame) 0 300 288 (ah0):=bO (l:=[]) func288 (bq (by kernel_rfl)) (by kernel_rfl) aG
def IY(a0:Int)(a1:Int):aji:=
 bif DJ a0 then bif DJ a1 then 0 else-1 else bif DJ a1 then 1 else bif O (a0<a1)then-1 else bif O (a1<a0)then 1 else 0
def aw5(a0:Int)(a1:Int):bQ wJ (ame) 300 (ah0) 288 (atf.c (a0,a1,())) [] 0 d288.rd=I (IY a0 a1):=by
 refine Eq.trans (b:=(
  bif DJ a0 then bif DJ a1 then I (0)else I (-1)else bif DJ a1 then I (1)else bif O (a0<a1)then I (-1)else bif O (a1<a0)then I (1)else I (0):af aji)) (by kernel_rfl) ?_
 simp only[IY,ct,cF]
def ato:=eL wJ 288 G atf d288 (λg=>I (IY g.1 g.2.1))
def YB{F:aW}(h:aV wJ F):aV wJ (ato F):=dU (sc:=jR) cy (cS abW art (λ_=>by kernel_rfl) (λ_=>by kernel_rfl) λg=>aw5 g.1 g.2.1) ⟨_,func288,by kernel_rfl,by kernel_rfl⟩ (λ_=>by kernel_rfl) (λ_=>by kernel_rfl) h
def ZA:aW:=(ato cZ)
def aeW:aV wJ ZA:=(YB aQ)
structure rR where
 (t0 t1 t9:List Int)
 (t10 t11:Int)
def BO:Td 0 rR:= .c [] [0,1,9,10,11] (.r 0 0 (ec 0 (ql 3) (ec 1 (ql 3) (ec 9 (ql 3) (ec 10 aL (ec 11 aL en))))) sn (λz=>⟨z.1.1,z.1.2.1,z.1.t.1,z.1.t.2.1,z.1.q.1⟩) (λx=>((x.t0,x.t1,x.t9,x.t10,x.t11,()),(()))))
def CC(p:rR):af (af rR):=
 bif O (p.t11<p.t10)then if 0<=p.t11/\p.t11<p.t9.length then bif O (p.t1.length<=p.t11)then I (S)else if 0<=p.t11/\p.t11<p.t1.length then bif bif O (IY p.t9[p.t11.toNat]! p.t1[p.t11.toNat]! =0)then G else J then I (S)else I (I (rR.mk p.t0 p.t1 p.t9 p.t10 (i64.wrap (p.t11+1))))else S else S else I (S)
def ai7(p:rR):iO wJ (ZA) f251.ntmps 300 (bg f251 0) .no (af rR) (BO.pat p) (X8 BO.rd)=CC p:=by kernel_rfl
def Hz:=bG (CC)
abbrev ar8:=Int
def d251:Td 0 ar8:= .c [] [4] (.r 0 0 (ec 4 aL en) sn (λz=>z.1.1) (λx=>((x,()),(()))))
def asW:=(lc (ql 3) (lc (ql 3) ln))
def ag3:An:=(noTwo (.two (noTwo (BO.lp Hz .no)) .no))
def ar5:dB wJ (ZA) 0 300 251 (ag3):=bO (l:=[(bg f251 0,(BO.lp Hz .no))]) func251 (bq (by kernel_rfl)) (by kernel_rfl) (aC ⟨BO.ok _,mX (ai7)⟩ aG)
def Xc(a0:aa Int)(a1:aa Int):af ar8:=
 match Hz (rR.mk a0 a1 a0 a0.length 0)with|S=>S|I r1=>bif O (r1.t11<r1.t10)then if 0<=r1.t11/\r1.t11<r1.t9.length then bif O (r1.t1.length<=r1.t11)then I 1 else if 0<=r1.t11/\r1.t11<r1.t1.length then bif bif O (IY r1.t9[r1.t11.toNat]! r1.t1[r1.t11.toNat]! =0)then G else J then I (IY r1.t9[r1.t11.toNat]! r1.t1[r1.t11.toNat]!)else S else S else S else bif O ((r1.t0.length:Int)<(r1.t1.length:Int))then I (-1)else I 0
def awU(a0:aa Int)(a1:aa Int):bQ wJ (ZA) 300 (ag3) 251 (asW.c (a0,a1,())) [] 0 d251.rd=Xc a0 a1:=by kernel_rfl
def aqc:=eL wJ 251 G asW d251 (λg=>Xc g.1 g.2.1)
def ab7{F:aW}(h:aV wJ F):aV wJ (aqc F):=dU (sc:=jR) cy (cS aeW ar5 (λ_=>by kernel_rfl) (λ_=>by kernel_rfl) λg=>awU g.1 g.2.1) ⟨_,func251,by kernel_rfl,by kernel_rfl⟩ (λ_=>by kernel_rfl) (λ_=>by kernel_rfl) h
def ajd:aW:=(aqc cZ)
def ad0:aV wJ ajd:=(ab7 aQ)
abbrev asK:=Int
def d188:Td 0 asK:= .c [] [4] (.r 0 0 (ec 4 aL en) sn (λz=>z.1.1) (λx=>((x,()),(()))))
def aj9:=(lc (qg 47) (lc (qg 47) ln))
def ahL:An:= .no
def aqy:dB wJ (ajd) 0 300 188 (ahL):=bO (l:=[]) func188 (bq (by kernel_rfl)) (by kernel_rfl) aG
def Na(a0:aZ)(a1:aZ):af asK:=
 match Xc a0.bk a1.bk with|S=>S|I r1=>bif bif O (r1=0)then G else J then I (r1)else bif O (a0.aD<a1.aD)then I (-1)else bif O (a1.aD<a0.aD)then I (1)else I (0)
def axz(a0:aZ)(a1:aZ):bQ wJ (ajd) 300 (ahL) 188 (aj9.c (a0,a1,())) [] 0 d188.rd=Na a0 a1:=by kernel_rfl
def am1:aW:=(aqr cZ)
def adT:aV wJ am1:=(aaL aQ)
abbrev alX:=Int
def d196:Td 0 alX:= .c [] [4] (.r 0 0 (ec 4 aL en) sn (λz=>z.1.1) (λx=>((x,()),(()))))
def ar7:=(aM (aM ln))
def af6:An:= .no
def atq:dB wJ (am1) 0 300 196 (af6):=bO (l:=[]) func196 (bq (by kernel_rfl)) (by kernel_rfl) aG
def M5(a0:Int)(a1:Int):alX:=
 bif O (a0<a1)then-1 else Si (O (a1<a0))
def av4(a0:Int)(a1:Int):bQ wJ (am1) 300 (af6) 196 (ar7.c (a0,a1,())) [] 0 d196.rd=I (M5 a0 a1):=by
 refine Eq.trans (b:=(
  bif O (a0<a1)then I (-1)else I (Si (O (a1<a0))):af alX)) (by kernel_rfl) ?_
 simp only[M5,ct,cF]
def an6:=eL wJ 196 G ar7 d196 (λg=>I (M5 g.1 g.2.1))
def adu{F:aW}(h:aV wJ F):aV wJ (an6 F):=dU (sc:=jR) cy (cS adT atq (λ_=>by kernel_rfl) (λ_=>by kernel_rfl) λg=>av4 g.1 g.2.1) ⟨_,func196,by kernel_rfl,by kernel_rfl⟩ (λ_=>by kernel_rfl) (λ_=>by kernel_rfl) h
def T9:aW:=(an6 cZ)
def Zq:aV wJ T9:=(adu aQ)
structure q9 where
 t5:Int
 (b0 b1:aZ)
def Dr:Td 0 q9:= .c [] [2,3,5] (.r 0 2 (ec 2 (qp 0 0) (ec 3 (qp 1 0) (ec 5 aL en))) (sb 0 47 (lg 47) (sb 1 47 (lg 47) sn)) (λz=>⟨z.1.t.1,z.2.1,z.t.1⟩) (λx=>(((),(),x.t5,()),(x.b0,x.b1,()))))
def Cc(p:q9):af (af q9):=
 match bif O (p.t5<p.b0.bk.length)then I (O (p.t5<p.b1.bk.length))else I G with|S=>S|I r1=>bif r1 then if 0<=p.t5/\p.t5<p.b0.bk.length then if 0<=p.t5/\p.t5<p.b1.bk.length then bif bif O ((((),(),p.t5,()),p.b0,p.b1,()).snd.fst.bk[(((),(),p.t5,()),p.b0,p.b1,()).fst.snd.snd.fst.toNat]! =(((),(),p.t5,()),p.b0,p.b1,()).snd.snd.fst.bk[(((),(),p.t5,()),p.b0,p.b1,()).fst.snd.snd.fst.toNat]!)then G else J then if 0<=p.t5/\p.t5<p.b0.bk.length then if 0<=p.t5/\p.t5<p.b1.bk.length then I (S)else S else S else I (I (q9.mk (i64.wrap (p.t5+1)) p.b0 p.b1))else S else S else I (S)
def LH:An:=(.two (.two (.rb [] 17) .no) .no)
def amu(p:q9):iO wJ (T9) f124.ntmps 300 (bg f124 0) LH (af q9) (Dr.pat p) (X8 Dr.rd)=Cc p:=by kernel_rfl
def Fi:=bG (Cc)
abbrev ao0:=Int
def d124:Td 0 ao0:= .c [] [4] (.r 0 0 (ec 4 aL en) sn (λz=>z.1.1) (λx=>((x,()),(()))))
def akp:=(lc (qg 47) (lc (qg 47) ln))
def ahp:An:=(noTwo (.two (noTwo (Dr.lp Fi LH)) .no))
def arN:∀f∈([]:aa Nat),bC (T9) f:=aG
def ao2:dB wJ (T9) 0 300 124 (ahp):=bO (l:=[(bg f124 0,(Dr.lp Fi LH)),(.skip,(.rb [] 17))]) func124 (bq (by kernel_rfl)) (by kernel_rfl) (aC ⟨Dr.ok _,mX (amu)⟩ (aC arN aG))
def Oc(a0:aZ)(a1:aZ):af ao0:=
 match Fi (q9.mk 0 a0 a1)with|S=>S|I r2=>match bif O (r2.t5<r2.b0.bk.length)then I (O (r2.t5<r2.b1.bk.length))else I G with|S=>S|I r3=>bif r3 then if 0<=r2.t5/\r2.t5<r2.b0.bk.length then if 0<=r2.t5/\r2.t5<r2.b1.bk.length then bif bif O ((((),(),r2.t5,()),r2.b0,r2.b1,()).snd.fst.bk[(((),(),r2.t5,()),r2.b0,r2.b1,()).fst.snd.snd.fst.toNat]! =(((),(),r2.t5,()),r2.b0,r2.b1,()).snd.snd.fst.bk[(((),(),r2.t5,()),r2.b0,r2.b1,()).fst.snd.snd.fst.toNat]!)then G else J then if 0<=r2.t5/\r2.t5<r2.b0.bk.length then if 0<=r2.t5/\r2.t5<r2.b1.bk.length then I (M5 r2.b0.bk[r2.t5.toNat]! r2.b1.bk[r2.t5.toNat]!)else S else S else S else S else S else bif bif O ((r2.b0.bk.length:Int)=(r2.b1.bk.length:Int))then G else J then I (M5 r2.b0.bk.length (r2.b1.bk.length:Int))else I (M5 r2.b0.aD r2.b1.aD)
def aws(a0:aZ)(a1:aZ):bQ wJ (T9) 300 (ahp) 124 (akp.c (a0,a1,())) [] 0 d124.rd=Oc a0 a1:=by kernel_rfl
def afl:aW:=(L7 (R4 cZ))
def afh:aV wJ afl:=(pG (tP aQ))
abbrev aqt:=aH×Int
def d214:Td 0 aqt:= .c [] [6,7] (.r 0 1 (ec 6 (qp 0 0) (ec 7 aL en)) (sb 0 34 (lg 34) sn) (λz=>(z.2.1,z.1.2.1)) (λx=>(((),x.2,()),(x.1,()))))
def anN:=(aM (aM (aM ln)))
def ahU:An:=(noTwo (.two (.two (.rb [145] 19) .no) .no))
def asy:∀f∈([145]:aa Nat),bC (afl) f:=(aC (jd (jc bH)) aG)
def arY:dB wJ (afl) 0 300 214 (ahU):=bO (l:=[(.skip,(.rb [145] 19))]) func214 (bq (by kernel_rfl)) (by kernel_rfl) (aC asy aG)
def aax(a0:Int)(a1:Int)(a2:Int):af aqt:=
 match bif bif iw a0 then G else J then I (J)else bif bif iw a1 then G else J then I (J)else I (O (a2<1))with|S=>S|I r1=>bif r1 then I ((aH.mk (0) (0) (0),3))else match kE a0 a1 a2 with|S=>S|I r2=>I ((r2,0))
def avr(a0:Int)(a1:Int)(a2:Int):bQ wJ (afl) 300 (ahU) 214 (anN.c (a0,a1,a2,())) [] 0 d214.rd=aax a0 a1 a2:=by kernel_rfl
def ar4:=eL wJ 214 G anN d214 (λg=>aax g.1 g.2.1 g.t.1)
def ac9{F:aW}(h:aV wJ F):aV wJ (ar4 F):=dU (sc:=jR) cy (cS afh arY (λ_=>by kernel_rfl) (λ_=>by kernel_rfl) λg=>avr g.1 g.2.1 g.t.1) ⟨_,func214,by kernel_rfl,by kernel_rfl⟩ (λ_=>by kernel_rfl) (λ_=>by kernel_rfl) h
def aiB:aW:=(ar4 cZ)
def abB:aV wJ aiB:=(ac9 aQ)
abbrev ap4:=aH×Int
def d137:Td 0 ap4:= .c [] [4,5] (.r 0 1 (ec 4 (qp 0 0) (ec 5 aL en)) (sb 0 34 (lg 34) sn) (λz=>(z.2.1,z.1.2.1)) (λx=>(((),x.2,()),(x.1,()))))
def asc:=(aM (aM ln))
def ahT:An:= .no
def aoz:dB wJ (aiB) 0 300 137 (ahT):=bO (l:=[]) func137 (bq (by kernel_rfl)) (by kernel_rfl) aG
def MA(a0:Int)(a1:Int):af ap4:=
 match aax a0 a1 (1)with|S=>S|I r1=>I (r1)
def avL(a0:Int)(a1:Int):bQ wJ (aiB) 300 (ahT) 137 (asc.c (a0,a1,())) [] 0 d137.rd=MA a0 a1:=by kernel_rfl
def auA:=eL wJ 137 G asc d137 (λg=>MA g.1 g.2.1)
def abi{F:aW}(h:aV wJ F):aV wJ (auA F):=dU (sc:=jR) cy (cS abB aoz (λ_=>by kernel_rfl) (λ_=>by kernel_rfl) λg=>avL g.1 g.2.1) ⟨_,func137,by kernel_rfl,by kernel_rfl⟩ (λ_=>by kernel_rfl) (λ_=>by kernel_rfl) h
def F76:aW:=(auA (ab1 cZ))
def alz:aV wJ F76:=(abi (Oo aQ))
structure sQ where
 t5:List aH
 t7:Int
 t17:List Int
 (t18 t19:Int)
 t24:List aS
 (t25 t26:Int)
 b0:aP
def Kk:Td 0 sQ:= .c [] [1,5,7,17,18,19,24,25,26] (.r 0 3 (ec 1 (qp 0 0) (ec 5 (qo 1) (ec 7 aL (ec 17 (qo 2) (ec 18 aL (ec 19 aL (ec 24 (ql 131) (ec 25 aL (ec 26 aL en))))))))) (sb 0 26 (lg 26) (sr 1 34 (sr 2 129 sn))) (λz=>⟨z.t.1,z.1.t.1,z.t.2.1,z.1.q.1,z.1.q.2.1,z.1.q.t.1,z.1.q.t.2.1,z.1.q.q.1,z.2.1⟩) (λx=>(((),(),x.t7,(),x.t18,x.t19,x.t24,x.t25,x.t26,()),(x.b0,x.t5,x.t17,()))))
def D4(p:sQ):af (af sQ):=
 bif O (p.t26<p.t25)then if 0<=p.t26/\p.t26<p.t24.length then bif O (p.t24[p.t26.toNat]!.bw=p.t7)then match MA p.t24[p.t26.toNat]!.ag p.t24[p.t26.toNat]!.ah with|S=>S|I r3=>if(p.t5++[r3.fst]).length<=1073741824 then I (I (sQ.mk (p.t5++[r3.fst]) p.t7 p.t17 p.t18 p.t19 p.t24 p.t25 (i64.wrap (p.t26+1)) p.b0))else S else I (I (sQ.mk p.t5 p.t7 p.t17 p.t18 p.t19 p.t24 p.t25 (i64.wrap (p.t26+1)) p.b0))else S else I (S)
def apb(p:sQ):iO wJ (F76) f76.ntmps 300 (bg f76 1) .no (af sQ) (Kk.pat p) (X8 Kk.rd)=D4 p:=by kernel_rfl
def KL:=bG (D4)
structure BM where
 t5:List aH
 t17:List Int
 (t18 t19:Int)
 b0:aP
def Ir:Td 0 BM:= .c [] [1,5,17,18,19] (.t (cE.s 5 [] 34) (.c [] [1,5,17,18,19] (.r 0 3 (ec 1 (qp 0 0) (ec 5 (qo 1) (ec 17 (qo 2) (ec 18 aL (ec 19 aL en))))) (sb 0 26 (lg 26) (sr 1 34 (sr 2 129 sn))) (λz=>⟨z.t.1,z.t.2.1,z.1.t.2.1,z.1.q.1,z.2.1⟩) (λx=>(((),(),(),x.t18,x.t19,()),(x.b0,x.t5,x.t17,()))))))
def Bz(p:BM):af (af BM):=
 bif O (p.t19<p.t18)then if 0<=p.t19/\p.t19<p.t17.length then if 129=129/\p.t19.toNat<p.t17.length then match KL (sQ.mk p.t5 p.t17[p.t19.toNat]! p.t17 p.t18 p.t19 p.b0.ai p.b0.ai.length 0 p.b0)with|S=>S|I r1=>bif O (r1.t26<r1.t25)then if 0<=r1.t26/\r1.t26<r1.t24.length then bif O (r1.t24[r1.t26.toNat]!.bw=r1.t7)then match MA r1.t24[r1.t26.toNat]!.ag r1.t24[r1.t26.toNat]!.ah with|S=>S|I r2=>if(r1.t5++[r2.fst]).length<=1073741824 then S else S else S else S else I (I (BM.mk r1.t5 r1.t17 r1.t18 (i64.wrap (r1.t19+1)) r1.b0))else S else S else I (S)
def VN:An:=(noTwo (noTwo (.two (noTwo (noTwo (Kk.lp KL .no))) .no)))
def aqD(p:BM):iO wJ (F76) f76.ntmps 300 (bg f76 0) VN (af BM) (Ir.pat p) (X8 Ir.rd)=Bz p:=by kernel_rfl
def IL:=bG (Bz)
abbrev E76:=(aa aH)×Int
def d76:Td 0 E76:= .c [] [2,3] (.t (cE.s 2 [] 34) (.c [] [2,3] (.r 0 1 (ec 2 (qo 0) (ec 3 aL en)) (sr 0 34 sn) (λz=>(z.2.1,z.1.2.1)) (λx=>(((),x.2,()),(x.1,()))))))
def A76:=(lc (qg 26) ln)
def aod:An:=(noTwo (noTwo (noTwo (.two (noTwo (Ir.lp IL VN)) .no))))
def awH:dB wJ (F76) 0 300 76 (aod):=bO (l:=[(bg f76 0,(Ir.lp IL VN)),(bg f76 1,(Kk.lp KL .no))]) func76 (bq (by kernel_rfl)) (by kernel_rfl) (aC ⟨Ir.ok _,mX (aqD)⟩ (aC ⟨Kk.ok _,mX (apb)⟩ aG))
def XJ(a0:aP):af E76:=
 match V4 a0 with|S=>S|I r4=>bif bif O (r4=0)then G else J then I ([],r4)else match IL (BM.mk [] [1,3] (2:Int) 0 a0)with|S=>S|I r5=>bif O (r5.t19<r5.t18)then if 0<=r5.t19/\r5.t19<r5.t17.length then if 129=129/\r5.t19.toNat<r5.t17.length then match KL (sQ.mk r5.t5 r5.t17[r5.t19.toNat]! r5.t17 r5.t18 r5.t19 r5.b0.ai r5.b0.ai.length 0 r5.b0)with|S=>S|I r6=>bif O (r6.t26<r6.t25)then if 0<=r6.t26/\r6.t26<r6.t24.length then bif O (r6.t24[r6.t26.toNat]!.bw=r6.t7)then match MA r6.t24[r6.t26.toNat]!.ag r6.t24[r6.t26.toNat]!.ah with|S=>S|I r7=>if(r6.t5++[r7.fst]).length<=1073741824 then S else S else S else S else S else S else S else I (r5.t5,0)
def c76(a0:aP):bQ wJ (F76) 300 (aod) 76 (A76.c (a0,())) [] 0 d76.rd=XJ a0:=by kernel_rfl
def e76:=eL wJ 76 G A76 d76 (λg=>XJ g.1)
def F39:aW:=(S1 cZ)
def aiN:aV wJ F39:=(AD aQ)
structure sy where
 t3:List aH
 t5:Int
 t10:List Int
 (t11 t12:Int)
 t17:List aS
 (t18 t19:Int)
 b0:aP
def I8:Td 0 sy:= .c [] [1,3,5,10,11,12,17,18,19] (.r 0 3 (ec 1 (qp 0 0) (ec 3 (qo 1) (ec 5 aL (ec 10 (qo 2) (ec 11 aL (ec 12 aL (ec 17 (ql 131) (ec 18 aL (ec 19 aL en))))))))) (sb 0 26 (lg 26) (sr 1 34 (sr 2 129 sn))) (λz=>⟨z.t.1,z.1.t.1,z.t.2.1,z.1.q.1,z.1.q.2.1,z.1.q.t.1,z.1.q.t.2.1,z.1.q.q.1,z.2.1⟩) (λx=>(((),(),x.t5,(),x.t11,x.t12,x.t17,x.t18,x.t19,()),(x.b0,x.t3,x.t10,()))))
def ED(p:sy):af (af sy):=
 bif O (p.t19<p.t18)then if 0<=p.t19/\p.t19<p.t17.length then bif O (p.t17[p.t19.toNat]!.bw=p.t5)then match iF p.t17[p.t19.toNat]!.ag p.t17[p.t19.toNat]!.ah 1with|S=>S|I r3=>if(p.t3++[r3.fst]).length<=1073741824 then I (I (sy.mk (p.t3++[r3.fst]) p.t5 p.t10 p.t11 p.t12 p.t17 p.t18 (i64.wrap (p.t19+1)) p.b0))else S else I (I (sy.mk p.t3 p.t5 p.t10 p.t11 p.t12 p.t17 p.t18 (i64.wrap (p.t19+1)) p.b0))else S else I (S)
def apD(p:sy):iO wJ (F39) f39.ntmps 300 (bg f39 1) .no (af sy) (I8.pat p) (X8 I8.rd)=ED p:=by kernel_rfl
def Jh:=bG (ED)
structure C8 where
 t3:List aH
 t10:List Int
 (t11 t12:Int)
 b0:aP
def Jc:Td 0 C8:= .c [] [1,3,10,11,12] (.t (cE.s 3 [] 34) (.c [] [1,3,10,11,12] (.r 0 3 (ec 1 (qp 0 0) (ec 3 (qo 1) (ec 10 (qo 2) (ec 11 aL (ec 12 aL en))))) (sb 0 26 (lg 26) (sr 1 34 (sr 2 129 sn))) (λz=>⟨z.t.1,z.t.2.1,z.1.t.2.1,z.1.q.1,z.2.1⟩) (λx=>(((),(),(),x.t11,x.t12,()),(x.b0,x.t3,x.t10,()))))))
def CN(p:C8):af (af C8):=
 bif O (p.t12<p.t11)then if 0<=p.t12/\p.t12<p.t10.length then if 129=129/\p.t12.toNat<p.t10.length then match Jh (sy.mk p.t3 p.t10[p.t12.toNat]! p.t10 p.t11 p.t12 p.b0.ai p.b0.ai.length 0 p.b0)with|S=>S|I r1=>bif O (r1.t19<r1.t18)then if 0<=r1.t19/\r1.t19<r1.t17.length then bif O (r1.t17[r1.t19.toNat]!.bw=r1.t5)then match iF r1.t17[r1.t19.toNat]!.ag r1.t17[r1.t19.toNat]!.ah 1with|S=>S|I r2=>if(r1.t3++[r2.fst]).length<=1073741824 then S else S else S else S else I (I (C8.mk r1.t3 r1.t10 r1.t11 (i64.wrap (r1.t12+1)) r1.b0))else S else S else I (S)
def Va:An:=(noTwo (noTwo (.two (noTwo (noTwo (I8.lp Jh .no))) .no)))
def aq9(p:C8):iO wJ (F39) f39.ntmps 300 (bg f39 0) Va (af C8) (Jc.pat p) (X8 Jc.rd)=CN p:=by kernel_rfl
def Jn:=bG (CN)
abbrev E39:=aa aH
def d39:Td 0 E39:= .c [] [2] (.r 0 1 (ec 2 (qo 0) en) (sr 0 34 sn) (λz=>z.2.1) (λx=>(((),()),(x,()))))
def A39:=(lc (qg 26) ln)
def asD:An:=(noTwo (noTwo (.two (noTwo (Jc.lp Jn Va)) .no)))
def aw4:dB wJ (F39) 0 300 39 (asD):=bO (l:=[(bg f39 0,(Jc.lp Jn Va)),(bg f39 1,(I8.lp Jh .no))]) func39 (bq (by kernel_rfl)) (by kernel_rfl) (aC ⟨Jc.ok _,mX (aq9)⟩ (aC ⟨I8.ok _,mX (apD)⟩ aG))
def m39(a0:aP):af E39:=
 match Jn (C8.mk [] [1,3] (2:Int) 0 a0)with|S=>S|I r4=>bif O (r4.t12<r4.t11)then if 0<=r4.t12/\r4.t12<r4.t10.length then if 129=129/\r4.t12.toNat<r4.t10.length then match Jh (sy.mk r4.t3 r4.t10[r4.t12.toNat]! r4.t10 r4.t11 r4.t12 r4.b0.ai r4.b0.ai.length 0 r4.b0)with|S=>S|I r5=>bif O (r5.t19<r5.t18)then if 0<=r5.t19/\r5.t19<r5.t17.length then bif O (r5.t17[r5.t19.toNat]!.bw=r5.t5)then match iF r5.t17[r5.t19.toNat]!.ag r5.t17[r5.t19.toNat]!.ah 1with|S=>S|I r6=>if(r5.t3++[r6.fst]).length<=1073741824 then S else S else S else S else S else S else S else I (r4.t3)
def c39(a0:aP):bQ wJ (F39) 300 (asD) 39 (A39.c (a0,())) [] 0 d39.rd=m39 a0:=by kernel_rfl
def e39:=eL wJ 39 G A39 d39 (λg=>m39 g.1)
def T7{F:aW}(h:aV wJ F):aV wJ (e39 F):=dU (sc:=jR) cy (cS aiN aw4 (λ_=>by kernel_rfl) (λ_=>by kernel_rfl) λg=>c39 g.1) ⟨_,func39,by kernel_rfl,by kernel_rfl⟩ (λ_=>by kernel_rfl) (λ_=>by kernel_rfl) h
def l8(v:aS):aH:=if v.ag=v.ah then⟨v.ag,v.ag,0⟩else⟨v.ag,v.ah,1⟩
def XY{a b:Int}(h: -1048576<=a/\a<=b/\b<=1048576):i64.wrap (a+i64.wrap (i64.wrap ((i64.wrap (b-a)).tdiv 1)*1))=b:=by
 have w1:i64.wrap (b-a)=b-a:=aI;rw[w1,Int.tdiv_one,w1,Int.mul_one,w1,aI];omega
def afb{v:aS}(h: -1048576<=v.ag/\v.ag<=v.ah/\v.ah<=1048576):MA v.ag v.ah=I (l8 v,0):=by
 unfold MA aax kE iw fX l8;rw[XY h];have d1:O (-1099511627776<=v.ag)=J:=mg;have d2:O (v.ag<=1099511627776)=J:=mg;have d3:O (-1099511627776<=v.ah)=J:=mg;have d4:O (v.ah<=1099511627776)=J:=mg;have d5:O (v.ah<v.ag)=G:=eH;by_cases he:v.ag=v.ah
 ·simp[d1,d2,d3,d4,d5,he]
 ·simp[d1,d2,d3,d4,d5,he]
def ajO{v:aS}(h: -1048576<=v.ag/\v.ag<=v.ah/\v.ah<=1048576):iF v.ag v.ah 1=I (l8 v,0):=by
 unfold iF mC l8;rw[XY h];have d1:O (-1099511627776<=v.ag)=J:=mg;have d2:O (v.ag<=1099511627776)=J:=mg;have d3:O (-1099511627776<=v.ah)=J:=mg;have d4:O (v.ah<=1099511627776)=J:=mg;have d5:O (v.ah<v.ag)=G:=eH;by_cases he:v.ag=v.ah
 ·simp[d1,d2,d3,d4,d5,he]
 ·simp[d1,d2,d3,d4,d5,he]
def ju(kind:Int)(l:aa aS):aa aH:=(l.filter λv=>O (v.bw=kind)).map l8
def ES(kind:Int)(l:aa aS)(v:aS):ju kind (l++[v])=if v.bw=kind then ju kind l++[l8 v]else ju kind l:=by
 unfold ju;rw[xE,z6];by_cases h:v.bw=kind<;>simp[h]
def mc(kind:Int)(l:aa aS):(ju kind l).length<=l.length:=by
 unfold ju;rw[zA];exact yN _ _
def Km(f:aP)(hv:cL f.ai)(hl:f.ai.length<=1000000)(acc:aa aH)(ha:acc.length<=1000000)(kind:Int)(ks:aa Int)(n i:Int):KL ⟨acc,kind,ks,n,i,f.ai,(f.ai.length:Int),0,f⟩=I ⟨acc++ju kind f.ai,kind,ks,n,i,f.ai,(f.ai.length:Int),(f.ai.length:Int),f⟩:=by
 obtain⟨v,e1,hV⟩:=cO (rnd:=D4) f.ai.length (λj (b:aa aH)=>⟨b,kind,ks,n,i,f.ai,(f.ai.length:Int),(j:Int),f⟩) (λj b=>b=acc++ju kind (f.ai.take j)) (λj b hj hb=>by
  have hw:=fD hj hl;have hm:=afb (hv _ (bh hj));have hlen:=mc kind (f.ai.take j);rw[zR]at hlen;have hi1:(j:Int)<(f.ai.length:Int):=by omega
  have hi0:(0:Int)<=(j:Int):=by omega
  rw[bM hj,ES];by_cases hk:f.ai[j]!.bw=kind
  ·refine⟨acc++(ju kind (f.ai.take j)++[l8 f.ai[j]!]),?_,by rw[bD hk]⟩;subst hb;have hl2:((acc++ju kind (f.ai.take j))++[l8 f.ai[j]!]).length<=1073741824:=by
    rw[zl,zl,yz];omega
   unfold D4;dsimp only;simp only[zf,hi1,hi0,cR,bB,dG,cD,hk,hm,hl2,hw];rw[yQ]
  ·refine⟨b,?_,by rw[bL hk];exact hb⟩;unfold D4;dsimp only;simp only[zf,hi1,hi0,cR,bB,bz,dG,cD,hk,fS,hw]) (λb _=>by unfold D4;simp) (b:=acc) (by simp[ju])
 rw[zI]at hV;rw[<-hV];exact e1
def IG(f:aP)(hv:cL f.ai)(hl:f.ai.length<=1000000)(acc:aa aH)(ha:acc.length<=1000000)(kind:Int)(ks:aa Int)(n i:Int):Jh ⟨acc,kind,ks,n,i,f.ai,(f.ai.length:Int),0,f⟩=I ⟨acc++ju kind f.ai,kind,ks,n,i,f.ai,(f.ai.length:Int),(f.ai.length:Int),f⟩:=by
 obtain⟨v,e1,hV⟩:=cO (rnd:=ED) f.ai.length (λj (b:aa aH)=>⟨b,kind,ks,n,i,f.ai,(f.ai.length:Int),(j:Int),f⟩) (λj b=>b=acc++ju kind (f.ai.take j)) (λj b hj hb=>by
  have hw:=fD hj hl;have hm:=ajO (hv _ (bh hj));have hlen:=mc kind (f.ai.take j);rw[zR]at hlen;have hi1:(j:Int)<(f.ai.length:Int):=by omega
  have hi0:(0:Int)<=(j:Int):=by omega
  rw[bM hj,ES];by_cases hk:f.ai[j]!.bw=kind
  ·refine⟨acc++(ju kind (f.ai.take j)++[l8 f.ai[j]!]),?_,by rw[bD hk]⟩;subst hb;have hl2:((acc++ju kind (f.ai.take j))++[l8 f.ai[j]!]).length<=1073741824:=by
    rw[zl,zl,yz];omega
   unfold ED;dsimp only;simp only[zf,hi1,hi0,cR,bB,dG,cD,hk,hm,hl2,hw];rw[yQ]
  ·refine⟨b,?_,by rw[bL hk];exact hb⟩;unfold ED;dsimp only;simp only[zf,hi1,hi0,cR,bB,bz,dG,cD,hk,fS,hw]) (λb _=>by unfold ED;simp) (b:=acc) (by simp[ju])
 rw[zI]at hV;rw[<-hV];exact e1
def nP(f:aP):aa aH:=ju 1 f.ai++ju 3 f.ai
def T6(f:aP)(hv:cL f.ai)(hl:f.ai.length<=1000):IL ⟨[],[1,3],2,0,f⟩=I ⟨nP f,[1,3],2,2,f⟩:=by
 have b1:=mc 1 f.ai;have e1:=Km f hv (by omega) [] (by simp) 1 [1,3] 2 0;have e2:=Km f hv (by omega) (ju 1 f.ai) (by omega) 3 [1,3] 2 1;have w0:i64.wrap 1=1:=rfl;have w1:i64.wrap 2=2:=rfl;have r1:Bz ⟨[],[1,3],2,0,f⟩=I (I ⟨ju 1 f.ai,[1,3],2,1,f⟩):=by
  unfold Bz;simp[e1,w0]
 have r2:Bz ⟨ju 1 f.ai,[1,3],2,1,f⟩=I (I ⟨nP f,[1,3],2,2,f⟩):=by
  unfold Bz;simp[e2,w1,nP]
 unfold IL;rw[bP r1,bP r2];exact cu λr=>by unfold Bz;simp
def Xl(f:aP)(hv:cL f.ai)(hl:f.ai.length<=1000):Jn ⟨[],[1,3],2,0,f⟩=I ⟨nP f,[1,3],2,2,f⟩:=by
 have b1:=mc 1 f.ai;have e1:=IG f hv (by omega) [] (by simp) 1 [1,3] 2 0;have e2:=IG f hv (by omega) (ju 1 f.ai) (by omega) 3 [1,3] 2 1;have w0:i64.wrap 1=1:=rfl;have w1:i64.wrap 2=2:=rfl;have r1:CN ⟨[],[1,3],2,0,f⟩=I (I ⟨ju 1 f.ai,[1,3],2,1,f⟩):=by
  unfold CN;simp[e1,w0]
 have r2:CN ⟨ju 1 f.ai,[1,3],2,1,f⟩=I (I ⟨nP f,[1,3],2,2,f⟩):=by
  unfold CN;simp[e2,w1,nP]
 unfold Jn;rw[bP r1,bP r2];exact cu λr=>by unfold CN;simp
def ak5(f:aP)(h:eW f.bK+iR (f.ak.map (·.aB))<=900)(hh:f.ak.length<=1000000)(hvl:f.ai.length<=1000):XJ f=I (if qL f=0 then(nP f,0)else([],qL f)):=by
 unfold XJ;rw[QV f h hh (by omega)];dsimp only;by_cases hc:qL f=0
 ·rw[bD hc,bV hc];have hv:=mb hc;rw[show ((↑(2:Int):Int))=2 from rfl,T6 f hv hvl];simp
 ·rw[bL hc,bT hc];rfl
def al5(f:aP)(hv:cL f.ai)(hvl:f.ai.length<=1000):m39 f=I (nP f):=by
 unfold m39;rw[show ((↑(2:Int):Int))=2 from rfl,Xl f hv hvl];simp
def VE:aW:=jX wJ (e35 (e40 cZ)) (λf=>zg f 35||zg f 40) 300 60
def Pz:aV wJ VE:=⟨sW (rN (AY aQ)).ok (rN (AY aQ)).nat 300 60,vO (rN (AY (aQ (P:=wJ)))).nat 300 60⟩
def f45:aP:=⟨[⟨⟨#[120]⟩,1,0,3,0⟩],[],[⟨1,1,0,0,⟨15,0,[⟨24,0,[]⟩,⟨0,2,[]⟩]⟩,[],[],[]⟩]⟩
def v45:cz:=⟨[],G⟩
def ZJ:aP->Bool
 |⟨[a],[],[⟨d,c,v,n,⟨o,m,[⟨o1,n1,[]⟩,⟨o2,n2,[]⟩]⟩,[],[],[]⟩]⟩=>O (a=⟨⟨#[120]⟩,1,0,3,0⟩)&&O ([d,c,v,n,o,m,o1,n1,o2,n2]=[1,1,0,0,15,0,24,0,0,2])
 |_=>G
def aeM{f:aP}(h:ZJ f=J):f=f45:=by
 unfold ZJ at h;split at h
 ·simp only[zj,decide_eq_true_eq,List.cons.injEq,and_true]at h;obtain⟨rfl,rfl,rfl,rfl,rfl,rfl,rfl,rfl,rfl,rfl,rfl⟩:=h;rfl
 ·cases h
def SA{β:Type}(T:aa (aa aH×β))(g:aP×cz×aa aH×Unit):af β:=bif ZJ g.1&&O (g.2.1=v45)then(T.find? λp=>O (p.1=g.2.2.1)).map (·.2)else S
def Qk{β:Type}{T:aa (aa aH×β)}{g:aP×cz×aa aH×Unit}{b:β}(h:SA T g=I b):∃x,(x,b)∈T/\g=(f45,v45,x,()):=by
 obtain⟨f,v,x,_⟩:=g;unfold SA at h;cases k:ZJ f&&O (v=v45)with
 |false=>simp only[k]at h;cases h
 |true=>
  simp only[k,bB]at h;rw[zj,decide_eq_true_eq]at k;obtain⟨p,h1,rfl⟩:=zk.1 h;have h2:=List.find?_some h1;rw[decide_eq_true_eq]at h2;exact⟨x,h2▸List.mem_of_find?_eq_some h1,by rw[aeM k.1,k.2]⟩
def t25:aa (aa aH×Int×Int):=[([⟨0,3,1⟩],2,0),([⟨0,1,1⟩],1,0),([⟨2,3,1⟩],1,0)]
def t26:aa (aa aH×aZ×Bool×Int):=[([⟨0,3,1⟩],⟨[],0⟩,G,0),([⟨0,1,1⟩],⟨[1],0⟩,J,0),([⟨2,3,1⟩],⟨[0],0⟩,J,0)]
def at8:dB wJ VE 0 300 25 .no:=bO (l:=[]) func25 (bq (by kernel_rfl)) (by kernel_rfl) aG
def ara:dB wJ VE 0 300 26 .no:=bO (l:=[]) func26 (bq (by kernel_rfl)) (by kernel_rfl) aG
def k25:(t25.map λp=>bQ wJ VE 300 .no 25 (A25.c (f45,v45,p.1,())) [] 0 d25.rd)=t25.map λp=>I p.2:=by kernel_rfl
def k26:(t26.map λp=>bQ wJ VE 300 .no 26 (A26.c (f45,v45,p.1,())) [] 0 d26.rd)=t26.map λp=>I p.2:=by kernel_rfl
def aye:HL wJ 25 A25 d25 (SA t25):=λg b hb=>by
 obtain⟨x,h1,rfl⟩:=Qk hb;exact(kW (out:=λp=>iD wJ 25 0 (d25.pat p)) (p:=b) Pz at8 d25.ok (λp=>by kernel_rfl) (jv (by kernel_rfl)) (jg (by kernel_rfl)) (List.map_inj_left.1 k25 _ h1)).2
def avR:HL wJ 26 A26 d26 (SA t26):=λg b hb=>by
 obtain⟨x,h1,rfl⟩:=Qk hb;exact(kW (out:=λp=>iD wJ 26 0 (d26.pat p)) (p:=b) Pz ara d26.ok (λp=>by kernel_rfl) (jv (by kernel_rfl)) (jg (by kernel_rfl)) (List.map_inj_left.1 k26 _ h1)).2
def x25:aW->aW:=eL wJ 25 G A25 d25 (SA t25)
def x26:aW->aW:=eL wJ 26 G A26 d26 (SA t26)
def alS{F:aW}(h:aV wJ F):aV wJ (x25 F):=dU (sc:=jR) cy aye ⟨_,func25,by kernel_rfl,by kernel_rfl⟩ (λ_=>by kernel_rfl) (λ_=>by kernel_rfl) h
def ajB{F:aW}(h:aV wJ F):aV wJ (x26 F):=dU (sc:=jR) cy avR ⟨_,func26,by kernel_rfl,by kernel_rfl⟩ (λ_=>by kernel_rfl) (λ_=>by kernel_rfl) h
def F45:aW:=x25 (x26 (e35 (e40 cZ)))
def VK:aV wJ F45:=alS (ajB (rN (AY aQ)))
abbrev E45:=Bool
def d45:Td 0 E45:= .c [] [0] (.r 0 0 (ec 0 qb en) sn (λz=>z.1.1) (λx=>((x,()),(()))))
def A45:=ln
def m45:E45:=J
def aqT:Prop:=HL wJ 45 A45 d45 (λ_=>I m45)
def e45:=eL wJ 45 G A45 d45 (λ_=>I m45)
def tG(hv:aqT){F:aW}(h:aV wJ F):aV wJ (e45 F):=dU (sc:=jR) cy hv ⟨_,func45,by kernel_rfl,by kernel_rfl⟩ (λ_=>by kernel_rfl) (λ_=>by kernel_rfl) h
def t45:jX wJ F45 (λf=>zg f 25||zg f 26||zg f 35||zg f 40) 300 60 Bool 45 [] [] 0 (BD DL)=I J:=by kernel_rfl
def Ob{P:Program}{f:FuncId}{xs:aa AV}{d:AV}(h:Iv.Fn P f xs [] (λa s=>a=d/\s=[]))(ha:∀ρ:Gh,xs.map (cc.sub ρ)=xs)(hd:∀ρ:Gh,d.sub ρ=d):Tx P f xs [] 0 ⟨d,[],0⟩:=λρ=>by
 rw[ha ρ];exact h.mono λa s ⟨h1,h2⟩=>⟨ρ,λ_ _=>⟨rfl,rfl⟩,by rw[h1];exact(hd ρ).symm,by rw[h2];exact List.Perm.refl _⟩
def amt:iD wJ 45 0 (d45.pat m45)=⟨.b J,[],0⟩:=by kernel_rfl
def U8:aqT:=λg b hb=>by
 cases hb;rw[amt];exact Ob (VZ (sW (P:=wJ) VK.ok VK.nat 300 60) P0.b rfl (λd hd=>by cases hd) t45).2 (λ_=>rfl) (λρ=>l7 2 (by kernel_rfl))
end Go.Proofs.YtnfljbehcffmcaaGreat
end
noncomputable section
namespace Go.Iv
variable [U:qz] [L:mO]
open Go Go.RowKit
def flt{γ β:Type}(p:β->Bool)(s:β->β)(t:γ->af β)(g:γ):af β:=match t g with
 |none=>S
 |some b=>bif p b then I (s b)else S
def Wj{α γ β:Type}(p:β->Bool)(s:β->β)(q:aa AV->af γ)(t:γ->af β)(out:β->Out)(args:aa AV)(R:aX)(nx:Nat)(k:AV->aX->Nat->af α)(F:af α):af α:=
 match args.all (amd 4)with
 |true=>match q args with
  |some g=>match t g with
   |some b=>bif p b then k (kH (λi=>i+nx) 4 (out (s b)).d) ((out (s b)).R.map (λq=>(q.1+nx,Hv (λi=>i+nx) q.2))++R) ((out (s b)).c+nx)else S
   |none=>S
  |none=>F
 |false=>F
def XW{α γ β:Type}(p:β->Bool)(s:β->β)(q:aa AV->af γ)(t:γ->af β)(out:β->Out)(args:aa AV)(R:aX)(nx:Nat)(k:AV->aX->Nat->af α)(F:af α):Wj p s q t out args R nx k F=DT q (flt p s t) out args R nx k F:=by
 unfold Wj DT flt;cases args.all (amd 4)with
 |false=>rfl
 |true=>
  cases q args with
  |none=>rfl
  |some g=>
   cases h:t g with
   |none=>simp only[h]
   |some b=>cases hp:p b<;>simp only[h,hp,bB,bz]
def gL{β γ:Type}(P:Program)(f:Nat)(lb:Bool)(a:Rl γ)(d:Td 0 β)(t:γ->af β)(p:β->Bool)(s:β->β)(F:aW):aW:=λ_ f' args R nx k=>match zg f' f with
 |true=>Wj p s a.q t (λx=>iD P f 0 (d.pat x)) (args.map (CE lb (fC R) 3)) R nx k (F _ f' args R nx k)
 |false=>F _ f' args R nx k
def arW{β γ:Type}(P:Program)(f:Nat)(lb:Bool)(a:Rl γ)(d:Td 0 β)(t:γ->af β)(p:β->Bool)(s:β->β)(F:aW):gL P f lb a d t p s F=eL P f lb a d (flt p s t) F:=by
 funext α f' args R nx k
 unfold gL eL orL;cases zg f' f with
 |false=>rfl
 |true=>exact XW ..
def ko{β γ:Type}{P:Program}{f:Nat}{lb:Bool}{sc:Nat->Bool}(hsc:∀t,sc t=J->∀x,Ho (U.cells t x)){a:Rl γ}{d:Td 0 β}{t:γ->af β}{p:β->Bool}{s:β->β}(hs:∀b,p b=J->s b=b)(h:HL P f a d t)(hf:tj P f)(h3:∀b,(iD P f 0 (d.pat b)).okB 0=J)(h4:∀b,(iD P f 0 (d.pat b)).Ya sc=J){F:aW}(hF:aV P F):aV P (gL P f lb a d t p s F):=by
 have e:aV P (eL P f lb a d (flt p s t) F):=dU hsc (λg b hb=>h g b (by
  unfold flt at hb;cases k:t g with
  |none=>rw[k]at hb;cases hb
  |some c=>
   rw[k]at hb;simp only at hb;cases hp:p c with
   |false=>rw[hp]at hb;cases hb
   |true=>rw[hp,bB,hs c hp]at hb;exact hb)) hf h3 h4 hF
 rw[arW];exact e
end Go.Iv
end
noncomputable section
set_option maxRecDepth 100000
namespace Go.Proofs.YtnfljbehcffmcaaGreat
open Go Go.Iv
open Go.IntKind (i64 u64)
def aj4:aW:=(e21 cZ)
def ab0:aV wJ aj4:=(ah9 aQ)
abbrev atB:=Int
def d119:Td 0 atB:= .c [] [6] (.r 0 0 (ec 6 aL en) sn (λz=>z.1.1) (λx=>((x,()),(()))))
def aqf:=(lc (qg 26) (lc (qg 29) (lc (ql 34) ln)))
def agX:An:= .no
def arX:dB wJ (aj4) 0 300 119 (agX):=bO (l:=[]) func119 (bq (by kernel_rfl)) (by kernel_rfl) aG
def ZM(a0:aP)(a1:cz)(a2:aa aH):af atB:=
 match m21 a0 a1 a2 with|S=>S|I r1=>I (r1)
def axM(a0:aP)(a1:cz)(a2:aa aH):bQ wJ (aj4) 300 (agX) 119 (aqf.c (a0,a1,a2,())) [] 0 d119.rd=ZM a0 a1 a2:=by kernel_rfl
def asU:=eL wJ 119 G aqf d119 (λg=>ZM g.1 g.2.1 g.t.1)
def abX{F:aW}(h:aV wJ F):aV wJ (asU F):=dU (sc:=jR) cy (cS ab0 arX (λ_=>by kernel_rfl) (λ_=>by kernel_rfl) λg=>axM g.1 g.2.1 g.t.1) ⟨_,func119,by kernel_rfl,by kernel_rfl⟩ (λ_=>by kernel_rfl) (λ_=>by kernel_rfl) h
def F55:aW:=(asU cZ)
def ajA:aV wJ F55:=(abX aQ)
abbrev E55:=Int
def d55:Td 0 E55:= .c [] [4] (.r 0 0 (ec 4 aL en) sn (λz=>z.1.1) (λx=>((x,()),(()))))
def A55:=(lc (qg 26) (lc (qg 29) ln))
def asf:An:=(noTwo (.two (noTwo (.two (.rb [] 14) .no)) .no))
def awB:∀f∈([]:aa Nat),bC (F55) f:=aG
def awt:dB wJ (F55) 0 300 55 (asf):=bO (l:=[(.skip,(.rb [] 14))]) func55 (bq (by kernel_rfl)) (by kernel_rfl) (aC awB aG)
def W4(a0:aP)(a1:cz):af E55:=
 match ZM a0 a1 []with|S=>S|I r1=>match bif bif O (r1=0)then G else J then I (bif O (r1=2)then G else J)else I (G)with|S=>S|I r2=>bif r2 then I (r1)else I (0)
def c55(a0:aP)(a1:cz):bQ wJ (F55) 300 (asf) 55 (A55.c (a0,a1,())) [] 0 d55.rd=W4 a0 a1:=by kernel_rfl
def e55:=eL wJ 55 G A55 d55 (λg=>W4 g.1 g.2.1)
def aoK:HL wJ 124 akp d124 (λg=>Oc g.1 g.2.1):=(cS Zq ao2 (λ_=>by kernel_rfl) (λ_=>by kernel_rfl) λg=>aws g.1 g.2.1)
def ag8:aW->aW:=gL wJ 124 G akp d124 (λg=>Oc g.1 g.2.1) (λb=>O (b=0)) (λb=>0)
def Xz{F:aW}(h:aV wJ F):aV wJ (ag8 F):=ko (sc:=jR) cy (λb hb=>by revert hb;exact λh=>(of_decide_eq_true h).symm) aoK ⟨_,func124,by kernel_rfl,by kernel_rfl⟩ (λ_=>by kernel_rfl) (λ_=>by kernel_rfl) h
def asM:HL wJ 188 aj9 d188 (λg=>Na g.1 g.2.1):=(cS ad0 aqy (λ_=>by kernel_rfl) (λ_=>by kernel_rfl) λg=>axz g.1 g.2.1)
def ag5:aW->aW:=gL wJ 188 G aj9 d188 (λg=>Na g.1 g.2.1) (λb=>O (b=0)) (λb=>0)
def WY{F:aW}(h:aV wJ F):aV wJ (ag5 F):=ko (sc:=jR) cy (λb hb=>by revert hb;exact λh=>(of_decide_eq_true h).symm) asM ⟨_,func188,by kernel_rfl,by kernel_rfl⟩ (λ_=>by kernel_rfl) (λ_=>by kernel_rfl) h
def anQ:HL wJ 25 A25 d25 (λg=>LY g.1 g.2.1 g.2.2.1):=(cS al3 ayh (λ_=>by kernel_rfl) (λ_=>by kernel_rfl) λg=>c25 g.1 g.2.1 g.2.2.1)
def ajY:aW->aW:=gL wJ 25 G A25 d25 (λg=>LY g.1 g.2.1 g.2.2.1) (λb=>O (b.2=0)) (λb=>(b.1,0))
def QS{F:aW}(h:aV wJ F):aV wJ (ajY F):=ko (sc:=jR) cy (λb hb=>by revert hb;obtain⟨b1,b2⟩:=b;grind) anQ ⟨_,func25,by kernel_rfl,by kernel_rfl⟩ (λ_=>by kernel_rfl) (λ_=>by kernel_rfl) h
def asH:aW->aW:=gL wJ 25 G A25 d25 (λg=>LY g.1 g.2.1 g.2.2.1) (λb=> !O (b.2=0)) (λb=>b)
def aaU{F:aW}(h:aV wJ F):aV wJ (asH F):=ko (sc:=jR) cy (λb hb=>by revert hb;exact λ_=>rfl) anQ ⟨_,func25,by kernel_rfl,by kernel_rfl⟩ (λ_=>by kernel_rfl) (λ_=>by kernel_rfl) h
def atb:HL wJ 26 A26 d26 (λg=>m26 g.1 g.2.1 g.2.2.1):=(cS akn ayb (λ_=>by kernel_rfl) (λ_=>by kernel_rfl) λg=>c26 g.1 g.2.1 g.2.2.1)
def atW:aW->aW:=gL wJ 26 G A26 d26 (λg=>m26 g.1 g.2.1 g.2.2.1) (λb=> !b.2.1&&O (b.2.2=0)) (λb=>(b.1,G,0))
def abh{F:aW}(h:aV wJ F):aV wJ (atW F):=ko (sc:=jR) cy (λb hb=>by revert hb;obtain⟨b1,b2⟩:=b;grind) atb ⟨_,func26,by kernel_rfl,by kernel_rfl⟩ (λ_=>by kernel_rfl) (λ_=>by kernel_rfl) h
def aqR:aW->aW:=gL wJ 26 G A26 d26 (λg=>m26 g.1 g.2.1 g.2.2.1) (λb=>b.2.1&&O (b.2.2=0)) (λb=>(b.1,J,0))
def Z8{F:aW}(h:aV wJ F):aV wJ (aqR F):=ko (sc:=jR) cy (λb hb=>by revert hb;obtain⟨b1,b2⟩:=b;grind) atb ⟨_,func26,by kernel_rfl,by kernel_rfl⟩ (λ_=>by kernel_rfl) (λ_=>by kernel_rfl) h
def ax2:HL wJ 31 A31 d31 (λg=>m31 g.1 g.2.1):=(cS amF axw (λ_=>by kernel_rfl) (λ_=>by kernel_rfl) λg=>c31 g.1 g.2.1)
def aof:aW->aW:=gL wJ 31 G A31 d31 (λg=>m31 g.1 g.2.1) (λb=>b) (λb=>J)
def Z2{F:aW}(h:aV wJ F):aV wJ (aof F):=ko (sc:=jR) cy (λb hb=>by revert hb;exact λh=>h.symm) ax2 ⟨_,func31,by kernel_rfl,by kernel_rfl⟩ (λ_=>by kernel_rfl) (λ_=>by kernel_rfl) h
def aut:HL wJ 37 A37 d37 (λg=>m37 g.1 g.2.1 g.2.2.1):=(cS amq ayx (λ_=>by kernel_rfl) (λ_=>by kernel_rfl) λg=>c37 g.1 g.2.1 g.2.2.1)
def apl:aW->aW:=gL wJ 37 G A37 d37 (λg=>m37 g.1 g.2.1 g.2.2.1) (λb=> !b.2) (λb=>(b.1,G))
def aeH{F:aW}(h:aV wJ F):aV wJ (apl F):=ko (sc:=jR) cy (λb hb=>by revert hb;obtain⟨b1,b2⟩:=b;grind) aut ⟨_,func37,by kernel_rfl,by kernel_rfl⟩ (λ_=>by kernel_rfl) (λ_=>by kernel_rfl) h
def aoh:aW->aW:=gL wJ 37 G A37 d37 (λg=>m37 g.1 g.2.1 g.2.2.1) (λb=>b.2) (λb=>(b.1,J))
def acu{F:aW}(h:aV wJ F):aV wJ (aoh F):=ko (sc:=jR) cy (λb hb=>by revert hb;obtain⟨b1,b2⟩:=b;grind) aut ⟨_,func37,by kernel_rfl,by kernel_rfl⟩ (λ_=>by kernel_rfl) (λ_=>by kernel_rfl) h
def apA:HL wJ 53 A53 d53 (λg=>Qf g.1 g.2.1 g.2.2.1):=(cS akx avD (λ_=>by kernel_rfl) (λ_=>by kernel_rfl) λg=>c53 g.1 g.2.1 g.2.2.1)
def aqU:aW->aW:=gL wJ 53 G A53 d53 (λg=>Qf g.1 g.2.1 g.2.2.1) (λb=> !b) (λb=>G)
def abK{F:aW}(h:aV wJ F):aV wJ (aqU F):=ko (sc:=jR) cy (λb hb=>by revert hb;cases b<;>simp) apA ⟨_,func53,by kernel_rfl,by kernel_rfl⟩ (λ_=>by kernel_rfl) (λ_=>by kernel_rfl) h
def UM:aW->aW:=gL wJ 53 G A53 d53 (λg=>Qf g.1 g.2.1 g.2.2.1) (λb=>b) (λb=>J)
def Af{F:aW}(h:aV wJ F):aV wJ (UM F):=ko (sc:=jR) cy (λb hb=>by revert hb;exact λh=>h.symm) apA ⟨_,func53,by kernel_rfl,by kernel_rfl⟩ (λ_=>by kernel_rfl) (λ_=>by kernel_rfl) h
def arF:HL wJ 55 A55 d55 (λg=>W4 g.1 g.2.1):=(cS ajA awt (λ_=>by kernel_rfl) (λ_=>by kernel_rfl) λg=>c55 g.1 g.2.1)
def amY:aW->aW:=gL wJ 55 G A55 d55 (λg=>W4 g.1 g.2.1) (λb=>O (b=0)) (λb=>0)
def O7{F:aW}(h:aV wJ F):aV wJ (amY F):=ko (sc:=jR) cy (λb hb=>by revert hb;exact λh=>(of_decide_eq_true h).symm) arF ⟨_,func55,by kernel_rfl,by kernel_rfl⟩ (λ_=>by kernel_rfl) (λ_=>by kernel_rfl) h
def alr:aW->aW:=gL wJ 55 G A55 d55 (λg=>W4 g.1 g.2.1) (λb=> !O (b=0)) (λb=>b)
def Oz{F:aW}(h:aV wJ F):aV wJ (alr F):=ko (sc:=jR) cy (λb hb=>by revert hb;exact λ_=>rfl) arF ⟨_,func55,by kernel_rfl,by kernel_rfl⟩ (λ_=>by kernel_rfl) (λ_=>by kernel_rfl) h
def ate:HL wJ 76 A76 d76 (λg=>XJ g.1):=(cS alz awH (λ_=>by kernel_rfl) (λ_=>by kernel_rfl) λg=>c76 g.1)
def acE:aW->aW:=gL wJ 76 G A76 d76 (λg=>XJ g.1) (λb=>O (b.2=0)) (λb=>(b.1,0))
def F6{F:aW}(h:aV wJ F):aV wJ (acE F):=ko (sc:=jR) cy (λb hb=>by revert hb;obtain⟨b1,b2⟩:=b;grind) ate ⟨_,func76,by kernel_rfl,by kernel_rfl⟩ (λ_=>by kernel_rfl) (λ_=>by kernel_rfl) h
def aoD:aW->aW:=gL wJ 76 G A76 d76 (λg=>XJ g.1) (λb=> !O (b.2=0)) (λb=>b)
def abV{F:aW}(h:aV wJ F):aV wJ (aoD F):=ko (sc:=jR) cy (λb hb=>by revert hb;exact λ_=>rfl) ate ⟨_,func76,by kernel_rfl,by kernel_rfl⟩ (λ_=>by kernel_rfl) (λ_=>by kernel_rfl) h
def DX(f:Nat):Bool:=zg f 45||zg f 53||zg f 76||zg f 25||zg f 26||zg f 39||zg f 37||zg f 38||zg f 55||zg f 31||zg f 124||zg f 188||zg f 35
def I9{F:aW}(hF:aV wJ F){f:aP}{v:cz}(h:jX wJ F DX 300 60 Bool 10 [.agg (uni.cells 26 f), .agg (uni.cells 29 v)] [] 0 (BD DL)=I J):Iv.Fn wJ 10 [.agg (uni.cells 26 f), .agg (uni.cells 29 v)] [] (λa s=>a= .b J/\s=[]):=
 (VZ (sW (P:=wJ) hF.ok hF.nat 300 60) P0.b rfl (jv (by kernel_rfl)) h).2
def ob{α β:Type}(x:af β)(f:β->af α):af α:=match x with
 |none=>S
 |some b=>f b
def og{α β:Type}(x:af β)(p:β->Bool)(f:β->af α):af α:=match x with
 |none=>S
 |some b=>bif p b then f b else S
def nz(b:Int):Bool:=bif O (b=0)then G else J
def ads(z:aa Int)(b n:Int):af Bool:=bif O (b=n)then(bif bif O ((z.length:Int)=(([]:aa Int).length:Int))then G else J then I G else bif O ((0:Int)<(z.length:Int))then(if(0:Int)<=0/\(0:Int)<(z.length:Int)then S else S)else I J)else I G
def Fc1:aW:=(e45 (aqU cZ))
def akU:aV wJ Fc1:=(tG U8 (abK aQ))
def wc1(f:aP)(v:cz):jX wJ Fc1 DX 300 60 Bool 10 [.agg (uni.cells 26 f), .agg (uni.cells 29 v)] [] 0 (BD DL)=(ob (Qf f 10 80) λr=>bif bif r then G else J then I J else S):=by kernel_rfl
def Fc2:aW:=(e45 (UM (aoD (alr cZ))))
def alW:aV wJ Fc2:=(tG U8 (Af (abV (Oz aQ))))
def wc2(f:aP)(v:cz):jX wJ Fc2 DX 300 60 Bool 10 [.agg (uni.cells 26 f), .agg (uni.cells 29 v)] [] 0 (BD DL)=(og (Qf f 10 80) (λb=>b) λ_=>ob (XJ f) λw=>bif nz w.2 then(bif nz w.2 then(bif nz w.2 then(ob (W4 f v) λc=>bif nz c then(bif nz c then(bif O (w.2=c)then I J else I G)else bif O (w.2=0)then S else I G)else S)else S)else S)else S):=by kernel_rfl
def Fc3:aW:=(e45 (UM (acE (asH (alr cZ)))))
def amL:aV wJ Fc3:=(tG U8 (Af (F6 (aaU (Oz aQ)))))
def wc3(f:aP)(v:cz):jX wJ Fc3 DX 300 60 Bool 10 [.agg (uni.cells 26 f), .agg (uni.cells 29 v)] [] 0 (BD DL)=(og (Qf f 10 80) (λb=>b) λ_=>og (XJ f) (λb=>O (b.2=0)) λw=>ob (LY f v w.1) λx=>bif nz x.2 then(bif nz x.2 then(bif nz x.2 then(ob (W4 f v) λc=>bif nz c then(bif nz c then(bif O (x.2=c)then I J else I G)else bif O (x.2=0)then S else I G)else S)else S)else(ob (LY f v w.1) λy=>bif nz y.2 then S else S))else S):=by kernel_rfl
def asZ:aW:=(e45 (UM (acE (ajY (aqR (amY (e39 (aoh (e38 (aof (ag8 (ag5 (e35 cZ)))))))))))))
def adO:aV wJ asZ:=(tG U8 (Af (F6 (QS (Z8 (O7 (T7 (acu (VQ (Z2 (Xz (WY (rN aQ)))))))))))))
def avB(f:aP)(v:cz):jX wJ asZ DX 300 60 Bool 10 [.agg (uni.cells 26 f), .agg (uni.cells 29 v)] [] 0 (BD DL)=(og (Qf f 10 80) (λb=>b) λ_=>og (XJ f) (λb=>O (b.2=0)) λw=>og (LY f v w.1) (λb=>O (b.2=0)) λ_=>og (LY f v w.1) (λb=>O (b.2=0)) λb=>og (m26 f v w.1) (λb=>b.2.1&&O (b.2.2=0)) λo=>ob (WD o.1.bk) λu=>ob (WD []) λz=>og (Na o.1 o.1) (λb=>O (b=0)) λ_=>og (Na o.1 o.1) (λb=>O (b=0)) λ_=>og (W4 f v) (λb=>O (b=0)) λ_=>ob (m39 f) λx=>og (m37 f v x) (λb=>b.2) λq=>ob (m38 f v x) λn=>og (Oc q.1 q.1) (λb=>O (b=0)) λ_=>og (Oc q.1 q.1) (λb=>O (b=0)) λ_=>og (m31 ⟨u,o.1.aD⟩ q.1) (λb=>b) λ_=>ads z b.1 n):=by kernel_rfl
def aqH:aW:=(e45 (UM (acE (ajY (atW (amY (e39 (apl (e38 (e35 cZ))))))))))
def abo:aV wJ aqH:=(tG U8 (Af (F6 (QS (abh (O7 (T7 (aeH (VQ (rN aQ))))))))))
def ax5(f:aP)(v:cz):jX wJ aqH DX 300 60 Bool 10 [.agg (uni.cells 26 f), .agg (uni.cells 29 v)] [] 0 (BD DL)=(og (Qf f 10 80) (λb=>b) λ_=>og (XJ f) (λb=>O (b.2=0)) λw=>og (LY f v w.1) (λb=>O (b.2=0)) λ_=>og (LY f v w.1) (λb=>O (b.2=0)) λb=>og (m26 f v w.1) (λb=> !b.2.1&&O (b.2.2=0)) λ_=>ob (WD []) λz=>og (W4 f v) (λb=>O (b=0)) λ_=>ob (m39 f) λx=>og (m37 f v x) (λb=> !b.2) λ_=>ob (m38 f v x) λn=>ads z b.1 n):=by kernel_rfl
def pq{α:Type}{c:Nat->α->Int}{k:Int}(hk:k≠0)(h:∀i x,c i x≠k):∀(l:aa α) (i:Nat),b9 c l i≠k
 |[],_=>by unfold b9;omega
 |x::l,i=>by
  unfold b9;have:=pq hk h l (i+1);have:=h i x;split<;>assumption
def K6(vars:aa aS)(inp:Bool)(t:ax):dN vars inp t≠2:=by unfold dN;grind
def sC(f:aP):∀(top:Bool) (l:aa ay),bW f top l≠2
 |_,[]=>by rw[bW];decide
 |top,s::l=>by
  rw[bW];have h1:=sC f G s.aK;have h2:=sC f G s.aN;have h3:=sC f top l;have h0:lz f (top&&l.isEmpty) s≠2:=by
   have:=K6 f.ai G s.aB;unfold lz;grind
  grind
termination_by _ l=>zh l
decreasing_by
 all_goals first|exact(bf (zm ..)).1|exact(bf (zm ..)).2|exact dA _ _
def amp(f:aP):qL f≠2:=by
 have h1:iP f.ai≠2:=by
  have:=pq (c:=kz f.ai) (k:=2) (by decide) (λi x=>by unfold kz;grind) f.ai 0;unfold iP;grind
 have h2:=pq (c:=jx f) (k:=2) (by decide) (λi x=>by have:=K6 f.ai J x.aB;unfold jx;grind) f.ak 0;have h3:=sC f J f.bK;unfold qL;grind
def Tk(f:aP)(v:cz):Int:=if qL f≠0 then qL f else if v.aY.length≠(f.ai.filter (kd 2)).length then 1 else b9 (iL v.aY) (f.ai.filter (kd 2)) 0
def amr(f:aP)(v:cz):Tk f v≠2:=by
 have:=amp f;have:=pq (c:=iL v.aY) (k:=2) (by decide) (λi x=>by
  unfold iL;cases O (v.aY[i]! <x.ag)<;>cases O (x.ah<v.aY[i]!)<;>decide) (f.ai.filter (kd 2)) 0
 unfold Tk;grind
def ab8(f:aP)(v:cz):tH f v []=Tk f v\/(Tk f v=0/\tH f v []=2):=by
 unfold tH Tk;by_cases h1:qL f=0
 case neg=>simp[h1]
 by_cases h2:v.aY.length=(f.ai.filter (kd 2)).length
 case neg=>simp[h1,h2]
 by_cases h3:b9 (iL v.aY) (f.ai.filter (kd 2)) 0=0
 case neg=>simp[h1,h2,h3]
 by_cases h4:(dQ f.ai).length=0
 ·have h5:=wI.1 h4;simp[h1,h2,h3,h5,b9]
 ·have h5:¬(0:Nat)=(dQ f.ai).length:=λh=>h4 h.symm;simp[h1,h2,h3,h5]
def auo{f:aP}(h:eW f.bK+iR (f.ak.map (·.aB))<=900)(hh:f.ak.length<=1000)(hl:f.ai.length<=1000)(v:cz):W4 f v=I (Tk f v):=by
 unfold W4 ZM;rw[aqb h hh hl];have:=amr f v;rcases ab8 f v with k|⟨k1,k2⟩
 ·rw[k];by_cases c0:Tk f v=0<;>simp[c0,this]
 ·rw[k1,k2];rfl
def DP{α:Type}[Inhabited α]{c:Nat->α->Int}:∀(l:aa α) (i:Nat),(∀j,j<l.length->c (i+j) l[j]! =0)->b9 c l i=0
 |[],_,_=>rfl
 |x::l,i,h=>by
  unfold b9;have h0:=h 0 (by simp);rw[yd]at h0;rw[bD (show c i x=0 from h0)];refine DP l (i+1) λj hj=> ?_;have:=h (j+1) (by simpa using hj);rw[show i+1+j=i+(j+1)by omega];simpa using this
def abf{v:aS}(h: -1048576<=v.ag/\v.ag<=v.ah/\v.ah<=1048576):NN (l8 v)/\(l8 v).ag=v.ag/\(l8 v).ah=v.ah:=by
 unfold l8;by_cases e:v.ag=v.ah
 ·rw[bD e];exact⟨⟨by show _<=v.ag;omega,by show v.ag<=_;omega,zw _, .inl ⟨rfl,rfl⟩⟩,rfl,e⟩
 ·rw[bL e];exact⟨⟨by show _<=v.ag;omega,by show v.ah<=_;omega,by show v.ag<=v.ah;omega, .inr ⟨by show v.ag<v.ah;omega,by show (1:Int)<=1;omega,by show (v.ah-v.ag)%1=0;omega⟩⟩,rfl,rfl⟩
def Uy(f:aP):nP f=(dQ f.ai).map l8:=by
 unfold nP ju dQ;rw[z6];rfl
def akq{f:aP}(hc:qL f=0){j:Nat}(hj:j<(dQ f.ai).length): -1048576<=(dQ f.ai)[j]!.ag/\(dQ f.ai)[j]!.ag<=(dQ f.ai)[j]!.ah/\(dQ f.ai)[j]!.ah<=1048576:=by
 refine mb hc _ ?_;have:=bh hj;unfold dQ at this;rcases zU.1 this with k|k<;>exact(z8.1 k).1
def Zm{f:aP}(hc:qL f=0)(v:cz):tH f v (nP f)=Tk f v:=by
 unfold tH Tk;rw[Uy];by_cases h2:v.aY.length=(f.ai.filter (kd 2)).length
 case neg=>simp only[hc,h2,ne_eq,not_true,ek,not_false_eq_true,cD]
 by_cases h3:b9 (iL v.aY) (f.ai.filter (kd 2)) 0=0
 case neg=>simp only[hc,h2,h3,ne_eq,not_true,ek,not_false_eq_true,cD]
 simp only[hc,h2,h3,ne_eq,not_true,ek,zA];refine DP _ _ λj hj=> ?_;rw[yw];obtain⟨hn,hl,hh⟩:=abf (akq hc hj);have e:((dQ f.ai).map l8)[j]! =l8 (dQ f.ai)[j]! :=by rw[getElem!_pos ((dQ f.ai).map l8) j (by simpa using hj),getElem!_pos (dQ f.ai) j hj,yH]
 unfold mB;rw[e,dD (.inr hn)];have hs:SK (l8 (dQ f.ai)[j]!)=bU (l8 (dQ f.ai)[j]!):=by unfold SK;rw[bD (.inr hn)]
 have hp:=size_pos hn;simp only[bB,bz];rw[hs,eH,eH,eH];rfl
def ahs{l:aa Int}(h:l.length<=1000):WD l=I l:=by unfold WD;rw[ga]
def Sz(x:Int):IY x x=0:=by unfold IY DJ;simp
def SX(l:aa Int)(hl:l.length<=1000):Xc l l=I 0:=by
 obtain⟨b,e1,hI⟩:=cO (rnd:=CC) l.length (λi (_:Unit)=>⟨l,l,l,(l.length:Int),(i:Int)⟩) (λi b=>True) (λi b hi hb=>by
  have hw:=fD hi (by omega);have i1:(i:Int)<(l.length:Int):=by omega
  have i2:(0:Int)<=(i:Int):=by omega
  have i3:¬(l.length:Int)<=(i:Int):=by omega
  refine⟨(),?_,trivial⟩;unfold CC;simp only[zf,i1,i2,i3,Sz,cR,fS,bB,bz,dG,cD,hw]) (λb _=>by unfold CC;simp) (b:=()) trivial
 have e1':Hz ⟨l,l,l,(l.length:Int),0⟩=I ⟨l,l,l,(l.length:Int),(l.length:Int)⟩:=e1;unfold Xc;simp only[e1',xw,fS,bz]
def SR(o:aZ)(h:o.bk.length<=1000):Na o o=I 0:=by
 unfold Na;rw[SX _ h];simp
def Ti(o:aZ)(h:o.bk.length<=1000):Oc o o=I 0:=by
 obtain⟨b,e1,hI⟩:=cO (rnd:=Cc) o.bk.length (λi (_:Unit)=>⟨(i:Int),o,o⟩) (λi b=>True) (λi b hi hb=>by
  have hw:=fD hi (by omega);have i1:(i:Int)<(o.bk.length:Int):=by omega
  have i2:(0:Int)<=(i:Int):=by omega
  refine⟨(),?_,trivial⟩;unfold Cc;simp only[zf,i1,i2,cR,bB,bz,dG,cD,hw]) (λb _=>by unfold Cc;simp) (b:=()) trivial
 have e1':Fi ⟨0,o,o⟩=I ⟨(o.bk.length:Int),o,o⟩:=e1;unfold Oc M5 Si;simp only[e1',xw,fS,cR,bz,bB]
def aiJ(f:aP)(v:cz):Iv.Fn wJ 10 [.agg (uni.cells 26 f), .agg (uni.cells 29 v)] [] (λa s=>a= .b J/\s=[]):=by
 have e53:=alp f 10 80 (by decide) (by decide) (by decide) (by decide);cases hf:few f 10 80 with
 |false=>
  rw[hf]at e53;exact I9 akU ((wc1 f v).trans (by simp[ob,e53]))
 |true=>
  rw[hf]at e53;unfold few at hf;rw[decide_eq_true_iff]at hf;obtain⟨f1,f2,f3⟩:=hf;have hN:eW f.bK+iR (f.ak.map (·.aB))<=900:=by omega
  have e76:=ak5 f hN (by omega) (by omega);have e55:=auo hN (by omega) (by omega) v;by_cases hc:qL f=0
  case neg=>
   have hd:Tk f v=qL f:=by unfold Tk;rw[bD hc]
   rw[bL hc]at e76;rw[hd]at e55;exact I9 alW ((wc2 f v).trans (by simp[og,ob,nz,e53,e76,e55,hc]))
  rw[bD hc]at e76;have ha:=Zm hc v;have Wf:=aqS (v:=v) (box:=nP f) hN (by omega) (by omega);rw[ha]at Wf;by_cases hq:Tk f v=0
  case neg=>
   rw[bL hq]at Wf;have e25:LY f v (nP f)=I (0,Tk f v):=by unfold LY;rw[Wf];simp[hq]
   exact I9 amL ((wc3 f v).trans (by simp[og,ob,nz,e53,e76,e55,e25,hq]))
  rw[bD hq]at Wf;rw[hq]at e55;have hfit:=Q7 (ha.trans hq);have hok:=aeo hfit;have hlen:=Vo hfit;have b1:=mc 1 f.ai;have b3:=mc 3 f.ai;have hbl:(nP f).length<=1000000:=by unfold nP;rw[zl];omega
  have e23:=aoF hN (by omega) (by omega) hfit;have e25:=arA Wf hok hfit.nn hbl hfit.vol.2;have e26:=anV Wf hok;have e37:=aqQ e23 hok;have e38:=auz e23 hok hfit.nn hbl hfit.vol.2;have e39:=al5 f (mb hc) (by omega);have e35:=ahs (l:=[]) (by simp);cases hs:sgB (fZ f v (nP f))with
  |false=>
   rw[hs]at e26 e37;simp only[yO,ek]at e26 e37;exact I9 abo ((ax5 f v).trans (by simp[og,ob,ads,e53,e76,e55,e25,e26,e37,e38,e39,e35]))
  |true=>
   rw[hs]at e26 e37;simp only[cD]at e26 e37;have ho:(SU (fZ f v (nP f))).bk.length<=1000:=by
    unfold SU;rw[zA];omega
   have q1:=ahs ho;have q2:=SR _ ho;have q3:=Ti _ ho;have q4:=Xk _ ho;exact I9 adO ((avB f v).trans (by simp[og,ob,ads,e53,e76,e55,e25,e26,e37,e38,e39,e35,q1,q2,q3,q4]))
end Go.Proofs.YtnfljbehcffmcaaGreat
end
noncomputable section
namespace Go.Iv
variable [U:qz]
open Go Go.RowKit Go.Deep Go.ChangeShapes Go.WideShapes Go.Joins
def akh{P:Program}{f:FuncId}{args:aa AV}(h:Iv.Fn P f args [] (λa s=>a= .b J/\s=[])){A:Nat->Prop}{w:World}{vs:aa Value}(hr:bJ A w args vs):
  Calls P f vs.toArray w λe w'=>∃v,e= .returned v/\v= .bool J/\Below w.heap.size w w':=
 (h w A vs hr ⟨λr hr=>by simp at hr,λb hb=>by simp[bF]at hb⟩ (by simp[bF])).mono λe w' ⟨v,av,σ',h1,⟨h2,h3⟩,h4,h5⟩=>by
  subst h2;exact⟨v,h1,h5.cH,h4.kp.below⟩
abbrev tS:Nat->Prop:=λ_=>True
def kB{α:Type}{H:Type}(enc:TypeId×Value->H)(P:Program)(w:World)(t:TypeId)(c:α->aa AV)(ok:α->Prop):Prop:=
 ∀(base:Nat) (fuel:Nat) (cs:aa Value) (x:DataW H×aa MemPlace),DataW.trod enc P w base (λ_=>J) J fuel t cs=I x->∃a,ok a/\bJ tS w (c a) cs
section
variable {α:Type} {H:Type} {enc:TypeId×Value->H} {P:Program} {w:World} {t e:TypeId}
def kB.int{k:IntKind}(ht:P.underlying t=I (.int k)):kB enc P w t (cN k) (λn=>(Lit.int k n).wf=J):=λbase fuel cs x h=>by
 obtain⟨n,rfl,_,hw⟩:=DataW.trod_int ht h;exact⟨n,hw,bJ.cons (.lit _) bJ.nil⟩
def kB.bool(ht:P.underlying t=I .bool):kB enc P w t cB (λ_=>True):=λbase fuel cs x h=>by
 obtain⟨b,rfl,_⟩:=DataW.trod_bool ht h;exact⟨b,trivial,bJ.cons (.lit _) bJ.nil⟩
def kB.slice{ok:U.dc e->Prop}{sz:Nat}(ht:P.underlying t=I (.slice e))(hc:P.cellsOf e=sz+1)(hs:U.sz e=sz+1)(he:kB enc P w e (U.cells e) ok):
  kB enc P w t (λl:aa (U.dc e)=>[.sl e l]) (λl=>l.length<=9223372036854775807/\∀a∈l,ok a):=λbase fuel cs x h=>by
 rcases open_slice ht h with ⟨rfl,_⟩|⟨a,len,cp,m,n,D,Pl,hcs,hb,hl,hm,hmm,_,hx⟩
 ·refine⟨[],⟨by simp,by simp⟩,bJ.cons ?_ bJ.nil⟩;exact .sl e ([]:aa (U.dc e)) S 0 (λ_ _=>default) (by simp) (by simp) (λi hi=>by simp at hi) (λi hi=>by simp at hi) (λi j a hi=>by simp at hi)
 ·subst hcs;have hmm:m=cp:=by rw[hmm];rfl
  rw[hc]at hx;have hmx:cp<=9223372036854775807:=by unfold maxLen at hm;omega
  obtain⟨CS,hCS⟩:=choose_lt (α:=aa Value×U.dc e) (p:=λi y=>w.cells? base (a.add (i*(sz+1))) (sz+1)=I y.1/\ok y.2/\bJ tS w (U.cells e y.2) y.1) (n:=len) (λi hi=>by
   obtain⟨cs',h1,h2⟩:=hx i (by omega);obtain⟨y,h3,h4⟩:=he _ _ _ _ h2;exact⟨(cs',y),h1,h3,h4⟩)
  obtain⟨l,hld⟩:∃l:aa (U.dc e),l=(zO len).map λi=>(CS i).2:=⟨_,rfl⟩;have hln:l.length=len:=by rw[hld];simp
  have hget:∀i,i<len->l[i]! =(CS i).2:=λi hi=>by
   rw[getElem!_pos l i (by omega)];simp[hld]
  refine⟨l,⟨by omega,λy hy=> ?_⟩,bJ.cons ?_ bJ.nil⟩
  ·rw[hld,zL]at hy;obtain⟨i,hi,rfl⟩:=hy;exact(hCS i (by simpa using hi)).2.1
  ·rw[<-hln];refine .sl e l (I a) cp (λi j=>(CS i).1[j]!) (by omega) (by omega) (λi hi=> ?_) (λi hi=> ?_) (λi j av hi hj=> ?_)
   ·rw[hln]at hi;obtain⟨h1,_,h3⟩:=hCS i hi;obtain⟨_,h5,_⟩:=World.cells?_some h1;rw[hget i hi,<-h3.1,h5,hs]
   ·rw[hln]at hi;obtain⟨h1,_,h3⟩:=hCS i hi;obtain⟨_,h5,h6⟩:=World.cells?_some h1;have hj:∀j,j<sz+1->w.cell? ((a.add (i*(sz+1))).add j)=I (CS i).1[j]! :=λj hj=>by
     rw[h6 j hj,getElem!_pos _ j (by omega),zq (by omega)]
    obtain⟨b,off,spot⟩:=a;have hs:spot=S:=by
     obtain⟨g1,_,_⟩:=hCS 0 (by omega);obtain⟨_,g5,g6⟩:=World.cells?_some g1;have:=World.cell?_spot (v:=(CS 0).1[0]!) (w:=w) (a:=((⟨b,off,spot⟩:Addr).add (0*(sz+1))).add 0) (by rw[g6 0 (by omega),getElem!_pos _ 0 (by omega),zq (by omega)]);simpa [Addr.add]using this
    subst hs;have hj':∀j,j<sz+1->w.cell? ⟨b,off+i*(sz+1)+j,S⟩=I (CS i).1[j]! :=λj hlt=>by
     have:=hj j hlt;have ap:∀o i:Nat,(⟨b,o,S⟩:Addr).add i=⟨b,o+i,S⟩:=λo i=>by
      unfold Addr.add;split
      ·rename_i h0;simp only[h0,yd]
      ·rfl
     rw[ap,ap]at this;exact this
    exact⟨b,off,rfl,World.block_lt_of_cell? w _ (hj' 0 (by omega)),trivial,by rw[hs];exact hj'⟩
   ·rw[hln]at hi;rw[hget i hi]at hj;obtain⟨h1,_,h3⟩:=hCS i hi;obtain⟨v,q1,q2⟩:=h3.get hj;show Rel tS w av (CS i).1[j]!;obtain⟨q3,q4⟩:=zY.1 q1;rw[getElem!_pos _ j q3,q4];exact q2
def kB.agg{c:α->aa AV}{ok:α->Prop}{v:Value}{cs:Array Value}{d:DataW H}{p:aa MemPlace}(he:kB enc P w t c ok)(hv:v= .agg cs)(h:DataW.Trod enc P w 0 (λ_=>J) J t v d p):∃a,ok a/\Rel tS w (.agg (c a)) v:=by
 obtain⟨fuel,hf⟩:=h;subst hv;obtain⟨l⟩:=cs;obtain⟨a,h1,h2⟩:=he _ _ _ _ hf;exact⟨a,h1,Rel.nE h2⟩
end
def cK{A:Nat->Prop}{w:World}{xs bs:aa AV}{us:aa Value}{n:Nat}(h:bJ A w xs (us.take n))(h':bJ A w bs (us.drop n)):bJ A w (xs++bs) us:=by
 have:=h.app h'
 rwa [xp]at this
def GU(B:Nat){α:Type}{H:Type}(enc:TypeId×Value->H)(P:Program)(w:World)(t:TypeId)(c:α->aa AV)(ok:α->Prop):Prop:=
 ∀(base:Nat) (fuel:Nat),fuel<B->∀(cs:aa Value) (x:DataW H×aa MemPlace),DataW.trod enc P w base (λ_=>J) J fuel t cs=I x->∃a,ok a/\bJ tS w (c a) cs
section
variable {α:Type} {H:Type} {enc:TypeId×Value->H} {P:Program} {w:World} {t e:TypeId}
def kB.ofB{c:α->aa AV}{ok:α->Prop}(h:∀B,GU B enc P w t c ok):kB enc P w t c ok:=λbase fuel cs x hx=>h (fuel+1) base fuel (zB _) cs x hx
def kB.str(ht:P.underlying t=I .string):kB enc P w t (λs=>[.s s]) (λ_=>True):=λbase fuel cs x h=>by
 obtain⟨b,rfl,_⟩:=DataW.trod_string ht h;exact⟨b,trivial,bJ.cons (.lit _) bJ.nil⟩
def kB.any{c:α->aa AV}{ok:α->Prop}(h:kB enc P w t c ok):kB enc P w t c (λ_=>True):=λbase fuel cs x hx=>by
 obtain⟨a,_,r⟩:=h base fuel cs x hx;exact⟨a,trivial,r⟩
def GU.slice{B:Nat}{ok:U.dc e->Prop}{sz:Nat}(ht:P.underlying t=I (.slice e))(hc:P.cellsOf e=sz+1)(hs:U.sz e=sz+1)(he:GU B enc P w e (U.cells e) ok):
  GU B enc P w t (λl:aa (U.dc e)=>[.sl e l]) (λl=>l.length<=9223372036854775807/\∀a∈l,ok a):=λbase fuel hB cs x h=>by
 rcases DataW.trod_slice ht h with ⟨rfl,_⟩|⟨a,len,cp,elems,rest,n,hfu,hcs,_,hb,hl,hm,hlen,hx,_,_⟩
 ·refine⟨[],⟨by simp,by simp⟩,bJ.cons ?_ bJ.nil⟩;exact .sl e ([]:aa (U.dc e)) S 0 (λ_ _=>default) (by simp) (by simp) (λi hi=>by simp at hi) (λi hi=>by simp at hi) (λi j a hi=>by simp at hi)
 ·subst hcs;rw[hc]at hx;have hmx:cp<=9223372036854775807:=by unfold maxLen at hm;omega
  obtain⟨CS,hCS⟩:=choose_lt (α:=aa Value×U.dc e) (p:=λi y=>w.cells? base (a.add (i*(sz+1))) (sz+1)=I y.1/\ok y.2/\bJ tS w (U.cells e y.2) y.1) (n:=len) (λi hi=>by
   have hk:=hx i hi;rw[zq (show i<elems.length by omega)]at hk;obtain⟨cs',h1,h2⟩:=zn.1 hk;obtain⟨y,h3,h4⟩:=he _ n (by omega) _ _ h2;exact⟨(cs',y),h1,h3,h4⟩)
  obtain⟨l,hld⟩:∃l:aa (U.dc e),l=(zO len).map λi=>(CS i).2:=⟨_,rfl⟩;have hln:l.length=len:=by rw[hld];simp
  have hget:∀i,i<len->l[i]! =(CS i).2:=λi hi=>by
   rw[getElem!_pos l i (by omega)];simp[hld]
  refine⟨l,⟨by omega,λy hy=> ?_⟩,bJ.cons ?_ bJ.nil⟩
  ·rw[hld,zL]at hy;obtain⟨i,hi,rfl⟩:=hy;exact(hCS i (by simpa using hi)).2.1
  ·rw[<-hln];refine .sl e l (I a) cp (λi j=>(CS i).1[j]!) (by omega) (by omega) (λi hi=> ?_) (λi hi=> ?_) (λi j av hi hj=> ?_)
   ·rw[hln]at hi;obtain⟨h1,_,h3⟩:=hCS i hi;obtain⟨_,h5,_⟩:=World.cells?_some h1;rw[hget i hi,<-h3.1,h5,hs]
   ·rw[hln]at hi;obtain⟨h1,_,h3⟩:=hCS i hi;obtain⟨_,h5,h6⟩:=World.cells?_some h1;have hj:∀j,j<sz+1->w.cell? ((a.add (i*(sz+1))).add j)=I (CS i).1[j]! :=λj hj=>by
     rw[h6 j hj,getElem!_pos _ j (by omega),zq (by omega)]
    obtain⟨b,off,spot⟩:=a;have hs:spot=S:=by
     obtain⟨g1,_,_⟩:=hCS 0 (by omega);obtain⟨_,g5,g6⟩:=World.cells?_some g1;have:=World.cell?_spot (v:=(CS 0).1[0]!) (w:=w) (a:=((⟨b,off,spot⟩:Addr).add (0*(sz+1))).add 0) (by rw[g6 0 (by omega),getElem!_pos _ 0 (by omega),zq (by omega)]);simpa [Addr.add]using this
    subst hs;have hj':∀j,j<sz+1->w.cell? ⟨b,off+i*(sz+1)+j,S⟩=I (CS i).1[j]! :=λj hlt=>by
     have:=hj j hlt;have ap:∀o i:Nat,(⟨b,o,S⟩:Addr).add i=⟨b,o+i,S⟩:=λo i=>by
      unfold Addr.add;split
      ·rename_i h0;simp only[h0,yd]
      ·rfl
     rw[ap,ap]at this;exact this
    exact⟨b,off,rfl,World.block_lt_of_cell? w _ (hj' 0 (by omega)),trivial,by rw[hs];exact hj'⟩
   ·rw[hln]at hi;rw[hget i hi]at hj;obtain⟨h1,_,h3⟩:=hCS i hi;obtain⟨v,q1,q2⟩:=h3.get hj;show Rel tS w av (CS i).1[j]!;obtain⟨q3,q4⟩:=zY.1 q1;rw[getElem!_pos _ j q3,q4];exact q2
end
end Go.Iv
end
noncomputable section
set_option maxRecDepth 100000
namespace Go.Proofs.YtnfljbehcffmcaaGreat
open Go Go.Iv Go.RowKit Go.Deep Go.ChangeShapes Go.WideShapes Go.Joins
section
variable {H:Type} {enc:TypeId×Value->H} {w:World}
def og9:kB enc wJ w 9 (λs=>[.s s]) (λ_=>True):=kB.str underlying9
def aoy:kB enc wJ w 129 (cN .i64) (λ_=>True):=(kB.int underlying129).any
def X6:kB enc wJ w 3 (cN .i64) (λ_=>True):=(kB.int underlying3).any
def an7:kB enc wJ w 131 (uni.cells 131) (λ_=>True):=λbase fuel cs x h=>by
 obtain⟨xs,n,hfu,rfl,hl,hlen,hf⟩:=DataW.trod_struct underlying131 h;rw[show wJ.cellsOf 131=5 from by kernel_rfl]at hl;have hlen:xs.length=5:=hlen;have f0:DataW.trod enc wJ w base (λ_=>J) J n 9 ((cs.drop 0).take (wJ.cellsOf 9))=xs[0]? :=hf 0 _ rfl;rw[show wJ.cellsOf 9=1 from by kernel_rfl,zq (show 0<xs.length by omega)]at f0;obtain⟨a0,_,r0⟩:=og9 _ _ _ _ f0;have f1:DataW.trod enc wJ w base (λ_=>J) J n 129 ((cs.drop 1).take (wJ.cellsOf 129))=xs[1]? :=hf 1 _ rfl;rw[show wJ.cellsOf 129=1 from by kernel_rfl,zq (show 1<xs.length by omega)]at f1;obtain⟨a1,_,r1⟩:=aoy _ _ _ _ f1;have f2:DataW.trod enc wJ w base (λ_=>J) J n 3 ((cs.drop 2).take (wJ.cellsOf 3))=xs[2]? :=hf 2 _ rfl;rw[show wJ.cellsOf 3=1 from by kernel_rfl,zq (show 2<xs.length by omega)]at f2;obtain⟨a2,_,r2⟩:=X6 _ _ _ _ f2;have f3:DataW.trod enc wJ w base (λ_=>J) J n 3 ((cs.drop 3).take (wJ.cellsOf 3))=xs[3]? :=hf 3 _ rfl;rw[show wJ.cellsOf 3=1 from by kernel_rfl,zq (show 3<xs.length by omega)]at f3;obtain⟨a3,_,r3⟩:=X6 _ _ _ _ f3;have f4:DataW.trod enc wJ w base (λ_=>J) J n 3 ((cs.drop 4).take (wJ.cellsOf 3))=xs[4]? :=hf 4 _ rfl;rw[show wJ.cellsOf 3=1 from by kernel_rfl,zq (show 4<xs.length by omega)]at f4;obtain⟨a4,_,r4⟩:=X6 _ _ _ _ f4;have e:bJ tS w [] (cs.drop 5):=by rw[xM (by omega)];exact bJ.nil
 have s4:=cK (us:=cs.drop 4) r4 (by rw[zV];exact e);have s3:=cK (us:=cs.drop 3) r3 (by rw[zV];exact s4);have s2:=cK (us:=cs.drop 2) r2 (by rw[zV];exact s3);have s1:=cK (us:=cs.drop 1) r1 (by rw[zV];exact s2);have s0:=cK (us:=cs.drop 0) r0 (by rw[zV];exact s1);exact⟨(⟨a0,a1,a2,a3,a4⟩:aS),trivial,s0⟩
def axX:kB enc wJ w 22 (λl:aa (uni.dc 131)=>[.sl 131 l]) (λl=>l.length<=9223372036854775807/\∀a∈l,True):=kB.slice (e:=131) (sz:=4) underlying22 (by kernel_rfl) rfl an7
def arv:kB enc wJ w 134 (cN .i64) (λ_=>True):=(kB.int underlying134).any
def WK:∀B,GU B enc wJ w 137 (uni.cells 137) (λ_=>True)
 |0=>λbase fuel hB=>dg hB (yC _)
 |B+1=>λbase fuel hB cs x h=>by
  have ih:=WK B;obtain⟨xs,n,hfu,rfl,hl,hlen,hf⟩:=DataW.trod_struct underlying137 h;rw[show wJ.cellsOf 137=3 from by kernel_rfl]at hl;have hlen:xs.length=3:=hlen;have f0:DataW.trod enc wJ w base (λ_=>J) J n 134 ((cs.drop 0).take (wJ.cellsOf 134))=xs[0]? :=hf 0 _ rfl;rw[show wJ.cellsOf 134=1 from by kernel_rfl,zq (show 0<xs.length by omega)]at f0;obtain⟨a0,_,r0⟩:=arv _ _ _ _ f0;have f1:DataW.trod enc wJ w base (λ_=>J) J n 3 ((cs.drop 1).take (wJ.cellsOf 3))=xs[1]? :=hf 1 _ rfl;rw[show wJ.cellsOf 3=1 from by kernel_rfl,zq (show 1<xs.length by omega)]at f1;obtain⟨a1,_,r1⟩:=X6 _ _ _ _ f1;have f2:DataW.trod enc wJ w base (λ_=>J) J n 135 ((cs.drop 2).take (wJ.cellsOf 135))=xs[2]? :=hf 2 _ rfl;rw[show wJ.cellsOf 135=1 from by kernel_rfl,zq (show 2<xs.length by omega)]at f2;obtain⟨a2,_,r2⟩:=GU.slice (t:=135) (e:=137) (sz:=2) underlying135 (by kernel_rfl) rfl ih base n (by omega) _ _ f2;have e:bJ tS w [] (cs.drop 3):=by rw[xM (by omega)];exact bJ.nil
  have s2:=cK (us:=cs.drop 2) r2 (by rw[zV];exact e);have s1:=cK (us:=cs.drop 1) r1 (by rw[zV];exact s2);have s0:=cK (us:=cs.drop 0) r0 (by rw[zV];exact s1);exact⟨(⟨a0,a1,a2⟩:ax),trivial,s0⟩
def ago:kB enc wJ w 137 (uni.cells 137) (λ_=>True):=kB.ofB WK
def ass:kB enc wJ w 139 (uni.cells 139) (λ_=>True):=λbase fuel cs x h=>by
 obtain⟨xs,n,hfu,rfl,hl,hlen,hf⟩:=DataW.trod_struct underlying139 h;rw[show wJ.cellsOf 139=6 from by kernel_rfl]at hl;have hlen:xs.length=4:=hlen;have f0:DataW.trod enc wJ w base (λ_=>J) J n 9 ((cs.drop 0).take (wJ.cellsOf 9))=xs[0]? :=hf 0 _ rfl;rw[show wJ.cellsOf 9=1 from by kernel_rfl,zq (show 0<xs.length by omega)]at f0;obtain⟨a0,_,r0⟩:=og9 _ _ _ _ f0;have f1:DataW.trod enc wJ w base (λ_=>J) J n 3 ((cs.drop 1).take (wJ.cellsOf 3))=xs[1]? :=hf 1 _ rfl;rw[show wJ.cellsOf 3=1 from by kernel_rfl,zq (show 1<xs.length by omega)]at f1;obtain⟨a1,_,r1⟩:=X6 _ _ _ _ f1;have f2:DataW.trod enc wJ w base (λ_=>J) J n 3 ((cs.drop 2).take (wJ.cellsOf 3))=xs[2]? :=hf 2 _ rfl;rw[show wJ.cellsOf 3=1 from by kernel_rfl,zq (show 2<xs.length by omega)]at f2;obtain⟨a2,_,r2⟩:=X6 _ _ _ _ f2;have f3:DataW.trod enc wJ w base (λ_=>J) J n 137 ((cs.drop 3).take (wJ.cellsOf 137))=xs[3]? :=hf 3 _ rfl;rw[show wJ.cellsOf 137=3 from by kernel_rfl,zq (show 3<xs.length by omega)]at f3;obtain⟨a3,_,r3⟩:=ago _ _ _ _ f3;have e:bJ tS w [] (cs.drop 6):=by rw[xM (by omega)];exact bJ.nil
 have s3:=cK (us:=cs.drop 3) r3 (by rw[zV];exact e);have s2:=cK (us:=cs.drop 2) r2 (by rw[zV];exact s3);have s1:=cK (us:=cs.drop 1) r1 (by rw[zV];exact s2);have s0:=cK (us:=cs.drop 0) r0 (by rw[zV];exact s1);exact⟨(⟨a0,a1,a2,a3⟩:cV),trivial,s0⟩
def avj:kB enc wJ w 23 (λl:aa (uni.dc 139)=>[.sl 139 l]) (λl=>l.length<=9223372036854775807/\∀a∈l,True):=kB.slice (e:=139) (sz:=5) underlying23 (by kernel_rfl) rfl ass
def apZ:kB enc wJ w 164 (cN .i64) (λ_=>True):=(kB.int underlying164).any
def arB:kB enc wJ w 27 (λl:aa (uni.dc 3)=>[.sl 3 l]) (λl=>l.length<=9223372036854775807/\∀a∈l,True):=kB.slice (e:=3) (sz:=0) underlying27 (by kernel_rfl) rfl X6
def W3:∀B,GU B enc wJ w 166 (uni.cells 166) (λ_=>True)
 |0=>λbase fuel hB=>dg hB (yC _)
 |B+1=>λbase fuel hB cs x h=>by
  have ih:=W3 B;obtain⟨xs,n,hfu,rfl,hl,hlen,hf⟩:=DataW.trod_struct underlying166 h;rw[show wJ.cellsOf 166=10 from by kernel_rfl]at hl;have hlen:xs.length=8:=hlen;have f0:DataW.trod enc wJ w base (λ_=>J) J n 164 ((cs.drop 0).take (wJ.cellsOf 164))=xs[0]? :=hf 0 _ rfl;rw[show wJ.cellsOf 164=1 from by kernel_rfl,zq (show 0<xs.length by omega)]at f0;obtain⟨a0,_,r0⟩:=apZ _ _ _ _ f0;have f1:DataW.trod enc wJ w base (λ_=>J) J n 3 ((cs.drop 1).take (wJ.cellsOf 3))=xs[1]? :=hf 1 _ rfl;rw[show wJ.cellsOf 3=1 from by kernel_rfl,zq (show 1<xs.length by omega)]at f1;obtain⟨a1,_,r1⟩:=X6 _ _ _ _ f1;have f2:DataW.trod enc wJ w base (λ_=>J) J n 3 ((cs.drop 2).take (wJ.cellsOf 3))=xs[2]? :=hf 2 _ rfl;rw[show wJ.cellsOf 3=1 from by kernel_rfl,zq (show 2<xs.length by omega)]at f2;obtain⟨a2,_,r2⟩:=X6 _ _ _ _ f2;have f3:DataW.trod enc wJ w base (λ_=>J) J n 3 ((cs.drop 3).take (wJ.cellsOf 3))=xs[3]? :=hf 3 _ rfl;rw[show wJ.cellsOf 3=1 from by kernel_rfl,zq (show 3<xs.length by omega)]at f3;obtain⟨a3,_,r3⟩:=X6 _ _ _ _ f3;have f4:DataW.trod enc wJ w base (λ_=>J) J n 137 ((cs.drop 4).take (wJ.cellsOf 137))=xs[4]? :=hf 4 _ rfl;rw[show wJ.cellsOf 137=3 from by kernel_rfl,zq (show 4<xs.length by omega)]at f4;obtain⟨a4,_,r4⟩:=ago _ _ _ _ f4;have f5:DataW.trod enc wJ w base (λ_=>J) J n 24 ((cs.drop 7).take (wJ.cellsOf 24))=xs[5]? :=hf 5 _ rfl;rw[show wJ.cellsOf 24=1 from by kernel_rfl,zq (show 5<xs.length by omega)]at f5;obtain⟨a5,_,r5⟩:=GU.slice (t:=24) (e:=166) (sz:=9) underlying24 (by kernel_rfl) rfl ih base n (by omega) _ _ f5;have f6:DataW.trod enc wJ w base (λ_=>J) J n 24 ((cs.drop 8).take (wJ.cellsOf 24))=xs[6]? :=hf 6 _ rfl;rw[show wJ.cellsOf 24=1 from by kernel_rfl,zq (show 6<xs.length by omega)]at f6;obtain⟨a6,_,r6⟩:=GU.slice (t:=24) (e:=166) (sz:=9) underlying24 (by kernel_rfl) rfl ih base n (by omega) _ _ f6;have f7:DataW.trod enc wJ w base (λ_=>J) J n 27 ((cs.drop 9).take (wJ.cellsOf 27))=xs[7]? :=hf 7 _ rfl;rw[show wJ.cellsOf 27=1 from by kernel_rfl,zq (show 7<xs.length by omega)]at f7;obtain⟨a7,_,r7⟩:=arB _ _ _ _ f7;have e:bJ tS w [] (cs.drop 10):=by rw[xM (by omega)];exact bJ.nil
  have s7:=cK (us:=cs.drop 9) r7 (by rw[zV];exact e);have s6:=cK (us:=cs.drop 8) r6 (by rw[zV];exact s7);have s5:=cK (us:=cs.drop 7) r5 (by rw[zV];exact s6);have s4:=cK (us:=cs.drop 4) r4 (by rw[zV];exact s5);have s3:=cK (us:=cs.drop 3) r3 (by rw[zV];exact s4);have s2:=cK (us:=cs.drop 2) r2 (by rw[zV];exact s3);have s1:=cK (us:=cs.drop 1) r1 (by rw[zV];exact s2);have s0:=cK (us:=cs.drop 0) r0 (by rw[zV];exact s1);exact⟨(⟨a0,a1,a2,a3,a4,a5,a6,a7⟩:ay),trivial,s0⟩
def at0:kB enc wJ w 166 (uni.cells 166) (λ_=>True):=kB.ofB W3
def axC:kB enc wJ w 24 (λl:aa (uni.dc 166)=>[.sl 166 l]) (λl=>l.length<=9223372036854775807/\∀a∈l,True):=kB.slice (e:=166) (sz:=9) underlying24 (by kernel_rfl) rfl at0
def ayi:kB enc wJ w 26 (uni.cells 26) (λ_=>True):=λbase fuel cs x h=>by
 obtain⟨xs,n,hfu,rfl,hl,hlen,hf⟩:=DataW.trod_struct underlying26 h;rw[show wJ.cellsOf 26=3 from by kernel_rfl]at hl;have hlen:xs.length=3:=hlen;have f0:DataW.trod enc wJ w base (λ_=>J) J n 22 ((cs.drop 0).take (wJ.cellsOf 22))=xs[0]? :=hf 0 _ rfl;rw[show wJ.cellsOf 22=1 from by kernel_rfl,zq (show 0<xs.length by omega)]at f0;obtain⟨a0,_,r0⟩:=axX _ _ _ _ f0;have f1:DataW.trod enc wJ w base (λ_=>J) J n 23 ((cs.drop 1).take (wJ.cellsOf 23))=xs[1]? :=hf 1 _ rfl;rw[show wJ.cellsOf 23=1 from by kernel_rfl,zq (show 1<xs.length by omega)]at f1;obtain⟨a1,_,r1⟩:=avj _ _ _ _ f1;have f2:DataW.trod enc wJ w base (λ_=>J) J n 24 ((cs.drop 2).take (wJ.cellsOf 24))=xs[2]? :=hf 2 _ rfl;rw[show wJ.cellsOf 24=1 from by kernel_rfl,zq (show 2<xs.length by omega)]at f2;obtain⟨a2,_,r2⟩:=axC _ _ _ _ f2;have e:bJ tS w [] (cs.drop 3):=by rw[xM (by omega)];exact bJ.nil
 have s2:=cK (us:=cs.drop 2) r2 (by rw[zV];exact e);have s1:=cK (us:=cs.drop 1) r1 (by rw[zV];exact s2);have s0:=cK (us:=cs.drop 0) r0 (by rw[zV];exact s1);exact⟨(⟨a0,a1,a2⟩:aP),trivial,s0⟩
def og4:kB enc wJ w 4 cB (λ_=>True):=kB.bool underlying4
def avx:kB enc wJ w 29 (uni.cells 29) (λ_=>True):=λbase fuel cs x h=>by
 obtain⟨xs,n,hfu,rfl,hl,hlen,hf⟩:=DataW.trod_struct underlying29 h;rw[show wJ.cellsOf 29=2 from by kernel_rfl]at hl;have hlen:xs.length=2:=hlen;have f0:DataW.trod enc wJ w base (λ_=>J) J n 27 ((cs.drop 0).take (wJ.cellsOf 27))=xs[0]? :=hf 0 _ rfl;rw[show wJ.cellsOf 27=1 from by kernel_rfl,zq (show 0<xs.length by omega)]at f0;obtain⟨a0,_,r0⟩:=arB _ _ _ _ f0;have f1:DataW.trod enc wJ w base (λ_=>J) J n 4 ((cs.drop 1).take (wJ.cellsOf 4))=xs[1]? :=hf 1 _ rfl;rw[show wJ.cellsOf 4=1 from by kernel_rfl,zq (show 1<xs.length by omega)]at f1;obtain⟨a1,_,r1⟩:=og4 _ _ _ _ f1;have e:bJ tS w [] (cs.drop 2):=by rw[xM (by omega)];exact bJ.nil
 have s1:=cK (us:=cs.drop 1) r1 (by rw[zV];exact e);have s0:=cK (us:=cs.drop 0) r0 (by rw[zV];exact s1);exact⟨(⟨a0,a1⟩:cz),trivial,s0⟩
end
end Go.Proofs.YtnfljbehcffmcaaGreat
end
