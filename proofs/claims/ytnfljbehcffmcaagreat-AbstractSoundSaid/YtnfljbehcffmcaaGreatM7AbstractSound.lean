/- Merged: Ng4, Ng5, Ht, Ng6, Ng7, Hv, Nh2, Iy1, Iy2, Opd, Qg. -/
import Derived.Test.YtnfljbehcffmcaaGreatM6AbstractSound
import Derived.Test.YtnfljbehcffmcaaGreatM2AbstractSound
import Derived.Test.YtnfljbehcffmcaaGreatM5AbstractSound
import Derived.Deep.Slices
import Derived.Lib.SmallJoins
open Int renaming toNat_natCast → zi, le_refl → zm, mul_nonneg → zB, mul_le_mul_of_nonneg_right → zM, add_mul → zQ, one_mul → zU, mul_one → yX, lt_irrefl → xK, mul_le_mul_of_nonneg_left → xW, natCast_add → wE, toNat_mul → wG
open Nat renaming beq → zj, lt_succ_self → zC, le_refl → zI, le_trans → zJ, add_mul → yd, add_zero → yq, not_lt_zero → yK, one_mul → xA, sub_self → xU
open SizeOf renaming sizeOf → zk
open Bool renaming and_eq_true → zn, true → G, false → I
open List renaming mem_cons_self → zo, length_append → zq, getElem?_eq_getElem → zw, all_eq_true → zA, mem_singleton → zD, mem_cons → zF, mem_cons_of_mem → zH, length_map → zL, mem_map → zN, range → zP, take_length → zR, mem_append → zV, drop_drop → zW, mem_filter → zY, map_congr_left → z7, getElem?_eq_some_iff → ya, length_set → yc, getElem_map → ye, length_filter_le → yE, nodup_append → yG, mem_append_left → yH, mem_append_right → yI, length_singleton → yL, mem_iff_getElem → xd, take_append_drop → xj, getElem_append_right → xm, getElem_append_left → xG, drop_of_length_le → xL, mem_of_mem_drop → xS, mem_of_mem_take → wq, getElem_set → wF, getElem_range → wQ, ext_getElem → wR
open Option renaming bind_eq_some_iff → zx, isSome_iff_exists → vh, some → Q, none → V
open Decidable renaming decide → O
open Go.Proofs.Tryz renaming prog → vi
open Go.Proofs.Tryz
set_option linter.unusedSectionVars false
set_option linter.unusedVariables false
set_option linter.unusedSimpArgs false
set_option linter.defProp false
noncomputable section
set_option maxRecDepth 100000
namespace Go.Proofs.YtnfljbehcffmcaaGreat
open Go Go.Iv
open Go.IntKind (i64 u64)
structure RS (c:CS) (s:au):Prop where
 vm:VM c.vals s
 cnt:bk s.aC c.outs.length
 sl:c.outs.length<=s.aA.length
 outs:∀i,i<c.outs.length->bk s.aA[i]! c.outs[i]!
 time:bk s.aF c.time
def RI{vars:aa aS}{s:au}{k:Nat}{B d:Int}{c:CS}(h:RS c s)(i:rD vars s k B)(h0:0<=d)(hB0:0<=B)(hB:B+d<=1000000000):RS (c.add d) (ij s d):=by
 have h1:=i.t1;exact⟨h.vm,h.cnt,h.sl,h.outs,(AH i.ok.time h0 (by omega) (by omega)).2.2 _ h.time⟩
def Ss{f:aQ}(hv:bY f.ai){s:au}{k:Nat}{c:CS}(h:RS c s)(ok:dW f.ai.length k s){v:Int}(h1:0<=v)(h2:v<f.ai.length){x:aH}(hx:NN x){n:Int}(hn:bk x n):RS (ama f c v n) (Hl f s v x):=by
 have hl:=ok.len;obtain⟨v1,v2⟩:=h.vm;have hb:=hv _ (aV (show v.toNat<f.ai.length by omega));refine⟨⟨?_,λi hi=> ?_⟩,h.cnt,h.sl,h.outs,h.time⟩
 ·show (c.vals.set _ _).length=(s.ai.set _ _).length;rw[yc,yc];exact v1
 ·have hi:i<(c.vals.set v.toNat (gJ n f.ai[v.toNat]!.ag f.ai[v.toNat]!.af)).length:=hi;rw[yc]at hi;show bk (s.ai.set v.toNat _)[i]! (c.vals.set v.toNat _)[i]!;rw[getElem!_pos (s.ai.set _ _) i (by rw[yc];omega),getElem!_pos (c.vals.set _ _) i (by rw[yc];omega),wF,wF];by_cases e:v.toNat=i
  ·rw[bt e,bt e];exact Bf hx (by unfold bX;omega) (by unfold bX;omega) hb.2.1 hn
  ·rw[bF e,bF e];have:=v2 i hi;rw[getElem!_pos s.ai i (by omega),getElem!_pos c.vals i hi]at this;exact this
def acj{n m:Nat}{s:au}{c:CS}(h:RS c s)(k:dW n m s)(ci:CI s)(hm:m<=1000000){x:aH}(hx:NN x){y:Int}(hy:bk x y):RS ⟨c.vals,c.outs++[y],c.time⟩ (AZ s x):=by
 have hs:=k.sl;have hh:=ci.hi;have hsl:=h.sl;obtain⟨_,_,e3⟩:=AH k.count (c:=1) (by decide) (by decide) (by omega);have hlen:(AZ s x).aA.length=s.aA.length+1:=by simp[AZ,dR]
 refine⟨h.vm,?_,?_,λi hi=> ?_,h.time⟩
 ·show bk (iq 8 s.aC (dN 1)) _;have:=e3 _ h.cnt;rw[zq,yL];exact this
 ·show (c.outs++[y]).length<=(AZ s x).aA.length;rw[hlen,zq,yL];omega
 ·have hi:i<(c.outs++[y]).length:=hi;rw[zq,yL]at hi;show bk (iT s.aA.length (λk=>if cu s.aC k=G then cc s.aA[k]! x else s.aA[k]!)++[x])[i]! (c.outs++[y])[i]!;have hlt:=dR s.aA.length (λk=>if cu s.aC k=G then cc s.aA[k]! x else s.aA[k]!);have hg:∀j,j<s.aA.length->(iT s.aA.length (λk=>if cu s.aC k=G then cc s.aA[k]! x else s.aA[k]!))[j]! =if cu s.aC (j:Nat)=G then cc s.aA[j]! x else s.aA[j]! :=λj hj=>fK hj
  generalize iT s.aA.length (λk=>if cu s.aC k=G then cc s.aA[k]! x else s.aA[k]!)=T at*;by_cases e:i<s.aA.length
  ·rw[getElem!_pos (T++[x]) i (by rw[zq];omega),xG (by omega),<-getElem!_pos T i (by omega),hg i e];by_cases ec:i<c.outs.length
   ·rw[getElem!_pos (c.outs++[y]) i (by rw[zq];omega),xG ec,<-getElem!_pos c.outs i ec];have:=h.outs i ec;split
    ·exact iZ (.inr (k.slots i e)) (.inr hx) this
    ·exact this
   ·have ei:i=c.outs.length:=by omega
    subst ei;rw[getElem!_pos (c.outs++[y]) _ (by simp),xm (zI _)];rw[bt (e9 h.cnt)];simp only[xU,List.getElem_cons_zero];exact iX (.inr (k.slots _ e)) (.inr hx) hy
  ·have ei:i=c.outs.length:=by omega
   have e2:i=s.aA.length:=by omega
   rw[getElem!_pos (T++[x]) i (by rw[zq,yL];omega),xm (by omega),getElem!_pos (c.outs++[y]) i (by rw[zq,yL];omega),xm (by omega)];simpa using hy
def F1{vars:aa aS}{s t:au}{k:Nat}{B:Int}{c:CS}(i:rD vars s k B)(j:rD vars t k B)(h:RS c s):RS c (iC s t):=by
 have l1:=i.ok.len;obtain⟨v1,v2⟩:=h.vm;have hs:=h.sl;refine⟨⟨?_,λq hq=> ?_⟩,iZ (.inr i.ok.count) (.inr j.ok.count) h.cnt,?_,λq hq=> ?_,iZ (.inr i.ok.time) (.inr j.ok.time) h.time⟩
 ·show c.vals.length=(iT _ _).length;rw[dR];exact v1
 ·show bk (iT _ _)[q]! _;rw[fK (by omega)];exact iZ (.inr (i.ok.vars q (by omega))) (.inr (j.ok.vars q (by omega))) (v2 q hq)
 ·show c.outs.length<=(iT _ _).length;rw[dR];omega
 ·show bk (iT _ _)[q]! _;rw[fK (by omega)];unfold Yq;rw[iB];split
  ·exact h.outs q hq
  ·exact iZ (.inr (i.ok.slots q (by omega))) (.inr (j.ok.slots q (by omega))) (h.outs q hq)
def FF{vars:aa aS}{s t:au}{k:Nat}{B:Int}{c:CS}(i:rD vars s k B)(j:rD vars t k B)(h:RS c t):RS c (iC s t):=by
 have l1:=i.ok.len;have l2:=j.ok.len;obtain⟨v1,v2⟩:=h.vm;have hs:=h.sl;refine⟨⟨?_,λq hq=> ?_⟩,iX (.inr i.ok.count) (.inr j.ok.count) h.cnt,?_,λq hq=> ?_,iX (.inr i.ok.time) (.inr j.ok.time) h.time⟩
 ·show c.vals.length=(iT _ _).length;rw[dR];omega
 ·show bk (iT _ _)[q]! _;rw[fK (by omega)];exact iX (.inr (i.ok.vars q (by omega))) (.inr (j.ok.vars q (by omega))) (v2 q hq)
 ·show c.outs.length<=(iT _ _).length;rw[dR];omega
 ·show bk (iT _ _)[q]! _;rw[fK (by omega)];unfold Yq;split
  ·exact h.outs q hq
  ·rw[iB];exact iX (.inr (i.ok.slots q (by omega))) (.inr (j.ok.slots q (by omega))) (h.outs q hq)
def K3{vars:aa aS}{k:Nat}{B:Int}{c:CS}:∀(l:aa au) (x:au),rD vars x k B->(∀q∈l,rD vars q k B)->(RS c x\/∃q∈l,RS c q)->RS c (l.foldl iC x)
 |[],x,_,_,h=>by
  rcases h with h|⟨q,hq,_⟩
  ·exact h
  ·cases hq
 |y::l,x,ix,il,h=>by
  have iy:=il y (zo ..);refine K3 l (iC x y) (AK ix iy) (λq hq=>il q (zH _ hq)) ?_;rcases h with h|⟨q,hq,h⟩
  ·exact .inl (F1 ix iy h)
  ·rcases zF.1 hq with rfl|hq
   ·exact .inl (FF ix iy h)
   ·exact .inr ⟨q,hq,h⟩
def TH{vars:aa aS}{k:Nat}{B:Int}{c:CS}{l:aa au}(h:∀q∈l,rD vars q k B){q:au}(hq:q∈l)(hr:RS c q):RS c (nY l):=by
 cases l with
 |nil=>cases hq
 |cons x l=>
  refine K3 l x (h x (zo ..)) (λq hq=>h q (zH _ hq)) ?_;rcases zF.1 hq with rfl|hq
  ·exact .inl hr
  ·exact .inr ⟨q,hq,hr⟩
def abV(vars:aa aS)(a:au->au)(ca:CS->CS)(o:Nat)(u:Int):Prop:=∀c s k B,rD vars s k B->0<=B->k+o<=1000000->B+u<=134217728->RS c s->RS (ca c) (a s)
def N8{vars:aa aS}(hv:bY vars){inp:Bool}{s:au}{k:Nat}{B:Int}{c:CS}(i:rD vars s k B)(h:RS c s){t:ax}(ht:eM vars inp t=0):bk (cA s.ai t) (dY c.vals t):=by
 obtain⟨hf,hs⟩:=nW ht;obtain⟨sp,e⟩:=vh.1 hs;exact(Qu hv i.ok i.va _ t (zC _) hf sp e).2 _ h.vm
def Tl{vars:aa aS}(hv:bY vars){a:au->au}{ca:CS->CS}{t:ax}{c u:Int}{o:Nat}(ht:eM vars I t=0)(hc:0<=c)(hu:0<=u)(ha:D8 vars a o u)(hr:abV vars a ca o u):∀(N:Nat) (x:CS) (s:au) (k:Nat) (B:Int),rD vars s k B->0<=B->k+N*o<=1000000->B+N*(c+u)<=134217728->RS x s->∃q∈jv a t c N s,RS (qE ca t c N x) q
 |0,x,s,k,B,_,_,_,_,h=>⟨s,by rw[jv];exact zD.2 rfl,by rw[qE];exact h⟩
 |n+1,x,s,k,B,i,hB,hm,hb,h=>by
  have en:((n+1:Nat):Int)*(c+u)=n*(c+u)+(c+u):=by rw[wE,zQ];simp
  have p:0<=(n:Int)*(c+u):=zB (by omega) (by omega);have eo:(n+1)*o=n*o+o:=by rw[yd,xA]
  rw[en]at hb;rw[eo]at hm;have i1:=uV i hc (by omega) hB;have r1:=RI h i hc hB (by omega);have hx:=N8 hv i h ht;rw[jv,qE];by_cases hz:dY x.vals t=0
  ·rw[bt hz];rw[hz]at hx;exact⟨ij s c,yH _ (by rw[bt (e9 hx)];exact zD.2 rfl),r1⟩
  ·rw[bF hz];have ho:cl (cA s.ai t)=G:=(fR (.inr (gF i.ok t ht))).mpr ⟨_,hx,hz⟩;have i2:=ha _ _ _ i1 (by omega) (by omega) (by omega);have r2:=hr _ _ _ _ i1 (by omega) (by omega) (by omega) r1;obtain⟨q,hq,hqr⟩:=Tl hv ht hc hu ha hr n (ca (x.add c)) (a (ij s c)) (k+o) (B+c+u) i2 (by omega) (by omega) (by omega) r2;exact⟨q,yI _ (by rw[bt ho];exact hq),hqr⟩
def FU:∀(l:aa Int) (t:Int),E7 l t=lI l t
 |[],_=>rfl
 |b::l,t=>by rw[E7,lI,FU l t]
def Y0{f:aQ}(hv:bY f.ai){hs:aa aH}{hc:aa Int}(hh:hs.length=f.ak.length)(hvn:∀i,i<hs.length->NN hs[i]!)(hm:∀i,i<hs.length->bk hs[i]! hc[i]!){a b:au->au}{ca cb:CS->CS}{last:Bool}{x:ay}(hx:CT f last x)
  (p1:0<=(cC x.aD).2.1/\0<=(cC x.aD).2.2) (p2:0<=(cC x.aJ).2.1/\0<=(cC x.aJ).2.2)
  (ka:D8 f.ai a (cv x.aD) (cC x.aD).2.2) (kb:D8 f.ai b (cv x.aJ) (cC x.aJ).2.2)
  (ra:abV f.ai a ca (cv x.aD) (cC x.aD).2.2) (rb:abV f.ai b cb (cv x.aJ) (cC x.aJ).2.2)
  {c:CS} {s:au} {k:Nat} {B:Int} (i:rD f.ai s k B) (hB0:0<=B) (hk:k+(uO x).1.toNat<=1000000) (hB:B+(uO x).2<=134217728) (h:RS c s):RS (sx f hc ca cb x c) (l8 f hs a b x s):=by
 have hcost:=hx.cost;have hvl:=gF i.ok x.az hx.term;have hval:=N8 hv i h hx.term;revert hk hB;unfold l8 sx uO;by_cases a4:x.bN=4
 ·simp only[a4,Int.reduceEq,bZ,dA];intro hk hB;have hn:=hx.n4 a4;have e:(x.fN*(cC x.aD).2.1).toNat=x.fN.toNat*cv x.aD:=by rw[cv,wG hn.1 p1.1]
  have e2:x.fN*(x.aN+(cC x.aD).2.2)=(x.fN.toNat:Int)*(x.aN+(cC x.aD).2.2):=by rw[show ((x.fN.toNat:Nat):Int)=x.fN by omega]
  rw[e]at hk;rw[e2]at hB;obtain⟨q,hq,hqr⟩:=Tl hv hx.term hcost.1 p1.2 ka ra x.fN.toNat c s k B i hB0 hk hB h;exact TH (EV hcost.1 p1.2 ka x.fN.toNat s k B i hB0 hk hB) hq hqr
 have addi:B+x.aN<=134217728->rD f.ai (ij s x.aN) k (B+x.aN):=λhB=>uV i hcost.1 (by omega) hB0;have addr:B+x.aN<=134217728->RS (c.add x.aN) (ij s x.aN):=λhB=>RI h i hcost.1 hB0 (by omega);by_cases a0:x.bN=0
 ·simp only[a0,Int.reduceEq,bZ,dA];intro hk hB;obtain⟨v1,v2⟩:=hx.var (.inl a0);exact Ss hv (addr hB) (addi hB).ok v1 v2 hvl hval
 by_cases a1:x.bN=1
 ·simp only[a1,Int.reduceEq,bZ,dA];intro hk hB;exact acj (addr hB) (addi hB).ok (addi hB).ci (by omega) hvl hval
 by_cases a5:x.bN=5
 ·simp only[a5,Int.reduceEq,bZ,dA];intro hk hB;obtain⟨v1,v2⟩:=hx.var (.inr a5);obtain⟨n1,n2⟩:=hx.n5 a5;exact Ss hv (addr hB) (addi hB).ok v1 v2 (hvn x.fN.toNat (by omega)) (hm x.fN.toNat (by omega))
 by_cases a3:x.bN=3
 ·simp only[a3,Int.reduceEq,bZ,dA];intro hk hB;have i1:=addi (by omega);have r1:=addr (by omega);have m1:k+cv x.aD<=1000000:=by unfold cv;omega
  have m2:k+cv x.aJ<=1000000:=by unfold cv;omega
  have q1:B+x.aN+(cC x.aD).2.2<=134217728:=by omega
  have q2:B+x.aN+(cC x.aJ).2.2<=134217728:=by omega
  unfold XM;by_cases hz:dY c.vals x.az=0
  ·rw[bF (show ¬dY c.vals x.az≠0 from λe=>e hz)];rw[hz]at hval;rw[e9 hval,bF (by decide)];split
   ·exact rb _ _ _ _ i1 (by omega) m2 q2 r1
   ·exact FF ((ka _ _ _ i1 (by omega) m1 q1).weak (show k+cv x.aD<=k+max (cv x.aD) (cv x.aJ)by omega) (show B+x.aN+(cC x.aD).2.2<=B+x.aN+max (cC x.aD).2.2 (cC x.aJ).2.2 by omega)) ((kb _ _ _ i1 (by omega) m2 q2).weak (show k+cv x.aJ<=k+max (cv x.aD) (cv x.aJ)by omega) (show B+x.aN+(cC x.aJ).2.2<=B+x.aN+max (cC x.aD).2.2 (cC x.aJ).2.2 by omega)) (rb _ _ _ _ i1 (by omega) m2 q2 r1)
  ·rw[bt (show dY c.vals x.az≠0 from hz)];have ho:cl (cA s.ai x.az)=G:=(fR (.inr hvl)).mpr ⟨_,hval,hz⟩;split
   ·exact ra _ _ _ _ i1 (by omega) m1 q1 r1
   ·rw[ho,bF (by decide)];exact F1 ((ka _ _ _ i1 (by omega) m1 q1).weak (show k+cv x.aD<=k+max (cv x.aD) (cv x.aJ)by omega) (show B+x.aN+(cC x.aD).2.2<=B+x.aN+max (cC x.aD).2.2 (cC x.aJ).2.2 by omega)) ((kb _ _ _ i1 (by omega) m2 q2).weak (show k+cv x.aJ<=k+max (cv x.aD) (cv x.aJ)by omega) (show B+x.aN+(cC x.aJ).2.2<=B+x.aN+max (cC x.aD).2.2 (cC x.aJ).2.2 by omega)) (ra _ _ _ _ i1 (by omega) m1 q1 r1)
 by_cases a6:x.bN=6
 ·simp only[a6,Int.reduceEq,bZ,dA];intro hk hB;obtain⟨_,q2,q3,q4,q5⟩:=hx.uM a6;have r1:=addr hB;have i1:=addi hB;refine⟨h.vm,h.cnt,h.sl,h.outs,?_⟩;obtain⟨_,_,kn,hr⟩:=n9 (a:=iq 8 s.aF (dN x.aN)) i1.ok.time q4 (by omega) (BO q2 q3 q4 q5);rcases hr with ⟨e,_⟩|hr
  ·exact cR e kn.ne
  ·exact hr.mem ⟨c.time+x.aN,r1.time,(FU _ _).symm⟩
 ·simp only[a0,a1,a3,a4,a5,a6,dA];intro hk hB;exact addr hB
def Cr{f:aQ}(hv:bY f.ai){hs:aa aH}{hc:aa Int}(hh:hs.length=f.ak.length)(hvn:∀i,i<hs.length->NN hs[i]!)(hm:∀i,i<hs.length->bk hs[i]! hc[i]!):∀(n:Nat) (l:aa ay) (top:Bool),zk l<n->b9 f top l=0->abV f.ai (jg f hs l) (iY f hc l) (cv l) (cC l).2.2
 |0,_,_,h,_=>by omega
 |n+1,[],_,_,_=>λc s k B _ _ _ _ h=>by rw[lW,uc];exact h
 |n+1,x::l,top,hn,hst=>λc s k B i hB0 hk hB h=>by
  obtain⟨h1,h2,h3,h4⟩:=dH hst;have ho:=jB h1;have hsz:=aX (zo (a:=x) (l:=l));have ht:=dc x l;have p1:=dx f n x.aD I (by omega) h2;have p2:=dx f n x.aJ I (by omega) h3;have p3:=dx f n l top (by omega) h4;have pu:=(WI ho p1 p2).2;rw[kZ hst]at hk;rw[(ig x l).2]at hB;rw[k8,Au];have kT:=pU hv hh hvn n x.aD (by omega) h2;have kE:=pU hv hh hvn n x.aJ (by omega) h3;have r1:=Y0 hv hh hvn hm ho p1 p2 kT kE (Cr hv hh hvn hm n x.aD I (by omega) h2) (Cr hv hh hvn hm n x.aJ I (by omega) h3) i hB0 (by omega) (by omega) h;by_cases a6:x.bN=6
  ·have hl:=(ho.uM a6).1;have hnil:l=[]:=by
    cases l with
    |nil=>rfl
    |cons y l=>simp at hl
   subst hnil;rw[lW,uc];exact r1
  ·have i1:=F6 hv hh hvn ho a6 p1 p2 (gE hh hvn n x.aD I (by omega) h2) kT kE i hB0 (by omega) (by omega);exact Cr hv hh hvn hm n l top (by omega) h4 _ _ _ _ i1 (by omega) (by omega) (by omega) r1
def rj{vars:aa aS}{k:Int}{i:Nat}(hi:i<vars.length)(hk:vars[i]!.bq=k):(vars.filter (kd k))[cg vars k i]! =vars[i]! :=by
 have hlt:=eW hi hk;obtain⟨j,h1,h2,h3,h4⟩:=Sf vars k vars.length (zI _) (cg vars k i) hlt;rw[zR]at h4;have e:j=i:=by
  rcases Nat.lt_trichotomy j i with h|h|h
  ·have c:=fE h1 k;rw[bt h2]at c;have:=kY (vars:=vars) (k:=k) (show j+1<=i by omega) (by omega);omega
  ·exact h
  ·have c:=fE hi k;rw[bt hk]at c;have:=kY (vars:=vars) (k:=k) (show i+1<=j by omega) (by omega);omega
 rw[h4,e]
def Rn{vars:aa aS}{i:Nat}(hi:i<vars.length)(hk:vars[i]!.bq=1):(gC vars)[cg vars 1 i]! =vars[i]! :=by
 have hlt:=eW hi hk;rw[fX]at hlt;rw[<-rj hi hk];unfold gC;rw[getElem!_pos _ _ (by rw[zq];omega),xG hlt,getElem!_pos (vars.filter (kd 1)) _ hlt]
def QI{vars:aa aS}{i:Nat}(hi:i<vars.length)(hk:vars[i]!.bq=3):(gC vars)[cg vars 1 vars.length+cg vars 3 i]! =vars[i]! :=by
 have hlt:=eW hi hk;rw[fX]at hlt;rw[<-rj hi hk];unfold gC;rw[fX,getElem!_pos _ _ (by rw[zq];omega),xm (by omega),getElem!_pos (vars.filter (kd 3)) _ hlt]
 congr 1
 omega
structure pO (f:aQ) (v:cz) (box:List aH) (inp:cY):Prop where
 s:inp.fe.length=cg f.ai 1 f.ai.length
 r:inp.fu.length=cg f.ai 3 f.ai.length
 p:inp.aR=v.aR
 b:∀j,j<box.length->bk box[j]! (inp.fe++inp.fu)[j]!
def pO.sec{f:aQ}{v:cz}{box:aa aH}{inp:cY}(h:pO f v box inp)(hf:Fits f v box){j:Nat}(hj:j<inp.fe.length):bk box[j]! inp.fe[j]! :=by
 have hb:=hf.bl;rw[mc]at hb;have h1:=h.s;have:=h.b j (by omega);rw[getElem!_pos (inp.fe++inp.fu) j (by rw[zq];omega),xG hj,<-getElem!_pos inp.fe j hj]at this;exact this
def pO.cL{f:aQ}{v:cz}{box:aa aH}{inp:cY}(h:pO f v box inp)(hf:Fits f v box){j:Nat}(hj:j<inp.fu.length):bk box[cg f.ai 1 f.ai.length+j]! inp.fu[j]! :=by
 have hb:=hf.bl;rw[mc]at hb;have h1:=h.s;have h3:=h.r;have:=h.b (cg f.ai 1 f.ai.length+j) (by omega);rw[getElem!_pos (inp.fe++inp.fu) (cg f.ai 1 f.ai.length+j) (by rw[zq];omega),xm (by omega)]at this;rw[getElem!_pos inp.fu j hj];have e:cg f.ai 1 f.ai.length+j-inp.fe.length=j:=by omega
 simp only[e]at this;exact this
def pO.start{f:aQ}{v:cz}{box:aa aH}{inp:cY}(h:pO f v box inp)(hf:Fits f v box):ud f.ai inp:=by
 have hb:=hf.bl;rw[mc]at hb;have hp:=hf.pub;rw[<-fX]at hp;refine⟨h.s,by rw[h.p];exact hp,h.r,λi hi=> ?_⟩;unfold iN;have h1:=h.s;have h3:=h.r;by_cases k1:f.ai[i]!.bq=1
 ·rw[bt k1];have hlt:=eW hi k1;have m:=h.sec hf (show cg f.ai 1 i<inp.fe.length by omega);have q:=(hf.bx (cg f.ai 1 i) (by omega)).2;rw[Rn hi k1]at q;have m1:=m.1;have m2:=m.2.1;omega
 rw[bF k1];by_cases k2:f.ai[i]!.bq=2
 ·rw[bt k2,h.p];have hlt:=eW hi k2;have q:=hf.am8 (cg f.ai 2 i) (by omega);rw[rj hi k2]at q;exact q
 rw[bF k2];by_cases k3:f.ai[i]!.bq=3
 ·rw[bt k3];have hlt:=eW hi k3;have m:=h.cL hf (show cg f.ai 3 i<inp.fu.length by omega);have q:=(hf.bx (cg f.ai 1 f.ai.length+cg f.ai 3 i) (by omega)).2;rw[QI hi k3]at q;have m1:=m.1;have m2:=m.2.1;omega
 rw[bF k3];obtain⟨q1,q2⟩:=DF hf.c hi;exact q2 (by omega)
def XB{f:aQ}{v:cz}{box:aa aH}(hf:Fits f v box):VA f.ai (gB f v box):=λi hi=>by
 have hb:=hf.bl;rw[mc]at hb;have hp:=hf.pub;rw[<-fX]at hp;show _<=(iT _ _)[i]!.ag/\(iT _ _)[i]!.af<=_;rw[fK hi];unfold gP;by_cases k1:f.ai[i]!.bq=1
 ·rw[bt k1];have hlt:=eW hi k1;have q:=(hf.bx (cg f.ai 1 i) (by omega)).2;rw[Rn hi k1]at q;exact q
 rw[bF k1];by_cases k2:f.ai[i]!.bq=2
 ·rw[bt k2];have hlt:=eW hi k2;have q:=hf.am8 (cg f.ai 2 i) (by omega);rw[rj hi k2]at q;exact q
 rw[bF k2];by_cases k3:f.ai[i]!.bq=3
 ·rw[bt k3];have hlt:=eW hi k3;have q:=(hf.bx (cg f.ai 1 f.ai.length+cg f.ai 3 i) (by omega)).2;rw[QI hi k3]at q;exact q
 rw[bF k3];obtain⟨q1,q2⟩:=DF hf.c hi;exact q2 (by omega)
def U2{f:aQ}{v:cz}{box:aa aH}(hf:Fits f v box):rD f.ai (gB f v box) 0 0:=⟨lf hf,EI f v box,XB hf,zm _,zm _⟩
def VZ{f:aQ}{v:cz}{box:aa aH}{inp:cY}(hf:Fits f v box)(h:pO f v box inp):RS ⟨gq f.ai inp,[],0⟩ (gB f v box):=by
 have hb:=hf.bl;rw[mc]at hb;have h1:=h.s;have h3:=h.r;refine⟨⟨?_,λi hi=> ?_⟩,(iM 0).mem rfl,zI _,λi hi=>cR hi (by simp),(iM 0).mem rfl⟩
 ·show (gq f.ai inp).length=(iT _ _).length;rw[dR];simp[gq]
 ·have hi:i<f.ai.length:=by simpa [gq]using hi
  have e:(gq f.ai inp)[i]! =iN f.ai inp i:=by
   unfold gq;rw[getElem!_pos _ i (by simpa using hi),ye,wQ]
  show bk (iT _ _)[i]! (gq f.ai inp)[i]!;rw[fK hi,e];unfold gP iN;by_cases k1:f.ai[i]!.bq=1
  ·rw[bt k1,bt k1];have hlt:=eW hi k1;exact h.sec hf (by omega)
  rw[bF k1,bF k1];by_cases k2:f.ai[i]!.bq=2
  ·rw[bt k2,bt k2,h.p];exact(iM _).mem rfl
  rw[bF k2,bF k2];by_cases k3:f.ai[i]!.bq=3
  ·rw[bt k3,bt k3];have hlt:=eW hi k3;exact h.cL hf (by omega)
  rw[bF k3,bF k3];exact(iM _).mem rfl
def Po{f:aQ}{v:cz}{box:aa aH}{inp:cY}(hf:Fits f v box)(h:pO f v box inp):RS (lZ f inp) (si f v box):=by
 have hc:=Ak hf.c;have h0:=lf hf;have i0:=U2 hf;have r0:=VZ hf h;have ho:cv f.bI<=8:=by have:=hc.o;unfold cv;omega
 have ht:=hc.t;refine Cr hc.vars (hs:=mX f (gB f v box)) (hc:=Uf f (gq f.ai inp)) (by simp[mX]) (uF hc h0) (λi hi=> ?_) _ f.bI G (zC _) hc.steps _ _ 0 0 i0 (zm _) (by omega) (by omega) r0;have hi:i<f.ak.length:=by simpa [mX]using hi
 unfold mX Uf;rw[getElem!_pos _ i (by simpa using hi),getElem!_pos _ i (by simpa using hi),ye,ye,<-getElem!_pos f.ak i hi];obtain⟨q1,q2⟩:=hc.hat i hi;have m:=N8 hc.vars i0 r0 q2;exact Bf (gF h0 _ q2) (by unfold bX;omega) (by unfold bX;omega) q1.2.1 m
def F94:bw:=(am6 (e89 eB))
structure KZ where
 (t2 t8:Int)
 t10:List aS
 t11:List Int
 t12:Int
def VQ:Td 0 KZ:= .c [] [2,8,10,11,12] (.r 0 2 (ec 2 aU (ec 8 aU (ec 10 (qo 0) (ec 11 (qo 1) (ec 12 aU en))))) (sr 0 131 (sr 1 3 sn)) (λz=>⟨z.1.1,z.1.2.1,z.2.1,z.t.1,z.1.q.1⟩) (λx=>((x.t2,x.t8,(),(),x.t12,()),(x.t10,x.t11,()))))
def RM(p:KZ):ah (ah KZ):=
 bif O (p.t12<p.t10.length)then if 0<=p.t12/\p.t12<p.t10.length then if 131=131/\p.t12.toNat<p.t10.length then if 0<=p.t12/\p.t12<p.t10.length then if 131=131/\p.t12.toNat<p.t10.length then if¬i64.wrap (i64.wrap (p.t10[p.t12.toNat]!.af-p.t10[p.t12.toNat]!.ag)+1)=0then if 0<=p.t12/\p.t12<p.t10.length then if 131=131/\p.t12.toNat<p.t10.length then if¬i64.wrap (p.t8.tdiv (i64.wrap (i64.wrap (p.t10[p.t12.toNat]!.af-p.t10[p.t12.toNat]!.ag)+1)))=0then if¬i64.wrap (i64.wrap (p.t10[p.t12.toNat]!.af-p.t10[p.t12.toNat]!.ag)+1)=0then if(p.t11++[i64.wrap (p.t10[p.t12.toNat]!.ag+(i64.wrap (p.t2.tdiv (i64.wrap (p.t8.tdiv (i64.wrap (i64.wrap (p.t10[p.t12.toNat]!.af-p.t10[p.t12.toNat]!.ag)+1)))))).tmod (i64.wrap (i64.wrap (p.t10[p.t12.toNat]!.af-p.t10[p.t12.toNat]!.ag)+1)))]).length<=1073741824 then Q (Q (KZ.mk p.t2 (i64.wrap (p.t8.tdiv (i64.wrap (i64.wrap (p.t10[p.t12.toNat]!.af-p.t10[p.t12.toNat]!.ag)+1)))) p.t10 (p.t11++[i64.wrap (p.t10[p.t12.toNat]!.ag+(i64.wrap (p.t2.tdiv (i64.wrap (p.t8.tdiv (i64.wrap (i64.wrap (p.t10[p.t12.toNat]!.af-p.t10[p.t12.toNat]!.ag)+1)))))).tmod (i64.wrap (i64.wrap (p.t10[p.t12.toNat]!.af-p.t10[p.t12.toNat]!.ag)+1)))]) (i64.wrap (p.t12+1))))else V else V else V else V else V else V else V else V else V else V else Q (V)
def Q6:=bJ (RM)
abbrev E94:=(aa Int)×Int
def d94:Td 0 E94:= .c [] [6,7] (.t (cU.s 6 [] 3) (.c [] [6,7] (.r 0 1 (ec 6 (qo 0) (ec 7 aU en)) (sr 0 3 sn) (λz=>(z.2.1,z.1.2.1)) (λx=>(((),x.2,()),(x.1,()))))))
def axw:∀f∈([]:aa Nat),bA (F94) f:=aI
def m94(a0:aa aS)(a1:Int)(a2:Int):ah E94:=
 match m89 a0 a1 with|V=>V|Q r1=>bif bif O (r1.snd=0)then I else G then Q ([],r1.snd)else match bif O (a2<0)then Q G else Q (O (r1.fst<=a2))with|V=>V|Q r2=>bif r2 then Q ([],3)else match Zz a0 a1 with|V=>V|Q r3=>match Q6 (KZ.mk a2 r1.fst r3 [] (0))with|V=>V|Q r4=>bif O (r4.t12<r4.t10.length)then if 0<=r4.t12/\r4.t12<r4.t10.length then if 131=131/\r4.t12.toNat<r4.t10.length then if 0<=r4.t12/\r4.t12<r4.t10.length then if 131=131/\r4.t12.toNat<r4.t10.length then if¬i64.wrap (i64.wrap (r4.t10[r4.t12.toNat]!.af-r4.t10[r4.t12.toNat]!.ag)+1)=0then if 0<=r4.t12/\r4.t12<r4.t10.length then if 131=131/\r4.t12.toNat<r4.t10.length then if¬i64.wrap (r4.t8.tdiv (i64.wrap (i64.wrap (r4.t10[r4.t12.toNat]!.af-r4.t10[r4.t12.toNat]!.ag)+1)))=0then if¬i64.wrap (i64.wrap (r4.t10[r4.t12.toNat]!.af-r4.t10[r4.t12.toNat]!.ag)+1)=0then if(r4.t11++[i64.wrap (r4.t10[r4.t12.toNat]!.ag+(i64.wrap (r4.t2.tdiv (i64.wrap (r4.t8.tdiv (i64.wrap (i64.wrap (r4.t10[r4.t12.toNat]!.af-r4.t10[r4.t12.toNat]!.ag)+1)))))).tmod (i64.wrap (i64.wrap (r4.t10[r4.t12.toNat]!.af-r4.t10[r4.t12.toNat]!.ag)+1)))]).length<=1073741824 then V else V else V else V else V else V else V else V else V else V else V else Q (r4.t11,0)
def e94:=eL vi 94 I (lc (ql 131) (bg (bg ln))) d94 (λg=>m94 g.1 g.2.1 g.t.1)
def ajV:EO e94:=λh=>kL (F:=F94) (an:=(noTwo (noTwo (noTwo (.two (.two (.rb [] 29) .no) (noTwo (noTwo (.two (noTwo (VQ.lp Q6 .no)) .no)))))))) (l:=[(.skip,(.rb [] 29)),(bE f94 0,(VQ.lp Q6 .no))]) func94 (Qo (WR aY)) (aB axw (aB (aO VQ) aI)) h
def F27:bw:=(e94 (e35 (e32 eB)))
def amu:bG vi F27:=(ajV (X0 (Wi aY)))
structure J5 where
 t2:List aH
 (t12 t14 t51:List Int)
 (t52 t53:Int)
 b0:cz
 b1:cY
def VY:Td 0 J5:= .c [] [2,6,10,12,14,51,52,53] (.r 0 5 (ec 2 (ql 34) (ec 6 (qp 0 0) (ec 10 (qp 1 0) (ec 12 (qo 2) (ec 14 (qo 3) (ec 51 (qo 4) (ec 52 aU (ec 53 aU en)))))))) (sb 0 29 (lg 29) (sb 1 52 (lc qn (lc qn (lc qn ln))) (sr 2 3 (sr 3 3 (sr 4 3 sn))))) (λz=>⟨z.1.1,z.t.2.1,z.q.1,z.q.2.1,z.1.q.t.1,z.1.q.t.2.1,z.2.1,(cY.mk [] [] [])⟩) (λx=>((x.t2,(),(),(),(),(),x.t52,x.t53,()),(x.b0,((),(),(),()),x.t12,x.t14,x.t51,()))))
def KP(p:J5):ah (ah J5):=
 bif O (p.t53<p.t52)then if 0<=p.t53/\p.t53<p.t51.length then if 3=3/\p.t53.toNat<p.t51.length then if 0<=p.t53/\p.t53<p.t2.length then match m32 p.t2[p.t53.toNat]! p.t51[p.t53.toNat]! with|V=>V|Q r1=>bif bif r1 then I else G then Q (V)else Q (Q (J5.mk p.t2 p.t12 p.t14 p.t51 p.t52 (i64.wrap (p.t53+1)) p.b0 (cY.mk [] [] [])))else V else V else V else Q (V)
def Q0:=bJ (KP)
abbrev E27:=cY×Bool
def d27:Td 0 E27:= .c [] [10,11] (.t (cU.c 0 0 [] 3) (.t (cU.c 0 2 [] 3) (.c [] [10,11] (.r 0 3 (ec 10 (qp 0 0) (ec 11 qb en)) (sb 0 52 (lc (qo 1) (lc (ql 3) (lc (qo 2) ln))) (sr 1 3 (sr 2 3 sn))) (λz=>((cY.mk z.t.1 z.2.1.2.1 z.t.2.1),z.1.2.1)) (λx=>(((),x.2,()),(((),x.1.aR,(),()),x.1.fe,x.1.fu,())))))))
def A27:=(lc (qg 26) (lc (qg 29) (lc (ql 34) (bg (bg ln)))))
def aqj:An:=(noTwo (noTwo (noTwo (noTwo (.two (.two (.rb [] 49) .no) (.two (noTwo (VY.lp Q0 .no)) .no))))))
def av1:∀f∈([]:aa Nat),bA (F27) f:=aI
def avb:gv vi (F27) 0 300 27 (aqj):=cD (l:=[(.skip,(.rb [] 49)),(bE f27 0,(VY.lp Q0 .no))]) func27 (bR (by kernel_rfl)) (by kernel_rfl) (aB av1 (aB (aO VY) aI))
def m27(a0:aQ)(a1:cz)(a2:aa aH)(a3:Int)(a4:Int):ah E27:=
 match m94 a0.ai 1 a3 with|V=>V|Q r2=>match m94 a0.ai 3 a4 with|V=>V|Q r3=>match m35 r2.fst with|V=>V|Q r4=>if(r4++r3.fst).length<=1073741824 then match bif bif O (r2.snd=0)then I else G then Q G else bif bif O (r3.snd=0)then I else G then Q G else Q (bif O ((↑(r4++r3.fst).length:Int)=(a2.length:Int))then I else G)with|V=>V|Q r5=>bif r5 then Q (cY.mk [] [] [],I)else match Q0 (J5.mk a2 r2.fst r3.fst (r4++r3.fst) (↑(r4++r3.fst).length:Int) 0 a1 (cY.mk [] [] []))with|V=>V|Q r6=>bif O (r6.t53<r6.t52)then if 0<=r6.t53/\r6.t53<r6.t51.length then if 3=3/\r6.t53.toNat<r6.t51.length then if 0<=r6.t53/\r6.t53<r6.t2.length then match m32 r6.t2[r6.t53.toNat]! r6.t51[r6.t53.toNat]! with|V=>V|Q r7=>bif bif r7 then I else G then Q (cY.mk [] [] [],I)else V else V else V else V else Q (cY.mk r6.t12 r6.b0.aR r6.t14,G)else V
def c27(a0:aQ)(a1:cz)(a2:aa aH)(a3:Int)(a4:Int):ct vi (F27) 300 (aqj) 27 (A27.c (a0,a1,a2,a3,a4,())) [] 0 d27.rd=m27 a0 a1 a2 a3 a4:=by kernel_rfl
def e27:bw->bw:=eZ vi 27 A27 d27 (λg=>m27 g.1 g.2.1 g.t.1 g.t.2.1 g.q.1)
def alo{F:bw}(h:bG vi F):bG vi (e27 F):=oE (fm amu avb (λ_=>by kernel_rfl) (λ_=>by kernel_rfl) λg=>c27 g.1 g.2.1 g.t.1 g.t.2.1 g.q.1) ⟨_,func27,by kernel_rfl,by kernel_rfl⟩ (λ_=>by kernel_rfl) h
def pX{F:bw}{f:Nat}(hne:zj f 27=I)(h:bA F f):bA (e27 F) f:=uC hne h
structure ay6 where
 t3:List aH
 t5:Int
 t10:List Int
 (t11 t12:Int)
 t17:List aS
 (t18 t19:Int)
 b0:aQ
structure ax5 where
 t3:List aH
 t10:List Int
 (t11 t12:Int)
 b0:aQ
def F30:bw:=(e92 eB)
structure Ms where
 t32:List Int
 (t33 t34:Int)
 b0:bh
def Vz:Td 0 Ms:= .c [] [2,32,33,34] (.r 0 1 (ec 2 (qp 0 0) (ec 32 (ql 3) (ec 33 aU (ec 34 aU en)))) (sb 0 36 (lg 36) sn) (λz=>⟨z.1.2.1,z.1.t.1,z.1.t.2.1,z.2.1⟩) (λx=>(((),x.t32,x.t33,x.t34,()),(x.b0,()))))
def QM(p:Ms):ah (ah Ms):=
 bif O (p.t34<p.t33)then if 0<=p.t34/\p.t34<p.t32.length then if 0<=p.t34/\p.t34<p.b0.aA.length then match Uh p.b0.aA[p.t34.toNat]! p.t32[p.t34.toNat]! with|V=>V|Q r1=>bif bif r1 then I else G then Q (V)else Q (Q (Ms.mk p.t32 p.t33 (i64.wrap (p.t34+1)) p.b0))else V else V else Q (V)
def Si:=bJ (QM)
abbrev E30:=Bool
def d30:Td 0 E30:= .c [] [4] (.r 0 0 (ec 4 qb en) sn (λz=>z.1.1) (λx=>((x,()),(()))))
def avK:∀f∈([92]:aa Nat),bA (F30) f:=(aB (WS bK) aI)
def m30(a0:bh)(a1:aL):ah E30:=
 match bif O ((a0.aA.length:Int)<(a1.aP.length:Int))then Q G else match Uh a0.aC a1.aP.length with|V=>V|Q r2=>bif bif r2 then I else G then Q G else match Uh a0.aF a1.aF with|V=>V|Q r3=>Q (bif r3 then I else G)with|V=>V|Q r4=>bif r4 then Q I else match Si (Ms.mk a1.aP a1.aP.length 0 a0)with|V=>V|Q r5=>bif O (r5.t34<r5.t33)then if 0<=r5.t34/\r5.t34<r5.t32.length then if 0<=r5.t34/\r5.t34<r5.b0.aA.length then match Uh r5.b0.aA[r5.t34.toNat]! r5.t32[r5.t34.toNat]! with|V=>V|Q r6=>bif bif r6 then I else G then Q I else V else V else V else Q G
def e30:=eL vi 30 I (lc (qg 36) (lc (qg 47) ln)) d30 (λg=>m30 g.1 g.2.1)
def ajn:EO e30:=λh=>kL (F:=F30) (an:=(noTwo (noTwo (.two (.two (.rb [92] 30) .no) (.two (noTwo (Vz.lp Si .no)) .no))))) (l:=[(.skip,(.rb [92] 30)),(bE f30 0,(Vz.lp Si .no))]) func30 (G5 aY) (aB avK (aB (aO Vz) aI)) h
def qJ:EP e30:=λh=>kP h
structure azk where
 (t7 t9:List aH)
 (t15 t109 t112:Int)
 b0:aQ
 b1:cz
 (b2 b3:bh)
structure azA where
 (t7 t9:List aH)
 t109:Int
 b0:aQ
 b1:cz
 (b2 b3:bh)
def n6{l:aa aS}(h:∀v∈l,v.ag<=v.af)(i:Nat):1<=cH (l.take i)/\1<=cH (l.drop i)/\cH l=cH (l.take i)*cH (l.drop i)/\cH (l.take i)<=cH l:=by
 have h1:=kV (l:=l.take i) (λx hx=>h x (wq hx));have h2:=kV (l:=l.drop i) (λx hx=>h x (xS hx));have e:cH l=cH (l.take i)*cH (l.drop i):=by rw[<-rK,xj]
 have:=xW h2 (show 0<=cH (l.take i)by omega);exact⟨h1,h2,e,by rw[e];omega⟩
def ada(vars:aa aS)(hv:bY vars)(hl:vars.length<=1000000){k:Int}(hk:k=1\/k=2\/k=3)(hp:cH (vars.filter (kd k))<=4096):m89 vars k=Q (cH (vars.filter (kd k)),0):=by
 have hm:=Jh vars hl k;generalize hF:vars.filter (kd k)=L at hm hp;have hL:∀v∈L,-1048576<=v.ag/\v.ag<=v.af/\v.af<=1048576:=λv h=>by rw[<-hF]at h;exact hv v (zY.1 h).1
 have hll:L.length<=1000000:=by rw[<-hF];exact zJ (yE _ _) hl
 obtain⟨v,e1,_⟩:=dD (cL:=C6) L.length (λi (_:Unit)=>⟨L,(i:Int)⟩) (λ_ _=>True) (λi b hi _=>by
  have hw:=gH hi hll;obtain⟨q1,q2,q3⟩:=hL _ (aV hi);have i1:(i:Int)<(L.length:Int):=by omega
  have i2:(0:Int)<=(i:Int):=by omega
  refine⟨(),?_,trivial⟩;unfold C6;simp only[zi,i1,i2,hi,hw,cX,bC,dZ,bZ,show ¬L[i]!.af<L[i]!.ag by omega,show ¬L[i]!.ag< -1048576 by omega,show ¬1048576<L[i]!.af by omega,fW,bz]) (λb _=>by unfold C6;simp) (b:=()) trivial
 have e1':Mo ⟨L,0⟩=Q ⟨L,(L.length:Int)⟩:=e1;obtain⟨w,e2,_⟩:=dD (cL:=Bt) L.length (λi (_:Unit)=>⟨L,cH (L.take i),(i:Int)⟩) (λ_ _=>True) (λi b hi _=>by
  have hw:=gH hi hll;obtain⟨q1,q2,q3⟩:=hL _ (aV hi);have i1:(i:Int)<(L.length:Int):=by omega
  have i2:(0:Int)<=(i:Int):=by omega
  obtain⟨t1,_,_,t4⟩:=n6 (λv h=>(hL v h).2.1) (i+1);have e:cH (L.take (i+1))=cH (L.take i)*(L[i]!.af-L[i]!.ag+1):=by rw[bO hi,rK,cH,cH,yX]
  refine⟨(),?_,trivial⟩;rw[e]at t1 t4 ⊢;have w2:i64.wrap (i64.wrap (L[i]!.af-L[i]!.ag)+1)=L[i]!.af-L[i]!.ag+1:=by rw[aG (n:=L[i]!.af-L[i]!.ag),aG]
  have w3:i64.wrap (cH (L.take i)*(L[i]!.af-L[i]!.ag+1))=cH (L.take i)*(L[i]!.af-L[i]!.ag+1):=aG;unfold Bt;simp only[zi,i1,i2,hi,hw,cX,bC,dZ,bZ,w2,w3,show ¬4096<cH (L.take i)*(L[i]!.af-L[i]!.ag+1)by omega,fW,bz]) (λb _=>by unfold Bt;simp) (b:=()) trivial
 rw[zR]at e2;have e2':Kg ⟨L,1,0⟩=Q ⟨L,cH L,(L.length:Int)⟩:=e2;have hk1:(bif bif O (k=0)then I else G then
   bif bif O (k=1)then I else G then
    bif bif O (k=2)then I else G then Q (bif O (k=3)then I else G)else Q I
   else Q I
  else some false)=some false:=by rcases hk with h|h|h<;>simp[h]
 unfold m89;rw[hk1];simp only[bz,hm,e1'];rw[fO,bz,e2'];dsimp only;rw[fO,bz]
def Sb(vars:aa aS)(hv:bY vars)(hl:vars.length<=1000000){k:Int}(hk:k=1\/k=2\/k=3)(hp:cH (vars.filter (kd k))<=4096)(r:Int):∃p,m94 vars k r=Q p/\(p.2=0->p.1.length=(vars.filter (kd k)).length)/\p.1.length<=1000000:=by
 have e89:=ada vars hv hl hk hp;have hm:=Jh vars hl k;generalize hF:vars.filter (kd k)=L at*;have hL:∀v∈L,-1048576<=v.ag/\v.ag<=v.af/\v.af<=1048576:=λv h=>by rw[<-hF]at h;exact hv v (zY.1 h).1
 have hll:L.length<=1000000:=by rw[<-hF];exact zJ (yE _ _) hl
 have hpos:=kV (l:=L) (λv h=>(hL v h).2.1);unfold m94;rw[e89];simp only[cX,bC,bz];by_cases c1:r<0
 ·rw[bQ c1];exact⟨([],3),rfl,(λh=>cR h (by decide)),(by simp)⟩
 by_cases c2:cH L<=r
 ·rw[bP c1,bQ c2];exact⟨([],3),rfl,(λh=>cR h (by decide)),(by simp)⟩
 rw[bP c1,bP c2];simp only[bz,hm];obtain⟨b,e1,hI⟩:=dD (cL:=RM) L.length (λi (b:aa Int)=>⟨r,cH (L.drop i),L,b,(i:Int)⟩) (λi b=>b.length=i) (λi b hi hb=>by
  have hw:=gH hi hll;obtain⟨q1,q2,q3⟩:=hL _ (aV hi);have i1:(i:Int)<(L.length:Int):=by omega
  have i2:(0:Int)<=(i:Int):=by omega
  have t1:=(n6 (λv h=>(hL v h).2.1) i).2.1;have t2:=(n6 (λv h=>(hL v h).2.1) (i+1)).2.1;have t3:=n6 (λv h=>(hL v h).2.1) i;have e:cH (L.drop i)=(L[i]!.af-L[i]!.ag+1)*cH (L.drop (i+1)):=by rw[drop_cons hi,cH]
  have le:cH (L.drop i)<=4096:=by
   have:=zM t3.1 (show 0<=cH (L.drop i)by omega);rw[<-t3.2.2.1]at this;omega
  have w2:i64.wrap (i64.wrap (L[i]!.af-L[i]!.ag)+1)=L[i]!.af-L[i]!.ag+1:=by rw[aG (n:=L[i]!.af-L[i]!.ag),aG]
  have hd:(cH (L.drop i)).tdiv (L[i]!.af-L[i]!.ag+1)=cH (L.drop (i+1)):=by
   rw[Int.tdiv_eq_ediv_of_nonneg (by omega),e,Int.mul_ediv_cancel_left _ (by omega)]
  have le2:cH (L.drop (i+1))<=4096:=by
   have:=zM (show 1<=L[i]!.af-L[i]!.ag+1 by omega) (show 0<=cH (L.drop (i+1))by omega);omega
  have w3:i64.wrap (cH (L.drop (i+1)))=cH (L.drop (i+1)):=aG;have hl2:∀x:Int,(b++[x]).length<=1073741824:=λx=>by simp;omega
  refine⟨b++[i64.wrap (L[i]!.ag+(i64.wrap (r.tdiv (cH (L.drop (i+1))))).tmod (L[i]!.af-L[i]!.ag+1))],?_,?_⟩
  ·unfold RM;simp only[zi,i1,i2,hi,hw,cX,bC,dZ,bZ,w2,hd,w3,hl2,show ¬@Eq Int (L[i]!.af-L[i]!.ag+1) 0 by omega,show ¬@Eq Int (cH (L.drop (i+1))) 0 by omega,not_false_eq_true]
  ·simp;omega) (λb _=>by unfold RM;simp) (b:=[]) (by simp)
 have e1':Q6 ⟨r,cH L,L,[],0⟩=Q ⟨r,cH (L.drop L.length),L,b,(L.length:Int)⟩:=e1;rw[e1'];dsimp only;rw[fO,bz];exact⟨(b,0),rfl,λ_=>hI,(by show b.length<=1000000;omega)⟩
def aj1(vars:aa aS)(hl:vars.length<=1000000){inp:cY}(h:ud vars inp):m95 vars inp=Q (gq vars inp,0):=by
 have d1:=h.s;have d2:=h.p;have d3:=h.r;obtain⟨_,e1,_⟩:=dD (cL:=P7) vars.length (λi (_:Unit)=>⟨vars,(cg vars 1 i:Int),(cg vars 2 i:Int),(cg vars 3 i:Int),(zP i).map (iN vars inp),G,(i:Int),inp⟩) (λi b=>True) (λi b hi _=>by
  have hw:=gH hi hl;have i1:(i:Int)<(vars.length:Int):=by omega
  have i2:(0:Int)<=(i:Int):=by omega
  have c1:=fE hi 1;have c2:=fE hi 2;have c3:=fE hi 3;have l1:=kO vars 1 i;have l2:=kO vars 2 i;have l3:=kO vars 3 i;have hs:=O5 (iN vars inp) i;have hlen:∀x:Int,((zP i).map (iN vars inp)++[x]).length<=1073741824:=λx=>by simp;omega
  have hb:=h.b i hi;have q1:¬iN vars inp i<vars[i]!.ag:=by omega
  have q2:¬vars[i]!.af<iN vars inp i:=by omega
  refine⟨(),?_,trivial⟩;rw[hs];unfold P7;dsimp only;rw[c1,c2,c3];by_cases k1:vars[i]!.bq=1
  ·have hlt:=eW hi k1;have ev:iN vars inp i=inp.fe[cg vars 1 i]! :=by unfold iN;rw[bt k1]
   rw[k1]at c1 c2 c3 ⊢;simp only[Int.reduceEq,bZ,dA,yq]at c1 c2 c3 ⊢;have w1:i64.wrap ((cg vars 1 i:Int)+1)=((cg vars 1 i+1:Nat):Int):=by rw[aG];omega
   simp only[zi,i1,i2,k1,cX,bC,dZ,bZ,EK (show cg vars 1 i<inp.fe.length by omega),bz,<-ev,hlen,w1,hw,q1,q2,fW]
  by_cases k2:vars[i]!.bq=2
  ·have hlt:=eW hi k2;have ev:iN vars inp i=inp.aR[cg vars 2 i]! :=by unfold iN;rw[bF k1,bt k2]
   rw[k2]at c1 c2 c3 ⊢;simp only[Int.reduceEq,bZ,dA,yq]at c1 c2 c3 ⊢;have w1:i64.wrap ((cg vars 2 i:Int)+1)=((cg vars 2 i+1:Nat):Int):=by rw[aG];omega
   simp only[zi,i1,i2,k2,Int.reduceEq,cX,fW,bC,dZ,bZ,EK (show cg vars 2 i<inp.aR.length by omega),bz,<-ev,hlen,w1,hw,q1,q2]
  by_cases k3:vars[i]!.bq=3
  ·have hlt:=eW hi k3;have ev:iN vars inp i=inp.fu[cg vars 3 i]! :=by unfold iN;rw[bF k1,bF k2,bt k3]
   rw[k3]at c1 c2 c3 ⊢;simp only[Int.reduceEq,bZ,dA,yq]at c1 c2 c3 ⊢;have w1:i64.wrap ((cg vars 3 i:Int)+1)=((cg vars 3 i+1:Nat):Int):=by rw[aG];omega
   simp only[zi,i1,i2,k3,Int.reduceEq,cX,fW,bC,dZ,bZ,EK (show cg vars 3 i<inp.fu.length by omega),bz,<-ev,hlen,w1,hw,q1,q2]
  ·have ev:iN vars inp i=vars[i]!.dB:=by unfold iN;rw[bF k1,bF k2,bF k3]
   rw[bF k1,bF k2,bF k3];simp only[zi,i1,i2,k1,k2,k3,cX,fW,bC,dZ,bZ,bz,<-ev,hlen,hw,q1,q2,yq]) (λb _=>by unfold P7;simp) (b:=()) trivial
 have e1':Qs ⟨vars,0,0,0,[],G,0,inp⟩=Q ⟨vars,(cg vars 1 vars.length:Int),(cg vars 2 vars.length:Int),(cg vars 3 vars.length:Int),(zP vars.length).map (iN vars inp),G,(vars.length:Int),inp⟩:=e1;unfold m95;rw[e1'];dsimp only;have g1:(cg vars 1 vars.length:Int)=(inp.fe.length:Int):=by omega
 have g2:(cg vars 2 vars.length:Int)=(inp.aR.length:Int):=by omega
 have g3:(cg vars 3 vars.length:Int)=(inp.fu.length:Int):=by omega
 rw[fO,bz];simp only[g1,g2,g3,cX,bC,bz];rfl
def au7(p q:aa Int×Int)(box:aa aH):Prop:=p.2=0/\q.2=0/\(p.1++q.1).length=box.length/\∀j,j<box.length->bk box[j]! (p.1++q.1)[j]!
def aoY{f:aQ}{v:cz}{box:aa aH}{s r:Int}{p q:aa Int×Int}(e1:m94 f.ai 1 s=Q p)(e2:m94 f.ai 3 r=Q q)(l1:p.1.length<=1000000)(l2:q.1.length<=1000000)(hb:∀j,j<box.length->NN box[j]!):
  ∃z,m27 f v box s r=Q z/\(z.2=G->z.1=⟨p.1,v.aR,q.1⟩)/\(z.2=G↔au7 p q box):=by
 unfold m27;rw[e1];dsimp only;rw[e2];dsimp only;have e35:m35 p.1=Q p.1:=by unfold m35;rw[gG]
 rw[e35];dsimp only;rw[bt (by rw[zq];omega)];by_cases c1:p.2=0
 case neg=>
  rw[bP c1];exact⟨_,rfl,(λh=>by cases h),⟨(λh=>by cases h),λh=>cR h.1 c1⟩⟩
 by_cases c2:q.2=0
 case neg=>
  rw[bQ c1,bP c2];exact⟨_,rfl,(λh=>by cases h),⟨(λh=>by cases h),λh=>cR h.2.1 c2⟩⟩
 by_cases c3:(p.1++q.1).length=box.length
 case neg=>
  rw[bQ c1,bQ c2,bP (show ¬((p.1++q.1).length:Int)=(box.length:Int)by omega)];exact⟨_,rfl,(λh=>by cases h),⟨(λh=>by cases h),λh=>cR h.2.2.1 c3⟩⟩
 rw[bQ c1,bQ c2,bQ (show ((p.1++q.1).length:Int)=(box.length:Int)by omega)];simp only[bC,bz];have hll:(p.1++q.1).length<=2000000:=by rw[zq];omega
 generalize hA:p.1++q.1=A at*;obtain⟨i,e3,hc⟩:=me (cL:=KP) A (λi=>⟨box,p.1,q.1,A,(A.length:Int),(i:Int),v,⟨[],[],[]⟩⟩) (λi x=>cu box[i]! x) (λi hi=>by
  have hw:i64.wrap ((i:Int)+1)=((i+1:Nat):Int):=by rw[aG];omega
  have i1:(i:Int)<(A.length:Int):=by omega
  have i2:(0:Int)<=(i:Int):=by omega
  have i3:(i:Int)<(box.length:Int):=by omega
  refine⟨λh=> ?_,λh=> ?_⟩
  ·unfold KP;simp only[zi,i1,i2,i3,hi,hw,cX,bC,bz,dZ,bZ,oh (.inr (hb i (by omega))),h]
  ·unfold KP;simp only[zi,i1,i2,i3,hi,cX,bC,bz,dZ,bZ,oh (.inr (hb i (by omega))),h]) (by unfold KP;simp)
 have e3':Q0 ⟨box,p.1,q.1,A,(A.length:Int),0,v,⟨[],[],[]⟩⟩=Q ⟨box,p.1,q.1,A,(A.length:Int),(i:Int),v,⟨[],[],[]⟩⟩:=e3;rw[e3'];dsimp only;rcases hc with ⟨rfl,hall⟩|⟨hi,hno⟩
 ·rw[fO,bz];refine⟨_,rfl,λ_=>rfl,⟨λ_=>⟨c1,c2,by rw[hA];exact c3,λj hj=> ?_⟩,λ_=>rfl⟩⟩;rw[hA];exact gL.mp (hall j (by omega))
 ·have i1:(i:Int)<(A.length:Int):=by omega
  have i2:(0:Int)<=(i:Int):=by omega
  have i3:(i:Int)<(box.length:Int):=by omega
  simp only[zi,i1,i2,i3,hi,cX,bC,bz,dZ,bZ,oh (.inr (hb i (by omega))),hno];refine⟨_,rfl,(λh=>by cases h),⟨(λh=>by cases h),λh=> ?_⟩⟩;have:=h.2.2.2 i (by omega);rw[hA]at this;rw[e9 this]at hno;cases hno
def asd{a:bh}(h:J6 a){o:aL}(h1:o.aP.length<=a.aA.length)(h2:bk a.aC o.aP.length)(h3:bk a.aF o.aF)(h4:∀i,i<o.aP.length->bk a.aA[i]! o.aP[i]!):m30 a o=Q G:=by
 have hs:=h.sl;unfold m30;rw[bP (show ¬((a.aA.length:Int)<(o.aP.length:Int))by omega)];simp only[bz,lD (.inr h.count),lD (.inr h.time),e9 h2,e9 h3,bC];obtain⟨_,e1,_⟩:=dD (cL:=QM) o.aP.length (λi (_:Unit)=>⟨o.aP,(o.aP.length:Int),(i:Int),a⟩) (λi _=>True) (λi _ hi _=>by
  have hw:=gH hi (by omega);have i1:(i:Int)<(o.aP.length:Int):=by omega
  have i2:(0:Int)<=(i:Int):=by omega
  have i3:(i:Int)<(a.aA.length:Int):=by omega
  refine⟨(),?_,trivial⟩;unfold QM;simp only[zi,i1,i2,i3,hw,cX,bC,bz,dZ,bZ,lD (.inr (h.slots i (by omega))),e9 (h4 i hi)]) (λb _=>by unfold QM;simp) (b:=()) trivial
 have e1':Si ⟨o.aP,(o.aP.length:Int),0,a⟩=Q ⟨o.aP,(o.aP.length:Int),(o.aP.length:Int),a⟩:=e1;rw[e1'];dsimp only;rw[fO,bz]
def ZT{f:aQ}{v:cz}{box:aa aH}{inp:cY}(hf:Fits f v box)(h:pO f v box inp):m30 (dP f v box) (GS ⟨(lZ f inp).outs,(lZ f inp).time⟩ v.eE)=Q G:=by
 have r:=Po hf h;have k:=BY hf;have eo:(GS ⟨(lZ f inp).outs,(lZ f inp).time⟩ v.eE).aP=(lZ f inp).outs:=by unfold GS;cases v.eE<;>rfl
 refine asd k (by rw[eo];exact r.sl) (by rw[eo];exact r.cnt) ?_ (λi hi=>by rw[eo]at hi ⊢;exact r.outs i hi);show bk (if v.eE=G then(si f v box).aF else dN 0) _;unfold GS;cases v.eE with
 |true=>exact r.time
 |false=>exact(iM 0).mem rfl
abbrev E34:=Bool
def d34:Td 0 E34:= .c [] [3] (.r 0 0 (ec 3 qb en) sn (λz=>z.1.1) (λx=>((x,()),(()))))
def m34(a0:aL)(c0:aL):ah E34:=
 match ZP a0 c0 with|V=>V|Q r1=>Q (r1)
def e34:=eL vi 34 I (lc (qg 47) (lc (qr (lg 47)) ln)) d34 (λg=>m34 g.1 g.2.1)
def XD:EO e34:=λh=>kL (an:= .no) func34 (XS aY) aI h
structure Lh where
 t0:List aL
 jr:List Int
 (jm t7 t8:Int)
def W3:Td 0 Lh:= .c [] [0,1,7,8] (.r 0 0 (ec 0 (ql 47) (ec 1 (qf 34 (lc (qr (lc (ql 3) (bg ln))) ln)) (ec 7 aU (ec 8 aU en)))) sn (λz=>⟨z.1.1,z.1.2.1.1.1,z.1.2.1.1.2.1,z.1.t.1,z.1.t.2.1⟩) (λx=>((x.t0,((x.jr,x.jm,()),()),x.t7,x.t8,()),(()))))
def Ll(p:Lh):ah (ah Lh):=
 bif O (p.t8<p.t7)then if 0<=p.t8/\p.t8<p.t0.length then match m34 p.t0[p.t8.toNat]! (aL.mk p.jr p.jm)with|V=>V|Q r1=>bif r1 then Q (V)else Q (Q (Lh.mk p.t0 p.jr p.jm p.t7 (i64.wrap (p.t8+1))))else V else Q (V)
def Sd:=bJ (Ll)
abbrev E99:=Int
def d99:Td 0 E99:= .c [] [4] (.r 0 0 (ec 4 aU en) sn (λz=>z.1.1) (λx=>((x,()),(()))))
def m99(a0:aa aL)(a1_0:aL):ah E99:=
 match Sd (Lh.mk a0 a1_0.aP a1_0.aF a0.length 0)with|V=>V|Q r2=>bif O (r2.t8<r2.t7)then if 0<=r2.t8/\r2.t8<r2.t0.length then match m34 r2.t0[r2.t8.toNat]! (aL.mk r2.jr r2.jm)with|V=>V|Q r3=>bif r3 then Q (r2.t8)else V else V else Q (-1)
def e99:=eL vi 99 G (lc (ql 47) (lc (qf 34 (lc (qr (lg 47)) ln)) ln)) d99 (λg=>m99 g.1 g.2.1.1)
def alp:EO e99:=λh=>kL (an:=(noTwo (.two (noTwo (W3.lp Sd .no)) .no))) (l:=[(bE f99 0,(W3.lp Sd .no))]) func99 (XD aY) (aB (aO W3) aI) h
abbrev E33:=Bool
def d33:Td 0 E33:= .c [] [4] (.r 0 0 (ec 4 qb en) sn (λz=>z.1.1) (λx=>((x,()),(()))))
def m33(a0:aa aL)(a1_0:aL):ah E33:=
 match m99 a0 a1_0 with|V=>V|Q r1=>Q (O (0<=r1))
def e33:=eL vi 33 G (lc (ql 47) (lc (qf 34 (lc (qr (lg 47)) ln)) ln)) d33 (λg=>m33 g.1 g.2.1.1)
def ajB:EO e33:=λh=>kL (an:= .no) func33 (alp (XD aY)) aI h
def qh:EP e33:=λh=>kP h
def F4:bw:=(e33 (e32 (e31 (e30 (e29 (e28 (e27 (e26 (e25 (e24 (e21 (e20 (e19 (e18 eB))))))))))))))
def apX:bG vi F4:=(ajB (Wi (XS (ajn (ajY (alR (alo (aj8 (ajL (YI (aj7 (OW (ai1 (adM auo aY))))))))))))))
structure MU where
 t2:List aH
 t9:Int
 t12:Bool
 t14:List aL
 (t15 t84 t87:Int)
 t133:List Int
 (t134 t135:Int)
 b0:aQ
 b1:cz
 b2:bh
 (b3 b5:aL)
def alO:Td 0 MU:= .c [] [2,3,4,7,9,11,12,14,15,21,84,87,133,134,135] (.r 0 7 (ec 2 (ql 34) (ec 3 (qp 0 0) (ec 4 (qp 1 0) (ec 7 (qp 2 0) (ec 9 aU (ec 11 (qp 3 0) (ec 12 qb (ec 14 (qo 4) (ec 15 aU (ec 21 (qp 5 0) (ec 84 aU (ec 87 aU (ec 133 (ql 3) (ec 134 aU (ec 135 aU en))))))))))))))) (sb 0 26 (lg 26) (sb 1 29 (lg 29) (sb 2 36 (lg 36) (sb 3 47 (lc (qo 6) (bg ln)) (sr 4 47 (sb 5 47 (lg 47) (sr 6 3 sn))))))) (λz=>⟨z.1.1,z.1.q.1,z.1.q.t.1,z.q.2.1,z.1.q.q.1,z.1.q.q.t.1,z.1.q.q.t.2.1,z.1.q.q.q.1,z.1.q.q.q.2.1,z.1.q.q.q.t.1,z.2.1,z.t.1,z.t.2.1,(aL.mk z.q.t.2.1 z.q.1.2.1),z.q.t.1⟩) (λx=>((x.t2,(),(),(),x.t9,(),x.t12,(),x.t15,(),x.t84,x.t87,x.t133,x.t134,x.t135,()),(x.b0,x.b1,x.b2,((),x.b3.aF,()),x.t14,x.b5,x.b3.aP,()))))
def aaG(p:MU):ah (ah MU):=
 bif O (p.t135<p.t134)then if 0<=p.t135/\p.t135<p.t133.length then if 0<=p.t135/\p.t135<p.b2.jq.length then match m32 p.b2.jq[p.t135.toNat]! p.t133[p.t135.toNat]! with|V=>V|Q r18=>bif bif r18 then I else G then Q (V)else Q (Q (MU.mk p.t2 p.t9 p.t12 p.t14 p.t15 p.t84 p.t87 p.t133 p.t134 (i64.wrap (p.t135+1)) p.b0 p.b1 p.b2 p.b3 p.b5))else V else V else Q (V)
def Tt:=bJ (aaG)
structure Fh where
 t2:List aH
 t9:Int
 t12:Bool
 t14:List aL
 (t15 t84 t87:Int)
 b0:aQ
 b1:cz
 b2:bh
 b3:aL
def akp:Td 0 Fh:= .c [] [2,3,4,7,9,11,12,14,15,84,87] (.r 0 6 (ec 2 (ql 34) (ec 3 (qp 0 0) (ec 4 (qp 1 0) (ec 7 (qp 2 0) (ec 9 aU (ec 11 (qp 3 0) (ec 12 qb (ec 14 (qo 4) (ec 15 aU (ec 84 aU (ec 87 aU en))))))))))) (sb 0 26 (lg 26) (sb 1 29 (lg 29) (sb 2 36 (lg 36) (sb 3 47 (lc (qo 5) (bg ln)) (sr 4 47 (sr 5 3 sn)))))) (λz=>⟨z.1.1,z.1.q.1,z.1.q.t.1,z.q.2.1,z.1.q.q.1,z.1.q.q.2.1,z.1.q.q.t.1,z.2.1,z.t.1,z.t.2.1,(aL.mk z.q.t.1 z.q.1.2.1)⟩) (λx=>((x.t2,(),(),(),x.t9,(),x.t12,(),x.t15,x.t84,x.t87,()),(x.b0,x.b1,x.b2,((),x.b3.aF,()),x.t14,x.b3.aP,()))))
def YT(p:Fh):ah (ah Fh):=
 bif O (p.t87<4)then match m27 p.b0 p.b1 p.t2 p.t15 p.t87 with|V=>V|Q r10=>bif bif r10.snd then I else G then Q (Q (Fh.mk p.t2 p.t9 p.t12 p.t14 p.t15 p.t84 (i64.wrap (p.t87+1)) p.b0 p.b1 p.b2 p.b3))else match m28 p.b0 r10.fst with|V=>V|Q r11=>match bif bif O (r11.snd=0)then I else G then Q G else match m30 p.b2 (GS (aL.mk r11.fst.aP r11.fst.aF) p.b1.eE)with|V=>V|Q r12=>bif bif r12 then I else G then Q G else bif p.t12 then match ZP (GS (aL.mk r11.fst.aP r11.fst.aF) p.b1.eE) p.b3 with|V=>V|Q r13=>Q (bif r13 then I else G)else Q I with|V=>V|Q r14=>bif r14 then Q (V)else match Tt (MU.mk p.t2 p.t9 p.t12 p.t14 p.t15 p.t84 p.t87 r11.fst.cW r11.fst.cW.length 0 p.b0 p.b1 p.b2 p.b3 (GS (aL.mk r11.fst.aP r11.fst.aF) p.b1.eE))with|V=>V|Q r15=>bif O (r15.t135<r15.t134)then if 0<=r15.t135/\r15.t135<r15.t133.length then if 0<=r15.t135/\r15.t135<r15.b2.jq.length then match m32 r15.b2.jq[r15.t135.toNat]! r15.t133[r15.t135.toNat]! with|V=>V|Q r16=>bif bif r16 then I else G then Q (V)else V else V else V else match m33 r15.t14 r15.b5 with|V=>V|Q r17=>bif bif r17 then I else G then if(r15.t14++[r15.b5]).length<=1073741824 then Q (Q (Fh.mk r15.t2 r15.t9 r15.t12 (r15.t14++[r15.b5]) r15.t15 r15.t84 (i64.wrap (r15.t87+1)) r15.b0 r15.b1 r15.b2 r15.b3))else V else Q (Q (Fh.mk r15.t2 r15.t9 r15.t12 r15.t14 r15.t15 r15.t84 (i64.wrap (r15.t87+1)) r15.b0 r15.b1 r15.b2 r15.b3))else Q (V)
def aoI:An:=(noTwo (noTwo (.two (noTwo (noTwo (noTwo (noTwo (noTwo (.two (.two (.rb [19,21,24,30,31] 131) .no) (.two (noTwo (alO.lp Tt .no)) .no))))))) .no)))
def Vn:=bJ (YT)
structure Vo where
 t2:List aH
 t9:Int
 t12:Bool
 t14:List aL
 t84:Int
 b0:aQ
 b1:cz
 b2:bh
 b3:aL
def ajq:Td 0 Vo:= .c [] [2,3,4,7,9,11,12,14,84] (.t (cU.s 14 [] 47) (.c [] [2,3,4,7,9,11,12,14,84] (.r 0 6 (ec 2 (ql 34) (ec 3 (qp 0 0) (ec 4 (qp 1 0) (ec 7 (qp 2 0) (ec 9 aU (ec 11 (qp 3 0) (ec 12 qb (ec 14 (qo 4) (ec 84 aU en))))))))) (sb 0 26 (lg 26) (sb 1 29 (lg 29) (sb 2 36 (lg 36) (sb 3 47 (lc (qo 5) (bg ln)) (sr 4 47 (sr 5 3 sn)))))) (λz=>⟨z.1.1,z.1.q.1,z.1.q.t.1,z.q.2.1,z.1.q.q.1,z.2.1,z.t.1,z.t.2.1,(aL.mk z.q.t.1 z.q.1.2.1)⟩) (λx=>((x.t2,(),(),(),x.t9,(),x.t12,(),x.t84,()),(x.b0,x.b1,x.b2,((),x.b3.aF,()),x.t14,x.b3.aP,()))))))
def aej(p:Vo):ah (ah Vo):=
 bif O (p.t84<16)then match Vn (Fh.mk p.t2 p.t9 p.t12 p.t14 p.t84 p.t84 0 p.b0 p.b1 p.b2 p.b3)with|V=>V|Q r1=>bif O (r1.t87<4)then match m27 r1.b0 r1.b1 r1.t2 r1.t15 r1.t87 with|V=>V|Q r2=>bif bif r2.snd then I else G then V else match m28 r1.b0 r2.fst with|V=>V|Q r3=>match bif bif O (r3.snd=0)then I else G then Q G else match m30 r1.b2 (GS (aL.mk r3.fst.aP r3.fst.aF) r1.b1.eE)with|V=>V|Q r4=>bif bif r4 then I else G then Q G else bif r1.t12 then match ZP (GS (aL.mk r3.fst.aP r3.fst.aF) r1.b1.eE) r1.b3 with|V=>V|Q r5=>Q (bif r5 then I else G)else Q I with|V=>V|Q r6=>bif r6 then Q (V)else match Tt (MU.mk r1.t2 r1.t9 r1.t12 r1.t14 r1.t15 r1.t84 r1.t87 r3.fst.cW r3.fst.cW.length 0 r1.b0 r1.b1 r1.b2 r1.b3 (GS (aL.mk r3.fst.aP r3.fst.aF) r1.b1.eE))with|V=>V|Q r7=>bif O (r7.t135<r7.t134)then if 0<=r7.t135/\r7.t135<r7.t133.length then if 0<=r7.t135/\r7.t135<r7.b2.jq.length then match m32 r7.b2.jq[r7.t135.toNat]! r7.t133[r7.t135.toNat]! with|V=>V|Q r8=>bif bif r8 then I else G then Q (V)else V else V else V else match m33 r7.t14 r7.b5 with|V=>V|Q r9=>bif bif r9 then I else G then if(r7.t14++[r7.b5]).length<=1073741824 then V else V else V else Q (Q (Vo.mk r1.t2 r1.t9 r1.t12 r1.t14 (i64.wrap (r1.t84+1)) r1.b0 r1.b1 r1.b2 r1.b3))else Q (V)
def arv:An:=(noTwo (noTwo (.two (noTwo (noTwo (akp.lp Vn aoI))) .no)))
def ads:=bJ (aej)
abbrev E4:=Bool
def d4:Td 0 E4:= .c [] [6] (.r 0 0 (ec 6 qb en) sn (λz=>z.1.1) (λx=>((x,()),(()))))
def A4:=(lc (qg 26) (lc (qg 29) (lc (ql 34) ln)))
def an4:An:=(noTwo (noTwo (.two (.two (.rb [19,21,24,30,31] 42) .no) (noTwo (noTwo (noTwo (.two (.two (.rb [19,21,24,30,31] 83) .no) (noTwo (.two (noTwo (ajq.lp ads arv)) (.two (.rb [19,21,24,30,31] 6) .no))))))))))
def pu4:∀f∈([19,21,24,30,31]:aa Nat),bA (F4) f:=(aB (qh (pZ (qj (qJ (qa (f:=19) rfl (pJ (f:=19) rfl (pX (f:=19) rfl (p6 (f:=19) rfl (pV (j7 (pE (ni (f:=19) rfl (qF (qz bK)))))))))))))) (aB (qh (pZ (qj (qJ (qa (f:=21) rfl (pJ (f:=21) rfl (pX (f:=21) rfl (p6 (f:=21) rfl (pV (j7 (pE (ni (f:=21) rfl (qF (qz bK)))))))))))))) (aB (qh (pZ (qj (qJ (qa (f:=24) rfl (pJ (f:=24) rfl (pX (f:=24) rfl (p6 (f:=24) rfl (pV (j7 (pE (ni (f:=24) rfl (qF (qz bK)))))))))))))) (aB (qh (pZ (qj (qJ (qa (f:=30) rfl (pJ (f:=30) rfl (pX (f:=30) rfl (p6 (f:=30) rfl (pV (j7 (pE (ni (f:=30) rfl (qF (qz bK)))))))))))))) (aB (qh (pZ (qj (qJ (qa (f:=31) rfl (pJ (f:=31) rfl (pX (f:=31) rfl (p6 (f:=31) rfl (pV (j7 (pE (ni (f:=31) rfl (qF (qz bK)))))))))))))) aI)))))
def fa4:gv vi (F4) 0 300 4 (an4):=cD (l:=[(.skip,(.rb [19,21,24,30,31] 42)),(.skip,(.rb [19,21,24,30,31] 83)),(bE f4 0,(ajq.lp ads arv)),(bE f4 1,(akp.lp Vn aoI)),(.skip,(.rb [19,21,24,30,31] 131)),(bE f4 2,(alO.lp Tt .no)),(.skip,(.rb [19,21,24,30,31] 6))]) func4 (bR (by kernel_rfl)) (by kernel_rfl) (aB pu4 (aB pu4 (aB (aO ajq) (aB (aO akp) (aB pu4 (aB (aO alO) (aB pu4 aI)))))))
def m4(a0:aQ)(a1:cz)(a2:aa aH):ah E4:=
 bif bif m18 then I else G then Q I else match match m19 a0 a1 a2 with|V=>V|Q r19=>bif bif r19 then I else G then Q G else match m21 a0 a1 a2 with|V=>V|Q r20=>bif bif O (r20=0)then I else G then Q G else match m24 a0 16 4096 4with|V=>V|Q r21=>Q (bif r21 then I else G)with|V=>V|Q r22=>bif r22 then Q G else match ZM a0 a1 a2 with|V=>V|Q r23=>match m25 a0 a1 a2 with|V=>V|Q r24=>match m26 a0 a1 a2 with|V=>V|Q r25=>match bif bif O (r23.snd=0)then I else G then Q G else bif bif O (r24.snd=0)then I else G then Q G else bif bif O (r25.snd.snd=0)then I else G then Q G else Q (bif O ((r23.fst.jq.length:Int)=(a0.ai.length:Int))then I else G)with|V=>V|Q r26=>bif r26 then Q I else match ads (Vo.mk a2 r24.fst r25.snd.fst [] (0) a0 a1 r23.fst r25.fst)with|V=>V|Q r27=>bif O (r27.t84<16)then match Vn (Fh.mk r27.t2 r27.t9 r27.t12 r27.t14 r27.t84 r27.t84 0 r27.b0 r27.b1 r27.b2 r27.b3)with|V=>V|Q r28=>bif O (r28.t87<4)then match m27 r28.b0 r28.b1 r28.t2 r28.t15 r28.t87 with|V=>V|Q r29=>bif bif r29.snd then I else G then V else match m28 r28.b0 r29.fst with|V=>V|Q r30=>match bif bif O (r30.snd=0)then I else G then Q G else match m30 r28.b2 (GS (aL.mk r30.fst.aP r30.fst.aF) r28.b1.eE)with|V=>V|Q r31=>bif bif r31 then I else G then Q G else bif r28.t12 then match ZP (GS (aL.mk r30.fst.aP r30.fst.aF) r28.b1.eE) r28.b3 with|V=>V|Q r32=>Q (bif r32 then I else G)else Q I with|V=>V|Q r33=>bif r33 then Q I else match Tt (MU.mk r28.t2 r28.t9 r28.t12 r28.t14 r28.t15 r28.t84 r28.t87 r30.fst.cW r30.fst.cW.length 0 r28.b0 r28.b1 r28.b2 r28.b3 (GS (aL.mk r30.fst.aP r30.fst.aF) r28.b1.eE))with|V=>V|Q r34=>bif O (r34.t135<r34.t134)then if 0<=r34.t135/\r34.t135<r34.t133.length then if 0<=r34.t135/\r34.t135<r34.b2.jq.length then match m32 r34.b2.jq[r34.t135.toNat]! r34.t133[r34.t135.toNat]! with|V=>V|Q r35=>bif bif r35 then I else G then Q I else V else V else V else match m33 r34.t14 r34.b5 with|V=>V|Q r36=>bif bif r36 then I else G then if(r34.t14++[r34.b5]).length<=1073741824 then V else V else V else V else match bif O (r27.t14.length<=r27.t9)then Q (O (((r27.t2,(),(),(),r27.t9,(),r27.t12,(),r27.t84,()),r27.b0,r27.b1,r27.b2,((),r27.b3.aF,()),r27.t14,r27.b3.aP,()).fst.snd.snd.snd.snd.fst=1)==r27.t12)else Q I with|V=>V|Q r37=>Q (r37)
def c4(a0:aQ)(a1:cz)(a2:aa aH):ct vi (F4) 300 (an4) 4 (A4.c (a0,a1,a2,())) [] 0 d4.rd=m4 a0 a1 a2:=by kernel_rfl
def h4:HL vi 4 A4 d4 (λg=>m4 g.1 g.2.1 g.2.2.1):=(fm apX fa4 (λ_=>by kernel_rfl) (λ_=>by kernel_rfl) λg=>c4 g.1 g.2.1 g.2.2.1)
def akj(l m:aa Int)(hl:l.length<=1000)(hm:m.length<=1000):m98 l m=Q (O (l=m)):=by
 unfold m98;by_cases h:l.length=m.length
 case neg=>
  rw[bP (show ¬(l.length:Int)=(m.length:Int)by omega),bP (show ¬l=m from λe=>h (by rw[e]))];rfl
 rw[bQ (show (l.length:Int)=(m.length:Int)by omega)];obtain⟨i,e1,hc⟩:=me (cL:=Br) l (λi=>⟨l,m,(i:Int)⟩) (λi x=>O (x=m[i]!)) (λi hi=>by
  have hw:=gH hi (by omega);have i1:(i:Int)<(l.length:Int):=by omega
  have i2:(0:Int)<=(i:Int):=by omega
  have i3:(i:Int)<(m.length:Int):=by omega
  refine⟨λh=> ?_,λh=> ?_⟩
  ·unfold Br;simp only[zi,i1,i2,i3,h,hw,cX,bC,bz,dZ,bZ]
  ·unfold Br;simp only[zi,i1,i2,i3,h,cX,bC,bz,dZ,bZ]) (by unfold Br;simp)
 have e1':Lq ⟨l,m,0⟩=Q ⟨l,m,(i:Int)⟩:=e1;simp only[bC,bz,e1'];rcases hc with ⟨rfl,hall⟩|⟨hi,hno⟩
 ·have e:l=m:=wR h λj h1 h2=>by
   have q:=hall j h1;have q:l[j]! =m[j]! :=by simpa using q
   rw[getElem!_pos l j h1,getElem!_pos m j h2]at q;exact q
  rw[fO,bz,bQ e]
 ·have i1:(i:Int)<(l.length:Int):=by omega
  have i2:(0:Int)<=(i:Int):=by omega
  have i3:(i:Int)<(m.length:Int):=by omega
  have e:¬l=m:=λe=>by rw[e]at hno;simp at hno
  simp only[zi,i1,i2,i3,hno,e,cX,fW,bC,bz,dZ,bZ]
def eqO(p o:aL):Bool:=O (p.aF=o.aF)&&O (p.aP=o.aP)
def QF{p o:aL}:eqO p o=G↔p=o:=by
 obtain⟨a,b⟩:=p;obtain⟨c,d⟩:=o;unfold eqO;simp only[zn,decide_eq_true_eq,aL.mk.injEq];exact⟨λh=>⟨h.2,h.1⟩,λh=>⟨h.2,h.1⟩⟩
def akg(p o:aL)(hp:p.aP.length<=1000)(ho:o.aP.length<=1000):ZP p o=Q (eqO p o):=by
 unfold ZP eqO;rw[akj _ _ hp ho];by_cases h:p.aF=o.aF
 ·rw[bQ h];rfl
 ·rw[bP h];rfl
def anj(L:aa aL)(o:aL)(hl:L.length<=1048576)(hL:∀p∈L,p.aP.length<=1000)(ho:o.aP.length<=1000):∃b,m33 L o=Q b/\(b=G↔o∈L):=by
 obtain⟨outs,time⟩:=o;have e34:∀i,i<L.length->m34 L[i]! ⟨outs,time⟩=Q (eqO L[i]! ⟨outs,time⟩):=λi hi=>by
  unfold m34;rw[akg _ _ (hL _ (aV hi)) ho]
 obtain⟨i,e1,hc⟩:=me (cL:=Ll) L (λi=>⟨L,outs,time,(L.length:Int),(i:Int)⟩) (λ_ x=> !eqO x ⟨outs,time⟩) (λi hi=>by
  have hw:i64.wrap ((i:Int)+1)=((i+1:Nat):Int):=by rw[aG];omega
  have i1:(i:Int)<(L.length:Int):=by omega
  have i2:(0:Int)<=(i:Int):=by omega
  refine⟨λh=> ?_,λh=> ?_⟩
  ·have h:eqO L[i]! ⟨outs,time⟩=I:=by simpa using h
   unfold Ll;simp only[zi,i1,i2,hi,e34 i hi,h,hw,cX,bC,bz,dZ,bZ]
  ·have h:eqO L[i]! ⟨outs,time⟩=G:=by simpa using h
   unfold Ll;simp only[zi,i1,i2,hi,e34 i hi,h,cX,bC,dZ,bZ]) (by unfold Ll;simp)
 have e1':Sd ⟨L,outs,time,(L.length:Int),0⟩=Q ⟨L,outs,time,(L.length:Int),(i:Int)⟩:=e1;unfold m33 m99;simp only[e1'];rcases hc with ⟨rfl,hall⟩|⟨hi,hno⟩
 ·rw[fO,bz];refine⟨_,rfl,⟨λh=>by simp at h,λh=> ?_⟩⟩;obtain⟨j,hj,e⟩:=xd.1 h;have q:=hall j hj;rw[getElem!_pos L j hj,e]at q;rw[QF.mpr rfl]at q;cases q
 ·have h:eqO L[i]! ⟨outs,time⟩=G:=by simpa using hno
  have i1:(i:Int)<(L.length:Int):=by omega
  have i2:(0:Int)<=(i:Int):=by omega
  simp only[zi,i1,i2,hi,e34 i hi,h,cX,bC,dZ,bZ];refine⟨_,rfl,⟨λ_=> ?_,λ_=>rfl⟩⟩;rw[<-QF.mp h];exact aV hi
def XJ{f:aQ}(hc:uZ f=0)(h80:fP f.bI+jH (f.ak.map (·.az))<=80)(hh:f.ak.length<=10)(hvl:f.ai.length<=10){inp:cY}(h:ud f.ai inp):
  m28 f inp=Q (⟨(lZ f inp).vals,(lZ f inp).outs,(lZ f inp).time⟩,0):=by
 have hf:=Ak hc;have hV:=FQ h;have e2:r96 f (Uf f (gq f.ai inp)) f.bI (iP ⟨gq f.ai inp,[],0⟩)=Q (iP (lZ f inp)):=eT (2*zk f.bI+1) λn hn=>(XU hf.vars (by omega) (by simp[Uf]) n).1 G f.bI _ (by omega) (by omega) (aul hf h);unfold m28;rw[Hx f (by omega) (by omega) (by omega),hc];simp only[cX,bC,bz,aj1 f.ai (by omega) h,ann hf (by omega) hV];rw[show bD.mk (gq f.ai inp) [] 0=iP ⟨gq f.ai inp,[],0⟩from rfl,e2];rfl
def oL(f:aQ)(v:cz)(inp:cY):aL:=GS ⟨(lZ f inp).outs,(lZ f inp).time⟩ v.eE
def aaW{f:aQ}{v:cz}{box:aa aH}{inp:cY}(hf:Fits f v box)(h:pO f v box inp):InO (dP f v box) (oL f v inp):=by
 have r:=Po hf h;have eo:(oL f v inp).aP=(lZ f inp).outs:=by unfold oL GS;cases v.eE<;>rfl
 refine⟨by rw[eo];exact r.sl,by rw[eo];exact r.cnt,?_,λi hi=>by rw[eo]at hi ⊢;exact r.outs i hi⟩;show bk (if v.eE=G then(si f v box).aF else dN 0) _;unfold oL GS;cases v.eE with
 |true=>exact r.time
 |false=>exact(iM 0).mem rfl
def anr(f:aQ)(v:cz)(box:aa aH):aa aL:=(prods (box.map elems)).map (λw=>oL f v ⟨w.take (cg f.ai 1 f.ai.length),v.aR,w.drop (cg f.ai 1 f.ai.length)⟩)
structure SI (f:aQ) (v:cz) (box:List aH) (L:List aL):Prop where
 nd:L.Nodup
 inn:∀o∈L,InO (dP f v box) o
 vec:∀o∈L,o∈anr f v box
def SI.len{f:aQ}{v:cz}{box:aa aH}{L:aa aL}(h:SI f v box L)(hb:∀x∈box,NN x):(L.length:Int)<=eO box:=by
 have:=Qv h.nd h.vec;unfold anr at this;rw[zL]at this;have:=AG hb;omega
def acZ{a:aH}(h:NN a){x:Int}(hx:bk a x):m32 a x=Q G:=by rw[oh (.inr h),e9 hx]
def aep{f:aQ}{v:cz}{box:aa aH}(hc:uZ f=0)(h80:fP f.bI+jH (f.ak.map (·.az))<=80)(hh:f.ak.length<=10)(hvl:f.ai.length<=10)(hf:Fits f v box)
  (n:Int) {is:Bool} {only:aL} (h1:is=G->Qb (dP f v box)=G/\only=TB (dP f v box)) {L:aa aL} (hS:SI f v box L) (s t:Int) {r:Int} (hr:r<4) (hr0:0<=r):
  ∃L',YT ⟨box,n,is,L,s,t,r,f,v,dP f v box,only⟩=Q (Q ⟨box,n,is,L',s,t,r+1,f,v,dP f v box,only⟩)/\SI f v box L':=by
 have hv:=pG hc;have hs:=Gd hc;have sp:cH (f.ai.filter (kd 1))<=4096/\cH (f.ai.filter (kd 3))<=4096:=by
  unfold s9 at hs;simp only[zn]at hs;obtain⟨⟨h1,_⟩,h3⟩:=hs;obtain⟨a,e1⟩:=vh.1 h1;cases e3:sS 3 f.ai 1 with
  |none=>rw[e3]at h3;cases h3
  |some b=>
   have ha:=sJ 1 f.ai 1 a (by decide) e1;have hb:=sJ 3 f.ai 1 b (by decide) e3;have p1:=mN 1 f.ai 1 a e1;have p3:=mN 3 f.ai 1 b e3;rw[zU]at p1 p3;omega
 obtain⟨p,ep,pl,pb⟩:=Sb f.ai hv (by omega) (.inl rfl) sp.1 s;obtain⟨q,eq,ql,qb⟩:=Sb f.ai hv (by omega) (.inr (.inr rfl)) sp.2 r;obtain⟨z,e1,za,zb⟩:=aoY (v:=v) (box:=box) ep eq pb qb (λj hj=>(hf.bx j hj).1);have w:i64.wrap (r+1)=r+1:=aG;unfold YT;simp only[bQ hr,bC,e1];cases hz:z.2 with
 |false=>
  refine⟨L,?_,hS⟩;simp only[bC,bz,w]
 |true=>
  have ib:=zb.mp hz;rw[za hz];have vin:pO f v box ⟨p.1,v.aR,q.1⟩:=⟨by rw[fX];exact pl ib.1,by rw[fX];exact ql ib.2.1,rfl,ib.2.2.2⟩;have so:=vin.start hf;have hR:=BY hf;have io:=aaW hf vin;have ev:oL f v ⟨p.1,v.aR,q.1⟩∈anr f v box:=by
   have es:p.1.length=cg f.ai 1 f.ai.length:=by rw[fX];exact pl ib.1
   refine zN.2 ⟨p.1++q.1,LQ (λi hi=>(hf.bx i hi).1) ib.2.2.1 ib.2.2.2,?_⟩;rw[<-es,List.take_left',List.drop_left']<;>rfl
  have eo:GS ⟨(lZ f ⟨p.1,v.aR,q.1⟩).outs,(lZ f ⟨p.1,v.aR,q.1⟩).time⟩ v.eE=oL f v ⟨p.1,v.aR,q.1⟩:=rfl;have rs:=Po hf vin;have h30:m30 (dP f v box) (oL f v ⟨p.1,v.aR,q.1⟩)=Q G:=ZT hf vin;have hsl:=hR.sl;have hol:(oL f v ⟨p.1,v.aR,q.1⟩).aP.length<=1000:=by have:=io.sl;omega
  have hV:=hf.vol;have hLl:=hS.len hf.nn;obtain⟨b,e33,hb⟩:=anj L (oL f v ⟨p.1,v.aR,q.1⟩) (by omega) (λo ho=>by have:=(hS.inn o ho).sl;omega) hol;have vm:=rs.vm;have hvals:(lZ f ⟨p.1,v.aR,q.1⟩).vals.length=f.ai.length:=by rw[vm.1];exact(Ff hf).len
  have eval:Tt ⟨box,n,is,L,s,t,r,(lZ f ⟨p.1,v.aR,q.1⟩).vals,((lZ f ⟨p.1,v.aR,q.1⟩).vals.length:Int),0,f,v,dP f v box,only,oL f v ⟨p.1,v.aR,q.1⟩⟩=Q ⟨box,n,is,L,s,t,r,(lZ f ⟨p.1,v.aR,q.1⟩).vals,((lZ f ⟨p.1,v.aR,q.1⟩).vals.length:Int),((lZ f ⟨p.1,v.aR,q.1⟩).vals.length:Int),f,v,dP f v box,only,oL f v ⟨p.1,v.aR,q.1⟩⟩:=by
   generalize oL f v ⟨p.1,v.aR,q.1⟩=zc;obtain⟨vl,vmem⟩:=vm;generalize (lZ f ⟨p.1,v.aR,q.1⟩).vals=W at*;obtain⟨_,e1,_⟩:=dD (cL:=aaG) W.length (λi (_:Unit)=>⟨box,n,is,L,s,t,r,W,(W.length:Int),(i:Int),f,v,dP f v box,only,zc⟩) (λi _=>True) (λi _ hi _=>by
    have hw:=gH hi (by omega);have i1:(i:Int)<(W.length:Int):=by omega
    have i2:(0:Int)<=(i:Int):=by omega
    have fin:(dP f v box).jq=(si f v box).ai:=rfl;have i3:(i:Int)<((si f v box).ai.length:Int):=by omega
    have nn:=(Ff hf).vars i (by omega);refine⟨(),?_,trivial⟩;unfold aaG;simp only[zi,i1,i2,i3,hw,fin,acZ nn (vmem i hi),cX,bC,bz,dZ,bZ]) (λb _=>by unfold aaG;simp) (b:=()) trivial
   exact e1
  have h31:is=G->ZP (oL f v ⟨p.1,v.aR,q.1⟩) only=Q G:=λhis=>by
   obtain⟨k1,k2⟩:=h1 his;have eqo:=abb hR (Wt hf).hi k1 io;rw[k2,<-eqo,Yy _ hol]
  have fin:∃L',(bif bif b then I else G then if(L++[oL f v ⟨p.1,v.aR,q.1⟩]).length<=1073741824 then Q (Q (Fh.mk box n is (L++[oL f v ⟨p.1,v.aR,q.1⟩]) s t (r+1) f v (dP f v box) only))else V else Q (Q (Fh.mk box n is L s t (r+1) f v (dP f v box) only)))=Q (Q (Fh.mk box n is L' s t (r+1) f v (dP f v box) only))/\SI f v box L':=by
   cases hbb:b with
   |true=>exact⟨L,rfl,hS⟩
   |false=>
    have hni:oL f v ⟨p.1,v.aR,q.1⟩∉L:=λe=>by rw[hb.mpr e]at hbb;cases hbb
    refine⟨L++[oL f v ⟨p.1,v.aR,q.1⟩],?_,⟨?_,?_,?_⟩⟩
    ·simp only[bC,bz];rw[bt (by simp;omega)]
    ·refine yG.2 ⟨hS.nd,by simp,λa ha c hc=> ?_⟩;rw[zD.1 hc];exact λe=>hni (e▸ha)
    ·intro o ho;rcases zV.1 ho with ho|ho
     ·exact hS.inn o ho
     ·rw[zD.1 ho];exact io
    ·intro o ho;rcases zV.1 ho with ho|ho
     ·exact hS.vec o ho
     ·rw[zD.1 ho];exact ev
  cases is with
  |false=>
   simp only[bC,bz,XJ hc h80 hh hvl so,cX,eo,h30,eval,e33,w,xK,fW];exact fin
  |true=>
   simp only[bC,bz,XJ hc h80 hh hvl so,cX,eo,h30,h31 rfl,eval,e33,w,xK,fW];exact fin
def aeN{f:aQ}{v:cz}{box:aa aH}(hc:uZ f=0)(h80:fP f.bI+jH (f.ak.map (·.az))<=80)(hh:f.ak.length<=10)(hvl:f.ai.length<=10)(hf:Fits f v box)
  (n:Int) {is:Bool} {only:aL} (h1:is=G->Qb (dP f v box)=G/\only=TB (dP f v box)):
  ∃L,ads ⟨box,n,is,[],0,f,v,dP f v box,only⟩=Q ⟨box,n,is,L,16,f,v,dP f v box,only⟩/\SI f v box L:=by
 have inner:∀(s:Int) (L:aa aL),SI f v box L->∃L',Vn ⟨box,n,is,L,s,s,0,f,v,dP f v box,only⟩=Q ⟨box,n,is,L',s,s,4,f,v,dP f v box,only⟩/\SI f v box L':=λs L hL=>by
  obtain⟨L',e1,hI⟩:=dD (cL:=YT) 4 (λi (L:aa aL)=>⟨box,n,is,L,s,s,(i:Int),f,v,dP f v box,only⟩) (λi L=>SI f v box L) (λi L hi hL=>by
   obtain⟨L',e,h⟩:=aep hc h80 hh hvl hf n h1 hL s s (r:=(i:Int)) (by omega) (by omega);exact⟨L',e,h⟩) (λb _=>by unfold YT;rfl) (b:=L) hL
  exact⟨L',e1,hI⟩
 obtain⟨L',e1,hI⟩:=dD (cL:=aej) 16 (λi (L:aa aL)=>⟨box,n,is,L,(i:Int),f,v,dP f v box,only⟩) (λi L=>SI f v box L) (λi L hi hL=>by
  have hw:i64.wrap ((i:Int)+1)=((i+1:Nat):Int):=by rw[aG];omega
  obtain⟨L',e,h⟩:=inner (i:Int) L hL;refine⟨L',?_,h⟩;unfold aej;dsimp only;rw[bQ (show (i:Int)<16 by omega),bC,e];dsimp only;rw[bP (by decide),bz,hw]) (λb _=>by unfold aej;rfl) (b:=[]) ⟨List.nodup_nil,λo ho=>(by cases ho),λo ho=>(by cases ho)⟩
 exact⟨L',e1,hI⟩
def axv(f:aQ)(v:cz)(box:aa aH):m4 f v box=Q G:=by
 obtain⟨r,e,hr⟩:=as3 f v box;unfold m4;rw[e];cases r with
 |false=>rfl
 |true=>
  obtain⟨hfw,hbx,_⟩:=hr rfl;obtain⟨q1,q2,q3⟩:=Qx hfw;have e20:=asE (f:=f) (v:=v) (box:=box) (by omega) (by omega) (by omega);have e21:=arn (f:=f) (by omega) (by omega) (by omega) v box;by_cases hc:FC f v box=0
  case neg=>rw[e21];simp only[m18,hc,fW,bC,bz]
  rw[bt hc]at e20;rw[hc]at e21;obtain⟨r24,e24,hr24⟩:=Wq f 16 4096 4;cases r24 with
  |false=>rw[e21,e24];rfl
  |true=>
   obtain⟨hfew,hchk⟩:=hr24 rfl;obtain⟨h80,hh,hvl⟩:=Gt hfew;have hfit:=Qz hc;have hR:=BY hfit;have hC:=Wt hfit;obtain⟨hv1,hv2⟩:=hfit.vol;have e26:=aqf e20 hR;have e25:=aqE e20 hR hfit.nn (by omega) hv2;have hone:=ad3 hR hC.lo hC.hi hv1 (afU hfit);have hfin:((dP f v box).jq.length:Int)=(f.ai.length:Int):=by
    have:=(Ff hfit).len;show ((si f v box).ai.length:Int)=_;omega
   obtain⟨is,only,e26',h1,h2⟩:∃is only,m26 f v box=Q (only,is,0)/\(is=G->Qb (dP f v box)=G/\only=TB (dP f v box))/\(is=Qb (dP f v box)):=by
    cases hs:Qb (dP f v box)with
    |true=>exact⟨G,_,by rw[e26,bt hs],λ_=>⟨rfl,rfl⟩,rfl⟩
    |false=>exact⟨false,_,by rw[e26,bF (by rw[hs];simp)],(λh=>by cases h),rfl⟩
   rw[e21,e24,e20,e25,e26'];obtain⟨L,eL,hL⟩:=aeN hchk h80 hh hvl hfit (Ny (dP f v box) (eO box)) h1;have hb:=Uz hR hv1 hL.nd (hL.len hfit.nn) hL.inn;simp only[m18,cX,bC,bz,hfin,eL];rw[bP (by decide),bz];simp only[bQ hb,bC];rw[h2];cases hs:Qb (dP f v box)with
   |true=>rw[bQ (hone.mpr hs)];rfl
   |false=>rw[bP (λe=>by rw[hone.mp e]at hs;cases hs)];rfl
end Go.Proofs.YtnfljbehcffmcaaGreat
end
noncomputable section
namespace Go.Iv
variable [U:sF]
open Go Go.RowKit Go.Deep Go.ChangeShapes Go.WideShapes Go.Joins
def alv{P:Program}{f:FuncId}{args:aa AV}(h:Iv.Fn P f args [] (λa s=>a= .b G/\s=[])){A:Nat->Prop}{w:World}{vs:aa Value}(hr:bL A w args vs):
  Calls P f vs.toArray w λe w'=>∃v,e= .returned v/\v= .bool G/\Below w.heap.size w w':=
 (h w A vs hr ⟨λr hr=>by simp at hr,λb hb=>by simp[bH]at hb⟩ (by simp[bH])).mono λe w' ⟨v,av,σ',h1,⟨h2,h3⟩,h4,h5⟩=>by
  subst h2;exact⟨v,h1,h5.cM,h4.kp.below⟩
abbrev se:Nat->Prop:=λ_=>True
def ko{α:Type}{H:Type}(enc:TypeId×Value->H)(P:Program)(w:World)(t:TypeId)(c:α->aa AV)(ok:α->Prop):Prop:=
 ∀(base:Nat) (fuel:Nat) (cs:aa Value) (x:DataW H×aa MemPlace),DataW.trod enc P w base (λ_=>G) G fuel t cs=Q x->∃a,ok a/\bL se w (c a) cs
section
variable {α:Type} {H:Type} {enc:TypeId×Value->H} {P:Program} {w:World} {t e:TypeId}
def ko.int{k:IntKind}(ht:P.underlying t=Q (.int k)):ko enc P w t (cN k) (λn=>(Lit.int k n).wf=G):=λbase fuel cs x h=>by
 obtain⟨n,rfl,_,hw⟩:=DataW.trod_int ht h;exact⟨n,hw,bL.cons (.lit _) bL.nil⟩
def ko.bool(ht:P.underlying t=Q .bool):ko enc P w t cB (λ_=>True):=λbase fuel cs x h=>by
 obtain⟨b,rfl,_⟩:=DataW.trod_bool ht h;exact⟨b,trivial,bL.cons (.lit _) bL.nil⟩
def ko.slice{ok:U.dF e->Prop}{sz:Nat}(ht:P.underlying t=Q (.slice e))(hc:P.cellsOf e=sz+1)(hs:U.sz e=sz+1)(he:ko enc P w e (U.cells e) ok):
  ko enc P w t (λl:aa (U.dF e)=>[.sl e l]) (λl=>l.length<=9223372036854775807/\∀a∈l,ok a):=λbase fuel cs x h=>by
 rcases open_slice ht h with ⟨rfl,_⟩|⟨a,len,cp,m,n,D,Pl,hcs,hb,hl,hm,hmm,_,hx⟩
 ·refine⟨[],⟨by simp,by simp⟩,bL.cons ?_ bL.nil⟩;exact .sl e ([]:aa (U.dF e)) V 0 (λ_ _=>default) (by simp) (by simp) (λi hi=>by simp at hi) (λi hi=>by simp at hi) (λi j a hi=>by simp at hi)
 ·subst hcs;have hmm:m=cp:=by rw[hmm];rfl
  rw[hc]at hx;have hmx:cp<=9223372036854775807:=by unfold maxLen at hm;omega
  obtain⟨CS,hCS⟩:=choose_lt (α:=aa Value×U.dF e) (p:=λi y=>w.cells? base (a.add (i*(sz+1))) (sz+1)=Q y.1/\ok y.2/\bL se w (U.cells e y.2) y.1) (n:=len) (λi hi=>by
   obtain⟨cs',h1,h2⟩:=hx i (by omega);obtain⟨y,h3,h4⟩:=he _ _ _ _ h2;exact⟨(cs',y),h1,h3,h4⟩)
  obtain⟨l,hld⟩:∃l:aa (U.dF e),l=(zP len).map λi=>(CS i).2:=⟨_,rfl⟩;have hln:l.length=len:=by rw[hld];simp
  have hget:∀i,i<len->l[i]! =(CS i).2:=λi hi=>by
   rw[getElem!_pos l i (by omega)];simp[hld]
  refine⟨l,⟨by omega,λy hy=> ?_⟩,bL.cons ?_ bL.nil⟩
  ·rw[hld,zN]at hy;obtain⟨i,hi,rfl⟩:=hy;exact(hCS i (by simpa using hi)).2.1
  ·rw[<-hln];refine .sl e l (Q a) cp (λi j=>(CS i).1[j]!) (by omega) (by omega) (λi hi=> ?_) (λi hi=> ?_) (λi j av hi hj=> ?_)
   ·rw[hln]at hi;obtain⟨h1,_,h3⟩:=hCS i hi;obtain⟨_,h5,_⟩:=World.cells?_some h1;rw[hget i hi,<-h3.1,h5,hs]
   ·rw[hln]at hi;obtain⟨h1,_,h3⟩:=hCS i hi;obtain⟨_,h5,h6⟩:=World.cells?_some h1;have hj:∀j,j<sz+1->w.cell? ((a.add (i*(sz+1))).add j)=Q (CS i).1[j]! :=λj hj=>by
     rw[h6 j hj,getElem!_pos _ j (by omega),zw (by omega)]
    obtain⟨b,off,spot⟩:=a;have hs:spot=V:=by
     obtain⟨g1,_,_⟩:=hCS 0 (by omega);obtain⟨_,g5,g6⟩:=World.cells?_some g1;have:=World.cell?_spot (v:=(CS 0).1[0]!) (w:=w) (a:=((⟨b,off,spot⟩:Addr).add (0*(sz+1))).add 0) (by rw[g6 0 (by omega),getElem!_pos _ 0 (by omega),zw (by omega)]);simpa [Addr.add]using this
    subst hs;have hj':∀j,j<sz+1->w.cell? ⟨b,off+i*(sz+1)+j,V⟩=Q (CS i).1[j]! :=λj hlt=>by
     have:=hj j hlt;have ap:∀o i:Nat,(⟨b,o,V⟩:Addr).add i=⟨b,o+i,V⟩:=λo i=>by
      unfold Addr.add;split
      ·rename_i h0;simp only[h0,yq]
      ·rfl
     rw[ap,ap]at this;exact this
    exact⟨b,off,rfl,World.block_lt_of_cell? w _ (hj' 0 (by omega)),trivial,by rw[hs];exact hj'⟩
   ·rw[hln]at hi;rw[hget i hi]at hj;obtain⟨h1,_,h3⟩:=hCS i hi;obtain⟨v,q1,q2⟩:=h3.get hj;show Rel se w av (CS i).1[j]!;obtain⟨q3,q4⟩:=ya.1 q1;rw[getElem!_pos _ j q3,q4];exact q2
def ko.one{c:α->AV}{ok:α->Prop}{v:Value}{d:DataW H}{p:aa MemPlace}(he:ko enc P w t (λa=>[c a]) ok)(hv:v.cells=#[v])(h:DataW.Trod enc P w 0 (λ_=>G) G t v d p):∃a,ok a/\Rel se w (c a) v:=by
 obtain⟨fuel,hf⟩:=h;rw[hv]at hf;obtain⟨a,h1,h2⟩:=he _ _ _ _ hf;exact⟨a,h1,h2.2 0 _ _ rfl rfl⟩
def ko.agg{c:α->aa AV}{ok:α->Prop}{v:Value}{cs:Array Value}{d:DataW H}{p:aa MemPlace}(he:ko enc P w t c ok)(hv:v= .agg cs)(h:DataW.Trod enc P w 0 (λ_=>G) G t v d p):∃a,ok a/\Rel se w (.agg (c a)) v:=by
 obtain⟨fuel,hf⟩:=h;subst hv;obtain⟨l⟩:=cs;obtain⟨a,h1,h2⟩:=he _ _ _ _ hf;exact⟨a,h1,Rel.oO h2⟩
end
def Tg.law[L:n7]{P:Program}{f:FuncId}{args:aa AV}{x:Out}(h:Tg P f args [] 0 x)(hx:x=⟨.b G,[],0⟩)(ha:args.all (Fq 2)=G):Iv.Fn P f args [] (λa s=>a= .b G/\s=[]):=by
 subst hx;have h1:=h ⟨λ_=>undef,λ_=>0⟩;have:args.map (cn.sub ⟨λ_=>undef,λ_=>0⟩)=args.map id:=z7 λc hcm=>j8 2 (zA.1 ha c hcm);rw[this,List.map_id]at h1;exact h1.mono λa s ⟨ρ',_,e1,e2⟩=>⟨by rw[e1];exact j8 2 rfl,List.Perm.eq_nil e2⟩
def cJ{A:Nat->Prop}{w:World}{xs bs:aa AV}{us:aa Value}{n:Nat}(h:bL A w xs (us.take n))(h':bL A w bs (us.drop n)):bL A w (xs++bs) us:=by
 have:=h.app h'
 rwa [xj]at this
def JC(B:Nat){α:Type}{H:Type}(enc:TypeId×Value->H)(P:Program)(w:World)(t:TypeId)(c:α->aa AV)(ok:α->Prop):Prop:=
 ∀(base:Nat) (fuel:Nat),fuel<B->∀(cs:aa Value) (x:DataW H×aa MemPlace),DataW.trod enc P w base (λ_=>G) G fuel t cs=Q x->∃a,ok a/\bL se w (c a) cs
section
variable {α:Type} {H:Type} {enc:TypeId×Value->H} {P:Program} {w:World} {t e:TypeId}
def ko.ofB{c:α->aa AV}{ok:α->Prop}(h:∀B,JC B enc P w t c ok):ko enc P w t c ok:=λbase fuel cs x hx=>h (fuel+1) base fuel (zC _) cs x hx
def ko.str(ht:P.underlying t=Q .string):ko enc P w t (λs=>[.s s]) (λ_=>True):=λbase fuel cs x h=>by
 obtain⟨b,rfl,_⟩:=DataW.trod_string ht h;exact⟨b,trivial,bL.cons (.lit _) bL.nil⟩
def ko.any{c:α->aa AV}{ok:α->Prop}(h:ko enc P w t c ok):ko enc P w t c (λ_=>True):=λbase fuel cs x hx=>by
 obtain⟨a,_,r⟩:=h base fuel cs x hx;exact⟨a,trivial,r⟩
def JC.slice{B:Nat}{ok:U.dF e->Prop}{sz:Nat}(ht:P.underlying t=Q (.slice e))(hc:P.cellsOf e=sz+1)(hs:U.sz e=sz+1)(he:JC B enc P w e (U.cells e) ok):
  JC B enc P w t (λl:aa (U.dF e)=>[.sl e l]) (λl=>l.length<=9223372036854775807/\∀a∈l,ok a):=λbase fuel hB cs x h=>by
 rcases DataW.trod_slice ht h with ⟨rfl,_⟩|⟨a,len,cp,elems,rest,n,hfu,hcs,_,hb,hl,hm,hlen,hx,_,_⟩
 ·refine⟨[],⟨by simp,by simp⟩,bL.cons ?_ bL.nil⟩;exact .sl e ([]:aa (U.dF e)) V 0 (λ_ _=>default) (by simp) (by simp) (λi hi=>by simp at hi) (λi hi=>by simp at hi) (λi j a hi=>by simp at hi)
 ·subst hcs;rw[hc]at hx;have hmx:cp<=9223372036854775807:=by unfold maxLen at hm;omega
  obtain⟨CS,hCS⟩:=choose_lt (α:=aa Value×U.dF e) (p:=λi y=>w.cells? base (a.add (i*(sz+1))) (sz+1)=Q y.1/\ok y.2/\bL se w (U.cells e y.2) y.1) (n:=len) (λi hi=>by
   have hk:=hx i hi;rw[zw (show i<elems.length by omega)]at hk;obtain⟨cs',h1,h2⟩:=zx.1 hk;obtain⟨y,h3,h4⟩:=he _ n (by omega) _ _ h2;exact⟨(cs',y),h1,h3,h4⟩)
  obtain⟨l,hld⟩:∃l:aa (U.dF e),l=(zP len).map λi=>(CS i).2:=⟨_,rfl⟩;have hln:l.length=len:=by rw[hld];simp
  have hget:∀i,i<len->l[i]! =(CS i).2:=λi hi=>by
   rw[getElem!_pos l i (by omega)];simp[hld]
  refine⟨l,⟨by omega,λy hy=> ?_⟩,bL.cons ?_ bL.nil⟩
  ·rw[hld,zN]at hy;obtain⟨i,hi,rfl⟩:=hy;exact(hCS i (by simpa using hi)).2.1
  ·rw[<-hln];refine .sl e l (Q a) cp (λi j=>(CS i).1[j]!) (by omega) (by omega) (λi hi=> ?_) (λi hi=> ?_) (λi j av hi hj=> ?_)
   ·rw[hln]at hi;obtain⟨h1,_,h3⟩:=hCS i hi;obtain⟨_,h5,_⟩:=World.cells?_some h1;rw[hget i hi,<-h3.1,h5,hs]
   ·rw[hln]at hi;obtain⟨h1,_,h3⟩:=hCS i hi;obtain⟨_,h5,h6⟩:=World.cells?_some h1;have hj:∀j,j<sz+1->w.cell? ((a.add (i*(sz+1))).add j)=Q (CS i).1[j]! :=λj hj=>by
     rw[h6 j hj,getElem!_pos _ j (by omega),zw (by omega)]
    obtain⟨b,off,spot⟩:=a;have hs:spot=V:=by
     obtain⟨g1,_,_⟩:=hCS 0 (by omega);obtain⟨_,g5,g6⟩:=World.cells?_some g1;have:=World.cell?_spot (v:=(CS 0).1[0]!) (w:=w) (a:=((⟨b,off,spot⟩:Addr).add (0*(sz+1))).add 0) (by rw[g6 0 (by omega),getElem!_pos _ 0 (by omega),zw (by omega)]);simpa [Addr.add]using this
    subst hs;have hj':∀j,j<sz+1->w.cell? ⟨b,off+i*(sz+1)+j,V⟩=Q (CS i).1[j]! :=λj hlt=>by
     have:=hj j hlt;have ap:∀o i:Nat,(⟨b,o,V⟩:Addr).add i=⟨b,o+i,V⟩:=λo i=>by
      unfold Addr.add;split
      ·rename_i h0;simp only[h0,yq]
      ·rfl
     rw[ap,ap]at this;exact this
    exact⟨b,off,rfl,World.block_lt_of_cell? w _ (hj' 0 (by omega)),trivial,by rw[hs];exact hj'⟩
   ·rw[hln]at hi;rw[hget i hi]at hj;obtain⟨h1,_,h3⟩:=hCS i hi;obtain⟨v,q1,q2⟩:=h3.get hj;show Rel se w av (CS i).1[j]!;obtain⟨q3,q4⟩:=ya.1 q1;rw[getElem!_pos _ j q3,q4];exact q2
end
end Go.Iv
end
noncomputable section
set_option maxRecDepth 100000
namespace Go.Proofs.YtnfljbehcffmcaaGreat
open Go Go.Iv Go.RowKit Go.Deep Go.ChangeShapes Go.WideShapes Go.Joins
section
variable {H:Type} {enc:TypeId×Value->H} {w:World}
def og9:ko enc vi w 9 (λs=>[.s s]) (λ_=>True):=ko.str underlying9
def aoy:ko enc vi w 129 (cN .i64) (λ_=>True):=(ko.int underlying129).any
def Tv:ko enc vi w 3 (cN .i64) (λ_=>True):=(ko.int underlying3).any
def asy:ko enc vi w 131 (uni.cells 131) (λ_=>True):=λbase fuel cs x h=>by
 obtain⟨xs,n,hfu,rfl,hl,hlen,hf⟩:=DataW.trod_struct underlying131 h;rw[show vi.cellsOf 131=5 from by kernel_rfl]at hl;have hlen:xs.length=5:=hlen;have f0:DataW.trod enc vi w base (λ_=>G) G n 9 ((cs.drop 0).take (vi.cellsOf 9))=xs[0]? :=hf 0 _ rfl;rw[show vi.cellsOf 9=1 from by kernel_rfl,zw (show 0<xs.length by omega)]at f0;obtain⟨a0,_,r0⟩:=og9 _ _ _ _ f0;have f1:DataW.trod enc vi w base (λ_=>G) G n 129 ((cs.drop 1).take (vi.cellsOf 129))=xs[1]? :=hf 1 _ rfl;rw[show vi.cellsOf 129=1 from by kernel_rfl,zw (show 1<xs.length by omega)]at f1;obtain⟨a1,_,r1⟩:=aoy _ _ _ _ f1;have f2:DataW.trod enc vi w base (λ_=>G) G n 3 ((cs.drop 2).take (vi.cellsOf 3))=xs[2]? :=hf 2 _ rfl;rw[show vi.cellsOf 3=1 from by kernel_rfl,zw (show 2<xs.length by omega)]at f2;obtain⟨a2,_,r2⟩:=Tv _ _ _ _ f2;have f3:DataW.trod enc vi w base (λ_=>G) G n 3 ((cs.drop 3).take (vi.cellsOf 3))=xs[3]? :=hf 3 _ rfl;rw[show vi.cellsOf 3=1 from by kernel_rfl,zw (show 3<xs.length by omega)]at f3;obtain⟨a3,_,r3⟩:=Tv _ _ _ _ f3;have f4:DataW.trod enc vi w base (λ_=>G) G n 3 ((cs.drop 4).take (vi.cellsOf 3))=xs[4]? :=hf 4 _ rfl;rw[show vi.cellsOf 3=1 from by kernel_rfl,zw (show 4<xs.length by omega)]at f4;obtain⟨a4,_,r4⟩:=Tv _ _ _ _ f4;have e:bL se w [] (cs.drop 5):=by rw[xL (by omega)];exact bL.nil
 have s4:=cJ (us:=cs.drop 4) r4 (by rw[zW];exact e);have s3:=cJ (us:=cs.drop 3) r3 (by rw[zW];exact s4);have s2:=cJ (us:=cs.drop 2) r2 (by rw[zW];exact s3);have s1:=cJ (us:=cs.drop 1) r1 (by rw[zW];exact s2);have s0:=cJ (us:=cs.drop 0) r0 (by rw[zW];exact s1);exact⟨(⟨a0,a1,a2,a3,a4⟩:aS),trivial,s0⟩
def av5:ko enc vi w 22 (λl:aa (uni.dF 131)=>[.sl 131 l]) (λl=>l.length<=9223372036854775807/\∀a∈l,True):=ko.slice (e:=131) (sz:=4) underlying22 (by kernel_rfl) rfl asy
def apa:ko enc vi w 134 (cN .i64) (λ_=>True):=(ko.int underlying134).any
def Vs:∀B,JC B enc vi w 137 (uni.cells 137) (λ_=>True)
 |0=>λbase fuel hB=>cR hB (yK _)
 |B+1=>λbase fuel hB cs x h=>by
  have ih:=Vs B;obtain⟨xs,n,hfu,rfl,hl,hlen,hf⟩:=DataW.trod_struct underlying137 h;rw[show vi.cellsOf 137=3 from by kernel_rfl]at hl;have hlen:xs.length=3:=hlen;have f0:DataW.trod enc vi w base (λ_=>G) G n 134 ((cs.drop 0).take (vi.cellsOf 134))=xs[0]? :=hf 0 _ rfl;rw[show vi.cellsOf 134=1 from by kernel_rfl,zw (show 0<xs.length by omega)]at f0;obtain⟨a0,_,r0⟩:=apa _ _ _ _ f0;have f1:DataW.trod enc vi w base (λ_=>G) G n 3 ((cs.drop 1).take (vi.cellsOf 3))=xs[1]? :=hf 1 _ rfl;rw[show vi.cellsOf 3=1 from by kernel_rfl,zw (show 1<xs.length by omega)]at f1;obtain⟨a1,_,r1⟩:=Tv _ _ _ _ f1;have f2:DataW.trod enc vi w base (λ_=>G) G n 135 ((cs.drop 2).take (vi.cellsOf 135))=xs[2]? :=hf 2 _ rfl;rw[show vi.cellsOf 135=1 from by kernel_rfl,zw (show 2<xs.length by omega)]at f2;obtain⟨a2,_,r2⟩:=JC.slice (t:=135) (e:=137) (sz:=2) underlying135 (by kernel_rfl) rfl ih base n (by omega) _ _ f2;have e:bL se w [] (cs.drop 3):=by rw[xL (by omega)];exact bL.nil
  have s2:=cJ (us:=cs.drop 2) r2 (by rw[zW];exact e);have s1:=cJ (us:=cs.drop 1) r1 (by rw[zW];exact s2);have s0:=cJ (us:=cs.drop 0) r0 (by rw[zW];exact s1);exact⟨(⟨a0,a1,a2⟩:ax),trivial,s0⟩
def aia:ko enc vi w 137 (uni.cells 137) (λ_=>True):=ko.ofB Vs
def ars:ko enc vi w 139 (uni.cells 139) (λ_=>True):=λbase fuel cs x h=>by
 obtain⟨xs,n,hfu,rfl,hl,hlen,hf⟩:=DataW.trod_struct underlying139 h;rw[show vi.cellsOf 139=6 from by kernel_rfl]at hl;have hlen:xs.length=4:=hlen;have f0:DataW.trod enc vi w base (λ_=>G) G n 9 ((cs.drop 0).take (vi.cellsOf 9))=xs[0]? :=hf 0 _ rfl;rw[show vi.cellsOf 9=1 from by kernel_rfl,zw (show 0<xs.length by omega)]at f0;obtain⟨a0,_,r0⟩:=og9 _ _ _ _ f0;have f1:DataW.trod enc vi w base (λ_=>G) G n 3 ((cs.drop 1).take (vi.cellsOf 3))=xs[1]? :=hf 1 _ rfl;rw[show vi.cellsOf 3=1 from by kernel_rfl,zw (show 1<xs.length by omega)]at f1;obtain⟨a1,_,r1⟩:=Tv _ _ _ _ f1;have f2:DataW.trod enc vi w base (λ_=>G) G n 3 ((cs.drop 2).take (vi.cellsOf 3))=xs[2]? :=hf 2 _ rfl;rw[show vi.cellsOf 3=1 from by kernel_rfl,zw (show 2<xs.length by omega)]at f2;obtain⟨a2,_,r2⟩:=Tv _ _ _ _ f2;have f3:DataW.trod enc vi w base (λ_=>G) G n 137 ((cs.drop 3).take (vi.cellsOf 137))=xs[3]? :=hf 3 _ rfl;rw[show vi.cellsOf 137=3 from by kernel_rfl,zw (show 3<xs.length by omega)]at f3;obtain⟨a3,_,r3⟩:=aia _ _ _ _ f3;have e:bL se w [] (cs.drop 6):=by rw[xL (by omega)];exact bL.nil
 have s3:=cJ (us:=cs.drop 3) r3 (by rw[zW];exact e);have s2:=cJ (us:=cs.drop 2) r2 (by rw[zW];exact s3);have s1:=cJ (us:=cs.drop 1) r1 (by rw[zW];exact s2);have s0:=cJ (us:=cs.drop 0) r0 (by rw[zW];exact s1);exact⟨(⟨a0,a1,a2,a3⟩:dz),trivial,s0⟩
def axx:ko enc vi w 23 (λl:aa (uni.dF 139)=>[.sl 139 l]) (λl=>l.length<=9223372036854775807/\∀a∈l,True):=ko.slice (e:=139) (sz:=5) underlying23 (by kernel_rfl) rfl ars
def aph:ko enc vi w 164 (cN .i64) (λ_=>True):=(ko.int underlying164).any
def as5:ko enc vi w 27 (λl:aa (uni.dF 3)=>[.sl 3 l]) (λl=>l.length<=9223372036854775807/\∀a∈l,True):=ko.slice (e:=3) (sz:=0) underlying27 (by kernel_rfl) rfl Tv
def VL:∀B,JC B enc vi w 166 (uni.cells 166) (λ_=>True)
 |0=>λbase fuel hB=>cR hB (yK _)
 |B+1=>λbase fuel hB cs x h=>by
  have ih:=VL B;obtain⟨xs,n,hfu,rfl,hl,hlen,hf⟩:=DataW.trod_struct underlying166 h;rw[show vi.cellsOf 166=10 from by kernel_rfl]at hl;have hlen:xs.length=8:=hlen;have f0:DataW.trod enc vi w base (λ_=>G) G n 164 ((cs.drop 0).take (vi.cellsOf 164))=xs[0]? :=hf 0 _ rfl;rw[show vi.cellsOf 164=1 from by kernel_rfl,zw (show 0<xs.length by omega)]at f0;obtain⟨a0,_,r0⟩:=aph _ _ _ _ f0;have f1:DataW.trod enc vi w base (λ_=>G) G n 3 ((cs.drop 1).take (vi.cellsOf 3))=xs[1]? :=hf 1 _ rfl;rw[show vi.cellsOf 3=1 from by kernel_rfl,zw (show 1<xs.length by omega)]at f1;obtain⟨a1,_,r1⟩:=Tv _ _ _ _ f1;have f2:DataW.trod enc vi w base (λ_=>G) G n 3 ((cs.drop 2).take (vi.cellsOf 3))=xs[2]? :=hf 2 _ rfl;rw[show vi.cellsOf 3=1 from by kernel_rfl,zw (show 2<xs.length by omega)]at f2;obtain⟨a2,_,r2⟩:=Tv _ _ _ _ f2;have f3:DataW.trod enc vi w base (λ_=>G) G n 3 ((cs.drop 3).take (vi.cellsOf 3))=xs[3]? :=hf 3 _ rfl;rw[show vi.cellsOf 3=1 from by kernel_rfl,zw (show 3<xs.length by omega)]at f3;obtain⟨a3,_,r3⟩:=Tv _ _ _ _ f3;have f4:DataW.trod enc vi w base (λ_=>G) G n 137 ((cs.drop 4).take (vi.cellsOf 137))=xs[4]? :=hf 4 _ rfl;rw[show vi.cellsOf 137=3 from by kernel_rfl,zw (show 4<xs.length by omega)]at f4;obtain⟨a4,_,r4⟩:=aia _ _ _ _ f4;have f5:DataW.trod enc vi w base (λ_=>G) G n 24 ((cs.drop 7).take (vi.cellsOf 24))=xs[5]? :=hf 5 _ rfl;rw[show vi.cellsOf 24=1 from by kernel_rfl,zw (show 5<xs.length by omega)]at f5;obtain⟨a5,_,r5⟩:=JC.slice (t:=24) (e:=166) (sz:=9) underlying24 (by kernel_rfl) rfl ih base n (by omega) _ _ f5;have f6:DataW.trod enc vi w base (λ_=>G) G n 24 ((cs.drop 8).take (vi.cellsOf 24))=xs[6]? :=hf 6 _ rfl;rw[show vi.cellsOf 24=1 from by kernel_rfl,zw (show 6<xs.length by omega)]at f6;obtain⟨a6,_,r6⟩:=JC.slice (t:=24) (e:=166) (sz:=9) underlying24 (by kernel_rfl) rfl ih base n (by omega) _ _ f6;have f7:DataW.trod enc vi w base (λ_=>G) G n 27 ((cs.drop 9).take (vi.cellsOf 27))=xs[7]? :=hf 7 _ rfl;rw[show vi.cellsOf 27=1 from by kernel_rfl,zw (show 7<xs.length by omega)]at f7;obtain⟨a7,_,r7⟩:=as5 _ _ _ _ f7;have e:bL se w [] (cs.drop 10):=by rw[xL (by omega)];exact bL.nil
  have s7:=cJ (us:=cs.drop 9) r7 (by rw[zW];exact e);have s6:=cJ (us:=cs.drop 8) r6 (by rw[zW];exact s7);have s5:=cJ (us:=cs.drop 7) r5 (by rw[zW];exact s6);have s4:=cJ (us:=cs.drop 4) r4 (by rw[zW];exact s5);have s3:=cJ (us:=cs.drop 3) r3 (by rw[zW];exact s4);have s2:=cJ (us:=cs.drop 2) r2 (by rw[zW];exact s3);have s1:=cJ (us:=cs.drop 1) r1 (by rw[zW];exact s2);have s0:=cJ (us:=cs.drop 0) r0 (by rw[zW];exact s1);exact⟨(⟨a0,a1,a2,a3,a4,a5,a6,a7⟩:ay),trivial,s0⟩
def arj:ko enc vi w 166 (uni.cells 166) (λ_=>True):=ko.ofB VL
def axL:ko enc vi w 24 (λl:aa (uni.dF 166)=>[.sl 166 l]) (λl=>l.length<=9223372036854775807/\∀a∈l,True):=ko.slice (e:=166) (sz:=9) underlying24 (by kernel_rfl) rfl arj
def avJ:ko enc vi w 26 (uni.cells 26) (λ_=>True):=λbase fuel cs x h=>by
 obtain⟨xs,n,hfu,rfl,hl,hlen,hf⟩:=DataW.trod_struct underlying26 h;rw[show vi.cellsOf 26=3 from by kernel_rfl]at hl;have hlen:xs.length=3:=hlen;have f0:DataW.trod enc vi w base (λ_=>G) G n 22 ((cs.drop 0).take (vi.cellsOf 22))=xs[0]? :=hf 0 _ rfl;rw[show vi.cellsOf 22=1 from by kernel_rfl,zw (show 0<xs.length by omega)]at f0;obtain⟨a0,_,r0⟩:=av5 _ _ _ _ f0;have f1:DataW.trod enc vi w base (λ_=>G) G n 23 ((cs.drop 1).take (vi.cellsOf 23))=xs[1]? :=hf 1 _ rfl;rw[show vi.cellsOf 23=1 from by kernel_rfl,zw (show 1<xs.length by omega)]at f1;obtain⟨a1,_,r1⟩:=axx _ _ _ _ f1;have f2:DataW.trod enc vi w base (λ_=>G) G n 24 ((cs.drop 2).take (vi.cellsOf 24))=xs[2]? :=hf 2 _ rfl;rw[show vi.cellsOf 24=1 from by kernel_rfl,zw (show 2<xs.length by omega)]at f2;obtain⟨a2,_,r2⟩:=axL _ _ _ _ f2;have e:bL se w [] (cs.drop 3):=by rw[xL (by omega)];exact bL.nil
 have s2:=cJ (us:=cs.drop 2) r2 (by rw[zW];exact e);have s1:=cJ (us:=cs.drop 1) r1 (by rw[zW];exact s2);have s0:=cJ (us:=cs.drop 0) r0 (by rw[zW];exact s1);exact⟨(⟨a0,a1,a2⟩:aQ),trivial,s0⟩
def og4:ko enc vi w 4 cB (λ_=>True):=ko.bool underlying4
def aus:ko enc vi w 29 (uni.cells 29) (λ_=>True):=λbase fuel cs x h=>by
 obtain⟨xs,n,hfu,rfl,hl,hlen,hf⟩:=DataW.trod_struct underlying29 h;rw[show vi.cellsOf 29=2 from by kernel_rfl]at hl;have hlen:xs.length=2:=hlen;have f0:DataW.trod enc vi w base (λ_=>G) G n 27 ((cs.drop 0).take (vi.cellsOf 27))=xs[0]? :=hf 0 _ rfl;rw[show vi.cellsOf 27=1 from by kernel_rfl,zw (show 0<xs.length by omega)]at f0;obtain⟨a0,_,r0⟩:=as5 _ _ _ _ f0;have f1:DataW.trod enc vi w base (λ_=>G) G n 4 ((cs.drop 1).take (vi.cellsOf 4))=xs[1]? :=hf 1 _ rfl;rw[show vi.cellsOf 4=1 from by kernel_rfl,zw (show 1<xs.length by omega)]at f1;obtain⟨a1,_,r1⟩:=og4 _ _ _ _ f1;have e:bL se w [] (cs.drop 2):=by rw[xL (by omega)];exact bL.nil
 have s1:=cJ (us:=cs.drop 1) r1 (by rw[zW];exact e);have s0:=cJ (us:=cs.drop 0) r0 (by rw[zW];exact s1);exact⟨(⟨a0,a1⟩:cz),trivial,s0⟩
def auH:ko enc vi w 34 (uni.cells 34) (λ_=>True):=λbase fuel cs x h=>by
 obtain⟨xs,n,hfu,rfl,hl,hlen,hf⟩:=DataW.trod_struct underlying34 h;rw[show vi.cellsOf 34=3 from by kernel_rfl]at hl;have hlen:xs.length=3:=hlen;have f0:DataW.trod enc vi w base (λ_=>G) G n 3 ((cs.drop 0).take (vi.cellsOf 3))=xs[0]? :=hf 0 _ rfl;rw[show vi.cellsOf 3=1 from by kernel_rfl,zw (show 0<xs.length by omega)]at f0;obtain⟨a0,_,r0⟩:=Tv _ _ _ _ f0;have f1:DataW.trod enc vi w base (λ_=>G) G n 3 ((cs.drop 1).take (vi.cellsOf 3))=xs[1]? :=hf 1 _ rfl;rw[show vi.cellsOf 3=1 from by kernel_rfl,zw (show 1<xs.length by omega)]at f1;obtain⟨a1,_,r1⟩:=Tv _ _ _ _ f1;have f2:DataW.trod enc vi w base (λ_=>G) G n 3 ((cs.drop 2).take (vi.cellsOf 3))=xs[2]? :=hf 2 _ rfl;rw[show vi.cellsOf 3=1 from by kernel_rfl,zw (show 2<xs.length by omega)]at f2;obtain⟨a2,_,r2⟩:=Tv _ _ _ _ f2;have e:bL se w [] (cs.drop 3):=by rw[xL (by omega)];exact bL.nil
 have s2:=cJ (us:=cs.drop 2) r2 (by rw[zW];exact e);have s1:=cJ (us:=cs.drop 1) r1 (by rw[zW];exact s2);have s0:=cJ (us:=cs.drop 0) r0 (by rw[zW];exact s1);exact⟨(⟨a0,a1,a2⟩:aH),trivial,s0⟩
def avF:ko enc vi w 30 (λl:aa (uni.dF 34)=>[.sl 34 l]) (λl=>l.length<=9223372036854775807/\∀a∈l,True):=ko.slice (e:=34) (sz:=2) underlying30 (by kernel_rfl) rfl auH
end
end Go.Proofs.YtnfljbehcffmcaaGreat
end
noncomputable section
set_option maxRecDepth 100000
namespace Go.Proofs.YtnfljbehcffmcaaGreat
open Go Go.Iv
open Go.IntKind (i64 u64)
def aqs:ku vi 4 0 (d4.pat G)=⟨.b G,[],0⟩:=by kernel_rfl
def arf(f:aQ)(v:cz)(box:aa aH):Iv.Fn vi 4 [.agg (uni.cells 26 f), .agg (uni.cells 29 v), .sl 34 box] [] (λa s=>a= .b G/\s=[]):=(h4 (f,v,box,()) G (axv f v box)).law aqs (by kernel_rfl)
end Go.Proofs.YtnfljbehcffmcaaGreat
end
