/- Merged: Pv2b, Pv4, So, Hs, Ne9, Hr, Ne10, Ne30, Ha, Qv, Qw, Pv5, Pv6, Pv7, Qr, Qs, Ne31, Ne32, Hx, Hy, Ne33, Ne34, Ne35, Ne36, Ne37, Ne38, Qx, Qy. -/
import Derived.Test.YtnfljbehcffmcaaGreatM1RefineChecks
import Derived.Test.YtnfljbehcffmcaaGreatM4RefineChecks
import Derived.Test.YtnfljbehcffmcaaGreatM2RefineChecks
import Derived.Shelf.Sort.Plain
import Derived.Shelf.Slices.In.SortNone
import Derived.Sort.OwnSortedInts
import Derived.Test.YtnfljbehcffmcaaGreatM3RefineChecks
open Nat renaming le_refl -> zl, lt_succ_self -> zC, le_trans -> zG, add_mul -> zW, mul_le_mul_right -> yh, one_mul -> yL, not_lt_zero -> y7, lt_succ_iff_lt_or_eq -> xk, mul_one -> xC, sub_self -> xT
open SizeOf renaming sizeOf -> ze
open List renaming length_append -> zh, mem_cons_self -> zk, getElem?_eq_getElem -> zm, mem_singleton -> zo, mem_cons -> zx, take_length -> zy, length_map -> zB, length_take -> zD, range -> zH, length_set -> zI, mem_cons_of_mem -> zL, mem_map -> zM, map_append -> zO, mem_append -> zP, length_drop -> zV, map_congr_left -> zX, length -> zY, mem_filter -> z8, drop -> ya, map_cons -> yf, length_singleton -> ym, length_filter_le -> yq, append_nil -> yu, length_nil -> yA, nil_append -> yB, getElem?_drop -> yG, mem_append_left -> yJ, mem_append_right -> yK, getElem_map -> yM, drop_eq_getElem_cons -> yQ, append_assoc -> yS, map_nil -> yT, filter_cons -> yV, getElem_of_mem -> xd, filter_append -> xh, length_eq_zero_iff -> xu, ext_getElem -> xw, cons_append -> xz, map_drop -> xB, mem_of_mem_drop -> xD, drop_zero -> xI, getElem_take -> xK, map_take -> xL, getElem_mem -> xP, getElem_drop -> xS, filter_nil -> xY, take_zero -> wh, getElem_range -> wo, getElem?_take_of_lt -> wu, getElem_append_left -> wB, getElem_append_right -> wC, range_succ -> wG, mem_of_mem_take -> wJ, drop_length -> wP
open Int renaming toNat_natCast -> zg, le_refl -> zj, toNat -> zq, mul_nonneg -> zJ, mul_le_mul_of_nonneg_right -> zN, lt_irrefl -> yx, dvd_zero -> xM, le_of_lt -> xU, le_trans -> xV
open Bool renaming and_eq_true -> zi, cond_decide -> zR, false_eq_true -> yy, true -> J, false -> O
open Option renaming some -> zF, some -> V, none -> G
open Array renaming getElem?_eq_some_iff -> y8
open Decidable renaming decide -> vn
open Go.Proofs.Tryz renaming prog -> vp
open Go.Proofs.Tryz
set_option linter.unusedSectionVars false
set_option linter.unusedVariables false
set_option linter.unusedSimpArgs false
set_option linter.defProp false
noncomputable section
set_option maxRecDepth 100000
namespace Go.Proofs.YtnfljbehcffmcaaGreat
open Go Go.Iv
open Go.IntKind (i64 u64)
def Ba(vars:af bh)(t:az)(k:af Span):Span:=if t.bF=0/\(t.fN< -1048576\/1048576<t.fN)then⟨-1048577,1048577⟩else jE vars t k
def ZK(vars:af bh)(t:az)(k:af Span):Cw (Ba vars t k)=Cw (jE vars t k)/\(Cw (jE vars t k)=J->Ba vars t k=jE vars t k):=by
 unfold Ba;by_cases h:t.bF=0/\(t.fN< -1048576\/1048576<t.fN)
 ·have e:Cw (jE vars t k)=O:=by
   unfold Cw jE;rw[bB h.1];simp;omega
  rw[bB h,e];exact⟨by decide,λh=>by cases h⟩
 ·rw[bL h];simp
def tE(a b:Int):j9 a b=if a<b then a else b:=by
 unfold j9;simp
def pF(a b:Int):lM a b=if b<a then a else b:=by
 unfold lM;simp
def iN{k:af Span}{i:Nat}(h:i<zY k):(k.map (·.ah))[i]! =k[i]!.ah:=by
 rw[getElem!_pos _ i (by simpa using h),getElem!_pos k i h,yM]
def fR{k:af Span}{i:Nat}(h:i<zY k):(k.map (·.ag))[i]! =k[i]!.ag:=by
 rw[getElem!_pos _ i (by simpa using h),getElem!_pos k i h,yM]
def J6(k:af Span)(hl:zY k<=1000000)(h2:2<=zY k)(a:Span):G4 ⟨k.map (·.ah),k.map (·.ag),a.ah,a.ag,2⟩=V ⟨k.map (·.ah),k.map (·.ag),((k.drop 2).foldl ga a).ah,((k.drop 2).foldl ga a).ag,(zY k:Int)⟩:=by
 have hlen:zY (k.drop 2)=zY k-2:=zV ..;have hget:∀i,i<zY k-2->(k.drop 2)[i]! =k[i+2]! :=λi hi=>by
  grind
 obtain⟨v,e1,hv⟩:=cS (rnd:=K9) (zY k-2) (λi (b:Span)=>⟨k.map (·.ah),k.map (·.ag),b.ah,b.ag,((i+2:Nat):Int)⟩) (λi b=>b=((k.drop 2).take i).foldl ga a) (λi b hi hb=>by
  have hw:=jR (show i+2<zY k by omega) hl;refine⟨ga b k[i+2]!,?_,?_⟩
  ·unfold K9 Ci;simp only[zg,tE,pF];unfold ga
   congr 3<;>grind
  ·rw[bE au,List.foldl_append,hb,hget i hi];rfl) (λb _=>by
   unfold K9 Ci;simp only[zB,zR];rw[qZ]) (b:=a) rfl
 rw[<-hlen,zy]at hv;rw[<-hv];rw[show zY k-2+2=zY k by omega]at e1;exact e1
def ajA(vars:af bh)(t:az)(k:af Span)(h:IG vars t k):alp vars t (k.map (·.ah)) (k.map (·.ag))=V ((Ba vars t k).ah,(Ba vars t k).ag):=by
 obtain⟨hk,h24,hI⟩:=h;have h0:1<=(cg t.bF).1->IQ k[0]! :=λh=>hI _ (bf au);have h1:2<=(cg t.bF).1->IQ k[1]! :=λh=>hI _ (bf au);have h33:(cg t.bF).2<=33:=by unfold cg;grind
 have W:∀n:Int,-8796093022208<=n->n<=8796093022208->ak n=n:=λn a b=>aL;unfold alp Ci Ba jE;have cs:t.bF=0\/t.bF=24\/t.bF=6\/t.bF=8\/t.bF=9\/t.bF=10\/t.bF=11\/t.bF=12\/t.bF=21\/t.bF=22\/t.bF=23\/t.bF=25\/(t.bF≠0/\t.bF≠24/\t.bF≠6/\t.bF≠8/\t.bF≠9/\t.bF≠10/\t.bF≠11/\t.bF≠12/\t.bF≠21/\t.bF≠22/\t.bF≠23/\t.bF≠25):=au;rcases cs with h|h|h|h|h|h|h|h|h|h|h|h|h
 ·simp only[Z0];grind
 ·simp[h,h24 h]
 ·have hl:1<=(cg t.bF).1:=by rw[h];decide
  obtain⟨a1,a2,a3⟩:=h0 hl;have w1:ak ((0:Int)-k[0]!.ag)= -k[0]!.ag:=by rw[W _ au au];omega
  have w2:ak ((0:Int)-k[0]!.ah)= -k[0]!.ah:=by rw[W _ au au];omega
  have i0:(0:Int)<(zY k:Int):=au;simp only[gK,Z0,h,zR,Int.reduceEq,reduceIte,zB,i0,iN (show 0<zY k by omega),fR (show 0<zY k by omega),w1,w2,zj,Jb,false_and]
 ·have hl:2<=(cg t.bF).1:=by rw[h];decide
  obtain⟨a1,a2,a3⟩:=h0 au;obtain⟨b1,b2,b3⟩:=h1 hl;have w1:=W (k[0]!.ah+k[1]!.ah) au au;have w2:=W (k[0]!.ag+k[1]!.ag) au au;have i0:(0:Int)<(zY k:Int):=au;have i1:(1:Int)<(zY k:Int):=au;simp only[gK,Z0,h,zR,Int.reduceEq,Int.reduceLE,reduceIte,zB,iN (show 0<zY k by omega),fR (show 0<zY k by omega),iN (show 1<zY k by omega),fR (show 1<zY k by omega),i0,i1,w1,w2,zj,Jb,false_and]
 ·have hl:2<=(cg t.bF).1:=by rw[h];decide
  obtain⟨a1,a2,a3⟩:=h0 au;obtain⟨b1,b2,b3⟩:=h1 hl;have w1:=W (k[0]!.ah-k[1]!.ag) au au;have w2:=W (k[0]!.ag-k[1]!.ah) au au;have i0:(0:Int)<(zY k:Int):=au;have i1:(1:Int)<(zY k:Int):=au;simp only[gK,Z0,h,zR,Int.reduceEq,Int.reduceLE,reduceIte,zB,iN (show 0<zY k by omega),fR (show 0<zY k by omega),iN (show 1<zY k by omega),fR (show 1<zY k by omega),i0,i1,w1,w2,zj,Jb,false_and]
 ·have hl:2<=(cg t.bF).1:=by rw[h];decide
  obtain⟨a1,a2,a3⟩:=h0 au;obtain⟨b1,b2,b3⟩:=h1 hl;have m1:=su (a:=k[0]!.ah) (b:=k[1]!.ah) au au au au;have m2:=su (a:=k[0]!.ah) (b:=k[1]!.ag) au au au au;have m3:=su (a:=k[0]!.ag) (b:=k[1]!.ah) au au au au;have m4:=su (a:=k[0]!.ag) (b:=k[1]!.ag) au au au au;have w1:=W _ (show-8796093022208<=k[0]!.ah*k[1]!.ah by omega) au;have w2:=W _ (show-8796093022208<=k[0]!.ah*k[1]!.ag by omega) au;have w3:=W _ (show-8796093022208<=k[0]!.ag*k[1]!.ah by omega) au;have w4:=W _ (show-8796093022208<=k[0]!.ag*k[1]!.ag by omega) au;have i0:(0:Int)<(zY k:Int):=au;have i1:(1:Int)<(zY k:Int):=au;simp only[gK,Z0,h,zR,Int.reduceEq,Int.reduceLE,reduceIte,zB,iN (show 0<zY k by omega),fR (show 0<zY k by omega),iN (show 1<zY k by omega),fR (show 1<zY k by omega),i0,i1,w1,w2,w3,w4,zj,Jb,false_and,tE,pF,ga];generalize k[0]!.ah*k[1]!.ah=p;generalize k[0]!.ah*k[1]!.ag=q;generalize k[0]!.ag*k[1]!.ah=r;generalize k[0]!.ag*k[1]!.ag=s
  congr 2<;>grind
 ·have hl:2<=(cg t.bF).1:=by rw[h];decide
  obtain⟨a1,a2,a3⟩:=h0 au;obtain⟨b1,b2,b3⟩:=h1 hl;have z0:zq 0=0:=rfl;have z1:zq 1=1:=rfl;have aeR:∀x:Int,-1048576<=x->x<=1048576->Ck x=if x<0 then-x else x:=λx q1 q2=>by
   unfold Ck;rw[W _ au au];simp only[zR];grind
  have aab:lM (Ck k[0]!.ah) (Ck k[0]!.ag)=if k[0]!.ag< -k[0]!.ah then-k[0]!.ah else k[0]!.ag:=by
   rw[aeR _ au au,aeR _ au au,pF];grind
  have w2:ak ((0:Int)-if k[0]!.ag< -k[0]!.ah then-k[0]!.ah else k[0]!.ag)= -(if k[0]!.ag< -k[0]!.ah then-k[0]!.ah else k[0]!.ag):=by split<;>(rw[W _ au au];omega)
  have i0:(0:Int)<(zY k:Int):=au;have i1:(1:Int)<(zY k:Int):=au;simp only[gK,Z0,h,zR,Int.reduceEq,Int.reduceLE,reduceIte,zB,z0,z1,iN (show 0<zY k by omega),fR (show 0<zY k by omega),iN (show 1<zY k by omega),fR (show 1<zY k by omega),i0,i1,aab,w2,zj,Jb,false_and];by_cases c1:(0:Int)<=k[0]!.ah<;>by_cases c2:(0:Int)<=k[1]!.ah<;>simp only[cG,cD,gK,c1,c2,and_true,and_false]
 ·have hl:2<=(cg t.bF).1:=by rw[h];decide
  obtain⟨b1,b2,b3⟩:=h1 hl;have w1:=W (k[1]!.ah+1) au au;have w2:=W (k[1]!.ag-1) au au;have i1:(1:Int)<(zY k:Int):=au;simp only[gK,Z0,h,zR,Int.reduceEq,Int.reduceLE,reduceIte,zB,iN (show 1<zY k by omega),fR (show 1<zY k by omega),i1,zj,Jb,false_and,aeM,w1,w2,tE,pF]
  congr 1
  by_cases c1:k[1]!.ah<0<;>by_cases c2:(0:Int)<k[1]!.ag<;>simp only[gK,c1,c2,Prod.mk.injEq,and_true,true_and]<;>grind
 ·have hl:2<=(cg t.bF).1:=by rw[h];decide
  have i0:(0:Int)<(zY k:Int):=au;have i1:(1:Int)<(zY k:Int):=au;simp only[gK,Z0,h,zR,Int.reduceEq,Int.reduceLE,reduceIte,zB,iN (show 0<zY k by omega),fR (show 0<zY k by omega),iN (show 1<zY k by omega),fR (show 1<zY k by omega),i0,i1,zj,Jb,false_and,tE,pF]
  congr 2<;>grind
 ·have hl:2<=(cg t.bF).1:=by rw[h];decide
  have i0:(0:Int)<(zY k:Int):=au;have i1:(1:Int)<(zY k:Int):=au;simp only[gK,Z0,h,zR,Int.reduceEq,Int.reduceLE,reduceIte,zB,iN (show 0<zY k by omega),fR (show 0<zY k by omega),iN (show 1<zY k by omega),fR (show 1<zY k by omega),i0,i1,zj,Jb,false_and,tE,pF]
  congr 2<;>grind
 ·have hl:2<=(cg t.bF).1:=by rw[h];decide
  have i1:(1:Int)<(zY k:Int):=au;have e:=J6 k au au k[1]!;simp only[gK,Z0,h,zR,Int.reduceEq,Int.reduceLE,reduceIte,zB,iN (show 1<zY k by omega),fR (show 1<zY k by omega),e,i1,zj,Jb,yx,true_or,false_and]
 ·have hl:2<=(cg t.bF).1:=by rw[h];decide
  have i1:(1:Int)<(zY k:Int):=au;have e:=J6 k au au k[1]!;simp only[gK,Z0,h,zR,Int.reduceEq,Int.reduceLE,reduceIte,zB,iN (show 1<zY k by omega),fR (show 1<zY k by omega),e,i1,zj,Jb,yx,or_true,false_and]
 ·obtain⟨c1,c2,c3,c4,c5,c6,c7,c8,c9,c18,c11,c12⟩:=h;simp only[c1,c2,c3,c4,c5,c6,c7,c8,c9,c18,c11,c12,zR,IY,or_self,false_and]
def rL(vars:af bh)(t:az):Int×Int×Bool:=match mO (t.aq.map (iP vars))with
 |none=>(0,0,O)
 |some l=>((Ba vars t l).ah,(Ba vars t l).ag,Cw (Ba vars t l))
def KF(vars:af bh)(t:az):iP vars t=if(rL vars t).2.2=J then V ⟨(rL vars t).1,(rL vars t).2.1⟩else G:=by
 rw[BB,rL];cases h:mO (t.aq.map (iP vars))with
 |none=>rfl
 |some l=>
  obtain⟨h1,h2⟩:=ZK vars t l;simp_all
def ai1(M:af bh->az->aa tP)(vars:af bh)(hv:cZ vars)(inp:Bool)(t:az)(hf:dH vars inp t=J)(hM:∀k∈t.aq,M vars k=V (rL vars k)):ag8 M vars t=V (rL vars t):=by
 have h33:=QV hf;obtain⟨i,b,e1,hI,hc⟩:=jq (rnd:=Fl M) (zY t.aq) (λi (b:af Span)=>⟨vars,b.map (·.ah),b.map (·.ag),(i:Int),t⟩) (λi b=>(t.aq.take i).map (iP vars)=b.map V) (λi _=>(rL vars t.aq[i]!).2.2=O) (λi b hi hb=>by
  have hw:=jR hi au;have hk:=hM _ (bf hi);have hlen:zY b=i:=by have:=congrArg zY hb;simp at this;omega
  cases hx:(rL vars t.aq[i]!).2.2 with
  |true=>
   refine .inl ⟨b++[⟨(rL vars t.aq[i]!).1,(rL vars t.aq[i]!).2.1⟩],?_,?_⟩
   ·have hl2:zY (b.map (·.ah)++[(rL vars t.aq[i]!).1])<=1073741824:=by simp;omega
    have hl3:zY (b.map (·.ag)++[(rL vars t.aq[i]!).2.1])<=1073741824:=by simp;omega
    unfold Fl;simp only[zg,az.eta,hk,hx,hl2,hl3,hw];simp[hi]
   ·rw[bE hi,zO,hb,zO];rw[yf,yf,KF,bB hx];rfl
  |false=>
   unfold Fl;simp only[zg,az.eta,hk,hx];simp[hi]) (λb _=>by unfold Fl;simp) (b:=[]) rfl
 have e1':Nh M ⟨vars,[],[],0,t⟩=V ⟨vars,b.map (·.ah),b.map (·.ag),(i:Int),t⟩:=e1;unfold ag8;rw[az.eta,e1'];dsimp only;rcases hc with rfl|⟨hi,hx⟩
 ·rw[zy]at hI;have ha:mO (t.aq.map (iP vars))=V b:=by rw[hI];exact RR b
  rw[fD,ct,az.eta,ajA vars t b (Qf hv hf ha)];unfold rL;unfold Cw;grind
 ·have hk:=hM _ (bf hi);have ha:mO (t.aq.map (iP vars))=G:=Ca (zM.2 ⟨t.aq[i]!,bf hi,by rw[KF,hx];simp⟩);rw[oV,cK,bB ⟨au,au⟩];simp only[cD,zg,az.eta,hk,hx];unfold rL;rw[ha]
def XQ(vars:af bh)(hv:cZ vars)(inp:Bool):∀(n:Nat) (t:az),ze t<n->dH vars inp t=J->Tb n vars t=V (rL vars t)
 |0,_,h,_=>au
 |n+1,t,h,hf=>ai1 (Tb n) vars hv inp t hf (λk hk=>XQ vars hv inp n k (by have:=az.eT hk;omega) (rq hf hk))
def al0(vars:af bh)(hv:cZ vars)(inp:Bool)(t:az)(hf:dH vars inp t=J):alY vars t=V (rL vars t):=eG (ze t+1) λn hn=>XQ vars hv inp n t au hf
def EB(vars:af bh)(hv:cZ vars)(inp:Bool)(t:az):NA vars t inp=V (fq vars inp t):=by
 unfold NA fq;rw[az.eta,aix];cases hf:dH vars inp t with
 |false=>rfl
 |true=>
  rw[al0 vars hv inp t hf,KF];dsimp only;cases (rL vars t).2.2<;>rfl
def dN.eta(h:dN):dN.mk h.fName h.ah h.ag h.aF=h:=by cases h;rfl
def W4(l:af dN)(hl:zY l<=1000000)(v:dN):ack l v=V (l.any λw=>w.fName.toList==v.fName.toList):=by
 obtain⟨i,e1,hc⟩:=oy (rnd:=MW) l (λi=>⟨l,v.fName,v.ah,v.ag,v.aF.bF,v.aF.fN,v.aF.aq,(zY l:Int),(i:Int)⟩) (λ_ w=> !(w.fName.toList==v.fName.toList)) (λi hi=>by
  have hw:=jR hi hl;unfold MW Ib ail;grind) (by unfold MW Ib;simp)
 have e1':N1 ⟨l,v.fName,v.ah,v.ag,v.aF.bF,v.aF.fN,v.aF.aq,(zY l:Int),0⟩=V ⟨l,v.fName,v.ah,v.ag,v.aF.bF,v.aF.fN,v.aF.aq,(zY l:Int),(i:Int)⟩:=e1;unfold ack auq Ib;rw[e1'];rcases hc with ⟨rfl,hc⟩|⟨hi,hc⟩
 ·rw[BJ λj hj=>by have:=hc j hj;simpa using this];simp
 ·have hc':(l[i]!.fName.toList==v.fName.toList)=J:=by simpa using hc
  rw[MQ hi hc'];unfold ail;simp only[zg,hc'];simp[hi]
def Qg(f:aS)(hl:zY f.ax<=1000000)(n:Nat)(hn:n<=zY f.ax)(v:dN):
  ∃i:Nat,O3 ⟨n,0,f,v⟩=V ⟨n,(i:Int),f,v⟩/\((i=n/\((f.ax.take n).any λw=>w.fName.toList==v.fName.toList)=O)\/(i<n/\(f.ax[i]!.fName.toList==v.fName.toList)=J/\((f.ax.take n).any λw=>w.fName.toList==v.fName.toList)=J)):=by
 have hlen:zY (f.ax.take n)=n:=by rw[zD];omega
 have hget:∀i,i<n->(f.ax.take n)[i]! =f.ax[i]! :=λi hi=>by
  rw[getElem!_pos _ i au,getElem!_pos _ i au,xK]
 obtain⟨i,e1,hc⟩:=oy (rnd:=W9) (f.ax.take n) (λi=>⟨(n:Int),(i:Int),f,v⟩) (λ_ w=> !(w.fName.toList==v.fName.toList)) (λi hi=>by
  have hw:=jR hi au;unfold W9 DS;simp only[az.eta,dN.eta];grind) (by rw[hlen];unfold W9 DS;simp)
 refine⟨i,e1,?_⟩;rw[hlen]at hc;rcases hc with ⟨rfl,hc⟩|⟨hi,hc⟩
 ·exact .inl ⟨rfl,BJ λj hj=>by have:=hc j au;simpa using this⟩
 ·have hc':((f.ax.take n)[i]!.fName.toList==v.fName.toList)=J:=by simpa using hc
  exact .inr ⟨hi,by rw[<-hget i hi];exact hc',MQ au hc'⟩
def am3(t:az):aaD t=DP t:=by
 unfold aaD DP;simp
def ais(t:az):Oi t=DP t:=by
 unfold Oi DP;simp
def j6:∀(l:af Int),gE l=J↔∀i,i+1<zY l->l[i]! <l[i+1]!
 |[]=>by simp[gE]
 |[a]=>by simp[gE]
 |a::b::l=>by
  unfold gE;rw[zi,j6 (b::l),decide_eq_true_iff];constructor
  ·rintro⟨h1,h2⟩ i hi;cases i with
   |zero=>exact h1
   |succ i=>exact h2 i (by simpa using hi)
  ·intro h;exact⟨h 0 (by simp),λi hi=>h (i+1) (by simpa using hi)⟩
def aiE(l:af Int)(hl:zY l<=1000000):adO l=V (gE l):=by
 obtain⟨i,e1,hc⟩:=oy (rnd:=M5) l (λi=>⟨l,(zY l:Int),(i:Int)⟩) (λi x=>vn (i=0)||vn (l[i-1]! <x)) (λi hi=>by
  have hw:=jR hi hl;have hw2:ak ((i:Int)-1)=(i:Int)-1:=aL;have hw3:((i:Int)-1).toNat=i-1:=au;unfold M5 Hy;grind) (by unfold M5 Hy;simp)
 have e1':M6 ⟨l,(zY l:Int),0⟩=V ⟨l,(zY l:Int),(i:Int)⟩:=e1;unfold adO Hy;rw[e1'];rcases hc with ⟨rfl,hc⟩|⟨hi,hc⟩
 ·have:gE l=J:=(j6 l).2 λi hi=>by
   have:=hc (i+1) hi;simpa using this
  rw[this];simp
 ·have hc':i≠0/\¬l[i-1]! <l[i]! :=by
   simp only[Bool.or_eq_false_iff,decide_eq_false_iff_not]at hc;exact hc
  have:gE l=O:=by
   cases hr:gE l with
   |false=>rfl
   |true=>
    have:=(j6 l).1 hr (i-1) au;rw[show i-1+1=i by omega]at this;omega
  have hw2:ak ((i:Int)-1)=(i:Int)-1:=aL;have hw3:((i:Int)-1).toNat=i-1:=au;grind
def aiT(l:af Int)(hl:zY l<=1000000):an7 l=V (vn (1<=zY l/\zY l<=32)&&vn ((0:Int)<=l[0]!)&&gE l):=by
 unfold an7 Ig;by_cases h1:1<=zY l/\zY l<=32
 case neg=>
  rw[bW h1];simp only;grind
 rw[bX h1,bW (show ¬(zY l:Int)<1 by omega),bW (show ¬32<(zY l:Int)by omega),bB (⟨zj _,au⟩:(0:Int)<=0/\(0:Int)<(zY l:Int))];have hz:l[zq 0]! =l[0]! :=rfl;rw[hz];by_cases h0:(0:Int)<=l[0]!
 case neg=>
  rw[bW h0,bX (show l[0]! <0 by omega)];rfl
 rw[bX h0,bW (show ¬l[0]! <0 by omega)];dsimp only[ct];have hlen:zY (l.drop 1)=zY l-1:=zV ..;have hget:∀i,i<zY l-1->(l.drop 1)[i]! =l[i+1]! :=λi hi=>by
  simp
 obtain⟨i,e1,hc⟩:=oy (rnd:=Nz) (l.drop 1) (λi=>⟨l,((i+1:Nat):Int)⟩) (λi x=>vn (l[i]! <x)) (λi hi=>by
  have hw:=jR (show i+1<zY l by omega) hl;have hw2:ak (((i+1:Nat):Int)-1)=(i:Int):=by rw[aL];omega
  unfold Nz Ig;grind) (by
   unfold Nz Ig;simp only[zR];rw[qZ])
 have e1':Mg ⟨l,1⟩=V ⟨l,((i+1:Nat):Int)⟩:=e1;rw[e1'];dsimp only;rw[hlen]at hc;rcases hc with ⟨rfl,hc⟩|⟨hi,hc⟩
 ·have:gE l=J:=(j6 l).2 λi hi=>by
   have:=hc i au;simpa using this
  rw[this,bW (show ¬(((zY l-1+1:Nat):Int)<(zY l:Int))by omega)];rfl
 ·rw[hget i hi]at hc;have hc':¬l[i]! <l[i+1]! :=by simpa using hc
  have:gE l=O:=by
   cases hr:gE l with
   |false=>rfl
   |true=>exact dS ((j6 l).1 hr i au) hc'
  have hw2:ak (((i+1:Nat):Int)-1)=(i:Int):=by rw[aL];omega
  grind
def Y0(f:aS)(s:aB)(last:Bool):TH f s last=V (dL f s last):=by
 have h199:zY s.aR<=32->adO s.aR=V (gE s.aR):=λh=>aiE _ au;have hz:s.aR[zq 0]! =s.aR[0]! :=rfl;unfold TH aae adl ac8;rw[az.eta,am3,hz];obtain⟨X,hX⟩:∃X,X=dL f s last:=⟨_,rfl⟩;have hX1:X=J↔dL f s last=J:=by rw[hX]
 unfold dL CB at hX1;generalize DP s.aF=Z at*;have cs:s.b9=0\/s.b9=1\/s.b9=2\/s.b9=3\/s.b9=4\/s.b9=5\/s.b9=6\/s.b9<0\/6<s.b9:=au;rcases cs with h|h|h|h|h|h|h|h|h
 case inr.inr.inr.inr.inr.inr.inr.inl=>rw[bX h];dsimp only[cK];cases X<;>grind
 case inr.inr.inr.inr.inr.inr.inr.inr=>rw[bX h,fD];dsimp only[cK,ct];cases X<;>grind
 all_goals
  rw[h]at hX1 ⊢;cases X<;>cases Z<;>simp only[cG,cD,gK,Int.reduceEq,Int.reduceLT,zR,reduceIte,zi]at hX1 ⊢ <;>grind (splits:=40)
def abk(a b:Bool):(bif a then some b else some false)=some (a&&b):=by cases a<;>rfl
def V5(f:aS)(s:aB)(last:Bool)(hb:zY s.aR<=1000000):Vp f s last=V (dL f s last):=by
 have h173:=aiT s.aR hb;have e1:(bif vn ((zY s.aQ:Int)=0)then V (vn ((zY s.aX:Int)=0))else V O)=V (vn (zY s.aQ=0/\zY s.aX=0)):=by
  by_cases a1:zY s.aQ=0<;>by_cases a2:zY s.aX=0<;>simp[a1]
 have e2:(bif vn (0<=s.dJ)then bif vn (s.dJ<(zY f.ai:Int))then if(0:Int)<=s.dJ/\s.dJ<(zY f.ai:Int)then V (vn (f.ai[s.dJ.toNat]!.bS=0))else G else V O else V O)=V (CB f s):=by
  unfold CB;by_cases a1:0<=s.dJ<;>by_cases a2:s.dJ<(zY f.ai:Int)<;>simp[a1,a2]
 unfold Vp;rw[az.eta,ais,h173,e1,e2];unfold dL;generalize vn (zY s.aQ=0/\zY s.aX=0)=F;have hi:((zY s.aR:Int)=0)↔s.aR.length=0:=au;have hi2:((zY s.aX:Int)=0)↔s.aX.length=0:=au;simp only[hi,hi2];have cs:s.b9=0\/s.b9=1\/s.b9=2\/s.b9=3\/s.b9=4\/s.b9=5\/s.b9=6\/(s.b9≠0/\s.b9≠1/\s.b9≠2/\s.b9≠3/\s.b9≠4/\s.b9≠5/\s.b9≠6):=au;rcases cs with h|h|h|h|h|h|h|⟨h0,h1,h2,h3,h4,h5,h6⟩
 case inr.inr.inr.inr.inr.inr.inr=>simp only[h0,h1,h2,h3,h4,h5,h6,Ej,ct,IY]
 all_goals
  rw[h];simp only[Int.reduceEq,Ej,ct]
  try rw[Bool.decide_and]
  simp only[abk]
  first|done|(congr 1;ac_rfl)
def XG(s:aB)(hb:s.b9=6->1<=zY s.aR/\zY s.aR<=32):UP s=V (u7 s):=by
 unfold UP u7;by_cases h6:s.b9=6
 ·obtain⟨b1,b2⟩:=hb h6;have hw:ak ((zY s.aR:Int)-1)=(zY s.aR:Int)-1:=aL;have hw2:((zY s.aR:Int)-1).toNat=zY s.aR-1:=au;grind (splits:=30)
 ·rw[bW h6,bL h6];by_cases h2:s.b9=2
  ·rw[h2];grind (splits:=30)
  ·rw[bW h2,bL h2];grind (splits:=30)
def jB{f:aS}{s:aB}{last:Bool}(h:dL f s last=J):(s.b9=6->1<=zY s.aR/\zY s.aR<=32)/\(s.b9≠6->zY s.aR=0)/\(s.b9≠3->s.b9≠4->s.aQ=[])/\(s.b9≠3->s.aX=[])/\(s.b9≠4->0<=s.fN):=by
 unfold dL at h;have e1:zY s.aQ=0->s.aQ=[]:=xu.1;have e2:zY s.aX=0->s.aX=[]:=xu.1;refine⟨λh6=> ?_,λh6=> ?_,λh3 h4=>e1 ?_,λh3=>e2 ?_,λh4=> ?_⟩<;>grind (splits:=40)
abbrev aAY:=af Int
def d237:Td 1 aAY:= .c [] [] (.r 1 1 en (sr 0 3 sn) (λz=>z.2.1) (λx=>((()),(x,()))))
def ayq:=(lc (qo 0) ln)
def aB1:=(sr 0 3 sn)
def Va(b0:af Int):aa aAY:=if zY b0<=1073741824 then V (b0.mergeSort λx y=>vn (x<=y))else G
def ap7:Prop:=HY vp 237 1 ayq aB1 d237 (λg=>Va g.2.1)
def aFh:bu->bu:=eY vp 237 1 ayq aB1 d237 (λg=>Va g.2.1)
def ago(hv:ap7){F:bu}(h:bD vp F):bD vp (aFh F):=Dy hv ⟨_,func237,aY,aY⟩ (λ_=>aY) h
def alf:Go.Shelf.Ren:=⟨λ|189=>237|125=>257|257=>281|128=>300|129=>301|294=>317|295=>318|296=>319|297=>320|298=>321|299=>322|216=>323|300=>324|301=>325|328=>342|329=>333|330=>334|331=>343|332=>344|215=>326|343=>354|n=>n,λ|28=>27|3=>3|46=>240|0=>0|51=>322|53=>324|4=>4|183=>316|182=>315|131=>193|5=>5|9=>9|218=>344|222=>348|228=>356|229=>297|n=>n,λ|n=>n⟩
def Srt:Go.Proofs.Lays.n189 vp alf where
 mixed:=aY
 f125:=func257.trans (congrArg V aY)
 f128:=func300.trans (congrArg V aY)
 f129:=func301.trans (congrArg V aY)
 f189:=func237.trans (congrArg V aY)
 f215:=func326.trans (congrArg V aY)
 f216:=func323.trans (congrArg V aY)
 f257:=func281.trans (congrArg V aY)
 f294:=func317.trans (congrArg V aY)
 f295:=func318.trans (congrArg V aY)
 f296:=func319.trans (congrArg V aY)
 f297:=func320.trans (congrArg V aY)
 f298:=func321.trans (congrArg V aY)
 f299:=func322.trans (congrArg V aY)
 f300:=func324.trans (congrArg V aY)
 f301:=func325.trans (congrArg V aY)
 f328:=func342.trans (congrArg V aY)
 f329:=func333.trans (congrArg V aY)
 f330:=func334.trans (congrArg V aY)
 f331:=func343.trans (congrArg V aY)
 f332:=func344.trans (congrArg V aY)
 f343:=func354.trans (congrArg V aY)
 t0:=underlying0
 a0:=Tryz.isAgg0
 z0:=Tryz.sizeOf0
 v0:=Tryz.zeroValue0
 t3:=underlying3
 a3:=Tryz.isAgg3
 z3:=Tryz.sizeOf3
 v3:=Tryz.zeroValue3
 t4:=underlying4
 a4:=Tryz.isAgg4
 z4:=Tryz.sizeOf4
 v4:=Tryz.zeroValue4
 t5:=underlying5
 a5:=Tryz.isAgg5
 z5:=Tryz.sizeOf5
 v5:=Tryz.zeroValue5
 t9:=underlying9
 a9:=Tryz.isAgg9
 z9:=Tryz.sizeOf9
 v9:=Tryz.zeroValue9
 t28:=underlying27
 a28:=Tryz.isAgg27
 z28:=Tryz.sizeOf27
 v28:=Tryz.zeroValue27
 t46:=underlying240
 a46:=Tryz.isAgg240
 z46:=Tryz.sizeOf240
 v46:=Tryz.zeroValue240
 t51:=underlying322
 a51:=Tryz.isAgg322
 z51:=Tryz.sizeOf322
 v51:=Tryz.zeroValue322
 t53:=underlying324
 a53:=Tryz.isAgg324
 z53:=Tryz.sizeOf324
 v53:=Tryz.zeroValue324
 t131:=underlying193
 a131:=Tryz.isAgg193
 z131:=Tryz.sizeOf193
 v131:=Tryz.zeroValue193
 t182:=underlying315
 a182:=Tryz.isAgg315
 z182:=Tryz.sizeOf315
 v182:=Tryz.zeroValue315
 t183:=underlying316
 a183:=Tryz.isAgg316
 z183:=Tryz.sizeOf316
 v183:=Tryz.zeroValue316
 t218:=underlying344
 a218:=Tryz.isAgg344
 z218:=Tryz.sizeOf344
 v218:=Tryz.zeroValue344
 t222:=underlying348
 a222:=Tryz.isAgg348
 z222:=Tryz.sizeOf348
 v222:=Tryz.zeroValue348
 t228:=underlying356
 a228:=Tryz.isAgg356
 z228:=Tryz.sizeOf356
 v228:=Tryz.zeroValue356
 t229:=underlying297
 a229:=Tryz.isAgg297
 z229:=Tryz.sizeOf297
 v229:=Tryz.zeroValue297
def tO{A:Nat->Prop}{w:World}{l:af Int}{us:af Value}(h1:zY us=zY l*1)(h2:∀i,i<zY l->bN A w (uni.cells 3 l[i]!) ((us.drop (i*1)).take 1)):us=l.map (Value.int .i64):=by
 apply xw (by simpa using h1);intro i q1 q2;simp at q2;obtain⟨g1,g2⟩:=h2 i q2;have e:((us.drop (i*1)).take 1)[0]? =V us[i]:=by
  rw[wu au,yG];simp[q1]
 have g3:=g2 0 (.lit (.int .i64 l[i]!)) us[i] rfl e;rw[g3.cL,yM,getElem!_pos l i q2]
def akr{A:Nat->Prop}{w:World}{l:af Int}:∀i,i<zY l->bN A w (uni.cells 3 l[i]!) (((l.map (Value.int .i64)).drop (i*1)).take 1):=λi hi=>by
 have e:((l.map (Value.int .i64)).drop (i*1)).take 1=[Value.int .i64 l[i]!]:=by
  rw[xC,yQ (by simpa using hi),List.take_succ_cons,wh,yM,getElem!_pos l i hi]
 rw[e];refine⟨rfl,λj a v q1 q2=> ?_⟩;cases j with
 |zero=>cases q1;cases q2;exact .lit _
 |succ j=>cases q1
def as4(l b:af Int)(hb:Va l=V b):N4 vp 237 [.own 0] [(0, .row 3 l)] 1 (fZ vp 237 1 (d237.pat b)):=by
 unfold Va at hb;split at hb
 case isFalse=>cases hb
 rename_i hlen;have hbl:b=l.mergeSort λx y=>vn (x<=y):=(zF.inj hb).symm;have hln:zY b=zY l:=by rw[hbl,List.length_mergeSort]
 intro ρ;have ho:fZ vp 237 1 (d237.pat b)=⟨.jo [],[(0, .row 3 b)],1⟩:=aY;show Go.Iv.Fn vp 237 [(b7.own 0).sub ρ] (bt.res ρ [(0, .row 3 l)]) _;rw[ho,dx];intro w A vs hr hd hn;obtain⟨hr1,hr2⟩:=hr;obtain⟨v,rfl⟩:∃v,vs=[v]:=List.length_eq_one_iff.1 hr1;have hv:v=ρ.v 0:=(hr2 0 _ v rfl rfl).cL;subst hv;generalize hv:ρ.v 0=v at*;have hok:=hd.1 (.row v 3 l) (by show _∈[cc.row (ρ.v 0) 3 l];rw[hv];exact zo.2 rfl);obtain⟨us,h1,h2,h3⟩:=hok;have hσ:bt.res ρ [(0, .row 3 l)]=[cc.row v 3 l]:=by show [cc.row (ρ.v 0) 3 l]=_;rw[hv]
 have hus:us=l.map (Value.int .i64):=tO h1.1 h3;rw[hσ]at hd hn ⊢;have fin:∀w':World,gh w' v 3 1 (zY b) (b.map (Value.int .i64))->Kp (bC [cc.row v 3 l]) w w'->∃v_1 av σ',Ending.returned (Value.tuple #[])=Ending.returned v_1/\
   (∃ρ',qC 1 ρ ρ'/\av=(b7.jo (de:=uni.de) []).sub ρ'/\List.Perm σ' (bt.res ρ' [(0, .row 3 b)]))/\Tr ⟨w,A,bC [cc.row v 3 l]⟩ (bC [cc.row v 3 l]) [cc.row v 3 l] w σ' w'/\Rel (al ⟨w,A,bC [cc.row v 3 l]⟩ σ') w' av v_1:=λw' hrow hk=>by
  have hbk:bC [cc.row v 3 b]=bC [cc.row v 3 l]:=rfl;have hal:∀x,al ⟨w,A,bC [cc.row v 3 l]⟩ [cc.row v 3 l] x->al ⟨w,A,bC [cc.row v 3 l]⟩ [cc.row v 3 b] x:=λx h=>h;refine⟨_, .jo [],[cc.row v 3 b],rfl,⟨ρ,λi _=>⟨rfl,rfl⟩,by simp only[b7.sub,yT],by show List.Perm _ [cc.row (ρ.v 0) 3 b];rw[hv]⟩,⟨⟨hk,?_,?_,?_⟩,hk,λx _ h=>⟨hal x h,h.2⟩⟩,Rel.jo [] [] rfl (λj a v q=>by cases q)⟩
  ·intro r hr;rw[zo.1 hr];exact⟨b.map (Value.int .i64),hrow,λi _=>rfl,akr⟩
  ·rw[hbk];exact hn
  ·intro x hx;exact .inl hx
 obtain⟨h1l,hcase⟩:=h1;rcases hcase with ⟨p,hvp,hl0⟩|⟨gb,cap,cur,hvp,hg,q1,q2,q3,q4⟩
 ·have hl:l=[]:=xu.1 hl0;have hbn:b=[]:=by rw[hbl,hl,List.mergeSort_nil]
  subst hvp;refine(Go.Proofs.Any.slices_Sort_int_none Srt p 0 w).mono λe w' he=> ?_;obtain⟨rfl,rfl⟩:=he;refine fin w' ?_ (Kp.refl _ _);rw[hbn];exact⟨rfl, .inl ⟨p,rfl,rfl⟩⟩
 ·subst hvp;have hgs:gb<w.heap.size:=(y8.1 hg).1;have q4:cur.toList.take (zY l*1)=us:=q4;have q3:cur.size=(cap+1)*1:=q3;rw[xC]at q4;have q1:zY l<=cap+1:=q1;have hbc:zY b<=cap+1:=by rw[hln];exact q1
  have hH:=holds_of_blockI (ss:=l) hg (by rw[q4,hus]);refine(Go.Proofs.Any.slices_Sort_int Srt gb 0 (cap+1) l w hH hgs au).mono λe w' he=> ?_;obtain⟨rfl,n,os,rfl⟩:=he;rw[<-hbl];obtain⟨k1,k2,k3,k4,k5⟩:=grownBy_sortedI (w:=w) (g:=gb) (n:=n) (os:=os) b.toArray;refine fin _ ?_ ⟨k1,k2,k3,Nat.le_add_right _ _,k4,λk hk hX=>k5 k hk (λh=>hX ?_)⟩
  ·refine⟨by simp, .inr ⟨gb,cap,_,by rw[hln];rfl,heap_sortedI _ hg,hbc,q2,by simp[Go.Sort.putCells,q3],?_⟩⟩;rw[xC];exact take_putCellsI cur b (by rw[q3,xC];exact hbc)
  ·cases h;exact bQ.2 ⟨_,zo.2 rfl,rfl⟩
def aAO:ap7:=λg b hb=>as4 g.2.1 b hb
abbrev E35:=af Int
def d35:Td 0 E35:= .c [] [2] (.t (b6.s 2 [] 3) (.c [] [2] (.r 0 1 (ec 2 (qo 0) en) (sr 0 3 sn) (λz=>z.2.1) (λx=>(((),()),(x,()))))))
def A35:=(lc (ql 3) ln)
def m35(a0:af Int):aa E35:=if zY a0<=1073741824 then V a0 else G
def avK:gu vp dA 0 300 35 .no:=cH (l:=[]) func35 (bT aY) aY aH
def aGI(x:Int)(xs:af Int):bZ vp dA 300 .no 35 [.sl 3 (x::xs)] [] 0 d35.rd=if([]++(x::xs)).length<=1073741824 then V ([]++(x::xs))else G:=aY
def aHG(c:Nat):bZ vp dA 300 .no 35 [.lit (.slice G 0 c)] [] 0 d35.rd=V []:=aY
def aFF(a:Addr)(c:Nat):bZ vp dA 300 .no 35 [.lit (.slice (V a) 0 c)] [] 0 d35.rd=V []:=aY
def h35:HL vp 35 A35 d35 (λg=>m35 g.1):=λg r h=>by
 obtain⟨a0,_⟩:=g;have h:m35 a0=V r:=h;cases a0 with
 |cons x xs=>exact(nP (out:=λp=>fZ vp 35 0 (d35.pat p)) (p:=r) aV avK d35.ok (λp=>aY) (jY aY) (ki aY) ((aGI x xs).trans (by rw[yB];exact h))).2
 |nil=>
  cases h;exact XM (λc=>(nP (out:=λp=>fZ vp 35 0 (d35.pat p)) (p:=[]) aV avK d35.ok (λp=>aY) (jY aY) (ki aY) (aHG c)).2) (λa c=>(nP (out:=λp=>fZ vp 35 0 (d35.pat p)) (p:=[]) aV avK d35.ok (λp=>aY) (jY aY) (ki aY) (aFF a c)).2)
def e35:=eL vp 35 O A35 d35 (λg=>m35 g.1)
def nY{F:bu}(h:bD vp F):bD vp (e35 F):=gm (sc:=Bf) eo h35 ⟨_,func35,aY,aY⟩ (λ_=>aY) (λ_=>aY) h
structure mh where
 t21:List Int
 (t22 t23:Int)
 (b0 b1 b2:aK)
def Uy:Td 0 mh:= .c [] [2,4,7,21,22,23] (.r 0 4 (ec 2 (qp 0 0) (ec 4 (qp 1 0) (ec 7 (qp 2 0) (ec 21 (qo 3) (ec 22 aP (ec 23 aP en)))))) (sb 0 34 (lg 34) (sb 1 34 (lg 34) (sb 2 34 (lg 34) (sr 3 3 sn)))) (λz=>⟨z.q.1,z.1.q.1,z.1.q.2.1,z.2.1,z.t.1,z.t.2.1⟩) (λx=>(((),(),(),(),x.t22,x.t23,()),(x.b0,x.b1,x.b2,x.t21,()))))
def Ho{α:Type}(p:mh)(go:mh->aa α)(e1 e2:aa α):aa α:=
 bif vn (p.t23<p.t22)then if 0<=p.t23/\p.t23<zY p.t21 then if 3=3/\zq p.t23<zY p.t21 then bif bif jy p.t21[zq p.t23]! then O else J then e1 else match HH p.b0 p.t21[zq p.t23]! with|G=>G|V r1=>bif bif fB r1.fst then O else J then match pT p.b2 (iY p.t21[zq p.t23]!)with|G=>G|V r2=>go (mh.mk p.t21 p.t22 (ak (p.t23+1)) r1.snd p.b1 r2)else go (mh.mk p.t21 p.t22 (ak (p.t23+1)) r1.snd p.b1 p.b2)else G else G else e2
def Cc(p:mh):aa (aa mh):=
 Ho p (λs=>V (V s)) (V G) (V G)
def KI:=bI (Cc)
abbrev azg:=aK×Int
def d161:Td 0 azg:= .c [] [4,5] (.r 0 1 (ec 4 (qp 0 0) (ec 5 aP en)) (sb 0 34 (lg 34) sn) (λz=>(z.2.1,z.1.2.1)) (λx=>(((),x.2,()),(x.1,()))))
def OD(a0:aK)(a1:af Int):aa azg:=
 match Bb a0 with|G=>G|V r3=>bif bif r3 then O else J then V (aK.mk 0 0 0,1)else match m35 a1 with|G=>G|V r4=>match Va r4 with|G=>G|V r5=>match KI (mh.mk r5 (↑(zY r5):Int) 0 a0 (aK.mk 0 0 0) jt)with|G=>G|V r6=>Ho r6 (λ_=>G) (V (aK.mk 0 0 0,3)) (match pT r6.b2 r6.b0 with|G=>G|V r9=>V (r9,0))
def aB8:=eL vp 161 O (lc (qg 34) (lc (ql 3) ln)) d161 (λg=>OD g.1 g.2.1)
def ajZ:EO aB8:=λh=>kL (an:=(noTwo (noTwo (noTwo (noTwo (noTwo (.two (noTwo (Uy.lp KI .no)) .no))))))) (l:=[(bk f161 0,(Uy.lp KI .no))]) func161 (ago aAO (kG (tG (tw (jC (LM (BR (lN (nY aV))))))))) (aA (aO Uy) aH) h
def Qz{l:af Int}(h:gE l=J):∀{i j:Nat},i<j->j<zY l->l[i]! <l[j]! :=by
 intro i j hij hj;induction j with
 |zero=>omega
 |succ j ih=>
  have h1:=(j6 l).1 h j hj;by_cases hi:i=j
  ·subst hi;exact h1
  ·have:=ih au au;omega
def Ol{l:af Int}(h:gE l=J):l.mergeSort (λx y=>vn (x<=y))=l:=by
 apply List.mergeSort_of_pairwise;rw[List.pairwise_iff_getElem];intro i j hi hj hij;have:=Qz h hij hj;rw[getElem!_pos l i hi,getElem!_pos l j hj]at this;simp;omega
def I7:af Int->Int->Int
 |[],x=>x
 |b::l,x=>if x<=b then b else I7 l x
def pG(l:af Int)(b x:Int):I7 (l++[b]) x=if(∃c∈l,x<=c)then I7 l x else if x<=b then b else x:=by
 induction l with
 |nil=>simp[I7]
 |cons c l ih=>
  show (if x<=c then c else I7 (l++[b]) x)=_;by_cases h:x<=c
  ·rw[bB h,bB ⟨c,zk ..,h⟩];show c=if x<=c then c else I7 l x
   rw[bB h]
  ·rw[bL h,ih];show _=if _ then(if x<=c then c else I7 l x)else _
   rw[bL h];by_cases k:∃c∈l,x<=c
   ·obtain⟨d,hd,hx⟩:=k;rw[bB ⟨d,hd,hx⟩,bB ⟨d,zL _ hd,hx⟩]
   ·rw[bL k,bL (show ¬∃d∈c::l,x<=d from λ⟨d,hd,hx⟩=>by
     rcases zx.mp hd with rfl|hd
     ·exact h hx
     ·exact k ⟨d,hd,hx⟩)]
def agV{l:af Int}{x:Int}(h:∃c∈l,x<=c):I7 l x∈l:=by
 induction l with
 |nil=>obtain⟨c,hc,_⟩:=h;cases hc
 |cons c l ih=>
  show (if x<=c then c else I7 l x)∈_;by_cases k:x<=c
  ·rw[bB k];exact zk ..
  ·rw[bL k];obtain⟨d,hd,hx⟩:=h;rcases zx.mp hd with rfl|hd
   ·exact dS hx k
   ·exact zL _ (ih ⟨d,hd,hx⟩)
def My{l:af Int}{x:Int}(h:¬∃c∈l,x<=c):I7 l x=x:=by
 induction l with
 |nil=>rfl
 |cons c l ih=>
  show (if x<=c then c else I7 l x)=_;rw[bL (λk=>h ⟨c,zk ..,k⟩),ih (λ⟨d,hd,hx⟩=>h ⟨d,zL _ hd,hx⟩)]
def AT(a:aK)(l:af Int)(y:Int):Prop:=∃x,bR a x/\y=I7 l x
def aaI{a:aK}(h:NV a){l:af Int}(hl:∀b∈l,cC b){y:Int}(k:AT a l y):cC y:=by
 obtain⟨x,hx,rfl⟩:=k;by_cases c:∃c∈l,x<=c
 ·exact hl _ (agV c)
 ·rw[My c];exact Zy h hx
structure PW (a:aK) (l:List Int) (i:Nat) (s:aK×aK):Prop where
 rest:Ex (λx=>bR a x/\∀b∈l.take i,b<x) s.1
 out:nZ (λy=>∃x,bR a x/\(∃b∈l.take i,x<=b)/\y=I7 (l.take i) x) s.2
 v:NV s.2
def PW.step{a:aK}{l:af Int}{i:Nat}{s:aK×aK}(hi:i<zY l)(hl:∀b∈l,cC b)(h:PW a l i s):
  ∃u r,HH s.1 l[i]! =V (u,r)/\NV u/\(fB u=J->PW a l (i+1) (r,s.2))/\(fB u=O->PW a l (i+1) (r,cF s.2 (eC l[i]!))):=by
 obtain⟨u,r,e,p1,p2⟩:=AW h.rest.1 l[i]!;have hb:=hl _ (bf hi);have mu:∀x,bR u x↔bR a x/\(∀b∈l.take i,b<x)/\x<=l[i]! :=λx=>
  ⟨λk=>let ⟨k1,k2⟩:=(p1.2 x).mp k;let ⟨k3,k4⟩:=(h.rest.2 x).mp k1;⟨k3,k4,k2⟩,λ⟨k1,k2,k3⟩=>(p1.2 x).mpr ⟨(h.rest.2 x).mpr ⟨k1,k2⟩,k3⟩⟩
 have tk:l.take (i+1)=l.take i++[l[i]!]:=bE hi;have mr:Ex (λx=>bR a x/\∀b∈l.take (i+1),b<x) r:=⟨p2.1,λx=>by
  rw[tk];constructor
  ·intro k;obtain⟨k1,k2⟩:=(p2.2 x).mp k;obtain⟨k3,k4⟩:=(h.rest.2 x).mp k1;refine⟨k3,λb hb=> ?_⟩;rcases zP.mp hb with hb|hb
   ·exact k4 b hb
   ·rw[zo.mp hb];exact k2
  ·rintro⟨k1,k2⟩;exact(p2.2 x).mpr ⟨(h.rest.2 x).mpr ⟨k1,λb hb=>k2 b (yJ _ hb)⟩,k2 _ (yK _ (zo.mpr rfl))⟩⟩
 have eq:∀y,((∃x,bR a x/\(∃b∈l.take i,x<=b)/\y=I7 (l.take i) x)\/(y=l[i]!/\∃x,bR u x))↔(∃x,bR a x/\(∃b∈l.take (i+1),x<=b)/\y=I7 (l.take (i+1)) x):=λy=>by
  rw[tk];constructor
  ·rintro(⟨x,k1,⟨b,hb,k2⟩,rfl⟩|⟨rfl,x,hx⟩)
   ·exact⟨x,k1,⟨b,yJ _ hb,k2⟩,by rw[pG,bB ⟨b,hb,k2⟩]⟩
   ·obtain⟨k1,k2,k3⟩:=(mu x).mp hx;exact⟨x,k1,⟨_,yK _ (zo.mpr rfl),k3⟩,by rw[pG,bL (λ⟨b,hb,k⟩=>by have:=k2 b hb;omega),bB k3]⟩
  ·rintro⟨x,k1,⟨b,hb,k2⟩,rfl⟩;by_cases c:∃b∈l.take i,x<=b
   ·exact .inl ⟨x,k1,c,by rw[pG,bB c]⟩
   ·have k3:x<=l[i]! :=by
     rcases zP.mp hb with hb|hb
     ·exact dS ⟨b,hb,k2⟩ c
     ·rw[<-zo.mp hb];exact k2
    refine .inr ⟨by rw[pG,bL c,bB k3],x,(mu x).mpr ⟨k1,λb hb=> ?_,k3⟩⟩;rcases Int.lt_or_le b x with q|q
    ·exact q
    ·exact dS ⟨b,hb,q⟩ c
 obtain⟨t1,t2⟩:=oQ h.out h.v hb (Ex.rep (P:=bR u) ⟨p1.1,λx=>Iff.rfl⟩) p1.1;refine⟨u,r,e,p1.1,λk=>⟨mr,(t1 k).congr eq,h.v⟩,λk=>⟨mr,(t2 k).congr eq,eW h.v (se hb)⟩⟩
def av8{l:af Int}(h:zY l<=1073741824):m35 l=V l:=by unfold m35;rw[bB h]
def ad9{a:aK}(h:NV a){l:af Int}(hr:gE l=J)(hn:zY l<=1000000)(hl:∀b∈l,cC b):∃c,OD a l=V (c,0)/\nZ (AT a l) c:=by
 unfold OD Ho;rw[eV,dZ h];simp only[cD];rw[av8 au];simp only;rw[show Va l=V l from by unfold Va;rw[gM,Ol hr]];simp only;obtain⟨⟨r,o⟩,e1,hI⟩:=cS (rnd:=Cc) (zY l) (λi (s:aK×aK)=>mh.mk l (zY l) (i:Nat) s.1 (aK.mk 0 0 0) s.2) (PW a l)
  (λi s hi hI=>by
   obtain⟨u,r,e,vu,q1,q2⟩:=hI.step hi hl;have hb:=hl _ (bf hi);have hbb:jy l[i]! =J:=by rw[kF];exact bX hb
   unfold Cc Ho;simp only;rw[oV,cK,gM,zg,bB ⟨trivial,hi⟩,hbb];simp only[cD];rw[e];simp only;rw[jR hi hn];cases c:fB u with
   |true=>exact⟨(r,s.2),rfl,q1 c⟩
   |false=>
    simp only[cD];rw[kg hI.v (.inr (show NN (iY l[i]!)from NN.one hb.1 hb.2))];exact⟨(r,cF s.2 (eC l[i]!)),rfl,q2 c⟩)
  (λs hI=>by
   unfold Cc Ho;simp only;rw[fD];rfl) (b:=(a,cM)) ⟨⟨h,λx=>⟨λk=>⟨k,λb hb=>by simp at hb⟩,λk=>k.1⟩⟩, .none λx ⟨_,_,⟨b,hb,_⟩,_⟩=>by simp at hb, .inl rfl⟩
 have e1:bI Cc (mh.mk l (zY l) 0 a (aK.mk 0 0 0) jt)=V (mh.mk l (zY l) (zY l:Nat) r (aK.mk 0 0 0) o):=e1;rw[show KI=bI Cc from rfl,e1];simp only;rw[fD,ct,kg hI.v hI.rest.1];refine⟨_,rfl,(hI.out.join hI.rest.rep hI.v hI.rest.1).congr λy=> ?_⟩;rw[zy];constructor
 ·rintro(⟨x,k1,_,k3⟩|⟨k1,k2⟩)
  ·exact⟨x,k1,k3⟩
  ·exact⟨y,k1,(My λ⟨b,hb,k⟩=>by have:=k2 b hb;omega).symm⟩
 ·rintro⟨x,k1,k2⟩;by_cases c:∃b∈l,x<=b
  ·exact .inl ⟨x,k1,c,k2⟩
  ·right;rw[My c]at k2;subst k2;exact⟨k1,λb hb=>by
    rcases Int.lt_or_le b y with q|q
    ·exact q
    ·exact dS ⟨b,hb,q⟩ c⟩
structure jD where
 t1:List Int
 t9:Int
 t10:Bool
 t11:Int
 (b0 b1 b2:aK)
def Sg:Td 0 jD:= .c [] [1,4,7,8,9,10,11] (.r 0 3 (ec 1 (ql 3) (ec 4 (qp 0 0) (ec 7 (qp 1 0) (ec 8 (qp 2 0) (ec 9 aP (ec 10 qb (ec 11 aP en))))))) (sb 0 34 (lg 34) (sb 1 34 (lg 34) (sb 2 34 (lg 34) sn))) (λz=>⟨z.1.1,z.1.q.1,z.1.q.2.1,z.1.q.t.1,z.2.1,z.t.1,z.t.2.1⟩) (λx=>((x.t1,(),(),(),x.t9,x.t10,x.t11,()),(x.b0,x.b1,x.b2,()))))
def rN{α:Type}(p:jD)(go:jD->aa α)(e1:aa α):aa α:=
 bif vn (p.t11<zY p.t1)then if 0<=p.t11/\p.t11<zY p.t1 then bif vn (((p.t1,(),(),(),p.t9,p.t10,p.t11,()),p.b0,p.b1,p.b2,()).snd.snd.snd.fst.ah<=((p.t1,(),(),(),p.t9,p.t10,p.t11,()),p.b0,p.b1,p.b2,()).fst.fst[((p.t1,(),(),(),p.t9,p.t10,p.t11,()),p.b0,p.b1,p.b2,()).fst.snd.snd.snd.snd.snd.snd.fst.toNat]!)then bif bif p.t10 then O else J then if 0<=p.t11/\p.t11<zY p.t1 then go (jD.mk p.t1 p.t1[zq p.t11]! J (ak (p.t11+1)) p.b0 p.b1 p.b2)else G else if 0<=p.t11/\p.t11<zY p.t1 then bif vn (((p.t1,(),(),(),p.t9,p.t10,p.t11,()),p.b0,p.b1,p.b2,()).fst.fst[((p.t1,(),(),(),p.t9,p.t10,p.t11,()),p.b0,p.b1,p.b2,()).fst.snd.snd.snd.snd.snd.snd.fst.toNat]! <((p.t1,(),(),(),p.t9,p.t10,p.t11,()),p.b0,p.b1,p.b2,()).fst.snd.snd.snd.snd.fst)then if 0<=p.t11/\p.t11<zY p.t1 then go (jD.mk p.t1 p.t1[zq p.t11]! J (ak (p.t11+1)) p.b0 p.b1 p.b2)else G else go (jD.mk p.t1 p.t9 p.t10 (ak (p.t11+1)) p.b0 p.b1 p.b2)else G else go (jD.mk p.t1 p.t9 p.t10 (ak (p.t11+1)) p.b0 p.b1 p.b2)else G else e1
def Lt(p:jD):aa (aa jD):=
 rN p (λs=>V (V s)) (V G)
def HX:=bI (Lt)
structure nV where
 t1:List Int
 (b0 b1 b2:aK)
def UB:Td 0 nV:= .c [] [1,4,7,8] (.r 0 3 (ec 1 (ql 3) (ec 4 (qp 0 0) (ec 7 (qp 1 0) (ec 8 (qp 2 0) en)))) (sb 0 34 (lg 34) (sb 1 34 (lg 34) (sb 2 34 (lg 34) sn))) (λz=>⟨z.1.1,z.2.1,z.t.1,z.t.2.1⟩) (λx=>((x.t1,(),(),(),()),(x.b0,x.b1,x.b2,()))))
def vY(p:nV):aa (aa nV):=
 bif bif l6 p.b2 then O else J then match HX (jD.mk p.t1 (0) O (0) p.b0 p.b1 p.b2)with|G=>G|V r1=>rN r1 (λ_=>G) (bif bif r1.t10 then O else J then match nv r1.b1 r1.b2 with|G=>G|V r2=>V (G)else match nv r1.b1 (aK.mk r1.t9 r1.t9 (0))with|G=>G|V r3=>match m42 r1.b2 r1.t9 with|G=>G|V r4=>V (V (nV.mk r1.t1 r1.b0 r3 r4)))else V (G)
def afR:An:=(noTwo (noTwo (.two (noTwo (Sg.lp HX .no)) .no)))
def Lg:=bI (vY)
structure ob where
 t1:List Int
 t6:Int
 (b0 b1:aK)
def Um:Td 0 ob:= .c [] [1,2,4,6] (.r 0 2 (ec 1 (ql 3) (ec 2 (qp 0 0) (ec 4 (qp 1 0) (ec 6 aP en)))) (sb 0 34 (lg 34) (sb 1 34 (lg 34) sn)) (λz=>⟨z.1.1,z.1.t.2.1,z.2.1,z.t.1⟩) (λx=>((x.t1,(),(),x.t6,()),(x.b0,x.b1,()))))
def H8{α:Type}(p:ob)(go:ob->aa α)(e1 e2:aa α):aa α:=
 bif vn (p.t6<zY p.t1)then if 0<=p.t6/\p.t6<zY p.t1 then bif bif sF p.t1[zq p.t6]! then O else J then e1 else go (ob.mk p.t1 (ak (p.t6+1)) p.b0 p.b1)else G else e2
def C8(p:ob):aa (aa ob):=
 H8 p (λs=>V (V s)) (V G) (V G)
def Mc:=bI (C8)
abbrev aCW:=aK×Int
def d172:Td 0 aCW:= .c [] [4,5] (.r 0 1 (ec 4 (qp 0 0) (ec 5 aP en)) (sb 0 34 (lg 34) sn) (λz=>(z.2.1,z.1.2.1)) (λx=>(((),x.2,()),(x.1,()))))
def OK(a0:aK)(a1:af Int):aa aCW:=
 match m84 a0 with|G=>G|V r5=>bif bif r5 then O else J then V ((aK.mk (0) (0) (0),1))else match Mc (ob.mk a1 (0) a0 (aK.mk (0) (0) (0)))with|G=>G|V r6=>H8 r6 (λ_=>G) (V ((aK.mk (0) (0) (0),3))) (match Lg (nV.mk r6.t1 r6.b1 sN r6.b0)with|G=>G|V r7=>bif bif l6 r7.b2 then O else J then match HX (jD.mk r7.t1 (0) O (0) r7.b0 r7.b1 r7.b2)with|G=>G|V r8=>rN r8 (λ_=>G) (bif bif r8.t10 then O else J then match nv r8.b1 r8.b2 with|G=>G|V r9=>V ((r9,0))else match nv r8.b1 (aK.mk r8.t9 r8.t9 (0))with|G=>G|V r10=>match m42 r8.b2 r8.t9 with|G=>G|V r11=>G)else V ((r7.b1,0)))
def aBC:=eL vp 172 O (lc (qg 34) (lc (ql 3) ln)) d172 (λg=>OK g.1 g.2.1)
def ahL:EO aBC:=λh=>kL (an:=(noTwo (noTwo (.two (noTwo (Um.lp Mc .no)) (noTwo (.two (UB.lp Lg afR) .no)))))) (l:=[(bk f172 0,(Um.lp Mc .no)),(bk f172 1,(UB.lp Lg afR)),(bk f172 2,(Sg.lp HX .no))]) func172 (tJ (sV (lI (ni (Ae (Si aV)))))) (aA (aO Um) (aA (aO UB) (aA (aO Sg) aH))) h
def XE{l:af Int}(hr:gE l=J)(hn:zY l<=1000000)(b0 b1 c:aK):∃best found,HX (jD.mk l 0 O 0 b0 b1 c)=V (jD.mk l best found (zY l) b0 b1 c)/\
  ((found=O/\∀j,j<zY l->l[j]! <c.ah)\/(found=J/\∃j,j<zY l/\best=l[j]!/\c.ah<=l[j]!/\∀k,k<j->l[k]! <c.ah)):=by
 obtain⟨⟨best,found⟩,e1,hI⟩:=cS (rnd:=Lt) (zY l) (λi (s:Int×Bool)=>jD.mk l s.1 s.2 (i:Nat) b0 b1 c)
  (λi s=>(s.2=O/\∀j,j<i->l[j]! <c.ah)\/(s.2=J/\∃j,j<i/\s.1=l[j]!/\c.ah<=l[j]!/\∀k,k<j->l[k]! <c.ah))
  (λi s hi hI=>by
   have hci:(0:Int)<=(i:Int)/\(i:Int)<(zY l:Int):=au;unfold Lt rN;simp only;rw[bX hci.2,cK,bB hci,zg,jR hi hn];by_cases h1:c.ah<=l[i]!
   ·rw[bX h1,cK];rcases hI with ⟨h2,h3⟩|⟨h2,j,h3,h4,h5,h6⟩
    ·rw[h2];simp only[cD];rw[bB hci];exact⟨(l[i]!,J),rfl, .inr ⟨rfl,i,au,rfl,h1,h3⟩⟩
    ·rw[h2];simp only[cD];have hlt:l[j]! <l[i]! :=Qz hr h3 hi;rw[bB hci,bW (show ¬l[i]! <s.1 by omega),ct];exact⟨(s.1,J),rfl, .inr ⟨rfl,j,au,h4,h5,h6⟩⟩
   ·rw[bW h1,ct];refine⟨s,rfl,?_⟩;rcases hI with ⟨h2,h3⟩|⟨h2,j,h3,h4⟩
    ·refine .inl ⟨h2,λj hj=> ?_⟩;rcases xk.mp hj with k|rfl
     ·exact h3 j k
     ·omega
    ·exact .inr ⟨h2,j,au,h4⟩)
  (λs hI=>by
   unfold Lt rN;simp only;rw[fD];rfl) (b:=((0:Int),O)) (.inl ⟨rfl,λj hj=>dS hj (y7 _)⟩)
 exact⟨best,found,e1,hI⟩
def Zi{l:af Int}{j:Nat}{x:Int}(hj:j<zY l)(h1:∀k,k<j->l[k]! <x)(h2:x<=l[j]!):I7 l x=l[j]! :=by
 induction l generalizing j with
 |nil=>exact dS hj (y7 _)
 |cons b l ih=>
  cases j with
  |zero=>exact bB h2
  |succ j=>
   have h0:b<x:=h1 0 au;show (if x<=b then b else I7 l x)=_;rw[qZ];exact ih (j:=j) (by simpa using hj) (λk hk=>h1 (k+1) au) h2
def get_of_mem{l:af Int}{b:Int}(h:b∈l):∃j,j<zY l/\l[j]! =b:=by
 obtain⟨j,hj,rfl⟩:=xd h;exact⟨j,hj,getElem!_pos l j hj⟩
def afl{a:aK}(h:NV a){l:af Int}(hr:gE l=J)(hn:zY l<=1000000)(hl:∀b∈l,cC b):∃c,OK a l=V (c,0)/\nZ (AT a l) c:=by
 unfold OK H8 rN;rw[fW,dZ h];simp only[cD];have e0:bI C8 (ob.mk l 0 a (aK.mk 0 0 0))=V (ob.mk l (zY l:Nat) a (aK.mk 0 0 0)):=Ox (rnd:=C8) (λi=>ob.mk l (i:Nat) a (aK.mk 0 0 0)) (zY l) (λi hi=>by
  unfold C8 H8;simp only;rw[oV,cK,gM,zg,Gt,bX (hl _ (bf hi)),jR hi hn];rfl) (λr=>by
  unfold C8 H8;simp only;rw[fD];intro h;cases h)
 rw[show Mc=bI C8 from rfl,e0];simp only;rw[fD,ct];obtain⟨z,e1,⟨o,r,T,rfl,hr1,ho,vo⟩,hs⟩:=mG (rnd:=vY) (λp=>∃o r T,p=nV.mk l (aK.mk 0 0 0) o r/\Ex (λx=>bR a x/\T<x) r/\nZ (λy=>∃x,bR a x/\x<=T/\y=I7 l x) o/\NV o)
  (λp=>if l6 p.b2=J then 0 else(1099511627777-p.b2.ah).toNat) (λp p' ⟨o,r,T,hp,h1,h2,h3⟩ hq=>by
  subst hp;have hq:vY (nV.mk l (aK.mk 0 0 0) o r)=V (V p'):=hq;unfold vY rN at hq;simp only at hq;rcases h1.1 with rfl|vr
  ·rw[vJ]at hq;cases hq
  ·rw[iu vr]at hq;simp only[cD]at hq;obtain⟨best,found,e2,h4⟩:=XE hr hn (aK.mk 0 0 0) o r;rw[e2]at hq;simp only at hq;rw[fD,ct]at hq;rcases h4 with ⟨rfl,h4⟩|⟨rfl,j,hj,rfl,h5,h6⟩
   ·simp only[cD]at hq;rw[gA h3 h1.1]at hq;cases hq
   ·simp only[cD]at hq;have hb:=hl _ (bf hj);obtain⟨u,f1,s1⟩:=BW h1.1 l[j]!;rw[gA h3 (.inr (show NN (aK.mk l[j]! l[j]! 0)from NN.one hb.1 hb.2)),f1]at hq;simp only[zF.injEq]at hq;subst hq;have lo1:=(h1.2 r.ah).mp ⟨zj _,vr.le,⟨0,au⟩⟩;refine⟨⟨_,_,l[j]!,rfl,⟨s1.1,λx=> ?_⟩,?_,eW h3 (se hb)⟩,?_⟩
    ·constructor
     ·intro k;obtain⟨k1,k2⟩:=(s1.2 x).mp k;exact⟨((h1.2 x).mp k1).1,k2⟩
     ·rintro⟨k1,k2⟩;exact(s1.2 x).mpr ⟨(h1.2 x).mpr ⟨k1,au⟩,k2⟩
    ·refine(h2.join (KL l[j]!) h3 (se hb)).congr λy=> ?_;have mid:∀x,bR a x->T<x->x<=l[j]!->I7 l x=l[j]! :=λx k1 k2 k3=>by
      have k4:=(h1.2 x).mpr ⟨k1,k2⟩;have:=k4.1;exact Zi hj (λk hk=>by have:=h6 k hk;omega) k3
     constructor
     ·rintro(⟨x,k1,k2,k3⟩|rfl)
      ·exact⟨x,k1,au,k3⟩
      ·exact⟨r.ah,lo1.1,h5,(mid _ lo1.1 lo1.2 h5).symm⟩
     ·rintro⟨x,k1,k2,rfl⟩;by_cases c:x<=T
      ·exact .inl ⟨x,k1,c,rfl⟩
      ·exact .inr (mid x k1 au k2)
    ·show (if l6 u=J then 0 else(1099511627777-u.ah).toNat)<(if l6 r=J then 0 else(1099511627777-r.ah).toNat);rw[bL (show ¬l6 r=J by rw[iu vr];decide)];have:=vr.le;have:=vr.hi;rcases s1.1 with rfl|vu
     ·rw[bB vJ];omega
     ·rw[bL (show ¬l6 u=J by rw[iu vu];decide)];have:=(s1.2 u.ah).mp ⟨zj _,vu.le,⟨0,au⟩⟩;have:=this.2;omega) ⟨cM,a,a.ah-1,rfl,⟨h,λx=>⟨λk=>⟨k,by have:=k.1;omega⟩,λk=>k.1⟩⟩, .none λy ⟨x,k1,k2,_⟩=>by have:=k1.1;omega, .inl rfl⟩
 rw[show Lg=bI vY from rfl,show nV.mk l (aK.mk 0 0 0) sN a=nV.mk l (aK.mk 0 0 0) cM a from rfl,e1];simp only;rcases hr1.1 with rfl|vr
 ·rw[vJ];refine⟨o,rfl,ho.congr λy=>⟨λ⟨x,k1,_,k3⟩=>⟨x,k1,k3⟩,λ⟨x,k1,k3⟩=>⟨x,k1,?_,k3⟩⟩⟩;rcases Int.lt_or_le T x with q|q
  ·exact dS ((hr1.2 x).mpr ⟨k1,q⟩) Em
  ·exact q
 ·rw[iu vr];simp only[cD];obtain⟨best,found,e2,h4⟩:=XE hr hn (aK.mk 0 0 0) o r;rw[e2];simp only;rw[fD,ct];rcases h4 with ⟨rfl,h4⟩|⟨rfl,j,hj,rfl,h5,h6⟩
  ·simp only[cD];rw[gA vo hr1.1];refine⟨_,rfl,(ho.join hr1.rep vo hr1.1).congr λy=> ?_⟩;have big:∀x,bR a x->T<x->I7 l x=x:=λx k1 k2=>My λ⟨b,hb,k3⟩=>by
    obtain⟨j,hj,rfl⟩:=get_of_mem hb;have:=((hr1.2 x).mpr ⟨k1,k2⟩).1;have:=h4 j hj;omega
   constructor
   ·rintro(⟨x,k1,_,k3⟩|⟨k1,k2⟩)
    ·exact⟨x,k1,k3⟩
    ·exact⟨y,k1,(big y k1 k2).symm⟩
   ·rintro⟨x,k1,k3⟩;by_cases c:x<=T
    ·exact .inl ⟨x,k1,c,k3⟩
    ·right;rw[big x k1 au]at k3;subst k3;exact⟨k1,au⟩
  ·exfalso;have hb:=hl _ (bf hj);obtain⟨u,f1,s1⟩:=BW hr1.1 l[j]!;refine hs _ (show vY _=V (V (nV.mk l (aK.mk 0 0 0) (cF o (aK.mk l[j]! l[j]! 0)) u))from ?_);unfold vY rN;simp only;rw[iu vr];simp only[cD];rw[e2];simp only;rw[fD,ct];simp only[cD];rw[gA vo (.inr (show NN (aK.mk l[j]! l[j]! 0)from NN.one hb.1 hb.2)),f1]
def RG{a:aK}(h:NV a){l:af Int}(hr:gE l=J)(hn:zY l<=1000000)(hl:∀b∈l,cC b):∃c,OD a l=V (c,0)/\OK a l=V (c,0)/\nZ (AT a l) c/\NV c:=by
 obtain⟨c,e1,r1⟩:=ad9 h hr hn hl;obtain⟨d,e2,r2⟩:=afl h hr hn hl;rw[<-r1.uniq r2]at e2;exact⟨c,e1,e2,r1,r1.valid λy hy=>aaI h hl hy⟩
def dz.ne{P:Int->Prop}{c:aK}(h:dz P c):c≠cM:=λe=>by
 have h1:=h.all _ h.lo;rw[e]at h1;have h2:(1:Int)<=0:=xV h1.1 h1.2.1;omega
def NV.nn{c:aK}(h:NV c)(k:c≠cM):NN c:=h.elim (λe=>dS e k) id
def nZ.nn{P:Int->Prop}{c:aK}(h:nZ P c)(v:NV c){x:Int}(hx:P x):NN c:=by
 rcases h with ⟨_,h⟩|h
 ·exact dS hx (h x)
 ·exact v.nn h.ne
def Tw:NN (aK.mk 0 0 0):=NN.one (x:=0) au au
def Jk{a b:Bool}(h:(a||b)=true):NN (iZ a b):=(BS a b).nn (by cases a<;>cases b<;>first|(cases h;done)|(intro e;cases e))
def Kr(op:Int){a:aK}(h:NN a):NN (rH op a).1:=by
 unfold rH;split
 ·exact Tw
 rw[bL h.ne];split
 ·exact Jk (zero_or h)
 ·exact aiR h
def anA{op:Int}{a b:aK}(ha:NN a)(hb:NN b):∃r,oW op a b=V r/\NN r.1:=by
 by_cases ho:binop op
 ·have r1:=ha.um;have r2:=ha.DO;have r3:=hb.um;have r4:=hb.DO;by_cases hs:cnt a*cnt b<=4096
  ·rw[o6 ho ha hb hs];rcases E7 ho ha hb au with ⟨h1,c,e,h2⟩|⟨_,e⟩
   ·exact⟨_,e,h2.valid h1⟩
   ·exact⟨_,e,Tw⟩
  have hbin:=ho;obtain⟨o1,o2⟩:=ho;rcases (show op=8\/op=9\/op=10\/op=11\/op=12\/op=21\/op=22\/(13<=op/\op<=20)by omega)with rfl|rfl|rfl|rfl|rfl|rfl|rfl|h
  ·rcases j7 (op:=8) (.inl rfl) ha hb (λQ h=>O7 ha hb h) (λh=>(tq ha hb).mpr ⟨fS h (.inl rfl) (.inl rfl),fS h (.inr (.inr rfl)) (.inr (.inr rfl))⟩)with ⟨_,e,hv⟩|⟨_,e⟩
   ·exact⟨_,e,hv⟩
   ·exact⟨_,e,Tw⟩
  ·rcases j7 (op:=9) (.inr (.inl rfl)) ha hb (λQ h=>OY ha hb h) (λh=>(tD ha hb).mpr ⟨fS h (.inl rfl) (.inr (.inr rfl)),fS h (.inr (.inr rfl)) (.inl rfl)⟩)with ⟨_,e,hv⟩|⟨_,e⟩
   ·exact⟨_,e,hv⟩
   ·exact⟨_,e,Tw⟩
  ·rcases j7 (op:=10) (.inr (.inr rfl)) ha hb (λQ h=>Pc ha hb h) (λh=>(jT ha hb).mpr ⟨fS h (.inl rfl) (.inl rfl),fS h (.inl rfl) (.inr (.inr rfl)),fS h (.inr (.inr rfl)) (.inl rfl),fS h (.inr (.inr rfl)) (.inr (.inr rfl))⟩)with ⟨_,e,hv⟩|⟨_,e⟩
   ·exact⟨_,e,hv⟩
   ·exact⟨_,e,Tw⟩
  all_goals rw[BQ hbin ha hb hs];unfold afK
  ·obtain⟨a1,a2⟩:=r1;obtain⟨a3,a4⟩:=r2;simp only[cG,cD,Int.reduceEq];have hm:((max a.ah.natAbs a.ag.natAbs:Nat):Int)<=1099511627776:=au;generalize max a.ah.natAbs a.ag.natAbs=m at*;rw[nc ⟨au,au⟩ ⟨au,au⟩ au,nc ⟨au,au⟩ ⟨au,au⟩ au];cases (vn (0<=a.ah)&&vn (0<=b.ah))with
   |true=>exact⟨(jP 0 (m:Int) 1,0),rfl,nh (lo:=0) (hi:=(m:Int)) (st:=1) au au au au⟩
   |false=>exact⟨(jP (-(m:Int)) (m:Int) 1,0),rfl,nh (lo:= -(m:Int)) (hi:=(m:Int)) (st:=1) au au au au⟩
  ·obtain⟨b1,b2⟩:=r3;obtain⟨b3,b4⟩:=r4;simp only[cG,cD,Int.reduceEq];have hp:(if b.ah<0 then b.ah+1 else 0)<=0/\ -1099511627776<=(if b.ah<0 then b.ah+1 else 0):=by split<;>omega
   have hq:0<=(if 0<b.ag then b.ag-1 else 0)/\(if 0<b.ag then b.ag-1 else 0)<=1099511627776:=by split<;>omega
   generalize (if b.ah<0 then b.ah+1 else 0)=p at*;generalize (if 0<b.ag then b.ag-1 else 0)=q at*;rw[nc ⟨au,au⟩ ⟨au,au⟩ au];exact⟨(jP p q 1,0),rfl,nh (lo:=p) (hi:=q) (st:=1) au au au au⟩
  ·simp only[cG,cD,Int.reduceEq];obtain⟨l',e2,h2⟩:=KT (eW (.inr ha) (.inr hb)) (min a.ag b.ag);rw[e2];refine⟨_,rfl,h2.rep.nn h2.1 (x:=(cF a b).ah) ⟨?_,?_⟩⟩
   ·rw[gG ha hb];have:=(mq ha hb).le;exact⟨au,this,by rw[Int.sub_self];exact xM _⟩
   ·rw[gG ha hb];show min a.ah b.ah<=_;have:=ha.le;have:=hb.le;omega
  ·simp only[cG,cD,Int.reduceEq];obtain⟨l',e2,h2⟩:=BW (eW (.inr ha) (.inr hb)) (max a.ah b.ah-1);rw[e2];refine⟨_,rfl,h2.rep.nn h2.1 (x:=(cF a b).ag) ⟨?_,?_⟩⟩
   ·rw[gG ha hb];have:=(mq ha hb).le;exact⟨this,au,(mq ha hb).dvd⟩
   ·rw[gG ha hb];show _<max a.ag b.ag;have:=ha.le;have:=hb.le;omega
  ·rw[Wd h ha hb];refine⟨(iZ (AQ op a b).1 (AQ op a b).2,0),?_,Jk (R3 h ha hb)⟩;rcases ji h with rfl|rfl|rfl|rfl|rfl|rfl|rfl|rfl<;>rfl
 ·refine⟨(aK.mk 0 0 0,1),?_,Tw⟩;unfold oW;rw[fW,fW,dZ (.inr ha),dZ (.inr hb),show IU op=Ee op from rfl,ko,bW ho];rfl
def qx(op:Int)(a b:aK):aK:=match oW op a b with
 |none=>cM
 |some r=>r.1
def pL(op:Int){a b:aK}(ha:NN a)(hb:NN b):∃c,AD op a b=V (qx op a b,c)/\oW op a b=V (qx op a b,c)/\NN (qx op a b):=by
 obtain⟨r,e1,e2,_⟩:=QS op (.inr ha) (.inr hb);obtain⟨r',e3,h⟩:=anA (op:=op) ha hb;have:r'=r:=by rw[e2]at e3;cases e3;rfl
 subst this;unfold qx;rw[e2];exact⟨r'.2,e1,rfl,h⟩
def jb(a:aK)(lo hi:Int):aK:=match m86 a lo hi with
 |none=>cM
 |some r=>r.1
def iz{a:aK}(ha:NN a)(lo hi:Int):∃c,m81 a lo hi=V (jb a lo hi,c)/\m86 a lo hi=V (jb a lo hi,c)/\NN (jb a lo hi)/\(cC lo->cC hi->lo<=hi->nZ (vB a lo hi) (jb a lo hi)):=by
 rcases R7 (.inr ha) lo hi with ⟨c,e1,e2,h,v,_⟩|⟨e1,e2,hn⟩
 ·unfold jb;rw[e2];have:=ha.le;exact⟨0,e1,rfl,h.nn v (x:=max lo (min a.ah hi)) ⟨a.ah,⟨au,this,by rw[Int.sub_self];exact xM _⟩,rfl⟩,λ_ _ _=>h⟩
 ·unfold jb;rw[e2];exact⟨3,e1,rfl,Tw,λh1 h2 h3=>dS ⟨h1,h2,h3⟩ hn⟩
def sZ(a:aK)(l:af Int):aK:=match OK a l with
 |none=>cM
 |some r=>r.1
def vR{a:aK}(ha:NN a){l:af Int}(hr:gE l=J)(hn:zY l<=1000000)(hl:∀b∈l,cC b):OD a l=V (sZ a l,0)/\OK a l=V (sZ a l,0)/\NN (sZ a l)/\nZ (AT a l) (sZ a l):=by
 obtain⟨c,e1,e2,h,v⟩:=RG (.inr ha) hr hn hl;unfold sZ;rw[e2];have:=ha.le;exact⟨e1,rfl,h.nn v (x:=I7 l a.ah) ⟨a.ah,⟨au,this,by rw[Int.sub_self];exact xM _⟩,rfl⟩,h⟩
def jS{a b:aK}(h:NN a)(k:NN b):NN (cF a b):=by rw[gG h k];exact mq h k
structure rZ where
 t0:List bh
 t1:Int
 t5:List bh
 t6:Int
def T8:Td 0 rZ:= .c [] [0,1,5,6] (.r 0 1 (ec 0 (ql 131) (ec 1 aP (ec 5 (qo 0) (ec 6 aP en)))) (sr 0 131 sn) (λz=>⟨z.1.1,z.1.2.1,z.2.1,z.1.t.2.1⟩) (λx=>((x.t0,x.t1,(),x.t6,()),(x.t5,()))))
def Gp{α:Type}(p:rZ)(go:rZ->aa α)(e1:aa α):aa α:=
 bif vn (p.t6<zY p.t0)then if 0<=p.t6/\p.t6<zY p.t0 then bif vn (p.t0[zq p.t6]!.bS=p.t1)then if 0<=p.t6/\p.t6<zY p.t0 then if(p.t5++[p.t0[zq p.t6]!]).length<=1073741824 then go (rZ.mk p.t0 p.t1 (p.t5++[p.t0[zq p.t6]!]) (ak (p.t6+1)))else G else G else go (rZ.mk p.t0 p.t1 p.t5 (ak (p.t6+1)))else G else e1
def KY(p:rZ):aa (aa rZ):=
 Gp p (λs=>V (V s)) (V G)
def NZ:=bI (KY)
abbrev aAo:=af bh
def d173:Td 0 aAo:= .c [] [4] (.r 0 1 (ec 4 (qo 0) en) (sr 0 131 sn) (λz=>z.2.1) (λx=>(((),()),(x,()))))
def akG(a0:af bh)(a1:Int):aa aAo:=
 match NZ (rZ.mk a0 a1 [] (0))with|G=>G|V r1=>Gp r1 (λ_=>G) (V (r1.t5))
def aBH:=eL vp 173 O (lc (ql 131) (aU ln)) d173 (λg=>akG g.1 g.2.1)
def amv:EO aBH:=λh=>kL (an:=(noTwo (noTwo (.two (noTwo (T8.lp NZ .no)) .no)))) (l:=[(bk f173 0,(T8.lp NZ .no))]) func173 aV (aA (aO T8) aH) h
def F89:bu:=(aBH dA)
structure FH where
 t6:List bh
 (t8 t9:Int)
def acr:Td 0 FH:= .c [] [6,8,9] (.r 0 1 (ec 6 (qo 0) (ec 8 aP (ec 9 aP en))) (sr 0 131 sn) (λz=>⟨z.2.1,z.1.2.1,z.1.t.1⟩) (λx=>(((),x.t8,x.t9,()),(x.t6,()))))
def Kc{α:Type}(p:FH)(go:FH->aa α)(e1 e2:aa α):aa α:=
 bif vn (p.t9<zY p.t6)then if 0<=p.t9/\p.t9<zY p.t6 then if 131=131/\zq p.t9<zY p.t6 then if 0<=p.t9/\p.t9<zY p.t6 then if 131=131/\zq p.t9<zY p.t6 then bif vn (4096<ak (p.t8*ak (ak (p.t6[zq p.t9]!.ag-p.t6[zq p.t9]!.ah)+1)))then e1 else go (FH.mk p.t6 (ak (p.t8*ak (ak (p.t6[zq p.t9]!.ag-p.t6[zq p.t9]!.ah)+1))) (ak (p.t9+1)))else G else G else G else G else e2
def OC(p:FH):aa (aa FH):=
 Kc p (λs=>V (V s)) (V G) (V G)
def VO:=bI (OC)
structure Gm where
 t6:List bh
 t7:Int
def agn:Td 0 Gm:= .c [] [6,7] (.r 0 1 (ec 6 (qo 0) (ec 7 aP en)) (sr 0 131 sn) (λz=>⟨z.2.1,z.1.2.1⟩) (λx=>(((),x.t7,()),(x.t6,()))))
def OX{α:Type}(p:Gm)(go:Gm->aa α)(e1 e2:aa α):aa α:=
 bif vn (p.t7<zY p.t6)then if 0<=p.t7/\p.t7<zY p.t6 then if 131=131/\zq p.t7<zY p.t6 then if 0<=p.t7/\p.t7<zY p.t6 then if 131=131/\zq p.t7<zY p.t6 then bif vn (p.t6[zq p.t7]!.ag<p.t6[zq p.t7]!.ah)then e1 else if 0<=p.t7/\p.t7<zY p.t6 then if 131=131/\zq p.t7<zY p.t6 then bif vn (p.t6[zq p.t7]!.ah< -1048576)then e1 else if 0<=p.t7/\p.t7<zY p.t6 then if 131=131/\zq p.t7<zY p.t6 then bif vn (1048576<p.t6[zq p.t7]!.ag)then e1 else go (Gm.mk p.t6 (ak (p.t7+1)))else G else G else G else G else G else G else G else G else e2
def Wh(p:Gm):aa (aa Gm):=
 OX p (λs=>V (V s)) (V G) (V G)
def Wb:=bI (Wh)
abbrev E89:=Int×Int
def d89:Td 0 E89:= .c [] [4,5] (.r 0 0 (ec 4 aP (ec 5 aP en)) sn (λz=>(z.1.1,z.1.2.1)) (λx=>((x.1,x.2,()),(()))))
def aHF:∀f∈([]:af Nat),bA (F89) f:=aH
def m89(a0:af bh)(a1:Int):aa E89:=
 match (bif bif vn (a1=0)then O else J then bif bif vn (a1=1)then O else J then bif bif vn (a1=2)then O else J then V (bif vn (a1=3)then O else J)else V (O)else V (O)else V (O))with|G=>G|V r1=>bif r1 then V ((0,1))else match akG a0 a1 with|G=>G|V r2=>match Wb (Gm.mk r2 (0))with|G=>G|V r3=>OX r3 (λ_=>G) (V ((0,3))) (match VO (FH.mk r3.t6 (1) (0))with|G=>G|V r4=>Kc r4 (λ_=>G) (V ((0,4))) (V ((r4.t8,0))))
def e89:=eL vp 89 O (lc (ql 131) (aU ln)) d89 (λg=>m89 g.1 g.2.1)
def auy:EO e89:=λh=>kL (F:=F89) (an:=(noTwo (.two (.two (.rb [] 23) .no) (noTwo (.two (noTwo (agn.lp Wb .no)) (noTwo (.two (noTwo (acr.lp VO .no)) .no))))))) (l:=[(.skip,(.rb [] 23)),(bk f89 0,(agn.lp Wb .no)),(bk f89 1,(acr.lp VO .no))]) func89 (amv aV) (aA aHF (aA (aO agn) (aA (aO acr) aH))) h
def Qn:EP e89:=λh=>kP h
def F24:bu:=(e90 (e89 (e78 (e53 dA))))
abbrev E24:=Bool
def d24:Td 0 E24:= .c [] [8] (.r 0 0 (ec 8 qb en) sn (λz=>z.1.1) (λx=>((x,()),(()))))
def aCR:∀f∈([53,78]:af Nat),bA (F24) f:=(aA (Q4 (Qn (AX (PR bG)))) (aA (Q4 (Qn (AX (PR bG)))) aH))
def m24(a0:aS)(a1:Int)(a2:Int)(a3:Int):aa E24:=
 match match m53 a0 (10) (80)with|G=>G|V r1=>bif bif r1 then O else J then V (J)else match m78 a0 with|G=>G|V r2=>V (bif vn (r2=0)then O else J)with|G=>G|V r3=>bif r3 then V (O)else match m89 a0.ai (1)with|G=>G|V r4=>match m89 a0.ai (2)with|G=>G|V r5=>match m89 a0.ai (3)with|G=>G|V r6=>match r90 a0.bM with|G=>G|V r7=>match bif vn (r4.fst<=a1)then bif vn (r5.fst<=a2)then bif vn (r6.fst<=a3)then V (vn (r7.fst<=400))else V (O)else V (O)else V (O)with|G=>G|V r8=>V (r8)
def e24:=eL vp 24 O (lc (qg 26) (aU (aU (aU ln)))) d24 (λg=>m24 g.1 g.2.1 g.t.1 g.t.2.1)
def art:EO e24:=λh=>kL (F:=F24) (an:=(noTwo (.two (.two (.rb [53,78] 25) .no) (noTwo (noTwo (noTwo (noTwo (.two (.rb [53,78] 8) .no)))))))) (l:=[(.skip,(.rb [53,78] 25)),(.skip,(.rb [53,78] 8))]) func24 (acH (auy (aeb (avU aV)))) (aA aCR (aA aCR aH)) h
def GS:EP e24:=λh=>kP h
structure aJy where
 t0:List bh
 (t6 t7 t8:Int)
 t9:List Int
 t10:Bool
 t11:Int
 b0:nO
def aEY:bu:=dA
abbrev avY:=Int
def d248:Td 0 avY:= .c [] [2] (.r 0 0 (ec 2 aP en) sn (λz=>z.1.1) (λx=>((x,()),(()))))
def aAU:=(lc qb ln)
def aon:An:= .no
def aaU(a0:Bool):avY:=
 bif a0 then 1 else 0
def aHT(a0:Bool):bZ vp (aEY) 300 (aon) 248 (aAU.c (a0,())) [] 0 d248.rd=V (aaU a0):=by
 refine Eq.trans (b:=(
  bif a0 then V (1)else V (0):aa avY)) aY ?_
 simp only[aaU,cq,cO]
def aBO:=eL vp 248 O aAU d248 (λg=>V (aaU g.1))
def ajm:EO aBO:=λh=>kL (an:=aon) func248 aV aH h (c:=λg=>aHT g.1)
abbrev aFq:=Int
def aIl(a0:Int)(a1:Int):aa aFq:=
 bif vn (a1=0)then V 0 else if¬a1=0then match if¬a1=0then bif bif vn (a0.tmod a1=0)then O else J then V (bif vn (a0<0)==vn (a1<0)then O else J)else V O else G with|G=>G|V r1=>bif r1 then V (ak (ak (a0.tdiv a1)-1))else V (ak (a0.tdiv a1))else G
structure aFN where
 t0:List Int
 (t1 t5:Int)
 t6:Bool
 t7:Int
structure aIx where
 t1:List Int
 t2:List aB
 t9:Int
 b0:aS
 (b1 b2:pO)
structure aIm where
 t1:List Int
 t9:Int
 b0:aS
 b1:aB
 (b2 b3:pO)
structure aJ6 where
 (t1 t5:List Int)
 t6:Int
 b0:aS
structure HE where
 (t0 t1:List Int)
 t5:Int
def aeo:Td 0 HE:= .c [] [0,1,5] (.r 0 0 (ec 0 (ql 3) (ec 1 (ql 3) (ec 5 aP en))) sn (λz=>⟨z.1.1,z.1.2.1,z.1.t.1⟩) (λx=>((x.t0,x.t1,x.t5,()),(()))))
def Jn{α:Type}(p:HE)(go:HE->aa α)(e1 e2:aa α):aa α:=
 bif vn (p.t5<zY p.t0)then if 0<=p.t5/\p.t5<zY p.t0 then if 0<=p.t5/\p.t5<zY p.t1 then bif bif vn (((p.t0,p.t1,p.t5,()),()).fst.fst[((p.t0,p.t1,p.t5,()),()).fst.snd.snd.fst.toNat]! =((p.t0,p.t1,p.t5,()),()).fst.snd.fst[((p.t0,p.t1,p.t5,()),()).fst.snd.snd.fst.toNat]!)then O else J then e1 else go (HE.mk p.t0 p.t1 (ak (p.t5+1)))else G else G else e2
def Ql(p:HE):aa (aa HE):=
 Jn p (λs=>V (V s)) (V G) (V G)
def W5:=bI (Ql)
abbrev E98:=Bool
def d98:Td 0 E98:= .c [] [4] (.r 0 0 (ec 4 qb en) sn (λz=>z.1.1) (λx=>((x,()),(()))))
def m98(a0:af Int)(a1:af Int):aa E98:=
 bif bif vn ((zY a0:Int)=(zY a1:Int))then O else J then V O else match W5 (HE.mk a0 a1 0)with|G=>G|V r1=>Jn r1 (λ_=>G) (V O) (V J)
def e98:=eL vp 98 O (lc (ql 3) (lc (ql 3) ln)) d98 (λg=>m98 g.1 g.2.1)
def ar9:EO e98:=λh=>kL (an:=(noTwo (noTwo (.two (noTwo (aeo.lp W5 .no)) .no)))) (l:=[(bk f98 0,(aeo.lp W5 .no))]) func98 aV (aA (aO aeo) aH) h
def abo:EP e98:=λh=>kP h
def F31:bu:=(e98 dA)
abbrev E31:=Bool
def d31:Td 0 E31:= .c [] [4] (.r 0 0 (ec 4 qb en) sn (λz=>z.1.1) (λx=>((x,()),(()))))
def aF3:∀f∈([98]:af Nat),bA (F31) f:=(aA (abo bG) aH)
def m31(a0:aC)(a1:aC):aa E31:=
 match bif vn (a0.aI=a1.aI)then match m98 a0.aM a1.aM with|G=>G|V r1=>V (r1)else V (O)with|G=>G|V r2=>V (r2)
def e31:=eL vp 31 O (lc (qg 47) (lc (qg 47) ln)) d31 (λg=>m31 g.1 g.2.1)
def abO:EO e31:=λh=>kL (F:=F31) (an:=(noTwo (.two (.rb [98] 4) .no))) (l:=[(.skip,(.rb [98] 4))]) func31 (ar9 aV) (aA aF3 aH) h
def Qk:EP e31:=λh=>kP h
def DQ(b:Bool):Int:=if b=J then 1 else 0
def aBp(a b:Int):Int:=if b=0 then 0 else if a.tmod b≠0/\vn (a<0)≠vn (b<0)then a.tdiv b-1 else a.tdiv b
def aIf(a b:Int):Int:=if b=0 then 0 else a-b*aBp a b
def P9(o a b:Int):Int:=
 if o=8 then a+b else if o=9 then a-b else if o=10 then a*b else if o=11 then aBp a b else if o=12 then aIf a b
 else if o=13 then DQ (vn (a=b))else if o=14 then DQ (vn (a≠b))else if o=15 then DQ (vn (a<b))else if o=16 then DQ (vn (a<=b))
 else if o=17 then DQ (vn (b<a))else if o=18 then DQ (vn (b<=a))else if o=19 then DQ (vn (a≠0/\b≠0))else if o=20 then DQ (vn (a≠0\/b≠0))
 else if o=21 then(if a<b then a else b)else(if b<a then a else b)
def VIn(vars:af bh)(vals:af Int):Prop:=zY vals=zY vars/\∀i,i<zY vars->vars[i]!.ah<=vals[i]!/\vals[i]!<=vars[i]!.ag
def Y2{vars:af bh}{inp:Bool}{t:az}(hf:dH vars inp t=J):(0<=(cg t.bF).1/\(cg t.bF).1<=zY t.aq/\(zY t.aq:Int)<=(cg t.bF).2)/\(t.bF=24->0<=t.fN/\t.fN<zY vars):=by
 rw[mN]at hf;have h:=(zi _ _▸hf).1;unfold D0 at h;rw[zi,decide_eq_true_iff]at h;refine⟨h.1,λh24=> ?_⟩;have h2:=h.2;simp only[h24,Int.reduceEq,reduceIte,zi,decide_eq_true_eq]at h2;exact h2.1
def QH(o:Int)(h:0<=(cg o).1):((o=0\/o=24)/\cg o=(0,0))\/((o=6\/o=7)/\cg o=(1,1))\/((8<=o/\o<=22)/\cg o=(2,2))\/(o=23/\cg o=(3,3))\/(o=25/\cg o=(2,33)):=by
 unfold cg at h ⊢;split
 ·exact .inl ⟨‹_›,rfl⟩
 rename_i h1;rw[bL h1]at h;split
 ·exact .inr (.inl ⟨‹_›,rfl⟩)
 rename_i h2;rw[bL h2]at h;split
 ·exact .inr (.inr (.inl ⟨‹_›,rfl⟩))
 rename_i h3;rw[bL h3]at h;split
 ·exact .inr (.inr (.inr (.inl ⟨‹_›,rfl⟩)))
 rename_i h4;rw[bL h4]at h;split
 ·exact .inr (.inr (.inr (.inr ⟨‹_›,rfl⟩)))
 ·rename_i h5;rw[bL h5]at h;simp at h
def JE(M:aS->af aB->Bool->aa mL)(f:aS)(l A B:af aB)(top:Bool)(n i a b:Int)(ha:M f A O=V a)(hb:M f B O=V b):
  Cz M ⟨l,top,l,n,i,[A,B],2,0,f⟩=V ⟨l,top,l,n,i,[A,B],2,if a≠0 then 0 else if b≠0 then 1 else 2,f⟩:=by
 have w0:ak 1=1:=rfl;have w1:ak 2=2:=rfl;have r1:Dj M ⟨l,top,l,n,i,[A,B],2,0,f⟩=if a≠0 then V G else V (V ⟨l,top,l,n,i,[A,B],2,1,f⟩):=by
  unfold Dj C3;by_cases h:a=0<;>simp[ha,w0]
 have r2:Dj M ⟨l,top,l,n,i,[A,B],2,1,f⟩=if b≠0 then V G else V (V ⟨l,top,l,n,i,[A,B],2,2,f⟩):=by
  unfold Dj C3;by_cases h:b=0<;>simp[hb,w1]
 have r3:Dj M ⟨l,top,l,n,i,[A,B],2,2,f⟩=V G:=by
  rfl
 unfold Cz;by_cases h1:a≠0
 ·rw[bB h1]at r1 ⊢;exact cn λr=>by rw[r1];simp
 ·rw[bL h1]at r1 ⊢;rw[bP r1];by_cases h2:b≠0
  ·rw[bB h2]at r2 ⊢;exact cn λr=>by rw[r2];simp
  ·rw[bL h2]at r2 ⊢;rw[bP r2];exact cn λr=>by rw[r3];simp
def Xz(n i:Nat)(hn:n<=1000000):vn ((i:Int)=ak ((n:Int)-1))=vn (i+1=n):=by
 rw[aL];apply decide_eq_decide.2;omega
def acs(M:aS->af aB->Bool->aa mL)(f:aS)(hv:cZ f.ai)(l:af aB)(hl:zY l<=1000000)(top:Bool)(hM:∀s∈l,M f s.aQ O=V (b8 f O s.aQ)/\M f s.aX O=V (b8 f O s.aX))(i:Nat)(hi:i<zY l):
  (stC f top (zY l) i l[i]! =0->BZ M ⟨l,top,l,(zY l:Int),(i:Int),f⟩=V (V ⟨l,top,l,(zY l:Int),((i+1:Nat):Int),f⟩))/\(stC f top (zY l) i l[i]!≠0->BZ M ⟨l,top,l,(zY l:Int),(i:Int),f⟩=V G):=by
 have hw:=jR hi hl;obtain⟨k1,k2⟩:=hM _ (bf hi);have hin:=JE M f l l[i]!.aQ l[i]!.aX top (zY l:Int) (i:Int) _ _ k1 k2;have hlen:(zY ([l[i]!.aQ,l[i]!.aX]:af (af aB)):Int)=2:=rfl;have hi1:(i:Int)<(zY l:Int):=au;have hi0:(0:Int)<=(i:Int):=au;unfold BZ C3 stC pz;simp only[zg,az.eta,aB.eta,Y0,Xz (zY l) i hl,EK f.ai hv,hlen,hin,hi1];have e1':(bif top then some (bif dL f l[i]! (vn (i+1=zY l))then false else true)else some (bif dL f l[i]! false then false else true))=some (bif dL f l[i]! (top&&vn (i+1=zY l))then false else true):=by cases top<;>rfl
 rw[e1'];have hS:dL f l[i]! (top&&vn (i+1=zY l))=J->UP l[i]! =V (u7 l[i]!):=λh=>XG _ (jB h).1;revert hS;generalize dL f l[i]! (top&&vn (i+1=zY l))=S;intro hS;generalize l[i]!.aQ=A at k1 hin ⊢;generalize l[i]!.aX=B at k2 hin ⊢;cases S with
 |false=>simp
 |true=>
  rw[hS rfl];generalize u7 l[i]! =N;cases N with
  |false=>simp
  |true=>
   generalize fq f.ai O l[i]!.aF=T;generalize b8 f O A=a at*;generalize b8 f O B=b at*;by_cases hT:T=0
   ·by_cases ha:a=0
    ·by_cases hb:b=0
     ·simp[hT,ha,hb,hw]
     ·simp[hT,ha,hb,k2]
    ·simp[hT,ha,k1]
   ·simp[hT]
def ajx(M:aS->af aB->Bool->aa mL)(f:aS)(hv:cZ f.ai)(l:af aB)(hl:zY l<=1000000)(top:Bool)(hM:∀s∈l,M f s.aQ O=V (b8 f O s.aQ)/\M f s.aX O=V (b8 f O s.aX)):ajW M f l top=V (b8 f top l):=by
 obtain⟨i,e1,hc⟩:=ux (rnd:=BZ M) l (λi=>⟨l,top,l,(zY l:Int),(i:Int),f⟩) (stC f top (zY l)) (λi hi=>acs M f hv l hl top hM i hi) (by unfold BZ C3;simp);have e1':Nq M ⟨l,top,l,(zY l:Int),0,f⟩=V ⟨l,top,l,(zY l:Int),(i:Int),f⟩:=e1;rw[sG f top (zY l) l 0 au]at hc;unfold ajW;rw[e1'];rcases hc with ⟨rfl,hc⟩|⟨hi,h0,hc⟩
 ·rw[hc];simp
 ·rw[hc];obtain⟨k1,k2⟩:=hM _ (bf hi);have hin:=JE M f l l[i]!.aQ l[i]!.aX top (zY l:Int) (i:Int) _ _ k1 k2;have hlen:(zY ([l[i]!.aQ,l[i]!.aX]:af (af aB)):Int)=2:=rfl;have hi1:(i:Int)<(zY l:Int):=au;have hi0:(0:Int)<=(i:Int):=au;revert h0;unfold stC pz;simp only[zg,az.eta,aB.eta,Y0,Xz (zY l) i hl,EK f.ai hv,hlen,hin,hi1];have e1':(bif top then some (bif dL f l[i]! (vn (i+1=zY l))then false else true)else some (bif dL f l[i]! false then false else true))=some (bif dL f l[i]! (top&&vn (i+1=zY l))then false else true):=by cases top<;>rfl
  rw[e1'];have hS:dL f l[i]! (top&&vn (i+1=zY l))=J->UP l[i]! =V (u7 l[i]!):=λh=>XG _ (jB h).1;revert hS;generalize dL f l[i]! (top&&vn (i+1=zY l))=S;intro hS;generalize l[i]!.aQ=A at k1 hin ⊢;generalize l[i]!.aX=B at k2 hin ⊢;cases S with
  |false=>simp
  |true=>
   rw[hS rfl];generalize u7 l[i]! =N;cases N with
   |false=>simp
   |true=>
    generalize fq f.ai O l[i]!.aF=T;generalize b8 f O A=a at*;generalize b8 f O B=b at*;by_cases hT:T=0
    ·by_cases ha:a=0
     ·by_cases hb:b=0
      ·simp[hT,ha,hb]
      ·simp[hT,ha,hb,k2]
     ·simp[hT,ha,k1]
    ·simp[hT]
def MA(f:aS)(hv:cZ f.ai):∀(n:Nat) (l:af aB) (top:Bool),ze l<n->fK l<=1000->Vq n f l top=V (b8 f top l)
 |0,_,_,h,_=>au
 |n+1,l,top,h,h2=>ajx (Vq n) f hv l (by have:=kr l;omega) top (λs hs=>⟨MA f hv n _ _ (by have:=bw hs;omega) (by have:=gy hs;omega),MA f hv n _ _ (by have:=bw hs;omega) (by have:=gy hs;omega)⟩)
def amx(f:aS)(hv:cZ f.ai)(l:af aB)(top:Bool)(h:fK l<=1000):aif f l top=V (b8 f top l):=eG (ze l+1) λn hn=>MA f hv n l top au h
def YQ{f:aS}{s:aB}{last:Bool}(h:dL f s last=J)(c:Int)(hc:c=if s.b9=2 then 67108864 else 10000):
  ((bif vn (s.bg<0)then V J else bif vn (c<s.bg)then V J else bif vn (s.fN<0)then V J else bif vn (s.b9=4)then V (vn (4096<s.fN))else V O):aa Bool)=V (!(vn (0<=s.bg/\s.bg<=c)&&(if s.b9=4 then vn (0<=s.fN/\s.fN<=4096)else J))):=by
 obtain⟨b1,b2,b3,b4,b5⟩:=jB h;by_cases h1:s.bg<0
 ·simp[h1]
 by_cases h2:c<s.bg
 ·simp[h2]
 by_cases h3:s.fN<0
 ·have h4:s.b9=4:=by
   omega
  simp[h3,h4]
 by_cases h4:s.b9=4
 ·simp[h1,h2,h3];by_cases h5:4096<s.fN
  ·grind
  ·simp_all
 ·simp[h1,h2,h3,h4,show 0<=s.bg by omega,show s.bg<=c by omega]
def WL{f:aS}{s:aB}{last:Bool}(h:dL f s last=J):
  ((bif vn (0<(zY s.aR:Int))then if(0:Int)<=ak ((zY s.aR:Int)-(1:Int))/\ak ((zY s.aR:Int)-(1:Int))<(zY s.aR:Int)then V (vn (67108864<s.aR[(ak ((zY s.aR:Int)-1)).toNat]!))else G else V O):aa Bool)=V (!(if s.b9=6 then vn (s.aR[zY s.aR-1]!<=67108864)else J)):=by
 obtain⟨b1,b2,b3,b4,b5⟩:=jB h;by_cases h6:s.b9=6
 ·obtain⟨b1,b2⟩:=b1 h6;have hw:ak ((zY s.aR:Int)-1)=(zY s.aR:Int)-1:=aL;have hw2:((zY s.aR:Int)-1).toNat=zY s.aR-1:=au;rw[hw,hw2,oV,cK,bB ⟨au,au⟩,bB h6];generalize s.aR[zY s.aR-1]! =B;by_cases h:67108864<B
  ·simp[h]
  ·simp[h];omega
 ·rw[bW (by have:=b2 h6;omega),bL h6];rfl
def aks(M:aS->af aB->Bool->aa pe)(f:aS)(hv:cZ f.ai)(l:af aB)(hl:zY l<=1000000)(hB:∀s∈l,zY s.aR<=1000000)(top:Bool)(hM:∀s∈l,M f s.aQ O=V (b8 f O s.aQ)/\M f s.aX O=V (b8 f O s.aX))(i:Nat)(hi:i<zY l):
  (stC f top (zY l) i l[i]! =0->Cp M ⟨l,top,(i:Int),f⟩=V (V ⟨l,top,((i+1:Nat):Int),f⟩))/\(stC f top (zY l) i l[i]!≠0->Cp M ⟨l,top,(i:Int),f⟩=V G):=by
 have hw:=jR hi hl;obtain⟨k1,k2⟩:=hM _ (bf hi);have hb:=hB _ (bf hi);have hi1:(i:Int)<(zY l:Int):=au;have hi0:(0:Int)<=(i:Int):=au;unfold Cp stC pz;simp only[zg,az.eta,aB.eta,V5 f l[i]! _ hb,Xz (zY l) i hl,EB f.ai hv,hw,hi1];have e1':(bif top then some (bif dL f l[i]! (vn (i+1=zY l))then false else true)else some (bif dL f l[i]! false then false else true))=some (bif dL f l[i]! (top&&vn (i+1=zY l))then false else true):=by cases top<;>rfl
 rw[e1'];cases hS:dL f l[i]! (top&&vn (i+1=zY l))with
 |false=>simp
 |true=>
  have hn:=YQ hS;rw[WL hS];unfold u7;generalize (if l[i]!.b9=6 then vn (l[i]!.aR[zY l[i]!.aR-1]!<=67108864)else J)=B6;by_cases h2:l[i]!.b9=2
  ·grind
  ·rw[bL h2]at hn ⊢;rw[bW h2,hn 10000 rfl];generalize (vn (0<=l[i]!.bg/\l[i]!.bg<=10000)&&(if l[i]!.b9=4 then vn (0<=l[i]!.fN/\l[i]!.fN<=4096)else J))=N;generalize fq f.ai O l[i]!.aF=T;generalize l[i]!.aQ=A at k1 ⊢;generalize l[i]!.aX=B at k2 ⊢;generalize b8 f O A=a at*;generalize b8 f O B=b at*;cases N with
   |false=>simp
   |true=>
    cases B6 with
    |false=>simp
    |true=>
     by_cases hT:T=0
     ·by_cases ha:a=0
      ·by_cases hb:b=0
       ·simp[hT,ha,hb,k1,k2]
       ·simp[hT,ha,hb,k1,k2]
      ·simp[hT,ha,k1]
     ·simp[hT]
def amU(M:aS->af aB->Bool->aa pe)(f:aS)(hv:cZ f.ai)(l:af aB)(hl:zY l<=1000000)(hB:∀s∈l,zY s.aR<=1000000)(top:Bool)(hM:∀s∈l,M f s.aQ O=V (b8 f O s.aQ)/\M f s.aX O=V (b8 f O s.aX)):ajV M f l top=V (b8 f top l):=by
 obtain⟨i,e1,hc⟩:=ux (rnd:=Cp M) l (λi=>⟨l,top,(i:Int),f⟩) (stC f top (zY l)) (λi hi=>aks M f hv l hl hB top hM i hi) (by unfold Cp;simp);have e1':Nd M ⟨l,top,0,f⟩=V ⟨l,top,(i:Int),f⟩:=e1;rw[sG f top (zY l) l 0 au]at hc;unfold ajV;rw[e1'];dsimp only;rcases hc with ⟨rfl,hc⟩|⟨hi,h0,hc⟩
 ·simp_all
 ·rw[hc];obtain⟨k1,k2⟩:=hM _ (bf hi);have hb:=hB _ (bf hi);have hi1:(i:Int)<(zY l:Int):=au;have hi0:(0:Int)<=(i:Int):=au;revert h0;unfold stC pz;simp only[zg,az.eta,aB.eta,V5 f l[i]! _ hb,Xz (zY l) i hl,EB f.ai hv,hi1];have e1':(bif top then some (bif dL f l[i]! (vn (i+1=zY l))then false else true)else some (bif dL f l[i]! false then false else true))=some (bif dL f l[i]! (top&&vn (i+1=zY l))then false else true):=by cases top<;>rfl
  rw[e1'];cases hS:dL f l[i]! (top&&vn (i+1=zY l))with
  |false=>simp
  |true=>
   have hn:=YQ hS;rw[WL hS];unfold u7;generalize (if l[i]!.b9=6 then vn (l[i]!.aR[zY l[i]!.aR-1]!<=67108864)else J)=B6;by_cases h2:l[i]!.b9=2
   ·rw[bB h2]at hn ⊢;rw[bX h2,hn 67108864 rfl];generalize (vn (0<=l[i]!.bg/\l[i]!.bg<=67108864)&&(if l[i]!.b9=4 then vn (0<=l[i]!.fN/\l[i]!.fN<=4096)else J))=N;generalize fq f.ai O l[i]!.aF=T;generalize l[i]!.aQ=A at k1 ⊢;generalize l[i]!.aX=B at k2 ⊢;generalize b8 f O A=a at*;generalize b8 f O B=b at*;cases N with
    |false=>simp
    |true=>
     cases B6 with
     |false=>simp
     |true=>
      by_cases hT:T=0
      ·by_cases ha:a=0
       ·by_cases hb:b=0
        ·simp[hT,ha,hb]
        ·simp[hT,ha,hb,k1,k2]
       ·simp[hT,ha,k1]
      ·simp[hT]
   ·rw[bL h2]at hn ⊢;rw[bW h2,hn 10000 rfl];generalize (vn (0<=l[i]!.bg/\l[i]!.bg<=10000)&&(if l[i]!.b9=4 then vn (0<=l[i]!.fN/\l[i]!.fN<=4096)else J))=N;generalize fq f.ai O l[i]!.aF=T;generalize l[i]!.aQ=A at k1 ⊢;generalize l[i]!.aX=B at k2 ⊢;generalize b8 f O A=a at*;generalize b8 f O B=b at*;cases N with
    |false=>simp
    |true=>
     cases B6 with
     |false=>simp
     |true=>
      by_cases hT:T=0
      ·by_cases ha:a=0
       ·by_cases hb:b=0
        ·simp[hT,ha,hb]
        ·simp[hT,ha,hb,k1,k2]
       ·simp[hT,ha,k1]
      ·simp[hT]
def MU(f:aS)(hv:cZ f.ai):∀(n:Nat) (l:af aB) (top:Bool),ze l<n->fK l<=1000->Vt n f l top=V (b8 f top l)
 |0,_,_,h,_=>au
 |n+1,l,top,h,h2=>amU (Vt n) f hv l (by have:=kr l;omega) (λs hs=>by have:=Ew hs;have:=qj s;omega) top (λs hs=>⟨MU f hv n _ _ (by have:=bw hs;omega) (by have:=gy hs;omega),MU f hv n _ _ (by have:=bw hs;omega) (by have:=gy hs;omega)⟩)
def anz(f:aS)(hv:cZ f.ai)(l:af aB)(top:Bool)(h:fK l<=1000):ajt f l top=V (b8 f top l):=eG (ze l+1) λn hn=>MU f hv n l top au h
def afP(f:aS)(hv:cZ f.ai)(hl:zY f.ax<=1000000)(i:Nat)(hi:i<zY f.ax):
  (kU f i f.ax[i]! =0->B8 ⟨f.ax,(zY f.ax:Int),(i:Int),f⟩=V (V ⟨f.ax,(zY f.ax:Int),((i+1:Nat):Int),f⟩))/\(kU f i f.ax[i]!≠0->B8 ⟨f.ax,(zY f.ax:Int),(i:Int),f⟩=V G):=by
 have hw:=jR hi hl;have h2:=W4 (f.ax.take i) (by rw[zD];omega) f.ax[i]!;unfold B8 kU;simp only[az.eta,dN.eta,E4,EI,EK f.ai hv];grind
def ajN(f:aS)(hv:cZ f.ai)(hl:zY f.ax<=1000000):ank f=V (cu (kU f) f.ax 0):=by
 obtain⟨i,e1,hc⟩:=ux (rnd:=B8) f.ax (λi=>⟨f.ax,(zY f.ax:Int),(i:Int),f⟩) (kU f) (λi hi=>afP f hv hl i hi) (by unfold B8;simp);have e1':Mx ⟨f.ax,(zY f.ax:Int),0,f⟩=V ⟨f.ax,(zY f.ax:Int),(i:Int),f⟩:=e1;unfold ank;rw[e1'];rcases hc with ⟨rfl,hc⟩|⟨hi,h0,hc⟩
 ·simp_all
 ·rw[hc];have h2:=W4 (f.ax.take i) (by rw[zD];omega) f.ax[i]!;revert h0;unfold kU;simp only[az.eta,dN.eta,E4,EI,EK f.ai hv];grind
def amV(f:aS)(hv:cZ f.ai)(hl:zY f.ax<=1000000)(i:Nat)(hi:i<zY f.ax):
  (kU f i f.ax[i]! =0->J1 ⟨(i:Int),f⟩=V (V ⟨((i+1:Nat):Int),f⟩))/\(kU f i f.ax[i]!≠0->J1 ⟨(i:Int),f⟩=V G):=by
 have hw:=jR hi hl;obtain⟨j,h2,h3⟩:=Qg f hl i au f.ax[i]!;unfold J1 DS kU;simp only[zg,az.eta,E5,EL,h2,EB f.ai hv];grind
def acU(f:aS)(hv:cZ f.ai)(hl:zY f.ax<=1000000):∃i:Nat,V1 ⟨0,f⟩=V ⟨(i:Int),f⟩/\((i=zY f.ax/\cu (kU f) f.ax 0=0)\/(i<zY f.ax/\kU f i f.ax[i]!≠0/\cu (kU f) f.ax 0=kU f i f.ax[i]!)):=
 ux (rnd:=J1) f.ax (λi=>⟨(i:Int),f⟩) (kU f) (λi hi=>amV f hv hl i hi) (by unfold J1 DS;simp)
def Ct{f:aS}{i:Nat}(hi:i<zY f.ax):kS ((f.ax.take i).map (·.aF))+nT f.ax[i]!.aF<=kS (f.ax.map (·.aF)):=by
 have h:=Hz (f.ax.map (·.aF)) (i+1);rw[<-xL,bE hi,zO,EM]at h
 assumption
def aha(f:aS)(h:fK f.bM+kS (f.ax.map (·.aF))<=900)(hl:zY f.ax<=1000000):akt f=V (rA f):=by
 unfold akt C1 rA;by_cases h1:64<(zY f.ai:Int)
 ·grind
 by_cases h2:8<(zY f.ax:Int)
 ·grind
 rw[bW h1,bW h2,bX (show zY f.ai<=64 by omega),bX (show zY f.ax<=8 by omega)];dsimp only[ct,cK];have hb:=Fg f.bM;rw[ajI f.bM au];obtain⟨i,b,e1,hI,hc⟩:=jq (rnd:=Hs) (zY f.ax) (λi (b:Int)=>⟨b,(i:Int),f⟩) (λi b=>(0<=b/\b<=fK f.bM+kS ((f.ax.take i).map (·.aF)))/\∀j,j<i->dT f.ax[j]!.aF<=12) (λi _=>12<dT f.ax[i]!.aF) (λi b hi hI=>by
  have hn:=Ct hi;have hw:=jR hi hl;have k1:=LB f.ax[i]!.aF au;have k2:=Lk f.ax[i]!.aF au;have hi1:(i:Int)<(zY f.ax:Int):=au;have hi0:(0:Int)<=(i:Int):=au;by_cases hd:12<dT f.ax[i]!.aF
  ·refine .inr ⟨?_,hd⟩;unfold Hs C1;simp only[cG,az.eta,k1,k2,hi1,hi0,cK,cW,hd]
  ·refine .inl ⟨b+nT f.ax[i]!.aF,?_,⟨au,?_⟩,λj hj=> ?_⟩
   ·have hw2:ak (b+(nT f.ax[i]!.aF:Int))=b+nT f.ax[i]!.aF:=aL;unfold Hs C1;simp only[cG,cD,az.eta,k1,k2,hi1,hi0,cW,hd,hw,hw2]
   ·rw[bE hi,zO,EM];simp only[yf,yT,sC];omega
   ·rcases xk.1 hj with h|h
    ·exact hI.2 j h
    ·subst h;omega) (λb _=>by unfold Hs C1;simp) (b:=gO f.bM) ⟨⟨au,by simp only[wh,yT,show kS []=0 from rfl];omega⟩,λj hj=>dS hj au⟩
 have e1':Nt ⟨gO f.bM,0,f⟩=V ⟨b,(i:Int),f⟩:=e1;dsimp only;rw[e1'];dsimp only;rcases hc with rfl|⟨hi,hd⟩
 ·rw[bW (show ¬((zY f.ax:Int)<(zY f.ax:Int))by omega),ct];have ha:f.ax.all (λh=>vn (dT h.aF<=12))=J:=Gd λj hj=>by simpa using hI.2 j hj
  have hn:=hI.1.2;rw[zy]at hn;rw[ha,bX (show b<=1024 by omega),cK,ajR f.bM au,ams f.bM au];by_cases h5:jW f.bM<=12
  ·cases fH f.bM<;>simp[h5]
  ·simp[h5]
 ·have hn:=Ct hi;have k1:=LB f.ax[i]!.aF au;have k2:=Lk f.ax[i]!.aF au;have hi1:(i:Int)<(zY f.ax:Int):=au;have hi0:(0:Int)<=(i:Int):=au;have ha:f.ax.all (λh=>vn (dT h.aF<=12))=O:=Bv hi (by simpa using hd);simp only[cG,az.eta,k1,k2,hi1,hi0,cK,cW,hd,ha,Bool.and_false,Bool.false_and]
def alI(M:af aB->Int->bq->aa tT)(l:af aB)(hM:∀s∈l,∀(d:Int) (b:bq),0<=d->d<=13->0<=b.bH->(b.bH+fK s.aQ<=1000->M s.aQ d b=V (oU d s.aQ b))/\(b.bH+fK s.aX<=1000->M s.aX d b=V (oU d s.aX b)))(d:Int)(b:bq)(h0:0<=d)(hd:d<=13)(h1:0<=b.bH)(h2:b.bH+fK l<=1000):aod M l d b=V (oU d l b):=by
 have hL:=kr l;have hw1:ak (d+1)=d+1:=aL;have hgo:∀(l:af aB) (i:Nat) (b:bq),OQ (λ_ (b:bq) (s:aB)=>if fL (dI d b)=J then(.inr (dI d b):bq ⊕ bq)else .inl (oU (d+1) s.aX (oU (d+1) s.aQ (BV s.aF 1 (dI d b))))) id id l i b=oU d l b:=by
  intro l;induction l with
  |nil=>intro i b;rw[oU];rfl
  |cons s l ih=>
   intro i b;rw[oU];by_cases ho:fL (dI d b)=J
   ·rw[bB ho,pU (r:=dI d b) (by rw[bB ho])];rfl
   ·rw[bL ho,tM (b':=oU (d+1) s.aX (oU (d+1) s.aQ (BV s.aF 1 (dI d b)))) (by rw[bL ho])];exact ih (i+1) _
 have hm:∀(b:bq) (x:Bool),-1000000<=b.bH->b.bH<=1000000->x=(b.fM||vn (12<d))->kH ⟨ak (b.bH+1),x⟩=(fL (dI d b),dI d b):=λb x b1 b2 hx=>by
  rw[Ap,aL,hx];rfl
 have hs:∀(i:Nat) (b:bq),i<zY l->0<=b.bH->b.bH+nS l[i]!<=1000->fL (dI d b)=O->d<=12/\Ms l[i]!.aF 1 (dI d b)=V (BV l[i]!.aF 1 (dI d b))/\M l[i]!.aQ (d+1) (BV l[i]!.aF 1 (dI d b))=V (oU (d+1) l[i]!.aQ (BV l[i]!.aF 1 (dI d b)))/\M l[i]!.aX (d+1) (oU (d+1) l[i]!.aQ (BV l[i]!.aF 1 (dI d b)))=V (oU (d+1) l[i]!.aX (oU (d+1) l[i]!.aQ (BV l[i]!.aF 1 (dI d b))))/\0<=(oU (d+1) l[i]!.aX (oU (d+1) l[i]!.aQ (BV l[i]!.aF 1 (dI d b)))).bH/\(oU (d+1) l[i]!.aX (oU (d+1) l[i]!.aQ (BV l[i]!.aF 1 (dI d b)))).bH<=b.bH+nS l[i]! :=λi b hi b1 b2 ho=>by
  have hd2:d<=12:=by unfold fL dI at ho;grind
  have hN:=qj l[i]!;have hp:(dI d b).bH=b.bH+1:=rfl;obtain⟨a1,a2,a3⟩:=KX l[i]!.aF 1 (dI d b) au au au;obtain⟨c1,c2,c3⟩:=RX (d+1) l[i]!.aQ (BV l[i]!.aF 1 (dI d b)) au au au au;obtain⟨g1,g2,g3⟩:=RX (d+1) l[i]!.aX (oU (d+1) l[i]!.aQ (BV l[i]!.aF 1 (dI d b))) au au au au;exact⟨hd2,XH _ 1 _ au au au au,(hM _ (bf hi) (d+1) _ au au au).1 au,(hM _ (bf hi) (d+1) _ au au au).2 au,au,au⟩
 obtain⟨i,v,e1,hI,hc⟩:=XF (rnd:=FP M) l (λi (b:bq)=>⟨d,l,(zY l:Int),(i:Int),b⟩) (λ_ (b:bq) (s:aB)=>if fL (dI d b)=J then(.inr (dI d b):bq ⊕ bq)else .inl (oU (d+1) s.aX (oU (d+1) s.aQ (BV s.aF 1 (dI d b))))) id id (λi x=>0<=x.bH/\x.bH<=b.bH+fK (l.take i)) (λi x hi hx=>by
   have hn:=Fj hi;have hw:=jR hi au;have hi1:(i:Int)<(zY l:Int):=au;have hi0:(0:Int)<=(i:Int):=au;have hmx:=hm x;cases ho:fL (dI d x)with
   |true=>
    refine⟨λb' hb'=>by simp at hb',λr hr=> ?_⟩;unfold FP;dsimp only;simp only[hi1];cases hb:x.fM with
    |true=>rw[hmx J au au (by rw[hb];rfl),ho];rfl
    |false=>rw[hmx (vn (12<d)) au au (by rw[hb];rfl),ho];rfl
   |false=>
    obtain⟨q0,q1,q2,q3,q4,q5⟩:=hs i x hi hx.1 au ho;refine⟨λb' hb'=> ?_,λr hr=>by simp at hr⟩;have hb':oU (d+1) l[i]!.aX (oU (d+1) l[i]!.aQ (BV l[i]!.aF 1 (dI d x)))=b':=by simpa using hb'
    subst hb';refine⟨?_,⟨q4,by rw[bE hi,OZ];omega⟩⟩;unfold FP;dsimp only;simp only[cG,hi1,hi0,cW];cases hb:x.fM with
    |true=>rw[hmx J au au (by rw[hb];rfl),ho];simp only[cD,az.eta,q1,q2,q3,hw1,hw]
    |false=>rw[hmx (vn (12<d)) au au (by rw[hb];rfl),ho];simp only[cD,az.eta,q1,q2,q3,hw1,hw]) (λx _=>by unfold FP;simp) (b:=b) ⟨h1,by simp[fK]⟩
 have e1':Ni M ⟨d,l,(zY l:Int),0,b⟩=V ⟨d,l,(zY l:Int),(i:Int),v⟩:=e1;rw[hgo]at hc;unfold aod;rw[e1'];dsimp only;rcases hc with ⟨rfl,hc⟩|⟨hi,r,hr,hc⟩
 ·rw[hc,fD];rfl
 ·have hn:=Fj hi;have hi1:(i:Int)<(zY l:Int):=au;have hi0:(0:Int)<=(i:Int):=au;have ho:fL (dI d v)=J:=by
   by_cases ho:fL (dI d v)=J
   ·exact ho
   ·rw[bL ho]at hr;cases hr
  rw[bB ho]at hr;cases hr;rw[hc];have hmx:=hm v;simp only[cG,hi1,hi0,cK,cW];cases hb:v.fM with
  |true=>rw[hmx J au au (by rw[hb];rfl),ho];rfl
  |false=>rw[hmx (vn (12<d)) au au (by rw[hb];rfl),ho];rfl
def KM:∀(n:Nat) (l:af aB) (d:Int) (b:bq),ze l<n->0<=d->d<=13->0<=b.bH->b.bH+fK l<=1000->Tc n l d b=V (oU d l b)
 |0,_,_,_,h,_,_,_,_=>au
 |n+1,l,d,b,h,h0,hd,h1,h2=>alI (Tc n) l (λs hs d b a1 a2 a3=>⟨λa4=>KM n _ d b (by have:=bw hs;omega) a1 a2 a3 a4,λa4=>KM n _ d b (by have:=bw hs;omega) a1 a2 a3 a4⟩) d b h0 hd h1 h2
def anZ(l:af aB)(d:Int)(b:bq)(h0:0<=d)(hd:d<=13)(h1:0<=b.bH)(h2:b.bH+fK l<=1000):afw l d b=V (oU d l b):=eG (ze l+1) λn hn=>KM n l d b au h0 hd h1 h2
def amu(f:aS)(h:fK f.bM+kS (f.ax.map (·.aF))<=900)(hl:zY f.ax<=1000000):∃r q,afw f.bM 1 ⟨0,O⟩=V r/\Gi ⟨f.ax,(zY f.ax:Int),0,f,r⟩=V ⟨f.ax,(zY f.ax:Int),(zY f.ax:Int),f,q⟩/\fL q= !(f.ax.all (λh=>vn (dT h.aF<=12))&&vn (jW f.bM<=12)&& !fH f.bM):=by
 obtain⟨p1,p2,p3⟩:=RX 1 f.bM ⟨0,O⟩ au au (zj 0) (by show (0:Int)+_<=_;omega);have p2:0<=(oU 1 f.bM ⟨0,O⟩).bH:=p2;have p3:(oU 1 f.bM ⟨0,O⟩).bH<=0+fK f.bM:=p3;refine⟨oU 1 f.bM ⟨0,O⟩,?_⟩;have p4:=anZ f.bM 1 ⟨0,O⟩ au au (zj 0) (by show (0:Int)+_<=_;omega);generalize oU 1 f.bM ⟨0,O⟩=r at*;obtain⟨q,e1,hI⟩:=cS (rnd:=IB) (zY f.ax) (λi (q:bq)=>⟨f.ax,(zY f.ax:Int),(i:Int),f,q⟩) (λi q=>q.fM=(r.fM||(f.ax.take i).any λh=>vn (12<dT h.aF))/\0<=q.bH/\q.bH<=r.bH+kS ((f.ax.take i).map (·.aF))) (λi q hi hI=>by
  have hn:=Ct hi;have hw:=jR hi hl;have hi1:(i:Int)<(zY f.ax:Int):=au;have hi0:(0:Int)<=(i:Int):=au;have hn2:kS ((f.ax.take (i+1)).map (·.aF))=kS ((f.ax.take i).map (·.aF))+nT f.ax[i]!.aF:=by
   rw[bE hi,zO,EM];rfl
  have ha:((f.ax.take (i+1)).any λh=>vn (12<dT h.aF))=(((f.ax.take i).any λh=>vn (12<dT h.aF))||vn (12<dT f.ax[i]!.aF)):=by
   rw[bE hi,List.any_append,List.any_cons,List.any_nil,Bool.or_false]
  rw[ha,hn2];obtain⟨q1,q2,q3⟩:=hI;cases ho:fL q with
  |true=>
   refine⟨q,?_,?_,q2,au⟩
   ·unfold IB CJ;dsimp only;simp only[cG,cD,hi1,hi0,cW,Ap,ho,hw]
   ·unfold fL at ho;rw[bW (show ¬1024<q.bH by omega),Bool.or_false]at ho;rw[<-Bool.or_assoc,<-q1,ho];rfl
  |false=>
   obtain⟨c1,c2,c3⟩:=KX f.ax[i]!.aF 1 q au q2 au;have k:=XH f.ax[i]!.aF 1 q au au q2 au;refine⟨BV f.ax[i]!.aF 1 q,?_,?_,au,au⟩
   ·unfold IB CJ;dsimp only;simp only[cG,cD,az.eta,hi1,hi0,cW,Ap,ho,hw,k]
   ·rw[c1,q1,Bool.or_assoc];rw[show vn (12<1-1+dT f.ax[i]!.aF)=vn (12<dT f.ax[i]!.aF)from decide_eq_decide.2 au]) (λq _=>by unfold IB CJ;simp) (b:=r) ⟨by simp,p2,by simp[kS]⟩
 have e1':Gi ⟨f.ax,(zY f.ax:Int),0,f,r⟩=V ⟨f.ax,(zY f.ax:Int),(zY f.ax:Int),f,q⟩:=e1;refine⟨q,p4,e1',?_⟩;rw[zy]at hI;obtain⟨q1,q2,q3⟩:=hI;unfold fL;rw[bW (show ¬1024<q.bH by omega),Bool.or_false,q1,p1];have e2:(f.ax.any λh=>vn (12<dT h.aF))= !(f.ax.all λh=>vn (dT h.aF<=12)):=by
  rw[List.not_all_eq_any_not]
  congr 1
  funext h
  by_cases hd:dT h.aF<=12
  ·simp[hd]
  ·simp[hd];omega
 have e3:vn (12<1-1+jW f.bM)= !vn (jW f.bM<=12):=by
  by_cases hd:jW f.bM<=12
  ·simp[hd]
  ·simp[hd];omega
 rw[e2,e3];generalize (f.ax.all λh=>vn (dT h.aF<=12))=x;generalize vn (jW f.bM<=12)=y;generalize fH f.bM=z;cases x<;>cases y<;>cases z<;>rfl
def Db:af aB->Prop
 |[]=>True
 |s::l=>(0<=s.bg/\s.bg<=67108864)/\(s.b9=4->0<=s.fN/\s.fN<=4096)/\(s.b9≠3->s.b9≠4->s.aQ=[])/\(s.b9≠3->s.aX=[])/\Db s.aQ/\Db s.aX/\Db l
termination_by l=>ze l
decreasing_by
 ·exact(bw (zk ..)).1
 ·exact(bw (zk ..)).2
 ·exact dY _ _
def aq5{s:aB}(h:u7 s=J):(0<=s.bg/\s.bg<=67108864)/\(s.b9=4->0<=s.fN/\s.fN<=4096):=by
 unfold u7 at h;grind
def Dp(f:aS):∀(n:Nat) (l:af aB) (top:Bool),ze l<n->b8 f top l=0->Db l
 |0,_,_,h,_=>au
 |n+1,[],top,h,hc=>by rw[Db];trivial
 |n+1,s::l,top,h,hc=>by
  rw[b8]at hc;have hz:=bw (l:=s::l) (zk ..);have hz2:=dY s l;by_cases h1:pz f (top&&l.isEmpty) s≠0
  ·omega
  rw[bL h1]at hc;by_cases h2:b8 f O s.aQ≠0
  ·omega
  rw[bL h2]at hc;by_cases h3:b8 f O s.aX≠0
  ·omega
  rw[bL h3]at hc;have q1:=Dp f n s.aQ O au au;have q2:=Dp f n s.aX O au au;have q3:=Dp f n l top au hc;unfold pz at h1;cases hS:dL f s (top&&l.isEmpty)with
  |false=>rw[hS]at h1;simp at h1
  |true=>
   rw[hS]at h1;cases hN:u7 s with
   |false=>rw[hN]at h1;simp at h1
   |true=>
    obtain⟨n1,n2⟩:=aq5 hN;obtain⟨b1,b2,b3,b4,b5⟩:=jB hS;rw[Db];simp_all
def IV(s:aB)(a b:Int×Int×Int):Int×Int×Int:=
 if s.b9=1 then(1,1,s.bg)
 else if s.b9=3 then(1+max a.1 b.1,max a.2.1 b.2.1,s.bg+max a.2.2 b.2.2)
 else if s.b9=4 then(1+s.fN*(1+a.1),s.fN*a.2.1,s.fN*(s.bg+a.2.2))
 else(1,0,s.bg)
def RK(a b:Int×Int×Int):Int×Int×Int:=(a.1+b.1,a.2.1+b.2.1,a.2.2+b.2.2)
def AE(s:aB)(l:af aB):eX (s::l)=RK (IV s (eX s.aQ) (eX s.aX)) (eX l):=by
 rw[eX];unfold IV RK;grind
def Qw(l:af aB)(s:aB):eX (l++[s])=RK (eX l) (IV s (eX s.aQ) (eX s.aX)):=by
 have h0:eX []=(0,0,0):=by rw[eX]
 induction l with
 |nil=>rw[yB,AE,h0];unfold RK;simp
 |cons a l ih=>
  rw[xz,AE,AE,ih];unfold RK;grind
def tZ(c:Int×Int×Int)(a:Int×Int×Int):Int×Int×Int:=(min a.1 c.1,min a.2.1 c.2.1,min a.2.2 c.2.2)
def aly{n x c k:Int}(hn:0<=n)(hk:0<=k)(hx:0<=x)(hc:0<=c):min (n*(k+min x c)) c=min (n*(k+x)) c:=by
 by_cases h:x<=c
 ·grind
 ·rw[Int.min_eq_right (show c<=x by omega)];by_cases h0:n=0
  ·simp_all
  ·have e1:1*(k+c)<=n*(k+c):=zN au au;have e2:1*(k+x)<=n*(k+x):=zN au au;omega
def pN:∀{l:af aB},Db l->∀s∈l,(0<=s.bg/\s.bg<=67108864)/\(s.b9=4->0<=s.fN/\s.fN<=4096)/\(s.b9≠3->s.b9≠4->s.aQ=[])/\(s.b9≠3->s.aX=[])/\Db s.aQ/\Db s.aX
 |[],_,s,hs=>by cases hs
 |a::l,h,s,hs=>by
  rw[Db]at h;rcases zx.1 hs with rfl|hs
  ·simp_all
  ·exact pN h.2.2.2.2.2.2 s hs
def nn3(a:Int×Int×Int):Prop:=0<=a.1/\0<=a.2.1/\0<=a.2.2
def auQ{s:aB}{a b:Int×Int×Int}(hc:0<=s.bg)(hN:s.b9=4->0<=s.fN)(ha:nn3 a)(hb:nn3 b):nn3 (IV s a b):=by
 unfold nn3 at*;unfold IV;split
 ·simp_all
 ·split
  ·grind
  ·split
   ·rename_i h4;have:=hN h4;have e1:0<=s.fN*(1+a.1):=zJ this au;have e2:0<=s.fN*a.2.1:=zJ this au;have e3:0<=s.fN*(s.bg+a.2.2):=zJ this au;dsimp only;omega
   ·simp_all
def Ln:∀(n:Nat) (l:af aB),ze l<n->Db l->nn3 (eX l)
 |0,_,h,_=>au
 |n+1,[],h,_=>by rw[show eX []=(0,0,0)by rw[eX]];exact⟨by decide,by decide,by decide⟩
 |n+1,s::l,h,ho=>by
  have hz:=bw (l:=s::l) (zk ..);have hz2:=dY s l;rw[Db]at ho;have q1:=Ln n s.aQ au ho.2.2.2.2.1;have q2:=Ln n s.aX au ho.2.2.2.2.2.1;have q3:=Ln n l au ho.2.2.2.2.2.2;have q4:=auQ ho.1.1 (λh=>(ho.2.1 h).1) q1 q2;rw[AE];unfold nn3 RK at*;grind
def tI{l:af aB}(h:Db l):nn3 (eX l):=Ln _ l (zC _) h
def HK:∀{l:af aB} (i:Nat),Db l->Db (l.take i)
 |[],i,h=>by rw[List.take_nil];exact h
 |s::l,0,h=>by rw[wh,Db];trivial
 |s::l,i+1,h=>by
  rw[Db]at h;rw[List.take_succ_cons,Db];exact⟨h.1,h.2.1,h.2.2.1,h.2.2.2.1,h.2.2.2.2.1,h.2.2.2.2.2.1,HK i h.2.2.2.2.2.2⟩
def M3(a:Int×Int×Int):qH:=⟨a.1,a.2.1,a.2.2⟩
def Sd:Int×Int×Int:=(1099511627776,1099511627776,1099511627776)
def LN:Int×Int×Int:=(4097,9,67108865)
def anW{n x:Int}(h1:0<=n)(h2:n<=4096)(h3:0<=x)(h4:x<=1200000000000):0<=n*x/\n*x<=4915200000000000:=by
 have e1:n*x<=4096*x:=zN h2 h3;have e2:0<=n*x:=zJ h1 h3;omega
def k8(w c:Int):(if c<w then c else w)=min w c:=au
def ar1(w c:Int):(if w<c then w else c)=min w c:=au
def SJ(a b c:Int):(if min a c<min b c then min b c else min a c)=min (max a b) c:=au
def ajS(a b c:Int):(if min b c<min a c then min a c else min b c)=min (max a b) c:=au
section
variable {C x y m k n a:Int} (h0:0<=C) (h1:C<=1099511627776) (hx:0<=x)
include h0 h1 hx
theorem R5(hy:0<=y)(hy2:y<=67108864):min (ak (min x C+y)) C=min (x+y) C:=by
 rw[aL];omega
theorem Zz(hm:0<=m)(hk:0<=k)(hk2:k<=67108864):min (ak (min x C+ak (k+min m C))) C=min (x+(k+m)) C:=by
 have:ak (k+min m C)=k+min m C:=aL;rw[this,aL];omega
theorem aol(hm:0<=m):min (ak (min x C+min m C)) C=min (x+m) C:=by
 rw[aL];omega
theorem arR{z:Int}(hz:0<=z)(hy:0<=y)(hy2:y<=4915200000000001)(h:min y C=min z C):min (ak (min x C+y)) C=min (x+z) C:=by
 rw[aL];omega
omit hx in
theorem aa9(hn:0<=n)(hn2:n<=4096)(ha:0<=a)(hk:0<=k)(hk2:k<=67108864):ak (n*ak (k+min a C))=n*(k+min a C)/\0<=n*(k+min a C)/\n*(k+min a C)<=4915200000000000/\0<=n*(k+a)/\min (n*(k+min a C)) C=min (n*(k+a)) C:=by
 have e1:ak (k+min a C)=k+min a C:=aL;have e2:=anW (x:=k+min a C) hn hn2 au au;rw[e1];exact⟨aL,e2.1,e2.2,zJ hn au,aly hn hk ha h0⟩
theorem aAp(hn:0<=n)(hn2:n<=4096)(ha:0<=a)(hk:0<=k)(hk2:k<=67108864):min (ak (min x C+ak (n*ak (k+min a C)))) C=min (x+n*(k+a)) C:=by
 obtain⟨q1,q2,q3,q4,q5⟩:=aa9 h0 h1 hn hn2 ha hk hk2;rw[q1];exact arR h0 h1 hx q4 q2 au q5
theorem aph(hn:0<=n)(hn2:n<=4096)(ha:0<=a):min (ak (min x C+ak (1+ak (n*ak (1+min a C))))) C=min (x+(1+n*(1+a))) C:=by
 obtain⟨q1,q2,q3,q4,q5⟩:=aa9 (k:=1) h0 h1 hn hn2 ha au au;rw[q1];generalize n*(1+min a C)=y at*;rw[show ak (1+y)=1+y from aL];exact arR h0 h1 hx au au au au
theorem aqt(hn:0<=n)(hn2:n<=4096)(ha:0<=a):min (ak (min x C+ak (n*min a C))) C=min (x+n*a) C:=by
 obtain⟨q1,q2,q3,q4,q5⟩:=aa9 (k:=0) h0 h1 hn hn2 ha au au;rw[Int.zero_add]at q2 q3 q4 q5;rw[Int.zero_add]at q5;rw[show ak (n*min a C)=n*min a C from aL];exact arR h0 h1 hx q4 q2 au q5
end
def aiV(M:af aB->aa tX)(l:af aB)(hl:zY l<=1000000)(ho:Db l)(hM:∀s∈l,M s.aQ=V (M3 (tZ Sd (eX s.aQ)))/\M s.aX=V (M3 (tZ Sd (eX s.aX)))):an0 M l=V (M3 (tZ Sd (eX l))):=by
 obtain⟨v,e1,hv⟩:=cS (rnd:=K4 M) (zY l) (λi (b:qH)=>⟨l,(zY l:Int),(i:Int),⟨0,0,0⟩,b⟩) (λi b=>b=M3 (tZ Sd (eX (l.take i)))) (λi bb hi hb=>by
  have hw:=jR hi hl;obtain⟨k1,k2⟩:=hM _ (bf hi);obtain⟨⟨c1,c2⟩,hN,_,_,o1,o2⟩:=pN ho _ (bf hi);obtain⟨x1,x2,x3⟩:=tI (HK i ho);obtain⟨a1,a2,a3⟩:=tI o1;obtain⟨b1,b2,b3⟩:=tI o2;refine⟨M3 (tZ Sd (eX (l.take (i+1)))),?_,rfl⟩;have hi1:(i:Int)<(zY l:Int):=au;have hi0:(0:Int)<=(i:Int):=au;rw[bE hi,Qw];generalize eX (l.take i)=x at*;generalize eX l[i]!.aQ=a at*;generalize eX l[i]!.aX=b at*;obtain⟨X1,X2,X3⟩:=x;obtain⟨A1,A2,A3⟩:=a;obtain⟨B1,B2,B3⟩:=b;have hb:bb=⟨min X1 1099511627776,min X2 1099511627776,min X3 1099511627776⟩:=hb;have k1:M l[i]!.aQ=V ⟨min A1 1099511627776,min A2 1099511627776,min A3 1099511627776⟩:=k1;have k2:M l[i]!.aX=V ⟨min B1 1099511627776,min B2 1099511627776,min B3 1099511627776⟩:=k2;subst hb;have z0:(0:Int)<=1099511627776:=by decide
  have z1:(1099511627776:Int)<=1099511627776:=by decide
  dsimp only at x1 x2 x3 a1 a2 a3 b1 b2 b3;unfold K4;simp only[zg,hi1,k1,k2,hw];by_cases h1:l[i]!.b9=1
  ·have e:IV l[i]! (A1,A2,A3) (B1,B2,B3)=(1,1,l[i]!.bg):=by unfold IV;rw[bB h1]
   rw[bX h1,cK,e,k8,k8,k8,R5 z0 z1 x1 au au,R5 z0 z1 x2 au au,R5 z0 z1 x3 c1 c2];rfl
  ·rw[bW h1,ct];by_cases h3:l[i]!.b9=3
   ·have e:IV l[i]! (A1,A2,A3) (B1,B2,B3)=(1+max A1 B1,max A2 B2,l[i]!.bg+max A3 B3):=by unfold IV;rw[bL h1,bB h3]
    rw[bX h3,cK,e,SJ,SJ,SJ,k8,k8,k8,Zz z0 z1 x1 au au au,aol z0 z1 x2 au,Zz z0 z1 x3 au c1 c2];rfl
   ·rw[bW h3,ct];by_cases h4:l[i]!.b9=4
    ·obtain⟨n1,n2⟩:=hN h4;have e:IV l[i]! (A1,A2,A3) (B1,B2,B3)=(1+l[i]!.fN*(1+A1),l[i]!.fN*A2,l[i]!.fN*(l[i]!.bg+A3)):=by unfold IV;rw[bL h1,bL h3,bB h4]
     rw[bX h4,cK,e,k8,k8,k8,aph z0 z1 x1 n1 n2 a1,aqt z0 z1 x2 n1 n2 a2,aAp z0 z1 x3 n1 n2 a3 c1 c2];rfl
    ·have e:IV l[i]! (A1,A2,A3) (B1,B2,B3)=(1,0,l[i]!.bg):=by unfold IV;rw[bL h1,bL h3,bL h4]
     rw[bW h4,ct,e,k8,k8,k8,R5 z0 z1 x1 au au,R5 z0 z1 x2 au au,R5 z0 z1 x3 c1 c2];rfl) (λb _=>by unfold K4;simp) (b:=⟨0,0,0⟩) (by rw[wh,show eX []=(0,0,0)by rw[eX]];rfl)
 have e1':K5 M ⟨l,(zY l:Int),0,⟨0,0,0⟩,⟨0,0,0⟩⟩=V ⟨l,(zY l:Int),(zY l:Int),⟨0,0,0⟩,v⟩:=e1;unfold an0;simp_all
def Lr:∀(n:Nat) (l:af aB),ze l<n->fK l<=1000->Db l->Sm n l=V (M3 (tZ Sd (eX l)))
 |0,_,h,_,_=>au
 |n+1,l,h,h2,ho=>aiV (Sm n) l (by have:=kr l;omega) ho (λs hs=>⟨Lr n _ (by have:=bw hs;omega) (by have:=gy hs;omega) (pN ho s hs).2.2.2.2.1,Lr n _ (by have:=bw hs;omega) (by have:=gy hs;omega) (pN ho s hs).2.2.2.2.2⟩)
def alz(l:af aB)(h:fK l<=1000)(ho:Db l):afj l=V (M3 (tZ Sd (eX l))):=eG (ze l+1) λn hn=>Lr n l au h ho
def auB(M:af aB->aa Qt)(l:af aB)(hl:zY l<=1000000)(ho:Db l)(hM:∀s∈l,M s.aQ=V (tZ LN (eX s.aQ))/\M s.aX=V (tZ LN (eX s.aX))):s90 M l=V (tZ LN (eX l)):=by
 obtain⟨v,e1,hv⟩:=cS (rnd:=WK M) (zY l) (λi (b:Int×Int×Int)=>⟨l,b.1,b.2.1,b.2.2,(i:Int)⟩) (λi b=>b=tZ LN (eX (l.take i))) (λi bb hi hb=>by
  have hw:=jR hi hl;obtain⟨k1,k2⟩:=hM _ (bf hi);obtain⟨⟨c1,c2⟩,hN,hT,hE,o1,o2⟩:=pN ho _ (bf hi);obtain⟨x1,x2,x3⟩:=tI (HK i ho);obtain⟨a1,a2,a3⟩:=tI o1;obtain⟨b1,b2,b3⟩:=tI o2;have zT:l[i]!.b9≠3->l[i]!.b9≠4->eX l[i]!.aQ=(0,0,0):=λh3 h4=>by rw[hT h3 h4,eX]
  have zE:l[i]!.b9≠3->eX l[i]!.aX=(0,0,0):=λh3=>by rw[hE h3,eX]
  refine⟨tZ LN (eX (l.take (i+1))),?_,rfl⟩;have hi1:(i:Int)<(zY l:Int):=au;have hi0:(0:Int)<=(i:Int):=au;rw[bE hi,Qw];generalize eX (l.take i)=x at*;generalize eX l[i]!.aQ=a at*;generalize eX l[i]!.aX=b at*;obtain⟨X1,X2,X3⟩:=x;obtain⟨A1,A2,A3⟩:=a;obtain⟨B1,B2,B3⟩:=b;have hb:bb=(min X1 4097,min X2 9,min X3 67108865):=hb;have k1:M l[i]!.aQ=V (min A1 4097,min A2 9,min A3 67108865):=k1;have k2:M l[i]!.aX=V (min B1 4097,min B2 9,min B3 67108865):=k2;subst hb;have z0:(0:Int)<=4097:=by decide
  have z1:(4097:Int)<=1099511627776:=by decide
  have y0:(0:Int)<=9:=by decide
  have y1:(9:Int)<=1099511627776:=by decide
  have u0:(0:Int)<=67108865:=by decide
  have u1:(67108865:Int)<=1099511627776:=by decide
  dsimp only at x1 x2 x3 a1 a2 a3 b1 b2 b3;unfold WK;simp only[cG,hi1,hi0,cK,cW,k1,k2,hw,tE,pF,ar1,ajS];by_cases h4:l[i]!.b9=4
  ·obtain⟨n1,n2⟩:=hN h4;have h1:¬l[i]!.b9=1:=au;have h3:¬l[i]!.b9=3:=au;have e:IV l[i]! (A1,A2,A3) (B1,B2,B3)=(1+l[i]!.fN*(1+A1),l[i]!.fN*A2,l[i]!.fN*(l[i]!.bg+A3)):=by unfold IV;rw[bL h1,bL h3,bB h4]
   rw[bX h4,bW h1,cK,ct,e,aph z0 z1 x1 n1 n2 a1,aqt y0 y1 x2 n1 n2 a2,aAp u0 u1 x3 n1 n2 a3 c1 c2];rfl
  ·rw[bW h4,ct];by_cases h1:l[i]!.b9=1
   ·have h3:¬l[i]!.b9=3:=au;have ea:=zT h3 h4;have eb:=zE h3;cases ea;cases eb;have e:IV l[i]! (0,0,0) (0,0,0)=(1,1,l[i]!.bg):=by unfold IV;rw[bB h1]
    rw[bX h1,cK,e,Zz z0 z1 x1 au au au,R5 y0 y1 x2 au au,Zz u0 u1 x3 au c1 c2];simp only[tZ,LN,RK,Int.max_self,Int.add_zero]
   ·rw[bW h1,ct,Zz z0 z1 x1 au au au,aol y0 y1 x2 au,Zz u0 u1 x3 au c1 c2];by_cases h3:l[i]!.b9=3
    ·have e:IV l[i]! (A1,A2,A3) (B1,B2,B3)=(1+max A1 B1,max A2 B2,l[i]!.bg+max A3 B3):=by unfold IV;rw[bL h1,bB h3]
     rw[e];rfl
    ·have ea:=zT h3 h4;have eb:=zE h3;cases ea;cases eb;have e:IV l[i]! (0,0,0) (0,0,0)=(1,0,l[i]!.bg):=by unfold IV;rw[bL h1,bL h3,bL h4]
     rw[e];simp only[tZ,LN,RK,Int.max_self,Int.add_zero]) (λb _=>by unfold WK;simp) (b:=(0,0,0)) (by rw[wh,show eX []=(0,0,0)by rw[eX]];rfl)
 have e1':Wj M ⟨l,0,0,0,0⟩=V ⟨l,v.1,v.2.1,v.2.2,(zY l:Int)⟩:=e1;unfold s90;rw[e1'];rw[hv];simp
def S6:∀(n:Nat) (l:af aB),ze l<n->fK l<=1000->Db l->m90 n l=V (tZ LN (eX l))
 |0,_,h,_,_=>au
 |n+1,l,h,h2,ho=>auB (m90 n) l (by have:=kr l;omega) ho (λs hs=>⟨S6 n _ (by have:=bw hs;omega) (by have:=gy hs;omega) (pN ho s hs).2.2.2.2.1,S6 n _ (by have:=bw hs;omega) (by have:=gy hs;omega) (pN ho s hs).2.2.2.2.2⟩)
def adL(l:af aB)(h:fK l<=1000)(ho:Db l):r90 l=V (tZ LN (eX l)):=eG (ze l+1) λn hn=>S6 n l au h ho
def W6(f:aS)(h:fK f.bM+kS (f.ax.map (·.aF))<=900)(hh:zY f.ax<=1000000)(hvl:zY f.ai<=1000000):aea f=V (qT f):=by
 obtain⟨r,q,e1,e2,e3⟩:=amu f h hh;unfold aea CJ qT;rw[e1];dsimp only;rw[e2];dsimp only;rw[bW (show ¬((zY f.ax:Int)<(zY f.ax:Int))by omega),ct,Ap,e3];unfold rA;generalize (f.ax.all λh=>vn (dT h.aF<=12))=x;generalize vn (jW f.bM<=12)=y;generalize fH f.bM=z;by_cases h1:64<(zY f.ai:Int)
 ·grind
 by_cases h2:8<(zY f.ax:Int)
 ·grind
 rw[bW h1,bW h2,bX (show zY f.ai<=64 by omega),bX (show zY f.ax<=8 by omega)];simp only[Bool.true_and];cases hx:(x&&y&& !z)with
 |false=>rfl
 |true=>
  rw[ajy f.ai hvl];dsimp only[Bool.not_true,ct];rw[bL (by decide)];by_cases hvc:jQ f.ai=0
  case neg=>simp[hvc]
  have hv:cZ f.ai:=by
   apply oo;unfold jQ at hvc;by_cases h0:cu (nC f.ai) f.ai 0=0
   ·exact h0
   ·rw[bB h0]at hvc;exact dS hvc h0
  rw[bX hvc,cK,ct,bL (by simpa using hvc),ajN f hv hh];dsimp only;by_cases hhc:cu (kU f) f.ax 0=0
  case neg=>simp[hhc]
  rw[bX hhc,cK,ct,bL (by simpa using hhc),amx f hv f.bM J au];dsimp only;by_cases hsc:b8 f J f.bM=0
  case neg=>simp[hsc]
  have ho:Db f.bM:=Dp f _ f.bM J (zC _) hsc;rw[bX hsc,cK,ct,bL (by simpa using hsc)];have e:=alz f.bM au ho;unfold YF;generalize eX f.bM=u at e ⊢;obtain⟨a,b,c⟩:=u;have e:afj f.bM=V ⟨min a 1099511627776,min b 1099511627776,min c 1099511627776⟩:=e;rw[e];by_cases a1:4096<a
  ·simp[a1,show 4096<min a 1099511627776 by omega]
  ·by_cases b1:8<b
   ·simp[b1,show 8<min b 1099511627776 by omega]
   ·by_cases d1:67108864<c
    ·simp[d1,show 67108864<min c 1099511627776 by omega]
    ·simp[a1,b1,d1,show ¬4096<min a 1099511627776 by omega,show ¬8<min b 1099511627776 by omega,show ¬67108864<min c 1099511627776 by omega]
def afv(f:aS)(h:fK f.bM+kS (f.ax.map (·.aF))<=900)(hh:zY f.ax<=1000000)(hvl:zY f.ai<=1000000):m78 f=V (qT f):=by
 unfold m78 DS qT;rw[aha f h hh];dsimp only;cases hx:rA f with
 |false=>rfl
 |true=>
  rw[alF f.ai hvl];dsimp only[cK,ct];rw[bL (by decide)];by_cases hvc:jQ f.ai=0
  case neg=>simp[hvc]
  have hv:cZ f.ai:=by
   apply oo;unfold jQ at hvc;omega
  obtain⟨i,e1,hc⟩:=acU f hv hh;rw[bX hvc,cK,ct,bL (by simpa using hvc),e1];dsimp only;rcases hc with ⟨rfl,hc⟩|⟨hi,h0,hc⟩
  ·rw[bL (show ¬(cu (kU f) f.ax 0≠0)by rw[hc];simp),bW (show ¬((zY f.ax:Int)<(zY f.ax:Int))by omega),ct,anz f hv f.bM J au];dsimp only;by_cases hsc:b8 f J f.bM=0
   case neg=>simp[hsc]
   have ho:Db f.bM:=Dp f _ f.bM J (zC _) hsc;rw[bX hsc,cK,ct,bL (show ¬(b8 f J f.bM≠0)by rw[hsc];simp)];have e:=adL f.bM au ho;unfold YF;generalize eX f.bM=u at e ⊢;obtain⟨a,b,c⟩:=u;have e:r90 f.bM=V (min a 4097,min b 9,min c 67108865):=e;rw[e];by_cases a1:4096<a
   ·simp[a1,show 4096<min a 4097 by omega]
   ·by_cases b1:8<b
    ·simp[b1,show 8<min b 9 by omega]
    ·by_cases d1:67108864<c
     ·simp[d1,show 67108864<min c 67108865 by omega]
     ·simp[a1,b1,d1,show ¬4096<min a 4097 by omega,show ¬8<min b 9 by omega,show ¬67108864<min c 67108865 by omega]
  ·obtain⟨j,h2,h3⟩:=Qg f hh i au f.ax[i]!;rw[bB (show cu (kU f) f.ax 0≠0 by rw[hc];exact h0),hc];have hi1:(i:Int)<(zY f.ax:Int):=au;have hi0:(0:Int)<=(i:Int):=au;revert h0;unfold kU;simp only[zg,az.eta,dN.eta,E5,EL,h2,EB f.ai hv,hi1];generalize kN f.ax[i]!.fName=B;generalize ((f.ax.take i).any λw=>w.fName.toList==f.ax[i]!.fName.toList)=A at h3;generalize jG f.ax[i]!.ah f.ax[i]!.ag=C;generalize fq f.ai J f.ax[i]!.aF=T;rcases h3 with ⟨rfl,rfl⟩|⟨hj,h4,rfl⟩
   ·cases B<;>cases C<;>by_cases hT:T=0<;>simp[hT]
   ·have hj1:(j:Int)<(i:Int):=au;have hj2:(j:Int)<(zY f.ax:Int):=au;have hj0:(0:Int)<=(j:Int):=au;simp only[cG,hj0,hj1,hj2,h4,cW,cK];cases B<;>simp
def kK{f:aS}(h:qT f=0):cZ f.ai:=by
 unfold qT at h;by_cases h1:rA f=O
 ·simp_all
 by_cases hvc:jQ f.ai=0
 ·apply oo;unfold jQ at hvc;omega
 ·omega
structure CS where
 (vals outs:List Int)
 time:Int
def iX{f:aS}{top:Bool}{x:aB}{l:af aB}(h:b8 f top (x::l)=0):pz f (top&&l.isEmpty) x=0/\b8 f O x.aQ=0/\b8 f O x.aX=0/\b8 f top l=0:=by
 rw[b8]at h;split at h
 ·exact dS h ‹_›
 rename_i h1;split at h
 ·exact dS h ‹_›
 rename_i h2;split at h
 ·exact dS h ‹_›
 rename_i h3;exact⟨by simpa using h1,by simpa using h2,by simpa using h3,h⟩
structure aog (f:aS) (last:Bool) (x:aB):Prop where
 do_:0<=x.b9/\x.b9<=6
 cost:0<=x.bg/\x.bg<=67108864
 n4:x.b9=4->0<=x.fN/\x.fN<=4096
 var:x.b9=0\/x.b9=5->0<=x.dJ/\x.dJ<zY f.ai
 n5:x.b9=5->0<=x.fN/\x.fN<zY f.ax
 aej:x.b9=6->last=J/\(1<=zY x.aR/\zY x.aR<=32)/\(0:Int)<=x.aR[0]!/\gE x.aR=J/\x.aR[zY x.aR-1]!<=67108864
 term:fq f.ai O x.aF=0
def tL{f:aS}{last:Bool}{x:aB}(h:pz f last x=0):aog f last x:=by
 unfold pz at h;by_cases h1:dL f x last=O
 ·rw[bB h1]at h;cases h
 rw[bL h1]at h;by_cases h2:u7 x=O
 ·rw[bB h2]at h;cases h
 rw[bL h2]at h;have h1:dL f x last=J:=by simpa using h1
 have h2:u7 x=J:=by simpa using h2
 unfold u7 at h2;simp only[zi,decide_eq_true_eq]at h2;obtain⟨⟨g1,g2⟩,g3⟩:=h2;unfold dL CB at h1;dsimp only at h1;have hd:0<=x.b9/\x.b9<=6:=by
  by_cases a0:x.b9=0
  ·omega
  by_cases a1:x.b9=1
  ·omega
  by_cases a2:x.b9=2
  ·omega
  by_cases a3:x.b9=3
  ·omega
  by_cases a4:x.b9=4
  ·omega
  by_cases a5:x.b9=5
  ·omega
  by_cases a6:x.b9=6
  ·omega
  ·simp[a0,a1,a2,a3,a4,a5,a6]at h1
 refine⟨hd,⟨g1.1,?_⟩,λq=> ?_,λq=> ?_,λq=> ?_,λq=> ?_,h⟩
 ·have:=g1.2;split at this<;>omega
 ·rw[bB q]at g2;simpa using g2
 ·rcases q with q|q
  ·simp[q]at h1;omega
  ·simp[q]at h1;omega
 ·simp[q]at h1;omega
 ·rw[bB q]at g3;simp only[gK,q,Int.reduceEq,zi,decide_eq_true_eq]at h1 g3;exact⟨h1.1.1.1.1.2,h1.2.1.1,h1.2.1.2,h1.2.2,g3⟩
def V0(x:aB)(l:af aB):eX (x::l)=
  (if x.b9=1 then(1+(eX l).1,1+(eX l).2.1,x.bg+(eX l).2.2)
   else if x.b9=3 then(1+max (eX x.aQ).1 (eX x.aX).1+(eX l).1,max (eX x.aQ).2.1 (eX x.aX).2.1+(eX l).2.1,x.bg+max (eX x.aQ).2.2 (eX x.aX).2.2+(eX l).2.2)
   else if x.b9=4 then(1+x.fN*(1+(eX x.aQ).1)+(eX l).1,x.fN*(eX x.aQ).2.1+(eX l).2.1,x.fN*(x.bg+(eX x.aQ).2.2)+(eX l).2.2)
   else(1+(eX l).1,(eX l).2.1,x.bg+(eX l).2.2)):=by rw[eX]
def iV(f:aS):∀(n:Nat) (l:af aB) (top:Bool),ze l<n->b8 f top l=0->0<=(eX l).2.1/\0<=(eX l).2.2
 |0,_,_,h,_=>au
 |n+1,[],_,_,_=>by rw[eX];exact⟨zj _,zj _⟩
 |n+1,x::l,top,h,hc=>by
  obtain⟨h1,h2,h3,h4⟩:=iX hc;have ho:=tL h1;have hs:=bw (zk (a:=x) (l:=l));have ht:=dY x l;have i1:=iV f n x.aQ O au h2;have i2:=iV f n x.aX O au h3;have i3:=iV f n l top au h4;have hcost:=ho.cost;rw[V0];by_cases a1:x.b9=1
  ·rw[bB a1];dsimp only;omega
  by_cases a3:x.b9=3
  ·rw[bL a1,bB a3];dsimp only;omega
  by_cases a4:x.b9=4
  ·rw[bL a1,bL a3,bB a4];have hn:=ho.n4 a4;have p1:=zJ hn.1 i1.1;have p2:=zJ hn.1 (show 0<=x.bg+(eX x.aQ).2.2 by omega);dsimp only;omega
  ·rw[bL a1,bL a3,bL a4];dsimp only;omega
structure Aft (vars:List bh) (s r:CS) (o t:Int):Prop where
 vals:VIn vars r.vals
 outs:(zY s.outs:Int)<=zY r.outs/\(zY r.outs:Int)<=zY s.outs+o
 time:s.time<=r.time/\r.time<=s.time+t
def uO(x:aB):Int×Int:=if x.b9=1 then(1,x.bg)else if x.b9=3 then(max (eX x.aQ).2.1 (eX x.aX).2.1,x.bg+max (eX x.aQ).2.2 (eX x.aX).2.2)
 else if x.b9=4 then(x.fN*(eX x.aQ).2.1,x.fN*(x.bg+(eX x.aQ).2.2))else(0,x.bg)
def ahg(x:aB)(l:af aB):(eX (x::l)).2.1=(uO x).1+(eX l).2.1/\(eX (x::l)).2.2=(uO x).2+(eX l).2.2:=by
 rw[V0];unfold uO;split
 ·exact⟨rfl,rfl⟩
 split
 ·exact⟨rfl,rfl⟩
 split
 ·exact⟨rfl,rfl⟩
 ·refine⟨?_,rfl⟩;dsimp only;omega
def Yb{l:af Int}(h:gE l=J):∀{i j:Nat},i<j->j<zY l->l[i]! <l[j]! :=by
 intro i j hij hj;induction j with
 |zero=>omega
 |succ j ih=>
  have h1:=(j6 l).1 h j hj;by_cases hi:i=j
  ·subst hi;exact h1
  ·have:=ih au au;omega
structure Bud (f:aS) (top:Bool) (l:List aB) (s:CS):Prop where
 hc:b8 f top l=0
 vals:VIn f.ai s.vals
 t0:0<=s.time
 t:s.time+(eX l).2.2<=134217728
 o:(zY s.outs:Int)+(eX l).2.1<=8
structure aKs (f:aS) (x:aB) (n:Nat) (s:CS):Prop where
 hc:b8 f O x.aQ=0
 term:fq f.ai O x.aF=0
 cost:0<=x.bg
 vals:VIn f.ai s.vals
 t0:0<=s.time
 t:s.time+n*(x.bg+(eX x.aQ).2.2)<=134217728
 o:(zY s.outs:Int)+n*(eX x.aQ).2.1<=8
def drop_cons{α:Type}[Inhabited α]{l:af α}{i:Nat}(h:i<zY l):l.drop i=l[i]! ::l.drop (i+1):=by rw[getElem!_pos l i h];exact yQ h
def Aj{x:aB}{l:af aB}(hx:x∈l):fK x.aQ<=fK l/\fK x.aX<=fK l:=by have:=Ew hx;have:=qj x;omega
def Ar{f:aS}{x:aB}:∀{top:Bool} {l:af aB},b8 f top l=0->x∈l->∃last,aog f last x
 |_,[],_,h=>by cases h
 |_,y::l,hc,h=>by
  obtain⟨h1,h2,h3,h4⟩:=iX hc;rcases zx.1 h with rfl|h
  ·exact⟨_,tL h1⟩
  ·exact Ar h4 h
def tab(n:Nat)(g:Nat->aK):af aK:=(zH n).map g
def gU(n:Nat)(g:Nat->aK):zY (tab n g)=n:=by simp[tab]
def o5{n:Nat}{g:Nat->aK}{i:Nat}(h:i<n):(tab n g)[i]! =g i:=by
 rw[getElem!_pos _ i (by rw[gU];exact h)];simp[tab]
def qQ(n:Nat)(g:Nat->aK):tab (n+1) g=tab n g++[g n]:=by simp[tab,wG]
def iC{n:Nat}{g g':Nat->aK}(h:∀i,i<n->g i=g' i):tab n g=tab n g':=
 zX λi hi=>h i (List.mem_range.1 hi)
def NT{n:Nat}{g:Nat->aK}{i:Nat}(x:aK):(tab n g).set i x=tab n (λj=>if j=i then x else g j):=by
 apply xw
 ·simp[tab]
 ·intro j h1 h2;simp only[tab,List.getElem_set,yM,wo];by_cases c:i=j
  ·subst c;simp
  ·rw[bL c,bL (λe=>c e.symm)]
def aeK(l:af aK):tab (zY l) (λi=>l[i]!)=l:=by
 apply xw
 ·simp[tab]
 ·intro j h1 h2;simp only[tab,yM,wo];exact getElem!_pos l j h2
def SQ{n:Nat}{g:Nat->aK}{l:af aK}(h1:zY l=n)(h2:∀i,i<n->g i=l[i]!):tab n g=l:=by
 subst h1;rw[iC h2,aeK]
def tr(s:ay):aJ:=⟨s.ai,s.aD,s.aG,s.aI⟩
structure eO (n m:Nat) (s:ay):Prop where
 len:zY s.ai=n
 vars:∀i,i<n->NN s.ai[i]!
 count:NN s.aD
 sl:zY s.aG<=m
 slots:∀i,i<zY s.aG->NN s.aG[i]!
 time:NN s.aI
def eO.weak{n m m':Nat}{s:ay}(h:eO n m s)(k:m<=m'):eO n m' s:=⟨h.len,h.vars,h.count,zG h.sl k,h.slots,h.time⟩
def gd(s:ay)(c:Int):ay:=⟨s.ai,s.aD,s.aG,qx 8 s.aI (eC c)⟩
def TJ(f:aS)(s:ay)(v:Int)(n:aK):ay:=⟨s.ai.set v.toNat (jb n f.ai[v.toNat]!.ah f.ai[v.toNat]!.ag),s.aD,s.aG,s.aI⟩
def aaz(s:ay)(v:aK):ay:=
 ⟨s.ai,qx 8 s.aD (eC 1),tab (zY s.aG) (λk=>if cR s.aD k=J then cF s.aG[k]! v else s.aG[k]!)++[v],s.aI⟩
def Q6(a b:af aK)(i:Nat):aK:=if zY a<=i then b[i]! else if zY b<=i then a[i]! else cF a[i]! b[i]!
def l8(a b:ay):ay:=
 ⟨tab (zY a.ai) (λi=>cF a.ai[i]! b.ai[i]!),cF a.aD b.aD,tab (max (zY a.aG) (zY b.aG)) (Q6 a.aG b.aG),cF a.aI b.aI⟩
def me{c:Int}(h:cC c):NN (eC c):=NN.one h.1 h.2
def nu{n m:Nat}{s:ay}(h:eO n m s){c:Int}(hc:cC c):eO n m (gd s c):=
 ⟨h.len,h.vars,h.count,h.sl,h.slots,let ⟨_,_,_,k⟩:=pL 8 h.time (me hc);k⟩
def Xn{f:aS}{n m:Nat}{s:ay}(h:eO n m s){v:Int}{x:aK}(hx:NN x):eO n m (TJ f s v x):=by
 refine⟨?_,λi hi=> ?_,h.count,h.sl,h.slots,h.time⟩
 ·show zY (s.ai.set _ _)=n;rw[zI];exact h.len
 ·show NN (s.ai.set _ _)[i]!;have hl:=h.len;rw[getElem!_pos _ i (by rw[zI];omega),List.getElem_set];split
  ·exact let ⟨_,_,_,k,_⟩:=iz hx f.ai[v.toNat]!.ah f.ai[v.toNat]!.ag;k
  ·have:=h.vars i hi;rw[getElem!_pos _ i au]at this;exact this
def akz{n m:Nat}{s:ay}(h:eO n m s){x:aK}(hx:NN x):eO n (m+1) (aaz s x):=by
 have hs:=h.sl;have hl:zY (aaz s x).aG=zY s.aG+1:=by simp[aaz,gU]
 refine⟨h.len,h.vars,let ⟨_,_,_,k⟩:=pL 8 h.count (me (c:=1) ⟨by decide,by decide⟩);k,au,λi hi=> ?_,h.time⟩;rw[hl]at hi;have hlt:=gU (zY s.aG) (λk=>if cR s.aD k=J then cF s.aG[k]! x else s.aG[k]!);show NN (tab (zY s.aG) (λk=>if cR s.aD k=J then cF s.aG[k]! x else s.aG[k]!)++[x])[i]!;by_cases c:i<zY s.aG
 ·have hg:=o5 (g:=(λk=>if cR s.aD k=J then cF s.aG[k]! x else s.aG[k]!)) c;generalize tab (zY s.aG) (λk=>if cR s.aD k=J then cF s.aG[k]! x else s.aG[k]!)=T at*;rw[getElem!_pos _ i (by rw[zh];omega),wB au,<-getElem!_pos T i au,hg];split
  ·exact jS (h.slots i c) hx
  ·exact h.slots i c
 ·generalize tab (zY s.aG) (λk=>if cR s.aD k=J then cF s.aG[k]! x else s.aG[k]!)=T at*;rw[getElem!_pos _ i (by rw[zh,ym];omega),wC au];simpa using hx
def arU{a b:af aK}(ha:∀i,i<zY a->NN a[i]!)(hb:∀i,i<zY b->NN b[i]!){i:Nat}(hi:i<max (zY a) (zY b)):NN (Q6 a b i):=by
 unfold Q6;split
 ·exact hb i au
 split
 ·exact ha i au
 ·exact jS (ha i au) (hb i au)
def Gy{n m:Nat}{s t:ay}(h:eO n m s)(k:eO n m t):eO n m (l8 s t):=by
 have h1:=h.len;have h2:=h.sl;have k2:=k.sl;refine⟨by show zY (tab _ _)=n;rw[gU];exact h1,λi hi=> ?_,jS h.count k.count,by show zY (tab _ _)<=m;rw[gU];omega,λi hi=> ?_,jS h.time k.time⟩
 ·show NN (tab _ _)[i]!;rw[o5 au];exact jS (h.vars i hi) (k.vars i hi)
 ·have hi:i<zY (tab (max (zY s.aG) (zY t.aG)) (Q6 s.aG t.aG)):=hi;rw[gU]at hi;show NN (tab _ _)[i]!;rw[o5 hi];exact arU h.slots k.slots hi
def Ac(i:aK)(ks:af aK):Nat->aK
 |0=>cM
 |n+1=>if cR i n=J then cF (Ac i ks n) ks[n]! else Ac i ks n
def Wx(vars:af aK)(t:az)(k:af aK):aK:=
 if t.bF=0 then eC t.fN else if t.bF=24 then vars[t.fN.toNat]! else if t.bF=6 then(rH 6 k[0]!).1 else if t.bF=7 then(rH 7 k[0]!).1
 else if t.bF=23 then(if cR k[0]! 0=O then k[1]! else if cA k[0]! =O then k[2]! else cF k[1]! k[2]!)
 else if t.bF=25 then Ac (jb k[0]! 0 ((zY k:Int)-2)) (k.drop 1) (k.drop 1).length else qx t.bF k[0]! k[1]!
def cI(vars:af aK)(t:az):aK:=Wx vars t (t.aq.attach.map λk=>cI vars k.1)
termination_by ze t
decreasing_by exact az.eT k.2
def Yw(vars:af aK)(t:az):cI vars t=Wx vars t (t.aq.map (cI vars)):=by
 rw[cI];simp
def mapA{vars:af aK}{t:az}{i:Nat}(h:i<zY t.aq):(t.aq.map (cI vars))[i]! =cI vars t.aq[i]! :=by
 rw[getElem!_pos _ i (by simpa using h),getElem!_pos _ i h,yM]
def EW{i:aK}{ks:af aK}(hk:∀j,j<zY ks->NN ks[j]!):∀n,n<=zY ks->NV (Ac i ks n)/\((∃j,j<n/\cR i (j:Nat)=J)->NN (Ac i ks n))
 |0,_=>⟨.inl rfl,λ⟨j,h,_⟩=>au⟩
 |n+1,hn=>by
  obtain⟨h1,h2⟩:=EW (i:=i) hk n au;rw[Ac];by_cases c:cR i (n:Nat)=J
  ·rw[bB c];have hv:=eW h1 (.inr (hk n au));have:NN (cF (Ac i ks n) ks[n]!):=by
    rcases h1 with e|h
    ·rw[e,Ik];exact hk n au
    ·exact jS h (hk n au)
   exact⟨hv,λ_=>this⟩
  ·rw[bL c];refine⟨h1,λ⟨j,h,k⟩=>h2 ⟨j,?_,k⟩⟩;by_cases e:j=n
   ·simp_all
   ·omega
def aai{a:aK}(ha:NN a){n:Nat}(h0:1<=n)(hn:n<=1000000):∃j:Nat,j<n/\cR (jb a 0 ((n:Int)-1)) (j:Nat)=J:=by
 obtain⟨_,_,_,hv,hr⟩:=iz ha 0 ((n:Int)-1);have hr:=hr ⟨by decide,by decide⟩ ⟨au,au⟩ au;rcases hr with ⟨e,_⟩|hr
 ·exact dS e hv.ne
 ·obtain⟨x,_,h2⟩:=hr.lo;refine⟨(jb a 0 ((n:Int)-1)).ah.toNat,au,?_⟩;rw[show (((jb a 0 ((n:Int)-1)).ah.toNat:Nat):Int)=(jb a 0 ((n:Int)-1)).ah by omega];exact nX ⟨zj _,hv.le,by rw[Int.sub_self];exact xM _⟩
def sY(x:Int):m80 x=eC x:=rfl
def Ff(x:Int):m36 x=eC x:=rfl
def F6{vars:af bh}{t:az}(h:(iP vars t).isSome=J):∀k∈t.aq,(iP vars k).isSome=J:=λk hk=>by
 rw[BB]at h;cases ha:mO (t.aq.map (iP vars))with
 |none=>rw[ha]at h;cases h
 |some r=>
  have hr:=tF ha;have hm:iP vars k∈r.map V:=by rw[<-hr];exact List.mem_map_of_mem hk
  obtain⟨s,h1,h2⟩:=zM.1 hm;rw[<-h2];rfl
def alO{vars:af bh}{t:az}(h0:t.bF=0)(h:(iP vars t).isSome=J):cC t.fN:=by
 rw[BB]at h;cases ha:mO (t.aq.map (iP vars))with
 |none=>rw[ha]at h;cases h
 |some r=>
  rw[ha]at h;dsimp only at h;split at h
  ·rename_i hl;unfold Cw jE at hl;simp only[h0,cW,decide_eq_true_eq]at hl;unfold cC;omega
  ·cases h
def abr(M:az->ay->aa sq){vars:af aK}{st:ay}{ks:af az}(hl:zY ks<=1000000)(hK:∀j,j<zY ks->M ks[j]! st=V (cI vars ks[j]!,st)/\NN (cI vars ks[j]!)){H:aK}(hH:NN H)(z:aK):
  Mp M ⟨ks,(zY ks:Int),0,st,z,H,cM⟩=V ⟨ks,(zY ks:Int),(zY ks:Int),st,z,H,Ac H (ks.map (cI vars)) (zY ks)⟩:=by
 have hmap:∀j,j<zY ks->(ks.map (cI vars))[j]! =cI vars ks[j]! :=λj h=>by rw[getElem!_pos _ j (by simpa using h),getElem!_pos _ j h,yM]
 have hkn:∀j,j<zY (ks.map (cI vars))->NN (ks.map (cI vars))[j]! :=λj h=>by
  have h:j<zY ks:=by simpa using h
  rw[hmap j h];exact(hK j h).2
 obtain⟨v,e1,hv⟩:=cS (rnd:=LW M) (zY ks) (λi (_:Unit)=>⟨ks,(zY ks:Int),(i:Int),st,z,H,Ac H (ks.map (cI vars)) i⟩) (λi _=>True) (λi b hi _=>by
  have hw:=jR hi hl;obtain⟨k1,k2⟩:=hK i hi;have i1:(i:Int)<(zY ks:Int):=au;have i2:(0:Int)<=(i:Int):=au;refine⟨(),?_,trivial⟩;unfold LW;by_cases hc:cR H (i:Nat)=J
  ·simp only[cG,i1,i2,cK,cW,qM (.inr hH),hc,az.eta,k1,pq (EW hkn i (by simp;omega)).1 (.inr k2),hw,Ac,hmap i hi]
  ·have hc:cR H (i:Nat)=O:=by simpa using hc
   simp only[cG,cD,gK,i1,i2,qM (.inr hH),hc,hw,Ac,yy]) (λb _=>by unfold LW;simp) (b:=()) trivial
 exact e1
def avg(M:az->ay->aa sq){vars:af bh}{inp:Bool}{m:Nat}{st:ay}(hst:eO (zY vars) m st)(t:az)(hf:dH vars inp t=J)(hs:(iP vars t).isSome=J)
  (hM:∀k∈t.aq,M k st=V (cI st.ai k,st)/\NN (cI st.ai k)):agO M t st=V (cI st.ai t,st)/\NN (cI st.ai t):=by
 obtain⟨⟨g1,g2,g3⟩,h24⟩:=Y2 hf;have K:∀i,i<zY t.aq->M t.aq[i]! st=V (cI st.ai t.aq[i]!,st)/\NN (cI st.ai t.aq[i]!):=λi hi=>hM _ (bf hi);rw[Yw];unfold agO Wx;simp only[az.eta,zB];rcases QH t.bF g1 with ⟨h,e⟩|⟨h,e⟩|⟨h,e⟩|⟨h,e⟩|⟨h,e⟩<;>rw[e]at g2 g3<;>dsimp only at g2 g3
 ·rcases h with h|h
  ·simp only[h,DB,cK,cW,sY];exact⟨trivial,me (alO h hs)⟩
  ·obtain⟨q1,q2⟩:=h24 h;have hl:=hst.len;simp only[h];rw[gM];exact⟨rfl,hst.vars _ au⟩
 ·obtain⟨k1,k2⟩:=K 0 au;have m0:=mapA (vars:=st.ai) (show 0<zY t.aq by omega);have i1:(zY t.aq:Int)=1:=au;rcases h with h|h
  ·simp only[cG,cD,gK,h,Int.reduceEq,i1,k1,m0,Yk (.inr k2),Int.reduceLT,Int.reduceLE,true_and];exact Kr _ k2
  ·simp only[cG,cD,gK,h,Int.reduceEq,i1,k1,m0,Yk (.inr k2),Int.reduceLT,Int.reduceLE,true_and];exact Kr _ k2
 ·obtain⟨k1,k2⟩:=K 0 au;obtain⟨l1,l2⟩:=K 1 au;have m0:=mapA (vars:=st.ai) (show 0<zY t.aq by omega);have m1:=mapA (vars:=st.ai) (show 1<zY t.aq by omega);have hlen:(zY t.aq:Int)=2:=au;obtain⟨c,hb,_,hn⟩:=pL t.bF k2 l2;have n0:t.bF≠0:=au;have n1:t.bF≠24:=au;have n2:t.bF≠6:=au;have n3:t.bF≠7:=au;have n4:t.bF≠23:=au;have n5:t.bF≠25:=au;simp only[cG,gK,n0,n1,n2,n3,n4,n5,ct,hlen,k1,l1,hb,m0,m1,Int.reduceEq,Int.reduceLT,Int.reduceLE,true_and];exact hn
 ·obtain⟨k1,k2⟩:=K 0 au;obtain⟨l1,l2⟩:=K 1 au;obtain⟨p1,p2⟩:=K 2 au;have m0:=mapA (vars:=st.ai) (show 0<zY t.aq by omega);have m1:=mapA (vars:=st.ai) (show 1<zY t.aq by omega);have m2:=mapA (vars:=st.ai) (show 2<zY t.aq by omega);have hlen:(zY t.aq:Int)=3:=au;simp only[cG,cD,gK,h,Int.reduceEq,hlen,k1,l1,p1,m0,m1,m2,E9 (.inr k2),pq (.inr l2) (.inr p2),Int.reduceLT,Int.reduceLE];cases cR (cI st.ai t.aq[0]!) 0<;>cases cA (cI st.ai t.aq[0]!)
  ·exact⟨rfl,l2⟩
  ·exact⟨rfl,l2⟩
  ·exact⟨rfl,p2⟩
  ·exact⟨rfl,jS l2 p2⟩
 ·obtain⟨k1,k2⟩:=K 0 au;have m0:=mapA (vars:=st.ai) (show 0<zY t.aq by omega);have w:ak ((zY t.aq:Int)-(2:Int))=(zY t.aq:Int)-(2:Int):=aL;obtain⟨c,hcl,_,hcn,_⟩:=iz k2 0 ((zY t.aq:Int)-(2:Int));obtain⟨j,hj1,hj2⟩:=aai k2 (n:=zY t.aq-1) au au;rw[show (((zY t.aq-1:Nat):Int)-1)=(zY t.aq:Int)-(2:Int)by omega]at hj2;simp only[cG,cD,gK,h,Int.reduceEq,k1,m0,w];rw[gM,hcl];generalize jb (cI st.ai t.aq[0]!) 0 ((zY t.aq:Int)-(2:Int))=H at*;have hd:zY (t.aq.drop 1)=zY t.aq-1:=zV ..;have e2:=abr M (vars:=st.ai) (st:=st) (ks:=t.aq.drop 1) au (λj hj=>hM _ (xD (bf hj))) (H:=H) hcn ⟨0,0,0⟩;dsimp only;rw[gM];rw[show ak3=cM from rfl,e2];dsimp only;rw[fD,ct,<-xB,zB];refine⟨rfl,(EW (λj hj=> ?_) _ (by simp)).2 ⟨j,au,hj2⟩⟩;rw[getElem!_pos _ j (by simpa using hj),yM];exact(hM _ (xD (xP ..))).2
def MT{vars:af bh}{inp:Bool}{m:Nat}{st:ay}(hst:eO (zY vars) m st):∀(n:Nat) (t:az),ze t<n->dH vars inp t=J->(iP vars t).isSome=J->T6 n t st=V (cI st.ai t,st)/\NN (cI st.ai t)
 |0,_,h,_,_=>au
 |n+1,t,h,hf,hs=>avg (T6 n) hst t hf hs (λk hk=>MT hst n k (by have:=az.eT hk;omega) (rq hf hk) (F6 hs k hk))
def tN{vars:af bh}{inp:Bool}{t:az}(hc:fq vars inp t=0):dH vars inp t=J/\(iP vars t).isSome=J:=by
 unfold fq at hc;grind
def ahE(M:aJ->az->aa Ph){vars:af aK}{st:aJ}{t:az}(hl:zY t.aq<=1000000)(h1:1<=zY t.aq)(hK:∀j,j<zY t.aq->M st t.aq[j]! =V (cI vars t.aq[j]!)/\NN (cI vars t.aq[j]!)){H:aK}(hH:NN H)(z:aK):
  PG M ⟨(zY t.aq:Int)-1,0,st,t,z,H,cM⟩=V ⟨(zY t.aq:Int)-1,(zY t.aq:Int)-1,st,t,z,H,Ac H ((t.aq.drop 1).map (cI vars)) (t.aq.drop 1).length⟩:=by
 have hd:zY (t.aq.drop 1)=zY t.aq-1:=zV ..;have hmap:∀j,j<zY t.aq-1->((t.aq.drop 1).map (cI vars))[j]! =cI vars t.aq[1+j]! :=λj h=>by
  rw[getElem!_pos _ j (by simp;omega),getElem!_pos _ (1+j) au,yM,xS]
 have hkn:∀j,j<zY ((t.aq.drop 1).map (cI vars))->NN ((t.aq.drop 1).map (cI vars))[j]! :=λj h=>by
  have h:j<zY t.aq-1:=by simpa using h
  rw[hmap j h];exact(hK (1+j) au).2
 obtain⟨v,e1,hv⟩:=cS (rnd:=Ya M) (zY t.aq-1) (λi (_:Unit)=>⟨(zY t.aq:Int)-1,(i:Int),st,t,z,H,Ac H ((t.aq.drop 1).map (cI vars)) i⟩) (λi _=>True) (λi b hi _=>by
  have hw:=jR hi (show zY t.aq-1<=1000000 by omega);obtain⟨k1,k2⟩:=hK (1+i) au;have i1:(i:Int)<(zY t.aq:Int)-1:=au;have i2:ak ((1:Int)+(i:Int))=((1+i:Nat):Int):=by rw[aL];omega
  have i3:(0:Int)<=((1+i:Nat):Int)/\((1+i:Nat):Int)<(zY t.aq:Int):=au;refine⟨(),?_,trivial⟩;unfold Ya;by_cases hc:cR H (i:Nat)=J
  ·simp only[cG,i1,cK,jV (.inr hH),hc,i2,i3.1,i3.2,cW,az.eta,k1,gA (EW hkn i (by simp;omega)).1 (.inr k2),hw,Ac,hmap i hi]
  ·have hc:cR H (i:Nat)=O:=by simpa using hc
   simp only[cD,i1,DB,jV (.inr hH),hc,hw,Ac,yy,IY,az.eta]) (λb _=>by
    unfold Ya;rw[bW (by dsimp only;omega)];rfl) (b:=()) trivial
 have e1:PG M ⟨(zY t.aq:Int)-1,((0:Nat):Int),st,t,z,H,cM⟩=_:=e1;rw[hd];rw[show ((0:Nat):Int)=0 from rfl]at e1;rw[e1,show ((zY t.aq-1:Nat):Int)=(zY t.aq:Int)-1 by omega]
def az1(M:aJ->az->aa Ph){vars:af bh}{inp:Bool}{m:Nat}{st:ay}(hst:eO (zY vars) m st)(t:az)(hf:dH vars inp t=J)
  (hM:∀k∈t.aq,M (tr st) k=V (cI st.ai k)/\NN (cI st.ai k)):s87 M (tr st) t=V (cI st.ai t):=by
 obtain⟨⟨g1,g2,g3⟩,h24⟩:=Y2 hf;have K:∀i,i<zY t.aq->M (tr st) t.aq[i]! =V (cI st.ai t.aq[i]!)/\NN (cI st.ai t.aq[i]!):=λi hi=>hM _ (bf hi);rw[Yw];unfold s87 Wx;simp only[az.eta,zB];rcases QH t.bF g1 with ⟨h,e⟩|⟨h,e⟩|⟨h,e⟩|⟨h,e⟩|⟨h,e⟩<;>rw[e]at g2 g3<;>dsimp only at g2 g3
 ·rcases h with h|h
  ·simp only[h,DB,cK,cW,Ff]
  ·obtain⟨q1,q2⟩:=h24 h;have hl:=hst.len;simp only[h];rw[bB (show (0:Int)<=t.fN/\t.fN<(zY (tr st).ai:Int)from⟨q1,by show t.fN<(zY st.ai:Int);omega⟩)];rfl
 ·obtain⟨k1,k2⟩:=K 0 au;have m0:=mapA (vars:=st.ai) (show 0<zY t.aq by omega);have i1:(zY t.aq:Int)=1:=au;rcases h with h|h
  ·simp only[cG,cD,gK,h,Int.reduceEq,i1,k1,m0,WQ (.inr k2),Int.reduceLT,Int.reduceLE]
  ·simp only[cG,cD,gK,h,Int.reduceEq,i1,k1,m0,WQ (.inr k2),Int.reduceLT,Int.reduceLE]
 ·obtain⟨k1,k2⟩:=K 0 au;obtain⟨l1,l2⟩:=K 1 au;have m0:=mapA (vars:=st.ai) (show 0<zY t.aq by omega);have m1:=mapA (vars:=st.ai) (show 1<zY t.aq by omega);have hlen:(zY t.aq:Int)=2:=au;obtain⟨c,_,hb,hn⟩:=pL t.bF k2 l2;have n0:t.bF≠0:=au;have n1:t.bF≠24:=au;have n2:t.bF≠6:=au;have n3:t.bF≠7:=au;have n4:t.bF≠23:=au;have n5:t.bF≠25:=au;simp only[cG,gK,n0,n1,n2,n3,n4,n5,ct,hlen,k1,l1,hb,m0,m1,Int.reduceEq,Int.reduceLT,Int.reduceLE]
 ·obtain⟨k1,k2⟩:=K 0 au;obtain⟨l1,l2⟩:=K 1 au;obtain⟨p1,p2⟩:=K 2 au;have m0:=mapA (vars:=st.ai) (show 0<zY t.aq by omega);have m1:=mapA (vars:=st.ai) (show 1<zY t.aq by omega);have m2:=mapA (vars:=st.ai) (show 2<zY t.aq by omega);have hlen:(zY t.aq:Int)=3:=au;simp only[cG,cD,gK,h,Int.reduceEq,hlen,k1,l1,p1,m0,m1,m2,pn (.inr k2),gA (.inr l2) (.inr p2),Int.reduceLT,Int.reduceLE];cases cR (cI st.ai t.aq[0]!) 0<;>cases cA (cI st.ai t.aq[0]!)<;>rfl
 ·obtain⟨k1,k2⟩:=K 0 au;have m0:=mapA (vars:=st.ai) (show 0<zY t.aq by omega);have w:ak ((zY t.aq:Int)-(2:Int))=(zY t.aq:Int)-(2:Int):=aL;have w1:ak ((zY t.aq:Int)-(1:Int))=(zY t.aq:Int)-(1:Int):=aL;obtain⟨c,_,hcl,hcn,_⟩:=iz k2 0 ((zY t.aq:Int)-(2:Int));simp only[cG,cD,gK,h,Int.reduceEq,k1,m0,w,w1];rw[gM,hcl];generalize jb (cI st.ai t.aq[0]!) 0 ((zY t.aq:Int)-(2:Int))=H at*;have e2:=ahE M (vars:=st.ai) (st:=tr st) (t:=t) au au K (H:=H) hcn ⟨0,0,0⟩;dsimp only;rw[show sN=cM from rfl,e2];simp
def apF{vars:af bh}{inp:Bool}{m:Nat}{st:ay}(hst:eO (zY vars) m st):∀(n:Nat) (t:az),ze t<n->dH vars inp t=J->(iP vars t).isSome=J->m87 n (tr st) t=V (cI st.ai t)
 |0,_,h,_,_=>au
 |n+1,t,h,hf,hs=>az1 (m87 n) hst t hf (λk hk=>⟨apF hst n k (by have:=az.eT hk;omega) (rq hf hk) (F6 hs k hk),(MT hst (ze k+1) k au (rq hf hk) (F6 hs k hk)).2⟩)
def Wo{vars:af bh}{inp:Bool}{m:Nat}{st:ay}(hst:eO (zY vars) m st)(t:az)(hc:fq vars inp t=0):Ue (tr st) t=V (cI st.ai t):=
 eG (ze t+1) λn hn=>apF hst n t au (tN hc).1 (tN hc).2
def iT{vars:af bh}{inp:Bool}{m:Nat}{st:ay}(hst:eO (zY vars) m st)(t:az)(hc:fq vars inp t=0):NN (cI st.ai t):=
 (MT hst (ze t+1) t au (tN hc).1 (tN hc).2).2
abbrev E82:=aK
def d82:Td 0 E82:= .c [] [4] (.r 0 1 (ec 4 (qp 0 0) en) (sb 0 34 (lg 34) sn) (λz=>z.2.1) (λx=>(((),()),(x,()))))
def Wp(a0:ay)(a1:az):aa E82:=
 match alo (az.mk a1.bF a1.fN a1.aq) a0 with|G=>G|V r1=>V (r1.fst)
def e82:=eL vp 82 O (lc (qg 128) (lc (qg 137) ln)) d82 (λg=>Wp g.1 g.2.1)
def KS:EO e82:=λh=>kL (an:= .no) func82 (ang aV) aH h
abbrev E40:=af aK
def d40:Td 0 E40:= .c [] [2] (.t (b6.s 2 [] 34) (.c [] [2] (.r 0 1 (ec 2 (qo 0) en) (sr 0 34 sn) (λz=>z.2.1) (λx=>(((),()),(x,()))))))
def A40:=(lc (ql 34) ln)
def XD(a0:af aK):aa E40:=if zY a0<=1073741824 then V a0 else G
def awa:gu vp dA 0 300 40 .no:=cH (l:=[]) func40 (bT aY) aY aH
def aE1(x:aK)(xs:af aK):bZ vp dA 300 .no 40 [.sl 34 (x::xs)] [] 0 d40.rd=if([]++(x::xs)).length<=1073741824 then V ([]++(x::xs))else G:=aY
def aHf(c:Nat):bZ vp dA 300 .no 40 [.lit (.slice G 0 c)] [] 0 d40.rd=V []:=aY
def aIa(a:Addr)(c:Nat):bZ vp dA 300 .no 40 [.lit (.slice (V a) 0 c)] [] 0 d40.rd=V []:=aY
def h40:HL vp 40 A40 d40 (λg=>XD g.1):=λg r h=>by
 obtain⟨a0,_⟩:=g;have h:XD a0=V r:=h;cases a0 with
 |cons x xs=>exact(nP (out:=λp=>fZ vp 40 0 (d40.pat p)) (p:=r) aV awa d40.ok (λp=>aY) (jY aY) (ki aY) ((aE1 x xs).trans (by rw[yB];exact h))).2
 |nil=>
  cases h;exact XM (λc=>(nP (out:=λp=>fZ vp 40 0 (d40.pat p)) (p:=[]) aV awa d40.ok (λp=>aY) (jY aY) (ki aY) (aHf c)).2) (λa c=>(nP (out:=λp=>fZ vp 40 0 (d40.pat p)) (p:=[]) aV awa d40.ok (λp=>aY) (jY aY) (ki aY) (aIa a c)).2)
def e40:=eL vp 40 O A40 d40 (λg=>XD g.1)
def uW{F:bu}(h:bD vp F):bD vp (e40 F):=gm (sc:=Bf) eo h40 ⟨_,func40,aY,aY⟩ (λ_=>aY) (λ_=>aY) h
abbrev ax1:=ay
def d235:Td 0 ax1:= .c [] [2] (.r 0 3 (ec 2 (qp 0 0) en) (sb 0 128 (lc (qo 1) (aU (aU (aU (lc (qo 2) (aU (aU (aU ln)))))))) (sr 1 34 (sr 2 34 sn))) (λz=>(ay.mk z.t.1 (aK.mk z.2.1.2.1 z.2.1.t.1 z.2.1.t.2.1) z.t.2.1 (aK.mk z.2.1.q.2.1 z.2.1.q.t.1 z.2.1.q.t.2.1))) (λx=>(((),()),(((),x.aD.ah,x.aD.ag,x.aD.aj,(),x.aI.ah,x.aI.ag,x.aI.aj,()),x.ai,x.aG,()))))
def Jd(a0:ay):aa ax1:=
 match XD a0.ai with|G=>G|V r1=>match XD a0.aG with|G=>G|V r2=>V (ay.mk r1 a0.aD r2 a0.aI)
def auE:=eL vp 235 O (lc (qg 128) ln) d235 (λg=>Jd g.1)
def AI:EO auE:=λh=>kL (an:= .no) func235 (uW aV) aH h
structure sx where
 t46:List aK
 (t47 t48:Int)
 (b0 b1:ay)
def Tj:Td 0 sx:= .c [] [4,5,46,47,48] (.r 0 4 (ec 4 (qp 0 0) (ec 5 (qp 1 0) (ec 46 (ql 34) (ec 47 aP (ec 48 aP en))))) (sb 0 128 (lc qn (aU (aU (aU (lc qn (aU (aU (aU ln)))))))) (sb 1 128 (lc (qo 2) (aU (aU (aU (lc (qo 3) (aU (aU (aU ln)))))))) (sr 2 34 (sr 3 34 sn)))) (λz=>⟨z.1.t.1,z.1.t.2.1,z.1.q.1,(ay.mk [] (aK.mk z.2.1.2.1 z.2.1.t.1 z.2.1.t.2.1) [] (aK.mk z.2.1.q.2.1 z.2.1.q.t.1 z.2.1.q.t.2.1)),(ay.mk z.t.2.1 (aK.mk z.t.1.2.1 z.t.1.t.1 z.t.1.t.2.1) z.q.1 (aK.mk z.t.1.q.2.1 z.t.1.q.t.1 z.t.1.q.t.2.1))⟩) (λx=>(((),(),x.t46,x.t47,x.t48,()),(((),x.b0.aD.ah,x.b0.aD.ag,x.b0.aD.aj,(),x.b0.aI.ah,x.b0.aI.ag,x.b0.aI.aj,()),((),x.b1.aD.ah,x.b1.aD.ag,x.b1.aD.aj,(),x.b1.aI.ah,x.b1.aI.ag,x.b1.aI.aj,()),x.b1.ai,x.b1.aG,()))))
def Gg{α:Type}(p:sx)(go:sx->aa α)(e1:aa α):aa α:=
 bif vn (p.t48<p.t47)then if 0<=p.t48/\p.t48<zY p.t46 then bif vn (p.t48<zY p.b1.aG)then if 0<=p.t48/\p.t48<zY p.b1.aG then if 34=34/\zq p.t48<zY p.b1.aG then match FM p.b1.aG[zq p.t48]! p.t46[zq p.t48]! with|G=>G|V r2=>if 0<=p.t48/\p.t48<zY p.b1.aG then if 34=34/\zq p.t48<zY p.b1.aG then go (sx.mk p.t46 p.t47 (ak (p.t48+1)) (ay.mk [] p.b0.aD [] p.b0.aI) (ay.mk p.b1.ai p.b1.aD (p.b1.aG.set p.t48.toNat r2) p.b1.aI))else G else G else G else G else if(p.b1.aG++[p.t46[zq p.t48]!]).length<=1073741824 then go (sx.mk p.t46 p.t47 (ak (p.t48+1)) (ay.mk [] p.b0.aD [] p.b0.aI) (ay.mk p.b1.ai p.b1.aD (p.b1.aG++[p.t46[zq p.t48]!]) p.b1.aI))else G else G else e1
def MK(p:sx):aa (aa sx):=
 Gg p (λs=>V (V s)) (V G)
def Lq:=bI (MK)
structure uV where
 (t13 t14:Int)
 (b0 b1 b2:ay)
def S8:Td 0 uV:= .c [] [3,4,5,13,14] (.r 0 5 (ec 3 (qp 0 0) (ec 4 (qp 1 0) (ec 5 (qp 2 0) (ec 13 aP (ec 14 aP en))))) (sb 0 128 (lg 128) (sb 1 128 (lc qn (aU (aU (aU (lc qn (aU (aU (aU ln)))))))) (sb 2 128 (lc (qo 3) (aU (aU (aU (lc (qo 4) (aU (aU (aU ln)))))))) (sr 3 34 (sr 4 34 sn))))) (λz=>⟨z.1.t.2.1,z.1.q.1,z.2.1,(ay.mk [] (aK.mk z.t.1.2.1 z.t.1.t.1 z.t.1.t.2.1) [] (aK.mk z.t.1.q.2.1 z.t.1.q.t.1 z.t.1.q.t.2.1)),(ay.mk z.q.1 (aK.mk z.t.2.1.2.1 z.t.2.1.t.1 z.t.2.1.t.2.1) z.q.2.1 (aK.mk z.t.2.1.q.2.1 z.t.2.1.q.t.1 z.t.2.1.q.t.2.1))⟩) (λx=>(((),(),(),x.t13,x.t14,()),(x.b0,((),x.b1.aD.ah,x.b1.aD.ag,x.b1.aD.aj,(),x.b1.aI.ah,x.b1.aI.ag,x.b1.aI.aj,()),((),x.b2.aD.ah,x.b2.aD.ag,x.b2.aD.aj,(),x.b2.aI.ah,x.b2.aI.ag,x.b2.aI.aj,()),x.b2.ai,x.b2.aG,()))))
def Gs{α:Type}(p:uV)(go:uV->aa α)(e1:aa α):aa α:=
 bif vn (p.t14<p.t13)then if 0<=p.t14/\p.t14<zY p.b2.ai then if 34=34/\zq p.t14<zY p.b2.ai then if 0<=p.t14/\p.t14<zY p.b0.ai then match FM p.b2.ai[zq p.t14]! p.b0.ai[zq p.t14]! with|G=>G|V r1=>if 0<=p.t14/\p.t14<zY p.b2.ai then if 34=34/\zq p.t14<zY p.b2.ai then go (uV.mk p.t13 (ak (p.t14+1)) p.b0 (ay.mk [] p.b1.aD [] p.b1.aI) (ay.mk (p.b2.ai.set p.t14.toNat r1) p.b2.aD p.b2.aG p.b2.aI))else G else G else G else G else G else e1
def Mk(p:uV):aa (aa uV):=
 Gs p (λs=>V (V s)) (V G)
def No:=bI (Mk)
abbrev aCt:=ay
def d236:Td 0 aCt:= .c [] [4] (.r 0 3 (ec 4 (qp 0 0) en) (sb 0 128 (lc (qo 1) (aU (aU (aU (lc (qo 2) (aU (aU (aU ln)))))))) (sr 1 34 (sr 2 34 sn))) (λz=>(ay.mk z.t.1 (aK.mk z.2.1.2.1 z.2.1.t.1 z.2.1.t.2.1) z.t.2.1 (aK.mk z.2.1.q.2.1 z.2.1.q.t.1 z.2.1.q.t.2.1))) (λx=>(((),()),(((),x.aD.ah,x.aD.ag,x.aD.aj,(),x.aI.ah,x.aI.ag,x.aI.aj,()),x.ai,x.aG,()))))
def Me(a0:ay)(a1:ay):aa aCt:=
 match Jd a0 with|G=>G|V r3=>match No (uV.mk (zY r3.ai) 0 a1 (ay.mk [] (aK.mk 0 0 0) [] (aK.mk 0 0 0)) r3)with|G=>G|V r4=>Gs r4 (λ_=>G) (match FM r4.b2.aD r4.b0.aD with|G=>G|V r6=>match FM r4.b2.aI r4.b0.aI with|G=>G|V r7=>match Lq (sx.mk r4.b0.aG (zY r4.b0.aG) 0 (ay.mk [] r4.b1.aD [] r4.b1.aI) (ay.mk r4.b2.ai r6 r4.b2.aG r7))with|G=>G|V r8=>Gg r8 (λ_=>G) (V (r8.b1)))
def avf:=eL vp 236 O (lc (qg 128) (lc (qg 128) ln)) d236 (λg=>Me g.1 g.2.1)
def XI:EO avf:=λh=>kL (an:=(noTwo (noTwo (.two (noTwo (S8.lp No .no)) (noTwo (noTwo (.two (noTwo (Tj.lp Lq .no)) .no))))))) (l:=[(bk f236 0,(S8.lp No .no)),(bk f236 1,(Tj.lp Lq .no))]) func236 (AI (MG aV)) (aA (aO S8) (aA (aO Tj) aH)) h
abbrev aB0:=ay
def d157:Td 0 aB0:= .c [] [4] (.r 0 1 (ec 4 (qp 0 0) en) (sb 0 128 (lg 128) sn) (λz=>z.2.1) (λx=>(((),()),(x,()))))
def Vh(a0:ay)(a1:Int):aa aB0:=
 match AD (8) a0.aI (m80 a1)with|G=>G|V r1=>V (ay.mk a0.ai a0.aD a0.aG r1.fst)
def arc:bu->bu:=eZ vp 157 (lc (qg 128) (aU ln)) d157 (λg=>Vh g.1 g.2.1)
def WN:EO arc:=λh=>kZ (an:= .no) func157 (MZ (MJ aV)) aH h
abbrev aAq:=ay
def d158:Td 0 aAq:= .c [] [8] (.r 0 3 (ec 8 (qp 0 0) en) (sb 0 128 (lc (qo 1) (aU (aU (aU (lc (qo 2) (aU (aU (aU ln)))))))) (sr 1 34 (sr 2 34 sn))) (λz=>(ay.mk z.t.1 (aK.mk z.2.1.2.1 z.2.1.t.1 z.2.1.t.2.1) z.t.2.1 (aK.mk z.2.1.q.2.1 z.2.1.q.t.1 z.2.1.q.t.2.1))) (λx=>(((),()),(((),x.aD.ah,x.aD.ag,x.aD.aj,(),x.aI.ah,x.aI.ag,x.aI.aj,()),x.ai,x.aG,()))))
def Ti(a0:Runner)(a1:ay)(a2:Int)(a3:aK):aa aAq:=
 match Jd a1 with|G=>G|V r1=>if 0<=a2/\a2<zY a0.fF.ai then match m81 a3 a0.fF.ai[a2.toNat]!.ah a0.fF.ai[a2.toNat]!.ag with|G=>G|V r2=>if 0<=a2/\a2<zY r1.ai then if 34=34/\a2.toNat<zY r1.ai then V (ay.mk (r1.ai.set a2.toNat r2.fst) r1.aD r1.aG r1.aI)else G else G else G
def ay1:=eL vp 158 O (lc (qg 133) (lc (qg 128) (aU (lc (qg 34) ln)))) d158 (λg=>Ti g.1 g.2.1 g.t.1 g.t.2.1)
def aiC:EO ay1:=λh=>kL (an:= .no) func158 (AI (Ut aV)) aH h
structure qG where
 (t10 t11:Int)
 b0:ay
 b1:aK
 b2:ay
def RY:Td 0 qG:= .c [] [2,3,4,10,11] (.r 0 5 (ec 2 (qp 0 0) (ec 3 (qp 1 0) (ec 4 (qp 2 0) (ec 10 aP (ec 11 aP en))))) (sb 0 128 (lc (qo 3) (aU (aU (aU (lc (qo 4) (aU (aU (aU ln)))))))) (sb 1 34 (lg 34) (sb 2 128 (lc qn (aU (aU (aU (lc qn (aU (aU (aU ln)))))))) (sr 3 34 (sr 4 34 sn))))) (λz=>⟨z.1.t.2.1,z.1.q.1,(ay.mk z.q.1 (aK.mk z.2.1.2.1 z.2.1.t.1 z.2.1.t.2.1) z.q.2.1 (aK.mk z.2.1.q.2.1 z.2.1.q.t.1 z.2.1.q.t.2.1)),z.t.1,(ay.mk [] (aK.mk z.t.2.1.2.1 z.t.2.1.t.1 z.t.2.1.t.2.1) [] (aK.mk z.t.2.1.q.2.1 z.t.2.1.q.t.1 z.t.2.1.q.t.2.1))⟩) (λx=>(((),(),(),x.t10,x.t11,()),(((),x.b0.aD.ah,x.b0.aD.ag,x.b0.aD.aj,(),x.b0.aI.ah,x.b0.aI.ag,x.b0.aI.aj,()),x.b1,((),x.b2.aD.ah,x.b2.aD.ag,x.b2.aD.aj,(),x.b2.aI.ah,x.b2.aI.ag,x.b2.aI.aj,()),x.b0.ai,x.b0.aG,()))))
def GP{α:Type}(p:qG)(go:qG->aa α)(e1:aa α):aa α:=
 bif vn (p.t11<p.t10)then match m92 p.b0.aD p.t11 with|G=>G|V r1=>bif r1 then if 0<=p.t11/\p.t11<zY p.b0.aG then if 34=34/\zq p.t11<zY p.b0.aG then match FM p.b0.aG[zq p.t11]! p.b1 with|G=>G|V r2=>if 0<=p.t11/\p.t11<zY p.b0.aG then if 34=34/\zq p.t11<zY p.b0.aG then go (qG.mk p.t10 (ak (p.t11+1)) (ay.mk p.b0.ai p.b0.aD (p.b0.aG.set p.t11.toNat r2) p.b0.aI) p.b1 (ay.mk [] p.b2.aD [] p.b2.aI))else G else G else G else G else go (qG.mk p.t10 (ak (p.t11+1)) p.b0 p.b1 (ay.mk [] p.b2.aD [] p.b2.aI))else e1
def NS(p:qG):aa (aa qG):=
 GP p (λs=>V (V s)) (V G)
def M8:=bI (NS)
abbrev aAb:=ay
def d159:Td 0 aAb:= .c [] [4] (.r 0 3 (ec 4 (qp 0 0) en) (sb 0 128 (lc (qo 1) (aU (aU (aU (lc (qo 2) (aU (aU (aU ln)))))))) (sr 1 34 (sr 2 34 sn))) (λz=>(ay.mk z.t.1 (aK.mk z.2.1.2.1 z.2.1.t.1 z.2.1.t.2.1) z.t.2.1 (aK.mk z.2.1.q.2.1 z.2.1.q.t.1 z.2.1.q.t.2.1))) (λx=>(((),()),(((),x.aD.ah,x.aD.ag,x.aD.aj,(),x.aI.ah,x.aI.ag,x.aI.aj,()),x.ai,x.aG,()))))
def ae8(a0:ay)(a1:aK):aa aAb:=
 match Jd a0 with|G=>G|V r3=>match M8 (qG.mk (zY r3.aG) 0 r3 a1 (ay.mk [] (aK.mk 0 0 0) [] (aK.mk 0 0 0)))with|G=>G|V r4=>GP r4 (λ_=>G) (if(r4.b0.aG++[r4.b1]).length<=1073741824 then match AD 8 r4.b0.aD (m80 1)with|G=>G|V r7=>V (ay.mk r4.b0.ai r7.fst (r4.b0.aG++[r4.b1]) r4.b0.aI)else G)
def aDx:=eL vp 159 O (lc (qg 128) (lc (qg 34) ln)) d159 (λg=>ae8 g.1 g.2.1)
def al8:EO aDx:=λh=>kL (an:=(noTwo (noTwo (.two (noTwo (RY.lp M8 .no)) .no)))) (l:=[(bk f159 0,(RY.lp M8 .no))]) func159 (AI (MZ (MG (UX (MJ aV))))) (aA (aO RY) aH) h
abbrev tv:=ay
def d83:Td 0 tv:= .c [] [6] (.r 0 1 (ec 6 (qp 0 0) en) (sb 0 128 (lg 128) sn) (λz=>z.2.1) (λx=>(((),()),(x,()))))
def A83:=(lc (qg 133) (lc (ql 166) (lc (qg 128) ln)))
def x83(M:Runner->(af aB)->ay->aa tv):bu->bu:=eZ vp 83 A83 d83 (λg=>M g.1 g.2.1 g.2.2.1)
def H83(M:Runner->(af aB)->ay->aa tv):Prop:=HL vp 83 A83 d83 (λg=>M g.1 g.2.1 g.2.2.1)
def Ve{M:Runner->(af aB)->ay->aa tv}(hM:H83 M){F:bu}(h:bD vp F):bD vp (x83 M F):=Kt hM ⟨_,func83,aY,aY⟩ (λ_=>aY) h
abbrev iM:=ay
def d156:Td 0 iM:= .c [] [6] (.r 0 1 (ec 6 (qp 0 0) en) (sb 0 128 (lg 128) sn) (λz=>z.2.1) (λx=>(((),()),(x,()))))
def atB:=(lc (qg 133) (lc (qg 166) (lc (qg 128) ln)))
def aBa(M:Runner->aB->ay->aa iM):bu->bu:=eZ vp 156 atB d156 (λg=>M g.1 g.2.1 g.2.2.1)
def ads(M:Runner->aB->ay->aa iM):Prop:=HL vp 156 atB d156 (λg=>M g.1 g.2.1 g.2.2.1)
def ajE{M:Runner->aB->ay->aa iM}(hM:ads M){F:bu}(h:bD vp F):bD vp (aBa M F):=Kt hM ⟨_,func156,aY,aY⟩ (λ_=>aY) h
abbrev iK:=ay
def d160:Td 0 iK:= .c [] [6] (.t (b6.fc 0 0 []) (.t (b6.fc 0 4 []) (.c [] [6] (.r 0 1 (ec 6 (qp 0 0) en) (sb 0 128 (lg 128) sn) (λz=>z.2.1) (λx=>(((),()),(x,())))))))
def atm:=(lc (qg 133) (lc (qg 166) (lc (qg 128) ln)))
def x160(M:Runner->aB->ay->aa iK):bu->bu:=eZ vp 160 atm d160 (λg=>M g.1 g.2.1 g.2.2.1)
def adg(M:Runner->aB->ay->aa iK):Prop:=HL vp 160 atm d160 (λg=>M g.1 g.2.1 g.2.2.1)
def ajl{M:Runner->aB->ay->aa iK}(hM:adg M){F:bu}(h:bD vp F):bD vp (x160 M F):=Kt hM ⟨_,func160,aY,aY⟩ (λ_=>aY) h
def F83(M83:Runner->(af aB)->ay->aa tv)(M156:Runner->aB->ay->aa iM)(M160:Runner->aB->ay->aa iK):bu:=(aB8 (x160 M160 (aDx (ay1 (arc (aBa M156 (e82 dA)))))))
def at4{M83 M156 M160}(h83:H83 M83)(h156:ads M156)(h160:adg M160):bD vp (F83 M83 M156 M160):=(ajZ (ajl h160 (al8 (aiC (WN (ajE h156 (KS aV)))))))
structure rG where
 t9:List aB
 (t10 t11:Int)
 b0:Runner
 (b1 b2:ay)
def ab3:Td 0 rG:= .c [] [3,5,6,9,10,11] (.t (b6.fc 1 0 []) (.t (b6.fc 1 4 []) (.c [] [3,5,6,9,10,11] (.r 0 3 (ec 3 (qp 0 0) (ec 5 (qp 1 0) (ec 6 (qp 2 0) (ec 9 (ql 166) (ec 10 aP (ec 11 aP en)))))) (sb 0 133 (lg 133) (sb 1 128 (lg 128) (sb 2 128 (lc qn (aU (aU (aU (lc qn (aU (aU (aU ln)))))))) sn))) (λz=>⟨z.1.t.2.1,z.1.q.1,z.1.q.2.1,z.2.1,z.t.1,(ay.mk [] (aK.mk z.t.2.1.2.1 z.t.2.1.t.1 z.t.2.1.t.2.1) [] (aK.mk z.t.2.1.q.2.1 z.t.2.1.q.t.1 z.t.2.1.q.t.2.1))⟩) (λx=>(((),(),(),x.t9,x.t10,x.t11,()),(x.b0,x.b1,((),x.b2.aD.ah,x.b2.aD.ag,x.b2.aD.aj,(),x.b2.aI.ah,x.b2.aI.ag,x.b2.aI.aj,()),())))))))
def VN(M83:Runner->(af aB)->ay->aa tv)(M156:Runner->aB->ay->aa iM)(M160:Runner->aB->ay->aa iK)(p:rG):aa (aa rG):=
 bif vn (p.t11<p.t10)then if 0<=p.t11/\p.t11<zY p.t9 then bif vn (p.t9[zq p.t11]!.b9=4)then match M156 p.b0 (aB.mk p.t9[zq p.t11]!.b9 p.t9[zq p.t11]!.bg p.t9[zq p.t11]!.dJ p.t9[zq p.t11]!.fN (az.mk p.t9[zq p.t11]!.aF.bF p.t9[zq p.t11]!.aF.fN p.t9[zq p.t11]!.aF.aq) p.t9[zq p.t11]!.aQ p.t9[zq p.t11]!.aX p.t9[zq p.t11]!.aR) p.b1 with|G=>G|V r1=>V (V (rG.mk p.t9 p.t10 (ak (p.t11+1)) p.b0 r1 (ay.mk [] p.b2.aD [] p.b2.aI)))else match Vh p.b1 p.t9[zq p.t11]!.bg with|G=>G|V r2=>bif vn (p.t9[zq p.t11]!.b9=0)then match Wp r2 (az.mk p.t9[zq p.t11]!.aF.bF p.t9[zq p.t11]!.aF.fN p.t9[zq p.t11]!.aF.aq)with|G=>G|V r3=>match Ti p.b0 r2 p.t9[zq p.t11]!.dJ r3 with|G=>G|V r4=>V (V (rG.mk p.t9 p.t10 (ak (p.t11+1)) p.b0 r4 (ay.mk [] p.b2.aD [] p.b2.aI)))else bif vn (p.t9[zq p.t11]!.b9=5)then if 0<=p.t9[zq p.t11]!.fN/\p.t9[zq p.t11]!.fN<zY p.b0.ax then match Ti p.b0 r2 p.t9[zq p.t11]!.dJ p.b0.ax[p.t9[zq p.t11]!.fN.toNat]! with|G=>G|V r5=>V (V (rG.mk p.t9 p.t10 (ak (p.t11+1)) p.b0 r5 (ay.mk [] p.b2.aD [] p.b2.aI)))else G else bif vn (p.t9[zq p.t11]!.b9=1)then match Wp r2 (az.mk p.t9[zq p.t11]!.aF.bF p.t9[zq p.t11]!.aF.fN p.t9[zq p.t11]!.aF.aq)with|G=>G|V r6=>match ae8 r2 r6 with|G=>G|V r7=>V (V (rG.mk p.t9 p.t10 (ak (p.t11+1)) p.b0 r7 (ay.mk [] p.b2.aD [] p.b2.aI)))else bif vn (p.t9[zq p.t11]!.b9=3)then match M160 p.b0 (aB.mk p.t9[zq p.t11]!.b9 p.t9[zq p.t11]!.bg p.t9[zq p.t11]!.dJ p.t9[zq p.t11]!.fN (az.mk p.t9[zq p.t11]!.aF.bF p.t9[zq p.t11]!.aF.fN p.t9[zq p.t11]!.aF.aq) p.t9[zq p.t11]!.aQ p.t9[zq p.t11]!.aX p.t9[zq p.t11]!.aR) r2 with|G=>G|V r8=>V (V (rG.mk p.t9 p.t10 (ak (p.t11+1)) p.b0 r8 (ay.mk [] p.b2.aD [] p.b2.aI)))else bif vn (p.t9[zq p.t11]!.b9=6)then match OD r2.aI p.t9[zq p.t11]!.aR with|G=>G|V r9=>V (V (rG.mk p.t9 p.t10 (ak (p.t11+1)) p.b0 (ay.mk r2.ai r2.aD r2.aG r9.fst) (ay.mk [] p.b2.aD [] p.b2.aI)))else V (V (rG.mk p.t9 p.t10 (ak (p.t11+1)) p.b0 r2 (ay.mk [] p.b2.aD [] p.b2.aI)))else G else V (G)
def XZ(M83:Runner->(af aB)->ay->aa tv)(M156:Runner->aB->ay->aa iM)(M160:Runner->aB->ay->aa iK):=bI (VN M83 M156 M160)
def ayJ(M83:Runner->(af aB)->ay->aa tv)(M156:Runner->aB->ay->aa iM)(M160:Runner->aB->ay->aa iK):An:=(noTwo (.two (noTwo (ab3.lp (XZ M83 M156 M160) .no)) .no))
def aGC(M83:Runner->(af aB)->ay->aa tv)(M156:Runner->aB->ay->aa iM)(M160:Runner->aB->ay->aa iK):gu vp (F83 M83 M156 M160) 0 300 83 (ayJ M83 M156 M160):=cH (l:=[(bk f83 0,(ab3.lp (XZ M83 M156 M160) .no))]) func83 (bT aY) aY (aA (aO ab3) aH)
def s83(M83:Runner->(af aB)->ay->aa tv)(M156:Runner->aB->ay->aa iM)(M160:Runner->aB->ay->aa iK)(a0:Runner)(a1:af aB)(a2:ay):aa tv:=
 match XZ M83 M156 M160 (rG.mk a1 (zY a1) 0 a0 a2 (ay.mk [] (aK.mk 0 0 0) [] (aK.mk 0 0 0)))with|G=>G|V r10=>bif vn (r10.t11<r10.t10)then if 0<=r10.t11/\r10.t11<zY r10.t9 then bif vn (r10.t9[zq r10.t11]!.b9=4)then match M156 r10.b0 (aB.mk r10.t9[zq r10.t11]!.b9 r10.t9[zq r10.t11]!.bg r10.t9[zq r10.t11]!.dJ r10.t9[zq r10.t11]!.fN (az.mk r10.t9[zq r10.t11]!.aF.bF r10.t9[zq r10.t11]!.aF.fN r10.t9[zq r10.t11]!.aF.aq) r10.t9[zq r10.t11]!.aQ r10.t9[zq r10.t11]!.aX r10.t9[zq r10.t11]!.aR) r10.b1 with|G=>G|V r11=>G else match Vh r10.b1 r10.t9[zq r10.t11]!.bg with|G=>G|V r12=>bif vn (r10.t9[zq r10.t11]!.b9=0)then match Wp r12 (az.mk r10.t9[zq r10.t11]!.aF.bF r10.t9[zq r10.t11]!.aF.fN r10.t9[zq r10.t11]!.aF.aq)with|G=>G|V r13=>match Ti r10.b0 r12 r10.t9[zq r10.t11]!.dJ r13 with|G=>G|V r14=>G else bif vn (r10.t9[zq r10.t11]!.b9=5)then if 0<=r10.t9[zq r10.t11]!.fN/\r10.t9[zq r10.t11]!.fN<zY r10.b0.ax then match Ti r10.b0 r12 r10.t9[zq r10.t11]!.dJ r10.b0.ax[r10.t9[zq r10.t11]!.fN.toNat]! with|G=>G|V r15=>G else G else bif vn (r10.t9[zq r10.t11]!.b9=1)then match Wp r12 (az.mk r10.t9[zq r10.t11]!.aF.bF r10.t9[zq r10.t11]!.aF.fN r10.t9[zq r10.t11]!.aF.aq)with|G=>G|V r16=>match ae8 r12 r16 with|G=>G|V r17=>G else bif vn (r10.t9[zq r10.t11]!.b9=3)then match M160 r10.b0 (aB.mk r10.t9[zq r10.t11]!.b9 r10.t9[zq r10.t11]!.bg r10.t9[zq r10.t11]!.dJ r10.t9[zq r10.t11]!.fN (az.mk r10.t9[zq r10.t11]!.aF.bF r10.t9[zq r10.t11]!.aF.fN r10.t9[zq r10.t11]!.aF.aq) r10.t9[zq r10.t11]!.aQ r10.t9[zq r10.t11]!.aX r10.t9[zq r10.t11]!.aR) r12 with|G=>G|V r18=>G else bif vn (r10.t9[zq r10.t11]!.b9=6)then match OD r12.aI r10.t9[zq r10.t11]!.aR with|G=>G|V r19=>G else G else G else V (r10.b1)
def c83(M83:Runner->(af aB)->ay->aa tv)(M156:Runner->aB->ay->aa iM)(M160:Runner->aB->ay->aa iK)(a0:Runner)(a1:af aB)(a2:ay):bZ vp (F83 M83 M156 M160) 300 (ayJ M83 M156 M160) 83 (A83.c (a0,a1,a2,())) [] 0 d83.rd=s83 M83 M156 M160 a0 a1 a2:=aY
def avl(M83:Runner->(af aB)->ay->aa tv)(M156:Runner->aB->ay->aa iM)(M160:Runner->aB->ay->aa iK):bu:=(avf (auE (arc (agJ (x83 M83 (e82 dA))))))
def am9{M83 M156 M160}(h83:H83 M83)(h156:ads M156)(h160:adg M160):bD vp (avl M83 M156 M160):=(XI (AI (WN (Lu (Ve h83 (KS aV))))))
structure nD where
 t53:List ay
 (t54 t55:Int)
 (b0 b1:ay)
def Tl:Td 0 nD:= .c [] [6,11,53,54,55] (.t (b6.fc 1 0 []) (.t (b6.fc 1 4 []) (.c [] [6,11,53,54,55] (.r 0 2 (ec 6 (qp 0 0) (ec 11 (qp 1 0) (ec 53 (ql 128) (ec 54 aP (ec 55 aP en))))) (sb 0 128 (lc qn (aU (aU (aU (lc qn (aU (aU (aU ln)))))))) (sb 1 128 (lg 128) sn)) (λz=>⟨z.1.t.1,z.1.t.2.1,z.1.q.1,(ay.mk [] (aK.mk z.2.1.2.1 z.2.1.t.1 z.2.1.t.2.1) [] (aK.mk z.2.1.q.2.1 z.2.1.q.t.1 z.2.1.q.t.2.1)),z.t.1⟩) (λx=>(((),(),x.t53,x.t54,x.t55,()),(((),x.b0.aD.ah,x.b0.aD.ag,x.b0.aD.aj,(),x.b0.aI.ah,x.b0.aI.ag,x.b0.aI.aj,()),x.b1,())))))))
def MM(M83:Runner->(af aB)->ay->aa tv)(M156:Runner->aB->ay->aa iM)(M160:Runner->aB->ay->aa iK)(p:nD):aa (aa nD):=
 bif vn (p.t55<p.t54)then if 0<=p.t55/\p.t55<zY p.t53 then match Me p.b1 p.t53[zq p.t55]! with|G=>G|V r7=>V (V (nD.mk p.t53 p.t54 (ak (p.t55+1)) (ay.mk [] p.b0.aD [] p.b0.aI) r7))else G else V (G)
def ri(M83:Runner->(af aB)->ay->aa tv)(M156:Runner->aB->ay->aa iM)(M160:Runner->aB->ay->aa iK):=bI (MM M83 M156 M160)
structure Dn where
 t7:List ay
 t8:Bool
 (t15 t16:Int)
 b0:Runner
 b1:aB
 (b2 b3:ay)
def SP:Td 0 Dn:= .c [] [3,4,5,6,7,8,15,16] (.t (b6.s 7 [] 128) (.c [] [3,4,5,6,7,8,15,16] (.r 0 5 (ec 3 (qp 0 0) (ec 4 (qp 1 0) (ec 5 (qp 2 0) (ec 6 (qp 3 0) (ec 7 (qo 4) (ec 8 qb (ec 15 aP (ec 16 aP en)))))))) (sb 0 133 (lg 133) (sb 1 166 (lg 166) (sb 2 128 (lg 128) (sb 3 128 (lc qn (aU (aU (aU (lc qn (aU (aU (aU ln)))))))) (sr 4 128 sn))))) (λz=>⟨z.q.2.1,z.1.q.2.1,z.1.q.t.1,z.1.q.t.2.1,z.2.1,z.t.1,z.t.2.1,(ay.mk [] (aK.mk z.q.1.2.1 z.q.1.t.1 z.q.1.t.2.1) [] (aK.mk z.q.1.q.2.1 z.q.1.q.t.1 z.q.1.q.t.2.1))⟩) (λx=>(((),(),(),(),(),x.t8,x.t15,x.t16,()),(x.b0,x.b1,x.b2,((),x.b3.aD.ah,x.b3.aD.ag,x.b3.aD.aj,(),x.b3.aI.ah,x.b3.aI.ag,x.b3.aI.aj,()),x.t7,()))))))
def CY(M83:Runner->(af aB)->ay->aa tv)(M156:Runner->aB->ay->aa iM)(M160:Runner->aB->ay->aa iK)(p:Dn):aa (aa Dn):=
 bif vn (p.t16<p.t15)then match Vh p.b2 p.b1.bg with|G=>G|V r1=>match Wp r1 (az.mk p.b1.aF.bF p.b1.aF.fN p.b1.aF.aq)with|G=>G|V r2=>match T9 r2 with|G=>G|V r3=>bif r3.fst then match Jd r1 with|G=>G|V r4=>if(p.t7++[r4]).length<=1073741824 then bif bif r3.snd then O else J then V (G)else match M83 p.b0 p.b1.aQ r1 with|G=>G|V r5=>V (V (Dn.mk (p.t7++[r4]) p.t8 p.t15 (ak (p.t16+1)) p.b0 (aB.mk p.b1.b9 p.b1.bg p.b1.dJ p.b1.fN (az.mk p.b1.aF.bF p.b1.aF.fN p.b1.aF.aq) p.b1.aQ p.b1.aX p.b1.aR) r5 (ay.mk [] p.b3.aD [] p.b3.aI)))else G else bif bif r3.snd then O else J then V (G)else match M83 p.b0 p.b1.aQ r1 with|G=>G|V r6=>V (V (Dn.mk p.t7 p.t8 p.t15 (ak (p.t16+1)) p.b0 (aB.mk p.b1.b9 p.b1.bg p.b1.dJ p.b1.fN (az.mk p.b1.aF.bF p.b1.aF.fN p.b1.aF.aq) p.b1.aQ p.b1.aX p.b1.aR) r6 (ay.mk [] p.b3.aD [] p.b3.aI)))else V (G)
def KZ(M83:Runner->(af aB)->ay->aa tv)(M156:Runner->aB->ay->aa iM)(M160:Runner->aB->ay->aa iK):=bI (CY M83 M156 M160)
def ap2(M83:Runner->(af aB)->ay->aa tv)(M156:Runner->aB->ay->aa iM)(M160:Runner->aB->ay->aa iK):An:=(noTwo (noTwo (noTwo (.two (noTwo (SP.lp (KZ M83 M156 M160) .no)) (noTwo (noTwo (.two (noTwo (Tl.lp (ri M83 M156 M160) .no)) .no)))))))
def ayb(M83:Runner->(af aB)->ay->aa tv)(M156:Runner->aB->ay->aa iM)(M160:Runner->aB->ay->aa iK):gu vp (avl M83 M156 M160) 0 300 156 (ap2 M83 M156 M160):=cH (l:=[(bk f156 0,(SP.lp (KZ M83 M156 M160) .no)),(bk f156 1,(Tl.lp (ri M83 M156 M160) .no))]) func156 (bT aY) aY (aA (aO SP) (aA (aO Tl) aH))
def akM(M83:Runner->(af aB)->ay->aa tv)(M156:Runner->aB->ay->aa iM)(M160:Runner->aB->ay->aa iK)(a0:Runner)(a1:aB)(a2:ay):aa iM:=
 match KZ M83 M156 M160 (Dn.mk [] J a1.fN 0 a0 (aB.mk a1.b9 a1.bg a1.dJ a1.fN (az.mk a1.aF.bF a1.aF.fN a1.aF.aq) a1.aQ a1.aX a1.aR) a2 (ay.mk [] (aK.mk 0 0 0) [] (aK.mk 0 0 0)))with|G=>G|V r8=>bif vn (r8.t16<r8.t15)then match Vh r8.b2 r8.b1.bg with|G=>G|V r9=>match Wp r9 (az.mk r8.b1.aF.bF r8.b1.aF.fN r8.b1.aF.aq)with|G=>G|V r10=>match T9 r10 with|G=>G|V r11=>bif r11.fst then match Jd r9 with|G=>G|V r12=>if(r8.t7++[r12]).length<=1073741824 then bif bif r11.snd then O else J then if(0:Int)<=(0:Int)/\(0:Int)<(↑(r8.t7++[r12]).length:Int)then if 128=128/\0<zY (r8.t7++[r12]) then if(0:Int)<=(1:Int)/\(1:Int)<=(↑(r8.t7++[r12]).length:Int)then match ri M83 M156 M160 (nD.mk (ya 1 (r8.t7++[r12])) (↑(ya 1 (r8.t7++[r12])).length:Int) 0 (ay.mk [] r8.b3.aD [] r8.b3.aI) (r8.t7++[r12])[0]!)with|G=>G|V r13=>bif vn (r13.t55<r13.t54)then if 0<=r13.t55/\r13.t55<zY r13.t53 then match Me r13.b1 r13.t53[zq r13.t55]! with|G=>G|V r14=>G else G else V (r13.b1)else G else G else G else match M83 r8.b0 r8.b1.aQ r9 with|G=>G|V r15=>G else G else bif bif r11.snd then O else J then if(0:Int)<=(0:Int)/\(0:Int)<zY r8.t7 then if 128=128/\0<zY r8.t7 then if(0:Int)<=(1:Int)/\(1:Int)<=zY r8.t7 then match ri M83 M156 M160 (nD.mk (ya 1 r8.t7) (↑(ya 1 r8.t7).length:Int) 0 (ay.mk [] r8.b3.aD [] r8.b3.aI) r8.t7[0]!)with|G=>G|V r16=>bif vn (r16.t55<r16.t54)then if 0<=r16.t55/\r16.t55<zY r16.t53 then match Me r16.b1 r16.t53[zq r16.t55]! with|G=>G|V r17=>G else G else V (r16.b1)else G else G else G else match M83 r8.b0 r8.b1.aQ r9 with|G=>G|V r18=>G else bif r8.t8 then if(r8.t7++[r8.b2]).length<=1073741824 then if(0:Int)<=(0:Int)/\(0:Int)<(↑(r8.t7++[r8.b2]).length:Int)then if 128=128/\0<zY (r8.t7++[r8.b2]) then if(0:Int)<=(1:Int)/\(1:Int)<=(↑(r8.t7++[r8.b2]).length:Int)then match ri M83 M156 M160 (nD.mk (ya 1 (r8.t7++[r8.b2])) (↑(ya 1 (r8.t7++[r8.b2])).length:Int) 0 (ay.mk [] r8.b3.aD [] r8.b3.aI) (r8.t7++[r8.b2])[0]!)with|G=>G|V r19=>bif vn (r19.t55<r19.t54)then if 0<=r19.t55/\r19.t55<zY r19.t53 then match Me r19.b1 r19.t53[zq r19.t55]! with|G=>G|V r20=>G else G else V (r19.b1)else G else G else G else G else if(0:Int)<=(0:Int)/\(0:Int)<zY r8.t7 then if 128=128/\0<zY r8.t7 then if(0:Int)<=(1:Int)/\(1:Int)<=zY r8.t7 then match ri M83 M156 M160 (nD.mk (ya 1 r8.t7) (↑(ya 1 r8.t7).length:Int) 0 (ay.mk [] r8.b3.aD [] r8.b3.aI) r8.t7[0]!)with|G=>G|V r21=>bif vn (r21.t55<r21.t54)then if 0<=r21.t55/\r21.t55<zY r21.t53 then match Me r21.b1 r21.t53[zq r21.t55]! with|G=>G|V r22=>G else G else V (r21.b1)else G else G else G
def aFw(M83:Runner->(af aB)->ay->aa tv)(M156:Runner->aB->ay->aa iM)(M160:Runner->aB->ay->aa iK)(a0:Runner)(a1:aB)(a2:ay):bZ vp (avl M83 M156 M160) 300 (ap2 M83 M156 M160) 156 (atB.c (a0,a1,a2,())) [] 0 d156.rd=akM M83 M156 M160 a0 a1 a2:=aY
def auj(M83:Runner->(af aB)->ay->aa tv)(M156:Runner->aB->ay->aa iM)(M160:Runner->aB->ay->aa iK):bu:=(avf (auE (agJ (x83 M83 (e82 dA)))))
def aml{M83 M156 M160}(h83:H83 M83)(h156:ads M156)(h160:adg M160):bD vp (auj M83 M156 M160):=(XI (AI (Lu (Ve h83 (KS aV)))))
def apk(M83:Runner->(af aB)->ay->aa tv)(M156:Runner->aB->ay->aa iM)(M160:Runner->aB->ay->aa iK):An:= .no
def ayM(M83:Runner->(af aB)->ay->aa tv)(M156:Runner->aB->ay->aa iM)(M160:Runner->aB->ay->aa iK):gu vp (auj M83 M156 M160) 0 300 160 (apk M83 M156 M160):=cH (l:=[]) func160 (bT aY) aY aH
def ai6(M83:Runner->(af aB)->ay->aa tv)(M156:Runner->aB->ay->aa iM)(M160:Runner->aB->ay->aa iK)(a0:Runner)(a1:aB)(a2:ay):aa iK:=
 match Wp a2 (az.mk a1.aF.bF a1.aF.fN a1.aF.aq)with|G=>G|V r1=>match T9 r1 with|G=>G|V r2=>bif bif r2.fst then O else J then match M83 a0 a1.aQ a2 with|G=>G|V r3=>V (r3)else bif bif r2.snd then O else J then match M83 a0 a1.aX a2 with|G=>G|V r4=>V (r4)else match Jd a2 with|G=>G|V r5=>match M83 a0 a1.aQ r5 with|G=>G|V r6=>match Jd a2 with|G=>G|V r7=>match M83 a0 a1.aX r7 with|G=>G|V r8=>match Me r6 r8 with|G=>G|V r9=>V (r9)
def aFg(M83:Runner->(af aB)->ay->aa tv)(M156:Runner->aB->ay->aa iM)(M160:Runner->aB->ay->aa iK)(a0:Runner)(a1:aB)(a2:ay):bZ vp (auj M83 M156 M160) 300 (apk M83 M156 M160) 160 (atm.c (a0,a1,a2,())) [] 0 d160.rd=ai6 M83 M156 M160 a0 a1 a2:=aY
def dO:Nat->(Runner->(af aB)->ay->aa tv)×(Runner->aB->ay->aa iM)×(Runner->aB->ay->aa iK)
 |0=>(λ_ _ _=>G,λ_ _ _=>G,λ_ _ _=>G)
 |n+1=>(s83 (dO n).1 (dO n).2.1 (dO n).2.2,akM (dO n).1 (dO n).2.1 (dO n).2.2,ai6 (dO n).1 (dO n).2.1 (dO n).2.2)
def Zo(n:Nat):Runner->(af aB)->ay->aa tv:=(dO n).1
def Fq(n:Nat):Runner->aB->ay->aa iM:=(dO n).2.1
def GD(n:Nat):Runner->aB->ay->aa iK:=(dO n).2.2
def qh:∀n,H83 (Zo n)/\ads (Fq n)/\adg (GD n)
 |0=>⟨λ_ _ h=>(by cases h),λ_ _ h=>(by cases h),λ_ _ h=>(by cases h)⟩
 |n+1=>by
  have ih:=qh n;obtain⟨i83,i156,i160⟩:=ih;refine⟨?_,?_,?_⟩
  ·exact(fe (at4 i83 i156 i160) (aGC (Zo n) (Fq n) (GD n)) (λ_=>aY) (λ_=>aY) λg=>c83 (Zo n) (Fq n) (GD n) g.1 g.2.1 g.2.2.1)
  ·exact(fe (am9 i83 i156 i160) (ayb (Zo n) (Fq n) (GD n)) (λ_=>aY) (λ_=>aY) λg=>aFw (Zo n) (Fq n) (GD n) g.1 g.2.1 g.2.2.1)
  ·exact(fe (aml i83 i156 i160) (ayM (Zo n) (Fq n) (GD n)) (λ_=>aY) (λ_=>aY) λg=>aFg (Zo n) (Fq n) (GD n) g.1 g.2.1 g.2.2.1)
def r83:Runner->(af aB)->ay->aa tv:=λa0 a1 a2=>lim (λn=>Zo n a0 a1 a2)
def ary:H83 r83:=λg b h=>by
 obtain⟨n,hn⟩:=dy (show lim (λn=>Zo n g.1 g.2.1 g.2.2.1)=V b from h);exact(qh n).1 g b hn
def e83(F:bu):bu:=x83 r83 F
def aum{F:bu}(h:bD vp F):bD vp (e83 F):=Ve ary h
abbrev aBe:=aK
def d168:Td 0 aBe:= .c [] [4] (.r 0 1 (ec 4 (qp 0 0) en) (sb 0 34 (lg 34) sn) (λz=>z.2.1) (λx=>(((),()),(x,()))))
def Ft(a0:aK)(a1:Int):aa aBe:=
 match oW (8) a0 (m36 a1)with|G=>G|V r1=>V (r1.fst)
def asr:=eL vp 168 O (lc (qg 34) (aU ln)) d168 (λg=>Ft g.1 g.2.1)
def ML:EO asr:=λh=>kL (an:= .no) func168 (Yl (Lm aV)) aH h
structure pR where
 (t48 t49:Int)
 (b0 b1 b2 b3:aJ)
def Vi:Td 0 pR:= .c [] [2,3,4,5,48,49] (.t (b6.c 3 4 [] 34) (.c [] [2,3,4,5,48,49] (.r 0 6 (ec 2 (qp 0 0) (ec 3 (qp 1 0) (ec 4 (qp 2 0) (ec 5 (qp 3 0) (ec 48 aP (ec 49 aP en)))))) (sb 0 147 (lg 147) (sb 1 147 (lg 147) (sb 2 147 (lc qn (aU (aU (aU (lc qn (aU (aU (aU ln)))))))) (sb 3 147 (lc (qo 4) (aU (aU (aU (lc (qo 5) (aU (aU (aU ln)))))))) (sr 4 34 (sr 5 34 sn)))))) (λz=>⟨z.1.q.1,z.1.q.2.1,z.2.1,z.t.1,(aJ.mk [] (aK.mk z.t.2.1.2.1 z.t.2.1.t.1 z.t.2.1.t.2.1) [] (aK.mk z.t.2.1.q.2.1 z.t.2.1.q.t.1 z.t.2.1.q.t.2.1)),(aJ.mk z.q.2.1 (aK.mk z.q.1.2.1 z.q.1.t.1 z.q.1.t.2.1) z.q.t.1 (aK.mk z.q.1.q.2.1 z.q.1.q.t.1 z.q.1.q.t.2.1))⟩) (λx=>(((),(),(),(),x.t48,x.t49,()),(x.b0,x.b1,((),x.b2.aD.ah,x.b2.aD.ag,x.b2.aD.aj,(),x.b2.aI.ah,x.b2.aI.ag,x.b2.aI.aj,()),((),x.b3.aD.ah,x.b3.aD.ag,x.b3.aD.aj,(),x.b3.aI.ah,x.b3.aI.ag,x.b3.aI.aj,()),x.b3.ai,x.b3.aG,()))))))
def Fx{α:Type}(p:pR)(go:pR->aa α)(e1:aa α):aa α:=
 bif vn (p.t49<p.t48)then bif vn (zY p.b0.aG<=p.t49)then if 0<=p.t49/\p.t49<zY p.b1.aG then if(p.b3.aG++[p.b1.aG[zq p.t49]!]).length<=1073741824 then go (pR.mk p.t48 (ak (p.t49+1)) p.b0 p.b1 (aJ.mk [] p.b2.aD [] p.b2.aI) (aJ.mk p.b3.ai p.b3.aD (p.b3.aG++[p.b1.aG[zq p.t49]!]) p.b3.aI))else G else G else bif vn (zY p.b1.aG<=p.t49)then if 0<=p.t49/\p.t49<zY p.b0.aG then if(p.b3.aG++[p.b0.aG[zq p.t49]!]).length<=1073741824 then go (pR.mk p.t48 (ak (p.t49+1)) p.b0 p.b1 (aJ.mk [] p.b2.aD [] p.b2.aI) (aJ.mk p.b3.ai p.b3.aD (p.b3.aG++[p.b0.aG[zq p.t49]!]) p.b3.aI))else G else G else if 0<=p.t49/\p.t49<zY p.b0.aG then if 0<=p.t49/\p.t49<zY p.b1.aG then match nv p.b0.aG[zq p.t49]! p.b1.aG[zq p.t49]! with|G=>G|V r2=>if(p.b3.aG++[r2]).length<=1073741824 then go (pR.mk p.t48 (ak (p.t49+1)) p.b0 p.b1 (aJ.mk [] p.b2.aD [] p.b2.aI) (aJ.mk p.b3.ai p.b3.aD (p.b3.aG++[r2]) p.b3.aI))else G else G else G else e1
def Le(p:pR):aa (aa pR):=
 Fx p (λs=>V (V s)) (V G)
def K6:=bI (Le)
structure vH where
 (t21 t22:Int)
 (b0 b1 b2 b3:aJ)
def Uk:Td 0 vH:= .c [] [2,3,4,5,21,22] (.t (b6.c 3 0 [] 34) (.c [] [2,3,4,5,21,22] (.r 0 5 (ec 2 (qp 0 0) (ec 3 (qp 1 0) (ec 4 (qp 2 0) (ec 5 (qp 3 0) (ec 21 aP (ec 22 aP en)))))) (sb 0 147 (lg 147) (sb 1 147 (lg 147) (sb 2 147 (lc qn (aU (aU (aU (lc qn (aU (aU (aU ln)))))))) (sb 3 147 (lc (qo 4) (aU (aU (aU (lc qn (aU (aU (aU ln)))))))) (sr 4 34 sn))))) (λz=>⟨z.1.q.1,z.1.q.2.1,z.2.1,z.t.1,(aJ.mk [] (aK.mk z.t.2.1.2.1 z.t.2.1.t.1 z.t.2.1.t.2.1) [] (aK.mk z.t.2.1.q.2.1 z.t.2.1.q.t.1 z.t.2.1.q.t.2.1)),(aJ.mk z.q.2.1 (aK.mk z.q.1.2.1 z.q.1.t.1 z.q.1.t.2.1) [] (aK.mk z.q.1.q.2.1 z.q.1.q.t.1 z.q.1.q.t.2.1))⟩) (λx=>(((),(),(),(),x.t21,x.t22,()),(x.b0,x.b1,((),x.b2.aD.ah,x.b2.aD.ag,x.b2.aD.aj,(),x.b2.aI.ah,x.b2.aI.ag,x.b2.aI.aj,()),((),x.b3.aD.ah,x.b3.aD.ag,x.b3.aD.aj,(),x.b3.aI.ah,x.b3.aI.ag,x.b3.aI.aj,()),x.b3.ai,()))))))
def Hf{α:Type}(p:vH)(go:vH->aa α)(e1:aa α):aa α:=
 bif vn (p.t22<p.t21)then if 0<=p.t22/\p.t22<zY p.b0.ai then if 0<=p.t22/\p.t22<zY p.b1.ai then match nv p.b0.ai[zq p.t22]! p.b1.ai[zq p.t22]! with|G=>G|V r1=>if(p.b3.ai++[r1]).length<=1073741824 then go (vH.mk p.t21 (ak (p.t22+1)) p.b0 p.b1 (aJ.mk [] p.b2.aD [] p.b2.aI) (aJ.mk (p.b3.ai++[r1]) p.b3.aD [] p.b3.aI))else G else G else G else e1
def Mr(p:vH):aa (aa vH):=
 Hf p (λs=>V (V s)) (V G)
def KO:=bI (Mr)
abbrev aym:=aJ
def d171:Td 0 aym:= .c [] [4] (.r 0 3 (ec 4 (qp 0 0) en) (sb 0 147 (lc (qo 1) (aU (aU (aU (lc (qo 2) (aU (aU (aU ln)))))))) (sr 1 34 (sr 2 34 sn))) (λz=>(aJ.mk z.t.1 (aK.mk z.2.1.2.1 z.2.1.t.1 z.2.1.t.2.1) z.t.2.1 (aK.mk z.2.1.q.2.1 z.2.1.q.t.1 z.2.1.q.t.2.1))) (λx=>(((),()),(((),x.aD.ah,x.aD.ag,x.aD.aj,(),x.aI.ah,x.aI.ag,x.aI.aj,()),x.ai,x.aG,()))))
def aaN(a0:aJ)(a1:aJ):aa aym:=
 match nv a0.aD a1.aD with|G=>G|V r3=>match nv a0.aI a1.aI with|G=>G|V r4=>match KO (vH.mk (zY a0.ai) 0 a0 a1 (aJ.mk [] (aK.mk 0 0 0) [] (aK.mk 0 0 0)) (aJ.mk [] r3 [] r4))with|G=>G|V r5=>Hf r5 (λ_=>G) (match K6 (pR.mk (if(zY r5.b0.aG:Int)<(zY r5.b1.aG:Int)then(zY r5.b1.aG:Int)else(zY r5.b0.aG:Int)) 0 r5.b0 r5.b1 (aJ.mk [] r5.b2.aD [] r5.b2.aI) (aJ.mk r5.b3.ai r5.b3.aD [] r5.b3.aI))with|G=>G|V r7=>Fx r7 (λ_=>G) (V (r7.b3)))
def aBR:=eL vp 171 O (lc (qg 147) (lc (qg 147) ln)) d171 (λg=>aaN g.1 g.2.1)
def Xe:EO aBR:=λh=>kL (an:=(noTwo (noTwo (.two (noTwo (Uk.lp KO .no)) (.two (noTwo (Vi.lp K6 .no)) .no))))) (l:=[(bk f171 0,(Uk.lp KO .no)),(bk f171 1,(Vi.lp K6 .no))]) func171 (tJ aV) (aA (aO Uk) (aA (aO Vi) aH)) h
structure vG where
 t10:List aJ
 (t11 t12:Int)
 (b0 b1:aJ)
def Uz:Td 0 vG:= .c [] [2,3,10,11,12] (.t (b6.fc 1 0 []) (.t (b6.fc 1 4 []) (.c [] [2,3,10,11,12] (.r 0 2 (ec 2 (qp 0 0) (ec 3 (qp 1 0) (ec 10 (ql 147) (ec 11 aP (ec 12 aP en))))) (sb 0 147 (lc qn (aU (aU (aU (lc qn (aU (aU (aU ln)))))))) (sb 1 147 (lg 147) sn)) (λz=>⟨z.1.t.1,z.1.t.2.1,z.1.q.1,(aJ.mk [] (aK.mk z.2.1.2.1 z.2.1.t.1 z.2.1.t.2.1) [] (aK.mk z.2.1.q.2.1 z.2.1.q.t.1 z.2.1.q.t.2.1)),z.t.1⟩) (λx=>(((),(),x.t10,x.t11,x.t12,()),(((),x.b0.aD.ah,x.b0.aD.ag,x.b0.aD.aj,(),x.b0.aI.ah,x.b0.aI.ag,x.b0.aI.aj,()),x.b1,())))))))
def G1{α:Type}(p:vG)(go:vG->aa α)(e1:aa α):aa α:=
 bif vn (p.t12<p.t11)then if 0<=p.t12/\p.t12<zY p.t10 then match aaN p.b1 p.t10[zq p.t12]! with|G=>G|V r1=>go (vG.mk p.t10 p.t11 (ak (p.t12+1)) (aJ.mk [] p.b0.aD [] p.b0.aI) r1)else G else e1
def Nk(p:vG):aa (aa vG):=
 G1 p (λs=>V (V s)) (V G)
def Mz:=bI (Nk)
abbrev aAn:=aJ
def d247:Td 0 aAn:= .c [] [2] (.r 0 1 (ec 2 (qp 0 0) en) (sb 0 147 (lg 147) sn) (λz=>z.2.1) (λx=>(((),()),(x,()))))
def RA(a0:af aJ):aa aAn:=
 if(0:Int)<=(0:Int)/\(0:Int)<zY a0 then if(0:Int)<=(1:Int)/\(1:Int)<=zY a0 then match Mz (vG.mk (ya 1 a0) (↑(ya 1 a0).length:Int) 0 (aJ.mk [] (aK.mk 0 0 0) [] (aK.mk 0 0 0)) a0[0]!)with|G=>G|V r2=>G1 r2 (λ_=>G) (V (r2.b1))else G else G
def afJ:bu->bu:=eZ vp 247 (lc (ql 147) ln) d247 (λg=>RA g.1)
def akH:EO afJ:=λh=>kZ (an:=(noTwo (noTwo (.two (noTwo (Uz.lp Mz .no)) .no)))) (l:=[(bk f247 0,(Uz.lp Mz .no))]) func247 (Xe aV) (aA (aO Uz) aH) h
abbrev azQ:=aJ
def d169:Td 0 azQ:= .c [] [8] (.r 0 2 (ec 8 (qp 0 0) en) (sb 0 147 (lc (qo 1) (aU (aU (aU (lc (ql 34) (aU (aU (aU ln)))))))) (sr 1 34 sn)) (λz=>(aJ.mk z.t.1 (aK.mk z.2.1.2.1 z.2.1.t.1 z.2.1.t.2.1) z.2.1.q.1 (aK.mk z.2.1.q.2.1 z.2.1.q.t.1 z.2.1.q.t.2.1))) (λx=>(((),()),(((),x.aD.ah,x.aD.ag,x.aD.aj,x.aG,x.aI.ah,x.aI.ag,x.aI.aj,()),x.ai,()))))
def Up(a0:aS)(a1:aJ)(a2:Int)(a3:aK):aa azQ:=
 if([]++a1.ai).length<=1073741824 then if 0<=a2/\a2<zY a0.ai then if 0<=a2/\a2<zY a0.ai then match m86 a3 a0.ai[a2.toNat]!.ah a0.ai[a2.toNat]!.ag with|G=>G|V r1=>if 0<=a2/\a2<(↑([]++a1.ai).length:Int)then if 34=34/\a2.toNat<zY ([]++a1.ai) then V (aJ.mk (([]++a1.ai).set a2.toNat r1.fst) a1.aD a1.aG a1.aI)else G else G else G else G else G
def aCk:bu->bu:=eZ vp 169 (lc (qg 26) (lc (qg 147) (aU (lc (qg 34) ln)))) d169 (λg=>Up g.1 g.2.1 g.t.1 g.t.2.1)
def amR:EO aCk:=λh=>kZ (an:= .no) func169 (SL aV) aH h
structure rf where
 t5:List aK
 (t12 t13:Int)
 b0:aJ
 b1:aK
 b2:aJ
def RZ:Td 0 rf:= .c [] [2,3,4,5,12,13] (.r 0 4 (ec 2 (qp 0 0) (ec 3 (qp 1 0) (ec 4 (qp 2 0) (ec 5 (qo 3) (ec 12 aP (ec 13 aP en)))))) (sb 0 147 (lg 147) (sb 1 34 (lg 34) (sb 2 147 (lc qn (aU (aU (aU (lc qn (aU (aU (aU ln)))))))) (sr 3 34 sn)))) (λz=>⟨z.q.1,z.1.q.1,z.1.q.2.1,z.2.1,z.t.1,(aJ.mk [] (aK.mk z.t.2.1.2.1 z.t.2.1.t.1 z.t.2.1.t.2.1) [] (aK.mk z.t.2.1.q.2.1 z.t.2.1.q.t.1 z.t.2.1.q.t.2.1))⟩) (λx=>(((),(),(),(),x.t12,x.t13,()),(x.b0,x.b1,((),x.b2.aD.ah,x.b2.aD.ag,x.b2.aD.aj,(),x.b2.aI.ah,x.b2.aI.ag,x.b2.aI.aj,()),x.t5,()))))
def GR{α:Type}(p:rf)(go:rf->aa α)(e1:aa α):aa α:=
 bif vn (p.t13<p.t12)then match m32 p.b0.aD p.t13 with|G=>G|V r1=>bif r1 then if 0<=p.t13/\p.t13<zY p.t5 then if 34=34/\zq p.t13<zY p.t5 then match nv p.t5[zq p.t13]! p.b1 with|G=>G|V r2=>if 0<=p.t13/\p.t13<zY p.t5 then if 34=34/\zq p.t13<zY p.t5 then go (rf.mk (p.t5.set p.t13.toNat r2) p.t12 (ak (p.t13+1)) p.b0 p.b1 (aJ.mk [] p.b2.aD [] p.b2.aI))else G else G else G else G else go (rf.mk p.t5 p.t12 (ak (p.t13+1)) p.b0 p.b1 (aJ.mk [] p.b2.aD [] p.b2.aI))else e1
def Lx(p:rf):aa (aa rf):=
 GR p (λs=>V (V s)) (V G)
def MF:=bI (Lx)
abbrev ayD:=aJ
def d170:Td 0 ayD:= .c [] [4] (.r 0 2 (ec 4 (qp 0 0) en) (sb 0 147 (lc (ql 34) (aU (aU (aU (lc (qo 1) (aU (aU (aU ln)))))))) (sr 1 34 sn)) (λz=>(aJ.mk z.2.1.1 (aK.mk z.2.1.2.1 z.2.1.t.1 z.2.1.t.2.1) z.t.1 (aK.mk z.2.1.q.2.1 z.2.1.q.t.1 z.2.1.q.t.2.1))) (λx=>(((),()),((x.ai,x.aD.ah,x.aD.ag,x.aD.aj,(),x.aI.ah,x.aI.ag,x.aI.aj,()),x.aG,()))))
def adx(a0:aJ)(a1:aK):aa ayD:=
 if([]++a0.aG).length<=1073741824 then match MF (rf.mk ([]++a0.aG) (↑([]++a0.aG).length:Int) 0 a0 a1 (aJ.mk [] (aK.mk 0 0 0) [] (aK.mk 0 0 0)))with|G=>G|V r3=>GR r3 (λ_=>G) (if(r3.t5++[r3.b1]).length<=1073741824 then match Ft r3.b0.aD 1with|G=>G|V r6=>V (aJ.mk r3.b0.ai r6 (r3.t5++[r3.b1]) r3.b0.aI)else G)else G
def aCl:bu->bu:=eZ vp 170 (lc (qg 147) (lc (qg 34) ln)) d170 (λg=>adx g.1 g.2.1)
def alA:EO aCl:=λh=>kZ (an:=(noTwo (noTwo (.two (noTwo (RZ.lp MF .no)) .no)))) (l:=[(bk f170 0,(RZ.lp MF .no))]) func170 (ML (tJ (FO aV))) (aA (aO RZ) aH) h
abbrev Ez:=aJ
def d88:Td 0 Ez:= .c [] [8] (.r 0 1 (ec 8 (qp 0 0) en) (sb 0 147 (lg 147) sn) (λz=>z.2.1) (λx=>(((),()),(x,()))))
def A88:=(lc (qg 26) (lc (ql 34) (lc (ql 166) (lc (qg 147) ln))))
def x88(M:aS->(af aK)->(af aB)->aJ->aa Ez):bu->bu:=eZ vp 88 A88 d88 (λg=>M g.1 g.2.1 g.2.2.1 g.2.2.2.1)
def H88(M:aS->(af aK)->(af aB)->aJ->aa Ez):Prop:=HL vp 88 A88 d88 (λg=>M g.1 g.2.1 g.2.2.1 g.2.2.2.1)
def Uo{M:aS->(af aK)->(af aB)->aJ->aa Ez}(hM:H88 M){F:bu}(h:bD vp F):bD vp (x88 M F):=Kt hM ⟨_,func88,aY,aY⟩ (λ_=>aY) h
abbrev mT:=aJ
def d167:Td 0 mT:= .c [] [8] (.r 0 1 (ec 8 (qp 0 0) en) (sb 0 147 (lg 147) sn) (λz=>z.2.1) (λx=>(((),()),(x,()))))
def avO:=(lc (qg 26) (lc (ql 34) (lc (qg 166) (lc (qg 147) ln))))
def x167(M:aS->(af aK)->aB->aJ->aa mT):bu->bu:=eZ vp 167 avO d167 (λg=>M g.1 g.2.1 g.2.2.1 g.2.2.2.1)
def aiw(M:aS->(af aK)->aB->aJ->aa mT):Prop:=HL vp 167 avO d167 (λg=>M g.1 g.2.1 g.2.2.1 g.2.2.2.1)
def ahW{M:aS->(af aK)->aB->aJ->aa mT}(hM:aiw M){F:bu}(h:bD vp F):bD vp (x167 M F):=Kt hM ⟨_,func167,aY,aY⟩ (λ_=>aY) h
def F88(M88:aS->(af aK)->(af aB)->aJ->aa Ez)(M167:aS->(af aK)->aB->aJ->aa mT):bu:=(aBC (aBR (aCl (aCk (asr (x167 M167 (Zw (x88 M88 (e87 dA)))))))))
def auL{M88 M167}(h88:H88 M88)(h167:aiw M167):bD vp (F88 M88 M167):=(ahL (Xe (alA (amR (ML (ahW h167 (AL (Uo h88 (Tq aV)))))))))
structure om where
 t1:List aK
 t13:List aB
 (t14 t15:Int)
 b0:aS
 (b1 b2:aJ)
def aex:Td 0 om:= .c [] [1,4,7,8,13,14,15] (.t (b6.fc 1 0 []) (.t (b6.fc 1 4 []) (.c [] [1,4,7,8,13,14,15] (.r 0 3 (ec 1 (ql 34) (ec 4 (qp 0 0) (ec 7 (qp 1 0) (ec 8 (qp 2 0) (ec 13 (ql 166) (ec 14 aP (ec 15 aP en))))))) (sb 0 26 (lg 26) (sb 1 147 (lg 147) (sb 2 147 (lc qn (aU (aU (aU (lc qn (aU (aU (aU ln)))))))) sn))) (λz=>⟨z.1.1,z.1.q.1,z.1.q.2.1,z.1.q.t.1,z.2.1,z.t.1,(aJ.mk [] (aK.mk z.t.2.1.2.1 z.t.2.1.t.1 z.t.2.1.t.2.1) [] (aK.mk z.t.2.1.q.2.1 z.t.2.1.q.t.1 z.t.2.1.q.t.2.1))⟩) (λx=>((x.t1,(),(),(),x.t13,x.t14,x.t15,()),(x.b0,x.b1,((),x.b2.aD.ah,x.b2.aD.ag,x.b2.aD.aj,(),x.b2.aI.ah,x.b2.aI.ag,x.b2.aI.aj,()),())))))))
def Wm(M88:aS->(af aK)->(af aB)->aJ->aa Ez)(M167:aS->(af aK)->aB->aJ->aa mT)(p:om):aa (aa om):=
 bif vn (p.t15<p.t14)then if 0<=p.t15/\p.t15<zY p.t13 then bif vn (p.t13[zq p.t15]!.b9=4)then match M167 p.b0 p.t1 (aB.mk p.t13[zq p.t15]!.b9 p.t13[zq p.t15]!.bg p.t13[zq p.t15]!.dJ p.t13[zq p.t15]!.fN (az.mk p.t13[zq p.t15]!.aF.bF p.t13[zq p.t15]!.aF.fN p.t13[zq p.t15]!.aF.aq) p.t13[zq p.t15]!.aQ p.t13[zq p.t15]!.aX p.t13[zq p.t15]!.aR) p.b1 with|G=>G|V r1=>V (V (om.mk p.t1 p.t13 p.t14 (ak (p.t15+1)) p.b0 r1 (aJ.mk [] p.b2.aD [] p.b2.aI)))else match Ft p.b1.aI p.t13[zq p.t15]!.bg with|G=>G|V r2=>bif vn (p.t13[zq p.t15]!.b9=0)then match Ue (aJ.mk p.b1.ai p.b1.aD p.b1.aG r2) (az.mk p.t13[zq p.t15]!.aF.bF p.t13[zq p.t15]!.aF.fN p.t13[zq p.t15]!.aF.aq)with|G=>G|V r3=>match Up p.b0 (aJ.mk p.b1.ai p.b1.aD p.b1.aG r2) p.t13[zq p.t15]!.dJ r3 with|G=>G|V r4=>V (V (om.mk p.t1 p.t13 p.t14 (ak (p.t15+1)) p.b0 r4 (aJ.mk [] p.b2.aD [] p.b2.aI)))else bif vn (p.t13[zq p.t15]!.b9=5)then if 0<=p.t13[zq p.t15]!.fN/\p.t13[zq p.t15]!.fN<zY p.t1 then match Up p.b0 (aJ.mk p.b1.ai p.b1.aD p.b1.aG r2) p.t13[zq p.t15]!.dJ p.t1[p.t13[zq p.t15]!.fN.toNat]! with|G=>G|V r5=>V (V (om.mk p.t1 p.t13 p.t14 (ak (p.t15+1)) p.b0 r5 (aJ.mk [] p.b2.aD [] p.b2.aI)))else G else bif vn (p.t13[zq p.t15]!.b9=1)then match Ue (aJ.mk p.b1.ai p.b1.aD p.b1.aG r2) (az.mk p.t13[zq p.t15]!.aF.bF p.t13[zq p.t15]!.aF.fN p.t13[zq p.t15]!.aF.aq)with|G=>G|V r6=>match adx (aJ.mk p.b1.ai p.b1.aD p.b1.aG r2) r6 with|G=>G|V r7=>V (V (om.mk p.t1 p.t13 p.t14 (ak (p.t15+1)) p.b0 r7 (aJ.mk [] p.b2.aD [] p.b2.aI)))else bif vn (p.t13[zq p.t15]!.b9=3)then match Ue (aJ.mk p.b1.ai p.b1.aD p.b1.aG r2) (az.mk p.t13[zq p.t15]!.aF.bF p.t13[zq p.t15]!.aF.fN p.t13[zq p.t15]!.aF.aq)with|G=>G|V r8=>match GF r8 with|G=>G|V r9=>bif bif r9.fst then O else J then match M88 p.b0 p.t1 p.t13[zq p.t15]!.aQ (aJ.mk p.b1.ai p.b1.aD p.b1.aG r2)with|G=>G|V r10=>V (V (om.mk p.t1 p.t13 p.t14 (ak (p.t15+1)) p.b0 r10 (aJ.mk [] p.b2.aD [] p.b2.aI)))else bif bif r9.snd then O else J then match M88 p.b0 p.t1 p.t13[zq p.t15]!.aX (aJ.mk p.b1.ai p.b1.aD p.b1.aG r2)with|G=>G|V r11=>V (V (om.mk p.t1 p.t13 p.t14 (ak (p.t15+1)) p.b0 r11 (aJ.mk [] p.b2.aD [] p.b2.aI)))else match M88 p.b0 p.t1 p.t13[zq p.t15]!.aQ (aJ.mk p.b1.ai p.b1.aD p.b1.aG r2)with|G=>G|V r12=>match M88 p.b0 p.t1 p.t13[zq p.t15]!.aX (aJ.mk p.b1.ai p.b1.aD p.b1.aG r2)with|G=>G|V r13=>match aaN r12 r13 with|G=>G|V r14=>V (V (om.mk p.t1 p.t13 p.t14 (ak (p.t15+1)) p.b0 r14 (aJ.mk [] p.b2.aD [] p.b2.aI)))else bif vn (p.t13[zq p.t15]!.b9=6)then match OK r2 p.t13[zq p.t15]!.aR with|G=>G|V r15=>V (V (om.mk p.t1 p.t13 p.t14 (ak (p.t15+1)) p.b0 (aJ.mk p.b1.ai p.b1.aD p.b1.aG r15.fst) (aJ.mk [] p.b2.aD [] p.b2.aI)))else V (V (om.mk p.t1 p.t13 p.t14 (ak (p.t15+1)) p.b0 (aJ.mk p.b1.ai p.b1.aD p.b1.aG r2) (aJ.mk [] p.b2.aD [] p.b2.aI)))else G else V (G)
def WI(M88:aS->(af aK)->(af aB)->aJ->aa Ez)(M167:aS->(af aK)->aB->aJ->aa mT):=bI (Wm M88 M167)
def aBW(M88:aS->(af aK)->(af aB)->aJ->aa Ez)(M167:aS->(af aK)->aB->aJ->aa mT):An:=(noTwo (.two (noTwo (aex.lp (WI M88 M167) .no)) .no))
def aHA(M88:aS->(af aK)->(af aB)->aJ->aa Ez)(M167:aS->(af aK)->aB->aJ->aa mT):gu vp (F88 M88 M167) 0 300 88 (aBW M88 M167):=cH (l:=[(bk f88 0,(aex.lp (WI M88 M167) .no))]) func88 (bT aY) aY (aA (aO aex) aH)
def s88(M88:aS->(af aK)->(af aB)->aJ->aa Ez)(M167:aS->(af aK)->aB->aJ->aa mT)(a0:aS)(a1:af aK)(a2:af aB)(a3:aJ):aa Ez:=
 match WI M88 M167 (om.mk a1 a2 (zY a2) 0 a0 a3 (aJ.mk [] (aK.mk 0 0 0) [] (aK.mk 0 0 0)))with|G=>G|V r16=>bif vn (r16.t15<r16.t14)then if 0<=r16.t15/\r16.t15<zY r16.t13 then bif vn (r16.t13[zq r16.t15]!.b9=4)then match M167 r16.b0 r16.t1 (aB.mk r16.t13[zq r16.t15]!.b9 r16.t13[zq r16.t15]!.bg r16.t13[zq r16.t15]!.dJ r16.t13[zq r16.t15]!.fN (az.mk r16.t13[zq r16.t15]!.aF.bF r16.t13[zq r16.t15]!.aF.fN r16.t13[zq r16.t15]!.aF.aq) r16.t13[zq r16.t15]!.aQ r16.t13[zq r16.t15]!.aX r16.t13[zq r16.t15]!.aR) r16.b1 with|G=>G|V r17=>G else match Ft r16.b1.aI r16.t13[zq r16.t15]!.bg with|G=>G|V r18=>bif vn (r16.t13[zq r16.t15]!.b9=0)then match Ue (aJ.mk r16.b1.ai r16.b1.aD r16.b1.aG r18) (az.mk r16.t13[zq r16.t15]!.aF.bF r16.t13[zq r16.t15]!.aF.fN r16.t13[zq r16.t15]!.aF.aq)with|G=>G|V r19=>match Up r16.b0 (aJ.mk r16.b1.ai r16.b1.aD r16.b1.aG r18) r16.t13[zq r16.t15]!.dJ r19 with|G=>G|V r20=>G else bif vn (r16.t13[zq r16.t15]!.b9=5)then if 0<=r16.t13[zq r16.t15]!.fN/\r16.t13[zq r16.t15]!.fN<zY r16.t1 then match Up r16.b0 (aJ.mk r16.b1.ai r16.b1.aD r16.b1.aG r18) r16.t13[zq r16.t15]!.dJ r16.t1[r16.t13[zq r16.t15]!.fN.toNat]! with|G=>G|V r21=>G else G else bif vn (r16.t13[zq r16.t15]!.b9=1)then match Ue (aJ.mk r16.b1.ai r16.b1.aD r16.b1.aG r18) (az.mk r16.t13[zq r16.t15]!.aF.bF r16.t13[zq r16.t15]!.aF.fN r16.t13[zq r16.t15]!.aF.aq)with|G=>G|V r22=>match adx (aJ.mk r16.b1.ai r16.b1.aD r16.b1.aG r18) r22 with|G=>G|V r23=>G else bif vn (r16.t13[zq r16.t15]!.b9=3)then match Ue (aJ.mk r16.b1.ai r16.b1.aD r16.b1.aG r18) (az.mk r16.t13[zq r16.t15]!.aF.bF r16.t13[zq r16.t15]!.aF.fN r16.t13[zq r16.t15]!.aF.aq)with|G=>G|V r24=>match GF r24 with|G=>G|V r25=>bif bif r25.fst then O else J then match M88 r16.b0 r16.t1 r16.t13[zq r16.t15]!.aQ (aJ.mk r16.b1.ai r16.b1.aD r16.b1.aG r18)with|G=>G|V r26=>G else bif bif r25.snd then O else J then match M88 r16.b0 r16.t1 r16.t13[zq r16.t15]!.aX (aJ.mk r16.b1.ai r16.b1.aD r16.b1.aG r18)with|G=>G|V r27=>G else match M88 r16.b0 r16.t1 r16.t13[zq r16.t15]!.aQ (aJ.mk r16.b1.ai r16.b1.aD r16.b1.aG r18)with|G=>G|V r28=>match M88 r16.b0 r16.t1 r16.t13[zq r16.t15]!.aX (aJ.mk r16.b1.ai r16.b1.aD r16.b1.aG r18)with|G=>G|V r29=>match aaN r28 r29 with|G=>G|V r30=>G else bif vn (r16.t13[zq r16.t15]!.b9=6)then match OK r18 r16.t13[zq r16.t15]!.aR with|G=>G|V r31=>G else G else G else V (r16.b1)
def c88(M88:aS->(af aK)->(af aB)->aJ->aa Ez)(M167:aS->(af aK)->aB->aJ->aa mT)(a0:aS)(a1:af aK)(a2:af aB)(a3:aJ):bZ vp (F88 M88 M167) 300 (aBW M88 M167) 88 (A88.c (a0,a1,a2,a3,())) [] 0 d88.rd=s88 M88 M167 a0 a1 a2 a3:=aY
def awb(M88:aS->(af aK)->(af aB)->aJ->aa Ez)(M167:aS->(af aK)->aB->aJ->aa mT):bu:=(afJ (asr (Zw (x88 M88 (e87 dA)))))
def ajJ{M88 M167}(h88:H88 M88)(h167:aiw M167):bD vp (awb M88 M167):=(akH (ML (AL (Uo h88 (Tq aV)))))
structure C2 where
 t1:List aK
 t9:List aJ
 (t13 t14:Int)
 b0:aS
 b1:aB
 (b2 b3:aJ)
def R4:Td 0 C2:= .c [] [1,4,6,7,8,9,13,14] (.t (b6.s 9 [] 147) (.c [] [1,4,6,7,8,9,13,14] (.r 0 5 (ec 1 (ql 34) (ec 4 (qp 0 0) (ec 6 (qp 1 0) (ec 7 (qp 2 0) (ec 8 (qp 3 0) (ec 9 (qo 4) (ec 13 aP (ec 14 aP en)))))))) (sb 0 26 (lg 26) (sb 1 166 (lg 166) (sb 2 147 (lg 147) (sb 3 147 (lc qn (aU (aU (aU (lc qn (aU (aU (aU ln)))))))) (sr 4 147 sn))))) (λz=>⟨z.1.1,z.q.2.1,z.1.q.t.1,z.1.q.t.2.1,z.2.1,z.t.1,z.t.2.1,(aJ.mk [] (aK.mk z.q.1.2.1 z.q.1.t.1 z.q.1.t.2.1) [] (aK.mk z.q.1.q.2.1 z.q.1.q.t.1 z.q.1.q.t.2.1))⟩) (λx=>((x.t1,(),(),(),(),(),x.t13,x.t14,()),(x.b0,x.b1,x.b2,((),x.b3.aD.ah,x.b3.aD.ag,x.b3.aD.aj,(),x.b3.aI.ah,x.b3.aI.ag,x.b3.aI.aj,()),x.t9,()))))))
def CA(M88:aS->(af aK)->(af aB)->aJ->aa Ez)(M167:aS->(af aK)->aB->aJ->aa mT)(p:C2):aa (aa C2):=
 bif vn (p.t14<p.t13)then match Ft p.b2.aI p.b1.bg with|G=>G|V r1=>match Ue (aJ.mk p.b2.ai p.b2.aD p.b2.aG r1) (az.mk p.b1.aF.bF p.b1.aF.fN p.b1.aF.aq)with|G=>G|V r2=>match GF r2 with|G=>G|V r3=>bif r3.fst then if(p.t9++[aJ.mk p.b2.ai p.b2.aD p.b2.aG r1]).length<=1073741824 then bif bif r3.snd then O else J then match RA (p.t9++[aJ.mk p.b2.ai p.b2.aD p.b2.aG r1])with|G=>G|V r4=>V (G)else match M88 p.b0 p.t1 p.b1.aQ (aJ.mk p.b2.ai p.b2.aD p.b2.aG r1)with|G=>G|V r5=>V (V (C2.mk p.t1 (p.t9++[aJ.mk p.b2.ai p.b2.aD p.b2.aG r1]) p.t13 (ak (p.t14+1)) p.b0 (aB.mk p.b1.b9 p.b1.bg p.b1.dJ p.b1.fN (az.mk p.b1.aF.bF p.b1.aF.fN p.b1.aF.aq) p.b1.aQ p.b1.aX p.b1.aR) r5 (aJ.mk [] p.b3.aD [] p.b3.aI)))else G else bif bif r3.snd then O else J then match RA p.t9 with|G=>G|V r6=>V (G)else match M88 p.b0 p.t1 p.b1.aQ (aJ.mk p.b2.ai p.b2.aD p.b2.aG r1)with|G=>G|V r7=>V (V (C2.mk p.t1 p.t9 p.t13 (ak (p.t14+1)) p.b0 (aB.mk p.b1.b9 p.b1.bg p.b1.dJ p.b1.fN (az.mk p.b1.aF.bF p.b1.aF.fN p.b1.aF.aq) p.b1.aQ p.b1.aX p.b1.aR) r7 (aJ.mk [] p.b3.aD [] p.b3.aI)))else V (G)
def MB(M88:aS->(af aK)->(af aB)->aJ->aa Ez)(M167:aS->(af aK)->aB->aJ->aa mT):=bI (CA M88 M167)
def aqs(M88:aS->(af aK)->(af aB)->aJ->aa Ez)(M167:aS->(af aK)->aB->aJ->aa mT):An:=(noTwo (noTwo (.two (noTwo (R4.lp (MB M88 M167) .no)) .no)))
def aCy(M88:aS->(af aK)->(af aB)->aJ->aa Ez)(M167:aS->(af aK)->aB->aJ->aa mT):gu vp (awb M88 M167) 0 300 167 (aqs M88 M167):=cH (l:=[(bk f167 0,(R4.lp (MB M88 M167) .no))]) func167 (bT aY) aY (aA (aO R4) aH)
def akT(M88:aS->(af aK)->(af aB)->aJ->aa Ez)(M167:aS->(af aK)->aB->aJ->aa mT)(a0:aS)(a1:af aK)(a2:aB)(a3:aJ):aa mT:=
 match MB M88 M167 (C2.mk a1 [] a2.fN (0) a0 (aB.mk a2.b9 a2.bg a2.dJ a2.fN (az.mk a2.aF.bF a2.aF.fN a2.aF.aq) a2.aQ a2.aX a2.aR) a3 (aJ.mk [] (aK.mk (0) (0) (0)) [] (aK.mk (0) (0) (0))))with|G=>G|V r8=>bif vn (r8.t14<r8.t13)then match Ft r8.b2.aI r8.b1.bg with|G=>G|V r9=>match Ue (aJ.mk r8.b2.ai r8.b2.aD r8.b2.aG r9) (az.mk r8.b1.aF.bF r8.b1.aF.fN r8.b1.aF.aq)with|G=>G|V r10=>match GF r10 with|G=>G|V r11=>bif r11.fst then if(r8.t9++[aJ.mk r8.b2.ai r8.b2.aD r8.b2.aG r9]).length<=1073741824 then bif bif r11.snd then O else J then match RA (r8.t9++[aJ.mk r8.b2.ai r8.b2.aD r8.b2.aG r9])with|G=>G|V r12=>V (r12)else match M88 r8.b0 r8.t1 r8.b1.aQ (aJ.mk r8.b2.ai r8.b2.aD r8.b2.aG r9)with|G=>G|V r13=>G else G else bif bif r11.snd then O else J then match RA r8.t9 with|G=>G|V r14=>V (r14)else match M88 r8.b0 r8.t1 r8.b1.aQ (aJ.mk r8.b2.ai r8.b2.aD r8.b2.aG r9)with|G=>G|V r15=>G else if(r8.t9++[r8.b2]).length<=1073741824 then match RA (r8.t9++[r8.b2])with|G=>G|V r16=>V (r16)else G
def aGR(M88:aS->(af aK)->(af aB)->aJ->aa Ez)(M167:aS->(af aK)->aB->aJ->aa mT)(a0:aS)(a1:af aK)(a2:aB)(a3:aJ):bZ vp (awb M88 M167) 300 (aqs M88 M167) 167 (avO.c (a0,a1,a2,a3,())) [] 0 d167.rd=akT M88 M167 a0 a1 a2 a3:=aY
def oB:Nat->(aS->(af aK)->(af aB)->aJ->aa Ez)×(aS->(af aK)->aB->aJ->aa mT)
 |0=>(λ_ _ _ _=>G,λ_ _ _ _=>G)
 |n+1=>(s88 (oB n).1 (oB n).2,akT (oB n).1 (oB n).2)
def m88(n:Nat):aS->(af aK)->(af aB)->aJ->aa Ez:=(oB n).1
def QZ(n:Nat):aS->(af aK)->aB->aJ->aa mT:=(oB n).2
def DD:∀n,H88 (m88 n)/\aiw (QZ n)
 |0=>⟨λ_ _ h=>(by cases h),λ_ _ h=>(by cases h)⟩
 |n+1=>by
  have ih:=DD n;obtain⟨i88,i167⟩:=ih;refine⟨?_,?_⟩
  ·exact(fe (auL i88 i167) (aHA (m88 n) (QZ n)) (λ_=>aY) (λ_=>aY) λg=>c88 (m88 n) (QZ n) g.1 g.2.1 g.2.2.1 g.2.2.2.1)
  ·exact(fe (ajJ i88 i167) (aCy (m88 n) (QZ n)) (λ_=>aY) (λ_=>aY) λg=>aGR (m88 n) (QZ n) g.1 g.2.1 g.2.2.1 g.2.2.2.1)
def r88:aS->(af aK)->(af aB)->aJ->aa Ez:=λa0 a1 a2 a3=>lim (λn=>m88 n a0 a1 a2 a3)
def awj:H88 r88:=λg b h=>by
 obtain⟨n,hn⟩:=dy (show lim (λn=>m88 n g.1 g.2.1 g.2.2.1 g.2.2.2.1)=V b from h);exact(DD n).1 g b hn
def e88(F:bu):bu:=x88 r88 F
def atz{F:bu}(h:bD vp F):bD vp (e88 F):=Uo awj h
def acR{l:af aK}(h:zY l<=1000000):XD l=V l:=by unfold XD;rw[gM]
def tj{s:ay}(h1:zY s.ai<=1000000)(h2:zY s.aG<=1000000):Jd s=V s:=by
 unfold Jd;rw[acR h1];rw[acR h2]
def TD{n m:Nat}{s:ay}(h:eO n m s){c:Int}(hc:cC c):Vh s c=V (gd s c):=by
 obtain⟨z,e,_,_⟩:=pL 8 h.time (me hc);unfold Vh gd;rw[sY,e]
def Mu{a:aK}(h:NN a){c:Int}(hc:cC c):Ft a c=V (qx 8 a (eC c)):=by
 obtain⟨z,_,e,_⟩:=pL 8 h (me hc);unfold Ft;rw[Ff,e]
def aby{r:Runner}{m:Nat}{s:ay}(h:eO (zY r.fF.ai) m s)(hn:zY r.fF.ai<=1000000)(hm:m<=1000000){v:Int}{x:aK}(h1:0<=v)(h2:v<zY r.fF.ai)(hx:NN x):Ti r s v x=V (TJ r.fF s v x):=by
 have hl:=h.len;have hs:=h.sl;obtain⟨z,e,_,_⟩:=iz hx r.fF.ai[v.toNat]!.ah r.fF.ai[v.toNat]!.ag;unfold Ti TJ;rw[tj au au];dsimp only;rw[bB ⟨h1,h2⟩,e];dsimp only;rw[gM,bB ⟨rfl,au⟩]
def abN{f:aS}{m:Nat}{s:ay}(h:eO (zY f.ai) m s)(hn:zY f.ai<=1000000){v:Int}{x:aK}(h1:0<=v)(h2:v<zY f.ai)(hx:NN x):Up f (tr s) v x=V (tr (TJ f s v x)):=by
 have hl:=h.len;obtain⟨z,_,e,_⟩:=iz hx f.ai[v.toNat]!.ah f.ai[v.toNat]!.ag;unfold Up TJ tr;simp only[yB];rw[gM,bB ⟨h1,h2⟩,bB ⟨h1,h2⟩,e];dsimp only;rw[gM,bB ⟨trivial,au⟩]
def Pf{vars:af bh}{inp:Bool}{m:Nat}{st:ay}(hst:eO (zY vars) m st){t:az}(hc:fq vars inp t=0):Wp st t=V (cI st.ai t):=by
 have e:alo t st=V (cI st.ai t,st):=eG (ze t+1) λn hn=>(MT hst n t au (tN hc).1 (tN hc).2).1;unfold Wp;rw[az.eta,e]
def D5(s:ay)(v:aK)(i:Nat):af aK:=tab (zY s.aG) (λk=>if k<i/\cR s.aD k=J then cF s.aG[k]! v else s.aG[k]!)
def Av(s:ay)(v:aK)(i:Nat):zY (D5 s v i)=zY s.aG:=gU ..
def aez(s:ay)(v:aK):D5 s v 0=s.aG:=SQ rfl λi _=>by rw[bL (λh=>au)]
def PO(s:ay)(v:aK):D5 s v s.aG.length=tab (zY s.aG) (λk=>if cR s.aD k=J then cF s.aG[k]! v else s.aG[k]!):=iC λi hi=>by
 by_cases c:cR s.aD (i:Nat)=J
 ·rw[bB ⟨hi,c⟩,bB c]
 ·rw[bL (λh=>c h.2),bL c]
def RO{s:ay}{v:aK}{i:Nat}(h:i<zY s.aG):(D5 s v i)[i]! =s.aG[i]! :=by
 rw[D5,o5 h,bL (λh=>au)]
def PT{s:ay}{v:aK}{i:Nat}(c:cR s.aD (i:Nat)=J):(D5 s v i).set i (cF s.aG[i]! v)=D5 s v (i+1):=by
 rw[D5,NT];refine iC λj _=> ?_;by_cases e:j=i
 ·subst e;rw[bB rfl,bB ⟨au,c⟩]
 ·rw[bL e];by_cases c2:j<i/\cR s.aD (j:Nat)=J
  ·rw[bB c2,bB ⟨au,c2.2⟩]
  ·rw[bL c2,bL (λh=>c2 ⟨au,h.2⟩)]
def Yn{s:ay}{v:aK}{i:Nat}(c:cR s.aD (i:Nat)=O):D5 s v i=D5 s v (i+1):=by
 refine iC λj _=> ?_;by_cases e:j=i
 ·subst e;rw[bL (λh=>au),bL (λh=>by rw[c]at h;cases h.2)]
 ·by_cases c2:j<i/\cR s.aD (j:Nat)=J
  ·rw[bB c2,bB ⟨au,c2.2⟩]
  ·rw[bL c2,bL (λh=>c2 ⟨au,h.2⟩)]
def avh{n m:Nat}{s:ay}(h:eO n m s)(hn:n<=1000000)(hm:m<=1000000){x:aK}(hx:NN x):ae8 s x=V (aaz s x):=by
 have hs:=h.sl;have hl:=h.len;obtain⟨v,e1,_⟩:=cS (rnd:=NS) (zY s.aG) (λi (_:Unit)=>⟨(zY s.aG:Int),(i:Int),⟨s.ai,s.aD,D5 s x i,s.aI⟩,x,⟨[],⟨0,0,0⟩,[],⟨0,0,0⟩⟩⟩) (λi _=>True) (λi b hi _=>by
  obtain⟨i1,i2,hw⟩:=w3 hi au;refine⟨(),?_,trivial⟩;unfold NS GP;by_cases hc:cR s.aD (i:Nat)=J
  ·simp only[cG,i1,i2,hi,cK,cW,qM (.inr h.count),hc,Av,RO hi,pq (.inr (h.slots i hi)) (.inr hx),hw,PT hc]
  ·have hc:cR s.aD (i:Nat)=O:=by simpa using hc
   simp only[cD,i1,DB,qM (.inr h.count),hc,hw,Yn hc]) (λb _=>by unfold NS GP;simp) (b:=()) trivial
 rw[aez]at e1;have e1':M8 ⟨(zY s.aG:Int),0,s,x,⟨[],⟨0,0,0⟩,[],⟨0,0,0⟩⟩⟩=_:=e1;obtain⟨z,eb,_,_⟩:=pL 8 h.count (me (c:=1) ⟨by decide,by decide⟩);unfold ae8 GP;rw[tj au au];dsimp only;rw[e1'];dsimp only;rw[fD,ct,bB (by rw[zh,Av];simp;omega),sY,eb,PO];rfl
def avM{n m:Nat}{s:ay}(h:eO n m s)(hm:m<=1000000){x:aK}(hx:NN x):adx (tr s) x=V (tr (aaz s x)):=by
 have hs:=h.sl;obtain⟨v,e1,_⟩:=cS (rnd:=Lx) (zY s.aG) (λi (_:Unit)=>⟨D5 s x i,(zY s.aG:Int),(i:Int),tr s,x,⟨[],⟨0,0,0⟩,[],⟨0,0,0⟩⟩⟩) (λi _=>True) (λi b hi _=>by
  obtain⟨i1,i2,hw⟩:=w3 hi au;refine⟨(),?_,trivial⟩;unfold Lx GR;dsimp only[tr];by_cases hc:cR s.aD (i:Nat)=J
  ·simp only[cG,i1,i2,hi,cK,cW,jV (.inr h.count),hc,Av,RO hi,gA (.inr (h.slots i hi)) (.inr hx),hw,PT hc]
  ·have hc:cR s.aD (i:Nat)=O:=by simpa using hc
   simp only[cD,i1,DB,jV (.inr h.count),hc,hw,Yn hc]) (λb _=>by unfold Lx GR;simp) (b:=()) trivial
 rw[aez]at e1;have e1':MF ⟨s.aG,(zY s.aG:Int),0,tr s,x,⟨[],⟨0,0,0⟩,[],⟨0,0,0⟩⟩⟩=_:=e1;unfold adx GR;rw[show (tr s).aG=s.aG from rfl];simp only[yB];rw[gM,e1'];dsimp only;rw[fD,ct,bB (by rw[zh,Av];simp;omega),show (tr s).aD=s.aD from rfl,Mu h.count ⟨by decide,by decide⟩,PO];rfl
def ID(a b:af aK)(i:Nat):af aK:=tab (zY a) (λk=>if k<i then cF a[k]! b[k]! else a[k]!)
def aft(a b:af aK)(i:Nat):zY (ID a b i)=zY a:=gU ..
def ar6(a b:af aK):ID a b 0=a:=SQ rfl λi _=>by rw[qZ]
def acG(a b:af aK):ID a b a.length=tab (zY a) (λk=>cF a[k]! b[k]!):=iC λi hi=>by rw[bB hi]
def acd{a b:af aK}{i:Nat}(h:i<zY a):(ID a b i)[i]! =a[i]! :=by rw[ID,o5 h,qZ]
def aeA(a b:af aK)(i:Nat):(ID a b i).set i (cF a[i]! b[i]!)=ID a b (i+1):=by
 rw[ID,NT];refine iC λj _=> ?_;by_cases e:j=i
 ·subst e;rw[bB rfl,gM]
 ·rw[bL e];by_cases c:j<i
  ·rw[bB c,gM]
  ·rw[bL c,qZ]
def qw(a b:af aK)(i:Nat):af aK:=tab (max (zY a) i) (λk=>if k<i then Q6 a b k else a[k]!)
def HA(a b:af aK)(i:Nat):zY (qw a b i)=max (zY a) i:=gU ..
def au5(a b:af aK):qw a b 0=a:=SQ au λi _=>by rw[qZ]
def acw(a b:af aK):qw a b b.length=tab (max (zY a) (zY b)) (Q6 a b):=iC λi hi=>by
 by_cases c:i<zY b
 ·rw[bB c]
 ·rw[bL c];unfold Q6;rw[qZ,gM]
def abZ{a b:af aK}{i:Nat}(h:i<zY a):(qw a b i)[i]! =a[i]! :=by rw[qw,o5 au,qZ]
def ac1{a b:af aK}{i:Nat}(h:i<zY a)(k:i<zY b):(qw a b i).set i (cF a[i]! b[i]!)=qw a b (i+1):=by
 rw[qw,NT,qw,show max (zY a) i=max (zY a) (i+1)by omega];refine iC λj _=> ?_;by_cases e:j=i
 ·subst e;rw[bB rfl,gM];unfold Q6;rw[qZ,qZ]
 ·rw[bL e];by_cases c:j<i
  ·rw[bB c,gM]
  ·rw[bL c,qZ]
def abJ{a b:af aK}{i:Nat}(h:zY a<=i):qw a b i++[b[i]!]=qw a b (i+1):=by
 rw[qw,qw,show max (zY a) i=i by omega,show max (zY a) (i+1)=i+1 by omega,qQ]
 congr 1
 ·refine iC λj hj=> ?_;rw[bB hj,gM]
 ·rw[gM];unfold Q6;rw[bB h]
def abA{n m:Nat}{s t:ay}(h:eO n m s)(k:eO n m t)(hn:n<=1000000)(hm:m<=1000000):Me s t=V (l8 s t):=by
 have hs:=h.sl;have hl:=h.len;have ks:=k.sl;have kl:=k.len;obtain⟨v,e1,_⟩:=cS (rnd:=Mk) (zY s.ai) (λi (_:Unit)=>⟨(zY s.ai:Int),(i:Int),t,⟨[],⟨0,0,0⟩,[],⟨0,0,0⟩⟩,⟨ID s.ai t.ai i,s.aD,s.aG,s.aI⟩⟩) (λi _=>True) (λi b hi _=>by
  obtain⟨i1,i2,hw⟩:=w3 hi au;have i3:(i:Int)<(zY t.ai:Int):=au;refine⟨(),?_,trivial⟩;unfold Mk Gs;simp only[cG,i1,i2,i3,hi,cK,cW,aft,acd hi,pq (.inr (h.vars i au)) (.inr (k.vars i au)),hw,aeA]) (λb _=>by unfold Mk Gs;simp) (b:=()) trivial
 rw[ar6]at e1;have e1':No ⟨(zY s.ai:Int),0,t,⟨[],⟨0,0,0⟩,[],⟨0,0,0⟩⟩,s⟩=_:=e1;obtain⟨v2,e2,_⟩:=cS (rnd:=MK) (zY t.aG) (λi (_:Unit)=>⟨t.aG,(zY t.aG:Int),(i:Int),⟨[],⟨0,0,0⟩,[],⟨0,0,0⟩⟩,⟨ID s.ai t.ai (zY s.ai),cF s.aD t.aD,qw s.aG t.aG i,cF s.aI t.aI⟩⟩) (λi _=>True) (λi b hi _=>by
  obtain⟨i1,i2,hw⟩:=w3 hi au;refine⟨(),?_,trivial⟩;unfold MK Gg;by_cases c:i<zY s.aG
  ·have i3:(i:Int)<(zY (qw s.aG t.aG i):Int):=by rw[HA];omega
   have i4:i<zY (qw s.aG t.aG i):=au;simp only[cG,i1,i2,i3,i4,cK,cW,abZ c,pq (.inr (h.slots i c)) (.inr (k.slots i hi)),hw,ac1 c hi]
  ·have i3:¬(i:Int)<(zY (qw s.aG t.aG i):Int):=by rw[HA];omega
   have i4:zY (qw s.aG t.aG (i+1))<=1073741824:=by rw[HA];omega
   simp only[cG,cD,i1,i2,i3,i4,cW,hw,abJ (show zY s.aG<=i by omega)]) (λb _=>by unfold MK Gg;simp) (b:=()) trivial
 rw[au5]at e2;have e2':Lq ⟨t.aG,(zY t.aG:Int),0,⟨[],⟨0,0,0⟩,[],⟨0,0,0⟩⟩,⟨ID s.ai t.ai (zY s.ai),cF s.aD t.aD,s.aG,cF s.aI t.aI⟩⟩=_:=e2;unfold Me Gs Gg;rw[tj au au];dsimp only;rw[e1'];dsimp only;rw[fD,ct,pq (.inr h.count) (.inr k.count)];rw[pq (.inr h.time) (.inr k.time)];dsimp only;rw[e2'];dsimp only;rw[fD,ct,acG,acw];rfl
def aci{n m:Nat}{s t:ay}(h:eO n m s)(k:eO n m t)(hn:n<=1000000)(hm:m<=1000000):aaN (tr s) (tr t)=V (tr (l8 s t)):=by
 have hs:=h.sl;have hl:=h.len;have ks:=k.sl;have kl:=k.len;obtain⟨v,e1,_⟩:=cS (rnd:=Mr) (zY s.ai) (λi (_:Unit)=>⟨(zY s.ai:Int),(i:Int),tr s,tr t,⟨[],⟨0,0,0⟩,[],⟨0,0,0⟩⟩,⟨tab i (λk=>cF s.ai[k]! t.ai[k]!),cF s.aD t.aD,[],cF s.aI t.aI⟩⟩) (λi _=>True) (λi b hi _=>by
  obtain⟨i1,i2,hw⟩:=w3 hi au;have i3:(i:Int)<(zY t.ai:Int):=au;have i4:zY (tab i (λk=>cF s.ai[k]! t.ai[k]!)++[cF s.ai[i]! t.ai[i]!])<=1073741824:=by rw[zh,gU,ym];omega
  refine⟨(),?_,trivial⟩;unfold Mr Hf;dsimp only[tr];simp only[cG,i1,i2,i3,i4,cK,cW,gA (.inr (h.vars i au)) (.inr (k.vars i au)),hw,qQ]) (λb _=>by unfold Mr Hf;simp) (b:=()) trivial
 have e1':KO ⟨(zY s.ai:Int),0,tr s,tr t,⟨[],⟨0,0,0⟩,[],⟨0,0,0⟩⟩,⟨[],cF s.aD t.aD,[],cF s.aI t.aI⟩⟩=_:=e1;have emax:(if(zY s.aG:Int)<(zY t.aG:Int)then(zY t.aG:Int)else(zY s.aG:Int))=((max (zY s.aG) t.aG.length:Nat):Int):=by split<;>omega
 obtain⟨v2,e2,_⟩:=cS (rnd:=Le) (max (zY s.aG) (zY t.aG)) (λi (_:Unit)=>⟨((max (zY s.aG) t.aG.length:Nat):Int),(i:Int),tr s,tr t,⟨[],⟨0,0,0⟩,[],⟨0,0,0⟩⟩,⟨tab (zY s.ai) (λk=>cF s.ai[k]! t.ai[k]!),cF s.aD t.aD,tab i (Q6 s.aG t.aG),cF s.aI t.aI⟩⟩) (λi _=>True) (λi b hi _=>by
  obtain⟨i1,i2,hw⟩:=w3 hi au;have i4:∀x,zY (tab i (Q6 s.aG t.aG)++[x])<=1073741824:=λx=>by rw[zh,gU,ym];omega
  refine⟨(),?_,trivial⟩;rw[qQ];unfold Le Fx;dsimp only[tr];by_cases c:zY s.aG<=i
  ·have c1:(zY s.aG:Int)<=(i:Int):=au;have c2:(i:Int)<(zY t.aG:Int):=au;have eJ:Q6 s.aG t.aG i=t.aG[i]! :=by unfold Q6;rw[bB c]
   simp only[cG,i1,i2,i4,c1,c2,eJ,cK,cW,hw]
  ·by_cases d:zY t.aG<=i
   ·have c1:¬(zY s.aG:Int)<=(i:Int):=au;have c2:(zY t.aG:Int)<=(i:Int):=au;have c3:(i:Int)<(zY s.aG:Int):=au;have eJ:Q6 s.aG t.aG i=s.aG[i]! :=by unfold Q6;rw[bL c,bB d]
    simp only[cG,cD,i1,i2,i4,c1,c2,c3,eJ,cW,hw]
   ·have c1:¬(zY s.aG:Int)<=(i:Int):=au;have c2:¬(zY t.aG:Int)<=(i:Int):=au;have c3:(i:Int)<(zY s.aG:Int):=au;have c4:(i:Int)<(zY t.aG:Int):=au;have eJ:Q6 s.aG t.aG i=cF s.aG[i]! t.aG[i]! :=by unfold Q6;rw[bL c,bL d]
    simp only[cG,cD,gK,i1,i2,i4,c1,c2,c3,c4,eJ,hw,gA (.inr (h.slots i au)) (.inr (k.slots i au))]) (λb _=>by unfold Le Fx;simp) (b:=()) trivial
 have e2':K6 ⟨((max (zY s.aG) t.aG.length:Nat):Int),0,tr s,tr t,⟨[],⟨0,0,0⟩,[],⟨0,0,0⟩⟩,⟨tab (zY s.ai) (λk=>cF s.ai[k]! t.ai[k]!),cF s.aD t.aD,[],cF s.aI t.aI⟩⟩=_:=e2;unfold aaN Hf Fx;rw[show (tr s).aD=s.aD from rfl,show (tr t).aD=t.aD from rfl,show (tr s).aI=s.aI from rfl,show (tr t).aI=t.aI from rfl,show (tr s).ai=s.ai from rfl];rw[gA (.inr h.count) (.inr k.count)];rw[gA (.inr h.time) (.inr k.time)];dsimp only;rw[e1'];dsimp only;rw[fD,ct,show (tr s).aG=s.aG from rfl,show (tr t).aG=t.aG from rfl,emax,e2'];dsimp only;rw[fD,ct];rfl
def lu(body:ay->ay)(t:az)(c:Int):Nat->ay->af ay
 |0,s=>[s]
 |n+1,s=>(if cR (cI s.ai t) 0=J then[gd s c]else[])++(if cA (cI s.ai t)=J then lu body t c n (body (gd s c))else[])
def ny:af ay->ay
 |[]=>⟨[],cM,[],cM⟩
 |x::l=>l.foldl l8 x
def brA(v:aK)(a b:ay->ay)(s:ay):ay:=
 if cR v 0=O then a s else if cA v=O then b s else l8 (a s) (b s)
def DE(f:aS)(hv:af aK)(a b:ay->ay)(x:aB)(s:ay):ay:=
 if x.b9=4 then ny (lu a x.aF x.bg x.fN.toNat s)
 else if x.b9=0 then TJ f (gd s x.bg) x.dJ (cI s.ai x.aF)
 else if x.b9=1 then aaz (gd s x.bg) (cI s.ai x.aF)
 else if x.b9=5 then TJ f (gd s x.bg) x.dJ hv[x.fN.toNat]!
 else if x.b9=3 then brA (cI s.ai x.aF) a b (gd s x.bg)
 else if x.b9=6 then⟨s.ai,s.aD,s.aG,sZ (qx 8 s.aI (eC x.bg)) x.aR⟩
 else gd s x.bg
def gY(f:aS)(hv:af aK):af aB->ay->ay
 |[],s=>s
 |x::l,s=>gY f hv l (DE f hv (λs=>gY f hv x.aQ s) (λs=>gY f hv x.aX s) x s)
termination_by l=>ze l
decreasing_by
 all_goals first|exact(bw (zk ..)).1|exact(bw (zk ..)).2|exact dY _ _
def G5(f:aS)(hv:af aK)(s:ay):gY f hv [] s=s:=by rw[gY]
def BY(f:aS)(hv:af aK)(x:aB)(l:af aB)(s:ay):gY f hv (x::l) s=gY f hv l (DE f hv (gY f hv x.aQ) (gY f hv x.aX) x s):=by rw[gY]
def aar{n m:Nat}:∀{l:af ay},l≠[]->(∀q∈l,eO n m q)->eO n m (ny l)
 |[],h,_=>dS rfl h
 |x::l,_,h=>by
  have key:∀(l:af ay) (x:ay),eO n m x->(∀q∈l,eO n m q)->eO n m (l.foldl l8 x):=λl=>by
   induction l with
   |nil=>intro x hx _;exact hx
   |cons y l ih=>intro x hx hl;exact ih (l8 x y) (Gy hx (hl y (zk ..))) (λq hq=>hl q (zL _ hq))
  exact key l x (h x (zk ..)) (λq hq=>h q (zL _ hq))
def ER{vars:af bh}{a:ay->ay}{t:az}{c:Int}{o:Nat}(hc:cC c)(ht:fq vars O t=0)(ha:∀s m,eO (zY vars) m s->eO (zY vars) (m+o) (a s)):∀(N:Nat) (s:ay) (m:Nat),eO (zY vars) m s->(∀q∈lu a t c N s,eO (zY vars) (m+N*o) q)/\lu a t c N s≠[]
 |0,s,m,h=>by
  rw[lu];refine⟨λq hq=> ?_,by simp⟩;rw[zo.1 hq];exact h.weak au
 |n+1,s,m,h=>by
  rw[lu];have hz:=zero_or (iT h t ht);have h1:=nu h hc;obtain⟨i1,i2⟩:=ER hc ht ha n (a (gd s c)) (m+o) (ha _ _ h1);have e:m+o+n*o=m+(n+1)*o:=by rw[zW,yL];omega
  refine⟨λq hq=> ?_,λe=> ?_⟩
  ·rcases zP.1 hq with hq|hq
   ·split at hq
    ·rw[zo.1 hq];exact h1.weak au
    ·cases hq
   ·split at hq
    ·rw[<-e];exact i1 q hq
    ·cases hq
  ·obtain⟨e1,e2⟩:=List.append_eq_nil_iff.1 e;cases hn:cA (cI s.ai t)with
   |true=>rw[hn,bB rfl]at e2;exact i2 e2
   |false=>
    rw[hn]at hz;have hz:cR (cI s.ai t) 0=J:=by simpa using hz
    rw[hz,bB rfl]at e1;cases e1
def eF(l:af aB):Nat:=(eX l).2.1.toNat
def NP{l:af Int}(h1:1<=zY l/\zY l<=32)(h0:(0:Int)<=l[0]!)(hr:gE l=J)(h6:l[zY l-1]!<=67108864):∀b∈l,cC b:=λb hb=>by
 obtain⟨i,hi,e⟩:=List.mem_iff_getElem.1 hb;have e:l[i]! =b:=by rw[getElem!_pos l i hi];exact e
 have a1:l[0]!<=l[i]! :=by
  by_cases h:i=0
  ·subst h;exact zj _
  ·exact xU (Yb hr au hi)
 have a2:l[i]!<=l[zY l-1]! :=by
  by_cases h:i=zY l-1
  ·subst h;exact zj _
  ·exact xU (Yb hr au au)
 rw[<-e];unfold cC;omega
def sI{f:aS}{last:Bool}{x:aB}(hx:aog f last x):cC x.bg:=by
 have:=hx.cost;unfold cC;omega
def arw{n m o p:Nat}{v:aK}{a b:ay->ay}{s:ay}(h:eO n m s)(ha:∀s m,eO n m s->eO n (m+o) (a s))(hb:∀s m,eO n m s->eO n (m+p) (b s)):eO n (m+max o p) (brA v a b s):=by
 unfold brA;split
 ·exact(ha _ _ h).weak au
 split
 ·exact(hb _ _ h).weak au
 ·exact Gy ((ha _ _ h).weak au) ((hb _ _ h).weak au)
def IE{f:aS}{hv:af aK}(hh:zY hv=zY f.ax)(hvn:∀i,i<zY hv->NN hv[i]!){a b:ay->ay}{last:Bool}{x:aB}(hx:aog f last x)
  (p1:0<=(eX x.aQ).2.1) (p2:0<=(eX x.aX).2.1)
  (ha:∀s m,eO (zY f.ai) m s->eO (zY f.ai) (m+eF x.aQ) (a s)) (hb:∀s m,eO (zY f.ai) m s->eO (zY f.ai) (m+eF x.aX) (b s))
  {s:ay} {m:Nat} (h:eO (zY f.ai) m s):eO (zY f.ai) (m+(uO x).1.toNat) (DE f hv a b x s):=by
 have hc:=sI hx;have h1:=nu h hc;have hvl:=iT h x.aF hx.term;unfold DE uO;by_cases a4:x.b9=4
 ·simp only[gK,a4,Int.reduceEq];have hn:=hx.n4 a4;obtain⟨i1,i2⟩:=ER hc hx.term ha x.fN.toNat s m h;have e:(x.fN*(eX x.aQ).2.1).toNat=x.fN.toNat*eF x.aQ:=by rw[eF,Int.toNat_mul hn.1 p1]
  rw[e];exact aar i2 i1
 by_cases a0:x.b9=0
 ·simp only[gK,a0,Int.reduceEq];exact Xn h1 hvl
 by_cases a1:x.b9=1
 ·simp only[gK,a1,Int.reduceEq];exact akz h1 hvl
 by_cases a5:x.b9=5
 ·simp only[gK,a5,Int.reduceEq];obtain⟨n1,n2⟩:=hx.n5 a5;exact Xn h1 (hvn _ au)
 by_cases a3:x.b9=3
 ·simp only[gK,a3,Int.reduceEq];have:=arw (v:=cI s.ai x.aF) h1 ha hb;unfold eF at this;refine this.weak ?_;omega
 by_cases a6:x.b9=6
 ·simp only[gK,a6,Int.reduceEq];obtain⟨_,q2,q3,q4,q5⟩:=hx.aej a6;have k:=(vR (a:=qx 8 s.aI (eC x.bg)) h1.time q4 au (NP q2 q3 q4 q5)).2.2.1;exact⟨h.len,h.vars,h.count,h.sl,h.slots,k⟩
 ·simp only[a0,a1,a3,a4,a5,a6,IY];exact h1
def B9{f:aS}{top:Bool}{x:aB}{l:af aB}(h:b8 f top (x::l)=0):eF (x::l)=(uO x).1.toNat+eF l:=by
 obtain⟨h1,h2,h3,h4⟩:=iX h;have ho:=tL h1;have p1:=(iV f _ _ _ (zC _) h2).1;have p2:=(iV f _ _ _ (zC _) h3).1;have p3:=(iV f _ _ _ (zC _) h4).1;have e1:0<=(uO x).1:=by
  unfold uO;by_cases a1:x.b9=1
  ·rw[bB a1];show (0:Int)<=1;decide
  by_cases a3:x.b9=3
  ·rw[bL a1,bB a3];dsimp only;omega
  by_cases a4:x.b9=4
  ·rw[bL a1,bL a3,bB a4];exact zJ (ho.n4 a4).1 p1
  ·rw[bL a1,bL a3,bL a4];exact zj _
 unfold eF;rw[(ahg x l).1];omega
def iE{f:aS}{hv:af aK}(hh:zY hv=zY f.ax)(hvn:∀i,i<zY hv->NN hv[i]!):∀(n:Nat) (l:af aB) (top:Bool),ze l<n->b8 f top l=0->∀(s:ay) (m:Nat),eO (zY f.ai) m s->eO (zY f.ai) (m+eF l) (gY f hv l s)
 |0,_,_,h,_,_,_,_=>au
 |n+1,[],_,_,_,s,m,h=>by rw[G5];exact h.weak au
 |n+1,x::l,top,hn,hc,s,m,h=>by
  obtain⟨h1,h2,h3,h4⟩:=iX hc;have ho:=tL h1;have hsz:=bw (zk (a:=x) (l:=l));have ht:=dY x l;have p1:=(iV f n x.aQ O au h2).1;have p2:=(iV f n x.aX O au h3).1;rw[BY,B9 hc];have i1:=IE hh hvn ho p1 p2 (iE hh hvn n x.aQ O au h2) (iE hh hvn n x.aX O au h3) h;exact(iE hh hvn n l top au h4 _ _ i1).weak au
def G9{α:Type}[Inhabited α](g:α->α->α)(l:af α)(x:α){i:Nat}(h:i<zY l):(l.take (i+1)).foldl g x=g ((l.take i).foldl g x) l[i]! :=by
 rw[List.take_add_one,List.foldl_append,zm h,getElem!_pos l i h];rfl
def GN{n m:Nat}:∀(l:af ay) (x:ay),eO n m x->(∀q∈l,eO n m q)->eO n m (l.foldl l8 x)
 |[],x,hx,_=>hx
 |y::l,x,hx,hl=>GN l (l8 x y) (Gy hx (hl y (zk ..))) (λq hq=>hl q (zL _ hq))
def abK(M83:Runner->(af aB)->ay->aa tv)(M156:Runner->aB->ay->aa iM)(M160:Runner->aB->ay->aa iK){n m:Nat}(hn:n<=1000000)(hm:m<=1000000){l:af ay}{x:ay}(hl:zY l<=1000000)(hx:eO n m x)(hq:∀q∈l,eO n m q)(c t:aK):
  ri M83 M156 M160 ⟨l,(zY l:Int),0,⟨[],c,[],t⟩,x⟩=V ⟨l,(zY l:Int),(zY l:Int),⟨[],c,[],t⟩,l.foldl l8 x⟩:=by
 obtain⟨v,e1,_⟩:=cS (rnd:=MM M83 M156 M160) (zY l) (λi (_:Unit)=>⟨l,(zY l:Int),(i:Int),⟨[],c,[],t⟩,(l.take i).foldl l8 x⟩) (λi _=>True) (λi b hi _=>by
  obtain⟨i1,i2,hw⟩:=w3 hi hl;have e:=abA (GN (l.take i) x hx (λq k=>hq q (wJ k))) (hq _ (bf hi)) hn hm;refine⟨(),?_,trivial⟩;unfold MM;dsimp only;simp only[cG,i1,i2,cK,cW,e,hw,G9 l8 l x hi]) (λb _=>by unfold MM;simp) (b:=()) trivial
 rw[zy]at e1;exact e1
def YB(M83:Runner->(af aB)->ay->aa tv)(M156:Runner->aB->ay->aa iM)(M160:Runner->aB->ay->aa iK){n m:Nat}(hn:n<=1000000)(hm:m<=1000000){L:af ay}(h0:L≠[])(hl:zY L<=1000000)(hq:∀q∈L,eO n m q)(c t:aK):
  1<=zY L/\ri M83 M156 M160 (nD.mk (ya 1 L) (zY (ya 1 L):Int) (0) (ay.mk [] c [] t) L[0]!)=V (nD.mk (ya 1 L) (zY (ya 1 L):Int) (zY (ya 1 L):Int) (ay.mk [] c [] t) (ny L)):=by
 cases L with
 |nil=>exact dS rfl h0
 |cons x l=>
  have hx:=hq x (zk ..);have hq2:∀q∈l,eO n m q:=λq k=>hq q (zL _ k);exact⟨by simp,abK M83 M156 M160 hn hm (l:=l) (x:=x) (by simp at hl;omega) hx hq2 c t⟩
def HD(a:ay->ay)(t:az)(c:Int):∀(N:Nat) (s:ay),zY (lu a t c N s)<=N+1
 |0,s=>by rw[lu];simp
 |n+1,s=>by
  rw[lu,zh];have:=HD a t c n (a (gd s c));split<;>split<;>simp<;>omega
def awr(M83:Runner->(af aB)->ay->aa tv)(M156:Runner->aB->ay->aa iM)(M160:Runner->aB->ay->aa iK){r:Runner}(hn:zY r.fF.ai<=1000000){a:ay->ay}{o:Nat}{x:aB}(hN:0<=x.fN/\x.fN<=4096)(hc:cC x.bg)(ht:fq r.fF.ai O x.aF=0)
  (ha:∀s m,eO (zY r.fF.ai) m s->eO (zY r.fF.ai) (m+o) (a s)) {s:ay} {m:Nat} (h:eO (zY r.fF.ai) m s) (hm:m+x.fN.toNat*o<=1000000)
  (h1:∀s m,eO (zY r.fF.ai) m s->m+o<=1000000->M83 r x.aQ s=V (a s)):
  akM M83 M156 M160 r x s=V (ny (lu a x.aF x.bg x.fN.toNat s)):=by
 obtain⟨okAll,neAll⟩:=ER hc ht ha x.fN.toNat s m h;have lenAll:=HD a x.aF x.bg x.fN.toNat s;obtain⟨i,v,e1,⟨hi,hV1,hV2,hV3,hV4⟩,hcc⟩:=jq (rnd:=CY M83 M156 M160) x.fN.toNat (λi (b:af ay×ay×ay)=>⟨b.1,J,x.fN,(i:Int),r,x,b.2.1,⟨[],b.2.2.aD,[],b.2.2.aI⟩⟩)
  (λi b=>i<=x.fN.toNat/\eO (zY r.fF.ai) (m+i*o) b.2.1/\zY b.1<=i/\b.1++lu a x.aF x.bg (x.fN.toNat-i) b.2.1=lu a x.aF x.bg x.fN.toNat s/\True) (λi b=>cA (cI b.2.1.ai x.aF)=O) (λi b hi hb=>by
  obtain⟨L,b,z⟩:=b;obtain⟨_,hb,hL,hr,_⟩:=hb;dsimp only at hb hr hL;obtain⟨k,hk⟩:∃k,x.fN.toNat-i=k+1:=⟨x.fN.toNat-i-1,au⟩;have hk2:x.fN.toNat-(i+1)=k:=au;rw[hk,lu]at hr;have hio:i*o+o<=x.fN.toNat*o:=by
   have:=yh o (show i+1<=x.fN.toNat by omega);rw[zW,yL]at this;exact this
  have hw:ak ((i:Int)+1)=((i+1:Nat):Int):=by rw[aL];omega
  have i1:(i:Int)<x.fN:=au;have hA:=nu hb hc;have ea:=TD hb hc;have hsl:=hA.sl;have hln:=hA.len;have hnn:=iT hA x.aF ht;have ev:Wp (gd b x.bg) x.aF=V (cI b.ai x.aF):=Pf hA ht;have et:=E9 (a:=cI b.ai x.aF) (.inr hnn);have hz:(cA (cI b.ai x.aF)||cR (cI b.ai x.aF) 0)=J:=zero_or hnn;have e:=h1 _ _ hA au;have ec:=tj (s:=gd b x.bg) au au;have el:zY (L++[gd b x.bg])<=1073741824:=by rw[zh,ym];omega
  by_cases hno:cA (cI b.ai x.aF)=J
  ·rw[bB hno]at hr;refine .inl ?_;have hnext:eO (zY r.fF.ai) (m+(i+1)*o) (a (gd b x.bg)):=by
    have:=ha _ _ hA;rw[zW,yL];exact this.weak au
   by_cases hh:cR (cI b.ai x.aF) 0=J
   ·rw[bB hh]at hr;refine⟨(L++[gd b x.bg],a (gd b x.bg),z),?_,au,hnext,by rw[zh,ym];omega,by rw[hk2,yS];exact hr,trivial⟩;unfold CY;simp only[cD,i1,DB,az.eta,ea,ev,et,ec,el,hh,hno,cW,e,aB.eta,hw]
   ·rw[bL hh,yB]at hr;have hh:cR (cI b.ai x.aF) 0=O:=by simpa using hh
    refine⟨(L,a (gd b x.bg),z),?_,au,hnext,Nat.le_succ_of_le hL,by rw[hk2];exact hr,trivial⟩;unfold CY;simp only[cD,i1,DB,az.eta,ea,ev,et,hh,hno,e,aB.eta,hw]
  ·have hno:cA (cI b.ai x.aF)=O:=by simpa using hno
   refine .inr ⟨?_,hno⟩;have hh:cR (cI b.ai x.aF) 0=J:=by rw[hno]at hz;simpa using hz
   unfold CY;simp only[cD,i1,DB,az.eta,ea,ev,et,ec,el,hh,hno,cW]) (λb _=>by
   unfold CY;dsimp only;rw[fD];rfl) (b:=([],s,⟨[],⟨0,0,0⟩,[],⟨0,0,0⟩⟩)) ⟨au,h.weak au,by simp,rfl,trivial⟩
 obtain⟨L,b,z⟩:=v;dsimp only at hV1 hV2 hV3 hcc;have e1':KZ M83 M156 M160 ⟨[],J,x.fN,0,r,x,s,⟨[],⟨0,0,0⟩,[],⟨0,0,0⟩⟩⟩=V ⟨L,J,x.fN,(i:Int),r,x,b,⟨[],z.aD,[],z.aI⟩⟩:=e1;unfold akM;rw[az.eta,aB.eta,e1'];rcases hcc with rfl|⟨hi2,hno⟩
 ·rw[xT,lu]at hV3;dsimp only;rw[fD,ct];simp only[cK];rw[bB (by rw[zh,ym];omega),hV3];obtain⟨j1,j2⟩:=YB M83 M156 M160 hn hm neAll au okAll z.aD z.aI;rw[gM,bB (by first|exact⟨rfl,j1⟩|exact⟨trivial,j1⟩),gM,j2];dsimp only;rw[fD,ct]
 ·obtain⟨k,hk⟩:∃k,x.fN.toNat-i=k+1:=⟨x.fN.toNat-i-1,au⟩;rw[hk,lu]at hV3;have hA:=nu hV1 hc;have ea:=TD hV1 hc;have hio:i*o<=x.fN.toNat*o:=yh o hi;have hsl:=hA.sl;have hln:=hA.len;have hnn:=iT hA x.aF ht;have ev:Wp (gd b x.bg) x.aF=V (cI b.ai x.aF):=Pf hA ht;have et:=E9 (a:=cI b.ai x.aF) (.inr hnn);have hz:(cA (cI b.ai x.aF)||cR (cI b.ai x.aF) 0)=J:=zero_or hnn;have ec:=tj (s:=gd b x.bg) au au;have hh:cR (cI b.ai x.aF) 0=J:=by rw[hno]at hz;simpa using hz
  rw[hh,hno,bB rfl,bL (by decide),yu]at hV3;dsimp only;rw[oV,cK,ea];dsimp only;rw[az.eta,ev];dsimp only;rw[et];dsimp only;rw[hh,hno,cK,ec];dsimp only;rw[bB (by rw[zh,ym];omega),hV3];obtain⟨j1,j2⟩:=YB M83 M156 M160 hn hm neAll au okAll z.aD z.aI;rw[gM,bB (by first|exact⟨rfl,j1⟩|exact⟨trivial,j1⟩),gM,j2];dsimp only;rw[fD,ct];rfl
def auN{l:af ay}{i:Nat}(h:i<zY l):(l.map tr)[i]! =tr l[i]! :=by
 rw[getElem!_pos _ i (by simpa using h),getElem!_pos l i h,yM]
def agd{n m:Nat}(hn:n<=1000000)(hm:m<=1000000){l:af ay}{x:ay}(hl:zY l<=1000000)(hx:eO n m x)(hq:∀q∈l,eO n m q)(c t:aK):
  Mz ⟨l.map tr,(zY l:Int),0,⟨[],c,[],t⟩,tr x⟩=V ⟨l.map tr,(zY l:Int),(zY l:Int),⟨[],c,[],t⟩,tr (l.foldl l8 x)⟩:=by
 obtain⟨v,e1,_⟩:=cS (rnd:=Nk) (zY l) (λi (_:Unit)=>⟨l.map tr,(zY l:Int),(i:Int),⟨[],c,[],t⟩,tr ((l.take i).foldl l8 x)⟩) (λi _=>True) (λi b hi _=>by
  obtain⟨i1,i2,hw⟩:=w3 hi hl;have e:=aci (GN (l.take i) x hx (λq k=>hq q (wJ k))) (hq _ (bf hi)) hn hm;refine⟨(),?_,trivial⟩;unfold Nk G1;dsimp only;simp only[cG,zB,i1,i2,cK,cW,auN hi,e,hw,G9 l8 l x hi]) (λb _=>by unfold Nk G1;simp) (b:=()) trivial
 rw[zy]at e1;exact e1
def UK{n m:Nat}(hn:n<=1000000)(hm:m<=1000000){L:af ay}(h0:L≠[])(hl:zY L<=1000000)(hq:∀q∈L,eO n m q):RA (L.map tr)=V (tr (ny L)):=by
 cases L with
 |nil=>exact dS rfl h0
 |cons x l=>
  have hx:=hq x (zk ..);have hq2:∀q∈l,eO n m q:=λq k=>hq q (zL _ k);have e:=agd hn hm (l:=l) (x:=x) (by simp at hl;omega) hx hq2 ⟨0,0,0⟩ ⟨0,0,0⟩;unfold RA G1;rw[bB (by simp<;>omega),bB (by simp<;>omega)];rw[yf,show ya 1 (tr x::l.map tr)=l.map tr from rfl,show (tr x::l.map tr)[0]! =tr x from rfl,zB,e];dsimp only;rw[fD,ct];rfl
def arT(M88:aS->(af aK)->(af aB)->aJ->aa Ez)(M167:aS->(af aK)->aB->aJ->aa mT){f:aS}{hv:af aK}(hn:zY f.ai<=1000000){a:ay->ay}{o:Nat}{x:aB}(hN:0<=x.fN/\x.fN<=4096)(hc:cC x.bg)(ht:fq f.ai O x.aF=0)
  (ha:∀s m,eO (zY f.ai) m s->eO (zY f.ai) (m+o) (a s)) {s:ay} {m:Nat} (h:eO (zY f.ai) m s) (hm:m+x.fN.toNat*o<=1000000)
  (h1:∀s m,eO (zY f.ai) m s->m+o<=1000000->M88 f hv x.aQ (tr s)=V (tr (a s))):
  akT M88 M167 f hv x (tr s)=V (tr (ny (lu a x.aF x.bg x.fN.toNat s))):=by
 obtain⟨okAll,neAll⟩:=ER hc ht ha x.fN.toNat s m h;have lenAll:=HD a x.aF x.bg x.fN.toNat s;obtain⟨i,v,e1,⟨hi,hV1,hV2,hV3,hV4⟩,hcc⟩:=jq (rnd:=CA M88 M167) x.fN.toNat (λi (b:af ay×ay×aJ)=>⟨hv,b.1.map tr,x.fN,(i:Int),f,x,tr b.2.1,⟨[],b.2.2.aD,[],b.2.2.aI⟩⟩)
  (λi b=>i<=x.fN.toNat/\eO (zY f.ai) (m+i*o) b.2.1/\zY b.1<=i/\b.1++lu a x.aF x.bg (x.fN.toNat-i) b.2.1=lu a x.aF x.bg x.fN.toNat s/\True) (λi b=>cA (cI b.2.1.ai x.aF)=O) (λi b hi hb=>by
  obtain⟨L,b,z⟩:=b;obtain⟨_,hb,hL,hr,_⟩:=hb;dsimp only at hb hr hL;obtain⟨k,hk⟩:∃k,x.fN.toNat-i=k+1:=⟨x.fN.toNat-i-1,au⟩;have hk2:x.fN.toNat-(i+1)=k:=au;rw[hk,lu]at hr;have hio:i*o+o<=x.fN.toNat*o:=by
   have:=yh o (show i+1<=x.fN.toNat by omega);rw[zW,yL]at this;exact this
  have hw:ak ((i:Int)+1)=((i+1:Nat):Int):=by rw[aL];omega
  have i1:(i:Int)<x.fN:=au;have hA:=nu hb hc;have ea:Ft b.aI x.bg=V (qx 8 b.aI (eC x.bg)):=Mu hb.time hc;have hnn:=iT hA x.aF ht;have ev:Ue (tr (gd b x.bg)) x.aF=V (cI b.ai x.aF):=Wo hA x.aF ht;have et:=pn (a:=cI b.ai x.aF) (.inr hnn);have hz:(cA (cI b.ai x.aF)||cR (cI b.ai x.aF) 0)=J:=zero_or hnn;have e:=h1 _ _ hA au;have etr:(aJ.mk b.ai b.aD b.aG (qx 8 b.aI (eC x.bg)))=tr (gd b x.bg):=rfl;have el:zY (L.map tr++[tr (gd b x.bg)])<=1073741824:=by rw[zh,ym,zB];omega
  by_cases hno:cA (cI b.ai x.aF)=J
  ·rw[bB hno]at hr;refine .inl ?_;have hnext:eO (zY f.ai) (m+(i+1)*o) (a (gd b x.bg)):=by
    have:=ha _ _ hA;rw[zW,yL];exact this.weak au
   by_cases hh:cR (cI b.ai x.aF) 0=J
   ·rw[bB hh]at hr;refine⟨(L++[gd b x.bg],a (gd b x.bg),z),?_,au,hnext,by rw[zh,ym];omega,by rw[hk2,yS];exact hr,trivial⟩;unfold CA;simp only[cD,show (tr b).ai=b.ai from rfl,show (tr b).aD=b.aD from rfl,show (tr b).aG=b.aG from rfl,show (tr b).aI=b.aI from rfl,i1,DB,az.eta,ea,etr,ev,et,el,hh,hno,cW,e,aB.eta,hw,zO,yf,yT]
   ·rw[bL hh,yB]at hr;have hh:cR (cI b.ai x.aF) 0=O:=by simpa using hh
    refine⟨(L,a (gd b x.bg),z),?_,au,hnext,Nat.le_succ_of_le hL,by rw[hk2];exact hr,trivial⟩;unfold CA;simp only[cD,show (tr b).ai=b.ai from rfl,show (tr b).aD=b.aD from rfl,show (tr b).aG=b.aG from rfl,show (tr b).aI=b.aI from rfl,i1,DB,az.eta,ea,etr,ev,et,hh,hno,e,aB.eta,hw]
  ·have hno:cA (cI b.ai x.aF)=O:=by simpa using hno
   refine .inr ⟨?_,hno⟩;have hh:cR (cI b.ai x.aF) 0=J:=by rw[hno]at hz;simpa using hz
   rw[hh,hno,bB rfl,bL (by decide),yu]at hr;have em:L.map tr++[tr (gd b x.bg)]=(L++[gd b x.bg]).map tr:=by rw[zO];rfl
   have afJ:=UK hn hm neAll au okAll;rw[<-hr,<-em]at afJ;unfold CA;simp only[cD,show (tr b).ai=b.ai from rfl,show (tr b).aD=b.aD from rfl,show (tr b).aG=b.aG from rfl,show (tr b).aI=b.aI from rfl,i1,DB,az.eta,ea,etr,ev,et,el,hh,hno,cW,afJ]) (λb _=>by
   unfold CA;dsimp only;rw[fD];rfl) (b:=([],s,⟨[],⟨0,0,0⟩,[],⟨0,0,0⟩⟩)) ⟨au,h.weak au,by simp,rfl,trivial⟩
 obtain⟨L,b,z⟩:=v;dsimp only at hV1 hV2 hV3 hcc;have e1':MB M88 M167 ⟨hv,[],x.fN,0,f,x,tr s,⟨[],⟨0,0,0⟩,[],⟨0,0,0⟩⟩⟩=V ⟨hv,L.map tr,x.fN,(i:Int),f,x,tr b,⟨[],z.aD,[],z.aI⟩⟩:=e1;unfold akT;rw[az.eta,aB.eta,e1'];rcases hcc with rfl|⟨hi2,hno⟩
 ·rw[xT,lu]at hV3;dsimp only;rw[fD,ct];have em:L.map tr++[tr b]=(L++[b]).map tr:=by rw[zO];rfl
  rw[bB (by rw[zh,ym,zB];omega),em,hV3,UK hn hm neAll au okAll]
 ·obtain⟨k,hk⟩:∃k,x.fN.toNat-i=k+1:=⟨x.fN.toNat-i-1,au⟩;rw[hk,lu]at hV3;have hA:=nu hV1 hc;have ea:Ft (tr b).aI x.bg=V (qx 8 b.aI (eC x.bg)):=Mu hV1.time hc;have hio:i*o<=x.fN.toNat*o:=yh o hi;have hnn:=iT hA x.aF ht;have ev:Ue (tr (gd b x.bg)) x.aF=V (cI b.ai x.aF):=Wo hA x.aF ht;have et:=pn (a:=cI b.ai x.aF) (.inr hnn);have hz:(cA (cI b.ai x.aF)||cR (cI b.ai x.aF) 0)=J:=zero_or hnn;have hh:cR (cI b.ai x.aF) 0=J:=by rw[hno]at hz;simpa using hz
  have etr:(aJ.mk (tr b).ai (tr b).aD (tr b).aG (qx 8 b.aI (eC x.bg)))=tr (gd b x.bg):=rfl;rw[hh,hno,bB rfl,bL (by decide),yu]at hV3;have em:L.map tr++[tr (gd b x.bg)]=(L++[gd b x.bg]).map tr:=by rw[zO];rfl
  dsimp only;rw[oV,cK,ea];dsimp only;rw[az.eta,etr,ev];dsimp only;rw[et];dsimp only;rw[hh,hno,cK,bB (by rw[zh,ym,zB];omega),em,hV3,UK hn hm neAll au okAll];rfl
def au0(M83:Runner->(af aB)->ay->aa tv)(M156:Runner->aB->ay->aa iM)(M160:Runner->aB->ay->aa iK){r:Runner}(hn:zY r.fF.ai<=1000000){a b:ay->ay}{o p:Nat}{x:aB}{s:ay}{m:Nat}(h:eO (zY r.fF.ai) m s)(hc:fq r.fF.ai O x.aF=0)(hm:m+max o p<=1000000)
  (ha:∀s m,eO (zY r.fF.ai) m s->eO (zY r.fF.ai) (m+o) (a s)) (hb:∀s m,eO (zY r.fF.ai) m s->eO (zY r.fF.ai) (m+p) (b s))
  (h1:M83 r x.aQ s=V (a s)) (h2:M83 r x.aX s=V (b s)):
  ai6 M83 M156 M160 r x s=V (brA (cI s.ai x.aF) a b s):=by
 have hsl:=h.sl;have hln:=h.len;unfold ai6 brA;rw[az.eta,Pf h hc];dsimp only;rw[E9 (.inr (iT h x.aF hc))];have ec:=tj (s:=s) au au;have ej:=abA ((ha _ _ h).weak (show m+o<=m+max o p by omega)) ((hb _ _ h).weak (show m+p<=m+max o p by omega)) hn hm;dsimp only;cases cR (cI s.ai x.aF) 0 with
 |false=>simp only[cD,h1,cW]
 |true=>
  cases cA (cI s.ai x.aF)with
  |false=>simp only[cD,gK,h2,Bool.true_eq_false]
  |true=>simp only[cD,h1,h2,ec,ej,IY,Bool.true_eq_false]
def ayE(M83:Runner->(af aB)->ay->aa tv)(M156:Runner->aB->ay->aa iM)(M160:Runner->aB->ay->aa iK){r:Runner}(hn:zY r.fF.ai<=1000000)(hh:zY r.ax=zY r.fF.ax)(hvn:∀i,i<zY r.ax->NN r.ax[i]!)
  {top:Bool} {l:af aB} (hl:zY l<=1000000) (hc:b8 r.fF top l=0) {s:ay} {m:Nat} (h:eO (zY r.fF.ai) m s) (hm:m+eF l<=1000000)
  (h1:∀x∈l,∀s m,x.b9=3->eO (zY r.fF.ai) m s->m+max (eF x.aQ) (eF x.aX)<=1000000->M160 r x s=V (brA (cI s.ai x.aF) (gY r.fF r.ax x.aQ) (gY r.fF r.ax x.aX) s))
  (h3:∀x∈l,∀s m,x.b9=4->eO (zY r.fF.ai) m s->m+x.fN.toNat*eF x.aQ<=1000000->M156 r x s=V (ny (lu (gY r.fF r.ax x.aQ) x.aF x.bg x.fN.toNat s))):
  s83 M83 M156 M160 r l s=V (gY r.fF r.ax l s):=by
 obtain⟨v,e1,hV⟩:=cS (rnd:=VN M83 M156 M160) (zY l) (λi (b:ay×ay)=>⟨l,(zY l:Int),(i:Int),r,b.1,⟨[],b.2.aD,[],b.2.aI⟩⟩)
  (λi b=>(∃k,eO (zY r.fF.ai) k b.1/\k+eF (l.drop i)<=1000000)/\b8 r.fF top (l.drop i)=0/\gY r.fF r.ax (l.drop i) b.1=gY r.fF r.ax l s) (λi b hi hb=>by
  obtain⟨b,z⟩:=b;obtain⟨⟨k,hb,hk⟩,hst,hr⟩:=hb;dsimp only at hb hr;rw[drop_cons hi]at hk hst hr;rw[BY]at hr;have hmem:=bf hi;generalize hx:l[i]! =x at*;obtain⟨g1,g2,g3,g4⟩:=iX hst;have ho:=tL g1;have p1:=(iV r.fF _ _ _ (zC _) g2).1;have p2:=(iV r.fF _ _ _ (zC _) g3).1;have aT:=iE hh hvn _ x.aQ O (zC _) g2;have aE:=iE hh hvn _ x.aX O (zC _) g3;rw[B9 hst]at hk;have hnext:=IE hh hvn ho p1 p2 aT aE hb;refine⟨(DE r.fF r.ax (gY r.fF r.ax x.aQ) (gY r.fF r.ax x.aX) x b,z),?_,⟨_,hnext,au⟩,g4,hr⟩;obtain⟨i1,i2,hw⟩:=w3 hi hl;have hcost:=sI ho;unfold VN;dsimp only;simp only[cG,i1,i2,hx,cK,cW,aB.eta,az.eta,hw];unfold DE;by_cases d4:x.b9=4
  ·have hN:=ho.n4 d4;have eu:(uO x).1.toNat=x.fN.toNat*eF x.aQ:=by
    unfold uO;simp only[gK,d4,Int.reduceEq];rw[eF,Int.toNat_mul hN.1 p1]
   have e:=h3 x hmem b k d4 hb au;simp only[d4,Int.reduceEq,DB,cK,cW,e]
  have ea:=TD hb hcost;have hA:=nu hb hcost;have ev:Wp (gd b x.bg) x.aF=V (cI b.ai x.aF):=Pf hA ho.term;have hnn:NN (cI b.ai x.aF):=iT hb x.aF ho.term;simp only[d4,Ej,ct,ea,IY];by_cases d0:x.b9=0
  ·obtain⟨v1,v2⟩:=ho.var (.inl d0);simp only[cG,cD,gK,d0,Int.reduceEq,ev,aby hA hn au v1 v2 hnn]
  by_cases d1:x.b9=1
  ·have e:=avh hA hn au hnn;simp only[cG,cD,gK,d1,Int.reduceEq,ev,e]
  by_cases d5:x.b9=5
  ·obtain⟨v1,v2⟩:=ho.var (.inr d5);obtain⟨n1,n2⟩:=ho.n5 d5;have hlt:x.fN.toNat<zY r.ax:=au;have e:=aby hA hn au v1 v2 (hvn _ hlt);simp only[cG,cD,gK,d5,Int.reduceEq];rw[gM,e]
  by_cases d3:x.b9=3
  ·have eu:(uO x).1.toNat=max (eF x.aQ) (eF x.aX):=by
    unfold uO eF;simp only[gK,d3,Int.reduceEq];omega
   have e:=h1 x hmem (gd b x.bg) k d3 hA au;simp only[cG,cD,gK,d3,Int.reduceEq,e];rfl
  by_cases d6:x.b9=6
  ·obtain⟨_,q2,q3,q4,q5⟩:=ho.aej d6;have e:=(vR (a:=qx 8 b.aI (eC x.bg)) hA.time q4 au (NP q2 q3 q4 q5)).1;have e:OD (gd b x.bg).aI x.aR=_:=e;simp only[cG,cD,gK,d6,Int.reduceEq];rw[e];rfl
  ·simp only[d0,d1,d3,d5,d6,Ej,ct,IY]) (λb _=>by unfold VN;simp) (b:=(s,⟨[],⟨0,0,0⟩,[],⟨0,0,0⟩⟩)) ⟨⟨m,h,by rw[xI];exact hm⟩,by rw[xI];exact hc,by rw[xI]⟩
 obtain⟨b,z⟩:=v;have e1':XZ M83 M156 M160 ⟨l,(zY l:Int),0,r,s,⟨[],⟨0,0,0⟩,[],⟨0,0,0⟩⟩⟩=V ⟨l,(zY l:Int),(zY l:Int),r,b,⟨[],z.aD,[],z.aI⟩⟩:=e1;have hr:=hV.2.2;dsimp only at hr;rw[wP,G5]at hr;unfold s83;rw[e1',<-hr];dsimp only;rw[fD,ct]
def lV{f:aS}{x:aB}:∀{top:Bool} {l:af aB},b8 f top l=0->x∈l->b8 f O x.aQ=0/\b8 f O x.aX=0
 |_,[],_,h=>by cases h
 |top,y::l,hc,h=>by
  obtain⟨h1,h2,h3,h4⟩:=iX hc;rcases zx.1 h with rfl|h
  ·exact⟨h2,h3⟩
  ·exact lV h4 h
def aov{r:Runner}(hn:zY r.fF.ai<=1000000)(hh:zY r.ax=zY r.fF.ax)(hvn:∀i,i<zY r.ax->NN r.ax[i]!):∀n:Nat,
  (∀(top:Bool) (l:af aB) (s:ay) (m:Nat),2*ze l<n->fK l<=1000000->b8 r.fF top l=0->eO (zY r.fF.ai) m s->m+eF l<=1000000->Zo n r l s=V (gY r.fF r.ax l s))/\
  (∀(x:aB) (s:ay) (m:Nat),2*ze x.aQ+1<n->fK x.aQ<=1000000->(0<=x.fN/\x.fN<=4096)->cC x.bg->fq r.fF.ai O x.aF=0->b8 r.fF O x.aQ=0->eO (zY r.fF.ai) m s->m+x.fN.toNat*eF x.aQ<=1000000->Fq n r x s=V (ny (lu (gY r.fF r.ax x.aQ) x.aF x.bg x.fN.toNat s)))/\
  (∀(x:aB) (s:ay) (m:Nat),2*ze x.aQ+1<n->2*ze x.aX+1<n->fK x.aQ<=1000000->fK x.aX<=1000000->fq r.fF.ai O x.aF=0->b8 r.fF O x.aQ=0->b8 r.fF O x.aX=0->eO (zY r.fF.ai) m s->m+max (eF x.aQ) (eF x.aX)<=1000000->GD n r x s=V (brA (cI s.ai x.aF) (gY r.fF r.ax x.aQ) (gY r.fF r.ax x.aX) s))
 |0=>⟨λ_ _ _ _ h=>au,λ_ _ _ h=>au,λ_ _ _ h=>au⟩
 |n+1=>by
  obtain⟨i1,i2,i3⟩:=aov hn hh hvn n;refine⟨λtop l s m h hN hc hs hm=> ?_,λx s m h hN hx hc ht hst hs hm=> ?_,λx s m h h' hN hN' ht hst hst' hs hm=> ?_⟩
  ·refine ayE (Zo n) (Fq n) (GD n) hn hh hvn (zG (kr l) hN) hc hs hm (λx hx s m h3 hs hm=> ?_) (λx hx s m h4 hs hm=> ?_)
   ·have:=bw hx;have:=Aj hx;obtain⟨_,k⟩:=Ar hc hx;obtain⟨k1,k2⟩:=lV hc hx;exact i3 x s m au au au au k.term k1 k2 hs hm
   ·have:=(bw hx).1;obtain⟨_,k⟩:=Ar hc hx;obtain⟨k1,k2⟩:=lV hc hx;exact i2 x s m au (zG (Aj hx).1 hN) (k.n4 h4) (sI k) k.term k1 hs hm
  ·refine awr (Zo n) (Fq n) (GD n) hn hx hc ht (iE hh hvn _ x.aQ O (zC _) hst) hs hm (λs m hs hm=>i1 O x.aQ s m au hN hst hs hm)
  ·exact au0 (Zo n) (Fq n) (GD n) hn hs ht hm (iE hh hvn _ x.aQ O (zC _) hst) (iE hh hvn _ x.aX O (zC _) hst') (i1 O x.aQ s m au hN hst hs au) (i1 O x.aX s m au hN' hst' hs au)
def aBx(M88:aS->(af aK)->(af aB)->aJ->aa Ez)(M167:aS->(af aK)->aB->aJ->aa mT){f:aS}{hv:af aK}(hn:zY f.ai<=1000000)(hh:zY hv=zY f.ax)(hvn:∀i,i<zY hv->NN hv[i]!)
  {top:Bool} {l:af aB} (hl:zY l<=1000000) (hc:b8 f top l=0) {s:ay} {m:Nat} (h:eO (zY f.ai) m s) (hm:m+eF l<=1000000)
  (h1:∀x∈l,∀s m,eO (zY f.ai) m s->m+eF x.aQ<=1000000->M88 f hv x.aQ (tr s)=V (tr (gY f hv x.aQ s)))
  (h2:∀x∈l,∀s m,eO (zY f.ai) m s->m+eF x.aX<=1000000->M88 f hv x.aX (tr s)=V (tr (gY f hv x.aX s)))
  (h3:∀x∈l,∀s m,x.b9=4->eO (zY f.ai) m s->m+x.fN.toNat*eF x.aQ<=1000000->M167 f hv x (tr s)=V (tr (ny (lu (gY f hv x.aQ) x.aF x.bg x.fN.toNat s)))):
  s88 M88 M167 f hv l (tr s)=V (tr (gY f hv l s)):=by
 obtain⟨v,e1,hV⟩:=cS (rnd:=Wm M88 M167) (zY l) (λi (b:ay×aJ)=>⟨hv,l,(zY l:Int),(i:Int),f,tr b.1,⟨[],b.2.aD,[],b.2.aI⟩⟩)
  (λi b=>(∃k,eO (zY f.ai) k b.1/\k+eF (l.drop i)<=1000000)/\b8 f top (l.drop i)=0/\gY f hv (l.drop i) b.1=gY f hv l s) (λi b hi hb=>by
  obtain⟨b,z⟩:=b;obtain⟨⟨k,hb,hk⟩,hst,hr⟩:=hb;dsimp only at hb hr;rw[drop_cons hi]at hk hst hr;rw[BY]at hr;have hmem:=bf hi;generalize hx:l[i]! =x at*;obtain⟨g1,g2,g3,g4⟩:=iX hst;have ho:=tL g1;have p1:=(iV f _ _ _ (zC _) g2).1;have p2:=(iV f _ _ _ (zC _) g3).1;have aT:=iE hh hvn _ x.aQ O (zC _) g2;have aE:=iE hh hvn _ x.aX O (zC _) g3;rw[B9 hst]at hk;have hnext:=IE hh hvn ho p1 p2 aT aE hb;refine⟨(DE f hv (gY f hv x.aQ) (gY f hv x.aX) x b,z),?_,⟨_,hnext,au⟩,g4,hr⟩;obtain⟨i1,i2,hw⟩:=w3 hi hl;have hcost:=sI ho;have t1:(tr b).ai=b.ai:=rfl;have t2:(tr b).aD=b.aD:=rfl;have t3:(tr b).aG=b.aG:=rfl;have t4:(tr b).aI=b.aI:=rfl;have etr:(aJ.mk b.ai b.aD b.aG (qx 8 b.aI (eC x.bg)))=tr (gd b x.bg):=rfl;unfold Wm;dsimp only;simp only[cG,i1,i2,hx,cK,cW,aB.eta,az.eta,hw];unfold DE;by_cases d4:x.b9=4
  ·have hN:=ho.n4 d4;have eu:(uO x).1.toNat=x.fN.toNat*eF x.aQ:=by
    unfold uO;simp only[gK,d4,Int.reduceEq];rw[eF,Int.toNat_mul hN.1 p1]
   have e:=h3 x hmem b k d4 hb au;simp only[d4,Int.reduceEq,DB,cK,cW,e]
  have ea:Ft b.aI x.bg=V (qx 8 b.aI (eC x.bg)):=Mu hb.time hcost;have hA:=nu hb hcost;have ev:Ue (tr (gd b x.bg)) x.aF=V (cI b.ai x.aF):=Wo hA x.aF ho.term;have hnn:NN (cI b.ai x.aF):=iT hb x.aF ho.term;simp only[t1,t2,t3,t4,d4,Ej,ct,ea,etr,IY];by_cases d0:x.b9=0
  ·obtain⟨v1,v2⟩:=ho.var (.inl d0);simp only[cG,cD,gK,d0,Int.reduceEq,ev,abN hA hn v1 v2 hnn]
  by_cases d1:x.b9=1
  ·have e:=avM hA au hnn;simp only[cG,cD,gK,d1,Int.reduceEq,ev,e]
  by_cases d5:x.b9=5
  ·obtain⟨v1,v2⟩:=ho.var (.inr d5);obtain⟨n1,n2⟩:=ho.n5 d5;have hlt:x.fN.toNat<zY hv:=au;have e:=abN hA hn v1 v2 (hvn _ hlt);simp only[cG,cD,gK,d5,Int.reduceEq];rw[gM,e]
  by_cases d3:x.b9=3
  ·have eu:(uO x).1.toNat=max (eF x.aQ) (eF x.aX):=by
    unfold uO eF;simp only[gK,d3,Int.reduceEq];omega
   have e:=h1 x hmem (gd b x.bg) k hA au;have e':=h2 x hmem (gd b x.bg) k hA au;have ej:=aci ((aT _ _ hA).weak (show k+eF x.aQ<=k+max (eF x.aQ) (eF x.aX)by omega)) ((aE _ _ hA).weak (show k+eF x.aX<=k+max (eF x.aQ) (eF x.aX)by omega)) hn au;have et:=pn (a:=cI b.ai x.aF) (.inr hnn);unfold brA;simp only[cG,cD,gK,d3,Int.reduceEq,ev,et];cases cR (cI b.ai x.aF) 0 with
   |false=>simp only[cD,e,cW]
   |true=>
    cases cA (cI b.ai x.aF)with
    |false=>simp only[cD,gK,e',Bool.true_eq_false]
    |true=>simp only[cD,e,e',ej,IY,Bool.true_eq_false]
  by_cases d6:x.b9=6
  ·obtain⟨_,q2,q3,q4,q5⟩:=ho.aej d6;have e:=(vR (a:=qx 8 b.aI (eC x.bg)) hA.time q4 au (NP q2 q3 q4 q5)).2.1;simp only[cG,cD,gK,d6,Int.reduceEq];rw[e];rfl
  ·simp only[d0,d1,d3,d5,d6,Ej,ct,IY]) (λb _=>by unfold Wm;simp) (b:=(s,⟨[],⟨0,0,0⟩,[],⟨0,0,0⟩⟩)) ⟨⟨m,h,by rw[xI];exact hm⟩,by rw[xI];exact hc,by rw[xI]⟩
 obtain⟨b,z⟩:=v;have e1':WI M88 M167 ⟨hv,l,(zY l:Int),0,f,tr s,⟨[],⟨0,0,0⟩,[],⟨0,0,0⟩⟩⟩=V ⟨hv,l,(zY l:Int),(zY l:Int),f,tr b,⟨[],z.aD,[],z.aI⟩⟩:=e1;have hr:=hV.2.2;dsimp only at hr;rw[wP,G5]at hr;unfold s88;rw[e1',<-hr];dsimp only;rw[fD,ct]
def aql{f:aS}{hv:af aK}(hn:zY f.ai<=1000000)(hh:zY hv=zY f.ax)(hvn:∀i,i<zY hv->NN hv[i]!):∀n:Nat,
  (∀(top:Bool) (l:af aB) (s:ay) (m:Nat),2*ze l<n->fK l<=1000000->b8 f top l=0->eO (zY f.ai) m s->m+eF l<=1000000->m88 n f hv l (tr s)=V (tr (gY f hv l s)))/\
  (∀(x:aB) (s:ay) (m:Nat),2*ze x.aQ+1<n->fK x.aQ<=1000000->(0<=x.fN/\x.fN<=4096)->cC x.bg->fq f.ai O x.aF=0->b8 f O x.aQ=0->eO (zY f.ai) m s->m+x.fN.toNat*eF x.aQ<=1000000->QZ n f hv x (tr s)=V (tr (ny (lu (gY f hv x.aQ) x.aF x.bg x.fN.toNat s))))
 |0=>⟨λ_ _ _ _ h=>au,λ_ _ _ h=>au⟩
 |n+1=>by
  obtain⟨i1,i2⟩:=aql hn hh hvn n;refine⟨λtop l s m h hN hc hs hm=> ?_,λx s m h hN hx hc ht hst hs hm=> ?_⟩
  ·refine aBx (m88 n) (QZ n) hn hh hvn (zG (kr l) hN) hc hs hm (λx hx s m hs hm=> ?_) (λx hx s m hs hm=> ?_) (λx hx s m h4 hs hm=> ?_)
   ·have:=bw hx;exact i1 O x.aQ s m au (zG (Aj hx).1 hN) (lV hc hx).1 hs hm
   ·have:=bw hx;exact i1 O x.aX s m au (zG (Aj hx).2 hN) (lV hc hx).2 hs hm
   ·have:=(bw hx).1;obtain⟨_,k⟩:=Ar hc hx;exact i2 x s m au (zG (Aj hx).1 hN) (k.n4 h4) (sI k) k.term (lV hc hx).1 hs hm
  ·exact arT (m88 n) (QZ n) hn hx hc ht (iE hh hvn _ x.aQ O (zC _) hst) hs hm (λs m hs hm=>i1 O x.aQ s m au hN hst hs hm)
def aBP{r:Runner}(hn:zY r.fF.ai<=1000000)(hh:zY r.ax=zY r.fF.ax)(hvn:∀i,i<zY r.ax->NN r.ax[i]!){top:Bool}{l:af aB}{s:ay}{m:Nat}(hN:fK l<=1000000)(hc:b8 r.fF top l=0)(hs:eO (zY r.fF.ai) m s)(hm:m+eF l<=1000000):r83 r l s=V (gY r.fF r.ax l s):=
 eG (2*ze l+1) λn h=>(aov hn hh hvn n).1 top l s m au hN hc hs hm
def aw6{f:aS}{hv:af aK}(hn:zY f.ai<=1000000)(hh:zY hv=zY f.ax)(hvn:∀i,i<zY hv->NN hv[i]!){top:Bool}{l:af aB}{s:ay}{m:Nat}(hN:fK l<=1000000)(hc:b8 f top l=0)(hs:eO (zY f.ai) m s)(hm:m+eF l<=1000000):r88 f hv l (tr s)=V (tr (gY f hv l s)):=
 eG (2*ze l+1) λn h=>(aql hn hh hvn n).1 top l s m au hN hc hs hm
def kd(k:Int)(v:bh):Bool:=vn (v.bS=k)
def cQ(vars:af bh)(k:Int)(i:Nat):Nat:=zY ((vars.take i).filter (kd k))
def gN{vars:af bh}{i:Nat}(h:i<zY vars)(k:Int):cQ vars k (i+1)=cQ vars k i+if vars[i]!.bS=k then 1 else 0:=by
 unfold cQ;rw[bE h,xh,zh];by_cases hk:vars[i]!.bS=k
 ·rw[bB hk];simp only[yV,xY,kd,hk,DB,cW,ym]
 ·rw[bL hk];simp only[yV,xY,kd,hk,Ej,yy,IY,yA]
def kf(vars:af bh)(k:Int)(i:Nat):cQ vars k i<=i:=by
 unfold cQ;exact zG (yq _ _) (by rw[zD];omega)
def jZ{vars:af bh}{k:Int}{i j:Nat}(hij:i<=j)(hj:j<=zY vars):cQ vars k i<=cQ vars k j:=by
 induction j with
 |zero=>
  have:i=0:=au;subst this;exact zl _
 |succ j ih=>
  by_cases h:i=j+1
  ·subst h;exact zl _
  ·rw[gN au];have:=ih au au;omega
def oM(vars:af bh)(k:Int):cQ vars k vars.length=zY (vars.filter (kd k)):=by unfold cQ;rw[zy]
def alq(vars:af bh)(hl:zY vars<=1000000)(k:Int):akG vars k=V (vars.filter (kd k)):=by
 obtain⟨v,e1,hV⟩:=cS (rnd:=KY) (zY vars) (λi (b:af bh)=>⟨vars,k,b,(i:Int)⟩) (λi b=>b=(vars.take i).filter (kd k)) (λi b hi hb=>by
  obtain⟨i1,i2,hw⟩:=w3 hi hl;refine⟨_,?_,rfl⟩;have hlen:zY b<=1000000:=by rw[hb];exact zG (kf vars k i) au
  rw[bE hi,xh,<-hb];unfold KY Gp;by_cases hk:vars[i]!.bS=k
  ·have h2:zY (b++[vars[i]!])<=1073741824:=by rw[zh,ym];omega
   simp only[cG,i1,i2,hk,h2,hw,cK,cW,kd,yV,xY]
  ·simp only[cG,cD,gK,i1,i2,hk,hw,kd,yV,xY,yu,yy]) (λb _=>by unfold KY Gp;simp) (b:=[]) (by simp)
 rw[zy]at hV;have e1':NZ ⟨vars,k,[],0⟩=V ⟨vars,k,v,(zY vars:Int)⟩:=e1;unfold akG Gp;rw[e1'];simp[hV]
def Fs(vars:af bh)(hv:cZ vars)(hl:zY vars<=1000000){k:Int}(hk:k=1\/k=2\/k=3):∃p,m89 vars k=V p:=by
 have hm:=alq vars hl k;generalize hF:vars.filter (kd k)=L at hm;have hL:∀v∈L,-1048576<=v.ah/\v.ah<=v.ag/\v.ag<=1048576:=λv h=>by rw[<-hF]at h;exact hv v (z8.1 h).1
 have hll:zY L<=1000000:=by rw[<-hF];exact zG (yq _ _) hl
 obtain⟨v,e1,_⟩:=cS (rnd:=Wh) (zY L) (λi (_:Unit)=>⟨L,(i:Int)⟩) (λ_ _=>True) (λi b hi _=>by
  have hw:=jR hi hll;obtain⟨q1,q2,q3⟩:=hL _ (bf hi);have i1:(i:Int)<(zY L:Int):=au;have i2:(0:Int)<=(i:Int):=au;refine⟨(),?_,trivial⟩;unfold Wh OX;simp only[cG,cD,i1,i2,hi,hw,cW,show ¬L[i]!.ag<L[i]!.ah by omega,show ¬L[i]!.ah< -1048576 by omega,show ¬1048576<L[i]!.ag by omega]) (λb _=>by unfold Wh OX;simp) (b:=()) trivial
 have e1':Wb ⟨L,0⟩=V ⟨L,(zY L:Int)⟩:=e1;have hsz:∀i,i<zY L->∀n:Int,1<=n->n<=4096->ak (n*ak (ak (L[i]!.ag-L[i]!.ah)+1))=n*(L[i]!.ag-L[i]!.ah+1)/\1<=n*(L[i]!.ag-L[i]!.ah+1):=λi hi n h1 h2=>by
  obtain⟨q1,q2,q3⟩:=hL _ (bf hi);have p1:n*(L[i]!.ag-L[i]!.ah+1)<=4096*(L[i]!.ag-L[i]!.ah+1):=zN h2 au;have p2:1*(L[i]!.ag-L[i]!.ah+1)<=n*(L[i]!.ag-L[i]!.ah+1):=zN h1 au;rw[aL (n:=L[i]!.ag-L[i]!.ah),aL (n:=L[i]!.ag-L[i]!.ah+1),aL];exact⟨rfl,au⟩
 obtain⟨i,n,e2,hI,hc⟩:=jq (rnd:=OC) (zY L) (λi (b:Int)=>⟨L,b,(i:Int)⟩) (λ_ b=>1<=b/\b<=4096) (λi b=>4096<b*(L[i]!.ag-L[i]!.ah+1)) (λi b hi hb=>by
  have hw:=jR hi hll;obtain⟨s1,s2⟩:=hsz i hi b hb.1 hb.2;have i1:(i:Int)<(zY L:Int):=au;have i2:(0:Int)<=(i:Int):=au;by_cases h:4096<b*(L[i]!.ag-L[i]!.ah+1)
  ·refine .inr ⟨?_,h⟩;unfold OC Kc;simp only[cG,i1,i2,hi,cK,cW,s1,h]
  ·refine .inl ⟨b*(L[i]!.ag-L[i]!.ah+1),?_,s2,au⟩;unfold OC Kc;simp only[cG,cD,i1,i2,hi,hw,cW,s1,h]) (λb _=>by unfold OC Kc;simp) (b:=1) ⟨au,au⟩
 have e2':VO ⟨L,1,0⟩=V ⟨L,n,(i:Int)⟩:=e2;have hk1:(bif bif vn (k=0)then O else J then
   bif bif vn (k=1)then O else J then
    bif bif vn (k=2)then O else J then V (bif vn (k=3)then O else J)else V O
   else V O
  else some false)=some false:=by rcases hk with h|h|h<;>simp[h]
 unfold m89 OX Kc;rw[hk1];simp only[ct,hm,e1'];rw[fD,ct,e2'];dsimp only;rcases hc with rfl|⟨hi,h⟩
 ·rw[fD];exact⟨_,rfl⟩
 ·obtain⟨s1,s2⟩:=hsz i hi n hI.1 hI.2;have i1:(i:Int)<(zY L:Int):=au;have i2:(0:Int)<=(i:Int):=au;simp only[cG,i1,i2,hi,cK,cW,s1,h];exact⟨_,rfl⟩
def Zc{f:aS}(h:few f 10 80=J):fK f.bM+kS (f.ax.map (·.aF))<=80/\zY f.ax<=10/\zY f.ai<=10:=by
 unfold few at h;rw[decide_eq_true_eq]at h;omega
def ZH{f:aS}(h:qT f=0):b8 f J f.bM=0:=by
 unfold qT at h;split at h
 ·cases h
 split at h
 ·exact dS h ‹_›
 split at h
 ·exact dS h ‹_›
 split at h
 ·exact dS h ‹_›
 rename_i h4;simpa using h4
def atp(f:aS)(a b c:Int):∃r,m24 f a b c=V r/\(r=J->few f 10 80=J/\qT f=0):=by
 unfold m24;rw[awe f 10 80 (by decide) (by decide) (by decide) (by decide)];cases hf:few f 10 80 with
 |false=>exact⟨false,rfl,λh=>by cases h⟩
 |true=>
  obtain⟨h1,h2,h3⟩:=Zc hf;rw[afv f au au au];by_cases hc:qT f=0
  ·have hv:=kK hc;obtain⟨p1,e1⟩:=Fs f.ai hv au (k:=1) (.inl rfl);obtain⟨p2,e2⟩:=Fs f.ai hv au (k:=2) (.inr (.inl rfl));obtain⟨p3,e3⟩:=Fs f.ai hv au (k:=3) (.inr (.inr rfl));have hS:Db f.bM:=Dp f _ f.bM J (zC _) (ZH hc);rw[e1,e2,e3,adL f.bM au hS];simp only[cD,hc,DB];cases vn (p1.fst<=a)<;>cases vn (p2.fst<=b)<;>cases vn (p3.fst<=c)<;>exact⟨_,rfl,λ_=>⟨trivial,trivial⟩⟩
  ·simp only[cD,hc,Ej];exact⟨false,rfl,λh=>by cases h⟩
def apK(vars:af bh)(inp:nO)(i:Nat):Int:=
 if vars[i]!.bS=1 then inp.LR[cQ vars 1 i]! else if vars[i]!.bS=2 then inp.bz[cQ vars 2 i]! else if vars[i]!.bS=3 then inp.NK[cQ vars 3 i]! else vars[i]!.gJ
structure aDW (vars:List bh) (inp:nO):Prop where
 s:zY inp.LR=cQ vars 1 (zY vars)
 p:zY inp.bz=cQ vars 2 (zY vars)
 r:zY inp.NK=cQ vars 3 (zY vars)
 b:∀i,i<zY vars->vars[i]!.ah<=apK vars inp i/\apK vars inp i<=vars[i]!.ag
def oI{α:Type}[Inhabited α]{c:Nat->α->Int}:∀{l:af α} {i:Nat},cu c l i=0->∀j,j<zY l->c (i+j) l[j]! =0
 |[],_,_,j,h=>by simp at h
 |x::l,i,h,j,hj=>by
  unfold cu at h;split at h
  case isFalse h1=>exact dS h h1
  rename_i h0;cases j with
  |zero=>simpa using h0
  |succ j=>
   have:=oI h j (by simpa using hj);rw[show i+(j+1)=i+1+j by omega];exact this
def avW{f:aS}{i:Nat}{h:dN}(hc:kU f i h=0):(-1048576<=h.ah/\h.ah<=h.ag/\h.ag<=1048576)/\fq f.ai J h.aF=0:=by
 unfold kU at hc;split at hc
 ·cases hc
 split at hc
 ·cases hc
 split at hc
 ·cases hc
 rename_i hb;have hb:jG h.ah h.ag=J:=by simpa using hb
 unfold jG at hb;rw[decide_eq_true_eq]at hb;exact⟨⟨hb.2.1,hb.1,hb.2.2⟩,hc⟩
structure Ru (f:aS):Prop where
 vars:cZ f.ai
 hat:∀i,i<zY f.ax->(-1048576<=f.ax[i]!.ah/\f.ax[i]!.ah<=f.ax[i]!.ag/\f.ax[i]!.ag<=1048576)/\fq f.ai J f.ax[i]!.aF=0
 steps:b8 f J f.bM=0
 o:(eX f.bM).2.1<=8
 t:(eX f.bM).2.2<=67108864
def L3{f:aS}(h:qT f=0):Ru f:=by
 have hv:=kK h;unfold qT at h;split at h
 ·cases h
 split at h
 ·exact dS h ‹_›
 split at h
 ·exact dS h ‹_›
 rename_i h3;split at h
 ·exact dS h ‹_›
 rename_i h4;split at h
 ·cases h
 rename_i h5;have h3:cu (kU f) f.ax 0=0:=by simpa using h3
 have h4:b8 f J f.bM=0:=by simpa using h4
 unfold YF at h5;simp only[decide_eq_true_eq]at h5;exact⟨hv,λi hi=>avW (i:=0+i) (oI h3 i hi),h4,au,au⟩
end Go.Proofs.YtnfljbehcffmcaaGreat
end
