/- Merged: Pv2b, Pv4, So, Hs, Ne9, Hr, Ne10, Ne30, Ha, Qv, Qw, Pv5, Pv6, Pv7, Qr, Qs, Ne31, Ne32, Hx, Hy, Ne33, Ne34, Ne35, Ne36, Ne37, Ne38, Qx, Qy. -/
import Derived.Test.YtnfljbehcffmcaaGreatM1RefineChecks
import Derived.Test.YtnfljbehcffmcaaGreatM4RefineChecks
import Derived.Test.YtnfljbehcffmcaaGreatM2RefineChecks
import Derived.Shelf.Sort.Plain
import Derived.Shelf.Slices.In.SortNone
import Derived.Sort.OwnSortedInts
import Derived.Test.YtnfljbehcffmcaaGreatM3RefineChecks
open Nat renaming le_refl -> zl, lt_succ_self -> zC, le_trans -> zG, add_mul -> zW, mul_le_mul_right -> yh, one_mul -> yL, not_lt_zero -> y7, lt_succ_iff_lt_or_eq -> xk, mul_one -> xC, sub_self -> xT
open SizeOf renaming sizeOf -> ze
open List renaming length_append -> zh, mem_cons_self -> zk, getElem?_eq_getElem -> zm, mem_singleton -> zo, mem_cons -> zx, take_length -> zy, length_map -> zB, length_take -> zD, range -> zH, length_set -> zI, mem_cons_of_mem -> zL, mem_map -> zM, map_append -> zO, mem_append -> zP, length_drop -> zV, map_congr_left -> zX, length -> zY, mem_filter -> z8, drop -> ya, map_cons -> yf, length_singleton -> ym, length_filter_le -> yq, append_nil -> yu, length_nil -> yA, nil_append -> yB, getElem?_drop -> yG, mem_append_left -> yJ, mem_append_right -> yK, getElem_map -> yM, drop_eq_getElem_cons -> yQ, append_assoc -> yS, map_nil -> yT, filter_cons -> yV, getElem_of_mem -> xd, filter_append -> xh, length_eq_zero_iff -> xu, ext_getElem -> xw, cons_append -> xz, map_drop -> xB, mem_of_mem_drop -> xD, drop_zero -> xI, getElem_take -> xK, map_take -> xL, getElem_mem -> xP, getElem_drop -> xS, filter_nil -> xY, take_zero -> wh, getElem_range -> wo, getElem?_take_of_lt -> wu, getElem_append_left -> wB, getElem_append_right -> wC, range_succ -> wG, mem_of_mem_take -> wJ, drop_length -> wP
open Int renaming toNat_natCast -> zg, le_refl -> zj, toNat -> zq, mul_nonneg -> zJ, mul_le_mul_of_nonneg_right -> zN, lt_irrefl -> yx, dvd_zero -> xM, le_of_lt -> xU, le_trans -> xV
open Bool renaming and_eq_true -> zi, cond_decide -> zR, false_eq_true -> yy, true -> J, false -> O
open Option renaming some -> zF, some -> V, none -> G
open Array renaming getElem?_eq_some_iff -> y8
open Decidable renaming decide -> vn
open Go.Proofs.Tryz renaming prog -> vp
open Go.Proofs.Tryz
set_option linter.unusedSectionVars false
set_option linter.unusedVariables false
set_option linter.unusedSimpArgs false
set_option linter.defProp false
noncomputable section
set_option maxRecDepth 100000
namespace Go.Proofs.YtnfljbehcffmcaaGreat
open Go Go.Iv
open Go.IntKind (i64 u64)
def AG(vars:af bh)(t:az)(k:af Span):Span:=if t.bF=0/\(t.fN< -1048576\/1048576<t.fN)then⟨-1048577,1048577⟩else jC vars t k
def aaK(vars:af bh)(t:az)(k:af Span):CC (AG vars t k)=CC (jC vars t k)/\(CC (jC vars t k)=J->AG vars t k=jC vars t k):=by
 unfold AG;by_cases h:t.bF=0/\(t.fN< -1048576\/1048576<t.fN)
 ·have e:CC (jC vars t k)=O:=by
   unfold CC jC;rw[bC h.1];simp;omega
  rw[bC h,e];exact⟨by decide,λh=>by cases h⟩
 ·rw[bL h];simp
def s8(a b:Int):jS a b=if a<b then a else b:=by
 unfold jS;simp
def oW(a b:Int):lR a b=if b<a then a else b:=by
 unfold lR;simp
def iN{k:af Span}{i:Nat}(h:i<zY k):(k.map (·.ah))[i]! =k[i]!.ah:=by
 rw[getElem!_pos _ i (by simpa using h),getElem!_pos k i h,yM]
def fQ{k:af Span}{i:Nat}(h:i<zY k):(k.map (·.ag))[i]! =k[i]!.ag:=by
 rw[getElem!_pos _ i (by simpa using h),getElem!_pos k i h,yM]
def J3(k:af Span)(hl:zY k<=1000000)(h2:2<=zY k)(a:Span):Hz ⟨k.map (·.ah),k.map (·.ag),a.ah,a.ag,2⟩=V ⟨k.map (·.ah),k.map (·.ag),((k.drop 2).foldl gh a).ah,((k.drop 2).foldl gh a).ag,(zY k:Int)⟩:=by
 have hlen:zY (k.drop 2)=zY k-2:=zV ..;have hget:∀i,i<zY k-2->(k.drop 2)[i]! =k[i+2]! :=λi hi=>by
  grind
 obtain⟨v,e1,hv⟩:=cS (rnd:=Lu) (zY k-2) (λi (b:Span)=>⟨k.map (·.ah),k.map (·.ag),b.ah,b.ag,((i+2:Nat):Int)⟩) (λi b=>b=((k.drop 2).take i).foldl gh a) (λi b hi hb=>by
  have hw:=jQ (show i+2<zY k by omega) hl;refine⟨gh b k[i+2]!,?_,?_⟩
  ·unfold Lu C7;simp only[zg,s8,oW];unfold gh
   congr 3<;>grind
  ·rw[bD au,List.foldl_append,hb,hget i hi];rfl) (λb _=>by
   unfold Lu C7;simp only[zB,zR];rw[qE]) (b:=a) rfl
 rw[<-hlen,zy]at hv;rw[<-hv];rw[show zY k-2+2=zY k by omega]at e1;exact e1
def agI(vars:af bh)(t:az)(k:af Span)(h:FX vars t k):anQ vars t (k.map (·.ah)) (k.map (·.ag))=V ((AG vars t k).ah,(AG vars t k).ag):=by
 obtain⟨hk,h24,hI⟩:=h;have h0:1<=(cg t.bF).1->ID k[0]! :=λh=>hI _ (bf au);have h1:2<=(cg t.bF).1->ID k[1]! :=λh=>hI _ (bf au);have h33:(cg t.bF).2<=33:=by unfold cg;grind
 have W:∀n:Int,-8796093022208<=n->n<=8796093022208->ak n=n:=λn a b=>aL;unfold anQ C7 AG jC;have cs:t.bF=0\/t.bF=24\/t.bF=6\/t.bF=8\/t.bF=9\/t.bF=10\/t.bF=11\/t.bF=12\/t.bF=21\/t.bF=22\/t.bF=23\/t.bF=25\/(t.bF≠0/\t.bF≠24/\t.bF≠6/\t.bF≠8/\t.bF≠9/\t.bF≠10/\t.bF≠11/\t.bF≠12/\t.bF≠21/\t.bF≠22/\t.bF≠23/\t.bF≠25):=au;rcases cs with h|h|h|h|h|h|h|h|h|h|h|h|h
 ·simp only[Z0];grind
 ·simp[h,h24 h]
 ·have hl:1<=(cg t.bF).1:=by rw[h];decide
  obtain⟨a1,a2,a3⟩:=h0 hl;have w1:ak ((0:Int)-k[0]!.ag)= -k[0]!.ag:=by rw[W _ au au];omega
  have w2:ak ((0:Int)-k[0]!.ah)= -k[0]!.ah:=by rw[W _ au au];omega
  have i0:(0:Int)<(zY k:Int):=au;simp only[gK,Z0,h,zR,Int.reduceEq,reduceIte,zB,i0,iN (show 0<zY k by omega),fQ (show 0<zY k by omega),w1,w2,zj,IT,false_and]
 ·have hl:2<=(cg t.bF).1:=by rw[h];decide
  obtain⟨a1,a2,a3⟩:=h0 au;obtain⟨b1,b2,b3⟩:=h1 hl;have w1:=W (k[0]!.ah+k[1]!.ah) au au;have w2:=W (k[0]!.ag+k[1]!.ag) au au;have i0:(0:Int)<(zY k:Int):=au;have i1:(1:Int)<(zY k:Int):=au;simp only[gK,Z0,h,zR,Int.reduceEq,Int.reduceLE,reduceIte,zB,iN (show 0<zY k by omega),fQ (show 0<zY k by omega),iN (show 1<zY k by omega),fQ (show 1<zY k by omega),i0,i1,w1,w2,zj,IT,false_and]
 ·have hl:2<=(cg t.bF).1:=by rw[h];decide
  obtain⟨a1,a2,a3⟩:=h0 au;obtain⟨b1,b2,b3⟩:=h1 hl;have w1:=W (k[0]!.ah-k[1]!.ag) au au;have w2:=W (k[0]!.ag-k[1]!.ah) au au;have i0:(0:Int)<(zY k:Int):=au;have i1:(1:Int)<(zY k:Int):=au;simp only[gK,Z0,h,zR,Int.reduceEq,Int.reduceLE,reduceIte,zB,iN (show 0<zY k by omega),fQ (show 0<zY k by omega),iN (show 1<zY k by omega),fQ (show 1<zY k by omega),i0,i1,w1,w2,zj,IT,false_and]
 ·have hl:2<=(cg t.bF).1:=by rw[h];decide
  obtain⟨a1,a2,a3⟩:=h0 au;obtain⟨b1,b2,b3⟩:=h1 hl;have m1:=qR (a:=k[0]!.ah) (b:=k[1]!.ah) au au au au;have m2:=qR (a:=k[0]!.ah) (b:=k[1]!.ag) au au au au;have m3:=qR (a:=k[0]!.ag) (b:=k[1]!.ah) au au au au;have m4:=qR (a:=k[0]!.ag) (b:=k[1]!.ag) au au au au;have w1:=W _ (show-8796093022208<=k[0]!.ah*k[1]!.ah by omega) au;have w2:=W _ (show-8796093022208<=k[0]!.ah*k[1]!.ag by omega) au;have w3:=W _ (show-8796093022208<=k[0]!.ag*k[1]!.ah by omega) au;have w4:=W _ (show-8796093022208<=k[0]!.ag*k[1]!.ag by omega) au;have i0:(0:Int)<(zY k:Int):=au;have i1:(1:Int)<(zY k:Int):=au;simp only[gK,Z0,h,zR,Int.reduceEq,Int.reduceLE,reduceIte,zB,iN (show 0<zY k by omega),fQ (show 0<zY k by omega),iN (show 1<zY k by omega),fQ (show 1<zY k by omega),i0,i1,w1,w2,w3,w4,zj,IT,false_and,s8,oW,gh];generalize k[0]!.ah*k[1]!.ah=p;generalize k[0]!.ah*k[1]!.ag=q;generalize k[0]!.ag*k[1]!.ah=r;generalize k[0]!.ag*k[1]!.ag=s
  congr 2<;>grind
 ·have hl:2<=(cg t.bF).1:=by rw[h];decide
  obtain⟨a1,a2,a3⟩:=h0 au;obtain⟨b1,b2,b3⟩:=h1 hl;have z0:zq 0=0:=rfl;have z1:zq 1=1:=rfl;have ad2:∀x:Int,-1048576<=x->x<=1048576->Cu x=if x<0 then-x else x:=λx q1 q2=>by
   unfold Cu;rw[W _ au au];simp only[zR];grind
  have Z6:lR (Cu k[0]!.ah) (Cu k[0]!.ag)=if k[0]!.ag< -k[0]!.ah then-k[0]!.ah else k[0]!.ag:=by
   rw[ad2 _ au au,ad2 _ au au,oW];grind
  have w2:ak ((0:Int)-if k[0]!.ag< -k[0]!.ah then-k[0]!.ah else k[0]!.ag)= -(if k[0]!.ag< -k[0]!.ah then-k[0]!.ah else k[0]!.ag):=by split<;>(rw[W _ au au];omega)
  have i0:(0:Int)<(zY k:Int):=au;have i1:(1:Int)<(zY k:Int):=au;simp only[gK,Z0,h,zR,Int.reduceEq,Int.reduceLE,reduceIte,zB,z0,z1,iN (show 0<zY k by omega),fQ (show 0<zY k by omega),iN (show 1<zY k by omega),fQ (show 1<zY k by omega),i0,i1,Z6,w2,zj,IT,false_and];by_cases c1:(0:Int)<=k[0]!.ah<;>by_cases c2:(0:Int)<=k[1]!.ah<;>simp only[cG,cD,gK,c1,c2,and_true,and_false]
 ·have hl:2<=(cg t.bF).1:=by rw[h];decide
  obtain⟨b1,b2,b3⟩:=h1 hl;have w1:=W (k[1]!.ah+1) au au;have w2:=W (k[1]!.ag-1) au au;have i1:(1:Int)<(zY k:Int):=au;simp only[gK,Z0,h,zR,Int.reduceEq,Int.reduceLE,reduceIte,zB,iN (show 1<zY k by omega),fQ (show 1<zY k by omega),i1,zj,IT,false_and,abd,w1,w2,s8,oW]
  congr 1
  by_cases c1:k[1]!.ah<0<;>by_cases c2:(0:Int)<k[1]!.ag<;>simp only[gK,c1,c2,Prod.mk.injEq,and_true,true_and]<;>grind
 ·have hl:2<=(cg t.bF).1:=by rw[h];decide
  have i0:(0:Int)<(zY k:Int):=au;have i1:(1:Int)<(zY k:Int):=au;simp only[gK,Z0,h,zR,Int.reduceEq,Int.reduceLE,reduceIte,zB,iN (show 0<zY k by omega),fQ (show 0<zY k by omega),iN (show 1<zY k by omega),fQ (show 1<zY k by omega),i0,i1,zj,IT,false_and,s8,oW]
  congr 2<;>grind
 ·have hl:2<=(cg t.bF).1:=by rw[h];decide
  have i0:(0:Int)<(zY k:Int):=au;have i1:(1:Int)<(zY k:Int):=au;simp only[gK,Z0,h,zR,Int.reduceEq,Int.reduceLE,reduceIte,zB,iN (show 0<zY k by omega),fQ (show 0<zY k by omega),iN (show 1<zY k by omega),fQ (show 1<zY k by omega),i0,i1,zj,IT,false_and,s8,oW]
  congr 2<;>grind
 ·have hl:2<=(cg t.bF).1:=by rw[h];decide
  have i1:(1:Int)<(zY k:Int):=au;have e:=J3 k au au k[1]!;simp only[gK,Z0,h,zR,Int.reduceEq,Int.reduceLE,reduceIte,zB,iN (show 1<zY k by omega),fQ (show 1<zY k by omega),e,i1,zj,IT,yx,true_or,false_and]
 ·have hl:2<=(cg t.bF).1:=by rw[h];decide
  have i1:(1:Int)<(zY k:Int):=au;have e:=J3 k au au k[1]!;simp only[gK,Z0,h,zR,Int.reduceEq,Int.reduceLE,reduceIte,zB,iN (show 1<zY k by omega),fQ (show 1<zY k by omega),e,i1,zj,IT,yx,or_true,false_and]
 ·obtain⟨c1,c2,c3,c4,c5,c6,c7,c8,c9,c18,c11,c12⟩:=h;simp only[c1,c2,c3,c4,c5,c6,c7,c8,c9,c18,c11,c12,zR,IQ,or_self,false_and]
def rF(vars:af bh)(t:az):Int×Int×Bool:=match mJ (t.aq.map (iS vars))with
 |none=>(0,0,O)
 |some l=>((AG vars t l).ah,(AG vars t l).ag,CC (AG vars t l))
def Kz(vars:af bh)(t:az):iS vars t=if(rF vars t).2.2=J then V ⟨(rF vars t).1,(rF vars t).2.1⟩else G:=by
 rw[Aq,rF];cases h:mJ (t.aq.map (iS vars))with
 |none=>rfl
 |some l=>
  obtain⟨h1,h2⟩:=aaK vars t l;simp_all
def aja(M:af bh->az->aa tY)(vars:af bh)(hv:cZ vars)(inp:Bool)(t:az)(hf:dI vars inp t=J)(hM:∀k∈t.aq,M vars k=V (rF vars k)):an1 M vars t=V (rF vars t):=by
 have h33:=OV hf;obtain⟨i,b,e1,hI,hc⟩:=jj (rnd:=Ft M) (zY t.aq) (λi (b:af Span)=>⟨vars,b.map (·.ah),b.map (·.ag),(i:Int),t⟩) (λi b=>(t.aq.take i).map (iS vars)=b.map V) (λi _=>(rF vars t.aq[i]!).2.2=O) (λi b hi hb=>by
  have hw:=jQ hi au;have hk:=hM _ (bf hi);have hlen:zY b=i:=by have:=congrArg zY hb;simp at this;omega
  cases hx:(rF vars t.aq[i]!).2.2 with
  |true=>
   refine .inl ⟨b++[⟨(rF vars t.aq[i]!).1,(rF vars t.aq[i]!).2.1⟩],?_,?_⟩
   ·have hl2:zY (b.map (·.ah)++[(rF vars t.aq[i]!).1])<=1073741824:=by simp;omega
    have hl3:zY (b.map (·.ag)++[(rF vars t.aq[i]!).2.1])<=1073741824:=by simp;omega
    unfold Ft;simp only[zg,az.eta,hk,hx,hl2,hl3,hw];simp[hi]
   ·rw[bD hi,zO,hb,zO];rw[yf,yf,Kz,bC hx];rfl
  |false=>
   unfold Ft;simp only[zg,az.eta,hk,hx];simp[hi]) (λb _=>by unfold Ft;simp) (b:=[]) rfl
 have e1':LG M ⟨vars,[],[],0,t⟩=V ⟨vars,b.map (·.ah),b.map (·.ag),(i:Int),t⟩:=e1;unfold an1;rw[az.eta,e1'];dsimp only;rcases hc with rfl|⟨hi,hx⟩
 ·rw[zy]at hI;have ha:mJ (t.aq.map (iS vars))=V b:=by rw[hI];exact Qi b
  rw[fE,ct,az.eta,agI vars t b (OY hv hf ha)];unfold rF;unfold CC;grind
 ·have hk:=hM _ (bf hi);have ha:mJ (t.aq.map (iS vars))=G:=BQ (zM.2 ⟨t.aq[i]!,bf hi,by rw[Kz,hx];simp⟩);rw[oR,cK,bC ⟨au,au⟩];simp only[cD,zg,az.eta,hk,hx];unfold rF;rw[ha]
def Yr(vars:af bh)(hv:cZ vars)(inp:Bool):∀(n:Nat) (t:az),ze t<n->dI vars inp t=J->Tb n vars t=V (rF vars t)
 |0,_,h,_=>au
 |n+1,t,h,hf=>aja (Tb n) vars hv inp t hf (λk hk=>Yr vars hv inp n k (by have:=az.eT hk;omega) (rZ hf hk))
def amc(vars:af bh)(hv:cZ vars)(inp:Bool)(t:az)(hf:dI vars inp t=J):anR vars t=V (rF vars t):=eM (ze t+1) λn hn=>Yr vars hv inp n t au hf
def Em(vars:af bh)(hv:cZ vars)(inp:Bool)(t:az):MN vars t inp=V (fu vars inp t):=by
 unfold MN fu;rw[az.eta,amU];cases hf:dI vars inp t with
 |false=>rfl
 |true=>
  rw[amc vars hv inp t hf,Kz];dsimp only;cases (rF vars t).2.2<;>rfl
def dN.eta(h:dN):dN.mk h.fName h.ah h.ag h.aF=h:=by cases h;rfl
def VR(l:af dN)(hl:zY l<=1000000)(v:dN):aeK l v=V (l.any λw=>w.fName.toList==v.fName.toList):=by
 obtain⟨i,e1,hc⟩:=ox (rnd:=Md) l (λi=>⟨l,v.fName,v.ah,v.ag,v.aF.bF,v.aF.fN,v.aF.aq,(zY l:Int),(i:Int)⟩) (λ_ w=> !(w.fName.toList==v.fName.toList)) (λi hi=>by
  have hw:=jQ hi hl;unfold Md Fv ak8;grind) (by unfold Md Fv;simp)
 have e1':Nu ⟨l,v.fName,v.ah,v.ag,v.aF.bF,v.aF.fN,v.aF.aq,(zY l:Int),0⟩=V ⟨l,v.fName,v.ah,v.ag,v.aF.bF,v.aF.fN,v.aF.aq,(zY l:Int),(i:Int)⟩:=e1;unfold aeK avV Fv;rw[e1'];rcases hc with ⟨rfl,hc⟩|⟨hi,hc⟩
 ·rw[AU λj hj=>by have:=hc j hj;simpa using this];simp
 ·have hc':(l[i]!.fName.toList==v.fName.toList)=J:=by simpa using hc
  rw[Nc hi hc'];unfold ak8;simp only[zg,hc'];simp[hi]
def Q5(f:aS)(hl:zY f.ax<=1000000)(n:Nat)(hn:n<=zY f.ax)(v:dN):
  ∃i:Nat,Ot ⟨n,0,f,v⟩=V ⟨n,(i:Int),f,v⟩/\((i=n/\((f.ax.take n).any λw=>w.fName.toList==v.fName.toList)=O)\/(i<n/\(f.ax[i]!.fName.toList==v.fName.toList)=J/\((f.ax.take n).any λw=>w.fName.toList==v.fName.toList)=J)):=by
 have hlen:zY (f.ax.take n)=n:=by rw[zD];omega
 have hget:∀i,i<n->(f.ax.take n)[i]! =f.ax[i]! :=λi hi=>by
  rw[getElem!_pos _ i au,getElem!_pos _ i au,xK]
 obtain⟨i,e1,hc⟩:=ox (rnd:=Xt) (f.ax.take n) (λi=>⟨(n:Int),(i:Int),f,v⟩) (λ_ w=> !(w.fName.toList==v.fName.toList)) (λi hi=>by
  have hw:=jQ hi au;unfold Xt DF;simp only[az.eta,dN.eta];grind) (by rw[hlen];unfold Xt DF;simp)
 refine⟨i,e1,?_⟩;rw[hlen]at hc;rcases hc with ⟨rfl,hc⟩|⟨hi,hc⟩
 ·exact .inl ⟨rfl,AU λj hj=>by have:=hc j au;simpa using this⟩
 ·have hc':((f.ax.take n)[i]!.fName.toList==v.fName.toList)=J:=by simpa using hc
  exact .inr ⟨hi,by rw[<-hget i hi];exact hc',Nc au hc'⟩
def amK(t:az):Ze t=DU t:=by
 unfold Ze DU;simp
def ahQ(t:az):P6 t=DU t:=by
 unfold P6 DU;simp
def jW:∀(l:af Int),gI l=J↔∀i,i+1<zY l->l[i]! <l[i+1]!
 |[]=>by simp[gI]
 |[a]=>by simp[gI]
 |a::b::l=>by
  unfold gI;rw[zi,jW (b::l),decide_eq_true_iff];constructor
  ·rintro⟨h1,h2⟩ i hi;cases i with
   |zero=>exact h1
   |succ i=>exact h2 i (by simpa using hi)
  ·intro h;exact⟨h 0 (by simp),λi hi=>h (i+1) (by simpa using hi)⟩
def ai0(l:af Int)(hl:zY l<=1000000):ad3 l=V (gI l):=by
 obtain⟨i,e1,hc⟩:=ox (rnd:=Mv) l (λi=>⟨l,(zY l:Int),(i:Int)⟩) (λi x=>vn (i=0)||vn (l[i-1]! <x)) (λi hi=>by
  have hw:=jQ hi hl;have hw2:ak ((i:Int)-1)=(i:Int)-1:=aL;have hw3:((i:Int)-1).toNat=i-1:=au;unfold Mv Ga;grind) (by unfold Mv Ga;simp)
 have e1':NH ⟨l,(zY l:Int),0⟩=V ⟨l,(zY l:Int),(i:Int)⟩:=e1;unfold ad3 Ga;rw[e1'];rcases hc with ⟨rfl,hc⟩|⟨hi,hc⟩
 ·have:gI l=J:=(jW l).2 λi hi=>by
   have:=hc (i+1) hi;simpa using this
  rw[this];simp
 ·have hc':i≠0/\¬l[i-1]! <l[i]! :=by
   simp only[Bool.or_eq_false_iff,decide_eq_false_iff_not]at hc;exact hc
  have:gI l=O:=by
   cases hr:gI l with
   |false=>rfl
   |true=>
    have:=(jW l).1 hr (i-1) au;rw[show i-1+1=i by omega]at this;omega
  have hw2:ak ((i:Int)-1)=(i:Int)-1:=aL;have hw3:((i:Int)-1).toNat=i-1:=au;grind
def ala(l:af Int)(hl:zY l<=1000000):aiG l=V (vn (1<=zY l/\zY l<=32)&&vn ((0:Int)<=l[0]!)&&gI l):=by
 unfold aiG Ik;by_cases h1:1<=zY l/\zY l<=32
 case neg=>
  rw[bW h1];simp only;grind
 rw[bX h1,bW (show ¬(zY l:Int)<1 by omega),bW (show ¬32<(zY l:Int)by omega),bC (⟨zj _,au⟩:(0:Int)<=0/\(0:Int)<(zY l:Int))];have hz:l[zq 0]! =l[0]! :=rfl;rw[hz];by_cases h0:(0:Int)<=l[0]!
 case neg=>
  rw[bW h0,bX (show l[0]! <0 by omega)];rfl
 rw[bX h0,bW (show ¬l[0]! <0 by omega)];dsimp only[ct];have hlen:zY (l.drop 1)=zY l-1:=zV ..;have hget:∀i,i<zY l-1->(l.drop 1)[i]! =l[i+1]! :=λi hi=>by
  simp
 obtain⟨i,e1,hc⟩:=ox (rnd:=MR) (l.drop 1) (λi=>⟨l,((i+1:Nat):Int)⟩) (λi x=>vn (l[i]! <x)) (λi hi=>by
  have hw:=jQ (show i+1<zY l by omega) hl;have hw2:ak (((i+1:Nat):Int)-1)=(i:Int):=by rw[aL];omega
  unfold MR Ik;grind) (by
   unfold MR Ik;simp only[zR];rw[qE])
 have e1':Np ⟨l,1⟩=V ⟨l,((i+1:Nat):Int)⟩:=e1;rw[e1'];dsimp only;rw[hlen]at hc;rcases hc with ⟨rfl,hc⟩|⟨hi,hc⟩
 ·have:gI l=J:=(jW l).2 λi hi=>by
   have:=hc i au;simpa using this
  rw[this,bW (show ¬(((zY l-1+1:Nat):Int)<(zY l:Int))by omega)];rfl
 ·rw[hget i hi]at hc;have hc':¬l[i]! <l[i+1]! :=by simpa using hc
  have:gI l=O:=by
   cases hr:gI l with
   |false=>rfl
   |true=>exact dU ((jW l).1 hr i au) hc'
  have hw2:ak (((i+1:Nat):Int)-1)=(i:Int):=by rw[aL];omega
  grind
def WD(f:aS)(s:aB)(last:Bool):SF f s last=V (dM f s last):=by
 have h199:zY s.aR<=32->ad3 s.aR=V (gI s.aR):=λh=>ai0 _ au;have hz:s.aR[zq 0]! =s.aR[0]! :=rfl;unfold SF Zg adm aeM;rw[az.eta,amK,hz];obtain⟨X,hX⟩:∃X,X=dM f s last:=⟨_,rfl⟩;have hX1:X=J↔dM f s last=J:=by rw[hX]
 unfold dM Di at hX1;generalize DU s.aF=Z at*;have cs:s.b9=0\/s.b9=1\/s.b9=2\/s.b9=3\/s.b9=4\/s.b9=5\/s.b9=6\/s.b9<0\/6<s.b9:=au;rcases cs with h|h|h|h|h|h|h|h|h
 case inr.inr.inr.inr.inr.inr.inr.inl=>rw[bX h];dsimp only[cK];cases X<;>grind
 case inr.inr.inr.inr.inr.inr.inr.inr=>rw[bX h,fE];dsimp only[cK,ct];cases X<;>grind
 all_goals
  rw[h]at hX1 ⊢;cases X<;>cases Z<;>simp only[cG,cD,gK,Int.reduceEq,Int.reduceLT,zR,reduceIte,zi]at hX1 ⊢ <;>grind (splits:=40)
def acd(a b:Bool):(bif a then some b else some false)=some (a&&b):=by cases a<;>rfl
def Vt(f:aS)(s:aB)(last:Bool)(hb:zY s.aR<=1000000):Sf f s last=V (dM f s last):=by
 have h173:=ala s.aR hb;have e1:(bif vn ((zY s.aQ:Int)=0)then V (vn ((zY s.aX:Int)=0))else V O)=V (vn (zY s.aQ=0/\zY s.aX=0)):=by
  by_cases a1:zY s.aQ=0<;>by_cases a2:zY s.aX=0<;>simp[a1]
 have e2:(bif vn (0<=s.dL)then bif vn (s.dL<(zY f.ai:Int))then if(0:Int)<=s.dL/\s.dL<(zY f.ai:Int)then V (vn (f.ai[s.dL.toNat]!.bS=0))else G else V O else V O)=V (Di f s):=by
  unfold Di;by_cases a1:0<=s.dL<;>by_cases a2:s.dL<(zY f.ai:Int)<;>simp[a1,a2]
 unfold Sf;rw[az.eta,ahQ,h173,e1,e2];unfold dM;generalize vn (zY s.aQ=0/\zY s.aX=0)=F;have hi:((zY s.aR:Int)=0)↔s.aR.length=0:=au;have hi2:((zY s.aX:Int)=0)↔s.aX.length=0:=au;simp only[hi,hi2];have cs:s.b9=0\/s.b9=1\/s.b9=2\/s.b9=3\/s.b9=4\/s.b9=5\/s.b9=6\/(s.b9≠0/\s.b9≠1/\s.b9≠2/\s.b9≠3/\s.b9≠4/\s.b9≠5/\s.b9≠6):=au;rcases cs with h|h|h|h|h|h|h|⟨h0,h1,h2,h3,h4,h5,h6⟩
 case inr.inr.inr.inr.inr.inr.inr=>simp only[h0,h1,h2,h3,h4,h5,h6,D0,ct,IQ]
 all_goals
  rw[h];simp only[Int.reduceEq,D0,ct]
  try rw[Bool.decide_and]
  simp only[acd]
  first|done|(congr 1;ac_rfl)
def XG(s:aB)(hb:s.b9=6->1<=zY s.aR/\zY s.aR<=32):Ve s=V (vw s):=by
 unfold Ve vw;by_cases h6:s.b9=6
 ·obtain⟨b1,b2⟩:=hb h6;have hw:ak ((zY s.aR:Int)-1)=(zY s.aR:Int)-1:=aL;have hw2:((zY s.aR:Int)-1).toNat=zY s.aR-1:=au;grind (splits:=30)
 ·rw[bW h6,bL h6];by_cases h2:s.b9=2
  ·rw[h2];grind (splits:=30)
  ·rw[bW h2,bL h2];grind (splits:=30)
def jK{f:aS}{s:aB}{last:Bool}(h:dM f s last=J):(s.b9=6->1<=zY s.aR/\zY s.aR<=32)/\(s.b9≠6->zY s.aR=0)/\(s.b9≠3->s.b9≠4->s.aQ=[])/\(s.b9≠3->s.aX=[])/\(s.b9≠4->0<=s.fN):=by
 unfold dM at h;have e1:zY s.aQ=0->s.aQ=[]:=xu.1;have e2:zY s.aX=0->s.aX=[]:=xu.1;refine⟨λh6=> ?_,λh6=> ?_,λh3 h4=>e1 ?_,λh3=>e2 ?_,λh4=> ?_⟩<;>grind (splits:=40)
abbrev aCM:=af Int
def d237:Td 1 aCM:= .c [] [] (.r 1 1 en (sr 0 3 sn) (λz=>z.2.1) (λx=>((()),(x,()))))
def aAb:=(lc (qo 0) ln)
def aya:=(sr 0 3 sn)
def Vm(b0:af Int):aa aCM:=if zY b0<=1073741824 then V (b0.mergeSort λx y=>vn (x<=y))else G
def aqo:Prop:=HY vp 237 1 aAb aya d237 (λg=>Vm g.2.1)
def aIi:bu->bu:=eY vp 237 1 aAb aya d237 (λg=>Vm g.2.1)
def adW(hv:aqo){F:bu}(h:bE vp F):bE vp (aIi F):=DB hv ⟨_,func237,aY,aY⟩ (λ_=>aY) h
def akT:Go.Shelf.Ren:=⟨λ|189=>237|125=>257|257=>281|128=>300|129=>301|294=>317|295=>318|296=>319|297=>320|298=>321|299=>322|216=>323|300=>324|301=>325|328=>342|329=>333|330=>334|331=>343|332=>344|215=>326|343=>354|n=>n,λ|28=>27|3=>3|46=>240|0=>0|51=>322|53=>324|4=>4|183=>316|182=>315|131=>193|5=>5|9=>9|218=>344|222=>348|228=>356|229=>297|n=>n,λ|n=>n⟩
def Srt:Go.Proofs.Lays.n189 vp akT where
 mixed:=aY
 f125:=func257.trans (congrArg V aY)
 f128:=func300.trans (congrArg V aY)
 f129:=func301.trans (congrArg V aY)
 f189:=func237.trans (congrArg V aY)
 f215:=func326.trans (congrArg V aY)
 f216:=func323.trans (congrArg V aY)
 f257:=func281.trans (congrArg V aY)
 f294:=func317.trans (congrArg V aY)
 f295:=func318.trans (congrArg V aY)
 f296:=func319.trans (congrArg V aY)
 f297:=func320.trans (congrArg V aY)
 f298:=func321.trans (congrArg V aY)
 f299:=func322.trans (congrArg V aY)
 f300:=func324.trans (congrArg V aY)
 f301:=func325.trans (congrArg V aY)
 f328:=func342.trans (congrArg V aY)
 f329:=func333.trans (congrArg V aY)
 f330:=func334.trans (congrArg V aY)
 f331:=func343.trans (congrArg V aY)
 f332:=func344.trans (congrArg V aY)
 f343:=func354.trans (congrArg V aY)
 t0:=underlying0
 a0:=Tryz.isAgg0
 z0:=Tryz.sizeOf0
 v0:=Tryz.zeroValue0
 t3:=underlying3
 a3:=Tryz.isAgg3
 z3:=Tryz.sizeOf3
 v3:=Tryz.zeroValue3
 t4:=underlying4
 a4:=Tryz.isAgg4
 z4:=Tryz.sizeOf4
 v4:=Tryz.zeroValue4
 t5:=underlying5
 a5:=Tryz.isAgg5
 z5:=Tryz.sizeOf5
 v5:=Tryz.zeroValue5
 t9:=underlying9
 a9:=Tryz.isAgg9
 z9:=Tryz.sizeOf9
 v9:=Tryz.zeroValue9
 t28:=underlying27
 a28:=Tryz.isAgg27
 z28:=Tryz.sizeOf27
 v28:=Tryz.zeroValue27
 t46:=underlying240
 a46:=Tryz.isAgg240
 z46:=Tryz.sizeOf240
 v46:=Tryz.zeroValue240
 t51:=underlying322
 a51:=Tryz.isAgg322
 z51:=Tryz.sizeOf322
 v51:=Tryz.zeroValue322
 t53:=underlying324
 a53:=Tryz.isAgg324
 z53:=Tryz.sizeOf324
 v53:=Tryz.zeroValue324
 t131:=underlying193
 a131:=Tryz.isAgg193
 z131:=Tryz.sizeOf193
 v131:=Tryz.zeroValue193
 t182:=underlying315
 a182:=Tryz.isAgg315
 z182:=Tryz.sizeOf315
 v182:=Tryz.zeroValue315
 t183:=underlying316
 a183:=Tryz.isAgg316
 z183:=Tryz.sizeOf316
 v183:=Tryz.zeroValue316
 t218:=underlying344
 a218:=Tryz.isAgg344
 z218:=Tryz.sizeOf344
 v218:=Tryz.zeroValue344
 t222:=underlying348
 a222:=Tryz.isAgg348
 z222:=Tryz.sizeOf348
 v222:=Tryz.zeroValue348
 t228:=underlying356
 a228:=Tryz.isAgg356
 z228:=Tryz.sizeOf356
 v228:=Tryz.zeroValue356
 t229:=underlying297
 a229:=Tryz.isAgg297
 z229:=Tryz.sizeOf297
 v229:=Tryz.zeroValue297
def tq{A:Nat->Prop}{w:World}{l:af Int}{us:af Value}(h1:zY us=zY l*1)(h2:∀i,i<zY l->bN A w (uni.cells 3 l[i]!) ((us.drop (i*1)).take 1)):us=l.map (Value.int .i64):=by
 apply xw (by simpa using h1);intro i q1 q2;simp at q2;obtain⟨g1,g2⟩:=h2 i q2;have e:((us.drop (i*1)).take 1)[0]? =V us[i]:=by
  rw[wu au,yG];simp[q1]
 have g3:=g2 0 (.lit (.int .i64 l[i]!)) us[i] rfl e;rw[g3.cL,yM,getElem!_pos l i q2]
def anC{A:Nat->Prop}{w:World}{l:af Int}:∀i,i<zY l->bN A w (uni.cells 3 l[i]!) (((l.map (Value.int .i64)).drop (i*1)).take 1):=λi hi=>by
 have e:((l.map (Value.int .i64)).drop (i*1)).take 1=[Value.int .i64 l[i]!]:=by
  rw[xC,yQ (by simpa using hi),List.take_succ_cons,wh,yM,getElem!_pos l i hi]
 rw[e];refine⟨rfl,λj a v q1 q2=> ?_⟩;cases j with
 |zero=>cases q1;cases q2;exact .lit _
 |succ j=>cases q1
def aud(l b:af Int)(hb:Vm l=V b):NR vp 237 [.own 0] [(0, .row 3 l)] 1 (gd vp 237 1 (d237.pat b)):=by
 unfold Vm at hb;split at hb
 case isFalse=>cases hb
 rename_i hlen;have hbl:b=l.mergeSort λx y=>vn (x<=y):=(zF.inj hb).symm;have hln:zY b=zY l:=by rw[hbl,List.length_mergeSort]
 intro ρ;have ho:gd vp 237 1 (d237.pat b)=⟨.jm [],[(0, .row 3 b)],1⟩:=aY;show Go.Iv.Fn vp 237 [(b7.own 0).sub ρ] (bt.res ρ [(0, .row 3 l)]) _;rw[ho,dx];intro w A vs hr hd hn;obtain⟨hr1,hr2⟩:=hr;obtain⟨v,rfl⟩:∃v,vs=[v]:=List.length_eq_one_iff.1 hr1;have hv:v=ρ.v 0:=(hr2 0 _ v rfl rfl).cL;subst hv;generalize hv:ρ.v 0=v at*;have hok:=hd.1 (.row v 3 l) (by show _∈[cc.row (ρ.v 0) 3 l];rw[hv];exact zo.2 rfl);obtain⟨us,h1,h2,h3⟩:=hok;have hσ:bt.res ρ [(0, .row 3 l)]=[cc.row v 3 l]:=by show [cc.row (ρ.v 0) 3 l]=_;rw[hv]
 have hus:us=l.map (Value.int .i64):=tq h1.1 h3;rw[hσ]at hd hn ⊢;have fin:∀w':World,gi w' v 3 1 (zY b) (b.map (Value.int .i64))->Kp (bB [cc.row v 3 l]) w w'->∃v_1 av σ',Ending.returned (Value.tuple #[])=Ending.returned v_1/\
   (∃ρ',qu 1 ρ ρ'/\av=(b7.jm (de:=uni.de) []).sub ρ'/\List.Perm σ' (bt.res ρ' [(0, .row 3 b)]))/\Tr ⟨w,A,bB [cc.row v 3 l]⟩ (bB [cc.row v 3 l]) [cc.row v 3 l] w σ' w'/\Rel (al ⟨w,A,bB [cc.row v 3 l]⟩ σ') w' av v_1:=λw' hrow hk=>by
  have hbk:bB [cc.row v 3 b]=bB [cc.row v 3 l]:=rfl;have hal:∀x,al ⟨w,A,bB [cc.row v 3 l]⟩ [cc.row v 3 l] x->al ⟨w,A,bB [cc.row v 3 l]⟩ [cc.row v 3 b] x:=λx h=>h;refine⟨_, .jm [],[cc.row v 3 b],rfl,⟨ρ,λi _=>⟨rfl,rfl⟩,by simp only[b7.sub,yT],by show List.Perm _ [cc.row (ρ.v 0) 3 b];rw[hv]⟩,⟨⟨hk,?_,?_,?_⟩,hk,λx _ h=>⟨hal x h,h.2⟩⟩,Rel.jm [] [] rfl (λj a v q=>by cases q)⟩
  ·intro r hr;rw[zo.1 hr];exact⟨b.map (Value.int .i64),hrow,λi _=>rfl,anC⟩
  ·rw[hbk];exact hn
  ·intro x hx;exact .inl hx
 obtain⟨h1l,hcase⟩:=h1;rcases hcase with ⟨p,hvp,hl0⟩|⟨gb,cap,cur,hvp,hg,q1,q2,q3,q4⟩
 ·have hl:l=[]:=xu.1 hl0;have hbn:b=[]:=by rw[hbl,hl,List.mergeSort_nil]
  subst hvp;refine(Go.Proofs.Any.slices_Sort_int_none Srt p 0 w).mono λe w' he=> ?_;obtain⟨rfl,rfl⟩:=he;refine fin w' ?_ (Kp.refl _ _);rw[hbn];exact⟨rfl, .inl ⟨p,rfl,rfl⟩⟩
 ·subst hvp;have hgs:gb<w.heap.size:=(y8.1 hg).1;have q4:cur.toList.take (zY l*1)=us:=q4;have q3:cur.size=(cap+1)*1:=q3;rw[xC]at q4;have q1:zY l<=cap+1:=q1;have hbc:zY b<=cap+1:=by rw[hln];exact q1
  have hH:=holds_of_blockI (ss:=l) hg (by rw[q4,hus]);refine(Go.Proofs.Any.slices_Sort_int Srt gb 0 (cap+1) l w hH hgs au).mono λe w' he=> ?_;obtain⟨rfl,n,os,rfl⟩:=he;rw[<-hbl];obtain⟨k1,k2,k3,k4,k5⟩:=grownBy_sortedI (w:=w) (g:=gb) (n:=n) (os:=os) b.toArray;refine fin _ ?_ ⟨k1,k2,k3,Nat.le_add_right _ _,k4,λk hk hX=>k5 k hk (λh=>hX ?_)⟩
  ·refine⟨by simp, .inr ⟨gb,cap,_,by rw[hln];rfl,heap_sortedI _ hg,hbc,q2,by simp[Go.Sort.putCells,q3],?_⟩⟩;rw[xC];exact take_putCellsI cur b (by rw[q3,xC];exact hbc)
  ·cases h;exact bQ.2 ⟨_,zo.2 rfl,rfl⟩
def aCI:aqo:=λg b hb=>aud g.2.1 b hb
abbrev E35:=af Int
def d35:Td 0 E35:= .c [] [2] (.t (b6.s 2 [] 3) (.c [] [2] (.r 0 1 (ec 2 (qo 0) en) (sr 0 3 sn) (λz=>z.2.1) (λx=>(((),()),(x,()))))))
def A35:=(lc (ql 3) ln)
def m35(a0:af Int):aa E35:=if zY a0<=1073741824 then V a0 else G
def auG:gv vp dA 0 300 35 .no:=cH (l:=[]) func35 (bT aY) aY aH
def aFb(x:Int)(xs:af Int):bZ vp dA 300 .no 35 [.sl 3 (x::xs)] [] 0 d35.rd=if([]++(x::xs)).length<=1073741824 then V ([]++(x::xs))else G:=aY
def aFR(c:Nat):bZ vp dA 300 .no 35 [.lit (.slice G 0 c)] [] 0 d35.rd=V []:=aY
def aHd(a:Addr)(c:Nat):bZ vp dA 300 .no 35 [.lit (.slice (V a) 0 c)] [] 0 d35.rd=V []:=aY
def h35:HL vp 35 A35 d35 (λg=>m35 g.1):=λg r h=>by
 obtain⟨a0,_⟩:=g;have h:m35 a0=V r:=h;cases a0 with
 |cons x xs=>exact(nK (out:=λp=>gd vp 35 0 (d35.pat p)) (p:=r) aV auG d35.ok (λp=>aY) (jT aY) (kg aY) ((aFb x xs).trans (by rw[yB];exact h))).2
 |nil=>
  cases h;exact Xu (λc=>(nK (out:=λp=>gd vp 35 0 (d35.pat p)) (p:=[]) aV auG d35.ok (λp=>aY) (jT aY) (kg aY) (aFR c)).2) (λa c=>(nK (out:=λp=>gd vp 35 0 (d35.pat p)) (p:=[]) aV auG d35.ok (λp=>aY) (jT aY) (kg aY) (aHd a c)).2)
def e35:=eL vp 35 O A35 d35 (λg=>m35 g.1)
def u6{F:bu}(h:bE vp F):bE vp (e35 F):=gj (sc:=A9) ei h35 ⟨_,func35,aY,aY⟩ (λ_=>aY) (λ_=>aY) h
structure me where
 t21:List Int
 (t22 t23:Int)
 (b0 b1 b2:aK)
def RM:Td 0 me:= .c [] [2,4,7,21,22,23] (.r 0 4 (ec 2 (qp 0 0) (ec 4 (qp 1 0) (ec 7 (qp 2 0) (ec 21 (qo 3) (ec 22 aP (ec 23 aP en)))))) (sb 0 34 (lg 34) (sb 1 34 (lg 34) (sb 2 34 (lg 34) (sr 3 3 sn)))) (λz=>⟨z.q.1,z.1.q.1,z.1.q.2.1,z.2.1,z.t.1,z.t.2.1⟩) (λx=>(((),(),(),(),x.t22,x.t23,()),(x.b0,x.b1,x.b2,x.t21,()))))
def GX{α:Type}(p:me)(go:me->aa α)(e1 e2:aa α):aa α:=
 bif vn (p.t23<p.t22)then if 0<=p.t23/\p.t23<zY p.t21 then if 3=3/\zq p.t23<zY p.t21 then bif bif jA p.t21[zq p.t23]! then O else J then e1 else match Gq p.b0 p.t21[zq p.t23]! with|G=>G|V r1=>bif bif fB r1.fst then O else J then match pn p.b2 (jc p.t21[zq p.t23]!)with|G=>G|V r2=>go (me.mk p.t21 p.t22 (ak (p.t23+1)) r1.snd p.b1 r2)else go (me.mk p.t21 p.t22 (ak (p.t23+1)) r1.snd p.b1 p.b2)else G else G else e2
def Dk(p:me):aa (aa me):=
 GX p (λs=>V (V s)) (V G) (V G)
def LO:=bI (Dk)
abbrev azY:=aK×Int
def d161:Td 0 azY:= .c [] [4,5] (.r 0 1 (ec 4 (qp 0 0) (ec 5 aP en)) (sb 0 34 (lg 34) sn) (λz=>(z.2.1,z.1.2.1)) (λx=>(((),x.2,()),(x.1,()))))
def Rv(a0:aK)(a1:af Int):aa azY:=
 match AE a0 with|G=>G|V r3=>bif bif r3 then O else J then V (aK.mk 0 0 0,1)else match m35 a1 with|G=>G|V r4=>match Vm r4 with|G=>G|V r5=>match LO (me.mk r5 (↑(zY r5):Int) 0 a0 (aK.mk 0 0 0) jv)with|G=>G|V r6=>GX r6 (λ_=>G) (V (aK.mk 0 0 0,3)) (match pn r6.b2 r6.b0 with|G=>G|V r9=>V (r9,0))
def aBJ:=eL vp 161 O (lc (qg 34) (lc (ql 3) ln)) d161 (λg=>Rv g.1 g.2.1)
def amV:EO aBJ:=λh=>kL (an:=(noTwo (noTwo (noTwo (noTwo (noTwo (.two (noTwo (RM.lp LO .no)) .no))))))) (l:=[(bk f161 0,(RM.lp LO .no))]) func161 (adW aCI (kE (sS (tL (jt (Le (Bj (lH (u6 aV))))))))) (aA (aO RM) aH) h
def PZ{l:af Int}(h:gI l=J):∀{i j:Nat},i<j->j<zY l->l[i]! <l[j]! :=by
 intro i j hij hj;induction j with
 |zero=>omega
 |succ j ih=>
  have h1:=(jW l).1 h j hj;by_cases hi:i=j
  ·subst hi;exact h1
  ·have:=ih au au;omega
def OR{l:af Int}(h:gI l=J):l.mergeSort (λx y=>vn (x<=y))=l:=by
 apply List.mergeSort_of_pairwise;rw[List.pairwise_iff_getElem];intro i j hi hj hij;have:=PZ h hij hj;rw[getElem!_pos l i hi,getElem!_pos l j hj]at this;simp;omega
def IS:af Int->Int->Int
 |[],x=>x
 |b::l,x=>if x<=b then b else IS l x
def oV(l:af Int)(b x:Int):IS (l++[b]) x=if(∃c∈l,x<=c)then IS l x else if x<=b then b else x:=by
 induction l with
 |nil=>simp[IS]
 |cons c l ih=>
  show (if x<=c then c else IS (l++[b]) x)=_;by_cases h:x<=c
  ·rw[bC h,bC ⟨c,zk ..,h⟩];show c=if x<=c then c else IS l x
   rw[bC h]
  ·rw[bL h,ih];show _=if _ then(if x<=c then c else IS l x)else _
   rw[bL h];by_cases k:∃c∈l,x<=c
   ·obtain⟨d,hd,hx⟩:=k;rw[bC ⟨d,hd,hx⟩,bC ⟨d,zL _ hd,hx⟩]
   ·rw[bL k,bL (show ¬∃d∈c::l,x<=d from λ⟨d,hd,hx⟩=>by
     rcases zx.mp hd with rfl|hd
     ·exact h hx
     ·exact k ⟨d,hd,hx⟩)]
def anO{l:af Int}{x:Int}(h:∃c∈l,x<=c):IS l x∈l:=by
 induction l with
 |nil=>obtain⟨c,hc,_⟩:=h;cases hc
 |cons c l ih=>
  show (if x<=c then c else IS l x)∈_;by_cases k:x<=c
  ·rw[bC k];exact zk ..
  ·rw[bL k];obtain⟨d,hd,hx⟩:=h;rcases zx.mp hd with rfl|hd
   ·exact dU hx k
   ·exact zL _ (ih ⟨d,hd,hx⟩)
def Mw{l:af Int}{x:Int}(h:¬∃c∈l,x<=c):IS l x=x:=by
 induction l with
 |nil=>rfl
 |cons c l ih=>
  show (if x<=c then c else IS l x)=_;rw[bL (λk=>h ⟨c,zk ..,k⟩),ih (λ⟨d,hd,hx⟩=>h ⟨d,zL _ hd,hx⟩)]
def Bd(a:aK)(l:af Int)(y:Int):Prop:=∃x,bR a x/\y=IS l x
def aaM{a:aK}(h:NV a){l:af Int}(hl:∀b∈l,cA b){y:Int}(k:Bd a l y):cA y:=by
 obtain⟨x,hx,rfl⟩:=k;by_cases c:∃c∈l,x<=c
 ·exact hl _ (anO c)
 ·rw[Mw c];exact ZV h hx
structure Od (a:aK) (l:List Int) (i:Nat) (s:aK×aK):Prop where
 rest:Ex (λx=>bR a x/\∀b∈l.take i,b<x) s.1
 out:nC (λy=>∃x,bR a x/\(∃b∈l.take i,x<=b)/\y=IS (l.take i) x) s.2
 v:NV s.2
def Od.step{a:aK}{l:af Int}{i:Nat}{s:aK×aK}(hi:i<zY l)(hl:∀b∈l,cA b)(h:Od a l i s):
  ∃u r,Gq s.1 l[i]! =V (u,r)/\NV u/\(fB u=J->Od a l (i+1) (r,s.2))/\(fB u=O->Od a l (i+1) (r,cE s.2 (eE l[i]!))):=by
 obtain⟨u,r,e,p1,p2⟩:=Bq h.rest.1 l[i]!;have hb:=hl _ (bf hi);have mu:∀x,bR u x↔bR a x/\(∀b∈l.take i,b<x)/\x<=l[i]! :=λx=>
  ⟨λk=>let ⟨k1,k2⟩:=(p1.2 x).mp k;let ⟨k3,k4⟩:=(h.rest.2 x).mp k1;⟨k3,k4,k2⟩,λ⟨k1,k2,k3⟩=>(p1.2 x).mpr ⟨(h.rest.2 x).mpr ⟨k1,k2⟩,k3⟩⟩
 have tk:l.take (i+1)=l.take i++[l[i]!]:=bD hi;have mr:Ex (λx=>bR a x/\∀b∈l.take (i+1),b<x) r:=⟨p2.1,λx=>by
  rw[tk];constructor
  ·intro k;obtain⟨k1,k2⟩:=(p2.2 x).mp k;obtain⟨k3,k4⟩:=(h.rest.2 x).mp k1;refine⟨k3,λb hb=> ?_⟩;rcases zP.mp hb with hb|hb
   ·exact k4 b hb
   ·rw[zo.mp hb];exact k2
  ·rintro⟨k1,k2⟩;exact(p2.2 x).mpr ⟨(h.rest.2 x).mpr ⟨k1,λb hb=>k2 b (yJ _ hb)⟩,k2 _ (yK _ (zo.mpr rfl))⟩⟩
 have eq:∀y,((∃x,bR a x/\(∃b∈l.take i,x<=b)/\y=IS (l.take i) x)\/(y=l[i]!/\∃x,bR u x))↔(∃x,bR a x/\(∃b∈l.take (i+1),x<=b)/\y=IS (l.take (i+1)) x):=λy=>by
  rw[tk];constructor
  ·rintro(⟨x,k1,⟨b,hb,k2⟩,rfl⟩|⟨rfl,x,hx⟩)
   ·exact⟨x,k1,⟨b,yJ _ hb,k2⟩,by rw[oV,bC ⟨b,hb,k2⟩]⟩
   ·obtain⟨k1,k2,k3⟩:=(mu x).mp hx;exact⟨x,k1,⟨_,yK _ (zo.mpr rfl),k3⟩,by rw[oV,bL (λ⟨b,hb,k⟩=>by have:=k2 b hb;omega),bC k3]⟩
  ·rintro⟨x,k1,⟨b,hb,k2⟩,rfl⟩;by_cases c:∃b∈l.take i,x<=b
   ·exact .inl ⟨x,k1,c,by rw[oV,bC c]⟩
   ·have k3:x<=l[i]! :=by
     rcases zP.mp hb with hb|hb
     ·exact dU ⟨b,hb,k2⟩ c
     ·rw[<-zo.mp hb];exact k2
    refine .inr ⟨by rw[oV,bL c,bC k3],x,(mu x).mpr ⟨k1,λb hb=> ?_,k3⟩⟩;rcases Int.lt_or_le b x with q|q
    ·exact q
    ·exact dU ⟨b,hb,q⟩ c
 obtain⟨t1,t2⟩:=og h.out h.v hb (Ex.rep (P:=bR u) ⟨p1.1,λx=>Iff.rfl⟩) p1.1;refine⟨u,r,e,p1.1,λk=>⟨mr,(t1 k).congr eq,h.v⟩,λk=>⟨mr,(t2 k).congr eq,eW h.v (sM hb)⟩⟩
def as4{l:af Int}(h:zY l<=1073741824):m35 l=V l:=by unfold m35;rw[bC h]
def abQ{a:aK}(h:NV a){l:af Int}(hr:gI l=J)(hn:zY l<=1000000)(hl:∀b∈l,cA b):∃c,Rv a l=V (c,0)/\nC (Bd a l) c:=by
 unfold Rv GX;rw[eV,dZ h];simp only[cD];rw[as4 au];simp only;rw[show Vm l=V l from by unfold Vm;rw[gM,OR hr]];simp only;obtain⟨⟨r,o⟩,e1,hI⟩:=cS (rnd:=Dk) (zY l) (λi (s:aK×aK)=>me.mk l (zY l) (i:Nat) s.1 (aK.mk 0 0 0) s.2) (Od a l)
  (λi s hi hI=>by
   obtain⟨u,r,e,vu,q1,q2⟩:=hI.step hi hl;have hb:=hl _ (bf hi);have hbb:jA l[i]! =J:=by rw[kj];exact bX hb
   unfold Dk GX;simp only;rw[oR,cK,gM,zg,bC ⟨trivial,hi⟩,hbb];simp only[cD];rw[e];simp only;rw[jQ hi hn];cases c:fB u with
   |true=>exact⟨(r,s.2),rfl,q1 c⟩
   |false=>
    simp only[cD];rw[ku hI.v (.inr (show NN (jc l[i]!)from NN.one hb.1 hb.2))];exact⟨(r,cE s.2 (eE l[i]!)),rfl,q2 c⟩)
  (λs hI=>by
   unfold Dk GX;simp only;rw[fE];rfl) (b:=(a,cM)) ⟨⟨h,λx=>⟨λk=>⟨k,λb hb=>by simp at hb⟩,λk=>k.1⟩⟩, .none λx ⟨_,_,⟨b,hb,_⟩,_⟩=>by simp at hb, .inl rfl⟩
 have e1:bI Dk (me.mk l (zY l) 0 a (aK.mk 0 0 0) jv)=V (me.mk l (zY l) (zY l:Nat) r (aK.mk 0 0 0) o):=e1;rw[show LO=bI Dk from rfl,e1];simp only;rw[fE,ct,ku hI.v hI.rest.1];refine⟨_,rfl,(hI.out.join hI.rest.rep hI.v hI.rest.1).congr λy=> ?_⟩;rw[zy];constructor
 ·rintro(⟨x,k1,_,k3⟩|⟨k1,k2⟩)
  ·exact⟨x,k1,k3⟩
  ·exact⟨y,k1,(Mw λ⟨b,hb,k⟩=>by have:=k2 b hb;omega).symm⟩
 ·rintro⟨x,k1,k2⟩;by_cases c:∃b∈l,x<=b
  ·exact .inl ⟨x,k1,c,k2⟩
  ·right;rw[Mw c]at k2;subst k2;exact⟨k1,λb hb=>by
    rcases Int.lt_or_le b y with q|q
    ·exact q
    ·exact dU ⟨b,hb,q⟩ c⟩
structure jr where
 t1:List Int
 t9:Int
 t10:Bool
 t11:Int
 (b0 b1 b2:aK)
def TF:Td 0 jr:= .c [] [1,4,7,8,9,10,11] (.r 0 3 (ec 1 (ql 3) (ec 4 (qp 0 0) (ec 7 (qp 1 0) (ec 8 (qp 2 0) (ec 9 aP (ec 10 qb (ec 11 aP en))))))) (sb 0 34 (lg 34) (sb 1 34 (lg 34) (sb 2 34 (lg 34) sn))) (λz=>⟨z.1.1,z.1.q.1,z.1.q.2.1,z.1.q.t.1,z.2.1,z.t.1,z.t.2.1⟩) (λx=>((x.t1,(),(),(),x.t9,x.t10,x.t11,()),(x.b0,x.b1,x.b2,()))))
def rW{α:Type}(p:jr)(go:jr->aa α)(e1:aa α):aa α:=
 bif vn (p.t11<zY p.t1)then if 0<=p.t11/\p.t11<zY p.t1 then bif vn (((p.t1,(),(),(),p.t9,p.t10,p.t11,()),p.b0,p.b1,p.b2,()).snd.snd.snd.fst.ah<=((p.t1,(),(),(),p.t9,p.t10,p.t11,()),p.b0,p.b1,p.b2,()).fst.fst[((p.t1,(),(),(),p.t9,p.t10,p.t11,()),p.b0,p.b1,p.b2,()).fst.snd.snd.snd.snd.snd.snd.fst.toNat]!)then bif bif p.t10 then O else J then if 0<=p.t11/\p.t11<zY p.t1 then go (jr.mk p.t1 p.t1[zq p.t11]! J (ak (p.t11+1)) p.b0 p.b1 p.b2)else G else if 0<=p.t11/\p.t11<zY p.t1 then bif vn (((p.t1,(),(),(),p.t9,p.t10,p.t11,()),p.b0,p.b1,p.b2,()).fst.fst[((p.t1,(),(),(),p.t9,p.t10,p.t11,()),p.b0,p.b1,p.b2,()).fst.snd.snd.snd.snd.snd.snd.fst.toNat]! <((p.t1,(),(),(),p.t9,p.t10,p.t11,()),p.b0,p.b1,p.b2,()).fst.snd.snd.snd.snd.fst)then if 0<=p.t11/\p.t11<zY p.t1 then go (jr.mk p.t1 p.t1[zq p.t11]! J (ak (p.t11+1)) p.b0 p.b1 p.b2)else G else go (jr.mk p.t1 p.t9 p.t10 (ak (p.t11+1)) p.b0 p.b1 p.b2)else G else go (jr.mk p.t1 p.t9 p.t10 (ak (p.t11+1)) p.b0 p.b1 p.b2)else G else e1
def Mp(p:jr):aa (aa jr):=
 rW p (λs=>V (V s)) (V G)
def Hp:=bI (Mp)
structure nJ where
 t1:List Int
 (b0 b1 b2:aK)
def RO:Td 0 nJ:= .c [] [1,4,7,8] (.r 0 3 (ec 1 (ql 3) (ec 4 (qp 0 0) (ec 7 (qp 1 0) (ec 8 (qp 2 0) en)))) (sb 0 34 (lg 34) (sb 1 34 (lg 34) (sb 2 34 (lg 34) sn))) (λz=>⟨z.1.1,z.2.1,z.t.1,z.t.2.1⟩) (λx=>((x.t1,(),(),(),()),(x.b0,x.b1,x.b2,()))))
def vX(p:nJ):aa (aa nJ):=
 bif bif l9 p.b2 then O else J then match Hp (jr.mk p.t1 (0) O (0) p.b0 p.b1 p.b2)with|G=>G|V r1=>rW r1 (λ_=>G) (bif bif r1.t10 then O else J then match nG r1.b1 r1.b2 with|G=>G|V r2=>V (G)else match nG r1.b1 (aK.mk r1.t9 r1.t9 (0))with|G=>G|V r3=>match m42 r1.b2 r1.t9 with|G=>G|V r4=>V (V (nJ.mk r1.t1 r1.b0 r3 r4)))else V (G)
def adj:An:=(noTwo (noTwo (.two (noTwo (TF.lp Hp .no)) .no)))
def Nf:=bI (vX)
structure nZ where
 t1:List Int
 t6:Int
 (b0 b1:aK)
def R8:Td 0 nZ:= .c [] [1,2,4,6] (.r 0 2 (ec 1 (ql 3) (ec 2 (qp 0 0) (ec 4 (qp 1 0) (ec 6 aP en)))) (sb 0 34 (lg 34) (sb 1 34 (lg 34) sn)) (λz=>⟨z.1.1,z.1.t.2.1,z.2.1,z.t.1⟩) (λx=>((x.t1,(),(),x.t6,()),(x.b0,x.b1,()))))
def IA{α:Type}(p:nZ)(go:nZ->aa α)(e1 e2:aa α):aa α:=
 bif vn (p.t6<zY p.t1)then if 0<=p.t6/\p.t6<zY p.t1 then bif bif sA p.t1[zq p.t6]! then O else J then e1 else go (nZ.mk p.t1 (ak (p.t6+1)) p.b0 p.b1)else G else e2
def BS(p:nZ):aa (aa nZ):=
 IA p (λs=>V (V s)) (V G) (V G)
def M5:=bI (BS)
abbrev aAf:=aK×Int
def d172:Td 0 aAf:= .c [] [4,5] (.r 0 1 (ec 4 (qp 0 0) (ec 5 aP en)) (sb 0 34 (lg 34) sn) (λz=>(z.2.1,z.1.2.1)) (λx=>(((),x.2,()),(x.1,()))))
def QU(a0:aK)(a1:af Int):aa aAf:=
 match m84 a0 with|G=>G|V r5=>bif bif r5 then O else J then V ((aK.mk (0) (0) (0),1))else match M5 (nZ.mk a1 (0) a0 (aK.mk (0) (0) (0)))with|G=>G|V r6=>IA r6 (λ_=>G) (V ((aK.mk (0) (0) (0),3))) (match Nf (nJ.mk r6.t1 r6.b1 qD r6.b0)with|G=>G|V r7=>bif bif l9 r7.b2 then O else J then match Hp (jr.mk r7.t1 (0) O (0) r7.b0 r7.b1 r7.b2)with|G=>G|V r8=>rW r8 (λ_=>G) (bif bif r8.t10 then O else J then match nG r8.b1 r8.b2 with|G=>G|V r9=>V ((r9,0))else match nG r8.b1 (aK.mk r8.t9 r8.t9 (0))with|G=>G|V r10=>match m42 r8.b2 r8.t9 with|G=>G|V r11=>G)else V ((r7.b1,0)))
def az8:=eL vp 172 O (lc (qg 34) (lc (ql 3) ln)) d172 (λg=>QU g.1 g.2.1)
def aia:EO az8:=λh=>kL (an:=(noTwo (noTwo (.two (noTwo (R8.lp M5 .no)) (noTwo (.two (RO.lp Nf adj) .no)))))) (l:=[(bk f172 0,(R8.lp M5 .no)),(bk f172 1,(RO.lp Nf adj)),(bk f172 2,(TF.lp Hp .no))]) func172 (sO (sZ (lT (nu (u9 (Un aV)))))) (aA (aO R8) (aA (aO RO) (aA (aO TF) aH))) h
def VY{l:af Int}(hr:gI l=J)(hn:zY l<=1000000)(b0 b1 c:aK):∃best found,Hp (jr.mk l 0 O 0 b0 b1 c)=V (jr.mk l best found (zY l) b0 b1 c)/\
  ((found=O/\∀j,j<zY l->l[j]! <c.ah)\/(found=J/\∃j,j<zY l/\best=l[j]!/\c.ah<=l[j]!/\∀k,k<j->l[k]! <c.ah)):=by
 obtain⟨⟨best,found⟩,e1,hI⟩:=cS (rnd:=Mp) (zY l) (λi (s:Int×Bool)=>jr.mk l s.1 s.2 (i:Nat) b0 b1 c)
  (λi s=>(s.2=O/\∀j,j<i->l[j]! <c.ah)\/(s.2=J/\∃j,j<i/\s.1=l[j]!/\c.ah<=l[j]!/\∀k,k<j->l[k]! <c.ah))
  (λi s hi hI=>by
   have hci:(0:Int)<=(i:Int)/\(i:Int)<(zY l:Int):=au;unfold Mp rW;simp only;rw[bX hci.2,cK,bC hci,zg,jQ hi hn];by_cases h1:c.ah<=l[i]!
   ·rw[bX h1,cK];rcases hI with ⟨h2,h3⟩|⟨h2,j,h3,h4,h5,h6⟩
    ·rw[h2];simp only[cD];rw[bC hci];exact⟨(l[i]!,J),rfl, .inr ⟨rfl,i,au,rfl,h1,h3⟩⟩
    ·rw[h2];simp only[cD];have hlt:l[j]! <l[i]! :=PZ hr h3 hi;rw[bC hci,bW (show ¬l[i]! <s.1 by omega),ct];exact⟨(s.1,J),rfl, .inr ⟨rfl,j,au,h4,h5,h6⟩⟩
   ·rw[bW h1,ct];refine⟨s,rfl,?_⟩;rcases hI with ⟨h2,h3⟩|⟨h2,j,h3,h4⟩
    ·refine .inl ⟨h2,λj hj=> ?_⟩;rcases xk.mp hj with k|rfl
     ·exact h3 j k
     ·omega
    ·exact .inr ⟨h2,j,au,h4⟩)
  (λs hI=>by
   unfold Mp rW;simp only;rw[fE];rfl) (b:=((0:Int),O)) (.inl ⟨rfl,λj hj=>dU hj (y7 _)⟩)
 exact⟨best,found,e1,hI⟩
def aaF{l:af Int}{j:Nat}{x:Int}(hj:j<zY l)(h1:∀k,k<j->l[k]! <x)(h2:x<=l[j]!):IS l x=l[j]! :=by
 induction l generalizing j with
 |nil=>exact dU hj (y7 _)
 |cons b l ih=>
  cases j with
  |zero=>exact bC h2
  |succ j=>
   have h0:b<x:=h1 0 au;show (if x<=b then b else IS l x)=_;rw[qE];exact ih (j:=j) (by simpa using hj) (λk hk=>h1 (k+1) au) h2
def get_of_mem{l:af Int}{b:Int}(h:b∈l):∃j,j<zY l/\l[j]! =b:=by
 obtain⟨j,hj,rfl⟩:=xd h;exact⟨j,hj,getElem!_pos l j hj⟩
def ae2{a:aK}(h:NV a){l:af Int}(hr:gI l=J)(hn:zY l<=1000000)(hl:∀b∈l,cA b):∃c,QU a l=V (c,0)/\nC (Bd a l) c:=by
 unfold QU IA rW;rw[gp,dZ h];simp only[cD];have e0:bI BS (nZ.mk l 0 a (aK.mk 0 0 0))=V (nZ.mk l (zY l:Nat) a (aK.mk 0 0 0)):=PB (rnd:=BS) (λi=>nZ.mk l (i:Nat) a (aK.mk 0 0 0)) (zY l) (λi hi=>by
  unfold BS IA;simp only;rw[oR,cK,gM,zg,FN,bX (hl _ (bf hi)),jQ hi hn];rfl) (λr=>by
  unfold BS IA;simp only;rw[fE];intro h;cases h)
 rw[show M5=bI BS from rfl,e0];simp only;rw[fE,ct];obtain⟨z,e1,⟨o,r,T,rfl,hr1,ho,vo⟩,hs⟩:=mQ (rnd:=vX) (λp=>∃o r T,p=nJ.mk l (aK.mk 0 0 0) o r/\Ex (λx=>bR a x/\T<x) r/\nC (λy=>∃x,bR a x/\x<=T/\y=IS l x) o/\NV o)
  (λp=>if l9 p.b2=J then 0 else(1099511627777-p.b2.ah).toNat) (λp p' ⟨o,r,T,hp,h1,h2,h3⟩ hq=>by
  subst hp;have hq:vX (nJ.mk l (aK.mk 0 0 0) o r)=V (V p'):=hq;unfold vX rW at hq;simp only at hq;rcases h1.1 with rfl|vr
  ·rw[uE]at hq;cases hq
  ·rw[iw vr]at hq;simp only[cD]at hq;obtain⟨best,found,e2,h4⟩:=VY hr hn (aK.mk 0 0 0) o r;rw[e2]at hq;simp only at hq;rw[fE,ct]at hq;rcases h4 with ⟨rfl,h4⟩|⟨rfl,j,hj,rfl,h5,h6⟩
   ·simp only[cD]at hq;rw[gu h3 h1.1]at hq;cases hq
   ·simp only[cD]at hq;have hb:=hl _ (bf hj);obtain⟨u,f1,s1⟩:=Cb h1.1 l[j]!;rw[gu h3 (.inr (show NN (aK.mk l[j]! l[j]! 0)from NN.one hb.1 hb.2)),f1]at hq;simp only[zF.injEq]at hq;subst hq;have lo1:=(h1.2 r.ah).mp ⟨zj _,vr.le,⟨0,au⟩⟩;refine⟨⟨_,_,l[j]!,rfl,⟨s1.1,λx=> ?_⟩,?_,eW h3 (sM hb)⟩,?_⟩
    ·constructor
     ·intro k;obtain⟨k1,k2⟩:=(s1.2 x).mp k;exact⟨((h1.2 x).mp k1).1,k2⟩
     ·rintro⟨k1,k2⟩;exact(s1.2 x).mpr ⟨(h1.2 x).mpr ⟨k1,au⟩,k2⟩
    ·refine(h2.join (Mm l[j]!) h3 (sM hb)).congr λy=> ?_;have mid:∀x,bR a x->T<x->x<=l[j]!->IS l x=l[j]! :=λx k1 k2 k3=>by
      have k4:=(h1.2 x).mpr ⟨k1,k2⟩;have:=k4.1;exact aaF hj (λk hk=>by have:=h6 k hk;omega) k3
     constructor
     ·rintro(⟨x,k1,k2,k3⟩|rfl)
      ·exact⟨x,k1,au,k3⟩
      ·exact⟨r.ah,lo1.1,h5,(mid _ lo1.1 lo1.2 h5).symm⟩
     ·rintro⟨x,k1,k2,rfl⟩;by_cases c:x<=T
      ·exact .inl ⟨x,k1,c,rfl⟩
      ·exact .inr (mid x k1 au k2)
    ·show (if l9 u=J then 0 else(1099511627777-u.ah).toNat)<(if l9 r=J then 0 else(1099511627777-r.ah).toNat);rw[bL (show ¬l9 r=J by rw[iw vr];decide)];have:=vr.le;have:=vr.hi;rcases s1.1 with rfl|vu
     ·rw[bC uE];omega
     ·rw[bL (show ¬l9 u=J by rw[iw vu];decide)];have:=(s1.2 u.ah).mp ⟨zj _,vu.le,⟨0,au⟩⟩;have:=this.2;omega) ⟨cM,a,a.ah-1,rfl,⟨h,λx=>⟨λk=>⟨k,by have:=k.1;omega⟩,λk=>k.1⟩⟩, .none λy ⟨x,k1,k2,_⟩=>by have:=k1.1;omega, .inl rfl⟩
 rw[show Nf=bI vX from rfl,show nJ.mk l (aK.mk 0 0 0) qD a=nJ.mk l (aK.mk 0 0 0) cM a from rfl,e1];simp only;rcases hr1.1 with rfl|vr
 ·rw[uE];refine⟨o,rfl,ho.congr λy=>⟨λ⟨x,k1,_,k3⟩=>⟨x,k1,k3⟩,λ⟨x,k1,k3⟩=>⟨x,k1,?_,k3⟩⟩⟩;rcases Int.lt_or_le T x with q|q
  ·exact dU ((hr1.2 x).mpr ⟨k1,q⟩) Ed
  ·exact q
 ·rw[iw vr];simp only[cD];obtain⟨best,found,e2,h4⟩:=VY hr hn (aK.mk 0 0 0) o r;rw[e2];simp only;rw[fE,ct];rcases h4 with ⟨rfl,h4⟩|⟨rfl,j,hj,rfl,h5,h6⟩
  ·simp only[cD];rw[gu vo hr1.1];refine⟨_,rfl,(ho.join hr1.rep vo hr1.1).congr λy=> ?_⟩;have big:∀x,bR a x->T<x->IS l x=x:=λx k1 k2=>Mw λ⟨b,hb,k3⟩=>by
    obtain⟨j,hj,rfl⟩:=get_of_mem hb;have:=((hr1.2 x).mpr ⟨k1,k2⟩).1;have:=h4 j hj;omega
   constructor
   ·rintro(⟨x,k1,_,k3⟩|⟨k1,k2⟩)
    ·exact⟨x,k1,k3⟩
    ·exact⟨y,k1,(big y k1 k2).symm⟩
   ·rintro⟨x,k1,k3⟩;by_cases c:x<=T
    ·exact .inl ⟨x,k1,c,k3⟩
    ·right;rw[big x k1 au]at k3;subst k3;exact⟨k1,au⟩
  ·exfalso;have hb:=hl _ (bf hj);obtain⟨u,f1,s1⟩:=Cb hr1.1 l[j]!;refine hs _ (show vX _=V (V (nJ.mk l (aK.mk 0 0 0) (cE o (aK.mk l[j]! l[j]! 0)) u))from ?_);unfold vX rW;simp only;rw[iw vr];simp only[cD];rw[e2];simp only;rw[fE,ct];simp only[cD];rw[gu vo (.inr (show NN (aK.mk l[j]! l[j]! 0)from NN.one hb.1 hb.2)),f1]
def O8{a:aK}(h:NV a){l:af Int}(hr:gI l=J)(hn:zY l<=1000000)(hl:∀b∈l,cA b):∃c,Rv a l=V (c,0)/\QU a l=V (c,0)/\nC (Bd a l) c/\NV c:=by
 obtain⟨c,e1,r1⟩:=abQ h hr hn hl;obtain⟨d,e2,r2⟩:=ae2 h hr hn hl;rw[<-r1.uniq r2]at e2;exact⟨c,e1,e2,r1,r1.valid λy hy=>aaM h hl hy⟩
def dy.ne{P:Int->Prop}{c:aK}(h:dy P c):c≠cM:=λe=>by
 have h1:=h.all _ h.lo;rw[e]at h1;have h2:(1:Int)<=0:=xV h1.1 h1.2.1;omega
def NV.nn{c:aK}(h:NV c)(k:c≠cM):NN c:=h.elim (λe=>dU e k) id
def nC.nn{P:Int->Prop}{c:aK}(h:nC P c)(v:NV c){x:Int}(hx:P x):NN c:=by
 rcases h with ⟨_,h⟩|h
 ·exact dU hx (h x)
 ·exact v.nn h.ne
def Up:NN (aK.mk 0 0 0):=NN.one (x:=0) au au
def J1{a b:Bool}(h:(a||b)=true):NN (jb a b):=(AJ a b).nn (by cases a<;>cases b<;>first|(cases h;done)|(intro e;cases e))
def I7(op:Int){a:aK}(h:NN a):NN (si op a).1:=by
 unfold si;split
 ·exact Up
 rw[bL h.ne];split
 ·exact J1 (zero_or h)
 ·exact amm h
def aix{op:Int}{a b:aK}(ha:NN a)(hb:NN b):∃r,pO op a b=V r/\NN r.1:=by
 by_cases ho:binop op
 ·have r1:=ha.ux;have r2:=ha.DL;have r3:=hb.ux;have r4:=hb.DL;by_cases hs:cnt a*cnt b<=4096
  ·rw[pF ho ha hb hs];rcases Ez ho ha hb au with ⟨h1,c,e,h2⟩|⟨_,e⟩
   ·exact⟨_,e,h2.valid h1⟩
   ·exact⟨_,e,Up⟩
  have hbin:=ho;obtain⟨o1,o2⟩:=ho;rcases (show op=8\/op=9\/op=10\/op=11\/op=12\/op=21\/op=22\/(13<=op/\op<=20)by omega)with rfl|rfl|rfl|rfl|rfl|rfl|rfl|h
  ·rcases j6 (op:=8) (.inl rfl) ha hb (λQ h=>Ql ha hb h) (λh=>(tJ ha hb).mpr ⟨fR h (.inl rfl) (.inl rfl),fR h (.inr (.inr rfl)) (.inr (.inr rfl))⟩)with ⟨_,e,hv⟩|⟨_,e⟩
   ·exact⟨_,e,hv⟩
   ·exact⟨_,e,Up⟩
  ·rcases j6 (op:=9) (.inr (.inl rfl)) ha hb (λQ h=>P4 ha hb h) (λh=>(tG ha hb).mpr ⟨fR h (.inl rfl) (.inr (.inr rfl)),fR h (.inr (.inr rfl)) (.inl rfl)⟩)with ⟨_,e,hv⟩|⟨_,e⟩
   ·exact⟨_,e,hv⟩
   ·exact⟨_,e,Up⟩
  ·rcases j6 (op:=10) (.inr (.inr rfl)) ha hb (λQ h=>Rz ha hb h) (λh=>(jU ha hb).mpr ⟨fR h (.inl rfl) (.inl rfl),fR h (.inl rfl) (.inr (.inr rfl)),fR h (.inr (.inr rfl)) (.inl rfl),fR h (.inr (.inr rfl)) (.inr (.inr rfl))⟩)with ⟨_,e,hv⟩|⟨_,e⟩
   ·exact⟨_,e,hv⟩
   ·exact⟨_,e,Up⟩
  all_goals rw[Az hbin ha hb hs];unfold adU
  ·obtain⟨a1,a2⟩:=r1;obtain⟨a3,a4⟩:=r2;simp only[cG,cD,Int.reduceEq];have hm:((max a.ah.natAbs a.ag.natAbs:Nat):Int)<=1099511627776:=au;generalize max a.ah.natAbs a.ag.natAbs=m at*;rw[mZ ⟨au,au⟩ ⟨au,au⟩ au,mZ ⟨au,au⟩ ⟨au,au⟩ au];cases (vn (0<=a.ah)&&vn (0<=b.ah))with
   |true=>exact⟨(jR 0 (m:Int) 1,0),rfl,nh (lo:=0) (hi:=(m:Int)) (st:=1) au au au au⟩
   |false=>exact⟨(jR (-(m:Int)) (m:Int) 1,0),rfl,nh (lo:= -(m:Int)) (hi:=(m:Int)) (st:=1) au au au au⟩
  ·obtain⟨b1,b2⟩:=r3;obtain⟨b3,b4⟩:=r4;simp only[cG,cD,Int.reduceEq];have hp:(if b.ah<0 then b.ah+1 else 0)<=0/\ -1099511627776<=(if b.ah<0 then b.ah+1 else 0):=by split<;>omega
   have hq:0<=(if 0<b.ag then b.ag-1 else 0)/\(if 0<b.ag then b.ag-1 else 0)<=1099511627776:=by split<;>omega
   generalize (if b.ah<0 then b.ah+1 else 0)=p at*;generalize (if 0<b.ag then b.ag-1 else 0)=q at*;rw[mZ ⟨au,au⟩ ⟨au,au⟩ au];exact⟨(jR p q 1,0),rfl,nh (lo:=p) (hi:=q) (st:=1) au au au au⟩
  ·simp only[cG,cD,Int.reduceEq];obtain⟨l',e2,h2⟩:=KQ (eW (.inr ha) (.inr hb)) (min a.ag b.ag);rw[e2];refine⟨_,rfl,h2.rep.nn h2.1 (x:=(cE a b).ah) ⟨?_,?_⟩⟩
   ·rw[gF ha hb];have:=(mK ha hb).le;exact⟨au,this,by rw[Int.sub_self];exact xM _⟩
   ·rw[gF ha hb];show min a.ah b.ah<=_;have:=ha.le;have:=hb.le;omega
  ·simp only[cG,cD,Int.reduceEq];obtain⟨l',e2,h2⟩:=Cb (eW (.inr ha) (.inr hb)) (max a.ah b.ah-1);rw[e2];refine⟨_,rfl,h2.rep.nn h2.1 (x:=(cE a b).ag) ⟨?_,?_⟩⟩
   ·rw[gF ha hb];have:=(mK ha hb).le;exact⟨this,au,(mK ha hb).dvd⟩
   ·rw[gF ha hb];show _<max a.ag b.ag;have:=ha.le;have:=hb.le;omega
  ·rw[XB h ha hb];refine⟨(jb (Bg op a b).1 (Bg op a b).2,0),?_,J1 (U5 h ha hb)⟩;rcases jo h with rfl|rfl|rfl|rfl|rfl|rfl|rfl|rfl<;>rfl
 ·refine⟨(aK.mk 0 0 0,1),?_,Up⟩;unfold pO;rw[gp,gp,dZ (.inr ha),dZ (.inr hb),show I5 op=Ec op from rfl,ki,bW ho];rfl
def qw(op:Int)(a b:aK):aK:=match pO op a b with
 |none=>cM
 |some r=>r.1
def pW(op:Int){a b:aK}(ha:NN a)(hb:NN b):∃c,A5 op a b=V (qw op a b,c)/\pO op a b=V (qw op a b,c)/\NN (qw op a b):=by
 obtain⟨r,e1,e2,_⟩:=Qn op (.inr ha) (.inr hb);obtain⟨r',e3,h⟩:=aix (op:=op) ha hb;have:r'=r:=by rw[e2]at e3;cases e3;rfl
 subst this;unfold qw;rw[e2];exact⟨r'.2,e1,rfl,h⟩
def iZ(a:aK)(lo hi:Int):aK:=match m86 a lo hi with
 |none=>cM
 |some r=>r.1
def iB{a:aK}(ha:NN a)(lo hi:Int):∃c,m81 a lo hi=V (iZ a lo hi,c)/\m86 a lo hi=V (iZ a lo hi,c)/\NN (iZ a lo hi)/\(cA lo->cA hi->lo<=hi->nC (uP a lo hi) (iZ a lo hi)):=by
 rcases T7 (.inr ha) lo hi with ⟨c,e1,e2,h,v,_⟩|⟨e1,e2,hn⟩
 ·unfold iZ;rw[e2];have:=ha.le;exact⟨0,e1,rfl,h.nn v (x:=max lo (min a.ah hi)) ⟨a.ah,⟨au,this,by rw[Int.sub_self];exact xM _⟩,rfl⟩,λ_ _ _=>h⟩
 ·unfold iZ;rw[e2];exact⟨3,e1,rfl,Up,λh1 h2 h3=>dU ⟨h1,h2,h3⟩ hn⟩
def tE(a:aK)(l:af Int):aK:=match QU a l with
 |none=>cM
 |some r=>r.1
def uz{a:aK}(ha:NN a){l:af Int}(hr:gI l=J)(hn:zY l<=1000000)(hl:∀b∈l,cA b):Rv a l=V (tE a l,0)/\QU a l=V (tE a l,0)/\NN (tE a l)/\nC (Bd a l) (tE a l):=by
 obtain⟨c,e1,e2,h,v⟩:=O8 (.inr ha) hr hn hl;unfold tE;rw[e2];have:=ha.le;exact⟨e1,rfl,h.nn v (x:=IS l a.ah) ⟨a.ah,⟨au,this,by rw[Int.sub_self];exact xM _⟩,rfl⟩,h⟩
def j7{a b:aK}(h:NN a)(k:NN b):NN (cE a b):=by rw[gF h k];exact mK h k
structure sI where
 t0:List bh
 t1:Int
 t5:List bh
 t6:Int
def UX:Td 0 sI:= .c [] [0,1,5,6] (.r 0 1 (ec 0 (ql 131) (ec 1 aP (ec 5 (qo 0) (ec 6 aP en)))) (sr 0 131 sn) (λz=>⟨z.1.1,z.1.2.1,z.2.1,z.1.t.2.1⟩) (λx=>((x.t0,x.t1,(),x.t6,()),(x.t5,()))))
def HW{α:Type}(p:sI)(go:sI->aa α)(e1:aa α):aa α:=
 bif vn (p.t6<zY p.t0)then if 0<=p.t6/\p.t6<zY p.t0 then bif vn (p.t0[zq p.t6]!.bS=p.t1)then if 0<=p.t6/\p.t6<zY p.t0 then if(p.t5++[p.t0[zq p.t6]!]).length<=1073741824 then go (sI.mk p.t0 p.t1 (p.t5++[p.t0[zq p.t6]!]) (ak (p.t6+1)))else G else G else go (sI.mk p.t0 p.t1 p.t5 (ak (p.t6+1)))else G else e1
def NL(p:sI):aa (aa sI):=
 HW p (λs=>V (V s)) (V G)
def Nk:=bI (NL)
abbrev aCv:=af bh
def d173:Td 0 aCv:= .c [] [4] (.r 0 1 (ec 4 (qo 0) en) (sr 0 131 sn) (λz=>z.2.1) (λx=>(((),()),(x,()))))
def amT(a0:af bh)(a1:Int):aa aCv:=
 match Nk (sI.mk a0 a1 [] (0))with|G=>G|V r1=>HW r1 (λ_=>G) (V (r1.t5))
def ayg:=eL vp 173 O (lc (ql 131) (aU ln)) d173 (λg=>amT g.1 g.2.1)
def amh:EO ayg:=λh=>kL (an:=(noTwo (noTwo (.two (noTwo (UX.lp Nk .no)) .no)))) (l:=[(bk f173 0,(UX.lp Nk .no))]) func173 aV (aA (aO UX) aH) h
def F89:bu:=(ayg dA)
structure FT where
 t6:List bh
 (t8 t9:Int)
def aeD:Td 0 FT:= .c [] [6,8,9] (.r 0 1 (ec 6 (qo 0) (ec 8 aP (ec 9 aP en))) (sr 0 131 sn) (λz=>⟨z.2.1,z.1.2.1,z.1.t.1⟩) (λx=>(((),x.t8,x.t9,()),(x.t6,()))))
def J9{α:Type}(p:FT)(go:FT->aa α)(e1 e2:aa α):aa α:=
 bif vn (p.t9<zY p.t6)then if 0<=p.t9/\p.t9<zY p.t6 then if 131=131/\zq p.t9<zY p.t6 then if 0<=p.t9/\p.t9<zY p.t6 then if 131=131/\zq p.t9<zY p.t6 then bif vn (4096<ak (p.t8*ak (ak (p.t6[zq p.t9]!.ag-p.t6[zq p.t9]!.ah)+1)))then e1 else go (FT.mk p.t6 (ak (p.t8*ak (ak (p.t6[zq p.t9]!.ag-p.t6[zq p.t9]!.ah)+1))) (ak (p.t9+1)))else G else G else G else G else e2
def OX(p:FT):aa (aa FT):=
 J9 p (λs=>V (V s)) (V G) (V G)
def YX:=bI (OX)
structure GC where
 t6:List bh
 t7:Int
def afe:Td 0 GC:= .c [] [6,7] (.r 0 1 (ec 6 (qo 0) (ec 7 aP en)) (sr 0 131 sn) (λz=>⟨z.2.1,z.1.2.1⟩) (λx=>(((),x.t7,()),(x.t6,()))))
def PC{α:Type}(p:GC)(go:GC->aa α)(e1 e2:aa α):aa α:=
 bif vn (p.t7<zY p.t6)then if 0<=p.t7/\p.t7<zY p.t6 then if 131=131/\zq p.t7<zY p.t6 then if 0<=p.t7/\p.t7<zY p.t6 then if 131=131/\zq p.t7<zY p.t6 then bif vn (p.t6[zq p.t7]!.ag<p.t6[zq p.t7]!.ah)then e1 else if 0<=p.t7/\p.t7<zY p.t6 then if 131=131/\zq p.t7<zY p.t6 then bif vn (p.t6[zq p.t7]!.ah< -1048576)then e1 else if 0<=p.t7/\p.t7<zY p.t6 then if 131=131/\zq p.t7<zY p.t6 then bif vn (1048576<p.t6[zq p.t7]!.ag)then e1 else go (GC.mk p.t6 (ak (p.t7+1)))else G else G else G else G else G else G else G else G else e2
def Xl(p:GC):aa (aa GC):=
 PC p (λs=>V (V s)) (V G) (V G)
def Vz:=bI (Xl)
abbrev E89:=Int×Int
def d89:Td 0 E89:= .c [] [4,5] (.r 0 0 (ec 4 aP (ec 5 aP en)) sn (λz=>(z.1.1,z.1.2.1)) (λx=>((x.1,x.2,()),(()))))
def aEO:∀f∈([]:af Nat),bA (F89) f:=aH
def m89(a0:af bh)(a1:Int):aa E89:=
 match (bif bif vn (a1=0)then O else J then bif bif vn (a1=1)then O else J then bif bif vn (a1=2)then O else J then V (bif vn (a1=3)then O else J)else V (O)else V (O)else V (O))with|G=>G|V r1=>bif r1 then V ((0,1))else match amT a0 a1 with|G=>G|V r2=>match Vz (GC.mk r2 (0))with|G=>G|V r3=>PC r3 (λ_=>G) (V ((0,3))) (match YX (FT.mk r3.t6 (1) (0))with|G=>G|V r4=>J9 r4 (λ_=>G) (V ((0,4))) (V ((r4.t8,0))))
def e89:=eL vp 89 O (lc (ql 131) (aU ln)) d89 (λg=>m89 g.1 g.2.1)
def avt:EO e89:=λh=>kL (F:=F89) (an:=(noTwo (.two (.two (.rb [] 23) .no) (noTwo (.two (noTwo (afe.lp Vz .no)) (noTwo (.two (noTwo (aeD.lp YX .no)) .no))))))) (l:=[(.skip,(.rb [] 23)),(bk f89 0,(afe.lp Vz .no)),(bk f89 1,(aeD.lp YX .no))]) func89 (amh aV) (aA aEO (aA (aO afe) (aA (aO aeD) aH))) h
def QH:EP e89:=λh=>kP h
def F24:bu:=(e90 (e89 (e78 (e53 dA))))
abbrev E24:=Bool
def d24:Td 0 E24:= .c [] [8] (.r 0 0 (ec 8 qb en) sn (λz=>z.1.1) (λx=>((x,()),(()))))
def azs:∀f∈([53,78]:af Nat),bA (F24) f:=(aA (QJ (QH (Bp (OL bG)))) (aA (QJ (QH (Bp (OL bG)))) aH))
def m24(a0:aS)(a1:Int)(a2:Int)(a3:Int):aa E24:=
 match match m53 a0 (10) (80)with|G=>G|V r1=>bif bif r1 then O else J then V (J)else match m78 a0 with|G=>G|V r2=>V (bif vn (r2=0)then O else J)with|G=>G|V r3=>bif r3 then V (O)else match m89 a0.ai (1)with|G=>G|V r4=>match m89 a0.ai (2)with|G=>G|V r5=>match m89 a0.ai (3)with|G=>G|V r6=>match r90 a0.bM with|G=>G|V r7=>match bif vn (r4.fst<=a1)then bif vn (r5.fst<=a2)then bif vn (r6.fst<=a3)then V (vn (r7.fst<=400))else V (O)else V (O)else V (O)with|G=>G|V r8=>V (r8)
def e24:=eL vp 24 O (lc (qg 26) (aU (aU (aU ln)))) d24 (λg=>m24 g.1 g.2.1 g.t.1 g.t.2.1)
def ase:EO e24:=λh=>kL (F:=F24) (an:=(noTwo (.two (.two (.rb [53,78] 25) .no) (noTwo (noTwo (noTwo (noTwo (.two (.rb [53,78] 8) .no)))))))) (l:=[(.skip,(.rb [53,78] 25)),(.skip,(.rb [53,78] 8))]) func24 (aeV (avt (ael (avg aV)))) (aA azs (aA azs aH)) h
def HV:EP e24:=λh=>kP h
structure aJJ where
 t0:List bh
 (t6 t7 t8:Int)
 t9:List Int
 t10:Bool
 t11:Int
 b0:nN
def aEs:bu:=dA
abbrev asu:=Int
def d248:Td 0 asu:= .c [] [2] (.r 0 0 (ec 2 aP en) sn (λz=>z.1.1) (λx=>((x,()),(()))))
def azz:=(lc qb ln)
def aoZ:An:= .no
def Zr(a0:Bool):asu:=
 bif a0 then 1 else 0
def aGi(a0:Bool):bZ vp (aEs) 300 (aoZ) 248 (azz.c (a0,())) [] 0 d248.rd=V (Zr a0):=by
 refine Eq.trans (b:=(
  bif a0 then V (1)else V (0):aa asu)) aY ?_
 simp only[Zr,cn,cO]
def aDc:=eL vp 248 O azz d248 (λg=>V (Zr g.1))
def alo:EO aDc:=λh=>kL (an:=aoZ) func248 aV aH h (c:=λg=>aGi g.1)
abbrev aG4:=Int
def aFD(a0:Int)(a1:Int):aa aG4:=
 bif vn (a1=0)then V 0 else if¬a1=0then match if¬a1=0then bif bif vn (a0.tmod a1=0)then O else J then V (bif vn (a0<0)==vn (a1<0)then O else J)else V O else G with|G=>G|V r1=>bif r1 then V (ak (ak (a0.tdiv a1)-1))else V (ak (a0.tdiv a1))else G
structure aHz where
 t0:List Int
 (t1 t5:Int)
 t6:Bool
 t7:Int
structure aI7 where
 t1:List Int
 t2:List aB
 t9:Int
 b0:aS
 (b1 b2:pq)
structure aEz where
 t1:List Int
 t9:Int
 b0:aS
 b1:aB
 (b2 b3:pq)
structure aJK where
 (t1 t5:List Int)
 t6:Int
 b0:aS
structure E9 where
 (t0 t1:List Int)
 t5:Int
def afW:Td 0 E9:= .c [] [0,1,5] (.r 0 0 (ec 0 (ql 3) (ec 1 (ql 3) (ec 5 aP en))) sn (λz=>⟨z.1.1,z.1.2.1,z.1.t.1⟩) (λx=>((x.t0,x.t1,x.t5,()),(()))))
def J7{α:Type}(p:E9)(go:E9->aa α)(e1 e2:aa α):aa α:=
 bif vn (p.t5<zY p.t0)then if 0<=p.t5/\p.t5<zY p.t0 then if 0<=p.t5/\p.t5<zY p.t1 then bif bif vn (((p.t0,p.t1,p.t5,()),()).fst.fst[((p.t0,p.t1,p.t5,()),()).fst.snd.snd.fst.toNat]! =((p.t0,p.t1,p.t5,()),()).fst.snd.fst[((p.t0,p.t1,p.t5,()),()).fst.snd.snd.fst.toNat]!)then O else J then e1 else go (E9.mk p.t0 p.t1 (ak (p.t5+1)))else G else G else e2
def Pb(p:E9):aa (aa E9):=
 J7 p (λs=>V (V s)) (V G) (V G)
def WX:=bI (Pb)
abbrev E98:=Bool
def d98:Td 0 E98:= .c [] [4] (.r 0 0 (ec 4 qb en) sn (λz=>z.1.1) (λx=>((x,()),(()))))
def m98(a0:af Int)(a1:af Int):aa E98:=
 bif bif vn ((zY a0:Int)=(zY a1:Int))then O else J then V O else match WX (E9.mk a0 a1 0)with|G=>G|V r1=>J7 r1 (λ_=>G) (V O) (V J)
def e98:=eL vp 98 O (lc (ql 3) (lc (ql 3) ln)) d98 (λg=>m98 g.1 g.2.1)
def avs:EO e98:=λh=>kL (an:=(noTwo (noTwo (.two (noTwo (afW.lp WX .no)) .no)))) (l:=[(bk f98 0,(afW.lp WX .no))]) func98 aV (aA (aO afW) aH) h
def aep:EP e98:=λh=>kP h
def F31:bu:=(e98 dA)
abbrev E31:=Bool
def d31:Td 0 E31:= .c [] [4] (.r 0 0 (ec 4 qb en) sn (λz=>z.1.1) (λx=>((x,()),(()))))
def aF0:∀f∈([98]:af Nat),bA (F31) f:=(aA (aep bG) aH)
def m31(a0:aC)(a1:aC):aa E31:=
 match bif vn (a0.aI=a1.aI)then match m98 a0.aM a1.aM with|G=>G|V r1=>V (r1)else V (O)with|G=>G|V r2=>V (r2)
def e31:=eL vp 31 O (lc (qg 47) (lc (qg 47) ln)) d31 (λg=>m31 g.1 g.2.1)
def afa:EO e31:=λh=>kL (F:=F31) (an:=(noTwo (.two (.rb [98] 4) .no))) (l:=[(.skip,(.rb [98] 4))]) func31 (avs aV) (aA aF0 aH) h
def Rf:EP e31:=λh=>kP h
def DG(b:Bool):Int:=if b=J then 1 else 0
def azA(a b:Int):Int:=if b=0 then 0 else if a.tmod b≠0/\vn (a<0)≠vn (b<0)then a.tdiv b-1 else a.tdiv b
def aHL(a b:Int):Int:=if b=0 then 0 else a-b*azA a b
def PW(o a b:Int):Int:=
 if o=8 then a+b else if o=9 then a-b else if o=10 then a*b else if o=11 then azA a b else if o=12 then aHL a b
 else if o=13 then DG (vn (a=b))else if o=14 then DG (vn (a≠b))else if o=15 then DG (vn (a<b))else if o=16 then DG (vn (a<=b))
 else if o=17 then DG (vn (b<a))else if o=18 then DG (vn (b<=a))else if o=19 then DG (vn (a≠0/\b≠0))else if o=20 then DG (vn (a≠0\/b≠0))
 else if o=21 then(if a<b then a else b)else(if b<a then a else b)
def VIn(vars:af bh)(vals:af Int):Prop:=zY vals=zY vars/\∀i,i<zY vars->vars[i]!.ah<=vals[i]!/\vals[i]!<=vars[i]!.ag
def Yg{vars:af bh}{inp:Bool}{t:az}(hf:dI vars inp t=J):(0<=(cg t.bF).1/\(cg t.bF).1<=zY t.aq/\(zY t.aq:Int)<=(cg t.bF).2)/\(t.bF=24->0<=t.fN/\t.fN<zY vars):=by
 rw[mh]at hf;have h:=(zi _ _▸hf).1;unfold Dz at h;rw[zi,decide_eq_true_iff]at h;refine⟨h.1,λh24=> ?_⟩;have h2:=h.2;simp only[h24,Int.reduceEq,reduceIte,zi,decide_eq_true_eq]at h2;exact h2.1
def Qt(o:Int)(h:0<=(cg o).1):((o=0\/o=24)/\cg o=(0,0))\/((o=6\/o=7)/\cg o=(1,1))\/((8<=o/\o<=22)/\cg o=(2,2))\/(o=23/\cg o=(3,3))\/(o=25/\cg o=(2,33)):=by
 unfold cg at h ⊢;split
 ·exact .inl ⟨‹_›,rfl⟩
 rename_i h1;rw[bL h1]at h;split
 ·exact .inr (.inl ⟨‹_›,rfl⟩)
 rename_i h2;rw[bL h2]at h;split
 ·exact .inr (.inr (.inl ⟨‹_›,rfl⟩))
 rename_i h3;rw[bL h3]at h;split
 ·exact .inr (.inr (.inr (.inl ⟨‹_›,rfl⟩)))
 rename_i h4;rw[bL h4]at h;split
 ·exact .inr (.inr (.inr (.inr ⟨‹_›,rfl⟩)))
 ·rename_i h5;rw[bL h5]at h;simp at h
def JE(M:aS->af aB->Bool->aa mV)(f:aS)(l A B:af aB)(top:Bool)(n i a b:Int)(ha:M f A O=V a)(hb:M f B O=V b):
  Ci M ⟨l,top,l,n,i,[A,B],2,0,f⟩=V ⟨l,top,l,n,i,[A,B],2,if a≠0 then 0 else if b≠0 then 1 else 2,f⟩:=by
 have w0:ak 1=1:=rfl;have w1:ak 2=2:=rfl;have r1:CK M ⟨l,top,l,n,i,[A,B],2,0,f⟩=if a≠0 then V G else V (V ⟨l,top,l,n,i,[A,B],2,1,f⟩):=by
  unfold CK Dj;by_cases h:a=0<;>simp[ha,w0]
 have r2:CK M ⟨l,top,l,n,i,[A,B],2,1,f⟩=if b≠0 then V G else V (V ⟨l,top,l,n,i,[A,B],2,2,f⟩):=by
  unfold CK Dj;by_cases h:b=0<;>simp[hb,w1]
 have r3:CK M ⟨l,top,l,n,i,[A,B],2,2,f⟩=V G:=by
  rfl
 unfold Ci;by_cases h1:a≠0
 ·rw[bC h1]at r1 ⊢;exact cq λr=>by rw[r1];simp
 ·rw[bL h1]at r1 ⊢;rw[bP r1];by_cases h2:b≠0
  ·rw[bC h2]at r2 ⊢;exact cq λr=>by rw[r2];simp
  ·rw[bL h2]at r2 ⊢;rw[bP r2];exact cq λr=>by rw[r3];simp
def Ww(n i:Nat)(hn:n<=1000000):vn ((i:Int)=ak ((n:Int)-1))=vn (i+1=n):=by
 rw[aL];apply decide_eq_decide.2;omega
def aev(M:aS->af aB->Bool->aa mV)(f:aS)(hv:cZ f.ai)(l:af aB)(hl:zY l<=1000000)(top:Bool)(hM:∀s∈l,M f s.aQ O=V (b8 f O s.aQ)/\M f s.aX O=V (b8 f O s.aX))(i:Nat)(hi:i<zY l):
  (stC f top (zY l) i l[i]! =0->CE M ⟨l,top,l,(zY l:Int),(i:Int),f⟩=V (V ⟨l,top,l,(zY l:Int),((i+1:Nat):Int),f⟩))/\(stC f top (zY l) i l[i]!≠0->CE M ⟨l,top,l,(zY l:Int),(i:Int),f⟩=V G):=by
 have hw:=jQ hi hl;obtain⟨k1,k2⟩:=hM _ (bf hi);have hin:=JE M f l l[i]!.aQ l[i]!.aX top (zY l:Int) (i:Int) _ _ k1 k2;have hlen:(zY ([l[i]!.aQ,l[i]!.aX]:af (af aB)):Int)=2:=rfl;have hi1:(i:Int)<(zY l:Int):=au;have hi0:(0:Int)<=(i:Int):=au;unfold CE Dj stC pg;simp only[zg,az.eta,aB.eta,WD,Ww (zY l) i hl,EH f.ai hv,hlen,hin,hi1];have e1':(bif top then some (bif dM f l[i]! (vn (i+1=zY l))then false else true)else some (bif dM f l[i]! false then false else true))=some (bif dM f l[i]! (top&&vn (i+1=zY l))then false else true):=by cases top<;>rfl
 rw[e1'];have hS:dM f l[i]! (top&&vn (i+1=zY l))=J->Ve l[i]! =V (vw l[i]!):=λh=>XG _ (jK h).1;revert hS;generalize dM f l[i]! (top&&vn (i+1=zY l))=S;intro hS;generalize l[i]!.aQ=A at k1 hin ⊢;generalize l[i]!.aX=B at k2 hin ⊢;cases S with
 |false=>simp
 |true=>
  rw[hS rfl];generalize vw l[i]! =N;cases N with
  |false=>simp
  |true=>
   generalize fu f.ai O l[i]!.aF=T;generalize b8 f O A=a at*;generalize b8 f O B=b at*;by_cases hT:T=0
   ·by_cases ha:a=0
    ·by_cases hb:b=0
     ·simp[hT,ha,hb,hw]
     ·simp[hT,ha,hb,k2]
    ·simp[hT,ha,k1]
   ·simp[hT]
def akB(M:aS->af aB->Bool->aa mV)(f:aS)(hv:cZ f.ai)(l:af aB)(hl:zY l<=1000000)(top:Bool)(hM:∀s∈l,M f s.aQ O=V (b8 f O s.aQ)/\M f s.aX O=V (b8 f O s.aX)):aiD M f l top=V (b8 f top l):=by
 obtain⟨i,e1,hc⟩:=ud (rnd:=CE M) l (λi=>⟨l,top,l,(zY l:Int),(i:Int),f⟩) (stC f top (zY l)) (λi hi=>aev M f hv l hl top hM i hi) (by unfold CE Dj;simp);have e1':L9 M ⟨l,top,l,(zY l:Int),0,f⟩=V ⟨l,top,l,(zY l:Int),(i:Int),f⟩:=e1;rw[sL f top (zY l) l 0 au]at hc;unfold aiD;rw[e1'];rcases hc with ⟨rfl,hc⟩|⟨hi,h0,hc⟩
 ·rw[hc];simp
 ·rw[hc];obtain⟨k1,k2⟩:=hM _ (bf hi);have hin:=JE M f l l[i]!.aQ l[i]!.aX top (zY l:Int) (i:Int) _ _ k1 k2;have hlen:(zY ([l[i]!.aQ,l[i]!.aX]:af (af aB)):Int)=2:=rfl;have hi1:(i:Int)<(zY l:Int):=au;have hi0:(0:Int)<=(i:Int):=au;revert h0;unfold stC pg;simp only[zg,az.eta,aB.eta,WD,Ww (zY l) i hl,EH f.ai hv,hlen,hin,hi1];have e1':(bif top then some (bif dM f l[i]! (vn (i+1=zY l))then false else true)else some (bif dM f l[i]! false then false else true))=some (bif dM f l[i]! (top&&vn (i+1=zY l))then false else true):=by cases top<;>rfl
  rw[e1'];have hS:dM f l[i]! (top&&vn (i+1=zY l))=J->Ve l[i]! =V (vw l[i]!):=λh=>XG _ (jK h).1;revert hS;generalize dM f l[i]! (top&&vn (i+1=zY l))=S;intro hS;generalize l[i]!.aQ=A at k1 hin ⊢;generalize l[i]!.aX=B at k2 hin ⊢;cases S with
  |false=>simp
  |true=>
   rw[hS rfl];generalize vw l[i]! =N;cases N with
   |false=>simp
   |true=>
    generalize fu f.ai O l[i]!.aF=T;generalize b8 f O A=a at*;generalize b8 f O B=b at*;by_cases hT:T=0
    ·by_cases ha:a=0
     ·by_cases hb:b=0
      ·simp[hT,ha,hb]
      ·simp[hT,ha,hb,k2]
     ·simp[hT,ha,k1]
    ·simp[hT]
def Lp(f:aS)(hv:cZ f.ai):∀(n:Nat) (l:af aB) (top:Bool),ze l<n->fK l<=1000->U0 n f l top=V (b8 f top l)
 |0,_,_,h,_=>au
 |n+1,l,top,h,h2=>akB (U0 n) f hv l (by have:=ko l;omega) top (λs hs=>⟨Lp f hv n _ _ (by have:=bw hs;omega) (by have:=gC hs;omega),Lp f hv n _ _ (by have:=bw hs;omega) (by have:=gC hs;omega)⟩)
def ajG(f:aS)(hv:cZ f.ai)(l:af aB)(top:Bool)(h:fK l<=1000):ail f l top=V (b8 f top l):=eM (ze l+1) λn hn=>Lp f hv n l top au h
def WL{f:aS}{s:aB}{last:Bool}(h:dM f s last=J)(c:Int)(hc:c=if s.b9=2 then 67108864 else 10000):
  ((bif vn (s.bg<0)then V J else bif vn (c<s.bg)then V J else bif vn (s.fN<0)then V J else bif vn (s.b9=4)then V (vn (4096<s.fN))else V O):aa Bool)=V (!(vn (0<=s.bg/\s.bg<=c)&&(if s.b9=4 then vn (0<=s.fN/\s.fN<=4096)else J))):=by
 obtain⟨b1,b2,b3,b4,b5⟩:=jK h;by_cases h1:s.bg<0
 ·simp[h1]
 by_cases h2:c<s.bg
 ·simp[h2]
 by_cases h3:s.fN<0
 ·have h4:s.b9=4:=by
   omega
  simp[h3,h4]
 by_cases h4:s.b9=4
 ·simp[h1,h2,h3];by_cases h5:4096<s.fN
  ·grind
  ·simp_all
 ·simp[h1,h2,h3,h4,show 0<=s.bg by omega,show s.bg<=c by omega]
def WS{f:aS}{s:aB}{last:Bool}(h:dM f s last=J):
  ((bif vn (0<(zY s.aR:Int))then if(0:Int)<=ak ((zY s.aR:Int)-(1:Int))/\ak ((zY s.aR:Int)-(1:Int))<(zY s.aR:Int)then V (vn (67108864<s.aR[(ak ((zY s.aR:Int)-1)).toNat]!))else G else V O):aa Bool)=V (!(if s.b9=6 then vn (s.aR[zY s.aR-1]!<=67108864)else J)):=by
 obtain⟨b1,b2,b3,b4,b5⟩:=jK h;by_cases h6:s.b9=6
 ·obtain⟨b1,b2⟩:=b1 h6;have hw:ak ((zY s.aR:Int)-1)=(zY s.aR:Int)-1:=aL;have hw2:((zY s.aR:Int)-1).toNat=zY s.aR-1:=au;rw[hw,hw2,oR,cK,bC ⟨au,au⟩,bC h6];generalize s.aR[zY s.aR-1]! =B;by_cases h:67108864<B
  ·simp[h]
  ·simp[h];omega
 ·rw[bW (by have:=b2 h6;omega),bL h6];rfl
def amF(M:aS->af aB->Bool->aa pY)(f:aS)(hv:cZ f.ai)(l:af aB)(hl:zY l<=1000000)(hB:∀s∈l,zY s.aR<=1000000)(top:Bool)(hM:∀s∈l,M f s.aQ O=V (b8 f O s.aQ)/\M f s.aX O=V (b8 f O s.aX))(i:Nat)(hi:i<zY l):
  (stC f top (zY l) i l[i]! =0->B0 M ⟨l,top,(i:Int),f⟩=V (V ⟨l,top,((i+1:Nat):Int),f⟩))/\(stC f top (zY l) i l[i]!≠0->B0 M ⟨l,top,(i:Int),f⟩=V G):=by
 have hw:=jQ hi hl;obtain⟨k1,k2⟩:=hM _ (bf hi);have hb:=hB _ (bf hi);have hi1:(i:Int)<(zY l:Int):=au;have hi0:(0:Int)<=(i:Int):=au;unfold B0 stC pg;simp only[zg,az.eta,aB.eta,Vt f l[i]! _ hb,Ww (zY l) i hl,Em f.ai hv,hw,hi1];have e1':(bif top then some (bif dM f l[i]! (vn (i+1=zY l))then false else true)else some (bif dM f l[i]! false then false else true))=some (bif dM f l[i]! (top&&vn (i+1=zY l))then false else true):=by cases top<;>rfl
 rw[e1'];cases hS:dM f l[i]! (top&&vn (i+1=zY l))with
 |false=>simp
 |true=>
  have hn:=WL hS;rw[WS hS];unfold vw;generalize (if l[i]!.b9=6 then vn (l[i]!.aR[zY l[i]!.aR-1]!<=67108864)else J)=B6;by_cases h2:l[i]!.b9=2
  ·grind
  ·rw[bL h2]at hn ⊢;rw[bW h2,hn 10000 rfl];generalize (vn (0<=l[i]!.bg/\l[i]!.bg<=10000)&&(if l[i]!.b9=4 then vn (0<=l[i]!.fN/\l[i]!.fN<=4096)else J))=N;generalize fu f.ai O l[i]!.aF=T;generalize l[i]!.aQ=A at k1 ⊢;generalize l[i]!.aX=B at k2 ⊢;generalize b8 f O A=a at*;generalize b8 f O B=b at*;cases N with
   |false=>simp
   |true=>
    cases B6 with
    |false=>simp
    |true=>
     by_cases hT:T=0
     ·by_cases ha:a=0
      ·by_cases hb:b=0
       ·simp[hT,ha,hb,k1,k2]
       ·simp[hT,ha,hb,k1,k2]
      ·simp[hT,ha,k1]
     ·simp[hT]
def anS(M:aS->af aB->Bool->aa pY)(f:aS)(hv:cZ f.ai)(l:af aB)(hl:zY l<=1000000)(hB:∀s∈l,zY s.aR<=1000000)(top:Bool)(hM:∀s∈l,M f s.aQ O=V (b8 f O s.aQ)/\M f s.aX O=V (b8 f O s.aX)):agO M f l top=V (b8 f top l):=by
 obtain⟨i,e1,hc⟩:=ud (rnd:=B0 M) l (λi=>⟨l,top,(i:Int),f⟩) (stC f top (zY l)) (λi hi=>amF M f hv l hl hB top hM i hi) (by unfold B0;simp);have e1':Ny M ⟨l,top,0,f⟩=V ⟨l,top,(i:Int),f⟩:=e1;rw[sL f top (zY l) l 0 au]at hc;unfold agO;rw[e1'];dsimp only;rcases hc with ⟨rfl,hc⟩|⟨hi,h0,hc⟩
 ·simp_all
 ·rw[hc];obtain⟨k1,k2⟩:=hM _ (bf hi);have hb:=hB _ (bf hi);have hi1:(i:Int)<(zY l:Int):=au;have hi0:(0:Int)<=(i:Int):=au;revert h0;unfold stC pg;simp only[zg,az.eta,aB.eta,Vt f l[i]! _ hb,Ww (zY l) i hl,Em f.ai hv,hi1];have e1':(bif top then some (bif dM f l[i]! (vn (i+1=zY l))then false else true)else some (bif dM f l[i]! false then false else true))=some (bif dM f l[i]! (top&&vn (i+1=zY l))then false else true):=by cases top<;>rfl
  rw[e1'];cases hS:dM f l[i]! (top&&vn (i+1=zY l))with
  |false=>simp
  |true=>
   have hn:=WL hS;rw[WS hS];unfold vw;generalize (if l[i]!.b9=6 then vn (l[i]!.aR[zY l[i]!.aR-1]!<=67108864)else J)=B6;by_cases h2:l[i]!.b9=2
   ·rw[bC h2]at hn ⊢;rw[bX h2,hn 67108864 rfl];generalize (vn (0<=l[i]!.bg/\l[i]!.bg<=67108864)&&(if l[i]!.b9=4 then vn (0<=l[i]!.fN/\l[i]!.fN<=4096)else J))=N;generalize fu f.ai O l[i]!.aF=T;generalize l[i]!.aQ=A at k1 ⊢;generalize l[i]!.aX=B at k2 ⊢;generalize b8 f O A=a at*;generalize b8 f O B=b at*;cases N with
    |false=>simp
    |true=>
     cases B6 with
     |false=>simp
     |true=>
      by_cases hT:T=0
      ·by_cases ha:a=0
       ·by_cases hb:b=0
        ·simp[hT,ha,hb]
        ·simp[hT,ha,hb,k1,k2]
       ·simp[hT,ha,k1]
      ·simp[hT]
   ·rw[bL h2]at hn ⊢;rw[bW h2,hn 10000 rfl];generalize (vn (0<=l[i]!.bg/\l[i]!.bg<=10000)&&(if l[i]!.b9=4 then vn (0<=l[i]!.fN/\l[i]!.fN<=4096)else J))=N;generalize fu f.ai O l[i]!.aF=T;generalize l[i]!.aQ=A at k1 ⊢;generalize l[i]!.aX=B at k2 ⊢;generalize b8 f O A=a at*;generalize b8 f O B=b at*;cases N with
    |false=>simp
    |true=>
     cases B6 with
     |false=>simp
     |true=>
      by_cases hT:T=0
      ·by_cases ha:a=0
       ·by_cases hb:b=0
        ·simp[hT,ha,hb]
        ·simp[hT,ha,hb,k1,k2]
       ·simp[hT,ha,k1]
      ·simp[hT]
def LQ(f:aS)(hv:cZ f.ai):∀(n:Nat) (l:af aB) (top:Bool),ze l<n->fK l<=1000->Vl n f l top=V (b8 f top l)
 |0,_,_,h,_=>au
 |n+1,l,top,h,h2=>anS (Vl n) f hv l (by have:=ko l;omega) (λs hs=>by have:=Et hs;have:=qh s;omega) top (λs hs=>⟨LQ f hv n _ _ (by have:=bw hs;omega) (by have:=gC hs;omega),LQ f hv n _ _ (by have:=bw hs;omega) (by have:=gC hs;omega)⟩)
def akY(f:aS)(hv:cZ f.ai)(l:af aB)(top:Bool)(h:fK l<=1000):aiv f l top=V (b8 f top l):=eM (ze l+1) λn hn=>LQ f hv n l top au h
def aci(f:aS)(hv:cZ f.ai)(hl:zY f.ax<=1000000)(i:Nat)(hi:i<zY f.ax):
  (lu f i f.ax[i]! =0->CL ⟨f.ax,(zY f.ax:Int),(i:Int),f⟩=V (V ⟨f.ax,(zY f.ax:Int),((i+1:Nat):Int),f⟩))/\(lu f i f.ax[i]!≠0->CL ⟨f.ax,(zY f.ax:Int),(i:Int),f⟩=V G):=by
 have hw:=jQ hi hl;have h2:=VR (f.ax.take i) (by rw[zD];omega) f.ax[i]!;unfold CL lu;simp only[az.eta,dN.eta,Es,EE,EH f.ai hv];grind
def alJ(f:aS)(hv:cZ f.ai)(hl:zY f.ax<=1000000):aic f=V (cu (lu f) f.ax 0):=by
 obtain⟨i,e1,hc⟩:=ud (rnd:=CL) f.ax (λi=>⟨f.ax,(zY f.ax:Int),(i:Int),f⟩) (lu f) (λi hi=>aci f hv hl i hi) (by unfold CL;simp);have e1':Nw ⟨f.ax,(zY f.ax:Int),0,f⟩=V ⟨f.ax,(zY f.ax:Int),(i:Int),f⟩:=e1;unfold aic;rw[e1'];rcases hc with ⟨rfl,hc⟩|⟨hi,h0,hc⟩
 ·simp_all
 ·rw[hc];have h2:=VR (f.ax.take i) (by rw[zD];omega) f.ax[i]!;revert h0;unfold lu;simp only[az.eta,dN.eta,Es,EE,EH f.ai hv];grind
def ajW(f:aS)(hv:cZ f.ai)(hl:zY f.ax<=1000000)(i:Nat)(hi:i<zY f.ax):
  (lu f i f.ax[i]! =0->JG ⟨(i:Int),f⟩=V (V ⟨((i+1:Nat):Int),f⟩))/\(lu f i f.ax[i]!≠0->JG ⟨(i:Int),f⟩=V G):=by
 have hw:=jQ hi hl;obtain⟨j,h2,h3⟩:=Q5 f hl i au f.ax[i]!;unfold JG DF lu;simp only[zg,az.eta,EK,EN,h2,Em f.ai hv];grind
def afi(f:aS)(hv:cZ f.ai)(hl:zY f.ax<=1000000):∃i:Nat,Yl ⟨0,f⟩=V ⟨(i:Int),f⟩/\((i=zY f.ax/\cu (lu f) f.ax 0=0)\/(i<zY f.ax/\lu f i f.ax[i]!≠0/\cu (lu f) f.ax 0=lu f i f.ax[i]!)):=
 ud (rnd:=JG) f.ax (λi=>⟨(i:Int),f⟩) (lu f) (λi hi=>ajW f hv hl i hi) (by unfold JG DF;simp)
def B9{f:aS}{i:Nat}(hi:i<zY f.ax):kS ((f.ax.take i).map (·.aF))+nT f.ax[i]!.aF<=kS (f.ax.map (·.aF)):=by
 have h:=GK (f.ax.map (·.aF)) (i+1);rw[<-xL,bD hi,zO,EJ]at h
 assumption
def anP(f:aS)(h:fK f.bM+kS (f.ax.map (·.aF))<=900)(hl:zY f.ax<=1000000):ahj f=V (qU f):=by
 unfold ahj BX qU;by_cases h1:64<(zY f.ai:Int)
 ·grind
 by_cases h2:8<(zY f.ax:Int)
 ·grind
 rw[bW h1,bW h2,bX (show zY f.ai<=64 by omega),bX (show zY f.ax<=8 by omega)];dsimp only[ct,cK];have hb:=EX f.bM;rw[aiL f.bM au];obtain⟨i,b,e1,hI,hc⟩:=jj (rnd:=Hf) (zY f.ax) (λi (b:Int)=>⟨b,(i:Int),f⟩) (λi b=>(0<=b/\b<=fK f.bM+kS ((f.ax.take i).map (·.aF)))/\∀j,j<i->dT f.ax[j]!.aF<=12) (λi _=>12<dT f.ax[i]!.aF) (λi b hi hI=>by
  have hn:=B9 hi;have hw:=jQ hi hl;have k1:=KL f.ax[i]!.aF au;have k2:=Nh f.ax[i]!.aF au;have hi1:(i:Int)<(zY f.ax:Int):=au;have hi0:(0:Int)<=(i:Int):=au;by_cases hd:12<dT f.ax[i]!.aF
  ·refine .inr ⟨?_,hd⟩;unfold Hf BX;simp only[cG,az.eta,k1,k2,hi1,hi0,cK,cW,hd]
  ·refine .inl ⟨b+nT f.ax[i]!.aF,?_,⟨au,?_⟩,λj hj=> ?_⟩
   ·have hw2:ak (b+(nT f.ax[i]!.aF:Int))=b+nT f.ax[i]!.aF:=aL;unfold Hf BX;simp only[cG,cD,az.eta,k1,k2,hi1,hi0,cW,hd,hw,hw2]
   ·rw[bD hi,zO,EJ];simp only[yf,yT,rN];omega
   ·rcases xk.1 hj with h|h
    ·exact hI.2 j h
    ·subst h;omega) (λb _=>by unfold Hf BX;simp) (b:=gT f.bM) ⟨⟨au,by simp only[wh,yT,show kS []=0 from rfl];omega⟩,λj hj=>dU hj au⟩
 have e1':LS ⟨gT f.bM,0,f⟩=V ⟨b,(i:Int),f⟩:=e1;dsimp only;rw[e1'];dsimp only;rcases hc with rfl|⟨hi,hd⟩
 ·rw[bW (show ¬((zY f.ax:Int)<(zY f.ax:Int))by omega),ct];have ha:f.ax.all (λh=>vn (dT h.aF<=12))=J:=Gi λj hj=>by simpa using hI.2 j hj
  have hn:=hI.1.2;rw[zy]at hn;rw[ha,bX (show b<=1024 by omega),cK,ahG f.bM au,aiY f.bM au];by_cases h5:jZ f.bM<=12
  ·cases fJ f.bM<;>simp[h5]
  ·simp[h5]
 ·have hn:=B9 hi;have k1:=KL f.ax[i]!.aF au;have k2:=Nh f.ax[i]!.aF au;have hi1:(i:Int)<(zY f.ax:Int):=au;have hi0:(0:Int)<=(i:Int):=au;have ha:f.ax.all (λh=>vn (dT h.aF<=12))=O:=Bv hi (by simpa using hd);simp only[cG,az.eta,k1,k2,hi1,hi0,cK,cW,hd,ha,Bool.and_false,Bool.false_and]
def aks(M:af aB->Int->bq->aa tT)(l:af aB)(hM:∀s∈l,∀(d:Int) (b:bq),0<=d->d<=13->0<=b.bH->(b.bH+fK s.aQ<=1000->M s.aQ d b=V (oS d s.aQ b))/\(b.bH+fK s.aX<=1000->M s.aX d b=V (oS d s.aX b)))(d:Int)(b:bq)(h0:0<=d)(hd:d<=13)(h1:0<=b.bH)(h2:b.bH+fK l<=1000):akX M l d b=V (oS d l b):=by
 have hL:=ko l;have hw1:ak (d+1)=d+1:=aL;have hgo:∀(l:af aB) (i:Nat) (b:bq),Qg (λ_ (b:bq) (s:aB)=>if fM (dH d b)=J then(.inr (dH d b):bq ⊕ bq)else .inl (oS (d+1) s.aX (oS (d+1) s.aQ (BP s.aF 1 (dH d b))))) id id l i b=oS d l b:=by
  intro l;induction l with
  |nil=>intro i b;rw[oS];rfl
  |cons s l ih=>
   intro i b;rw[oS];by_cases ho:fM (dH d b)=J
   ·rw[bC ho,pV (r:=dH d b) (by rw[bC ho])];rfl
   ·rw[bL ho,tK (b':=oS (d+1) s.aX (oS (d+1) s.aQ (BP s.aF 1 (dH d b)))) (by rw[bL ho])];exact ih (i+1) _
 have hm:∀(b:bq) (x:Bool),-1000000<=b.bH->b.bH<=1000000->x=(b.fL||vn (12<d))->kO ⟨ak (b.bH+1),x⟩=(fM (dH d b),dH d b):=λb x b1 b2 hx=>by
  rw[Bw,aL,hx];rfl
 have hs:∀(i:Nat) (b:bq),i<zY l->0<=b.bH->b.bH+nS l[i]!<=1000->fM (dH d b)=O->d<=12/\Na l[i]!.aF 1 (dH d b)=V (BP l[i]!.aF 1 (dH d b))/\M l[i]!.aQ (d+1) (BP l[i]!.aF 1 (dH d b))=V (oS (d+1) l[i]!.aQ (BP l[i]!.aF 1 (dH d b)))/\M l[i]!.aX (d+1) (oS (d+1) l[i]!.aQ (BP l[i]!.aF 1 (dH d b)))=V (oS (d+1) l[i]!.aX (oS (d+1) l[i]!.aQ (BP l[i]!.aF 1 (dH d b))))/\0<=(oS (d+1) l[i]!.aX (oS (d+1) l[i]!.aQ (BP l[i]!.aF 1 (dH d b)))).bH/\(oS (d+1) l[i]!.aX (oS (d+1) l[i]!.aQ (BP l[i]!.aF 1 (dH d b)))).bH<=b.bH+nS l[i]! :=λi b hi b1 b2 ho=>by
  have hd2:d<=12:=by unfold fM dH at ho;grind
  have hN:=qh l[i]!;have hp:(dH d b).bH=b.bH+1:=rfl;obtain⟨a1,a2,a3⟩:=Mu l[i]!.aF 1 (dH d b) au au au;obtain⟨c1,c2,c3⟩:=Tw (d+1) l[i]!.aQ (BP l[i]!.aF 1 (dH d b)) au au au au;obtain⟨g1,g2,g3⟩:=Tw (d+1) l[i]!.aX (oS (d+1) l[i]!.aQ (BP l[i]!.aF 1 (dH d b))) au au au au;exact⟨hd2,XR _ 1 _ au au au au,(hM _ (bf hi) (d+1) _ au au au).1 au,(hM _ (bf hi) (d+1) _ au au au).2 au,au,au⟩
 obtain⟨i,v,e1,hI,hc⟩:=YJ (rnd:=Gv M) l (λi (b:bq)=>⟨d,l,(zY l:Int),(i:Int),b⟩) (λ_ (b:bq) (s:aB)=>if fM (dH d b)=J then(.inr (dH d b):bq ⊕ bq)else .inl (oS (d+1) s.aX (oS (d+1) s.aQ (BP s.aF 1 (dH d b))))) id id (λi x=>0<=x.bH/\x.bH<=b.bH+fK (l.take i)) (λi x hi hx=>by
   have hn:=E8 hi;have hw:=jQ hi au;have hi1:(i:Int)<(zY l:Int):=au;have hi0:(0:Int)<=(i:Int):=au;have hmx:=hm x;cases ho:fM (dH d x)with
   |true=>
    refine⟨λb' hb'=>by simp at hb',λr hr=> ?_⟩;unfold Gv;dsimp only;simp only[hi1];cases hb:x.fL with
    |true=>rw[hmx J au au (by rw[hb];rfl),ho];rfl
    |false=>rw[hmx (vn (12<d)) au au (by rw[hb];rfl),ho];rfl
   |false=>
    obtain⟨q0,q1,q2,q3,q4,q5⟩:=hs i x hi hx.1 au ho;refine⟨λb' hb'=> ?_,λr hr=>by simp at hr⟩;have hb':oS (d+1) l[i]!.aX (oS (d+1) l[i]!.aQ (BP l[i]!.aF 1 (dH d x)))=b':=by simpa using hb'
    subst hb';refine⟨?_,⟨q4,by rw[bD hi,QN];omega⟩⟩;unfold Gv;dsimp only;simp only[cG,hi1,hi0,cW];cases hb:x.fL with
    |true=>rw[hmx J au au (by rw[hb];rfl),ho];simp only[cD,az.eta,q1,q2,q3,hw1,hw]
    |false=>rw[hmx (vn (12<d)) au au (by rw[hb];rfl),ho];simp only[cD,az.eta,q1,q2,q3,hw1,hw]) (λx _=>by unfold Gv;simp) (b:=b) ⟨h1,by simp[fK]⟩
 have e1':Lm M ⟨d,l,(zY l:Int),0,b⟩=V ⟨d,l,(zY l:Int),(i:Int),v⟩:=e1;rw[hgo]at hc;unfold akX;rw[e1'];dsimp only;rcases hc with ⟨rfl,hc⟩|⟨hi,r,hr,hc⟩
 ·rw[hc,fE];rfl
 ·have hn:=E8 hi;have hi1:(i:Int)<(zY l:Int):=au;have hi0:(0:Int)<=(i:Int):=au;have ho:fM (dH d v)=J:=by
   by_cases ho:fM (dH d v)=J
   ·exact ho
   ·rw[bL ho]at hr;cases hr
  rw[bC ho]at hr;cases hr;rw[hc];have hmx:=hm v;simp only[cG,hi1,hi0,cK,cW];cases hb:v.fL with
  |true=>rw[hmx J au au (by rw[hb];rfl),ho];rfl
  |false=>rw[hmx (vn (12<d)) au au (by rw[hb];rfl),ho];rfl
def M8:∀(n:Nat) (l:af aB) (d:Int) (b:bq),ze l<n->0<=d->d<=13->0<=b.bH->b.bH+fK l<=1000->TO n l d b=V (oS d l b)
 |0,_,_,_,h,_,_,_,_=>au
 |n+1,l,d,b,h,h0,hd,h1,h2=>aks (TO n) l (λs hs d b a1 a2 a3=>⟨λa4=>M8 n _ d b (by have:=bw hs;omega) a1 a2 a3 a4,λa4=>M8 n _ d b (by have:=bw hs;omega) a1 a2 a3 a4⟩) d b h0 hd h1 h2
def amL(l:af aB)(d:Int)(b:bq)(h0:0<=d)(hd:d<=13)(h1:0<=b.bH)(h2:b.bH+fK l<=1000):ad8 l d b=V (oS d l b):=eM (ze l+1) λn hn=>M8 n l d b au h0 hd h1 h2
def alO(f:aS)(h:fK f.bM+kS (f.ax.map (·.aF))<=900)(hl:zY f.ax<=1000000):∃r q,ad8 f.bM 1 ⟨0,O⟩=V r/\Gw ⟨f.ax,(zY f.ax:Int),0,f,r⟩=V ⟨f.ax,(zY f.ax:Int),(zY f.ax:Int),f,q⟩/\fM q= !(f.ax.all (λh=>vn (dT h.aF<=12))&&vn (jZ f.bM<=12)&& !fJ f.bM):=by
 obtain⟨p1,p2,p3⟩:=Tw 1 f.bM ⟨0,O⟩ au au (zj 0) (by show (0:Int)+_<=_;omega);have p2:0<=(oS 1 f.bM ⟨0,O⟩).bH:=p2;have p3:(oS 1 f.bM ⟨0,O⟩).bH<=0+fK f.bM:=p3;refine⟨oS 1 f.bM ⟨0,O⟩,?_⟩;have p4:=amL f.bM 1 ⟨0,O⟩ au au (zj 0) (by show (0:Int)+_<=_;omega);generalize oS 1 f.bM ⟨0,O⟩=r at*;obtain⟨q,e1,hI⟩:=cS (rnd:=FA) (zY f.ax) (λi (q:bq)=>⟨f.ax,(zY f.ax:Int),(i:Int),f,q⟩) (λi q=>q.fL=(r.fL||(f.ax.take i).any λh=>vn (12<dT h.aF))/\0<=q.bH/\q.bH<=r.bH+kS ((f.ax.take i).map (·.aF))) (λi q hi hI=>by
  have hn:=B9 hi;have hw:=jQ hi hl;have hi1:(i:Int)<(zY f.ax:Int):=au;have hi0:(0:Int)<=(i:Int):=au;have hn2:kS ((f.ax.take (i+1)).map (·.aF))=kS ((f.ax.take i).map (·.aF))+nT f.ax[i]!.aF:=by
   rw[bD hi,zO,EJ];rfl
  have ha:((f.ax.take (i+1)).any λh=>vn (12<dT h.aF))=(((f.ax.take i).any λh=>vn (12<dT h.aF))||vn (12<dT f.ax[i]!.aF)):=by
   rw[bD hi,List.any_append,List.any_cons,List.any_nil,Bool.or_false]
  rw[ha,hn2];obtain⟨q1,q2,q3⟩:=hI;cases ho:fM q with
  |true=>
   refine⟨q,?_,?_,q2,au⟩
   ·unfold FA CG;dsimp only;simp only[cG,cD,hi1,hi0,cW,Bw,ho,hw]
   ·unfold fM at ho;rw[bW (show ¬1024<q.bH by omega),Bool.or_false]at ho;rw[<-Bool.or_assoc,<-q1,ho];rfl
  |false=>
   obtain⟨c1,c2,c3⟩:=Mu f.ax[i]!.aF 1 q au q2 au;have k:=XR f.ax[i]!.aF 1 q au au q2 au;refine⟨BP f.ax[i]!.aF 1 q,?_,?_,au,au⟩
   ·unfold FA CG;dsimp only;simp only[cG,cD,az.eta,hi1,hi0,cW,Bw,ho,hw,k]
   ·rw[c1,q1,Bool.or_assoc];rw[show vn (12<1-1+dT f.ax[i]!.aF)=vn (12<dT f.ax[i]!.aF)from decide_eq_decide.2 au]) (λq _=>by unfold FA CG;simp) (b:=r) ⟨by simp,p2,by simp[kS]⟩
 have e1':Gw ⟨f.ax,(zY f.ax:Int),0,f,r⟩=V ⟨f.ax,(zY f.ax:Int),(zY f.ax:Int),f,q⟩:=e1;refine⟨q,p4,e1',?_⟩;rw[zy]at hI;obtain⟨q1,q2,q3⟩:=hI;unfold fM;rw[bW (show ¬1024<q.bH by omega),Bool.or_false,q1,p1];have e2:(f.ax.any λh=>vn (12<dT h.aF))= !(f.ax.all λh=>vn (dT h.aF<=12)):=by
  rw[List.not_all_eq_any_not]
  congr 1
  funext h
  by_cases hd:dT h.aF<=12
  ·simp[hd]
  ·simp[hd];omega
 have e3:vn (12<1-1+jZ f.bM)= !vn (jZ f.bM<=12):=by
  by_cases hd:jZ f.bM<=12
  ·simp[hd]
  ·simp[hd];omega
 rw[e2,e3];generalize (f.ax.all λh=>vn (dT h.aF<=12))=x;generalize vn (jZ f.bM<=12)=y;generalize fJ f.bM=z;cases x<;>cases y<;>cases z<;>rfl
def Da:af aB->Prop
 |[]=>True
 |s::l=>(0<=s.bg/\s.bg<=67108864)/\(s.b9=4->0<=s.fN/\s.fN<=4096)/\(s.b9≠3->s.b9≠4->s.aQ=[])/\(s.b9≠3->s.aX=[])/\Da s.aQ/\Da s.aX/\Da l
termination_by l=>ze l
decreasing_by
 ·exact(bw (zk ..)).1
 ·exact(bw (zk ..)).2
 ·exact dY _ _
def as1{s:aB}(h:vw s=J):(0<=s.bg/\s.bg<=67108864)/\(s.b9=4->0<=s.fN/\s.fN<=4096):=by
 unfold vw at h;grind
def CJ(f:aS):∀(n:Nat) (l:af aB) (top:Bool),ze l<n->b8 f top l=0->Da l
 |0,_,_,h,_=>au
 |n+1,[],top,h,hc=>by rw[Da];trivial
 |n+1,s::l,top,h,hc=>by
  rw[b8]at hc;have hz:=bw (l:=s::l) (zk ..);have hz2:=dY s l;by_cases h1:pg f (top&&l.isEmpty) s≠0
  ·omega
  rw[bL h1]at hc;by_cases h2:b8 f O s.aQ≠0
  ·omega
  rw[bL h2]at hc;by_cases h3:b8 f O s.aX≠0
  ·omega
  rw[bL h3]at hc;have q1:=CJ f n s.aQ O au au;have q2:=CJ f n s.aX O au au;have q3:=CJ f n l top au hc;unfold pg at h1;cases hS:dM f s (top&&l.isEmpty)with
  |false=>rw[hS]at h1;simp at h1
  |true=>
   rw[hS]at h1;cases hN:vw s with
   |false=>rw[hN]at h1;simp at h1
   |true=>
    obtain⟨n1,n2⟩:=as1 hN;obtain⟨b1,b2,b3,b4,b5⟩:=jK hS;rw[Da];simp_all
def IG(s:aB)(a b:Int×Int×Int):Int×Int×Int:=
 if s.b9=1 then(1,1,s.bg)
 else if s.b9=3 then(1+max a.1 b.1,max a.2.1 b.2.1,s.bg+max a.2.2 b.2.2)
 else if s.b9=4 then(1+s.fN*(1+a.1),s.fN*a.2.1,s.fN*(s.bg+a.2.2))
 else(1,0,s.bg)
def OS(a b:Int×Int×Int):Int×Int×Int:=(a.1+b.1,a.2.1+b.2.1,a.2.2+b.2.2)
def AO(s:aB)(l:af aB):eX (s::l)=OS (IG s (eX s.aQ) (eX s.aX)) (eX l):=by
 rw[eX];unfold IG OS;grind
def P3(l:af aB)(s:aB):eX (l++[s])=OS (eX l) (IG s (eX s.aQ) (eX s.aX)):=by
 have h0:eX []=(0,0,0):=by rw[eX]
 induction l with
 |nil=>rw[yB,AO,h0];unfold OS;simp
 |cons a l ih=>
  rw[xz,AO,AO,ih];unfold OS;grind
def tU(c:Int×Int×Int)(a:Int×Int×Int):Int×Int×Int:=(min a.1 c.1,min a.2.1 c.2.1,min a.2.2 c.2.2)
def alw{n x c k:Int}(hn:0<=n)(hk:0<=k)(hx:0<=x)(hc:0<=c):min (n*(k+min x c)) c=min (n*(k+x)) c:=by
 by_cases h:x<=c
 ·grind
 ·rw[Int.min_eq_right (show c<=x by omega)];by_cases h0:n=0
  ·simp_all
  ·have e1:1*(k+c)<=n*(k+c):=zN au au;have e2:1*(k+x)<=n*(k+x):=zN au au;omega
def p9:∀{l:af aB},Da l->∀s∈l,(0<=s.bg/\s.bg<=67108864)/\(s.b9=4->0<=s.fN/\s.fN<=4096)/\(s.b9≠3->s.b9≠4->s.aQ=[])/\(s.b9≠3->s.aX=[])/\Da s.aQ/\Da s.aX
 |[],_,s,hs=>by cases hs
 |a::l,h,s,hs=>by
  rw[Da]at h;rcases zx.1 hs with rfl|hs
  ·simp_all
  ·exact p9 h.2.2.2.2.2.2 s hs
def nn3(a:Int×Int×Int):Prop:=0<=a.1/\0<=a.2.1/\0<=a.2.2
def auD{s:aB}{a b:Int×Int×Int}(hc:0<=s.bg)(hN:s.b9=4->0<=s.fN)(ha:nn3 a)(hb:nn3 b):nn3 (IG s a b):=by
 unfold nn3 at*;unfold IG;split
 ·simp_all
 ·split
  ·grind
  ·split
   ·rename_i h4;have:=hN h4;have e1:0<=s.fN*(1+a.1):=zJ this au;have e2:0<=s.fN*a.2.1:=zJ this au;have e3:0<=s.fN*(s.bg+a.2.2):=zJ this au;dsimp only;omega
   ·simp_all
def MW:∀(n:Nat) (l:af aB),ze l<n->Da l->nn3 (eX l)
 |0,_,h,_=>au
 |n+1,[],h,_=>by rw[show eX []=(0,0,0)by rw[eX]];exact⟨by decide,by decide,by decide⟩
 |n+1,s::l,h,ho=>by
  have hz:=bw (l:=s::l) (zk ..);have hz2:=dY s l;rw[Da]at ho;have q1:=MW n s.aQ au ho.2.2.2.2.1;have q2:=MW n s.aX au ho.2.2.2.2.2.1;have q3:=MW n l au ho.2.2.2.2.2.2;have q4:=auD ho.1.1 (λh=>(ho.2.1 h).1) q1 q2;rw[AO];unfold nn3 OS at*;grind
def tc{l:af aB}(h:Da l):nn3 (eX l):=MW _ l (zC _) h
def Io:∀{l:af aB} (i:Nat),Da l->Da (l.take i)
 |[],i,h=>by rw[List.take_nil];exact h
 |s::l,0,h=>by rw[wh,Da];trivial
 |s::l,i+1,h=>by
  rw[Da]at h;rw[List.take_succ_cons,Da];exact⟨h.1,h.2.1,h.2.2.1,h.2.2.2.1,h.2.2.2.2.1,h.2.2.2.2.2.1,Io i h.2.2.2.2.2.2⟩
def M3(a:Int×Int×Int):rR:=⟨a.1,a.2.1,a.2.2⟩
def Sq:Int×Int×Int:=(1099511627776,1099511627776,1099511627776)
def LK:Int×Int×Int:=(4097,9,67108865)
def aoh{n x:Int}(h1:0<=n)(h2:n<=4096)(h3:0<=x)(h4:x<=1200000000000):0<=n*x/\n*x<=4915200000000000:=by
 have e1:n*x<=4096*x:=zN h2 h3;have e2:0<=n*x:=zJ h1 h3;omega
def kX(w c:Int):(if c<w then c else w)=min w c:=au
def auy(w c:Int):(if w<c then w else c)=min w c:=au
def Se(a b c:Int):(if min a c<min b c then min b c else min a c)=min (max a b) c:=au
def alu(a b c:Int):(if min b c<min a c then min a c else min b c)=min (max a b) c:=au
section
variable {C x y m k n a:Int} (h0:0<=C) (h1:C<=1099511627776) (hx:0<=x)
include h0 h1 hx
theorem Sy(hy:0<=y)(hy2:y<=67108864):min (ak (min x C+y)) C=min (x+y) C:=by
 rw[aL];omega
theorem aae(hm:0<=m)(hk:0<=k)(hk2:k<=67108864):min (ak (min x C+ak (k+min m C))) C=min (x+(k+m)) C:=by
 have:ak (k+min m C)=k+min m C:=aL;rw[this,aL];omega
theorem aoK(hm:0<=m):min (ak (min x C+min m C)) C=min (x+m) C:=by
 rw[aL];omega
theorem ar6{z:Int}(hz:0<=z)(hy:0<=y)(hy2:y<=4915200000000001)(h:min y C=min z C):min (ak (min x C+y)) C=min (x+z) C:=by
 rw[aL];omega
omit hx in
theorem agf(hn:0<=n)(hn2:n<=4096)(ha:0<=a)(hk:0<=k)(hk2:k<=67108864):ak (n*ak (k+min a C))=n*(k+min a C)/\0<=n*(k+min a C)/\n*(k+min a C)<=4915200000000000/\0<=n*(k+a)/\min (n*(k+min a C)) C=min (n*(k+a)) C:=by
 have e1:ak (k+min a C)=k+min a C:=aL;have e2:=aoh (x:=k+min a C) hn hn2 au au;rw[e1];exact⟨aL,e2.1,e2.2,zJ hn au,alw hn hk ha h0⟩
theorem aDG(hn:0<=n)(hn2:n<=4096)(ha:0<=a)(hk:0<=k)(hk2:k<=67108864):min (ak (min x C+ak (n*ak (k+min a C)))) C=min (x+n*(k+a)) C:=by
 obtain⟨q1,q2,q3,q4,q5⟩:=agf h0 h1 hn hn2 ha hk hk2;rw[q1];exact ar6 h0 h1 hx q4 q2 au q5
theorem aov(hn:0<=n)(hn2:n<=4096)(ha:0<=a):min (ak (min x C+ak (1+ak (n*ak (1+min a C))))) C=min (x+(1+n*(1+a))) C:=by
 obtain⟨q1,q2,q3,q4,q5⟩:=agf (k:=1) h0 h1 hn hn2 ha au au;rw[q1];generalize n*(1+min a C)=y at*;rw[show ak (1+y)=1+y from aL];exact ar6 h0 h1 hx au au au au
theorem ao3(hn:0<=n)(hn2:n<=4096)(ha:0<=a):min (ak (min x C+ak (n*min a C))) C=min (x+n*a) C:=by
 obtain⟨q1,q2,q3,q4,q5⟩:=agf (k:=0) h0 h1 hn hn2 ha au au;rw[Int.zero_add]at q2 q3 q4 q5;rw[Int.zero_add]at q5;rw[show ak (n*min a C)=n*min a C from aL];exact ar6 h0 h1 hx q4 q2 au q5
end
def agC(M:af aB->aa ua)(l:af aB)(hl:zY l<=1000000)(ho:Da l)(hM:∀s∈l,M s.aQ=V (M3 (tU Sq (eX s.aQ)))/\M s.aX=V (M3 (tU Sq (eX s.aX)))):ag4 M l=V (M3 (tU Sq (eX l))):=by
 obtain⟨v,e1,hv⟩:=cS (rnd:=LD M) (zY l) (λi (b:rR)=>⟨l,(zY l:Int),(i:Int),⟨0,0,0⟩,b⟩) (λi b=>b=M3 (tU Sq (eX (l.take i)))) (λi bb hi hb=>by
  have hw:=jQ hi hl;obtain⟨k1,k2⟩:=hM _ (bf hi);obtain⟨⟨c1,c2⟩,hN,_,_,o1,o2⟩:=p9 ho _ (bf hi);obtain⟨x1,x2,x3⟩:=tc (Io i ho);obtain⟨a1,a2,a3⟩:=tc o1;obtain⟨b1,b2,b3⟩:=tc o2;refine⟨M3 (tU Sq (eX (l.take (i+1)))),?_,rfl⟩;have hi1:(i:Int)<(zY l:Int):=au;have hi0:(0:Int)<=(i:Int):=au;rw[bD hi,P3];generalize eX (l.take i)=x at*;generalize eX l[i]!.aQ=a at*;generalize eX l[i]!.aX=b at*;obtain⟨X1,X2,X3⟩:=x;obtain⟨A1,A2,A3⟩:=a;obtain⟨B1,B2,B3⟩:=b;have hb:bb=⟨min X1 1099511627776,min X2 1099511627776,min X3 1099511627776⟩:=hb;have k1:M l[i]!.aQ=V ⟨min A1 1099511627776,min A2 1099511627776,min A3 1099511627776⟩:=k1;have k2:M l[i]!.aX=V ⟨min B1 1099511627776,min B2 1099511627776,min B3 1099511627776⟩:=k2;subst hb;have z0:(0:Int)<=1099511627776:=by decide
  have z1:(1099511627776:Int)<=1099511627776:=by decide
  dsimp only at x1 x2 x3 a1 a2 a3 b1 b2 b3;unfold LD;simp only[zg,hi1,k1,k2,hw];by_cases h1:l[i]!.b9=1
  ·have e:IG l[i]! (A1,A2,A3) (B1,B2,B3)=(1,1,l[i]!.bg):=by unfold IG;rw[bC h1]
   rw[bX h1,cK,e,kX,kX,kX,Sy z0 z1 x1 au au,Sy z0 z1 x2 au au,Sy z0 z1 x3 c1 c2];rfl
  ·rw[bW h1,ct];by_cases h3:l[i]!.b9=3
   ·have e:IG l[i]! (A1,A2,A3) (B1,B2,B3)=(1+max A1 B1,max A2 B2,l[i]!.bg+max A3 B3):=by unfold IG;rw[bL h1,bC h3]
    rw[bX h3,cK,e,Se,Se,Se,kX,kX,kX,aae z0 z1 x1 au au au,aoK z0 z1 x2 au,aae z0 z1 x3 au c1 c2];rfl
   ·rw[bW h3,ct];by_cases h4:l[i]!.b9=4
    ·obtain⟨n1,n2⟩:=hN h4;have e:IG l[i]! (A1,A2,A3) (B1,B2,B3)=(1+l[i]!.fN*(1+A1),l[i]!.fN*A2,l[i]!.fN*(l[i]!.bg+A3)):=by unfold IG;rw[bL h1,bL h3,bC h4]
     rw[bX h4,cK,e,kX,kX,kX,aov z0 z1 x1 n1 n2 a1,ao3 z0 z1 x2 n1 n2 a2,aDG z0 z1 x3 n1 n2 a3 c1 c2];rfl
    ·have e:IG l[i]! (A1,A2,A3) (B1,B2,B3)=(1,0,l[i]!.bg):=by unfold IG;rw[bL h1,bL h3,bL h4]
     rw[bW h4,ct,e,kX,kX,kX,Sy z0 z1 x1 au au,Sy z0 z1 x2 au au,Sy z0 z1 x3 c1 c2];rfl) (λb _=>by unfold LD;simp) (b:=⟨0,0,0⟩) (by rw[wh,show eX []=(0,0,0)by rw[eX]];rfl)
 have e1':NA M ⟨l,(zY l:Int),0,⟨0,0,0⟩,⟨0,0,0⟩⟩=V ⟨l,(zY l:Int),(zY l:Int),⟨0,0,0⟩,v⟩:=e1;unfold ag4;simp_all
def Lq:∀(n:Nat) (l:af aB),ze l<n->fK l<=1000->Da l->TW n l=V (M3 (tU Sq (eX l)))
 |0,_,h,_,_=>au
 |n+1,l,h,h2,ho=>agC (TW n) l (by have:=ko l;omega) ho (λs hs=>⟨Lq n _ (by have:=bw hs;omega) (by have:=gC hs;omega) (p9 ho s hs).2.2.2.2.1,Lq n _ (by have:=bw hs;omega) (by have:=gC hs;omega) (p9 ho s hs).2.2.2.2.2⟩)
def ai7(l:af aB)(h:fK l<=1000)(ho:Da l):afd l=V (M3 (tU Sq (eX l))):=eM (ze l+1) λn hn=>Lq n l au h ho
def au8(M:af aB->aa QG)(l:af aB)(hl:zY l<=1000000)(ho:Da l)(hM:∀s∈l,M s.aQ=V (tU LK (eX s.aQ))/\M s.aX=V (tU LK (eX s.aX))):s90 M l=V (tU LK (eX l)):=by
 obtain⟨v,e1,hv⟩:=cS (rnd:=Wi M) (zY l) (λi (b:Int×Int×Int)=>⟨l,b.1,b.2.1,b.2.2,(i:Int)⟩) (λi b=>b=tU LK (eX (l.take i))) (λi bb hi hb=>by
  have hw:=jQ hi hl;obtain⟨k1,k2⟩:=hM _ (bf hi);obtain⟨⟨c1,c2⟩,hN,hT,hE,o1,o2⟩:=p9 ho _ (bf hi);obtain⟨x1,x2,x3⟩:=tc (Io i ho);obtain⟨a1,a2,a3⟩:=tc o1;obtain⟨b1,b2,b3⟩:=tc o2;have zT:l[i]!.b9≠3->l[i]!.b9≠4->eX l[i]!.aQ=(0,0,0):=λh3 h4=>by rw[hT h3 h4,eX]
  have zE:l[i]!.b9≠3->eX l[i]!.aX=(0,0,0):=λh3=>by rw[hE h3,eX]
  refine⟨tU LK (eX (l.take (i+1))),?_,rfl⟩;have hi1:(i:Int)<(zY l:Int):=au;have hi0:(0:Int)<=(i:Int):=au;rw[bD hi,P3];generalize eX (l.take i)=x at*;generalize eX l[i]!.aQ=a at*;generalize eX l[i]!.aX=b at*;obtain⟨X1,X2,X3⟩:=x;obtain⟨A1,A2,A3⟩:=a;obtain⟨B1,B2,B3⟩:=b;have hb:bb=(min X1 4097,min X2 9,min X3 67108865):=hb;have k1:M l[i]!.aQ=V (min A1 4097,min A2 9,min A3 67108865):=k1;have k2:M l[i]!.aX=V (min B1 4097,min B2 9,min B3 67108865):=k2;subst hb;have z0:(0:Int)<=4097:=by decide
  have z1:(4097:Int)<=1099511627776:=by decide
  have y0:(0:Int)<=9:=by decide
  have y1:(9:Int)<=1099511627776:=by decide
  have u0:(0:Int)<=67108865:=by decide
  have u1:(67108865:Int)<=1099511627776:=by decide
  dsimp only at x1 x2 x3 a1 a2 a3 b1 b2 b3;unfold Wi;simp only[cG,hi1,hi0,cK,cW,k1,k2,hw,s8,oW,auy,alu];by_cases h4:l[i]!.b9=4
  ·obtain⟨n1,n2⟩:=hN h4;have h1:¬l[i]!.b9=1:=au;have h3:¬l[i]!.b9=3:=au;have e:IG l[i]! (A1,A2,A3) (B1,B2,B3)=(1+l[i]!.fN*(1+A1),l[i]!.fN*A2,l[i]!.fN*(l[i]!.bg+A3)):=by unfold IG;rw[bL h1,bL h3,bC h4]
   rw[bX h4,bW h1,cK,ct,e,aov z0 z1 x1 n1 n2 a1,ao3 y0 y1 x2 n1 n2 a2,aDG u0 u1 x3 n1 n2 a3 c1 c2];rfl
  ·rw[bW h4,ct];by_cases h1:l[i]!.b9=1
   ·have h3:¬l[i]!.b9=3:=au;have ea:=zT h3 h4;have eb:=zE h3;cases ea;cases eb;have e:IG l[i]! (0,0,0) (0,0,0)=(1,1,l[i]!.bg):=by unfold IG;rw[bC h1]
    rw[bX h1,cK,e,aae z0 z1 x1 au au au,Sy y0 y1 x2 au au,aae u0 u1 x3 au c1 c2];simp only[tU,LK,OS,Int.max_self,Int.add_zero]
   ·rw[bW h1,ct,aae z0 z1 x1 au au au,aoK y0 y1 x2 au,aae u0 u1 x3 au c1 c2];by_cases h3:l[i]!.b9=3
    ·have e:IG l[i]! (A1,A2,A3) (B1,B2,B3)=(1+max A1 B1,max A2 B2,l[i]!.bg+max A3 B3):=by unfold IG;rw[bL h1,bC h3]
     rw[e];rfl
    ·have ea:=zT h3 h4;have eb:=zE h3;cases ea;cases eb;have e:IG l[i]! (0,0,0) (0,0,0)=(1,0,l[i]!.bg):=by unfold IG;rw[bL h1,bL h3,bL h4]
     rw[e];simp only[tU,LK,OS,Int.max_self,Int.add_zero]) (λb _=>by unfold Wi;simp) (b:=(0,0,0)) (by rw[wh,show eX []=(0,0,0)by rw[eX]];rfl)
 have e1':WC M ⟨l,0,0,0,0⟩=V ⟨l,v.1,v.2.1,v.2.2,(zY l:Int)⟩:=e1;unfold s90;rw[e1'];rw[hv];simp
def Uy:∀(n:Nat) (l:af aB),ze l<n->fK l<=1000->Da l->m90 n l=V (tU LK (eX l))
 |0,_,h,_,_=>au
 |n+1,l,h,h2,ho=>au8 (m90 n) l (by have:=ko l;omega) ho (λs hs=>⟨Uy n _ (by have:=bw hs;omega) (by have:=gC hs;omega) (p9 ho s hs).2.2.2.2.1,Uy n _ (by have:=bw hs;omega) (by have:=gC hs;omega) (p9 ho s hs).2.2.2.2.2⟩)
def agd(l:af aB)(h:fK l<=1000)(ho:Da l):r90 l=V (tU LK (eX l)):=eM (ze l+1) λn hn=>Uy n l au h ho
def Wy(f:aS)(h:fK f.bM+kS (f.ax.map (·.aF))<=900)(hh:zY f.ax<=1000000)(hvl:zY f.ai<=1000000):ab7 f=V (rH f):=by
 obtain⟨r,q,e1,e2,e3⟩:=alO f h hh;unfold ab7 CG rH;rw[e1];dsimp only;rw[e2];dsimp only;rw[bW (show ¬((zY f.ax:Int)<(zY f.ax:Int))by omega),ct,Bw,e3];unfold qU;generalize (f.ax.all λh=>vn (dT h.aF<=12))=x;generalize vn (jZ f.bM<=12)=y;generalize fJ f.bM=z;by_cases h1:64<(zY f.ai:Int)
 ·grind
 by_cases h2:8<(zY f.ax:Int)
 ·grind
 rw[bW h1,bW h2,bX (show zY f.ai<=64 by omega),bX (show zY f.ax<=8 by omega)];simp only[Bool.true_and];cases hx:(x&&y&& !z)with
 |false=>rfl
 |true=>
  rw[aob f.ai hvl];dsimp only[Bool.not_true,ct];rw[bL (by decide)];by_cases hvc:jP f.ai=0
  case neg=>simp[hvc]
  have hv:cZ f.ai:=by
   apply oo;unfold jP at hvc;by_cases h0:cu (nX f.ai) f.ai 0=0
   ·exact h0
   ·rw[bC h0]at hvc;exact dU hvc h0
  rw[bX hvc,cK,ct,bL (by simpa using hvc),alJ f hv hh];dsimp only;by_cases hhc:cu (lu f) f.ax 0=0
  case neg=>simp[hhc]
  rw[bX hhc,cK,ct,bL (by simpa using hhc),ajG f hv f.bM J au];dsimp only;by_cases hsc:b8 f J f.bM=0
  case neg=>simp[hsc]
  have ho:Da f.bM:=CJ f _ f.bM J (zC _) hsc;rw[bX hsc,cK,ct,bL (by simpa using hsc)];have e:=ai7 f.bM au ho;unfold XK;generalize eX f.bM=u at e ⊢;obtain⟨a,b,c⟩:=u;have e:afd f.bM=V ⟨min a 1099511627776,min b 1099511627776,min c 1099511627776⟩:=e;rw[e];by_cases a1:4096<a
  ·simp[a1,show 4096<min a 1099511627776 by omega]
  ·by_cases b1:8<b
   ·simp[b1,show 8<min b 1099511627776 by omega]
   ·by_cases d1:67108864<c
    ·simp[d1,show 67108864<min c 1099511627776 by omega]
    ·simp[a1,b1,d1,show ¬4096<min a 1099511627776 by omega,show ¬8<min b 1099511627776 by omega,show ¬67108864<min c 1099511627776 by omega]
def af5(f:aS)(h:fK f.bM+kS (f.ax.map (·.aF))<=900)(hh:zY f.ax<=1000000)(hvl:zY f.ai<=1000000):m78 f=V (rH f):=by
 unfold m78 DF rH;rw[anP f h hh];dsimp only;cases hx:qU f with
 |false=>rfl
 |true=>
  rw[an8 f.ai hvl];dsimp only[cK,ct];rw[bL (by decide)];by_cases hvc:jP f.ai=0
  case neg=>simp[hvc]
  have hv:cZ f.ai:=by
   apply oo;unfold jP at hvc;omega
  obtain⟨i,e1,hc⟩:=afi f hv hh;rw[bX hvc,cK,ct,bL (by simpa using hvc),e1];dsimp only;rcases hc with ⟨rfl,hc⟩|⟨hi,h0,hc⟩
  ·rw[bL (show ¬(cu (lu f) f.ax 0≠0)by rw[hc];simp),bW (show ¬((zY f.ax:Int)<(zY f.ax:Int))by omega),ct,akY f hv f.bM J au];dsimp only;by_cases hsc:b8 f J f.bM=0
   case neg=>simp[hsc]
   have ho:Da f.bM:=CJ f _ f.bM J (zC _) hsc;rw[bX hsc,cK,ct,bL (show ¬(b8 f J f.bM≠0)by rw[hsc];simp)];have e:=agd f.bM au ho;unfold XK;generalize eX f.bM=u at e ⊢;obtain⟨a,b,c⟩:=u;have e:r90 f.bM=V (min a 4097,min b 9,min c 67108865):=e;rw[e];by_cases a1:4096<a
   ·simp[a1,show 4096<min a 4097 by omega]
   ·by_cases b1:8<b
    ·simp[b1,show 8<min b 9 by omega]
    ·by_cases d1:67108864<c
     ·simp[d1,show 67108864<min c 67108865 by omega]
     ·simp[a1,b1,d1,show ¬4096<min a 4097 by omega,show ¬8<min b 9 by omega,show ¬67108864<min c 67108865 by omega]
  ·obtain⟨j,h2,h3⟩:=Q5 f hh i au f.ax[i]!;rw[bC (show cu (lu f) f.ax 0≠0 by rw[hc];exact h0),hc];have hi1:(i:Int)<(zY f.ax:Int):=au;have hi0:(0:Int)<=(i:Int):=au;revert h0;unfold lu;simp only[zg,az.eta,dN.eta,EK,EN,h2,Em f.ai hv,hi1];generalize kH f.ax[i]!.fName=B;generalize ((f.ax.take i).any λw=>w.fName.toList==f.ax[i]!.fName.toList)=A at h3;generalize jE f.ax[i]!.ah f.ax[i]!.ag=C;generalize fu f.ai J f.ax[i]!.aF=T;rcases h3 with ⟨rfl,rfl⟩|⟨hj,h4,rfl⟩
   ·cases B<;>cases C<;>by_cases hT:T=0<;>simp[hT]
   ·have hj1:(j:Int)<(i:Int):=au;have hj2:(j:Int)<(zY f.ax:Int):=au;have hj0:(0:Int)<=(j:Int):=au;simp only[cG,hj0,hj1,hj2,h4,cW,cK];cases B<;>simp
def kQ{f:aS}(h:rH f=0):cZ f.ai:=by
 unfold rH at h;by_cases h1:qU f=O
 ·simp_all
 by_cases hvc:jP f.ai=0
 ·apply oo;unfold jP at hvc;omega
 ·omega
structure CS where
 (vals outs:List Int)
 time:Int
def jd{f:aS}{top:Bool}{x:aB}{l:af aB}(h:b8 f top (x::l)=0):pg f (top&&l.isEmpty) x=0/\b8 f O x.aQ=0/\b8 f O x.aX=0/\b8 f top l=0:=by
 rw[b8]at h;split at h
 ·exact dU h ‹_›
 rename_i h1;split at h
 ·exact dU h ‹_›
 rename_i h2;split at h
 ·exact dU h ‹_›
 rename_i h3;exact⟨by simpa using h1,by simpa using h2,by simpa using h3,h⟩
structure akl (f:aS) (last:Bool) (x:aB):Prop where
 do_:0<=x.b9/\x.b9<=6
 cost:0<=x.bg/\x.bg<=67108864
 n4:x.b9=4->0<=x.fN/\x.fN<=4096
 var:x.b9=0\/x.b9=5->0<=x.dL/\x.dL<zY f.ai
 n5:x.b9=5->0<=x.fN/\x.fN<zY f.ax
 acv:x.b9=6->last=J/\(1<=zY x.aR/\zY x.aR<=32)/\(0:Int)<=x.aR[0]!/\gI x.aR=J/\x.aR[zY x.aR-1]!<=67108864
 term:fu f.ai O x.aF=0
def sX{f:aS}{last:Bool}{x:aB}(h:pg f last x=0):akl f last x:=by
 unfold pg at h;by_cases h1:dM f x last=O
 ·rw[bC h1]at h;cases h
 rw[bL h1]at h;by_cases h2:vw x=O
 ·rw[bC h2]at h;cases h
 rw[bL h2]at h;have h1:dM f x last=J:=by simpa using h1
 have h2:vw x=J:=by simpa using h2
 unfold vw at h2;simp only[zi,decide_eq_true_eq]at h2;obtain⟨⟨g1,g2⟩,g3⟩:=h2;unfold dM Di at h1;dsimp only at h1;have hd:0<=x.b9/\x.b9<=6:=by
  by_cases a0:x.b9=0
  ·omega
  by_cases a1:x.b9=1
  ·omega
  by_cases a2:x.b9=2
  ·omega
  by_cases a3:x.b9=3
  ·omega
  by_cases a4:x.b9=4
  ·omega
  by_cases a5:x.b9=5
  ·omega
  by_cases a6:x.b9=6
  ·omega
  ·simp[a0,a1,a2,a3,a4,a5,a6]at h1
 refine⟨hd,⟨g1.1,?_⟩,λq=> ?_,λq=> ?_,λq=> ?_,λq=> ?_,h⟩
 ·have:=g1.2;split at this<;>omega
 ·rw[bC q]at g2;simpa using g2
 ·rcases q with q|q
  ·simp[q]at h1;omega
  ·simp[q]at h1;omega
 ·simp[q]at h1;omega
 ·rw[bC q]at g3;simp only[gK,q,Int.reduceEq,zi,decide_eq_true_eq]at h1 g3;exact⟨h1.1.1.1.1.2,h1.2.1.1,h1.2.1.2,h1.2.2,g3⟩
def YT(x:aB)(l:af aB):eX (x::l)=
  (if x.b9=1 then(1+(eX l).1,1+(eX l).2.1,x.bg+(eX l).2.2)
   else if x.b9=3 then(1+max (eX x.aQ).1 (eX x.aX).1+(eX l).1,max (eX x.aQ).2.1 (eX x.aX).2.1+(eX l).2.1,x.bg+max (eX x.aQ).2.2 (eX x.aX).2.2+(eX l).2.2)
   else if x.b9=4 then(1+x.fN*(1+(eX x.aQ).1)+(eX l).1,x.fN*(eX x.aQ).2.1+(eX l).2.1,x.fN*(x.bg+(eX x.aQ).2.2)+(eX l).2.2)
   else(1+(eX l).1,(eX l).2.1,x.bg+(eX l).2.2)):=by rw[eX]
def iT(f:aS):∀(n:Nat) (l:af aB) (top:Bool),ze l<n->b8 f top l=0->0<=(eX l).2.1/\0<=(eX l).2.2
 |0,_,_,h,_=>au
 |n+1,[],_,_,_=>by rw[eX];exact⟨zj _,zj _⟩
 |n+1,x::l,top,h,hc=>by
  obtain⟨h1,h2,h3,h4⟩:=jd hc;have ho:=sX h1;have hs:=bw (zk (a:=x) (l:=l));have ht:=dY x l;have i1:=iT f n x.aQ O au h2;have i2:=iT f n x.aX O au h3;have i3:=iT f n l top au h4;have hcost:=ho.cost;rw[YT];by_cases a1:x.b9=1
  ·rw[bC a1];dsimp only;omega
  by_cases a3:x.b9=3
  ·rw[bL a1,bC a3];dsimp only;omega
  by_cases a4:x.b9=4
  ·rw[bL a1,bL a3,bC a4];have hn:=ho.n4 a4;have p1:=zJ hn.1 i1.1;have p2:=zJ hn.1 (show 0<=x.bg+(eX x.aQ).2.2 by omega);dsimp only;omega
  ·rw[bL a1,bL a3,bL a4];dsimp only;omega
structure Aft (vars:List bh) (s r:CS) (o t:Int):Prop where
 vals:VIn vars r.vals
 outs:(zY s.outs:Int)<=zY r.outs/\(zY r.outs:Int)<=zY s.outs+o
 time:s.time<=r.time/\r.time<=s.time+t
def uO(x:aB):Int×Int:=if x.b9=1 then(1,x.bg)else if x.b9=3 then(max (eX x.aQ).2.1 (eX x.aX).2.1,x.bg+max (eX x.aQ).2.2 (eX x.aX).2.2)
 else if x.b9=4 then(x.fN*(eX x.aQ).2.1,x.fN*(x.bg+(eX x.aQ).2.2))else(0,x.bg)
def ang(x:aB)(l:af aB):(eX (x::l)).2.1=(uO x).1+(eX l).2.1/\(eX (x::l)).2.2=(uO x).2+(eX l).2.2:=by
 rw[YT];unfold uO;split
 ·exact⟨rfl,rfl⟩
 split
 ·exact⟨rfl,rfl⟩
 split
 ·exact⟨rfl,rfl⟩
 ·refine⟨?_,rfl⟩;dsimp only;omega
def Yn{l:af Int}(h:gI l=J):∀{i j:Nat},i<j->j<zY l->l[i]! <l[j]! :=by
 intro i j hij hj;induction j with
 |zero=>omega
 |succ j ih=>
  have h1:=(jW l).1 h j hj;by_cases hi:i=j
  ·subst hi;exact h1
  ·have:=ih au au;omega
structure Bud (f:aS) (top:Bool) (l:List aB) (s:CS):Prop where
 hc:b8 f top l=0
 vals:VIn f.ai s.vals
 t0:0<=s.time
 t:s.time+(eX l).2.2<=134217728
 o:(zY s.outs:Int)+(eX l).2.1<=8
structure aKm (f:aS) (x:aB) (n:Nat) (s:CS):Prop where
 hc:b8 f O x.aQ=0
 term:fu f.ai O x.aF=0
 cost:0<=x.bg
 vals:VIn f.ai s.vals
 t0:0<=s.time
 t:s.time+n*(x.bg+(eX x.aQ).2.2)<=134217728
 o:(zY s.outs:Int)+n*(eX x.aQ).2.1<=8
def drop_cons{α:Type}[Inhabited α]{l:af α}{i:Nat}(h:i<zY l):l.drop i=l[i]! ::l.drop (i+1):=by rw[getElem!_pos l i h];exact yQ h
def Bb{x:aB}{l:af aB}(hx:x∈l):fK x.aQ<=fK l/\fK x.aX<=fK l:=by have:=Et hx;have:=qh x;omega
def AN{f:aS}{x:aB}:∀{top:Bool} {l:af aB},b8 f top l=0->x∈l->∃last,akl f last x
 |_,[],_,h=>by cases h
 |_,y::l,hc,h=>by
  obtain⟨h1,h2,h3,h4⟩:=jd hc;rcases zx.1 h with rfl|h
  ·exact⟨_,sX h1⟩
  ·exact AN h4 h
def tab(n:Nat)(g:Nat->aK):af aK:=(zH n).map g
def gW(n:Nat)(g:Nat->aK):zY (tab n g)=n:=by simp[tab]
def pH{n:Nat}{g:Nat->aK}{i:Nat}(h:i<n):(tab n g)[i]! =g i:=by
 rw[getElem!_pos _ i (by rw[gW];exact h)];simp[tab]
def qO(n:Nat)(g:Nat->aK):tab (n+1) g=tab n g++[g n]:=by simp[tab,wG]
def iy{n:Nat}{g g':Nat->aK}(h:∀i,i<n->g i=g' i):tab n g=tab n g':=
 zX λi hi=>h i (List.mem_range.1 hi)
def KM{n:Nat}{g:Nat->aK}{i:Nat}(x:aK):(tab n g).set i x=tab n (λj=>if j=i then x else g j):=by
 apply xw
 ·simp[tab]
 ·intro j h1 h2;simp only[tab,List.getElem_set,yM,wo];by_cases c:i=j
  ·subst c;simp
  ·rw[bL c,bL (λe=>c e.symm)]
def aee(l:af aK):tab (zY l) (λi=>l[i]!)=l:=by
 apply xw
 ·simp[tab]
 ·intro j h1 h2;simp only[tab,yM,wo];exact getElem!_pos l j h2
def Ue{n:Nat}{g:Nat->aK}{l:af aK}(h1:zY l=n)(h2:∀i,i<n->g i=l[i]!):tab n g=l:=by
 subst h1;rw[iy h2,aee]
def tr(s:ay):aJ:=⟨s.ai,s.aD,s.aG,s.aI⟩
structure eR (n m:Nat) (s:ay):Prop where
 len:zY s.ai=n
 vars:∀i,i<n->NN s.ai[i]!
 count:NN s.aD
 sl:zY s.aG<=m
 slots:∀i,i<zY s.aG->NN s.aG[i]!
 time:NN s.aI
def eR.weak{n m m':Nat}{s:ay}(h:eR n m s)(k:m<=m'):eR n m' s:=⟨h.len,h.vars,h.count,zG h.sl k,h.slots,h.time⟩
def fT(s:ay)(c:Int):ay:=⟨s.ai,s.aD,s.aG,qw 8 s.aI (eE c)⟩
def TM(f:aS)(s:ay)(v:Int)(n:aK):ay:=⟨s.ai.set v.toNat (iZ n f.ai[v.toNat]!.ah f.ai[v.toNat]!.ag),s.aD,s.aG,s.aI⟩
def Zu(s:ay)(v:aK):ay:=
 ⟨s.ai,qw 8 s.aD (eE 1),tab (zY s.aG) (λk=>if cR s.aD k=J then cE s.aG[k]! v else s.aG[k]!)++[v],s.aI⟩
def RE(a b:af aK)(i:Nat):aK:=if zY a<=i then b[i]! else if zY b<=i then a[i]! else cE a[i]! b[i]!
def mU(a b:ay):ay:=
 ⟨tab (zY a.ai) (λi=>cE a.ai[i]! b.ai[i]!),cE a.aD b.aD,tab (max (zY a.aG) (zY b.aG)) (RE a.aG b.aG),cE a.aI b.aI⟩
def mg{c:Int}(h:cA c):NN (eE c):=NN.one h.1 h.2
def nj{n m:Nat}{s:ay}(h:eR n m s){c:Int}(hc:cA c):eR n m (fT s c):=
 ⟨h.len,h.vars,h.count,h.sl,h.slots,let ⟨_,_,_,k⟩:=pW 8 h.time (mg hc);k⟩
def YV{f:aS}{n m:Nat}{s:ay}(h:eR n m s){v:Int}{x:aK}(hx:NN x):eR n m (TM f s v x):=by
 refine⟨?_,λi hi=> ?_,h.count,h.sl,h.slots,h.time⟩
 ·show zY (s.ai.set _ _)=n;rw[zI];exact h.len
 ·show NN (s.ai.set _ _)[i]!;have hl:=h.len;rw[getElem!_pos _ i (by rw[zI];omega),List.getElem_set];split
  ·exact let ⟨_,_,_,k,_⟩:=iB hx f.ai[v.toNat]!.ah f.ai[v.toNat]!.ag;k
  ·have:=h.vars i hi;rw[getElem!_pos _ i au]at this;exact this
def akt{n m:Nat}{s:ay}(h:eR n m s){x:aK}(hx:NN x):eR n (m+1) (Zu s x):=by
 have hs:=h.sl;have hl:zY (Zu s x).aG=zY s.aG+1:=by simp[Zu,gW]
 refine⟨h.len,h.vars,let ⟨_,_,_,k⟩:=pW 8 h.count (mg (c:=1) ⟨by decide,by decide⟩);k,au,λi hi=> ?_,h.time⟩;rw[hl]at hi;have hlt:=gW (zY s.aG) (λk=>if cR s.aD k=J then cE s.aG[k]! x else s.aG[k]!);show NN (tab (zY s.aG) (λk=>if cR s.aD k=J then cE s.aG[k]! x else s.aG[k]!)++[x])[i]!;by_cases c:i<zY s.aG
 ·have hg:=pH (g:=(λk=>if cR s.aD k=J then cE s.aG[k]! x else s.aG[k]!)) c;generalize tab (zY s.aG) (λk=>if cR s.aD k=J then cE s.aG[k]! x else s.aG[k]!)=T at*;rw[getElem!_pos _ i (by rw[zh];omega),wB au,<-getElem!_pos T i au,hg];split
  ·exact j7 (h.slots i c) hx
  ·exact h.slots i c
 ·generalize tab (zY s.aG) (λk=>if cR s.aD k=J then cE s.aG[k]! x else s.aG[k]!)=T at*;rw[getElem!_pos _ i (by rw[zh,ym];omega),wC au];simpa using hx
def awn{a b:af aK}(ha:∀i,i<zY a->NN a[i]!)(hb:∀i,i<zY b->NN b[i]!){i:Nat}(hi:i<max (zY a) (zY b)):NN (RE a b i):=by
 unfold RE;split
 ·exact hb i au
 split
 ·exact ha i au
 ·exact j7 (ha i au) (hb i au)
def Fl{n m:Nat}{s t:ay}(h:eR n m s)(k:eR n m t):eR n m (mU s t):=by
 have h1:=h.len;have h2:=h.sl;have k2:=k.sl;refine⟨by show zY (tab _ _)=n;rw[gW];exact h1,λi hi=> ?_,j7 h.count k.count,by show zY (tab _ _)<=m;rw[gW];omega,λi hi=> ?_,j7 h.time k.time⟩
 ·show NN (tab _ _)[i]!;rw[pH au];exact j7 (h.vars i hi) (k.vars i hi)
 ·have hi:i<zY (tab (max (zY s.aG) (zY t.aG)) (RE s.aG t.aG)):=hi;rw[gW]at hi;show NN (tab _ _)[i]!;rw[pH hi];exact awn h.slots k.slots hi
def uN(i:aK)(ks:af aK):Nat->aK
 |0=>cM
 |n+1=>if cR i n=J then cE (uN i ks n) ks[n]! else uN i ks n
def XQ(vars:af aK)(t:az)(k:af aK):aK:=
 if t.bF=0 then eE t.fN else if t.bF=24 then vars[t.fN.toNat]! else if t.bF=6 then(si 6 k[0]!).1 else if t.bF=7 then(si 7 k[0]!).1
 else if t.bF=23 then(if cR k[0]! 0=O then k[1]! else if cC k[0]! =O then k[2]! else cE k[1]! k[2]!)
 else if t.bF=25 then uN (iZ k[0]! 0 ((zY k:Int)-2)) (k.drop 1) (k.drop 1).length else qw t.bF k[0]! k[1]!
def cI(vars:af aK)(t:az):aK:=XQ vars t (t.aq.attach.map λk=>cI vars k.1)
termination_by ze t
decreasing_by exact az.eT k.2
def Yf(vars:af aK)(t:az):cI vars t=XQ vars t (t.aq.map (cI vars)):=by
 rw[cI];simp
def mapA{vars:af aK}{t:az}{i:Nat}(h:i<zY t.aq):(t.aq.map (cI vars))[i]! =cI vars t.aq[i]! :=by
 rw[getElem!_pos _ i (by simpa using h),getElem!_pos _ i h,yM]
def Ep{i:aK}{ks:af aK}(hk:∀j,j<zY ks->NN ks[j]!):∀n,n<=zY ks->NV (uN i ks n)/\((∃j,j<n/\cR i (j:Nat)=J)->NN (uN i ks n))
 |0,_=>⟨.inl rfl,λ⟨j,h,_⟩=>au⟩
 |n+1,hn=>by
  obtain⟨h1,h2⟩:=Ep (i:=i) hk n au;rw[uN];by_cases c:cR i (n:Nat)=J
  ·rw[bC c];have hv:=eW h1 (.inr (hk n au));have:NN (cE (uN i ks n) ks[n]!):=by
    rcases h1 with e|h
    ·rw[e,GJ];exact hk n au
    ·exact j7 h (hk n au)
   exact⟨hv,λ_=>this⟩
  ·rw[bL c];refine⟨h1,λ⟨j,h,k⟩=>h2 ⟨j,?_,k⟩⟩;by_cases e:j=n
   ·simp_all
   ·omega
def aaB{a:aK}(ha:NN a){n:Nat}(h0:1<=n)(hn:n<=1000000):∃j:Nat,j<n/\cR (iZ a 0 ((n:Int)-1)) (j:Nat)=J:=by
 obtain⟨_,_,_,hv,hr⟩:=iB ha 0 ((n:Int)-1);have hr:=hr ⟨by decide,by decide⟩ ⟨au,au⟩ au;rcases hr with ⟨e,_⟩|hr
 ·exact dU e hv.ne
 ·obtain⟨x,_,h2⟩:=hr.lo;refine⟨(iZ a 0 ((n:Int)-1)).ah.toNat,au,?_⟩;rw[show (((iZ a 0 ((n:Int)-1)).ah.toNat:Nat):Int)=(iZ a 0 ((n:Int)-1)).ah by omega];exact nL ⟨zj _,hv.le,by rw[Int.sub_self];exact xM _⟩
def sV(x:Int):m80 x=eE x:=rfl
def EC(x:Int):m36 x=eE x:=rfl
def It{vars:af bh}{t:az}(h:(iS vars t).isSome=J):∀k∈t.aq,(iS vars k).isSome=J:=λk hk=>by
 rw[Aq]at h;cases ha:mJ (t.aq.map (iS vars))with
 |none=>rw[ha]at h;cases h
 |some r=>
  have hr:=tC ha;have hm:iS vars k∈r.map V:=by rw[<-hr];exact List.mem_map_of_mem hk
  obtain⟨s,h1,h2⟩:=zM.1 hm;rw[<-h2];rfl
def ajK{vars:af bh}{t:az}(h0:t.bF=0)(h:(iS vars t).isSome=J):cA t.fN:=by
 rw[Aq]at h;cases ha:mJ (t.aq.map (iS vars))with
 |none=>rw[ha]at h;cases h
 |some r=>
  rw[ha]at h;dsimp only at h;split at h
  ·rename_i hl;unfold CC jC at hl;simp only[h0,cW,decide_eq_true_eq]at hl;unfold cA;omega
  ·cases h
def adR(M:az->ay->aa qY){vars:af aK}{st:ay}{ks:af az}(hl:zY ks<=1000000)(hK:∀j,j<zY ks->M ks[j]! st=V (cI vars ks[j]!,st)/\NN (cI vars ks[j]!)){H:aK}(hH:NN H)(z:aK):
  L5 M ⟨ks,(zY ks:Int),0,st,z,H,cM⟩=V ⟨ks,(zY ks:Int),(zY ks:Int),st,z,H,uN H (ks.map (cI vars)) (zY ks)⟩:=by
 have hmap:∀j,j<zY ks->(ks.map (cI vars))[j]! =cI vars ks[j]! :=λj h=>by rw[getElem!_pos _ j (by simpa using h),getElem!_pos _ j h,yM]
 have hkn:∀j,j<zY (ks.map (cI vars))->NN (ks.map (cI vars))[j]! :=λj h=>by
  have h:j<zY ks:=by simpa using h
  rw[hmap j h];exact(hK j h).2
 obtain⟨v,e1,hv⟩:=cS (rnd:=L6 M) (zY ks) (λi (_:Unit)=>⟨ks,(zY ks:Int),(i:Int),st,z,H,uN H (ks.map (cI vars)) i⟩) (λi _=>True) (λi b hi _=>by
  have hw:=jQ hi hl;obtain⟨k1,k2⟩:=hK i hi;have i1:(i:Int)<(zY ks:Int):=au;have i2:(0:Int)<=(i:Int):=au;refine⟨(),?_,trivial⟩;unfold L6;by_cases hc:cR H (i:Nat)=J
  ·simp only[cG,i1,i2,cK,cW,sw (.inr hH),hc,az.eta,k1,pZ (Ep hkn i (by simp;omega)).1 (.inr k2),hw,uN,hmap i hi]
  ·have hc:cR H (i:Nat)=O:=by simpa using hc
   simp only[cG,cD,gK,i1,i2,sw (.inr hH),hc,hw,uN,yy]) (λb _=>by unfold L6;simp) (b:=()) trivial
 exact e1
def atz(M:az->ay->aa qY){vars:af bh}{inp:Bool}{m:Nat}{st:ay}(hst:eR (zY vars) m st)(t:az)(hf:dI vars inp t=J)(hs:(iS vars t).isSome=J)
  (hM:∀k∈t.aq,M k st=V (cI st.ai k,st)/\NN (cI st.ai k)):alC M t st=V (cI st.ai t,st)/\NN (cI st.ai t):=by
 obtain⟨⟨g1,g2,g3⟩,h24⟩:=Yg hf;have K:∀i,i<zY t.aq->M t.aq[i]! st=V (cI st.ai t.aq[i]!,st)/\NN (cI st.ai t.aq[i]!):=λi hi=>hM _ (bf hi);rw[Yf];unfold alC XQ;simp only[az.eta,zB];rcases Qt t.bF g1 with ⟨h,e⟩|⟨h,e⟩|⟨h,e⟩|⟨h,e⟩|⟨h,e⟩<;>rw[e]at g2 g3<;>dsimp only at g2 g3
 ·rcases h with h|h
  ·simp only[h,Dw,cK,cW,sV];exact⟨trivial,mg (ajK h hs)⟩
  ·obtain⟨q1,q2⟩:=h24 h;have hl:=hst.len;simp only[h];rw[gM];exact⟨rfl,hst.vars _ au⟩
 ·obtain⟨k1,k2⟩:=K 0 au;have m0:=mapA (vars:=st.ai) (show 0<zY t.aq by omega);have i1:(zY t.aq:Int)=1:=au;rcases h with h|h
  ·simp only[cG,cD,gK,h,Int.reduceEq,i1,k1,m0,YU (.inr k2),Int.reduceLT,Int.reduceLE,true_and];exact I7 _ k2
  ·simp only[cG,cD,gK,h,Int.reduceEq,i1,k1,m0,YU (.inr k2),Int.reduceLT,Int.reduceLE,true_and];exact I7 _ k2
 ·obtain⟨k1,k2⟩:=K 0 au;obtain⟨l1,l2⟩:=K 1 au;have m0:=mapA (vars:=st.ai) (show 0<zY t.aq by omega);have m1:=mapA (vars:=st.ai) (show 1<zY t.aq by omega);have hlen:(zY t.aq:Int)=2:=au;obtain⟨c,hb,_,hn⟩:=pW t.bF k2 l2;have n0:t.bF≠0:=au;have n1:t.bF≠24:=au;have n2:t.bF≠6:=au;have n3:t.bF≠7:=au;have n4:t.bF≠23:=au;have n5:t.bF≠25:=au;simp only[cG,gK,n0,n1,n2,n3,n4,n5,ct,hlen,k1,l1,hb,m0,m1,Int.reduceEq,Int.reduceLT,Int.reduceLE,true_and];exact hn
 ·obtain⟨k1,k2⟩:=K 0 au;obtain⟨l1,l2⟩:=K 1 au;obtain⟨p1,p2⟩:=K 2 au;have m0:=mapA (vars:=st.ai) (show 0<zY t.aq by omega);have m1:=mapA (vars:=st.ai) (show 1<zY t.aq by omega);have m2:=mapA (vars:=st.ai) (show 2<zY t.aq by omega);have hlen:(zY t.aq:Int)=3:=au;simp only[cG,cD,gK,h,Int.reduceEq,hlen,k1,l1,p1,m0,m1,m2,ED (.inr k2),pZ (.inr l2) (.inr p2),Int.reduceLT,Int.reduceLE];cases cR (cI st.ai t.aq[0]!) 0<;>cases cC (cI st.ai t.aq[0]!)
  ·exact⟨rfl,l2⟩
  ·exact⟨rfl,l2⟩
  ·exact⟨rfl,p2⟩
  ·exact⟨rfl,j7 l2 p2⟩
 ·obtain⟨k1,k2⟩:=K 0 au;have m0:=mapA (vars:=st.ai) (show 0<zY t.aq by omega);have w:ak ((zY t.aq:Int)-(2:Int))=(zY t.aq:Int)-(2:Int):=aL;obtain⟨c,hcl,_,hcn,_⟩:=iB k2 0 ((zY t.aq:Int)-(2:Int));obtain⟨j,hj1,hj2⟩:=aaB k2 (n:=zY t.aq-1) au au;rw[show (((zY t.aq-1:Nat):Int)-1)=(zY t.aq:Int)-(2:Int)by omega]at hj2;simp only[cG,cD,gK,h,Int.reduceEq,k1,m0,w];rw[gM,hcl];generalize iZ (cI st.ai t.aq[0]!) 0 ((zY t.aq:Int)-(2:Int))=H at*;have hd:zY (t.aq.drop 1)=zY t.aq-1:=zV ..;have e2:=adR M (vars:=st.ai) (st:=st) (ks:=t.aq.drop 1) au (λj hj=>hM _ (xD (bf hj))) (H:=H) hcn ⟨0,0,0⟩;dsimp only;rw[gM];rw[show ahm=cM from rfl,e2];dsimp only;rw[fE,ct,<-xB,zB];refine⟨rfl,(Ep (λj hj=> ?_) _ (by simp)).2 ⟨j,au,hj2⟩⟩;rw[getElem!_pos _ j (by simpa using hj),yM];exact(hM _ (xD (xP ..))).2
def My{vars:af bh}{inp:Bool}{m:Nat}{st:ay}(hst:eR (zY vars) m st):∀(n:Nat) (t:az),ze t<n->dI vars inp t=J->(iS vars t).isSome=J->Sj n t st=V (cI st.ai t,st)/\NN (cI st.ai t)
 |0,_,h,_,_=>au
 |n+1,t,h,hf,hs=>atz (Sj n) hst t hf hs (λk hk=>My hst n k (by have:=az.eT hk;omega) (rZ hf hk) (It hs k hk))
def sY{vars:af bh}{inp:Bool}{t:az}(hc:fu vars inp t=0):dI vars inp t=J/\(iS vars t).isSome=J:=by
 unfold fu at hc;grind
def ana(M:aJ->az->aa OP){vars:af aK}{st:aJ}{t:az}(hl:zY t.aq<=1000000)(h1:1<=zY t.aq)(hK:∀j,j<zY t.aq->M st t.aq[j]! =V (cI vars t.aq[j]!)/\NN (cI vars t.aq[j]!)){H:aK}(hH:NN H)(z:aK):
  Py M ⟨(zY t.aq:Int)-1,0,st,t,z,H,cM⟩=V ⟨(zY t.aq:Int)-1,(zY t.aq:Int)-1,st,t,z,H,uN H ((t.aq.drop 1).map (cI vars)) (t.aq.drop 1).length⟩:=by
 have hd:zY (t.aq.drop 1)=zY t.aq-1:=zV ..;have hmap:∀j,j<zY t.aq-1->((t.aq.drop 1).map (cI vars))[j]! =cI vars t.aq[1+j]! :=λj h=>by
  rw[getElem!_pos _ j (by simp;omega),getElem!_pos _ (1+j) au,yM,xS]
 have hkn:∀j,j<zY ((t.aq.drop 1).map (cI vars))->NN ((t.aq.drop 1).map (cI vars))[j]! :=λj h=>by
  have h:j<zY t.aq-1:=by simpa using h
  rw[hmap j h];exact(hK (1+j) au).2
 obtain⟨v,e1,hv⟩:=cS (rnd:=XU M) (zY t.aq-1) (λi (_:Unit)=>⟨(zY t.aq:Int)-1,(i:Int),st,t,z,H,uN H ((t.aq.drop 1).map (cI vars)) i⟩) (λi _=>True) (λi b hi _=>by
  have hw:=jQ hi (show zY t.aq-1<=1000000 by omega);obtain⟨k1,k2⟩:=hK (1+i) au;have i1:(i:Int)<(zY t.aq:Int)-1:=au;have i2:ak ((1:Int)+(i:Int))=((1+i:Nat):Int):=by rw[aL];omega
  have i3:(0:Int)<=((1+i:Nat):Int)/\((1+i:Nat):Int)<(zY t.aq:Int):=au;refine⟨(),?_,trivial⟩;unfold XU;by_cases hc:cR H (i:Nat)=J
  ·simp only[cG,i1,cK,j9 (.inr hH),hc,i2,i3.1,i3.2,cW,az.eta,k1,gu (Ep hkn i (by simp;omega)).1 (.inr k2),hw,uN,hmap i hi]
  ·have hc:cR H (i:Nat)=O:=by simpa using hc
   simp only[cD,i1,Dw,j9 (.inr hH),hc,hw,uN,yy,IQ,az.eta]) (λb _=>by
    unfold XU;rw[bW (by dsimp only;omega)];rfl) (b:=()) trivial
 have e1:Py M ⟨(zY t.aq:Int)-1,((0:Nat):Int),st,t,z,H,cM⟩=_:=e1;rw[hd];rw[show ((0:Nat):Int)=0 from rfl]at e1;rw[e1,show ((zY t.aq-1:Nat):Int)=(zY t.aq:Int)-1 by omega]
def aAn(M:aJ->az->aa OP){vars:af bh}{inp:Bool}{m:Nat}{st:ay}(hst:eR (zY vars) m st)(t:az)(hf:dI vars inp t=J)
  (hM:∀k∈t.aq,M (tr st) k=V (cI st.ai k)/\NN (cI st.ai k)):s87 M (tr st) t=V (cI st.ai t):=by
 obtain⟨⟨g1,g2,g3⟩,h24⟩:=Yg hf;have K:∀i,i<zY t.aq->M (tr st) t.aq[i]! =V (cI st.ai t.aq[i]!)/\NN (cI st.ai t.aq[i]!):=λi hi=>hM _ (bf hi);rw[Yf];unfold s87 XQ;simp only[az.eta,zB];rcases Qt t.bF g1 with ⟨h,e⟩|⟨h,e⟩|⟨h,e⟩|⟨h,e⟩|⟨h,e⟩<;>rw[e]at g2 g3<;>dsimp only at g2 g3
 ·rcases h with h|h
  ·simp only[h,Dw,cK,cW,EC]
  ·obtain⟨q1,q2⟩:=h24 h;have hl:=hst.len;simp only[h];rw[bC (show (0:Int)<=t.fN/\t.fN<(zY (tr st).ai:Int)from⟨q1,by show t.fN<(zY st.ai:Int);omega⟩)];rfl
 ·obtain⟨k1,k2⟩:=K 0 au;have m0:=mapA (vars:=st.ai) (show 0<zY t.aq by omega);have i1:(zY t.aq:Int)=1:=au;rcases h with h|h
  ·simp only[cG,cD,gK,h,Int.reduceEq,i1,k1,m0,WZ (.inr k2),Int.reduceLT,Int.reduceLE]
  ·simp only[cG,cD,gK,h,Int.reduceEq,i1,k1,m0,WZ (.inr k2),Int.reduceLT,Int.reduceLE]
 ·obtain⟨k1,k2⟩:=K 0 au;obtain⟨l1,l2⟩:=K 1 au;have m0:=mapA (vars:=st.ai) (show 0<zY t.aq by omega);have m1:=mapA (vars:=st.ai) (show 1<zY t.aq by omega);have hlen:(zY t.aq:Int)=2:=au;obtain⟨c,_,hb,hn⟩:=pW t.bF k2 l2;have n0:t.bF≠0:=au;have n1:t.bF≠24:=au;have n2:t.bF≠6:=au;have n3:t.bF≠7:=au;have n4:t.bF≠23:=au;have n5:t.bF≠25:=au;simp only[cG,gK,n0,n1,n2,n3,n4,n5,ct,hlen,k1,l1,hb,m0,m1,Int.reduceEq,Int.reduceLT,Int.reduceLE]
 ·obtain⟨k1,k2⟩:=K 0 au;obtain⟨l1,l2⟩:=K 1 au;obtain⟨p1,p2⟩:=K 2 au;have m0:=mapA (vars:=st.ai) (show 0<zY t.aq by omega);have m1:=mapA (vars:=st.ai) (show 1<zY t.aq by omega);have m2:=mapA (vars:=st.ai) (show 2<zY t.aq by omega);have hlen:(zY t.aq:Int)=3:=au;simp only[cG,cD,gK,h,Int.reduceEq,hlen,k1,l1,p1,m0,m1,m2,pE (.inr k2),gu (.inr l2) (.inr p2),Int.reduceLT,Int.reduceLE];cases cR (cI st.ai t.aq[0]!) 0<;>cases cC (cI st.ai t.aq[0]!)<;>rfl
 ·obtain⟨k1,k2⟩:=K 0 au;have m0:=mapA (vars:=st.ai) (show 0<zY t.aq by omega);have w:ak ((zY t.aq:Int)-(2:Int))=(zY t.aq:Int)-(2:Int):=aL;have w1:ak ((zY t.aq:Int)-(1:Int))=(zY t.aq:Int)-(1:Int):=aL;obtain⟨c,_,hcl,hcn,_⟩:=iB k2 0 ((zY t.aq:Int)-(2:Int));simp only[cG,cD,gK,h,Int.reduceEq,k1,m0,w,w1];rw[gM,hcl];generalize iZ (cI st.ai t.aq[0]!) 0 ((zY t.aq:Int)-(2:Int))=H at*;have e2:=ana M (vars:=st.ai) (st:=tr st) (t:=t) au au K (H:=H) hcn ⟨0,0,0⟩;dsimp only;rw[show qD=cM from rfl,e2];simp
def apZ{vars:af bh}{inp:Bool}{m:Nat}{st:ay}(hst:eR (zY vars) m st):∀(n:Nat) (t:az),ze t<n->dI vars inp t=J->(iS vars t).isSome=J->m87 n (tr st) t=V (cI st.ai t)
 |0,_,h,_,_=>au
 |n+1,t,h,hf,hs=>aAn (m87 n) hst t hf (λk hk=>⟨apZ hst n k (by have:=az.eT hk;omega) (rZ hf hk) (It hs k hk),(My hst (ze k+1) k au (rZ hf hk) (It hs k hk)).2⟩)
def XP{vars:af bh}{inp:Bool}{m:Nat}{st:ay}(hst:eR (zY vars) m st)(t:az)(hc:fu vars inp t=0):RJ (tr st) t=V (cI st.ai t):=
 eM (ze t+1) λn hn=>apZ hst n t au (sY hc).1 (sY hc).2
def iW{vars:af bh}{inp:Bool}{m:Nat}{st:ay}(hst:eR (zY vars) m st)(t:az)(hc:fu vars inp t=0):NN (cI st.ai t):=
 (My hst (ze t+1) t au (sY hc).1 (sY hc).2).2
abbrev E82:=aK
def d82:Td 0 E82:= .c [] [4] (.r 0 1 (ec 4 (qp 0 0) en) (sb 0 34 (lg 34) sn) (λz=>z.2.1) (λx=>(((),()),(x,()))))
def WV(a0:ay)(a1:az):aa E82:=
 match aiA (az.mk a1.bF a1.fN a1.aq) a0 with|G=>G|V r1=>V (r1.fst)
def e82:=eL vp 82 O (lc (qg 128) (lc (qg 137) ln)) d82 (λg=>WV g.1 g.2.1)
def L0:EO e82:=λh=>kL (an:= .no) func82 (ajA aV) aH h
abbrev E40:=af aK
def d40:Td 0 E40:= .c [] [2] (.t (b6.s 2 [] 34) (.c [] [2] (.r 0 1 (ec 2 (qo 0) en) (sr 0 34 sn) (λz=>z.2.1) (λx=>(((),()),(x,()))))))
def A40:=(lc (ql 34) ln)
def Xr(a0:af aK):aa E40:=if zY a0<=1073741824 then V a0 else G
def awj:gv vp dA 0 300 40 .no:=cH (l:=[]) func40 (bT aY) aY aH
def aHg(x:aK)(xs:af aK):bZ vp dA 300 .no 40 [.sl 34 (x::xs)] [] 0 d40.rd=if([]++(x::xs)).length<=1073741824 then V ([]++(x::xs))else G:=aY
def aFf(c:Nat):bZ vp dA 300 .no 40 [.lit (.slice G 0 c)] [] 0 d40.rd=V []:=aY
def aGr(a:Addr)(c:Nat):bZ vp dA 300 .no 40 [.lit (.slice (V a) 0 c)] [] 0 d40.rd=V []:=aY
def h40:HL vp 40 A40 d40 (λg=>Xr g.1):=λg r h=>by
 obtain⟨a0,_⟩:=g;have h:Xr a0=V r:=h;cases a0 with
 |cons x xs=>exact(nK (out:=λp=>gd vp 40 0 (d40.pat p)) (p:=r) aV awj d40.ok (λp=>aY) (jT aY) (kg aY) ((aHg x xs).trans (by rw[yB];exact h))).2
 |nil=>
  cases h;exact Xu (λc=>(nK (out:=λp=>gd vp 40 0 (d40.pat p)) (p:=[]) aV awj d40.ok (λp=>aY) (jT aY) (kg aY) (aFf c)).2) (λa c=>(nK (out:=λp=>gd vp 40 0 (d40.pat p)) (p:=[]) aV awj d40.ok (λp=>aY) (jT aY) (kg aY) (aGr a c)).2)
def e40:=eL vp 40 O A40 d40 (λg=>Xr g.1)
def u5{F:bu}(h:bE vp F):bE vp (e40 F):=gj (sc:=A9) ei h40 ⟨_,func40,aY,aY⟩ (λ_=>aY) (λ_=>aY) h
abbrev azt:=ay
def d235:Td 0 azt:= .c [] [2] (.r 0 3 (ec 2 (qp 0 0) en) (sb 0 128 (lc (qo 1) (aU (aU (aU (lc (qo 2) (aU (aU (aU ln)))))))) (sr 1 34 (sr 2 34 sn))) (λz=>(ay.mk z.t.1 (aK.mk z.2.1.2.1 z.2.1.t.1 z.2.1.t.2.1) z.t.2.1 (aK.mk z.2.1.q.2.1 z.2.1.q.t.1 z.2.1.q.t.2.1))) (λx=>(((),()),(((),x.aD.ah,x.aD.ag,x.aD.aj,(),x.aI.ah,x.aI.ag,x.aI.aj,()),x.ai,x.aG,()))))
def IF(a0:ay):aa azt:=
 match Xr a0.ai with|G=>G|V r1=>match Xr a0.aG with|G=>G|V r2=>V (ay.mk r1 a0.aD r2 a0.aI)
def awo:=eL vp 235 O (lc (qg 128) ln) d235 (λg=>IF g.1)
def Bm:EO awo:=λh=>kL (an:= .no) func235 (u5 aV) aH h
structure sk where
 t46:List aK
 (t47 t48:Int)
 (b0 b1:ay)
def R7:Td 0 sk:= .c [] [4,5,46,47,48] (.r 0 4 (ec 4 (qp 0 0) (ec 5 (qp 1 0) (ec 46 (ql 34) (ec 47 aP (ec 48 aP en))))) (sb 0 128 (lc qn (aU (aU (aU (lc qn (aU (aU (aU ln)))))))) (sb 1 128 (lc (qo 2) (aU (aU (aU (lc (qo 3) (aU (aU (aU ln)))))))) (sr 2 34 (sr 3 34 sn)))) (λz=>⟨z.1.t.1,z.1.t.2.1,z.1.q.1,(ay.mk [] (aK.mk z.2.1.2.1 z.2.1.t.1 z.2.1.t.2.1) [] (aK.mk z.2.1.q.2.1 z.2.1.q.t.1 z.2.1.q.t.2.1)),(ay.mk z.t.2.1 (aK.mk z.t.1.2.1 z.t.1.t.1 z.t.1.t.2.1) z.q.1 (aK.mk z.t.1.q.2.1 z.t.1.q.t.1 z.t.1.q.t.2.1))⟩) (λx=>(((),(),x.t46,x.t47,x.t48,()),(((),x.b0.aD.ah,x.b0.aD.ag,x.b0.aD.aj,(),x.b0.aI.ah,x.b0.aI.ag,x.b0.aI.aj,()),((),x.b1.aD.ah,x.b1.aD.ag,x.b1.aD.aj,(),x.b1.aI.ah,x.b1.aI.ag,x.b1.aI.aj,()),x.b1.ai,x.b1.aG,()))))
def Iq{α:Type}(p:sk)(go:sk->aa α)(e1:aa α):aa α:=
 bif vn (p.t48<p.t47)then if 0<=p.t48/\p.t48<zY p.t46 then bif vn (p.t48<zY p.b1.aG)then if 0<=p.t48/\p.t48<zY p.b1.aG then if 34=34/\zq p.t48<zY p.b1.aG then match G9 p.b1.aG[zq p.t48]! p.t46[zq p.t48]! with|G=>G|V r2=>if 0<=p.t48/\p.t48<zY p.b1.aG then if 34=34/\zq p.t48<zY p.b1.aG then go (sk.mk p.t46 p.t47 (ak (p.t48+1)) (ay.mk [] p.b0.aD [] p.b0.aI) (ay.mk p.b1.ai p.b1.aD (p.b1.aG.set p.t48.toNat r2) p.b1.aI))else G else G else G else G else if(p.b1.aG++[p.t46[zq p.t48]!]).length<=1073741824 then go (sk.mk p.t46 p.t47 (ak (p.t48+1)) (ay.mk [] p.b0.aD [] p.b0.aI) (ay.mk p.b1.ai p.b1.aD (p.b1.aG++[p.t46[zq p.t48]!]) p.b1.aI))else G else G else e1
def LF(p:sk):aa (aa sk):=
 Iq p (λs=>V (V s)) (V G)
def NK:=bI (LF)
structure uT where
 (t13 t14:Int)
 (b0 b1 b2:ay)
def UN:Td 0 uT:= .c [] [3,4,5,13,14] (.r 0 5 (ec 3 (qp 0 0) (ec 4 (qp 1 0) (ec 5 (qp 2 0) (ec 13 aP (ec 14 aP en))))) (sb 0 128 (lg 128) (sb 1 128 (lc qn (aU (aU (aU (lc qn (aU (aU (aU ln)))))))) (sb 2 128 (lc (qo 3) (aU (aU (aU (lc (qo 4) (aU (aU (aU ln)))))))) (sr 3 34 (sr 4 34 sn))))) (λz=>⟨z.1.t.2.1,z.1.q.1,z.2.1,(ay.mk [] (aK.mk z.t.1.2.1 z.t.1.t.1 z.t.1.t.2.1) [] (aK.mk z.t.1.q.2.1 z.t.1.q.t.1 z.t.1.q.t.2.1)),(ay.mk z.q.1 (aK.mk z.t.2.1.2.1 z.t.2.1.t.1 z.t.2.1.t.2.1) z.q.2.1 (aK.mk z.t.2.1.q.2.1 z.t.2.1.q.t.1 z.t.2.1.q.t.2.1))⟩) (λx=>(((),(),(),x.t13,x.t14,()),(x.b0,((),x.b1.aD.ah,x.b1.aD.ag,x.b1.aD.aj,(),x.b1.aI.ah,x.b1.aI.ag,x.b1.aI.aj,()),((),x.b2.aD.ah,x.b2.aD.ag,x.b2.aD.aj,(),x.b2.aI.ah,x.b2.aI.ag,x.b2.aI.aj,()),x.b2.ai,x.b2.aG,()))))
def HE{α:Type}(p:uT)(go:uT->aa α)(e1:aa α):aa α:=
 bif vn (p.t14<p.t13)then if 0<=p.t14/\p.t14<zY p.b2.ai then if 34=34/\zq p.t14<zY p.b2.ai then if 0<=p.t14/\p.t14<zY p.b0.ai then match G9 p.b2.ai[zq p.t14]! p.b0.ai[zq p.t14]! with|G=>G|V r1=>if 0<=p.t14/\p.t14<zY p.b2.ai then if 34=34/\zq p.t14<zY p.b2.ai then go (uT.mk p.t13 (ak (p.t14+1)) p.b0 (ay.mk [] p.b1.aD [] p.b1.aI) (ay.mk (p.b2.ai.set p.t14.toNat r1) p.b2.aD p.b2.aG p.b2.aI))else G else G else G else G else G else e1
def K4(p:uT):aa (aa uT):=
 HE p (λs=>V (V s)) (V G)
def Ni:=bI (K4)
abbrev azF:=ay
def d236:Td 0 azF:= .c [] [4] (.r 0 3 (ec 4 (qp 0 0) en) (sb 0 128 (lc (qo 1) (aU (aU (aU (lc (qo 2) (aU (aU (aU ln)))))))) (sr 1 34 (sr 2 34 sn))) (λz=>(ay.mk z.t.1 (aK.mk z.2.1.2.1 z.2.1.t.1 z.2.1.t.2.1) z.t.2.1 (aK.mk z.2.1.q.2.1 z.2.1.q.t.1 z.2.1.q.t.2.1))) (λx=>(((),()),(((),x.aD.ah,x.aD.ag,x.aD.aj,(),x.aI.ah,x.aI.ag,x.aI.aj,()),x.ai,x.aG,()))))
def MM(a0:ay)(a1:ay):aa azF:=
 match IF a0 with|G=>G|V r3=>match Ni (uT.mk (zY r3.ai) 0 a1 (ay.mk [] (aK.mk 0 0 0) [] (aK.mk 0 0 0)) r3)with|G=>G|V r4=>HE r4 (λ_=>G) (match G9 r4.b2.aD r4.b0.aD with|G=>G|V r6=>match G9 r4.b2.aI r4.b0.aI with|G=>G|V r7=>match NK (sk.mk r4.b0.aG (zY r4.b0.aG) 0 (ay.mk [] r4.b1.aD [] r4.b1.aI) (ay.mk r4.b2.ai r6 r4.b2.aG r7))with|G=>G|V r8=>Iq r8 (λ_=>G) (V (r8.b1)))
def auf:=eL vp 236 O (lc (qg 128) (lc (qg 128) ln)) d236 (λg=>MM g.1 g.2.1)
def YI:EO auf:=λh=>kL (an:=(noTwo (noTwo (.two (noTwo (UN.lp Ni .no)) (noTwo (noTwo (.two (noTwo (R7.lp NK .no)) .no))))))) (l:=[(bk f236 0,(UN.lp Ni .no)),(bk f236 1,(R7.lp NK .no))]) func236 (Bm (Lv aV)) (aA (aO UN) (aA (aO R7) aH)) h
abbrev azp:=ay
def d157:Td 0 azp:= .c [] [4] (.r 0 1 (ec 4 (qp 0 0) en) (sb 0 128 (lg 128) sn) (λz=>z.2.1) (λx=>(((),()),(x,()))))
def UA(a0:ay)(a1:Int):aa azp:=
 match A5 (8) a0.aI (m80 a1)with|G=>G|V r1=>V (ay.mk a0.ai a0.aD a0.aG r1.fst)
def atb:bu->bu:=eZ vp 157 (lc (qg 128) (aU ln)) d157 (λg=>UA g.1 g.2.1)
def X7:EO atb:=λh=>kZ (an:= .no) func157 (ME (MV aV)) aH h
abbrev aDr:=ay
def d158:Td 0 aDr:= .c [] [8] (.r 0 3 (ec 8 (qp 0 0) en) (sb 0 128 (lc (qo 1) (aU (aU (aU (lc (qo 2) (aU (aU (aU ln)))))))) (sr 1 34 (sr 2 34 sn))) (λz=>(ay.mk z.t.1 (aK.mk z.2.1.2.1 z.2.1.t.1 z.2.1.t.2.1) z.t.2.1 (aK.mk z.2.1.q.2.1 z.2.1.q.t.1 z.2.1.q.t.2.1))) (λx=>(((),()),(((),x.aD.ah,x.aD.ag,x.aD.aj,(),x.aI.ah,x.aI.ag,x.aI.aj,()),x.ai,x.aG,()))))
def Vn(a0:Runner)(a1:ay)(a2:Int)(a3:aK):aa aDr:=
 match IF a1 with|G=>G|V r1=>if 0<=a2/\a2<zY a0.fF.ai then match m81 a3 a0.fF.ai[a2.toNat]!.ah a0.fF.ai[a2.toNat]!.ag with|G=>G|V r2=>if 0<=a2/\a2<zY r1.ai then if 34=34/\a2.toNat<zY r1.ai then V (ay.mk (r1.ai.set a2.toNat r2.fst) r1.aD r1.aG r1.aI)else G else G else G
def aCx:=eL vp 158 O (lc (qg 133) (lc (qg 128) (aU (lc (qg 34) ln)))) d158 (λg=>Vn g.1 g.2.1 g.t.1 g.t.2.1)
def amX:EO aCx:=λh=>kL (an:= .no) func158 (Bm (UY aV)) aH h
structure rM where
 (t10 t11:Int)
 b0:ay
 b1:aK
 b2:ay
def Si:Td 0 rM:= .c [] [2,3,4,10,11] (.r 0 5 (ec 2 (qp 0 0) (ec 3 (qp 1 0) (ec 4 (qp 2 0) (ec 10 aP (ec 11 aP en))))) (sb 0 128 (lc (qo 3) (aU (aU (aU (lc (qo 4) (aU (aU (aU ln)))))))) (sb 1 34 (lg 34) (sb 2 128 (lc qn (aU (aU (aU (lc qn (aU (aU (aU ln)))))))) (sr 3 34 (sr 4 34 sn))))) (λz=>⟨z.1.t.2.1,z.1.q.1,(ay.mk z.q.1 (aK.mk z.2.1.2.1 z.2.1.t.1 z.2.1.t.2.1) z.q.2.1 (aK.mk z.2.1.q.2.1 z.2.1.q.t.1 z.2.1.q.t.2.1)),z.t.1,(ay.mk [] (aK.mk z.t.2.1.2.1 z.t.2.1.t.1 z.t.2.1.t.2.1) [] (aK.mk z.t.2.1.q.2.1 z.t.2.1.q.t.1 z.t.2.1.q.t.2.1))⟩) (λx=>(((),(),(),x.t10,x.t11,()),(((),x.b0.aD.ah,x.b0.aD.ag,x.b0.aD.aj,(),x.b0.aI.ah,x.b0.aI.ag,x.b0.aI.aj,()),x.b1,((),x.b2.aD.ah,x.b2.aD.ag,x.b2.aD.aj,(),x.b2.aI.ah,x.b2.aI.ag,x.b2.aI.aj,()),x.b0.ai,x.b0.aG,()))))
def FH{α:Type}(p:rM)(go:rM->aa α)(e1:aa α):aa α:=
 bif vn (p.t11<p.t10)then match m92 p.b0.aD p.t11 with|G=>G|V r1=>bif r1 then if 0<=p.t11/\p.t11<zY p.b0.aG then if 34=34/\zq p.t11<zY p.b0.aG then match G9 p.b0.aG[zq p.t11]! p.b1 with|G=>G|V r2=>if 0<=p.t11/\p.t11<zY p.b0.aG then if 34=34/\zq p.t11<zY p.b0.aG then go (rM.mk p.t10 (ak (p.t11+1)) (ay.mk p.b0.ai p.b0.aD (p.b0.aG.set p.t11.toNat r2) p.b0.aI) p.b1 (ay.mk [] p.b2.aD [] p.b2.aI))else G else G else G else G else go (rM.mk p.t10 (ak (p.t11+1)) p.b0 p.b1 (ay.mk [] p.b2.aD [] p.b2.aI))else e1
def NM(p:rM):aa (aa rM):=
 FH p (λs=>V (V s)) (V G)
def Lw:=bI (NM)
abbrev aC4:=ay
def d159:Td 0 aC4:= .c [] [4] (.r 0 3 (ec 4 (qp 0 0) en) (sb 0 128 (lc (qo 1) (aU (aU (aU (lc (qo 2) (aU (aU (aU ln)))))))) (sr 1 34 (sr 2 34 sn))) (λz=>(ay.mk z.t.1 (aK.mk z.2.1.2.1 z.2.1.t.1 z.2.1.t.2.1) z.t.2.1 (aK.mk z.2.1.q.2.1 z.2.1.q.t.1 z.2.1.q.t.2.1))) (λx=>(((),()),(((),x.aD.ah,x.aD.ag,x.aD.aj,(),x.aI.ah,x.aI.ag,x.aI.aj,()),x.ai,x.aG,()))))
def aa3(a0:ay)(a1:aK):aa aC4:=
 match IF a0 with|G=>G|V r3=>match Lw (rM.mk (zY r3.aG) 0 r3 a1 (ay.mk [] (aK.mk 0 0 0) [] (aK.mk 0 0 0)))with|G=>G|V r4=>FH r4 (λ_=>G) (if(r4.b0.aG++[r4.b1]).length<=1073741824 then match A5 8 r4.b0.aD (m80 1)with|G=>G|V r7=>V (ay.mk r4.b0.ai r7.fst (r4.b0.aG++[r4.b1]) r4.b0.aI)else G)
def azO:=eL vp 159 O (lc (qg 128) (lc (qg 34) ln)) d159 (λg=>aa3 g.1 g.2.1)
def aiC:EO azO:=λh=>kL (an:=(noTwo (noTwo (.two (noTwo (Si.lp Lw .no)) .no)))) (l:=[(bk f159 0,(Si.lp Lw .no))]) func159 (Bm (ME (Lv (Ty (MV aV))))) (aA (aO Si) aH) h
abbrev td:=ay
def d83:Td 0 td:= .c [] [6] (.r 0 1 (ec 6 (qp 0 0) en) (sb 0 128 (lg 128) sn) (λz=>z.2.1) (λx=>(((),()),(x,()))))
def A83:=(lc (qg 133) (lc (ql 166) (lc (qg 128) ln)))
def x83(M:Runner->(af aB)->ay->aa td):bu->bu:=eZ vp 83 A83 d83 (λg=>M g.1 g.2.1 g.2.2.1)
def H83(M:Runner->(af aB)->ay->aa td):Prop:=HL vp 83 A83 d83 (λg=>M g.1 g.2.1 g.2.2.1)
def TI{M:Runner->(af aB)->ay->aa td}(hM:H83 M){F:bu}(h:bE vp F):bE vp (x83 M F):=Km hM ⟨_,func83,aY,aY⟩ (λ_=>aY) h
abbrev iJ:=ay
def d156:Td 0 iJ:= .c [] [6] (.r 0 1 (ec 6 (qp 0 0) en) (sb 0 128 (lg 128) sn) (λz=>z.2.1) (λx=>(((),()),(x,()))))
def auK:=(lc (qg 133) (lc (qg 166) (lc (qg 128) ln)))
def aDD(M:Runner->aB->ay->aa iJ):bu->bu:=eZ vp 156 auK d156 (λg=>M g.1 g.2.1 g.2.2.1)
def acw(M:Runner->aB->ay->aa iJ):Prop:=HL vp 156 auK d156 (λg=>M g.1 g.2.1 g.2.2.1)
def am1{M:Runner->aB->ay->aa iJ}(hM:acw M){F:bu}(h:bE vp F):bE vp (aDD M F):=Km hM ⟨_,func156,aY,aY⟩ (λ_=>aY) h
abbrev iK:=ay
def d160:Td 0 iK:= .c [] [6] (.t (b6.fc 0 0 []) (.t (b6.fc 0 4 []) (.c [] [6] (.r 0 1 (ec 6 (qp 0 0) en) (sb 0 128 (lg 128) sn) (λz=>z.2.1) (λx=>(((),()),(x,())))))))
def aum:=(lc (qg 133) (lc (qg 166) (lc (qg 128) ln)))
def x160(M:Runner->aB->ay->aa iK):bu->bu:=eZ vp 160 aum d160 (λg=>M g.1 g.2.1 g.2.2.1)
def abT(M:Runner->aB->ay->aa iK):Prop:=HL vp 160 aum d160 (λg=>M g.1 g.2.1 g.2.2.1)
def aiQ{M:Runner->aB->ay->aa iK}(hM:abT M){F:bu}(h:bE vp F):bE vp (x160 M F):=Km hM ⟨_,func160,aY,aY⟩ (λ_=>aY) h
def F83(M83:Runner->(af aB)->ay->aa td)(M156:Runner->aB->ay->aa iJ)(M160:Runner->aB->ay->aa iK):bu:=(aBJ (x160 M160 (azO (aCx (atb (aDD M156 (e82 dA)))))))
def ary{M83 M156 M160}(h83:H83 M83)(h156:acw M156)(h160:abT M160):bE vp (F83 M83 M156 M160):=(amV (aiQ h160 (aiC (amX (X7 (am1 h156 (L0 aV)))))))
structure sx where
 t9:List aB
 (t10 t11:Int)
 b0:Runner
 (b1 b2:ay)
def aa0:Td 0 sx:= .c [] [3,5,6,9,10,11] (.t (b6.fc 1 0 []) (.t (b6.fc 1 4 []) (.c [] [3,5,6,9,10,11] (.r 0 3 (ec 3 (qp 0 0) (ec 5 (qp 1 0) (ec 6 (qp 2 0) (ec 9 (ql 166) (ec 10 aP (ec 11 aP en)))))) (sb 0 133 (lg 133) (sb 1 128 (lg 128) (sb 2 128 (lc qn (aU (aU (aU (lc qn (aU (aU (aU ln)))))))) sn))) (λz=>⟨z.1.t.2.1,z.1.q.1,z.1.q.2.1,z.2.1,z.t.1,(ay.mk [] (aK.mk z.t.2.1.2.1 z.t.2.1.t.1 z.t.2.1.t.2.1) [] (aK.mk z.t.2.1.q.2.1 z.t.2.1.q.t.1 z.t.2.1.q.t.2.1))⟩) (λx=>(((),(),(),x.t9,x.t10,x.t11,()),(x.b0,x.b1,((),x.b2.aD.ah,x.b2.aD.ag,x.b2.aD.aj,(),x.b2.aI.ah,x.b2.aI.ag,x.b2.aI.aj,()),())))))))
def XA(M83:Runner->(af aB)->ay->aa td)(M156:Runner->aB->ay->aa iJ)(M160:Runner->aB->ay->aa iK)(p:sx):aa (aa sx):=
 bif vn (p.t11<p.t10)then if 0<=p.t11/\p.t11<zY p.t9 then bif vn (p.t9[zq p.t11]!.b9=4)then match M156 p.b0 (aB.mk p.t9[zq p.t11]!.b9 p.t9[zq p.t11]!.bg p.t9[zq p.t11]!.dL p.t9[zq p.t11]!.fN (az.mk p.t9[zq p.t11]!.aF.bF p.t9[zq p.t11]!.aF.fN p.t9[zq p.t11]!.aF.aq) p.t9[zq p.t11]!.aQ p.t9[zq p.t11]!.aX p.t9[zq p.t11]!.aR) p.b1 with|G=>G|V r1=>V (V (sx.mk p.t9 p.t10 (ak (p.t11+1)) p.b0 r1 (ay.mk [] p.b2.aD [] p.b2.aI)))else match UA p.b1 p.t9[zq p.t11]!.bg with|G=>G|V r2=>bif vn (p.t9[zq p.t11]!.b9=0)then match WV r2 (az.mk p.t9[zq p.t11]!.aF.bF p.t9[zq p.t11]!.aF.fN p.t9[zq p.t11]!.aF.aq)with|G=>G|V r3=>match Vn p.b0 r2 p.t9[zq p.t11]!.dL r3 with|G=>G|V r4=>V (V (sx.mk p.t9 p.t10 (ak (p.t11+1)) p.b0 r4 (ay.mk [] p.b2.aD [] p.b2.aI)))else bif vn (p.t9[zq p.t11]!.b9=5)then if 0<=p.t9[zq p.t11]!.fN/\p.t9[zq p.t11]!.fN<zY p.b0.ax then match Vn p.b0 r2 p.t9[zq p.t11]!.dL p.b0.ax[p.t9[zq p.t11]!.fN.toNat]! with|G=>G|V r5=>V (V (sx.mk p.t9 p.t10 (ak (p.t11+1)) p.b0 r5 (ay.mk [] p.b2.aD [] p.b2.aI)))else G else bif vn (p.t9[zq p.t11]!.b9=1)then match WV r2 (az.mk p.t9[zq p.t11]!.aF.bF p.t9[zq p.t11]!.aF.fN p.t9[zq p.t11]!.aF.aq)with|G=>G|V r6=>match aa3 r2 r6 with|G=>G|V r7=>V (V (sx.mk p.t9 p.t10 (ak (p.t11+1)) p.b0 r7 (ay.mk [] p.b2.aD [] p.b2.aI)))else bif vn (p.t9[zq p.t11]!.b9=3)then match M160 p.b0 (aB.mk p.t9[zq p.t11]!.b9 p.t9[zq p.t11]!.bg p.t9[zq p.t11]!.dL p.t9[zq p.t11]!.fN (az.mk p.t9[zq p.t11]!.aF.bF p.t9[zq p.t11]!.aF.fN p.t9[zq p.t11]!.aF.aq) p.t9[zq p.t11]!.aQ p.t9[zq p.t11]!.aX p.t9[zq p.t11]!.aR) r2 with|G=>G|V r8=>V (V (sx.mk p.t9 p.t10 (ak (p.t11+1)) p.b0 r8 (ay.mk [] p.b2.aD [] p.b2.aI)))else bif vn (p.t9[zq p.t11]!.b9=6)then match Rv r2.aI p.t9[zq p.t11]!.aR with|G=>G|V r9=>V (V (sx.mk p.t9 p.t10 (ak (p.t11+1)) p.b0 (ay.mk r2.ai r2.aD r2.aG r9.fst) (ay.mk [] p.b2.aD [] p.b2.aI)))else V (V (sx.mk p.t9 p.t10 (ak (p.t11+1)) p.b0 r2 (ay.mk [] p.b2.aD [] p.b2.aI)))else G else V (G)
def W6(M83:Runner->(af aB)->ay->aa td)(M156:Runner->aB->ay->aa iJ)(M160:Runner->aB->ay->aa iK):=bI (XA M83 M156 M160)
def aBn(M83:Runner->(af aB)->ay->aa td)(M156:Runner->aB->ay->aa iJ)(M160:Runner->aB->ay->aa iK):An:=(noTwo (.two (noTwo (aa0.lp (W6 M83 M156 M160) .no)) .no))
def aHl(M83:Runner->(af aB)->ay->aa td)(M156:Runner->aB->ay->aa iJ)(M160:Runner->aB->ay->aa iK):gv vp (F83 M83 M156 M160) 0 300 83 (aBn M83 M156 M160):=cH (l:=[(bk f83 0,(aa0.lp (W6 M83 M156 M160) .no))]) func83 (bT aY) aY (aA (aO aa0) aH)
def s83(M83:Runner->(af aB)->ay->aa td)(M156:Runner->aB->ay->aa iJ)(M160:Runner->aB->ay->aa iK)(a0:Runner)(a1:af aB)(a2:ay):aa td:=
 match W6 M83 M156 M160 (sx.mk a1 (zY a1) 0 a0 a2 (ay.mk [] (aK.mk 0 0 0) [] (aK.mk 0 0 0)))with|G=>G|V r10=>bif vn (r10.t11<r10.t10)then if 0<=r10.t11/\r10.t11<zY r10.t9 then bif vn (r10.t9[zq r10.t11]!.b9=4)then match M156 r10.b0 (aB.mk r10.t9[zq r10.t11]!.b9 r10.t9[zq r10.t11]!.bg r10.t9[zq r10.t11]!.dL r10.t9[zq r10.t11]!.fN (az.mk r10.t9[zq r10.t11]!.aF.bF r10.t9[zq r10.t11]!.aF.fN r10.t9[zq r10.t11]!.aF.aq) r10.t9[zq r10.t11]!.aQ r10.t9[zq r10.t11]!.aX r10.t9[zq r10.t11]!.aR) r10.b1 with|G=>G|V r11=>G else match UA r10.b1 r10.t9[zq r10.t11]!.bg with|G=>G|V r12=>bif vn (r10.t9[zq r10.t11]!.b9=0)then match WV r12 (az.mk r10.t9[zq r10.t11]!.aF.bF r10.t9[zq r10.t11]!.aF.fN r10.t9[zq r10.t11]!.aF.aq)with|G=>G|V r13=>match Vn r10.b0 r12 r10.t9[zq r10.t11]!.dL r13 with|G=>G|V r14=>G else bif vn (r10.t9[zq r10.t11]!.b9=5)then if 0<=r10.t9[zq r10.t11]!.fN/\r10.t9[zq r10.t11]!.fN<zY r10.b0.ax then match Vn r10.b0 r12 r10.t9[zq r10.t11]!.dL r10.b0.ax[r10.t9[zq r10.t11]!.fN.toNat]! with|G=>G|V r15=>G else G else bif vn (r10.t9[zq r10.t11]!.b9=1)then match WV r12 (az.mk r10.t9[zq r10.t11]!.aF.bF r10.t9[zq r10.t11]!.aF.fN r10.t9[zq r10.t11]!.aF.aq)with|G=>G|V r16=>match aa3 r12 r16 with|G=>G|V r17=>G else bif vn (r10.t9[zq r10.t11]!.b9=3)then match M160 r10.b0 (aB.mk r10.t9[zq r10.t11]!.b9 r10.t9[zq r10.t11]!.bg r10.t9[zq r10.t11]!.dL r10.t9[zq r10.t11]!.fN (az.mk r10.t9[zq r10.t11]!.aF.bF r10.t9[zq r10.t11]!.aF.fN r10.t9[zq r10.t11]!.aF.aq) r10.t9[zq r10.t11]!.aQ r10.t9[zq r10.t11]!.aX r10.t9[zq r10.t11]!.aR) r12 with|G=>G|V r18=>G else bif vn (r10.t9[zq r10.t11]!.b9=6)then match Rv r12.aI r10.t9[zq r10.t11]!.aR with|G=>G|V r19=>G else G else G else V (r10.b1)
def c83(M83:Runner->(af aB)->ay->aa td)(M156:Runner->aB->ay->aa iJ)(M160:Runner->aB->ay->aa iK)(a0:Runner)(a1:af aB)(a2:ay):bZ vp (F83 M83 M156 M160) 300 (aBn M83 M156 M160) 83 (A83.c (a0,a1,a2,())) [] 0 d83.rd=s83 M83 M156 M160 a0 a1 a2:=aY
def avu(M83:Runner->(af aB)->ay->aa td)(M156:Runner->aB->ay->aa iJ)(M160:Runner->aB->ay->aa iK):bu:=(auf (awo (atb (alS (x83 M83 (e82 dA))))))
def agW{M83 M156 M160}(h83:H83 M83)(h156:acw M156)(h160:abT M160):bE vp (avu M83 M156 M160):=(YI (Bm (X7 (Lr (TI h83 (L0 aV))))))
structure nQ where
 t53:List ay
 (t54 t55:Int)
 (b0 b1:ay)
def Tp:Td 0 nQ:= .c [] [6,11,53,54,55] (.t (b6.fc 1 0 []) (.t (b6.fc 1 4 []) (.c [] [6,11,53,54,55] (.r 0 2 (ec 6 (qp 0 0) (ec 11 (qp 1 0) (ec 53 (ql 128) (ec 54 aP (ec 55 aP en))))) (sb 0 128 (lc qn (aU (aU (aU (lc qn (aU (aU (aU ln)))))))) (sb 1 128 (lg 128) sn)) (λz=>⟨z.1.t.1,z.1.t.2.1,z.1.q.1,(ay.mk [] (aK.mk z.2.1.2.1 z.2.1.t.1 z.2.1.t.2.1) [] (aK.mk z.2.1.q.2.1 z.2.1.q.t.1 z.2.1.q.t.2.1)),z.t.1⟩) (λx=>(((),(),x.t53,x.t54,x.t55,()),(((),x.b0.aD.ah,x.b0.aD.ag,x.b0.aD.aj,(),x.b0.aI.ah,x.b0.aI.ag,x.b0.aI.aj,()),x.b1,())))))))
def LB(M83:Runner->(af aB)->ay->aa td)(M156:Runner->aB->ay->aa iJ)(M160:Runner->aB->ay->aa iK)(p:nQ):aa (aa nQ):=
 bif vn (p.t55<p.t54)then if 0<=p.t55/\p.t55<zY p.t53 then match MM p.b1 p.t53[zq p.t55]! with|G=>G|V r7=>V (V (nQ.mk p.t53 p.t54 (ak (p.t55+1)) (ay.mk [] p.b0.aD [] p.b0.aI) r7))else G else V (G)
def su(M83:Runner->(af aB)->ay->aa td)(M156:Runner->aB->ay->aa iJ)(M160:Runner->aB->ay->aa iK):=bI (LB M83 M156 M160)
structure Dd where
 t7:List ay
 t8:Bool
 (t15 t16:Int)
 b0:Runner
 b1:aB
 (b2 b3:ay)
def Sw:Td 0 Dd:= .c [] [3,4,5,6,7,8,15,16] (.t (b6.s 7 [] 128) (.c [] [3,4,5,6,7,8,15,16] (.r 0 5 (ec 3 (qp 0 0) (ec 4 (qp 1 0) (ec 5 (qp 2 0) (ec 6 (qp 3 0) (ec 7 (qo 4) (ec 8 qb (ec 15 aP (ec 16 aP en)))))))) (sb 0 133 (lg 133) (sb 1 166 (lg 166) (sb 2 128 (lg 128) (sb 3 128 (lc qn (aU (aU (aU (lc qn (aU (aU (aU ln)))))))) (sr 4 128 sn))))) (λz=>⟨z.q.2.1,z.1.q.2.1,z.1.q.t.1,z.1.q.t.2.1,z.2.1,z.t.1,z.t.2.1,(ay.mk [] (aK.mk z.q.1.2.1 z.q.1.t.1 z.q.1.t.2.1) [] (aK.mk z.q.1.q.2.1 z.q.1.q.t.1 z.q.1.q.t.2.1))⟩) (λx=>(((),(),(),(),(),x.t8,x.t15,x.t16,()),(x.b0,x.b1,x.b2,((),x.b3.aD.ah,x.b3.aD.ag,x.b3.aD.aj,(),x.b3.aI.ah,x.b3.aI.ag,x.b3.aI.aj,()),x.t7,()))))))
def Cp(M83:Runner->(af aB)->ay->aa td)(M156:Runner->aB->ay->aa iJ)(M160:Runner->aB->ay->aa iK)(p:Dd):aa (aa Dd):=
 bif vn (p.t16<p.t15)then match UA p.b2 p.b1.bg with|G=>G|V r1=>match WV r1 (az.mk p.b1.aF.bF p.b1.aF.fN p.b1.aF.aq)with|G=>G|V r2=>match SP r2 with|G=>G|V r3=>bif r3.fst then match IF r1 with|G=>G|V r4=>if(p.t7++[r4]).length<=1073741824 then bif bif r3.snd then O else J then V (G)else match M83 p.b0 p.b1.aQ r1 with|G=>G|V r5=>V (V (Dd.mk (p.t7++[r4]) p.t8 p.t15 (ak (p.t16+1)) p.b0 (aB.mk p.b1.b9 p.b1.bg p.b1.dL p.b1.fN (az.mk p.b1.aF.bF p.b1.aF.fN p.b1.aF.aq) p.b1.aQ p.b1.aX p.b1.aR) r5 (ay.mk [] p.b3.aD [] p.b3.aI)))else G else bif bif r3.snd then O else J then V (G)else match M83 p.b0 p.b1.aQ r1 with|G=>G|V r6=>V (V (Dd.mk p.t7 p.t8 p.t15 (ak (p.t16+1)) p.b0 (aB.mk p.b1.b9 p.b1.bg p.b1.dL p.b1.fN (az.mk p.b1.aF.bF p.b1.aF.fN p.b1.aF.aq) p.b1.aQ p.b1.aX p.b1.aR) r6 (ay.mk [] p.b3.aD [] p.b3.aI)))else V (G)
def Nn(M83:Runner->(af aB)->ay->aa td)(M156:Runner->aB->ay->aa iJ)(M160:Runner->aB->ay->aa iK):=bI (Cp M83 M156 M160)
def aon(M83:Runner->(af aB)->ay->aa td)(M156:Runner->aB->ay->aa iJ)(M160:Runner->aB->ay->aa iK):An:=(noTwo (noTwo (noTwo (.two (noTwo (Sw.lp (Nn M83 M156 M160) .no)) (noTwo (noTwo (.two (noTwo (Tp.lp (su M83 M156 M160) .no)) .no)))))))
def azl(M83:Runner->(af aB)->ay->aa td)(M156:Runner->aB->ay->aa iJ)(M160:Runner->aB->ay->aa iK):gv vp (avu M83 M156 M160) 0 300 156 (aon M83 M156 M160):=cH (l:=[(bk f156 0,(Sw.lp (Nn M83 M156 M160) .no)),(bk f156 1,(Tp.lp (su M83 M156 M160) .no))]) func156 (bT aY) aY (aA (aO Sw) (aA (aO Tp) aH))
def alE(M83:Runner->(af aB)->ay->aa td)(M156:Runner->aB->ay->aa iJ)(M160:Runner->aB->ay->aa iK)(a0:Runner)(a1:aB)(a2:ay):aa iJ:=
 match Nn M83 M156 M160 (Dd.mk [] J a1.fN 0 a0 (aB.mk a1.b9 a1.bg a1.dL a1.fN (az.mk a1.aF.bF a1.aF.fN a1.aF.aq) a1.aQ a1.aX a1.aR) a2 (ay.mk [] (aK.mk 0 0 0) [] (aK.mk 0 0 0)))with|G=>G|V r8=>bif vn (r8.t16<r8.t15)then match UA r8.b2 r8.b1.bg with|G=>G|V r9=>match WV r9 (az.mk r8.b1.aF.bF r8.b1.aF.fN r8.b1.aF.aq)with|G=>G|V r10=>match SP r10 with|G=>G|V r11=>bif r11.fst then match IF r9 with|G=>G|V r12=>if(r8.t7++[r12]).length<=1073741824 then bif bif r11.snd then O else J then if(0:Int)<=(0:Int)/\(0:Int)<(↑(r8.t7++[r12]).length:Int)then if 128=128/\0<zY (r8.t7++[r12]) then if(0:Int)<=(1:Int)/\(1:Int)<=(↑(r8.t7++[r12]).length:Int)then match su M83 M156 M160 (nQ.mk (ya 1 (r8.t7++[r12])) (↑(ya 1 (r8.t7++[r12])).length:Int) 0 (ay.mk [] r8.b3.aD [] r8.b3.aI) (r8.t7++[r12])[0]!)with|G=>G|V r13=>bif vn (r13.t55<r13.t54)then if 0<=r13.t55/\r13.t55<zY r13.t53 then match MM r13.b1 r13.t53[zq r13.t55]! with|G=>G|V r14=>G else G else V (r13.b1)else G else G else G else match M83 r8.b0 r8.b1.aQ r9 with|G=>G|V r15=>G else G else bif bif r11.snd then O else J then if(0:Int)<=(0:Int)/\(0:Int)<zY r8.t7 then if 128=128/\0<zY r8.t7 then if(0:Int)<=(1:Int)/\(1:Int)<=zY r8.t7 then match su M83 M156 M160 (nQ.mk (ya 1 r8.t7) (↑(ya 1 r8.t7).length:Int) 0 (ay.mk [] r8.b3.aD [] r8.b3.aI) r8.t7[0]!)with|G=>G|V r16=>bif vn (r16.t55<r16.t54)then if 0<=r16.t55/\r16.t55<zY r16.t53 then match MM r16.b1 r16.t53[zq r16.t55]! with|G=>G|V r17=>G else G else V (r16.b1)else G else G else G else match M83 r8.b0 r8.b1.aQ r9 with|G=>G|V r18=>G else bif r8.t8 then if(r8.t7++[r8.b2]).length<=1073741824 then if(0:Int)<=(0:Int)/\(0:Int)<(↑(r8.t7++[r8.b2]).length:Int)then if 128=128/\0<zY (r8.t7++[r8.b2]) then if(0:Int)<=(1:Int)/\(1:Int)<=(↑(r8.t7++[r8.b2]).length:Int)then match su M83 M156 M160 (nQ.mk (ya 1 (r8.t7++[r8.b2])) (↑(ya 1 (r8.t7++[r8.b2])).length:Int) 0 (ay.mk [] r8.b3.aD [] r8.b3.aI) (r8.t7++[r8.b2])[0]!)with|G=>G|V r19=>bif vn (r19.t55<r19.t54)then if 0<=r19.t55/\r19.t55<zY r19.t53 then match MM r19.b1 r19.t53[zq r19.t55]! with|G=>G|V r20=>G else G else V (r19.b1)else G else G else G else G else if(0:Int)<=(0:Int)/\(0:Int)<zY r8.t7 then if 128=128/\0<zY r8.t7 then if(0:Int)<=(1:Int)/\(1:Int)<=zY r8.t7 then match su M83 M156 M160 (nQ.mk (ya 1 r8.t7) (↑(ya 1 r8.t7).length:Int) 0 (ay.mk [] r8.b3.aD [] r8.b3.aI) r8.t7[0]!)with|G=>G|V r21=>bif vn (r21.t55<r21.t54)then if 0<=r21.t55/\r21.t55<zY r21.t53 then match MM r21.b1 r21.t53[zq r21.t55]! with|G=>G|V r22=>G else G else V (r21.b1)else G else G else G
def aGl(M83:Runner->(af aB)->ay->aa td)(M156:Runner->aB->ay->aa iJ)(M160:Runner->aB->ay->aa iK)(a0:Runner)(a1:aB)(a2:ay):bZ vp (avu M83 M156 M160) 300 (aon M83 M156 M160) 156 (auK.c (a0,a1,a2,())) [] 0 d156.rd=alE M83 M156 M160 a0 a1 a2:=aY
def auv(M83:Runner->(af aB)->ay->aa td)(M156:Runner->aB->ay->aa iJ)(M160:Runner->aB->ay->aa iK):bu:=(auf (awo (alS (x83 M83 (e82 dA)))))
def ahR{M83 M156 M160}(h83:H83 M83)(h156:acw M156)(h160:abT M160):bE vp (auv M83 M156 M160):=(YI (Bm (Lr (TI h83 (L0 aV)))))
def apc(M83:Runner->(af aB)->ay->aa td)(M156:Runner->aB->ay->aa iJ)(M160:Runner->aB->ay->aa iK):An:= .no
def aC7(M83:Runner->(af aB)->ay->aa td)(M156:Runner->aB->ay->aa iJ)(M160:Runner->aB->ay->aa iK):gv vp (auv M83 M156 M160) 0 300 160 (apc M83 M156 M160):=cH (l:=[]) func160 (bT aY) aY aH
def alD(M83:Runner->(af aB)->ay->aa td)(M156:Runner->aB->ay->aa iJ)(M160:Runner->aB->ay->aa iK)(a0:Runner)(a1:aB)(a2:ay):aa iK:=
 match WV a2 (az.mk a1.aF.bF a1.aF.fN a1.aF.aq)with|G=>G|V r1=>match SP r1 with|G=>G|V r2=>bif bif r2.fst then O else J then match M83 a0 a1.aQ a2 with|G=>G|V r3=>V (r3)else bif bif r2.snd then O else J then match M83 a0 a1.aX a2 with|G=>G|V r4=>V (r4)else match IF a2 with|G=>G|V r5=>match M83 a0 a1.aQ r5 with|G=>G|V r6=>match IF a2 with|G=>G|V r7=>match M83 a0 a1.aX r7 with|G=>G|V r8=>match MM r6 r8 with|G=>G|V r9=>V (r9)
def aGP(M83:Runner->(af aB)->ay->aa td)(M156:Runner->aB->ay->aa iJ)(M160:Runner->aB->ay->aa iK)(a0:Runner)(a1:aB)(a2:ay):bZ vp (auv M83 M156 M160) 300 (apc M83 M156 M160) 160 (aum.c (a0,a1,a2,())) [] 0 d160.rd=alD M83 M156 M160 a0 a1 a2:=aY
def dO:Nat->(Runner->(af aB)->ay->aa td)×(Runner->aB->ay->aa iJ)×(Runner->aB->ay->aa iK)
 |0=>(λ_ _ _=>G,λ_ _ _=>G,λ_ _ _=>G)
 |n+1=>(s83 (dO n).1 (dO n).2.1 (dO n).2.2,alE (dO n).1 (dO n).2.1 (dO n).2.2,alD (dO n).1 (dO n).2.1 (dO n).2.2)
def Zc(n:Nat):Runner->(af aB)->ay->aa td:=(dO n).1
def GS(n:Nat):Runner->aB->ay->aa iJ:=(dO n).2.1
def F8(n:Nat):Runner->aB->ay->aa iK:=(dO n).2.2
def qd:∀n,H83 (Zc n)/\acw (GS n)/\abT (F8 n)
 |0=>⟨λ_ _ h=>(by cases h),λ_ _ h=>(by cases h),λ_ _ h=>(by cases h)⟩
 |n+1=>by
  have ih:=qd n;obtain⟨i83,i156,i160⟩:=ih;refine⟨?_,?_,?_⟩
  ·exact(fe (ary i83 i156 i160) (aHl (Zc n) (GS n) (F8 n)) (λ_=>aY) (λ_=>aY) λg=>c83 (Zc n) (GS n) (F8 n) g.1 g.2.1 g.2.2.1)
  ·exact(fe (agW i83 i156 i160) (azl (Zc n) (GS n) (F8 n)) (λ_=>aY) (λ_=>aY) λg=>aGl (Zc n) (GS n) (F8 n) g.1 g.2.1 g.2.2.1)
  ·exact(fe (ahR i83 i156 i160) (aC7 (Zc n) (GS n) (F8 n)) (λ_=>aY) (λ_=>aY) λg=>aGP (Zc n) (GS n) (F8 n) g.1 g.2.1 g.2.2.1)
def r83:Runner->(af aB)->ay->aa td:=λa0 a1 a2=>lim (λn=>Zc n a0 a1 a2)
def at6:H83 r83:=λg b h=>by
 obtain⟨n,hn⟩:=dz (show lim (λn=>Zc n g.1 g.2.1 g.2.2.1)=V b from h);exact(qd n).1 g b hn
def e83(F:bu):bu:=x83 r83 F
def avH{F:bu}(h:bE vp F):bE vp (e83 F):=TI at6 h
abbrev aBe:=aK
def d168:Td 0 aBe:= .c [] [4] (.r 0 1 (ec 4 (qp 0 0) en) (sb 0 34 (lg 34) sn) (λz=>z.2.1) (λx=>(((),()),(x,()))))
def HG(a0:aK)(a1:Int):aa aBe:=
 match pO (8) a0 (m36 a1)with|G=>G|V r1=>V (r1.fst)
def asf:=eL vp 168 O (lc (qg 34) (aU ln)) d168 (λg=>HG g.1 g.2.1)
def Nt:EO asf:=λh=>kL (an:= .no) func168 (WJ (LP aV)) aH h
structure p6 where
 (t48 t49:Int)
 (b0 b1 b2 b3:aJ)
def SE:Td 0 p6:= .c [] [2,3,4,5,48,49] (.t (b6.c 3 4 [] 34) (.c [] [2,3,4,5,48,49] (.r 0 6 (ec 2 (qp 0 0) (ec 3 (qp 1 0) (ec 4 (qp 2 0) (ec 5 (qp 3 0) (ec 48 aP (ec 49 aP en)))))) (sb 0 147 (lg 147) (sb 1 147 (lg 147) (sb 2 147 (lc qn (aU (aU (aU (lc qn (aU (aU (aU ln)))))))) (sb 3 147 (lc (qo 4) (aU (aU (aU (lc (qo 5) (aU (aU (aU ln)))))))) (sr 4 34 (sr 5 34 sn)))))) (λz=>⟨z.1.q.1,z.1.q.2.1,z.2.1,z.t.1,(aJ.mk [] (aK.mk z.t.2.1.2.1 z.t.2.1.t.1 z.t.2.1.t.2.1) [] (aK.mk z.t.2.1.q.2.1 z.t.2.1.q.t.1 z.t.2.1.q.t.2.1)),(aJ.mk z.q.2.1 (aK.mk z.q.1.2.1 z.q.1.t.1 z.q.1.t.2.1) z.q.t.1 (aK.mk z.q.1.q.2.1 z.q.1.q.t.1 z.q.1.q.t.2.1))⟩) (λx=>(((),(),(),(),x.t48,x.t49,()),(x.b0,x.b1,((),x.b2.aD.ah,x.b2.aD.ag,x.b2.aD.aj,(),x.b2.aI.ah,x.b2.aI.ag,x.b2.aI.aj,()),((),x.b3.aD.ah,x.b3.aD.ag,x.b3.aD.aj,(),x.b3.aI.ah,x.b3.aI.ag,x.b3.aI.aj,()),x.b3.ai,x.b3.aG,()))))))
def Gd{α:Type}(p:p6)(go:p6->aa α)(e1:aa α):aa α:=
 bif vn (p.t49<p.t48)then bif vn (zY p.b0.aG<=p.t49)then if 0<=p.t49/\p.t49<zY p.b1.aG then if(p.b3.aG++[p.b1.aG[zq p.t49]!]).length<=1073741824 then go (p6.mk p.t48 (ak (p.t49+1)) p.b0 p.b1 (aJ.mk [] p.b2.aD [] p.b2.aI) (aJ.mk p.b3.ai p.b3.aD (p.b3.aG++[p.b1.aG[zq p.t49]!]) p.b3.aI))else G else G else bif vn (zY p.b1.aG<=p.t49)then if 0<=p.t49/\p.t49<zY p.b0.aG then if(p.b3.aG++[p.b0.aG[zq p.t49]!]).length<=1073741824 then go (p6.mk p.t48 (ak (p.t49+1)) p.b0 p.b1 (aJ.mk [] p.b2.aD [] p.b2.aI) (aJ.mk p.b3.ai p.b3.aD (p.b3.aG++[p.b0.aG[zq p.t49]!]) p.b3.aI))else G else G else if 0<=p.t49/\p.t49<zY p.b0.aG then if 0<=p.t49/\p.t49<zY p.b1.aG then match nG p.b0.aG[zq p.t49]! p.b1.aG[zq p.t49]! with|G=>G|V r2=>if(p.b3.aG++[r2]).length<=1073741824 then go (p6.mk p.t48 (ak (p.t49+1)) p.b0 p.b1 (aJ.mk [] p.b2.aD [] p.b2.aI) (aJ.mk p.b3.ai p.b3.aD (p.b3.aG++[r2]) p.b3.aI))else G else G else G else e1
def MY(p:p6):aa (aa p6):=
 Gd p (λs=>V (V s)) (V G)
def KH:=bI (MY)
structure Aa where
 (t21 t22:Int)
 (b0 b1 b2 b3:aJ)
def Vd:Td 0 Aa:= .c [] [2,3,4,5,21,22] (.t (b6.c 3 0 [] 34) (.c [] [2,3,4,5,21,22] (.r 0 5 (ec 2 (qp 0 0) (ec 3 (qp 1 0) (ec 4 (qp 2 0) (ec 5 (qp 3 0) (ec 21 aP (ec 22 aP en)))))) (sb 0 147 (lg 147) (sb 1 147 (lg 147) (sb 2 147 (lc qn (aU (aU (aU (lc qn (aU (aU (aU ln)))))))) (sb 3 147 (lc (qo 4) (aU (aU (aU (lc qn (aU (aU (aU ln)))))))) (sr 4 34 sn))))) (λz=>⟨z.1.q.1,z.1.q.2.1,z.2.1,z.t.1,(aJ.mk [] (aK.mk z.t.2.1.2.1 z.t.2.1.t.1 z.t.2.1.t.2.1) [] (aK.mk z.t.2.1.q.2.1 z.t.2.1.q.t.1 z.t.2.1.q.t.2.1)),(aJ.mk z.q.2.1 (aK.mk z.q.1.2.1 z.q.1.t.1 z.q.1.t.2.1) [] (aK.mk z.q.1.q.2.1 z.q.1.q.t.1 z.q.1.q.t.2.1))⟩) (λx=>(((),(),(),(),x.t21,x.t22,()),(x.b0,x.b1,((),x.b2.aD.ah,x.b2.aD.ag,x.b2.aD.aj,(),x.b2.aI.ah,x.b2.aI.ag,x.b2.aI.aj,()),((),x.b3.aD.ah,x.b3.aD.ag,x.b3.aD.aj,(),x.b3.aI.ah,x.b3.aI.ag,x.b3.aI.aj,()),x.b3.ai,()))))))
def FC{α:Type}(p:Aa)(go:Aa->aa α)(e1:aa α):aa α:=
 bif vn (p.t22<p.t21)then if 0<=p.t22/\p.t22<zY p.b0.ai then if 0<=p.t22/\p.t22<zY p.b1.ai then match nG p.b0.ai[zq p.t22]! p.b1.ai[zq p.t22]! with|G=>G|V r1=>if(p.b3.ai++[r1]).length<=1073741824 then go (Aa.mk p.t21 (ak (p.t22+1)) p.b0 p.b1 (aJ.mk [] p.b2.aD [] p.b2.aI) (aJ.mk (p.b3.ai++[r1]) p.b3.aD [] p.b3.aI))else G else G else G else e1
def MA(p:Aa):aa (aa Aa):=
 FC p (λs=>V (V s)) (V G)
def LN:=bI (MA)
abbrev aDv:=aJ
def d171:Td 0 aDv:= .c [] [4] (.r 0 3 (ec 4 (qp 0 0) en) (sb 0 147 (lc (qo 1) (aU (aU (aU (lc (qo 2) (aU (aU (aU ln)))))))) (sr 1 34 (sr 2 34 sn))) (λz=>(aJ.mk z.t.1 (aK.mk z.2.1.2.1 z.2.1.t.1 z.2.1.t.2.1) z.t.2.1 (aK.mk z.2.1.q.2.1 z.2.1.q.t.1 z.2.1.q.t.2.1))) (λx=>(((),()),(((),x.aD.ah,x.aD.ag,x.aD.aj,(),x.aI.ah,x.aI.ag,x.aI.aj,()),x.ai,x.aG,()))))
def aad(a0:aJ)(a1:aJ):aa aDv:=
 match nG a0.aD a1.aD with|G=>G|V r3=>match nG a0.aI a1.aI with|G=>G|V r4=>match LN (Aa.mk (zY a0.ai) 0 a0 a1 (aJ.mk [] (aK.mk 0 0 0) [] (aK.mk 0 0 0)) (aJ.mk [] r3 [] r4))with|G=>G|V r5=>FC r5 (λ_=>G) (match KH (p6.mk (if(zY r5.b0.aG:Int)<(zY r5.b1.aG:Int)then(zY r5.b1.aG:Int)else(zY r5.b0.aG:Int)) 0 r5.b0 r5.b1 (aJ.mk [] r5.b2.aD [] r5.b2.aI) (aJ.mk r5.b3.ai r5.b3.aD [] r5.b3.aI))with|G=>G|V r7=>Gd r7 (λ_=>G) (V (r7.b3)))
def axx:=eL vp 171 O (lc (qg 147) (lc (qg 147) ln)) d171 (λg=>aad g.1 g.2.1)
def W2:EO axx:=λh=>kL (an:=(noTwo (noTwo (.two (noTwo (Vd.lp LN .no)) (.two (noTwo (SE.lp KH .no)) .no))))) (l:=[(bk f171 0,(Vd.lp LN .no)),(bk f171 1,(SE.lp KH .no))]) func171 (sO aV) (aA (aO Vd) (aA (aO SE) aH)) h
structure Ab where
 t10:List aJ
 (t11 t12:Int)
 (b0 b1:aJ)
def US:Td 0 Ab:= .c [] [2,3,10,11,12] (.t (b6.fc 1 0 []) (.t (b6.fc 1 4 []) (.c [] [2,3,10,11,12] (.r 0 2 (ec 2 (qp 0 0) (ec 3 (qp 1 0) (ec 10 (ql 147) (ec 11 aP (ec 12 aP en))))) (sb 0 147 (lc qn (aU (aU (aU (lc qn (aU (aU (aU ln)))))))) (sb 1 147 (lg 147) sn)) (λz=>⟨z.1.t.1,z.1.t.2.1,z.1.q.1,(aJ.mk [] (aK.mk z.2.1.2.1 z.2.1.t.1 z.2.1.t.2.1) [] (aK.mk z.2.1.q.2.1 z.2.1.q.t.1 z.2.1.q.t.2.1)),z.t.1⟩) (λx=>(((),(),x.t10,x.t11,x.t12,()),(((),x.b0.aD.ah,x.b0.aD.ag,x.b0.aD.aj,(),x.b0.aI.ah,x.b0.aI.ag,x.b0.aI.aj,()),x.b1,())))))))
def GG{α:Type}(p:Ab)(go:Ab->aa α)(e1:aa α):aa α:=
 bif vn (p.t12<p.t11)then if 0<=p.t12/\p.t12<zY p.t10 then match aad p.b1 p.t10[zq p.t12]! with|G=>G|V r1=>go (Ab.mk p.t10 p.t11 (ak (p.t12+1)) (aJ.mk [] p.b0.aD [] p.b0.aI) r1)else G else e1
def Ks(p:Ab):aa (aa Ab):=
 GG p (λs=>V (V s)) (V G)
def Mc:=bI (Ks)
abbrev axp:=aJ
def d247:Td 0 axp:= .c [] [2] (.r 0 1 (ec 2 (qp 0 0) en) (sb 0 147 (lg 147) sn) (λz=>z.2.1) (λx=>(((),()),(x,()))))
def N4(a0:af aJ):aa axp:=
 if(0:Int)<=(0:Int)/\(0:Int)<zY a0 then if(0:Int)<=(1:Int)/\(1:Int)<=zY a0 then match Mc (Ab.mk (ya 1 a0) (↑(ya 1 a0).length:Int) 0 (aJ.mk [] (aK.mk 0 0 0) [] (aK.mk 0 0 0)) a0[0]!)with|G=>G|V r2=>GG r2 (λ_=>G) (V (r2.b1))else G else G
def adI:bu->bu:=eZ vp 247 (lc (ql 147) ln) d247 (λg=>N4 g.1)
def akH:EO adI:=λh=>kZ (an:=(noTwo (noTwo (.two (noTwo (US.lp Mc .no)) .no)))) (l:=[(bk f247 0,(US.lp Mc .no))]) func247 (W2 aV) (aA (aO US) aH) h
abbrev aDh:=aJ
def d169:Td 0 aDh:= .c [] [8] (.r 0 2 (ec 8 (qp 0 0) en) (sb 0 147 (lc (qo 1) (aU (aU (aU (lc (ql 34) (aU (aU (aU ln)))))))) (sr 1 34 sn)) (λz=>(aJ.mk z.t.1 (aK.mk z.2.1.2.1 z.2.1.t.1 z.2.1.t.2.1) z.2.1.q.1 (aK.mk z.2.1.q.2.1 z.2.1.q.t.1 z.2.1.q.t.2.1))) (λx=>(((),()),(((),x.aD.ah,x.aD.ag,x.aD.aj,x.aG,x.aI.ah,x.aI.ag,x.aI.aj,()),x.ai,()))))
def U9(a0:aS)(a1:aJ)(a2:Int)(a3:aK):aa aDh:=
 if([]++a1.ai).length<=1073741824 then if 0<=a2/\a2<zY a0.ai then if 0<=a2/\a2<zY a0.ai then match m86 a3 a0.ai[a2.toNat]!.ah a0.ai[a2.toNat]!.ag with|G=>G|V r1=>if 0<=a2/\a2<(↑([]++a1.ai).length:Int)then if 34=34/\a2.toNat<zY ([]++a1.ai) then V (aJ.mk (([]++a1.ai).set a2.toNat r1.fst) a1.aD a1.aG a1.aI)else G else G else G else G else G
def aw0:bu->bu:=eZ vp 169 (lc (qg 26) (lc (qg 147) (aU (lc (qg 34) ln)))) d169 (λg=>U9 g.1 g.2.1 g.t.1 g.t.2.1)
def akI:EO aw0:=λh=>kZ (an:= .no) func169 (TU aV) aH h
structure rS where
 t5:List aK
 (t12 t13:Int)
 b0:aJ
 b1:aK
 b2:aJ
def UU:Td 0 rS:= .c [] [2,3,4,5,12,13] (.r 0 4 (ec 2 (qp 0 0) (ec 3 (qp 1 0) (ec 4 (qp 2 0) (ec 5 (qo 3) (ec 12 aP (ec 13 aP en)))))) (sb 0 147 (lg 147) (sb 1 34 (lg 34) (sb 2 147 (lc qn (aU (aU (aU (lc qn (aU (aU (aU ln)))))))) (sr 3 34 sn)))) (λz=>⟨z.q.1,z.1.q.1,z.1.q.2.1,z.2.1,z.t.1,(aJ.mk [] (aK.mk z.t.2.1.2.1 z.t.2.1.t.1 z.t.2.1.t.2.1) [] (aK.mk z.t.2.1.q.2.1 z.t.2.1.q.t.1 z.t.2.1.q.t.2.1))⟩) (λx=>(((),(),(),(),x.t12,x.t13,()),(x.b0,x.b1,((),x.b2.aD.ah,x.b2.aD.ag,x.b2.aD.aj,(),x.b2.aI.ah,x.b2.aI.ag,x.b2.aI.aj,()),x.t5,()))))
def Fu{α:Type}(p:rS)(go:rS->aa α)(e1:aa α):aa α:=
 bif vn (p.t13<p.t12)then match m32 p.b0.aD p.t13 with|G=>G|V r1=>bif r1 then if 0<=p.t13/\p.t13<zY p.t5 then if 34=34/\zq p.t13<zY p.t5 then match nG p.t5[zq p.t13]! p.b1 with|G=>G|V r2=>if 0<=p.t13/\p.t13<zY p.t5 then if 34=34/\zq p.t13<zY p.t5 then go (rS.mk (p.t5.set p.t13.toNat r2) p.t12 (ak (p.t13+1)) p.b0 p.b1 (aJ.mk [] p.b2.aD [] p.b2.aI))else G else G else G else G else go (rS.mk p.t5 p.t12 (ak (p.t13+1)) p.b0 p.b1 (aJ.mk [] p.b2.aD [] p.b2.aI))else e1
def MT(p:rS):aa (aa rS):=
 Fu p (λs=>V (V s)) (V G)
def LR:=bI (MT)
abbrev aCj:=aJ
def d170:Td 0 aCj:= .c [] [4] (.r 0 2 (ec 4 (qp 0 0) en) (sb 0 147 (lc (ql 34) (aU (aU (aU (lc (qo 1) (aU (aU (aU ln)))))))) (sr 1 34 sn)) (λz=>(aJ.mk z.2.1.1 (aK.mk z.2.1.2.1 z.2.1.t.1 z.2.1.t.2.1) z.t.1 (aK.mk z.2.1.q.2.1 z.2.1.q.t.1 z.2.1.q.t.2.1))) (λx=>(((),()),((x.ai,x.aD.ah,x.aD.ag,x.aD.aj,(),x.aI.ah,x.aI.ag,x.aI.aj,()),x.aG,()))))
def acA(a0:aJ)(a1:aK):aa aCj:=
 if([]++a0.aG).length<=1073741824 then match LR (rS.mk ([]++a0.aG) (↑([]++a0.aG).length:Int) 0 a0 a1 (aJ.mk [] (aK.mk 0 0 0) [] (aK.mk 0 0 0)))with|G=>G|V r3=>Fu r3 (λ_=>G) (if(r3.t5++[r3.b1]).length<=1073741824 then match HG r3.b0.aD 1with|G=>G|V r6=>V (aJ.mk r3.b0.ai r6 (r3.t5++[r3.b1]) r3.b0.aI)else G)else G
def azJ:bu->bu:=eZ vp 170 (lc (qg 147) (lc (qg 34) ln)) d170 (λg=>acA g.1 g.2.1)
def anp:EO azJ:=λh=>kZ (an:=(noTwo (noTwo (.two (noTwo (UU.lp LR .no)) .no)))) (l:=[(bk f170 0,(UU.lp LR .no))]) func170 (Nt (sO (Iy aV))) (aA (aO UU) aH) h
abbrev EB:=aJ
def d88:Td 0 EB:= .c [] [8] (.r 0 1 (ec 8 (qp 0 0) en) (sb 0 147 (lg 147) sn) (λz=>z.2.1) (λx=>(((),()),(x,()))))
def A88:=(lc (qg 26) (lc (ql 34) (lc (ql 166) (lc (qg 147) ln))))
def x88(M:aS->(af aK)->(af aB)->aJ->aa EB):bu->bu:=eZ vp 88 A88 d88 (λg=>M g.1 g.2.1 g.2.2.1 g.2.2.2.1)
def H88(M:aS->(af aK)->(af aB)->aJ->aa EB):Prop:=HL vp 88 A88 d88 (λg=>M g.1 g.2.1 g.2.2.1 g.2.2.2.1)
def UJ{M:aS->(af aK)->(af aB)->aJ->aa EB}(hM:H88 M){F:bu}(h:bE vp F):bE vp (x88 M F):=Km hM ⟨_,func88,aY,aY⟩ (λ_=>aY) h
abbrev mF:=aJ
def d167:Td 0 mF:= .c [] [8] (.r 0 1 (ec 8 (qp 0 0) en) (sb 0 147 (lg 147) sn) (λz=>z.2.1) (λx=>(((),()),(x,()))))
def awk:=(lc (qg 26) (lc (ql 34) (lc (qg 166) (lc (qg 147) ln))))
def x167(M:aS->(af aK)->aB->aJ->aa mF):bu->bu:=eZ vp 167 awk d167 (λg=>M g.1 g.2.1 g.2.2.1 g.2.2.2.1)
def agN(M:aS->(af aK)->aB->aJ->aa mF):Prop:=HL vp 167 awk d167 (λg=>M g.1 g.2.1 g.2.2.1 g.2.2.2.1)
def ah1{M:aS->(af aK)->aB->aJ->aa mF}(hM:agN M){F:bu}(h:bE vp F):bE vp (x167 M F):=Km hM ⟨_,func167,aY,aY⟩ (λ_=>aY) h
def F88(M88:aS->(af aK)->(af aB)->aJ->aa EB)(M167:aS->(af aK)->aB->aJ->aa mF):bu:=(az8 (axx (azJ (aw0 (asf (x167 M167 (ZC (x88 M88 (e87 dA)))))))))
def at0{M88 M167}(h88:H88 M88)(h167:agN M167):bE vp (F88 M88 M167):=(aia (W2 (anp (akI (Nt (ah1 h167 (BN (UJ h88 (Uw aV)))))))))
structure oA where
 t1:List aK
 t13:List aB
 (t14 t15:Int)
 b0:aS
 (b1 b2:aJ)
def ada:Td 0 oA:= .c [] [1,4,7,8,13,14,15] (.t (b6.fc 1 0 []) (.t (b6.fc 1 4 []) (.c [] [1,4,7,8,13,14,15] (.r 0 3 (ec 1 (ql 34) (ec 4 (qp 0 0) (ec 7 (qp 1 0) (ec 8 (qp 2 0) (ec 13 (ql 166) (ec 14 aP (ec 15 aP en))))))) (sb 0 26 (lg 26) (sb 1 147 (lg 147) (sb 2 147 (lc qn (aU (aU (aU (lc qn (aU (aU (aU ln)))))))) sn))) (λz=>⟨z.1.1,z.1.q.1,z.1.q.2.1,z.1.q.t.1,z.2.1,z.t.1,(aJ.mk [] (aK.mk z.t.2.1.2.1 z.t.2.1.t.1 z.t.2.1.t.2.1) [] (aK.mk z.t.2.1.q.2.1 z.t.2.1.q.t.1 z.t.2.1.q.t.2.1))⟩) (λx=>((x.t1,(),(),(),x.t13,x.t14,x.t15,()),(x.b0,x.b1,((),x.b2.aD.ah,x.b2.aD.ag,x.b2.aD.aj,(),x.b2.aI.ah,x.b2.aI.ag,x.b2.aI.aj,()),())))))))
def We(M88:aS->(af aK)->(af aB)->aJ->aa EB)(M167:aS->(af aK)->aB->aJ->aa mF)(p:oA):aa (aa oA):=
 bif vn (p.t15<p.t14)then if 0<=p.t15/\p.t15<zY p.t13 then bif vn (p.t13[zq p.t15]!.b9=4)then match M167 p.b0 p.t1 (aB.mk p.t13[zq p.t15]!.b9 p.t13[zq p.t15]!.bg p.t13[zq p.t15]!.dL p.t13[zq p.t15]!.fN (az.mk p.t13[zq p.t15]!.aF.bF p.t13[zq p.t15]!.aF.fN p.t13[zq p.t15]!.aF.aq) p.t13[zq p.t15]!.aQ p.t13[zq p.t15]!.aX p.t13[zq p.t15]!.aR) p.b1 with|G=>G|V r1=>V (V (oA.mk p.t1 p.t13 p.t14 (ak (p.t15+1)) p.b0 r1 (aJ.mk [] p.b2.aD [] p.b2.aI)))else match HG p.b1.aI p.t13[zq p.t15]!.bg with|G=>G|V r2=>bif vn (p.t13[zq p.t15]!.b9=0)then match RJ (aJ.mk p.b1.ai p.b1.aD p.b1.aG r2) (az.mk p.t13[zq p.t15]!.aF.bF p.t13[zq p.t15]!.aF.fN p.t13[zq p.t15]!.aF.aq)with|G=>G|V r3=>match U9 p.b0 (aJ.mk p.b1.ai p.b1.aD p.b1.aG r2) p.t13[zq p.t15]!.dL r3 with|G=>G|V r4=>V (V (oA.mk p.t1 p.t13 p.t14 (ak (p.t15+1)) p.b0 r4 (aJ.mk [] p.b2.aD [] p.b2.aI)))else bif vn (p.t13[zq p.t15]!.b9=5)then if 0<=p.t13[zq p.t15]!.fN/\p.t13[zq p.t15]!.fN<zY p.t1 then match U9 p.b0 (aJ.mk p.b1.ai p.b1.aD p.b1.aG r2) p.t13[zq p.t15]!.dL p.t1[p.t13[zq p.t15]!.fN.toNat]! with|G=>G|V r5=>V (V (oA.mk p.t1 p.t13 p.t14 (ak (p.t15+1)) p.b0 r5 (aJ.mk [] p.b2.aD [] p.b2.aI)))else G else bif vn (p.t13[zq p.t15]!.b9=1)then match RJ (aJ.mk p.b1.ai p.b1.aD p.b1.aG r2) (az.mk p.t13[zq p.t15]!.aF.bF p.t13[zq p.t15]!.aF.fN p.t13[zq p.t15]!.aF.aq)with|G=>G|V r6=>match acA (aJ.mk p.b1.ai p.b1.aD p.b1.aG r2) r6 with|G=>G|V r7=>V (V (oA.mk p.t1 p.t13 p.t14 (ak (p.t15+1)) p.b0 r7 (aJ.mk [] p.b2.aD [] p.b2.aI)))else bif vn (p.t13[zq p.t15]!.b9=3)then match RJ (aJ.mk p.b1.ai p.b1.aD p.b1.aG r2) (az.mk p.t13[zq p.t15]!.aF.bF p.t13[zq p.t15]!.aF.fN p.t13[zq p.t15]!.aF.aq)with|G=>G|V r8=>match Fe r8 with|G=>G|V r9=>bif bif r9.fst then O else J then match M88 p.b0 p.t1 p.t13[zq p.t15]!.aQ (aJ.mk p.b1.ai p.b1.aD p.b1.aG r2)with|G=>G|V r10=>V (V (oA.mk p.t1 p.t13 p.t14 (ak (p.t15+1)) p.b0 r10 (aJ.mk [] p.b2.aD [] p.b2.aI)))else bif bif r9.snd then O else J then match M88 p.b0 p.t1 p.t13[zq p.t15]!.aX (aJ.mk p.b1.ai p.b1.aD p.b1.aG r2)with|G=>G|V r11=>V (V (oA.mk p.t1 p.t13 p.t14 (ak (p.t15+1)) p.b0 r11 (aJ.mk [] p.b2.aD [] p.b2.aI)))else match M88 p.b0 p.t1 p.t13[zq p.t15]!.aQ (aJ.mk p.b1.ai p.b1.aD p.b1.aG r2)with|G=>G|V r12=>match M88 p.b0 p.t1 p.t13[zq p.t15]!.aX (aJ.mk p.b1.ai p.b1.aD p.b1.aG r2)with|G=>G|V r13=>match aad r12 r13 with|G=>G|V r14=>V (V (oA.mk p.t1 p.t13 p.t14 (ak (p.t15+1)) p.b0 r14 (aJ.mk [] p.b2.aD [] p.b2.aI)))else bif vn (p.t13[zq p.t15]!.b9=6)then match QU r2 p.t13[zq p.t15]!.aR with|G=>G|V r15=>V (V (oA.mk p.t1 p.t13 p.t14 (ak (p.t15+1)) p.b0 (aJ.mk p.b1.ai p.b1.aD p.b1.aG r15.fst) (aJ.mk [] p.b2.aD [] p.b2.aI)))else V (V (oA.mk p.t1 p.t13 p.t14 (ak (p.t15+1)) p.b0 (aJ.mk p.b1.ai p.b1.aD p.b1.aG r2) (aJ.mk [] p.b2.aD [] p.b2.aI)))else G else V (G)
def YA(M88:aS->(af aK)->(af aB)->aJ->aa EB)(M167:aS->(af aK)->aB->aJ->aa mF):=bI (We M88 M167)
def aAE(M88:aS->(af aK)->(af aB)->aJ->aa EB)(M167:aS->(af aK)->aB->aJ->aa mF):An:=(noTwo (.two (noTwo (ada.lp (YA M88 M167) .no)) .no))
def aH5(M88:aS->(af aK)->(af aB)->aJ->aa EB)(M167:aS->(af aK)->aB->aJ->aa mF):gv vp (F88 M88 M167) 0 300 88 (aAE M88 M167):=cH (l:=[(bk f88 0,(ada.lp (YA M88 M167) .no))]) func88 (bT aY) aY (aA (aO ada) aH)
def s88(M88:aS->(af aK)->(af aB)->aJ->aa EB)(M167:aS->(af aK)->aB->aJ->aa mF)(a0:aS)(a1:af aK)(a2:af aB)(a3:aJ):aa EB:=
 match YA M88 M167 (oA.mk a1 a2 (zY a2) 0 a0 a3 (aJ.mk [] (aK.mk 0 0 0) [] (aK.mk 0 0 0)))with|G=>G|V r16=>bif vn (r16.t15<r16.t14)then if 0<=r16.t15/\r16.t15<zY r16.t13 then bif vn (r16.t13[zq r16.t15]!.b9=4)then match M167 r16.b0 r16.t1 (aB.mk r16.t13[zq r16.t15]!.b9 r16.t13[zq r16.t15]!.bg r16.t13[zq r16.t15]!.dL r16.t13[zq r16.t15]!.fN (az.mk r16.t13[zq r16.t15]!.aF.bF r16.t13[zq r16.t15]!.aF.fN r16.t13[zq r16.t15]!.aF.aq) r16.t13[zq r16.t15]!.aQ r16.t13[zq r16.t15]!.aX r16.t13[zq r16.t15]!.aR) r16.b1 with|G=>G|V r17=>G else match HG r16.b1.aI r16.t13[zq r16.t15]!.bg with|G=>G|V r18=>bif vn (r16.t13[zq r16.t15]!.b9=0)then match RJ (aJ.mk r16.b1.ai r16.b1.aD r16.b1.aG r18) (az.mk r16.t13[zq r16.t15]!.aF.bF r16.t13[zq r16.t15]!.aF.fN r16.t13[zq r16.t15]!.aF.aq)with|G=>G|V r19=>match U9 r16.b0 (aJ.mk r16.b1.ai r16.b1.aD r16.b1.aG r18) r16.t13[zq r16.t15]!.dL r19 with|G=>G|V r20=>G else bif vn (r16.t13[zq r16.t15]!.b9=5)then if 0<=r16.t13[zq r16.t15]!.fN/\r16.t13[zq r16.t15]!.fN<zY r16.t1 then match U9 r16.b0 (aJ.mk r16.b1.ai r16.b1.aD r16.b1.aG r18) r16.t13[zq r16.t15]!.dL r16.t1[r16.t13[zq r16.t15]!.fN.toNat]! with|G=>G|V r21=>G else G else bif vn (r16.t13[zq r16.t15]!.b9=1)then match RJ (aJ.mk r16.b1.ai r16.b1.aD r16.b1.aG r18) (az.mk r16.t13[zq r16.t15]!.aF.bF r16.t13[zq r16.t15]!.aF.fN r16.t13[zq r16.t15]!.aF.aq)with|G=>G|V r22=>match acA (aJ.mk r16.b1.ai r16.b1.aD r16.b1.aG r18) r22 with|G=>G|V r23=>G else bif vn (r16.t13[zq r16.t15]!.b9=3)then match RJ (aJ.mk r16.b1.ai r16.b1.aD r16.b1.aG r18) (az.mk r16.t13[zq r16.t15]!.aF.bF r16.t13[zq r16.t15]!.aF.fN r16.t13[zq r16.t15]!.aF.aq)with|G=>G|V r24=>match Fe r24 with|G=>G|V r25=>bif bif r25.fst then O else J then match M88 r16.b0 r16.t1 r16.t13[zq r16.t15]!.aQ (aJ.mk r16.b1.ai r16.b1.aD r16.b1.aG r18)with|G=>G|V r26=>G else bif bif r25.snd then O else J then match M88 r16.b0 r16.t1 r16.t13[zq r16.t15]!.aX (aJ.mk r16.b1.ai r16.b1.aD r16.b1.aG r18)with|G=>G|V r27=>G else match M88 r16.b0 r16.t1 r16.t13[zq r16.t15]!.aQ (aJ.mk r16.b1.ai r16.b1.aD r16.b1.aG r18)with|G=>G|V r28=>match M88 r16.b0 r16.t1 r16.t13[zq r16.t15]!.aX (aJ.mk r16.b1.ai r16.b1.aD r16.b1.aG r18)with|G=>G|V r29=>match aad r28 r29 with|G=>G|V r30=>G else bif vn (r16.t13[zq r16.t15]!.b9=6)then match QU r18 r16.t13[zq r16.t15]!.aR with|G=>G|V r31=>G else G else G else V (r16.b1)
def c88(M88:aS->(af aK)->(af aB)->aJ->aa EB)(M167:aS->(af aK)->aB->aJ->aa mF)(a0:aS)(a1:af aK)(a2:af aB)(a3:aJ):bZ vp (F88 M88 M167) 300 (aAE M88 M167) 88 (A88.c (a0,a1,a2,a3,())) [] 0 d88.rd=s88 M88 M167 a0 a1 a2 a3:=aY
def avB(M88:aS->(af aK)->(af aB)->aJ->aa EB)(M167:aS->(af aK)->aB->aJ->aa mF):bu:=(adI (asf (ZC (x88 M88 (e87 dA)))))
def alR{M88 M167}(h88:H88 M88)(h167:agN M167):bE vp (avB M88 M167):=(akH (Nt (BN (UJ h88 (Uw aV)))))
structure Dh where
 t1:List aK
 t9:List aJ
 (t13 t14:Int)
 b0:aS
 b1:aB
 (b2 b3:aJ)
def Tz:Td 0 Dh:= .c [] [1,4,6,7,8,9,13,14] (.t (b6.s 9 [] 147) (.c [] [1,4,6,7,8,9,13,14] (.r 0 5 (ec 1 (ql 34) (ec 4 (qp 0 0) (ec 6 (qp 1 0) (ec 7 (qp 2 0) (ec 8 (qp 3 0) (ec 9 (qo 4) (ec 13 aP (ec 14 aP en)))))))) (sb 0 26 (lg 26) (sb 1 166 (lg 166) (sb 2 147 (lg 147) (sb 3 147 (lc qn (aU (aU (aU (lc qn (aU (aU (aU ln)))))))) (sr 4 147 sn))))) (λz=>⟨z.1.1,z.q.2.1,z.1.q.t.1,z.1.q.t.2.1,z.2.1,z.t.1,z.t.2.1,(aJ.mk [] (aK.mk z.q.1.2.1 z.q.1.t.1 z.q.1.t.2.1) [] (aK.mk z.q.1.q.2.1 z.q.1.q.t.1 z.q.1.q.t.2.1))⟩) (λx=>((x.t1,(),(),(),(),(),x.t13,x.t14,()),(x.b0,x.b1,x.b2,((),x.b3.aD.ah,x.b3.aD.ag,x.b3.aD.aj,(),x.b3.aI.ah,x.b3.aI.ag,x.b3.aI.aj,()),x.t9,()))))))
def CM(M88:aS->(af aK)->(af aB)->aJ->aa EB)(M167:aS->(af aK)->aB->aJ->aa mF)(p:Dh):aa (aa Dh):=
 bif vn (p.t14<p.t13)then match HG p.b2.aI p.b1.bg with|G=>G|V r1=>match RJ (aJ.mk p.b2.ai p.b2.aD p.b2.aG r1) (az.mk p.b1.aF.bF p.b1.aF.fN p.b1.aF.aq)with|G=>G|V r2=>match Fe r2 with|G=>G|V r3=>bif r3.fst then if(p.t9++[aJ.mk p.b2.ai p.b2.aD p.b2.aG r1]).length<=1073741824 then bif bif r3.snd then O else J then match N4 (p.t9++[aJ.mk p.b2.ai p.b2.aD p.b2.aG r1])with|G=>G|V r4=>V (G)else match M88 p.b0 p.t1 p.b1.aQ (aJ.mk p.b2.ai p.b2.aD p.b2.aG r1)with|G=>G|V r5=>V (V (Dh.mk p.t1 (p.t9++[aJ.mk p.b2.ai p.b2.aD p.b2.aG r1]) p.t13 (ak (p.t14+1)) p.b0 (aB.mk p.b1.b9 p.b1.bg p.b1.dL p.b1.fN (az.mk p.b1.aF.bF p.b1.aF.fN p.b1.aF.aq) p.b1.aQ p.b1.aX p.b1.aR) r5 (aJ.mk [] p.b3.aD [] p.b3.aI)))else G else bif bif r3.snd then O else J then match N4 p.t9 with|G=>G|V r6=>V (G)else match M88 p.b0 p.t1 p.b1.aQ (aJ.mk p.b2.ai p.b2.aD p.b2.aG r1)with|G=>G|V r7=>V (V (Dh.mk p.t1 p.t9 p.t13 (ak (p.t14+1)) p.b0 (aB.mk p.b1.b9 p.b1.bg p.b1.dL p.b1.fN (az.mk p.b1.aF.bF p.b1.aF.fN p.b1.aF.aq) p.b1.aQ p.b1.aX p.b1.aR) r7 (aJ.mk [] p.b3.aD [] p.b3.aI)))else V (G)
def KV(M88:aS->(af aK)->(af aB)->aJ->aa EB)(M167:aS->(af aK)->aB->aJ->aa mF):=bI (CM M88 M167)
def apa(M88:aS->(af aK)->(af aB)->aJ->aa EB)(M167:aS->(af aK)->aB->aJ->aa mF):An:=(noTwo (noTwo (.two (noTwo (Tz.lp (KV M88 M167) .no)) .no)))
def azB(M88:aS->(af aK)->(af aB)->aJ->aa EB)(M167:aS->(af aK)->aB->aJ->aa mF):gv vp (avB M88 M167) 0 300 167 (apa M88 M167):=cH (l:=[(bk f167 0,(Tz.lp (KV M88 M167) .no))]) func167 (bT aY) aY (aA (aO Tz) aH)
def amj(M88:aS->(af aK)->(af aB)->aJ->aa EB)(M167:aS->(af aK)->aB->aJ->aa mF)(a0:aS)(a1:af aK)(a2:aB)(a3:aJ):aa mF:=
 match KV M88 M167 (Dh.mk a1 [] a2.fN (0) a0 (aB.mk a2.b9 a2.bg a2.dL a2.fN (az.mk a2.aF.bF a2.aF.fN a2.aF.aq) a2.aQ a2.aX a2.aR) a3 (aJ.mk [] (aK.mk (0) (0) (0)) [] (aK.mk (0) (0) (0))))with|G=>G|V r8=>bif vn (r8.t14<r8.t13)then match HG r8.b2.aI r8.b1.bg with|G=>G|V r9=>match RJ (aJ.mk r8.b2.ai r8.b2.aD r8.b2.aG r9) (az.mk r8.b1.aF.bF r8.b1.aF.fN r8.b1.aF.aq)with|G=>G|V r10=>match Fe r10 with|G=>G|V r11=>bif r11.fst then if(r8.t9++[aJ.mk r8.b2.ai r8.b2.aD r8.b2.aG r9]).length<=1073741824 then bif bif r11.snd then O else J then match N4 (r8.t9++[aJ.mk r8.b2.ai r8.b2.aD r8.b2.aG r9])with|G=>G|V r12=>V (r12)else match M88 r8.b0 r8.t1 r8.b1.aQ (aJ.mk r8.b2.ai r8.b2.aD r8.b2.aG r9)with|G=>G|V r13=>G else G else bif bif r11.snd then O else J then match N4 r8.t9 with|G=>G|V r14=>V (r14)else match M88 r8.b0 r8.t1 r8.b1.aQ (aJ.mk r8.b2.ai r8.b2.aD r8.b2.aG r9)with|G=>G|V r15=>G else if(r8.t9++[r8.b2]).length<=1073741824 then match N4 (r8.t9++[r8.b2])with|G=>G|V r16=>V (r16)else G
def aFY(M88:aS->(af aK)->(af aB)->aJ->aa EB)(M167:aS->(af aK)->aB->aJ->aa mF)(a0:aS)(a1:af aK)(a2:aB)(a3:aJ):bZ vp (avB M88 M167) 300 (apa M88 M167) 167 (awk.c (a0,a1,a2,a3,())) [] 0 d167.rd=amj M88 M167 a0 a1 a2 a3:=aY
def oI:Nat->(aS->(af aK)->(af aB)->aJ->aa EB)×(aS->(af aK)->aB->aJ->aa mF)
 |0=>(λ_ _ _ _=>G,λ_ _ _ _=>G)
 |n+1=>(s88 (oI n).1 (oI n).2,amj (oI n).1 (oI n).2)
def m88(n:Nat):aS->(af aK)->(af aB)->aJ->aa EB:=(oI n).1
def Om(n:Nat):aS->(af aK)->aB->aJ->aa mF:=(oI n).2
def DV:∀n,H88 (m88 n)/\agN (Om n)
 |0=>⟨λ_ _ h=>(by cases h),λ_ _ h=>(by cases h)⟩
 |n+1=>by
  have ih:=DV n;obtain⟨i88,i167⟩:=ih;refine⟨?_,?_⟩
  ·exact(fe (at0 i88 i167) (aH5 (m88 n) (Om n)) (λ_=>aY) (λ_=>aY) λg=>c88 (m88 n) (Om n) g.1 g.2.1 g.2.2.1 g.2.2.2.1)
  ·exact(fe (alR i88 i167) (azB (m88 n) (Om n)) (λ_=>aY) (λ_=>aY) λg=>aFY (m88 n) (Om n) g.1 g.2.1 g.2.2.1 g.2.2.2.1)
def r88:aS->(af aK)->(af aB)->aJ->aa EB:=λa0 a1 a2 a3=>lim (λn=>m88 n a0 a1 a2 a3)
def auU:H88 r88:=λg b h=>by
 obtain⟨n,hn⟩:=dz (show lim (λn=>m88 n g.1 g.2.1 g.2.2.1 g.2.2.2.1)=V b from h);exact(DV n).1 g b hn
def e88(F:bu):bu:=x88 r88 F
def asJ{F:bu}(h:bE vp F):bE vp (e88 F):=UJ auU h
def ab5{l:af aK}(h:zY l<=1000000):Xr l=V l:=by unfold Xr;rw[gM]
def tw{s:ay}(h1:zY s.ai<=1000000)(h2:zY s.aG<=1000000):IF s=V s:=by
 unfold IF;rw[ab5 h1];rw[ab5 h2]
def Tk{n m:Nat}{s:ay}(h:eR n m s){c:Int}(hc:cA c):UA s c=V (fT s c):=by
 obtain⟨z,e,_,_⟩:=pW 8 h.time (mg hc);unfold UA fT;rw[sV,e]
def NG{a:aK}(h:NN a){c:Int}(hc:cA c):HG a c=V (qw 8 a (eE c)):=by
 obtain⟨z,_,e,_⟩:=pW 8 h (mg hc);unfold HG;rw[EC,e]
def acX{r:Runner}{m:Nat}{s:ay}(h:eR (zY r.fF.ai) m s)(hn:zY r.fF.ai<=1000000)(hm:m<=1000000){v:Int}{x:aK}(h1:0<=v)(h2:v<zY r.fF.ai)(hx:NN x):Vn r s v x=V (TM r.fF s v x):=by
 have hl:=h.len;have hs:=h.sl;obtain⟨z,e,_,_⟩:=iB hx r.fF.ai[v.toNat]!.ah r.fF.ai[v.toNat]!.ag;unfold Vn TM;rw[tw au au];dsimp only;rw[bC ⟨h1,h2⟩,e];dsimp only;rw[gM,bC ⟨rfl,au⟩]
def adC{f:aS}{m:Nat}{s:ay}(h:eR (zY f.ai) m s)(hn:zY f.ai<=1000000){v:Int}{x:aK}(h1:0<=v)(h2:v<zY f.ai)(hx:NN x):U9 f (tr s) v x=V (tr (TM f s v x)):=by
 have hl:=h.len;obtain⟨z,_,e,_⟩:=iB hx f.ai[v.toNat]!.ah f.ai[v.toNat]!.ag;unfold U9 TM tr;simp only[yB];rw[gM,bC ⟨h1,h2⟩,bC ⟨h1,h2⟩,e];dsimp only;rw[gM,bC ⟨trivial,au⟩]
def QA{vars:af bh}{inp:Bool}{m:Nat}{st:ay}(hst:eR (zY vars) m st){t:az}(hc:fu vars inp t=0):WV st t=V (cI st.ai t):=by
 have e:aiA t st=V (cI st.ai t,st):=eM (ze t+1) λn hn=>(My hst n t au (sY hc).1 (sY hc).2).1;unfold WV;rw[az.eta,e]
def D6(s:ay)(v:aK)(i:Nat):af aK:=tab (zY s.aG) (λk=>if k<i/\cR s.aD k=J then cE s.aG[k]! v else s.aG[k]!)
def Ai(s:ay)(v:aK)(i:Nat):zY (D6 s v i)=zY s.aG:=gW ..
def acu(s:ay)(v:aK):D6 s v 0=s.aG:=Ue rfl λi _=>by rw[bL (λh=>au)]
def Q3(s:ay)(v:aK):D6 s v s.aG.length=tab (zY s.aG) (λk=>if cR s.aD k=J then cE s.aG[k]! v else s.aG[k]!):=iy λi hi=>by
 by_cases c:cR s.aD (i:Nat)=J
 ·rw[bC ⟨hi,c⟩,bC c]
 ·rw[bL (λh=>c h.2),bL c]
def Pe{s:ay}{v:aK}{i:Nat}(h:i<zY s.aG):(D6 s v i)[i]! =s.aG[i]! :=by
 rw[D6,pH h,bL (λh=>au)]
def OM{s:ay}{v:aK}{i:Nat}(c:cR s.aD (i:Nat)=J):(D6 s v i).set i (cE s.aG[i]! v)=D6 s v (i+1):=by
 rw[D6,KM];refine iy λj _=> ?_;by_cases e:j=i
 ·subst e;rw[bC rfl,bC ⟨au,c⟩]
 ·rw[bL e];by_cases c2:j<i/\cR s.aD (j:Nat)=J
  ·rw[bC c2,bC ⟨au,c2.2⟩]
  ·rw[bL c2,bL (λh=>c2 ⟨au,h.2⟩)]
def WY{s:ay}{v:aK}{i:Nat}(c:cR s.aD (i:Nat)=O):D6 s v i=D6 s v (i+1):=by
 refine iy λj _=> ?_;by_cases e:j=i
 ·subst e;rw[bL (λh=>au),bL (λh=>by rw[c]at h;cases h.2)]
 ·by_cases c2:j<i/\cR s.aD (j:Nat)=J
  ·rw[bC c2,bC ⟨au,c2.2⟩]
  ·rw[bL c2,bL (λh=>c2 ⟨au,h.2⟩)]
def atu{n m:Nat}{s:ay}(h:eR n m s)(hn:n<=1000000)(hm:m<=1000000){x:aK}(hx:NN x):aa3 s x=V (Zu s x):=by
 have hs:=h.sl;have hl:=h.len;obtain⟨v,e1,_⟩:=cS (rnd:=NM) (zY s.aG) (λi (_:Unit)=>⟨(zY s.aG:Int),(i:Int),⟨s.ai,s.aD,D6 s x i,s.aI⟩,x,⟨[],⟨0,0,0⟩,[],⟨0,0,0⟩⟩⟩) (λi _=>True) (λi b hi _=>by
  obtain⟨i1,i2,hw⟩:=w3 hi au;refine⟨(),?_,trivial⟩;unfold NM FH;by_cases hc:cR s.aD (i:Nat)=J
  ·simp only[cG,i1,i2,hi,cK,cW,sw (.inr h.count),hc,Ai,Pe hi,pZ (.inr (h.slots i hi)) (.inr hx),hw,OM hc]
  ·have hc:cR s.aD (i:Nat)=O:=by simpa using hc
   simp only[cD,i1,Dw,sw (.inr h.count),hc,hw,WY hc]) (λb _=>by unfold NM FH;simp) (b:=()) trivial
 rw[acu]at e1;have e1':Lw ⟨(zY s.aG:Int),0,s,x,⟨[],⟨0,0,0⟩,[],⟨0,0,0⟩⟩⟩=_:=e1;obtain⟨z,eb,_,_⟩:=pW 8 h.count (mg (c:=1) ⟨by decide,by decide⟩);unfold aa3 FH;rw[tw au au];dsimp only;rw[e1'];dsimp only;rw[fE,ct,bC (by rw[zh,Ai];simp;omega),sV,eb,Q3];rfl
def atQ{n m:Nat}{s:ay}(h:eR n m s)(hm:m<=1000000){x:aK}(hx:NN x):acA (tr s) x=V (tr (Zu s x)):=by
 have hs:=h.sl;obtain⟨v,e1,_⟩:=cS (rnd:=MT) (zY s.aG) (λi (_:Unit)=>⟨D6 s x i,(zY s.aG:Int),(i:Int),tr s,x,⟨[],⟨0,0,0⟩,[],⟨0,0,0⟩⟩⟩) (λi _=>True) (λi b hi _=>by
  obtain⟨i1,i2,hw⟩:=w3 hi au;refine⟨(),?_,trivial⟩;unfold MT Fu;dsimp only[tr];by_cases hc:cR s.aD (i:Nat)=J
  ·simp only[cG,i1,i2,hi,cK,cW,j9 (.inr h.count),hc,Ai,Pe hi,gu (.inr (h.slots i hi)) (.inr hx),hw,OM hc]
  ·have hc:cR s.aD (i:Nat)=O:=by simpa using hc
   simp only[cD,i1,Dw,j9 (.inr h.count),hc,hw,WY hc]) (λb _=>by unfold MT Fu;simp) (b:=()) trivial
 rw[acu]at e1;have e1':LR ⟨s.aG,(zY s.aG:Int),0,tr s,x,⟨[],⟨0,0,0⟩,[],⟨0,0,0⟩⟩⟩=_:=e1;unfold acA Fu;rw[show (tr s).aG=s.aG from rfl];simp only[yB];rw[gM,e1'];dsimp only;rw[fE,ct,bC (by rw[zh,Ai];simp;omega),show (tr s).aD=s.aD from rfl,NG h.count ⟨by decide,by decide⟩,Q3];rfl
def Fo(a b:af aK)(i:Nat):af aK:=tab (zY a) (λk=>if k<i then cE a[k]! b[k]! else a[k]!)
def afF(a b:af aK)(i:Nat):zY (Fo a b i)=zY a:=gW ..
def arP(a b:af aK):Fo a b 0=a:=Ue rfl λi _=>by rw[qE]
def aeB(a b:af aK):Fo a b a.length=tab (zY a) (λk=>cE a[k]! b[k]!):=iy λi hi=>by rw[bC hi]
def aeq{a b:af aK}{i:Nat}(h:i<zY a):(Fo a b i)[i]! =a[i]! :=by rw[Fo,pH h,qE]
def aeC(a b:af aK)(i:Nat):(Fo a b i).set i (cE a[i]! b[i]!)=Fo a b (i+1):=by
 rw[Fo,KM];refine iy λj _=> ?_;by_cases e:j=i
 ·subst e;rw[bC rfl,gM]
 ·rw[bL e];by_cases c:j<i
  ·rw[bC c,gM]
  ·rw[bL c,qE]
def qx(a b:af aK)(i:Nat):af aK:=tab (max (zY a) i) (λk=>if k<i then RE a b k else a[k]!)
def Hl(a b:af aK)(i:Nat):zY (qx a b i)=max (zY a) i:=gW ..
def auP(a b:af aK):qx a b 0=a:=Ue au λi _=>by rw[qE]
def afX(a b:af aK):qx a b b.length=tab (max (zY a) (zY b)) (RE a b):=iy λi hi=>by
 by_cases c:i<zY b
 ·rw[bC c]
 ·rw[bL c];unfold RE;rw[qE,gM]
def adf{a b:af aK}{i:Nat}(h:i<zY a):(qx a b i)[i]! =a[i]! :=by rw[qx,pH au,qE]
def afO{a b:af aK}{i:Nat}(h:i<zY a)(k:i<zY b):(qx a b i).set i (cE a[i]! b[i]!)=qx a b (i+1):=by
 rw[qx,KM,qx,show max (zY a) i=max (zY a) (i+1)by omega];refine iy λj _=> ?_;by_cases e:j=i
 ·subst e;rw[bC rfl,gM];unfold RE;rw[qE,qE]
 ·rw[bL e];by_cases c:j<i
  ·rw[bC c,gM]
  ·rw[bL c,qE]
def aaW{a b:af aK}{i:Nat}(h:zY a<=i):qx a b i++[b[i]!]=qx a b (i+1):=by
 rw[qx,qx,show max (zY a) i=i by omega,show max (zY a) (i+1)=i+1 by omega,qO]
 congr 1
 ·refine iy λj hj=> ?_;rw[bC hj,gM]
 ·rw[gM];unfold RE;rw[bC h]
def aeR{n m:Nat}{s t:ay}(h:eR n m s)(k:eR n m t)(hn:n<=1000000)(hm:m<=1000000):MM s t=V (mU s t):=by
 have hs:=h.sl;have hl:=h.len;have ks:=k.sl;have kl:=k.len;obtain⟨v,e1,_⟩:=cS (rnd:=K4) (zY s.ai) (λi (_:Unit)=>⟨(zY s.ai:Int),(i:Int),t,⟨[],⟨0,0,0⟩,[],⟨0,0,0⟩⟩,⟨Fo s.ai t.ai i,s.aD,s.aG,s.aI⟩⟩) (λi _=>True) (λi b hi _=>by
  obtain⟨i1,i2,hw⟩:=w3 hi au;have i3:(i:Int)<(zY t.ai:Int):=au;refine⟨(),?_,trivial⟩;unfold K4 HE;simp only[cG,i1,i2,i3,hi,cK,cW,afF,aeq hi,pZ (.inr (h.vars i au)) (.inr (k.vars i au)),hw,aeC]) (λb _=>by unfold K4 HE;simp) (b:=()) trivial
 rw[arP]at e1;have e1':Ni ⟨(zY s.ai:Int),0,t,⟨[],⟨0,0,0⟩,[],⟨0,0,0⟩⟩,s⟩=_:=e1;obtain⟨v2,e2,_⟩:=cS (rnd:=LF) (zY t.aG) (λi (_:Unit)=>⟨t.aG,(zY t.aG:Int),(i:Int),⟨[],⟨0,0,0⟩,[],⟨0,0,0⟩⟩,⟨Fo s.ai t.ai (zY s.ai),cE s.aD t.aD,qx s.aG t.aG i,cE s.aI t.aI⟩⟩) (λi _=>True) (λi b hi _=>by
  obtain⟨i1,i2,hw⟩:=w3 hi au;refine⟨(),?_,trivial⟩;unfold LF Iq;by_cases c:i<zY s.aG
  ·have i3:(i:Int)<(zY (qx s.aG t.aG i):Int):=by rw[Hl];omega
   have i4:i<zY (qx s.aG t.aG i):=au;simp only[cG,i1,i2,i3,i4,cK,cW,adf c,pZ (.inr (h.slots i c)) (.inr (k.slots i hi)),hw,afO c hi]
  ·have i3:¬(i:Int)<(zY (qx s.aG t.aG i):Int):=by rw[Hl];omega
   have i4:zY (qx s.aG t.aG (i+1))<=1073741824:=by rw[Hl];omega
   simp only[cG,cD,i1,i2,i3,i4,cW,hw,aaW (show zY s.aG<=i by omega)]) (λb _=>by unfold LF Iq;simp) (b:=()) trivial
 rw[auP]at e2;have e2':NK ⟨t.aG,(zY t.aG:Int),0,⟨[],⟨0,0,0⟩,[],⟨0,0,0⟩⟩,⟨Fo s.ai t.ai (zY s.ai),cE s.aD t.aD,s.aG,cE s.aI t.aI⟩⟩=_:=e2;unfold MM HE Iq;rw[tw au au];dsimp only;rw[e1'];dsimp only;rw[fE,ct,pZ (.inr h.count) (.inr k.count)];rw[pZ (.inr h.time) (.inr k.time)];dsimp only;rw[e2'];dsimp only;rw[fE,ct,aeB,afX];rfl
def afy{n m:Nat}{s t:ay}(h:eR n m s)(k:eR n m t)(hn:n<=1000000)(hm:m<=1000000):aad (tr s) (tr t)=V (tr (mU s t)):=by
 have hs:=h.sl;have hl:=h.len;have ks:=k.sl;have kl:=k.len;obtain⟨v,e1,_⟩:=cS (rnd:=MA) (zY s.ai) (λi (_:Unit)=>⟨(zY s.ai:Int),(i:Int),tr s,tr t,⟨[],⟨0,0,0⟩,[],⟨0,0,0⟩⟩,⟨tab i (λk=>cE s.ai[k]! t.ai[k]!),cE s.aD t.aD,[],cE s.aI t.aI⟩⟩) (λi _=>True) (λi b hi _=>by
  obtain⟨i1,i2,hw⟩:=w3 hi au;have i3:(i:Int)<(zY t.ai:Int):=au;have i4:zY (tab i (λk=>cE s.ai[k]! t.ai[k]!)++[cE s.ai[i]! t.ai[i]!])<=1073741824:=by rw[zh,gW,ym];omega
  refine⟨(),?_,trivial⟩;unfold MA FC;dsimp only[tr];simp only[cG,i1,i2,i3,i4,cK,cW,gu (.inr (h.vars i au)) (.inr (k.vars i au)),hw,qO]) (λb _=>by unfold MA FC;simp) (b:=()) trivial
 have e1':LN ⟨(zY s.ai:Int),0,tr s,tr t,⟨[],⟨0,0,0⟩,[],⟨0,0,0⟩⟩,⟨[],cE s.aD t.aD,[],cE s.aI t.aI⟩⟩=_:=e1;have emax:(if(zY s.aG:Int)<(zY t.aG:Int)then(zY t.aG:Int)else(zY s.aG:Int))=((max (zY s.aG) t.aG.length:Nat):Int):=by split<;>omega
 obtain⟨v2,e2,_⟩:=cS (rnd:=MY) (max (zY s.aG) (zY t.aG)) (λi (_:Unit)=>⟨((max (zY s.aG) t.aG.length:Nat):Int),(i:Int),tr s,tr t,⟨[],⟨0,0,0⟩,[],⟨0,0,0⟩⟩,⟨tab (zY s.ai) (λk=>cE s.ai[k]! t.ai[k]!),cE s.aD t.aD,tab i (RE s.aG t.aG),cE s.aI t.aI⟩⟩) (λi _=>True) (λi b hi _=>by
  obtain⟨i1,i2,hw⟩:=w3 hi au;have i4:∀x,zY (tab i (RE s.aG t.aG)++[x])<=1073741824:=λx=>by rw[zh,gW,ym];omega
  refine⟨(),?_,trivial⟩;rw[qO];unfold MY Gd;dsimp only[tr];by_cases c:zY s.aG<=i
  ·have c1:(zY s.aG:Int)<=(i:Int):=au;have c2:(i:Int)<(zY t.aG:Int):=au;have eJ:RE s.aG t.aG i=t.aG[i]! :=by unfold RE;rw[bC c]
   simp only[cG,i1,i2,i4,c1,c2,eJ,cK,cW,hw]
  ·by_cases d:zY t.aG<=i
   ·have c1:¬(zY s.aG:Int)<=(i:Int):=au;have c2:(zY t.aG:Int)<=(i:Int):=au;have c3:(i:Int)<(zY s.aG:Int):=au;have eJ:RE s.aG t.aG i=s.aG[i]! :=by unfold RE;rw[bL c,bC d]
    simp only[cG,cD,i1,i2,i4,c1,c2,c3,eJ,cW,hw]
   ·have c1:¬(zY s.aG:Int)<=(i:Int):=au;have c2:¬(zY t.aG:Int)<=(i:Int):=au;have c3:(i:Int)<(zY s.aG:Int):=au;have c4:(i:Int)<(zY t.aG:Int):=au;have eJ:RE s.aG t.aG i=cE s.aG[i]! t.aG[i]! :=by unfold RE;rw[bL c,bL d]
    simp only[cG,cD,gK,i1,i2,i4,c1,c2,c3,c4,eJ,hw,gu (.inr (h.slots i au)) (.inr (k.slots i au))]) (λb _=>by unfold MY Gd;simp) (b:=()) trivial
 have e2':KH ⟨((max (zY s.aG) t.aG.length:Nat):Int),0,tr s,tr t,⟨[],⟨0,0,0⟩,[],⟨0,0,0⟩⟩,⟨tab (zY s.ai) (λk=>cE s.ai[k]! t.ai[k]!),cE s.aD t.aD,[],cE s.aI t.aI⟩⟩=_:=e2;unfold aad FC Gd;rw[show (tr s).aD=s.aD from rfl,show (tr t).aD=t.aD from rfl,show (tr s).aI=s.aI from rfl,show (tr t).aI=t.aI from rfl,show (tr s).ai=s.ai from rfl];rw[gu (.inr h.count) (.inr k.count)];rw[gu (.inr h.time) (.inr k.time)];dsimp only;rw[e1'];dsimp only;rw[fE,ct,show (tr s).aG=s.aG from rfl,show (tr t).aG=t.aG from rfl,emax,e2'];dsimp only;rw[fE,ct];rfl
def kW(body:ay->ay)(t:az)(c:Int):Nat->ay->af ay
 |0,s=>[s]
 |n+1,s=>(if cR (cI s.ai t) 0=J then[fT s c]else[])++(if cC (cI s.ai t)=J then kW body t c n (body (fT s c))else[])
def oa:af ay->ay
 |[]=>⟨[],cM,[],cM⟩
 |x::l=>l.foldl mU x
def brA(v:aK)(a b:ay->ay)(s:ay):ay:=
 if cR v 0=O then a s else if cC v=O then b s else mU (a s) (b s)
def Dv(f:aS)(hv:af aK)(a b:ay->ay)(x:aB)(s:ay):ay:=
 if x.b9=4 then oa (kW a x.aF x.bg x.fN.toNat s)
 else if x.b9=0 then TM f (fT s x.bg) x.dL (cI s.ai x.aF)
 else if x.b9=1 then Zu (fT s x.bg) (cI s.ai x.aF)
 else if x.b9=5 then TM f (fT s x.bg) x.dL hv[x.fN.toNat]!
 else if x.b9=3 then brA (cI s.ai x.aF) a b (fT s x.bg)
 else if x.b9=6 then⟨s.ai,s.aD,s.aG,tE (qw 8 s.aI (eE x.bg)) x.aR⟩
 else fT s x.bg
def gZ(f:aS)(hv:af aK):af aB->ay->ay
 |[],s=>s
 |x::l,s=>gZ f hv l (Dv f hv (λs=>gZ f hv x.aQ s) (λs=>gZ f hv x.aX s) x s)
termination_by l=>ze l
decreasing_by
 all_goals first|exact(bw (zk ..)).1|exact(bw (zk ..)).2|exact dY _ _
def Hj(f:aS)(hv:af aK)(s:ay):gZ f hv [] s=s:=by rw[gZ]
def B5(f:aS)(hv:af aK)(x:aB)(l:af aB)(s:ay):gZ f hv (x::l) s=gZ f hv l (Dv f hv (gZ f hv x.aQ) (gZ f hv x.aX) x s):=by rw[gZ]
def Y6{n m:Nat}:∀{l:af ay},l≠[]->(∀q∈l,eR n m q)->eR n m (oa l)
 |[],h,_=>dU rfl h
 |x::l,_,h=>by
  have key:∀(l:af ay) (x:ay),eR n m x->(∀q∈l,eR n m q)->eR n m (l.foldl mU x):=λl=>by
   induction l with
   |nil=>intro x hx _;exact hx
   |cons y l ih=>intro x hx hl;exact ih (mU x y) (Fl hx (hl y (zk ..))) (λq hq=>hl q (zL _ hq))
  exact key l x (h x (zk ..)) (λq hq=>h q (zL _ hq))
def Ei{vars:af bh}{a:ay->ay}{t:az}{c:Int}{o:Nat}(hc:cA c)(ht:fu vars O t=0)(ha:∀s m,eR (zY vars) m s->eR (zY vars) (m+o) (a s)):∀(N:Nat) (s:ay) (m:Nat),eR (zY vars) m s->(∀q∈kW a t c N s,eR (zY vars) (m+N*o) q)/\kW a t c N s≠[]
 |0,s,m,h=>by
  rw[kW];refine⟨λq hq=> ?_,by simp⟩;rw[zo.1 hq];exact h.weak au
 |n+1,s,m,h=>by
  rw[kW];have hz:=zero_or (iW h t ht);have h1:=nj h hc;obtain⟨i1,i2⟩:=Ei hc ht ha n (a (fT s c)) (m+o) (ha _ _ h1);have e:m+o+n*o=m+(n+1)*o:=by rw[zW,yL];omega
  refine⟨λq hq=> ?_,λe=> ?_⟩
  ·rcases zP.1 hq with hq|hq
   ·split at hq
    ·rw[zo.1 hq];exact h1.weak au
    ·cases hq
   ·split at hq
    ·rw[<-e];exact i1 q hq
    ·cases hq
  ·obtain⟨e1,e2⟩:=List.append_eq_nil_iff.1 e;cases hn:cC (cI s.ai t)with
   |true=>rw[hn,bC rfl]at e2;exact i2 e2
   |false=>
    rw[hn]at hz;have hz:cR (cI s.ai t) 0=J:=by simpa using hz
    rw[hz,bC rfl]at e1;cases e1
def eH(l:af aB):Nat:=(eX l).2.1.toNat
def Mg{l:af Int}(h1:1<=zY l/\zY l<=32)(h0:(0:Int)<=l[0]!)(hr:gI l=J)(h6:l[zY l-1]!<=67108864):∀b∈l,cA b:=λb hb=>by
 obtain⟨i,hi,e⟩:=List.mem_iff_getElem.1 hb;have e:l[i]! =b:=by rw[getElem!_pos l i hi];exact e
 have a1:l[0]!<=l[i]! :=by
  by_cases h:i=0
  ·subst h;exact zj _
  ·exact xU (Yn hr au hi)
 have a2:l[i]!<=l[zY l-1]! :=by
  by_cases h:i=zY l-1
  ·subst h;exact zj _
  ·exact xU (Yn hr au au)
 rw[<-e];unfold cA;omega
def rf{f:aS}{last:Bool}{x:aB}(hx:akl f last x):cA x.bg:=by
 have:=hx.cost;unfold cA;omega
def aul{n m o p:Nat}{v:aK}{a b:ay->ay}{s:ay}(h:eR n m s)(ha:∀s m,eR n m s->eR n (m+o) (a s))(hb:∀s m,eR n m s->eR n (m+p) (b s)):eR n (m+max o p) (brA v a b s):=by
 unfold brA;split
 ·exact(ha _ _ h).weak au
 split
 ·exact(hb _ _ h).weak au
 ·exact Fl ((ha _ _ h).weak au) ((hb _ _ h).weak au)
def Iu{f:aS}{hv:af aK}(hh:zY hv=zY f.ax)(hvn:∀i,i<zY hv->NN hv[i]!){a b:ay->ay}{last:Bool}{x:aB}(hx:akl f last x)
  (p1:0<=(eX x.aQ).2.1) (p2:0<=(eX x.aX).2.1)
  (ha:∀s m,eR (zY f.ai) m s->eR (zY f.ai) (m+eH x.aQ) (a s)) (hb:∀s m,eR (zY f.ai) m s->eR (zY f.ai) (m+eH x.aX) (b s))
  {s:ay} {m:Nat} (h:eR (zY f.ai) m s):eR (zY f.ai) (m+(uO x).1.toNat) (Dv f hv a b x s):=by
 have hc:=rf hx;have h1:=nj h hc;have hvl:=iW h x.aF hx.term;unfold Dv uO;by_cases a4:x.b9=4
 ·simp only[gK,a4,Int.reduceEq];have hn:=hx.n4 a4;obtain⟨i1,i2⟩:=Ei hc hx.term ha x.fN.toNat s m h;have e:(x.fN*(eX x.aQ).2.1).toNat=x.fN.toNat*eH x.aQ:=by rw[eH,Int.toNat_mul hn.1 p1]
  rw[e];exact Y6 i2 i1
 by_cases a0:x.b9=0
 ·simp only[gK,a0,Int.reduceEq];exact YV h1 hvl
 by_cases a1:x.b9=1
 ·simp only[gK,a1,Int.reduceEq];exact akt h1 hvl
 by_cases a5:x.b9=5
 ·simp only[gK,a5,Int.reduceEq];obtain⟨n1,n2⟩:=hx.n5 a5;exact YV h1 (hvn _ au)
 by_cases a3:x.b9=3
 ·simp only[gK,a3,Int.reduceEq];have:=aul (v:=cI s.ai x.aF) h1 ha hb;unfold eH at this;refine this.weak ?_;omega
 by_cases a6:x.b9=6
 ·simp only[gK,a6,Int.reduceEq];obtain⟨_,q2,q3,q4,q5⟩:=hx.acv a6;have k:=(uz (a:=qw 8 s.aI (eE x.bg)) h1.time q4 au (Mg q2 q3 q4 q5)).2.2.1;exact⟨h.len,h.vars,h.count,h.sl,h.slots,k⟩
 ·simp only[a0,a1,a3,a4,a5,a6,IQ];exact h1
def BW{f:aS}{top:Bool}{x:aB}{l:af aB}(h:b8 f top (x::l)=0):eH (x::l)=(uO x).1.toNat+eH l:=by
 obtain⟨h1,h2,h3,h4⟩:=jd h;have ho:=sX h1;have p1:=(iT f _ _ _ (zC _) h2).1;have p2:=(iT f _ _ _ (zC _) h3).1;have p3:=(iT f _ _ _ (zC _) h4).1;have e1:0<=(uO x).1:=by
  unfold uO;by_cases a1:x.b9=1
  ·rw[bC a1];show (0:Int)<=1;decide
  by_cases a3:x.b9=3
  ·rw[bL a1,bC a3];dsimp only;omega
  by_cases a4:x.b9=4
  ·rw[bL a1,bL a3,bC a4];exact zJ (ho.n4 a4).1 p1
  ·rw[bL a1,bL a3,bL a4];exact zj _
 unfold eH;rw[(ang x l).1];omega
def iG{f:aS}{hv:af aK}(hh:zY hv=zY f.ax)(hvn:∀i,i<zY hv->NN hv[i]!):∀(n:Nat) (l:af aB) (top:Bool),ze l<n->b8 f top l=0->∀(s:ay) (m:Nat),eR (zY f.ai) m s->eR (zY f.ai) (m+eH l) (gZ f hv l s)
 |0,_,_,h,_,_,_,_=>au
 |n+1,[],_,_,_,s,m,h=>by rw[Hj];exact h.weak au
 |n+1,x::l,top,hn,hc,s,m,h=>by
  obtain⟨h1,h2,h3,h4⟩:=jd hc;have ho:=sX h1;have hsz:=bw (zk (a:=x) (l:=l));have ht:=dY x l;have p1:=(iT f n x.aQ O au h2).1;have p2:=(iT f n x.aX O au h3).1;rw[B5,BW hc];have i1:=Iu hh hvn ho p1 p2 (iG hh hvn n x.aQ O au h2) (iG hh hvn n x.aX O au h3) h;exact(iG hh hvn n l top au h4 _ _ i1).weak au
def FR{α:Type}[Inhabited α](g:α->α->α)(l:af α)(x:α){i:Nat}(h:i<zY l):(l.take (i+1)).foldl g x=g ((l.take i).foldl g x) l[i]! :=by
 rw[List.take_add_one,List.foldl_append,zm h,getElem!_pos l i h];rfl
def GZ{n m:Nat}:∀(l:af ay) (x:ay),eR n m x->(∀q∈l,eR n m q)->eR n m (l.foldl mU x)
 |[],x,hx,_=>hx
 |y::l,x,hx,hl=>GZ l (mU x y) (Fl hx (hl y (zk ..))) (λq hq=>hl q (zL _ hq))
def ae7(M83:Runner->(af aB)->ay->aa td)(M156:Runner->aB->ay->aa iJ)(M160:Runner->aB->ay->aa iK){n m:Nat}(hn:n<=1000000)(hm:m<=1000000){l:af ay}{x:ay}(hl:zY l<=1000000)(hx:eR n m x)(hq:∀q∈l,eR n m q)(c t:aK):
  su M83 M156 M160 ⟨l,(zY l:Int),0,⟨[],c,[],t⟩,x⟩=V ⟨l,(zY l:Int),(zY l:Int),⟨[],c,[],t⟩,l.foldl mU x⟩:=by
 obtain⟨v,e1,_⟩:=cS (rnd:=LB M83 M156 M160) (zY l) (λi (_:Unit)=>⟨l,(zY l:Int),(i:Int),⟨[],c,[],t⟩,(l.take i).foldl mU x⟩) (λi _=>True) (λi b hi _=>by
  obtain⟨i1,i2,hw⟩:=w3 hi hl;have e:=aeR (GZ (l.take i) x hx (λq k=>hq q (wJ k))) (hq _ (bf hi)) hn hm;refine⟨(),?_,trivial⟩;unfold LB;dsimp only;simp only[cG,i1,i2,cK,cW,e,hw,FR mU l x hi]) (λb _=>by unfold LB;simp) (b:=()) trivial
 rw[zy]at e1;exact e1
def Xv(M83:Runner->(af aB)->ay->aa td)(M156:Runner->aB->ay->aa iJ)(M160:Runner->aB->ay->aa iK){n m:Nat}(hn:n<=1000000)(hm:m<=1000000){L:af ay}(h0:L≠[])(hl:zY L<=1000000)(hq:∀q∈L,eR n m q)(c t:aK):
  1<=zY L/\su M83 M156 M160 (nQ.mk (ya 1 L) (zY (ya 1 L):Int) (0) (ay.mk [] c [] t) L[0]!)=V (nQ.mk (ya 1 L) (zY (ya 1 L):Int) (zY (ya 1 L):Int) (ay.mk [] c [] t) (oa L)):=by
 cases L with
 |nil=>exact dU rfl h0
 |cons x l=>
  have hx:=hq x (zk ..);have hq2:∀q∈l,eR n m q:=λq k=>hq q (zL _ k);exact⟨by simp,ae7 M83 M156 M160 hn hm (l:=l) (x:=x) (by simp at hl;omega) hx hq2 c t⟩
def Fx(a:ay->ay)(t:az)(c:Int):∀(N:Nat) (s:ay),zY (kW a t c N s)<=N+1
 |0,s=>by rw[kW];simp
 |n+1,s=>by
  rw[kW,zh];have:=Fx a t c n (a (fT s c));split<;>split<;>simp<;>omega
def asq(M83:Runner->(af aB)->ay->aa td)(M156:Runner->aB->ay->aa iJ)(M160:Runner->aB->ay->aa iK){r:Runner}(hn:zY r.fF.ai<=1000000){a:ay->ay}{o:Nat}{x:aB}(hN:0<=x.fN/\x.fN<=4096)(hc:cA x.bg)(ht:fu r.fF.ai O x.aF=0)
  (ha:∀s m,eR (zY r.fF.ai) m s->eR (zY r.fF.ai) (m+o) (a s)) {s:ay} {m:Nat} (h:eR (zY r.fF.ai) m s) (hm:m+x.fN.toNat*o<=1000000)
  (h1:∀s m,eR (zY r.fF.ai) m s->m+o<=1000000->M83 r x.aQ s=V (a s)):
  alE M83 M156 M160 r x s=V (oa (kW a x.aF x.bg x.fN.toNat s)):=by
 obtain⟨okAll,neAll⟩:=Ei hc ht ha x.fN.toNat s m h;have lenAll:=Fx a x.aF x.bg x.fN.toNat s;obtain⟨i,v,e1,⟨hi,hV1,hV2,hV3,hV4⟩,hcc⟩:=jj (rnd:=Cp M83 M156 M160) x.fN.toNat (λi (b:af ay×ay×ay)=>⟨b.1,J,x.fN,(i:Int),r,x,b.2.1,⟨[],b.2.2.aD,[],b.2.2.aI⟩⟩)
  (λi b=>i<=x.fN.toNat/\eR (zY r.fF.ai) (m+i*o) b.2.1/\zY b.1<=i/\b.1++kW a x.aF x.bg (x.fN.toNat-i) b.2.1=kW a x.aF x.bg x.fN.toNat s/\True) (λi b=>cC (cI b.2.1.ai x.aF)=O) (λi b hi hb=>by
  obtain⟨L,b,z⟩:=b;obtain⟨_,hb,hL,hr,_⟩:=hb;dsimp only at hb hr hL;obtain⟨k,hk⟩:∃k,x.fN.toNat-i=k+1:=⟨x.fN.toNat-i-1,au⟩;have hk2:x.fN.toNat-(i+1)=k:=au;rw[hk,kW]at hr;have hio:i*o+o<=x.fN.toNat*o:=by
   have:=yh o (show i+1<=x.fN.toNat by omega);rw[zW,yL]at this;exact this
  have hw:ak ((i:Int)+1)=((i+1:Nat):Int):=by rw[aL];omega
  have i1:(i:Int)<x.fN:=au;have hA:=nj hb hc;have ea:=Tk hb hc;have hsl:=hA.sl;have hln:=hA.len;have hnn:=iW hA x.aF ht;have ev:WV (fT b x.bg) x.aF=V (cI b.ai x.aF):=QA hA ht;have et:=ED (a:=cI b.ai x.aF) (.inr hnn);have hz:(cC (cI b.ai x.aF)||cR (cI b.ai x.aF) 0)=J:=zero_or hnn;have e:=h1 _ _ hA au;have ec:=tw (s:=fT b x.bg) au au;have el:zY (L++[fT b x.bg])<=1073741824:=by rw[zh,ym];omega
  by_cases hno:cC (cI b.ai x.aF)=J
  ·rw[bC hno]at hr;refine .inl ?_;have hnext:eR (zY r.fF.ai) (m+(i+1)*o) (a (fT b x.bg)):=by
    have:=ha _ _ hA;rw[zW,yL];exact this.weak au
   by_cases hh:cR (cI b.ai x.aF) 0=J
   ·rw[bC hh]at hr;refine⟨(L++[fT b x.bg],a (fT b x.bg),z),?_,au,hnext,by rw[zh,ym];omega,by rw[hk2,yS];exact hr,trivial⟩;unfold Cp;simp only[cD,i1,Dw,az.eta,ea,ev,et,ec,el,hh,hno,cW,e,aB.eta,hw]
   ·rw[bL hh,yB]at hr;have hh:cR (cI b.ai x.aF) 0=O:=by simpa using hh
    refine⟨(L,a (fT b x.bg),z),?_,au,hnext,Nat.le_succ_of_le hL,by rw[hk2];exact hr,trivial⟩;unfold Cp;simp only[cD,i1,Dw,az.eta,ea,ev,et,hh,hno,e,aB.eta,hw]
  ·have hno:cC (cI b.ai x.aF)=O:=by simpa using hno
   refine .inr ⟨?_,hno⟩;have hh:cR (cI b.ai x.aF) 0=J:=by rw[hno]at hz;simpa using hz
   unfold Cp;simp only[cD,i1,Dw,az.eta,ea,ev,et,ec,el,hh,hno,cW]) (λb _=>by
   unfold Cp;dsimp only;rw[fE];rfl) (b:=([],s,⟨[],⟨0,0,0⟩,[],⟨0,0,0⟩⟩)) ⟨au,h.weak au,by simp,rfl,trivial⟩
 obtain⟨L,b,z⟩:=v;dsimp only at hV1 hV2 hV3 hcc;have e1':Nn M83 M156 M160 ⟨[],J,x.fN,0,r,x,s,⟨[],⟨0,0,0⟩,[],⟨0,0,0⟩⟩⟩=V ⟨L,J,x.fN,(i:Int),r,x,b,⟨[],z.aD,[],z.aI⟩⟩:=e1;unfold alE;rw[az.eta,aB.eta,e1'];rcases hcc with rfl|⟨hi2,hno⟩
 ·rw[xT,kW]at hV3;dsimp only;rw[fE,ct];simp only[cK];rw[bC (by rw[zh,ym];omega),hV3];obtain⟨j1,j2⟩:=Xv M83 M156 M160 hn hm neAll au okAll z.aD z.aI;rw[gM,bC (by first|exact⟨rfl,j1⟩|exact⟨trivial,j1⟩),gM,j2];dsimp only;rw[fE,ct]
 ·obtain⟨k,hk⟩:∃k,x.fN.toNat-i=k+1:=⟨x.fN.toNat-i-1,au⟩;rw[hk,kW]at hV3;have hA:=nj hV1 hc;have ea:=Tk hV1 hc;have hio:i*o<=x.fN.toNat*o:=yh o hi;have hsl:=hA.sl;have hln:=hA.len;have hnn:=iW hA x.aF ht;have ev:WV (fT b x.bg) x.aF=V (cI b.ai x.aF):=QA hA ht;have et:=ED (a:=cI b.ai x.aF) (.inr hnn);have hz:(cC (cI b.ai x.aF)||cR (cI b.ai x.aF) 0)=J:=zero_or hnn;have ec:=tw (s:=fT b x.bg) au au;have hh:cR (cI b.ai x.aF) 0=J:=by rw[hno]at hz;simpa using hz
  rw[hh,hno,bC rfl,bL (by decide),yu]at hV3;dsimp only;rw[oR,cK,ea];dsimp only;rw[az.eta,ev];dsimp only;rw[et];dsimp only;rw[hh,hno,cK,ec];dsimp only;rw[bC (by rw[zh,ym];omega),hV3];obtain⟨j1,j2⟩:=Xv M83 M156 M160 hn hm neAll au okAll z.aD z.aI;rw[gM,bC (by first|exact⟨rfl,j1⟩|exact⟨trivial,j1⟩),gM,j2];dsimp only;rw[fE,ct];rfl
def arQ{l:af ay}{i:Nat}(h:i<zY l):(l.map tr)[i]! =tr l[i]! :=by
 rw[getElem!_pos _ i (by simpa using h),getElem!_pos l i h,yM]
def ad5{n m:Nat}(hn:n<=1000000)(hm:m<=1000000){l:af ay}{x:ay}(hl:zY l<=1000000)(hx:eR n m x)(hq:∀q∈l,eR n m q)(c t:aK):
  Mc ⟨l.map tr,(zY l:Int),0,⟨[],c,[],t⟩,tr x⟩=V ⟨l.map tr,(zY l:Int),(zY l:Int),⟨[],c,[],t⟩,tr (l.foldl mU x)⟩:=by
 obtain⟨v,e1,_⟩:=cS (rnd:=Ks) (zY l) (λi (_:Unit)=>⟨l.map tr,(zY l:Int),(i:Int),⟨[],c,[],t⟩,tr ((l.take i).foldl mU x)⟩) (λi _=>True) (λi b hi _=>by
  obtain⟨i1,i2,hw⟩:=w3 hi hl;have e:=afy (GZ (l.take i) x hx (λq k=>hq q (wJ k))) (hq _ (bf hi)) hn hm;refine⟨(),?_,trivial⟩;unfold Ks GG;dsimp only;simp only[cG,zB,i1,i2,cK,cW,arQ hi,e,hw,FR mU l x hi]) (λb _=>by unfold Ks GG;simp) (b:=()) trivial
 rw[zy]at e1;exact e1
def UH{n m:Nat}(hn:n<=1000000)(hm:m<=1000000){L:af ay}(h0:L≠[])(hl:zY L<=1000000)(hq:∀q∈L,eR n m q):N4 (L.map tr)=V (tr (oa L)):=by
 cases L with
 |nil=>exact dU rfl h0
 |cons x l=>
  have hx:=hq x (zk ..);have hq2:∀q∈l,eR n m q:=λq k=>hq q (zL _ k);have e:=ad5 hn hm (l:=l) (x:=x) (by simp at hl;omega) hx hq2 ⟨0,0,0⟩ ⟨0,0,0⟩;unfold N4 GG;rw[bC (by simp<;>omega),bC (by simp<;>omega)];rw[yf,show ya 1 (tr x::l.map tr)=l.map tr from rfl,show (tr x::l.map tr)[0]! =tr x from rfl,zB,e];dsimp only;rw[fE,ct];rfl
def awd(M88:aS->(af aK)->(af aB)->aJ->aa EB)(M167:aS->(af aK)->aB->aJ->aa mF){f:aS}{hv:af aK}(hn:zY f.ai<=1000000){a:ay->ay}{o:Nat}{x:aB}(hN:0<=x.fN/\x.fN<=4096)(hc:cA x.bg)(ht:fu f.ai O x.aF=0)
  (ha:∀s m,eR (zY f.ai) m s->eR (zY f.ai) (m+o) (a s)) {s:ay} {m:Nat} (h:eR (zY f.ai) m s) (hm:m+x.fN.toNat*o<=1000000)
  (h1:∀s m,eR (zY f.ai) m s->m+o<=1000000->M88 f hv x.aQ (tr s)=V (tr (a s))):
  amj M88 M167 f hv x (tr s)=V (tr (oa (kW a x.aF x.bg x.fN.toNat s))):=by
 obtain⟨okAll,neAll⟩:=Ei hc ht ha x.fN.toNat s m h;have lenAll:=Fx a x.aF x.bg x.fN.toNat s;obtain⟨i,v,e1,⟨hi,hV1,hV2,hV3,hV4⟩,hcc⟩:=jj (rnd:=CM M88 M167) x.fN.toNat (λi (b:af ay×ay×aJ)=>⟨hv,b.1.map tr,x.fN,(i:Int),f,x,tr b.2.1,⟨[],b.2.2.aD,[],b.2.2.aI⟩⟩)
  (λi b=>i<=x.fN.toNat/\eR (zY f.ai) (m+i*o) b.2.1/\zY b.1<=i/\b.1++kW a x.aF x.bg (x.fN.toNat-i) b.2.1=kW a x.aF x.bg x.fN.toNat s/\True) (λi b=>cC (cI b.2.1.ai x.aF)=O) (λi b hi hb=>by
  obtain⟨L,b,z⟩:=b;obtain⟨_,hb,hL,hr,_⟩:=hb;dsimp only at hb hr hL;obtain⟨k,hk⟩:∃k,x.fN.toNat-i=k+1:=⟨x.fN.toNat-i-1,au⟩;have hk2:x.fN.toNat-(i+1)=k:=au;rw[hk,kW]at hr;have hio:i*o+o<=x.fN.toNat*o:=by
   have:=yh o (show i+1<=x.fN.toNat by omega);rw[zW,yL]at this;exact this
  have hw:ak ((i:Int)+1)=((i+1:Nat):Int):=by rw[aL];omega
  have i1:(i:Int)<x.fN:=au;have hA:=nj hb hc;have ea:HG b.aI x.bg=V (qw 8 b.aI (eE x.bg)):=NG hb.time hc;have hnn:=iW hA x.aF ht;have ev:RJ (tr (fT b x.bg)) x.aF=V (cI b.ai x.aF):=XP hA x.aF ht;have et:=pE (a:=cI b.ai x.aF) (.inr hnn);have hz:(cC (cI b.ai x.aF)||cR (cI b.ai x.aF) 0)=J:=zero_or hnn;have e:=h1 _ _ hA au;have etr:(aJ.mk b.ai b.aD b.aG (qw 8 b.aI (eE x.bg)))=tr (fT b x.bg):=rfl;have el:zY (L.map tr++[tr (fT b x.bg)])<=1073741824:=by rw[zh,ym,zB];omega
  by_cases hno:cC (cI b.ai x.aF)=J
  ·rw[bC hno]at hr;refine .inl ?_;have hnext:eR (zY f.ai) (m+(i+1)*o) (a (fT b x.bg)):=by
    have:=ha _ _ hA;rw[zW,yL];exact this.weak au
   by_cases hh:cR (cI b.ai x.aF) 0=J
   ·rw[bC hh]at hr;refine⟨(L++[fT b x.bg],a (fT b x.bg),z),?_,au,hnext,by rw[zh,ym];omega,by rw[hk2,yS];exact hr,trivial⟩;unfold CM;simp only[cD,show (tr b).ai=b.ai from rfl,show (tr b).aD=b.aD from rfl,show (tr b).aG=b.aG from rfl,show (tr b).aI=b.aI from rfl,i1,Dw,az.eta,ea,etr,ev,et,el,hh,hno,cW,e,aB.eta,hw,zO,yf,yT]
   ·rw[bL hh,yB]at hr;have hh:cR (cI b.ai x.aF) 0=O:=by simpa using hh
    refine⟨(L,a (fT b x.bg),z),?_,au,hnext,Nat.le_succ_of_le hL,by rw[hk2];exact hr,trivial⟩;unfold CM;simp only[cD,show (tr b).ai=b.ai from rfl,show (tr b).aD=b.aD from rfl,show (tr b).aG=b.aG from rfl,show (tr b).aI=b.aI from rfl,i1,Dw,az.eta,ea,etr,ev,et,hh,hno,e,aB.eta,hw]
  ·have hno:cC (cI b.ai x.aF)=O:=by simpa using hno
   refine .inr ⟨?_,hno⟩;have hh:cR (cI b.ai x.aF) 0=J:=by rw[hno]at hz;simpa using hz
   rw[hh,hno,bC rfl,bL (by decide),yu]at hr;have em:L.map tr++[tr (fT b x.bg)]=(L++[fT b x.bg]).map tr:=by rw[zO];rfl
   have adI:=UH hn hm neAll au okAll;rw[<-hr,<-em]at adI;unfold CM;simp only[cD,show (tr b).ai=b.ai from rfl,show (tr b).aD=b.aD from rfl,show (tr b).aG=b.aG from rfl,show (tr b).aI=b.aI from rfl,i1,Dw,az.eta,ea,etr,ev,et,el,hh,hno,cW,adI]) (λb _=>by
   unfold CM;dsimp only;rw[fE];rfl) (b:=([],s,⟨[],⟨0,0,0⟩,[],⟨0,0,0⟩⟩)) ⟨au,h.weak au,by simp,rfl,trivial⟩
 obtain⟨L,b,z⟩:=v;dsimp only at hV1 hV2 hV3 hcc;have e1':KV M88 M167 ⟨hv,[],x.fN,0,f,x,tr s,⟨[],⟨0,0,0⟩,[],⟨0,0,0⟩⟩⟩=V ⟨hv,L.map tr,x.fN,(i:Int),f,x,tr b,⟨[],z.aD,[],z.aI⟩⟩:=e1;unfold amj;rw[az.eta,aB.eta,e1'];rcases hcc with rfl|⟨hi2,hno⟩
 ·rw[xT,kW]at hV3;dsimp only;rw[fE,ct];have em:L.map tr++[tr b]=(L++[b]).map tr:=by rw[zO];rfl
  rw[bC (by rw[zh,ym,zB];omega),em,hV3,UH hn hm neAll au okAll]
 ·obtain⟨k,hk⟩:∃k,x.fN.toNat-i=k+1:=⟨x.fN.toNat-i-1,au⟩;rw[hk,kW]at hV3;have hA:=nj hV1 hc;have ea:HG (tr b).aI x.bg=V (qw 8 b.aI (eE x.bg)):=NG hV1.time hc;have hio:i*o<=x.fN.toNat*o:=yh o hi;have hnn:=iW hA x.aF ht;have ev:RJ (tr (fT b x.bg)) x.aF=V (cI b.ai x.aF):=XP hA x.aF ht;have et:=pE (a:=cI b.ai x.aF) (.inr hnn);have hz:(cC (cI b.ai x.aF)||cR (cI b.ai x.aF) 0)=J:=zero_or hnn;have hh:cR (cI b.ai x.aF) 0=J:=by rw[hno]at hz;simpa using hz
  have etr:(aJ.mk (tr b).ai (tr b).aD (tr b).aG (qw 8 b.aI (eE x.bg)))=tr (fT b x.bg):=rfl;rw[hh,hno,bC rfl,bL (by decide),yu]at hV3;have em:L.map tr++[tr (fT b x.bg)]=(L++[fT b x.bg]).map tr:=by rw[zO];rfl
  dsimp only;rw[oR,cK,ea];dsimp only;rw[az.eta,etr,ev];dsimp only;rw[et];dsimp only;rw[hh,hno,cK,bC (by rw[zh,ym,zB];omega),em,hV3,UH hn hm neAll au okAll];rfl
def as8(M83:Runner->(af aB)->ay->aa td)(M156:Runner->aB->ay->aa iJ)(M160:Runner->aB->ay->aa iK){r:Runner}(hn:zY r.fF.ai<=1000000){a b:ay->ay}{o p:Nat}{x:aB}{s:ay}{m:Nat}(h:eR (zY r.fF.ai) m s)(hc:fu r.fF.ai O x.aF=0)(hm:m+max o p<=1000000)
  (ha:∀s m,eR (zY r.fF.ai) m s->eR (zY r.fF.ai) (m+o) (a s)) (hb:∀s m,eR (zY r.fF.ai) m s->eR (zY r.fF.ai) (m+p) (b s))
  (h1:M83 r x.aQ s=V (a s)) (h2:M83 r x.aX s=V (b s)):
  alD M83 M156 M160 r x s=V (brA (cI s.ai x.aF) a b s):=by
 have hsl:=h.sl;have hln:=h.len;unfold alD brA;rw[az.eta,QA h hc];dsimp only;rw[ED (.inr (iW h x.aF hc))];have ec:=tw (s:=s) au au;have ej:=aeR ((ha _ _ h).weak (show m+o<=m+max o p by omega)) ((hb _ _ h).weak (show m+p<=m+max o p by omega)) hn hm;dsimp only;cases cR (cI s.ai x.aF) 0 with
 |false=>simp only[cD,h1,cW]
 |true=>
  cases cC (cI s.ai x.aF)with
  |false=>simp only[cD,gK,h2,Bool.true_eq_false]
  |true=>simp only[cD,h1,h2,ec,ej,IQ,Bool.true_eq_false]
def aCz(M83:Runner->(af aB)->ay->aa td)(M156:Runner->aB->ay->aa iJ)(M160:Runner->aB->ay->aa iK){r:Runner}(hn:zY r.fF.ai<=1000000)(hh:zY r.ax=zY r.fF.ax)(hvn:∀i,i<zY r.ax->NN r.ax[i]!)
  {top:Bool} {l:af aB} (hl:zY l<=1000000) (hc:b8 r.fF top l=0) {s:ay} {m:Nat} (h:eR (zY r.fF.ai) m s) (hm:m+eH l<=1000000)
  (h1:∀x∈l,∀s m,x.b9=3->eR (zY r.fF.ai) m s->m+max (eH x.aQ) (eH x.aX)<=1000000->M160 r x s=V (brA (cI s.ai x.aF) (gZ r.fF r.ax x.aQ) (gZ r.fF r.ax x.aX) s))
  (h3:∀x∈l,∀s m,x.b9=4->eR (zY r.fF.ai) m s->m+x.fN.toNat*eH x.aQ<=1000000->M156 r x s=V (oa (kW (gZ r.fF r.ax x.aQ) x.aF x.bg x.fN.toNat s))):
  s83 M83 M156 M160 r l s=V (gZ r.fF r.ax l s):=by
 obtain⟨v,e1,hV⟩:=cS (rnd:=XA M83 M156 M160) (zY l) (λi (b:ay×ay)=>⟨l,(zY l:Int),(i:Int),r,b.1,⟨[],b.2.aD,[],b.2.aI⟩⟩)
  (λi b=>(∃k,eR (zY r.fF.ai) k b.1/\k+eH (l.drop i)<=1000000)/\b8 r.fF top (l.drop i)=0/\gZ r.fF r.ax (l.drop i) b.1=gZ r.fF r.ax l s) (λi b hi hb=>by
  obtain⟨b,z⟩:=b;obtain⟨⟨k,hb,hk⟩,hst,hr⟩:=hb;dsimp only at hb hr;rw[drop_cons hi]at hk hst hr;rw[B5]at hr;have hmem:=bf hi;generalize hx:l[i]! =x at*;obtain⟨g1,g2,g3,g4⟩:=jd hst;have ho:=sX g1;have p1:=(iT r.fF _ _ _ (zC _) g2).1;have p2:=(iT r.fF _ _ _ (zC _) g3).1;have aT:=iG hh hvn _ x.aQ O (zC _) g2;have aE:=iG hh hvn _ x.aX O (zC _) g3;rw[BW hst]at hk;have hnext:=Iu hh hvn ho p1 p2 aT aE hb;refine⟨(Dv r.fF r.ax (gZ r.fF r.ax x.aQ) (gZ r.fF r.ax x.aX) x b,z),?_,⟨_,hnext,au⟩,g4,hr⟩;obtain⟨i1,i2,hw⟩:=w3 hi hl;have hcost:=rf ho;unfold XA;dsimp only;simp only[cG,i1,i2,hx,cK,cW,aB.eta,az.eta,hw];unfold Dv;by_cases d4:x.b9=4
  ·have hN:=ho.n4 d4;have eu:(uO x).1.toNat=x.fN.toNat*eH x.aQ:=by
    unfold uO;simp only[gK,d4,Int.reduceEq];rw[eH,Int.toNat_mul hN.1 p1]
   have e:=h3 x hmem b k d4 hb au;simp only[d4,Int.reduceEq,Dw,cK,cW,e]
  have ea:=Tk hb hcost;have hA:=nj hb hcost;have ev:WV (fT b x.bg) x.aF=V (cI b.ai x.aF):=QA hA ho.term;have hnn:NN (cI b.ai x.aF):=iW hb x.aF ho.term;simp only[d4,D0,ct,ea,IQ];by_cases d0:x.b9=0
  ·obtain⟨v1,v2⟩:=ho.var (.inl d0);simp only[cG,cD,gK,d0,Int.reduceEq,ev,acX hA hn au v1 v2 hnn]
  by_cases d1:x.b9=1
  ·have e:=atu hA hn au hnn;simp only[cG,cD,gK,d1,Int.reduceEq,ev,e]
  by_cases d5:x.b9=5
  ·obtain⟨v1,v2⟩:=ho.var (.inr d5);obtain⟨n1,n2⟩:=ho.n5 d5;have hlt:x.fN.toNat<zY r.ax:=au;have e:=acX hA hn au v1 v2 (hvn _ hlt);simp only[cG,cD,gK,d5,Int.reduceEq];rw[gM,e]
  by_cases d3:x.b9=3
  ·have eu:(uO x).1.toNat=max (eH x.aQ) (eH x.aX):=by
    unfold uO eH;simp only[gK,d3,Int.reduceEq];omega
   have e:=h1 x hmem (fT b x.bg) k d3 hA au;simp only[cG,cD,gK,d3,Int.reduceEq,e];rfl
  by_cases d6:x.b9=6
  ·obtain⟨_,q2,q3,q4,q5⟩:=ho.acv d6;have e:=(uz (a:=qw 8 b.aI (eE x.bg)) hA.time q4 au (Mg q2 q3 q4 q5)).1;have e:Rv (fT b x.bg).aI x.aR=_:=e;simp only[cG,cD,gK,d6,Int.reduceEq];rw[e];rfl
  ·simp only[d0,d1,d3,d5,d6,D0,ct,IQ]) (λb _=>by unfold XA;simp) (b:=(s,⟨[],⟨0,0,0⟩,[],⟨0,0,0⟩⟩)) ⟨⟨m,h,by rw[xI];exact hm⟩,by rw[xI];exact hc,by rw[xI]⟩
 obtain⟨b,z⟩:=v;have e1':W6 M83 M156 M160 ⟨l,(zY l:Int),0,r,s,⟨[],⟨0,0,0⟩,[],⟨0,0,0⟩⟩⟩=V ⟨l,(zY l:Int),(zY l:Int),r,b,⟨[],z.aD,[],z.aI⟩⟩:=e1;have hr:=hV.2.2;dsimp only at hr;rw[wP,Hj]at hr;unfold s83;rw[e1',<-hr];dsimp only;rw[fE,ct]
def lU{f:aS}{x:aB}:∀{top:Bool} {l:af aB},b8 f top l=0->x∈l->b8 f O x.aQ=0/\b8 f O x.aX=0
 |_,[],_,h=>by cases h
 |top,y::l,hc,h=>by
  obtain⟨h1,h2,h3,h4⟩:=jd hc;rcases zx.1 h with rfl|h
  ·exact⟨h2,h3⟩
  ·exact lU h4 h
def aoF{r:Runner}(hn:zY r.fF.ai<=1000000)(hh:zY r.ax=zY r.fF.ax)(hvn:∀i,i<zY r.ax->NN r.ax[i]!):∀n:Nat,
  (∀(top:Bool) (l:af aB) (s:ay) (m:Nat),2*ze l<n->fK l<=1000000->b8 r.fF top l=0->eR (zY r.fF.ai) m s->m+eH l<=1000000->Zc n r l s=V (gZ r.fF r.ax l s))/\
  (∀(x:aB) (s:ay) (m:Nat),2*ze x.aQ+1<n->fK x.aQ<=1000000->(0<=x.fN/\x.fN<=4096)->cA x.bg->fu r.fF.ai O x.aF=0->b8 r.fF O x.aQ=0->eR (zY r.fF.ai) m s->m+x.fN.toNat*eH x.aQ<=1000000->GS n r x s=V (oa (kW (gZ r.fF r.ax x.aQ) x.aF x.bg x.fN.toNat s)))/\
  (∀(x:aB) (s:ay) (m:Nat),2*ze x.aQ+1<n->2*ze x.aX+1<n->fK x.aQ<=1000000->fK x.aX<=1000000->fu r.fF.ai O x.aF=0->b8 r.fF O x.aQ=0->b8 r.fF O x.aX=0->eR (zY r.fF.ai) m s->m+max (eH x.aQ) (eH x.aX)<=1000000->F8 n r x s=V (brA (cI s.ai x.aF) (gZ r.fF r.ax x.aQ) (gZ r.fF r.ax x.aX) s))
 |0=>⟨λ_ _ _ _ h=>au,λ_ _ _ h=>au,λ_ _ _ h=>au⟩
 |n+1=>by
  obtain⟨i1,i2,i3⟩:=aoF hn hh hvn n;refine⟨λtop l s m h hN hc hs hm=> ?_,λx s m h hN hx hc ht hst hs hm=> ?_,λx s m h h' hN hN' ht hst hst' hs hm=> ?_⟩
  ·refine aCz (Zc n) (GS n) (F8 n) hn hh hvn (zG (ko l) hN) hc hs hm (λx hx s m h3 hs hm=> ?_) (λx hx s m h4 hs hm=> ?_)
   ·have:=bw hx;have:=Bb hx;obtain⟨_,k⟩:=AN hc hx;obtain⟨k1,k2⟩:=lU hc hx;exact i3 x s m au au au au k.term k1 k2 hs hm
   ·have:=(bw hx).1;obtain⟨_,k⟩:=AN hc hx;obtain⟨k1,k2⟩:=lU hc hx;exact i2 x s m au (zG (Bb hx).1 hN) (k.n4 h4) (rf k) k.term k1 hs hm
  ·refine asq (Zc n) (GS n) (F8 n) hn hx hc ht (iG hh hvn _ x.aQ O (zC _) hst) hs hm (λs m hs hm=>i1 O x.aQ s m au hN hst hs hm)
  ·exact as8 (Zc n) (GS n) (F8 n) hn hs ht hm (iG hh hvn _ x.aQ O (zC _) hst) (iG hh hvn _ x.aX O (zC _) hst') (i1 O x.aQ s m au hN hst hs au) (i1 O x.aX s m au hN' hst' hs au)
def azx(M88:aS->(af aK)->(af aB)->aJ->aa EB)(M167:aS->(af aK)->aB->aJ->aa mF){f:aS}{hv:af aK}(hn:zY f.ai<=1000000)(hh:zY hv=zY f.ax)(hvn:∀i,i<zY hv->NN hv[i]!)
  {top:Bool} {l:af aB} (hl:zY l<=1000000) (hc:b8 f top l=0) {s:ay} {m:Nat} (h:eR (zY f.ai) m s) (hm:m+eH l<=1000000)
  (h1:∀x∈l,∀s m,eR (zY f.ai) m s->m+eH x.aQ<=1000000->M88 f hv x.aQ (tr s)=V (tr (gZ f hv x.aQ s)))
  (h2:∀x∈l,∀s m,eR (zY f.ai) m s->m+eH x.aX<=1000000->M88 f hv x.aX (tr s)=V (tr (gZ f hv x.aX s)))
  (h3:∀x∈l,∀s m,x.b9=4->eR (zY f.ai) m s->m+x.fN.toNat*eH x.aQ<=1000000->M167 f hv x (tr s)=V (tr (oa (kW (gZ f hv x.aQ) x.aF x.bg x.fN.toNat s)))):
  s88 M88 M167 f hv l (tr s)=V (tr (gZ f hv l s)):=by
 obtain⟨v,e1,hV⟩:=cS (rnd:=We M88 M167) (zY l) (λi (b:ay×aJ)=>⟨hv,l,(zY l:Int),(i:Int),f,tr b.1,⟨[],b.2.aD,[],b.2.aI⟩⟩)
  (λi b=>(∃k,eR (zY f.ai) k b.1/\k+eH (l.drop i)<=1000000)/\b8 f top (l.drop i)=0/\gZ f hv (l.drop i) b.1=gZ f hv l s) (λi b hi hb=>by
  obtain⟨b,z⟩:=b;obtain⟨⟨k,hb,hk⟩,hst,hr⟩:=hb;dsimp only at hb hr;rw[drop_cons hi]at hk hst hr;rw[B5]at hr;have hmem:=bf hi;generalize hx:l[i]! =x at*;obtain⟨g1,g2,g3,g4⟩:=jd hst;have ho:=sX g1;have p1:=(iT f _ _ _ (zC _) g2).1;have p2:=(iT f _ _ _ (zC _) g3).1;have aT:=iG hh hvn _ x.aQ O (zC _) g2;have aE:=iG hh hvn _ x.aX O (zC _) g3;rw[BW hst]at hk;have hnext:=Iu hh hvn ho p1 p2 aT aE hb;refine⟨(Dv f hv (gZ f hv x.aQ) (gZ f hv x.aX) x b,z),?_,⟨_,hnext,au⟩,g4,hr⟩;obtain⟨i1,i2,hw⟩:=w3 hi hl;have hcost:=rf ho;have t1:(tr b).ai=b.ai:=rfl;have t2:(tr b).aD=b.aD:=rfl;have t3:(tr b).aG=b.aG:=rfl;have t4:(tr b).aI=b.aI:=rfl;have etr:(aJ.mk b.ai b.aD b.aG (qw 8 b.aI (eE x.bg)))=tr (fT b x.bg):=rfl;unfold We;dsimp only;simp only[cG,i1,i2,hx,cK,cW,aB.eta,az.eta,hw];unfold Dv;by_cases d4:x.b9=4
  ·have hN:=ho.n4 d4;have eu:(uO x).1.toNat=x.fN.toNat*eH x.aQ:=by
    unfold uO;simp only[gK,d4,Int.reduceEq];rw[eH,Int.toNat_mul hN.1 p1]
   have e:=h3 x hmem b k d4 hb au;simp only[d4,Int.reduceEq,Dw,cK,cW,e]
  have ea:HG b.aI x.bg=V (qw 8 b.aI (eE x.bg)):=NG hb.time hcost;have hA:=nj hb hcost;have ev:RJ (tr (fT b x.bg)) x.aF=V (cI b.ai x.aF):=XP hA x.aF ho.term;have hnn:NN (cI b.ai x.aF):=iW hb x.aF ho.term;simp only[t1,t2,t3,t4,d4,D0,ct,ea,etr,IQ];by_cases d0:x.b9=0
  ·obtain⟨v1,v2⟩:=ho.var (.inl d0);simp only[cG,cD,gK,d0,Int.reduceEq,ev,adC hA hn v1 v2 hnn]
  by_cases d1:x.b9=1
  ·have e:=atQ hA au hnn;simp only[cG,cD,gK,d1,Int.reduceEq,ev,e]
  by_cases d5:x.b9=5
  ·obtain⟨v1,v2⟩:=ho.var (.inr d5);obtain⟨n1,n2⟩:=ho.n5 d5;have hlt:x.fN.toNat<zY hv:=au;have e:=adC hA hn v1 v2 (hvn _ hlt);simp only[cG,cD,gK,d5,Int.reduceEq];rw[gM,e]
  by_cases d3:x.b9=3
  ·have eu:(uO x).1.toNat=max (eH x.aQ) (eH x.aX):=by
    unfold uO eH;simp only[gK,d3,Int.reduceEq];omega
   have e:=h1 x hmem (fT b x.bg) k hA au;have e':=h2 x hmem (fT b x.bg) k hA au;have ej:=afy ((aT _ _ hA).weak (show k+eH x.aQ<=k+max (eH x.aQ) (eH x.aX)by omega)) ((aE _ _ hA).weak (show k+eH x.aX<=k+max (eH x.aQ) (eH x.aX)by omega)) hn au;have et:=pE (a:=cI b.ai x.aF) (.inr hnn);unfold brA;simp only[cG,cD,gK,d3,Int.reduceEq,ev,et];cases cR (cI b.ai x.aF) 0 with
   |false=>simp only[cD,e,cW]
   |true=>
    cases cC (cI b.ai x.aF)with
    |false=>simp only[cD,gK,e',Bool.true_eq_false]
    |true=>simp only[cD,e,e',ej,IQ,Bool.true_eq_false]
  by_cases d6:x.b9=6
  ·obtain⟨_,q2,q3,q4,q5⟩:=ho.acv d6;have e:=(uz (a:=qw 8 b.aI (eE x.bg)) hA.time q4 au (Mg q2 q3 q4 q5)).2.1;simp only[cG,cD,gK,d6,Int.reduceEq];rw[e];rfl
  ·simp only[d0,d1,d3,d5,d6,D0,ct,IQ]) (λb _=>by unfold We;simp) (b:=(s,⟨[],⟨0,0,0⟩,[],⟨0,0,0⟩⟩)) ⟨⟨m,h,by rw[xI];exact hm⟩,by rw[xI];exact hc,by rw[xI]⟩
 obtain⟨b,z⟩:=v;have e1':YA M88 M167 ⟨hv,l,(zY l:Int),0,f,tr s,⟨[],⟨0,0,0⟩,[],⟨0,0,0⟩⟩⟩=V ⟨hv,l,(zY l:Int),(zY l:Int),f,tr b,⟨[],z.aD,[],z.aI⟩⟩:=e1;have hr:=hV.2.2;dsimp only at hr;rw[wP,Hj]at hr;unfold s88;rw[e1',<-hr];dsimp only;rw[fE,ct]
def aqf{f:aS}{hv:af aK}(hn:zY f.ai<=1000000)(hh:zY hv=zY f.ax)(hvn:∀i,i<zY hv->NN hv[i]!):∀n:Nat,
  (∀(top:Bool) (l:af aB) (s:ay) (m:Nat),2*ze l<n->fK l<=1000000->b8 f top l=0->eR (zY f.ai) m s->m+eH l<=1000000->m88 n f hv l (tr s)=V (tr (gZ f hv l s)))/\
  (∀(x:aB) (s:ay) (m:Nat),2*ze x.aQ+1<n->fK x.aQ<=1000000->(0<=x.fN/\x.fN<=4096)->cA x.bg->fu f.ai O x.aF=0->b8 f O x.aQ=0->eR (zY f.ai) m s->m+x.fN.toNat*eH x.aQ<=1000000->Om n f hv x (tr s)=V (tr (oa (kW (gZ f hv x.aQ) x.aF x.bg x.fN.toNat s))))
 |0=>⟨λ_ _ _ _ h=>au,λ_ _ _ h=>au⟩
 |n+1=>by
  obtain⟨i1,i2⟩:=aqf hn hh hvn n;refine⟨λtop l s m h hN hc hs hm=> ?_,λx s m h hN hx hc ht hst hs hm=> ?_⟩
  ·refine azx (m88 n) (Om n) hn hh hvn (zG (ko l) hN) hc hs hm (λx hx s m hs hm=> ?_) (λx hx s m hs hm=> ?_) (λx hx s m h4 hs hm=> ?_)
   ·have:=bw hx;exact i1 O x.aQ s m au (zG (Bb hx).1 hN) (lU hc hx).1 hs hm
   ·have:=bw hx;exact i1 O x.aX s m au (zG (Bb hx).2 hN) (lU hc hx).2 hs hm
   ·have:=(bw hx).1;obtain⟨_,k⟩:=AN hc hx;exact i2 x s m au (zG (Bb hx).1 hN) (k.n4 h4) (rf k) k.term (lU hc hx).1 hs hm
  ·exact awd (m88 n) (Om n) hn hx hc ht (iG hh hvn _ x.aQ O (zC _) hst) hs hm (λs m hs hm=>i1 O x.aQ s m au hN hst hs hm)
def aAJ{r:Runner}(hn:zY r.fF.ai<=1000000)(hh:zY r.ax=zY r.fF.ax)(hvn:∀i,i<zY r.ax->NN r.ax[i]!){top:Bool}{l:af aB}{s:ay}{m:Nat}(hN:fK l<=1000000)(hc:b8 r.fF top l=0)(hs:eR (zY r.fF.ai) m s)(hm:m+eH l<=1000000):r83 r l s=V (gZ r.fF r.ax l s):=
 eM (2*ze l+1) λn h=>(aoF hn hh hvn n).1 top l s m au hN hc hs hm
def aAm{f:aS}{hv:af aK}(hn:zY f.ai<=1000000)(hh:zY hv=zY f.ax)(hvn:∀i,i<zY hv->NN hv[i]!){top:Bool}{l:af aB}{s:ay}{m:Nat}(hN:fK l<=1000000)(hc:b8 f top l=0)(hs:eR (zY f.ai) m s)(hm:m+eH l<=1000000):r88 f hv l (tr s)=V (tr (gZ f hv l s)):=
 eM (2*ze l+1) λn h=>(aqf hn hh hvn n).1 top l s m au hN hc hs hm
def kd(k:Int)(v:bh):Bool:=vn (v.bS=k)
def cQ(vars:af bh)(k:Int)(i:Nat):Nat:=zY ((vars.take i).filter (kd k))
def gN{vars:af bh}{i:Nat}(h:i<zY vars)(k:Int):cQ vars k (i+1)=cQ vars k i+if vars[i]!.bS=k then 1 else 0:=by
 unfold cQ;rw[bD h,xh,zh];by_cases hk:vars[i]!.bS=k
 ·rw[bC hk];simp only[yV,xY,kd,hk,Dw,cW,ym]
 ·rw[bL hk];simp only[yV,xY,kd,hk,D0,yy,IQ,yA]
def kG(vars:af bh)(k:Int)(i:Nat):cQ vars k i<=i:=by
 unfold cQ;exact zG (yq _ _) (by rw[zD];omega)
def j5{vars:af bh}{k:Int}{i j:Nat}(hij:i<=j)(hj:j<=zY vars):cQ vars k i<=cQ vars k j:=by
 induction j with
 |zero=>
  have:i=0:=au;subst this;exact zl _
 |succ j ih=>
  by_cases h:i=j+1
  ·subst h;exact zl _
  ·rw[gN au];have:=ih au au;omega
def oC(vars:af bh)(k:Int):cQ vars k vars.length=zY (vars.filter (kd k)):=by unfold cQ;rw[zy]
def ako(vars:af bh)(hl:zY vars<=1000000)(k:Int):amT vars k=V (vars.filter (kd k)):=by
 obtain⟨v,e1,hV⟩:=cS (rnd:=NL) (zY vars) (λi (b:af bh)=>⟨vars,k,b,(i:Int)⟩) (λi b=>b=(vars.take i).filter (kd k)) (λi b hi hb=>by
  obtain⟨i1,i2,hw⟩:=w3 hi hl;refine⟨_,?_,rfl⟩;have hlen:zY b<=1000000:=by rw[hb];exact zG (kG vars k i) au
  rw[bD hi,xh,<-hb];unfold NL HW;by_cases hk:vars[i]!.bS=k
  ·have h2:zY (b++[vars[i]!])<=1073741824:=by rw[zh,ym];omega
   simp only[cG,i1,i2,hk,h2,hw,cK,cW,kd,yV,xY]
  ·simp only[cG,cD,gK,i1,i2,hk,hw,kd,yV,xY,yu,yy]) (λb _=>by unfold NL HW;simp) (b:=[]) (by simp)
 rw[zy]at hV;have e1':Nk ⟨vars,k,[],0⟩=V ⟨vars,k,v,(zY vars:Int)⟩:=e1;unfold amT HW;rw[e1'];simp[hV]
def GI(vars:af bh)(hv:cZ vars)(hl:zY vars<=1000000){k:Int}(hk:k=1\/k=2\/k=3):∃p,m89 vars k=V p:=by
 have hm:=ako vars hl k;generalize hF:vars.filter (kd k)=L at hm;have hL:∀v∈L,-1048576<=v.ah/\v.ah<=v.ag/\v.ag<=1048576:=λv h=>by rw[<-hF]at h;exact hv v (z8.1 h).1
 have hll:zY L<=1000000:=by rw[<-hF];exact zG (yq _ _) hl
 obtain⟨v,e1,_⟩:=cS (rnd:=Xl) (zY L) (λi (_:Unit)=>⟨L,(i:Int)⟩) (λ_ _=>True) (λi b hi _=>by
  have hw:=jQ hi hll;obtain⟨q1,q2,q3⟩:=hL _ (bf hi);have i1:(i:Int)<(zY L:Int):=au;have i2:(0:Int)<=(i:Int):=au;refine⟨(),?_,trivial⟩;unfold Xl PC;simp only[cG,cD,i1,i2,hi,hw,cW,show ¬L[i]!.ag<L[i]!.ah by omega,show ¬L[i]!.ah< -1048576 by omega,show ¬1048576<L[i]!.ag by omega]) (λb _=>by unfold Xl PC;simp) (b:=()) trivial
 have e1':Vz ⟨L,0⟩=V ⟨L,(zY L:Int)⟩:=e1;have hsz:∀i,i<zY L->∀n:Int,1<=n->n<=4096->ak (n*ak (ak (L[i]!.ag-L[i]!.ah)+1))=n*(L[i]!.ag-L[i]!.ah+1)/\1<=n*(L[i]!.ag-L[i]!.ah+1):=λi hi n h1 h2=>by
  obtain⟨q1,q2,q3⟩:=hL _ (bf hi);have p1:n*(L[i]!.ag-L[i]!.ah+1)<=4096*(L[i]!.ag-L[i]!.ah+1):=zN h2 au;have p2:1*(L[i]!.ag-L[i]!.ah+1)<=n*(L[i]!.ag-L[i]!.ah+1):=zN h1 au;rw[aL (n:=L[i]!.ag-L[i]!.ah),aL (n:=L[i]!.ag-L[i]!.ah+1),aL];exact⟨rfl,au⟩
 obtain⟨i,n,e2,hI,hc⟩:=jj (rnd:=OX) (zY L) (λi (b:Int)=>⟨L,b,(i:Int)⟩) (λ_ b=>1<=b/\b<=4096) (λi b=>4096<b*(L[i]!.ag-L[i]!.ah+1)) (λi b hi hb=>by
  have hw:=jQ hi hll;obtain⟨s1,s2⟩:=hsz i hi b hb.1 hb.2;have i1:(i:Int)<(zY L:Int):=au;have i2:(0:Int)<=(i:Int):=au;by_cases h:4096<b*(L[i]!.ag-L[i]!.ah+1)
  ·refine .inr ⟨?_,h⟩;unfold OX J9;simp only[cG,i1,i2,hi,cK,cW,s1,h]
  ·refine .inl ⟨b*(L[i]!.ag-L[i]!.ah+1),?_,s2,au⟩;unfold OX J9;simp only[cG,cD,i1,i2,hi,hw,cW,s1,h]) (λb _=>by unfold OX J9;simp) (b:=1) ⟨au,au⟩
 have e2':YX ⟨L,1,0⟩=V ⟨L,n,(i:Int)⟩:=e2;have hk1:(bif bif vn (k=0)then O else J then
   bif bif vn (k=1)then O else J then
    bif bif vn (k=2)then O else J then V (bif vn (k=3)then O else J)else V O
   else V O
  else some false)=some false:=by rcases hk with h|h|h<;>simp[h]
 unfold m89 PC J9;rw[hk1];simp only[ct,hm,e1'];rw[fE,ct,e2'];dsimp only;rcases hc with rfl|⟨hi,h⟩
 ·rw[fE];exact⟨_,rfl⟩
 ·obtain⟨s1,s2⟩:=hsz i hi n hI.1 hI.2;have i1:(i:Int)<(zY L:Int):=au;have i2:(0:Int)<=(i:Int):=au;simp only[cG,i1,i2,hi,cK,cW,s1,h];exact⟨_,rfl⟩
def Y0{f:aS}(h:few f 10 80=J):fK f.bM+kS (f.ax.map (·.aF))<=80/\zY f.ax<=10/\zY f.ai<=10:=by
 unfold few at h;rw[decide_eq_true_eq]at h;omega
def ZD{f:aS}(h:rH f=0):b8 f J f.bM=0:=by
 unfold rH at h;split at h
 ·cases h
 split at h
 ·exact dU h ‹_›
 split at h
 ·exact dU h ‹_›
 split at h
 ·exact dU h ‹_›
 rename_i h4;simpa using h4
def arV(f:aS)(a b c:Int):∃r,m24 f a b c=V r/\(r=J->few f 10 80=J/\rH f=0):=by
 unfold m24;rw[auC f 10 80 (by decide) (by decide) (by decide) (by decide)];cases hf:few f 10 80 with
 |false=>exact⟨false,rfl,λh=>by cases h⟩
 |true=>
  obtain⟨h1,h2,h3⟩:=Y0 hf;rw[af5 f au au au];by_cases hc:rH f=0
  ·have hv:=kQ hc;obtain⟨p1,e1⟩:=GI f.ai hv au (k:=1) (.inl rfl);obtain⟨p2,e2⟩:=GI f.ai hv au (k:=2) (.inr (.inl rfl));obtain⟨p3,e3⟩:=GI f.ai hv au (k:=3) (.inr (.inr rfl));have hS:Da f.bM:=CJ f _ f.bM J (zC _) (ZD hc);rw[e1,e2,e3,agd f.bM au hS];simp only[cD,hc,Dw];cases vn (p1.fst<=a)<;>cases vn (p2.fst<=b)<;>cases vn (p3.fst<=c)<;>exact⟨_,rfl,λ_=>⟨trivial,trivial⟩⟩
  ·simp only[cD,hc,D0];exact⟨false,rfl,λh=>by cases h⟩
def aqU(vars:af bh)(inp:nN)(i:Nat):Int:=
 if vars[i]!.bS=1 then inp.ND[cQ vars 1 i]! else if vars[i]!.bS=2 then inp.bz[cQ vars 2 i]! else if vars[i]!.bS=3 then inp.Nr[cQ vars 3 i]! else vars[i]!.gD
structure aDK (vars:List bh) (inp:nN):Prop where
 s:zY inp.ND=cQ vars 1 (zY vars)
 p:zY inp.bz=cQ vars 2 (zY vars)
 r:zY inp.Nr=cQ vars 3 (zY vars)
 b:∀i,i<zY vars->vars[i]!.ah<=aqU vars inp i/\aqU vars inp i<=vars[i]!.ag
def oG{α:Type}[Inhabited α]{c:Nat->α->Int}:∀{l:af α} {i:Nat},cu c l i=0->∀j,j<zY l->c (i+j) l[j]! =0
 |[],_,_,j,h=>by simp at h
 |x::l,i,h,j,hj=>by
  unfold cu at h;split at h
  case isFalse h1=>exact dU h h1
  rename_i h0;cases j with
  |zero=>simpa using h0
  |succ j=>
   have:=oG h j (by simpa using hj);rw[show i+(j+1)=i+1+j by omega];exact this
def arJ{f:aS}{i:Nat}{h:dN}(hc:lu f i h=0):(-1048576<=h.ah/\h.ah<=h.ag/\h.ag<=1048576)/\fu f.ai J h.aF=0:=by
 unfold lu at hc;split at hc
 ·cases hc
 split at hc
 ·cases hc
 split at hc
 ·cases hc
 rename_i hb;have hb:jE h.ah h.ag=J:=by simpa using hb
 unfold jE at hb;rw[decide_eq_true_eq]at hb;exact⟨⟨hb.2.1,hb.1,hb.2.2⟩,hc⟩
structure Oy (f:aS):Prop where
 vars:cZ f.ai
 hat:∀i,i<zY f.ax->(-1048576<=f.ax[i]!.ah/\f.ax[i]!.ah<=f.ax[i]!.ag/\f.ax[i]!.ag<=1048576)/\fu f.ai J f.ax[i]!.aF=0
 steps:b8 f J f.bM=0
 o:(eX f.bM).2.1<=8
 t:(eX f.bM).2.2<=67108864
def Nl{f:aS}(h:rH f=0):Oy f:=by
 have hv:=kQ h;unfold rH at h;split at h
 ·cases h
 split at h
 ·exact dU h ‹_›
 split at h
 ·exact dU h ‹_›
 rename_i h3;split at h
 ·exact dU h ‹_›
 rename_i h4;split at h
 ·cases h
 rename_i h5;have h3:cu (lu f) f.ax 0=0:=by simpa using h3
 have h4:b8 f J f.bM=0:=by simpa using h4
 unfold XK at h5;simp only[decide_eq_true_eq]at h5;exact⟨hv,λi hi=>arJ (i:=0+i) (oG h3 i hi),h4,au,au⟩
end Go.Proofs.YtnfljbehcffmcaaGreat
end
