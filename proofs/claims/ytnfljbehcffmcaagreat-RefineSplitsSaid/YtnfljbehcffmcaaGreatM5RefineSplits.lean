/- Merged: Pv2b, Pv4, So, Hs, Ne9, Hr, Ne10, Ne30, Ha, Qv, Qw, Pv5, Pv6, Pv7, Qr, Qs, Ne31, Ne32, Hx, Hy, Ne33, Ne34, Ne35, Ne36, Ne37, Ne38, Qx, Qy. -/
import Derived.Test.YtnfljbehcffmcaaGreatM1RefineSplits
import Derived.Test.YtnfljbehcffmcaaGreatM4RefineSplits
import Derived.Test.YtnfljbehcffmcaaGreatM2RefineSplits
import Derived.Shelf.Sort.Plain
import Derived.Shelf.Slices.In.SortNone
import Derived.Sort.OwnSortedInts
import Derived.Test.YtnfljbehcffmcaaGreatM3RefineSplits
open Nat renaming le_refl -> zm, lt_succ_self -> zC, le_trans -> zH, add_mul -> zX, mul_le_mul_right -> ym, one_mul -> yK, not_lt_zero -> y9, lt_succ_iff_lt_or_eq -> xo, mul_one -> xC, sub_self -> xS
open SizeOf renaming sizeOf -> zf
open List renaming length_append -> zg, mem_cons_self -> zk, length_map -> zn, mem_singleton -> zq, getElem?_eq_getElem -> zu, mem_cons -> zy, length_take -> zA, take_length -> zG, mem_cons_of_mem -> zJ, map_append -> zK, mem_map -> zL, range -> zN, mem_append -> zP, length -> zR, length_drop -> zV, map_congr_left -> zZ, mem_filter -> z7, drop -> ya, map_cons -> yc, length_singleton -> yg, length_filter_le -> yt, length_set -> yw, append_nil -> yy, nil_append -> yz, getElem?_drop -> yE, mem_append_left -> yH, mem_append_right -> yI, getElem_map -> yL, drop_eq_getElem_cons -> yN, append_assoc -> yS, map_nil -> yT, getElem_of_mem -> yU, filter_cons -> yX, length_nil -> y6, filter_append -> xk, length_eq_zero_iff -> xw, cons_append -> xz, map_drop -> xB, mem_of_mem_drop -> xD, drop_zero -> xH, getElem_take -> xI, map_take -> xJ, getElem_mem -> xN, getElem_drop -> xR, ext_getElem -> xY, filter_nil -> xZ, getElem_append_left -> wg, take_zero -> wj, getElem?_take_of_lt -> wu, getElem_append_right -> wC, mem_of_mem_take -> wF, foldl_append -> wN, drop_length -> wO, take_succ_cons -> vi
open Bool renaming and_eq_true -> zh, cond_decide -> zQ, false_eq_true -> yu, true -> O, false -> G
open Int renaming toNat_natCast -> zi, le_refl -> zw, toNat -> zD, mul_nonneg -> zI, mul_le_mul_of_nonneg_right -> zM, lt_irrefl -> yl, dvd_zero -> xK, le_of_lt -> xT, le_trans -> xV
open Option renaming some -> zF, some -> V, none -> I
open Array renaming getElem?_eq_some_iff -> xd
open Decidable renaming decide -> J
open Go.Proofs.Tryz renaming prog -> vn
open Go.Proofs.Tryz
set_option linter.unusedSectionVars false
set_option linter.unusedVariables false
set_option linter.unusedSimpArgs false
set_option linter.defProp false
noncomputable section
set_option maxRecDepth 100000
namespace Go.Proofs.YtnfljbehcffmcaaGreat
open Go Go.Iv
open Go.IntKind (i64 u64)
def uF(vars:aa bf)(t:az)(k:aa Span):Span:=if t.bE=0/\(t.fN< -1048576\/1048576<t.fN)then⟨-1048577,1048577⟩else jy vars t k
def Y9(vars:aa bf)(t:az)(k:aa Span):BZ (uF vars t k)=BZ (jy vars t k)/\(BZ (jy vars t k)=O->uF vars t k=jy vars t k):=by
 unfold uF;by_cases h:t.bE=0/\(t.fN< -1048576\/1048576<t.fN)
 ·have e:BZ (jy vars t k)=G:=by
   unfold BZ jy;rw[bI h.1];simp;omega
  rw[bI h,e];exact⟨by decide,λh=>by cases h⟩
 ·rw[bO h];simp
def sv(a b:Int):jY a b=if a<b then a else b:=by
 unfold jY;simp
def oW(a b:Int):lF a b=if b<a then a else b:=by
 unfold lF;simp
def iJ{k:aa Span}{i:Nat}(h:i<zR k):(k.map (·.ah))[i]! =k[i]!.ah:=by
 rw[getElem!_pos _ i (by simpa using h),getElem!_pos k i h,yL]
def fW{k:aa Span}{i:Nat}(h:i<zR k):(k.map (·.ag))[i]! =k[i]!.ag:=by
 rw[getElem!_pos _ i (by simpa using h),getElem!_pos k i h,yL]
def HK(k:aa Span)(hl:zR k<=1000000)(h2:2<=zR k)(a:Span):DP ⟨k.map (·.ah),k.map (·.ag),a.ah,a.ag,2⟩=V ⟨k.map (·.ah),k.map (·.ag),((k.drop 2).foldl gu a).ah,((k.drop 2).foldl gu a).ag,(zR k:Int)⟩:=by
 have hlen:zR (k.drop 2)=zR k-2:=zV ..;have hget:∀i,i<zR k-2->(k.drop 2)[i]! =k[i+2]! :=λi hi=>by
  grind
 obtain⟨v,e1,hv⟩:=cH (rnd:=I7) (zR k-2) (λi (b:Span)=>⟨k.map (·.ah),k.map (·.ag),b.ah,b.ag,((i+2:Nat):Int)⟩) (λi b=>b=((k.drop 2).take i).foldl gu a) (λi b hi hb=>by
  have hw:=jJ (show i+2<zR k by omega) hl;refine⟨gu b k[i+2]!,?_,?_⟩
  ·unfold I7;simp only[zi,sv,oW];unfold gu
   congr 3<;>grind
  ·rw[bC aq,wN,hb,hget i hi];rfl) (λb _=>by
   unfold I7;simp only[zn,zQ];rw[AS]) (b:=a) rfl
 rw[<-hlen,zG]at hv;rw[<-hv];rw[show zR k-2+2=zR k by omega]at e1;exact e1
def ak3(vars:aa bf)(t:az)(k:aa Span)(h:D8 vars t k):alp vars t (k.map (·.ah)) (k.map (·.ag))=V ((uF vars t k).ah,(uF vars t k).ag):=by
 obtain⟨hk,h24,hI⟩:=h;have h0:1<=(cq t.bE).1->GI k[0]! :=λh=>hI _ (bq aq);have h1:2<=(cq t.bE).1->GI k[1]! :=λh=>hI _ (bq aq);have h33:(cq t.bE).2<=33:=by unfold cq;grind
 have W:∀n:Int,-8796093022208<=n->n<=8796093022208->ak n=n:=λn a b=>aM;unfold alp uF jy;have cs:t.bE=0\/t.bE=24\/t.bE=6\/t.bE=8\/t.bE=9\/t.bE=10\/t.bE=11\/t.bE=12\/t.bE=21\/t.bE=22\/t.bE=23\/t.bE=25\/(t.bE≠0/\t.bE≠24/\t.bE≠6/\t.bE≠8/\t.bE≠9/\t.bE≠10/\t.bE≠11/\t.bE≠12/\t.bE≠21/\t.bE≠22/\t.bE≠23/\t.bE≠25):=aq;rcases cs with h|h|h|h|h|h|h|h|h|h|h|h|h
 ·simp only[Z0];grind
 ·simp[h,h24 h]
 ·have hl:1<=(cq t.bE).1:=by rw[h];decide
  obtain⟨a1,a2,a3⟩:=h0 hl;have w1:ak ((0:Int)-k[0]!.ag)= -k[0]!.ag:=by rw[W _ aq aq];omega
  have w2:ak ((0:Int)-k[0]!.ah)= -k[0]!.ah:=by rw[W _ aq aq];omega
  have i0:(0:Int)<(zR k:Int):=aq;simp only[gz,Z0,h,zQ,Int.reduceEq,reduceIte,zn,i0,iJ (show 0<zR k by omega),fW (show 0<zR k by omega),w1,w2,zw,GJ,false_and]
 ·have hl:2<=(cq t.bE).1:=by rw[h];decide
  obtain⟨a1,a2,a3⟩:=h0 aq;obtain⟨b1,b2,b3⟩:=h1 hl;have w1:=W (k[0]!.ah+k[1]!.ah) aq aq;have w2:=W (k[0]!.ag+k[1]!.ag) aq aq;have i0:(0:Int)<(zR k:Int):=aq;have i1:(1:Int)<(zR k:Int):=aq;simp only[gz,Z0,h,zQ,Int.reduceEq,Int.reduceLE,reduceIte,zn,iJ (show 0<zR k by omega),fW (show 0<zR k by omega),iJ (show 1<zR k by omega),fW (show 1<zR k by omega),i0,i1,w1,w2,zw,GJ,false_and]
 ·have hl:2<=(cq t.bE).1:=by rw[h];decide
  obtain⟨a1,a2,a3⟩:=h0 aq;obtain⟨b1,b2,b3⟩:=h1 hl;have w1:=W (k[0]!.ah-k[1]!.ag) aq aq;have w2:=W (k[0]!.ag-k[1]!.ah) aq aq;have i0:(0:Int)<(zR k:Int):=aq;have i1:(1:Int)<(zR k:Int):=aq;simp only[gz,Z0,h,zQ,Int.reduceEq,Int.reduceLE,reduceIte,zn,iJ (show 0<zR k by omega),fW (show 0<zR k by omega),iJ (show 1<zR k by omega),fW (show 1<zR k by omega),i0,i1,w1,w2,zw,GJ,false_and]
 ·have hl:2<=(cq t.bE).1:=by rw[h];decide
  obtain⟨a1,a2,a3⟩:=h0 aq;obtain⟨b1,b2,b3⟩:=h1 hl;have m1:=qk (a:=k[0]!.ah) (b:=k[1]!.ah) aq aq aq aq;have m2:=qk (a:=k[0]!.ah) (b:=k[1]!.ag) aq aq aq aq;have m3:=qk (a:=k[0]!.ag) (b:=k[1]!.ah) aq aq aq aq;have m4:=qk (a:=k[0]!.ag) (b:=k[1]!.ag) aq aq aq aq;have w1:=W _ (show-8796093022208<=k[0]!.ah*k[1]!.ah by omega) aq;have w2:=W _ (show-8796093022208<=k[0]!.ah*k[1]!.ag by omega) aq;have w3:=W _ (show-8796093022208<=k[0]!.ag*k[1]!.ah by omega) aq;have w4:=W _ (show-8796093022208<=k[0]!.ag*k[1]!.ag by omega) aq;have i0:(0:Int)<(zR k:Int):=aq;have i1:(1:Int)<(zR k:Int):=aq;simp only[gz,Z0,h,zQ,Int.reduceEq,Int.reduceLE,reduceIte,zn,iJ (show 0<zR k by omega),fW (show 0<zR k by omega),iJ (show 1<zR k by omega),fW (show 1<zR k by omega),i0,i1,w1,w2,w3,w4,zw,GJ,false_and,sv,oW,gu];generalize k[0]!.ah*k[1]!.ah=p;generalize k[0]!.ah*k[1]!.ag=q;generalize k[0]!.ag*k[1]!.ah=r;generalize k[0]!.ag*k[1]!.ag=s
  congr 2<;>grind
 ·have hl:2<=(cq t.bE).1:=by rw[h];decide
  obtain⟨a1,a2,a3⟩:=h0 aq;obtain⟨b1,b2,b3⟩:=h1 hl;have z0:zD 0=0:=rfl;have z1:zD 1=1:=rfl;have aeN:∀x:Int,-1048576<=x->x<=1048576->BF x=if x<0 then-x else x:=λx q1 q2=>by
   unfold BF;rw[W _ aq aq];simp only[zQ];grind
  have Zl:lF (BF k[0]!.ah) (BF k[0]!.ag)=if k[0]!.ag< -k[0]!.ah then-k[0]!.ah else k[0]!.ag:=by
   rw[aeN _ aq aq,aeN _ aq aq,oW];grind
  have w2:ak ((0:Int)-if k[0]!.ag< -k[0]!.ah then-k[0]!.ah else k[0]!.ag)= -(if k[0]!.ag< -k[0]!.ah then-k[0]!.ah else k[0]!.ag):=by split<;>(rw[W _ aq aq];omega)
  have i0:(0:Int)<(zR k:Int):=aq;have i1:(1:Int)<(zR k:Int):=aq;simp only[gz,Z0,h,zQ,Int.reduceEq,Int.reduceLE,reduceIte,zn,z0,z1,iJ (show 0<zR k by omega),fW (show 0<zR k by omega),iJ (show 1<zR k by omega),fW (show 1<zR k by omega),i0,i1,Zl,w2,zw,GJ,false_and];by_cases c1:(0:Int)<=k[0]!.ah<;>by_cases c2:(0:Int)<=k[1]!.ah<;>simp only[cV,cT,gz,c1,c2,and_true,and_false]
 ·have hl:2<=(cq t.bE).1:=by rw[h];decide
  obtain⟨b1,b2,b3⟩:=h1 hl;have w1:=W (k[1]!.ah+1) aq aq;have w2:=W (k[1]!.ag-1) aq aq;have i1:(1:Int)<(zR k:Int):=aq;simp only[gz,Z0,h,zQ,Int.reduceEq,Int.reduceLE,reduceIte,zn,iJ (show 1<zR k by omega),fW (show 1<zR k by omega),i1,zw,GJ,false_and,aeI,w1,w2,sv,oW]
  congr 1
  by_cases c1:k[1]!.ah<0<;>by_cases c2:(0:Int)<k[1]!.ag<;>simp only[gz,c1,c2,Prod.mk.injEq,and_true,true_and]<;>grind
 ·have hl:2<=(cq t.bE).1:=by rw[h];decide
  have i0:(0:Int)<(zR k:Int):=aq;have i1:(1:Int)<(zR k:Int):=aq;simp only[gz,Z0,h,zQ,Int.reduceEq,Int.reduceLE,reduceIte,zn,iJ (show 0<zR k by omega),fW (show 0<zR k by omega),iJ (show 1<zR k by omega),fW (show 1<zR k by omega),i0,i1,zw,GJ,false_and,sv,oW]
  congr 2<;>grind
 ·have hl:2<=(cq t.bE).1:=by rw[h];decide
  have i0:(0:Int)<(zR k:Int):=aq;have i1:(1:Int)<(zR k:Int):=aq;simp only[gz,Z0,h,zQ,Int.reduceEq,Int.reduceLE,reduceIte,zn,iJ (show 0<zR k by omega),fW (show 0<zR k by omega),iJ (show 1<zR k by omega),fW (show 1<zR k by omega),i0,i1,zw,GJ,false_and,sv,oW]
  congr 2<;>grind
 ·have hl:2<=(cq t.bE).1:=by rw[h];decide
  have i1:(1:Int)<(zR k:Int):=aq;have e:=HK k aq aq k[1]!;simp only[gz,Z0,h,zQ,Int.reduceEq,Int.reduceLE,reduceIte,zn,iJ (show 1<zR k by omega),fW (show 1<zR k by omega),e,i1,zw,GJ,yl,true_or,false_and]
 ·have hl:2<=(cq t.bE).1:=by rw[h];decide
  have i1:(1:Int)<(zR k:Int):=aq;have e:=HK k aq aq k[1]!;simp only[gz,Z0,h,zQ,Int.reduceEq,Int.reduceLE,reduceIte,zn,iJ (show 1<zR k by omega),fW (show 1<zR k by omega),e,i1,zw,GJ,yl,or_true,false_and]
 ·obtain⟨c1,c2,c3,c4,c5,c6,c7,c8,c9,c18,c11,c12⟩:=h;simp only[c1,c2,c3,c4,c5,c6,c7,c8,c9,c18,c11,c12,zQ,GL,or_self,false_and]
def qZ(vars:aa bf)(t:az):Int×Int×Bool:=match lN (t.ax.map (iN vars))with
 |none=>(0,0,G)
 |some l=>((uF vars t l).ah,(uF vars t l).ag,BZ (uF vars t l))
def KI(vars:aa bf)(t:az):iN vars t=if(qZ vars t).2.2=O then V ⟨(qZ vars t).1,(qZ vars t).2.1⟩else I:=by
 rw[vZ,qZ];cases h:lN (t.ax.map (iN vars))with
 |none=>rfl
 |some l=>
  obtain⟨h1,h2⟩:=Y9 vars t l;simp_all
def anh(M:aa bf->az->af sL)(vars:aa bf)(hv:de vars)(inp:Bool)(t:az)(hf:dH vars inp t=O)(hM:∀k∈t.ax,M vars k=V (qZ vars k)):afV M vars t=V (qZ vars t):=by
 have h33:=NS hf;obtain⟨i,b,e1,hI,hc⟩:=lM (rnd:=EW M) t.ax.length (λi (b:aa Span)=>⟨vars,b.map (·.ah),b.map (·.ag),(i:Int),t⟩) (λi b=>(t.ax.take i).map (iN vars)=b.map V) (λi _=>(qZ vars t.ax[i]!).2.2=G) (λi b hi hb=>by
  have hw:=jJ hi aq;have hk:=hM _ (bq hi);have hlen:zR b=i:=by have:=congrArg zR hb;simp at this;omega
  cases hx:(qZ vars t.ax[i]!).2.2 with
  |true=>
   refine .inl ⟨b++[⟨(qZ vars t.ax[i]!).1,(qZ vars t.ax[i]!).2.1⟩],?_,?_⟩
   ·have hl2:zR (b.map (·.ah)++[(qZ vars t.ax[i]!).1])<=1073741824:=by simp;omega
    have hl3:zR (b.map (·.ag)++[(qZ vars t.ax[i]!).2.1])<=1073741824:=by simp;omega
    unfold EW;simp only[zi,az.eta,hk,hx,hl2,hl3,hw];simp[hi]
   ·rw[bC hi,zK,hb,zK];rw[yc,yc,KI,bI hx];rfl
  |false=>
   unfold EW;simp only[zi,az.eta,hk,hx];simp[hi]) (λb _=>by unfold EW;simp) (b:=[]) rfl
 have e1':Jo M ⟨vars,[],[],0,t⟩=V ⟨vars,b.map (·.ah),b.map (·.ag),(i:Int),t⟩:=e1;unfold afV;rw[az.eta,e1'];dsimp only;rcases hc with rfl|⟨hi,hx⟩
 ·rw[zG]at hI;have ha:lN (t.ax.map (iN vars))=V b:=by rw[hI];exact PC b
  rw[fK,cw,az.eta,ak3 vars t b (Nn hv hf ha)];unfold qZ;unfold BZ;grind
 ·have hk:=hM _ (bq hi);have ha:lN (t.ax.map (iN vars))=I:=AX (zL.2 ⟨t.ax[i]!,bq hi,by rw[KI,hx];simp⟩);rw[oo,cI,bI ⟨aq,aq⟩];simp only[cT,zi,az.eta,hk,hx];unfold qZ;rw[ha]
def Vf(vars:aa bf)(hv:de vars)(inp:Bool):∀(n:Nat) (t:az),zf t<n->dH vars inp t=O->Tm n vars t=V (qZ vars t)
 |0,_,h,_=>aq
 |n+1,t,h,hf=>anh (Tm n) vars hv inp t hf (λk hk=>Vf vars hv inp n k (by have:=az.eV hk;omega) (qD hf hk))
def afG(vars:aa bf)(hv:de vars)(inp:Bool)(t:az)(hf:dH vars inp t=O):ags vars t=V (qZ vars t):=eM (zf t+1) λn hn=>Vf vars hv inp n t aq hf
def Du(vars:aa bf)(hv:de vars)(inp:Bool)(t:az):Kt vars t inp=V (fA vars inp t):=by
 unfold Kt fA;rw[az.eta,aga];cases hf:dH vars inp t with
 |false=>rfl
 |true=>
  rw[afG vars hv inp t hf,KI];dsimp only;cases (qZ vars t).2.2<;>rfl
def dD.eta(h:dD):dD.mk h.fName h.ah h.ag h.aG=h:=by cases h;rfl
def Xv(l:aa dD)(hl:zR l<=1000000)(v:dD):adk l v=V (l.any λw=>w.fName.toList==v.fName.toList):=by
 obtain⟨i,e1,hc⟩:=qJ (rnd:=Jz) l (λi=>⟨l,v.fName,v.ah,v.ag,v.aG.bE,v.aG.fN,v.aG.ax,(zR l:Int),(i:Int)⟩) (λ_ w=> !(w.fName.toList==v.fName.toList)) (λi hi=>by
  have hw:=jJ hi hl;unfold Jz ad9;grind) (by unfold Jz;simp)
 have e1':Kn ⟨l,v.fName,v.ah,v.ag,v.aG.bE,v.aG.fN,v.aG.ax,(zR l:Int),0⟩=V ⟨l,v.fName,v.ah,v.ag,v.aG.bE,v.aG.fN,v.aG.ax,(zR l:Int),(i:Int)⟩:=e1;unfold adk arN;rw[e1'];rcases hc with ⟨rfl,hc⟩|⟨hi,hc⟩
 ·rw[Ab λj hj=>by have:=hc j hj;simpa using this];simp
 ·have hc':(l[i]!.fName.toList==v.fName.toList)=O:=by simpa using hc
  rw[JH hi hc'];unfold ad9;simp only[zi,hc'];simp[hi]
def OR(f:aU)(hl:zR f.au<=1000000)(n:Nat)(hn:n<=zR f.au)(v:dD):
  ∃i:Nat,MZ ⟨n,0,f,v⟩=V ⟨n,(i:Int),f,v⟩/\((i=n/\((f.au.take n).any λw=>w.fName.toList==v.fName.toList)=G)\/(i<n/\(f.au[i]!.fName.toList==v.fName.toList)=O/\((f.au.take n).any λw=>w.fName.toList==v.fName.toList)=O)):=by
 have hlen:zR (f.au.take n)=n:=by rw[zA];omega
 have hget:∀i,i<n->(f.au.take n)[i]! =f.au[i]! :=λi hi=>by
  rw[getElem!_pos _ i aq,getElem!_pos _ i aq,xI]
 obtain⟨i,e1,hc⟩:=qJ (rnd:=UM) (f.au.take n) (λi=>⟨(n:Int),(i:Int),f,v⟩) (λ_ w=> !(w.fName.toList==v.fName.toList)) (λi hi=>by
  have hw:=jJ hi aq;unfold UM;simp only[az.eta,dD.eta];grind) (by rw[hlen];unfold UM;simp)
 refine⟨i,e1,?_⟩;rw[hlen]at hc;rcases hc with ⟨rfl,hc⟩|⟨hi,hc⟩
 ·exact .inl ⟨rfl,Ab λj hj=>by have:=hc j aq;simpa using this⟩
 ·have hc':((f.au.take n)[i]!.fName.toList==v.fName.toList)=O:=by simpa using hc
  exact .inr ⟨hi,by rw[<-hget i hi];exact hc',JH aq hc'⟩
def agR(t:az):Y6 t=CG t:=by
 unfold Y6 CG;simp
def ahY(t:az):Pt t=CG t:=by
 unfold Pt CG;simp
def jM:∀(l:aa Int),gI l=O↔∀i,i+1<zR l->l[i]! <l[i+1]!
 |[]=>by simp[gI]
 |[a]=>by simp[gI]
 |a::b::l=>by
  unfold gI;rw[zh,jM (b::l),decide_eq_true_iff];constructor
  ·rintro⟨h1,h2⟩ i hi;cases i with
   |zero=>exact h1
   |succ i=>exact h2 i (by simpa using hi)
  ·intro h;exact⟨h 0 (by simp),λi hi=>h (i+1) (by simpa using hi)⟩
def am8(l:aa Int)(hl:zR l<=1000000):abM l=V (gI l):=by
 obtain⟨i,e1,hc⟩:=qJ (rnd:=Mb) l (λi=>⟨l,(zR l:Int),(i:Int)⟩) (λi x=>J (i=0)||J (l[i-1]! <x)) (λi hi=>by
  have hw:=jJ hi hl;have hw2:ak ((i:Int)-1)=(i:Int)-1:=aM;have hw3:((i:Int)-1).toNat=i-1:=aq;unfold Mb;grind) (by unfold Mb;simp)
 have e1':Kk ⟨l,(zR l:Int),0⟩=V ⟨l,(zR l:Int),(i:Int)⟩:=e1;unfold abM;rw[e1'];rcases hc with ⟨rfl,hc⟩|⟨hi,hc⟩
 ·have:gI l=O:=(jM l).2 λi hi=>by
   have:=hc (i+1) hi;simpa using this
  rw[this];simp
 ·have hc':i≠0/\¬l[i-1]! <l[i]! :=by
   simp only[Bool.or_eq_false_iff,decide_eq_false_iff_not]at hc;exact hc
  have:gI l=G:=by
   cases hr:gI l with
   |false=>rfl
   |true=>
    have:=(jM l).1 hr (i-1) aq;rw[show i-1+1=i by omega]at this;omega
  have hw2:ak ((i:Int)-1)=(i:Int)-1:=aM;have hw3:((i:Int)-1).toNat=i-1:=aq;grind
def ajC(l:aa Int)(hl:zR l<=1000000):amc l=V (J (1<=zR l/\zR l<=32)&&J ((0:Int)<=l[0]!)&&gI l):=by
 unfold amc;by_cases h1:1<=zR l/\zR l<=32
 case neg=>
  rw[bY h1];simp only;grind
 rw[bZ h1,bY (show ¬(zR l:Int)<1 by omega),bY (show ¬32<(zR l:Int)by omega),bI (⟨zw _,aq⟩:(0:Int)<=0/\(0:Int)<(zR l:Int))];have hz:l[zD 0]! =l[0]! :=rfl;rw[hz];by_cases h0:(0:Int)<=l[0]!
 case neg=>
  rw[bY h0,bZ (show l[0]! <0 by omega)];rfl
 rw[bZ h0,bY (show ¬l[0]! <0 by omega)];dsimp only[cw];have hlen:zR (l.drop 1)=zR l-1:=zV ..;have hget:∀i,i<zR l-1->(l.drop 1)[i]! =l[i+1]! :=λi hi=>by
  simp
 obtain⟨i,e1,hc⟩:=qJ (rnd:=J8) (l.drop 1) (λi=>⟨l,((i+1:Nat):Int)⟩) (λi x=>J (l[i]! <x)) (λi hi=>by
  have hw:=jJ (show i+1<zR l by omega) hl;have hw2:ak (((i+1:Nat):Int)-1)=(i:Int):=by rw[aM];omega
  unfold J8;grind) (by
   unfold J8;simp only[zQ];rw[AS])
 have e1':J1 ⟨l,1⟩=V ⟨l,((i+1:Nat):Int)⟩:=e1;rw[e1'];dsimp only;rw[hlen]at hc;rcases hc with ⟨rfl,hc⟩|⟨hi,hc⟩
 ·have:gI l=O:=(jM l).2 λi hi=>by
   have:=hc i aq;simpa using this
  rw[this,bY (show ¬(((zR l-1+1:Nat):Int)<(zR l:Int))by omega)];rfl
 ·rw[hget i hi]at hc;have hc':¬l[i]! <l[i+1]! :=by simpa using hc
  have:gI l=G:=by
   cases hr:gI l with
   |false=>rfl
   |true=>exact ei ((jM l).1 hr i aq) hc'
  have hw2:ak (((i+1:Nat):Int)-1)=(i:Int):=by rw[aM];omega
  grind
def Xz(f:aU)(s:aB)(last:Bool):QD f s last=V (dL f s last):=by
 have h199:zR s.aR<=32->abM s.aR=V (gI s.aR):=λh=>am8 _ aq;have hz:s.aR[zD 0]! =s.aR[0]! :=rfl;unfold QD YL acY aeR;rw[az.eta,agR,hz];obtain⟨X,hX⟩:∃X,X=dL f s last:=⟨_,rfl⟩;have hX1:X=O↔dL f s last=O:=by rw[hX]
 unfold dL Bu at hX1;generalize CG s.aG=Z at*;have cs:s.cg=0\/s.cg=1\/s.cg=2\/s.cg=3\/s.cg=4\/s.cg=5\/s.cg=6\/s.cg<0\/6<s.cg:=aq;rcases cs with h|h|h|h|h|h|h|h|h
 case inr.inr.inr.inr.inr.inr.inr.inl=>rw[bZ h];dsimp only[cI];cases X<;>grind
 case inr.inr.inr.inr.inr.inr.inr.inr=>rw[bZ h,fK];dsimp only[cond_true,cond_false];cases X<;>grind
 all_goals
  rw[h]at hX1 ⊢;cases X<;>cases Z<;>simp only[cV,cT,gz,Int.reduceEq,Int.reduceLT,zQ,reduceIte,zh]at hX1 ⊢ <;>grind (splits:=40)
def abB(a b:Bool):(bif a then some b else some false)=some (a&&b):=by cases a<;>rfl
def V3(f:aU)(s:aB)(last:Bool)(hb:zR s.aR<=1000000):RO f s last=V (dL f s last):=by
 have h173:=ajC s.aR hb;have e1:(bif J ((zR s.aQ:Int)=0)then V (J ((zR s.aW:Int)=0))else V G)=V (J (zR s.aQ=0/\zR s.aW=0)):=by
  by_cases a1:zR s.aQ=0<;>by_cases a2:zR s.aW=0<;>simp[a1]
 have e2:(bif J (0<=s.dJ)then bif J (s.dJ<(zR f.ai:Int))then if(0:Int)<=s.dJ/\s.dJ<(zR f.ai:Int)then V (J (f.ai[s.dJ.toNat]!.bB=0))else I else V G else V G)=V (Bu f s):=by
  unfold Bu;by_cases a1:0<=s.dJ<;>by_cases a2:s.dJ<(zR f.ai:Int)<;>simp[a1,a2]
 unfold RO;rw[az.eta,ahY,h173,e1,e2];unfold dL;generalize J (zR s.aQ=0/\zR s.aW=0)=F;have hi:((zR s.aR:Int)=0)↔s.aR.length=0:=aq;have hi2:((zR s.aW:Int)=0)↔s.aW.length=0:=aq;simp only[hi,hi2];have cs:s.cg=0\/s.cg=1\/s.cg=2\/s.cg=3\/s.cg=4\/s.cg=5\/s.cg=6\/(s.cg≠0/\s.cg≠1/\s.cg≠2/\s.cg≠3/\s.cg≠4/\s.cg≠5/\s.cg≠6):=aq;rcases cs with h|h|h|h|h|h|h|⟨h0,h1,h2,h3,h4,h5,h6⟩
 case inr.inr.inr.inr.inr.inr.inr=>simp only[h0,h1,h2,h3,h4,h5,h6,CZ,cw,GL]
 all_goals
  rw[h];simp only[Int.reduceEq,CZ,cw]
  try rw[Bool.decide_and]
  simp only[abB]
  first|done|(congr 1;ac_rfl)
def Vv(s:aB)(hb:s.cg=6->1<=zR s.aR/\zR s.aR<=32):Sa s=V (ug s):=by
 unfold Sa ug;by_cases h6:s.cg=6
 ·obtain⟨b1,b2⟩:=hb h6;have hw:ak ((zR s.aR:Int)-1)=(zR s.aR:Int)-1:=aM;have hw2:((zR s.aR:Int)-1).toNat=zR s.aR-1:=aq;grind (splits:=30)
 ·rw[bY h6,bO h6];by_cases h2:s.cg=2
  ·rw[h2];grind (splits:=30)
  ·rw[bY h2,bO h2];grind (splits:=30)
def jD{f:aU}{s:aB}{last:Bool}(h:dL f s last=O):(s.cg=6->1<=zR s.aR/\zR s.aR<=32)/\(s.cg≠6->zR s.aR=0)/\(s.cg≠3->s.cg≠4->s.aQ=[])/\(s.cg≠3->s.aW=[])/\(s.cg≠4->0<=s.fN):=by
 unfold dL at h;have e1:zR s.aQ=0->s.aQ=[]:=xw.1;have e2:zR s.aW=0->s.aW=[]:=xw.1;refine⟨λh6=> ?_,λh6=> ?_,λh3 h4=>e1 ?_,λh3=>e2 ?_,λh4=> ?_⟩<;>grind (splits:=40)
abbrev azY:=aa Int
def d237:Td 1 azY:= .c [] [] (.r 1 1 en (sr 0 3 sn) (λz=>z.2.1) (λx=>((()),(x,()))))
def awk:=(lc (qo 0) ln)
def aCF:=(sr 0 3 sn)
def RH(b0:aa Int):af azY:=if zR b0<=1073741824 then V (b0.mergeSort λx y=>J (x<=y))else I
def apO:Prop:=HY vn 237 1 awk aCF d237 (λg=>RH g.2.1)
def aH4:bu->bu:=eY vn 237 1 awk aCF d237 (λg=>RH g.2.1)
def aaE(hv:apO){F:bu}(h:bz vn F):bz vn (aH4 F):=CB hv ⟨_,func237,aV,aV⟩ (λ_=>aV) h
def alQ:Go.Shelf.Ren:=⟨λ|189=>237|125=>257|257=>281|128=>300|129=>301|294=>317|295=>318|296=>319|297=>320|298=>321|299=>322|216=>323|300=>324|301=>325|328=>342|329=>333|330=>334|331=>343|332=>344|215=>326|343=>354|n=>n,λ|28=>27|3=>3|46=>240|0=>0|51=>322|53=>324|4=>4|183=>316|182=>315|131=>193|5=>5|9=>9|218=>344|222=>348|228=>356|229=>297|n=>n,λ|n=>n⟩
def Srt:Go.Proofs.Lays.n189 vn alQ where
 mixed:=aV
 f125:=func257.trans (congrArg V aV)
 f128:=func300.trans (congrArg V aV)
 f129:=func301.trans (congrArg V aV)
 f189:=func237.trans (congrArg V aV)
 f215:=func326.trans (congrArg V aV)
 f216:=func323.trans (congrArg V aV)
 f257:=func281.trans (congrArg V aV)
 f294:=func317.trans (congrArg V aV)
 f295:=func318.trans (congrArg V aV)
 f296:=func319.trans (congrArg V aV)
 f297:=func320.trans (congrArg V aV)
 f298:=func321.trans (congrArg V aV)
 f299:=func322.trans (congrArg V aV)
 f300:=func324.trans (congrArg V aV)
 f301:=func325.trans (congrArg V aV)
 f328:=func342.trans (congrArg V aV)
 f329:=func333.trans (congrArg V aV)
 f330:=func334.trans (congrArg V aV)
 f331:=func343.trans (congrArg V aV)
 f332:=func344.trans (congrArg V aV)
 f343:=func354.trans (congrArg V aV)
 t0:=underlying0
 a0:=Tryz.isAgg0
 z0:=Tryz.sizeOf0
 v0:=Tryz.zeroValue0
 t3:=underlying3
 a3:=Tryz.isAgg3
 z3:=Tryz.sizeOf3
 v3:=Tryz.zeroValue3
 t4:=underlying4
 a4:=Tryz.isAgg4
 z4:=Tryz.sizeOf4
 v4:=Tryz.zeroValue4
 t5:=underlying5
 a5:=Tryz.isAgg5
 z5:=Tryz.sizeOf5
 v5:=Tryz.zeroValue5
 t9:=underlying9
 a9:=Tryz.isAgg9
 z9:=Tryz.sizeOf9
 v9:=Tryz.zeroValue9
 t28:=underlying27
 a28:=Tryz.isAgg27
 z28:=Tryz.sizeOf27
 v28:=Tryz.zeroValue27
 t46:=underlying240
 a46:=Tryz.isAgg240
 z46:=Tryz.sizeOf240
 v46:=Tryz.zeroValue240
 t51:=underlying322
 a51:=Tryz.isAgg322
 z51:=Tryz.sizeOf322
 v51:=Tryz.zeroValue322
 t53:=underlying324
 a53:=Tryz.isAgg324
 z53:=Tryz.sizeOf324
 v53:=Tryz.zeroValue324
 t131:=underlying193
 a131:=Tryz.isAgg193
 z131:=Tryz.sizeOf193
 v131:=Tryz.zeroValue193
 t182:=underlying315
 a182:=Tryz.isAgg315
 z182:=Tryz.sizeOf315
 v182:=Tryz.zeroValue315
 t183:=underlying316
 a183:=Tryz.isAgg316
 z183:=Tryz.sizeOf316
 v183:=Tryz.zeroValue316
 t218:=underlying344
 a218:=Tryz.isAgg344
 z218:=Tryz.sizeOf344
 v218:=Tryz.zeroValue344
 t222:=underlying348
 a222:=Tryz.isAgg348
 z222:=Tryz.sizeOf348
 v222:=Tryz.zeroValue348
 t228:=underlying356
 a228:=Tryz.isAgg356
 z228:=Tryz.sizeOf356
 v228:=Tryz.zeroValue356
 t229:=underlying297
 a229:=Tryz.isAgg297
 z229:=Tryz.sizeOf297
 v229:=Tryz.zeroValue297
def rT{A:Nat->Prop}{w:World}{l:aa Int}{us:aa Value}(h1:zR us=zR l*1)(h2:∀i,i<zR l->bP A w (uni.cells 3 l[i]!) ((us.drop (i*1)).take 1)):us=l.map (Value.int .i64):=by
 apply xY (by simpa using h1);intro i q1 q2;simp at q2;obtain⟨g1,g2⟩:=h2 i q2;have e:((us.drop (i*1)).take 1)[0]? =V us[i]:=by
  rw[wu aq,yE];simp[q1]
 have g3:=g2 0 (.lit (.int .i64 l[i]!)) us[i] rfl e;rw[g3.cL,yL,getElem!_pos l i q2]
def am2{A:Nat->Prop}{w:World}{l:aa Int}:∀i,i<zR l->bP A w (uni.cells 3 l[i]!) (((l.map (Value.int .i64)).drop (i*1)).take 1):=λi hi=>by
 have e:((l.map (Value.int .i64)).drop (i*1)).take 1=[Value.int .i64 l[i]!]:=by
  rw[xC,yN (by simpa using hi),vi,wj,yL,getElem!_pos l i hi]
 rw[e];refine⟨rfl,λj a v q1 q2=> ?_⟩;cases j with
 |zero=>cases q1;cases q2;exact .lit _
 |succ j=>cases q1
def aqm(l b:aa Int)(hb:RH l=V b):Mm vn 237 [.own 0] [(0, .row 3 l)] 1 (fG vn 237 1 (d237.pat b)):=by
 unfold RH at hb;split at hb
 case isFalse=>cases hb
 rename_i hlen;have hbl:b=l.mergeSort λx y=>J (x<=y):=(zF.inj hb).symm;have hln:zR b=zR l:=by rw[hbl,List.length_mergeSort]
 intro ρ;have ho:fG vn 237 1 (d237.pat b)=⟨.jc [],[(0, .row 3 b)],1⟩:=aV;show Go.Iv.Fn vn 237 [(b9.own 0).sub ρ] (bt.res ρ [(0, .row 3 l)]) _;rw[ho,dy];intro w A vs hr hd hn;obtain⟨hr1,hr2⟩:=hr;obtain⟨v,rfl⟩:∃v,vs=[v]:=List.length_eq_one_iff.1 hr1;have hv:v=ρ.v 0:=(hr2 0 _ v rfl rfl).cL;subst hv;generalize hv:ρ.v 0=v at*;have hok:=hd.1 (.row v 3 l) (by show _∈[cn.row (ρ.v 0) 3 l];rw[hv];exact zq.2 rfl);obtain⟨us,h1,h2,h3⟩:=hok;have hσ:bt.res ρ [(0, .row 3 l)]=[cn.row v 3 l]:=by show [cn.row (ρ.v 0) 3 l]=_;rw[hv]
 have hus:us=l.map (Value.int .i64):=rT h1.1 h3;rw[hσ]at hd hn ⊢;have fin:∀w':World,gq w' v 3 1 b.length (b.map (Value.int .i64))->Kp (bD [cn.row v 3 l]) w w'->∃v_1 av σ',Ending.returned (Value.tuple #[])=Ending.returned v_1/\
   (∃ρ',pU 1 ρ ρ'/\av=(b9.jc (dg:=uni.dg) []).sub ρ'/\List.Perm σ' (bt.res ρ' [(0, .row 3 b)]))/\Tr ⟨w,A,bD [cn.row v 3 l]⟩ (bD [cn.row v 3 l]) [cn.row v 3 l] w σ' w'/\Rel (al ⟨w,A,bD [cn.row v 3 l]⟩ σ') w' av v_1:=λw' hrow hk=>by
  have hbk:bD [cn.row v 3 b]=bD [cn.row v 3 l]:=rfl;have hal:∀x,al ⟨w,A,bD [cn.row v 3 l]⟩ [cn.row v 3 l] x->al ⟨w,A,bD [cn.row v 3 l]⟩ [cn.row v 3 b] x:=λx h=>h;refine⟨_, .jc [],[cn.row v 3 b],rfl,⟨ρ,λi _=>⟨rfl,rfl⟩,by simp only[b9.sub,yT],by show List.Perm _ [cn.row (ρ.v 0) 3 b];rw[hv]⟩,⟨⟨hk,?_,?_,?_⟩,hk,λx _ h=>⟨hal x h,h.2⟩⟩,Rel.jc [] [] rfl (λj a v q=>by cases q)⟩
  ·intro r hr;rw[zq.1 hr];exact⟨b.map (Value.int .i64),hrow,λi _=>rfl,am2⟩
  ·rw[hbk];exact hn
  ·intro x hx;exact .inl hx
 obtain⟨h1l,hcase⟩:=h1;rcases hcase with ⟨p,hvp,hl0⟩|⟨gb,cap,cur,hvp,hg,q1,q2,q3,q4⟩
 ·have hl:l=[]:=xw.1 hl0;have hbn:b=[]:=by rw[hbl,hl,List.mergeSort_nil]
  subst hvp;refine(Go.Proofs.Any.slices_Sort_int_none Srt p 0 w).mono λe w' he=> ?_;obtain⟨rfl,rfl⟩:=he;refine fin w' ?_ (Kp.refl _ _);rw[hbn];exact⟨rfl, .inl ⟨p,rfl,rfl⟩⟩
 ·subst hvp;have hgs:gb<w.heap.size:=(xd.1 hg).1;have q4:cur.toList.take (zR l*1)=us:=q4;have q3:cur.size=(cap+1)*1:=q3;rw[xC]at q4;have q1:zR l<=cap+1:=q1;have hbc:zR b<=cap+1:=by rw[hln];exact q1
  have hH:=holds_of_blockI (ss:=l) hg (by rw[q4,hus]);refine(Go.Proofs.Any.slices_Sort_int Srt gb 0 (cap+1) l w hH hgs aq).mono λe w' he=> ?_;obtain⟨rfl,n,os,rfl⟩:=he;rw[<-hbl];obtain⟨k1,k2,k3,k4,k5⟩:=grownBy_sortedI (w:=w) (g:=gb) (n:=n) (os:=os) b.toArray;refine fin _ ?_ ⟨k1,k2,k3,Nat.le_add_right _ _,k4,λk hk hX=>k5 k hk (λh=>hX ?_)⟩
  ·refine⟨by simp, .inr ⟨gb,cap,_,by rw[hln];rfl,heap_sortedI _ hg,hbc,q2,by simp[Go.Sort.putCells,q3],?_⟩⟩;rw[xC];exact take_putCellsI cur b (by rw[q3,xC];exact hbc)
  ·cases h;exact bS.2 ⟨_,zq.2 rfl,rfl⟩
def azz:apO:=λg b hb=>aqm g.2.1 b hb
abbrev E35:=aa Int
def d35:Td 0 E35:= .c [] [2] (.t (bX.s 2 [] 3) (.c [] [2] (.r 0 1 (ec 2 (qo 0) en) (sr 0 3 sn) (λz=>z.2.1) (λx=>(((),()),(x,()))))))
def A35:=(lc (ql 3) ln)
def W3(a0:aa Int):af E35:=if zR a0<=1073741824 then V a0 else I
def avI:eX vn di 0 300 35 .no:=b6 (l:=[]) func35 (bN aV) aV aH
def aFI(x:Int)(xs:aa Int):bU vn di 300 .no 35 [.sl 3 (x::xs)] [] 0 d35.rd=if([]++(x::xs)).length<=1073741824 then V ([]++(x::xs))else I:=aV
def aGw(c:Nat):bU vn di 300 .no 35 [.lit (.slice I 0 c)] [] 0 d35.rd=V []:=aV
def aGy(a:Addr)(c:Nat):bU vn di 300 .no 35 [.lit (.slice (V a) 0 c)] [] 0 d35.rd=V []:=aV
def h35:HL vn 35 A35 d35 (λg=>W3 g.1):=λg r h=>by
 obtain⟨a0,_⟩:=g;have h:W3 a0=V r:=h;cases a0 with
 |cons x xs=>exact(jT (out:=λp=>fG vn 35 0 (d35.pat p)) (p:=r) aP avI d35.ok (λp=>aV) (iK aV) (iA aV) ((aFI x xs).trans (by rw[yz];exact h))).2
 |nil=>
  cases h;exact Jc (λc=>(jT (out:=λp=>fG vn 35 0 (d35.pat p)) (p:=[]) aP avI d35.ok (λp=>aV) (iK aV) (iA aV) (aGw c)).2) (λa c=>(jT (out:=λp=>fG vn 35 0 (d35.pat p)) (p:=[]) aP avI d35.ok (λp=>aV) (iK aV) (iA aV) (aGy a c)).2)
def e35:=eL vn 35 G A35 d35 (λg=>W3 g.1)
def tL{F:bu}(h:bz vn F):bz vn (e35 F):=ep (sc:=pF) dh h35 ⟨_,func35,aV,aV⟩ (λ_=>aV) (λ_=>aV) h
structure oD where
 t21:List Int
 (t22 t23:Int)
 (b0 b1 b2:aL)
def Qs:Td 0 oD:= .c [] [2,4,7,21,22,23] (.r 0 4 (ec 2 (qp 0 0) (ec 4 (qp 1 0) (ec 7 (qp 2 0) (ec 21 (qo 3) (ec 22 aN (ec 23 aN en)))))) (sb 0 34 (lg 34) (sb 1 34 (lg 34) (sb 2 34 (lg 34) (sr 3 3 sn)))) (λz=>⟨z.q.1,z.1.q.1,z.1.q.2.1,z.2.1,z.t.1,z.t.2.1⟩) (λx=>(((),(),(),(),x.t22,x.t23,()),(x.b0,x.b1,x.b2,x.t21,()))))
def Bc(p:oD):af (af oD):=
 bif J (p.t23<p.t22)then if 0<=p.t23/\p.t23<zR p.t21 then if 3=3/\zD p.t23<zR p.t21 then bif bif jh p.t21[zD p.t23]! then G else O then V (I)else match C0 p.b0 p.t21[zD p.t23]! with|I=>I|V r1=>bif bif fu r1.fst then G else O then match mG p.b2 (iz p.t21[zD p.t23]!)with|I=>I|V r2=>V (V (oD.mk p.t21 p.t22 (ak (p.t23+1)) r1.snd p.b1 r2))else V (V (oD.mk p.t21 p.t22 (ak (p.t23+1)) r1.snd p.b1 p.b2))else I else I else V (I)
def Ld:=bJ (Bc)
abbrev aBI:=aL×Int
def d161:Td 0 aBI:= .c [] [4,5] (.r 0 1 (ec 4 (qp 0 0) (ec 5 aN en)) (sb 0 34 (lg 34) sn) (λz=>(z.2.1,z.1.2.1)) (λx=>(((),x.2,()),(x.1,()))))
def PM(a0:aL)(a1:aa Int):af aBI:=
 match uf a0 with|I=>I|V r3=>bif bif r3 then G else O then V (aL.mk 0 0 0,1)else match W3 a1 with|I=>I|V r4=>match RH r4 with|I=>I|V r5=>match Ld (oD.mk r5 (↑(zR r5):Int) 0 a0 (aL.mk 0 0 0) jA)with|I=>I|V r6=>bif J (r6.t23<r6.t22)then if 0<=r6.t23/\r6.t23<zR r6.t21 then if 3=3/\zD r6.t23<zR r6.t21 then bif bif jh r6.t21[zD r6.t23]! then G else O then V (aL.mk 0 0 0,3)else match C0 r6.b0 r6.t21[zD r6.t23]! with|I=>I|V r7=>bif bif fu r7.fst then G else O then match mG r6.b2 (iz r6.t21[zD r6.t23]!)with|I=>I|V r8=>I else I else I else I else match mG r6.b2 r6.b0 with|I=>I|V r9=>V (r9,0)
def aA2:=eL vn 161 G (lc (qg 34) (lc (ql 3) ln)) d161 (λg=>PM g.1 g.2.1)
def ahk:EO aA2:=λh=>kL (an:=(noTwo (noTwo (noTwo (noTwo (noTwo (.two (noTwo (Qs.lp Ld .no)) .no))))))) (l:=[(aY f161 0,(Qs.lp Ld .no))]) func161 (aaE azz (j4 (sB (rQ (jo (Jf (Ac (lC (tL aP))))))))) (aA (aO Qs) aH) h
def N6{l:aa Int}(h:gI l=O):∀{i j:Nat},i<j->j<zR l->l[i]! <l[j]! :=by
 intro i j hij hj;induction j with
 |zero=>omega
 |succ j ih=>
  have h1:=(jM l).1 h j hj;by_cases hi:i=j
  ·subst hi;exact h1
  ·have:=ih aq aq;omega
def Pq{l:aa Int}(h:gI l=O):l.mergeSort (λx y=>J (x<=y))=l:=by
 apply List.mergeSort_of_pairwise;rw[List.pairwise_iff_getElem];intro i j hi hj hij;have:=N6 h hij hj;rw[getElem!_pos l i hi,getElem!_pos l j hj]at this;simp;omega
def GK:aa Int->Int->Int
 |[],x=>x
 |b::l,x=>if x<=b then b else GK l x
def oM(l:aa Int)(b x:Int):GK (l++[b]) x=if(∃c∈l,x<=c)then GK l x else if x<=b then b else x:=by
 induction l with
 |nil=>simp[GK]
 |cons c l ih=>
  show (if x<=c then c else GK (l++[b]) x)=_;by_cases h:x<=c
  ·rw[bI h,bI ⟨c,zk ..,h⟩];show c=if x<=c then c else GK l x
   rw[bI h]
  ·rw[bO h,ih];show _=if _ then(if x<=c then c else GK l x)else _
   rw[bO h];by_cases k:∃c∈l,x<=c
   ·obtain⟨d,hd,hx⟩:=k;rw[bI ⟨d,hd,hx⟩,bI ⟨d,zJ _ hd,hx⟩]
   ·rw[bO k,bO (show ¬∃d∈c::l,x<=d from λ⟨d,hd,hx⟩=>by
     rcases zy.mp hd with rfl|hd
     ·exact h hx
     ·exact k ⟨d,hd,hx⟩)]
def amf{l:aa Int}{x:Int}(h:∃c∈l,x<=c):GK l x∈l:=by
 induction l with
 |nil=>obtain⟨c,hc,_⟩:=h;cases hc
 |cons c l ih=>
  show (if x<=c then c else GK l x)∈_;by_cases k:x<=c
  ·rw[bI k];exact zk ..
  ·rw[bO k];obtain⟨d,hd,hx⟩:=h;rcases zy.mp hd with rfl|hd
   ·exact ei hx k
   ·exact zJ _ (ih ⟨d,hd,hx⟩)
def IM{l:aa Int}{x:Int}(h:¬∃c∈l,x<=c):GK l x=x:=by
 induction l with
 |nil=>rfl
 |cons c l ih=>
  show (if x<=c then c else GK l x)=_;rw[bO (λk=>h ⟨c,zk ..,k⟩),ih (λ⟨d,hd,hx⟩=>h ⟨d,zJ _ hd,hx⟩)]
def u7(a:aL)(l:aa Int)(y:Int):Prop:=∃x,bT a x/\y=GK l x
def Zd{a:aL}(h:NV a){l:aa Int}(hl:∀b∈l,cC b){y:Int}(k:u7 a l y):cC y:=by
 obtain⟨x,hx,rfl⟩:=k;by_cases c:∃c∈l,x<=c
 ·exact hl _ (amf c)
 ·rw[IM c];exact YX h hx
structure Ol (a:aL) (l:List Int) (i:Nat) (s:aL×aL):Prop where
 rest:Ex (λx=>bT a x/\∀b∈l.take i,b<x) s.1
 out:mV (λy=>∃x,bT a x/\(∃b∈l.take i,x<=b)/\y=GK (l.take i) x) s.2
 v:NV s.2
def Ol.step{a:aL}{l:aa Int}{i:Nat}{s:aL×aL}(hi:i<zR l)(hl:∀b∈l,cC b)(h:Ol a l i s):
  ∃u r,C0 s.1 l[i]! =V (u,r)/\NV u/\(fu u=O->Ol a l (i+1) (r,s.2))/\(fu u=G->Ol a l (i+1) (r,cG s.2 (eC l[i]!))):=by
 obtain⟨u,r,e,p1,p2⟩:=Ai h.rest.1 l[i]!;have hb:=hl _ (bq hi);have mu:∀x,bT u x↔bT a x/\(∀b∈l.take i,b<x)/\x<=l[i]! :=λx=>
  ⟨λk=>let ⟨k1,k2⟩:=(p1.2 x).mp k;let ⟨k3,k4⟩:=(h.rest.2 x).mp k1;⟨k3,k4,k2⟩,λ⟨k1,k2,k3⟩=>(p1.2 x).mpr ⟨(h.rest.2 x).mpr ⟨k1,k2⟩,k3⟩⟩
 have tk:l.take (i+1)=l.take i++[l[i]!]:=bC hi;have mr:Ex (λx=>bT a x/\∀b∈l.take (i+1),b<x) r:=⟨p2.1,λx=>by
  rw[tk];constructor
  ·intro k;obtain⟨k1,k2⟩:=(p2.2 x).mp k;obtain⟨k3,k4⟩:=(h.rest.2 x).mp k1;refine⟨k3,λb hb=> ?_⟩;rcases zP.mp hb with hb|hb
   ·exact k4 b hb
   ·rw[zq.mp hb];exact k2
  ·rintro⟨k1,k2⟩;exact(p2.2 x).mpr ⟨(h.rest.2 x).mpr ⟨k1,λb hb=>k2 b (yH _ hb)⟩,k2 _ (yI _ (zq.mpr rfl))⟩⟩
 have eq:∀y,((∃x,bT a x/\(∃b∈l.take i,x<=b)/\y=GK (l.take i) x)\/(y=l[i]!/\∃x,bT u x))↔(∃x,bT a x/\(∃b∈l.take (i+1),x<=b)/\y=GK (l.take (i+1)) x):=λy=>by
  rw[tk];constructor
  ·rintro(⟨x,k1,⟨b,hb,k2⟩,rfl⟩|⟨rfl,x,hx⟩)
   ·exact⟨x,k1,⟨b,yH _ hb,k2⟩,by rw[oM,bI ⟨b,hb,k2⟩]⟩
   ·obtain⟨k1,k2,k3⟩:=(mu x).mp hx;exact⟨x,k1,⟨_,yI _ (zq.mpr rfl),k3⟩,by rw[oM,bO (λ⟨b,hb,k⟩=>by have:=k2 b hb;omega),bI k3]⟩
  ·rintro⟨x,k1,⟨b,hb,k2⟩,rfl⟩;by_cases c:∃b∈l.take i,x<=b
   ·exact .inl ⟨x,k1,c,by rw[oM,bI c]⟩
   ·have k3:x<=l[i]! :=by
     rcases zP.mp hb with hb|hb
     ·exact ei ⟨b,hb,k2⟩ c
     ·rw[<-zq.mp hb];exact k2
    refine .inr ⟨by rw[oM,bO c,bI k3],x,(mu x).mpr ⟨k1,λb hb=> ?_,k3⟩⟩;rcases Int.lt_or_le b x with q|q
    ·exact q
    ·exact ei ⟨b,hb,q⟩ c
 obtain⟨t1,t2⟩:=ob h.out h.v hb (Ex.rep (P:=bT u) ⟨p1.1,λx=>Iff.rfl⟩) p1.1;refine⟨u,r,e,p1.1,λk=>⟨mr,(t1 k).congr eq,h.v⟩,λk=>⟨mr,(t2 k).congr eq,fe h.v (rH hb)⟩⟩
def aqL{l:aa Int}(h:zR l<=1073741824):W3 l=V l:=by unfold W3;rw[bI h]
def afc{a:aL}(h:NV a){l:aa Int}(hr:gI l=O)(hn:zR l<=1000000)(hl:∀b∈l,cC b):∃c,PM a l=V (c,0)/\mV (u7 a l) c:=by
 unfold PM;rw[eW,dZ h];simp only[cT];rw[aqL aq];simp only;rw[show RH l=V l from by unfold RH;rw[gW,Pq hr]];simp only;obtain⟨⟨r,o⟩,e1,hI⟩:=cH (rnd:=Bc) l.length (λi (s:aL×aL)=>oD.mk l l.length (i:Nat) s.1 (aL.mk 0 0 0) s.2) (Ol a l)
  (λi s hi hI=>by
   obtain⟨u,r,e,vu,q1,q2⟩:=hI.step hi hl;have hb:=hl _ (bq hi);have hbb:jh l[i]! =O:=by rw[kj];exact bZ hb
   unfold Bc;simp only;rw[oo,cI,gW,zi,bI ⟨trivial,hi⟩,hbb];simp only[cT];rw[e];simp only;rw[jJ hi hn];cases c:fu u with
   |true=>exact⟨(r,s.2),rfl,q1 c⟩
   |false=>
    simp only[cT];rw[ki hI.v (.inr (show NN (iz l[i]!)from NN.one hb.1 hb.2))];exact⟨(r,cG s.2 (eC l[i]!)),rfl,q2 c⟩)
  (λs hI=>by
   unfold Bc;simp only;rw[fK];rfl) (b:=(a,cM)) ⟨⟨h,λx=>⟨λk=>⟨k,λb hb=>by simp at hb⟩,λk=>k.1⟩⟩, .none λx ⟨_,_,⟨b,hb,_⟩,_⟩=>by simp at hb, .inl rfl⟩
 have e1:bJ Bc (oD.mk l l.length 0 a (aL.mk 0 0 0) jA)=V (oD.mk l l.length (zR l:Nat) r (aL.mk 0 0 0) o):=e1;rw[show Ld=bJ Bc from rfl,e1];simp only;rw[fK,cw,ki hI.v hI.rest.1];refine⟨_,rfl,(hI.out.join hI.rest.rep hI.v hI.rest.1).congr λy=> ?_⟩;rw[zG];constructor
 ·rintro(⟨x,k1,_,k3⟩|⟨k1,k2⟩)
  ·exact⟨x,k1,k3⟩
  ·exact⟨y,k1,(IM λ⟨b,hb,k⟩=>by have:=k2 b hb;omega).symm⟩
 ·rintro⟨x,k1,k2⟩;by_cases c:∃b∈l,x<=b
  ·exact .inl ⟨x,k1,c,k2⟩
  ·right;rw[IM c]at k2;subst k2;exact⟨k1,λb hb=>by
    rcases Int.lt_or_le b y with q|q
    ·exact q
    ·exact ei ⟨b,hb,q⟩ c⟩
structure kK where
 t1:List Int
 t9:Int
 t10:Bool
 t11:Int
 (b0 b1 b2:aL)
def TL:Td 0 kK:= .c [] [1,4,7,8,9,10,11] (.r 0 3 (ec 1 (ql 3) (ec 4 (qp 0 0) (ec 7 (qp 1 0) (ec 8 (qp 2 0) (ec 9 aN (ec 10 qb (ec 11 aN en))))))) (sb 0 34 (lg 34) (sb 1 34 (lg 34) (sb 2 34 (lg 34) sn))) (λz=>⟨z.1.1,z.1.q.1,z.1.q.2.1,z.1.q.t.1,z.2.1,z.t.1,z.t.2.1⟩) (λx=>((x.t1,(),(),(),x.t9,x.t10,x.t11,()),(x.b0,x.b1,x.b2,()))))
def LR(p:kK):af (af kK):=
 bif J (p.t11<zR p.t1)then if 0<=p.t11/\p.t11<zR p.t1 then bif J (((p.t1,(),(),(),p.t9,p.t10,p.t11,()),p.b0,p.b1,p.b2,()).snd.snd.snd.fst.ah<=((p.t1,(),(),(),p.t9,p.t10,p.t11,()),p.b0,p.b1,p.b2,()).fst.fst[((p.t1,(),(),(),p.t9,p.t10,p.t11,()),p.b0,p.b1,p.b2,()).fst.snd.snd.snd.snd.snd.snd.fst.toNat]!)then bif bif p.t10 then G else O then if 0<=p.t11/\p.t11<zR p.t1 then V (V (kK.mk p.t1 p.t1[zD p.t11]! O (ak (p.t11+1)) p.b0 p.b1 p.b2))else I else if 0<=p.t11/\p.t11<zR p.t1 then bif J (((p.t1,(),(),(),p.t9,p.t10,p.t11,()),p.b0,p.b1,p.b2,()).fst.fst[((p.t1,(),(),(),p.t9,p.t10,p.t11,()),p.b0,p.b1,p.b2,()).fst.snd.snd.snd.snd.snd.snd.fst.toNat]! <((p.t1,(),(),(),p.t9,p.t10,p.t11,()),p.b0,p.b1,p.b2,()).fst.snd.snd.snd.snd.fst)then if 0<=p.t11/\p.t11<zR p.t1 then V (V (kK.mk p.t1 p.t1[zD p.t11]! O (ak (p.t11+1)) p.b0 p.b1 p.b2))else I else V (V (kK.mk p.t1 p.t9 p.t10 (ak (p.t11+1)) p.b0 p.b1 p.b2))else I else V (V (kK.mk p.t1 p.t9 p.t10 (ak (p.t11+1)) p.b0 p.b1 p.b2))else I else V (I)
def Fm:=bJ (LR)
structure mT where
 t1:List Int
 (b0 b1 b2:aL)
def Sd:Td 0 mT:= .c [] [1,4,7,8] (.r 0 3 (ec 1 (ql 3) (ec 4 (qp 0 0) (ec 7 (qp 1 0) (ec 8 (qp 2 0) en)))) (sb 0 34 (lg 34) (sb 1 34 (lg 34) (sb 2 34 (lg 34) sn))) (λz=>⟨z.1.1,z.2.1,z.t.1,z.t.2.1⟩) (λx=>((x.t1,(),(),(),()),(x.b0,x.b1,x.b2,()))))
def tM(p:mT):af (af mT):=
 bif bif lR p.b2 then G else O then match Fm (kK.mk p.t1 0 G 0 p.b0 p.b1 p.b2)with|I=>I|V r1=>bif J (r1.t11<zR r1.t1)then if 0<=r1.t11/\r1.t11<zR r1.t1 then bif J (((r1.t1,(),(),(),r1.t9,r1.t10,r1.t11,()),r1.b0,r1.b1,r1.b2,()).snd.snd.snd.fst.ah<=((r1.t1,(),(),(),r1.t9,r1.t10,r1.t11,()),r1.b0,r1.b1,r1.b2,()).fst.fst[((r1.t1,(),(),(),r1.t9,r1.t10,r1.t11,()),r1.b0,r1.b1,r1.b2,()).fst.snd.snd.snd.snd.snd.snd.fst.toNat]!)then bif bif r1.t10 then G else O then if 0<=r1.t11/\r1.t11<zR r1.t1 then I else I else if 0<=r1.t11/\r1.t11<zR r1.t1 then bif J (((r1.t1,(),(),(),r1.t9,r1.t10,r1.t11,()),r1.b0,r1.b1,r1.b2,()).fst.fst[((r1.t1,(),(),(),r1.t9,r1.t10,r1.t11,()),r1.b0,r1.b1,r1.b2,()).fst.snd.snd.snd.snd.snd.snd.fst.toNat]! <((r1.t1,(),(),(),r1.t9,r1.t10,r1.t11,()),r1.b0,r1.b1,r1.b2,()).fst.snd.snd.snd.snd.fst)then if 0<=r1.t11/\r1.t11<zR r1.t1 then I else I else I else I else I else I else bif bif r1.t10 then G else O then match lE r1.b1 r1.b2 with|I=>I|V r2=>V (I)else match lE r1.b1 (aL.mk r1.t9 r1.t9 0)with|I=>I|V r3=>match ZM r1.b2 r1.t9 with|I=>I|V r4=>V (V (mT.mk r1.t1 r1.b0 r3 r4))else V (I)
def ab1:An:=(noTwo (noTwo (.two (noTwo (TL.lp Fm .no)) .no)))
def Kg:=bJ (tM)
structure qV where
 t1:List Int
 t6:Int
 (b0 b1:aL)
def RM:Td 0 qV:= .c [] [1,2,4,6] (.r 0 2 (ec 1 (ql 3) (ec 2 (qp 0 0) (ec 4 (qp 1 0) (ec 6 aN en)))) (sb 0 34 (lg 34) (sb 1 34 (lg 34) sn)) (λz=>⟨z.1.1,z.1.t.2.1,z.2.1,z.t.1⟩) (λx=>((x.t1,(),(),x.t6,()),(x.b0,x.b1,()))))
def AM(p:qV):af (af qV):=
 bif J (p.t6<zR p.t1)then if 0<=p.t6/\p.t6<zR p.t1 then bif bif oC p.t1[zD p.t6]! then G else O then V (I)else V (V (qV.mk p.t1 (ak (p.t6+1)) p.b0 p.b1))else I else V (I)
def IQ:=bJ (AM)
abbrev aAh:=aL×Int
def d172:Td 0 aAh:= .c [] [4,5] (.r 0 1 (ec 4 (qp 0 0) (ec 5 aN en)) (sb 0 34 (lg 34) sn) (λz=>(z.2.1,z.1.2.1)) (λx=>(((),x.2,()),(x.1,()))))
def PJ(a0:aL)(a1:aa Int):af aAh:=
 match ZN a0 with|I=>I|V r5=>bif bif r5 then G else O then V (aL.mk 0 0 0,1)else match IQ (qV.mk a1 0 a0 (aL.mk 0 0 0))with|I=>I|V r6=>bif J (r6.t6<zR r6.t1)then if 0<=r6.t6/\r6.t6<zR r6.t1 then bif bif oC r6.t1[zD r6.t6]! then G else O then V (aL.mk 0 0 0,3)else I else I else match Kg (mT.mk r6.t1 r6.b1 qM r6.b0)with|I=>I|V r7=>bif bif lR r7.b2 then G else O then match Fm (kK.mk r7.t1 0 G 0 r7.b0 r7.b1 r7.b2)with|I=>I|V r8=>bif J (r8.t11<zR r8.t1)then if 0<=r8.t11/\r8.t11<zR r8.t1 then bif J (((r8.t1,(),(),(),r8.t9,r8.t10,r8.t11,()),r8.b0,r8.b1,r8.b2,()).snd.snd.snd.fst.ah<=((r8.t1,(),(),(),r8.t9,r8.t10,r8.t11,()),r8.b0,r8.b1,r8.b2,()).fst.fst[((r8.t1,(),(),(),r8.t9,r8.t10,r8.t11,()),r8.b0,r8.b1,r8.b2,()).fst.snd.snd.snd.snd.snd.snd.fst.toNat]!)then bif bif r8.t10 then G else O then if 0<=r8.t11/\r8.t11<zR r8.t1 then I else I else if 0<=r8.t11/\r8.t11<zR r8.t1 then bif J (((r8.t1,(),(),(),r8.t9,r8.t10,r8.t11,()),r8.b0,r8.b1,r8.b2,()).fst.fst[((r8.t1,(),(),(),r8.t9,r8.t10,r8.t11,()),r8.b0,r8.b1,r8.b2,()).fst.snd.snd.snd.snd.snd.snd.fst.toNat]! <((r8.t1,(),(),(),r8.t9,r8.t10,r8.t11,()),r8.b0,r8.b1,r8.b2,()).fst.snd.snd.snd.snd.fst)then if 0<=r8.t11/\r8.t11<zR r8.t1 then I else I else I else I else I else I else bif bif r8.t10 then G else O then match lE r8.b1 r8.b2 with|I=>I|V r9=>V (r9,0)else match lE r8.b1 (aL.mk r8.t9 r8.t9 0)with|I=>I|V r10=>match ZM r8.b2 r8.t9 with|I=>I|V r11=>I else V (r7.b1,0)
def aAn:=eL vn 172 G (lc (qg 34) (lc (ql 3) ln)) d172 (λg=>PJ g.1 g.2.1)
def ahi:EO aAn:=λh=>kL (an:=(noTwo (noTwo (.two (noTwo (RM.lp IQ .no)) (noTwo (.two (Sd.lp Kg ab1) .no)))))) (l:=[(aY f172 0,(RM.lp IQ .no)),(aY f172 1,(Sd.lp Kg ab1)),(aY f172 2,(TL.lp Fm .no))]) func172 (sG (sI (lu (mK (tN (Sg aP)))))) (aA (aO RM) (aA (aO Sd) (aA (aO TL) aH))) h
def Vi{l:aa Int}(hr:gI l=O)(hn:zR l<=1000000)(b0 b1 c:aL):∃best found,Fm (kK.mk l 0 G 0 b0 b1 c)=V (kK.mk l best found l.length b0 b1 c)/\
  ((found=G/\∀j,j<zR l->l[j]! <c.ah)\/(found=O/\∃j,j<zR l/\best=l[j]!/\c.ah<=l[j]!/\∀k,k<j->l[k]! <c.ah)):=by
 obtain⟨⟨best,found⟩,e1,hI⟩:=cH (rnd:=LR) l.length (λi (s:Int×Bool)=>kK.mk l s.1 s.2 (i:Nat) b0 b1 c)
  (λi s=>(s.2=G/\∀j,j<i->l[j]! <c.ah)\/(s.2=O/\∃j,j<i/\s.1=l[j]!/\c.ah<=l[j]!/\∀k,k<j->l[k]! <c.ah))
  (λi s hi hI=>by
   have hci:(0:Int)<=(i:Int)/\(i:Int)<(zR l:Int):=aq;unfold LR;simp only;rw[bZ hci.2,cI,bI hci,zi,jJ hi hn];by_cases h1:c.ah<=l[i]!
   ·rw[bZ h1,cI];rcases hI with ⟨h2,h3⟩|⟨h2,j,h3,h4,h5,h6⟩
    ·rw[h2];simp only[cT];rw[bI hci];exact⟨(l[i]!,O),rfl, .inr ⟨rfl,i,aq,rfl,h1,h3⟩⟩
    ·rw[h2];simp only[cT];have hlt:l[j]! <l[i]! :=N6 hr h3 hi;rw[bI hci,bY (show ¬l[i]! <s.1 by omega),cw];exact⟨(s.1,O),rfl, .inr ⟨rfl,j,aq,h4,h5,h6⟩⟩
   ·rw[bY h1,cw];refine⟨s,rfl,?_⟩;rcases hI with ⟨h2,h3⟩|⟨h2,j,h3,h4⟩
    ·refine .inl ⟨h2,λj hj=> ?_⟩;rcases xo.mp hj with k|rfl
     ·exact h3 j k
     ·omega
    ·exact .inr ⟨h2,j,aq,h4⟩)
  (λs hI=>by
   unfold LR;simp only;rw[fK];rfl) (b:=((0:Int),G)) (.inl ⟨rfl,λj hj=>ei hj (y9 _)⟩)
 exact⟨best,found,e1,hI⟩
def Zi{l:aa Int}{j:Nat}{x:Int}(hj:j<zR l)(h1:∀k,k<j->l[k]! <x)(h2:x<=l[j]!):GK l x=l[j]! :=by
 induction l generalizing j with
 |nil=>exact ei hj (y9 _)
 |cons b l ih=>
  cases j with
  |zero=>exact bI h2
  |succ j=>
   have h0:b<x:=h1 0 aq;show (if x<=b then b else GK l x)=_;rw[AS];exact ih (j:=j) (by simpa using hj) (λk hk=>h1 (k+1) aq) h2
def get_of_mem{l:aa Int}{b:Int}(h:b∈l):∃j,j<zR l/\l[j]! =b:=by
 obtain⟨j,hj,rfl⟩:=yU h;exact⟨j,hj,getElem!_pos l j hj⟩
def aew{a:aL}(h:NV a){l:aa Int}(hr:gI l=O)(hn:zR l<=1000000)(hl:∀b∈l,cC b):∃c,PJ a l=V (c,0)/\mV (u7 a l) c:=by
 unfold PJ;rw[gj,dZ h];simp only[cT];have e0:bJ AM (qV.mk l 0 a (aL.mk 0 0 0))=V (qV.mk l (zR l:Nat) a (aL.mk 0 0 0)):=P8 (rnd:=AM) (λi=>qV.mk l (i:Nat) a (aL.mk 0 0 0)) l.length (λi hi=>by
  unfold AM;simp only;rw[oo,cI,gW,zi,EG,bZ (hl _ (bq hi)),jJ hi hn];rfl) (λr=>by
  unfold AM;simp only;rw[fK];intro h;cases h)
 rw[show IQ=bJ AM from rfl,e0];simp only;rw[fK,cw];obtain⟨z,e1,⟨o,r,T,rfl,hr1,ho,vo⟩,hs⟩:=mh (rnd:=tM) (λp=>∃o r T,p=mT.mk l (aL.mk 0 0 0) o r/\Ex (λx=>bT a x/\T<x) r/\mV (λy=>∃x,bT a x/\x<=T/\y=GK l x) o/\NV o)
  (λp=>if lR p.b2=O then 0 else(1099511627777-p.b2.ah).toNat) (λp p' ⟨o,r,T,hp,h1,h2,h3⟩ hq=>by
  subst hp;have hq:tM (mT.mk l (aL.mk 0 0 0) o r)=V (V p'):=hq;unfold tM at hq;simp only at hq;rcases h1.1 with rfl|vr
  ·rw[tU]at hq;cases hq
  ·rw[gZ vr]at hq;simp only[cT]at hq;obtain⟨best,found,e2,h4⟩:=Vi hr hn (aL.mk 0 0 0) o r;rw[e2]at hq;simp only at hq;rw[fK,cw]at hq;rcases h4 with ⟨rfl,h4⟩|⟨rfl,j,hj,rfl,h5,h6⟩
   ·simp only[cT]at hq;rw[gB h3 h1.1]at hq;cases hq
   ·simp only[cT]at hq;have hb:=hl _ (bq hj);obtain⟨u,f1,s1⟩:=Bl h1.1 l[j]!;rw[gB h3 (.inr (show NN (aL.mk l[j]! l[j]! 0)from NN.one hb.1 hb.2)),f1]at hq;simp only[zF.injEq]at hq;subst hq;have lo1:=(h1.2 r.ah).mp ⟨zw _,vr.le,⟨0,aq⟩⟩;refine⟨⟨_,_,l[j]!,rfl,⟨s1.1,λx=> ?_⟩,?_,fe h3 (rH hb)⟩,?_⟩
    ·constructor
     ·intro k;obtain⟨k1,k2⟩:=(s1.2 x).mp k;exact⟨((h1.2 x).mp k1).1,k2⟩
     ·rintro⟨k1,k2⟩;exact(s1.2 x).mpr ⟨(h1.2 x).mpr ⟨k1,aq⟩,k2⟩
    ·refine(h2.join (Ka l[j]!) h3 (rH hb)).congr λy=> ?_;have mid:∀x,bT a x->T<x->x<=l[j]!->GK l x=l[j]! :=λx k1 k2 k3=>by
      have k4:=(h1.2 x).mpr ⟨k1,k2⟩;have:=k4.1;exact Zi hj (λk hk=>by have:=h6 k hk;omega) k3
     constructor
     ·rintro(⟨x,k1,k2,k3⟩|rfl)
      ·exact⟨x,k1,aq,k3⟩
      ·exact⟨r.ah,lo1.1,h5,(mid _ lo1.1 lo1.2 h5).symm⟩
     ·rintro⟨x,k1,k2,rfl⟩;by_cases c:x<=T
      ·exact .inl ⟨x,k1,c,rfl⟩
      ·exact .inr (mid x k1 aq k2)
    ·show (if lR u=O then 0 else(1099511627777-u.ah).toNat)<(if lR r=O then 0 else(1099511627777-r.ah).toNat);rw[bO (show ¬lR r=O by rw[gZ vr];decide)];have:=vr.le;have:=vr.hi;rcases s1.1 with rfl|vu
     ·rw[bI tU];omega
     ·rw[bO (show ¬lR u=O by rw[gZ vu];decide)];have:=(s1.2 u.ah).mp ⟨zw _,vu.le,⟨0,aq⟩⟩;have:=this.2;omega) ⟨cM,a,a.ah-1,rfl,⟨h,λx=>⟨λk=>⟨k,by have:=k.1;omega⟩,λk=>k.1⟩⟩, .none λy ⟨x,k1,k2,_⟩=>by have:=k1.1;omega, .inl rfl⟩
 rw[show Kg=bJ tM from rfl,show mT.mk l (aL.mk 0 0 0) qM a=mT.mk l (aL.mk 0 0 0) cM a from rfl,e1];simp only;rcases hr1.1 with rfl|vr
 ·rw[tU];refine⟨o,rfl,ho.congr λy=>⟨λ⟨x,k1,_,k3⟩=>⟨x,k1,k3⟩,λ⟨x,k1,k3⟩=>⟨x,k1,?_,k3⟩⟩⟩;rcases Int.lt_or_le T x with q|q
  ·exact ei ((hr1.2 x).mpr ⟨k1,q⟩) CP
  ·exact q
 ·rw[gZ vr];simp only[cT];obtain⟨best,found,e2,h4⟩:=Vi hr hn (aL.mk 0 0 0) o r;rw[e2];simp only;rw[fK,cw];rcases h4 with ⟨rfl,h4⟩|⟨rfl,j,hj,rfl,h5,h6⟩
  ·simp only[cT];rw[gB vo hr1.1];refine⟨_,rfl,(ho.join hr1.rep vo hr1.1).congr λy=> ?_⟩;have big:∀x,bT a x->T<x->GK l x=x:=λx k1 k2=>IM λ⟨b,hb,k3⟩=>by
    obtain⟨j,hj,rfl⟩:=get_of_mem hb;have:=((hr1.2 x).mpr ⟨k1,k2⟩).1;have:=h4 j hj;omega
   constructor
   ·rintro(⟨x,k1,_,k3⟩|⟨k1,k2⟩)
    ·exact⟨x,k1,k3⟩
    ·exact⟨y,k1,(big y k1 k2).symm⟩
   ·rintro⟨x,k1,k3⟩;by_cases c:x<=T
    ·exact .inl ⟨x,k1,c,k3⟩
    ·right;rw[big x k1 aq]at k3;subst k3;exact⟨k1,aq⟩
  ·exfalso;have hb:=hl _ (bq hj);obtain⟨u,f1,s1⟩:=Bl hr1.1 l[j]!;refine hs _ (show tM _=V (V (mT.mk l (aL.mk 0 0 0) (cG o (aL.mk l[j]! l[j]! 0)) u))from ?_);unfold tM;simp only;rw[gZ vr];simp only[cT];rw[e2];simp only;rw[fK,cw];simp only[cT];rw[gB vo (.inr (show NN (aL.mk l[j]! l[j]! 0)from NN.one hb.1 hb.2)),f1]
def Nb{a:aL}(h:NV a){l:aa Int}(hr:gI l=O)(hn:zR l<=1000000)(hl:∀b∈l,cC b):∃c,PM a l=V (c,0)/\PJ a l=V (c,0)/\mV (u7 a l) c/\NV c:=by
 obtain⟨c,e1,r1⟩:=afc h hr hn hl;obtain⟨d,e2,r2⟩:=aew h hr hn hl;rw[<-r1.uniq r2]at e2;exact⟨c,e1,e2,r1,r1.valid λy hy=>Zd h hl hy⟩
def dz.ne{P:Int->Prop}{c:aL}(h:dz P c):c≠cM:=λe=>by
 have h1:=h.all _ h.lo;rw[e]at h1;have h2:(1:Int)<=0:=xV h1.1 h1.2.1;omega
def NV.nn{c:aL}(h:NV c)(k:c≠cM):NN c:=h.elim (λe=>ei e k) id
def mV.nn{P:Int->Prop}{c:aL}(h:mV P c)(v:NV c){x:Int}(hx:P x):NN c:=by
 rcases h with ⟨_,h⟩|h
 ·exact ei hx (h x)
 ·exact v.nn h.ne
def RZ:NN (aL.mk 0 0 0):=NN.one (x:=0) aq aq
def IE{a b:Bool}(h:(a||b)=true):NN (iY a b):=(vz a b).nn (by cases a<;>cases b<;>first|(cases h;done)|(intro e;cases e))
def HR(op:Int){a:aL}(h:NN a):NN (pX op a).1:=by
 unfold pX;split
 ·exact RZ
 rw[bO h.ne];split
 ·exact IE (zero_or h)
 ·exact aic h
def af1{op:Int}{a b:aL}(ha:NN a)(hb:NN b):∃r,oI op a b=V r/\NN r.1:=by
 by_cases ho:binop op
 ·have r1:=ha.tu;have r2:=ha.Cn;have r3:=hb.tu;have r4:=hb.Cn;by_cases hs:cnt a*cnt b<=4096
  ·rw[oO ho ha hb hs];rcases Dl ho ha hb aq with ⟨h1,c,e,h2⟩|⟨_,e⟩
   ·exact⟨_,e,h2.valid h1⟩
   ·exact⟨_,e,RZ⟩
  have hbin:=ho;obtain⟨o1,o2⟩:=ho;rcases (show op=8\/op=9\/op=10\/op=11\/op=12\/op=21\/op=22\/(13<=op/\op<=20)by omega)with rfl|rfl|rfl|rfl|rfl|rfl|rfl|h
  ·rcases jP (op:=8) (.inl rfl) ha hb (λQ h=>M0 ha hb h) (λh=>(rM ha hb).mpr ⟨fU h (.inl rfl) (.inl rfl),fU h (.inr (.inr rfl)) (.inr (.inr rfl))⟩)with ⟨_,e,hv⟩|⟨_,e⟩
   ·exact⟨_,e,hv⟩
   ·exact⟨_,e,RZ⟩
  ·rcases jP (op:=9) (.inr (.inl rfl)) ha hb (λQ h=>MT ha hb h) (λh=>(rO ha hb).mpr ⟨fU h (.inl rfl) (.inr (.inr rfl)),fU h (.inr (.inr rfl)) (.inl rfl)⟩)with ⟨_,e,hv⟩|⟨_,e⟩
   ·exact⟨_,e,hv⟩
   ·exact⟨_,e,RZ⟩
  ·rcases jP (op:=10) (.inr (.inr rfl)) ha hb (λQ h=>PD ha hb h) (λh=>(jV ha hb).mpr ⟨fU h (.inl rfl) (.inl rfl),fU h (.inl rfl) (.inr (.inr rfl)),fU h (.inr (.inr rfl)) (.inl rfl),fU h (.inr (.inr rfl)) (.inr (.inr rfl))⟩)with ⟨_,e,hv⟩|⟨_,e⟩
   ·exact⟨_,e,hv⟩
   ·exact⟨_,e,RZ⟩
  all_goals rw[AB hbin ha hb hs];unfold aei
  ·obtain⟨a1,a2⟩:=r1;obtain⟨a3,a4⟩:=r2;simp only[cV,cT,Int.reduceEq];have hm:((max a.ah.natAbs a.ag.natAbs:Nat):Int)<=1099511627776:=aq;generalize max a.ah.natAbs a.ag.natAbs=m at*;rw[mJ ⟨aq,aq⟩ ⟨aq,aq⟩ aq,mJ ⟨aq,aq⟩ ⟨aq,aq⟩ aq];cases (J (0<=a.ah)&&J (0<=b.ah))with
   |true=>exact⟨(jI 0 (m:Int) 1,0),rfl,mO (lo:=0) (hi:=(m:Int)) (st:=1) aq aq aq aq⟩
   |false=>exact⟨(jI (-(m:Int)) (m:Int) 1,0),rfl,mO (lo:= -(m:Int)) (hi:=(m:Int)) (st:=1) aq aq aq aq⟩
  ·obtain⟨b1,b2⟩:=r3;obtain⟨b3,b4⟩:=r4;simp only[cV,cT,Int.reduceEq];have hp:(if b.ah<0 then b.ah+1 else 0)<=0/\ -1099511627776<=(if b.ah<0 then b.ah+1 else 0):=by split<;>omega
   have hq:0<=(if 0<b.ag then b.ag-1 else 0)/\(if 0<b.ag then b.ag-1 else 0)<=1099511627776:=by split<;>omega
   generalize (if b.ah<0 then b.ah+1 else 0)=p at*;generalize (if 0<b.ag then b.ag-1 else 0)=q at*;rw[mJ ⟨aq,aq⟩ ⟨aq,aq⟩ aq];exact⟨(jI p q 1,0),rfl,mO (lo:=p) (hi:=q) (st:=1) aq aq aq aq⟩
  ·simp only[cV,cT,Int.reduceEq];obtain⟨l',e2,h2⟩:=K7 (fe (.inr ha) (.inr hb)) (min a.ag b.ag);rw[e2];refine⟨_,rfl,h2.rep.nn h2.1 (x:=(cG a b).ah) ⟨?_,?_⟩⟩
   ·rw[gH ha hb];have:=(me ha hb).le;exact⟨aq,this,by rw[Int.sub_self];exact xK _⟩
   ·rw[gH ha hb];show min a.ah b.ah<=_;have:=ha.le;have:=hb.le;omega
  ·simp only[cV,cT,Int.reduceEq];obtain⟨l',e2,h2⟩:=Bl (fe (.inr ha) (.inr hb)) (max a.ah b.ah-1);rw[e2];refine⟨_,rfl,h2.rep.nn h2.1 (x:=(cG a b).ag) ⟨?_,?_⟩⟩
   ·rw[gH ha hb];have:=(me ha hb).le;exact⟨this,aq,(me ha hb).dvd⟩
   ·rw[gH ha hb];show _<max a.ag b.ag;have:=ha.le;have:=hb.le;omega
  ·rw[VS h ha hb];refine⟨(iY (vB op a b).1 (vB op a b).2,0),?_,IE (Rn h ha hb)⟩;rcases jg h with rfl|rfl|rfl|rfl|rfl|rfl|rfl|rfl<;>rfl
 ·refine⟨(aL.mk 0 0 0,1),?_,RZ⟩;unfold oI;rw[gj,gj,dZ (.inr ha),dZ (.inr hb),show GY op=CK op from rfl,j6,bY ho];rfl
def pO(op:Int)(a b:aL):aL:=match oI op a b with
 |none=>cM
 |some r=>r.1
def oN(op:Int){a b:aL}(ha:NN a)(hb:NN b):∃c,vK op a b=V (pO op a b,c)/\oI op a b=V (pO op a b,c)/\NN (pO op a b):=by
 obtain⟨r,e1,e2,_⟩:=OQ op (.inr ha) (.inr hb);obtain⟨r',e3,h⟩:=af1 (op:=op) ha hb;have:r'=r:=by rw[e2]at e3;cases e3;rfl
 subst this;unfold pO;rw[e2];exact⟨r'.2,e1,rfl,h⟩
def iZ(a:aL)(lo hi:Int):aL:=match m86 a lo hi with
 |none=>cM
 |some r=>r.1
def ij{a:aL}(ha:NN a)(lo hi:Int):∃c,m81 a lo hi=V (iZ a lo hi,c)/\m86 a lo hi=V (iZ a lo hi,c)/\NN (iZ a lo hi)/\(cC lo->cC hi->lo<=hi->mV (uy a lo hi) (iZ a lo hi)):=by
 rcases RF (.inr ha) lo hi with ⟨c,e1,e2,h,v,_⟩|⟨e1,e2,hn⟩
 ·unfold iZ;rw[e2];have:=ha.le;exact⟨0,e1,rfl,h.nn v (x:=max lo (min a.ah hi)) ⟨a.ah,⟨aq,this,by rw[Int.sub_self];exact xK _⟩,rfl⟩,λ_ _ _=>h⟩
 ·unfold iZ;rw[e2];exact⟨3,e1,rfl,RZ,λh1 h2 h3=>ei ⟨h1,h2,h3⟩ hn⟩
def rP(a:aL)(l:aa Int):aL:=match PJ a l with
 |none=>cM
 |some r=>r.1
def uv{a:aL}(ha:NN a){l:aa Int}(hr:gI l=O)(hn:zR l<=1000000)(hl:∀b∈l,cC b):PM a l=V (rP a l,0)/\PJ a l=V (rP a l,0)/\NN (rP a l)/\mV (u7 a l) (rP a l):=by
 obtain⟨c,e1,e2,h,v⟩:=Nb (.inr ha) hr hn hl;unfold rP;rw[e2];have:=ha.le;exact⟨e1,rfl,h.nn v (x:=GK l a.ah) ⟨a.ah,⟨aq,this,by rw[Int.sub_self];exact xK _⟩,rfl⟩,h⟩
def jU{a b:aL}(h:NN a)(k:NN b):NN (cG a b):=by rw[gH h k];exact me h k
structure Bb where
 t0:List bf
 t1:Int
 t5:List bf
 t6:Int
def RX:Td 0 Bb:= .c [] [0,1,5,6] (.r 0 1 (ec 0 (ql 131) (ec 1 aN (ec 5 (qo 0) (ec 6 aN en)))) (sr 0 131 sn) (λz=>⟨z.1.1,z.1.2.1,z.2.1,z.1.t.2.1⟩) (λx=>((x.t0,x.t1,(),x.t6,()),(x.t5,()))))
def Lb(p:Bb):af (af Bb):=
 bif J (p.t6<zR p.t0)then if 0<=p.t6/\p.t6<zR p.t0 then bif J (p.t0[zD p.t6]!.bB=p.t1)then if 0<=p.t6/\p.t6<zR p.t0 then if(p.t5++[p.t0[zD p.t6]!]).length<=1073741824 then V (V (Bb.mk p.t0 p.t1 (p.t5++[p.t0[zD p.t6]!]) (ak (p.t6+1))))else I else I else V (V (Bb.mk p.t0 p.t1 p.t5 (ak (p.t6+1))))else I else V (I)
def IF:=bJ (Lb)
abbrev aDr:=aa bf
def d173:Td 0 aDr:= .c [] [4] (.r 0 1 (ec 4 (qo 0) en) (sr 0 131 sn) (λz=>z.2.1) (λx=>(((),()),(x,()))))
def ajj(a0:aa bf)(a1:Int):af aDr:=
 match IF (Bb.mk a0 a1 [] (0))with|I=>I|V r1=>bif J (r1.t6<zR r1.t0)then if 0<=r1.t6/\r1.t6<zR r1.t0 then bif J (r1.t0[zD r1.t6]!.bB=r1.t1)then if 0<=r1.t6/\r1.t6<zR r1.t0 then if(r1.t5++[r1.t0[zD r1.t6]!]).length<=1073741824 then I else I else I else I else I else V (r1.t5)
def aAH:=eL vn 173 G (lc (ql 131) (aS ln)) d173 (λg=>ajj g.1 g.2.1)
def aj4:EO aAH:=λh=>kL (an:=(noTwo (noTwo (.two (noTwo (RX.lp IF .no)) .no)))) (l:=[(aY f173 0,(RX.lp IF .no))]) func173 aP (aA (aO RX) aH) h
def F89:bu:=(aAH di)
structure Nv where
 t6:List bf
 (t8 t9:Int)
def aeh:Td 0 Nv:= .c [] [6,8,9] (.r 0 1 (ec 6 (qo 0) (ec 8 aN (ec 9 aN en))) (sr 0 131 sn) (λz=>⟨z.2.1,z.1.2.1,z.1.t.1⟩) (λx=>(((),x.t8,x.t9,()),(x.t6,()))))
def P5(p:Nv):af (af Nv):=
 bif J (p.t9<zR p.t6)then if 0<=p.t9/\p.t9<zR p.t6 then if 131=131/\zD p.t9<zR p.t6 then if 0<=p.t9/\p.t9<zR p.t6 then if 131=131/\zD p.t9<zR p.t6 then bif J (4096<ak (p.t8*ak (ak (p.t6[zD p.t9]!.ag-p.t6[zD p.t9]!.ah)+1)))then V (I)else V (V (Nv.mk p.t6 (ak (p.t8*ak (ak (p.t6[zD p.t9]!.ag-p.t6[zD p.t9]!.ah)+1))) (ak (p.t9+1))))else I else I else I else I else V (I)
def V6:=bJ (P5)
structure OA where
 t6:List bf
 t7:Int
def adb:Td 0 OA:= .c [] [6,7] (.r 0 1 (ec 6 (qo 0) (ec 7 aN en)) (sr 0 131 sn) (λz=>⟨z.2.1,z.1.2.1⟩) (λx=>(((),x.t7,()),(x.t6,()))))
def WS(p:OA):af (af OA):=
 bif J (p.t7<zR p.t6)then if 0<=p.t7/\p.t7<zR p.t6 then if 131=131/\zD p.t7<zR p.t6 then if 0<=p.t7/\p.t7<zR p.t6 then if 131=131/\zD p.t7<zR p.t6 then bif J (p.t6[zD p.t7]!.ag<p.t6[zD p.t7]!.ah)then V (I)else if 0<=p.t7/\p.t7<zR p.t6 then if 131=131/\zD p.t7<zR p.t6 then bif J (p.t6[zD p.t7]!.ah< -1048576)then V (I)else if 0<=p.t7/\p.t7<zR p.t6 then if 131=131/\zD p.t7<zR p.t6 then bif J (1048576<p.t6[zD p.t7]!.ag)then V (I)else V (V (OA.mk p.t6 (ak (p.t7+1))))else I else I else I else I else I else I else I else I else V (I)
def Wm:=bJ (WS)
abbrev E89:=Int×Int
def d89:Td 0 E89:= .c [] [4,5] (.r 0 0 (ec 4 aN (ec 5 aN en)) sn (λz=>(z.1.1,z.1.2.1)) (λx=>((x.1,x.2,()),(()))))
def aHw:∀f∈([]:aa Nat),bA (F89) f:=aH
def m89(a0:aa bf)(a1:Int):af E89:=
 match bif bif J (a1=0)then G else O then bif bif J (a1=1)then G else O then bif bif J (a1=2)then G else O then V (bif J (a1=3)then G else O)else V G else V G else V G with|I=>I|V r1=>bif r1 then V (0,1)else match ajj a0 a1 with|I=>I|V r2=>match Wm (OA.mk r2 0)with|I=>I|V r3=>bif J (r3.t7<zR r3.t6)then if 0<=r3.t7/\r3.t7<zR r3.t6 then if 131=131/\zD r3.t7<zR r3.t6 then if 0<=r3.t7/\r3.t7<zR r3.t6 then if 131=131/\zD r3.t7<zR r3.t6 then bif J (r3.t6[zD r3.t7]!.ag<r3.t6[zD r3.t7]!.ah)then V (0,3)else if 0<=r3.t7/\r3.t7<zR r3.t6 then if 131=131/\zD r3.t7<zR r3.t6 then bif J (r3.t6[zD r3.t7]!.ah< -1048576)then V (0,3)else if 0<=r3.t7/\r3.t7<zR r3.t6 then if 131=131/\zD r3.t7<zR r3.t6 then bif J (1048576<r3.t6[zD r3.t7]!.ag)then V (0,3)else I else I else I else I else I else I else I else I else I else match V6 (Nv.mk r3.t6 1 0)with|I=>I|V r4=>bif J (r4.t9<zR r4.t6)then if 0<=r4.t9/\r4.t9<zR r4.t6 then if 131=131/\zD r4.t9<zR r4.t6 then if 0<=r4.t9/\r4.t9<zR r4.t6 then if 131=131/\zD r4.t9<zR r4.t6 then bif J (4096<ak (r4.t8*ak (ak (r4.t6[zD r4.t9]!.ag-r4.t6[zD r4.t9]!.ah)+1)))then V (0,4)else I else I else I else I else I else V (r4.t8,0)
def e89:=eL vn 89 G (lc (ql 131) (aS ln)) d89 (λg=>m89 g.1 g.2.1)
def arK:EO e89:=λh=>kL (F:=F89) (an:=(noTwo (.two (.two (.rb [] 23) .no) (noTwo (.two (noTwo (adb.lp Wm .no)) (noTwo (.two (noTwo (aeh.lp V6 .no)) .no))))))) (l:=[(.skip,(.rb [] 23)),(aY f89 0,(adb.lp Wm .no)),(aY f89 1,(aeh.lp V6 .no))]) func89 (aj4 aP) (aA aHw (aA (aO adb) (aA (aO aeh) aH))) h
def Ow:EP e89:=λh=>kP h
def F24:bu:=(e90 (e89 (e78 (e53 di))))
abbrev E24:=Bool
def d24:Td 0 E24:= .c [] [8] (.r 0 0 (ec 8 qb en) sn (λz=>z.1.1) (λx=>((x,()),(()))))
def az7:∀f∈([53,78]:aa Nat),bA (F24) f:=(aA (OD (Ow (uT (Oa bF)))) (aA (OD (Ow (uT (Oa bF)))) aH))
def m24(a0:aU)(a1:Int)(a2:Int)(a3:Int):af E24:=
 match match m53 a0 (10) (80)with|I=>I|V r1=>bif bif r1 then G else O then V (O)else match m78 a0 with|I=>I|V r2=>V (bif J (r2=0)then G else O)with|I=>I|V r3=>bif r3 then V (G)else match m89 a0.ai (1)with|I=>I|V r4=>match m89 a0.ai (2)with|I=>I|V r5=>match m89 a0.ai (3)with|I=>I|V r6=>match r90 a0.bM with|I=>I|V r7=>match bif J (r4.fst<=a1)then bif J (r5.fst<=a2)then bif J (r6.fst<=a3)then V (J (r7.fst<=400))else V (G)else V (G)else V (G)with|I=>I|V r8=>V (r8)
def e24:=eL vn 24 G (lc (qg 26) (aS (aS (aS ln)))) d24 (λg=>m24 g.1 g.2.1 g.t.1 g.t.2.1)
def aus:EO e24:=λh=>kL (F:=F24) (an:=(noTwo (.two (.two (.rb [53,78] 25) .no) (noTwo (noTwo (noTwo (noTwo (.two (.rb [53,78] 8) .no)))))))) (l:=[(.skip,(.rb [53,78] 25)),(.skip,(.rb [53,78] 8))]) func24 (aaX (arK (ad4 (asC aP)))) (aA az7 (aA az7 aH)) h
def FJ:EP e24:=λh=>kP h
structure aJG where
 t0:List bf
 (t6 t7 t8:Int)
 t9:List Int
 t10:Bool
 t11:Int
 b0:nc
def aFy:bu:=di
abbrev aq4:=Int
def d248:Td 0 aq4:= .c [] [2] (.r 0 0 (ec 2 aN en) sn (λz=>z.1.1) (λx=>((x,()),(()))))
def awY:=(lc qb ln)
def aoM:An:= .no
def X6(a0:Bool):aq4:=
 bif a0 then 1 else 0
def aGk(a0:Bool):bU vn (aFy) 300 (aoM) 248 (awY.c (a0,())) [] 0 d248.rd=V (X6 a0):=by
 refine Eq.trans (b:=(
  bif a0 then V (1)else V (0):af aq4)) aV ?_
 simp only[X6,cu,cO]
def axq:=eL vn 248 G awY d248 (λg=>V (X6 g.1))
def akr:EO axq:=λh=>kL (an:=aoM) func248 aP aH h (c:=λg=>aGk g.1)
def aAQ:bu:=di
abbrev az4:=Int
def d193:Td 0 az4:= .c [] [4] (.r 0 0 (ec 4 aN en) sn (λz=>z.1.1) (λx=>((x,()),(()))))
def axf:∀f∈([]:aa Nat),bA (aAQ) f:=aH
def ag3(a0:Int)(a1:Int):af az4:=
 bif J (a1=0)then V 0 else if¬a1=0then match if¬a1=0then bif bif J (a0.tmod a1=0)then G else O then V (bif J (a0<0)==J (a1<0)then G else O)else V G else I with|I=>I|V r1=>bif r1 then V (ak (ak (a0.tdiv a1)-1))else V (ak (a0.tdiv a1))else I
def au1:=eL vn 193 G (aS (aS ln)) d193 (λg=>ag3 g.1 g.2.1)
def afX:EO au1:=λh=>kL (F:=aAQ) (an:=(noTwo (noTwo (noTwo (.two (.two (.rb [] 21) .no) .no))))) (l:=[(.skip,(.rb [] 21))]) func193 aP (aA axf aH) h
structure aGN where
 t0:List Int
 (t1 t5:Int)
 t6:Bool
 t7:Int
structure aI6 where
 t1:List Int
 t2:List aB
 t9:Int
 b0:aU
 (b1 b2:oF)
structure aFO where
 t1:List Int
 t9:Int
 b0:aU
 b1:aB
 (b2 b3:oF)
structure aIR where
 (t1 t5:List Int)
 t6:Int
 b0:aU
structure N4 where
 (t0 t1:List Int)
 t5:Int
def ZO:Td 0 N4:= .c [] [0,1,5] (.r 0 0 (ec 0 (ql 3) (ec 1 (ql 3) (ec 5 aN en))) sn (λz=>⟨z.1.1,z.1.2.1,z.1.t.1⟩) (λx=>((x.t0,x.t1,x.t5,()),(()))))
def Xi(p:N4):af (af N4):=
 bif J (p.t5<zR p.t0)then if 0<=p.t5/\p.t5<zR p.t0 then if 0<=p.t5/\p.t5<zR p.t1 then bif bif J (((p.t0,p.t1,p.t5,()),()).fst.fst[((p.t0,p.t1,p.t5,()),()).fst.snd.snd.fst.toNat]! =((p.t0,p.t1,p.t5,()),()).fst.snd.fst[((p.t0,p.t1,p.t5,()),()).fst.snd.snd.fst.toNat]!)then G else O then V (I)else V (V (N4.mk p.t0 p.t1 (ak (p.t5+1))))else I else I else V (I)
def UG:=bJ (Xi)
abbrev E98:=Bool
def d98:Td 0 E98:= .c [] [4] (.r 0 0 (ec 4 qb en) sn (λz=>z.1.1) (λx=>((x,()),(()))))
def m98(a0:aa Int)(a1:aa Int):af E98:=
 bif bif J ((zR a0:Int)=(zR a1:Int))then G else O then V G else match UG (N4.mk a0 a1 0)with|I=>I|V r1=>bif J (r1.t5<zR r1.t0)then if 0<=r1.t5/\r1.t5<zR r1.t0 then if 0<=r1.t5/\r1.t5<zR r1.t1 then bif bif J (((r1.t0,r1.t1,r1.t5,()),()).fst.fst[((r1.t0,r1.t1,r1.t5,()),()).fst.snd.snd.fst.toNat]! =((r1.t0,r1.t1,r1.t5,()),()).fst.snd.fst[((r1.t0,r1.t1,r1.t5,()),()).fst.snd.snd.fst.toNat]!)then G else O then V G else I else I else I else V O
def e98:=eL vn 98 G (lc (ql 3) (lc (ql 3) ln)) d98 (λg=>m98 g.1 g.2.1)
def aro:EO e98:=λh=>kL (an:=(noTwo (noTwo (.two (noTwo (ZO.lp UG .no)) .no)))) (l:=[(aY f98 0,(ZO.lp UG .no))]) func98 aP (aA (aO ZO) aH) h
def adR:EP e98:=λh=>kP h
def F31:bu:=(e98 di)
abbrev E31:=Bool
def d31:Td 0 E31:= .c [] [4] (.r 0 0 (ec 4 qb en) sn (λz=>z.1.1) (λx=>((x,()),(()))))
def aHJ:∀f∈([98]:aa Nat),bA (F31) f:=(aA (adR bF) aH)
def m31(a0:aC)(a1:aC):af E31:=
 match bif J (a0.aI=a1.aI)then match m98 a0.aK a1.aK with|I=>I|V r1=>V (r1)else V (G)with|I=>I|V r2=>V (r2)
def e31:=eL vn 31 G (lc (qg 47) (lc (qg 47) ln)) d31 (λg=>m31 g.1 g.2.1)
def ac1:EO e31:=λh=>kL (F:=F31) (an:=(noTwo (.two (.rb [98] 4) .no))) (l:=[(.skip,(.rb [98] 4))]) func31 (aro aP) (aA aHJ aH) h
def OJ:EP e31:=λh=>kP h
def Cy(b:Bool):Int:=if b=O then 1 else 0
def YS(a b:Int):Int:=if b=0 then 0 else if a.tmod b≠0/\J (a<0)≠J (b<0)then a.tdiv b-1 else a.tdiv b
def aHH(a b:Int):Int:=if b=0 then 0 else a-b*YS a b
def NT(o a b:Int):Int:=
 if o=8 then a+b else if o=9 then a-b else if o=10 then a*b else if o=11 then YS a b else if o=12 then aHH a b
 else if o=13 then Cy (J (a=b))else if o=14 then Cy (J (a≠b))else if o=15 then Cy (J (a<b))else if o=16 then Cy (J (a<=b))
 else if o=17 then Cy (J (b<a))else if o=18 then Cy (J (b<=a))else if o=19 then Cy (J (a≠0/\b≠0))else if o=20 then Cy (J (a≠0\/b≠0))
 else if o=21 then(if a<b then a else b)else(if b<a then a else b)
def ajW(a b:Int):(a.tdiv b).natAbs<=a.natAbs:=Int.natAbs_tdiv_le_natAbs a b
def VIn(vars:aa bf)(vals:aa Int):Prop:=zR vals=zR vars/\∀i,i<zR vars->vars[i]!.ah<=vals[i]!/\vals[i]!<=vars[i]!.ag
def neB(a b:Bool):(bif a==b then false else true)=J (a≠b):=by cases a<;>cases b<;>rfl
def akO{a b:Int}(h1: -1099511627776<=a)(h2:a<=1099511627776):ag3 a b=V (YS a b):=by
 have h3:=ajW a b;have w1:ak (a.tdiv b)=a.tdiv b:=aM;have w2:ak (a.tdiv b-1)=a.tdiv b-1:=aM;unfold ag3 YS;by_cases hb:b=0
 ·simp[hb]
 by_cases hm:a.tmod b=0
 ·simp[hb,hm,w1]
 ·simp only[cT,gz,hb,hm,w1,w2,CZ,not_false_eq_true,ne_eq,true_and,neB,not_true];by_cases hc:J (a<0)=J (b<0)
  ·simp[hc]
  ·simp[hc]
def V4{vars:aa bf}{inp:Bool}{t:az}(hf:dH vars inp t=O):(0<=(cq t.bE).1/\(cq t.bE).1<=zR t.ax/\(zR t.ax:Int)<=(cq t.bE).2)/\(t.bE=24->0<=t.fN/\t.fN<zR vars):=by
 rw[mc]at hf;have h:=(zh _ _▸hf).1;unfold CD at h;rw[zh,decide_eq_true_iff]at h;refine⟨h.1,λh24=> ?_⟩;have h2:=h.2;simp only[h24,Int.reduceEq,reduceIte,zh,decide_eq_true_eq]at h2;exact h2.1
def OG(o:Int)(h:0<=(cq o).1):((o=0\/o=24)/\cq o=(0,0))\/((o=6\/o=7)/\cq o=(1,1))\/((8<=o/\o<=22)/\cq o=(2,2))\/(o=23/\cq o=(3,3))\/(o=25/\cq o=(2,33)):=by
 unfold cq at h ⊢;split
 ·exact .inl ⟨‹_›,rfl⟩
 rename_i h1;rw[bO h1]at h;split
 ·exact .inr (.inl ⟨‹_›,rfl⟩)
 rename_i h2;rw[bO h2]at h;split
 ·exact .inr (.inr (.inl ⟨‹_›,rfl⟩))
 rename_i h3;rw[bO h3]at h;split
 ·exact .inr (.inr (.inr (.inl ⟨‹_›,rfl⟩)))
 rename_i h4;rw[bO h4]at h;split
 ·exact .inr (.inr (.inr (.inr ⟨‹_›,rfl⟩)))
 ·rename_i h5;rw[bO h5]at h;simp at h
def G7(M:aU->aa aB->Bool->af mH)(f:aU)(l A B:aa aB)(top:Bool)(n i a b:Int)(ha:M f A G=V a)(hb:M f B G=V b):
  B0 M ⟨l,top,l,n,i,[A,B],2,0,f⟩=V ⟨l,top,l,n,i,[A,B],2,if a≠0 then 0 else if b≠0 then 1 else 2,f⟩:=by
 have w0:ak 1=1:=rfl;have w1:ak 2=2:=rfl;have r1:BO M ⟨l,top,l,n,i,[A,B],2,0,f⟩=if a≠0 then V I else V (V ⟨l,top,l,n,i,[A,B],2,1,f⟩):=by
  unfold BO;by_cases h:a=0<;>simp[ha,w0]
 have r2:BO M ⟨l,top,l,n,i,[A,B],2,1,f⟩=if b≠0 then V I else V (V ⟨l,top,l,n,i,[A,B],2,2,f⟩):=by
  unfold BO;by_cases h:b=0<;>simp[hb,w1]
 have r3:BO M ⟨l,top,l,n,i,[A,B],2,2,f⟩=V I:=by
  rfl
 unfold B0;by_cases h1:a≠0
 ·rw[bI h1]at r1 ⊢;exact ct λr=>by rw[r1];simp
 ·rw[bO h1]at r1 ⊢;rw[bR r1];by_cases h2:b≠0
  ·rw[bI h2]at r2 ⊢;exact ct λr=>by rw[r2];simp
  ·rw[bO h2]at r2 ⊢;rw[bR r2];exact ct λr=>by rw[r3];simp
def VA(n i:Nat)(hn:n<=1000000):J ((i:Int)=ak ((n:Int)-1))=J (i+1=n):=by
 rw[aM];apply decide_eq_decide.2;omega
def aaf(M:aU->aa aB->Bool->af mH)(f:aU)(hv:de f.ai)(l:aa aB)(hl:zR l<=1000000)(top:Bool)(hM:∀s∈l,M f s.aQ G=V (cc f G s.aQ)/\M f s.aW G=V (cc f G s.aW))(i:Nat)(hi:i<zR l):
  (ZK f top l.length i l[i]! =0->BW M ⟨l,top,l,(zR l:Int),(i:Int),f⟩=V (V ⟨l,top,l,(zR l:Int),((i+1:Nat):Int),f⟩))/\(ZK f top l.length i l[i]!≠0->BW M ⟨l,top,l,(zR l:Int),(i:Int),f⟩=V I):=by
 have hw:=jJ hi hl;obtain⟨k1,k2⟩:=hM _ (bq hi);have hin:=G7 M f l l[i]!.aQ l[i]!.aW top (zR l:Int) (i:Int) _ _ k1 k2;have hlen:(zR ([l[i]!.aQ,l[i]!.aW]:aa (aa aB)):Int)=2:=rfl;have hi1:(i:Int)<(zR l:Int):=aq;have hi0:(0:Int)<=(i:Int):=aq;unfold BW ZK ox;simp only[zi,az.eta,aB.eta,Xz,VA l.length i hl,DG f.ai hv,hlen,hin,hi1];have e1':(bif top then some (bif dL f l[i]! (J (i+1=zR l))then false else true)else some (bif dL f l[i]! false then false else true))=some (bif dL f l[i]! (top&&J (i+1=zR l))then false else true):=by cases top<;>rfl
 rw[e1'];have hS:dL f l[i]! (top&&J (i+1=zR l))=O->Sa l[i]! =V (ug l[i]!):=λh=>Vv _ (jD h).1;revert hS;generalize dL f l[i]! (top&&J (i+1=zR l))=S;intro hS;generalize l[i]!.aQ=A at k1 hin ⊢;generalize l[i]!.aW=B at k2 hin ⊢;cases S with
 |false=>simp
 |true=>
  rw[hS rfl];generalize ug l[i]! =N;cases N with
  |false=>simp
  |true=>
   generalize fA f.ai G l[i]!.aG=T;generalize cc f G A=a at*;generalize cc f G B=b at*;by_cases hT:T=0
   ·by_cases ha:a=0
    ·by_cases hb:b=0
     ·simp[hT,ha,hb,hw]
     ·simp[hT,ha,hb,k2]
    ·simp[hT,ha,k1]
   ·simp[hT]
def ail(M:aU->aa aB->Bool->af mH)(f:aU)(hv:de f.ai)(l:aa aB)(hl:zR l<=1000000)(top:Bool)(hM:∀s∈l,M f s.aQ G=V (cc f G s.aQ)/\M f s.aW G=V (cc f G s.aW)):afv M f l top=V (cc f top l):=by
 obtain⟨i,e1,hc⟩:=s9 (rnd:=BW M) l (λi=>⟨l,top,l,(zR l:Int),(i:Int),f⟩) (ZK f top l.length) (λi hi=>aaf M f hv l hl top hM i hi) (by unfold BW;simp);have e1':LK M ⟨l,top,l,(zR l:Int),0,f⟩=V ⟨l,top,l,(zR l:Int),(i:Int),f⟩:=e1;rw[rB f top l.length l 0 aq]at hc;unfold afv;rw[e1'];rcases hc with ⟨rfl,hc⟩|⟨hi,h0,hc⟩
 ·rw[hc];simp
 ·rw[hc];obtain⟨k1,k2⟩:=hM _ (bq hi);have hin:=G7 M f l l[i]!.aQ l[i]!.aW top (zR l:Int) (i:Int) _ _ k1 k2;have hlen:(zR ([l[i]!.aQ,l[i]!.aW]:aa (aa aB)):Int)=2:=rfl;have hi1:(i:Int)<(zR l:Int):=aq;have hi0:(0:Int)<=(i:Int):=aq;revert h0;unfold ZK ox;simp only[zi,az.eta,aB.eta,Xz,VA l.length i hl,DG f.ai hv,hlen,hin,hi1];have e1':(bif top then some (bif dL f l[i]! (J (i+1=zR l))then false else true)else some (bif dL f l[i]! false then false else true))=some (bif dL f l[i]! (top&&J (i+1=zR l))then false else true):=by cases top<;>rfl
  rw[e1'];have hS:dL f l[i]! (top&&J (i+1=zR l))=O->Sa l[i]! =V (ug l[i]!):=λh=>Vv _ (jD h).1;revert hS;generalize dL f l[i]! (top&&J (i+1=zR l))=S;intro hS;generalize l[i]!.aQ=A at k1 hin ⊢;generalize l[i]!.aW=B at k2 hin ⊢;cases S with
  |false=>simp
  |true=>
   rw[hS rfl];generalize ug l[i]! =N;cases N with
   |false=>simp
   |true=>
    generalize fA f.ai G l[i]!.aG=T;generalize cc f G A=a at*;generalize cc f G B=b at*;by_cases hT:T=0
    ·by_cases ha:a=0
     ·by_cases hb:b=0
      ·simp[hT,ha,hb]
      ·simp[hT,ha,hb,k2]
     ·simp[hT,ha,k1]
    ·simp[hT]
def KD(f:aU)(hv:de f.ai):∀(n:Nat) (l:aa aB) (top:Bool),zf l<n->fM l<=1000->QA n f l top=V (cc f top l)
 |0,_,_,h,_=>aq
 |n+1,l,top,h,h2=>ail (QA n) f hv l (by have:=j5 l;omega) top (λs hs=>⟨KD f hv n _ _ (by have:=bw hs;omega) (by have:=gA hs;omega),KD f hv n _ _ (by have:=bw hs;omega) (by have:=gA hs;omega)⟩)
def aia(f:aU)(hv:de f.ai)(l:aa aB)(top:Bool)(h:fM l<=1000):alI f l top=V (cc f top l):=eM (zf l+1) λn hn=>KD f hv n l top aq h
def Uf{f:aU}{s:aB}{last:Bool}(h:dL f s last=O)(c:Int)(hc:c=if s.cg=2 then 67108864 else 10000):
  ((bif J (s.bg<0)then V O else bif J (c<s.bg)then V O else bif J (s.fN<0)then V O else bif J (s.cg=4)then V (J (4096<s.fN))else V G):af Bool)=V (!(J (0<=s.bg/\s.bg<=c)&&(if s.cg=4 then J (0<=s.fN/\s.fN<=4096)else O))):=by
 obtain⟨b1,b2,b3,b4,b5⟩:=jD h;by_cases h1:s.bg<0
 ·simp[h1]
 by_cases h2:c<s.bg
 ·simp[h2]
 by_cases h3:s.fN<0
 ·have h4:s.cg=4:=by
   omega
  simp[h3,h4]
 by_cases h4:s.cg=4
 ·simp[h1,h2,h3];by_cases h5:4096<s.fN
  ·grind
  ·simp_all
 ·simp[h1,h2,h3,h4,show 0<=s.bg by omega,show s.bg<=c by omega]
def W5{f:aU}{s:aB}{last:Bool}(h:dL f s last=O):
  ((bif J (0<(zR s.aR:Int))then if(0:Int)<=ak ((zR s.aR:Int)-(1:Int))/\ak ((zR s.aR:Int)-(1:Int))<(zR s.aR:Int)then V (J (67108864<s.aR[(ak ((zR s.aR:Int)-1)).toNat]!))else I else V G):af Bool)=V (!(if s.cg=6 then J (s.aR[zR s.aR-1]!<=67108864)else O)):=by
 obtain⟨b1,b2,b3,b4,b5⟩:=jD h;by_cases h6:s.cg=6
 ·obtain⟨b1,b2⟩:=b1 h6;have hw:ak ((zR s.aR:Int)-1)=(zR s.aR:Int)-1:=aM;have hw2:((zR s.aR:Int)-1).toNat=zR s.aR-1:=aq;rw[hw,hw2,oo,cI,bI ⟨aq,aq⟩,bI h6];generalize s.aR[zR s.aR-1]! =B;by_cases h:67108864<B
  ·simp[h]
  ·simp[h];omega
 ·rw[bY (by have:=b2 h6;omega),bO h6];rfl
def ahu(M:aU->aa aB->Bool->af oG)(f:aU)(hv:de f.ai)(l:aa aB)(hl:zR l<=1000000)(hB:∀s∈l,zR s.aR<=1000000)(top:Bool)(hM:∀s∈l,M f s.aQ G=V (cc f G s.aQ)/\M f s.aW G=V (cc f G s.aW))(i:Nat)(hi:i<zR l):
  (ZK f top l.length i l[i]! =0->AR M ⟨l,top,(i:Int),f⟩=V (V ⟨l,top,((i+1:Nat):Int),f⟩))/\(ZK f top l.length i l[i]!≠0->AR M ⟨l,top,(i:Int),f⟩=V I):=by
 have hw:=jJ hi hl;obtain⟨k1,k2⟩:=hM _ (bq hi);have hb:=hB _ (bq hi);have hi1:(i:Int)<(zR l:Int):=aq;have hi0:(0:Int)<=(i:Int):=aq;unfold AR ZK ox;simp only[zi,az.eta,aB.eta,V3 f l[i]! _ hb,VA l.length i hl,Du f.ai hv,hw,hi1];have e1':(bif top then some (bif dL f l[i]! (J (i+1=zR l))then false else true)else some (bif dL f l[i]! false then false else true))=some (bif dL f l[i]! (top&&J (i+1=zR l))then false else true):=by cases top<;>rfl
 rw[e1'];cases hS:dL f l[i]! (top&&J (i+1=zR l))with
 |false=>simp
 |true=>
  have hn:=Uf hS;rw[W5 hS];unfold ug;generalize (if l[i]!.cg=6 then J (l[i]!.aR[zR l[i]!.aR-1]!<=67108864)else O)=B6;by_cases h2:l[i]!.cg=2
  ·grind
  ·rw[bO h2]at hn ⊢;rw[bY h2,hn 10000 rfl];generalize (J (0<=l[i]!.bg/\l[i]!.bg<=10000)&&(if l[i]!.cg=4 then J (0<=l[i]!.fN/\l[i]!.fN<=4096)else O))=N;generalize fA f.ai G l[i]!.aG=T;generalize l[i]!.aQ=A at k1 ⊢;generalize l[i]!.aW=B at k2 ⊢;generalize cc f G A=a at*;generalize cc f G B=b at*;cases N with
   |false=>simp
   |true=>
    cases B6 with
    |false=>simp
    |true=>
     by_cases hT:T=0
     ·by_cases ha:a=0
      ·by_cases hb:b=0
       ·simp[hT,ha,hb,k1,k2]
       ·simp[hT,ha,hb,k1,k2]
      ·simp[hT,ha,k1]
     ·simp[hT]
def ams(M:aU->aa aB->Bool->af oG)(f:aU)(hv:de f.ai)(l:aa aB)(hl:zR l<=1000000)(hB:∀s∈l,zR s.aR<=1000000)(top:Bool)(hM:∀s∈l,M f s.aQ G=V (cc f G s.aQ)/\M f s.aW G=V (cc f G s.aW)):akM M f l top=V (cc f top l):=by
 obtain⟨i,e1,hc⟩:=s9 (rnd:=AR M) l (λi=>⟨l,top,(i:Int),f⟩) (ZK f top l.length) (λi hi=>ahu M f hv l hl hB top hM i hi) (by unfold AR;simp);have e1':LH M ⟨l,top,0,f⟩=V ⟨l,top,(i:Int),f⟩:=e1;rw[rB f top l.length l 0 aq]at hc;unfold akM;rw[e1'];dsimp only;rcases hc with ⟨rfl,hc⟩|⟨hi,h0,hc⟩
 ·simp_all
 ·rw[hc];obtain⟨k1,k2⟩:=hM _ (bq hi);have hb:=hB _ (bq hi);have hi1:(i:Int)<(zR l:Int):=aq;have hi0:(0:Int)<=(i:Int):=aq;revert h0;unfold ZK ox;simp only[zi,az.eta,aB.eta,V3 f l[i]! _ hb,VA l.length i hl,Du f.ai hv,hi1];have e1':(bif top then some (bif dL f l[i]! (J (i+1=zR l))then false else true)else some (bif dL f l[i]! false then false else true))=some (bif dL f l[i]! (top&&J (i+1=zR l))then false else true):=by cases top<;>rfl
  rw[e1'];cases hS:dL f l[i]! (top&&J (i+1=zR l))with
  |false=>simp
  |true=>
   have hn:=Uf hS;rw[W5 hS];unfold ug;generalize (if l[i]!.cg=6 then J (l[i]!.aR[zR l[i]!.aR-1]!<=67108864)else O)=B6;by_cases h2:l[i]!.cg=2
   ·rw[bI h2]at hn ⊢;rw[bZ h2,hn 67108864 rfl];generalize (J (0<=l[i]!.bg/\l[i]!.bg<=67108864)&&(if l[i]!.cg=4 then J (0<=l[i]!.fN/\l[i]!.fN<=4096)else O))=N;generalize fA f.ai G l[i]!.aG=T;generalize l[i]!.aQ=A at k1 ⊢;generalize l[i]!.aW=B at k2 ⊢;generalize cc f G A=a at*;generalize cc f G B=b at*;cases N with
    |false=>simp
    |true=>
     cases B6 with
     |false=>simp
     |true=>
      by_cases hT:T=0
      ·by_cases ha:a=0
       ·by_cases hb:b=0
        ·simp[hT,ha,hb]
        ·simp[hT,ha,hb,k1,k2]
       ·simp[hT,ha,k1]
      ·simp[hT]
   ·rw[bO h2]at hn ⊢;rw[bY h2,hn 10000 rfl];generalize (J (0<=l[i]!.bg/\l[i]!.bg<=10000)&&(if l[i]!.cg=4 then J (0<=l[i]!.fN/\l[i]!.fN<=4096)else O))=N;generalize fA f.ai G l[i]!.aG=T;generalize l[i]!.aQ=A at k1 ⊢;generalize l[i]!.aW=B at k2 ⊢;generalize cc f G A=a at*;generalize cc f G B=b at*;cases N with
    |false=>simp
    |true=>
     cases B6 with
     |false=>simp
     |true=>
      by_cases hT:T=0
      ·by_cases ha:a=0
       ·by_cases hb:b=0
        ·simp[hT,ha,hb]
        ·simp[hT,ha,hb,k1,k2]
       ·simp[hT,ha,k1]
      ·simp[hT]
def JC(f:aU)(hv:de f.ai):∀(n:Nat) (l:aa aB) (top:Bool),zf l<n->fM l<=1000->Ti n f l top=V (cc f top l)
 |0,_,_,h,_=>aq
 |n+1,l,top,h,h2=>ams (Ti n) f hv l (by have:=j5 l;omega) (λs hs=>by have:=Dm hs;have:=pK s;omega) top (λs hs=>⟨JC f hv n _ _ (by have:=bw hs;omega) (by have:=gA hs;omega),JC f hv n _ _ (by have:=bw hs;omega) (by have:=gA hs;omega)⟩)
def aix(f:aU)(hv:de f.ai)(l:aa aB)(top:Bool)(h:fM l<=1000):ahp f l top=V (cc f top l):=eM (zf l+1) λn hn=>JC f hv n l top aq h
def abX(f:aU)(hv:de f.ai)(hl:zR f.au<=1000000)(i:Nat)(hi:i<zR f.au):
  (kQ f i f.au[i]! =0->BE ⟨f.au,(zR f.au:Int),(i:Int),f⟩=V (V ⟨f.au,(zR f.au:Int),((i+1:Nat):Int),f⟩))/\(kQ f i f.au[i]!≠0->BE ⟨f.au,(zR f.au:Int),(i:Int),f⟩=V I):=by
 have hw:=jJ hi hl;have h2:=Xv (f.au.take i) (by rw[zA];omega) f.au[i]!;unfold BE kQ;simp only[az.eta,dD.eta,C9,C4,DG f.ai hv];grind
def akQ(f:aU)(hv:de f.ai)(hl:zR f.au<=1000000):afB f=V (cz (kQ f) f.au 0):=by
 obtain⟨i,e1,hc⟩:=s9 (rnd:=BE) f.au (λi=>⟨f.au,(zR f.au:Int),(i:Int),f⟩) (kQ f) (λi hi=>abX f hv hl i hi) (by unfold BE;simp);have e1':LM ⟨f.au,(zR f.au:Int),0,f⟩=V ⟨f.au,(zR f.au:Int),(i:Int),f⟩:=e1;unfold afB;rw[e1'];rcases hc with ⟨rfl,hc⟩|⟨hi,h0,hc⟩
 ·simp_all
 ·rw[hc];have h2:=Xv (f.au.take i) (by rw[zA];omega) f.au[i]!;revert h0;unfold kQ;simp only[az.eta,dD.eta,C9,C4,DG f.ai hv];grind
def aie(f:aU)(hv:de f.ai)(hl:zR f.au<=1000000)(i:Nat)(hi:i<zR f.au):
  (kQ f i f.au[i]! =0->HZ ⟨(i:Int),f⟩=V (V ⟨((i+1:Nat):Int),f⟩))/\(kQ f i f.au[i]!≠0->HZ ⟨(i:Int),f⟩=V I):=by
 have hw:=jJ hi hl;obtain⟨j,h2,h3⟩:=OR f hl i aq f.au[i]!;unfold HZ kQ;simp only[zi,az.eta,DJ,DI,h2,Du f.ai hv];grind
def ae4(f:aU)(hv:de f.ai)(hl:zR f.au<=1000000):∃i:Nat,UZ ⟨0,f⟩=V ⟨(i:Int),f⟩/\((i=zR f.au/\cz (kQ f) f.au 0=0)\/(i<zR f.au/\kQ f i f.au[i]!≠0/\cz (kQ f) f.au 0=kQ f i f.au[i]!)):=
 s9 (rnd:=HZ) f.au (λi=>⟨(i:Int),f⟩) (kQ f) (λi hi=>aie f hv hl i hi) (by unfold HZ;simp)
def Bf{f:aU}{i:Nat}(hi:i<zR f.au):kH ((f.au.take i).map (·.aG))+nT f.au[i]!.aG<=kH (f.au.map (·.aG)):=by
 have h:=EF (f.au.map (·.aG)) (i+1);rw[<-xJ,bC hi,zK,Db]at h
 assumption
def am0(f:aU)(h:fM f.bM+kH (f.au.map (·.aG))<=900)(hl:zR f.au<=1000000):ahL f=V (qm f):=by
 unfold ahL qm;by_cases h1:64<(zR f.ai:Int)
 ·grind
 by_cases h2:8<(zR f.au:Int)
 ·grind
 rw[bY h1,bY h2,bZ (show zR f.ai<=64 by omega),bZ (show zR f.au<=8 by omega)];dsimp only[cond_true,cond_false];have hb:=C2 f.bM;rw[agF f.bM aq];obtain⟨i,b,e1,hI,hc⟩:=lM (rnd:=Eo) f.au.length (λi (b:Int)=>⟨b,(i:Int),f⟩) (λi b=>(0<=b/\b<=fM f.bM+kH ((f.au.take i).map (·.aG)))/\∀j,j<i->dT f.au[j]!.aG<=12) (λi _=>12<dT f.au[i]!.aG) (λi b hi hI=>by
  have hn:=Bf hi;have hw:=jJ hi hl;have k1:=KM f.au[i]!.aG aq;have k2:=J5 f.au[i]!.aG aq;have hi1:(i:Int)<(zR f.au:Int):=aq;have hi0:(0:Int)<=(i:Int):=aq;by_cases hd:12<dT f.au[i]!.aG
  ·refine .inr ⟨?_,hd⟩;unfold Eo;simp only[cV,az.eta,k1,k2,hi1,hi0,cI,dM,hd]
  ·refine .inl ⟨b+nT f.au[i]!.aG,?_,⟨aq,?_⟩,λj hj=> ?_⟩
   ·have hw2:ak (b+(nT f.au[i]!.aG:Int))=b+nT f.au[i]!.aG:=aM;unfold Eo;simp only[cV,cT,az.eta,k1,k2,hi1,hi0,dM,hd,hw,hw2]
   ·rw[bC hi,zK,Db];simp only[yc,yT,rD];omega
   ·rcases xo.1 hj with h|h
    ·exact hI.2 j h
    ·subst h;omega) (λb _=>by unfold Eo;simp) (b:=gO f.bM) ⟨⟨aq,by simp only[wj,yT,show kH []=0 from rfl];omega⟩,λj hj=>ei hj aq⟩
 have e1':Ke ⟨gO f.bM,0,f⟩=V ⟨b,(i:Int),f⟩:=e1;dsimp only;rw[e1'];dsimp only;rcases hc with rfl|⟨hi,hd⟩
 ·rw[bY (show ¬((zR f.au:Int)<(zR f.au:Int))by omega),cw];have ha:f.au.all (λh=>J (dT h.aG<=12))=O:=EI λj hj=>by simpa using hI.2 j hj
  have hn:=hI.1.2;rw[zG]at hn;rw[ha,bZ (show b<=1024 by omega),cI,akC f.bM aq,ahy f.bM aq];by_cases h5:j0 f.bM<=12
  ·cases fI f.bM<;>simp[h5]
  ·simp[h5]
 ·have hn:=Bf hi;have k1:=KM f.au[i]!.aG aq;have k2:=J5 f.au[i]!.aG aq;have hi1:(i:Int)<(zR f.au:Int):=aq;have hi0:(0:Int)<=(i:Int):=aq;have ha:f.au.all (λh=>J (dT h.aG<=12))=G:=Aj hi (by simpa using hd);simp only[cV,az.eta,k1,k2,hi1,hi0,cI,dM,hd,ha,Bool.and_false,Bool.false_and]
def ajb(M:aa aB->Int->bh->af sX)(l:aa aB)(hM:∀s∈l,∀(d:Int) (b:bh),0<=d->d<=13->0<=b.bH->(b.bH+fM s.aQ<=1000->M s.aQ d b=V (om d s.aQ b))/\(b.bH+fM s.aW<=1000->M s.aW d b=V (om d s.aW b)))(d:Int)(b:bh)(h0:0<=d)(hd:d<=13)(h1:0<=b.bH)(h2:b.bH+fM l<=1000):amt M l d b=V (om d l b):=by
 have hL:=j5 l;have hw1:ak (d+1)=d+1:=aM;have hgo:∀(l:aa aB) (i:Nat) (b:bh),NA (λ_ (b:bh) (s:aB)=>if fP (dG d b)=O then(.inr (dG d b):bh ⊕ bh)else .inl (om (d+1) s.aW (om (d+1) s.aQ (AD s.aG 1 (dG d b))))) id id l i b=om d l b:=by
  intro l;induction l with
  |nil=>intro i b;rw[om];rfl
  |cons s l ih=>
   intro i b;rw[om];by_cases ho:fP (dG d b)=O
   ·rw[bI ho,o5 (r:=dG d b) (by rw[bI ho])];rfl
   ·rw[bO ho,sk (b':=om (d+1) s.aW (om (d+1) s.aQ (AD s.aG 1 (dG d b)))) (by rw[bO ho])];exact ih (i+1) _
 have hm:∀(b:bh) (x:Bool),-1000000<=b.bH->b.bH<=1000000->x=(b.fQ||J (12<d))->jG ⟨ak (b.bH+1),x⟩=(fP (dG d b),dG d b):=λb x b1 b2 hx=>by
  rw[uR,aM,hx];rfl
 have hs:∀(i:Nat) (b:bh),i<zR l->0<=b.bH->b.bH+nS l[i]!<=1000->fP (dG d b)=G->d<=12/\GQ l[i]!.aG 1 (dG d b)=V (AD l[i]!.aG 1 (dG d b))/\M l[i]!.aQ (d+1) (AD l[i]!.aG 1 (dG d b))=V (om (d+1) l[i]!.aQ (AD l[i]!.aG 1 (dG d b)))/\M l[i]!.aW (d+1) (om (d+1) l[i]!.aQ (AD l[i]!.aG 1 (dG d b)))=V (om (d+1) l[i]!.aW (om (d+1) l[i]!.aQ (AD l[i]!.aG 1 (dG d b))))/\0<=(om (d+1) l[i]!.aW (om (d+1) l[i]!.aQ (AD l[i]!.aG 1 (dG d b)))).bH/\(om (d+1) l[i]!.aW (om (d+1) l[i]!.aQ (AD l[i]!.aG 1 (dG d b)))).bH<=b.bH+nS l[i]! :=λi b hi b1 b2 ho=>by
  have hd2:d<=12:=by unfold fP dG at ho;grind
  have hN:=pK l[i]!;have hp:(dG d b).bH=b.bH+1:=rfl;obtain⟨a1,a2,a3⟩:=KE l[i]!.aG 1 (dG d b) aq aq aq;obtain⟨c1,c2,c3⟩:=QN (d+1) l[i]!.aQ (AD l[i]!.aG 1 (dG d b)) aq aq aq aq;obtain⟨g1,g2,g3⟩:=QN (d+1) l[i]!.aW (om (d+1) l[i]!.aQ (AD l[i]!.aG 1 (dG d b))) aq aq aq aq;exact⟨hd2,UQ _ 1 _ aq aq aq aq,(hM _ (bq hi) (d+1) _ aq aq aq).1 aq,(hM _ (bq hi) (d+1) _ aq aq aq).2 aq,aq,aq⟩
 obtain⟨i,v,e1,hI,hc⟩:=Uq (rnd:=Ef M) l (λi (b:bh)=>⟨d,l,(zR l:Int),(i:Int),b⟩) (λ_ (b:bh) (s:aB)=>if fP (dG d b)=O then(.inr (dG d b):bh ⊕ bh)else .inl (om (d+1) s.aW (om (d+1) s.aQ (AD s.aG 1 (dG d b))))) id id (λi x=>0<=x.bH/\x.bH<=b.bH+fM (l.take i)) (λi x hi hx=>by
   have hn:=Gg hi;have hw:=jJ hi aq;have hi1:(i:Int)<(zR l:Int):=aq;have hi0:(0:Int)<=(i:Int):=aq;have hmx:=hm x;cases ho:fP (dG d x)with
   |true=>
    refine⟨λb' hb'=>by simp at hb',λr hr=> ?_⟩;unfold Ef;dsimp only;simp only[hi1];cases hb:x.fQ with
    |true=>rw[hmx O aq aq (by rw[hb];rfl),ho];rfl
    |false=>rw[hmx (J (12<d)) aq aq (by rw[hb];rfl),ho];rfl
   |false=>
    obtain⟨q0,q1,q2,q3,q4,q5⟩:=hs i x hi hx.1 aq ho;refine⟨λb' hb'=> ?_,λr hr=>by simp at hr⟩;have hb':om (d+1) l[i]!.aW (om (d+1) l[i]!.aQ (AD l[i]!.aG 1 (dG d x)))=b':=by simpa using hb'
    subst hb';refine⟨?_,⟨q4,by rw[bC hi,OS];omega⟩⟩;unfold Ef;dsimp only;simp only[cV,hi1,hi0,dM];cases hb:x.fQ with
    |true=>rw[hmx O aq aq (by rw[hb];rfl),ho];simp only[cT,az.eta,q1,q2,q3,hw1,hw]
    |false=>rw[hmx (J (12<d)) aq aq (by rw[hb];rfl),ho];simp only[cT,az.eta,q1,q2,q3,hw1,hw]) (λx _=>by unfold Ef;simp) (b:=b) ⟨h1,by simp[fM]⟩
 have e1':Jy M ⟨d,l,(zR l:Int),0,b⟩=V ⟨d,l,(zR l:Int),(i:Int),v⟩:=e1;rw[hgo]at hc;unfold amt;rw[e1'];dsimp only;rcases hc with ⟨rfl,hc⟩|⟨hi,r,hr,hc⟩
 ·rw[hc,fK];rfl
 ·have hn:=Gg hi;have hi1:(i:Int)<(zR l:Int):=aq;have hi0:(0:Int)<=(i:Int):=aq;have ho:fP (dG d v)=O:=by
   by_cases ho:fP (dG d v)=O
   ·exact ho
   ·rw[bO ho]at hr;cases hr
  rw[bI ho]at hr;cases hr;rw[hc];have hmx:=hm v;simp only[cV,hi1,hi0,cI,dM];cases hb:v.fQ with
  |true=>rw[hmx O aq aq (by rw[hb];rfl),ho];rfl
  |false=>rw[hmx (J (12<d)) aq aq (by rw[hb];rfl),ho];rfl
def Ji:∀(n:Nat) (l:aa aB) (d:Int) (b:bh),zf l<n->0<=d->d<=13->0<=b.bH->b.bH+fM l<=1000->Sm n l d b=V (om d l b)
 |0,_,_,_,h,_,_,_,_=>aq
 |n+1,l,d,b,h,h0,hd,h1,h2=>ajb (Sm n) l (λs hs d b a1 a2 a3=>⟨λa4=>Ji n _ d b (by have:=bw hs;omega) a1 a2 a3 a4,λa4=>Ji n _ d b (by have:=bw hs;omega) a1 a2 a3 a4⟩) d b h0 hd h1 h2
def akx(l:aa aB)(d:Int)(b:bh)(h0:0<=d)(hd:d<=13)(h1:0<=b.bH)(h2:b.bH+fM l<=1000):aeA l d b=V (om d l b):=eM (zf l+1) λn hn=>Ji n l d b aq h0 hd h1 h2
def ajm(f:aU)(h:fM f.bM+kH (f.au.map (·.aG))<=900)(hl:zR f.au<=1000000):∃r q,aeA f.bM 1 ⟨0,G⟩=V r/\F3 ⟨f.au,(zR f.au:Int),0,f,r⟩=V ⟨f.au,(zR f.au:Int),(zR f.au:Int),f,q⟩/\fP q= !(f.au.all (λh=>J (dT h.aG<=12))&&J (j0 f.bM<=12)&& !fI f.bM):=by
 obtain⟨p1,p2,p3⟩:=QN 1 f.bM ⟨0,G⟩ aq aq (zw 0) (by show (0:Int)+_<=_;omega);have p2:0<=(om 1 f.bM ⟨0,G⟩).bH:=p2;have p3:(om 1 f.bM ⟨0,G⟩).bH<=0+fM f.bM:=p3;refine⟨om 1 f.bM ⟨0,G⟩,?_⟩;have p4:=akx f.bM 1 ⟨0,G⟩ aq aq (zw 0) (by show (0:Int)+_<=_;omega);generalize om 1 f.bM ⟨0,G⟩=r at*;obtain⟨q,e1,hI⟩:=cH (rnd:=DX) f.au.length (λi (q:bh)=>⟨f.au,(zR f.au:Int),(i:Int),f,q⟩) (λi q=>q.fQ=(r.fQ||(f.au.take i).any λh=>J (12<dT h.aG))/\0<=q.bH/\q.bH<=r.bH+kH ((f.au.take i).map (·.aG))) (λi q hi hI=>by
  have hn:=Bf hi;have hw:=jJ hi hl;have hi1:(i:Int)<(zR f.au:Int):=aq;have hi0:(0:Int)<=(i:Int):=aq;have hn2:kH ((f.au.take (i+1)).map (·.aG))=kH ((f.au.take i).map (·.aG))+nT f.au[i]!.aG:=by
   rw[bC hi,zK,Db];rfl
  have ha:((f.au.take (i+1)).any λh=>J (12<dT h.aG))=(((f.au.take i).any λh=>J (12<dT h.aG))||J (12<dT f.au[i]!.aG)):=by
   rw[bC hi,List.any_append,List.any_cons,List.any_nil,Bool.or_false]
  rw[ha,hn2];obtain⟨q1,q2,q3⟩:=hI;cases ho:fP q with
  |true=>
   refine⟨q,?_,?_,q2,aq⟩
   ·unfold DX;dsimp only;simp only[cV,cT,hi1,hi0,dM,uR,ho,hw]
   ·unfold fP at ho;rw[bY (show ¬1024<q.bH by omega),Bool.or_false]at ho;rw[<-Bool.or_assoc,<-q1,ho];rfl
  |false=>
   obtain⟨c1,c2,c3⟩:=KE f.au[i]!.aG 1 q aq q2 aq;have k:=UQ f.au[i]!.aG 1 q aq aq q2 aq;refine⟨AD f.au[i]!.aG 1 q,?_,?_,aq,aq⟩
   ·unfold DX;dsimp only;simp only[cV,cT,az.eta,hi1,hi0,dM,uR,ho,hw,k]
   ·rw[c1,q1,Bool.or_assoc];rw[show J (12<1-1+dT f.au[i]!.aG)=J (12<dT f.au[i]!.aG)from decide_eq_decide.2 aq]) (λq _=>by unfold DX;simp) (b:=r) ⟨by simp,p2,by simp[kH]⟩
 have e1':F3 ⟨f.au,(zR f.au:Int),0,f,r⟩=V ⟨f.au,(zR f.au:Int),(zR f.au:Int),f,q⟩:=e1;refine⟨q,p4,e1',?_⟩;rw[zG]at hI;obtain⟨q1,q2,q3⟩:=hI;unfold fP;rw[bY (show ¬1024<q.bH by omega),Bool.or_false,q1,p1];have e2:(f.au.any λh=>J (12<dT h.aG))= !(f.au.all λh=>J (dT h.aG<=12)):=by
  rw[List.not_all_eq_any_not]
  congr 1
  funext h
  by_cases hd:dT h.aG<=12
  ·simp[hd]
  ·simp[hd];omega
 have e3:J (12<1-1+j0 f.bM)= !J (j0 f.bM<=12):=by
  by_cases hd:j0 f.bM<=12
  ·simp[hd]
  ·simp[hd];omega
 rw[e2,e3];generalize (f.au.all λh=>J (dT h.aG<=12))=x;generalize J (j0 f.bM<=12)=y;generalize fI f.bM=z;cases x<;>cases y<;>cases z<;>rfl
def AW:aa aB->Prop
 |[]=>True
 |s::l=>(0<=s.bg/\s.bg<=67108864)/\(s.cg=4->0<=s.fN/\s.fN<=4096)/\(s.cg≠3->s.cg≠4->s.aQ=[])/\(s.cg≠3->s.aW=[])/\AW s.aQ/\AW s.aW/\AW l
termination_by l=>zf l
decreasing_by
 ·exact(bw (zk ..)).1
 ·exact(bw (zk ..)).2
 ·exact dY _ _
def aqw{s:aB}(h:ug s=O):(0<=s.bg/\s.bg<=67108864)/\(s.cg=4->0<=s.fN/\s.fN<=4096):=by
 unfold ug at h;grind
def AI(f:aU):∀(n:Nat) (l:aa aB) (top:Bool),zf l<n->cc f top l=0->AW l
 |0,_,_,h,_=>aq
 |n+1,[],top,h,hc=>by rw[AW];trivial
 |n+1,s::l,top,h,hc=>by
  rw[cc]at hc;have hz:=bw (l:=s::l) (zk ..);have hz2:=dY s l;by_cases h1:ox f (top&&l.isEmpty) s≠0
  ·omega
  rw[bO h1]at hc;by_cases h2:cc f G s.aQ≠0
  ·omega
  rw[bO h2]at hc;by_cases h3:cc f G s.aW≠0
  ·omega
  rw[bO h3]at hc;have q1:=AI f n s.aQ G aq aq;have q2:=AI f n s.aW G aq aq;have q3:=AI f n l top aq hc;unfold ox at h1;cases hS:dL f s (top&&l.isEmpty)with
  |false=>rw[hS]at h1;simp at h1
  |true=>
   rw[hS]at h1;cases hN:ug s with
   |false=>rw[hN]at h1;simp at h1
   |true=>
    obtain⟨n1,n2⟩:=aqw hN;obtain⟨b1,b2,b3,b4,b5⟩:=jD hS;rw[AW];simp_all
def G0(s:aB)(a b:Int×Int×Int):Int×Int×Int:=
 if s.cg=1 then(1,1,s.bg)
 else if s.cg=3 then(1+max a.1 b.1,max a.2.1 b.2.1,s.bg+max a.2.2 b.2.2)
 else if s.cg=4 then(1+s.fN*(1+a.1),s.fN*a.2.1,s.fN*(s.bg+a.2.2))
 else(1,0,s.bg)
def Oy(a b:Int×Int×Int):Int×Int×Int:=(a.1+b.1,a.2.1+b.2.1,a.2.2+b.2.2)
def uH(s:aB)(l:aa aB):e9 (s::l)=Oy (G0 s (e9 s.aQ) (e9 s.aW)) (e9 l):=by
 rw[e9];unfold G0 Oy;grind
def Oo(l:aa aB)(s:aB):e9 (l++[s])=Oy (e9 l) (G0 s (e9 s.aQ) (e9 s.aW)):=by
 have h0:e9 []=(0,0,0):=by rw[e9]
 induction l with
 |nil=>rw[yz,uH,h0];unfold Oy;simp
 |cons a l ih=>
  rw[xz,uH,uH,ih];unfold Oy;grind
def sS(c:Int×Int×Int)(a:Int×Int×Int):Int×Int×Int:=(min a.1 c.1,min a.2.1 c.2.1,min a.2.2 c.2.2)
def alT{n x c k:Int}(hn:0<=n)(hk:0<=k)(hx:0<=x)(hc:0<=c):min (n*(k+min x c)) c=min (n*(k+x)) c:=by
 by_cases h:x<=c
 ·grind
 ·rw[Int.min_eq_right (show c<=x by omega)];by_cases h0:n=0
  ·simp_all
  ·have e1:1*(k+c)<=n*(k+c):=zM aq aq;have e2:1*(k+x)<=n*(k+x):=zM aq aq;omega
def oS:∀{l:aa aB},AW l->∀s∈l,(0<=s.bg/\s.bg<=67108864)/\(s.cg=4->0<=s.fN/\s.fN<=4096)/\(s.cg≠3->s.cg≠4->s.aQ=[])/\(s.cg≠3->s.aW=[])/\AW s.aQ/\AW s.aW
 |[],_,s,hs=>by cases hs
 |a::l,h,s,hs=>by
  rw[AW]at h;rcases zy.1 hs with rfl|hs
  ·simp_all
  ·exact oS h.2.2.2.2.2.2 s hs
def nn3(a:Int×Int×Int):Prop:=0<=a.1/\0<=a.2.1/\0<=a.2.2
def asH{s:aB}{a b:Int×Int×Int}(hc:0<=s.bg)(hN:s.cg=4->0<=s.fN)(ha:nn3 a)(hb:nn3 b):nn3 (G0 s a b):=by
 unfold nn3 at*;unfold G0;split
 ·simp_all
 ·split
  ·grind
  ·split
   ·rename_i h4;have:=hN h4;have e1:0<=s.fN*(1+a.1):=zI this aq;have e2:0<=s.fN*a.2.1:=zI this aq;have e3:0<=s.fN*(s.bg+a.2.2):=zI this aq;dsimp only;omega
   ·simp_all
def Lk:∀(n:Nat) (l:aa aB),zf l<n->AW l->nn3 (e9 l)
 |0,_,h,_=>aq
 |n+1,[],h,_=>by rw[show e9 []=(0,0,0)by rw[e9]];exact⟨by decide,by decide,by decide⟩
 |n+1,s::l,h,ho=>by
  have hz:=bw (l:=s::l) (zk ..);have hz2:=dY s l;rw[AW]at ho;have q1:=Lk n s.aQ aq ho.2.2.2.2.1;have q2:=Lk n s.aW aq ho.2.2.2.2.2.1;have q3:=Lk n l aq ho.2.2.2.2.2.2;have q4:=asH ho.1.1 (λh=>(ho.2.1 h).1) q1 q2;rw[uH];unfold nn3 Oy at*;grind
def rV{l:aa aB}(h:AW l):nn3 (e9 l):=Lk _ l (zC _) h
def Ev:∀{l:aa aB} (i:Nat),AW l->AW (l.take i)
 |[],i,h=>by rw[List.take_nil];exact h
 |s::l,0,h=>by rw[wj,AW];trivial
 |s::l,i+1,h=>by
  rw[AW]at h;rw[vi,AW];exact⟨h.1,h.2.1,h.2.2.1,h.2.2.2.1,h.2.2.2.2.1,h.2.2.2.2.2.1,Ev i h.2.2.2.2.2.2⟩
def M3(a:Int×Int×Int):qa:=⟨a.1,a.2.1,a.2.2⟩
def SE:Int×Int×Int:=(1099511627776,1099511627776,1099511627776)
def JW:Int×Int×Int:=(4097,9,67108865)
def amr{n x:Int}(h1:0<=n)(h2:n<=4096)(h3:0<=x)(h4:x<=1200000000000):0<=n*x/\n*x<=4915200000000000:=by
 have e1:n*x<=4096*x:=zM h2 h3;have e2:0<=n*x:=zI h1 h3;omega
def kO(w c:Int):(if c<w then c else w)=min w c:=aq
def atf(w c:Int):(if w<c then w else c)=min w c:=aq
def TH(a b c:Int):(if min a c<min b c then min b c else min a c)=min (max a b) c:=aq
def afR(a b c:Int):(if min b c<min a c then min a c else min b c)=min (max a b) c:=aq
section
variable {C x y m k n a:Int} (h0:0<=C) (h1:C<=1099511627776) (hx:0<=x)
include h0 h1 hx
theorem SH(hy:0<=y)(hy2:y<=67108864):min (ak (min x C+y)) C=min (x+y) C:=by
 rw[aM];omega
theorem Yx(hm:0<=m)(hk:0<=k)(hk2:k<=67108864):min (ak (min x C+ak (k+min m C))) C=min (x+(k+m)) C:=by
 have:ak (k+min m C)=k+min m C:=aM;rw[this,aM];omega
theorem aoy(hm:0<=m):min (ak (min x C+min m C)) C=min (x+m) C:=by
 rw[aM];omega
theorem aq2{z:Int}(hz:0<=z)(hy:0<=y)(hy2:y<=4915200000000001)(h:min y C=min z C):min (ak (min x C+y)) C=min (x+z) C:=by
 rw[aM];omega
omit hx in
theorem aed(hn:0<=n)(hn2:n<=4096)(ha:0<=a)(hk:0<=k)(hk2:k<=67108864):ak (n*ak (k+min a C))=n*(k+min a C)/\0<=n*(k+min a C)/\n*(k+min a C)<=4915200000000000/\0<=n*(k+a)/\min (n*(k+min a C)) C=min (n*(k+a)) C:=by
 have e1:ak (k+min a C)=k+min a C:=aM;have e2:=amr (x:=k+min a C) hn hn2 aq aq;rw[e1];exact⟨aM,e2.1,e2.2,zI hn aq,alT hn hk ha h0⟩
theorem aC3(hn:0<=n)(hn2:n<=4096)(ha:0<=a)(hk:0<=k)(hk2:k<=67108864):min (ak (min x C+ak (n*ak (k+min a C)))) C=min (x+n*(k+a)) C:=by
 obtain⟨q1,q2,q3,q4,q5⟩:=aed h0 h1 hn hn2 ha hk hk2;rw[q1];exact aq2 h0 h1 hx q4 q2 aq q5
theorem apc(hn:0<=n)(hn2:n<=4096)(ha:0<=a):min (ak (min x C+ak (1+ak (n*ak (1+min a C))))) C=min (x+(1+n*(1+a))) C:=by
 obtain⟨q1,q2,q3,q4,q5⟩:=aed (k:=1) h0 h1 hn hn2 ha aq aq;rw[q1];generalize n*(1+min a C)=y at*;rw[show ak (1+y)=1+y from aM];exact aq2 h0 h1 hx aq aq aq aq
theorem an3(hn:0<=n)(hn2:n<=4096)(ha:0<=a):min (ak (min x C+ak (n*min a C))) C=min (x+n*a) C:=by
 obtain⟨q1,q2,q3,q4,q5⟩:=aed (k:=0) h0 h1 hn hn2 ha aq aq;rw[Int.zero_add]at q2 q3 q4 q5;rw[Int.zero_add]at q5;rw[show ak (n*min a C)=n*min a C from aM];exact aq2 h0 h1 hx q4 q2 aq q5
end
def amF(M:aa aB->af sU)(l:aa aB)(hl:zR l<=1000000)(ho:AW l)(hM:∀s∈l,M s.aQ=V (M3 (sS SE (e9 s.aQ)))/\M s.aW=V (M3 (sS SE (e9 s.aW)))):amJ M l=V (M3 (sS SE (e9 l))):=by
 obtain⟨v,e1,hv⟩:=cH (rnd:=Jk M) l.length (λi (b:qa)=>⟨l,(zR l:Int),(i:Int),⟨0,0,0⟩,b⟩) (λi b=>b=M3 (sS SE (e9 (l.take i)))) (λi bb hi hb=>by
  have hw:=jJ hi hl;obtain⟨k1,k2⟩:=hM _ (bq hi);obtain⟨⟨c1,c2⟩,hN,_,_,o1,o2⟩:=oS ho _ (bq hi);obtain⟨x1,x2,x3⟩:=rV (Ev i ho);obtain⟨a1,a2,a3⟩:=rV o1;obtain⟨b1,b2,b3⟩:=rV o2;refine⟨M3 (sS SE (e9 (l.take (i+1)))),?_,rfl⟩;have hi1:(i:Int)<(zR l:Int):=aq;have hi0:(0:Int)<=(i:Int):=aq;rw[bC hi,Oo];generalize e9 (l.take i)=x at*;generalize e9 l[i]!.aQ=a at*;generalize e9 l[i]!.aW=b at*;obtain⟨X1,X2,X3⟩:=x;obtain⟨A1,A2,A3⟩:=a;obtain⟨B1,B2,B3⟩:=b;have hb:bb=⟨min X1 1099511627776,min X2 1099511627776,min X3 1099511627776⟩:=hb;have k1:M l[i]!.aQ=V ⟨min A1 1099511627776,min A2 1099511627776,min A3 1099511627776⟩:=k1;have k2:M l[i]!.aW=V ⟨min B1 1099511627776,min B2 1099511627776,min B3 1099511627776⟩:=k2;subst hb;have z0:(0:Int)<=1099511627776:=by decide
  have z1:(1099511627776:Int)<=1099511627776:=by decide
  dsimp only at x1 x2 x3 a1 a2 a3 b1 b2 b3;unfold Jk;simp only[zi,hi1,k1,k2,hw];by_cases h1:l[i]!.cg=1
  ·have e:G0 l[i]! (A1,A2,A3) (B1,B2,B3)=(1,1,l[i]!.bg):=by unfold G0;rw[bI h1]
   rw[bZ h1,cI,e,kO,kO,kO,SH z0 z1 x1 aq aq,SH z0 z1 x2 aq aq,SH z0 z1 x3 c1 c2];rfl
  ·rw[bY h1,cw];by_cases h3:l[i]!.cg=3
   ·have e:G0 l[i]! (A1,A2,A3) (B1,B2,B3)=(1+max A1 B1,max A2 B2,l[i]!.bg+max A3 B3):=by unfold G0;rw[bO h1,bI h3]
    rw[bZ h3,cI,e,TH,TH,TH,kO,kO,kO,Yx z0 z1 x1 aq aq aq,aoy z0 z1 x2 aq,Yx z0 z1 x3 aq c1 c2];rfl
   ·rw[bY h3,cw];by_cases h4:l[i]!.cg=4
    ·obtain⟨n1,n2⟩:=hN h4;have e:G0 l[i]! (A1,A2,A3) (B1,B2,B3)=(1+l[i]!.fN*(1+A1),l[i]!.fN*A2,l[i]!.fN*(l[i]!.bg+A3)):=by unfold G0;rw[bO h1,bO h3,bI h4]
     rw[bZ h4,cI,e,kO,kO,kO,apc z0 z1 x1 n1 n2 a1,an3 z0 z1 x2 n1 n2 a2,aC3 z0 z1 x3 n1 n2 a3 c1 c2];rfl
    ·have e:G0 l[i]! (A1,A2,A3) (B1,B2,B3)=(1,0,l[i]!.bg):=by unfold G0;rw[bO h1,bO h3,bO h4]
     rw[bY h4,cw,e,kO,kO,kO,SH z0 z1 x1 aq aq,SH z0 z1 x2 aq aq,SH z0 z1 x3 c1 c2];rfl) (λb _=>by unfold Jk;simp) (b:=⟨0,0,0⟩) (by rw[wj,show e9 []=(0,0,0)by rw[e9]];rfl)
 have e1':L6 M ⟨l,(zR l:Int),0,⟨0,0,0⟩,⟨0,0,0⟩⟩=V ⟨l,(zR l:Int),(zR l:Int),⟨0,0,0⟩,v⟩:=e1;unfold amJ;simp_all
def JB:∀(n:Nat) (l:aa aB),zf l<n->fM l<=1000->AW l->Si n l=V (M3 (sS SE (e9 l)))
 |0,_,h,_,_=>aq
 |n+1,l,h,h2,ho=>amF (Si n) l (by have:=j5 l;omega) ho (λs hs=>⟨JB n _ (by have:=bw hs;omega) (by have:=gA hs;omega) (oS ho s hs).2.2.2.2.1,JB n _ (by have:=bw hs;omega) (by have:=gA hs;omega) (oS ho s hs).2.2.2.2.2⟩)
def ai6(l:aa aB)(h:fM l<=1000)(ho:AW l):ZW l=V (M3 (sS SE (e9 l))):=eM (zf l+1) λn hn=>JB n l aq h ho
def ave(M:aa aB->af NU)(l:aa aB)(hl:zR l<=1000000)(ho:AW l)(hM:∀s∈l,M s.aQ=V (sS JW (e9 s.aQ))/\M s.aW=V (sS JW (e9 s.aW))):s90 M l=V (sS JW (e9 l)):=by
 obtain⟨v,e1,hv⟩:=cH (rnd:=Xn M) l.length (λi (b:Int×Int×Int)=>⟨l,b.1,b.2.1,b.2.2,(i:Int)⟩) (λi b=>b=sS JW (e9 (l.take i))) (λi bb hi hb=>by
  have hw:=jJ hi hl;obtain⟨k1,k2⟩:=hM _ (bq hi);obtain⟨⟨c1,c2⟩,hN,hT,hE,o1,o2⟩:=oS ho _ (bq hi);obtain⟨x1,x2,x3⟩:=rV (Ev i ho);obtain⟨a1,a2,a3⟩:=rV o1;obtain⟨b1,b2,b3⟩:=rV o2;have zT:l[i]!.cg≠3->l[i]!.cg≠4->e9 l[i]!.aQ=(0,0,0):=λh3 h4=>by rw[hT h3 h4,e9]
  have zE:l[i]!.cg≠3->e9 l[i]!.aW=(0,0,0):=λh3=>by rw[hE h3,e9]
  refine⟨sS JW (e9 (l.take (i+1))),?_,rfl⟩;have hi1:(i:Int)<(zR l:Int):=aq;have hi0:(0:Int)<=(i:Int):=aq;rw[bC hi,Oo];generalize e9 (l.take i)=x at*;generalize e9 l[i]!.aQ=a at*;generalize e9 l[i]!.aW=b at*;obtain⟨X1,X2,X3⟩:=x;obtain⟨A1,A2,A3⟩:=a;obtain⟨B1,B2,B3⟩:=b;have hb:bb=(min X1 4097,min X2 9,min X3 67108865):=hb;have k1:M l[i]!.aQ=V (min A1 4097,min A2 9,min A3 67108865):=k1;have k2:M l[i]!.aW=V (min B1 4097,min B2 9,min B3 67108865):=k2;subst hb;have z0:(0:Int)<=4097:=by decide
  have z1:(4097:Int)<=1099511627776:=by decide
  have y0:(0:Int)<=9:=by decide
  have y1:(9:Int)<=1099511627776:=by decide
  have u0:(0:Int)<=67108865:=by decide
  have u1:(67108865:Int)<=1099511627776:=by decide
  dsimp only at x1 x2 x3 a1 a2 a3 b1 b2 b3;unfold Xn;simp only[cV,hi1,hi0,cI,dM,k1,k2,hw,sv,oW,atf,afR];by_cases h4:l[i]!.cg=4
  ·obtain⟨n1,n2⟩:=hN h4;have h1:¬l[i]!.cg=1:=aq;have h3:¬l[i]!.cg=3:=aq;have e:G0 l[i]! (A1,A2,A3) (B1,B2,B3)=(1+l[i]!.fN*(1+A1),l[i]!.fN*A2,l[i]!.fN*(l[i]!.bg+A3)):=by unfold G0;rw[bO h1,bO h3,bI h4]
   rw[bZ h4,bY h1,cI,cw,e,apc z0 z1 x1 n1 n2 a1,an3 y0 y1 x2 n1 n2 a2,aC3 u0 u1 x3 n1 n2 a3 c1 c2];rfl
  ·rw[bY h4,cw];by_cases h1:l[i]!.cg=1
   ·have h3:¬l[i]!.cg=3:=aq;have ea:=zT h3 h4;have eb:=zE h3;cases ea;cases eb;have e:G0 l[i]! (0,0,0) (0,0,0)=(1,1,l[i]!.bg):=by unfold G0;rw[bI h1]
    rw[bZ h1,cI,e,Yx z0 z1 x1 aq aq aq,SH y0 y1 x2 aq aq,Yx u0 u1 x3 aq c1 c2];simp only[sS,JW,Oy,Int.max_self,Int.add_zero]
   ·rw[bY h1,cw,Yx z0 z1 x1 aq aq aq,aoy y0 y1 x2 aq,Yx u0 u1 x3 aq c1 c2];by_cases h3:l[i]!.cg=3
    ·have e:G0 l[i]! (A1,A2,A3) (B1,B2,B3)=(1+max A1 B1,max A2 B2,l[i]!.bg+max A3 B3):=by unfold G0;rw[bO h1,bI h3]
     rw[e];rfl
    ·have ea:=zT h3 h4;have eb:=zE h3;cases ea;cases eb;have e:G0 l[i]! (0,0,0) (0,0,0)=(1,0,l[i]!.bg):=by unfold G0;rw[bO h1,bO h3,bO h4]
     rw[e];simp only[sS,JW,Oy,Int.max_self,Int.add_zero]) (λb _=>by unfold Xn;simp) (b:=(0,0,0)) (by rw[wj,show e9 []=(0,0,0)by rw[e9]];rfl)
 have e1':VD M ⟨l,0,0,0,0⟩=V ⟨l,v.1,v.2.1,v.2.2,(zR l:Int)⟩:=e1;unfold s90;rw[e1'];rw[hv];simp
def QC:∀(n:Nat) (l:aa aB),zf l<n->fM l<=1000->AW l->m90 n l=V (sS JW (e9 l))
 |0,_,h,_,_=>aq
 |n+1,l,h,h2,ho=>ave (m90 n) l (by have:=j5 l;omega) ho (λs hs=>⟨QC n _ (by have:=bw hs;omega) (by have:=gA hs;omega) (oS ho s hs).2.2.2.2.1,QC n _ (by have:=bw hs;omega) (by have:=gA hs;omega) (oS ho s hs).2.2.2.2.2⟩)
def Z7(l:aa aB)(h:fM l<=1000)(ho:AW l):r90 l=V (sS JW (e9 l)):=eM (zf l+1) λn hn=>QC n l aq h ho
def V8(f:aU)(h:fM f.bM+kH (f.au.map (·.aG))<=900)(hh:zR f.au<=1000000)(hvl:zR f.ai<=1000000):acE f=V (pL f):=by
 obtain⟨r,q,e1,e2,e3⟩:=ajm f h hh;unfold acE pL;rw[e1];dsimp only;rw[e2];dsimp only;rw[bY (show ¬((zR f.au:Int)<(zR f.au:Int))by omega),cw,uR,e3];unfold qm;generalize (f.au.all λh=>J (dT h.aG<=12))=x;generalize J (j0 f.bM<=12)=y;generalize fI f.bM=z;by_cases h1:64<(zR f.ai:Int)
 ·grind
 by_cases h2:8<(zR f.au:Int)
 ·grind
 rw[bY h1,bY h2,bZ (show zR f.ai<=64 by omega),bZ (show zR f.au<=8 by omega)];simp only[Bool.true_and];cases hx:(x&&y&& !z)with
 |false=>rfl
 |true=>
  rw[akR f.ai hvl];dsimp only[Bool.not_true,cw];rw[bO (by decide)];by_cases hvc:jK f.ai=0
  case neg=>simp[hvc]
  have hv:de f.ai:=by
   apply nw;unfold jK at hvc;by_cases h0:cz (ni f.ai) f.ai 0=0
   ·exact h0
   ·rw[bI h0]at hvc;exact ei hvc h0
  rw[bZ hvc,cI,cw,bO (by simpa using hvc),akQ f hv hh];dsimp only;by_cases hhc:cz (kQ f) f.au 0=0
  case neg=>simp[hhc]
  rw[bZ hhc,cI,cw,bO (by simpa using hhc),aia f hv f.bM O aq];dsimp only;by_cases hsc:cc f O f.bM=0
  case neg=>simp[hsc]
  have ho:AW f.bM:=AI f _ f.bM O (zC _) hsc;rw[bZ hsc,cI,cw,bO (by simpa using hsc)];have e:=ai6 f.bM aq ho;unfold Xe;generalize e9 f.bM=u at e ⊢;obtain⟨a,b,c⟩:=u;have e:ZW f.bM=V ⟨min a 1099511627776,min b 1099511627776,min c 1099511627776⟩:=e;rw[e];by_cases a1:4096<a
  ·simp[a1,show 4096<min a 1099511627776 by omega]
  ·by_cases b1:8<b
   ·simp[b1,show 8<min b 1099511627776 by omega]
   ·by_cases d1:67108864<c
    ·simp[d1,show 67108864<min c 1099511627776 by omega]
    ·simp[a1,b1,d1,show ¬4096<min a 1099511627776 by omega,show ¬8<min b 1099511627776 by omega,show ¬67108864<min c 1099511627776 by omega]
def Z9(f:aU)(h:fM f.bM+kH (f.au.map (·.aG))<=900)(hh:zR f.au<=1000000)(hvl:zR f.ai<=1000000):m78 f=V (pL f):=by
 unfold m78 pL;rw[am0 f h hh];dsimp only;cases hx:qm f with
 |false=>rfl
 |true=>
  rw[afT f.ai hvl];dsimp only[cond_true,cond_false];rw[bO (by decide)];by_cases hvc:jK f.ai=0
  case neg=>simp[hvc]
  have hv:de f.ai:=by
   apply nw;unfold jK at hvc;omega
  obtain⟨i,e1,hc⟩:=ae4 f hv hh;rw[bZ hvc,cI,cw,bO (by simpa using hvc),e1];dsimp only;rcases hc with ⟨rfl,hc⟩|⟨hi,h0,hc⟩
  ·rw[bO (show ¬(cz (kQ f) f.au 0≠0)by rw[hc];simp),bY (show ¬((zR f.au:Int)<(zR f.au:Int))by omega),cw,aix f hv f.bM O aq];dsimp only;by_cases hsc:cc f O f.bM=0
   case neg=>simp[hsc]
   have ho:AW f.bM:=AI f _ f.bM O (zC _) hsc;rw[bZ hsc,cI,cw,bO (show ¬(cc f O f.bM≠0)by rw[hsc];simp)];have e:=Z7 f.bM aq ho;unfold Xe;generalize e9 f.bM=u at e ⊢;obtain⟨a,b,c⟩:=u;have e:r90 f.bM=V (min a 4097,min b 9,min c 67108865):=e;rw[e];by_cases a1:4096<a
   ·simp[a1,show 4096<min a 4097 by omega]
   ·by_cases b1:8<b
    ·simp[b1,show 8<min b 9 by omega]
    ·by_cases d1:67108864<c
     ·simp[d1,show 67108864<min c 67108865 by omega]
     ·simp[a1,b1,d1,show ¬4096<min a 4097 by omega,show ¬8<min b 9 by omega,show ¬67108864<min c 67108865 by omega]
  ·obtain⟨j,h2,h3⟩:=OR f hh i aq f.au[i]!;rw[bI (show cz (kQ f) f.au 0≠0 by rw[hc];exact h0),hc];have hi1:(i:Int)<(zR f.au:Int):=aq;have hi0:(0:Int)<=(i:Int):=aq;revert h0;unfold kQ;simp only[zi,az.eta,dD.eta,DJ,DI,h2,Du f.ai hv,hi1];generalize kr f.au[i]!.fName=B;generalize ((f.au.take i).any λw=>w.fName.toList==f.au[i]!.fName.toList)=A at h3;generalize jj f.au[i]!.ah f.au[i]!.ag=C;generalize fA f.ai O f.au[i]!.aG=T;rcases h3 with ⟨rfl,rfl⟩|⟨hj,h4,rfl⟩
   ·cases B<;>cases C<;>by_cases hT:T=0<;>simp[hT]
   ·have hj1:(j:Int)<(i:Int):=aq;have hj2:(j:Int)<(zR f.au:Int):=aq;have hj0:(0:Int)<=(j:Int):=aq;simp only[cV,hj0,hj1,hj2,h4,dM,cI];cases B<;>simp
def mC{f:aU}(h:pL f=0):de f.ai:=by
 unfold pL at h;by_cases h1:qm f=G
 ·simp_all
 by_cases hvc:jK f.ai=0
 ·apply nw;unfold jK at hvc;omega
 ·omega
structure CS where
 (vals outs:List Int)
 time:Int
def iX{f:aU}{top:Bool}{x:aB}{l:aa aB}(h:cc f top (x::l)=0):ox f (top&&l.isEmpty) x=0/\cc f G x.aQ=0/\cc f G x.aW=0/\cc f top l=0:=by
 rw[cc]at h;split at h
 ·exact ei h ‹_›
 rename_i h1;split at h
 ·exact ei h ‹_›
 rename_i h2;split at h
 ·exact ei h ‹_›
 rename_i h3;exact⟨by simpa using h1,by simpa using h2,by simpa using h3,h⟩
structure akm (f:aU) (last:Bool) (x:aB):Prop where
 do_:0<=x.cg/\x.cg<=6
 cost:0<=x.bg/\x.bg<=67108864
 n4:x.cg=4->0<=x.fN/\x.fN<=4096
 var:x.cg=0\/x.cg=5->0<=x.dJ/\x.dJ<zR f.ai
 n5:x.cg=5->0<=x.fN/\x.fN<zR f.au
 ad0:x.cg=6->last=O/\(1<=zR x.aR/\zR x.aR<=32)/\(0:Int)<=x.aR[0]!/\gI x.aR=O/\x.aR[zR x.aR-1]!<=67108864
 term:fA f.ai G x.aG=0
def su{f:aU}{last:Bool}{x:aB}(h:ox f last x=0):akm f last x:=by
 unfold ox at h;by_cases h1:dL f x last=G
 ·rw[bI h1]at h;cases h
 rw[bO h1]at h;by_cases h2:ug x=G
 ·rw[bI h2]at h;cases h
 rw[bO h2]at h;have h1:dL f x last=O:=by simpa using h1
 have h2:ug x=O:=by simpa using h2
 unfold ug at h2;simp only[zh,decide_eq_true_eq]at h2;obtain⟨⟨g1,g2⟩,g3⟩:=h2;unfold dL Bu at h1;dsimp only at h1;have hd:0<=x.cg/\x.cg<=6:=by
  by_cases a0:x.cg=0
  ·omega
  by_cases a1:x.cg=1
  ·omega
  by_cases a2:x.cg=2
  ·omega
  by_cases a3:x.cg=3
  ·omega
  by_cases a4:x.cg=4
  ·omega
  by_cases a5:x.cg=5
  ·omega
  by_cases a6:x.cg=6
  ·omega
  ·simp[a0,a1,a2,a3,a4,a5,a6]at h1
 refine⟨hd,⟨g1.1,?_⟩,λq=> ?_,λq=> ?_,λq=> ?_,λq=> ?_,h⟩
 ·have:=g1.2;split at this<;>omega
 ·rw[bI q]at g2;simpa using g2
 ·rcases q with q|q
  ·simp[q]at h1;omega
  ·simp[q]at h1;omega
 ·simp[q]at h1;omega
 ·rw[bI q]at g3;simp only[gz,q,Int.reduceEq,zh,decide_eq_true_eq]at h1 g3;exact⟨h1.1.1.1.1.2,h1.2.1.1,h1.2.1.2,h1.2.2,g3⟩
def WY(x:aB)(l:aa aB):e9 (x::l)=
  (if x.cg=1 then(1+(e9 l).1,1+(e9 l).2.1,x.bg+(e9 l).2.2)
   else if x.cg=3 then(1+max (e9 x.aQ).1 (e9 x.aW).1+(e9 l).1,max (e9 x.aQ).2.1 (e9 x.aW).2.1+(e9 l).2.1,x.bg+max (e9 x.aQ).2.2 (e9 x.aW).2.2+(e9 l).2.2)
   else if x.cg=4 then(1+x.fN*(1+(e9 x.aQ).1)+(e9 l).1,x.fN*(e9 x.aQ).2.1+(e9 l).2.1,x.fN*(x.bg+(e9 x.aQ).2.2)+(e9 l).2.2)
   else(1+(e9 l).1,(e9 l).2.1,x.bg+(e9 l).2.2)):=by rw[e9]
def iR(f:aU):∀(n:Nat) (l:aa aB) (top:Bool),zf l<n->cc f top l=0->0<=(e9 l).2.1/\0<=(e9 l).2.2
 |0,_,_,h,_=>aq
 |n+1,[],_,_,_=>by rw[e9];exact⟨zw _,zw _⟩
 |n+1,x::l,top,h,hc=>by
  obtain⟨h1,h2,h3,h4⟩:=iX hc;have ho:=su h1;have hs:=bw (zk (a:=x) (l:=l));have ht:=dY x l;have i1:=iR f n x.aQ G aq h2;have i2:=iR f n x.aW G aq h3;have i3:=iR f n l top aq h4;have hcost:=ho.cost;rw[WY];by_cases a1:x.cg=1
  ·rw[bI a1];dsimp only;omega
  by_cases a3:x.cg=3
  ·rw[bO a1,bI a3];dsimp only;omega
  by_cases a4:x.cg=4
  ·rw[bO a1,bO a3,bI a4];have hn:=ho.n4 a4;have p1:=zI hn.1 i1.1;have p2:=zI hn.1 (show 0<=x.bg+(e9 x.aQ).2.2 by omega);dsimp only;omega
  ·rw[bO a1,bO a3,bO a4];dsimp only;omega
structure Aft (vars:List bf) (s r:CS) (o t:Int):Prop where
 vals:VIn vars r.vals
 outs:(zR s.outs:Int)<=zR r.outs/\(zR r.outs:Int)<=zR s.outs+o
 time:s.time<=r.time/\r.time<=s.time+t
def uO(x:aB):Int×Int:=if x.cg=1 then(1,x.bg)else if x.cg=3 then(max (e9 x.aQ).2.1 (e9 x.aW).2.1,x.bg+max (e9 x.aQ).2.2 (e9 x.aW).2.2)
 else if x.cg=4 then(x.fN*(e9 x.aQ).2.1,x.fN*(x.bg+(e9 x.aQ).2.2))else(0,x.bg)
def afQ(x:aB)(l:aa aB):(e9 (x::l)).2.1=(uO x).1+(e9 l).2.1/\(e9 (x::l)).2.2=(uO x).2+(e9 l).2.2:=by
 rw[WY];unfold uO;split
 ·exact⟨rfl,rfl⟩
 split
 ·exact⟨rfl,rfl⟩
 split
 ·exact⟨rfl,rfl⟩
 ·refine⟨?_,rfl⟩;dsimp only;omega
def Uj{l:aa Int}(h:gI l=O):∀{i j:Nat},i<j->j<zR l->l[i]! <l[j]! :=by
 intro i j hij hj;induction j with
 |zero=>omega
 |succ j ih=>
  have h1:=(jM l).1 h j hj;by_cases hi:i=j
  ·subst hi;exact h1
  ·have:=ih aq aq;omega
structure Bud (f:aU) (top:Bool) (l:List aB) (s:CS):Prop where
 hc:cc f top l=0
 vals:VIn f.ai s.vals
 t0:0<=s.time
 t:s.time+(e9 l).2.2<=134217728
 o:(zR s.outs:Int)+(e9 l).2.1<=8
structure aKf (f:aU) (x:aB) (n:Nat) (s:CS):Prop where
 hc:cc f G x.aQ=0
 term:fA f.ai G x.aG=0
 cost:0<=x.bg
 vals:VIn f.ai s.vals
 t0:0<=s.time
 t:s.time+n*(x.bg+(e9 x.aQ).2.2)<=134217728
 o:(zR s.outs:Int)+n*(e9 x.aQ).2.1<=8
def drop_cons{α:Type}[Inhabited α]{l:aa α}{i:Nat}(h:i<zR l):l.drop i=l[i]! ::l.drop (i+1):=by rw[getElem!_pos l i h];exact yN h
def vJ{x:aB}{l:aa aB}(hx:x∈l):fM x.aQ<=fM l/\fM x.aW<=fM l:=by have:=Dm hx;have:=pK x;omega
def vv{f:aU}{x:aB}:∀{top:Bool} {l:aa aB},cc f top l=0->x∈l->∃last,akm f last x
 |_,[],_,h=>by cases h
 |_,y::l,hc,h=>by
  obtain⟨h1,h2,h3,h4⟩:=iX hc;rcases zy.1 h with rfl|h
  ·exact⟨_,su h1⟩
  ·exact vv h4 h
def tab(n:Nat)(g:Nat->aL):aa aL:=(zN n).map g
def gQ(n:Nat)(g:Nat->aL):zR (tab n g)=n:=by simp[tab]
def oK{n:Nat}{g:Nat->aL}{i:Nat}(h:i<n):(tab n g)[i]! =g i:=by
 rw[getElem!_pos _ i (by rw[gQ];exact h)];simp[tab]
def qw(n:Nat)(g:Nat->aL):tab (n+1) g=tab n g++[g n]:=by simp[tab,List.range_succ]
def ig{n:Nat}{g g':Nat->aL}(h:∀i,i<n->g i=g' i):tab n g=tab n g':=
 zZ λi hi=>h i (List.mem_range.1 hi)
def LW{n:Nat}{g:Nat->aL}{i:Nat}(x:aL):(tab n g).set i x=tab n (λj=>if j=i then x else g j):=by
 apply xY
 ·simp[tab]
 ·intro j h1 h2;simp only[tab,List.getElem_set,yL,List.getElem_range];by_cases c:i=j
  ·subst c;simp
  ·rw[bO c,bO (λe=>c e.symm)]
def aal(l:aa aL):tab l.length (λi=>l[i]!)=l:=by
 apply xY
 ·simp[tab]
 ·intro j h1 h2;simp only[tab,yL,List.getElem_range];exact getElem!_pos l j h2
def RC{n:Nat}{g:Nat->aL}{l:aa aL}(h1:zR l=n)(h2:∀i,i<n->g i=l[i]!):tab n g=l:=by
 subst h1;rw[ig h2,aal]
def tr(s:ay):aJ:=⟨s.ai,s.aD,s.aF,s.aI⟩
structure eR (n m:Nat) (s:ay):Prop where
 len:zR s.ai=n
 vars:∀i,i<n->NN s.ai[i]!
 count:NN s.aD
 sl:zR s.aF<=m
 slots:∀i,i<zR s.aF->NN s.aF[i]!
 time:NN s.aI
def eR.weak{n m m':Nat}{s:ay}(h:eR n m s)(k:m<=m'):eR n m' s:=⟨h.len,h.vars,h.count,zH h.sl k,h.slots,h.time⟩
def gp(s:ay)(c:Int):ay:=⟨s.ai,s.aD,s.aF,pO 8 s.aI (eC c)⟩
def Ql(f:aU)(s:ay)(v:Int)(n:aL):ay:=⟨s.ai.set v.toNat (iZ n f.ai[v.toNat]!.ah f.ai[v.toNat]!.ag),s.aD,s.aF,s.aI⟩
def YN(s:ay)(v:aL):ay:=
 ⟨s.ai,pO 8 s.aD (eC 1),tab s.aF.length (λk=>if cR s.aD k=O then cG s.aF[k]! v else s.aF[k]!)++[v],s.aI⟩
def Mp(a b:aa aL)(i:Nat):aL:=if zR a<=i then b[i]! else if zR b<=i then a[i]! else cG a[i]! b[i]!
def l8(a b:ay):ay:=
 ⟨tab a.ai.length (λi=>cG a.ai[i]! b.ai[i]!),cG a.aD b.aD,tab (max a.aF.length b.aF.length) (Mp a.aF b.aF),cG a.aI b.aI⟩
def mD{c:Int}(h:cC c):NN (eC c):=NN.one h.1 h.2
def mL{n m:Nat}{s:ay}(h:eR n m s){c:Int}(hc:cC c):eR n m (gp s c):=
 ⟨h.len,h.vars,h.count,h.sl,h.slots,let ⟨_,_,_,k⟩:=oN 8 h.time (mD hc);k⟩
def W0{f:aU}{n m:Nat}{s:ay}(h:eR n m s){v:Int}{x:aL}(hx:NN x):eR n m (Ql f s v x):=by
 refine⟨?_,λi hi=> ?_,h.count,h.sl,h.slots,h.time⟩
 ·show zR (s.ai.set _ _)=n;rw[yw];exact h.len
 ·show NN (s.ai.set _ _)[i]!;have hl:=h.len;rw[getElem!_pos _ i (by rw[yw];omega),List.getElem_set];split
  ·exact let ⟨_,_,_,k,_⟩:=ij hx f.ai[v.toNat]!.ah f.ai[v.toNat]!.ag;k
  ·have:=h.vars i hi;rw[getElem!_pos _ i aq]at this;exact this
def akW{n m:Nat}{s:ay}(h:eR n m s){x:aL}(hx:NN x):eR n (m+1) (YN s x):=by
 have hs:=h.sl;have hl:zR (YN s x).aF=zR s.aF+1:=by simp[YN,gQ]
 refine⟨h.len,h.vars,let ⟨_,_,_,k⟩:=oN 8 h.count (mD (c:=1) ⟨by decide,by decide⟩);k,aq,λi hi=> ?_,h.time⟩;rw[hl]at hi;have hlt:=gQ s.aF.length (λk=>if cR s.aD k=O then cG s.aF[k]! x else s.aF[k]!);show NN (tab s.aF.length (λk=>if cR s.aD k=O then cG s.aF[k]! x else s.aF[k]!)++[x])[i]!;by_cases c:i<zR s.aF
 ·have hg:=oK (g:=(λk=>if cR s.aD k=O then cG s.aF[k]! x else s.aF[k]!)) c;generalize tab s.aF.length (λk=>if cR s.aD k=O then cG s.aF[k]! x else s.aF[k]!)=T at*;rw[getElem!_pos _ i (by rw[zg];omega),wg aq,<-getElem!_pos T i aq,hg];split
  ·exact jU (h.slots i c) hx
  ·exact h.slots i c
 ·generalize tab s.aF.length (λk=>if cR s.aD k=O then cG s.aF[k]! x else s.aF[k]!)=T at*;rw[getElem!_pos _ i (by rw[zg,yg];omega),wC aq];simpa using hx
def asT{a b:aa aL}(ha:∀i,i<zR a->NN a[i]!)(hb:∀i,i<zR b->NN b[i]!){i:Nat}(hi:i<max a.length b.length):NN (Mp a b i):=by
 unfold Mp;split
 ·exact hb i aq
 split
 ·exact ha i aq
 ·exact jU (ha i aq) (hb i aq)
def E4{n m:Nat}{s t:ay}(h:eR n m s)(k:eR n m t):eR n m (l8 s t):=by
 have h1:=h.len;have h2:=h.sl;have k2:=k.sl;refine⟨by show zR (tab _ _)=n;rw[gQ];exact h1,λi hi=> ?_,jU h.count k.count,by show zR (tab _ _)<=m;rw[gQ];omega,λi hi=> ?_,jU h.time k.time⟩
 ·show NN (tab _ _)[i]!;rw[oK aq];exact jU (h.vars i hi) (k.vars i hi)
 ·have hi:i<zR (tab (max s.aF.length t.aF.length) (Mp s.aF t.aF)):=hi;rw[gQ]at hi;show NN (tab _ _)[i]!;rw[oK hi];exact asT h.slots k.slots hi
def tE(i:aL)(ks:aa aL):Nat->aL
 |0=>cM
 |n+1=>if cR i n=O then cG (tE i ks n) ks[n]! else tE i ks n
def WC(vars:aa aL)(t:az)(k:aa aL):aL:=
 if t.bE=0 then eC t.fN else if t.bE=24 then vars[t.fN.toNat]! else if t.bE=6 then(pX 6 k[0]!).1 else if t.bE=7 then(pX 7 k[0]!).1
 else if t.bE=23 then(if cR k[0]! 0=G then k[1]! else if cD k[0]! =G then k[2]! else cG k[1]! k[2]!)
 else if t.bE=25 then tE (iZ k[0]! 0 ((zR k:Int)-2)) (k.drop 1) (k.drop 1).length else pO t.bE k[0]! k[1]!
def cK(vars:aa aL)(t:az):aL:=WC vars t (t.ax.attach.map λk=>cK vars k.1)
termination_by zf t
decreasing_by exact az.eV k.2
def W7(vars:aa aL)(t:az):cK vars t=WC vars t (t.ax.map (cK vars)):=by
 rw[cK];simp
def mapA{vars:aa aL}{t:az}{i:Nat}(h:i<zR t.ax):(t.ax.map (cK vars))[i]! =cK vars t.ax[i]! :=by
 rw[getElem!_pos _ i (by simpa using h),getElem!_pos _ i h,yL]
def Dw{i:aL}{ks:aa aL}(hk:∀j,j<zR ks->NN ks[j]!):∀n,n<=zR ks->NV (tE i ks n)/\((∃j,j<n/\cR i (j:Nat)=O)->NN (tE i ks n))
 |0,_=>⟨.inl rfl,λ⟨j,h,_⟩=>aq⟩
 |n+1,hn=>by
  obtain⟨h1,h2⟩:=Dw (i:=i) hk n aq;rw[tE];by_cases c:cR i (n:Nat)=O
  ·rw[bI c];have hv:=fe h1 (.inr (hk n aq));have:NN (cG (tE i ks n) ks[n]!):=by
    rcases h1 with e|h
    ·rw[e,FE];exact hk n aq
    ·exact jU h (hk n aq)
   exact⟨hv,λ_=>this⟩
  ·rw[bO c];refine⟨h1,λ⟨j,h,k⟩=>h2 ⟨j,?_,k⟩⟩;by_cases e:j=n
   ·simp_all
   ·omega
def Zf{a:aL}(ha:NN a){n:Nat}(h0:1<=n)(hn:n<=1000000):∃j:Nat,j<n/\cR (iZ a 0 ((n:Int)-1)) (j:Nat)=O:=by
 obtain⟨_,_,_,hv,hr⟩:=ij ha 0 ((n:Int)-1);have hr:=hr ⟨by decide,by decide⟩ ⟨aq,aq⟩ aq;rcases hr with ⟨e,_⟩|hr
 ·exact ei e hv.ne
 ·obtain⟨x,_,h2⟩:=hr.lo;refine⟨(iZ a 0 ((n:Int)-1)).ah.toNat,aq,?_⟩;rw[show (((iZ a 0 ((n:Int)-1)).ah.toNat:Nat):Int)=(iZ a 0 ((n:Int)-1)).ah by omega];exact nh ⟨zw _,hv.le,by rw[Int.sub_self];exact xK _⟩
def rY(x:Int):W6 x=eC x:=rfl
def C7(x:Int):m36 x=eC x:=rfl
def Gf{vars:aa bf}{t:az}(h:(iN vars t).isSome=O):∀k∈t.ax,(iN vars k).isSome=O:=λk hk=>by
 rw[vZ]at h;cases ha:lN (t.ax.map (iN vars))with
 |none=>rw[ha]at h;cases h
 |some r=>
  have hr:=rS ha;have hm:iN vars k∈r.map V:=by rw[<-hr];exact List.mem_map_of_mem hk
  obtain⟨s,h1,h2⟩:=zL.1 hm;rw[<-h2];rfl
def agf{vars:aa bf}{t:az}(h0:t.bE=0)(h:(iN vars t).isSome=O):cC t.fN:=by
 rw[vZ]at h;cases ha:lN (t.ax.map (iN vars))with
 |none=>rw[ha]at h;cases h
 |some r=>
  rw[ha]at h;dsimp only at h;split at h
  ·rename_i hl;unfold BZ jy at hl;simp only[h0,dM,decide_eq_true_eq]at hl;unfold cC;omega
  ·cases h
def ac4(M:az->ay->af rF){vars:aa aL}{st:ay}{ks:aa az}(hl:zR ks<=1000000)(hK:∀j,j<zR ks->M ks[j]! st=V (cK vars ks[j]!,st)/\NN (cK vars ks[j]!)){H:aL}(hH:NN H)(z:aL):
  J7 M ⟨ks,(zR ks:Int),0,st,z,H,cM⟩=V ⟨ks,(zR ks:Int),(zR ks:Int),st,z,H,tE H (ks.map (cK vars)) ks.length⟩:=by
 have hmap:∀j,j<zR ks->(ks.map (cK vars))[j]! =cK vars ks[j]! :=λj h=>by rw[getElem!_pos _ j (by simpa using h),getElem!_pos _ j h,yL]
 have hkn:∀j,j<zR (ks.map (cK vars))->NN (ks.map (cK vars))[j]! :=λj h=>by
  have h:j<zR ks:=by simpa using h
  rw[hmap j h];exact(hK j h).2
 obtain⟨v,e1,hv⟩:=cH (rnd:=Jg M) ks.length (λi (_:Unit)=>⟨ks,(zR ks:Int),(i:Int),st,z,H,tE H (ks.map (cK vars)) i⟩) (λi _=>True) (λi b hi _=>by
  have hw:=jJ hi hl;obtain⟨k1,k2⟩:=hK i hi;have i1:(i:Int)<(zR ks:Int):=aq;have i2:(0:Int)<=(i:Int):=aq;refine⟨(),?_,trivial⟩;unfold Jg;by_cases hc:cR H (i:Nat)=O
  ·simp only[cV,i1,i2,cI,dM,rA (.inr hH),hc,az.eta,k1,pH (Dw hkn i (by simp;omega)).1 (.inr k2),hw,tE,hmap i hi]
  ·have hc:cR H (i:Nat)=G:=by simpa using hc
   simp only[cV,cT,gz,i1,i2,rA (.inr hH),hc,hw,tE,yu]) (λb _=>by unfold Jg;simp) (b:=()) trivial
 exact e1
def avt(M:az->ay->af rF){vars:aa bf}{inp:Bool}{m:Nat}{st:ay}(hst:eR vars.length m st)(t:az)(hf:dH vars inp t=O)(hs:(iN vars t).isSome=O)
  (hM:∀k∈t.ax,M k st=V (cK st.ai k,st)/\NN (cK st.ai k)):am7 M t st=V (cK st.ai t,st)/\NN (cK st.ai t):=by
 obtain⟨⟨g1,g2,g3⟩,h24⟩:=V4 hf;have K:∀i,i<zR t.ax->M t.ax[i]! st=V (cK st.ai t.ax[i]!,st)/\NN (cK st.ai t.ax[i]!):=λi hi=>hM _ (bq hi);rw[W7];unfold am7 WC;simp only[az.eta,zn];rcases OG t.bE g1 with ⟨h,e⟩|⟨h,e⟩|⟨h,e⟩|⟨h,e⟩|⟨h,e⟩<;>rw[e]at g2 g3<;>dsimp only at g2 g3
 ·rcases h with h|h
  ·simp only[h,Cv,cI,dM,rY];exact⟨trivial,mD (agf h hs)⟩
  ·obtain⟨q1,q2⟩:=h24 h;have hl:=hst.len;simp only[h];rw[gW];exact⟨rfl,hst.vars _ aq⟩
 ·obtain⟨k1,k2⟩:=K 0 aq;have m0:=mapA (vars:=st.ai) (show 0<zR t.ax by omega);have i1:(zR t.ax:Int)=1:=aq;rcases h with h|h
  ·simp only[cV,cT,gz,h,Int.reduceEq,i1,k1,m0,UX (.inr k2),Int.reduceLT,Int.reduceLE,true_and];exact HR _ k2
  ·simp only[cV,cT,gz,h,Int.reduceEq,i1,k1,m0,UX (.inr k2),Int.reduceLT,Int.reduceLE,true_and];exact HR _ k2
 ·obtain⟨k1,k2⟩:=K 0 aq;obtain⟨l1,l2⟩:=K 1 aq;have m0:=mapA (vars:=st.ai) (show 0<zR t.ax by omega);have m1:=mapA (vars:=st.ai) (show 1<zR t.ax by omega);have hlen:(zR t.ax:Int)=2:=aq;obtain⟨c,hb,_,hn⟩:=oN t.bE k2 l2;have n0:t.bE≠0:=aq;have n1:t.bE≠24:=aq;have n2:t.bE≠6:=aq;have n3:t.bE≠7:=aq;have n4:t.bE≠23:=aq;have n5:t.bE≠25:=aq;simp only[cV,gz,n0,n1,n2,n3,n4,n5,cw,hlen,k1,l1,hb,m0,m1,Int.reduceEq,Int.reduceLT,Int.reduceLE,true_and];exact hn
 ·obtain⟨k1,k2⟩:=K 0 aq;obtain⟨l1,l2⟩:=K 1 aq;obtain⟨p1,p2⟩:=K 2 aq;have m0:=mapA (vars:=st.ai) (show 0<zR t.ax by omega);have m1:=mapA (vars:=st.ai) (show 1<zR t.ax by omega);have m2:=mapA (vars:=st.ai) (show 2<zR t.ax by omega);have hlen:(zR t.ax:Int)=3:=aq;simp only[cV,cT,gz,h,Int.reduceEq,hlen,k1,l1,p1,m0,m1,m2,Dd (.inr k2),pH (.inr l2) (.inr p2),Int.reduceLT,Int.reduceLE];cases cR (cK st.ai t.ax[0]!) 0<;>cases cD (cK st.ai t.ax[0]!)
  ·exact⟨rfl,l2⟩
  ·exact⟨rfl,l2⟩
  ·exact⟨rfl,p2⟩
  ·exact⟨rfl,jU l2 p2⟩
 ·obtain⟨k1,k2⟩:=K 0 aq;have m0:=mapA (vars:=st.ai) (show 0<zR t.ax by omega);have w:ak ((zR t.ax:Int)-(2:Int))=(zR t.ax:Int)-(2:Int):=aM;obtain⟨c,hcl,_,hcn,_⟩:=ij k2 0 ((zR t.ax:Int)-(2:Int));obtain⟨j,hj1,hj2⟩:=Zf k2 (n:=zR t.ax-1) aq aq;rw[show (((zR t.ax-1:Nat):Int)-1)=(zR t.ax:Int)-(2:Int)by omega]at hj2;simp only[cV,cT,gz,h,Int.reduceEq,k1,m0,w];rw[gW,hcl];generalize iZ (cK st.ai t.ax[0]!) 0 ((zR t.ax:Int)-(2:Int))=H at*;have hd:zR (t.ax.drop 1)=zR t.ax-1:=zV ..;have e2:=ac4 M (vars:=st.ai) (st:=st) (ks:=t.ax.drop 1) aq (λj hj=>hM _ (xD (bq hj))) (H:=H) hcn ⟨0,0,0⟩;dsimp only;rw[gW];rw[show amZ=cM from rfl,e2];dsimp only;rw[fK,cw,<-xB,zn];refine⟨rfl,(Dw (λj hj=> ?_) _ (by simp)).2 ⟨j,aq,hj2⟩⟩;rw[getElem!_pos _ j (by simpa using hj),yL];exact(hM _ (xD (xN ..))).2
def IK{vars:aa bf}{inp:Bool}{m:Nat}{st:ay}(hst:eR vars.length m st):∀(n:Nat) (t:az),zf t<n->dH vars inp t=O->(iN vars t).isSome=O->Tp n t st=V (cK st.ai t,st)/\NN (cK st.ai t)
 |0,_,h,_,_=>aq
 |n+1,t,h,hf,hs=>avt (Tp n) hst t hf hs (λk hk=>IK hst n k (by have:=az.eV hk;omega) (qD hf hk) (Gf hs k hk))
def sD{vars:aa bf}{inp:Bool}{t:az}(hc:fA vars inp t=0):dH vars inp t=O/\(iN vars t).isSome=O:=by
 unfold fA at hc;grind
def ajV(M:aJ->az->af Od){vars:aa aL}{st:aJ}{t:az}(hl:zR t.ax<=1000000)(h1:1<=zR t.ax)(hK:∀j,j<zR t.ax->M st t.ax[j]! =V (cK vars t.ax[j]!)/\NN (cK vars t.ax[j]!)){H:aL}(hH:NN H)(z:aL):
  OF M ⟨(zR t.ax:Int)-1,0,st,t,z,H,cM⟩=V ⟨(zR t.ax:Int)-1,(zR t.ax:Int)-1,st,t,z,H,tE H ((t.ax.drop 1).map (cK vars)) (t.ax.drop 1).length⟩:=by
 have hd:zR (t.ax.drop 1)=zR t.ax-1:=zV ..;have hmap:∀j,j<zR t.ax-1->((t.ax.drop 1).map (cK vars))[j]! =cK vars t.ax[1+j]! :=λj h=>by
  rw[getElem!_pos _ j (by simp;omega),getElem!_pos _ (1+j) aq,yL,xR]
 have hkn:∀j,j<zR ((t.ax.drop 1).map (cK vars))->NN ((t.ax.drop 1).map (cK vars))[j]! :=λj h=>by
  have h:j<zR t.ax-1:=by simpa using h
  rw[hmap j h];exact(hK (1+j) aq).2
 obtain⟨v,e1,hv⟩:=cH (rnd:=Ww M) (zR t.ax-1) (λi (_:Unit)=>⟨(zR t.ax:Int)-1,(i:Int),st,t,z,H,tE H ((t.ax.drop 1).map (cK vars)) i⟩) (λi _=>True) (λi b hi _=>by
  have hw:=jJ hi (show zR t.ax-1<=1000000 by omega);obtain⟨k1,k2⟩:=hK (1+i) aq;have i1:(i:Int)<(zR t.ax:Int)-1:=aq;have i2:ak ((1:Int)+(i:Int))=((1+i:Nat):Int):=by rw[aM];omega
  have i3:(0:Int)<=((1+i:Nat):Int)/\((1+i:Nat):Int)<(zR t.ax:Int):=aq;refine⟨(),?_,trivial⟩;unfold Ww;by_cases hc:cR H (i:Nat)=O
  ·simp only[cV,i1,cI,jW (.inr hH),hc,i2,i3.1,i3.2,dM,az.eta,k1,gB (Dw hkn i (by simp;omega)).1 (.inr k2),hw,tE,hmap i hi]
  ·have hc:cR H (i:Nat)=G:=by simpa using hc
   simp only[cT,i1,Cv,jW (.inr hH),hc,hw,tE,yu,GL,az.eta]) (λb _=>by
    unfold Ww;rw[bY (by dsimp only;omega)];rfl) (b:=()) trivial
 have e1:OF M ⟨(zR t.ax:Int)-1,((0:Nat):Int),st,t,z,H,cM⟩=_:=e1;rw[hd];rw[show ((0:Nat):Int)=0 from rfl]at e1;rw[e1,show ((zR t.ax-1:Nat):Int)=(zR t.ax:Int)-1 by omega]
def awj(M:aJ->az->af Od){vars:aa bf}{inp:Bool}{m:Nat}{st:ay}(hst:eR vars.length m st)(t:az)(hf:dH vars inp t=O)
  (hM:∀k∈t.ax,M (tr st) k=V (cK st.ai k)/\NN (cK st.ai k)):s87 M (tr st) t=V (cK st.ai t):=by
 obtain⟨⟨g1,g2,g3⟩,h24⟩:=V4 hf;have K:∀i,i<zR t.ax->M (tr st) t.ax[i]! =V (cK st.ai t.ax[i]!)/\NN (cK st.ai t.ax[i]!):=λi hi=>hM _ (bq hi);rw[W7];unfold s87 WC;simp only[az.eta,zn];rcases OG t.bE g1 with ⟨h,e⟩|⟨h,e⟩|⟨h,e⟩|⟨h,e⟩|⟨h,e⟩<;>rw[e]at g2 g3<;>dsimp only at g2 g3
 ·rcases h with h|h
  ·simp only[h,Cv,cI,dM,C7]
  ·obtain⟨q1,q2⟩:=h24 h;have hl:=hst.len;simp only[h];rw[bI (show (0:Int)<=t.fN/\t.fN<(zR (tr st).ai:Int)from⟨q1,by show t.fN<(zR st.ai:Int);omega⟩)];rfl
 ·obtain⟨k1,k2⟩:=K 0 aq;have m0:=mapA (vars:=st.ai) (show 0<zR t.ax by omega);have i1:(zR t.ax:Int)=1:=aq;rcases h with h|h
  ·simp only[cV,cT,gz,h,Int.reduceEq,i1,k1,m0,Vr (.inr k2),Int.reduceLT,Int.reduceLE]
  ·simp only[cV,cT,gz,h,Int.reduceEq,i1,k1,m0,Vr (.inr k2),Int.reduceLT,Int.reduceLE]
 ·obtain⟨k1,k2⟩:=K 0 aq;obtain⟨l1,l2⟩:=K 1 aq;have m0:=mapA (vars:=st.ai) (show 0<zR t.ax by omega);have m1:=mapA (vars:=st.ai) (show 1<zR t.ax by omega);have hlen:(zR t.ax:Int)=2:=aq;obtain⟨c,_,hb,hn⟩:=oN t.bE k2 l2;have n0:t.bE≠0:=aq;have n1:t.bE≠24:=aq;have n2:t.bE≠6:=aq;have n3:t.bE≠7:=aq;have n4:t.bE≠23:=aq;have n5:t.bE≠25:=aq;simp only[cV,gz,n0,n1,n2,n3,n4,n5,cw,hlen,k1,l1,hb,m0,m1,Int.reduceEq,Int.reduceLT,Int.reduceLE]
 ·obtain⟨k1,k2⟩:=K 0 aq;obtain⟨l1,l2⟩:=K 1 aq;obtain⟨p1,p2⟩:=K 2 aq;have m0:=mapA (vars:=st.ai) (show 0<zR t.ax by omega);have m1:=mapA (vars:=st.ai) (show 1<zR t.ax by omega);have m2:=mapA (vars:=st.ai) (show 2<zR t.ax by omega);have hlen:(zR t.ax:Int)=3:=aq;simp only[cV,cT,gz,h,Int.reduceEq,hlen,k1,l1,p1,m0,m1,m2,oP (.inr k2),gB (.inr l2) (.inr p2),Int.reduceLT,Int.reduceLE];cases cR (cK st.ai t.ax[0]!) 0<;>cases cD (cK st.ai t.ax[0]!)<;>rfl
 ·obtain⟨k1,k2⟩:=K 0 aq;have m0:=mapA (vars:=st.ai) (show 0<zR t.ax by omega);have w:ak ((zR t.ax:Int)-(2:Int))=(zR t.ax:Int)-(2:Int):=aM;have w1:ak ((zR t.ax:Int)-(1:Int))=(zR t.ax:Int)-(1:Int):=aM;obtain⟨c,_,hcl,hcn,_⟩:=ij k2 0 ((zR t.ax:Int)-(2:Int));simp only[cV,cT,gz,h,Int.reduceEq,k1,m0,w,w1];rw[gW,hcl];generalize iZ (cK st.ai t.ax[0]!) 0 ((zR t.ax:Int)-(2:Int))=H at*;have e2:=ajV M (vars:=st.ai) (st:=tr st) (t:=t) aq aq K (H:=H) hcn ⟨0,0,0⟩;dsimp only;rw[show qM=cM from rfl,e2];simp
def anY{vars:aa bf}{inp:Bool}{m:Nat}{st:ay}(hst:eR vars.length m st):∀(n:Nat) (t:az),zf t<n->dH vars inp t=O->(iN vars t).isSome=O->m87 n (tr st) t=V (cK st.ai t)
 |0,_,h,_,_=>aq
 |n+1,t,h,hf,hs=>awj (m87 n) hst t hf (λk hk=>⟨anY hst n k (by have:=az.eV hk;omega) (qD hf hk) (Gf hs k hk),(IK hst (zf k+1) k aq (qD hf hk) (Gf hs k hk)).2⟩)
def W4{vars:aa bf}{inp:Bool}{m:Nat}{st:ay}(hst:eR vars.length m st)(t:az)(hc:fA vars inp t=0):Qe (tr st) t=V (cK st.ai t):=
 eM (zf t+1) λn hn=>anY hst n t aq (sD hc).1 (sD hc).2
def iV{vars:aa bf}{inp:Bool}{m:Nat}{st:ay}(hst:eR vars.length m st)(t:az)(hc:fA vars inp t=0):NN (cK st.ai t):=
 (IK hst (zf t+1) t aq (sD hc).1 (sD hc).2).2
abbrev E82:=aL
def d82:Td 0 E82:= .c [] [4] (.r 0 1 (ec 4 (qp 0 0) en) (sb 0 34 (lg 34) sn) (λz=>z.2.1) (λx=>(((),()),(x,()))))
def TU(a0:ay)(a1:az):af E82:=
 match agE (az.mk a1.bE a1.fN a1.ax) a0 with|I=>I|V r1=>V (r1.fst)
def e82:=eL vn 82 G (lc (qg 128) (lc (qg 137) ln)) d82 (λg=>TU g.1 g.2.1)
def KH:EO e82:=λh=>kL (an:= .no) func82 (akB aP) aH h
abbrev E40:=aa aL
def d40:Td 0 E40:= .c [] [2] (.t (bX.s 2 [] 34) (.c [] [2] (.r 0 1 (ec 2 (qo 0) en) (sr 0 34 sn) (λz=>z.2.1) (λx=>(((),()),(x,()))))))
def A40:=(lc (ql 34) ln)
def Ta(a0:aa aL):af E40:=if zR a0<=1073741824 then V a0 else I
def aui:eX vn di 0 300 40 .no:=b6 (l:=[]) func40 (bN aV) aV aH
def aEx(x:aL)(xs:aa aL):bU vn di 300 .no 40 [.sl 34 (x::xs)] [] 0 d40.rd=if([]++(x::xs)).length<=1073741824 then V ([]++(x::xs))else I:=aV
def aEQ(c:Nat):bU vn di 300 .no 40 [.lit (.slice I 0 c)] [] 0 d40.rd=V []:=aV
def aG4(a:Addr)(c:Nat):bU vn di 300 .no 40 [.lit (.slice (V a) 0 c)] [] 0 d40.rd=V []:=aV
def h40:HL vn 40 A40 d40 (λg=>Ta g.1):=λg r h=>by
 obtain⟨a0,_⟩:=g;have h:Ta a0=V r:=h;cases a0 with
 |cons x xs=>exact(jT (out:=λp=>fG vn 40 0 (d40.pat p)) (p:=r) aP aui d40.ok (λp=>aV) (iK aV) (iA aV) ((aEx x xs).trans (by rw[yz];exact h))).2
 |nil=>
  cases h;exact Jc (λc=>(jT (out:=λp=>fG vn 40 0 (d40.pat p)) (p:=[]) aP aui d40.ok (λp=>aV) (iK aV) (iA aV) (aEQ c)).2) (λa c=>(jT (out:=λp=>fG vn 40 0 (d40.pat p)) (p:=[]) aP aui d40.ok (λp=>aV) (iK aV) (iA aV) (aG4 a c)).2)
def e40:=eL vn 40 G A40 d40 (λg=>Ta g.1)
def rG{F:bu}(h:bz vn F):bz vn (e40 F):=ep (sc:=pF) dh h40 ⟨_,func40,aV,aV⟩ (λ_=>aV) (λ_=>aV) h
abbrev ay6:=ay
def d235:Td 0 ay6:= .c [] [2] (.r 0 3 (ec 2 (qp 0 0) en) (sb 0 128 (lc (qo 1) (aS (aS (aS (lc (qo 2) (aS (aS (aS ln)))))))) (sr 1 34 (sr 2 34 sn))) (λz=>(ay.mk z.t.1 (aL.mk z.2.1.2.1 z.2.1.t.1 z.2.1.t.2.1) z.t.2.1 (aL.mk z.2.1.q.2.1 z.2.1.q.t.1 z.2.1.q.t.2.1))) (λx=>(((),()),(((),x.aD.ah,x.aD.ag,x.aD.aj,(),x.aI.ah,x.aI.ag,x.aI.aj,()),x.ai,x.aF,()))))
def GX(a0:ay):af ay6:=
 match Ta a0.ai with|I=>I|V r1=>match Ta a0.aF with|I=>I|V r2=>V (ay.mk r1 a0.aD r2 a0.aI)
def aqU:=eL vn 235 G (lc (qg 128) ln) d235 (λg=>GX g.1)
def Af:EO aqU:=λh=>kL (an:= .no) func235 (rG aP) aH h
structure Bt where
 t46:List aL
 (t47 t48:Int)
 (b0 b1:ay)
def T1:Td 0 Bt:= .c [] [4,5,46,47,48] (.r 0 4 (ec 4 (qp 0 0) (ec 5 (qp 1 0) (ec 46 (ql 34) (ec 47 aN (ec 48 aN en))))) (sb 0 128 (lc qn (aS (aS (aS (lc qn (aS (aS (aS ln)))))))) (sb 1 128 (lc (qo 2) (aS (aS (aS (lc (qo 3) (aS (aS (aS ln)))))))) (sr 2 34 (sr 3 34 sn)))) (λz=>⟨z.1.t.1,z.1.t.2.1,z.1.q.1,(ay.mk [] (aL.mk z.2.1.2.1 z.2.1.t.1 z.2.1.t.2.1) [] (aL.mk z.2.1.q.2.1 z.2.1.q.t.1 z.2.1.q.t.2.1)),(ay.mk z.t.2.1 (aL.mk z.t.1.2.1 z.t.1.t.1 z.t.1.t.2.1) z.q.1 (aL.mk z.t.1.q.2.1 z.t.1.q.t.1 z.t.1.q.t.2.1))⟩) (λx=>(((),(),x.t46,x.t47,x.t48,()),(((),x.b0.aD.ah,x.b0.aD.ag,x.b0.aD.aj,(),x.b0.aI.ah,x.b0.aI.ag,x.b0.aI.aj,()),((),x.b1.aD.ah,x.b1.aD.ag,x.b1.aD.aj,(),x.b1.aI.ah,x.b1.aI.ag,x.b1.aI.aj,()),x.b1.ai,x.b1.aF,()))))
def Jx(p:Bt):af (af Bt):=
 bif J (p.t48<p.t47)then if 0<=p.t48/\p.t48<zR p.t46 then bif J (p.t48<zR p.b1.aF)then if 0<=p.t48/\p.t48<zR p.b1.aF then if 34=34/\zD p.t48<zR p.b1.aF then match vQ p.b1.aF[zD p.t48]! p.t46[zD p.t48]! with|I=>I|V r2=>if 0<=p.t48/\p.t48<zR p.b1.aF then if 34=34/\zD p.t48<zR p.b1.aF then V (V (Bt.mk p.t46 p.t47 (ak (p.t48+1)) (ay.mk [] p.b0.aD [] p.b0.aI) (ay.mk p.b1.ai p.b1.aD (p.b1.aF.set p.t48.toNat r2) p.b1.aI)))else I else I else I else I else if(p.b1.aF++[p.t46[zD p.t48]!]).length<=1073741824 then V (V (Bt.mk p.t46 p.t47 (ak (p.t48+1)) (ay.mk [] p.b0.aD [] p.b0.aI) (ay.mk p.b1.ai p.b1.aD (p.b1.aF++[p.t46[zD p.t48]!]) p.b1.aI)))else I else I else V (I)
def Lp:=bJ (Jx)
structure Ek where
 (t13 t14:Int)
 (b0 b1 b2:ay)
def RP:Td 0 Ek:= .c [] [3,4,5,13,14] (.r 0 5 (ec 3 (qp 0 0) (ec 4 (qp 1 0) (ec 5 (qp 2 0) (ec 13 aN (ec 14 aN en))))) (sb 0 128 (lg 128) (sb 1 128 (lc qn (aS (aS (aS (lc qn (aS (aS (aS ln)))))))) (sb 2 128 (lc (qo 3) (aS (aS (aS (lc (qo 4) (aS (aS (aS ln)))))))) (sr 3 34 (sr 4 34 sn))))) (λz=>⟨z.1.t.2.1,z.1.q.1,z.2.1,(ay.mk [] (aL.mk z.t.1.2.1 z.t.1.t.1 z.t.1.t.2.1) [] (aL.mk z.t.1.q.2.1 z.t.1.q.t.1 z.t.1.q.t.2.1)),(ay.mk z.q.1 (aL.mk z.t.2.1.2.1 z.t.2.1.t.1 z.t.2.1.t.2.1) z.q.2.1 (aL.mk z.t.2.1.q.2.1 z.t.2.1.q.t.1 z.t.2.1.q.t.2.1))⟩) (λx=>(((),(),(),x.t13,x.t14,()),(x.b0,((),x.b1.aD.ah,x.b1.aD.ag,x.b1.aD.aj,(),x.b1.aI.ah,x.b1.aI.ag,x.b1.aI.aj,()),((),x.b2.aD.ah,x.b2.aD.ag,x.b2.aD.aj,(),x.b2.aI.ah,x.b2.aI.ag,x.b2.aI.aj,()),x.b2.ai,x.b2.aF,()))))
def Js(p:Ek):af (af Ek):=
 bif J (p.t14<p.t13)then if 0<=p.t14/\p.t14<zR p.b2.ai then if 34=34/\zD p.t14<zR p.b2.ai then if 0<=p.t14/\p.t14<zR p.b0.ai then match vQ p.b2.ai[zD p.t14]! p.b0.ai[zD p.t14]! with|I=>I|V r1=>if 0<=p.t14/\p.t14<zR p.b2.ai then if 34=34/\zD p.t14<zR p.b2.ai then V (V (Ek.mk p.t13 (ak (p.t14+1)) p.b0 (ay.mk [] p.b1.aD [] p.b1.aI) (ay.mk (p.b2.ai.set p.t14.toNat r1) p.b2.aD p.b2.aF p.b2.aI)))else I else I else I else I else I else V (I)
def KK:=bJ (Js)
abbrev aCu:=ay
def d236:Td 0 aCu:= .c [] [4] (.r 0 3 (ec 4 (qp 0 0) en) (sb 0 128 (lc (qo 1) (aS (aS (aS (lc (qo 2) (aS (aS (aS ln)))))))) (sr 1 34 (sr 2 34 sn))) (λz=>(ay.mk z.t.1 (aL.mk z.2.1.2.1 z.2.1.t.1 z.2.1.t.2.1) z.t.2.1 (aL.mk z.2.1.q.2.1 z.2.1.q.t.1 z.2.1.q.t.2.1))) (λx=>(((),()),(((),x.aD.ah,x.aD.ag,x.aD.aj,(),x.aI.ah,x.aI.ag,x.aI.aj,()),x.ai,x.aF,()))))
def Jh(a0:ay)(a1:ay):af aCu:=
 match GX a0 with|I=>I|V r3=>match KK (Ek.mk r3.ai.length 0 a1 (ay.mk [] (aL.mk 0 0 0) [] (aL.mk 0 0 0)) r3)with|I=>I|V r4=>bif J (r4.t14<r4.t13)then if 0<=r4.t14/\r4.t14<zR r4.b2.ai then if 34=34/\zD r4.t14<zR r4.b2.ai then if 0<=r4.t14/\r4.t14<zR r4.b0.ai then match vQ r4.b2.ai[zD r4.t14]! r4.b0.ai[zD r4.t14]! with|I=>I|V r5=>if 0<=r4.t14/\r4.t14<zR r4.b2.ai then if 34=34/\zD r4.t14<zR r4.b2.ai then I else I else I else I else I else I else match vQ r4.b2.aD r4.b0.aD with|I=>I|V r6=>match vQ r4.b2.aI r4.b0.aI with|I=>I|V r7=>match Lp (Bt.mk r4.b0.aF r4.b0.aF.length 0 (ay.mk [] r4.b1.aD [] r4.b1.aI) (ay.mk r4.b2.ai r6 r4.b2.aF r7))with|I=>I|V r8=>bif J (r8.t48<r8.t47)then if 0<=r8.t48/\r8.t48<zR r8.t46 then bif J (r8.t48<zR r8.b1.aF)then if 0<=r8.t48/\r8.t48<zR r8.b1.aF then if 34=34/\zD r8.t48<zR r8.b1.aF then match vQ r8.b1.aF[zD r8.t48]! r8.t46[zD r8.t48]! with|I=>I|V r9=>if 0<=r8.t48/\r8.t48<zR r8.b1.aF then if 34=34/\zD r8.t48<zR r8.b1.aF then I else I else I else I else I else if(r8.b1.aF++[r8.t46[zD r8.t48]!]).length<=1073741824 then I else I else I else V (r8.b1)
def asc:=eL vn 236 G (lc (qg 128) (lc (qg 128) ln)) d236 (λg=>Jh g.1 g.2.1)
def Vn:EO asc:=λh=>kL (an:=(noTwo (noTwo (.two (noTwo (RP.lp KK .no)) (noTwo (noTwo (.two (noTwo (T1.lp Lp .no)) .no))))))) (l:=[(aY f236 0,(RP.lp KK .no)),(aY f236 1,(T1.lp Lp .no))]) func236 (Af (Jd aP)) (aA (aO RP) (aA (aO T1) aH)) h
abbrev axp:=ay
def d157:Td 0 axp:= .c [] [4] (.r 0 1 (ec 4 (qp 0 0) en) (sb 0 128 (lg 128) sn) (λz=>z.2.1) (λx=>(((),()),(x,()))))
def TZ(a0:ay)(a1:Int):af axp:=
 match vK (8) a0.aI (W6 a1)with|I=>I|V r1=>V (ay.mk a0.ai a0.aD a0.aF r1.fst)
def arO:bu->bu:=eZ vn 157 (lc (qg 128) (aS ln)) d157 (λg=>TZ g.1 g.2.1)
def Xl:EO arO:=λh=>kZ (an:= .no) func157 (JA (LG aP)) aH h
abbrev aCx:=ay
def d158:Td 0 aCx:= .c [] [8] (.r 0 3 (ec 8 (qp 0 0) en) (sb 0 128 (lc (qo 1) (aS (aS (aS (lc (qo 2) (aS (aS (aS ln)))))))) (sr 1 34 (sr 2 34 sn))) (λz=>(ay.mk z.t.1 (aL.mk z.2.1.2.1 z.2.1.t.1 z.2.1.t.2.1) z.t.2.1 (aL.mk z.2.1.q.2.1 z.2.1.q.t.1 z.2.1.q.t.2.1))) (λx=>(((),()),(((),x.aD.ah,x.aD.ag,x.aD.aj,(),x.aI.ah,x.aI.ag,x.aI.aj,()),x.ai,x.aF,()))))
def Ry(a0:Runner)(a1:ay)(a2:Int)(a3:aL):af aCx:=
 match GX a1 with|I=>I|V r1=>if 0<=a2/\a2<zR a0.fF.ai then match m81 a3 a0.fF.ai[a2.toNat]!.ah a0.fF.ai[a2.toNat]!.ag with|I=>I|V r2=>if 0<=a2/\a2<zR r1.ai then if 34=34/\a2.toNat<zR r1.ai then V (ay.mk (r1.ai.set a2.toNat r2.fst) r1.aD r1.aF r1.aI)else I else I else I
def aA1:=eL vn 158 G (lc (qg 133) (lc (qg 128) (aS (lc (qg 34) ln)))) d158 (λg=>Ry g.1 g.2.1 g.t.1 g.t.2.1)
def afx:EO aA1:=λh=>kL (an:= .no) func158 (Af (QH aP)) aH h
structure AK where
 (t10 t11:Int)
 b0:ay
 b1:aL
 b2:ay
def Rz:Td 0 AK:= .c [] [2,3,4,10,11] (.r 0 5 (ec 2 (qp 0 0) (ec 3 (qp 1 0) (ec 4 (qp 2 0) (ec 10 aN (ec 11 aN en))))) (sb 0 128 (lc (qo 3) (aS (aS (aS (lc (qo 4) (aS (aS (aS ln)))))))) (sb 1 34 (lg 34) (sb 2 128 (lc qn (aS (aS (aS (lc qn (aS (aS (aS ln)))))))) (sr 3 34 (sr 4 34 sn))))) (λz=>⟨z.1.t.2.1,z.1.q.1,(ay.mk z.q.1 (aL.mk z.2.1.2.1 z.2.1.t.1 z.2.1.t.2.1) z.q.2.1 (aL.mk z.2.1.q.2.1 z.2.1.q.t.1 z.2.1.q.t.2.1)),z.t.1,(ay.mk [] (aL.mk z.t.2.1.2.1 z.t.2.1.t.1 z.t.2.1.t.2.1) [] (aL.mk z.t.2.1.q.2.1 z.t.2.1.q.t.1 z.t.2.1.q.t.2.1))⟩) (λx=>(((),(),(),x.t10,x.t11,()),(((),x.b0.aD.ah,x.b0.aD.ag,x.b0.aD.aj,(),x.b0.aI.ah,x.b0.aI.ag,x.b0.aI.aj,()),x.b1,((),x.b2.aD.ah,x.b2.aD.ag,x.b2.aD.aj,(),x.b2.aI.ah,x.b2.aI.ag,x.b2.aI.aj,()),x.b0.ai,x.b0.aF,()))))
def JK(p:AK):af (af AK):=
 bif J (p.t11<p.t10)then match m92 p.b0.aD p.t11 with|I=>I|V r1=>bif r1 then if 0<=p.t11/\p.t11<zR p.b0.aF then if 34=34/\zD p.t11<zR p.b0.aF then match vQ p.b0.aF[zD p.t11]! p.b1 with|I=>I|V r2=>if 0<=p.t11/\p.t11<zR p.b0.aF then if 34=34/\zD p.t11<zR p.b0.aF then V (V (AK.mk p.t10 (ak (p.t11+1)) (ay.mk p.b0.ai p.b0.aD (p.b0.aF.set p.t11.toNat r2) p.b0.aI) p.b1 (ay.mk [] p.b2.aD [] p.b2.aI)))else I else I else I else I else V (V (AK.mk p.t10 (ak (p.t11+1)) p.b0 p.b1 (ay.mk [] p.b2.aD [] p.b2.aI)))else V (I)
def LI:=bJ (JK)
abbrev aB7:=ay
def d159:Td 0 aB7:= .c [] [4] (.r 0 3 (ec 4 (qp 0 0) en) (sb 0 128 (lc (qo 1) (aS (aS (aS (lc (qo 2) (aS (aS (aS ln)))))))) (sr 1 34 (sr 2 34 sn))) (λz=>(ay.mk z.t.1 (aL.mk z.2.1.2.1 z.2.1.t.1 z.2.1.t.2.1) z.t.2.1 (aL.mk z.2.1.q.2.1 z.2.1.q.t.1 z.2.1.q.t.2.1))) (λx=>(((),()),(((),x.aD.ah,x.aD.ag,x.aD.aj,(),x.aI.ah,x.aI.ag,x.aI.aj,()),x.ai,x.aF,()))))
def afd(a0:ay)(a1:aL):af aB7:=
 match GX a0 with|I=>I|V r3=>match LI (AK.mk r3.aF.length 0 r3 a1 (ay.mk [] (aL.mk 0 0 0) [] (aL.mk 0 0 0)))with|I=>I|V r4=>bif J (r4.t11<r4.t10)then match m92 r4.b0.aD r4.t11 with|I=>I|V r5=>bif r5 then if 0<=r4.t11/\r4.t11<zR r4.b0.aF then if 34=34/\zD r4.t11<zR r4.b0.aF then match vQ r4.b0.aF[zD r4.t11]! r4.b1 with|I=>I|V r6=>if 0<=r4.t11/\r4.t11<zR r4.b0.aF then if 34=34/\zD r4.t11<zR r4.b0.aF then I else I else I else I else I else I else if(r4.b0.aF++[r4.b1]).length<=1073741824 then match vK 8 r4.b0.aD (W6 1)with|I=>I|V r7=>V (ay.mk r4.b0.ai r7.fst (r4.b0.aF++[r4.b1]) r4.b0.aI)else I
def aCN:=eL vn 159 G (lc (qg 128) (lc (qg 34) ln)) d159 (λg=>afd g.1 g.2.1)
def ahg:EO aCN:=λh=>kL (an:=(noTwo (noTwo (.two (noTwo (Rz.lp LI .no)) .no)))) (l:=[(aY f159 0,(Rz.lp LI .no))]) func159 (Af (JA (Jd (QI (LG aP))))) (aA (aO Rz) aH) h
abbrev rW:=ay
def d83:Td 0 rW:= .c [] [6] (.r 0 1 (ec 6 (qp 0 0) en) (sb 0 128 (lg 128) sn) (λz=>z.2.1) (λx=>(((),()),(x,()))))
def A83:=(lc (qg 133) (lc (ql 166) (lc (qg 128) ln)))
def x83(M:Runner->(aa aB)->ay->af rW):bu->bu:=eZ vn 83 A83 d83 (λg=>M g.1 g.2.1 g.2.2.1)
def H83(M:Runner->(aa aB)->ay->af rW):Prop:=HL vn 83 A83 d83 (λg=>M g.1 g.2.1 g.2.2.1)
def TW{M:Runner->(aa aB)->ay->af rW}(hM:H83 M){F:bu}(h:bz vn F):bz vn (x83 M F):=Eh hM ⟨_,func83,aV,aV⟩ (λ_=>aV) h
abbrev iF:=ay
def d156:Td 0 iF:= .c [] [6] (.r 0 1 (ec 6 (qp 0 0) en) (sb 0 128 (lg 128) sn) (λz=>z.2.1) (λx=>(((),()),(x,()))))
def atV:=(lc (qg 133) (lc (qg 166) (lc (qg 128) ln)))
def azU(M:Runner->aB->ay->af iF):bu->bu:=eZ vn 156 atV d156 (λg=>M g.1 g.2.1 g.2.2.1)
def aaM(M:Runner->aB->ay->af iF):Prop:=HL vn 156 atV d156 (λg=>M g.1 g.2.1 g.2.2.1)
def ag9{M:Runner->aB->ay->af iF}(hM:aaM M){F:bu}(h:bz vn F):bz vn (azU M F):=Eh hM ⟨_,func156,aV,aV⟩ (λ_=>aV) h
abbrev iH:=ay
def d160:Td 0 iH:= .c [] [6] (.t (bX.fc 0 0 []) (.t (bX.fc 0 4 []) (.c [] [6] (.r 0 1 (ec 6 (qp 0 0) en) (sb 0 128 (lg 128) sn) (λz=>z.2.1) (λx=>(((),()),(x,())))))))
def asa:=(lc (qg 133) (lc (qg 166) (lc (qg 128) ln)))
def x160(M:Runner->aB->ay->af iH):bu->bu:=eZ vn 160 asa d160 (λg=>M g.1 g.2.1 g.2.2.1)
def aa7(M:Runner->aB->ay->af iH):Prop:=HL vn 160 asa d160 (λg=>M g.1 g.2.1 g.2.2.1)
def ala{M:Runner->aB->ay->af iH}(hM:aa7 M){F:bu}(h:bz vn F):bz vn (x160 M F):=Eh hM ⟨_,func160,aV,aV⟩ (λ_=>aV) h
def F83(M83:Runner->(aa aB)->ay->af rW)(M156:Runner->aB->ay->af iF)(M160:Runner->aB->ay->af iH):bu:=(aA2 (x160 M160 (aCN (aA1 (arO (azU M156 (e82 di)))))))
def ass{M83 M156 M160}(h83:H83 M83)(h156:aaM M156)(h160:aa7 M160):bz vn (F83 M83 M156 M160):=(ahk (ala h160 (ahg (afx (Xl (ag9 h156 (KH aP)))))))
structure qK where
 t9:List aB
 (t10 t11:Int)
 b0:Runner
 (b1 b2:ay)
def ad7:Td 0 qK:= .c [] [3,5,6,9,10,11] (.t (bX.fc 1 0 []) (.t (bX.fc 1 4 []) (.c [] [3,5,6,9,10,11] (.r 0 3 (ec 3 (qp 0 0) (ec 5 (qp 1 0) (ec 6 (qp 2 0) (ec 9 (ql 166) (ec 10 aN (ec 11 aN en)))))) (sb 0 133 (lg 133) (sb 1 128 (lg 128) (sb 2 128 (lc qn (aS (aS (aS (lc qn (aS (aS (aS ln)))))))) sn))) (λz=>⟨z.1.t.2.1,z.1.q.1,z.1.q.2.1,z.2.1,z.t.1,(ay.mk [] (aL.mk z.t.2.1.2.1 z.t.2.1.t.1 z.t.2.1.t.2.1) [] (aL.mk z.t.2.1.q.2.1 z.t.2.1.q.t.1 z.t.2.1.q.t.2.1))⟩) (λx=>(((),(),(),x.t9,x.t10,x.t11,()),(x.b0,x.b1,((),x.b2.aD.ah,x.b2.aD.ag,x.b2.aD.aj,(),x.b2.aI.ah,x.b2.aI.ag,x.b2.aI.aj,()),())))))))
def UJ(M83:Runner->(aa aB)->ay->af rW)(M156:Runner->aB->ay->af iF)(M160:Runner->aB->ay->af iH)(p:qK):af (af qK):=
 bif J (p.t11<p.t10)then if 0<=p.t11/\p.t11<zR p.t9 then bif J (p.t9[zD p.t11]!.cg=4)then match M156 p.b0 (aB.mk p.t9[zD p.t11]!.cg p.t9[zD p.t11]!.bg p.t9[zD p.t11]!.dJ p.t9[zD p.t11]!.fN (az.mk p.t9[zD p.t11]!.aG.bE p.t9[zD p.t11]!.aG.fN p.t9[zD p.t11]!.aG.ax) p.t9[zD p.t11]!.aQ p.t9[zD p.t11]!.aW p.t9[zD p.t11]!.aR) p.b1 with|I=>I|V r1=>V (V (qK.mk p.t9 p.t10 (ak (p.t11+1)) p.b0 r1 (ay.mk [] p.b2.aD [] p.b2.aI)))else match TZ p.b1 p.t9[zD p.t11]!.bg with|I=>I|V r2=>bif J (p.t9[zD p.t11]!.cg=0)then match TU r2 (az.mk p.t9[zD p.t11]!.aG.bE p.t9[zD p.t11]!.aG.fN p.t9[zD p.t11]!.aG.ax)with|I=>I|V r3=>match Ry p.b0 r2 p.t9[zD p.t11]!.dJ r3 with|I=>I|V r4=>V (V (qK.mk p.t9 p.t10 (ak (p.t11+1)) p.b0 r4 (ay.mk [] p.b2.aD [] p.b2.aI)))else bif J (p.t9[zD p.t11]!.cg=5)then if 0<=p.t9[zD p.t11]!.fN/\p.t9[zD p.t11]!.fN<zR p.b0.au then match Ry p.b0 r2 p.t9[zD p.t11]!.dJ p.b0.au[p.t9[zD p.t11]!.fN.toNat]! with|I=>I|V r5=>V (V (qK.mk p.t9 p.t10 (ak (p.t11+1)) p.b0 r5 (ay.mk [] p.b2.aD [] p.b2.aI)))else I else bif J (p.t9[zD p.t11]!.cg=1)then match TU r2 (az.mk p.t9[zD p.t11]!.aG.bE p.t9[zD p.t11]!.aG.fN p.t9[zD p.t11]!.aG.ax)with|I=>I|V r6=>match afd r2 r6 with|I=>I|V r7=>V (V (qK.mk p.t9 p.t10 (ak (p.t11+1)) p.b0 r7 (ay.mk [] p.b2.aD [] p.b2.aI)))else bif J (p.t9[zD p.t11]!.cg=3)then match M160 p.b0 (aB.mk p.t9[zD p.t11]!.cg p.t9[zD p.t11]!.bg p.t9[zD p.t11]!.dJ p.t9[zD p.t11]!.fN (az.mk p.t9[zD p.t11]!.aG.bE p.t9[zD p.t11]!.aG.fN p.t9[zD p.t11]!.aG.ax) p.t9[zD p.t11]!.aQ p.t9[zD p.t11]!.aW p.t9[zD p.t11]!.aR) r2 with|I=>I|V r8=>V (V (qK.mk p.t9 p.t10 (ak (p.t11+1)) p.b0 r8 (ay.mk [] p.b2.aD [] p.b2.aI)))else bif J (p.t9[zD p.t11]!.cg=6)then match PM r2.aI p.t9[zD p.t11]!.aR with|I=>I|V r9=>V (V (qK.mk p.t9 p.t10 (ak (p.t11+1)) p.b0 (ay.mk r2.ai r2.aD r2.aF r9.fst) (ay.mk [] p.b2.aD [] p.b2.aI)))else V (V (qK.mk p.t9 p.t10 (ak (p.t11+1)) p.b0 r2 (ay.mk [] p.b2.aD [] p.b2.aI)))else I else V (I)
def VQ(M83:Runner->(aa aB)->ay->af rW)(M156:Runner->aB->ay->af iF)(M160:Runner->aB->ay->af iH):=bJ (UJ M83 M156 M160)
def ayQ(M83:Runner->(aa aB)->ay->af rW)(M156:Runner->aB->ay->af iF)(M160:Runner->aB->ay->af iH):An:=(noTwo (.two (noTwo (ad7.lp (VQ M83 M156 M160) .no)) .no))
def aHi(M83:Runner->(aa aB)->ay->af rW)(M156:Runner->aB->ay->af iF)(M160:Runner->aB->ay->af iH):eX vn (F83 M83 M156 M160) 0 300 83 (ayQ M83 M156 M160):=b6 (l:=[(aY f83 0,(ad7.lp (VQ M83 M156 M160) .no))]) func83 (bN aV) aV (aA (aO ad7) aH)
def s83(M83:Runner->(aa aB)->ay->af rW)(M156:Runner->aB->ay->af iF)(M160:Runner->aB->ay->af iH)(a0:Runner)(a1:aa aB)(a2:ay):af rW:=
 match VQ M83 M156 M160 (qK.mk a1 a1.length 0 a0 a2 (ay.mk [] (aL.mk 0 0 0) [] (aL.mk 0 0 0)))with|I=>I|V r10=>bif J (r10.t11<r10.t10)then if 0<=r10.t11/\r10.t11<zR r10.t9 then bif J (r10.t9[zD r10.t11]!.cg=4)then match M156 r10.b0 (aB.mk r10.t9[zD r10.t11]!.cg r10.t9[zD r10.t11]!.bg r10.t9[zD r10.t11]!.dJ r10.t9[zD r10.t11]!.fN (az.mk r10.t9[zD r10.t11]!.aG.bE r10.t9[zD r10.t11]!.aG.fN r10.t9[zD r10.t11]!.aG.ax) r10.t9[zD r10.t11]!.aQ r10.t9[zD r10.t11]!.aW r10.t9[zD r10.t11]!.aR) r10.b1 with|I=>I|V r11=>I else match TZ r10.b1 r10.t9[zD r10.t11]!.bg with|I=>I|V r12=>bif J (r10.t9[zD r10.t11]!.cg=0)then match TU r12 (az.mk r10.t9[zD r10.t11]!.aG.bE r10.t9[zD r10.t11]!.aG.fN r10.t9[zD r10.t11]!.aG.ax)with|I=>I|V r13=>match Ry r10.b0 r12 r10.t9[zD r10.t11]!.dJ r13 with|I=>I|V r14=>I else bif J (r10.t9[zD r10.t11]!.cg=5)then if 0<=r10.t9[zD r10.t11]!.fN/\r10.t9[zD r10.t11]!.fN<zR r10.b0.au then match Ry r10.b0 r12 r10.t9[zD r10.t11]!.dJ r10.b0.au[r10.t9[zD r10.t11]!.fN.toNat]! with|I=>I|V r15=>I else I else bif J (r10.t9[zD r10.t11]!.cg=1)then match TU r12 (az.mk r10.t9[zD r10.t11]!.aG.bE r10.t9[zD r10.t11]!.aG.fN r10.t9[zD r10.t11]!.aG.ax)with|I=>I|V r16=>match afd r12 r16 with|I=>I|V r17=>I else bif J (r10.t9[zD r10.t11]!.cg=3)then match M160 r10.b0 (aB.mk r10.t9[zD r10.t11]!.cg r10.t9[zD r10.t11]!.bg r10.t9[zD r10.t11]!.dJ r10.t9[zD r10.t11]!.fN (az.mk r10.t9[zD r10.t11]!.aG.bE r10.t9[zD r10.t11]!.aG.fN r10.t9[zD r10.t11]!.aG.ax) r10.t9[zD r10.t11]!.aQ r10.t9[zD r10.t11]!.aW r10.t9[zD r10.t11]!.aR) r12 with|I=>I|V r18=>I else bif J (r10.t9[zD r10.t11]!.cg=6)then match PM r12.aI r10.t9[zD r10.t11]!.aR with|I=>I|V r19=>I else I else I else V (r10.b1)
def c83(M83:Runner->(aa aB)->ay->af rW)(M156:Runner->aB->ay->af iF)(M160:Runner->aB->ay->af iH)(a0:Runner)(a1:aa aB)(a2:ay):bU vn (F83 M83 M156 M160) 300 (ayQ M83 M156 M160) 83 (A83.c (a0,a1,a2,())) [] 0 d83.rd=s83 M83 M156 M160 a0 a1 a2:=aV
def as7(M83:Runner->(aa aB)->ay->af rW)(M156:Runner->aB->ay->af iF)(M160:Runner->aB->ay->af iH):bu:=(asc (aqU (arO (alb (x83 M83 (e82 di))))))
def aj2{M83 M156 M160}(h83:H83 M83)(h156:aaM M156)(h160:aa7 M160):bz vn (as7 M83 M156 M160):=(Vn (Af (Xl (IG (TW h83 (KH aP))))))
structure mQ where
 t53:List ay
 (t54 t55:Int)
 (b0 b1:ay)
def Rm:Td 0 mQ:= .c [] [6,11,53,54,55] (.t (bX.fc 1 0 []) (.t (bX.fc 1 4 []) (.c [] [6,11,53,54,55] (.r 0 2 (ec 6 (qp 0 0) (ec 11 (qp 1 0) (ec 53 (ql 128) (ec 54 aN (ec 55 aN en))))) (sb 0 128 (lc qn (aS (aS (aS (lc qn (aS (aS (aS ln)))))))) (sb 1 128 (lg 128) sn)) (λz=>⟨z.1.t.1,z.1.t.2.1,z.1.q.1,(ay.mk [] (aL.mk z.2.1.2.1 z.2.1.t.1 z.2.1.t.2.1) [] (aL.mk z.2.1.q.2.1 z.2.1.q.t.1 z.2.1.q.t.2.1)),z.t.1⟩) (λx=>(((),(),x.t53,x.t54,x.t55,()),(((),x.b0.aD.ah,x.b0.aD.ag,x.b0.aD.aj,(),x.b0.aI.ah,x.b0.aI.ag,x.b0.aI.aj,()),x.b1,())))))))
def KN(M83:Runner->(aa aB)->ay->af rW)(M156:Runner->aB->ay->af iF)(M160:Runner->aB->ay->af iH)(p:mQ):af (af mQ):=
 bif J (p.t55<p.t54)then if 0<=p.t55/\p.t55<zR p.t53 then match Jh p.b1 p.t53[zD p.t55]! with|I=>I|V r7=>V (V (mQ.mk p.t53 p.t54 (ak (p.t55+1)) (ay.mk [] p.b0.aD [] p.b0.aI) r7))else I else V (I)
def qG(M83:Runner->(aa aB)->ay->af rW)(M156:Runner->aB->ay->af iF)(M160:Runner->aB->ay->af iH):=bJ (KN M83 M156 M160)
structure Bm where
 t7:List ay
 t8:Bool
 (t15 t16:Int)
 b0:Runner
 b1:aB
 (b2 b3:ay)
def Rt:Td 0 Bm:= .c [] [3,4,5,6,7,8,15,16] (.t (bX.s 7 [] 128) (.c [] [3,4,5,6,7,8,15,16] (.r 0 5 (ec 3 (qp 0 0) (ec 4 (qp 1 0) (ec 5 (qp 2 0) (ec 6 (qp 3 0) (ec 7 (qo 4) (ec 8 qb (ec 15 aN (ec 16 aN en)))))))) (sb 0 133 (lg 133) (sb 1 166 (lg 166) (sb 2 128 (lg 128) (sb 3 128 (lc qn (aS (aS (aS (lc qn (aS (aS (aS ln)))))))) (sr 4 128 sn))))) (λz=>⟨z.q.2.1,z.1.q.2.1,z.1.q.t.1,z.1.q.t.2.1,z.2.1,z.t.1,z.t.2.1,(ay.mk [] (aL.mk z.q.1.2.1 z.q.1.t.1 z.q.1.t.2.1) [] (aL.mk z.q.1.q.2.1 z.q.1.q.t.1 z.q.1.q.t.2.1))⟩) (λx=>(((),(),(),(),(),x.t8,x.t15,x.t16,()),(x.b0,x.b1,x.b2,((),x.b3.aD.ah,x.b3.aD.ag,x.b3.aD.aj,(),x.b3.aI.ah,x.b3.aI.ag,x.b3.aI.aj,()),x.t7,()))))))
def A5(M83:Runner->(aa aB)->ay->af rW)(M156:Runner->aB->ay->af iF)(M160:Runner->aB->ay->af iH)(p:Bm):af (af Bm):=
 bif J (p.t16<p.t15)then match TZ p.b2 p.b1.bg with|I=>I|V r1=>match TU r1 (az.mk p.b1.aG.bE p.b1.aG.fN p.b1.aG.ax)with|I=>I|V r2=>match Sc r2 with|I=>I|V r3=>bif r3.fst then match GX r1 with|I=>I|V r4=>if(p.t7++[r4]).length<=1073741824 then bif bif r3.snd then G else O then V (I)else match M83 p.b0 p.b1.aQ r1 with|I=>I|V r5=>V (V (Bm.mk (p.t7++[r4]) p.t8 p.t15 (ak (p.t16+1)) p.b0 (aB.mk p.b1.cg p.b1.bg p.b1.dJ p.b1.fN (az.mk p.b1.aG.bE p.b1.aG.fN p.b1.aG.ax) p.b1.aQ p.b1.aW p.b1.aR) r5 (ay.mk [] p.b3.aD [] p.b3.aI)))else I else bif bif r3.snd then G else O then V (I)else match M83 p.b0 p.b1.aQ r1 with|I=>I|V r6=>V (V (Bm.mk p.t7 p.t8 p.t15 (ak (p.t16+1)) p.b0 (aB.mk p.b1.cg p.b1.bg p.b1.dJ p.b1.fN (az.mk p.b1.aG.bE p.b1.aG.fN p.b1.aG.ax) p.b1.aQ p.b1.aW p.b1.aR) r6 (ay.mk [] p.b3.aD [] p.b3.aI)))else V (I)
def Kq(M83:Runner->(aa aB)->ay->af rW)(M156:Runner->aB->ay->af iF)(M160:Runner->aB->ay->af iH):=bJ (A5 M83 M156 M160)
def anJ(M83:Runner->(aa aB)->ay->af rW)(M156:Runner->aB->ay->af iF)(M160:Runner->aB->ay->af iH):An:=(noTwo (noTwo (noTwo (.two (noTwo (Rt.lp (Kq M83 M156 M160) .no)) (noTwo (noTwo (.two (noTwo (Rm.lp (qG M83 M156 M160) .no)) .no)))))))
def aBX(M83:Runner->(aa aB)->ay->af rW)(M156:Runner->aB->ay->af iF)(M160:Runner->aB->ay->af iH):eX vn (as7 M83 M156 M160) 0 300 156 (anJ M83 M156 M160):=b6 (l:=[(aY f156 0,(Rt.lp (Kq M83 M156 M160) .no)),(aY f156 1,(Rm.lp (qG M83 M156 M160) .no))]) func156 (bN aV) aV (aA (aO Rt) (aA (aO Rm) aH))
def akd(M83:Runner->(aa aB)->ay->af rW)(M156:Runner->aB->ay->af iF)(M160:Runner->aB->ay->af iH)(a0:Runner)(a1:aB)(a2:ay):af iF:=
 match Kq M83 M156 M160 (Bm.mk [] O a1.fN 0 a0 (aB.mk a1.cg a1.bg a1.dJ a1.fN (az.mk a1.aG.bE a1.aG.fN a1.aG.ax) a1.aQ a1.aW a1.aR) a2 (ay.mk [] (aL.mk 0 0 0) [] (aL.mk 0 0 0)))with|I=>I|V r8=>bif J (r8.t16<r8.t15)then match TZ r8.b2 r8.b1.bg with|I=>I|V r9=>match TU r9 (az.mk r8.b1.aG.bE r8.b1.aG.fN r8.b1.aG.ax)with|I=>I|V r10=>match Sc r10 with|I=>I|V r11=>bif r11.fst then match GX r9 with|I=>I|V r12=>if(r8.t7++[r12]).length<=1073741824 then bif bif r11.snd then G else O then if(0:Int)<=(0:Int)/\(0:Int)<(↑(r8.t7++[r12]).length:Int)then if 128=128/\0<zR (r8.t7++[r12]) then if(0:Int)<=(1:Int)/\(1:Int)<=(↑(r8.t7++[r12]).length:Int)then match qG M83 M156 M160 (mQ.mk (ya 1 (r8.t7++[r12])) (↑(ya 1 (r8.t7++[r12])).length:Int) 0 (ay.mk [] r8.b3.aD [] r8.b3.aI) (r8.t7++[r12])[0]!)with|I=>I|V r13=>bif J (r13.t55<r13.t54)then if 0<=r13.t55/\r13.t55<zR r13.t53 then match Jh r13.b1 r13.t53[zD r13.t55]! with|I=>I|V r14=>I else I else V (r13.b1)else I else I else I else match M83 r8.b0 r8.b1.aQ r9 with|I=>I|V r15=>I else I else bif bif r11.snd then G else O then if(0:Int)<=(0:Int)/\(0:Int)<zR r8.t7 then if 128=128/\0<zR r8.t7 then if(0:Int)<=(1:Int)/\(1:Int)<=zR r8.t7 then match qG M83 M156 M160 (mQ.mk (ya 1 r8.t7) (↑(ya 1 r8.t7).length:Int) 0 (ay.mk [] r8.b3.aD [] r8.b3.aI) r8.t7[0]!)with|I=>I|V r16=>bif J (r16.t55<r16.t54)then if 0<=r16.t55/\r16.t55<zR r16.t53 then match Jh r16.b1 r16.t53[zD r16.t55]! with|I=>I|V r17=>I else I else V (r16.b1)else I else I else I else match M83 r8.b0 r8.b1.aQ r9 with|I=>I|V r18=>I else bif r8.t8 then if(r8.t7++[r8.b2]).length<=1073741824 then if(0:Int)<=(0:Int)/\(0:Int)<(↑(r8.t7++[r8.b2]).length:Int)then if 128=128/\0<zR (r8.t7++[r8.b2]) then if(0:Int)<=(1:Int)/\(1:Int)<=(↑(r8.t7++[r8.b2]).length:Int)then match qG M83 M156 M160 (mQ.mk (ya 1 (r8.t7++[r8.b2])) (↑(ya 1 (r8.t7++[r8.b2])).length:Int) 0 (ay.mk [] r8.b3.aD [] r8.b3.aI) (r8.t7++[r8.b2])[0]!)with|I=>I|V r19=>bif J (r19.t55<r19.t54)then if 0<=r19.t55/\r19.t55<zR r19.t53 then match Jh r19.b1 r19.t53[zD r19.t55]! with|I=>I|V r20=>I else I else V (r19.b1)else I else I else I else I else if(0:Int)<=(0:Int)/\(0:Int)<zR r8.t7 then if 128=128/\0<zR r8.t7 then if(0:Int)<=(1:Int)/\(1:Int)<=zR r8.t7 then match qG M83 M156 M160 (mQ.mk (ya 1 r8.t7) (↑(ya 1 r8.t7).length:Int) 0 (ay.mk [] r8.b3.aD [] r8.b3.aI) r8.t7[0]!)with|I=>I|V r21=>bif J (r21.t55<r21.t54)then if 0<=r21.t55/\r21.t55<zR r21.t53 then match Jh r21.b1 r21.t53[zD r21.t55]! with|I=>I|V r22=>I else I else V (r21.b1)else I else I else I
def aFJ(M83:Runner->(aa aB)->ay->af rW)(M156:Runner->aB->ay->af iF)(M160:Runner->aB->ay->af iH)(a0:Runner)(a1:aB)(a2:ay):bU vn (as7 M83 M156 M160) 300 (anJ M83 M156 M160) 156 (atV.c (a0,a1,a2,())) [] 0 d156.rd=akd M83 M156 M160 a0 a1 a2:=aV
def aqM(M83:Runner->(aa aB)->ay->af rW)(M156:Runner->aB->ay->af iF)(M160:Runner->aB->ay->af iH):bu:=(asc (aqU (alb (x83 M83 (e82 di)))))
def ahr{M83 M156 M160}(h83:H83 M83)(h156:aaM M156)(h160:aa7 M160):bz vn (aqM M83 M156 M160):=(Vn (Af (IG (TW h83 (KH aP)))))
def ao0(M83:Runner->(aa aB)->ay->af rW)(M156:Runner->aB->ay->af iF)(M160:Runner->aB->ay->af iH):An:= .no
def aBP(M83:Runner->(aa aB)->ay->af rW)(M156:Runner->aB->ay->af iF)(M160:Runner->aB->ay->af iH):eX vn (aqM M83 M156 M160) 0 300 160 (ao0 M83 M156 M160):=b6 (l:=[]) func160 (bN aV) aV aH
def ajA(M83:Runner->(aa aB)->ay->af rW)(M156:Runner->aB->ay->af iF)(M160:Runner->aB->ay->af iH)(a0:Runner)(a1:aB)(a2:ay):af iH:=
 match TU a2 (az.mk a1.aG.bE a1.aG.fN a1.aG.ax)with|I=>I|V r1=>match Sc r1 with|I=>I|V r2=>bif bif r2.fst then G else O then match M83 a0 a1.aQ a2 with|I=>I|V r3=>V (r3)else bif bif r2.snd then G else O then match M83 a0 a1.aW a2 with|I=>I|V r4=>V (r4)else match GX a2 with|I=>I|V r5=>match M83 a0 a1.aQ r5 with|I=>I|V r6=>match GX a2 with|I=>I|V r7=>match M83 a0 a1.aW r7 with|I=>I|V r8=>match Jh r6 r8 with|I=>I|V r9=>V (r9)
def aHK(M83:Runner->(aa aB)->ay->af rW)(M156:Runner->aB->ay->af iF)(M160:Runner->aB->ay->af iH)(a0:Runner)(a1:aB)(a2:ay):bU vn (aqM M83 M156 M160) 300 (ao0 M83 M156 M160) 160 (asa.c (a0,a1,a2,())) [] 0 d160.rd=ajA M83 M156 M160 a0 a1 a2:=aV
def dN:Nat->(Runner->(aa aB)->ay->af rW)×(Runner->aB->ay->af iF)×(Runner->aB->ay->af iH)
 |0=>(λ_ _ _=>I,λ_ _ _=>I,λ_ _ _=>I)
 |n+1=>(s83 (dN n).1 (dN n).2.1 (dN n).2.2,akd (dN n).1 (dN n).2.1 (dN n).2.2,ajA (dN n).1 (dN n).2.1 (dN n).2.2)
def YM(n:Nat):Runner->(aa aB)->ay->af rW:=(dN n).1
def DM(n:Nat):Runner->aB->ay->af iF:=(dN n).2.1
def FM(n:Nat):Runner->aB->ay->af iH:=(dN n).2.2
def pJ:∀n,H83 (YM n)/\aaM (DM n)/\aa7 (FM n)
 |0=>⟨λ_ _ h=>(by cases h),λ_ _ h=>(by cases h),λ_ _ h=>(by cases h)⟩
 |n+1=>by
  have ih:=pJ n;obtain⟨i83,i156,i160⟩:=ih;refine⟨?_,?_,?_⟩
  ·exact(dR (ass i83 i156 i160) (aHi (YM n) (DM n) (FM n)) (λ_=>aV) (λ_=>aV) λg=>c83 (YM n) (DM n) (FM n) g.1 g.2.1 g.2.2.1)
  ·exact(dR (aj2 i83 i156 i160) (aBX (YM n) (DM n) (FM n)) (λ_=>aV) (λ_=>aV) λg=>aFJ (YM n) (DM n) (FM n) g.1 g.2.1 g.2.2.1)
  ·exact(dR (ahr i83 i156 i160) (aBP (YM n) (DM n) (FM n)) (λ_=>aV) (λ_=>aV) λg=>aHK (YM n) (DM n) (FM n) g.1 g.2.1 g.2.2.1)
def r83:Runner->(aa aB)->ay->af rW:=λa0 a1 a2=>lim (λn=>YM n a0 a1 a2)
def asZ:H83 r83:=λg b h=>by
 obtain⟨n,hn⟩:=dA (show lim (λn=>YM n g.1 g.2.1 g.2.2.1)=V b from h);exact(pJ n).1 g b hn
def e83(F:bu):bu:=x83 r83 F
def atb{F:bu}(h:bz vn F):bz vn (e83 F):=TW asZ h
abbrev ayH:=aL
def d168:Td 0 ayH:= .c [] [4] (.r 0 1 (ec 4 (qp 0 0) en) (sb 0 34 (lg 34) sn) (λz=>z.2.1) (λx=>(((),()),(x,()))))
def D6(a0:aL)(a1:Int):af ayH:=
 match oI (8) a0 (m36 a1)with|I=>I|V r1=>V (r1.fst)
def aun:=eL vn 168 G (lc (qg 34) (aS ln)) d168 (λg=>D6 g.1 g.2.1)
def IL:EO aun:=λh=>kL (an:= .no) func168 (U6 (KQ aP)) aH h
structure ue where
 (t48 t49:Int)
 (b0 b1 b2 b3:aJ)
def Rh:Td 0 ue:= .c [] [2,3,4,5,48,49] (.t (bX.c 3 4 [] 34) (.c [] [2,3,4,5,48,49] (.r 0 6 (ec 2 (qp 0 0) (ec 3 (qp 1 0) (ec 4 (qp 2 0) (ec 5 (qp 3 0) (ec 48 aN (ec 49 aN en)))))) (sb 0 147 (lg 147) (sb 1 147 (lg 147) (sb 2 147 (lc qn (aS (aS (aS (lc qn (aS (aS (aS ln)))))))) (sb 3 147 (lc (qo 4) (aS (aS (aS (lc (qo 5) (aS (aS (aS ln)))))))) (sr 4 34 (sr 5 34 sn)))))) (λz=>⟨z.1.q.1,z.1.q.2.1,z.2.1,z.t.1,(aJ.mk [] (aL.mk z.t.2.1.2.1 z.t.2.1.t.1 z.t.2.1.t.2.1) [] (aL.mk z.t.2.1.q.2.1 z.t.2.1.q.t.1 z.t.2.1.q.t.2.1)),(aJ.mk z.q.2.1 (aL.mk z.q.1.2.1 z.q.1.t.1 z.q.1.t.2.1) z.q.t.1 (aL.mk z.q.1.q.2.1 z.q.1.q.t.1 z.q.1.q.t.2.1))⟩) (λx=>(((),(),(),(),x.t48,x.t49,()),(x.b0,x.b1,((),x.b2.aD.ah,x.b2.aD.ag,x.b2.aD.aj,(),x.b2.aI.ah,x.b2.aI.ag,x.b2.aI.aj,()),((),x.b3.aD.ah,x.b3.aD.ag,x.b3.aD.aj,(),x.b3.aI.ah,x.b3.aI.ag,x.b3.aI.aj,()),x.b3.ai,x.b3.aF,()))))))
def KO(p:ue):af (af ue):=
 bif J (p.t49<p.t48)then bif J (zR p.b0.aF<=p.t49)then if 0<=p.t49/\p.t49<zR p.b1.aF then if(p.b3.aF++[p.b1.aF[zD p.t49]!]).length<=1073741824 then V (V (ue.mk p.t48 (ak (p.t49+1)) p.b0 p.b1 (aJ.mk [] p.b2.aD [] p.b2.aI) (aJ.mk p.b3.ai p.b3.aD (p.b3.aF++[p.b1.aF[zD p.t49]!]) p.b3.aI)))else I else I else bif J (zR p.b1.aF<=p.t49)then if 0<=p.t49/\p.t49<zR p.b0.aF then if(p.b3.aF++[p.b0.aF[zD p.t49]!]).length<=1073741824 then V (V (ue.mk p.t48 (ak (p.t49+1)) p.b0 p.b1 (aJ.mk [] p.b2.aD [] p.b2.aI) (aJ.mk p.b3.ai p.b3.aD (p.b3.aF++[p.b0.aF[zD p.t49]!]) p.b3.aI)))else I else I else if 0<=p.t49/\p.t49<zR p.b0.aF then if 0<=p.t49/\p.t49<zR p.b1.aF then match lE p.b0.aF[zD p.t49]! p.b1.aF[zD p.t49]! with|I=>I|V r2=>if(p.b3.aF++[r2]).length<=1073741824 then V (V (ue.mk p.t48 (ak (p.t49+1)) p.b0 p.b1 (aJ.mk [] p.b2.aD [] p.b2.aI) (aJ.mk p.b3.ai p.b3.aD (p.b3.aF++[r2]) p.b3.aI)))else I else I else I else V (I)
def Ls:=bJ (KO)
structure Fb where
 (t21 t22:Int)
 (b0 b1 b2 b3:aJ)
def QZ:Td 0 Fb:= .c [] [2,3,4,5,21,22] (.t (bX.c 3 0 [] 34) (.c [] [2,3,4,5,21,22] (.r 0 5 (ec 2 (qp 0 0) (ec 3 (qp 1 0) (ec 4 (qp 2 0) (ec 5 (qp 3 0) (ec 21 aN (ec 22 aN en)))))) (sb 0 147 (lg 147) (sb 1 147 (lg 147) (sb 2 147 (lc qn (aS (aS (aS (lc qn (aS (aS (aS ln)))))))) (sb 3 147 (lc (qo 4) (aS (aS (aS (lc qn (aS (aS (aS ln)))))))) (sr 4 34 sn))))) (λz=>⟨z.1.q.1,z.1.q.2.1,z.2.1,z.t.1,(aJ.mk [] (aL.mk z.t.2.1.2.1 z.t.2.1.t.1 z.t.2.1.t.2.1) [] (aL.mk z.t.2.1.q.2.1 z.t.2.1.q.t.1 z.t.2.1.q.t.2.1)),(aJ.mk z.q.2.1 (aL.mk z.q.1.2.1 z.q.1.t.1 z.q.1.t.2.1) [] (aL.mk z.q.1.q.2.1 z.q.1.q.t.1 z.q.1.q.t.2.1))⟩) (λx=>(((),(),(),(),x.t21,x.t22,()),(x.b0,x.b1,((),x.b2.aD.ah,x.b2.aD.ag,x.b2.aD.aj,(),x.b2.aI.ah,x.b2.aI.ag,x.b2.aI.aj,()),((),x.b3.aD.ah,x.b3.aD.ag,x.b3.aD.aj,(),x.b3.aI.ah,x.b3.aI.ag,x.b3.aI.aj,()),x.b3.ai,()))))))
def LB(p:Fb):af (af Fb):=
 bif J (p.t22<p.t21)then if 0<=p.t22/\p.t22<zR p.b0.ai then if 0<=p.t22/\p.t22<zR p.b1.ai then match lE p.b0.ai[zD p.t22]! p.b1.ai[zD p.t22]! with|I=>I|V r1=>if(p.b3.ai++[r1]).length<=1073741824 then V (V (Fb.mk p.t21 (ak (p.t22+1)) p.b0 p.b1 (aJ.mk [] p.b2.aD [] p.b2.aI) (aJ.mk (p.b3.ai++[r1]) p.b3.aD [] p.b3.aI)))else I else I else I else V (I)
def Ko:=bJ (LB)
abbrev aAP:=aJ
def d171:Td 0 aAP:= .c [] [4] (.r 0 3 (ec 4 (qp 0 0) en) (sb 0 147 (lc (qo 1) (aS (aS (aS (lc (qo 2) (aS (aS (aS ln)))))))) (sr 1 34 (sr 2 34 sn))) (λz=>(aJ.mk z.t.1 (aL.mk z.2.1.2.1 z.2.1.t.1 z.2.1.t.2.1) z.t.2.1 (aL.mk z.2.1.q.2.1 z.2.1.q.t.1 z.2.1.q.t.2.1))) (λx=>(((),()),(((),x.aD.ah,x.aD.ag,x.aD.aj,(),x.aI.ah,x.aI.ag,x.aI.aj,()),x.ai,x.aF,()))))
def Sz(a0:aJ)(a1:aJ):af aAP:=
 match lE a0.aD a1.aD with|I=>I|V r3=>match lE a0.aI a1.aI with|I=>I|V r4=>match Ko (Fb.mk a0.ai.length 0 a0 a1 (aJ.mk [] (aL.mk 0 0 0) [] (aL.mk 0 0 0)) (aJ.mk [] r3 [] r4))with|I=>I|V r5=>bif J (r5.t22<r5.t21)then if 0<=r5.t22/\r5.t22<zR r5.b0.ai then if 0<=r5.t22/\r5.t22<zR r5.b1.ai then match lE r5.b0.ai[zD r5.t22]! r5.b1.ai[zD r5.t22]! with|I=>I|V r6=>if(r5.b3.ai++[r6]).length<=1073741824 then I else I else I else I else match Ls (ue.mk (if(zR r5.b0.aF:Int)<(zR r5.b1.aF:Int)then(zR r5.b1.aF:Int)else(zR r5.b0.aF:Int)) 0 r5.b0 r5.b1 (aJ.mk [] r5.b2.aD [] r5.b2.aI) (aJ.mk r5.b3.ai r5.b3.aD [] r5.b3.aI))with|I=>I|V r7=>bif J (r7.t49<r7.t48)then bif J (zR r7.b0.aF<=r7.t49)then if 0<=r7.t49/\r7.t49<zR r7.b1.aF then if(r7.b3.aF++[r7.b1.aF[zD r7.t49]!]).length<=1073741824 then I else I else I else bif J (zR r7.b1.aF<=r7.t49)then if 0<=r7.t49/\r7.t49<zR r7.b0.aF then if(r7.b3.aF++[r7.b0.aF[zD r7.t49]!]).length<=1073741824 then I else I else I else if 0<=r7.t49/\r7.t49<zR r7.b0.aF then if 0<=r7.t49/\r7.t49<zR r7.b1.aF then match lE r7.b0.aF[zD r7.t49]! r7.b1.aF[zD r7.t49]! with|I=>I|V r8=>if(r7.b3.aF++[r8]).length<=1073741824 then I else I else I else I else V (r7.b3)
def ayV:=eL vn 171 G (lc (qg 147) (lc (qg 147) ln)) d171 (λg=>Sz g.1 g.2.1)
def Vm:EO ayV:=λh=>kL (an:=(noTwo (noTwo (.two (noTwo (QZ.lp Ko .no)) (.two (noTwo (Rh.lp Ls .no)) .no))))) (l:=[(aY f171 0,(QZ.lp Ko .no)),(aY f171 1,(Rh.lp Ls .no))]) func171 (sG aP) (aA (aO QZ) (aA (aO Rh) aH)) h
structure Fg where
 t10:List aJ
 (t11 t12:Int)
 (b0 b1:aJ)
def RG:Td 0 Fg:= .c [] [2,3,10,11,12] (.t (bX.fc 1 0 []) (.t (bX.fc 1 4 []) (.c [] [2,3,10,11,12] (.r 0 2 (ec 2 (qp 0 0) (ec 3 (qp 1 0) (ec 10 (ql 147) (ec 11 aN (ec 12 aN en))))) (sb 0 147 (lc qn (aS (aS (aS (lc qn (aS (aS (aS ln)))))))) (sb 1 147 (lg 147) sn)) (λz=>⟨z.1.t.1,z.1.t.2.1,z.1.q.1,(aJ.mk [] (aL.mk z.2.1.2.1 z.2.1.t.1 z.2.1.t.2.1) [] (aL.mk z.2.1.q.2.1 z.2.1.q.t.1 z.2.1.q.t.2.1)),z.t.1⟩) (λx=>(((),(),x.t10,x.t11,x.t12,()),(((),x.b0.aD.ah,x.b0.aD.ag,x.b0.aD.aj,(),x.b0.aI.ah,x.b0.aI.ag,x.b0.aI.aj,()),x.b1,())))))))
def Kv(p:Fg):af (af Fg):=
 bif J (p.t12<p.t11)then if 0<=p.t12/\p.t12<zR p.t10 then match Sz p.b1 p.t10[zD p.t12]! with|I=>I|V r1=>V (V (Fg.mk p.t10 p.t11 (ak (p.t12+1)) (aJ.mk [] p.b0.aD [] p.b0.aI) r1))else I else V (I)
def J3:=bJ (Kv)
abbrev azj:=aJ
def d247:Td 0 azj:= .c [] [2] (.r 0 1 (ec 2 (qp 0 0) en) (sb 0 147 (lg 147) sn) (λz=>z.2.1) (λx=>(((),()),(x,()))))
def Ov(a0:aa aJ):af azj:=
 if(0:Int)<=(0:Int)/\(0:Int)<zR a0 then if(0:Int)<=(1:Int)/\(1:Int)<=zR a0 then match J3 (Fg.mk (ya 1 a0) (↑(ya 1 a0).length:Int) 0 (aJ.mk [] (aL.mk 0 0 0) [] (aL.mk 0 0 0)) a0[0]!)with|I=>I|V r2=>bif J (r2.t12<r2.t11)then if 0<=r2.t12/\r2.t12<zR r2.t10 then match Sz r2.b1 r2.t10[zD r2.t12]! with|I=>I|V r3=>I else I else V (r2.b1)else I else I
def abi:bu->bu:=eZ vn 247 (lc (ql 147) ln) d247 (λg=>Ov g.1)
def amB:EO abi:=λh=>kZ (an:=(noTwo (noTwo (.two (noTwo (RG.lp J3 .no)) .no)))) (l:=[(aY f247 0,(RG.lp J3 .no))]) func247 (Vm aP) (aA (aO RG) aH) h
abbrev aCj:=aJ
def d169:Td 0 aCj:= .c [] [8] (.r 0 2 (ec 8 (qp 0 0) en) (sb 0 147 (lc (qo 1) (aS (aS (aS (lc (ql 34) (aS (aS (aS ln)))))))) (sr 1 34 sn)) (λz=>(aJ.mk z.t.1 (aL.mk z.2.1.2.1 z.2.1.t.1 z.2.1.t.2.1) z.2.1.q.1 (aL.mk z.2.1.q.2.1 z.2.1.q.t.1 z.2.1.q.t.2.1))) (λx=>(((),()),(((),x.aD.ah,x.aD.ag,x.aD.aj,x.aF,x.aI.ah,x.aI.ag,x.aI.aj,()),x.ai,()))))
def QG(a0:aU)(a1:aJ)(a2:Int)(a3:aL):af aCj:=
 if([]++a1.ai).length<=1073741824 then if 0<=a2/\a2<zR a0.ai then if 0<=a2/\a2<zR a0.ai then match m86 a3 a0.ai[a2.toNat]!.ah a0.ai[a2.toNat]!.ag with|I=>I|V r1=>if 0<=a2/\a2<(↑([]++a1.ai).length:Int)then if 34=34/\a2.toNat<zR ([]++a1.ai) then V (aJ.mk (([]++a1.ai).set a2.toNat r1.fst) a1.aD a1.aF a1.aI)else I else I else I else I else I
def aBy:bu->bu:=eZ vn 169 (lc (qg 26) (lc (qg 147) (aS (lc (qg 34) ln)))) d169 (λg=>QG g.1 g.2.1 g.t.1 g.t.2.1)
def amy:EO aBy:=λh=>kZ (an:= .no) func169 (R5 aP) aH h
structure BI where
 t5:List aL
 (t12 t13:Int)
 b0:aJ
 b1:aL
 b2:aJ
def SS:Td 0 BI:= .c [] [2,3,4,5,12,13] (.r 0 4 (ec 2 (qp 0 0) (ec 3 (qp 1 0) (ec 4 (qp 2 0) (ec 5 (qo 3) (ec 12 aN (ec 13 aN en)))))) (sb 0 147 (lg 147) (sb 1 34 (lg 34) (sb 2 147 (lc qn (aS (aS (aS (lc qn (aS (aS (aS ln)))))))) (sr 3 34 sn)))) (λz=>⟨z.q.1,z.1.q.1,z.1.q.2.1,z.2.1,z.t.1,(aJ.mk [] (aL.mk z.t.2.1.2.1 z.t.2.1.t.1 z.t.2.1.t.2.1) [] (aL.mk z.t.2.1.q.2.1 z.t.2.1.q.t.1 z.t.2.1.q.t.2.1))⟩) (λx=>(((),(),(),(),x.t12,x.t13,()),(x.b0,x.b1,((),x.b2.aD.ah,x.b2.aD.ag,x.b2.aD.aj,(),x.b2.aI.ah,x.b2.aI.ag,x.b2.aI.aj,()),x.t5,()))))
def K5(p:BI):af (af BI):=
 bif J (p.t13<p.t12)then match m32 p.b0.aD p.t13 with|I=>I|V r1=>bif r1 then if 0<=p.t13/\p.t13<zR p.t5 then if 34=34/\zD p.t13<zR p.t5 then match lE p.t5[zD p.t13]! p.b1 with|I=>I|V r2=>if 0<=p.t13/\p.t13<zR p.t5 then if 34=34/\zD p.t13<zR p.t5 then V (V (BI.mk (p.t5.set p.t13.toNat r2) p.t12 (ak (p.t13+1)) p.b0 p.b1 (aJ.mk [] p.b2.aD [] p.b2.aI)))else I else I else I else I else V (V (BI.mk p.t5 p.t12 (ak (p.t13+1)) p.b0 p.b1 (aJ.mk [] p.b2.aD [] p.b2.aI)))else V (I)
def Jp:=bJ (K5)
abbrev ayf:=aJ
def d170:Td 0 ayf:= .c [] [4] (.r 0 2 (ec 4 (qp 0 0) en) (sb 0 147 (lc (ql 34) (aS (aS (aS (lc (qo 1) (aS (aS (aS ln)))))))) (sr 1 34 sn)) (λz=>(aJ.mk z.2.1.1 (aL.mk z.2.1.2.1 z.2.1.t.1 z.2.1.t.2.1) z.t.1 (aL.mk z.2.1.q.2.1 z.2.1.q.t.1 z.2.1.q.t.2.1))) (λx=>(((),()),((x.ai,x.aD.ah,x.aD.ag,x.aD.aj,(),x.aI.ah,x.aI.ag,x.aI.aj,()),x.aF,()))))
def ZS(a0:aJ)(a1:aL):af ayf:=
 if([]++a0.aF).length<=1073741824 then match Jp (BI.mk ([]++a0.aF) (↑([]++a0.aF).length:Int) 0 a0 a1 (aJ.mk [] (aL.mk 0 0 0) [] (aL.mk 0 0 0)))with|I=>I|V r3=>bif J (r3.t13<r3.t12)then match m32 r3.b0.aD r3.t13 with|I=>I|V r4=>bif r4 then if 0<=r3.t13/\r3.t13<zR r3.t5 then if 34=34/\zD r3.t13<zR r3.t5 then match lE r3.t5[zD r3.t13]! r3.b1 with|I=>I|V r5=>if 0<=r3.t13/\r3.t13<zR r3.t5 then if 34=34/\zD r3.t13<zR r3.t5 then I else I else I else I else I else I else if(r3.t5++[r3.b1]).length<=1073741824 then match D6 r3.b0.aD 1with|I=>I|V r6=>V (aJ.mk r3.b0.ai r6 (r3.t5++[r3.b1]) r3.b0.aI)else I else I
def ayK:bu->bu:=eZ vn 170 (lc (qg 147) (lc (qg 34) ln)) d170 (λg=>ZS g.1 g.2.1)
def aft:EO ayK:=λh=>kZ (an:=(noTwo (noTwo (.two (noTwo (SS.lp Jp .no)) .no)))) (l:=[(aY f170 0,(SS.lp Jp .no))]) func170 (IL (sG (Gy aP))) (aA (aO SS) aH) h
abbrev Dz:=aJ
def d88:Td 0 Dz:= .c [] [8] (.r 0 1 (ec 8 (qp 0 0) en) (sb 0 147 (lg 147) sn) (λz=>z.2.1) (λx=>(((),()),(x,()))))
def A88:=(lc (qg 26) (lc (ql 34) (lc (ql 166) (lc (qg 147) ln))))
def x88(M:aU->(aa aL)->(aa aB)->aJ->af Dz):bu->bu:=eZ vn 88 A88 d88 (λg=>M g.1 g.2.1 g.2.2.1 g.2.2.2.1)
def H88(M:aU->(aa aL)->(aa aB)->aJ->af Dz):Prop:=HL vn 88 A88 d88 (λg=>M g.1 g.2.1 g.2.2.1 g.2.2.2.1)
def Uc{M:aU->(aa aL)->(aa aB)->aJ->af Dz}(hM:H88 M){F:bu}(h:bz vn F):bz vn (x88 M F):=Eh hM ⟨_,func88,aV,aV⟩ (λ_=>aV) h
abbrev lS:=aJ
def d167:Td 0 lS:= .c [] [8] (.r 0 1 (ec 8 (qp 0 0) en) (sb 0 147 (lg 147) sn) (λz=>z.2.1) (λx=>(((),()),(x,()))))
def asV:=(lc (qg 26) (lc (ql 34) (lc (qg 166) (lc (qg 147) ln))))
def x167(M:aU->(aa aL)->aB->aJ->af lS):bu->bu:=eZ vn 167 asV d167 (λg=>M g.1 g.2.1 g.2.2.1 g.2.2.2.1)
def ahA(M:aU->(aa aL)->aB->aJ->af lS):Prop:=HL vn 167 asV d167 (λg=>M g.1 g.2.1 g.2.2.1 g.2.2.2.1)
def agn{M:aU->(aa aL)->aB->aJ->af lS}(hM:ahA M){F:bu}(h:bz vn F):bz vn (x167 M F):=Eh hM ⟨_,func167,aV,aV⟩ (λ_=>aV) h
def F88(M88:aU->(aa aL)->(aa aB)->aJ->af Dz)(M167:aU->(aa aL)->aB->aJ->af lS):bu:=(aAn (ayV (ayK (aBy (aun (x167 M167 (Zj (x88 M88 (e87 di)))))))))
def auq{M88 M167}(h88:H88 M88)(h167:ahA M167):bz vn (F88 M88 M167):=(ahi (Vm (aft (amy (IL (agn h167 (vG (Uc h88 (Sl aP)))))))))
structure nN where
 t1:List aL
 t13:List aB
 (t14 t15:Int)
 b0:aU
 (b1 b2:aJ)
def aex:Td 0 nN:= .c [] [1,4,7,8,13,14,15] (.t (bX.fc 1 0 []) (.t (bX.fc 1 4 []) (.c [] [1,4,7,8,13,14,15] (.r 0 3 (ec 1 (ql 34) (ec 4 (qp 0 0) (ec 7 (qp 1 0) (ec 8 (qp 2 0) (ec 13 (ql 166) (ec 14 aN (ec 15 aN en))))))) (sb 0 26 (lg 26) (sb 1 147 (lg 147) (sb 2 147 (lc qn (aS (aS (aS (lc qn (aS (aS (aS ln)))))))) sn))) (λz=>⟨z.1.1,z.1.q.1,z.1.q.2.1,z.1.q.t.1,z.2.1,z.t.1,(aJ.mk [] (aL.mk z.t.2.1.2.1 z.t.2.1.t.1 z.t.2.1.t.2.1) [] (aL.mk z.t.2.1.q.2.1 z.t.2.1.q.t.1 z.t.2.1.q.t.2.1))⟩) (λx=>((x.t1,(),(),(),x.t13,x.t14,x.t15,()),(x.b0,x.b1,((),x.b2.aD.ah,x.b2.aD.ag,x.b2.aD.aj,(),x.b2.aI.ah,x.b2.aI.ag,x.b2.aI.aj,()),())))))))
def UL(M88:aU->(aa aL)->(aa aB)->aJ->af Dz)(M167:aU->(aa aL)->aB->aJ->af lS)(p:nN):af (af nN):=
 bif J (p.t15<p.t14)then if 0<=p.t15/\p.t15<zR p.t13 then bif J (p.t13[zD p.t15]!.cg=4)then match M167 p.b0 p.t1 (aB.mk p.t13[zD p.t15]!.cg p.t13[zD p.t15]!.bg p.t13[zD p.t15]!.dJ p.t13[zD p.t15]!.fN (az.mk p.t13[zD p.t15]!.aG.bE p.t13[zD p.t15]!.aG.fN p.t13[zD p.t15]!.aG.ax) p.t13[zD p.t15]!.aQ p.t13[zD p.t15]!.aW p.t13[zD p.t15]!.aR) p.b1 with|I=>I|V r1=>V (V (nN.mk p.t1 p.t13 p.t14 (ak (p.t15+1)) p.b0 r1 (aJ.mk [] p.b2.aD [] p.b2.aI)))else match D6 p.b1.aI p.t13[zD p.t15]!.bg with|I=>I|V r2=>bif J (p.t13[zD p.t15]!.cg=0)then match Qe (aJ.mk p.b1.ai p.b1.aD p.b1.aF r2) (az.mk p.t13[zD p.t15]!.aG.bE p.t13[zD p.t15]!.aG.fN p.t13[zD p.t15]!.aG.ax)with|I=>I|V r3=>match QG p.b0 (aJ.mk p.b1.ai p.b1.aD p.b1.aF r2) p.t13[zD p.t15]!.dJ r3 with|I=>I|V r4=>V (V (nN.mk p.t1 p.t13 p.t14 (ak (p.t15+1)) p.b0 r4 (aJ.mk [] p.b2.aD [] p.b2.aI)))else bif J (p.t13[zD p.t15]!.cg=5)then if 0<=p.t13[zD p.t15]!.fN/\p.t13[zD p.t15]!.fN<zR p.t1 then match QG p.b0 (aJ.mk p.b1.ai p.b1.aD p.b1.aF r2) p.t13[zD p.t15]!.dJ p.t1[p.t13[zD p.t15]!.fN.toNat]! with|I=>I|V r5=>V (V (nN.mk p.t1 p.t13 p.t14 (ak (p.t15+1)) p.b0 r5 (aJ.mk [] p.b2.aD [] p.b2.aI)))else I else bif J (p.t13[zD p.t15]!.cg=1)then match Qe (aJ.mk p.b1.ai p.b1.aD p.b1.aF r2) (az.mk p.t13[zD p.t15]!.aG.bE p.t13[zD p.t15]!.aG.fN p.t13[zD p.t15]!.aG.ax)with|I=>I|V r6=>match ZS (aJ.mk p.b1.ai p.b1.aD p.b1.aF r2) r6 with|I=>I|V r7=>V (V (nN.mk p.t1 p.t13 p.t14 (ak (p.t15+1)) p.b0 r7 (aJ.mk [] p.b2.aD [] p.b2.aI)))else bif J (p.t13[zD p.t15]!.cg=3)then match Qe (aJ.mk p.b1.ai p.b1.aD p.b1.aF r2) (az.mk p.t13[zD p.t15]!.aG.bE p.t13[zD p.t15]!.aG.fN p.t13[zD p.t15]!.aG.ax)with|I=>I|V r8=>match Fj r8 with|I=>I|V r9=>bif bif r9.fst then G else O then match M88 p.b0 p.t1 p.t13[zD p.t15]!.aQ (aJ.mk p.b1.ai p.b1.aD p.b1.aF r2)with|I=>I|V r10=>V (V (nN.mk p.t1 p.t13 p.t14 (ak (p.t15+1)) p.b0 r10 (aJ.mk [] p.b2.aD [] p.b2.aI)))else bif bif r9.snd then G else O then match M88 p.b0 p.t1 p.t13[zD p.t15]!.aW (aJ.mk p.b1.ai p.b1.aD p.b1.aF r2)with|I=>I|V r11=>V (V (nN.mk p.t1 p.t13 p.t14 (ak (p.t15+1)) p.b0 r11 (aJ.mk [] p.b2.aD [] p.b2.aI)))else match M88 p.b0 p.t1 p.t13[zD p.t15]!.aQ (aJ.mk p.b1.ai p.b1.aD p.b1.aF r2)with|I=>I|V r12=>match M88 p.b0 p.t1 p.t13[zD p.t15]!.aW (aJ.mk p.b1.ai p.b1.aD p.b1.aF r2)with|I=>I|V r13=>match Sz r12 r13 with|I=>I|V r14=>V (V (nN.mk p.t1 p.t13 p.t14 (ak (p.t15+1)) p.b0 r14 (aJ.mk [] p.b2.aD [] p.b2.aI)))else bif J (p.t13[zD p.t15]!.cg=6)then match PJ r2 p.t13[zD p.t15]!.aR with|I=>I|V r15=>V (V (nN.mk p.t1 p.t13 p.t14 (ak (p.t15+1)) p.b0 (aJ.mk p.b1.ai p.b1.aD p.b1.aF r15.fst) (aJ.mk [] p.b2.aD [] p.b2.aI)))else V (V (nN.mk p.t1 p.t13 p.t14 (ak (p.t15+1)) p.b0 (aJ.mk p.b1.ai p.b1.aD p.b1.aF r2) (aJ.mk [] p.b2.aD [] p.b2.aI)))else I else V (I)
def VB(M88:aU->(aa aL)->(aa aB)->aJ->af Dz)(M167:aU->(aa aL)->aB->aJ->af lS):=bJ (UL M88 M167)
def aw5(M88:aU->(aa aL)->(aa aB)->aJ->af Dz)(M167:aU->(aa aL)->aB->aJ->af lS):An:=(noTwo (.two (noTwo (aex.lp (VB M88 M167) .no)) .no))
def aF8(M88:aU->(aa aL)->(aa aB)->aJ->af Dz)(M167:aU->(aa aL)->aB->aJ->af lS):eX vn (F88 M88 M167) 0 300 88 (aw5 M88 M167):=b6 (l:=[(aY f88 0,(aex.lp (VB M88 M167) .no))]) func88 (bN aV) aV (aA (aO aex) aH)
def s88(M88:aU->(aa aL)->(aa aB)->aJ->af Dz)(M167:aU->(aa aL)->aB->aJ->af lS)(a0:aU)(a1:aa aL)(a2:aa aB)(a3:aJ):af Dz:=
 match VB M88 M167 (nN.mk a1 a2 a2.length 0 a0 a3 (aJ.mk [] (aL.mk 0 0 0) [] (aL.mk 0 0 0)))with|I=>I|V r16=>bif J (r16.t15<r16.t14)then if 0<=r16.t15/\r16.t15<zR r16.t13 then bif J (r16.t13[zD r16.t15]!.cg=4)then match M167 r16.b0 r16.t1 (aB.mk r16.t13[zD r16.t15]!.cg r16.t13[zD r16.t15]!.bg r16.t13[zD r16.t15]!.dJ r16.t13[zD r16.t15]!.fN (az.mk r16.t13[zD r16.t15]!.aG.bE r16.t13[zD r16.t15]!.aG.fN r16.t13[zD r16.t15]!.aG.ax) r16.t13[zD r16.t15]!.aQ r16.t13[zD r16.t15]!.aW r16.t13[zD r16.t15]!.aR) r16.b1 with|I=>I|V r17=>I else match D6 r16.b1.aI r16.t13[zD r16.t15]!.bg with|I=>I|V r18=>bif J (r16.t13[zD r16.t15]!.cg=0)then match Qe (aJ.mk r16.b1.ai r16.b1.aD r16.b1.aF r18) (az.mk r16.t13[zD r16.t15]!.aG.bE r16.t13[zD r16.t15]!.aG.fN r16.t13[zD r16.t15]!.aG.ax)with|I=>I|V r19=>match QG r16.b0 (aJ.mk r16.b1.ai r16.b1.aD r16.b1.aF r18) r16.t13[zD r16.t15]!.dJ r19 with|I=>I|V r20=>I else bif J (r16.t13[zD r16.t15]!.cg=5)then if 0<=r16.t13[zD r16.t15]!.fN/\r16.t13[zD r16.t15]!.fN<zR r16.t1 then match QG r16.b0 (aJ.mk r16.b1.ai r16.b1.aD r16.b1.aF r18) r16.t13[zD r16.t15]!.dJ r16.t1[r16.t13[zD r16.t15]!.fN.toNat]! with|I=>I|V r21=>I else I else bif J (r16.t13[zD r16.t15]!.cg=1)then match Qe (aJ.mk r16.b1.ai r16.b1.aD r16.b1.aF r18) (az.mk r16.t13[zD r16.t15]!.aG.bE r16.t13[zD r16.t15]!.aG.fN r16.t13[zD r16.t15]!.aG.ax)with|I=>I|V r22=>match ZS (aJ.mk r16.b1.ai r16.b1.aD r16.b1.aF r18) r22 with|I=>I|V r23=>I else bif J (r16.t13[zD r16.t15]!.cg=3)then match Qe (aJ.mk r16.b1.ai r16.b1.aD r16.b1.aF r18) (az.mk r16.t13[zD r16.t15]!.aG.bE r16.t13[zD r16.t15]!.aG.fN r16.t13[zD r16.t15]!.aG.ax)with|I=>I|V r24=>match Fj r24 with|I=>I|V r25=>bif bif r25.fst then G else O then match M88 r16.b0 r16.t1 r16.t13[zD r16.t15]!.aQ (aJ.mk r16.b1.ai r16.b1.aD r16.b1.aF r18)with|I=>I|V r26=>I else bif bif r25.snd then G else O then match M88 r16.b0 r16.t1 r16.t13[zD r16.t15]!.aW (aJ.mk r16.b1.ai r16.b1.aD r16.b1.aF r18)with|I=>I|V r27=>I else match M88 r16.b0 r16.t1 r16.t13[zD r16.t15]!.aQ (aJ.mk r16.b1.ai r16.b1.aD r16.b1.aF r18)with|I=>I|V r28=>match M88 r16.b0 r16.t1 r16.t13[zD r16.t15]!.aW (aJ.mk r16.b1.ai r16.b1.aD r16.b1.aF r18)with|I=>I|V r29=>match Sz r28 r29 with|I=>I|V r30=>I else bif J (r16.t13[zD r16.t15]!.cg=6)then match PJ r18 r16.t13[zD r16.t15]!.aR with|I=>I|V r31=>I else I else I else V (r16.b1)
def c88(M88:aU->(aa aL)->(aa aB)->aJ->af Dz)(M167:aU->(aa aL)->aB->aJ->af lS)(a0:aU)(a1:aa aL)(a2:aa aB)(a3:aJ):bU vn (F88 M88 M167) 300 (aw5 M88 M167) 88 (A88.c (a0,a1,a2,a3,())) [] 0 d88.rd=s88 M88 M167 a0 a1 a2 a3:=aV
def asU(M88:aU->(aa aL)->(aa aB)->aJ->af Dz)(M167:aU->(aa aL)->aB->aJ->af lS):bu:=(abi (aun (Zj (x88 M88 (e87 di)))))
def ahf{M88 M167}(h88:H88 M88)(h167:ahA M167):bz vn (asU M88 M167):=(amB (IL (vG (Uc h88 (Sl aP)))))
structure Bg where
 t1:List aL
 t9:List aJ
 (t13 t14:Int)
 b0:aU
 b1:aB
 (b2 b3:aJ)
def Qx:Td 0 Bg:= .c [] [1,4,6,7,8,9,13,14] (.t (bX.s 9 [] 147) (.c [] [1,4,6,7,8,9,13,14] (.r 0 5 (ec 1 (ql 34) (ec 4 (qp 0 0) (ec 6 (qp 1 0) (ec 7 (qp 2 0) (ec 8 (qp 3 0) (ec 9 (qo 4) (ec 13 aN (ec 14 aN en)))))))) (sb 0 26 (lg 26) (sb 1 166 (lg 166) (sb 2 147 (lg 147) (sb 3 147 (lc qn (aS (aS (aS (lc qn (aS (aS (aS ln)))))))) (sr 4 147 sn))))) (λz=>⟨z.1.1,z.q.2.1,z.1.q.t.1,z.1.q.t.2.1,z.2.1,z.t.1,z.t.2.1,(aJ.mk [] (aL.mk z.q.1.2.1 z.q.1.t.1 z.q.1.t.2.1) [] (aL.mk z.q.1.q.2.1 z.q.1.q.t.1 z.q.1.q.t.2.1))⟩) (λx=>((x.t1,(),(),(),(),(),x.t13,x.t14,()),(x.b0,x.b1,x.b2,((),x.b3.aD.ah,x.b3.aD.ag,x.b3.aD.aj,(),x.b3.aI.ah,x.b3.aI.ag,x.b3.aI.aj,()),x.t9,()))))))
def BP(M88:aU->(aa aL)->(aa aB)->aJ->af Dz)(M167:aU->(aa aL)->aB->aJ->af lS)(p:Bg):af (af Bg):=
 bif J (p.t14<p.t13)then match D6 p.b2.aI p.b1.bg with|I=>I|V r1=>match Qe (aJ.mk p.b2.ai p.b2.aD p.b2.aF r1) (az.mk p.b1.aG.bE p.b1.aG.fN p.b1.aG.ax)with|I=>I|V r2=>match Fj r2 with|I=>I|V r3=>bif r3.fst then if(p.t9++[aJ.mk p.b2.ai p.b2.aD p.b2.aF r1]).length<=1073741824 then bif bif r3.snd then G else O then match Ov (p.t9++[aJ.mk p.b2.ai p.b2.aD p.b2.aF r1])with|I=>I|V r4=>V (I)else match M88 p.b0 p.t1 p.b1.aQ (aJ.mk p.b2.ai p.b2.aD p.b2.aF r1)with|I=>I|V r5=>V (V (Bg.mk p.t1 (p.t9++[aJ.mk p.b2.ai p.b2.aD p.b2.aF r1]) p.t13 (ak (p.t14+1)) p.b0 (aB.mk p.b1.cg p.b1.bg p.b1.dJ p.b1.fN (az.mk p.b1.aG.bE p.b1.aG.fN p.b1.aG.ax) p.b1.aQ p.b1.aW p.b1.aR) r5 (aJ.mk [] p.b3.aD [] p.b3.aI)))else I else bif bif r3.snd then G else O then match Ov p.t9 with|I=>I|V r6=>V (I)else match M88 p.b0 p.t1 p.b1.aQ (aJ.mk p.b2.ai p.b2.aD p.b2.aF r1)with|I=>I|V r7=>V (V (Bg.mk p.t1 p.t9 p.t13 (ak (p.t14+1)) p.b0 (aB.mk p.b1.cg p.b1.bg p.b1.dJ p.b1.fN (az.mk p.b1.aG.bE p.b1.aG.fN p.b1.aG.ax) p.b1.aQ p.b1.aW p.b1.aR) r7 (aJ.mk [] p.b3.aD [] p.b3.aI)))else V (I)
def JD(M88:aU->(aa aL)->(aa aB)->aJ->af Dz)(M167:aU->(aa aL)->aB->aJ->af lS):=bJ (BP M88 M167)
def apz(M88:aU->(aa aL)->(aa aB)->aJ->af Dz)(M167:aU->(aa aL)->aB->aJ->af lS):An:=(noTwo (noTwo (.two (noTwo (Qx.lp (JD M88 M167) .no)) .no)))
def aw0(M88:aU->(aa aL)->(aa aB)->aJ->af Dz)(M167:aU->(aa aL)->aB->aJ->af lS):eX vn (asU M88 M167) 0 300 167 (apz M88 M167):=b6 (l:=[(aY f167 0,(Qx.lp (JD M88 M167) .no))]) func167 (bN aV) aV (aA (aO Qx) aH)
def ajv(M88:aU->(aa aL)->(aa aB)->aJ->af Dz)(M167:aU->(aa aL)->aB->aJ->af lS)(a0:aU)(a1:aa aL)(a2:aB)(a3:aJ):af lS:=
 match JD M88 M167 (Bg.mk a1 [] a2.fN (0) a0 (aB.mk a2.cg a2.bg a2.dJ a2.fN (az.mk a2.aG.bE a2.aG.fN a2.aG.ax) a2.aQ a2.aW a2.aR) a3 (aJ.mk [] (aL.mk (0) (0) (0)) [] (aL.mk (0) (0) (0))))with|I=>I|V r8=>bif J (r8.t14<r8.t13)then match D6 r8.b2.aI r8.b1.bg with|I=>I|V r9=>match Qe (aJ.mk r8.b2.ai r8.b2.aD r8.b2.aF r9) (az.mk r8.b1.aG.bE r8.b1.aG.fN r8.b1.aG.ax)with|I=>I|V r10=>match Fj r10 with|I=>I|V r11=>bif r11.fst then if(r8.t9++[aJ.mk r8.b2.ai r8.b2.aD r8.b2.aF r9]).length<=1073741824 then bif bif r11.snd then G else O then match Ov (r8.t9++[aJ.mk r8.b2.ai r8.b2.aD r8.b2.aF r9])with|I=>I|V r12=>V (r12)else match M88 r8.b0 r8.t1 r8.b1.aQ (aJ.mk r8.b2.ai r8.b2.aD r8.b2.aF r9)with|I=>I|V r13=>I else I else bif bif r11.snd then G else O then match Ov r8.t9 with|I=>I|V r14=>V (r14)else match M88 r8.b0 r8.t1 r8.b1.aQ (aJ.mk r8.b2.ai r8.b2.aD r8.b2.aF r9)with|I=>I|V r15=>I else if(r8.t9++[r8.b2]).length<=1073741824 then match Ov (r8.t9++[r8.b2])with|I=>I|V r16=>V (r16)else I
def aHy(M88:aU->(aa aL)->(aa aB)->aJ->af Dz)(M167:aU->(aa aL)->aB->aJ->af lS)(a0:aU)(a1:aa aL)(a2:aB)(a3:aJ):bU vn (asU M88 M167) 300 (apz M88 M167) 167 (asV.c (a0,a1,a2,a3,())) [] 0 d167.rd=ajv M88 M167 a0 a1 a2 a3:=aV
def nH:Nat->(aU->(aa aL)->(aa aB)->aJ->af Dz)×(aU->(aa aL)->aB->aJ->af lS)
 |0=>(λ_ _ _ _=>I,λ_ _ _ _=>I)
 |n+1=>(s88 (nH n).1 (nH n).2,ajv (nH n).1 (nH n).2)
def m88(n:Nat):aU->(aa aL)->(aa aB)->aJ->af Dz:=(nH n).1
def O1(n:Nat):aU->(aa aL)->aB->aJ->af lS:=(nH n).2
def Cq:∀n,H88 (m88 n)/\ahA (O1 n)
 |0=>⟨λ_ _ h=>(by cases h),λ_ _ h=>(by cases h)⟩
 |n+1=>by
  have ih:=Cq n;obtain⟨i88,i167⟩:=ih;refine⟨?_,?_⟩
  ·exact(dR (auq i88 i167) (aF8 (m88 n) (O1 n)) (λ_=>aV) (λ_=>aV) λg=>c88 (m88 n) (O1 n) g.1 g.2.1 g.2.2.1 g.2.2.2.1)
  ·exact(dR (ahf i88 i167) (aw0 (m88 n) (O1 n)) (λ_=>aV) (λ_=>aV) λg=>aHy (m88 n) (O1 n) g.1 g.2.1 g.2.2.1 g.2.2.2.1)
def r88:aU->(aa aL)->(aa aB)->aJ->af Dz:=λa0 a1 a2 a3=>lim (λn=>m88 n a0 a1 a2 a3)
def avl:H88 r88:=λg b h=>by
 obtain⟨n,hn⟩:=dA (show lim (λn=>m88 n g.1 g.2.1 g.2.2.1 g.2.2.2.1)=V b from h);exact(Cq n).1 g b hn
def e88(F:bu):bu:=x88 r88 F
def arX{F:bu}(h:bz vn F):bz vn (e88 F):=Uc avl h
def acQ{l:aa aL}(h:zR l<=1000000):Ta l=V l:=by unfold Ta;rw[gW]
def sF{s:ay}(h1:zR s.ai<=1000000)(h2:zR s.aF<=1000000):GX s=V s:=by
 unfold GX;rw[acQ h1];rw[acQ h2]
def SA{n m:Nat}{s:ay}(h:eR n m s){c:Int}(hc:cC c):TZ s c=V (gp s c):=by
 obtain⟨z,e,_,_⟩:=oN 8 h.time (mD hc);unfold TZ gp;rw[rY,e]
def IX{a:aL}(h:NN a){c:Int}(hc:cC c):D6 a c=V (pO 8 a (eC c)):=by
 obtain⟨z,_,e,_⟩:=oN 8 h (mD hc);unfold D6;rw[C7,e]
def adH{r:Runner}{m:Nat}{s:ay}(h:eR r.fF.ai.length m s)(hn:zR r.fF.ai<=1000000)(hm:m<=1000000){v:Int}{x:aL}(h1:0<=v)(h2:v<zR r.fF.ai)(hx:NN x):Ry r s v x=V (Ql r.fF s v x):=by
 have hl:=h.len;have hs:=h.sl;obtain⟨z,e,_,_⟩:=ij hx r.fF.ai[v.toNat]!.ah r.fF.ai[v.toNat]!.ag;unfold Ry Ql;rw[sF aq aq];dsimp only;rw[bI ⟨h1,h2⟩,e];dsimp only;rw[gW,bI ⟨rfl,aq⟩]
def adg{f:aU}{m:Nat}{s:ay}(h:eR f.ai.length m s)(hn:zR f.ai<=1000000){v:Int}{x:aL}(h1:0<=v)(h2:v<zR f.ai)(hx:NN x):QG f (tr s) v x=V (tr (Ql f s v x)):=by
 have hl:=h.len;obtain⟨z,_,e,_⟩:=ij hx f.ai[v.toNat]!.ah f.ai[v.toNat]!.ag;unfold QG Ql tr;simp only[yz];rw[gW,bI ⟨h1,h2⟩,bI ⟨h1,h2⟩,e];dsimp only;rw[gW,bI ⟨trivial,aq⟩]
def MN{vars:aa bf}{inp:Bool}{m:Nat}{st:ay}(hst:eR vars.length m st){t:az}(hc:fA vars inp t=0):TU st t=V (cK st.ai t):=by
 have e:agE t st=V (cK st.ai t,st):=eM (zf t+1) λn hn=>(IK hst n t aq (sD hc).1 (sD hc).2).1;unfold TU;rw[az.eta,e]
def CY(s:ay)(v:aL)(i:Nat):aa aL:=tab s.aF.length (λk=>if k<i/\cR s.aD k=O then cG s.aF[k]! v else s.aF[k]!)
def vU(s:ay)(v:aL)(i:Nat):zR (CY s v i)=zR s.aF:=gQ ..
def adi(s:ay)(v:aL):CY s v 0=s.aF:=RC rfl λi _=>by rw[bO (λh=>aq)]
def Ot(s:ay)(v:aL):CY s v s.aF.length=tab s.aF.length (λk=>if cR s.aD k=O then cG s.aF[k]! v else s.aF[k]!):=ig λi hi=>by
 by_cases c:cR s.aD (i:Nat)=O
 ·rw[bI ⟨hi,c⟩,bI c]
 ·rw[bO (λh=>c h.2),bO c]
def O8{s:ay}{v:aL}{i:Nat}(h:i<zR s.aF):(CY s v i)[i]! =s.aF[i]! :=by
 rw[CY,oK h,bO (λh=>aq)]
def Po{s:ay}{v:aL}{i:Nat}(c:cR s.aD (i:Nat)=O):(CY s v i).set i (cG s.aF[i]! v)=CY s v (i+1):=by
 rw[CY,LW];refine ig λj _=> ?_;by_cases e:j=i
 ·subst e;rw[bI rfl,bI ⟨aq,c⟩]
 ·rw[bO e];by_cases c2:j<i/\cR s.aD (j:Nat)=O
  ·rw[bI c2,bI ⟨aq,c2.2⟩]
  ·rw[bO c2,bO (λh=>c2 ⟨aq,h.2⟩)]
def Up{s:ay}{v:aL}{i:Nat}(c:cR s.aD (i:Nat)=G):CY s v i=CY s v (i+1):=by
 refine ig λj _=> ?_;by_cases e:j=i
 ·subst e;rw[bO (λh=>aq),bO (λh=>by rw[c]at h;cases h.2)]
 ·by_cases c2:j<i/\cR s.aD (j:Nat)=O
  ·rw[bI c2,bI ⟨aq,c2.2⟩]
  ·rw[bO c2,bO (λh=>c2 ⟨aq,h.2⟩)]
def aq8{n m:Nat}{s:ay}(h:eR n m s)(hn:n<=1000000)(hm:m<=1000000){x:aL}(hx:NN x):afd s x=V (YN s x):=by
 have hs:=h.sl;have hl:=h.len;obtain⟨v,e1,_⟩:=cH (rnd:=JK) s.aF.length (λi (_:Unit)=>⟨(zR s.aF:Int),(i:Int),⟨s.ai,s.aD,CY s x i,s.aI⟩,x,⟨[],⟨0,0,0⟩,[],⟨0,0,0⟩⟩⟩) (λi _=>True) (λi b hi _=>by
  obtain⟨i1,i2,hw⟩:=w3 hi aq;refine⟨(),?_,trivial⟩;unfold JK;by_cases hc:cR s.aD (i:Nat)=O
  ·simp only[cV,i1,i2,hi,cI,dM,rA (.inr h.count),hc,vU,O8 hi,pH (.inr (h.slots i hi)) (.inr hx),hw,Po hc]
  ·have hc:cR s.aD (i:Nat)=G:=by simpa using hc
   simp only[cT,i1,Cv,rA (.inr h.count),hc,hw,Up hc]) (λb _=>by unfold JK;simp) (b:=()) trivial
 rw[adi]at e1;have e1':LI ⟨(zR s.aF:Int),0,s,x,⟨[],⟨0,0,0⟩,[],⟨0,0,0⟩⟩⟩=_:=e1;obtain⟨z,eb,_,_⟩:=oN 8 h.count (mD (c:=1) ⟨by decide,by decide⟩);unfold afd;rw[sF aq aq];dsimp only;rw[e1'];dsimp only;rw[fK,cw,bI (by rw[zg,vU];simp;omega),rY,eb,Ot];rfl
def atY{n m:Nat}{s:ay}(h:eR n m s)(hm:m<=1000000){x:aL}(hx:NN x):ZS (tr s) x=V (tr (YN s x)):=by
 have hs:=h.sl;obtain⟨v,e1,_⟩:=cH (rnd:=K5) s.aF.length (λi (_:Unit)=>⟨CY s x i,(zR s.aF:Int),(i:Int),tr s,x,⟨[],⟨0,0,0⟩,[],⟨0,0,0⟩⟩⟩) (λi _=>True) (λi b hi _=>by
  obtain⟨i1,i2,hw⟩:=w3 hi aq;refine⟨(),?_,trivial⟩;unfold K5;dsimp only[tr];by_cases hc:cR s.aD (i:Nat)=O
  ·simp only[cV,i1,i2,hi,cI,dM,jW (.inr h.count),hc,vU,O8 hi,gB (.inr (h.slots i hi)) (.inr hx),hw,Po hc]
  ·have hc:cR s.aD (i:Nat)=G:=by simpa using hc
   simp only[cT,i1,Cv,jW (.inr h.count),hc,hw,Up hc]) (λb _=>by unfold K5;simp) (b:=()) trivial
 rw[adi]at e1;have e1':Jp ⟨s.aF,(zR s.aF:Int),0,tr s,x,⟨[],⟨0,0,0⟩,[],⟨0,0,0⟩⟩⟩=_:=e1;unfold ZS;rw[show (tr s).aF=s.aF from rfl];simp only[yz];rw[gW,e1'];dsimp only;rw[fK,cw,bI (by rw[zg,vU];simp;omega),show (tr s).aD=s.aD from rfl,IX h.count ⟨by decide,by decide⟩,Ot];rfl
def F6(a b:aa aL)(i:Nat):aa aL:=tab a.length (λk=>if k<i then cG a[k]! b[k]! else a[k]!)
def aeb(a b:aa aL)(i:Nat):zR (F6 a b i)=zR a:=gQ ..
def auw(a b:aa aL):F6 a b 0=a:=RC rfl λi _=>by rw[AS]
def ad6(a b:aa aL):F6 a b a.length=tab a.length (λk=>cG a[k]! b[k]!):=ig λi hi=>by rw[bI hi]
def ZZ{a b:aa aL}{i:Nat}(h:i<zR a):(F6 a b i)[i]! =a[i]! :=by rw[F6,oK h,AS]
def adl(a b:aa aL)(i:Nat):(F6 a b i).set i (cG a[i]! b[i]!)=F6 a b (i+1):=by
 rw[F6,LW];refine ig λj _=> ?_;by_cases e:j=i
 ·subst e;rw[bI rfl,gW]
 ·rw[bO e];by_cases c:j<i
  ·rw[bI c,gW]
  ·rw[bO c,AS]
def pS(a b:aa aL)(i:Nat):aa aL:=tab (max a.length i) (λk=>if k<i then Mp a b k else a[k]!)
def DU(a b:aa aL)(i:Nat):zR (pS a b i)=max a.length i:=gQ ..
def atj(a b:aa aL):pS a b 0=a:=RC aq λi _=>by rw[AS]
def ZV(a b:aa aL):pS a b b.length=tab (max a.length b.length) (Mp a b):=ig λi hi=>by
 by_cases c:i<zR b
 ·rw[bI c]
 ·rw[bO c];unfold Mp;rw[AS,gW]
def abF{a b:aa aL}{i:Nat}(h:i<zR a):(pS a b i)[i]! =a[i]! :=by rw[pS,oK aq,AS]
def Z4{a b:aa aL}{i:Nat}(h:i<zR a)(k:i<zR b):(pS a b i).set i (cG a[i]! b[i]!)=pS a b (i+1):=by
 rw[pS,LW,pS,show max a.length i=max a.length (i+1)by omega];refine ig λj _=> ?_;by_cases e:j=i
 ·subst e;rw[bI rfl,gW];unfold Mp;rw[AS,AS]
 ·rw[bO e];by_cases c:j<i
  ·rw[bI c,gW]
  ·rw[bO c,AS]
def Z6{a b:aa aL}{i:Nat}(h:zR a<=i):pS a b i++[b[i]!]=pS a b (i+1):=by
 rw[pS,pS,show max a.length i=i by omega,show max a.length (i+1)=i+1 by omega,qw]
 congr 1
 ·refine ig λj hj=> ?_;rw[bI hj,gW]
 ·rw[gW];unfold Mp;rw[bI h]
def abI{n m:Nat}{s t:ay}(h:eR n m s)(k:eR n m t)(hn:n<=1000000)(hm:m<=1000000):Jh s t=V (l8 s t):=by
 have hs:=h.sl;have hl:=h.len;have ks:=k.sl;have kl:=k.len;obtain⟨v,e1,_⟩:=cH (rnd:=Js) s.ai.length (λi (_:Unit)=>⟨(zR s.ai:Int),(i:Int),t,⟨[],⟨0,0,0⟩,[],⟨0,0,0⟩⟩,⟨F6 s.ai t.ai i,s.aD,s.aF,s.aI⟩⟩) (λi _=>True) (λi b hi _=>by
  obtain⟨i1,i2,hw⟩:=w3 hi aq;have i3:(i:Int)<(zR t.ai:Int):=aq;refine⟨(),?_,trivial⟩;unfold Js;simp only[cV,i1,i2,i3,hi,cI,dM,aeb,ZZ hi,pH (.inr (h.vars i aq)) (.inr (k.vars i aq)),hw,adl]) (λb _=>by unfold Js;simp) (b:=()) trivial
 rw[auw]at e1;have e1':KK ⟨(zR s.ai:Int),0,t,⟨[],⟨0,0,0⟩,[],⟨0,0,0⟩⟩,s⟩=_:=e1;obtain⟨v2,e2,_⟩:=cH (rnd:=Jx) t.aF.length (λi (_:Unit)=>⟨t.aF,(zR t.aF:Int),(i:Int),⟨[],⟨0,0,0⟩,[],⟨0,0,0⟩⟩,⟨F6 s.ai t.ai s.ai.length,cG s.aD t.aD,pS s.aF t.aF i,cG s.aI t.aI⟩⟩) (λi _=>True) (λi b hi _=>by
  obtain⟨i1,i2,hw⟩:=w3 hi aq;refine⟨(),?_,trivial⟩;unfold Jx;by_cases c:i<zR s.aF
  ·have i3:(i:Int)<(zR (pS s.aF t.aF i):Int):=by rw[DU];omega
   have i4:i<zR (pS s.aF t.aF i):=aq;simp only[cV,i1,i2,i3,i4,cI,dM,abF c,pH (.inr (h.slots i c)) (.inr (k.slots i hi)),hw,Z4 c hi]
  ·have i3:¬(i:Int)<(zR (pS s.aF t.aF i):Int):=by rw[DU];omega
   have i4:zR (pS s.aF t.aF (i+1))<=1073741824:=by rw[DU];omega
   simp only[cV,cT,i1,i2,i3,i4,dM,hw,Z6 (show zR s.aF<=i by omega)]) (λb _=>by unfold Jx;simp) (b:=()) trivial
 rw[atj]at e2;have e2':Lp ⟨t.aF,(zR t.aF:Int),0,⟨[],⟨0,0,0⟩,[],⟨0,0,0⟩⟩,⟨F6 s.ai t.ai s.ai.length,cG s.aD t.aD,s.aF,cG s.aI t.aI⟩⟩=_:=e2;unfold Jh;rw[sF aq aq];dsimp only;rw[e1'];dsimp only;rw[fK,cw,pH (.inr h.count) (.inr k.count)];rw[pH (.inr h.time) (.inr k.time)];dsimp only;rw[e2'];dsimp only;rw[fK,cw,ad6,ZV];rfl
def aaG{n m:Nat}{s t:ay}(h:eR n m s)(k:eR n m t)(hn:n<=1000000)(hm:m<=1000000):Sz (tr s) (tr t)=V (tr (l8 s t)):=by
 have hs:=h.sl;have hl:=h.len;have ks:=k.sl;have kl:=k.len;obtain⟨v,e1,_⟩:=cH (rnd:=LB) s.ai.length (λi (_:Unit)=>⟨(zR s.ai:Int),(i:Int),tr s,tr t,⟨[],⟨0,0,0⟩,[],⟨0,0,0⟩⟩,⟨tab i (λk=>cG s.ai[k]! t.ai[k]!),cG s.aD t.aD,[],cG s.aI t.aI⟩⟩) (λi _=>True) (λi b hi _=>by
  obtain⟨i1,i2,hw⟩:=w3 hi aq;have i3:(i:Int)<(zR t.ai:Int):=aq;have i4:zR (tab i (λk=>cG s.ai[k]! t.ai[k]!)++[cG s.ai[i]! t.ai[i]!])<=1073741824:=by rw[zg,gQ,yg];omega
  refine⟨(),?_,trivial⟩;unfold LB;dsimp only[tr];simp only[cV,i1,i2,i3,i4,cI,dM,gB (.inr (h.vars i aq)) (.inr (k.vars i aq)),hw,qw]) (λb _=>by unfold LB;simp) (b:=()) trivial
 have e1':Ko ⟨(zR s.ai:Int),0,tr s,tr t,⟨[],⟨0,0,0⟩,[],⟨0,0,0⟩⟩,⟨[],cG s.aD t.aD,[],cG s.aI t.aI⟩⟩=_:=e1;have emax:(if(zR s.aF:Int)<(zR t.aF:Int)then(zR t.aF:Int)else(zR s.aF:Int))=((max s.aF.length t.aF.length:Nat):Int):=by split<;>omega
 obtain⟨v2,e2,_⟩:=cH (rnd:=KO) (max s.aF.length t.aF.length) (λi (_:Unit)=>⟨((max s.aF.length t.aF.length:Nat):Int),(i:Int),tr s,tr t,⟨[],⟨0,0,0⟩,[],⟨0,0,0⟩⟩,⟨tab s.ai.length (λk=>cG s.ai[k]! t.ai[k]!),cG s.aD t.aD,tab i (Mp s.aF t.aF),cG s.aI t.aI⟩⟩) (λi _=>True) (λi b hi _=>by
  obtain⟨i1,i2,hw⟩:=w3 hi aq;have i4:∀x,zR (tab i (Mp s.aF t.aF)++[x])<=1073741824:=λx=>by rw[zg,gQ,yg];omega
  refine⟨(),?_,trivial⟩;rw[qw];unfold KO;dsimp only[tr];by_cases c:zR s.aF<=i
  ·have c1:(zR s.aF:Int)<=(i:Int):=aq;have c2:(i:Int)<(zR t.aF:Int):=aq;have eJ:Mp s.aF t.aF i=t.aF[i]! :=by unfold Mp;rw[bI c]
   simp only[cV,i1,i2,i4,c1,c2,eJ,cI,dM,hw]
  ·by_cases d:zR t.aF<=i
   ·have c1:¬(zR s.aF:Int)<=(i:Int):=aq;have c2:(zR t.aF:Int)<=(i:Int):=aq;have c3:(i:Int)<(zR s.aF:Int):=aq;have eJ:Mp s.aF t.aF i=s.aF[i]! :=by unfold Mp;rw[bO c,bI d]
    simp only[cV,cT,i1,i2,i4,c1,c2,c3,eJ,dM,hw]
   ·have c1:¬(zR s.aF:Int)<=(i:Int):=aq;have c2:¬(zR t.aF:Int)<=(i:Int):=aq;have c3:(i:Int)<(zR s.aF:Int):=aq;have c4:(i:Int)<(zR t.aF:Int):=aq;have eJ:Mp s.aF t.aF i=cG s.aF[i]! t.aF[i]! :=by unfold Mp;rw[bO c,bO d]
    simp only[cV,cT,gz,i1,i2,i4,c1,c2,c3,c4,eJ,hw,gB (.inr (h.slots i aq)) (.inr (k.slots i aq))]) (λb _=>by unfold KO;simp) (b:=()) trivial
 have e2':Ls ⟨((max s.aF.length t.aF.length:Nat):Int),0,tr s,tr t,⟨[],⟨0,0,0⟩,[],⟨0,0,0⟩⟩,⟨tab s.ai.length (λk=>cG s.ai[k]! t.ai[k]!),cG s.aD t.aD,[],cG s.aI t.aI⟩⟩=_:=e2;unfold Sz;rw[show (tr s).aD=s.aD from rfl,show (tr t).aD=t.aD from rfl,show (tr s).aI=s.aI from rfl,show (tr t).aI=t.aI from rfl,show (tr s).ai=s.ai from rfl];rw[gB (.inr h.count) (.inr k.count)];rw[gB (.inr h.time) (.inr k.time)];dsimp only;rw[e1'];dsimp only;rw[fK,cw,show (tr s).aF=s.aF from rfl,show (tr t).aF=t.aF from rfl,emax,e2'];dsimp only;rw[fK,cw];rfl
def kJ(body:ay->ay)(t:az)(c:Int):Nat->ay->aa ay
 |0,s=>[s]
 |n+1,s=>(if cR (cK s.ai t) 0=O then[gp s c]else[])++(if cD (cK s.ai t)=O then kJ body t c n (body (gp s c))else[])
def mW:aa ay->ay
 |[]=>⟨[],cM,[],cM⟩
 |x::l=>l.foldl l8 x
def brA(v:aL)(a b:ay->ay)(s:ay):ay:=
 if cR v 0=G then a s else if cD v=G then b s else l8 (a s) (b s)
def Co(f:aU)(hv:aa aL)(a b:ay->ay)(x:aB)(s:ay):ay:=
 if x.cg=4 then mW (kJ a x.aG x.bg x.fN.toNat s)
 else if x.cg=0 then Ql f (gp s x.bg) x.dJ (cK s.ai x.aG)
 else if x.cg=1 then YN (gp s x.bg) (cK s.ai x.aG)
 else if x.cg=5 then Ql f (gp s x.bg) x.dJ hv[x.fN.toNat]!
 else if x.cg=3 then brA (cK s.ai x.aG) a b (gp s x.bg)
 else if x.cg=6 then⟨s.ai,s.aD,s.aF,rP (pO 8 s.aI (eC x.bg)) x.aR⟩
 else gp s x.bg
def gT(f:aU)(hv:aa aL):aa aB->ay->ay
 |[],s=>s
 |x::l,s=>gT f hv l (Co f hv (λs=>gT f hv x.aQ s) (λs=>gT f hv x.aW s) x s)
termination_by l=>zf l
decreasing_by
 all_goals first|exact(bw (zk ..)).1|exact(bw (zk ..)).2|exact dY _ _
def F7(f:aU)(hv:aa aL)(s:ay):gT f hv [] s=s:=by rw[gT]
def Bo(f:aU)(hv:aa aL)(x:aB)(l:aa aB)(s:ay):gT f hv (x::l) s=gT f hv l (Co f hv (gT f hv x.aQ) (gT f hv x.aW) x s):=by rw[gT]
def YK{n m:Nat}:∀{l:aa ay},l≠[]->(∀q∈l,eR n m q)->eR n m (mW l)
 |[],h,_=>ei rfl h
 |x::l,_,h=>by
  have key:∀(l:aa ay) (x:ay),eR n m x->(∀q∈l,eR n m q)->eR n m (l.foldl l8 x):=λl=>by
   induction l with
   |nil=>intro x hx _;exact hx
   |cons y l ih=>intro x hx hl;exact ih (l8 x y) (E4 hx (hl y (zk ..))) (λq hq=>hl q (zJ _ hq))
  exact key l x (h x (zk ..)) (λq hq=>h q (zJ _ hq))
def Dc{vars:aa bf}{a:ay->ay}{t:az}{c:Int}{o:Nat}(hc:cC c)(ht:fA vars G t=0)(ha:∀s m,eR vars.length m s->eR vars.length (m+o) (a s)):∀(N:Nat) (s:ay) (m:Nat),eR vars.length m s->(∀q∈kJ a t c N s,eR vars.length (m+N*o) q)/\kJ a t c N s≠[]
 |0,s,m,h=>by
  rw[kJ];refine⟨λq hq=> ?_,by simp⟩;rw[zq.1 hq];exact h.weak aq
 |n+1,s,m,h=>by
  rw[kJ];have hz:=zero_or (iV h t ht);have h1:=mL h hc;obtain⟨i1,i2⟩:=Dc hc ht ha n (a (gp s c)) (m+o) (ha _ _ h1);have e:m+o+n*o=m+(n+1)*o:=by rw[zX,yK];omega
  refine⟨λq hq=> ?_,λe=> ?_⟩
  ·rcases zP.1 hq with hq|hq
   ·split at hq
    ·rw[zq.1 hq];exact h1.weak aq
    ·cases hq
   ·split at hq
    ·rw[<-e];exact i1 q hq
    ·cases hq
  ·obtain⟨e1,e2⟩:=List.append_eq_nil_iff.1 e;cases hn:cD (cK s.ai t)with
   |true=>rw[hn,bI rfl]at e2;exact i2 e2
   |false=>
    rw[hn]at hz;have hz:cR (cK s.ai t) 0=O:=by simpa using hz
    rw[hz,bI rfl]at e1;cases e1
def eN(l:aa aB):Nat:=(e9 l).2.1.toNat
def Kj{l:aa Int}(h1:1<=zR l/\zR l<=32)(h0:(0:Int)<=l[0]!)(hr:gI l=O)(h6:l[zR l-1]!<=67108864):∀b∈l,cC b:=λb hb=>by
 obtain⟨i,hi,e⟩:=List.mem_iff_getElem.1 hb;have e:l[i]! =b:=by rw[getElem!_pos l i hi];exact e
 have a1:l[0]!<=l[i]! :=by
  by_cases h:i=0
  ·subst h;exact zw _
  ·exact xT (Uj hr aq hi)
 have a2:l[i]!<=l[zR l-1]! :=by
  by_cases h:i=zR l-1
  ·subst h;exact zw _
  ·exact xT (Uj hr aq aq)
 rw[<-e];unfold cC;omega
def qN{f:aU}{last:Bool}{x:aB}(hx:akm f last x):cC x.bg:=by
 have:=hx.cost;unfold cC;omega
def aqg{n m o p:Nat}{v:aL}{a b:ay->ay}{s:ay}(h:eR n m s)(ha:∀s m,eR n m s->eR n (m+o) (a s))(hb:∀s m,eR n m s->eR n (m+p) (b s)):eR n (m+max o p) (brA v a b s):=by
 unfold brA;split
 ·exact(ha _ _ h).weak aq
 split
 ·exact(hb _ _ h).weak aq
 ·exact E4 ((ha _ _ h).weak aq) ((hb _ _ h).weak aq)
def EY{f:aU}{hv:aa aL}(hh:zR hv=zR f.au)(hvn:∀i,i<zR hv->NN hv[i]!){a b:ay->ay}{last:Bool}{x:aB}(hx:akm f last x)
  (p1:0<=(e9 x.aQ).2.1) (p2:0<=(e9 x.aW).2.1)
  (ha:∀s m,eR f.ai.length m s->eR f.ai.length (m+eN x.aQ) (a s)) (hb:∀s m,eR f.ai.length m s->eR f.ai.length (m+eN x.aW) (b s))
  {s:ay} {m:Nat} (h:eR f.ai.length m s):eR f.ai.length (m+(uO x).1.toNat) (Co f hv a b x s):=by
 have hc:=qN hx;have h1:=mL h hc;have hvl:=iV h x.aG hx.term;unfold Co uO;by_cases a4:x.cg=4
 ·simp only[gz,a4,Int.reduceEq];have hn:=hx.n4 a4;obtain⟨i1,i2⟩:=Dc hc hx.term ha x.fN.toNat s m h;have e:(x.fN*(e9 x.aQ).2.1).toNat=x.fN.toNat*eN x.aQ:=by rw[eN,Int.toNat_mul hn.1 p1]
  rw[e];exact YK i2 i1
 by_cases a0:x.cg=0
 ·simp only[gz,a0,Int.reduceEq];exact W0 h1 hvl
 by_cases a1:x.cg=1
 ·simp only[gz,a1,Int.reduceEq];exact akW h1 hvl
 by_cases a5:x.cg=5
 ·simp only[gz,a5,Int.reduceEq];obtain⟨n1,n2⟩:=hx.n5 a5;exact W0 h1 (hvn _ aq)
 by_cases a3:x.cg=3
 ·simp only[gz,a3,Int.reduceEq];have:=aqg (v:=cK s.ai x.aG) h1 ha hb;unfold eN at this;refine this.weak ?_;omega
 by_cases a6:x.cg=6
 ·simp only[gz,a6,Int.reduceEq];obtain⟨_,q2,q3,q4,q5⟩:=hx.ad0 a6;have k:=(uv (a:=pO 8 s.aI (eC x.bg)) h1.time q4 aq (Kj q2 q3 q4 q5)).2.2.1;exact⟨h.len,h.vars,h.count,h.sl,h.slots,k⟩
 ·simp only[a0,a1,a3,a4,a5,a6,GL];exact h1
def Ca{f:aU}{top:Bool}{x:aB}{l:aa aB}(h:cc f top (x::l)=0):eN (x::l)=(uO x).1.toNat+eN l:=by
 obtain⟨h1,h2,h3,h4⟩:=iX h;have ho:=su h1;have p1:=(iR f _ _ _ (zC _) h2).1;have p2:=(iR f _ _ _ (zC _) h3).1;have p3:=(iR f _ _ _ (zC _) h4).1;have e1:0<=(uO x).1:=by
  unfold uO;by_cases a1:x.cg=1
  ·rw[bI a1];show (0:Int)<=1;decide
  by_cases a3:x.cg=3
  ·rw[bO a1,bI a3];dsimp only;omega
  by_cases a4:x.cg=4
  ·rw[bO a1,bO a3,bI a4];exact zI (ho.n4 a4).1 p1
  ·rw[bO a1,bO a3,bO a4];exact zw _
 unfold eN;rw[(afQ x l).1];omega
def iw{f:aU}{hv:aa aL}(hh:zR hv=zR f.au)(hvn:∀i,i<zR hv->NN hv[i]!):∀(n:Nat) (l:aa aB) (top:Bool),zf l<n->cc f top l=0->∀(s:ay) (m:Nat),eR f.ai.length m s->eR f.ai.length (m+eN l) (gT f hv l s)
 |0,_,_,h,_,_,_,_=>aq
 |n+1,[],_,_,_,s,m,h=>by rw[F7];exact h.weak aq
 |n+1,x::l,top,hn,hc,s,m,h=>by
  obtain⟨h1,h2,h3,h4⟩:=iX hc;have ho:=su h1;have hsz:=bw (zk (a:=x) (l:=l));have ht:=dY x l;have p1:=(iR f n x.aQ G aq h2).1;have p2:=(iR f n x.aW G aq h3).1;rw[Bo,Ca hc];have i1:=EY hh hvn ho p1 p2 (iw hh hvn n x.aQ G aq h2) (iw hh hvn n x.aW G aq h3) h;exact(iw hh hvn n l top aq h4 _ _ i1).weak aq
def Ft{α:Type}[Inhabited α](g:α->α->α)(l:aa α)(x:α){i:Nat}(h:i<zR l):(l.take (i+1)).foldl g x=g ((l.take i).foldl g x) l[i]! :=by
 rw[List.take_add_one,wN,zu h,getElem!_pos l i h];rfl
def Ew{n m:Nat}:∀(l:aa ay) (x:ay),eR n m x->(∀q∈l,eR n m q)->eR n m (l.foldl l8 x)
 |[],x,hx,_=>hx
 |y::l,x,hx,hl=>Ew l (l8 x y) (E4 hx (hl y (zk ..))) (λq hq=>hl q (zJ _ hq))
def acr(M83:Runner->(aa aB)->ay->af rW)(M156:Runner->aB->ay->af iF)(M160:Runner->aB->ay->af iH){n m:Nat}(hn:n<=1000000)(hm:m<=1000000){l:aa ay}{x:ay}(hl:zR l<=1000000)(hx:eR n m x)(hq:∀q∈l,eR n m q)(c t:aL):
  qG M83 M156 M160 ⟨l,(zR l:Int),0,⟨[],c,[],t⟩,x⟩=V ⟨l,(zR l:Int),(zR l:Int),⟨[],c,[],t⟩,l.foldl l8 x⟩:=by
 obtain⟨v,e1,_⟩:=cH (rnd:=KN M83 M156 M160) l.length (λi (_:Unit)=>⟨l,(zR l:Int),(i:Int),⟨[],c,[],t⟩,(l.take i).foldl l8 x⟩) (λi _=>True) (λi b hi _=>by
  obtain⟨i1,i2,hw⟩:=w3 hi hl;have e:=abI (Ew (l.take i) x hx (λq k=>hq q (wF k))) (hq _ (bq hi)) hn hm;refine⟨(),?_,trivial⟩;unfold KN;dsimp only;simp only[cV,i1,i2,cI,dM,e,hw,Ft l8 l x hi]) (λb _=>by unfold KN;simp) (b:=()) trivial
 rw[zG]at e1;exact e1
def Ux(M83:Runner->(aa aB)->ay->af rW)(M156:Runner->aB->ay->af iF)(M160:Runner->aB->ay->af iH){n m:Nat}(hn:n<=1000000)(hm:m<=1000000){L:aa ay}(h0:L≠[])(hl:zR L<=1000000)(hq:∀q∈L,eR n m q)(c t:aL):
  1<=zR L/\qG M83 M156 M160 (mQ.mk (ya 1 L) (zR (ya 1 L):Int) (0) (ay.mk [] c [] t) L[0]!)=V (mQ.mk (ya 1 L) (zR (ya 1 L):Int) (zR (ya 1 L):Int) (ay.mk [] c [] t) (mW L)):=by
 cases L with
 |nil=>exact ei rfl h0
 |cons x l=>
  have hx:=hq x (zk ..);have hq2:∀q∈l,eR n m q:=λq k=>hq q (zJ _ k);exact⟨by simp,acr M83 M156 M160 hn hm (l:=l) (x:=x) (by simp at hl;omega) hx hq2 c t⟩
def FU(a:ay->ay)(t:az)(c:Int):∀(N:Nat) (s:ay),zR (kJ a t c N s)<=N+1
 |0,s=>by rw[kJ];simp
 |n+1,s=>by
  rw[kJ,zg];have:=FU a t c n (a (gp s c));split<;>split<;>simp<;>omega
def atF(M83:Runner->(aa aB)->ay->af rW)(M156:Runner->aB->ay->af iF)(M160:Runner->aB->ay->af iH){r:Runner}(hn:zR r.fF.ai<=1000000){a:ay->ay}{o:Nat}{x:aB}(hN:0<=x.fN/\x.fN<=4096)(hc:cC x.bg)(ht:fA r.fF.ai G x.aG=0)
  (ha:∀s m,eR r.fF.ai.length m s->eR r.fF.ai.length (m+o) (a s)) {s:ay} {m:Nat} (h:eR r.fF.ai.length m s) (hm:m+x.fN.toNat*o<=1000000)
  (h1:∀s m,eR r.fF.ai.length m s->m+o<=1000000->M83 r x.aQ s=V (a s)):
  akd M83 M156 M160 r x s=V (mW (kJ a x.aG x.bg x.fN.toNat s)):=by
 obtain⟨okAll,neAll⟩:=Dc hc ht ha x.fN.toNat s m h;have lenAll:=FU a x.aG x.bg x.fN.toNat s;obtain⟨i,v,e1,⟨hi,hV1,hV2,hV3,hV4⟩,hcc⟩:=lM (rnd:=A5 M83 M156 M160) x.fN.toNat (λi (b:aa ay×ay×ay)=>⟨b.1,O,x.fN,(i:Int),r,x,b.2.1,⟨[],b.2.2.aD,[],b.2.2.aI⟩⟩)
  (λi b=>i<=x.fN.toNat/\eR r.fF.ai.length (m+i*o) b.2.1/\zR b.1<=i/\b.1++kJ a x.aG x.bg (x.fN.toNat-i) b.2.1=kJ a x.aG x.bg x.fN.toNat s/\True) (λi b=>cD (cK b.2.1.ai x.aG)=G) (λi b hi hb=>by
  obtain⟨L,b,z⟩:=b;obtain⟨_,hb,hL,hr,_⟩:=hb;dsimp only at hb hr hL;obtain⟨k,hk⟩:∃k,x.fN.toNat-i=k+1:=⟨x.fN.toNat-i-1,aq⟩;have hk2:x.fN.toNat-(i+1)=k:=aq;rw[hk,kJ]at hr;have hio:i*o+o<=x.fN.toNat*o:=by
   have:=ym o (show i+1<=x.fN.toNat by omega);rw[zX,yK]at this;exact this
  have hw:ak ((i:Int)+1)=((i+1:Nat):Int):=by rw[aM];omega
  have i1:(i:Int)<x.fN:=aq;have hA:=mL hb hc;have ea:=SA hb hc;have hsl:=hA.sl;have hln:=hA.len;have hnn:=iV hA x.aG ht;have ev:TU (gp b x.bg) x.aG=V (cK b.ai x.aG):=MN hA ht;have et:=Dd (a:=cK b.ai x.aG) (.inr hnn);have hz:(cD (cK b.ai x.aG)||cR (cK b.ai x.aG) 0)=O:=zero_or hnn;have e:=h1 _ _ hA aq;have ec:=sF (s:=gp b x.bg) aq aq;have el:zR (L++[gp b x.bg])<=1073741824:=by rw[zg,yg];omega
  by_cases hno:cD (cK b.ai x.aG)=O
  ·rw[bI hno]at hr;refine .inl ?_;have hnext:eR r.fF.ai.length (m+(i+1)*o) (a (gp b x.bg)):=by
    have:=ha _ _ hA;rw[zX,yK];exact this.weak aq
   by_cases hh:cR (cK b.ai x.aG) 0=O
   ·rw[bI hh]at hr;refine⟨(L++[gp b x.bg],a (gp b x.bg),z),?_,aq,hnext,by rw[zg,yg];omega,by rw[hk2,yS];exact hr,trivial⟩;unfold A5;simp only[cT,i1,Cv,az.eta,ea,ev,et,ec,el,hh,hno,dM,e,aB.eta,hw]
   ·rw[bO hh,yz]at hr;have hh:cR (cK b.ai x.aG) 0=G:=by simpa using hh
    refine⟨(L,a (gp b x.bg),z),?_,aq,hnext,Nat.le_succ_of_le hL,by rw[hk2];exact hr,trivial⟩;unfold A5;simp only[cT,i1,Cv,az.eta,ea,ev,et,hh,hno,e,aB.eta,hw]
  ·have hno:cD (cK b.ai x.aG)=G:=by simpa using hno
   refine .inr ⟨?_,hno⟩;have hh:cR (cK b.ai x.aG) 0=O:=by rw[hno]at hz;simpa using hz
   unfold A5;simp only[cT,i1,Cv,az.eta,ea,ev,et,ec,el,hh,hno,dM]) (λb _=>by
   unfold A5;dsimp only;rw[fK];rfl) (b:=([],s,⟨[],⟨0,0,0⟩,[],⟨0,0,0⟩⟩)) ⟨aq,h.weak aq,by simp,rfl,trivial⟩
 obtain⟨L,b,z⟩:=v;dsimp only at hV1 hV2 hV3 hcc;have e1':Kq M83 M156 M160 ⟨[],O,x.fN,0,r,x,s,⟨[],⟨0,0,0⟩,[],⟨0,0,0⟩⟩⟩=V ⟨L,O,x.fN,(i:Int),r,x,b,⟨[],z.aD,[],z.aI⟩⟩:=e1;unfold akd;rw[az.eta,aB.eta,e1'];rcases hcc with rfl|⟨hi2,hno⟩
 ·rw[xS,kJ]at hV3;dsimp only;rw[fK,cw];simp only[cI];rw[bI (by rw[zg,yg];omega),hV3];obtain⟨j1,j2⟩:=Ux M83 M156 M160 hn hm neAll aq okAll z.aD z.aI;rw[gW,bI (by first|exact⟨rfl,j1⟩|exact⟨trivial,j1⟩),gW,j2];dsimp only;rw[fK,cw]
 ·obtain⟨k,hk⟩:∃k,x.fN.toNat-i=k+1:=⟨x.fN.toNat-i-1,aq⟩;rw[hk,kJ]at hV3;have hA:=mL hV1 hc;have ea:=SA hV1 hc;have hio:i*o<=x.fN.toNat*o:=ym o hi;have hsl:=hA.sl;have hln:=hA.len;have hnn:=iV hA x.aG ht;have ev:TU (gp b x.bg) x.aG=V (cK b.ai x.aG):=MN hA ht;have et:=Dd (a:=cK b.ai x.aG) (.inr hnn);have hz:(cD (cK b.ai x.aG)||cR (cK b.ai x.aG) 0)=O:=zero_or hnn;have ec:=sF (s:=gp b x.bg) aq aq;have hh:cR (cK b.ai x.aG) 0=O:=by rw[hno]at hz;simpa using hz
  rw[hh,hno,bI rfl,bO (by decide),yy]at hV3;dsimp only;rw[oo,cI,ea];dsimp only;rw[az.eta,ev];dsimp only;rw[et];dsimp only;rw[hh,hno,cI,ec];dsimp only;rw[bI (by rw[zg,yg];omega),hV3];obtain⟨j1,j2⟩:=Ux M83 M156 M160 hn hm neAll aq okAll z.aD z.aI;rw[gW,bI (by first|exact⟨rfl,j1⟩|exact⟨trivial,j1⟩),gW,j2];dsimp only;rw[fK,cw];rfl
def auc{l:aa ay}{i:Nat}(h:i<zR l):(l.map tr)[i]! =tr l[i]! :=by
 rw[getElem!_pos _ i (by simpa using h),getElem!_pos l i h,yL]
def abK{n m:Nat}(hn:n<=1000000)(hm:m<=1000000){l:aa ay}{x:ay}(hl:zR l<=1000000)(hx:eR n m x)(hq:∀q∈l,eR n m q)(c t:aL):
  J3 ⟨l.map tr,(zR l:Int),0,⟨[],c,[],t⟩,tr x⟩=V ⟨l.map tr,(zR l:Int),(zR l:Int),⟨[],c,[],t⟩,tr (l.foldl l8 x)⟩:=by
 obtain⟨v,e1,_⟩:=cH (rnd:=Kv) l.length (λi (_:Unit)=>⟨l.map tr,(zR l:Int),(i:Int),⟨[],c,[],t⟩,tr ((l.take i).foldl l8 x)⟩) (λi _=>True) (λi b hi _=>by
  obtain⟨i1,i2,hw⟩:=w3 hi hl;have e:=aaG (Ew (l.take i) x hx (λq k=>hq q (wF k))) (hq _ (bq hi)) hn hm;refine⟨(),?_,trivial⟩;unfold Kv;dsimp only;simp only[cV,zn,i1,i2,cI,dM,auc hi,e,hw,Ft l8 l x hi]) (λb _=>by unfold Kv;simp) (b:=()) trivial
 rw[zG]at e1;exact e1
def S7{n m:Nat}(hn:n<=1000000)(hm:m<=1000000){L:aa ay}(h0:L≠[])(hl:zR L<=1000000)(hq:∀q∈L,eR n m q):Ov (L.map tr)=V (tr (mW L)):=by
 cases L with
 |nil=>exact ei rfl h0
 |cons x l=>
  have hx:=hq x (zk ..);have hq2:∀q∈l,eR n m q:=λq k=>hq q (zJ _ k);have e:=abK hn hm (l:=l) (x:=x) (by simp at hl;omega) hx hq2 ⟨0,0,0⟩ ⟨0,0,0⟩;unfold Ov;rw[bI (by simp<;>omega),bI (by simp<;>omega)];rw[yc,show ya 1 (tr x::l.map tr)=l.map tr from rfl,show (tr x::l.map tr)[0]! =tr x from rfl,zn,e];dsimp only;rw[fK,cw];rfl
def asx(M88:aU->(aa aL)->(aa aB)->aJ->af Dz)(M167:aU->(aa aL)->aB->aJ->af lS){f:aU}{hv:aa aL}(hn:zR f.ai<=1000000){a:ay->ay}{o:Nat}{x:aB}(hN:0<=x.fN/\x.fN<=4096)(hc:cC x.bg)(ht:fA f.ai G x.aG=0)
  (ha:∀s m,eR f.ai.length m s->eR f.ai.length (m+o) (a s)) {s:ay} {m:Nat} (h:eR f.ai.length m s) (hm:m+x.fN.toNat*o<=1000000)
  (h1:∀s m,eR f.ai.length m s->m+o<=1000000->M88 f hv x.aQ (tr s)=V (tr (a s))):
  ajv M88 M167 f hv x (tr s)=V (tr (mW (kJ a x.aG x.bg x.fN.toNat s))):=by
 obtain⟨okAll,neAll⟩:=Dc hc ht ha x.fN.toNat s m h;have lenAll:=FU a x.aG x.bg x.fN.toNat s;obtain⟨i,v,e1,⟨hi,hV1,hV2,hV3,hV4⟩,hcc⟩:=lM (rnd:=BP M88 M167) x.fN.toNat (λi (b:aa ay×ay×aJ)=>⟨hv,b.1.map tr,x.fN,(i:Int),f,x,tr b.2.1,⟨[],b.2.2.aD,[],b.2.2.aI⟩⟩)
  (λi b=>i<=x.fN.toNat/\eR f.ai.length (m+i*o) b.2.1/\zR b.1<=i/\b.1++kJ a x.aG x.bg (x.fN.toNat-i) b.2.1=kJ a x.aG x.bg x.fN.toNat s/\True) (λi b=>cD (cK b.2.1.ai x.aG)=G) (λi b hi hb=>by
  obtain⟨L,b,z⟩:=b;obtain⟨_,hb,hL,hr,_⟩:=hb;dsimp only at hb hr hL;obtain⟨k,hk⟩:∃k,x.fN.toNat-i=k+1:=⟨x.fN.toNat-i-1,aq⟩;have hk2:x.fN.toNat-(i+1)=k:=aq;rw[hk,kJ]at hr;have hio:i*o+o<=x.fN.toNat*o:=by
   have:=ym o (show i+1<=x.fN.toNat by omega);rw[zX,yK]at this;exact this
  have hw:ak ((i:Int)+1)=((i+1:Nat):Int):=by rw[aM];omega
  have i1:(i:Int)<x.fN:=aq;have hA:=mL hb hc;have ea:D6 b.aI x.bg=V (pO 8 b.aI (eC x.bg)):=IX hb.time hc;have hnn:=iV hA x.aG ht;have ev:Qe (tr (gp b x.bg)) x.aG=V (cK b.ai x.aG):=W4 hA x.aG ht;have et:=oP (a:=cK b.ai x.aG) (.inr hnn);have hz:(cD (cK b.ai x.aG)||cR (cK b.ai x.aG) 0)=O:=zero_or hnn;have e:=h1 _ _ hA aq;have etr:(aJ.mk b.ai b.aD b.aF (pO 8 b.aI (eC x.bg)))=tr (gp b x.bg):=rfl;have el:zR (L.map tr++[tr (gp b x.bg)])<=1073741824:=by rw[zg,yg,zn];omega
  by_cases hno:cD (cK b.ai x.aG)=O
  ·rw[bI hno]at hr;refine .inl ?_;have hnext:eR f.ai.length (m+(i+1)*o) (a (gp b x.bg)):=by
    have:=ha _ _ hA;rw[zX,yK];exact this.weak aq
   by_cases hh:cR (cK b.ai x.aG) 0=O
   ·rw[bI hh]at hr;refine⟨(L++[gp b x.bg],a (gp b x.bg),z),?_,aq,hnext,by rw[zg,yg];omega,by rw[hk2,yS];exact hr,trivial⟩;unfold BP;simp only[cT,show (tr b).ai=b.ai from rfl,show (tr b).aD=b.aD from rfl,show (tr b).aF=b.aF from rfl,show (tr b).aI=b.aI from rfl,i1,Cv,az.eta,ea,etr,ev,et,el,hh,hno,dM,e,aB.eta,hw,zK,yc,yT]
   ·rw[bO hh,yz]at hr;have hh:cR (cK b.ai x.aG) 0=G:=by simpa using hh
    refine⟨(L,a (gp b x.bg),z),?_,aq,hnext,Nat.le_succ_of_le hL,by rw[hk2];exact hr,trivial⟩;unfold BP;simp only[cT,show (tr b).ai=b.ai from rfl,show (tr b).aD=b.aD from rfl,show (tr b).aF=b.aF from rfl,show (tr b).aI=b.aI from rfl,i1,Cv,az.eta,ea,etr,ev,et,hh,hno,e,aB.eta,hw]
  ·have hno:cD (cK b.ai x.aG)=G:=by simpa using hno
   refine .inr ⟨?_,hno⟩;have hh:cR (cK b.ai x.aG) 0=O:=by rw[hno]at hz;simpa using hz
   rw[hh,hno,bI rfl,bO (by decide),yy]at hr;have em:L.map tr++[tr (gp b x.bg)]=(L++[gp b x.bg]).map tr:=by rw[zK];rfl
   have abi:=S7 hn hm neAll aq okAll;rw[<-hr,<-em]at abi;unfold BP;simp only[cT,show (tr b).ai=b.ai from rfl,show (tr b).aD=b.aD from rfl,show (tr b).aF=b.aF from rfl,show (tr b).aI=b.aI from rfl,i1,Cv,az.eta,ea,etr,ev,et,el,hh,hno,dM,abi]) (λb _=>by
   unfold BP;dsimp only;rw[fK];rfl) (b:=([],s,⟨[],⟨0,0,0⟩,[],⟨0,0,0⟩⟩)) ⟨aq,h.weak aq,by simp,rfl,trivial⟩
 obtain⟨L,b,z⟩:=v;dsimp only at hV1 hV2 hV3 hcc;have e1':JD M88 M167 ⟨hv,[],x.fN,0,f,x,tr s,⟨[],⟨0,0,0⟩,[],⟨0,0,0⟩⟩⟩=V ⟨hv,L.map tr,x.fN,(i:Int),f,x,tr b,⟨[],z.aD,[],z.aI⟩⟩:=e1;unfold ajv;rw[az.eta,aB.eta,e1'];rcases hcc with rfl|⟨hi2,hno⟩
 ·rw[xS,kJ]at hV3;dsimp only;rw[fK,cw];have em:L.map tr++[tr b]=(L++[b]).map tr:=by rw[zK];rfl
  rw[bI (by rw[zg,yg,zn];omega),em,hV3,S7 hn hm neAll aq okAll]
 ·obtain⟨k,hk⟩:∃k,x.fN.toNat-i=k+1:=⟨x.fN.toNat-i-1,aq⟩;rw[hk,kJ]at hV3;have hA:=mL hV1 hc;have ea:D6 (tr b).aI x.bg=V (pO 8 b.aI (eC x.bg)):=IX hV1.time hc;have hio:i*o<=x.fN.toNat*o:=ym o hi;have hnn:=iV hA x.aG ht;have ev:Qe (tr (gp b x.bg)) x.aG=V (cK b.ai x.aG):=W4 hA x.aG ht;have et:=oP (a:=cK b.ai x.aG) (.inr hnn);have hz:(cD (cK b.ai x.aG)||cR (cK b.ai x.aG) 0)=O:=zero_or hnn;have hh:cR (cK b.ai x.aG) 0=O:=by rw[hno]at hz;simpa using hz
  have etr:(aJ.mk (tr b).ai (tr b).aD (tr b).aF (pO 8 b.aI (eC x.bg)))=tr (gp b x.bg):=rfl;rw[hh,hno,bI rfl,bO (by decide),yy]at hV3;have em:L.map tr++[tr (gp b x.bg)]=(L++[gp b x.bg]).map tr:=by rw[zK];rfl
  dsimp only;rw[oo,cI,ea];dsimp only;rw[az.eta,etr,ev];dsimp only;rw[et];dsimp only;rw[hh,hno,cI,bI (by rw[zg,yg,zn];omega),em,hV3,S7 hn hm neAll aq okAll];rfl
def as2(M83:Runner->(aa aB)->ay->af rW)(M156:Runner->aB->ay->af iF)(M160:Runner->aB->ay->af iH){r:Runner}(hn:zR r.fF.ai<=1000000){a b:ay->ay}{o p:Nat}{x:aB}{s:ay}{m:Nat}(h:eR r.fF.ai.length m s)(hc:fA r.fF.ai G x.aG=0)(hm:m+max o p<=1000000)
  (ha:∀s m,eR r.fF.ai.length m s->eR r.fF.ai.length (m+o) (a s)) (hb:∀s m,eR r.fF.ai.length m s->eR r.fF.ai.length (m+p) (b s))
  (h1:M83 r x.aQ s=V (a s)) (h2:M83 r x.aW s=V (b s)):
  ajA M83 M156 M160 r x s=V (brA (cK s.ai x.aG) a b s):=by
 have hsl:=h.sl;have hln:=h.len;unfold ajA brA;rw[az.eta,MN h hc];dsimp only;rw[Dd (.inr (iV h x.aG hc))];have ec:=sF (s:=s) aq aq;have ej:=abI ((ha _ _ h).weak (show m+o<=m+max o p by omega)) ((hb _ _ h).weak (show m+p<=m+max o p by omega)) hn hm;dsimp only;cases cR (cK s.ai x.aG) 0 with
 |false=>simp only[cT,h1,dM]
 |true=>
  cases cD (cK s.ai x.aG)with
  |false=>simp only[cT,gz,h2,Bool.true_eq_false]
  |true=>simp only[cT,h1,h2,ec,ej,GL,Bool.true_eq_false]
def axb(M83:Runner->(aa aB)->ay->af rW)(M156:Runner->aB->ay->af iF)(M160:Runner->aB->ay->af iH){r:Runner}(hn:zR r.fF.ai<=1000000)(hh:zR r.au=zR r.fF.au)(hvn:∀i,i<zR r.au->NN r.au[i]!)
  {top:Bool} {l:aa aB} (hl:zR l<=1000000) (hc:cc r.fF top l=0) {s:ay} {m:Nat} (h:eR r.fF.ai.length m s) (hm:m+eN l<=1000000)
  (h1:∀x∈l,∀s m,x.cg=3->eR r.fF.ai.length m s->m+max (eN x.aQ) (eN x.aW)<=1000000->M160 r x s=V (brA (cK s.ai x.aG) (gT r.fF r.au x.aQ) (gT r.fF r.au x.aW) s))
  (h3:∀x∈l,∀s m,x.cg=4->eR r.fF.ai.length m s->m+x.fN.toNat*eN x.aQ<=1000000->M156 r x s=V (mW (kJ (gT r.fF r.au x.aQ) x.aG x.bg x.fN.toNat s))):
  s83 M83 M156 M160 r l s=V (gT r.fF r.au l s):=by
 obtain⟨v,e1,hV⟩:=cH (rnd:=UJ M83 M156 M160) l.length (λi (b:ay×ay)=>⟨l,(zR l:Int),(i:Int),r,b.1,⟨[],b.2.aD,[],b.2.aI⟩⟩)
  (λi b=>(∃k,eR r.fF.ai.length k b.1/\k+eN (l.drop i)<=1000000)/\cc r.fF top (l.drop i)=0/\gT r.fF r.au (l.drop i) b.1=gT r.fF r.au l s) (λi b hi hb=>by
  obtain⟨b,z⟩:=b;obtain⟨⟨k,hb,hk⟩,hst,hr⟩:=hb;dsimp only at hb hr;rw[drop_cons hi]at hk hst hr;rw[Bo]at hr;have hmem:=bq hi;generalize hx:l[i]! =x at*;obtain⟨g1,g2,g3,g4⟩:=iX hst;have ho:=su g1;have p1:=(iR r.fF _ _ _ (zC _) g2).1;have p2:=(iR r.fF _ _ _ (zC _) g3).1;have aT:=iw hh hvn _ x.aQ G (zC _) g2;have aE:=iw hh hvn _ x.aW G (zC _) g3;rw[Ca hst]at hk;have hnext:=EY hh hvn ho p1 p2 aT aE hb;refine⟨(Co r.fF r.au (gT r.fF r.au x.aQ) (gT r.fF r.au x.aW) x b,z),?_,⟨_,hnext,aq⟩,g4,hr⟩;obtain⟨i1,i2,hw⟩:=w3 hi hl;have hcost:=qN ho;unfold UJ;dsimp only;simp only[cV,i1,i2,hx,cI,dM,aB.eta,az.eta,hw];unfold Co;by_cases d4:x.cg=4
  ·have hN:=ho.n4 d4;have eu:(uO x).1.toNat=x.fN.toNat*eN x.aQ:=by
    unfold uO;simp only[gz,d4,Int.reduceEq];rw[eN,Int.toNat_mul hN.1 p1]
   have e:=h3 x hmem b k d4 hb aq;simp only[d4,Int.reduceEq,Cv,cI,dM,e]
  have ea:=SA hb hcost;have hA:=mL hb hcost;have ev:TU (gp b x.bg) x.aG=V (cK b.ai x.aG):=MN hA ho.term;have hnn:NN (cK b.ai x.aG):=iV hb x.aG ho.term;simp only[d4,CZ,cw,ea,GL];by_cases d0:x.cg=0
  ·obtain⟨v1,v2⟩:=ho.var (.inl d0);simp only[cV,cT,gz,d0,Int.reduceEq,ev,adH hA hn aq v1 v2 hnn]
  by_cases d1:x.cg=1
  ·have e:=aq8 hA hn aq hnn;simp only[cV,cT,gz,d1,Int.reduceEq,ev,e]
  by_cases d5:x.cg=5
  ·obtain⟨v1,v2⟩:=ho.var (.inr d5);obtain⟨n1,n2⟩:=ho.n5 d5;have hlt:x.fN.toNat<zR r.au:=aq;have e:=adH hA hn aq v1 v2 (hvn _ hlt);simp only[cV,cT,gz,d5,Int.reduceEq];rw[gW,e]
  by_cases d3:x.cg=3
  ·have eu:(uO x).1.toNat=max (eN x.aQ) (eN x.aW):=by
    unfold uO eN;simp only[gz,d3,Int.reduceEq];omega
   have e:=h1 x hmem (gp b x.bg) k d3 hA aq;simp only[cV,cT,gz,d3,Int.reduceEq,e];rfl
  by_cases d6:x.cg=6
  ·obtain⟨_,q2,q3,q4,q5⟩:=ho.ad0 d6;have e:=(uv (a:=pO 8 b.aI (eC x.bg)) hA.time q4 aq (Kj q2 q3 q4 q5)).1;have e:PM (gp b x.bg).aI x.aR=_:=e;simp only[cV,cT,gz,d6,Int.reduceEq];rw[e];rfl
  ·simp only[d0,d1,d3,d5,d6,CZ,cw,GL]) (λb _=>by unfold UJ;simp) (b:=(s,⟨[],⟨0,0,0⟩,[],⟨0,0,0⟩⟩)) ⟨⟨m,h,by rw[xH];exact hm⟩,by rw[xH];exact hc,by rw[xH]⟩
 obtain⟨b,z⟩:=v;have e1':VQ M83 M156 M160 ⟨l,(zR l:Int),0,r,s,⟨[],⟨0,0,0⟩,[],⟨0,0,0⟩⟩⟩=V ⟨l,(zR l:Int),(zR l:Int),r,b,⟨[],z.aD,[],z.aI⟩⟩:=e1;have hr:=hV.2.2;dsimp only at hr;rw[wO,F7]at hr;unfold s83;rw[e1',<-hr];dsimp only;rw[fK,cw]
def lJ{f:aU}{x:aB}:∀{top:Bool} {l:aa aB},cc f top l=0->x∈l->cc f G x.aQ=0/\cc f G x.aW=0
 |_,[],_,h=>by cases h
 |top,y::l,hc,h=>by
  obtain⟨h1,h2,h3,h4⟩:=iX hc;rcases zy.1 h with rfl|h
  ·exact⟨h2,h3⟩
  ·exact lJ h4 h
def apw{r:Runner}(hn:zR r.fF.ai<=1000000)(hh:zR r.au=zR r.fF.au)(hvn:∀i,i<zR r.au->NN r.au[i]!):∀n:Nat,
  (∀(top:Bool) (l:aa aB) (s:ay) (m:Nat),2*zf l<n->fM l<=1000000->cc r.fF top l=0->eR r.fF.ai.length m s->m+eN l<=1000000->YM n r l s=V (gT r.fF r.au l s))/\
  (∀(x:aB) (s:ay) (m:Nat),2*zf x.aQ+1<n->fM x.aQ<=1000000->(0<=x.fN/\x.fN<=4096)->cC x.bg->fA r.fF.ai G x.aG=0->cc r.fF G x.aQ=0->eR r.fF.ai.length m s->m+x.fN.toNat*eN x.aQ<=1000000->DM n r x s=V (mW (kJ (gT r.fF r.au x.aQ) x.aG x.bg x.fN.toNat s)))/\
  (∀(x:aB) (s:ay) (m:Nat),2*zf x.aQ+1<n->2*zf x.aW+1<n->fM x.aQ<=1000000->fM x.aW<=1000000->fA r.fF.ai G x.aG=0->cc r.fF G x.aQ=0->cc r.fF G x.aW=0->eR r.fF.ai.length m s->m+max (eN x.aQ) (eN x.aW)<=1000000->FM n r x s=V (brA (cK s.ai x.aG) (gT r.fF r.au x.aQ) (gT r.fF r.au x.aW) s))
 |0=>⟨λ_ _ _ _ h=>aq,λ_ _ _ h=>aq,λ_ _ _ h=>aq⟩
 |n+1=>by
  obtain⟨i1,i2,i3⟩:=apw hn hh hvn n;refine⟨λtop l s m h hN hc hs hm=> ?_,λx s m h hN hx hc ht hst hs hm=> ?_,λx s m h h' hN hN' ht hst hst' hs hm=> ?_⟩
  ·refine axb (YM n) (DM n) (FM n) hn hh hvn (zH (j5 l) hN) hc hs hm (λx hx s m h3 hs hm=> ?_) (λx hx s m h4 hs hm=> ?_)
   ·have:=bw hx;have:=vJ hx;obtain⟨_,k⟩:=vv hc hx;obtain⟨k1,k2⟩:=lJ hc hx;exact i3 x s m aq aq aq aq k.term k1 k2 hs hm
   ·have:=(bw hx).1;obtain⟨_,k⟩:=vv hc hx;obtain⟨k1,k2⟩:=lJ hc hx;exact i2 x s m aq (zH (vJ hx).1 hN) (k.n4 h4) (qN k) k.term k1 hs hm
  ·refine atF (YM n) (DM n) (FM n) hn hx hc ht (iw hh hvn _ x.aQ G (zC _) hst) hs hm (λs m hs hm=>i1 G x.aQ s m aq hN hst hs hm)
  ·exact as2 (YM n) (DM n) (FM n) hn hs ht hm (iw hh hvn _ x.aQ G (zC _) hst) (iw hh hvn _ x.aW G (zC _) hst') (i1 G x.aQ s m aq hN hst hs aq) (i1 G x.aW s m aq hN' hst' hs aq)
def aAa(M88:aU->(aa aL)->(aa aB)->aJ->af Dz)(M167:aU->(aa aL)->aB->aJ->af lS){f:aU}{hv:aa aL}(hn:zR f.ai<=1000000)(hh:zR hv=zR f.au)(hvn:∀i,i<zR hv->NN hv[i]!)
  {top:Bool} {l:aa aB} (hl:zR l<=1000000) (hc:cc f top l=0) {s:ay} {m:Nat} (h:eR f.ai.length m s) (hm:m+eN l<=1000000)
  (h1:∀x∈l,∀s m,eR f.ai.length m s->m+eN x.aQ<=1000000->M88 f hv x.aQ (tr s)=V (tr (gT f hv x.aQ s)))
  (h2:∀x∈l,∀s m,eR f.ai.length m s->m+eN x.aW<=1000000->M88 f hv x.aW (tr s)=V (tr (gT f hv x.aW s)))
  (h3:∀x∈l,∀s m,x.cg=4->eR f.ai.length m s->m+x.fN.toNat*eN x.aQ<=1000000->M167 f hv x (tr s)=V (tr (mW (kJ (gT f hv x.aQ) x.aG x.bg x.fN.toNat s)))):
  s88 M88 M167 f hv l (tr s)=V (tr (gT f hv l s)):=by
 obtain⟨v,e1,hV⟩:=cH (rnd:=UL M88 M167) l.length (λi (b:ay×aJ)=>⟨hv,l,(zR l:Int),(i:Int),f,tr b.1,⟨[],b.2.aD,[],b.2.aI⟩⟩)
  (λi b=>(∃k,eR f.ai.length k b.1/\k+eN (l.drop i)<=1000000)/\cc f top (l.drop i)=0/\gT f hv (l.drop i) b.1=gT f hv l s) (λi b hi hb=>by
  obtain⟨b,z⟩:=b;obtain⟨⟨k,hb,hk⟩,hst,hr⟩:=hb;dsimp only at hb hr;rw[drop_cons hi]at hk hst hr;rw[Bo]at hr;have hmem:=bq hi;generalize hx:l[i]! =x at*;obtain⟨g1,g2,g3,g4⟩:=iX hst;have ho:=su g1;have p1:=(iR f _ _ _ (zC _) g2).1;have p2:=(iR f _ _ _ (zC _) g3).1;have aT:=iw hh hvn _ x.aQ G (zC _) g2;have aE:=iw hh hvn _ x.aW G (zC _) g3;rw[Ca hst]at hk;have hnext:=EY hh hvn ho p1 p2 aT aE hb;refine⟨(Co f hv (gT f hv x.aQ) (gT f hv x.aW) x b,z),?_,⟨_,hnext,aq⟩,g4,hr⟩;obtain⟨i1,i2,hw⟩:=w3 hi hl;have hcost:=qN ho;have t1:(tr b).ai=b.ai:=rfl;have t2:(tr b).aD=b.aD:=rfl;have t3:(tr b).aF=b.aF:=rfl;have t4:(tr b).aI=b.aI:=rfl;have etr:(aJ.mk b.ai b.aD b.aF (pO 8 b.aI (eC x.bg)))=tr (gp b x.bg):=rfl;unfold UL;dsimp only;simp only[cV,i1,i2,hx,cI,dM,aB.eta,az.eta,hw];unfold Co;by_cases d4:x.cg=4
  ·have hN:=ho.n4 d4;have eu:(uO x).1.toNat=x.fN.toNat*eN x.aQ:=by
    unfold uO;simp only[gz,d4,Int.reduceEq];rw[eN,Int.toNat_mul hN.1 p1]
   have e:=h3 x hmem b k d4 hb aq;simp only[d4,Int.reduceEq,Cv,cI,dM,e]
  have ea:D6 b.aI x.bg=V (pO 8 b.aI (eC x.bg)):=IX hb.time hcost;have hA:=mL hb hcost;have ev:Qe (tr (gp b x.bg)) x.aG=V (cK b.ai x.aG):=W4 hA x.aG ho.term;have hnn:NN (cK b.ai x.aG):=iV hb x.aG ho.term;simp only[t1,t2,t3,t4,d4,CZ,cw,ea,etr,GL];by_cases d0:x.cg=0
  ·obtain⟨v1,v2⟩:=ho.var (.inl d0);simp only[cV,cT,gz,d0,Int.reduceEq,ev,adg hA hn v1 v2 hnn]
  by_cases d1:x.cg=1
  ·have e:=atY hA aq hnn;simp only[cV,cT,gz,d1,Int.reduceEq,ev,e]
  by_cases d5:x.cg=5
  ·obtain⟨v1,v2⟩:=ho.var (.inr d5);obtain⟨n1,n2⟩:=ho.n5 d5;have hlt:x.fN.toNat<zR hv:=aq;have e:=adg hA hn v1 v2 (hvn _ hlt);simp only[cV,cT,gz,d5,Int.reduceEq];rw[gW,e]
  by_cases d3:x.cg=3
  ·have eu:(uO x).1.toNat=max (eN x.aQ) (eN x.aW):=by
    unfold uO eN;simp only[gz,d3,Int.reduceEq];omega
   have e:=h1 x hmem (gp b x.bg) k hA aq;have e':=h2 x hmem (gp b x.bg) k hA aq;have ej:=aaG ((aT _ _ hA).weak (show k+eN x.aQ<=k+max (eN x.aQ) (eN x.aW)by omega)) ((aE _ _ hA).weak (show k+eN x.aW<=k+max (eN x.aQ) (eN x.aW)by omega)) hn aq;have et:=oP (a:=cK b.ai x.aG) (.inr hnn);unfold brA;simp only[cV,cT,gz,d3,Int.reduceEq,ev,et];cases cR (cK b.ai x.aG) 0 with
   |false=>simp only[cT,e,dM]
   |true=>
    cases cD (cK b.ai x.aG)with
    |false=>simp only[cT,gz,e',Bool.true_eq_false]
    |true=>simp only[cT,e,e',ej,GL,Bool.true_eq_false]
  by_cases d6:x.cg=6
  ·obtain⟨_,q2,q3,q4,q5⟩:=ho.ad0 d6;have e:=(uv (a:=pO 8 b.aI (eC x.bg)) hA.time q4 aq (Kj q2 q3 q4 q5)).2.1;simp only[cV,cT,gz,d6,Int.reduceEq];rw[e];rfl
  ·simp only[d0,d1,d3,d5,d6,CZ,cw,GL]) (λb _=>by unfold UL;simp) (b:=(s,⟨[],⟨0,0,0⟩,[],⟨0,0,0⟩⟩)) ⟨⟨m,h,by rw[xH];exact hm⟩,by rw[xH];exact hc,by rw[xH]⟩
 obtain⟨b,z⟩:=v;have e1':VB M88 M167 ⟨hv,l,(zR l:Int),0,f,tr s,⟨[],⟨0,0,0⟩,[],⟨0,0,0⟩⟩⟩=V ⟨hv,l,(zR l:Int),(zR l:Int),f,tr b,⟨[],z.aD,[],z.aI⟩⟩:=e1;have hr:=hV.2.2;dsimp only at hr;rw[wO,F7]at hr;unfold s88;rw[e1',<-hr];dsimp only;rw[fK,cw]
def an8{f:aU}{hv:aa aL}(hn:zR f.ai<=1000000)(hh:zR hv=zR f.au)(hvn:∀i,i<zR hv->NN hv[i]!):∀n:Nat,
  (∀(top:Bool) (l:aa aB) (s:ay) (m:Nat),2*zf l<n->fM l<=1000000->cc f top l=0->eR f.ai.length m s->m+eN l<=1000000->m88 n f hv l (tr s)=V (tr (gT f hv l s)))/\
  (∀(x:aB) (s:ay) (m:Nat),2*zf x.aQ+1<n->fM x.aQ<=1000000->(0<=x.fN/\x.fN<=4096)->cC x.bg->fA f.ai G x.aG=0->cc f G x.aQ=0->eR f.ai.length m s->m+x.fN.toNat*eN x.aQ<=1000000->O1 n f hv x (tr s)=V (tr (mW (kJ (gT f hv x.aQ) x.aG x.bg x.fN.toNat s))))
 |0=>⟨λ_ _ _ _ h=>aq,λ_ _ _ h=>aq⟩
 |n+1=>by
  obtain⟨i1,i2⟩:=an8 hn hh hvn n;refine⟨λtop l s m h hN hc hs hm=> ?_,λx s m h hN hx hc ht hst hs hm=> ?_⟩
  ·refine aAa (m88 n) (O1 n) hn hh hvn (zH (j5 l) hN) hc hs hm (λx hx s m hs hm=> ?_) (λx hx s m hs hm=> ?_) (λx hx s m h4 hs hm=> ?_)
   ·have:=bw hx;exact i1 G x.aQ s m aq (zH (vJ hx).1 hN) (lJ hc hx).1 hs hm
   ·have:=bw hx;exact i1 G x.aW s m aq (zH (vJ hx).2 hN) (lJ hc hx).2 hs hm
   ·have:=(bw hx).1;obtain⟨_,k⟩:=vv hc hx;exact i2 x s m aq (zH (vJ hx).1 hN) (k.n4 h4) (qN k) k.term (lJ hc hx).1 hs hm
  ·exact asx (m88 n) (O1 n) hn hx hc ht (iw hh hvn _ x.aQ G (zC _) hst) hs hm (λs m hs hm=>i1 G x.aQ s m aq hN hst hs hm)
def aC8{r:Runner}(hn:zR r.fF.ai<=1000000)(hh:zR r.au=zR r.fF.au)(hvn:∀i,i<zR r.au->NN r.au[i]!){top:Bool}{l:aa aB}{s:ay}{m:Nat}(hN:fM l<=1000000)(hc:cc r.fF top l=0)(hs:eR r.fF.ai.length m s)(hm:m+eN l<=1000000):r83 r l s=V (gT r.fF r.au l s):=
 eM (2*zf l+1) λn h=>(apw hn hh hvn n).1 top l s m aq hN hc hs hm
def axR{f:aU}{hv:aa aL}(hn:zR f.ai<=1000000)(hh:zR hv=zR f.au)(hvn:∀i,i<zR hv->NN hv[i]!){top:Bool}{l:aa aB}{s:ay}{m:Nat}(hN:fM l<=1000000)(hc:cc f top l=0)(hs:eR f.ai.length m s)(hm:m+eN l<=1000000):r88 f hv l (tr s)=V (tr (gT f hv l s)):=
 eM (2*zf l+1) λn h=>(an8 hn hh hvn n).1 top l s m aq hN hc hs hm
def kd(k:Int)(v:bf):Bool:=J (v.bB=k)
def cQ(vars:aa bf)(k:Int)(i:Nat):Nat:=zR ((vars.take i).filter (kd k))
def gL{vars:aa bf}{i:Nat}(h:i<zR vars)(k:Int):cQ vars k (i+1)=cQ vars k i+if vars[i]!.bB=k then 1 else 0:=by
 unfold cQ;rw[bC h,xk,zg];by_cases hk:vars[i]!.bB=k
 ·rw[bI hk];simp only[yX,xZ,kd,hk,Cv,dM,yg]
 ·rw[bO hk];simp only[yX,xZ,kd,hk,CZ,yu,GL,y6]
def j7(vars:aa bf)(k:Int)(i:Nat):cQ vars k i<=i:=by
 unfold cQ;exact zH (yt _ _) (by rw[zA];omega)
def jN{vars:aa bf}{k:Int}{i j:Nat}(hij:i<=j)(hj:j<=zR vars):cQ vars k i<=cQ vars k j:=by
 induction j with
 |zero=>
  have:i=0:=aq;subst this;exact zm _
 |succ j ih=>
  by_cases h:i=j+1
  ·subst h;exact zm _
  ·rw[gL aq];have:=ih aq aq;omega
def nZ(vars:aa bf)(k:Int):cQ vars k vars.length=zR (vars.filter (kd k)):=by unfold cQ;rw[zG]
def ale(vars:aa bf)(hl:zR vars<=1000000)(k:Int):ajj vars k=V (vars.filter (kd k)):=by
 obtain⟨v,e1,hV⟩:=cH (rnd:=Lb) vars.length (λi (b:aa bf)=>⟨vars,k,b,(i:Int)⟩) (λi b=>b=(vars.take i).filter (kd k)) (λi b hi hb=>by
  obtain⟨i1,i2,hw⟩:=w3 hi hl;refine⟨_,?_,rfl⟩;have hlen:zR b<=1000000:=by rw[hb];exact zH (j7 vars k i) aq
  rw[bC hi,xk,<-hb];unfold Lb;by_cases hk:vars[i]!.bB=k
  ·have h2:zR (b++[vars[i]!])<=1073741824:=by rw[zg,yg];omega
   simp only[cV,i1,i2,hk,h2,hw,cI,dM,kd,yX,xZ]
  ·simp only[cV,cT,gz,i1,i2,hk,hw,kd,yX,xZ,yy,yu]) (λb _=>by unfold Lb;simp) (b:=[]) (by simp)
 rw[zG]at hV;have e1':IF ⟨vars,k,[],0⟩=V ⟨vars,k,v,(zR vars:Int)⟩:=e1;unfold ajj;rw[e1'];simp[hV]
def FO(vars:aa bf)(hv:de vars)(hl:zR vars<=1000000){k:Int}(hk:k=1\/k=2\/k=3):∃p,m89 vars k=V p:=by
 have hm:=ale vars hl k;generalize hF:vars.filter (kd k)=L at hm;have hL:∀v∈L,-1048576<=v.ah/\v.ah<=v.ag/\v.ag<=1048576:=λv h=>by rw[<-hF]at h;exact hv v (z7.1 h).1
 have hll:zR L<=1000000:=by rw[<-hF];exact zH (yt _ _) hl
 obtain⟨v,e1,_⟩:=cH (rnd:=WS) L.length (λi (_:Unit)=>⟨L,(i:Int)⟩) (λ_ _=>True) (λi b hi _=>by
  have hw:=jJ hi hll;obtain⟨q1,q2,q3⟩:=hL _ (bq hi);have i1:(i:Int)<(zR L:Int):=aq;have i2:(0:Int)<=(i:Int):=aq;refine⟨(),?_,trivial⟩;unfold WS;simp only[cV,cT,i1,i2,hi,hw,dM,show ¬L[i]!.ag<L[i]!.ah by omega,show ¬L[i]!.ah< -1048576 by omega,show ¬1048576<L[i]!.ag by omega]) (λb _=>by unfold WS;simp) (b:=()) trivial
 have e1':Wm ⟨L,0⟩=V ⟨L,(zR L:Int)⟩:=e1;have hsz:∀i,i<zR L->∀n:Int,1<=n->n<=4096->ak (n*ak (ak (L[i]!.ag-L[i]!.ah)+1))=n*(L[i]!.ag-L[i]!.ah+1)/\1<=n*(L[i]!.ag-L[i]!.ah+1):=λi hi n h1 h2=>by
  obtain⟨q1,q2,q3⟩:=hL _ (bq hi);have p1:n*(L[i]!.ag-L[i]!.ah+1)<=4096*(L[i]!.ag-L[i]!.ah+1):=zM h2 aq;have p2:1*(L[i]!.ag-L[i]!.ah+1)<=n*(L[i]!.ag-L[i]!.ah+1):=zM h1 aq;rw[aM (n:=L[i]!.ag-L[i]!.ah),aM (n:=L[i]!.ag-L[i]!.ah+1),aM];exact⟨rfl,aq⟩
 obtain⟨i,n,e2,hI,hc⟩:=lM (rnd:=P5) L.length (λi (b:Int)=>⟨L,b,(i:Int)⟩) (λ_ b=>1<=b/\b<=4096) (λi b=>4096<b*(L[i]!.ag-L[i]!.ah+1)) (λi b hi hb=>by
  have hw:=jJ hi hll;obtain⟨s1,s2⟩:=hsz i hi b hb.1 hb.2;have i1:(i:Int)<(zR L:Int):=aq;have i2:(0:Int)<=(i:Int):=aq;by_cases h:4096<b*(L[i]!.ag-L[i]!.ah+1)
  ·refine .inr ⟨?_,h⟩;unfold P5;simp only[cV,i1,i2,hi,cI,dM,s1,h]
  ·refine .inl ⟨b*(L[i]!.ag-L[i]!.ah+1),?_,s2,aq⟩;unfold P5;simp only[cV,cT,i1,i2,hi,hw,dM,s1,h]) (λb _=>by unfold P5;simp) (b:=1) ⟨aq,aq⟩
 have e2':V6 ⟨L,1,0⟩=V ⟨L,n,(i:Int)⟩:=e2;have hk1:(bif bif J (k=0)then G else O then
   bif bif J (k=1)then G else O then
    bif bif J (k=2)then G else O then V (bif J (k=3)then G else O)else V G
   else V G
  else some false)=some false:=by rcases hk with h|h|h<;>simp[h]
 unfold m89;rw[hk1];simp only[cw,hm,e1'];rw[fK,cw,e2'];dsimp only;rcases hc with rfl|⟨hi,h⟩
 ·rw[fK];exact⟨_,rfl⟩
 ·obtain⟨s1,s2⟩:=hsz i hi n hI.1 hI.2;have i1:(i:Int)<(zR L:Int):=aq;have i2:(0:Int)<=(i:Int):=aq;simp only[cV,i1,i2,hi,cI,dM,s1,h];exact⟨_,rfl⟩
def XR{f:aU}(h:few f 10 80=O):fM f.bM+kH (f.au.map (·.aG))<=80/\zR f.au<=10/\zR f.ai<=10:=by
 unfold few at h;rw[decide_eq_true_eq]at h;omega
def Yr{f:aU}(h:pL f=0):cc f O f.bM=0:=by
 unfold pL at h;split at h
 ·cases h
 split at h
 ·exact ei h ‹_›
 split at h
 ·exact ei h ‹_›
 split at h
 ·exact ei h ‹_›
 rename_i h4;simpa using h4
def auR(f:aU)(a b c:Int):∃r,m24 f a b c=V r/\(r=O->few f 10 80=O/\pL f=0):=by
 unfold m24;rw[arG f 10 80 (by decide) (by decide) (by decide) (by decide)];cases hf:few f 10 80 with
 |false=>exact⟨false,rfl,λh=>by cases h⟩
 |true=>
  obtain⟨h1,h2,h3⟩:=XR hf;rw[Z9 f aq aq aq];by_cases hc:pL f=0
  ·have hv:=mC hc;obtain⟨p1,e1⟩:=FO f.ai hv aq (k:=1) (.inl rfl);obtain⟨p2,e2⟩:=FO f.ai hv aq (k:=2) (.inr (.inl rfl));obtain⟨p3,e3⟩:=FO f.ai hv aq (k:=3) (.inr (.inr rfl));have hS:AW f.bM:=AI f _ f.bM O (zC _) (Yr hc);rw[e1,e2,e3,Z7 f.bM aq hS];simp only[cT,hc,Cv];cases J (p1.fst<=a)<;>cases J (p2.fst<=b)<;>cases J (p3.fst<=c)<;>exact⟨_,rfl,λ_=>⟨trivial,trivial⟩⟩
  ·simp only[cT,hc,CZ];exact⟨false,rfl,λh=>by cases h⟩
def aoL(vars:aa bf)(inp:nc)(i:Nat):Int:=
 if vars[i]!.bB=1 then inp.L0[cQ vars 1 i]! else if vars[i]!.bB=2 then inp.aZ[cQ vars 2 i]! else if vars[i]!.bB=3 then inp.Jr[cQ vars 3 i]! else vars[i]!.eG
structure aDG (vars:List bf) (inp:nc):Prop where
 s:zR inp.L0=cQ vars 1 vars.length
 p:zR inp.aZ=cQ vars 2 vars.length
 r:zR inp.Jr=cQ vars 3 vars.length
 b:∀i,i<zR vars->vars[i]!.ah<=aoL vars inp i/\aoL vars inp i<=vars[i]!.ag
def nQ{α:Type}[Inhabited α]{c:Nat->α->Int}:∀{l:aa α} {i:Nat},cz c l i=0->∀j,j<zR l->c (i+j) l[j]! =0
 |[],_,_,j,h=>by simp at h
 |x::l,i,h,j,hj=>by
  unfold cz at h;split at h
  case isFalse h1=>exact ei h h1
  rename_i h0;cases j with
  |zero=>simpa using h0
  |succ j=>
   have:=nQ h j (by simpa using hj);rw[show i+(j+1)=i+1+j by omega];exact this
def aty{f:aU}{i:Nat}{h:dD}(hc:kQ f i h=0):(-1048576<=h.ah/\h.ah<=h.ag/\h.ag<=1048576)/\fA f.ai O h.aG=0:=by
 unfold kQ at hc;split at hc
 ·cases hc
 split at hc
 ·cases hc
 split at hc
 ·cases hc
 rename_i hb;have hb:jj h.ah h.ag=O:=by simpa using hb
 unfold jj at hb;rw[decide_eq_true_eq]at hb;exact⟨⟨hb.2.1,hb.1,hb.2.2⟩,hc⟩
structure Oc (f:aU):Prop where
 vars:de f.ai
 hat:∀i,i<zR f.au->(-1048576<=f.au[i]!.ah/\f.au[i]!.ah<=f.au[i]!.ag/\f.au[i]!.ag<=1048576)/\fA f.ai O f.au[i]!.aG=0
 steps:cc f O f.bM=0
 o:(e9 f.bM).2.1<=8
 t:(e9 f.bM).2.2<=67108864
def Mi{f:aU}(h:pL f=0):Oc f:=by
 have hv:=mC h;unfold pL at h;split at h
 ·cases h
 split at h
 ·exact ei h ‹_›
 split at h
 ·exact ei h ‹_›
 rename_i h3;split at h
 ·exact ei h ‹_›
 rename_i h4;split at h
 ·cases h
 rename_i h5;have h3:cz (kQ f) f.au 0=0:=by simpa using h3
 have h4:cc f O f.bM=0:=by simpa using h4
 unfold Xe at h5;simp only[decide_eq_true_eq]at h5;exact⟨hv,λi hi=>aty (i:=0+i) (nQ h3 i hi),h4,aq,aq⟩
end Go.Proofs.YtnfljbehcffmcaaGreat
end
