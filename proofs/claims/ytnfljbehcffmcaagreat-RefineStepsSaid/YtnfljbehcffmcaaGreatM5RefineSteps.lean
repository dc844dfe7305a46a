/- Merged: Pv2b, Pv4, So, Hs, Ne9, Hr, Ne10, Ne30, Ha, Qv, Qw, Pv5, Pv6, Pv7, Qr, Qs, Ne31, Ne32, Hx, Hy, Ne33, Ne34, Ne35, Ne36, Ne37, Ne38, Qx, Qy. -/
import Derived.Test.YtnfljbehcffmcaaGreatM1RefineSteps
import Derived.Test.YtnfljbehcffmcaaGreatM4RefineSteps
import Derived.Test.YtnfljbehcffmcaaGreatM2RefineSteps
import Derived.Shelf.Sort.Plain
import Derived.Shelf.Slices.In.SortNone
import Derived.Sort.OwnSortedInts
import Derived.Test.YtnfljbehcffmcaaGreatM3RefineSteps
open Nat renaming le_refl -> zm, lt_succ_self -> zC, le_trans -> zG, add_mul -> zX, mul_le_mul_right -> yl, one_mul -> yL, not_lt_zero -> y8, lt_succ_iff_lt_or_eq -> xo, mul_one -> xB, sub_self -> xT
open SizeOf renaming sizeOf -> zf
open Int renaming toNat_natCast -> zg, le_refl -> zw, toNat -> zD, mul_nonneg -> zJ, mul_le_mul_of_nonneg_right -> zL, lt_irrefl -> yg, dvd_zero -> xL, le_of_lt -> xU, le_trans -> xV
open List renaming length_append -> zh, mem_cons_self -> zk, mem_singleton -> zo, getElem?_eq_getElem -> zq, length_map -> zu, mem_cons -> zy, length_take -> zA, take_length -> zH, mem_cons_of_mem -> zI, mem_map -> zK, map_append -> zM, range -> zN, mem_append -> zP, length -> zR, length_drop -> zV, map_congr_left -> zZ, mem_filter -> z8, drop -> ya, map_cons -> yf, length_singleton -> yh, length_filter_le -> yt, length_set -> yu, append_nil -> yy, nil_append -> yz, length_nil -> yB, getElem?_drop -> yF, mem_append_left -> yI, mem_append_right -> yJ, getElem_map -> yM, drop_eq_getElem_cons -> yN, append_assoc -> yS, map_nil -> yU, filter_cons -> yW, getElem_of_mem -> y5, filter_append -> xk, cons_append -> xy, map_drop -> xA, mem_of_mem_drop -> xC, length_eq_zero_iff -> xG, drop_zero -> xI, getElem_take -> xJ, map_take -> xK, getElem_mem -> xO, getElem_drop -> xS, ext_getElem -> xY, filter_nil -> xZ, getElem_append_left -> wg, take_zero -> wj, getElem?_take_of_lt -> wz, getElem_append_right -> wD, mem_of_mem_take -> wH, drop_length -> wN
open Bool renaming and_eq_true -> zi, cond_decide -> zQ, false_eq_true -> yx, true -> O, false -> G
open Option renaming some -> zF, some -> V, none -> I
open Array renaming getElem?_eq_some_iff -> y9
open Decidable renaming decide -> J
open Go.Proofs.Tryz renaming prog -> vi
open Go.Proofs.Tryz
set_option linter.unusedSectionVars false
set_option linter.unusedVariables false
set_option linter.unusedSimpArgs false
set_option linter.defProp false
noncomputable section
set_option maxRecDepth 100000
namespace Go.Proofs.YtnfljbehcffmcaaGreat
open Go Go.Iv
open Go.IntKind (i64 u64)
def vw(vars:aa bg)(t:az)(k:aa Span):Span:=if t.bD=0/\(t.fN< -1048576\/1048576<t.fN)then⟨-1048577,1048577⟩else jq vars t k
def YH(vars:aa bg)(t:az)(k:aa Span):BA (vw vars t k)=BA (jq vars t k)/\(BA (jq vars t k)=O->vw vars t k=jq vars t k):=by
 unfold vw;by_cases h:t.bD=0/\(t.fN< -1048576\/1048576<t.fN)
 ·have e:BA (jq vars t k)=G:=by
   unfold BA jq;rw[bJ h.1];simp;omega
  rw[bJ h,e];exact⟨by decide,λh=>by cases h⟩
 ·rw[bN h];simp
def sK(a b:Int):jU a b=if a<b then a else b:=by
 unfold jU;simp
def pG(a b:Int):k8 a b=if b<a then a else b:=by
 unfold k8;simp
def iK{k:aa Span}{i:Nat}(h:i<zR k):(k.map (·.ah))[i]! =k[i]!.ah:=by
 rw[getElem!_pos _ i (by simpa using h),getElem!_pos k i h,yM]
def fW{k:aa Span}{i:Nat}(h:i<zR k):(k.map (·.ag))[i]! =k[i]!.ag:=by
 rw[getElem!_pos _ i (by simpa using h),getElem!_pos k i h,yM]
def Ih(k:aa Span)(hl:zR k<=1000000)(h2:2<=zR k)(a:Span):Ec ⟨k.map (·.ah),k.map (·.ag),a.ah,a.ag,2⟩=V ⟨k.map (·.ah),k.map (·.ag),((k.drop 2).foldl gm a).ah,((k.drop 2).foldl gm a).ag,(zR k:Int)⟩:=by
 have hlen:zR (k.drop 2)=zR k-2:=zV ..;have hget:∀i,i<zR k-2->(k.drop 2)[i]! =k[i+2]! :=λi hi=>by
  grind
 obtain⟨v,e1,hv⟩:=cH (rnd:=Mg) (zR k-2) (λi (b:Span)=>⟨k.map (·.ah),k.map (·.ag),b.ah,b.ag,((i+2:Nat):Int)⟩) (λi b=>b=((k.drop 2).take i).foldl gm a) (λi b hi hb=>by
  have hw:=jG (show i+2<zR k by omega) hl;refine⟨gm b k[i+2]!,?_,?_⟩
  ·unfold Mg;simp only[zg,sK,pG];unfold gm
   congr 3<;>grind
  ·rw[bG aq,List.foldl_append,hb,hget i hi];rfl) (λb _=>by
   unfold Mg;simp only[zu,zQ];rw[AJ]) (b:=a) rfl
 rw[<-hlen,zH]at hv;rw[<-hv];rw[show zR k-2+2=zR k by omega]at e1;exact e1
def aij(vars:aa bg)(t:az)(k:aa Span)(h:D8 vars t k):aln vars t (k.map (·.ah)) (k.map (·.ag))=V ((vw vars t k).ah,(vw vars t k).ag):=by
 obtain⟨hk,h24,hI⟩:=h;have h0:1<=(cq t.bD).1->GJ k[0]! :=λh=>hI _ (bu aq);have h1:2<=(cq t.bD).1->GJ k[1]! :=λh=>hI _ (bu aq);have h33:(cq t.bD).2<=33:=by unfold cq;grind
 have am:∀n:Int,-8796093022208<=n->n<=8796093022208->aj n=n:=λn a b=>aM;unfold aln vw jq;have cs:t.bD=0\/t.bD=24\/t.bD=6\/t.bD=8\/t.bD=9\/t.bD=10\/t.bD=11\/t.bD=12\/t.bD=21\/t.bD=22\/t.bD=23\/t.bD=25\/(t.bD≠0/\t.bD≠24/\t.bD≠6/\t.bD≠8/\t.bD≠9/\t.bD≠10/\t.bD≠11/\t.bD≠12/\t.bD≠21/\t.bD≠22/\t.bD≠23/\t.bD≠25):=aq;rcases cs with h|h|h|h|h|h|h|h|h|h|h|h|h
 ·simp only[Z0];grind
 ·simp[h,h24 h]
 ·have hl:1<=(cq t.bD).1:=by rw[h];decide
  obtain⟨a1,a2,a3⟩:=h0 hl;have w1:aj ((0:Int)-k[0]!.ag)= -k[0]!.ag:=by rw[am _ aq aq];omega
  have w2:aj ((0:Int)-k[0]!.ah)= -k[0]!.ah:=by rw[am _ aq aq];omega
  have i0:(0:Int)<(zR k:Int):=aq;simp only[fU,Z0,h,zQ,Int.reduceEq,reduceIte,zu,i0,iK (show 0<zR k by omega),fW (show 0<zR k by omega),w1,w2,zw,GX,false_and]
 ·have hl:2<=(cq t.bD).1:=by rw[h];decide
  obtain⟨a1,a2,a3⟩:=h0 aq;obtain⟨b1,b2,b3⟩:=h1 hl;have w1:=am (k[0]!.ah+k[1]!.ah) aq aq;have w2:=am (k[0]!.ag+k[1]!.ag) aq aq;have i0:(0:Int)<(zR k:Int):=aq;have i1:(1:Int)<(zR k:Int):=aq;simp only[fU,Z0,h,zQ,Int.reduceEq,Int.reduceLE,reduceIte,zu,iK (show 0<zR k by omega),fW (show 0<zR k by omega),iK (show 1<zR k by omega),fW (show 1<zR k by omega),i0,i1,w1,w2,zw,GX,false_and]
 ·have hl:2<=(cq t.bD).1:=by rw[h];decide
  obtain⟨a1,a2,a3⟩:=h0 aq;obtain⟨b1,b2,b3⟩:=h1 hl;have w1:=am (k[0]!.ah-k[1]!.ag) aq aq;have w2:=am (k[0]!.ag-k[1]!.ah) aq aq;have i0:(0:Int)<(zR k:Int):=aq;have i1:(1:Int)<(zR k:Int):=aq;simp only[fU,Z0,h,zQ,Int.reduceEq,Int.reduceLE,reduceIte,zu,iK (show 0<zR k by omega),fW (show 0<zR k by omega),iK (show 1<zR k by omega),fW (show 1<zR k by omega),i0,i1,w1,w2,zw,GX,false_and]
 ·have hl:2<=(cq t.bD).1:=by rw[h];decide
  obtain⟨a1,a2,a3⟩:=h0 aq;obtain⟨b1,b2,b3⟩:=h1 hl;have m1:=pY (a:=k[0]!.ah) (b:=k[1]!.ah) aq aq aq aq;have m2:=pY (a:=k[0]!.ah) (b:=k[1]!.ag) aq aq aq aq;have m3:=pY (a:=k[0]!.ag) (b:=k[1]!.ah) aq aq aq aq;have m4:=pY (a:=k[0]!.ag) (b:=k[1]!.ag) aq aq aq aq;have w1:=am _ (show-8796093022208<=k[0]!.ah*k[1]!.ah by omega) aq;have w2:=am _ (show-8796093022208<=k[0]!.ah*k[1]!.ag by omega) aq;have w3:=am _ (show-8796093022208<=k[0]!.ag*k[1]!.ah by omega) aq;have w4:=am _ (show-8796093022208<=k[0]!.ag*k[1]!.ag by omega) aq;have i0:(0:Int)<(zR k:Int):=aq;have i1:(1:Int)<(zR k:Int):=aq;simp only[fU,Z0,h,zQ,Int.reduceEq,Int.reduceLE,reduceIte,zu,iK (show 0<zR k by omega),fW (show 0<zR k by omega),iK (show 1<zR k by omega),fW (show 1<zR k by omega),i0,i1,w1,w2,w3,w4,zw,GX,false_and,sK,pG,gm];generalize k[0]!.ah*k[1]!.ah=p;generalize k[0]!.ah*k[1]!.ag=q;generalize k[0]!.ag*k[1]!.ah=r;generalize k[0]!.ag*k[1]!.ag=s
  congr 2<;>grind
 ·have hl:2<=(cq t.bD).1:=by rw[h];decide
  obtain⟨a1,a2,a3⟩:=h0 aq;obtain⟨b1,b2,b3⟩:=h1 hl;have z0:zD 0=0:=rfl;have z1:zD 1=1:=rfl;have aeF:∀x:Int,-1048576<=x->x<=1048576->AW x=if x<0 then-x else x:=λx q1 q2=>by
   unfold AW;rw[am _ aq aq];simp only[zQ];grind
  have YB:k8 (AW k[0]!.ah) (AW k[0]!.ag)=if k[0]!.ag< -k[0]!.ah then-k[0]!.ah else k[0]!.ag:=by
   rw[aeF _ aq aq,aeF _ aq aq,pG];grind
  have w2:aj ((0:Int)-if k[0]!.ag< -k[0]!.ah then-k[0]!.ah else k[0]!.ag)= -(if k[0]!.ag< -k[0]!.ah then-k[0]!.ah else k[0]!.ag):=by split<;>(rw[am _ aq aq];omega)
  have i0:(0:Int)<(zR k:Int):=aq;have i1:(1:Int)<(zR k:Int):=aq;simp only[fU,Z0,h,zQ,Int.reduceEq,Int.reduceLE,reduceIte,zu,z0,z1,iK (show 0<zR k by omega),fW (show 0<zR k by omega),iK (show 1<zR k by omega),fW (show 1<zR k by omega),i0,i1,YB,w2,zw,GX,false_and];by_cases c1:(0:Int)<=k[0]!.ah<;>by_cases c2:(0:Int)<=k[1]!.ah<;>simp only[cZ,cU,fU,c1,c2,and_true,and_false]
 ·have hl:2<=(cq t.bD).1:=by rw[h];decide
  obtain⟨b1,b2,b3⟩:=h1 hl;have w1:=am (k[1]!.ah+1) aq aq;have w2:=am (k[1]!.ag-1) aq aq;have i1:(1:Int)<(zR k:Int):=aq;simp only[fU,Z0,h,zQ,Int.reduceEq,Int.reduceLE,reduceIte,zu,iK (show 1<zR k by omega),fW (show 1<zR k by omega),i1,zw,GX,false_and,aaO,w1,w2,sK,pG]
  congr 1
  by_cases c1:k[1]!.ah<0<;>by_cases c2:(0:Int)<k[1]!.ag<;>simp only[fU,c1,c2,Prod.mk.injEq,and_true,true_and]<;>grind
 ·have hl:2<=(cq t.bD).1:=by rw[h];decide
  have i0:(0:Int)<(zR k:Int):=aq;have i1:(1:Int)<(zR k:Int):=aq;simp only[fU,Z0,h,zQ,Int.reduceEq,Int.reduceLE,reduceIte,zu,iK (show 0<zR k by omega),fW (show 0<zR k by omega),iK (show 1<zR k by omega),fW (show 1<zR k by omega),i0,i1,zw,GX,false_and,sK,pG]
  congr 2<;>grind
 ·have hl:2<=(cq t.bD).1:=by rw[h];decide
  have i0:(0:Int)<(zR k:Int):=aq;have i1:(1:Int)<(zR k:Int):=aq;simp only[fU,Z0,h,zQ,Int.reduceEq,Int.reduceLE,reduceIte,zu,iK (show 0<zR k by omega),fW (show 0<zR k by omega),iK (show 1<zR k by omega),fW (show 1<zR k by omega),i0,i1,zw,GX,false_and,sK,pG]
  congr 2<;>grind
 ·have hl:2<=(cq t.bD).1:=by rw[h];decide
  have i1:(1:Int)<(zR k:Int):=aq;have e:=Ih k aq aq k[1]!;simp only[fU,Z0,h,zQ,Int.reduceEq,Int.reduceLE,reduceIte,zu,iK (show 1<zR k by omega),fW (show 1<zR k by omega),e,i1,zw,GX,yg,true_or,false_and]
 ·have hl:2<=(cq t.bD).1:=by rw[h];decide
  have i1:(1:Int)<(zR k:Int):=aq;have e:=Ih k aq aq k[1]!;simp only[fU,Z0,h,zQ,Int.reduceEq,Int.reduceLE,reduceIte,zu,iK (show 1<zR k by omega),fW (show 1<zR k by omega),e,i1,zw,GX,yg,or_true,false_and]
 ·obtain⟨c1,c2,c3,c4,c5,c6,c7,c8,c9,c18,c11,c12⟩:=h;simp only[c1,c2,c3,c4,c5,c6,c7,c8,c9,c18,c11,c12,zQ,GQ,or_self,false_and]
def qV(vars:aa bg)(t:az):Int×Int×Bool:=match mC (t.ax.map (iM vars))with
 |none=>(0,0,G)
 |some l=>((vw vars t l).ah,(vw vars t l).ag,BA (vw vars t l))
def Lr(vars:aa bg)(t:az):iM vars t=if(qV vars t).2.2=O then V ⟨(qV vars t).1,(qV vars t).2.1⟩else I:=by
 rw[Aq,qV];cases h:mC (t.ax.map (iM vars))with
 |none=>rfl
 |some l=>
  obtain⟨h1,h2⟩:=YH vars t l;simp_all
def ank(M:aa bg->az->af tc)(vars:aa bg)(hv:de vars)(inp:Bool)(t:az)(hf:dJ vars inp t=O)(hM:∀k∈t.ax,M vars k=V (qV vars k)):akn M vars t=V (qV vars t):=by
 have h33:=PD hf;obtain⟨i,b,e1,hI,hc⟩:=me (rnd:=Fo M) (zR t.ax) (λi (b:aa Span)=>⟨vars,b.map (·.ah),b.map (·.ag),(i:Int),t⟩) (λi b=>(t.ax.take i).map (iM vars)=b.map V) (λi _=>(qV vars t.ax[i]!).2.2=G) (λi b hi hb=>by
  have hw:=jG hi aq;have hk:=hM _ (bu hi);have hlen:zR b=i:=by have:=congrArg zR hb;simp at this;omega
  cases hx:(qV vars t.ax[i]!).2.2 with
  |true=>
   refine .inl ⟨b++[⟨(qV vars t.ax[i]!).1,(qV vars t.ax[i]!).2.1⟩],?_,?_⟩
   ·have hl2:zR (b.map (·.ah)++[(qV vars t.ax[i]!).1])<=1073741824:=by simp;omega
    have hl3:zR (b.map (·.ag)++[(qV vars t.ax[i]!).2.1])<=1073741824:=by simp;omega
    unfold Fo;simp only[zg,az.eta,hk,hx,hl2,hl3,hw];simp[hi]
   ·rw[bG hi,zM,hb,zM];rw[yf,yf,Lr,bJ hx];rfl
  |false=>
   unfold Fo;simp only[zg,az.eta,hk,hx];simp[hi]) (λb _=>by unfold Fo;simp) (b:=[]) rfl
 have e1':Ke M ⟨vars,[],[],0,t⟩=V ⟨vars,b.map (·.ah),b.map (·.ag),(i:Int),t⟩:=e1;unfold akn;rw[az.eta,e1'];dsimp only;rcases hc with rfl|⟨hi,hx⟩
 ·rw[zH]at hI;have ha:mC (t.ax.map (iM vars))=V b:=by rw[hI];exact NX b
  rw[fO,cv,az.eta,aij vars t b (PG hv hf ha)];unfold qV;unfold BA;grind
 ·have hk:=hM _ (bu hi);have ha:mC (t.ax.map (iM vars))=I:=BV (zK.2 ⟨t.ax[i]!,bu hi,by rw[Lr,hx];simp⟩);rw[om,cI,bJ ⟨aq,aq⟩];simp only[cU,zg,az.eta,hk,hx];unfold qV;rw[ha]
def VN(vars:aa bg)(hv:de vars)(inp:Bool):∀(n:Nat) (t:az),zf t<n->dJ vars inp t=O->T6 n vars t=V (qV vars t)
 |0,_,h,_=>aq
 |n+1,t,h,hf=>ank (T6 n) vars hv inp t hf (λk hk=>VN vars hv inp n k (by have:=az.e9 hk;omega) (rJ hf hk))
def ako(vars:aa bg)(hv:de vars)(inp:Bool)(t:az)(hf:dJ vars inp t=O):ak5 vars t=V (qV vars t):=eO (zf t+1) λn hn=>VN vars hv inp n t aq hf
def Dl(vars:aa bg)(hv:de vars)(inp:Bool)(t:az):IL vars t inp=V (fG vars inp t):=by
 unfold IL fG;rw[az.eta,agH];cases hf:dJ vars inp t with
 |false=>rfl
 |true=>
  rw[ako vars hv inp t hf,Lr];dsimp only;cases (qV vars t).2.2<;>rfl
def dF.eta(h:dF):dF.mk h.fName h.ah h.ag h.aG=h:=by cases h;rfl
def U1(l:aa dF)(hl:zR l<=1000000)(v:dF):aaE l v=V (l.any λw=>w.fName.toList==v.fName.toList):=by
 obtain⟨i,e1,hc⟩:=qh (rnd:=Jg) l (λi=>⟨l,v.fName,v.ah,v.ag,v.aG.bD,v.aG.fN,v.aG.ax,(zR l:Int),(i:Int)⟩) (λ_ w=> !(w.fName.toList==v.fName.toList)) (λi hi=>by
  have hw:=jG hi hl;unfold Jg acD;grind) (by unfold Jg;simp)
 have e1':L6 ⟨l,v.fName,v.ah,v.ag,v.aG.bD,v.aG.fN,v.aG.ax,(zR l:Int),0⟩=V ⟨l,v.fName,v.ah,v.ag,v.aG.bD,v.aG.fN,v.aG.ax,(zR l:Int),(i:Int)⟩:=e1;unfold aaE ar8;rw[e1'];rcases hc with ⟨rfl,hc⟩|⟨hi,hc⟩
 ·rw[uM λj hj=>by have:=hc j hj;simpa using this];simp
 ·have hc':(l[i]!.fName.toList==v.fName.toList)=O:=by simpa using hc
  rw[LI hi hc'];unfold acD;simp only[zg,hc'];simp[hi]
def N1(f:aS)(hl:zR f.au<=1000000)(n:Nat)(hn:n<=zR f.au)(v:dF):
  ∃i:Nat,Og ⟨n,0,f,v⟩=V ⟨n,(i:Int),f,v⟩/\((i=n/\((f.au.take n).any λw=>w.fName.toList==v.fName.toList)=G)\/(i<n/\(f.au[i]!.fName.toList==v.fName.toList)=O/\((f.au.take n).any λw=>w.fName.toList==v.fName.toList)=O)):=by
 have hlen:zR (f.au.take n)=n:=by rw[zA];omega
 have hget:∀i,i<n->(f.au.take n)[i]! =f.au[i]! :=λi hi=>by
  rw[getElem!_pos _ i aq,getElem!_pos _ i aq,xJ]
 obtain⟨i,e1,hc⟩:=qh (rnd:=WT) (f.au.take n) (λi=>⟨(n:Int),(i:Int),f,v⟩) (λ_ w=> !(w.fName.toList==v.fName.toList)) (λi hi=>by
  have hw:=jG hi aq;unfold WT;simp only[az.eta,dF.eta];grind) (by rw[hlen];unfold WT;simp)
 refine⟨i,e1,?_⟩;rw[hlen]at hc;rcases hc with ⟨rfl,hc⟩|⟨hi,hc⟩
 ·exact .inl ⟨rfl,uM λj hj=>by have:=hc j aq;simpa using this⟩
 ·have hc':((f.au.take n)[i]!.fName.toList==v.fName.toList)=O:=by simpa using hc
  exact .inr ⟨hi,by rw[<-hget i hi];exact hc',LI aq hc'⟩
def amJ(t:az):YN t=CL t:=by
 unfold YN CL;simp
def alj(t:az):Na t=CL t:=by
 unfold Na CL;simp
def jR:∀(l:aa Int),gG l=O↔∀i,i+1<zR l->l[i]! <l[i+1]!
 |[]=>by simp[gG]
 |[a]=>by simp[gG]
 |a::b::l=>by
  unfold gG;rw[zi,jR (b::l),decide_eq_true_iff];constructor
  ·rintro⟨h1,h2⟩ i hi;cases i with
   |zero=>exact h1
   |succ i=>exact h2 i (by simpa using hi)
  ·intro h;exact⟨h 0 (by simp),λi hi=>h (i+1) (by simpa using hi)⟩
def alm(l:aa Int)(hl:zR l<=1000000):ad1 l=V (gG l):=by
 obtain⟨i,e1,hc⟩:=qh (rnd:=LL) l (λi=>⟨l,(zR l:Int),(i:Int)⟩) (λi x=>J (i=0)||J (l[i-1]! <x)) (λi hi=>by
  have hw:=jG hi hl;have hw2:aj ((i:Int)-1)=(i:Int)-1:=aM;have hw3:((i:Int)-1).toNat=i-1:=aq;unfold LL;grind) (by unfold LL;simp)
 have e1':Jv ⟨l,(zR l:Int),0⟩=V ⟨l,(zR l:Int),(i:Int)⟩:=e1;unfold ad1;rw[e1'];rcases hc with ⟨rfl,hc⟩|⟨hi,hc⟩
 ·have:gG l=O:=(jR l).2 λi hi=>by
   have:=hc (i+1) hi;simpa using this
  rw[this];simp
 ·have hc':i≠0/\¬l[i-1]! <l[i]! :=by
   simp only[Bool.or_eq_false_iff,decide_eq_false_iff_not]at hc;exact hc
  have:gG l=G:=by
   cases hr:gG l with
   |false=>rfl
   |true=>
    have:=(jR l).1 hr (i-1) aq;rw[show i-1+1=i by omega]at this;omega
  have hw2:aj ((i:Int)-1)=(i:Int)-1:=aM;have hw3:((i:Int)-1).toNat=i-1:=aq;grind
def ajF(l:aa Int)(hl:zR l<=1000000):al4 l=V (J (1<=zR l/\zR l<=32)&&J ((0:Int)<=l[0]!)&&gG l):=by
 unfold al4;by_cases h1:1<=zR l/\zR l<=32
 case neg=>
  rw[bY h1];simp only;grind
 rw[b7 h1,bY (show ¬(zR l:Int)<1 by omega),bY (show ¬32<(zR l:Int)by omega),bJ (⟨zw _,aq⟩:(0:Int)<=0/\(0:Int)<(zR l:Int))];have hz:l[zD 0]! =l[0]! :=rfl;rw[hz];by_cases h0:(0:Int)<=l[0]!
 case neg=>
  rw[bY h0,b7 (show l[0]! <0 by omega)];rfl
 rw[b7 h0,bY (show ¬l[0]! <0 by omega)];dsimp only[cv];have hlen:zR (l.drop 1)=zR l-1:=zV ..;have hget:∀i,i<zR l-1->(l.drop 1)[i]! =l[i+1]! :=λi hi=>by
  simp
 obtain⟨i,e1,hc⟩:=qh (rnd:=JT) (l.drop 1) (λi=>⟨l,((i+1:Nat):Int)⟩) (λi x=>J (l[i]! <x)) (λi hi=>by
  have hw:=jG (show i+1<zR l by omega) hl;have hw2:aj (((i+1:Nat):Int)-1)=(i:Int):=by rw[aM];omega
  unfold JT;grind) (by
   unfold JT;simp only[zQ];rw[AJ])
 have e1':Lk ⟨l,1⟩=V ⟨l,((i+1:Nat):Int)⟩:=e1;rw[e1'];dsimp only;rw[hlen]at hc;rcases hc with ⟨rfl,hc⟩|⟨hi,hc⟩
 ·have:gG l=O:=(jR l).2 λi hi=>by
   have:=hc i aq;simpa using this
  rw[this,bY (show ¬(((zR l-1+1:Nat):Int)<(zR l:Int))by omega)];rfl
 ·rw[hget i hi]at hc;have hc':¬l[i]! <l[i+1]! :=by simpa using hc
  have:gG l=G:=by
   cases hr:gG l with
   |false=>rfl
   |true=>exact ep ((jR l).1 hr i aq) hc'
  have hw2:aj (((i+1:Nat):Int)-1)=(i:Int):=by rw[aM];omega
  grind
def UJ(f:aS)(s:aC)(last:Bool):Sv f s last=V (dL f s last):=by
 have h199:zR s.aR<=32->ad1 s.aR=V (gG s.aR):=λh=>alm _ aq;have hz:s.aR[zD 0]! =s.aR[0]! :=rfl;unfold Sv XW acv abG;rw[az.eta,amJ,hz];obtain⟨X,hX⟩:∃X,X=dL f s last:=⟨_,rfl⟩;have hX1:X=O↔dL f s last=O:=by rw[hX]
 unfold dL Cm at hX1;generalize CL s.aG=Z at*;have cs:s.cg=0\/s.cg=1\/s.cg=2\/s.cg=3\/s.cg=4\/s.cg=5\/s.cg=6\/s.cg<0\/6<s.cg:=aq;rcases cs with h|h|h|h|h|h|h|h|h
 case inr.inr.inr.inr.inr.inr.inr.inl=>rw[b7 h];dsimp only[cI];cases X<;>grind
 case inr.inr.inr.inr.inr.inr.inr.inr=>rw[b7 h,fO];dsimp only[cI,cv];cases X<;>grind
 all_goals
  rw[h]at hX1 ⊢;cases X<;>cases Z<;>simp only[cZ,cU,fU,Int.reduceEq,Int.reduceLT,zQ,reduceIte,zi]at hX1 ⊢ <;>grind (splits:=40)
def ab1(a b:Bool):(bif a then some b else some false)=some (a&&b):=by cases a<;>rfl
def U3(f:aS)(s:aC)(last:Bool)(hb:zR s.aR<=1000000):Sw f s last=V (dL f s last):=by
 have h173:=ajF s.aR hb;have e1:(bif J ((zR s.aQ:Int)=0)then V (J ((zR s.aX:Int)=0))else V G)=V (J (zR s.aQ=0/\zR s.aX=0)):=by
  by_cases a1:zR s.aQ=0<;>by_cases a2:zR s.aX=0<;>simp[a1]
 have e2:(bif J (0<=s.dM)then bif J (s.dM<(zR f.ai:Int))then if(0:Int)<=s.dM/\s.dM<(zR f.ai:Int)then V (J (f.ai[s.dM.toNat]!.bB=0))else I else V G else V G)=V (Cm f s):=by
  unfold Cm;by_cases a1:0<=s.dM<;>by_cases a2:s.dM<(zR f.ai:Int)<;>simp[a1,a2]
 unfold Sw;rw[az.eta,alj,h173,e1,e2];unfold dL;generalize J (zR s.aQ=0/\zR s.aX=0)=F;have hi:((zR s.aR:Int)=0)↔s.aR.length=0:=aq;have hi2:((zR s.aX:Int)=0)↔s.aX.length=0:=aq;simp only[hi,hi2];have cs:s.cg=0\/s.cg=1\/s.cg=2\/s.cg=3\/s.cg=4\/s.cg=5\/s.cg=6\/(s.cg≠0/\s.cg≠1/\s.cg≠2/\s.cg≠3/\s.cg≠4/\s.cg≠5/\s.cg≠6):=aq;rcases cs with h|h|h|h|h|h|h|⟨h0,h1,h2,h3,h4,h5,h6⟩
 case inr.inr.inr.inr.inr.inr.inr=>simp only[h0,h1,h2,h3,h4,h5,h6,CC,cv,GQ]
 all_goals
  rw[h];simp only[Int.reduceEq,CC,cv]
  try rw[Bool.decide_and]
  simp only[ab1]
  first|done|(congr 1;ac_rfl)
def Uf(s:aC)(hb:s.cg=6->1<=zR s.aR/\zR s.aR<=32):RB s=V (uA s):=by
 unfold RB uA;by_cases h6:s.cg=6
 ·obtain⟨b1,b2⟩:=hb h6;have hw:aj ((zR s.aR:Int)-1)=(zR s.aR:Int)-1:=aM;have hw2:((zR s.aR:Int)-1).toNat=zR s.aR-1:=aq;grind (splits:=30)
 ·rw[bY h6,bN h6];by_cases h2:s.cg=2
  ·rw[h2];grind (splits:=30)
  ·rw[bY h2,bN h2];grind (splits:=30)
def jE{f:aS}{s:aC}{last:Bool}(h:dL f s last=O):(s.cg=6->1<=zR s.aR/\zR s.aR<=32)/\(s.cg≠6->zR s.aR=0)/\(s.cg≠3->s.cg≠4->s.aQ=[])/\(s.cg≠3->s.aX=[])/\(s.cg≠4->0<=s.fN):=by
 unfold dL at h;have e1:zR s.aQ=0->s.aQ=[]:=xG.1;have e2:zR s.aX=0->s.aX=[]:=xG.1;refine⟨λh6=> ?_,λh6=> ?_,λh3 h4=>e1 ?_,λh3=>e2 ?_,λh4=> ?_⟩<;>grind (splits:=40)
abbrev aCB:=aa Int
def d237:Td 1 aCB:= .c [] [] (.r 1 1 en (sr 0 3 sn) (λz=>z.2.1) (λx=>((()),(x,()))))
def aCN:=(lc (qo 0) ln)
def aDm:=(sr 0 3 sn)
def QE(b0:aa Int):af aCB:=if zR b0<=1073741824 then V (b0.mergeSort λx y=>J (x<=y))else I
def anQ:Prop:=HY vi 237 1 aCN aDm d237 (λg=>QE g.2.1)
def aEK:bq->bq:=eY vi 237 1 aCN aDm d237 (λg=>QE g.2.1)
def aaz(hv:anQ){F:bq}(h:bA vi F):bA vi (aEK F):=CO hv ⟨_,func237,aW,aW⟩ (λ_=>aW) h
def aii:Go.Shelf.Ren:=⟨λ|189=>237|125=>257|257=>281|128=>300|129=>301|294=>317|295=>318|296=>319|297=>320|298=>321|299=>322|216=>323|300=>324|301=>325|328=>342|329=>333|330=>334|331=>343|332=>344|215=>326|343=>354|n=>n,λ|28=>27|3=>3|46=>240|0=>0|51=>322|53=>324|4=>4|183=>316|182=>315|131=>193|5=>5|9=>9|218=>344|222=>348|228=>356|229=>297|n=>n,λ|n=>n⟩
def Srt:Go.Proofs.Lays.n189 vi aii where
 mixed:=aW
 f125:=func257.trans (congrArg V aW)
 f128:=func300.trans (congrArg V aW)
 f129:=func301.trans (congrArg V aW)
 f189:=func237.trans (congrArg V aW)
 f215:=func326.trans (congrArg V aW)
 f216:=func323.trans (congrArg V aW)
 f257:=func281.trans (congrArg V aW)
 f294:=func317.trans (congrArg V aW)
 f295:=func318.trans (congrArg V aW)
 f296:=func319.trans (congrArg V aW)
 f297:=func320.trans (congrArg V aW)
 f298:=func321.trans (congrArg V aW)
 f299:=func322.trans (congrArg V aW)
 f300:=func324.trans (congrArg V aW)
 f301:=func325.trans (congrArg V aW)
 f328:=func342.trans (congrArg V aW)
 f329:=func333.trans (congrArg V aW)
 f330:=func334.trans (congrArg V aW)
 f331:=func343.trans (congrArg V aW)
 f332:=func344.trans (congrArg V aW)
 f343:=func354.trans (congrArg V aW)
 t0:=underlying0
 a0:=Tryz.isAgg0
 z0:=Tryz.sizeOf0
 v0:=Tryz.zeroValue0
 t3:=underlying3
 a3:=Tryz.isAgg3
 z3:=Tryz.sizeOf3
 v3:=Tryz.zeroValue3
 t4:=underlying4
 a4:=Tryz.isAgg4
 z4:=Tryz.sizeOf4
 v4:=Tryz.zeroValue4
 t5:=underlying5
 a5:=Tryz.isAgg5
 z5:=Tryz.sizeOf5
 v5:=Tryz.zeroValue5
 t9:=underlying9
 a9:=Tryz.isAgg9
 z9:=Tryz.sizeOf9
 v9:=Tryz.zeroValue9
 t28:=underlying27
 a28:=Tryz.isAgg27
 z28:=Tryz.sizeOf27
 v28:=Tryz.zeroValue27
 t46:=underlying240
 a46:=Tryz.isAgg240
 z46:=Tryz.sizeOf240
 v46:=Tryz.zeroValue240
 t51:=underlying322
 a51:=Tryz.isAgg322
 z51:=Tryz.sizeOf322
 v51:=Tryz.zeroValue322
 t53:=underlying324
 a53:=Tryz.isAgg324
 z53:=Tryz.sizeOf324
 v53:=Tryz.zeroValue324
 t131:=underlying193
 a131:=Tryz.isAgg193
 z131:=Tryz.sizeOf193
 v131:=Tryz.zeroValue193
 t182:=underlying315
 a182:=Tryz.isAgg315
 z182:=Tryz.sizeOf315
 v182:=Tryz.zeroValue315
 t183:=underlying316
 a183:=Tryz.isAgg316
 z183:=Tryz.sizeOf316
 v183:=Tryz.zeroValue316
 t218:=underlying344
 a218:=Tryz.isAgg344
 z218:=Tryz.sizeOf344
 v218:=Tryz.zeroValue344
 t222:=underlying348
 a222:=Tryz.isAgg348
 z222:=Tryz.sizeOf348
 v222:=Tryz.zeroValue348
 t228:=underlying356
 a228:=Tryz.isAgg356
 z228:=Tryz.sizeOf356
 v228:=Tryz.zeroValue356
 t229:=underlying297
 a229:=Tryz.isAgg297
 z229:=Tryz.sizeOf297
 v229:=Tryz.zeroValue297
def sE{A:Nat->Prop}{w:World}{l:aa Int}{us:aa Value}(h1:zR us=zR l*1)(h2:∀i,i<zR l->bO A w (uni.cells 3 l[i]!) ((us.drop (i*1)).take 1)):us=l.map (Value.int .i64):=by
 apply xY (by simpa using h1);intro i q1 q2;simp at q2;obtain⟨g1,g2⟩:=h2 i q2;have e:((us.drop (i*1)).take 1)[0]? =V us[i]:=by
  rw[wz aq,yF];simp[q1]
 have g3:=g2 0 (.lit (.int .i64 l[i]!)) us[i] rfl e;rw[g3.cM,yM,getElem!_pos l i q2]
def alV{A:Nat->Prop}{w:World}{l:aa Int}:∀i,i<zR l->bO A w (uni.cells 3 l[i]!) (((l.map (Value.int .i64)).drop (i*1)).take 1):=λi hi=>by
 have e:((l.map (Value.int .i64)).drop (i*1)).take 1=[Value.int .i64 l[i]!]:=by
  rw[xB,yN (by simpa using hi),List.take_succ_cons,wj,yM,getElem!_pos l i hi]
 rw[e];refine⟨rfl,λj a v q1 q2=> ?_⟩;cases j with
 |zero=>cases q1;cases q2;exact .lit _
 |succ j=>cases q1
def auU(l b:aa Int)(hb:QE l=V b):Mo vi 237 [.own 0] [(0, .row 3 l)] 1 (fK vi 237 1 (d237.pat b)):=by
 unfold QE at hb;split at hb
 case isFalse=>cases hb
 rename_i hlen;have hbl:b=l.mergeSort λx y=>J (x<=y):=(zF.inj hb).symm;have hln:zR b=zR l:=by rw[hbl,List.length_mergeSort]
 intro S;have ho:fK vi 237 1 (d237.pat b)=⟨.jf [],[(0, .row 3 b)],1⟩:=aW;show Go.Iv.Fn vi 237 [(b9.own 0).sub S] (bt.res S [(0, .row 3 l)]) _;rw[ho,dz];intro w A vs hr hd hn;obtain⟨hr1,hr2⟩:=hr;obtain⟨v,rfl⟩:∃v,vs=[v]:=List.length_eq_one_iff.1 hr1;have hv:v=S.v 0:=(hr2 0 _ v rfl rfl).cM;subst hv;generalize hv:S.v 0=v at*;have hok:=hd.1 (.row v 3 l) (by show _∈[cn.row (S.v 0) 3 l];rw[hv];exact zo.2 rfl);obtain⟨us,h1,h2,h3⟩:=hok;have aw:bt.res S [(0, .row 3 l)]=[cn.row v 3 l]:=by show [cn.row (S.v 0) 3 l]=_;rw[hv]
 have hus:us=l.map (Value.int .i64):=sE h1.1 h3;rw[aw]at hd hn ⊢;have fin:∀w':World,gv w' v 3 1 (zR b) (b.map (Value.int .i64))->Kp (bC [cn.row v 3 l]) w w'->∃v_1 av B',Ending.returned (Value.tuple #[])=Ending.returned v_1/\
   (∃S',pU 1 S S'/\av=(b9.jf (dh:=uni.dh) []).sub S'/\List.Perm B' (bt.res S' [(0, .row 3 b)]))/\Tr ⟨w,A,bC [cn.row v 3 l]⟩ (bC [cn.row v 3 l]) [cn.row v 3 l] w B' w'/\Rel (al ⟨w,A,bC [cn.row v 3 l]⟩ B') w' av v_1:=λw' hrow hk=>by
  have hbk:bC [cn.row v 3 b]=bC [cn.row v 3 l]:=rfl;have hal:∀x,al ⟨w,A,bC [cn.row v 3 l]⟩ [cn.row v 3 l] x->al ⟨w,A,bC [cn.row v 3 l]⟩ [cn.row v 3 b] x:=λx h=>h;refine⟨_, .jf [],[cn.row v 3 b],rfl,⟨S,λi _=>⟨rfl,rfl⟩,by simp only[b9.sub,yU],by show List.Perm _ [cn.row (S.v 0) 3 b];rw[hv]⟩,⟨⟨hk,?_,?_,?_⟩,hk,λx _ h=>⟨hal x h,h.2⟩⟩,Rel.jf [] [] rfl (λj a v q=>by cases q)⟩
  ·intro r hr;rw[zo.1 hr];exact⟨b.map (Value.int .i64),hrow,λi _=>rfl,alV⟩
  ·rw[hbk];exact hn
  ·intro x hx;exact .inl hx
 obtain⟨h1l,hcase⟩:=h1;rcases hcase with ⟨p,hvp,hl0⟩|⟨gb,cap,cur,hvp,hg,q1,q2,q3,q4⟩
 ·have hl:l=[]:=xG.1 hl0;have hbn:b=[]:=by rw[hbl,hl,List.mergeSort_nil]
  subst hvp;refine(Go.Proofs.Any.slices_Sort_int_none Srt p 0 w).mono λe w' he=> ?_;obtain⟨rfl,rfl⟩:=he;refine fin w' ?_ (Kp.refl _ _);rw[hbn];exact⟨rfl, .inl ⟨p,rfl,rfl⟩⟩
 ·subst hvp;have hgs:gb<w.heap.size:=(y9.1 hg).1;have q4:cur.toList.take (zR l*1)=us:=q4;have q3:cur.size=(cap+1)*1:=q3;rw[xB]at q4;have q1:zR l<=cap+1:=q1;have hbc:zR b<=cap+1:=by rw[hln];exact q1
  have hH:=holds_of_blockI (ss:=l) hg (by rw[q4,hus]);refine(Go.Proofs.Any.slices_Sort_int Srt gb 0 (cap+1) l w hH hgs aq).mono λe w' he=> ?_;obtain⟨rfl,n,os,rfl⟩:=he;rw[<-hbl];obtain⟨k1,k2,k3,k4,k5⟩:=grownBy_sortedI (w:=w) (g:=gb) (n:=n) (os:=os) b.toArray;refine fin _ ?_ ⟨k1,k2,k3,Nat.le_add_right _ _,k4,λk hk hX=>k5 k hk (λh=>hX ?_)⟩
  ·refine⟨by simp, .inr ⟨gb,cap,_,by rw[hln];rfl,heap_sortedI _ hg,hbc,q2,by simp[Go.Sort.putCells,q3],?_⟩⟩;rw[xB];exact take_putCellsI cur b (by rw[q3,xB];exact hbc)
  ·cases h;exact bS.2 ⟨_,zo.2 rfl,rfl⟩
def aAO:anQ:=λg b hb=>auU g.2.1 b hb
abbrev E35:=aa Int
def d35:Td 0 E35:= .c [] [2] (.t (bX.s 2 [] 3) (.c [] [2] (.r 0 1 (ec 2 (qo 0) en) (sr 0 3 sn) (λz=>z.2.1) (λx=>(((),()),(x,()))))))
def A35:=(lc (ql 3) ln)
def WK(a0:aa Int):af E35:=if zR a0<=1073741824 then V a0 else I
def arv:fe vi dw 0 300 35 .no:=b6 (l:=[]) func35 (bM aW) aW aH
def aGi(x:Int)(xs:aa Int):bV vi dw 300 .no 35 [.sl 3 (x::xs)] [] 0 d35.rd=if([]++(x::xs)).length<=1073741824 then V ([]++(x::xs))else I:=aW
def aHg(c:Nat):bV vi dw 300 .no 35 [.lit (.slice I 0 c)] [] 0 d35.rd=V []:=aW
def aHZ(a:Addr)(c:Nat):bV vi dw 300 .no 35 [.lit (.slice (V a) 0 c)] [] 0 d35.rd=V []:=aW
def h35:HL vi 35 A35 d35 (λg=>WK g.1):=λg r h=>by
 obtain⟨a0,_⟩:=g;have h:WK a0=V r:=h;cases a0 with
 |cons x xs=>exact(jQ (out:=λp=>fK vi 35 0 (d35.pat p)) (p:=r) aV arv d35.ok (λp=>aW) (iG aW) (ij aW) ((aGi x xs).trans (by rw[yz];exact h))).2
 |nil=>
  cases h;exact J7 (λc=>(jQ (out:=λp=>fK vi 35 0 (d35.pat p)) (p:=[]) aV arv d35.ok (λp=>aW) (iG aW) (ij aW) (aHg c)).2) (λa c=>(jQ (out:=λp=>fK vi 35 0 (d35.pat p)) (p:=[]) aV arv d35.ok (λp=>aW) (iG aW) (ij aW) (aHZ a c)).2)
def e35:=eL vi 35 G A35 d35 (λg=>WK g.1)
def uG{F:bq}(h:bA vi F):bA vi (e35 F):=ew (sc:=oF) di h35 ⟨_,func35,aW,aW⟩ (λ_=>aW) (λ_=>aW) h
structure oK where
 t21:List Int
 (t22 t23:Int)
 (b0 b1 b2:aL)
def R3:Td 0 oK:= .c [] [2,4,7,21,22,23] (.r 0 4 (ec 2 (qp 0 0) (ec 4 (qp 1 0) (ec 7 (qp 2 0) (ec 21 (qo 3) (ec 22 aN (ec 23 aN en)))))) (sb 0 34 (lg 34) (sb 1 34 (lg 34) (sb 2 34 (lg 34) (sr 3 3 sn)))) (λz=>⟨z.q.1,z.1.q.1,z.1.q.2.1,z.2.1,z.t.1,z.t.2.1⟩) (λx=>(((),(),(),(),x.t22,x.t23,()),(x.b0,x.b1,x.b2,x.t21,()))))
def AZ(p:oK):af (af oK):=
 bif J (p.t23<p.t22)then if 0<=p.t23/\p.t23<zR p.t21 then if 3=3/\zD p.t23<zR p.t21 then bif bif ji p.t21[zD p.t23]! then G else O then V (I)else match C2 p.b0 p.t21[zD p.t23]! with|I=>I|V r1=>bif bif fC r1.fst then G else O then match mH p.b2 (iq p.t21[zD p.t23]!)with|I=>I|V r2=>V (V (oK.mk p.t21 p.t22 (aj (p.t23+1)) r1.snd p.b1 r2))else V (V (oK.mk p.t21 p.t22 (aj (p.t23+1)) r1.snd p.b1 p.b2))else I else I else V (I)
def KK:=bI (AZ)
abbrev ayr:=aL×Int
def d161:Td 0 ayr:= .c [] [4,5] (.r 0 1 (ec 4 (qp 0 0) (ec 5 aN en)) (sb 0 34 (lg 34) sn) (λz=>(z.2.1,z.1.2.1)) (λx=>(((),x.2,()),(x.1,()))))
def MV(a0:aL)(a1:aa Int):af ayr:=
 match ug a0 with|I=>I|V r3=>bif bif r3 then G else O then V (aL.mk 0 0 0,1)else match WK a1 with|I=>I|V r4=>match QE r4 with|I=>I|V r5=>match KK (oK.mk r5 (↑(zR r5):Int) 0 a0 (aL.mk 0 0 0) jC)with|I=>I|V r6=>bif J (r6.t23<r6.t22)then if 0<=r6.t23/\r6.t23<zR r6.t21 then if 3=3/\zD r6.t23<zR r6.t21 then bif bif ji r6.t21[zD r6.t23]! then G else O then V (aL.mk 0 0 0,3)else match C2 r6.b0 r6.t21[zD r6.t23]! with|I=>I|V r7=>bif bif fC r7.fst then G else O then match mH r6.b2 (iq r6.t21[zD r6.t23]!)with|I=>I|V r8=>I else I else I else I else match mH r6.b2 r6.b0 with|I=>I|V r9=>V (r9,0)
def ax4:=eL vi 161 G (lc (qg 34) (lc (ql 3) ln)) d161 (λg=>MV g.1 g.2.1)
def ahi:EO ax4:=λh=>kL (an:=(noTwo (noTwo (noTwo (noTwo (noTwo (.two (noTwo (R3.lp KK .no)) .no))))))) (l:=[(aZ f161 0,(R3.lp KK .no))]) func161 (aaz aAO (ko (rX (sx (jv (K0 (AF (lF (uG aV))))))))) (aA (aO R3) aH) h
def PV{l:aa Int}(h:gG l=O):∀{i j:Nat},i<j->j<zR l->l[i]! <l[j]! :=by
 intro i j hij hj;induction j with
 |zero=>omega
 |succ j ih=>
  have h1:=(jR l).1 h j hj;by_cases hi:i=j
  ·subst hi;exact h1
  ·have:=ih aq aq;omega
def Nv{l:aa Int}(h:gG l=O):l.mergeSort (λx y=>J (x<=y))=l:=by
 apply List.mergeSort_of_pairwise;rw[List.pairwise_iff_getElem];intro i j hi hj hij;have:=PV h hij hj;rw[getElem!_pos l i hi,getElem!_pos l j hj]at this;simp;omega
def G1:aa Int->Int->Int
 |[],x=>x
 |b::l,x=>if x<=b then b else G1 l x
def pF(l:aa Int)(b x:Int):G1 (l++[b]) x=if(∃c∈l,x<=c)then G1 l x else if x<=b then b else x:=by
 induction l with
 |nil=>simp[G1]
 |cons c l ih=>
  show (if x<=c then c else G1 (l++[b]) x)=_;by_cases h:x<=c
  ·rw[bJ h,bJ ⟨c,zk ..,h⟩];show c=if x<=c then c else G1 l x
   rw[bJ h]
  ·rw[bN h,ih];show _=if _ then(if x<=c then c else G1 l x)else _
   rw[bN h];by_cases k:∃c∈l,x<=c
   ·obtain⟨d,hd,hx⟩:=k;rw[bJ ⟨d,hd,hx⟩,bJ ⟨d,zI _ hd,hx⟩]
   ·rw[bN k,bN (show ¬∃d∈c::l,x<=d from λ⟨d,hd,hx⟩=>by
     rcases zy.mp hd with rfl|hd
     ·exact h hx
     ·exact k ⟨d,hd,hx⟩)]
def ams{l:aa Int}{x:Int}(h:∃c∈l,x<=c):G1 l x∈l:=by
 induction l with
 |nil=>obtain⟨c,hc,_⟩:=h;cases hc
 |cons c l ih=>
  show (if x<=c then c else G1 l x)∈_;by_cases k:x<=c
  ·rw[bJ k];exact zk ..
  ·rw[bN k];obtain⟨d,hd,hx⟩:=h;rcases zy.mp hd with rfl|hd
   ·exact ep hx k
   ·exact zI _ (ih ⟨d,hd,hx⟩)
def KL{l:aa Int}{x:Int}(h:¬∃c∈l,x<=c):G1 l x=x:=by
 induction l with
 |nil=>rfl
 |cons c l ih=>
  show (if x<=c then c else G1 l x)=_;rw[bN (λk=>h ⟨c,zk ..,k⟩),ih (λ⟨d,hd,hx⟩=>h ⟨d,zI _ hd,hx⟩)]
def uS(a:aL)(l:aa Int)(y:Int):Prop:=∃x,bU a x/\y=G1 l x
def YR{a:aL}(h:NV a){l:aa Int}(hl:∀b∈l,cC b){y:Int}(k:uS a l y):cC y:=by
 obtain⟨x,hx,rfl⟩:=k;by_cases c:∃c∈l,x<=c
 ·exact hl _ (ams c)
 ·rw[KL c];exact Zc h hx
structure ME (a:aL) (l:List Int) (i:Nat) (s:aL×aL):Prop where
 rest:Ex (λx=>bU a x/\∀b∈l.take i,b<x) s.1
 out:ni (λy=>∃x,bU a x/\(∃b∈l.take i,x<=b)/\y=G1 (l.take i) x) s.2
 v:NV s.2
def ME.step{a:aL}{l:aa Int}{i:Nat}{s:aL×aL}(hi:i<zR l)(hl:∀b∈l,cC b)(h:ME a l i s):
  ∃u r,C2 s.1 l[i]! =V (u,r)/\NV u/\(fC u=O->ME a l (i+1) (r,s.2))/\(fC u=G->ME a l (i+1) (r,cF s.2 (eF l[i]!))):=by
 obtain⟨u,r,e,p1,p2⟩:=Aa h.rest.1 l[i]!;have hb:=hl _ (bu hi);have mu:∀x,bU u x↔bU a x/\(∀b∈l.take i,b<x)/\x<=l[i]! :=λx=>
  ⟨λk=>let ⟨k1,k2⟩:=(p1.2 x).mp k;let ⟨k3,k4⟩:=(h.rest.2 x).mp k1;⟨k3,k4,k2⟩,λ⟨k1,k2,k3⟩=>(p1.2 x).mpr ⟨(h.rest.2 x).mpr ⟨k1,k2⟩,k3⟩⟩
 have tk:l.take (i+1)=l.take i++[l[i]!]:=bG hi;have mr:Ex (λx=>bU a x/\∀b∈l.take (i+1),b<x) r:=⟨p2.1,λx=>by
  rw[tk];constructor
  ·intro k;obtain⟨k1,k2⟩:=(p2.2 x).mp k;obtain⟨k3,k4⟩:=(h.rest.2 x).mp k1;refine⟨k3,λb hb=> ?_⟩;rcases zP.mp hb with hb|hb
   ·exact k4 b hb
   ·rw[zo.mp hb];exact k2
  ·rintro⟨k1,k2⟩;exact(p2.2 x).mpr ⟨(h.rest.2 x).mpr ⟨k1,λb hb=>k2 b (yI _ hb)⟩,k2 _ (yJ _ (zo.mpr rfl))⟩⟩
 have eq:∀y,((∃x,bU a x/\(∃b∈l.take i,x<=b)/\y=G1 (l.take i) x)\/(y=l[i]!/\∃x,bU u x))↔(∃x,bU a x/\(∃b∈l.take (i+1),x<=b)/\y=G1 (l.take (i+1)) x):=λy=>by
  rw[tk];constructor
  ·rintro(⟨x,k1,⟨b,hb,k2⟩,rfl⟩|⟨rfl,x,hx⟩)
   ·exact⟨x,k1,⟨b,yI _ hb,k2⟩,by rw[pF,bJ ⟨b,hb,k2⟩]⟩
   ·obtain⟨k1,k2,k3⟩:=(mu x).mp hx;exact⟨x,k1,⟨_,yJ _ (zo.mpr rfl),k3⟩,by rw[pF,bN (λ⟨b,hb,k⟩=>by have:=k2 b hb;omega),bJ k3]⟩
  ·rintro⟨x,k1,⟨b,hb,k2⟩,rfl⟩;by_cases c:∃b∈l.take i,x<=b
   ·exact .inl ⟨x,k1,c,by rw[pF,bJ c]⟩
   ·have k3:x<=l[i]! :=by
     rcases zP.mp hb with hb|hb
     ·exact ep ⟨b,hb,k2⟩ c
     ·rw[<-zo.mp hb];exact k2
    refine .inr ⟨by rw[pF,bN c,bJ k3],x,(mu x).mpr ⟨k1,λb hb=> ?_,k3⟩⟩;rcases Int.lt_or_le b x with q|q
    ·exact q
    ·exact ep ⟨b,hb,q⟩ c
 obtain⟨t1,t2⟩:=nU h.out h.v hb (Ex.rep (P:=bU u) ⟨p1.1,λx=>Iff.rfl⟩) p1.1;refine⟨u,r,e,p1.1,λk=>⟨mr,(t1 k).congr eq,h.v⟩,λk=>⟨mr,(t2 k).congr eq,fh h.v (qu hb)⟩⟩
def aq9{l:aa Int}(h:zR l<=1073741824):WK l=V l:=by unfold WK;rw[bJ h]
def aee{a:aL}(h:NV a){l:aa Int}(hr:gG l=O)(hn:zR l<=1000000)(hl:∀b∈l,cC b):∃c,MV a l=V (c,0)/\ni (uS a l) c:=by
 unfold MV;rw[eX,eo h];simp only[cU];rw[aq9 aq];simp only;rw[show QE l=V l from by unfold QE;rw[gV,Nv hr]];simp only;obtain⟨⟨r,o⟩,e1,hI⟩:=cH (rnd:=AZ) (zR l) (λi (s:aL×aL)=>oK.mk l (zR l) (i:Nat) s.1 (aL.mk 0 0 0) s.2) (ME a l)
  (λi s hi hI=>by
   obtain⟨u,r,e,vu,q1,q2⟩:=hI.step hi hl;have hb:=hl _ (bu hi);have hbb:ji l[i]! =O:=by rw[j6];exact b7 hb
   unfold AZ;simp only;rw[om,cI,gV,zg,bJ ⟨trivial,hi⟩,hbb];simp only[cU];rw[e];simp only;rw[jG hi hn];cases c:fC u with
   |true=>exact⟨(r,s.2),rfl,q1 c⟩
   |false=>
    simp only[cU];rw[j8 hI.v (.inr (show NN (iq l[i]!)from NN.one hb.1 hb.2))];exact⟨(r,cF s.2 (eF l[i]!)),rfl,q2 c⟩)
  (λs hI=>by
   unfold AZ;simp only;rw[fO];rfl) (b:=(a,cL)) ⟨⟨h,λx=>⟨λk=>⟨k,λb hb=>by simp at hb⟩,λk=>k.1⟩⟩, .none λx ⟨_,_,⟨b,hb,_⟩,_⟩=>by simp at hb, .inl rfl⟩
 have e1:bI AZ (oK.mk l (zR l) 0 a (aL.mk 0 0 0) jC)=V (oK.mk l (zR l) (zR l:Nat) r (aL.mk 0 0 0) o):=e1;rw[show KK=bI AZ from rfl,e1];simp only;rw[fO,cv,j8 hI.v hI.rest.1];refine⟨_,rfl,(hI.out.join hI.rest.rep hI.v hI.rest.1).congr λy=> ?_⟩;rw[zH];constructor
 ·rintro(⟨x,k1,_,k3⟩|⟨k1,k2⟩)
  ·exact⟨x,k1,k3⟩
  ·exact⟨y,k1,(KL λ⟨b,hb,k⟩=>by have:=k2 b hb;omega).symm⟩
 ·rintro⟨x,k1,k2⟩;by_cases c:∃b∈l,x<=b
  ·exact .inl ⟨x,k1,c,k2⟩
  ·right;rw[KL c]at k2;subst k2;exact⟨k1,λb hb=>by
    rcases Int.lt_or_le b y with q|q
    ·exact q
    ·exact ep ⟨b,hb,q⟩ c⟩
structure kT where
 t1:List Int
 t9:Int
 t10:Bool
 t11:Int
 (b0 b1 b2:aL)
def S9:Td 0 kT:= .c [] [1,4,7,8,9,10,11] (.r 0 3 (ec 1 (ql 3) (ec 4 (qp 0 0) (ec 7 (qp 1 0) (ec 8 (qp 2 0) (ec 9 aN (ec 10 qb (ec 11 aN en))))))) (sb 0 34 (lg 34) (sb 1 34 (lg 34) (sb 2 34 (lg 34) sn))) (λz=>⟨z.1.1,z.1.q.1,z.1.q.2.1,z.1.q.t.1,z.2.1,z.t.1,z.t.2.1⟩) (λx=>((x.t1,(),(),(),x.t9,x.t10,x.t11,()),(x.b0,x.b1,x.b2,()))))
def L7(p:kT):af (af kT):=
 bif J (p.t11<zR p.t1)then if 0<=p.t11/\p.t11<zR p.t1 then bif J (((p.t1,(),(),(),p.t9,p.t10,p.t11,()),p.b0,p.b1,p.b2,()).snd.snd.snd.fst.ah<=((p.t1,(),(),(),p.t9,p.t10,p.t11,()),p.b0,p.b1,p.b2,()).fst.fst[((p.t1,(),(),(),p.t9,p.t10,p.t11,()),p.b0,p.b1,p.b2,()).fst.snd.snd.snd.snd.snd.snd.fst.toNat]!)then bif bif p.t10 then G else O then if 0<=p.t11/\p.t11<zR p.t1 then V (V (kT.mk p.t1 p.t1[zD p.t11]! O (aj (p.t11+1)) p.b0 p.b1 p.b2))else I else if 0<=p.t11/\p.t11<zR p.t1 then bif J (((p.t1,(),(),(),p.t9,p.t10,p.t11,()),p.b0,p.b1,p.b2,()).fst.fst[((p.t1,(),(),(),p.t9,p.t10,p.t11,()),p.b0,p.b1,p.b2,()).fst.snd.snd.snd.snd.snd.snd.fst.toNat]! <((p.t1,(),(),(),p.t9,p.t10,p.t11,()),p.b0,p.b1,p.b2,()).fst.snd.snd.snd.snd.fst)then if 0<=p.t11/\p.t11<zR p.t1 then V (V (kT.mk p.t1 p.t1[zD p.t11]! O (aj (p.t11+1)) p.b0 p.b1 p.b2))else I else V (V (kT.mk p.t1 p.t9 p.t10 (aj (p.t11+1)) p.b0 p.b1 p.b2))else I else V (V (kT.mk p.t1 p.t9 p.t10 (aj (p.t11+1)) p.b0 p.b1 p.b2))else I else V (I)
def GG:=bI (L7)
structure mX where
 t1:List Int
 (b0 b1 b2:aL)
def Ti:Td 0 mX:= .c [] [1,4,7,8] (.r 0 3 (ec 1 (ql 3) (ec 4 (qp 0 0) (ec 7 (qp 1 0) (ec 8 (qp 2 0) en)))) (sb 0 34 (lg 34) (sb 1 34 (lg 34) (sb 2 34 (lg 34) sn))) (λz=>⟨z.1.1,z.2.1,z.t.1,z.t.2.1⟩) (λx=>((x.t1,(),(),(),()),(x.b0,x.b1,x.b2,()))))
def tK(p:mX):af (af mX):=
 bif bif mb p.b2 then G else O then match GG (kT.mk p.t1 0 G 0 p.b0 p.b1 p.b2)with|I=>I|V r1=>bif J (r1.t11<zR r1.t1)then if 0<=r1.t11/\r1.t11<zR r1.t1 then bif J (((r1.t1,(),(),(),r1.t9,r1.t10,r1.t11,()),r1.b0,r1.b1,r1.b2,()).snd.snd.snd.fst.ah<=((r1.t1,(),(),(),r1.t9,r1.t10,r1.t11,()),r1.b0,r1.b1,r1.b2,()).fst.fst[((r1.t1,(),(),(),r1.t9,r1.t10,r1.t11,()),r1.b0,r1.b1,r1.b2,()).fst.snd.snd.snd.snd.snd.snd.fst.toNat]!)then bif bif r1.t10 then G else O then if 0<=r1.t11/\r1.t11<zR r1.t1 then I else I else if 0<=r1.t11/\r1.t11<zR r1.t1 then bif J (((r1.t1,(),(),(),r1.t9,r1.t10,r1.t11,()),r1.b0,r1.b1,r1.b2,()).fst.fst[((r1.t1,(),(),(),r1.t9,r1.t10,r1.t11,()),r1.b0,r1.b1,r1.b2,()).fst.snd.snd.snd.snd.snd.snd.fst.toNat]! <((r1.t1,(),(),(),r1.t9,r1.t10,r1.t11,()),r1.b0,r1.b1,r1.b2,()).fst.snd.snd.snd.snd.fst)then if 0<=r1.t11/\r1.t11<zR r1.t1 then I else I else I else I else I else I else bif bif r1.t10 then G else O then match lE r1.b1 r1.b2 with|I=>I|V r2=>V (I)else match lE r1.b1 (aL.mk r1.t9 r1.t9 0)with|I=>I|V r3=>match ZC r1.b2 r1.t9 with|I=>I|V r4=>V (V (mX.mk r1.t1 r1.b0 r3 r4))else V (I)
def aet:An:=(noTwo (noTwo (.two (noTwo (S9.lp GG .no)) .no)))
def Ji:=bI (tK)
structure qZ where
 t1:List Int
 t6:Int
 (b0 b1:aL)
def QI:Td 0 qZ:= .c [] [1,2,4,6] (.r 0 2 (ec 1 (ql 3) (ec 2 (qp 0 0) (ec 4 (qp 1 0) (ec 6 aN en)))) (sb 0 34 (lg 34) (sb 1 34 (lg 34) sn)) (λz=>⟨z.1.1,z.1.t.2.1,z.2.1,z.t.1⟩) (λx=>((x.t1,(),(),x.t6,()),(x.b0,x.b1,()))))
def Bi(p:qZ):af (af qZ):=
 bif J (p.t6<zR p.t1)then if 0<=p.t6/\p.t6<zR p.t1 then bif bif pq p.t1[zD p.t6]! then G else O then V (I)else V (V (qZ.mk p.t1 (aj (p.t6+1)) p.b0 p.b1))else I else V (I)
def Jn:=bI (Bi)
abbrev ayW:=aL×Int
def d172:Td 0 ayW:= .c [] [4,5] (.r 0 1 (ec 4 (qp 0 0) (ec 5 aN en)) (sb 0 34 (lg 34) sn) (λz=>(z.2.1,z.1.2.1)) (λx=>(((),x.2,()),(x.1,()))))
def MZ(a0:aL)(a1:aa Int):af ayW:=
 match ZF a0 with|I=>I|V r5=>bif bif r5 then G else O then V (aL.mk 0 0 0,1)else match Jn (qZ.mk a1 0 a0 (aL.mk 0 0 0))with|I=>I|V r6=>bif J (r6.t6<zR r6.t1)then if 0<=r6.t6/\r6.t6<zR r6.t1 then bif bif pq r6.t1[zD r6.t6]! then G else O then V (aL.mk 0 0 0,3)else I else I else match Ji (mX.mk r6.t1 r6.b1 rN r6.b0)with|I=>I|V r7=>bif bif mb r7.b2 then G else O then match GG (kT.mk r7.t1 0 G 0 r7.b0 r7.b1 r7.b2)with|I=>I|V r8=>bif J (r8.t11<zR r8.t1)then if 0<=r8.t11/\r8.t11<zR r8.t1 then bif J (((r8.t1,(),(),(),r8.t9,r8.t10,r8.t11,()),r8.b0,r8.b1,r8.b2,()).snd.snd.snd.fst.ah<=((r8.t1,(),(),(),r8.t9,r8.t10,r8.t11,()),r8.b0,r8.b1,r8.b2,()).fst.fst[((r8.t1,(),(),(),r8.t9,r8.t10,r8.t11,()),r8.b0,r8.b1,r8.b2,()).fst.snd.snd.snd.snd.snd.snd.fst.toNat]!)then bif bif r8.t10 then G else O then if 0<=r8.t11/\r8.t11<zR r8.t1 then I else I else if 0<=r8.t11/\r8.t11<zR r8.t1 then bif J (((r8.t1,(),(),(),r8.t9,r8.t10,r8.t11,()),r8.b0,r8.b1,r8.b2,()).fst.fst[((r8.t1,(),(),(),r8.t9,r8.t10,r8.t11,()),r8.b0,r8.b1,r8.b2,()).fst.snd.snd.snd.snd.snd.snd.fst.toNat]! <((r8.t1,(),(),(),r8.t9,r8.t10,r8.t11,()),r8.b0,r8.b1,r8.b2,()).fst.snd.snd.snd.snd.fst)then if 0<=r8.t11/\r8.t11<zR r8.t1 then I else I else I else I else I else I else bif bif r8.t10 then G else O then match lE r8.b1 r8.b2 with|I=>I|V r9=>V (r9,0)else match lE r8.b1 (aL.mk r8.t9 r8.t9 0)with|I=>I|V r10=>match ZC r8.b2 r8.t9 with|I=>I|V r11=>I else V (r7.b1,0)
def ayg:=eL vi 172 G (lc (qg 34) (lc (ql 3) ln)) d172 (λg=>MZ g.1 g.2.1)
def ak9:EO ayg:=λh=>kL (an:=(noTwo (noTwo (.two (noTwo (QI.lp Jn .no)) (noTwo (.two (Ti.lp Ji aet) .no)))))) (l:=[(aZ f172 0,(QI.lp Jn .no)),(aZ f172 1,(Ti.lp Ji aet)),(aZ f172 2,(S9.lp GG .no))]) func172 (sj (sF (lu (mQ (uo (Tb aV)))))) (aA (aO QI) (aA (aO Ti) (aA (aO S9) aH))) h
def Uj{l:aa Int}(hr:gG l=O)(hn:zR l<=1000000)(b0 b1 c:aL):∃best found,GG (kT.mk l 0 G 0 b0 b1 c)=V (kT.mk l best found (zR l) b0 b1 c)/\
  ((found=G/\∀j,j<zR l->l[j]! <c.ah)\/(found=O/\∃j,j<zR l/\best=l[j]!/\c.ah<=l[j]!/\∀k,k<j->l[k]! <c.ah)):=by
 obtain⟨⟨best,found⟩,e1,hI⟩:=cH (rnd:=L7) (zR l) (λi (s:Int×Bool)=>kT.mk l s.1 s.2 (i:Nat) b0 b1 c)
  (λi s=>(s.2=G/\∀j,j<i->l[j]! <c.ah)\/(s.2=O/\∃j,j<i/\s.1=l[j]!/\c.ah<=l[j]!/\∀k,k<j->l[k]! <c.ah))
  (λi s hi hI=>by
   have hci:(0:Int)<=(i:Int)/\(i:Int)<(zR l:Int):=aq;unfold L7;simp only;rw[b7 hci.2,cI,bJ hci,zg,jG hi hn];by_cases h1:c.ah<=l[i]!
   ·rw[b7 h1,cI];rcases hI with ⟨h2,h3⟩|⟨h2,j,h3,h4,h5,h6⟩
    ·rw[h2];simp only[cU];rw[bJ hci];exact⟨(l[i]!,O),rfl, .inr ⟨rfl,i,aq,rfl,h1,h3⟩⟩
    ·rw[h2];simp only[cU];have hlt:l[j]! <l[i]! :=PV hr h3 hi;rw[bJ hci,bY (show ¬l[i]! <s.1 by omega),cv];exact⟨(s.1,O),rfl, .inr ⟨rfl,j,aq,h4,h5,h6⟩⟩
   ·rw[bY h1,cv];refine⟨s,rfl,?_⟩;rcases hI with ⟨h2,h3⟩|⟨h2,j,h3,h4⟩
    ·refine .inl ⟨h2,λj hj=> ?_⟩;rcases xo.mp hj with k|rfl
     ·exact h3 j k
     ·omega
    ·exact .inr ⟨h2,j,aq,h4⟩)
  (λs hI=>by
   unfold L7;simp only;rw[fO];rfl) (b:=((0:Int),G)) (.inl ⟨rfl,λj hj=>ep hj (y8 _)⟩)
 exact⟨best,found,e1,hI⟩
def Y4{l:aa Int}{j:Nat}{x:Int}(hj:j<zR l)(h1:∀k,k<j->l[k]! <x)(h2:x<=l[j]!):G1 l x=l[j]! :=by
 induction l generalizing j with
 |nil=>exact ep hj (y8 _)
 |cons b l ih=>
  cases j with
  |zero=>exact bJ h2
  |succ j=>
   have h0:b<x:=h1 0 aq;show (if x<=b then b else G1 l x)=_;rw[AJ];exact ih (j:=j) (by simpa using hj) (λk hk=>h1 (k+1) aq) h2
def get_of_mem{l:aa Int}{b:Int}(h:b∈l):∃j,j<zR l/\l[j]! =b:=by
 obtain⟨j,hj,rfl⟩:=y5 h;exact⟨j,hj,getElem!_pos l j hj⟩
def abi{a:aL}(h:NV a){l:aa Int}(hr:gG l=O)(hn:zR l<=1000000)(hl:∀b∈l,cC b):∃c,MZ a l=V (c,0)/\ni (uS a l) c:=by
 unfold MZ;rw[gj,eo h];simp only[cU];have e0:bI Bi (qZ.mk l 0 a (aL.mk 0 0 0))=V (qZ.mk l (zR l:Nat) a (aL.mk 0 0 0)):=MI (rnd:=Bi) (λi=>qZ.mk l (i:Nat) a (aL.mk 0 0 0)) (zR l) (λi hi=>by
  unfold Bi;simp only;rw[om,cI,gV,zg,DV,b7 (hl _ (bu hi)),jG hi hn];rfl) (λr=>by
  unfold Bi;simp only;rw[fO];intro h;cases h)
 rw[show Jn=bI Bi from rfl,e0];simp only;rw[fO,cv];obtain⟨z,e1,⟨o,r,T,rfl,hr1,ho,vo⟩,hs⟩:=mq (rnd:=tK) (λp=>∃o r T,p=mX.mk l (aL.mk 0 0 0) o r/\Ex (λx=>bU a x/\T<x) r/\ni (λy=>∃x,bU a x/\x<=T/\y=G1 l x) o/\NV o)
  (λp=>if mb p.b2=O then 0 else(1099511627777-p.b2.ah).toNat) (λp p' ⟨o,r,T,hp,h1,h2,h3⟩ hq=>by
  subst hp;have hq:tK (mX.mk l (aL.mk 0 0 0) o r)=V (V p'):=hq;unfold tK at hq;simp only at hq;rcases h1.1 with rfl|vr
  ·rw[ue]at hq;cases hq
  ·rw[gZ vr]at hq;simp only[cU]at hq;obtain⟨best,found,e2,h4⟩:=Uj hr hn (aL.mk 0 0 0) o r;rw[e2]at hq;simp only at hq;rw[fO,cv]at hq;rcases h4 with ⟨rfl,h4⟩|⟨rfl,j,hj,rfl,h5,h6⟩
   ·simp only[cU]at hq;rw[gF h3 h1.1]at hq;cases hq
   ·simp only[cU]at hq;have hb:=hl _ (bu hj);obtain⟨u,f1,s1⟩:=Bx h1.1 l[j]!;rw[gF h3 (.inr (show NN (aL.mk l[j]! l[j]! 0)from NN.one hb.1 hb.2)),f1]at hq;simp only[zF.injEq]at hq;subst hq;have lo1:=(h1.2 r.ah).mp ⟨zw _,vr.le,⟨0,aq⟩⟩;refine⟨⟨_,_,l[j]!,rfl,⟨s1.1,λx=> ?_⟩,?_,fh h3 (qu hb)⟩,?_⟩
    ·constructor
     ·intro k;obtain⟨k1,k2⟩:=(s1.2 x).mp k;exact⟨((h1.2 x).mp k1).1,k2⟩
     ·rintro⟨k1,k2⟩;exact(s1.2 x).mpr ⟨(h1.2 x).mpr ⟨k1,aq⟩,k2⟩
    ·refine(h2.join (KR l[j]!) h3 (qu hb)).congr λy=> ?_;have mid:∀x,bU a x->T<x->x<=l[j]!->G1 l x=l[j]! :=λx k1 k2 k3=>by
      have k4:=(h1.2 x).mpr ⟨k1,k2⟩;have:=k4.1;exact Y4 hj (λk hk=>by have:=h6 k hk;omega) k3
     constructor
     ·rintro(⟨x,k1,k2,k3⟩|rfl)
      ·exact⟨x,k1,aq,k3⟩
      ·exact⟨r.ah,lo1.1,h5,(mid _ lo1.1 lo1.2 h5).symm⟩
     ·rintro⟨x,k1,k2,rfl⟩;by_cases c:x<=T
      ·exact .inl ⟨x,k1,c,rfl⟩
      ·exact .inr (mid x k1 aq k2)
    ·show (if mb u=O then 0 else(1099511627777-u.ah).toNat)<(if mb r=O then 0 else(1099511627777-r.ah).toNat);rw[bN (show ¬mb r=O by rw[gZ vr];decide)];have:=vr.le;have:=vr.hi;rcases s1.1 with rfl|vu
     ·rw[bJ ue];omega
     ·rw[bN (show ¬mb u=O by rw[gZ vu];decide)];have:=(s1.2 u.ah).mp ⟨zw _,vu.le,⟨0,aq⟩⟩;have:=this.2;omega) ⟨cL,a,a.ah-1,rfl,⟨h,λx=>⟨λk=>⟨k,by have:=k.1;omega⟩,λk=>k.1⟩⟩, .none λy ⟨x,k1,k2,_⟩=>by have:=k1.1;omega, .inl rfl⟩
 rw[show Ji=bI tK from rfl,show mX.mk l (aL.mk 0 0 0) rN a=mX.mk l (aL.mk 0 0 0) cL a from rfl,e1];simp only;rcases hr1.1 with rfl|vr
 ·rw[ue];refine⟨o,rfl,ho.congr λy=>⟨λ⟨x,k1,_,k3⟩=>⟨x,k1,k3⟩,λ⟨x,k1,k3⟩=>⟨x,k1,?_,k3⟩⟩⟩;rcases Int.lt_or_le T x with q|q
  ·exact ep ((hr1.2 x).mpr ⟨k1,q⟩) C5
  ·exact q
 ·rw[gZ vr];simp only[cU];obtain⟨best,found,e2,h4⟩:=Uj hr hn (aL.mk 0 0 0) o r;rw[e2];simp only;rw[fO,cv];rcases h4 with ⟨rfl,h4⟩|⟨rfl,j,hj,rfl,h5,h6⟩
  ·simp only[cU];rw[gF vo hr1.1];refine⟨_,rfl,(ho.join hr1.rep vo hr1.1).congr λy=> ?_⟩;have big:∀x,bU a x->T<x->G1 l x=x:=λx k1 k2=>KL λ⟨b,hb,k3⟩=>by
    obtain⟨j,hj,rfl⟩:=get_of_mem hb;have:=((hr1.2 x).mpr ⟨k1,k2⟩).1;have:=h4 j hj;omega
   constructor
   ·rintro(⟨x,k1,_,k3⟩|⟨k1,k2⟩)
    ·exact⟨x,k1,k3⟩
    ·exact⟨y,k1,(big y k1 k2).symm⟩
   ·rintro⟨x,k1,k3⟩;by_cases c:x<=T
    ·exact .inl ⟨x,k1,c,k3⟩
    ·right;rw[big x k1 aq]at k3;subst k3;exact⟨k1,aq⟩
  ·exfalso;have hb:=hl _ (bu hj);obtain⟨u,f1,s1⟩:=Bx hr1.1 l[j]!;refine hs _ (show tK _=V (V (mX.mk l (aL.mk 0 0 0) (cF o (aL.mk l[j]! l[j]! 0)) u))from ?_);unfold tK;simp only;rw[gZ vr];simp only[cU];rw[e2];simp only;rw[fO,cv];simp only[cU];rw[gF vo (.inr (show NN (aL.mk l[j]! l[j]! 0)from NN.one hb.1 hb.2)),f1]
def Mr{a:aL}(h:NV a){l:aa Int}(hr:gG l=O)(hn:zR l<=1000000)(hl:∀b∈l,cC b):∃c,MV a l=V (c,0)/\MZ a l=V (c,0)/\ni (uS a l) c/\NV c:=by
 obtain⟨c,e1,r1⟩:=aee h hr hn hl;obtain⟨d,e2,r2⟩:=abi h hr hn hl;rw[<-r1.uniq r2]at e2;exact⟨c,e1,e2,r1,r1.valid λy hy=>YR h hl hy⟩
def dA.ne{P:Int->Prop}{c:aL}(h:dA P c):c≠cL:=λe=>by
 have h1:=h.all _ h.lo;rw[e]at h1;have h2:(1:Int)<=0:=xV h1.1 h1.2.1;omega
def NV.nn{c:aL}(h:NV c)(k:c≠cL):NN c:=h.elim (λe=>ep e k) id
def ni.nn{P:Int->Prop}{c:aL}(h:ni P c)(v:NV c){x:Int}(hx:P x):NN c:=by
 rcases h with ⟨_,h⟩|h
 ·exact ep hx (h x)
 ·exact v.nn h.ne
def Qp:NN (aL.mk 0 0 0):=NN.one (x:=0) aq aq
def IC{a b:Bool}(h:(a||b)=true):NN (iX a b):=(vW a b).nn (by cases a<;>cases b<;>first|(cases h;done)|(intro e;cases e))
def Hu(op:Int){a:aL}(h:NN a):NN (rE op a).1:=by
 unfold rE;split
 ·exact Qp
 rw[bN h.ne];split
 ·exact IC (zero_or h)
 ·exact am1 h
def aik{op:Int}{a b:aL}(ha:NN a)(hb:NN b):∃r,ou op a b=V r/\NN r.1:=by
 by_cases ho:binop op
 ·have r1:=ha.tC;have r2:=ha.CA;have r3:=hb.tC;have r4:=hb.CA;by_cases hs:cnt a*cnt b<=4096
  ·rw[oT ho ha hb hs];rcases DF ho ha hb aq with ⟨h1,c,e,h2⟩|⟨_,e⟩
   ·exact⟨_,e,h2.valid h1⟩
   ·exact⟨_,e,Qp⟩
  have hbin:=ho;obtain⟨o1,o2⟩:=ho;rcases (show op=8\/op=9\/op=10\/op=11\/op=12\/op=21\/op=22\/(13<=op/\op<=20)by omega)with rfl|rfl|rfl|rfl|rfl|rfl|rfl|h
  ·rcases jN (op:=8) (.inl rfl) ha hb (λae h=>Pq ha hb h) (λh=>(sH ha hb).mpr ⟨fZ h (.inl rfl) (.inl rfl),fZ h (.inr (.inr rfl)) (.inr (.inr rfl))⟩)with ⟨_,e,hv⟩|⟨_,e⟩
   ·exact⟨_,e,hv⟩
   ·exact⟨_,e,Qp⟩
  ·rcases jN (op:=9) (.inr (.inl rfl)) ha hb (λae h=>PL ha hb h) (λh=>(rW ha hb).mpr ⟨fZ h (.inl rfl) (.inr (.inr rfl)),fZ h (.inr (.inr rfl)) (.inl rfl)⟩)with ⟨_,e,hv⟩|⟨_,e⟩
   ·exact⟨_,e,hv⟩
   ·exact⟨_,e,Qp⟩
  ·rcases jN (op:=10) (.inr (.inr rfl)) ha hb (λae h=>OO ha hb h) (λh=>(jV ha hb).mpr ⟨fZ h (.inl rfl) (.inl rfl),fZ h (.inl rfl) (.inr (.inr rfl)),fZ h (.inr (.inr rfl)) (.inl rfl),fZ h (.inr (.inr rfl)) (.inr (.inr rfl))⟩)with ⟨_,e,hv⟩|⟨_,e⟩
   ·exact⟨_,e,hv⟩
   ·exact⟨_,e,Qp⟩
  all_goals rw[vD hbin ha hb hs];unfold adL
  ·obtain⟨a1,a2⟩:=r1;obtain⟨a3,a4⟩:=r2;simp only[cZ,cU,Int.reduceEq];have hm:((max a.ah.natAbs a.ag.natAbs:Nat):Int)<=1099511627776:=aq;generalize max a.ah.natAbs a.ag.natAbs=m at*;rw[mK ⟨aq,aq⟩ ⟨aq,aq⟩ aq,mK ⟨aq,aq⟩ ⟨aq,aq⟩ aq];cases (J (0<=a.ah)&&J (0<=b.ah))with
   |true=>exact⟨(jK 0 (m:Int) 1,0),rfl,mM (lo:=0) (hi:=(m:Int)) (st:=1) aq aq aq aq⟩
   |false=>exact⟨(jK (-(m:Int)) (m:Int) 1,0),rfl,mM (lo:= -(m:Int)) (hi:=(m:Int)) (st:=1) aq aq aq aq⟩
  ·obtain⟨b1,b2⟩:=r3;obtain⟨b3,b4⟩:=r4;simp only[cZ,cU,Int.reduceEq];have hp:(if b.ah<0 then b.ah+1 else 0)<=0/\ -1099511627776<=(if b.ah<0 then b.ah+1 else 0):=by split<;>omega
   have hq:0<=(if 0<b.ag then b.ag-1 else 0)/\(if 0<b.ag then b.ag-1 else 0)<=1099511627776:=by split<;>omega
   generalize (if b.ah<0 then b.ah+1 else 0)=p at*;generalize (if 0<b.ag then b.ag-1 else 0)=q at*;rw[mK ⟨aq,aq⟩ ⟨aq,aq⟩ aq];exact⟨(jK p q 1,0),rfl,mM (lo:=p) (hi:=q) (st:=1) aq aq aq aq⟩
  ·simp only[cZ,cU,Int.reduceEq];obtain⟨l',e2,h2⟩:=Km (fh (.inr ha) (.inr hb)) (min a.ag b.ag);rw[e2];refine⟨_,rfl,h2.rep.nn h2.1 (x:=(cF a b).ah) ⟨?_,?_⟩⟩
   ·rw[gK ha hb];have:=(lW ha hb).le;exact⟨aq,this,by rw[Int.sub_self];exact xL _⟩
   ·rw[gK ha hb];show min a.ah b.ah<=_;have:=ha.le;have:=hb.le;omega
  ·simp only[cZ,cU,Int.reduceEq];obtain⟨l',e2,h2⟩:=Bx (fh (.inr ha) (.inr hb)) (max a.ah b.ah-1);rw[e2];refine⟨_,rfl,h2.rep.nn h2.1 (x:=(cF a b).ag) ⟨?_,?_⟩⟩
   ·rw[gK ha hb];have:=(lW ha hb).le;exact⟨this,aq,(lW ha hb).dvd⟩
   ·rw[gK ha hb];show _<max a.ag b.ag;have:=ha.le;have:=hb.le;omega
  ·rw[WB h ha hb];refine⟨(iX (vZ op a b).1 (vZ op a b).2,0),?_,IC (RN h ha hb)⟩;rcases jb h with rfl|rfl|rfl|rfl|rfl|rfl|rfl|rfl<;>rfl
 ·refine⟨(aL.mk 0 0 0,1),?_,Qp⟩;unfold ou;rw[gj,gj,eo (.inr ha),eo (.inr hb),show GR op=CX op from rfl,kf,bY ho];rfl
def pW(op:Int)(a b:aL):aL:=match ou op a b with
 |none=>cL
 |some r=>r.1
def oJ(op:Int){a b:aL}(ha:NN a)(hb:NN b):∃c,uR op a b=V (pW op a b,c)/\ou op a b=V (pW op a b,c)/\NN (pW op a b):=by
 obtain⟨r,e1,e2,_⟩:=PY op (.inr ha) (.inr hb);obtain⟨r',e3,h⟩:=aik (op:=op) ha hb;have:r'=r:=by rw[e2]at e3;cases e3;rfl
 subst this;unfold pW;rw[e2];exact⟨r'.2,e1,rfl,h⟩
def ja(a:aL)(lo hi:Int):aL:=match m86 a lo hi with
 |none=>cL
 |some r=>r.1
def iB{a:aL}(ha:NN a)(lo hi:Int):∃c,m81 a lo hi=V (ja a lo hi,c)/\m86 a lo hi=V (ja a lo hi,c)/\NN (ja a lo hi)/\(cC lo->cC hi->lo<=hi->ni (tH a lo hi) (ja a lo hi)):=by
 rcases Q3 (.inr ha) lo hi with ⟨c,e1,e2,h,v,_⟩|⟨e1,e2,hn⟩
 ·unfold ja;rw[e2];have:=ha.le;exact⟨0,e1,rfl,h.nn v (x:=max lo (min a.ah hi)) ⟨a.ah,⟨aq,this,by rw[Int.sub_self];exact xL _⟩,rfl⟩,λ_ _ _=>h⟩
 ·unfold ja;rw[e2];exact⟨3,e1,rfl,Qp,λh1 h2 h3=>ep ⟨h1,h2,h3⟩ hn⟩
def rZ(a:aL)(l:aa Int):aL:=match MZ a l with
 |none=>cL
 |some r=>r.1
def uC{a:aL}(ha:NN a){l:aa Int}(hr:gG l=O)(hn:zR l<=1000000)(hl:∀b∈l,cC b):MV a l=V (rZ a l,0)/\MZ a l=V (rZ a l,0)/\NN (rZ a l)/\ni (uS a l) (rZ a l):=by
 obtain⟨c,e1,e2,h,v⟩:=Mr (.inr ha) hr hn hl;unfold rZ;rw[e2];have:=ha.le;exact⟨e1,rfl,h.nn v (x:=G1 l a.ah) ⟨a.ah,⟨aq,this,by rw[Int.sub_self];exact xL _⟩,rfl⟩,h⟩
def jS{a b:aL}(h:NN a)(k:NN b):NN (cF a b):=by rw[gK h k];exact lW h k
structure Bo where
 t0:List bg
 t1:Int
 t5:List bg
 t6:Int
def R6:Td 0 Bo:= .c [] [0,1,5,6] (.r 0 1 (ec 0 (ql 131) (ec 1 aN (ec 5 (qo 0) (ec 6 aN en)))) (sr 0 131 sn) (λz=>⟨z.1.1,z.1.2.1,z.2.1,z.1.t.2.1⟩) (λx=>((x.t0,x.t1,(),x.t6,()),(x.t5,()))))
def JC(p:Bo):af (af Bo):=
 bif J (p.t6<zR p.t0)then if 0<=p.t6/\p.t6<zR p.t0 then bif J (p.t0[zD p.t6]!.bB=p.t1)then if 0<=p.t6/\p.t6<zR p.t0 then if(p.t5++[p.t0[zD p.t6]!]).length<=1073741824 then V (V (Bo.mk p.t0 p.t1 (p.t5++[p.t0[zD p.t6]!]) (aj (p.t6+1))))else I else I else V (V (Bo.mk p.t0 p.t1 p.t5 (aj (p.t6+1))))else I else V (I)
def LU:=bI (JC)
abbrev aAM:=aa bg
def d173:Td 0 aAM:= .c [] [4] (.r 0 1 (ec 4 (qo 0) en) (sr 0 131 sn) (λz=>z.2.1) (λx=>(((),()),(x,()))))
def aiS(a0:aa bg)(a1:Int):af aAM:=
 match LU (Bo.mk a0 a1 [] (0))with|I=>I|V r1=>bif J (r1.t6<zR r1.t0)then if 0<=r1.t6/\r1.t6<zR r1.t0 then bif J (r1.t0[zD r1.t6]!.bB=r1.t1)then if 0<=r1.t6/\r1.t6<zR r1.t0 then if(r1.t5++[r1.t0[zD r1.t6]!]).length<=1073741824 then I else I else I else I else I else V (r1.t5)
def axH:=eL vi 173 G (lc (ql 131) (aU ln)) d173 (λg=>aiS g.1 g.2.1)
def amB:EO axH:=λh=>kL (an:=(noTwo (noTwo (.two (noTwo (R6.lp LU .no)) .no)))) (l:=[(aZ f173 0,(R6.lp LU .no))]) func173 aV (aA (aO R6) aH) h
def F89:bq:=(axH dw)
structure On where
 t6:List bg
 (t8 t9:Int)
def aaX:Td 0 On:= .c [] [6,8,9] (.r 0 1 (ec 6 (qo 0) (ec 8 aN (ec 9 aN en))) (sr 0 131 sn) (λz=>⟨z.2.1,z.1.2.1,z.1.t.1⟩) (λx=>(((),x.t8,x.t9,()),(x.t6,()))))
def NU(p:On):af (af On):=
 bif J (p.t9<zR p.t6)then if 0<=p.t9/\p.t9<zR p.t6 then if 131=131/\zD p.t9<zR p.t6 then if 0<=p.t9/\p.t9<zR p.t6 then if 131=131/\zD p.t9<zR p.t6 then bif J (4096<aj (p.t8*aj (aj (p.t6[zD p.t9]!.ag-p.t6[zD p.t9]!.ah)+1)))then V (I)else V (V (On.mk p.t6 (aj (p.t8*aj (aj (p.t6[zD p.t9]!.ag-p.t6[zD p.t9]!.ah)+1))) (aj (p.t9+1))))else I else I else I else I else V (I)
def Xf:=bI (NU)
structure P6 where
 t6:List bg
 t7:Int
def adM:Td 0 P6:= .c [] [6,7] (.r 0 1 (ec 6 (qo 0) (ec 7 aN en)) (sr 0 131 sn) (λz=>⟨z.2.1,z.1.2.1⟩) (λx=>(((),x.t7,()),(x.t6,()))))
def Ub(p:P6):af (af P6):=
 bif J (p.t7<zR p.t6)then if 0<=p.t7/\p.t7<zR p.t6 then if 131=131/\zD p.t7<zR p.t6 then if 0<=p.t7/\p.t7<zR p.t6 then if 131=131/\zD p.t7<zR p.t6 then bif J (p.t6[zD p.t7]!.ag<p.t6[zD p.t7]!.ah)then V (I)else if 0<=p.t7/\p.t7<zR p.t6 then if 131=131/\zD p.t7<zR p.t6 then bif J (p.t6[zD p.t7]!.ah< -1048576)then V (I)else if 0<=p.t7/\p.t7<zR p.t6 then if 131=131/\zD p.t7<zR p.t6 then bif J (1048576<p.t6[zD p.t7]!.ag)then V (I)else V (V (P6.mk p.t6 (aj (p.t7+1))))else I else I else I else I else I else I else I else I else V (I)
def Wd:=bI (Ub)
abbrev E89:=Int×Int
def d89:Td 0 E89:= .c [] [4,5] (.r 0 0 (ec 4 aN (ec 5 aN en)) sn (λz=>(z.1.1,z.1.2.1)) (λx=>((x.1,x.2,()),(()))))
def aGY:∀f∈([]:aa Nat),bz (F89) f:=aH
def m89(a0:aa bg)(a1:Int):af E89:=
 match bif bif J (a1=0)then G else O then bif bif J (a1=1)then G else O then bif bif J (a1=2)then G else O then V (bif J (a1=3)then G else O)else V G else V G else V G with|I=>I|V r1=>bif r1 then V (0,1)else match aiS a0 a1 with|I=>I|V r2=>match Wd (P6.mk r2 0)with|I=>I|V r3=>bif J (r3.t7<zR r3.t6)then if 0<=r3.t7/\r3.t7<zR r3.t6 then if 131=131/\zD r3.t7<zR r3.t6 then if 0<=r3.t7/\r3.t7<zR r3.t6 then if 131=131/\zD r3.t7<zR r3.t6 then bif J (r3.t6[zD r3.t7]!.ag<r3.t6[zD r3.t7]!.ah)then V (0,3)else if 0<=r3.t7/\r3.t7<zR r3.t6 then if 131=131/\zD r3.t7<zR r3.t6 then bif J (r3.t6[zD r3.t7]!.ah< -1048576)then V (0,3)else if 0<=r3.t7/\r3.t7<zR r3.t6 then if 131=131/\zD r3.t7<zR r3.t6 then bif J (1048576<r3.t6[zD r3.t7]!.ag)then V (0,3)else I else I else I else I else I else I else I else I else I else match Xf (On.mk r3.t6 1 0)with|I=>I|V r4=>bif J (r4.t9<zR r4.t6)then if 0<=r4.t9/\r4.t9<zR r4.t6 then if 131=131/\zD r4.t9<zR r4.t6 then if 0<=r4.t9/\r4.t9<zR r4.t6 then if 131=131/\zD r4.t9<zR r4.t6 then bif J (4096<aj (r4.t8*aj (aj (r4.t6[zD r4.t9]!.ag-r4.t6[zD r4.t9]!.ah)+1)))then V (0,4)else I else I else I else I else I else V (r4.t8,0)
def e89:=eL vi 89 G (lc (ql 131) (aU ln)) d89 (λg=>m89 g.1 g.2.1)
def au4:EO e89:=λh=>kL (F:=F89) (an:=(noTwo (.two (.two (.rb [] 23) .no) (noTwo (.two (noTwo (adM.lp Wd .no)) (noTwo (.two (noTwo (aaX.lp Xf .no)) .no))))))) (l:=[(.skip,(.rb [] 23)),(aZ f89 0,(adM.lp Wd .no)),(aZ f89 1,(aaX.lp Xf .no))]) func89 (amB aV) (aA aGY (aA (aO adM) (aA (aO aaX) aH))) h
def Oz:EP e89:=λh=>kP h
def F24:bq:=(e90 (e89 (e78 (e53 dw))))
abbrev E24:=Bool
def d24:Td 0 E24:= .c [] [8] (.r 0 0 (ec 8 qb en) sn (λz=>z.1.1) (λx=>((x,()),(()))))
def aDz:∀f∈([53,78]:aa Nat),bz (F24) f:=(aA (O6 (Oz (Ab (Mu bF)))) (aA (O6 (Oz (Ab (Mu bF)))) aH))
def m24(a0:aS)(a1:Int)(a2:Int)(a3:Int):af E24:=
 match match m53 a0 (10) (80)with|I=>I|V r1=>bif bif r1 then G else O then V (O)else match m78 a0 with|I=>I|V r2=>V (bif J (r2=0)then G else O)with|I=>I|V r3=>bif r3 then V (G)else match m89 a0.ai (1)with|I=>I|V r4=>match m89 a0.ai (2)with|I=>I|V r5=>match m89 a0.ai (3)with|I=>I|V r6=>match r90 a0.bK with|I=>I|V r7=>match bif J (r4.fst<=a1)then bif J (r5.fst<=a2)then bif J (r6.fst<=a3)then V (J (r7.fst<=400))else V (G)else V (G)else V (G)with|I=>I|V r8=>V (r8)
def e24:=eL vi 24 G (lc (qg 26) (aU (aU (aU ln)))) d24 (λg=>m24 g.1 g.2.1 g.t.1 g.t.2.1)
def avl:EO e24:=λh=>kL (F:=F24) (an:=(noTwo (.two (.two (.rb [53,78] 25) .no) (noTwo (noTwo (noTwo (noTwo (.two (.rb [53,78] 8) .no)))))))) (l:=[(.skip,(.rb [53,78] 25)),(.skip,(.rb [53,78] 8))]) func24 (abt (au4 (acG (asV aV)))) (aA aDz (aA aDz aH)) h
def Gi:EP e24:=λh=>kP h
structure aJM where
 t0:List bg
 (t6 t7 t8:Int)
 t9:List Int
 t10:Bool
 t11:Int
 b0:nr
def aH1:bq:=dw
abbrev atE:=Int
def d248:Td 0 atE:= .c [] [2] (.r 0 0 (ec 2 aN en) sn (λz=>z.1.1) (λx=>((x,()),(()))))
def aDf:=(lc qb ln)
def apA:An:= .no
def Zb(a0:Bool):atE:=
 bif a0 then 1 else 0
def aHq(a0:Bool):bV vi (aH1) 300 (apA) 248 (aDf.c (a0,())) [] 0 d248.rd=V (Zb a0):=by
 refine Eq.trans (b:=(
  bif a0 then V (1)else V (0):af atE)) aW ?_
 simp only[Zb,cu,cQ]
def axK:=eL vi 248 G aDf d248 (λg=>V (Zb g.1))
def ag5:EO axK:=λh=>kL (an:=apA) func248 aV aH h (c:=λg=>aHq g.1)
def aCh:bq:=dw
abbrev axA:=Int
def d193:Td 0 axA:= .c [] [4] (.r 0 0 (ec 4 aN en) sn (λz=>z.1.1) (λx=>((x,()),(()))))
def aBG:∀f∈([]:aa Nat),bz (aCh) f:=aH
def ahH(a0:Int)(a1:Int):af axA:=
 bif J (a1=0)then V 0 else if¬a1=0then match if¬a1=0then bif bif J (a0.tmod a1=0)then G else O then V (bif J (a0<0)==J (a1<0)then G else O)else V G else I with|I=>I|V r1=>bif r1 then V (aj (aj (a0.tdiv a1)-1))else V (aj (a0.tdiv a1))else I
def auc:=eL vi 193 G (aU (aU ln)) d193 (λg=>ahH g.1 g.2.1)
def anl:EO auc:=λh=>kL (F:=aCh) (an:=(noTwo (noTwo (noTwo (.two (.two (.rb [] 21) .no) .no))))) (l:=[(.skip,(.rb [] 21))]) func193 aV (aA aBG aH) h
structure aEV where
 t0:List Int
 (t1 t5:Int)
 t6:Bool
 t7:Int
structure aId where
 t1:List Int
 t2:List aC
 t9:Int
 b0:aS
 (b1 b2:oM)
structure aEl where
 t1:List Int
 t9:Int
 b0:aS
 b1:aC
 (b2 b3:oM)
structure aIB where
 (t1 t5:List Int)
 t6:Int
 b0:aS
structure MC where
 (t0 t1:List Int)
 t5:Int
def abh:Td 0 MC:= .c [] [0,1,5] (.r 0 0 (ec 0 (ql 3) (ec 1 (ql 3) (ec 5 aN en))) sn (λz=>⟨z.1.1,z.1.2.1,z.1.t.1⟩) (λx=>((x.t0,x.t1,x.t5,()),(()))))
def UH(p:MC):af (af MC):=
 bif J (p.t5<zR p.t0)then if 0<=p.t5/\p.t5<zR p.t0 then if 0<=p.t5/\p.t5<zR p.t1 then bif bif J (((p.t0,p.t1,p.t5,()),()).fst.fst[((p.t0,p.t1,p.t5,()),()).fst.snd.snd.fst.toNat]! =((p.t0,p.t1,p.t5,()),()).fst.snd.fst[((p.t0,p.t1,p.t5,()),()).fst.snd.snd.fst.toNat]!)then G else O then V (I)else V (V (MC.mk p.t0 p.t1 (aj (p.t5+1))))else I else I else V (I)
def Ut:=bI (UH)
abbrev E98:=Bool
def d98:Td 0 E98:= .c [] [4] (.r 0 0 (ec 4 qb en) sn (λz=>z.1.1) (λx=>((x,()),(()))))
def m98(a0:aa Int)(a1:aa Int):af E98:=
 bif bif J ((zR a0:Int)=(zR a1:Int))then G else O then V G else match Ut (MC.mk a0 a1 0)with|I=>I|V r1=>bif J (r1.t5<zR r1.t0)then if 0<=r1.t5/\r1.t5<zR r1.t0 then if 0<=r1.t5/\r1.t5<zR r1.t1 then bif bif J (((r1.t0,r1.t1,r1.t5,()),()).fst.fst[((r1.t0,r1.t1,r1.t5,()),()).fst.snd.snd.fst.toNat]! =((r1.t0,r1.t1,r1.t5,()),()).fst.snd.fst[((r1.t0,r1.t1,r1.t5,()),()).fst.snd.snd.fst.toNat]!)then G else O then V G else I else I else I else V O
def e98:=eL vi 98 G (lc (ql 3) (lc (ql 3) ln)) d98 (λg=>m98 g.1 g.2.1)
def asK:EO e98:=λh=>kL (an:=(noTwo (noTwo (.two (noTwo (abh.lp Ut .no)) .no)))) (l:=[(aZ f98 0,(abh.lp Ut .no))]) func98 aV (aA (aO abh) aH) h
def ace:EP e98:=λh=>kP h
def F31:bq:=(e98 dw)
abbrev E31:=Bool
def d31:Td 0 E31:= .c [] [4] (.r 0 0 (ec 4 qb en) sn (λz=>z.1.1) (λx=>((x,()),(()))))
def aGC:∀f∈([98]:aa Nat),bz (F31) f:=(aA (ace bF) aH)
def m31(a0:aB)(a1:aB):af E31:=
 match bif J (a0.aI=a1.aI)then match m98 a0.aK a1.aK with|I=>I|V r1=>V (r1)else V (G)with|I=>I|V r2=>V (r2)
def e31:=eL vi 31 G (lc (qg 47) (lc (qg 47) ln)) d31 (λg=>m31 g.1 g.2.1)
def ad4:EO e31:=λh=>kL (F:=F31) (an:=(noTwo (.two (.rb [98] 4) .no))) (l:=[(.skip,(.rb [98] 4))]) func31 (asK aV) (aA aGC aH) h
def P3:EP e31:=λh=>kP h
def Cv(b:Bool):Int:=if b=O then 1 else 0
def ZA(a b:Int):Int:=if b=0 then 0 else if a.tmod b≠0/\J (a<0)≠J (b<0)then a.tdiv b-1 else a.tdiv b
def aGZ(a b:Int):Int:=if b=0 then 0 else a-b*ZA a b
def OF(o a b:Int):Int:=
 if o=8 then a+b else if o=9 then a-b else if o=10 then a*b else if o=11 then ZA a b else if o=12 then aGZ a b
 else if o=13 then Cv (J (a=b))else if o=14 then Cv (J (a≠b))else if o=15 then Cv (J (a<b))else if o=16 then Cv (J (a<=b))
 else if o=17 then Cv (J (b<a))else if o=18 then Cv (J (b<=a))else if o=19 then Cv (J (a≠0/\b≠0))else if o=20 then Cv (J (a≠0\/b≠0))
 else if o=21 then(if a<b then a else b)else(if b<a then a else b)
def ajV(a b:Int):(a.tdiv b).natAbs<=a.natAbs:=Int.natAbs_tdiv_le_natAbs a b
def VIn(vars:aa bg)(vals:aa Int):Prop:=zR vals=zR vars/\∀i,i<zR vars->vars[i]!.ah<=vals[i]!/\vals[i]!<=vars[i]!.ag
def neB(a b:Bool):(bif a==b then false else true)=J (a≠b):=by cases a<;>cases b<;>rfl
def ajM{a b:Int}(h1: -1099511627776<=a)(h2:a<=1099511627776):ahH a b=V (ZA a b):=by
 have h3:=ajV a b;have w1:aj (a.tdiv b)=a.tdiv b:=aM;have w2:aj (a.tdiv b-1)=a.tdiv b-1:=aM;unfold ahH ZA;by_cases hb:b=0
 ·simp[hb]
 by_cases hm:a.tmod b=0
 ·simp[hb,hm,w1]
 ·simp only[cU,fU,hb,hm,w1,w2,CC,not_false_eq_true,ne_eq,true_and,neB,not_true];by_cases hc:J (a<0)=J (b<0)
  ·simp[hc]
  ·simp[hc]
def Vt{vars:aa bg}{inp:Bool}{t:az}(hf:dJ vars inp t=O):(0<=(cq t.bD).1/\(cq t.bD).1<=zR t.ax/\(zR t.ax:Int)<=(cq t.bD).2)/\(t.bD=24->0<=t.fN/\t.fN<zR vars):=by
 rw[lX]at hf;have h:=(zi _ _▸hf).1;unfold CQ at h;rw[zi,decide_eq_true_iff]at h;refine⟨h.1,λh24=> ?_⟩;have h2:=h.2;simp only[h24,Int.reduceEq,reduceIte,zi,decide_eq_true_eq]at h2;exact h2.1
def OQ(o:Int)(h:0<=(cq o).1):((o=0\/o=24)/\cq o=(0,0))\/((o=6\/o=7)/\cq o=(1,1))\/((8<=o/\o<=22)/\cq o=(2,2))\/(o=23/\cq o=(3,3))\/(o=25/\cq o=(2,33)):=by
 unfold cq at h ⊢;split
 ·exact .inl ⟨‹_›,rfl⟩
 rename_i h1;rw[bN h1]at h;split
 ·exact .inr (.inl ⟨‹_›,rfl⟩)
 rename_i h2;rw[bN h2]at h;split
 ·exact .inr (.inr (.inl ⟨‹_›,rfl⟩))
 rename_i h3;rw[bN h3]at h;split
 ·exact .inr (.inr (.inr (.inl ⟨‹_›,rfl⟩)))
 rename_i h4;rw[bN h4]at h;split
 ·exact .inr (.inr (.inr (.inr ⟨‹_›,rfl⟩)))
 ·rename_i h5;rw[bN h5]at h;simp at h
def HE(M:aS->aa aC->Bool->af mG)(f:aS)(l A ad:aa aC)(top:Bool)(n i a b:Int)(ha:M f A G=V a)(hb:M f ad G=V b):
  Br M ⟨l,top,l,n,i,[A,ad],2,0,f⟩=V ⟨l,top,l,n,i,[A,ad],2,if a≠0 then 0 else if b≠0 then 1 else 2,f⟩:=by
 have w0:aj 1=1:=rfl;have w1:aj 2=2:=rfl;have r1:Cj M ⟨l,top,l,n,i,[A,ad],2,0,f⟩=if a≠0 then V I else V (V ⟨l,top,l,n,i,[A,ad],2,1,f⟩):=by
  unfold Cj;by_cases h:a=0<;>simp[ha,w0]
 have r2:Cj M ⟨l,top,l,n,i,[A,ad],2,1,f⟩=if b≠0 then V I else V (V ⟨l,top,l,n,i,[A,ad],2,2,f⟩):=by
  unfold Cj;by_cases h:b=0<;>simp[hb,w1]
 have r3:Cj M ⟨l,top,l,n,i,[A,ad],2,2,f⟩=V I:=by
  rfl
 unfold Br;by_cases h1:a≠0
 ·rw[bJ h1]at r1 ⊢;exact ct λr=>by rw[r1];simp
 ·rw[bN h1]at r1 ⊢;rw[bR r1];by_cases h2:b≠0
  ·rw[bJ h2]at r2 ⊢;exact ct λr=>by rw[r2];simp
  ·rw[bN h2]at r2 ⊢;rw[bR r2];exact ct λr=>by rw[r3];simp
def Uq(n i:Nat)(hn:n<=1000000):J ((i:Int)=aj ((n:Int)-1))=J (i+1=n):=by
 rw[aM];apply decide_eq_decide.2;omega
def acZ(M:aS->aa aC->Bool->af mG)(f:aS)(hv:de f.ai)(l:aa aC)(hl:zR l<=1000000)(top:Bool)(hM:∀s∈l,M f s.aQ G=V (cc f G s.aQ)/\M f s.aX G=V (cc f G s.aX))(i:Nat)(hi:i<zR l):
  (ZD f top (zR l) i l[i]! =0->By M ⟨l,top,l,(zR l:Int),(i:Int),f⟩=V (V ⟨l,top,l,(zR l:Int),((i+1:Nat):Int),f⟩))/\(ZD f top (zR l) i l[i]!≠0->By M ⟨l,top,l,(zR l:Int),(i:Int),f⟩=V I):=by
 have hw:=jG hi hl;obtain⟨k1,k2⟩:=hM _ (bu hi);have hin:=HE M f l l[i]!.aQ l[i]!.aX top (zR l:Int) (i:Int) _ _ k1 k2;have hlen:(zR ([l[i]!.aQ,l[i]!.aX]:aa (aa aC)):Int)=2:=rfl;have hi1:(i:Int)<(zR l:Int):=aq;have hi0:(0:Int)<=(i:Int):=aq;unfold By ZD o6;simp only[zg,az.eta,aC.eta,UJ,Uq (zR l) i hl,Df f.ai hv,hlen,hin,hi1];have e1':(bif top then some (bif dL f l[i]! (J (i+1=zR l))then false else true)else some (bif dL f l[i]! false then false else true))=some (bif dL f l[i]! (top&&J (i+1=zR l))then false else true):=by cases top<;>rfl
 rw[e1'];have hS:dL f l[i]! (top&&J (i+1=zR l))=O->RB l[i]! =V (uA l[i]!):=λh=>Uf _ (jE h).1;revert hS;generalize dL f l[i]! (top&&J (i+1=zR l))=ac;intro hS;generalize l[i]!.aQ=A at k1 hin ⊢;generalize l[i]!.aX=ad at k2 hin ⊢;cases ac with
 |false=>simp
 |true=>
  rw[hS rfl];generalize uA l[i]! =N;cases N with
  |false=>simp
  |true=>
   generalize fG f.ai G l[i]!.aG=T;generalize cc f G A=a at*;generalize cc f G ad=b at*;by_cases hT:T=0
   ·by_cases ha:a=0
    ·by_cases hb:b=0
     ·simp[hT,ha,hb,hw]
     ·simp[hT,ha,hb,k2]
    ·simp[hT,ha,k1]
   ·simp[hT]
def amb(M:aS->aa aC->Bool->af mG)(f:aS)(hv:de f.ai)(l:aa aC)(hl:zR l<=1000000)(top:Bool)(hM:∀s∈l,M f s.aQ G=V (cc f G s.aQ)/\M f s.aX G=V (cc f G s.aX)):ajh M f l top=V (cc f top l):=by
 obtain⟨i,e1,hc⟩:=tu (rnd:=By M) l (λi=>⟨l,top,l,(zR l:Int),(i:Int),f⟩) (ZD f top (zR l)) (λi hi=>acZ M f hv l hl top hM i hi) (by unfold By;simp);have e1':JU M ⟨l,top,l,(zR l:Int),0,f⟩=V ⟨l,top,l,(zR l:Int),(i:Int),f⟩:=e1;rw[qI f top (zR l) l 0 aq]at hc;unfold ajh;rw[e1'];rcases hc with ⟨rfl,hc⟩|⟨hi,h0,hc⟩
 ·rw[hc];simp
 ·rw[hc];obtain⟨k1,k2⟩:=hM _ (bu hi);have hin:=HE M f l l[i]!.aQ l[i]!.aX top (zR l:Int) (i:Int) _ _ k1 k2;have hlen:(zR ([l[i]!.aQ,l[i]!.aX]:aa (aa aC)):Int)=2:=rfl;have hi1:(i:Int)<(zR l:Int):=aq;have hi0:(0:Int)<=(i:Int):=aq;revert h0;unfold ZD o6;simp only[zg,az.eta,aC.eta,UJ,Uq (zR l) i hl,Df f.ai hv,hlen,hin,hi1];have e1':(bif top then some (bif dL f l[i]! (J (i+1=zR l))then false else true)else some (bif dL f l[i]! false then false else true))=some (bif dL f l[i]! (top&&J (i+1=zR l))then false else true):=by cases top<;>rfl
  rw[e1'];have hS:dL f l[i]! (top&&J (i+1=zR l))=O->RB l[i]! =V (uA l[i]!):=λh=>Uf _ (jE h).1;revert hS;generalize dL f l[i]! (top&&J (i+1=zR l))=ac;intro hS;generalize l[i]!.aQ=A at k1 hin ⊢;generalize l[i]!.aX=ad at k2 hin ⊢;cases ac with
  |false=>simp
  |true=>
   rw[hS rfl];generalize uA l[i]! =N;cases N with
   |false=>simp
   |true=>
    generalize fG f.ai G l[i]!.aG=T;generalize cc f G A=a at*;generalize cc f G ad=b at*;by_cases hT:T=0
    ·by_cases ha:a=0
     ·by_cases hb:b=0
      ·simp[hT,ha,hb]
      ·simp[hT,ha,hb,k2]
     ·simp[hT,ha,k1]
    ·simp[hT]
def LR(f:aS)(hv:de f.ai):∀(n:Nat) (l:aa aC) (top:Bool),zf l<n->fP l<=1000->S8 n f l top=V (cc f top l)
 |0,_,_,h,_=>aq
 |n+1,l,top,h,h2=>amb (S8 n) f hv l (by have:=j9 l;omega) top (λs hs=>⟨LR f hv n _ _ (by have:=bw hs;omega) (by have:=gB hs;omega),LR f hv n _ _ (by have:=bw hs;omega) (by have:=gB hs;omega)⟩)
def afy(f:aS)(hv:de f.ai)(l:aa aC)(top:Bool)(h:fP l<=1000):al6 f l top=V (cc f top l):=eO (zf l+1) λn hn=>LR f hv n l top aq h
def Wc{f:aS}{s:aC}{last:Bool}(h:dL f s last=O)(c:Int)(hc:c=if s.cg=2 then 67108864 else 10000):
  ((bif J (s.bh<0)then V O else bif J (c<s.bh)then V O else bif J (s.fN<0)then V O else bif J (s.cg=4)then V (J (4096<s.fN))else V G):af Bool)=V (!(J (0<=s.bh/\s.bh<=c)&&(if s.cg=4 then J (0<=s.fN/\s.fN<=4096)else O))):=by
 obtain⟨b1,b2,b3,b4,b5⟩:=jE h;by_cases h1:s.bh<0
 ·simp[h1]
 by_cases h2:c<s.bh
 ·simp[h2]
 by_cases h3:s.fN<0
 ·have h4:s.cg=4:=by
   omega
  simp[h3,h4]
 by_cases h4:s.cg=4
 ·simp[h1,h2,h3];by_cases h5:4096<s.fN
  ·grind
  ·simp_all
 ·simp[h1,h2,h3,h4,show 0<=s.bh by omega,show s.bh<=c by omega]
def VI{f:aS}{s:aC}{last:Bool}(h:dL f s last=O):
  ((bif J (0<(zR s.aR:Int))then if(0:Int)<=aj ((zR s.aR:Int)-(1:Int))/\aj ((zR s.aR:Int)-(1:Int))<(zR s.aR:Int)then V (J (67108864<s.aR[(aj ((zR s.aR:Int)-1)).toNat]!))else I else V G):af Bool)=V (!(if s.cg=6 then J (s.aR[zR s.aR-1]!<=67108864)else O)):=by
 obtain⟨b1,b2,b3,b4,b5⟩:=jE h;by_cases h6:s.cg=6
 ·obtain⟨b1,b2⟩:=b1 h6;have hw:aj ((zR s.aR:Int)-1)=(zR s.aR:Int)-1:=aM;have hw2:((zR s.aR:Int)-1).toNat=zR s.aR-1:=aq;rw[hw,hw2,om,cI,bJ ⟨aq,aq⟩,bJ h6];generalize s.aR[zR s.aR-1]! =ad;by_cases h:67108864<ad
  ·simp[h]
  ·simp[h];omega
 ·rw[bY (by have:=b2 h6;omega),bN h6];rfl
def afs(M:aS->aa aC->Bool->af oZ)(f:aS)(hv:de f.ai)(l:aa aC)(hl:zR l<=1000000)(hB:∀s∈l,zR s.aR<=1000000)(top:Bool)(hM:∀s∈l,M f s.aQ G=V (cc f G s.aQ)/\M f s.aX G=V (cc f G s.aX))(i:Nat)(hi:i<zR l):
  (ZD f top (zR l) i l[i]! =0->BU M ⟨l,top,(i:Int),f⟩=V (V ⟨l,top,((i+1:Nat):Int),f⟩))/\(ZD f top (zR l) i l[i]!≠0->BU M ⟨l,top,(i:Int),f⟩=V I):=by
 have hw:=jG hi hl;obtain⟨k1,k2⟩:=hM _ (bu hi);have hb:=hB _ (bu hi);have hi1:(i:Int)<(zR l:Int):=aq;have hi0:(0:Int)<=(i:Int):=aq;unfold BU ZD o6;simp only[zg,az.eta,aC.eta,U3 f l[i]! _ hb,Uq (zR l) i hl,Dl f.ai hv,hw,hi1];have e1':(bif top then some (bif dL f l[i]! (J (i+1=zR l))then false else true)else some (bif dL f l[i]! false then false else true))=some (bif dL f l[i]! (top&&J (i+1=zR l))then false else true):=by cases top<;>rfl
 rw[e1'];cases hS:dL f l[i]! (top&&J (i+1=zR l))with
 |false=>simp
 |true=>
  have hn:=Wc hS;rw[VI hS];unfold uA;generalize (if l[i]!.cg=6 then J (l[i]!.aR[zR l[i]!.aR-1]!<=67108864)else O)=B6;by_cases h2:l[i]!.cg=2
  ·grind
  ·rw[bN h2]at hn ⊢;rw[bY h2,hn 10000 rfl];generalize (J (0<=l[i]!.bh/\l[i]!.bh<=10000)&&(if l[i]!.cg=4 then J (0<=l[i]!.fN/\l[i]!.fN<=4096)else O))=N;generalize fG f.ai G l[i]!.aG=T;generalize l[i]!.aQ=A at k1 ⊢;generalize l[i]!.aX=ad at k2 ⊢;generalize cc f G A=a at*;generalize cc f G ad=b at*;cases N with
   |false=>simp
   |true=>
    cases B6 with
    |false=>simp
    |true=>
     by_cases hT:T=0
     ·by_cases ha:a=0
      ·by_cases hb:b=0
       ·simp[hT,ha,hb,k1,k2]
       ·simp[hT,ha,hb,k1,k2]
      ·simp[hT,ha,k1]
     ·simp[hT]
def akk(M:aS->aa aC->Bool->af oZ)(f:aS)(hv:de f.ai)(l:aa aC)(hl:zR l<=1000000)(hB:∀s∈l,zR s.aR<=1000000)(top:Bool)(hM:∀s∈l,M f s.aQ G=V (cc f G s.aQ)/\M f s.aX G=V (cc f G s.aX)):ah6 M f l top=V (cc f top l):=by
 obtain⟨i,e1,hc⟩:=tu (rnd:=BU M) l (λi=>⟨l,top,(i:Int),f⟩) (ZD f top (zR l)) (λi hi=>afs M f hv l hl hB top hM i hi) (by unfold BU;simp);have e1':LJ M ⟨l,top,0,f⟩=V ⟨l,top,(i:Int),f⟩:=e1;rw[qI f top (zR l) l 0 aq]at hc;unfold ah6;rw[e1'];dsimp only;rcases hc with ⟨rfl,hc⟩|⟨hi,h0,hc⟩
 ·simp_all
 ·rw[hc];obtain⟨k1,k2⟩:=hM _ (bu hi);have hb:=hB _ (bu hi);have hi1:(i:Int)<(zR l:Int):=aq;have hi0:(0:Int)<=(i:Int):=aq;revert h0;unfold ZD o6;simp only[zg,az.eta,aC.eta,U3 f l[i]! _ hb,Uq (zR l) i hl,Dl f.ai hv,hi1];have e1':(bif top then some (bif dL f l[i]! (J (i+1=zR l))then false else true)else some (bif dL f l[i]! false then false else true))=some (bif dL f l[i]! (top&&J (i+1=zR l))then false else true):=by cases top<;>rfl
  rw[e1'];cases hS:dL f l[i]! (top&&J (i+1=zR l))with
  |false=>simp
  |true=>
   have hn:=Wc hS;rw[VI hS];unfold uA;generalize (if l[i]!.cg=6 then J (l[i]!.aR[zR l[i]!.aR-1]!<=67108864)else O)=B6;by_cases h2:l[i]!.cg=2
   ·rw[bJ h2]at hn ⊢;rw[b7 h2,hn 67108864 rfl];generalize (J (0<=l[i]!.bh/\l[i]!.bh<=67108864)&&(if l[i]!.cg=4 then J (0<=l[i]!.fN/\l[i]!.fN<=4096)else O))=N;generalize fG f.ai G l[i]!.aG=T;generalize l[i]!.aQ=A at k1 ⊢;generalize l[i]!.aX=ad at k2 ⊢;generalize cc f G A=a at*;generalize cc f G ad=b at*;cases N with
    |false=>simp
    |true=>
     cases B6 with
     |false=>simp
     |true=>
      by_cases hT:T=0
      ·by_cases ha:a=0
       ·by_cases hb:b=0
        ·simp[hT,ha,hb]
        ·simp[hT,ha,hb,k1,k2]
       ·simp[hT,ha,k1]
      ·simp[hT]
   ·rw[bN h2]at hn ⊢;rw[bY h2,hn 10000 rfl];generalize (J (0<=l[i]!.bh/\l[i]!.bh<=10000)&&(if l[i]!.cg=4 then J (0<=l[i]!.fN/\l[i]!.fN<=4096)else O))=N;generalize fG f.ai G l[i]!.aG=T;generalize l[i]!.aQ=A at k1 ⊢;generalize l[i]!.aX=ad at k2 ⊢;generalize cc f G A=a at*;generalize cc f G ad=b at*;cases N with
    |false=>simp
    |true=>
     cases B6 with
     |false=>simp
     |true=>
      by_cases hT:T=0
      ·by_cases ha:a=0
       ·by_cases hb:b=0
        ·simp[hT,ha,hb]
        ·simp[hT,ha,hb,k1,k2]
       ·simp[hT,ha,k1]
      ·simp[hT]
def LQ(f:aS)(hv:de f.ai):∀(n:Nat) (l:aa aC) (top:Bool),zf l<n->fP l<=1000->Tp n f l top=V (cc f top l)
 |0,_,_,h,_=>aq
 |n+1,l,top,h,h2=>akk (Tp n) f hv l (by have:=j9 l;omega) (λs hs=>by have:=Dx hs;have:=pM s;omega) top (λs hs=>⟨LQ f hv n _ _ (by have:=bw hs;omega) (by have:=gB hs;omega),LQ f hv n _ _ (by have:=bw hs;omega) (by have:=gB hs;omega)⟩)
def aiU(f:aS)(hv:de f.ai)(l:aa aC)(top:Bool)(h:fP l<=1000):anm f l top=V (cc f top l):=eO (zf l+1) λn hn=>LQ f hv n l top aq h
def aaW(f:aS)(hv:de f.ai)(hl:zR f.au<=1000000)(i:Nat)(hi:i<zR f.au):
  (kR f i f.au[i]! =0->Ci ⟨f.au,(zR f.au:Int),(i:Int),f⟩=V (V ⟨f.au,(zR f.au:Int),((i+1:Nat):Int),f⟩))/\(kR f i f.au[i]!≠0->Ci ⟨f.au,(zR f.au:Int),(i:Int),f⟩=V I):=by
 have hw:=jG hi hl;have h2:=U1 (f.au.take i) (by rw[zA];omega) f.au[i]!;unfold Ci kR;simp only[az.eta,dF.eta,Dg,C6,Df f.ai hv];grind
def ahJ(f:aS)(hv:de f.ai)(hl:zR f.au<=1000000):afx f=V (cz (kR f) f.au 0):=by
 obtain⟨i,e1,hc⟩:=tu (rnd:=Ci) f.au (λi=>⟨f.au,(zR f.au:Int),(i:Int),f⟩) (kR f) (λi hi=>aaW f hv hl i hi) (by unfold Ci;simp);have e1':Ki ⟨f.au,(zR f.au:Int),0,f⟩=V ⟨f.au,(zR f.au:Int),(i:Int),f⟩:=e1;unfold afx;rw[e1'];rcases hc with ⟨rfl,hc⟩|⟨hi,h0,hc⟩
 ·simp_all
 ·rw[hc];have h2:=U1 (f.au.take i) (by rw[zA];omega) f.au[i]!;revert h0;unfold kR;simp only[az.eta,dF.eta,Dg,C6,Df f.ai hv];grind
def alB(f:aS)(hv:de f.ai)(hl:zR f.au<=1000000)(i:Nat)(hi:i<zR f.au):
  (kR f i f.au[i]! =0->HT ⟨(i:Int),f⟩=V (V ⟨((i+1:Nat):Int),f⟩))/\(kR f i f.au[i]!≠0->HT ⟨(i:Int),f⟩=V I):=by
 have hw:=jG hi hl;obtain⟨j,h2,h3⟩:=N1 f hl i aq f.au[i]!;unfold HT kR;simp only[zg,az.eta,DJ,DM,h2,Dl f.ai hv];grind
def aew(f:aS)(hv:de f.ai)(hl:zR f.au<=1000000):∃i:Nat,Wy ⟨0,f⟩=V ⟨(i:Int),f⟩/\((i=zR f.au/\cz (kR f) f.au 0=0)\/(i<zR f.au/\kR f i f.au[i]!≠0/\cz (kR f) f.au 0=kR f i f.au[i]!)):=
 tu (rnd:=HT) f.au (λi=>⟨(i:Int),f⟩) (kR f) (λi hi=>alB f hv hl i hi) (by unfold HT;simp)
def BJ{f:aS}{i:Nat}(hi:i<zR f.au):kH ((f.au.take i).map (·.aG))+nT f.au[i]!.aG<=kH (f.au.map (·.aG)):=by
 have h:=Gc (f.au.map (·.aG)) (i+1);rw[<-xK,bG hi,zM,DK]at h
 assumption
def ag8(f:aS)(h:fP f.bK+kH (f.au.map (·.aG))<=900)(hl:zR f.au<=1000000):al7 f=V (ry f):=by
 unfold al7 ry;by_cases h1:64<(zR f.ai:Int)
 ·grind
 by_cases h2:8<(zR f.au:Int)
 ·grind
 rw[bY h1,bY h2,b7 (show zR f.ai<=64 by omega),b7 (show zR f.au<=8 by omega)];dsimp only[cv,cI];have hb:=Dj f.bK;rw[amS f.bK aq];obtain⟨i,b,e1,hI,hc⟩:=me (rnd:=Gf) (zR f.au) (λi (b:Int)=>⟨b,(i:Int),f⟩) (λi b=>(0<=b/\b<=fP f.bK+kH ((f.au.take i).map (·.aG)))/\∀j,j<i->dT f.au[j]!.aG<=12) (λi _=>12<dT f.au[i]!.aG) (λi b hi hI=>by
  have hn:=BJ hi;have hw:=jG hi hl;have k1:=JS f.au[i]!.aG aq;have k2:=J6 f.au[i]!.aG aq;have hi1:(i:Int)<(zR f.au:Int):=aq;have hi0:(0:Int)<=(i:Int):=aq;by_cases hd:12<dT f.au[i]!.aG
  ·refine .inr ⟨?_,hd⟩;unfold Gf;simp only[cZ,az.eta,k1,k2,hi1,hi0,cI,dS,hd]
  ·refine .inl ⟨b+nT f.au[i]!.aG,?_,⟨aq,?_⟩,λj hj=> ?_⟩
   ·have hw2:aj (b+(nT f.au[i]!.aG:Int))=b+nT f.au[i]!.aG:=aM;unfold Gf;simp only[cZ,cU,az.eta,k1,k2,hi1,hi0,dS,hd,hw,hw2]
   ·rw[bG hi,zM,DK];simp only[yf,yU,qd];omega
   ·rcases xo.1 hj with h|h
    ·exact hI.2 j h
    ·subst h;omega) (λb _=>by unfold Gf;simp) (b:=gP f.bK) ⟨⟨aq,by simp only[wj,yU,show kH []=0 from rfl];omega⟩,λj hj=>ep hj aq⟩
 have e1':K7 ⟨gP f.bK,0,f⟩=V ⟨b,(i:Int),f⟩:=e1;dsimp only;rw[e1'];dsimp only;rcases hc with rfl|⟨hi,hd⟩
 ·rw[bY (show ¬((zR f.au:Int)<(zR f.au:Int))by omega),cv];have ha:f.au.all (λh=>J (dT h.aG<=12))=O:=D3 λj hj=>by simpa using hI.2 j hj
  have hn:=hI.1.2;rw[zH]at hn;rw[ha,b7 (show b<=1024 by omega),cI,agY f.bK aq,alX f.bK aq];by_cases h5:jP f.bK<=12
  ·cases fL f.bK<;>simp[h5]
  ·simp[h5]
 ·have hn:=BJ hi;have k1:=JS f.au[i]!.aG aq;have k2:=J6 f.au[i]!.aG aq;have hi1:(i:Int)<(zR f.au:Int):=aq;have hi0:(0:Int)<=(i:Int):=aq;have ha:f.au.all (λh=>J (dT h.aG<=12))=G:=vq hi (by simpa using hd);simp only[cZ,az.eta,k1,k2,hi1,hi0,cI,dS,hd,ha,Bool.and_false,Bool.false_and]
def aic(M:aa aC->Int->bk->af td)(l:aa aC)(hM:∀s∈l,∀(d:Int) (b:bk),0<=d->d<=13->0<=b.bH->(b.bH+fP s.aQ<=1000->M s.aQ d b=V (oh d s.aQ b))/\(b.bH+fP s.aX<=1000->M s.aX d b=V (oh d s.aX b)))(d:Int)(b:bk)(h0:0<=d)(hd:d<=13)(h1:0<=b.bH)(h2:b.bH+fP l<=1000):al8 M l d b=V (oh d l b):=by
 have hL:=j9 l;have hw1:aj (d+1)=d+1:=aM;have hgo:∀(l:aa aC) (i:Nat) (b:bk),Py (λ_ (b:bk) (s:aC)=>if fR (dH d b)=O then(.inr (dH d b):bk ⊕ bk)else .inl (oh (d+1) s.aX (oh (d+1) s.aQ (AL s.aG 1 (dH d b))))) id id l i b=oh d l b:=by
  intro l;induction l with
  |nil=>intro i b;rw[oh];rfl
  |cons s l ih=>
   intro i b;rw[oh];by_cases ho:fR (dH d b)=O
   ·rw[bJ ho,oD (r:=dH d b) (by rw[bJ ho])];rfl
   ·rw[bN ho,sy (b':=oh (d+1) s.aX (oh (d+1) s.aQ (AL s.aG 1 (dH d b)))) (by rw[bN ho])];exact ih (i+1) _
 have hm:∀(b:bk) (x:Bool),-1000000<=b.bH->b.bH<=1000000->x=(b.fQ||J (12<d))->jH ⟨aj (b.bH+1),x⟩=(fR (dH d b),dH d b):=λb x b1 b2 hx=>by
  rw[vI,aM,hx];rfl
 have hs:∀(i:Nat) (b:bk),i<zR l->0<=b.bH->b.bH+nS l[i]!<=1000->fR (dH d b)=G->d<=12/\GS l[i]!.aG 1 (dH d b)=V (AL l[i]!.aG 1 (dH d b))/\M l[i]!.aQ (d+1) (AL l[i]!.aG 1 (dH d b))=V (oh (d+1) l[i]!.aQ (AL l[i]!.aG 1 (dH d b)))/\M l[i]!.aX (d+1) (oh (d+1) l[i]!.aQ (AL l[i]!.aG 1 (dH d b)))=V (oh (d+1) l[i]!.aX (oh (d+1) l[i]!.aQ (AL l[i]!.aG 1 (dH d b))))/\0<=(oh (d+1) l[i]!.aX (oh (d+1) l[i]!.aQ (AL l[i]!.aG 1 (dH d b)))).bH/\(oh (d+1) l[i]!.aX (oh (d+1) l[i]!.aQ (AL l[i]!.aG 1 (dH d b)))).bH<=b.bH+nS l[i]! :=λi b hi b1 b2 ho=>by
  have hd2:d<=12:=by unfold fR dH at ho;grind
  have hN:=pM l[i]!;have hp:(dH d b).bH=b.bH+1:=rfl;obtain⟨a1,a2,a3⟩:=Kf l[i]!.aG 1 (dH d b) aq aq aq;obtain⟨c1,c2,c3⟩:=QN (d+1) l[i]!.aQ (AL l[i]!.aG 1 (dH d b)) aq aq aq aq;obtain⟨g1,g2,g3⟩:=QN (d+1) l[i]!.aX (oh (d+1) l[i]!.aQ (AL l[i]!.aG 1 (dH d b))) aq aq aq aq;exact⟨hd2,U8 _ 1 _ aq aq aq aq,(hM _ (bu hi) (d+1) _ aq aq aq).1 aq,(hM _ (bu hi) (d+1) _ aq aq aq).2 aq,aq,aq⟩
 obtain⟨i,v,e1,hI,hc⟩:=Va (rnd:=Gs M) l (λi (b:bk)=>⟨d,l,(zR l:Int),(i:Int),b⟩) (λ_ (b:bk) (s:aC)=>if fR (dH d b)=O then(.inr (dH d b):bk ⊕ bk)else .inl (oh (d+1) s.aX (oh (d+1) s.aQ (AL s.aG 1 (dH d b))))) id id (λi x=>0<=x.bH/\x.bH<=b.bH+fP (l.take i)) (λi x hi hx=>by
   have hn:=Ev hi;have hw:=jG hi aq;have hi1:(i:Int)<(zR l:Int):=aq;have hi0:(0:Int)<=(i:Int):=aq;have hmx:=hm x;cases ho:fR (dH d x)with
   |true=>
    refine⟨λb' hb'=>by simp at hb',λr hr=> ?_⟩;unfold Gs;dsimp only;simp only[hi1];cases hb:x.fQ with
    |true=>rw[hmx O aq aq (by rw[hb];rfl),ho];rfl
    |false=>rw[hmx (J (12<d)) aq aq (by rw[hb];rfl),ho];rfl
   |false=>
    obtain⟨q0,q1,q2,q3,q4,q5⟩:=hs i x hi hx.1 aq ho;refine⟨λb' hb'=> ?_,λr hr=>by simp at hr⟩;have hb':oh (d+1) l[i]!.aX (oh (d+1) l[i]!.aQ (AL l[i]!.aG 1 (dH d x)))=b':=by simpa using hb'
    subst hb';refine⟨?_,⟨q4,by rw[bG hi,NI];omega⟩⟩;unfold Gs;dsimp only;simp only[cZ,hi1,hi0,dS];cases hb:x.fQ with
    |true=>rw[hmx O aq aq (by rw[hb];rfl),ho];simp only[cU,az.eta,q1,q2,q3,hw1,hw]
    |false=>rw[hmx (J (12<d)) aq aq (by rw[hb];rfl),ho];simp only[cU,az.eta,q1,q2,q3,hw1,hw]) (λx _=>by unfold Gs;simp) (b:=b) ⟨h1,by simp[fP]⟩
 have e1':KN M ⟨d,l,(zR l:Int),0,b⟩=V ⟨d,l,(zR l:Int),(i:Int),v⟩:=e1;rw[hgo]at hc;unfold al8;rw[e1'];dsimp only;rcases hc with ⟨rfl,hc⟩|⟨hi,r,hr,hc⟩
 ·rw[hc,fO];rfl
 ·have hn:=Ev hi;have hi1:(i:Int)<(zR l:Int):=aq;have hi0:(0:Int)<=(i:Int):=aq;have ho:fR (dH d v)=O:=by
   by_cases ho:fR (dH d v)=O
   ·exact ho
   ·rw[bN ho]at hr;cases hr
  rw[bJ ho]at hr;cases hr;rw[hc];have hmx:=hm v;simp only[cZ,hi1,hi0,cI,dS];cases hb:v.fQ with
  |true=>rw[hmx O aq aq (by rw[hb];rfl),ho];rfl
  |false=>rw[hmx (J (12<d)) aq aq (by rw[hb];rfl),ho];rfl
def KA:∀(n:Nat) (l:aa aC) (d:Int) (b:bk),zf l<n->0<=d->d<=13->0<=b.bH->b.bH+fP l<=1000->T3 n l d b=V (oh d l b)
 |0,_,_,_,h,_,_,_,_=>aq
 |n+1,l,d,b,h,h0,hd,h1,h2=>aic (T3 n) l (λs hs d b a1 a2 a3=>⟨λa4=>KA n _ d b (by have:=bw hs;omega) a1 a2 a3 a4,λa4=>KA n _ d b (by have:=bw hs;omega) a1 a2 a3 a4⟩) d b h0 hd h1 h2
def amx(l:aa aC)(d:Int)(b:bk)(h0:0<=d)(hd:d<=13)(h1:0<=b.bH)(h2:b.bH+fP l<=1000):abT l d b=V (oh d l b):=eO (zf l+1) λn hn=>KA n l d b aq h0 hd h1 h2
def agA(f:aS)(h:fP f.bK+kH (f.au.map (·.aG))<=900)(hl:zR f.au<=1000000):∃r q,abT f.bK 1 ⟨0,G⟩=V r/\FN ⟨f.au,(zR f.au:Int),0,f,r⟩=V ⟨f.au,(zR f.au:Int),(zR f.au:Int),f,q⟩/\fR q= !(f.au.all (λh=>J (dT h.aG<=12))&&J (jP f.bK<=12)&& !fL f.bK):=by
 obtain⟨p1,p2,p3⟩:=QN 1 f.bK ⟨0,G⟩ aq aq (zw 0) (by show (0:Int)+_<=_;omega);have p2:0<=(oh 1 f.bK ⟨0,G⟩).bH:=p2;have p3:(oh 1 f.bK ⟨0,G⟩).bH<=0+fP f.bK:=p3;refine⟨oh 1 f.bK ⟨0,G⟩,?_⟩;have p4:=amx f.bK 1 ⟨0,G⟩ aq aq (zw 0) (by show (0:Int)+_<=_;omega);generalize oh 1 f.bK ⟨0,G⟩=r at*;obtain⟨q,e1,hI⟩:=cH (rnd:=Fv) (zR f.au) (λi (q:bk)=>⟨f.au,(zR f.au:Int),(i:Int),f,q⟩) (λi q=>q.fQ=(r.fQ||(f.au.take i).any λh=>J (12<dT h.aG))/\0<=q.bH/\q.bH<=r.bH+kH ((f.au.take i).map (·.aG))) (λi q hi hI=>by
  have hn:=BJ hi;have hw:=jG hi hl;have hi1:(i:Int)<(zR f.au:Int):=aq;have hi0:(0:Int)<=(i:Int):=aq;have hn2:kH ((f.au.take (i+1)).map (·.aG))=kH ((f.au.take i).map (·.aG))+nT f.au[i]!.aG:=by
   rw[bG hi,zM,DK];rfl
  have ha:((f.au.take (i+1)).any λh=>J (12<dT h.aG))=(((f.au.take i).any λh=>J (12<dT h.aG))||J (12<dT f.au[i]!.aG)):=by
   rw[bG hi,List.any_append,List.any_cons,List.any_nil,Bool.or_false]
  rw[ha,hn2];obtain⟨q1,q2,q3⟩:=hI;cases ho:fR q with
  |true=>
   refine⟨q,?_,?_,q2,aq⟩
   ·unfold Fv;dsimp only;simp only[cZ,cU,hi1,hi0,dS,vI,ho,hw]
   ·unfold fR at ho;rw[bY (show ¬1024<q.bH by omega),Bool.or_false]at ho;rw[<-Bool.or_assoc,<-q1,ho];rfl
  |false=>
   obtain⟨c1,c2,c3⟩:=Kf f.au[i]!.aG 1 q aq q2 aq;have k:=U8 f.au[i]!.aG 1 q aq aq q2 aq;refine⟨AL f.au[i]!.aG 1 q,?_,?_,aq,aq⟩
   ·unfold Fv;dsimp only;simp only[cZ,cU,az.eta,hi1,hi0,dS,vI,ho,hw,k]
   ·rw[c1,q1,Bool.or_assoc];rw[show J (12<1-1+dT f.au[i]!.aG)=J (12<dT f.au[i]!.aG)from decide_eq_decide.2 aq]) (λq _=>by unfold Fv;simp) (b:=r) ⟨by simp,p2,by simp[kH]⟩
 have e1':FN ⟨f.au,(zR f.au:Int),0,f,r⟩=V ⟨f.au,(zR f.au:Int),(zR f.au:Int),f,q⟩:=e1;refine⟨q,p4,e1',?_⟩;rw[zH]at hI;obtain⟨q1,q2,q3⟩:=hI;unfold fR;rw[bY (show ¬1024<q.bH by omega),Bool.or_false,q1,p1];have e2:(f.au.any λh=>J (12<dT h.aG))= !(f.au.all λh=>J (dT h.aG<=12)):=by
  rw[List.not_all_eq_any_not]
  congr 1
  funext h
  by_cases hd:dT h.aG<=12
  ·simp[hd]
  ·simp[hd];omega
 have e3:J (12<1-1+jP f.bK)= !J (jP f.bK<=12):=by
  by_cases hd:jP f.bK<=12
  ·simp[hd]
  ·simp[hd];omega
 rw[e2,e3];generalize (f.au.all λh=>J (dT h.aG<=12))=x;generalize J (jP f.bK<=12)=y;generalize fL f.bK=z;cases x<;>cases y<;>cases z<;>rfl
def AP:aa aC->Prop
 |[]=>True
 |s::l=>(0<=s.bh/\s.bh<=67108864)/\(s.cg=4->0<=s.fN/\s.fN<=4096)/\(s.cg≠3->s.cg≠4->s.aQ=[])/\(s.cg≠3->s.aX=[])/\AP s.aQ/\AP s.aX/\AP l
termination_by l=>zf l
decreasing_by
 ·exact(bw (zk ..)).1
 ·exact(bw (zk ..)).2
 ·exact ei _ _
def arz{s:aC}(h:uA s=O):(0<=s.bh/\s.bh<=67108864)/\(s.cg=4->0<=s.fN/\s.fN<=4096):=by
 unfold uA at h;grind
def Bl(f:aS):∀(n:Nat) (l:aa aC) (top:Bool),zf l<n->cc f top l=0->AP l
 |0,_,_,h,_=>aq
 |n+1,[],top,h,hc=>by rw[AP];trivial
 |n+1,s::l,top,h,hc=>by
  rw[cc]at hc;have hz:=bw (l:=s::l) (zk ..);have hz2:=ei s l;by_cases h1:o6 f (top&&l.isEmpty) s≠0
  ·omega
  rw[bN h1]at hc;by_cases h2:cc f G s.aQ≠0
  ·omega
  rw[bN h2]at hc;by_cases h3:cc f G s.aX≠0
  ·omega
  rw[bN h3]at hc;have q1:=Bl f n s.aQ G aq aq;have q2:=Bl f n s.aX G aq aq;have q3:=Bl f n l top aq hc;unfold o6 at h1;cases hS:dL f s (top&&l.isEmpty)with
  |false=>rw[hS]at h1;simp at h1
  |true=>
   rw[hS]at h1;cases hN:uA s with
   |false=>rw[hN]at h1;simp at h1
   |true=>
    obtain⟨n1,n2⟩:=arz hN;obtain⟨b1,b2,b3,b4,b5⟩:=jE hS;rw[AP];simp_all
def GW(s:aC)(a b:Int×Int×Int):Int×Int×Int:=
 if s.cg=1 then(1,1,s.bh)
 else if s.cg=3 then(1+max a.1 b.1,max a.2.1 b.2.1,s.bh+max a.2.2 b.2.2)
 else if s.cg=4 then(1+s.fN*(1+a.1),s.fN*a.2.1,s.fN*(s.bh+a.2.2))
 else(1,0,s.bh)
def MD(a b:Int×Int×Int):Int×Int×Int:=(a.1+b.1,a.2.1+b.2.1,a.2.2+b.2.2)
def Af(s:aC)(l:aa aC):fk (s::l)=MD (GW s (fk s.aQ) (fk s.aX)) (fk l):=by
 rw[fk];unfold GW MD;grind
def Pf(l:aa aC)(s:aC):fk (l++[s])=MD (fk l) (GW s (fk s.aQ) (fk s.aX)):=by
 have h0:fk []=(0,0,0):=by rw[fk]
 induction l with
 |nil=>rw[yz,Af,h0];unfold MD;simp
 |cons a l ih=>
  rw[xy,Af,Af,ih];unfold MD;grind
def sU(c:Int×Int×Int)(a:Int×Int×Int):Int×Int×Int:=(min a.1 c.1,min a.2.1 c.2.1,min a.2.2 c.2.2)
def anb{n x c k:Int}(hn:0<=n)(hk:0<=k)(hx:0<=x)(hc:0<=c):min (n*(k+min x c)) c=min (n*(k+x)) c:=by
 by_cases h:x<=c
 ·grind
 ·rw[Int.min_eq_right (show c<=x by omega)];by_cases h0:n=0
  ·simp_all
  ·have e1:1*(k+c)<=n*(k+c):=zL aq aq;have e2:1*(k+x)<=n*(k+x):=zL aq aq;omega
def oV:∀{l:aa aC},AP l->∀s∈l,(0<=s.bh/\s.bh<=67108864)/\(s.cg=4->0<=s.fN/\s.fN<=4096)/\(s.cg≠3->s.cg≠4->s.aQ=[])/\(s.cg≠3->s.aX=[])/\AP s.aQ/\AP s.aX
 |[],_,s,hs=>by cases hs
 |a::l,h,s,hs=>by
  rw[AP]at h;rcases zy.1 hs with rfl|hs
  ·simp_all
  ·exact oV h.2.2.2.2.2.2 s hs
def nn3(a:Int×Int×Int):Prop:=0<=a.1/\0<=a.2.1/\0<=a.2.2
def arS{s:aC}{a b:Int×Int×Int}(hc:0<=s.bh)(hN:s.cg=4->0<=s.fN)(ha:nn3 a)(hb:nn3 b):nn3 (GW s a b):=by
 unfold nn3 at*;unfold GW;split
 ·simp_all
 ·split
  ·grind
  ·split
   ·rename_i h4;have:=hN h4;have e1:0<=s.fN*(1+a.1):=zJ this aq;have e2:0<=s.fN*a.2.1:=zJ this aq;have e3:0<=s.fN*(s.bh+a.2.2):=zJ this aq;dsimp only;omega
   ·simp_all
def Jy:∀(n:Nat) (l:aa aC),zf l<n->AP l->nn3 (fk l)
 |0,_,h,_=>aq
 |n+1,[],h,_=>by rw[show fk []=(0,0,0)by rw[fk]];exact⟨by decide,by decide,by decide⟩
 |n+1,s::l,h,ho=>by
  have hz:=bw (l:=s::l) (zk ..);have hz2:=ei s l;rw[AP]at ho;have q1:=Jy n s.aQ aq ho.2.2.2.2.1;have q2:=Jy n s.aX aq ho.2.2.2.2.2.1;have q3:=Jy n l aq ho.2.2.2.2.2.2;have q4:=arS ho.1.1 (λh=>(ho.2.1 h).1) q1 q2;rw[Af];unfold nn3 MD at*;grind
def sL{l:aa aC}(h:AP l):nn3 (fk l):=Jy _ l (zC _) h
def D6:∀{l:aa aC} (i:Nat),AP l->AP (l.take i)
 |[],i,h=>by rw[List.take_nil];exact h
 |s::l,0,h=>by rw[wj,AP];trivial
 |s::l,i+1,h=>by
  rw[AP]at h;rw[List.take_succ_cons,AP];exact⟨h.1,h.2.1,h.2.2.1,h.2.2.2.1,h.2.2.2.2.1,h.2.2.2.2.2.1,D6 i h.2.2.2.2.2.2⟩
def M3(a:Int×Int×Int):qe:=⟨a.1,a.2.1,a.2.2⟩
def Sq:Int×Int×Int:=(1099511627776,1099511627776,1099511627776)
def Mi:Int×Int×Int:=(4097,9,67108865)
def ajd{n x:Int}(h1:0<=n)(h2:n<=4096)(h3:0<=x)(h4:x<=1200000000000):0<=n*x/\n*x<=4915200000000000:=by
 have e1:n*x<=4096*x:=zL h2 h3;have e2:0<=n*x:=zJ h1 h3;omega
def kU(w c:Int):(if c<w then c else w)=min w c:=aq
def arc(w c:Int):(if w<c then w else c)=min w c:=aq
def RR(a b c:Int):(if min a c<min b c then min b c else min a c)=min (max a b) c:=aq
def am5(a b c:Int):(if min b c<min a c then min a c else min b c)=min (max a b) c:=aq
section
variable {C x y m k n a:Int} (h0:0<=C) (h1:C<=1099511627776) (hx:0<=x)
include h0 h1 hx
theorem Qc(hy:0<=y)(hy2:y<=67108864):min (aj (min x C+y)) C=min (x+y) C:=by
 rw[aM];omega
theorem Yt(hm:0<=m)(hk:0<=k)(hk2:k<=67108864):min (aj (min x C+aj (k+min m C))) C=min (x+(k+m)) C:=by
 have:aj (k+min m C)=k+min m C:=aM;rw[this,aM];omega
theorem apr(hm:0<=m):min (aj (min x C+min m C)) C=min (x+m) C:=by
 rw[aM];omega
theorem auC{z:Int}(hz:0<=z)(hy:0<=y)(hy2:y<=4915200000000001)(h:min y C=min z C):min (aj (min x C+y)) C=min (x+z) C:=by
 rw[aM];omega
omit hx in
theorem aaq(hn:0<=n)(hn2:n<=4096)(ha:0<=a)(hk:0<=k)(hk2:k<=67108864):aj (n*aj (k+min a C))=n*(k+min a C)/\0<=n*(k+min a C)/\n*(k+min a C)<=4915200000000000/\0<=n*(k+a)/\min (n*(k+min a C)) C=min (n*(k+a)) C:=by
 have e1:aj (k+min a C)=k+min a C:=aM;have e2:=ajd (x:=k+min a C) hn hn2 aq aq;rw[e1];exact⟨aM,e2.1,e2.2,zJ hn aq,anb hn hk ha h0⟩
theorem azn(hn:0<=n)(hn2:n<=4096)(ha:0<=a)(hk:0<=k)(hk2:k<=67108864):min (aj (min x C+aj (n*aj (k+min a C)))) C=min (x+n*(k+a)) C:=by
 obtain⟨q1,q2,q3,q4,q5⟩:=aaq h0 h1 hn hn2 ha hk hk2;rw[q1];exact auC h0 h1 hx q4 q2 aq q5
theorem ap7(hn:0<=n)(hn2:n<=4096)(ha:0<=a):min (aj (min x C+aj (1+aj (n*aj (1+min a C))))) C=min (x+(1+n*(1+a))) C:=by
 obtain⟨q1,q2,q3,q4,q5⟩:=aaq (k:=1) h0 h1 hn hn2 ha aq aq;rw[q1];generalize n*(1+min a C)=y at*;rw[show aj (1+y)=1+y from aM];exact auC h0 h1 hx aq aq aq aq
theorem an3(hn:0<=n)(hn2:n<=4096)(ha:0<=a):min (aj (min x C+aj (n*min a C))) C=min (x+n*a) C:=by
 obtain⟨q1,q2,q3,q4,q5⟩:=aaq (k:=0) h0 h1 hn hn2 ha aq aq;rw[Int.zero_add]at q2 q3 q4 q5;rw[Int.zero_add]at q5;rw[show aj (n*min a C)=n*min a C from aM];exact auC h0 h1 hx q4 q2 aq q5
end
def ak6(M:aa aC->af sR)(l:aa aC)(hl:zR l<=1000000)(ho:AP l)(hM:∀s∈l,M s.aQ=V (M3 (sU Sq (fk s.aQ)))/\M s.aX=V (M3 (sU Sq (fk s.aX)))):aga M l=V (M3 (sU Sq (fk l))):=by
 obtain⟨v,e1,hv⟩:=cH (rnd:=JA M) (zR l) (λi (b:qe)=>⟨l,(zR l:Int),(i:Int),⟨0,0,0⟩,b⟩) (λi b=>b=M3 (sU Sq (fk (l.take i)))) (λi bb hi hb=>by
  have hw:=jG hi hl;obtain⟨k1,k2⟩:=hM _ (bu hi);obtain⟨⟨c1,c2⟩,hN,_,_,o1,o2⟩:=oV ho _ (bu hi);obtain⟨x1,x2,x3⟩:=sL (D6 i ho);obtain⟨a1,a2,a3⟩:=sL o1;obtain⟨b1,b2,b3⟩:=sL o2;refine⟨M3 (sU Sq (fk (l.take (i+1)))),?_,rfl⟩;have hi1:(i:Int)<(zR l:Int):=aq;have hi0:(0:Int)<=(i:Int):=aq;rw[bG hi,Pf];generalize fk (l.take i)=x at*;generalize fk l[i]!.aQ=a at*;generalize fk l[i]!.aX=b at*;obtain⟨X1,X2,X3⟩:=x;obtain⟨A1,A2,A3⟩:=a;obtain⟨B1,B2,B3⟩:=b;have hb:bb=⟨min X1 1099511627776,min X2 1099511627776,min X3 1099511627776⟩:=hb;have k1:M l[i]!.aQ=V ⟨min A1 1099511627776,min A2 1099511627776,min A3 1099511627776⟩:=k1;have k2:M l[i]!.aX=V ⟨min B1 1099511627776,min B2 1099511627776,min B3 1099511627776⟩:=k2;subst hb;have z0:(0:Int)<=1099511627776:=by decide
  have z1:(1099511627776:Int)<=1099511627776:=by decide
  dsimp only at x1 x2 x3 a1 a2 a3 b1 b2 b3;unfold JA;simp only[zg,hi1,k1,k2,hw];by_cases h1:l[i]!.cg=1
  ·have e:GW l[i]! (A1,A2,A3) (B1,B2,B3)=(1,1,l[i]!.bh):=by unfold GW;rw[bJ h1]
   rw[b7 h1,cI,e,kU,kU,kU,Qc z0 z1 x1 aq aq,Qc z0 z1 x2 aq aq,Qc z0 z1 x3 c1 c2];rfl
  ·rw[bY h1,cv];by_cases h3:l[i]!.cg=3
   ·have e:GW l[i]! (A1,A2,A3) (B1,B2,B3)=(1+max A1 B1,max A2 B2,l[i]!.bh+max A3 B3):=by unfold GW;rw[bN h1,bJ h3]
    rw[b7 h3,cI,e,RR,RR,RR,kU,kU,kU,Yt z0 z1 x1 aq aq aq,apr z0 z1 x2 aq,Yt z0 z1 x3 aq c1 c2];rfl
   ·rw[bY h3,cv];by_cases h4:l[i]!.cg=4
    ·obtain⟨n1,n2⟩:=hN h4;have e:GW l[i]! (A1,A2,A3) (B1,B2,B3)=(1+l[i]!.fN*(1+A1),l[i]!.fN*A2,l[i]!.fN*(l[i]!.bh+A3)):=by unfold GW;rw[bN h1,bN h3,bJ h4]
     rw[b7 h4,cI,e,kU,kU,kU,ap7 z0 z1 x1 n1 n2 a1,an3 z0 z1 x2 n1 n2 a2,azn z0 z1 x3 n1 n2 a3 c1 c2];rfl
    ·have e:GW l[i]! (A1,A2,A3) (B1,B2,B3)=(1,0,l[i]!.bh):=by unfold GW;rw[bN h1,bN h3,bN h4]
     rw[bY h4,cv,e,kU,kU,kU,Qc z0 z1 x1 aq aq,Qc z0 z1 x2 aq aq,Qc z0 z1 x3 c1 c2];rfl) (λb _=>by unfold JA;simp) (b:=⟨0,0,0⟩) (by rw[wj,show fk []=(0,0,0)by rw[fk]];rfl)
 have e1':Lf M ⟨l,(zR l:Int),0,⟨0,0,0⟩,⟨0,0,0⟩⟩=V ⟨l,(zR l:Int),(zR l:Int),⟨0,0,0⟩,v⟩:=e1;unfold aga;simp_all
def Mc:∀(n:Nat) (l:aa aC),zf l<n->fP l<=1000->AP l->RT n l=V (M3 (sU Sq (fk l)))
 |0,_,h,_,_=>aq
 |n+1,l,h,h2,ho=>ak6 (RT n) l (by have:=j9 l;omega) ho (λs hs=>⟨Mc n _ (by have:=bw hs;omega) (by have:=gB hs;omega) (oV ho s hs).2.2.2.2.1,Mc n _ (by have:=bw hs;omega) (by have:=gB hs;omega) (oV ho s hs).2.2.2.2.2⟩)
def amr(l:aa aC)(h:fP l<=1000)(ho:AP l):aaU l=V (M3 (sU Sq (fk l))):=eO (zf l+1) λn hn=>Mc n l aq h ho
def ara(M:aa aC->af MF)(l:aa aC)(hl:zR l<=1000000)(ho:AP l)(hM:∀s∈l,M s.aQ=V (sU Mi (fk s.aQ))/\M s.aX=V (sU Mi (fk s.aX))):s90 M l=V (sU Mi (fk l)):=by
 obtain⟨v,e1,hv⟩:=cH (rnd:=Wf M) (zR l) (λi (b:Int×Int×Int)=>⟨l,b.1,b.2.1,b.2.2,(i:Int)⟩) (λi b=>b=sU Mi (fk (l.take i))) (λi bb hi hb=>by
  have hw:=jG hi hl;obtain⟨k1,k2⟩:=hM _ (bu hi);obtain⟨⟨c1,c2⟩,hN,hT,hE,o1,o2⟩:=oV ho _ (bu hi);obtain⟨x1,x2,x3⟩:=sL (D6 i ho);obtain⟨a1,a2,a3⟩:=sL o1;obtain⟨b1,b2,b3⟩:=sL o2;have zT:l[i]!.cg≠3->l[i]!.cg≠4->fk l[i]!.aQ=(0,0,0):=λh3 h4=>by rw[hT h3 h4,fk]
  have zE:l[i]!.cg≠3->fk l[i]!.aX=(0,0,0):=λh3=>by rw[hE h3,fk]
  refine⟨sU Mi (fk (l.take (i+1))),?_,rfl⟩;have hi1:(i:Int)<(zR l:Int):=aq;have hi0:(0:Int)<=(i:Int):=aq;rw[bG hi,Pf];generalize fk (l.take i)=x at*;generalize fk l[i]!.aQ=a at*;generalize fk l[i]!.aX=b at*;obtain⟨X1,X2,X3⟩:=x;obtain⟨A1,A2,A3⟩:=a;obtain⟨B1,B2,B3⟩:=b;have hb:bb=(min X1 4097,min X2 9,min X3 67108865):=hb;have k1:M l[i]!.aQ=V (min A1 4097,min A2 9,min A3 67108865):=k1;have k2:M l[i]!.aX=V (min B1 4097,min B2 9,min B3 67108865):=k2;subst hb;have z0:(0:Int)<=4097:=by decide
  have z1:(4097:Int)<=1099511627776:=by decide
  have y0:(0:Int)<=9:=by decide
  have y1:(9:Int)<=1099511627776:=by decide
  have u0:(0:Int)<=67108865:=by decide
  have u1:(67108865:Int)<=1099511627776:=by decide
  dsimp only at x1 x2 x3 a1 a2 a3 b1 b2 b3;unfold Wf;simp only[cZ,hi1,hi0,cI,dS,k1,k2,hw,sK,pG,arc,am5];by_cases h4:l[i]!.cg=4
  ·obtain⟨n1,n2⟩:=hN h4;have h1:¬l[i]!.cg=1:=aq;have h3:¬l[i]!.cg=3:=aq;have e:GW l[i]! (A1,A2,A3) (B1,B2,B3)=(1+l[i]!.fN*(1+A1),l[i]!.fN*A2,l[i]!.fN*(l[i]!.bh+A3)):=by unfold GW;rw[bN h1,bN h3,bJ h4]
   rw[b7 h4,bY h1,cI,cv,e,ap7 z0 z1 x1 n1 n2 a1,an3 y0 y1 x2 n1 n2 a2,azn u0 u1 x3 n1 n2 a3 c1 c2];rfl
  ·rw[bY h4,cv];by_cases h1:l[i]!.cg=1
   ·have h3:¬l[i]!.cg=3:=aq;have ea:=zT h3 h4;have eb:=zE h3;cases ea;cases eb;have e:GW l[i]! (0,0,0) (0,0,0)=(1,1,l[i]!.bh):=by unfold GW;rw[bJ h1]
    rw[b7 h1,cI,e,Yt z0 z1 x1 aq aq aq,Qc y0 y1 x2 aq aq,Yt u0 u1 x3 aq c1 c2];simp only[sU,Mi,MD,Int.max_self,Int.add_zero]
   ·rw[bY h1,cv,Yt z0 z1 x1 aq aq aq,apr y0 y1 x2 aq,Yt u0 u1 x3 aq c1 c2];by_cases h3:l[i]!.cg=3
    ·have e:GW l[i]! (A1,A2,A3) (B1,B2,B3)=(1+max A1 B1,max A2 B2,l[i]!.bh+max A3 B3):=by unfold GW;rw[bN h1,bJ h3]
     rw[e];rfl
    ·have ea:=zT h3 h4;have eb:=zE h3;cases ea;cases eb;have e:GW l[i]! (0,0,0) (0,0,0)=(1,0,l[i]!.bh):=by unfold GW;rw[bN h1,bN h3,bN h4]
     rw[e];simp only[sU,Mi,MD,Int.max_self,Int.add_zero]) (λb _=>by unfold Wf;simp) (b:=(0,0,0)) (by rw[wj,show fk []=(0,0,0)by rw[fk]];rfl)
 have e1':WC M ⟨l,0,0,0,0⟩=V ⟨l,v.1,v.2.1,v.2.2,(zR l:Int)⟩:=e1;unfold s90;rw[e1'];rw[hv];simp
def RU:∀(n:Nat) (l:aa aC),zf l<n->fP l<=1000->AP l->m90 n l=V (sU Mi (fk l))
 |0,_,h,_,_=>aq
 |n+1,l,h,h2,ho=>ara (m90 n) l (by have:=j9 l;omega) ho (λs hs=>⟨RU n _ (by have:=bw hs;omega) (by have:=gB hs;omega) (oV ho s hs).2.2.2.2.1,RU n _ (by have:=bw hs;omega) (by have:=gB hs;omega) (oV ho s hs).2.2.2.2.2⟩)
def adZ(l:aa aC)(h:fP l<=1000)(ho:AP l):r90 l=V (sU Mi (fk l)):=eO (zf l+1) λn hn=>RU n l aq h ho
def Ul(f:aS)(h:fP f.bK+kH (f.au.map (·.aG))<=900)(hh:zR f.au<=1000000)(hvl:zR f.ai<=1000000):ZS f=V (pL f):=by
 obtain⟨r,q,e1,e2,e3⟩:=agA f h hh;unfold ZS pL;rw[e1];dsimp only;rw[e2];dsimp only;rw[bY (show ¬((zR f.au:Int)<(zR f.au:Int))by omega),cv,vI,e3];unfold ry;generalize (f.au.all λh=>J (dT h.aG<=12))=x;generalize J (jP f.bK<=12)=y;generalize fL f.bK=z;by_cases h1:64<(zR f.ai:Int)
 ·grind
 by_cases h2:8<(zR f.au:Int)
 ·grind
 rw[bY h1,bY h2,b7 (show zR f.ai<=64 by omega),b7 (show zR f.au<=8 by omega)];simp only[Bool.true_and];cases hx:(x&&y&& !z)with
 |false=>rfl
 |true=>
  rw[ajm f.ai hvl];dsimp only[Bool.not_true,cv];rw[bN (by decide)];by_cases hvc:jJ f.ai=0
  case neg=>simp[hvc]
  have hv:de f.ai:=by
   apply nY;unfold jJ at hvc;by_cases h0:cz (mY f.ai) f.ai 0=0
   ·exact h0
   ·rw[bJ h0]at hvc;exact ep hvc h0
  rw[b7 hvc,cI,cv,bN (by simpa using hvc),ahJ f hv hh];dsimp only;by_cases hhc:cz (kR f) f.au 0=0
  case neg=>simp[hhc]
  rw[b7 hhc,cI,cv,bN (by simpa using hhc),afy f hv f.bK O aq];dsimp only;by_cases hsc:cc f O f.bK=0
  case neg=>simp[hsc]
  have ho:AP f.bK:=Bl f _ f.bK O (zC _) hsc;rw[b7 hsc,cI,cv,bN (by simpa using hsc)];have e:=amr f.bK aq ho;unfold Ur;generalize fk f.bK=u at e ⊢;obtain⟨a,b,c⟩:=u;have e:aaU f.bK=V ⟨min a 1099511627776,min b 1099511627776,min c 1099511627776⟩:=e;rw[e];by_cases a1:4096<a
  ·simp[a1,show 4096<min a 1099511627776 by omega]
  ·by_cases b1:8<b
   ·simp[b1,show 8<min b 1099511627776 by omega]
   ·by_cases d1:67108864<c
    ·simp[d1,show 67108864<min c 1099511627776 by omega]
    ·simp[a1,b1,d1,show ¬4096<min a 1099511627776 by omega,show ¬8<min b 1099511627776 by omega,show ¬67108864<min c 1099511627776 by omega]
def aaS(f:aS)(h:fP f.bK+kH (f.au.map (·.aG))<=900)(hh:zR f.au<=1000000)(hvl:zR f.ai<=1000000):m78 f=V (pL f):=by
 unfold m78 pL;rw[ag8 f h hh];dsimp only;cases hx:ry f with
 |false=>rfl
 |true=>
  rw[akv f.ai hvl];dsimp only[cI,cv];rw[bN (by decide)];by_cases hvc:jJ f.ai=0
  case neg=>simp[hvc]
  have hv:de f.ai:=by
   apply nY;unfold jJ at hvc;omega
  obtain⟨i,e1,hc⟩:=aew f hv hh;rw[b7 hvc,cI,cv,bN (by simpa using hvc),e1];dsimp only;rcases hc with ⟨rfl,hc⟩|⟨hi,h0,hc⟩
  ·rw[bN (show ¬(cz (kR f) f.au 0≠0)by rw[hc];simp),bY (show ¬((zR f.au:Int)<(zR f.au:Int))by omega),cv,aiU f hv f.bK O aq];dsimp only;by_cases hsc:cc f O f.bK=0
   case neg=>simp[hsc]
   have ho:AP f.bK:=Bl f _ f.bK O (zC _) hsc;rw[b7 hsc,cI,cv,bN (show ¬(cc f O f.bK≠0)by rw[hsc];simp)];have e:=adZ f.bK aq ho;unfold Ur;generalize fk f.bK=u at e ⊢;obtain⟨a,b,c⟩:=u;have e:r90 f.bK=V (min a 4097,min b 9,min c 67108865):=e;rw[e];by_cases a1:4096<a
   ·simp[a1,show 4096<min a 4097 by omega]
   ·by_cases b1:8<b
    ·simp[b1,show 8<min b 9 by omega]
    ·by_cases d1:67108864<c
     ·simp[d1,show 67108864<min c 67108865 by omega]
     ·simp[a1,b1,d1,show ¬4096<min a 4097 by omega,show ¬8<min b 9 by omega,show ¬67108864<min c 67108865 by omega]
  ·obtain⟨j,h2,h3⟩:=N1 f hh i aq f.au[i]!;rw[bJ (show cz (kR f) f.au 0≠0 by rw[hc];exact h0),hc];have hi1:(i:Int)<(zR f.au:Int):=aq;have hi0:(0:Int)<=(i:Int):=aq;revert h0;unfold kR;simp only[zg,az.eta,dF.eta,DJ,DM,h2,Dl f.ai hv,hi1];generalize kD f.au[i]!.fName=ad;generalize ((f.au.take i).any λw=>w.fName.toList==f.au[i]!.fName.toList)=A at h3;generalize jB f.au[i]!.ah f.au[i]!.ag=C;generalize fG f.ai O f.au[i]!.aG=T;rcases h3 with ⟨rfl,rfl⟩|⟨hj,h4,rfl⟩
   ·cases ad<;>cases C<;>by_cases hT:T=0<;>simp[hT]
   ·have hj1:(j:Int)<(i:Int):=aq;have hj2:(j:Int)<(zR f.au:Int):=aq;have hj0:(0:Int)<=(j:Int):=aq;simp only[cZ,hj0,hj1,hj2,h4,dS,cI];cases ad<;>simp
def mg{f:aS}(h:pL f=0):de f.ai:=by
 unfold pL at h;by_cases h1:ry f=G
 ·simp_all
 by_cases hvc:jJ f.ai=0
 ·apply nY;unfold jJ at hvc;omega
 ·omega
structure CS where
 (vals outs:List Int)
 time:Int
def iY{f:aS}{top:Bool}{x:aC}{l:aa aC}(h:cc f top (x::l)=0):o6 f (top&&l.isEmpty) x=0/\cc f G x.aQ=0/\cc f G x.aX=0/\cc f top l=0:=by
 rw[cc]at h;split at h
 ·exact ep h ‹_›
 rename_i h1;split at h
 ·exact ep h ‹_›
 rename_i h2;split at h
 ·exact ep h ‹_›
 rename_i h3;exact⟨by simpa using h1,by simpa using h2,by simpa using h3,h⟩
structure ahZ (f:aS) (last:Bool) (x:aC):Prop where
 do_:0<=x.cg/\x.cg<=6
 cost:0<=x.bh/\x.bh<=67108864
 n4:x.cg=4->0<=x.fN/\x.fN<=4096
 var:x.cg=0\/x.cg=5->0<=x.dM/\x.dM<zR f.ai
 n5:x.cg=5->0<=x.fN/\x.fN<zR f.au
 adn:x.cg=6->last=O/\(1<=zR x.aR/\zR x.aR<=32)/\(0:Int)<=x.aR[0]!/\gG x.aR=O/\x.aR[zR x.aR-1]!<=67108864
 term:fG f.ai G x.aG=0
def sP{f:aS}{last:Bool}{x:aC}(h:o6 f last x=0):ahZ f last x:=by
 unfold o6 at h;by_cases h1:dL f x last=G
 ·rw[bJ h1]at h;cases h
 rw[bN h1]at h;by_cases h2:uA x=G
 ·rw[bJ h2]at h;cases h
 rw[bN h2]at h;have h1:dL f x last=O:=by simpa using h1
 have h2:uA x=O:=by simpa using h2
 unfold uA at h2;simp only[zi,decide_eq_true_eq]at h2;obtain⟨⟨g1,g2⟩,g3⟩:=h2;unfold dL Cm at h1;dsimp only at h1;have hd:0<=x.cg/\x.cg<=6:=by
  by_cases a0:x.cg=0
  ·omega
  by_cases a1:x.cg=1
  ·omega
  by_cases a2:x.cg=2
  ·omega
  by_cases a3:x.cg=3
  ·omega
  by_cases a4:x.cg=4
  ·omega
  by_cases a5:x.cg=5
  ·omega
  by_cases a6:x.cg=6
  ·omega
  ·simp[a0,a1,a2,a3,a4,a5,a6]at h1
 refine⟨hd,⟨g1.1,?_⟩,λq=> ?_,λq=> ?_,λq=> ?_,λq=> ?_,h⟩
 ·have:=g1.2;split at this<;>omega
 ·rw[bJ q]at g2;simpa using g2
 ·rcases q with q|q
  ·simp[q]at h1;omega
  ·simp[q]at h1;omega
 ·simp[q]at h1;omega
 ·rw[bJ q]at g3;simp only[fU,q,Int.reduceEq,zi,decide_eq_true_eq]at h1 g3;exact⟨h1.1.1.1.1.2,h1.2.1.1,h1.2.1.2,h1.2.2,g3⟩
def UW(x:aC)(l:aa aC):fk (x::l)=
  (if x.cg=1 then(1+(fk l).1,1+(fk l).2.1,x.bh+(fk l).2.2)
   else if x.cg=3 then(1+max (fk x.aQ).1 (fk x.aX).1+(fk l).1,max (fk x.aQ).2.1 (fk x.aX).2.1+(fk l).2.1,x.bh+max (fk x.aQ).2.2 (fk x.aX).2.2+(fk l).2.2)
   else if x.cg=4 then(1+x.fN*(1+(fk x.aQ).1)+(fk l).1,x.fN*(fk x.aQ).2.1+(fk l).2.1,x.fN*(x.bh+(fk x.aQ).2.2)+(fk l).2.2)
   else(1+(fk l).1,(fk l).2.1,x.bh+(fk l).2.2)):=by rw[fk]
def iW(f:aS):∀(n:Nat) (l:aa aC) (top:Bool),zf l<n->cc f top l=0->0<=(fk l).2.1/\0<=(fk l).2.2
 |0,_,_,h,_=>aq
 |n+1,[],_,_,_=>by rw[fk];exact⟨zw _,zw _⟩
 |n+1,x::l,top,h,hc=>by
  obtain⟨h1,h2,h3,h4⟩:=iY hc;have ho:=sP h1;have hs:=bw (zk (a:=x) (l:=l));have ht:=ei x l;have i1:=iW f n x.aQ G aq h2;have i2:=iW f n x.aX G aq h3;have i3:=iW f n l top aq h4;have hcost:=ho.cost;rw[UW];by_cases a1:x.cg=1
  ·rw[bJ a1];dsimp only;omega
  by_cases a3:x.cg=3
  ·rw[bN a1,bJ a3];dsimp only;omega
  by_cases a4:x.cg=4
  ·rw[bN a1,bN a3,bJ a4];have hn:=ho.n4 a4;have p1:=zJ hn.1 i1.1;have p2:=zJ hn.1 (show 0<=x.bh+(fk x.aQ).2.2 by omega);dsimp only;omega
  ·rw[bN a1,bN a3,bN a4];dsimp only;omega
structure Aft (vars:List bg) (s r:CS) (o t:Int):Prop where
 vals:VIn vars r.vals
 outs:(zR s.outs:Int)<=zR r.outs/\(zR r.outs:Int)<=zR s.outs+o
 time:s.time<=r.time/\r.time<=s.time+t
def uO(x:aC):Int×Int:=if x.cg=1 then(1,x.bh)else if x.cg=3 then(max (fk x.aQ).2.1 (fk x.aX).2.1,x.bh+max (fk x.aQ).2.2 (fk x.aX).2.2)
 else if x.cg=4 then(x.fN*(fk x.aQ).2.1,x.fN*(x.bh+(fk x.aQ).2.2))else(0,x.bh)
def afE(x:aC)(l:aa aC):(fk (x::l)).2.1=(uO x).1+(fk l).2.1/\(fk (x::l)).2.2=(uO x).2+(fk l).2.2:=by
 rw[UW];unfold uO;split
 ·exact⟨rfl,rfl⟩
 split
 ·exact⟨rfl,rfl⟩
 split
 ·exact⟨rfl,rfl⟩
 ·refine⟨?_,rfl⟩;dsimp only;omega
def VX{l:aa Int}(h:gG l=O):∀{i j:Nat},i<j->j<zR l->l[i]! <l[j]! :=by
 intro i j hij hj;induction j with
 |zero=>omega
 |succ j ih=>
  have h1:=(jR l).1 h j hj;by_cases hi:i=j
  ·subst hi;exact h1
  ·have:=ih aq aq;omega
structure Bud (f:aS) (top:Bool) (l:List aC) (s:CS):Prop where
 hc:cc f top l=0
 vals:VIn f.ai s.vals
 t0:0<=s.time
 t:s.time+(fk l).2.2<=134217728
 o:(zR s.outs:Int)+(fk l).2.1<=8
structure aKs (f:aS) (x:aC) (n:Nat) (s:CS):Prop where
 hc:cc f G x.aQ=0
 term:fG f.ai G x.aG=0
 cost:0<=x.bh
 vals:VIn f.ai s.vals
 t0:0<=s.time
 t:s.time+n*(x.bh+(fk x.aQ).2.2)<=134217728
 o:(zR s.outs:Int)+n*(fk x.aQ).2.1<=8
def drop_cons{α:Type}[Inhabited α]{l:aa α}{i:Nat}(h:i<zR l):l.drop i=l[i]! ::l.drop (i+1):=by rw[getElem!_pos l i h];exact yN h
def u7{x:aC}{l:aa aC}(hx:x∈l):fP x.aQ<=fP l/\fP x.aX<=fP l:=by have:=Dx hx;have:=pM x;omega
def vL{f:aS}{x:aC}:∀{top:Bool} {l:aa aC},cc f top l=0->x∈l->∃last,ahZ f last x
 |_,[],_,h=>by cases h
 |_,y::l,hc,h=>by
  obtain⟨h1,h2,h3,h4⟩:=iY hc;rcases zy.1 h with rfl|h
  ·exact⟨_,sP h1⟩
  ·exact vL h4 h
def tab(n:Nat)(g:Nat->aL):aa aL:=(zN n).map g
def gQ(n:Nat)(g:Nat->aL):zR (tab n g)=n:=by simp[tab]
def pg{n:Nat}{g:Nat->aL}{i:Nat}(h:i<n):(tab n g)[i]! =g i:=by
 rw[getElem!_pos _ i (by rw[gQ];exact h)];simp[tab]
def qU(n:Nat)(g:Nat->aL):tab (n+1) g=tab n g++[g n]:=by simp[tab,List.range_succ]
def iz{n:Nat}{g g':Nat->aL}(h:∀i,i<n->g i=g' i):tab n g=tab n g':=
 zZ λi hi=>h i (List.mem_range.1 hi)
def L4{n:Nat}{g:Nat->aL}{i:Nat}(x:aL):(tab n g).set i x=tab n (λj=>if j=i then x else g j):=by
 apply xY
 ·simp[tab]
 ·intro j h1 h2;simp only[tab,List.getElem_set,yM,List.getElem_range];by_cases c:i=j
  ·subst c;simp
  ·rw[bN c,bN (λe=>c e.symm)]
def aeI(l:aa aL):tab (zR l) (λi=>l[i]!)=l:=by
 apply xY
 ·simp[tab]
 ·intro j h1 h2;simp only[tab,yM,List.getElem_range];exact getElem!_pos l j h2
def TZ{n:Nat}{g:Nat->aL}{l:aa aL}(h1:zR l=n)(h2:∀i,i<n->g i=l[i]!):tab n g=l:=by
 subst h1;rw[iz h2,aeI]
def tr(s:ay):aJ:=⟨s.ai,s.aD,s.aF,s.aI⟩
structure eV (n m:Nat) (s:ay):Prop where
 len:zR s.ai=n
 vars:∀i,i<n->NN s.ai[i]!
 count:NN s.aD
 sl:zR s.aF<=m
 slots:∀i,i<zR s.aF->NN s.aF[i]!
 time:NN s.aI
def eV.weak{n m m':Nat}{s:ay}(h:eV n m s)(k:m<=m'):eV n m' s:=⟨h.len,h.vars,h.count,zG h.sl k,h.slots,h.time⟩
def gp(s:ay)(c:Int):ay:=⟨s.ai,s.aD,s.aF,pW 8 s.aI (eF c)⟩
def TF(f:aS)(s:ay)(v:Int)(n:aL):ay:=⟨s.ai.set v.toNat (ja n f.ai[v.toNat]!.ah f.ai[v.toNat]!.ag),s.aD,s.aF,s.aI⟩
def XR(s:ay)(v:aL):ay:=
 ⟨s.ai,pW 8 s.aD (eF 1),tab (zR s.aF) (λk=>if cS s.aD k=O then cF s.aF[k]! v else s.aF[k]!)++[v],s.aI⟩
def Nu(a b:aa aL)(i:Nat):aL:=if zR a<=i then b[i]! else if zR b<=i then a[i]! else cF a[i]! b[i]!
def lY(a b:ay):ay:=
 ⟨tab (zR a.ai) (λi=>cF a.ai[i]! b.ai[i]!),cF a.aD b.aD,tab (max (zR a.aF) (zR b.aF)) (Nu a.aF b.aF),cF a.aI b.aI⟩
def lN{c:Int}(h:cC c):NN (eF c):=NN.one h.1 h.2
def mL{n m:Nat}{s:ay}(h:eV n m s){c:Int}(hc:cC c):eV n m (gp s c):=
 ⟨h.len,h.vars,h.count,h.sl,h.slots,let ⟨_,_,_,k⟩:=oJ 8 h.time (lN hc);k⟩
def W3{f:aS}{n m:Nat}{s:ay}(h:eV n m s){v:Int}{x:aL}(hx:NN x):eV n m (TF f s v x):=by
 refine⟨?_,λi hi=> ?_,h.count,h.sl,h.slots,h.time⟩
 ·show zR (s.ai.set _ _)=n;rw[yu];exact h.len
 ·show NN (s.ai.set _ _)[i]!;have hl:=h.len;rw[getElem!_pos _ i (by rw[yu];omega),List.getElem_set];split
  ·exact let ⟨_,_,_,k,_⟩:=iB hx f.ai[v.toNat]!.ah f.ai[v.toNat]!.ag;k
  ·have:=h.vars i hi;rw[getElem!_pos _ i aq]at this;exact this
def ajb{n m:Nat}{s:ay}(h:eV n m s){x:aL}(hx:NN x):eV n (m+1) (XR s x):=by
 have hs:=h.sl;have hl:zR (XR s x).aF=zR s.aF+1:=by simp[XR,gQ]
 refine⟨h.len,h.vars,let ⟨_,_,_,k⟩:=oJ 8 h.count (lN (c:=1) ⟨by decide,by decide⟩);k,aq,λi hi=> ?_,h.time⟩;rw[hl]at hi;have hlt:=gQ (zR s.aF) (λk=>if cS s.aD k=O then cF s.aF[k]! x else s.aF[k]!);show NN (tab (zR s.aF) (λk=>if cS s.aD k=O then cF s.aF[k]! x else s.aF[k]!)++[x])[i]!;by_cases c:i<zR s.aF
 ·have hg:=pg (g:=(λk=>if cS s.aD k=O then cF s.aF[k]! x else s.aF[k]!)) c;generalize tab (zR s.aF) (λk=>if cS s.aD k=O then cF s.aF[k]! x else s.aF[k]!)=T at*;rw[getElem!_pos _ i (by rw[zh];omega),wg aq,<-getElem!_pos T i aq,hg];split
  ·exact jS (h.slots i c) hx
  ·exact h.slots i c
 ·generalize tab (zR s.aF) (λk=>if cS s.aD k=O then cF s.aF[k]! x else s.aF[k]!)=T at*;rw[getElem!_pos _ i (by rw[zh,yh];omega),wD aq];simpa using hx
def arZ{a b:aa aL}(ha:∀i,i<zR a->NN a[i]!)(hb:∀i,i<zR b->NN b[i]!){i:Nat}(hi:i<max (zR a) (zR b)):NN (Nu a b i):=by
 unfold Nu;split
 ·exact hb i aq
 split
 ·exact ha i aq
 ·exact jS (ha i aq) (hb i aq)
def Gz{n m:Nat}{s t:ay}(h:eV n m s)(k:eV n m t):eV n m (lY s t):=by
 have h1:=h.len;have h2:=h.sl;have k2:=k.sl;refine⟨by show zR (tab _ _)=n;rw[gQ];exact h1,λi hi=> ?_,jS h.count k.count,by show zR (tab _ _)<=m;rw[gQ];omega,λi hi=> ?_,jS h.time k.time⟩
 ·show NN (tab _ _)[i]!;rw[pg aq];exact jS (h.vars i hi) (k.vars i hi)
 ·have hi:i<zR (tab (max (zR s.aF) (zR t.aF)) (Nu s.aF t.aF)):=hi;rw[gQ]at hi;show NN (tab _ _)[i]!;rw[pg hi];exact arZ h.slots k.slots hi
def uy(i:aL)(ks:aa aL):Nat->aL
 |0=>cL
 |n+1=>if cS i n=O then cF (uy i ks n) ks[n]! else uy i ks n
def Xj(vars:aa aL)(t:az)(k:aa aL):aL:=
 if t.bD=0 then eF t.fN else if t.bD=24 then vars[t.fN.toNat]! else if t.bD=6 then(rE 6 k[0]!).1 else if t.bD=7 then(rE 7 k[0]!).1
 else if t.bD=23 then(if cS k[0]! 0=G then k[1]! else if cD k[0]! =G then k[2]! else cF k[1]! k[2]!)
 else if t.bD=25 then uy (ja k[0]! 0 ((zR k:Int)-2)) (k.drop 1) (k.drop 1).length else pW t.bD k[0]! k[1]!
def cK(vars:aa aL)(t:az):aL:=Xj vars t (t.ax.attach.map λk=>cK vars k.1)
termination_by zf t
decreasing_by exact az.e9 k.2
def VG(vars:aa aL)(t:az):cK vars t=Xj vars t (t.ax.map (cK vars)):=by
 rw[cK];simp
def mapA{vars:aa aL}{t:az}{i:Nat}(h:i<zR t.ax):(t.ax.map (cK vars))[i]! =cK vars t.ax[i]! :=by
 rw[getElem!_pos _ i (by simpa using h),getElem!_pos _ i h,yM]
def DN{i:aL}{ks:aa aL}(hk:∀j,j<zR ks->NN ks[j]!):∀n,n<=zR ks->NV (uy i ks n)/\((∃j,j<n/\cS i (j:Nat)=O)->NN (uy i ks n))
 |0,_=>⟨.inl rfl,λ⟨j,h,_⟩=>aq⟩
 |n+1,hn=>by
  obtain⟨h1,h2⟩:=DN (i:=i) hk n aq;rw[uy];by_cases c:cS i (n:Nat)=O
  ·rw[bJ c];have hv:=fh h1 (.inr (hk n aq));have:NN (cF (uy i ks n) ks[n]!):=by
    rcases h1 with e|h
    ·rw[e,DZ];exact hk n aq
    ·exact jS h (hk n aq)
   exact⟨hv,λ_=>this⟩
  ·rw[bN c];refine⟨h1,λ⟨j,h,k⟩=>h2 ⟨j,?_,k⟩⟩;by_cases e:j=n
   ·simp_all
   ·omega
def Zf{a:aL}(ha:NN a){n:Nat}(h0:1<=n)(hn:n<=1000000):∃j:Nat,j<n/\cS (ja a 0 ((n:Int)-1)) (j:Nat)=O:=by
 obtain⟨_,_,_,hv,hr⟩:=iB ha 0 ((n:Int)-1);have hr:=hr ⟨by decide,by decide⟩ ⟨aq,aq⟩ aq;rcases hr with ⟨e,_⟩|hr
 ·exact ep e hv.ne
 ·obtain⟨x,_,h2⟩:=hr.lo;refine⟨(ja a 0 ((n:Int)-1)).ah.toNat,aq,?_⟩;rw[show (((ja a 0 ((n:Int)-1)).ah.toNat:Nat):Int)=(ja a 0 ((n:Int)-1)).ah by omega];exact mR ⟨zw _,hv.le,by rw[Int.sub_self];exact xL _⟩
def rT(x:Int):Wi x=eF x:=rfl
def Dt(x:Int):m36 x=eF x:=rfl
def DX{vars:aa bg}{t:az}(h:(iM vars t).isSome=O):∀k∈t.ax,(iM vars k).isSome=O:=λk hk=>by
 rw[Aq]at h;cases ha:mC (t.ax.map (iM vars))with
 |none=>rw[ha]at h;cases h
 |some r=>
  have hr:=sw ha;have hm:iM vars k∈r.map V:=by rw[<-hr];exact List.mem_map_of_mem hk
  obtain⟨s,h1,h2⟩:=zK.1 hm;rw[<-h2];rfl
def aiR{vars:aa bg}{t:az}(h0:t.bD=0)(h:(iM vars t).isSome=O):cC t.fN:=by
 rw[Aq]at h;cases ha:mC (t.ax.map (iM vars))with
 |none=>rw[ha]at h;cases h
 |some r=>
  rw[ha]at h;dsimp only at h;split at h
  ·rename_i hl;unfold BA jq at hl;simp only[h0,dS,decide_eq_true_eq]at hl;unfold cC;omega
  ·cases h
def acX(M:az->ay->af qc){vars:aa aL}{st:ay}{ks:aa az}(hl:zR ks<=1000000)(hK:∀j,j<zR ks->M ks[j]! st=V (cK vars ks[j]!,st)/\NN (cK vars ks[j]!)){H:aL}(hH:NN H)(z:aL):
  Mb M ⟨ks,(zR ks:Int),0,st,z,H,cL⟩=V ⟨ks,(zR ks:Int),(zR ks:Int),st,z,H,uy H (ks.map (cK vars)) (zR ks)⟩:=by
 have hmap:∀j,j<zR ks->(ks.map (cK vars))[j]! =cK vars ks[j]! :=λj h=>by rw[getElem!_pos _ j (by simpa using h),getElem!_pos _ j h,yM]
 have hkn:∀j,j<zR (ks.map (cK vars))->NN (ks.map (cK vars))[j]! :=λj h=>by
  have h:j<zR ks:=by simpa using h
  rw[hmap j h];exact(hK j h).2
 obtain⟨v,e1,hv⟩:=cH (rnd:=JI M) (zR ks) (λi (_:Unit)=>⟨ks,(zR ks:Int),(i:Int),st,z,H,uy H (ks.map (cK vars)) i⟩) (λi _=>True) (λi b hi _=>by
  have hw:=jG hi hl;obtain⟨k1,k2⟩:=hK i hi;have i1:(i:Int)<(zR ks:Int):=aq;have i2:(0:Int)<=(i:Int):=aq;refine⟨(),?_,trivial⟩;unfold JI;by_cases hc:cS H (i:Nat)=O
  ·simp only[cZ,i1,i2,cI,dS,rf (.inr hH),hc,az.eta,k1,pe (DN hkn i (by simp;omega)).1 (.inr k2),hw,uy,hmap i hi]
  ·have hc:cS H (i:Nat)=G:=by simpa using hc
   simp only[cZ,cU,fU,i1,i2,rf (.inr hH),hc,hw,uy,yx]) (λb _=>by unfold JI;simp) (b:=()) trivial
 exact e1
def asW(M:az->ay->af qc){vars:aa bg}{inp:Bool}{m:Nat}{st:ay}(hst:eV (zR vars) m st)(t:az)(hf:dJ vars inp t=O)(hs:(iM vars t).isSome=O)
  (hM:∀k∈t.ax,M k st=V (cK st.ai k,st)/\NN (cK st.ai k)):amR M t st=V (cK st.ai t,st)/\NN (cK st.ai t):=by
 obtain⟨⟨g1,g2,g3⟩,h24⟩:=Vt hf;have K:∀i,i<zR t.ax->M t.ax[i]! st=V (cK st.ai t.ax[i]!,st)/\NN (cK st.ai t.ax[i]!):=λi hi=>hM _ (bu hi);rw[VG];unfold amR Xj;simp only[az.eta,zu];rcases OQ t.bD g1 with ⟨h,e⟩|⟨h,e⟩|⟨h,e⟩|⟨h,e⟩|⟨h,e⟩<;>rw[e]at g2 g3<;>dsimp only at g2 g3
 ·rcases h with h|h
  ·simp only[h,uU,cI,dS,rT];exact⟨trivial,lN (aiR h hs)⟩
  ·obtain⟨q1,q2⟩:=h24 h;have hl:=hst.len;simp only[h];rw[gV];exact⟨rfl,hst.vars _ aq⟩
 ·obtain⟨k1,k2⟩:=K 0 aq;have m0:=mapA (vars:=st.ai) (show 0<zR t.ax by omega);have i1:(zR t.ax:Int)=1:=aq;rcases h with h|h
  ·simp only[cZ,cU,fU,h,Int.reduceEq,i1,k1,m0,WM (.inr k2),Int.reduceLT,Int.reduceLE,true_and];exact Hu _ k2
  ·simp only[cZ,cU,fU,h,Int.reduceEq,i1,k1,m0,WM (.inr k2),Int.reduceLT,Int.reduceLE,true_and];exact Hu _ k2
 ·obtain⟨k1,k2⟩:=K 0 aq;obtain⟨l1,l2⟩:=K 1 aq;have m0:=mapA (vars:=st.ai) (show 0<zR t.ax by omega);have m1:=mapA (vars:=st.ai) (show 1<zR t.ax by omega);have hlen:(zR t.ax:Int)=2:=aq;obtain⟨c,hb,_,hn⟩:=oJ t.bD k2 l2;have n0:t.bD≠0:=aq;have n1:t.bD≠24:=aq;have n2:t.bD≠6:=aq;have n3:t.bD≠7:=aq;have n4:t.bD≠23:=aq;have n5:t.bD≠25:=aq;simp only[cZ,fU,n0,n1,n2,n3,n4,n5,cv,hlen,k1,l1,hb,m0,m1,Int.reduceEq,Int.reduceLT,Int.reduceLE,true_and];exact hn
 ·obtain⟨k1,k2⟩:=K 0 aq;obtain⟨l1,l2⟩:=K 1 aq;obtain⟨p1,p2⟩:=K 2 aq;have m0:=mapA (vars:=st.ai) (show 0<zR t.ax by omega);have m1:=mapA (vars:=st.ai) (show 1<zR t.ax by omega);have m2:=mapA (vars:=st.ai) (show 2<zR t.ax by omega);have hlen:(zR t.ax:Int)=3:=aq;simp only[cZ,cU,fU,h,Int.reduceEq,hlen,k1,l1,p1,m0,m1,m2,DL (.inr k2),pe (.inr l2) (.inr p2),Int.reduceLT,Int.reduceLE];cases cS (cK st.ai t.ax[0]!) 0<;>cases cD (cK st.ai t.ax[0]!)
  ·exact⟨rfl,l2⟩
  ·exact⟨rfl,l2⟩
  ·exact⟨rfl,p2⟩
  ·exact⟨rfl,jS l2 p2⟩
 ·obtain⟨k1,k2⟩:=K 0 aq;have m0:=mapA (vars:=st.ai) (show 0<zR t.ax by omega);have w:aj ((zR t.ax:Int)-(2:Int))=(zR t.ax:Int)-(2:Int):=aM;obtain⟨c,hcl,_,hcn,_⟩:=iB k2 0 ((zR t.ax:Int)-(2:Int));obtain⟨j,hj1,hj2⟩:=Zf k2 (n:=zR t.ax-1) aq aq;rw[show (((zR t.ax-1:Nat):Int)-1)=(zR t.ax:Int)-(2:Int)by omega]at hj2;simp only[cZ,cU,fU,h,Int.reduceEq,k1,m0,w];rw[gV,hcl];generalize ja (cK st.ai t.ax[0]!) 0 ((zR t.ax:Int)-(2:Int))=H at*;have hd:zR (t.ax.drop 1)=zR t.ax-1:=zV ..;have e2:=acX M (vars:=st.ai) (st:=st) (ks:=t.ax.drop 1) aq (λj hj=>hM _ (xC (bu hj))) (H:=H) hcn ⟨0,0,0⟩;dsimp only;rw[gV];rw[show aj3=cL from rfl,e2];dsimp only;rw[fO,cv,<-xA,zu];refine⟨rfl,(DN (λj hj=> ?_) _ (by simp)).2 ⟨j,aq,hj2⟩⟩;rw[getElem!_pos _ j (by simpa using hj),yM];exact(hM _ (xC (xO ..))).2
def Lx{vars:aa bg}{inp:Bool}{m:Nat}{st:ay}(hst:eV (zR vars) m st):∀(n:Nat) (t:az),zf t<n->dJ vars inp t=O->(iM vars t).isSome=O->Si n t st=V (cK st.ai t,st)/\NN (cK st.ai t)
 |0,_,h,_,_=>aq
 |n+1,t,h,hf,hs=>asW (Si n) hst t hf hs (λk hk=>Lx hst n k (by have:=az.e9 hk;omega) (rJ hf hk) (DX hs k hk))
def sB{vars:aa bg}{inp:Bool}{t:az}(hc:fG vars inp t=0):dJ vars inp t=O/\(iM vars t).isSome=O:=by
 unfold fG at hc;grind
def afT(M:aJ->az->af M4){vars:aa aL}{st:aJ}{t:az}(hl:zR t.ax<=1000000)(h1:1<=zR t.ax)(hK:∀j,j<zR t.ax->M st t.ax[j]! =V (cK vars t.ax[j]!)/\NN (cK vars t.ax[j]!)){H:aL}(hH:NN H)(z:aL):
  Pj M ⟨(zR t.ax:Int)-1,0,st,t,z,H,cL⟩=V ⟨(zR t.ax:Int)-1,(zR t.ax:Int)-1,st,t,z,H,uy H ((t.ax.drop 1).map (cK vars)) (t.ax.drop 1).length⟩:=by
 have hd:zR (t.ax.drop 1)=zR t.ax-1:=zV ..;have hmap:∀j,j<zR t.ax-1->((t.ax.drop 1).map (cK vars))[j]! =cK vars t.ax[1+j]! :=λj h=>by
  rw[getElem!_pos _ j (by simp;omega),getElem!_pos _ (1+j) aq,yM,xS]
 have hkn:∀j,j<zR ((t.ax.drop 1).map (cK vars))->NN ((t.ax.drop 1).map (cK vars))[j]! :=λj h=>by
  have h:j<zR t.ax-1:=by simpa using h
  rw[hmap j h];exact(hK (1+j) aq).2
 obtain⟨v,e1,hv⟩:=cH (rnd:=VE M) (zR t.ax-1) (λi (_:Unit)=>⟨(zR t.ax:Int)-1,(i:Int),st,t,z,H,uy H ((t.ax.drop 1).map (cK vars)) i⟩) (λi _=>True) (λi b hi _=>by
  have hw:=jG hi (show zR t.ax-1<=1000000 by omega);obtain⟨k1,k2⟩:=hK (1+i) aq;have i1:(i:Int)<(zR t.ax:Int)-1:=aq;have i2:aj ((1:Int)+(i:Int))=((1+i:Nat):Int):=by rw[aM];omega
  have i3:(0:Int)<=((1+i:Nat):Int)/\((1+i:Nat):Int)<(zR t.ax:Int):=aq;refine⟨(),?_,trivial⟩;unfold VE;by_cases hc:cS H (i:Nat)=O
  ·simp only[cZ,i1,cI,jT (.inr hH),hc,i2,i3.1,i3.2,dS,az.eta,k1,gF (DN hkn i (by simp;omega)).1 (.inr k2),hw,uy,hmap i hi]
  ·have hc:cS H (i:Nat)=G:=by simpa using hc
   simp only[cU,i1,uU,jT (.inr hH),hc,hw,uy,yx,GQ,az.eta]) (λb _=>by
    unfold VE;rw[bY (by dsimp only;omega)];rfl) (b:=()) trivial
 have e1:Pj M ⟨(zR t.ax:Int)-1,((0:Nat):Int),st,t,z,H,cL⟩=_:=e1;rw[hd];rw[show ((0:Nat):Int)=0 from rfl]at e1;rw[e1,show ((zR t.ax-1:Nat):Int)=(zR t.ax:Int)-1 by omega]
def aCX(M:aJ->az->af M4){vars:aa bg}{inp:Bool}{m:Nat}{st:ay}(hst:eV (zR vars) m st)(t:az)(hf:dJ vars inp t=O)
  (hM:∀k∈t.ax,M (tr st) k=V (cK st.ai k)/\NN (cK st.ai k)):s87 M (tr st) t=V (cK st.ai t):=by
 obtain⟨⟨g1,g2,g3⟩,h24⟩:=Vt hf;have K:∀i,i<zR t.ax->M (tr st) t.ax[i]! =V (cK st.ai t.ax[i]!)/\NN (cK st.ai t.ax[i]!):=λi hi=>hM _ (bu hi);rw[VG];unfold s87 Xj;simp only[az.eta,zu];rcases OQ t.bD g1 with ⟨h,e⟩|⟨h,e⟩|⟨h,e⟩|⟨h,e⟩|⟨h,e⟩<;>rw[e]at g2 g3<;>dsimp only at g2 g3
 ·rcases h with h|h
  ·simp only[h,uU,cI,dS,Dt]
  ·obtain⟨q1,q2⟩:=h24 h;have hl:=hst.len;simp only[h];rw[bJ (show (0:Int)<=t.fN/\t.fN<(zR (tr st).ai:Int)from⟨q1,by show t.fN<(zR st.ai:Int);omega⟩)];rfl
 ·obtain⟨k1,k2⟩:=K 0 aq;have m0:=mapA (vars:=st.ai) (show 0<zR t.ax by omega);have i1:(zR t.ax:Int)=1:=aq;rcases h with h|h
  ·simp only[cZ,cU,fU,h,Int.reduceEq,i1,k1,m0,WI (.inr k2),Int.reduceLT,Int.reduceLE]
  ·simp only[cZ,cU,fU,h,Int.reduceEq,i1,k1,m0,WI (.inr k2),Int.reduceLT,Int.reduceLE]
 ·obtain⟨k1,k2⟩:=K 0 aq;obtain⟨l1,l2⟩:=K 1 aq;have m0:=mapA (vars:=st.ai) (show 0<zR t.ax by omega);have m1:=mapA (vars:=st.ai) (show 1<zR t.ax by omega);have hlen:(zR t.ax:Int)=2:=aq;obtain⟨c,_,hb,hn⟩:=oJ t.bD k2 l2;have n0:t.bD≠0:=aq;have n1:t.bD≠24:=aq;have n2:t.bD≠6:=aq;have n3:t.bD≠7:=aq;have n4:t.bD≠23:=aq;have n5:t.bD≠25:=aq;simp only[cZ,fU,n0,n1,n2,n3,n4,n5,cv,hlen,k1,l1,hb,m0,m1,Int.reduceEq,Int.reduceLT,Int.reduceLE]
 ·obtain⟨k1,k2⟩:=K 0 aq;obtain⟨l1,l2⟩:=K 1 aq;obtain⟨p1,p2⟩:=K 2 aq;have m0:=mapA (vars:=st.ai) (show 0<zR t.ax by omega);have m1:=mapA (vars:=st.ai) (show 1<zR t.ax by omega);have m2:=mapA (vars:=st.ai) (show 2<zR t.ax by omega);have hlen:(zR t.ax:Int)=3:=aq;simp only[cZ,cU,fU,h,Int.reduceEq,hlen,k1,l1,p1,m0,m1,m2,o5 (.inr k2),gF (.inr l2) (.inr p2),Int.reduceLT,Int.reduceLE];cases cS (cK st.ai t.ax[0]!) 0<;>cases cD (cK st.ai t.ax[0]!)<;>rfl
 ·obtain⟨k1,k2⟩:=K 0 aq;have m0:=mapA (vars:=st.ai) (show 0<zR t.ax by omega);have w:aj ((zR t.ax:Int)-(2:Int))=(zR t.ax:Int)-(2:Int):=aM;have w1:aj ((zR t.ax:Int)-(1:Int))=(zR t.ax:Int)-(1:Int):=aM;obtain⟨c,_,hcl,hcn,_⟩:=iB k2 0 ((zR t.ax:Int)-(2:Int));simp only[cZ,cU,fU,h,Int.reduceEq,k1,m0,w,w1];rw[gV,hcl];generalize ja (cK st.ai t.ax[0]!) 0 ((zR t.ax:Int)-(2:Int))=H at*;have e2:=afT M (vars:=st.ai) (st:=tr st) (t:=t) aq aq K (H:=H) hcn ⟨0,0,0⟩;dsimp only;rw[show rN=cL from rfl,e2];simp
def aoa{vars:aa bg}{inp:Bool}{m:Nat}{st:ay}(hst:eV (zR vars) m st):∀(n:Nat) (t:az),zf t<n->dJ vars inp t=O->(iM vars t).isSome=O->m87 n (tr st) t=V (cK st.ai t)
 |0,_,h,_,_=>aq
 |n+1,t,h,hf,hs=>aCX (m87 n) hst t hf (λk hk=>⟨aoa hst n k (by have:=az.e9 hk;omega) (rJ hf hk) (DX hs k hk),(Lx hst (zf k+1) k aq (rJ hf hk) (DX hs k hk)).2⟩)
def VB{vars:aa bg}{inp:Bool}{m:Nat}{st:ay}(hst:eV (zR vars) m st)(t:az)(hc:fG vars inp t=0):Qb (tr st) t=V (cK st.ai t):=
 eO (zf t+1) λn hn=>aoa hst n t aq (sB hc).1 (sB hc).2
def iV{vars:aa bg}{inp:Bool}{m:Nat}{st:ay}(hst:eV (zR vars) m st)(t:az)(hc:fG vars inp t=0):NN (cK st.ai t):=
 (Lx hst (zf t+1) t aq (sB hc).1 (sB hc).2).2
abbrev E82:=aL
def d82:Td 0 E82:= .c [] [4] (.r 0 1 (ec 4 (qp 0 0) en) (sb 0 34 (lg 34) sn) (λz=>z.2.1) (λx=>(((),()),(x,()))))
def Sa(a0:ay)(a1:az):af E82:=
 match alL (az.mk a1.bD a1.fN a1.ax) a0 with|I=>I|V r1=>V (r1.fst)
def e82:=eL vi 82 G (lc (qg 128) (lc (qg 137) ln)) d82 (λg=>Sa g.1 g.2.1)
def KY:EO e82:=λh=>kL (an:= .no) func82 (ahz aV) aH h
abbrev E40:=aa aL
def d40:Td 0 E40:= .c [] [2] (.t (bX.s 2 [] 34) (.c [] [2] (.r 0 1 (ec 2 (qo 0) en) (sr 0 34 sn) (λz=>z.2.1) (λx=>(((),()),(x,()))))))
def A40:=(lc (ql 34) ln)
def Qu(a0:aa aL):af E40:=if zR a0<=1073741824 then V a0 else I
def avJ:fe vi dw 0 300 40 .no:=b6 (l:=[]) func40 (bM aW) aW aH
def aH2(x:aL)(xs:aa aL):bV vi dw 300 .no 40 [.sl 34 (x::xs)] [] 0 d40.rd=if([]++(x::xs)).length<=1073741824 then V ([]++(x::xs))else I:=aW
def aHx(c:Nat):bV vi dw 300 .no 40 [.lit (.slice I 0 c)] [] 0 d40.rd=V []:=aW
def aGJ(a:Addr)(c:Nat):bV vi dw 300 .no 40 [.lit (.slice (V a) 0 c)] [] 0 d40.rd=V []:=aW
def h40:HL vi 40 A40 d40 (λg=>Qu g.1):=λg r h=>by
 obtain⟨a0,_⟩:=g;have h:Qu a0=V r:=h;cases a0 with
 |cons x xs=>exact(jQ (out:=λp=>fK vi 40 0 (d40.pat p)) (p:=r) aV avJ d40.ok (λp=>aW) (iG aW) (ij aW) ((aH2 x xs).trans (by rw[yz];exact h))).2
 |nil=>
  cases h;exact J7 (λc=>(jQ (out:=λp=>fK vi 40 0 (d40.pat p)) (p:=[]) aV avJ d40.ok (λp=>aW) (iG aW) (ij aW) (aHx c)).2) (λa c=>(jQ (out:=λp=>fK vi 40 0 (d40.pat p)) (p:=[]) aV avJ d40.ok (λp=>aW) (iG aW) (ij aW) (aGJ a c)).2)
def e40:=eL vi 40 G A40 d40 (λg=>Qu g.1)
def tT{F:bq}(h:bA vi F):bA vi (e40 F):=ew (sc:=oF) di h40 ⟨_,func40,aW,aW⟩ (λ_=>aW) (λ_=>aW) h
abbrev axP:=ay
def d235:Td 0 axP:= .c [] [2] (.r 0 3 (ec 2 (qp 0 0) en) (sb 0 128 (lc (qo 1) (aU (aU (aU (lc (qo 2) (aU (aU (aU ln)))))))) (sr 1 34 (sr 2 34 sn))) (λz=>(ay.mk z.t.1 (aL.mk z.2.1.2.1 z.2.1.t.1 z.2.1.t.2.1) z.t.2.1 (aL.mk z.2.1.q.2.1 z.2.1.q.t.1 z.2.1.q.t.2.1))) (λx=>(((),()),(((),x.aD.ah,x.aD.ag,x.aD.ak,(),x.aI.ah,x.aI.ag,x.aI.ak,()),x.ai,x.aF,()))))
def G0(a0:ay):af axP:=
 match Qu a0.ai with|I=>I|V r1=>match Qu a0.aF with|I=>I|V r2=>V (ay.mk r1 a0.aD r2 a0.aI)
def ar0:=eL vi 235 G (lc (qg 128) ln) d235 (λg=>G0 g.1)
def uY:EO ar0:=λh=>kL (an:= .no) func235 (tT aV) aH h
structure Bh where
 t46:List aL
 (t47 t48:Int)
 (b0 b1:ay)
def RF:Td 0 Bh:= .c [] [4,5,46,47,48] (.r 0 4 (ec 4 (qp 0 0) (ec 5 (qp 1 0) (ec 46 (ql 34) (ec 47 aN (ec 48 aN en))))) (sb 0 128 (lc qn (aU (aU (aU (lc qn (aU (aU (aU ln)))))))) (sb 1 128 (lc (qo 2) (aU (aU (aU (lc (qo 3) (aU (aU (aU ln)))))))) (sr 2 34 (sr 3 34 sn)))) (λz=>⟨z.1.t.1,z.1.t.2.1,z.1.q.1,(ay.mk [] (aL.mk z.2.1.2.1 z.2.1.t.1 z.2.1.t.2.1) [] (aL.mk z.2.1.q.2.1 z.2.1.q.t.1 z.2.1.q.t.2.1)),(ay.mk z.t.2.1 (aL.mk z.t.1.2.1 z.t.1.t.1 z.t.1.t.2.1) z.q.1 (aL.mk z.t.1.q.2.1 z.t.1.q.t.1 z.t.1.q.t.2.1))⟩) (λx=>(((),(),x.t46,x.t47,x.t48,()),(((),x.b0.aD.ah,x.b0.aD.ag,x.b0.aD.ak,(),x.b0.aI.ah,x.b0.aI.ag,x.b0.aI.ak,()),((),x.b1.aD.ah,x.b1.aD.ag,x.b1.aD.ak,(),x.b1.aI.ah,x.b1.aI.ag,x.b1.aI.ak,()),x.b1.ai,x.b1.aF,()))))
def Ln(p:Bh):af (af Bh):=
 bif J (p.t48<p.t47)then if 0<=p.t48/\p.t48<zR p.t46 then bif J (p.t48<zR p.b1.aF)then if 0<=p.t48/\p.t48<zR p.b1.aF then if 34=34/\zD p.t48<zR p.b1.aF then match uL p.b1.aF[zD p.t48]! p.t46[zD p.t48]! with|I=>I|V r2=>if 0<=p.t48/\p.t48<zR p.b1.aF then if 34=34/\zD p.t48<zR p.b1.aF then V (V (Bh.mk p.t46 p.t47 (aj (p.t48+1)) (ay.mk [] p.b0.aD [] p.b0.aI) (ay.mk p.b1.ai p.b1.aD (p.b1.aF.set p.t48.toNat r2) p.b1.aI)))else I else I else I else I else if(p.b1.aF++[p.t46[zD p.t48]!]).length<=1073741824 then V (V (Bh.mk p.t46 p.t47 (aj (p.t48+1)) (ay.mk [] p.b0.aD [] p.b0.aI) (ay.mk p.b1.ai p.b1.aD (p.b1.aF++[p.t46[zD p.t48]!]) p.b1.aI)))else I else I else V (I)
def KH:=bI (Ln)
structure EM where
 (t13 t14:Int)
 (b0 b1 b2:ay)
def Tz:Td 0 EM:= .c [] [3,4,5,13,14] (.r 0 5 (ec 3 (qp 0 0) (ec 4 (qp 1 0) (ec 5 (qp 2 0) (ec 13 aN (ec 14 aN en))))) (sb 0 128 (lg 128) (sb 1 128 (lc qn (aU (aU (aU (lc qn (aU (aU (aU ln)))))))) (sb 2 128 (lc (qo 3) (aU (aU (aU (lc (qo 4) (aU (aU (aU ln)))))))) (sr 3 34 (sr 4 34 sn))))) (λz=>⟨z.1.t.2.1,z.1.q.1,z.2.1,(ay.mk [] (aL.mk z.t.1.2.1 z.t.1.t.1 z.t.1.t.2.1) [] (aL.mk z.t.1.q.2.1 z.t.1.q.t.1 z.t.1.q.t.2.1)),(ay.mk z.q.1 (aL.mk z.t.2.1.2.1 z.t.2.1.t.1 z.t.2.1.t.2.1) z.q.2.1 (aL.mk z.t.2.1.q.2.1 z.t.2.1.q.t.1 z.t.2.1.q.t.2.1))⟩) (λx=>(((),(),(),x.t13,x.t14,()),(x.b0,((),x.b1.aD.ah,x.b1.aD.ag,x.b1.aD.ak,(),x.b1.aI.ah,x.b1.aI.ag,x.b1.aI.ak,()),((),x.b2.aD.ah,x.b2.aD.ag,x.b2.aD.ak,(),x.b2.aI.ah,x.b2.aI.ag,x.b2.aI.ak,()),x.b2.ai,x.b2.aF,()))))
def L5(p:EM):af (af EM):=
 bif J (p.t14<p.t13)then if 0<=p.t14/\p.t14<zR p.b2.ai then if 34=34/\zD p.t14<zR p.b2.ai then if 0<=p.t14/\p.t14<zR p.b0.ai then match uL p.b2.ai[zD p.t14]! p.b0.ai[zD p.t14]! with|I=>I|V r1=>if 0<=p.t14/\p.t14<zR p.b2.ai then if 34=34/\zD p.t14<zR p.b2.ai then V (V (EM.mk p.t13 (aj (p.t14+1)) p.b0 (ay.mk [] p.b1.aD [] p.b1.aI) (ay.mk (p.b2.ai.set p.t14.toNat r1) p.b2.aD p.b2.aF p.b2.aI)))else I else I else I else I else I else V (I)
def Jt:=bI (L5)
abbrev aCR:=ay
def d236:Td 0 aCR:= .c [] [4] (.r 0 3 (ec 4 (qp 0 0) en) (sb 0 128 (lc (qo 1) (aU (aU (aU (lc (qo 2) (aU (aU (aU ln)))))))) (sr 1 34 (sr 2 34 sn))) (λz=>(ay.mk z.t.1 (aL.mk z.2.1.2.1 z.2.1.t.1 z.2.1.t.2.1) z.t.2.1 (aL.mk z.2.1.q.2.1 z.2.1.q.t.1 z.2.1.q.t.2.1))) (λx=>(((),()),(((),x.aD.ah,x.aD.ag,x.aD.ak,(),x.aI.ah,x.aI.ag,x.aI.ak,()),x.ai,x.aF,()))))
def KB(a0:ay)(a1:ay):af aCR:=
 match G0 a0 with|I=>I|V r3=>match Jt (EM.mk (zR r3.ai) 0 a1 (ay.mk [] (aL.mk 0 0 0) [] (aL.mk 0 0 0)) r3)with|I=>I|V r4=>bif J (r4.t14<r4.t13)then if 0<=r4.t14/\r4.t14<zR r4.b2.ai then if 34=34/\zD r4.t14<zR r4.b2.ai then if 0<=r4.t14/\r4.t14<zR r4.b0.ai then match uL r4.b2.ai[zD r4.t14]! r4.b0.ai[zD r4.t14]! with|I=>I|V r5=>if 0<=r4.t14/\r4.t14<zR r4.b2.ai then if 34=34/\zD r4.t14<zR r4.b2.ai then I else I else I else I else I else I else match uL r4.b2.aD r4.b0.aD with|I=>I|V r6=>match uL r4.b2.aI r4.b0.aI with|I=>I|V r7=>match KH (Bh.mk r4.b0.aF (zR r4.b0.aF) 0 (ay.mk [] r4.b1.aD [] r4.b1.aI) (ay.mk r4.b2.ai r6 r4.b2.aF r7))with|I=>I|V r8=>bif J (r8.t48<r8.t47)then if 0<=r8.t48/\r8.t48<zR r8.t46 then bif J (r8.t48<zR r8.b1.aF)then if 0<=r8.t48/\r8.t48<zR r8.b1.aF then if 34=34/\zD r8.t48<zR r8.b1.aF then match uL r8.b1.aF[zD r8.t48]! r8.t46[zD r8.t48]! with|I=>I|V r9=>if 0<=r8.t48/\r8.t48<zR r8.b1.aF then if 34=34/\zD r8.t48<zR r8.b1.aF then I else I else I else I else I else if(r8.b1.aF++[r8.t46[zD r8.t48]!]).length<=1073741824 then I else I else I else V (r8.b1)
def arQ:=eL vi 236 G (lc (qg 128) (lc (qg 128) ln)) d236 (λg=>KB g.1 g.2.1)
def US:EO arQ:=λh=>kL (an:=(noTwo (noTwo (.two (noTwo (Tz.lp Jt .no)) (noTwo (noTwo (.two (noTwo (RF.lp KH .no)) .no))))))) (l:=[(aZ f236 0,(Tz.lp Jt .no)),(aZ f236 1,(RF.lp KH .no))]) func236 (uY (LM aV)) (aA (aO Tz) (aA (aO RF) aH)) h
abbrev aCx:=ay
def d157:Td 0 aCx:= .c [] [4] (.r 0 1 (ec 4 (qp 0 0) en) (sb 0 128 (lg 128) sn) (λz=>z.2.1) (λx=>(((),()),(x,()))))
def Sc(a0:ay)(a1:Int):af aCx:=
 match uR (8) a0.aI (Wi a1)with|I=>I|V r1=>V (ay.mk a0.ai a0.aD a0.aF r1.fst)
def ar7:bq->bq:=eZ vi 157 (lc (qg 128) (aU ln)) d157 (λg=>Sc g.1 g.2.1)
def Uz:EO ar7:=λh=>kZ (an:= .no) func157 (Jf (Mh aV)) aH h
abbrev az7:=ay
def d158:Td 0 az7:= .c [] [8] (.r 0 3 (ec 8 (qp 0 0) en) (sb 0 128 (lc (qo 1) (aU (aU (aU (lc (qo 2) (aU (aU (aU ln)))))))) (sr 1 34 (sr 2 34 sn))) (λz=>(ay.mk z.t.1 (aL.mk z.2.1.2.1 z.2.1.t.1 z.2.1.t.2.1) z.t.2.1 (aL.mk z.2.1.q.2.1 z.2.1.q.t.1 z.2.1.q.t.2.1))) (λx=>(((),()),(((),x.aD.ah,x.aD.ag,x.aD.ak,(),x.aI.ah,x.aI.ag,x.aI.ak,()),x.ai,x.aF,()))))
def SE(a0:Runner)(a1:ay)(a2:Int)(a3:aL):af az7:=
 match G0 a1 with|I=>I|V r1=>if 0<=a2/\a2<zR a0.fF.ai then match m81 a3 a0.fF.ai[a2.toNat]!.ah a0.fF.ai[a2.toNat]!.ag with|I=>I|V r2=>if 0<=a2/\a2<zR r1.ai then if 34=34/\a2.toNat<zR r1.ai then V (ay.mk (r1.ai.set a2.toNat r2.fst) r1.aD r1.aF r1.aI)else I else I else I
def aDp:=eL vi 158 G (lc (qg 133) (lc (qg 128) (aU (lc (qg 34) ln)))) d158 (λg=>SE g.1 g.2.1 g.t.1 g.t.2.1)
def agK:EO aDp:=λh=>kL (an:= .no) func158 (uY (TC aV)) aH h
structure BO where
 (t10 t11:Int)
 b0:ay
 b1:aL
 b2:ay
def Qy:Td 0 BO:= .c [] [2,3,4,10,11] (.r 0 5 (ec 2 (qp 0 0) (ec 3 (qp 1 0) (ec 4 (qp 2 0) (ec 10 aN (ec 11 aN en))))) (sb 0 128 (lc (qo 3) (aU (aU (aU (lc (qo 4) (aU (aU (aU ln)))))))) (sb 1 34 (lg 34) (sb 2 128 (lc qn (aU (aU (aU (lc qn (aU (aU (aU ln)))))))) (sr 3 34 (sr 4 34 sn))))) (λz=>⟨z.1.t.2.1,z.1.q.1,(ay.mk z.q.1 (aL.mk z.2.1.2.1 z.2.1.t.1 z.2.1.t.2.1) z.q.2.1 (aL.mk z.2.1.q.2.1 z.2.1.q.t.1 z.2.1.q.t.2.1)),z.t.1,(ay.mk [] (aL.mk z.t.2.1.2.1 z.t.2.1.t.1 z.t.2.1.t.2.1) [] (aL.mk z.t.2.1.q.2.1 z.t.2.1.q.t.1 z.t.2.1.q.t.2.1))⟩) (λx=>(((),(),(),x.t10,x.t11,()),(((),x.b0.aD.ah,x.b0.aD.ag,x.b0.aD.ak,(),x.b0.aI.ah,x.b0.aI.ag,x.b0.aI.ak,()),x.b1,((),x.b2.aD.ah,x.b2.aD.ag,x.b2.aD.ak,(),x.b2.aI.ah,x.b2.aI.ag,x.b2.aI.ak,()),x.b0.ai,x.b0.aF,()))))
def IS(p:BO):af (af BO):=
 bif J (p.t11<p.t10)then match m92 p.b0.aD p.t11 with|I=>I|V r1=>bif r1 then if 0<=p.t11/\p.t11<zR p.b0.aF then if 34=34/\zD p.t11<zR p.b0.aF then match uL p.b0.aF[zD p.t11]! p.b1 with|I=>I|V r2=>if 0<=p.t11/\p.t11<zR p.b0.aF then if 34=34/\zD p.t11<zR p.b0.aF then V (V (BO.mk p.t10 (aj (p.t11+1)) (ay.mk p.b0.ai p.b0.aD (p.b0.aF.set p.t11.toNat r2) p.b0.aI) p.b1 (ay.mk [] p.b2.aD [] p.b2.aI)))else I else I else I else I else V (V (BO.mk p.t10 (aj (p.t11+1)) p.b0 p.b1 (ay.mk [] p.b2.aD [] p.b2.aI)))else V (I)
def Lb:=bI (IS)
abbrev aA7:=ay
def d159:Td 0 aA7:= .c [] [4] (.r 0 3 (ec 4 (qp 0 0) en) (sb 0 128 (lc (qo 1) (aU (aU (aU (lc (qo 2) (aU (aU (aU ln)))))))) (sr 1 34 (sr 2 34 sn))) (λz=>(ay.mk z.t.1 (aL.mk z.2.1.2.1 z.2.1.t.1 z.2.1.t.2.1) z.t.2.1 (aL.mk z.2.1.q.2.1 z.2.1.q.t.1 z.2.1.q.t.2.1))) (λx=>(((),()),(((),x.aD.ah,x.aD.ag,x.aD.ak,(),x.aI.ah,x.aI.ag,x.aI.ak,()),x.ai,x.aF,()))))
def aac(a0:ay)(a1:aL):af aA7:=
 match G0 a0 with|I=>I|V r3=>match Lb (BO.mk (zR r3.aF) 0 r3 a1 (ay.mk [] (aL.mk 0 0 0) [] (aL.mk 0 0 0)))with|I=>I|V r4=>bif J (r4.t11<r4.t10)then match m92 r4.b0.aD r4.t11 with|I=>I|V r5=>bif r5 then if 0<=r4.t11/\r4.t11<zR r4.b0.aF then if 34=34/\zD r4.t11<zR r4.b0.aF then match uL r4.b0.aF[zD r4.t11]! r4.b1 with|I=>I|V r6=>if 0<=r4.t11/\r4.t11<zR r4.b0.aF then if 34=34/\zD r4.t11<zR r4.b0.aF then I else I else I else I else I else I else if(r4.b0.aF++[r4.b1]).length<=1073741824 then match uR 8 r4.b0.aD (Wi 1)with|I=>I|V r7=>V (ay.mk r4.b0.ai r7.fst (r4.b0.aF++[r4.b1]) r4.b0.aI)else I
def aC0:=eL vi 159 G (lc (qg 128) (lc (qg 34) ln)) d159 (λg=>aac g.1 g.2.1)
def akh:EO aC0:=λh=>kL (an:=(noTwo (noTwo (.two (noTwo (Qy.lp Lb .no)) .no)))) (l:=[(aZ f159 0,(Qy.lp Lb .no))]) func159 (uY (Jf (LM (RE (Mh aV))))) (aA (aO Qy) aH) h
abbrev rV:=ay
def d83:Td 0 rV:= .c [] [6] (.r 0 1 (ec 6 (qp 0 0) en) (sb 0 128 (lg 128) sn) (λz=>z.2.1) (λx=>(((),()),(x,()))))
def A83:=(lc (qg 133) (lc (ql 166) (lc (qg 128) ln)))
def x83(M:Runner->(aa aC)->ay->af rV):bq->bq:=eZ vi 83 A83 d83 (λg=>M g.1 g.2.1 g.2.2.1)
def H83(M:Runner->(aa aC)->ay->af rV):Prop:=HL vi 83 A83 d83 (λg=>M g.1 g.2.1 g.2.2.1)
def Rv{M:Runner->(aa aC)->ay->af rV}(hM:H83 M){F:bq}(h:bA vi F):bA vi (x83 M F):=F7 hM ⟨_,func83,aW,aW⟩ (λ_=>aW) h
abbrev iL:=ay
def d156:Td 0 iL:= .c [] [6] (.r 0 1 (ec 6 (qp 0 0) en) (sb 0 128 (lg 128) sn) (λz=>z.2.1) (λx=>(((),()),(x,()))))
def asw:=(lc (qg 133) (lc (qg 166) (lc (qg 128) ln)))
def axe(M:Runner->aC->ay->af iL):bq->bq:=eZ vi 156 asw d156 (λg=>M g.1 g.2.1 g.2.2.1)
def acI(M:Runner->aC->ay->af iL):Prop:=HL vi 156 asw d156 (λg=>M g.1 g.2.1 g.2.2.1)
def al3{M:Runner->aC->ay->af iL}(hM:acI M){F:bq}(h:bA vi F):bA vi (axe M F):=F7 hM ⟨_,func156,aW,aW⟩ (λ_=>aW) h
abbrev iI:=ay
def d160:Td 0 iI:= .c [] [6] (.t (bX.fc 0 0 []) (.t (bX.fc 0 4 []) (.c [] [6] (.r 0 1 (ec 6 (qp 0 0) en) (sb 0 128 (lg 128) sn) (λz=>z.2.1) (λx=>(((),()),(x,())))))))
def asR:=(lc (qg 133) (lc (qg 166) (lc (qg 128) ln)))
def x160(M:Runner->aC->ay->af iI):bq->bq:=eZ vi 160 asR d160 (λg=>M g.1 g.2.1 g.2.2.1)
def aci(M:Runner->aC->ay->af iI):Prop:=HL vi 160 asR d160 (λg=>M g.1 g.2.1 g.2.2.1)
def alk{M:Runner->aC->ay->af iI}(hM:aci M){F:bq}(h:bA vi F):bA vi (x160 M F):=F7 hM ⟨_,func160,aW,aW⟩ (λ_=>aW) h
def F83(M83:Runner->(aa aC)->ay->af rV)(M156:Runner->aC->ay->af iL)(M160:Runner->aC->ay->af iI):bq:=(ax4 (x160 M160 (aC0 (aDp (ar7 (axe M156 (e82 dw)))))))
def art{M83 M156 M160}(h83:H83 M83)(h156:acI M156)(h160:aci M160):bA vi (F83 M83 M156 M160):=(ahi (alk h160 (akh (agK (Uz (al3 h156 (KY aV)))))))
structure qR where
 t9:List aC
 (t10 t11:Int)
 b0:Runner
 (b1 b2:ay)
def aeR:Td 0 qR:= .c [] [3,5,6,9,10,11] (.t (bX.fc 1 0 []) (.t (bX.fc 1 4 []) (.c [] [3,5,6,9,10,11] (.r 0 3 (ec 3 (qp 0 0) (ec 5 (qp 1 0) (ec 6 (qp 2 0) (ec 9 (ql 166) (ec 10 aN (ec 11 aN en)))))) (sb 0 133 (lg 133) (sb 1 128 (lg 128) (sb 2 128 (lc qn (aU (aU (aU (lc qn (aU (aU (aU ln)))))))) sn))) (λz=>⟨z.1.t.2.1,z.1.q.1,z.1.q.2.1,z.2.1,z.t.1,(ay.mk [] (aL.mk z.t.2.1.2.1 z.t.2.1.t.1 z.t.2.1.t.2.1) [] (aL.mk z.t.2.1.q.2.1 z.t.2.1.q.t.1 z.t.2.1.q.t.2.1))⟩) (λx=>(((),(),(),x.t9,x.t10,x.t11,()),(x.b0,x.b1,((),x.b2.aD.ah,x.b2.aD.ag,x.b2.aD.ak,(),x.b2.aI.ah,x.b2.aI.ag,x.b2.aI.ak,()),())))))))
def Xd(M83:Runner->(aa aC)->ay->af rV)(M156:Runner->aC->ay->af iL)(M160:Runner->aC->ay->af iI)(p:qR):af (af qR):=
 bif J (p.t11<p.t10)then if 0<=p.t11/\p.t11<zR p.t9 then bif J (p.t9[zD p.t11]!.cg=4)then match M156 p.b0 (aC.mk p.t9[zD p.t11]!.cg p.t9[zD p.t11]!.bh p.t9[zD p.t11]!.dM p.t9[zD p.t11]!.fN (az.mk p.t9[zD p.t11]!.aG.bD p.t9[zD p.t11]!.aG.fN p.t9[zD p.t11]!.aG.ax) p.t9[zD p.t11]!.aQ p.t9[zD p.t11]!.aX p.t9[zD p.t11]!.aR) p.b1 with|I=>I|V r1=>V (V (qR.mk p.t9 p.t10 (aj (p.t11+1)) p.b0 r1 (ay.mk [] p.b2.aD [] p.b2.aI)))else match Sc p.b1 p.t9[zD p.t11]!.bh with|I=>I|V r2=>bif J (p.t9[zD p.t11]!.cg=0)then match Sa r2 (az.mk p.t9[zD p.t11]!.aG.bD p.t9[zD p.t11]!.aG.fN p.t9[zD p.t11]!.aG.ax)with|I=>I|V r3=>match SE p.b0 r2 p.t9[zD p.t11]!.dM r3 with|I=>I|V r4=>V (V (qR.mk p.t9 p.t10 (aj (p.t11+1)) p.b0 r4 (ay.mk [] p.b2.aD [] p.b2.aI)))else bif J (p.t9[zD p.t11]!.cg=5)then if 0<=p.t9[zD p.t11]!.fN/\p.t9[zD p.t11]!.fN<zR p.b0.au then match SE p.b0 r2 p.t9[zD p.t11]!.dM p.b0.au[p.t9[zD p.t11]!.fN.toNat]! with|I=>I|V r5=>V (V (qR.mk p.t9 p.t10 (aj (p.t11+1)) p.b0 r5 (ay.mk [] p.b2.aD [] p.b2.aI)))else I else bif J (p.t9[zD p.t11]!.cg=1)then match Sa r2 (az.mk p.t9[zD p.t11]!.aG.bD p.t9[zD p.t11]!.aG.fN p.t9[zD p.t11]!.aG.ax)with|I=>I|V r6=>match aac r2 r6 with|I=>I|V r7=>V (V (qR.mk p.t9 p.t10 (aj (p.t11+1)) p.b0 r7 (ay.mk [] p.b2.aD [] p.b2.aI)))else bif J (p.t9[zD p.t11]!.cg=3)then match M160 p.b0 (aC.mk p.t9[zD p.t11]!.cg p.t9[zD p.t11]!.bh p.t9[zD p.t11]!.dM p.t9[zD p.t11]!.fN (az.mk p.t9[zD p.t11]!.aG.bD p.t9[zD p.t11]!.aG.fN p.t9[zD p.t11]!.aG.ax) p.t9[zD p.t11]!.aQ p.t9[zD p.t11]!.aX p.t9[zD p.t11]!.aR) r2 with|I=>I|V r8=>V (V (qR.mk p.t9 p.t10 (aj (p.t11+1)) p.b0 r8 (ay.mk [] p.b2.aD [] p.b2.aI)))else bif J (p.t9[zD p.t11]!.cg=6)then match MV r2.aI p.t9[zD p.t11]!.aR with|I=>I|V r9=>V (V (qR.mk p.t9 p.t10 (aj (p.t11+1)) p.b0 (ay.mk r2.ai r2.aD r2.aF r9.fst) (ay.mk [] p.b2.aD [] p.b2.aI)))else V (V (qR.mk p.t9 p.t10 (aj (p.t11+1)) p.b0 r2 (ay.mk [] p.b2.aD [] p.b2.aI)))else I else V (I)
def W7(M83:Runner->(aa aC)->ay->af rV)(M156:Runner->aC->ay->af iL)(M160:Runner->aC->ay->af iI):=bI (Xd M83 M156 M160)
def aw5(M83:Runner->(aa aC)->ay->af rV)(M156:Runner->aC->ay->af iL)(M160:Runner->aC->ay->af iI):An:=(noTwo (.two (noTwo (aeR.lp (W7 M83 M156 M160) .no)) .no))
def aHc(M83:Runner->(aa aC)->ay->af rV)(M156:Runner->aC->ay->af iL)(M160:Runner->aC->ay->af iI):fe vi (F83 M83 M156 M160) 0 300 83 (aw5 M83 M156 M160):=b6 (l:=[(aZ f83 0,(aeR.lp (W7 M83 M156 M160) .no))]) func83 (bM aW) aW (aA (aO aeR) aH)
def s83(M83:Runner->(aa aC)->ay->af rV)(M156:Runner->aC->ay->af iL)(M160:Runner->aC->ay->af iI)(a0:Runner)(a1:aa aC)(a2:ay):af rV:=
 match W7 M83 M156 M160 (qR.mk a1 (zR a1) 0 a0 a2 (ay.mk [] (aL.mk 0 0 0) [] (aL.mk 0 0 0)))with|I=>I|V r10=>bif J (r10.t11<r10.t10)then if 0<=r10.t11/\r10.t11<zR r10.t9 then bif J (r10.t9[zD r10.t11]!.cg=4)then match M156 r10.b0 (aC.mk r10.t9[zD r10.t11]!.cg r10.t9[zD r10.t11]!.bh r10.t9[zD r10.t11]!.dM r10.t9[zD r10.t11]!.fN (az.mk r10.t9[zD r10.t11]!.aG.bD r10.t9[zD r10.t11]!.aG.fN r10.t9[zD r10.t11]!.aG.ax) r10.t9[zD r10.t11]!.aQ r10.t9[zD r10.t11]!.aX r10.t9[zD r10.t11]!.aR) r10.b1 with|I=>I|V r11=>I else match Sc r10.b1 r10.t9[zD r10.t11]!.bh with|I=>I|V r12=>bif J (r10.t9[zD r10.t11]!.cg=0)then match Sa r12 (az.mk r10.t9[zD r10.t11]!.aG.bD r10.t9[zD r10.t11]!.aG.fN r10.t9[zD r10.t11]!.aG.ax)with|I=>I|V r13=>match SE r10.b0 r12 r10.t9[zD r10.t11]!.dM r13 with|I=>I|V r14=>I else bif J (r10.t9[zD r10.t11]!.cg=5)then if 0<=r10.t9[zD r10.t11]!.fN/\r10.t9[zD r10.t11]!.fN<zR r10.b0.au then match SE r10.b0 r12 r10.t9[zD r10.t11]!.dM r10.b0.au[r10.t9[zD r10.t11]!.fN.toNat]! with|I=>I|V r15=>I else I else bif J (r10.t9[zD r10.t11]!.cg=1)then match Sa r12 (az.mk r10.t9[zD r10.t11]!.aG.bD r10.t9[zD r10.t11]!.aG.fN r10.t9[zD r10.t11]!.aG.ax)with|I=>I|V r16=>match aac r12 r16 with|I=>I|V r17=>I else bif J (r10.t9[zD r10.t11]!.cg=3)then match M160 r10.b0 (aC.mk r10.t9[zD r10.t11]!.cg r10.t9[zD r10.t11]!.bh r10.t9[zD r10.t11]!.dM r10.t9[zD r10.t11]!.fN (az.mk r10.t9[zD r10.t11]!.aG.bD r10.t9[zD r10.t11]!.aG.fN r10.t9[zD r10.t11]!.aG.ax) r10.t9[zD r10.t11]!.aQ r10.t9[zD r10.t11]!.aX r10.t9[zD r10.t11]!.aR) r12 with|I=>I|V r18=>I else bif J (r10.t9[zD r10.t11]!.cg=6)then match MV r12.aI r10.t9[zD r10.t11]!.aR with|I=>I|V r19=>I else I else I else V (r10.b1)
def c83(M83:Runner->(aa aC)->ay->af rV)(M156:Runner->aC->ay->af iL)(M160:Runner->aC->ay->af iI)(a0:Runner)(a1:aa aC)(a2:ay):bV vi (F83 M83 M156 M160) 300 (aw5 M83 M156 M160) 83 (A83.c (a0,a1,a2,())) [] 0 d83.rd=s83 M83 M156 M160 a0 a1 a2:=aW
def as8(M83:Runner->(aa aC)->ay->af rV)(M156:Runner->aC->ay->af iL)(M160:Runner->aC->ay->af iI):bq:=(arQ (ar0 (ar7 (alM (x83 M83 (e82 dw))))))
def af1{M83 M156 M160}(h83:H83 M83)(h156:acI M156)(h160:aci M160):bA vi (as8 M83 M156 M160):=(US (uY (Uz (L3 (Rv h83 (KY aV))))))
structure mW where
 t53:List ay
 (t54 t55:Int)
 (b0 b1:ay)
def SZ:Td 0 mW:= .c [] [6,11,53,54,55] (.t (bX.fc 1 0 []) (.t (bX.fc 1 4 []) (.c [] [6,11,53,54,55] (.r 0 2 (ec 6 (qp 0 0) (ec 11 (qp 1 0) (ec 53 (ql 128) (ec 54 aN (ec 55 aN en))))) (sb 0 128 (lc qn (aU (aU (aU (lc qn (aU (aU (aU ln)))))))) (sb 1 128 (lg 128) sn)) (λz=>⟨z.1.t.1,z.1.t.2.1,z.1.q.1,(ay.mk [] (aL.mk z.2.1.2.1 z.2.1.t.1 z.2.1.t.2.1) [] (aL.mk z.2.1.q.2.1 z.2.1.q.t.1 z.2.1.q.t.2.1)),z.t.1⟩) (λx=>(((),(),x.t53,x.t54,x.t55,()),(((),x.b0.aD.ah,x.b0.aD.ag,x.b0.aD.ak,(),x.b0.aI.ah,x.b0.aI.ag,x.b0.aI.ak,()),x.b1,())))))))
def LV(M83:Runner->(aa aC)->ay->af rV)(M156:Runner->aC->ay->af iL)(M160:Runner->aC->ay->af iI)(p:mW):af (af mW):=
 bif J (p.t55<p.t54)then if 0<=p.t55/\p.t55<zR p.t53 then match KB p.b1 p.t53[zD p.t55]! with|I=>I|V r7=>V (V (mW.mk p.t53 p.t54 (aj (p.t55+1)) (ay.mk [] p.b0.aD [] p.b0.aI) r7))else I else V (I)
def rA(M83:Runner->(aa aC)->ay->af rV)(M156:Runner->aC->ay->af iL)(M160:Runner->aC->ay->af iI):=bI (LV M83 M156 M160)
structure Bj where
 t7:List ay
 t8:Bool
 (t15 t16:Int)
 b0:Runner
 b1:aC
 (b2 b3:ay)
def Sj:Td 0 Bj:= .c [] [3,4,5,6,7,8,15,16] (.t (bX.s 7 [] 128) (.c [] [3,4,5,6,7,8,15,16] (.r 0 5 (ec 3 (qp 0 0) (ec 4 (qp 1 0) (ec 5 (qp 2 0) (ec 6 (qp 3 0) (ec 7 (qo 4) (ec 8 qb (ec 15 aN (ec 16 aN en)))))))) (sb 0 133 (lg 133) (sb 1 166 (lg 166) (sb 2 128 (lg 128) (sb 3 128 (lc qn (aU (aU (aU (lc qn (aU (aU (aU ln)))))))) (sr 4 128 sn))))) (λz=>⟨z.q.2.1,z.1.q.2.1,z.1.q.t.1,z.1.q.t.2.1,z.2.1,z.t.1,z.t.2.1,(ay.mk [] (aL.mk z.q.1.2.1 z.q.1.t.1 z.q.1.t.2.1) [] (aL.mk z.q.1.q.2.1 z.q.1.q.t.1 z.q.1.q.t.2.1))⟩) (λx=>(((),(),(),(),(),x.t8,x.t15,x.t16,()),(x.b0,x.b1,x.b2,((),x.b3.aD.ah,x.b3.aD.ag,x.b3.aD.ak,(),x.b3.aI.ah,x.b3.aI.ag,x.b3.aI.ak,()),x.t7,()))))))
def BY(M83:Runner->(aa aC)->ay->af rV)(M156:Runner->aC->ay->af iL)(M160:Runner->aC->ay->af iI)(p:Bj):af (af Bj):=
 bif J (p.t16<p.t15)then match Sc p.b2 p.b1.bh with|I=>I|V r1=>match Sa r1 (az.mk p.b1.aG.bD p.b1.aG.fN p.b1.aG.ax)with|I=>I|V r2=>match S6 r2 with|I=>I|V r3=>bif r3.fst then match G0 r1 with|I=>I|V r4=>if(p.t7++[r4]).length<=1073741824 then bif bif r3.snd then G else O then V (I)else match M83 p.b0 p.b1.aQ r1 with|I=>I|V r5=>V (V (Bj.mk (p.t7++[r4]) p.t8 p.t15 (aj (p.t16+1)) p.b0 (aC.mk p.b1.cg p.b1.bh p.b1.dM p.b1.fN (az.mk p.b1.aG.bD p.b1.aG.fN p.b1.aG.ax) p.b1.aQ p.b1.aX p.b1.aR) r5 (ay.mk [] p.b3.aD [] p.b3.aI)))else I else bif bif r3.snd then G else O then V (I)else match M83 p.b0 p.b1.aQ r1 with|I=>I|V r6=>V (V (Bj.mk p.t7 p.t8 p.t15 (aj (p.t16+1)) p.b0 (aC.mk p.b1.cg p.b1.bh p.b1.dM p.b1.fN (az.mk p.b1.aG.bD p.b1.aG.fN p.b1.aG.ax) p.b1.aQ p.b1.aX p.b1.aR) r6 (ay.mk [] p.b3.aD [] p.b3.aI)))else V (I)
def Kw(M83:Runner->(aa aC)->ay->af rV)(M156:Runner->aC->ay->af iL)(M160:Runner->aC->ay->af iI):=bI (BY M83 M156 M160)
def anX(M83:Runner->(aa aC)->ay->af rV)(M156:Runner->aC->ay->af iL)(M160:Runner->aC->ay->af iI):An:=(noTwo (noTwo (noTwo (.two (noTwo (Sj.lp (Kw M83 M156 M160) .no)) (noTwo (noTwo (.two (noTwo (SZ.lp (rA M83 M156 M160) .no)) .no)))))))
def ayu(M83:Runner->(aa aC)->ay->af rV)(M156:Runner->aC->ay->af iL)(M160:Runner->aC->ay->af iI):fe vi (as8 M83 M156 M160) 0 300 156 (anX M83 M156 M160):=b6 (l:=[(aZ f156 0,(Sj.lp (Kw M83 M156 M160) .no)),(aZ f156 1,(SZ.lp (rA M83 M156 M160) .no))]) func156 (bM aW) aW (aA (aO Sj) (aA (aO SZ) aH))
def aiA(M83:Runner->(aa aC)->ay->af rV)(M156:Runner->aC->ay->af iL)(M160:Runner->aC->ay->af iI)(a0:Runner)(a1:aC)(a2:ay):af iL:=
 match Kw M83 M156 M160 (Bj.mk [] O a1.fN 0 a0 (aC.mk a1.cg a1.bh a1.dM a1.fN (az.mk a1.aG.bD a1.aG.fN a1.aG.ax) a1.aQ a1.aX a1.aR) a2 (ay.mk [] (aL.mk 0 0 0) [] (aL.mk 0 0 0)))with|I=>I|V r8=>bif J (r8.t16<r8.t15)then match Sc r8.b2 r8.b1.bh with|I=>I|V r9=>match Sa r9 (az.mk r8.b1.aG.bD r8.b1.aG.fN r8.b1.aG.ax)with|I=>I|V r10=>match S6 r10 with|I=>I|V r11=>bif r11.fst then match G0 r9 with|I=>I|V r12=>if(r8.t7++[r12]).length<=1073741824 then bif bif r11.snd then G else O then if(0:Int)<=(0:Int)/\(0:Int)<(↑(r8.t7++[r12]).length:Int)then if 128=128/\0<zR (r8.t7++[r12]) then if(0:Int)<=(1:Int)/\(1:Int)<=(↑(r8.t7++[r12]).length:Int)then match rA M83 M156 M160 (mW.mk (ya 1 (r8.t7++[r12])) (↑(ya 1 (r8.t7++[r12])).length:Int) 0 (ay.mk [] r8.b3.aD [] r8.b3.aI) (r8.t7++[r12])[0]!)with|I=>I|V r13=>bif J (r13.t55<r13.t54)then if 0<=r13.t55/\r13.t55<zR r13.t53 then match KB r13.b1 r13.t53[zD r13.t55]! with|I=>I|V r14=>I else I else V (r13.b1)else I else I else I else match M83 r8.b0 r8.b1.aQ r9 with|I=>I|V r15=>I else I else bif bif r11.snd then G else O then if(0:Int)<=(0:Int)/\(0:Int)<zR r8.t7 then if 128=128/\0<zR r8.t7 then if(0:Int)<=(1:Int)/\(1:Int)<=zR r8.t7 then match rA M83 M156 M160 (mW.mk (ya 1 r8.t7) (↑(ya 1 r8.t7).length:Int) 0 (ay.mk [] r8.b3.aD [] r8.b3.aI) r8.t7[0]!)with|I=>I|V r16=>bif J (r16.t55<r16.t54)then if 0<=r16.t55/\r16.t55<zR r16.t53 then match KB r16.b1 r16.t53[zD r16.t55]! with|I=>I|V r17=>I else I else V (r16.b1)else I else I else I else match M83 r8.b0 r8.b1.aQ r9 with|I=>I|V r18=>I else bif r8.t8 then if(r8.t7++[r8.b2]).length<=1073741824 then if(0:Int)<=(0:Int)/\(0:Int)<(↑(r8.t7++[r8.b2]).length:Int)then if 128=128/\0<zR (r8.t7++[r8.b2]) then if(0:Int)<=(1:Int)/\(1:Int)<=(↑(r8.t7++[r8.b2]).length:Int)then match rA M83 M156 M160 (mW.mk (ya 1 (r8.t7++[r8.b2])) (↑(ya 1 (r8.t7++[r8.b2])).length:Int) 0 (ay.mk [] r8.b3.aD [] r8.b3.aI) (r8.t7++[r8.b2])[0]!)with|I=>I|V r19=>bif J (r19.t55<r19.t54)then if 0<=r19.t55/\r19.t55<zR r19.t53 then match KB r19.b1 r19.t53[zD r19.t55]! with|I=>I|V r20=>I else I else V (r19.b1)else I else I else I else I else if(0:Int)<=(0:Int)/\(0:Int)<zR r8.t7 then if 128=128/\0<zR r8.t7 then if(0:Int)<=(1:Int)/\(1:Int)<=zR r8.t7 then match rA M83 M156 M160 (mW.mk (ya 1 r8.t7) (↑(ya 1 r8.t7).length:Int) 0 (ay.mk [] r8.b3.aD [] r8.b3.aI) r8.t7[0]!)with|I=>I|V r21=>bif J (r21.t55<r21.t54)then if 0<=r21.t55/\r21.t55<zR r21.t53 then match KB r21.b1 r21.t53[zD r21.t55]! with|I=>I|V r22=>I else I else V (r21.b1)else I else I else I
def aG0(M83:Runner->(aa aC)->ay->af rV)(M156:Runner->aC->ay->af iL)(M160:Runner->aC->ay->af iI)(a0:Runner)(a1:aC)(a2:ay):bV vi (as8 M83 M156 M160) 300 (anX M83 M156 M160) 156 (asw.c (a0,a1,a2,())) [] 0 d156.rd=aiA M83 M156 M160 a0 a1 a2:=aW
def aqt(M83:Runner->(aa aC)->ay->af rV)(M156:Runner->aC->ay->af iL)(M160:Runner->aC->ay->af iI):bq:=(arQ (ar0 (alM (x83 M83 (e82 dw)))))
def ahh{M83 M156 M160}(h83:H83 M83)(h156:acI M156)(h160:aci M160):bA vi (aqt M83 M156 M160):=(US (uY (L3 (Rv h83 (KY aV)))))
def aoU(M83:Runner->(aa aC)->ay->af rV)(M156:Runner->aC->ay->af iL)(M160:Runner->aC->ay->af iI):An:= .no
def azf(M83:Runner->(aa aC)->ay->af rV)(M156:Runner->aC->ay->af iL)(M160:Runner->aC->ay->af iI):fe vi (aqt M83 M156 M160) 0 300 160 (aoU M83 M156 M160):=b6 (l:=[]) func160 (bM aW) aW aH
def anp(M83:Runner->(aa aC)->ay->af rV)(M156:Runner->aC->ay->af iL)(M160:Runner->aC->ay->af iI)(a0:Runner)(a1:aC)(a2:ay):af iI:=
 match Sa a2 (az.mk a1.aG.bD a1.aG.fN a1.aG.ax)with|I=>I|V r1=>match S6 r1 with|I=>I|V r2=>bif bif r2.fst then G else O then match M83 a0 a1.aQ a2 with|I=>I|V r3=>V (r3)else bif bif r2.snd then G else O then match M83 a0 a1.aX a2 with|I=>I|V r4=>V (r4)else match G0 a2 with|I=>I|V r5=>match M83 a0 a1.aQ r5 with|I=>I|V r6=>match G0 a2 with|I=>I|V r7=>match M83 a0 a1.aX r7 with|I=>I|V r8=>match KB r6 r8 with|I=>I|V r9=>V (r9)
def aFm(M83:Runner->(aa aC)->ay->af rV)(M156:Runner->aC->ay->af iL)(M160:Runner->aC->ay->af iI)(a0:Runner)(a1:aC)(a2:ay):bV vi (aqt M83 M156 M160) 300 (aoU M83 M156 M160) 160 (asR.c (a0,a1,a2,())) [] 0 d160.rd=anp M83 M156 M160 a0 a1 a2:=aW
def dO:Nat->(Runner->(aa aC)->ay->af rV)×(Runner->aC->ay->af iL)×(Runner->aC->ay->af iI)
 |0=>(λ_ _ _=>I,λ_ _ _=>I,λ_ _ _=>I)
 |n+1=>(s83 (dO n).1 (dO n).2.1 (dO n).2.2,aiA (dO n).1 (dO n).2.1 (dO n).2.2,anp (dO n).1 (dO n).2.1 (dO n).2.2)
def YZ(n:Nat):Runner->(aa aC)->ay->af rV:=(dO n).1
def Ej(n:Nat):Runner->aC->ay->af iL:=(dO n).2.1
def Fe(n:Nat):Runner->aC->ay->af iI:=(dO n).2.2
def pN:∀n,H83 (YZ n)/\acI (Ej n)/\aci (Fe n)
 |0=>⟨λ_ _ h=>(by cases h),λ_ _ h=>(by cases h),λ_ _ h=>(by cases h)⟩
 |n+1=>by
  have ih:=pN n;obtain⟨i83,i156,i160⟩:=ih;refine⟨?_,?_,?_⟩
  ·exact(dR (art i83 i156 i160) (aHc (YZ n) (Ej n) (Fe n)) (λ_=>aW) (λ_=>aW) λg=>c83 (YZ n) (Ej n) (Fe n) g.1 g.2.1 g.2.2.1)
  ·exact(dR (af1 i83 i156 i160) (ayu (YZ n) (Ej n) (Fe n)) (λ_=>aW) (λ_=>aW) λg=>aG0 (YZ n) (Ej n) (Fe n) g.1 g.2.1 g.2.2.1)
  ·exact(dR (ahh i83 i156 i160) (azf (YZ n) (Ej n) (Fe n)) (λ_=>aW) (λ_=>aW) λg=>aFm (YZ n) (Ej n) (Fe n) g.1 g.2.1 g.2.2.1)
def r83:Runner->(aa aC)->ay->af rV:=λa0 a1 a2=>lim (λn=>YZ n a0 a1 a2)
def atQ:H83 r83:=λg b h=>by
 obtain⟨n,hn⟩:=dD (show lim (λn=>YZ n g.1 g.2.1 g.2.2.1)=V b from h);exact(pN n).1 g b hn
def e83(F:bq):bq:=x83 r83 F
def aqN{F:bq}(h:bA vi F):bA vi (e83 F):=Rv atQ h
abbrev aAj:=aL
def d168:Td 0 aAj:= .c [] [4] (.r 0 1 (ec 4 (qp 0 0) en) (sb 0 34 (lg 34) sn) (λz=>z.2.1) (λx=>(((),()),(x,()))))
def Fb(a0:aL)(a1:Int):af aAj:=
 match ou (8) a0 (m36 a1)with|I=>I|V r1=>V (r1.fst)
def aq2:=eL vi 168 G (lc (qg 34) (aU ln)) d168 (λg=>Fb g.1 g.2.1)
def JO:EO aq2:=λh=>kL (an:= .no) func168 (Vf (LO aV)) aH h
structure uk where
 (t48 t49:Int)
 (b0 b1 b2 b3:aJ)
def Q6:Td 0 uk:= .c [] [2,3,4,5,48,49] (.t (bX.c 3 4 [] 34) (.c [] [2,3,4,5,48,49] (.r 0 6 (ec 2 (qp 0 0) (ec 3 (qp 1 0) (ec 4 (qp 2 0) (ec 5 (qp 3 0) (ec 48 aN (ec 49 aN en)))))) (sb 0 147 (lg 147) (sb 1 147 (lg 147) (sb 2 147 (lc qn (aU (aU (aU (lc qn (aU (aU (aU ln)))))))) (sb 3 147 (lc (qo 4) (aU (aU (aU (lc (qo 5) (aU (aU (aU ln)))))))) (sr 4 34 (sr 5 34 sn)))))) (λz=>⟨z.1.q.1,z.1.q.2.1,z.2.1,z.t.1,(aJ.mk [] (aL.mk z.t.2.1.2.1 z.t.2.1.t.1 z.t.2.1.t.2.1) [] (aL.mk z.t.2.1.q.2.1 z.t.2.1.q.t.1 z.t.2.1.q.t.2.1)),(aJ.mk z.q.2.1 (aL.mk z.q.1.2.1 z.q.1.t.1 z.q.1.t.2.1) z.q.t.1 (aL.mk z.q.1.q.2.1 z.q.1.q.t.1 z.q.1.q.t.2.1))⟩) (λx=>(((),(),(),(),x.t48,x.t49,()),(x.b0,x.b1,((),x.b2.aD.ah,x.b2.aD.ag,x.b2.aD.ak,(),x.b2.aI.ah,x.b2.aI.ag,x.b2.aI.ak,()),((),x.b3.aD.ah,x.b3.aD.ag,x.b3.aD.ak,(),x.b3.aI.ah,x.b3.aI.ag,x.b3.aI.ak,()),x.b3.ai,x.b3.aF,()))))))
def LX(p:uk):af (af uk):=
 bif J (p.t49<p.t48)then bif J (zR p.b0.aF<=p.t49)then if 0<=p.t49/\p.t49<zR p.b1.aF then if(p.b3.aF++[p.b1.aF[zD p.t49]!]).length<=1073741824 then V (V (uk.mk p.t48 (aj (p.t49+1)) p.b0 p.b1 (aJ.mk [] p.b2.aD [] p.b2.aI) (aJ.mk p.b3.ai p.b3.aD (p.b3.aF++[p.b1.aF[zD p.t49]!]) p.b3.aI)))else I else I else bif J (zR p.b1.aF<=p.t49)then if 0<=p.t49/\p.t49<zR p.b0.aF then if(p.b3.aF++[p.b0.aF[zD p.t49]!]).length<=1073741824 then V (V (uk.mk p.t48 (aj (p.t49+1)) p.b0 p.b1 (aJ.mk [] p.b2.aD [] p.b2.aI) (aJ.mk p.b3.ai p.b3.aD (p.b3.aF++[p.b0.aF[zD p.t49]!]) p.b3.aI)))else I else I else if 0<=p.t49/\p.t49<zR p.b0.aF then if 0<=p.t49/\p.t49<zR p.b1.aF then match lE p.b0.aF[zD p.t49]! p.b1.aF[zD p.t49]! with|I=>I|V r2=>if(p.b3.aF++[r2]).length<=1073741824 then V (V (uk.mk p.t48 (aj (p.t49+1)) p.b0 p.b1 (aJ.mk [] p.b2.aD [] p.b2.aI) (aJ.mk p.b3.ai p.b3.aD (p.b3.aF++[r2]) p.b3.aI)))else I else I else I else V (I)
def Jz:=bI (LX)
structure EC where
 (t21 t22:Int)
 (b0 b1 b2 b3:aJ)
def TD:Td 0 EC:= .c [] [2,3,4,5,21,22] (.t (bX.c 3 0 [] 34) (.c [] [2,3,4,5,21,22] (.r 0 5 (ec 2 (qp 0 0) (ec 3 (qp 1 0) (ec 4 (qp 2 0) (ec 5 (qp 3 0) (ec 21 aN (ec 22 aN en)))))) (sb 0 147 (lg 147) (sb 1 147 (lg 147) (sb 2 147 (lc qn (aU (aU (aU (lc qn (aU (aU (aU ln)))))))) (sb 3 147 (lc (qo 4) (aU (aU (aU (lc qn (aU (aU (aU ln)))))))) (sr 4 34 sn))))) (λz=>⟨z.1.q.1,z.1.q.2.1,z.2.1,z.t.1,(aJ.mk [] (aL.mk z.t.2.1.2.1 z.t.2.1.t.1 z.t.2.1.t.2.1) [] (aL.mk z.t.2.1.q.2.1 z.t.2.1.q.t.1 z.t.2.1.q.t.2.1)),(aJ.mk z.q.2.1 (aL.mk z.q.1.2.1 z.q.1.t.1 z.q.1.t.2.1) [] (aL.mk z.q.1.q.2.1 z.q.1.q.t.1 z.q.1.q.t.2.1))⟩) (λx=>(((),(),(),(),x.t21,x.t22,()),(x.b0,x.b1,((),x.b2.aD.ah,x.b2.aD.ag,x.b2.aD.ak,(),x.b2.aI.ah,x.b2.aI.ag,x.b2.aI.ak,()),((),x.b3.aD.ah,x.b3.aD.ag,x.b3.aD.ak,(),x.b3.aI.ah,x.b3.aI.ag,x.b3.aI.ak,()),x.b3.ai,()))))))
def Jc(p:EC):af (af EC):=
 bif J (p.t22<p.t21)then if 0<=p.t22/\p.t22<zR p.b0.ai then if 0<=p.t22/\p.t22<zR p.b1.ai then match lE p.b0.ai[zD p.t22]! p.b1.ai[zD p.t22]! with|I=>I|V r1=>if(p.b3.ai++[r1]).length<=1073741824 then V (V (EC.mk p.t21 (aj (p.t22+1)) p.b0 p.b1 (aJ.mk [] p.b2.aD [] p.b2.aI) (aJ.mk (p.b3.ai++[r1]) p.b3.aD [] p.b3.aI)))else I else I else I else V (I)
def L2:=bI (Jc)
abbrev awf:=aJ
def d171:Td 0 awf:= .c [] [4] (.r 0 3 (ec 4 (qp 0 0) en) (sb 0 147 (lc (qo 1) (aU (aU (aU (lc (qo 2) (aU (aU (aU ln)))))))) (sr 1 34 (sr 2 34 sn))) (λz=>(aJ.mk z.t.1 (aL.mk z.2.1.2.1 z.2.1.t.1 z.2.1.t.2.1) z.t.2.1 (aL.mk z.2.1.q.2.1 z.2.1.q.t.1 z.2.1.q.t.2.1))) (λx=>(((),()),(((),x.aD.ah,x.aD.ag,x.aD.ak,(),x.aI.ah,x.aI.ag,x.aI.ak,()),x.ai,x.aF,()))))
def SN(a0:aJ)(a1:aJ):af awf:=
 match lE a0.aD a1.aD with|I=>I|V r3=>match lE a0.aI a1.aI with|I=>I|V r4=>match L2 (EC.mk (zR a0.ai) 0 a0 a1 (aJ.mk [] (aL.mk 0 0 0) [] (aL.mk 0 0 0)) (aJ.mk [] r3 [] r4))with|I=>I|V r5=>bif J (r5.t22<r5.t21)then if 0<=r5.t22/\r5.t22<zR r5.b0.ai then if 0<=r5.t22/\r5.t22<zR r5.b1.ai then match lE r5.b0.ai[zD r5.t22]! r5.b1.ai[zD r5.t22]! with|I=>I|V r6=>if(r5.b3.ai++[r6]).length<=1073741824 then I else I else I else I else match Jz (uk.mk (if(zR r5.b0.aF:Int)<(zR r5.b1.aF:Int)then(zR r5.b1.aF:Int)else(zR r5.b0.aF:Int)) 0 r5.b0 r5.b1 (aJ.mk [] r5.b2.aD [] r5.b2.aI) (aJ.mk r5.b3.ai r5.b3.aD [] r5.b3.aI))with|I=>I|V r7=>bif J (r7.t49<r7.t48)then bif J (zR r7.b0.aF<=r7.t49)then if 0<=r7.t49/\r7.t49<zR r7.b1.aF then if(r7.b3.aF++[r7.b1.aF[zD r7.t49]!]).length<=1073741824 then I else I else I else bif J (zR r7.b1.aF<=r7.t49)then if 0<=r7.t49/\r7.t49<zR r7.b0.aF then if(r7.b3.aF++[r7.b0.aF[zD r7.t49]!]).length<=1073741824 then I else I else I else if 0<=r7.t49/\r7.t49<zR r7.b0.aF then if 0<=r7.t49/\r7.t49<zR r7.b1.aF then match lE r7.b0.aF[zD r7.t49]! r7.b1.aF[zD r7.t49]! with|I=>I|V r8=>if(r7.b3.aF++[r8]).length<=1073741824 then I else I else I else I else V (r7.b3)
def aCq:=eL vi 171 G (lc (qg 147) (lc (qg 147) ln)) d171 (λg=>SN g.1 g.2.1)
def UF:EO aCq:=λh=>kL (an:=(noTwo (noTwo (.two (noTwo (TD.lp L2 .no)) (.two (noTwo (Q6.lp Jz .no)) .no))))) (l:=[(aZ f171 0,(TD.lp L2 .no)),(aZ f171 1,(Q6.lp Jz .no))]) func171 (sj aV) (aA (aO TD) (aA (aO Q6) aH)) h
structure Em where
 t10:List aJ
 (t11 t12:Int)
 (b0 b1:aJ)
def TT:Td 0 Em:= .c [] [2,3,10,11,12] (.t (bX.fc 1 0 []) (.t (bX.fc 1 4 []) (.c [] [2,3,10,11,12] (.r 0 2 (ec 2 (qp 0 0) (ec 3 (qp 1 0) (ec 10 (ql 147) (ec 11 aN (ec 12 aN en))))) (sb 0 147 (lc qn (aU (aU (aU (lc qn (aU (aU (aU ln)))))))) (sb 1 147 (lg 147) sn)) (λz=>⟨z.1.t.1,z.1.t.2.1,z.1.q.1,(aJ.mk [] (aL.mk z.2.1.2.1 z.2.1.t.1 z.2.1.t.2.1) [] (aL.mk z.2.1.q.2.1 z.2.1.q.t.1 z.2.1.q.t.2.1)),z.t.1⟩) (λx=>(((),(),x.t10,x.t11,x.t12,()),(((),x.b0.aD.ah,x.b0.aD.ag,x.b0.aD.ak,(),x.b0.aI.ah,x.b0.aI.ag,x.b0.aI.ak,()),x.b1,())))))))
def JV(p:Em):af (af Em):=
 bif J (p.t12<p.t11)then if 0<=p.t12/\p.t12<zR p.t10 then match SN p.b1 p.t10[zD p.t12]! with|I=>I|V r1=>V (V (Em.mk p.t10 p.t11 (aj (p.t12+1)) (aJ.mk [] p.b0.aD [] p.b0.aI) r1))else I else V (I)
def Jh:=bI (JV)
abbrev axI:=aJ
def d247:Td 0 axI:= .c [] [2] (.r 0 1 (ec 2 (qp 0 0) en) (sb 0 147 (lg 147) sn) (λz=>z.2.1) (λx=>(((),()),(x,()))))
def MO(a0:aa aJ):af axI:=
 if(0:Int)<=(0:Int)/\(0:Int)<zR a0 then if(0:Int)<=(1:Int)/\(1:Int)<=zR a0 then match Jh (Em.mk (ya 1 a0) (↑(ya 1 a0).length:Int) 0 (aJ.mk [] (aL.mk 0 0 0) [] (aL.mk 0 0 0)) a0[0]!)with|I=>I|V r2=>bif J (r2.t12<r2.t11)then if 0<=r2.t12/\r2.t12<zR r2.t10 then match SN r2.b1 r2.t10[zD r2.t12]! with|I=>I|V r3=>I else I else V (r2.b1)else I else I
def aeu:bq->bq:=eZ vi 247 (lc (ql 147) ln) d247 (λg=>MO g.1)
def akR:EO aeu:=λh=>kZ (an:=(noTwo (noTwo (.two (noTwo (TT.lp Jh .no)) .no)))) (l:=[(aZ f247 0,(TT.lp Jh .no))]) func247 (UF aV) (aA (aO TT) aH) h
abbrev aCu:=aJ
def d169:Td 0 aCu:= .c [] [8] (.r 0 2 (ec 8 (qp 0 0) en) (sb 0 147 (lc (qo 1) (aU (aU (aU (lc (ql 34) (aU (aU (aU ln)))))))) (sr 1 34 sn)) (λz=>(aJ.mk z.t.1 (aL.mk z.2.1.2.1 z.2.1.t.1 z.2.1.t.2.1) z.2.1.q.1 (aL.mk z.2.1.q.2.1 z.2.1.q.t.1 z.2.1.q.t.2.1))) (λx=>(((),()),(((),x.aD.ah,x.aD.ag,x.aD.ak,x.aF,x.aI.ah,x.aI.ag,x.aI.ak,()),x.ai,()))))
def RA(a0:aS)(a1:aJ)(a2:Int)(a3:aL):af aCu:=
 if([]++a1.ai).length<=1073741824 then if 0<=a2/\a2<zR a0.ai then if 0<=a2/\a2<zR a0.ai then match m86 a3 a0.ai[a2.toNat]!.ah a0.ai[a2.toNat]!.ag with|I=>I|V r1=>if 0<=a2/\a2<(↑([]++a1.ai).length:Int)then if 34=34/\a2.toNat<zR ([]++a1.ai) then V (aJ.mk (([]++a1.ai).set a2.toNat r1.fst) a1.aD a1.aF a1.aI)else I else I else I else I else I
def ayj:bq->bq:=eZ vi 169 (lc (qg 26) (lc (qg 147) (aU (lc (qg 34) ln)))) d169 (λg=>RA g.1 g.2.1 g.t.1 g.t.2.1)
def afY:EO ayj:=λh=>kZ (an:= .no) func169 (Tm aV) aH h
structure Bf where
 t5:List aL
 (t12 t13:Int)
 b0:aJ
 b1:aL
 b2:aJ
def SP:Td 0 Bf:= .c [] [2,3,4,5,12,13] (.r 0 4 (ec 2 (qp 0 0) (ec 3 (qp 1 0) (ec 4 (qp 2 0) (ec 5 (qo 3) (ec 12 aN (ec 13 aN en)))))) (sb 0 147 (lg 147) (sb 1 34 (lg 34) (sb 2 147 (lc qn (aU (aU (aU (lc qn (aU (aU (aU ln)))))))) (sr 3 34 sn)))) (λz=>⟨z.q.1,z.1.q.1,z.1.q.2.1,z.2.1,z.t.1,(aJ.mk [] (aL.mk z.t.2.1.2.1 z.t.2.1.t.1 z.t.2.1.t.2.1) [] (aL.mk z.t.2.1.q.2.1 z.t.2.1.q.t.1 z.t.2.1.q.t.2.1))⟩) (λx=>(((),(),(),(),x.t12,x.t13,()),(x.b0,x.b1,((),x.b2.aD.ah,x.b2.aD.ag,x.b2.aD.ak,(),x.b2.aI.ah,x.b2.aI.ag,x.b2.aI.ak,()),x.t5,()))))
def KU(p:Bf):af (af Bf):=
 bif J (p.t13<p.t12)then match m32 p.b0.aD p.t13 with|I=>I|V r1=>bif r1 then if 0<=p.t13/\p.t13<zR p.t5 then if 34=34/\zD p.t13<zR p.t5 then match lE p.t5[zD p.t13]! p.b1 with|I=>I|V r2=>if 0<=p.t13/\p.t13<zR p.t5 then if 34=34/\zD p.t13<zR p.t5 then V (V (Bf.mk (p.t5.set p.t13.toNat r2) p.t12 (aj (p.t13+1)) p.b0 p.b1 (aJ.mk [] p.b2.aD [] p.b2.aI)))else I else I else I else I else V (V (Bf.mk p.t5 p.t12 (aj (p.t13+1)) p.b0 p.b1 (aJ.mk [] p.b2.aD [] p.b2.aI)))else V (I)
def KJ:=bI (KU)
abbrev aBi:=aJ
def d170:Td 0 aBi:= .c [] [4] (.r 0 2 (ec 4 (qp 0 0) en) (sb 0 147 (lc (ql 34) (aU (aU (aU (lc (qo 1) (aU (aU (aU ln)))))))) (sr 1 34 sn)) (λz=>(aJ.mk z.2.1.1 (aL.mk z.2.1.2.1 z.2.1.t.1 z.2.1.t.2.1) z.t.1 (aL.mk z.2.1.q.2.1 z.2.1.q.t.1 z.2.1.q.t.2.1))) (λx=>(((),()),((x.ai,x.aD.ah,x.aD.ag,x.aD.ak,(),x.aI.ah,x.aI.ag,x.aI.ak,()),x.aF,()))))
def abe(a0:aJ)(a1:aL):af aBi:=
 if([]++a0.aF).length<=1073741824 then match KJ (Bf.mk ([]++a0.aF) (↑([]++a0.aF).length:Int) 0 a0 a1 (aJ.mk [] (aL.mk 0 0 0) [] (aL.mk 0 0 0)))with|I=>I|V r3=>bif J (r3.t13<r3.t12)then match m32 r3.b0.aD r3.t13 with|I=>I|V r4=>bif r4 then if 0<=r3.t13/\r3.t13<zR r3.t5 then if 34=34/\zD r3.t13<zR r3.t5 then match lE r3.t5[zD r3.t13]! r3.b1 with|I=>I|V r5=>if 0<=r3.t13/\r3.t13<zR r3.t5 then if 34=34/\zD r3.t13<zR r3.t5 then I else I else I else I else I else I else if(r3.t5++[r3.b1]).length<=1073741824 then match Fb r3.b0.aD 1with|I=>I|V r6=>V (aJ.mk r3.b0.ai r6 (r3.t5++[r3.b1]) r3.b0.aI)else I else I
def ayt:bq->bq:=eZ vi 170 (lc (qg 147) (lc (qg 34) ln)) d170 (λg=>abe g.1 g.2.1)
def afU:EO ayt:=λh=>kZ (an:=(noTwo (noTwo (.two (noTwo (SP.lp KJ .no)) .no)))) (l:=[(aZ f170 0,(SP.lp KJ .no))]) func170 (JO (sj (DP aV))) (aA (aO SP) aH) h
abbrev DD:=aJ
def d88:Td 0 DD:= .c [] [8] (.r 0 1 (ec 8 (qp 0 0) en) (sb 0 147 (lg 147) sn) (λz=>z.2.1) (λx=>(((),()),(x,()))))
def A88:=(lc (qg 26) (lc (ql 34) (lc (ql 166) (lc (qg 147) ln))))
def x88(M:aS->(aa aL)->(aa aC)->aJ->af DD):bq->bq:=eZ vi 88 A88 d88 (λg=>M g.1 g.2.1 g.2.2.1 g.2.2.2.1)
def H88(M:aS->(aa aL)->(aa aC)->aJ->af DD):Prop:=HL vi 88 A88 d88 (λg=>M g.1 g.2.1 g.2.2.1 g.2.2.2.1)
def T7{M:aS->(aa aL)->(aa aC)->aJ->af DD}(hM:H88 M){F:bq}(h:bA vi F):bA vi (x88 M F):=F7 hM ⟨_,func88,aW,aW⟩ (λ_=>aW) h
abbrev mD:=aJ
def d167:Td 0 mD:= .c [] [8] (.r 0 1 (ec 8 (qp 0 0) en) (sb 0 147 (lg 147) sn) (λz=>z.2.1) (λx=>(((),()),(x,()))))
def auN:=(lc (qg 26) (lc (ql 34) (lc (qg 166) (lc (qg 147) ln))))
def x167(M:aS->(aa aL)->aC->aJ->af mD):bq->bq:=eZ vi 167 auN d167 (λg=>M g.1 g.2.1 g.2.2.1 g.2.2.2.1)
def aih(M:aS->(aa aL)->aC->aJ->af mD):Prop:=HL vi 167 auN d167 (λg=>M g.1 g.2.1 g.2.2.1 g.2.2.2.1)
def akP{M:aS->(aa aL)->aC->aJ->af mD}(hM:aih M){F:bq}(h:bA vi F):bA vi (x167 M F):=F7 hM ⟨_,func167,aW,aW⟩ (λ_=>aW) h
def F88(M88:aS->(aa aL)->(aa aC)->aJ->af DD)(M167:aS->(aa aL)->aC->aJ->af mD):bq:=(ayg (aCq (ayt (ayj (aq2 (x167 M167 (Ya (x88 M88 (e87 dw)))))))))
def asE{M88 M167}(h88:H88 M88)(h167:aih M167):bA vi (F88 M88 M167):=(ak9 (UF (afU (afY (JO (akP h167 (vY (T7 h88 (Tf aV)))))))))
structure og where
 t1:List aL
 t13:List aC
 (t14 t15:Int)
 b0:aS
 (b1 b2:aJ)
def aaQ:Td 0 og:= .c [] [1,4,7,8,13,14,15] (.t (bX.fc 1 0 []) (.t (bX.fc 1 4 []) (.c [] [1,4,7,8,13,14,15] (.r 0 3 (ec 1 (ql 34) (ec 4 (qp 0 0) (ec 7 (qp 1 0) (ec 8 (qp 2 0) (ec 13 (ql 166) (ec 14 aN (ec 15 aN en))))))) (sb 0 26 (lg 26) (sb 1 147 (lg 147) (sb 2 147 (lc qn (aU (aU (aU (lc qn (aU (aU (aU ln)))))))) sn))) (λz=>⟨z.1.1,z.1.q.1,z.1.q.2.1,z.1.q.t.1,z.2.1,z.t.1,(aJ.mk [] (aL.mk z.t.2.1.2.1 z.t.2.1.t.1 z.t.2.1.t.2.1) [] (aL.mk z.t.2.1.q.2.1 z.t.2.1.q.t.1 z.t.2.1.q.t.2.1))⟩) (λx=>((x.t1,(),(),(),x.t13,x.t14,x.t15,()),(x.b0,x.b1,((),x.b2.aD.ah,x.b2.aD.ag,x.b2.aD.ak,(),x.b2.aI.ah,x.b2.aI.ag,x.b2.aI.ak,()),())))))))
def Vu(M88:aS->(aa aL)->(aa aC)->aJ->af DD)(M167:aS->(aa aL)->aC->aJ->af mD)(p:og):af (af og):=
 bif J (p.t15<p.t14)then if 0<=p.t15/\p.t15<zR p.t13 then bif J (p.t13[zD p.t15]!.cg=4)then match M167 p.b0 p.t1 (aC.mk p.t13[zD p.t15]!.cg p.t13[zD p.t15]!.bh p.t13[zD p.t15]!.dM p.t13[zD p.t15]!.fN (az.mk p.t13[zD p.t15]!.aG.bD p.t13[zD p.t15]!.aG.fN p.t13[zD p.t15]!.aG.ax) p.t13[zD p.t15]!.aQ p.t13[zD p.t15]!.aX p.t13[zD p.t15]!.aR) p.b1 with|I=>I|V r1=>V (V (og.mk p.t1 p.t13 p.t14 (aj (p.t15+1)) p.b0 r1 (aJ.mk [] p.b2.aD [] p.b2.aI)))else match Fb p.b1.aI p.t13[zD p.t15]!.bh with|I=>I|V r2=>bif J (p.t13[zD p.t15]!.cg=0)then match Qb (aJ.mk p.b1.ai p.b1.aD p.b1.aF r2) (az.mk p.t13[zD p.t15]!.aG.bD p.t13[zD p.t15]!.aG.fN p.t13[zD p.t15]!.aG.ax)with|I=>I|V r3=>match RA p.b0 (aJ.mk p.b1.ai p.b1.aD p.b1.aF r2) p.t13[zD p.t15]!.dM r3 with|I=>I|V r4=>V (V (og.mk p.t1 p.t13 p.t14 (aj (p.t15+1)) p.b0 r4 (aJ.mk [] p.b2.aD [] p.b2.aI)))else bif J (p.t13[zD p.t15]!.cg=5)then if 0<=p.t13[zD p.t15]!.fN/\p.t13[zD p.t15]!.fN<zR p.t1 then match RA p.b0 (aJ.mk p.b1.ai p.b1.aD p.b1.aF r2) p.t13[zD p.t15]!.dM p.t1[p.t13[zD p.t15]!.fN.toNat]! with|I=>I|V r5=>V (V (og.mk p.t1 p.t13 p.t14 (aj (p.t15+1)) p.b0 r5 (aJ.mk [] p.b2.aD [] p.b2.aI)))else I else bif J (p.t13[zD p.t15]!.cg=1)then match Qb (aJ.mk p.b1.ai p.b1.aD p.b1.aF r2) (az.mk p.t13[zD p.t15]!.aG.bD p.t13[zD p.t15]!.aG.fN p.t13[zD p.t15]!.aG.ax)with|I=>I|V r6=>match abe (aJ.mk p.b1.ai p.b1.aD p.b1.aF r2) r6 with|I=>I|V r7=>V (V (og.mk p.t1 p.t13 p.t14 (aj (p.t15+1)) p.b0 r7 (aJ.mk [] p.b2.aD [] p.b2.aI)))else bif J (p.t13[zD p.t15]!.cg=3)then match Qb (aJ.mk p.b1.ai p.b1.aD p.b1.aF r2) (az.mk p.t13[zD p.t15]!.aG.bD p.t13[zD p.t15]!.aG.fN p.t13[zD p.t15]!.aG.ax)with|I=>I|V r8=>match FH r8 with|I=>I|V r9=>bif bif r9.fst then G else O then match M88 p.b0 p.t1 p.t13[zD p.t15]!.aQ (aJ.mk p.b1.ai p.b1.aD p.b1.aF r2)with|I=>I|V r10=>V (V (og.mk p.t1 p.t13 p.t14 (aj (p.t15+1)) p.b0 r10 (aJ.mk [] p.b2.aD [] p.b2.aI)))else bif bif r9.snd then G else O then match M88 p.b0 p.t1 p.t13[zD p.t15]!.aX (aJ.mk p.b1.ai p.b1.aD p.b1.aF r2)with|I=>I|V r11=>V (V (og.mk p.t1 p.t13 p.t14 (aj (p.t15+1)) p.b0 r11 (aJ.mk [] p.b2.aD [] p.b2.aI)))else match M88 p.b0 p.t1 p.t13[zD p.t15]!.aQ (aJ.mk p.b1.ai p.b1.aD p.b1.aF r2)with|I=>I|V r12=>match M88 p.b0 p.t1 p.t13[zD p.t15]!.aX (aJ.mk p.b1.ai p.b1.aD p.b1.aF r2)with|I=>I|V r13=>match SN r12 r13 with|I=>I|V r14=>V (V (og.mk p.t1 p.t13 p.t14 (aj (p.t15+1)) p.b0 r14 (aJ.mk [] p.b2.aD [] p.b2.aI)))else bif J (p.t13[zD p.t15]!.cg=6)then match MZ r2 p.t13[zD p.t15]!.aR with|I=>I|V r15=>V (V (og.mk p.t1 p.t13 p.t14 (aj (p.t15+1)) p.b0 (aJ.mk p.b1.ai p.b1.aD p.b1.aF r15.fst) (aJ.mk [] p.b2.aD [] p.b2.aI)))else V (V (og.mk p.t1 p.t13 p.t14 (aj (p.t15+1)) p.b0 (aJ.mk p.b1.ai p.b1.aD p.b1.aF r2) (aJ.mk [] p.b2.aD [] p.b2.aI)))else I else V (I)
def WY(M88:aS->(aa aL)->(aa aC)->aJ->af DD)(M167:aS->(aa aL)->aC->aJ->af mD):=bI (Vu M88 M167)
def aCw(M88:aS->(aa aL)->(aa aC)->aJ->af DD)(M167:aS->(aa aL)->aC->aJ->af mD):An:=(noTwo (.two (noTwo (aaQ.lp (WY M88 M167) .no)) .no))
def aF1(M88:aS->(aa aL)->(aa aC)->aJ->af DD)(M167:aS->(aa aL)->aC->aJ->af mD):fe vi (F88 M88 M167) 0 300 88 (aCw M88 M167):=b6 (l:=[(aZ f88 0,(aaQ.lp (WY M88 M167) .no))]) func88 (bM aW) aW (aA (aO aaQ) aH)
def s88(M88:aS->(aa aL)->(aa aC)->aJ->af DD)(M167:aS->(aa aL)->aC->aJ->af mD)(a0:aS)(a1:aa aL)(a2:aa aC)(a3:aJ):af DD:=
 match WY M88 M167 (og.mk a1 a2 (zR a2) 0 a0 a3 (aJ.mk [] (aL.mk 0 0 0) [] (aL.mk 0 0 0)))with|I=>I|V r16=>bif J (r16.t15<r16.t14)then if 0<=r16.t15/\r16.t15<zR r16.t13 then bif J (r16.t13[zD r16.t15]!.cg=4)then match M167 r16.b0 r16.t1 (aC.mk r16.t13[zD r16.t15]!.cg r16.t13[zD r16.t15]!.bh r16.t13[zD r16.t15]!.dM r16.t13[zD r16.t15]!.fN (az.mk r16.t13[zD r16.t15]!.aG.bD r16.t13[zD r16.t15]!.aG.fN r16.t13[zD r16.t15]!.aG.ax) r16.t13[zD r16.t15]!.aQ r16.t13[zD r16.t15]!.aX r16.t13[zD r16.t15]!.aR) r16.b1 with|I=>I|V r17=>I else match Fb r16.b1.aI r16.t13[zD r16.t15]!.bh with|I=>I|V r18=>bif J (r16.t13[zD r16.t15]!.cg=0)then match Qb (aJ.mk r16.b1.ai r16.b1.aD r16.b1.aF r18) (az.mk r16.t13[zD r16.t15]!.aG.bD r16.t13[zD r16.t15]!.aG.fN r16.t13[zD r16.t15]!.aG.ax)with|I=>I|V r19=>match RA r16.b0 (aJ.mk r16.b1.ai r16.b1.aD r16.b1.aF r18) r16.t13[zD r16.t15]!.dM r19 with|I=>I|V r20=>I else bif J (r16.t13[zD r16.t15]!.cg=5)then if 0<=r16.t13[zD r16.t15]!.fN/\r16.t13[zD r16.t15]!.fN<zR r16.t1 then match RA r16.b0 (aJ.mk r16.b1.ai r16.b1.aD r16.b1.aF r18) r16.t13[zD r16.t15]!.dM r16.t1[r16.t13[zD r16.t15]!.fN.toNat]! with|I=>I|V r21=>I else I else bif J (r16.t13[zD r16.t15]!.cg=1)then match Qb (aJ.mk r16.b1.ai r16.b1.aD r16.b1.aF r18) (az.mk r16.t13[zD r16.t15]!.aG.bD r16.t13[zD r16.t15]!.aG.fN r16.t13[zD r16.t15]!.aG.ax)with|I=>I|V r22=>match abe (aJ.mk r16.b1.ai r16.b1.aD r16.b1.aF r18) r22 with|I=>I|V r23=>I else bif J (r16.t13[zD r16.t15]!.cg=3)then match Qb (aJ.mk r16.b1.ai r16.b1.aD r16.b1.aF r18) (az.mk r16.t13[zD r16.t15]!.aG.bD r16.t13[zD r16.t15]!.aG.fN r16.t13[zD r16.t15]!.aG.ax)with|I=>I|V r24=>match FH r24 with|I=>I|V r25=>bif bif r25.fst then G else O then match M88 r16.b0 r16.t1 r16.t13[zD r16.t15]!.aQ (aJ.mk r16.b1.ai r16.b1.aD r16.b1.aF r18)with|I=>I|V r26=>I else bif bif r25.snd then G else O then match M88 r16.b0 r16.t1 r16.t13[zD r16.t15]!.aX (aJ.mk r16.b1.ai r16.b1.aD r16.b1.aF r18)with|I=>I|V r27=>I else match M88 r16.b0 r16.t1 r16.t13[zD r16.t15]!.aQ (aJ.mk r16.b1.ai r16.b1.aD r16.b1.aF r18)with|I=>I|V r28=>match M88 r16.b0 r16.t1 r16.t13[zD r16.t15]!.aX (aJ.mk r16.b1.ai r16.b1.aD r16.b1.aF r18)with|I=>I|V r29=>match SN r28 r29 with|I=>I|V r30=>I else bif J (r16.t13[zD r16.t15]!.cg=6)then match MZ r18 r16.t13[zD r16.t15]!.aR with|I=>I|V r31=>I else I else I else V (r16.b1)
def c88(M88:aS->(aa aL)->(aa aC)->aJ->af DD)(M167:aS->(aa aL)->aC->aJ->af mD)(a0:aS)(a1:aa aL)(a2:aa aC)(a3:aJ):bV vi (F88 M88 M167) 300 (aCw M88 M167) 88 (A88.c (a0,a1,a2,a3,())) [] 0 d88.rd=s88 M88 M167 a0 a1 a2 a3:=aW
def atw(M88:aS->(aa aL)->(aa aC)->aJ->af DD)(M167:aS->(aa aL)->aC->aJ->af mD):bq:=(aeu (aq2 (Ya (x88 M88 (e87 dw)))))
def afB{M88 M167}(h88:H88 M88)(h167:aih M167):bA vi (atw M88 M167):=(akR (JO (vY (T7 h88 (Tf aV)))))
structure B7 where
 t1:List aL
 t9:List aJ
 (t13 t14:Int)
 b0:aS
 b1:aC
 (b2 b3:aJ)
def Q9:Td 0 B7:= .c [] [1,4,6,7,8,9,13,14] (.t (bX.s 9 [] 147) (.c [] [1,4,6,7,8,9,13,14] (.r 0 5 (ec 1 (ql 34) (ec 4 (qp 0 0) (ec 6 (qp 1 0) (ec 7 (qp 2 0) (ec 8 (qp 3 0) (ec 9 (qo 4) (ec 13 aN (ec 14 aN en)))))))) (sb 0 26 (lg 26) (sb 1 166 (lg 166) (sb 2 147 (lg 147) (sb 3 147 (lc qn (aU (aU (aU (lc qn (aU (aU (aU ln)))))))) (sr 4 147 sn))))) (λz=>⟨z.1.1,z.q.2.1,z.1.q.t.1,z.1.q.t.2.1,z.2.1,z.t.1,z.t.2.1,(aJ.mk [] (aL.mk z.q.1.2.1 z.q.1.t.1 z.q.1.t.2.1) [] (aL.mk z.q.1.q.2.1 z.q.1.q.t.1 z.q.1.q.t.2.1))⟩) (λx=>((x.t1,(),(),(),(),(),x.t13,x.t14,()),(x.b0,x.b1,x.b2,((),x.b3.aD.ah,x.b3.aD.ag,x.b3.aD.ak,(),x.b3.aI.ah,x.b3.aI.ag,x.b3.aI.ak,()),x.t9,()))))))
def BK(M88:aS->(aa aL)->(aa aC)->aJ->af DD)(M167:aS->(aa aL)->aC->aJ->af mD)(p:B7):af (af B7):=
 bif J (p.t14<p.t13)then match Fb p.b2.aI p.b1.bh with|I=>I|V r1=>match Qb (aJ.mk p.b2.ai p.b2.aD p.b2.aF r1) (az.mk p.b1.aG.bD p.b1.aG.fN p.b1.aG.ax)with|I=>I|V r2=>match FH r2 with|I=>I|V r3=>bif r3.fst then if(p.t9++[aJ.mk p.b2.ai p.b2.aD p.b2.aF r1]).length<=1073741824 then bif bif r3.snd then G else O then match MO (p.t9++[aJ.mk p.b2.ai p.b2.aD p.b2.aF r1])with|I=>I|V r4=>V (I)else match M88 p.b0 p.t1 p.b1.aQ (aJ.mk p.b2.ai p.b2.aD p.b2.aF r1)with|I=>I|V r5=>V (V (B7.mk p.t1 (p.t9++[aJ.mk p.b2.ai p.b2.aD p.b2.aF r1]) p.t13 (aj (p.t14+1)) p.b0 (aC.mk p.b1.cg p.b1.bh p.b1.dM p.b1.fN (az.mk p.b1.aG.bD p.b1.aG.fN p.b1.aG.ax) p.b1.aQ p.b1.aX p.b1.aR) r5 (aJ.mk [] p.b3.aD [] p.b3.aI)))else I else bif bif r3.snd then G else O then match MO p.t9 with|I=>I|V r6=>V (I)else match M88 p.b0 p.t1 p.b1.aQ (aJ.mk p.b2.ai p.b2.aD p.b2.aF r1)with|I=>I|V r7=>V (V (B7.mk p.t1 p.t9 p.t13 (aj (p.t14+1)) p.b0 (aC.mk p.b1.cg p.b1.bh p.b1.dM p.b1.fN (az.mk p.b1.aG.bD p.b1.aG.fN p.b1.aG.ax) p.b1.aQ p.b1.aX p.b1.aR) r7 (aJ.mk [] p.b3.aD [] p.b3.aI)))else V (I)
def LH(M88:aS->(aa aL)->(aa aC)->aJ->af DD)(M167:aS->(aa aL)->aC->aJ->af mD):=bI (BK M88 M167)
def anw(M88:aS->(aa aL)->(aa aC)->aJ->af DD)(M167:aS->(aa aL)->aC->aJ->af mD):An:=(noTwo (noTwo (.two (noTwo (Q9.lp (LH M88 M167) .no)) .no)))
def az9(M88:aS->(aa aL)->(aa aC)->aJ->af DD)(M167:aS->(aa aL)->aC->aJ->af mD):fe vi (atw M88 M167) 0 300 167 (anw M88 M167):=b6 (l:=[(aZ f167 0,(Q9.lp (LH M88 M167) .no))]) func167 (bM aW) aW (aA (aO Q9) aH)
def ant(M88:aS->(aa aL)->(aa aC)->aJ->af DD)(M167:aS->(aa aL)->aC->aJ->af mD)(a0:aS)(a1:aa aL)(a2:aC)(a3:aJ):af mD:=
 match LH M88 M167 (B7.mk a1 [] a2.fN (0) a0 (aC.mk a2.cg a2.bh a2.dM a2.fN (az.mk a2.aG.bD a2.aG.fN a2.aG.ax) a2.aQ a2.aX a2.aR) a3 (aJ.mk [] (aL.mk (0) (0) (0)) [] (aL.mk (0) (0) (0))))with|I=>I|V r8=>bif J (r8.t14<r8.t13)then match Fb r8.b2.aI r8.b1.bh with|I=>I|V r9=>match Qb (aJ.mk r8.b2.ai r8.b2.aD r8.b2.aF r9) (az.mk r8.b1.aG.bD r8.b1.aG.fN r8.b1.aG.ax)with|I=>I|V r10=>match FH r10 with|I=>I|V r11=>bif r11.fst then if(r8.t9++[aJ.mk r8.b2.ai r8.b2.aD r8.b2.aF r9]).length<=1073741824 then bif bif r11.snd then G else O then match MO (r8.t9++[aJ.mk r8.b2.ai r8.b2.aD r8.b2.aF r9])with|I=>I|V r12=>V (r12)else match M88 r8.b0 r8.t1 r8.b1.aQ (aJ.mk r8.b2.ai r8.b2.aD r8.b2.aF r9)with|I=>I|V r13=>I else I else bif bif r11.snd then G else O then match MO r8.t9 with|I=>I|V r14=>V (r14)else match M88 r8.b0 r8.t1 r8.b1.aQ (aJ.mk r8.b2.ai r8.b2.aD r8.b2.aF r9)with|I=>I|V r15=>I else if(r8.t9++[r8.b2]).length<=1073741824 then match MO (r8.t9++[r8.b2])with|I=>I|V r16=>V (r16)else I
def aFX(M88:aS->(aa aL)->(aa aC)->aJ->af DD)(M167:aS->(aa aL)->aC->aJ->af mD)(a0:aS)(a1:aa aL)(a2:aC)(a3:aJ):bV vi (atw M88 M167) 300 (anw M88 M167) 167 (auN.c (a0,a1,a2,a3,())) [] 0 d167.rd=ant M88 M167 a0 a1 a2 a3:=aW
def nL:Nat->(aS->(aa aL)->(aa aC)->aJ->af DD)×(aS->(aa aL)->aC->aJ->af mD)
 |0=>(λ_ _ _ _=>I,λ_ _ _ _=>I)
 |n+1=>(s88 (nL n).1 (nL n).2,ant (nL n).1 (nL n).2)
def m88(n:Nat):aS->(aa aL)->(aa aC)->aJ->af DD:=(nL n).1
def ML(n:Nat):aS->(aa aL)->aC->aJ->af mD:=(nL n).2
def CK:∀n,H88 (m88 n)/\aih (ML n)
 |0=>⟨λ_ _ h=>(by cases h),λ_ _ h=>(by cases h)⟩
 |n+1=>by
  have ih:=CK n;obtain⟨i88,i167⟩:=ih;refine⟨?_,?_⟩
  ·exact(dR (asE i88 i167) (aF1 (m88 n) (ML n)) (λ_=>aW) (λ_=>aW) λg=>c88 (m88 n) (ML n) g.1 g.2.1 g.2.2.1 g.2.2.2.1)
  ·exact(dR (afB i88 i167) (az9 (m88 n) (ML n)) (λ_=>aW) (λ_=>aW) λg=>aFX (m88 n) (ML n) g.1 g.2.1 g.2.2.1 g.2.2.2.1)
def r88:aS->(aa aL)->(aa aC)->aJ->af DD:=λa0 a1 a2 a3=>lim (λn=>m88 n a0 a1 a2 a3)
def aqS:H88 r88:=λg b h=>by
 obtain⟨n,hn⟩:=dD (show lim (λn=>m88 n g.1 g.2.1 g.2.2.1 g.2.2.2.1)=V b from h);exact(CK n).1 g b hn
def e88(F:bq):bq:=x88 r88 F
def aq1{F:bq}(h:bA vi F):bA vi (e88 F):=T7 aqS h
def acm{l:aa aL}(h:zR l<=1000000):Qu l=V l:=by unfold Qu;rw[gV]
def sG{s:ay}(h1:zR s.ai<=1000000)(h2:zR s.aF<=1000000):G0 s=V s:=by
 unfold G0;rw[acm h1];rw[acm h2]
def SL{n m:Nat}{s:ay}(h:eV n m s){c:Int}(hc:cC c):Sc s c=V (gp s c):=by
 obtain⟨z,e,_,_⟩:=oJ 8 h.time (lN hc);unfold Sc gp;rw[rT,e]
def KO{a:aL}(h:NN a){c:Int}(hc:cC c):Fb a c=V (pW 8 a (eF c)):=by
 obtain⟨z,_,e,_⟩:=oJ 8 h (lN hc);unfold Fb;rw[Dt,e]
def aaL{r:Runner}{m:Nat}{s:ay}(h:eV (zR r.fF.ai) m s)(hn:zR r.fF.ai<=1000000)(hm:m<=1000000){v:Int}{x:aL}(h1:0<=v)(h2:v<zR r.fF.ai)(hx:NN x):SE r s v x=V (TF r.fF s v x):=by
 have hl:=h.len;have hs:=h.sl;obtain⟨z,e,_,_⟩:=iB hx r.fF.ai[v.toNat]!.ah r.fF.ai[v.toNat]!.ag;unfold SE TF;rw[sG aq aq];dsimp only;rw[bJ ⟨h1,h2⟩,e];dsimp only;rw[gV,bJ ⟨rfl,aq⟩]
def aeD{f:aS}{m:Nat}{s:ay}(h:eV (zR f.ai) m s)(hn:zR f.ai<=1000000){v:Int}{x:aL}(h1:0<=v)(h2:v<zR f.ai)(hx:NN x):RA f (tr s) v x=V (tr (TF f s v x)):=by
 have hl:=h.len;obtain⟨z,_,e,_⟩:=iB hx f.ai[v.toNat]!.ah f.ai[v.toNat]!.ag;unfold RA TF tr;simp only[yz];rw[gV,bJ ⟨h1,h2⟩,bJ ⟨h1,h2⟩,e];dsimp only;rw[gV,bJ ⟨trivial,aq⟩]
def MM{vars:aa bg}{inp:Bool}{m:Nat}{st:ay}(hst:eV (zR vars) m st){t:az}(hc:fG vars inp t=0):Sa st t=V (cK st.ai t):=by
 have e:alL t st=V (cK st.ai t,st):=eO (zf t+1) λn hn=>(Lx hst n t aq (sB hc).1 (sB hc).2).1;unfold Sa;rw[az.eta,e]
def CU(s:ay)(v:aL)(i:Nat):aa aL:=tab (zR s.aF) (λk=>if k<i/\cS s.aD k=O then cF s.aF[k]! v else s.aF[k]!)
def vv(s:ay)(v:aL)(i:Nat):zR (CU s v i)=zR s.aF:=gQ ..
def ada(s:ay)(v:aL):CU s v 0=s.aF:=TZ rfl λi _=>by rw[bN (λh=>aq)]
def Nz(s:ay)(v:aL):CU s v s.aF.length=tab (zR s.aF) (λk=>if cS s.aD k=O then cF s.aF[k]! v else s.aF[k]!):=iz λi hi=>by
 by_cases c:cS s.aD (i:Nat)=O
 ·rw[bJ ⟨hi,c⟩,bJ c]
 ·rw[bN (λh=>c h.2),bN c]
def Ph{s:ay}{v:aL}{i:Nat}(h:i<zR s.aF):(CU s v i)[i]! =s.aF[i]! :=by
 rw[CU,pg h,bN (λh=>aq)]
def MG{s:ay}{v:aL}{i:Nat}(c:cS s.aD (i:Nat)=O):(CU s v i).set i (cF s.aF[i]! v)=CU s v (i+1):=by
 rw[CU,L4];refine iz λj _=> ?_;by_cases e:j=i
 ·subst e;rw[bJ rfl,bJ ⟨aq,c⟩]
 ·rw[bN e];by_cases c2:j<i/\cS s.aD (j:Nat)=O
  ·rw[bJ c2,bJ ⟨aq,c2.2⟩]
  ·rw[bN c2,bN (λh=>c2 ⟨aq,h.2⟩)]
def Uo{s:ay}{v:aL}{i:Nat}(c:cS s.aD (i:Nat)=G):CU s v i=CU s v (i+1):=by
 refine iz λj _=> ?_;by_cases e:j=i
 ·subst e;rw[bN (λh=>aq),bN (λh=>by rw[c]at h;cases h.2)]
 ·by_cases c2:j<i/\cS s.aD (j:Nat)=O
  ·rw[bJ c2,bJ ⟨aq,c2.2⟩]
  ·rw[bN c2,bN (λh=>c2 ⟨aq,h.2⟩)]
def au5{n m:Nat}{s:ay}(h:eV n m s)(hn:n<=1000000)(hm:m<=1000000){x:aL}(hx:NN x):aac s x=V (XR s x):=by
 have hs:=h.sl;have hl:=h.len;obtain⟨v,e1,_⟩:=cH (rnd:=IS) (zR s.aF) (λi (_:Unit)=>⟨(zR s.aF:Int),(i:Int),⟨s.ai,s.aD,CU s x i,s.aI⟩,x,⟨[],⟨0,0,0⟩,[],⟨0,0,0⟩⟩⟩) (λi _=>True) (λi b hi _=>by
  obtain⟨i1,i2,hw⟩:=w3 hi aq;refine⟨(),?_,trivial⟩;unfold IS;by_cases hc:cS s.aD (i:Nat)=O
  ·simp only[cZ,i1,i2,hi,cI,dS,rf (.inr h.count),hc,vv,Ph hi,pe (.inr (h.slots i hi)) (.inr hx),hw,MG hc]
  ·have hc:cS s.aD (i:Nat)=G:=by simpa using hc
   simp only[cU,i1,uU,rf (.inr h.count),hc,hw,Uo hc]) (λb _=>by unfold IS;simp) (b:=()) trivial
 rw[ada]at e1;have e1':Lb ⟨(zR s.aF:Int),0,s,x,⟨[],⟨0,0,0⟩,[],⟨0,0,0⟩⟩⟩=_:=e1;obtain⟨z,eb,_,_⟩:=oJ 8 h.count (lN (c:=1) ⟨by decide,by decide⟩);unfold aac;rw[sG aq aq];dsimp only;rw[e1'];dsimp only;rw[fO,cv,bJ (by rw[zh,vv];simp;omega),rT,eb,Nz];rfl
def atb{n m:Nat}{s:ay}(h:eV n m s)(hm:m<=1000000){x:aL}(hx:NN x):abe (tr s) x=V (tr (XR s x)):=by
 have hs:=h.sl;obtain⟨v,e1,_⟩:=cH (rnd:=KU) (zR s.aF) (λi (_:Unit)=>⟨CU s x i,(zR s.aF:Int),(i:Int),tr s,x,⟨[],⟨0,0,0⟩,[],⟨0,0,0⟩⟩⟩) (λi _=>True) (λi b hi _=>by
  obtain⟨i1,i2,hw⟩:=w3 hi aq;refine⟨(),?_,trivial⟩;unfold KU;dsimp only[tr];by_cases hc:cS s.aD (i:Nat)=O
  ·simp only[cZ,i1,i2,hi,cI,dS,jT (.inr h.count),hc,vv,Ph hi,gF (.inr (h.slots i hi)) (.inr hx),hw,MG hc]
  ·have hc:cS s.aD (i:Nat)=G:=by simpa using hc
   simp only[cU,i1,uU,jT (.inr h.count),hc,hw,Uo hc]) (λb _=>by unfold KU;simp) (b:=()) trivial
 rw[ada]at e1;have e1':KJ ⟨s.aF,(zR s.aF:Int),0,tr s,x,⟨[],⟨0,0,0⟩,[],⟨0,0,0⟩⟩⟩=_:=e1;unfold abe;rw[show (tr s).aF=s.aF from rfl];simp only[yz];rw[gV,e1'];dsimp only;rw[fO,cv,bJ (by rw[zh,vv];simp;omega),show (tr s).aD=s.aD from rfl,KO h.count ⟨by decide,by decide⟩,Nz];rfl
def FA(a b:aa aL)(i:Nat):aa aL:=tab (zR a) (λk=>if k<i then cF a[k]! b[k]! else a[k]!)
def ZI(a b:aa aL)(i:Nat):zR (FA a b i)=zR a:=gQ ..
def aqW(a b:aa aL):FA a b 0=a:=TZ rfl λi _=>by rw[AJ]
def adt(a b:aa aL):FA a b a.length=tab (zR a) (λk=>cF a[k]! b[k]!):=iz λi hi=>by rw[bJ hi]
def aaM{a b:aa aL}{i:Nat}(h:i<zR a):(FA a b i)[i]! =a[i]! :=by rw[FA,pg h,AJ]
def acP(a b:aa aL)(i:Nat):(FA a b i).set i (cF a[i]! b[i]!)=FA a b (i+1):=by
 rw[FA,L4];refine iz λj _=> ?_;by_cases e:j=i
 ·subst e;rw[bJ rfl,gV]
 ·rw[bN e];by_cases c:j<i
  ·rw[bJ c,gV]
  ·rw[bN c,AJ]
def pR(a b:aa aL)(i:Nat):aa aL:=tab (max (zR a) i) (λk=>if k<i then Nu a b k else a[k]!)
def GI(a b:aa aL)(i:Nat):zR (pR a b i)=max (zR a) i:=gQ ..
def arf(a b:aa aL):pR a b 0=a:=TZ aq λi _=>by rw[AJ]
def ad6(a b:aa aL):pR a b b.length=tab (max (zR a) (zR b)) (Nu a b):=iz λi hi=>by
 by_cases c:i<zR b
 ·rw[bJ c]
 ·rw[bN c];unfold Nu;rw[AJ,gV]
def aaf{a b:aa aL}{i:Nat}(h:i<zR a):(pR a b i)[i]! =a[i]! :=by rw[pR,pg aq,AJ]
def ad8{a b:aa aL}{i:Nat}(h:i<zR a)(k:i<zR b):(pR a b i).set i (cF a[i]! b[i]!)=pR a b (i+1):=by
 rw[pR,L4,pR,show max (zR a) i=max (zR a) (i+1)by omega];refine iz λj _=> ?_;by_cases e:j=i
 ·subst e;rw[bJ rfl,gV];unfold Nu;rw[AJ,AJ]
 ·rw[bN e];by_cases c:j<i
  ·rw[bJ c,gV]
  ·rw[bN c,AJ]
def aex{a b:aa aL}{i:Nat}(h:zR a<=i):pR a b i++[b[i]!]=pR a b (i+1):=by
 rw[pR,pR,show max (zR a) i=i by omega,show max (zR a) (i+1)=i+1 by omega,qU]
 congr 1
 ·refine iz λj hj=> ?_;rw[bJ hj,gV]
 ·rw[gV];unfold Nu;rw[bJ h]
def aeY{n m:Nat}{s t:ay}(h:eV n m s)(k:eV n m t)(hn:n<=1000000)(hm:m<=1000000):KB s t=V (lY s t):=by
 have hs:=h.sl;have hl:=h.len;have ks:=k.sl;have kl:=k.len;obtain⟨v,e1,_⟩:=cH (rnd:=L5) (zR s.ai) (λi (_:Unit)=>⟨(zR s.ai:Int),(i:Int),t,⟨[],⟨0,0,0⟩,[],⟨0,0,0⟩⟩,⟨FA s.ai t.ai i,s.aD,s.aF,s.aI⟩⟩) (λi _=>True) (λi b hi _=>by
  obtain⟨i1,i2,hw⟩:=w3 hi aq;have i3:(i:Int)<(zR t.ai:Int):=aq;refine⟨(),?_,trivial⟩;unfold L5;simp only[cZ,i1,i2,i3,hi,cI,dS,ZI,aaM hi,pe (.inr (h.vars i aq)) (.inr (k.vars i aq)),hw,acP]) (λb _=>by unfold L5;simp) (b:=()) trivial
 rw[aqW]at e1;have e1':Jt ⟨(zR s.ai:Int),0,t,⟨[],⟨0,0,0⟩,[],⟨0,0,0⟩⟩,s⟩=_:=e1;obtain⟨v2,e2,_⟩:=cH (rnd:=Ln) (zR t.aF) (λi (_:Unit)=>⟨t.aF,(zR t.aF:Int),(i:Int),⟨[],⟨0,0,0⟩,[],⟨0,0,0⟩⟩,⟨FA s.ai t.ai (zR s.ai),cF s.aD t.aD,pR s.aF t.aF i,cF s.aI t.aI⟩⟩) (λi _=>True) (λi b hi _=>by
  obtain⟨i1,i2,hw⟩:=w3 hi aq;refine⟨(),?_,trivial⟩;unfold Ln;by_cases c:i<zR s.aF
  ·have i3:(i:Int)<(zR (pR s.aF t.aF i):Int):=by rw[GI];omega
   have i4:i<zR (pR s.aF t.aF i):=aq;simp only[cZ,i1,i2,i3,i4,cI,dS,aaf c,pe (.inr (h.slots i c)) (.inr (k.slots i hi)),hw,ad8 c hi]
  ·have i3:¬(i:Int)<(zR (pR s.aF t.aF i):Int):=by rw[GI];omega
   have i4:zR (pR s.aF t.aF (i+1))<=1073741824:=by rw[GI];omega
   simp only[cZ,cU,i1,i2,i3,i4,dS,hw,aex (show zR s.aF<=i by omega)]) (λb _=>by unfold Ln;simp) (b:=()) trivial
 rw[arf]at e2;have e2':KH ⟨t.aF,(zR t.aF:Int),0,⟨[],⟨0,0,0⟩,[],⟨0,0,0⟩⟩,⟨FA s.ai t.ai (zR s.ai),cF s.aD t.aD,s.aF,cF s.aI t.aI⟩⟩=_:=e2;unfold KB;rw[sG aq aq];dsimp only;rw[e1'];dsimp only;rw[fO,cv,pe (.inr h.count) (.inr k.count)];rw[pe (.inr h.time) (.inr k.time)];dsimp only;rw[e2'];dsimp only;rw[fO,cv,adt,ad6];rfl
def adH{n m:Nat}{s t:ay}(h:eV n m s)(k:eV n m t)(hn:n<=1000000)(hm:m<=1000000):SN (tr s) (tr t)=V (tr (lY s t)):=by
 have hs:=h.sl;have hl:=h.len;have ks:=k.sl;have kl:=k.len;obtain⟨v,e1,_⟩:=cH (rnd:=Jc) (zR s.ai) (λi (_:Unit)=>⟨(zR s.ai:Int),(i:Int),tr s,tr t,⟨[],⟨0,0,0⟩,[],⟨0,0,0⟩⟩,⟨tab i (λk=>cF s.ai[k]! t.ai[k]!),cF s.aD t.aD,[],cF s.aI t.aI⟩⟩) (λi _=>True) (λi b hi _=>by
  obtain⟨i1,i2,hw⟩:=w3 hi aq;have i3:(i:Int)<(zR t.ai:Int):=aq;have i4:zR (tab i (λk=>cF s.ai[k]! t.ai[k]!)++[cF s.ai[i]! t.ai[i]!])<=1073741824:=by rw[zh,gQ,yh];omega
  refine⟨(),?_,trivial⟩;unfold Jc;dsimp only[tr];simp only[cZ,i1,i2,i3,i4,cI,dS,gF (.inr (h.vars i aq)) (.inr (k.vars i aq)),hw,qU]) (λb _=>by unfold Jc;simp) (b:=()) trivial
 have e1':L2 ⟨(zR s.ai:Int),0,tr s,tr t,⟨[],⟨0,0,0⟩,[],⟨0,0,0⟩⟩,⟨[],cF s.aD t.aD,[],cF s.aI t.aI⟩⟩=_:=e1;have emax:(if(zR s.aF:Int)<(zR t.aF:Int)then(zR t.aF:Int)else(zR s.aF:Int))=((max (zR s.aF) t.aF.length:Nat):Int):=by split<;>omega
 obtain⟨v2,e2,_⟩:=cH (rnd:=LX) (max (zR s.aF) (zR t.aF)) (λi (_:Unit)=>⟨((max (zR s.aF) t.aF.length:Nat):Int),(i:Int),tr s,tr t,⟨[],⟨0,0,0⟩,[],⟨0,0,0⟩⟩,⟨tab (zR s.ai) (λk=>cF s.ai[k]! t.ai[k]!),cF s.aD t.aD,tab i (Nu s.aF t.aF),cF s.aI t.aI⟩⟩) (λi _=>True) (λi b hi _=>by
  obtain⟨i1,i2,hw⟩:=w3 hi aq;have i4:∀x,zR (tab i (Nu s.aF t.aF)++[x])<=1073741824:=λx=>by rw[zh,gQ,yh];omega
  refine⟨(),?_,trivial⟩;rw[qU];unfold LX;dsimp only[tr];by_cases c:zR s.aF<=i
  ·have c1:(zR s.aF:Int)<=(i:Int):=aq;have c2:(i:Int)<(zR t.aF:Int):=aq;have eJ:Nu s.aF t.aF i=t.aF[i]! :=by unfold Nu;rw[bJ c]
   simp only[cZ,i1,i2,i4,c1,c2,eJ,cI,dS,hw]
  ·by_cases d:zR t.aF<=i
   ·have c1:¬(zR s.aF:Int)<=(i:Int):=aq;have c2:(zR t.aF:Int)<=(i:Int):=aq;have c3:(i:Int)<(zR s.aF:Int):=aq;have eJ:Nu s.aF t.aF i=s.aF[i]! :=by unfold Nu;rw[bN c,bJ d]
    simp only[cZ,cU,i1,i2,i4,c1,c2,c3,eJ,dS,hw]
   ·have c1:¬(zR s.aF:Int)<=(i:Int):=aq;have c2:¬(zR t.aF:Int)<=(i:Int):=aq;have c3:(i:Int)<(zR s.aF:Int):=aq;have c4:(i:Int)<(zR t.aF:Int):=aq;have eJ:Nu s.aF t.aF i=cF s.aF[i]! t.aF[i]! :=by unfold Nu;rw[bN c,bN d]
    simp only[cZ,cU,fU,i1,i2,i4,c1,c2,c3,c4,eJ,hw,gF (.inr (h.slots i aq)) (.inr (k.slots i aq))]) (λb _=>by unfold LX;simp) (b:=()) trivial
 have e2':Jz ⟨((max (zR s.aF) t.aF.length:Nat):Int),0,tr s,tr t,⟨[],⟨0,0,0⟩,[],⟨0,0,0⟩⟩,⟨tab (zR s.ai) (λk=>cF s.ai[k]! t.ai[k]!),cF s.aD t.aD,[],cF s.aI t.aI⟩⟩=_:=e2;unfold SN;rw[show (tr s).aD=s.aD from rfl,show (tr t).aD=t.aD from rfl,show (tr s).aI=s.aI from rfl,show (tr t).aI=t.aI from rfl,show (tr s).ai=s.ai from rfl];rw[gF (.inr h.count) (.inr k.count)];rw[gF (.inr h.time) (.inr k.time)];dsimp only;rw[e1'];dsimp only;rw[fO,cv,show (tr s).aF=s.aF from rfl,show (tr t).aF=t.aF from rfl,emax,e2'];dsimp only;rw[fO,cv];rfl
def kM(body:ay->ay)(t:az)(c:Int):Nat->ay->aa ay
 |0,s=>[s]
 |n+1,s=>(if cS (cK s.ai t) 0=O then[gp s c]else[])++(if cD (cK s.ai t)=O then kM body t c n (body (gp s c))else[])
def mZ:aa ay->ay
 |[]=>⟨[],cL,[],cL⟩
 |x::l=>l.foldl lY x
def brA(v:aL)(a b:ay->ay)(s:ay):ay:=
 if cS v 0=G then a s else if cD v=G then b s else lY (a s) (b s)
def Cu(f:aS)(hv:aa aL)(a b:ay->ay)(x:aC)(s:ay):ay:=
 if x.cg=4 then mZ (kM a x.aG x.bh x.fN.toNat s)
 else if x.cg=0 then TF f (gp s x.bh) x.dM (cK s.ai x.aG)
 else if x.cg=1 then XR (gp s x.bh) (cK s.ai x.aG)
 else if x.cg=5 then TF f (gp s x.bh) x.dM hv[x.fN.toNat]!
 else if x.cg=3 then brA (cK s.ai x.aG) a b (gp s x.bh)
 else if x.cg=6 then⟨s.ai,s.aD,s.aF,rZ (pW 8 s.aI (eF x.bh)) x.aR⟩
 else gp s x.bh
def gT(f:aS)(hv:aa aL):aa aC->ay->ay
 |[],s=>s
 |x::l,s=>gT f hv l (Cu f hv (λs=>gT f hv x.aQ s) (λs=>gT f hv x.aX s) x s)
termination_by l=>zf l
decreasing_by
 all_goals first|exact(bw (zk ..)).1|exact(bw (zk ..)).2|exact ei _ _
def DQ(f:aS)(hv:aa aL)(s:ay):gT f hv [] s=s:=by rw[gT]
def Be(f:aS)(hv:aa aL)(x:aC)(l:aa aC)(s:ay):gT f hv (x::l) s=gT f hv l (Cu f hv (gT f hv x.aQ) (gT f hv x.aX) x s):=by rw[gT]
def XF{n m:Nat}:∀{l:aa ay},l≠[]->(∀q∈l,eV n m q)->eV n m (mZ l)
 |[],h,_=>ep rfl h
 |x::l,_,h=>by
  have key:∀(l:aa ay) (x:ay),eV n m x->(∀q∈l,eV n m q)->eV n m (l.foldl lY x):=λl=>by
   induction l with
   |nil=>intro x hx _;exact hx
   |cons y l ih=>intro x hx hl;exact ih (lY x y) (Gz hx (hl y (zk ..))) (λq hq=>hl q (zI _ hq))
  exact key l x (h x (zk ..)) (λq hq=>h q (zI _ hq))
def Dy{vars:aa bg}{a:ay->ay}{t:az}{c:Int}{o:Nat}(hc:cC c)(ht:fG vars G t=0)(ha:∀s m,eV (zR vars) m s->eV (zR vars) (m+o) (a s)):∀(N:Nat) (s:ay) (m:Nat),eV (zR vars) m s->(∀q∈kM a t c N s,eV (zR vars) (m+N*o) q)/\kM a t c N s≠[]
 |0,s,m,h=>by
  rw[kM];refine⟨λq hq=> ?_,by simp⟩;rw[zo.1 hq];exact h.weak aq
 |n+1,s,m,h=>by
  rw[kM];have hz:=zero_or (iV h t ht);have h1:=mL h hc;obtain⟨i1,i2⟩:=Dy hc ht ha n (a (gp s c)) (m+o) (ha _ _ h1);have e:m+o+n*o=m+(n+1)*o:=by rw[zX,yL];omega
  refine⟨λq hq=> ?_,λe=> ?_⟩
  ·rcases zP.1 hq with hq|hq
   ·split at hq
    ·rw[zo.1 hq];exact h1.weak aq
    ·cases hq
   ·split at hq
    ·rw[<-e];exact i1 q hq
    ·cases hq
  ·obtain⟨e1,e2⟩:=List.append_eq_nil_iff.1 e;cases hn:cD (cK s.ai t)with
   |true=>rw[hn,bJ rfl]at e2;exact i2 e2
   |false=>
    rw[hn]at hz;have hz:cS (cK s.ai t) 0=O:=by simpa using hz
    rw[hz,bJ rfl]at e1;cases e1
def eN(l:aa aC):Nat:=(fk l).2.1.toNat
def Kn{l:aa Int}(h1:1<=zR l/\zR l<=32)(h0:(0:Int)<=l[0]!)(hr:gG l=O)(h6:l[zR l-1]!<=67108864):∀b∈l,cC b:=λb hb=>by
 obtain⟨i,hi,e⟩:=List.mem_iff_getElem.1 hb;have e:l[i]! =b:=by rw[getElem!_pos l i hi];exact e
 have a1:l[0]!<=l[i]! :=by
  by_cases h:i=0
  ·subst h;exact zw _
  ·exact xU (VX hr aq hi)
 have a2:l[i]!<=l[zR l-1]! :=by
  by_cases h:i=zR l-1
  ·subst h;exact zw _
  ·exact xU (VX hr aq aq)
 rw[<-e];unfold cC;omega
def qM{f:aS}{last:Bool}{x:aC}(hx:ahZ f last x):cC x.bh:=by
 have:=hx.cost;unfold cC;omega
def auy{n m o p:Nat}{v:aL}{a b:ay->ay}{s:ay}(h:eV n m s)(ha:∀s m,eV n m s->eV n (m+o) (a s))(hb:∀s m,eV n m s->eV n (m+p) (b s)):eV n (m+max o p) (brA v a b s):=by
 unfold brA;split
 ·exact(ha _ _ h).weak aq
 split
 ·exact(hb _ _ h).weak aq
 ·exact Gz ((ha _ _ h).weak aq) ((hb _ _ h).weak aq)
def Fj{f:aS}{hv:aa aL}(hh:zR hv=zR f.au)(hvn:∀i,i<zR hv->NN hv[i]!){a b:ay->ay}{last:Bool}{x:aC}(hx:ahZ f last x)
  (p1:0<=(fk x.aQ).2.1) (p2:0<=(fk x.aX).2.1)
  (ha:∀s m,eV (zR f.ai) m s->eV (zR f.ai) (m+eN x.aQ) (a s)) (hb:∀s m,eV (zR f.ai) m s->eV (zR f.ai) (m+eN x.aX) (b s))
  {s:ay} {m:Nat} (h:eV (zR f.ai) m s):eV (zR f.ai) (m+(uO x).1.toNat) (Cu f hv a b x s):=by
 have hc:=qM hx;have h1:=mL h hc;have hvl:=iV h x.aG hx.term;unfold Cu uO;by_cases a4:x.cg=4
 ·simp only[fU,a4,Int.reduceEq];have hn:=hx.n4 a4;obtain⟨i1,i2⟩:=Dy hc hx.term ha x.fN.toNat s m h;have e:(x.fN*(fk x.aQ).2.1).toNat=x.fN.toNat*eN x.aQ:=by rw[eN,Int.toNat_mul hn.1 p1]
  rw[e];exact XF i2 i1
 by_cases a0:x.cg=0
 ·simp only[fU,a0,Int.reduceEq];exact W3 h1 hvl
 by_cases a1:x.cg=1
 ·simp only[fU,a1,Int.reduceEq];exact ajb h1 hvl
 by_cases a5:x.cg=5
 ·simp only[fU,a5,Int.reduceEq];obtain⟨n1,n2⟩:=hx.n5 a5;exact W3 h1 (hvn _ aq)
 by_cases a3:x.cg=3
 ·simp only[fU,a3,Int.reduceEq];have:=auy (v:=cK s.ai x.aG) h1 ha hb;unfold eN at this;refine this.weak ?_;omega
 by_cases a6:x.cg=6
 ·simp only[fU,a6,Int.reduceEq];obtain⟨_,q2,q3,q4,q5⟩:=hx.adn a6;have k:=(uC (a:=pW 8 s.aI (eF x.bh)) h1.time q4 aq (Kn q2 q3 q4 q5)).2.2.1;exact⟨h.len,h.vars,h.count,h.sl,h.slots,k⟩
 ·simp only[a0,a1,a3,a4,a5,a6,GQ];exact h1
def Ca{f:aS}{top:Bool}{x:aC}{l:aa aC}(h:cc f top (x::l)=0):eN (x::l)=(uO x).1.toNat+eN l:=by
 obtain⟨h1,h2,h3,h4⟩:=iY h;have ho:=sP h1;have p1:=(iW f _ _ _ (zC _) h2).1;have p2:=(iW f _ _ _ (zC _) h3).1;have p3:=(iW f _ _ _ (zC _) h4).1;have e1:0<=(uO x).1:=by
  unfold uO;by_cases a1:x.cg=1
  ·rw[bJ a1];show (0:Int)<=1;decide
  by_cases a3:x.cg=3
  ·rw[bN a1,bJ a3];dsimp only;omega
  by_cases a4:x.cg=4
  ·rw[bN a1,bN a3,bJ a4];exact zJ (ho.n4 a4).1 p1
  ·rw[bN a1,bN a3,bN a4];exact zw _
 unfold eN;rw[(afE x l).1];omega
def iu{f:aS}{hv:aa aL}(hh:zR hv=zR f.au)(hvn:∀i,i<zR hv->NN hv[i]!):∀(n:Nat) (l:aa aC) (top:Bool),zf l<n->cc f top l=0->∀(s:ay) (m:Nat),eV (zR f.ai) m s->eV (zR f.ai) (m+eN l) (gT f hv l s)
 |0,_,_,h,_,_,_,_=>aq
 |n+1,[],_,_,_,s,m,h=>by rw[DQ];exact h.weak aq
 |n+1,x::l,top,hn,hc,s,m,h=>by
  obtain⟨h1,h2,h3,h4⟩:=iY hc;have ho:=sP h1;have hsz:=bw (zk (a:=x) (l:=l));have ht:=ei x l;have p1:=(iW f n x.aQ G aq h2).1;have p2:=(iW f n x.aX G aq h3).1;rw[Be,Ca hc];have i1:=Fj hh hvn ho p1 p2 (iu hh hvn n x.aQ G aq h2) (iu hh hvn n x.aX G aq h3) h;exact(iu hh hvn n l top aq h4 _ _ i1).weak aq
def EZ{α:Type}[Inhabited α](g:α->α->α)(l:aa α)(x:α){i:Nat}(h:i<zR l):(l.take (i+1)).foldl g x=g ((l.take i).foldl g x) l[i]! :=by
 rw[List.take_add_one,List.foldl_append,zq h,getElem!_pos l i h];rfl
def Fl{n m:Nat}:∀(l:aa ay) (x:ay),eV n m x->(∀q∈l,eV n m q)->eV n m (l.foldl lY x)
 |[],x,hx,_=>hx
 |y::l,x,hx,hl=>Fl l (lY x y) (Gz hx (hl y (zk ..))) (λq hq=>hl q (zI _ hq))
def Z2(M83:Runner->(aa aC)->ay->af rV)(M156:Runner->aC->ay->af iL)(M160:Runner->aC->ay->af iI){n m:Nat}(hn:n<=1000000)(hm:m<=1000000){l:aa ay}{x:ay}(hl:zR l<=1000000)(hx:eV n m x)(hq:∀q∈l,eV n m q)(c t:aL):
  rA M83 M156 M160 ⟨l,(zR l:Int),0,⟨[],c,[],t⟩,x⟩=V ⟨l,(zR l:Int),(zR l:Int),⟨[],c,[],t⟩,l.foldl lY x⟩:=by
 obtain⟨v,e1,_⟩:=cH (rnd:=LV M83 M156 M160) (zR l) (λi (_:Unit)=>⟨l,(zR l:Int),(i:Int),⟨[],c,[],t⟩,(l.take i).foldl lY x⟩) (λi _=>True) (λi b hi _=>by
  obtain⟨i1,i2,hw⟩:=w3 hi hl;have e:=aeY (Fl (l.take i) x hx (λq k=>hq q (wH k))) (hq _ (bu hi)) hn hm;refine⟨(),?_,trivial⟩;unfold LV;dsimp only;simp only[cZ,i1,i2,cI,dS,e,hw,EZ lY l x hi]) (λb _=>by unfold LV;simp) (b:=()) trivial
 rw[zH]at e1;exact e1
def U2(M83:Runner->(aa aC)->ay->af rV)(M156:Runner->aC->ay->af iL)(M160:Runner->aC->ay->af iI){n m:Nat}(hn:n<=1000000)(hm:m<=1000000){L:aa ay}(h0:L≠[])(hl:zR L<=1000000)(hq:∀q∈L,eV n m q)(c t:aL):
  1<=zR L/\rA M83 M156 M160 (mW.mk (ya 1 L) (zR (ya 1 L):Int) (0) (ay.mk [] c [] t) L[0]!)=V (mW.mk (ya 1 L) (zR (ya 1 L):Int) (zR (ya 1 L):Int) (ay.mk [] c [] t) (mZ L)):=by
 cases L with
 |nil=>exact ep rfl h0
 |cons x l=>
  have hx:=hq x (zk ..);have hq2:∀q∈l,eV n m q:=λq k=>hq q (zI _ k);exact⟨by simp,Z2 M83 M156 M160 hn hm (l:=l) (x:=x) (by simp at hl;omega) hx hq2 c t⟩
def Gt(a:ay->ay)(t:az)(c:Int):∀(N:Nat) (s:ay),zR (kM a t c N s)<=N+1
 |0,s=>by rw[kM];simp
 |n+1,s=>by
  rw[kM,zh];have:=Gt a t c n (a (gp s c));split<;>split<;>simp<;>omega
def atG(M83:Runner->(aa aC)->ay->af rV)(M156:Runner->aC->ay->af iL)(M160:Runner->aC->ay->af iI){r:Runner}(hn:zR r.fF.ai<=1000000){a:ay->ay}{o:Nat}{x:aC}(hN:0<=x.fN/\x.fN<=4096)(hc:cC x.bh)(ht:fG r.fF.ai G x.aG=0)
  (ha:∀s m,eV (zR r.fF.ai) m s->eV (zR r.fF.ai) (m+o) (a s)) {s:ay} {m:Nat} (h:eV (zR r.fF.ai) m s) (hm:m+x.fN.toNat*o<=1000000)
  (h1:∀s m,eV (zR r.fF.ai) m s->m+o<=1000000->M83 r x.aQ s=V (a s)):
  aiA M83 M156 M160 r x s=V (mZ (kM a x.aG x.bh x.fN.toNat s)):=by
 obtain⟨okAll,neAll⟩:=Dy hc ht ha x.fN.toNat s m h;have lenAll:=Gt a x.aG x.bh x.fN.toNat s;obtain⟨i,v,e1,⟨hi,hV1,hV2,hV3,hV4⟩,hcc⟩:=me (rnd:=BY M83 M156 M160) x.fN.toNat (λi (b:aa ay×ay×ay)=>⟨b.1,O,x.fN,(i:Int),r,x,b.2.1,⟨[],b.2.2.aD,[],b.2.2.aI⟩⟩)
  (λi b=>i<=x.fN.toNat/\eV (zR r.fF.ai) (m+i*o) b.2.1/\zR b.1<=i/\b.1++kM a x.aG x.bh (x.fN.toNat-i) b.2.1=kM a x.aG x.bh x.fN.toNat s/\True) (λi b=>cD (cK b.2.1.ai x.aG)=G) (λi b hi hb=>by
  obtain⟨L,b,z⟩:=b;obtain⟨_,hb,hL,hr,_⟩:=hb;dsimp only at hb hr hL;obtain⟨k,hk⟩:∃k,x.fN.toNat-i=k+1:=⟨x.fN.toNat-i-1,aq⟩;have hk2:x.fN.toNat-(i+1)=k:=aq;rw[hk,kM]at hr;have hio:i*o+o<=x.fN.toNat*o:=by
   have:=yl o (show i+1<=x.fN.toNat by omega);rw[zX,yL]at this;exact this
  have hw:aj ((i:Int)+1)=((i+1:Nat):Int):=by rw[aM];omega
  have i1:(i:Int)<x.fN:=aq;have hA:=mL hb hc;have ea:=SL hb hc;have hsl:=hA.sl;have hln:=hA.len;have hnn:=iV hA x.aG ht;have ev:Sa (gp b x.bh) x.aG=V (cK b.ai x.aG):=MM hA ht;have et:=DL (a:=cK b.ai x.aG) (.inr hnn);have hz:(cD (cK b.ai x.aG)||cS (cK b.ai x.aG) 0)=O:=zero_or hnn;have e:=h1 _ _ hA aq;have ec:=sG (s:=gp b x.bh) aq aq;have el:zR (L++[gp b x.bh])<=1073741824:=by rw[zh,yh];omega
  by_cases hno:cD (cK b.ai x.aG)=O
  ·rw[bJ hno]at hr;refine .inl ?_;have hnext:eV (zR r.fF.ai) (m+(i+1)*o) (a (gp b x.bh)):=by
    have:=ha _ _ hA;rw[zX,yL];exact this.weak aq
   by_cases hh:cS (cK b.ai x.aG) 0=O
   ·rw[bJ hh]at hr;refine⟨(L++[gp b x.bh],a (gp b x.bh),z),?_,aq,hnext,by rw[zh,yh];omega,by rw[hk2,yS];exact hr,trivial⟩;unfold BY;simp only[cU,i1,uU,az.eta,ea,ev,et,ec,el,hh,hno,dS,e,aC.eta,hw]
   ·rw[bN hh,yz]at hr;have hh:cS (cK b.ai x.aG) 0=G:=by simpa using hh
    refine⟨(L,a (gp b x.bh),z),?_,aq,hnext,Nat.le_succ_of_le hL,by rw[hk2];exact hr,trivial⟩;unfold BY;simp only[cU,i1,uU,az.eta,ea,ev,et,hh,hno,e,aC.eta,hw]
  ·have hno:cD (cK b.ai x.aG)=G:=by simpa using hno
   refine .inr ⟨?_,hno⟩;have hh:cS (cK b.ai x.aG) 0=O:=by rw[hno]at hz;simpa using hz
   unfold BY;simp only[cU,i1,uU,az.eta,ea,ev,et,ec,el,hh,hno,dS]) (λb _=>by
   unfold BY;dsimp only;rw[fO];rfl) (b:=([],s,⟨[],⟨0,0,0⟩,[],⟨0,0,0⟩⟩)) ⟨aq,h.weak aq,by simp,rfl,trivial⟩
 obtain⟨L,b,z⟩:=v;dsimp only at hV1 hV2 hV3 hcc;have e1':Kw M83 M156 M160 ⟨[],O,x.fN,0,r,x,s,⟨[],⟨0,0,0⟩,[],⟨0,0,0⟩⟩⟩=V ⟨L,O,x.fN,(i:Int),r,x,b,⟨[],z.aD,[],z.aI⟩⟩:=e1;unfold aiA;rw[az.eta,aC.eta,e1'];rcases hcc with rfl|⟨hi2,hno⟩
 ·rw[xT,kM]at hV3;dsimp only;rw[fO,cv];simp only[cI];rw[bJ (by rw[zh,yh];omega),hV3];obtain⟨j1,j2⟩:=U2 M83 M156 M160 hn hm neAll aq okAll z.aD z.aI;rw[gV,bJ (by first|exact⟨rfl,j1⟩|exact⟨trivial,j1⟩),gV,j2];dsimp only;rw[fO,cv]
 ·obtain⟨k,hk⟩:∃k,x.fN.toNat-i=k+1:=⟨x.fN.toNat-i-1,aq⟩;rw[hk,kM]at hV3;have hA:=mL hV1 hc;have ea:=SL hV1 hc;have hio:i*o<=x.fN.toNat*o:=yl o hi;have hsl:=hA.sl;have hln:=hA.len;have hnn:=iV hA x.aG ht;have ev:Sa (gp b x.bh) x.aG=V (cK b.ai x.aG):=MM hA ht;have et:=DL (a:=cK b.ai x.aG) (.inr hnn);have hz:(cD (cK b.ai x.aG)||cS (cK b.ai x.aG) 0)=O:=zero_or hnn;have ec:=sG (s:=gp b x.bh) aq aq;have hh:cS (cK b.ai x.aG) 0=O:=by rw[hno]at hz;simpa using hz
  rw[hh,hno,bJ rfl,bN (by decide),yy]at hV3;dsimp only;rw[om,cI,ea];dsimp only;rw[az.eta,ev];dsimp only;rw[et];dsimp only;rw[hh,hno,cI,ec];dsimp only;rw[bJ (by rw[zh,yh];omega),hV3];obtain⟨j1,j2⟩:=U2 M83 M156 M160 hn hm neAll aq okAll z.aD z.aI;rw[gV,bJ (by first|exact⟨rfl,j1⟩|exact⟨trivial,j1⟩),gV,j2];dsimp only;rw[fO,cv];rfl
def auQ{l:aa ay}{i:Nat}(h:i<zR l):(l.map tr)[i]! =tr l[i]! :=by
 rw[getElem!_pos _ i (by simpa using h),getElem!_pos l i h,yM]
def acV{n m:Nat}(hn:n<=1000000)(hm:m<=1000000){l:aa ay}{x:ay}(hl:zR l<=1000000)(hx:eV n m x)(hq:∀q∈l,eV n m q)(c t:aL):
  Jh ⟨l.map tr,(zR l:Int),0,⟨[],c,[],t⟩,tr x⟩=V ⟨l.map tr,(zR l:Int),(zR l:Int),⟨[],c,[],t⟩,tr (l.foldl lY x)⟩:=by
 obtain⟨v,e1,_⟩:=cH (rnd:=JV) (zR l) (λi (_:Unit)=>⟨l.map tr,(zR l:Int),(i:Int),⟨[],c,[],t⟩,tr ((l.take i).foldl lY x)⟩) (λi _=>True) (λi b hi _=>by
  obtain⟨i1,i2,hw⟩:=w3 hi hl;have e:=adH (Fl (l.take i) x hx (λq k=>hq q (wH k))) (hq _ (bu hi)) hn hm;refine⟨(),?_,trivial⟩;unfold JV;dsimp only;simp only[cZ,zu,i1,i2,cI,dS,auQ hi,e,hw,EZ lY l x hi]) (λb _=>by unfold JV;simp) (b:=()) trivial
 rw[zH]at e1;exact e1
def Rm{n m:Nat}(hn:n<=1000000)(hm:m<=1000000){L:aa ay}(h0:L≠[])(hl:zR L<=1000000)(hq:∀q∈L,eV n m q):MO (L.map tr)=V (tr (mZ L)):=by
 cases L with
 |nil=>exact ep rfl h0
 |cons x l=>
  have hx:=hq x (zk ..);have hq2:∀q∈l,eV n m q:=λq k=>hq q (zI _ k);have e:=acV hn hm (l:=l) (x:=x) (by simp at hl;omega) hx hq2 ⟨0,0,0⟩ ⟨0,0,0⟩;unfold MO;rw[bJ (by simp<;>omega),bJ (by simp<;>omega)];rw[yf,show ya 1 (tr x::l.map tr)=l.map tr from rfl,show (tr x::l.map tr)[0]! =tr x from rfl,zu,e];dsimp only;rw[fO,cv];rfl
def aqU(M88:aS->(aa aL)->(aa aC)->aJ->af DD)(M167:aS->(aa aL)->aC->aJ->af mD){f:aS}{hv:aa aL}(hn:zR f.ai<=1000000){a:ay->ay}{o:Nat}{x:aC}(hN:0<=x.fN/\x.fN<=4096)(hc:cC x.bh)(ht:fG f.ai G x.aG=0)
  (ha:∀s m,eV (zR f.ai) m s->eV (zR f.ai) (m+o) (a s)) {s:ay} {m:Nat} (h:eV (zR f.ai) m s) (hm:m+x.fN.toNat*o<=1000000)
  (h1:∀s m,eV (zR f.ai) m s->m+o<=1000000->M88 f hv x.aQ (tr s)=V (tr (a s))):
  ant M88 M167 f hv x (tr s)=V (tr (mZ (kM a x.aG x.bh x.fN.toNat s))):=by
 obtain⟨okAll,neAll⟩:=Dy hc ht ha x.fN.toNat s m h;have lenAll:=Gt a x.aG x.bh x.fN.toNat s;obtain⟨i,v,e1,⟨hi,hV1,hV2,hV3,hV4⟩,hcc⟩:=me (rnd:=BK M88 M167) x.fN.toNat (λi (b:aa ay×ay×aJ)=>⟨hv,b.1.map tr,x.fN,(i:Int),f,x,tr b.2.1,⟨[],b.2.2.aD,[],b.2.2.aI⟩⟩)
  (λi b=>i<=x.fN.toNat/\eV (zR f.ai) (m+i*o) b.2.1/\zR b.1<=i/\b.1++kM a x.aG x.bh (x.fN.toNat-i) b.2.1=kM a x.aG x.bh x.fN.toNat s/\True) (λi b=>cD (cK b.2.1.ai x.aG)=G) (λi b hi hb=>by
  obtain⟨L,b,z⟩:=b;obtain⟨_,hb,hL,hr,_⟩:=hb;dsimp only at hb hr hL;obtain⟨k,hk⟩:∃k,x.fN.toNat-i=k+1:=⟨x.fN.toNat-i-1,aq⟩;have hk2:x.fN.toNat-(i+1)=k:=aq;rw[hk,kM]at hr;have hio:i*o+o<=x.fN.toNat*o:=by
   have:=yl o (show i+1<=x.fN.toNat by omega);rw[zX,yL]at this;exact this
  have hw:aj ((i:Int)+1)=((i+1:Nat):Int):=by rw[aM];omega
  have i1:(i:Int)<x.fN:=aq;have hA:=mL hb hc;have ea:Fb b.aI x.bh=V (pW 8 b.aI (eF x.bh)):=KO hb.time hc;have hnn:=iV hA x.aG ht;have ev:Qb (tr (gp b x.bh)) x.aG=V (cK b.ai x.aG):=VB hA x.aG ht;have et:=o5 (a:=cK b.ai x.aG) (.inr hnn);have hz:(cD (cK b.ai x.aG)||cS (cK b.ai x.aG) 0)=O:=zero_or hnn;have e:=h1 _ _ hA aq;have etr:(aJ.mk b.ai b.aD b.aF (pW 8 b.aI (eF x.bh)))=tr (gp b x.bh):=rfl;have el:zR (L.map tr++[tr (gp b x.bh)])<=1073741824:=by rw[zh,yh,zu];omega
  by_cases hno:cD (cK b.ai x.aG)=O
  ·rw[bJ hno]at hr;refine .inl ?_;have hnext:eV (zR f.ai) (m+(i+1)*o) (a (gp b x.bh)):=by
    have:=ha _ _ hA;rw[zX,yL];exact this.weak aq
   by_cases hh:cS (cK b.ai x.aG) 0=O
   ·rw[bJ hh]at hr;refine⟨(L++[gp b x.bh],a (gp b x.bh),z),?_,aq,hnext,by rw[zh,yh];omega,by rw[hk2,yS];exact hr,trivial⟩;unfold BK;simp only[cU,show (tr b).ai=b.ai from rfl,show (tr b).aD=b.aD from rfl,show (tr b).aF=b.aF from rfl,show (tr b).aI=b.aI from rfl,i1,uU,az.eta,ea,etr,ev,et,el,hh,hno,dS,e,aC.eta,hw,zM,yf,yU]
   ·rw[bN hh,yz]at hr;have hh:cS (cK b.ai x.aG) 0=G:=by simpa using hh
    refine⟨(L,a (gp b x.bh),z),?_,aq,hnext,Nat.le_succ_of_le hL,by rw[hk2];exact hr,trivial⟩;unfold BK;simp only[cU,show (tr b).ai=b.ai from rfl,show (tr b).aD=b.aD from rfl,show (tr b).aF=b.aF from rfl,show (tr b).aI=b.aI from rfl,i1,uU,az.eta,ea,etr,ev,et,hh,hno,e,aC.eta,hw]
  ·have hno:cD (cK b.ai x.aG)=G:=by simpa using hno
   refine .inr ⟨?_,hno⟩;have hh:cS (cK b.ai x.aG) 0=O:=by rw[hno]at hz;simpa using hz
   rw[hh,hno,bJ rfl,bN (by decide),yy]at hr;have em:L.map tr++[tr (gp b x.bh)]=(L++[gp b x.bh]).map tr:=by rw[zM];rfl
   have aeu:=Rm hn hm neAll aq okAll;rw[<-hr,<-em]at aeu;unfold BK;simp only[cU,show (tr b).ai=b.ai from rfl,show (tr b).aD=b.aD from rfl,show (tr b).aF=b.aF from rfl,show (tr b).aI=b.aI from rfl,i1,uU,az.eta,ea,etr,ev,et,el,hh,hno,dS,aeu]) (λb _=>by
   unfold BK;dsimp only;rw[fO];rfl) (b:=([],s,⟨[],⟨0,0,0⟩,[],⟨0,0,0⟩⟩)) ⟨aq,h.weak aq,by simp,rfl,trivial⟩
 obtain⟨L,b,z⟩:=v;dsimp only at hV1 hV2 hV3 hcc;have e1':LH M88 M167 ⟨hv,[],x.fN,0,f,x,tr s,⟨[],⟨0,0,0⟩,[],⟨0,0,0⟩⟩⟩=V ⟨hv,L.map tr,x.fN,(i:Int),f,x,tr b,⟨[],z.aD,[],z.aI⟩⟩:=e1;unfold ant;rw[az.eta,aC.eta,e1'];rcases hcc with rfl|⟨hi2,hno⟩
 ·rw[xT,kM]at hV3;dsimp only;rw[fO,cv];have em:L.map tr++[tr b]=(L++[b]).map tr:=by rw[zM];rfl
  rw[bJ (by rw[zh,yh,zu];omega),em,hV3,Rm hn hm neAll aq okAll]
 ·obtain⟨k,hk⟩:∃k,x.fN.toNat-i=k+1:=⟨x.fN.toNat-i-1,aq⟩;rw[hk,kM]at hV3;have hA:=mL hV1 hc;have ea:Fb (tr b).aI x.bh=V (pW 8 b.aI (eF x.bh)):=KO hV1.time hc;have hio:i*o<=x.fN.toNat*o:=yl o hi;have hnn:=iV hA x.aG ht;have ev:Qb (tr (gp b x.bh)) x.aG=V (cK b.ai x.aG):=VB hA x.aG ht;have et:=o5 (a:=cK b.ai x.aG) (.inr hnn);have hz:(cD (cK b.ai x.aG)||cS (cK b.ai x.aG) 0)=O:=zero_or hnn;have hh:cS (cK b.ai x.aG) 0=O:=by rw[hno]at hz;simpa using hz
  have etr:(aJ.mk (tr b).ai (tr b).aD (tr b).aF (pW 8 b.aI (eF x.bh)))=tr (gp b x.bh):=rfl;rw[hh,hno,bJ rfl,bN (by decide),yy]at hV3;have em:L.map tr++[tr (gp b x.bh)]=(L++[gp b x.bh]).map tr:=by rw[zM];rfl
  dsimp only;rw[om,cI,ea];dsimp only;rw[az.eta,etr,ev];dsimp only;rw[et];dsimp only;rw[hh,hno,cI,bJ (by rw[zh,yh,zu];omega),em,hV3,Rm hn hm neAll aq okAll];rfl
def asJ(M83:Runner->(aa aC)->ay->af rV)(M156:Runner->aC->ay->af iL)(M160:Runner->aC->ay->af iI){r:Runner}(hn:zR r.fF.ai<=1000000){a b:ay->ay}{o p:Nat}{x:aC}{s:ay}{m:Nat}(h:eV (zR r.fF.ai) m s)(hc:fG r.fF.ai G x.aG=0)(hm:m+max o p<=1000000)
  (ha:∀s m,eV (zR r.fF.ai) m s->eV (zR r.fF.ai) (m+o) (a s)) (hb:∀s m,eV (zR r.fF.ai) m s->eV (zR r.fF.ai) (m+p) (b s))
  (h1:M83 r x.aQ s=V (a s)) (h2:M83 r x.aX s=V (b s)):
  anp M83 M156 M160 r x s=V (brA (cK s.ai x.aG) a b s):=by
 have hsl:=h.sl;have hln:=h.len;unfold anp brA;rw[az.eta,MM h hc];dsimp only;rw[DL (.inr (iV h x.aG hc))];have ec:=sG (s:=s) aq aq;have ej:=aeY ((ha _ _ h).weak (show m+o<=m+max o p by omega)) ((hb _ _ h).weak (show m+p<=m+max o p by omega)) hn hm;dsimp only;cases cS (cK s.ai x.aG) 0 with
 |false=>simp only[cU,h1,dS]
 |true=>
  cases cD (cK s.ai x.aG)with
  |false=>simp only[cU,fU,h2,Bool.true_eq_false]
  |true=>simp only[cU,h1,h2,ec,ej,GQ,Bool.true_eq_false]
def az1(M83:Runner->(aa aC)->ay->af rV)(M156:Runner->aC->ay->af iL)(M160:Runner->aC->ay->af iI){r:Runner}(hn:zR r.fF.ai<=1000000)(hh:zR r.au=zR r.fF.au)(hvn:∀i,i<zR r.au->NN r.au[i]!)
  {top:Bool} {l:aa aC} (hl:zR l<=1000000) (hc:cc r.fF top l=0) {s:ay} {m:Nat} (h:eV (zR r.fF.ai) m s) (hm:m+eN l<=1000000)
  (h1:∀x∈l,∀s m,x.cg=3->eV (zR r.fF.ai) m s->m+max (eN x.aQ) (eN x.aX)<=1000000->M160 r x s=V (brA (cK s.ai x.aG) (gT r.fF r.au x.aQ) (gT r.fF r.au x.aX) s))
  (h3:∀x∈l,∀s m,x.cg=4->eV (zR r.fF.ai) m s->m+x.fN.toNat*eN x.aQ<=1000000->M156 r x s=V (mZ (kM (gT r.fF r.au x.aQ) x.aG x.bh x.fN.toNat s))):
  s83 M83 M156 M160 r l s=V (gT r.fF r.au l s):=by
 obtain⟨v,e1,hV⟩:=cH (rnd:=Xd M83 M156 M160) (zR l) (λi (b:ay×ay)=>⟨l,(zR l:Int),(i:Int),r,b.1,⟨[],b.2.aD,[],b.2.aI⟩⟩)
  (λi b=>(∃k,eV (zR r.fF.ai) k b.1/\k+eN (l.drop i)<=1000000)/\cc r.fF top (l.drop i)=0/\gT r.fF r.au (l.drop i) b.1=gT r.fF r.au l s) (λi b hi hb=>by
  obtain⟨b,z⟩:=b;obtain⟨⟨k,hb,hk⟩,hst,hr⟩:=hb;dsimp only at hb hr;rw[drop_cons hi]at hk hst hr;rw[Be]at hr;have hmem:=bu hi;generalize hx:l[i]! =x at*;obtain⟨g1,g2,g3,g4⟩:=iY hst;have ho:=sP g1;have p1:=(iW r.fF _ _ _ (zC _) g2).1;have p2:=(iW r.fF _ _ _ (zC _) g3).1;have aT:=iu hh hvn _ x.aQ G (zC _) g2;have aE:=iu hh hvn _ x.aX G (zC _) g3;rw[Ca hst]at hk;have hnext:=Fj hh hvn ho p1 p2 aT aE hb;refine⟨(Cu r.fF r.au (gT r.fF r.au x.aQ) (gT r.fF r.au x.aX) x b,z),?_,⟨_,hnext,aq⟩,g4,hr⟩;obtain⟨i1,i2,hw⟩:=w3 hi hl;have hcost:=qM ho;unfold Xd;dsimp only;simp only[cZ,i1,i2,hx,cI,dS,aC.eta,az.eta,hw];unfold Cu;by_cases d4:x.cg=4
  ·have hN:=ho.n4 d4;have eu:(uO x).1.toNat=x.fN.toNat*eN x.aQ:=by
    unfold uO;simp only[fU,d4,Int.reduceEq];rw[eN,Int.toNat_mul hN.1 p1]
   have e:=h3 x hmem b k d4 hb aq;simp only[d4,Int.reduceEq,uU,cI,dS,e]
  have ea:=SL hb hcost;have hA:=mL hb hcost;have ev:Sa (gp b x.bh) x.aG=V (cK b.ai x.aG):=MM hA ho.term;have hnn:NN (cK b.ai x.aG):=iV hb x.aG ho.term;simp only[d4,CC,cv,ea,GQ];by_cases d0:x.cg=0
  ·obtain⟨v1,v2⟩:=ho.var (.inl d0);simp only[cZ,cU,fU,d0,Int.reduceEq,ev,aaL hA hn aq v1 v2 hnn]
  by_cases d1:x.cg=1
  ·have e:=au5 hA hn aq hnn;simp only[cZ,cU,fU,d1,Int.reduceEq,ev,e]
  by_cases d5:x.cg=5
  ·obtain⟨v1,v2⟩:=ho.var (.inr d5);obtain⟨n1,n2⟩:=ho.n5 d5;have hlt:x.fN.toNat<zR r.au:=aq;have e:=aaL hA hn aq v1 v2 (hvn _ hlt);simp only[cZ,cU,fU,d5,Int.reduceEq];rw[gV,e]
  by_cases d3:x.cg=3
  ·have eu:(uO x).1.toNat=max (eN x.aQ) (eN x.aX):=by
    unfold uO eN;simp only[fU,d3,Int.reduceEq];omega
   have e:=h1 x hmem (gp b x.bh) k d3 hA aq;simp only[cZ,cU,fU,d3,Int.reduceEq,e];rfl
  by_cases d6:x.cg=6
  ·obtain⟨_,q2,q3,q4,q5⟩:=ho.adn d6;have e:=(uC (a:=pW 8 b.aI (eF x.bh)) hA.time q4 aq (Kn q2 q3 q4 q5)).1;have e:MV (gp b x.bh).aI x.aR=_:=e;simp only[cZ,cU,fU,d6,Int.reduceEq];rw[e];rfl
  ·simp only[d0,d1,d3,d5,d6,CC,cv,GQ]) (λb _=>by unfold Xd;simp) (b:=(s,⟨[],⟨0,0,0⟩,[],⟨0,0,0⟩⟩)) ⟨⟨m,h,by rw[xI];exact hm⟩,by rw[xI];exact hc,by rw[xI]⟩
 obtain⟨b,z⟩:=v;have e1':W7 M83 M156 M160 ⟨l,(zR l:Int),0,r,s,⟨[],⟨0,0,0⟩,[],⟨0,0,0⟩⟩⟩=V ⟨l,(zR l:Int),(zR l:Int),r,b,⟨[],z.aD,[],z.aI⟩⟩:=e1;have hr:=hV.2.2;dsimp only at hr;rw[wN,DQ]at hr;unfold s83;rw[e1',<-hr];dsimp only;rw[fO,cv]
def lG{f:aS}{x:aC}:∀{top:Bool} {l:aa aC},cc f top l=0->x∈l->cc f G x.aQ=0/\cc f G x.aX=0
 |_,[],_,h=>by cases h
 |top,y::l,hc,h=>by
  obtain⟨h1,h2,h3,h4⟩:=iY hc;rcases zy.1 h with rfl|h
  ·exact⟨h2,h3⟩
  ·exact lG h4 h
def apT{r:Runner}(hn:zR r.fF.ai<=1000000)(hh:zR r.au=zR r.fF.au)(hvn:∀i,i<zR r.au->NN r.au[i]!):∀n:Nat,
  (∀(top:Bool) (l:aa aC) (s:ay) (m:Nat),2*zf l<n->fP l<=1000000->cc r.fF top l=0->eV (zR r.fF.ai) m s->m+eN l<=1000000->YZ n r l s=V (gT r.fF r.au l s))/\
  (∀(x:aC) (s:ay) (m:Nat),2*zf x.aQ+1<n->fP x.aQ<=1000000->(0<=x.fN/\x.fN<=4096)->cC x.bh->fG r.fF.ai G x.aG=0->cc r.fF G x.aQ=0->eV (zR r.fF.ai) m s->m+x.fN.toNat*eN x.aQ<=1000000->Ej n r x s=V (mZ (kM (gT r.fF r.au x.aQ) x.aG x.bh x.fN.toNat s)))/\
  (∀(x:aC) (s:ay) (m:Nat),2*zf x.aQ+1<n->2*zf x.aX+1<n->fP x.aQ<=1000000->fP x.aX<=1000000->fG r.fF.ai G x.aG=0->cc r.fF G x.aQ=0->cc r.fF G x.aX=0->eV (zR r.fF.ai) m s->m+max (eN x.aQ) (eN x.aX)<=1000000->Fe n r x s=V (brA (cK s.ai x.aG) (gT r.fF r.au x.aQ) (gT r.fF r.au x.aX) s))
 |0=>⟨λ_ _ _ _ h=>aq,λ_ _ _ h=>aq,λ_ _ _ h=>aq⟩
 |n+1=>by
  obtain⟨i1,i2,i3⟩:=apT hn hh hvn n;refine⟨λtop l s m h hN hc hs hm=> ?_,λx s m h hN hx hc ht hst hs hm=> ?_,λx s m h h' hN hN' ht hst hst' hs hm=> ?_⟩
  ·refine az1 (YZ n) (Ej n) (Fe n) hn hh hvn (zG (j9 l) hN) hc hs hm (λx hx s m h3 hs hm=> ?_) (λx hx s m h4 hs hm=> ?_)
   ·have:=bw hx;have:=u7 hx;obtain⟨_,k⟩:=vL hc hx;obtain⟨k1,k2⟩:=lG hc hx;exact i3 x s m aq aq aq aq k.term k1 k2 hs hm
   ·have:=(bw hx).1;obtain⟨_,k⟩:=vL hc hx;obtain⟨k1,k2⟩:=lG hc hx;exact i2 x s m aq (zG (u7 hx).1 hN) (k.n4 h4) (qM k) k.term k1 hs hm
  ·refine atG (YZ n) (Ej n) (Fe n) hn hx hc ht (iu hh hvn _ x.aQ G (zC _) hst) hs hm (λs m hs hm=>i1 G x.aQ s m aq hN hst hs hm)
  ·exact asJ (YZ n) (Ej n) (Fe n) hn hs ht hm (iu hh hvn _ x.aQ G (zC _) hst) (iu hh hvn _ x.aX G (zC _) hst') (i1 G x.aQ s m aq hN hst hs aq) (i1 G x.aX s m aq hN' hst' hs aq)
def axM(M88:aS->(aa aL)->(aa aC)->aJ->af DD)(M167:aS->(aa aL)->aC->aJ->af mD){f:aS}{hv:aa aL}(hn:zR f.ai<=1000000)(hh:zR hv=zR f.au)(hvn:∀i,i<zR hv->NN hv[i]!)
  {top:Bool} {l:aa aC} (hl:zR l<=1000000) (hc:cc f top l=0) {s:ay} {m:Nat} (h:eV (zR f.ai) m s) (hm:m+eN l<=1000000)
  (h1:∀x∈l,∀s m,eV (zR f.ai) m s->m+eN x.aQ<=1000000->M88 f hv x.aQ (tr s)=V (tr (gT f hv x.aQ s)))
  (h2:∀x∈l,∀s m,eV (zR f.ai) m s->m+eN x.aX<=1000000->M88 f hv x.aX (tr s)=V (tr (gT f hv x.aX s)))
  (h3:∀x∈l,∀s m,x.cg=4->eV (zR f.ai) m s->m+x.fN.toNat*eN x.aQ<=1000000->M167 f hv x (tr s)=V (tr (mZ (kM (gT f hv x.aQ) x.aG x.bh x.fN.toNat s)))):
  s88 M88 M167 f hv l (tr s)=V (tr (gT f hv l s)):=by
 obtain⟨v,e1,hV⟩:=cH (rnd:=Vu M88 M167) (zR l) (λi (b:ay×aJ)=>⟨hv,l,(zR l:Int),(i:Int),f,tr b.1,⟨[],b.2.aD,[],b.2.aI⟩⟩)
  (λi b=>(∃k,eV (zR f.ai) k b.1/\k+eN (l.drop i)<=1000000)/\cc f top (l.drop i)=0/\gT f hv (l.drop i) b.1=gT f hv l s) (λi b hi hb=>by
  obtain⟨b,z⟩:=b;obtain⟨⟨k,hb,hk⟩,hst,hr⟩:=hb;dsimp only at hb hr;rw[drop_cons hi]at hk hst hr;rw[Be]at hr;have hmem:=bu hi;generalize hx:l[i]! =x at*;obtain⟨g1,g2,g3,g4⟩:=iY hst;have ho:=sP g1;have p1:=(iW f _ _ _ (zC _) g2).1;have p2:=(iW f _ _ _ (zC _) g3).1;have aT:=iu hh hvn _ x.aQ G (zC _) g2;have aE:=iu hh hvn _ x.aX G (zC _) g3;rw[Ca hst]at hk;have hnext:=Fj hh hvn ho p1 p2 aT aE hb;refine⟨(Cu f hv (gT f hv x.aQ) (gT f hv x.aX) x b,z),?_,⟨_,hnext,aq⟩,g4,hr⟩;obtain⟨i1,i2,hw⟩:=w3 hi hl;have hcost:=qM ho;have t1:(tr b).ai=b.ai:=rfl;have t2:(tr b).aD=b.aD:=rfl;have t3:(tr b).aF=b.aF:=rfl;have t4:(tr b).aI=b.aI:=rfl;have etr:(aJ.mk b.ai b.aD b.aF (pW 8 b.aI (eF x.bh)))=tr (gp b x.bh):=rfl;unfold Vu;dsimp only;simp only[cZ,i1,i2,hx,cI,dS,aC.eta,az.eta,hw];unfold Cu;by_cases d4:x.cg=4
  ·have hN:=ho.n4 d4;have eu:(uO x).1.toNat=x.fN.toNat*eN x.aQ:=by
    unfold uO;simp only[fU,d4,Int.reduceEq];rw[eN,Int.toNat_mul hN.1 p1]
   have e:=h3 x hmem b k d4 hb aq;simp only[d4,Int.reduceEq,uU,cI,dS,e]
  have ea:Fb b.aI x.bh=V (pW 8 b.aI (eF x.bh)):=KO hb.time hcost;have hA:=mL hb hcost;have ev:Qb (tr (gp b x.bh)) x.aG=V (cK b.ai x.aG):=VB hA x.aG ho.term;have hnn:NN (cK b.ai x.aG):=iV hb x.aG ho.term;simp only[t1,t2,t3,t4,d4,CC,cv,ea,etr,GQ];by_cases d0:x.cg=0
  ·obtain⟨v1,v2⟩:=ho.var (.inl d0);simp only[cZ,cU,fU,d0,Int.reduceEq,ev,aeD hA hn v1 v2 hnn]
  by_cases d1:x.cg=1
  ·have e:=atb hA aq hnn;simp only[cZ,cU,fU,d1,Int.reduceEq,ev,e]
  by_cases d5:x.cg=5
  ·obtain⟨v1,v2⟩:=ho.var (.inr d5);obtain⟨n1,n2⟩:=ho.n5 d5;have hlt:x.fN.toNat<zR hv:=aq;have e:=aeD hA hn v1 v2 (hvn _ hlt);simp only[cZ,cU,fU,d5,Int.reduceEq];rw[gV,e]
  by_cases d3:x.cg=3
  ·have eu:(uO x).1.toNat=max (eN x.aQ) (eN x.aX):=by
    unfold uO eN;simp only[fU,d3,Int.reduceEq];omega
   have e:=h1 x hmem (gp b x.bh) k hA aq;have e':=h2 x hmem (gp b x.bh) k hA aq;have ej:=adH ((aT _ _ hA).weak (show k+eN x.aQ<=k+max (eN x.aQ) (eN x.aX)by omega)) ((aE _ _ hA).weak (show k+eN x.aX<=k+max (eN x.aQ) (eN x.aX)by omega)) hn aq;have et:=o5 (a:=cK b.ai x.aG) (.inr hnn);unfold brA;simp only[cZ,cU,fU,d3,Int.reduceEq,ev,et];cases cS (cK b.ai x.aG) 0 with
   |false=>simp only[cU,e,dS]
   |true=>
    cases cD (cK b.ai x.aG)with
    |false=>simp only[cU,fU,e',Bool.true_eq_false]
    |true=>simp only[cU,e,e',ej,GQ,Bool.true_eq_false]
  by_cases d6:x.cg=6
  ·obtain⟨_,q2,q3,q4,q5⟩:=ho.adn d6;have e:=(uC (a:=pW 8 b.aI (eF x.bh)) hA.time q4 aq (Kn q2 q3 q4 q5)).2.1;simp only[cZ,cU,fU,d6,Int.reduceEq];rw[e];rfl
  ·simp only[d0,d1,d3,d5,d6,CC,cv,GQ]) (λb _=>by unfold Vu;simp) (b:=(s,⟨[],⟨0,0,0⟩,[],⟨0,0,0⟩⟩)) ⟨⟨m,h,by rw[xI];exact hm⟩,by rw[xI];exact hc,by rw[xI]⟩
 obtain⟨b,z⟩:=v;have e1':WY M88 M167 ⟨hv,l,(zR l:Int),0,f,tr s,⟨[],⟨0,0,0⟩,[],⟨0,0,0⟩⟩⟩=V ⟨hv,l,(zR l:Int),(zR l:Int),f,tr b,⟨[],z.aD,[],z.aI⟩⟩:=e1;have hr:=hV.2.2;dsimp only at hr;rw[wN,DQ]at hr;unfold s88;rw[e1',<-hr];dsimp only;rw[fO,cv]
def an9{f:aS}{hv:aa aL}(hn:zR f.ai<=1000000)(hh:zR hv=zR f.au)(hvn:∀i,i<zR hv->NN hv[i]!):∀n:Nat,
  (∀(top:Bool) (l:aa aC) (s:ay) (m:Nat),2*zf l<n->fP l<=1000000->cc f top l=0->eV (zR f.ai) m s->m+eN l<=1000000->m88 n f hv l (tr s)=V (tr (gT f hv l s)))/\
  (∀(x:aC) (s:ay) (m:Nat),2*zf x.aQ+1<n->fP x.aQ<=1000000->(0<=x.fN/\x.fN<=4096)->cC x.bh->fG f.ai G x.aG=0->cc f G x.aQ=0->eV (zR f.ai) m s->m+x.fN.toNat*eN x.aQ<=1000000->ML n f hv x (tr s)=V (tr (mZ (kM (gT f hv x.aQ) x.aG x.bh x.fN.toNat s))))
 |0=>⟨λ_ _ _ _ h=>aq,λ_ _ _ h=>aq⟩
 |n+1=>by
  obtain⟨i1,i2⟩:=an9 hn hh hvn n;refine⟨λtop l s m h hN hc hs hm=> ?_,λx s m h hN hx hc ht hst hs hm=> ?_⟩
  ·refine axM (m88 n) (ML n) hn hh hvn (zG (j9 l) hN) hc hs hm (λx hx s m hs hm=> ?_) (λx hx s m hs hm=> ?_) (λx hx s m h4 hs hm=> ?_)
   ·have:=bw hx;exact i1 G x.aQ s m aq (zG (u7 hx).1 hN) (lG hc hx).1 hs hm
   ·have:=bw hx;exact i1 G x.aX s m aq (zG (u7 hx).2 hN) (lG hc hx).2 hs hm
   ·have:=(bw hx).1;obtain⟨_,k⟩:=vL hc hx;exact i2 x s m aq (zG (u7 hx).1 hN) (k.n4 h4) (qM k) k.term (lG hc hx).1 hs hm
  ·exact aqU (m88 n) (ML n) hn hx hc ht (iu hh hvn _ x.aQ G (zC _) hst) hs hm (λs m hs hm=>i1 G x.aQ s m aq hN hst hs hm)
def awx{r:Runner}(hn:zR r.fF.ai<=1000000)(hh:zR r.au=zR r.fF.au)(hvn:∀i,i<zR r.au->NN r.au[i]!){top:Bool}{l:aa aC}{s:ay}{m:Nat}(hN:fP l<=1000000)(hc:cc r.fF top l=0)(hs:eV (zR r.fF.ai) m s)(hm:m+eN l<=1000000):r83 r l s=V (gT r.fF r.au l s):=
 eO (2*zf l+1) λn h=>(apT hn hh hvn n).1 top l s m aq hN hc hs hm
def awg{f:aS}{hv:aa aL}(hn:zR f.ai<=1000000)(hh:zR hv=zR f.au)(hvn:∀i,i<zR hv->NN hv[i]!){top:Bool}{l:aa aC}{s:ay}{m:Nat}(hN:fP l<=1000000)(hc:cc f top l=0)(hs:eV (zR f.ai) m s)(hm:m+eN l<=1000000):r88 f hv l (tr s)=V (tr (gT f hv l s)):=
 eO (2*zf l+1) λn h=>(an9 hn hh hvn n).1 top l s m aq hN hc hs hm
def kd(k:Int)(v:bg):Bool:=J (v.bB=k)
def cR(vars:aa bg)(k:Int)(i:Nat):Nat:=zR ((vars.take i).filter (kd k))
def gL{vars:aa bg}{i:Nat}(h:i<zR vars)(k:Int):cR vars k (i+1)=cR vars k i+if vars[i]!.bB=k then 1 else 0:=by
 unfold cR;rw[bG h,xk,zh];by_cases hk:vars[i]!.bB=k
 ·rw[bJ hk];simp only[yW,xZ,kd,hk,uU,dS,yh]
 ·rw[bN hk];simp only[yW,xZ,kd,hk,CC,yx,GQ,yB]
def kg(vars:aa bg)(k:Int)(i:Nat):cR vars k i<=i:=by
 unfold cR;exact zG (yt _ _) (by rw[zA];omega)
def j0{vars:aa bg}{k:Int}{i j:Nat}(hij:i<=j)(hj:j<=zR vars):cR vars k i<=cR vars k j:=by
 induction j with
 |zero=>
  have:i=0:=aq;subst this;exact zm _
 |succ j ih=>
  by_cases h:i=j+1
  ·subst h;exact zm _
  ·rw[gL aq];have:=ih aq aq;omega
def nH(vars:aa bg)(k:Int):cR vars k vars.length=zR (vars.filter (kd k)):=by unfold cR;rw[zH]
def akw(vars:aa bg)(hl:zR vars<=1000000)(k:Int):aiS vars k=V (vars.filter (kd k)):=by
 obtain⟨v,e1,hV⟩:=cH (rnd:=JC) (zR vars) (λi (b:aa bg)=>⟨vars,k,b,(i:Int)⟩) (λi b=>b=(vars.take i).filter (kd k)) (λi b hi hb=>by
  obtain⟨i1,i2,hw⟩:=w3 hi hl;refine⟨_,?_,rfl⟩;have hlen:zR b<=1000000:=by rw[hb];exact zG (kg vars k i) aq
  rw[bG hi,xk,<-hb];unfold JC;by_cases hk:vars[i]!.bB=k
  ·have h2:zR (b++[vars[i]!])<=1073741824:=by rw[zh,yh];omega
   simp only[cZ,i1,i2,hk,h2,hw,cI,dS,kd,yW,xZ]
  ·simp only[cZ,cU,fU,i1,i2,hk,hw,kd,yW,xZ,yy,yx]) (λb _=>by unfold JC;simp) (b:=[]) (by simp)
 rw[zH]at hV;have e1':LU ⟨vars,k,[],0⟩=V ⟨vars,k,v,(zR vars:Int)⟩:=e1;unfold aiS;rw[e1'];simp[hV]
def Fi(vars:aa bg)(hv:de vars)(hl:zR vars<=1000000){k:Int}(hk:k=1\/k=2\/k=3):∃p,m89 vars k=V p:=by
 have hm:=akw vars hl k;generalize hF:vars.filter (kd k)=L at hm;have hL:∀v∈L,-1048576<=v.ah/\v.ah<=v.ag/\v.ag<=1048576:=λv h=>by rw[<-hF]at h;exact hv v (z8.1 h).1
 have hll:zR L<=1000000:=by rw[<-hF];exact zG (yt _ _) hl
 obtain⟨v,e1,_⟩:=cH (rnd:=Ub) (zR L) (λi (_:Unit)=>⟨L,(i:Int)⟩) (λ_ _=>True) (λi b hi _=>by
  have hw:=jG hi hll;obtain⟨q1,q2,q3⟩:=hL _ (bu hi);have i1:(i:Int)<(zR L:Int):=aq;have i2:(0:Int)<=(i:Int):=aq;refine⟨(),?_,trivial⟩;unfold Ub;simp only[cZ,cU,i1,i2,hi,hw,dS,show ¬L[i]!.ag<L[i]!.ah by omega,show ¬L[i]!.ah< -1048576 by omega,show ¬1048576<L[i]!.ag by omega]) (λb _=>by unfold Ub;simp) (b:=()) trivial
 have e1':Wd ⟨L,0⟩=V ⟨L,(zR L:Int)⟩:=e1;have hsz:∀i,i<zR L->∀n:Int,1<=n->n<=4096->aj (n*aj (aj (L[i]!.ag-L[i]!.ah)+1))=n*(L[i]!.ag-L[i]!.ah+1)/\1<=n*(L[i]!.ag-L[i]!.ah+1):=λi hi n h1 h2=>by
  obtain⟨q1,q2,q3⟩:=hL _ (bu hi);have p1:n*(L[i]!.ag-L[i]!.ah+1)<=4096*(L[i]!.ag-L[i]!.ah+1):=zL h2 aq;have p2:1*(L[i]!.ag-L[i]!.ah+1)<=n*(L[i]!.ag-L[i]!.ah+1):=zL h1 aq;rw[aM (n:=L[i]!.ag-L[i]!.ah),aM (n:=L[i]!.ag-L[i]!.ah+1),aM];exact⟨rfl,aq⟩
 obtain⟨i,n,e2,hI,hc⟩:=me (rnd:=NU) (zR L) (λi (b:Int)=>⟨L,b,(i:Int)⟩) (λ_ b=>1<=b/\b<=4096) (λi b=>4096<b*(L[i]!.ag-L[i]!.ah+1)) (λi b hi hb=>by
  have hw:=jG hi hll;obtain⟨s1,s2⟩:=hsz i hi b hb.1 hb.2;have i1:(i:Int)<(zR L:Int):=aq;have i2:(0:Int)<=(i:Int):=aq;by_cases h:4096<b*(L[i]!.ag-L[i]!.ah+1)
  ·refine .inr ⟨?_,h⟩;unfold NU;simp only[cZ,i1,i2,hi,cI,dS,s1,h]
  ·refine .inl ⟨b*(L[i]!.ag-L[i]!.ah+1),?_,s2,aq⟩;unfold NU;simp only[cZ,cU,i1,i2,hi,hw,dS,s1,h]) (λb _=>by unfold NU;simp) (b:=1) ⟨aq,aq⟩
 have e2':Xf ⟨L,1,0⟩=V ⟨L,n,(i:Int)⟩:=e2;have hk1:(bif bif J (k=0)then G else O then
   bif bif J (k=1)then G else O then
    bif bif J (k=2)then G else O then V (bif J (k=3)then G else O)else V G
   else V G
  else some false)=some false:=by rcases hk with h|h|h<;>simp[h]
 unfold m89;rw[hk1];simp only[cv,hm,e1'];rw[fO,cv,e2'];dsimp only;rcases hc with rfl|⟨hi,h⟩
 ·rw[fO];exact⟨_,rfl⟩
 ·obtain⟨s1,s2⟩:=hsz i hi n hI.1 hI.2;have i1:(i:Int)<(zR L:Int):=aq;have i2:(0:Int)<=(i:Int):=aq;simp only[cZ,i1,i2,hi,cI,dS,s1,h];exact⟨_,rfl⟩
def YD{f:aS}(h:few f 10 80=O):fP f.bK+kH (f.au.map (·.aG))<=80/\zR f.au<=10/\zR f.ai<=10:=by
 unfold few at h;rw[decide_eq_true_eq]at h;omega
def YT{f:aS}(h:pL f=0):cc f O f.bK=0:=by
 unfold pL at h;split at h
 ·cases h
 split at h
 ·exact ep h ‹_›
 split at h
 ·exact ep h ‹_›
 split at h
 ·exact ep h ‹_›
 rename_i h4;simpa using h4
def arB(f:aS)(a b c:Int):∃r,m24 f a b c=V r/\(r=O->few f 10 80=O/\pL f=0):=by
 unfold m24;rw[auo f 10 80 (by decide) (by decide) (by decide) (by decide)];cases hf:few f 10 80 with
 |false=>exact⟨false,rfl,λh=>by cases h⟩
 |true=>
  obtain⟨h1,h2,h3⟩:=YD hf;rw[aaS f aq aq aq];by_cases hc:pL f=0
  ·have hv:=mg hc;obtain⟨p1,e1⟩:=Fi f.ai hv aq (k:=1) (.inl rfl);obtain⟨p2,e2⟩:=Fi f.ai hv aq (k:=2) (.inr (.inl rfl));obtain⟨p3,e3⟩:=Fi f.ai hv aq (k:=3) (.inr (.inr rfl));have hS:AP f.bK:=Bl f _ f.bK O (zC _) (YT hc);rw[e1,e2,e3,adZ f.bK aq hS];simp only[cU,hc,uU];cases J (p1.fst<=a)<;>cases J (p2.fst<=b)<;>cases J (p3.fst<=c)<;>exact⟨_,rfl,λ_=>⟨trivial,trivial⟩⟩
  ·simp only[cU,hc,CC];exact⟨false,rfl,λh=>by cases h⟩
def aqa(vars:aa bg)(inp:nr)(i:Nat):Int:=
 if vars[i]!.bB=1 then inp.LN[cR vars 1 i]! else if vars[i]!.bB=2 then inp.bf[cR vars 2 i]! else if vars[i]!.bB=3 then inp.Mj[cR vars 3 i]! else vars[i]!.eH
structure aD4 (vars:List bg) (inp:nr):Prop where
 s:zR inp.LN=cR vars 1 (zR vars)
 p:zR inp.bf=cR vars 2 (zR vars)
 r:zR inp.Mj=cR vars 3 (zR vars)
 b:∀i,i<zR vars->vars[i]!.ah<=aqa vars inp i/\aqa vars inp i<=vars[i]!.ag
def nV{α:Type}[Inhabited α]{c:Nat->α->Int}:∀{l:aa α} {i:Nat},cz c l i=0->∀j,j<zR l->c (i+j) l[j]! =0
 |[],_,_,j,h=>by simp at h
 |x::l,i,h,j,hj=>by
  unfold cz at h;split at h
  case isFalse h1=>exact ep h h1
  rename_i h0;cases j with
  |zero=>simpa using h0
  |succ j=>
   have:=nV h j (by simpa using hj);rw[show i+(j+1)=i+1+j by omega];exact this
def aqT{f:aS}{i:Nat}{h:dF}(hc:kR f i h=0):(-1048576<=h.ah/\h.ah<=h.ag/\h.ag<=1048576)/\fG f.ai O h.aG=0:=by
 unfold kR at hc;split at hc
 ·cases hc
 split at hc
 ·cases hc
 split at hc
 ·cases hc
 rename_i hb;have hb:jB h.ah h.ag=O:=by simpa using hb
 unfold jB at hb;rw[decide_eq_true_eq]at hb;exact⟨⟨hb.2.1,hb.1,hb.2.2⟩,hc⟩
structure MH (f:aS):Prop where
 vars:de f.ai
 hat:∀i,i<zR f.au->(-1048576<=f.au[i]!.ah/\f.au[i]!.ah<=f.au[i]!.ag/\f.au[i]!.ag<=1048576)/\fG f.ai O f.au[i]!.aG=0
 steps:cc f O f.bK=0
 o:(fk f.bK).2.1<=8
 t:(fk f.bK).2.2<=67108864
def KG{f:aS}(h:pL f=0):MH f:=by
 have hv:=mg h;unfold pL at h;split at h
 ·cases h
 split at h
 ·exact ep h ‹_›
 split at h
 ·exact ep h ‹_›
 rename_i h3;split at h
 ·exact ep h ‹_›
 rename_i h4;split at h
 ·cases h
 rename_i h5;have h3:cz (kR f) f.au 0=0:=by simpa using h3
 have h4:cc f O f.bK=0:=by simpa using h4
 unfold Ur at h5;simp only[decide_eq_true_eq]at h5;exact⟨hv,λi hi=>aqT (i:=0+i) (nV h3 i hi),h4,aq,aq⟩
end Go.Proofs.YtnfljbehcffmcaaGreat
end
