/- Merged: Pv2, Pv2b, Pv4, So, Hs, Ne9, Hr, Ne10, Ne30, Ha, Qv, Qw, Pv5, Pv6, Pv7, Qr, Qs, Ne31, Ne32, Hx, Hy, Ne33, Ne34, Ne35. -/
import Derived.Test.YtnfljbehcffmcaaGreatM4RefineStarts
import Derived.Test.YtnfljbehcffmcaaGreatM2RefineStarts
import Derived.Shelf.Sort.Plain
import Derived.Shelf.Slices.In.SortNone
import Derived.Sort.OwnSortedInts
import Derived.Test.YtnfljbehcffmcaaGreatM3RefineStarts
open Int renaming toNat_natCast → zf, le_refl → zw, mul_nonneg → zx, mul_le_mul_of_nonneg_right → zM, toNat → yM, le_of_lt → yZ, dvd_zero → xg, lt_irrefl → xw, le_trans → xG, min_eq_right → xI, min_eq_left → wm
open Nat renaming lt_succ_self → zB, le_trans → zH, add_mul → yf, mul_le_mul_right → yB, not_lt_zero → yC, lt_succ_iff_lt_or_eq → y4, mul_one → xe, one_mul → xK
open SizeOf renaming sizeOf → zh
open Bool renaming cond_decide → zi, and_eq_true → zj, false_eq_true → yO, true_and → xN, true → J, false → G
open Option renaming some → zD, some → I, none → S
open List renaming length_append → zl, mem_cons_self → zm, getElem?_eq_getElem → zq, all_eq_true → zu, length_map → zA, mem_cons → zF, take_length → zI, mem_singleton → zJ, mem_cons_of_mem → zK, mem_map → zL, range → zO, length_take → zR, mem_append → zU, map_congr_left → zZ, map_append → z6, map_cons → z7, drop → yb, nil_append → yg, length_drop → yj, append_nil → yp, getElem?_drop → yu, length_singleton → yz, mem_append_left → yE, mem_append_right → yF, length → yG, getElem_map → yH, map_nil → yK, length_set → yP, append_assoc → yQ, map_drop → xd, cons_append → xo, getElem_mem → xy, map_take → xC, take_zero → xD, drop_eq_getElem_cons → xQ, getElem_of_mem → xR, mem_of_mem_drop → xU, attach_map_val → x8, mem_of_mem_take → wz, length_eq_zero_iff → wI
open Array renaming getElem?_eq_some_iff → x9
open Decidable renaming decide → O
open Go.Proofs.Tryz renaming prog → wJ
open Go.Proofs.Tryz
set_option linter.unusedSectionVars false
set_option linter.unusedVariables false
set_option linter.unusedSimpArgs false
set_option linter.defProp false
noncomputable section
set_option maxRecDepth 100000
namespace Go.Proofs.YtnfljbehcffmcaaGreat
open Go Go.Iv
open Go.IntKind (i64 u64)
def aaO(o:Int):Jd o=bY o:=by
 unfold Jd bY;simp only[zi];grind
def aeE(o:Int):Dx o=if o=25 then-2 else(bY o).1:=by
 unfold Dx bY;simp only[zi];grind (splits:=40)
def afn(M:aa aS->ax->Bool->af qv)(vars:aa aS)(inp:Bool)(t:ax)(hM:∀k∈t.aq,M vars k inp=I (cY vars inp k)):abb M vars t inp=I (cY vars inp t):=by
 have key:t.aq.length<=1000000->∃i:Nat,vn M ⟨vars,inp,t.aq,(t.aq.length:Int),0⟩=I ⟨vars,inp,t.aq,(t.aq.length:Int),(i:Int)⟩/\((i=t.aq.length/\t.aq.all (cY vars inp)=J)\/(i<t.aq.length/\cY vars inp t.aq[i]! =G/\t.aq.all (cY vars inp)=G)):=λhl=>by
  obtain⟨i,e1,hc⟩:=oy (rnd:=HZ M) t.aq (λi=>⟨vars,inp,t.aq,(t.aq.length:Int),(i:Int)⟩) (λ_ k=>cY vars inp k) (λi hi=>by
   have hw:=fD hi hl;have hk:=hM _ (bh hi);unfold HZ;dsimp only;simp only[zi,zf,ax.eta,hk,hw];cases cY vars inp t.aq[i]! <;>simp[hi]) (by unfold HZ;simp)
  refine⟨i,e1,?_⟩;rcases hc with ⟨rfl,hc⟩|⟨hi,hc⟩
  ·exact .inl ⟨rfl,Cq hc⟩
  ·exact .inr ⟨hi,hc,sN hi hc⟩
 unfold abb;rw[aaO,j5];unfold vR;by_cases hn:0<=(bY t.bt).1/\(bY t.bt).1<=t.aq.length/\(t.aq.length:Int)<=(bY t.bt).2
 ·have h33:(bY t.bt).2<=33:=by unfold bY;grind
  obtain⟨i,e,hc⟩:=key (by omega);rw[bV hn,bT (show ¬(bY t.bt).1<0 by omega),bT (show ¬(t.aq.length:Int)<(bY t.bt).1 by omega),bT (show ¬(bY t.bt).2<(t.aq.length:Int)by omega),e];generalize t.aq.all (cY vars inp)=A at hc;simp only[zi,zf,bz,xN];rcases hc with ⟨rfl,rfl⟩|⟨hi,h2,rfl⟩
  ·cases inp<;>grind
  ·have hk:=hM _ (bh hi);simp only[ax.eta,hk,h2];cases inp<;>grind
 ·rw[bT hn];simp only[zi];grind
def Qp(vars:aa aS)(inp:Bool):∀(n:Nat) (t:ax),zh t<n->M7 n vars t inp=I (cY vars inp t)
 |0,_,h=>by omega
 |n+1,t,h=>afn (M7 n) vars inp t (λk hk=>Qp vars inp n k (by have:=ax.dY hk;omega))
def abu(vars:aa aS)(inp:Bool)(t:ax):acr vars t inp=I (cY vars inp t):=dS (zh t+1) λn hn=>Qp vars inp n t (by omega)
def abD(M:aa aS->ax->Bool->af qC)(vars:aa aS)(inp:Bool)(t:ax)(hM:∀k∈t.aq,M vars k inp=I (cY vars inp k)):afG M vars t inp=I (cY vars inp t):=by
 have key:t.aq.length<=1000000->∃i:Nat,Dl M ⟨vars,inp,0,t⟩=I ⟨vars,inp,(i:Int),t⟩/\((i=t.aq.length/\t.aq.all (cY vars inp)=J)\/(i<t.aq.length/\cY vars inp t.aq[i]! =G/\t.aq.all (cY vars inp)=G)):=λhl=>by
  obtain⟨i,e1,hc⟩:=oy (rnd:=GQ M) t.aq (λi=>⟨vars,inp,(i:Int),t⟩) (λ_ k=>cY vars inp k) (λi hi=>by
   have hw:=fD hi hl;have hk:=hM _ (bh hi);unfold GQ;dsimp only;simp only[zi,zf,ax.eta,hk,hw];cases cY vars inp t.aq[i]! <;>simp[hi]) (by unfold GQ;simp)
  refine⟨i,e1,?_⟩;rcases hc with ⟨rfl,hc⟩|⟨hi,hc⟩
  ·exact .inl ⟨rfl,Cq hc⟩
  ·exact .inr ⟨hi,hc,sN hi hc⟩
 unfold afG;rw[aeE,j5];unfold vR;have hk0:(bY t.bt).1= -1\/0<=(bY t.bt).1:=by unfold bY;grind
 have hk1:t.bt≠25->(bY t.bt).1=(bY t.bt).2:=by unfold bY;grind
 have hk2:t.bt=25->bY t.bt=(2,33):=by unfold bY;grind
 have h33:(bY t.bt).2<=33:=by unfold bY;grind
 have hk3:t.bt=25->(bY t.bt).1=2/\(bY t.bt).2=33:=λh=>by rw[hk2 h];exact⟨rfl,rfl⟩
 generalize (bY t.bt).1=a at*;generalize (bY t.bt).2=b at*;by_cases hn:0<=a/\a<=t.aq.length/\(t.aq.length:Int)<=b
 ·obtain⟨i,e,hc⟩:=key (by omega);rw[bV hn,ax.eta,e];generalize t.aq.all (cY vars inp)=A at hc;simp only[zi,zf,xN];rcases hc with ⟨rfl,rfl⟩|⟨hi,h2,rfl⟩
  ·cases inp<;>grind
  ·have hk:=hM _ (bh hi);simp only[ax.eta,hk,h2];clear hM key e hk h2 hk2 hk0;by_cases h25:t.bt=25
   ·rw[bD h25,h25];cases inp<;>grind (splits:=30)
   ·rw[bL h25];have:=hk1 h25;subst this;rw[bL (show ¬a= -1 by omega),bD (show 0<=a by omega),bD (show (t.aq.length:Int)=a by omega),bL (show ¬a= -2 by omega)];dsimp only[bz,bB];cases inp<;>grind (splits:=30)
 ·rw[bT hn];simp only[zi];grind
def QK(vars:aa aS)(inp:Bool):∀(n:Nat) (t:ax),zh t<n->Nl n vars t inp=I (cY vars inp t)
 |0,_,h=>by omega
 |n+1,t,h=>abD (Nl n) vars inp t (λk hk=>QK vars inp n k (by have:=ax.dY hk;omega))
def aad(vars:aa aS)(inp:Bool)(t:ax):ael vars t inp=I (cY vars inp t):=dS (zh t+1) λn hn=>QK vars inp n t (by omega)
def Du(s:Span):Prop:= -1048576<=s.ag/\s.ag<=s.ah/\s.ah<=1048576
def Aq(a b:Span):Sb a b=fA a b:=rfl
def oN{a b:Int}(h1: -1048576<=a)(h2:a<=1048576)(h3: -1048576<=b)(h4:b<=1048576): -1099511627776<=a*b/\a*b<=1099511627776:=by
 have e1:(1048576-a)*(1048576-b)≥0:=zx (by omega) (by omega);have e2:(1048576+a)*(1048576+b)≥0:=zx (by omega) (by omega);have e3:(1048576-a)*(1048576+b)≥0:=zx (by omega) (by omega);have e4:(1048576+a)*(1048576-b)≥0:=zx (by omega) (by omega);grind
def afv(a b:Span)(ha:Du a)(hb:Du b):acG a b=I (fA (fA (fA ⟨a.ag*b.ag,a.ag*b.ag⟩ ⟨a.ag*b.ah,a.ag*b.ah⟩) ⟨a.ah*b.ag,a.ah*b.ag⟩) ⟨a.ah*b.ah,a.ah*b.ah⟩):=by
 unfold Du at ha hb;have w1:uY a.ag b.ag=a.ag*b.ag:=by have:=oN (a:=a.ag) (b:=b.ag) (by omega) (by omega) (by omega) (by omega);exact aI
 have w2:uY a.ag b.ah=a.ag*b.ah:=by have:=oN (a:=a.ag) (b:=b.ah) (by omega) (by omega) (by omega) (by omega);exact aI
 have w3:uY a.ah b.ag=a.ah*b.ag:=by have:=oN (a:=a.ah) (b:=b.ag) (by omega) (by omega) (by omega) (by omega);exact aI
 have w4:uY a.ah b.ah=a.ah*b.ah:=by have:=oN (a:=a.ah) (b:=b.ah) (by omega) (by omega) (by omega) (by omega);exact aI
 unfold acG;rw[w1,w2,w3,w4];generalize a.ag*b.ag=p;generalize a.ag*b.ah=q;generalize a.ah*b.ag=r;generalize a.ah*b.ah=s;have e:B4 ⟨[q,r,s],(3:Int),0,⟨0,0⟩,⟨p,p⟩⟩=I ⟨[q,r,s],3,3,⟨0,0⟩,fA (fA (fA ⟨p,p⟩ ⟨q,q⟩) ⟨r,r⟩) ⟨s,s⟩⟩:=by
  have k1:nO ⟨[q,r,s],(3:Int),0,⟨0,0⟩,⟨p,p⟩⟩=I (I ⟨[q,r,s],(3:Int),1,⟨0,0⟩,fA ⟨p,p⟩ ⟨q,q⟩⟩):=by unfold nO;simp[Aq,aI]
  have k2:nO ⟨[q,r,s],(3:Int),1,⟨0,0⟩,fA ⟨p,p⟩ ⟨q,q⟩⟩=I (I ⟨[q,r,s],(3:Int),2,⟨0,0⟩,fA (fA ⟨p,p⟩ ⟨q,q⟩) ⟨r,r⟩⟩):=by unfold nO;simp[Aq,aI]
  have k3:nO ⟨[q,r,s],(3:Int),2,⟨0,0⟩,fA (fA ⟨p,p⟩ ⟨q,q⟩) ⟨r,r⟩⟩=I (I ⟨[q,r,s],(3:Int),3,⟨0,0⟩,fA (fA (fA ⟨p,p⟩ ⟨q,q⟩) ⟨r,r⟩) ⟨s,s⟩⟩):=by unfold nO;simp[Aq,aI]
  unfold B4;rw[bP k1,bP k2,bP k3];exact cu λr=>by unfold nO;simp
 rw[show (([q,r,s]:aa Int).length:Int)=3 from rfl,e];simp
def acw{a b:Span}(ha:Du a)(hb:Du b):Du (fA a b):=by
 unfold Du fA at*;grind
def ld:∀(l:aa Span) (a:Span),Du a->(∀x∈l,Du x)->Du (l.foldl fA a)
 |[],a,ha,_=>ha
 |x::l,a,ha,h=>ld l (fA a x) (acw ha (h x (zm ..))) λy hy=>h y (zK _ hy)
def R8(l:aa Span)(hl:l.length<=1000000)(z a:Span):BB ⟨l,(l.length:Int),0,z,a⟩=I ⟨l,(l.length:Int),(l.length:Int),z,l.foldl fA a⟩:=by
 obtain⟨v,e1,hv⟩:=cO (rnd:=F4) l.length (λi (b:Span)=>⟨l,(l.length:Int),(i:Int),z,b⟩) (λi b=>b=(l.take i).foldl fA a) (λi b hi hb=>by
  have hw:=fD hi hl;refine⟨fA b l[i]!,?_,?_⟩
  ·unfold F4;dsimp only;simp only[zi,zf,Aq,hw];grind
  ·rw[bM hi,List.foldl_append,hb];rfl) (λb _=>by unfold F4;simp) (b:=a) rfl
 rw[zI]at hv;rw[<-hv];exact e1
def CH(vars:aa aS)(t:ax)(k:aa Span):Prop:=(0<=(bY t.bt).1/\(bY t.bt).1<=k.length/\(k.length:Int)<=(bY t.bt).2)/\(t.bt=24->0<=t.fN/\t.fN<vars.length)/\∀s∈k,Du s
def ac0(vars:aa aS)(t:ax)(k:aa Span)(h:CH vars t k):aaD vars t k=I (ia vars t k):=by
 obtain⟨hk,h24,hI⟩:=h;have h0:1<=(bY t.bt).1->Du k[0]! :=λh=>hI _ (bh (by omega));have h1:2<=(bY t.bt).1->Du k[1]! :=λh=>hI _ (bh (by omega));have h33:(bY t.bt).2<=33:=by unfold bY;grind
 have hd:(k.drop 2).length<=1000000:=by rw[yj];omega
 have W:∀n:Int,-8796093022208<=n->n<=8796093022208->i64.wrap n=n:=λn a b=>aI;unfold aaD ia;rw[R8 _ hd];have cs:t.bt=0\/t.bt=24\/t.bt=6\/t.bt=8\/t.bt=9\/t.bt=10\/t.bt=11\/t.bt=12\/t.bt=21\/t.bt=22\/t.bt=23\/t.bt=25\/(t.bt≠0/\t.bt≠24/\t.bt≠6/\t.bt≠8/\t.bt≠9/\t.bt≠10/\t.bt≠11/\t.bt≠12/\t.bt≠21/\t.bt≠22/\t.bt≠23/\t.bt≠25):=by omega
 rcases cs with h|h|h|h|h|h|h|h|h|h|h|h|h
 ·simp[h]
 ·simp[h,h24 h]
 ·have hl:1<=(bY t.bt).1:=by rw[h];decide
  obtain⟨a1,a2,a3⟩:=h0 hl;have w1:i64.wrap ((0:Int)-k[0]!.ah)= -k[0]!.ah:=by rw[W _ (by omega) (by omega)];omega
  have w2:i64.wrap ((0:Int)-k[0]!.ag)= -k[0]!.ag:=by rw[W _ (by omega) (by omega)];omega
  have i0:(0:Int)<(k.length:Int):=by omega
  simp only[Z0,h,zi,Int.reduceEq,reduceIte,i0,w1,w2,zw,dG,cD]
 ·have hl:2<=(bY t.bt).1:=by rw[h];decide
  obtain⟨a1,a2,a3⟩:=h0 (by omega);obtain⟨b1,b2,b3⟩:=h1 hl;have w1:=W (k[0]!.ag+k[1]!.ag) (by omega) (by omega);have w2:=W (k[0]!.ah+k[1]!.ah) (by omega) (by omega);have i0:(0:Int)<(k.length:Int):=by omega
  have i1:(1:Int)<(k.length:Int):=by omega
  simp only[Z0,h,zi,Int.reduceEq,Int.reduceLE,reduceIte,i0,i1,w1,w2,zw,dG,cD]
 ·have hl:2<=(bY t.bt).1:=by rw[h];decide
  obtain⟨a1,a2,a3⟩:=h0 (by omega);obtain⟨b1,b2,b3⟩:=h1 hl;have w1:=W (k[0]!.ag-k[1]!.ah) (by omega) (by omega);have w2:=W (k[0]!.ah-k[1]!.ag) (by omega) (by omega);have i0:(0:Int)<(k.length:Int):=by omega
  have i1:(1:Int)<(k.length:Int):=by omega
  simp only[Z0,h,zi,Int.reduceEq,Int.reduceLE,reduceIte,i0,i1,w1,w2,zw,dG,cD]
 ·have hl:2<=(bY t.bt).1:=by rw[h];decide
  have e18:=afv _ _ (h0 (by omega)) (h1 hl);have i0:(0:Int)<(k.length:Int):=by omega
  have i1:(1:Int)<(k.length:Int):=by omega
  simp only[Z0,h,zi,Int.reduceEq,Int.reduceLE,reduceIte,i0,i1,e18,zw,dG,cD]
 ·have hl:2<=(bY t.bt).1:=by rw[h];decide
  obtain⟨a1,a2,a3⟩:=h0 (by omega);obtain⟨b1,b2,b3⟩:=h1 hl;have w1:i64.wrap ((0:Int)-k[0]!.ag)= -k[0]!.ag:=by rw[W _ (by omega) (by omega)];omega
  have w2:i64.wrap ((0:Int)-if k[0]!.ah< -k[0]!.ag then-k[0]!.ag else k[0]!.ah)= -(if k[0]!.ah< -k[0]!.ag then-k[0]!.ag else k[0]!.ah):=by split<;>(rw[W _ (by omega) (by omega)];omega)
  have i0:(0:Int)<(k.length:Int):=by omega
  have i1:(1:Int)<(k.length:Int):=by omega
  simp only[Z0,h,zi,Int.reduceEq,Int.reduceLE,reduceIte,i0,i1,w1,w2,zw,dG,cD];by_cases c1:(0:Int)<=k[0]!.ag<;>by_cases c2:(0:Int)<=k[1]!.ag<;>simp only[c1,c2,cD,ek,cR,fS,bB,bz,dG,and_true,and_false]
 ·have hl:2<=(bY t.bt).1:=by rw[h];decide
  obtain⟨b1,b2,b3⟩:=h1 hl;have w1:=W (k[1]!.ag+1) (by omega) (by omega);have w2:=W (k[1]!.ah-1) (by omega) (by omega);have i1:(1:Int)<(k.length:Int):=by omega
  simp only[Z0,h,zi,Int.reduceEq,Int.reduceLE,reduceIte,i1,w1,w2,zw,dG,cD];by_cases c1:k[1]!.ag<0<;>by_cases c2:(0:Int)<k[1]!.ah<;>simp only[c1,c2,cD,ek]
  ·rw[ux,ux]
  ·rw[ux]
  ·rw[ux]
 ·have hl:2<=(bY t.bt).1:=by rw[h];decide
  have i0:(0:Int)<(k.length:Int):=by omega
  have i1:(1:Int)<(k.length:Int):=by omega
  simp only[Z0,h,zi,Int.reduceEq,Int.reduceLE,reduceIte,i0,i1,zw,dG,cD]
 ·have hl:2<=(bY t.bt).1:=by rw[h];decide
  have i0:(0:Int)<(k.length:Int):=by omega
  have i1:(1:Int)<(k.length:Int):=by omega
  simp only[Z0,h,zi,Int.reduceEq,Int.reduceLE,reduceIte,i0,i1,zw,dG,cD]
 ·have hl:2<=(bY t.bt).1:=by rw[h];decide
  have i1:(1:Int)<(k.length:Int):=by omega
  have i2:(2:Int)<=(k.length:Int):=by omega
  simp only[Z0,h,zi,Int.reduceEq,Int.reduceLE,reduceIte,i1,i2,zw,dG,cD,xw,ek,true_or]
 ·have hl:2<=(bY t.bt).1:=by rw[h];decide
  have i1:(1:Int)<(k.length:Int):=by omega
  have i2:(2:Int)<=(k.length:Int):=by omega
  simp only[Z0,h,zi,Int.reduceEq,Int.reduceLE,reduceIte,i1,i2,zw,dG,cD,xw,ek,or_true]
 ·obtain⟨c1,c2,c3,c4,c5,c6,c7,c8,c9,c18,c11,c12⟩:=h;simp only[c1,c2,c3,c4,c5,c6,c7,c8,c9,c18,c11,c12,zi,ek,or_self]
def Xa(vars:aa aS)(hv:cL vars)(t:ax)(k:aa Span)(h:CH vars t k):(ia vars t k).ag<=(ia vars t k).ah:=by
 obtain⟨hk,h24,hI⟩:=h;have h0:1<=(bY t.bt).1->Du k[0]! :=λh=>hI _ (bh (by omega));have h1:2<=(bY t.bt).1->Du k[1]! :=λh=>hI _ (bh (by omega));unfold ia;have cs:t.bt=0\/t.bt=24\/t.bt=6\/t.bt=8\/t.bt=9\/t.bt=10\/t.bt=11\/t.bt=12\/t.bt=21\/t.bt=22\/t.bt=23\/t.bt=25\/(t.bt≠0/\t.bt≠24/\t.bt≠6/\t.bt≠8/\t.bt≠9/\t.bt≠10/\t.bt≠11/\t.bt≠12/\t.bt≠21/\t.bt≠22/\t.bt≠23/\t.bt≠25):=by omega
 rcases cs with h|h|h|h|h|h|h|h|h|h|h|h|h
 ·simp[h]
 ·have hm:vars[t.fN.toNat]!∈vars:=bh (by have:=h24 h;omega);have:=hv _ hm;simp only[h,Int.reduceEq,reduceIte];omega
 ·obtain⟨a1,a2,a3⟩:=h0 (by rw[h];decide);simp only[h,Int.reduceEq,reduceIte];omega
 ·obtain⟨a1,a2,a3⟩:=h0 (by rw[h];decide);obtain⟨b1,b2,b3⟩:=h1 (by rw[h];decide);simp only[h,Int.reduceEq,reduceIte];omega
 ·obtain⟨a1,a2,a3⟩:=h0 (by rw[h];decide);obtain⟨b1,b2,b3⟩:=h1 (by rw[h];decide);simp only[h,Int.reduceEq,reduceIte];omega
 ·simp only[h,Int.reduceEq,reduceIte,fA];generalize k[0]!.ag*k[1]!.ag=p;generalize k[0]!.ag*k[1]!.ah=q;generalize k[0]!.ah*k[1]!.ag=r;generalize k[0]!.ah*k[1]!.ah=s;grind
 ·obtain⟨a1,a2,a3⟩:=h0 (by rw[h];decide);simp only[h,Int.reduceEq,reduceIte];grind
 ·simp only[h,Int.reduceEq,reduceIte];grind
 ·obtain⟨a1,a2,a3⟩:=h0 (by rw[h];decide);obtain⟨b1,b2,b3⟩:=h1 (by rw[h];decide);simp only[h,Int.reduceEq,reduceIte];grind
 ·obtain⟨a1,a2,a3⟩:=h0 (by rw[h];decide);obtain⟨b1,b2,b3⟩:=h1 (by rw[h];decide);simp only[h,Int.reduceEq,reduceIte];grind
 ·have:=ld (k.drop 2) k[1]! (h1 (by rw[h];decide)) λx hx=>hI x (xU hx);simp only[h,Int.reduceEq,reduceIte,true_or,cD];exact this.2.1
 ·have:=ld (k.drop 2) k[1]! (h1 (by rw[h];decide)) λx hx=>hI x (xU hx);simp only[h,Int.reduceEq,reduceIte,or_true,cD];exact this.2.1
 ·obtain⟨c1,c2,c3,c4,c5,c6,c7,c8,c9,c18,c11,c12⟩:=h;simp only[c1,c2,c3,c4,c5,c6,c7,c8,c9,c18,c11,c12,ek,or_self];decide
def pn:∀{l:aa (af Span)} {r:aa Span},jL l=I r->l=r.map I
 |[],r,h=>by unfold jL at h;cases h;rfl
 |none::l,r,h=>by unfold jL at h;cases h
 |some s::l,r,h=>by
  unfold jL at h;cases hl:jL l with
  |none=>rw[hl]at h;cases h
  |some q=>rw[hl]at h;cases h;rw[pn hl];rfl
def Kh(l:aa Span):jL (l.map I)=I l:=by
 induction l with
 |nil=>rfl
 |cons s l ih=>rw[z7,jL,ih]
def vw:∀{l:aa (af Span)},S∈l->jL l=S
 |none::l,h=>rfl
 |some s::l,h=>by
  unfold jL;rw[vw (by simpa using h)]
def ER{vars:aa aS}{inp:Bool}{t:ax}{k:aa Span}(hf:vR vars inp t=J)(hl:k.length=t.aq.length)(hI:∀s∈k,Du s):CH vars t k:=by
 unfold vR at hf;refine⟨?_,?_,hI⟩
 ·rw[hl];simp only[zj,decide_eq_true_eq]at hf;exact hf.1
 ·intro h;rw[h]at hf;simp at hf;exact hf.2.1
def YA(vars:aa aS)(hv:cL vars)(inp:Bool)(t:ax)(s:Span)(hf:cY vars inp t=J)(h:fR vars t=I s):Du s:=by
 have key:∀(n:Nat) (t:ax) (s:Span),zh t<n->cY vars inp t=J->fR vars t=I s->Du s:=by
  intro n;induction n with
  |zero=>intro t s h;omega
  |succ n ih=>
   intro t s hz hf h;rw[j5,zj,zu]at hf;rw[tu]at h;cases ha:jL (t.aq.map (fR vars))with
   |none=>rw[ha]at h;cases h
   |some k=>
    rw[ha]at h;dsimp only at h;have hm:=pn ha;have hl:k.length=t.aq.length:=by have:=congrArg yG hm;simpa using this.symm
    have hI:∀s∈k,Du s:=λx hx=>by
     have:I x∈t.aq.map (fR vars):=by rw[hm];exact List.mem_map_of_mem hx
     obtain⟨c,hc,e⟩:=zL.1 this;exact ih c x (by have:=ax.dY hc;omega) (hf.2 c hc) e
    have ho:=Xa vars hv t k (ER hf.1 hl hI);split at h
    ·rename_i hlim;cases h;unfold sj at hlim;unfold Du;grind
    ·cases h
 exact key _ t s (zB _) hf h
def sG(vars:aa aS)(t:ax):Span×Bool:=match jL (t.aq.map (fR vars))with
 |none=>(⟨0,0⟩,G)
 |some l=>(ia vars t l,sj (ia vars t l))
def Fm(vars:aa aS)(t:ax):fR vars t=if(sG vars t).2=J then I (sG vars t).1 else S:=by
 rw[tu,sG];cases jL (t.aq.map (fR vars))<;>rfl
def IP{vars:aa aS}(hv:cL vars){inp:Bool}{t:ax}{k:aa Span}(hf:cY vars inp t=J)(ha:jL (t.aq.map (fR vars))=I k):CH vars t k:=by
 rw[j5,zj,zu]at hf;have hm:=pn ha;refine ER hf.1 (by have:=congrArg yG hm;simpa using this.symm) λx hx=> ?_;have:I x∈t.aq.map (fR vars):=by rw[hm];exact List.mem_map_of_mem hx
 obtain⟨c,hc,e⟩:=zL.1 this;exact YA vars hv inp c x (hf.2 c hc) e
def JP{vars:aa aS}{inp:Bool}{t:ax}(hf:cY vars inp t=J):t.aq.length<=33:=by
 rw[j5,zj]at hf;have:=hf.1;unfold vR at this;have h33:(bY t.bt).2<=33:=by unfold bY;grind
 simp only[zj,decide_eq_true_eq]at this;omega
def oW{vars:aa aS}{inp:Bool}{t k:ax}(hf:cY vars inp t=J)(hk:k∈t.aq):cY vars inp k=J:=by
 rw[j5,zj,zu]at hf;exact hf.2 k hk
def aaz(M:aa aS->ax->af qj)(vars:aa aS)(hv:cL vars)(inp:Bool)(t:ax)(hf:cY vars inp t=J)(hM:∀k∈t.aq,M vars k=I (sG vars k)):ac2 M vars t=I (sG vars t):=by
 have h33:=JP hf;obtain⟨i,b,e1,hI,hc⟩:=oO (rnd:=AX M) t.aq.length (λi (b:aa Span)=>⟨vars,b,t.aq,(t.aq.length:Int),(i:Int),t,⟨0,0⟩⟩) (λi b=>(t.aq.take i).map (fR vars)=b.map I) (λi _=>(sG vars t.aq[i]!).2=G) (λi b hi hb=>by
  have hw:=fD hi (by omega);have hk:=hM _ (bh hi);have hlen:b.length=i:=by have:=congrArg yG hb;simp at this;omega
  cases hx:(sG vars t.aq[i]!).2 with
  |true=>
   refine .inl ⟨b++[(sG vars t.aq[i]!).1],?_,?_⟩
   ·have hl2:(b++[(sG vars t.aq[i]!).1]).length<=1073741824:=by simp;omega
    unfold AX;dsimp only;simp only[zf,ax.eta,hk,hx,hl2,hw,cD,bB,bz];simp[hi]
   ·rw[bM hi,z6,hb,z6]
    congr 1
    rw[z7,z7,Fm,bD hx];rfl
  |false=>
   refine .inr ⟨?_,rfl⟩;unfold AX;dsimp only;simp only[zf,ax.eta,hk,hx,bB,bz];simp[hi]) (λb _=>by unfold AX;simp) (b:=[]) rfl
 have e1':Hs M ⟨vars,[],t.aq,(t.aq.length:Int),0,t,⟨0,0⟩⟩=I ⟨vars,b,t.aq,(t.aq.length:Int),(i:Int),t,⟨0,0⟩⟩:=e1;unfold ac2;rw[ax.eta,e1'];dsimp only;rcases hc with rfl|⟨hi,hx⟩
 ·rw[zI]at hI;have ha:jL (t.aq.map (fR vars))=I b:=by rw[hI];exact Kh b
  rw[eH,bz,ax.eta,ac0 vars t b (IP hv hf ha)];unfold sG;rw[ha];dsimp only;unfold sj;simp only[zi];grind
 ·have hk:=hM _ (bh hi);have ha:jL (t.aq.map (fR vars))=S:=vw (zL.2 ⟨t.aq[i]!,bh hi,by rw[Fm,hx];simp⟩);rw[mg,bB,bD ⟨by omega,by omega⟩];simp only[zf,ax.eta,hk,hx,bB,bz];unfold sG;rw[ha]
def Rm(vars:aa aS)(hv:cL vars)(inp:Bool):∀(n:Nat) (t:ax),zh t<n->cY vars inp t=J->My n vars t=I (sG vars t)
 |0,_,h,_=>by omega
 |n+1,t,h,hf=>aaz (My n) vars hv inp t hf (λk hk=>Rm vars hv inp n k (by have:=ax.dY hk;omega) (oW hf hk))
def acf(vars:aa aS)(hv:cL vars)(inp:Bool)(t:ax)(hf:cY vars inp t=J):ac1 vars t=I (sG vars t):=dS (zh t+1) λn hn=>Rm vars hv inp n t (by omega) hf
def Ad(vars:aa aS)(hv:cL vars)(inp:Bool)(t:ax):Mz vars t inp=I (dN vars inp t):=by
 unfold Mz dN;rw[ax.eta,abu];cases hf:cY vars inp t with
 |false=>rfl
 |true=>
  rw[acf vars hv inp t hf,Fm];dsimp only;cases (sG vars t).2<;>rfl
def tw(vars:aa aS)(t:ax)(k:aa Span):Span:=if t.bt=0/\(t.fN< -1048576\/1048576<t.fN)then⟨-1048577,1048577⟩else ia vars t k
def RY(vars:aa aS)(t:ax)(k:aa Span):sj (tw vars t k)=sj (ia vars t k)/\(sj (ia vars t k)=J->tw vars t k=ia vars t k):=by
 unfold tw;by_cases h:t.bt=0/\(t.fN< -1048576\/1048576<t.fN)
 ·have e:sj (ia vars t k)=G:=by
   unfold sj ia;rw[bD h.1];simp;omega
  rw[bD h,e];exact⟨by decide,λh=>by cases h⟩
 ·rw[bL h];exact⟨rfl,λ_=>rfl⟩
def pg(a b:Int):iV a b=if a<b then a else b:=by
 unfold iV;simp only[zi]
def mL(a b:Int):jG a b=if b<a then a else b:=by
 unfold jG;simp only[zi]
def gd{k:aa Span}{i:Nat}(h:i<k.length):(k.map (·.ag))[i]! =k[i]!.ag:=by
 rw[getElem!_pos _ i (by simpa using h),getElem!_pos k i h,yH]
def eV{k:aa Span}{i:Nat}(h:i<k.length):(k.map (·.ah))[i]! =k[i]!.ah:=by
 rw[getElem!_pos _ i (by simpa using h),getElem!_pos k i h,yH]
def D8(k:aa Span)(hl:k.length<=1000000)(h2:2<=k.length)(a:Span):Dd ⟨k.map (·.ag),k.map (·.ah),a.ag,a.ah,2⟩=I ⟨k.map (·.ag),k.map (·.ah),((k.drop 2).foldl fA a).ag,((k.drop 2).foldl fA a).ah,(k.length:Int)⟩:=by
 have hlen:(k.drop 2).length=k.length-2:=yj ..;have hget:∀i,i<k.length-2->(k.drop 2)[i]! =k[i+2]! :=λi hi=>by
  rw[getElem!_pos _ i (by omega),getElem!_pos _ (i+2) (by omega),List.getElem_drop]
  congr 1
  omega
 obtain⟨v,e1,hv⟩:=cO (rnd:=GG) (k.length-2) (λi (b:Span)=>⟨k.map (·.ag),k.map (·.ah),b.ag,b.ah,((i+2:Nat):Int)⟩) (λi b=>b=((k.drop 2).take i).foldl fA a) (λi b hi hb=>by
  have hw:=fD (show i+2<k.length by omega) hl;refine⟨fA b k[i+2]!,?_,?_⟩
  ·unfold GG;dsimp only;simp only[zi,zf,pg,mL,hw,zA,gd (show i+2<k.length by omega),eV (show i+2<k.length by omega)];unfold fA;rw[ga,bD ⟨by omega,by omega⟩,bD ⟨by omega,by omega⟩]
   congr 3<;>grind
  ·rw[bM (by omega),List.foldl_append,hb,hget i hi];rfl) (λb _=>by
   unfold GG;simp only[zA,zi];rw[ux]) (b:=a) rfl
 rw[<-hlen,zI]at hv;rw[<-hv];rw[show k.length-2+2=k.length by omega]at e1;exact e1
def adI(vars:aa aS)(t:ax)(k:aa Span)(h:CH vars t k):afw vars t (k.map (·.ag)) (k.map (·.ah))=I ((tw vars t k).ag,(tw vars t k).ah):=by
 obtain⟨hk,h24,hI⟩:=h;have h0:1<=(bY t.bt).1->Du k[0]! :=λh=>hI _ (bh (by omega));have h1:2<=(bY t.bt).1->Du k[1]! :=λh=>hI _ (bh (by omega));have h33:(bY t.bt).2<=33:=by unfold bY;grind
 have W:∀n:Int,-8796093022208<=n->n<=8796093022208->i64.wrap n=n:=λn a b=>aI;unfold afw tw ia;have cs:t.bt=0\/t.bt=24\/t.bt=6\/t.bt=8\/t.bt=9\/t.bt=10\/t.bt=11\/t.bt=12\/t.bt=21\/t.bt=22\/t.bt=23\/t.bt=25\/(t.bt≠0/\t.bt≠24/\t.bt≠6/\t.bt≠8/\t.bt≠9/\t.bt≠10/\t.bt≠11/\t.bt≠12/\t.bt≠21/\t.bt≠22/\t.bt≠23/\t.bt≠25):=by omega
 rcases cs with h|h|h|h|h|h|h|h|h|h|h|h|h
 ·simp only[Z0,h,zi,Int.reduceEq,reduceIte,true_and];grind
 ·simp[h,h24 h]
 ·have hl:1<=(bY t.bt).1:=by rw[h];decide
  obtain⟨a1,a2,a3⟩:=h0 hl;have w1:i64.wrap ((0:Int)-k[0]!.ah)= -k[0]!.ah:=by rw[W _ (by omega) (by omega)];omega
  have w2:i64.wrap ((0:Int)-k[0]!.ag)= -k[0]!.ag:=by rw[W _ (by omega) (by omega)];omega
  have i0:(0:Int)<(k.length:Int):=by omega
  simp only[Z0,h,zi,Int.reduceEq,reduceIte,zA,i0,gd (show 0<k.length by omega),eV (show 0<k.length by omega),w1,w2,zw,dG,cD,false_and,ek]
 ·have hl:2<=(bY t.bt).1:=by rw[h];decide
  obtain⟨a1,a2,a3⟩:=h0 (by omega);obtain⟨b1,b2,b3⟩:=h1 hl;have w1:=W (k[0]!.ag+k[1]!.ag) (by omega) (by omega);have w2:=W (k[0]!.ah+k[1]!.ah) (by omega) (by omega);have i0:(0:Int)<(k.length:Int):=by omega
  have i1:(1:Int)<(k.length:Int):=by omega
  simp only[Z0,h,zi,Int.reduceEq,Int.reduceLE,reduceIte,zA,gd (show 0<k.length by omega),eV (show 0<k.length by omega),gd (show 1<k.length by omega),eV (show 1<k.length by omega),i0,i1,w1,w2,zw,dG,cD,false_and,ek]
 ·have hl:2<=(bY t.bt).1:=by rw[h];decide
  obtain⟨a1,a2,a3⟩:=h0 (by omega);obtain⟨b1,b2,b3⟩:=h1 hl;have w1:=W (k[0]!.ag-k[1]!.ah) (by omega) (by omega);have w2:=W (k[0]!.ah-k[1]!.ag) (by omega) (by omega);have i0:(0:Int)<(k.length:Int):=by omega
  have i1:(1:Int)<(k.length:Int):=by omega
  simp only[Z0,h,zi,Int.reduceEq,Int.reduceLE,reduceIte,zA,gd (show 0<k.length by omega),eV (show 0<k.length by omega),gd (show 1<k.length by omega),eV (show 1<k.length by omega),i0,i1,w1,w2,zw,dG,cD,false_and,ek]
 ·have hl:2<=(bY t.bt).1:=by rw[h];decide
  obtain⟨a1,a2,a3⟩:=h0 (by omega);obtain⟨b1,b2,b3⟩:=h1 hl;have m1:=oN (a:=k[0]!.ag) (b:=k[1]!.ag) (by omega) (by omega) (by omega) (by omega);have m2:=oN (a:=k[0]!.ag) (b:=k[1]!.ah) (by omega) (by omega) (by omega) (by omega);have m3:=oN (a:=k[0]!.ah) (b:=k[1]!.ag) (by omega) (by omega) (by omega) (by omega);have m4:=oN (a:=k[0]!.ah) (b:=k[1]!.ah) (by omega) (by omega) (by omega) (by omega);have w1:=W _ (show-8796093022208<=k[0]!.ag*k[1]!.ag by omega) (by omega);have w2:=W _ (show-8796093022208<=k[0]!.ag*k[1]!.ah by omega) (by omega);have w3:=W _ (show-8796093022208<=k[0]!.ah*k[1]!.ag by omega) (by omega);have w4:=W _ (show-8796093022208<=k[0]!.ah*k[1]!.ah by omega) (by omega);have i0:(0:Int)<(k.length:Int):=by omega
  have i1:(1:Int)<(k.length:Int):=by omega
  simp only[Z0,h,zi,Int.reduceEq,Int.reduceLE,reduceIte,zA,gd (show 0<k.length by omega),eV (show 0<k.length by omega),gd (show 1<k.length by omega),eV (show 1<k.length by omega),i0,i1,w1,w2,w3,w4,zw,dG,cD,false_and,ek,pg,mL,fA];generalize k[0]!.ag*k[1]!.ag=p;generalize k[0]!.ag*k[1]!.ah=q;generalize k[0]!.ah*k[1]!.ag=r;generalize k[0]!.ah*k[1]!.ah=s
  congr 2<;>grind
 ·have hl:2<=(bY t.bt).1:=by rw[h];decide
  obtain⟨a1,a2,a3⟩:=h0 (by omega);obtain⟨b1,b2,b3⟩:=h1 hl;have z0:yM 0=0:=rfl;have z1:yM 1=1:=rfl;have U9:∀x:Int,-1048576<=x->x<=1048576->ua x=if x<0 then-x else x:=λx q1 q2=>by
   unfold ua;rw[W _ (by omega) (by omega)];simp only[zi];grind
  have RZ:jG (ua k[0]!.ag) (ua k[0]!.ah)=if k[0]!.ah< -k[0]!.ag then-k[0]!.ag else k[0]!.ah:=by
   rw[U9 _ (by omega) (by omega),U9 _ (by omega) (by omega),mL];grind
  have w2:i64.wrap ((0:Int)-if k[0]!.ah< -k[0]!.ag then-k[0]!.ag else k[0]!.ah)= -(if k[0]!.ah< -k[0]!.ag then-k[0]!.ag else k[0]!.ah):=by split<;>(rw[W _ (by omega) (by omega)];omega)
  have i0:(0:Int)<(k.length:Int):=by omega
  have i1:(1:Int)<(k.length:Int):=by omega
  simp only[Z0,h,zi,Int.reduceEq,Int.reduceLE,reduceIte,zA,z0,z1,gd (show 0<k.length by omega),eV (show 0<k.length by omega),gd (show 1<k.length by omega),eV (show 1<k.length by omega),i0,i1,RZ,w2,zw,dG,cD,false_and,ek];by_cases c1:(0:Int)<=k[0]!.ag<;>by_cases c2:(0:Int)<=k[1]!.ag<;>simp only[c1,c2,cD,ek,cR,fS,bB,bz,dG,and_true,and_false]
 ·have hl:2<=(bY t.bt).1:=by rw[h];decide
  obtain⟨b1,b2,b3⟩:=h1 hl;have w1:=W (k[1]!.ag+1) (by omega) (by omega);have w2:=W (k[1]!.ah-1) (by omega) (by omega);have i1:(1:Int)<(k.length:Int):=by omega
  simp only[Z0,h,zi,Int.reduceEq,Int.reduceLE,reduceIte,zA,gd (show 1<k.length by omega),eV (show 1<k.length by omega),i1,zw,dG,cD,false_and,ek,UO,w1,w2,pg,mL]
  congr 1
  by_cases c1:k[1]!.ag<0<;>by_cases c2:(0:Int)<k[1]!.ah<;>simp only[c1,c2,cD,ek,Prod.mk.injEq,and_true,true_and]<;>grind
 ·have hl:2<=(bY t.bt).1:=by rw[h];decide
  have i0:(0:Int)<(k.length:Int):=by omega
  have i1:(1:Int)<(k.length:Int):=by omega
  simp only[Z0,h,zi,Int.reduceEq,Int.reduceLE,reduceIte,zA,gd (show 0<k.length by omega),eV (show 0<k.length by omega),gd (show 1<k.length by omega),eV (show 1<k.length by omega),i0,i1,zw,dG,cD,false_and,ek,pg,mL]
  congr 2<;>grind
 ·have hl:2<=(bY t.bt).1:=by rw[h];decide
  have i0:(0:Int)<(k.length:Int):=by omega
  have i1:(1:Int)<(k.length:Int):=by omega
  simp only[Z0,h,zi,Int.reduceEq,Int.reduceLE,reduceIte,zA,gd (show 0<k.length by omega),eV (show 0<k.length by omega),gd (show 1<k.length by omega),eV (show 1<k.length by omega),i0,i1,zw,dG,cD,false_and,ek,pg,mL]
  congr 2<;>grind
 ·have hl:2<=(bY t.bt).1:=by rw[h];decide
  have i1:(1:Int)<(k.length:Int):=by omega
  have e:=D8 k (by omega) (by omega) k[1]!;simp only[Z0,h,zi,Int.reduceEq,Int.reduceLE,reduceIte,zA,gd (show 1<k.length by omega),eV (show 1<k.length by omega),e,i1,zw,dG,cD,xw,ek,true_or,false_and]
 ·have hl:2<=(bY t.bt).1:=by rw[h];decide
  have i1:(1:Int)<(k.length:Int):=by omega
  have e:=D8 k (by omega) (by omega) k[1]!;simp only[Z0,h,zi,Int.reduceEq,Int.reduceLE,reduceIte,zA,gd (show 1<k.length by omega),eV (show 1<k.length by omega),e,i1,zw,dG,cD,xw,ek,or_true,false_and]
 ·obtain⟨c1,c2,c3,c4,c5,c6,c7,c8,c9,c18,c11,c12⟩:=h;simp only[c1,c2,c3,c4,c5,c6,c7,c8,c9,c18,c11,c12,zi,ek,or_self,false_and]
def oT(vars:aa aS)(t:ax):Int×Int×Bool:=match jL (t.aq.map (fR vars))with
 |none=>(0,0,G)
 |some l=>((tw vars t l).ag,(tw vars t l).ah,sj (tw vars t l))
def GJ(vars:aa aS)(t:ax):fR vars t=if(oT vars t).2.2=J then I ⟨(oT vars t).1,(oT vars t).2.1⟩else S:=by
 rw[tu,oT];cases h:jL (t.aq.map (fR vars))with
 |none=>rfl
 |some l=>
  obtain⟨h1,h2⟩:=RY vars t l;dsimp only;by_cases hl:sj (ia vars t l)=J
  ·rw[bD hl,bD (h1.trans hl),h2 hl]
  ·rw[bL hl,bL (by rw[h1];exact hl)]
def acy(M:aa aS->ax->af qm)(vars:aa aS)(hv:cL vars)(inp:Bool)(t:ax)(hf:cY vars inp t=J)(hM:∀k∈t.aq,M vars k=I (oT vars k)):afi M vars t=I (oT vars t):=by
 have h33:=JP hf;obtain⟨i,b,e1,hI,hc⟩:=oO (rnd:=Dc M) t.aq.length (λi (b:aa Span)=>⟨vars,b.map (·.ag),b.map (·.ah),(i:Int),t⟩) (λi b=>(t.aq.take i).map (fR vars)=b.map I) (λi _=>(oT vars t.aq[i]!).2.2=G) (λi b hi hb=>by
  have hw:=fD hi (by omega);have hk:=hM _ (bh hi);have hlen:b.length=i:=by have:=congrArg yG hb;simp at this;omega
  cases hx:(oT vars t.aq[i]!).2.2 with
  |true=>
   refine .inl ⟨b++[⟨(oT vars t.aq[i]!).1,(oT vars t.aq[i]!).2.1⟩],?_,?_⟩
   ·have hl2:(b.map (·.ag)++[(oT vars t.aq[i]!).1]).length<=1073741824:=by simp;omega
    have hl3:(b.map (·.ah)++[(oT vars t.aq[i]!).2.1]).length<=1073741824:=by simp;omega
    unfold Dc;dsimp only;simp only[zf,ax.eta,hk,hx,hl2,hl3,hw,cD,bB,bz];simp[hi]
   ·rw[bM hi,z6,hb,z6]
    congr 1
    rw[z7,z7,GJ,bD hx];rfl
  |false=>
   refine .inr ⟨?_,rfl⟩;unfold Dc;dsimp only;simp only[zf,ax.eta,hk,hx,bB,bz];simp[hi]) (λb _=>by unfold Dc;simp) (b:=[]) rfl
 have e1':Fy M ⟨vars,[],[],0,t⟩=I ⟨vars,b.map (·.ag),b.map (·.ah),(i:Int),t⟩:=e1;unfold afi;rw[ax.eta,e1'];dsimp only;rcases hc with rfl|⟨hi,hx⟩
 ·rw[zI]at hI;have ha:jL (t.aq.map (fR vars))=I b:=by rw[hI];exact Kh b
  rw[eH,bz,ax.eta,adI vars t b (IP hv hf ha)];unfold oT;rw[ha];dsimp only;unfold sj;simp only[zi];grind
 ·have hk:=hM _ (bh hi);have ha:jL (t.aq.map (fR vars))=S:=vw (zL.2 ⟨t.aq[i]!,bh hi,by rw[GJ,hx];simp⟩);rw[mg,bB,bD ⟨by omega,by omega⟩];simp only[zf,ax.eta,hk,hx,bB,bz];unfold oT;rw[ha]
def RC(vars:aa aS)(hv:cL vars)(inp:Bool):∀(n:Nat) (t:ax),zh t<n->cY vars inp t=J->No n vars t=I (oT vars t)
 |0,_,h,_=>by omega
 |n+1,t,h,hf=>acy (No n) vars hv inp t hf (λk hk=>RC vars hv inp n k (by have:=ax.dY hk;omega) (oW hf hk))
def ad8(vars:aa aS)(hv:cL vars)(inp:Bool)(t:ax)(hf:cY vars inp t=J):acI vars t=I (oT vars t):=dS (zh t+1) λn hn=>RC vars hv inp n t (by omega) hf
def AL(vars:aa aS)(hv:cL vars)(inp:Bool)(t:ax):Fw vars t inp=I (dN vars inp t):=by
 unfold Fw dN;rw[ax.eta,aad];cases hf:cY vars inp t with
 |false=>rfl
 |true=>
  rw[ad8 vars hv inp t hf,GJ];dsimp only;cases (oT vars t).2.2<;>rfl
def cV.eta(h:cV):cV.mk h.fName h.ag h.ah h.aB=h:=by cases h;rfl
def Ri(l:aa cV)(hl:l.length<=1000000)(v:cV):U5 l v=I (l.any λw=>w.fName.toList==v.fName.toList):=by
 obtain⟨i,e1,hc⟩:=oy (rnd:=Ff) l (λi=>⟨l,v.fName,v.ag,v.ah,v.aB.bt,v.aB.fN,v.aB.aq,(l.length:Int),(i:Int)⟩) (λ_ w=> !(w.fName.toList==v.fName.toList)) (λi hi=>by
  have hw:=fD hi hl;unfold Ff Ur;dsimp only;simp only[zi,zf];grind) (by unfold Ff;simp)
 have e1':FQ ⟨l,v.fName,v.ag,v.ah,v.aB.bt,v.aB.fN,v.aB.aq,(l.length:Int),0⟩=I ⟨l,v.fName,v.ag,v.ah,v.aB.bt,v.aB.fN,v.aB.aq,(l.length:Int),(i:Int)⟩:=e1;unfold U5 ai5;rw[e1'];dsimp only;rcases hc with ⟨rfl,hc⟩|⟨hi,hc⟩
 ·rw[tW λj hj=>by have:=hc j hj;simpa using this];simp
 ·have hc':(l[i]!.fName.toList==v.fName.toList)=J:=by simpa using hc
  rw[A6 hi hc'];unfold Ur;simp only[zf,hc',bB];simp[hi]
def Iw(f:aP)(hl:f.ak.length<=1000000)(n:Nat)(hn:n<=f.ak.length)(v:cV):
  ∃i:Nat,Kb ⟨n,0,f,v⟩=I ⟨n,(i:Int),f,v⟩/\((i=n/\((f.ak.take n).any λw=>w.fName.toList==v.fName.toList)=G)\/(i<n/\(f.ak[i]!.fName.toList==v.fName.toList)=J/\((f.ak.take n).any λw=>w.fName.toList==v.fName.toList)=J)):=by
 have hlen:(f.ak.take n).length=n:=by rw[zR];omega
 have hget:∀i,i<n->(f.ak.take n)[i]! =f.ak[i]! :=λi hi=>by
  rw[getElem!_pos _ i (by omega),getElem!_pos _ i (by omega),List.getElem_take]
 obtain⟨i,e1,hc⟩:=oy (rnd:=Rf) (f.ak.take n) (λi=>⟨(n:Int),(i:Int),f,v⟩) (λ_ w=> !(w.fName.toList==v.fName.toList)) (λi hi=>by
  rw[hlen]at hi;have hw:=fD hi (by omega);rw[hget i hi];unfold Rf;dsimp only;simp only[zi,zf,ax.eta,cV.eta];grind) (by rw[hlen];unfold Rf;simp)
 refine⟨i,e1,?_⟩;rw[hlen]at hc;rcases hc with ⟨rfl,hc⟩|⟨hi,hc⟩
 ·exact .inl ⟨rfl,tW λj hj=>by have:=hc j (by omega);simpa using this⟩
 ·have hc':((f.ak.take n)[i]!.fName.toList==v.fName.toList)=J:=by simpa using hc
  exact .inr ⟨hi,by rw[<-hget i hi];exact hc',A6 (by omega) hc'⟩
def ae2(t:ax):S6 t=tc t:=by
 unfold S6 tc;simp only[zi];grind
def abc(t:ax):Jr t=tc t:=by
 unfold Jr tc;simp only[zi];grind
def iX:∀(l:aa Int),fl l=J↔∀i,i+1<l.length->l[i]! <l[i+1]!
 |[]=>by simp[fl]
 |[a]=>by simp[fl]
 |a::b::l=>by
  unfold fl;rw[zj,iX (b::l),decide_eq_true_iff];constructor
  ·rintro⟨h1,h2⟩ i hi;cases i with
   |zero=>exact h1
   |succ i=>exact h2 i (by simpa using hi)
  ·intro h;exact⟨h 0 (by simp),λi hi=>h (i+1) (by simpa using hi)⟩
def aaC(l:aa Int)(hl:l.length<=1000000):Se l=I (fl l):=by
 obtain⟨i,e1,hc⟩:=oy (rnd:=FP) l (λi=>⟨l,(l.length:Int),(i:Int)⟩) (λi x=>O (i=0)||O (l[i-1]! <x)) (λi hi=>by
  have hw:=fD hi hl;have hw2:i64.wrap ((i:Int)-1)=(i:Int)-1:=aI;have hw3:((i:Int)-1).toNat=i-1:=by omega
  unfold FP;dsimp only;simp only[zi,zf,hw,hw2,hw3];generalize l[i]! =y;generalize l[i-1]! =z;grind) (by unfold FP;simp)
 have e1':G2 ⟨l,(l.length:Int),0⟩=I ⟨l,(l.length:Int),(i:Int)⟩:=e1;unfold Se;rw[e1'];dsimp only;rcases hc with ⟨rfl,hc⟩|⟨hi,hc⟩
 ·have:fl l=J:=(iX l).2 λi hi=>by
   have:=hc (i+1) hi;simpa using this
  rw[this];simp
 ·have hc':i≠0/\¬l[i-1]! <l[i]! :=by
   simp only[Bool.or_eq_false_iff,decide_eq_false_iff_not]at hc;exact hc
  have:fl l=G:=by
   cases hr:fl l with
   |false=>rfl
   |true=>
    have:=(iX l).1 hr (i-1) (by omega);rw[show i-1+1=i by omega]at this;exact dg this hc'.2
  rw[this];have hw2:i64.wrap ((i:Int)-1)=(i:Int)-1:=aI;have hw3:((i:Int)-1).toNat=i-1:=by omega
  simp only[zi,zf,hw2,hw3];revert hc';generalize l[i]! =y;generalize l[i-1]! =z;intro hc';grind
def aeT(l:aa Int)(hl:l.length<=1000000):acW l=I (O (1<=l.length/\l.length<=32)&&O ((0:Int)<=l[0]!)&&fl l):=by
 unfold acW;by_cases h1:1<=l.length/\l.length<=32
 case neg=>
  rw[bT h1];simp only[zi];grind
 rw[bV h1,bT (show ¬(l.length:Int)<1 by omega),bT (show ¬32<(l.length:Int)by omega),bD (⟨zw _,by omega⟩:(0:Int)<=0/\(0:Int)<(l.length:Int))];have hz:l[yM 0]! =l[0]! :=rfl;rw[hz];by_cases h0:(0:Int)<=l[0]!
 case neg=>
  rw[bT h0,bV (show l[0]! <0 by omega)];rfl
 rw[bV h0,bT (show ¬l[0]! <0 by omega)];dsimp only[bz];have hlen:(l.drop 1).length=l.length-1:=yj ..;have hget:∀i,i<l.length-1->(l.drop 1)[i]! =l[i+1]! :=λi hi=>by
  rw[getElem!_pos _ i (by omega),getElem!_pos _ (i+1) (by omega),List.getElem_drop]
  congr 1
  omega
 obtain⟨i,e1,hc⟩:=oy (rnd:=HB) (l.drop 1) (λi=>⟨l,((i+1:Nat):Int)⟩) (λi x=>O (l[i]! <x)) (λi hi=>by
  rw[hlen]at hi;have hw:=fD (show i+1<l.length by omega) hl;have hw2:i64.wrap (((i+1:Nat):Int)-1)=(i:Int):=by rw[aI];omega
  rw[hget i hi];unfold HB;dsimp only;simp only[zi,zf,hw,hw2];generalize l[i+1]! =y;generalize l[i]! =z;grind) (by
   rw[hlen];unfold HB;simp only[zi];rw[ux])
 have e1':FG ⟨l,1⟩=I ⟨l,((i+1:Nat):Int)⟩:=e1;rw[e1'];dsimp only;rw[hlen]at hc;rcases hc with ⟨rfl,hc⟩|⟨hi,hc⟩
 ·have:fl l=J:=(iX l).2 λi hi=>by
   have:=hc i (by omega);rw[hget i (by omega)]at this;simpa using this
  rw[this,bT (show ¬(((l.length-1+1:Nat):Int)<(l.length:Int))by omega)];rfl
 ·rw[hget i hi]at hc;have hc':¬l[i]! <l[i+1]! :=by simpa using hc
  have:fl l=G:=by
   cases hr:fl l with
   |false=>rfl
   |true=>exact dg ((iX l).1 hr i (by omega)) hc'
  rw[this];have hw2:i64.wrap (((i+1:Nat):Int)-1)=(i:Int):=by rw[aI];omega
  simp only[zi,zf,hw2];revert hc';generalize l[i+1]! =y;generalize l[i]! =z;intro hc';grind
def Ab(a b:Bool):(a&&b)=if a=true then b else false:=by cases a<;>rfl
def Pn(f:aP)(s:ay)(last:Bool):Ls f s last=I (de f s last):=by
 have h199:s.aJ.length<=32->Se s.aJ=I (fl s.aJ):=λh=>aaC _ (by omega);have hz:s.aJ[yM 0]! =s.aJ[0]! :=rfl;unfold Ls Sn Wh Xf;rw[ax.eta,ae2,hz];obtain⟨X,hX⟩:∃X,X=de f s last:=⟨_,rfl⟩;rw[<-hX];have hX1:X=J↔de f s last=J:=by rw[hX]
 clear hX;unfold de qV at hX1;generalize fl s.aJ=R at*;generalize tc s.aB=Z at*;generalize f.ai[s.cX.toNat]!.bw=K at*;generalize s.aJ[0]! =B0 at*;generalize Se s.aJ=M at*;have cs:s.bX=0\/s.bX=1\/s.bX=2\/s.bX=3\/s.bX=4\/s.bX=5\/s.bX=6\/s.bX<0\/6<s.bX:=by omega
 rcases cs with h|h|h|h|h|h|h|h|h
 case inr.inr.inr.inr.inr.inr.inr.inl=>rw[bV h];dsimp only[bB];cases X<;>grind
 case inr.inr.inr.inr.inr.inr.inr.inr=>rw[bV h,eH];dsimp only[bB,bz];cases X<;>grind
 all_goals
  rw[h]at hX1 ⊢;cases X<;>cases Z<;>simp only[Int.reduceEq,Int.reduceLT,cR,fS,bB,bz,cD,ek,zi,reduceIte,zj,decide_eq_true_eq,yO,true_iff,false_iff,not_and,and_true,and_false]at hX1 ⊢ <;>grind (splits:=40)
def Ua(a b:Bool):(bif a then some b else some false)=some (a&&b):=by cases a<;>rfl
def QJ(f:aP)(s:ay)(last:Bool)(hb:s.aJ.length<=1000000):NH f s last=I (de f s last):=by
 have h173:=aeT s.aJ hb;have e1:(bif O ((s.aK.length:Int)=0)then I (O ((s.aN.length:Int)=0))else I G)=I (O (s.aK.length=0/\s.aN.length=0)):=by
  have c1:((s.aK.length:Int)=0)↔s.aK.length=0:=by omega
  have c2:((s.aN.length:Int)=0)↔s.aN.length=0:=by omega
  simp only[c1,c2];by_cases a1:s.aK.length=0<;>by_cases a2:s.aN.length=0<;>simp[a1,a2]
 have e2:(bif O (0<=s.cX)then bif O (s.cX<(f.ai.length:Int))then if(0:Int)<=s.cX/\s.cX<(f.ai.length:Int)then I (O (f.ai[s.cX.toNat]!.bw=0))else S else I G else I G)=I (qV f s):=by
  unfold qV;simp only[zi];generalize f.ai[s.cX.toNat]!.bw=K;by_cases a1:0<=s.cX<;>by_cases a2:s.cX<(f.ai.length:Int)<;>simp[a1,a2]
 unfold NH;rw[ax.eta,abc,h173,e1,e2];dsimp only;unfold de;generalize fl s.aJ=R;generalize tc s.aB=Z;generalize qV f s=L1;generalize O (s.aK.length=0/\s.aN.length=0)=F;generalize s.aJ[0]! =B0;have hi:((s.aJ.length:Int)=0)↔s.aJ.length=0:=by omega
 have hi2:((s.aN.length:Int)=0)↔s.aN.length=0:=by omega
 simp only[hi,hi2];have cs:s.bX=0\/s.bX=1\/s.bX=2\/s.bX=3\/s.bX=4\/s.bX=5\/s.bX=6\/(s.bX≠0/\s.bX≠1/\s.bX≠2/\s.bX≠3/\s.bX≠4/\s.bX≠5/\s.bX≠6):=by omega
 rcases cs with h|h|h|h|h|h|h|⟨h0,h1,h2,h3,h4,h5,h6⟩
 case inr.inr.inr.inr.inr.inr.inr=>simp only[h0,h1,h2,h3,h4,h5,h6,fS,bz,ek]
 all_goals
  rw[h];simp only[Int.reduceEq,cR,fS,bB,bz,cD,ek,reduceIte];generalize O (s.aJ.length=0)=b1;generalize O (s.cX=0)=b2;generalize O (s.aN.length=0)=b3;generalize O (1<=s.aJ.length/\s.aJ.length<=32)=b4;generalize O ((0:Int)<=B0)=b5
  try rw[Bool.decide_and]
  generalize O (s.fN=0)=b6
  try generalize O (0<=s.fN)=b7
  try generalize O (s.fN<(f.ak.length:Int))=b8
  simp only[Ua]
  first|done|(congr 1;ac_rfl)
def Pm(s:ay)(hb:s.bX=6->1<=s.aJ.length/\s.aJ.length<=32):L3 s=I (rM s):=by
 unfold L3 rM;by_cases h6:s.bX=6
 ·obtain⟨b1,b2⟩:=hb h6;have hw:i64.wrap ((s.aJ.length:Int)-1)=(s.aJ.length:Int)-1:=aI;have hw2:((s.aJ.length:Int)-1).toNat=s.aJ.length-1:=by omega
  rw[hw,hw2,h6];generalize s.aJ[s.aJ.length-1]! =B;simp only[Int.reduceEq,Int.reduceLT,cR,fS,bB,bz,cD,ek,zi,reduceIte,Ab,decide_eq_true_eq,yO];grind (splits:=30)
 ·rw[bT h6,bL h6];by_cases h2:s.bX=2
  ·rw[h2];simp only[Int.reduceEq,Int.reduceLT,cR,fS,bB,bz,cD,ek,zi,reduceIte,Ab,decide_eq_true_eq,yO];grind (splits:=30)
  ·rw[bT h2,bL h2];simp only[Int.reduceEq,Int.reduceLT,cR,fS,bB,bz,cD,ek,zi,reduceIte,Ab,decide_eq_true_eq,yO];grind (splits:=30)
def iA{f:aP}{s:ay}{last:Bool}(h:de f s last=J):(s.bX=6->1<=s.aJ.length/\s.aJ.length<=32)/\(s.bX≠6->s.aJ.length=0)/\(s.bX≠3->s.bX≠4->s.aK=[])/\(s.bX≠3->s.aN=[])/\(s.bX≠4->0<=s.fN):=by
 unfold de at h;simp only[Ab,decide_eq_true_eq]at h;have e1:s.aK.length=0->s.aK=[]:=wI.1;have e2:s.aN.length=0->s.aN=[]:=wI.1;refine⟨λh6=> ?_,λh6=> ?_,λh3 h4=>e1 ?_,λh3=>e2 ?_,λh4=> ?_⟩<;>grind (splits:=40)
abbrev as6:=aa Int
def d237:Td 1 as6:= .c [] [] (.r 1 1 en (sr 0 3 sn) (λz=>z.2.1) (λx=>((()),(x,()))))
def aru:=(lc (qo 0) ln)
def apj:=(sr 0 3 sn)
def L8(b0:aa Int):af as6:=if b0.length<=1073741824 then I (b0.mergeSort λx y=>O (x<=y))else S
def agn:Prop:=HY wJ 237 1 aru apj d237 (λg=>L8 g.2.1)
def avq:aW->aW:=eY wJ 237 1 aru apj d237 (λg=>L8 g.2.1)
def VY(hv:agn){F:aW}(h:aV wJ F):aV wJ (avq F):=Kz hv ⟨_,func237,by kernel_rfl,by kernel_rfl⟩ (λ_=>by kernel_rfl) h
def ab9:Go.Shelf.Ren:=⟨λ|189=>237|125=>257|257=>281|128=>300|129=>301|294=>317|295=>318|296=>319|297=>320|298=>321|299=>322|216=>323|300=>324|301=>325|328=>342|329=>333|330=>334|331=>343|332=>344|215=>326|343=>354|n=>n,λ|28=>27|3=>3|46=>240|0=>0|51=>322|53=>324|4=>4|183=>316|182=>315|131=>193|5=>5|9=>9|218=>344|222=>348|228=>356|229=>297|n=>n,λ|n=>n⟩
def Srt:Go.Proofs.Lays.n189 wJ ab9 where
 mixed:=by kernel_rfl
 f125:=func257.trans (congrArg I (by kernel_rfl))
 f128:=func300.trans (congrArg I (by kernel_rfl))
 f129:=func301.trans (congrArg I (by kernel_rfl))
 f189:=func237.trans (congrArg I (by kernel_rfl))
 f215:=func326.trans (congrArg I (by kernel_rfl))
 f216:=func323.trans (congrArg I (by kernel_rfl))
 f257:=func281.trans (congrArg I (by kernel_rfl))
 f294:=func317.trans (congrArg I (by kernel_rfl))
 f295:=func318.trans (congrArg I (by kernel_rfl))
 f296:=func319.trans (congrArg I (by kernel_rfl))
 f297:=func320.trans (congrArg I (by kernel_rfl))
 f298:=func321.trans (congrArg I (by kernel_rfl))
 f299:=func322.trans (congrArg I (by kernel_rfl))
 f300:=func324.trans (congrArg I (by kernel_rfl))
 f301:=func325.trans (congrArg I (by kernel_rfl))
 f328:=func342.trans (congrArg I (by kernel_rfl))
 f329:=func333.trans (congrArg I (by kernel_rfl))
 f330:=func334.trans (congrArg I (by kernel_rfl))
 f331:=func343.trans (congrArg I (by kernel_rfl))
 f332:=func344.trans (congrArg I (by kernel_rfl))
 f343:=func354.trans (congrArg I (by kernel_rfl))
 t0:=underlying0
 a0:=Tryz.isAgg0
 z0:=Tryz.sizeOf0
 v0:=Tryz.zeroValue0
 t3:=underlying3
 a3:=Tryz.isAgg3
 z3:=Tryz.sizeOf3
 v3:=Tryz.zeroValue3
 t4:=underlying4
 a4:=Tryz.isAgg4
 z4:=Tryz.sizeOf4
 v4:=Tryz.zeroValue4
 t5:=underlying5
 a5:=Tryz.isAgg5
 z5:=Tryz.sizeOf5
 v5:=Tryz.zeroValue5
 t9:=underlying9
 a9:=Tryz.isAgg9
 z9:=Tryz.sizeOf9
 v9:=Tryz.zeroValue9
 t28:=underlying27
 a28:=Tryz.isAgg27
 z28:=Tryz.sizeOf27
 v28:=Tryz.zeroValue27
 t46:=underlying240
 a46:=Tryz.isAgg240
 z46:=Tryz.sizeOf240
 v46:=Tryz.zeroValue240
 t51:=underlying322
 a51:=Tryz.isAgg322
 z51:=Tryz.sizeOf322
 v51:=Tryz.zeroValue322
 t53:=underlying324
 a53:=Tryz.isAgg324
 z53:=Tryz.sizeOf324
 v53:=Tryz.zeroValue324
 t131:=underlying193
 a131:=Tryz.isAgg193
 z131:=Tryz.sizeOf193
 v131:=Tryz.zeroValue193
 t182:=underlying315
 a182:=Tryz.isAgg315
 z182:=Tryz.sizeOf315
 v182:=Tryz.zeroValue315
 t183:=underlying316
 a183:=Tryz.isAgg316
 z183:=Tryz.sizeOf316
 v183:=Tryz.zeroValue316
 t218:=underlying344
 a218:=Tryz.isAgg344
 z218:=Tryz.sizeOf344
 v218:=Tryz.zeroValue344
 t222:=underlying348
 a222:=Tryz.isAgg348
 z222:=Tryz.sizeOf348
 v222:=Tryz.zeroValue348
 t228:=underlying356
 a228:=Tryz.isAgg356
 z228:=Tryz.sizeOf356
 v228:=Tryz.zeroValue356
 t229:=underlying297
 a229:=Tryz.isAgg297
 z229:=Tryz.sizeOf297
 v229:=Tryz.zeroValue297
def qc{A:Nat->Prop}{w:World}{l:aa Int}{us:aa Value}(h1:us.length=l.length*1)(h2:∀i,i<l.length->bJ A w (uni.cells 3 l[i]!) ((us.drop (i*1)).take 1)):us=l.map (Value.int .i64):=by
 apply List.ext_getElem (by simpa using h1);intro i q1 q2;simp at q2;obtain⟨g1,g2⟩:=h2 i q2;have e:((us.drop (i*1)).take 1)[0]? =I us[i]:=by
  rw[List.getElem?_take_of_lt (by omega),yu];simp[q1]
 have g3:=g2 0 (.lit (.int .i64 l[i]!)) us[i] rfl e;rw[g3.cH,yH,getElem!_pos l i q2]
def adZ{A:Nat->Prop}{w:World}{l:aa Int}:∀i,i<l.length->bJ A w (uni.cells 3 l[i]!) (((l.map (Value.int .i64)).drop (i*1)).take 1):=λi hi=>by
 have e:((l.map (Value.int .i64)).drop (i*1)).take 1=[Value.int .i64 l[i]!]:=by
  rw[xe,xQ (by simpa using hi),List.take_succ_cons,xD,yH,getElem!_pos l i hi]
 rw[e];refine⟨rfl,λj a v q1 q2=> ?_⟩;cases j with
 |zero=>cases q1;cases q2;exact .lit _
 |succ j=>cases q1
def amn(l b:aa Int)(hb:L8 l=I b):Tx wJ 237 [.own 0] [(0, .row 3 l)] 1 (iD wJ 237 1 (d237.pat b)):=by
 unfold L8 at hb;split at hb
 case isFalse=>cases hb
 rename_i hlen;have hbl:b=l.mergeSort λx y=>O (x<=y):=(zD.inj hb).symm;have hln:b.length=l.length:=by rw[hbl,List.length_mergeSort]
 intro ρ;have ho:iD wJ 237 1 (d237.pat b)=⟨.iM [],[(0, .row 3 b)],1⟩:=by kernel_rfl
 show Go.Iv.Fn wJ 237 [(cc.own 0).sub ρ] (aX.res ρ [(0, .row 3 l)]) _;rw[ho,dF];intro w A vs hr hd hn;obtain⟨hr1,hr2⟩:=hr;obtain⟨v,rfl⟩:∃v,vs=[v]:=List.length_eq_one_iff.1 hr1;have hv:v=ρ.v 0:=(hr2 0 _ v rfl rfl).cH;subst hv;generalize hv:ρ.v 0=v at*;have hok:=hd.1 (.row v 3 l) (by show _∈[cG.row (ρ.v 0) 3 l];rw[hv];exact zJ.2 rfl);obtain⟨us,h1,h2,h3⟩:=hok;have hσ:aX.res ρ [(0, .row 3 l)]=[cG.row v 3 l]:=by show [cG.row (ρ.v 0) 3 l]=_;rw[hv]
 have hus:us=l.map (Value.int .i64):=qc h1.1 h3;rw[hσ]at hd hn ⊢;have fin:∀w':World,gE w' v 3 1 b.length (b.map (Value.int .i64))->Kp (bF [cG.row v 3 l]) w w'->∃v_1 av σ',Ending.returned (Value.tuple #[])=Ending.returned v_1/\
   (∃ρ',pT 1 ρ ρ'/\av=(cc.iM (dc:=uni.dc) []).sub ρ'/\List.Perm σ' (aX.res ρ' [(0, .row 3 b)]))/\Tr ⟨w,A,bF [cG.row v 3 l]⟩ (bF [cG.row v 3 l]) [cG.row v 3 l] w σ' w'/\Rel (al ⟨w,A,bF [cG.row v 3 l]⟩ σ') w' av v_1:=λw' hrow hk=>by
  have hbk:bF [cG.row v 3 b]=bF [cG.row v 3 l]:=rfl;have hal:∀x,al ⟨w,A,bF [cG.row v 3 l]⟩ [cG.row v 3 l] x->al ⟨w,A,bF [cG.row v 3 l]⟩ [cG.row v 3 b] x:=λx h=>h;refine⟨_, .iM [],[cG.row v 3 b],rfl,⟨ρ,λi _=>⟨rfl,rfl⟩,by simp only[cc.sub,yK],by show List.Perm _ [cG.row (ρ.v 0) 3 b];rw[hv]⟩,⟨⟨hk,?_,?_,?_⟩,hk,λx _ h=>⟨hal x h,h.2⟩⟩,Rel.iM [] [] rfl (λj a v q=>by cases q)⟩
  ·intro r hr;rw[zJ.1 hr];exact⟨b.map (Value.int .i64),hrow,λi _=>rfl,adZ⟩
  ·rw[hbk];exact hn
  ·intro x hx;exact .inl hx
 obtain⟨h1l,hcase⟩:=h1;rcases hcase with ⟨p,hvp,hl0⟩|⟨gb,cap,cur,hvp,hg,q1,q2,q3,q4⟩
 ·have hl:l=[]:=wI.1 hl0;have hbn:b=[]:=by rw[hbl,hl,List.mergeSort_nil]
  subst hvp;refine(Go.Proofs.Any.slices_Sort_int_none Srt p 0 w).mono λe w' he=> ?_;obtain⟨rfl,rfl⟩:=he;refine fin w' ?_ (Kp.refl _ _);rw[hbn];exact⟨rfl, .inl ⟨p,rfl,rfl⟩⟩
 ·subst hvp;have hgs:gb<w.heap.size:=(x9.1 hg).1;have q4:cur.toList.take (l.length*1)=us:=q4;have q3:cur.size=(cap+1)*1:=q3;rw[xe]at q4;have q1:l.length<=cap+1:=q1;have hbc:b.length<=cap+1:=by rw[hln];exact q1
  have hH:=holds_of_blockI (ss:=l) hg (by rw[q4,hus]);refine(Go.Proofs.Any.slices_Sort_int Srt gb 0 (cap+1) l w hH hgs (by omega)).mono λe w' he=> ?_;obtain⟨rfl,n,os,rfl⟩:=he;rw[<-hbl];obtain⟨k1,k2,k3,k4,k5⟩:=grownBy_sortedI (w:=w) (g:=gb) (n:=n) (os:=os) b.toArray;refine fin _ ?_ ⟨k1,k2,k3,k4,λk hk hX=>k5 k hk (λh=>hX ?_)⟩
  ·refine⟨by simp, .inr ⟨gb,cap,_,by rw[hln];rfl,heap_sortedI _ hg,hbc,q2,by simp[Go.Sort.putCells,q3],?_⟩⟩;rw[xe];exact take_putCellsI cur b (by rw[q3,xe];exact hbc)
  ·cases h;exact bS.2 ⟨_,zJ.2 rfl,rfl⟩
def atm:agn:=λg b hb=>amn g.2.1 b hb
abbrev E35:=aa Int
def d35:Td 0 E35:= .c [] [2] (.t (cE.s 2 [] 3) (.c [] [2] (.r 0 1 (ec 2 (qo 0) en) (sr 0 3 sn) (λz=>z.2.1) (λx=>(((),()),(x,()))))))
def A35:=(lc (ql 3) ln)
def WD(a0:aa Int):af E35:=if a0.length<=1073741824 then I a0 else S
def alv:dB wJ cZ 0 300 35 .no:=bO (l:=[]) func35 (bq (by kernel_rfl)) (by kernel_rfl) aG
def axZ(x:Int)(xs:aa Int):bQ wJ cZ 300 .no 35 [.sl 3 (x::xs)] [] 0 d35.rd=if([]++(x::xs)).length<=1073741824 then I ([]++(x::xs))else S:=by kernel_rfl
def axi(c:Nat):bQ wJ cZ 300 .no 35 [.lit (.slice S 0 c)] [] 0 d35.rd=I []:=by kernel_rfl
def awf(a:Addr)(c:Nat):bQ wJ cZ 300 .no 35 [.lit (.slice (I a) 0 c)] [] 0 d35.rd=I []:=by kernel_rfl
def h35:HL wJ 35 A35 d35 (λg=>WD g.1):=λg r h=>by
 obtain⟨a0,_⟩:=g;have h:WD a0=I r:=h;cases a0 with
 |cons x xs=>exact(kW (out:=λp=>iD wJ 35 0 (d35.pat p)) (p:=r) aQ alv d35.ok (λp=>by kernel_rfl) (jv (by kernel_rfl)) (jg (by kernel_rfl)) ((axZ x xs).trans (by rw[yg];exact h))).2
 |nil=>
  cases h;exact Qu (λc=>(kW (out:=λp=>iD wJ 35 0 (d35.pat p)) (p:=[]) aQ alv d35.ok (λp=>by kernel_rfl) (jv (by kernel_rfl)) (jg (by kernel_rfl)) (axi c)).2) (λa c=>(kW (out:=λp=>iD wJ 35 0 (d35.pat p)) (p:=[]) aQ alv d35.ok (λp=>by kernel_rfl) (jv (by kernel_rfl)) (jg (by kernel_rfl)) (awf a c)).2)
def e35:=eL wJ 35 G A35 d35 (λg=>WD g.1)
def rN{F:aW}(h:aV wJ F):aV wJ (e35 F):=dU (sc:=jR) cy h35 ⟨_,func35,by kernel_rfl,by kernel_rfl⟩ (λ_=>by kernel_rfl) (λ_=>by kernel_rfl) h
structure nh where
 t21:List Int
 (t22 t23:Int)
 (b0 b1 b2:aH)
def N2:Td 0 nh:= .c [] [2,4,7,21,22,23] (.r 0 4 (ec 2 (qp 0 0) (ec 4 (qp 1 0) (ec 7 (qp 2 0) (ec 21 (qo 3) (ec 22 aL (ec 23 aL en)))))) (sb 0 34 (lg 34) (sb 1 34 (lg 34) (sb 2 34 (lg 34) (sr 3 3 sn)))) (λz=>⟨z.q.1,z.1.q.1,z.1.q.2.1,z.2.1,z.t.1,z.t.2.1⟩) (λx=>(((),(),(),(),x.t22,x.t23,()),(x.b0,x.b1,x.b2,x.t21,()))))
def uN(p:nh):af (af nh):=
 bif O (p.t23<p.t22)then if 0<=p.t23/\p.t23<p.t21.length then if 3=3/\p.t23.toNat<p.t21.length then bif bif iw p.t21[p.t23.toNat]! then G else J then I (S)else match wS p.b0 p.t21[p.t23.toNat]! with|S=>S|I r1=>bif bif eG r1.fst then G else J then match kC p.b2 (fX p.t21[p.t23.toNat]!)with|S=>S|I r2=>I (I (nh.mk p.t21 p.t22 (i64.wrap (p.t23+1)) r1.snd p.b1 r2))else I (I (nh.mk p.t21 p.t22 (i64.wrap (p.t23+1)) r1.snd p.b1 p.b2))else S else S else I (S)
def F1:=bG (uN)
abbrev aog:=aH×Int
def d161:Td 0 aog:= .c [] [4,5] (.r 0 1 (ec 4 (qp 0 0) (ec 5 aL en)) (sb 0 34 (lg 34) sn) (λz=>(z.2.1,z.1.2.1)) (λx=>(((),x.2,()),(x.1,()))))
def JF(a0:aH)(a1:aa Int):af aog:=
 match rS a0 with|S=>S|I r3=>bif bif r3 then G else J then I (aH.mk 0 0 0,1)else match WD a1 with|S=>S|I r4=>match L8 r4 with|S=>S|I r5=>match F1 (nh.mk r5 (↑(yG r5):Int) 0 a0 (aH.mk 0 0 0) gX)with|S=>S|I r6=>bif O (r6.t23<r6.t22)then if 0<=r6.t23/\r6.t23<r6.t21.length then if 3=3/\r6.t23.toNat<r6.t21.length then bif bif iw r6.t21[r6.t23.toNat]! then G else J then I (aH.mk 0 0 0,3)else match wS r6.b0 r6.t21[r6.t23.toNat]! with|S=>S|I r7=>bif bif eG r7.fst then G else J then match kC r6.b2 (fX r6.t21[r6.t23.toNat]!)with|S=>S|I r8=>S else S else S else S else match kC r6.b2 r6.b0 with|S=>S|I r9=>I (r9,0)
def apr:=eL wJ 161 G (lc (qg 34) (lc (ql 3) ln)) d161 (λg=>JF g.1 g.2.1)
def aeK:EO apr:=λh=>kL (an:=(noTwo (noTwo (noTwo (noTwo (noTwo (.two (noTwo (N2.lp F1 .no)) .no))))))) (l:=[(bg f161 0,(N2.lp F1 .no))]) func161 (VY atm (jk (pL (pF (iH (HE (tP (jK (rN aQ))))))))) (aC (aO N2) aG) h
def KD{l:aa Int}(h:fl l=J):∀{i j:Nat},i<j->j<l.length->l[i]! <l[j]! :=by
 intro i j hij hj;induction j with
 |zero=>omega
 |succ j ih=>
  have h1:=(iX l).1 h j hj;by_cases hi:i=j
  ·subst hi;exact h1
  ·have:=ih (by omega) (by omega);omega
def JI{l:aa Int}(h:fl l=J):l.mergeSort (λx y=>O (x<=y))=l:=by
 apply List.mergeSort_of_pairwise;rw[List.pairwise_iff_getElem];intro i j hi hj hij;have:=KD h hij hj;rw[getElem!_pos l i hi,getElem!_pos l j hj]at this;simp;omega
def DD:aa Int->Int->Int
 |[],x=>x
 |b::l,x=>if x<=b then b else DD l x
def mN(l:aa Int)(b x:Int):DD (l++[b]) x=if(∃c∈l,x<=c)then DD l x else if x<=b then b else x:=by
 induction l with
 |nil=>simp[DD]
 |cons c l ih=>
  show (if x<=c then c else DD (l++[b]) x)=_;by_cases h:x<=c
  ·rw[bD h,bD ⟨c,zm ..,h⟩];show c=if x<=c then c else DD l x
   rw[bD h]
  ·rw[bL h,ih];show _=if _ then(if x<=c then c else DD l x)else _
   rw[bL h];by_cases k:∃c∈l,x<=c
   ·obtain⟨d,hd,hx⟩:=k;rw[bD ⟨d,hd,hx⟩,bD ⟨d,zK _ hd,hx⟩]
   ·rw[bL k,bL (show ¬∃d∈c::l,x<=d from λ⟨d,hd,hx⟩=>by
     rcases zF.mp hd with rfl|hd
     ·exact h hx
     ·exact k ⟨d,hd,hx⟩)]
def abd{l:aa Int}{x:Int}(h:∃c∈l,x<=c):DD l x∈l:=by
 induction l with
 |nil=>obtain⟨c,hc,_⟩:=h;cases hc
 |cons c l ih=>
  show (if x<=c then c else DD l x)∈_;by_cases k:x<=c
  ·rw[bD k];exact zm ..
  ·rw[bL k];obtain⟨d,hd,hx⟩:=h;rcases zF.mp hd with rfl|hd
   ·exact dg hx k
   ·exact zK _ (ih ⟨d,hd,hx⟩)
def Gp{l:aa Int}{x:Int}(h:¬∃c∈l,x<=c):DD l x=x:=by
 induction l with
 |nil=>rfl
 |cons c l ih=>
  show (if x<=c then c else DD l x)=_;rw[bL (λk=>h ⟨c,zm ..,k⟩),ih (λ⟨d,hd,hx⟩=>h ⟨d,zK _ hd,hx⟩)]
def sE(a:aH)(l:aa Int)(y:Int):Prop:=∃x,bN a x/\y=DD l x
def RG{a:aH}(h:NV a){l:aa Int}(hl:∀b∈l,cj b){y:Int}(k:sE a l y):cj y:=by
 obtain⟨x,hx,rfl⟩:=k;by_cases c:∃c∈l,x<=c
 ·exact hl _ (abd c)
 ·rw[Gp c];exact RP h hx
structure KR (a:aH) (l:List Int) (i:Nat) (s:aH×aH):Prop where
 rest:Ex (λx=>bN a x/\∀b∈l.take i,b<x) s.1
 out:k9 (λy=>∃x,bN a x/\(∃b∈l.take i,x<=b)/\y=DD (l.take i) x) s.2
 v:NV s.2
def KR.step{a:aH}{l:aa Int}{i:Nat}{s:aH×aH}(hi:i<l.length)(hl:∀b∈l,cj b)(h:KR a l i s):
  ∃u r,wS s.1 l[i]! =I (u,r)/\NV u/\(eG u=J->KR a l (i+1) (r,s.2))/\(eG u=G->KR a l (i+1) (r,cq s.2 (dJ l[i]!))):=by
 obtain⟨u,r,e,p1,p2⟩:=tC h.rest.1 l[i]!;have hb:=hl _ (bh hi);have mu:∀x,bN u x↔bN a x/\(∀b∈l.take i,b<x)/\x<=l[i]! :=λx=>
  ⟨λk=>let ⟨k1,k2⟩:=(p1.2 x).mp k;let ⟨k3,k4⟩:=(h.rest.2 x).mp k1;⟨k3,k4,k2⟩,λ⟨k1,k2,k3⟩=>(p1.2 x).mpr ⟨(h.rest.2 x).mpr ⟨k1,k2⟩,k3⟩⟩
 have tk:l.take (i+1)=l.take i++[l[i]!]:=bM hi;have mr:Ex (λx=>bN a x/\∀b∈l.take (i+1),b<x) r:=⟨p2.1,λx=>by
  rw[tk];constructor
  ·intro k;obtain⟨k1,k2⟩:=(p2.2 x).mp k;obtain⟨k3,k4⟩:=(h.rest.2 x).mp k1;refine⟨k3,λb hb=> ?_⟩;rcases zU.mp hb with hb|hb
   ·exact k4 b hb
   ·rw[zJ.mp hb];exact k2
  ·rintro⟨k1,k2⟩;exact(p2.2 x).mpr ⟨(h.rest.2 x).mpr ⟨k1,λb hb=>k2 b (yE _ hb)⟩,k2 _ (yF _ (zJ.mpr rfl))⟩⟩
 have eq:∀y,((∃x,bN a x/\(∃b∈l.take i,x<=b)/\y=DD (l.take i) x)\/(y=l[i]!/\∃x,bN u x))↔(∃x,bN a x/\(∃b∈l.take (i+1),x<=b)/\y=DD (l.take (i+1)) x):=λy=>by
  rw[tk];constructor
  ·rintro(⟨x,k1,⟨b,hb,k2⟩,rfl⟩|⟨rfl,x,hx⟩)
   ·exact⟨x,k1,⟨b,yE _ hb,k2⟩,by rw[mN,bD ⟨b,hb,k2⟩]⟩
   ·obtain⟨k1,k2,k3⟩:=(mu x).mp hx;exact⟨x,k1,⟨_,yF _ (zJ.mpr rfl),k3⟩,by rw[mN,bL (λ⟨b,hb,k⟩=>by have:=k2 b hb;omega),bD k3]⟩
  ·rintro⟨x,k1,⟨b,hb,k2⟩,rfl⟩;by_cases c:∃b∈l.take i,x<=b
   ·exact .inl ⟨x,k1,c,by rw[mN,bD c]⟩
   ·have k3:x<=l[i]! :=by
     rcases zU.mp hb with hb|hb
     ·exact dg ⟨b,hb,k2⟩ c
     ·rw[<-zJ.mp hb];exact k2
    refine .inr ⟨by rw[mN,bL c,bD k3],x,(mu x).mpr ⟨k1,λb hb=> ?_,k3⟩⟩;rcases Int.lt_or_le b x with q|q
    ·exact q
    ·exact dg ⟨b,hb,q⟩ c
 obtain⟨t1,t2⟩:=lB h.out h.v hb (Ex.rep (P:=bN u) ⟨p1.1,λx=>Iff.rfl⟩) p1.1;refine⟨u,r,e,p1.1,λk=>⟨mr,(t1 k).congr eq,h.v⟩,λk=>⟨mr,(t2 k).congr eq,dZ h.v (o7 hb)⟩⟩
def amo{l:aa Int}(h:l.length<=1073741824):WD l=I l:=by unfold WD;rw[bD h]
def VA{a:aH}(h:NV a){l:aa Int}(hr:fl l=J)(hn:l.length<=1000000)(hl:∀b∈l,cj b):∃c,JF a l=I (c,0)/\k9 (sE a l) c:=by
 unfold JF;rw[dX,dD h];simp only[bB,bz];rw[amo (by omega)];simp only;rw[show L8 l=I l from by unfold L8;rw[ga,JI hr]];simp only;obtain⟨⟨r,o⟩,e1,hI⟩:=cO (rnd:=uN) l.length (λi (s:aH×aH)=>nh.mk l l.length (i:Nat) s.1 (aH.mk 0 0 0) s.2) (KR a l)
  (λi s hi hI=>by
   obtain⟨u,r,e,vu,q1,q2⟩:=hI.step hi hl;have hb:=hl _ (bh hi);have hbb:iw l[i]! =J:=by rw[jj];exact bV hb
   unfold uN;simp only;rw[mg,bB,ga,zf,bD ⟨trivial,hi⟩,hbb];simp only[bB,bz];rw[e];simp only;rw[fD hi hn];cases c:eG u with
   |true=>exact⟨(r,s.2),rfl,q1 c⟩
   |false=>
    simp only[bB,bz];rw[gS hI.v (.inr (show NN (fX l[i]!)from NN.one hb.1 hb.2))];exact⟨(r,cq s.2 (dJ l[i]!)),rfl,q2 c⟩)
  (λs hI=>by
   unfold uN;simp only;rw[eH];rfl) (b:=(a,cw)) ⟨⟨h,λx=>⟨λk=>⟨k,λb hb=>by simp at hb⟩,λk=>k.1⟩⟩, .none λx ⟨_,_,⟨b,hb,_⟩,_⟩=>by simp at hb, .inl rfl⟩
 have e1:bG uN (nh.mk l l.length 0 a (aH.mk 0 0 0) gX)=I (nh.mk l l.length (l.length:Nat) r (aH.mk 0 0 0) o):=e1;rw[show F1=bG uN from rfl,e1];simp only;rw[eH,bz,gS hI.v hI.rest.1];refine⟨_,rfl,(hI.out.join hI.rest.rep hI.v hI.rest.1).congr λy=> ?_⟩;rw[zI];constructor
 ·rintro(⟨x,k1,_,k3⟩|⟨k1,k2⟩)
  ·exact⟨x,k1,k3⟩
  ·exact⟨y,k1,(Gp λ⟨b,hb,k⟩=>by have:=k2 b hb;omega).symm⟩
 ·rintro⟨x,k1,k2⟩;by_cases c:∃b∈l,x<=b
  ·exact .inl ⟨x,k1,c,k2⟩
  ·right;rw[Gp c]at k2;subst k2;exact⟨k1,λb hb=>by
    rcases Int.lt_or_le b y with q|q
    ·exact q
    ·exact dg ⟨b,hb,q⟩ c⟩
structure jy where
 t1:List Int
 t9:Int
 t10:Bool
 t11:Int
 (b0 b1 b2:aH)
def Mv:Td 0 jy:= .c [] [1,4,7,8,9,10,11] (.r 0 3 (ec 1 (ql 3) (ec 4 (qp 0 0) (ec 7 (qp 1 0) (ec 8 (qp 2 0) (ec 9 aL (ec 10 qb (ec 11 aL en))))))) (sb 0 34 (lg 34) (sb 1 34 (lg 34) (sb 2 34 (lg 34) sn))) (λz=>⟨z.1.1,z.1.q.1,z.1.q.2.1,z.1.q.t.1,z.2.1,z.t.1,z.t.2.1⟩) (λx=>((x.t1,(),(),(),x.t9,x.t10,x.t11,()),(x.b0,x.b1,x.b2,()))))
def Gq(p:jy):af (af jy):=
 bif O (p.t11<p.t1.length)then if 0<=p.t11/\p.t11<p.t1.length then bif O (((p.t1,(),(),(),p.t9,p.t10,p.t11,()),p.b0,p.b1,p.b2,()).snd.snd.snd.fst.ag<=((p.t1,(),(),(),p.t9,p.t10,p.t11,()),p.b0,p.b1,p.b2,()).fst.fst[((p.t1,(),(),(),p.t9,p.t10,p.t11,()),p.b0,p.b1,p.b2,()).fst.snd.snd.snd.snd.snd.snd.fst.toNat]!)then bif bif p.t10 then G else J then if 0<=p.t11/\p.t11<p.t1.length then I (I (jy.mk p.t1 p.t1[p.t11.toNat]! J (i64.wrap (p.t11+1)) p.b0 p.b1 p.b2))else S else if 0<=p.t11/\p.t11<p.t1.length then bif O (((p.t1,(),(),(),p.t9,p.t10,p.t11,()),p.b0,p.b1,p.b2,()).fst.fst[((p.t1,(),(),(),p.t9,p.t10,p.t11,()),p.b0,p.b1,p.b2,()).fst.snd.snd.snd.snd.snd.snd.fst.toNat]! <((p.t1,(),(),(),p.t9,p.t10,p.t11,()),p.b0,p.b1,p.b2,()).fst.snd.snd.snd.snd.fst)then if 0<=p.t11/\p.t11<p.t1.length then I (I (jy.mk p.t1 p.t1[p.t11.toNat]! J (i64.wrap (p.t11+1)) p.b0 p.b1 p.b2))else S else I (I (jy.mk p.t1 p.t9 p.t10 (i64.wrap (p.t11+1)) p.b0 p.b1 p.b2))else S else I (I (jy.mk p.t1 p.t9 p.t10 (i64.wrap (p.t11+1)) p.b0 p.b1 p.b2))else S else I (S)
def Bh:=bG (Gq)
structure kV where
 t1:List Int
 (b0 b1 b2:aH)
def LR:Td 0 kV:= .c [] [1,4,7,8] (.r 0 3 (ec 1 (ql 3) (ec 4 (qp 0 0) (ec 7 (qp 1 0) (ec 8 (qp 2 0) en)))) (sb 0 34 (lg 34) (sb 1 34 (lg 34) (sb 2 34 (lg 34) sn))) (λz=>⟨z.1.1,z.2.1,z.t.1,z.t.2.1⟩) (λx=>((x.t1,(),(),(),()),(x.b0,x.b1,x.b2,()))))
def qP(p:kV):af (af kV):=
 bif bif kg p.b2 then G else J then match Bh (jy.mk p.t1 0 G 0 p.b0 p.b1 p.b2)with|S=>S|I r1=>bif O (r1.t11<r1.t1.length)then if 0<=r1.t11/\r1.t11<r1.t1.length then bif O (((r1.t1,(),(),(),r1.t9,r1.t10,r1.t11,()),r1.b0,r1.b1,r1.b2,()).snd.snd.snd.fst.ag<=((r1.t1,(),(),(),r1.t9,r1.t10,r1.t11,()),r1.b0,r1.b1,r1.b2,()).fst.fst[((r1.t1,(),(),(),r1.t9,r1.t10,r1.t11,()),r1.b0,r1.b1,r1.b2,()).fst.snd.snd.snd.snd.snd.snd.fst.toNat]!)then bif bif r1.t10 then G else J then if 0<=r1.t11/\r1.t11<r1.t1.length then S else S else if 0<=r1.t11/\r1.t11<r1.t1.length then bif O (((r1.t1,(),(),(),r1.t9,r1.t10,r1.t11,()),r1.b0,r1.b1,r1.b2,()).fst.fst[((r1.t1,(),(),(),r1.t9,r1.t10,r1.t11,()),r1.b0,r1.b1,r1.b2,()).fst.snd.snd.snd.snd.snd.snd.fst.toNat]! <((r1.t1,(),(),(),r1.t9,r1.t10,r1.t11,()),r1.b0,r1.b1,r1.b2,()).fst.snd.snd.snd.snd.fst)then if 0<=r1.t11/\r1.t11<r1.t1.length then S else S else S else S else S else S else bif bif r1.t10 then G else J then match jH r1.b1 r1.b2 with|S=>S|I r2=>I (S)else match jH r1.b1 (aH.mk r1.t9 r1.t9 0)with|S=>S|I r3=>match TA r1.b2 r1.t9 with|S=>S|I r4=>I (I (kV.mk r1.t1 r1.b0 r3 r4))else I (S)
def XL:An:=(noTwo (noTwo (.two (noTwo (Mv.lp Bh .no)) .no)))
def FA:=bG (qP)
structure n6 where
 t1:List Int
 t6:Int
 (b0 b1:aH)
def NR:Td 0 n6:= .c [] [1,2,4,6] (.r 0 2 (ec 1 (ql 3) (ec 2 (qp 0 0) (ec 4 (qp 1 0) (ec 6 aL en)))) (sb 0 34 (lg 34) (sb 1 34 (lg 34) sn)) (λz=>⟨z.1.1,z.1.t.2.1,z.2.1,z.t.1⟩) (λx=>((x.t1,(),(),x.t6,()),(x.b0,x.b1,()))))
def um(p:n6):af (af n6):=
 bif O (p.t6<p.t1.length)then if 0<=p.t6/\p.t6<p.t1.length then bif bif mC p.t1[p.t6.toNat]! then G else J then I (S)else I (I (n6.mk p.t1 (i64.wrap (p.t6+1)) p.b0 p.b1))else S else I (S)
def HI:=bG (um)
abbrev att:=aH×Int
def d172:Td 0 att:= .c [] [4,5] (.r 0 1 (ec 4 (qp 0 0) (ec 5 aL en)) (sb 0 34 (lg 34) sn) (λz=>(z.2.1,z.1.2.1)) (λx=>(((),x.2,()),(x.1,()))))
def Kc(a0:aH)(a1:aa Int):af att:=
 match Tz a0 with|S=>S|I r5=>bif bif r5 then G else J then I (aH.mk 0 0 0,1)else match HI (n6.mk a1 0 a0 (aH.mk 0 0 0))with|S=>S|I r6=>bif O (r6.t6<r6.t1.length)then if 0<=r6.t6/\r6.t6<r6.t1.length then bif bif mC r6.t1[r6.t6.toNat]! then G else J then I (aH.mk 0 0 0,3)else S else S else match FA (kV.mk r6.t1 r6.b1 oD r6.b0)with|S=>S|I r7=>bif bif kg r7.b2 then G else J then match Bh (jy.mk r7.t1 0 G 0 r7.b0 r7.b1 r7.b2)with|S=>S|I r8=>bif O (r8.t11<r8.t1.length)then if 0<=r8.t11/\r8.t11<r8.t1.length then bif O (((r8.t1,(),(),(),r8.t9,r8.t10,r8.t11,()),r8.b0,r8.b1,r8.b2,()).snd.snd.snd.fst.ag<=((r8.t1,(),(),(),r8.t9,r8.t10,r8.t11,()),r8.b0,r8.b1,r8.b2,()).fst.fst[((r8.t1,(),(),(),r8.t9,r8.t10,r8.t11,()),r8.b0,r8.b1,r8.b2,()).fst.snd.snd.snd.snd.snd.snd.fst.toNat]!)then bif bif r8.t10 then G else J then if 0<=r8.t11/\r8.t11<r8.t1.length then S else S else if 0<=r8.t11/\r8.t11<r8.t1.length then bif O (((r8.t1,(),(),(),r8.t9,r8.t10,r8.t11,()),r8.b0,r8.b1,r8.b2,()).fst.fst[((r8.t1,(),(),(),r8.t9,r8.t10,r8.t11,()),r8.b0,r8.b1,r8.b2,()).fst.snd.snd.snd.snd.snd.snd.fst.toNat]! <((r8.t1,(),(),(),r8.t9,r8.t10,r8.t11,()),r8.b0,r8.b1,r8.b2,()).fst.snd.snd.snd.snd.fst)then if 0<=r8.t11/\r8.t11<r8.t1.length then S else S else S else S else S else S else bif bif r8.t10 then G else J then match jH r8.b1 r8.b2 with|S=>S|I r9=>I (r9,0)else match jH r8.b1 (aH.mk r8.t9 r8.t9 0)with|S=>S|I r10=>match TA r8.b2 r8.t9 with|S=>S|I r11=>S else I (r7.b1,0)
def aoP:=eL wJ 172 G (lc (qg 34) (lc (ql 3) ln)) d172 (λg=>Kc g.1 g.2.1)
def Yj:EO aoP:=λh=>kL (an:=(noTwo (noTwo (.two (noTwo (NR.lp HI .no)) (noTwo (.two (LR.lp FA XL) .no)))))) (l:=[(bg f172 0,(NR.lp HI .no)),(bg f172 1,(LR.lp FA XL)),(bg f172 2,(Mv.lp Bh .no))]) func172 (p7 (pH (jQ (kI (rA (NS aQ)))))) (aC (aO NR) (aC (aO LR) (aC (aO Mv) aG))) h
def OU{l:aa Int}(hr:fl l=J)(hn:l.length<=1000000)(b0 b1 c:aH):∃best found,Bh (jy.mk l 0 G 0 b0 b1 c)=I (jy.mk l best found l.length b0 b1 c)/\
  ((found=G/\∀j,j<l.length->l[j]! <c.ag)\/(found=J/\∃j,j<l.length/\best=l[j]!/\c.ag<=l[j]!/\∀k,k<j->l[k]! <c.ag)):=by
 obtain⟨⟨best,found⟩,e1,hI⟩:=cO (rnd:=Gq) l.length (λi (s:Int×Bool)=>jy.mk l s.1 s.2 (i:Nat) b0 b1 c)
  (λi s=>(s.2=G/\∀j,j<i->l[j]! <c.ag)\/(s.2=J/\∃j,j<i/\s.1=l[j]!/\c.ag<=l[j]!/\∀k,k<j->l[k]! <c.ag))
  (λi s hi hI=>by
   have hci:(0:Int)<=(i:Int)/\(i:Int)<(l.length:Int):=by omega
   unfold Gq;simp only;rw[bV hci.2,bB,bD hci,zf,fD hi hn];by_cases h1:c.ag<=l[i]!
   ·rw[bV h1,bB];rcases hI with ⟨h2,h3⟩|⟨h2,j,h3,h4,h5,h6⟩
    ·rw[h2];simp only[bB,bz];rw[bD hci];exact⟨(l[i]!,J),rfl, .inr ⟨rfl,i,by omega,rfl,h1,h3⟩⟩
    ·rw[h2];simp only[bB,bz];have hlt:l[j]! <l[i]! :=KD hr h3 hi;rw[bD hci,bT (show ¬l[i]! <s.1 by omega),bz];exact⟨(s.1,J),rfl, .inr ⟨rfl,j,by omega,h4,h5,h6⟩⟩
   ·rw[bT h1,bz];refine⟨s,rfl,?_⟩;rcases hI with ⟨h2,h3⟩|⟨h2,j,h3,h4⟩
    ·refine .inl ⟨h2,λj hj=> ?_⟩;rcases y4.mp hj with k|rfl
     ·exact h3 j k
     ·omega
    ·exact .inr ⟨h2,j,by omega,h4⟩)
  (λs hI=>by
   unfold Gq;simp only;rw[eH];rfl) (b:=((0:Int),G)) (.inl ⟨rfl,λj hj=>dg hj (yC _)⟩)
 exact⟨best,found,e1,hI⟩
def R5{l:aa Int}{j:Nat}{x:Int}(hj:j<l.length)(h1:∀k,k<j->l[k]! <x)(h2:x<=l[j]!):DD l x=l[j]! :=by
 induction l generalizing j with
 |nil=>exact dg hj (yC _)
 |cons b l ih=>
  cases j with
  |zero=>exact bD h2
  |succ j=>
   have h0:b<x:=h1 0 (by omega);show (if x<=b then b else DD l x)=_;rw[ux];exact ih (j:=j) (by simpa using hj) (λk hk=>h1 (k+1) (by omega)) h2
def get_of_mem{l:aa Int}{b:Int}(h:b∈l):∃j,j<l.length/\l[j]! =b:=by
 obtain⟨j,hj,rfl⟩:=xR h;exact⟨j,hj,getElem!_pos l j hj⟩
def Wm{a:aH}(h:NV a){l:aa Int}(hr:fl l=J)(hn:l.length<=1000000)(hl:∀b∈l,cj b):∃c,Kc a l=I (c,0)/\k9 (sE a l) c:=by
 unfold Kc;rw[fq,dD h];simp only[bB,bz];have e0:bG um (n6.mk l 0 a (aH.mk 0 0 0))=I (n6.mk l (l.length:Nat) a (aH.mk 0 0 0)):=Iz (rnd:=um) (λi=>n6.mk l (i:Nat) a (aH.mk 0 0 0)) l.length (λi hi=>by
  unfold um;simp only;rw[mg,bB,ga,zf,Dj,bV (hl _ (bh hi)),fD hi hn];rfl) (λr=>by
  unfold um;simp only;rw[eH];intro h;cases h)
 rw[show HI=bG um from rfl,e0];simp only;rw[eH,bz];obtain⟨z,e1,⟨o,r,T,rfl,hr1,ho,vo⟩,hs⟩:=j9 (rnd:=qP) (λp=>∃o r T,p=kV.mk l (aH.mk 0 0 0) o r/\Ex (λx=>bN a x/\T<x) r/\k9 (λy=>∃x,bN a x/\x<=T/\y=DD l x) o/\NV o)
  (λp=>if kg p.b2=J then 0 else(1099511627777-p.b2.ag).toNat) (λp p' ⟨o,r,T,hp,h1,h2,h3⟩ hq=>by
  subst hp;have hq:qP (kV.mk l (aH.mk 0 0 0) o r)=I (I p'):=hq;unfold qP at hq;simp only at hq;rcases h1.1 with rfl|vr
  ·rw[kS]at hq;cases hq
  ·rw[gp vr]at hq;simp only[bB,bz]at hq;obtain⟨best,found,e2,h4⟩:=OU hr hn (aH.mk 0 0 0) o r;rw[e2]at hq;simp only at hq;rw[eH,bz]at hq;rcases h4 with ⟨rfl,h4⟩|⟨rfl,j,hj,rfl,h5,h6⟩
   ·simp only[bB,bz]at hq;rw[fJ h3 h1.1]at hq;cases hq
   ·simp only[bB,bz]at hq;have hb:=hl _ (bh hj);obtain⟨u,f1,s1⟩:=vI h1.1 l[j]!;rw[fJ h3 (.inr (show NN (aH.mk l[j]! l[j]! 0)from NN.one hb.1 hb.2)),f1]at hq;simp only[zD.injEq]at hq;subst hq;have lo1:=(h1.2 r.ag).mp ⟨zw _,vr.le,⟨0,by omega⟩⟩;refine⟨⟨_,_,l[j]!,rfl,⟨s1.1,λx=> ?_⟩,?_,dZ h3 (o7 hb)⟩,?_⟩
    ·constructor
     ·intro k;obtain⟨k1,k2⟩:=(s1.2 x).mp k;exact⟨((h1.2 x).mp k1).1,k2⟩
     ·rintro⟨k1,k2⟩;exact(s1.2 x).mpr ⟨(h1.2 x).mpr ⟨k1,by omega⟩,k2⟩
    ·refine(h2.join (HA l[j]!) h3 (o7 hb)).congr λy=> ?_;have mid:∀x,bN a x->T<x->x<=l[j]!->DD l x=l[j]! :=λx k1 k2 k3=>by
      have k4:=(h1.2 x).mpr ⟨k1,k2⟩;have:=k4.1;exact R5 hj (λk hk=>by have:=h6 k hk;omega) k3
     constructor
     ·rintro(⟨x,k1,k2,k3⟩|rfl)
      ·exact⟨x,k1,by omega,k3⟩
      ·exact⟨r.ag,lo1.1,h5,(mid _ lo1.1 lo1.2 h5).symm⟩
     ·rintro⟨x,k1,k2,rfl⟩;by_cases c:x<=T
      ·exact .inl ⟨x,k1,c,rfl⟩
      ·exact .inr (mid x k1 (by omega) k2)
    ·show (if kg u=J then 0 else(1099511627777-u.ag).toNat)<(if kg r=J then 0 else(1099511627777-r.ag).toNat);rw[bL (show ¬kg r=J by rw[gp vr];decide)];have:=vr.le;have:=vr.hi;rcases s1.1 with rfl|vu
     ·rw[bD kS];omega
     ·rw[bL (show ¬kg u=J by rw[gp vu];decide)];have:=(s1.2 u.ag).mp ⟨zw _,vu.le,⟨0,by omega⟩⟩;have:=this.2;omega) ⟨cw,a,a.ag-1,rfl,⟨h,λx=>⟨λk=>⟨k,by have:=k.1;omega⟩,λk=>k.1⟩⟩, .none λy ⟨x,k1,k2,_⟩=>by have:=k1.1;omega, .inl rfl⟩
 rw[show FA=bG qP from rfl,show kV.mk l (aH.mk 0 0 0) oD a=kV.mk l (aH.mk 0 0 0) cw a from rfl,e1];simp only;rcases hr1.1 with rfl|vr
 ·rw[kS];refine⟨o,rfl,ho.congr λy=>⟨λ⟨x,k1,_,k3⟩=>⟨x,k1,k3⟩,λ⟨x,k1,k3⟩=>⟨x,k1,?_,k3⟩⟩⟩;rcases Int.lt_or_le T x with q|q
  ·exact dg ((hr1.2 x).mpr ⟨k1,q⟩) wW
  ·exact q
 ·rw[gp vr];simp only[bB,bz];obtain⟨best,found,e2,h4⟩:=OU hr hn (aH.mk 0 0 0) o r;rw[e2];simp only;rw[eH,bz];rcases h4 with ⟨rfl,h4⟩|⟨rfl,j,hj,rfl,h5,h6⟩
  ·simp only[bB,bz];rw[fJ vo hr1.1];refine⟨_,rfl,(ho.join hr1.rep vo hr1.1).congr λy=> ?_⟩;have big:∀x,bN a x->T<x->DD l x=x:=λx k1 k2=>Gp λ⟨b,hb,k3⟩=>by
    obtain⟨j,hj,rfl⟩:=get_of_mem hb;have:=((hr1.2 x).mpr ⟨k1,k2⟩).1;have:=h4 j hj;omega
   constructor
   ·rintro(⟨x,k1,_,k3⟩|⟨k1,k2⟩)
    ·exact⟨x,k1,k3⟩
    ·exact⟨y,k1,(big y k1 k2).symm⟩
   ·rintro⟨x,k1,k3⟩;by_cases c:x<=T
    ·exact .inl ⟨x,k1,c,k3⟩
    ·right;rw[big x k1 (by omega)]at k3;subst k3;exact⟨k1,by omega⟩
  ·exfalso;have hb:=hl _ (bh hj);obtain⟨u,f1,s1⟩:=vI hr1.1 l[j]!;refine hs _ (show qP _=I (I (kV.mk l (aH.mk 0 0 0) (cq o (aH.mk l[j]! l[j]! 0)) u))from ?_);unfold qP;simp only;rw[gp vr];simp only[bB,bz];rw[e2];simp only;rw[eH,bz];simp only[bB,bz];rw[fJ vo (.inr (show NN (aH.mk l[j]! l[j]! 0)from NN.one hb.1 hb.2)),f1]
def KM{a:aH}(h:NV a){l:aa Int}(hr:fl l=J)(hn:l.length<=1000000)(hl:∀b∈l,cj b):∃c,JF a l=I (c,0)/\Kc a l=I (c,0)/\k9 (sE a l) c/\NV c:=by
 obtain⟨c,e1,r1⟩:=VA h hr hn hl;obtain⟨d,e2,r2⟩:=Wm h hr hn hl;rw[<-r1.uniq r2]at e2;exact⟨c,e1,e2,r1,r1.valid λy hy=>RG h hl hy⟩
def cW.ne{P:Int->Prop}{c:aH}(h:cW P c):c≠cw:=λe=>by
 have h1:=h.all _ h.lo;rw[e]at h1;have h2:(1:Int)<=0:=xG h1.1 h1.2.1;omega
def NV.nn{c:aH}(h:NV c)(k:c≠cw):NN c:=h.elim (λe=>dg e k) id
def k9.nn{P:Int->Prop}{c:aH}(h:k9 P c)(v:NV c){x:Int}(hx:P x):NN c:=by
 rcases h with ⟨_,h⟩|h
 ·exact dg hx (h x)
 ·exact v.nn h.ne
def ME:NN (aH.mk 0 0 0):=NN.one (x:=0) (by omega) (by omega)
def DO{a b:Bool}(h:(a||b)=true):NN (gU a b):=(sJ a b).nn (by cases a<;>cases b<;>first|(cases h;done)|(intro e;cases e))
def DV(op:Int){a:aH}(h:NN a):NN (oQ op a).1:=by
 unfold oQ;split
 ·exact ME
 rw[bL h.ne];split
 ·exact DO (zero_or h)
 ·exact acR h
def aam{op:Int}{a b:aH}(ha:NN a)(hb:NN b):∃r,nj op a b=I r/\NN r.1:=by
 by_cases ho:binop op
 ·have r1:=ha.pW;have r2:=ha.vU;have r3:=hb.pW;have r4:=hb.vU;by_cases hs:cnt a*cnt b<=4096
  ·rw[mz ho ha hb hs];rcases Ar ho ha hb (by omega)with ⟨h1,c,e,h2⟩|⟨_,e⟩
   ·exact⟨_,e,h2.valid h1⟩
   ·exact⟨_,e,ME⟩
  have hbin:=ho;obtain⟨o1,o2⟩:=ho;rcases (show op=8\/op=9\/op=10\/op=11\/op=12\/op=21\/op=22\/(13<=op/\op<=20)by omega)with rfl|rfl|rfl|rfl|rfl|rfl|rfl|h
  ·rcases iY (op:=8) (.inl rfl) ha hb (λQ h=>I4 ha hb h) (λh=>(pS ha hb).mpr ⟨fe h (.inl rfl) (.inl rfl),fe h (.inr (.inr rfl)) (.inr (.inr rfl))⟩)with ⟨_,e,hv⟩|⟨_,e⟩
   ·exact⟨_,e,hv⟩
   ·exact⟨_,e,ME⟩
  ·rcases iY (op:=9) (.inr (.inl rfl)) ha hb (λQ h=>KW ha hb h) (λh=>(pQ ha hb).mpr ⟨fe h (.inl rfl) (.inr (.inr rfl)),fe h (.inr (.inr rfl)) (.inl rfl)⟩)with ⟨_,e,hv⟩|⟨_,e⟩
   ·exact⟨_,e,hv⟩
   ·exact⟨_,e,ME⟩
  ·rcases iY (op:=10) (.inr (.inr rfl)) ha hb (λQ h=>JB ha hb h) (λh=>(je ha hb).mpr ⟨fe h (.inl rfl) (.inl rfl),fe h (.inl rfl) (.inr (.inr rfl)),fe h (.inr (.inr rfl)) (.inl rfl),fe h (.inr (.inr rfl)) (.inr (.inr rfl))⟩)with ⟨_,e,hv⟩|⟨_,e⟩
   ·exact⟨_,e,hv⟩
   ·exact⟨_,e,ME⟩
  all_goals rw[rX hbin ha hb hs];unfold RQ
  ·obtain⟨a1,a2⟩:=r1;obtain⟨a3,a4⟩:=r2;simp only[Int.reduceEq,fS,cR,bz,bB];have hm:((max a.ag.natAbs a.ah.natAbs:Nat):Int)<=1099511627776:=by omega
   generalize max a.ag.natAbs a.ah.natAbs=m at*;rw[kM ⟨by omega,by omega⟩ ⟨by omega,by omega⟩ (by omega),kM ⟨by omega,by omega⟩ ⟨by omega,by omega⟩ (by omega)];cases (O (0<=a.ag)&&O (0<=b.ag))with
   |true=>exact⟨(iQ 0 (m:Int) 1,0),rfl,kN (lo:=0) (hi:=(m:Int)) (st:=1) (by omega) (by omega) (by omega) (by omega)⟩
   |false=>exact⟨(iQ (-(m:Int)) (m:Int) 1,0),rfl,kN (lo:= -(m:Int)) (hi:=(m:Int)) (st:=1) (by omega) (by omega) (by omega) (by omega)⟩
  ·obtain⟨b1,b2⟩:=r3;obtain⟨b3,b4⟩:=r4;simp only[Int.reduceEq,fS,cR,bz,bB];have hp:(if b.ag<0 then b.ag+1 else 0)<=0/\ -1099511627776<=(if b.ag<0 then b.ag+1 else 0):=by split<;>omega
   have hq:0<=(if 0<b.ah then b.ah-1 else 0)/\(if 0<b.ah then b.ah-1 else 0)<=1099511627776:=by split<;>omega
   generalize (if b.ag<0 then b.ag+1 else 0)=p at*;generalize (if 0<b.ah then b.ah-1 else 0)=q at*;rw[kM ⟨by omega,by omega⟩ ⟨by omega,by omega⟩ (by omega)];exact⟨(iQ p q 1,0),rfl,kN (lo:=p) (hi:=q) (st:=1) (by omega) (by omega) (by omega) (by omega)⟩
  ·simp only[Int.reduceEq,fS,cR,bz,bB];obtain⟨l',e2,h2⟩:=F7 (dZ (.inr ha) (.inr hb)) (min a.ah b.ah);rw[e2];refine⟨_,rfl,h2.rep.nn h2.1 (x:=(cq a b).ag) ⟨?_,?_⟩⟩
   ·rw[fK ha hb];have:=(ki ha hb).le;exact⟨by omega,this,by rw[Int.sub_self];exact xg _⟩
   ·rw[fK ha hb];show min a.ag b.ag<=_;have:=ha.le;have:=hb.le;omega
  ·simp only[Int.reduceEq,fS,cR,bz,bB];obtain⟨l',e2,h2⟩:=vI (dZ (.inr ha) (.inr hb)) (max a.ag b.ag-1);rw[e2];refine⟨_,rfl,h2.rep.nn h2.1 (x:=(cq a b).ah) ⟨?_,?_⟩⟩
   ·rw[fK ha hb];have:=(ki ha hb).le;exact⟨this,by omega,(ki ha hb).dvd⟩
   ·rw[fK ha hb];show _<max a.ah b.ah;have:=ha.le;have:=hb.le;omega
  ·rw[Rg h ha hb];refine⟨(gU (sZ op a b).1 (sZ op a b).2,0),?_,DO (Nj h ha hb)⟩;rcases ig h with rfl|rfl|rfl|rfl|rfl|rfl|rfl|rfl<;>rfl
 ·refine⟨(aH.mk 0 0 0,1),?_,ME⟩;unfold nj;rw[fq,fq,dD (.inr ha),dD (.inr hb),show DC op=wV op from rfl,jl,bT ho];rfl
def nG(op:Int)(a b:aH):aH:=match nj op a b with
 |none=>cw
 |some r=>r.1
def mH(op:Int){a b:aH}(ha:NN a)(hb:NN b):∃c,sF op a b=I (nG op a b,c)/\nj op a b=I (nG op a b,c)/\NN (nG op a b):=by
 obtain⟨r,e1,e2,_⟩:=Ip op (.inr ha) (.inr hb);obtain⟨r',e3,h⟩:=aam (op:=op) ha hb;have:r'=r:=by rw[e2]at e3;cases e3;rfl
 subst this;unfold nG;rw[e2];exact⟨r'.2,e1,rfl,h⟩
def hO(a:aH)(lo hi:Int):aH:=match X5 a lo hi with
 |none=>cw
 |some r=>r.1
def gD{a:aH}(ha:NN a)(lo hi:Int):∃c,m81 a lo hi=I (hO a lo hi,c)/\X5 a lo hi=I (hO a lo hi,c)/\NN (hO a lo hi)/\(cj lo->cj hi->lo<=hi->k9 (qS a lo hi) (hO a lo hi)):=by
 rcases M4 (.inr ha) lo hi with ⟨c,e1,e2,h,v,_⟩|⟨e1,e2,hn⟩
 ·unfold hO;rw[e2];have:=ha.le;exact⟨0,e1,rfl,h.nn v (x:=max lo (min a.ag hi)) ⟨a.ag,⟨by omega,this,by rw[Int.sub_self];exact xg _⟩,rfl⟩,λ_ _ _=>h⟩
 ·unfold hO;rw[e2];exact⟨3,e1,rfl,ME,λh1 h2 h3=>dg ⟨h1,h2,h3⟩ hn⟩
def pI(a:aH)(l:aa Int):aH:=match Kc a l with
 |none=>cw
 |some r=>r.1
def rK{a:aH}(ha:NN a){l:aa Int}(hr:fl l=J)(hn:l.length<=1000000)(hl:∀b∈l,cj b):JF a l=I (pI a l,0)/\Kc a l=I (pI a l,0)/\NN (pI a l)/\k9 (sE a l) (pI a l):=by
 obtain⟨c,e1,e2,h,v⟩:=KM (.inr ha) hr hn hl;unfold pI;rw[e2];have:=ha.le;exact⟨e1,rfl,h.nn v (x:=DD l a.ag) ⟨a.ag,⟨by omega,this,by rw[Int.sub_self];exact xg _⟩,rfl⟩,h⟩
def jb{a b:aH}(h:NN a)(k:NN b):NN (cq a b):=by rw[fK h k];exact ki h k
structure BW where
 t0:List aS
 t1:Int
 t5:List aS
 t6:Int
def alC(p:BW):af (af BW):=
 bif O (p.t6<p.t0.length)then if 0<=p.t6/\p.t6<p.t0.length then bif O (p.t0[p.t6.toNat]!.bw=p.t1)then if 0<=p.t6/\p.t6<p.t0.length then if(p.t5++[p.t0[p.t6.toNat]!]).length<=1073741824 then I (I (BW.mk p.t0 p.t1 (p.t5++[p.t0[p.t6.toNat]!]) (i64.wrap (p.t6+1))))else S else S else I (I (BW.mk p.t0 p.t1 p.t5 (i64.wrap (p.t6+1))))else S else I (S)
def alq:=bG (alC)
abbrev awp:=aa aS
def axo(a0:aa aS)(a1:Int):af awp:=
 match alq (BW.mk a0 a1 [] (0))with|S=>S|I r1=>bif O (r1.t6<r1.t0.length)then if 0<=r1.t6/\r1.t6<r1.t0.length then bif O (r1.t0[r1.t6.toNat]!.bw=r1.t1)then if 0<=r1.t6/\r1.t6<r1.t0.length then if(r1.t5++[r1.t0[r1.t6.toNat]!]).length<=1073741824 then S else S else S else S else S else I (r1.t5)
structure Rx where
 t6:List aS
 (t8 t9:Int)
def asT(p:Rx):af (af Rx):=
 bif O (p.t9<p.t6.length)then if 0<=p.t9/\p.t9<p.t6.length then if 131=131/\p.t9.toNat<p.t6.length then if 0<=p.t9/\p.t9<p.t6.length then if 131=131/\p.t9.toNat<p.t6.length then bif O (4096<i64.wrap (p.t8*i64.wrap (i64.wrap (p.t6[p.t9.toNat]!.ah-p.t6[p.t9.toNat]!.ag)+1)))then I (S)else I (I (Rx.mk p.t6 (i64.wrap (p.t8*i64.wrap (i64.wrap (p.t6[p.t9.toNat]!.ah-p.t6[p.t9.toNat]!.ag)+1))) (i64.wrap (p.t9+1))))else S else S else S else S else I (S)
def aqA:=bG (asT)
structure Qh where
 t6:List aS
 t7:Int
def aso(p:Qh):af (af Qh):=
 bif O (p.t7<p.t6.length)then if 0<=p.t7/\p.t7<p.t6.length then if 131=131/\p.t7.toNat<p.t6.length then if 0<=p.t7/\p.t7<p.t6.length then if 131=131/\p.t7.toNat<p.t6.length then bif O (p.t6[p.t7.toNat]!.ah<p.t6[p.t7.toNat]!.ag)then I (S)else if 0<=p.t7/\p.t7<p.t6.length then if 131=131/\p.t7.toNat<p.t6.length then bif O (p.t6[p.t7.toNat]!.ag< -1048576)then I (S)else if 0<=p.t7/\p.t7<p.t6.length then if 131=131/\p.t7.toNat<p.t6.length then bif O (1048576<p.t6[p.t7.toNat]!.ah)then I (S)else I (I (Qh.mk p.t6 (i64.wrap (p.t7+1))))else S else S else S else S else S else S else S else S else I (S)
def arE:=bG (aso)
abbrev E89:=Int×Int
def m89(a0:aa aS)(a1:Int):af E89:=
 match bif bif O (a1=0)then G else J then bif bif O (a1=1)then G else J then bif bif O (a1=2)then G else J then I (bif O (a1=3)then G else J)else I G else I G else I G with|S=>S|I r1=>bif r1 then I (0,1)else match axo a0 a1 with|S=>S|I r2=>match arE (Qh.mk r2 0)with|S=>S|I r3=>bif O (r3.t7<r3.t6.length)then if 0<=r3.t7/\r3.t7<r3.t6.length then if 131=131/\r3.t7.toNat<r3.t6.length then if 0<=r3.t7/\r3.t7<r3.t6.length then if 131=131/\r3.t7.toNat<r3.t6.length then bif O (r3.t6[r3.t7.toNat]!.ah<r3.t6[r3.t7.toNat]!.ag)then I (0,3)else if 0<=r3.t7/\r3.t7<r3.t6.length then if 131=131/\r3.t7.toNat<r3.t6.length then bif O (r3.t6[r3.t7.toNat]!.ag< -1048576)then I (0,3)else if 0<=r3.t7/\r3.t7<r3.t6.length then if 131=131/\r3.t7.toNat<r3.t6.length then bif O (1048576<r3.t6[r3.t7.toNat]!.ah)then I (0,3)else S else S else S else S else S else S else S else S else S else match aqA (Rx.mk r3.t6 1 0)with|S=>S|I r4=>bif O (r4.t9<r4.t6.length)then if 0<=r4.t9/\r4.t9<r4.t6.length then if 131=131/\r4.t9.toNat<r4.t6.length then if 0<=r4.t9/\r4.t9<r4.t6.length then if 131=131/\r4.t9.toNat<r4.t6.length then bif O (4096<i64.wrap (r4.t8*i64.wrap (i64.wrap (r4.t6[r4.t9.toNat]!.ah-r4.t6[r4.t9.toNat]!.ag)+1)))then I (0,4)else S else S else S else S else S else I (r4.t8,0)
abbrev E24:=Bool
def m24(a0:aP)(a1:Int)(a2:Int)(a3:Int):af E24:=
 match match Qf a0 (10) (80)with|S=>S|I r1=>bif bif r1 then G else J then I (J)else match m78 a0 with|S=>S|I r2=>I (bif O (r2=0)then G else J)with|S=>S|I r3=>bif r3 then I (G)else match m89 a0.ai (1)with|S=>S|I r4=>match m89 a0.ai (2)with|S=>S|I r5=>match m89 a0.ai (3)with|S=>S|I r6=>match r90 a0.bK with|S=>S|I r7=>match bif O (r4.fst<=a1)then bif O (r5.fst<=a2)then bif O (r6.fst<=a3)then I (O (r7.fst<=400))else I (G)else I (G)else I (G)with|S=>S|I r8=>I (r8)
structure ayM where
 t0:List aS
 (t6 t7 t8:Int)
 t9:List Int
 t10:Bool
 t11:Int
 b0:kZ
def axv:aW:=cZ
abbrev akd:=Int
def d248:Td 0 akd:= .c [] [2] (.r 0 0 (ec 2 aL en) sn (λz=>z.1.1) (λx=>((x,()),(()))))
def anY:=(lc qb ln)
def ahZ:An:= .no
def Si(a0:Bool):akd:=
 bif a0 then 1 else 0
def ayA(a0:Bool):bQ wJ (axv) 300 (ahZ) 248 (anY.c (a0,())) [] 0 d248.rd=I (Si a0):=by
 refine Eq.trans (b:=(
  bif a0 then I (1)else I (0):af akd)) (by kernel_rfl) ?_
 simp only[Si,ct,cF]
def aqr:=eL wJ 248 G anY d248 (λg=>I (Si g.1))
def aaL:EO aqr:=λh=>kL (an:=ahZ) func248 aQ aG h (c:=λg=>ayA g.1)
structure avy where
 t0:List Int
 (t1 t5:Int)
 t6:Bool
 t7:Int
structure azP where
 t1:List Int
 t2:List ay
 t9:Int
 b0:aP
 (b1 b2:m6)
structure axt where
 t1:List Int
 t9:Int
 b0:aP
 b1:ay
 (b2 b3:m6)
structure azi where
 (t1 t5:List Int)
 t6:Int
 b0:aP
structure Jm where
 (t0 t1:List Int)
 t5:Int
def Uv:Td 0 Jm:= .c [] [0,1,5] (.r 0 0 (ec 0 (ql 3) (ec 1 (ql 3) (ec 5 aL en))) sn (λz=>⟨z.1.1,z.1.2.1,z.1.t.1⟩) (λx=>((x.t0,x.t1,x.t5,()),(()))))
def Qq(p:Jm):af (af Jm):=
 bif O (p.t5<p.t0.length)then if 0<=p.t5/\p.t5<p.t0.length then if 0<=p.t5/\p.t5<p.t1.length then bif bif O (((p.t0,p.t1,p.t5,()),()).fst.fst[((p.t0,p.t1,p.t5,()),()).fst.snd.snd.fst.toNat]! =((p.t0,p.t1,p.t5,()),()).fst.snd.fst[((p.t0,p.t1,p.t5,()),()).fst.snd.snd.fst.toNat]!)then G else J then I (S)else I (I (Jm.mk p.t0 p.t1 (i64.wrap (p.t5+1))))else S else S else I (S)
def Qd:=bG (Qq)
abbrev E98:=Bool
def d98:Td 0 E98:= .c [] [4] (.r 0 0 (ec 4 qb en) sn (λz=>z.1.1) (λx=>((x,()),(()))))
def m98(a0:aa Int)(a1:aa Int):af E98:=
 bif bif O ((a0.length:Int)=(a1.length:Int))then G else J then I G else match Qd (Jm.mk a0 a1 0)with|S=>S|I r1=>bif O (r1.t5<r1.t0.length)then if 0<=r1.t5/\r1.t5<r1.t0.length then if 0<=r1.t5/\r1.t5<r1.t1.length then bif bif O (((r1.t0,r1.t1,r1.t5,()),()).fst.fst[((r1.t0,r1.t1,r1.t5,()),()).fst.snd.snd.fst.toNat]! =((r1.t0,r1.t1,r1.t5,()),()).fst.snd.fst[((r1.t0,r1.t1,r1.t5,()),()).fst.snd.snd.fst.toNat]!)then G else J then I G else S else S else S else I J
def e98:=eL wJ 98 G (lc (ql 3) (lc (ql 3) ln)) d98 (λg=>m98 g.1 g.2.1)
def aix:EO e98:=λh=>kL (an:=(noTwo (noTwo (.two (noTwo (Uv.lp Qd .no)) .no)))) (l:=[(bg f98 0,(Uv.lp Qd .no))]) func98 aQ (aC (aO Uv) aG) h
def Wz:EP e98:=λh=>kP h
def F31:aW:=(e98 cZ)
def amF:aV wJ F31:=(aix aQ)
abbrev E31:=Bool
def d31:Td 0 E31:= .c [] [4] (.r 0 0 (ec 4 qb en) sn (λz=>z.1.1) (λx=>((x,()),(()))))
def A31:=(lc (qg 47) (lc (qg 47) ln))
def apU:An:=(noTwo (.two (.rb [98] 4) .no))
def awb:∀f∈([98]:aa Nat),bC (F31) f:=(aC (Wz bH) aG)
def axw:dB wJ (F31) 0 300 31 (apU):=bO (l:=[(.skip,(.rb [98] 4))]) func31 (bq (by kernel_rfl)) (by kernel_rfl) (aC awb aG)
def m31(a0:aZ)(a1:aZ):af E31:=
 match bif O (a0.aD=a1.aD)then match m98 a0.bk a1.bk with|S=>S|I r1=>I (r1)else I (G)with|S=>S|I r2=>I (r2)
def c31(a0:aZ)(a1:aZ):bQ wJ (F31) 300 (apU) 31 (A31.c (a0,a1,())) [] 0 d31.rd=m31 a0 a1:=by kernel_rfl
def wK(b:Bool):Int:=if b=J then 1 else 0
def arL(a b:Int):Int:=if b=0 then 0 else if a.tmod b≠0/\O (a<0)≠O (b<0)then a.tdiv b-1 else a.tdiv b
def awv(a b:Int):Int:=if b=0 then 0 else a-b*arL a b
def J5(o a b:Int):Int:=
 if o=8 then a+b else if o=9 then a-b else if o=10 then a*b else if o=11 then arL a b else if o=12 then awv a b
 else if o=13 then wK (O (a=b))else if o=14 then wK (O (a≠b))else if o=15 then wK (O (a<b))else if o=16 then wK (O (a<=b))
 else if o=17 then wK (O (b<a))else if o=18 then wK (O (b<=a))else if o=19 then wK (O (a≠0/\b≠0))else if o=20 then wK (O (a≠0\/b≠0))
 else if o=21 then(if a<b then a else b)else(if b<a then a else b)
def VIn(vars:aa aS)(vals:aa Int):Prop:=vals.length=vars.length/\∀i,i<vars.length->vars[i]!.ag<=vals[i]!/\vals[i]!<=vars[i]!.ah
def Ot{vars:aa aS}{inp:Bool}{t:ax}(hf:cY vars inp t=J):(0<=(bY t.bt).1/\(bY t.bt).1<=t.aq.length/\(t.aq.length:Int)<=(bY t.bt).2)/\(t.bt=24->0<=t.fN/\t.fN<vars.length):=by
 rw[j5]at hf;have h:=(zj _ _▸hf).1;unfold vR at h;rw[zj,decide_eq_true_iff]at h;refine⟨h.1,λh24=> ?_⟩;have h2:=h.2;simp only[h24,Int.reduceEq,reduceIte,zj,decide_eq_true_eq]at h2;exact h2.1
def Ka(o:Int)(h:0<=(bY o).1):((o=0\/o=24)/\bY o=(0,0))\/((o=6\/o=7)/\bY o=(1,1))\/((8<=o/\o<=22)/\bY o=(2,2))\/(o=23/\bY o=(3,3))\/(o=25/\bY o=(2,33)):=by
 unfold bY at h ⊢;split
 ·exact .inl ⟨‹_›,rfl⟩
 rename_i h1;rw[bL h1]at h;split
 ·exact .inr (.inl ⟨‹_›,rfl⟩)
 rename_i h2;rw[bL h2]at h;split
 ·exact .inr (.inr (.inl ⟨‹_›,rfl⟩))
 rename_i h3;rw[bL h3]at h;split
 ·exact .inr (.inr (.inr (.inl ⟨‹_›,rfl⟩)))
 rename_i h4;rw[bL h4]at h;split
 ·exact .inr (.inr (.inr (.inr ⟨‹_›,rfl⟩)))
 ·rename_i h5;rw[bL h5]at h;simp at h
def DW(M:aP->aa ay->Bool->af kD)(f:aP)(l A B:aa ay)(top:Bool)(n i a b:Int)(ha:M f A G=I a)(hb:M f B G=I b):
  ur M ⟨l,top,l,n,i,[A,B],2,0,f⟩=I ⟨l,top,l,n,i,[A,B],2,if a≠0 then 0 else if b≠0 then 1 else 2,f⟩:=by
 have w0:i64.wrap 1=1:=rfl;have w1:i64.wrap 2=2:=rfl;have r1:rj M ⟨l,top,l,n,i,[A,B],2,0,f⟩=if a≠0 then I S else I (I ⟨l,top,l,n,i,[A,B],2,1,f⟩):=by
  unfold rj;by_cases h:a=0<;>simp[ha,h,w0]
 have r2:rj M ⟨l,top,l,n,i,[A,B],2,1,f⟩=if b≠0 then I S else I (I ⟨l,top,l,n,i,[A,B],2,2,f⟩):=by
  unfold rj;by_cases h:b=0<;>simp[hb,h,w1]
 have r3:rj M ⟨l,top,l,n,i,[A,B],2,2,f⟩=I S:=by
  unfold rj;simp
 unfold ur;by_cases h1:a≠0
 ·rw[bD h1]at r1 ⊢;exact cu λr=>by rw[r1];simp
 ·rw[bL h1]at r1 ⊢;rw[bP r1];by_cases h2:b≠0
  ·rw[bD h2]at r2 ⊢;exact cu λr=>by rw[r2];simp
  ·rw[bL h2]at r2 ⊢;rw[bP r2];exact cu λr=>by rw[r3];simp
def PG(n i:Nat)(hn:n<=1000000):O ((i:Int)=i64.wrap ((n:Int)-1))=O (i+1=n):=by
 rw[aI];apply decide_eq_decide.2;omega
def Uf(M:aP->aa ay->Bool->af kD)(f:aP)(hv:cL f.ai)(l:aa ay)(hl:l.length<=1000000)(top:Bool)(hM:∀s∈l,M f s.aK G=I (bW f G s.aK)/\M f s.aN G=I (bW f G s.aN))(i:Nat)(hi:i<l.length):
  (TB f top l.length i l[i]! =0->u7 M ⟨l,top,l,(l.length:Int),(i:Int),f⟩=I (I ⟨l,top,l,(l.length:Int),((i+1:Nat):Int),f⟩))/\(TB f top l.length i l[i]!≠0->u7 M ⟨l,top,l,(l.length:Int),(i:Int),f⟩=I S):=by
 have hw:=fD hi hl;obtain⟨k1,k2⟩:=hM _ (bh hi);have hin:=DW M f l l[i]!.aK l[i]!.aN top (l.length:Int) (i:Int) _ _ k1 k2;have hlen:(([l[i]!.aK,l[i]!.aN]:aa (aa ay)).length:Int)=2:=rfl;have hi1:(i:Int)<(l.length:Int):=by omega
 have hi0:(0:Int)<=(i:Int):=by omega
 unfold u7 TB lz;dsimp only;simp only[zf,ax.eta,ay.eta,Pn,PG l.length i hl,Ad f.ai hv,hlen,hin,hw,hi1,hi0,cR,bB,dG,cD];have e1':(bif top then some (bif de f l[i]! (O (i+1=l.length))then false else true)else some (bif de f l[i]! false then false else true))=some (bif de f l[i]! (top&&O (i+1=l.length))then false else true):=by cases top<;>rfl
 rw[e1'];have hS:de f l[i]! (top&&O (i+1=l.length))=J->L3 l[i]! =I (rM l[i]!):=λh=>Pm _ (iA h).1;revert hS;generalize de f l[i]! (top&&O (i+1=l.length))=zc;intro hS;generalize l[i]!.aK=A at k1 hin ⊢;generalize l[i]!.aN=B at k2 hin ⊢;cases zc with
 |false=>simp
 |true=>
  rw[hS rfl];generalize rM l[i]! =N;cases N with
  |false=>simp
  |true=>
   generalize dN f.ai G l[i]!.aB=T;generalize bW f G A=a at*;generalize bW f G B=b at*;by_cases hT:T=0
   ·by_cases ha:a=0
    ·by_cases hb:b=0
     ·simp[hT,ha,hb,hw]
     ·simp[hT,ha,hb,k2]
    ·simp[hT,ha,k1]
   ·simp[hT]
def Zo(M:aP->aa ay->Bool->af kD)(f:aP)(hv:cL f.ai)(l:aa ay)(hl:l.length<=1000000)(top:Bool)(hM:∀s∈l,M f s.aK G=I (bW f G s.aK)/\M f s.aN G=I (bW f G s.aN)):aah M f l top=I (bW f top l):=by
 obtain⟨i,e1,hc⟩:=qJ (rnd:=u7 M) l (λi=>⟨l,top,l,(l.length:Int),(i:Int),f⟩) (TB f top l.length) (λi hi=>Uf M f hv l hl top hM i hi) (by unfold u7;simp);have e1':Fa M ⟨l,top,l,(l.length:Int),0,f⟩=I ⟨l,top,l,(l.length:Int),(i:Int),f⟩:=e1;rw[ow f top l.length l 0 (by omega)]at hc;unfold aah;rw[e1'];dsimp only;rcases hc with ⟨rfl,hc⟩|⟨hi,h0,hc⟩
 ·rw[hc];simp
 ·rw[hc];obtain⟨k1,k2⟩:=hM _ (bh hi);have hin:=DW M f l l[i]!.aK l[i]!.aN top (l.length:Int) (i:Int) _ _ k1 k2;have hlen:(([l[i]!.aK,l[i]!.aN]:aa (aa ay)).length:Int)=2:=rfl;have hi1:(i:Int)<(l.length:Int):=by omega
  have hi0:(0:Int)<=(i:Int):=by omega
  revert h0;unfold TB lz;simp only[zf,ax.eta,ay.eta,Pn,PG l.length i hl,Ad f.ai hv,hlen,hin,hi1,hi0,cR,bB,dG,cD];have e1':(bif top then some (bif de f l[i]! (O (i+1=l.length))then false else true)else some (bif de f l[i]! false then false else true))=some (bif de f l[i]! (top&&O (i+1=l.length))then false else true):=by cases top<;>rfl
  rw[e1'];have hS:de f l[i]! (top&&O (i+1=l.length))=J->L3 l[i]! =I (rM l[i]!):=λh=>Pm _ (iA h).1;revert hS;generalize de f l[i]! (top&&O (i+1=l.length))=zc;intro hS;generalize l[i]!.aK=A at k1 hin ⊢;generalize l[i]!.aN=B at k2 hin ⊢;cases zc with
  |false=>simp
  |true=>
   rw[hS rfl];generalize rM l[i]! =N;cases N with
   |false=>simp
   |true=>
    generalize dN f.ai G l[i]!.aB=T;generalize bW f G A=a at*;generalize bW f G B=b at*;by_cases hT:T=0
    ·by_cases ha:a=0
     ·by_cases hb:b=0
      ·simp[hT,ha,hb]
      ·simp[hT,ha,hb,k2]
     ·simp[hT,ha,k1]
    ·simp[hT]
def HD(f:aP)(hv:cL f.ai):∀(n:Nat) (l:aa ay) (top:Bool),zh l<n->eW l<=1000->L2 n f l top=I (bW f top l)
 |0,_,_,h,_=>by omega
 |n+1,l,top,h,h2=>Zo (L2 n) f hv l (by have:=ji l;omega) top (λs hs=>⟨HD f hv n _ _ (by have:=bf hs;omega) (by have:=fG hs;omega),HD f hv n _ _ (by have:=bf hs;omega) (by have:=fG hs;omega)⟩)
def aeS(f:aP)(hv:cL f.ai)(l:aa ay)(top:Bool)(h:eW l<=1000):Zx f l top=I (bW f top l):=dS (zh l+1) λn hn=>HD f hv n l top (by omega) h
def QD{f:aP}{s:ay}{last:Bool}(h:de f s last=J)(c:Int)(hc:c=if s.bX=2 then 67108864 else 10000):
  ((bif O (s.aR<0)then I J else bif O (c<s.aR)then I J else bif O (s.fN<0)then I J else bif O (s.bX=4)then I (O (4096<s.fN))else I G):af Bool)=I (!(O (0<=s.aR/\s.aR<=c)&&(if s.bX=4 then O (0<=s.fN/\s.fN<=4096)else J))):=by
 obtain⟨b1,b2,b3,b4,b5⟩:=iA h;have hd:∀(p:Prop) [Decidable p],(!decide p)=O (¬p):=λp _=>by by_cases hp:p<;>simp[hp]
 by_cases h1:s.aR<0
 ·simp[h1,show ¬0<=s.aR by omega]
 by_cases h2:c<s.aR
 ·simp[h1,h2,show ¬s.aR<=c by omega]
 by_cases h3:s.fN<0
 ·have h4:s.bX=4:=by
   by_cases h4:s.bX=4
   ·exact h4
   ·have:=b5 h4;omega
  simp[h1,h2,h3,h4,show ¬0<=s.fN by omega]
 by_cases h4:s.bX=4
 ·simp[h1,h2,h3,h4,show 0<=s.aR by omega,show s.aR<=c by omega,show 0<=s.fN by omega];by_cases h5:4096<s.fN
  ·simp[h5]
  ·simp[h5];omega
 ·simp[h1,h2,h3,h4,show 0<=s.aR by omega,show s.aR<=c by omega]
def QU{f:aP}{s:ay}{last:Bool}(h:de f s last=J):
  ((bif O (0<(s.aJ.length:Int))then if(0:Int)<=i64.wrap ((s.aJ.length:Int)-(1:Int))/\i64.wrap ((s.aJ.length:Int)-(1:Int))<(s.aJ.length:Int)then I (O (67108864<s.aJ[(i64.wrap ((s.aJ.length:Int)-1)).toNat]!))else S else I G):af Bool)=I (!(if s.bX=6 then O (s.aJ[s.aJ.length-1]!<=67108864)else J)):=by
 obtain⟨b1,b2,b3,b4,b5⟩:=iA h;by_cases h6:s.bX=6
 ·obtain⟨b1,b2⟩:=b1 h6;have hw:i64.wrap ((s.aJ.length:Int)-1)=(s.aJ.length:Int)-1:=aI;have hw2:((s.aJ.length:Int)-1).toNat=s.aJ.length-1:=by omega
  rw[hw,hw2,mg,bB,bD ⟨by omega,by omega⟩,bD h6];generalize s.aJ[s.aJ.length-1]! =B;by_cases h:67108864<B
  ·simp[h]
  ·simp[h];omega
 ·rw[bT (by have:=b2 h6;omega),bL h6];rfl
def abC(M:aP->aa ay->Bool->af mG)(f:aP)(hv:cL f.ai)(l:aa ay)(hl:l.length<=1000000)(hB:∀s∈l,s.aJ.length<=1000000)(top:Bool)(hM:∀s∈l,M f s.aK G=I (bW f G s.aK)/\M f s.aN G=I (bW f G s.aN))(i:Nat)(hi:i<l.length):
  (TB f top l.length i l[i]! =0->uR M ⟨l,top,(i:Int),f⟩=I (I ⟨l,top,((i+1:Nat):Int),f⟩))/\(TB f top l.length i l[i]!≠0->uR M ⟨l,top,(i:Int),f⟩=I S):=by
 have hw:=fD hi hl;obtain⟨k1,k2⟩:=hM _ (bh hi);have hb:=hB _ (bh hi);have hi1:(i:Int)<(l.length:Int):=by omega
 have hi0:(0:Int)<=(i:Int):=by omega
 unfold uR TB lz;dsimp only;simp only[zf,ax.eta,ay.eta,QJ f l[i]! _ hb,PG l.length i hl,AL f.ai hv,hw,hi1,hi0,cR,bB,dG,cD];have e1':(bif top then some (bif de f l[i]! (O (i+1=l.length))then false else true)else some (bif de f l[i]! false then false else true))=some (bif de f l[i]! (top&&O (i+1=l.length))then false else true):=by cases top<;>rfl
 rw[e1'];cases hS:de f l[i]! (top&&O (i+1=l.length))with
 |false=>simp
 |true=>
  have hn:=QD hS;rw[QU hS];unfold rM;generalize (if l[i]!.bX=6 then O (l[i]!.aJ[l[i]!.aJ.length-1]!<=67108864)else J)=B6;by_cases h2:l[i]!.bX=2
  ·rw[bD h2]at hn ⊢;rw[bV h2,hn 67108864 rfl];generalize (O (0<=l[i]!.aR/\l[i]!.aR<=67108864)&&(if l[i]!.bX=4 then O (0<=l[i]!.fN/\l[i]!.fN<=4096)else J))=N;generalize dN f.ai G l[i]!.aB=T;generalize l[i]!.aK=A at k1 ⊢;generalize l[i]!.aN=B at k2 ⊢;generalize bW f G A=a at*;generalize bW f G B=b at*;cases N with
   |false=>simp
   |true=>
    cases B6 with
    |false=>simp
    |true=>
     by_cases hT:T=0
     ·by_cases ha:a=0
      ·by_cases hb:b=0
       ·simp[hT,ha,hb,k1,k2]
       ·simp[hT,ha,hb,k1,k2]
      ·simp[hT,ha,k1]
     ·simp[hT]
  ·rw[bL h2]at hn ⊢;rw[bT h2,hn 10000 rfl];generalize (O (0<=l[i]!.aR/\l[i]!.aR<=10000)&&(if l[i]!.bX=4 then O (0<=l[i]!.fN/\l[i]!.fN<=4096)else J))=N;generalize dN f.ai G l[i]!.aB=T;generalize l[i]!.aK=A at k1 ⊢;generalize l[i]!.aN=B at k2 ⊢;generalize bW f G A=a at*;generalize bW f G B=b at*;cases N with
   |false=>simp
   |true=>
    cases B6 with
    |false=>simp
    |true=>
     by_cases hT:T=0
     ·by_cases ha:a=0
      ·by_cases hb:b=0
       ·simp[hT,ha,hb,k1,k2]
       ·simp[hT,ha,hb,k1,k2]
      ·simp[hT,ha,k1]
     ·simp[hT]
def aes(M:aP->aa ay->Bool->af mG)(f:aP)(hv:cL f.ai)(l:aa ay)(hl:l.length<=1000000)(hB:∀s∈l,s.aJ.length<=1000000)(top:Bool)(hM:∀s∈l,M f s.aK G=I (bW f G s.aK)/\M f s.aN G=I (bW f G s.aN)):acv M f l top=I (bW f top l):=by
 obtain⟨i,e1,hc⟩:=qJ (rnd:=uR M) l (λi=>⟨l,top,(i:Int),f⟩) (TB f top l.length) (λi hi=>abC M f hv l hl hB top hM i hi) (by unfold uR;simp);have e1':FY M ⟨l,top,0,f⟩=I ⟨l,top,(i:Int),f⟩:=e1;rw[ow f top l.length l 0 (by omega)]at hc;unfold acv;rw[e1'];dsimp only;rcases hc with ⟨rfl,hc⟩|⟨hi,h0,hc⟩
 ·rw[hc];simp
 ·rw[hc];obtain⟨k1,k2⟩:=hM _ (bh hi);have hb:=hB _ (bh hi);have hi1:(i:Int)<(l.length:Int):=by omega
  have hi0:(0:Int)<=(i:Int):=by omega
  revert h0;unfold TB lz;simp only[zf,ax.eta,ay.eta,QJ f l[i]! _ hb,PG l.length i hl,AL f.ai hv,hi1,hi0,cR,bB,dG,cD];have e1':(bif top then some (bif de f l[i]! (O (i+1=l.length))then false else true)else some (bif de f l[i]! false then false else true))=some (bif de f l[i]! (top&&O (i+1=l.length))then false else true):=by cases top<;>rfl
  rw[e1'];cases hS:de f l[i]! (top&&O (i+1=l.length))with
  |false=>simp
  |true=>
   have hn:=QD hS;rw[QU hS];unfold rM;generalize (if l[i]!.bX=6 then O (l[i]!.aJ[l[i]!.aJ.length-1]!<=67108864)else J)=B6;by_cases h2:l[i]!.bX=2
   ·rw[bD h2]at hn ⊢;rw[bV h2,hn 67108864 rfl];generalize (O (0<=l[i]!.aR/\l[i]!.aR<=67108864)&&(if l[i]!.bX=4 then O (0<=l[i]!.fN/\l[i]!.fN<=4096)else J))=N;generalize dN f.ai G l[i]!.aB=T;generalize l[i]!.aK=A at k1 ⊢;generalize l[i]!.aN=B at k2 ⊢;generalize bW f G A=a at*;generalize bW f G B=b at*;cases N with
    |false=>simp
    |true=>
     cases B6 with
     |false=>simp
     |true=>
      by_cases hT:T=0
      ·by_cases ha:a=0
       ·by_cases hb:b=0
        ·simp[hT,ha,hb,k1,k2]
        ·simp[hT,ha,hb,k1,k2]
       ·simp[hT,ha,k1]
      ·simp[hT]
   ·rw[bL h2]at hn ⊢;rw[bT h2,hn 10000 rfl];generalize (O (0<=l[i]!.aR/\l[i]!.aR<=10000)&&(if l[i]!.bX=4 then O (0<=l[i]!.fN/\l[i]!.fN<=4096)else J))=N;generalize dN f.ai G l[i]!.aB=T;generalize l[i]!.aK=A at k1 ⊢;generalize l[i]!.aN=B at k2 ⊢;generalize bW f G A=a at*;generalize bW f G B=b at*;cases N with
    |false=>simp
    |true=>
     cases B6 with
     |false=>simp
     |true=>
      by_cases hT:T=0
      ·by_cases ha:a=0
       ·by_cases hb:b=0
        ·simp[hT,ha,hb,k1,k2]
        ·simp[hT,ha,hb,k1,k2]
       ·simp[hT,ha,k1]
      ·simp[hT]
def Hg(f:aP)(hv:cL f.ai):∀(n:Nat) (l:aa ay) (top:Bool),zh l<n->eW l<=1000->N9 n f l top=I (bW f top l)
 |0,_,_,h,_=>by omega
 |n+1,l,top,h,h2=>aes (N9 n) f hv l (by have:=ji l;omega) (λs hs=>by have:=Ak hs;have:=nu s;omega) top (λs hs=>⟨Hg f hv n _ _ (by have:=bf hs;omega) (by have:=fG hs;omega),Hg f hv n _ _ (by have:=bf hs;omega) (by have:=fG hs;omega)⟩)
def aaR(f:aP)(hv:cL f.ai)(l:aa ay)(top:Bool)(h:eW l<=1000):acs f l top=I (bW f top l):=dS (zh l+1) λn hn=>Hg f hv n l top (by omega) h
def T3(f:aP)(hv:cL f.ai)(hl:f.ak.length<=1000000)(i:Nat)(hi:i<f.ak.length):
  (jx f i f.ak[i]! =0->vt ⟨f.ak,(f.ak.length:Int),(i:Int),f⟩=I (I ⟨f.ak,(f.ak.length:Int),((i+1:Nat):Int),f⟩))/\(jx f i f.ak[i]!≠0->vt ⟨f.ak,(f.ak.length:Int),(i:Int),f⟩=I S):=by
 have hw:=fD hi hl;have h2:=Ri (f.ak.take i) (by rw[zR];omega) f.ak[i]!;unfold vt jx;dsimp only;simp only[zf,ax.eta,cV.eta,AE,AF,h2,Ad f.ai hv,hw];generalize ij f.ak[i]!.fName=B;generalize ((f.ak.take i).any λw=>w.fName.toList==f.ak[i]!.fName.toList)=A;generalize gj f.ak[i]!.ag f.ak[i]!.ah=C;generalize dN f.ai J f.ak[i]!.aB=T;have hi1:(i:Int)<(f.ak.length:Int):=by omega
 have hi0:(0:Int)<=(i:Int):=by omega
 have hi2:(i:Int)<=(f.ak.length:Int):=by omega
 simp only[hi0,hi1,hi2,dG,cD,cR,bB];cases A<;>cases B<;>cases C<;>by_cases hT:T=0<;>simp[hT]
def YE(f:aP)(hv:cL f.ai)(hl:f.ak.length<=1000000):aec f=I (b9 (jx f) f.ak 0):=by
 obtain⟨i,e1,hc⟩:=qJ (rnd:=vt) f.ak (λi=>⟨f.ak,(f.ak.length:Int),(i:Int),f⟩) (jx f) (λi hi=>T3 f hv hl i hi) (by unfold vt;simp);have e1':HC ⟨f.ak,(f.ak.length:Int),0,f⟩=I ⟨f.ak,(f.ak.length:Int),(i:Int),f⟩:=e1;unfold aec;rw[e1'];dsimp only;rcases hc with ⟨rfl,hc⟩|⟨hi,h0,hc⟩
 ·rw[hc];simp
 ·rw[hc];have h2:=Ri (f.ak.take i) (by rw[zR];omega) f.ak[i]!;revert h0;unfold jx;simp only[zf,ax.eta,cV.eta,AE,AF,h2,Ad f.ai hv];generalize ij f.ak[i]!.fName=B;generalize ((f.ak.take i).any λw=>w.fName.toList==f.ak[i]!.fName.toList)=A;generalize gj f.ak[i]!.ag f.ak[i]!.ah=C;generalize dN f.ai J f.ak[i]!.aB=T;have hi1:(i:Int)<(f.ak.length:Int):=by omega
  have hi0:(0:Int)<=(i:Int):=by omega
  have hi2:(i:Int)<=(f.ak.length:Int):=by omega
  simp only[hi0,hi1,hi2,dG,cD,cR,bB];cases A<;>cases B<;>cases C<;>by_cases hT:T=0<;>simp[hT]
def aaW(f:aP)(hv:cL f.ai)(hl:f.ak.length<=1000000)(i:Nat)(hi:i<f.ak.length):
  (jx f i f.ak[i]! =0->En ⟨(i:Int),f⟩=I (I ⟨((i+1:Nat):Int),f⟩))/\(jx f i f.ak[i]!≠0->En ⟨(i:Int),f⟩=I S):=by
 have hw:=fD hi hl;obtain⟨j,h2,h3⟩:=Iw f hl i (by omega) f.ak[i]!;unfold En jx;dsimp only;simp only[zf,ax.eta,cV.eta,Aw,Ay,h2,AL f.ai hv,hw];generalize ij f.ak[i]!.fName=B;generalize ((f.ak.take i).any λw=>w.fName.toList==f.ak[i]!.fName.toList)=A at h3;generalize gj f.ak[i]!.ag f.ak[i]!.ah=C;generalize dN f.ai J f.ak[i]!.aB=T;have hi1:(i:Int)<(f.ak.length:Int):=by omega
 have hi0:(0:Int)<=(i:Int):=by omega
 simp only[hi0,hi1,dG,cD,cR,bB];rcases h3 with ⟨rfl,rfl⟩|⟨hj,h4,rfl⟩
 ·cases B<;>cases C<;>by_cases hT:T=0<;>simp[hT]
 ·have hj1:(j:Int)<(i:Int):=by omega
  have hj2:(j:Int)<(f.ak.length:Int):=by omega
  have hj0:(0:Int)<=(j:Int):=by omega
  simp only[hj0,hj1,hj2,h4,dG,cD,cR,bB];cases B<;>simp
def TG(f:aP)(hv:cL f.ai)(hl:f.ak.length<=1000000):∃i:Nat,QI ⟨0,f⟩=I ⟨(i:Int),f⟩/\((i=f.ak.length/\b9 (jx f) f.ak 0=0)\/(i<f.ak.length/\jx f i f.ak[i]!≠0/\b9 (jx f) f.ak 0=jx f i f.ak[i]!)):=
 qJ (rnd:=En) f.ak (λi=>⟨(i:Int),f⟩) (jx f) (λi hi=>aaW f hv hl i hi) (by unfold En;simp)
def uF{f:aP}{i:Nat}(hi:i<f.ak.length):iR ((f.ak.take i).map (·.aB))+nT f.ak[i]!.aB<=iR (f.ak.map (·.aB)):=by
 have h:=Cv (f.ak.map (·.aB)) (i+1);rw[<-xC,bM hi,z6,As]at h;simpa [iR]using h
def aeJ(f:aP)(h:eW f.bK+iR (f.ak.map (·.aB))<=900)(hl:f.ak.length<=1000000):ZO f=I (oo f):=by
 unfold ZO oo;by_cases h1:64<(f.ai.length:Int)
 ·simp[h1,show ¬f.ai.length<=64 by omega]
 by_cases h2:8<(f.ak.length:Int)
 ·simp[h1,h2,show ¬f.ak.length<=8 by omega]
 rw[bT h1,bT h2,bV (show f.ai.length<=64 by omega),bV (show f.ak.length<=8 by omega)];dsimp only[bz,bB];have hb:=AK f.bK;rw[adE f.bK (by omega)];obtain⟨i,b,e1,hI,hc⟩:=oO (rnd:=BZ) f.ak.length (λi (b:Int)=>⟨b,(i:Int),f⟩) (λi b=>(0<=b/\b<=eW f.bK+iR ((f.ak.take i).map (·.aB)))/\∀j,j<i->dT f.ak[j]!.aB<=12) (λi _=>12<dT f.ak[i]!.aB) (λi b hi hI=>by
  have hn:=uF hi;have hw:=fD hi hl;have k1:=Fl f.ak[i]!.aB (by omega);have k2:=GF f.ak[i]!.aB (by omega);have hi1:(i:Int)<(f.ak.length:Int):=by omega
  have hi0:(0:Int)<=(i:Int):=by omega
  by_cases hd:12<dT f.ak[i]!.aB
  ·refine .inr ⟨?_,hd⟩;unfold BZ;dsimp only;simp only[zf,ax.eta,k1,k2,hi1,hi0,cR,bB,dG,cD,hd]
  ·refine .inl ⟨b+nT f.ak[i]!.aB,?_,⟨by omega,?_⟩,λj hj=> ?_⟩
   ·have hw2:i64.wrap (b+(nT f.ak[i]!.aB:Int))=b+nT f.ak[i]!.aB:=aI;unfold BZ;dsimp only;simp only[zf,ax.eta,k1,k2,hi1,hi0,cR,bB,dG,cD,hd,fS,bz,hw,hw2]
   ·rw[bM hi,z6,As];simp only[z7,yK,oZ,show iR []=0 from rfl];omega
   ·rcases y4.1 hj with h|h
    ·exact hI.2 j h
    ·subst h;omega) (λb _=>by unfold BZ;simp) (b:=fQ f.bK) ⟨⟨by omega,by simp only[xD,yK,show iR []=0 from rfl];omega⟩,λj hj=>dg hj (by omega)⟩
 have e1':FT ⟨fQ f.bK,0,f⟩=I ⟨b,(i:Int),f⟩:=e1;dsimp only;rw[e1'];dsimp only;rcases hc with rfl|⟨hi,hd⟩
 ·rw[bT (show ¬((f.ak.length:Int)<(f.ak.length:Int))by omega),bz];have ha:f.ak.all (λh=>O (dT h.aB<=12))=J:=Cq λj hj=>by simpa using hI.2 j hj
  have hn:=hI.1.2;rw[zI]at hn;rw[ha,bV (show b<=1024 by omega),bB,acz f.bK (by omega),aao f.bK (by omega)];by_cases h5:iZ f.bK<=12
  ·cases eS f.bK<;>simp[h5]
  ·simp[h5]
 ·have hn:=uF hi;have k1:=Fl f.ak[i]!.aB (by omega);have k2:=GF f.ak[i]!.aB (by omega);have hi1:(i:Int)<(f.ak.length:Int):=by omega
  have hi0:(0:Int)<=(i:Int):=by omega
  have ha:f.ak.all (λh=>O (dT h.aB<=12))=G:=sN hi (by simpa using hd);simp only[zf,ax.eta,k1,k2,hi1,hi0,cR,bB,dG,cD,hd,ha,Bool.and_false,Bool.false_and]
def ZU(M:aa ay->Int->aU->af qh)(l:aa ay)(hM:∀s∈l,∀(d:Int) (b:aU),0<=d->d<=13->0<=b.bA->(b.bA+eW s.aK<=1000->M s.aK d b=I (mh d s.aK b))/\(b.bA+eW s.aN<=1000->M s.aN d b=I (mh d s.aN b)))(d:Int)(b:aU)(h0:0<=d)(hd:d<=13)(h1:0<=b.bA)(h2:b.bA+eW l<=1000):adL M l d b=I (mh d l b):=by
 have hL:=ji l;have hw1:i64.wrap (d+1)=d+1:=aI;have hgo:∀(l:aa ay) (i:Nat) (b:aU),NG (λ_ (b:aU) (s:ay)=>if ew (cU d b)=J then(.inr (cU d b):aU ⊕ aU)else .inl (mh (d+1) s.aN (mh (d+1) s.aK (rC s.aB 1 (cU d b))))) id id l i b=mh d l b:=by
  intro l;induction l with
  |nil=>intro i b;rw[mh];rfl
  |cons s l ih=>
   intro i b;rw[mh];by_cases ho:ew (cU d b)=J
   ·rw[bD ho,AO (r:=cU d b) (by rw[bD ho])];rfl
   ·rw[bL ho,s9 (b':=mh (d+1) s.aN (mh (d+1) s.aK (rC s.aB 1 (cU d b)))) (by rw[bL ho])];exact ih (i+1) _
 have hm:∀(b:aU) (x:Bool),-1000000<=b.bA->b.bA<=1000000->x=(b.eO||O (12<d))->iJ ⟨i64.wrap (b.bA+1),x⟩=(ew (cU d b),cU d b):=λb x b1 b2 hx=>by
  rw[tO,aI,hx];rfl
 have hs:∀(i:Nat) (b:aU),i<l.length->0<=b.bA->b.bA+nS l[i]!<=1000->ew (cU d b)=G->d<=12/\DE l[i]!.aB 1 (cU d b)=I (rC l[i]!.aB 1 (cU d b))/\M l[i]!.aK (d+1) (rC l[i]!.aB 1 (cU d b))=I (mh (d+1) l[i]!.aK (rC l[i]!.aB 1 (cU d b)))/\M l[i]!.aN (d+1) (mh (d+1) l[i]!.aK (rC l[i]!.aB 1 (cU d b)))=I (mh (d+1) l[i]!.aN (mh (d+1) l[i]!.aK (rC l[i]!.aB 1 (cU d b))))/\0<=(mh (d+1) l[i]!.aN (mh (d+1) l[i]!.aK (rC l[i]!.aB 1 (cU d b)))).bA/\(mh (d+1) l[i]!.aN (mh (d+1) l[i]!.aK (rC l[i]!.aB 1 (cU d b)))).bA<=b.bA+nS l[i]! :=λi b hi b1 b2 ho=>by
  have hd2:d<=12:=by unfold ew cU at ho;grind
  have hN:=nu l[i]!;have hp:(cU d b).bA=b.bA+1:=rfl;obtain⟨a1,a2,a3⟩:=HR l[i]!.aB 1 (cU d b) (by omega) (by omega) (by omega);obtain⟨c1,c2,c3⟩:=Lr (d+1) l[i]!.aK (rC l[i]!.aB 1 (cU d b)) (by omega) (by omega) (by omega) (by omega);obtain⟨g1,g2,g3⟩:=Lr (d+1) l[i]!.aN (mh (d+1) l[i]!.aK (rC l[i]!.aB 1 (cU d b))) (by omega) (by omega) (by omega) (by omega);exact⟨hd2,ON _ 1 _ (by omega) (by omega) (by omega) (by omega),(hM _ (bh hi) (d+1) _ (by omega) (by omega) (by omega)).1 (by omega),(hM _ (bh hi) (d+1) _ (by omega) (by omega) (by omega)).2 (by omega),by omega,by omega⟩
 obtain⟨i,v,e1,hI,hc⟩:=Vt (rnd:=AQ M) l (λi (b:aU)=>⟨d,l,(l.length:Int),(i:Int),b⟩) (λ_ (b:aU) (s:ay)=>if ew (cU d b)=J then(.inr (cU d b):aU ⊕ aU)else .inl (mh (d+1) s.aN (mh (d+1) s.aK (rC s.aB 1 (cU d b))))) id id (λi x=>0<=x.bA/\x.bA<=b.bA+eW (l.take i)) (λi x hi hx=>by
   have hn:=Df hi;have hw:=fD hi (by omega);have hi1:(i:Int)<(l.length:Int):=by omega
   have hi0:(0:Int)<=(i:Int):=by omega
   have hmx:=hm x;cases ho:ew (cU d x)with
   |true=>
    refine⟨λb' hb'=>by simp at hb',λr hr=> ?_⟩;unfold AQ;dsimp only;simp only[zf,hi1,hi0,cR,bB,dG,cD];cases hb:x.eO with
    |true=>rw[hmx J (by omega) (by omega) (by rw[hb];rfl),ho];rfl
    |false=>rw[hmx (O (12<d)) (by omega) (by omega) (by rw[hb];rfl),ho];rfl
   |false=>
    obtain⟨q0,q1,q2,q3,q4,q5⟩:=hs i x hi hx.1 (by omega) ho;refine⟨λb' hb'=> ?_,λr hr=>by simp at hr⟩;have hb':mh (d+1) l[i]!.aN (mh (d+1) l[i]!.aK (rC l[i]!.aB 1 (cU d x)))=b':=by simpa using hb'
    subst hb';refine⟨?_,⟨q4,by rw[bM hi,KY];omega⟩⟩;unfold AQ;dsimp only;simp only[zf,hi1,hi0,cR,bB,dG,cD];cases hb:x.eO with
    |true=>rw[hmx J (by omega) (by omega) (by rw[hb];rfl),ho];simp only[ax.eta,q1,q2,q3,hw1,hw,bB,bz]
    |false=>rw[hmx (O (12<d)) (by omega) (by omega) (by rw[hb];rfl),ho];simp only[ax.eta,q1,q2,q3,hw1,hw,bB,bz]) (λx _=>by unfold AQ;simp) (b:=b) ⟨h1,by simp[eW]⟩
 have e1':GB M ⟨d,l,(l.length:Int),0,b⟩=I ⟨d,l,(l.length:Int),(i:Int),v⟩:=e1;rw[hgo]at hc;unfold adL;rw[e1'];dsimp only;rcases hc with ⟨rfl,hc⟩|⟨hi,r,hr,hc⟩
 ·rw[hc,eH];rfl
 ·have hn:=Df hi;have hi1:(i:Int)<(l.length:Int):=by omega
  have hi0:(0:Int)<=(i:Int):=by omega
  have ho:ew (cU d v)=J:=by
   by_cases ho:ew (cU d v)=J
   ·exact ho
   ·rw[bL ho]at hr;cases hr
  rw[bD ho]at hr;cases hr;rw[hc];have hmx:=hm v;simp only[zf,hi1,hi0,cR,bB,dG,cD];cases hb:v.eO with
  |true=>rw[hmx J (by omega) (by omega) (by rw[hb];rfl),ho];rfl
  |false=>rw[hmx (O (12<d)) (by omega) (by omega) (by rw[hb];rfl),ho];rfl
def FU:∀(n:Nat) (l:aa ay) (d:Int) (b:aU),zh l<n->0<=d->d<=13->0<=b.bA->b.bA+eW l<=1000->Mb n l d b=I (mh d l b)
 |0,_,_,_,h,_,_,_,_=>by omega
 |n+1,l,d,b,h,h0,hd,h1,h2=>ZU (Mb n) l (λs hs d b a1 a2 a3=>⟨λa4=>FU n _ d b (by have:=bf hs;omega) a1 a2 a3 a4,λa4=>FU n _ d b (by have:=bf hs;omega) a1 a2 a3 a4⟩) d b h0 hd h1 h2
def Yg(l:aa ay)(d:Int)(b:aU)(h0:0<=d)(hd:d<=13)(h1:0<=b.bA)(h2:b.bA+eW l<=1000):Wi l d b=I (mh d l b):=dS (zh l+1) λn hn=>FU n l d b (by omega) h0 hd h1 h2
def abS(f:aP)(h:eW f.bK+iR (f.ak.map (·.aB))<=900)(hl:f.ak.length<=1000000):∃r q,Wi f.bK 1 ⟨0,G⟩=I r/\CO ⟨f.ak,(f.ak.length:Int),0,f,r⟩=I ⟨f.ak,(f.ak.length:Int),(f.ak.length:Int),f,q⟩/\ew q= !(f.ak.all (λh=>O (dT h.aB<=12))&&O (iZ f.bK<=12)&& !eS f.bK):=by
 obtain⟨p1,p2,p3⟩:=Lr 1 f.bK ⟨0,G⟩ (by omega) (by omega) (zw 0) (by show (0:Int)+_<=_;omega);have p2:0<=(mh 1 f.bK ⟨0,G⟩).bA:=p2;have p3:(mh 1 f.bK ⟨0,G⟩).bA<=0+eW f.bK:=p3;refine⟨mh 1 f.bK ⟨0,G⟩,?_⟩;have p4:=Yg f.bK 1 ⟨0,G⟩ (by omega) (by omega) (zw 0) (by show (0:Int)+_<=_;omega);generalize mh 1 f.bK ⟨0,G⟩=r at*;obtain⟨q,e1,hI⟩:=cO (rnd:=Dt) f.ak.length (λi (q:aU)=>⟨f.ak,(f.ak.length:Int),(i:Int),f,q⟩) (λi q=>q.eO=(r.eO||(f.ak.take i).any λh=>O (12<dT h.aB))/\0<=q.bA/\q.bA<=r.bA+iR ((f.ak.take i).map (·.aB))) (λi q hi hI=>by
  have hn:=uF hi;have hw:=fD hi hl;have hi1:(i:Int)<(f.ak.length:Int):=by omega
  have hi0:(0:Int)<=(i:Int):=by omega
  have hn2:iR ((f.ak.take (i+1)).map (·.aB))=iR ((f.ak.take i).map (·.aB))+nT f.ak[i]!.aB:=by
   rw[bM hi,z6,As];simp[iR]
  have ha:((f.ak.take (i+1)).any λh=>O (12<dT h.aB))=(((f.ak.take i).any λh=>O (12<dT h.aB))||O (12<dT f.ak[i]!.aB)):=by
   rw[bM hi,List.any_append,List.any_cons,List.any_nil,Bool.or_false]
  rw[ha,hn2];obtain⟨q1,q2,q3⟩:=hI;cases ho:ew q with
  |true=>
   refine⟨q,?_,?_,q2,by omega⟩
   ·unfold Dt;dsimp only;simp only[zf,hi1,hi0,cR,bB,bz,dG,cD,tO,ho,hw]
   ·unfold ew at ho;rw[bT (show ¬1024<q.bA by omega),Bool.or_false]at ho;rw[<-Bool.or_assoc,<-q1,ho];rfl
  |false=>
   obtain⟨c1,c2,c3⟩:=HR f.ak[i]!.aB 1 q (by omega) q2 (by omega);have k:=ON f.ak[i]!.aB 1 q (by omega) (by omega) q2 (by omega);refine⟨rC f.ak[i]!.aB 1 q,?_,?_,by omega,by omega⟩
   ·unfold Dt;dsimp only;simp only[zf,ax.eta,hi1,hi0,cR,bB,bz,dG,cD,tO,ho,hw,k]
   ·rw[c1,q1,Bool.or_assoc];rw[show O (12<1-1+dT f.ak[i]!.aB)=O (12<dT f.ak[i]!.aB)from decide_eq_decide.2 (by omega)]) (λq _=>by unfold Dt;simp) (b:=r) ⟨by simp,p2,by simp[iR]⟩
 have e1':CO ⟨f.ak,(f.ak.length:Int),0,f,r⟩=I ⟨f.ak,(f.ak.length:Int),(f.ak.length:Int),f,q⟩:=e1;refine⟨q,p4,e1',?_⟩;rw[zI]at hI;obtain⟨q1,q2,q3⟩:=hI;unfold ew;rw[bT (show ¬1024<q.bA by omega),Bool.or_false,q1,p1];have e2:(f.ak.any λh=>O (12<dT h.aB))= !(f.ak.all λh=>O (dT h.aB<=12)):=by
  rw[List.not_all_eq_any_not]
  congr 1
  funext h
  by_cases hd:dT h.aB<=12
  ·simp[hd]
  ·simp[hd];omega
 have e3:O (12<1-1+iZ f.bK)= !O (iZ f.bK<=12):=by
  by_cases hd:iZ f.bK<=12
  ·simp[hd]
  ·simp[hd];omega
 rw[e2,e3];generalize (f.ak.all λh=>O (dT h.aB<=12))=x;generalize O (iZ f.bK<=12)=y;generalize eS f.bK=z;cases x<;>cases y<;>cases z<;>rfl
def vP:aa ay->Prop
 |[]=>True
 |s::l=>(0<=s.aR/\s.aR<=67108864)/\(s.bX=4->0<=s.fN/\s.fN<=4096)/\(s.bX≠3->s.bX≠4->s.aK=[])/\(s.bX≠3->s.aN=[])/\vP s.aK/\vP s.aN/\vP l
termination_by l=>zh l
decreasing_by
 ·exact(bf (zm ..)).1
 ·exact(bf (zm ..)).2
 ·exact dA _ _
def aiO{s:ay}(h:rM s=J):(0<=s.aR/\s.aR<=67108864)/\(s.bX=4->0<=s.fN/\s.fN<=4096):=by
 unfold rM at h;simp only[zj,decide_eq_true_eq]at h;grind
def CD(f:aP):∀(n:Nat) (l:aa ay) (top:Bool),zh l<n->bW f top l=0->vP l
 |0,_,_,h,_=>by omega
 |n+1,[],top,h,hc=>by rw[vP];trivial
 |n+1,s::l,top,h,hc=>by
  rw[bW]at hc;have hz:=bf (l:=s::l) (zm ..);have hz2:=dA s l;by_cases h1:lz f (top&&l.isEmpty) s≠0
  ·rw[bD h1]at hc;exact dg hc h1
  rw[bL h1]at hc;by_cases h2:bW f G s.aK≠0
  ·rw[bD h2]at hc;exact dg hc h2
  rw[bL h2]at hc;by_cases h3:bW f G s.aN≠0
  ·rw[bD h3]at hc;exact dg hc h3
  rw[bL h3]at hc;have q1:=CD f n s.aK G (by omega) (by omega);have q2:=CD f n s.aN G (by omega) (by omega);have q3:=CD f n l top (by omega) hc;have h1:lz f (top&&l.isEmpty) s=0:=by omega
  unfold lz at h1;cases hS:de f s (top&&l.isEmpty)with
  |false=>rw[hS]at h1;simp at h1
  |true=>
   rw[hS]at h1;cases hN:rM s with
   |false=>rw[hN]at h1;simp at h1
   |true=>
    obtain⟨n1,n2⟩:=aiO hN;obtain⟨b1,b2,b3,b4,b5⟩:=iA hS;rw[vP];exact⟨n1,n2,b3,b4,q1,q2,q3⟩
def DG(s:ay)(a b:Int×Int×Int):Int×Int×Int:=
 if s.bX=1 then(1,1,s.aR)
 else if s.bX=3 then(1+max a.1 b.1,max a.2.1 b.2.1,s.aR+max a.2.2 b.2.2)
 else if s.bX=4 then(1+s.fN*(1+a.1),s.fN*a.2.1,s.fN*(s.aR+a.2.2))
 else(1,0,s.aR)
def IA(a b:Int×Int×Int):Int×Int×Int:=(a.1+b.1,a.2.1+b.2.1,a.2.2+b.2.2)
def tQ(s:ay)(l:aa ay):ei (s::l)=IA (DG s (ei s.aK) (ei s.aN)) (ei l):=by
 rw[ei];unfold DG IA;dsimp only;split
 ·rfl
 ·split
  ·rfl
  ·split
   ·rfl
   ·simp
def Jj(l:aa ay)(s:ay):ei (l++[s])=IA (ei l) (DG s (ei s.aK) (ei s.aN)):=by
 have h0:ei []=(0,0,0):=by rw[ei]
 induction l with
 |nil=>rw[yg,tQ,h0];unfold IA;simp
 |cons a l ih=>
  rw[xo,tQ,tQ,ih];unfold IA;simp only[Int.add_assoc]
def qw(c:Int×Int×Int)(a:Int×Int×Int):Int×Int×Int:=(min a.1 c.1,min a.2.1 c.2.1,min a.2.2 c.2.2)
def ad4{n x c k:Int}(hn:0<=n)(hk:0<=k)(hx:0<=x)(hc:0<=c):min (n*(k+min x c)) c=min (n*(k+x)) c:=by
 by_cases h:x<=c
 ·rw[wm h]
 ·rw[xI (show c<=x by omega)];by_cases h0:n=0
  ·subst h0;simp
  ·have e1:1*(k+c)<=n*(k+c):=zM (by omega) (by omega);have e2:1*(k+x)<=n*(k+x):=zM (by omega) (by omega);rw[xI (by omega),xI (by omega)]
def nq:∀{l:aa ay},vP l->∀s∈l,(0<=s.aR/\s.aR<=67108864)/\(s.bX=4->0<=s.fN/\s.fN<=4096)/\(s.bX≠3->s.bX≠4->s.aK=[])/\(s.bX≠3->s.aN=[])/\vP s.aK/\vP s.aN
 |[],_,s,hs=>by cases hs
 |a::l,h,s,hs=>by
  rw[vP]at h;rcases zF.1 hs with rfl|hs
  ·exact⟨h.1,h.2.1,h.2.2.1,h.2.2.2.1,h.2.2.2.2.1,h.2.2.2.2.2.1⟩
  ·exact nq h.2.2.2.2.2.2 s hs
def nn3(a:Int×Int×Int):Prop:=0<=a.1/\0<=a.2.1/\0<=a.2.2
def ajX{s:ay}{a b:Int×Int×Int}(hc:0<=s.aR)(hN:s.bX=4->0<=s.fN)(ha:nn3 a)(hb:nn3 b):nn3 (DG s a b):=by
 unfold nn3 at*;unfold DG;split
 ·exact⟨yZ (by decide:(0:Int)<1),yZ (by decide:(0:Int)<1),hc⟩
 ·split
  ·dsimp only;omega
  ·split
   ·rename_i h4;have:=hN h4;have e1:0<=s.fN*(1+a.1):=zx this (by omega);have e2:0<=s.fN*a.2.1:=zx this (by omega);have e3:0<=s.fN*(s.aR+a.2.2):=zx this (by omega);dsimp only;omega
   ·exact⟨yZ (by decide:(0:Int)<1),zw (0:Int),hc⟩
def G5:∀(n:Nat) (l:aa ay),zh l<n->vP l->nn3 (ei l)
 |0,_,h,_=>by omega
 |n+1,[],h,_=>by rw[show ei []=(0,0,0)by rw[ei]];exact⟨by decide,by decide,by decide⟩
 |n+1,s::l,h,ho=>by
  have hz:=bf (l:=s::l) (zm ..);have hz2:=dA s l;rw[vP]at ho;have q1:=G5 n s.aK (by omega) ho.2.2.2.2.1;have q2:=G5 n s.aN (by omega) ho.2.2.2.2.2.1;have q3:=G5 n l (by omega) ho.2.2.2.2.2.2;have q4:=ajX ho.1.1 (λh=>(ho.2.1 h).1) q1 q2;rw[tQ];unfold nn3 IA at*;dsimp only;omega
def pM{l:aa ay}(h:vP l):nn3 (ei l):=G5 _ l (zB _) h
def BH:∀{l:aa ay} (i:Nat),vP l->vP (l.take i)
 |[],i,h=>by rw[List.take_nil];exact h
 |s::l,0,h=>by rw[xD,vP];trivial
 |s::l,i+1,h=>by
  rw[vP]at h;rw[List.take_succ_cons,vP];exact⟨h.1,h.2.1,h.2.2.1,h.2.2.2.1,h.2.2.2.2.1,h.2.2.2.2.2.1,BH i h.2.2.2.2.2.2⟩
def M3(a:Int×Int×Int):nK:=⟨a.1,a.2.1,a.2.2⟩
def Lq:Int×Int×Int:=(1099511627776,1099511627776,1099511627776)
def HW:Int×Int×Int:=(4097,9,67108865)
def adq{n x:Int}(h1:0<=n)(h2:n<=4096)(h3:0<=x)(h4:x<=1200000000000):0<=n*x/\n*x<=4915200000000000:=by
 have e1:n*x<=4096*x:=zM h2 h3;have e2:0<=n*x:=zx h1 h3;omega
def jA(w c:Int):(if c<w then c else w)=min w c:=by omega
def ak8(w c:Int):(if w<c then w else c)=min w c:=by omega
def Ng(a b c:Int):(if min a c<min b c then min b c else min a c)=min (max a b) c:=by omega
def adr(a b c:Int):(if min b c<min a c then min a c else min b c)=min (max a b) c:=by omega
section
variable {C x y m k n a:Int} (h0:0<=C) (h1:C<=1099511627776) (hx:0<=x)
include h0 h1 hx
theorem Mf(hy:0<=y)(hy2:y<=67108864):min (i64.wrap (min x C+y)) C=min (x+y) C:=by
 rw[aI];omega
theorem S0(hm:0<=m)(hk:0<=k)(hk2:k<=67108864):min (i64.wrap (min x C+i64.wrap (k+min m C))) C=min (x+(k+m)) C:=by
 have:i64.wrap (k+min m C)=k+min m C:=aI;rw[this,aI];omega
theorem agc(hm:0<=m):min (i64.wrap (min x C+min m C)) C=min (x+m) C:=by
 rw[aI];omega
theorem ajE{z:Int}(hz:0<=z)(hy:0<=y)(hy2:y<=4915200000000001)(h:min y C=min z C):min (i64.wrap (min x C+y)) C=min (x+z) C:=by
 rw[aI];omega
omit hx in
theorem Wr(hn:0<=n)(hn2:n<=4096)(ha:0<=a)(hk:0<=k)(hk2:k<=67108864):i64.wrap (n*i64.wrap (k+min a C))=n*(k+min a C)/\0<=n*(k+min a C)/\n*(k+min a C)<=4915200000000000/\0<=n*(k+a)/\min (n*(k+min a C)) C=min (n*(k+a)) C:=by
 have e1:i64.wrap (k+min a C)=k+min a C:=aI;have e2:=adq (x:=k+min a C) hn hn2 (by omega) (by omega);rw[e1];exact⟨aI,e2.1,e2.2,zx hn (by omega),ad4 hn hk ha h0⟩
theorem aqC(hn:0<=n)(hn2:n<=4096)(ha:0<=a)(hk:0<=k)(hk2:k<=67108864):min (i64.wrap (min x C+i64.wrap (n*i64.wrap (k+min a C)))) C=min (x+n*(k+a)) C:=by
 obtain⟨q1,q2,q3,q4,q5⟩:=Wr h0 h1 hn hn2 ha hk hk2;rw[q1];exact ajE h0 h1 hx q4 q2 (by omega) q5
theorem afN(hn:0<=n)(hn2:n<=4096)(ha:0<=a):min (i64.wrap (min x C+i64.wrap (1+i64.wrap (n*i64.wrap (1+min a C))))) C=min (x+(1+n*(1+a))) C:=by
 obtain⟨q1,q2,q3,q4,q5⟩:=Wr (k:=1) h0 h1 hn hn2 ha (by omega) (by omega);rw[q1];generalize n*(1+min a C)=y at*;generalize n*(1+a)=z at*;rw[show i64.wrap (1+y)=1+y from aI];exact ajE h0 h1 hx (by omega) (by omega) (by omega) (by omega)
theorem agm(hn:0<=n)(hn2:n<=4096)(ha:0<=a):min (i64.wrap (min x C+i64.wrap (n*min a C))) C=min (x+n*a) C:=by
 obtain⟨q1,q2,q3,q4,q5⟩:=Wr (k:=0) h0 h1 hn hn2 ha (by omega) (by omega);rw[Int.zero_add]at q2 q3 q4 q5;rw[Int.zero_add]at q5;rw[show i64.wrap (n*min a C)=n*min a C from aI];exact ajE h0 h1 hx q4 q2 (by omega) q5
end
def afI(M:aa ay->af qu)(l:aa ay)(hl:l.length<=1000000)(ho:vP l)(hM:∀s∈l,M s.aK=I (M3 (qw Lq (ei s.aK)))/\M s.aN=I (M3 (qw Lq (ei s.aN)))):aff M l=I (M3 (qw Lq (ei l))):=by
 obtain⟨v,e1,hv⟩:=cO (rnd:=F9 M) l.length (λi (b:nK)=>⟨l,(l.length:Int),(i:Int),⟨0,0,0⟩,b⟩) (λi b=>b=M3 (qw Lq (ei (l.take i)))) (λi bb hi hb=>by
  have hw:=fD hi hl;obtain⟨k1,k2⟩:=hM _ (bh hi);obtain⟨⟨c1,c2⟩,hN,_,_,o1,o2⟩:=nq ho _ (bh hi);obtain⟨x1,x2,x3⟩:=pM (BH i ho);obtain⟨a1,a2,a3⟩:=pM o1;obtain⟨b1,b2,b3⟩:=pM o2;refine⟨M3 (qw Lq (ei (l.take (i+1)))),?_,rfl⟩;have hi1:(i:Int)<(l.length:Int):=by omega
  have hi0:(0:Int)<=(i:Int):=by omega
  rw[bM hi,Jj];generalize ei (l.take i)=x at*;generalize ei l[i]!.aK=a at*;generalize ei l[i]!.aN=b at*;obtain⟨X1,X2,X3⟩:=x;obtain⟨A1,A2,A3⟩:=a;obtain⟨B1,B2,B3⟩:=b;have hb:bb=⟨min X1 1099511627776,min X2 1099511627776,min X3 1099511627776⟩:=hb;have k1:M l[i]!.aK=I ⟨min A1 1099511627776,min A2 1099511627776,min A3 1099511627776⟩:=k1;have k2:M l[i]!.aN=I ⟨min B1 1099511627776,min B2 1099511627776,min B3 1099511627776⟩:=k2;subst hb;have z0:(0:Int)<=1099511627776:=by decide
  have z1:(1099511627776:Int)<=1099511627776:=by decide
  dsimp only at x1 x2 x3 a1 a2 a3 b1 b2 b3;unfold F9;dsimp only;simp only[zf,hi1,hi0,cR,bB,dG,cD,k1,k2,hw];by_cases h1:l[i]!.bX=1
  ·have e:DG l[i]! (A1,A2,A3) (B1,B2,B3)=(1,1,l[i]!.aR):=by unfold DG;rw[bD h1]
   rw[bV h1,bB,e,jA,jA,jA,Mf z0 z1 x1 (by omega) (by omega),Mf z0 z1 x2 (by omega) (by omega),Mf z0 z1 x3 c1 c2];rfl
  ·rw[bT h1,bz];by_cases h3:l[i]!.bX=3
   ·have e:DG l[i]! (A1,A2,A3) (B1,B2,B3)=(1+max A1 B1,max A2 B2,l[i]!.aR+max A3 B3):=by unfold DG;rw[bL h1,bD h3]
    rw[bV h3,bB,e,Ng,Ng,Ng,jA,jA,jA,S0 z0 z1 x1 (by omega) (by omega) (by omega),agc z0 z1 x2 (by omega),S0 z0 z1 x3 (by omega) c1 c2];rfl
   ·rw[bT h3,bz];by_cases h4:l[i]!.bX=4
    ·obtain⟨n1,n2⟩:=hN h4;have e:DG l[i]! (A1,A2,A3) (B1,B2,B3)=(1+l[i]!.fN*(1+A1),l[i]!.fN*A2,l[i]!.fN*(l[i]!.aR+A3)):=by unfold DG;rw[bL h1,bL h3,bD h4]
     rw[bV h4,bB,e,jA,jA,jA,afN z0 z1 x1 n1 n2 a1,agm z0 z1 x2 n1 n2 a2,aqC z0 z1 x3 n1 n2 a3 c1 c2];rfl
    ·have e:DG l[i]! (A1,A2,A3) (B1,B2,B3)=(1,0,l[i]!.aR):=by unfold DG;rw[bL h1,bL h3,bL h4]
     rw[bT h4,bz,e,jA,jA,jA,Mf z0 z1 x1 (by omega) (by omega),Mf z0 z1 x2 (by omega) (by omega),Mf z0 z1 x3 c1 c2];rfl) (λb _=>by unfold F9;simp) (b:=⟨0,0,0⟩) (by rw[xD,show ei []=(0,0,0)by rw[ei]];rfl)
 have e1':GW M ⟨l,(l.length:Int),0,⟨0,0,0⟩,⟨0,0,0⟩⟩=I ⟨l,(l.length:Int),(l.length:Int),⟨0,0,0⟩,v⟩:=e1;unfold aff;rw[e1'];rw[zI]at hv;rw[hv];simp
def Gv:∀(n:Nat) (l:aa ay),zh l<n->eW l<=1000->vP l->NO n l=I (M3 (qw Lq (ei l)))
 |0,_,h,_,_=>by omega
 |n+1,l,h,h2,ho=>afI (NO n) l (by have:=ji l;omega) ho (λs hs=>⟨Gv n _ (by have:=bf hs;omega) (by have:=fG hs;omega) (nq ho s hs).2.2.2.2.1,Gv n _ (by have:=bf hs;omega) (by have:=fG hs;omega) (nq ho s hs).2.2.2.2.2⟩)
def aex(l:aa ay)(h:eW l<=1000)(ho:vP l):UF l=I (M3 (qw Lq (ei l))):=dS (zh l+1) λn hn=>Gv n l (by omega) h ho
def alL(M:aa ay->af Ld)(l:aa ay)(hl:l.length<=1000000)(ho:vP l)(hM:∀s∈l,M s.aK=I (qw HW (ei s.aK))/\M s.aN=I (qw HW (ei s.aN))):s90 M l=I (qw HW (ei l)):=by
 obtain⟨v,e1,hv⟩:=cO (rnd:=PM M) l.length (λi (b:Int×Int×Int)=>⟨l,b.1,b.2.1,b.2.2,(i:Int)⟩) (λi b=>b=qw HW (ei (l.take i))) (λi bb hi hb=>by
  have hw:=fD hi hl;obtain⟨k1,k2⟩:=hM _ (bh hi);obtain⟨⟨c1,c2⟩,hN,hT,hE,o1,o2⟩:=nq ho _ (bh hi);obtain⟨x1,x2,x3⟩:=pM (BH i ho);obtain⟨a1,a2,a3⟩:=pM o1;obtain⟨b1,b2,b3⟩:=pM o2;have zT:l[i]!.bX≠3->l[i]!.bX≠4->ei l[i]!.aK=(0,0,0):=λh3 h4=>by rw[hT h3 h4,ei]
  have zE:l[i]!.bX≠3->ei l[i]!.aN=(0,0,0):=λh3=>by rw[hE h3,ei]
  refine⟨qw HW (ei (l.take (i+1))),?_,rfl⟩;have hi1:(i:Int)<(l.length:Int):=by omega
  have hi0:(0:Int)<=(i:Int):=by omega
  rw[bM hi,Jj];generalize ei (l.take i)=x at*;generalize ei l[i]!.aK=a at*;generalize ei l[i]!.aN=b at*;obtain⟨X1,X2,X3⟩:=x;obtain⟨A1,A2,A3⟩:=a;obtain⟨B1,B2,B3⟩:=b;have hb:bb=(min X1 4097,min X2 9,min X3 67108865):=hb;have k1:M l[i]!.aK=I (min A1 4097,min A2 9,min A3 67108865):=k1;have k2:M l[i]!.aN=I (min B1 4097,min B2 9,min B3 67108865):=k2;subst hb;have z0:(0:Int)<=4097:=by decide
  have z1:(4097:Int)<=1099511627776:=by decide
  have y0:(0:Int)<=9:=by decide
  have y1:(9:Int)<=1099511627776:=by decide
  have u0:(0:Int)<=67108865:=by decide
  have u1:(67108865:Int)<=1099511627776:=by decide
  dsimp only at x1 x2 x3 a1 a2 a3 b1 b2 b3;unfold PM;dsimp only;simp only[zf,hi1,hi0,cR,bB,dG,cD,k1,k2,hw,pg,mL,ak8,adr];by_cases h4:l[i]!.bX=4
  ·obtain⟨n1,n2⟩:=hN h4;have h1:¬l[i]!.bX=1:=by omega
   have h3:¬l[i]!.bX=3:=by omega
   have e:DG l[i]! (A1,A2,A3) (B1,B2,B3)=(1+l[i]!.fN*(1+A1),l[i]!.fN*A2,l[i]!.fN*(l[i]!.aR+A3)):=by unfold DG;rw[bL h1,bL h3,bD h4]
   rw[bV h4,bT h1,bB,bz,e,afN z0 z1 x1 n1 n2 a1,agm y0 y1 x2 n1 n2 a2,aqC u0 u1 x3 n1 n2 a3 c1 c2];rfl
  ·rw[bT h4,bz];by_cases h1:l[i]!.bX=1
   ·have h3:¬l[i]!.bX=3:=by omega
    have ea:=zT h3 h4;have eb:=zE h3;cases ea;cases eb;have e:DG l[i]! (0,0,0) (0,0,0)=(1,1,l[i]!.aR):=by unfold DG;rw[bD h1]
    rw[bV h1,bB,e,S0 z0 z1 x1 (by omega) (by omega) (by omega),Mf y0 y1 x2 (by omega) (by omega),S0 u0 u1 x3 (by omega) c1 c2];simp only[qw,HW,IA,Int.max_self,Int.add_zero]
   ·rw[bT h1,bz,S0 z0 z1 x1 (by omega) (by omega) (by omega),agc y0 y1 x2 (by omega),S0 u0 u1 x3 (by omega) c1 c2];by_cases h3:l[i]!.bX=3
    ·have e:DG l[i]! (A1,A2,A3) (B1,B2,B3)=(1+max A1 B1,max A2 B2,l[i]!.aR+max A3 B3):=by unfold DG;rw[bL h1,bD h3]
     rw[e];rfl
    ·have ea:=zT h3 h4;have eb:=zE h3;cases ea;cases eb;have e:DG l[i]! (0,0,0) (0,0,0)=(1,0,l[i]!.aR):=by unfold DG;rw[bL h1,bL h3,bL h4]
     rw[e];simp only[qw,HW,IA,Int.max_self,Int.add_zero]) (λb _=>by unfold PM;simp) (b:=(0,0,0)) (by rw[xD,show ei []=(0,0,0)by rw[ei]];rfl)
 have e1':PC M ⟨l,0,0,0,0⟩=I ⟨l,v.1,v.2.1,v.2.2,(l.length:Int)⟩:=e1;unfold s90;rw[e1'];rw[zI]at hv;rw[hv];simp
def Mc:∀(n:Nat) (l:aa ay),zh l<n->eW l<=1000->vP l->m90 n l=I (qw HW (ei l))
 |0,_,h,_,_=>by omega
 |n+1,l,h,h2,ho=>alL (m90 n) l (by have:=ji l;omega) ho (λs hs=>⟨Mc n _ (by have:=bf hs;omega) (by have:=fG hs;omega) (nq ho s hs).2.2.2.2.1,Mc n _ (by have:=bf hs;omega) (by have:=fG hs;omega) (nq ho s hs).2.2.2.2.2⟩)
def alQ(l:aa ay)(h:eW l<=1000)(ho:vP l):r90 l=I (qw HW (ei l)):=dS (zh l+1) λn hn=>Mc n l (by omega) h ho
def QV(f:aP)(h:eW f.bK+iR (f.ak.map (·.aB))<=900)(hh:f.ak.length<=1000000)(hvl:f.ai.length<=1000000):V4 f=I (qL f):=by
 obtain⟨r,q,e1,e2,e3⟩:=abS f h hh;unfold V4 qL;rw[e1];dsimp only;rw[e2];dsimp only;rw[bT (show ¬((f.ak.length:Int)<(f.ak.length:Int))by omega),bz,tO,e3];unfold oo;generalize (f.ak.all λh=>O (dT h.aB<=12))=x;generalize O (iZ f.bK<=12)=y;generalize eS f.bK=z;by_cases h1:64<(f.ai.length:Int)
 ·simp[h1,show ¬f.ai.length<=64 by omega]
 by_cases h2:8<(f.ak.length:Int)
 ·simp[h1,h2,show ¬f.ak.length<=8 by omega]
 rw[bT h1,bT h2,bV (show f.ai.length<=64 by omega),bV (show f.ak.length<=8 by omega)];dsimp only[bz,xN];simp only[xN];cases hx:(x&&y&& !z)with
 |false=>rfl
 |true=>
  rw[aaw f.ai hvl];dsimp only[Bool.not_true,bz];rw[bL (by decide)];by_cases hvc:iP f.ai=0
  case neg=>simp[hvc]
  have hv:cL f.ai:=by
   apply lM;unfold iP at hvc;by_cases h0:b9 (kz f.ai) f.ai 0=0
   ·exact h0
   ·rw[bD h0]at hvc;exact dg hvc h0
  rw[bV hvc,bB,bz,bL (by simpa using hvc),YE f hv hh];dsimp only;by_cases hhc:b9 (jx f) f.ak 0=0
  case neg=>simp[hhc]
  rw[bV hhc,bB,bz,bL (by simpa using hhc),aeS f hv f.bK J (by omega)];dsimp only;by_cases hsc:bW f J f.bK=0
  case neg=>simp[hsc]
  have ho:vP f.bK:=CD f _ f.bK J (zB _) hsc;rw[bV hsc,bB,bz,bL (by simpa using hsc)];have e:=aex f.bK (by omega) ho;unfold OE;generalize ei f.bK=u at e ⊢;obtain⟨a,b,c⟩:=u;have e:UF f.bK=I ⟨min a 1099511627776,min b 1099511627776,min c 1099511627776⟩:=e;rw[e];dsimp only;by_cases a1:4096<a
  ·simp[a1,show 4096<min a 1099511627776 by omega]
  ·by_cases b1:8<b
   ·simp[a1,b1,show ¬4096<min a 1099511627776 by omega,show 8<min b 1099511627776 by omega]
   ·by_cases d1:67108864<c
    ·simp[a1,b1,d1,show ¬4096<min a 1099511627776 by omega,show ¬8<min b 1099511627776 by omega,show 67108864<min c 1099511627776 by omega]
    ·simp[a1,b1,d1,show ¬4096<min a 1099511627776 by omega,show ¬8<min b 1099511627776 by omega,show ¬67108864<min c 1099511627776 by omega]
def ajU(f:aP)(h:eW f.bK+iR (f.ak.map (·.aB))<=900)(hh:f.ak.length<=1000000)(hvl:f.ai.length<=1000000):m78 f=I (qL f):=by
 unfold m78 qL;rw[aeJ f h hh];dsimp only;cases hx:oo f with
 |false=>rfl
 |true=>
  rw[adB f.ai hvl];dsimp only[bB,bz];rw[bL (by decide)];by_cases hvc:iP f.ai=0
  case neg=>simp[hvc]
  have hv:cL f.ai:=by
   apply lM;unfold iP at hvc;by_cases h0:b9 (kz f.ai) f.ai 0=0
   ·exact h0
   ·rw[bD h0]at hvc;exact dg hvc h0
  obtain⟨i,e1,hc⟩:=TG f hv hh;rw[bV hvc,bB,bz,bL (by simpa using hvc),e1];dsimp only;rcases hc with ⟨rfl,hc⟩|⟨hi,h0,hc⟩
  ·rw[bL (show ¬(b9 (jx f) f.ak 0≠0)by rw[hc];simp),bT (show ¬((f.ak.length:Int)<(f.ak.length:Int))by omega),bz,aaR f hv f.bK J (by omega)];dsimp only;by_cases hsc:bW f J f.bK=0
   case neg=>simp[hsc]
   have ho:vP f.bK:=CD f _ f.bK J (zB _) hsc;rw[bV hsc,bB,bz,bL (show ¬(bW f J f.bK≠0)by rw[hsc];simp)];have e:=alQ f.bK (by omega) ho;unfold OE;generalize ei f.bK=u at e ⊢;obtain⟨a,b,c⟩:=u;have e:r90 f.bK=I (min a 4097,min b 9,min c 67108865):=e;rw[e];dsimp only;by_cases a1:4096<a
   ·simp[a1,show 4096<min a 4097 by omega]
   ·by_cases b1:8<b
    ·simp[a1,b1,show ¬4096<min a 4097 by omega,show 8<min b 9 by omega]
    ·by_cases d1:67108864<c
     ·simp[a1,b1,d1,show ¬4096<min a 4097 by omega,show ¬8<min b 9 by omega,show 67108864<min c 67108865 by omega]
     ·simp[a1,b1,d1,show ¬4096<min a 4097 by omega,show ¬8<min b 9 by omega,show ¬67108864<min c 67108865 by omega]
  ·obtain⟨j,h2,h3⟩:=Iw f hh i (by omega) f.ak[i]!;rw[bD (show b9 (jx f) f.ak 0≠0 by rw[hc];exact h0),hc];have hi1:(i:Int)<(f.ak.length:Int):=by omega
   have hi0:(0:Int)<=(i:Int):=by omega
   revert h0;unfold jx;simp only[zf,ax.eta,cV.eta,Aw,Ay,h2,AL f.ai hv,hi0,hi1,dG,cD,cR,bB];generalize ij f.ak[i]!.fName=B;generalize ((f.ak.take i).any λw=>w.fName.toList==f.ak[i]!.fName.toList)=A at h3;generalize gj f.ak[i]!.ag f.ak[i]!.ah=C;generalize dN f.ai J f.ak[i]!.aB=T;rcases h3 with ⟨rfl,rfl⟩|⟨hj,h4,rfl⟩
   ·cases B<;>cases C<;>by_cases hT:T=0<;>simp[hT]
   ·have hj1:(j:Int)<(i:Int):=by omega
    have hj2:(j:Int)<(f.ak.length:Int):=by omega
    have hj0:(0:Int)<=(j:Int):=by omega
    simp only[hj0,hj1,hj2,h4,dG,cD,cR,bB];cases B<;>simp
def mb{f:aP}(h:qL f=0):cL f.ai:=by
 unfold qL at h;by_cases h1:oo f=G
 ·rw[bD h1]at h;exact dg h (by decide)
 rw[bL h1]at h;by_cases hvc:iP f.ai=0
 ·apply lM;unfold iP at hvc;by_cases h0:b9 (kz f.ai) f.ai 0=0
  ·exact h0
  ·rw[bD h0]at hvc;exact dg hvc h0
 ·rw[bD hvc]at h;exact dg h hvc
structure CS where
 (vals outs:List Int)
 time:Int
def gW{f:aP}{top:Bool}{x:ay}{l:aa ay}(h:bW f top (x::l)=0):lz f (top&&l.isEmpty) x=0/\bW f G x.aK=0/\bW f G x.aN=0/\bW f top l=0:=by
 rw[bW]at h;split at h
 ·exact dg h ‹_›
 rename_i h1;split at h
 ·exact dg h ‹_›
 rename_i h2;split at h
 ·exact dg h ‹_›
 rename_i h3;exact⟨by simpa using h1,by simpa using h2,by simpa using h3,h⟩
structure YS (f:aP) (last:Bool) (x:ay):Prop where
 do_:0<=x.bX/\x.bX<=6
 cost:0<=x.aR/\x.aR<=67108864
 n4:x.bX=4->0<=x.fN/\x.fN<=4096
 var:x.bX=0\/x.bX=5->0<=x.cX/\x.cX<f.ai.length
 n5:x.bX=5->0<=x.fN/\x.fN<f.ak.length
 TV:x.bX=6->last=J/\(1<=x.aJ.length/\x.aJ.length<=32)/\(0:Int)<=x.aJ[0]!/\fl x.aJ=J/\x.aJ[x.aJ.length-1]!<=67108864
 term:dN f.ai G x.aB=0
def pz{f:aP}{last:Bool}{x:ay}(h:lz f last x=0):YS f last x:=by
 unfold lz at h;by_cases h1:de f x last=G
 ·rw[bD h1]at h;cases h
 rw[bL h1]at h;by_cases h2:rM x=G
 ·rw[bD h2]at h;cases h
 rw[bL h2]at h;have h1:de f x last=J:=by simpa using h1
 have h2:rM x=J:=by simpa using h2
 unfold rM at h2;simp only[zj,decide_eq_true_eq]at h2;obtain⟨⟨g1,g2⟩,g3⟩:=h2;unfold de qV at h1;dsimp only at h1;have hd:0<=x.bX/\x.bX<=6:=by
  by_cases a0:x.bX=0
  ·omega
  by_cases a1:x.bX=1
  ·omega
  by_cases a2:x.bX=2
  ·omega
  by_cases a3:x.bX=3
  ·omega
  by_cases a4:x.bX=4
  ·omega
  by_cases a5:x.bX=5
  ·omega
  by_cases a6:x.bX=6
  ·omega
  ·simp[a0,a1,a2,a3,a4,a5,a6]at h1
 refine⟨hd,⟨g1.1,?_⟩,λq=> ?_,λq=> ?_,λq=> ?_,λq=> ?_,h⟩
 ·have:=g1.2;split at this<;>omega
 ·rw[bD q]at g2;simpa using g2
 ·rcases q with q|q
  ·simp[q]at h1;omega
  ·simp[q]at h1;omega
 ·simp[q]at h1;omega
 ·rw[bD q]at g3;simp only[q,Int.reduceEq,cD,ek,zj,decide_eq_true_eq]at h1 g3;exact⟨h1.1.1.1.1.2,h1.2.1.1,h1.2.1.2,h1.2.2,g3⟩
def OR(x:ay)(l:aa ay):ei (x::l)=
  (if x.bX=1 then(1+(ei l).1,1+(ei l).2.1,x.aR+(ei l).2.2)
   else if x.bX=3 then(1+max (ei x.aK).1 (ei x.aN).1+(ei l).1,max (ei x.aK).2.1 (ei x.aN).2.1+(ei l).2.1,x.aR+max (ei x.aK).2.2 (ei x.aN).2.2+(ei l).2.2)
   else if x.bX=4 then(1+x.fN*(1+(ei x.aK).1)+(ei l).1,x.fN*(ei x.aK).2.1+(ei l).2.1,x.fN*(x.aR+(ei x.aK).2.2)+(ei l).2.2)
   else(1+(ei l).1,(ei l).2.1,x.aR+(ei l).2.2)):=by rw[ei]
def gT(f:aP):∀(n:Nat) (l:aa ay) (top:Bool),zh l<n->bW f top l=0->0<=(ei l).2.1/\0<=(ei l).2.2
 |0,_,_,h,_=>by omega
 |n+1,[],_,_,_=>by rw[ei];exact⟨zw _,zw _⟩
 |n+1,x::l,top,h,hc=>by
  obtain⟨h1,h2,h3,h4⟩:=gW hc;have ho:=pz h1;have hs:=bf (zm (a:=x) (l:=l));have ht:=dA x l;have i1:=gT f n x.aK G (by omega) h2;have i2:=gT f n x.aN G (by omega) h3;have i3:=gT f n l top (by omega) h4;have hcost:=ho.cost;rw[OR];by_cases a1:x.bX=1
  ·rw[bD a1];dsimp only;omega
  by_cases a3:x.bX=3
  ·rw[bL a1,bD a3];dsimp only;omega
  by_cases a4:x.bX=4
  ·rw[bL a1,bL a3,bD a4];have hn:=ho.n4 a4;have p1:=zx hn.1 i1.1;have p2:=zx hn.1 (show 0<=x.aR+(ei x.aK).2.2 by omega);dsimp only;omega
  ·rw[bL a1,bL a3,bL a4];dsimp only;omega
structure Aft (vars:List aS) (s r:CS) (o t:Int):Prop where
 vals:VIn vars r.vals
 outs:(s.outs.length:Int)<=r.outs.length/\(r.outs.length:Int)<=s.outs.length+o
 time:s.time<=r.time/\r.time<=s.time+t
def uO(x:ay):Int×Int:=if x.bX=1 then(1,x.aR)else if x.bX=3 then(max (ei x.aK).2.1 (ei x.aN).2.1,x.aR+max (ei x.aK).2.2 (ei x.aN).2.2)
 else if x.bX=4 then(x.fN*(ei x.aK).2.1,x.fN*(x.aR+(ei x.aK).2.2))else(0,x.aR)
def acY(x:ay)(l:aa ay):(ei (x::l)).2.1=(uO x).1+(ei l).2.1/\(ei (x::l)).2.2=(uO x).2+(ei l).2.2:=by
 rw[OR];unfold uO;split
 ·exact⟨rfl,rfl⟩
 split
 ·exact⟨rfl,rfl⟩
 split
 ·exact⟨rfl,rfl⟩
 ·refine⟨?_,rfl⟩;dsimp only;omega
def OL{l:aa Int}(h:fl l=J):∀{i j:Nat},i<j->j<l.length->l[i]! <l[j]! :=by
 intro i j hij hj;induction j with
 |zero=>omega
 |succ j ih=>
  have h1:=(iX l).1 h j hj;by_cases hi:i=j
  ·subst hi;exact h1
  ·have:=ih (by omega) (by omega);omega
structure Bud (f:aP) (top:Bool) (l:List ay) (s:CS):Prop where
 hc:bW f top l=0
 vals:VIn f.ai s.vals
 t0:0<=s.time
 t:s.time+(ei l).2.2<=134217728
 o:(s.outs.length:Int)+(ei l).2.1<=8
structure aAa (f:aP) (x:ay) (n:Nat) (s:CS):Prop where
 hc:bW f G x.aK=0
 term:dN f.ai G x.aB=0
 cost:0<=x.aR
 vals:VIn f.ai s.vals
 t0:0<=s.time
 t:s.time+n*(x.aR+(ei x.aK).2.2)<=134217728
 o:(s.outs.length:Int)+n*(ei x.aK).2.1<=8
def drop_cons{α:Type}[Inhabited α]{l:aa α}{i:Nat}(h:i<l.length):l.drop i=l[i]! ::l.drop (i+1):=by rw[getElem!_pos l i h];exact xQ h
def sM{x:ay}{l:aa ay}(hx:x∈l):eW x.aK<=eW l/\eW x.aN<=eW l:=by have:=Ak hx;have:=nu x;omega
def su{f:aP}{x:ay}:∀{top:Bool} {l:aa ay},bW f top l=0->x∈l->∃last,YS f last x
 |_,[],_,h=>by cases h
 |_,y::l,hc,h=>by
  obtain⟨h1,h2,h3,h4⟩:=gW hc;rcases zF.1 h with rfl|h
  ·exact⟨_,pz h1⟩
  ·exact su h4 h
def jJ(n:Nat)(g:Nat->aH):aa aH:=(zO n).map g
def fT(n:Nat)(g:Nat->aH):(jJ n g).length=n:=by simp[jJ]
def m9{n:Nat}{g:Nat->aH}{i:Nat}(h:i<n):(jJ n g)[i]! =g i:=by
 rw[getElem!_pos _ i (by rw[fT];exact h)];simp[jJ]
def oR(n:Nat)(g:Nat->aH):jJ (n+1) g=jJ n g++[g n]:=by simp[jJ,List.range_succ]
def gA{n:Nat}{g g':Nat->aH}(h:∀i,i<n->g i=g' i):jJ n g=jJ n g':=
 zZ λi hi=>h i (List.mem_range.1 hi)
def Ft{n:Nat}{g:Nat->aH}{i:Nat}(x:aH):(jJ n g).set i x=jJ n (λj=>if j=i then x else g j):=by
 apply List.ext_getElem
 ·simp[jJ]
 ·intro j h1 h2;simp only[jJ,List.getElem_set,yH,List.getElem_range];by_cases c:i=j
  ·subst c;simp
  ·rw[bL c,bL (λe=>c e.symm)]
def Xi(l:aa aH):jJ l.length (λi=>l[i]!)=l:=by
 apply List.ext_getElem
 ·simp[jJ]
 ·intro j h1 h2;simp only[jJ,yH,List.getElem_range];exact getElem!_pos l j h2
def LS{n:Nat}{g:Nat->aH}{l:aa aH}(h1:l.length=n)(h2:∀i,i<n->g i=l[i]!):jJ n g=l:=by
 subst h1;rw[gA h2,Xi]
def tr(s:au):aF:=⟨s.ai,s.aA,s.az,s.aD⟩
structure dW (n m:Nat) (s:au):Prop where
 len:s.ai.length=n
 vars:∀i,i<n->NN s.ai[i]!
 count:NN s.aA
 sl:s.az.length<=m
 slots:∀i,i<s.az.length->NN s.az[i]!
 time:NN s.aD
def dW.weak{n m m':Nat}{s:au}(h:dW n m s)(k:m<=m'):dW n m' s:=⟨h.len,h.vars,h.count,zH h.sl k,h.slots,h.time⟩
def fu(s:au)(c:Int):au:=⟨s.ai,s.aA,s.az,nG 8 s.aD (dJ c)⟩
def LN(f:aP)(s:au)(v:Int)(n:aH):au:=⟨s.ai.set v.toNat (hO n f.ai[v.toNat]!.ag f.ai[v.toNat]!.ah),s.aA,s.az,s.aD⟩
def SY(s:au)(v:aH):au:=
 ⟨s.ai,nG 8 s.aA (dJ 1),jJ s.az.length (λk=>if cC s.aA k=J then cq s.az[k]! v else s.az[k]!)++[v],s.aD⟩
def JV(a b:aa aH)(i:Nat):aH:=if a.length<=i then b[i]! else if b.length<=i then a[i]! else cq a[i]! b[i]!
def j4(a b:au):au:=
 ⟨jJ a.ai.length (λi=>cq a.ai[i]! b.ai[i]!),cq a.aA b.aA,jJ (max a.az.length b.az.length) (JV a.az b.az),cq a.aD b.aD⟩
def jY{c:Int}(h:cj c):NN (dJ c):=NN.one h.1 h.2
def kJ{n m:Nat}{s:au}(h:dW n m s){c:Int}(hc:cj c):dW n m (fu s c):=
 ⟨h.len,h.vars,h.count,h.sl,h.slots,let ⟨_,_,_,k⟩:=mH 8 h.time (jY hc);k⟩
def OQ{f:aP}{n m:Nat}{s:au}(h:dW n m s){v:Int}{x:aH}(hx:NN x):dW n m (LN f s v x):=by
 refine⟨?_,λi hi=> ?_,h.count,h.sl,h.slots,h.time⟩
 ·show (s.ai.set _ _).length=n;rw[yP];exact h.len
 ·show NN (s.ai.set _ _)[i]!;have hl:=h.len;rw[getElem!_pos _ i (by rw[yP];omega),List.getElem_set];split
  ·exact let ⟨_,_,_,k,_⟩:=gD hx f.ai[v.toNat]!.ag f.ai[v.toNat]!.ah;k
  ·have:=h.vars i hi;rw[getElem!_pos _ i (by omega)]at this;exact this
def acB{n m:Nat}{s:au}(h:dW n m s){x:aH}(hx:NN x):dW n (m+1) (SY s x):=by
 have hs:=h.sl;have hl:(SY s x).az.length=s.az.length+1:=by simp[SY,fT]
 refine⟨h.len,h.vars,let ⟨_,_,_,k⟩:=mH 8 h.count (jY (c:=1) ⟨by decide,by decide⟩);k,by omega,λi hi=> ?_,h.time⟩;rw[hl]at hi;have hlt:=fT s.az.length (λk=>if cC s.aA k=J then cq s.az[k]! x else s.az[k]!);show NN (jJ s.az.length (λk=>if cC s.aA k=J then cq s.az[k]! x else s.az[k]!)++[x])[i]!;by_cases c:i<s.az.length
 ·have hg:=m9 (g:=(λk=>if cC s.aA k=J then cq s.az[k]! x else s.az[k]!)) c;generalize jJ s.az.length (λk=>if cC s.aA k=J then cq s.az[k]! x else s.az[k]!)=T at*;rw[getElem!_pos _ i (by rw[zl];omega),List.getElem_append_left (by omega),<-getElem!_pos T i (by omega),hg];split
  ·exact jb (h.slots i c) hx
  ·exact h.slots i c
 ·generalize jJ s.az.length (λk=>if cC s.aA k=J then cq s.az[k]! x else s.az[k]!)=T at*;rw[getElem!_pos _ i (by rw[zl,yz];omega),List.getElem_append_right (by omega)];simpa using hx
def amC{a b:aa aH}(ha:∀i,i<a.length->NN a[i]!)(hb:∀i,i<b.length->NN b[i]!){i:Nat}(hi:i<max a.length b.length):NN (JV a b i):=by
 unfold JV;split
 ·exact hb i (by omega)
 split
 ·exact ha i (by omega)
 ·exact jb (ha i (by omega)) (hb i (by omega))
def Cb{n m:Nat}{s t:au}(h:dW n m s)(k:dW n m t):dW n m (j4 s t):=by
 have h1:=h.len;have h2:=h.sl;have k2:=k.sl;refine⟨by show (jJ _ _).length=n;rw[fT];exact h1,λi hi=> ?_,jb h.count k.count,by show (jJ _ _).length<=m;rw[fT];omega,λi hi=> ?_,jb h.time k.time⟩
 ·show NN (jJ _ _)[i]!;rw[m9 (by omega)];exact jb (h.vars i hi) (k.vars i hi)
 ·have hi:i<(jJ (max s.az.length t.az.length) (JV s.az t.az)).length:=hi;rw[fT]at hi;show NN (jJ _ _)[i]!;rw[m9 hi];exact amC h.slots k.slots hi
def qY(i:aH)(ks:aa aH):Nat->aH
 |0=>cw
 |n+1=>if cC i n=J then cq (qY i ks n) ks[n]! else qY i ks n
def Rk(vars:aa aH)(t:ax)(k:aa aH):aH:=
 if t.bt=0 then dJ t.fN else if t.bt=24 then vars[t.fN.toNat]! else if t.bt=6 then(oQ 6 k[0]!).1 else if t.bt=7 then(oQ 7 k[0]!).1
 else if t.bt=23 then(if cC k[0]! 0=G then k[1]! else if cl k[0]! =G then k[2]! else cq k[1]! k[2]!)
 else if t.bt=25 then qY (hO k[0]! 0 ((k.length:Int)-2)) (k.drop 1) (k.drop 1).length else nG t.bt k[0]! k[1]!
def cv(vars:aa aH)(t:ax):aH:=Rk vars t (t.aq.attach.map λk=>cv vars k.1)
termination_by zh t
decreasing_by exact ax.dY k.2
def O5(vars:aa aH)(t:ax):cv vars t=Rk vars t (t.aq.map (cv vars)):=by
 rw[cv];rw[show (t.aq.attach.map λk=>cv vars k.1)=t.aq.map (cv vars)from x8 (f:=cv vars)]
def mapA{vars:aa aH}{t:ax}{i:Nat}(h:i<t.aq.length):(t.aq.map (cv vars))[i]! =cv vars t.aq[i]! :=by
 rw[getElem!_pos _ i (by simpa using h),getElem!_pos _ i h,yH]
def Aj{i:aH}{ks:aa aH}(hk:∀j,j<ks.length->NN ks[j]!):∀n,n<=ks.length->NV (qY i ks n)/\((∃j,j<n/\cC i (j:Nat)=J)->NN (qY i ks n))
 |0,_=>⟨.inl rfl,λ⟨j,h,_⟩=>by omega⟩
 |n+1,hn=>by
  obtain⟨h1,h2⟩:=Aj (i:=i) hk n (by omega);rw[qY];by_cases c:cC i (n:Nat)=J
  ·rw[bD c];have hv:=dZ h1 (.inr (hk n (by omega)));have:NN (cq (qY i ks n) ks[n]!):=by
    rcases h1 with e|h
    ·rw[e,iI];exact hk n (by omega)
    ·exact jb h (hk n (by omega))
   exact⟨hv,λ_=>this⟩
  ·rw[bL c];refine⟨h1,λ⟨j,h,k⟩=>h2 ⟨j,?_,k⟩⟩;by_cases e:j=n
   ·subst e;exact dg k c
   ·omega
def RN{a:aH}(ha:NN a){n:Nat}(h0:1<=n)(hn:n<=1000000):∃j:Nat,j<n/\cC (hO a 0 ((n:Int)-1)) (j:Nat)=J:=by
 obtain⟨_,_,_,hv,hr⟩:=gD ha 0 ((n:Int)-1);have hr:=hr ⟨by decide,by decide⟩ ⟨by omega,by omega⟩ (by omega);rcases hr with ⟨e,_⟩|hr
 ·exact dg e hv.ne
 ·obtain⟨x,_,h2⟩:=hr.lo;refine⟨(hO a 0 ((n:Int)-1)).ag.toNat,by omega,?_⟩;rw[show (((hO a 0 ((n:Int)-1)).ag.toNat:Nat):Int)=(hO a 0 ((n:Int)-1)).ag by omega];exact kO ⟨zw _,hv.le,by rw[Int.sub_self];exact xg _⟩
def pK(x:Int):Pj x=dJ x:=rfl
def AH(x:Int):TD x=dJ x:=rfl
def Bu{vars:aa aS}{t:ax}(h:(fR vars t).isSome=J):∀k∈t.aq,(fR vars k).isSome=J:=λk hk=>by
 rw[tu]at h;cases ha:jL (t.aq.map (fR vars))with
 |none=>rw[ha]at h;cases h
 |some r=>
  have hr:=pn ha;have hm:fR vars k∈r.map I:=by rw[<-hr];exact List.mem_map_of_mem hk
  obtain⟨s,h1,h2⟩:=zL.1 hm;rw[<-h2];rfl
def aeh{vars:aa aS}{t:ax}(h0:t.bt=0)(h:(fR vars t).isSome=J):cj t.fN:=by
 rw[tu]at h;cases ha:jL (t.aq.map (fR vars))with
 |none=>rw[ha]at h;cases h
 |some r=>
  rw[ha]at h;dsimp only at h;split at h
  ·rename_i hl;unfold sj ia at hl;simp only[h0,cD,zj,decide_eq_true_eq]at hl;unfold cj;omega
  ·cases h
def Vu(M:ax->au->af oX){vars:aa aH}{st:au}{ks:aa ax}(hl:ks.length<=1000000)(hK:∀j,j<ks.length->M ks[j]! st=I (cv vars ks[j]!,st)/\NN (cv vars ks[j]!)){H:aH}(hH:NN H)(z:aH):
  E9 M ⟨ks,(ks.length:Int),0,st,z,H,cw⟩=I ⟨ks,(ks.length:Int),(ks.length:Int),st,z,H,qY H (ks.map (cv vars)) ks.length⟩:=by
 have hmap:∀j,j<ks.length->(ks.map (cv vars))[j]! =cv vars ks[j]! :=λj h=>by rw[getElem!_pos _ j (by simpa using h),getElem!_pos _ j h,yH]
 have hkn:∀j,j<(ks.map (cv vars)).length->NN (ks.map (cv vars))[j]! :=λj h=>by
  have h:j<ks.length:=by simpa using h
  rw[hmap j h];exact(hK j h).2
 obtain⟨v,e1,hv⟩:=cO (rnd:=FJ M) ks.length (λi (_:Unit)=>⟨ks,(ks.length:Int),(i:Int),st,z,H,qY H (ks.map (cv vars)) i⟩) (λi _=>True) (λi b hi _=>by
  have hw:=fD hi hl;obtain⟨k1,k2⟩:=hK i hi;have i1:(i:Int)<(ks.length:Int):=by omega
  have i2:(0:Int)<=(i:Int):=by omega
  refine⟨(),?_,trivial⟩;unfold FJ;by_cases hc:cC H (i:Nat)=J
  ·simp only[zf,i1,i2,cR,bB,dG,cD,oq (.inr hH),hc,ax.eta,k1,mF (Aj hkn i (by simp;omega)).1 (.inr k2),hw,qY,hmap i hi]
  ·have hc:cC H (i:Nat)=G:=by simpa using hc
   simp only[zf,i1,i2,cR,bB,bz,dG,cD,oq (.inr hH),hc,hw,qY,yO,ek]) (λb _=>by unfold FJ;simp) (b:=()) trivial
 exact e1
def ajo(M:ax->au->af oX){vars:aa aS}{inp:Bool}{m:Nat}{st:au}(hst:dW vars.length m st)(t:ax)(hf:cY vars inp t=J)(hs:(fR vars t).isSome=J)
  (hM:∀k∈t.aq,M k st=I (cv st.ai k,st)/\NN (cv st.ai k)):aee M t st=I (cv st.ai t,st)/\NN (cv st.ai t):=by
 obtain⟨⟨g1,g2,g3⟩,h24⟩:=Ot hf;have K:∀i,i<t.aq.length->M t.aq[i]! st=I (cv st.ai t.aq[i]!,st)/\NN (cv st.ai t.aq[i]!):=λi hi=>hM _ (bh hi);rw[O5];unfold aee Rk;simp only[ax.eta,zA];rcases Ka t.bt g1 with ⟨h,e⟩|⟨h,e⟩|⟨h,e⟩|⟨h,e⟩|⟨h,e⟩<;>rw[e]at g2 g3<;>dsimp only at g2 g3
 ·rcases h with h|h
  ·simp only[h,cR,bB,cD,pK];exact⟨trivial,jY (aeh h hs)⟩
  ·obtain⟨q1,q2⟩:=h24 h;have hl:=hst.len;simp only[h,Int.reduceEq,fS,cR,bB,bz,cD,ek];rw[ga];exact⟨rfl,hst.vars _ (by omega)⟩
 ·obtain⟨k1,k2⟩:=K 0 (by omega);have m0:=mapA (vars:=st.ai) (show 0<t.aq.length by omega);have i1:(t.aq.length:Int)=1:=by omega
  rcases h with h|h
  ·simp only[h,Int.reduceEq,fS,cR,bB,bz,i1,cD,ek,k1,m0,dG,RD (.inr k2),Int.reduceLT,Int.reduceLE,true_and];exact DV _ k2
  ·simp only[h,Int.reduceEq,fS,cR,bB,bz,i1,cD,ek,k1,m0,dG,RD (.inr k2),Int.reduceLT,Int.reduceLE,true_and];exact DV _ k2
 ·obtain⟨k1,k2⟩:=K 0 (by omega);obtain⟨l1,l2⟩:=K 1 (by omega);have m0:=mapA (vars:=st.ai) (show 0<t.aq.length by omega);have m1:=mapA (vars:=st.ai) (show 1<t.aq.length by omega);have hlen:(t.aq.length:Int)=2:=by omega
  obtain⟨c,hb,_,hn⟩:=mH t.bt k2 l2;have n0:t.bt≠0:=by omega
  have n1:t.bt≠24:=by omega
  have n2:t.bt≠6:=by omega
  have n3:t.bt≠7:=by omega
  have n4:t.bt≠23:=by omega
  have n5:t.bt≠25:=by omega
  simp only[n0,n1,n2,n3,n4,n5,fS,bz,hlen,ek,k1,l1,hb,m0,m1,Int.reduceEq,Int.reduceLT,Int.reduceLE,dG,cD,true_and];exact hn
 ·obtain⟨k1,k2⟩:=K 0 (by omega);obtain⟨l1,l2⟩:=K 1 (by omega);obtain⟨p1,p2⟩:=K 2 (by omega);have m0:=mapA (vars:=st.ai) (show 0<t.aq.length by omega);have m1:=mapA (vars:=st.ai) (show 1<t.aq.length by omega);have m2:=mapA (vars:=st.ai) (show 2<t.aq.length by omega);have hlen:(t.aq.length:Int)=3:=by omega
  simp only[h,Int.reduceEq,fS,cR,bB,bz,hlen,cD,ek,k1,l1,p1,m0,m1,m2,Au (.inr k2),mF (.inr l2) (.inr p2),Int.reduceLT,Int.reduceLE,dG];cases cC (cv st.ai t.aq[0]!) 0<;>cases cl (cv st.ai t.aq[0]!)
  ·exact⟨rfl,l2⟩
  ·exact⟨rfl,l2⟩
  ·exact⟨rfl,p2⟩
  ·exact⟨rfl,jb l2 p2⟩
 ·obtain⟨k1,k2⟩:=K 0 (by omega);have m0:=mapA (vars:=st.ai) (show 0<t.aq.length by omega);have w:i64.wrap ((t.aq.length:Int)-(2:Int))=(t.aq.length:Int)-(2:Int):=aI;obtain⟨c,hcl,_,hcn,_⟩:=gD k2 0 ((t.aq.length:Int)-(2:Int));obtain⟨j,hj1,hj2⟩:=RN k2 (n:=t.aq.length-1) (by omega) (by omega);rw[show (((t.aq.length-1:Nat):Int)-1)=(t.aq.length:Int)-(2:Int)by omega]at hj2;simp only[h,Int.reduceEq,fS,cR,bB,bz,cD,ek,k1,m0,w];rw[ga,hcl];generalize hO (cv st.ai t.aq[0]!) 0 ((t.aq.length:Int)-(2:Int))=H at*;have hd:(t.aq.drop 1).length=t.aq.length-1:=yj ..;have e2:=Vu M (vars:=st.ai) (st:=st) (ks:=t.aq.drop 1) (by omega) (λj hj=>hM _ (xU (bh hj))) (H:=H) hcn ⟨0,0,0⟩;dsimp only;rw[ga];rw[show ZG=cw from rfl,e2];dsimp only;rw[eH,bz,<-xd,zA];refine⟨rfl,(Aj (λj hj=> ?_) _ (by simp)).2 ⟨j,by omega,hj2⟩⟩;have hj:j<(t.aq.drop 1).length:=by simpa using hj
  rw[getElem!_pos _ j (by simpa using hj),yH];exact(hM _ (xU (xy ..))).2
def F5{vars:aa aS}{inp:Bool}{m:Nat}{st:au}(hst:dW vars.length m st):∀(n:Nat) (t:ax),zh t<n->cY vars inp t=J->(fR vars t).isSome=J->LP n t st=I (cv st.ai t,st)/\NN (cv st.ai t)
 |0,_,h,_,_=>by omega
 |n+1,t,h,hf,hs=>ajo (LP n) hst t hf hs (λk hk=>F5 hst n k (by have:=ax.dY hk;omega) (oW hf hk) (Bu hs k hk))
def pU{vars:aa aS}{inp:Bool}{t:ax}(hc:dN vars inp t=0):cY vars inp t=J/\(fR vars t).isSome=J:=by
 unfold dN at hc;cases hf:cY vars inp t with
 |false=>rw[hf]at hc;simp at hc
 |true=>
  rw[hf]at hc;cases hs:(fR vars t).isSome with
  |false=>rw[hs]at hc;simp at hc
  |true=>exact⟨rfl,rfl⟩
def Zl(M:aF->ax->af Kv){vars:aa aH}{st:aF}{t:ax}(hl:t.aq.length<=1000000)(h1:1<=t.aq.length)(hK:∀j,j<t.aq.length->M st t.aq[j]! =I (cv vars t.aq[j]!)/\NN (cv vars t.aq[j]!)){H:aH}(hH:NN H)(z:aH):
  JN M ⟨(t.aq.length:Int)-1,0,st,t,z,H,cw⟩=I ⟨(t.aq.length:Int)-1,(t.aq.length:Int)-1,st,t,z,H,qY H ((t.aq.drop 1).map (cv vars)) (t.aq.drop 1).length⟩:=by
 have hd:(t.aq.drop 1).length=t.aq.length-1:=yj ..;have hmap:∀j,j<t.aq.length-1->((t.aq.drop 1).map (cv vars))[j]! =cv vars t.aq[1+j]! :=λj h=>by
  rw[getElem!_pos _ j (by simp;omega),getElem!_pos _ (1+j) (by omega),yH,List.getElem_drop]
 have hkn:∀j,j<((t.aq.drop 1).map (cv vars)).length->NN ((t.aq.drop 1).map (cv vars))[j]! :=λj h=>by
  have h:j<t.aq.length-1:=by simpa using h
  rw[hmap j h];exact(hK (1+j) (by omega)).2
 obtain⟨v,e1,hv⟩:=cO (rnd:=QC M) (t.aq.length-1) (λi (_:Unit)=>⟨(t.aq.length:Int)-1,(i:Int),st,t,z,H,qY H ((t.aq.drop 1).map (cv vars)) i⟩) (λi _=>True) (λi b hi _=>by
  have hw:=fD hi (show t.aq.length-1<=1000000 by omega);obtain⟨k1,k2⟩:=hK (1+i) (by omega);have i1:(i:Int)<(t.aq.length:Int)-1:=by omega
  have i2:i64.wrap ((1:Int)+(i:Int))=((1+i:Nat):Int):=by rw[aI];omega
  have i3:(0:Int)<=((1+i:Nat):Int)/\((1+i:Nat):Int)<(t.aq.length:Int):=by omega
  refine⟨(),?_,trivial⟩;unfold QC;by_cases hc:cC H (i:Nat)=J
  ·simp only[i1,cR,bB,ja (.inr hH),hc,i2,i3.1,i3.2,dG,cD,zf,ax.eta,k1,fJ (Aj hkn i (by simp;omega)).1 (.inr k2),hw,qY,hmap i hi]
  ·have hc:cC H (i:Nat)=G:=by simpa using hc
   simp only[i1,cR,bB,bz,ja (.inr hH),hc,hw,qY,yO,ek,ax.eta]) (λb _=>by
    unfold QC;rw[bT (by dsimp only;omega)];rfl) (b:=()) trivial
 have e1:JN M ⟨(t.aq.length:Int)-1,((0:Nat):Int),st,t,z,H,cw⟩=_:=e1;rw[hd];rw[show ((0:Nat):Int)=0 from rfl]at e1;rw[e1,show ((t.aq.length-1:Nat):Int)=(t.aq.length:Int)-1 by omega]
def atD(M:aF->ax->af Kv){vars:aa aS}{inp:Bool}{m:Nat}{st:au}(hst:dW vars.length m st)(t:ax)(hf:cY vars inp t=J)
  (hM:∀k∈t.aq,M (tr st) k=I (cv st.ai k)/\NN (cv st.ai k)):s87 M (tr st) t=I (cv st.ai t):=by
 obtain⟨⟨g1,g2,g3⟩,h24⟩:=Ot hf;have K:∀i,i<t.aq.length->M (tr st) t.aq[i]! =I (cv st.ai t.aq[i]!)/\NN (cv st.ai t.aq[i]!):=λi hi=>hM _ (bh hi);rw[O5];unfold s87 Rk;simp only[ax.eta,zA];rcases Ka t.bt g1 with ⟨h,e⟩|⟨h,e⟩|⟨h,e⟩|⟨h,e⟩|⟨h,e⟩<;>rw[e]at g2 g3<;>dsimp only at g2 g3
 ·rcases h with h|h
  ·simp only[h,cR,bB,cD,AH]
  ·obtain⟨q1,q2⟩:=h24 h;have hl:=hst.len;simp only[h,Int.reduceEq,fS,cR,bB,bz,cD,ek];rw[bD (show (0:Int)<=t.fN/\t.fN<((tr st).ai.length:Int)from⟨q1,by show t.fN<(st.ai.length:Int);omega⟩)];rfl
 ·obtain⟨k1,k2⟩:=K 0 (by omega);have m0:=mapA (vars:=st.ai) (show 0<t.aq.length by omega);have i1:(t.aq.length:Int)=1:=by omega
  rcases h with h|h
  ·simp only[h,Int.reduceEq,fS,cR,bB,bz,i1,cD,ek,k1,m0,dG,Px (.inr k2),Int.reduceLT,Int.reduceLE]
  ·simp only[h,Int.reduceEq,fS,cR,bB,bz,i1,cD,ek,k1,m0,dG,Px (.inr k2),Int.reduceLT,Int.reduceLE]
 ·obtain⟨k1,k2⟩:=K 0 (by omega);obtain⟨l1,l2⟩:=K 1 (by omega);have m0:=mapA (vars:=st.ai) (show 0<t.aq.length by omega);have m1:=mapA (vars:=st.ai) (show 1<t.aq.length by omega);have hlen:(t.aq.length:Int)=2:=by omega
  obtain⟨c,_,hb,hn⟩:=mH t.bt k2 l2;have n0:t.bt≠0:=by omega
  have n1:t.bt≠24:=by omega
  have n2:t.bt≠6:=by omega
  have n3:t.bt≠7:=by omega
  have n4:t.bt≠23:=by omega
  have n5:t.bt≠25:=by omega
  simp only[n0,n1,n2,n3,n4,n5,fS,bz,hlen,ek,k1,l1,hb,m0,m1,Int.reduceEq,Int.reduceLT,Int.reduceLE,dG,cD]
 ·obtain⟨k1,k2⟩:=K 0 (by omega);obtain⟨l1,l2⟩:=K 1 (by omega);obtain⟨p1,p2⟩:=K 2 (by omega);have m0:=mapA (vars:=st.ai) (show 0<t.aq.length by omega);have m1:=mapA (vars:=st.ai) (show 1<t.aq.length by omega);have m2:=mapA (vars:=st.ai) (show 2<t.aq.length by omega);have hlen:(t.aq.length:Int)=3:=by omega
  simp only[h,Int.reduceEq,fS,cR,bB,bz,hlen,cD,ek,k1,l1,p1,m0,m1,m2,ng (.inr k2),fJ (.inr l2) (.inr p2),Int.reduceLT,Int.reduceLE,dG];cases cC (cv st.ai t.aq[0]!) 0<;>cases cl (cv st.ai t.aq[0]!)<;>rfl
 ·obtain⟨k1,k2⟩:=K 0 (by omega);have m0:=mapA (vars:=st.ai) (show 0<t.aq.length by omega);have w:i64.wrap ((t.aq.length:Int)-(2:Int))=(t.aq.length:Int)-(2:Int):=aI;have w1:i64.wrap ((t.aq.length:Int)-(1:Int))=(t.aq.length:Int)-(1:Int):=aI;obtain⟨c,_,hcl,hcn,_⟩:=gD k2 0 ((t.aq.length:Int)-(2:Int));simp only[h,Int.reduceEq,fS,cR,bB,bz,cD,ek,k1,m0,w,w1];rw[ga,hcl];generalize hO (cv st.ai t.aq[0]!) 0 ((t.aq.length:Int)-(2:Int))=H at*;have e2:=Zl M (vars:=st.ai) (st:=tr st) (t:=t) (by omega) (by omega) K (H:=H) hcn ⟨0,0,0⟩;dsimp only;rw[show oD=cw from rfl,e2];dsimp only;rw[eH,bz,<-xd,zA]
def agN{vars:aa aS}{inp:Bool}{m:Nat}{st:au}(hst:dW vars.length m st):∀(n:Nat) (t:ax),zh t<n->cY vars inp t=J->(fR vars t).isSome=J->m87 n (tr st) t=I (cv st.ai t)
 |0,_,h,_,_=>by omega
 |n+1,t,h,hf,hs=>atD (m87 n) hst t hf (λk hk=>⟨agN hst n k (by have:=ax.dY hk;omega) (oW hf hk) (Bu hs k hk),(F5 hst (zh k+1) k (by omega) (oW hf hk) (Bu hs k hk)).2⟩)
def QB{vars:aa aS}{inp:Bool}{m:Nat}{st:au}(hst:dW vars.length m st)(t:ax)(hc:dN vars inp t=0):Lc (tr st) t=I (cv st.ai t):=
 dS (zh t+1) λn hn=>agN hst n t (by omega) (pU hc).1 (pU hc).2
def gQ{vars:aa aS}{inp:Bool}{m:Nat}{st:au}(hst:dW vars.length m st)(t:ax)(hc:dN vars inp t=0):NN (cv st.ai t):=
 (F5 hst (zh t+1) t (by omega) (pU hc).1 (pU hc).2).2
abbrev E82:=aH
def d82:Td 0 E82:= .c [] [4] (.r 0 1 (ec 4 (qp 0 0) en) (sb 0 34 (lg 34) sn) (λz=>z.2.1) (λx=>(((),()),(x,()))))
def Np(a0:au)(a1:ax):af E82:=
 match Y0 (ax.mk a1.bt a1.fN a1.aq) a0 with|S=>S|I r1=>I (r1.fst)
def e82:=eL wJ 82 G (lc (qg 128) (lc (qg 137) ln)) d82 (λg=>Np g.1 g.2.1)
def Hu:EO e82:=λh=>kL (an:= .no) func82 (Y2 aQ) aG h
abbrev E40:=aa aH
def d40:Td 0 E40:= .c [] [2] (.t (cE.s 2 [] 34) (.c [] [2] (.r 0 1 (ec 2 (qo 0) en) (sr 0 34 sn) (λz=>z.2.1) (λx=>(((),()),(x,()))))))
def A40:=(lc (ql 34) ln)
def m40(a0:aa aH):af E40:=if a0.length<=1073741824 then I a0 else S
def ajg:dB wJ cZ 0 300 40 .no:=bO (l:=[]) func40 (bq (by kernel_rfl)) (by kernel_rfl) aG
def awA(x:aH)(xs:aa aH):bQ wJ cZ 300 .no 40 [.sl 34 (x::xs)] [] 0 d40.rd=if([]++(x::xs)).length<=1073741824 then I ([]++(x::xs))else S:=by kernel_rfl
def aw7(c:Nat):bQ wJ cZ 300 .no 40 [.lit (.slice S 0 c)] [] 0 d40.rd=I []:=by kernel_rfl
def avA(a:Addr)(c:Nat):bQ wJ cZ 300 .no 40 [.lit (.slice (I a) 0 c)] [] 0 d40.rd=I []:=by kernel_rfl
def h40:HL wJ 40 A40 d40 (λg=>m40 g.1):=λg r h=>by
 obtain⟨a0,_⟩:=g;have h:m40 a0=I r:=h;cases a0 with
 |cons x xs=>exact(kW (out:=λp=>iD wJ 40 0 (d40.pat p)) (p:=r) aQ ajg d40.ok (λp=>by kernel_rfl) (jv (by kernel_rfl)) (jg (by kernel_rfl)) ((awA x xs).trans (by rw[yg];exact h))).2
 |nil=>
  cases h;exact Qu (λc=>(kW (out:=λp=>iD wJ 40 0 (d40.pat p)) (p:=[]) aQ ajg d40.ok (λp=>by kernel_rfl) (jv (by kernel_rfl)) (jg (by kernel_rfl)) (aw7 c)).2) (λa c=>(kW (out:=λp=>iD wJ 40 0 (d40.pat p)) (p:=[]) aQ ajg d40.ok (λp=>by kernel_rfl) (jv (by kernel_rfl)) (jg (by kernel_rfl)) (avA a c)).2)
def e40:=eL wJ 40 G A40 d40 (λg=>m40 g.1)
def AY{F:aW}(h:aV wJ F):aV wJ (e40 F):=dU (sc:=jR) cy h40 ⟨_,func40,by kernel_rfl,by kernel_rfl⟩ (λ_=>by kernel_rfl) (λ_=>by kernel_rfl) h
abbrev apN:=au
def d235:Td 0 apN:= .c [] [2] (.r 0 3 (ec 2 (qp 0 0) en) (sb 0 128 (lc (qo 1) (aM (aM (aM (lc (qo 2) (aM (aM (aM ln)))))))) (sr 1 34 (sr 2 34 sn))) (λz=>(au.mk z.t.1 (aH.mk z.2.1.2.1 z.2.1.t.1 z.2.1.t.2.1) z.t.2.1 (aH.mk z.2.1.q.2.1 z.2.1.q.t.1 z.2.1.q.t.2.1))) (λx=>(((),()),(((),x.aA.ag,x.aA.ah,x.aA.aj,(),x.aD.ag,x.aD.ah,x.aD.aj,()),x.ai,x.az,()))))
def DI(a0:au):af apN:=
 match m40 a0.ai with|S=>S|I r1=>match m40 a0.az with|S=>S|I r2=>I (au.mk r1 a0.aA r2 a0.aD)
def alZ:=eL wJ 235 G (lc (qg 128) ln) d235 (λg=>DI g.1)
def rZ:EO alZ:=λh=>kL (an:= .no) func235 (AY aQ) aG h
structure uo where
 t46:List aH
 (t47 t48:Int)
 (b0 b1:au)
def Nu:Td 0 uo:= .c [] [4,5,46,47,48] (.r 0 4 (ec 4 (qp 0 0) (ec 5 (qp 1 0) (ec 46 (ql 34) (ec 47 aL (ec 48 aL en))))) (sb 0 128 (lc qn (aM (aM (aM (lc qn (aM (aM (aM ln)))))))) (sb 1 128 (lc (qo 2) (aM (aM (aM (lc (qo 3) (aM (aM (aM ln)))))))) (sr 2 34 (sr 3 34 sn)))) (λz=>⟨z.1.t.1,z.1.t.2.1,z.1.q.1,(au.mk [] (aH.mk z.2.1.2.1 z.2.1.t.1 z.2.1.t.2.1) [] (aH.mk z.2.1.q.2.1 z.2.1.q.t.1 z.2.1.q.t.2.1)),(au.mk z.t.2.1 (aH.mk z.t.1.2.1 z.t.1.t.1 z.t.1.t.2.1) z.q.1 (aH.mk z.t.1.q.2.1 z.t.1.q.t.1 z.t.1.q.t.2.1))⟩) (λx=>(((),(),x.t46,x.t47,x.t48,()),(((),x.b0.aA.ag,x.b0.aA.ah,x.b0.aA.aj,(),x.b0.aD.ag,x.b0.aD.ah,x.b0.aD.aj,()),((),x.b1.aA.ag,x.b1.aA.ah,x.b1.aA.aj,(),x.b1.aD.ag,x.b1.aD.ah,x.b1.aD.aj,()),x.b1.ai,x.b1.az,()))))
def Fh(p:uo):af (af uo):=
 bif O (p.t48<p.t47)then if 0<=p.t48/\p.t48<p.t46.length then bif O (p.t48<p.b1.az.length)then if 0<=p.t48/\p.t48<p.b1.az.length then if 34=34/\p.t48.toNat<p.b1.az.length then match sX p.b1.az[p.t48.toNat]! p.t46[p.t48.toNat]! with|S=>S|I r2=>if 0<=p.t48/\p.t48<p.b1.az.length then if 34=34/\p.t48.toNat<p.b1.az.length then I (I (uo.mk p.t46 p.t47 (i64.wrap (p.t48+1)) (au.mk [] p.b0.aA [] p.b0.aD) (au.mk p.b1.ai p.b1.aA (p.b1.az.set p.t48.toNat r2) p.b1.aD)))else S else S else S else S else if(p.b1.az++[p.t46[p.t48.toNat]!]).length<=1073741824 then I (I (uo.mk p.t46 p.t47 (i64.wrap (p.t48+1)) (au.mk [] p.b0.aA [] p.b0.aD) (au.mk p.b1.ai p.b1.aA (p.b1.az++[p.t46[p.t48.toNat]!]) p.b1.aD)))else S else S else I (S)
def Gy:=bG (Fh)
structure AR where
 (t13 t14:Int)
 (b0 b1 b2:au)
def LK:Td 0 AR:= .c [] [3,4,5,13,14] (.r 0 5 (ec 3 (qp 0 0) (ec 4 (qp 1 0) (ec 5 (qp 2 0) (ec 13 aL (ec 14 aL en))))) (sb 0 128 (lg 128) (sb 1 128 (lc qn (aM (aM (aM (lc qn (aM (aM (aM ln)))))))) (sb 2 128 (lc (qo 3) (aM (aM (aM (lc (qo 4) (aM (aM (aM ln)))))))) (sr 3 34 (sr 4 34 sn))))) (λz=>⟨z.1.t.2.1,z.1.q.1,z.2.1,(au.mk [] (aH.mk z.t.1.2.1 z.t.1.t.1 z.t.1.t.2.1) [] (aH.mk z.t.1.q.2.1 z.t.1.q.t.1 z.t.1.q.t.2.1)),(au.mk z.q.1 (aH.mk z.t.2.1.2.1 z.t.2.1.t.1 z.t.2.1.t.2.1) z.q.2.1 (aH.mk z.t.2.1.q.2.1 z.t.2.1.q.t.1 z.t.2.1.q.t.2.1))⟩) (λx=>(((),(),(),x.t13,x.t14,()),(x.b0,((),x.b1.aA.ag,x.b1.aA.ah,x.b1.aA.aj,(),x.b1.aD.ag,x.b1.aD.ah,x.b1.aD.aj,()),((),x.b2.aA.ag,x.b2.aA.ah,x.b2.aA.aj,(),x.b2.aD.ag,x.b2.aD.ah,x.b2.aD.aj,()),x.b2.ai,x.b2.az,()))))
def F8(p:AR):af (af AR):=
 bif O (p.t14<p.t13)then if 0<=p.t14/\p.t14<p.b2.ai.length then if 34=34/\p.t14.toNat<p.b2.ai.length then if 0<=p.t14/\p.t14<p.b0.ai.length then match sX p.b2.ai[p.t14.toNat]! p.b0.ai[p.t14.toNat]! with|S=>S|I r1=>if 0<=p.t14/\p.t14<p.b2.ai.length then if 34=34/\p.t14.toNat<p.b2.ai.length then I (I (AR.mk p.t13 (i64.wrap (p.t14+1)) p.b0 (au.mk [] p.b1.aA [] p.b1.aD) (au.mk (p.b2.ai.set p.t14.toNat r1) p.b2.aA p.b2.az p.b2.aD)))else S else S else S else S else S else I (S)
def EY:=bG (F8)
abbrev aoW:=au
def d236:Td 0 aoW:= .c [] [4] (.r 0 3 (ec 4 (qp 0 0) en) (sb 0 128 (lc (qo 1) (aM (aM (aM (lc (qo 2) (aM (aM (aM ln)))))))) (sr 1 34 (sr 2 34 sn))) (λz=>(au.mk z.t.1 (aH.mk z.2.1.2.1 z.2.1.t.1 z.2.1.t.2.1) z.t.2.1 (aH.mk z.2.1.q.2.1 z.2.1.q.t.1 z.2.1.q.t.2.1))) (λx=>(((),()),(((),x.aA.ag,x.aA.ah,x.aA.aj,(),x.aD.ag,x.aD.ah,x.aD.aj,()),x.ai,x.az,()))))
def HP(a0:au)(a1:au):af aoW:=
 match DI a0 with|S=>S|I r3=>match EY (AR.mk r3.ai.length 0 a1 (au.mk [] (aH.mk 0 0 0) [] (aH.mk 0 0 0)) r3)with|S=>S|I r4=>bif O (r4.t14<r4.t13)then if 0<=r4.t14/\r4.t14<r4.b2.ai.length then if 34=34/\r4.t14.toNat<r4.b2.ai.length then if 0<=r4.t14/\r4.t14<r4.b0.ai.length then match sX r4.b2.ai[r4.t14.toNat]! r4.b0.ai[r4.t14.toNat]! with|S=>S|I r5=>if 0<=r4.t14/\r4.t14<r4.b2.ai.length then if 34=34/\r4.t14.toNat<r4.b2.ai.length then S else S else S else S else S else S else match sX r4.b2.aA r4.b0.aA with|S=>S|I r6=>match sX r4.b2.aD r4.b0.aD with|S=>S|I r7=>match Gy (uo.mk r4.b0.az r4.b0.az.length 0 (au.mk [] r4.b1.aA [] r4.b1.aD) (au.mk r4.b2.ai r6 r4.b2.az r7))with|S=>S|I r8=>bif O (r8.t48<r8.t47)then if 0<=r8.t48/\r8.t48<r8.t46.length then bif O (r8.t48<r8.b1.az.length)then if 0<=r8.t48/\r8.t48<r8.b1.az.length then if 34=34/\r8.t48.toNat<r8.b1.az.length then match sX r8.b1.az[r8.t48.toNat]! r8.t46[r8.t48.toNat]! with|S=>S|I r9=>if 0<=r8.t48/\r8.t48<r8.b1.az.length then if 34=34/\r8.t48.toNat<r8.b1.az.length then S else S else S else S else S else if(r8.b1.az++[r8.t46[r8.t48.toNat]!]).length<=1073741824 then S else S else S else I (r8.b1)
def ali:=eL wJ 236 G (lc (qg 128) (lc (qg 128) ln)) d236 (λg=>HP g.1 g.2.1)
def Pg:EO ali:=λh=>kL (an:=(noTwo (noTwo (.two (noTwo (LK.lp EY .no)) (noTwo (noTwo (.two (noTwo (Nu.lp Gy .no)) .no))))))) (l:=[(bg f236 0,(LK.lp EY .no)),(bg f236 1,(Nu.lp Gy .no))]) func236 (rZ (FK aQ)) (aC (aO LK) (aC (aO Nu) aG)) h
def akQ:aW:=(aiA (e80 cZ))
def YG:aV wJ akQ:=(FH (Hx aQ))
abbrev asb:=au
def d157:Td 0 asb:= .c [] [4] (.r 0 1 (ec 4 (qp 0 0) en) (sb 0 128 (lg 128) sn) (λz=>z.2.1) (λx=>(((),()),(x,()))))
def aq6:=(lc (qg 128) (aM ln))
def agy:An:= .no
def aqI:dB wJ (akQ) 0 300 157 (agy):=bO (l:=[]) func157 (bq (by kernel_rfl)) (by kernel_rfl) aG
def KE(a0:au)(a1:Int):af asb:=
 match sF (8) a0.aD (Pj a1)with|S=>S|I r1=>I (au.mk a0.ai a0.aA a0.az r1.fst)
def avW(a0:au)(a1:Int):bQ wJ (akQ) 300 (agy) 157 (aq6.c (a0,a1,())) [] 0 d157.rd=KE a0 a1:=by kernel_rfl
def aj0:aW->aW:=eZ wJ 157 aq6 d157 (λg=>KE g.1 g.2.1)
def Qi{F:aW}(h:aV wJ F):aV wJ (aj0 F):=od (cS YG aqI (λ_=>by kernel_rfl) (λ_=>by kernel_rfl) λg=>avW g.1 g.2.1) ⟨_,func157,by kernel_rfl,by kernel_rfl⟩ (λ_=>by kernel_rfl) h
abbrev arG:=au
def d158:Td 0 arG:= .c [] [8] (.r 0 3 (ec 8 (qp 0 0) en) (sb 0 128 (lc (qo 1) (aM (aM (aM (lc (qo 2) (aM (aM (aM ln)))))))) (sr 1 34 (sr 2 34 sn))) (λz=>(au.mk z.t.1 (aH.mk z.2.1.2.1 z.2.1.t.1 z.2.1.t.2.1) z.t.2.1 (aH.mk z.2.1.q.2.1 z.2.1.q.t.1 z.2.1.q.t.2.1))) (λx=>(((),()),(((),x.aA.ag,x.aA.ah,x.aA.aj,(),x.aD.ag,x.aD.ah,x.aD.aj,()),x.ai,x.az,()))))
def Nr(a0:Runner)(a1:au)(a2:Int)(a3:aH):af arG:=
 match DI a1 with|S=>S|I r1=>if 0<=a2/\a2<a0.fF.ai.length then match m81 a3 a0.fF.ai[a2.toNat]!.ag a0.fF.ai[a2.toNat]!.ah with|S=>S|I r2=>if 0<=a2/\a2<r1.ai.length then if 34=34/\a2.toNat<r1.ai.length then I (au.mk (r1.ai.set a2.toNat r2.fst) r1.aA r1.az r1.aD)else S else S else S
def aqg:=eL wJ 158 G (lc (qg 133) (lc (qg 128) (aM (lc (qg 34) ln)))) d158 (λg=>Nr g.1 g.2.1 g.t.1 g.t.2.1)
def acU:EO aqg:=λh=>kL (an:= .no) func158 (rZ (Lk aQ)) aG h
structure vk where
 (t10 t11:Int)
 b0:au
 b1:aH
 b2:au
def Ns:Td 0 vk:= .c [] [2,3,4,10,11] (.r 0 5 (ec 2 (qp 0 0) (ec 3 (qp 1 0) (ec 4 (qp 2 0) (ec 10 aL (ec 11 aL en))))) (sb 0 128 (lc (qo 3) (aM (aM (aM (lc (qo 4) (aM (aM (aM ln)))))))) (sb 1 34 (lg 34) (sb 2 128 (lc qn (aM (aM (aM (lc qn (aM (aM (aM ln)))))))) (sr 3 34 (sr 4 34 sn))))) (λz=>⟨z.1.t.2.1,z.1.q.1,(au.mk z.q.1 (aH.mk z.2.1.2.1 z.2.1.t.1 z.2.1.t.2.1) z.q.2.1 (aH.mk z.2.1.q.2.1 z.2.1.q.t.1 z.2.1.q.t.2.1)),z.t.1,(au.mk [] (aH.mk z.t.2.1.2.1 z.t.2.1.t.1 z.t.2.1.t.2.1) [] (aH.mk z.t.2.1.q.2.1 z.t.2.1.q.t.1 z.t.2.1.q.t.2.1))⟩) (λx=>(((),(),(),x.t10,x.t11,()),(((),x.b0.aA.ag,x.b0.aA.ah,x.b0.aA.aj,(),x.b0.aD.ag,x.b0.aD.ah,x.b0.aD.aj,()),x.b1,((),x.b2.aA.ag,x.b2.aA.ah,x.b2.aA.aj,(),x.b2.aD.ag,x.b2.aD.ah,x.b2.aD.aj,()),x.b0.ai,x.b0.az,()))))
def Gb(p:vk):af (af vk):=
 bif O (p.t11<p.t10)then match m92 p.b0.aA p.t11 with|S=>S|I r1=>bif r1 then if 0<=p.t11/\p.t11<p.b0.az.length then if 34=34/\p.t11.toNat<p.b0.az.length then match sX p.b0.az[p.t11.toNat]! p.b1 with|S=>S|I r2=>if 0<=p.t11/\p.t11<p.b0.az.length then if 34=34/\p.t11.toNat<p.b0.az.length then I (I (vk.mk p.t10 (i64.wrap (p.t11+1)) (au.mk p.b0.ai p.b0.aA (p.b0.az.set p.t11.toNat r2) p.b0.aD) p.b1 (au.mk [] p.b2.aA [] p.b2.aD)))else S else S else S else S else I (I (vk.mk p.t10 (i64.wrap (p.t11+1)) p.b0 p.b1 (au.mk [] p.b2.aA [] p.b2.aD)))else I (S)
def G0:=bG (Gb)
abbrev arT:=au
def d159:Td 0 arT:= .c [] [4] (.r 0 3 (ec 4 (qp 0 0) en) (sb 0 128 (lc (qo 1) (aM (aM (aM (lc (qo 2) (aM (aM (aM ln)))))))) (sr 1 34 (sr 2 34 sn))) (λz=>(au.mk z.t.1 (aH.mk z.2.1.2.1 z.2.1.t.1 z.2.1.t.2.1) z.t.2.1 (aH.mk z.2.1.q.2.1 z.2.1.q.t.1 z.2.1.q.t.2.1))) (λx=>(((),()),(((),x.aA.ag,x.aA.ah,x.aA.aj,(),x.aD.ag,x.aD.ah,x.aD.aj,()),x.ai,x.az,()))))
def Wv(a0:au)(a1:aH):af arT:=
 match DI a0 with|S=>S|I r3=>match G0 (vk.mk r3.az.length 0 r3 a1 (au.mk [] (aH.mk 0 0 0) [] (aH.mk 0 0 0)))with|S=>S|I r4=>bif O (r4.t11<r4.t10)then match m92 r4.b0.aA r4.t11 with|S=>S|I r5=>bif r5 then if 0<=r4.t11/\r4.t11<r4.b0.az.length then if 34=34/\r4.t11.toNat<r4.b0.az.length then match sX r4.b0.az[r4.t11.toNat]! r4.b1 with|S=>S|I r6=>if 0<=r4.t11/\r4.t11<r4.b0.az.length then if 34=34/\r4.t11.toNat<r4.b0.az.length then S else S else S else S else S else S else if(r4.b0.az++[r4.b1]).length<=1073741824 then match sF 8 r4.b0.aA (Pj 1)with|S=>S|I r7=>I (au.mk r4.b0.ai r7.fst (r4.b0.az++[r4.b1]) r4.b0.aD)else S
def auq:=eL wJ 159 G (lc (qg 128) (lc (qg 34) ln)) d159 (λg=>Wv g.1 g.2.1)
def aaS:EO auq:=λh=>kL (an:=(noTwo (noTwo (.two (noTwo (Ns.lp G0 .no)) .no)))) (l:=[(bg f159 0,(Ns.lp G0 .no))]) func159 (rZ (FH (FK (N4 (Hx aQ))))) (aC (aO Ns) aG) h
abbrev pJ:=au
def d83:Td 0 pJ:= .c [] [6] (.r 0 1 (ec 6 (qp 0 0) en) (sb 0 128 (lg 128) sn) (λz=>z.2.1) (λx=>(((),()),(x,()))))
def A83:=(lc (qg 133) (lc (ql 166) (lc (qg 128) ln)))
def x83(M:Runner->(aa ay)->au->af pJ):aW->aW:=eZ wJ 83 A83 d83 (λg=>M g.1 g.2.1 g.2.2.1)
def H83(M:Runner->(aa ay)->au->af pJ):Prop:=HL wJ 83 A83 d83 (λg=>M g.1 g.2.1 g.2.2.1)
def LG{M:Runner->(aa ay)->au->af pJ}(hM:H83 M){F:aW}(h:aV wJ F):aV wJ (x83 M F):=od hM ⟨_,func83,by kernel_rfl,by kernel_rfl⟩ (λ_=>by kernel_rfl) h
abbrev gH:=au
def d156:Td 0 gH:= .c [] [6] (.r 0 1 (ec 6 (qp 0 0) en) (sb 0 128 (lg 128) sn) (λz=>z.2.1) (λx=>(((),()),(x,()))))
def ajr:=(lc (qg 133) (lc (qg 166) (lc (qg 128) ln)))
def atH(M:Runner->ay->au->af gH):aW->aW:=eZ wJ 156 ajr d156 (λg=>M g.1 g.2.1 g.2.2.1)
def XV(M:Runner->ay->au->af gH):Prop:=HL wJ 156 ajr d156 (λg=>M g.1 g.2.1 g.2.2.1)
def aeN{M:Runner->ay->au->af gH}(hM:XV M){F:aW}(h:aV wJ F):aV wJ (atH M F):=od hM ⟨_,func156,by kernel_rfl,by kernel_rfl⟩ (λ_=>by kernel_rfl) h
abbrev gF:=au
def d160:Td 0 gF:= .c [] [6] (.t (cE.fc 0 0 []) (.t (cE.fc 0 4 []) (.c [] [6] (.r 0 1 (ec 6 (qp 0 0) en) (sb 0 128 (lg 128) sn) (λz=>z.2.1) (λx=>(((),()),(x,())))))))
def aj2:=(lc (qg 133) (lc (qg 166) (lc (qg 128) ln)))
def apu(M:Runner->ay->au->af gF):aW->aW:=eZ wJ 160 aj2 d160 (λg=>M g.1 g.2.1 g.2.2.1)
def WG(M:Runner->ay->au->af gF):Prop:=HL wJ 160 aj2 d160 (λg=>M g.1 g.2.1 g.2.2.1)
def Zg{M:Runner->ay->au->af gF}(hM:WG M){F:aW}(h:aV wJ F):aV wJ (apu M F):=od hM ⟨_,func160,by kernel_rfl,by kernel_rfl⟩ (λ_=>by kernel_rfl) h
def F83(M83:Runner->(aa ay)->au->af pJ)(M156:Runner->ay->au->af gH)(M160:Runner->ay->au->af gF):aW:=(apr (apu M160 (auq (aqg (aj0 (atH M156 (e82 cZ)))))))
def alw{M83 M156 M160}(h83:H83 M83)(h156:XV M156)(h160:WG M160):aV wJ (F83 M83 M156 M160):=(aeK (Zg h160 (aaS (acU (Qi (aeN h156 (Hu aQ)))))))
structure nQ where
 t9:List ay
 (t10 t11:Int)
 b0:Runner
 (b1 b2:au)
def Xw:Td 0 nQ:= .c [] [3,5,6,9,10,11] (.t (cE.fc 1 0 []) (.t (cE.fc 1 4 []) (.c [] [3,5,6,9,10,11] (.r 0 3 (ec 3 (qp 0 0) (ec 5 (qp 1 0) (ec 6 (qp 2 0) (ec 9 (ql 166) (ec 10 aL (ec 11 aL en)))))) (sb 0 133 (lg 133) (sb 1 128 (lg 128) (sb 2 128 (lc qn (aM (aM (aM (lc qn (aM (aM (aM ln)))))))) sn))) (λz=>⟨z.1.t.2.1,z.1.q.1,z.1.q.2.1,z.2.1,z.t.1,(au.mk [] (aH.mk z.t.2.1.2.1 z.t.2.1.t.1 z.t.2.1.t.2.1) [] (aH.mk z.t.2.1.q.2.1 z.t.2.1.q.t.1 z.t.2.1.q.t.2.1))⟩) (λx=>(((),(),(),x.t9,x.t10,x.t11,()),(x.b0,x.b1,((),x.b2.aA.ag,x.b2.aA.ah,x.b2.aA.aj,(),x.b2.aD.ag,x.b2.aD.ah,x.b2.aD.aj,()),())))))))
def Q8(M83:Runner->(aa ay)->au->af pJ)(M156:Runner->ay->au->af gH)(M160:Runner->ay->au->af gF)(p:nQ):af (af nQ):=
 bif O (p.t11<p.t10)then if 0<=p.t11/\p.t11<p.t9.length then bif O (p.t9[p.t11.toNat]!.bX=4)then match M156 p.b0 (ay.mk p.t9[p.t11.toNat]!.bX p.t9[p.t11.toNat]!.aR p.t9[p.t11.toNat]!.cX p.t9[p.t11.toNat]!.fN (ax.mk p.t9[p.t11.toNat]!.aB.bt p.t9[p.t11.toNat]!.aB.fN p.t9[p.t11.toNat]!.aB.aq) p.t9[p.t11.toNat]!.aK p.t9[p.t11.toNat]!.aN p.t9[p.t11.toNat]!.aJ) p.b1 with|S=>S|I r1=>I (I (nQ.mk p.t9 p.t10 (i64.wrap (p.t11+1)) p.b0 r1 (au.mk [] p.b2.aA [] p.b2.aD)))else match KE p.b1 p.t9[p.t11.toNat]!.aR with|S=>S|I r2=>bif O (p.t9[p.t11.toNat]!.bX=0)then match Np r2 (ax.mk p.t9[p.t11.toNat]!.aB.bt p.t9[p.t11.toNat]!.aB.fN p.t9[p.t11.toNat]!.aB.aq)with|S=>S|I r3=>match Nr p.b0 r2 p.t9[p.t11.toNat]!.cX r3 with|S=>S|I r4=>I (I (nQ.mk p.t9 p.t10 (i64.wrap (p.t11+1)) p.b0 r4 (au.mk [] p.b2.aA [] p.b2.aD)))else bif O (p.t9[p.t11.toNat]!.bX=5)then if 0<=p.t9[p.t11.toNat]!.fN/\p.t9[p.t11.toNat]!.fN<p.b0.ak.length then match Nr p.b0 r2 p.t9[p.t11.toNat]!.cX p.b0.ak[p.t9[p.t11.toNat]!.fN.toNat]! with|S=>S|I r5=>I (I (nQ.mk p.t9 p.t10 (i64.wrap (p.t11+1)) p.b0 r5 (au.mk [] p.b2.aA [] p.b2.aD)))else S else bif O (p.t9[p.t11.toNat]!.bX=1)then match Np r2 (ax.mk p.t9[p.t11.toNat]!.aB.bt p.t9[p.t11.toNat]!.aB.fN p.t9[p.t11.toNat]!.aB.aq)with|S=>S|I r6=>match Wv r2 r6 with|S=>S|I r7=>I (I (nQ.mk p.t9 p.t10 (i64.wrap (p.t11+1)) p.b0 r7 (au.mk [] p.b2.aA [] p.b2.aD)))else bif O (p.t9[p.t11.toNat]!.bX=3)then match M160 p.b0 (ay.mk p.t9[p.t11.toNat]!.bX p.t9[p.t11.toNat]!.aR p.t9[p.t11.toNat]!.cX p.t9[p.t11.toNat]!.fN (ax.mk p.t9[p.t11.toNat]!.aB.bt p.t9[p.t11.toNat]!.aB.fN p.t9[p.t11.toNat]!.aB.aq) p.t9[p.t11.toNat]!.aK p.t9[p.t11.toNat]!.aN p.t9[p.t11.toNat]!.aJ) r2 with|S=>S|I r8=>I (I (nQ.mk p.t9 p.t10 (i64.wrap (p.t11+1)) p.b0 r8 (au.mk [] p.b2.aA [] p.b2.aD)))else bif O (p.t9[p.t11.toNat]!.bX=6)then match JF r2.aD p.t9[p.t11.toNat]!.aJ with|S=>S|I r9=>I (I (nQ.mk p.t9 p.t10 (i64.wrap (p.t11+1)) p.b0 (au.mk r2.ai r2.aA r2.az r9.fst) (au.mk [] p.b2.aA [] p.b2.aD)))else I (I (nQ.mk p.t9 p.t10 (i64.wrap (p.t11+1)) p.b0 r2 (au.mk [] p.b2.aA [] p.b2.aD)))else S else I (S)
def OP(M83:Runner->(aa ay)->au->af pJ)(M156:Runner->ay->au->af gH)(M160:Runner->ay->au->af gF):=bG (Q8 M83 M156 M160)
def ao8(M83:Runner->(aa ay)->au->af pJ)(M156:Runner->ay->au->af gH)(M160:Runner->ay->au->af gF):An:=(noTwo (.two (noTwo (Xw.lp (OP M83 M156 M160) .no)) .no))
def awn(M83:Runner->(aa ay)->au->af pJ)(M156:Runner->ay->au->af gH)(M160:Runner->ay->au->af gF):dB wJ (F83 M83 M156 M160) 0 300 83 (ao8 M83 M156 M160):=bO (l:=[(bg f83 0,(Xw.lp (OP M83 M156 M160) .no))]) func83 (bq (by kernel_rfl)) (by kernel_rfl) (aC (aO Xw) aG)
def s83(M83:Runner->(aa ay)->au->af pJ)(M156:Runner->ay->au->af gH)(M160:Runner->ay->au->af gF)(a0:Runner)(a1:aa ay)(a2:au):af pJ:=
 match OP M83 M156 M160 (nQ.mk a1 a1.length 0 a0 a2 (au.mk [] (aH.mk 0 0 0) [] (aH.mk 0 0 0)))with|S=>S|I r10=>bif O (r10.t11<r10.t10)then if 0<=r10.t11/\r10.t11<r10.t9.length then bif O (r10.t9[r10.t11.toNat]!.bX=4)then match M156 r10.b0 (ay.mk r10.t9[r10.t11.toNat]!.bX r10.t9[r10.t11.toNat]!.aR r10.t9[r10.t11.toNat]!.cX r10.t9[r10.t11.toNat]!.fN (ax.mk r10.t9[r10.t11.toNat]!.aB.bt r10.t9[r10.t11.toNat]!.aB.fN r10.t9[r10.t11.toNat]!.aB.aq) r10.t9[r10.t11.toNat]!.aK r10.t9[r10.t11.toNat]!.aN r10.t9[r10.t11.toNat]!.aJ) r10.b1 with|S=>S|I r11=>S else match KE r10.b1 r10.t9[r10.t11.toNat]!.aR with|S=>S|I r12=>bif O (r10.t9[r10.t11.toNat]!.bX=0)then match Np r12 (ax.mk r10.t9[r10.t11.toNat]!.aB.bt r10.t9[r10.t11.toNat]!.aB.fN r10.t9[r10.t11.toNat]!.aB.aq)with|S=>S|I r13=>match Nr r10.b0 r12 r10.t9[r10.t11.toNat]!.cX r13 with|S=>S|I r14=>S else bif O (r10.t9[r10.t11.toNat]!.bX=5)then if 0<=r10.t9[r10.t11.toNat]!.fN/\r10.t9[r10.t11.toNat]!.fN<r10.b0.ak.length then match Nr r10.b0 r12 r10.t9[r10.t11.toNat]!.cX r10.b0.ak[r10.t9[r10.t11.toNat]!.fN.toNat]! with|S=>S|I r15=>S else S else bif O (r10.t9[r10.t11.toNat]!.bX=1)then match Np r12 (ax.mk r10.t9[r10.t11.toNat]!.aB.bt r10.t9[r10.t11.toNat]!.aB.fN r10.t9[r10.t11.toNat]!.aB.aq)with|S=>S|I r16=>match Wv r12 r16 with|S=>S|I r17=>S else bif O (r10.t9[r10.t11.toNat]!.bX=3)then match M160 r10.b0 (ay.mk r10.t9[r10.t11.toNat]!.bX r10.t9[r10.t11.toNat]!.aR r10.t9[r10.t11.toNat]!.cX r10.t9[r10.t11.toNat]!.fN (ax.mk r10.t9[r10.t11.toNat]!.aB.bt r10.t9[r10.t11.toNat]!.aB.fN r10.t9[r10.t11.toNat]!.aB.aq) r10.t9[r10.t11.toNat]!.aK r10.t9[r10.t11.toNat]!.aN r10.t9[r10.t11.toNat]!.aJ) r12 with|S=>S|I r18=>S else bif O (r10.t9[r10.t11.toNat]!.bX=6)then match JF r12.aD r10.t9[r10.t11.toNat]!.aJ with|S=>S|I r19=>S else S else S else I (r10.b1)
def c83(M83:Runner->(aa ay)->au->af pJ)(M156:Runner->ay->au->af gH)(M160:Runner->ay->au->af gF)(a0:Runner)(a1:aa ay)(a2:au):bQ wJ (F83 M83 M156 M160) 300 (ao8 M83 M156 M160) 83 (A83.c (a0,a1,a2,())) [] 0 d83.rd=s83 M83 M156 M160 a0 a1 a2:=by kernel_rfl
def ajt(M83:Runner->(aa ay)->au->af pJ)(M156:Runner->ay->au->af gH)(M160:Runner->ay->au->af gF):aW:=(ali (alZ (aj0 (Zt (x83 M83 (e82 cZ))))))
def YF{M83 M156 M160}(h83:H83 M83)(h156:XV M156)(h160:WG M160):aV wJ (ajt M83 M156 M160):=(Pg (rZ (Qi (Hl (LG h83 (Hu aQ))))))
structure kX where
 t53:List au
 (t54 t55:Int)
 (b0 b1:au)
def L5:Td 0 kX:= .c [] [6,11,53,54,55] (.t (cE.fc 1 0 []) (.t (cE.fc 1 4 []) (.c [] [6,11,53,54,55] (.r 0 2 (ec 6 (qp 0 0) (ec 11 (qp 1 0) (ec 53 (ql 128) (ec 54 aL (ec 55 aL en))))) (sb 0 128 (lc qn (aM (aM (aM (lc qn (aM (aM (aM ln)))))))) (sb 1 128 (lg 128) sn)) (λz=>⟨z.1.t.1,z.1.t.2.1,z.1.q.1,(au.mk [] (aH.mk z.2.1.2.1 z.2.1.t.1 z.2.1.t.2.1) [] (aH.mk z.2.1.q.2.1 z.2.1.q.t.1 z.2.1.q.t.2.1)),z.t.1⟩) (λx=>(((),(),x.t53,x.t54,x.t55,()),(((),x.b0.aA.ag,x.b0.aA.ah,x.b0.aA.aj,(),x.b0.aD.ag,x.b0.aD.ah,x.b0.aD.aj,()),x.b1,())))))))
def Gs(M83:Runner->(aa ay)->au->af pJ)(M156:Runner->ay->au->af gH)(M160:Runner->ay->au->af gF)(p:kX):af (af kX):=
 bif O (p.t55<p.t54)then if 0<=p.t55/\p.t55<p.t53.length then match HP p.b1 p.t53[p.t55.toNat]! with|S=>S|I r7=>I (I (kX.mk p.t53 p.t54 (i64.wrap (p.t55+1)) (au.mk [] p.b0.aA [] p.b0.aD) r7))else S else I (S)
def pe(M83:Runner->(aa ay)->au->af pJ)(M156:Runner->ay->au->af gH)(M160:Runner->ay->au->af gF):=bG (Gs M83 M156 M160)
structure uQ where
 t7:List au
 t8:Bool
 (t15 t16:Int)
 b0:Runner
 b1:ay
 (b2 b3:au)
def Nz:Td 0 uQ:= .c [] [3,4,5,6,7,8,15,16] (.t (cE.s 7 [] 128) (.c [] [3,4,5,6,7,8,15,16] (.r 0 5 (ec 3 (qp 0 0) (ec 4 (qp 1 0) (ec 5 (qp 2 0) (ec 6 (qp 3 0) (ec 7 (qo 4) (ec 8 qb (ec 15 aL (ec 16 aL en)))))))) (sb 0 133 (lg 133) (sb 1 166 (lg 166) (sb 2 128 (lg 128) (sb 3 128 (lc qn (aM (aM (aM (lc qn (aM (aM (aM ln)))))))) (sr 4 128 sn))))) (λz=>⟨z.q.2.1,z.1.q.2.1,z.1.q.t.1,z.1.q.t.2.1,z.2.1,z.t.1,z.t.2.1,(au.mk [] (aH.mk z.q.1.2.1 z.q.1.t.1 z.q.1.t.2.1) [] (aH.mk z.q.1.q.2.1 z.q.1.q.t.1 z.q.1.q.t.2.1))⟩) (λx=>(((),(),(),(),(),x.t8,x.t15,x.t16,()),(x.b0,x.b1,x.b2,((),x.b3.aA.ag,x.b3.aA.ah,x.b3.aA.aj,(),x.b3.aD.ag,x.b3.aD.ah,x.b3.aD.aj,()),x.t7,()))))))
def uA(M83:Runner->(aa ay)->au->af pJ)(M156:Runner->ay->au->af gH)(M160:Runner->ay->au->af gF)(p:uQ):af (af uQ):=
 bif O (p.t16<p.t15)then match KE p.b2 p.b1.aR with|S=>S|I r1=>match Np r1 (ax.mk p.b1.aB.bt p.b1.aB.fN p.b1.aB.aq)with|S=>S|I r2=>match Lp r2 with|S=>S|I r3=>bif r3.fst then match DI r1 with|S=>S|I r4=>if(p.t7++[r4]).length<=1073741824 then bif bif r3.snd then G else J then I (S)else match M83 p.b0 p.b1.aK r1 with|S=>S|I r5=>I (I (uQ.mk (p.t7++[r4]) p.t8 p.t15 (i64.wrap (p.t16+1)) p.b0 (ay.mk p.b1.bX p.b1.aR p.b1.cX p.b1.fN (ax.mk p.b1.aB.bt p.b1.aB.fN p.b1.aB.aq) p.b1.aK p.b1.aN p.b1.aJ) r5 (au.mk [] p.b3.aA [] p.b3.aD)))else S else bif bif r3.snd then G else J then I (S)else match M83 p.b0 p.b1.aK r1 with|S=>S|I r6=>I (I (uQ.mk p.t7 p.t8 p.t15 (i64.wrap (p.t16+1)) p.b0 (ay.mk p.b1.bX p.b1.aR p.b1.cX p.b1.fN (ax.mk p.b1.aB.bt p.b1.aB.fN p.b1.aB.aq) p.b1.aK p.b1.aN p.b1.aJ) r6 (au.mk [] p.b3.aA [] p.b3.aD)))else I (S)
def GD(M83:Runner->(aa ay)->au->af pJ)(M156:Runner->ay->au->af gH)(M160:Runner->ay->au->af gF):=bG (uA M83 M156 M160)
def ah5(M83:Runner->(aa ay)->au->af pJ)(M156:Runner->ay->au->af gH)(M160:Runner->ay->au->af gF):An:=(noTwo (noTwo (noTwo (.two (noTwo (Nz.lp (GD M83 M156 M160) .no)) (noTwo (noTwo (.two (noTwo (L5.lp (pe M83 M156 M160) .no)) .no)))))))
def aqp(M83:Runner->(aa ay)->au->af pJ)(M156:Runner->ay->au->af gH)(M160:Runner->ay->au->af gF):dB wJ (ajt M83 M156 M160) 0 300 156 (ah5 M83 M156 M160):=bO (l:=[(bg f156 0,(Nz.lp (GD M83 M156 M160) .no)),(bg f156 1,(L5.lp (pe M83 M156 M160) .no))]) func156 (bq (by kernel_rfl)) (by kernel_rfl) (aC (aO Nz) (aC (aO L5) aG))
def YM(M83:Runner->(aa ay)->au->af pJ)(M156:Runner->ay->au->af gH)(M160:Runner->ay->au->af gF)(a0:Runner)(a1:ay)(a2:au):af gH:=
 match GD M83 M156 M160 (uQ.mk [] J a1.fN 0 a0 (ay.mk a1.bX a1.aR a1.cX a1.fN (ax.mk a1.aB.bt a1.aB.fN a1.aB.aq) a1.aK a1.aN a1.aJ) a2 (au.mk [] (aH.mk 0 0 0) [] (aH.mk 0 0 0)))with|S=>S|I r8=>bif O (r8.t16<r8.t15)then match KE r8.b2 r8.b1.aR with|S=>S|I r9=>match Np r9 (ax.mk r8.b1.aB.bt r8.b1.aB.fN r8.b1.aB.aq)with|S=>S|I r10=>match Lp r10 with|S=>S|I r11=>bif r11.fst then match DI r9 with|S=>S|I r12=>if(r8.t7++[r12]).length<=1073741824 then bif bif r11.snd then G else J then if(0:Int)<=(0:Int)/\(0:Int)<(↑(r8.t7++[r12]).length:Int)then if 128=128/\0<(r8.t7++[r12]).length then if(0:Int)<=(1:Int)/\(1:Int)<=(↑(r8.t7++[r12]).length:Int)then match pe M83 M156 M160 (kX.mk (yb 1 (r8.t7++[r12])) (↑(yb 1 (r8.t7++[r12])).length:Int) 0 (au.mk [] r8.b3.aA [] r8.b3.aD) (r8.t7++[r12])[0]!)with|S=>S|I r13=>bif O (r13.t55<r13.t54)then if 0<=r13.t55/\r13.t55<r13.t53.length then match HP r13.b1 r13.t53[r13.t55.toNat]! with|S=>S|I r14=>S else S else I (r13.b1)else S else S else S else match M83 r8.b0 r8.b1.aK r9 with|S=>S|I r15=>S else S else bif bif r11.snd then G else J then if(0:Int)<=(0:Int)/\(0:Int)<r8.t7.length then if 128=128/\0<r8.t7.length then if(0:Int)<=(1:Int)/\(1:Int)<=r8.t7.length then match pe M83 M156 M160 (kX.mk (yb 1 r8.t7) (↑(yb 1 r8.t7).length:Int) 0 (au.mk [] r8.b3.aA [] r8.b3.aD) r8.t7[0]!)with|S=>S|I r16=>bif O (r16.t55<r16.t54)then if 0<=r16.t55/\r16.t55<r16.t53.length then match HP r16.b1 r16.t53[r16.t55.toNat]! with|S=>S|I r17=>S else S else I (r16.b1)else S else S else S else match M83 r8.b0 r8.b1.aK r9 with|S=>S|I r18=>S else bif r8.t8 then if(r8.t7++[r8.b2]).length<=1073741824 then if(0:Int)<=(0:Int)/\(0:Int)<(↑(r8.t7++[r8.b2]).length:Int)then if 128=128/\0<(r8.t7++[r8.b2]).length then if(0:Int)<=(1:Int)/\(1:Int)<=(↑(r8.t7++[r8.b2]).length:Int)then match pe M83 M156 M160 (kX.mk (yb 1 (r8.t7++[r8.b2])) (↑(yb 1 (r8.t7++[r8.b2])).length:Int) 0 (au.mk [] r8.b3.aA [] r8.b3.aD) (r8.t7++[r8.b2])[0]!)with|S=>S|I r19=>bif O (r19.t55<r19.t54)then if 0<=r19.t55/\r19.t55<r19.t53.length then match HP r19.b1 r19.t53[r19.t55.toNat]! with|S=>S|I r20=>S else S else I (r19.b1)else S else S else S else S else if(0:Int)<=(0:Int)/\(0:Int)<r8.t7.length then if 128=128/\0<r8.t7.length then if(0:Int)<=(1:Int)/\(1:Int)<=r8.t7.length then match pe M83 M156 M160 (kX.mk (yb 1 r8.t7) (↑(yb 1 r8.t7).length:Int) 0 (au.mk [] r8.b3.aA [] r8.b3.aD) r8.t7[0]!)with|S=>S|I r21=>bif O (r21.t55<r21.t54)then if 0<=r21.t55/\r21.t55<r21.t53.length then match HP r21.b1 r21.t53[r21.t55.toNat]! with|S=>S|I r22=>S else S else I (r21.b1)else S else S else S
def avH(M83:Runner->(aa ay)->au->af pJ)(M156:Runner->ay->au->af gH)(M160:Runner->ay->au->af gF)(a0:Runner)(a1:ay)(a2:au):bQ wJ (ajt M83 M156 M160) 300 (ah5 M83 M156 M160) 156 (ajr.c (a0,a1,a2,())) [] 0 d156.rd=YM M83 M156 M160 a0 a1 a2:=by kernel_rfl
def alK(M83:Runner->(aa ay)->au->af pJ)(M156:Runner->ay->au->af gH)(M160:Runner->ay->au->af gF):aW:=(ali (alZ (Zt (x83 M83 (e82 cZ)))))
def YR{M83 M156 M160}(h83:H83 M83)(h156:XV M156)(h160:WG M160):aV wJ (alK M83 M156 M160):=(Pg (rZ (Hl (LG h83 (Hu aQ)))))
def af5(M83:Runner->(aa ay)->au->af pJ)(M156:Runner->ay->au->af gH)(M160:Runner->ay->au->af gF):An:= .no
def aus(M83:Runner->(aa ay)->au->af pJ)(M156:Runner->ay->au->af gH)(M160:Runner->ay->au->af gF):dB wJ (alK M83 M156 M160) 0 300 160 (af5 M83 M156 M160):=bO (l:=[]) func160 (bq (by kernel_rfl)) (by kernel_rfl) aG
def Za(M83:Runner->(aa ay)->au->af pJ)(M156:Runner->ay->au->af gH)(M160:Runner->ay->au->af gF)(a0:Runner)(a1:ay)(a2:au):af gF:=
 match Np a2 (ax.mk a1.aB.bt a1.aB.fN a1.aB.aq)with|S=>S|I r1=>match Lp r1 with|S=>S|I r2=>bif bif r2.fst then G else J then match M83 a0 a1.aK a2 with|S=>S|I r3=>I (r3)else bif bif r2.snd then G else J then match M83 a0 a1.aN a2 with|S=>S|I r4=>I (r4)else match DI a2 with|S=>S|I r5=>match M83 a0 a1.aK r5 with|S=>S|I r6=>match DI a2 with|S=>S|I r7=>match M83 a0 a1.aN r7 with|S=>S|I r8=>match HP r6 r8 with|S=>S|I r9=>I (r9)
def avm(M83:Runner->(aa ay)->au->af pJ)(M156:Runner->ay->au->af gH)(M160:Runner->ay->au->af gF)(a0:Runner)(a1:ay)(a2:au):bQ wJ (alK M83 M156 M160) 300 (af5 M83 M156 M160) 160 (aj2.c (a0,a1,a2,())) [] 0 d160.rd=Za M83 M156 M160 a0 a1 a2:=by kernel_rfl
def di:Nat->(Runner->(aa ay)->au->af pJ)×(Runner->ay->au->af gH)×(Runner->ay->au->af gF)
 |0=>(λ_ _ _=>S,λ_ _ _=>S,λ_ _ _=>S)
 |n+1=>(s83 (di n).1 (di n).2.1 (di n).2.2,YM (di n).1 (di n).2.1 (di n).2.2,Za (di n).1 (di n).2.1 (di n).2.2)
def Sm(n:Nat):Runner->(aa ay)->au->af pJ:=(di n).1
def Bi(n:Nat):Runner->ay->au->af gH:=(di n).2.1
def C2(n:Nat):Runner->ay->au->af gF:=(di n).2.2
def nw:∀n,H83 (Sm n)/\XV (Bi n)/\WG (C2 n)
 |0=>⟨λ_ _ h=>(by cases h),λ_ _ h=>(by cases h),λ_ _ h=>(by cases h)⟩
 |n+1=>by
  have ih:=nw n;obtain⟨i83,i156,i160⟩:=ih;refine⟨?_,?_,?_⟩
  ·exact(cS (alw i83 i156 i160) (awn (Sm n) (Bi n) (C2 n)) (λ_=>by kernel_rfl) (λ_=>by kernel_rfl) λg=>c83 (Sm n) (Bi n) (C2 n) g.1 g.2.1 g.2.2.1)
  ·exact(cS (YF i83 i156 i160) (aqp (Sm n) (Bi n) (C2 n)) (λ_=>by kernel_rfl) (λ_=>by kernel_rfl) λg=>avH (Sm n) (Bi n) (C2 n) g.1 g.2.1 g.2.2.1)
  ·exact(cS (YR i83 i156 i160) (aus (Sm n) (Bi n) (C2 n)) (λ_=>by kernel_rfl) (λ_=>by kernel_rfl) λg=>avm (Sm n) (Bi n) (C2 n) g.1 g.2.1 g.2.2.1)
def r83:Runner->(aa ay)->au->af pJ:=λa0 a1 a2=>lim (λn=>Sm n a0 a1 a2)
def ajf:H83 r83:=λg b h=>by
 obtain⟨n,hn⟩:=cT (show lim (λn=>Sm n g.1 g.2.1 g.2.2.1)=I b from h);exact(nw n).1 g b hn
def e83(F:aW):aW:=x83 r83 F
def akk{F:aW}(h:aV wJ F):aV wJ (e83 F):=LG ajf h
abbrev aqV:=aH
def d168:Td 0 aqV:= .c [] [4] (.r 0 1 (ec 4 (qp 0 0) en) (sb 0 34 (lg 34) sn) (λz=>z.2.1) (λx=>(((),()),(x,()))))
def BE(a0:aH)(a1:Int):af aqV:=
 match nj (8) a0 (TD a1)with|S=>S|I r1=>I (r1.fst)
def aaK:=eL wJ 168 G (lc (qg 34) (aM ln)) d168 (λg=>BE g.1 g.2.1)
def EZ:EO aaK:=λh=>kL (an:= .no) func168 (O6 (H8 aQ)) aG h
structure qO where
 (t48 t49:Int)
 (b0 b1 b2 b3:aF)
def N1:Td 0 qO:= .c [] [2,3,4,5,48,49] (.t (cE.c 3 4 [] 34) (.c [] [2,3,4,5,48,49] (.r 0 6 (ec 2 (qp 0 0) (ec 3 (qp 1 0) (ec 4 (qp 2 0) (ec 5 (qp 3 0) (ec 48 aL (ec 49 aL en)))))) (sb 0 147 (lg 147) (sb 1 147 (lg 147) (sb 2 147 (lc qn (aM (aM (aM (lc qn (aM (aM (aM ln)))))))) (sb 3 147 (lc (qo 4) (aM (aM (aM (lc (qo 5) (aM (aM (aM ln)))))))) (sr 4 34 (sr 5 34 sn)))))) (λz=>⟨z.1.q.1,z.1.q.2.1,z.2.1,z.t.1,(aF.mk [] (aH.mk z.t.2.1.2.1 z.t.2.1.t.1 z.t.2.1.t.2.1) [] (aH.mk z.t.2.1.q.2.1 z.t.2.1.q.t.1 z.t.2.1.q.t.2.1)),(aF.mk z.q.2.1 (aH.mk z.q.1.2.1 z.q.1.t.1 z.q.1.t.2.1) z.q.t.1 (aH.mk z.q.1.q.2.1 z.q.1.q.t.1 z.q.1.q.t.2.1))⟩) (λx=>(((),(),(),(),x.t48,x.t49,()),(x.b0,x.b1,((),x.b2.aA.ag,x.b2.aA.ah,x.b2.aA.aj,(),x.b2.aD.ag,x.b2.aD.ah,x.b2.aD.aj,()),((),x.b3.aA.ag,x.b3.aA.ah,x.b3.aA.aj,(),x.b3.aD.ag,x.b3.aD.ah,x.b3.aD.aj,()),x.b3.ai,x.b3.az,()))))))
def Gk(p:qO):af (af qO):=
 bif O (p.t49<p.t48)then bif O (p.b0.az.length<=p.t49)then if 0<=p.t49/\p.t49<p.b1.az.length then if(p.b3.az++[p.b1.az[p.t49.toNat]!]).length<=1073741824 then I (I (qO.mk p.t48 (i64.wrap (p.t49+1)) p.b0 p.b1 (aF.mk [] p.b2.aA [] p.b2.aD) (aF.mk p.b3.ai p.b3.aA (p.b3.az++[p.b1.az[p.t49.toNat]!]) p.b3.aD)))else S else S else bif O (p.b1.az.length<=p.t49)then if 0<=p.t49/\p.t49<p.b0.az.length then if(p.b3.az++[p.b0.az[p.t49.toNat]!]).length<=1073741824 then I (I (qO.mk p.t48 (i64.wrap (p.t49+1)) p.b0 p.b1 (aF.mk [] p.b2.aA [] p.b2.aD) (aF.mk p.b3.ai p.b3.aA (p.b3.az++[p.b0.az[p.t49.toNat]!]) p.b3.aD)))else S else S else if 0<=p.t49/\p.t49<p.b0.az.length then if 0<=p.t49/\p.t49<p.b1.az.length then match jH p.b0.az[p.t49.toNat]! p.b1.az[p.t49.toNat]! with|S=>S|I r2=>if(p.b3.az++[r2]).length<=1073741824 then I (I (qO.mk p.t48 (i64.wrap (p.t49+1)) p.b0 p.b1 (aF.mk [] p.b2.aA [] p.b2.aD) (aF.mk p.b3.ai p.b3.aA (p.b3.az++[r2]) p.b3.aD)))else S else S else S else I (S)
def GA:=bG (Gk)
structure BA where
 (t21 t22:Int)
 (b0 b1 b2 b3:aF)
def LU:Td 0 BA:= .c [] [2,3,4,5,21,22] (.t (cE.c 3 0 [] 34) (.c [] [2,3,4,5,21,22] (.r 0 5 (ec 2 (qp 0 0) (ec 3 (qp 1 0) (ec 4 (qp 2 0) (ec 5 (qp 3 0) (ec 21 aL (ec 22 aL en)))))) (sb 0 147 (lg 147) (sb 1 147 (lg 147) (sb 2 147 (lc qn (aM (aM (aM (lc qn (aM (aM (aM ln)))))))) (sb 3 147 (lc (qo 4) (aM (aM (aM (lc qn (aM (aM (aM ln)))))))) (sr 4 34 sn))))) (λz=>⟨z.1.q.1,z.1.q.2.1,z.2.1,z.t.1,(aF.mk [] (aH.mk z.t.2.1.2.1 z.t.2.1.t.1 z.t.2.1.t.2.1) [] (aH.mk z.t.2.1.q.2.1 z.t.2.1.q.t.1 z.t.2.1.q.t.2.1)),(aF.mk z.q.2.1 (aH.mk z.q.1.2.1 z.q.1.t.1 z.q.1.t.2.1) [] (aH.mk z.q.1.q.2.1 z.q.1.q.t.1 z.q.1.q.t.2.1))⟩) (λx=>(((),(),(),(),x.t21,x.t22,()),(x.b0,x.b1,((),x.b2.aA.ag,x.b2.aA.ah,x.b2.aA.aj,(),x.b2.aD.ag,x.b2.aD.ah,x.b2.aD.aj,()),((),x.b3.aA.ag,x.b3.aA.ah,x.b3.aA.aj,(),x.b3.aD.ag,x.b3.aD.ah,x.b3.aD.aj,()),x.b3.ai,()))))))
def Hf(p:BA):af (af BA):=
 bif O (p.t22<p.t21)then if 0<=p.t22/\p.t22<p.b0.ai.length then if 0<=p.t22/\p.t22<p.b1.ai.length then match jH p.b0.ai[p.t22.toNat]! p.b1.ai[p.t22.toNat]! with|S=>S|I r1=>if(p.b3.ai++[r1]).length<=1073741824 then I (I (BA.mk p.t21 (i64.wrap (p.t22+1)) p.b0 p.b1 (aF.mk [] p.b2.aA [] p.b2.aD) (aF.mk (p.b3.ai++[r1]) p.b3.aA [] p.b3.aD)))else S else S else S else I (S)
def Gc:=bG (Hf)
abbrev atZ:=aF
def d171:Td 0 atZ:= .c [] [4] (.r 0 3 (ec 4 (qp 0 0) en) (sb 0 147 (lc (qo 1) (aM (aM (aM (lc (qo 2) (aM (aM (aM ln)))))))) (sr 1 34 (sr 2 34 sn))) (λz=>(aF.mk z.t.1 (aH.mk z.2.1.2.1 z.2.1.t.1 z.2.1.t.2.1) z.t.2.1 (aH.mk z.2.1.q.2.1 z.2.1.q.t.1 z.2.1.q.t.2.1))) (λx=>(((),()),(((),x.aA.ag,x.aA.ah,x.aA.aj,(),x.aD.ag,x.aD.ah,x.aD.aj,()),x.ai,x.az,()))))
def Md(a0:aF)(a1:aF):af atZ:=
 match jH a0.aA a1.aA with|S=>S|I r3=>match jH a0.aD a1.aD with|S=>S|I r4=>match Gc (BA.mk a0.ai.length 0 a0 a1 (aF.mk [] (aH.mk 0 0 0) [] (aH.mk 0 0 0)) (aF.mk [] r3 [] r4))with|S=>S|I r5=>bif O (r5.t22<r5.t21)then if 0<=r5.t22/\r5.t22<r5.b0.ai.length then if 0<=r5.t22/\r5.t22<r5.b1.ai.length then match jH r5.b0.ai[r5.t22.toNat]! r5.b1.ai[r5.t22.toNat]! with|S=>S|I r6=>if(r5.b3.ai++[r6]).length<=1073741824 then S else S else S else S else match GA (qO.mk (if(r5.b0.az.length:Int)<(r5.b1.az.length:Int)then(r5.b1.az.length:Int)else(r5.b0.az.length:Int)) 0 r5.b0 r5.b1 (aF.mk [] r5.b2.aA [] r5.b2.aD) (aF.mk r5.b3.ai r5.b3.aA [] r5.b3.aD))with|S=>S|I r7=>bif O (r7.t49<r7.t48)then bif O (r7.b0.az.length<=r7.t49)then if 0<=r7.t49/\r7.t49<r7.b1.az.length then if(r7.b3.az++[r7.b1.az[r7.t49.toNat]!]).length<=1073741824 then S else S else S else bif O (r7.b1.az.length<=r7.t49)then if 0<=r7.t49/\r7.t49<r7.b0.az.length then if(r7.b3.az++[r7.b0.az[r7.t49.toNat]!]).length<=1073741824 then S else S else S else if 0<=r7.t49/\r7.t49<r7.b0.az.length then if 0<=r7.t49/\r7.t49<r7.b1.az.length then match jH r7.b0.az[r7.t49.toNat]! r7.b1.az[r7.t49.toNat]! with|S=>S|I r8=>if(r7.b3.az++[r8]).length<=1073741824 then S else S else S else S else I (r7.b3)
def aiY:=eL wJ 171 G (lc (qg 147) (lc (qg 147) ln)) d171 (λg=>Md g.1 g.2.1)
def P6:EO aiY:=λh=>kL (an:=(noTwo (noTwo (.two (noTwo (LU.lp Gc .no)) (.two (noTwo (N1.lp GA .no)) .no))))) (l:=[(bg f171 0,(LU.lp Gc .no)),(bg f171 1,(N1.lp GA .no))]) func171 (p7 aQ) (aC (aO LU) (aC (aO N1) aG)) h
def ajP:aW:=(aiY cZ)
def ach:aV wJ ajP:=(P6 aQ)
structure Bp where
 t10:List aF
 (t11 t12:Int)
 (b0 b1:aF)
def LA:Td 0 Bp:= .c [] [2,3,10,11,12] (.t (cE.fc 1 0 []) (.t (cE.fc 1 4 []) (.c [] [2,3,10,11,12] (.r 0 2 (ec 2 (qp 0 0) (ec 3 (qp 1 0) (ec 10 (ql 147) (ec 11 aL (ec 12 aL en))))) (sb 0 147 (lc qn (aM (aM (aM (lc qn (aM (aM (aM ln)))))))) (sb 1 147 (lg 147) sn)) (λz=>⟨z.1.t.1,z.1.t.2.1,z.1.q.1,(aF.mk [] (aH.mk z.2.1.2.1 z.2.1.t.1 z.2.1.t.2.1) [] (aH.mk z.2.1.q.2.1 z.2.1.q.t.1 z.2.1.q.t.2.1)),z.t.1⟩) (λx=>(((),(),x.t10,x.t11,x.t12,()),(((),x.b0.aA.ag,x.b0.aA.ah,x.b0.aA.aj,(),x.b0.aD.ag,x.b0.aD.ah,x.b0.aD.aj,()),x.b1,())))))))
def FX(p:Bp):af (af Bp):=
 bif O (p.t12<p.t11)then if 0<=p.t12/\p.t12<p.t10.length then match Md p.b1 p.t10[p.t12.toNat]! with|S=>S|I r1=>I (I (Bp.mk p.t10 p.t11 (i64.wrap (p.t12+1)) (aF.mk [] p.b0.aA [] p.b0.aD) r1))else S else I (S)
def E5:=bG (FX)
abbrev an5:=aF
def d247:Td 0 an5:= .c [] [2] (.r 0 1 (ec 2 (qp 0 0) en) (sb 0 147 (lg 147) sn) (λz=>z.2.1) (λx=>(((),()),(x,()))))
def ap9:=(lc (ql 147) ln)
def ah7:An:=(noTwo (noTwo (.two (noTwo (LA.lp E5 .no)) .no)))
def aqY:dB wJ (ajP) 0 300 247 (ah7):=bO (l:=[(bg f247 0,(LA.lp E5 .no))]) func247 (bq (by kernel_rfl)) (by kernel_rfl) (aC (aO LA) aG)
def Fx(a0:aa aF):af an5:=
 if(0:Int)<=(0:Int)/\(0:Int)<a0.length then if(0:Int)<=(1:Int)/\(1:Int)<=a0.length then match E5 (Bp.mk (yb 1 a0) (↑(yb 1 a0).length:Int) 0 (aF.mk [] (aH.mk 0 0 0) [] (aH.mk 0 0 0)) a0[0]!)with|S=>S|I r2=>bif O (r2.t12<r2.t11)then if 0<=r2.t12/\r2.t12<r2.t10.length then match Md r2.b1 r2.t10[r2.t12.toNat]! with|S=>S|I r3=>S else S else I (r2.b1)else S else S
def ayf(a0:aa aF):bQ wJ (ajP) 300 (ah7) 247 (ap9.c (a0,())) [] 0 d247.rd=Fx a0:=by kernel_rfl
def UT:aW->aW:=eZ wJ 247 ap9 d247 (λg=>Fx g.1)
def aeL{F:aW}(h:aV wJ F):aV wJ (UT F):=od (cS ach aqY (λ_=>by kernel_rfl) (λ_=>by kernel_rfl) λg=>ayf g.1) ⟨_,func247,by kernel_rfl,by kernel_rfl⟩ (λ_=>by kernel_rfl) h
def amU:aW:=(e86 cZ)
def aav:aV wJ amU:=(NY aQ)
abbrev asJ:=aF
def d169:Td 0 asJ:= .c [] [8] (.r 0 2 (ec 8 (qp 0 0) en) (sb 0 147 (lc (qo 1) (aM (aM (aM (lc (ql 34) (aM (aM (aM ln)))))))) (sr 1 34 sn)) (λz=>(aF.mk z.t.1 (aH.mk z.2.1.2.1 z.2.1.t.1 z.2.1.t.2.1) z.2.1.q.1 (aH.mk z.2.1.q.2.1 z.2.1.q.t.1 z.2.1.q.t.2.1))) (λx=>(((),()),(((),x.aA.ag,x.aA.ah,x.aA.aj,x.az,x.aD.ag,x.aD.ah,x.aD.aj,()),x.ai,()))))
def atT:=(lc (qg 26) (lc (qg 147) (aM (lc (qg 34) ln))))
def aga:An:= .no
def atz:dB wJ (amU) 0 300 169 (aga):=bO (l:=[]) func169 (bq (by kernel_rfl)) (by kernel_rfl) aG
def Kf(a0:aP)(a1:aF)(a2:Int)(a3:aH):af asJ:=
 if([]++a1.ai).length<=1073741824 then if 0<=a2/\a2<a0.ai.length then if 0<=a2/\a2<a0.ai.length then match X5 a3 a0.ai[a2.toNat]!.ag a0.ai[a2.toNat]!.ah with|S=>S|I r1=>if 0<=a2/\a2<(↑([]++a1.ai).length:Int)then if 34=34/\a2.toNat<([]++a1.ai).length then I (aF.mk (([]++a1.ai).set a2.toNat r1.fst) a1.aA a1.az a1.aD)else S else S else S else S else S
def awR(a0:aP)(a1:aF)(a2:Int)(a3:aH):bQ wJ (amU) 300 (aga) 169 (atT.c (a0,a1,a2,a3,())) [] 0 d169.rd=Kf a0 a1 a2 a3:=by kernel_rfl
def atd:aW->aW:=eZ wJ 169 atT d169 (λg=>Kf g.1 g.2.1 g.t.1 g.t.2.1)
def ae7{F:aW}(h:aV wJ F):aV wJ (atd F):=od (cS aav atz (λ_=>by kernel_rfl) (λ_=>by kernel_rfl) λg=>awR g.1 g.2.1 g.t.1 g.t.2.1) ⟨_,func169,by kernel_rfl,by kernel_rfl⟩ (λ_=>by kernel_rfl) h
def aj1:aW:=(aaK (RL (e32 cZ)))
def Yk:aV wJ aj1:=(EZ (p7 (BN aQ)))
structure vb where
 t5:List aH
 (t12 t13:Int)
 b0:aF
 b1:aH
 b2:aF
def M6:Td 0 vb:= .c [] [2,3,4,5,12,13] (.r 0 4 (ec 2 (qp 0 0) (ec 3 (qp 1 0) (ec 4 (qp 2 0) (ec 5 (qo 3) (ec 12 aL (ec 13 aL en)))))) (sb 0 147 (lg 147) (sb 1 34 (lg 34) (sb 2 147 (lc qn (aM (aM (aM (lc qn (aM (aM (aM ln)))))))) (sr 3 34 sn)))) (λz=>⟨z.q.1,z.1.q.1,z.1.q.2.1,z.2.1,z.t.1,(aF.mk [] (aH.mk z.t.2.1.2.1 z.t.2.1.t.1 z.t.2.1.t.2.1) [] (aH.mk z.t.2.1.q.2.1 z.t.2.1.q.t.1 z.t.2.1.q.t.2.1))⟩) (λx=>(((),(),(),(),x.t12,x.t13,()),(x.b0,x.b1,((),x.b2.aA.ag,x.b2.aA.ah,x.b2.aA.aj,(),x.b2.aD.ag,x.b2.aD.ah,x.b2.aD.aj,()),x.t5,()))))
def GC(p:vb):af (af vb):=
 bif O (p.t13<p.t12)then match m32 p.b0.aA p.t13 with|S=>S|I r1=>bif r1 then if 0<=p.t13/\p.t13<p.t5.length then if 34=34/\p.t13.toNat<p.t5.length then match jH p.t5[p.t13.toNat]! p.b1 with|S=>S|I r2=>if 0<=p.t13/\p.t13<p.t5.length then if 34=34/\p.t13.toNat<p.t5.length then I (I (vb.mk (p.t5.set p.t13.toNat r2) p.t12 (i64.wrap (p.t13+1)) p.b0 p.b1 (aF.mk [] p.b2.aA [] p.b2.aD)))else S else S else S else S else I (I (vb.mk p.t5 p.t12 (i64.wrap (p.t13+1)) p.b0 p.b1 (aF.mk [] p.b2.aA [] p.b2.aD)))else I (S)
def He:=bG (GC)
abbrev auC:=aF
def d170:Td 0 auC:= .c [] [4] (.r 0 2 (ec 4 (qp 0 0) en) (sb 0 147 (lc (ql 34) (aM (aM (aM (lc (qo 1) (aM (aM (aM ln)))))))) (sr 1 34 sn)) (λz=>(aF.mk z.2.1.1 (aH.mk z.2.1.2.1 z.2.1.t.1 z.2.1.t.2.1) z.t.1 (aH.mk z.2.1.q.2.1 z.2.1.q.t.1 z.2.1.q.t.2.1))) (λx=>(((),()),((x.ai,x.aA.ag,x.aA.ah,x.aA.aj,(),x.aD.ag,x.aD.ah,x.aD.aj,()),x.az,()))))
def apQ:=(lc (qg 147) (lc (qg 34) ln))
def agh:An:=(noTwo (noTwo (.two (noTwo (M6.lp He .no)) .no)))
def aph:dB wJ (aj1) 0 300 170 (agh):=bO (l:=[(bg f170 0,(M6.lp He .no))]) func170 (bq (by kernel_rfl)) (by kernel_rfl) (aC (aO M6) aG)
def Tg(a0:aF)(a1:aH):af auC:=
 if([]++a0.az).length<=1073741824 then match He (vb.mk ([]++a0.az) (↑([]++a0.az).length:Int) 0 a0 a1 (aF.mk [] (aH.mk 0 0 0) [] (aH.mk 0 0 0)))with|S=>S|I r3=>bif O (r3.t13<r3.t12)then match m32 r3.b0.aA r3.t13 with|S=>S|I r4=>bif r4 then if 0<=r3.t13/\r3.t13<r3.t5.length then if 34=34/\r3.t13.toNat<r3.t5.length then match jH r3.t5[r3.t13.toNat]! r3.b1 with|S=>S|I r5=>if 0<=r3.t13/\r3.t13<r3.t5.length then if 34=34/\r3.t13.toNat<r3.t5.length then S else S else S else S else S else S else if(r3.t5++[r3.b1]).length<=1073741824 then match BE r3.b0.aA 1with|S=>S|I r6=>I (aF.mk r3.b0.ai r6 (r3.t5++[r3.b1]) r3.b0.aD)else S else S
def awa(a0:aF)(a1:aH):bQ wJ (aj1) 300 (agh) 170 (apQ.c (a0,a1,())) [] 0 d170.rd=Tg a0 a1:=by kernel_rfl
def auu:aW->aW:=eZ wJ 170 apQ d170 (λg=>Tg g.1 g.2.1)
def acP{F:aW}(h:aV wJ F):aV wJ (auu F):=od (cS Yk aph (λ_=>by kernel_rfl) (λ_=>by kernel_rfl) λg=>awa g.1 g.2.1) ⟨_,func170,by kernel_rfl,by kernel_rfl⟩ (λ_=>by kernel_rfl) h
abbrev AM:=aF
def d88:Td 0 AM:= .c [] [8] (.r 0 1 (ec 8 (qp 0 0) en) (sb 0 147 (lg 147) sn) (λz=>z.2.1) (λx=>(((),()),(x,()))))
def A88:=(lc (qg 26) (lc (ql 34) (lc (ql 166) (lc (qg 147) ln))))
def x88(M:aP->(aa aH)->(aa ay)->aF->af AM):aW->aW:=eZ wJ 88 A88 d88 (λg=>M g.1 g.2.1 g.2.2.1 g.2.2.2.1)
def H88(M:aP->(aa aH)->(aa ay)->aF->af AM):Prop:=HL wJ 88 A88 d88 (λg=>M g.1 g.2.1 g.2.2.1 g.2.2.2.1)
def Lg{M:aP->(aa aH)->(aa ay)->aF->af AM}(hM:H88 M){F:aW}(h:aV wJ F):aV wJ (x88 M F):=od hM ⟨_,func88,by kernel_rfl,by kernel_rfl⟩ (λ_=>by kernel_rfl) h
abbrev jZ:=aF
def d167:Td 0 jZ:= .c [] [8] (.r 0 1 (ec 8 (qp 0 0) en) (sb 0 147 (lg 147) sn) (λz=>z.2.1) (λx=>(((),()),(x,()))))
def ajR:=(lc (qg 26) (lc (ql 34) (lc (qg 166) (lc (qg 147) ln))))
def ao7(M:aP->(aa aH)->ay->aF->af jZ):aW->aW:=eZ wJ 167 ajR d167 (λg=>M g.1 g.2.1 g.2.2.1 g.2.2.2.1)
def aen(M:aP->(aa aH)->ay->aF->af jZ):Prop:=HL wJ 167 ajR d167 (λg=>M g.1 g.2.1 g.2.2.1 g.2.2.2.1)
def aal{M:aP->(aa aH)->ay->aF->af jZ}(hM:aen M){F:aW}(h:aV wJ F):aV wJ (ao7 M F):=od hM ⟨_,func167,by kernel_rfl,by kernel_rfl⟩ (λ_=>by kernel_rfl) h
def F88(M88:aP->(aa aH)->(aa ay)->aF->af AM)(M167:aP->(aa aH)->ay->aF->af jZ):aW:=(aoP (aiY (auu (atd (aaK (ao7 M167 (Ta (x88 M88 (e87 cZ)))))))))
def am8{M88 M167}(h88:H88 M88)(h167:aen M167):aV wJ (F88 M88 M167):=(Yj (P6 (acP (ae7 (EZ (aal h167 (sk (Lg h88 (Ms aQ)))))))))
structure lI where
 t1:List aH
 t13:List ay
 (t14 t15:Int)
 b0:aP
 (b1 b2:aF)
def UK:Td 0 lI:= .c [] [1,4,7,8,13,14,15] (.t (cE.fc 1 0 []) (.t (cE.fc 1 4 []) (.c [] [1,4,7,8,13,14,15] (.r 0 3 (ec 1 (ql 34) (ec 4 (qp 0 0) (ec 7 (qp 1 0) (ec 8 (qp 2 0) (ec 13 (ql 166) (ec 14 aL (ec 15 aL en))))))) (sb 0 26 (lg 26) (sb 1 147 (lg 147) (sb 2 147 (lc qn (aM (aM (aM (lc qn (aM (aM (aM ln)))))))) sn))) (λz=>⟨z.1.1,z.1.q.1,z.1.q.2.1,z.1.q.t.1,z.2.1,z.t.1,(aF.mk [] (aH.mk z.t.2.1.2.1 z.t.2.1.t.1 z.t.2.1.t.2.1) [] (aH.mk z.t.2.1.q.2.1 z.t.2.1.q.t.1 z.t.2.1.q.t.2.1))⟩) (λx=>((x.t1,(),(),(),x.t13,x.t14,x.t15,()),(x.b0,x.b1,((),x.b2.aA.ag,x.b2.aA.ah,x.b2.aA.aj,(),x.b2.aD.ag,x.b2.aD.ah,x.b2.aD.aj,()),())))))))
def QN(M88:aP->(aa aH)->(aa ay)->aF->af AM)(M167:aP->(aa aH)->ay->aF->af jZ)(p:lI):af (af lI):=
 bif O (p.t15<p.t14)then if 0<=p.t15/\p.t15<p.t13.length then bif O (p.t13[p.t15.toNat]!.bX=4)then match M167 p.b0 p.t1 (ay.mk p.t13[p.t15.toNat]!.bX p.t13[p.t15.toNat]!.aR p.t13[p.t15.toNat]!.cX p.t13[p.t15.toNat]!.fN (ax.mk p.t13[p.t15.toNat]!.aB.bt p.t13[p.t15.toNat]!.aB.fN p.t13[p.t15.toNat]!.aB.aq) p.t13[p.t15.toNat]!.aK p.t13[p.t15.toNat]!.aN p.t13[p.t15.toNat]!.aJ) p.b1 with|S=>S|I r1=>I (I (lI.mk p.t1 p.t13 p.t14 (i64.wrap (p.t15+1)) p.b0 r1 (aF.mk [] p.b2.aA [] p.b2.aD)))else match BE p.b1.aD p.t13[p.t15.toNat]!.aR with|S=>S|I r2=>bif O (p.t13[p.t15.toNat]!.bX=0)then match Lc (aF.mk p.b1.ai p.b1.aA p.b1.az r2) (ax.mk p.t13[p.t15.toNat]!.aB.bt p.t13[p.t15.toNat]!.aB.fN p.t13[p.t15.toNat]!.aB.aq)with|S=>S|I r3=>match Kf p.b0 (aF.mk p.b1.ai p.b1.aA p.b1.az r2) p.t13[p.t15.toNat]!.cX r3 with|S=>S|I r4=>I (I (lI.mk p.t1 p.t13 p.t14 (i64.wrap (p.t15+1)) p.b0 r4 (aF.mk [] p.b2.aA [] p.b2.aD)))else bif O (p.t13[p.t15.toNat]!.bX=5)then if 0<=p.t13[p.t15.toNat]!.fN/\p.t13[p.t15.toNat]!.fN<p.t1.length then match Kf p.b0 (aF.mk p.b1.ai p.b1.aA p.b1.az r2) p.t13[p.t15.toNat]!.cX p.t1[p.t13[p.t15.toNat]!.fN.toNat]! with|S=>S|I r5=>I (I (lI.mk p.t1 p.t13 p.t14 (i64.wrap (p.t15+1)) p.b0 r5 (aF.mk [] p.b2.aA [] p.b2.aD)))else S else bif O (p.t13[p.t15.toNat]!.bX=1)then match Lc (aF.mk p.b1.ai p.b1.aA p.b1.az r2) (ax.mk p.t13[p.t15.toNat]!.aB.bt p.t13[p.t15.toNat]!.aB.fN p.t13[p.t15.toNat]!.aB.aq)with|S=>S|I r6=>match Tg (aF.mk p.b1.ai p.b1.aA p.b1.az r2) r6 with|S=>S|I r7=>I (I (lI.mk p.t1 p.t13 p.t14 (i64.wrap (p.t15+1)) p.b0 r7 (aF.mk [] p.b2.aA [] p.b2.aD)))else bif O (p.t13[p.t15.toNat]!.bX=3)then match Lc (aF.mk p.b1.ai p.b1.aA p.b1.az r2) (ax.mk p.t13[p.t15.toNat]!.aB.bt p.t13[p.t15.toNat]!.aB.fN p.t13[p.t15.toNat]!.aB.aq)with|S=>S|I r8=>match BG r8 with|S=>S|I r9=>bif bif r9.fst then G else J then match M88 p.b0 p.t1 p.t13[p.t15.toNat]!.aK (aF.mk p.b1.ai p.b1.aA p.b1.az r2)with|S=>S|I r10=>I (I (lI.mk p.t1 p.t13 p.t14 (i64.wrap (p.t15+1)) p.b0 r10 (aF.mk [] p.b2.aA [] p.b2.aD)))else bif bif r9.snd then G else J then match M88 p.b0 p.t1 p.t13[p.t15.toNat]!.aN (aF.mk p.b1.ai p.b1.aA p.b1.az r2)with|S=>S|I r11=>I (I (lI.mk p.t1 p.t13 p.t14 (i64.wrap (p.t15+1)) p.b0 r11 (aF.mk [] p.b2.aA [] p.b2.aD)))else match M88 p.b0 p.t1 p.t13[p.t15.toNat]!.aK (aF.mk p.b1.ai p.b1.aA p.b1.az r2)with|S=>S|I r12=>match M88 p.b0 p.t1 p.t13[p.t15.toNat]!.aN (aF.mk p.b1.ai p.b1.aA p.b1.az r2)with|S=>S|I r13=>match Md r12 r13 with|S=>S|I r14=>I (I (lI.mk p.t1 p.t13 p.t14 (i64.wrap (p.t15+1)) p.b0 r14 (aF.mk [] p.b2.aA [] p.b2.aD)))else bif O (p.t13[p.t15.toNat]!.bX=6)then match Kc r2 p.t13[p.t15.toNat]!.aJ with|S=>S|I r15=>I (I (lI.mk p.t1 p.t13 p.t14 (i64.wrap (p.t15+1)) p.b0 (aF.mk p.b1.ai p.b1.aA p.b1.az r15.fst) (aF.mk [] p.b2.aA [] p.b2.aD)))else I (I (lI.mk p.t1 p.t13 p.t14 (i64.wrap (p.t15+1)) p.b0 (aF.mk p.b1.ai p.b1.aA p.b1.az r2) (aF.mk [] p.b2.aA [] p.b2.aD)))else S else I (S)
def OJ(M88:aP->(aa aH)->(aa ay)->aF->af AM)(M167:aP->(aa aH)->ay->aF->af jZ):=bG (QN M88 M167)
def ap3(M88:aP->(aa aH)->(aa ay)->aF->af AM)(M167:aP->(aa aH)->ay->aF->af jZ):An:=(noTwo (.two (noTwo (UK.lp (OJ M88 M167) .no)) .no))
def axH(M88:aP->(aa aH)->(aa ay)->aF->af AM)(M167:aP->(aa aH)->ay->aF->af jZ):dB wJ (F88 M88 M167) 0 300 88 (ap3 M88 M167):=bO (l:=[(bg f88 0,(UK.lp (OJ M88 M167) .no))]) func88 (bq (by kernel_rfl)) (by kernel_rfl) (aC (aO UK) aG)
def s88(M88:aP->(aa aH)->(aa ay)->aF->af AM)(M167:aP->(aa aH)->ay->aF->af jZ)(a0:aP)(a1:aa aH)(a2:aa ay)(a3:aF):af AM:=
 match OJ M88 M167 (lI.mk a1 a2 a2.length 0 a0 a3 (aF.mk [] (aH.mk 0 0 0) [] (aH.mk 0 0 0)))with|S=>S|I r16=>bif O (r16.t15<r16.t14)then if 0<=r16.t15/\r16.t15<r16.t13.length then bif O (r16.t13[r16.t15.toNat]!.bX=4)then match M167 r16.b0 r16.t1 (ay.mk r16.t13[r16.t15.toNat]!.bX r16.t13[r16.t15.toNat]!.aR r16.t13[r16.t15.toNat]!.cX r16.t13[r16.t15.toNat]!.fN (ax.mk r16.t13[r16.t15.toNat]!.aB.bt r16.t13[r16.t15.toNat]!.aB.fN r16.t13[r16.t15.toNat]!.aB.aq) r16.t13[r16.t15.toNat]!.aK r16.t13[r16.t15.toNat]!.aN r16.t13[r16.t15.toNat]!.aJ) r16.b1 with|S=>S|I r17=>S else match BE r16.b1.aD r16.t13[r16.t15.toNat]!.aR with|S=>S|I r18=>bif O (r16.t13[r16.t15.toNat]!.bX=0)then match Lc (aF.mk r16.b1.ai r16.b1.aA r16.b1.az r18) (ax.mk r16.t13[r16.t15.toNat]!.aB.bt r16.t13[r16.t15.toNat]!.aB.fN r16.t13[r16.t15.toNat]!.aB.aq)with|S=>S|I r19=>match Kf r16.b0 (aF.mk r16.b1.ai r16.b1.aA r16.b1.az r18) r16.t13[r16.t15.toNat]!.cX r19 with|S=>S|I r20=>S else bif O (r16.t13[r16.t15.toNat]!.bX=5)then if 0<=r16.t13[r16.t15.toNat]!.fN/\r16.t13[r16.t15.toNat]!.fN<r16.t1.length then match Kf r16.b0 (aF.mk r16.b1.ai r16.b1.aA r16.b1.az r18) r16.t13[r16.t15.toNat]!.cX r16.t1[r16.t13[r16.t15.toNat]!.fN.toNat]! with|S=>S|I r21=>S else S else bif O (r16.t13[r16.t15.toNat]!.bX=1)then match Lc (aF.mk r16.b1.ai r16.b1.aA r16.b1.az r18) (ax.mk r16.t13[r16.t15.toNat]!.aB.bt r16.t13[r16.t15.toNat]!.aB.fN r16.t13[r16.t15.toNat]!.aB.aq)with|S=>S|I r22=>match Tg (aF.mk r16.b1.ai r16.b1.aA r16.b1.az r18) r22 with|S=>S|I r23=>S else bif O (r16.t13[r16.t15.toNat]!.bX=3)then match Lc (aF.mk r16.b1.ai r16.b1.aA r16.b1.az r18) (ax.mk r16.t13[r16.t15.toNat]!.aB.bt r16.t13[r16.t15.toNat]!.aB.fN r16.t13[r16.t15.toNat]!.aB.aq)with|S=>S|I r24=>match BG r24 with|S=>S|I r25=>bif bif r25.fst then G else J then match M88 r16.b0 r16.t1 r16.t13[r16.t15.toNat]!.aK (aF.mk r16.b1.ai r16.b1.aA r16.b1.az r18)with|S=>S|I r26=>S else bif bif r25.snd then G else J then match M88 r16.b0 r16.t1 r16.t13[r16.t15.toNat]!.aN (aF.mk r16.b1.ai r16.b1.aA r16.b1.az r18)with|S=>S|I r27=>S else match M88 r16.b0 r16.t1 r16.t13[r16.t15.toNat]!.aK (aF.mk r16.b1.ai r16.b1.aA r16.b1.az r18)with|S=>S|I r28=>match M88 r16.b0 r16.t1 r16.t13[r16.t15.toNat]!.aN (aF.mk r16.b1.ai r16.b1.aA r16.b1.az r18)with|S=>S|I r29=>match Md r28 r29 with|S=>S|I r30=>S else bif O (r16.t13[r16.t15.toNat]!.bX=6)then match Kc r18 r16.t13[r16.t15.toNat]!.aJ with|S=>S|I r31=>S else S else S else I (r16.b1)
def c88(M88:aP->(aa aH)->(aa ay)->aF->af AM)(M167:aP->(aa aH)->ay->aF->af jZ)(a0:aP)(a1:aa aH)(a2:aa ay)(a3:aF):bQ wJ (F88 M88 M167) 300 (ap3 M88 M167) 88 (A88.c (a0,a1,a2,a3,())) [] 0 d88.rd=s88 M88 M167 a0 a1 a2 a3:=by kernel_rfl
def akP(M88:aP->(aa aH)->(aa ay)->aF->af AM)(M167:aP->(aa aH)->ay->aF->af jZ):aW:=(UT (aaK (Ta (x88 M88 (e87 cZ)))))
def aeY{M88 M167}(h88:H88 M88)(h167:aen M167):aV wJ (akP M88 M167):=(aeL (EZ (sk (Lg h88 (Ms aQ)))))
structure vg where
 t1:List aH
 t9:List aF
 (t13 t14:Int)
 b0:aP
 b1:ay
 (b2 b3:aF)
def Ll:Td 0 vg:= .c [] [1,4,6,7,8,9,13,14] (.t (cE.s 9 [] 147) (.c [] [1,4,6,7,8,9,13,14] (.r 0 5 (ec 1 (ql 34) (ec 4 (qp 0 0) (ec 6 (qp 1 0) (ec 7 (qp 2 0) (ec 8 (qp 3 0) (ec 9 (qo 4) (ec 13 aL (ec 14 aL en)))))))) (sb 0 26 (lg 26) (sb 1 166 (lg 166) (sb 2 147 (lg 147) (sb 3 147 (lc qn (aM (aM (aM (lc qn (aM (aM (aM ln)))))))) (sr 4 147 sn))))) (λz=>⟨z.1.1,z.q.2.1,z.1.q.t.1,z.1.q.t.2.1,z.2.1,z.t.1,z.t.2.1,(aF.mk [] (aH.mk z.q.1.2.1 z.q.1.t.1 z.q.1.t.2.1) [] (aH.mk z.q.1.q.2.1 z.q.1.q.t.1 z.q.1.q.t.2.1))⟩) (λx=>((x.t1,(),(),(),(),(),x.t13,x.t14,()),(x.b0,x.b1,x.b2,((),x.b3.aA.ag,x.b3.aA.ah,x.b3.aA.aj,(),x.b3.aD.ag,x.b3.aD.ah,x.b3.aD.aj,()),x.t9,()))))))
def uT(M88:aP->(aa aH)->(aa ay)->aF->af AM)(M167:aP->(aa aH)->ay->aF->af jZ)(p:vg):af (af vg):=
 bif O (p.t14<p.t13)then match BE p.b2.aD p.b1.aR with|S=>S|I r1=>match Lc (aF.mk p.b2.ai p.b2.aA p.b2.az r1) (ax.mk p.b1.aB.bt p.b1.aB.fN p.b1.aB.aq)with|S=>S|I r2=>match BG r2 with|S=>S|I r3=>bif r3.fst then if(p.t9++[aF.mk p.b2.ai p.b2.aA p.b2.az r1]).length<=1073741824 then bif bif r3.snd then G else J then match Fx (p.t9++[aF.mk p.b2.ai p.b2.aA p.b2.az r1])with|S=>S|I r4=>I (S)else match M88 p.b0 p.t1 p.b1.aK (aF.mk p.b2.ai p.b2.aA p.b2.az r1)with|S=>S|I r5=>I (I (vg.mk p.t1 (p.t9++[aF.mk p.b2.ai p.b2.aA p.b2.az r1]) p.t13 (i64.wrap (p.t14+1)) p.b0 (ay.mk p.b1.bX p.b1.aR p.b1.cX p.b1.fN (ax.mk p.b1.aB.bt p.b1.aB.fN p.b1.aB.aq) p.b1.aK p.b1.aN p.b1.aJ) r5 (aF.mk [] p.b3.aA [] p.b3.aD)))else S else bif bif r3.snd then G else J then match Fx p.t9 with|S=>S|I r6=>I (S)else match M88 p.b0 p.t1 p.b1.aK (aF.mk p.b2.ai p.b2.aA p.b2.az r1)with|S=>S|I r7=>I (I (vg.mk p.t1 p.t9 p.t13 (i64.wrap (p.t14+1)) p.b0 (ay.mk p.b1.bX p.b1.aR p.b1.cX p.b1.fN (ax.mk p.b1.aB.bt p.b1.aB.fN p.b1.aB.aq) p.b1.aK p.b1.aN p.b1.aJ) r7 (aF.mk [] p.b3.aA [] p.b3.aD)))else I (S)
def Gn(M88:aP->(aa aH)->(aa ay)->aF->af AM)(M167:aP->(aa aH)->ay->aF->af jZ):=bG (uT M88 M167)
def ahO(M88:aP->(aa aH)->(aa ay)->aF->af AM)(M167:aP->(aa aH)->ay->aF->af jZ):An:=(noTwo (noTwo (.two (noTwo (Ll.lp (Gn M88 M167) .no)) .no)))
def apx(M88:aP->(aa aH)->(aa ay)->aF->af AM)(M167:aP->(aa aH)->ay->aF->af jZ):dB wJ (akP M88 M167) 0 300 167 (ahO M88 M167):=bO (l:=[(bg f167 0,(Ll.lp (Gn M88 M167) .no))]) func167 (bq (by kernel_rfl)) (by kernel_rfl) (aC (aO Ll) aG)
def YX(M88:aP->(aa aH)->(aa ay)->aF->af AM)(M167:aP->(aa aH)->ay->aF->af jZ)(a0:aP)(a1:aa aH)(a2:ay)(a3:aF):af jZ:=
 match Gn M88 M167 (vg.mk a1 [] a2.fN (0) a0 (ay.mk a2.bX a2.aR a2.cX a2.fN (ax.mk a2.aB.bt a2.aB.fN a2.aB.aq) a2.aK a2.aN a2.aJ) a3 (aF.mk [] (aH.mk (0) (0) (0)) [] (aH.mk (0) (0) (0))))with|S=>S|I r8=>bif O (r8.t14<r8.t13)then match BE r8.b2.aD r8.b1.aR with|S=>S|I r9=>match Lc (aF.mk r8.b2.ai r8.b2.aA r8.b2.az r9) (ax.mk r8.b1.aB.bt r8.b1.aB.fN r8.b1.aB.aq)with|S=>S|I r10=>match BG r10 with|S=>S|I r11=>bif r11.fst then if(r8.t9++[aF.mk r8.b2.ai r8.b2.aA r8.b2.az r9]).length<=1073741824 then bif bif r11.snd then G else J then match Fx (r8.t9++[aF.mk r8.b2.ai r8.b2.aA r8.b2.az r9])with|S=>S|I r12=>I (r12)else match M88 r8.b0 r8.t1 r8.b1.aK (aF.mk r8.b2.ai r8.b2.aA r8.b2.az r9)with|S=>S|I r13=>S else S else bif bif r11.snd then G else J then match Fx r8.t9 with|S=>S|I r14=>I (r14)else match M88 r8.b0 r8.t1 r8.b1.aK (aF.mk r8.b2.ai r8.b2.aA r8.b2.az r9)with|S=>S|I r15=>S else if(r8.t9++[r8.b2]).length<=1073741824 then match Fx (r8.t9++[r8.b2])with|S=>S|I r16=>I (r16)else S
def avs(M88:aP->(aa aH)->(aa ay)->aF->af AM)(M167:aP->(aa aH)->ay->aF->af jZ)(a0:aP)(a1:aa aH)(a2:ay)(a3:aF):bQ wJ (akP M88 M167) 300 (ahO M88 M167) 167 (ajR.c (a0,a1,a2,a3,())) [] 0 d167.rd=YX M88 M167 a0 a1 a2 a3:=by kernel_rfl
def lY:Nat->(aP->(aa aH)->(aa ay)->aF->af AM)×(aP->(aa aH)->ay->aF->af jZ)
 |0=>(λ_ _ _ _=>S,λ_ _ _ _=>S)
 |n+1=>(s88 (lY n).1 (lY n).2,YX (lY n).1 (lY n).2)
def Yb(n:Nat):aP->(aa aH)->(aa ay)->aF->af AM:=(lY n).1
def J4(n:Nat):aP->(aa aH)->ay->aF->af jZ:=(lY n).2
def wN:∀n,H88 (Yb n)/\aen (J4 n)
 |0=>⟨λ_ _ h=>(by cases h),λ_ _ h=>(by cases h)⟩
 |n+1=>by
  have ih:=wN n;obtain⟨i88,i167⟩:=ih;refine⟨?_,?_⟩
  ·exact(cS (am8 i88 i167) (axH (Yb n) (J4 n)) (λ_=>by kernel_rfl) (λ_=>by kernel_rfl) λg=>c88 (Yb n) (J4 n) g.1 g.2.1 g.2.2.1 g.2.2.2.1)
  ·exact(cS (aeY i88 i167) (apx (Yb n) (J4 n)) (λ_=>by kernel_rfl) (λ_=>by kernel_rfl) λg=>avs (Yb n) (J4 n) g.1 g.2.1 g.2.2.1 g.2.2.2.1)
def r88:aP->(aa aH)->(aa ay)->aF->af AM:=λa0 a1 a2 a3=>lim (λn=>Yb n a0 a1 a2 a3)
def ai1:H88 r88:=λg b h=>by
 obtain⟨n,hn⟩:=cT (show lim (λn=>Yb n g.1 g.2.1 g.2.2.1 g.2.2.2.1)=I b from h);exact(wN n).1 g b hn
def e88(F:aW):aW:=x88 r88 F
def alb{F:aW}(h:aV wJ F):aV wJ (e88 F):=Lg ai1 h
def XF{l:aa aH}(h:l.length<=1000000):m40 l=I l:=by unfold m40;rw[ga]
def pY{s:au}(h1:s.ai.length<=1000000)(h2:s.az.length<=1000000):DI s=I s:=by
 unfold DI;rw[XF h1];dsimp only;rw[XF h2]
def MQ{n m:Nat}{s:au}(h:dW n m s){c:Int}(hc:cj c):KE s c=I (fu s c):=by
 obtain⟨z,e,_,_⟩:=mH 8 h.time (jY hc);unfold KE fu;rw[pK,e]
def GN{a:aH}(h:NN a){c:Int}(hc:cj c):BE a c=I (nG 8 a (dJ c)):=by
 obtain⟨z,_,e,_⟩:=mH 8 h (jY hc);unfold BE;rw[AH,e]
def XG{r:Runner}{m:Nat}{s:au}(h:dW r.fF.ai.length m s)(hn:r.fF.ai.length<=1000000)(hm:m<=1000000){v:Int}{x:aH}(h1:0<=v)(h2:v<r.fF.ai.length)(hx:NN x):Nr r s v x=I (LN r.fF s v x):=by
 have hl:=h.len;have hs:=h.sl;obtain⟨z,e,_,_⟩:=gD hx r.fF.ai[v.toNat]!.ag r.fF.ai[v.toNat]!.ah;unfold Nr LN;rw[pY (by omega) (by omega)];dsimp only;rw[bD ⟨h1,h2⟩,e];dsimp only;rw[ga,bD ⟨rfl,by omega⟩]
def Wa{f:aP}{m:Nat}{s:au}(h:dW f.ai.length m s)(hn:f.ai.length<=1000000){v:Int}{x:aH}(h1:0<=v)(h2:v<f.ai.length)(hx:NN x):Kf f (tr s) v x=I (tr (LN f s v x)):=by
 have hl:=h.len;obtain⟨z,_,e,_⟩:=gD hx f.ai[v.toNat]!.ag f.ai[v.toNat]!.ah;unfold Kf LN tr;dsimp only;simp only[yg];rw[ga,bD ⟨h1,h2⟩,bD ⟨h1,h2⟩,e];dsimp only;rw[ga,bD ⟨trivial,by omega⟩]
def Ik{vars:aa aS}{inp:Bool}{m:Nat}{st:au}(hst:dW vars.length m st){t:ax}(hc:dN vars inp t=0):Np st t=I (cv st.ai t):=by
 have e:Y0 t st=I (cv st.ai t,st):=dS (zh t+1) λn hn=>(F5 hst n t (by omega) (pU hc).1 (pU hc).2).1;unfold Np;rw[ax.eta,e]
def wT(s:au)(v:aH)(i:Nat):aa aH:=jJ s.az.length (λk=>if k<i/\cC s.aA k=J then cq s.az[k]! v else s.az[k]!)
def tf(s:au)(v:aH)(i:Nat):(wT s v i).length=s.az.length:=fT ..
def WW(s:au)(v:aH):wT s v 0=s.az:=LS rfl λi _=>by rw[bL (λh=>by omega)]
def Jb(s:au)(v:aH):wT s v s.az.length=jJ s.az.length (λk=>if cC s.aA k=J then cq s.az[k]! v else s.az[k]!):=gA λi hi=>by
 by_cases c:cC s.aA (i:Nat)=J
 ·rw[bD ⟨hi,c⟩,bD c]
 ·rw[bL (λh=>c h.2),bL c]
def Kw{s:au}{v:aH}{i:Nat}(h:i<s.az.length):(wT s v i)[i]! =s.az[i]! :=by
 rw[wT,m9 h,bL (λh=>by omega)]
def JG{s:au}{v:aH}{i:Nat}(c:cC s.aA (i:Nat)=J):(wT s v i).set i (cq s.az[i]! v)=wT s v (i+1):=by
 rw[wT,Ft];refine gA λj _=> ?_;by_cases e:j=i
 ·subst e;rw[bD rfl,bD ⟨by omega,c⟩]
 ·rw[bL e];by_cases c2:j<i/\cC s.aA (j:Nat)=J
  ·rw[bD c2,bD ⟨by omega,c2.2⟩]
  ·rw[bL c2,bL (λh=>c2 ⟨by omega,h.2⟩)]
def QM{s:au}{v:aH}{i:Nat}(c:cC s.aA (i:Nat)=G):wT s v i=wT s v (i+1):=by
 refine gA λj _=> ?_;by_cases e:j=i
 ·subst e;rw[bL (λh=>by omega),bL (λh=>by rw[c]at h;cases h.2)]
 ·by_cases c2:j<i/\cC s.aA (j:Nat)=J
  ·rw[bD c2,bD ⟨by omega,c2.2⟩]
  ·rw[bL c2,bL (λh=>c2 ⟨by omega,h.2⟩)]
def ajH{n m:Nat}{s:au}(h:dW n m s)(hn:n<=1000000)(hm:m<=1000000){x:aH}(hx:NN x):Wv s x=I (SY s x):=by
 have hs:=h.sl;have hl:=h.len;obtain⟨v,e1,_⟩:=cO (rnd:=Gb) s.az.length (λi (_:Unit)=>⟨(s.az.length:Int),(i:Int),⟨s.ai,s.aA,wT s x i,s.aD⟩,x,⟨[],⟨0,0,0⟩,[],⟨0,0,0⟩⟩⟩) (λi _=>True) (λi b hi _=>by
  have hw:=fD hi (by omega);have i1:(i:Int)<(s.az.length:Int):=by omega
  have i2:(0:Int)<=(i:Int):=by omega
  refine⟨(),?_,trivial⟩;unfold Gb;dsimp only;by_cases hc:cC s.aA (i:Nat)=J
  ·simp only[zf,i1,i2,hi,cR,bB,dG,cD,oq (.inr h.count),hc,tf,Kw hi,mF (.inr (h.slots i hi)) (.inr hx),hw,JG hc]
  ·have hc:cC s.aA (i:Nat)=G:=by simpa using hc
   simp only[i1,cR,bB,bz,oq (.inr h.count),hc,hw,QM hc]) (λb _=>by unfold Gb;simp) (b:=()) trivial
 rw[WW]at e1;have e1':G0 ⟨(s.az.length:Int),0,s,x,⟨[],⟨0,0,0⟩,[],⟨0,0,0⟩⟩⟩=_:=e1;obtain⟨z,eb,_,_⟩:=mH 8 h.count (jY (c:=1) ⟨by decide,by decide⟩);unfold Wv;rw[pY (by omega) (by omega)];dsimp only;rw[e1'];dsimp only;rw[eH,bz,bD (by rw[zl,tf];simp;omega),pK,eb,Jb];rfl
def aiL{n m:Nat}{s:au}(h:dW n m s)(hm:m<=1000000){x:aH}(hx:NN x):Tg (tr s) x=I (tr (SY s x)):=by
 have hs:=h.sl;obtain⟨v,e1,_⟩:=cO (rnd:=GC) s.az.length (λi (_:Unit)=>⟨wT s x i,(s.az.length:Int),(i:Int),tr s,x,⟨[],⟨0,0,0⟩,[],⟨0,0,0⟩⟩⟩) (λi _=>True) (λi b hi _=>by
  have hw:=fD hi (by omega);have i1:(i:Int)<(s.az.length:Int):=by omega
  have i2:(0:Int)<=(i:Int):=by omega
  refine⟨(),?_,trivial⟩;unfold GC;dsimp only[tr];by_cases hc:cC s.aA (i:Nat)=J
  ·simp only[zf,i1,i2,hi,cR,bB,dG,cD,ja (.inr h.count),hc,tf,Kw hi,fJ (.inr (h.slots i hi)) (.inr hx),hw,JG hc]
  ·have hc:cC s.aA (i:Nat)=G:=by simpa using hc
   simp only[i1,cR,bB,bz,ja (.inr h.count),hc,hw,QM hc]) (λb _=>by unfold GC;simp) (b:=()) trivial
 rw[WW]at e1;have e1':He ⟨s.az,(s.az.length:Int),0,tr s,x,⟨[],⟨0,0,0⟩,[],⟨0,0,0⟩⟩⟩=_:=e1;unfold Tg;rw[show (tr s).az=s.az from rfl];simp only[yg];rw[ga,e1'];dsimp only;rw[eH,bz,bD (by rw[zl,tf];simp;omega),show (tr s).aA=s.aA from rfl,GN h.count ⟨by decide,by decide⟩,Jb];rfl
def Bt(a b:aa aH)(i:Nat):aa aH:=jJ a.length (λk=>if k<i then cq a[k]! b[k]! else a[k]!)
def TP(a b:aa aH)(i:Nat):(Bt a b i).length=a.length:=fT ..
def aib(a b:aa aH):Bt a b 0=a:=LS rfl λi _=>by rw[ux]
def Wx(a b:aa aH):Bt a b a.length=jJ a.length (λk=>cq a[k]! b[k]!):=gA λi hi=>by rw[bD hi]
def Wy{a b:aa aH}{i:Nat}(h:i<a.length):(Bt a b i)[i]! =a[i]! :=by rw[Bt,m9 h,ux]
def TH(a b:aa aH)(i:Nat):(Bt a b i).set i (cq a[i]! b[i]!)=Bt a b (i+1):=by
 rw[Bt,Ft];refine gA λj _=> ?_;by_cases e:j=i
 ·subst e;rw[bD rfl,ga]
 ·rw[bL e];by_cases c:j<i
  ·rw[bD c,ga]
  ·rw[bL c,ux]
def nB(a b:aa aH)(i:Nat):aa aH:=jJ (max a.length i) (λk=>if k<i then JV a b k else a[k]!)
def CR(a b:aa aH)(i:Nat):(nB a b i).length=max a.length i:=fT ..
def ajI(a b:aa aH):nB a b 0=a:=LS (by omega) λi _=>by rw[ux]
def TF(a b:aa aH):nB a b b.length=jJ (max a.length b.length) (JV a b):=gA λi hi=>by
 by_cases c:i<b.length
 ·rw[bD c]
 ·rw[bL c];unfold JV;rw[ux,ga]
def VG{a b:aa aH}{i:Nat}(h:i<a.length):(nB a b i)[i]! =a[i]! :=by rw[nB,m9 (by omega),ux]
def Xj{a b:aa aH}{i:Nat}(h:i<a.length)(k:i<b.length):(nB a b i).set i (cq a[i]! b[i]!)=nB a b (i+1):=by
 rw[nB,Ft,nB,show max a.length i=max a.length (i+1)by omega];refine gA λj _=> ?_;by_cases e:j=i
 ·subst e;rw[bD rfl,ga];unfold JV;rw[ux,ux]
 ·rw[bL e];by_cases c:j<i
  ·rw[bD c,ga]
  ·rw[bL c,ux]
def Xq{a b:aa aH}{i:Nat}(h:a.length<=i):nB a b i++[b[i]!]=nB a b (i+1):=by
 rw[nB,nB,show max a.length i=i by omega,show max a.length (i+1)=i+1 by omega,oR]
 congr 1
 ·refine gA λj hj=> ?_;rw[bD hj,ga]
 ·rw[ga];unfold JV;rw[bD h]
def VL{n m:Nat}{s t:au}(h:dW n m s)(k:dW n m t)(hn:n<=1000000)(hm:m<=1000000):HP s t=I (j4 s t):=by
 have hs:=h.sl;have hl:=h.len;have ks:=k.sl;have kl:=k.len;obtain⟨v,e1,_⟩:=cO (rnd:=F8) s.ai.length (λi (_:Unit)=>⟨(s.ai.length:Int),(i:Int),t,⟨[],⟨0,0,0⟩,[],⟨0,0,0⟩⟩,⟨Bt s.ai t.ai i,s.aA,s.az,s.aD⟩⟩) (λi _=>True) (λi b hi _=>by
  have hw:=fD hi (by omega);have i1:(i:Int)<(s.ai.length:Int):=by omega
  have i2:(0:Int)<=(i:Int):=by omega
  have i3:(i:Int)<(t.ai.length:Int):=by omega
  refine⟨(),?_,trivial⟩;unfold F8;dsimp only;simp only[zf,i1,i2,i3,hi,cR,bB,dG,cD,TP,Wy hi,mF (.inr (h.vars i (by omega))) (.inr (k.vars i (by omega))),hw,TH]) (λb _=>by unfold F8;simp) (b:=()) trivial
 rw[aib]at e1;have e1':EY ⟨(s.ai.length:Int),0,t,⟨[],⟨0,0,0⟩,[],⟨0,0,0⟩⟩,s⟩=_:=e1;obtain⟨v2,e2,_⟩:=cO (rnd:=Fh) t.az.length (λi (_:Unit)=>⟨t.az,(t.az.length:Int),(i:Int),⟨[],⟨0,0,0⟩,[],⟨0,0,0⟩⟩,⟨Bt s.ai t.ai s.ai.length,cq s.aA t.aA,nB s.az t.az i,cq s.aD t.aD⟩⟩) (λi _=>True) (λi b hi _=>by
  have hw:=fD hi (by omega);have i1:(i:Int)<(t.az.length:Int):=by omega
  have i2:(0:Int)<=(i:Int):=by omega
  refine⟨(),?_,trivial⟩;unfold Fh;dsimp only;by_cases c:i<s.az.length
  ·have i3:(i:Int)<((nB s.az t.az i).length:Int):=by rw[CR];omega
   have i4:i<(nB s.az t.az i).length:=by omega
   simp only[zf,i1,i2,i3,i4,cR,bB,dG,cD,VG c,mF (.inr (h.slots i c)) (.inr (k.slots i hi)),hw,Xj c hi]
  ·have i3:¬(i:Int)<((nB s.az t.az i).length:Int):=by rw[CR];omega
   have i4:(nB s.az t.az (i+1)).length<=1073741824:=by rw[CR];omega
   simp only[zf,i1,i2,i3,i4,cR,fS,bB,bz,dG,cD,hw,Xq (show s.az.length<=i by omega)]) (λb _=>by unfold Fh;simp) (b:=()) trivial
 rw[ajI]at e2;have e2':Gy ⟨t.az,(t.az.length:Int),0,⟨[],⟨0,0,0⟩,[],⟨0,0,0⟩⟩,⟨Bt s.ai t.ai s.ai.length,cq s.aA t.aA,s.az,cq s.aD t.aD⟩⟩=_:=e2;unfold HP;rw[pY (by omega) (by omega)];dsimp only;rw[e1'];dsimp only;rw[eH,bz,mF (.inr h.count) (.inr k.count)];dsimp only;rw[mF (.inr h.time) (.inr k.time)];dsimp only;rw[e2'];dsimp only;rw[eH,bz,Wx,TF];rfl
def Xt{n m:Nat}{s t:au}(h:dW n m s)(k:dW n m t)(hn:n<=1000000)(hm:m<=1000000):Md (tr s) (tr t)=I (tr (j4 s t)):=by
 have hs:=h.sl;have hl:=h.len;have ks:=k.sl;have kl:=k.len;obtain⟨v,e1,_⟩:=cO (rnd:=Hf) s.ai.length (λi (_:Unit)=>⟨(s.ai.length:Int),(i:Int),tr s,tr t,⟨[],⟨0,0,0⟩,[],⟨0,0,0⟩⟩,⟨jJ i (λk=>cq s.ai[k]! t.ai[k]!),cq s.aA t.aA,[],cq s.aD t.aD⟩⟩) (λi _=>True) (λi b hi _=>by
  have hw:=fD hi (by omega);have i1:(i:Int)<(s.ai.length:Int):=by omega
  have i2:(0:Int)<=(i:Int):=by omega
  have i3:(i:Int)<(t.ai.length:Int):=by omega
  have i4:(jJ i (λk=>cq s.ai[k]! t.ai[k]!)++[cq s.ai[i]! t.ai[i]!]).length<=1073741824:=by rw[zl,fT,yz];omega
  refine⟨(),?_,trivial⟩;unfold Hf;dsimp only[tr];simp only[zf,i1,i2,i3,i4,cR,bB,dG,cD,fJ (.inr (h.vars i (by omega))) (.inr (k.vars i (by omega))),hw,oR]) (λb _=>by unfold Hf;simp) (b:=()) trivial
 have e1':Gc ⟨(s.ai.length:Int),0,tr s,tr t,⟨[],⟨0,0,0⟩,[],⟨0,0,0⟩⟩,⟨[],cq s.aA t.aA,[],cq s.aD t.aD⟩⟩=_:=e1;have emax:(if(s.az.length:Int)<(t.az.length:Int)then(t.az.length:Int)else(s.az.length:Int))=((max s.az.length t.az.length:Nat):Int):=by split<;>omega
 obtain⟨v2,e2,_⟩:=cO (rnd:=Gk) (max s.az.length t.az.length) (λi (_:Unit)=>⟨((max s.az.length t.az.length:Nat):Int),(i:Int),tr s,tr t,⟨[],⟨0,0,0⟩,[],⟨0,0,0⟩⟩,⟨jJ s.ai.length (λk=>cq s.ai[k]! t.ai[k]!),cq s.aA t.aA,jJ i (JV s.az t.az),cq s.aD t.aD⟩⟩) (λi _=>True) (λi b hi _=>by
  have hw:=fD hi (by omega);have i1:(i:Int)<((max s.az.length t.az.length:Nat):Int):=by omega
  have i2:(0:Int)<=(i:Int):=by omega
  have i4:∀x,(jJ i (JV s.az t.az)++[x]).length<=1073741824:=λx=>by rw[zl,fT,yz];omega
  refine⟨(),?_,trivial⟩;rw[oR];unfold Gk;dsimp only[tr];by_cases c:s.az.length<=i
  ·have c1:(s.az.length:Int)<=(i:Int):=by omega
   have c2:(i:Int)<(t.az.length:Int):=by omega
   have eJ:JV s.az t.az i=t.az[i]! :=by unfold JV;rw[bD c]
   simp only[zf,i1,i2,i4,c1,c2,eJ,cR,bB,dG,cD,hw]
  ·by_cases d:t.az.length<=i
   ·have c1:¬(s.az.length:Int)<=(i:Int):=by omega
    have c2:(t.az.length:Int)<=(i:Int):=by omega
    have c3:(i:Int)<(s.az.length:Int):=by omega
    have eJ:JV s.az t.az i=s.az[i]! :=by unfold JV;rw[bL c,bD d]
    simp only[zf,i1,i2,i4,c1,c2,c3,eJ,cR,fS,bB,bz,dG,cD,ek,hw]
   ·have c1:¬(s.az.length:Int)<=(i:Int):=by omega
    have c2:¬(t.az.length:Int)<=(i:Int):=by omega
    have c3:(i:Int)<(s.az.length:Int):=by omega
    have c4:(i:Int)<(t.az.length:Int):=by omega
    have eJ:JV s.az t.az i=cq s.az[i]! t.az[i]! :=by unfold JV;rw[bL c,bL d]
    simp only[zf,i1,i2,i4,c1,c2,c3,c4,eJ,cR,fS,bB,bz,dG,cD,ek,hw,fJ (.inr (h.slots i (by omega))) (.inr (k.slots i (by omega)))]) (λb _=>by unfold Gk;simp) (b:=()) trivial
 have e2':GA ⟨((max s.az.length t.az.length:Nat):Int),0,tr s,tr t,⟨[],⟨0,0,0⟩,[],⟨0,0,0⟩⟩,⟨jJ s.ai.length (λk=>cq s.ai[k]! t.ai[k]!),cq s.aA t.aA,[],cq s.aD t.aD⟩⟩=_:=e2;unfold Md;rw[show (tr s).aA=s.aA from rfl,show (tr t).aA=t.aA from rfl,show (tr s).aD=s.aD from rfl,show (tr t).aD=t.aD from rfl,show (tr s).ai=s.ai from rfl];rw[fJ (.inr h.count) (.inr k.count)];dsimp only;rw[fJ (.inr h.time) (.inr k.time)];dsimp only;rw[e1'];dsimp only;rw[eH,bz,show (tr s).az=s.az from rfl,show (tr t).az=t.az from rfl,emax,e2'];dsimp only;rw[eH,bz];rfl
def jz(body:au->au)(t:ax)(c:Int):Nat->au->aa au
 |0,s=>[s]
 |n+1,s=>(if cC (cv s.ai t) 0=J then[fu s c]else[])++(if cl (cv s.ai t)=J then jz body t c n (body (fu s c))else[])
def lf:aa au->au
 |[]=>⟨[],cw,[],cw⟩
 |x::l=>l.foldl j4 x
def brA(v:aH)(a b:au->au)(s:au):au:=
 if cC v 0=G then a s else if cl v=G then b s else j4 (a s) (b s)
def v7(f:aP)(hv:aa aH)(a b:au->au)(x:ay)(s:au):au:=
 if x.bX=4 then lf (jz a x.aB x.aR x.fN.toNat s)
 else if x.bX=0 then LN f (fu s x.aR) x.cX (cv s.ai x.aB)
 else if x.bX=1 then SY (fu s x.aR) (cv s.ai x.aB)
 else if x.bX=5 then LN f (fu s x.aR) x.cX hv[x.fN.toNat]!
 else if x.bX=3 then brA (cv s.ai x.aB) a b (fu s x.aR)
 else if x.bX=6 then⟨s.ai,s.aA,s.az,pI (nG 8 s.aD (dJ x.aR)) x.aJ⟩
 else fu s x.aR
def fY(f:aP)(hv:aa aH):aa ay->au->au
 |[],s=>s
 |x::l,s=>fY f hv l (v7 f hv (λs=>fY f hv x.aK s) (λs=>fY f hv x.aN s) x s)
termination_by l=>zh l
decreasing_by
 all_goals first|exact(bf (zm ..)).1|exact(bf (zm ..)).2|exact dA _ _
def BI(f:aP)(hv:aa aH)(s:au):fY f hv [] s=s:=by rw[fY]
def uf(f:aP)(hv:aa aH)(x:ay)(l:aa ay)(s:au):fY f hv (x::l) s=fY f hv l (v7 f hv (fY f hv x.aK) (fY f hv x.aN) x s):=by rw[fY]
def Sy{n m:Nat}:∀{l:aa au},l≠[]->(∀q∈l,dW n m q)->dW n m (lf l)
 |[],h,_=>dg rfl h
 |x::l,_,h=>by
  have key:∀(l:aa au) (x:au),dW n m x->(∀q∈l,dW n m q)->dW n m (l.foldl j4 x):=λl=>by
   induction l with
   |nil=>intro x hx _;exact hx
   |cons y l ih=>intro x hx hl;exact ih (j4 x y) (Cb hx (hl y (zm ..))) (λq hq=>hl q (zK _ hq))
  exact key l x (h x (zm ..)) (λq hq=>h q (zK _ hq))
def AN{vars:aa aS}{a:au->au}{t:ax}{c:Int}{o:Nat}(hc:cj c)(ht:dN vars G t=0)(ha:∀s m,dW vars.length m s->dW vars.length (m+o) (a s)):∀(N:Nat) (s:au) (m:Nat),dW vars.length m s->(∀q∈jz a t c N s,dW vars.length (m+N*o) q)/\jz a t c N s≠[]
 |0,s,m,h=>by
  rw[jz];refine⟨λq hq=> ?_,by simp⟩;rw[zJ.1 hq];exact h.weak (by omega)
 |n+1,s,m,h=>by
  rw[jz];have hz:=zero_or (gQ h t ht);have h1:=kJ h hc;obtain⟨i1,i2⟩:=AN hc ht ha n (a (fu s c)) (m+o) (ha _ _ h1);have e:m+o+n*o=m+(n+1)*o:=by rw[yf,xK];omega
  refine⟨λq hq=> ?_,λe=> ?_⟩
  ·rcases zU.1 hq with hq|hq
   ·split at hq
    ·rw[zJ.1 hq];exact h1.weak (by omega)
    ·cases hq
   ·split at hq
    ·rw[<-e];exact i1 q hq
    ·cases hq
  ·obtain⟨e1,e2⟩:=List.append_eq_nil_iff.1 e;cases hn:cl (cv s.ai t)with
   |true=>rw[hn,bD rfl]at e2;exact i2 e2
   |false=>
    rw[hn]at hz;have hz:cC (cv s.ai t) 0=J:=by simpa using hz
    rw[hz,bD rfl]at e1;cases e1
def dR(l:aa ay):Nat:=(ei l).2.1.toNat
def Ic{l:aa Int}(h1:1<=l.length/\l.length<=32)(h0:(0:Int)<=l[0]!)(hr:fl l=J)(h6:l[l.length-1]!<=67108864):∀b∈l,cj b:=λb hb=>by
 obtain⟨i,hi,e⟩:=List.mem_iff_getElem.1 hb;have e:l[i]! =b:=by rw[getElem!_pos l i hi];exact e
 have a1:l[0]!<=l[i]! :=by
  by_cases h:i=0
  ·subst h;exact zw _
  ·exact yZ (OL hr (by omega) hi)
 have a2:l[i]!<=l[l.length-1]! :=by
  by_cases h:i=l.length-1
  ·subst h;exact zw _
  ·exact yZ (OL hr (by omega) (by omega))
 rw[<-e];unfold cj;omega
def oh{f:aP}{last:Bool}{x:ay}(hx:YS f last x):cj x.aR:=by
 have:=hx.cost;unfold cj;omega
def alO{n m o p:Nat}{v:aH}{a b:au->au}{s:au}(h:dW n m s)(ha:∀s m,dW n m s->dW n (m+o) (a s))(hb:∀s m,dW n m s->dW n (m+p) (b s)):dW n (m+max o p) (brA v a b s):=by
 unfold brA;split
 ·exact(ha _ _ h).weak (by omega)
 split
 ·exact(hb _ _ h).weak (by omega)
 ·exact Cb ((ha _ _ h).weak (by omega)) ((hb _ _ h).weak (by omega))
def A7{f:aP}{hv:aa aH}(hh:hv.length=f.ak.length)(hvn:∀i,i<hv.length->NN hv[i]!){a b:au->au}{last:Bool}{x:ay}(hx:YS f last x)
  (p1:0<=(ei x.aK).2.1) (p2:0<=(ei x.aN).2.1)
  (ha:∀s m,dW f.ai.length m s->dW f.ai.length (m+dR x.aK) (a s)) (hb:∀s m,dW f.ai.length m s->dW f.ai.length (m+dR x.aN) (b s))
  {s:au} {m:Nat} (h:dW f.ai.length m s):dW f.ai.length (m+(uO x).1.toNat) (v7 f hv a b x s):=by
 have hc:=oh hx;have h1:=kJ h hc;have hvl:=gQ h x.aB hx.term;unfold v7 uO;by_cases a4:x.bX=4
 ·simp only[a4,Int.reduceEq,cD,ek];have hn:=hx.n4 a4;obtain⟨i1,i2⟩:=AN hc hx.term ha x.fN.toNat s m h;have e:(x.fN*(ei x.aK).2.1).toNat=x.fN.toNat*dR x.aK:=by rw[dR,Int.toNat_mul hn.1 p1]
  rw[e];exact Sy i2 i1
 by_cases a0:x.bX=0
 ·simp only[a0,Int.reduceEq,cD,ek];exact OQ h1 hvl
 by_cases a1:x.bX=1
 ·simp only[a1,Int.reduceEq,cD,ek];exact acB h1 hvl
 by_cases a5:x.bX=5
 ·simp only[a5,Int.reduceEq,cD,ek];obtain⟨n1,n2⟩:=hx.n5 a5;exact OQ h1 (hvn _ (by omega))
 by_cases a3:x.bX=3
 ·simp only[a3,Int.reduceEq,cD,ek];have:=alO (v:=cv s.ai x.aB) h1 ha hb;unfold dR at this;refine this.weak ?_;omega
 by_cases a6:x.bX=6
 ·simp only[a6,Int.reduceEq,cD,ek];obtain⟨_,q2,q3,q4,q5⟩:=hx.TV a6;have k:=(rK (a:=nG 8 s.aD (dJ x.aR)) h1.time q4 (by omega) (Ic q2 q3 q4 q5)).2.2.1;exact⟨h.len,h.vars,h.count,h.sl,h.slots,k⟩
 ·simp only[a0,a1,a3,a4,a5,a6,ek];exact h1
def uh{f:aP}{top:Bool}{x:ay}{l:aa ay}(h:bW f top (x::l)=0):dR (x::l)=(uO x).1.toNat+dR l:=by
 obtain⟨h1,h2,h3,h4⟩:=gW h;have ho:=pz h1;have p1:=(gT f _ _ _ (zB _) h2).1;have p2:=(gT f _ _ _ (zB _) h3).1;have p3:=(gT f _ _ _ (zB _) h4).1;have e1:0<=(uO x).1:=by
  unfold uO;by_cases a1:x.bX=1
  ·rw[bD a1];show (0:Int)<=1;decide
  by_cases a3:x.bX=3
  ·rw[bL a1,bD a3];dsimp only;omega
  by_cases a4:x.bX=4
  ·rw[bL a1,bL a3,bD a4];exact zx (ho.n4 a4).1 p1
  ·rw[bL a1,bL a3,bL a4];exact zw _
 unfold dR;rw[(acY x l).1];omega
def gB{f:aP}{hv:aa aH}(hh:hv.length=f.ak.length)(hvn:∀i,i<hv.length->NN hv[i]!):∀(n:Nat) (l:aa ay) (top:Bool),zh l<n->bW f top l=0->∀(s:au) (m:Nat),dW f.ai.length m s->dW f.ai.length (m+dR l) (fY f hv l s)
 |0,_,_,h,_,_,_,_=>by omega
 |n+1,[],_,_,_,s,m,h=>by rw[BI];exact h.weak (by omega)
 |n+1,x::l,top,hn,hc,s,m,h=>by
  obtain⟨h1,h2,h3,h4⟩:=gW hc;have ho:=pz h1;have hsz:=bf (zm (a:=x) (l:=l));have ht:=dA x l;have p1:=(gT f n x.aK G (by omega) h2).1;have p2:=(gT f n x.aN G (by omega) h3).1;rw[uf,uh hc];have i1:=A7 hh hvn ho p1 p2 (gB hh hvn n x.aK G (by omega) h2) (gB hh hvn n x.aN G (by omega) h3) h;exact(gB hh hvn n l top (by omega) h4 _ _ i1).weak (by omega)
def CQ{α:Type}[Inhabited α](g:α->α->α)(l:aa α)(x:α){i:Nat}(h:i<l.length):(l.take (i+1)).foldl g x=g ((l.take i).foldl g x) l[i]! :=by
 rw[List.take_add_one,List.foldl_append,zq h,getElem!_pos l i h];rfl
def Bx{n m:Nat}:∀(l:aa au) (x:au),dW n m x->(∀q∈l,dW n m q)->dW n m (l.foldl j4 x)
 |[],x,hx,_=>hx
 |y::l,x,hx,hl=>Bx l (j4 x y) (Cb hx (hl y (zm ..))) (λq hq=>hl q (zK _ hq))
def W7(M83:Runner->(aa ay)->au->af pJ)(M156:Runner->ay->au->af gH)(M160:Runner->ay->au->af gF){n m:Nat}(hn:n<=1000000)(hm:m<=1000000){l:aa au}{x:au}(hl:l.length<=1000000)(hx:dW n m x)(hq:∀q∈l,dW n m q)(c t:aH):
  pe M83 M156 M160 ⟨l,(l.length:Int),0,⟨[],c,[],t⟩,x⟩=I ⟨l,(l.length:Int),(l.length:Int),⟨[],c,[],t⟩,l.foldl j4 x⟩:=by
 obtain⟨v,e1,_⟩:=cO (rnd:=Gs M83 M156 M160) l.length (λi (_:Unit)=>⟨l,(l.length:Int),(i:Int),⟨[],c,[],t⟩,(l.take i).foldl j4 x⟩) (λi _=>True) (λi b hi _=>by
  have hw:=fD hi hl;have i1:(i:Int)<(l.length:Int):=by omega
  have i2:(0:Int)<=(i:Int):=by omega
  have e:=VL (Bx (l.take i) x hx (λq k=>hq q (wz k))) (hq _ (bh hi)) hn hm;refine⟨(),?_,trivial⟩;unfold Gs;dsimp only;simp only[zf,i1,i2,cR,bB,dG,cD,e,hw,CQ j4 l x hi]) (λb _=>by unfold Gs;simp) (b:=()) trivial
 rw[zI]at e1;exact e1
def Qw(M83:Runner->(aa ay)->au->af pJ)(M156:Runner->ay->au->af gH)(M160:Runner->ay->au->af gF){n m:Nat}(hn:n<=1000000)(hm:m<=1000000){L:aa au}(h0:L≠[])(hl:L.length<=1000000)(hq:∀q∈L,dW n m q)(c t:aH):
  1<=L.length/\pe M83 M156 M160 (kX.mk (yb 1 L) ((yb 1 L).length:Int) (0) (au.mk [] c [] t) L[0]!)=I (kX.mk (yb 1 L) ((yb 1 L).length:Int) ((yb 1 L).length:Int) (au.mk [] c [] t) (lf L)):=by
 cases L with
 |nil=>exact dg rfl h0
 |cons x l=>
  have hx:=hq x (zm ..);have hq2:∀q∈l,dW n m q:=λq k=>hq q (zK _ k);exact⟨by simp,W7 M83 M156 M160 hn hm (l:=l) (x:=x) (by simp at hl;omega) hx hq2 c t⟩
def C6(a:au->au)(t:ax)(c:Int):∀(N:Nat) (s:au),(jz a t c N s).length<=N+1
 |0,s=>by rw[jz];simp
 |n+1,s=>by
  rw[jz,zl];have:=C6 a t c n (a (fu s c));split<;>split<;>simp<;>omega
def aiW(M83:Runner->(aa ay)->au->af pJ)(M156:Runner->ay->au->af gH)(M160:Runner->ay->au->af gF){r:Runner}(hn:r.fF.ai.length<=1000000){a:au->au}{o:Nat}{x:ay}(hN:0<=x.fN/\x.fN<=4096)(hc:cj x.aR)(ht:dN r.fF.ai G x.aB=0)
  (ha:∀s m,dW r.fF.ai.length m s->dW r.fF.ai.length (m+o) (a s)) {s:au} {m:Nat} (h:dW r.fF.ai.length m s) (hm:m+x.fN.toNat*o<=1000000)
  (h1:∀s m,dW r.fF.ai.length m s->m+o<=1000000->M83 r x.aK s=I (a s)):
  YM M83 M156 M160 r x s=I (lf (jz a x.aB x.aR x.fN.toNat s)):=by
 obtain⟨okAll,neAll⟩:=AN hc ht ha x.fN.toNat s m h;have lenAll:=C6 a x.aB x.aR x.fN.toNat s;obtain⟨i,v,e1,⟨hi,hV1,hV2,hV3,hV4⟩,hcc⟩:=oO (rnd:=uA M83 M156 M160) x.fN.toNat (λi (b:aa au×au×au)=>⟨b.1,J,x.fN,(i:Int),r,x,b.2.1,⟨[],b.2.2.aA,[],b.2.2.aD⟩⟩)
  (λi b=>i<=x.fN.toNat/\dW r.fF.ai.length (m+i*o) b.2.1/\b.1.length<=i/\b.1++jz a x.aB x.aR (x.fN.toNat-i) b.2.1=jz a x.aB x.aR x.fN.toNat s/\True) (λi b=>cl (cv b.2.1.ai x.aB)=G) (λi b hi hb=>by
  obtain⟨L,b,z⟩:=b;obtain⟨_,hb,hL,hr,_⟩:=hb;dsimp only at hb hr hL;obtain⟨k,hk⟩:∃k,x.fN.toNat-i=k+1:=⟨x.fN.toNat-i-1,by omega⟩;have hk2:x.fN.toNat-(i+1)=k:=by omega
  rw[hk,jz]at hr;have hio:i*o+o<=x.fN.toNat*o:=by
   have:=yB o (show i+1<=x.fN.toNat by omega);rw[yf,xK]at this;exact this
  have hw:i64.wrap ((i:Int)+1)=((i+1:Nat):Int):=by rw[aI];omega
  have i1:(i:Int)<x.fN:=by omega
  have hA:=kJ hb hc;have ea:=MQ hb hc;have hsl:=hA.sl;have hln:=hA.len;have hnn:=gQ hA x.aB ht;have ev:Np (fu b x.aR) x.aB=I (cv b.ai x.aB):=Ik hA ht;have et:=Au (a:=cv b.ai x.aB) (.inr hnn);have hz:(cl (cv b.ai x.aB)||cC (cv b.ai x.aB) 0)=J:=zero_or hnn;have e:=h1 _ _ hA (by omega);have ec:=pY (s:=fu b x.aR) (by omega) (by omega);have el:(L++[fu b x.aR]).length<=1073741824:=by rw[zl,yz];omega
  by_cases hno:cl (cv b.ai x.aB)=J
  ·rw[bD hno]at hr;refine .inl ?_;have hnext:dW r.fF.ai.length (m+(i+1)*o) (a (fu b x.aR)):=by
    have:=ha _ _ hA;rw[yf,xK];exact this.weak (by omega)
   by_cases hh:cC (cv b.ai x.aB) 0=J
   ·rw[bD hh]at hr;refine⟨(L++[fu b x.aR],a (fu b x.aR),z),?_,by omega,hnext,by rw[zl,yz];omega,by rw[hk2,yQ];exact hr,trivial⟩;unfold uA;simp only[i1,cR,bB,ax.eta,ea,ev,et,ec,el,hh,hno,bz,cD,e,ay.eta,hw]
   ·rw[bL hh,yg]at hr;have hh:cC (cv b.ai x.aB) 0=G:=by simpa using hh
    refine⟨(L,a (fu b x.aR),z),?_,by omega,hnext,Nat.le_succ_of_le hL,by rw[hk2];exact hr,trivial⟩;unfold uA;simp only[i1,cR,bB,ax.eta,ea,ev,et,hh,hno,bz,e,ay.eta,hw]
  ·have hno:cl (cv b.ai x.aB)=G:=by simpa using hno
   refine .inr ⟨?_,hno⟩;have hh:cC (cv b.ai x.aB) 0=J:=by rw[hno]at hz;simpa using hz
   unfold uA;simp only[i1,cR,bB,ax.eta,ea,ev,et,ec,el,hh,hno,bz,cD]) (λb _=>by
   unfold uA;dsimp only;rw[eH];rfl) (b:=([],s,⟨[],⟨0,0,0⟩,[],⟨0,0,0⟩⟩)) ⟨by omega,h.weak (by omega),by simp,rfl,trivial⟩
 obtain⟨L,b,z⟩:=v;dsimp only at hV1 hV2 hV3 hcc;have e1':GD M83 M156 M160 ⟨[],J,x.fN,0,r,x,s,⟨[],⟨0,0,0⟩,[],⟨0,0,0⟩⟩⟩=I ⟨L,J,x.fN,(i:Int),r,x,b,⟨[],z.aA,[],z.aD⟩⟩:=e1;unfold YM;rw[ax.eta,ay.eta,e1'];rcases hcc with rfl|⟨hi2,hno⟩
 ·rw[Nat.sub_self,jz]at hV3;dsimp only;rw[eH,bz];simp only[bB];rw[bD (by rw[zl,yz];omega),hV3];obtain⟨j1,j2⟩:=Qw M83 M156 M160 hn hm neAll (by omega) okAll z.aA z.aD;rw[ga,bD (by first|exact⟨rfl,j1⟩|exact⟨trivial,j1⟩),ga,j2];dsimp only;rw[eH,bz]
 ·obtain⟨k,hk⟩:∃k,x.fN.toNat-i=k+1:=⟨x.fN.toNat-i-1,by omega⟩;rw[hk,jz]at hV3;have hA:=kJ hV1 hc;have ea:=MQ hV1 hc;have hio:i*o<=x.fN.toNat*o:=yB o hi;have hsl:=hA.sl;have hln:=hA.len;have hnn:=gQ hA x.aB ht;have ev:Np (fu b x.aR) x.aB=I (cv b.ai x.aB):=Ik hA ht;have et:=Au (a:=cv b.ai x.aB) (.inr hnn);have hz:(cl (cv b.ai x.aB)||cC (cv b.ai x.aB) 0)=J:=zero_or hnn;have ec:=pY (s:=fu b x.aR) (by omega) (by omega);have hh:cC (cv b.ai x.aB) 0=J:=by rw[hno]at hz;simpa using hz
  rw[hh,hno,bD rfl,bL (by decide),yp]at hV3;dsimp only;rw[mg,bB,ea];dsimp only;rw[ax.eta,ev];dsimp only;rw[et];dsimp only;rw[hh,hno,bB,ec];dsimp only;rw[bD (by rw[zl,yz];omega),hV3];obtain⟨j1,j2⟩:=Qw M83 M156 M160 hn hm neAll (by omega) okAll z.aA z.aD;rw[ga,bD (by first|exact⟨rfl,j1⟩|exact⟨trivial,j1⟩),ga,j2];dsimp only;rw[eH,bz];rfl
end Go.Proofs.YtnfljbehcffmcaaGreat
end
