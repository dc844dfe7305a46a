/- Merged: Pv2, Pv2b, Pv4, So, Hs, Ne9, Hr, Ne10, Ne30, Ha, Qv, Qw, Pv5, Pv6, Pv7, Qr, Qs, Ne31, Ne32, Hx, Hy, Ne33, Ne34, Ne35, Ne36, Ne37, Ne38, Qx, Qy. -/
import Derived.Test.YtnfljbehcffmcaaGreatM4RefineRefuses
import Derived.Test.YtnfljbehcffmcaaGreatM2RefineRefuses
import Derived.Shelf.Sort.Plain
import Derived.Shelf.Slices.In.SortNone
import Derived.Sort.OwnSortedInts
import Derived.Test.YtnfljbehcffmcaaGreatM3RefineRefuses
open Int renaming toNat_natCast → ze, le_refl → zq, toNat → zC, mul_nonneg → zF, mul_le_mul_of_nonneg_right → zN, lt_irrefl → yo, le_of_lt → y7, dvd_zero → xB, le_trans → xU, min_eq_right → xW, min_eq_left → wN
open Nat renaming le_refl → zo, lt_succ_self → zJ, le_trans → zK, add_mul → yb, not_lt_zero → yF, mul_le_mul_right → yK, lt_succ_iff_lt_or_eq → y8, mul_one → xz, sub_self → xS
open SizeOf renaming sizeOf → zg
open Bool renaming cond_decide → zh, and_eq_true → zi, false_eq_true → yu, true_and → wB, true → O, false → G
open Option renaming some → zA, some → V, none → S
open List renaming length_append → zl, mem_cons_self → zm, getElem?_eq_getElem → zu, all_eq_true → zw, length_map → zx, mem_singleton → zy, mem_cons → zB, take_length → zD, length_take → zH, mem_map → zL, range → zM, mem_cons_of_mem → zO, length → zS, mem_append → zV, map_congr_left → zX, mem_filter → zZ, map_append → z8, map_cons → yc, drop → yd, length_drop → yj, length_filter_le → yp, nil_append → yw, length_set → yx, getElem?_drop → yB, append_nil → yC, length_nil → yG, mem_append_left → yI, mem_append_right → yJ, length_singleton → yM, append_assoc → yQ, map_nil → yR, filter_cons → yS, getElem_map → yW, getElem_of_mem → yY, filter_append → y6, length_eq_zero_iff → xe, cons_append → xo, drop_eq_getElem_cons → xu, map_drop → xJ, getElem_mem → xM, map_take → xQ, take_zero → xR, filter_nil → xZ, getElem_take → we, mem_of_mem_drop → wh, attach_map_val → wz, foldl_append → wA, ext_getElem → wC, getElem_drop → wH, getElem?_take_of_lt → wO
open Array renaming getElem?_eq_some_iff → xE
open Decidable renaming decide → J
open Go.Proofs.Tryz renaming prog → w9
open Go.Proofs.Tryz
set_option linter.unusedSectionVars false
set_option linter.unusedVariables false
set_option linter.unusedSimpArgs false
set_option linter.defProp false
noncomputable section
set_option maxRecDepth 100000
namespace Go.Proofs.YtnfljbehcffmcaaGreat
open Go Go.Iv
open Go.IntKind (i64 u64)
def acY(o:Int):LX o=cc o:=by
 unfold LX cc;simp only[zh];grind
def ahQ(o:Int):FQ o=if o=25 then-2 else(cc o).1:=by
 unfold FQ cc;simp only[zh];grind (splits:=40)
def acm(M:aa aX->au->Bool->af rS)(vars:aa aX)(inp:Bool)(t:au)(hM:∀k∈t.aq,M vars k inp=V (dH vars inp k)):ahr M vars t inp=V (dH vars inp t):=by
 have key:t.aq.length<=1000000->∃i:Nat,vt M ⟨vars,inp,t.aq,(t.aq.length:Int),0⟩=V ⟨vars,inp,t.aq,(t.aq.length:Int),(i:Int)⟩/\((i=t.aq.length/\t.aq.all (dH vars inp)=O)\/(i<t.aq.length/\dH vars inp t.aq[i]! =G/\t.aq.all (dH vars inp)=G)):=λhl=>by
  obtain⟨i,e1,hc⟩:=qm (rnd:=J7 M) t.aq (λi=>⟨vars,inp,t.aq,(t.aq.length:Int),(i:Int)⟩) (λ_ k=>dH vars inp k) (λi hi=>by
   have hw:=fG hi hl;have hk:=hM _ (bh hi);unfold J7;dsimp only;simp only[zh,ze,au.eta,hk,hw];cases dH vars inp t.aq[i]! <;>simp[hi]) (by unfold J7;simp)
  refine⟨i,e1,?_⟩;rcases hc with ⟨rfl,hc⟩|⟨hi,hc⟩
  ·exact .inl ⟨rfl,DV hc⟩
  ·exact .inr ⟨hi,hc,ux hi hc⟩
 unfold ahr;rw[acY,lB];unfold Bm;by_cases hn:0<=(cc t.bC).1/\(cc t.bC).1<=t.aq.length/\(t.aq.length:Int)<=(cc t.bC).2
 ·have h33:(cc t.bC).2<=33:=by unfold cc;grind
  obtain⟨i,e,hc⟩:=key (by omega);rw[bW hn,bX (show ¬(cc t.bC).1<0 by omega),bX (show ¬(t.aq.length:Int)<(cc t.bC).1 by omega),bX (show ¬(cc t.bC).2<(t.aq.length:Int)by omega),e];generalize t.aq.all (dH vars inp)=A at hc;simp only[zh,ze,bA,wB];rcases hc with ⟨rfl,rfl⟩|⟨hi,h2,rfl⟩
  ·cases inp<;>grind
  ·have hk:=hM _ (bh hi);simp only[au.eta,hk,h2];cases inp<;>grind
 ·rw[bX hn];simp only[zh];grind
def Ss(vars:aa aX)(inp:Bool):∀(n:Nat) (t:au),zg t<n->P4 n vars t inp=V (dH vars inp t)
 |0,_,h=>by omega
 |n+1,t,h=>acm (P4 n) vars inp t (λk hk=>Ss vars inp n k (by have:=au.fm hk;omega))
def aeV(vars:aa aX)(inp:Bool)(t:au):aiq vars t inp=V (dH vars inp t):=eT (zg t+1) λn hn=>Ss vars inp n t (by omega)
def agI(M:aa aX->au->Bool->af rU)(vars:aa aX)(inp:Bool)(t:au)(hM:∀k∈t.aq,M vars k inp=V (dH vars inp k)):aik M vars t inp=V (dH vars inp t):=by
 have key:t.aq.length<=1000000->∃i:Nat,CG M ⟨vars,inp,0,t⟩=V ⟨vars,inp,(i:Int),t⟩/\((i=t.aq.length/\t.aq.all (dH vars inp)=O)\/(i<t.aq.length/\dH vars inp t.aq[i]! =G/\t.aq.all (dH vars inp)=G)):=λhl=>by
  obtain⟨i,e1,hc⟩:=qm (rnd:=Hv M) t.aq (λi=>⟨vars,inp,(i:Int),t⟩) (λ_ k=>dH vars inp k) (λi hi=>by
   have hw:=fG hi hl;have hk:=hM _ (bh hi);unfold Hv;dsimp only;simp only[zh,ze,au.eta,hk,hw];cases dH vars inp t.aq[i]! <;>simp[hi]) (by unfold Hv;simp)
  refine⟨i,e1,?_⟩;rcases hc with ⟨rfl,hc⟩|⟨hi,hc⟩
  ·exact .inl ⟨rfl,DV hc⟩
  ·exact .inr ⟨hi,hc,ux hi hc⟩
 unfold aik;rw[ahQ,lB];unfold Bm;have hk0:(cc t.bC).1= -1\/0<=(cc t.bC).1:=by unfold cc;grind
 have hk1:t.bC≠25->(cc t.bC).1=(cc t.bC).2:=by unfold cc;grind
 have hk2:t.bC=25->cc t.bC=(2,33):=by unfold cc;grind
 have h33:(cc t.bC).2<=33:=by unfold cc;grind
 have hk3:t.bC=25->(cc t.bC).1=2/\(cc t.bC).2=33:=λh=>by rw[hk2 h];exact⟨rfl,rfl⟩
 generalize (cc t.bC).1=a at*;generalize (cc t.bC).2=b at*;by_cases hn:0<=a/\a<=t.aq.length/\(t.aq.length:Int)<=b
 ·obtain⟨i,e,hc⟩:=key (by omega);rw[bW hn,au.eta,e];generalize t.aq.all (dH vars inp)=A at hc;simp only[zh,ze,wB];rcases hc with ⟨rfl,rfl⟩|⟨hi,h2,rfl⟩
  ·cases inp<;>grind
  ·have hk:=hM _ (bh hi);simp only[au.eta,hk,h2];clear hM key e hk h2 hk2 hk0;by_cases h25:t.bC=25
   ·rw[bG h25,h25];cases inp<;>grind (splits:=30)
   ·rw[bP h25];have:=hk1 h25;subst this;rw[bP (show ¬a= -1 by omega),bG (show 0<=a by omega),bG (show (t.aq.length:Int)=a by omega),bP (show ¬a= -2 by omega)];dsimp only[bA,bD];cases inp<;>grind (splits:=30)
 ·rw[bX hn];simp only[zh];grind
def SK(vars:aa aX)(inp:Bool):∀(n:Nat) (t:au),zg t<n->OD n vars t inp=V (dH vars inp t)
 |0,_,h=>by omega
 |n+1,t,h=>agI (OD n) vars inp t (λk hk=>SK vars inp n k (by have:=au.fm hk;omega))
def acJ(vars:aa aX)(inp:Bool)(t:au):afH vars t inp=V (dH vars inp t):=eT (zg t+1) λn hn=>SK vars inp n t (by omega)
def FI(s:Span):Prop:= -1048576<=s.ag/\s.ag<=s.ah/\s.ah<=1048576
def Ci(a b:Span):VX a b=fP a b:=rfl
def qG{a b:Int}(h1: -1048576<=a)(h2:a<=1048576)(h3: -1048576<=b)(h4:b<=1048576): -1099511627776<=a*b/\a*b<=1099511627776:=by
 have e1:(1048576-a)*(1048576-b)≥0:=zF (by omega) (by omega);have e2:(1048576+a)*(1048576+b)≥0:=zF (by omega) (by omega);have e3:(1048576-a)*(1048576+b)≥0:=zF (by omega) (by omega);have e4:(1048576+a)*(1048576-b)≥0:=zF (by omega) (by omega);grind
def adH(a b:Span)(ha:FI a)(hb:FI b):abR a b=V (fP (fP (fP ⟨a.ag*b.ag,a.ag*b.ag⟩ ⟨a.ag*b.ah,a.ag*b.ah⟩) ⟨a.ah*b.ag,a.ah*b.ag⟩) ⟨a.ah*b.ah,a.ah*b.ah⟩):=by
 unfold FI at ha hb;have w1:Ba a.ag b.ag=a.ag*b.ag:=by have:=qG (a:=a.ag) (b:=b.ag) (by omega) (by omega) (by omega) (by omega);exact aG
 have w2:Ba a.ag b.ah=a.ag*b.ah:=by have:=qG (a:=a.ag) (b:=b.ah) (by omega) (by omega) (by omega) (by omega);exact aG
 have w3:Ba a.ah b.ag=a.ah*b.ag:=by have:=qG (a:=a.ah) (b:=b.ag) (by omega) (by omega) (by omega) (by omega);exact aG
 have w4:Ba a.ah b.ah=a.ah*b.ah:=by have:=qG (a:=a.ah) (b:=b.ah) (by omega) (by omega) (by omega) (by omega);exact aG
 unfold abR;rw[w1,w2,w3,w4];generalize a.ag*b.ag=p;generalize a.ag*b.ah=q;generalize a.ah*b.ag=r;generalize a.ah*b.ah=s;have e:EY ⟨[q,r,s],(3:Int),0,⟨0,0⟩,⟨p,p⟩⟩=V ⟨[q,r,s],3,3,⟨0,0⟩,fP (fP (fP ⟨p,p⟩ ⟨q,q⟩) ⟨r,r⟩) ⟨s,s⟩⟩:=by
  have k1:p7 ⟨[q,r,s],(3:Int),0,⟨0,0⟩,⟨p,p⟩⟩=V (V ⟨[q,r,s],(3:Int),1,⟨0,0⟩,fP ⟨p,p⟩ ⟨q,q⟩⟩):=by unfold p7;simp[Ci,aG]
  have k2:p7 ⟨[q,r,s],(3:Int),1,⟨0,0⟩,fP ⟨p,p⟩ ⟨q,q⟩⟩=V (V ⟨[q,r,s],(3:Int),2,⟨0,0⟩,fP (fP ⟨p,p⟩ ⟨q,q⟩) ⟨r,r⟩⟩):=by unfold p7;simp[Ci,aG]
  have k3:p7 ⟨[q,r,s],(3:Int),2,⟨0,0⟩,fP (fP ⟨p,p⟩ ⟨q,q⟩) ⟨r,r⟩⟩=V (V ⟨[q,r,s],(3:Int),3,⟨0,0⟩,fP (fP (fP ⟨p,p⟩ ⟨q,q⟩) ⟨r,r⟩) ⟨s,s⟩⟩):=by unfold p7;simp[Ci,aG]
  unfold EY;rw[bQ k1,bQ k2,bQ k3];exact cu λr=>by unfold p7;simp
 rw[show (([q,r,s]:aa Int).length:Int)=3 from rfl,e];simp
def ahN{a b:Span}(ha:FI a)(hb:FI b):FI (fP a b):=by
 unfold FI fP at*;grind
def mq:∀(l:aa Span) (a:Span),FI a->(∀x∈l,FI x)->FI (l.foldl fP a)
 |[],a,ha,_=>ha
 |x::l,a,ha,h=>mq l (fP a x) (ahN ha (h x (zm ..))) λy hy=>h y (zO _ hy)
def Vb(l:aa Span)(hl:l.length<=1000000)(z a:Span):Fs ⟨l,(l.length:Int),0,z,a⟩=V ⟨l,(l.length:Int),(l.length:Int),z,l.foldl fP a⟩:=by
 obtain⟨v,e1,hv⟩:=cZ (rnd:=Ks) l.length (λi (b:Span)=>⟨l,(l.length:Int),(i:Int),z,b⟩) (λi b=>b=(l.take i).foldl fP a) (λi b hi hb=>by
  have hw:=fG hi hl;refine⟨fP b l[i]!,?_,?_⟩
  ·unfold Ks;dsimp only;simp only[zh,ze,Ci,hw];grind
  ·rw[bI hi,wA,hb];rfl) (λb _=>by unfold Ks;simp) (b:=a) rfl
 rw[zD]at hv;rw[<-hv];exact e1
def Ct(vars:aa aX)(t:au)(k:aa Span):Prop:=(0<=(cc t.bC).1/\(cc t.bC).1<=k.length/\(k.length:Int)<=(cc t.bC).2)/\(t.bC=24->0<=t.fN/\t.fN<vars.length)/\∀s∈k,FI s
def ajC(vars:aa aX)(t:au)(k:aa Span)(h:Ct vars t k):agG vars t k=V (iN vars t k):=by
 obtain⟨hk,h24,hI⟩:=h;have h0:1<=(cc t.bC).1->FI k[0]! :=λh=>hI _ (bh (by omega));have h1:2<=(cc t.bC).1->FI k[1]! :=λh=>hI _ (bh (by omega));have h33:(cc t.bC).2<=33:=by unfold cc;grind
 have hd:(k.drop 2).length<=1000000:=by rw[yj];omega
 have W:∀n:Int,-8796093022208<=n->n<=8796093022208->i64.wrap n=n:=λn a b=>aG;unfold agG iN;rw[Vb _ hd];have cs:t.bC=0\/t.bC=24\/t.bC=6\/t.bC=8\/t.bC=9\/t.bC=10\/t.bC=11\/t.bC=12\/t.bC=21\/t.bC=22\/t.bC=23\/t.bC=25\/(t.bC≠0/\t.bC≠24/\t.bC≠6/\t.bC≠8/\t.bC≠9/\t.bC≠10/\t.bC≠11/\t.bC≠12/\t.bC≠21/\t.bC≠22/\t.bC≠23/\t.bC≠25):=by omega
 rcases cs with h|h|h|h|h|h|h|h|h|h|h|h|h
 ·simp[h]
 ·simp[h,h24 h]
 ·have hl:1<=(cc t.bC).1:=by rw[h];decide
  obtain⟨a1,a2,a3⟩:=h0 hl;have w1:i64.wrap ((0:Int)-k[0]!.ah)= -k[0]!.ah:=by rw[W _ (by omega) (by omega)];omega
  have w2:i64.wrap ((0:Int)-k[0]!.ag)= -k[0]!.ag:=by rw[W _ (by omega) (by omega)];omega
  have i0:(0:Int)<(k.length:Int):=by omega
  simp only[Z0,h,zh,Int.reduceEq,reduceIte,i0,w1,w2,zq,dA,cF]
 ·have hl:2<=(cc t.bC).1:=by rw[h];decide
  obtain⟨a1,a2,a3⟩:=h0 (by omega);obtain⟨b1,b2,b3⟩:=h1 hl;have w1:=W (k[0]!.ag+k[1]!.ag) (by omega) (by omega);have w2:=W (k[0]!.ah+k[1]!.ah) (by omega) (by omega);have i0:(0:Int)<(k.length:Int):=by omega
  have i1:(1:Int)<(k.length:Int):=by omega
  simp only[Z0,h,zh,Int.reduceEq,Int.reduceLE,reduceIte,i0,i1,w1,w2,zq,dA,cF]
 ·have hl:2<=(cc t.bC).1:=by rw[h];decide
  obtain⟨a1,a2,a3⟩:=h0 (by omega);obtain⟨b1,b2,b3⟩:=h1 hl;have w1:=W (k[0]!.ag-k[1]!.ah) (by omega) (by omega);have w2:=W (k[0]!.ah-k[1]!.ag) (by omega) (by omega);have i0:(0:Int)<(k.length:Int):=by omega
  have i1:(1:Int)<(k.length:Int):=by omega
  simp only[Z0,h,zh,Int.reduceEq,Int.reduceLE,reduceIte,i0,i1,w1,w2,zq,dA,cF]
 ·have hl:2<=(cc t.bC).1:=by rw[h];decide
  have e18:=adH _ _ (h0 (by omega)) (h1 hl);have i0:(0:Int)<(k.length:Int):=by omega
  have i1:(1:Int)<(k.length:Int):=by omega
  simp only[Z0,h,zh,Int.reduceEq,Int.reduceLE,reduceIte,i0,i1,e18,zq,dA,cF]
 ·have hl:2<=(cc t.bC).1:=by rw[h];decide
  obtain⟨a1,a2,a3⟩:=h0 (by omega);obtain⟨b1,b2,b3⟩:=h1 hl;have w1:i64.wrap ((0:Int)-k[0]!.ag)= -k[0]!.ag:=by rw[W _ (by omega) (by omega)];omega
  have w2:i64.wrap ((0:Int)-if k[0]!.ah< -k[0]!.ag then-k[0]!.ag else k[0]!.ah)= -(if k[0]!.ah< -k[0]!.ag then-k[0]!.ag else k[0]!.ah):=by split<;>(rw[W _ (by omega) (by omega)];omega)
  have i0:(0:Int)<(k.length:Int):=by omega
  have i1:(1:Int)<(k.length:Int):=by omega
  simp only[Z0,h,zh,Int.reduceEq,Int.reduceLE,reduceIte,i0,i1,w1,w2,zq,dA,cF];by_cases c1:(0:Int)<=k[0]!.ag<;>by_cases c2:(0:Int)<=k[1]!.ag<;>simp only[c1,c2,cF,gA,cR,eR,bD,bA,dA,and_true,and_false]
 ·have hl:2<=(cc t.bC).1:=by rw[h];decide
  obtain⟨b1,b2,b3⟩:=h1 hl;have w1:=W (k[1]!.ag+1) (by omega) (by omega);have w2:=W (k[1]!.ah-1) (by omega) (by omega);have i1:(1:Int)<(k.length:Int):=by omega
  simp only[Z0,h,zh,Int.reduceEq,Int.reduceLE,reduceIte,i1,w1,w2,zq,dA,cF];by_cases c1:k[1]!.ag<0<;>by_cases c2:(0:Int)<k[1]!.ah<;>simp only[c1,c2,cF,gA]
  ·rw[Am,Am]
  ·rw[Am]
  ·rw[Am]
 ·have hl:2<=(cc t.bC).1:=by rw[h];decide
  have i0:(0:Int)<(k.length:Int):=by omega
  have i1:(1:Int)<(k.length:Int):=by omega
  simp only[Z0,h,zh,Int.reduceEq,Int.reduceLE,reduceIte,i0,i1,zq,dA,cF]
 ·have hl:2<=(cc t.bC).1:=by rw[h];decide
  have i0:(0:Int)<(k.length:Int):=by omega
  have i1:(1:Int)<(k.length:Int):=by omega
  simp only[Z0,h,zh,Int.reduceEq,Int.reduceLE,reduceIte,i0,i1,zq,dA,cF]
 ·have hl:2<=(cc t.bC).1:=by rw[h];decide
  have i1:(1:Int)<(k.length:Int):=by omega
  have i2:(2:Int)<=(k.length:Int):=by omega
  simp only[Z0,h,zh,Int.reduceEq,Int.reduceLE,reduceIte,i1,i2,zq,dA,cF,yo,gA,true_or]
 ·have hl:2<=(cc t.bC).1:=by rw[h];decide
  have i1:(1:Int)<(k.length:Int):=by omega
  have i2:(2:Int)<=(k.length:Int):=by omega
  simp only[Z0,h,zh,Int.reduceEq,Int.reduceLE,reduceIte,i1,i2,zq,dA,cF,yo,gA,or_true]
 ·obtain⟨c1,c2,c3,c4,c5,c6,c7,c8,c9,c18,c11,c12⟩:=h;simp only[c1,c2,c3,c4,c5,c6,c7,c8,c9,c18,c11,c12,zh,gA,or_self]
def Xd(vars:aa aX)(hv:dc vars)(t:au)(k:aa Span)(h:Ct vars t k):(iN vars t k).ag<=(iN vars t k).ah:=by
 obtain⟨hk,h24,hI⟩:=h;have h0:1<=(cc t.bC).1->FI k[0]! :=λh=>hI _ (bh (by omega));have h1:2<=(cc t.bC).1->FI k[1]! :=λh=>hI _ (bh (by omega));unfold iN;have cs:t.bC=0\/t.bC=24\/t.bC=6\/t.bC=8\/t.bC=9\/t.bC=10\/t.bC=11\/t.bC=12\/t.bC=21\/t.bC=22\/t.bC=23\/t.bC=25\/(t.bC≠0/\t.bC≠24/\t.bC≠6/\t.bC≠8/\t.bC≠9/\t.bC≠10/\t.bC≠11/\t.bC≠12/\t.bC≠21/\t.bC≠22/\t.bC≠23/\t.bC≠25):=by omega
 rcases cs with h|h|h|h|h|h|h|h|h|h|h|h|h
 ·simp[h]
 ·have hm:vars[t.fN.toNat]!∈vars:=bh (by have:=h24 h;omega);have:=hv _ hm;simp only[h,Int.reduceEq,reduceIte];omega
 ·obtain⟨a1,a2,a3⟩:=h0 (by rw[h];decide);simp only[h,Int.reduceEq,reduceIte];omega
 ·obtain⟨a1,a2,a3⟩:=h0 (by rw[h];decide);obtain⟨b1,b2,b3⟩:=h1 (by rw[h];decide);simp only[h,Int.reduceEq,reduceIte];omega
 ·obtain⟨a1,a2,a3⟩:=h0 (by rw[h];decide);obtain⟨b1,b2,b3⟩:=h1 (by rw[h];decide);simp only[h,Int.reduceEq,reduceIte];omega
 ·simp only[h,Int.reduceEq,reduceIte,fP];generalize k[0]!.ag*k[1]!.ag=p;generalize k[0]!.ag*k[1]!.ah=q;generalize k[0]!.ah*k[1]!.ag=r;generalize k[0]!.ah*k[1]!.ah=s;grind
 ·obtain⟨a1,a2,a3⟩:=h0 (by rw[h];decide);simp only[h,Int.reduceEq,reduceIte];grind
 ·simp only[h,Int.reduceEq,reduceIte];grind
 ·obtain⟨a1,a2,a3⟩:=h0 (by rw[h];decide);obtain⟨b1,b2,b3⟩:=h1 (by rw[h];decide);simp only[h,Int.reduceEq,reduceIte];grind
 ·obtain⟨a1,a2,a3⟩:=h0 (by rw[h];decide);obtain⟨b1,b2,b3⟩:=h1 (by rw[h];decide);simp only[h,Int.reduceEq,reduceIte];grind
 ·have:=mq (k.drop 2) k[1]! (h1 (by rw[h];decide)) λx hx=>hI x (wh hx);simp only[h,Int.reduceEq,reduceIte,true_or,cF];exact this.2.1
 ·have:=mq (k.drop 2) k[1]! (h1 (by rw[h];decide)) λx hx=>hI x (wh hx);simp only[h,Int.reduceEq,reduceIte,or_true,cF];exact this.2.1
 ·obtain⟨c1,c2,c3,c4,c5,c6,c7,c8,c9,c18,c11,c12⟩:=h;simp only[c1,c2,c3,c4,c5,c6,c7,c8,c9,c18,c11,c12,gA,or_self];decide
def qX:∀{l:aa (af Span)} {r:aa Span},ku l=V r->l=r.map V
 |[],r,h=>by unfold ku at h;cases h;rfl
 |none::l,r,h=>by unfold ku at h;cases h
 |some s::l,r,h=>by
  unfold ku at h;cases hl:ku l with
  |none=>rw[hl]at h;cases h
  |some q=>rw[hl]at h;cases h;rw[qX hl];rfl
def MS(l:aa Span):ku (l.map V)=V l:=by
 induction l with
 |nil=>rfl
 |cons s l ih=>rw[yc,ku,ih]
def vV:∀{l:aa (af Span)},S∈l->ku l=S
 |none::l,h=>rfl
 |some s::l,h=>by
  unfold ku;rw[vV (by simpa using h)]
def GF{vars:aa aX}{inp:Bool}{t:au}{k:aa Span}(hf:Bm vars inp t=O)(hl:k.length=t.aq.length)(hI:∀s∈k,FI s):Ct vars t k:=by
 unfold Bm at hf;refine⟨?_,?_,hI⟩
 ·rw[hl];simp only[zi,decide_eq_true_eq]at hf;exact hf.1
 ·intro h;rw[h]at hf;simp at hf;exact hf.2.1
def afE(vars:aa aX)(hv:dc vars)(inp:Bool)(t:au)(s:Span)(hf:dH vars inp t=O)(h:gK vars t=V s):FI s:=by
 have key:∀(n:Nat) (t:au) (s:Span),zg t<n->dH vars inp t=O->gK vars t=V s->FI s:=by
  intro n;induction n with
  |zero=>intro t s h;omega
  |succ n ih=>
   intro t s hz hf h;rw[lB,zi,zw]at hf;rw[uP]at h;cases ha:ku (t.aq.map (gK vars))with
   |none=>rw[ha]at h;cases h
   |some k=>
    rw[ha]at h;dsimp only at h;have hm:=qX ha;have hl:k.length=t.aq.length:=by have:=congrArg zS hm;simpa using this.symm
    have hI:∀s∈k,FI s:=λx hx=>by
     have:V x∈t.aq.map (gK vars):=by rw[hm];exact List.mem_map_of_mem hx
     obtain⟨c,hc,e⟩:=zL.1 this;exact ih c x (by have:=au.fm hc;omega) (hf.2 c hc) e
    have ho:=Xd vars hv t k (GF hf.1 hl hI);split at h
    ·rename_i hlim;cases h;unfold uC at hlim;unfold FI;grind
    ·cases h
 exact key _ t s (zJ _) hf h
def ve(vars:aa aX)(t:au):Span×Bool:=match ku (t.aq.map (gK vars))with
 |none=>(⟨0,0⟩,G)
 |some l=>(iN vars t l,uC (iN vars t l))
def HV(vars:aa aX)(t:au):gK vars t=if(ve vars t).2=O then V (ve vars t).1 else S:=by
 rw[uP,ve];cases ku (t.aq.map (gK vars))<;>rfl
def LN{vars:aa aX}(hv:dc vars){inp:Bool}{t:au}{k:aa Span}(hf:dH vars inp t=O)(ha:ku (t.aq.map (gK vars))=V k):Ct vars t k:=by
 rw[lB,zi,zw]at hf;have hm:=qX ha;refine GF hf.1 (by have:=congrArg zS hm;simpa using this.symm) λx hx=> ?_;have:V x∈t.aq.map (gK vars):=by rw[hm];exact List.mem_map_of_mem hx
 obtain⟨c,hc,e⟩:=zL.1 this;exact afE vars hv inp c x (hf.2 c hc) e
def MW{vars:aa aX}{inp:Bool}{t:au}(hf:dH vars inp t=O):t.aq.length<=33:=by
 rw[lB,zi]at hf;have:=hf.1;unfold Bm at this;have h33:(cc t.bC).2<=33:=by unfold cc;grind
 simp only[zi,decide_eq_true_eq]at this;omega
def Fh{vars:aa aX}{inp:Bool}{t k:au}(hf:dH vars inp t=O)(hk:k∈t.aq):dH vars inp k=O:=by
 rw[lB,zi,zw]at hf;exact hf.2 k hk
def agi(M:aa aX->au->af rJ)(vars:aa aX)(hv:dc vars)(inp:Bool)(t:au)(hf:dH vars inp t=O)(hM:∀k∈t.aq,M vars k=V (ve vars k)):ahz M vars t=V (ve vars t):=by
 have h33:=MW hf;obtain⟨i,b,e1,hI,hc⟩:=oE (rnd:=Dk M) t.aq.length (λi (b:aa Span)=>⟨vars,b,t.aq,(t.aq.length:Int),(i:Int),t,⟨0,0⟩⟩) (λi b=>(t.aq.take i).map (gK vars)=b.map V) (λi _=>(ve vars t.aq[i]!).2=G) (λi b hi hb=>by
  have hw:=fG hi (by omega);have hk:=hM _ (bh hi);have hlen:b.length=i:=by have:=congrArg zS hb;simp at this;omega
  cases hx:(ve vars t.aq[i]!).2 with
  |true=>
   refine .inl ⟨b++[(ve vars t.aq[i]!).1],?_,?_⟩
   ·have hl2:(b++[(ve vars t.aq[i]!).1]).length<=1073741824:=by simp;omega
    unfold Dk;dsimp only;simp only[ze,au.eta,hk,hx,hl2,hw,cF,bD,bA];simp[hi]
   ·rw[bI hi,z8,hb,z8]
    congr 1
    rw[yc,yc,HV,bG hx];rfl
  |false=>
   refine .inr ⟨?_,rfl⟩;unfold Dk;dsimp only;simp only[ze,au.eta,hk,hx,bD,bA];simp[hi]) (λb _=>by unfold Dk;simp) (b:=[]) rfl
 have e1':IM M ⟨vars,[],t.aq,(t.aq.length:Int),0,t,⟨0,0⟩⟩=V ⟨vars,b,t.aq,(t.aq.length:Int),(i:Int),t,⟨0,0⟩⟩:=e1;unfold ahz;rw[au.eta,e1'];dsimp only;rcases hc with rfl|⟨hi,hx⟩
 ·rw[zD]at hI;have ha:ku (t.aq.map (gK vars))=V b:=by rw[hI];exact MS b
  rw[gd,bA,au.eta,ajC vars t b (LN hv hf ha)];unfold ve;rw[ha];dsimp only;unfold uC;simp only[zh];grind
 ·have hk:=hM _ (bh hi);have ha:ku (t.aq.map (gK vars))=S:=vV (zL.2 ⟨t.aq[i]!,bh hi,by rw[HV,hx];simp⟩);rw[nj,bD,bG ⟨by omega,by omega⟩];simp only[ze,au.eta,hk,hx,bD,bA];unfold ve;rw[ha]
def To(vars:aa aX)(hv:dc vars)(inp:Bool):∀(n:Nat) (t:au),zg t<n->dH vars inp t=O->Oe n vars t=V (ve vars t)
 |0,_,h,_=>by omega
 |n+1,t,h,hf=>agi (Oe n) vars hv inp t hf (λk hk=>To vars hv inp n k (by have:=au.fm hk;omega) (Fh hf hk))
def agS(vars:aa aX)(hv:dc vars)(inp:Bool)(t:au)(hf:dH vars inp t=O):agl vars t=V (ve vars t):=eT (zg t+1) λn hn=>To vars hv inp n t (by omega) hf
def Cb(vars:aa aX)(hv:dc vars)(inp:Bool)(t:au):PL vars t inp=V (eV vars inp t):=by
 unfold PL eV;rw[au.eta,aeV];cases hf:dH vars inp t with
 |false=>rfl
 |true=>
  rw[agS vars hv inp t hf,HV];dsimp only;cases (ve vars t).2<;>rfl
def vb(vars:aa aX)(t:au)(k:aa Span):Span:=if t.bC=0/\(t.fN< -1048576\/1048576<t.fN)then⟨-1048577,1048577⟩else iN vars t k
def U3(vars:aa aX)(t:au)(k:aa Span):uC (vb vars t k)=uC (iN vars t k)/\(uC (iN vars t k)=O->vb vars t k=iN vars t k):=by
 unfold vb;by_cases h:t.bC=0/\(t.fN< -1048576\/1048576<t.fN)
 ·have e:uC (iN vars t k)=G:=by
   unfold uC iN;rw[bG h.1];simp;omega
  rw[bG h,e];exact⟨by decide,λh=>by cases h⟩
 ·rw[bP h];exact⟨rfl,λ_=>rfl⟩
def qN(a b:Int):jI a b=if a<b then a else b:=by
 unfold jI;simp only[zh]
def nK(a b:Int):kH a b=if b<a then a else b:=by
 unfold kH;simp only[zh]
def gO{k:aa Span}{i:Nat}(h:i<k.length):(k.map (·.ag))[i]! =k[i]!.ag:=by
 rw[getElem!_pos _ i (by simpa using h),getElem!_pos k i h,yW]
def fC{k:aa Span}{i:Nat}(h:i<k.length):(k.map (·.ah))[i]! =k[i]!.ah:=by
 rw[getElem!_pos _ i (by simpa using h),getElem!_pos k i h,yW]
def GB(k:aa Span)(hl:k.length<=1000000)(h2:2<=k.length)(a:Span):EA ⟨k.map (·.ag),k.map (·.ah),a.ag,a.ah,2⟩=V ⟨k.map (·.ag),k.map (·.ah),((k.drop 2).foldl fP a).ag,((k.drop 2).foldl fP a).ah,(k.length:Int)⟩:=by
 have hlen:(k.drop 2).length=k.length-2:=yj ..;have hget:∀i,i<k.length-2->(k.drop 2)[i]! =k[i+2]! :=λi hi=>by
  rw[getElem!_pos _ i (by omega),getElem!_pos _ (i+2) (by omega),wH]
  congr 1
  omega
 obtain⟨v,e1,hv⟩:=cZ (rnd:=JR) (k.length-2) (λi (b:Span)=>⟨k.map (·.ag),k.map (·.ah),b.ag,b.ah,((i+2:Nat):Int)⟩) (λi b=>b=((k.drop 2).take i).foldl fP a) (λi b hi hb=>by
  have hw:=fG (show i+2<k.length by omega) hl;refine⟨fP b k[i+2]!,?_,?_⟩
  ·unfold JR;dsimp only;simp only[zh,ze,qN,nK,hw,zx,gO (show i+2<k.length by omega),fC (show i+2<k.length by omega)];unfold fP;rw[ig,bG ⟨by omega,by omega⟩,bG ⟨by omega,by omega⟩]
   congr 3<;>grind
  ·rw[bI (by omega),wA,hb,hget i hi];rfl) (λb _=>by
   unfold JR;simp only[zx,zh];rw[Am]) (b:=a) rfl
 rw[<-hlen,zD]at hv;rw[<-hv];rw[show k.length-2+2=k.length by omega]at e1;exact e1
def adT(vars:aa aX)(t:au)(k:aa Span)(h:Ct vars t k):aez vars t (k.map (·.ag)) (k.map (·.ah))=V ((vb vars t k).ag,(vb vars t k).ah):=by
 obtain⟨hk,h24,hI⟩:=h;have h0:1<=(cc t.bC).1->FI k[0]! :=λh=>hI _ (bh (by omega));have h1:2<=(cc t.bC).1->FI k[1]! :=λh=>hI _ (bh (by omega));have h33:(cc t.bC).2<=33:=by unfold cc;grind
 have W:∀n:Int,-8796093022208<=n->n<=8796093022208->i64.wrap n=n:=λn a b=>aG;unfold aez vb iN;have cs:t.bC=0\/t.bC=24\/t.bC=6\/t.bC=8\/t.bC=9\/t.bC=10\/t.bC=11\/t.bC=12\/t.bC=21\/t.bC=22\/t.bC=23\/t.bC=25\/(t.bC≠0/\t.bC≠24/\t.bC≠6/\t.bC≠8/\t.bC≠9/\t.bC≠10/\t.bC≠11/\t.bC≠12/\t.bC≠21/\t.bC≠22/\t.bC≠23/\t.bC≠25):=by omega
 rcases cs with h|h|h|h|h|h|h|h|h|h|h|h|h
 ·simp only[Z0,h,zh,Int.reduceEq,reduceIte,true_and];grind
 ·simp[h,h24 h]
 ·have hl:1<=(cc t.bC).1:=by rw[h];decide
  obtain⟨a1,a2,a3⟩:=h0 hl;have w1:i64.wrap ((0:Int)-k[0]!.ah)= -k[0]!.ah:=by rw[W _ (by omega) (by omega)];omega
  have w2:i64.wrap ((0:Int)-k[0]!.ag)= -k[0]!.ag:=by rw[W _ (by omega) (by omega)];omega
  have i0:(0:Int)<(k.length:Int):=by omega
  simp only[Z0,h,zh,Int.reduceEq,reduceIte,zx,i0,gO (show 0<k.length by omega),fC (show 0<k.length by omega),w1,w2,zq,dA,cF,false_and,gA]
 ·have hl:2<=(cc t.bC).1:=by rw[h];decide
  obtain⟨a1,a2,a3⟩:=h0 (by omega);obtain⟨b1,b2,b3⟩:=h1 hl;have w1:=W (k[0]!.ag+k[1]!.ag) (by omega) (by omega);have w2:=W (k[0]!.ah+k[1]!.ah) (by omega) (by omega);have i0:(0:Int)<(k.length:Int):=by omega
  have i1:(1:Int)<(k.length:Int):=by omega
  simp only[Z0,h,zh,Int.reduceEq,Int.reduceLE,reduceIte,zx,gO (show 0<k.length by omega),fC (show 0<k.length by omega),gO (show 1<k.length by omega),fC (show 1<k.length by omega),i0,i1,w1,w2,zq,dA,cF,false_and,gA]
 ·have hl:2<=(cc t.bC).1:=by rw[h];decide
  obtain⟨a1,a2,a3⟩:=h0 (by omega);obtain⟨b1,b2,b3⟩:=h1 hl;have w1:=W (k[0]!.ag-k[1]!.ah) (by omega) (by omega);have w2:=W (k[0]!.ah-k[1]!.ag) (by omega) (by omega);have i0:(0:Int)<(k.length:Int):=by omega
  have i1:(1:Int)<(k.length:Int):=by omega
  simp only[Z0,h,zh,Int.reduceEq,Int.reduceLE,reduceIte,zx,gO (show 0<k.length by omega),fC (show 0<k.length by omega),gO (show 1<k.length by omega),fC (show 1<k.length by omega),i0,i1,w1,w2,zq,dA,cF,false_and,gA]
 ·have hl:2<=(cc t.bC).1:=by rw[h];decide
  obtain⟨a1,a2,a3⟩:=h0 (by omega);obtain⟨b1,b2,b3⟩:=h1 hl;have m1:=qG (a:=k[0]!.ag) (b:=k[1]!.ag) (by omega) (by omega) (by omega) (by omega);have m2:=qG (a:=k[0]!.ag) (b:=k[1]!.ah) (by omega) (by omega) (by omega) (by omega);have m3:=qG (a:=k[0]!.ah) (b:=k[1]!.ag) (by omega) (by omega) (by omega) (by omega);have m4:=qG (a:=k[0]!.ah) (b:=k[1]!.ah) (by omega) (by omega) (by omega) (by omega);have w1:=W _ (show-8796093022208<=k[0]!.ag*k[1]!.ag by omega) (by omega);have w2:=W _ (show-8796093022208<=k[0]!.ag*k[1]!.ah by omega) (by omega);have w3:=W _ (show-8796093022208<=k[0]!.ah*k[1]!.ag by omega) (by omega);have w4:=W _ (show-8796093022208<=k[0]!.ah*k[1]!.ah by omega) (by omega);have i0:(0:Int)<(k.length:Int):=by omega
  have i1:(1:Int)<(k.length:Int):=by omega
  simp only[Z0,h,zh,Int.reduceEq,Int.reduceLE,reduceIte,zx,gO (show 0<k.length by omega),fC (show 0<k.length by omega),gO (show 1<k.length by omega),fC (show 1<k.length by omega),i0,i1,w1,w2,w3,w4,zq,dA,cF,false_and,gA,qN,nK,fP];generalize k[0]!.ag*k[1]!.ag=p;generalize k[0]!.ag*k[1]!.ah=q;generalize k[0]!.ah*k[1]!.ag=r;generalize k[0]!.ah*k[1]!.ah=s
  congr 2<;>grind
 ·have hl:2<=(cc t.bC).1:=by rw[h];decide
  obtain⟨a1,a2,a3⟩:=h0 (by omega);obtain⟨b1,b2,b3⟩:=h1 hl;have z0:zC 0=0:=rfl;have z1:zC 1=1:=rfl;have Zp:∀x:Int,-1048576<=x->x<=1048576->Ay x=if x<0 then-x else x:=λx q1 q2=>by
   unfold Ay;rw[W _ (by omega) (by omega)];simp only[zh];grind
  have Wn:kH (Ay k[0]!.ag) (Ay k[0]!.ah)=if k[0]!.ah< -k[0]!.ag then-k[0]!.ag else k[0]!.ah:=by
   rw[Zp _ (by omega) (by omega),Zp _ (by omega) (by omega),nK];grind
  have w2:i64.wrap ((0:Int)-if k[0]!.ah< -k[0]!.ag then-k[0]!.ag else k[0]!.ah)= -(if k[0]!.ah< -k[0]!.ag then-k[0]!.ag else k[0]!.ah):=by split<;>(rw[W _ (by omega) (by omega)];omega)
  have i0:(0:Int)<(k.length:Int):=by omega
  have i1:(1:Int)<(k.length:Int):=by omega
  simp only[Z0,h,zh,Int.reduceEq,Int.reduceLE,reduceIte,zx,z0,z1,gO (show 0<k.length by omega),fC (show 0<k.length by omega),gO (show 1<k.length by omega),fC (show 1<k.length by omega),i0,i1,Wn,w2,zq,dA,cF,false_and,gA];by_cases c1:(0:Int)<=k[0]!.ag<;>by_cases c2:(0:Int)<=k[1]!.ag<;>simp only[c1,c2,cF,gA,cR,eR,bD,bA,dA,and_true,and_false]
 ·have hl:2<=(cc t.bC).1:=by rw[h];decide
  obtain⟨b1,b2,b3⟩:=h1 hl;have w1:=W (k[1]!.ag+1) (by omega) (by omega);have w2:=W (k[1]!.ah-1) (by omega) (by omega);have i1:(1:Int)<(k.length:Int):=by omega
  simp only[Z0,h,zh,Int.reduceEq,Int.reduceLE,reduceIte,zx,gO (show 1<k.length by omega),fC (show 1<k.length by omega),i1,zq,dA,cF,false_and,gA,W0,w1,w2,qN,nK]
  congr 1
  by_cases c1:k[1]!.ag<0<;>by_cases c2:(0:Int)<k[1]!.ah<;>simp only[c1,c2,cF,gA,Prod.mk.injEq,and_true,true_and]<;>grind
 ·have hl:2<=(cc t.bC).1:=by rw[h];decide
  have i0:(0:Int)<(k.length:Int):=by omega
  have i1:(1:Int)<(k.length:Int):=by omega
  simp only[Z0,h,zh,Int.reduceEq,Int.reduceLE,reduceIte,zx,gO (show 0<k.length by omega),fC (show 0<k.length by omega),gO (show 1<k.length by omega),fC (show 1<k.length by omega),i0,i1,zq,dA,cF,false_and,gA,qN,nK]
  congr 2<;>grind
 ·have hl:2<=(cc t.bC).1:=by rw[h];decide
  have i0:(0:Int)<(k.length:Int):=by omega
  have i1:(1:Int)<(k.length:Int):=by omega
  simp only[Z0,h,zh,Int.reduceEq,Int.reduceLE,reduceIte,zx,gO (show 0<k.length by omega),fC (show 0<k.length by omega),gO (show 1<k.length by omega),fC (show 1<k.length by omega),i0,i1,zq,dA,cF,false_and,gA,qN,nK]
  congr 2<;>grind
 ·have hl:2<=(cc t.bC).1:=by rw[h];decide
  have i1:(1:Int)<(k.length:Int):=by omega
  have e:=GB k (by omega) (by omega) k[1]!;simp only[Z0,h,zh,Int.reduceEq,Int.reduceLE,reduceIte,zx,gO (show 1<k.length by omega),fC (show 1<k.length by omega),e,i1,zq,dA,cF,yo,gA,true_or,false_and]
 ·have hl:2<=(cc t.bC).1:=by rw[h];decide
  have i1:(1:Int)<(k.length:Int):=by omega
  have e:=GB k (by omega) (by omega) k[1]!;simp only[Z0,h,zh,Int.reduceEq,Int.reduceLE,reduceIte,zx,gO (show 1<k.length by omega),fC (show 1<k.length by omega),e,i1,zq,dA,cF,yo,gA,or_true,false_and]
 ·obtain⟨c1,c2,c3,c4,c5,c6,c7,c8,c9,c18,c11,c12⟩:=h;simp only[c1,c2,c3,c4,c5,c6,c7,c8,c9,c18,c11,c12,zh,gA,or_self,false_and]
def qD(vars:aa aX)(t:au):Int×Int×Bool:=match ku (t.aq.map (gK vars))with
 |none=>(0,0,G)
 |some l=>((vb vars t l).ag,(vb vars t l).ah,uC (vb vars t l))
def JJ(vars:aa aX)(t:au):gK vars t=if(qD vars t).2.2=O then V ⟨(qD vars t).1,(qD vars t).2.1⟩else S:=by
 rw[uP,qD];cases h:ku (t.aq.map (gK vars))with
 |none=>rfl
 |some l=>
  obtain⟨h1,h2⟩:=U3 vars t l;dsimp only;by_cases hl:uC (iN vars t l)=O
  ·rw[bG hl,bG (h1.trans hl),h2 hl]
  ·rw[bP hl,bP (by rw[h1];exact hl)]
def agF(M:aa aX->au->af rT)(vars:aa aX)(hv:dc vars)(inp:Bool)(t:au)(hf:dH vars inp t=O)(hM:∀k∈t.aq,M vars k=V (qD vars k)):aci M vars t=V (qD vars t):=by
 have h33:=MW hf;obtain⟨i,b,e1,hI,hc⟩:=oE (rnd:=DI M) t.aq.length (λi (b:aa Span)=>⟨vars,b.map (·.ag),b.map (·.ah),(i:Int),t⟩) (λi b=>(t.aq.take i).map (gK vars)=b.map V) (λi _=>(qD vars t.aq[i]!).2.2=G) (λi b hi hb=>by
  have hw:=fG hi (by omega);have hk:=hM _ (bh hi);have hlen:b.length=i:=by have:=congrArg zS hb;simp at this;omega
  cases hx:(qD vars t.aq[i]!).2.2 with
  |true=>
   refine .inl ⟨b++[⟨(qD vars t.aq[i]!).1,(qD vars t.aq[i]!).2.1⟩],?_,?_⟩
   ·have hl2:(b.map (·.ag)++[(qD vars t.aq[i]!).1]).length<=1073741824:=by simp;omega
    have hl3:(b.map (·.ah)++[(qD vars t.aq[i]!).2.1]).length<=1073741824:=by simp;omega
    unfold DI;dsimp only;simp only[ze,au.eta,hk,hx,hl2,hl3,hw,cF,bD,bA];simp[hi]
   ·rw[bI hi,z8,hb,z8]
    congr 1
    rw[yc,yc,JJ,bG hx];rfl
  |false=>
   refine .inr ⟨?_,rfl⟩;unfold DI;dsimp only;simp only[ze,au.eta,hk,hx,bD,bA];simp[hi]) (λb _=>by unfold DI;simp) (b:=[]) rfl
 have e1':Ii M ⟨vars,[],[],0,t⟩=V ⟨vars,b.map (·.ag),b.map (·.ah),(i:Int),t⟩:=e1;unfold aci;rw[au.eta,e1'];dsimp only;rcases hc with rfl|⟨hi,hx⟩
 ·rw[zD]at hI;have ha:ku (t.aq.map (gK vars))=V b:=by rw[hI];exact MS b
  rw[gd,bA,au.eta,adT vars t b (LN hv hf ha)];unfold qD;rw[ha];dsimp only;unfold uC;simp only[zh];grind
 ·have hk:=hM _ (bh hi);have ha:ku (t.aq.map (gK vars))=S:=vV (zL.2 ⟨t.aq[i]!,bh hi,by rw[JJ,hx];simp⟩);rw[nj,bD,bG ⟨by omega,by omega⟩];simp only[ze,au.eta,hk,hx,bD,bA];unfold qD;rw[ha]
def Sd(vars:aa aX)(hv:dc vars)(inp:Bool):∀(n:Nat) (t:au),zg t<n->dH vars inp t=O->Rb n vars t=V (qD vars t)
 |0,_,h,_=>by omega
 |n+1,t,h,hf=>agF (Rb n) vars hv inp t hf (λk hk=>Sd vars hv inp n k (by have:=au.fm hk;omega) (Fh hf hk))
def ajK(vars:aa aX)(hv:dc vars)(inp:Bool)(t:au)(hf:dH vars inp t=O):ack vars t=V (qD vars t):=eT (zg t+1) λn hn=>Sd vars hv inp n t (by omega) hf
def Ck(vars:aa aX)(hv:dc vars)(inp:Bool)(t:au):IJ vars t inp=V (eV vars inp t):=by
 unfold IJ eV;rw[au.eta,acJ];cases hf:dH vars inp t with
 |false=>rfl
 |true=>
  rw[ajK vars hv inp t hf,JJ];dsimp only;cases (qD vars t).2.2<;>rfl
def dx.eta(h:dx):dx.mk h.fName h.ag h.ah h.az=h:=by cases h;rfl
def SB(l:aa dx)(hl:l.length<=1000000)(v:dx):Xk l v=V (l.any λw=>w.fName.toList==v.fName.toList):=by
 obtain⟨i,e1,hc⟩:=qm (rnd:=Hs) l (λi=>⟨l,v.fName,v.ag,v.ah,v.az.bC,v.az.fN,v.az.aq,(l.length:Int),(i:Int)⟩) (λ_ w=> !(w.fName.toList==v.fName.toList)) (λi hi=>by
  have hw:=fG hi hl;unfold Hs aau;dsimp only;simp only[zh,ze];grind) (by unfold Hs;simp)
 have e1':Kw ⟨l,v.fName,v.ag,v.ah,v.az.bC,v.az.fN,v.az.aq,(l.length:Int),0⟩=V ⟨l,v.fName,v.ag,v.ah,v.az.bC,v.az.fN,v.az.aq,(l.length:Int),(i:Int)⟩:=e1;unfold Xk anj;rw[e1'];dsimp only;rcases hc with ⟨rfl,hc⟩|⟨hi,hc⟩
 ·rw[uB λj hj=>by have:=hc j hj;simpa using this];simp
 ·have hc':(l[i]!.fName.toList==v.fName.toList)=O:=by simpa using hc
  rw[CX hi hc'];unfold aau;simp only[ze,hc',bD];simp[hi]
def Lr(f:aN)(hl:f.ak.length<=1000000)(n:Nat)(hn:n<=f.ak.length)(v:dx):
  ∃i:Nat,Mc ⟨n,0,f,v⟩=V ⟨n,(i:Int),f,v⟩/\((i=n/\((f.ak.take n).any λw=>w.fName.toList==v.fName.toList)=G)\/(i<n/\(f.ak[i]!.fName.toList==v.fName.toList)=O/\((f.ak.take n).any λw=>w.fName.toList==v.fName.toList)=O)):=by
 have hlen:(f.ak.take n).length=n:=by rw[zH];omega
 have hget:∀i,i<n->(f.ak.take n)[i]! =f.ak[i]! :=λi hi=>by
  rw[getElem!_pos _ i (by omega),getElem!_pos _ i (by omega),we]
 obtain⟨i,e1,hc⟩:=qm (rnd:=Te) (f.ak.take n) (λi=>⟨(n:Int),(i:Int),f,v⟩) (λ_ w=> !(w.fName.toList==v.fName.toList)) (λi hi=>by
  rw[hlen]at hi;have hw:=fG hi (by omega);rw[hget i hi];unfold Te;dsimp only;simp only[zh,ze,au.eta,dx.eta];grind) (by rw[hlen];unfold Te;simp)
 refine⟨i,e1,?_⟩;rw[hlen]at hc;rcases hc with ⟨rfl,hc⟩|⟨hi,hc⟩
 ·exact .inl ⟨rfl,uB λj hj=>by have:=hc j (by omega);simpa using this⟩
 ·have hc':((f.ak.take n)[i]!.fName.toList==v.fName.toList)=O:=by simpa using hc
  exact .inr ⟨hi,by rw[<-hget i hi];exact hc',CX (by omega) hc'⟩
def agm(t:au):VN t=vg t:=by
 unfold VN vg;simp only[zh];grind
def ae2(t:au):Mz t=vg t:=by
 unfold Mz vg;simp only[zh];grind
def jH:∀(l:aa Int),fQ l=O↔∀i,i+1<l.length->l[i]! <l[i+1]!
 |[]=>by simp[fQ]
 |[a]=>by simp[fQ]
 |a::b::l=>by
  unfold fQ;rw[zi,jH (b::l),decide_eq_true_iff];constructor
  ·rintro⟨h1,h2⟩ i hi;cases i with
   |zero=>exact h1
   |succ i=>exact h2 i (by simpa using hi)
  ·intro h;exact⟨h 0 (by simp),λi hi=>h (i+1) (by simpa using hi)⟩
def ahM(l:aa Int)(hl:l.length<=1000000):UG l=V (fQ l):=by
 obtain⟨i,e1,hc⟩:=qm (rnd:=Kb) l (λi=>⟨l,(l.length:Int),(i:Int)⟩) (λi x=>J (i=0)||J (l[i-1]! <x)) (λi hi=>by
  have hw:=fG hi hl;have hw2:i64.wrap ((i:Int)-1)=(i:Int)-1:=aG;have hw3:((i:Int)-1).toNat=i-1:=by omega
  unfold Kb;dsimp only;simp only[zh,ze,hw,hw2,hw3];generalize l[i]! =y;generalize l[i-1]! =z;grind) (by unfold Kb;simp)
 have e1':Js ⟨l,(l.length:Int),0⟩=V ⟨l,(l.length:Int),(i:Int)⟩:=e1;unfold UG;rw[e1'];dsimp only;rcases hc with ⟨rfl,hc⟩|⟨hi,hc⟩
 ·have:fQ l=O:=(jH l).2 λi hi=>by
   have:=hc (i+1) hi;simpa using this
  rw[this];simp
 ·have hc':i≠0/\¬l[i-1]! <l[i]! :=by
   simp only[Bool.or_eq_false_iff,decide_eq_false_iff_not]at hc;exact hc
  have:fQ l=G:=by
   cases hr:fQ l with
   |false=>rfl
   |true=>
    have:=(jH l).1 hr (i-1) (by omega);rw[show i-1+1=i by omega]at this;exact dF this hc'.2
  rw[this];have hw2:i64.wrap ((i:Int)-1)=(i:Int)-1:=aG;have hw3:((i:Int)-1).toNat=i-1:=by omega
  simp only[zh,ze,hw2,hw3];revert hc';generalize l[i]! =y;generalize l[i-1]! =z;intro hc';grind
def ae1(l:aa Int)(hl:l.length<=1000000):ajs l=V (J (1<=l.length/\l.length<=32)&&J ((0:Int)<=l[0]!)&&fQ l):=by
 unfold ajs;by_cases h1:1<=l.length/\l.length<=32
 case neg=>
  rw[bX h1];simp only[zh];grind
 rw[bW h1,bX (show ¬(l.length:Int)<1 by omega),bX (show ¬32<(l.length:Int)by omega),bG (⟨zq _,by omega⟩:(0:Int)<=0/\(0:Int)<(l.length:Int))];have hz:l[zC 0]! =l[0]! :=rfl;rw[hz];by_cases h0:(0:Int)<=l[0]!
 case neg=>
  rw[bX h0,bW (show l[0]! <0 by omega)];rfl
 rw[bW h0,bX (show ¬l[0]! <0 by omega)];dsimp only[bA];have hlen:(l.drop 1).length=l.length-1:=yj ..;have hget:∀i,i<l.length-1->(l.drop 1)[i]! =l[i+1]! :=λi hi=>by
  rw[getElem!_pos _ i (by omega),getElem!_pos _ (i+1) (by omega),wH]
  congr 1
  omega
 obtain⟨i,e1,hc⟩:=qm (rnd:=JI) (l.drop 1) (λi=>⟨l,((i+1:Nat):Int)⟩) (λi x=>J (l[i]! <x)) (λi hi=>by
  rw[hlen]at hi;have hw:=fG (show i+1<l.length by omega) hl;have hw2:i64.wrap (((i+1:Nat):Int)-1)=(i:Int):=by rw[aG];omega
  rw[hget i hi];unfold JI;dsimp only;simp only[zh,ze,hw,hw2];generalize l[i+1]! =y;generalize l[i]! =z;grind) (by
   rw[hlen];unfold JI;simp only[zh];rw[Am])
 have e1':IG ⟨l,1⟩=V ⟨l,((i+1:Nat):Int)⟩:=e1;rw[e1'];dsimp only;rw[hlen]at hc;rcases hc with ⟨rfl,hc⟩|⟨hi,hc⟩
 ·have:fQ l=O:=(jH l).2 λi hi=>by
   have:=hc i (by omega);rw[hget i (by omega)]at this;simpa using this
  rw[this,bX (show ¬(((l.length-1+1:Nat):Int)<(l.length:Int))by omega)];rfl
 ·rw[hget i hi]at hc;have hc':¬l[i]! <l[i+1]! :=by simpa using hc
  have:fQ l=G:=by
   cases hr:fQ l with
   |false=>rfl
   |true=>exact dF ((jH l).1 hr i (by omega)) hc'
  rw[this];have hw2:i64.wrap (((i+1:Nat):Int)-1)=(i:Int):=by rw[aG];omega
  simp only[zh,ze,hw2];revert hc';generalize l[i+1]! =y;generalize l[i]! =z;intro hc';grind
def Cr(a b:Bool):(a&&b)=if a=true then b else false:=by cases a<;>rfl
def T4(f:aN)(s:ay)(last:Bool):OX f s last=V (dG f s last):=by
 have h199:s.aJ.length<=32->UG s.aJ=V (fQ s.aJ):=λh=>ahM _ (by omega);have hz:s.aJ[zC 0]! =s.aJ[0]! :=rfl;unfold OX UQ Xy abb;rw[au.eta,agm,hz];obtain⟨X,hX⟩:∃X,X=dG f s last:=⟨_,rfl⟩;rw[<-hX];have hX1:X=O↔dG f s last=O:=by rw[hX]
 clear hX;unfold dG sL at hX1;generalize fQ s.aJ=R at*;generalize vg s.az=Z at*;generalize f.aj[s.dD.toNat]!.bz=K at*;generalize s.aJ[0]! =B0 at*;generalize UG s.aJ=M at*;have cs:s.b9=0\/s.b9=1\/s.b9=2\/s.b9=3\/s.b9=4\/s.b9=5\/s.b9=6\/s.b9<0\/6<s.b9:=by omega
 rcases cs with h|h|h|h|h|h|h|h|h
 case inr.inr.inr.inr.inr.inr.inr.inl=>rw[bW h];dsimp only[bD];cases X<;>grind
 case inr.inr.inr.inr.inr.inr.inr.inr=>rw[bW h,gd];dsimp only[bD,bA];cases X<;>grind
 all_goals
  rw[h]at hX1 ⊢;cases X<;>cases Z<;>simp only[Int.reduceEq,Int.reduceLT,cR,eR,bD,bA,cF,gA,zh,reduceIte,zi,decide_eq_true_eq,yu,true_iff,false_iff,not_and,and_true,and_false]at hX1 ⊢ <;>grind (splits:=40)
def Xi(a b:Bool):(bif a then some b else some false)=some (a&&b):=by cases a<;>rfl
def TL(f:aN)(s:ay)(last:Bool)(hb:s.aJ.length<=1000000):QL f s last=V (dG f s last):=by
 have h173:=ae1 s.aJ hb;have e1:(bif J ((s.aL.length:Int)=0)then V (J ((s.aR.length:Int)=0))else V G)=V (J (s.aL.length=0/\s.aR.length=0)):=by
  have c1:((s.aL.length:Int)=0)↔s.aL.length=0:=by omega
  have c2:((s.aR.length:Int)=0)↔s.aR.length=0:=by omega
  simp only[c1,c2];by_cases a1:s.aL.length=0<;>by_cases a2:s.aR.length=0<;>simp[a1,a2]
 have e2:(bif J (0<=s.dD)then bif J (s.dD<(f.aj.length:Int))then if(0:Int)<=s.dD/\s.dD<(f.aj.length:Int)then V (J (f.aj[s.dD.toNat]!.bz=0))else S else V G else V G)=V (sL f s):=by
  unfold sL;simp only[zh];generalize f.aj[s.dD.toNat]!.bz=K;by_cases a1:0<=s.dD<;>by_cases a2:s.dD<(f.aj.length:Int)<;>simp[a1,a2]
 unfold QL;rw[au.eta,ae2,h173,e1,e2];dsimp only;unfold dG;generalize fQ s.aJ=R;generalize vg s.az=Z;generalize sL f s=L1;generalize J (s.aL.length=0/\s.aR.length=0)=F;generalize s.aJ[0]! =B0;have hi:((s.aJ.length:Int)=0)↔s.aJ.length=0:=by omega
 have hi2:((s.aR.length:Int)=0)↔s.aR.length=0:=by omega
 simp only[hi,hi2];have cs:s.b9=0\/s.b9=1\/s.b9=2\/s.b9=3\/s.b9=4\/s.b9=5\/s.b9=6\/(s.b9≠0/\s.b9≠1/\s.b9≠2/\s.b9≠3/\s.b9≠4/\s.b9≠5/\s.b9≠6):=by omega
 rcases cs with h|h|h|h|h|h|h|⟨h0,h1,h2,h3,h4,h5,h6⟩
 case inr.inr.inr.inr.inr.inr.inr=>simp only[h0,h1,h2,h3,h4,h5,h6,eR,bA,gA]
 all_goals
  rw[h];simp only[Int.reduceEq,cR,eR,bD,bA,cF,gA,reduceIte];generalize J (s.aJ.length=0)=b1;generalize J (s.dD=0)=b2;generalize J (s.aR.length=0)=b3;generalize J (1<=s.aJ.length/\s.aJ.length<=32)=b4;generalize J ((0:Int)<=B0)=b5
  try rw[Bool.decide_and]
  generalize J (s.fN=0)=b6
  try generalize J (0<=s.fN)=b7
  try generalize J (s.fN<(f.ak.length:Int))=b8
  simp only[Xi]
  first|done|(congr 1;ac_rfl)
def Tm(s:ay)(hb:s.b9=6->1<=s.aJ.length/\s.aJ.length<=32):PB s=V (sC s):=by
 unfold PB sC;by_cases h6:s.b9=6
 ·obtain⟨b1,b2⟩:=hb h6;have hw:i64.wrap ((s.aJ.length:Int)-1)=(s.aJ.length:Int)-1:=aG;have hw2:((s.aJ.length:Int)-1).toNat=s.aJ.length-1:=by omega
  rw[hw,hw2,h6];generalize s.aJ[s.aJ.length-1]! =B;simp only[Int.reduceEq,Int.reduceLT,cR,eR,bD,bA,cF,gA,zh,reduceIte,Cr,decide_eq_true_eq,yu];grind (splits:=30)
 ·rw[bX h6,bP h6];by_cases h2:s.b9=2
  ·rw[h2];simp only[Int.reduceEq,Int.reduceLT,cR,eR,bD,bA,cF,gA,zh,reduceIte,Cr,decide_eq_true_eq,yu];grind (splits:=30)
  ·rw[bX h2,bP h2];simp only[Int.reduceEq,Int.reduceLT,cR,eR,bD,bA,cF,gA,zh,reduceIte,Cr,decide_eq_true_eq,yu];grind (splits:=30)
def iV{f:aN}{s:ay}{last:Bool}(h:dG f s last=O):(s.b9=6->1<=s.aJ.length/\s.aJ.length<=32)/\(s.b9≠6->s.aJ.length=0)/\(s.b9≠3->s.b9≠4->s.aL=[])/\(s.b9≠3->s.aR=[])/\(s.b9≠4->0<=s.fN):=by
 unfold dG at h;simp only[Cr,decide_eq_true_eq]at h;have e1:s.aL.length=0->s.aL=[]:=xe.1;have e2:s.aR.length=0->s.aR=[]:=xe.1;refine⟨λh6=> ?_,λh6=> ?_,λh3 h4=>e1 ?_,λh3=>e2 ?_,λh4=> ?_⟩<;>grind (splits:=40)
abbrev atE:=aa Int
def d237:Td 1 atE:= .c [] [] (.r 1 1 en (sr 0 3 sn) (λz=>z.2.1) (λx=>((()),(x,()))))
def atB:=(lc (qo 0) ln)
def azn:=(sr 0 3 sn)
def Qq(b0:aa Int):af atE:=if b0.length<=1073741824 then V (b0.mergeSort λx y=>J (x<=y))else S
def ale:Prop:=HY w9 237 1 atB azn d237 (λg=>Qq g.2.1)
def aCy:bf->bf:=eY w9 237 1 atB azn d237 (λg=>Qq g.2.1)
def Xb(hv:ale){F:bf}(h:aQ w9 F):aQ w9 (aCy F):=oz hv ⟨_,func237,by kernel_rfl,by kernel_rfl⟩ (λ_=>by kernel_rfl) h
def aiZ:Go.Shelf.Ren:=⟨λ|189=>237|125=>257|257=>281|128=>300|129=>301|294=>317|295=>318|296=>319|297=>320|298=>321|299=>322|216=>323|300=>324|301=>325|328=>342|329=>333|330=>334|331=>343|332=>344|215=>326|343=>354|n=>n,λ|28=>27|3=>3|46=>240|0=>0|51=>322|53=>324|4=>4|183=>316|182=>315|131=>193|5=>5|9=>9|218=>344|222=>348|228=>356|229=>297|n=>n,λ|n=>n⟩
def Srt:Go.Proofs.Lays.n189 w9 aiZ where
 mixed:=by kernel_rfl
 f125:=func257.trans (congrArg V (by kernel_rfl))
 f128:=func300.trans (congrArg V (by kernel_rfl))
 f129:=func301.trans (congrArg V (by kernel_rfl))
 f189:=func237.trans (congrArg V (by kernel_rfl))
 f215:=func326.trans (congrArg V (by kernel_rfl))
 f216:=func323.trans (congrArg V (by kernel_rfl))
 f257:=func281.trans (congrArg V (by kernel_rfl))
 f294:=func317.trans (congrArg V (by kernel_rfl))
 f295:=func318.trans (congrArg V (by kernel_rfl))
 f296:=func319.trans (congrArg V (by kernel_rfl))
 f297:=func320.trans (congrArg V (by kernel_rfl))
 f298:=func321.trans (congrArg V (by kernel_rfl))
 f299:=func322.trans (congrArg V (by kernel_rfl))
 f300:=func324.trans (congrArg V (by kernel_rfl))
 f301:=func325.trans (congrArg V (by kernel_rfl))
 f328:=func342.trans (congrArg V (by kernel_rfl))
 f329:=func333.trans (congrArg V (by kernel_rfl))
 f330:=func334.trans (congrArg V (by kernel_rfl))
 f331:=func343.trans (congrArg V (by kernel_rfl))
 f332:=func344.trans (congrArg V (by kernel_rfl))
 f343:=func354.trans (congrArg V (by kernel_rfl))
 t0:=underlying0
 a0:=Tryz.isAgg0
 z0:=Tryz.sizeOf0
 v0:=Tryz.zeroValue0
 t3:=underlying3
 a3:=Tryz.isAgg3
 z3:=Tryz.sizeOf3
 v3:=Tryz.zeroValue3
 t4:=underlying4
 a4:=Tryz.isAgg4
 z4:=Tryz.sizeOf4
 v4:=Tryz.zeroValue4
 t5:=underlying5
 a5:=Tryz.isAgg5
 z5:=Tryz.sizeOf5
 v5:=Tryz.zeroValue5
 t9:=underlying9
 a9:=Tryz.isAgg9
 z9:=Tryz.sizeOf9
 v9:=Tryz.zeroValue9
 t28:=underlying27
 a28:=Tryz.isAgg27
 z28:=Tryz.sizeOf27
 v28:=Tryz.zeroValue27
 t46:=underlying240
 a46:=Tryz.isAgg240
 z46:=Tryz.sizeOf240
 v46:=Tryz.zeroValue240
 t51:=underlying322
 a51:=Tryz.isAgg322
 z51:=Tryz.sizeOf322
 v51:=Tryz.zeroValue322
 t53:=underlying324
 a53:=Tryz.isAgg324
 z53:=Tryz.sizeOf324
 v53:=Tryz.zeroValue324
 t131:=underlying193
 a131:=Tryz.isAgg193
 z131:=Tryz.sizeOf193
 v131:=Tryz.zeroValue193
 t182:=underlying315
 a182:=Tryz.isAgg315
 z182:=Tryz.sizeOf315
 v182:=Tryz.zeroValue315
 t183:=underlying316
 a183:=Tryz.isAgg316
 z183:=Tryz.sizeOf316
 v183:=Tryz.zeroValue316
 t218:=underlying344
 a218:=Tryz.isAgg344
 z218:=Tryz.sizeOf344
 v218:=Tryz.zeroValue344
 t222:=underlying348
 a222:=Tryz.isAgg348
 z222:=Tryz.sizeOf348
 v222:=Tryz.zeroValue348
 t228:=underlying356
 a228:=Tryz.isAgg356
 z228:=Tryz.sizeOf356
 v228:=Tryz.zeroValue356
 t229:=underlying297
 a229:=Tryz.isAgg297
 z229:=Tryz.sizeOf297
 v229:=Tryz.zeroValue297
def qS{A:Nat->Prop}{w:World}{l:aa Int}{us:aa Value}(h1:us.length=l.length*1)(h2:∀i,i<l.length->bL A w (uni.cells 3 l[i]!) ((us.drop (i*1)).take 1)):us=l.map (Value.int .i64):=by
 apply wC (by simpa using h1);intro i q1 q2;simp at q2;obtain⟨g1,g2⟩:=h2 i q2;have e:((us.drop (i*1)).take 1)[0]? =V us[i]:=by
  rw[wO (by omega),yB];simp[q1]
 have g3:=g2 0 (.lit (.int .i64 l[i]!)) us[i] rfl e;rw[g3.cK,yW,getElem!_pos l i q2]
def aja{A:Nat->Prop}{w:World}{l:aa Int}:∀i,i<l.length->bL A w (uni.cells 3 l[i]!) (((l.map (Value.int .i64)).drop (i*1)).take 1):=λi hi=>by
 have e:((l.map (Value.int .i64)).drop (i*1)).take 1=[Value.int .i64 l[i]!]:=by
  rw[xz,xu (by simpa using hi),List.take_succ_cons,xR,yW,getElem!_pos l i hi]
 rw[e];refine⟨rfl,λj a v q1 q2=> ?_⟩;cases j with
 |zero=>cases q1;cases q2;exact .lit _
 |succ j=>cases q1
def an1(l b:aa Int)(hb:Qq l=V b):Lu w9 237 [.own 0] [(0, .row 3 l)] 1 (gN w9 237 1 (d237.pat b)):=by
 unfold Qq at hb;split at hb
 case isFalse=>cases hb
 rename_i hlen;have hbl:b=l.mergeSort λx y=>J (x<=y):=(zA.inj hb).symm;have hln:b.length=l.length:=by rw[hbl,List.length_mergeSort]
 intro ρ;have ho:gN w9 237 1 (d237.pat b)=⟨.iL [],[(0, .row 3 b)],1⟩:=by kernel_rfl
 show Go.Iv.Fn w9 237 [(bZ.own 0).sub ρ] (aZ.res ρ [(0, .row 3 l)]) _;rw[ho,dL];intro w A vs hr hd hn;obtain⟨hr1,hr2⟩:=hr;obtain⟨v,rfl⟩:∃v,vs=[v]:=List.length_eq_one_iff.1 hr1;have hv:v=ρ.v 0:=(hr2 0 _ v rfl rfl).cK;subst hv;generalize hv:ρ.v 0=v at*;have hok:=hd.1 (.row v 3 l) (by show _∈[cE.row (ρ.v 0) 3 l];rw[hv];exact zy.2 rfl);obtain⟨us,h1,h2,h3⟩:=hok;have hσ:aZ.res ρ [(0, .row 3 l)]=[cE.row v 3 l]:=by show [cE.row (ρ.v 0) 3 l]=_;rw[hv]
 have hus:us=l.map (Value.int .i64):=qS h1.1 h3;rw[hσ]at hd hn ⊢;have fin:∀w':World,gI w' v 3 1 b.length (b.map (Value.int .i64))->Kp (bF [cE.row v 3 l]) w w'->∃v_1 av σ',Ending.returned (Value.tuple #[])=Ending.returned v_1/\
   (∃ρ',oP 1 ρ ρ'/\av=(bZ.iL (dw:=uni.dw) []).sub ρ'/\List.Perm σ' (aZ.res ρ' [(0, .row 3 b)]))/\Tr ⟨w,A,bF [cE.row v 3 l]⟩ (bF [cE.row v 3 l]) [cE.row v 3 l] w σ' w'/\Rel (al ⟨w,A,bF [cE.row v 3 l]⟩ σ') w' av v_1:=λw' hrow hk=>by
  have hbk:bF [cE.row v 3 b]=bF [cE.row v 3 l]:=rfl;have hal:∀x,al ⟨w,A,bF [cE.row v 3 l]⟩ [cE.row v 3 l] x->al ⟨w,A,bF [cE.row v 3 l]⟩ [cE.row v 3 b] x:=λx h=>h;refine⟨_, .iL [],[cE.row v 3 b],rfl,⟨ρ,λi _=>⟨rfl,rfl⟩,by simp only[bZ.sub,yR],by show List.Perm _ [cE.row (ρ.v 0) 3 b];rw[hv]⟩,⟨⟨hk,?_,?_,?_⟩,hk,λx _ h=>⟨hal x h,h.2⟩⟩,Rel.iL [] [] rfl (λj a v q=>by cases q)⟩
  ·intro r hr;rw[zy.1 hr];exact⟨b.map (Value.int .i64),hrow,λi _=>rfl,aja⟩
  ·rw[hbk];exact hn
  ·intro x hx;exact .inl hx
 obtain⟨h1l,hcase⟩:=h1;rcases hcase with ⟨p,hvp,hl0⟩|⟨gb,cap,cur,hvp,hg,q1,q2,q3,q4⟩
 ·have hl:l=[]:=xe.1 hl0;have hbn:b=[]:=by rw[hbl,hl,List.mergeSort_nil]
  subst hvp;refine(Go.Proofs.Any.slices_Sort_int_none Srt p 0 w).mono λe w' he=> ?_;obtain⟨rfl,rfl⟩:=he;refine fin w' ?_ (Kp.refl _ _);rw[hbn];exact⟨rfl, .inl ⟨p,rfl,rfl⟩⟩
 ·subst hvp;have hgs:gb<w.heap.size:=(xE.1 hg).1;have q4:cur.toList.take (l.length*1)=us:=q4;have q3:cur.size=(cap+1)*1:=q3;rw[xz]at q4;have q1:l.length<=cap+1:=q1;have hbc:b.length<=cap+1:=by rw[hln];exact q1
  have hH:=holds_of_blockI (ss:=l) hg (by rw[q4,hus]);refine(Go.Proofs.Any.slices_Sort_int Srt gb 0 (cap+1) l w hH hgs (by omega)).mono λe w' he=> ?_;obtain⟨rfl,n,os,rfl⟩:=he;rw[<-hbl];obtain⟨k1,k2,k3,k4,k5⟩:=grownBy_sortedI (w:=w) (g:=gb) (n:=n) (os:=os) b.toArray;refine fin _ ?_ ⟨k1,k2,k3,Nat.le_add_right _ _,k4,λk hk hX=>k5 k hk (λh=>hX ?_)⟩
  ·refine⟨by simp, .inr ⟨gb,cap,_,by rw[hln];rfl,heap_sortedI _ hg,hbc,q2,by simp[Go.Sort.putCells,q3],?_⟩⟩;rw[xz];exact take_putCellsI cur b (by rw[q3,xz];exact hbc)
  ·cases h;exact bU.2 ⟨_,zy.2 rfl,rfl⟩
def auU:ale:=λg b hb=>an1 g.2.1 b hb
abbrev E35:=aa Int
def d35:Td 0 E35:= .c [] [2] (.t (cC.s 2 [] 3) (.c [] [2] (.r 0 1 (ec 2 (qo 0) en) (sr 0 3 sn) (λz=>z.2.1) (λx=>(((),()),(x,()))))))
def A35:=(lc (ql 3) ln)
def Ug(a0:aa Int):af E35:=if a0.length<=1073741824 then V a0 else S
def aoI:cU w9 de 0 300 35 .no:=bB (l:=[]) func35 (aV (by kernel_rfl)) (by kernel_rfl) aF
def aDD(x:Int)(xs:aa Int):bM w9 de 300 .no 35 [.sl 3 (x::xs)] [] 0 d35.rd=if([]++(x::xs)).length<=1073741824 then V ([]++(x::xs))else S:=by kernel_rfl
def aBP(c:Nat):bM w9 de 300 .no 35 [.lit (.slice S 0 c)] [] 0 d35.rd=V []:=by kernel_rfl
def aAR(a:Addr)(c:Nat):bM w9 de 300 .no 35 [.lit (.slice (V a) 0 c)] [] 0 d35.rd=V []:=by kernel_rfl
def h35:HL w9 35 A35 d35 (λg=>Ug g.1):=λg r h=>by
 obtain⟨a0,_⟩:=g;have h:Ug a0=V r:=h;cases a0 with
 |cons x xs=>exact(jC (out:=λp=>gN w9 35 0 (d35.pat p)) (p:=r) aP aoI d35.ok (λp=>by kernel_rfl) (iw (by kernel_rfl)) (gX (by kernel_rfl)) ((aDD x xs).trans (by rw[yw];exact h))).2
 |nil=>
  cases h;exact JL (λc=>(jC (out:=λp=>gN w9 35 0 (d35.pat p)) (p:=[]) aP aoI d35.ok (λp=>by kernel_rfl) (iw (by kernel_rfl)) (gX (by kernel_rfl)) (aBP c)).2) (λa c=>(jC (out:=λp=>gN w9 35 0 (d35.pat p)) (p:=[]) aP aoI d35.ok (λp=>by kernel_rfl) (iw (by kernel_rfl)) (gX (by kernel_rfl)) (aAR a c)).2)
def Ws:=eL w9 35 G A35 d35 (λg=>Ug g.1)
def oc{F:bf}(h:aQ w9 F):aQ w9 (Ws F):=cT (sc:=jM) cv h35 ⟨_,func35,by kernel_rfl,by kernel_rfl⟩ (λ_=>by kernel_rfl) (λ_=>by kernel_rfl) h
structure oq where
 t21:List Int
 (t22 t23:Int)
 (b0 b1 b2:aH)
def Q3:Td 0 oq:= .c [] [2,4,7,21,22,23] (.r 0 4 (ec 2 (qp 0 0) (ec 4 (qp 1 0) (ec 7 (qp 2 0) (ec 21 (qo 3) (ec 22 aM (ec 23 aM en)))))) (sb 0 34 (lg 34) (sb 1 34 (lg 34) (sb 2 34 (lg 34) (sr 3 3 sn)))) (λz=>⟨z.q.1,z.1.q.1,z.1.q.2.1,z.2.1,z.t.1,z.t.2.1⟩) (λx=>(((),(),(),(),x.t22,x.t23,()),(x.b0,x.b1,x.b2,x.t21,()))))
def Ar(p:oq):af (af oq):=
 bif J (p.t23<p.t22)then if 0<=p.t23/\p.t23<p.t21.length then if 3=3/\p.t23.toNat<p.t21.length then bif bif iS p.t21[p.t23.toNat]! then G else O then V (S)else match BD p.b0 p.t21[p.t23.toNat]! with|S=>S|V r1=>bif bif fo r1.fst then G else O then match lR p.b2 (gL p.t21[p.t23.toNat]!)with|S=>S|V r2=>V (V (oq.mk p.t21 p.t22 (i64.wrap (p.t23+1)) r1.snd p.b1 r2))else V (V (oq.mk p.t21 p.t22 (i64.wrap (p.t23+1)) r1.snd p.b1 p.b2))else S else S else V (S)
def Jo:=bK (Ar)
abbrev asX:=aH×Int
def d161:Td 0 asX:= .c [] [4,5] (.r 0 1 (ec 4 (qp 0 0) (ec 5 aM en)) (sb 0 34 (lg 34) sn) (λz=>(z.2.1,z.1.2.1)) (λx=>(((),x.2,()),(x.1,()))))
def L3(a0:aH)(a1:aa Int):af asX:=
 match tv a0 with|S=>S|V r3=>bif bif r3 then G else O then V (aH.mk 0 0 0,1)else match Ug a1 with|S=>S|V r4=>match Qq r4 with|S=>S|V r5=>match Jo (oq.mk r5 (↑(zS r5):Int) 0 a0 (aH.mk 0 0 0) iJ)with|S=>S|V r6=>bif J (r6.t23<r6.t22)then if 0<=r6.t23/\r6.t23<r6.t21.length then if 3=3/\r6.t23.toNat<r6.t21.length then bif bif iS r6.t21[r6.t23.toNat]! then G else O then V (aH.mk 0 0 0,3)else match BD r6.b0 r6.t21[r6.t23.toNat]! with|S=>S|V r7=>bif bif fo r7.fst then G else O then match lR r6.b2 (gL r6.t21[r6.t23.toNat]!)with|S=>S|V r8=>S else S else S else S else match lR r6.b2 r6.b0 with|S=>S|V r9=>V (r9,0)
def avH:=eL w9 161 G (lc (qg 34) (lc (ql 3) ln)) d161 (λg=>L3 g.1 g.2.1)
def ah6:EO avH:=λh=>kL (an:=(noTwo (noTwo (noTwo (noTwo (noTwo (.two (noTwo (Q3.lp Jo .no)) .no))))))) (l:=[(bg f161 0,(Q3.lp Jo .no))]) func161 (Xb auU (jN (qU (rF (jc (Jb (uG (kG (oc aP))))))))) (aA (aO Q3) aF) h
def KT{l:aa Int}(h:fQ l=O):∀{i j:Nat},i<j->j<l.length->l[i]! <l[j]! :=by
 intro i j hij hj;induction j with
 |zero=>omega
 |succ j ih=>
  have h1:=(jH l).1 h j hj;by_cases hi:i=j
  ·subst hi;exact h1
  ·have:=ih (by omega) (by omega);omega
def Le{l:aa Int}(h:fQ l=O):l.mergeSort (λx y=>J (x<=y))=l:=by
 apply List.mergeSort_of_pairwise;rw[List.pairwise_iff_getElem];intro i j hi hj hij;have:=KT h hij hj;rw[getElem!_pos l i hi,getElem!_pos l j hj]at this;simp;omega
def FK:aa Int->Int->Int
 |[],x=>x
 |b::l,x=>if x<=b then b else FK l x
def od(l:aa Int)(b x:Int):FK (l++[b]) x=if(∃c∈l,x<=c)then FK l x else if x<=b then b else x:=by
 induction l with
 |nil=>simp[FK]
 |cons c l ih=>
  show (if x<=c then c else FK (l++[b]) x)=_;by_cases h:x<=c
  ·rw[bG h,bG ⟨c,zm ..,h⟩];show c=if x<=c then c else FK l x
   rw[bG h]
  ·rw[bP h,ih];show _=if _ then(if x<=c then c else FK l x)else _
   rw[bP h];by_cases k:∃c∈l,x<=c
   ·obtain⟨d,hd,hx⟩:=k;rw[bG ⟨d,hd,hx⟩,bG ⟨d,zO _ hd,hx⟩]
   ·rw[bP k,bP (show ¬∃d∈c::l,x<=d from λ⟨d,hd,hx⟩=>by
     rcases zB.mp hd with rfl|hd
     ·exact h hx
     ·exact k ⟨d,hd,hx⟩)]
def adL{l:aa Int}{x:Int}(h:∃c∈l,x<=c):FK l x∈l:=by
 induction l with
 |nil=>obtain⟨c,hc,_⟩:=h;cases hc
 |cons c l ih=>
  show (if x<=c then c else FK l x)∈_;by_cases k:x<=c
  ·rw[bG k];exact zm ..
  ·rw[bP k];obtain⟨d,hd,hx⟩:=h;rcases zB.mp hd with rfl|hd
   ·exact dF hx k
   ·exact zO _ (ih ⟨d,hd,hx⟩)
def I7{l:aa Int}{x:Int}(h:¬∃c∈l,x<=c):FK l x=x:=by
 induction l with
 |nil=>rfl
 |cons c l ih=>
  show (if x<=c then c else FK l x)=_;rw[bP (λk=>h ⟨c,zm ..,k⟩),ih (λ⟨d,hd,hx⟩=>h ⟨d,zO _ hd,hx⟩)]
def uq(a:aH)(l:aa Int)(y:Int):Prop:=∃x,bT a x/\y=FK l x
def UP{a:aH}(h:NV a){l:aa Int}(hl:∀b∈l,cz b){y:Int}(k:uq a l y):cz y:=by
 obtain⟨x,hx,rfl⟩:=k;by_cases c:∃c∈l,x<=c
 ·exact hl _ (adL c)
 ·rw[I7 c];exact Uy h hx
structure NM (a:aH) (l:List Int) (i:Nat) (s:aH×aH):Prop where
 rest:Ex (λx=>bT a x/\∀b∈l.take i,b<x) s.1
 out:l9 (λy=>∃x,bT a x/\(∃b∈l.take i,x<=b)/\y=FK (l.take i) x) s.2
 v:NV s.2
def NM.step{a:aH}{l:aa Int}{i:Nat}{s:aH×aH}(hi:i<l.length)(hl:∀b∈l,cz b)(h:NM a l i s):
  ∃u r,BD s.1 l[i]! =V (u,r)/\NV u/\(fo u=O->NM a l (i+1) (r,s.2))/\(fo u=G->NM a l (i+1) (r,cS s.2 (fJ l[i]!))):=by
 obtain⟨u,r,e,p1,p2⟩:=uo h.rest.1 l[i]!;have hb:=hl _ (bh hi);have mu:∀x,bT u x↔bT a x/\(∀b∈l.take i,b<x)/\x<=l[i]! :=λx=>
  ⟨λk=>let ⟨k1,k2⟩:=(p1.2 x).mp k;let ⟨k3,k4⟩:=(h.rest.2 x).mp k1;⟨k3,k4,k2⟩,λ⟨k1,k2,k3⟩=>(p1.2 x).mpr ⟨(h.rest.2 x).mpr ⟨k1,k2⟩,k3⟩⟩
 have tk:l.take (i+1)=l.take i++[l[i]!]:=bI hi;have mr:Ex (λx=>bT a x/\∀b∈l.take (i+1),b<x) r:=⟨p2.1,λx=>by
  rw[tk];constructor
  ·intro k;obtain⟨k1,k2⟩:=(p2.2 x).mp k;obtain⟨k3,k4⟩:=(h.rest.2 x).mp k1;refine⟨k3,λb hb=> ?_⟩;rcases zV.mp hb with hb|hb
   ·exact k4 b hb
   ·rw[zy.mp hb];exact k2
  ·rintro⟨k1,k2⟩;exact(p2.2 x).mpr ⟨(h.rest.2 x).mpr ⟨k1,λb hb=>k2 b (yI _ hb)⟩,k2 _ (yJ _ (zy.mpr rfl))⟩⟩
 have eq:∀y,((∃x,bT a x/\(∃b∈l.take i,x<=b)/\y=FK (l.take i) x)\/(y=l[i]!/\∃x,bT u x))↔(∃x,bT a x/\(∃b∈l.take (i+1),x<=b)/\y=FK (l.take (i+1)) x):=λy=>by
  rw[tk];constructor
  ·rintro(⟨x,k1,⟨b,hb,k2⟩,rfl⟩|⟨rfl,x,hx⟩)
   ·exact⟨x,k1,⟨b,yI _ hb,k2⟩,by rw[od,bG ⟨b,hb,k2⟩]⟩
   ·obtain⟨k1,k2,k3⟩:=(mu x).mp hx;exact⟨x,k1,⟨_,yJ _ (zy.mpr rfl),k3⟩,by rw[od,bP (λ⟨b,hb,k⟩=>by have:=k2 b hb;omega),bG k3]⟩
  ·rintro⟨x,k1,⟨b,hb,k2⟩,rfl⟩;by_cases c:∃b∈l.take i,x<=b
   ·exact .inl ⟨x,k1,c,by rw[od,bG c]⟩
   ·have k3:x<=l[i]! :=by
     rcases zV.mp hb with hb|hb
     ·exact dF ⟨b,hb,k2⟩ c
     ·rw[<-zy.mp hb];exact k2
    refine .inr ⟨by rw[od,bP c,bG k3],x,(mu x).mpr ⟨k1,λb hb=> ?_,k3⟩⟩;rcases Int.lt_or_le b x with q|q
    ·exact q
    ·exact dF ⟨b,hb,q⟩ c
 obtain⟨t1,t2⟩:=mV h.out h.v hb (Ex.rep (P:=bT u) ⟨p1.1,λx=>Iff.rfl⟩) p1.1;refine⟨u,r,e,p1.1,λk=>⟨mr,(t1 k).congr eq,h.v⟩,λk=>⟨mr,(t2 k).congr eq,eO h.v (pq hb)⟩⟩
def arB{l:aa Int}(h:l.length<=1073741824):Ug l=V l:=by unfold Ug;rw[bG h]
def ZR{a:aH}(h:NV a){l:aa Int}(hr:fQ l=O)(hn:l.length<=1000000)(hl:∀b∈l,cz b):∃c,L3 a l=V (c,0)/\l9 (uq a l) c:=by
 unfold L3;rw[eH,dY h];simp only[bD,bA];rw[arB (by omega)];simp only;rw[show Qq l=V l from by unfold Qq;rw[ig,Le hr]];simp only;obtain⟨⟨r,o⟩,e1,hI⟩:=cZ (rnd:=Ar) l.length (λi (s:aH×aH)=>oq.mk l l.length (i:Nat) s.1 (aH.mk 0 0 0) s.2) (NM a l)
  (λi s hi hI=>by
   obtain⟨u,r,e,vu,q1,q2⟩:=hI.step hi hl;have hb:=hl _ (bh hi);have hbb:iS l[i]! =O:=by rw[jO];exact bW hb
   unfold Ar;simp only;rw[nj,bD,ig,ze,bG ⟨trivial,hi⟩,hbb];simp only[bD,bA];rw[e];simp only;rw[fG hi hn];cases c:fo u with
   |true=>exact⟨(r,s.2),rfl,q1 c⟩
   |false=>
    simp only[bD,bA];rw[iD hI.v (.inr (show NN (gL l[i]!)from NN.one hb.1 hb.2))];exact⟨(r,cS s.2 (fJ l[i]!)),rfl,q2 c⟩)
  (λs hI=>by
   unfold Ar;simp only;rw[gd];rfl) (b:=(a,cG)) ⟨⟨h,λx=>⟨λk=>⟨k,λb hb=>by simp at hb⟩,λk=>k.1⟩⟩, .none λx ⟨_,_,⟨b,hb,_⟩,_⟩=>by simp at hb, .inl rfl⟩
 have e1:bK Ar (oq.mk l l.length 0 a (aH.mk 0 0 0) iJ)=V (oq.mk l l.length (l.length:Nat) r (aH.mk 0 0 0) o):=e1;rw[show Jo=bK Ar from rfl,e1];simp only;rw[gd,bA,iD hI.v hI.rest.1];refine⟨_,rfl,(hI.out.join hI.rest.rep hI.v hI.rest.1).congr λy=> ?_⟩;rw[zD];constructor
 ·rintro(⟨x,k1,_,k3⟩|⟨k1,k2⟩)
  ·exact⟨x,k1,k3⟩
  ·exact⟨y,k1,(I7 λ⟨b,hb,k⟩=>by have:=k2 b hb;omega).symm⟩
 ·rintro⟨x,k1,k2⟩;by_cases c:∃b∈l,x<=b
  ·exact .inl ⟨x,k1,c,k2⟩
  ·right;rw[I7 c]at k2;subst k2;exact⟨k1,λb hb=>by
    rcases Int.lt_or_le b y with q|q
    ·exact q
    ·exact dF ⟨b,hb,q⟩ c⟩
structure kT where
 t1:List Int
 t9:Int
 t10:Bool
 t11:Int
 (b0 b1 b2:aH)
def HF(p:kT):af (af kT):=
 bif J (p.t11<p.t1.length)then if 0<=p.t11/\p.t11<p.t1.length then bif J (((p.t1,(),(),(),p.t9,p.t10,p.t11,()),p.b0,p.b1,p.b2,()).snd.snd.snd.fst.ag<=((p.t1,(),(),(),p.t9,p.t10,p.t11,()),p.b0,p.b1,p.b2,()).fst.fst[((p.t1,(),(),(),p.t9,p.t10,p.t11,()),p.b0,p.b1,p.b2,()).fst.snd.snd.snd.snd.snd.snd.fst.toNat]!)then bif bif p.t10 then G else O then if 0<=p.t11/\p.t11<p.t1.length then V (V (kT.mk p.t1 p.t1[p.t11.toNat]! O (i64.wrap (p.t11+1)) p.b0 p.b1 p.b2))else S else if 0<=p.t11/\p.t11<p.t1.length then bif J (((p.t1,(),(),(),p.t9,p.t10,p.t11,()),p.b0,p.b1,p.b2,()).fst.fst[((p.t1,(),(),(),p.t9,p.t10,p.t11,()),p.b0,p.b1,p.b2,()).fst.snd.snd.snd.snd.snd.snd.fst.toNat]! <((p.t1,(),(),(),p.t9,p.t10,p.t11,()),p.b0,p.b1,p.b2,()).fst.snd.snd.snd.snd.fst)then if 0<=p.t11/\p.t11<p.t1.length then V (V (kT.mk p.t1 p.t1[p.t11.toNat]! O (i64.wrap (p.t11+1)) p.b0 p.b1 p.b2))else S else V (V (kT.mk p.t1 p.t9 p.t10 (i64.wrap (p.t11+1)) p.b0 p.b1 p.b2))else S else V (V (kT.mk p.t1 p.t9 p.t10 (i64.wrap (p.t11+1)) p.b0 p.b1 p.b2))else S else V (S)
def PS:=bK (HF)
structure om where
 t1:List Int
 (b0 b1 b2:aH)
def sF(p:om):af (af om):=
 bif bif lJ p.b2 then G else O then match PS (kT.mk p.t1 0 G 0 p.b0 p.b1 p.b2)with|S=>S|V r1=>bif J (r1.t11<r1.t1.length)then if 0<=r1.t11/\r1.t11<r1.t1.length then bif J (((r1.t1,(),(),(),r1.t9,r1.t10,r1.t11,()),r1.b0,r1.b1,r1.b2,()).snd.snd.snd.fst.ag<=((r1.t1,(),(),(),r1.t9,r1.t10,r1.t11,()),r1.b0,r1.b1,r1.b2,()).fst.fst[((r1.t1,(),(),(),r1.t9,r1.t10,r1.t11,()),r1.b0,r1.b1,r1.b2,()).fst.snd.snd.snd.snd.snd.snd.fst.toNat]!)then bif bif r1.t10 then G else O then if 0<=r1.t11/\r1.t11<r1.t1.length then S else S else if 0<=r1.t11/\r1.t11<r1.t1.length then bif J (((r1.t1,(),(),(),r1.t9,r1.t10,r1.t11,()),r1.b0,r1.b1,r1.b2,()).fst.fst[((r1.t1,(),(),(),r1.t9,r1.t10,r1.t11,()),r1.b0,r1.b1,r1.b2,()).fst.snd.snd.snd.snd.snd.snd.fst.toNat]! <((r1.t1,(),(),(),r1.t9,r1.t10,r1.t11,()),r1.b0,r1.b1,r1.b2,()).fst.snd.snd.snd.snd.fst)then if 0<=r1.t11/\r1.t11<r1.t1.length then S else S else S else S else S else S else bif bif r1.t10 then G else O then match lC r1.b1 r1.b2 with|S=>S|V r2=>V (S)else match lC r1.b1 (aH.mk r1.t9 r1.t9 0)with|S=>S|V r3=>match m42 r1.b2 r1.t9 with|S=>S|V r4=>V (V (om.mk r1.t1 r1.b0 r3 r4))else V (S)
def X5:=bK (sF)
structure sJ where
 t1:List Int
 t6:Int
 (b0 b1:aH)
def AJ(p:sJ):af (af sJ):=
 bif J (p.t6<p.t1.length)then if 0<=p.t6/\p.t6<p.t1.length then bif bif nO p.t1[p.t6.toNat]! then G else O then V (S)else V (V (sJ.mk p.t1 (i64.wrap (p.t6+1)) p.b0 p.b1))else S else V (S)
def Za:=bK (AJ)
abbrev aCR:=aH×Int
def Qh(a0:aH)(a1:aa Int):af aCR:=
 match Wr a0 with|S=>S|V r5=>bif bif r5 then G else O then V (aH.mk 0 0 0,1)else match Za (sJ.mk a1 0 a0 (aH.mk 0 0 0))with|S=>S|V r6=>bif J (r6.t6<r6.t1.length)then if 0<=r6.t6/\r6.t6<r6.t1.length then bif bif nO r6.t1[r6.t6.toNat]! then G else O then V (aH.mk 0 0 0,3)else S else S else match X5 (om.mk r6.t1 r6.b1 rQ r6.b0)with|S=>S|V r7=>bif bif lJ r7.b2 then G else O then match PS (kT.mk r7.t1 0 G 0 r7.b0 r7.b1 r7.b2)with|S=>S|V r8=>bif J (r8.t11<r8.t1.length)then if 0<=r8.t11/\r8.t11<r8.t1.length then bif J (((r8.t1,(),(),(),r8.t9,r8.t10,r8.t11,()),r8.b0,r8.b1,r8.b2,()).snd.snd.snd.fst.ag<=((r8.t1,(),(),(),r8.t9,r8.t10,r8.t11,()),r8.b0,r8.b1,r8.b2,()).fst.fst[((r8.t1,(),(),(),r8.t9,r8.t10,r8.t11,()),r8.b0,r8.b1,r8.b2,()).fst.snd.snd.snd.snd.snd.snd.fst.toNat]!)then bif bif r8.t10 then G else O then if 0<=r8.t11/\r8.t11<r8.t1.length then S else S else if 0<=r8.t11/\r8.t11<r8.t1.length then bif J (((r8.t1,(),(),(),r8.t9,r8.t10,r8.t11,()),r8.b0,r8.b1,r8.b2,()).fst.fst[((r8.t1,(),(),(),r8.t9,r8.t10,r8.t11,()),r8.b0,r8.b1,r8.b2,()).fst.snd.snd.snd.snd.snd.snd.fst.toNat]! <((r8.t1,(),(),(),r8.t9,r8.t10,r8.t11,()),r8.b0,r8.b1,r8.b2,()).fst.snd.snd.snd.snd.fst)then if 0<=r8.t11/\r8.t11<r8.t1.length then S else S else S else S else S else S else bif bif r8.t10 then G else O then match lC r8.b1 r8.b2 with|S=>S|V r9=>V (r9,0)else match lC r8.b1 (aH.mk r8.t9 r8.t9 0)with|S=>S|V r10=>match m42 r8.b2 r8.t9 with|S=>S|V r11=>S else V (r7.b1,0)
def RY{l:aa Int}(hr:fQ l=O)(hn:l.length<=1000000)(b0 b1 c:aH):∃best found,PS (kT.mk l 0 G 0 b0 b1 c)=V (kT.mk l best found l.length b0 b1 c)/\
  ((found=G/\∀j,j<l.length->l[j]! <c.ag)\/(found=O/\∃j,j<l.length/\best=l[j]!/\c.ag<=l[j]!/\∀k,k<j->l[k]! <c.ag)):=by
 obtain⟨⟨best,found⟩,e1,hI⟩:=cZ (rnd:=HF) l.length (λi (s:Int×Bool)=>kT.mk l s.1 s.2 (i:Nat) b0 b1 c)
  (λi s=>(s.2=G/\∀j,j<i->l[j]! <c.ag)\/(s.2=O/\∃j,j<i/\s.1=l[j]!/\c.ag<=l[j]!/\∀k,k<j->l[k]! <c.ag))
  (λi s hi hI=>by
   have hci:(0:Int)<=(i:Int)/\(i:Int)<(l.length:Int):=by omega
   unfold HF;simp only;rw[bW hci.2,bD,bG hci,ze,fG hi hn];by_cases h1:c.ag<=l[i]!
   ·rw[bW h1,bD];rcases hI with ⟨h2,h3⟩|⟨h2,j,h3,h4,h5,h6⟩
    ·rw[h2];simp only[bD,bA];rw[bG hci];exact⟨(l[i]!,O),rfl, .inr ⟨rfl,i,by omega,rfl,h1,h3⟩⟩
    ·rw[h2];simp only[bD,bA];have hlt:l[j]! <l[i]! :=KT hr h3 hi;rw[bG hci,bX (show ¬l[i]! <s.1 by omega),bA];exact⟨(s.1,O),rfl, .inr ⟨rfl,j,by omega,h4,h5,h6⟩⟩
   ·rw[bX h1,bA];refine⟨s,rfl,?_⟩;rcases hI with ⟨h2,h3⟩|⟨h2,j,h3,h4⟩
    ·refine .inl ⟨h2,λj hj=> ?_⟩;rcases y8.mp hj with k|rfl
     ·exact h3 j k
     ·omega
    ·exact .inr ⟨h2,j,by omega,h4⟩)
  (λs hI=>by
   unfold HF;simp only;rw[gd];rfl) (b:=((0:Int),G)) (.inl ⟨rfl,λj hj=>dF hj (yF _)⟩)
 exact⟨best,found,e1,hI⟩
def V2{l:aa Int}{j:Nat}{x:Int}(hj:j<l.length)(h1:∀k,k<j->l[k]! <x)(h2:x<=l[j]!):FK l x=l[j]! :=by
 induction l generalizing j with
 |nil=>exact dF hj (yF _)
 |cons b l ih=>
  cases j with
  |zero=>exact bG h2
  |succ j=>
   have h0:b<x:=h1 0 (by omega);show (if x<=b then b else FK l x)=_;rw[Am];exact ih (j:=j) (by simpa using hj) (λk hk=>h1 (k+1) (by omega)) h2
def get_of_mem{l:aa Int}{b:Int}(h:b∈l):∃j,j<l.length/\l[j]! =b:=by
 obtain⟨j,hj,rfl⟩:=yY h;exact⟨j,hj,getElem!_pos l j hj⟩
def aa5{a:aH}(h:NV a){l:aa Int}(hr:fQ l=O)(hn:l.length<=1000000)(hl:∀b∈l,cz b):∃c,Qh a l=V (c,0)/\l9 (uq a l) c:=by
 unfold Qh;rw[gp,dY h];simp only[bD,bA];have e0:bK AJ (sJ.mk l 0 a (aH.mk 0 0 0))=V (sJ.mk l (l.length:Nat) a (aH.mk 0 0 0)):=Mn (rnd:=AJ) (λi=>sJ.mk l (i:Nat) a (aH.mk 0 0 0)) l.length (λi hi=>by
  unfold AJ;simp only;rw[nj,bD,ig,ze,Cw,bW (hl _ (bh hi)),fG hi hn];rfl) (λr=>by
  unfold AJ;simp only;rw[gd];intro h;cases h)
 rw[show Za=bK AJ from rfl,e0];simp only;rw[gd,bA];obtain⟨z,e1,⟨o,r,T,rfl,hr1,ho,vo⟩,hs⟩:=lF (rnd:=sF) (λp=>∃o r T,p=om.mk l (aH.mk 0 0 0) o r/\Ex (λx=>bT a x/\T<x) r/\l9 (λy=>∃x,bT a x/\x<=T/\y=FK l x) o/\NV o)
  (λp=>if lJ p.b2=O then 0 else(1099511627777-p.b2.ag).toNat) (λp p' ⟨o,r,T,hp,h1,h2,h3⟩ hq=>by
  subst hp;have hq:sF (om.mk l (aH.mk 0 0 0) o r)=V (V p'):=hq;unfold sF at hq;simp only at hq;rcases h1.1 with rfl|vr
  ·rw[nX]at hq;cases hq
  ·rw[iA vr]at hq;simp only[bD,bA]at hq;obtain⟨best,found,e2,h4⟩:=RY hr hn (aH.mk 0 0 0) o r;rw[e2]at hq;simp only at hq;rw[gd,bA]at hq;rcases h4 with ⟨rfl,h4⟩|⟨rfl,j,hj,rfl,h5,h6⟩
   ·simp only[bD,bA]at hq;rw[lZ h3 h1.1]at hq;cases hq
   ·simp only[bD,bA]at hq;have hb:=hl _ (bh hj);obtain⟨u,f1,s1⟩:=As h1.1 l[j]!;rw[lZ h3 (.inr (show NN (aH.mk l[j]! l[j]! 0)from NN.one hb.1 hb.2)),f1]at hq;simp only[zA.injEq]at hq;subst hq;have lo1:=(h1.2 r.ag).mp ⟨zq _,vr.le,⟨0,by omega⟩⟩;refine⟨⟨_,_,l[j]!,rfl,⟨s1.1,λx=> ?_⟩,?_,eO h3 (pq hb)⟩,?_⟩
    ·constructor
     ·intro k;obtain⟨k1,k2⟩:=(s1.2 x).mp k;exact⟨((h1.2 x).mp k1).1,k2⟩
     ·rintro⟨k1,k2⟩;exact(s1.2 x).mpr ⟨(h1.2 x).mpr ⟨k1,by omega⟩,k2⟩
    ·refine(h2.join (HO l[j]!) h3 (pq hb)).congr λy=> ?_;have mid:∀x,bT a x->T<x->x<=l[j]!->FK l x=l[j]! :=λx k1 k2 k3=>by
      have k4:=(h1.2 x).mpr ⟨k1,k2⟩;have:=k4.1;exact V2 hj (λk hk=>by have:=h6 k hk;omega) k3
     constructor
     ·rintro(⟨x,k1,k2,k3⟩|rfl)
      ·exact⟨x,k1,by omega,k3⟩
      ·exact⟨r.ag,lo1.1,h5,(mid _ lo1.1 lo1.2 h5).symm⟩
     ·rintro⟨x,k1,k2,rfl⟩;by_cases c:x<=T
      ·exact .inl ⟨x,k1,c,rfl⟩
      ·exact .inr (mid x k1 (by omega) k2)
    ·show (if lJ u=O then 0 else(1099511627777-u.ag).toNat)<(if lJ r=O then 0 else(1099511627777-r.ag).toNat);rw[bP (show ¬lJ r=O by rw[iA vr];decide)];have:=vr.le;have:=vr.hi;rcases s1.1 with rfl|vu
     ·rw[bG nX];omega
     ·rw[bP (show ¬lJ u=O by rw[iA vu];decide)];have:=(s1.2 u.ag).mp ⟨zq _,vu.le,⟨0,by omega⟩⟩;have:=this.2;omega) ⟨cG,a,a.ag-1,rfl,⟨h,λx=>⟨λk=>⟨k,by have:=k.1;omega⟩,λk=>k.1⟩⟩, .none λy ⟨x,k1,k2,_⟩=>by have:=k1.1;omega, .inl rfl⟩
 rw[show X5=bK sF from rfl,show om.mk l (aH.mk 0 0 0) rQ a=om.mk l (aH.mk 0 0 0) cG a from rfl,e1];simp only;rcases hr1.1 with rfl|vr
 ·rw[nX];refine⟨o,rfl,ho.congr λy=>⟨λ⟨x,k1,_,k3⟩=>⟨x,k1,k3⟩,λ⟨x,k1,k3⟩=>⟨x,k1,?_,k3⟩⟩⟩;rcases Int.lt_or_le T x with q|q
  ·exact dF ((hr1.2 x).mpr ⟨k1,q⟩) Bx
  ·exact q
 ·rw[iA vr];simp only[bD,bA];obtain⟨best,found,e2,h4⟩:=RY hr hn (aH.mk 0 0 0) o r;rw[e2];simp only;rw[gd,bA];rcases h4 with ⟨rfl,h4⟩|⟨rfl,j,hj,rfl,h5,h6⟩
  ·simp only[bD,bA];rw[lZ vo hr1.1];refine⟨_,rfl,(ho.join hr1.rep vo hr1.1).congr λy=> ?_⟩;have big:∀x,bT a x->T<x->FK l x=x:=λx k1 k2=>I7 λ⟨b,hb,k3⟩=>by
    obtain⟨j,hj,rfl⟩:=get_of_mem hb;have:=((hr1.2 x).mpr ⟨k1,k2⟩).1;have:=h4 j hj;omega
   constructor
   ·rintro(⟨x,k1,_,k3⟩|⟨k1,k2⟩)
    ·exact⟨x,k1,k3⟩
    ·exact⟨y,k1,(big y k1 k2).symm⟩
   ·rintro⟨x,k1,k3⟩;by_cases c:x<=T
    ·exact .inl ⟨x,k1,c,k3⟩
    ·right;rw[big x k1 (by omega)]at k3;subst k3;exact⟨k1,by omega⟩
  ·exfalso;have hb:=hl _ (bh hj);obtain⟨u,f1,s1⟩:=As hr1.1 l[j]!;refine hs _ (show sF _=V (V (om.mk l (aH.mk 0 0 0) (cS o (aH.mk l[j]! l[j]! 0)) u))from ?_);unfold sF;simp only;rw[iA vr];simp only[bD,bA];rw[e2];simp only;rw[gd,bA];simp only[bD,bA];rw[lZ vo (.inr (show NN (aH.mk l[j]! l[j]! 0)from NN.one hb.1 hb.2)),f1]
def Me{a:aH}(h:NV a){l:aa Int}(hr:fQ l=O)(hn:l.length<=1000000)(hl:∀b∈l,cz b):∃c,L3 a l=V (c,0)/\Qh a l=V (c,0)/\l9 (uq a l) c/\NV c:=by
 obtain⟨c,e1,r1⟩:=ZR h hr hn hl;obtain⟨d,e2,r2⟩:=aa5 h hr hn hl;rw[<-r1.uniq r2]at e2;exact⟨c,e1,e2,r1,r1.valid λy hy=>UP h hl hy⟩
def dz.ne{P:Int->Prop}{c:aH}(h:dz P c):c≠cG:=λe=>by
 have h1:=h.all _ h.lo;rw[e]at h1;have h2:(1:Int)<=0:=xU h1.1 h1.2.1;omega
def NV.nn{c:aH}(h:NV c)(k:c≠cG):NN c:=h.elim (λe=>dF e k) id
def l9.nn{P:Int->Prop}{c:aH}(h:l9 P c)(v:NV c){x:Int}(hx:P x):NN c:=by
 rcases h with ⟨_,h⟩|h
 ·exact dF hx (h x)
 ·exact v.nn h.ne
def N3:NN (aH.mk 0 0 0):=NN.one (x:=0) (by omega) (by omega)
def GD{a b:Bool}(h:(a||b)=true):NN (iH a b):=(tV a b).nn (by cases a<;>cases b<;>first|(cases h;done)|(intro e;cases e))
def Gg(op:Int){a:aH}(h:NN a):NN (vE op a).1:=by
 unfold vE;split
 ·exact N3
 rw[bP h.ne];split
 ·exact GD (zero_or h)
 ·exact acj h
def ajc{op:Int}{a b:aH}(ha:NN a)(hb:NN b):∃r,oL op a b=V r/\NN r.1:=by
 by_cases ho:binop op
 ·have r1:=ha.ri;have r2:=ha.Bl;have r3:=hb.ri;have r4:=hb.Bl;by_cases hs:cnt a*cnt b<=4096
  ·rw[nZ ho ha hb hs];rcases BJ ho ha hb (by omega)with ⟨h1,c,e,h2⟩|⟨_,e⟩
   ·exact⟨_,e,h2.valid h1⟩
   ·exact⟨_,e,N3⟩
  have hbin:=ho;obtain⟨o1,o2⟩:=ho;rcases (show op=8\/op=9\/op=10\/op=11\/op=12\/op=21\/op=22\/(13<=op/\op<=20)by omega)with rfl|rfl|rfl|rfl|rfl|rfl|rfl|h
  ·rcases jx (op:=8) (.inl rfl) ha hb (λQ h=>Nc ha hb h) (λh=>(qQ ha hb).mpr ⟨fO h (.inl rfl) (.inl rfl),fO h (.inr (.inr rfl)) (.inr (.inr rfl))⟩)with ⟨_,e,hv⟩|⟨_,e⟩
   ·exact⟨_,e,hv⟩
   ·exact⟨_,e,N3⟩
  ·rcases jx (op:=9) (.inr (.inl rfl)) ha hb (λQ h=>KL ha hb h) (λh=>(rG ha hb).mpr ⟨fO h (.inl rfl) (.inr (.inr rfl)),fO h (.inr (.inr rfl)) (.inl rfl)⟩)with ⟨_,e,hv⟩|⟨_,e⟩
   ·exact⟨_,e,hv⟩
   ·exact⟨_,e,N3⟩
  ·rcases jx (op:=10) (.inr (.inr rfl)) ha hb (λQ h=>La ha hb h) (λh=>(jB ha hb).mpr ⟨fO h (.inl rfl) (.inl rfl),fO h (.inl rfl) (.inr (.inr rfl)),fO h (.inr (.inr rfl)) (.inl rfl),fO h (.inr (.inr rfl)) (.inr (.inr rfl))⟩)with ⟨_,e,hv⟩|⟨_,e⟩
   ·exact⟨_,e,hv⟩
   ·exact⟨_,e,N3⟩
  all_goals rw[vp hbin ha hb hs];unfold Va
  ·obtain⟨a1,a2⟩:=r1;obtain⟨a3,a4⟩:=r2;simp only[Int.reduceEq,eR,cR,bA,bD];have hm:((max a.ag.natAbs a.ah.natAbs:Nat):Int)<=1099511627776:=by omega
   generalize max a.ag.natAbs a.ah.natAbs=m at*;rw[lX ⟨by omega,by omega⟩ ⟨by omega,by omega⟩ (by omega),lX ⟨by omega,by omega⟩ ⟨by omega,by omega⟩ (by omega)];cases (J (0<=a.ag)&&J (0<=b.ag))with
   |true=>exact⟨(jt 0 (m:Int) 1,0),rfl,lU (lo:=0) (hi:=(m:Int)) (st:=1) (by omega) (by omega) (by omega) (by omega)⟩
   |false=>exact⟨(jt (-(m:Int)) (m:Int) 1,0),rfl,lU (lo:= -(m:Int)) (hi:=(m:Int)) (st:=1) (by omega) (by omega) (by omega) (by omega)⟩
  ·obtain⟨b1,b2⟩:=r3;obtain⟨b3,b4⟩:=r4;simp only[Int.reduceEq,eR,cR,bA,bD];have hp:(if b.ag<0 then b.ag+1 else 0)<=0/\ -1099511627776<=(if b.ag<0 then b.ag+1 else 0):=by split<;>omega
   have hq:0<=(if 0<b.ah then b.ah-1 else 0)/\(if 0<b.ah then b.ah-1 else 0)<=1099511627776:=by split<;>omega
   generalize (if b.ag<0 then b.ag+1 else 0)=p at*;generalize (if 0<b.ah then b.ah-1 else 0)=q at*;rw[lX ⟨by omega,by omega⟩ ⟨by omega,by omega⟩ (by omega)];exact⟨(jt p q 1,0),rfl,lU (lo:=p) (hi:=q) (st:=1) (by omega) (by omega) (by omega) (by omega)⟩
  ·simp only[Int.reduceEq,eR,cR,bA,bD];obtain⟨l',e2,h2⟩:=HU (eO (.inr ha) (.inr hb)) (min a.ah b.ah);rw[e2];refine⟨_,rfl,h2.rep.nn h2.1 (x:=(cS a b).ag) ⟨?_,?_⟩⟩
   ·rw[gz ha hb];have:=(kV ha hb).le;exact⟨by omega,this,by rw[Int.sub_self];exact xB _⟩
   ·rw[gz ha hb];show min a.ag b.ag<=_;have:=ha.le;have:=hb.le;omega
  ·simp only[Int.reduceEq,eR,cR,bA,bD];obtain⟨l',e2,h2⟩:=As (eO (.inr ha) (.inr hb)) (max a.ag b.ag-1);rw[e2];refine⟨_,rfl,h2.rep.nn h2.1 (x:=(cS a b).ah) ⟨?_,?_⟩⟩
   ·rw[gz ha hb];have:=(kV ha hb).le;exact⟨this,by omega,(kV ha hb).dvd⟩
   ·rw[gz ha hb];show _<max a.ah b.ah;have:=ha.le;have:=hb.le;omega
  ·rw[TF h ha hb];refine⟨(iH (uA op a b).1 (uA op a b).2,0),?_,GD (OE h ha hb)⟩;rcases iQ h with rfl|rfl|rfl|rfl|rfl|rfl|rfl|rfl<;>rfl
 ·refine⟨(aH.mk 0 0 0,1),?_,N3⟩;unfold oL;rw[gp,gp,dY (.inr ha),dY (.inr hb),show Px op=BC op from rfl,jK,bX ho];rfl
def F4(op:Int)(a b:aH):aH:=match oL op a b with
 |none=>cG
 |some r=>r.1
def ua(op:Int){a b:aH}(ha:NN a)(hb:NN b):∃c,tN op a b=V (F4 op a b,c)/\oL op a b=V (F4 op a b,c)/\NN (F4 op a b):=by
 obtain⟨r,e1,e2,_⟩:=Nr op (.inr ha) (.inr hb);obtain⟨r',e3,h⟩:=ajc (op:=op) ha hb;have:r'=r:=by rw[e2]at e3;cases e3;rfl
 subst this;unfold F4;rw[e2];exact⟨r'.2,e1,rfl,h⟩
def iT(a:aH)(lo hi:Int):aH:=match m86 a lo hi with
 |none=>cG
 |some r=>r.1
def kN{a:aH}(ha:NN a)(lo hi:Int):∃c,m81 a lo hi=V (iT a lo hi,c)/\m86 a lo hi=V (iT a lo hi,c)/\NN (iT a lo hi)/\(cz lo->cz hi->lo<=hi->l9 (tf a lo hi) (iT a lo hi)):=by
 rcases Qu (.inr ha) lo hi with ⟨c,e1,e2,h,v,_⟩|⟨e1,e2,hn⟩
 ·unfold iT;rw[e2];have:=ha.le;exact⟨0,e1,rfl,h.nn v (x:=max lo (min a.ag hi)) ⟨a.ag,⟨by omega,this,by rw[Int.sub_self];exact xB _⟩,rfl⟩,λ_ _ _=>h⟩
 ·unfold iT;rw[e2];exact⟨3,e1,rfl,N3,λh1 h2 h3=>dF ⟨h1,h2,h3⟩ hn⟩
def qO(a:aH)(l:aa Int):aH:=match Qh a l with
 |none=>cG
 |some r=>r.1
def EE{a:aH}(ha:NN a){l:aa Int}(hr:fQ l=O)(hn:l.length<=1000000)(hl:∀b∈l,cz b):L3 a l=V (qO a l,0)/\Qh a l=V (qO a l,0)/\NN (qO a l)/\l9 (uq a l) (qO a l):=by
 obtain⟨c,e1,e2,h,v⟩:=Me (.inr ha) hr hn hl;unfold qO;rw[e2];have:=ha.le;exact⟨e1,rfl,h.nn v (x:=FK l a.ag) ⟨a.ag,⟨by omega,this,by rw[Int.sub_self];exact xB _⟩,rfl⟩,h⟩
def jy{a b:aH}(h:NN a)(k:NN b):NN (cS a b):=by rw[gz h k];exact kV h k
structure Ac where
 t0:List aX
 t1:Int
 t5:List aX
 t6:Int
def OS:Td 0 Ac:= .c [] [0,1,5,6] (.r 0 1 (ec 0 (ql 131) (ec 1 aM (ec 5 (qo 0) (ec 6 aM en)))) (sr 0 131 sn) (λz=>⟨z.1.1,z.1.2.1,z.2.1,z.1.t.2.1⟩) (λx=>((x.t0,x.t1,(),x.t6,()),(x.t5,()))))
def J1(p:Ac):af (af Ac):=
 bif J (p.t6<p.t0.length)then if 0<=p.t6/\p.t6<p.t0.length then bif J (p.t0[p.t6.toNat]!.bz=p.t1)then if 0<=p.t6/\p.t6<p.t0.length then if(p.t5++[p.t0[p.t6.toNat]!]).length<=1073741824 then V (V (Ac.mk p.t0 p.t1 (p.t5++[p.t0[p.t6.toNat]!]) (i64.wrap (p.t6+1))))else S else S else V (V (Ac.mk p.t0 p.t1 p.t5 (i64.wrap (p.t6+1))))else S else V (S)
def HG:=bK (J1)
abbrev av3:=aa aX
def d173:Td 0 av3:= .c [] [4] (.r 0 1 (ec 4 (qo 0) en) (sr 0 131 sn) (λz=>z.2.1) (λx=>(((),()),(x,()))))
def ajx(a0:aa aX)(a1:Int):af av3:=
 match HG (Ac.mk a0 a1 [] (0))with|S=>S|V r1=>bif J (r1.t6<r1.t0.length)then if 0<=r1.t6/\r1.t6<r1.t0.length then bif J (r1.t0[r1.t6.toNat]!.bz=r1.t1)then if 0<=r1.t6/\r1.t6<r1.t0.length then if(r1.t5++[r1.t0[r1.t6.toNat]!]).length<=1073741824 then S else S else S else S else S else V (r1.t5)
def ax0:=eL w9 173 G (lc (ql 131) (bk ln)) d173 (λg=>ajx g.1 g.2.1)
def aeG:EO ax0:=λh=>kL (an:=(noTwo (noTwo (.two (noTwo (OS.lp HG .no)) .no)))) (l:=[(bg f173 0,(OS.lp HG .no))]) func173 aP (aA (aO OS) aF) h
def F89:bf:=(ax0 de)
structure LD where
 t6:List aX
 (t8 t9:Int)
def YV:Td 0 LD:= .c [] [6,8,9] (.r 0 1 (ec 6 (qo 0) (ec 8 aM (ec 9 aM en))) (sr 0 131 sn) (λz=>⟨z.2.1,z.1.2.1,z.1.t.1⟩) (λx=>(((),x.t8,x.t9,()),(x.t6,()))))
def Nl(p:LD):af (af LD):=
 bif J (p.t9<p.t6.length)then if 0<=p.t9/\p.t9<p.t6.length then if 131=131/\p.t9.toNat<p.t6.length then if 0<=p.t9/\p.t9<p.t6.length then if 131=131/\p.t9.toNat<p.t6.length then bif J (4096<i64.wrap (p.t8*i64.wrap (i64.wrap (p.t6[p.t9.toNat]!.ah-p.t6[p.t9.toNat]!.ag)+1)))then V (S)else V (V (LD.mk p.t6 (i64.wrap (p.t8*i64.wrap (i64.wrap (p.t6[p.t9.toNat]!.ah-p.t6[p.t9.toNat]!.ag)+1))) (i64.wrap (p.t9+1))))else S else S else S else S else V (S)
def SI:=bK (Nl)
structure LI where
 t6:List aX
 t7:Int
def YG:Td 0 LI:= .c [] [6,7] (.r 0 1 (ec 6 (qo 0) (ec 7 aM en)) (sr 0 131 sn) (λz=>⟨z.2.1,z.1.2.1⟩) (λx=>(((),x.t7,()),(x.t6,()))))
def TD(p:LI):af (af LI):=
 bif J (p.t7<p.t6.length)then if 0<=p.t7/\p.t7<p.t6.length then if 131=131/\p.t7.toNat<p.t6.length then if 0<=p.t7/\p.t7<p.t6.length then if 131=131/\p.t7.toNat<p.t6.length then bif J (p.t6[p.t7.toNat]!.ah<p.t6[p.t7.toNat]!.ag)then V (S)else if 0<=p.t7/\p.t7<p.t6.length then if 131=131/\p.t7.toNat<p.t6.length then bif J (p.t6[p.t7.toNat]!.ag< -1048576)then V (S)else if 0<=p.t7/\p.t7<p.t6.length then if 131=131/\p.t7.toNat<p.t6.length then bif J (1048576<p.t6[p.t7.toNat]!.ah)then V (S)else V (V (LI.mk p.t6 (i64.wrap (p.t7+1))))else S else S else S else S else S else S else S else S else V (S)
def Ti:=bK (TD)
abbrev E89:=Int×Int
def d89:Td 0 E89:= .c [] [4,5] (.r 0 0 (ec 4 aM (ec 5 aM en)) sn (λz=>(z.1.1,z.1.2.1)) (λx=>((x.1,x.2,()),(()))))
def aBj:∀f∈([]:aa Nat),bw (F89) f:=aF
def m89(a0:aa aX)(a1:Int):af E89:=
 match bif bif J (a1=0)then G else O then bif bif J (a1=1)then G else O then bif bif J (a1=2)then G else O then V (bif J (a1=3)then G else O)else V G else V G else V G with|S=>S|V r1=>bif r1 then V (0,1)else match ajx a0 a1 with|S=>S|V r2=>match Ti (LI.mk r2 0)with|S=>S|V r3=>bif J (r3.t7<r3.t6.length)then if 0<=r3.t7/\r3.t7<r3.t6.length then if 131=131/\r3.t7.toNat<r3.t6.length then if 0<=r3.t7/\r3.t7<r3.t6.length then if 131=131/\r3.t7.toNat<r3.t6.length then bif J (r3.t6[r3.t7.toNat]!.ah<r3.t6[r3.t7.toNat]!.ag)then V (0,3)else if 0<=r3.t7/\r3.t7<r3.t6.length then if 131=131/\r3.t7.toNat<r3.t6.length then bif J (r3.t6[r3.t7.toNat]!.ag< -1048576)then V (0,3)else if 0<=r3.t7/\r3.t7<r3.t6.length then if 131=131/\r3.t7.toNat<r3.t6.length then bif J (1048576<r3.t6[r3.t7.toNat]!.ah)then V (0,3)else S else S else S else S else S else S else S else S else S else match SI (LD.mk r3.t6 1 0)with|S=>S|V r4=>bif J (r4.t9<r4.t6.length)then if 0<=r4.t9/\r4.t9<r4.t6.length then if 131=131/\r4.t9.toNat<r4.t6.length then if 0<=r4.t9/\r4.t9<r4.t6.length then if 131=131/\r4.t9.toNat<r4.t6.length then bif J (4096<i64.wrap (r4.t8*i64.wrap (i64.wrap (r4.t6[r4.t9.toNat]!.ah-r4.t6[r4.t9.toNat]!.ag)+1)))then V (0,4)else S else S else S else S else S else V (r4.t8,0)
def e89:=eL w9 89 G (lc (ql 131) (bk ln)) d89 (λg=>m89 g.1 g.2.1)
def arx:EO e89:=λh=>kL (F:=F89) (an:=(noTwo (.two (.two (.rb [] 23) .no) (noTwo (.two (noTwo (YG.lp Ti .no)) (noTwo (.two (noTwo (YV.lp SI .no)) .no))))))) (l:=[(.skip,(.rb [] 23)),(bg f89 0,(YG.lp Ti .no)),(bg f89 1,(YV.lp SI .no))]) func89 (aeG aP) (aA aBj (aA (aO YG) (aA (aO YV) aF))) h
def Lt:EP e89:=λh=>kP h
def F24:bf:=(e90 (e89 (e78 (e53 de))))
abbrev E24:=Bool
def d24:Td 0 E24:= .c [] [8] (.r 0 0 (ec 8 qb en) sn (λz=>z.1.1) (λx=>((x,()),(()))))
def ayG:∀f∈([53,78]:aa Nat),bw (F24) f:=(aA (MC (Lt (uJ (KF bS)))) (aA (MC (Lt (uJ (KF bS)))) aF))
def m24(a0:aN)(a1:Int)(a2:Int)(a3:Int):af E24:=
 match match m53 a0 (10) (80)with|S=>S|V r1=>bif bif r1 then G else O then V (O)else match m78 a0 with|S=>S|V r2=>V (bif J (r2=0)then G else O)with|S=>S|V r3=>bif r3 then V (G)else match m89 a0.aj (1)with|S=>S|V r4=>match m89 a0.aj (2)with|S=>S|V r5=>match m89 a0.aj (3)with|S=>S|V r6=>match r90 a0.bH with|S=>S|V r7=>match bif J (r4.fst<=a1)then bif J (r5.fst<=a2)then bif J (r6.fst<=a3)then V (J (r7.fst<=400))else V (G)else V (G)else V (G)with|S=>S|V r8=>V (r8)
def e24:=eL w9 24 G (lc (qg 26) (bk (bk (bk ln)))) d24 (λg=>m24 g.1 g.2.1 g.t.1 g.t.2.1)
def apF:EO e24:=λh=>kL (F:=F24) (an:=(noTwo (.two (.two (.rb [53,78] 25) .no) (noTwo (noTwo (noTwo (noTwo (.two (.rb [53,78] 8) .no)))))))) (l:=[(.skip,(.rb [53,78] 25)),(.skip,(.rb [53,78] 8))]) func24 (WS (arx (aaa (arJ aP)))) (aA ayG (aA ayG aF)) h
def EZ:EP e24:=λh=>kP h
structure aEz where
 t0:List aX
 (t6 t7 t8:Int)
 t9:List Int
 t10:Bool
 t11:Int
 b0:me
def auO:bf:=de
abbrev auA:=Int
def d193:Td 0 auA:= .c [] [4] (.r 0 0 (ec 4 aM en) sn (λz=>z.1.1) (λx=>((x,()),(()))))
def ayA:∀f∈([]:aa Nat),bw (auO) f:=aF
def ac3(a0:Int)(a1:Int):af auA:=
 bif J (a1=0)then V 0 else if¬a1=0then match if¬a1=0then bif bif J (a0.tmod a1=0)then G else O then V (bif J (a0<0)==J (a1<0)then G else O)else V G else S with|S=>S|V r1=>bif r1 then V (i64.wrap (i64.wrap (a0.tdiv a1)-1))else V (i64.wrap (a0.tdiv a1))else S
def afk:=eL w9 193 G (bk (bk ln)) d193 (λg=>ac3 g.1 g.2.1)
def ab8:EO afk:=λh=>kL (F:=auO) (an:=(noTwo (noTwo (noTwo (.two (.two (.rb [] 21) .no) .no))))) (l:=[(.skip,(.rb [] 21))]) func193 aP (aA ayA aF) h
structure aDr where
 t0:List Int
 (t1 t5:Int)
 t6:Bool
 t7:Int
structure aEQ where
 t1:List Int
 t2:List ay
 t9:Int
 b0:aN
 (b1 b2:nH)
structure aD1 where
 t1:List Int
 t9:Int
 b0:aN
 b1:ay
 (b2 b3:nH)
structure aEr where
 (t1 t5:List Int)
 t6:Int
 b0:aN
structure aFI where
 (t0 t1:List Int)
 t5:Int
def Bf(b:Bool):Int:=if b=O then 1 else 0
def U6(a b:Int):Int:=if b=0 then 0 else if a.tmod b≠0/\J (a<0)≠J (b<0)then a.tdiv b-1 else a.tdiv b
def aDx(a b:Int):Int:=if b=0 then 0 else a-b*U6 a b
def NH(o a b:Int):Int:=
 if o=8 then a+b else if o=9 then a-b else if o=10 then a*b else if o=11 then U6 a b else if o=12 then aDx a b
 else if o=13 then Bf (J (a=b))else if o=14 then Bf (J (a≠b))else if o=15 then Bf (J (a<b))else if o=16 then Bf (J (a<=b))
 else if o=17 then Bf (J (b<a))else if o=18 then Bf (J (b<=a))else if o=19 then Bf (J (a≠0/\b≠0))else if o=20 then Bf (J (a≠0\/b≠0))
 else if o=21 then(if a<b then a else b)else(if b<a then a else b)
def af0(a b:Int):(a.tdiv b).natAbs<=a.natAbs:=Int.natAbs_tdiv_le_natAbs a b
def VIn(vars:aa aX)(vals:aa Int):Prop:=vals.length=vars.length/\∀i,i<vars.length->vars[i]!.ag<=vals[i]!/\vals[i]!<=vars[i]!.ah
def neB(a b:Bool):(bif a==b then false else true)=J (a≠b):=by cases a<;>cases b<;>rfl
def aiJ{a b:Int}(h1: -1099511627776<=a)(h2:a<=1099511627776):ac3 a b=V (U6 a b):=by
 have h3:=af0 a b;have w1:i64.wrap (a.tdiv b)=a.tdiv b:=aG;have w2:i64.wrap (a.tdiv b-1)=a.tdiv b-1:=aG;unfold ac3 U6;by_cases hb:b=0
 ·simp[hb]
 by_cases hm:a.tmod b=0
 ·simp[hb,hm,w1]
 ·simp only[hb,hm,w1,w2,eR,bA,bD,not_false_eq_true,cF,gA,ne_eq,true_and,neB,not_true];by_cases hc:J (a<0)=J (b<0)
  ·simp[hc]
  ·simp[hc]
def ab7{vars:aa aX}{inp:Bool}{t:au}(hf:dH vars inp t=O):(0<=(cc t.bC).1/\(cc t.bC).1<=t.aq.length/\(t.aq.length:Int)<=(cc t.bC).2)/\(t.bC=24->0<=t.fN/\t.fN<vars.length):=by
 rw[lB]at hf;have h:=(zi _ _▸hf).1;unfold Bm at h;rw[zi,decide_eq_true_iff]at h;refine⟨h.1,λh24=> ?_⟩;have h2:=h.2;simp only[h24,Int.reduceEq,reduceIte,zi,decide_eq_true_eq]at h2;exact h2.1
def Ym(o:Int)(h:0<=(cc o).1):((o=0\/o=24)/\cc o=(0,0))\/((o=6\/o=7)/\cc o=(1,1))\/((8<=o/\o<=22)/\cc o=(2,2))\/(o=23/\cc o=(3,3))\/(o=25/\cc o=(2,33)):=by
 unfold cc at h ⊢;split
 ·exact .inl ⟨‹_›,rfl⟩
 rename_i h1;rw[bP h1]at h;split
 ·exact .inr (.inl ⟨‹_›,rfl⟩)
 rename_i h2;rw[bP h2]at h;split
 ·exact .inr (.inr (.inl ⟨‹_›,rfl⟩))
 rename_i h3;rw[bP h3]at h;split
 ·exact .inr (.inr (.inr (.inl ⟨‹_›,rfl⟩)))
 rename_i h4;rw[bP h4]at h;split
 ·exact .inr (.inr (.inr (.inr ⟨‹_›,rfl⟩)))
 ·rename_i h5;rw[bP h5]at h;simp at h
def Gr(M:aN->aa ay->Bool->af lP)(f:aN)(l A B:aa ay)(top:Bool)(n i a b:Int)(ha:M f A G=V a)(hb:M f B G=V b):
  Af M ⟨l,top,l,n,i,[A,B],2,0,f⟩=V ⟨l,top,l,n,i,[A,B],2,if a≠0 then 0 else if b≠0 then 1 else 2,f⟩:=by
 have w0:i64.wrap 1=1:=rfl;have w1:i64.wrap 2=2:=rfl;have r1:sN M ⟨l,top,l,n,i,[A,B],2,0,f⟩=if a≠0 then V S else V (V ⟨l,top,l,n,i,[A,B],2,1,f⟩):=by
  unfold sN;by_cases h:a=0<;>simp[ha,h,w0]
 have r2:sN M ⟨l,top,l,n,i,[A,B],2,1,f⟩=if b≠0 then V S else V (V ⟨l,top,l,n,i,[A,B],2,2,f⟩):=by
  unfold sN;by_cases h:b=0<;>simp[hb,h,w1]
 have r3:sN M ⟨l,top,l,n,i,[A,B],2,2,f⟩=V S:=by
  unfold sN;simp
 unfold Af;by_cases h1:a≠0
 ·rw[bG h1]at r1 ⊢;exact cu λr=>by rw[r1];simp
 ·rw[bP h1]at r1 ⊢;rw[bQ r1];by_cases h2:b≠0
  ·rw[bG h2]at r2 ⊢;exact cu λr=>by rw[r2];simp
  ·rw[bP h2]at r2 ⊢;rw[bQ r2];exact cu λr=>by rw[r3];simp
def Sn(n i:Nat)(hn:n<=1000000):J ((i:Int)=i64.wrap ((n:Int)-1))=J (i+1=n):=by
 rw[aG];apply decide_eq_decide.2;omega
def W3(M:aN->aa ay->Bool->af lP)(f:aN)(hv:dc f.aj)(l:aa ay)(hl:l.length<=1000000)(top:Bool)(hM:∀s∈l,M f s.aL G=V (cg f G s.aL)/\M f s.aR G=V (cg f G s.aR))(i:Nat)(hi:i<l.length):
  (Wt f top l.length i l[i]! =0->vN M ⟨l,top,l,(l.length:Int),(i:Int),f⟩=V (V ⟨l,top,l,(l.length:Int),((i+1:Nat):Int),f⟩))/\(Wt f top l.length i l[i]!≠0->vN M ⟨l,top,l,(l.length:Int),(i:Int),f⟩=V S):=by
 have hw:=fG hi hl;obtain⟨k1,k2⟩:=hM _ (bh hi);have hin:=Gr M f l l[i]!.aL l[i]!.aR top (l.length:Int) (i:Int) _ _ k1 k2;have hlen:(([l[i]!.aL,l[i]!.aR]:aa (aa ay)).length:Int)=2:=rfl;have hi1:(i:Int)<(l.length:Int):=by omega
 have hi0:(0:Int)<=(i:Int):=by omega
 unfold vN Wt nh;dsimp only;simp only[ze,au.eta,ay.eta,T4,Sn l.length i hl,Cb f.aj hv,hlen,hin,hw,hi1,hi0,cR,bD,dA,cF];have e1':(bif top then some (bif dG f l[i]! (J (i+1=l.length))then false else true)else some (bif dG f l[i]! false then false else true))=some (bif dG f l[i]! (top&&J (i+1=l.length))then false else true):=by cases top<;>rfl
 rw[e1'];have hS:dG f l[i]! (top&&J (i+1=l.length))=O->PB l[i]! =V (sC l[i]!):=λh=>Tm _ (iV h).1;revert hS;generalize dG f l[i]! (top&&J (i+1=l.length))=zb;intro hS;generalize l[i]!.aL=A at k1 hin ⊢;generalize l[i]!.aR=B at k2 hin ⊢;cases zb with
 |false=>simp
 |true=>
  rw[hS rfl];generalize sC l[i]! =N;cases N with
  |false=>simp
  |true=>
   generalize eV f.aj G l[i]!.az=T;generalize cg f G A=a at*;generalize cg f G B=b at*;by_cases hT:T=0
   ·by_cases ha:a=0
    ·by_cases hb:b=0
     ·simp[hT,ha,hb,hw]
     ·simp[hT,ha,hb,k2]
    ·simp[hT,ha,k1]
   ·simp[hT]
def agf(M:aN->aa ay->Bool->af lP)(f:aN)(hv:dc f.aj)(l:aa ay)(hl:l.length<=1000000)(top:Bool)(hM:∀s∈l,M f s.aL G=V (cg f G s.aL)/\M f s.aR G=V (cg f G s.aR)):acw M f l top=V (cg f top l):=by
 obtain⟨i,e1,hc⟩:=rX (rnd:=vN M) l (λi=>⟨l,top,l,(l.length:Int),(i:Int),f⟩) (Wt f top l.length) (λi hi=>W3 M f hv l hl top hM i hi) (by unfold vN;simp);have e1':Kg M ⟨l,top,l,(l.length:Int),0,f⟩=V ⟨l,top,l,(l.length:Int),(i:Int),f⟩:=e1;rw[o5 f top l.length l 0 (by omega)]at hc;unfold acw;rw[e1'];dsimp only;rcases hc with ⟨rfl,hc⟩|⟨hi,h0,hc⟩
 ·rw[hc];simp
 ·rw[hc];obtain⟨k1,k2⟩:=hM _ (bh hi);have hin:=Gr M f l l[i]!.aL l[i]!.aR top (l.length:Int) (i:Int) _ _ k1 k2;have hlen:(([l[i]!.aL,l[i]!.aR]:aa (aa ay)).length:Int)=2:=rfl;have hi1:(i:Int)<(l.length:Int):=by omega
  have hi0:(0:Int)<=(i:Int):=by omega
  revert h0;unfold Wt nh;simp only[ze,au.eta,ay.eta,T4,Sn l.length i hl,Cb f.aj hv,hlen,hin,hi1,hi0,cR,bD,dA,cF];have e1':(bif top then some (bif dG f l[i]! (J (i+1=l.length))then false else true)else some (bif dG f l[i]! false then false else true))=some (bif dG f l[i]! (top&&J (i+1=l.length))then false else true):=by cases top<;>rfl
  rw[e1'];have hS:dG f l[i]! (top&&J (i+1=l.length))=O->PB l[i]! =V (sC l[i]!):=λh=>Tm _ (iV h).1;revert hS;generalize dG f l[i]! (top&&J (i+1=l.length))=zb;intro hS;generalize l[i]!.aL=A at k1 hin ⊢;generalize l[i]!.aR=B at k2 hin ⊢;cases zb with
  |false=>simp
  |true=>
   rw[hS rfl];generalize sC l[i]! =N;cases N with
   |false=>simp
   |true=>
    generalize eV f.aj G l[i]!.az=T;generalize cg f G A=a at*;generalize cg f G B=b at*;by_cases hT:T=0
    ·by_cases ha:a=0
     ·by_cases hb:b=0
      ·simp[hT,ha,hb]
      ·simp[hT,ha,hb,k2]
     ·simp[hT,ha,k1]
    ·simp[hT]
def Kt(f:aN)(hv:dc f.aj):∀(n:Nat) (l:aa ay) (top:Bool),zg l<n->fI l<=1000->Oy n f l top=V (cg f top l)
 |0,_,_,h,_=>by omega
 |n+1,l,top,h,h2=>agf (Oy n) f hv l (by have:=kC l;omega) top (λs hs=>⟨Kt f hv n _ _ (by have:=bt hs;omega) (by have:=gm hs;omega),Kt f hv n _ _ (by have:=bt hs;omega) (by have:=gm hs;omega)⟩)
def ac6(f:aN)(hv:dc f.aj)(l:aa ay)(top:Bool)(h:fI l<=1000):adi f l top=V (cg f top l):=eT (zg l+1) λn hn=>Kt f hv n l top (by omega) h
def T2{f:aN}{s:ay}{last:Bool}(h:dG f s last=O)(c:Int)(hc:c=if s.b9=2 then 67108864 else 10000):
  ((bif J (s.bq<0)then V O else bif J (c<s.bq)then V O else bif J (s.fN<0)then V O else bif J (s.b9=4)then V (J (4096<s.fN))else V G):af Bool)=V (!(J (0<=s.bq/\s.bq<=c)&&(if s.b9=4 then J (0<=s.fN/\s.fN<=4096)else O))):=by
 obtain⟨b1,b2,b3,b4,b5⟩:=iV h;have hd:∀(p:Prop) [Decidable p],(!decide p)=J (¬p):=λp _=>by by_cases hp:p<;>simp[hp]
 by_cases h1:s.bq<0
 ·simp[h1,show ¬0<=s.bq by omega]
 by_cases h2:c<s.bq
 ·simp[h1,h2,show ¬s.bq<=c by omega]
 by_cases h3:s.fN<0
 ·have h4:s.b9=4:=by
   by_cases h4:s.b9=4
   ·exact h4
   ·have:=b5 h4;omega
  simp[h1,h2,h3,h4,show ¬0<=s.fN by omega]
 by_cases h4:s.b9=4
 ·simp[h1,h2,h3,h4,show 0<=s.bq by omega,show s.bq<=c by omega,show 0<=s.fN by omega];by_cases h5:4096<s.fN
  ·simp[h5]
  ·simp[h5];omega
 ·simp[h1,h2,h3,h4,show 0<=s.bq by omega,show s.bq<=c by omega]
def SP{f:aN}{s:ay}{last:Bool}(h:dG f s last=O):
  ((bif J (0<(s.aJ.length:Int))then if(0:Int)<=i64.wrap ((s.aJ.length:Int)-(1:Int))/\i64.wrap ((s.aJ.length:Int)-(1:Int))<(s.aJ.length:Int)then V (J (67108864<s.aJ[(i64.wrap ((s.aJ.length:Int)-1)).toNat]!))else S else V G):af Bool)=V (!(if s.b9=6 then J (s.aJ[s.aJ.length-1]!<=67108864)else O)):=by
 obtain⟨b1,b2,b3,b4,b5⟩:=iV h;by_cases h6:s.b9=6
 ·obtain⟨b1,b2⟩:=b1 h6;have hw:i64.wrap ((s.aJ.length:Int)-1)=(s.aJ.length:Int)-1:=aG;have hw2:((s.aJ.length:Int)-1).toNat=s.aJ.length-1:=by omega
  rw[hw,hw2,nj,bD,bG ⟨by omega,by omega⟩,bG h6];generalize s.aJ[s.aJ.length-1]! =B;by_cases h:67108864<B
  ·simp[h]
  ·simp[h];omega
 ·rw[bX (by have:=b2 h6;omega),bP h6];rfl
def ai1(M:aN->aa ay->Bool->af nM)(f:aN)(hv:dc f.aj)(l:aa ay)(hl:l.length<=1000000)(hB:∀s∈l,s.aJ.length<=1000000)(top:Bool)(hM:∀s∈l,M f s.aL G=V (cg f G s.aL)/\M f s.aR G=V (cg f G s.aR))(i:Nat)(hi:i<l.length):
  (Wt f top l.length i l[i]! =0->vL M ⟨l,top,(i:Int),f⟩=V (V ⟨l,top,((i+1:Nat):Int),f⟩))/\(Wt f top l.length i l[i]!≠0->vL M ⟨l,top,(i:Int),f⟩=V S):=by
 have hw:=fG hi hl;obtain⟨k1,k2⟩:=hM _ (bh hi);have hb:=hB _ (bh hi);have hi1:(i:Int)<(l.length:Int):=by omega
 have hi0:(0:Int)<=(i:Int):=by omega
 unfold vL Wt nh;dsimp only;simp only[ze,au.eta,ay.eta,TL f l[i]! _ hb,Sn l.length i hl,Ck f.aj hv,hw,hi1,hi0,cR,bD,dA,cF];have e1':(bif top then some (bif dG f l[i]! (J (i+1=l.length))then false else true)else some (bif dG f l[i]! false then false else true))=some (bif dG f l[i]! (top&&J (i+1=l.length))then false else true):=by cases top<;>rfl
 rw[e1'];cases hS:dG f l[i]! (top&&J (i+1=l.length))with
 |false=>simp
 |true=>
  have hn:=T2 hS;rw[SP hS];unfold sC;generalize (if l[i]!.b9=6 then J (l[i]!.aJ[l[i]!.aJ.length-1]!<=67108864)else O)=B6;by_cases h2:l[i]!.b9=2
  ·rw[bG h2]at hn ⊢;rw[bW h2,hn 67108864 rfl];generalize (J (0<=l[i]!.bq/\l[i]!.bq<=67108864)&&(if l[i]!.b9=4 then J (0<=l[i]!.fN/\l[i]!.fN<=4096)else O))=N;generalize eV f.aj G l[i]!.az=T;generalize l[i]!.aL=A at k1 ⊢;generalize l[i]!.aR=B at k2 ⊢;generalize cg f G A=a at*;generalize cg f G B=b at*;cases N with
   |false=>simp
   |true=>
    cases B6 with
    |false=>simp
    |true=>
     by_cases hT:T=0
     ·by_cases ha:a=0
      ·by_cases hb:b=0
       ·simp[hT,ha,hb,k1,k2]
       ·simp[hT,ha,hb,k1,k2]
      ·simp[hT,ha,k1]
     ·simp[hT]
  ·rw[bP h2]at hn ⊢;rw[bX h2,hn 10000 rfl];generalize (J (0<=l[i]!.bq/\l[i]!.bq<=10000)&&(if l[i]!.b9=4 then J (0<=l[i]!.fN/\l[i]!.fN<=4096)else O))=N;generalize eV f.aj G l[i]!.az=T;generalize l[i]!.aL=A at k1 ⊢;generalize l[i]!.aR=B at k2 ⊢;generalize cg f G A=a at*;generalize cg f G B=b at*;cases N with
   |false=>simp
   |true=>
    cases B6 with
    |false=>simp
    |true=>
     by_cases hT:T=0
     ·by_cases ha:a=0
      ·by_cases hb:b=0
       ·simp[hT,ha,hb,k1,k2]
       ·simp[hT,ha,hb,k1,k2]
      ·simp[hT,ha,k1]
     ·simp[hT]
def agk(M:aN->aa ay->Bool->af nM)(f:aN)(hv:dc f.aj)(l:aa ay)(hl:l.length<=1000000)(hB:∀s∈l,s.aJ.length<=1000000)(top:Bool)(hM:∀s∈l,M f s.aL G=V (cg f G s.aL)/\M f s.aR G=V (cg f G s.aR)):ai8 M f l top=V (cg f top l):=by
 obtain⟨i,e1,hc⟩:=rX (rnd:=vL M) l (λi=>⟨l,top,(i:Int),f⟩) (Wt f top l.length) (λi hi=>ai1 M f hv l hl hB top hM i hi) (by unfold vL;simp);have e1':Jq M ⟨l,top,0,f⟩=V ⟨l,top,(i:Int),f⟩:=e1;rw[o5 f top l.length l 0 (by omega)]at hc;unfold ai8;rw[e1'];dsimp only;rcases hc with ⟨rfl,hc⟩|⟨hi,h0,hc⟩
 ·rw[hc];simp
 ·rw[hc];obtain⟨k1,k2⟩:=hM _ (bh hi);have hb:=hB _ (bh hi);have hi1:(i:Int)<(l.length:Int):=by omega
  have hi0:(0:Int)<=(i:Int):=by omega
  revert h0;unfold Wt nh;simp only[ze,au.eta,ay.eta,TL f l[i]! _ hb,Sn l.length i hl,Ck f.aj hv,hi1,hi0,cR,bD,dA,cF];have e1':(bif top then some (bif dG f l[i]! (J (i+1=l.length))then false else true)else some (bif dG f l[i]! false then false else true))=some (bif dG f l[i]! (top&&J (i+1=l.length))then false else true):=by cases top<;>rfl
  rw[e1'];cases hS:dG f l[i]! (top&&J (i+1=l.length))with
  |false=>simp
  |true=>
   have hn:=T2 hS;rw[SP hS];unfold sC;generalize (if l[i]!.b9=6 then J (l[i]!.aJ[l[i]!.aJ.length-1]!<=67108864)else O)=B6;by_cases h2:l[i]!.b9=2
   ·rw[bG h2]at hn ⊢;rw[bW h2,hn 67108864 rfl];generalize (J (0<=l[i]!.bq/\l[i]!.bq<=67108864)&&(if l[i]!.b9=4 then J (0<=l[i]!.fN/\l[i]!.fN<=4096)else O))=N;generalize eV f.aj G l[i]!.az=T;generalize l[i]!.aL=A at k1 ⊢;generalize l[i]!.aR=B at k2 ⊢;generalize cg f G A=a at*;generalize cg f G B=b at*;cases N with
    |false=>simp
    |true=>
     cases B6 with
     |false=>simp
     |true=>
      by_cases hT:T=0
      ·by_cases ha:a=0
       ·by_cases hb:b=0
        ·simp[hT,ha,hb,k1,k2]
        ·simp[hT,ha,hb,k1,k2]
       ·simp[hT,ha,k1]
      ·simp[hT]
   ·rw[bP h2]at hn ⊢;rw[bX h2,hn 10000 rfl];generalize (J (0<=l[i]!.bq/\l[i]!.bq<=10000)&&(if l[i]!.b9=4 then J (0<=l[i]!.fN/\l[i]!.fN<=4096)else O))=N;generalize eV f.aj G l[i]!.az=T;generalize l[i]!.aL=A at k1 ⊢;generalize l[i]!.aR=B at k2 ⊢;generalize cg f G A=a at*;generalize cg f G B=b at*;cases N with
    |false=>simp
    |true=>
     cases B6 with
     |false=>simp
     |true=>
      by_cases hT:T=0
      ·by_cases ha:a=0
       ·by_cases hb:b=0
        ·simp[hT,ha,hb,k1,k2]
        ·simp[hT,ha,hb,k1,k2]
       ·simp[hT,ha,k1]
      ·simp[hT]
def HK(f:aN)(hv:dc f.aj):∀(n:Nat) (l:aa ay) (top:Bool),zg l<n->fI l<=1000->PF n f l top=V (cg f top l)
 |0,_,_,h,_=>by omega
 |n+1,l,top,h,h2=>agk (PF n) f hv l (by have:=kC l;omega) (λs hs=>by have:=B7 hs;have:=oF s;omega) top (λs hs=>⟨HK f hv n _ _ (by have:=bt hs;omega) (by have:=gm hs;omega),HK f hv n _ _ (by have:=bt hs;omega) (by have:=gm hs;omega)⟩)
def acM(f:aN)(hv:dc f.aj)(l:aa ay)(top:Bool)(h:fI l<=1000):aes f l top=V (cg f top l):=eT (zg l+1) λn hn=>HK f hv n l top (by omega) h
def XB(f:aN)(hv:dc f.aj)(hl:f.ak.length<=1000000)(i:Nat)(hi:i<f.ak.length):
  (kg f i f.ak[i]! =0->vS ⟨f.ak,(f.ak.length:Int),(i:Int),f⟩=V (V ⟨f.ak,(f.ak.length:Int),((i+1:Nat):Int),f⟩))/\(kg f i f.ak[i]!≠0->vS ⟨f.ak,(f.ak.length:Int),(i:Int),f⟩=V S):=by
 have hw:=fG hi hl;have h2:=SB (f.ak.take i) (by rw[zH];omega) f.ak[i]!;unfold vS kg;dsimp only;simp only[ze,au.eta,dx.eta,BR,B9,h2,Cb f.aj hv,hw];generalize iO f.ak[i]!.fName=B;generalize ((f.ak.take i).any λw=>w.fName.toList==f.ak[i]!.fName.toList)=A;generalize gP f.ak[i]!.ag f.ak[i]!.ah=C;generalize eV f.aj O f.ak[i]!.az=T;have hi1:(i:Int)<(f.ak.length:Int):=by omega
 have hi0:(0:Int)<=(i:Int):=by omega
 have hi2:(i:Int)<=(f.ak.length:Int):=by omega
 simp only[hi0,hi1,hi2,dA,cF,cR,bD];cases A<;>cases B<;>cases C<;>by_cases hT:T=0<;>simp[hT]
def aiE(f:aN)(hv:dc f.aj)(hl:f.ak.length<=1000000):afK f=V (cq (kg f) f.ak 0):=by
 obtain⟨i,e1,hc⟩:=rX (rnd:=vS) f.ak (λi=>⟨f.ak,(f.ak.length:Int),(i:Int),f⟩) (kg f) (λi hi=>XB f hv hl i hi) (by unfold vS;simp);have e1':IU ⟨f.ak,(f.ak.length:Int),0,f⟩=V ⟨f.ak,(f.ak.length:Int),(i:Int),f⟩:=e1;unfold afK;rw[e1'];dsimp only;rcases hc with ⟨rfl,hc⟩|⟨hi,h0,hc⟩
 ·rw[hc];simp
 ·rw[hc];have h2:=SB (f.ak.take i) (by rw[zH];omega) f.ak[i]!;revert h0;unfold kg;simp only[ze,au.eta,dx.eta,BR,B9,h2,Cb f.aj hv];generalize iO f.ak[i]!.fName=B;generalize ((f.ak.take i).any λw=>w.fName.toList==f.ak[i]!.fName.toList)=A;generalize gP f.ak[i]!.ag f.ak[i]!.ah=C;generalize eV f.aj O f.ak[i]!.az=T;have hi1:(i:Int)<(f.ak.length:Int):=by omega
  have hi0:(0:Int)<=(i:Int):=by omega
  have hi2:(i:Int)<=(f.ak.length:Int):=by omega
  simp only[hi0,hi1,hi2,dA,cF,cR,bD];cases A<;>cases B<;>cases C<;>by_cases hT:T=0<;>simp[hT]
def aeZ(f:aN)(hv:dc f.aj)(hl:f.ak.length<=1000000)(i:Nat)(hi:i<f.ak.length):
  (kg f i f.ak[i]! =0->Hf ⟨(i:Int),f⟩=V (V ⟨((i+1:Nat):Int),f⟩))/\(kg f i f.ak[i]!≠0->Hf ⟨(i:Int),f⟩=V S):=by
 have hw:=fG hi hl;obtain⟨j,h2,h3⟩:=Lr f hl i (by omega) f.ak[i]!;unfold Hf kg;dsimp only;simp only[ze,au.eta,dx.eta,BN,BV,h2,Ck f.aj hv,hw];generalize iO f.ak[i]!.fName=B;generalize ((f.ak.take i).any λw=>w.fName.toList==f.ak[i]!.fName.toList)=A at h3;generalize gP f.ak[i]!.ag f.ak[i]!.ah=C;generalize eV f.aj O f.ak[i]!.az=T;have hi1:(i:Int)<(f.ak.length:Int):=by omega
 have hi0:(0:Int)<=(i:Int):=by omega
 simp only[hi0,hi1,dA,cF,cR,bD];rcases h3 with ⟨rfl,rfl⟩|⟨hj,h4,rfl⟩
 ·cases B<;>cases C<;>by_cases hT:T=0<;>simp[hT]
 ·have hj1:(j:Int)<(i:Int):=by omega
  have hj2:(j:Int)<(f.ak.length:Int):=by omega
  have hj0:(0:Int)<=(j:Int):=by omega
  simp only[hj0,hj1,hj2,h4,dA,cF,cR,bD];cases B<;>simp
def Z3(f:aN)(hv:dc f.aj)(hl:f.ak.length<=1000000):∃i:Nat,S6 ⟨0,f⟩=V ⟨(i:Int),f⟩/\((i=f.ak.length/\cq (kg f) f.ak 0=0)\/(i<f.ak.length/\kg f i f.ak[i]!≠0/\cq (kg f) f.ak 0=kg f i f.ak[i]!)):=
 rX (rnd:=Hf) f.ak (λi=>⟨(i:Int),f⟩) (kg f) (λi hi=>aeZ f hv hl i hi) (by unfold Hf;simp)
def Au{f:aN}{i:Nat}(hi:i<f.ak.length):jr ((f.ak.take i).map (·.az))+nT f.ak[i]!.az<=jr (f.ak.map (·.az)):=by
 have h:=ES (f.ak.map (·.az)) (i+1);rw[<-xQ,bI hi,z8,BH]at h;simpa [jr]using h
def aeo(f:aN)(h:fI f.bH+jr (f.ak.map (·.az))<=900)(hl:f.ak.length<=1000000):agv f=V (qz f):=by
 unfold agv qz;by_cases h1:64<(f.aj.length:Int)
 ·simp[h1,show ¬f.aj.length<=64 by omega]
 by_cases h2:8<(f.ak.length:Int)
 ·simp[h1,h2,show ¬f.ak.length<=8 by omega]
 rw[bX h1,bX h2,bW (show f.aj.length<=64 by omega),bW (show f.ak.length<=8 by omega)];dsimp only[bA,bD];have hb:=Cn f.bH;rw[ajd f.bH (by omega)];obtain⟨i,b,e1,hI,hc⟩:=oE (rnd:=D7) f.ak.length (λi (b:Int)=>⟨b,(i:Int),f⟩) (λi b=>(0<=b/\b<=fI f.bH+jr ((f.ak.take i).map (·.az)))/\∀j,j<i->dT f.ak[j]!.az<=12) (λi _=>12<dT f.ak[i]!.az) (λi b hi hI=>by
  have hn:=Au hi;have hw:=fG hi hl;have k1:=IB f.ak[i]!.az (by omega);have k2:=JX f.ak[i]!.az (by omega);have hi1:(i:Int)<(f.ak.length:Int):=by omega
  have hi0:(0:Int)<=(i:Int):=by omega
  by_cases hd:12<dT f.ak[i]!.az
  ·refine .inr ⟨?_,hd⟩;unfold D7;dsimp only;simp only[ze,au.eta,k1,k2,hi1,hi0,cR,bD,dA,cF,hd]
  ·refine .inl ⟨b+nT f.ak[i]!.az,?_,⟨by omega,?_⟩,λj hj=> ?_⟩
   ·have hw2:i64.wrap (b+(nT f.ak[i]!.az:Int))=b+nT f.ak[i]!.az:=aG;unfold D7;dsimp only;simp only[ze,au.eta,k1,k2,hi1,hi0,cR,bD,dA,cF,hd,eR,bA,hw,hw2]
   ·rw[bI hi,z8,BH];simp only[yc,yR,qu,show jr []=0 from rfl];omega
   ·rcases y8.1 hj with h|h
    ·exact hI.2 j h
    ·subst h;omega) (λb _=>by unfold D7;simp) (b:=gF f.bH) ⟨⟨by omega,by simp only[xR,yR,show jr []=0 from rfl];omega⟩,λj hj=>dF hj (by omega)⟩
 have e1':Jd ⟨gF f.bH,0,f⟩=V ⟨b,(i:Int),f⟩:=e1;dsimp only;rw[e1'];dsimp only;rcases hc with rfl|⟨hi,hd⟩
 ·rw[bX (show ¬((f.ak.length:Int)<(f.ak.length:Int))by omega),bA];have ha:f.ak.all (λh=>J (dT h.az<=12))=O:=DV λj hj=>by simpa using hI.2 j hj
  have hn:=hI.1.2;rw[zD]at hn;rw[ha,bW (show b<=1024 by omega),bD,ads f.bH (by omega),afh f.bH (by omega)];by_cases h5:jD f.bH<=12
  ·cases fD f.bH<;>simp[h5]
  ·simp[h5]
 ·have hn:=Au hi;have k1:=IB f.ak[i]!.az (by omega);have k2:=JX f.ak[i]!.az (by omega);have hi1:(i:Int)<(f.ak.length:Int):=by omega
  have hi0:(0:Int)<=(i:Int):=by omega
  have ha:f.ak.all (λh=>J (dT h.az<=12))=G:=ux hi (by simpa using hd);simp only[ze,au.eta,k1,k2,hi1,hi0,cR,bD,dA,cF,hd,ha,Bool.and_false,Bool.false_and]
def ajI(M:aa ay->Int->aY->af rI)(l:aa ay)(hM:∀s∈l,∀(d:Int) (b:aY),0<=d->d<=13->0<=b.bE->(b.bE+fI s.aL<=1000->M s.aL d b=V (nu d s.aL b))/\(b.bE+fI s.aR<=1000->M s.aR d b=V (nu d s.aR b)))(d:Int)(b:aY)(h0:0<=d)(hd:d<=13)(h1:0<=b.bE)(h2:b.bE+fI l<=1000):acq M l d b=V (nu d l b):=by
 have hL:=kC l;have hw1:i64.wrap (d+1)=d+1:=aG;have hgo:∀(l:aa ay) (i:Nat) (b:aY),Ll (λ_ (b:aY) (s:ay)=>if eW (dy d b)=O then(.inr (dy d b):aY ⊕ aY)else .inl (nu (d+1) s.aR (nu (d+1) s.aL (sZ s.az 1 (dy d b))))) id id l i b=nu d l b:=by
  intro l;induction l with
  |nil=>intro i b;rw[nu];rfl
  |cons s l ih=>
   intro i b;rw[nu];by_cases ho:eW (dy d b)=O
   ·rw[bG ho,ny (r:=dy d b) (by rw[bG ho])];rfl
   ·rw[bP ho,rz (b':=nu (d+1) s.aR (nu (d+1) s.aL (sZ s.az 1 (dy d b)))) (by rw[bP ho])];exact ih (i+1) _
 have hm:∀(b:aY) (x:Bool),-1000000<=b.bE->b.bE<=1000000->x=(b.fE||J (12<d))->ja ⟨i64.wrap (b.bE+1),x⟩=(eW (dy d b),dy d b):=λb x b1 b2 hx=>by
  rw[uu,aG,hx];rfl
 have hs:∀(i:Nat) (b:aY),i<l.length->0<=b.bE->b.bE+nS l[i]!<=1000->eW (dy d b)=G->d<=12/\FZ l[i]!.az 1 (dy d b)=V (sZ l[i]!.az 1 (dy d b))/\M l[i]!.aL (d+1) (sZ l[i]!.az 1 (dy d b))=V (nu (d+1) l[i]!.aL (sZ l[i]!.az 1 (dy d b)))/\M l[i]!.aR (d+1) (nu (d+1) l[i]!.aL (sZ l[i]!.az 1 (dy d b)))=V (nu (d+1) l[i]!.aR (nu (d+1) l[i]!.aL (sZ l[i]!.az 1 (dy d b))))/\0<=(nu (d+1) l[i]!.aR (nu (d+1) l[i]!.aL (sZ l[i]!.az 1 (dy d b)))).bE/\(nu (d+1) l[i]!.aR (nu (d+1) l[i]!.aL (sZ l[i]!.az 1 (dy d b)))).bE<=b.bE+nS l[i]! :=λi b hi b1 b2 ho=>by
  have hd2:d<=12:=by unfold eW dy at ho;grind
  have hN:=oF l[i]!;have hp:(dy d b).bE=b.bE+1:=rfl;obtain⟨a1,a2,a3⟩:=HQ l[i]!.az 1 (dy d b) (by omega) (by omega) (by omega);obtain⟨c1,c2,c3⟩:=O9 (d+1) l[i]!.aL (sZ l[i]!.az 1 (dy d b)) (by omega) (by omega) (by omega) (by omega);obtain⟨g1,g2,g3⟩:=O9 (d+1) l[i]!.aR (nu (d+1) l[i]!.aL (sZ l[i]!.az 1 (dy d b))) (by omega) (by omega) (by omega) (by omega);exact⟨hd2,Rm _ 1 _ (by omega) (by omega) (by omega) (by omega),(hM _ (bh hi) (d+1) _ (by omega) (by omega) (by omega)).1 (by omega),(hM _ (bh hi) (d+1) _ (by omega) (by omega) (by omega)).2 (by omega),by omega,by omega⟩
 obtain⟨i,v,e1,hI,hc⟩:=Sl (rnd:=De M) l (λi (b:aY)=>⟨d,l,(l.length:Int),(i:Int),b⟩) (λ_ (b:aY) (s:ay)=>if eW (dy d b)=O then(.inr (dy d b):aY ⊕ aY)else .inl (nu (d+1) s.aR (nu (d+1) s.aL (sZ s.az 1 (dy d b))))) id id (λi x=>0<=x.bE/\x.bE<=b.bE+fI (l.take i)) (λi x hi hx=>by
   have hn:=FE hi;have hw:=fG hi (by omega);have hi1:(i:Int)<(l.length:Int):=by omega
   have hi0:(0:Int)<=(i:Int):=by omega
   have hmx:=hm x;cases ho:eW (dy d x)with
   |true=>
    refine⟨λb' hb'=>by simp at hb',λr hr=> ?_⟩;unfold De;dsimp only;simp only[ze,hi1,hi0,cR,bD,dA,cF];cases hb:x.fE with
    |true=>rw[hmx O (by omega) (by omega) (by rw[hb];rfl),ho];rfl
    |false=>rw[hmx (J (12<d)) (by omega) (by omega) (by rw[hb];rfl),ho];rfl
   |false=>
    obtain⟨q0,q1,q2,q3,q4,q5⟩:=hs i x hi hx.1 (by omega) ho;refine⟨λb' hb'=> ?_,λr hr=>by simp at hr⟩;have hb':nu (d+1) l[i]!.aR (nu (d+1) l[i]!.aL (sZ l[i]!.az 1 (dy d x)))=b':=by simpa using hb'
    subst hb';refine⟨?_,⟨q4,by rw[bI hi,Ls];omega⟩⟩;unfold De;dsimp only;simp only[ze,hi1,hi0,cR,bD,dA,cF];cases hb:x.fE with
    |true=>rw[hmx O (by omega) (by omega) (by rw[hb];rfl),ho];simp only[au.eta,q1,q2,q3,hw1,hw,bD,bA]
    |false=>rw[hmx (J (12<d)) (by omega) (by omega) (by rw[hb];rfl),ho];simp only[au.eta,q1,q2,q3,hw1,hw,bD,bA]) (λx _=>by unfold De;simp) (b:=b) ⟨h1,by simp[fI]⟩
 have e1':IQ M ⟨d,l,(l.length:Int),0,b⟩=V ⟨d,l,(l.length:Int),(i:Int),v⟩:=e1;rw[hgo]at hc;unfold acq;rw[e1'];dsimp only;rcases hc with ⟨rfl,hc⟩|⟨hi,r,hr,hc⟩
 ·rw[hc,gd];rfl
 ·have hn:=FE hi;have hi1:(i:Int)<(l.length:Int):=by omega
  have hi0:(0:Int)<=(i:Int):=by omega
  have ho:eW (dy d v)=O:=by
   by_cases ho:eW (dy d v)=O
   ·exact ho
   ·rw[bP ho]at hr;cases hr
  rw[bG ho]at hr;cases hr;rw[hc];have hmx:=hm v;simp only[ze,hi1,hi0,cR,bD,dA,cF];cases hb:v.fE with
  |true=>rw[hmx O (by omega) (by omega) (by rw[hb];rfl),ho];rfl
  |false=>rw[hmx (J (12<d)) (by omega) (by omega) (by rw[hb];rfl),ho];rfl
def JG:∀(n:Nat) (l:aa ay) (d:Int) (b:aY),zg l<n->0<=d->d<=13->0<=b.bE->b.bE+fI l<=1000->Q5 n l d b=V (nu d l b)
 |0,_,_,_,h,_,_,_,_=>by omega
 |n+1,l,d,b,h,h0,hd,h1,h2=>ajI (Q5 n) l (λs hs d b a1 a2 a3=>⟨λa4=>JG n _ d b (by have:=bt hs;omega) a1 a2 a3 a4,λa4=>JG n _ d b (by have:=bt hs;omega) a1 a2 a3 a4⟩) d b h0 hd h1 h2
def acD(l:aa ay)(d:Int)(b:aY)(h0:0<=d)(hd:d<=13)(h1:0<=b.bE)(h2:b.bE+fI l<=1000):abp l d b=V (nu d l b):=eT (zg l+1) λn hn=>JG n l d b (by omega) h0 hd h1 h2
def aiM(f:aN)(h:fI f.bH+jr (f.ak.map (·.az))<=900)(hl:f.ak.length<=1000000):∃r q,abp f.bH 1 ⟨0,G⟩=V r/\DG ⟨f.ak,(f.ak.length:Int),0,f,r⟩=V ⟨f.ak,(f.ak.length:Int),(f.ak.length:Int),f,q⟩/\eW q= !(f.ak.all (λh=>J (dT h.az<=12))&&J (jD f.bH<=12)&& !fD f.bH):=by
 obtain⟨p1,p2,p3⟩:=O9 1 f.bH ⟨0,G⟩ (by omega) (by omega) (zq 0) (by show (0:Int)+_<=_;omega);have p2:0<=(nu 1 f.bH ⟨0,G⟩).bE:=p2;have p3:(nu 1 f.bH ⟨0,G⟩).bE<=0+fI f.bH:=p3;refine⟨nu 1 f.bH ⟨0,G⟩,?_⟩;have p4:=acD f.bH 1 ⟨0,G⟩ (by omega) (by omega) (zq 0) (by show (0:Int)+_<=_;omega);generalize nu 1 f.bH ⟨0,G⟩=r at*;obtain⟨q,e1,hI⟩:=cZ (rnd:=Ef) f.ak.length (λi (q:aY)=>⟨f.ak,(f.ak.length:Int),(i:Int),f,q⟩) (λi q=>q.fE=(r.fE||(f.ak.take i).any λh=>J (12<dT h.az))/\0<=q.bE/\q.bE<=r.bE+jr ((f.ak.take i).map (·.az))) (λi q hi hI=>by
  have hn:=Au hi;have hw:=fG hi hl;have hi1:(i:Int)<(f.ak.length:Int):=by omega
  have hi0:(0:Int)<=(i:Int):=by omega
  have hn2:jr ((f.ak.take (i+1)).map (·.az))=jr ((f.ak.take i).map (·.az))+nT f.ak[i]!.az:=by
   rw[bI hi,z8,BH];simp[jr]
  have ha:((f.ak.take (i+1)).any λh=>J (12<dT h.az))=(((f.ak.take i).any λh=>J (12<dT h.az))||J (12<dT f.ak[i]!.az)):=by
   rw[bI hi,List.any_append,List.any_cons,List.any_nil,Bool.or_false]
  rw[ha,hn2];obtain⟨q1,q2,q3⟩:=hI;cases ho:eW q with
  |true=>
   refine⟨q,?_,?_,q2,by omega⟩
   ·unfold Ef;dsimp only;simp only[ze,hi1,hi0,cR,bD,bA,dA,cF,uu,ho,hw]
   ·unfold eW at ho;rw[bX (show ¬1024<q.bE by omega),Bool.or_false]at ho;rw[<-Bool.or_assoc,<-q1,ho];rfl
  |false=>
   obtain⟨c1,c2,c3⟩:=HQ f.ak[i]!.az 1 q (by omega) q2 (by omega);have k:=Rm f.ak[i]!.az 1 q (by omega) (by omega) q2 (by omega);refine⟨sZ f.ak[i]!.az 1 q,?_,?_,by omega,by omega⟩
   ·unfold Ef;dsimp only;simp only[ze,au.eta,hi1,hi0,cR,bD,bA,dA,cF,uu,ho,hw,k]
   ·rw[c1,q1,Bool.or_assoc];rw[show J (12<1-1+dT f.ak[i]!.az)=J (12<dT f.ak[i]!.az)from decide_eq_decide.2 (by omega)]) (λq _=>by unfold Ef;simp) (b:=r) ⟨by simp,p2,by simp[jr]⟩
 have e1':DG ⟨f.ak,(f.ak.length:Int),0,f,r⟩=V ⟨f.ak,(f.ak.length:Int),(f.ak.length:Int),f,q⟩:=e1;refine⟨q,p4,e1',?_⟩;rw[zD]at hI;obtain⟨q1,q2,q3⟩:=hI;unfold eW;rw[bX (show ¬1024<q.bE by omega),Bool.or_false,q1,p1];have e2:(f.ak.any λh=>J (12<dT h.az))= !(f.ak.all λh=>J (dT h.az<=12)):=by
  rw[List.not_all_eq_any_not]
  congr 1
  funext h
  by_cases hd:dT h.az<=12
  ·simp[hd]
  ·simp[hd];omega
 have e3:J (12<1-1+jD f.bH)= !J (jD f.bH<=12):=by
  by_cases hd:jD f.bH<=12
  ·simp[hd]
  ·simp[hd];omega
 rw[e2,e3];generalize (f.ak.all λh=>J (dT h.az<=12))=x;generalize J (jD f.bH<=12)=y;generalize fD f.bH=z;cases x<;>cases y<;>cases z<;>rfl
def v8:aa ay->Prop
 |[]=>True
 |s::l=>(0<=s.bq/\s.bq<=67108864)/\(s.b9=4->0<=s.fN/\s.fN<=4096)/\(s.b9≠3->s.b9≠4->s.aL=[])/\(s.b9≠3->s.aR=[])/\v8 s.aL/\v8 s.aR/\v8 l
termination_by l=>zg l
decreasing_by
 ·exact(bt (zm ..)).1
 ·exact(bt (zm ..)).2
 ·exact dV _ _
def ap8{s:ay}(h:sC s=O):(0<=s.bq/\s.bq<=67108864)/\(s.b9=4->0<=s.fN/\s.fN<=4096):=by
 unfold sC at h;simp only[zi,decide_eq_true_eq]at h;grind
def Ao(f:aN):∀(n:Nat) (l:aa ay) (top:Bool),zg l<n->cg f top l=0->v8 l
 |0,_,_,h,_=>by omega
 |n+1,[],top,h,hc=>by rw[v8];trivial
 |n+1,s::l,top,h,hc=>by
  rw[cg]at hc;have hz:=bt (l:=s::l) (zm ..);have hz2:=dV s l;by_cases h1:nh f (top&&l.isEmpty) s≠0
  ·rw[bG h1]at hc;exact dF hc h1
  rw[bP h1]at hc;by_cases h2:cg f G s.aL≠0
  ·rw[bG h2]at hc;exact dF hc h2
  rw[bP h2]at hc;by_cases h3:cg f G s.aR≠0
  ·rw[bG h3]at hc;exact dF hc h3
  rw[bP h3]at hc;have q1:=Ao f n s.aL G (by omega) (by omega);have q2:=Ao f n s.aR G (by omega) (by omega);have q3:=Ao f n l top (by omega) hc;have h1:nh f (top&&l.isEmpty) s=0:=by omega
  unfold nh at h1;cases hS:dG f s (top&&l.isEmpty)with
  |false=>rw[hS]at h1;simp at h1
  |true=>
   rw[hS]at h1;cases hN:sC s with
   |false=>rw[hN]at h1;simp at h1
   |true=>
    obtain⟨n1,n2⟩:=ap8 hN;obtain⟨b1,b2,b3,b4,b5⟩:=iV hS;rw[v8];exact⟨n1,n2,b3,b4,q1,q2,q3⟩
def F5(s:ay)(a b:Int×Int×Int):Int×Int×Int:=
 if s.b9=1 then(1,1,s.bq)
 else if s.b9=3 then(1+max a.1 b.1,max a.2.1 b.2.1,s.bq+max a.2.2 b.2.2)
 else if s.b9=4 then(1+s.fN*(1+a.1),s.fN*a.2.1,s.fN*(s.bq+a.2.2))
 else(1,0,s.bq)
def L9(a b:Int×Int×Int):Int×Int×Int:=(a.1+b.1,a.2.1+b.2.1,a.2.2+b.2.2)
def uv(s:ay)(l:aa ay):eN (s::l)=L9 (F5 s (eN s.aL) (eN s.aR)) (eN l):=by
 rw[eN];unfold F5 L9;dsimp only;split
 ·rfl
 ·split
  ·rfl
  ·split
   ·rfl
   ·simp
def Mf(l:aa ay)(s:ay):eN (l++[s])=L9 (eN l) (F5 s (eN s.aL) (eN s.aR)):=by
 have h0:eN []=(0,0,0):=by rw[eN]
 induction l with
 |nil=>rw[yw,uv,h0];unfold L9;simp
 |cons a l ih=>
  rw[xo,uv,uv,ih];unfold L9;simp only[Int.add_assoc]
def rM(c:Int×Int×Int)(a:Int×Int×Int):Int×Int×Int:=(min a.1 c.1,min a.2.1 c.2.1,min a.2.2 c.2.2)
def agD{n x c k:Int}(hn:0<=n)(hk:0<=k)(hx:0<=x)(hc:0<=c):min (n*(k+min x c)) c=min (n*(k+x)) c:=by
 by_cases h:x<=c
 ·rw[wN h]
 ·rw[xW (show c<=x by omega)];by_cases h0:n=0
  ·subst h0;simp
  ·have e1:1*(k+c)<=n*(k+c):=zN (by omega) (by omega);have e2:1*(k+x)<=n*(k+x):=zN (by omega) (by omega);rw[xW (by omega),xW (by omega)]
def nE:∀{l:aa ay},v8 l->∀s∈l,(0<=s.bq/\s.bq<=67108864)/\(s.b9=4->0<=s.fN/\s.fN<=4096)/\(s.b9≠3->s.b9≠4->s.aL=[])/\(s.b9≠3->s.aR=[])/\v8 s.aL/\v8 s.aR
 |[],_,s,hs=>by cases hs
 |a::l,h,s,hs=>by
  rw[v8]at h;rcases zB.1 hs with rfl|hs
  ·exact⟨h.1,h.2.1,h.2.2.1,h.2.2.2.1,h.2.2.2.2.1,h.2.2.2.2.2.1⟩
  ·exact nE h.2.2.2.2.2.2 s hs
def nn3(a:Int×Int×Int):Prop:=0<=a.1/\0<=a.2.1/\0<=a.2.2
def aq2{s:ay}{a b:Int×Int×Int}(hc:0<=s.bq)(hN:s.b9=4->0<=s.fN)(ha:nn3 a)(hb:nn3 b):nn3 (F5 s a b):=by
 unfold nn3 at*;unfold F5;split
 ·exact⟨y7 (by decide:(0:Int)<1),y7 (by decide:(0:Int)<1),hc⟩
 ·split
  ·dsimp only;omega
  ·split
   ·rename_i h4;have:=hN h4;have e1:0<=s.fN*(1+a.1):=zF this (by omega);have e2:0<=s.fN*a.2.1:=zF this (by omega);have e3:0<=s.fN*(s.bq+a.2.2):=zF this (by omega);dsimp only;omega
   ·exact⟨y7 (by decide:(0:Int)<1),zq (0:Int),hc⟩
def KB:∀(n:Nat) (l:aa ay),zg l<n->v8 l->nn3 (eN l)
 |0,_,h,_=>by omega
 |n+1,[],h,_=>by rw[show eN []=(0,0,0)by rw[eN]];exact⟨by decide,by decide,by decide⟩
 |n+1,s::l,h,ho=>by
  have hz:=bt (l:=s::l) (zm ..);have hz2:=dV s l;rw[v8]at ho;have q1:=KB n s.aL (by omega) ho.2.2.2.2.1;have q2:=KB n s.aR (by omega) ho.2.2.2.2.2.1;have q3:=KB n l (by omega) ho.2.2.2.2.2.2;have q4:=aq2 ho.1.1 (λh=>(ho.2.1 h).1) q1 q2;rw[uv];unfold nn3 L9 at*;dsimp only;omega
def rB{l:aa ay}(h:v8 l):nn3 (eN l):=KB _ l (zJ _) h
def DE:∀{l:aa ay} (i:Nat),v8 l->v8 (l.take i)
 |[],i,h=>by rw[List.take_nil];exact h
 |s::l,0,h=>by rw[xR,v8];trivial
 |s::l,i+1,h=>by
  rw[v8]at h;rw[List.take_succ_cons,v8];exact⟨h.1,h.2.1,h.2.2.1,h.2.2.2.1,h.2.2.2.2.1,h.2.2.2.2.2.1,DE i h.2.2.2.2.2.2⟩
def M3(a:Int×Int×Int):qx:=⟨a.1,a.2.1,a.2.2⟩
def Qg:Int×Int×Int:=(1099511627776,1099511627776,1099511627776)
def JK:Int×Int×Int:=(4097,9,67108865)
def acz{n x:Int}(h1:0<=n)(h2:n<=4096)(h3:0<=x)(h4:x<=1200000000000):0<=n*x/\n*x<=4915200000000000:=by
 have e1:n*x<=4096*x:=zN h2 h3;have e2:0<=n*x:=zF h1 h3;omega
def kf(w c:Int):(if c<w then c else w)=min w c:=by omega
def apd(w c:Int):(if w<c then w else c)=min w c:=by omega
def Qw(a b c:Int):(if min a c<min b c then min b c else min a c)=min (max a b) c:=by omega
def adq(a b c:Int):(if min b c<min a c then min a c else min b c)=min (max a b) c:=by omega
section
variable {C x y m k n a:Int} (h0:0<=C) (h1:C<=1099511627776) (hx:0<=x)
include h0 h1 hx
theorem Qo(hy:0<=y)(hy2:y<=67108864):min (i64.wrap (min x C+y)) C=min (x+y) C:=by
 rw[aG];omega
theorem VM(hm:0<=m)(hk:0<=k)(hk2:k<=67108864):min (i64.wrap (min x C+i64.wrap (k+min m C))) C=min (x+(k+m)) C:=by
 have:i64.wrap (k+min m C)=k+min m C:=aG;rw[this,aG];omega
theorem alz(hm:0<=m):min (i64.wrap (min x C+min m C)) C=min (x+m) C:=by
 rw[aG];omega
theorem aon{z:Int}(hz:0<=z)(hy:0<=y)(hy2:y<=4915200000000001)(h:min y C=min z C):min (i64.wrap (min x C+y)) C=min (x+z) C:=by
 rw[aG];omega
omit hx in
theorem aak(hn:0<=n)(hn2:n<=4096)(ha:0<=a)(hk:0<=k)(hk2:k<=67108864):i64.wrap (n*i64.wrap (k+min a C))=n*(k+min a C)/\0<=n*(k+min a C)/\n*(k+min a C)<=4915200000000000/\0<=n*(k+a)/\min (n*(k+min a C)) C=min (n*(k+a)) C:=by
 have e1:i64.wrap (k+min a C)=k+min a C:=aG;have e2:=acz (x:=k+min a C) hn hn2 (by omega) (by omega);rw[e1];exact⟨aG,e2.1,e2.2,zF hn (by omega),agD hn hk ha h0⟩
theorem auI(hn:0<=n)(hn2:n<=4096)(ha:0<=a)(hk:0<=k)(hk2:k<=67108864):min (i64.wrap (min x C+i64.wrap (n*i64.wrap (k+min a C)))) C=min (x+n*(k+a)) C:=by
 obtain⟨q1,q2,q3,q4,q5⟩:=aak h0 h1 hn hn2 ha hk hk2;rw[q1];exact aon h0 h1 hx q4 q2 (by omega) q5
theorem alC(hn:0<=n)(hn2:n<=4096)(ha:0<=a):min (i64.wrap (min x C+i64.wrap (1+i64.wrap (n*i64.wrap (1+min a C))))) C=min (x+(1+n*(1+a))) C:=by
 obtain⟨q1,q2,q3,q4,q5⟩:=aak (k:=1) h0 h1 hn hn2 ha (by omega) (by omega);rw[q1];generalize n*(1+min a C)=y at*;generalize n*(1+a)=z at*;rw[show i64.wrap (1+y)=1+y from aG];exact aon h0 h1 hx (by omega) (by omega) (by omega) (by omega)
theorem amw(hn:0<=n)(hn2:n<=4096)(ha:0<=a):min (i64.wrap (min x C+i64.wrap (n*min a C))) C=min (x+n*a) C:=by
 obtain⟨q1,q2,q3,q4,q5⟩:=aak (k:=0) h0 h1 hn hn2 ha (by omega) (by omega);rw[Int.zero_add]at q2 q3 q4 q5;rw[Int.zero_add]at q5;rw[show i64.wrap (n*min a C)=n*min a C from aG];exact aon h0 h1 hx q4 q2 (by omega) q5
end
def ab3(M:aa ay->af rR)(l:aa ay)(hl:l.length<=1000000)(ho:v8 l)(hM:∀s∈l,M s.aL=V (M3 (rM Qg (eN s.aL)))/\M s.aR=V (M3 (rM Qg (eN s.aR)))):adV M l=V (M3 (rM Qg (eN l))):=by
 obtain⟨v,e1,hv⟩:=cZ (rnd:=HE M) l.length (λi (b:qx)=>⟨l,(l.length:Int),(i:Int),⟨0,0,0⟩,b⟩) (λi b=>b=M3 (rM Qg (eN (l.take i)))) (λi bb hi hb=>by
  have hw:=fG hi hl;obtain⟨k1,k2⟩:=hM _ (bh hi);obtain⟨⟨c1,c2⟩,hN,_,_,o1,o2⟩:=nE ho _ (bh hi);obtain⟨x1,x2,x3⟩:=rB (DE i ho);obtain⟨a1,a2,a3⟩:=rB o1;obtain⟨b1,b2,b3⟩:=rB o2;refine⟨M3 (rM Qg (eN (l.take (i+1)))),?_,rfl⟩;have hi1:(i:Int)<(l.length:Int):=by omega
  have hi0:(0:Int)<=(i:Int):=by omega
  rw[bI hi,Mf];generalize eN (l.take i)=x at*;generalize eN l[i]!.aL=a at*;generalize eN l[i]!.aR=b at*;obtain⟨X1,X2,X3⟩:=x;obtain⟨A1,A2,A3⟩:=a;obtain⟨B1,B2,B3⟩:=b;have hb:bb=⟨min X1 1099511627776,min X2 1099511627776,min X3 1099511627776⟩:=hb;have k1:M l[i]!.aL=V ⟨min A1 1099511627776,min A2 1099511627776,min A3 1099511627776⟩:=k1;have k2:M l[i]!.aR=V ⟨min B1 1099511627776,min B2 1099511627776,min B3 1099511627776⟩:=k2;subst hb;have z0:(0:Int)<=1099511627776:=by decide
  have z1:(1099511627776:Int)<=1099511627776:=by decide
  dsimp only at x1 x2 x3 a1 a2 a3 b1 b2 b3;unfold HE;dsimp only;simp only[ze,hi1,hi0,cR,bD,dA,cF,k1,k2,hw];by_cases h1:l[i]!.b9=1
  ·have e:F5 l[i]! (A1,A2,A3) (B1,B2,B3)=(1,1,l[i]!.bq):=by unfold F5;rw[bG h1]
   rw[bW h1,bD,e,kf,kf,kf,Qo z0 z1 x1 (by omega) (by omega),Qo z0 z1 x2 (by omega) (by omega),Qo z0 z1 x3 c1 c2];rfl
  ·rw[bX h1,bA];by_cases h3:l[i]!.b9=3
   ·have e:F5 l[i]! (A1,A2,A3) (B1,B2,B3)=(1+max A1 B1,max A2 B2,l[i]!.bq+max A3 B3):=by unfold F5;rw[bP h1,bG h3]
    rw[bW h3,bD,e,Qw,Qw,Qw,kf,kf,kf,VM z0 z1 x1 (by omega) (by omega) (by omega),alz z0 z1 x2 (by omega),VM z0 z1 x3 (by omega) c1 c2];rfl
   ·rw[bX h3,bA];by_cases h4:l[i]!.b9=4
    ·obtain⟨n1,n2⟩:=hN h4;have e:F5 l[i]! (A1,A2,A3) (B1,B2,B3)=(1+l[i]!.fN*(1+A1),l[i]!.fN*A2,l[i]!.fN*(l[i]!.bq+A3)):=by unfold F5;rw[bP h1,bP h3,bG h4]
     rw[bW h4,bD,e,kf,kf,kf,alC z0 z1 x1 n1 n2 a1,amw z0 z1 x2 n1 n2 a2,auI z0 z1 x3 n1 n2 a3 c1 c2];rfl
    ·have e:F5 l[i]! (A1,A2,A3) (B1,B2,B3)=(1,0,l[i]!.bq):=by unfold F5;rw[bP h1,bP h3,bP h4]
     rw[bX h4,bA,e,kf,kf,kf,Qo z0 z1 x1 (by omega) (by omega),Qo z0 z1 x2 (by omega) (by omega),Qo z0 z1 x3 c1 c2];rfl) (λb _=>by unfold HE;simp) (b:=⟨0,0,0⟩) (by rw[xR,show eN []=(0,0,0)by rw[eN]];rfl)
 have e1':It M ⟨l,(l.length:Int),0,⟨0,0,0⟩,⟨0,0,0⟩⟩=V ⟨l,(l.length:Int),(l.length:Int),⟨0,0,0⟩,v⟩:=e1;unfold adV;rw[e1'];rw[zD]at hv;rw[hv];simp
def II:∀(n:Nat) (l:aa ay),zg l<n->fI l<=1000->v8 l->O7 n l=V (M3 (rM Qg (eN l)))
 |0,_,h,_,_=>by omega
 |n+1,l,h,h2,ho=>ab3 (O7 n) l (by have:=kC l;omega) ho (λs hs=>⟨II n _ (by have:=bt hs;omega) (by have:=gm hs;omega) (nE ho s hs).2.2.2.2.1,II n _ (by have:=bt hs;omega) (by have:=gm hs;omega) (nE ho s hs).2.2.2.2.2⟩)
def ajE(l:aa ay)(h:fI l<=1000)(ho:v8 l):WL l=V (M3 (rM Qg (eN l))):=eT (zg l+1) λn hn=>II n l (by omega) h ho
def aoj(M:aa ay->af NJ)(l:aa ay)(hl:l.length<=1000000)(ho:v8 l)(hM:∀s∈l,M s.aL=V (rM JK (eN s.aL))/\M s.aR=V (rM JK (eN s.aR))):s90 M l=V (rM JK (eN l)):=by
 obtain⟨v,e1,hv⟩:=cZ (rnd:=Rz M) l.length (λi (b:Int×Int×Int)=>⟨l,b.1,b.2.1,b.2.2,(i:Int)⟩) (λi b=>b=rM JK (eN (l.take i))) (λi bb hi hb=>by
  have hw:=fG hi hl;obtain⟨k1,k2⟩:=hM _ (bh hi);obtain⟨⟨c1,c2⟩,hN,hT,hE,o1,o2⟩:=nE ho _ (bh hi);obtain⟨x1,x2,x3⟩:=rB (DE i ho);obtain⟨a1,a2,a3⟩:=rB o1;obtain⟨b1,b2,b3⟩:=rB o2;have zT:l[i]!.b9≠3->l[i]!.b9≠4->eN l[i]!.aL=(0,0,0):=λh3 h4=>by rw[hT h3 h4,eN]
  have zE:l[i]!.b9≠3->eN l[i]!.aR=(0,0,0):=λh3=>by rw[hE h3,eN]
  refine⟨rM JK (eN (l.take (i+1))),?_,rfl⟩;have hi1:(i:Int)<(l.length:Int):=by omega
  have hi0:(0:Int)<=(i:Int):=by omega
  rw[bI hi,Mf];generalize eN (l.take i)=x at*;generalize eN l[i]!.aL=a at*;generalize eN l[i]!.aR=b at*;obtain⟨X1,X2,X3⟩:=x;obtain⟨A1,A2,A3⟩:=a;obtain⟨B1,B2,B3⟩:=b;have hb:bb=(min X1 4097,min X2 9,min X3 67108865):=hb;have k1:M l[i]!.aL=V (min A1 4097,min A2 9,min A3 67108865):=k1;have k2:M l[i]!.aR=V (min B1 4097,min B2 9,min B3 67108865):=k2;subst hb;have z0:(0:Int)<=4097:=by decide
  have z1:(4097:Int)<=1099511627776:=by decide
  have y0:(0:Int)<=9:=by decide
  have y1:(9:Int)<=1099511627776:=by decide
  have u0:(0:Int)<=67108865:=by decide
  have u1:(67108865:Int)<=1099511627776:=by decide
  dsimp only at x1 x2 x3 a1 a2 a3 b1 b2 b3;unfold Rz;dsimp only;simp only[ze,hi1,hi0,cR,bD,dA,cF,k1,k2,hw,qN,nK,apd,adq];by_cases h4:l[i]!.b9=4
  ·obtain⟨n1,n2⟩:=hN h4;have h1:¬l[i]!.b9=1:=by omega
   have h3:¬l[i]!.b9=3:=by omega
   have e:F5 l[i]! (A1,A2,A3) (B1,B2,B3)=(1+l[i]!.fN*(1+A1),l[i]!.fN*A2,l[i]!.fN*(l[i]!.bq+A3)):=by unfold F5;rw[bP h1,bP h3,bG h4]
   rw[bW h4,bX h1,bD,bA,e,alC z0 z1 x1 n1 n2 a1,amw y0 y1 x2 n1 n2 a2,auI u0 u1 x3 n1 n2 a3 c1 c2];rfl
  ·rw[bX h4,bA];by_cases h1:l[i]!.b9=1
   ·have h3:¬l[i]!.b9=3:=by omega
    have ea:=zT h3 h4;have eb:=zE h3;cases ea;cases eb;have e:F5 l[i]! (0,0,0) (0,0,0)=(1,1,l[i]!.bq):=by unfold F5;rw[bG h1]
    rw[bW h1,bD,e,VM z0 z1 x1 (by omega) (by omega) (by omega),Qo y0 y1 x2 (by omega) (by omega),VM u0 u1 x3 (by omega) c1 c2];simp only[rM,JK,L9,Int.max_self,Int.add_zero]
   ·rw[bX h1,bA,VM z0 z1 x1 (by omega) (by omega) (by omega),alz y0 y1 x2 (by omega),VM u0 u1 x3 (by omega) c1 c2];by_cases h3:l[i]!.b9=3
    ·have e:F5 l[i]! (A1,A2,A3) (B1,B2,B3)=(1+max A1 B1,max A2 B2,l[i]!.bq+max A3 B3):=by unfold F5;rw[bP h1,bG h3]
     rw[e];rfl
    ·have ea:=zT h3 h4;have eb:=zE h3;cases ea;cases eb;have e:F5 l[i]! (0,0,0) (0,0,0)=(1,0,l[i]!.bq):=by unfold F5;rw[bP h1,bP h3,bP h4]
     rw[e];simp only[rM,JK,L9,Int.max_self,Int.add_zero]) (λb _=>by unfold Rz;simp) (b:=(0,0,0)) (by rw[xR,show eN []=(0,0,0)by rw[eN]];rfl)
 have e1':TO M ⟨l,0,0,0,0⟩=V ⟨l,v.1,v.2.1,v.2.2,(l.length:Int)⟩:=e1;unfold s90;rw[e1'];rw[zD]at hv;rw[hv];simp
def QK:∀(n:Nat) (l:aa ay),zg l<n->fI l<=1000->v8 l->m90 n l=V (rM JK (eN l))
 |0,_,h,_,_=>by omega
 |n+1,l,h,h2,ho=>aoj (m90 n) l (by have:=kC l;omega) ho (λs hs=>⟨QK n _ (by have:=bt hs;omega) (by have:=gm hs;omega) (nE ho s hs).2.2.2.2.1,QK n _ (by have:=bt hs;omega) (by have:=gm hs;omega) (nE ho s hs).2.2.2.2.2⟩)
def Zy(l:aa ay)(h:fI l<=1000)(ho:v8 l):r90 l=V (rM JK (eN l)):=eT (zg l+1) λn hn=>QK n l (by omega) h ho
def TC(f:aN)(h:fI f.bH+jr (f.ak.map (·.az))<=900)(hh:f.ak.length<=1000000)(hvl:f.aj.length<=1000000):Zb f=V (oD f):=by
 obtain⟨r,q,e1,e2,e3⟩:=aiM f h hh;unfold Zb oD;rw[e1];dsimp only;rw[e2];dsimp only;rw[bX (show ¬((f.ak.length:Int)<(f.ak.length:Int))by omega),bA,uu,e3];unfold qz;generalize (f.ak.all λh=>J (dT h.az<=12))=x;generalize J (jD f.bH<=12)=y;generalize fD f.bH=z;by_cases h1:64<(f.aj.length:Int)
 ·simp[h1,show ¬f.aj.length<=64 by omega]
 by_cases h2:8<(f.ak.length:Int)
 ·simp[h1,h2,show ¬f.ak.length<=8 by omega]
 rw[bX h1,bX h2,bW (show f.aj.length<=64 by omega),bW (show f.ak.length<=8 by omega)];dsimp only[bA,wB];simp only[wB];cases hx:(x&&y&& !z)with
 |false=>rfl
 |true=>
  rw[acI f.aj hvl];dsimp only[Bool.not_true,bA];rw[bP (by decide)];by_cases hvc:jq f.aj=0
  case neg=>simp[hvc]
  have hv:dc f.aj:=by
   apply mF;unfold jq at hvc;by_cases h0:cq (k8 f.aj) f.aj 0=0
   ·exact h0
   ·rw[bG h0]at hvc;exact dF hvc h0
  rw[bW hvc,bD,bA,bP (by simpa using hvc),aiE f hv hh];dsimp only;by_cases hhc:cq (kg f) f.ak 0=0
  case neg=>simp[hhc]
  rw[bW hhc,bD,bA,bP (by simpa using hhc),ac6 f hv f.bH O (by omega)];dsimp only;by_cases hsc:cg f O f.bH=0
  case neg=>simp[hsc]
  have ho:v8 f.bH:=Ao f _ f.bH O (zJ _) hsc;rw[bW hsc,bD,bA,bP (by simpa using hsc)];have e:=ajE f.bH (by omega) ho;unfold Uu;generalize eN f.bH=u at e ⊢;obtain⟨a,b,c⟩:=u;have e:WL f.bH=V ⟨min a 1099511627776,min b 1099511627776,min c 1099511627776⟩:=e;rw[e];dsimp only;by_cases a1:4096<a
  ·simp[a1,show 4096<min a 1099511627776 by omega]
  ·by_cases b1:8<b
   ·simp[a1,b1,show ¬4096<min a 1099511627776 by omega,show 8<min b 1099511627776 by omega]
   ·by_cases d1:67108864<c
    ·simp[a1,b1,d1,show ¬4096<min a 1099511627776 by omega,show ¬8<min b 1099511627776 by omega,show 67108864<min c 1099511627776 by omega]
    ·simp[a1,b1,d1,show ¬4096<min a 1099511627776 by omega,show ¬8<min b 1099511627776 by omega,show ¬67108864<min c 1099511627776 by omega]
def XJ(f:aN)(h:fI f.bH+jr (f.ak.map (·.az))<=900)(hh:f.ak.length<=1000000)(hvl:f.aj.length<=1000000):m78 f=V (oD f):=by
 unfold m78 oD;rw[aeo f h hh];dsimp only;cases hx:qz f with
 |false=>rfl
 |true=>
  rw[aiL f.aj hvl];dsimp only[bD,bA];rw[bP (by decide)];by_cases hvc:jq f.aj=0
  case neg=>simp[hvc]
  have hv:dc f.aj:=by
   apply mF;unfold jq at hvc;by_cases h0:cq (k8 f.aj) f.aj 0=0
   ·exact h0
   ·rw[bG h0]at hvc;exact dF hvc h0
  obtain⟨i,e1,hc⟩:=Z3 f hv hh;rw[bW hvc,bD,bA,bP (by simpa using hvc),e1];dsimp only;rcases hc with ⟨rfl,hc⟩|⟨hi,h0,hc⟩
  ·rw[bP (show ¬(cq (kg f) f.ak 0≠0)by rw[hc];simp),bX (show ¬((f.ak.length:Int)<(f.ak.length:Int))by omega),bA,acM f hv f.bH O (by omega)];dsimp only;by_cases hsc:cg f O f.bH=0
   case neg=>simp[hsc]
   have ho:v8 f.bH:=Ao f _ f.bH O (zJ _) hsc;rw[bW hsc,bD,bA,bP (show ¬(cg f O f.bH≠0)by rw[hsc];simp)];have e:=Zy f.bH (by omega) ho;unfold Uu;generalize eN f.bH=u at e ⊢;obtain⟨a,b,c⟩:=u;have e:r90 f.bH=V (min a 4097,min b 9,min c 67108865):=e;rw[e];dsimp only;by_cases a1:4096<a
   ·simp[a1,show 4096<min a 4097 by omega]
   ·by_cases b1:8<b
    ·simp[a1,b1,show ¬4096<min a 4097 by omega,show 8<min b 9 by omega]
    ·by_cases d1:67108864<c
     ·simp[a1,b1,d1,show ¬4096<min a 4097 by omega,show ¬8<min b 9 by omega,show 67108864<min c 67108865 by omega]
     ·simp[a1,b1,d1,show ¬4096<min a 4097 by omega,show ¬8<min b 9 by omega,show ¬67108864<min c 67108865 by omega]
  ·obtain⟨j,h2,h3⟩:=Lr f hh i (by omega) f.ak[i]!;rw[bG (show cq (kg f) f.ak 0≠0 by rw[hc];exact h0),hc];have hi1:(i:Int)<(f.ak.length:Int):=by omega
   have hi0:(0:Int)<=(i:Int):=by omega
   revert h0;unfold kg;simp only[ze,au.eta,dx.eta,BN,BV,h2,Ck f.aj hv,hi0,hi1,dA,cF,cR,bD];generalize iO f.ak[i]!.fName=B;generalize ((f.ak.take i).any λw=>w.fName.toList==f.ak[i]!.fName.toList)=A at h3;generalize gP f.ak[i]!.ag f.ak[i]!.ah=C;generalize eV f.aj O f.ak[i]!.az=T;rcases h3 with ⟨rfl,rfl⟩|⟨hj,h4,rfl⟩
   ·cases B<;>cases C<;>by_cases hT:T=0<;>simp[hT]
   ·have hj1:(j:Int)<(i:Int):=by omega
    have hj2:(j:Int)<(f.ak.length:Int):=by omega
    have hj0:(0:Int)<=(j:Int):=by omega
    simp only[hj0,hj1,hj2,h4,dA,cF,cR,bD];cases B<;>simp
def kZ{f:aN}(h:oD f=0):dc f.aj:=by
 unfold oD at h;by_cases h1:qz f=G
 ·rw[bG h1]at h;exact dF h (by decide)
 rw[bP h1]at h;by_cases hvc:jq f.aj=0
 ·apply mF;unfold jq at hvc;by_cases h0:cq (k8 f.aj) f.aj 0=0
  ·exact h0
  ·rw[bG h0]at hvc;exact dF hvc h0
 ·rw[bG hvc]at h;exact dF h hvc
structure CS where
 (vals outs:List Int)
 time:Int
def jG{f:aN}{top:Bool}{x:ay}{l:aa ay}(h:cg f top (x::l)=0):nh f (top&&l.isEmpty) x=0/\cg f G x.aL=0/\cg f G x.aR=0/\cg f top l=0:=by
 rw[cg]at h;split at h
 ·exact dF h ‹_›
 rename_i h1;split at h
 ·exact dF h ‹_›
 rename_i h2;split at h
 ·exact dF h ‹_›
 rename_i h3;exact⟨by simpa using h1,by simpa using h2,by simpa using h3,h⟩
structure aco (f:aN) (last:Bool) (x:ay):Prop where
 do_:0<=x.b9/\x.b9<=6
 cost:0<=x.bq/\x.bq<=67108864
 n4:x.b9=4->0<=x.fN/\x.fN<=4096
 var:x.b9=0\/x.b9=5->0<=x.dD/\x.dD<f.aj.length
 n5:x.b9=5->0<=x.fN/\x.fN<f.ak.length
 alO:x.b9=6->last=O/\(1<=x.aJ.length/\x.aJ.length<=32)/\(0:Int)<=x.aJ[0]!/\fQ x.aJ=O/\x.aJ[x.aJ.length-1]!<=67108864
 term:eV f.aj G x.az=0
def tJ{f:aN}{last:Bool}{x:ay}(h:nh f last x=0):aco f last x:=by
 unfold nh at h;by_cases h1:dG f x last=G
 ·rw[bG h1]at h;cases h
 rw[bP h1]at h;by_cases h2:sC x=G
 ·rw[bG h2]at h;cases h
 rw[bP h2]at h;have h1:dG f x last=O:=by simpa using h1
 have h2:sC x=O:=by simpa using h2
 unfold sC at h2;simp only[zi,decide_eq_true_eq]at h2;obtain⟨⟨g1,g2⟩,g3⟩:=h2;unfold dG sL at h1;dsimp only at h1;have hd:0<=x.b9/\x.b9<=6:=by
  by_cases a0:x.b9=0
  ·omega
  by_cases a1:x.b9=1
  ·omega
  by_cases a2:x.b9=2
  ·omega
  by_cases a3:x.b9=3
  ·omega
  by_cases a4:x.b9=4
  ·omega
  by_cases a5:x.b9=5
  ·omega
  by_cases a6:x.b9=6
  ·omega
  ·simp[a0,a1,a2,a3,a4,a5,a6]at h1
 refine⟨hd,⟨g1.1,?_⟩,λq=> ?_,λq=> ?_,λq=> ?_,λq=> ?_,h⟩
 ·have:=g1.2;split at this<;>omega
 ·rw[bG q]at g2;simpa using g2
 ·rcases q with q|q
  ·simp[q]at h1;omega
  ·simp[q]at h1;omega
 ·simp[q]at h1;omega
 ·rw[bG q]at g3;simp only[q,Int.reduceEq,cF,gA,zi,decide_eq_true_eq]at h1 g3;exact⟨h1.1.1.1.1.2,h1.2.1.1,h1.2.1.2,h1.2.2,g3⟩
def SC(x:ay)(l:aa ay):eN (x::l)=
  (if x.b9=1 then(1+(eN l).1,1+(eN l).2.1,x.bq+(eN l).2.2)
   else if x.b9=3 then(1+max (eN x.aL).1 (eN x.aR).1+(eN l).1,max (eN x.aL).2.1 (eN x.aR).2.1+(eN l).2.1,x.bq+max (eN x.aL).2.2 (eN x.aR).2.2+(eN l).2.2)
   else if x.b9=4 then(1+x.fN*(1+(eN x.aL).1)+(eN l).1,x.fN*(eN x.aL).2.1+(eN l).2.1,x.fN*(x.bq+(eN x.aL).2.2)+(eN l).2.2)
   else(1+(eN l).1,(eN l).2.1,x.bq+(eN l).2.2)):=by rw[eN]
def jQ(f:aN):∀(n:Nat) (l:aa ay) (top:Bool),zg l<n->cg f top l=0->0<=(eN l).2.1/\0<=(eN l).2.2
 |0,_,_,h,_=>by omega
 |n+1,[],_,_,_=>by rw[eN];exact⟨zq _,zq _⟩
 |n+1,x::l,top,h,hc=>by
  obtain⟨h1,h2,h3,h4⟩:=jG hc;have ho:=tJ h1;have hs:=bt (zm (a:=x) (l:=l));have ht:=dV x l;have i1:=jQ f n x.aL G (by omega) h2;have i2:=jQ f n x.aR G (by omega) h3;have i3:=jQ f n l top (by omega) h4;have hcost:=ho.cost;rw[SC];by_cases a1:x.b9=1
  ·rw[bG a1];dsimp only;omega
  by_cases a3:x.b9=3
  ·rw[bP a1,bG a3];dsimp only;omega
  by_cases a4:x.b9=4
  ·rw[bP a1,bP a3,bG a4];have hn:=ho.n4 a4;have p1:=zF hn.1 i1.1;have p2:=zF hn.1 (show 0<=x.bq+(eN x.aL).2.2 by omega);dsimp only;omega
  ·rw[bP a1,bP a3,bP a4];dsimp only;omega
structure Aft (vars:List aX) (s r:CS) (o t:Int):Prop where
 vals:VIn vars r.vals
 outs:(s.outs.length:Int)<=r.outs.length/\(r.outs.length:Int)<=s.outs.length+o
 time:s.time<=r.time/\r.time<=s.time+t
def uO(x:ay):Int×Int:=if x.b9=1 then(1,x.bq)else if x.b9=3 then(max (eN x.aL).2.1 (eN x.aR).2.1,x.bq+max (eN x.aL).2.2 (eN x.aR).2.2)
 else if x.b9=4 then(x.fN*(eN x.aL).2.1,x.fN*(x.bq+(eN x.aL).2.2))else(0,x.bq)
def afj(x:ay)(l:aa ay):(eN (x::l)).2.1=(uO x).1+(eN l).2.1/\(eN (x::l)).2.2=(uO x).2+(eN l).2.2:=by
 rw[SC];unfold uO;split
 ·exact⟨rfl,rfl⟩
 split
 ·exact⟨rfl,rfl⟩
 split
 ·exact⟨rfl,rfl⟩
 ·refine⟨?_,rfl⟩;dsimp only;omega
def RP{l:aa Int}(h:fQ l=O):∀{i j:Nat},i<j->j<l.length->l[i]! <l[j]! :=by
 intro i j hij hj;induction j with
 |zero=>omega
 |succ j ih=>
  have h1:=(jH l).1 h j hj;by_cases hi:i=j
  ·subst hi;exact h1
  ·have:=ih (by omega) (by omega);omega
structure Bud (f:aN) (top:Bool) (l:List ay) (s:CS):Prop where
 hc:cg f top l=0
 vals:VIn f.aj s.vals
 t0:0<=s.time
 t:s.time+(eN l).2.2<=134217728
 o:(s.outs.length:Int)+(eN l).2.1<=8
structure aF3 (f:aN) (x:ay) (n:Nat) (s:CS):Prop where
 hc:cg f G x.aL=0
 term:eV f.aj G x.az=0
 cost:0<=x.bq
 vals:VIn f.aj s.vals
 t0:0<=s.time
 t:s.time+n*(x.bq+(eN x.aL).2.2)<=134217728
 o:(s.outs.length:Int)+n*(eN x.aL).2.1<=8
def drop_cons{α:Type}[Inhabited α]{l:aa α}{i:Nat}(h:i<l.length):l.drop i=l[i]! ::l.drop (i+1):=by rw[getElem!_pos l i h];exact xu h
def Ru{x:ay}{l:aa ay}(hx:x∈l):fI x.aL<=fI l/\fI x.aR<=fI l:=by have:=B7 hx;have:=oF x;omega
def Ei{f:aN}{x:ay}:∀{top:Bool} {l:aa ay},cg f top l=0->x∈l->∃last,aco f last x
 |_,[],_,h=>by cases h
 |_,y::l,hc,h=>by
  obtain⟨h1,h2,h3,h4⟩:=jG hc;rcases zB.1 h with rfl|h
  ·exact⟨_,tJ h1⟩
  ·exact Ei h4 h
def ni(n:Nat)(g:Nat->aH):aa aH:=(zM n).map g
def iW(n:Nat)(g:Nat->aH):(ni n g).length=n:=by simp[ni]
def nI{n:Nat}{g:Nat->aH}{i:Nat}(h:i<n):(ni n g)[i]! =g i:=by
 rw[getElem!_pos _ i (by rw[iW];exact h)];simp[ni]
def MG(n:Nat)(g:Nat->aH):ni (n+1) g=ni n g++[g n]:=by simp[ni,List.range_succ]
def hU{n:Nat}{g g':Nat->aH}(h:∀i,i<n->g i=g' i):ni n g=ni n g':=
 zX λi hi=>h i (List.mem_range.1 hi)
def IA{n:Nat}{g:Nat->aH}{i:Nat}(x:aH):(ni n g).set i x=ni n (λj=>if j=i then x else g j):=by
 apply wC
 ·simp[ni]
 ·intro j h1 h2;simp only[ni,List.getElem_set,yW,List.getElem_range];by_cases c:i=j
  ·subst c;simp
  ·rw[bP c,bP (λe=>c e.symm)]
def aaI(l:aa aH):ni l.length (λi=>l[i]!)=l:=by
 apply wC
 ·simp[ni]
 ·intro j h1 h2;simp only[ni,yW,List.getElem_range];exact getElem!_pos l j h2
def OH{n:Nat}{g:Nat->aH}{l:aa aH}(h1:l.length=n)(h2:∀i,i<n->g i=l[i]!):ni n g=l:=by
 subst h1;rw[hU h2,aaI]
def tr(s:ax):aK:=⟨s.aj,s.aB,s.aC,s.aI⟩
structure gE (n m:Nat) (s:ax):Prop where
 len:s.aj.length=n
 vars:∀i,i<n->NN s.aj[i]!
 count:NN s.aB
 sl:s.aC.length<=m
 slots:∀i,i<s.aC.length->NN s.aC[i]!
 time:NN s.aI
def gE.weak{n m m':Nat}{s:ax}(h:gE n m s)(k:m<=m'):gE n m' s:=⟨h.len,h.vars,h.count,zK h.sl k,h.slots,h.time⟩
def kF(s:ax)(c:Int):ax:=⟨s.aj,s.aB,s.aC,F4 8 s.aI (fJ c)⟩
def Yn(f:aN)(s:ax)(v:Int)(n:aH):ax:=⟨s.aj.set v.toNat (iT n f.aj[v.toNat]!.ag f.aj[v.toNat]!.ah),s.aB,s.aC,s.aI⟩
def aal(s:ax)(v:aH):ax:=
 ⟨s.aj,F4 8 s.aB (fJ 1),ni s.aC.length (λk=>if cV s.aB k=O then cS s.aC[k]! v else s.aC[k]!)++[v],s.aI⟩
def slJ(a b:aa aH)(i:Nat):aH:=if a.length<=i then b[i]! else if b.length<=i then a[i]! else cS a[i]! b[i]!
def pK(a b:ax):ax:=
 ⟨ni a.aj.length (λi=>cS a.aj[i]! b.aj[i]!),cS a.aB b.aB,ni (max a.aC.length b.aC.length) (slJ a.aC b.aC),cS a.aI b.aI⟩
def mE{c:Int}(h:cz c):NN (fJ c):=NN.one h.1 h.2
def tR{n m:Nat}{s:ax}(h:gE n m s){c:Int}(hc:cz c):gE n m (kF s c):=
 ⟨h.len,h.vars,h.count,h.sl,h.slots,let ⟨_,_,_,k⟩:=ua 8 h.time (mE hc);k⟩
def Tl{f:aN}{n m:Nat}{s:ax}(h:gE n m s){v:Int}{x:aH}(hx:NN x):gE n m (Yn f s v x):=by
 refine⟨?_,λi hi=> ?_,h.count,h.sl,h.slots,h.time⟩
 ·show (s.aj.set _ _).length=n;rw[yx];exact h.len
 ·show NN (s.aj.set _ _)[i]!;have hl:=h.len;rw[getElem!_pos _ i (by rw[yx];omega),List.getElem_set];split
  ·exact let ⟨_,_,_,k,_⟩:=kN hx f.aj[v.toNat]!.ag f.aj[v.toNat]!.ah;k
  ·have:=h.vars i hi;rw[getElem!_pos _ i (by omega)]at this;exact this
def adb{n m:Nat}{s:ax}(h:gE n m s){x:aH}(hx:NN x):gE n (m+1) (aal s x):=by
 have hs:=h.sl;have hl:(aal s x).aC.length=s.aC.length+1:=by simp[aal,iW]
 refine⟨h.len,h.vars,let ⟨_,_,_,k⟩:=ua 8 h.count (mE (c:=1) ⟨by decide,by decide⟩);k,by omega,λi hi=> ?_,h.time⟩;rw[hl]at hi;have hlt:=iW s.aC.length (λk=>if cV s.aB k=O then cS s.aC[k]! x else s.aC[k]!);show NN (ni s.aC.length (λk=>if cV s.aB k=O then cS s.aC[k]! x else s.aC[k]!)++[x])[i]!;by_cases c:i<s.aC.length
 ·have hg:=nI (g:=(λk=>if cV s.aB k=O then cS s.aC[k]! x else s.aC[k]!)) c;generalize ni s.aC.length (λk=>if cV s.aB k=O then cS s.aC[k]! x else s.aC[k]!)=T at*;rw[getElem!_pos _ i (by rw[zl];omega),List.getElem_append_left (by omega),<-getElem!_pos T i (by omega),hg];split
  ·exact jy (h.slots i c) hx
  ·exact h.slots i c
 ·generalize ni s.aC.length (λk=>if cV s.aB k=O then cS s.aC[k]! x else s.aC[k]!)=T at*;rw[getElem!_pos _ i (by rw[zl,yM];omega),List.getElem_append_right (by omega)];simpa using hx
def amQ{a b:aa aH}(ha:∀i,i<a.length->NN a[i]!)(hb:∀i,i<b.length->NN b[i]!){i:Nat}(hi:i<max a.length b.length):NN (slJ a b i):=by
 unfold slJ;split
 ·exact hb i (by omega)
 split
 ·exact ha i (by omega)
 ·exact jy (ha i (by omega)) (hb i (by omega))
def Et{n m:Nat}{s t:ax}(h:gE n m s)(k:gE n m t):gE n m (pK s t):=by
 have h1:=h.len;have h2:=h.sl;have k2:=k.sl;refine⟨by show (ni _ _).length=n;rw[iW];exact h1,λi hi=> ?_,jy h.count k.count,by show (ni _ _).length<=m;rw[iW];omega,λi hi=> ?_,jy h.time k.time⟩
 ·show NN (ni _ _)[i]!;rw[nI (by omega)];exact jy (h.vars i hi) (k.vars i hi)
 ·have hi:i<(ni (max s.aC.length t.aC.length) (slJ s.aC t.aC)).length:=hi;rw[iW]at hi;show NN (ni _ _)[i]!;rw[nI hi];exact amQ h.slots k.slots hi
def C8(i:aH)(ks:aa aH):Nat->aH
 |0=>cG
 |n+1=>if cV i n=O then cS (C8 i ks n) ks[n]! else C8 i ks n
def aaO(vars:aa aH)(t:au)(k:aa aH):aH:=
 if t.bC=0 then fJ t.fN else if t.bC=24 then vars[t.fN.toNat]! else if t.bC=6 then(vE 6 k[0]!).1 else if t.bC=7 then(vE 7 k[0]!).1
 else if t.bC=23 then(if cV k[0]! 0=G then k[1]! else if cI k[0]! =G then k[2]! else cS k[1]! k[2]!)
 else if t.bC=25 then C8 (iT k[0]! 0 ((k.length:Int)-2)) (k.drop 1) (k.drop 1).length else F4 t.bC k[0]! k[1]!
def dO(vars:aa aH)(t:au):aH:=aaO vars t (t.aq.attach.map λk=>dO vars k.1)
termination_by zg t
decreasing_by exact au.fm k.2
def ajv(vars:aa aH)(t:au):dO vars t=aaO vars t (t.aq.map (dO vars)):=by
 rw[dO];rw[show (t.aq.attach.map λk=>dO vars k.1)=t.aq.map (dO vars)from wz (f:=dO vars)]
def mapA{vars:aa aH}{t:au}{i:Nat}(h:i<t.aq.length):(t.aq.map (dO vars))[i]! =dO vars t.aq[i]! :=by
 rw[getElem!_pos _ i (by simpa using h),getElem!_pos _ i h,yW]
def Iu{i:aH}{ks:aa aH}(hk:∀j,j<ks.length->NN ks[j]!):∀n,n<=ks.length->NV (C8 i ks n)/\((∃j,j<n/\cV i (j:Nat)=O)->NN (C8 i ks n))
 |0,_=>⟨.inl rfl,λ⟨j,h,_⟩=>by omega⟩
 |n+1,hn=>by
  obtain⟨h1,h2⟩:=Iu (i:=i) hk n (by omega);rw[C8];by_cases c:cV i (n:Nat)=O
  ·rw[bG c];have hv:=eO h1 (.inr (hk n (by omega)));have:NN (cS (C8 i ks n) ks[n]!):=by
    rcases h1 with e|h
    ·rw[e,jd];exact hk n (by omega)
    ·exact jy h (hk n (by omega))
   exact⟨hv,λ_=>this⟩
  ·rw[bP c];refine⟨h1,λ⟨j,h,k⟩=>h2 ⟨j,?_,k⟩⟩;by_cases e:j=n
   ·subst e;exact dF k c
   ·omega
def Wh{a:aH}(ha:NN a){n:Nat}(h0:1<=n)(hn:n<=1000000):∃j:Nat,j<n/\cV (iT a 0 ((n:Int)-1)) (j:Nat)=O:=by
 obtain⟨_,_,_,hv,hr⟩:=kN ha 0 ((n:Int)-1);have hr:=hr ⟨by decide,by decide⟩ ⟨by omega,by omega⟩ (by omega);rcases hr with ⟨e,_⟩|hr
 ·exact dF e hv.ne
 ·obtain⟨x,_,h2⟩:=hr.lo;refine⟨(iT a 0 ((n:Int)-1)).ag.toNat,by omega,?_⟩;rw[show (((iT a 0 ((n:Int)-1)).ag.toNat:Nat):Int)=(iT a 0 ((n:Int)-1)).ag by omega];exact l8 ⟨zq _,hv.le,by rw[Int.sub_self];exact xB _⟩
def qY(x:Int):TZ x=fJ x:=rfl
def ZP{vars:aa aX}{t:au}(h:(gK vars t).isSome=O):∀k∈t.aq,(gK vars k).isSome=O:=λk hk=>by
 rw[uP]at h;cases ha:ku (t.aq.map (gK vars))with
 |none=>rw[ha]at h;cases h
 |some r=>
  have hr:=qX ha;have hm:gK vars k∈r.map V:=by rw[<-hr];exact List.mem_map_of_mem hk
  obtain⟨s,h1,h2⟩:=zL.1 hm;rw[<-h2];rfl
def ai0{vars:aa aX}{t:au}(h0:t.bC=0)(h:(gK vars t).isSome=O):cz t.fN:=by
 rw[uP]at h;cases ha:ku (t.aq.map (gK vars))with
 |none=>rw[ha]at h;cases h
 |some r=>
  rw[ha]at h;dsimp only at h;split at h
  ·rename_i hl;unfold uC iN at hl;simp only[h0,cF,zi,decide_eq_true_eq]at hl;unfold cz;omega
  ·cases h
def WI(M:au->ax->af pJ){vars:aa aH}{st:ax}{ks:aa au}(hl:ks.length<=1000000)(hK:∀j,j<ks.length->M ks[j]! st=V (dO vars ks[j]!,st)/\NN (dO vars ks[j]!)){H:aH}(hH:NN H)(z:aH):
  H9 M ⟨ks,(ks.length:Int),0,st,z,H,cG⟩=V ⟨ks,(ks.length:Int),(ks.length:Int),st,z,H,C8 H (ks.map (dO vars)) ks.length⟩:=by
 have hmap:∀j,j<ks.length->(ks.map (dO vars))[j]! =dO vars ks[j]! :=λj h=>by rw[getElem!_pos _ j (by simpa using h),getElem!_pos _ j h,yW]
 have hkn:∀j,j<(ks.map (dO vars)).length->NN (ks.map (dO vars))[j]! :=λj h=>by
  have h:j<ks.length:=by simpa using h
  rw[hmap j h];exact(hK j h).2
 obtain⟨v,e1,hv⟩:=cZ (rnd:=Jg M) ks.length (λi (_:Unit)=>⟨ks,(ks.length:Int),(i:Int),st,z,H,C8 H (ks.map (dO vars)) i⟩) (λi _=>True) (λi b hi _=>by
  have hw:=fG hi hl;obtain⟨k1,k2⟩:=hK i hi;have i1:(i:Int)<(ks.length:Int):=by omega
  have i2:(0:Int)<=(i:Int):=by omega
  refine⟨(),?_,trivial⟩;unfold Jg;by_cases hc:cV H (i:Nat)=O
  ·simp only[ze,i1,i2,cR,bD,dA,cF,pU (.inr hH),hc,au.eta,k1,ob (Iu hkn i (by simp;omega)).1 (.inr k2),hw,C8,hmap i hi]
  ·have hc:cV H (i:Nat)=G:=by simpa using hc
   simp only[ze,i1,i2,cR,bD,bA,dA,cF,pU (.inr hH),hc,hw,C8,yu,gA]) (λb _=>by unfold Jg;simp) (b:=()) trivial
 exact e1
def arc(M:au->ax->af pJ){vars:aa aX}{inp:Bool}{m:Nat}{st:ax}(hst:gE vars.length m st)(t:au)(hf:dH vars inp t=O)(hs:(gK vars t).isSome=O)
  (hM:∀k∈t.aq,M k st=V (dO st.aj k,st)/\NN (dO st.aj k)):afs M t st=V (dO st.aj t,st)/\NN (dO st.aj t):=by
 obtain⟨⟨g1,g2,g3⟩,h24⟩:=ab7 hf;have K:∀i,i<t.aq.length->M t.aq[i]! st=V (dO st.aj t.aq[i]!,st)/\NN (dO st.aj t.aq[i]!):=λi hi=>hM _ (bh hi);rw[ajv];unfold afs aaO;simp only[au.eta,zx];rcases Ym t.bC g1 with ⟨h,e⟩|⟨h,e⟩|⟨h,e⟩|⟨h,e⟩|⟨h,e⟩<;>rw[e]at g2 g3<;>dsimp only at g2 g3
 ·rcases h with h|h
  ·simp only[h,cR,bD,cF,qY];exact⟨trivial,mE (ai0 h hs)⟩
  ·obtain⟨q1,q2⟩:=h24 h;have hl:=hst.len;simp only[h,Int.reduceEq,eR,cR,bD,bA,cF,gA];rw[ig];exact⟨rfl,hst.vars _ (by omega)⟩
 ·obtain⟨k1,k2⟩:=K 0 (by omega);have m0:=mapA (vars:=st.aj) (show 0<t.aq.length by omega);have i1:(t.aq.length:Int)=1:=by omega
  rcases h with h|h
  ·simp only[h,Int.reduceEq,eR,cR,bD,bA,i1,cF,gA,k1,m0,dA,Tb (.inr k2),Int.reduceLT,Int.reduceLE,true_and];exact Gg _ k2
  ·simp only[h,Int.reduceEq,eR,cR,bD,bA,i1,cF,gA,k1,m0,dA,Tb (.inr k2),Int.reduceLT,Int.reduceLE,true_and];exact Gg _ k2
 ·obtain⟨k1,k2⟩:=K 0 (by omega);obtain⟨l1,l2⟩:=K 1 (by omega);have m0:=mapA (vars:=st.aj) (show 0<t.aq.length by omega);have m1:=mapA (vars:=st.aj) (show 1<t.aq.length by omega);have hlen:(t.aq.length:Int)=2:=by omega
  obtain⟨c,hb,_,hn⟩:=ua t.bC k2 l2;have n0:t.bC≠0:=by omega
  have n1:t.bC≠24:=by omega
  have n2:t.bC≠6:=by omega
  have n3:t.bC≠7:=by omega
  have n4:t.bC≠23:=by omega
  have n5:t.bC≠25:=by omega
  simp only[n0,n1,n2,n3,n4,n5,eR,bA,hlen,gA,k1,l1,hb,m0,m1,Int.reduceEq,Int.reduceLT,Int.reduceLE,dA,cF,true_and];exact hn
 ·obtain⟨k1,k2⟩:=K 0 (by omega);obtain⟨l1,l2⟩:=K 1 (by omega);obtain⟨p1,p2⟩:=K 2 (by omega);have m0:=mapA (vars:=st.aj) (show 0<t.aq.length by omega);have m1:=mapA (vars:=st.aj) (show 1<t.aq.length by omega);have m2:=mapA (vars:=st.aj) (show 2<t.aq.length by omega);have hlen:(t.aq.length:Int)=3:=by omega
  simp only[h,Int.reduceEq,eR,cR,bD,bA,hlen,cF,gA,k1,l1,p1,m0,m1,m2,Cp (.inr k2),ob (.inr l2) (.inr p2),Int.reduceLT,Int.reduceLE,dA];cases cV (dO st.aj t.aq[0]!) 0<;>cases cI (dO st.aj t.aq[0]!)
  ·exact⟨rfl,l2⟩
  ·exact⟨rfl,l2⟩
  ·exact⟨rfl,p2⟩
  ·exact⟨rfl,jy l2 p2⟩
 ·obtain⟨k1,k2⟩:=K 0 (by omega);have m0:=mapA (vars:=st.aj) (show 0<t.aq.length by omega);have w:i64.wrap ((t.aq.length:Int)-(2:Int))=(t.aq.length:Int)-(2:Int):=aG;obtain⟨c,hcl,_,hcn,_⟩:=kN k2 0 ((t.aq.length:Int)-(2:Int));obtain⟨j,hj1,hj2⟩:=Wh k2 (n:=t.aq.length-1) (by omega) (by omega);rw[show (((t.aq.length-1:Nat):Int)-1)=(t.aq.length:Int)-(2:Int)by omega]at hj2;simp only[h,Int.reduceEq,eR,cR,bD,bA,cF,gA,k1,m0,w];rw[ig,hcl];generalize iT (dO st.aj t.aq[0]!) 0 ((t.aq.length:Int)-(2:Int))=H at*;have hd:(t.aq.drop 1).length=t.aq.length-1:=yj ..;have e2:=WI M (vars:=st.aj) (st:=st) (ks:=t.aq.drop 1) (by omega) (λj hj=>hM _ (wh (bh hj))) (H:=H) hcn ⟨0,0,0⟩;dsimp only;rw[ig];rw[show aeE=cG from rfl,e2];dsimp only;rw[gd,bA,<-xJ,zx];refine⟨rfl,(Iu (λj hj=> ?_) _ (by simp)).2 ⟨j,by omega,hj2⟩⟩;have hj:j<(t.aq.drop 1).length:=by simpa using hj
  rw[getElem!_pos _ j (by simpa using hj),yW];exact(hM _ (wh (xM ..))).2
def NX{vars:aa aX}{inp:Bool}{m:Nat}{st:ax}(hst:gE vars.length m st):∀(n:Nat) (t:au),zg t<n->dH vars inp t=O->(gK vars t).isSome=O->Pf n t st=V (dO st.aj t,st)/\NN (dO st.aj t)
 |0,_,h,_,_=>by omega
 |n+1,t,h,hf,hs=>arc (Pf n) hst t hf hs (λk hk=>NX hst n k (by have:=au.fm hk;omega) (Fh hf hk) (ZP hs k hk))
def B4{vars:aa aX}{inp:Bool}{t:au}(hc:eV vars inp t=0):dH vars inp t=O/\(gK vars t).isSome=O:=by
 unfold eV at hc;cases hf:dH vars inp t with
 |false=>rw[hf]at hc;simp at hc
 |true=>
  rw[hf]at hc;cases hs:(gK vars t).isSome with
  |false=>rw[hs]at hc;simp at hc
  |true=>exact⟨rfl,rfl⟩
def lW{vars:aa aX}{inp:Bool}{m:Nat}{st:ax}(hst:gE vars.length m st)(t:au)(hc:eV vars inp t=0):NN (dO st.aj t):=
 (NX hst (zg t+1) t (by omega) (B4 hc).1 (B4 hc).2).2
abbrev E82:=aH
def d82:Td 0 E82:= .c [] [4] (.r 0 1 (ec 4 (qp 0 0) en) (sb 0 34 (lg 34) sn) (λz=>z.2.1) (λx=>(((),()),(x,()))))
def Pr(a0:ax)(a1:au):af E82:=
 match adl (au.mk a1.bC a1.fN a1.aq) a0 with|S=>S|V r1=>V (r1.fst)
def e82:=eL w9 82 G (lc (qg 128) (lc (qg 137) ln)) d82 (λg=>Pr g.1 g.2.1)
def IN:EO e82:=λh=>kL (an:= .no) func82 (afe aP) aF h
abbrev E40:=aa aH
def d40:Td 0 E40:= .c [] [2] (.t (cC.s 2 [] 34) (.c [] [2] (.r 0 1 (ec 2 (qo 0) en) (sr 0 34 sn) (λz=>z.2.1) (λx=>(((),()),(x,()))))))
def A40:=(lc (ql 34) ln)
def Wc(a0:aa aH):af E40:=if a0.length<=1073741824 then V a0 else S
def am7:cU w9 de 0 300 40 .no:=bB (l:=[]) func40 (aV (by kernel_rfl)) (by kernel_rfl) aF
def aDE(x:aH)(xs:aa aH):bM w9 de 300 .no 40 [.sl 34 (x::xs)] [] 0 d40.rd=if([]++(x::xs)).length<=1073741824 then V ([]++(x::xs))else S:=by kernel_rfl
def aC0(c:Nat):bM w9 de 300 .no 40 [.lit (.slice S 0 c)] [] 0 d40.rd=V []:=by kernel_rfl
def aBc(a:Addr)(c:Nat):bM w9 de 300 .no 40 [.lit (.slice (V a) 0 c)] [] 0 d40.rd=V []:=by kernel_rfl
def h40:HL w9 40 A40 d40 (λg=>Wc g.1):=λg r h=>by
 obtain⟨a0,_⟩:=g;have h:Wc a0=V r:=h;cases a0 with
 |cons x xs=>exact(jC (out:=λp=>gN w9 40 0 (d40.pat p)) (p:=r) aP am7 d40.ok (λp=>by kernel_rfl) (iw (by kernel_rfl)) (gX (by kernel_rfl)) ((aDE x xs).trans (by rw[yw];exact h))).2
 |nil=>
  cases h;exact JL (λc=>(jC (out:=λp=>gN w9 40 0 (d40.pat p)) (p:=[]) aP am7 d40.ok (λp=>by kernel_rfl) (iw (by kernel_rfl)) (gX (by kernel_rfl)) (aC0 c)).2) (λa c=>(jC (out:=λp=>gN w9 40 0 (d40.pat p)) (p:=[]) aP am7 d40.ok (λp=>by kernel_rfl) (iw (by kernel_rfl)) (gX (by kernel_rfl)) (aBc a c)).2)
def e40:=eL w9 40 G A40 d40 (λg=>Wc g.1)
def sK{F:bf}(h:aQ w9 F):aQ w9 (e40 F):=cT (sc:=jM) cv h40 ⟨_,func40,by kernel_rfl,by kernel_rfl⟩ (λ_=>by kernel_rfl) (λ_=>by kernel_rfl) h
abbrev ayN:=ax
def d235:Td 0 ayN:= .c [] [2] (.r 0 3 (ec 2 (qp 0 0) en) (sb 0 128 (lc (qo 1) (bk (bk (bk (lc (qo 2) (bk (bk (bk ln)))))))) (sr 1 34 (sr 2 34 sn))) (λz=>(ax.mk z.t.1 (aH.mk z.2.1.2.1 z.2.1.t.1 z.2.1.t.2.1) z.t.2.1 (aH.mk z.2.1.q.2.1 z.2.1.q.t.1 z.2.1.q.t.2.1))) (λx=>(((),()),(((),x.aB.ag,x.aB.ah,x.aB.ai,(),x.aI.ag,x.aI.ah,x.aI.ai,()),x.aj,x.aC,()))))
def FY(a0:ax):af ayN:=
 match Wc a0.aj with|S=>S|V r1=>match Wc a0.aC with|S=>S|V r2=>V (ax.mk r1 a0.aB r2 a0.aI)
def arS:=eL w9 235 G (lc (qg 128) ln) d235 (λg=>FY g.1)
def uV:EO arS:=λh=>kL (an:= .no) func235 (sK aP) aF h
structure Ah where
 t46:List aH
 (t47 t48:Int)
 (b0 b1:ax)
def PK:Td 0 Ah:= .c [] [4,5,46,47,48] (.r 0 4 (ec 4 (qp 0 0) (ec 5 (qp 1 0) (ec 46 (ql 34) (ec 47 aM (ec 48 aM en))))) (sb 0 128 (lc qn (bk (bk (bk (lc qn (bk (bk (bk ln)))))))) (sb 1 128 (lc (qo 2) (bk (bk (bk (lc (qo 3) (bk (bk (bk ln)))))))) (sr 2 34 (sr 3 34 sn)))) (λz=>⟨z.1.t.1,z.1.t.2.1,z.1.q.1,(ax.mk [] (aH.mk z.2.1.2.1 z.2.1.t.1 z.2.1.t.2.1) [] (aH.mk z.2.1.q.2.1 z.2.1.q.t.1 z.2.1.q.t.2.1)),(ax.mk z.t.2.1 (aH.mk z.t.1.2.1 z.t.1.t.1 z.t.1.t.2.1) z.q.1 (aH.mk z.t.1.q.2.1 z.t.1.q.t.1 z.t.1.q.t.2.1))⟩) (λx=>(((),(),x.t46,x.t47,x.t48,()),(((),x.b0.aB.ag,x.b0.aB.ah,x.b0.aB.ai,(),x.b0.aI.ag,x.b0.aI.ah,x.b0.aI.ai,()),((),x.b1.aB.ag,x.b1.aB.ah,x.b1.aB.ai,(),x.b1.aI.ag,x.b1.aI.ah,x.b1.aI.ai,()),x.b1.aj,x.b1.aC,()))))
def HH(p:Ah):af (af Ah):=
 bif J (p.t48<p.t47)then if 0<=p.t48/\p.t48<p.t46.length then bif J (p.t48<p.b1.aC.length)then if 0<=p.t48/\p.t48<p.b1.aC.length then if 34=34/\p.t48.toNat<p.b1.aC.length then match uD p.b1.aC[p.t48.toNat]! p.t46[p.t48.toNat]! with|S=>S|V r2=>if 0<=p.t48/\p.t48<p.b1.aC.length then if 34=34/\p.t48.toNat<p.b1.aC.length then V (V (Ah.mk p.t46 p.t47 (i64.wrap (p.t48+1)) (ax.mk [] p.b0.aB [] p.b0.aI) (ax.mk p.b1.aj p.b1.aB (p.b1.aC.set p.t48.toNat r2) p.b1.aI)))else S else S else S else S else if(p.b1.aC++[p.t46[p.t48.toNat]!]).length<=1073741824 then V (V (Ah.mk p.t46 p.t47 (i64.wrap (p.t48+1)) (ax.mk [] p.b0.aB [] p.b0.aI) (ax.mk p.b1.aj p.b1.aB (p.b1.aC++[p.t46[p.t48.toNat]!]) p.b1.aI)))else S else S else V (S)
def J8:=bK (HH)
structure Dx where
 (t13 t14:Int)
 (b0 b1 b2:ax)
def QO:Td 0 Dx:= .c [] [3,4,5,13,14] (.r 0 5 (ec 3 (qp 0 0) (ec 4 (qp 1 0) (ec 5 (qp 2 0) (ec 13 aM (ec 14 aM en))))) (sb 0 128 (lg 128) (sb 1 128 (lc qn (bk (bk (bk (lc qn (bk (bk (bk ln)))))))) (sb 2 128 (lc (qo 3) (bk (bk (bk (lc (qo 4) (bk (bk (bk ln)))))))) (sr 3 34 (sr 4 34 sn))))) (λz=>⟨z.1.t.2.1,z.1.q.1,z.2.1,(ax.mk [] (aH.mk z.t.1.2.1 z.t.1.t.1 z.t.1.t.2.1) [] (aH.mk z.t.1.q.2.1 z.t.1.q.t.1 z.t.1.q.t.2.1)),(ax.mk z.q.1 (aH.mk z.t.2.1.2.1 z.t.2.1.t.1 z.t.2.1.t.2.1) z.q.2.1 (aH.mk z.t.2.1.q.2.1 z.t.2.1.q.t.1 z.t.2.1.q.t.2.1))⟩) (λx=>(((),(),(),x.t13,x.t14,()),(x.b0,((),x.b1.aB.ag,x.b1.aB.ah,x.b1.aB.ai,(),x.b1.aI.ag,x.b1.aI.ah,x.b1.aI.ai,()),((),x.b2.aB.ag,x.b2.aB.ah,x.b2.aB.ai,(),x.b2.aI.ag,x.b2.aI.ah,x.b2.aI.ai,()),x.b2.aj,x.b2.aC,()))))
def Hz(p:Dx):af (af Dx):=
 bif J (p.t14<p.t13)then if 0<=p.t14/\p.t14<p.b2.aj.length then if 34=34/\p.t14.toNat<p.b2.aj.length then if 0<=p.t14/\p.t14<p.b0.aj.length then match uD p.b2.aj[p.t14.toNat]! p.b0.aj[p.t14.toNat]! with|S=>S|V r1=>if 0<=p.t14/\p.t14<p.b2.aj.length then if 34=34/\p.t14.toNat<p.b2.aj.length then V (V (Dx.mk p.t13 (i64.wrap (p.t14+1)) p.b0 (ax.mk [] p.b1.aB [] p.b1.aI) (ax.mk (p.b2.aj.set p.t14.toNat r1) p.b2.aB p.b2.aC p.b2.aI)))else S else S else S else S else S else V (S)
def IT:=bK (Hz)
abbrev au1:=ax
def d236:Td 0 au1:= .c [] [4] (.r 0 3 (ec 4 (qp 0 0) en) (sb 0 128 (lc (qo 1) (bk (bk (bk (lc (qo 2) (bk (bk (bk ln)))))))) (sr 1 34 (sr 2 34 sn))) (λz=>(ax.mk z.t.1 (aH.mk z.2.1.2.1 z.2.1.t.1 z.2.1.t.2.1) z.t.2.1 (aH.mk z.2.1.q.2.1 z.2.1.q.t.1 z.2.1.q.t.2.1))) (λx=>(((),()),(((),x.aB.ag,x.aB.ah,x.aB.ai,(),x.aI.ag,x.aI.ah,x.aI.ai,()),x.aj,x.aC,()))))
def H7(a0:ax)(a1:ax):af au1:=
 match FY a0 with|S=>S|V r3=>match IT (Dx.mk r3.aj.length 0 a1 (ax.mk [] (aH.mk 0 0 0) [] (aH.mk 0 0 0)) r3)with|S=>S|V r4=>bif J (r4.t14<r4.t13)then if 0<=r4.t14/\r4.t14<r4.b2.aj.length then if 34=34/\r4.t14.toNat<r4.b2.aj.length then if 0<=r4.t14/\r4.t14<r4.b0.aj.length then match uD r4.b2.aj[r4.t14.toNat]! r4.b0.aj[r4.t14.toNat]! with|S=>S|V r5=>if 0<=r4.t14/\r4.t14<r4.b2.aj.length then if 34=34/\r4.t14.toNat<r4.b2.aj.length then S else S else S else S else S else S else match uD r4.b2.aB r4.b0.aB with|S=>S|V r6=>match uD r4.b2.aI r4.b0.aI with|S=>S|V r7=>match J8 (Ah.mk r4.b0.aC r4.b0.aC.length 0 (ax.mk [] r4.b1.aB [] r4.b1.aI) (ax.mk r4.b2.aj r6 r4.b2.aC r7))with|S=>S|V r8=>bif J (r8.t48<r8.t47)then if 0<=r8.t48/\r8.t48<r8.t46.length then bif J (r8.t48<r8.b1.aC.length)then if 0<=r8.t48/\r8.t48<r8.b1.aC.length then if 34=34/\r8.t48.toNat<r8.b1.aC.length then match uD r8.b1.aC[r8.t48.toNat]! r8.t46[r8.t48.toNat]! with|S=>S|V r9=>if 0<=r8.t48/\r8.t48<r8.b1.aC.length then if 34=34/\r8.t48.toNat<r8.b1.aC.length then S else S else S else S else S else if(r8.b1.aC++[r8.t46[r8.t48.toNat]!]).length<=1073741824 then S else S else S else V (r8.b1)
def ark:=eL w9 236 G (lc (qg 128) (lc (qg 128) ln)) d236 (λg=>H7 g.1 g.2.1)
def SU:EO ark:=λh=>kL (an:=(noTwo (noTwo (.two (noTwo (QO.lp IT .no)) (noTwo (noTwo (.two (noTwo (PK.lp J8 .no)) .no))))))) (l:=[(bg f236 0,(QO.lp IT .no)),(bg f236 1,(PK.lp J8 .no))]) func236 (uV (JB aP)) (aA (aO QO) (aA (aO PK) aF)) h
def apD:bf:=(anD (e80 de))
def aip:aQ w9 apD:=(Ij (Iz aP))
abbrev axU:=ax
def d157:Td 0 axU:= .c [] [4] (.r 0 1 (ec 4 (qp 0 0) en) (sb 0 128 (lg 128) sn) (λz=>z.2.1) (λx=>(((),()),(x,()))))
def axe:=(lc (qg 128) (bk ln))
def akh:An:= .no
def azZ:cU w9 (apD) 0 300 157 (akh):=bB (l:=[]) func157 (aV (by kernel_rfl)) (by kernel_rfl) aF
def Mk(a0:ax)(a1:Int):af axU:=
 match tN (8) a0.aI (TZ a1)with|S=>S|V r1=>V (ax.mk a0.aj a0.aB a0.aC r1.fst)
def aCw(a0:ax)(a1:Int):bM w9 (apD) 300 (akh) 157 (axe.c (a0,a1,())) [] 0 d157.rd=Mk a0 a1:=by kernel_rfl
def aps:bf->bf:=eZ w9 157 axe d157 (λg=>Mk g.1 g.2.1)
def TV{F:bf}(h:aQ w9 F):aQ w9 (aps F):=qF (cH aip azZ (λ_=>by kernel_rfl) (λ_=>by kernel_rfl) λg=>aCw g.1 g.2.1) ⟨_,func157,by kernel_rfl,by kernel_rfl⟩ (λ_=>by kernel_rfl) h
abbrev azj:=ax
def d158:Td 0 azj:= .c [] [8] (.r 0 3 (ec 8 (qp 0 0) en) (sb 0 128 (lc (qo 1) (bk (bk (bk (lc (qo 2) (bk (bk (bk ln)))))))) (sr 1 34 (sr 2 34 sn))) (λz=>(ax.mk z.t.1 (aH.mk z.2.1.2.1 z.2.1.t.1 z.2.1.t.2.1) z.t.2.1 (aH.mk z.2.1.q.2.1 z.2.1.q.t.1 z.2.1.q.t.2.1))) (λx=>(((),()),(((),x.aB.ag,x.aB.ah,x.aB.ai,(),x.aI.ag,x.aI.ah,x.aI.ai,()),x.aj,x.aC,()))))
def Qi(a0:Runner)(a1:ax)(a2:Int)(a3:aH):af azj:=
 match FY a1 with|S=>S|V r1=>if 0<=a2/\a2<a0.fF.aj.length then match m81 a3 a0.fF.aj[a2.toNat]!.ag a0.fF.aj[a2.toNat]!.ah with|S=>S|V r2=>if 0<=a2/\a2<r1.aj.length then if 34=34/\a2.toNat<r1.aj.length then V (ax.mk (r1.aj.set a2.toNat r2.fst) r1.aB r1.aC r1.aI)else S else S else S
def atv:=eL w9 158 G (lc (qg 133) (lc (qg 128) (bk (lc (qg 34) ln)))) d158 (λg=>Qi g.1 g.2.1 g.t.1 g.t.2.1)
def acV:EO atv:=λh=>kL (an:= .no) func158 (uV (QF aP)) aF h
structure AK where
 (t10 t11:Int)
 b0:ax
 b1:aH
 b2:ax
def Ri:Td 0 AK:= .c [] [2,3,4,10,11] (.r 0 5 (ec 2 (qp 0 0) (ec 3 (qp 1 0) (ec 4 (qp 2 0) (ec 10 aM (ec 11 aM en))))) (sb 0 128 (lc (qo 3) (bk (bk (bk (lc (qo 4) (bk (bk (bk ln)))))))) (sb 1 34 (lg 34) (sb 2 128 (lc qn (bk (bk (bk (lc qn (bk (bk (bk ln)))))))) (sr 3 34 (sr 4 34 sn))))) (λz=>⟨z.1.t.2.1,z.1.q.1,(ax.mk z.q.1 (aH.mk z.2.1.2.1 z.2.1.t.1 z.2.1.t.2.1) z.q.2.1 (aH.mk z.2.1.q.2.1 z.2.1.q.t.1 z.2.1.q.t.2.1)),z.t.1,(ax.mk [] (aH.mk z.t.2.1.2.1 z.t.2.1.t.1 z.t.2.1.t.2.1) [] (aH.mk z.t.2.1.q.2.1 z.t.2.1.q.t.1 z.t.2.1.q.t.2.1))⟩) (λx=>(((),(),(),x.t10,x.t11,()),(((),x.b0.aB.ag,x.b0.aB.ah,x.b0.aB.ai,(),x.b0.aI.ag,x.b0.aI.ah,x.b0.aI.ai,()),x.b1,((),x.b2.aB.ag,x.b2.aB.ah,x.b2.aB.ai,(),x.b2.aI.ag,x.b2.aI.ah,x.b2.aI.ai,()),x.b0.aj,x.b0.aC,()))))
def JV(p:AK):af (af AK):=
 bif J (p.t11<p.t10)then match m92 p.b0.aB p.t11 with|S=>S|V r1=>bif r1 then if 0<=p.t11/\p.t11<p.b0.aC.length then if 34=34/\p.t11.toNat<p.b0.aC.length then match uD p.b0.aC[p.t11.toNat]! p.b1 with|S=>S|V r2=>if 0<=p.t11/\p.t11<p.b0.aC.length then if 34=34/\p.t11.toNat<p.b0.aC.length then V (V (AK.mk p.t10 (i64.wrap (p.t11+1)) (ax.mk p.b0.aj p.b0.aB (p.b0.aC.set p.t11.toNat r2) p.b0.aI) p.b1 (ax.mk [] p.b2.aB [] p.b2.aI)))else S else S else S else S else V (V (AK.mk p.t10 (i64.wrap (p.t11+1)) p.b0 p.b1 (ax.mk [] p.b2.aB [] p.b2.aI)))else V (S)
def Kv:=bK (JV)
abbrev avd:=ax
def d159:Td 0 avd:= .c [] [4] (.r 0 3 (ec 4 (qp 0 0) en) (sb 0 128 (lc (qo 1) (bk (bk (bk (lc (qo 2) (bk (bk (bk ln)))))))) (sr 1 34 (sr 2 34 sn))) (λz=>(ax.mk z.t.1 (aH.mk z.2.1.2.1 z.2.1.t.1 z.2.1.t.2.1) z.t.2.1 (aH.mk z.2.1.q.2.1 z.2.1.q.t.1 z.2.1.q.t.2.1))) (λx=>(((),()),(((),x.aB.ag,x.aB.ah,x.aB.ai,(),x.aI.ag,x.aI.ah,x.aI.ai,()),x.aj,x.aC,()))))
def YO(a0:ax)(a1:aH):af avd:=
 match FY a0 with|S=>S|V r3=>match Kv (AK.mk r3.aC.length 0 r3 a1 (ax.mk [] (aH.mk 0 0 0) [] (aH.mk 0 0 0)))with|S=>S|V r4=>bif J (r4.t11<r4.t10)then match m92 r4.b0.aB r4.t11 with|S=>S|V r5=>bif r5 then if 0<=r4.t11/\r4.t11<r4.b0.aC.length then if 34=34/\r4.t11.toNat<r4.b0.aC.length then match uD r4.b0.aC[r4.t11.toNat]! r4.b1 with|S=>S|V r6=>if 0<=r4.t11/\r4.t11<r4.b0.aC.length then if 34=34/\r4.t11.toNat<r4.b0.aC.length then S else S else S else S else S else S else if(r4.b0.aC++[r4.b1]).length<=1073741824 then match tN 8 r4.b0.aB (TZ 1)with|S=>S|V r7=>V (ax.mk r4.b0.aj r7.fst (r4.b0.aC++[r4.b1]) r4.b0.aI)else S
def ato:=eL w9 159 G (lc (qg 128) (lc (qg 34) ln)) d159 (λg=>YO g.1 g.2.1)
def adj:EO ato:=λh=>kL (an:=(noTwo (noTwo (.two (noTwo (Ri.lp Kv .no)) .no)))) (l:=[(bg f159 0,(Ri.lp Kv .no))]) func159 (uV (Ij (JB (Ot (Iz aP))))) (aA (aO Ri) aF) h
abbrev qR:=ax
def d83:Td 0 qR:= .c [] [6] (.r 0 1 (ec 6 (qp 0 0) en) (sb 0 128 (lg 128) sn) (λz=>z.2.1) (λx=>(((),()),(x,()))))
def A83:=(lc (qg 133) (lc (ql 166) (lc (qg 128) ln)))
def x83(M:Runner->(aa ay)->ax->af qR):bf->bf:=eZ w9 83 A83 d83 (λg=>M g.1 g.2.1 g.2.2.1)
def H83(M:Runner->(aa ay)->ax->af qR):Prop:=HL w9 83 A83 d83 (λg=>M g.1 g.2.1 g.2.2.1)
def OB{M:Runner->(aa ay)->ax->af qR}(hM:H83 M){F:bf}(h:aQ w9 F):aQ w9 (x83 M F):=qF hM ⟨_,func83,by kernel_rfl,by kernel_rfl⟩ (λ_=>by kernel_rfl) h
abbrev iy:=ax
def d156:Td 0 iy:= .c [] [6] (.r 0 1 (ec 6 (qp 0 0) en) (sb 0 128 (lg 128) sn) (λz=>z.2.1) (λx=>(((),()),(x,()))))
def aqu:=(lc (qg 133) (lc (qg 166) (lc (qg 128) ln)))
def ata(M:Runner->ay->ax->af iy):bf->bf:=eZ w9 156 aqu d156 (λg=>M g.1 g.2.1 g.2.2.1)
def YM(M:Runner->ay->ax->af iy):Prop:=HL w9 156 aqu d156 (λg=>M g.1 g.2.1 g.2.2.1)
def ajw{M:Runner->ay->ax->af iy}(hM:YM M){F:bf}(h:aQ w9 F):aQ w9 (ata M F):=qF hM ⟨_,func156,by kernel_rfl,by kernel_rfl⟩ (λ_=>by kernel_rfl) h
abbrev iz:=ax
def d160:Td 0 iz:= .c [] [6] (.t (cC.fc 0 0 []) (.t (cC.fc 0 4 []) (.c [] [6] (.r 0 1 (ec 6 (qp 0 0) en) (sb 0 128 (lg 128) sn) (λz=>z.2.1) (λx=>(((),()),(x,())))))))
def aqB:=(lc (qg 133) (lc (qg 166) (lc (qg 128) ln)))
def x160(M:Runner->ay->ax->af iz):bf->bf:=eZ w9 160 aqB d160 (λg=>M g.1 g.2.1 g.2.2.1)
def Yx(M:Runner->ay->ax->af iz):Prop:=HL w9 160 aqB d160 (λg=>M g.1 g.2.1 g.2.2.1)
def agb{M:Runner->ay->ax->af iz}(hM:Yx M){F:bf}(h:aQ w9 F):aQ w9 (x160 M F):=qF hM ⟨_,func160,by kernel_rfl,by kernel_rfl⟩ (λ_=>by kernel_rfl) h
def F83(M83:Runner->(aa ay)->ax->af qR)(M156:Runner->ay->ax->af iy)(M160:Runner->ay->ax->af iz):bf:=(avH (x160 M160 (ato (atv (aps (ata M156 (e82 de)))))))
def aoO{M83 M156 M160}(h83:H83 M83)(h156:YM M156)(h160:Yx M160):aQ w9 (F83 M83 M156 M160):=(ah6 (agb h160 (adj (acV (TV (ajw h156 (IN aP)))))))
structure pL where
 t9:List ay
 (t10 t11:Int)
 b0:Runner
 (b1 b2:ax)
def Yq:Td 0 pL:= .c [] [3,5,6,9,10,11] (.t (cC.fc 1 0 []) (.t (cC.fc 1 4 []) (.c [] [3,5,6,9,10,11] (.r 0 3 (ec 3 (qp 0 0) (ec 5 (qp 1 0) (ec 6 (qp 2 0) (ec 9 (ql 166) (ec 10 aM (ec 11 aM en)))))) (sb 0 133 (lg 133) (sb 1 128 (lg 128) (sb 2 128 (lc qn (bk (bk (bk (lc qn (bk (bk (bk ln)))))))) sn))) (λz=>⟨z.1.t.2.1,z.1.q.1,z.1.q.2.1,z.2.1,z.t.1,(ax.mk [] (aH.mk z.t.2.1.2.1 z.t.2.1.t.1 z.t.2.1.t.2.1) [] (aH.mk z.t.2.1.q.2.1 z.t.2.1.q.t.1 z.t.2.1.q.t.2.1))⟩) (λx=>(((),(),(),x.t9,x.t10,x.t11,()),(x.b0,x.b1,((),x.b2.aB.ag,x.b2.aB.ah,x.b2.aB.ai,(),x.b2.aI.ag,x.b2.aI.ah,x.b2.aI.ai,()),())))))))
def Tg(M83:Runner->(aa ay)->ax->af qR)(M156:Runner->ay->ax->af iy)(M160:Runner->ay->ax->af iz)(p:pL):af (af pL):=
 bif J (p.t11<p.t10)then if 0<=p.t11/\p.t11<p.t9.length then bif J (p.t9[p.t11.toNat]!.b9=4)then match M156 p.b0 (ay.mk p.t9[p.t11.toNat]!.b9 p.t9[p.t11.toNat]!.bq p.t9[p.t11.toNat]!.dD p.t9[p.t11.toNat]!.fN (au.mk p.t9[p.t11.toNat]!.az.bC p.t9[p.t11.toNat]!.az.fN p.t9[p.t11.toNat]!.az.aq) p.t9[p.t11.toNat]!.aL p.t9[p.t11.toNat]!.aR p.t9[p.t11.toNat]!.aJ) p.b1 with|S=>S|V r1=>V (V (pL.mk p.t9 p.t10 (i64.wrap (p.t11+1)) p.b0 r1 (ax.mk [] p.b2.aB [] p.b2.aI)))else match Mk p.b1 p.t9[p.t11.toNat]!.bq with|S=>S|V r2=>bif J (p.t9[p.t11.toNat]!.b9=0)then match Pr r2 (au.mk p.t9[p.t11.toNat]!.az.bC p.t9[p.t11.toNat]!.az.fN p.t9[p.t11.toNat]!.az.aq)with|S=>S|V r3=>match Qi p.b0 r2 p.t9[p.t11.toNat]!.dD r3 with|S=>S|V r4=>V (V (pL.mk p.t9 p.t10 (i64.wrap (p.t11+1)) p.b0 r4 (ax.mk [] p.b2.aB [] p.b2.aI)))else bif J (p.t9[p.t11.toNat]!.b9=5)then if 0<=p.t9[p.t11.toNat]!.fN/\p.t9[p.t11.toNat]!.fN<p.b0.ak.length then match Qi p.b0 r2 p.t9[p.t11.toNat]!.dD p.b0.ak[p.t9[p.t11.toNat]!.fN.toNat]! with|S=>S|V r5=>V (V (pL.mk p.t9 p.t10 (i64.wrap (p.t11+1)) p.b0 r5 (ax.mk [] p.b2.aB [] p.b2.aI)))else S else bif J (p.t9[p.t11.toNat]!.b9=1)then match Pr r2 (au.mk p.t9[p.t11.toNat]!.az.bC p.t9[p.t11.toNat]!.az.fN p.t9[p.t11.toNat]!.az.aq)with|S=>S|V r6=>match YO r2 r6 with|S=>S|V r7=>V (V (pL.mk p.t9 p.t10 (i64.wrap (p.t11+1)) p.b0 r7 (ax.mk [] p.b2.aB [] p.b2.aI)))else bif J (p.t9[p.t11.toNat]!.b9=3)then match M160 p.b0 (ay.mk p.t9[p.t11.toNat]!.b9 p.t9[p.t11.toNat]!.bq p.t9[p.t11.toNat]!.dD p.t9[p.t11.toNat]!.fN (au.mk p.t9[p.t11.toNat]!.az.bC p.t9[p.t11.toNat]!.az.fN p.t9[p.t11.toNat]!.az.aq) p.t9[p.t11.toNat]!.aL p.t9[p.t11.toNat]!.aR p.t9[p.t11.toNat]!.aJ) r2 with|S=>S|V r8=>V (V (pL.mk p.t9 p.t10 (i64.wrap (p.t11+1)) p.b0 r8 (ax.mk [] p.b2.aB [] p.b2.aI)))else bif J (p.t9[p.t11.toNat]!.b9=6)then match L3 r2.aI p.t9[p.t11.toNat]!.aJ with|S=>S|V r9=>V (V (pL.mk p.t9 p.t10 (i64.wrap (p.t11+1)) p.b0 (ax.mk r2.aj r2.aB r2.aC r9.fst) (ax.mk [] p.b2.aB [] p.b2.aI)))else V (V (pL.mk p.t9 p.t10 (i64.wrap (p.t11+1)) p.b0 r2 (ax.mk [] p.b2.aB [] p.b2.aI)))else S else V (S)
def Uj(M83:Runner->(aa ay)->ax->af qR)(M156:Runner->ay->ax->af iy)(M160:Runner->ay->ax->af iz):=bK (Tg M83 M156 M160)
def awG(M83:Runner->(aa ay)->ax->af qR)(M156:Runner->ay->ax->af iy)(M160:Runner->ay->ax->af iz):An:=(noTwo (.two (noTwo (Yq.lp (Uj M83 M156 M160) .no)) .no))
def aDw(M83:Runner->(aa ay)->ax->af qR)(M156:Runner->ay->ax->af iy)(M160:Runner->ay->ax->af iz):cU w9 (F83 M83 M156 M160) 0 300 83 (awG M83 M156 M160):=bB (l:=[(bg f83 0,(Yq.lp (Uj M83 M156 M160) .no))]) func83 (aV (by kernel_rfl)) (by kernel_rfl) (aA (aO Yq) aF)
def s83(M83:Runner->(aa ay)->ax->af qR)(M156:Runner->ay->ax->af iy)(M160:Runner->ay->ax->af iz)(a0:Runner)(a1:aa ay)(a2:ax):af qR:=
 match Uj M83 M156 M160 (pL.mk a1 a1.length 0 a0 a2 (ax.mk [] (aH.mk 0 0 0) [] (aH.mk 0 0 0)))with|S=>S|V r10=>bif J (r10.t11<r10.t10)then if 0<=r10.t11/\r10.t11<r10.t9.length then bif J (r10.t9[r10.t11.toNat]!.b9=4)then match M156 r10.b0 (ay.mk r10.t9[r10.t11.toNat]!.b9 r10.t9[r10.t11.toNat]!.bq r10.t9[r10.t11.toNat]!.dD r10.t9[r10.t11.toNat]!.fN (au.mk r10.t9[r10.t11.toNat]!.az.bC r10.t9[r10.t11.toNat]!.az.fN r10.t9[r10.t11.toNat]!.az.aq) r10.t9[r10.t11.toNat]!.aL r10.t9[r10.t11.toNat]!.aR r10.t9[r10.t11.toNat]!.aJ) r10.b1 with|S=>S|V r11=>S else match Mk r10.b1 r10.t9[r10.t11.toNat]!.bq with|S=>S|V r12=>bif J (r10.t9[r10.t11.toNat]!.b9=0)then match Pr r12 (au.mk r10.t9[r10.t11.toNat]!.az.bC r10.t9[r10.t11.toNat]!.az.fN r10.t9[r10.t11.toNat]!.az.aq)with|S=>S|V r13=>match Qi r10.b0 r12 r10.t9[r10.t11.toNat]!.dD r13 with|S=>S|V r14=>S else bif J (r10.t9[r10.t11.toNat]!.b9=5)then if 0<=r10.t9[r10.t11.toNat]!.fN/\r10.t9[r10.t11.toNat]!.fN<r10.b0.ak.length then match Qi r10.b0 r12 r10.t9[r10.t11.toNat]!.dD r10.b0.ak[r10.t9[r10.t11.toNat]!.fN.toNat]! with|S=>S|V r15=>S else S else bif J (r10.t9[r10.t11.toNat]!.b9=1)then match Pr r12 (au.mk r10.t9[r10.t11.toNat]!.az.bC r10.t9[r10.t11.toNat]!.az.fN r10.t9[r10.t11.toNat]!.az.aq)with|S=>S|V r16=>match YO r12 r16 with|S=>S|V r17=>S else bif J (r10.t9[r10.t11.toNat]!.b9=3)then match M160 r10.b0 (ay.mk r10.t9[r10.t11.toNat]!.b9 r10.t9[r10.t11.toNat]!.bq r10.t9[r10.t11.toNat]!.dD r10.t9[r10.t11.toNat]!.fN (au.mk r10.t9[r10.t11.toNat]!.az.bC r10.t9[r10.t11.toNat]!.az.fN r10.t9[r10.t11.toNat]!.az.aq) r10.t9[r10.t11.toNat]!.aL r10.t9[r10.t11.toNat]!.aR r10.t9[r10.t11.toNat]!.aJ) r12 with|S=>S|V r18=>S else bif J (r10.t9[r10.t11.toNat]!.b9=6)then match L3 r12.aI r10.t9[r10.t11.toNat]!.aJ with|S=>S|V r19=>S else S else S else V (r10.b1)
def c83(M83:Runner->(aa ay)->ax->af qR)(M156:Runner->ay->ax->af iy)(M160:Runner->ay->ax->af iz)(a0:Runner)(a1:aa ay)(a2:ax):bM w9 (F83 M83 M156 M160) 300 (awG M83 M156 M160) 83 (A83.c (a0,a1,a2,())) [] 0 d83.rd=s83 M83 M156 M160 a0 a1 a2:=by kernel_rfl
def aqC(M83:Runner->(aa ay)->ax->af qR)(M156:Runner->ay->ax->af iy)(M160:Runner->ay->ax->af iz):bf:=(ark (arS (aps (agV (x83 M83 (e82 de))))))
def ah9{M83 M156 M160}(h83:H83 M83)(h156:YM M156)(h160:Yx M160):aQ w9 (aqC M83 M156 M160):=(SU (uV (TV (HP (OB h83 (IN aP))))))
structure mw where
 t53:List ax
 (t54 t55:Int)
 (b0 b1:ax)
def Qy:Td 0 mw:= .c [] [6,11,53,54,55] (.t (cC.fc 1 0 []) (.t (cC.fc 1 4 []) (.c [] [6,11,53,54,55] (.r 0 2 (ec 6 (qp 0 0) (ec 11 (qp 1 0) (ec 53 (ql 128) (ec 54 aM (ec 55 aM en))))) (sb 0 128 (lc qn (bk (bk (bk (lc qn (bk (bk (bk ln)))))))) (sb 1 128 (lg 128) sn)) (λz=>⟨z.1.t.1,z.1.t.2.1,z.1.q.1,(ax.mk [] (aH.mk z.2.1.2.1 z.2.1.t.1 z.2.1.t.2.1) [] (aH.mk z.2.1.q.2.1 z.2.1.q.t.1 z.2.1.q.t.2.1)),z.t.1⟩) (λx=>(((),(),x.t53,x.t54,x.t55,()),(((),x.b0.aB.ag,x.b0.aB.ah,x.b0.aB.ai,(),x.b0.aI.ag,x.b0.aI.ah,x.b0.aI.ai,()),x.b1,())))))))
def HT(M83:Runner->(aa ay)->ax->af qR)(M156:Runner->ay->ax->af iy)(M160:Runner->ay->ax->af iz)(p:mw):af (af mw):=
 bif J (p.t55<p.t54)then if 0<=p.t55/\p.t55<p.t53.length then match H7 p.b1 p.t53[p.t55.toNat]! with|S=>S|V r7=>V (V (mw.mk p.t53 p.t54 (i64.wrap (p.t55+1)) (ax.mk [] p.b0.aB [] p.b0.aI) r7))else S else V (S)
def p6(M83:Runner->(aa ay)->ax->af qR)(M156:Runner->ay->ax->af iy)(M160:Runner->ay->ax->af iz):=bK (HT M83 M156 M160)
structure AN where
 t7:List ax
 t8:Bool
 (t15 t16:Int)
 b0:Runner
 b1:ay
 (b2 b3:ax)
def Pb:Td 0 AN:= .c [] [3,4,5,6,7,8,15,16] (.t (cC.s 7 [] 128) (.c [] [3,4,5,6,7,8,15,16] (.r 0 5 (ec 3 (qp 0 0) (ec 4 (qp 1 0) (ec 5 (qp 2 0) (ec 6 (qp 3 0) (ec 7 (qo 4) (ec 8 qb (ec 15 aM (ec 16 aM en)))))))) (sb 0 133 (lg 133) (sb 1 166 (lg 166) (sb 2 128 (lg 128) (sb 3 128 (lc qn (bk (bk (bk (lc qn (bk (bk (bk ln)))))))) (sr 4 128 sn))))) (λz=>⟨z.q.2.1,z.1.q.2.1,z.1.q.t.1,z.1.q.t.2.1,z.2.1,z.t.1,z.t.2.1,(ax.mk [] (aH.mk z.q.1.2.1 z.q.1.t.1 z.q.1.t.2.1) [] (aH.mk z.q.1.q.2.1 z.q.1.q.t.1 z.q.1.q.t.2.1))⟩) (λx=>(((),(),(),(),(),x.t8,x.t15,x.t16,()),(x.b0,x.b1,x.b2,((),x.b3.aB.ag,x.b3.aB.ah,x.b3.aB.ai,(),x.b3.aI.ag,x.b3.aI.ah,x.b3.aI.ai,()),x.t7,()))))))
def Aw(M83:Runner->(aa ay)->ax->af qR)(M156:Runner->ay->ax->af iy)(M160:Runner->ay->ax->af iz)(p:AN):af (af AN):=
 bif J (p.t16<p.t15)then match Mk p.b2 p.b1.bq with|S=>S|V r1=>match Pr r1 (au.mk p.b1.az.bC p.b1.az.fN p.b1.az.aq)with|S=>S|V r2=>match PU r2 with|S=>S|V r3=>bif r3.fst then match FY r1 with|S=>S|V r4=>if(p.t7++[r4]).length<=1073741824 then bif bif r3.snd then G else O then V (S)else match M83 p.b0 p.b1.aL r1 with|S=>S|V r5=>V (V (AN.mk (p.t7++[r4]) p.t8 p.t15 (i64.wrap (p.t16+1)) p.b0 (ay.mk p.b1.b9 p.b1.bq p.b1.dD p.b1.fN (au.mk p.b1.az.bC p.b1.az.fN p.b1.az.aq) p.b1.aL p.b1.aR p.b1.aJ) r5 (ax.mk [] p.b3.aB [] p.b3.aI)))else S else bif bif r3.snd then G else O then V (S)else match M83 p.b0 p.b1.aL r1 with|S=>S|V r6=>V (V (AN.mk p.t7 p.t8 p.t15 (i64.wrap (p.t16+1)) p.b0 (ay.mk p.b1.b9 p.b1.bq p.b1.dD p.b1.fN (au.mk p.b1.az.bC p.b1.az.fN p.b1.az.aq) p.b1.aL p.b1.aR p.b1.aJ) r6 (ax.mk [] p.b3.aB [] p.b3.aI)))else V (S)
def J6(M83:Runner->(aa ay)->ax->af qR)(M156:Runner->ay->ax->af iy)(M160:Runner->ay->ax->af iz):=bK (Aw M83 M156 M160)
def al4(M83:Runner->(aa ay)->ax->af qR)(M156:Runner->ay->ax->af iy)(M160:Runner->ay->ax->af iz):An:=(noTwo (noTwo (noTwo (.two (noTwo (Pb.lp (J6 M83 M156 M160) .no)) (noTwo (noTwo (.two (noTwo (Qy.lp (p6 M83 M156 M160) .no)) .no)))))))
def atP(M83:Runner->(aa ay)->ax->af qR)(M156:Runner->ay->ax->af iy)(M160:Runner->ay->ax->af iz):cU w9 (aqC M83 M156 M160) 0 300 156 (al4 M83 M156 M160):=bB (l:=[(bg f156 0,(Pb.lp (J6 M83 M156 M160) .no)),(bg f156 1,(Qy.lp (p6 M83 M156 M160) .no))]) func156 (aV (by kernel_rfl)) (by kernel_rfl) (aA (aO Pb) (aA (aO Qy) aF))
def afm(M83:Runner->(aa ay)->ax->af qR)(M156:Runner->ay->ax->af iy)(M160:Runner->ay->ax->af iz)(a0:Runner)(a1:ay)(a2:ax):af iy:=
 match J6 M83 M156 M160 (AN.mk [] O a1.fN 0 a0 (ay.mk a1.b9 a1.bq a1.dD a1.fN (au.mk a1.az.bC a1.az.fN a1.az.aq) a1.aL a1.aR a1.aJ) a2 (ax.mk [] (aH.mk 0 0 0) [] (aH.mk 0 0 0)))with|S=>S|V r8=>bif J (r8.t16<r8.t15)then match Mk r8.b2 r8.b1.bq with|S=>S|V r9=>match Pr r9 (au.mk r8.b1.az.bC r8.b1.az.fN r8.b1.az.aq)with|S=>S|V r10=>match PU r10 with|S=>S|V r11=>bif r11.fst then match FY r9 with|S=>S|V r12=>if(r8.t7++[r12]).length<=1073741824 then bif bif r11.snd then G else O then if(0:Int)<=(0:Int)/\(0:Int)<(↑(r8.t7++[r12]).length:Int)then if 128=128/\0<(r8.t7++[r12]).length then if(0:Int)<=(1:Int)/\(1:Int)<=(↑(r8.t7++[r12]).length:Int)then match p6 M83 M156 M160 (mw.mk (yd 1 (r8.t7++[r12])) (↑(yd 1 (r8.t7++[r12])).length:Int) 0 (ax.mk [] r8.b3.aB [] r8.b3.aI) (r8.t7++[r12])[0]!)with|S=>S|V r13=>bif J (r13.t55<r13.t54)then if 0<=r13.t55/\r13.t55<r13.t53.length then match H7 r13.b1 r13.t53[r13.t55.toNat]! with|S=>S|V r14=>S else S else V (r13.b1)else S else S else S else match M83 r8.b0 r8.b1.aL r9 with|S=>S|V r15=>S else S else bif bif r11.snd then G else O then if(0:Int)<=(0:Int)/\(0:Int)<r8.t7.length then if 128=128/\0<r8.t7.length then if(0:Int)<=(1:Int)/\(1:Int)<=r8.t7.length then match p6 M83 M156 M160 (mw.mk (yd 1 r8.t7) (↑(yd 1 r8.t7).length:Int) 0 (ax.mk [] r8.b3.aB [] r8.b3.aI) r8.t7[0]!)with|S=>S|V r16=>bif J (r16.t55<r16.t54)then if 0<=r16.t55/\r16.t55<r16.t53.length then match H7 r16.b1 r16.t53[r16.t55.toNat]! with|S=>S|V r17=>S else S else V (r16.b1)else S else S else S else match M83 r8.b0 r8.b1.aL r9 with|S=>S|V r18=>S else bif r8.t8 then if(r8.t7++[r8.b2]).length<=1073741824 then if(0:Int)<=(0:Int)/\(0:Int)<(↑(r8.t7++[r8.b2]).length:Int)then if 128=128/\0<(r8.t7++[r8.b2]).length then if(0:Int)<=(1:Int)/\(1:Int)<=(↑(r8.t7++[r8.b2]).length:Int)then match p6 M83 M156 M160 (mw.mk (yd 1 (r8.t7++[r8.b2])) (↑(yd 1 (r8.t7++[r8.b2])).length:Int) 0 (ax.mk [] r8.b3.aB [] r8.b3.aI) (r8.t7++[r8.b2])[0]!)with|S=>S|V r19=>bif J (r19.t55<r19.t54)then if 0<=r19.t55/\r19.t55<r19.t53.length then match H7 r19.b1 r19.t53[r19.t55.toNat]! with|S=>S|V r20=>S else S else V (r19.b1)else S else S else S else S else if(0:Int)<=(0:Int)/\(0:Int)<r8.t7.length then if 128=128/\0<r8.t7.length then if(0:Int)<=(1:Int)/\(1:Int)<=r8.t7.length then match p6 M83 M156 M160 (mw.mk (yd 1 r8.t7) (↑(yd 1 r8.t7).length:Int) 0 (ax.mk [] r8.b3.aB [] r8.b3.aI) r8.t7[0]!)with|S=>S|V r21=>bif J (r21.t55<r21.t54)then if 0<=r21.t55/\r21.t55<r21.t53.length then match H7 r21.b1 r21.t53[r21.t55.toNat]! with|S=>S|V r22=>S else S else V (r21.b1)else S else S else S
def aCn(M83:Runner->(aa ay)->ax->af qR)(M156:Runner->ay->ax->af iy)(M160:Runner->ay->ax->af iz)(a0:Runner)(a1:ay)(a2:ax):bM w9 (aqC M83 M156 M160) 300 (al4 M83 M156 M160) 156 (aqu.c (a0,a1,a2,())) [] 0 d156.rd=afm M83 M156 M160 a0 a1 a2:=by kernel_rfl
def aok(M83:Runner->(aa ay)->ax->af qR)(M156:Runner->ay->ax->af iy)(M160:Runner->ay->ax->af iz):bf:=(ark (arS (agV (x83 M83 (e82 de)))))
def acf{M83 M156 M160}(h83:H83 M83)(h156:YM M156)(h160:Yx M160):aQ w9 (aok M83 M156 M160):=(SU (uV (HP (OB h83 (IN aP)))))
def akp(M83:Runner->(aa ay)->ax->af qR)(M156:Runner->ay->ax->af iy)(M160:Runner->ay->ax->af iz):An:= .no
def ati(M83:Runner->(aa ay)->ax->af qR)(M156:Runner->ay->ax->af iy)(M160:Runner->ay->ax->af iz):cU w9 (aok M83 M156 M160) 0 300 160 (akp M83 M156 M160):=bB (l:=[]) func160 (aV (by kernel_rfl)) (by kernel_rfl) aF
def adY(M83:Runner->(aa ay)->ax->af qR)(M156:Runner->ay->ax->af iy)(M160:Runner->ay->ax->af iz)(a0:Runner)(a1:ay)(a2:ax):af iz:=
 match Pr a2 (au.mk a1.az.bC a1.az.fN a1.az.aq)with|S=>S|V r1=>match PU r1 with|S=>S|V r2=>bif bif r2.fst then G else O then match M83 a0 a1.aL a2 with|S=>S|V r3=>V (r3)else bif bif r2.snd then G else O then match M83 a0 a1.aR a2 with|S=>S|V r4=>V (r4)else match FY a2 with|S=>S|V r5=>match M83 a0 a1.aL r5 with|S=>S|V r6=>match FY a2 with|S=>S|V r7=>match M83 a0 a1.aR r7 with|S=>S|V r8=>match H7 r6 r8 with|S=>S|V r9=>V (r9)
def aCi(M83:Runner->(aa ay)->ax->af qR)(M156:Runner->ay->ax->af iy)(M160:Runner->ay->ax->af iz)(a0:Runner)(a1:ay)(a2:ax):bM w9 (aok M83 M156 M160) 300 (akp M83 M156 M160) 160 (aqB.c (a0,a1,a2,())) [] 0 d160.rd=adY M83 M156 M160 a0 a1 a2:=by kernel_rfl
def dJ:Nat->(Runner->(aa ay)->ax->af qR)×(Runner->ay->ax->af iy)×(Runner->ay->ax->af iz)
 |0=>(λ_ _ _=>S,λ_ _ _=>S,λ_ _ _=>S)
 |n+1=>(s83 (dJ n).1 (dJ n).2.1 (dJ n).2.2,afm (dJ n).1 (dJ n).2.1 (dJ n).2.2,adY (dJ n).1 (dJ n).2.1 (dJ n).2.2)
def UW(n:Nat):Runner->(aa ay)->ax->af qR:=(dJ n).1
def CR(n:Nat):Runner->ay->ax->af iy:=(dJ n).2.1
def E5(n:Nat):Runner->ay->ax->af iz:=(dJ n).2.2
def oB:∀n,H83 (UW n)/\YM (CR n)/\Yx (E5 n)
 |0=>⟨λ_ _ h=>(by cases h),λ_ _ h=>(by cases h),λ_ _ h=>(by cases h)⟩
 |n+1=>by
  have ih:=oB n;obtain⟨i83,i156,i160⟩:=ih;refine⟨?_,?_,?_⟩
  ·exact(cH (aoO i83 i156 i160) (aDw (UW n) (CR n) (E5 n)) (λ_=>by kernel_rfl) (λ_=>by kernel_rfl) λg=>c83 (UW n) (CR n) (E5 n) g.1 g.2.1 g.2.2.1)
  ·exact(cH (ah9 i83 i156 i160) (atP (UW n) (CR n) (E5 n)) (λ_=>by kernel_rfl) (λ_=>by kernel_rfl) λg=>aCn (UW n) (CR n) (E5 n) g.1 g.2.1 g.2.2.1)
  ·exact(cH (acf i83 i156 i160) (ati (UW n) (CR n) (E5 n)) (λ_=>by kernel_rfl) (λ_=>by kernel_rfl) λg=>aCi (UW n) (CR n) (E5 n) g.1 g.2.1 g.2.2.1)
def r83:Runner->(aa ay)->ax->af qR:=λa0 a1 a2=>lim (λn=>UW n a0 a1 a2)
def aqc:H83 r83:=λg b h=>by
 obtain⟨n,hn⟩:=dN (show lim (λn=>UW n g.1 g.2.1 g.2.2.1)=V b from h);exact(oB n).1 g b hn
def e83(F:bf):bf:=x83 r83 F
def an6{F:bf}(h:aQ w9 F):aQ w9 (e83 F):=OB aqc h
abbrev aD5:=aH
def aah(a0:aH)(a1:Int):af aD5:=
 match oL (8) a0 (m36 a1)with|S=>S|V r1=>V (r1.fst)
structure vY where
 (t48 t49:Int)
 (b0 b1 b2 b3:aK)
def arP(p:vY):af (af vY):=
 bif J (p.t49<p.t48)then bif J (p.b0.aC.length<=p.t49)then if 0<=p.t49/\p.t49<p.b1.aC.length then if(p.b3.aC++[p.b1.aC[p.t49.toNat]!]).length<=1073741824 then V (V (vY.mk p.t48 (i64.wrap (p.t49+1)) p.b0 p.b1 (aK.mk [] p.b2.aB [] p.b2.aI) (aK.mk p.b3.aj p.b3.aB (p.b3.aC++[p.b1.aC[p.t49.toNat]!]) p.b3.aI)))else S else S else bif J (p.b1.aC.length<=p.t49)then if 0<=p.t49/\p.t49<p.b0.aC.length then if(p.b3.aC++[p.b0.aC[p.t49.toNat]!]).length<=1073741824 then V (V (vY.mk p.t48 (i64.wrap (p.t49+1)) p.b0 p.b1 (aK.mk [] p.b2.aB [] p.b2.aI) (aK.mk p.b3.aj p.b3.aB (p.b3.aC++[p.b0.aC[p.t49.toNat]!]) p.b3.aI)))else S else S else if 0<=p.t49/\p.t49<p.b0.aC.length then if 0<=p.t49/\p.t49<p.b1.aC.length then match lC p.b0.aC[p.t49.toNat]! p.b1.aC[p.t49.toNat]! with|S=>S|V r2=>if(p.b3.aC++[r2]).length<=1073741824 then V (V (vY.mk p.t48 (i64.wrap (p.t49+1)) p.b0 p.b1 (aK.mk [] p.b2.aB [] p.b2.aI) (aK.mk p.b3.aj p.b3.aB (p.b3.aC++[r2]) p.b3.aI)))else S else S else S else V (S)
def arQ:=bK (arP)
structure Ig where
 (t21 t22:Int)
 (b0 b1 b2 b3:aK)
def apo(p:Ig):af (af Ig):=
 bif J (p.t22<p.t21)then if 0<=p.t22/\p.t22<p.b0.aj.length then if 0<=p.t22/\p.t22<p.b1.aj.length then match lC p.b0.aj[p.t22.toNat]! p.b1.aj[p.t22.toNat]! with|S=>S|V r1=>if(p.b3.aj++[r1]).length<=1073741824 then V (V (Ig.mk p.t21 (i64.wrap (p.t22+1)) p.b0 p.b1 (aK.mk [] p.b2.aB [] p.b2.aI) (aK.mk (p.b3.aj++[r1]) p.b3.aB [] p.b3.aI)))else S else S else S else V (S)
def arY:=bK (apo)
abbrev aBT:=aK
def ain(a0:aK)(a1:aK):af aBT:=
 match lC a0.aB a1.aB with|S=>S|V r3=>match lC a0.aI a1.aI with|S=>S|V r4=>match arY (Ig.mk a0.aj.length 0 a0 a1 (aK.mk [] (aH.mk 0 0 0) [] (aH.mk 0 0 0)) (aK.mk [] r3 [] r4))with|S=>S|V r5=>bif J (r5.t22<r5.t21)then if 0<=r5.t22/\r5.t22<r5.b0.aj.length then if 0<=r5.t22/\r5.t22<r5.b1.aj.length then match lC r5.b0.aj[r5.t22.toNat]! r5.b1.aj[r5.t22.toNat]! with|S=>S|V r6=>if(r5.b3.aj++[r6]).length<=1073741824 then S else S else S else S else match arQ (vY.mk (if(r5.b0.aC.length:Int)<(r5.b1.aC.length:Int)then(r5.b1.aC.length:Int)else(r5.b0.aC.length:Int)) 0 r5.b0 r5.b1 (aK.mk [] r5.b2.aB [] r5.b2.aI) (aK.mk r5.b3.aj r5.b3.aB [] r5.b3.aI))with|S=>S|V r7=>bif J (r7.t49<r7.t48)then bif J (r7.b0.aC.length<=r7.t49)then if 0<=r7.t49/\r7.t49<r7.b1.aC.length then if(r7.b3.aC++[r7.b1.aC[r7.t49.toNat]!]).length<=1073741824 then S else S else S else bif J (r7.b1.aC.length<=r7.t49)then if 0<=r7.t49/\r7.t49<r7.b0.aC.length then if(r7.b3.aC++[r7.b0.aC[r7.t49.toNat]!]).length<=1073741824 then S else S else S else if 0<=r7.t49/\r7.t49<r7.b0.aC.length then if 0<=r7.t49/\r7.t49<r7.b1.aC.length then match lC r7.b0.aC[r7.t49.toNat]! r7.b1.aC[r7.t49.toNat]! with|S=>S|V r8=>if(r7.b3.aC++[r8]).length<=1073741824 then S else S else S else S else V (r7.b3)
structure JP where
 t10:List aK
 (t11 t12:Int)
 (b0 b1:aK)
def aoe(p:JP):af (af JP):=
 bif J (p.t12<p.t11)then if 0<=p.t12/\p.t12<p.t10.length then match ain p.b1 p.t10[p.t12.toNat]! with|S=>S|V r1=>V (V (JP.mk p.t10 p.t11 (i64.wrap (p.t12+1)) (aK.mk [] p.b0.aB [] p.b0.aI) r1))else S else V (S)
def amT:=bK (aoe)
abbrev aCT:=aK
def Z4(a0:aa aK):af aCT:=
 if(0:Int)<=(0:Int)/\(0:Int)<a0.length then if(0:Int)<=(1:Int)/\(1:Int)<=a0.length then match amT (JP.mk (yd 1 a0) (↑(yd 1 a0).length:Int) 0 (aK.mk [] (aH.mk 0 0 0) [] (aH.mk 0 0 0)) a0[0]!)with|S=>S|V r2=>bif J (r2.t12<r2.t11)then if 0<=r2.t12/\r2.t12<r2.t10.length then match ain r2.b1 r2.t10[r2.t12.toNat]! with|S=>S|V r3=>S else S else V (r2.b1)else S else S
abbrev aBO:=aK
def ah1(a0:aN)(a1:aK)(a2:Int)(a3:aH):af aBO:=
 if([]++a1.aj).length<=1073741824 then if 0<=a2/\a2<a0.aj.length then if 0<=a2/\a2<a0.aj.length then match m86 a3 a0.aj[a2.toNat]!.ag a0.aj[a2.toNat]!.ah with|S=>S|V r1=>if 0<=a2/\a2<(↑([]++a1.aj).length:Int)then if 34=34/\a2.toNat<([]++a1.aj).length then V (aK.mk (([]++a1.aj).set a2.toNat r1.fst) a1.aB a1.aC a1.aI)else S else S else S else S else S
structure Fc where
 t5:List aH
 (t12 t13:Int)
 b0:aK
 b1:aH
 b2:aK
def aoM(p:Fc):af (af Fc):=
 bif J (p.t13<p.t12)then match m32 p.b0.aB p.t13 with|S=>S|V r1=>bif r1 then if 0<=p.t13/\p.t13<p.t5.length then if 34=34/\p.t13.toNat<p.t5.length then match lC p.t5[p.t13.toNat]! p.b1 with|S=>S|V r2=>if 0<=p.t13/\p.t13<p.t5.length then if 34=34/\p.t13.toNat<p.t5.length then V (V (Fc.mk (p.t5.set p.t13.toNat r2) p.t12 (i64.wrap (p.t13+1)) p.b0 p.b1 (aK.mk [] p.b2.aB [] p.b2.aI)))else S else S else S else S else V (V (Fc.mk p.t5 p.t12 (i64.wrap (p.t13+1)) p.b0 p.b1 (aK.mk [] p.b2.aB [] p.b2.aI)))else V (S)
def ap6:=bK (aoM)
abbrev aB2:=aK
def axh(a0:aK)(a1:aH):af aB2:=
 if([]++a0.aC).length<=1073741824 then match ap6 (Fc.mk ([]++a0.aC) (↑([]++a0.aC).length:Int) 0 a0 a1 (aK.mk [] (aH.mk 0 0 0) [] (aH.mk 0 0 0)))with|S=>S|V r3=>bif J (r3.t13<r3.t12)then match m32 r3.b0.aB r3.t13 with|S=>S|V r4=>bif r4 then if 0<=r3.t13/\r3.t13<r3.t5.length then if 34=34/\r3.t13.toNat<r3.t5.length then match lC r3.t5[r3.t13.toNat]! r3.b1 with|S=>S|V r5=>if 0<=r3.t13/\r3.t13<r3.t5.length then if 34=34/\r3.t13.toNat<r3.t5.length then S else S else S else S else S else S else if(r3.t5++[r3.b1]).length<=1073741824 then match aah r3.b0.aB 1with|S=>S|V r6=>V (aK.mk r3.b0.aj r6 (r3.t5++[r3.b1]) r3.b0.aI)else S else S
abbrev E88:=aK
abbrev MZ:=aK
structure oC where
 t1:List aH
 t13:List ay
 (t14 t15:Int)
 b0:aN
 (b1 b2:aK)
def awf(M88:aN->(aa aH)->(aa ay)->aK->af E88)(M167:aN->(aa aH)->ay->aK->af MZ)(p:oC):af (af oC):=
 bif J (p.t15<p.t14)then if 0<=p.t15/\p.t15<p.t13.length then bif J (p.t13[p.t15.toNat]!.b9=4)then match M167 p.b0 p.t1 (ay.mk p.t13[p.t15.toNat]!.b9 p.t13[p.t15.toNat]!.bq p.t13[p.t15.toNat]!.dD p.t13[p.t15.toNat]!.fN (au.mk p.t13[p.t15.toNat]!.az.bC p.t13[p.t15.toNat]!.az.fN p.t13[p.t15.toNat]!.az.aq) p.t13[p.t15.toNat]!.aL p.t13[p.t15.toNat]!.aR p.t13[p.t15.toNat]!.aJ) p.b1 with|S=>S|V r1=>V (V (oC.mk p.t1 p.t13 p.t14 (i64.wrap (p.t15+1)) p.b0 r1 (aK.mk [] p.b2.aB [] p.b2.aI)))else match aah p.b1.aI p.t13[p.t15.toNat]!.bq with|S=>S|V r2=>bif J (p.t13[p.t15.toNat]!.b9=0)then match r87 (aK.mk p.b1.aj p.b1.aB p.b1.aC r2) (au.mk p.t13[p.t15.toNat]!.az.bC p.t13[p.t15.toNat]!.az.fN p.t13[p.t15.toNat]!.az.aq)with|S=>S|V r3=>match ah1 p.b0 (aK.mk p.b1.aj p.b1.aB p.b1.aC r2) p.t13[p.t15.toNat]!.dD r3 with|S=>S|V r4=>V (V (oC.mk p.t1 p.t13 p.t14 (i64.wrap (p.t15+1)) p.b0 r4 (aK.mk [] p.b2.aB [] p.b2.aI)))else bif J (p.t13[p.t15.toNat]!.b9=5)then if 0<=p.t13[p.t15.toNat]!.fN/\p.t13[p.t15.toNat]!.fN<p.t1.length then match ah1 p.b0 (aK.mk p.b1.aj p.b1.aB p.b1.aC r2) p.t13[p.t15.toNat]!.dD p.t1[p.t13[p.t15.toNat]!.fN.toNat]! with|S=>S|V r5=>V (V (oC.mk p.t1 p.t13 p.t14 (i64.wrap (p.t15+1)) p.b0 r5 (aK.mk [] p.b2.aB [] p.b2.aI)))else S else bif J (p.t13[p.t15.toNat]!.b9=1)then match r87 (aK.mk p.b1.aj p.b1.aB p.b1.aC r2) (au.mk p.t13[p.t15.toNat]!.az.bC p.t13[p.t15.toNat]!.az.fN p.t13[p.t15.toNat]!.az.aq)with|S=>S|V r6=>match axh (aK.mk p.b1.aj p.b1.aB p.b1.aC r2) r6 with|S=>S|V r7=>V (V (oC.mk p.t1 p.t13 p.t14 (i64.wrap (p.t15+1)) p.b0 r7 (aK.mk [] p.b2.aB [] p.b2.aI)))else bif J (p.t13[p.t15.toNat]!.b9=3)then match r87 (aK.mk p.b1.aj p.b1.aB p.b1.aC r2) (au.mk p.t13[p.t15.toNat]!.az.bC p.t13[p.t15.toNat]!.az.fN p.t13[p.t15.toNat]!.az.aq)with|S=>S|V r8=>match F3 r8 with|S=>S|V r9=>bif bif r9.fst then G else O then match M88 p.b0 p.t1 p.t13[p.t15.toNat]!.aL (aK.mk p.b1.aj p.b1.aB p.b1.aC r2)with|S=>S|V r10=>V (V (oC.mk p.t1 p.t13 p.t14 (i64.wrap (p.t15+1)) p.b0 r10 (aK.mk [] p.b2.aB [] p.b2.aI)))else bif bif r9.snd then G else O then match M88 p.b0 p.t1 p.t13[p.t15.toNat]!.aR (aK.mk p.b1.aj p.b1.aB p.b1.aC r2)with|S=>S|V r11=>V (V (oC.mk p.t1 p.t13 p.t14 (i64.wrap (p.t15+1)) p.b0 r11 (aK.mk [] p.b2.aB [] p.b2.aI)))else match M88 p.b0 p.t1 p.t13[p.t15.toNat]!.aL (aK.mk p.b1.aj p.b1.aB p.b1.aC r2)with|S=>S|V r12=>match M88 p.b0 p.t1 p.t13[p.t15.toNat]!.aR (aK.mk p.b1.aj p.b1.aB p.b1.aC r2)with|S=>S|V r13=>match ain r12 r13 with|S=>S|V r14=>V (V (oC.mk p.t1 p.t13 p.t14 (i64.wrap (p.t15+1)) p.b0 r14 (aK.mk [] p.b2.aB [] p.b2.aI)))else bif J (p.t13[p.t15.toNat]!.b9=6)then match Qh r2 p.t13[p.t15.toNat]!.aJ with|S=>S|V r15=>V (V (oC.mk p.t1 p.t13 p.t14 (i64.wrap (p.t15+1)) p.b0 (aK.mk p.b1.aj p.b1.aB p.b1.aC r15.fst) (aK.mk [] p.b2.aB [] p.b2.aI)))else V (V (oC.mk p.t1 p.t13 p.t14 (i64.wrap (p.t15+1)) p.b0 (aK.mk p.b1.aj p.b1.aB p.b1.aC r2) (aK.mk [] p.b2.aB [] p.b2.aI)))else S else V (S)
def ayb(M88:aN->(aa aH)->(aa ay)->aK->af E88)(M167:aN->(aa aH)->ay->aK->af MZ):=bK (awf M88 M167)
def s88(M88:aN->(aa aH)->(aa ay)->aK->af E88)(M167:aN->(aa aH)->ay->aK->af MZ)(a0:aN)(a1:aa aH)(a2:aa ay)(a3:aK):af E88:=
 match ayb M88 M167 (oC.mk a1 a2 a2.length 0 a0 a3 (aK.mk [] (aH.mk 0 0 0) [] (aH.mk 0 0 0)))with|S=>S|V r16=>bif J (r16.t15<r16.t14)then if 0<=r16.t15/\r16.t15<r16.t13.length then bif J (r16.t13[r16.t15.toNat]!.b9=4)then match M167 r16.b0 r16.t1 (ay.mk r16.t13[r16.t15.toNat]!.b9 r16.t13[r16.t15.toNat]!.bq r16.t13[r16.t15.toNat]!.dD r16.t13[r16.t15.toNat]!.fN (au.mk r16.t13[r16.t15.toNat]!.az.bC r16.t13[r16.t15.toNat]!.az.fN r16.t13[r16.t15.toNat]!.az.aq) r16.t13[r16.t15.toNat]!.aL r16.t13[r16.t15.toNat]!.aR r16.t13[r16.t15.toNat]!.aJ) r16.b1 with|S=>S|V r17=>S else match aah r16.b1.aI r16.t13[r16.t15.toNat]!.bq with|S=>S|V r18=>bif J (r16.t13[r16.t15.toNat]!.b9=0)then match r87 (aK.mk r16.b1.aj r16.b1.aB r16.b1.aC r18) (au.mk r16.t13[r16.t15.toNat]!.az.bC r16.t13[r16.t15.toNat]!.az.fN r16.t13[r16.t15.toNat]!.az.aq)with|S=>S|V r19=>match ah1 r16.b0 (aK.mk r16.b1.aj r16.b1.aB r16.b1.aC r18) r16.t13[r16.t15.toNat]!.dD r19 with|S=>S|V r20=>S else bif J (r16.t13[r16.t15.toNat]!.b9=5)then if 0<=r16.t13[r16.t15.toNat]!.fN/\r16.t13[r16.t15.toNat]!.fN<r16.t1.length then match ah1 r16.b0 (aK.mk r16.b1.aj r16.b1.aB r16.b1.aC r18) r16.t13[r16.t15.toNat]!.dD r16.t1[r16.t13[r16.t15.toNat]!.fN.toNat]! with|S=>S|V r21=>S else S else bif J (r16.t13[r16.t15.toNat]!.b9=1)then match r87 (aK.mk r16.b1.aj r16.b1.aB r16.b1.aC r18) (au.mk r16.t13[r16.t15.toNat]!.az.bC r16.t13[r16.t15.toNat]!.az.fN r16.t13[r16.t15.toNat]!.az.aq)with|S=>S|V r22=>match axh (aK.mk r16.b1.aj r16.b1.aB r16.b1.aC r18) r22 with|S=>S|V r23=>S else bif J (r16.t13[r16.t15.toNat]!.b9=3)then match r87 (aK.mk r16.b1.aj r16.b1.aB r16.b1.aC r18) (au.mk r16.t13[r16.t15.toNat]!.az.bC r16.t13[r16.t15.toNat]!.az.fN r16.t13[r16.t15.toNat]!.az.aq)with|S=>S|V r24=>match F3 r24 with|S=>S|V r25=>bif bif r25.fst then G else O then match M88 r16.b0 r16.t1 r16.t13[r16.t15.toNat]!.aL (aK.mk r16.b1.aj r16.b1.aB r16.b1.aC r18)with|S=>S|V r26=>S else bif bif r25.snd then G else O then match M88 r16.b0 r16.t1 r16.t13[r16.t15.toNat]!.aR (aK.mk r16.b1.aj r16.b1.aB r16.b1.aC r18)with|S=>S|V r27=>S else match M88 r16.b0 r16.t1 r16.t13[r16.t15.toNat]!.aL (aK.mk r16.b1.aj r16.b1.aB r16.b1.aC r18)with|S=>S|V r28=>match M88 r16.b0 r16.t1 r16.t13[r16.t15.toNat]!.aR (aK.mk r16.b1.aj r16.b1.aB r16.b1.aC r18)with|S=>S|V r29=>match ain r28 r29 with|S=>S|V r30=>S else bif J (r16.t13[r16.t15.toNat]!.b9=6)then match Qh r18 r16.t13[r16.t15.toNat]!.aJ with|S=>S|V r31=>S else S else S else V (r16.b1)
structure EM where
 t1:List aH
 t9:List aK
 (t13 t14:Int)
 b0:aN
 b1:ay
 (b2 b3:aK)
def an4(M88:aN->(aa aH)->(aa ay)->aK->af E88)(M167:aN->(aa aH)->ay->aK->af MZ)(p:EM):af (af EM):=
 bif J (p.t14<p.t13)then match aah p.b2.aI p.b1.bq with|S=>S|V r1=>match r87 (aK.mk p.b2.aj p.b2.aB p.b2.aC r1) (au.mk p.b1.az.bC p.b1.az.fN p.b1.az.aq)with|S=>S|V r2=>match F3 r2 with|S=>S|V r3=>bif r3.fst then if(p.t9++[aK.mk p.b2.aj p.b2.aB p.b2.aC r1]).length<=1073741824 then bif bif r3.snd then G else O then match Z4 (p.t9++[aK.mk p.b2.aj p.b2.aB p.b2.aC r1])with|S=>S|V r4=>V (S)else match M88 p.b0 p.t1 p.b1.aL (aK.mk p.b2.aj p.b2.aB p.b2.aC r1)with|S=>S|V r5=>V (V (EM.mk p.t1 (p.t9++[aK.mk p.b2.aj p.b2.aB p.b2.aC r1]) p.t13 (i64.wrap (p.t14+1)) p.b0 (ay.mk p.b1.b9 p.b1.bq p.b1.dD p.b1.fN (au.mk p.b1.az.bC p.b1.az.fN p.b1.az.aq) p.b1.aL p.b1.aR p.b1.aJ) r5 (aK.mk [] p.b3.aB [] p.b3.aI)))else S else bif bif r3.snd then G else O then match Z4 p.t9 with|S=>S|V r6=>V (S)else match M88 p.b0 p.t1 p.b1.aL (aK.mk p.b2.aj p.b2.aB p.b2.aC r1)with|S=>S|V r7=>V (V (EM.mk p.t1 p.t9 p.t13 (i64.wrap (p.t14+1)) p.b0 (ay.mk p.b1.b9 p.b1.bq p.b1.dD p.b1.fN (au.mk p.b1.az.bC p.b1.az.fN p.b1.az.aq) p.b1.aL p.b1.aR p.b1.aJ) r7 (aK.mk [] p.b3.aB [] p.b3.aI)))else V (S)
def ao4(M88:aN->(aa aH)->(aa ay)->aK->af E88)(M167:aN->(aa aH)->ay->aK->af MZ):=bK (an4 M88 M167)
def aCm(M88:aN->(aa aH)->(aa ay)->aK->af E88)(M167:aN->(aa aH)->ay->aK->af MZ)(a0:aN)(a1:aa aH)(a2:ay)(a3:aK):af MZ:=
 match ao4 M88 M167 (EM.mk a1 [] a2.fN (0) a0 (ay.mk a2.b9 a2.bq a2.dD a2.fN (au.mk a2.az.bC a2.az.fN a2.az.aq) a2.aL a2.aR a2.aJ) a3 (aK.mk [] (aH.mk (0) (0) (0)) [] (aH.mk (0) (0) (0))))with|S=>S|V r8=>bif J (r8.t14<r8.t13)then match aah r8.b2.aI r8.b1.bq with|S=>S|V r9=>match r87 (aK.mk r8.b2.aj r8.b2.aB r8.b2.aC r9) (au.mk r8.b1.az.bC r8.b1.az.fN r8.b1.az.aq)with|S=>S|V r10=>match F3 r10 with|S=>S|V r11=>bif r11.fst then if(r8.t9++[aK.mk r8.b2.aj r8.b2.aB r8.b2.aC r9]).length<=1073741824 then bif bif r11.snd then G else O then match Z4 (r8.t9++[aK.mk r8.b2.aj r8.b2.aB r8.b2.aC r9])with|S=>S|V r12=>V (r12)else match M88 r8.b0 r8.t1 r8.b1.aL (aK.mk r8.b2.aj r8.b2.aB r8.b2.aC r9)with|S=>S|V r13=>S else S else bif bif r11.snd then G else O then match Z4 r8.t9 with|S=>S|V r14=>V (r14)else match M88 r8.b0 r8.t1 r8.b1.aL (aK.mk r8.b2.aj r8.b2.aB r8.b2.aC r9)with|S=>S|V r15=>S else if(r8.t9++[r8.b2]).length<=1073741824 then match Z4 (r8.t9++[r8.b2])with|S=>S|V r16=>V (r16)else S
def oU:Nat->(aN->(aa aH)->(aa ay)->aK->af E88)×(aN->(aa aH)->ay->aK->af MZ)
 |0=>(λ_ _ _ _=>S,λ_ _ _ _=>S)
 |n+1=>(s88 (oU n).1 (oU n).2,aCm (oU n).1 (oU n).2)
def m88(n:Nat):aN->(aa aH)->(aa ay)->aK->af E88:=(oU n).1
def r88:aN->(aa aH)->(aa ay)->aK->af E88:=λa0 a1 a2 a3=>lim (λn=>m88 n a0 a1 a2 a3)
def aaE{l:aa aH}(h:l.length<=1000000):Wc l=V l:=by unfold Wc;rw[ig]
def qH{s:ax}(h1:s.aj.length<=1000000)(h2:s.aC.length<=1000000):FY s=V s:=by
 unfold FY;rw[aaE h1];dsimp only;rw[aaE h2]
def Pg{n m:Nat}{s:ax}(h:gE n m s){c:Int}(hc:cz c):Mk s c=V (kF s c):=by
 obtain⟨z,e,_,_⟩:=ua 8 h.time (mE hc);unfold Mk kF;rw[qY,e]
def Yd{r:Runner}{m:Nat}{s:ax}(h:gE r.fF.aj.length m s)(hn:r.fF.aj.length<=1000000)(hm:m<=1000000){v:Int}{x:aH}(h1:0<=v)(h2:v<r.fF.aj.length)(hx:NN x):Qi r s v x=V (Yn r.fF s v x):=by
 have hl:=h.len;have hs:=h.sl;obtain⟨z,e,_,_⟩:=kN hx r.fF.aj[v.toNat]!.ag r.fF.aj[v.toNat]!.ah;unfold Qi Yn;rw[qH (by omega) (by omega)];dsimp only;rw[bG ⟨h1,h2⟩,e];dsimp only;rw[ig,bG ⟨rfl,by omega⟩]
def MF{vars:aa aX}{inp:Bool}{m:Nat}{st:ax}(hst:gE vars.length m st){t:au}(hc:eV vars inp t=0):Pr st t=V (dO st.aj t):=by
 have e:adl t st=V (dO st.aj t,st):=eT (zg t+1) λn hn=>(NX hst n t (by omega) (B4 hc).1 (B4 hc).2).1;unfold Pr;rw[au.eta,e]
def EF(s:ax)(v:aH)(i:Nat):aa aH:=ni s.aC.length (λk=>if k<i/\cV s.aB k=O then cS s.aC[k]! v else s.aC[k]!)
def Nt(s:ax)(v:aH)(i:Nat):(EF s v i).length=s.aC.length:=iW ..
def ap9(s:ax)(v:aH):EF s v 0=s.aC:=OH rfl λi _=>by rw[bP (λh=>by omega)]
def abf(s:ax)(v:aH):EF s v s.aC.length=ni s.aC.length (λk=>if cV s.aB k=O then cS s.aC[k]! v else s.aC[k]!):=hU λi hi=>by
 by_cases c:cV s.aB (i:Nat)=O
 ·rw[bG ⟨hi,c⟩,bG c]
 ·rw[bP (λh=>c h.2),bP c]
def aaL{s:ax}{v:aH}{i:Nat}(h:i<s.aC.length):(EF s v i)[i]! =s.aC[i]! :=by
 rw[EF,nI h,bP (λh=>by omega)]
def Z5{s:ax}{v:aH}{i:Nat}(c:cV s.aB (i:Nat)=O):(EF s v i).set i (cS s.aC[i]! v)=EF s v (i+1):=by
 rw[EF,IA];refine hU λj _=> ?_;by_cases e:j=i
 ·subst e;rw[bG rfl,bG ⟨by omega,c⟩]
 ·rw[bP e];by_cases c2:j<i/\cV s.aB (j:Nat)=O
  ·rw[bG c2,bG ⟨by omega,c2.2⟩]
  ·rw[bP c2,bP (λh=>c2 ⟨by omega,h.2⟩)]
def agu{s:ax}{v:aH}{i:Nat}(c:cV s.aB (i:Nat)=G):EF s v i=EF s v (i+1):=by
 refine hU λj _=> ?_;by_cases e:j=i
 ·subst e;rw[bP (λh=>by omega),bP (λh=>by rw[c]at h;cases h.2)]
 ·by_cases c2:j<i/\cV s.aB (j:Nat)=O
  ·rw[bG c2,bG ⟨by omega,c2.2⟩]
  ·rw[bP c2,bP (λh=>c2 ⟨by omega,h.2⟩)]
def ano{n m:Nat}{s:ax}(h:gE n m s)(hn:n<=1000000)(hm:m<=1000000){x:aH}(hx:NN x):YO s x=V (aal s x):=by
 have hs:=h.sl;have hl:=h.len;obtain⟨v,e1,_⟩:=cZ (rnd:=JV) s.aC.length (λi (_:Unit)=>⟨(s.aC.length:Int),(i:Int),⟨s.aj,s.aB,EF s x i,s.aI⟩,x,⟨[],⟨0,0,0⟩,[],⟨0,0,0⟩⟩⟩) (λi _=>True) (λi b hi _=>by
  have hw:=fG hi (by omega);have i1:(i:Int)<(s.aC.length:Int):=by omega
  have i2:(0:Int)<=(i:Int):=by omega
  refine⟨(),?_,trivial⟩;unfold JV;dsimp only;by_cases hc:cV s.aB (i:Nat)=O
  ·simp only[ze,i1,i2,hi,cR,bD,dA,cF,pU (.inr h.count),hc,Nt,aaL hi,ob (.inr (h.slots i hi)) (.inr hx),hw,Z5 hc]
  ·have hc:cV s.aB (i:Nat)=G:=by simpa using hc
   simp only[i1,cR,bD,bA,pU (.inr h.count),hc,hw,agu hc]) (λb _=>by unfold JV;simp) (b:=()) trivial
 rw[ap9]at e1;have e1':Kv ⟨(s.aC.length:Int),0,s,x,⟨[],⟨0,0,0⟩,[],⟨0,0,0⟩⟩⟩=_:=e1;obtain⟨z,eb,_,_⟩:=ua 8 h.count (mE (c:=1) ⟨by decide,by decide⟩);unfold YO;rw[qH (by omega) (by omega)];dsimp only;rw[e1'];dsimp only;rw[gd,bA,bG (by rw[zl,Nt];simp;omega),qY,eb,abf];rfl
def Fa(a b:aa aH)(i:Nat):aa aH:=ni a.length (λk=>if k<i then cS a[k]! b[k]! else a[k]!)
def Xm(a b:aa aH)(i:Nat):(Fa a b i).length=a.length:=iW ..
def apl(a b:aa aH):Fa a b 0=a:=OH rfl λi _=>by rw[Am]
def aao(a b:aa aH):Fa a b a.length=ni a.length (λk=>cS a[k]! b[k]!):=hU λi hi=>by rw[bG hi]
def Wv{a b:aa aH}{i:Nat}(h:i<a.length):(Fa a b i)[i]! =a[i]! :=by rw[Fa,nI h,Am]
def Zt(a b:aa aH)(i:Nat):(Fa a b i).set i (cS a[i]! b[i]!)=Fa a b (i+1):=by
 rw[Fa,IA];refine hU λj _=> ?_;by_cases e:j=i
 ·subst e;rw[bG rfl,ig]
 ·rw[bP e];by_cases c:j<i
  ·rw[bG c,ig]
  ·rw[bP c,Am]
def oJ(a b:aa aH)(i:Nat):aa aH:=ni (max a.length i) (λk=>if k<i then slJ a b k else a[k]!)
def Eo(a b:aa aH)(i:Nat):(oJ a b i).length=max a.length i:=iW ..
def aqY(a b:aa aH):oJ a b 0=a:=OH (by omega) λi _=>by rw[Am]
def aaj(a b:aa aH):oJ a b b.length=ni (max a.length b.length) (slJ a b):=hU λi hi=>by
 by_cases c:i<b.length
 ·rw[bG c]
 ·rw[bP c];unfold slJ;rw[Am,ig]
def aap{a b:aa aH}{i:Nat}(h:i<a.length):(oJ a b i)[i]! =a[i]! :=by rw[oJ,nI (by omega),Am]
def abg{a b:aa aH}{i:Nat}(h:i<a.length)(k:i<b.length):(oJ a b i).set i (cS a[i]! b[i]!)=oJ a b (i+1):=by
 rw[oJ,IA,oJ,show max a.length i=max a.length (i+1)by omega];refine hU λj _=> ?_;by_cases e:j=i
 ·subst e;rw[bG rfl,ig];unfold slJ;rw[Am,Am]
 ·rw[bP e];by_cases c:j<i
  ·rw[bG c,ig]
  ·rw[bP c,Am]
def XK{a b:aa aH}{i:Nat}(h:a.length<=i):oJ a b i++[b[i]!]=oJ a b (i+1):=by
 rw[oJ,oJ,show max a.length i=i by omega,show max a.length (i+1)=i+1 by omega,MG]
 congr 1
 ·refine hU λj hj=> ?_;rw[bG hj,ig]
 ·rw[ig];unfold slJ;rw[bG h]
def YQ{n m:Nat}{s t:ax}(h:gE n m s)(k:gE n m t)(hn:n<=1000000)(hm:m<=1000000):H7 s t=V (pK s t):=by
 have hs:=h.sl;have hl:=h.len;have ks:=k.sl;have kl:=k.len;obtain⟨v,e1,_⟩:=cZ (rnd:=Hz) s.aj.length (λi (_:Unit)=>⟨(s.aj.length:Int),(i:Int),t,⟨[],⟨0,0,0⟩,[],⟨0,0,0⟩⟩,⟨Fa s.aj t.aj i,s.aB,s.aC,s.aI⟩⟩) (λi _=>True) (λi b hi _=>by
  have hw:=fG hi (by omega);have i1:(i:Int)<(s.aj.length:Int):=by omega
  have i2:(0:Int)<=(i:Int):=by omega
  have i3:(i:Int)<(t.aj.length:Int):=by omega
  refine⟨(),?_,trivial⟩;unfold Hz;dsimp only;simp only[ze,i1,i2,i3,hi,cR,bD,dA,cF,Xm,Wv hi,ob (.inr (h.vars i (by omega))) (.inr (k.vars i (by omega))),hw,Zt]) (λb _=>by unfold Hz;simp) (b:=()) trivial
 rw[apl]at e1;have e1':IT ⟨(s.aj.length:Int),0,t,⟨[],⟨0,0,0⟩,[],⟨0,0,0⟩⟩,s⟩=_:=e1;obtain⟨v2,e2,_⟩:=cZ (rnd:=HH) t.aC.length (λi (_:Unit)=>⟨t.aC,(t.aC.length:Int),(i:Int),⟨[],⟨0,0,0⟩,[],⟨0,0,0⟩⟩,⟨Fa s.aj t.aj s.aj.length,cS s.aB t.aB,oJ s.aC t.aC i,cS s.aI t.aI⟩⟩) (λi _=>True) (λi b hi _=>by
  have hw:=fG hi (by omega);have i1:(i:Int)<(t.aC.length:Int):=by omega
  have i2:(0:Int)<=(i:Int):=by omega
  refine⟨(),?_,trivial⟩;unfold HH;dsimp only;by_cases c:i<s.aC.length
  ·have i3:(i:Int)<((oJ s.aC t.aC i).length:Int):=by rw[Eo];omega
   have i4:i<(oJ s.aC t.aC i).length:=by omega
   simp only[ze,i1,i2,i3,i4,cR,bD,dA,cF,aap c,ob (.inr (h.slots i c)) (.inr (k.slots i hi)),hw,abg c hi]
  ·have i3:¬(i:Int)<((oJ s.aC t.aC i).length:Int):=by rw[Eo];omega
   have i4:(oJ s.aC t.aC (i+1)).length<=1073741824:=by rw[Eo];omega
   simp only[ze,i1,i2,i3,i4,cR,eR,bD,bA,dA,cF,hw,XK (show s.aC.length<=i by omega)]) (λb _=>by unfold HH;simp) (b:=()) trivial
 rw[aqY]at e2;have e2':J8 ⟨t.aC,(t.aC.length:Int),0,⟨[],⟨0,0,0⟩,[],⟨0,0,0⟩⟩,⟨Fa s.aj t.aj s.aj.length,cS s.aB t.aB,s.aC,cS s.aI t.aI⟩⟩=_:=e2;unfold H7;rw[qH (by omega) (by omega)];dsimp only;rw[e1'];dsimp only;rw[gd,bA,ob (.inr h.count) (.inr k.count)];dsimp only;rw[ob (.inr h.time) (.inr k.time)];dsimp only;rw[e2'];dsimp only;rw[gd,bA,aao,aaj];rfl
def qy(body:ax->ax)(t:au)(c:Int):Nat->ax->aa ax
 |0,s=>[s]
 |n+1,s=>(if cV (dO s.aj t) 0=O then[kF s c]else[])++(if cI (dO s.aj t)=O then qy body t c n (body (kF s c))else[])
def AD:aa ax->ax
 |[]=>⟨[],cG,[],cG⟩
 |x::l=>l.foldl pK x
def brA(v:aH)(a b:ax->ax)(s:ax):ax:=
 if cV v 0=G then a s else if cI v=G then b s else pK (a s) (b s)
def GO(f:aN)(hv:aa aH)(a b:ax->ax)(x:ay)(s:ax):ax:=
 if x.b9=4 then AD (qy a x.az x.bq x.fN.toNat s)
 else if x.b9=0 then Yn f (kF s x.bq) x.dD (dO s.aj x.az)
 else if x.b9=1 then aal (kF s x.bq) (dO s.aj x.az)
 else if x.b9=5 then Yn f (kF s x.bq) x.dD hv[x.fN.toNat]!
 else if x.b9=3 then brA (dO s.aj x.az) a b (kF s x.bq)
 else if x.b9=6 then⟨s.aj,s.aB,s.aC,qO (F4 8 s.aI (fJ x.bq)) x.aJ⟩
 else kF s x.bq
def j5(f:aN)(hv:aa aH):aa ay->ax->ax
 |[],s=>s
 |x::l,s=>j5 f hv l (GO f hv (λs=>j5 f hv x.aL s) (λs=>j5 f hv x.aR s) x s)
termination_by l=>zg l
decreasing_by
 all_goals first|exact(bt (zm ..)).1|exact(bt (zm ..)).2|exact dV _ _
def M4(f:aN)(hv:aa aH)(s:ax):j5 f hv [] s=s:=by rw[j5]
def Hp(f:aN)(hv:aa aH)(x:ay)(l:aa ay)(s:ax):j5 f hv (x::l) s=j5 f hv l (GO f hv (j5 f hv x.aL) (j5 f hv x.aR) x s):=by rw[j5]
def VQ{n m:Nat}:∀{l:aa ax},l≠[]->(∀q∈l,gE n m q)->gE n m (AD l)
 |[],h,_=>dF rfl h
 |x::l,_,h=>by
  have key:∀(l:aa ax) (x:ax),gE n m x->(∀q∈l,gE n m q)->gE n m (l.foldl pK x):=λl=>by
   induction l with
   |nil=>intro x hx _;exact hx
   |cons y l ih=>intro x hx hl;exact ih (pK x y) (Et hx (hl y (zm ..))) (λq hq=>hl q (zO _ hq))
  exact key l x (h x (zm ..)) (λq hq=>h q (zO _ hq))
def Jr{vars:aa aX}{a:ax->ax}{t:au}{c:Int}{o:Nat}(hc:cz c)(ht:eV vars G t=0)(ha:∀s m,gE vars.length m s->gE vars.length (m+o) (a s)):∀(N:Nat) (s:ax) (m:Nat),gE vars.length m s->(∀q∈qy a t c N s,gE vars.length (m+N*o) q)/\qy a t c N s≠[]
 |0,s,m,h=>by
  rw[qy];refine⟨λq hq=> ?_,by simp⟩;rw[zy.1 hq];exact h.weak (by omega)
 |n+1,s,m,h=>by
  rw[qy];have hz:=zero_or (lW h t ht);have h1:=tR h hc;obtain⟨i1,i2⟩:=Jr hc ht ha n (a (kF s c)) (m+o) (ha _ _ h1);have e:m+o+n*o=m+(n+1)*o:=by rw[yb,Nat.one_mul];omega
  refine⟨λq hq=> ?_,λe=> ?_⟩
  ·rcases zV.1 hq with hq|hq
   ·split at hq
    ·rw[zy.1 hq];exact h1.weak (by omega)
    ·cases hq
   ·split at hq
    ·rw[<-e];exact i1 q hq
    ·cases hq
  ·obtain⟨e1,e2⟩:=List.append_eq_nil_iff.1 e;cases hn:cI (dO s.aj t)with
   |true=>rw[hn,bG rfl]at e2;exact i2 e2
   |false=>
    rw[hn]at hz;have hz:cV (dO s.aj t) 0=O:=by simpa using hz
    rw[hz,bG rfl]at e1;cases e1
def iR(l:aa ay):Nat:=(eN l).2.1.toNat
def SN{l:aa Int}(h1:1<=l.length/\l.length<=32)(h0:(0:Int)<=l[0]!)(hr:fQ l=O)(h6:l[l.length-1]!<=67108864):∀b∈l,cz b:=λb hb=>by
 obtain⟨i,hi,e⟩:=List.mem_iff_getElem.1 hb;have e:l[i]! =b:=by rw[getElem!_pos l i hi];exact e
 have a1:l[0]!<=l[i]! :=by
  by_cases h:i=0
  ·subst h;exact zq _
  ·exact y7 (RP hr (by omega) hi)
 have a2:l[i]!<=l[l.length-1]! :=by
  by_cases h:i=l.length-1
  ·subst h;exact zq _
  ·exact y7 (RP hr (by omega) (by omega))
 rw[<-e];unfold cz;omega
def DZ{f:aN}{last:Bool}{x:ay}(hx:aco f last x):cz x.bq:=by
 have:=hx.cost;unfold cz;omega
def aqP{n m o p:Nat}{v:aH}{a b:ax->ax}{s:ax}(h:gE n m s)(ha:∀s m,gE n m s->gE n (m+o) (a s))(hb:∀s m,gE n m s->gE n (m+p) (b s)):gE n (m+max o p) (brA v a b s):=by
 unfold brA;split
 ·exact(ha _ _ h).weak (by omega)
 split
 ·exact(hb _ _ h).weak (by omega)
 ·exact Et ((ha _ _ h).weak (by omega)) ((hb _ _ h).weak (by omega))
def KM{f:aN}{hv:aa aH}(hh:hv.length=f.ak.length)(hvn:∀i,i<hv.length->NN hv[i]!){a b:ax->ax}{last:Bool}{x:ay}(hx:aco f last x)
  (p1:0<=(eN x.aL).2.1) (p2:0<=(eN x.aR).2.1)
  (ha:∀s m,gE f.aj.length m s->gE f.aj.length (m+iR x.aL) (a s)) (hb:∀s m,gE f.aj.length m s->gE f.aj.length (m+iR x.aR) (b s))
  {s:ax} {m:Nat} (h:gE f.aj.length m s):gE f.aj.length (m+(uO x).1.toNat) (GO f hv a b x s):=by
 have hc:=DZ hx;have h1:=tR h hc;have hvl:=lW h x.az hx.term;unfold GO uO;by_cases a4:x.b9=4
 ·simp only[a4,Int.reduceEq,cF,gA];have hn:=hx.n4 a4;obtain⟨i1,i2⟩:=Jr hc hx.term ha x.fN.toNat s m h;have e:(x.fN*(eN x.aL).2.1).toNat=x.fN.toNat*iR x.aL:=by rw[iR,Int.toNat_mul hn.1 p1]
  rw[e];exact VQ i2 i1
 by_cases a0:x.b9=0
 ·simp only[a0,Int.reduceEq,cF,gA];exact Tl h1 hvl
 by_cases a1:x.b9=1
 ·simp only[a1,Int.reduceEq,cF,gA];exact adb h1 hvl
 by_cases a5:x.b9=5
 ·simp only[a5,Int.reduceEq,cF,gA];obtain⟨n1,n2⟩:=hx.n5 a5;exact Tl h1 (hvn _ (by omega))
 by_cases a3:x.b9=3
 ·simp only[a3,Int.reduceEq,cF,gA];have:=aqP (v:=dO s.aj x.az) h1 ha hb;unfold iR at this;refine this.weak ?_;omega
 by_cases a6:x.b9=6
 ·simp only[a6,Int.reduceEq,cF,gA];obtain⟨_,q2,q3,q4,q5⟩:=hx.alO a6;have k:=(EE (a:=F4 8 s.aI (fJ x.bq)) h1.time q4 (by omega) (SN q2 q3 q4 q5)).2.2.1;exact⟨h.len,h.vars,h.count,h.sl,h.slots,k⟩
 ·simp only[a0,a1,a3,a4,a5,a6,gA];exact h1
def GS{f:aN}{top:Bool}{x:ay}{l:aa ay}(h:cg f top (x::l)=0):iR (x::l)=(uO x).1.toNat+iR l:=by
 obtain⟨h1,h2,h3,h4⟩:=jG h;have ho:=tJ h1;have p1:=(jQ f _ _ _ (zJ _) h2).1;have p2:=(jQ f _ _ _ (zJ _) h3).1;have p3:=(jQ f _ _ _ (zJ _) h4).1;have e1:0<=(uO x).1:=by
  unfold uO;by_cases a1:x.b9=1
  ·rw[bG a1];show (0:Int)<=1;decide
  by_cases a3:x.b9=3
  ·rw[bP a1,bG a3];dsimp only;omega
  by_cases a4:x.b9=4
  ·rw[bP a1,bP a3,bG a4];exact zF (ho.n4 a4).1 p1
  ·rw[bP a1,bP a3,bP a4];exact zq _
 unfold iR;rw[(afj x l).1];omega
def jL{f:aN}{hv:aa aH}(hh:hv.length=f.ak.length)(hvn:∀i,i<hv.length->NN hv[i]!):∀(n:Nat) (l:aa ay) (top:Bool),zg l<n->cg f top l=0->∀(s:ax) (m:Nat),gE f.aj.length m s->gE f.aj.length (m+iR l) (j5 f hv l s)
 |0,_,_,h,_,_,_,_=>by omega
 |n+1,[],_,_,_,s,m,h=>by rw[M4];exact h.weak (by omega)
 |n+1,x::l,top,hn,hc,s,m,h=>by
  obtain⟨h1,h2,h3,h4⟩:=jG hc;have ho:=tJ h1;have hsz:=bt (zm (a:=x) (l:=l));have ht:=dV x l;have p1:=(jQ f n x.aL G (by omega) h2).1;have p2:=(jQ f n x.aR G (by omega) h3).1;rw[Hp,GS hc];have i1:=KM hh hvn ho p1 p2 (jL hh hvn n x.aL G (by omega) h2) (jL hh hvn n x.aR G (by omega) h3) h;exact(jL hh hvn n l top (by omega) h4 _ _ i1).weak (by omega)
def Rj{α:Type}[Inhabited α](g:α->α->α)(l:aa α)(x:α){i:Nat}(h:i<l.length):(l.take (i+1)).foldl g x=g ((l.take i).foldl g x) l[i]! :=by
 rw[List.take_add_one,wA,zu h,getElem!_pos l i h];rfl
def ME{n m:Nat}:∀(l:aa ax) (x:ax),gE n m x->(∀q∈l,gE n m q)->gE n m (l.foldl pK x)
 |[],x,hx,_=>hx
 |y::l,x,hx,hl=>ME l (pK x y) (Et hx (hl y (zm ..))) (λq hq=>hl q (zO _ hq))
def aaq(M83:Runner->(aa ay)->ax->af qR)(M156:Runner->ay->ax->af iy)(M160:Runner->ay->ax->af iz){n m:Nat}(hn:n<=1000000)(hm:m<=1000000){l:aa ax}{x:ax}(hl:l.length<=1000000)(hx:gE n m x)(hq:∀q∈l,gE n m q)(c t:aH):
  p6 M83 M156 M160 ⟨l,(l.length:Int),0,⟨[],c,[],t⟩,x⟩=V ⟨l,(l.length:Int),(l.length:Int),⟨[],c,[],t⟩,l.foldl pK x⟩:=by
 obtain⟨v,e1,_⟩:=cZ (rnd:=HT M83 M156 M160) l.length (λi (_:Unit)=>⟨l,(l.length:Int),(i:Int),⟨[],c,[],t⟩,(l.take i).foldl pK x⟩) (λi _=>True) (λi b hi _=>by
  have hw:=fG hi hl;have i1:(i:Int)<(l.length:Int):=by omega
  have i2:(0:Int)<=(i:Int):=by omega
  have e:=YQ (ME (l.take i) x hx (λq k=>hq q (List.mem_of_mem_take k))) (hq _ (bh hi)) hn hm;refine⟨(),?_,trivial⟩;unfold HT;dsimp only;simp only[ze,i1,i2,cR,bD,dA,cF,e,hw,Rj pK l x hi]) (λb _=>by unfold HT;simp) (b:=()) trivial
 rw[zD]at e1;exact e1
def Tk(M83:Runner->(aa ay)->ax->af qR)(M156:Runner->ay->ax->af iy)(M160:Runner->ay->ax->af iz){n m:Nat}(hn:n<=1000000)(hm:m<=1000000){L:aa ax}(h0:L≠[])(hl:L.length<=1000000)(hq:∀q∈L,gE n m q)(c t:aH):
  1<=L.length/\p6 M83 M156 M160 (mw.mk (yd 1 L) ((yd 1 L).length:Int) (0) (ax.mk [] c [] t) L[0]!)=V (mw.mk (yd 1 L) ((yd 1 L).length:Int) ((yd 1 L).length:Int) (ax.mk [] c [] t) (AD L)):=by
 cases L with
 |nil=>exact dF rfl h0
 |cons x l=>
  have hx:=hq x (zm ..);have hq2:∀q∈l,gE n m q:=λq k=>hq q (zO _ k);exact⟨by simp,aaq M83 M156 M160 hn hm (l:=l) (x:=x) (by simp at hl;omega) hx hq2 c t⟩
def MH(a:ax->ax)(t:au)(c:Int):∀(N:Nat) (s:ax),(qy a t c N s).length<=N+1
 |0,s=>by rw[qy];simp
 |n+1,s=>by
  rw[qy,zl];have:=MH a t c n (a (kF s c));split<;>split<;>simp<;>omega
def ao0(M83:Runner->(aa ay)->ax->af qR)(M156:Runner->ay->ax->af iy)(M160:Runner->ay->ax->af iz){r:Runner}(hn:r.fF.aj.length<=1000000){a:ax->ax}{o:Nat}{x:ay}(hN:0<=x.fN/\x.fN<=4096)(hc:cz x.bq)(ht:eV r.fF.aj G x.az=0)
  (ha:∀s m,gE r.fF.aj.length m s->gE r.fF.aj.length (m+o) (a s)) {s:ax} {m:Nat} (h:gE r.fF.aj.length m s) (hm:m+x.fN.toNat*o<=1000000)
  (h1:∀s m,gE r.fF.aj.length m s->m+o<=1000000->M83 r x.aL s=V (a s)):
  afm M83 M156 M160 r x s=V (AD (qy a x.az x.bq x.fN.toNat s)):=by
 obtain⟨okAll,neAll⟩:=Jr hc ht ha x.fN.toNat s m h;have lenAll:=MH a x.az x.bq x.fN.toNat s;obtain⟨i,v,e1,⟨hi,hV1,hV2,hV3,hV4⟩,hcc⟩:=oE (rnd:=Aw M83 M156 M160) x.fN.toNat (λi (b:aa ax×ax×ax)=>⟨b.1,O,x.fN,(i:Int),r,x,b.2.1,⟨[],b.2.2.aB,[],b.2.2.aI⟩⟩)
  (λi b=>i<=x.fN.toNat/\gE r.fF.aj.length (m+i*o) b.2.1/\b.1.length<=i/\b.1++qy a x.az x.bq (x.fN.toNat-i) b.2.1=qy a x.az x.bq x.fN.toNat s/\True) (λi b=>cI (dO b.2.1.aj x.az)=G) (λi b hi hb=>by
  obtain⟨L,b,z⟩:=b;obtain⟨_,hb,hL,hr,_⟩:=hb;dsimp only at hb hr hL;obtain⟨k,hk⟩:∃k,x.fN.toNat-i=k+1:=⟨x.fN.toNat-i-1,by omega⟩;have hk2:x.fN.toNat-(i+1)=k:=by omega
  rw[hk,qy]at hr;have hio:i*o+o<=x.fN.toNat*o:=by
   have:=yK o (show i+1<=x.fN.toNat by omega);rw[yb,Nat.one_mul]at this;exact this
  have hw:i64.wrap ((i:Int)+1)=((i+1:Nat):Int):=by rw[aG];omega
  have i1:(i:Int)<x.fN:=by omega
  have hA:=tR hb hc;have ea:=Pg hb hc;have hsl:=hA.sl;have hln:=hA.len;have hnn:=lW hA x.az ht;have ev:Pr (kF b x.bq) x.az=V (dO b.aj x.az):=MF hA ht;have et:=Cp (a:=dO b.aj x.az) (.inr hnn);have hz:(cI (dO b.aj x.az)||cV (dO b.aj x.az) 0)=O:=zero_or hnn;have e:=h1 _ _ hA (by omega);have ec:=qH (s:=kF b x.bq) (by omega) (by omega);have el:(L++[kF b x.bq]).length<=1073741824:=by rw[zl,yM];omega
  by_cases hno:cI (dO b.aj x.az)=O
  ·rw[bG hno]at hr;refine .inl ?_;have hnext:gE r.fF.aj.length (m+(i+1)*o) (a (kF b x.bq)):=by
    have:=ha _ _ hA;rw[yb,Nat.one_mul];exact this.weak (by omega)
   by_cases hh:cV (dO b.aj x.az) 0=O
   ·rw[bG hh]at hr;refine⟨(L++[kF b x.bq],a (kF b x.bq),z),?_,by omega,hnext,by rw[zl,yM];omega,by rw[hk2,yQ];exact hr,trivial⟩;unfold Aw;simp only[i1,cR,bD,au.eta,ea,ev,et,ec,el,hh,hno,bA,cF,e,ay.eta,hw]
   ·rw[bP hh,yw]at hr;have hh:cV (dO b.aj x.az) 0=G:=by simpa using hh
    refine⟨(L,a (kF b x.bq),z),?_,by omega,hnext,Nat.le_succ_of_le hL,by rw[hk2];exact hr,trivial⟩;unfold Aw;simp only[i1,cR,bD,au.eta,ea,ev,et,hh,hno,bA,e,ay.eta,hw]
  ·have hno:cI (dO b.aj x.az)=G:=by simpa using hno
   refine .inr ⟨?_,hno⟩;have hh:cV (dO b.aj x.az) 0=O:=by rw[hno]at hz;simpa using hz
   unfold Aw;simp only[i1,cR,bD,au.eta,ea,ev,et,ec,el,hh,hno,bA,cF]) (λb _=>by
   unfold Aw;dsimp only;rw[gd];rfl) (b:=([],s,⟨[],⟨0,0,0⟩,[],⟨0,0,0⟩⟩)) ⟨by omega,h.weak (by omega),by simp,rfl,trivial⟩
 obtain⟨L,b,z⟩:=v;dsimp only at hV1 hV2 hV3 hcc;have e1':J6 M83 M156 M160 ⟨[],O,x.fN,0,r,x,s,⟨[],⟨0,0,0⟩,[],⟨0,0,0⟩⟩⟩=V ⟨L,O,x.fN,(i:Int),r,x,b,⟨[],z.aB,[],z.aI⟩⟩:=e1;unfold afm;rw[au.eta,ay.eta,e1'];rcases hcc with rfl|⟨hi2,hno⟩
 ·rw[xS,qy]at hV3;dsimp only;rw[gd,bA];simp only[bD];rw[bG (by rw[zl,yM];omega),hV3];obtain⟨j1,j2⟩:=Tk M83 M156 M160 hn hm neAll (by omega) okAll z.aB z.aI;rw[ig,bG (by first|exact⟨rfl,j1⟩|exact⟨trivial,j1⟩),ig,j2];dsimp only;rw[gd,bA]
 ·obtain⟨k,hk⟩:∃k,x.fN.toNat-i=k+1:=⟨x.fN.toNat-i-1,by omega⟩;rw[hk,qy]at hV3;have hA:=tR hV1 hc;have ea:=Pg hV1 hc;have hio:i*o<=x.fN.toNat*o:=yK o hi;have hsl:=hA.sl;have hln:=hA.len;have hnn:=lW hA x.az ht;have ev:Pr (kF b x.bq) x.az=V (dO b.aj x.az):=MF hA ht;have et:=Cp (a:=dO b.aj x.az) (.inr hnn);have hz:(cI (dO b.aj x.az)||cV (dO b.aj x.az) 0)=O:=zero_or hnn;have ec:=qH (s:=kF b x.bq) (by omega) (by omega);have hh:cV (dO b.aj x.az) 0=O:=by rw[hno]at hz;simpa using hz
  rw[hh,hno,bG rfl,bP (by decide),yC]at hV3;dsimp only;rw[nj,bD,ea];dsimp only;rw[au.eta,ev];dsimp only;rw[et];dsimp only;rw[hh,hno,bD,ec];dsimp only;rw[bG (by rw[zl,yM];omega),hV3];obtain⟨j1,j2⟩:=Tk M83 M156 M160 hn hm neAll (by omega) okAll z.aB z.aI;rw[ig,bG (by first|exact⟨rfl,j1⟩|exact⟨trivial,j1⟩),ig,j2];dsimp only;rw[gd,bA];rfl
def aoS(M83:Runner->(aa ay)->ax->af qR)(M156:Runner->ay->ax->af iy)(M160:Runner->ay->ax->af iz){r:Runner}(hn:r.fF.aj.length<=1000000){a b:ax->ax}{o p:Nat}{x:ay}{s:ax}{m:Nat}(h:gE r.fF.aj.length m s)(hc:eV r.fF.aj G x.az=0)(hm:m+max o p<=1000000)
  (ha:∀s m,gE r.fF.aj.length m s->gE r.fF.aj.length (m+o) (a s)) (hb:∀s m,gE r.fF.aj.length m s->gE r.fF.aj.length (m+p) (b s))
  (h1:M83 r x.aL s=V (a s)) (h2:M83 r x.aR s=V (b s)):
  adY M83 M156 M160 r x s=V (brA (dO s.aj x.az) a b s):=by
 have hsl:=h.sl;have hln:=h.len;unfold adY brA;rw[au.eta,MF h hc];dsimp only;rw[Cp (.inr (lW h x.az hc))];have ec:=qH (s:=s) (by omega) (by omega);have ej:=YQ ((ha _ _ h).weak (show m+o<=m+max o p by omega)) ((hb _ _ h).weak (show m+p<=m+max o p by omega)) hn hm;dsimp only;cases cV (dO s.aj x.az) 0 with
 |false=>simp only[bA,bD,h1,cF]
 |true=>
  cases cI (dO s.aj x.az)with
  |false=>simp only[bA,bD,h2,cF,gA,Bool.true_eq_false]
  |true=>simp only[bA,bD,h1,h2,ec,ej,gA,Bool.true_eq_false]
def azT(M83:Runner->(aa ay)->ax->af qR)(M156:Runner->ay->ax->af iy)(M160:Runner->ay->ax->af iz){r:Runner}(hn:r.fF.aj.length<=1000000)(hh:r.ak.length=r.fF.ak.length)(hvn:∀i,i<r.ak.length->NN r.ak[i]!)
  {top:Bool} {l:aa ay} (hl:l.length<=1000000) (hc:cg r.fF top l=0) {s:ax} {m:Nat} (h:gE r.fF.aj.length m s) (hm:m+iR l<=1000000)
  (h1:∀x∈l,∀s m,x.b9=3->gE r.fF.aj.length m s->m+max (iR x.aL) (iR x.aR)<=1000000->M160 r x s=V (brA (dO s.aj x.az) (j5 r.fF r.ak x.aL) (j5 r.fF r.ak x.aR) s))
  (h3:∀x∈l,∀s m,x.b9=4->gE r.fF.aj.length m s->m+x.fN.toNat*iR x.aL<=1000000->M156 r x s=V (AD (qy (j5 r.fF r.ak x.aL) x.az x.bq x.fN.toNat s))):
  s83 M83 M156 M160 r l s=V (j5 r.fF r.ak l s):=by
 obtain⟨v,e1,hV⟩:=cZ (rnd:=Tg M83 M156 M160) l.length (λi (b:ax×ax)=>⟨l,(l.length:Int),(i:Int),r,b.1,⟨[],b.2.aB,[],b.2.aI⟩⟩)
  (λi b=>(∃k,gE r.fF.aj.length k b.1/\k+iR (l.drop i)<=1000000)/\cg r.fF top (l.drop i)=0/\j5 r.fF r.ak (l.drop i) b.1=j5 r.fF r.ak l s) (λi b hi hb=>by
  obtain⟨b,z⟩:=b;obtain⟨⟨k,hb,hk⟩,hst,hr⟩:=hb;dsimp only at hb hr;rw[drop_cons hi]at hk hst hr;rw[Hp]at hr;have hmem:=bh hi;generalize hx:l[i]! =x at*;obtain⟨g1,g2,g3,g4⟩:=jG hst;have ho:=tJ g1;have p1:=(jQ r.fF _ _ _ (zJ _) g2).1;have p2:=(jQ r.fF _ _ _ (zJ _) g3).1;have aT:=jL hh hvn _ x.aL G (zJ _) g2;have aE:=jL hh hvn _ x.aR G (zJ _) g3;rw[GS hst]at hk;have hnext:=KM hh hvn ho p1 p2 aT aE hb;refine⟨(GO r.fF r.ak (j5 r.fF r.ak x.aL) (j5 r.fF r.ak x.aR) x b,z),?_,⟨_,hnext,by omega⟩,g4,hr⟩;have hw:=fG hi hl;have i1:(i:Int)<(l.length:Int):=by omega
  have i2:(0:Int)<=(i:Int):=by omega
  have hcost:=DZ ho;unfold Tg;dsimp only;simp only[ze,i1,i2,hx,cR,bD,dA,cF,ay.eta,au.eta,hw];unfold GO;by_cases d4:x.b9=4
  ·have hN:=ho.n4 d4;have eu:(uO x).1.toNat=x.fN.toNat*iR x.aL:=by
    unfold uO;simp only[d4,Int.reduceEq,cF,gA];rw[iR,Int.toNat_mul hN.1 p1]
   have e:=h3 x hmem b k d4 hb (by omega);simp only[d4,Int.reduceEq,cR,bD,cF,e]
  have ea:=Pg hb hcost;have hA:=tR hb hcost;have ev:Pr (kF b x.bq) x.az=V (dO b.aj x.az):=MF hA ho.term;have hnn:NN (dO b.aj x.az):=lW hb x.az ho.term;simp only[d4,eR,bA,ea,gA];by_cases d0:x.b9=0
  ·obtain⟨v1,v2⟩:=ho.var (.inl d0);simp only[d0,Int.reduceEq,cR,eR,bD,bA,cF,gA,ev,Yd hA hn (by omega) v1 v2 hnn]
  by_cases d1:x.b9=1
  ·have e:=ano hA hn (by omega) hnn;simp only[d1,Int.reduceEq,cR,eR,bD,bA,cF,gA,ev,e]
  by_cases d5:x.b9=5
  ·obtain⟨v1,v2⟩:=ho.var (.inr d5);obtain⟨n1,n2⟩:=ho.n5 d5;have hlt:x.fN.toNat<r.ak.length:=by omega
   have e:=Yd hA hn (by omega) v1 v2 (hvn _ hlt);simp only[d5,Int.reduceEq,cR,eR,bD,bA,cF,gA];rw[ig,e]
  by_cases d3:x.b9=3
  ·have eu:(uO x).1.toNat=max (iR x.aL) (iR x.aR):=by
    unfold uO iR;simp only[d3,Int.reduceEq,cF,gA];omega
   have e:=h1 x hmem (kF b x.bq) k d3 hA (by omega);simp only[d3,Int.reduceEq,cR,eR,bD,bA,cF,gA,e];rfl
  by_cases d6:x.b9=6
  ·obtain⟨_,q2,q3,q4,q5⟩:=ho.alO d6;have e:=(EE (a:=F4 8 b.aI (fJ x.bq)) hA.time q4 (by omega) (SN q2 q3 q4 q5)).1;have e:L3 (kF b x.bq).aI x.aJ=_:=e;simp only[d6,Int.reduceEq,cR,eR,bD,bA,cF,gA];rw[e];rfl
  ·simp only[d0,d1,d3,d5,d6,eR,bA,gA]) (λb _=>by unfold Tg;simp) (b:=(s,⟨[],⟨0,0,0⟩,[],⟨0,0,0⟩⟩)) ⟨⟨m,h,by rw[List.drop_zero];exact hm⟩,by rw[List.drop_zero];exact hc,by rw[List.drop_zero]⟩
 obtain⟨b,z⟩:=v;have e1':Uj M83 M156 M160 ⟨l,(l.length:Int),0,r,s,⟨[],⟨0,0,0⟩,[],⟨0,0,0⟩⟩⟩=V ⟨l,(l.length:Int),(l.length:Int),r,b,⟨[],z.aB,[],z.aI⟩⟩:=e1;have hr:=hV.2.2;dsimp only at hr;rw[List.drop_length,M4]at hr;unfold s83;rw[e1',<-hr];dsimp only;rw[gd,bA]
def vF{f:aN}{x:ay}:∀{top:Bool} {l:aa ay},cg f top l=0->x∈l->cg f G x.aL=0/\cg f G x.aR=0
 |_,[],_,h=>by cases h
 |top,y::l,hc,h=>by
  obtain⟨h1,h2,h3,h4⟩:=jG hc;rcases zB.1 h with rfl|h
  ·exact⟨h2,h3⟩
  ·exact vF h4 h
def amF{r:Runner}(hn:r.fF.aj.length<=1000000)(hh:r.ak.length=r.fF.ak.length)(hvn:∀i,i<r.ak.length->NN r.ak[i]!):∀n:Nat,
  (∀(top:Bool) (l:aa ay) (s:ax) (m:Nat),2*zg l<n->fI l<=1000000->cg r.fF top l=0->gE r.fF.aj.length m s->m+iR l<=1000000->UW n r l s=V (j5 r.fF r.ak l s))/\
  (∀(x:ay) (s:ax) (m:Nat),2*zg x.aL+1<n->fI x.aL<=1000000->(0<=x.fN/\x.fN<=4096)->cz x.bq->eV r.fF.aj G x.az=0->cg r.fF G x.aL=0->gE r.fF.aj.length m s->m+x.fN.toNat*iR x.aL<=1000000->CR n r x s=V (AD (qy (j5 r.fF r.ak x.aL) x.az x.bq x.fN.toNat s)))/\
  (∀(x:ay) (s:ax) (m:Nat),2*zg x.aL+1<n->2*zg x.aR+1<n->fI x.aL<=1000000->fI x.aR<=1000000->eV r.fF.aj G x.az=0->cg r.fF G x.aL=0->cg r.fF G x.aR=0->gE r.fF.aj.length m s->m+max (iR x.aL) (iR x.aR)<=1000000->E5 n r x s=V (brA (dO s.aj x.az) (j5 r.fF r.ak x.aL) (j5 r.fF r.ak x.aR) s))
 |0=>⟨λ_ _ _ _ h=>by omega,λ_ _ _ h=>by omega,λ_ _ _ h=>by omega⟩
 |n+1=>by
  obtain⟨i1,i2,i3⟩:=amF hn hh hvn n;refine⟨λtop l s m h hN hc hs hm=> ?_,λx s m h hN hx hc ht hst hs hm=> ?_,λx s m h h' hN hN' ht hst hst' hs hm=> ?_⟩
  ·refine azT (UW n) (CR n) (E5 n) hn hh hvn (zK (kC l) hN) hc hs hm (λx hx s m h3 hs hm=> ?_) (λx hx s m h4 hs hm=> ?_)
   ·have:=bt hx;have:=Ru hx;obtain⟨_,k⟩:=Ei hc hx;obtain⟨k1,k2⟩:=vF hc hx;exact i3 x s m (by omega) (by omega) (by omega) (by omega) k.term k1 k2 hs hm
   ·have:=(bt hx).1;obtain⟨_,k⟩:=Ei hc hx;obtain⟨k1,k2⟩:=vF hc hx;exact i2 x s m (by omega) (zK (Ru hx).1 hN) (k.n4 h4) (DZ k) k.term k1 hs hm
  ·refine ao0 (UW n) (CR n) (E5 n) hn hx hc ht (jL hh hvn _ x.aL G (zJ _) hst) hs hm (λs m hs hm=>i1 G x.aL s m (by omega) hN hst hs hm)
  ·exact aoS (UW n) (CR n) (E5 n) hn hs ht hm (jL hh hvn _ x.aL G (zJ _) hst) (jL hh hvn _ x.aR G (zJ _) hst') (i1 G x.aL s m (by omega) hN hst hs (by omega)) (i1 G x.aR s m (by omega) hN' hst' hs (by omega))
def ayi{r:Runner}(hn:r.fF.aj.length<=1000000)(hh:r.ak.length=r.fF.ak.length)(hvn:∀i,i<r.ak.length->NN r.ak[i]!){top:Bool}{l:aa ay}{s:ax}{m:Nat}(hN:fI l<=1000000)(hc:cg r.fF top l=0)(hs:gE r.fF.aj.length m s)(hm:m+iR l<=1000000):r83 r l s=V (j5 r.fF r.ak l s):=
 eT (2*zg l+1) λn h=>(amF hn hh hvn n).1 top l s m (by omega) hN hc hs hm
def kd(k:Int)(v:aX):Bool:=J (v.bz=k)
def dW(vars:aa aX)(k:Int)(i:Nat):Nat:=((vars.take i).filter (kd k)).length
def kK{vars:aa aX}{i:Nat}(h:i<vars.length)(k:Int):dW vars k (i+1)=dW vars k i+if vars[i]!.bz=k then 1 else 0:=by
 unfold dW;rw[bI h,y6,zl];by_cases hk:vars[i]!.bz=k
 ·rw[bG hk];simp only[yS,xZ,kd,hk,cR,cF,yM]
 ·rw[bP hk];simp only[yS,xZ,kd,hk,eR,yu,gA,yG]
def qW(vars:aa aX)(k:Int)(i:Nat):dW vars k i<=i:=by
 unfold dW;exact zK (yp _ _) (by rw[zH];omega)
def rA{vars:aa aX}{k:Int}{i j:Nat}(hij:i<=j)(hj:j<=vars.length):dW vars k i<=dW vars k j:=by
 induction j with
 |zero=>
  have:i=0:=by omega
  subst this;exact zo _
 |succ j ih=>
  by_cases h:i=j+1
  ·subst h;exact zo _
  ·rw[kK (by omega)];have:=ih (by omega) (by omega);omega
def pY(vars:aa aX)(k:Int):dW vars k vars.length=(vars.filter (kd k)).length:=by unfold dW;rw[zD]
def afB(vars:aa aX)(hl:vars.length<=1000000)(k:Int):ajx vars k=V (vars.filter (kd k)):=by
 obtain⟨v,e1,hV⟩:=cZ (rnd:=J1) vars.length (λi (b:aa aX)=>⟨vars,k,b,(i:Int)⟩) (λi b=>b=(vars.take i).filter (kd k)) (λi b hi hb=>by
  have hw:=fG hi hl;have i1:(i:Int)<(vars.length:Int):=by omega
  have i2:(0:Int)<=(i:Int):=by omega
  refine⟨_,?_,rfl⟩;have hlen:b.length<=1000000:=by rw[hb];exact zK (qW vars k i) (by omega)
  rw[bI hi,y6,<-hb];unfold J1;by_cases hk:vars[i]!.bz=k
  ·have h2:(b++[vars[i]!]).length<=1073741824:=by rw[zl,yM];omega
   simp only[ze,i1,i2,hk,h2,hw,cR,bD,dA,cF,kd,yS,xZ]
  ·simp only[ze,i1,i2,hk,hw,cR,eR,bD,bA,dA,cF,kd,yS,xZ,yC,yu,gA]) (λb _=>by unfold J1;simp) (b:=[]) (by simp)
 rw[zD]at hV;have e1':HG ⟨vars,k,[],0⟩=V ⟨vars,k,v,(vars.length:Int)⟩:=e1;unfold ajx;rw[e1'];simp[hV]
def Dp(vars:aa aX)(hv:dc vars)(hl:vars.length<=1000000){k:Int}(hk:k=1\/k=2\/k=3):∃p,m89 vars k=V p:=by
 have hm:=afB vars hl k;generalize hF:vars.filter (kd k)=L at hm;have hL:∀v∈L,-1048576<=v.ag/\v.ag<=v.ah/\v.ah<=1048576:=λv h=>by rw[<-hF]at h;exact hv v (zZ.1 h).1
 have hll:L.length<=1000000:=by rw[<-hF];exact zK (yp _ _) hl
 obtain⟨v,e1,_⟩:=cZ (rnd:=TD) L.length (λi (_:Unit)=>⟨L,(i:Int)⟩) (λ_ _=>True) (λi b hi _=>by
  have hw:=fG hi hll;obtain⟨q1,q2,q3⟩:=hL _ (bh hi);have i1:(i:Int)<(L.length:Int):=by omega
  have i2:(0:Int)<=(i:Int):=by omega
  refine⟨(),?_,trivial⟩;unfold TD;simp only[ze,i1,i2,hi,hw,cR,bD,dA,cF,show ¬L[i]!.ah<L[i]!.ag by omega,show ¬L[i]!.ag< -1048576 by omega,show ¬1048576<L[i]!.ah by omega,eR,bA]) (λb _=>by unfold TD;simp) (b:=()) trivial
 have e1':Ti ⟨L,0⟩=V ⟨L,(L.length:Int)⟩:=e1;have hsz:∀i,i<L.length->∀n:Int,1<=n->n<=4096->i64.wrap (n*i64.wrap (i64.wrap (L[i]!.ah-L[i]!.ag)+1))=n*(L[i]!.ah-L[i]!.ag+1)/\1<=n*(L[i]!.ah-L[i]!.ag+1):=λi hi n h1 h2=>by
  obtain⟨q1,q2,q3⟩:=hL _ (bh hi);have p1:n*(L[i]!.ah-L[i]!.ag+1)<=4096*(L[i]!.ah-L[i]!.ag+1):=zN h2 (by omega);have p2:1*(L[i]!.ah-L[i]!.ag+1)<=n*(L[i]!.ah-L[i]!.ag+1):=zN h1 (by omega);rw[aG (n:=L[i]!.ah-L[i]!.ag),aG (n:=L[i]!.ah-L[i]!.ag+1),aG];exact⟨rfl,by omega⟩
 obtain⟨i,n,e2,hI,hc⟩:=oE (rnd:=Nl) L.length (λi (b:Int)=>⟨L,b,(i:Int)⟩) (λ_ b=>1<=b/\b<=4096) (λi b=>4096<b*(L[i]!.ah-L[i]!.ag+1)) (λi b hi hb=>by
  have hw:=fG hi hll;obtain⟨s1,s2⟩:=hsz i hi b hb.1 hb.2;have i1:(i:Int)<(L.length:Int):=by omega
  have i2:(0:Int)<=(i:Int):=by omega
  by_cases h:4096<b*(L[i]!.ah-L[i]!.ag+1)
  ·refine .inr ⟨?_,h⟩;unfold Nl;simp only[ze,i1,i2,hi,cR,bD,dA,cF,s1,h]
  ·refine .inl ⟨b*(L[i]!.ah-L[i]!.ag+1),?_,s2,by omega⟩;unfold Nl;simp only[ze,i1,i2,hi,hw,cR,bD,dA,cF,s1,h,eR,bA]) (λb _=>by unfold Nl;simp) (b:=1) ⟨by omega,by omega⟩
 have e2':SI ⟨L,1,0⟩=V ⟨L,n,(i:Int)⟩:=e2;have hk1:(bif bif J (k=0)then G else O then
   bif bif J (k=1)then G else O then
    bif bif J (k=2)then G else O then V (bif J (k=3)then G else O)else V G
   else V G
  else some false)=some false:=by rcases hk with h|h|h<;>simp[h]
 unfold m89;rw[hk1];simp only[bA,hm,e1'];rw[gd,bA,e2'];dsimp only;rcases hc with rfl|⟨hi,h⟩
 ·rw[gd];exact⟨_,rfl⟩
 ·obtain⟨s1,s2⟩:=hsz i hi n hI.1 hI.2;have i1:(i:Int)<(L.length:Int):=by omega
  have i2:(0:Int)<=(i:Int):=by omega
  simp only[ze,i1,i2,hi,cR,bD,dA,cF,s1,h];exact⟨_,rfl⟩
def UO{f:aN}(h:few f 10 80=O):fI f.bH+jr (f.ak.map (·.az))<=80/\f.ak.length<=10/\f.aj.length<=10:=by
 unfold few at h;rw[decide_eq_true_eq]at h;omega
def Vz{f:aN}(h:oD f=0):cg f O f.bH=0:=by
 unfold oD at h;split at h
 ·cases h
 split at h
 ·exact dF h ‹_›
 split at h
 ·exact dF h ‹_›
 split at h
 ·exact dF h ‹_›
 rename_i h4;simpa using h4
def arC(f:aN)(a b c:Int):∃r,m24 f a b c=V r/\(r=O->few f 10 80=O/\oD f=0):=by
 unfold m24;rw[apJ f 10 80 (by decide) (by decide) (by decide) (by decide)];cases hf:few f 10 80 with
 |false=>exact⟨false,rfl,λh=>by cases h⟩
 |true=>
  obtain⟨h1,h2,h3⟩:=UO hf;rw[XJ f (by omega) (by omega) (by omega)];by_cases hc:oD f=0
  ·have hv:=kZ hc;obtain⟨p1,e1⟩:=Dp f.aj hv (by omega) (k:=1) (.inl rfl);obtain⟨p2,e2⟩:=Dp f.aj hv (by omega) (k:=2) (.inr (.inl rfl));obtain⟨p3,e3⟩:=Dp f.aj hv (by omega) (k:=3) (.inr (.inr rfl));have hS:v8 f.bH:=Ao f _ f.bH O (zJ _) (Vz hc);rw[e1,e2,e3,Zy f.bH (by omega) hS];simp only[hc,cR,bD,bA];cases J (p1.fst<=a)<;>cases J (p2.fst<=b)<;>cases J (p3.fst<=c)<;>exact⟨_,rfl,λ_=>⟨trivial,trivial⟩⟩
  ·simp only[hc,eR,bD,bA];exact⟨false,rfl,λh=>by cases h⟩
def amg(vars:aa aX)(inp:me)(i:Nat):Int:=
 if vars[i]!.bz=1 then inp.IY[dW vars 1 i]! else if vars[i]!.bz=2 then inp.aU[dW vars 2 i]! else if vars[i]!.bz=3 then inp.J2[dW vars 3 i]! else vars[i]!.eE
structure aAh (vars:List aX) (inp:me):Prop where
 s:inp.IY.length=dW vars 1 vars.length
 p:inp.aU.length=dW vars 2 vars.length
 r:inp.J2.length=dW vars 3 vars.length
 b:∀i,i<vars.length->vars[i]!.ag<=amg vars inp i/\amg vars inp i<=vars[i]!.ah
def mG{α:Type}[Inhabited α]{c:Nat->α->Int}:∀{l:aa α} {i:Nat},cq c l i=0->∀j,j<l.length->c (i+j) l[j]! =0
 |[],_,_,j,h=>by simp at h
 |x::l,i,h,j,hj=>by
  unfold cq at h;split at h
  case isFalse h1=>exact dF h h1
  rename_i h0;cases j with
  |zero=>simpa using h0
  |succ j=>
   have:=mG h j (by simpa using hj);rw[show i+(j+1)=i+1+j by omega];exact this
def aqJ{f:aN}{i:Nat}{h:dx}(hc:kg f i h=0):(-1048576<=h.ag/\h.ag<=h.ah/\h.ah<=1048576)/\eV f.aj O h.az=0:=by
 unfold kg at hc;split at hc
 ·cases hc
 split at hc
 ·cases hc
 split at hc
 ·cases hc
 rename_i hb;have hb:gP h.ag h.ah=O:=by simpa using hb
 unfold gP at hb;rw[decide_eq_true_eq]at hb;exact⟨⟨hb.2.1,hb.1,hb.2.2⟩,hc⟩
structure Tt (f:aN):Prop where
 vars:dc f.aj
 hat:∀i,i<f.ak.length->(-1048576<=f.ak[i]!.ag/\f.ak[i]!.ag<=f.ak[i]!.ah/\f.ak[i]!.ah<=1048576)/\eV f.aj O f.ak[i]!.az=0
 steps:cg f O f.bH=0
 o:(eN f.bH).2.1<=8
 t:(eN f.bH).2.2<=67108864
def Od{f:aN}(h:oD f=0):Tt f:=by
 have hv:=kZ h;unfold oD at h;split at h
 ·cases h
 split at h
 ·exact dF h ‹_›
 split at h
 ·exact dF h ‹_›
 rename_i h3;split at h
 ·exact dF h ‹_›
 rename_i h4;split at h
 ·cases h
 rename_i h5;have h3:cq (kg f) f.ak 0=0:=by simpa using h3
 have h4:cg f O f.bH=0:=by simpa using h4
 unfold Uu at h5;simp only[decide_eq_true_eq]at h5;exact⟨hv,λi hi=>aqJ (i:=0+i) (mG h3 i hi),h4,by omega,by omega⟩
end Go.Proofs.YtnfljbehcffmcaaGreat
end
