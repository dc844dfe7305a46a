/- Merged: Pv2, Pv2b, Pv4, So, Hs, Ne9, Hr, Ne10, Ne30, Ha, Qv, Qw, Pv5, Pv6, Pv7, Qr, Qs, Ne31, Ne32. -/
import Derived.Test.YtnfljbehcffmcaaGreatM4AbstractSound
import Derived.Test.YtnfljbehcffmcaaGreatM2AbstractSound
import Derived.Shelf.Sort.Plain
import Derived.Shelf.Slices.In.SortNone
import Derived.Sort.OwnSortedInts
import Derived.Test.YtnfljbehcffmcaaGreatM3AbstractSound
open Int renaming toNat_natCast → zi, le_refl → zm, mul_nonneg → zB, mul_comm → zG, mul_le_mul_of_nonneg_right → zM, add_mul → zQ, one_mul → zU, toNat → yR, le_of_lt → yV, mul_one → yX, dvd_zero → y5, le_trans → y7, lt_irrefl → xK, le_total → xY, min_eq_right → xZ, mul_sub → x8, natAbs_tmod → wC, natCast_add → wE, min_eq_left → wP, mul_tdiv_add_tmod → vb, mul_le_mul_of_nonpos_right → ve
open Nat renaming beq → zj, lt_succ_self → zC, le_trans → zJ, not_lt_zero → yK, mul_le_mul_right → yN, mod_lt → y6, lt_succ_iff_lt_or_eq → y8, mul_one → xu, sub_self → xU, div_add_mod → wJ
open SizeOf renaming sizeOf → zk
open Bool renaming cond_decide → zl, and_eq_true → zn, false_eq_true → yS, true_and → wD, true → G, false → I
open List renaming mem_cons_self → zo, length_append → zq, getElem?_eq_getElem → zw, all_eq_true → zA, mem_singleton → zD, mem_cons → zF, mem_cons_of_mem → zH, length_map → zL, mem_map → zN, range → zP, take_length → zR, mem_append → zV, length_take → z6, map_congr_left → z7, getElem?_map → yb, length_set → yc, getElem_map → ye, length_drop → yh, map_cons → yl, nil_append → ym, map_append → yo, getElem?_drop → yA, length → yC, mem_append_left → yH, mem_append_right → yI, length_singleton → yL, mem_iff_getElem → xd, getElem_append_right → xm, map_nil → xw, cons_append → xE, getElem_append_left → xG, getElem_drop → xH, map_drop → xI, getElem_mem → xO, map_take → xR, mem_of_mem_drop → xS, take_zero → xT, attach_map_val → we, drop_eq_getElem_cons → wj, getElem_of_mem → wk, drop_zero → wm, getElem_set → wF, getElem_take → wL, getElem_range → wQ, ext_getElem → wR, mem_map_of_mem → vg
open Option renaming some → zO, isSome_iff_exists → vh, some → Q, none → V
open Array renaming getElem?_eq_some_iff → wH
open Decidable renaming decide → O
open Go.Proofs.Tryz renaming prog → vi
open Go.Proofs.Tryz
set_option linter.unusedSectionVars false
set_option linter.unusedVariables false
set_option linter.unusedSimpArgs false
set_option linter.defProp false
noncomputable section
set_option maxRecDepth 100000
namespace Go.Proofs.YtnfljbehcffmcaaGreat
open Go Go.Iv
open Go.IntKind (i64 u64)
def afY(o:Int):J7 o=bV o:=by
 unfold J7 bV;simp only[zl];grind
def afW(o:Int):Fm o=if o=25 then-2 else(bV o).1:=by
 unfold Fm bV;simp only[zl];grind (splits:=40)
def acX(M:aa aS->ax->Bool->ah rP)(vars:aa aS)(inp:Bool)(t:ax)(hM:∀k∈t.aq,M vars k inp=Q (cZ vars inp k)):aeq M vars t inp=Q (cZ vars inp t):=by
 have key:t.aq.length<=1000000->∃i:Nat,vQ M ⟨vars,inp,t.aq,(t.aq.length:Int),0⟩=Q ⟨vars,inp,t.aq,(t.aq.length:Int),(i:Int)⟩/\((i=t.aq.length/\t.aq.all (cZ vars inp)=G)\/(i<t.aq.length/\cZ vars inp t.aq[i]! =I/\t.aq.all (cZ vars inp)=I)):=λhl=>by
  obtain⟨i,e1,hc⟩:=me (cL:=ID M) t.aq (λi=>⟨vars,inp,t.aq,(t.aq.length:Int),(i:Int)⟩) (λ_ k=>cZ vars inp k) (λi hi=>by
   have hw:=gH hi hl;have hk:=hM _ (aV hi);unfold ID;dsimp only;simp only[zl,zi,ax.eta,hk,hw];cases cZ vars inp t.aq[i]! <;>simp[hi]) (by unfold ID;simp)
  refine⟨i,e1,?_⟩;rcases hc with ⟨rfl,hc⟩|⟨hi,hc⟩
  ·exact .inl ⟨rfl,El hc⟩
  ·exact .inr ⟨hi,hc,tR hi hc⟩
 unfold aeq;rw[afY,lH];unfold By;by_cases hn:0<=(bV t.bf).1/\(bV t.bf).1<=t.aq.length/\(t.aq.length:Int)<=(bV t.bf).2
 ·have h33:(bV t.bf).2<=33:=by unfold bV;grind
  obtain⟨i,e,hc⟩:=key (by omega);rw[bQ hn,bP (show ¬(bV t.bf).1<0 by omega),bP (show ¬(t.aq.length:Int)<(bV t.bf).1 by omega),bP (show ¬(bV t.bf).2<(t.aq.length:Int)by omega),e];generalize t.aq.all (cZ vars inp)=A at hc;simp only[zl,zi,bz,wD];rcases hc with ⟨rfl,rfl⟩|⟨hi,h2,rfl⟩
  ·cases inp<;>grind
  ·have hk:=hM _ (aV hi);simp only[ax.eta,hk,h2];cases inp<;>grind
 ·rw[bP hn];simp only[zl];grind
def S9(vars:aa aS)(inp:Bool):∀(n:Nat) (t:ax),zk t<n->Pq n vars t inp=Q (cZ vars inp t)
 |0,_,h=>by omega
 |n+1,t,h=>acX (Pq n) vars inp t (λk hk=>S9 vars inp n k (by have:=ax.dU hk;omega))
def aez(vars:aa aS)(inp:Bool)(t:ax):afd vars t inp=Q (cZ vars inp t):=eT (zk t+1) λn hn=>S9 vars inp n t (by omega)
def abN(M:aa aS->ax->Bool->ah rW)(vars:aa aS)(inp:Bool)(t:ax)(hM:∀k∈t.aq,M vars k inp=Q (cZ vars inp k)):aa2 M vars t inp=Q (cZ vars inp t):=by
 have key:t.aq.length<=1000000->∃i:Nat,DC M ⟨vars,inp,0,t⟩=Q ⟨vars,inp,(i:Int),t⟩/\((i=t.aq.length/\t.aq.all (cZ vars inp)=G)\/(i<t.aq.length/\cZ vars inp t.aq[i]! =I/\t.aq.all (cZ vars inp)=I)):=λhl=>by
  obtain⟨i,e1,hc⟩:=me (cL:=JH M) t.aq (λi=>⟨vars,inp,(i:Int),t⟩) (λ_ k=>cZ vars inp k) (λi hi=>by
   have hw:=gH hi hl;have hk:=hM _ (aV hi);unfold JH;dsimp only;simp only[zl,zi,ax.eta,hk,hw];cases cZ vars inp t.aq[i]! <;>simp[hi]) (by unfold JH;simp)
  refine⟨i,e1,?_⟩;rcases hc with ⟨rfl,hc⟩|⟨hi,hc⟩
  ·exact .inl ⟨rfl,El hc⟩
  ·exact .inr ⟨hi,hc,tR hi hc⟩
 unfold aa2;rw[afW,lH];unfold By;have hk0:(bV t.bf).1= -1\/0<=(bV t.bf).1:=by unfold bV;grind
 have hk1:t.bf≠25->(bV t.bf).1=(bV t.bf).2:=by unfold bV;grind
 have hk2:t.bf=25->bV t.bf=(2,33):=by unfold bV;grind
 have h33:(bV t.bf).2<=33:=by unfold bV;grind
 have hk3:t.bf=25->(bV t.bf).1=2/\(bV t.bf).2=33:=λh=>by rw[hk2 h];exact⟨rfl,rfl⟩
 generalize (bV t.bf).1=a at*;generalize (bV t.bf).2=b at*;by_cases hn:0<=a/\a<=t.aq.length/\(t.aq.length:Int)<=b
 ·obtain⟨i,e,hc⟩:=key (by omega);rw[bQ hn,ax.eta,e];generalize t.aq.all (cZ vars inp)=A at hc;simp only[zl,zi,wD];rcases hc with ⟨rfl,rfl⟩|⟨hi,h2,rfl⟩
  ·cases inp<;>grind
  ·have hk:=hM _ (aV hi);simp only[ax.eta,hk,h2];clear hM key e hk h2 hk2 hk0;by_cases h25:t.bf=25
   ·rw[bt h25,h25];cases inp<;>grind (splits:=30)
   ·rw[bF h25];have:=hk1 h25;subst this;rw[bF (show ¬a= -1 by omega),bt (show 0<=a by omega),bt (show (t.aq.length:Int)=a by omega),bF (show ¬a= -2 by omega)];dsimp only[bz,bC];cases inp<;>grind (splits:=30)
 ·rw[bP hn];simp only[zl];grind
def Qq(vars:aa aS)(inp:Bool):∀(n:Nat) (t:ax),zk t<n->N4 n vars t inp=Q (cZ vars inp t)
 |0,_,h=>by omega
 |n+1,t,h=>abN (N4 n) vars inp t (λk hk=>Qq vars inp n k (by have:=ax.dU hk;omega))
def abX(vars:aa aS)(inp:Bool)(t:ax):adj vars t inp=Q (cZ vars inp t):=eT (zk t+1) λn hn=>Qq vars inp n t (by omega)
def ru(s:Span):Prop:= -1048576<=s.ag/\s.ag<=s.af/\s.af<=1048576
def BS(a b:Span):Un a b=dL a b:=rfl
def mw{a b:Int}(h1: -1048576<=a)(h2:a<=1048576)(h3: -1048576<=b)(h4:b<=1048576): -1099511627776<=a*b/\a*b<=1099511627776:=by
 have e1:(1048576-a)*(1048576-b)≥0:=zB (by omega) (by omega);have e2:(1048576+a)*(1048576+b)≥0:=zB (by omega) (by omega);have e3:(1048576-a)*(1048576+b)≥0:=zB (by omega) (by omega);have e4:(1048576+a)*(1048576-b)≥0:=zB (by omega) (by omega);grind
def ZX(a b:Span)(ha:ru a)(hb:ru b):acL a b=Q (dL (dL (dL ⟨a.ag*b.ag,a.ag*b.ag⟩ ⟨a.ag*b.af,a.ag*b.af⟩) ⟨a.af*b.ag,a.af*b.ag⟩) ⟨a.af*b.af,a.af*b.af⟩):=by
 unfold ru at ha hb;have w1:Ac a.ag b.ag=a.ag*b.ag:=by have:=mw (a:=a.ag) (b:=b.ag) (by omega) (by omega) (by omega) (by omega);exact aG
 have w2:Ac a.ag b.af=a.ag*b.af:=by have:=mw (a:=a.ag) (b:=b.af) (by omega) (by omega) (by omega) (by omega);exact aG
 have w3:Ac a.af b.ag=a.af*b.ag:=by have:=mw (a:=a.af) (b:=b.ag) (by omega) (by omega) (by omega) (by omega);exact aG
 have w4:Ac a.af b.af=a.af*b.af:=by have:=mw (a:=a.af) (b:=b.af) (by omega) (by omega) (by omega) (by omega);exact aG
 unfold acL;rw[w1,w2,w3,w4];generalize a.ag*b.ag=p;generalize a.ag*b.af=q;generalize a.af*b.ag=r;generalize a.af*b.af=s;have e:De ⟨[q,r,s],(3:Int),0,⟨0,0⟩,⟨p,p⟩⟩=Q ⟨[q,r,s],3,3,⟨0,0⟩,dL (dL (dL ⟨p,p⟩ ⟨q,q⟩) ⟨r,r⟩) ⟨s,s⟩⟩:=by
  have k1:qk ⟨[q,r,s],(3:Int),0,⟨0,0⟩,⟨p,p⟩⟩=Q (Q ⟨[q,r,s],(3:Int),1,⟨0,0⟩,dL ⟨p,p⟩ ⟨q,q⟩⟩):=by unfold qk;simp[BS,aG]
  have k2:qk ⟨[q,r,s],(3:Int),1,⟨0,0⟩,dL ⟨p,p⟩ ⟨q,q⟩⟩=Q (Q ⟨[q,r,s],(3:Int),2,⟨0,0⟩,dL (dL ⟨p,p⟩ ⟨q,q⟩) ⟨r,r⟩⟩):=by unfold qk;simp[BS,aG]
  have k3:qk ⟨[q,r,s],(3:Int),2,⟨0,0⟩,dL (dL ⟨p,p⟩ ⟨q,q⟩) ⟨r,r⟩⟩=Q (Q ⟨[q,r,s],(3:Int),3,⟨0,0⟩,dL (dL (dL ⟨p,p⟩ ⟨q,q⟩) ⟨r,r⟩) ⟨s,s⟩⟩):=by unfold qk;simp[BS,aG]
  unfold De;rw[bU k1,bU k2,bU k3];exact cF λr=>by unfold qk;simp
 rw[show (([q,r,s]:aa Int).length:Int)=3 from rfl,e];simp
def adY{a b:Span}(ha:ru a)(hb:ru b):ru (dL a b):=by
 unfold ru dL at*;grind
def mF:∀(l:aa Span) (a:Span),ru a->(∀x∈l,ru x)->ru (l.foldl dL a)
 |[],a,ha,_=>ha
 |x::l,a,ha,h=>mF l (dL a x) (adY ha (h x (zo ..))) λy hy=>h y (zH _ hy)
def T6(l:aa Span)(hl:l.length<=1000000)(z a:Span):Ey ⟨l,(l.length:Int),0,z,a⟩=Q ⟨l,(l.length:Int),(l.length:Int),z,l.foldl dL a⟩:=by
 obtain⟨v,e1,hv⟩:=dD (cL:=Jp) l.length (λi (b:Span)=>⟨l,(l.length:Int),(i:Int),z,b⟩) (λi b=>b=(l.take i).foldl dL a) (λi b hi hb=>by
  have hw:=gH hi hl;refine⟨dL b l[i]!,?_,?_⟩
  ·unfold Jp;dsimp only;simp only[zl,zi,BS,hw];grind
  ·rw[bO hi,List.foldl_append,hb];rfl) (λb _=>by unfold Jp;simp) (b:=a) rfl
 rw[zR]at hv;rw[<-hv];exact e1
def tj(vars:aa aS)(t:ax)(k:aa Span):Prop:=(0<=(bV t.bf).1/\(bV t.bf).1<=k.length/\(k.length:Int)<=(bV t.bf).2)/\(t.bf=24->0<=t.fN/\t.fN<vars.length)/\∀s∈k,ru s
def afN(vars:aa aS)(t:ax)(k:aa Span)(h:tj vars t k):agn vars t k=Q (dV vars t k):=by
 obtain⟨hk,h24,hI⟩:=h;have h0:1<=(bV t.bf).1->ru k[0]! :=λh=>hI _ (aV (by omega));have h1:2<=(bV t.bf).1->ru k[1]! :=λh=>hI _ (aV (by omega));have h33:(bV t.bf).2<=33:=by unfold bV;grind
 have hd:(k.drop 2).length<=1000000:=by rw[yh];omega
 have W:∀n:Int,-8796093022208<=n->n<=8796093022208->i64.wrap n=n:=λn a b=>aG;unfold agn dV;rw[T6 _ hd];have cs:t.bf=0\/t.bf=24\/t.bf=6\/t.bf=8\/t.bf=9\/t.bf=10\/t.bf=11\/t.bf=12\/t.bf=21\/t.bf=22\/t.bf=23\/t.bf=25\/(t.bf≠0/\t.bf≠24/\t.bf≠6/\t.bf≠8/\t.bf≠9/\t.bf≠10/\t.bf≠11/\t.bf≠12/\t.bf≠21/\t.bf≠22/\t.bf≠23/\t.bf≠25):=by omega
 rcases cs with h|h|h|h|h|h|h|h|h|h|h|h|h
 ·simp[h]
 ·simp[h,h24 h]
 ·have hl:1<=(bV t.bf).1:=by rw[h];decide
  obtain⟨a1,a2,a3⟩:=h0 hl;have w1:i64.wrap ((0:Int)-k[0]!.af)= -k[0]!.af:=by rw[W _ (by omega) (by omega)];omega
  have w2:i64.wrap ((0:Int)-k[0]!.ag)= -k[0]!.ag:=by rw[W _ (by omega) (by omega)];omega
  have i0:(0:Int)<(k.length:Int):=by omega
  simp only[Z0,h,zl,Int.reduceEq,reduceIte,i0,w1,w2,zm,dZ,bZ]
 ·have hl:2<=(bV t.bf).1:=by rw[h];decide
  obtain⟨a1,a2,a3⟩:=h0 (by omega);obtain⟨b1,b2,b3⟩:=h1 hl;have w1:=W (k[0]!.ag+k[1]!.ag) (by omega) (by omega);have w2:=W (k[0]!.af+k[1]!.af) (by omega) (by omega);have i0:(0:Int)<(k.length:Int):=by omega
  have i1:(1:Int)<(k.length:Int):=by omega
  simp only[Z0,h,zl,Int.reduceEq,Int.reduceLE,reduceIte,i0,i1,w1,w2,zm,dZ,bZ]
 ·have hl:2<=(bV t.bf).1:=by rw[h];decide
  obtain⟨a1,a2,a3⟩:=h0 (by omega);obtain⟨b1,b2,b3⟩:=h1 hl;have w1:=W (k[0]!.ag-k[1]!.af) (by omega) (by omega);have w2:=W (k[0]!.af-k[1]!.ag) (by omega) (by omega);have i0:(0:Int)<(k.length:Int):=by omega
  have i1:(1:Int)<(k.length:Int):=by omega
  simp only[Z0,h,zl,Int.reduceEq,Int.reduceLE,reduceIte,i0,i1,w1,w2,zm,dZ,bZ]
 ·have hl:2<=(bV t.bf).1:=by rw[h];decide
  have e18:=ZX _ _ (h0 (by omega)) (h1 hl);have i0:(0:Int)<(k.length:Int):=by omega
  have i1:(1:Int)<(k.length:Int):=by omega
  simp only[Z0,h,zl,Int.reduceEq,Int.reduceLE,reduceIte,i0,i1,e18,zm,dZ,bZ]
 ·have hl:2<=(bV t.bf).1:=by rw[h];decide
  obtain⟨a1,a2,a3⟩:=h0 (by omega);obtain⟨b1,b2,b3⟩:=h1 hl;have w1:i64.wrap ((0:Int)-k[0]!.ag)= -k[0]!.ag:=by rw[W _ (by omega) (by omega)];omega
  have w2:i64.wrap ((0:Int)-if k[0]!.af< -k[0]!.ag then-k[0]!.ag else k[0]!.af)= -(if k[0]!.af< -k[0]!.ag then-k[0]!.ag else k[0]!.af):=by split<;>(rw[W _ (by omega) (by omega)];omega)
  have i0:(0:Int)<(k.length:Int):=by omega
  have i1:(1:Int)<(k.length:Int):=by omega
  simp only[Z0,h,zl,Int.reduceEq,Int.reduceLE,reduceIte,i0,i1,w1,w2,zm,dZ,bZ];by_cases c1:(0:Int)<=k[0]!.ag<;>by_cases c2:(0:Int)<=k[1]!.ag<;>simp only[c1,c2,bZ,dA,cX,fW,bC,bz,dZ,and_true,and_false]
 ·have hl:2<=(bV t.bf).1:=by rw[h];decide
  obtain⟨b1,b2,b3⟩:=h1 hl;have w1:=W (k[1]!.ag+1) (by omega) (by omega);have w2:=W (k[1]!.af-1) (by omega) (by omega);have i1:(1:Int)<(k.length:Int):=by omega
  simp only[Z0,h,zl,Int.reduceEq,Int.reduceLE,reduceIte,i1,w1,w2,zm,dZ,bZ];by_cases c1:k[1]!.ag<0<;>by_cases c2:(0:Int)<k[1]!.af<;>simp only[c1,c2,bZ,dA]
  ·rw[iB,iB]
  ·rw[iB]
  ·rw[iB]
 ·have hl:2<=(bV t.bf).1:=by rw[h];decide
  have i0:(0:Int)<(k.length:Int):=by omega
  have i1:(1:Int)<(k.length:Int):=by omega
  simp only[Z0,h,zl,Int.reduceEq,Int.reduceLE,reduceIte,i0,i1,zm,dZ,bZ]
 ·have hl:2<=(bV t.bf).1:=by rw[h];decide
  have i0:(0:Int)<(k.length:Int):=by omega
  have i1:(1:Int)<(k.length:Int):=by omega
  simp only[Z0,h,zl,Int.reduceEq,Int.reduceLE,reduceIte,i0,i1,zm,dZ,bZ]
 ·have hl:2<=(bV t.bf).1:=by rw[h];decide
  have i1:(1:Int)<(k.length:Int):=by omega
  have i2:(2:Int)<=(k.length:Int):=by omega
  simp only[Z0,h,zl,Int.reduceEq,Int.reduceLE,reduceIte,i1,i2,zm,dZ,bZ,xK,dA,true_or]
 ·have hl:2<=(bV t.bf).1:=by rw[h];decide
  have i1:(1:Int)<(k.length:Int):=by omega
  have i2:(2:Int)<=(k.length:Int):=by omega
  simp only[Z0,h,zl,Int.reduceEq,Int.reduceLE,reduceIte,i1,i2,zm,dZ,bZ,xK,dA,or_true]
 ·obtain⟨c1,c2,c3,c4,c5,c6,c7,c8,c9,c18,c11,c12⟩:=h;simp only[c1,c2,c3,c4,c5,c6,c7,c8,c9,c18,c11,c12,zl,dA,or_self]
def Yr(vars:aa aS)(hv:bY vars)(t:ax)(k:aa Span)(h:tj vars t k):(dV vars t k).ag<=(dV vars t k).af:=by
 obtain⟨hk,h24,hI⟩:=h;have h0:1<=(bV t.bf).1->ru k[0]! :=λh=>hI _ (aV (by omega));have h1:2<=(bV t.bf).1->ru k[1]! :=λh=>hI _ (aV (by omega));unfold dV;have cs:t.bf=0\/t.bf=24\/t.bf=6\/t.bf=8\/t.bf=9\/t.bf=10\/t.bf=11\/t.bf=12\/t.bf=21\/t.bf=22\/t.bf=23\/t.bf=25\/(t.bf≠0/\t.bf≠24/\t.bf≠6/\t.bf≠8/\t.bf≠9/\t.bf≠10/\t.bf≠11/\t.bf≠12/\t.bf≠21/\t.bf≠22/\t.bf≠23/\t.bf≠25):=by omega
 rcases cs with h|h|h|h|h|h|h|h|h|h|h|h|h
 ·simp[h]
 ·have hm:vars[t.fN.toNat]!∈vars:=aV (by have:=h24 h;omega);have:=hv _ hm;simp only[h,Int.reduceEq,reduceIte];omega
 ·obtain⟨a1,a2,a3⟩:=h0 (by rw[h];decide);simp only[h,Int.reduceEq,reduceIte];omega
 ·obtain⟨a1,a2,a3⟩:=h0 (by rw[h];decide);obtain⟨b1,b2,b3⟩:=h1 (by rw[h];decide);simp only[h,Int.reduceEq,reduceIte];omega
 ·obtain⟨a1,a2,a3⟩:=h0 (by rw[h];decide);obtain⟨b1,b2,b3⟩:=h1 (by rw[h];decide);simp only[h,Int.reduceEq,reduceIte];omega
 ·simp only[h,Int.reduceEq,reduceIte,dL];generalize k[0]!.ag*k[1]!.ag=p;generalize k[0]!.ag*k[1]!.af=q;generalize k[0]!.af*k[1]!.ag=r;generalize k[0]!.af*k[1]!.af=s;grind
 ·obtain⟨a1,a2,a3⟩:=h0 (by rw[h];decide);simp only[h,Int.reduceEq,reduceIte];grind
 ·simp only[h,Int.reduceEq,reduceIte];grind
 ·obtain⟨a1,a2,a3⟩:=h0 (by rw[h];decide);obtain⟨b1,b2,b3⟩:=h1 (by rw[h];decide);simp only[h,Int.reduceEq,reduceIte];grind
 ·obtain⟨a1,a2,a3⟩:=h0 (by rw[h];decide);obtain⟨b1,b2,b3⟩:=h1 (by rw[h];decide);simp only[h,Int.reduceEq,reduceIte];grind
 ·have:=mF (k.drop 2) k[1]! (h1 (by rw[h];decide)) λx hx=>hI x (xS hx);simp only[h,Int.reduceEq,reduceIte,true_or,bZ];exact this.2.1
 ·have:=mF (k.drop 2) k[1]! (h1 (by rw[h];decide)) λx hx=>hI x (xS hx);simp only[h,Int.reduceEq,reduceIte,or_true,bZ];exact this.2.1
 ·obtain⟨c1,c2,c3,c4,c5,c6,c7,c8,c9,c18,c11,c12⟩:=h;simp only[c1,c2,c3,c4,c5,c6,c7,c8,c9,c18,c11,c12,dA,or_self];decide
def jO:∀{l:aa (ah Span)} {r:aa Span},jG l=Q r->l=r.map Q
 |[],r,h=>by unfold jG at h;cases h;rfl
 |none::l,r,h=>by unfold jG at h;cases h
 |some s::l,r,h=>by
  unfold jG at h;cases hl:jG l with
  |none=>rw[hl]at h;cases h
  |some q=>rw[hl]at h;cases h;rw[jO hl];rfl
def Kl(l:aa Span):jG (l.map Q)=Q l:=by
 induction l with
 |nil=>rfl
 |cons s l ih=>rw[yl,jG,ih]
def AF:∀{l:aa (ah Span)},V∈l->jG l=V
 |none::l,h=>rfl
 |some s::l,h=>by
  unfold jG;rw[AF (by simpa using h)]
def Gn{vars:aa aS}{inp:Bool}{t:ax}{k:aa Span}(hf:By vars inp t=G)(hl:k.length=t.aq.length)(hI:∀s∈k,ru s):tj vars t k:=by
 unfold By at hf;refine⟨?_,?_,hI⟩
 ·rw[hl];simp only[zn,decide_eq_true_eq]at hf;exact hf.1
 ·intro h;rw[h]at hf;simp at hf;exact hf.2.1
def aay(vars:aa aS)(hv:bY vars)(inp:Bool)(t:ax)(s:Span)(hf:cZ vars inp t=G)(h:eH vars t=Q s):ru s:=by
 have key:∀(n:Nat) (t:ax) (s:Span),zk t<n->cZ vars inp t=G->eH vars t=Q s->ru s:=by
  intro n;induction n with
  |zero=>intro t s h;omega
  |succ n ih=>
   intro t s hz hf h;rw[lH,zn,zA]at hf;rw[kQ]at h;cases ha:jG (t.aq.map (eH vars))with
   |none=>rw[ha]at h;cases h
   |some k=>
    rw[ha]at h;dsimp only at h;have hm:=jO ha;have hl:k.length=t.aq.length:=by have:=congrArg yC hm;simpa using this.symm
    have hI:∀s∈k,ru s:=λx hx=>by
     have:Q x∈t.aq.map (eH vars):=by rw[hm];exact vg hx
     obtain⟨c,hc,e⟩:=zN.1 this;exact ih c x (by have:=ax.dU hc;omega) (hf.2 c hc) e
    have ho:=Yr vars hv t k (Gn hf.1 hl hI);split at h
    ·rename_i hlim;cases h;unfold sj at hlim;unfold ru;grind
    ·cases h
 exact key _ t s (zC _) hf h
def uk(vars:aa aS)(t:ax):Span×Bool:=match jG (t.aq.map (eH vars))with
 |none=>(⟨0,0⟩,I)
 |some l=>(dV vars t l,sj (dV vars t l))
def I5(vars:aa aS)(t:ax):eH vars t=if(uk vars t).2=G then Q (uk vars t).1 else V:=by
 rw[kQ,uk];cases jG (t.aq.map (eH vars))<;>rfl
def qG{vars:aa aS}(hv:bY vars){inp:Bool}{t:ax}{k:aa Span}(hf:cZ vars inp t=G)(ha:jG (t.aq.map (eH vars))=Q k):tj vars t k:=by
 rw[lH,zn,zA]at hf;have hm:=jO ha;refine Gn hf.1 (by have:=congrArg yC hm;simpa using this.symm) λx hx=> ?_;have:Q x∈t.aq.map (eH vars):=by rw[hm];exact vg hx
 obtain⟨c,hc,e⟩:=zN.1 this;exact aay vars hv inp c x (hf.2 c hc) e
def MC{vars:aa aS}{inp:Bool}{t:ax}(hf:cZ vars inp t=G):t.aq.length<=33:=by
 rw[lH,zn]at hf;have:=hf.1;unfold By at this;have h33:(bV t.bf).2<=33:=by unfold bV;grind
 simp only[zn,decide_eq_true_eq]at this;omega
def iI{vars:aa aS}{inp:Bool}{t k:ax}(hf:cZ vars inp t=G)(hk:k∈t.aq):cZ vars inp k=G:=by
 rw[lH,zn,zA]at hf;exact hf.2 k hk
def acd(M:aa aS->ax->ah rV)(vars:aa aS)(hv:bY vars)(inp:Bool)(t:ax)(hf:cZ vars inp t=G)(hM:∀k∈t.aq,M vars k=Q (uk vars k)):abw M vars t=Q (uk vars t):=by
 have h33:=MC hf;obtain⟨i,b,e1,hI,hc⟩:=oB (cL:=Eh M) t.aq.length (λi (b:aa Span)=>⟨vars,b,t.aq,(t.aq.length:Int),(i:Int),t,⟨0,0⟩⟩) (λi b=>(t.aq.take i).map (eH vars)=b.map Q) (λi _=>(uk vars t.aq[i]!).2=I) (λi b hi hb=>by
  have hw:=gH hi (by omega);have hk:=hM _ (aV hi);have hlen:b.length=i:=by have:=congrArg yC hb;simp at this;omega
  cases hx:(uk vars t.aq[i]!).2 with
  |true=>
   refine .inl ⟨b++[(uk vars t.aq[i]!).1],?_,?_⟩
   ·have hl2:(b++[(uk vars t.aq[i]!).1]).length<=1073741824:=by simp;omega
    unfold Eh;dsimp only;simp only[zi,ax.eta,hk,hx,hl2,hw,bZ,bC,bz];simp[hi]
   ·rw[bO hi,yo,hb,yo]
    congr 1
    rw[yl,yl,I5,bt hx];rfl
  |false=>
   refine .inr ⟨?_,rfl⟩;unfold Eh;dsimp only;simp only[zi,ax.eta,hk,hx,bC,bz];simp[hi]) (λb _=>by unfold Eh;simp) (b:=[]) rfl
 have e1':JE M ⟨vars,[],t.aq,(t.aq.length:Int),0,t,⟨0,0⟩⟩=Q ⟨vars,b,t.aq,(t.aq.length:Int),(i:Int),t,⟨0,0⟩⟩:=e1;unfold abw;rw[ax.eta,e1'];dsimp only;rcases hc with rfl|⟨hi,hx⟩
 ·rw[zR]at hI;have ha:jG (t.aq.map (eH vars))=Q b:=by rw[hI];exact Kl b
  rw[fO,bz,ax.eta,afN vars t b (qG hv hf ha)];unfold uk;rw[ha];dsimp only;unfold sj;simp only[zl];grind
 ·have hk:=hM _ (aV hi);have ha:jG (t.aq.map (eH vars))=V:=AF (zN.2 ⟨t.aq[i]!,aV hi,by rw[I5,hx];simp⟩);rw[rZ,bC,bt ⟨by omega,by omega⟩];simp only[zi,ax.eta,hk,hx,bC,bz];unfold uk;rw[ha]
def Sn(vars:aa aS)(hv:bY vars)(inp:Bool):∀(n:Nat) (t:ax),zk t<n->cZ vars inp t=G->Nj n vars t=Q (uk vars t)
 |0,_,h,_=>by omega
 |n+1,t,h,hf=>acd (Nj n) vars hv inp t hf (λk hk=>Sn vars hv inp n k (by have:=ax.dU hk;omega) (iI hf hk))
def adx(vars:aa aS)(hv:bY vars)(inp:Bool)(t:ax)(hf:cZ vars inp t=G):aft vars t=Q (uk vars t):=eT (zk t+1) λn hn=>Sn vars hv inp n t (by omega) hf
def Cb(vars:aa aS)(hv:bY vars)(inp:Bool)(t:ax):O3 vars t inp=Q (eM vars inp t):=by
 unfold O3 eM;rw[ax.eta,aez];cases hf:cZ vars inp t with
 |false=>rfl
 |true=>
  rw[adx vars hv inp t hf,I5];dsimp only;cases (uk vars t).2<;>rfl
def uN(vars:aa aS)(t:ax)(k:aa Span):Span:=if t.bf=0/\(t.fN< -1048576\/1048576<t.fN)then⟨-1048577,1048577⟩else dV vars t k
def UG(vars:aa aS)(t:ax)(k:aa Span):sj (uN vars t k)=sj (dV vars t k)/\(sj (dV vars t k)=G->uN vars t k=dV vars t k):=by
 unfold uN;by_cases h:t.bf=0/\(t.fN< -1048576\/1048576<t.fN)
 ·have e:sj (dV vars t k)=I:=by
   unfold sj dV;rw[bt h.1];simp;omega
  rw[bt h,e];exact⟨by decide,λh=>by cases h⟩
 ·rw[bF h];exact⟨rfl,λ_=>rfl⟩
def od(a b:Int):jF a b=if a<b then a else b:=by
 unfold jF;simp only[zl]
def l9(a b:Int):kC a b=if b<a then a else b:=by
 unfold kC;simp only[zl]
def gU{k:aa Span}{i:Nat}(h:i<k.length):(k.map (·.ag))[i]! =k[i]!.ag:=by
 rw[getElem!_pos _ i (by simpa using h),getElem!_pos k i h,ye]
def fJ{k:aa Span}{i:Nat}(h:i<k.length):(k.map (·.af))[i]! =k[i]!.af:=by
 rw[getElem!_pos _ i (by simpa using h),getElem!_pos k i h,ye]
def Gq(k:aa Span)(hl:k.length<=1000000)(h2:2<=k.length)(a:Span):Ew ⟨k.map (·.ag),k.map (·.af),a.ag,a.af,2⟩=Q ⟨k.map (·.ag),k.map (·.af),((k.drop 2).foldl dL a).ag,((k.drop 2).foldl dL a).af,(k.length:Int)⟩:=by
 have hlen:(k.drop 2).length=k.length-2:=yh ..;have hget:∀i,i<k.length-2->(k.drop 2)[i]! =k[i+2]! :=λi hi=>by
  rw[getElem!_pos _ i (by omega),getElem!_pos _ (i+2) (by omega),xH]
  congr 1
  omega
 obtain⟨v,e1,hv⟩:=dD (cL:=JB) (k.length-2) (λi (b:Span)=>⟨k.map (·.ag),k.map (·.af),b.ag,b.af,((i+2:Nat):Int)⟩) (λi b=>b=((k.drop 2).take i).foldl dL a) (λi b hi hb=>by
  have hw:=gH (show i+2<k.length by omega) hl;refine⟨dL b k[i+2]!,?_,?_⟩
  ·unfold JB;dsimp only;simp only[zl,zi,od,l9,hw,zL,gU (show i+2<k.length by omega),fJ (show i+2<k.length by omega)];unfold dL;rw[gG,bt ⟨by omega,by omega⟩,bt ⟨by omega,by omega⟩]
   congr 3<;>grind
  ·rw[bO (by omega),List.foldl_append,hb,hget i hi];rfl) (λb _=>by
   unfold JB;simp only[zL,zl];rw[iB]) (b:=a) rfl
 rw[<-hlen,zR]at hv;rw[<-hv];rw[show k.length-2+2=k.length by omega]at e1;exact e1
def ab6(vars:aa aS)(t:ax)(k:aa Span)(h:tj vars t k):aaU vars t (k.map (·.ag)) (k.map (·.af))=Q ((uN vars t k).ag,(uN vars t k).af):=by
 obtain⟨hk,h24,hI⟩:=h;have h0:1<=(bV t.bf).1->ru k[0]! :=λh=>hI _ (aV (by omega));have h1:2<=(bV t.bf).1->ru k[1]! :=λh=>hI _ (aV (by omega));have h33:(bV t.bf).2<=33:=by unfold bV;grind
 have W:∀n:Int,-8796093022208<=n->n<=8796093022208->i64.wrap n=n:=λn a b=>aG;unfold aaU uN dV;have cs:t.bf=0\/t.bf=24\/t.bf=6\/t.bf=8\/t.bf=9\/t.bf=10\/t.bf=11\/t.bf=12\/t.bf=21\/t.bf=22\/t.bf=23\/t.bf=25\/(t.bf≠0/\t.bf≠24/\t.bf≠6/\t.bf≠8/\t.bf≠9/\t.bf≠10/\t.bf≠11/\t.bf≠12/\t.bf≠21/\t.bf≠22/\t.bf≠23/\t.bf≠25):=by omega
 rcases cs with h|h|h|h|h|h|h|h|h|h|h|h|h
 ·simp only[Z0,h,zl,Int.reduceEq,reduceIte,true_and];grind
 ·simp[h,h24 h]
 ·have hl:1<=(bV t.bf).1:=by rw[h];decide
  obtain⟨a1,a2,a3⟩:=h0 hl;have w1:i64.wrap ((0:Int)-k[0]!.af)= -k[0]!.af:=by rw[W _ (by omega) (by omega)];omega
  have w2:i64.wrap ((0:Int)-k[0]!.ag)= -k[0]!.ag:=by rw[W _ (by omega) (by omega)];omega
  have i0:(0:Int)<(k.length:Int):=by omega
  simp only[Z0,h,zl,Int.reduceEq,reduceIte,zL,i0,gU (show 0<k.length by omega),fJ (show 0<k.length by omega),w1,w2,zm,dZ,bZ,false_and,dA]
 ·have hl:2<=(bV t.bf).1:=by rw[h];decide
  obtain⟨a1,a2,a3⟩:=h0 (by omega);obtain⟨b1,b2,b3⟩:=h1 hl;have w1:=W (k[0]!.ag+k[1]!.ag) (by omega) (by omega);have w2:=W (k[0]!.af+k[1]!.af) (by omega) (by omega);have i0:(0:Int)<(k.length:Int):=by omega
  have i1:(1:Int)<(k.length:Int):=by omega
  simp only[Z0,h,zl,Int.reduceEq,Int.reduceLE,reduceIte,zL,gU (show 0<k.length by omega),fJ (show 0<k.length by omega),gU (show 1<k.length by omega),fJ (show 1<k.length by omega),i0,i1,w1,w2,zm,dZ,bZ,false_and,dA]
 ·have hl:2<=(bV t.bf).1:=by rw[h];decide
  obtain⟨a1,a2,a3⟩:=h0 (by omega);obtain⟨b1,b2,b3⟩:=h1 hl;have w1:=W (k[0]!.ag-k[1]!.af) (by omega) (by omega);have w2:=W (k[0]!.af-k[1]!.ag) (by omega) (by omega);have i0:(0:Int)<(k.length:Int):=by omega
  have i1:(1:Int)<(k.length:Int):=by omega
  simp only[Z0,h,zl,Int.reduceEq,Int.reduceLE,reduceIte,zL,gU (show 0<k.length by omega),fJ (show 0<k.length by omega),gU (show 1<k.length by omega),fJ (show 1<k.length by omega),i0,i1,w1,w2,zm,dZ,bZ,false_and,dA]
 ·have hl:2<=(bV t.bf).1:=by rw[h];decide
  obtain⟨a1,a2,a3⟩:=h0 (by omega);obtain⟨b1,b2,b3⟩:=h1 hl;have m1:=mw (a:=k[0]!.ag) (b:=k[1]!.ag) (by omega) (by omega) (by omega) (by omega);have m2:=mw (a:=k[0]!.ag) (b:=k[1]!.af) (by omega) (by omega) (by omega) (by omega);have m3:=mw (a:=k[0]!.af) (b:=k[1]!.ag) (by omega) (by omega) (by omega) (by omega);have m4:=mw (a:=k[0]!.af) (b:=k[1]!.af) (by omega) (by omega) (by omega) (by omega);have w1:=W _ (show-8796093022208<=k[0]!.ag*k[1]!.ag by omega) (by omega);have w2:=W _ (show-8796093022208<=k[0]!.ag*k[1]!.af by omega) (by omega);have w3:=W _ (show-8796093022208<=k[0]!.af*k[1]!.ag by omega) (by omega);have w4:=W _ (show-8796093022208<=k[0]!.af*k[1]!.af by omega) (by omega);have i0:(0:Int)<(k.length:Int):=by omega
  have i1:(1:Int)<(k.length:Int):=by omega
  simp only[Z0,h,zl,Int.reduceEq,Int.reduceLE,reduceIte,zL,gU (show 0<k.length by omega),fJ (show 0<k.length by omega),gU (show 1<k.length by omega),fJ (show 1<k.length by omega),i0,i1,w1,w2,w3,w4,zm,dZ,bZ,false_and,dA,od,l9,dL];generalize k[0]!.ag*k[1]!.ag=p;generalize k[0]!.ag*k[1]!.af=q;generalize k[0]!.af*k[1]!.ag=r;generalize k[0]!.af*k[1]!.af=s
  congr 2<;>grind
 ·have hl:2<=(bV t.bf).1:=by rw[h];decide
  obtain⟨a1,a2,a3⟩:=h0 (by omega);obtain⟨b1,b2,b3⟩:=h1 hl;have z0:yR 0=0:=rfl;have z1:yR 1=1:=rfl;have W6:∀x:Int,-1048576<=x->x<=1048576->Bh x=if x<0 then-x else x:=λx q1 q2=>by
   unfold Bh;rw[W _ (by omega) (by omega)];simp only[zl];grind
  have T3:kC (Bh k[0]!.ag) (Bh k[0]!.af)=if k[0]!.af< -k[0]!.ag then-k[0]!.ag else k[0]!.af:=by
   rw[W6 _ (by omega) (by omega),W6 _ (by omega) (by omega),l9];grind
  have w2:i64.wrap ((0:Int)-if k[0]!.af< -k[0]!.ag then-k[0]!.ag else k[0]!.af)= -(if k[0]!.af< -k[0]!.ag then-k[0]!.ag else k[0]!.af):=by split<;>(rw[W _ (by omega) (by omega)];omega)
  have i0:(0:Int)<(k.length:Int):=by omega
  have i1:(1:Int)<(k.length:Int):=by omega
  simp only[Z0,h,zl,Int.reduceEq,Int.reduceLE,reduceIte,zL,z0,z1,gU (show 0<k.length by omega),fJ (show 0<k.length by omega),gU (show 1<k.length by omega),fJ (show 1<k.length by omega),i0,i1,T3,w2,zm,dZ,bZ,false_and,dA];by_cases c1:(0:Int)<=k[0]!.ag<;>by_cases c2:(0:Int)<=k[1]!.ag<;>simp only[c1,c2,bZ,dA,cX,fW,bC,bz,dZ,and_true,and_false]
 ·have hl:2<=(bV t.bf).1:=by rw[h];decide
  obtain⟨b1,b2,b3⟩:=h1 hl;have w1:=W (k[1]!.ag+1) (by omega) (by omega);have w2:=W (k[1]!.af-1) (by omega) (by omega);have i1:(1:Int)<(k.length:Int):=by omega
  simp only[Z0,h,zl,Int.reduceEq,Int.reduceLE,reduceIte,zL,gU (show 1<k.length by omega),fJ (show 1<k.length by omega),i1,zm,dZ,bZ,false_and,dA,Xn,w1,w2,od,l9]
  congr 1
  by_cases c1:k[1]!.ag<0<;>by_cases c2:(0:Int)<k[1]!.af<;>simp only[c1,c2,bZ,dA,Prod.mk.injEq,and_true,true_and]<;>grind
 ·have hl:2<=(bV t.bf).1:=by rw[h];decide
  have i0:(0:Int)<(k.length:Int):=by omega
  have i1:(1:Int)<(k.length:Int):=by omega
  simp only[Z0,h,zl,Int.reduceEq,Int.reduceLE,reduceIte,zL,gU (show 0<k.length by omega),fJ (show 0<k.length by omega),gU (show 1<k.length by omega),fJ (show 1<k.length by omega),i0,i1,zm,dZ,bZ,false_and,dA,od,l9]
  congr 2<;>grind
 ·have hl:2<=(bV t.bf).1:=by rw[h];decide
  have i0:(0:Int)<(k.length:Int):=by omega
  have i1:(1:Int)<(k.length:Int):=by omega
  simp only[Z0,h,zl,Int.reduceEq,Int.reduceLE,reduceIte,zL,gU (show 0<k.length by omega),fJ (show 0<k.length by omega),gU (show 1<k.length by omega),fJ (show 1<k.length by omega),i0,i1,zm,dZ,bZ,false_and,dA,od,l9]
  congr 2<;>grind
 ·have hl:2<=(bV t.bf).1:=by rw[h];decide
  have i1:(1:Int)<(k.length:Int):=by omega
  have e:=Gq k (by omega) (by omega) k[1]!;simp only[Z0,h,zl,Int.reduceEq,Int.reduceLE,reduceIte,zL,gU (show 1<k.length by omega),fJ (show 1<k.length by omega),e,i1,zm,dZ,bZ,xK,dA,true_or,false_and]
 ·have hl:2<=(bV t.bf).1:=by rw[h];decide
  have i1:(1:Int)<(k.length:Int):=by omega
  have e:=Gq k (by omega) (by omega) k[1]!;simp only[Z0,h,zl,Int.reduceEq,Int.reduceLE,reduceIte,zL,gU (show 1<k.length by omega),fJ (show 1<k.length by omega),e,i1,zm,dZ,bZ,xK,dA,or_true,false_and]
 ·obtain⟨c1,c2,c3,c4,c5,c6,c7,c8,c9,c18,c11,c12⟩:=h;simp only[c1,c2,c3,c4,c5,c6,c7,c8,c9,c18,c11,c12,zl,dA,or_self,false_and]
def pQ(vars:aa aS)(t:ax):Int×Int×Bool:=match jG (t.aq.map (eH vars))with
 |none=>(0,0,I)
 |some l=>((uN vars t l).ag,(uN vars t l).af,sj (uN vars t l))
def IA(vars:aa aS)(t:ax):eH vars t=if(pQ vars t).2.2=G then Q ⟨(pQ vars t).1,(pQ vars t).2.1⟩else V:=by
 rw[kQ,pQ];cases h:jG (t.aq.map (eH vars))with
 |none=>rfl
 |some l=>
  obtain⟨h1,h2⟩:=UG vars t l;dsimp only;by_cases hl:sj (dV vars t l)=G
  ·rw[bt hl,bt (h1.trans hl),h2 hl]
  ·rw[bF hl,bF (by rw[h1];exact hl)]
def aao(M:aa aS->ax->ah rQ)(vars:aa aS)(hv:bY vars)(inp:Bool)(t:ax)(hf:cZ vars inp t=G)(hM:∀k∈t.aq,M vars k=Q (pQ vars k)):afv M vars t=Q (pQ vars t):=by
 have h33:=MC hf;obtain⟨i,b,e1,hI,hc⟩:=oB (cL:=CH M) t.aq.length (λi (b:aa Span)=>⟨vars,b.map (·.ag),b.map (·.af),(i:Int),t⟩) (λi b=>(t.aq.take i).map (eH vars)=b.map Q) (λi _=>(pQ vars t.aq[i]!).2.2=I) (λi b hi hb=>by
  have hw:=gH hi (by omega);have hk:=hM _ (aV hi);have hlen:b.length=i:=by have:=congrArg yC hb;simp at this;omega
  cases hx:(pQ vars t.aq[i]!).2.2 with
  |true=>
   refine .inl ⟨b++[⟨(pQ vars t.aq[i]!).1,(pQ vars t.aq[i]!).2.1⟩],?_,?_⟩
   ·have hl2:(b.map (·.ag)++[(pQ vars t.aq[i]!).1]).length<=1073741824:=by simp;omega
    have hl3:(b.map (·.af)++[(pQ vars t.aq[i]!).2.1]).length<=1073741824:=by simp;omega
    unfold CH;dsimp only;simp only[zi,ax.eta,hk,hx,hl2,hl3,hw,bZ,bC,bz];simp[hi]
   ·rw[bO hi,yo,hb,yo]
    congr 1
    rw[yl,yl,IA,bt hx];rfl
  |false=>
   refine .inr ⟨?_,rfl⟩;unfold CH;dsimp only;simp only[zi,ax.eta,hk,hx,bC,bz];simp[hi]) (λb _=>by unfold CH;simp) (b:=[]) rfl
 have e1':Ie M ⟨vars,[],[],0,t⟩=Q ⟨vars,b.map (·.ag),b.map (·.af),(i:Int),t⟩:=e1;unfold afv;rw[ax.eta,e1'];dsimp only;rcases hc with rfl|⟨hi,hx⟩
 ·rw[zR]at hI;have ha:jG (t.aq.map (eH vars))=Q b:=by rw[hI];exact Kl b
  rw[fO,bz,ax.eta,ab6 vars t b (qG hv hf ha)];unfold pQ;rw[ha];dsimp only;unfold sj;simp only[zl];grind
 ·have hk:=hM _ (aV hi);have ha:jG (t.aq.map (eH vars))=V:=AF (zN.2 ⟨t.aq[i]!,aV hi,by rw[IA,hx];simp⟩);rw[rZ,bC,bt ⟨by omega,by omega⟩];simp only[zi,ax.eta,hk,hx,bC,bz];unfold pQ;rw[ha]
def PW(vars:aa aS)(hv:bY vars)(inp:Bool):∀(n:Nat) (t:ax),zk t<n->cZ vars inp t=G->Pz n vars t=Q (pQ vars t)
 |0,_,h,_=>by omega
 |n+1,t,h,hf=>aao (Pz n) vars hv inp t hf (λk hk=>PW vars hv inp n k (by have:=ax.dU hk;omega) (iI hf hk))
def aem(vars:aa aS)(hv:bY vars)(inp:Bool)(t:ax)(hf:cZ vars inp t=G):abk vars t=Q (pQ vars t):=eT (zk t+1) λn hn=>PW vars hv inp n t (by omega) hf
def CC(vars:aa aS)(hv:bY vars)(inp:Bool)(t:ax):JL vars t inp=Q (eM vars inp t):=by
 unfold JL eM;rw[ax.eta,abX];cases hf:cZ vars inp t with
 |false=>rfl
 |true=>
  rw[aem vars hv inp t hf,IA];dsimp only;cases (pQ vars t).2.2<;>rfl
def dz.eta(h:dz):dz.mk h.fName h.ag h.af h.az=h:=by cases h;rfl
def SM(l:aa dz)(hl:l.length<=1000000)(v:dz):ZF l v=Q (l.any λw=>w.fName.toList==v.fName.toList):=by
 obtain⟨i,e1,hc⟩:=me (cL:=Ih) l (λi=>⟨l,v.fName,v.ag,v.af,v.az.bf,v.az.fN,v.az.aq,(l.length:Int),(i:Int)⟩) (λ_ w=> !(w.fName.toList==v.fName.toList)) (λi hi=>by
  have hw:=gH hi hl;unfold Ih Zl;dsimp only;simp only[zl,zi];grind) (by unfold Ih;simp)
 have e1':IQ ⟨l,v.fName,v.ag,v.af,v.az.bf,v.az.fN,v.az.aq,(l.length:Int),0⟩=Q ⟨l,v.fName,v.ag,v.af,v.az.bf,v.az.fN,v.az.aq,(l.length:Int),(i:Int)⟩:=e1;unfold ZF aj6;rw[e1'];dsimp only;rcases hc with ⟨rfl,hc⟩|⟨hi,hc⟩
 ·rw[vq λj hj=>by have:=hc j hj;simpa using this];simp
 ·have hc':(l[i]!.fName.toList==v.fName.toList)=G:=by simpa using hc
  rw[Dz hi hc'];unfold Zl;simp only[zi,hc',bC];simp[hi]
def K7(f:aQ)(hl:f.ak.length<=1000000)(n:Nat)(hn:n<=f.ak.length)(v:dz):
  ∃i:Nat,MJ ⟨n,0,f,v⟩=Q ⟨n,(i:Int),f,v⟩/\((i=n/\((f.ak.take n).any λw=>w.fName.toList==v.fName.toList)=I)\/(i<n/\(f.ak[i]!.fName.toList==v.fName.toList)=G/\((f.ak.take n).any λw=>w.fName.toList==v.fName.toList)=G)):=by
 have hlen:(f.ak.take n).length=n:=by rw[z6];omega
 have hget:∀i,i<n->(f.ak.take n)[i]! =f.ak[i]! :=λi hi=>by
  rw[getElem!_pos _ i (by omega),getElem!_pos _ i (by omega),wL]
 obtain⟨i,e1,hc⟩:=me (cL:=Sc) (f.ak.take n) (λi=>⟨(n:Int),(i:Int),f,v⟩) (λ_ w=> !(w.fName.toList==v.fName.toList)) (λi hi=>by
  rw[hlen]at hi;have hw:=gH hi (by omega);rw[hget i hi];unfold Sc;dsimp only;simp only[zl,zi,ax.eta,dz.eta];grind) (by rw[hlen];unfold Sc;simp)
 refine⟨i,e1,?_⟩;rw[hlen]at hc;rcases hc with ⟨rfl,hc⟩|⟨hi,hc⟩
 ·exact .inl ⟨rfl,vq λj hj=>by have:=hc j (by omega);simpa using this⟩
 ·have hc':((f.ak.take n)[i]!.fName.toList==v.fName.toList)=G:=by simpa using hc
  exact .inr ⟨hi,by rw[<-hget i hi];exact hc',Dz (by omega) hc'⟩
def ae0(t:ax):Uq t=u6 t:=by
 unfold Uq u6;simp only[zl];grind
def aaT(t:ax):Kc t=u6 t:=by
 unfold Kc u6;simp only[zl];grind
def jT:∀(l:aa Int),fC l=G↔∀i,i+1<l.length->l[i]! <l[i+1]!
 |[]=>by simp[fC]
 |[a]=>by simp[fC]
 |a::b::l=>by
  unfold fC;rw[zn,jT (b::l),decide_eq_true_iff];constructor
  ·rintro⟨h1,h2⟩ i hi;cases i with
   |zero=>exact h1
   |succ i=>exact h2 i (by simpa using hi)
  ·intro h;exact⟨h 0 (by simp),λi hi=>h (i+1) (by simpa using hi)⟩
def abD(l:aa Int)(hl:l.length<=1000000):UK l=Q (fC l):=by
 obtain⟨i,e1,hc⟩:=me (cL:=GW) l (λi=>⟨l,(l.length:Int),(i:Int)⟩) (λi x=>O (i=0)||O (l[i-1]! <x)) (λi hi=>by
  have hw:=gH hi hl;have hw2:i64.wrap ((i:Int)-1)=(i:Int)-1:=aG;have hw3:((i:Int)-1).toNat=i-1:=by omega
  unfold GW;dsimp only;simp only[zl,zi,hw,hw2,hw3];generalize l[i]! =y;generalize l[i-1]! =z;grind) (by unfold GW;simp)
 have e1':HQ ⟨l,(l.length:Int),0⟩=Q ⟨l,(l.length:Int),(i:Int)⟩:=e1;unfold UK;rw[e1'];dsimp only;rcases hc with ⟨rfl,hc⟩|⟨hi,hc⟩
 ·have:fC l=G:=(jT l).2 λi hi=>by
   have:=hc (i+1) hi;simpa using this
  rw[this];simp
 ·have hc':i≠0/\¬l[i-1]! <l[i]! :=by
   simp only[Bool.or_eq_false_iff,decide_eq_false_iff_not]at hc;exact hc
  have:fC l=I:=by
   cases hr:fC l with
   |false=>rfl
   |true=>
    have:=(jT l).1 hr (i-1) (by omega);rw[show i-1+1=i by omega]at this;exact cR this hc'.2
  rw[this];have hw2:i64.wrap ((i:Int)-1)=(i:Int)-1:=aG;have hw3:((i:Int)-1).toNat=i-1:=by omega
  simp only[zl,zi,hw2,hw3];revert hc';generalize l[i]! =y;generalize l[i-1]! =z;intro hc';grind
def aby(l:aa Int)(hl:l.length<=1000000):adG l=Q (O (1<=l.length/\l.length<=32)&&O ((0:Int)<=l[0]!)&&fC l):=by
 unfold adG;by_cases h1:1<=l.length/\l.length<=32
 case neg=>
  rw[bP h1];simp only[zl];grind
 rw[bQ h1,bP (show ¬(l.length:Int)<1 by omega),bP (show ¬32<(l.length:Int)by omega),bt (⟨zm _,by omega⟩:(0:Int)<=0/\(0:Int)<(l.length:Int))];have hz:l[yR 0]! =l[0]! :=rfl;rw[hz];by_cases h0:(0:Int)<=l[0]!
 case neg=>
  rw[bP h0,bQ (show l[0]! <0 by omega)];rfl
 rw[bQ h0,bP (show ¬l[0]! <0 by omega)];dsimp only[bz];have hlen:(l.drop 1).length=l.length-1:=yh ..;have hget:∀i,i<l.length-1->(l.drop 1)[i]! =l[i+1]! :=λi hi=>by
  rw[getElem!_pos _ i (by omega),getElem!_pos _ (i+1) (by omega),xH]
  congr 1
  omega
 obtain⟨i,e1,hc⟩:=me (cL:=IT) (l.drop 1) (λi=>⟨l,((i+1:Nat):Int)⟩) (λi x=>O (l[i]! <x)) (λi hi=>by
  rw[hlen]at hi;have hw:=gH (show i+1<l.length by omega) hl;have hw2:i64.wrap (((i+1:Nat):Int)-1)=(i:Int):=by rw[aG];omega
  rw[hget i hi];unfold IT;dsimp only;simp only[zl,zi,hw,hw2];generalize l[i+1]! =y;generalize l[i]! =z;grind) (by
   rw[hlen];unfold IT;simp only[zl];rw[iB])
 have e1':Hu ⟨l,1⟩=Q ⟨l,((i+1:Nat):Int)⟩:=e1;rw[e1'];dsimp only;rw[hlen]at hc;rcases hc with ⟨rfl,hc⟩|⟨hi,hc⟩
 ·have:fC l=G:=(jT l).2 λi hi=>by
   have:=hc i (by omega);rw[hget i (by omega)]at this;simpa using this
  rw[this,bP (show ¬(((l.length-1+1:Nat):Int)<(l.length:Int))by omega)];rfl
 ·rw[hget i hi]at hc;have hc':¬l[i]! <l[i+1]! :=by simpa using hc
  have:fC l=I:=by
   cases hr:fC l with
   |false=>rfl
   |true=>exact cR ((jT l).1 hr i (by omega)) hc'
  rw[this];have hw2:i64.wrap (((i+1:Nat):Int)-1)=(i:Int):=by rw[aG];omega
  simp only[zl,zi,hw2];revert hc';generalize l[i+1]! =y;generalize l[i]! =z;intro hc';grind
def BM(a b:Bool):(a&&b)=if a=true then b else false:=by cases a<;>rfl
def Sq(f:aQ)(s:ay)(last:Bool):O4 f s last=Q (dI f s last):=by
 have h199:s.aK.length<=32->UK s.aK=Q (fC s.aK):=λh=>abD _ (by omega);have hz:s.aK[yR 0]! =s.aK[0]! :=rfl;unfold O4 UY YV WZ;rw[ax.eta,ae0,hz];obtain⟨X,hX⟩:∃X,X=dI f s last:=⟨_,rfl⟩;rw[<-hX];have hX1:X=G↔dI f s last=G:=by rw[hX]
 clear hX;unfold dI tC at hX1;generalize fC s.aK=R at*;generalize u6 s.az=Z at*;generalize f.ai[s.cV.toNat]!.bq=K at*;generalize s.aK[0]! =B0 at*;generalize UK s.aK=M at*;have cs:s.bN=0\/s.bN=1\/s.bN=2\/s.bN=3\/s.bN=4\/s.bN=5\/s.bN=6\/s.bN<0\/6<s.bN:=by omega
 rcases cs with h|h|h|h|h|h|h|h|h
 case inr.inr.inr.inr.inr.inr.inr.inl=>rw[bQ h];dsimp only[bC];cases X<;>grind
 case inr.inr.inr.inr.inr.inr.inr.inr=>rw[bQ h,fO];dsimp only[bC,bz];cases X<;>grind
 all_goals
  rw[h]at hX1 ⊢;cases X<;>cases Z<;>simp only[Int.reduceEq,Int.reduceLT,cX,fW,bC,bz,bZ,dA,zl,reduceIte,zn,decide_eq_true_eq,yS,true_iff,false_iff,not_and,and_true,and_false]at hX1 ⊢ <;>grind (splits:=40)
def Wg(a b:Bool):(bif a then some b else some false)=some (a&&b):=by cases a<;>rfl
def PY(f:aQ)(s:ay)(last:Bool)(hb:s.aK.length<=1000000):N6 f s last=Q (dI f s last):=by
 have h173:=aby s.aK hb;have e1:(bif O ((s.aD.length:Int)=0)then Q (O ((s.aJ.length:Int)=0))else Q I)=Q (O (s.aD.length=0/\s.aJ.length=0)):=by
  have c1:((s.aD.length:Int)=0)↔s.aD.length=0:=by omega
  have c2:((s.aJ.length:Int)=0)↔s.aJ.length=0:=by omega
  simp only[c1,c2];by_cases a1:s.aD.length=0<;>by_cases a2:s.aJ.length=0<;>simp[a1,a2]
 have e2:(bif O (0<=s.cV)then bif O (s.cV<(f.ai.length:Int))then if(0:Int)<=s.cV/\s.cV<(f.ai.length:Int)then Q (O (f.ai[s.cV.toNat]!.bq=0))else V else Q I else Q I)=Q (tC f s):=by
  unfold tC;simp only[zl];generalize f.ai[s.cV.toNat]!.bq=K;by_cases a1:0<=s.cV<;>by_cases a2:s.cV<(f.ai.length:Int)<;>simp[a1,a2]
 unfold N6;rw[ax.eta,aaT,h173,e1,e2];dsimp only;unfold dI;generalize fC s.aK=R;generalize u6 s.az=Z;generalize tC f s=L1;generalize O (s.aD.length=0/\s.aJ.length=0)=F;generalize s.aK[0]! =B0;have hi:((s.aK.length:Int)=0)↔s.aK.length=0:=by omega
 have hi2:((s.aJ.length:Int)=0)↔s.aJ.length=0:=by omega
 simp only[hi,hi2];have cs:s.bN=0\/s.bN=1\/s.bN=2\/s.bN=3\/s.bN=4\/s.bN=5\/s.bN=6\/(s.bN≠0/\s.bN≠1/\s.bN≠2/\s.bN≠3/\s.bN≠4/\s.bN≠5/\s.bN≠6):=by omega
 rcases cs with h|h|h|h|h|h|h|⟨h0,h1,h2,h3,h4,h5,h6⟩
 case inr.inr.inr.inr.inr.inr.inr=>simp only[h0,h1,h2,h3,h4,h5,h6,fW,bz,dA]
 all_goals
  rw[h];simp only[Int.reduceEq,cX,fW,bC,bz,bZ,dA,reduceIte];generalize O (s.aK.length=0)=b1;generalize O (s.cV=0)=b2;generalize O (s.aJ.length=0)=b3;generalize O (1<=s.aK.length/\s.aK.length<=32)=b4;generalize O ((0:Int)<=B0)=b5
  try rw[Bool.decide_and]
  generalize O (s.fN=0)=b6
  try generalize O (0<=s.fN)=b7
  try generalize O (s.fN<(f.ak.length:Int))=b8
  simp only[Wg]
  first|done|(congr 1;ac_rfl)
def QT(s:ay)(hb:s.bN=6->1<=s.aK.length/\s.aK.length<=32):MY s=Q (sP s):=by
 unfold MY sP;by_cases h6:s.bN=6
 ·obtain⟨b1,b2⟩:=hb h6;have hw:i64.wrap ((s.aK.length:Int)-1)=(s.aK.length:Int)-1:=aG;have hw2:((s.aK.length:Int)-1).toNat=s.aK.length-1:=by omega
  rw[hw,hw2,h6];generalize s.aK[s.aK.length-1]! =B;simp only[Int.reduceEq,Int.reduceLT,cX,fW,bC,bz,bZ,dA,zl,reduceIte,BM,decide_eq_true_eq,yS];grind (splits:=30)
 ·rw[bP h6,bF h6];by_cases h2:s.bN=2
  ·rw[h2];simp only[Int.reduceEq,Int.reduceLT,cX,fW,bC,bz,bZ,dA,zl,reduceIte,BM,decide_eq_true_eq,yS];grind (splits:=30)
  ·rw[bP h2,bF h2];simp only[Int.reduceEq,Int.reduceLT,cX,fW,bC,bz,bZ,dA,zl,reduceIte,BM,decide_eq_true_eq,yS];grind (splits:=30)
def jo{f:aQ}{s:ay}{last:Bool}(h:dI f s last=G):(s.bN=6->1<=s.aK.length/\s.aK.length<=32)/\(s.bN≠6->s.aK.length=0)/\(s.bN≠3->s.bN≠4->s.aD=[])/\(s.bN≠3->s.aJ=[])/\(s.bN≠4->0<=s.fN):=by
 unfold dI at h;simp only[BM,decide_eq_true_eq]at h;have e1:s.aD.length=0->s.aD=[]:=List.length_eq_zero_iff.1;have e2:s.aJ.length=0->s.aJ=[]:=List.length_eq_zero_iff.1;refine⟨λh6=> ?_,λh6=> ?_,λh3 h4=>e1 ?_,λh3=>e2 ?_,λh4=> ?_⟩<;>grind (splits:=40)
abbrev asW:=aa Int
def d237:Td 1 asW:= .c [] [] (.r 1 1 en (sr 0 3 sn) (λz=>z.2.1) (λx=>((()),(x,()))))
def aor:=(lc (qo 0) ln)
def aoW:=(sr 0 3 sn)
def PE(b0:aa Int):ah asW:=if b0.length<=1073741824 then Q (b0.mergeSort λx y=>O (x<=y))else V
def agX:Prop:=HY vi 237 1 aor aoW d237 (λg=>PE g.2.1)
def awX:bw->bw:=eY vi 237 1 aor aoW d237 (λg=>PE g.2.1)
def XG(hv:agX){F:bw}(h:bG vi F):bG vi (awX F):=LF hv ⟨_,func237,by kernel_rfl,by kernel_rfl⟩ (λ_=>by kernel_rfl) h
def abU:Go.Shelf.Ren:=⟨λ|189=>237|125=>257|257=>281|128=>300|129=>301|294=>317|295=>318|296=>319|297=>320|298=>321|299=>322|216=>323|300=>324|301=>325|328=>342|329=>333|330=>334|331=>343|332=>344|215=>326|343=>354|n=>n,λ|28=>27|3=>3|46=>240|0=>0|51=>322|53=>324|4=>4|183=>316|182=>315|131=>193|5=>5|9=>9|218=>344|222=>348|228=>356|229=>297|n=>n,λ|n=>n⟩
def Srt:Go.Proofs.Lays.n189 vi abU where
 mixed:=by kernel_rfl
 f125:=func257.trans (congrArg Q (by kernel_rfl))
 f128:=func300.trans (congrArg Q (by kernel_rfl))
 f129:=func301.trans (congrArg Q (by kernel_rfl))
 f189:=func237.trans (congrArg Q (by kernel_rfl))
 f215:=func326.trans (congrArg Q (by kernel_rfl))
 f216:=func323.trans (congrArg Q (by kernel_rfl))
 f257:=func281.trans (congrArg Q (by kernel_rfl))
 f294:=func317.trans (congrArg Q (by kernel_rfl))
 f295:=func318.trans (congrArg Q (by kernel_rfl))
 f296:=func319.trans (congrArg Q (by kernel_rfl))
 f297:=func320.trans (congrArg Q (by kernel_rfl))
 f298:=func321.trans (congrArg Q (by kernel_rfl))
 f299:=func322.trans (congrArg Q (by kernel_rfl))
 f300:=func324.trans (congrArg Q (by kernel_rfl))
 f301:=func325.trans (congrArg Q (by kernel_rfl))
 f328:=func342.trans (congrArg Q (by kernel_rfl))
 f329:=func333.trans (congrArg Q (by kernel_rfl))
 f330:=func334.trans (congrArg Q (by kernel_rfl))
 f331:=func343.trans (congrArg Q (by kernel_rfl))
 f332:=func344.trans (congrArg Q (by kernel_rfl))
 f343:=func354.trans (congrArg Q (by kernel_rfl))
 t0:=underlying0
 a0:=Tryz.isAgg0
 z0:=Tryz.sizeOf0
 v0:=Tryz.zeroValue0
 t3:=underlying3
 a3:=Tryz.isAgg3
 z3:=Tryz.sizeOf3
 v3:=Tryz.zeroValue3
 t4:=underlying4
 a4:=Tryz.isAgg4
 z4:=Tryz.sizeOf4
 v4:=Tryz.zeroValue4
 t5:=underlying5
 a5:=Tryz.isAgg5
 z5:=Tryz.sizeOf5
 v5:=Tryz.zeroValue5
 t9:=underlying9
 a9:=Tryz.isAgg9
 z9:=Tryz.sizeOf9
 v9:=Tryz.zeroValue9
 t28:=underlying27
 a28:=Tryz.isAgg27
 z28:=Tryz.sizeOf27
 v28:=Tryz.zeroValue27
 t46:=underlying240
 a46:=Tryz.isAgg240
 z46:=Tryz.sizeOf240
 v46:=Tryz.zeroValue240
 t51:=underlying322
 a51:=Tryz.isAgg322
 z51:=Tryz.sizeOf322
 v51:=Tryz.zeroValue322
 t53:=underlying324
 a53:=Tryz.isAgg324
 z53:=Tryz.sizeOf324
 v53:=Tryz.zeroValue324
 t131:=underlying193
 a131:=Tryz.isAgg193
 z131:=Tryz.sizeOf193
 v131:=Tryz.zeroValue193
 t182:=underlying315
 a182:=Tryz.isAgg315
 z182:=Tryz.sizeOf315
 v182:=Tryz.zeroValue315
 t183:=underlying316
 a183:=Tryz.isAgg316
 z183:=Tryz.sizeOf316
 v183:=Tryz.zeroValue316
 t218:=underlying344
 a218:=Tryz.isAgg344
 z218:=Tryz.sizeOf344
 v218:=Tryz.zeroValue344
 t222:=underlying348
 a222:=Tryz.isAgg348
 z222:=Tryz.sizeOf348
 v222:=Tryz.zeroValue348
 t228:=underlying356
 a228:=Tryz.isAgg356
 z228:=Tryz.sizeOf356
 v228:=Tryz.zeroValue356
 t229:=underlying297
 a229:=Tryz.isAgg297
 z229:=Tryz.sizeOf297
 v229:=Tryz.zeroValue297
def rI{A:Nat->Prop}{w:World}{l:aa Int}{us:aa Value}(h1:us.length=l.length*1)(h2:∀i,i<l.length->bL A w (uni.cells 3 l[i]!) ((us.drop (i*1)).take 1)):us=l.map (Value.int .i64):=by
 apply wR (by simpa using h1);intro i q1 q2;simp at q2;obtain⟨g1,g2⟩:=h2 i q2;have e:((us.drop (i*1)).take 1)[0]? =Q us[i]:=by
  rw[List.getElem?_take_of_lt (by omega),yA];simp[q1]
 have g3:=g2 0 (.lit (.int .i64 l[i]!)) us[i] rfl e;rw[g3.cM,ye,getElem!_pos l i q2]
def acm{A:Nat->Prop}{w:World}{l:aa Int}:∀i,i<l.length->bL A w (uni.cells 3 l[i]!) (((l.map (Value.int .i64)).drop (i*1)).take 1):=λi hi=>by
 have e:((l.map (Value.int .i64)).drop (i*1)).take 1=[Value.int .i64 l[i]!]:=by
  rw[xu,wj (by simpa using hi),List.take_succ_cons,xT,ye,getElem!_pos l i hi]
 rw[e];refine⟨rfl,λj a v q1 q2=> ?_⟩;cases j with
 |zero=>cases q1;cases q2;exact .lit _
 |succ j=>cases q1
def ajt(l b:aa Int)(hb:PE l=Q b):Tg vi 237 [.own 0] [(0, .row 3 l)] 1 (ku vi 237 1 (d237.pat b)):=by
 unfold PE at hb;split at hb
 case isFalse=>cases hb
 rename_i hlen;have hbl:b=l.mergeSort λx y=>O (x<=y):=(zO.inj hb).symm;have hln:b.length=l.length:=by rw[hbl,List.length_mergeSort]
 intro ρ;have ho:ku vi 237 1 (d237.pat b)=⟨.jE [],[(0, .row 3 b)],1⟩:=by kernel_rfl
 show Go.Iv.Fn vi 237 [(cn.own 0).sub ρ] (aZ.res ρ [(0, .row 3 l)]) _;rw[ho,eC];intro w A vs hr hd hn;obtain⟨hr1,hr2⟩:=hr;obtain⟨v,rfl⟩:∃v,vs=[v]:=List.length_eq_one_iff.1 hr1;have hv:v=ρ.v 0:=(hr2 0 _ v rfl rfl).cM;subst hv;generalize hv:ρ.v 0=v at*;have hok:=hd.1 (.row v 3 l) (by show _∈[cK.row (ρ.v 0) 3 l];rw[hv];exact zD.2 rfl);obtain⟨us,h1,h2,h3⟩:=hok;have hσ:aZ.res ρ [(0, .row 3 l)]=[cK.row v 3 l]:=by show [cK.row (ρ.v 0) 3 l]=_;rw[hv]
 have hus:us=l.map (Value.int .i64):=rI h1.1 h3;rw[hσ]at hd hn ⊢;have fin:∀w':World,iD w' v 3 1 b.length (b.map (Value.int .i64))->Kp (bH [cK.row v 3 l]) w w'->∃v_1 av σ',Ending.returned (Value.tuple #[])=Ending.returned v_1/\
   (∃ρ',rq 1 ρ ρ'/\av=(cn.jE (dF:=uni.dF) []).sub ρ'/\List.Perm σ' (aZ.res ρ' [(0, .row 3 b)]))/\Tr ⟨w,A,bH [cK.row v 3 l]⟩ (bH [cK.row v 3 l]) [cK.row v 3 l] w σ' w'/\Rel (al ⟨w,A,bH [cK.row v 3 l]⟩ σ') w' av v_1:=λw' hrow hk=>by
  have hbk:bH [cK.row v 3 b]=bH [cK.row v 3 l]:=rfl;have hal:∀x,al ⟨w,A,bH [cK.row v 3 l]⟩ [cK.row v 3 l] x->al ⟨w,A,bH [cK.row v 3 l]⟩ [cK.row v 3 b] x:=λx h=>h;refine⟨_, .jE [],[cK.row v 3 b],rfl,⟨ρ,λi _=>⟨rfl,rfl⟩,by simp only[cn.sub,xw],by show List.Perm _ [cK.row (ρ.v 0) 3 b];rw[hv]⟩,⟨⟨hk,?_,?_,?_⟩,hk,λx _ h=>⟨hal x h,h.2⟩⟩,Rel.jE [] [] rfl (λj a v q=>by cases q)⟩
  ·intro r hr;rw[zD.1 hr];exact⟨b.map (Value.int .i64),hrow,λi _=>rfl,acm⟩
  ·rw[hbk];exact hn
  ·intro x hx;exact .inl hx
 obtain⟨h1l,hcase⟩:=h1;rcases hcase with ⟨p,hvp,hl0⟩|⟨gb,cap,cur,hvp,hg,q1,q2,q3,q4⟩
 ·have hl:l=[]:=List.length_eq_zero_iff.1 hl0;have hbn:b=[]:=by rw[hbl,hl,List.mergeSort_nil]
  subst hvp;refine(Go.Proofs.Any.slices_Sort_int_none Srt p 0 w).mono λe w' he=> ?_;obtain⟨rfl,rfl⟩:=he;refine fin w' ?_ (Kp.refl _ _);rw[hbn];exact⟨rfl, .inl ⟨p,rfl,rfl⟩⟩
 ·subst hvp;have hgs:gb<w.heap.size:=(wH.1 hg).1;have q4:cur.toList.take (l.length*1)=us:=q4;have q3:cur.size=(cap+1)*1:=q3;rw[xu]at q4;have q1:l.length<=cap+1:=q1;have hbc:b.length<=cap+1:=by rw[hln];exact q1
  have hH:=holds_of_blockI (ss:=l) hg (by rw[q4,hus]);refine(Go.Proofs.Any.slices_Sort_int Srt gb 0 (cap+1) l w hH hgs (by omega)).mono λe w' he=> ?_;obtain⟨rfl,n,os,rfl⟩:=he;rw[<-hbl];obtain⟨k1,k2,k3,k4,k5⟩:=grownBy_sortedI (w:=w) (g:=gb) (n:=n) (os:=os) b.toArray;refine fin _ ?_ ⟨k1,k2,k3,k4,λk hk hX=>k5 k hk (λh=>hX ?_)⟩
  ·refine⟨by simp, .inr ⟨gb,cap,_,by rw[hln];rfl,heap_sortedI _ hg,hbc,q2,by simp[Go.Sort.putCells,q3],?_⟩⟩;rw[xu];exact take_putCellsI cur b (by rw[q3,xu];exact hbc)
  ·cases h;exact bS.2 ⟨_,zD.2 rfl,rfl⟩
def arR:agX:=λg b hb=>ajt g.2.1 b hb
abbrev E35:=aa Int
def d35:Td 0 E35:= .c [] [2] (.t (cU.s 2 [] 3) (.c [] [2] (.r 0 1 (ec 2 (qo 0) en) (sr 0 3 sn) (λz=>z.2.1) (λx=>(((),()),(x,()))))))
def A35:=(lc (ql 3) ln)
def m35(a0:aa Int):ah E35:=if a0.length<=1073741824 then Q a0 else V
def ajj:gv vi eB 0 300 35 .no:=cD (l:=[]) func35 (bR (by kernel_rfl)) (by kernel_rfl) aI
def av2(x:Int)(xs:aa Int):ct vi eB 300 .no 35 [.sl 3 (x::xs)] [] 0 d35.rd=if([]++(x::xs)).length<=1073741824 then Q ([]++(x::xs))else V:=by kernel_rfl
def avy(c:Nat):ct vi eB 300 .no 35 [.lit (.slice V 0 c)] [] 0 d35.rd=Q []:=by kernel_rfl
def avv(a:Addr)(c:Nat):ct vi eB 300 .no 35 [.lit (.slice (Q a) 0 c)] [] 0 d35.rd=Q []:=by kernel_rfl
def h35:HL vi 35 A35 d35 (λg=>m35 g.1):=λg r h=>by
 obtain⟨a0,_⟩:=g;have h:m35 a0=Q r:=h;cases a0 with
 |cons x xs=>exact(o5 (out:=λp=>ku vi 35 0 (d35.pat p)) (p:=r) aY ajj d35.ok (λp=>by kernel_rfl) (oq (by kernel_rfl)) (l7 (by kernel_rfl)) ((av2 x xs).trans (by rw[ym];exact h))).2
 |nil=>
  cases h;exact SD (λc=>(o5 (out:=λp=>ku vi 35 0 (d35.pat p)) (p:=[]) aY ajj d35.ok (λp=>by kernel_rfl) (oq (by kernel_rfl)) (l7 (by kernel_rfl)) (avy c)).2) (λa c=>(o5 (out:=λp=>ku vi 35 0 (d35.pat p)) (p:=[]) aY ajj d35.ok (λp=>by kernel_rfl) (oq (by kernel_rfl)) (l7 (by kernel_rfl)) (avv a c)).2)
def e35:=eL vi 35 I A35 d35 (λg=>m35 g.1)
def X0{F:bw}(h:bG vi F):bG vi (e35 F):=iJ (sc:=Ec) fS h35 ⟨_,func35,by kernel_rfl,by kernel_rfl⟩ (λ_=>by kernel_rfl) (λ_=>by kernel_rfl) h
structure nP where
 t21:List Int
 (t22 t23:Int)
 (b0 b1 b2:aH)
def Of:Td 0 nP:= .c [] [2,4,7,21,22,23] (.r 0 4 (ec 2 (qp 0 0) (ec 4 (qp 1 0) (ec 7 (qp 2 0) (ec 21 (qo 3) (ec 22 aU (ec 23 aU en)))))) (sb 0 34 (lg 34) (sb 1 34 (lg 34) (sb 2 34 (lg 34) (sr 3 3 sn)))) (λz=>⟨z.q.1,z.1.q.1,z.1.q.2.1,z.2.1,z.t.1,z.t.2.1⟩) (λx=>(((),(),(),(),x.t22,x.t23,()),(x.b0,x.b1,x.b2,x.t21,()))))
def AX(p:nP):ah (ah nP):=
 bif O (p.t23<p.t22)then if 0<=p.t23/\p.t23<p.t21.length then if 3=3/\p.t23.toNat<p.t21.length then bif bif jL p.t21[p.t23.toNat]! then I else G then Q (V)else match BI p.b0 p.t21[p.t23.toNat]! with|V=>V|Q r1=>bif bif fB r1.fst then I else G then match l5 p.b2 (gX p.t21[p.t23.toNat]!)with|V=>V|Q r2=>Q (Q (nP.mk p.t21 p.t22 (i64.wrap (p.t23+1)) r1.snd p.b1 r2))else Q (Q (nP.mk p.t21 p.t22 (i64.wrap (p.t23+1)) r1.snd p.b1 p.b2))else V else V else Q (V)
def G4:=bJ (AX)
abbrev apy:=aH×Int
def d161:Td 0 apy:= .c [] [4,5] (.r 0 1 (ec 4 (qp 0 0) (ec 5 aU en)) (sb 0 34 (lg 34) sn) (λz=>(z.2.1,z.1.2.1)) (λx=>(((),x.2,()),(x.1,()))))
def KX(a0:aH)(a1:aa Int):ah apy:=
 match sZ a0 with|V=>V|Q r3=>bif bif r3 then I else G then Q (aH.mk 0 0 0,1)else match m35 a1 with|V=>V|Q r4=>match PE r4 with|V=>V|Q r5=>match G4 (nP.mk r5 (↑(yC r5):Int) 0 a0 (aH.mk 0 0 0) iV)with|V=>V|Q r6=>bif O (r6.t23<r6.t22)then if 0<=r6.t23/\r6.t23<r6.t21.length then if 3=3/\r6.t23.toNat<r6.t21.length then bif bif jL r6.t21[r6.t23.toNat]! then I else G then Q (aH.mk 0 0 0,3)else match BI r6.b0 r6.t21[r6.t23.toNat]! with|V=>V|Q r7=>bif bif fB r7.fst then I else G then match l5 r6.b2 (gX r6.t21[r6.t23.toNat]!)with|V=>V|Q r8=>V else V else V else V else match l5 r6.b2 r6.b0 with|V=>V|Q r9=>Q (r9,0)
def ar8:=eL vi 161 I (lc (qg 34) (lc (ql 3) ln)) d161 (λg=>KX g.1 g.2.1)
def aev:EO ar8:=λh=>kL (an:=(noTwo (noTwo (noTwo (noTwo (noTwo (.two (noTwo (Of.lp G4 .no)) .no))))))) (l:=[(bE f161 0,(Of.lp G4 .no))]) func161 (XG arR (jU (rE (rA (jl (G7 (Cf (kS (X0 aY))))))))) (aB (aO Of) aI) h
def Lu{l:aa Int}(h:fC l=G):∀{i j:Nat},i<j->j<l.length->l[i]! <l[j]! :=by
 intro i j hij hj;induction j with
 |zero=>omega
 |succ j ih=>
  have h1:=(jT l).1 h j hj;by_cases hi:i=j
  ·subst hi;exact h1
  ·have:=ih (by omega) (by omega);omega
def J1{l:aa Int}(h:fC l=G):l.mergeSort (λx y=>O (x<=y))=l:=by
 apply List.mergeSort_of_pairwise;rw[List.pairwise_iff_getElem];intro i j hi hj hij;have:=Lu h hij hj;rw[getElem!_pos l i hi,getElem!_pos l j hj]at this;simp;omega
def E7:aa Int->Int->Int
 |[],x=>x
 |b::l,x=>if x<=b then b else E7 l x
def og(l:aa Int)(b x:Int):E7 (l++[b]) x=if(∃c∈l,x<=c)then E7 l x else if x<=b then b else x:=by
 induction l with
 |nil=>simp[E7]
 |cons c l ih=>
  show (if x<=c then c else E7 (l++[b]) x)=_;by_cases h:x<=c
  ·rw[bt h,bt ⟨c,zo ..,h⟩];show c=if x<=c then c else E7 l x
   rw[bt h]
  ·rw[bF h,ih];show _=if _ then(if x<=c then c else E7 l x)else _
   rw[bF h];by_cases k:∃c∈l,x<=c
   ·obtain⟨d,hd,hx⟩:=k;rw[bt ⟨d,hd,hx⟩,bt ⟨d,zH _ hd,hx⟩]
   ·rw[bF k,bF (show ¬∃d∈c::l,x<=d from λ⟨d,hd,hx⟩=>by
     rcases zF.mp hd with rfl|hd
     ·exact h hx
     ·exact k ⟨d,hd,hx⟩)]
def aaH{l:aa Int}{x:Int}(h:∃c∈l,x<=c):E7 l x∈l:=by
 induction l with
 |nil=>obtain⟨c,hc,_⟩:=h;cases hc
 |cons c l ih=>
  show (if x<=c then c else E7 l x)∈_;by_cases k:x<=c
  ·rw[bt k];exact zo ..
  ·rw[bF k];obtain⟨d,hd,hx⟩:=h;rcases zF.mp hd with rfl|hd
   ·exact cR hx k
   ·exact zH _ (ih ⟨d,hd,hx⟩)
def Hw{l:aa Int}{x:Int}(h:¬∃c∈l,x<=c):E7 l x=x:=by
 induction l with
 |nil=>rfl
 |cons c l ih=>
  show (if x<=c then c else E7 l x)=_;rw[bF (λk=>h ⟨c,zo ..,k⟩),ih (λ⟨d,hd,hx⟩=>h ⟨d,zH _ hd,hx⟩)]
def uq(a:aH)(l:aa Int)(y:Int):Prop:=∃x,bk a x/\y=E7 l x
def TS{a:aH}(h:NV a){l:aa Int}(hl:∀b∈l,bX b){y:Int}(k:uq a l y):bX y:=by
 obtain⟨x,hx,rfl⟩:=k;by_cases c:∃c∈l,x<=c
 ·exact hl _ (aaH c)
 ·rw[Hw c];exact Us h hx
structure KI (a:aH) (l:List Int) (i:Nat) (s:aH×aH):Prop where
 rest:Ex (λx=>bk a x/\∀b∈l.take i,b<x) s.1
 out:mG (λy=>∃x,bk a x/\(∃b∈l.take i,x<=b)/\y=E7 (l.take i) x) s.2
 v:NV s.2
def KI.step{a:aH}{l:aa Int}{i:Nat}{s:aH×aH}(hi:i<l.length)(hl:∀b∈l,bX b)(h:KI a l i s):
  ∃u r,BI s.1 l[i]! =Q (u,r)/\NV u/\(fB u=G->KI a l (i+1) (r,s.2))/\(fB u=I->KI a l (i+1) (r,cc s.2 (dN l[i]!))):=by
 obtain⟨u,r,e,p1,p2⟩:=tX h.rest.1 l[i]!;have hb:=hl _ (aV hi);have mu:∀x,bk u x↔bk a x/\(∀b∈l.take i,b<x)/\x<=l[i]! :=λx=>
  ⟨λk=>let ⟨k1,k2⟩:=(p1.2 x).mp k;let ⟨k3,k4⟩:=(h.rest.2 x).mp k1;⟨k3,k4,k2⟩,λ⟨k1,k2,k3⟩=>(p1.2 x).mpr ⟨(h.rest.2 x).mpr ⟨k1,k2⟩,k3⟩⟩
 have tk:l.take (i+1)=l.take i++[l[i]!]:=bO hi;have mr:Ex (λx=>bk a x/\∀b∈l.take (i+1),b<x) r:=⟨p2.1,λx=>by
  rw[tk];constructor
  ·intro k;obtain⟨k1,k2⟩:=(p2.2 x).mp k;obtain⟨k3,k4⟩:=(h.rest.2 x).mp k1;refine⟨k3,λb hb=> ?_⟩;rcases zV.mp hb with hb|hb
   ·exact k4 b hb
   ·rw[zD.mp hb];exact k2
  ·rintro⟨k1,k2⟩;exact(p2.2 x).mpr ⟨(h.rest.2 x).mpr ⟨k1,λb hb=>k2 b (yH _ hb)⟩,k2 _ (yI _ (zD.mpr rfl))⟩⟩
 have eq:∀y,((∃x,bk a x/\(∃b∈l.take i,x<=b)/\y=E7 (l.take i) x)\/(y=l[i]!/\∃x,bk u x))↔(∃x,bk a x/\(∃b∈l.take (i+1),x<=b)/\y=E7 (l.take (i+1)) x):=λy=>by
  rw[tk];constructor
  ·rintro(⟨x,k1,⟨b,hb,k2⟩,rfl⟩|⟨rfl,x,hx⟩)
   ·exact⟨x,k1,⟨b,yH _ hb,k2⟩,by rw[og,bt ⟨b,hb,k2⟩]⟩
   ·obtain⟨k1,k2,k3⟩:=(mu x).mp hx;exact⟨x,k1,⟨_,yI _ (zD.mpr rfl),k3⟩,by rw[og,bF (λ⟨b,hb,k⟩=>by have:=k2 b hb;omega),bt k3]⟩
  ·rintro⟨x,k1,⟨b,hb,k2⟩,rfl⟩;by_cases c:∃b∈l.take i,x<=b
   ·exact .inl ⟨x,k1,c,by rw[og,bt c]⟩
   ·have k3:x<=l[i]! :=by
     rcases zV.mp hb with hb|hb
     ·exact cR ⟨b,hb,k2⟩ c
     ·rw[<-zD.mp hb];exact k2
    refine .inr ⟨by rw[og,bF c,bt k3],x,(mu x).mpr ⟨k1,λb hb=> ?_,k3⟩⟩;rcases Int.lt_or_le b x with q|q
    ·exact q
    ·exact cR ⟨b,hb,q⟩ c
 obtain⟨t1,t2⟩:=m7 h.out h.v hb (Ex.rep (P:=bk u) ⟨p1.1,λx=>Iff.rfl⟩) p1.1;refine⟨u,r,e,p1.1,λk=>⟨mr,(t1 k).congr eq,h.v⟩,λk=>⟨mr,(t2 k).congr eq,ek h.v (qH hb)⟩⟩
def alB{l:aa Int}(h:l.length<=1073741824):m35 l=Q l:=by unfold m35;rw[bt h]
def YA{a:aH}(h:NV a){l:aa Int}(hr:fC l=G)(hn:l.length<=1000000)(hl:∀b∈l,bX b):∃c,KX a l=Q (c,0)/\mG (uq a l) c:=by
 unfold KX;rw[eX,ew h];simp only[bC,bz];rw[alB (by omega)];simp only;rw[show PE l=Q l from by unfold PE;rw[gG,J1 hr]];simp only;obtain⟨⟨r,o⟩,e1,hI⟩:=dD (cL:=AX) l.length (λi (s:aH×aH)=>nP.mk l l.length (i:Nat) s.1 (aH.mk 0 0 0) s.2) (KI a l)
  (λi s hi hI=>by
   obtain⟨u,r,e,vu,q1,q2⟩:=hI.step hi hl;have hb:=hl _ (aV hi);have hbb:jL l[i]! =G:=by rw[j0];exact bQ hb
   unfold AX;simp only;rw[rZ,bC,gG,zi,bt ⟨trivial,hi⟩,hbb];simp only[bC,bz];rw[e];simp only;rw[gH hi hn];cases c:fB u with
   |true=>exact⟨(r,s.2),rfl,q1 c⟩
   |false=>
    simp only[bC,bz];rw[iS hI.v (.inr (show NN (gX l[i]!)from NN.one hb.1 hb.2))];exact⟨(r,cc s.2 (dN l[i]!)),rfl,q2 c⟩)
  (λs hI=>by
   unfold AX;simp only;rw[fO];rfl) (b:=(a,cy)) ⟨⟨h,λx=>⟨λk=>⟨k,λb hb=>by simp at hb⟩,λk=>k.1⟩⟩, .none λx ⟨_,_,⟨b,hb,_⟩,_⟩=>by simp at hb, .inl rfl⟩
 have e1:bJ AX (nP.mk l l.length 0 a (aH.mk 0 0 0) iV)=Q (nP.mk l l.length (l.length:Nat) r (aH.mk 0 0 0) o):=e1;rw[show G4=bJ AX from rfl,e1];simp only;rw[fO,bz,iS hI.v hI.rest.1];refine⟨_,rfl,(hI.out.join hI.rest.rep hI.v hI.rest.1).congr λy=> ?_⟩;rw[zR];constructor
 ·rintro(⟨x,k1,_,k3⟩|⟨k1,k2⟩)
  ·exact⟨x,k1,k3⟩
  ·exact⟨y,k1,(Hw λ⟨b,hb,k⟩=>by have:=k2 b hb;omega).symm⟩
 ·rintro⟨x,k1,k2⟩;by_cases c:∃b∈l,x<=b
  ·exact .inl ⟨x,k1,c,k2⟩
  ·right;rw[Hw c]at k2;subst k2;exact⟨k1,λb hb=>by
    rcases Int.lt_or_le b y with q|q
    ·exact q
    ·exact cR ⟨b,hb,q⟩ c⟩
structure lF where
 t1:List Int
 t9:Int
 t10:Bool
 t11:Int
 (b0 b1 b2:aH)
def Js(p:lF):ah (ah lF):=
 bif O (p.t11<p.t1.length)then if 0<=p.t11/\p.t11<p.t1.length then bif O (((p.t1,(),(),(),p.t9,p.t10,p.t11,()),p.b0,p.b1,p.b2,()).snd.snd.snd.fst.ag<=((p.t1,(),(),(),p.t9,p.t10,p.t11,()),p.b0,p.b1,p.b2,()).fst.fst[((p.t1,(),(),(),p.t9,p.t10,p.t11,()),p.b0,p.b1,p.b2,()).fst.snd.snd.snd.snd.snd.snd.fst.toNat]!)then bif bif p.t10 then I else G then if 0<=p.t11/\p.t11<p.t1.length then Q (Q (lF.mk p.t1 p.t1[p.t11.toNat]! G (i64.wrap (p.t11+1)) p.b0 p.b1 p.b2))else V else if 0<=p.t11/\p.t11<p.t1.length then bif O (((p.t1,(),(),(),p.t9,p.t10,p.t11,()),p.b0,p.b1,p.b2,()).fst.fst[((p.t1,(),(),(),p.t9,p.t10,p.t11,()),p.b0,p.b1,p.b2,()).fst.snd.snd.snd.snd.snd.snd.fst.toNat]! <((p.t1,(),(),(),p.t9,p.t10,p.t11,()),p.b0,p.b1,p.b2,()).fst.snd.snd.snd.snd.fst)then if 0<=p.t11/\p.t11<p.t1.length then Q (Q (lF.mk p.t1 p.t1[p.t11.toNat]! G (i64.wrap (p.t11+1)) p.b0 p.b1 p.b2))else V else Q (Q (lF.mk p.t1 p.t9 p.t10 (i64.wrap (p.t11+1)) p.b0 p.b1 p.b2))else V else Q (Q (lF.mk p.t1 p.t9 p.t10 (i64.wrap (p.t11+1)) p.b0 p.b1 p.b2))else V else Q (V)
def M4:=bJ (Js)
structure oc where
 t1:List Int
 (b0 b1 b2:aH)
def sW(p:oc):ah (ah oc):=
 bif bif lT p.b2 then I else G then match M4 (lF.mk p.t1 0 I 0 p.b0 p.b1 p.b2)with|V=>V|Q r1=>bif O (r1.t11<r1.t1.length)then if 0<=r1.t11/\r1.t11<r1.t1.length then bif O (((r1.t1,(),(),(),r1.t9,r1.t10,r1.t11,()),r1.b0,r1.b1,r1.b2,()).snd.snd.snd.fst.ag<=((r1.t1,(),(),(),r1.t9,r1.t10,r1.t11,()),r1.b0,r1.b1,r1.b2,()).fst.fst[((r1.t1,(),(),(),r1.t9,r1.t10,r1.t11,()),r1.b0,r1.b1,r1.b2,()).fst.snd.snd.snd.snd.snd.snd.fst.toNat]!)then bif bif r1.t10 then I else G then if 0<=r1.t11/\r1.t11<r1.t1.length then V else V else if 0<=r1.t11/\r1.t11<r1.t1.length then bif O (((r1.t1,(),(),(),r1.t9,r1.t10,r1.t11,()),r1.b0,r1.b1,r1.b2,()).fst.fst[((r1.t1,(),(),(),r1.t9,r1.t10,r1.t11,()),r1.b0,r1.b1,r1.b2,()).fst.snd.snd.snd.snd.snd.snd.fst.toNat]! <((r1.t1,(),(),(),r1.t9,r1.t10,r1.t11,()),r1.b0,r1.b1,r1.b2,()).fst.snd.snd.snd.snd.fst)then if 0<=r1.t11/\r1.t11<r1.t1.length then V else V else V else V else V else V else bif bif r1.t10 then I else G then match lJ r1.b1 r1.b2 with|V=>V|Q r2=>Q (V)else match lJ r1.b1 (aH.mk r1.t9 r1.t9 0)with|V=>V|Q r3=>match U5 r1.b2 r1.t9 with|V=>V|Q r4=>Q (Q (oc.mk r1.t1 r1.b0 r3 r4))else Q (V)
def Xe:=bJ (sW)
structure sV where
 t1:List Int
 t6:Int
 (b0 b1:aH)
def AQ(p:sV):ah (ah sV):=
 bif O (p.t6<p.t1.length)then if 0<=p.t6/\p.t6<p.t1.length then bif bif oI p.t1[p.t6.toNat]! then I else G then Q (V)else Q (Q (sV.mk p.t1 (i64.wrap (p.t6+1)) p.b0 p.b1))else V else Q (V)
def W4:=bJ (AQ)
abbrev avM:=aH×Int
def Pv(a0:aH)(a1:aa Int):ah avM:=
 match U4 a0 with|V=>V|Q r5=>bif bif r5 then I else G then Q (aH.mk 0 0 0,1)else match W4 (sV.mk a1 0 a0 (aH.mk 0 0 0))with|V=>V|Q r6=>bif O (r6.t6<r6.t1.length)then if 0<=r6.t6/\r6.t6<r6.t1.length then bif bif oI r6.t1[r6.t6.toNat]! then I else G then Q (aH.mk 0 0 0,3)else V else V else match Xe (oc.mk r6.t1 r6.b1 sk r6.b0)with|V=>V|Q r7=>bif bif lT r7.b2 then I else G then match M4 (lF.mk r7.t1 0 I 0 r7.b0 r7.b1 r7.b2)with|V=>V|Q r8=>bif O (r8.t11<r8.t1.length)then if 0<=r8.t11/\r8.t11<r8.t1.length then bif O (((r8.t1,(),(),(),r8.t9,r8.t10,r8.t11,()),r8.b0,r8.b1,r8.b2,()).snd.snd.snd.fst.ag<=((r8.t1,(),(),(),r8.t9,r8.t10,r8.t11,()),r8.b0,r8.b1,r8.b2,()).fst.fst[((r8.t1,(),(),(),r8.t9,r8.t10,r8.t11,()),r8.b0,r8.b1,r8.b2,()).fst.snd.snd.snd.snd.snd.snd.fst.toNat]!)then bif bif r8.t10 then I else G then if 0<=r8.t11/\r8.t11<r8.t1.length then V else V else if 0<=r8.t11/\r8.t11<r8.t1.length then bif O (((r8.t1,(),(),(),r8.t9,r8.t10,r8.t11,()),r8.b0,r8.b1,r8.b2,()).fst.fst[((r8.t1,(),(),(),r8.t9,r8.t10,r8.t11,()),r8.b0,r8.b1,r8.b2,()).fst.snd.snd.snd.snd.snd.snd.fst.toNat]! <((r8.t1,(),(),(),r8.t9,r8.t10,r8.t11,()),r8.b0,r8.b1,r8.b2,()).fst.snd.snd.snd.snd.fst)then if 0<=r8.t11/\r8.t11<r8.t1.length then V else V else V else V else V else V else bif bif r8.t10 then I else G then match lJ r8.b1 r8.b2 with|V=>V|Q r9=>Q (r9,0)else match lJ r8.b1 (aH.mk r8.t9 r8.t9 0)with|V=>V|Q r10=>match U5 r8.b2 r8.t9 with|V=>V|Q r11=>V else Q (r7.b1,0)
def PV{l:aa Int}(hr:fC l=G)(hn:l.length<=1000000)(b0 b1 c:aH):∃best found,M4 (lF.mk l 0 I 0 b0 b1 c)=Q (lF.mk l best found l.length b0 b1 c)/\
  ((found=I/\∀j,j<l.length->l[j]! <c.ag)\/(found=G/\∃j,j<l.length/\best=l[j]!/\c.ag<=l[j]!/\∀k,k<j->l[k]! <c.ag)):=by
 obtain⟨⟨best,found⟩,e1,hI⟩:=dD (cL:=Js) l.length (λi (s:Int×Bool)=>lF.mk l s.1 s.2 (i:Nat) b0 b1 c)
  (λi s=>(s.2=I/\∀j,j<i->l[j]! <c.ag)\/(s.2=G/\∃j,j<i/\s.1=l[j]!/\c.ag<=l[j]!/\∀k,k<j->l[k]! <c.ag))
  (λi s hi hI=>by
   have hci:(0:Int)<=(i:Int)/\(i:Int)<(l.length:Int):=by omega
   unfold Js;simp only;rw[bQ hci.2,bC,bt hci,zi,gH hi hn];by_cases h1:c.ag<=l[i]!
   ·rw[bQ h1,bC];rcases hI with ⟨h2,h3⟩|⟨h2,j,h3,h4,h5,h6⟩
    ·rw[h2];simp only[bC,bz];rw[bt hci];exact⟨(l[i]!,G),rfl, .inr ⟨rfl,i,by omega,rfl,h1,h3⟩⟩
    ·rw[h2];simp only[bC,bz];have hlt:l[j]! <l[i]! :=Lu hr h3 hi;rw[bt hci,bP (show ¬l[i]! <s.1 by omega),bz];exact⟨(s.1,G),rfl, .inr ⟨rfl,j,by omega,h4,h5,h6⟩⟩
   ·rw[bP h1,bz];refine⟨s,rfl,?_⟩;rcases hI with ⟨h2,h3⟩|⟨h2,j,h3,h4⟩
    ·refine .inl ⟨h2,λj hj=> ?_⟩;rcases y8.mp hj with k|rfl
     ·exact h3 j k
     ·omega
    ·exact .inr ⟨h2,j,by omega,h4⟩)
  (λs hI=>by
   unfold Js;simp only;rw[fO];rfl) (b:=((0:Int),I)) (.inl ⟨rfl,λj hj=>cR hj (yK _)⟩)
 exact⟨best,found,e1,hI⟩
def TW{l:aa Int}{j:Nat}{x:Int}(hj:j<l.length)(h1:∀k,k<j->l[k]! <x)(h2:x<=l[j]!):E7 l x=l[j]! :=by
 induction l generalizing j with
 |nil=>exact cR hj (yK _)
 |cons b l ih=>
  cases j with
  |zero=>exact bt h2
  |succ j=>
   have h0:b<x:=h1 0 (by omega);show (if x<=b then b else E7 l x)=_;rw[iB];exact ih (j:=j) (by simpa using hj) (λk hk=>h1 (k+1) (by omega)) h2
def get_of_mem{l:aa Int}{b:Int}(h:b∈l):∃j,j<l.length/\l[j]! =b:=by
 obtain⟨j,hj,rfl⟩:=wk h;exact⟨j,hj,getElem!_pos l j hj⟩
def Y4{a:aH}(h:NV a){l:aa Int}(hr:fC l=G)(hn:l.length<=1000000)(hl:∀b∈l,bX b):∃c,Pv a l=Q (c,0)/\mG (uq a l) c:=by
 unfold Pv;rw[fU,ew h];simp only[bC,bz];have e0:bJ AQ (sV.mk l 0 a (aH.mk 0 0 0))=Q (sV.mk l (l.length:Nat) a (aH.mk 0 0 0)):=Mf (cL:=AQ) (λi=>sV.mk l (i:Nat) a (aH.mk 0 0 0)) l.length (λi hi=>by
  unfold AQ;simp only;rw[rZ,bC,gG,zi,DZ,bQ (hl _ (aV hi)),gH hi hn];rfl) (λr=>by
  unfold AQ;simp only;rw[fO];intro h;cases h)
 rw[show W4=bJ AQ from rfl,e0];simp only;rw[fO,bz];obtain⟨z,e1,⟨o,r,T,rfl,hr1,ho,vo⟩,hs⟩:=lS (cL:=sW) (λp=>∃o r T,p=oc.mk l (aH.mk 0 0 0) o r/\Ex (λx=>bk a x/\T<x) r/\mG (λy=>∃x,bk a x/\x<=T/\y=E7 l x) o/\NV o)
  (λp=>if lT p.b2=G then 0 else(1099511627777-p.b2.ag).toNat) (λp p' ⟨o,r,T,hp,h1,h2,h3⟩ hq=>by
  subst hp;have hq:sW (oc.mk l (aH.mk 0 0 0) o r)=Q (Q p'):=hq;unfold sW at hq;simp only at hq;rcases h1.1 with rfl|vr
  ·rw[nB]at hq;cases hq
  ·rw[iG vr]at hq;simp only[bC,bz]at hq;obtain⟨best,found,e2,h4⟩:=PV hr hn (aH.mk 0 0 0) o r;rw[e2]at hq;simp only at hq;rw[fO,bz]at hq;rcases h4 with ⟨rfl,h4⟩|⟨rfl,j,hj,rfl,h5,h6⟩
   ·simp only[bC,bz]at hq;rw[mg h3 h1.1]at hq;cases hq
   ·simp only[bC,bz]at hq;have hb:=hl _ (aV hj);obtain⟨u,f1,s1⟩:=td h1.1 l[j]!;rw[mg h3 (.inr (show NN (aH.mk l[j]! l[j]! 0)from NN.one hb.1 hb.2)),f1]at hq;simp only[zO.injEq]at hq;subst hq;have lo1:=(h1.2 r.ag).mp ⟨zm _,vr.le,⟨0,by omega⟩⟩;refine⟨⟨_,_,l[j]!,rfl,⟨s1.1,λx=> ?_⟩,?_,ek h3 (qH hb)⟩,?_⟩
    ·constructor
     ·intro k;obtain⟨k1,k2⟩:=(s1.2 x).mp k;exact⟨((h1.2 x).mp k1).1,k2⟩
     ·rintro⟨k1,k2⟩;exact(s1.2 x).mpr ⟨(h1.2 x).mpr ⟨k1,by omega⟩,k2⟩
    ·refine(h2.join (HP l[j]!) h3 (qH hb)).congr λy=> ?_;have mid:∀x,bk a x->T<x->x<=l[j]!->E7 l x=l[j]! :=λx k1 k2 k3=>by
      have k4:=(h1.2 x).mpr ⟨k1,k2⟩;have:=k4.1;exact TW hj (λk hk=>by have:=h6 k hk;omega) k3
     constructor
     ·rintro(⟨x,k1,k2,k3⟩|rfl)
      ·exact⟨x,k1,by omega,k3⟩
      ·exact⟨r.ag,lo1.1,h5,(mid _ lo1.1 lo1.2 h5).symm⟩
     ·rintro⟨x,k1,k2,rfl⟩;by_cases c:x<=T
      ·exact .inl ⟨x,k1,c,rfl⟩
      ·exact .inr (mid x k1 (by omega) k2)
    ·show (if lT u=G then 0 else(1099511627777-u.ag).toNat)<(if lT r=G then 0 else(1099511627777-r.ag).toNat);rw[bF (show ¬lT r=G by rw[iG vr];decide)];have:=vr.le;have:=vr.hi;rcases s1.1 with rfl|vu
     ·rw[bt nB];omega
     ·rw[bF (show ¬lT u=G by rw[iG vu];decide)];have:=(s1.2 u.ag).mp ⟨zm _,vu.le,⟨0,by omega⟩⟩;have:=this.2;omega) ⟨cy,a,a.ag-1,rfl,⟨h,λx=>⟨λk=>⟨k,by have:=k.1;omega⟩,λk=>k.1⟩⟩, .none λy ⟨x,k1,k2,_⟩=>by have:=k1.1;omega, .inl rfl⟩
 rw[show Xe=bJ sW from rfl,show oc.mk l (aH.mk 0 0 0) sk a=oc.mk l (aH.mk 0 0 0) cy a from rfl,e1];simp only;rcases hr1.1 with rfl|vr
 ·rw[nB];refine⟨o,rfl,ho.congr λy=>⟨λ⟨x,k1,_,k3⟩=>⟨x,k1,k3⟩,λ⟨x,k1,k3⟩=>⟨x,k1,?_,k3⟩⟩⟩;rcases Int.lt_or_le T x with q|q
  ·exact cR ((hr1.2 x).mpr ⟨k1,q⟩) ue
  ·exact q
 ·rw[iG vr];simp only[bC,bz];obtain⟨best,found,e2,h4⟩:=PV hr hn (aH.mk 0 0 0) o r;rw[e2];simp only;rw[fO,bz];rcases h4 with ⟨rfl,h4⟩|⟨rfl,j,hj,rfl,h5,h6⟩
  ·simp only[bC,bz];rw[mg vo hr1.1];refine⟨_,rfl,(ho.join hr1.rep vo hr1.1).congr λy=> ?_⟩;have big:∀x,bk a x->T<x->E7 l x=x:=λx k1 k2=>Hw λ⟨b,hb,k3⟩=>by
    obtain⟨j,hj,rfl⟩:=get_of_mem hb;have:=((hr1.2 x).mpr ⟨k1,k2⟩).1;have:=h4 j hj;omega
   constructor
   ·rintro(⟨x,k1,_,k3⟩|⟨k1,k2⟩)
    ·exact⟨x,k1,k3⟩
    ·exact⟨y,k1,(big y k1 k2).symm⟩
   ·rintro⟨x,k1,k3⟩;by_cases c:x<=T
    ·exact .inl ⟨x,k1,c,k3⟩
    ·right;rw[big x k1 (by omega)]at k3;subst k3;exact⟨k1,by omega⟩
  ·exfalso;have hb:=hl _ (aV hj);obtain⟨u,f1,s1⟩:=td hr1.1 l[j]!;refine hs _ (show sW _=Q (Q (oc.mk l (aH.mk 0 0 0) (cc o (aH.mk l[j]! l[j]! 0)) u))from ?_);unfold sW;simp only;rw[iG vr];simp only[bC,bz];rw[e2];simp only;rw[fO,bz];simp only[bC,bz];rw[mg vo (.inr (show NN (aH.mk l[j]! l[j]! 0)from NN.one hb.1 hb.2)),f1]
def MM{a:aH}(h:NV a){l:aa Int}(hr:fC l=G)(hn:l.length<=1000000)(hl:∀b∈l,bX b):∃c,KX a l=Q (c,0)/\Pv a l=Q (c,0)/\mG (uq a l) c/\NV c:=by
 obtain⟨c,e1,r1⟩:=YA h hr hn hl;obtain⟨d,e2,r2⟩:=Y4 h hr hn hl;rw[<-r1.uniq r2]at e2;exact⟨c,e1,e2,r1,r1.valid λy hy=>TS h hl hy⟩
def cS.ne{P:Int->Prop}{c:aH}(h:cS P c):c≠cy:=λe=>by
 have h1:=h.all _ h.lo;rw[e]at h1;have h2:(1:Int)<=0:=y7 h1.1 h1.2.1;omega
def NV.nn{c:aH}(h:NV c)(k:c≠cy):NN c:=h.elim (λe=>cR e k) id
def mG.nn{P:Int->Prop}{c:aH}(h:mG P c)(v:NV c){x:Int}(hx:P x):NN c:=by
 rcases h with ⟨_,h⟩|h
 ·exact cR hx (h x)
 ·exact v.nn h.ne
def OL:NN (aH.mk 0 0 0):=NN.one (x:=0) (by omega) (by omega)
def Gp{a b:Bool}(h:(a||b)=true):NN (gm a b):=(uA a b).nn (by cases a<;>cases b<;>first|(cases h;done)|(intro e;cases e))
def FW(op:Int){a:aH}(h:NN a):NN (kz op a).1:=by
 unfold kz;split
 ·exact OL
 rw[bF h.ne];split
 ·exact Gp (zero_or h)
 ·exact ab7 h
def afu{op:Int}{a b:aH}(ha:NN a)(hb:NN b):∃r,nr op a b=Q r/\NN r.1:=by
 by_cases ho:binop op
 ·have r1:=ha.oV;have r2:=ha.vK;have r3:=hb.oV;have r4:=hb.vK;by_cases hs:cnt a*cnt b<=4096
  ·rw[jJ ho ha hb hs];rcases ri ho ha hb (by omega)with ⟨h1,c,e,h2⟩|⟨_,e⟩
   ·exact⟨_,e,h2.valid h1⟩
   ·exact⟨_,e,OL⟩
  have hbin:=ho;obtain⟨o1,o2⟩:=ho;rcases (show op=8\/op=9\/op=10\/op=11\/op=12\/op=21\/op=22\/(13<=op/\op<=20)by omega)with rfl|rfl|rfl|rfl|rfl|rfl|rfl|h
  ·rcases fl (op:=8) (.inl rfl) ha hb (λzh h=>lU ha hb h) (λh=>(jQ ha hb).mpr ⟨dw h (.inl rfl) (.inl rfl),dw h (.inr (.inr rfl)) (.inr (.inr rfl))⟩)with ⟨_,e,hv⟩|⟨_,e⟩
   ·exact⟨_,e,hv⟩
   ·exact⟨_,e,OL⟩
  ·rcases fl (op:=9) (.inr (.inl rfl)) ha hb (λzh h=>ug ha hb h) (λh=>(m8 ha hb).mpr ⟨dw h (.inl rfl) (.inr (.inr rfl)),dw h (.inr (.inr rfl)) (.inl rfl)⟩)with ⟨_,e,hv⟩|⟨_,e⟩
   ·exact⟨_,e,hv⟩
   ·exact⟨_,e,OL⟩
  ·rcases fl (op:=10) (.inr (.inr rfl)) ha hb (λzh h=>vF ha hb h) (λh=>(jc ha hb).mpr ⟨dw h (.inl rfl) (.inl rfl),dw h (.inl rfl) (.inr (.inr rfl)),dw h (.inr (.inr rfl)) (.inl rfl),dw h (.inr (.inr rfl)) (.inr (.inr rfl))⟩)with ⟨_,e,hv⟩|⟨_,e⟩
   ·exact⟨_,e,hv⟩
   ·exact⟨_,e,OL⟩
  all_goals rw[pz hbin ha hb hs];unfold Pc
  ·obtain⟨a1,a2⟩:=r1;obtain⟨a3,a4⟩:=r2;simp only[Int.reduceEq,fW,cX,bz,bC];have hm:((max a.ag.natAbs a.af.natAbs:Nat):Int)<=1099511627776:=by omega
   generalize max a.ag.natAbs a.af.natAbs=m at*;rw[jD ⟨by omega,by omega⟩ ⟨by omega,by omega⟩ (by omega),jD ⟨by omega,by omega⟩ ⟨by omega,by omega⟩ (by omega)];cases (O (0<=a.ag)&&O (0<=b.ag))with
   |true=>exact⟨(gi 0 (m:Int) 1,0),rfl,jk (lo:=0) (hi:=(m:Int)) (st:=1) (by omega) (by omega) (by omega) (by omega)⟩
   |false=>exact⟨(gi (-(m:Int)) (m:Int) 1,0),rfl,jk (lo:= -(m:Int)) (hi:=(m:Int)) (st:=1) (by omega) (by omega) (by omega) (by omega)⟩
  ·obtain⟨b1,b2⟩:=r3;obtain⟨b3,b4⟩:=r4;simp only[Int.reduceEq,fW,cX,bz,bC];have hp:(if b.ag<0 then b.ag+1 else 0)<=0/\ -1099511627776<=(if b.ag<0 then b.ag+1 else 0):=by split<;>omega
   have hq:0<=(if 0<b.af then b.af-1 else 0)/\(if 0<b.af then b.af-1 else 0)<=1099511627776:=by split<;>omega
   generalize (if b.ag<0 then b.ag+1 else 0)=p at*;generalize (if 0<b.af then b.af-1 else 0)=q at*;rw[jD ⟨by omega,by omega⟩ ⟨by omega,by omega⟩ (by omega)];exact⟨(gi p q 1,0),rfl,jk (lo:=p) (hi:=q) (st:=1) (by omega) (by omega) (by omega) (by omega)⟩
  ·simp only[Int.reduceEq,fW,cX,bz,bC];obtain⟨l',e2,h2⟩:=CV (ek (.inr ha) (.inr hb)) (min a.af b.af);rw[e2];refine⟨_,rfl,h2.rep.nn h2.1 (x:=(cc a b).ag) ⟨?_,?_⟩⟩
   ·rw[cI ha hb];have:=(jx ha hb).le;exact⟨by omega,this,by rw[Int.sub_self];exact y5 _⟩
   ·rw[cI ha hb];show min a.ag b.ag<=_;have:=ha.le;have:=hb.le;omega
  ·simp only[Int.reduceEq,fW,cX,bz,bC];obtain⟨l',e2,h2⟩:=td (ek (.inr ha) (.inr hb)) (max a.ag b.ag-1);rw[e2];refine⟨_,rfl,h2.rep.nn h2.1 (x:=(cc a b).af) ⟨?_,?_⟩⟩
   ·rw[cI ha hb];have:=(jx ha hb).le;exact⟨this,by omega,(jx ha hb).dvd⟩
   ·rw[cI ha hb];show _<max a.af b.af;have:=ha.le;have:=hb.le;omega
  ·rw[IZ h ha hb];refine⟨(gm (oS op a b).1 (oS op a b).2,0),?_,Gp (Nh h ha hb)⟩;rcases iA h with rfl|rfl|rfl|rfl|rfl|rfl|rfl|rfl<;>rfl
 ·refine⟨(aH.mk 0 0 0,1),?_,OL⟩;unfold nr;rw[fU,fU,ew (.inr ha),ew (.inr hb),show Ke op=AN op from rfl,ju,bP ho];rfl
def iq(op:Int)(a b:aH):aH:=match nr op a b with
 |none=>cy
 |some r=>r.1
def vp(op:Int){a b:aH}(ha:NN a)(hb:NN b):∃c,uD op a b=Q (iq op a b,c)/\nr op a b=Q (iq op a b,c)/\NN (iq op a b):=by
 obtain⟨r,e1,e2,_⟩:=LA op (.inr ha) (.inr hb);obtain⟨r',e3,h⟩:=afu (op:=op) ha hb;have:r'=r:=by rw[e2]at e3;cases e3;rfl
 subst this;unfold iq;rw[e2];exact⟨r'.2,e1,rfl,h⟩
def fT(a:aH)(lo hi:Int):aH:=match m86 a lo hi with
 |none=>cy
 |some r=>r.1
def iu{a:aH}(ha:NN a)(lo hi:Int):∃c,m81 a lo hi=Q (fT a lo hi,c)/\m86 a lo hi=Q (fT a lo hi,c)/\NN (fT a lo hi)/\(bX lo->bX hi->lo<=hi->mG (tu a lo hi) (fT a lo hi)):=by
 rcases Dy (.inr ha) lo hi with ⟨c,e1,e2,h,v,_⟩|⟨e1,e2,hn⟩
 ·unfold fT;rw[e2];have:=ha.le;exact⟨0,e1,rfl,h.nn v (x:=max lo (min a.ag hi)) ⟨a.ag,⟨by omega,this,by rw[Int.sub_self];exact y5 _⟩,rfl⟩,λ_ _ _=>h⟩
 ·unfold fT;rw[e2];exact⟨3,e1,rfl,OL,λh1 h2 h3=>cR ⟨h1,h2,h3⟩ hn⟩
def nE(a:aH)(l:aa Int):aH:=match Pv a l with
 |none=>cy
 |some r=>r.1
def n9{a:aH}(ha:NN a){l:aa Int}(hr:fC l=G)(hn:l.length<=1000000)(hl:∀b∈l,bX b):KX a l=Q (nE a l,0)/\Pv a l=Q (nE a l,0)/\NN (nE a l)/\mG (uq a l) (nE a l):=by
 obtain⟨c,e1,e2,h,v⟩:=MM (.inr ha) hr hn hl;unfold nE;rw[e2];have:=ha.le;exact⟨e1,rfl,h.nn v (x:=E7 l a.ag) ⟨a.ag,⟨by omega,this,by rw[Int.sub_self];exact y5 _⟩,rfl⟩,h⟩
def jN{a b:aH}(h:NN a)(k:NN b):NN (cc a b):=by rw[cI h k];exact jx h k
structure Bk where
 t0:List aS
 t1:Int
 t5:List aS
 t6:Int
def Nr:Td 0 Bk:= .c [] [0,1,5,6] (.r 0 1 (ec 0 (ql 131) (ec 1 aU (ec 5 (qo 0) (ec 6 aU en)))) (sr 0 131 sn) (λz=>⟨z.1.1,z.1.2.1,z.2.1,z.1.t.2.1⟩) (λx=>((x.t0,x.t1,(),x.t6,()),(x.t5,()))))
def Ji(p:Bk):ah (ah Bk):=
 bif O (p.t6<p.t0.length)then if 0<=p.t6/\p.t6<p.t0.length then bif O (p.t0[p.t6.toNat]!.bq=p.t1)then if 0<=p.t6/\p.t6<p.t0.length then if(p.t5++[p.t0[p.t6.toNat]!]).length<=1073741824 then Q (Q (Bk.mk p.t0 p.t1 (p.t5++[p.t0[p.t6.toNat]!]) (i64.wrap (p.t6+1))))else V else V else Q (Q (Bk.mk p.t0 p.t1 p.t5 (i64.wrap (p.t6+1))))else V else Q (V)
def IN:=bJ (Ji)
abbrev ary:=aa aS
def d173:Td 0 ary:= .c [] [4] (.r 0 1 (ec 4 (qo 0) en) (sr 0 131 sn) (λz=>z.2.1) (λx=>(((),()),(x,()))))
def Zz(a0:aa aS)(a1:Int):ah ary:=
 match IN (Bk.mk a0 a1 [] (0))with|V=>V|Q r1=>bif O (r1.t6<r1.t0.length)then if 0<=r1.t6/\r1.t6<r1.t0.length then bif O (r1.t0[r1.t6.toNat]!.bq=r1.t1)then if 0<=r1.t6/\r1.t6<r1.t0.length then if(r1.t5++[r1.t0[r1.t6.toNat]!]).length<=1073741824 then V else V else V else V else V else Q (r1.t5)
def am6:=eL vi 173 I (lc (ql 131) (bg ln)) d173 (λg=>Zz g.1 g.2.1)
def Qo:EO am6:=λh=>kL (an:=(noTwo (noTwo (.two (noTwo (Nr.lp IN .no)) .no)))) (l:=[(bE f173 0,(Nr.lp IN .no))]) func173 aY (aB (aO Nr) aI) h
def F89:bw:=(am6 eB)
structure Lw where
 t6:List aS
 (t8 t9:Int)
def Zo:Td 0 Lw:= .c [] [6,8,9] (.r 0 1 (ec 6 (qo 0) (ec 8 aU (ec 9 aU en))) (sr 0 131 sn) (λz=>⟨z.2.1,z.1.2.1,z.1.t.1⟩) (λx=>(((),x.t8,x.t9,()),(x.t6,()))))
def Bt(p:Lw):ah (ah Lw):=
 bif O (p.t9<p.t6.length)then if 0<=p.t9/\p.t9<p.t6.length then if 131=131/\p.t9.toNat<p.t6.length then if 0<=p.t9/\p.t9<p.t6.length then if 131=131/\p.t9.toNat<p.t6.length then bif O (4096<i64.wrap (p.t8*i64.wrap (i64.wrap (p.t6[p.t9.toNat]!.af-p.t6[p.t9.toNat]!.ag)+1)))then Q (V)else Q (Q (Lw.mk p.t6 (i64.wrap (p.t8*i64.wrap (i64.wrap (p.t6[p.t9.toNat]!.af-p.t6[p.t9.toNat]!.ag)+1))) (i64.wrap (p.t9+1))))else V else V else V else V else Q (V)
def Kg:=bJ (Bt)
structure K2 where
 t6:List aS
 t7:Int
def VO:Td 0 K2:= .c [] [6,7] (.r 0 1 (ec 6 (qo 0) (ec 7 aU en)) (sr 0 131 sn) (λz=>⟨z.2.1,z.1.2.1⟩) (λx=>(((),x.t7,()),(x.t6,()))))
def C6(p:K2):ah (ah K2):=
 bif O (p.t7<p.t6.length)then if 0<=p.t7/\p.t7<p.t6.length then if 131=131/\p.t7.toNat<p.t6.length then if 0<=p.t7/\p.t7<p.t6.length then if 131=131/\p.t7.toNat<p.t6.length then bif O (p.t6[p.t7.toNat]!.af<p.t6[p.t7.toNat]!.ag)then Q (V)else if 0<=p.t7/\p.t7<p.t6.length then if 131=131/\p.t7.toNat<p.t6.length then bif O (p.t6[p.t7.toNat]!.ag< -1048576)then Q (V)else if 0<=p.t7/\p.t7<p.t6.length then if 131=131/\p.t7.toNat<p.t6.length then bif O (1048576<p.t6[p.t7.toNat]!.af)then Q (V)else Q (Q (K2.mk p.t6 (i64.wrap (p.t7+1))))else V else V else V else V else V else V else V else V else Q (V)
def Mo:=bJ (C6)
abbrev E89:=Int×Int
def d89:Td 0 E89:= .c [] [4,5] (.r 0 0 (ec 4 aU (ec 5 aU en)) sn (λz=>(z.1.1,z.1.2.1)) (λx=>((x.1,x.2,()),(()))))
def awp:∀f∈([]:aa Nat),bA (F89) f:=aI
def m89(a0:aa aS)(a1:Int):ah E89:=
 match bif bif O (a1=0)then I else G then bif bif O (a1=1)then I else G then bif bif O (a1=2)then I else G then Q (bif O (a1=3)then I else G)else Q I else Q I else Q I with|V=>V|Q r1=>bif r1 then Q (0,1)else match Zz a0 a1 with|V=>V|Q r2=>match Mo (K2.mk r2 0)with|V=>V|Q r3=>bif O (r3.t7<r3.t6.length)then if 0<=r3.t7/\r3.t7<r3.t6.length then if 131=131/\r3.t7.toNat<r3.t6.length then if 0<=r3.t7/\r3.t7<r3.t6.length then if 131=131/\r3.t7.toNat<r3.t6.length then bif O (r3.t6[r3.t7.toNat]!.af<r3.t6[r3.t7.toNat]!.ag)then Q (0,3)else if 0<=r3.t7/\r3.t7<r3.t6.length then if 131=131/\r3.t7.toNat<r3.t6.length then bif O (r3.t6[r3.t7.toNat]!.ag< -1048576)then Q (0,3)else if 0<=r3.t7/\r3.t7<r3.t6.length then if 131=131/\r3.t7.toNat<r3.t6.length then bif O (1048576<r3.t6[r3.t7.toNat]!.af)then Q (0,3)else V else V else V else V else V else V else V else V else V else match Kg (Lw.mk r3.t6 1 0)with|V=>V|Q r4=>bif O (r4.t9<r4.t6.length)then if 0<=r4.t9/\r4.t9<r4.t6.length then if 131=131/\r4.t9.toNat<r4.t6.length then if 0<=r4.t9/\r4.t9<r4.t6.length then if 131=131/\r4.t9.toNat<r4.t6.length then bif O (4096<i64.wrap (r4.t8*i64.wrap (i64.wrap (r4.t6[r4.t9.toNat]!.af-r4.t6[r4.t9.toNat]!.ag)+1)))then Q (0,4)else V else V else V else V else V else Q (r4.t8,0)
def e89:=eL vi 89 I (lc (ql 131) (bg ln)) d89 (λg=>m89 g.1 g.2.1)
def WR:EO e89:=λh=>kL (F:=F89) (an:=(noTwo (.two (.two (.rb [] 23) .no) (noTwo (.two (noTwo (VO.lp Mo .no)) (noTwo (.two (noTwo (Zo.lp Kg .no)) .no))))))) (l:=[(.skip,(.rb [] 23)),(bE f89 0,(VO.lp Mo .no)),(bE f89 1,(Zo.lp Kg .no))]) func89 (Qo aY) (aB awp (aB (aO VO) (aB (aO Zo) aI))) h
def KO:EP e89:=λh=>kP h
def F24:bw:=(e90 (e89 (e78 (e53 eB))))
abbrev E24:=Bool
def d24:Td 0 E24:= .c [] [8] (.r 0 0 (ec 8 qb en) sn (λz=>z.1.1) (λx=>((x,()),(()))))
def aqX:∀f∈([53,78]:aa Nat),bA (F24) f:=(aB (KW (KO (lN (pn bK)))) (aB (KW (KO (lN (pn bK)))) aI))
def m24(a0:aQ)(a1:Int)(a2:Int)(a3:Int):ah E24:=
 match match m53 a0 (10) (80)with|V=>V|Q r1=>bif bif r1 then I else G then Q (G)else match m78 a0 with|V=>V|Q r2=>Q (bif O (r2=0)then I else G)with|V=>V|Q r3=>bif r3 then Q (I)else match m89 a0.ai (1)with|V=>V|Q r4=>match m89 a0.ai (2)with|V=>V|Q r5=>match m89 a0.ai (3)with|V=>V|Q r6=>match r90 a0.bI with|V=>V|Q r7=>match bif O (r4.fst<=a1)then bif O (r5.fst<=a2)then bif O (r6.fst<=a3)then Q (O (r7.fst<=400))else Q (I)else Q (I)else Q (I)with|V=>V|Q r8=>Q (r8)
def e24:=eL vi 24 I (lc (qg 26) (bg (bg (bg ln)))) d24 (λg=>m24 g.1 g.2.1 g.t.1 g.t.2.1)
def YI:EO e24:=λh=>kL (F:=F24) (an:=(noTwo (.two (.two (.rb [53,78] 25) .no) (noTwo (noTwo (noTwo (noTwo (.two (.rb [53,78] 8) .no)))))))) (l:=[(.skip,(.rb [53,78] 25)),(.skip,(.rb [53,78] 8))]) func24 (Vk (WR (IK (Zf aY)))) (aB aqX (aB aqX aI)) h
def j7:EP e24:=λh=>kP h
abbrev aoG:=Int×Bool
def d178:Td 0 aoG:= .c [] [4,5] (.r 0 0 (ec 4 aU (ec 5 qb en)) sn (λz=>(z.1.1,z.1.2.1)) (λx=>((x.1,x.2,()),(()))))
def HM(a0:aa Int)(a1:Int):ah aoG:=
 bif O (a0.length<=a1)then Q (0,I)else if 0<=a1/\a1<a0.length then Q (a0[a1.toNat]!,G)else V
def aqW:=eL vi 178 I (lc (ql 3) (bg ln)) d178 (λg=>HM g.1 g.2.1)
def agR:EO aqW:=λh=>kL (an:= .no) func178 aY aI h
def F95:bw:=(aqW eB)
def akc:bG vi F95:=(agR aY)
structure oC where
 t0:List aS
 (t6 t7 t8:Int)
 t9:List Int
 t10:Bool
 t11:Int
 b0:cY
def XQ:Td 0 oC:= .c [] [0,3,6,7,8,9,10,11] (.r 0 2 (ec 0 (ql 131) (ec 3 (qp 0 0) (ec 6 aU (ec 7 aU (ec 8 aU (ec 9 (qo 1) (ec 10 qb (ec 11 aU en)))))))) (sb 0 52 (lg 52) (sr 1 3 sn)) (λz=>⟨z.1.1,z.1.t.1,z.1.t.2.1,z.1.q.1,z.t.1,z.1.q.t.1,z.1.q.t.2.1,z.2.1⟩) (λx=>((x.t0,(),x.t6,x.t7,x.t8,(),x.t10,x.t11,()),(x.b0,x.t9,()))))
def P7(p:oC):ah (ah oC):=
 bif O (p.t11<p.t0.length)then if 0<=p.t11/\p.t11<p.t0.length then bif O (p.t0[p.t11.toNat]!.bq=1)then match HM p.b0.fe p.t6 with|V=>V|Q r1=>bif bif r1.snd then I else G then Q (V)else match bif O (r1.fst<p.t0[p.t11.toNat]!.ag)then Q G else Q (O (p.t0[p.t11.toNat]!.af<r1.fst))with|V=>V|Q r2=>bif r2 then if(p.t9++[r1.fst]).length<=1073741824 then Q (Q (oC.mk p.t0 (i64.wrap (p.t6+1)) p.t7 p.t8 (p.t9++[r1.fst]) I (i64.wrap (p.t11+1)) p.b0))else V else if(p.t9++[r1.fst]).length<=1073741824 then Q (Q (oC.mk p.t0 (i64.wrap (p.t6+1)) p.t7 p.t8 (p.t9++[r1.fst]) p.t10 (i64.wrap (p.t11+1)) p.b0))else V else bif O (p.t0[p.t11.toNat]!.bq=2)then match HM p.b0.aR p.t7 with|V=>V|Q r3=>bif bif r3.snd then I else G then Q (V)else match bif O (r3.fst<p.t0[p.t11.toNat]!.ag)then Q G else Q (O (p.t0[p.t11.toNat]!.af<r3.fst))with|V=>V|Q r4=>bif r4 then if(p.t9++[r3.fst]).length<=1073741824 then Q (Q (oC.mk p.t0 p.t6 (i64.wrap (p.t7+1)) p.t8 (p.t9++[r3.fst]) I (i64.wrap (p.t11+1)) p.b0))else V else if(p.t9++[r3.fst]).length<=1073741824 then Q (Q (oC.mk p.t0 p.t6 (i64.wrap (p.t7+1)) p.t8 (p.t9++[r3.fst]) p.t10 (i64.wrap (p.t11+1)) p.b0))else V else bif O (p.t0[p.t11.toNat]!.bq=3)then match HM p.b0.fu p.t8 with|V=>V|Q r5=>bif bif r5.snd then I else G then Q (V)else match bif O (r5.fst<p.t0[p.t11.toNat]!.ag)then Q G else Q (O (p.t0[p.t11.toNat]!.af<r5.fst))with|V=>V|Q r6=>bif r6 then if(p.t9++[r5.fst]).length<=1073741824 then Q (Q (oC.mk p.t0 p.t6 p.t7 (i64.wrap (p.t8+1)) (p.t9++[r5.fst]) I (i64.wrap (p.t11+1)) p.b0))else V else if(p.t9++[r5.fst]).length<=1073741824 then Q (Q (oC.mk p.t0 p.t6 p.t7 (i64.wrap (p.t8+1)) (p.t9++[r5.fst]) p.t10 (i64.wrap (p.t11+1)) p.b0))else V else match bif O (p.t0[p.t11.toNat]!.dB<p.t0[p.t11.toNat]!.ag)then Q G else Q (O (p.t0[p.t11.toNat]!.af<p.t0[p.t11.toNat]!.dB))with|V=>V|Q r7=>bif r7 then if(p.t9++[p.t0[p.t11.toNat]!.dB]).length<=1073741824 then Q (Q (oC.mk p.t0 p.t6 p.t7 p.t8 (p.t9++[p.t0[p.t11.toNat]!.dB]) I (i64.wrap (p.t11+1)) p.b0))else V else if(p.t9++[p.t0[p.t11.toNat]!.dB]).length<=1073741824 then Q (Q (oC.mk p.t0 p.t6 p.t7 p.t8 (p.t9++[p.t0[p.t11.toNat]!.dB]) p.t10 (i64.wrap (p.t11+1)) p.b0))else V else V else Q (V)
def aix:An:=(noTwo (.two (noTwo (noTwo (noTwo (noTwo (.two (.two (.rb [] 74) .no) .no))))) .no))
def Qs:=bJ (P7)
abbrev E95:=(aa Int)×Int
def d95:Td 0 E95:= .c [] [4,5] (.t (cU.s 4 [] 3) (.t (cU.fs 4 []) (.c [] [4,5] (.r 0 0 (ec 4 (ql 3) (ec 5 aU en)) sn (λz=>(z.1.1,z.1.2.1)) (λx=>((x.1,x.2,()),(())))))))
def A95:=(lc (ql 131) (lc (qg 52) ln))
def asn:An:=(noTwo (noTwo (noTwo (noTwo (.two (noTwo (XQ.lp Qs aix)) (.two (.two (.rb [] 97) .no) .no))))))
def aoz:∀f∈([]:aa Nat),bA (F95) f:=aI
def awb:gv vi (F95) 0 300 95 (asn):=cD (l:=[(bE f95 0,(XQ.lp Qs aix)),(.skip,(.rb [] 74)),(.skip,(.rb [] 97))]) func95 (bR (by kernel_rfl)) (by kernel_rfl) (aB (aO XQ) (aB aoz (aB aoz aI)))
def m95(a0:aa aS)(a1:cY):ah E95:=
 match Qs (oC.mk a0 0 0 0 [] G 0 a1)with|V=>V|Q r8=>bif O (r8.t11<r8.t0.length)then if 0<=r8.t11/\r8.t11<r8.t0.length then bif O (r8.t0[r8.t11.toNat]!.bq=1)then match HM r8.b0.fe r8.t6 with|V=>V|Q r9=>bif bif r9.snd then I else G then Q ([],1)else match bif O (r9.fst<r8.t0[r8.t11.toNat]!.ag)then Q G else Q (O (r8.t0[r8.t11.toNat]!.af<r9.fst))with|V=>V|Q r10=>bif r10 then if(r8.t9++[r9.fst]).length<=1073741824 then V else V else if(r8.t9++[r9.fst]).length<=1073741824 then V else V else bif O (r8.t0[r8.t11.toNat]!.bq=2)then match HM r8.b0.aR r8.t7 with|V=>V|Q r11=>bif bif r11.snd then I else G then Q ([],1)else match bif O (r11.fst<r8.t0[r8.t11.toNat]!.ag)then Q G else Q (O (r8.t0[r8.t11.toNat]!.af<r11.fst))with|V=>V|Q r12=>bif r12 then if(r8.t9++[r11.fst]).length<=1073741824 then V else V else if(r8.t9++[r11.fst]).length<=1073741824 then V else V else bif O (r8.t0[r8.t11.toNat]!.bq=3)then match HM r8.b0.fu r8.t8 with|V=>V|Q r13=>bif bif r13.snd then I else G then Q ([],1)else match bif O (r13.fst<r8.t0[r8.t11.toNat]!.ag)then Q G else Q (O (r8.t0[r8.t11.toNat]!.af<r13.fst))with|V=>V|Q r14=>bif r14 then if(r8.t9++[r13.fst]).length<=1073741824 then V else V else if(r8.t9++[r13.fst]).length<=1073741824 then V else V else match bif O (r8.t0[r8.t11.toNat]!.dB<r8.t0[r8.t11.toNat]!.ag)then Q G else Q (O (r8.t0[r8.t11.toNat]!.af<r8.t0[r8.t11.toNat]!.dB))with|V=>V|Q r15=>bif r15 then if(r8.t9++[r8.t0[r8.t11.toNat]!.dB]).length<=1073741824 then V else V else if(r8.t9++[r8.t0[r8.t11.toNat]!.dB]).length<=1073741824 then V else V else V else match bif bif O (r8.t6=r8.b0.fe.length)then I else G then Q G else bif bif O (r8.t7=r8.b0.aR.length)then I else G then Q G else Q (bif O (r8.t8=r8.b0.fu.length)then I else G)with|V=>V|Q r16=>bif r16 then Q ([],1)else bif bif r8.t10 then I else G then Q ([],3)else Q (r8.t9,0)
def c95(a0:aa aS)(a1:cY):ct vi (F95) 300 (asn) 95 (A95.c (a0,a1,())) [] 0 d95.rd=m95 a0 a1:=by kernel_rfl
def e95:bw->bw:=eZ vi 95 A95 d95 (λg=>m95 g.1 g.2.1)
def amO{F:bw}(h:bG vi F):bG vi (e95 F):=oE (fm akc awb (λ_=>by kernel_rfl) (λ_=>by kernel_rfl) λg=>c95 g.1 g.2.1) ⟨_,func95,by kernel_rfl,by kernel_rfl⟩ (λ_=>by kernel_rfl) h
def av8:bw:=eB
abbrev ajv:=Int
def d183:Td 0 ajv:= .c [] [6] (.r 0 0 (ec 6 aU en) sn (λz=>z.1.1) (λx=>((x,()),(()))))
def asH:=(bg (bg (bg ln)))
def aii:An:= .no
def uQ(a0:Int)(a1:Int)(a2:Int):ajv:=
 bif O (a0<a1)then a1 else bif O (a2<a0)then a2 else a0
def avY(a0:Int)(a1:Int)(a2:Int):ct vi (av8) 300 (aii) 183 (asH.c (a0,a1,a2,())) [] 0 d183.rd=Q (uQ a0 a1 a2):=by
 refine Eq.trans (b:=(
  bif O (a0<a1)then Q (a1)else bif O (a2<a0)then Q (a2)else Q (a0):ah ajv)) (by kernel_rfl) ?_
 simp only[uQ,cO,de]
def amW:=eL vi 183 I asH d183 (λg=>Q (uQ g.1 g.2.1 g.t.1))
def HO:EO amW:=λh=>kL (an:=aii) func183 aY aI h (c:=λg=>avY g.1 g.2.1 g.t.1)
def axo:bw:=eB
abbrev aki:=Int
def d248:Td 0 aki:= .c [] [2] (.r 0 0 (ec 2 aU en) sn (λz=>z.1.1) (λx=>((x,()),(()))))
def apf:=(lc qb ln)
def aiA:An:= .no
def sK(a0:Bool):aki:=
 bif a0 then 1 else 0
def axl(a0:Bool):ct vi (axo) 300 (aiA) 248 (apf.c (a0,())) [] 0 d248.rd=Q (sK a0):=by
 refine Eq.trans (b:=(
  bif a0 then Q (1)else Q (0):ah aki)) (by kernel_rfl) ?_
 simp only[sK,cO,de]
def apT:=eL vi 248 I apf d248 (λg=>Q (sK g.1))
def QK:EO apT:=λh=>kL (an:=aiA) func248 aY aI h (c:=λg=>axl g.1)
def apG:bw:=eB
abbrev aos:=Int
def d193:Td 0 aos:= .c [] [4] (.r 0 0 (ec 4 aU en) sn (λz=>z.1.1) (λx=>((x,()),(()))))
def apL:∀f∈([]:aa Nat),bA (apG) f:=aI
def Xq(a0:Int)(a1:Int):ah aos:=
 bif O (a1=0)then Q 0 else if¬a1=0then match if¬a1=0then bif bif O (a0.tmod a1=0)then I else G then Q (bif O (a0<0)==O (a1<0)then I else G)else Q I else V with|V=>V|Q r1=>bif r1 then Q (i64.wrap (i64.wrap (a0.tdiv a1)-1))else Q (i64.wrap (a0.tdiv a1))else V
def avH:=eL vi 193 I (bg (bg ln)) d193 (λg=>Xq g.1 g.2.1)
def Qk:EO avH:=λh=>kL (F:=apG) (an:=(noTwo (noTwo (noTwo (.two (.two (.rb [] 21) .no) .no))))) (l:=[(.skip,(.rb [] 21))]) func193 aY (aB apL aI) h
abbrev atf:=Int
def d287:Td 0 atf:= .c [] [4] (.r 0 0 (ec 4 aU en) sn (λz=>z.1.1) (λx=>((x,()),(()))))
def adT(a0:Int)(a1:Int):ah atf:=
 bif O (a1=0)then Q (0)else match Xq a0 a1 with|V=>V|Q r1=>Q (i64.wrap (a0-i64.wrap (a1*r1)))
def auF:=eL vi 287 I (bg (bg ln)) d287 (λg=>adT g.1 g.2.1)
def aai:EO auF:=λh=>kL (an:= .no) func287 (Qk aY) aI h
abbrev apK:=Int
def d249:Td 0 apK:= .c [] [6] (.r 0 0 (ec 6 aU en) sn (λz=>z.1.1) (λx=>((x,()),(()))))
def aar(a0:Int)(a1:Int)(a2:Int):ah apK:=
 bif O (a0=8)then Q (i64.wrap (a1+a2))else bif O (a0=9)then Q (i64.wrap (a1-a2))else bif O (a0=10)then Q (i64.wrap (a1*a2))else bif O (a0=11)then match Xq a1 a2 with|V=>V|Q r1=>Q (r1)else bif O (a0=12)then match adT a1 a2 with|V=>V|Q r2=>Q (r2)else bif O (a0=13)then Q (sK (O (a1=a2)))else bif O (a0=14)then Q (sK (bif O (a1=a2)then I else G))else bif O (a0=15)then Q (sK (O (a1<a2)))else bif O (a0=16)then Q (sK (O (a1<=a2)))else bif O (a0=17)then Q (sK (O (a2<a1)))else bif O (a0=18)then Q (sK (O (a2<=a1)))else bif O (a0=19)then bif bif O (a1=0)then I else G then Q (sK (bif O (a2=0)then I else G))else Q (sK I)else bif O (a0=20)then bif bif O (a1=0)then I else G then Q (sK G)else Q (sK (bif O (a2=0)then I else G))else bif O (a0=21)then Q (jF a1 a2)else Q (kC a1 a2)
def asQ:=eL vi 249 I (bg (bg (bg ln))) d249 (λg=>aar g.1 g.2.1 g.t.1)
def ac2:EO asQ:=λh=>kL (an:= .no) func249 (aai (QK (Qk (CA (BW aY))))) aI h
abbrev uu:=Int
def d181:Td 0 uu:= .c [] [4] (.r 0 0 (ec 4 aU en) sn (λz=>z.1.1) (λx=>((x,()),(()))))
def aiT:=(lc (ql 3) (lc (qg 137) ln))
def akw(M:(aa Int)->ax->ah uu):bw->bw:=eL vi 181 I aiT d181 (λg=>M g.1 g.2.1)
def abi(M:(aa Int)->ax->ah uu):Prop:=HL vi 181 aiT d181 (λg=>M g.1 g.2.1)
def RP{M:(aa Int)->ax->ah uu}(hM:abi M){F:bw}(h:bG vi F):bG vi (akw M F):=iJ (sc:=Ec) fS hM ⟨_,func181,by kernel_rfl,by kernel_rfl⟩ (λ_=>by kernel_rfl) (λ_=>by kernel_rfl) h
def ajW(M181:(aa Int)->ax->ah uu):bw:=(asQ (apT (amW (akw M181 eB))))
def agq{M181}(h181:abi M181):bG vi (ajW M181):=(ac2 (QK (HO (RP h181 aY))))
def aib(M181:(aa Int)->ax->ah uu):An:= .no
def atF(M181:(aa Int)->ax->ah uu):gv vi (ajW M181) 0 300 181 (aib M181):=cD (l:=[]) func181 (bR (by kernel_rfl)) (by kernel_rfl) aI
def afP(M181:(aa Int)->ax->ah uu)(a0:aa Int)(a1:ax):ah uu:=
 bif O (a1.bf=0)then Q (a1.fN)else bif O (a1.bf=24)then if 0<=a1.fN/\a1.fN<a0.length then Q (a0[a1.fN.toNat]!)else V else bif O (a1.bf=6)then if(0:Int)<=(0:Int)/\(0:Int)<a1.aq.length then match M181 a0 (ax.mk a1.aq[0]!.bf a1.aq[0]!.fN a1.aq[0]!.aq)with|V=>V|Q r1=>Q (i64.wrap (0-r1))else V else bif O (a1.bf=7)then if(0:Int)<=(0:Int)/\(0:Int)<a1.aq.length then match M181 a0 (ax.mk a1.aq[0]!.bf a1.aq[0]!.fN a1.aq[0]!.aq)with|V=>V|Q r2=>Q (sK (O (r2=0)))else V else bif O (a1.bf=23)then if(0:Int)<=(0:Int)/\(0:Int)<a1.aq.length then match M181 a0 (ax.mk a1.aq[0]!.bf a1.aq[0]!.fN a1.aq[0]!.aq)with|V=>V|Q r3=>bif bif O (r3=0)then I else G then if(0:Int)<=(1:Int)/\(1:Int)<a1.aq.length then match M181 a0 (ax.mk a1.aq[1]!.bf a1.aq[1]!.fN a1.aq[1]!.aq)with|V=>V|Q r4=>Q (r4)else V else if(0:Int)<=(2:Int)/\(2:Int)<a1.aq.length then match M181 a0 (ax.mk a1.aq[2]!.bf a1.aq[2]!.fN a1.aq[2]!.aq)with|V=>V|Q r5=>Q (r5)else V else V else bif O (a1.bf=25)then if(0:Int)<=(0:Int)/\(0:Int)<a1.aq.length then match M181 a0 (ax.mk a1.aq[0]!.bf a1.aq[0]!.fN a1.aq[0]!.aq)with|V=>V|Q r6=>if 0<=i64.wrap ((1:Int)+uQ r6 ((0:Int)) (i64.wrap ((a1.aq.length:Int)-(2:Int))))/\i64.wrap ((1:Int)+uQ r6 ((0:Int)) (i64.wrap ((a1.aq.length:Int)-(2:Int))))<a1.aq.length then match M181 a0 (ax.mk a1.aq[(i64.wrap (1+uQ r6 0 (i64.wrap ((a1.aq.length:Int)-2)))).toNat]!.bf a1.aq[(i64.wrap (1+uQ r6 0 (i64.wrap ((a1.aq.length:Int)-2)))).toNat]!.fN a1.aq[(i64.wrap (1+uQ r6 0 (i64.wrap ((a1.aq.length:Int)-2)))).toNat]!.aq)with|V=>V|Q r7=>Q (r7)else V else V else if(0:Int)<=(0:Int)/\(0:Int)<a1.aq.length then match M181 a0 (ax.mk a1.aq[0]!.bf a1.aq[0]!.fN a1.aq[0]!.aq)with|V=>V|Q r8=>if(0:Int)<=(1:Int)/\(1:Int)<a1.aq.length then match M181 a0 (ax.mk a1.aq[1]!.bf a1.aq[1]!.fN a1.aq[1]!.aq)with|V=>V|Q r9=>match aar a1.bf r8 r9 with|V=>V|Q r10=>Q (r10)else V else V
def awf(M181:(aa Int)->ax->ah uu)(a0:aa Int)(a1:ax):ct vi (ajW M181) 300 (aib M181) 181 (aiT.c (a0,a1,())) [] 0 d181.rd=afP M181 a0 a1:=by kernel_rfl
def ah2:Nat->((aa Int)->ax->ah uu)
 |0=>(λ_ _=>V)
 |n+1=>(afP (ah2 n))
def MW(n:Nat):(aa Int)->ax->ah uu:=(ah2 n)
def J3:∀n,abi (MW n)
 |0=>λ_ _ h=>(by cases h)
 |n+1=>by
  have ih:=J3 n;have i181:=ih;exact(fm (agq i181) (atF (MW n)) (λ_=>by kernel_rfl) (λ_=>by kernel_rfl) λg=>awf (MW n) g.1 g.2.1)
def vV:(aa Int)->ax->ah uu:=λa0 a1=>lim (λn=>MW n a0 a1)
def ad0:abi vV:=λg b h=>by
 obtain⟨n,hn⟩:=dG (show lim (λn=>MW n g.1 g.2.1)=Q b from h);exact(J3 n) g b hn
def acJ(F:bw):bw:=akw vV F
def IG{F:bw}(h:bG vi F):bG vi (acJ F):=RP ad0 h
abbrev aqa:=aa Int
def d180:Td 0 aqa:= .c [] [8] (.r 0 1 (ec 8 (qo 0) en) (sr 0 3 sn) (λz=>z.2.1) (λx=>(((),()),(x,()))))
def OM(a0:aQ)(a1:aa Int)(a2:Int)(a3:Int):ah aqa:=
 if([]++a1).length<=1073741824 then if 0<=a2/\a2<a0.ai.length then if 0<=a2/\a2<a0.ai.length then if 0<=a2/\a2<(↑([]++a1).length:Int)then if 3=3/\a2.toNat<([]++a1).length then Q (([]++a1).set a2.toNat (uQ a3 a0.ai[a2.toNat]!.ag a0.ai[a2.toNat]!.af))else V else V else V else V else V
def aoN:=eL vi 180 I (lc (qg 26) (lc (ql 3) (bg (bg ln)))) d180 (λg=>OM g.1 g.2.1 g.t.1 g.t.2.1)
def af5:EO aoN:=λh=>kL (an:= .no) func180 (HO aY) aI h
def asv:bw:=eB
structure AM where
 t0:List Int
 (t1 t5:Int)
 t6:Bool
 t7:Int
def M1:Td 0 AM:= .c [] [0,1,5,6,7] (.r 0 0 (ec 0 (ql 3) (ec 1 aU (ec 5 aU (ec 6 qb (ec 7 aU en))))) sn (λz=>⟨z.1.1,z.1.2.1,z.1.t.1,z.1.t.2.1,z.1.q.1⟩) (λx=>((x.t0,x.t1,x.t5,x.t6,x.t7,()),(()))))
def AW(p:AM):ah (ah AM):=
 bif O (p.t7<p.t0.length)then match if 0<=p.t7/\p.t7<p.t0.length then bif O (((p.t0,p.t1,p.t5,p.t6,p.t7,()),()).fst.snd.fst<=((p.t0,p.t1,p.t5,p.t6,p.t7,()),()).fst.fst[((p.t0,p.t1,p.t5,p.t6,p.t7,()),()).fst.snd.snd.snd.snd.fst.toNat]!)then bif bif p.t6 then I else G then Q G else if 0<=p.t7/\p.t7<p.t0.length then Q (O (((p.t0,p.t1,p.t5,p.t6,p.t7,()),()).fst.fst[((p.t0,p.t1,p.t5,p.t6,p.t7,()),()).fst.snd.snd.snd.snd.fst.toNat]! <((p.t0,p.t1,p.t5,p.t6,p.t7,()),()).fst.snd.snd.fst))else V else Q I else V with|V=>V|Q r1=>bif r1 then if 0<=p.t7/\p.t7<p.t0.length then Q (Q (AM.mk p.t0 p.t1 p.t0[p.t7.toNat]! G (i64.wrap (p.t7+1))))else V else Q (Q (AM.mk p.t0 p.t1 p.t5 p.t6 (i64.wrap (p.t7+1))))else Q (V)
def Zn:An:=(noTwo (.two (.two (.rb [] 32) .no) .no))
def HD:=bJ (AW)
abbrev apq:=Int
def d182:Td 0 apq:= .c [] [4] (.r 0 0 (ec 4 aU en) sn (λz=>z.1.1) (λx=>((x,()),(()))))
def asf:∀f∈([]:aa Nat),bA (asv) f:=aI
def Xb(a0:aa Int)(a1:Int):ah apq:=
 match HD (AM.mk a0 a1 a1 I 0)with|V=>V|Q r2=>bif O (r2.t7<r2.t0.length)then match if 0<=r2.t7/\r2.t7<r2.t0.length then bif O (((r2.t0,r2.t1,r2.t5,r2.t6,r2.t7,()),()).fst.snd.fst<=((r2.t0,r2.t1,r2.t5,r2.t6,r2.t7,()),()).fst.fst[((r2.t0,r2.t1,r2.t5,r2.t6,r2.t7,()),()).fst.snd.snd.snd.snd.fst.toNat]!)then bif bif r2.t6 then I else G then Q G else if 0<=r2.t7/\r2.t7<r2.t0.length then Q (O (((r2.t0,r2.t1,r2.t5,r2.t6,r2.t7,()),()).fst.fst[((r2.t0,r2.t1,r2.t5,r2.t6,r2.t7,()),()).fst.snd.snd.snd.snd.fst.toNat]! <((r2.t0,r2.t1,r2.t5,r2.t6,r2.t7,()),()).fst.snd.snd.fst))else V else Q I else V with|V=>V|Q r3=>bif r3 then if 0<=r2.t7/\r2.t7<r2.t0.length then V else V else V else Q (r2.t5)
def asG:=eL vi 182 I (lc (ql 3) (bg ln)) d182 (λg=>Xb g.1 g.2.1)
def ab9:EO asG:=λh=>kL (F:=asv) (an:=(noTwo (noTwo (.two (noTwo (M1.lp HD Zn)) .no)))) (l:=[(bE f182 0,(M1.lp HD Zn)),(.skip,(.rb [] 32))]) func182 aY (aB (aO M1) (aB asf aI)) h
abbrev B5:=bD
def d96:Td 0 B5:= .c [] [8] (.r 0 1 (ec 8 (qp 0 0) en) (sb 0 56 (lg 56) sn) (λz=>z.2.1) (λx=>(((),()),(x,()))))
def A96:=(lc (qg 26) (lc (ql 3) (lc (ql 166) (lc (qg 56) ln))))
def x96(M:aQ->(aa Int)->(aa ay)->bD->ah B5):bw->bw:=eZ vi 96 A96 d96 (λg=>M g.1 g.2.1 g.2.2.1 g.2.2.2.1)
def H96(M:aQ->(aa Int)->(aa ay)->bD->ah B5):Prop:=HL vi 96 A96 d96 (λg=>M g.1 g.2.1 g.2.2.1 g.2.2.2.1)
def N1{M:aQ->(aa Int)->(aa ay)->bD->ah B5}(hM:H96 M){F:bw}(h:bG vi F):bG vi (x96 M F):=oE hM ⟨_,func96,by kernel_rfl,by kernel_rfl⟩ (λ_=>by kernel_rfl) h
abbrev lG:=bD
def d179:Td 0 lG:= .c [] [8] (.r 0 1 (ec 8 (qp 0 0) en) (sb 0 56 (lg 56) sn) (λz=>z.2.1) (λx=>(((),()),(x,()))))
def anz:=(lc (qg 26) (lc (ql 3) (lc (qg 166) (lc (qg 56) ln))))
def aoc(M:aQ->(aa Int)->ay->bD->ah lG):bw->bw:=eZ vi 179 anz d179 (λg=>M g.1 g.2.1 g.2.2.1 g.2.2.2.1)
def afZ(M:aQ->(aa Int)->ay->bD->ah lG):Prop:=HL vi 179 anz d179 (λg=>M g.1 g.2.1 g.2.2.1 g.2.2.2.1)
def acP{M:aQ->(aa Int)->ay->bD->ah lG}(hM:afZ M){F:bw}(h:bG vi F):bG vi (aoc M F):=oE hM ⟨_,func179,by kernel_rfl,by kernel_rfl⟩ (λ_=>by kernel_rfl) h
def F96(M96:aQ->(aa Int)->(aa ay)->bD->ah B5)(M179:aQ->(aa Int)->ay->bD->ah lG):bw:=(asG (acJ (aoN (aoc M179 (x96 M96 eB)))))
def ai6{M96 M179}(h96:H96 M96)(h179:afZ M179):bG vi (F96 M96 M179):=(ab9 (IG (af5 (acP h179 (N1 h96 aY)))))
structure oz where
 t1:List Int
 t2:List ay
 t9:Int
 b0:aQ
 (b1 b2:bD)
def YN:Td 0 oz:= .c [] [1,2,4,7,8,9] (.t (cU.fc 1 0 []) (.t (cU.fc 1 1 []) (.c [] [1,2,4,7,8,9] (.r 0 3 (ec 1 (ql 3) (ec 2 (ql 166) (ec 4 (qp 0 0) (ec 7 (qp 1 0) (ec 8 (qp 2 0) (ec 9 aU en)))))) (sb 0 26 (lg 26) (sb 1 56 (lg 56) (sb 2 56 (lc qn (lc qn (bg ln))) sn))) (λz=>⟨z.1.1,z.1.2.1,z.1.q.2.1,z.2.1,z.t.1,(bD.mk [] [] z.t.2.1.t.1)⟩) (λx=>((x.t1,x.t2,(),(),(),x.t9,()),(x.b0,x.b1,((),(),x.b2.aF,()),())))))))
def P6(M96:aQ->(aa Int)->(aa ay)->bD->ah B5)(M179:aQ->(aa Int)->ay->bD->ah lG)(p:oz):ah (ah oz):=
 bif O (p.t9<p.t2.length)then if 0<=p.t9/\p.t9<p.t2.length then bif O (p.t2[p.t9.toNat]!.bN=4)then match M179 p.b0 p.t1 (ay.mk p.t2[p.t9.toNat]!.bN p.t2[p.t9.toNat]!.aN p.t2[p.t9.toNat]!.cV p.t2[p.t9.toNat]!.fN (ax.mk p.t2[p.t9.toNat]!.az.bf p.t2[p.t9.toNat]!.az.fN p.t2[p.t9.toNat]!.az.aq) p.t2[p.t9.toNat]!.aD p.t2[p.t9.toNat]!.aJ p.t2[p.t9.toNat]!.aK) p.b1 with|V=>V|Q r1=>Q (Q (oz.mk p.t1 p.t2 (i64.wrap (p.t9+1)) p.b0 r1 (bD.mk [] [] p.b2.aF)))else bif O (p.t2[p.t9.toNat]!.bN=0)then match vV p.b1.cW (ax.mk p.t2[p.t9.toNat]!.az.bf p.t2[p.t9.toNat]!.az.fN p.t2[p.t9.toNat]!.az.aq)with|V=>V|Q r2=>match OM p.b0 p.b1.cW p.t2[p.t9.toNat]!.cV r2 with|V=>V|Q r3=>Q (Q (oz.mk p.t1 p.t2 (i64.wrap (p.t9+1)) p.b0 (bD.mk r3 p.b1.aP (i64.wrap (p.b1.aF+p.t2[p.t9.toNat]!.aN))) (bD.mk [] [] p.b2.aF)))else bif O (p.t2[p.t9.toNat]!.bN=1)then if([]++p.b1.aP).length<=1073741824 then match vV p.b1.cW (ax.mk p.t2[p.t9.toNat]!.az.bf p.t2[p.t9.toNat]!.az.fN p.t2[p.t9.toNat]!.az.aq)with|V=>V|Q r4=>if([]++p.b1.aP++[r4]).length<=1073741824 then Q (Q (oz.mk p.t1 p.t2 (i64.wrap (p.t9+1)) p.b0 (bD.mk p.b1.cW ([]++p.b1.aP++[r4]) (i64.wrap (p.b1.aF+p.t2[p.t9.toNat]!.aN))) (bD.mk [] [] p.b2.aF)))else V else V else bif O (p.t2[p.t9.toNat]!.bN=5)then if 0<=p.t2[p.t9.toNat]!.fN/\p.t2[p.t9.toNat]!.fN<p.t1.length then match OM p.b0 p.b1.cW p.t2[p.t9.toNat]!.cV p.t1[p.t2[p.t9.toNat]!.fN.toNat]! with|V=>V|Q r5=>Q (Q (oz.mk p.t1 p.t2 (i64.wrap (p.t9+1)) p.b0 (bD.mk r5 p.b1.aP (i64.wrap (p.b1.aF+p.t2[p.t9.toNat]!.aN))) (bD.mk [] [] p.b2.aF)))else V else bif O (p.t2[p.t9.toNat]!.bN=3)then match vV p.b1.cW (ax.mk p.t2[p.t9.toNat]!.az.bf p.t2[p.t9.toNat]!.az.fN p.t2[p.t9.toNat]!.az.aq)with|V=>V|Q r6=>bif bif O (r6=0)then I else G then match M96 p.b0 p.t1 p.t2[p.t9.toNat]!.aD (bD.mk p.b1.cW p.b1.aP (i64.wrap (p.b1.aF+p.t2[p.t9.toNat]!.aN)))with|V=>V|Q r7=>Q (Q (oz.mk p.t1 p.t2 (i64.wrap (p.t9+1)) p.b0 r7 (bD.mk [] [] p.b2.aF)))else match M96 p.b0 p.t1 p.t2[p.t9.toNat]!.aJ (bD.mk p.b1.cW p.b1.aP (i64.wrap (p.b1.aF+p.t2[p.t9.toNat]!.aN)))with|V=>V|Q r8=>Q (Q (oz.mk p.t1 p.t2 (i64.wrap (p.t9+1)) p.b0 r8 (bD.mk [] [] p.b2.aF)))else bif O (p.t2[p.t9.toNat]!.bN=6)then match Xb p.t2[p.t9.toNat]!.aK (i64.wrap (p.b1.aF+p.t2[p.t9.toNat]!.aN))with|V=>V|Q r9=>Q (Q (oz.mk p.t1 p.t2 (i64.wrap (p.t9+1)) p.b0 (bD.mk p.b1.cW p.b1.aP r9) (bD.mk [] [] p.b2.aF)))else Q (Q (oz.mk p.t1 p.t2 (i64.wrap (p.t9+1)) p.b0 (bD.mk p.b1.cW p.b1.aP (i64.wrap (p.b1.aF+p.t2[p.t9.toNat]!.aN))) (bD.mk [] [] p.b2.aF)))else V else Q (V)
def QG(M96:aQ->(aa Int)->(aa ay)->bD->ah B5)(M179:aQ->(aa Int)->ay->bD->ah lG):=bJ (P6 M96 M179)
def asN(M96:aQ->(aa Int)->(aa ay)->bD->ah B5)(M179:aQ->(aa Int)->ay->bD->ah lG):An:=(noTwo (.two (noTwo (YN.lp (QG M96 M179) .no)) .no))
def av9(M96:aQ->(aa Int)->(aa ay)->bD->ah B5)(M179:aQ->(aa Int)->ay->bD->ah lG):gv vi (F96 M96 M179) 0 300 96 (asN M96 M179):=cD (l:=[(bE f96 0,(YN.lp (QG M96 M179) .no))]) func96 (bR (by kernel_rfl)) (by kernel_rfl) (aB (aO YN) aI)
def s96(M96:aQ->(aa Int)->(aa ay)->bD->ah B5)(M179:aQ->(aa Int)->ay->bD->ah lG)(a0:aQ)(a1:aa Int)(a2:aa ay)(a3:bD):ah B5:=
 match QG M96 M179 (oz.mk a1 a2 0 a0 a3 (bD.mk [] [] (0)))with|V=>V|Q r10=>bif O (r10.t9<r10.t2.length)then if 0<=r10.t9/\r10.t9<r10.t2.length then bif O (r10.t2[r10.t9.toNat]!.bN=4)then match M179 r10.b0 r10.t1 (ay.mk r10.t2[r10.t9.toNat]!.bN r10.t2[r10.t9.toNat]!.aN r10.t2[r10.t9.toNat]!.cV r10.t2[r10.t9.toNat]!.fN (ax.mk r10.t2[r10.t9.toNat]!.az.bf r10.t2[r10.t9.toNat]!.az.fN r10.t2[r10.t9.toNat]!.az.aq) r10.t2[r10.t9.toNat]!.aD r10.t2[r10.t9.toNat]!.aJ r10.t2[r10.t9.toNat]!.aK) r10.b1 with|V=>V|Q r11=>V else bif O (r10.t2[r10.t9.toNat]!.bN=0)then match vV r10.b1.cW (ax.mk r10.t2[r10.t9.toNat]!.az.bf r10.t2[r10.t9.toNat]!.az.fN r10.t2[r10.t9.toNat]!.az.aq)with|V=>V|Q r12=>match OM r10.b0 r10.b1.cW r10.t2[r10.t9.toNat]!.cV r12 with|V=>V|Q r13=>V else bif O (r10.t2[r10.t9.toNat]!.bN=1)then if([]++r10.b1.aP).length<=1073741824 then match vV r10.b1.cW (ax.mk r10.t2[r10.t9.toNat]!.az.bf r10.t2[r10.t9.toNat]!.az.fN r10.t2[r10.t9.toNat]!.az.aq)with|V=>V|Q r14=>if([]++r10.b1.aP++[r14]).length<=1073741824 then V else V else V else bif O (r10.t2[r10.t9.toNat]!.bN=5)then if 0<=r10.t2[r10.t9.toNat]!.fN/\r10.t2[r10.t9.toNat]!.fN<r10.t1.length then match OM r10.b0 r10.b1.cW r10.t2[r10.t9.toNat]!.cV r10.t1[r10.t2[r10.t9.toNat]!.fN.toNat]! with|V=>V|Q r15=>V else V else bif O (r10.t2[r10.t9.toNat]!.bN=3)then match vV r10.b1.cW (ax.mk r10.t2[r10.t9.toNat]!.az.bf r10.t2[r10.t9.toNat]!.az.fN r10.t2[r10.t9.toNat]!.az.aq)with|V=>V|Q r16=>bif bif O (r16=0)then I else G then match M96 r10.b0 r10.t1 r10.t2[r10.t9.toNat]!.aD (bD.mk r10.b1.cW r10.b1.aP (i64.wrap (r10.b1.aF+r10.t2[r10.t9.toNat]!.aN)))with|V=>V|Q r17=>V else match M96 r10.b0 r10.t1 r10.t2[r10.t9.toNat]!.aJ (bD.mk r10.b1.cW r10.b1.aP (i64.wrap (r10.b1.aF+r10.t2[r10.t9.toNat]!.aN)))with|V=>V|Q r18=>V else bif O (r10.t2[r10.t9.toNat]!.bN=6)then match Xb r10.t2[r10.t9.toNat]!.aK (i64.wrap (r10.b1.aF+r10.t2[r10.t9.toNat]!.aN))with|V=>V|Q r19=>V else V else V else Q (r10.b1)
def c96(M96:aQ->(aa Int)->(aa ay)->bD->ah B5)(M179:aQ->(aa Int)->ay->bD->ah lG)(a0:aQ)(a1:aa Int)(a2:aa ay)(a3:bD):ct vi (F96 M96 M179) 300 (asN M96 M179) 96 (A96.c (a0,a1,a2,a3,())) [] 0 d96.rd=s96 M96 M179 a0 a1 a2 a3:=by kernel_rfl
def akE(M96:aQ->(aa Int)->(aa ay)->bD->ah B5)(M179:aQ->(aa Int)->ay->bD->ah lG):bw:=(acJ (x96 M96 eB))
def acR{M96 M179}(h96:H96 M96)(h179:afZ M179):bG vi (akE M96 M179):=(IG (N1 h96 aY))
structure E5 where
 t1:List Int
 t9:Int
 b0:aQ
 b1:ay
 (b2 b3:bD)
def Ot:Td 0 E5:= .c [] [1,4,6,7,8,9] (.r 0 4 (ec 1 (ql 3) (ec 4 (qp 0 0) (ec 6 (qp 1 0) (ec 7 (qp 2 0) (ec 8 (qp 3 0) (ec 9 aU en)))))) (sb 0 26 (lg 26) (sb 1 166 (lg 166) (sb 2 56 (lg 56) (sb 3 56 (lc qn (lc qn (bg ln))) sn)))) (λz=>⟨z.1.1,z.1.q.2.1,z.2.1,z.t.1,z.t.2.1,(bD.mk [] [] z.q.1.t.1)⟩) (λx=>((x.t1,(),(),(),(),x.t9,()),(x.b0,x.b1,x.b2,((),(),x.b3.aF,()),()))))
def EE(M96:aQ->(aa Int)->(aa ay)->bD->ah B5)(M179:aQ->(aa Int)->ay->bD->ah lG)(p:E5):ah (ah E5):=
 bif O (p.t9<p.b1.fN)then match vV p.b2.cW (ax.mk p.b1.az.bf p.b1.az.fN p.b1.az.aq)with|V=>V|Q r1=>bif O (r1=0)then Q (V)else match M96 p.b0 p.t1 p.b1.aD (bD.mk p.b2.cW p.b2.aP (i64.wrap (p.b2.aF+p.b1.aN)))with|V=>V|Q r2=>Q (Q (E5.mk p.t1 (i64.wrap (p.t9+1)) p.b0 (ay.mk p.b1.bN p.b1.aN p.b1.cV p.b1.fN (ax.mk p.b1.az.bf p.b1.az.fN p.b1.az.aq) p.b1.aD p.b1.aJ p.b1.aK) r2 (bD.mk [] [] p.b3.aF)))else Q (V)
def IL(M96:aQ->(aa Int)->(aa ay)->bD->ah B5)(M179:aQ->(aa Int)->ay->bD->ah lG):=bJ (EE M96 M179)
def ahQ(M96:aQ->(aa Int)->(aa ay)->bD->ah B5)(M179:aQ->(aa Int)->ay->bD->ah lG):An:=(noTwo (.two (noTwo (Ot.lp (IL M96 M179) .no)) .no))
def aq2(M96:aQ->(aa Int)->(aa ay)->bD->ah B5)(M179:aQ->(aa Int)->ay->bD->ah lG):gv vi (akE M96 M179) 0 300 179 (ahQ M96 M179):=cD (l:=[(bE f179 0,(Ot.lp (IL M96 M179) .no))]) func179 (bR (by kernel_rfl)) (by kernel_rfl) (aB (aO Ot) aI)
def aaB(M96:aQ->(aa Int)->(aa ay)->bD->ah B5)(M179:aQ->(aa Int)->ay->bD->ah lG)(a0:aQ)(a1:aa Int)(a2:ay)(a3:bD):ah lG:=
 match IL M96 M179 (E5.mk a1 (0) a0 (ay.mk a2.bN a2.aN a2.cV a2.fN (ax.mk a2.az.bf a2.az.fN a2.az.aq) a2.aD a2.aJ a2.aK) a3 (bD.mk [] [] (0)))with|V=>V|Q r3=>bif O (r3.t9<r3.b1.fN)then match vV r3.b2.cW (ax.mk r3.b1.az.bf r3.b1.az.fN r3.b1.az.aq)with|V=>V|Q r4=>bif O (r4=0)then Q (bD.mk r3.b2.cW r3.b2.aP (i64.wrap (r3.b2.aF+r3.b1.aN)))else match M96 r3.b0 r3.t1 r3.b1.aD (bD.mk r3.b2.cW r3.b2.aP (i64.wrap (r3.b2.aF+r3.b1.aN)))with|V=>V|Q r5=>V else Q (r3.b2)
def auv(M96:aQ->(aa Int)->(aa ay)->bD->ah B5)(M179:aQ->(aa Int)->ay->bD->ah lG)(a0:aQ)(a1:aa Int)(a2:ay)(a3:bD):ct vi (akE M96 M179) 300 (ahQ M96 M179) 179 (anz.c (a0,a1,a2,a3,())) [] 0 d179.rd=aaB M96 M179 a0 a1 a2 a3:=by kernel_rfl
def mL:Nat->(aQ->(aa Int)->(aa ay)->bD->ah B5)×(aQ->(aa Int)->ay->bD->ah lG)
 |0=>(λ_ _ _ _=>V,λ_ _ _ _=>V)
 |n+1=>(s96 (mL n).1 (mL n).2,aaB (mL n).1 (mL n).2)
def ZO(n:Nat):aQ->(aa Int)->(aa ay)->bD->ah B5:=(mL n).1
def J4(n:Nat):aQ->(aa Int)->ay->bD->ah lG:=(mL n).2
def Bq:∀n,H96 (ZO n)/\afZ (J4 n)
 |0=>⟨λ_ _ h=>(by cases h),λ_ _ h=>(by cases h)⟩
 |n+1=>by
  have ih:=Bq n;obtain⟨i96,i179⟩:=ih;refine⟨?_,?_⟩
  ·exact(fm (ai6 i96 i179) (av9 (ZO n) (J4 n)) (λ_=>by kernel_rfl) (λ_=>by kernel_rfl) λg=>c96 (ZO n) (J4 n) g.1 g.2.1 g.2.2.1 g.2.2.2.1)
  ·exact(fm (acR i96 i179) (aq2 (ZO n) (J4 n)) (λ_=>by kernel_rfl) (λ_=>by kernel_rfl) λg=>auv (ZO n) (J4 n) g.1 g.2.1 g.2.2.1 g.2.2.2.1)
def r96:aQ->(aa Int)->(aa ay)->bD->ah B5:=λa0 a1 a2 a3=>lim (λn=>ZO n a0 a1 a2 a3)
def amb:H96 r96:=λg b h=>by
 obtain⟨n,hn⟩:=dG (show lim (λn=>ZO n g.1 g.2.1 g.2.2.1 g.2.2.2.1)=Q b from h);exact(Bq n).1 g b hn
def e96(F:bw):bw:=x96 r96 F
def ajA{F:bw}(h:bG vi F):bG vi (e96 F):=N1 amb h
def F97:bw:=(amW (acJ eB))
def alV:bG vi F97:=(HO (IG aY))
structure Mr where
 (t1 t5:List Int)
 t6:Int
 b0:aQ
def Vm:Td 0 Mr:= .c [] [1,2,5,6] (.r 0 2 (ec 1 (ql 3) (ec 2 (qp 0 0) (ec 5 (qo 1) (ec 6 aU en)))) (sb 0 26 (lg 26) (sr 1 3 sn)) (λz=>⟨z.1.1,z.t.1,z.1.t.2.1,z.2.1⟩) (λx=>((x.t1,(),(),x.t6,()),(x.b0,x.t5,()))))
def R7(p:Mr):ah (ah Mr):=
 bif O (p.t6<p.b0.ak.length)then if 0<=p.t6/\p.t6<p.b0.ak.length then match vV p.t1 (ax.mk p.b0.ak[p.t6.toNat]!.az.bf p.b0.ak[p.t6.toNat]!.az.fN p.b0.ak[p.t6.toNat]!.az.aq)with|V=>V|Q r1=>if(p.t5++[uQ r1 p.b0.ak[p.t6.toNat]!.ag p.b0.ak[p.t6.toNat]!.af]).length<=1073741824 then Q (Q (Mr.mk p.t1 (p.t5++[uQ r1 p.b0.ak[p.t6.toNat]!.ag p.b0.ak[p.t6.toNat]!.af]) (i64.wrap (p.t6+1)) p.b0))else V else V else Q (V)
def QD:=bJ (R7)
abbrev E97:=aa Int
def d97:Td 0 E97:= .c [] [4] (.t (cU.fs 4 []) (.c [] [4] (.r 0 0 (ec 4 (ql 3) en) sn (λz=>z.1.1) (λx=>((x,()),(()))))))
def A97:=(lc (qg 26) (lc (ql 3) ln))
def apR:An:=(noTwo (noTwo (.two (noTwo (Vm.lp QD .no)) .no)))
def avk:gv vi (F97) 0 300 97 (apR):=cD (l:=[(bE f97 0,(Vm.lp QD .no))]) func97 (bR (by kernel_rfl)) (by kernel_rfl) (aB (aO Vm) aI)
def m97(a0:aQ)(a1:aa Int):ah E97:=
 match QD (Mr.mk a1 [] (0) a0)with|V=>V|Q r2=>bif O (r2.t6<r2.b0.ak.length)then if 0<=r2.t6/\r2.t6<r2.b0.ak.length then match vV r2.t1 (ax.mk r2.b0.ak[r2.t6.toNat]!.az.bf r2.b0.ak[r2.t6.toNat]!.az.fN r2.b0.ak[r2.t6.toNat]!.az.aq)with|V=>V|Q r3=>if(r2.t5++[uQ r3 r2.b0.ak[r2.t6.toNat]!.ag r2.b0.ak[r2.t6.toNat]!.af]).length<=1073741824 then V else V else V else Q (r2.t5)
def c97(a0:aQ)(a1:aa Int):ct vi (F97) 300 (apR) 97 (A97.c (a0,a1,())) [] 0 d97.rd=m97 a0 a1:=by kernel_rfl
def e97:bw->bw:=eZ vi 97 A97 d97 (λg=>m97 g.1 g.2.1)
def amd{F:bw}(h:bG vi F):bG vi (e97 F):=oE (fm alV avk (λ_=>by kernel_rfl) (λ_=>by kernel_rfl) λg=>c97 g.1 g.2.1) ⟨_,func97,by kernel_rfl,by kernel_rfl⟩ (λ_=>by kernel_rfl) h
def F28:bw:=(e97 (e96 (e95 (e78 eB))))
def amY:bG vi F28:=(amd (ajA (amO (IK aY))))
abbrev E28:=bD×Int
def d28:Td 0 E28:= .c [] [4,5] (.r 0 1 (ec 4 (qp 0 0) (ec 5 aU en)) (sb 0 56 (lg 56) sn) (λz=>(z.2.1,z.1.2.1)) (λx=>(((),x.2,()),(x.1,()))))
def A28:=(lc (qg 26) (lc (qg 52) ln))
def aof:An:= .no
def awC:gv vi (F28) 0 300 28 (aof):=cD (l:=[]) func28 (bR (by kernel_rfl)) (by kernel_rfl) aI
def m28(a0:aQ)(a1:cY):ah E28:=
 match m78 a0 with|V=>V|Q r1=>bif bif O (r1=0)then I else G then Q ((bD.mk [] [] (0),r1))else match m95 a0.ai a1 with|V=>V|Q r2=>bif bif O (r2.snd=0)then I else G then Q ((bD.mk [] [] (0),r2.snd))else match m97 a0 r2.fst with|V=>V|Q r3=>match r96 a0 r3 a0.bI (bD.mk r2.fst [] (0))with|V=>V|Q r4=>Q ((r4,0))
def c28(a0:aQ)(a1:cY):ct vi (F28) 300 (aof) 28 (A28.c (a0,a1,())) [] 0 d28.rd=m28 a0 a1:=by kernel_rfl
def e28:bw->bw:=eZ vi 28 A28 d28 (λg=>m28 g.1 g.2.1)
def alR{F:bw}(h:bG vi F):bG vi (e28 F):=oE (fm amY awC (λ_=>by kernel_rfl) (λ_=>by kernel_rfl) λg=>c28 g.1 g.2.1) ⟨_,func28,by kernel_rfl,by kernel_rfl⟩ (λ_=>by kernel_rfl) h
def pJ{F:bw}{f:Nat}(hne:zj f 28=I)(h:bA F f):bA (e28 F) f:=uC hne h
def F29:bw:=eB
def alW:bG vi F29:=aY
abbrev E29:=aL
def d29:Td 0 E29:= .c [] [4] (.r 0 1 (ec 4 (qp 0 0) en) (sb 0 47 (lg 47) sn) (λz=>z.2.1) (λx=>(((),()),(x,()))))
def A29:=(lc (qg 47) (lc qb ln))
def arl:An:= .no
def ave:gv vi (F29) 0 300 29 (arl):=cD (l:=[]) func29 (bR (by kernel_rfl)) (by kernel_rfl) aI
def GS(a0:aL)(a1:Bool):E29:=
 bif a1 then a0 else aL.mk a0.aP (0)
def c29(a0:aL)(a1:Bool):ct vi (F29) 300 (arl) 29 (A29.c (a0,a1,())) [] 0 d29.rd=Q (GS a0 a1):=by
 refine Eq.trans (b:=(
  bif a1 then Q (a0)else Q (aL.mk a0.aP (0)):ah E29)) (by kernel_rfl) ?_
 simp only[GS,cO,de]
def e29:bw->bw:=eZ vi 29 A29 d29 (λg=>Q (GS g.1 g.2.1))
def ajY{F:bw}(h:bG vi F):bG vi (e29 F):=oE (fm alW ave (λ_=>by kernel_rfl) (λ_=>by kernel_rfl) λg=>c29 g.1 g.2.1) ⟨_,func29,by kernel_rfl,by kernel_rfl⟩ (λ_=>by kernel_rfl) h
def qa{F:bw}{f:Nat}(hne:zj f 29=I)(h:bA F f):bA (e29 F) f:=uC hne h
structure Ku where
 (t0 t1:List Int)
 t5:Int
def V7:Td 0 Ku:= .c [] [0,1,5] (.r 0 0 (ec 0 (ql 3) (ec 1 (ql 3) (ec 5 aU en))) sn (λz=>⟨z.1.1,z.1.2.1,z.1.t.1⟩) (λx=>((x.t0,x.t1,x.t5,()),(()))))
def Br(p:Ku):ah (ah Ku):=
 bif O (p.t5<p.t0.length)then if 0<=p.t5/\p.t5<p.t0.length then if 0<=p.t5/\p.t5<p.t1.length then bif bif O (((p.t0,p.t1,p.t5,()),()).fst.fst[((p.t0,p.t1,p.t5,()),()).fst.snd.snd.fst.toNat]! =((p.t0,p.t1,p.t5,()),()).fst.snd.fst[((p.t0,p.t1,p.t5,()),()).fst.snd.snd.fst.toNat]!)then I else G then Q (V)else Q (Q (Ku.mk p.t0 p.t1 (i64.wrap (p.t5+1))))else V else V else Q (V)
def Lq:=bJ (Br)
abbrev E98:=Bool
def d98:Td 0 E98:= .c [] [4] (.r 0 0 (ec 4 qb en) sn (λz=>z.1.1) (λx=>((x,()),(()))))
def m98(a0:aa Int)(a1:aa Int):ah E98:=
 bif bif O ((a0.length:Int)=(a1.length:Int))then I else G then Q I else match Lq (Ku.mk a0 a1 0)with|V=>V|Q r1=>bif O (r1.t5<r1.t0.length)then if 0<=r1.t5/\r1.t5<r1.t0.length then if 0<=r1.t5/\r1.t5<r1.t1.length then bif bif O (((r1.t0,r1.t1,r1.t5,()),()).fst.fst[((r1.t0,r1.t1,r1.t5,()),()).fst.snd.snd.fst.toNat]! =((r1.t0,r1.t1,r1.t5,()),()).fst.snd.fst[((r1.t0,r1.t1,r1.t5,()),()).fst.snd.snd.fst.toNat]!)then I else G then Q I else V else V else V else Q G
def e98:=eL vi 98 I (lc (ql 3) (lc (ql 3) ln)) d98 (λg=>m98 g.1 g.2.1)
def ajz:EO e98:=λh=>kL (an:=(noTwo (noTwo (.two (noTwo (V7.lp Lq .no)) .no)))) (l:=[(bE f98 0,(V7.lp Lq .no))]) func98 aY (aB (aO V7) aI) h
def WW:EP e98:=λh=>kP h
def F31:bw:=(e98 eB)
abbrev E31:=Bool
def d31:Td 0 E31:= .c [] [4] (.r 0 0 (ec 4 qb en) sn (λz=>z.1.1) (λx=>((x,()),(()))))
def auV:∀f∈([98]:aa Nat),bA (F31) f:=(aB (WW bK) aI)
def ZP(a0:aL)(a1:aL):ah E31:=
 match bif O (a0.aF=a1.aF)then match m98 a0.aP a1.aP with|V=>V|Q r1=>Q (r1)else Q (I)with|V=>V|Q r2=>Q (r2)
def e31:=eL vi 31 I (lc (qg 47) (lc (qg 47) ln)) d31 (λg=>ZP g.1 g.2.1)
def XS:EO e31:=λh=>kL (F:=F31) (an:=(noTwo (.two (.rb [98] 4) .no))) (l:=[(.skip,(.rb [98] 4))]) func31 (ajz aY) (aB auV aI) h
def qj:EP e31:=λh=>kP h
def jb(b:Bool):Int:=if b=G then 1 else 0
def gJ(n lo hi:Int):Int:=if n<lo then lo else if hi<n then hi else n
def oG(a b:Int):Int:=if b=0 then 0 else if a.tmod b≠0/\O (a<0)≠O (b<0)then a.tdiv b-1 else a.tdiv b
def Fo(a b:Int):Int:=if b=0 then 0 else a-b*oG a b
def tf(o a b:Int):Int:=
 if o=8 then a+b else if o=9 then a-b else if o=10 then a*b else if o=11 then oG a b else if o=12 then Fo a b
 else if o=13 then jb (O (a=b))else if o=14 then jb (O (a≠b))else if o=15 then jb (O (a<b))else if o=16 then jb (O (a<=b))
 else if o=17 then jb (O (b<a))else if o=18 then jb (O (b<=a))else if o=19 then jb (O (a≠0/\b≠0))else if o=20 then jb (O (a≠0\/b≠0))
 else if o=21 then(if a<b then a else b)else(if b<a then a else b)
def sX(vals:aa Int)(t:ax)(k:aa Int):Int:=
 if t.bf=0 then t.fN else if t.bf=24 then vals[t.fN.toNat]! else if t.bf=6 then-k[0]! else if t.bf=7 then jb (O (k[0]! =0))
 else if t.bf=23 then(if k[0]!≠0 then k[1]! else k[2]!)else if t.bf=25 then k[(1+gJ k[0]! 0 ((k.length:Int)-2)).toNat]! else tf t.bf k[0]! k[1]!
def dY(vals:aa Int)(t:ax):Int:=sX vals t (t.aq.attach.map λk=>dY vals k.1)
termination_by zk t
decreasing_by exact ax.dU k.2
def IW(vals:aa Int)(t:ax):dY vals t=sX vals t (t.aq.map (dY vals)):=by
 rw[dY];rw[show (t.aq.attach.map λk=>dY vals k.1)=t.aq.map (dY vals)from we (f:=dY vals)]
def Dp(a b:Int)(hb:b≠0):b*a.tdiv b+a.tmod b=a/\(a.tmod b).natAbs<b.natAbs/\(0<=a->0<=a.tmod b)/\(a<=0->a.tmod b<=0):=by
 refine⟨vb a b,?_,λh=>Int.tmod_nonneg b h,λh=> ?_⟩
 ·rw[wC];exact y6 _ (by omega)
 ·have:=Int.tmod_nonneg b (show 0<= -a by omega);rw[Int.neg_tmod]at this;omega
def RJ(a b:Int):(a.tdiv b).natAbs<=a.natAbs:=Int.natAbs_tdiv_le_natAbs a b
def tdiv_sign{a b:Int}:(0<=a->0<=b->0<=a.tdiv b):=λh1 h2=>Int.tdiv_nonneg h1 h2
def Jl(a b:Int): -(a.natAbs:Int)<=oG a b/\oG a b<=a.natAbs/\(0<=a->0<=b->0<=oG a b):=by
 unfold oG;by_cases hb:b=0
 ·rw[bt hb];omega
 rw[bF hb];obtain⟨e,h1,h2,h3⟩:=Dp a b hb;have h4:=RJ a b;by_cases hc:a.tmod b≠0/\O (a<0)≠O (b<0)
 ·rw[bt hc];obtain⟨c1,c2⟩:=hc;have c3:(a<0/\0<b)\/(0<=a/\b<0):=by
   by_cases q1:a<0<;>by_cases q2:b<0<;>simp[q1,q2]at c2<;>omega
  have h5:(a.tdiv b).natAbs<a.natAbs:=by
   rcases Nat.lt_or_ge (a.tdiv b).natAbs a.natAbs with h|h
   ·exact h
   ·exfalso;have e1:(a.tdiv b).natAbs=a.natAbs:=by omega
    have e2:a.natAbs=b.natAbs*(a.tdiv b).natAbs+(a.tmod b).natAbs:=by
     rw[Int.natAbs_tdiv,wC];exact(wJ _ _).symm
    rw[e1]at e2;have:b.natAbs*a.natAbs≥1*a.natAbs:=yN _ (by omega);omega
  omega
 ·rw[bF hc];refine⟨by omega,by omega,λq1 q2=>tdiv_sign q1 q2⟩
def P5(a b:Int):(if b<0 then b+1 else 0)<=Fo a b/\Fo a b<=(if 0<b then b-1 else 0):=by
 unfold Fo oG;by_cases hb:b=0
 ·rw[bt hb];simp[hb]
 rw[bF hb,bF hb];obtain⟨e,h1,h2,h3⟩:=Dp a b hb;by_cases hc:a.tmod b≠0/\O (a<0)≠O (b<0)
 ·rw[bt hc,x8,yX];obtain⟨c1,c2⟩:=hc;have c3:(a<0/\0<b)\/(0<=a/\b<0):=by
   by_cases q1:a<0<;>by_cases q2:b<0<;>simp[q1,q2]at c2<;>omega
  split<;>split<;>omega
 ·rw[bF hc];have c3:a.tmod b=0\/(a<0/\b<0)\/(0<=a/\0<=b):=by
   by_cases q0:a.tmod b=0
   ·exact .inl q0
   ·by_cases q1:a<0<;>by_cases q2:b<0<;>simp[q0,q1,q2]at hc<;>omega
  split<;>split<;>omega
def Bc{x lo hi y:Int}(h1:lo<=x)(h2:x<=hi):(lo*y<=x*y\/hi*y<=x*y)/\(x*y<=lo*y\/x*y<=hi*y):=by
 rcases xY 0 y with h|h
 ·exact⟨.inl (zM h1 h), .inr (zM h2 h)⟩
 ·exact⟨.inr (ve h2 h), .inl (ve h1 h)⟩
def amk{x y:Int}{a b:Span}(h1:a.ag<=x)(h2:x<=a.af)(h3:b.ag<=y)(h4:y<=b.af):
  (a.ag*b.ag<=x*y\/a.ag*b.af<=x*y\/a.af*b.ag<=x*y\/a.af*b.af<=x*y)/\
  (x*y<=a.ag*b.ag\/x*y<=a.ag*b.af\/x*y<=a.af*b.ag\/x*y<=a.af*b.af):=by
 obtain⟨p1,p2⟩:=Bc (y:=y) h1 h2;obtain⟨q1,q2⟩:=Bc (y:=a.ag) h3 h4;obtain⟨r1,r2⟩:=Bc (y:=a.af) h3 h4;rw[zG b.ag,zG b.af,zG y]at q1 q2 r1 r2;omega
def jV:∀(l:aa Span) (a:Span),(l.foldl dL a).ag<=a.ag/\a.af<=(l.foldl dL a).af/\∀s∈l,(l.foldl dL a).ag<=s.ag/\s.af<=(l.foldl dL a).af
 |[],a=>⟨zm _,zm _,λs h=>by cases h⟩
 |x::l,a=>by
  obtain⟨h1,h2,h3⟩:=jV l (dL a x);have e1:(dL a x).ag<=a.ag/\(dL a x).ag<=x.ag/\a.af<=(dL a x).af/\x.af<=(dL a x).af:=by unfold dL;grind
  rw[List.foldl_cons];refine⟨by omega,by omega,λs hs=> ?_⟩;rcases zF.1 hs with rfl|hs
  ·omega
  ·exact h3 s hs
def Ay(x:Int)(s:Span):Prop:=s.ag<=x/\x<=s.af
def SY(b:Bool):Ay (jb b) ⟨0,1⟩:=by cases b<;>exact⟨by decide,by decide⟩
def KIn(k:aa Int)(r:aa Span):Prop:=k.length=r.length/\∀i,i<r.length->Ay k[i]! r[i]!
def Fz(vars:aa aS)(vals:aa Int):Prop:=vals.length=vars.length/\∀i,i<vars.length->vars[i]!.ag<=vals[i]!/\vals[i]!<=vars[i]!.af
def QS{vars:aa aS}{vals:aa Int}(hV:Fz vars vals){t:ax}{r:aa Span}(h:tj vars t r){k:aa Int}(hk:KIn k r):Ay (sX vals t k) (dV vars t r):=by
 obtain⟨⟨g1,g2,g3⟩,h24,hI⟩:=h;obtain⟨hl,hk⟩:=hk;have k0:1<=r.length->Ay k[0]! r[0]! :=λh=>hk 0 (by omega);have k1:2<=r.length->Ay k[1]! r[1]! :=λh=>hk 1 (by omega);have sel:∀i,1<=i->i<r.length->Ay k[i]! ((r.drop 2).foldl dL r[1]!):=λi h1 h2=>by
  obtain⟨e1,e2,e3⟩:=jV (r.drop 2) r[1]!;have e4:=hk i h2;unfold Ay at e4 ⊢;by_cases hi:i=1
  ·subst hi;omega
  ·have hm:r[i]!∈r.drop 2:=by
    rw[xd];refine⟨i-2,by rw[yh];omega,?_⟩;rw[xH,getElem!_pos _ i h2]
    congr 1
    omega
   have:=e3 _ hm;omega
 have kn:bV t.bf=if t.bf=0\/t.bf=24 then(0,0)else if t.bf=6\/t.bf=7 then(1,1)else if 8<=t.bf/\t.bf<=22 then(2,2)else if t.bf=23 then(3,3)else if t.bf=25 then(2,33)else(-1,-1):=rfl
 unfold sX dV;by_cases o0:t.bf=0
 ·rw[bt o0,bt o0];exact⟨zm _,zm _⟩
 rw[bF o0,bF o0];by_cases o24:t.bf=24
 ·rw[bt o24,bt o24];obtain⟨n1,n2⟩:=h24 o24;exact hV.2 _ (by omega)
 rw[bF o24,bF o24];rw[iB]at kn;by_cases o6:t.bf=6
 ·rw[bt (.inl o6)]at kn;rw[kn]at g1 g2 g3;have:=k0 (by simp at g2;omega);rw[bt o6,bt o6];unfold Ay at this ⊢;dsimp only;omega
 rw[bF o6,bF o6];by_cases o7:t.bf=7
 ·simp only[o7,Int.reduceEq,reduceIte,or_self];exact SY _
 rw[bF o7];rw[iB]at kn;by_cases o23:t.bf=23
 ·rw[iB,bt o23]at kn;rw[kn]at g1 g2 g3;dsimp only at g2 g3;simp only[o23,Int.reduceEq,reduceIte,true_or];split
  ·exact sel 1 (by omega) (by omega)
  ·exact sel 2 (by omega) (by omega)
 rw[bF o23];by_cases o25:t.bf=25
 ·rw[iB,bF o23,bt o25]at kn;rw[kn]at g1 g2 g3;dsimp only at g2 g3;simp only[o25,Int.reduceEq,reduceIte,or_true];refine sel _ ?_ ?_<;>unfold gJ<;>grind
 rw[bF o25];have h22:8<=t.bf/\t.bf<=22:=by
  by_cases h:8<=t.bf/\t.bf<=22
  ·exact h
  ·rw[bF h,bF o23,bF o25]at kn;rw[kn]at g1;simp at g1
 rw[bt h22]at kn;rw[kn]at g1 g2 g3;dsimp only at g2 g3;have a0:=k0 (by omega);have a1:=k1 (by omega);have i0:=hI _ (aV (show 0<r.length by omega));have i1:=hI _ (aV (show 1<r.length by omega));unfold Ay at a0 a1;unfold ru at i0 i1;unfold tf;by_cases o8:t.bf=8
 ·rw[bt o8,bt o8];unfold Ay;dsimp only;omega
 rw[bF o8,bF o8];by_cases o9:t.bf=9
 ·rw[bt o9,bt o9];unfold Ay;dsimp only;omega
 rw[bF o9,bF o9];by_cases o10:t.bf=10
 ·rw[bt o10,bt o10];have hm:=amk (a:=r[0]!) (b:=r[1]!) a0.1 a0.2 a1.1 a1.2;unfold Ay dL;dsimp only;generalize k[0]! *k[1]! =xy at hm ⊢;generalize r[0]!.ag*r[1]!.ag=p at hm ⊢;generalize r[0]!.ag*r[1]!.af=q at hm ⊢;generalize r[0]!.af*r[1]!.ag=u at hm ⊢;generalize r[0]!.af*r[1]!.af=s at hm ⊢;grind
 rw[bF o10,bF o10];by_cases o11:t.bf=11
 ·rw[bt o11,bt o11];obtain⟨d1,d2,d3⟩:=Jl k[0]! k[1]!;unfold Ay;split
  ·rename_i hc;have:=d3 (by omega) (by omega);dsimp only;refine⟨this,?_⟩;split<;>omega
  ·dsimp only;split<;>omega
 rw[bF o11,bF o11];by_cases o12:t.bf=12
 ·rw[bt o12,bt o12];obtain⟨d1,d2⟩:=P5 k[0]! k[1]!;unfold Ay;dsimp only;constructor
  ·refine y7 ?_ d1;split<;>split<;>omega
  ·refine y7 d2 ?_;split<;>split<;>omega
 rw[bF o12,bF o12];by_cases o21:t.bf=21
 ·rw[bt o21];simp only[o21,Int.reduceEq,reduceIte];unfold Ay;dsimp only;constructor<;>split<;>(try split)<;>omega
 by_cases o22:t.bf=22
 ·rw[bF o21,bt o22];simp only[o22,Int.reduceEq,reduceIte];unfold Ay;dsimp only;constructor<;>split<;>(try split)<;>omega
 have cs:t.bf=13\/t.bf=14\/t.bf=15\/t.bf=16\/t.bf=17\/t.bf=18\/t.bf=19\/t.bf=20:=by omega
 rcases cs with o|o|o|o|o|o|o|o<;>simp only[o,Int.reduceEq,reduceIte,or_self]<;>exact SY _
def Hq{vars:aa aS}(hv:bY vars){vals:aa Int}(hV:Fz vars vals){inp:Bool}:∀(n:Nat) (t:ax),zk t<n->cZ vars inp t=G->∀s,eH vars t=Q s->Ay (dY vals t) s
 |0,_,h,_,_,_=>by omega
 |n+1,t,h,hf,s,hs=>by
  rw[kQ]at hs;cases ha:jG (t.aq.map (eH vars))with
  |none=>rw[ha]at hs;cases hs
  |some r=>
   rw[ha]at hs;dsimp only at hs;have hK:=qG hv hf ha;have hr:t.aq.map (eH vars)=r.map Q:=jO ha;have hlen:t.aq.length=r.length:=by have:=congrArg yC hr;simpa using this
   split at hs
   ·cases hs;rw[IW];refine QS hV hK ⟨by simp[hlen],λi hi=> ?_⟩;have hm:t.aq[i]!∈t.aq:=aV (by omega);have e1:(t.aq.map (dY vals))[i]! =dY vals t.aq[i]! :=by
     rw[getElem!_pos _ i (by simp;omega),getElem!_pos _ i (by omega),ye]
    have e2:eH vars t.aq[i]! =Q r[i]! :=by
     have:=congrArg (λl=>l[i]?) hr;simp only[yb]at this;rw[zw (show i<t.aq.length by omega),zw hi]at this;rw[getElem!_pos _ i (by omega),getElem!_pos _ i hi];simpa using this
    rw[e1];exact Hq hv hV n _ (by have:=ax.dU hm;omega) (iI hf hm) _ e2
   ·cases hs
def Q3(b:Bool):sK b=jb b:=by cases b<;>rfl
def GV(n lo hi:Int):uQ n lo hi=gJ n lo hi:=by unfold uQ gJ;simp only[zl]
def neB(a b:Bool):(bif a==b then false else true)=O (a≠b):=by cases a<;>cases b<;>rfl
def RX{a b:Int}(h1: -1099511627776<=a)(h2:a<=1099511627776):Xq a b=Q (oG a b):=by
 have h3:=RJ a b;have w1:i64.wrap (a.tdiv b)=a.tdiv b:=aG;have w2:i64.wrap (a.tdiv b-1)=a.tdiv b-1:=aG;unfold Xq oG;by_cases hb:b=0
 ·simp[hb]
 by_cases hm:a.tmod b=0
 ·simp[hb,hm,w1]
 ·simp only[hb,hm,w1,w2,fW,bz,bC,not_false_eq_true,bZ,dA,ne_eq,true_and,neB,not_true];by_cases hc:O (a<0)=O (b<0)
  ·simp[hc]
  ·simp[hc]
def ae3{a b:Int}(h1: -1099511627776<=a)(h2:a<=1099511627776)(h3: -1099511627776<=b)(h4:b<=1099511627776):adT a b=Q (Fo a b):=by
 unfold adT;rw[RX h1 h2];unfold Fo;by_cases hb:b=0
 ·simp[hb]
 obtain⟨e,q1,q2,q3⟩:=Dp a b hb;have hd:b*oG a b=b*a.tdiv b\/b*oG a b=b*a.tdiv b-b:=by
  unfold oG;rw[bF hb];split
  ·right;rw[x8,yX]
  ·left;rfl
 have w1:i64.wrap (b*oG a b)=b*oG a b:=aG;have w2:i64.wrap (a-b*oG a b)=a-b*oG a b:=aG;simp only[hb,fW,bz,dA,w1,w2]
def agD{o a b:Int}(ha: -1048576<=a/\a<=1048576)(hb: -1048576<=b/\b<=1048576):aar o a b=Q (tf o a b):=by
 have hm:=mw (a:=a) (b:=b) (by omega) (by omega) (by omega) (by omega);have w1:i64.wrap (a+b)=a+b:=aG;have w2:i64.wrap (a-b)=a-b:=aG;have w3:i64.wrap (a*b)=a*b:=aG;unfold aar tf;rw[RX (by omega) (by omega),ae3 (by omega) (by omega) (by omega) (by omega),w1,w2,w3];simp only[Q3,od,l9];have z:∀x:Int,(bif O (x=0)then I else G)=O (x≠0):=λx=>by by_cases h:x=0<;>simp[h]
 have z2:(bif O (a=b)then I else G)=O (a≠b):=by by_cases h:a=b<;>simp[h]
 rw[z,z,z2];have y:(bif O (a≠0)then Q (jb (O (b≠0)))else Q (jb I))=Q (jb (O (a≠0/\b≠0))):=by by_cases h1:a=0<;>by_cases h2:b=0<;>simp[h1,h2]
 have y2:(bif O (a≠0)then Q (jb G)else Q (jb (O (b≠0))))=Q (jb (O (a≠0\/b≠0))):=by by_cases h1:a=0<;>by_cases h2:b=0<;>simp[h1,h2]
 rw[y,y2];simp only[zl,de]
def aoK{vars:aa aS}(hv:bY vars){vals:aa Int}(hV:Fz vars vals){inp:Bool}{t:ax}(hf:cZ vars inp t=G)(hs:(eH vars t).isSome=G):
  ∀k∈t.aq,(eH vars k).isSome=G/\ -1048576<=dY vals k/\dY vals k<=1048576:=λk hk=>by
 rw[kQ]at hs;cases ha:jG (t.aq.map (eH vars))with
 |none=>rw[ha]at hs;cases hs
 |some r=>
  have hK:=qG hv hf ha;have hr:=jO ha;have hm:eH vars k∈r.map Q:=by rw[<-hr];exact vg hk
  obtain⟨s,h1,h2⟩:=zN.1 hm;have h3:=Hq hv hV (zk k+1) k (by omega) (iI hf hk) s h2.symm;have h4:=hK.2.2 s h1;unfold Ay at h3;unfold ru at h4;exact⟨by rw[<-h2];rfl,by omega,by omega⟩
def BN{vars:aa aS}{inp:Bool}{t:ax}(hf:cZ vars inp t=G):(0<=(bV t.bf).1/\(bV t.bf).1<=t.aq.length/\(t.aq.length:Int)<=(bV t.bf).2)/\(t.bf=24->0<=t.fN/\t.fN<vars.length):=by
 rw[lH]at hf;have h:=(zn _ _▸hf).1;unfold By at h;rw[zn,decide_eq_true_iff]at h;refine⟨h.1,λh24=> ?_⟩;have h2:=h.2;simp only[h24,Int.reduceEq,reduceIte,zn,decide_eq_true_eq]at h2;exact h2.1
def tU(o:Int)(h:0<=(bV o).1):((o=0\/o=24)/\bV o=(0,0))\/((o=6\/o=7)/\bV o=(1,1))\/((8<=o/\o<=22)/\bV o=(2,2))\/(o=23/\bV o=(3,3))\/(o=25/\bV o=(2,33)):=by
 unfold bV at h ⊢;split
 ·exact .inl ⟨‹_›,rfl⟩
 rename_i h1;rw[bF h1]at h;split
 ·exact .inr (.inl ⟨‹_›,rfl⟩)
 rename_i h2;rw[bF h2]at h;split
 ·exact .inr (.inr (.inl ⟨‹_›,rfl⟩))
 rename_i h3;rw[bF h3]at h;split
 ·exact .inr (.inr (.inr (.inl ⟨‹_›,rfl⟩)))
 rename_i h4;rw[bF h4]at h;split
 ·exact .inr (.inr (.inr (.inr ⟨‹_›,rfl⟩)))
 ·rename_i h5;rw[bF h5]at h;simp at h
def qw{vals:aa Int}{t:ax}{i:Nat}(h:i<t.aq.length):(t.aq.map (dY vals))[i]! =dY vals t.aq[i]! :=by
 rw[getElem!_pos _ i (by simpa using h),getElem!_pos _ i h,ye]
def aeH(M:aa Int->ax->ah uu){vars:aa aS}(hv:bY vars){vals:aa Int}(hV:Fz vars vals){inp:Bool}(t:ax)(hf:cZ vars inp t=G)(hs:(eH vars t).isSome=G)
  (hM:∀k∈t.aq,M vals k=Q (dY vals k)):afP M vals t=Q (dY vals t):=by
 obtain⟨⟨g1,g2,g3⟩,h24⟩:=BN hf;have hkv:=aoK hv hV hf hs;have K:∀i,i<t.aq.length->M vals t.aq[i]! =Q (dY vals t.aq[i]!)/\ -1048576<=dY vals t.aq[i]!/\dY vals t.aq[i]!<=1048576:=λi hi=>⟨hM _ (aV hi),(hkv _ (aV hi)).2⟩;rw[IW];unfold afP sX;simp only[ax.eta,zL];rcases tU t.bf g1 with ⟨h,e⟩|⟨h,e⟩|⟨h,e⟩|⟨h,e⟩|⟨h,e⟩<;>rw[e]at g2 g3<;>dsimp only at g2 g3
 ·rcases h with h|h
  ·simp[h]
  ·have:=h24 h;have hl:=hV.1;simp[h];omega
 ·obtain⟨k1,k2,k3⟩:=K 0 (by omega);have m0:=qw (vals:=vals) (show 0<t.aq.length by omega);have w:i64.wrap ((0:Int)-dY vals t.aq[0]!)= -dY vals t.aq[0]! :=by rw[aG];omega
  have i0:(0:Int)<=0/\(0:Int)<(t.aq.length:Int):=by omega
  rcases h with h|h
  ·simp only[Z0,h,Int.reduceEq,fW,cX,bC,bz,i0,bZ,k1,w,m0,reduceIte,dZ]
  ·simp only[h,Int.reduceEq,fW,cX,bC,bz,i0,bZ,k1,m0,reduceIte,dZ,Q3]
 ·obtain⟨k1,k2,k3⟩:=K 0 (by omega);obtain⟨l1,l2,l3⟩:=K 1 (by omega);have m0:=qw (vals:=vals) (show 0<t.aq.length by omega);have m1:=qw (vals:=vals) (show 1<t.aq.length by omega);have i0:(0:Int)<=0/\(0:Int)<(t.aq.length:Int):=by omega
  have i1:(0:Int)<=1/\(1:Int)<(t.aq.length:Int):=by omega
  have hb:=agD (o:=t.bf) ⟨k2,k3⟩ ⟨l2,l3⟩;have n0:t.bf≠0:=by omega
  have n1:t.bf≠24:=by omega
  have n2:t.bf≠6:=by omega
  have n3:t.bf≠7:=by omega
  have n4:t.bf≠23:=by omega
  have n5:t.bf≠25:=by omega
  simp only[n0,n1,n2,n3,n4,n5,fW,bz,i0,i1,bZ,dA,k1,l1,hb,m0,m1,dZ]
 ·obtain⟨k1,k2,k3⟩:=K 0 (by omega);obtain⟨l1,l2,l3⟩:=K 1 (by omega);obtain⟨p1,p2,p3⟩:=K 2 (by omega);have m0:=qw (vals:=vals) (show 0<t.aq.length by omega);have m1:=qw (vals:=vals) (show 1<t.aq.length by omega);have m2:=qw (vals:=vals) (show 2<t.aq.length by omega);have i0:(0:Int)<=0/\(0:Int)<(t.aq.length:Int):=by omega
  have i1:(0:Int)<=1/\(1:Int)<(t.aq.length:Int):=by omega
  have i2:(0:Int)<=2/\(2:Int)<(t.aq.length:Int):=by omega
  simp only[h,Int.reduceEq,fW,cX,bC,bz,i0,i1,i2,bZ,k1,l1,p1,m0,m1,m2,reduceIte,dZ];by_cases hz:dY vals t.aq[0]! =0
  ·simp only[hz,cX,bC,bz,dA,ne_eq,not_true]
  ·simp only[hz,fW,bC,bz,bZ,ne_eq,not_false_eq_true]
 ·obtain⟨k1,k2,k3⟩:=K 0 (by omega);have m0:=qw (vals:=vals) (show 0<t.aq.length by omega);have i0:(0:Int)<=0/\(0:Int)<(t.aq.length:Int):=by omega
  have w:i64.wrap ((t.aq.length:Int)-(2:Int))=(t.aq.length:Int)-(2:Int):=aG;have hh:0<=gJ (dY vals t.aq[0]!) 0 ((t.aq.length:Int)-(2:Int))/\gJ (dY vals t.aq[0]!) 0 ((t.aq.length:Int)-(2:Int))<=(t.aq.length:Int)-(2:Int):=by unfold gJ;grind
  have w2:i64.wrap ((1:Int)+gJ (dY vals t.aq[0]!) 0 ((t.aq.length:Int)-(2:Int)))=(1:Int)+gJ (dY vals t.aq[0]!) 0 ((t.aq.length:Int)-(2:Int)):=aG;simp only[h,Int.reduceEq,fW,cX,bC,bz,i0,bZ,k1,m0,reduceIte,dZ,GV,w,w2];generalize gJ (dY vals t.aq[0]!) 0 ((t.aq.length:Int)-(2:Int))=H at hh;obtain⟨q1,_,_⟩:=K (1+H).toNat (by omega);rw[gG,qw (by omega)];simp only[q1];rfl
def Qc{vars:aa aS}(hv:bY vars){vals:aa Int}(hV:Fz vars vals)(inp:Bool):∀(n:Nat) (t:ax),zk t<n->cZ vars inp t=G->(eH vars t).isSome=G->MW n vals t=Q (dY vals t)
 |0,_,h,_,_=>by omega
 |n+1,t,h,hf,hs=>aeH (MW n) hv hV t hf hs (λk hk=>Qc hv hV inp n k (by have:=ax.dU hk;omega) (iI hf hk) (aoK hv hV hf hs k hk).1)
def Cs{vars:aa aS}(hv:bY vars){vals:aa Int}(hV:Fz vars vals)(inp:Bool)(t:ax)(hc:eM vars inp t=0):vV vals t=Q (dY vals t)/\ -1048576<=dY vals t/\dY vals t<=1048576:=by
 unfold eM at hc;cases hf:cZ vars inp t with
 |false=>rw[hf]at hc;simp at hc
 |true=>
  rw[hf]at hc;cases hs:(eH vars t).isSome with
  |false=>rw[hs]at hc;simp at hc
  |true=>
   refine⟨eT (zk t+1) λn hn=>Qc hv hV inp n t (by omega) hf hs,?_⟩;obtain⟨s,e⟩:=vh.1 hs;have h3:=Hq hv hV (zk t+1) t (by omega) hf s e;have h4:sj s=G:=by
    rw[kQ]at e;cases ha:jG (t.aq.map (eH vars))with
    |none=>rw[ha]at e;cases e
    |some r=>
     rw[ha]at e;dsimp only at e;split at e
     ·cases e;assumption
     ·cases e
   unfold sj at h4;unfold Ay at h3;simp at h4;omega
def FK(M:aQ->aa ay->Bool->ah lY)(f:aQ)(l A B:aa ay)(top:Bool)(n i a b:Int)(ha:M f A I=Q a)(hb:M f B I=Q b):
  vS M ⟨l,top,l,n,i,[A,B],2,0,f⟩=Q ⟨l,top,l,n,i,[A,B],2,if a≠0 then 0 else if b≠0 then 1 else 2,f⟩:=by
 have w0:i64.wrap 1=1:=rfl;have w1:i64.wrap 2=2:=rfl;have r1:sO M ⟨l,top,l,n,i,[A,B],2,0,f⟩=if a≠0 then Q V else Q (Q ⟨l,top,l,n,i,[A,B],2,1,f⟩):=by
  unfold sO;by_cases h:a=0<;>simp[ha,h,w0]
 have r2:sO M ⟨l,top,l,n,i,[A,B],2,1,f⟩=if b≠0 then Q V else Q (Q ⟨l,top,l,n,i,[A,B],2,2,f⟩):=by
  unfold sO;by_cases h:b=0<;>simp[hb,h,w1]
 have r3:sO M ⟨l,top,l,n,i,[A,B],2,2,f⟩=Q V:=by
  unfold sO;simp
 unfold vS;by_cases h1:a≠0
 ·rw[bt h1]at r1 ⊢;exact cF λr=>by rw[r1];simp
 ·rw[bF h1]at r1 ⊢;rw[bU r1];by_cases h2:b≠0
  ·rw[bt h2]at r2 ⊢;exact cF λr=>by rw[r2];simp
  ·rw[bF h2]at r2 ⊢;rw[bU r2];exact cF λr=>by rw[r3];simp
def QX(n i:Nat)(hn:n<=1000000):O ((i:Int)=i64.wrap ((n:Int)-1))=O (i+1=n):=by
 rw[aG];apply decide_eq_decide.2;omega
def VJ(M:aQ->aa ay->Bool->ah lY)(f:aQ)(hv:bY f.ai)(l:aa ay)(hl:l.length<=1000000)(top:Bool)(hM:∀s∈l,M f s.aD I=Q (b9 f I s.aD)/\M f s.aJ I=Q (b9 f I s.aJ))(i:Nat)(hi:i<l.length):
  (U6 f top l.length i l[i]! =0->vM M ⟨l,top,l,(l.length:Int),(i:Int),f⟩=Q (Q ⟨l,top,l,(l.length:Int),((i+1:Nat):Int),f⟩))/\(U6 f top l.length i l[i]!≠0->vM M ⟨l,top,l,(l.length:Int),(i:Int),f⟩=Q V):=by
 have hw:=gH hi hl;obtain⟨k1,k2⟩:=hM _ (aV hi);have hin:=FK M f l l[i]!.aD l[i]!.aJ top (l.length:Int) (i:Int) _ _ k1 k2;have hlen:(([l[i]!.aD,l[i]!.aJ]:aa (aa ay)).length:Int)=2:=rfl;have hi1:(i:Int)<(l.length:Int):=by omega
 have hi0:(0:Int)<=(i:Int):=by omega
 unfold vM U6 oR;dsimp only;simp only[zi,ax.eta,ay.eta,Sq,QX l.length i hl,Cb f.ai hv,hlen,hin,hw,hi1,hi0,cX,bC,dZ,bZ];have e1':(bif top then some (bif dI f l[i]! (O (i+1=l.length))then false else true)else some (bif dI f l[i]! false then false else true))=some (bif dI f l[i]! (top&&O (i+1=l.length))then false else true):=by cases top<;>rfl
 rw[e1'];have hS:dI f l[i]! (top&&O (i+1=l.length))=G->MY l[i]! =Q (sP l[i]!):=λh=>QT _ (jo h).1;revert hS;generalize dI f l[i]! (top&&O (i+1=l.length))=S;intro hS;generalize l[i]!.aD=A at k1 hin ⊢;generalize l[i]!.aJ=B at k2 hin ⊢;cases S with
 |false=>simp
 |true=>
  rw[hS rfl];generalize sP l[i]! =N;cases N with
  |false=>simp
  |true=>
   generalize eM f.ai I l[i]!.az=T;generalize b9 f I A=a at*;generalize b9 f I B=b at*;by_cases hT:T=0
   ·by_cases ha:a=0
    ·by_cases hb:b=0
     ·simp[hT,ha,hb,hw]
     ·simp[hT,ha,hb,k2]
    ·simp[hT,ha,k1]
   ·simp[hT]
def ado(M:aQ->aa ay->Bool->ah lY)(f:aQ)(hv:bY f.ai)(l:aa ay)(hl:l.length<=1000000)(top:Bool)(hM:∀s∈l,M f s.aD I=Q (b9 f I s.aD)/\M f s.aJ I=Q (b9 f I s.aJ)):ae8 M f l top=Q (b9 f top l):=by
 obtain⟨i,e1,hc⟩:=sy (cL:=vM M) l (λi=>⟨l,top,l,(l.length:Int),(i:Int),f⟩) (U6 f top l.length) (λi hi=>VJ M f hv l hl top hM i hi) (by unfold vM;simp);have e1':JK M ⟨l,top,l,(l.length:Int),0,f⟩=Q ⟨l,top,l,(l.length:Int),(i:Int),f⟩:=e1;rw[qB f top l.length l 0 (by omega)]at hc;unfold ae8;rw[e1'];dsimp only;rcases hc with ⟨rfl,hc⟩|⟨hi,h0,hc⟩
 ·rw[hc];simp
 ·rw[hc];obtain⟨k1,k2⟩:=hM _ (aV hi);have hin:=FK M f l l[i]!.aD l[i]!.aJ top (l.length:Int) (i:Int) _ _ k1 k2;have hlen:(([l[i]!.aD,l[i]!.aJ]:aa (aa ay)).length:Int)=2:=rfl;have hi1:(i:Int)<(l.length:Int):=by omega
  have hi0:(0:Int)<=(i:Int):=by omega
  revert h0;unfold U6 oR;simp only[zi,ax.eta,ay.eta,Sq,QX l.length i hl,Cb f.ai hv,hlen,hin,hi1,hi0,cX,bC,dZ,bZ];have e1':(bif top then some (bif dI f l[i]! (O (i+1=l.length))then false else true)else some (bif dI f l[i]! false then false else true))=some (bif dI f l[i]! (top&&O (i+1=l.length))then false else true):=by cases top<;>rfl
  rw[e1'];have hS:dI f l[i]! (top&&O (i+1=l.length))=G->MY l[i]! =Q (sP l[i]!):=λh=>QT _ (jo h).1;revert hS;generalize dI f l[i]! (top&&O (i+1=l.length))=S;intro hS;generalize l[i]!.aD=A at k1 hin ⊢;generalize l[i]!.aJ=B at k2 hin ⊢;cases S with
  |false=>simp
  |true=>
   rw[hS rfl];generalize sP l[i]! =N;cases N with
   |false=>simp
   |true=>
    generalize eM f.ai I l[i]!.az=T;generalize b9 f I A=a at*;generalize b9 f I B=b at*;by_cases hT:T=0
    ·by_cases ha:a=0
     ·by_cases hb:b=0
      ·simp[hT,ha,hb]
      ·simp[hT,ha,hb,k2]
     ·simp[hT,ha,k1]
    ·simp[hT]
def JG(f:aQ)(hv:bY f.ai):∀(n:Nat) (l:aa ay) (top:Bool),zk l<n->fP l<=1000->N5 n f l top=Q (b9 f top l)
 |0,_,_,h,_=>by omega
 |n+1,l,top,h,h2=>ado (N5 n) f hv l (by have:=jW l;omega) top (λs hs=>⟨JG f hv n _ _ (by have:=aX hs;omega) (by have:=gy hs;omega),JG f hv n _ _ (by have:=aX hs;omega) (by have:=gy hs;omega)⟩)
def aeC(f:aQ)(hv:bY f.ai)(l:aa ay)(top:Bool)(h:fP l<=1000):afj f l top=Q (b9 f top l):=eT (zk l+1) λn hn=>JG f hv n l top (by omega) h
def SO{f:aQ}{s:ay}{last:Bool}(h:dI f s last=G)(c:Int)(hc:c=if s.bN=2 then 67108864 else 10000):
  ((bif O (s.aN<0)then Q G else bif O (c<s.aN)then Q G else bif O (s.fN<0)then Q G else bif O (s.bN=4)then Q (O (4096<s.fN))else Q I):ah Bool)=Q (!(O (0<=s.aN/\s.aN<=c)&&(if s.bN=4 then O (0<=s.fN/\s.fN<=4096)else G))):=by
 obtain⟨b1,b2,b3,b4,b5⟩:=jo h;have hd:∀(p:Prop) [Decidable p],(!decide p)=O (¬p):=λp _=>by by_cases hp:p<;>simp[hp]
 by_cases h1:s.aN<0
 ·simp[h1,show ¬0<=s.aN by omega]
 by_cases h2:c<s.aN
 ·simp[h1,h2,show ¬s.aN<=c by omega]
 by_cases h3:s.fN<0
 ·have h4:s.bN=4:=by
   by_cases h4:s.bN=4
   ·exact h4
   ·have:=b5 h4;omega
  simp[h1,h2,h3,h4,show ¬0<=s.fN by omega]
 by_cases h4:s.bN=4
 ·simp[h1,h2,h3,h4,show 0<=s.aN by omega,show s.aN<=c by omega,show 0<=s.fN by omega];by_cases h5:4096<s.fN
  ·simp[h5]
  ·simp[h5];omega
 ·simp[h1,h2,h3,h4,show 0<=s.aN by omega,show s.aN<=c by omega]
def SE{f:aQ}{s:ay}{last:Bool}(h:dI f s last=G):
  ((bif O (0<(s.aK.length:Int))then if(0:Int)<=i64.wrap ((s.aK.length:Int)-(1:Int))/\i64.wrap ((s.aK.length:Int)-(1:Int))<(s.aK.length:Int)then Q (O (67108864<s.aK[(i64.wrap ((s.aK.length:Int)-1)).toNat]!))else V else Q I):ah Bool)=Q (!(if s.bN=6 then O (s.aK[s.aK.length-1]!<=67108864)else G)):=by
 obtain⟨b1,b2,b3,b4,b5⟩:=jo h;by_cases h6:s.bN=6
 ·obtain⟨b1,b2⟩:=b1 h6;have hw:i64.wrap ((s.aK.length:Int)-1)=(s.aK.length:Int)-1:=aG;have hw2:((s.aK.length:Int)-1).toNat=s.aK.length-1:=by omega
  rw[hw,hw2,rZ,bC,bt ⟨by omega,by omega⟩,bt h6];generalize s.aK[s.aK.length-1]! =B;by_cases h:67108864<B
  ·simp[h]
  ·simp[h];omega
 ·rw[bP (by have:=b2 h6;omega),bF h6];rfl
def ack(M:aQ->aa ay->Bool->ah nD)(f:aQ)(hv:bY f.ai)(l:aa ay)(hl:l.length<=1000000)(hB:∀s∈l,s.aK.length<=1000000)(top:Bool)(hM:∀s∈l,M f s.aD I=Q (b9 f I s.aD)/\M f s.aJ I=Q (b9 f I s.aJ))(i:Nat)(hi:i<l.length):
  (U6 f top l.length i l[i]! =0->Bi M ⟨l,top,(i:Int),f⟩=Q (Q ⟨l,top,((i+1:Nat):Int),f⟩))/\(U6 f top l.length i l[i]!≠0->Bi M ⟨l,top,(i:Int),f⟩=Q V):=by
 have hw:=gH hi hl;obtain⟨k1,k2⟩:=hM _ (aV hi);have hb:=hB _ (aV hi);have hi1:(i:Int)<(l.length:Int):=by omega
 have hi0:(0:Int)<=(i:Int):=by omega
 unfold Bi U6 oR;dsimp only;simp only[zi,ax.eta,ay.eta,PY f l[i]! _ hb,QX l.length i hl,CC f.ai hv,hw,hi1,hi0,cX,bC,dZ,bZ];have e1':(bif top then some (bif dI f l[i]! (O (i+1=l.length))then false else true)else some (bif dI f l[i]! false then false else true))=some (bif dI f l[i]! (top&&O (i+1=l.length))then false else true):=by cases top<;>rfl
 rw[e1'];cases hS:dI f l[i]! (top&&O (i+1=l.length))with
 |false=>simp
 |true=>
  have hn:=SO hS;rw[SE hS];unfold sP;generalize (if l[i]!.bN=6 then O (l[i]!.aK[l[i]!.aK.length-1]!<=67108864)else G)=B6;by_cases h2:l[i]!.bN=2
  ·rw[bt h2]at hn ⊢;rw[bQ h2,hn 67108864 rfl];generalize (O (0<=l[i]!.aN/\l[i]!.aN<=67108864)&&(if l[i]!.bN=4 then O (0<=l[i]!.fN/\l[i]!.fN<=4096)else G))=N;generalize eM f.ai I l[i]!.az=T;generalize l[i]!.aD=A at k1 ⊢;generalize l[i]!.aJ=B at k2 ⊢;generalize b9 f I A=a at*;generalize b9 f I B=b at*;cases N with
   |false=>simp
   |true=>
    cases B6 with
    |false=>simp
    |true=>
     by_cases hT:T=0
     ·by_cases ha:a=0
      ·by_cases hb:b=0
       ·simp[hT,ha,hb,k1,k2]
       ·simp[hT,ha,hb,k1,k2]
      ·simp[hT,ha,k1]
     ·simp[hT]
  ·rw[bF h2]at hn ⊢;rw[bP h2,hn 10000 rfl];generalize (O (0<=l[i]!.aN/\l[i]!.aN<=10000)&&(if l[i]!.bN=4 then O (0<=l[i]!.fN/\l[i]!.fN<=4096)else G))=N;generalize eM f.ai I l[i]!.az=T;generalize l[i]!.aD=A at k1 ⊢;generalize l[i]!.aJ=B at k2 ⊢;generalize b9 f I A=a at*;generalize b9 f I B=b at*;cases N with
   |false=>simp
   |true=>
    cases B6 with
    |false=>simp
    |true=>
     by_cases hT:T=0
     ·by_cases ha:a=0
      ·by_cases hb:b=0
       ·simp[hT,ha,hb,k1,k2]
       ·simp[hT,ha,hb,k1,k2]
      ·simp[hT,ha,k1]
     ·simp[hT]
def aeu(M:aQ->aa ay->Bool->ah nD)(f:aQ)(hv:bY f.ai)(l:aa ay)(hl:l.length<=1000000)(hB:∀s∈l,s.aK.length<=1000000)(top:Bool)(hM:∀s∈l,M f s.aD I=Q (b9 f I s.aD)/\M f s.aJ I=Q (b9 f I s.aJ)):acz M f l top=Q (b9 f top l):=by
 obtain⟨i,e1,hc⟩:=sy (cL:=Bi M) l (λi=>⟨l,top,(i:Int),f⟩) (U6 f top l.length) (λi hi=>ack M f hv l hl hB top hM i hi) (by unfold Bi;simp);have e1':IY M ⟨l,top,0,f⟩=Q ⟨l,top,(i:Int),f⟩:=e1;rw[qB f top l.length l 0 (by omega)]at hc;unfold acz;rw[e1'];dsimp only;rcases hc with ⟨rfl,hc⟩|⟨hi,h0,hc⟩
 ·rw[hc];simp
 ·rw[hc];obtain⟨k1,k2⟩:=hM _ (aV hi);have hb:=hB _ (aV hi);have hi1:(i:Int)<(l.length:Int):=by omega
  have hi0:(0:Int)<=(i:Int):=by omega
  revert h0;unfold U6 oR;simp only[zi,ax.eta,ay.eta,PY f l[i]! _ hb,QX l.length i hl,CC f.ai hv,hi1,hi0,cX,bC,dZ,bZ];have e1':(bif top then some (bif dI f l[i]! (O (i+1=l.length))then false else true)else some (bif dI f l[i]! false then false else true))=some (bif dI f l[i]! (top&&O (i+1=l.length))then false else true):=by cases top<;>rfl
  rw[e1'];cases hS:dI f l[i]! (top&&O (i+1=l.length))with
  |false=>simp
  |true=>
   have hn:=SO hS;rw[SE hS];unfold sP;generalize (if l[i]!.bN=6 then O (l[i]!.aK[l[i]!.aK.length-1]!<=67108864)else G)=B6;by_cases h2:l[i]!.bN=2
   ·rw[bt h2]at hn ⊢;rw[bQ h2,hn 67108864 rfl];generalize (O (0<=l[i]!.aN/\l[i]!.aN<=67108864)&&(if l[i]!.bN=4 then O (0<=l[i]!.fN/\l[i]!.fN<=4096)else G))=N;generalize eM f.ai I l[i]!.az=T;generalize l[i]!.aD=A at k1 ⊢;generalize l[i]!.aJ=B at k2 ⊢;generalize b9 f I A=a at*;generalize b9 f I B=b at*;cases N with
    |false=>simp
    |true=>
     cases B6 with
     |false=>simp
     |true=>
      by_cases hT:T=0
      ·by_cases ha:a=0
       ·by_cases hb:b=0
        ·simp[hT,ha,hb,k1,k2]
        ·simp[hT,ha,hb,k1,k2]
       ·simp[hT,ha,k1]
      ·simp[hT]
   ·rw[bF h2]at hn ⊢;rw[bP h2,hn 10000 rfl];generalize (O (0<=l[i]!.aN/\l[i]!.aN<=10000)&&(if l[i]!.bN=4 then O (0<=l[i]!.fN/\l[i]!.fN<=4096)else G))=N;generalize eM f.ai I l[i]!.az=T;generalize l[i]!.aD=A at k1 ⊢;generalize l[i]!.aJ=B at k2 ⊢;generalize b9 f I A=a at*;generalize b9 f I B=b at*;cases N with
    |false=>simp
    |true=>
     cases B6 with
     |false=>simp
     |true=>
      by_cases hT:T=0
      ·by_cases ha:a=0
       ·by_cases hb:b=0
        ·simp[hT,ha,hb,k1,k2]
        ·simp[hT,ha,hb,k1,k2]
       ·simp[hT,ha,k1]
      ·simp[hT]
def Ij(f:aQ)(hv:bY f.ai):∀(n:Nat) (l:aa ay) (top:Bool),zk l<n->fP l<=1000->Og n f l top=Q (b9 f top l)
 |0,_,_,h,_=>by omega
 |n+1,l,top,h,h2=>aeu (Og n) f hv l (by have:=jW l;omega) (λs hs=>by have:=B4 hs;have:=ou s;omega) top (λs hs=>⟨Ij f hv n _ _ (by have:=aX hs;omega) (by have:=gy hs;omega),Ij f hv n _ _ (by have:=aX hs;omega) (by have:=gy hs;omega)⟩)
def abJ(f:aQ)(hv:bY f.ai)(l:aa ay)(top:Bool)(h:fP l<=1000):aa5 f l top=Q (b9 f top l):=eT (zk l+1) λn hn=>Ij f hv n l top (by omega) h
def YW(f:aQ)(hv:bY f.ai)(hl:f.ak.length<=1000000)(i:Nat)(hi:i<f.ak.length):
  (lq f i f.ak[i]! =0->A6 ⟨f.ak,(f.ak.length:Int),(i:Int),f⟩=Q (Q ⟨f.ak,(f.ak.length:Int),((i+1:Nat):Int),f⟩))/\(lq f i f.ak[i]!≠0->A6 ⟨f.ak,(f.ak.length:Int),(i:Int),f⟩=Q V):=by
 have hw:=gH hi hl;have h2:=SM (f.ak.take i) (by rw[z6];omega) f.ak[i]!;unfold A6 lq;dsimp only;simp only[zi,ax.eta,dz.eta,BZ,Ca,h2,Cb f.ai hv,hw];generalize je f.ak[i]!.fName=B;generalize ((f.ak.take i).any λw=>w.fName.toList==f.ak[i]!.fName.toList)=A;generalize gY f.ak[i]!.ag f.ak[i]!.af=C;generalize eM f.ai G f.ak[i]!.az=T;have hi1:(i:Int)<(f.ak.length:Int):=by omega
 have hi0:(0:Int)<=(i:Int):=by omega
 have hi2:(i:Int)<=(f.ak.length:Int):=by omega
 simp only[hi0,hi1,hi2,dZ,bZ,cX,bC];cases A<;>cases B<;>cases C<;>by_cases hT:T=0<;>simp[hT]
def adw(f:aQ)(hv:bY f.ai)(hl:f.ak.length<=1000000):afF f=Q (cG (lq f) f.ak 0):=by
 obtain⟨i,e1,hc⟩:=sy (cL:=A6) f.ak (λi=>⟨f.ak,(f.ak.length:Int),(i:Int),f⟩) (lq f) (λi hi=>YW f hv hl i hi) (by unfold A6;simp);have e1':Jm ⟨f.ak,(f.ak.length:Int),0,f⟩=Q ⟨f.ak,(f.ak.length:Int),(i:Int),f⟩:=e1;unfold afF;rw[e1'];dsimp only;rcases hc with ⟨rfl,hc⟩|⟨hi,h0,hc⟩
 ·rw[hc];simp
 ·rw[hc];have h2:=SM (f.ak.take i) (by rw[z6];omega) f.ak[i]!;revert h0;unfold lq;simp only[zi,ax.eta,dz.eta,BZ,Ca,h2,Cb f.ai hv];generalize je f.ak[i]!.fName=B;generalize ((f.ak.take i).any λw=>w.fName.toList==f.ak[i]!.fName.toList)=A;generalize gY f.ak[i]!.ag f.ak[i]!.af=C;generalize eM f.ai G f.ak[i]!.az=T;have hi1:(i:Int)<(f.ak.length:Int):=by omega
  have hi0:(0:Int)<=(i:Int):=by omega
  have hi2:(i:Int)<=(f.ak.length:Int):=by omega
  simp only[hi0,hi1,hi2,dZ,bZ,cX,bC];cases A<;>cases B<;>cases C<;>by_cases hT:T=0<;>simp[hT]
def adC(f:aQ)(hv:bY f.ai)(hl:f.ak.length<=1000000)(i:Nat)(hi:i<f.ak.length):
  (lq f i f.ak[i]! =0->Gy ⟨(i:Int),f⟩=Q (Q ⟨((i+1:Nat):Int),f⟩))/\(lq f i f.ak[i]!≠0->Gy ⟨(i:Int),f⟩=Q V):=by
 have hw:=gH hi hl;obtain⟨j,h2,h3⟩:=K7 f hl i (by omega) f.ak[i]!;unfold Gy lq;dsimp only;simp only[zi,ax.eta,dz.eta,Cq,Cm,h2,CC f.ai hv,hw];generalize je f.ak[i]!.fName=B;generalize ((f.ak.take i).any λw=>w.fName.toList==f.ak[i]!.fName.toList)=A at h3;generalize gY f.ak[i]!.ag f.ak[i]!.af=C;generalize eM f.ai G f.ak[i]!.az=T;have hi1:(i:Int)<(f.ak.length:Int):=by omega
 have hi0:(0:Int)<=(i:Int):=by omega
 simp only[hi0,hi1,dZ,bZ,cX,bC];rcases h3 with ⟨rfl,rfl⟩|⟨hj,h4,rfl⟩
 ·cases B<;>cases C<;>by_cases hT:T=0<;>simp[hT]
 ·have hj1:(j:Int)<(i:Int):=by omega
  have hj2:(j:Int)<(f.ak.length:Int):=by omega
  have hj0:(0:Int)<=(j:Int):=by omega
  simp only[hj0,hj1,hj2,h4,dZ,bZ,cX,bC];cases B<;>simp
def Wk(f:aQ)(hv:bY f.ai)(hl:f.ak.length<=1000000):∃i:Nat,Qn ⟨0,f⟩=Q ⟨(i:Int),f⟩/\((i=f.ak.length/\cG (lq f) f.ak 0=0)\/(i<f.ak.length/\lq f i f.ak[i]!≠0/\cG (lq f) f.ak 0=lq f i f.ak[i]!)):=
 sy (cL:=Gy) f.ak (λi=>⟨(i:Int),f⟩) (lq f) (λi hi=>adC f hv hl i hi) (by unfold Gy;simp)
def AE{f:aQ}{i:Nat}(hi:i<f.ak.length):jH ((f.ak.take i).map (·.az))+nT f.ak[i]!.az<=jH (f.ak.map (·.az)):=by
 have h:=CY (f.ak.map (·.az)) (i+1);rw[<-xR,bO hi,yo,Cz]at h;simpa [jH]using h
def acM(f:aQ)(h:fP f.bI+jH (f.ak.map (·.az))<=900)(hl:f.ak.length<=1000000):adA f=Q (qL f):=by
 unfold adA qL;by_cases h1:64<(f.ai.length:Int)
 ·simp[h1,show ¬f.ai.length<=64 by omega]
 by_cases h2:8<(f.ak.length:Int)
 ·simp[h1,h2,show ¬f.ak.length<=8 by omega]
 rw[bP h1,bP h2,bQ (show f.ai.length<=64 by omega),bQ (show f.ak.length<=8 by omega)];dsimp only[bz,bC];have hb:=BP f.bI;rw[agN f.bI (by omega)];obtain⟨i,b,e1,hI,hc⟩:=oB (cL:=Fe) f.ak.length (λi (b:Int)=>⟨b,(i:Int),f⟩) (λi b=>(0<=b/\b<=fP f.bI+jH ((f.ak.take i).map (·.az)))/\∀j,j<i->dT f.ak[j]!.az<=12) (λi _=>12<dT f.ak[i]!.az) (λi b hi hI=>by
  have hn:=AE hi;have hw:=gH hi hl;have k1:=GZ f.ak[i]!.az (by omega);have k2:=HV f.ak[i]!.az (by omega);have hi1:(i:Int)<(f.ak.length:Int):=by omega
  have hi0:(0:Int)<=(i:Int):=by omega
  by_cases hd:12<dT f.ak[i]!.az
  ·refine .inr ⟨?_,hd⟩;unfold Fe;dsimp only;simp only[zi,ax.eta,k1,k2,hi1,hi0,cX,bC,dZ,bZ,hd]
  ·refine .inl ⟨b+nT f.ak[i]!.az,?_,⟨by omega,?_⟩,λj hj=> ?_⟩
   ·have hw2:i64.wrap (b+(nT f.ak[i]!.az:Int))=b+nT f.ak[i]!.az:=aG;unfold Fe;dsimp only;simp only[zi,ax.eta,k1,k2,hi1,hi0,cX,bC,dZ,bZ,hd,fW,bz,hw,hw2]
   ·rw[bO hi,yo,Cz];simp only[yl,xw,qx,show jH []=0 from rfl];omega
   ·rcases y8.1 hj with h|h
    ·exact hI.2 j h
    ·subst h;omega) (λb _=>by unfold Fe;simp) (b:=gN f.bI) ⟨⟨by omega,by simp only[xT,xw,show jH []=0 from rfl];omega⟩,λj hj=>cR hj (by omega)⟩
 have e1':Hz ⟨gN f.bI,0,f⟩=Q ⟨b,(i:Int),f⟩:=e1;dsimp only;rw[e1'];dsimp only;rcases hc with rfl|⟨hi,hd⟩
 ·rw[bP (show ¬((f.ak.length:Int)<(f.ak.length:Int))by omega),bz];have ha:f.ak.all (λh=>O (dT h.az<=12))=G:=El λj hj=>by simpa using hI.2 j hj
  have hn:=hI.1.2;rw[zR]at hn;rw[ha,bQ (show b<=1024 by omega),bC,agk f.bI (by omega),Z8 f.bI (by omega)];by_cases h5:jR f.bI<=12
  ·cases fI f.bI<;>simp[h5]
  ·simp[h5]
 ·have hn:=AE hi;have k1:=GZ f.ak[i]!.az (by omega);have k2:=HV f.ak[i]!.az (by omega);have hi1:(i:Int)<(f.ak.length:Int):=by omega
  have hi0:(0:Int)<=(i:Int):=by omega
  have ha:f.ak.all (λh=>O (dT h.az<=12))=I:=tR hi (by simpa using hd);simp only[zi,ax.eta,k1,k2,hi1,hi0,cX,bC,dZ,bZ,hd,ha,Bool.and_false,Bool.false_and]
def aaA(M:aa ay->Int->aW->ah sq)(l:aa ay)(hM:∀s∈l,∀(d:Int) (b:aW),0<=d->d<=13->0<=b.bB->(b.bB+fP s.aD<=1000->M s.aD d b=Q (ny d s.aD b))/\(b.bB+fP s.aJ<=1000->M s.aJ d b=Q (ny d s.aJ b)))(d:Int)(b:aW)(h0:0<=d)(hd:d<=13)(h1:0<=b.bB)(h2:b.bB+fP l<=1000):acQ M l d b=Q (ny d l b):=by
 have hL:=jW l;have hw1:i64.wrap (d+1)=d+1:=aG;have hgo:∀(l:aa ay) (i:Nat) (b:aW),Ob (λ_ (b:aW) (s:ay)=>if fk (dy d b)=G then(.inr (dy d b):aW ⊕ aW)else .inl (ny (d+1) s.aJ (ny (d+1) s.aD (sG s.az 1 (dy d b))))) id id l i b=ny d l b:=by
  intro l;induction l with
  |nil=>intro i b;rw[ny];rfl
  |cons s l ih=>
   intro i b;rw[ny];by_cases ho:fk (dy d b)=G
   ·rw[bt ho,BV (r:=dy d b) (by rw[bt ho])];rfl
   ·rw[bF ho,u5 (b':=ny (d+1) s.aJ (ny (d+1) s.aD (sG s.az 1 (dy d b)))) (by rw[bF ho])];exact ih (i+1) _
 have hm:∀(b:aW) (x:Bool),-1000000<=b.bB->b.bB<=1000000->x=(b.fL||O (12<d))->jA ⟨i64.wrap (b.bB+1),x⟩=(fk (dy d b),dy d b):=λb x b1 b2 hx=>by
  rw[u7,aG,hx];rfl
 have hs:∀(i:Nat) (b:aW),i<l.length->0<=b.bB->b.bB+nS l[i]!<=1000->fk (dy d b)=I->d<=12/\Fv l[i]!.az 1 (dy d b)=Q (sG l[i]!.az 1 (dy d b))/\M l[i]!.aD (d+1) (sG l[i]!.az 1 (dy d b))=Q (ny (d+1) l[i]!.aD (sG l[i]!.az 1 (dy d b)))/\M l[i]!.aJ (d+1) (ny (d+1) l[i]!.aD (sG l[i]!.az 1 (dy d b)))=Q (ny (d+1) l[i]!.aJ (ny (d+1) l[i]!.aD (sG l[i]!.az 1 (dy d b))))/\0<=(ny (d+1) l[i]!.aJ (ny (d+1) l[i]!.aD (sG l[i]!.az 1 (dy d b)))).bB/\(ny (d+1) l[i]!.aJ (ny (d+1) l[i]!.aD (sG l[i]!.az 1 (dy d b)))).bB<=b.bB+nS l[i]! :=λi b hi b1 b2 ho=>by
  have hd2:d<=12:=by unfold fk dy at ho;grind
  have hN:=ou l[i]!;have hp:(dy d b).bB=b.bB+1:=rfl;obtain⟨a1,a2,a3⟩:=Jw l[i]!.az 1 (dy d b) (by omega) (by omega) (by omega);obtain⟨c1,c2,c3⟩:=Oj (d+1) l[i]!.aD (sG l[i]!.az 1 (dy d b)) (by omega) (by omega) (by omega) (by omega);obtain⟨g1,g2,g3⟩:=Oj (d+1) l[i]!.aJ (ny (d+1) l[i]!.aD (sG l[i]!.az 1 (dy d b))) (by omega) (by omega) (by omega) (by omega);exact⟨hd2,Sz _ 1 _ (by omega) (by omega) (by omega) (by omega),(hM _ (aV hi) (d+1) _ (by omega) (by omega) (by omega)).1 (by omega),(hM _ (aV hi) (d+1) _ (by omega) (by omega) (by omega)).2 (by omega),by omega,by omega⟩
 obtain⟨i,v,e1,hI,hc⟩:=YL (cL:=CE M) l (λi (b:aW)=>⟨d,l,(l.length:Int),(i:Int),b⟩) (λ_ (b:aW) (s:ay)=>if fk (dy d b)=G then(.inr (dy d b):aW ⊕ aW)else .inl (ny (d+1) s.aJ (ny (d+1) s.aD (sG s.az 1 (dy d b))))) id id (λi x=>0<=x.bB/\x.bB<=b.bB+fP (l.take i)) (λi x hi hx=>by
   have hn:=Da hi;have hw:=gH hi (by omega);have hi1:(i:Int)<(l.length:Int):=by omega
   have hi0:(0:Int)<=(i:Int):=by omega
   have hmx:=hm x;cases ho:fk (dy d x)with
   |true=>
    refine⟨λb' hb'=>by simp at hb',λr hr=> ?_⟩;unfold CE;dsimp only;simp only[zi,hi1,hi0,cX,bC,dZ,bZ];cases hb:x.fL with
    |true=>rw[hmx G (by omega) (by omega) (by rw[hb];rfl),ho];rfl
    |false=>rw[hmx (O (12<d)) (by omega) (by omega) (by rw[hb];rfl),ho];rfl
   |false=>
    obtain⟨q0,q1,q2,q3,q4,q5⟩:=hs i x hi hx.1 (by omega) ho;refine⟨λb' hb'=> ?_,λr hr=>by simp at hr⟩;have hb':ny (d+1) l[i]!.aJ (ny (d+1) l[i]!.aD (sG l[i]!.az 1 (dy d x)))=b':=by simpa using hb'
    subst hb';refine⟨?_,⟨q4,by rw[bO hi,KC];omega⟩⟩;unfold CE;dsimp only;simp only[zi,hi1,hi0,cX,bC,dZ,bZ];cases hb:x.fL with
    |true=>rw[hmx G (by omega) (by omega) (by rw[hb];rfl),ho];simp only[ax.eta,q1,q2,q3,hw1,hw,bC,bz]
    |false=>rw[hmx (O (12<d)) (by omega) (by omega) (by rw[hb];rfl),ho];simp only[ax.eta,q1,q2,q3,hw1,hw,bC,bz]) (λx _=>by unfold CE;simp) (b:=b) ⟨h1,by simp[fP]⟩
 have e1':Iq M ⟨d,l,(l.length:Int),0,b⟩=Q ⟨d,l,(l.length:Int),(i:Int),v⟩:=e1;rw[hgo]at hc;unfold acQ;rw[e1'];dsimp only;rcases hc with ⟨rfl,hc⟩|⟨hi,r,hr,hc⟩
 ·rw[hc,fO];rfl
 ·have hn:=Da hi;have hi1:(i:Int)<(l.length:Int):=by omega
  have hi0:(0:Int)<=(i:Int):=by omega
  have ho:fk (dy d v)=G:=by
   by_cases ho:fk (dy d v)=G
   ·exact ho
   ·rw[bF ho]at hr;cases hr
  rw[bt ho]at hr;cases hr;rw[hc];have hmx:=hm v;simp only[zi,hi1,hi0,cX,bC,dZ,bZ];cases hb:v.fL with
  |true=>rw[hmx G (by omega) (by omega) (by rw[hb];rfl),ho];rfl
  |false=>rw[hmx (O (12<d)) (by omega) (by omega) (by rw[hb];rfl),ho];rfl
def Jn:∀(n:Nat) (l:aa ay) (d:Int) (b:aW),zk l<n->0<=d->d<=13->0<=b.bB->b.bB+fP l<=1000->OU n l d b=Q (ny d l b)
 |0,_,_,_,h,_,_,_,_=>by omega
 |n+1,l,d,b,h,h0,hd,h1,h2=>aaA (OU n) l (λs hs d b a1 a2 a3=>⟨λa4=>Jn n _ d b (by have:=aX hs;omega) a1 a2 a3 a4,λa4=>Jn n _ d b (by have:=aX hs;omega) a1 a2 a3 a4⟩) d b h0 hd h1 h2
def ad9(l:aa ay)(d:Int)(b:aW)(h0:0<=d)(hd:d<=13)(h1:0<=b.bB)(h2:b.bB+fP l<=1000):Zi l d b=Q (ny d l b):=eT (zk l+1) λn hn=>Jn n l d b (by omega) h0 hd h1 h2
def abC(f:aQ)(h:fP f.bI+jH (f.ak.map (·.az))<=900)(hl:f.ak.length<=1000000):∃r q,Zi f.bI 1 ⟨0,I⟩=Q r/\DM ⟨f.ak,(f.ak.length:Int),0,f,r⟩=Q ⟨f.ak,(f.ak.length:Int),(f.ak.length:Int),f,q⟩/\fk q= !(f.ak.all (λh=>O (dT h.az<=12))&&O (jR f.bI<=12)&& !fI f.bI):=by
 obtain⟨p1,p2,p3⟩:=Oj 1 f.bI ⟨0,I⟩ (by omega) (by omega) (zm 0) (by show (0:Int)+_<=_;omega);have p2:0<=(ny 1 f.bI ⟨0,I⟩).bB:=p2;have p3:(ny 1 f.bI ⟨0,I⟩).bB<=0+fP f.bI:=p3;refine⟨ny 1 f.bI ⟨0,I⟩,?_⟩;have p4:=ad9 f.bI 1 ⟨0,I⟩ (by omega) (by omega) (zm 0) (by show (0:Int)+_<=_;omega);generalize ny 1 f.bI ⟨0,I⟩=r at*;obtain⟨q,e1,hI⟩:=dD (cL:=EH) f.ak.length (λi (q:aW)=>⟨f.ak,(f.ak.length:Int),(i:Int),f,q⟩) (λi q=>q.fL=(r.fL||(f.ak.take i).any λh=>O (12<dT h.az))/\0<=q.bB/\q.bB<=r.bB+jH ((f.ak.take i).map (·.az))) (λi q hi hI=>by
  have hn:=AE hi;have hw:=gH hi hl;have hi1:(i:Int)<(f.ak.length:Int):=by omega
  have hi0:(0:Int)<=(i:Int):=by omega
  have hn2:jH ((f.ak.take (i+1)).map (·.az))=jH ((f.ak.take i).map (·.az))+nT f.ak[i]!.az:=by
   rw[bO hi,yo,Cz];simp[jH]
  have ha:((f.ak.take (i+1)).any λh=>O (12<dT h.az))=(((f.ak.take i).any λh=>O (12<dT h.az))||O (12<dT f.ak[i]!.az)):=by
   rw[bO hi,List.any_append,List.any_cons,List.any_nil,Bool.or_false]
  rw[ha,hn2];obtain⟨q1,q2,q3⟩:=hI;cases ho:fk q with
  |true=>
   refine⟨q,?_,?_,q2,by omega⟩
   ·unfold EH;dsimp only;simp only[zi,hi1,hi0,cX,bC,bz,dZ,bZ,u7,ho,hw]
   ·unfold fk at ho;rw[bP (show ¬1024<q.bB by omega),Bool.or_false]at ho;rw[<-Bool.or_assoc,<-q1,ho];rfl
  |false=>
   obtain⟨c1,c2,c3⟩:=Jw f.ak[i]!.az 1 q (by omega) q2 (by omega);have k:=Sz f.ak[i]!.az 1 q (by omega) (by omega) q2 (by omega);refine⟨sG f.ak[i]!.az 1 q,?_,?_,by omega,by omega⟩
   ·unfold EH;dsimp only;simp only[zi,ax.eta,hi1,hi0,cX,bC,bz,dZ,bZ,u7,ho,hw,k]
   ·rw[c1,q1,Bool.or_assoc];rw[show O (12<1-1+dT f.ak[i]!.az)=O (12<dT f.ak[i]!.az)from decide_eq_decide.2 (by omega)]) (λq _=>by unfold EH;simp) (b:=r) ⟨by simp,p2,by simp[jH]⟩
 have e1':DM ⟨f.ak,(f.ak.length:Int),0,f,r⟩=Q ⟨f.ak,(f.ak.length:Int),(f.ak.length:Int),f,q⟩:=e1;refine⟨q,p4,e1',?_⟩;rw[zR]at hI;obtain⟨q1,q2,q3⟩:=hI;unfold fk;rw[bP (show ¬1024<q.bB by omega),Bool.or_false,q1,p1];have e2:(f.ak.any λh=>O (12<dT h.az))= !(f.ak.all λh=>O (dT h.az<=12)):=by
  rw[List.not_all_eq_any_not]
  congr 1
  funext h
  by_cases hd:dT h.az<=12
  ·simp[hd]
  ·simp[hd];omega
 have e3:O (12<1-1+jR f.bI)= !O (jR f.bI<=12):=by
  by_cases hd:jR f.bI<=12
  ·simp[hd]
  ·simp[hd];omega
 rw[e2,e3];generalize (f.ak.all λh=>O (dT h.az<=12))=x;generalize O (jR f.bI<=12)=y;generalize fI f.bI=z;cases x<;>cases y<;>cases z<;>rfl
def Av:aa ay->Prop
 |[]=>True
 |s::l=>(0<=s.aN/\s.aN<=67108864)/\(s.bN=4->0<=s.fN/\s.fN<=4096)/\(s.bN≠3->s.bN≠4->s.aD=[])/\(s.bN≠3->s.aJ=[])/\Av s.aD/\Av s.aJ/\Av l
termination_by l=>zk l
decreasing_by
 ·exact(aX (zo ..)).1
 ·exact(aX (zo ..)).2
 ·exact dc _ _
def akT{s:ay}(h:sP s=G):(0<=s.aN/\s.aN<=67108864)/\(s.bN=4->0<=s.fN/\s.fN<=4096):=by
 unfold sP at h;simp only[zn,decide_eq_true_eq]at h;grind
def Aj(f:aQ):∀(n:Nat) (l:aa ay) (top:Bool),zk l<n->b9 f top l=0->Av l
 |0,_,_,h,_=>by omega
 |n+1,[],top,h,hc=>by rw[Av];trivial
 |n+1,s::l,top,h,hc=>by
  rw[b9]at hc;have hz:=aX (l:=s::l) (zo ..);have hz2:=dc s l;by_cases h1:oR f (top&&l.isEmpty) s≠0
  ·rw[bt h1]at hc;exact cR hc h1
  rw[bF h1]at hc;by_cases h2:b9 f I s.aD≠0
  ·rw[bt h2]at hc;exact cR hc h2
  rw[bF h2]at hc;by_cases h3:b9 f I s.aJ≠0
  ·rw[bt h3]at hc;exact cR hc h3
  rw[bF h3]at hc;have q1:=Aj f n s.aD I (by omega) (by omega);have q2:=Aj f n s.aJ I (by omega) (by omega);have q3:=Aj f n l top (by omega) hc;have h1:oR f (top&&l.isEmpty) s=0:=by omega
  unfold oR at h1;cases hS:dI f s (top&&l.isEmpty)with
  |false=>rw[hS]at h1;simp at h1
  |true=>
   rw[hS]at h1;cases hN:sP s with
   |false=>rw[hN]at h1;simp at h1
   |true=>
    obtain⟨n1,n2⟩:=akT hN;obtain⟨b1,b2,b3,b4,b5⟩:=jo hS;rw[Av];exact⟨n1,n2,b3,b4,q1,q2,q3⟩
def Fp(s:ay)(a b:Int×Int×Int):Int×Int×Int:=
 if s.bN=1 then(1,1,s.aN)
 else if s.bN=3 then(1+max a.1 b.1,max a.2.1 b.2.1,s.aN+max a.2.2 b.2.2)
 else if s.bN=4 then(1+s.fN*(1+a.1),s.fN*a.2.1,s.fN*(s.aN+a.2.2))
 else(1,0,s.aN)
def ML(a b:Int×Int×Int):Int×Int×Int:=(a.1+b.1,a.2.1+b.2.1,a.2.2+b.2.2)
def uB(s:ay)(l:aa ay):cC (s::l)=ML (Fp s (cC s.aD) (cC s.aJ)) (cC l):=by
 rw[cC];unfold Fp ML;dsimp only;split
 ·rfl
 ·split
  ·rfl
  ·split
   ·rfl
   ·simp
def KG(l:aa ay)(s:ay):cC (l++[s])=ML (cC l) (Fp s (cC s.aD) (cC s.aJ)):=by
 have h0:cC []=(0,0,0):=by rw[cC]
 induction l with
 |nil=>rw[ym,uB,h0];unfold ML;simp
 |cons a l ih=>
  rw[xE,uB,uB,ih];unfold ML;simp only[Int.add_assoc]
def rY(c:Int×Int×Int)(a:Int×Int×Int):Int×Int×Int:=(min a.1 c.1,min a.2.1 c.2.1,min a.2.2 c.2.2)
def agu{n x c k:Int}(hn:0<=n)(hk:0<=k)(hx:0<=x)(hc:0<=c):min (n*(k+min x c)) c=min (n*(k+x)) c:=by
 by_cases h:x<=c
 ·rw[wP h]
 ·rw[xZ (show c<=x by omega)];by_cases h0:n=0
  ·subst h0;simp
  ·have e1:1*(k+c)<=n*(k+c):=zM (by omega) (by omega);have e2:1*(k+x)<=n*(k+x):=zM (by omega) (by omega);rw[xZ (by omega),xZ (by omega)]
def nX:∀{l:aa ay},Av l->∀s∈l,(0<=s.aN/\s.aN<=67108864)/\(s.bN=4->0<=s.fN/\s.fN<=4096)/\(s.bN≠3->s.bN≠4->s.aD=[])/\(s.bN≠3->s.aJ=[])/\Av s.aD/\Av s.aJ
 |[],_,s,hs=>by cases hs
 |a::l,h,s,hs=>by
  rw[Av]at h;rcases zF.1 hs with rfl|hs
  ·exact⟨h.1,h.2.1,h.2.2.1,h.2.2.2.1,h.2.2.2.2.1,h.2.2.2.2.2.1⟩
  ·exact nX h.2.2.2.2.2.2 s hs
def nn3(a:Int×Int×Int):Prop:=0<=a.1/\0<=a.2.1/\0<=a.2.2
def ai7{s:ay}{a b:Int×Int×Int}(hc:0<=s.aN)(hN:s.bN=4->0<=s.fN)(ha:nn3 a)(hb:nn3 b):nn3 (Fp s a b):=by
 unfold nn3 at*;unfold Fp;split
 ·exact⟨yV (by decide:(0:Int)<1),yV (by decide:(0:Int)<1),hc⟩
 ·split
  ·dsimp only;omega
  ·split
   ·rename_i h4;have:=hN h4;have e1:0<=s.fN*(1+a.1):=zB this (by omega);have e2:0<=s.fN*a.2.1:=zB this (by omega);have e3:0<=s.fN*(s.aN+a.2.2):=zB this (by omega);dsimp only;omega
   ·exact⟨yV (by decide:(0:Int)<1),zm (0:Int),hc⟩
def Is:∀(n:Nat) (l:aa ay),zk l<n->Av l->nn3 (cC l)
 |0,_,h,_=>by omega
 |n+1,[],h,_=>by rw[show cC []=(0,0,0)by rw[cC]];exact⟨by decide,by decide,by decide⟩
 |n+1,s::l,h,ho=>by
  have hz:=aX (l:=s::l) (zo ..);have hz2:=dc s l;rw[Av]at ho;have q1:=Is n s.aD (by omega) ho.2.2.2.2.1;have q2:=Is n s.aJ (by omega) ho.2.2.2.2.2.1;have q3:=Is n l (by omega) ho.2.2.2.2.2.2;have q4:=ai7 ho.1.1 (λh=>(ho.2.1 h).1) q1 q2;rw[uB];unfold nn3 ML at*;dsimp only;omega
def rz{l:aa ay}(h:Av l):nn3 (cC l):=Is _ l (zC _) h
def Db:∀{l:aa ay} (i:Nat),Av l->Av (l.take i)
 |[],i,h=>by rw[List.take_nil];exact h
 |s::l,0,h=>by rw[xT,Av];trivial
 |s::l,i+1,h=>by
  rw[Av]at h;rw[List.take_succ_cons,Av];exact⟨h.1,h.2.1,h.2.2.1,h.2.2.2.1,h.2.2.2.2.1,h.2.2.2.2.2.1,Db i h.2.2.2.2.2.2⟩
def M3(a:Int×Int×Int):qv:=⟨a.1,a.2.1,a.2.2⟩
def OV:Int×Int×Int:=(1099511627776,1099511627776,1099511627776)
def HW:Int×Int×Int:=(4097,9,67108865)
def aga{n x:Int}(h1:0<=n)(h2:n<=4096)(h3:0<=x)(h4:x<=1200000000000):0<=n*x/\n*x<=4915200000000000:=by
 have e1:n*x<=4096*x:=zM h2 h3;have e2:0<=n*x:=zB h1 h3;omega
def kB(w c:Int):(if c<w then c else w)=min w c:=by omega
def amU(w c:Int):(if w<c then w else c)=min w c:=by omega
def OC(a b c:Int):(if min a c<min b c then min b c else min a c)=min (max a b) c:=by omega
def agI(a b c:Int):(if min b c<min a c then min a c else min b c)=min (max a b) c:=by omega
section
variable {C x y m k n a:Int} (h0:0<=C) (h1:C<=1099511627776) (hx:0<=x)
include h0 h1 hx
theorem Nc(hy:0<=y)(hy2:y<=67108864):min (i64.wrap (min x C+y)) C=min (x+y) C:=by
 rw[aG];omega
theorem TY(hm:0<=m)(hk:0<=k)(hk2:k<=67108864):min (i64.wrap (min x C+i64.wrap (k+min m C))) C=min (x+(k+m)) C:=by
 have:i64.wrap (k+min m C)=k+min m C:=aG;rw[this,aG];omega
theorem ahw(hm:0<=m):min (i64.wrap (min x C+min m C)) C=min (x+m) C:=by
 rw[aG];omega
theorem ak7{z:Int}(hz:0<=z)(hy:0<=y)(hy2:y<=4915200000000001)(h:min y C=min z C):min (i64.wrap (min x C+y)) C=min (x+z) C:=by
 rw[aG];omega
omit hx in
theorem U9(hn:0<=n)(hn2:n<=4096)(ha:0<=a)(hk:0<=k)(hk2:k<=67108864):i64.wrap (n*i64.wrap (k+min a C))=n*(k+min a C)/\0<=n*(k+min a C)/\n*(k+min a C)<=4915200000000000/\0<=n*(k+a)/\min (n*(k+min a C)) C=min (n*(k+a)) C:=by
 have e1:i64.wrap (k+min a C)=k+min a C:=aG;have e2:=aga (x:=k+min a C) hn hn2 (by omega) (by omega);rw[e1];exact⟨aG,e2.1,e2.2,zB hn (by omega),agu hn hk ha h0⟩
theorem apr(hn:0<=n)(hn2:n<=4096)(ha:0<=a)(hk:0<=k)(hk2:k<=67108864):min (i64.wrap (min x C+i64.wrap (n*i64.wrap (k+min a C)))) C=min (x+n*(k+a)) C:=by
 obtain⟨q1,q2,q3,q4,q5⟩:=U9 h0 h1 hn hn2 ha hk hk2;rw[q1];exact ak7 h0 h1 hx q4 q2 (by omega) q5
theorem aiP(hn:0<=n)(hn2:n<=4096)(ha:0<=a):min (i64.wrap (min x C+i64.wrap (1+i64.wrap (n*i64.wrap (1+min a C))))) C=min (x+(1+n*(1+a))) C:=by
 obtain⟨q1,q2,q3,q4,q5⟩:=U9 (k:=1) h0 h1 hn hn2 ha (by omega) (by omega);rw[q1];generalize n*(1+min a C)=y at*;generalize n*(1+a)=z at*;rw[show i64.wrap (1+y)=1+y from aG];exact ak7 h0 h1 hx (by omega) (by omega) (by omega) (by omega)
theorem ahP(hn:0<=n)(hn2:n<=4096)(ha:0<=a):min (i64.wrap (min x C+i64.wrap (n*min a C))) C=min (x+n*a) C:=by
 obtain⟨q1,q2,q3,q4,q5⟩:=U9 (k:=0) h0 h1 hn hn2 ha (by omega) (by omega);rw[Int.zero_add]at q2 q3 q4 q5;rw[Int.zero_add]at q5;rw[show i64.wrap (n*min a C)=n*min a C from aG];exact ak7 h0 h1 hx q4 q2 (by omega) q5
end
def acw(M:aa ay->ah rX)(l:aa ay)(hl:l.length<=1000000)(ho:Av l)(hM:∀s∈l,M s.aD=Q (M3 (rY OV (cC s.aD)))/\M s.aJ=Q (M3 (rY OV (cC s.aJ)))):ac8 M l=Q (M3 (rY OV (cC l))):=by
 obtain⟨v,e1,hv⟩:=dD (cL:=I6 M) l.length (λi (b:qv)=>⟨l,(l.length:Int),(i:Int),⟨0,0,0⟩,b⟩) (λi b=>b=M3 (rY OV (cC (l.take i)))) (λi bb hi hb=>by
  have hw:=gH hi hl;obtain⟨k1,k2⟩:=hM _ (aV hi);obtain⟨⟨c1,c2⟩,hN,_,_,o1,o2⟩:=nX ho _ (aV hi);obtain⟨x1,x2,x3⟩:=rz (Db i ho);obtain⟨a1,a2,a3⟩:=rz o1;obtain⟨b1,b2,b3⟩:=rz o2;refine⟨M3 (rY OV (cC (l.take (i+1)))),?_,rfl⟩;have hi1:(i:Int)<(l.length:Int):=by omega
  have hi0:(0:Int)<=(i:Int):=by omega
  rw[bO hi,KG];generalize cC (l.take i)=x at*;generalize cC l[i]!.aD=a at*;generalize cC l[i]!.aJ=b at*;obtain⟨X1,X2,X3⟩:=x;obtain⟨A1,A2,A3⟩:=a;obtain⟨B1,B2,B3⟩:=b;have hb:bb=⟨min X1 1099511627776,min X2 1099511627776,min X3 1099511627776⟩:=hb;have k1:M l[i]!.aD=Q ⟨min A1 1099511627776,min A2 1099511627776,min A3 1099511627776⟩:=k1;have k2:M l[i]!.aJ=Q ⟨min B1 1099511627776,min B2 1099511627776,min B3 1099511627776⟩:=k2;subst hb;have z0:(0:Int)<=1099511627776:=by decide
  have z1:(1099511627776:Int)<=1099511627776:=by decide
  dsimp only at x1 x2 x3 a1 a2 a3 b1 b2 b3;unfold I6;dsimp only;simp only[zi,hi1,hi0,cX,bC,dZ,bZ,k1,k2,hw];by_cases h1:l[i]!.bN=1
  ·have e:Fp l[i]! (A1,A2,A3) (B1,B2,B3)=(1,1,l[i]!.aN):=by unfold Fp;rw[bt h1]
   rw[bQ h1,bC,e,kB,kB,kB,Nc z0 z1 x1 (by omega) (by omega),Nc z0 z1 x2 (by omega) (by omega),Nc z0 z1 x3 c1 c2];rfl
  ·rw[bP h1,bz];by_cases h3:l[i]!.bN=3
   ·have e:Fp l[i]! (A1,A2,A3) (B1,B2,B3)=(1+max A1 B1,max A2 B2,l[i]!.aN+max A3 B3):=by unfold Fp;rw[bF h1,bt h3]
    rw[bQ h3,bC,e,OC,OC,OC,kB,kB,kB,TY z0 z1 x1 (by omega) (by omega) (by omega),ahw z0 z1 x2 (by omega),TY z0 z1 x3 (by omega) c1 c2];rfl
   ·rw[bP h3,bz];by_cases h4:l[i]!.bN=4
    ·obtain⟨n1,n2⟩:=hN h4;have e:Fp l[i]! (A1,A2,A3) (B1,B2,B3)=(1+l[i]!.fN*(1+A1),l[i]!.fN*A2,l[i]!.fN*(l[i]!.aN+A3)):=by unfold Fp;rw[bF h1,bF h3,bt h4]
     rw[bQ h4,bC,e,kB,kB,kB,aiP z0 z1 x1 n1 n2 a1,ahP z0 z1 x2 n1 n2 a2,apr z0 z1 x3 n1 n2 a3 c1 c2];rfl
    ·have e:Fp l[i]! (A1,A2,A3) (B1,B2,B3)=(1,0,l[i]!.aN):=by unfold Fp;rw[bF h1,bF h3,bF h4]
     rw[bP h4,bz,e,kB,kB,kB,Nc z0 z1 x1 (by omega) (by omega),Nc z0 z1 x2 (by omega) (by omega),Nc z0 z1 x3 c1 c2];rfl) (λb _=>by unfold I6;simp) (b:=⟨0,0,0⟩) (by rw[xT,show cC []=(0,0,0)by rw[cC]];rfl)
 have e1':G1 M ⟨l,(l.length:Int),0,⟨0,0,0⟩,⟨0,0,0⟩⟩=Q ⟨l,(l.length:Int),(l.length:Int),⟨0,0,0⟩,v⟩:=e1;unfold ac8;rw[e1'];rw[zR]at hv;rw[hv];simp
def JA:∀(n:Nat) (l:aa ay),zk l<n->fP l<=1000->Av l->Om n l=Q (M3 (rY OV (cC l)))
 |0,_,h,_,_=>by omega
 |n+1,l,h,h2,ho=>acw (Om n) l (by have:=jW l;omega) ho (λs hs=>⟨JA n _ (by have:=aX hs;omega) (by have:=gy hs;omega) (nX ho s hs).2.2.2.2.1,JA n _ (by have:=aX hs;omega) (by have:=gy hs;omega) (nX ho s hs).2.2.2.2.2⟩)
def agJ(l:aa ay)(h:fP l<=1000)(ho:Av l):Y2 l=Q (M3 (rY OV (cC l))):=eT (zk l+1) λn hn=>JA n l (by omega) h ho
def ano(M:aa ay->ah L0)(l:aa ay)(hl:l.length<=1000000)(ho:Av l)(hM:∀s∈l,M s.aD=Q (rY HW (cC s.aD))/\M s.aJ=Q (rY HW (cC s.aJ))):s90 M l=Q (rY HW (cC l)):=by
 obtain⟨v,e1,hv⟩:=dD (cL:=RT M) l.length (λi (b:Int×Int×Int)=>⟨l,b.1,b.2.1,b.2.2,(i:Int)⟩) (λi b=>b=rY HW (cC (l.take i))) (λi bb hi hb=>by
  have hw:=gH hi hl;obtain⟨k1,k2⟩:=hM _ (aV hi);obtain⟨⟨c1,c2⟩,hN,hT,hE,o1,o2⟩:=nX ho _ (aV hi);obtain⟨x1,x2,x3⟩:=rz (Db i ho);obtain⟨a1,a2,a3⟩:=rz o1;obtain⟨b1,b2,b3⟩:=rz o2;have zT:l[i]!.bN≠3->l[i]!.bN≠4->cC l[i]!.aD=(0,0,0):=λh3 h4=>by rw[hT h3 h4,cC]
  have zE:l[i]!.bN≠3->cC l[i]!.aJ=(0,0,0):=λh3=>by rw[hE h3,cC]
  refine⟨rY HW (cC (l.take (i+1))),?_,rfl⟩;have hi1:(i:Int)<(l.length:Int):=by omega
  have hi0:(0:Int)<=(i:Int):=by omega
  rw[bO hi,KG];generalize cC (l.take i)=x at*;generalize cC l[i]!.aD=a at*;generalize cC l[i]!.aJ=b at*;obtain⟨X1,X2,X3⟩:=x;obtain⟨A1,A2,A3⟩:=a;obtain⟨B1,B2,B3⟩:=b;have hb:bb=(min X1 4097,min X2 9,min X3 67108865):=hb;have k1:M l[i]!.aD=Q (min A1 4097,min A2 9,min A3 67108865):=k1;have k2:M l[i]!.aJ=Q (min B1 4097,min B2 9,min B3 67108865):=k2;subst hb;have z0:(0:Int)<=4097:=by decide
  have z1:(4097:Int)<=1099511627776:=by decide
  have y0:(0:Int)<=9:=by decide
  have y1:(9:Int)<=1099511627776:=by decide
  have u0:(0:Int)<=67108865:=by decide
  have u1:(67108865:Int)<=1099511627776:=by decide
  dsimp only at x1 x2 x3 a1 a2 a3 b1 b2 b3;unfold RT;dsimp only;simp only[zi,hi1,hi0,cX,bC,dZ,bZ,k1,k2,hw,od,l9,amU,agI];by_cases h4:l[i]!.bN=4
  ·obtain⟨n1,n2⟩:=hN h4;have h1:¬l[i]!.bN=1:=by omega
   have h3:¬l[i]!.bN=3:=by omega
   have e:Fp l[i]! (A1,A2,A3) (B1,B2,B3)=(1+l[i]!.fN*(1+A1),l[i]!.fN*A2,l[i]!.fN*(l[i]!.aN+A3)):=by unfold Fp;rw[bF h1,bF h3,bt h4]
   rw[bQ h4,bP h1,bC,bz,e,aiP z0 z1 x1 n1 n2 a1,ahP y0 y1 x2 n1 n2 a2,apr u0 u1 x3 n1 n2 a3 c1 c2];rfl
  ·rw[bP h4,bz];by_cases h1:l[i]!.bN=1
   ·have h3:¬l[i]!.bN=3:=by omega
    have ea:=zT h3 h4;have eb:=zE h3;cases ea;cases eb;have e:Fp l[i]! (0,0,0) (0,0,0)=(1,1,l[i]!.aN):=by unfold Fp;rw[bt h1]
    rw[bQ h1,bC,e,TY z0 z1 x1 (by omega) (by omega) (by omega),Nc y0 y1 x2 (by omega) (by omega),TY u0 u1 x3 (by omega) c1 c2];simp only[rY,HW,ML,Int.max_self,Int.add_zero]
   ·rw[bP h1,bz,TY z0 z1 x1 (by omega) (by omega) (by omega),ahw y0 y1 x2 (by omega),TY u0 u1 x3 (by omega) c1 c2];by_cases h3:l[i]!.bN=3
    ·have e:Fp l[i]! (A1,A2,A3) (B1,B2,B3)=(1+max A1 B1,max A2 B2,l[i]!.aN+max A3 B3):=by unfold Fp;rw[bF h1,bt h3]
     rw[e];rfl
    ·have ea:=zT h3 h4;have eb:=zE h3;cases ea;cases eb;have e:Fp l[i]! (0,0,0) (0,0,0)=(1,0,l[i]!.aN):=by unfold Fp;rw[bF h1,bF h3,bF h4]
     rw[e];simp only[rY,HW,ML,Int.max_self,Int.add_zero]) (λb _=>by unfold RT;simp) (b:=(0,0,0)) (by rw[xT,show cC []=(0,0,0)by rw[cC]];rfl)
 have e1':Rg M ⟨l,0,0,0,0⟩=Q ⟨l,v.1,v.2.1,v.2.2,(l.length:Int)⟩:=e1;unfold s90;rw[e1'];rw[zR]at hv;rw[hv];simp
def Od:∀(n:Nat) (l:aa ay),zk l<n->fP l<=1000->Av l->m90 n l=Q (rY HW (cC l))
 |0,_,h,_,_=>by omega
 |n+1,l,h,h2,ho=>ano (m90 n) l (by have:=jW l;omega) ho (λs hs=>⟨Od n _ (by have:=aX hs;omega) (by have:=gy hs;omega) (nX ho s hs).2.2.2.2.1,Od n _ (by have:=aX hs;omega) (by have:=gy hs;omega) (nX ho s hs).2.2.2.2.2⟩)
def YQ(l:aa ay)(h:fP l<=1000)(ho:Av l):r90 l=Q (rY HW (cC l)):=eT (zk l+1) λn hn=>Od n l (by omega) h ho
def afR(f:aQ)(h:fP f.bI+jH (f.ak.map (·.az))<=900)(hh:f.ak.length<=1000000)(hvl:f.ai.length<=1000000):agG f=Q (uZ f):=by
 obtain⟨r,q,e1,e2,e3⟩:=abC f h hh;unfold agG uZ;rw[e1];dsimp only;rw[e2];dsimp only;rw[bP (show ¬((f.ak.length:Int)<(f.ak.length:Int))by omega),bz,u7,e3];unfold qL;generalize (f.ak.all λh=>O (dT h.az<=12))=x;generalize O (jR f.bI<=12)=y;generalize fI f.bI=z;by_cases h1:64<(f.ai.length:Int)
 ·simp[h1,show ¬f.ai.length<=64 by omega]
 by_cases h2:8<(f.ak.length:Int)
 ·simp[h1,h2,show ¬f.ak.length<=8 by omega]
 rw[bP h1,bP h2,bQ (show f.ai.length<=64 by omega),bQ (show f.ak.length<=8 by omega)];dsimp only[bz,wD];simp only[wD];cases hx:(x&&y&& !z)with
 |false=>rfl
 |true=>
  rw[afk f.ai hvl];dsimp only[Bool.not_true,bz];rw[bF (by decide)];by_cases hvc:kH f.ai=0
  case neg=>simp[hvc]
  have hv:bY f.ai:=by
   apply nu;unfold kH at hvc;by_cases h0:cG (mH f.ai) f.ai 0=0
   ·exact h0
   ·rw[bt h0]at hvc;exact cR hvc h0
  rw[bQ hvc,bC,bz,bF (by simpa using hvc),adw f hv hh];dsimp only;by_cases hhc:cG (lq f) f.ak 0=0
  case neg=>simp[hhc]
  rw[bQ hhc,bC,bz,bF (by simpa using hhc),aeC f hv f.bI G (by omega)];dsimp only;by_cases hsc:b9 f G f.bI=0
  case neg=>simp[hsc]
  have ho:Av f.bI:=Aj f _ f.bI G (zC _) hsc;rw[bQ hsc,bC,bz,bF (by simpa using hsc)];have e:=agJ f.bI (by omega) ho;unfold RW;generalize cC f.bI=u at e ⊢;obtain⟨a,b,c⟩:=u;have e:Y2 f.bI=Q ⟨min a 1099511627776,min b 1099511627776,min c 1099511627776⟩:=e;rw[e];dsimp only;by_cases a1:4096<a
  ·simp[a1,show 4096<min a 1099511627776 by omega]
  ·by_cases b1:8<b
   ·simp[a1,b1,show ¬4096<min a 1099511627776 by omega,show 8<min b 1099511627776 by omega]
   ·by_cases d1:67108864<c
    ·simp[a1,b1,d1,show ¬4096<min a 1099511627776 by omega,show ¬8<min b 1099511627776 by omega,show 67108864<min c 1099511627776 by omega]
    ·simp[a1,b1,d1,show ¬4096<min a 1099511627776 by omega,show ¬8<min b 1099511627776 by omega,show ¬67108864<min c 1099511627776 by omega]
def Hx(f:aQ)(h:fP f.bI+jH (f.ak.map (·.az))<=900)(hh:f.ak.length<=1000000)(hvl:f.ai.length<=1000000):m78 f=Q (uZ f):=by
 unfold m78 uZ;rw[acM f h hh];dsimp only;cases hx:qL f with
 |false=>rfl
 |true=>
  rw[aap f.ai hvl];dsimp only[bC,bz];rw[bF (by decide)];by_cases hvc:kH f.ai=0
  case neg=>simp[hvc]
  have hv:bY f.ai:=by
   apply nu;unfold kH at hvc;by_cases h0:cG (mH f.ai) f.ai 0=0
   ·exact h0
   ·rw[bt h0]at hvc;exact cR hvc h0
  obtain⟨i,e1,hc⟩:=Wk f hv hh;rw[bQ hvc,bC,bz,bF (by simpa using hvc),e1];dsimp only;rcases hc with ⟨rfl,hc⟩|⟨hi,h0,hc⟩
  ·rw[bF (show ¬(cG (lq f) f.ak 0≠0)by rw[hc];simp),bP (show ¬((f.ak.length:Int)<(f.ak.length:Int))by omega),bz,abJ f hv f.bI G (by omega)];dsimp only;by_cases hsc:b9 f G f.bI=0
   case neg=>simp[hsc]
   have ho:Av f.bI:=Aj f _ f.bI G (zC _) hsc;rw[bQ hsc,bC,bz,bF (show ¬(b9 f G f.bI≠0)by rw[hsc];simp)];have e:=YQ f.bI (by omega) ho;unfold RW;generalize cC f.bI=u at e ⊢;obtain⟨a,b,c⟩:=u;have e:r90 f.bI=Q (min a 4097,min b 9,min c 67108865):=e;rw[e];dsimp only;by_cases a1:4096<a
   ·simp[a1,show 4096<min a 4097 by omega]
   ·by_cases b1:8<b
    ·simp[a1,b1,show ¬4096<min a 4097 by omega,show 8<min b 9 by omega]
    ·by_cases d1:67108864<c
     ·simp[a1,b1,d1,show ¬4096<min a 4097 by omega,show ¬8<min b 9 by omega,show 67108864<min c 67108865 by omega]
     ·simp[a1,b1,d1,show ¬4096<min a 4097 by omega,show ¬8<min b 9 by omega,show ¬67108864<min c 67108865 by omega]
  ·obtain⟨j,h2,h3⟩:=K7 f hh i (by omega) f.ak[i]!;rw[bt (show cG (lq f) f.ak 0≠0 by rw[hc];exact h0),hc];have hi1:(i:Int)<(f.ak.length:Int):=by omega
   have hi0:(0:Int)<=(i:Int):=by omega
   revert h0;unfold lq;simp only[zi,ax.eta,dz.eta,Cq,Cm,h2,CC f.ai hv,hi0,hi1,dZ,bZ,cX,bC];generalize je f.ak[i]!.fName=B;generalize ((f.ak.take i).any λw=>w.fName.toList==f.ak[i]!.fName.toList)=A at h3;generalize gY f.ak[i]!.ag f.ak[i]!.af=C;generalize eM f.ai G f.ak[i]!.az=T;rcases h3 with ⟨rfl,rfl⟩|⟨hj,h4,rfl⟩
   ·cases B<;>cases C<;>by_cases hT:T=0<;>simp[hT]
   ·have hj1:(j:Int)<(i:Int):=by omega
    have hj2:(j:Int)<(f.ak.length:Int):=by omega
    have hj0:(0:Int)<=(j:Int):=by omega
    simp only[hj0,hj1,hj2,h4,dZ,bZ,cX,bC];cases B<;>simp
def pG{f:aQ}(h:uZ f=0):bY f.ai:=by
 unfold uZ at h;by_cases h1:qL f=I
 ·rw[bt h1]at h;exact cR h (by decide)
 rw[bF h1]at h;by_cases hvc:kH f.ai=0
 ·apply nu;unfold kH at hvc;by_cases h0:cG (mH f.ai) f.ai 0=0
  ·exact h0
  ·rw[bt h0]at hvc;exact cR hvc h0
 ·rw[bt hvc]at h;exact cR h hvc
structure CS where
 (vals outs:List Int)
 time:Int
def lI:aa Int->Int->Int
 |[],t=>t
 |b::l,t=>if t<=b then b else lI l t
def ama(f:aQ)(s:CS)(v n:Int):CS:=⟨s.vals.set v.toNat (gJ n f.ai[v.toNat]!.ag f.ai[v.toNat]!.af),s.outs,s.time⟩
def CS.add(s:CS)(c:Int):CS:=⟨s.vals,s.outs,s.time+c⟩
def qE(body:CS->CS)(t:ax)(c:Int):Nat->CS->CS
 |0,s=>s
 |n+1,s=>if dY s.vals t=0 then s.add c else qE body t c n (body (s.add c))
def sx(f:aQ)(hv:aa Int)(a b:CS->CS)(x:ay)(s:CS):CS:=
 if x.bN=4 then qE a x.az x.aN x.fN.toNat s
 else if x.bN=0 then ama f (s.add x.aN) x.cV (dY s.vals x.az)
 else if x.bN=1 then⟨s.vals,s.outs++[dY s.vals x.az],s.time+x.aN⟩
 else if x.bN=5 then ama f (s.add x.aN) x.cV hv[x.fN.toNat]!
 else if x.bN=3 then(if dY s.vals x.az≠0 then a (s.add x.aN)else b (s.add x.aN))
 else if x.bN=6 then⟨s.vals,s.outs,lI x.aK (s.time+x.aN)⟩
 else s.add x.aN
def iY(f:aQ)(hv:aa Int):aa ay->CS->CS
 |[],s=>s
 |x::l,s=>iY f hv l (sx f hv (λs=>iY f hv x.aD s) (λs=>iY f hv x.aJ s) x s)
termination_by l=>zk l
decreasing_by
 all_goals first|exact(aX (zo ..)).1|exact(aX (zo ..)).2|exact dc _ _
def uc(f:aQ)(hv:aa Int)(s:CS):iY f hv [] s=s:=by rw[iY]
def Au(f:aQ)(hv:aa Int)(x:ay)(l:aa ay)(s:CS):iY f hv (x::l) s=iY f hv l (sx f hv (iY f hv x.aD) (iY f hv x.aJ) x s):=by rw[iY]
def dH{f:aQ}{top:Bool}{x:ay}{l:aa ay}(h:b9 f top (x::l)=0):oR f (top&&l.isEmpty) x=0/\b9 f I x.aD=0/\b9 f I x.aJ=0/\b9 f top l=0:=by
 rw[b9]at h;split at h
 ·exact cR h ‹_›
 rename_i h1;split at h
 ·exact cR h ‹_›
 rename_i h2;split at h
 ·exact cR h ‹_›
 rename_i h3;exact⟨by simpa using h1,by simpa using h2,by simpa using h3,h⟩
structure CT (f:aQ) (last:Bool) (x:ay):Prop where
 do_:0<=x.bN/\x.bN<=6
 cost:0<=x.aN/\x.aN<=67108864
 n4:x.bN=4->0<=x.fN/\x.fN<=4096
 var:x.bN=0\/x.bN=5->0<=x.cV/\x.cV<f.ai.length
 n5:x.bN=5->0<=x.fN/\x.fN<f.ak.length
 uM:x.bN=6->last=G/\(1<=x.aK.length/\x.aK.length<=32)/\(0:Int)<=x.aK[0]!/\fC x.aK=G/\x.aK[x.aK.length-1]!<=67108864
 term:eM f.ai I x.az=0
def jB{f:aQ}{last:Bool}{x:ay}(h:oR f last x=0):CT f last x:=by
 unfold oR at h;by_cases h1:dI f x last=I
 ·rw[bt h1]at h;cases h
 rw[bF h1]at h;by_cases h2:sP x=I
 ·rw[bt h2]at h;cases h
 rw[bF h2]at h;have h1:dI f x last=G:=by simpa using h1
 have h2:sP x=G:=by simpa using h2
 unfold sP at h2;simp only[zn,decide_eq_true_eq]at h2;obtain⟨⟨g1,g2⟩,g3⟩:=h2;unfold dI tC at h1;dsimp only at h1;have hd:0<=x.bN/\x.bN<=6:=by
  by_cases a0:x.bN=0
  ·omega
  by_cases a1:x.bN=1
  ·omega
  by_cases a2:x.bN=2
  ·omega
  by_cases a3:x.bN=3
  ·omega
  by_cases a4:x.bN=4
  ·omega
  by_cases a5:x.bN=5
  ·omega
  by_cases a6:x.bN=6
  ·omega
  ·simp[a0,a1,a2,a3,a4,a5,a6]at h1
 refine⟨hd,⟨g1.1,?_⟩,λq=> ?_,λq=> ?_,λq=> ?_,λq=> ?_,h⟩
 ·have:=g1.2;split at this<;>omega
 ·rw[bt q]at g2;simpa using g2
 ·rcases q with q|q
  ·simp[q]at h1;omega
  ·simp[q]at h1;omega
 ·simp[q]at h1;omega
 ·rw[bt q]at g3;simp only[q,Int.reduceEq,bZ,dA,zn,decide_eq_true_eq]at h1 g3;exact⟨h1.1.1.1.1.2,h1.2.1.1,h1.2.1.2,h1.2.2,g3⟩
def Sj(x:ay)(l:aa ay):cC (x::l)=
  (if x.bN=1 then(1+(cC l).1,1+(cC l).2.1,x.aN+(cC l).2.2)
   else if x.bN=3 then(1+max (cC x.aD).1 (cC x.aJ).1+(cC l).1,max (cC x.aD).2.1 (cC x.aJ).2.1+(cC l).2.1,x.aN+max (cC x.aD).2.2 (cC x.aJ).2.2+(cC l).2.2)
   else if x.bN=4 then(1+x.fN*(1+(cC x.aD).1)+(cC l).1,x.fN*(cC x.aD).2.1+(cC l).2.1,x.fN*(x.aN+(cC x.aD).2.2)+(cC l).2.2)
   else(1+(cC l).1,(cC l).2.1,x.aN+(cC l).2.2)):=by rw[cC]
def dx(f:aQ):∀(n:Nat) (l:aa ay) (top:Bool),zk l<n->b9 f top l=0->0<=(cC l).2.1/\0<=(cC l).2.2
 |0,_,_,h,_=>by omega
 |n+1,[],_,_,_=>by rw[cC];exact⟨zm _,zm _⟩
 |n+1,x::l,top,h,hc=>by
  obtain⟨h1,h2,h3,h4⟩:=dH hc;have ho:=jB h1;have hs:=aX (zo (a:=x) (l:=l));have ht:=dc x l;have i1:=dx f n x.aD I (by omega) h2;have i2:=dx f n x.aJ I (by omega) h3;have i3:=dx f n l top (by omega) h4;have hcost:=ho.cost;rw[Sj];by_cases a1:x.bN=1
  ·rw[bt a1];dsimp only;omega
  by_cases a3:x.bN=3
  ·rw[bF a1,bt a3];dsimp only;omega
  by_cases a4:x.bN=4
  ·rw[bF a1,bF a3,bt a4];have hn:=ho.n4 a4;have p1:=zB hn.1 i1.1;have p2:=zB hn.1 (show 0<=x.aN+(cC x.aD).2.2 by omega);dsimp only;omega
  ·rw[bF a1,bF a3,bF a4];dsimp only;omega
def Kj{n lo hi:Int}(h:lo<=hi):lo<=gJ n lo hi/\gJ n lo hi<=hi:=by unfold gJ;grind
def Fz.set{vars:aa aS}{vals:aa Int}(h:Fz vars vals)(hv:bY vars){v n:Int}(h1:0<=v)(h2:v<vars.length):Fz vars (vals.set v.toNat (gJ n vars[v.toNat]!.ag vars[v.toNat]!.af)):=by
 refine⟨by rw[yc];exact h.1,λi hi=> ?_⟩;have hl:=h.1;by_cases hvi:v.toNat=i
 ·subst hvi;rw[getElem!_pos (vals.set _ _) v.toNat (by rw[yc];omega),List.getElem_set_self];exact Kj (hv _ (aV hi)).2.1
 ·have:=h.2 i hi;rw[getElem!_pos (vals.set _ _) i (by rw[yc];omega),List.getElem_set_ne hvi];rw[getElem!_pos vals i (by omega)]at this;exact this
structure RF (vars:List aS) (s r:CS) (o t:Int):Prop where
 vals:Fz vars r.vals
 outs:(s.outs.length:Int)<=r.outs.length/\(r.outs.length:Int)<=s.outs.length+o
 time:s.time<=r.time/\r.time<=s.time+t
def JX{vars:aa aS}{a:CS->CS}{t:ax}{c o u:Int}(hc:0<=c)(ho:0<=o)(hu:0<=u)(ha:∀s:CS,Fz vars s.vals->RF vars s (a s) o u):∀(n:Nat) (s:CS),Fz vars s.vals->RF vars s (qE a t c n s) (n*o) (n*(c+u))
 |0,s,h=>⟨h,by rw[qE];simp,by rw[qE];simp⟩
 |n+1,s,h=>by
  rw[qE];have e1:((n+1:Nat):Int)*o=n*o+o:=by rw[wE,zQ];simp
  have e2:((n+1:Nat):Int)*(c+u)=n*(c+u)+(c+u):=by rw[wE,zQ];simp
  have p1:0<=(n:Int)*o:=zB (by omega) ho;have p2:0<=(n:Int)*(c+u):=zB (by omega) (by omega);rw[e1,e2];split
  ·refine⟨h,?_,?_⟩
   ·show (s.outs.length:Int)<=s.outs.length/\_;exact⟨zm _,by show (s.outs.length:Int)<=_;omega⟩
   ·show s.time<=s.time+c/\s.time+c<=_;omega
  ·have i1:=ha (s.add c) h;have i2:=JX (t:=t) hc ho hu ha n (a (s.add c)) i1.vals;have q1:=i1.outs;have q2:=i1.time;have q3:=i2.outs;have q4:=i2.time;have z1:(s.add c).time=s.time+c:=rfl;have z2:(s.add c).outs=s.outs:=rfl;rw[z2]at q1;rw[z1]at q2;exact⟨i2.vals,by omega,by omega⟩
def RF.weak{vars:aa aS}{s r:CS}{o t o' t':Int}(h:RF vars s r o t)(h1:o<=o')(h2:t<=t'):RF vars s r o' t':=⟨h.vals,by have:=h.outs;omega,by have:=h.time;omega⟩
def RF.trans{vars:aa aS}{s r q:CS}{o t o' t':Int}(h:RF vars s r o t)(h':RF vars r q o' t'):RF vars s q (o+o') (t+t'):=⟨h'.vals,by have:=h.outs;have:=h'.outs;omega,by have:=h.time;have:=h'.time;omega⟩
def uO(x:ay):Int×Int:=if x.bN=1 then(1,x.aN)else if x.bN=3 then(max (cC x.aD).2.1 (cC x.aJ).2.1,x.aN+max (cC x.aD).2.2 (cC x.aJ).2.2)
 else if x.bN=4 then(x.fN*(cC x.aD).2.1,x.fN*(x.aN+(cC x.aD).2.2))else(0,x.aN)
def ig(x:ay)(l:aa ay):(cC (x::l)).2.1=(uO x).1+(cC l).2.1/\(cC (x::l)).2.2=(uO x).2+(cC l).2.2:=by
 rw[Sj];unfold uO;split
 ·exact⟨rfl,rfl⟩
 split
 ·exact⟨rfl,rfl⟩
 split
 ·exact⟨rfl,rfl⟩
 ·refine⟨?_,rfl⟩;dsimp only;omega
def Gu{f:aQ}(hv:bY f.ai){hs:aa Int}{a b:CS->CS}{last:Bool}{x:ay}(hx:CT f last x)(h6:x.bN≠6)
  (p1:0<=(cC x.aD).2.1/\0<=(cC x.aD).2.2) (p2:0<=(cC x.aJ).2.1/\0<=(cC x.aJ).2.2)
  (ha:∀s:CS,Fz f.ai s.vals->RF f.ai s (a s) (cC x.aD).2.1 (cC x.aD).2.2) (hb:∀s:CS,Fz f.ai s.vals->RF f.ai s (b s) (cC x.aJ).2.1 (cC x.aJ).2.2)
  (s:CS) (h:Fz f.ai s.vals):RF f.ai s (sx f hs a b x s) (uO x).1 (uO x).2:=by
 have hc:=hx.cost;have add:RF f.ai s (s.add x.aN) 0 x.aN:=⟨h,by show (s.outs.length:Int)<=s.outs.length/\(s.outs.length:Int)<=_;omega,by show s.time<=s.time+x.aN/\s.time+x.aN<=_;omega⟩;unfold sx uO;by_cases a4:x.bN=4
 ·simp only[a4,Int.reduceEq,bZ,dA];have hn:=hx.n4 a4;have:=JX (t:=x.az) hc.1 p1.1 p1.2 ha x.fN.toNat s h;rw[show ((x.fN.toNat:Nat):Int)=x.fN by omega]at this;exact this
 by_cases a0:x.bN=0
 ·simp only[a0,Int.reduceEq,bZ,dA];obtain⟨v1,v2⟩:=hx.var (.inl a0);exact⟨h.set hv v1 v2,add.outs,add.time⟩
 by_cases a1:x.bN=1
 ·simp only[a1,Int.reduceEq,bZ,dA];exact⟨h,by simp;omega,by show s.time<=s.time+x.aN/\s.time+x.aN<=_;omega⟩
 by_cases a5:x.bN=5
 ·simp only[a5,Int.reduceEq,bZ,dA];obtain⟨v1,v2⟩:=hx.var (.inr a5);exact⟨h.set hv v1 v2,add.outs,add.time⟩
 by_cases a3:x.bN=3
 ·simp only[a3,Int.reduceEq,bZ,dA];split
  ·refine(add.trans (ha _ h)).weak ?_ ?_<;>omega
  ·refine(add.trans (hb _ h)).weak ?_ ?_<;>omega
 ·simp only[a0,a1,a3,a4,a5,h6,dA];exact add
def mW{f:aQ}(hv:bY f.ai)(hs:aa Int):∀(n:Nat) (l:aa ay),zk l<n->b9 f I l=0->∀s:CS,Fz f.ai s.vals->RF f.ai s (iY f hs l s) (cC l).2.1 (cC l).2.2
 |0,_,h,_,_,_=>by omega
 |n+1,[],_,_,s,h=>by rw[uc,cC];exact⟨h,by simp,by simp⟩
 |n+1,x::l,hn,hc,s,h=>by
  obtain⟨h1,h2,h3,h4⟩:=dH hc;have ho:=jB h1;have hsz:=aX (zo (a:=x) (l:=l));have ht:=dc x l;have h6:x.bN≠6:=λh=>by have:=(ho.uM h).1;simp at this
  have p1:=dx f n x.aD I (by omega) h2;have p2:=dx f n x.aJ I (by omega) h3;rw[Au,(ig x l).1,(ig x l).2];have i1:=Gu hv (hs:=hs) ho h6 p1 p2 (mW hv hs n x.aD (by omega) h2) (mW hv hs n x.aJ (by omega) h3) s h;exact i1.trans (mW hv hs n l (by omega) h4 _ i1.vals)
def EX:∀{l:aa Int} {t:Int},(∀j,j<l.length->l[j]! <t)->lI l t=t
 |[],_,_=>rfl
 |b::l,t,h=>by
  have h0:=h 0 (by simp);have h0:b<t:=h0;rw[lI,iB];exact EX λj hj=>h (j+1) (by simpa using hj)
def K4:∀{l:aa Int} {t:Int} {j:Nat},j<l.length->t<=l[j]!->(∀k,k<j->l[k]! <t)->lI l t=l[j]!
 |[],_,_,h,_,_=>by simp at h
 |b::l,t,0,_,h2,_=>by
  have h2:t<=b:=h2;rw[lI,bt h2];rfl
 |b::l,t,j+1,h1,h2,h3=>by
  have h0:b<t:=h3 0 (by omega);rw[lI,iB];exact K4 (l:=l) (j:=j) (by simpa using h1) h2 λk hk=>h3 (k+1) (by omega)
def LS(l:aa Int)(t:Int):(lI l t=t/\∀j,j<l.length->l[j]! <t)\/∃j,j<l.length/\lI l t=l[j]!/\t<=l[j]!/\∀k,k<j->l[k]! <t:=by
 induction l with
 |nil=>exact .inl ⟨rfl,λj h=>by simp at h⟩
 |cons b l ih=>
  rw[lI];by_cases h:t<=b
  ·rw[bt h];exact .inr ⟨0,by simp,rfl,h,λk hk=>by omega⟩
  ·rw[bF h];rcases ih with ⟨e,h1⟩|⟨j,h1,h2,h3,h4⟩
   ·refine .inl ⟨e,λj hj=> ?_⟩;cases j with
    |zero=>show b<t;omega
    |succ j=>exact h1 j (by simpa using hj)
   ·refine .inr ⟨j+1,by simpa using h1,h2,h3,λk hk=> ?_⟩;cases k with
    |zero=>show b<t;omega
    |succ k=>exact h4 k (by omega)
def Cp{l:aa Int}(h:fC l=G):∀{i j:Nat},i<j->j<l.length->l[i]! <l[j]! :=by
 intro i j hij hj;induction j with
 |zero=>omega
 |succ j ih=>
  have h1:=(jT l).1 h j hj;by_cases hi:i=j
  ·subst hi;exact h1
  ·have:=ih (by omega) (by omega);omega
def ade(l:aa Int)(t:Int)(hl:l.length<=1000000)(h:fC l=G):Xb l t=Q (lI l t):=by
 obtain⟨v,e1,hv⟩:=dD (cL:=AW) l.length (λi (b:Int×Bool)=>⟨l,t,b.1,b.2,(i:Int)⟩)
  (λi b=>(b=(t,I)/\∀j,j<i->l[j]! <t)\/(b.2=G/\∃j,j<i/\b.1=l[j]!/\t<=l[j]!/\∀k,k<j->l[k]! <t)) (λi b hi hb=>by
  have hw:=gH hi hl;have i1:(i:Int)<(l.length:Int):=by omega
  have i2:(0:Int)<=(i:Int):=by omega
  rcases hb with ⟨rfl,hb⟩|⟨hb,j,h1,h2,h3,h4⟩
  ·by_cases hc:t<=l[i]!
   ·refine⟨(l[i]!,G),?_, .inr ⟨rfl,i,by omega,rfl,hc,hb⟩⟩;unfold AW;simp only[zi,i1,i2,hc,hw,cX,bC,bz,dZ,bZ]
   ·refine⟨(t,I),?_, .inl ⟨rfl,λj hj=> ?_⟩⟩
    ·unfold AW;simp only[zi,i1,i2,hc,hw,cX,fW,bC,bz,dZ,bZ]
    ·by_cases hji:j=i
     ·subst hji;omega
     ·exact hb j (by omega)
  ·have hlt:=Cp h h1 hi;obtain⟨b1,b2⟩:=b;dsimp only at hb h2;subst hb h2;refine⟨(l[j]!,G),?_, .inr ⟨rfl,j,by omega,rfl,h3,h4⟩⟩;unfold AW;simp only[zi,i1,i2,show t<=l[i]! by omega,show ¬l[i]! <l[j]! by omega,hw,cX,fW,bC,bz,dZ,bZ]) (λb _=>by unfold AW;simp) (b:=(t,I)) (.inl ⟨rfl,λj hj=>by omega⟩)
 have e1':HD ⟨l,t,t,I,0⟩=Q ⟨l,t,v.1,v.2,(l.length:Int)⟩:=e1;unfold Xb;rw[e1'];dsimp only;rw[fO,bz];rcases hv with ⟨rfl,hv⟩|⟨_,j,h1,h2,h3,h4⟩
 ·rw[EX hv]
 ·rw[h2,K4 h1 h3 h4]
def Ql{f:aQ}{vals:aa Int}(hV:Fz f.ai vals)(hn:f.ai.length<=1000000){v n:Int}(h1:0<=v)(h2:v<f.ai.length):OM f vals v n=Q (vals.set v.toNat (gJ n f.ai[v.toNat]!.ag f.ai[v.toNat]!.af)):=by
 have hl:=hV.1;unfold OM;simp only[ym,GV];rw[gG,gG,gG,gG,bt ⟨trivial,by omega⟩]
structure Fu (f:aQ) (top:Bool) (l:List ay) (s:CS):Prop where
 hc:b9 f top l=0
 vals:Fz f.ai s.vals
 t0:0<=s.time
 t:s.time+(cC l).2.2<=134217728
 o:(s.outs.length:Int)+(cC l).2.1<=8
def aa4{l:aa Int}{t:Int}(hr:fC l=G)(hl:1<=l.length)(h6:l[l.length-1]!<=67108864)(ht:0<=t)(ht2:t<=134217728):0<=lI l t/\lI l t<=134217728:=by
 rcases LS l t with ⟨e,_⟩|⟨j,h1,e,h3,_⟩
 ·rw[e];exact⟨ht,ht2⟩
 ·rw[e];have:l[j]!<=l[l.length-1]! :=by
   by_cases hj:j=l.length-1
   ·subst hj;exact zm _
   ·exact yV (Cp hr (by omega) (by omega))
  omega
def Fu.ok{f:aQ}{top:Bool}{x:ay}{l:aa ay}{s:CS}(h:Fu f top (x::l) s):CT f (top&&l.isEmpty) x:=jB (dH h.hc).1
def Fu.pos{f:aQ}{top:Bool}{x:ay}{l:aa ay}{s:CS}(h:Fu f top (x::l) s):(0<=(cC x.aD).2.1/\0<=(cC x.aD).2.2)/\(0<=(cC x.aJ).2.1/\0<=(cC x.aJ).2.2)/\(0<=(cC l).2.1/\0<=(cC l).2.2):=by
 obtain⟨h1,h2,h3,h4⟩:=dH h.hc;exact⟨dx f _ _ _ (zC _) h2,dx f _ _ _ (zC _) h3,dx f _ _ _ (zC _) h4⟩
def Fu.next{f:aQ}(hv:bY f.ai){hs:aa Int}{top:Bool}{x:ay}{l:aa ay}{s:CS}(h:Fu f top (x::l) s):Fu f top l (sx f hs (iY f hs x.aD) (iY f hs x.aJ) x s):=by
 obtain⟨h1,h2,h3,h4⟩:=dH h.hc;have ho:=h.ok;obtain⟨p1,p2,p3⟩:=h.pos;have ht:=h.t;have hou:=h.o;have h0:=h.t0;rw[(ig x l).2]at ht;rw[(ig x l).1]at hou;by_cases h6:x.bN=6
 ·obtain⟨q1,q2,q3,q4,q5⟩:=ho.uM h6;have hl:l=[]:=by
   cases l with
   |nil=>rfl
   |cons a l=>simp at q1
  subst hl;have hu:uO x=(0,x.aN):=by unfold uO;simp[h6]
  have hc:=ho.cost;rw[hu]at ht hou;rw[show cC []=(0,0,0)by rw[cC]]at ht hou;dsimp only at ht hou;have hb:=aa4 (t:=s.time+x.aN) q4 q2.1 q5 (by omega) (by omega);unfold sx;simp only[h6,Int.reduceEq,bZ,dA];exact⟨h4,h.vals,hb.1,by rw[cC];dsimp only;omega,by rw[cC];dsimp only;omega⟩
 ·have i:=Gu hv (hs:=hs) ho h6 p1 p2 (mW hv hs _ x.aD (zC _) h2) (mW hv hs _ x.aJ (zC _) h3) s h.vals;have q1:=i.outs;have q2:=i.time;exact⟨h4,i.vals,by omega,by omega,by omega⟩
def Fu.sub{f:aQ}{top:Bool}{x:ay}{l:aa ay}{s:CS}(h:Fu f top (x::l) s)(h3:x.bN=3):Fu f I x.aD (s.add x.aN)/\Fu f I x.aJ (s.add x.aN):=by
 obtain⟨g1,g2,g3,g4⟩:=dH h.hc;have ho:=h.ok;obtain⟨p1,p2,p3⟩:=h.pos;have ht:=h.t;have hou:=h.o;have h0:=h.t0;have hc:=ho.cost;rw[(ig x l).2]at ht;rw[(ig x l).1]at hou;have hu:uO x=(max (cC x.aD).2.1 (cC x.aJ).2.1,x.aN+max (cC x.aD).2.2 (cC x.aJ).2.2):=by unfold uO;simp[h3]
 rw[hu]at ht hou;dsimp only at ht hou;refine⟨⟨g2,h.vals,?_,?_,?_⟩,⟨g3,h.vals,?_,?_,?_⟩⟩<;>simp only[CS.add]<;>omega
structure Fx (f:aQ) (x:ay) (n:Nat) (s:CS):Prop where
 hc:b9 f I x.aD=0
 term:eM f.ai I x.az=0
 cost:0<=x.aN
 vals:Fz f.ai s.vals
 t0:0<=s.time
 t:s.time+n*(x.aN+(cC x.aD).2.2)<=134217728
 o:(s.outs.length:Int)+n*(cC x.aD).2.1<=8
def Fu.loop{f:aQ}{top:Bool}{x:ay}{l:aa ay}{s:CS}(h:Fu f top (x::l) s)(h4:x.bN=4):Fx f x x.fN.toNat s:=by
 obtain⟨g1,g2,g3,g4⟩:=dH h.hc;have ho:=h.ok;obtain⟨p1,p2,p3⟩:=h.pos;have ht:=h.t;have hou:=h.o;have hn:=ho.n4 h4;rw[(ig x l).2]at ht;rw[(ig x l).1]at hou;have hu:uO x=(x.fN*(cC x.aD).2.1,x.fN*(x.aN+(cC x.aD).2.2)):=by unfold uO;simp[h4]
 rw[hu]at ht hou;dsimp only at ht hou;have e:((x.fN.toNat:Nat):Int)=x.fN:=by omega
 exact⟨g2,ho.term,ho.cost.1,h.vals,h.t0,by rw[e];omega,by rw[e];omega⟩
def Fx.body{f:aQ}{x:ay}{n:Nat}{s:CS}(h:Fx f x (n+1) s):Fu f I x.aD (s.add x.aN):=by
 have p:=dx f _ _ _ (zC _) h.hc;have ht:=h.t;have ho:=h.o;have hc:=h.cost;have h0:=h.t0;rw[wE,zQ]at ht ho;have e1:0<=(n:Int)*(x.aN+(cC x.aD).2.2):=zB (by omega) (by omega);have e2:0<=(n:Int)*(cC x.aD).2.1:=zB (by omega) (by omega);simp only[Int.natCast_one,zU]at ht ho;refine⟨h.hc,h.vals,?_,?_,?_⟩<;>simp only[CS.add]<;>omega
def Fx.next{f:aQ}(hv:bY f.ai)(hs:aa Int){x:ay}{n:Nat}{s:CS}(h:Fx f x (n+1) s):Fx f x n (iY f hs x.aD (s.add x.aN)):=by
 have i:=mW hv hs _ x.aD (zC _) h.hc (s.add x.aN) h.vals;have ht:=h.t;have ho:=h.o;have hc:=h.cost;have h0:=h.t0;have q1:=i.outs;have q2:=i.time;rw[wE,zQ]at ht ho;simp only[Int.natCast_one,zU]at ht ho;simp only[CS.add]at q1 q2;exact⟨h.hc,h.term,h.cost,i.vals,by simp only[CS.add];omega,by simp only[CS.add];omega,by simp only[CS.add];omega⟩
def iP(s:CS):bD:=⟨s.vals,s.outs,s.time⟩
def drop_cons{α:Type}[Inhabited α]{l:aa α}{i:Nat}(h:i<l.length):l.drop i=l[i]! ::l.drop (i+1):=by rw[getElem!_pos l i h];exact wj h
def alD(M96:aQ->(aa Int)->(aa ay)->bD->ah B5)(M179:aQ->(aa Int)->ay->bD->ah lG){f:aQ}(hv:bY f.ai)(hn:f.ai.length<=1000000){hs:aa Int}(hh:hs.length=f.ak.length)
  {top:Bool} {l:aa ay} (hl:l.length<=1000000) {s:CS} (h:Fu f top l s)
  (h1:∀x∈l,∀s,Fu f I x.aD s->M96 f hs x.aD (iP s)=Q (iP (iY f hs x.aD s)))
  (h2:∀x∈l,∀s,Fu f I x.aJ s->M96 f hs x.aJ (iP s)=Q (iP (iY f hs x.aJ s)))
  (h3:∀x∈l,∀s,x.bN=4->Fx f x x.fN.toNat s->M179 f hs x (iP s)=Q (iP (qE (iY f hs x.aD) x.az x.aN x.fN.toNat s))):
  s96 M96 M179 f hs l (iP s)=Q (iP (iY f hs l s)):=by
 obtain⟨v,e1,hV⟩:=dD (cL:=P6 M96 M179) l.length (λi (b:CS×Int)=>⟨hs,l,(i:Int),f,iP b.1,⟨[],[],b.2⟩⟩)
  (λi b=>Fu f top (l.drop i) b.1/\iY f hs (l.drop i) b.1=iY f hs l s) (λi b hi hb=>by
  obtain⟨b,z⟩:=b;obtain⟨hb,hr⟩:=hb;dsimp only at hb hr;rw[drop_cons hi]at hb hr;rw[Au]at hr;have hm:=aV hi;generalize hx:l[i]! =x at*;refine⟨(sx f hs (iY f hs x.aD) (iY f hs x.aJ) x b,z),?_,hb.next hv,hr⟩;have ho:=hb.ok;obtain⟨ev,ev1,ev2⟩:=Cs hv hb.vals I x.az ho.term;have hw:=gH hi hl;have i1:(i:Int)<(l.length:Int):=by omega
  have i2:(0:Int)<=(i:Int):=by omega
  have hc:=ho.cost;have ht:=hb.t;have ht0:=hb.t0;have hp:=hb.pos.2.2.2;have hou:=hb.o;have hpo:=hb.pos.2.2.1;have htu:b.time+x.aN<=134217728\/x.bN=4:=by
   rw[(ig x _).2]at ht;by_cases q4:x.bN=4
   ·exact .inr q4
   ·left;have:x.aN<=(uO x).2:=by
     unfold uO;have:=hb.pos;split
     ·exact zm _
     ·split
      ·dsimp only;omega
      ·first|(rw[bF q4];exact zm _)|exact zm _
    omega
  have hou8:(b.outs.length:Int)<=8:=by
   rw[(ig x _).1]at hou;have:0<=(uO x).1:=by
    unfold uO;have:=hb.pos;split
    ·show (0:Int)<=1;decide
    ·split
     ·dsimp only;omega
     ·split
      ·rename_i q;exact zB (ho.n4 q).1 this.1.1
      ·exact zm _
   omega
  unfold P6;dsimp only[iP];simp only[zi,i1,i2,hx,cX,bC,dZ,bZ,ay.eta,ax.eta,hw];unfold sx;by_cases d4:x.bN=4
  ·have e:=h3 x hm b d4 (hb.loop d4);dsimp only[iP]at e;simp only[d4,Int.reduceEq,cX,bC,bZ,e]
  have htw:i64.wrap (b.time+x.aN)=b.time+x.aN:=aG;simp only[htw];by_cases d0:x.bN=0
  ·obtain⟨v1,v2⟩:=ho.var (.inl d0);simp only[d0,Int.reduceEq,cX,fW,bC,bz,bZ,dA,ev,Ql hb.vals hn v1 v2];rfl
  by_cases d1:x.bN=1
  ·simp only[d1,Int.reduceEq,cX,fW,bC,bz,bZ,dA,ev,ym];rw[gG,bt (by simp;omega)]
  by_cases d5:x.bN=5
  ·obtain⟨v1,v2⟩:=ho.var (.inr d5);obtain⟨n1,n2⟩:=ho.n5 d5;simp only[d5,Int.reduceEq,cX,fW,bC,bz,bZ,dA,Ql hb.vals hn v1 v2];rw[gG];rfl
  by_cases d3:x.bN=3
  ·have e1:=h1 x hm _ (hb.sub d3).1;have e2:=h2 x hm _ (hb.sub d3).2;dsimp only[iP,CS.add]at e1 e2;simp only[d3,Int.reduceEq,cX,fW,bC,bz,bZ,dA,ev,e1,e2];by_cases hz:dY b.vals x.az=0
   ·simp only[hz,cX,bC,bz,ne_eq,not_true,dA];rfl
   ·simp only[hz,fW,bC,bz,ne_eq,not_false_eq_true,bZ];rfl
  by_cases d6:x.bN=6
  ·obtain⟨_,q2,_,q4,_⟩:=ho.uM d6;simp only[d6,Int.reduceEq,cX,fW,bC,bz,bZ,dA,ade x.aK _ (by omega) q4]
  ·simp only[d0,d1,d3,d4,d5,d6,fW,bz,dA];rfl) (λb _=>by unfold P6;simp) (b:=(s,0)) ⟨by rw[wm];exact h,by rw[wm]⟩
 obtain⟨b,z⟩:=v;have e1':QG M96 M179 ⟨hs,l,0,f,iP s,⟨[],[],0⟩⟩=Q ⟨hs,l,(l.length:Int),f,iP b,⟨[],[],z⟩⟩:=e1;have hr:=hV.2;dsimp only at hr;rw[List.drop_length,uc]at hr;unfold s96;rw[e1',<-hr];dsimp only;rw[fO,bz]
def ags(M96:aQ->(aa Int)->(aa ay)->bD->ah B5)(M179:aQ->(aa Int)->ay->bD->ah lG){f:aQ}(hv:bY f.ai){hs:aa Int}{x:ay}(hN:0<=x.fN/\x.fN<=4096){s:CS}(h:Fx f x x.fN.toNat s)
  (h1:∀s,Fu f I x.aD s->M96 f hs x.aD (iP s)=Q (iP (iY f hs x.aD s))):
  aaB M96 M179 f hs x (iP s)=Q (iP (qE (iY f hs x.aD) x.az x.aN x.fN.toNat s)):=by
 obtain⟨i,v,e1,hV,hc⟩:=oB (cL:=EE M96 M179) x.fN.toNat (λi (b:CS×Int)=>⟨hs,(i:Int),f,x,iP b.1,⟨[],[],b.2⟩⟩)
  (λi b=>Fx f x (x.fN.toNat-i) b.1/\qE (iY f hs x.aD) x.az x.aN (x.fN.toNat-i) b.1=qE (iY f hs x.aD) x.az x.aN x.fN.toNat s) (λi b=>dY b.1.vals x.az=0) (λi b hi hb=>by
  obtain⟨b,z⟩:=b;obtain⟨hb,hr⟩:=hb;dsimp only at hb hr;obtain⟨k,hk⟩:∃k,x.fN.toNat-i=k+1:=⟨x.fN.toNat-i-1,by omega⟩;have hk2:x.fN.toNat-(i+1)=k:=by omega
  rw[hk]at hb hr;rw[qE]at hr;obtain⟨ev,_,_⟩:=Cs hv hb.vals I x.az hb.term;have hw:i64.wrap ((i:Int)+1)=((i+1:Nat):Int):=by rw[aG];omega
  have i1:(i:Int)<x.fN:=by omega
  have hbb:=hb.body;have ht:=hbb.t;have hp:=dx f _ _ _ (zC _) hb.hc;have h0:=hb.t0;have hcc:=hb.cost;have htw:i64.wrap (b.time+x.aN)=b.time+x.aN:=by simp only[CS.add]at ht;exact aG
  have e:=h1 _ hbb;dsimp only[iP,CS.add]at e;by_cases hz:dY b.vals x.az=0
  ·refine .inr ⟨?_,hz⟩;unfold EE;dsimp only[iP];simp only[i1,cX,bC,ax.eta,ev,hz]
  ·rw[bF hz]at hr;refine .inl ⟨(iY f hs x.aD (b.add x.aN),z),?_,by rw[hk2];exact hb.next hv hs,by rw[hk2];exact hr⟩;unfold EE;dsimp only[iP];simp only[i1,cX,bC,ax.eta,ev,hz,fW,bz,htw,e,ay.eta,hw];rfl) (λb _=>by
   unfold EE;dsimp only;rw[fO];rfl) (b:=(s,0)) ⟨h,rfl⟩
 obtain⟨b,z⟩:=v;have e1':IL M96 M179 ⟨hs,0,f,x,iP s,⟨[],[],0⟩⟩=Q ⟨hs,(i:Int),f,x,iP b,⟨[],[],z⟩⟩:=e1;unfold aaB;rw[ax.eta,ay.eta];rw[e1'];obtain⟨hb,hr⟩:=hV;dsimp only at hb hr;rw[<-hr];rcases hc with rfl|⟨hi,hz⟩
 ·dsimp only;rw[fO,bz,xU,qE]
 ·obtain⟨k,hk⟩:∃k,x.fN.toNat-i=k+1:=⟨x.fN.toNat-i-1,by omega⟩;rw[hk]at hb ⊢;dsimp only at hz;rw[qE,bt hz];obtain⟨ev,_,_⟩:=Cs hv hb.vals I x.az hb.term;have ht:=hb.body.t;have hp:=dx f _ _ _ (zC _) hb.hc;have h0:=hb.t0;have hcc:=hb.cost;have htw:i64.wrap (b.time+x.aN)=b.time+x.aN:=by simp only[CS.add]at ht;exact aG
  dsimp only[iP];rw[rZ,bC,ax.eta,ev];simp only[hz,cX,bC,htw];rfl
def tO{x:ay}{l:aa ay}(hx:x∈l):fP x.aD<=fP l/\fP x.aJ<=fP l:=by have:=B4 hx;have:=ou x;omega
def tP{f:aQ}{x:ay}:∀{top:Bool} {l:aa ay},b9 f top l=0->x∈l->∃last,CT f last x
 |_,[],_,h=>by cases h
 |_,y::l,hc,h=>by
  obtain⟨h1,h2,h3,h4⟩:=dH hc;rcases zF.1 h with rfl|h
  ·exact⟨_,jB h1⟩
  ·exact tP h4 h
def XU{f:aQ}(hv:bY f.ai)(hn:f.ai.length<=1000000){hs:aa Int}(hh:hs.length=f.ak.length):∀n:Nat,
  (∀(top:Bool) (l:aa ay) (s:CS),2*zk l<n->fP l<=1000000->Fu f top l s->ZO n f hs l (iP s)=Q (iP (iY f hs l s)))/\
  (∀(x:ay) (s:CS),2*zk x.aD+1<n->fP x.aD<=1000000->(0<=x.fN/\x.fN<=4096)->Fx f x x.fN.toNat s->J4 n f hs x (iP s)=Q (iP (qE (iY f hs x.aD) x.az x.aN x.fN.toNat s)))
 |0=>⟨λ_ _ _ h=>by omega,λ_ _ h=>by omega⟩
 |n+1=>by
  obtain⟨i1,i2⟩:=XU hv hn hh n;refine⟨λtop l s h hN hb0=> ?_,λx s h hN hx hb=> ?_⟩
  ·refine alD (ZO n) (J4 n) hv hn hh (zJ (jW l) hN) hb0 (λx hx s hb=> ?_) (λx hx s hb=> ?_) (λx hx s h4 hb=> ?_)
   ·have:=(aX hx).1;exact i1 I x.aD s (by omega) (zJ (tO hx).1 hN) hb
   ·have:=(aX hx).2;exact i1 I x.aJ s (by omega) (zJ (tO hx).2 hN) hb
   ·have:=(aX hx).1;exact i2 x s (by omega) (zJ (tO hx).1 hN) ((tP hb0.hc hx).choose_spec.n4 h4) hb
  ·exact ags (ZO n) (J4 n) hv hx hb (λs hb=>i1 I x.aD s (by omega) hN hb)
def iT(n:Nat)(g:Nat->aH):aa aH:=(zP n).map g
def dR(n:Nat)(g:Nat->aH):(iT n g).length=n:=by simp[iT]
def fK{n:Nat}{g:Nat->aH}{i:Nat}(h:i<n):(iT n g)[i]! =g i:=by
 rw[getElem!_pos _ i (by rw[dR];exact h)];simp[iT]
def KK(n:Nat)(g:Nat->aH):iT (n+1) g=iT n g++[g n]:=by simp[iT,List.range_succ]
def iz{n:Nat}{g g':Nat->aH}(h:∀i,i<n->g i=g' i):iT n g=iT n g':=
 z7 λi hi=>h i (List.mem_range.1 hi)
def HG{n:Nat}{g:Nat->aH}{i:Nat}(x:aH):(iT n g).set i x=iT n (λj=>if j=i then x else g j):=by
 apply wR
 ·simp[iT]
 ·intro j h1 h2;simp only[iT,wF,ye,wQ];by_cases c:i=j
  ·subst c;simp
  ·rw[bF c,bF (λe=>c e.symm)]
def YR(l:aa aH):iT l.length (λi=>l[i]!)=l:=by
 apply wR
 ·simp[iT]
 ·intro j h1 h2;simp only[iT,ye,wQ];exact getElem!_pos l j h2
def OB{n:Nat}{g:Nat->aH}{l:aa aH}(h1:l.length=n)(h2:∀i,i<n->g i=l[i]!):iT n g=l:=by
 subst h1;rw[iz h2,YR]
def tr(s:au):aM:=⟨s.ai,s.aC,s.aA,s.aF⟩
structure dW (n m:Nat) (s:au):Prop where
 len:s.ai.length=n
 vars:∀i,i<n->NN s.ai[i]!
 count:NN s.aC
 sl:s.aA.length<=m
 slots:∀i,i<s.aA.length->NN s.aA[i]!
 time:NN s.aF
def dW.weak{n m m':Nat}{s:au}(h:dW n m s)(k:m<=m'):dW n m' s:=⟨h.len,h.vars,h.count,zJ h.sl k,h.slots,h.time⟩
def ij(s:au)(c:Int):au:=⟨s.ai,s.aC,s.aA,iq 8 s.aF (dN c)⟩
def Hl(f:aQ)(s:au)(v:Int)(n:aH):au:=⟨s.ai.set v.toNat (fT n f.ai[v.toNat]!.ag f.ai[v.toNat]!.af),s.aC,s.aA,s.aF⟩
def AZ(s:au)(v:aH):au:=
 ⟨s.ai,iq 8 s.aC (dN 1),iT s.aA.length (λk=>if cu s.aC k=G then cc s.aA[k]! v else s.aA[k]!)++[v],s.aF⟩
def Yq(a b:aa aH)(i:Nat):aH:=if a.length<=i then b[i]! else if b.length<=i then a[i]! else cc a[i]! b[i]!
def iC(a b:au):au:=
 ⟨iT a.ai.length (λi=>cc a.ai[i]! b.ai[i]!),cc a.aC b.aC,iT (max a.aA.length b.aA.length) (Yq a.aA b.aA),cc a.aF b.aF⟩
def jy{c:Int}(h:bX c):NN (dN c):=NN.one h.1 h.2
def jZ{n m:Nat}{s:au}(h:dW n m s){c:Int}(hc:bX c):dW n m (ij s c):=
 ⟨h.len,h.vars,h.count,h.sl,h.slots,let ⟨_,_,_,k⟩:=vp 8 h.time (jy hc);k⟩
def B8{f:aQ}{n m:Nat}{s:au}(h:dW n m s){v:Int}{x:aH}(hx:NN x):dW n m (Hl f s v x):=by
 refine⟨?_,λi hi=> ?_,h.count,h.sl,h.slots,h.time⟩
 ·show (s.ai.set _ _).length=n;rw[yc];exact h.len
 ·show NN (s.ai.set _ _)[i]!;have hl:=h.len;rw[getElem!_pos _ i (by rw[yc];omega),wF];split
  ·exact let ⟨_,_,_,k,_⟩:=iu hx f.ai[v.toNat]!.ag f.ai[v.toNat]!.af;k
  ·have:=h.vars i hi;rw[getElem!_pos _ i (by omega)]at this;exact this
def Se{n m:Nat}{s:au}(h:dW n m s){x:aH}(hx:NN x):dW n (m+1) (AZ s x):=by
 have hs:=h.sl;have hl:(AZ s x).aA.length=s.aA.length+1:=by simp[AZ,dR]
 refine⟨h.len,h.vars,let ⟨_,_,_,k⟩:=vp 8 h.count (jy (c:=1) ⟨by decide,by decide⟩);k,by omega,λi hi=> ?_,h.time⟩;rw[hl]at hi;have hlt:=dR s.aA.length (λk=>if cu s.aC k=G then cc s.aA[k]! x else s.aA[k]!);show NN (iT s.aA.length (λk=>if cu s.aC k=G then cc s.aA[k]! x else s.aA[k]!)++[x])[i]!;by_cases c:i<s.aA.length
 ·have hg:=fK (g:=(λk=>if cu s.aC k=G then cc s.aA[k]! x else s.aA[k]!)) c;generalize iT s.aA.length (λk=>if cu s.aC k=G then cc s.aA[k]! x else s.aA[k]!)=T at*;rw[getElem!_pos _ i (by rw[zq];omega),xG (by omega),<-getElem!_pos T i (by omega),hg];split
  ·exact jN (h.slots i c) hx
  ·exact h.slots i c
 ·generalize iT s.aA.length (λk=>if cu s.aC k=G then cc s.aA[k]! x else s.aA[k]!)=T at*;rw[getElem!_pos _ i (by rw[zq,yL];omega),xm (by omega)];simpa using hx
def ai4{a b:aa aH}(ha:∀i,i<a.length->NN a[i]!)(hb:∀i,i<b.length->NN b[i]!){i:Nat}(hi:i<max a.length b.length):NN (Yq a b i):=by
 unfold Yq;split
 ·exact hb i (by omega)
 split
 ·exact ha i (by omega)
 ·exact jN (ha i (by omega)) (hb i (by omega))
def pe{n m:Nat}{s t:au}(h:dW n m s)(k:dW n m t):dW n m (iC s t):=by
 have h1:=h.len;have h2:=h.sl;have k2:=k.sl;refine⟨by show (iT _ _).length=n;rw[dR];exact h1,λi hi=> ?_,jN h.count k.count,by show (iT _ _).length<=m;rw[dR];omega,λi hi=> ?_,jN h.time k.time⟩
 ·show NN (iT _ _)[i]!;rw[fK (by omega)];exact jN (h.vars i hi) (k.vars i hi)
 ·have hi:i<(iT (max s.aA.length t.aA.length) (Yq s.aA t.aA)).length:=hi;rw[dR]at hi;show NN (iT _ _)[i]!;rw[fK hi];exact ai4 h.slots k.slots hi
def nH(i:aH)(ks:aa aH):Nat->aH
 |0=>cy
 |n+1=>if cu i n=G then cc (nH i ks n) ks[n]! else nH i ks n
def Ki(vars:aa aH)(t:ax)(k:aa aH):aH:=
 if t.bf=0 then dN t.fN else if t.bf=24 then vars[t.fN.toNat]! else if t.bf=6 then(kz 6 k[0]!).1 else if t.bf=7 then(kz 7 k[0]!).1
 else if t.bf=23 then(if cu k[0]! 0=I then k[1]! else if cl k[0]! =I then k[2]! else cc k[1]! k[2]!)
 else if t.bf=25 then nH (fT k[0]! 0 ((k.length:Int)-2)) (k.drop 1) (k.drop 1).length else iq t.bf k[0]! k[1]!
def cA(vars:aa aH)(t:ax):aH:=Ki vars t (t.aq.attach.map λk=>cA vars k.1)
termination_by zk t
decreasing_by exact ax.dU k.2
def IB(vars:aa aH)(t:ax):cA vars t=Ki vars t (t.aq.map (cA vars)):=by
 rw[cA];rw[show (t.aq.attach.map λk=>cA vars k.1)=t.aq.map (cA vars)from we (f:=cA vars)]
def mapA{vars:aa aH}{t:ax}{i:Nat}(h:i<t.aq.length):(t.aq.map (cA vars))[i]! =cA vars t.aq[i]! :=by
 rw[getElem!_pos _ i (by simpa using h),getElem!_pos _ i h,ye]
def uj{i:aH}{ks:aa aH}(hk:∀j,j<ks.length->NN ks[j]!):∀n,n<=ks.length->NV (nH i ks n)/\((∃j,j<n/\cu i (j:Nat)=G)->NN (nH i ks n))
 |0,_=>⟨.inl rfl,λ⟨j,h,_⟩=>by omega⟩
 |n+1,hn=>by
  obtain⟨h1,h2⟩:=uj (i:=i) hk n (by omega);rw[nH];by_cases c:cu i (n:Nat)=G
  ·rw[bt c];have hv:=ek h1 (.inr (hk n (by omega)));have:NN (cc (nH i ks n) ks[n]!):=by
    rcases h1 with e|h
    ·rw[e,gK];exact hk n (by omega)
    ·exact jN h (hk n (by omega))
   exact⟨hv,λ_=>this⟩
  ·rw[bF c];refine⟨h1,λ⟨j,h,k⟩=>h2 ⟨j,?_,k⟩⟩;by_cases e:j=n
   ·subst e;exact cR k c
   ·omega
def GG{a:aH}(ha:NN a){n:Nat}(h0:1<=n)(hn:n<=1000000):∃j:Nat,j<n/\cu (fT a 0 ((n:Int)-1)) (j:Nat)=G:=by
 obtain⟨_,_,_,hv,hr⟩:=iu ha 0 ((n:Int)-1);have hr:=hr ⟨by decide,by decide⟩ ⟨by omega,by omega⟩ (by omega);rcases hr with ⟨e,_⟩|hr
 ·exact cR e hv.ne
 ·obtain⟨x,_,h2⟩:=hr.lo;refine⟨(fT a 0 ((n:Int)-1)).ag.toNat,by omega,?_⟩;rw[show (((fT a 0 ((n:Int)-1)).ag.toNat:Nat):Int)=(fT a 0 ((n:Int)-1)).ag by omega];exact e9 ⟨zm _,hv.le,by rw[Int.sub_self];exact y5 _⟩
def rF(x:Int):Rf x=dN x:=rfl
def uI{vars:aa aS}{t:ax}(h:(eH vars t).isSome=G):∀k∈t.aq,(eH vars k).isSome=G:=λk hk=>by
 rw[kQ]at h;cases ha:jG (t.aq.map (eH vars))with
 |none=>rw[ha]at h;cases h
 |some r=>
  have hr:=jO ha;have hm:eH vars k∈r.map Q:=by rw[<-hr];exact vg hk
  obtain⟨s,h1,h2⟩:=zN.1 hm;rw[<-h2];rfl
def abH{vars:aa aS}{t:ax}(h0:t.bf=0)(h:(eH vars t).isSome=G):bX t.fN:=by
 rw[kQ]at h;cases ha:jG (t.aq.map (eH vars))with
 |none=>rw[ha]at h;cases h
 |some r=>
  rw[ha]at h;dsimp only at h;split at h
  ·rename_i hl;unfold sj dV at hl;simp only[h0,bZ,zn,decide_eq_true_eq]at hl;unfold bX;omega
  ·cases h
def VV(M:ax->au->ah pq){vars:aa aH}{st:au}{ks:aa ax}(hl:ks.length<=1000000)(hK:∀j,j<ks.length->M ks[j]! st=Q (cA vars ks[j]!,st)/\NN (cA vars ks[j]!)){H:aH}(hH:NN H)(z:aH):
  Io M ⟨ks,(ks.length:Int),0,st,z,H,cy⟩=Q ⟨ks,(ks.length:Int),(ks.length:Int),st,z,H,nH H (ks.map (cA vars)) ks.length⟩:=by
 have hmap:∀j,j<ks.length->(ks.map (cA vars))[j]! =cA vars ks[j]! :=λj h=>by rw[getElem!_pos _ j (by simpa using h),getElem!_pos _ j h,ye]
 have hkn:∀j,j<(ks.map (cA vars)).length->NN (ks.map (cA vars))[j]! :=λj h=>by
  have h:j<ks.length:=by simpa using h
  rw[hmap j h];exact(hK j h).2
 obtain⟨v,e1,hv⟩:=dD (cL:=Jd M) ks.length (λi (_:Unit)=>⟨ks,(ks.length:Int),(i:Int),st,z,H,nH H (ks.map (cA vars)) i⟩) (λi _=>True) (λi b hi _=>by
  have hw:=gH hi hl;obtain⟨k1,k2⟩:=hK i hi;have i1:(i:Int)<(ks.length:Int):=by omega
  have i2:(0:Int)<=(i:Int):=by omega
  refine⟨(),?_,trivial⟩;unfold Jd;by_cases hc:cu H (i:Nat)=G
  ·simp only[zi,i1,i2,cX,bC,dZ,bZ,lD (.inr hH),hc,ax.eta,k1,nV (uj hkn i (by simp;omega)).1 (.inr k2),hw,nH,hmap i hi]
  ·have hc:cu H (i:Nat)=I:=by simpa using hc
   simp only[zi,i1,i2,cX,bC,bz,dZ,bZ,lD (.inr hH),hc,hw,nH,yS,dA]) (λb _=>by unfold Jd;simp) (b:=()) trivial
 exact e1
def ajs(M:ax->au->ah pq){vars:aa aS}{inp:Bool}{m:Nat}{st:au}(hst:dW vars.length m st)(t:ax)(hf:cZ vars inp t=G)(hs:(eH vars t).isSome=G)
  (hM:∀k∈t.aq,M k st=Q (cA st.ai k,st)/\NN (cA st.ai k)):adg M t st=Q (cA st.ai t,st)/\NN (cA st.ai t):=by
 obtain⟨⟨g1,g2,g3⟩,h24⟩:=BN hf;have K:∀i,i<t.aq.length->M t.aq[i]! st=Q (cA st.ai t.aq[i]!,st)/\NN (cA st.ai t.aq[i]!):=λi hi=>hM _ (aV hi);rw[IB];unfold adg Ki;simp only[ax.eta,zL];rcases tU t.bf g1 with ⟨h,e⟩|⟨h,e⟩|⟨h,e⟩|⟨h,e⟩|⟨h,e⟩<;>rw[e]at g2 g3<;>dsimp only at g2 g3
 ·rcases h with h|h
  ·simp only[h,cX,bC,bZ,rF];exact⟨trivial,jy (abH h hs)⟩
  ·obtain⟨q1,q2⟩:=h24 h;have hl:=hst.len;simp only[h,Int.reduceEq,fW,cX,bC,bz,bZ,dA];rw[gG];exact⟨rfl,hst.vars _ (by omega)⟩
 ·obtain⟨k1,k2⟩:=K 0 (by omega);have m0:=mapA (vars:=st.ai) (show 0<t.aq.length by omega);have i1:(t.aq.length:Int)=1:=by omega
  rcases h with h|h
  ·simp only[h,Int.reduceEq,fW,cX,bC,bz,i1,bZ,dA,k1,m0,dZ,Tc (.inr k2),Int.reduceLT,Int.reduceLE,true_and];exact FW _ k2
  ·simp only[h,Int.reduceEq,fW,cX,bC,bz,i1,bZ,dA,k1,m0,dZ,Tc (.inr k2),Int.reduceLT,Int.reduceLE,true_and];exact FW _ k2
 ·obtain⟨k1,k2⟩:=K 0 (by omega);obtain⟨l1,l2⟩:=K 1 (by omega);have m0:=mapA (vars:=st.ai) (show 0<t.aq.length by omega);have m1:=mapA (vars:=st.ai) (show 1<t.aq.length by omega);have hlen:(t.aq.length:Int)=2:=by omega
  obtain⟨c,hb,_,hn⟩:=vp t.bf k2 l2;have n0:t.bf≠0:=by omega
  have n1:t.bf≠24:=by omega
  have n2:t.bf≠6:=by omega
  have n3:t.bf≠7:=by omega
  have n4:t.bf≠23:=by omega
  have n5:t.bf≠25:=by omega
  simp only[n0,n1,n2,n3,n4,n5,fW,bz,hlen,dA,k1,l1,hb,m0,m1,Int.reduceEq,Int.reduceLT,Int.reduceLE,dZ,bZ,true_and];exact hn
 ·obtain⟨k1,k2⟩:=K 0 (by omega);obtain⟨l1,l2⟩:=K 1 (by omega);obtain⟨p1,p2⟩:=K 2 (by omega);have m0:=mapA (vars:=st.ai) (show 0<t.aq.length by omega);have m1:=mapA (vars:=st.ai) (show 1<t.aq.length by omega);have m2:=mapA (vars:=st.ai) (show 2<t.aq.length by omega);have hlen:(t.aq.length:Int)=3:=by omega
  simp only[h,Int.reduceEq,fW,cX,bC,bz,hlen,bZ,dA,k1,l1,p1,m0,m1,m2,Cn (.inr k2),nV (.inr l2) (.inr p2),Int.reduceLT,Int.reduceLE,dZ];cases cu (cA st.ai t.aq[0]!) 0<;>cases cl (cA st.ai t.aq[0]!)
  ·exact⟨rfl,l2⟩
  ·exact⟨rfl,l2⟩
  ·exact⟨rfl,p2⟩
  ·exact⟨rfl,jN l2 p2⟩
 ·obtain⟨k1,k2⟩:=K 0 (by omega);have m0:=mapA (vars:=st.ai) (show 0<t.aq.length by omega);have w:i64.wrap ((t.aq.length:Int)-(2:Int))=(t.aq.length:Int)-(2:Int):=aG;obtain⟨c,hcl,_,hcn,_⟩:=iu k2 0 ((t.aq.length:Int)-(2:Int));obtain⟨j,hj1,hj2⟩:=GG k2 (n:=t.aq.length-1) (by omega) (by omega);rw[show (((t.aq.length-1:Nat):Int)-1)=(t.aq.length:Int)-(2:Int)by omega]at hj2;simp only[h,Int.reduceEq,fW,cX,bC,bz,bZ,dA,k1,m0,w];rw[gG,hcl];generalize fT (cA st.ai t.aq[0]!) 0 ((t.aq.length:Int)-(2:Int))=H at*;have hd:(t.aq.drop 1).length=t.aq.length-1:=yh ..;have e2:=VV M (vars:=st.ai) (st:=st) (ks:=t.aq.drop 1) (by omega) (λj hj=>hM _ (xS (aV hj))) (H:=H) hcn ⟨0,0,0⟩;dsimp only;rw[gG];rw[show agl=cy from rfl,e2];dsimp only;rw[fO,bz,<-xI,zL];refine⟨rfl,(uj (λj hj=> ?_) _ (by simp)).2 ⟨j,by omega,hj2⟩⟩;have hj:j<(t.aq.drop 1).length:=by simpa using hj
  rw[getElem!_pos _ j (by simpa using hj),ye];exact(hM _ (xS (xO ..))).2
def AU{vars:aa aS}{inp:Bool}{m:Nat}{st:au}(hst:dW vars.length m st):∀(n:Nat) (t:ax),zk t<n->cZ vars inp t=G->(eH vars t).isSome=G->N3 n t st=Q (cA st.ai t,st)/\NN (cA st.ai t)
 |0,_,h,_,_=>by omega
 |n+1,t,h,hf,hs=>ajs (N3 n) hst t hf hs (λk hk=>AU hst n k (by have:=ax.dU hk;omega) (iI hf hk) (uI hs k hk))
def nW{vars:aa aS}{inp:Bool}{t:ax}(hc:eM vars inp t=0):cZ vars inp t=G/\(eH vars t).isSome=G:=by
 unfold eM at hc;cases hf:cZ vars inp t with
 |false=>rw[hf]at hc;simp at hc
 |true=>
  rw[hf]at hc;cases hs:(eH vars t).isSome with
  |false=>rw[hs]at hc;simp at hc
  |true=>exact⟨rfl,rfl⟩
def gF{vars:aa aS}{inp:Bool}{m:Nat}{st:au}(hst:dW vars.length m st)(t:ax)(hc:eM vars inp t=0):NN (cA st.ai t):=
 (AU hst (zk t+1) t (by omega) (nW hc).1 (nW hc).2).2
end Go.Proofs.YtnfljbehcffmcaaGreat
end
